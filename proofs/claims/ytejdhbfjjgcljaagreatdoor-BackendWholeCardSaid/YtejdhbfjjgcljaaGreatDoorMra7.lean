/- Texts of mine, joined and packed by pack.py. -/
import Derived.Test.YtejdhbfjjgcljaaGreatDoorMra6
import Derived.Shelf.Spec.TrailingZeros
import Derived.OpenShut
set_option linter.all false
open Go renaming Program->dY,Value->ap,World->b7,TypeId->dJ,Addr->bc,Code->iP,madeCells->ny
open _root_ renaming Nat->N,List->M,Option->ay,Array->cw,Int->o,Bool->aK,absurd->aW,Inhabited->lN
open Bool renaming true->ak,false->ax
open Go.Obj renaming cells->bC,deferred->yc
open Go.IntKind renaming signed->Hu,bits->Hv,u64->bR,min->HS,max->HT
open Go.Instr renaming lookup->gY,mapUpdate->lx,buildSlice->dL,range->rJ
open Go.Builtin renaming append_->ey,clear_->p1,zeroCells->wu
open Go.Addr renaming add->ev,mk->cB
open Go.Proofs.Tryz renaming prog->aH
open Eq renaming mp->p3
open Go.Value renaming int->cY,pointer->hy,slice->ec,oneCell'->cT
open Int renaming tdiv->gR,toNat->wC
open List.Perm renaming cons->kc
open Go.Exit renaming normal->tt
open List renaming replicate->fX,length->iS,flatMap->wz
open Prod renaming fst->sq,snd->tv
open Function renaming comp->U6
set_option maxRecDepth 100000
noncomputable section
namespace Go.Proofs.YtejdhbfjjgcljaaGreatDoor
section
variable{u:H}{k:N}{st eJ:o}
def aqc{a b:M o}(ar:a.length=b.length)(h:∀j,j<a.length->a.getD j 0=b.getD j 0):a=b:=by apply ac6 ar;intro j h1 h2;have:=h j h1;rw[du,du,cr h1,cr h2] at this;exact this
def XX(l:M o)(i j:N)(x:o)(hi:i<l.length):(l.set i x).getD j 0=if j=i then x else l.getD j 0:=by rw[du,BX];by_cases e:i=j;subst e;rw[a1 rfl,a1 hi,a1 rfl];rfl;rw[aF e,aF (dz e),du]
structure RoundIn(ub:H)(a0 ac a2 a3:N)(k d:N)(bi k9:U)(L:M (U×M o)):Prop where
 bJ:ub.cell? ⟨a0,0,none⟩=some (.int .i64 k)
 c1:ub.cell? ⟨ac,0,none⟩=some (.int .i64 d)
 c2:ub.cell? ⟨a2,0,none⟩=some (.slice bi.a bi.n bi.c)
 fg:ub.cell? ⟨a3,0,none⟩=some (.slice k9.a k9.n k9.c)
 vs:mA ub bi L
 ok:∀c∈L,c.2.length=d/\dj c.2
 vz:L.length<=512
 an:1<=d/\d<=64
 many:1<=k/\k<=64
def spec.av2{ub:H}{a0 ac a2 a3 d:N}{bi k9:U}{L oj:M (U×M o)}{K:H->Prop}(cv:RoundIn ub a0 ac a2 a3 k d bi k9 L)(AS:fQ ub u k9 oj)(Yb:oj.length=k)(Sr:∀c∈oj,c.2.length=d/\dj c.2)
  (au:∀u' aey,fQ ub u' k9 aey->aey.map (·.2)=Ca d (L.map (·.2)) (oj.map (·.2))->K u'):C.T4 ⟨a0,0,none⟩ ⟨ac,0,none⟩ ⟨a2,0,none⟩ ⟨a3,0,none⟩ u K:=by
 obtain⟨d1,d2⟩:=cv.an
 obtain⟨b3,cu⟩:=cv.many
 have um:=cv.vz
 have b9:ub.le u:=AS.own.le
 obtain⟨cs,dD⟩:∃cs,cs=oj.map (·.2):=⟨_,rfl⟩
 obtain⟨vs,k1⟩:∃vs,vs=L.map (·.2):=⟨_,rfl⟩
 have ash:cs.length=k:=by rw[dD,de,Yb]
 have aCb:vs.length=L.length:=by rw[k1,de]
 have GK:∀v∈vs,dj v:=λv aA=>by rw[k1] at aA;obtain⟨c,I,rfl⟩:=bf.1 aA;exact(cv.ok c I).2
 have aqZ:wW oj (d:o):=⟨by omega,by omega,λc I=>⟨by have:=(Sr c I).1;omega,(Sr c I).2⟩⟩
 apply aG.T4
 refine⟨k,b9.cell cv.bJ,alJ (by omega) (by omega) λs1 dc Nl auI=>⟨k,(b9.trans Nl.own.le).cell cv.bJ,adA (by omega) (by omega) λqQ fA r1 auL=>⟨k,((b9.trans Nl.own.le).trans r1.le).cell cv.bJ,?_⟩⟩⟩
 have agY:=Nl.mono r1.le
 have aqf:∀{e k:N} {x:U} {xs:M ap},aJ u dc e k x xs->dH x qQ:=λJ=>aJ.eB J (H.le.refl dc) r1
 refine⟨λx w=>0<=x/\x<=k/\∃S,fQ u w s1 S/\S.length=k/\(∀(a:N) c,S[a]?=some c->((a:o)<x->c.2=fX d 0))/\aJ u w 3 1 qQ ((fX k (0:o)).flatMap encI)/\dH s1 qQ/\∀c∈S,dH c.1 qQ,λx _=>((k:o)-x).toNat,
  ⟨by omega,by omega,_,agY,by simp,λa c _ h=>by omega,by simpa using r1.weaken Nl.own.le,aqf Nl.own,λc I g W=>by rw[(u3.1 I).2] at W;simp[U.aj] at W⟩,?_⟩
 rintro x w ⟨bL,dC,S,bl,uf,Dg,iL,FR,JI⟩
 refine⟨λJ=>⟨d,(b9.trans bl.own.le).cell cv.c1,?_⟩,λJ=>?_⟩
 refine adA (by omega) (by omega) λHX az2 aa ais=>?_
 have eR:x.toNat<S.length:=by omega
 obtain⟨p,ad,_⟩:=bl.yv.at bL (by rw[bl.len];omega)
 refine⟨p,ad,⟨bL,by omega⟩,?_⟩
 rw[show((d:N):o).toNat=d from rfl] at aa
 refine fQ.put bl aa eR ad λu' Df he=>⟨⟨by omega,by omega⟩,⟨by omega,by omega,_,Df,by rw[qK];exact uf,λa c kI SG=>?_,?_,FR,λc I=>?_⟩,by dsimp only;omega⟩
 rcases Sd kI with⟨_,rfl⟩|⟨e,kI⟩
 rfl
 exact Dg a c kI (by omega)
 exact aJ.else (iL.mono aa.le) he bl.own.fresh FR
 rcases mem_set I with rfl|⟨j,_,aP⟩
 exact(aJ.eB iL (H.le.refl w) aa).symm
 exact JI c (dK aP)
 have Ko:x.toNat=k:=by omega
 have agZ:∀(a:N) c,S[a]?=some c->c.2=fX d 0:=λa c kI=>Dg a c kI (by have:=(jM.1 kI).1;omega)
 clear Dg bL dC J Ko x agY r1 auI auL
 refine⟨bi,(b9.trans bl.own.le).cell cv.c2,?_⟩
 have aB1:=cv.vs.len
 refine⟨λx w=>0<=x/\x<=L.length/\∃(S:M (U×M o)) (cm:M o),fQ u w s1 S/\S.length=k/\(∀(a:N) c,S[a]?=some c->c.2.length=d/\∀j,j<d->c.2.getD j 0=qd (lZ cs (vs.take x.toNat) a) j)/\aJ u w 3 1 qQ (cm.flatMap encI)/\cm.length=k/\(∀a,a<k->cm.getD a 0=((lZ cs (vs.take x.toNat) a).length:N))/\dH s1 qQ/\∀c∈S,dH c.1 qQ,
  λx _=>((L.length:o)-x).toNat,⟨by omega,by omega,S,_,bl,uf,λa c kI=>?_,iL,by simp,λa aE=>?_,FR,JI⟩,?_⟩
 rw[agZ a c kI]
 refine⟨by simp,λj aP=>?_⟩
 have:lZ cs (vs.take (0:o).toNat) a=[]:=rfl
 rw[this,aml,du,Lk,a1 aP]
 rfl
 have:lZ cs (vs.take (0:o).toNat) a=[]:=rfl
 rw[this,du,Lk,a1 aE]
 rfl
 clear bl iL FR JI uf agZ S w
 rintro x w ⟨bL,dC,S,cm,bl,uf,Dg,iL,arv,Sy,FR,JI⟩
 have DH:ub.le w:=b9.trans bl.own.le
 have aBe:qQ.n=cm.length:=iL.ints.len
 refine⟨λJ=>?_,λJ=>?_⟩
 obtain⟨p,ad,v,aA,ajg,vu,ajf⟩:=(cv.vs.mono DH).at (x:=x) bL J
 obtain⟨aCQ,amW⟩:=cv.ok v ajg
 have ajj:vs[x.toNat]?=some v.2:=by rw[k1,iR,aA];rfl
 refine⟨p,ad,⟨bL,J⟩,v.1,vu,k9,DH.cell cv.fg,?_⟩
 refine spec.zo (AS.yv.mono bl.own.le) aqZ ajf amW (by omega) ?_
 have Oa:(mg (oj.map (·.2)) v.2 oj.length).1=KM cs v.2:=by unfold KM;rw[dD,de]
 rw[Oa]
 obtain⟨at',uh⟩:∃at',at'=KM cs v.2:=⟨_,rfl⟩
 have ar3:at'<k:=by rw[uh,<-ash];exact akm _ _ _ (by omega)
 rw[<-uh]
 obtain⟨pY,xL,JE⟩:=iL.ints.at (x:=(at':o)) (by omega) (by omega)
 have s7:=Sy at' ar3
 have pP:=ake cs (vs.take x.toNat) at'
 rw[gZ] at pP
 rw[zV] at JE
 refine⟨pY,xL,⟨by omega,by omega⟩,_,by unfold a8;rw[zV];exact JE,⟨by omega,by omega⟩,pY,xL,⟨by omega,by omega⟩,?_⟩
 unfold a8
 rw[zV]
 refine aJ.store (enc:=encI) nO iL (by decide) (i:=at') (by omega) (y:=cm.getD at' 0+1) (by simp[encI,cT]) xL λwR agU asq _=>⟨d,?_,?_⟩
 exact agU.le|>λh=>(b9.trans h).cell cv.c1
 have arH:fQ u wR s1 S:=bl.else asq iL.fresh FR.symm λc I=>(JI c I).symm
 have arw:∀a,a<k->(cm.set at' (cm.getD at' 0+1)).getD a 0=((lZ cs (vs.take (x+1).toNat) a).length:N):=λa aE=>by rw[XX _ _ _ _ (by omega),show(x+1).toNat=x.toNat+1 by omega,akf ajj,ez,<-uh];by_cases e:a=at';subst e;rw[a1 rfl,a1 rfl,s7];simp;rw[aF e,aF (dz e),Sy a aE];simp
 refine⟨λn w=>0<=n/\n<=d/\∃S,fQ u w s1 S/\S.length=k/\(∀(a:N) c,S[a]?=some c->c.2.length=d/\∀j,j<d->c.2.getD j 0=qd (lZ cs (vs.take x.toNat) a) j+(if a=at'/\(j:o)<n then v.2.getD j 0 else 0))/\aJ u w 3 1 qQ ((cm.set at' (cm.getD at' 0+1)).flatMap encI)/\∀c∈S,dH c.1 qQ,λn _=>((d:o)-n).toNat,
  ⟨by omega,by omega,S,arH,uf,λa c kI=>⟨(Dg a c kI).1,λj aP=>by rw[aF (by omega),(Dg a c kI).2 j aP];omega⟩,agU,JI⟩,?_⟩
 rintro n eA ⟨n0,b4,anK,FF,agX,Yt,vC,SU⟩
 refine⟨λae=>?_,λae=>?_⟩
 obtain⟨gX,gq,c,I,cH,CV,pJ⟩:=FF.yv.at (x:=(at':o)) (by omega) (by rw[FF.len];omega)
 rw[zV] at I
 obtain⟨cl,afv⟩:=Yt at' c I
 have o3:=pJ.len
 have OY:=ajf.len
 obtain⟨dy,eY,aa0⟩:=pJ.at (x:=n) n0 (by omega)
 obtain⟨lL,rp,avm⟩:=((cv.vs.ints v ajg).mono (b9.trans FF.own.le)).at (x:=n) n0 (by omega)
 have J0:n.toNat<d:=by omega
 have y4:=afv n.toNat J0
 rw[aF (by omega)] at y4
 have hU:=adP (m:=lZ cs (vs.take x.toNat) at') (λY aC=>GK Y (oa (ab4 aC))) n.toNat
 have kJ:=afr amW n.toNat
 refine⟨gX,gq,⟨by omega,by rw[FF.len];omega⟩,lL,rp,⟨n0,by omega⟩,c.1,CV,dy,eY,⟨n0,by omega⟩,_,aa0,_,avm,⟨by omega,by omega⟩,dy,eY,⟨n0,by omega⟩,?_⟩
 refine FF.alR I (j:=n.toNat) (by omega) eY λEA arI ast=>⟨⟨by omega,by omega⟩,⟨by omega,by omega,_,arI,by rw[qK];exact agX,λa Y No=>?_,aJ.else vC ast (FF.inner c cH).fresh (SU c cH),λY aC=>?_⟩,by dsimp only;omega⟩
 rcases Sd No with⟨rfl,rfl⟩|⟨e,No⟩
 refine⟨by rw[qK];exact cl,λj aP=>?_⟩
 rw[XX _ _ _ _ (by omega)]
 by_cases e:j=n.toNat
 subst e
 rw[a1 rfl,a1 ⟨rfl,by omega⟩,y4]
 omega
 rw[aF e,afv j aP]
 by_cases aB:(j:o)<n
 rw[a1 ⟨rfl,aB⟩,a1 ⟨rfl,by omega⟩]
 rw[aF (by omega),aF (by omega)]
 obtain⟨jk,z2⟩:=Yt a Y No
 refine⟨jk,λj aP=>?_⟩
 rw[z2 j aP,aF (λh=>e h.1),aF (λh=>e h.1)]
 rcases mem_set aC with rfl|⟨j,_,aP⟩
 exact SU c cH
 exact SU Y (dK aP)
 refine⟨⟨by omega,by omega⟩,⟨by omega,by omega,anK,_,FF,agX,λa Y No=>?_,vC,by rw[qK];exact arv,arw,FR,SU⟩,by dsimp only;omega⟩
 obtain⟨jk,z2⟩:=Yt a Y No
 refine⟨jk,λj aP=>?_⟩
 rw[z2 j aP,show(x+1).toNat=x.toNat+1 by omega,akf ajj,azq,<-uh]
 by_cases e:a=at'
 subst e
 rw[a1 ⟨rfl,by omega⟩,a1 rfl,azr]
 rw[aF (λh=>e h.1),aF (dz e),aml]
 have dX:vs.take x.toNat=vs:=hR (by omega)
 rw[dX] at Dg Sy
 clear J bL dC dX x
 have aq0:=AS.mono bl.own.le
 have Df:=bl.weaken b9
 have ars:=iL.weaken b9
 have aqg:∀c∈oj,dH c.1 s1/\dH c.1 qQ/\∀Y∈S,dH c.1 Y.1:=λc I=>by have J:=AS.inner c I;exact⟨aJ.eB J (H.le.refl u) bl.own,aJ.eB J (H.le.refl u) iL,λY aC=>aJ.eB J (H.le.refl u) (bl.inner Y aC)⟩
 refine⟨k,DH.cell cv.bJ,?_⟩
 let val:N->N->o:=λa j=>if lZ cs vs a=[] then(cs.getD a []).getD j 0 else qd (lZ cs vs a) j/((lZ cs vs a).length:o)
 have agn:∀{a:N} {c:U×M o},oj[a]?=some c->cs.getD a []=c.2:=λ{a c} kI=>by subst dD;rw[du,iR,kI];rfl
 refine⟨λi w=>0<=i/\i<=k/\∃D,fQ ub w k9 D/\D.map (·.1)=oj.map (·.1)/\(∀(a:N) c,D[a]?=some c->c.2.length=d/\∀j,j<d->c.2.getD j 0=if(a:o)<i then val a j else(cs.getD a []).getD j 0)/\fQ ub w s1 S/\aJ ub w 3 1 qQ (cm.flatMap encI),λi _=>((k:o)-i).toNat,
  ⟨by omega,by omega,oj,aq0,rfl,λa c kI=>⟨(Sr c (dK kI)).1,λj aP=>by rw[aF (by omega),agn kI]⟩,Df,ars⟩,?_⟩
 rintro i hL ⟨i0,i1,D,eN,St,Jq,arG,aru⟩
 have Ss:D.length=k:=by have:=ei iS St;simpa[Yb] using this
 have aqh:∀{D:M (U×M o)},D.map (·.1)=oj.map (·.1)->∀c∈D,dH c.1 s1/\dH c.1 qQ/\∀Y∈S,dH c.1 Y.1:=λ{D} St c I=>by
  have:c.1∈oj.map (·.1):=by rw[<-St];exact h7 I
  obtain⟨ni,c9,e⟩:=bf.1 this;have gv:ni.1=c.1:=e;rw[<-gv];exact aqg ni c9
 refine⟨λhi=>⟨d,(eN.own.le).cell cv.c1,?_⟩,λhi=>?_⟩
 .have as7:i.toNat<k:=by omega
  refine⟨λn w=>0<=n/\n<=d/\∃D,fQ ub w k9 D/\D.map (·.1)=oj.map (·.1)/\(∀(a:N) c,D[a]?=some c->c.2.length=d/\∀j,j<d->c.2.getD j 0=if(a:o)<i∨(a:o)=i/\(j:o)<n then val a j else(cs.getD a []).getD j 0)/\fQ ub w s1 S/\aJ ub w 3 1 qQ (cm.flatMap encI),λn _=>((d:o)-n).toNat,
   ⟨by omega,by omega,D,eN,St,λa c kI=>⟨(Jq a c kI).1,λj aP=>by rw[(Jq a c kI).2 j aP];by_cases e:(a:o)<i;rw[a1 e,a1 (.inl e)];rw[aF e,aF (by omega)]⟩,arG,aru⟩,?_⟩
  rintro n l6 ⟨n0,b4,E,pH,M8,Jr,Jx,Sx⟩;have aBb:E.length=k:=by have:=ei iS M8;simpa[Yb] using this
  refine⟨λae=>?_,λae=>⟨⟨by omega,by omega⟩,⟨by omega,by omega,E,pH,M8,λa c kI=>⟨(Jr a c kI).1,λj aP=>by rw[(Jr a c kI).2 j aP];by_cases e:(a:o)<i;rw[a1 (.inl e),a1 (by omega)];by_cases aB:(a:o)=i;rw[a1 (.inr ⟨aB,by omega⟩),a1 (by omega)];rw[aF (by omega),aF (by omega)]⟩,Jx,Sx⟩,by dsimp only;omega⟩⟩
  obtain⟨pY,xL,JE⟩:=Sx.ints.at (x:=i) i0 (by omega);have s7:=Sy i.toNat as7;have pP:=ake cs vs i.toNat;rw[s7] at JE;have next:∀{Cx:H} {F:M (U×M o)},fQ ub Cx k9 F->F.map (·.1)=oj.map (·.1)->(∀(a:N) c,F[a]?=some c->c.2.length=d/\∀j,j<d->c.2.getD j 0=if(a:o)<i∨(a:o)=i/\(j:o)<n+1 then val a j else(cs.getD a []).getD j 0)->fQ ub Cx s1 S->aJ ub Cx 3 1 qQ (cm.flatMap encI)->
    (bo (n+1))/\((0<=n+1/\n+1<=d/\∃D,fQ ub Cx k9 D/\D.map (·.1)=oj.map (·.1)/\(∀(a:N) c,D[a]?=some c->c.2.length=d/\∀j,j<d->c.2.getD j 0=if(a:o)<i∨(a:o)=i/\(j:o)<n+1 then val a j else(cs.getD a []).getD j 0)/\fQ ub Cx s1 S/\aJ ub Cx 3 1 qQ (cm.flatMap encI))/\((d:o)-(n+1)).toNat<((d:o)-n).toNat):=λh1 h2 h3 a7 bK=>⟨⟨by omega,by omega⟩,⟨by omega,by omega,_,h1,h2,h3,a7,bK⟩,by omega⟩
  refine⟨pY,xL,⟨i0,by omega⟩,_,JE,λpa=>?_,λBc=>?_⟩
  .obtain⟨gX,gq,Y,aC,TM,Mp,uK⟩:=Jx.yv.at (x:=i) i0 (by rw[Jx.len];omega);obtain⟨axp,aum,c,I,cH,CV,pJ⟩:=pH.yv.at (x:=i) i0 (by rw[pH.len];omega);obtain⟨LW,anh⟩:=Dg i.toNat Y aC;obtain⟨cl,vu⟩:=Jr i.toNat c I;have J0:n.toNat<d:=by omega
   have avv:=uK.len;have o3:=pJ.len;obtain⟨axM,aus,ajz⟩:=uK.at (x:=n) n0 (by omega);obtain⟨axq,aiN,_⟩:=pJ.at (x:=n) n0 (by omega);rw[anh n.toNat J0] at ajz;have hU:=adP (m:=lZ cs vs i.toNat) (λY aC=>GK Y (ab4 aC)) n.toNat;refine⟨gX,gq,⟨i0,by rw[Jx.len];omega⟩,pY,xL,⟨i0,by omega⟩,k9,pH.own.le.cell cv.fg,axp,aum,⟨i0,by rw[pH.len];omega⟩,c.1,CV,Y.1,Mp,axM,aus,⟨n0,by omega⟩,_,ajz,_,JE,?_⟩;refine spec.GX pa (by omega) (by omega) ⟨H.le.refl _,axq,aiN,⟨n0,by omega⟩,?_⟩;obtain⟨f1,f2,f3⟩:=aqh M8 c cH;refine pH.alR I (j:=n.toNat) (by omega) aiN λaCL aq5 ahE=>next aq5 ?_ (λa y YL=>?_) (Jx.else ahE (pH.inner c cH).fresh f1 f3) (aJ.else Sx ahE (pH.inner c cH).fresh f2);rw[<-M8,HO];apply sk;intro m;rw[BX];split;rename_i e;subst e;rw[a1 (by rw[de];omega),iR,I];rfl;rfl;have al:lZ cs vs i.toNat≠[]:=λh0=>by rw[h0] at pa;simp at pa
   rcases Sd YL with⟨rfl,rfl⟩|⟨e,YL⟩;refine⟨by rw[qK];exact cl,λj aP=>?_⟩;rw[XX _ _ _ _ (by omega)];by_cases e:j=n.toNat;subst e;rw[a1 rfl,a1 (.inr ⟨by omega,by omega⟩)];show _=if lZ cs vs i.toNat=[] then _ else _;rw[aF al];rw[aF e,vu j aP];by_cases aB:(j:o)<n;rw[a1 (.inr ⟨by omega,aB⟩),a1 (.inr ⟨by omega,by omega⟩)];rw[aF (by omega),aF (by omega)];obtain⟨jx,lF⟩:=Jr a y YL;refine⟨jx,λj aP=>?_⟩;rw[lF j aP];by_cases aB:(a:o)<i;rw[a1 (.inl aB),a1 (.inl aB)];rw[aF (by omega),aF (by omega)]
  .refine next pH M8 (λa c kI=>⟨(Jr a c kI).1,λj aP=>?_⟩) Jx Sx;have A9:lZ cs vs i.toNat=[]:=kN (by omega);rw[(Jr a c kI).2 j aP];by_cases e:(a:o)<i;rw[a1 (.inl e),a1 (.inl e)];by_cases aB:(a:o)=i;have My:a=i.toNat:=by omega
   have aA:val a j=(cs.getD a []).getD j 0:=by show(if lZ cs vs a=[] then _ else _)=_;rw[a1 (by rw[My];exact A9)]
   by_cases cW:(j:o)<n+1;by_cases fN:(j:o)<n;rw[a1 (.inr ⟨aB,fN⟩),a1 (.inr ⟨aB,cW⟩)];rw[aF (by omega),a1 (.inr ⟨aB,cW⟩),aA];rw[aF (by omega),aF (by omega)];rw[aF (by omega),aF (by omega)]
 refine au hL D eN ?_
 rw[<-dD,<-k1]
 apply sk
 intro a
 by_cases aE:a<k
 have agJ:D[a]?=some D[a]:=cr (by omega)
 obtain⟨e3,gg⟩:=Jq a _ agJ
 have agF:oj[a]?=some oj[a]:=cr (by omega)
 have hG:=(Sr _ (dK agF)).1
 rw[iR,agJ,ayf (by omega)]
 show some D[a].2=_
 congr 1
 have apN:cs.getD a []=oj[a].2:=agn agF
 refine aqc ?_ λj aP=>?_
 rw[e3]
 split
 rw[apN,hG]
 simp[zw]
 have ah4:j<d:=by omega
 rw[gg j ah4,a1 (by omega)]
 show(if lZ cs vs a=[] then _ else _)=_
 split
 rfl
 unfold zw
 rw[du,iR,P7 ah4]
 rfl
 rw[iy (by rw[de];omega),iy (by rw[adh];omega)]
abbrev PN:iP:=Lv (Tryz.f133.body.getD Go.Code.skip)
def axs:PN=.rangeFunc (.tmp 31) #[32,33] (zZ PN) (z1 PN):=by kernel_rfl
def axu(eZ:N)(i k:o)(v:H)(cV:H->Prop)(env:M (N×ap))(he:(7,hy (some ⟨eZ,0,none⟩))∈env)
  (h:(tt=tt)/\(([]:M (M ap))=[])/\(∃L3:H,(H.le L3 v)/\(∃s1:U,((H.cell? v (cB eZ 0 none))=(some (ec s1.a s1.n s1.c)))/\(∃s2:U,((H.cell? L3 (cB eZ 0 none))=(some (ec s2.a s2.n s2.c)))/\(∃k8:U,((H.cell? v (cB eZ 0 none))=(some (ec k8.a k8.n k8.c)))/\(∃zY:bc,(k8.a=(some zY))/\((((0:o)<=k)/\(k<(k8.n:o)))/\(∃tK:o,((H.cell? v (ev zY ((wC k)*1)))=(some (cY .i64 tK)))/\(∃ob:U,((H.cell? v (cB eZ 0 none))=(some (ec ob.a ob.n ob.c)))/\(∃ak6:bc,(ob.a=(some ak6))/\((((0:o)<=i)/\(i<(ob.n:o)))/\(∃am9:o,((H.cell? v (ev ak6 ((wC i)*1)))=(some (cY .i64 am9)))/\(∃ak7:bc,(s1.a=(some ak7))/\((((0:o)<=i)/\(i<(s1.n:o)))/\(H.aO v (ev ak7 ((wC i)*1)) [(cY .i64 tK)] (λ(hJ:H)=>(H.le L3 hJ)/\(∃akT:bc,(s2.a=(some akT))/\((((0:o)<=k)/\(k<(s2.n:o)))/\(H.aO hJ (ev akT ((wC k)*1)) [(cY .i64 am9)] (λ(gz:H)=>(tt=tt)/\(cV gz))))))))))))))))))))):
  IK aH 49 (zZ PN) (z1 PN) env 32 33 (.int .i64 i) (.int .i64 k) v cV:=
 IK.of (C:={P:=aH,exp:=[],wrap:=ax,ik:=ik,part:=ak}) (nR _ _) (by kernel_rfl) (by kernel_rfl) [(32,.v (.int .i64 i)),(33,.v (.int .i64 k)),(7,.ptr ⟨eZ,0,none⟩)] (by intro p ad;rcases cJ.1 ad with rfl|ad;exact⟨_,rfl,.inl ⟨rfl,rfl⟩⟩;rcases cJ.1 ad with rfl|ad;exact⟨_,rfl,.inr (.inl ⟨rfl,rfl⟩)⟩;rcases cJ.1 ad with rfl|ad;exact⟨_,rfl,.inr (.inr ⟨show(7:N)≠32 by decide,show(7:N)≠33 by decide,he⟩)⟩;cases ad) (p3 (by kernel_rfl) h)
def an9:hn aH 195=ak:=by kernel_rfl
def qb(st:o):Obj:=.cells #[.int .u64 st] 215 (0,0)
def aeD(s:N×o)(y:o×o)(aq:N×o):Prop:=∃m,s.1=m+1/\y=((m:o)+1,uR (kB s.2)%((m:o)+2))/\aq=(m,kB s.2)
def apb{n0 b4 src:N}{n:o}{ai:H}(h0:0<=n)(ae:n<=65536)(bJ:ai n0=some (.cells #[.pointer (some ⟨src,0,none⟩)] 171 (0,0)))(c1:ai b4=some (.cells #[.int .i64 n] 3 (0,0))):
  IterM aH (.func (.func 195) #[] #[.pointer (some ⟨b4,0,none⟩),.pointer (some ⟨n0,0,none⟩)]) (λy:o×o=>.int .i64 y.1) (λy=>.int .i64 y.2) src (λs:N×o=>qb s.2) aeD ((n-1).toNat,st) (λs=>s.1=0) ai:=by
 intro mu cV kW ah v K aA au
 refine⟨_,_,_,rfl,hh an9,aG.ac9 mu ⟨b4,0,none⟩ ⟨n0,0,none⟩ v K ?_⟩
 refine⟨n,H.ba ((kW _ _ aA).1 _ _ c1) 0,⟨by omega,by omega⟩,λx w=>-1<=x/\x<=65535/\∃st,cV (x.toNat,st) w,λx _=>x.toNat,⟨by omega,by omega,st,aA⟩,?_⟩
 rintro x w ⟨bL,dC,st,hw⟩
 refine⟨λJ=>?_,λJ=>au (x.toNat,st) w (by show x.toNat=0;omega) hw⟩
 obtain⟨hle,rr⟩:=kW _ _ hw
 refine⟨_,H.ba (hle _ _ bJ) 0,spec.ala rr ?_⟩
 obtain⟨aS,aB⟩:=ae3 (n:=x+1) (akx (kB st)) (by omega) (by omega)
 refine⟨⟨by omega,by omega⟩,aS,.inr ?_⟩
 rw[aB]
 have hm:x.toNat=(x.toNat-1)+1:=by omega
 have:=ah (x.toNat,st) (((x.toNat-1:N):o)+1,uR (kB st)%(((x.toNat-1:N):o)+2)) (x.toNat-1,kB st) w (λIU py=>((¬(IU=Bool.true))->K py)/\((IU=Bool.true)->(bo (x-1))/\((-1<=x-1/\x-1<=65535/\∃st,cV ((x-1).toNat,st) py)/\((x-1).toNat<x.toNat))))
  ⟨_,hm,rfl,rfl⟩ hw λb8 hs=>⟨λh=>aW rfl h,λ_=>⟨⟨by omega,by omega⟩,⟨by omega,by omega,kB st,by rw[show(x-1).toNat=x.toNat-1 by omega];exact hs⟩,by omega⟩⟩
 simp only at this
 rw[show((x.toNat-1:N):o)+1=x by omega,show((x.toNat-1:N):o)+2=x+1 by omega] at this
 exact this
def spec.ax3{src:N}{n:o}{ub:H}{K:U->o->H->Prop}(h:u src=some (qb st))(b9:ub.le u)(sc:ub src=none)(h0:0<=n)(ae:n<=65536)
  (au:∀aq u',aJ ub u' 3 1 aq ((uU st n.toNat).flatMap encI)->K aq 0 u'):C.Qn (some ⟨src,0,none⟩) n u K:=by
 apply aG.Qn
 apply aG.Eg
 refine⟨λh=>(by cases h),λ_=>⟨λh=>by omega,λ_=>⟨λh=>by omega,λ_=>⟨λh=>aW rfl h,λ_=>?_⟩⟩⟩⟩
 refine Qx oN h0 (nA _) (by omega) (by omega) λg W=>?_
 have j7:=aJ.make (k:=1) b9 W (cells:=ny [cY .i64 0].toArray (n.toNat*1)) (e:=3) (n:=n.toNat) (by omega) (by have:=ei iS (Hc (enc:=encI) nO (by decide) 0 n.toNat);rw[rL] at this;rw[nQ nO] at this;simpa[encI] using this)
 have vM:(ny [cY .i64 0].toArray (n.toNat*1)).toList=(fX n.toNat (0:o)).flatMap encI:=Hc (enc:=encI) nO (by decide) 0 n.toNat
 rw[vM] at j7
 obtain⟨j0,ai8⟩:∃j0,j0=u.ins g (.cells (ny [cY .i64 0].toArray (n.toNat*1)) 3 (0,0)):=⟨_,rfl⟩
 rw[<-ai8] at j7 ⊢
 have uB:j0 src=some (qb st):=by rw[ai8,H.bq _ _ (λe=>by rw[<-e,h] at W;cases W)];exact h
 have S2:(⟨some ⟨g,0,none⟩,n.toNat,n.toNat⟩:U).aj≠some src:=λe=>by
  have:g=src:=by simpa[U.aj] using e
  rw[this,h] at W;cases W
 have atY:((⟨some ⟨g,0,none⟩,n.toNat,n.toNat⟩:U).n:o)=n:=by show((n.toNat:N):o)=n;omega
 obtain⟨bi,td⟩:∃bi:U,bi=⟨some ⟨g,0,none⟩,n.toNat,n.toNat⟩:=⟨_,rfl⟩
 have zh:bi.a=some ⟨g,0,none⟩:=by rw[td]
 rw[<-td] at j7 S2 atY ⊢
 have aB0:bi.aj=some g:=by simp[U.aj,zh]
 intro eZ qx
 have ZM:bi.aj≠some eZ:=λe=>dE j7 e qx
 have atN:eZ≠src:=λe=>by rw[e,uB] at qx;cases qx
 refine mT (zs:=[.slice none 0 0]) rfl (by simp[cT]) ?_
 obtain⟨fA,ry⟩:∃fA,fA=j0.ins eZ (.cells [.slice bi.a bi.n bi.c].toArray 30 (0,0)):=⟨_,rfl⟩
 rw[<-ry]
 have sh:j0.le fA:=by rw[ry];exact H.b1 _ qx
 have oX:fA eZ=some (.cells #[.slice bi.a bi.n bi.c] 30 (0,0)):=by rw[ry];exact H.bh _ _ _
 have aB9:ub eZ=none:=j7.le.none qx
 refine⟨bi,H.ba oX 0,λx w=>0<=x/\x<=n/\w src=some (qb st)/\w eZ=some (.cells #[.slice bi.a bi.n bi.c] 30 (0,0))/\aJ ub w 3 1 bi ((pn x.toNat++fX (n.toNat-x.toNat) 0).flatMap encI),λx _=>(n-x).toNat,
  ⟨by omega,by omega,sh _ _ uB,oX,by simpa[pn] using j7.mono sh⟩,?_⟩
 rintro x w ⟨bL,dC,Kh,X4,aa⟩
 have Ds:(pn x.toNat++fX (n.toNat-x.toNat) (0:o)).length=n.toNat:=by simp[pn];omega
 refine⟨λJ=>?_,λJ=>?_⟩
 refine⟨bi,H.ba X4 0,_,zh,⟨bL,J⟩,?_⟩
 refine aJ.store (enc:=encI) nO aa (by decide) (i:=x.toNat) (by rw[Ds];omega) (y:=x) (by simp[encI,cT]) zh λaz2 xI ahA _=>⟨⟨by omega,by omega⟩,⟨by omega,by omega,ahA _ _ Kh S2,ahA _ _ X4 ZM,?_⟩,by dsimp only;omega⟩
 have ky:(pn x.toNat++fX (n.toNat-x.toNat) (0:o)).set x.toNat x=pn (x+1).toNat++fX (n.toNat-(x+1).toNat) 0:=by
  have aS:n.toNat-x.toNat=(n.toNat-(x+1).toNat)+1:=by omega
  have aB:(pn x.toNat).length=x.toNat:=by simp[pn]
  have cW:pn (x+1).toNat=pn x.toNat++ [x]:=by rw[show(x+1).toNat=x.toNat+1 by omega];unfold pn;rw[List.range_succ,ek,List.map_singleton,wA bL]
  rw[aS,List.replicate_succ];have fN:=alQ (pn x.toNat) 0 x (fX (n.toNat-(x+1).toNat) 0);rw[aB] at fN;rw[fN,cW,n5];rfl
 rw[ky] at xI
 exact xI
 .have TJ:x=n:=by omega
  subst TJ;rw[Nat.sub_self,List.replicate_zero,ly] at aa;apply aG.Vb;intro n0 eX b4 gp;obtain⟨fK,aiE⟩:∃fK,fK=(bC #[hy (some ⟨src,0,none⟩)] 171 (0,0)):=⟨_,rfl⟩;obtain⟨eH,aiF⟩:∃eH,eH=(bC #[cY .i64 x] 3 (0,0)):=⟨_,rfl⟩;rw[<-aiE] at gp ⊢;rw[<-aiF];have uw:n0≠b4:=λe=>by rw[<-e,H.bh] at gp;cases gp
  have ZK:w b4=none:=by rw[H.bq _ _ (dz uw)] at gp;exact gp
  have lw:w.le ((w.ins n0 fK).ins b4 eH):=(H.b1 _ eX).trans (H.b1 _ gp);obtain⟨Cn,aaK⟩:∃Cn,Cn=(w.ins n0 fK).ins b4 eH:=⟨_,rfl⟩;rw[<-aaK] at lw ⊢;have d0:Cn n0=some fK:=by rw[aaK,H.bq _ _ uw,H.bh]
  have d1:Cn b4=some eH:=by rw[aaK,H.bh]
  let V9:H:=λc=>if c=n0 then some fK else if c=b4 then some eH else none
  have i0:V9 n0=some fK:=a1 rfl;have i1:V9 b4=some eH:=by show(if b4=n0 then _ else _)=_;rw[aF (dz uw),a1 rfl]
  have ajH:∀v:H,v n0=some fK->v b4=some eH->V9.le v:=λv h0 h1 c z I=>by
   by_cases e7:c=n0;subst e7;rw[i0] at I;cases I;exact h0;by_cases aS:c=b4;subst aS;rw[i1] at I;cases I;exact h1;have:V9 c=none:=by show(if c=n0 then _ else _)=_;rw[aF e7,aF aS]
   rw[this] at I;cases I
  have awC:n0≠src:=λe=>by rw[e,Kh] at eX;cases eX
  have awE:b4≠src:=λe=>by rw[e,Kh] at ZK;cases ZK
  have awD:bi.aj≠some n0:=λe=>dE aa e eX;have awF:bi.aj≠some b4:=λe=>dE aa e ZK;refine nf.apg axs (nf.avK (fv:=.func (.func 195) #[] #[.pointer (some ⟨b4,0,none⟩),.pointer (some ⟨n0,0,none⟩)]) (t:=31) (x:=32) (x2:=33) (src:=src) (cell:=λs:N×o=>qb s.2) (Nx:=aeD) (s0:=((x-1).toNat,st)) (En:=λs=>s.1=0) (enc:=λy:o×o=>.int .i64 y.1) (xa:=λy=>.int .i64 y.2)
   (ajH Cn d0 d1) W4 (by simp) (by decide) (by decide) (by decide) (λai rv=>apb (st:=st) h0 ae (by rw[<-aiE];exact rv _ _ i0) (by rw[<-aiF];exact rv _ _ i1))
   (λs v=>v src=some (qb s.2)/\v n0=some fK/\v b4=some eH/\v eZ=some (.cells #[.slice bi.a bi.n bi.c] 30 (0,0))/\s.1<=x.toNat-1/\∃l:M o,l.length=x.toNat/\aJ ub v 3 1 bi (l.flatMap encI)/\permA s.1 s.2 l=uU st x.toNat)
   ⟨lw _ _ Kh,d0,d1,lw _ _ X4,by show(x-1).toNat<=_;omega,pn x.toNat,by simp[pn],aa.mono lw,by show permA (x-1).toNat st _=_;unfold uU;rw[show(x-1).toNat=x.toNat-1 by omega]⟩ (λs v aA=>ajH v aA.2.1 aA.2.2.1) (λs v aA=>aA.1) ?_ ?_)
  .rintro⟨i,wM⟩ y aq v ⟨m,hm,rfl,rfl⟩ ⟨ac,a2,a3,a4,a5,l,ar,vR,ad⟩;simp only at hm ac a5 ad;subst hm;obtain⟨dx,A3⟩:∃dx,dx=uR (kB wM)%((m:o)+2):=⟨_,rfl⟩;have h3:=Qc (uR (kB wM)) (show(m:o)+2≠0 by omega);have a7:=Qd (uR (kB wM)) (show 0<(m:o)+2 by omega);show IK _ _ _ _ _ _ _ (.int .i64 ((m:o)+1)) (.int .i64 (uR (kB wM)%((m:o)+2))) _ _;rw[<-A3] at h3 a7 ⊢;refine axu eZ _ _ _ _ _ (by simp) ⟨rfl,rfl,?_⟩;have ad7:(v.ins src (qb (kB wM))) eZ=some (.cells #[.slice bi.a bi.n bi.c] 30 (0,0)):=by rw[H.bq _ _ atN];exact a4
   have DA:aJ ub (v.ins src (qb (kB wM))) 3 1 bi (l.flatMap encI):=⟨vR.own.le λc z I hu=>by rw[H.bq _ _ (λe=>S2 (by rw[I,e]))];exact hu,λc z I=>by rw[H.bq _ _ (λe=>by rw[e,sc] at I;cases I)];exact vR.le c z I,vR.fresh⟩
   obtain⟨Cw,Kl⟩:∃Cw,Cw=v.ins src (qb (kB wM)):=⟨_,rfl⟩;have vs:Cw src=some (qb (kB wM)):=by rw[Kl];exact H.bh _ _ _
   have v0:Cw n0=some fK:=by rw[Kl,H.bq _ _ awC];exact a2
   have v1:Cw b4=some eH:=by rw[Kl,H.bq _ _ awE];exact a3
   show ∃L3:H,L3.le (v.ins src (qb (kB wM)))/\_;rw[<-Kl] at ad7 DA ⊢;have dw:bi.n=l.length:=gW nO (by decide) DA.own.cE;have pP:m+1<l.length:=by omega
   have jn:dx.toNat<l.length:=by omega
   have at':∀{Y:H} {bw:M o} (j:o),aJ ub Y 3 1 bi (bw.flatMap encI)->0<=j->j.toNat<bw.length->Y.cell? (ev ⟨g,0,none⟩ (j.toNat*1))=some (.int .i64 (bw.getD j.toNat 0)):=λ{Y bw} j aC gK aP=>by obtain⟨p,ad,I⟩:=br.elem nO (by decide) aC.own.cE (cr aP);rw[zh] at ad;cases ad;have:=I 0 _ rfl;rw[Addr.add_zero'] at this;rw[this,du,cr aP];rfl
   have AD:Cw.cell? ⟨eZ,0,none⟩=some (.slice bi.a bi.n bi.c):=H.ba ad7 0;have aoT:(H.nC Cw bi).cell? ⟨eZ,0,none⟩=some (.slice bi.a bi.n bi.c):=by unfold H.cell? at AD ⊢;simp only[nD ZM];exact AD
   refine⟨H.nC Cw bi,Eo _ _,bi,AD,bi,aoT,bi,AD,_,zh,⟨h3,by omega⟩,_,at' dx DA h3 jn,bi,AD,_,zh,⟨by omega,by omega⟩,_,at' ((m:o)+1) DA (by omega) (by omega),_,zh,⟨by omega,by omega⟩,?_⟩;refine aJ.store (enc:=encI) nO DA (by decide) (i:=((m:o)+1).toNat) (by omega) (y:=l.getD dx.toNat 0) (by simp[encI,cT]) zh λhJ at3 ahz _=>⟨λc z I=>ahz c z (LA I).1 (LA I).2,_,zh,⟨h3,by omega⟩,?_⟩;refine aJ.store (enc:=encI) nO at3 (by decide) (i:=dx.toNat) (by rw[qK];exact jn) (y:=l.getD ((m:o)+1).toNat 0) (by simp[encI,cT]) zh λgz Oe SM _=>⟨rfl,?_⟩;have st2:∀c z,Cw c=some z->bi.aj≠some c->gz c=some z:=λc z I al=>SM c z (ahz c z I al) al;refine⟨st2 _ _ vs S2,st2 _ _ v0 awD,st2 _ _ v1 awF,st2 _ _ ad7 ZM,by show m<=_;omega,_,by rw[qK,qK];exact ar,Oe,?_⟩;have ap5:(l.set ((m:o)+1).toNat (l.getD dx.toNat 0)).set dx.toNat (l.getD ((m:o)+1).toNat 0)=jO l (m+1) dx.toNat:=by rw[Im pP jn,show((m:o)+1).toNat=m+1 by omega,du,du,cr pP,cr jn];rfl
   rw[ap5,<-ad];show permA m (kB wM) _=permA (m+1) wM l
   conv=>rhs;unfold permA
   rw[A3]
  rintro⟨i,wM⟩ v D hi ⟨ac,a2,a3,a4,a5,l,ar,vR,ad⟩ eN;simp only at hi ad;subst hi;have hle:=H.b1 (u:=v) (b:=D) (yc (some [])) eN;refine⟨bi,H.ba (hle _ _ a4) 0,H.bh _ _ _,au bi _ ?_⟩;have aq1:bi.aj≠some D:=λe=>dE vR e eN;have kx:l=uU st x.toNat:=ad;rw[kx] at vR;have au9:=vR.le.none eN;have:=(vR.mono hle).xU au9 aq1 (.deferred none);exact this
def GR(d:N)(vs:M (M o)):N->M (M o)->M (M o)
 |0,c=>c|n+1,c=>Ca d vs (GR d vs n c)
def wK(eJ:o)(k:N)(vs:M (M o)):M (M o):=((uU eJ vs.length).take k).map λi=>vs.getD i.toNat []
def adZ(eJ:o)(k rounds d:N)(vs:M (M o)):M (M o):=GR d vs rounds (wK eJ k vs)
def acx{n:N}{x:o}(h:x∈uU st n):0<=x/\x<n:=by have:=(akD st n).mem_iff.1 h;unfold pn at this;obtain⟨i,hi,rfl⟩:=bf.1 this;have:=K9.1 hi;omega
def acw(st:o)(n:N):(uU st n).length=n:=by have:=(akD st n).length_eq;simpa[pn] using this
def amd{vs:M (M o)}(h:k<=vs.length):(wK eJ k vs).length=k:=by unfold wK;rw[de,gZ,acw];omega
def azk{vs:M (M o)}{i:N}{x:o}(h:i<k)(J:(uU eJ vs.length)[i]?=some x):(wK eJ k vs)[i]?=some (vs.getD x.toNat []):=by unfold wK;rw[iR,K3,a1 h,J];rfl
def fQ.l3{ai:H}{s:U}{cs:M (U×M o)}(h:fQ ai u s cs){n:N}(ae:u n=.none)(z:Obj):fQ (ai.ins n z) (u.ins n z) s cs:=⟨h.own.l3 ae z,λc I=>(h.inner c I).l3 ae z,h.eB,h.apart⟩
def aom:hn aH 134=ak:=by kernel_rfl
def spec.BD{s:U}{L:M (U×M o)}{d:N}{k rounds:o}{K:U->o->H->Prop}(h:mA u s L)(bE:∀c∈L,c.2.length=d/\dj c.2)(aw:1<=d/\d<=64)(um:L.length<=512)(hk:1<=k/\k<=64)(jn:k<=L.length)(O:0<=rounds/\rounds<=20)
  (au:∀aq u' cs,fQ u u' aq cs->cs.map (·.2)=adZ eJ k.toNat rounds.toNat d (L.map (·.2))->K aq 0 u'):C.BD s k rounds eJ u K:=by
 have ae:=h.len
 obtain⟨vs,k1⟩:∃vs,vs=L.map (·.2):=⟨_,rfl⟩
 have zi:vs.length=L.length:=by rw[k1,de]
 apply aG.BD
 intro n0 eX b4 gp
 obtain⟨fK,j7⟩:∃fK,fK=(bC #[ec s.a s.n s.c] 133 (0,0)):=⟨_,rfl⟩
 obtain⟨eH,kv⟩:∃eH,eH=(bC #[cY .i64 k] 3 (0,0)):=⟨_,rfl⟩
 rw[<-j7] at gp ⊢
 rw[<-kv]
 have uw:n0≠b4:=λe=>by rw[<-e,H.bh] at gp;cases gp
 obtain⟨aU,hr⟩:∃aU,aU=(u.ins n0 fK).ins b4 eH:=⟨_,rfl⟩
 have aj8:u.le aU:=by rw[hr];exact(H.b1 _ eX).trans (H.b1 _ gp)
 have d0:aU n0=some fK:=by rw[hr,H.bq _ _ uw,H.bh]
 have d1:aU b4=some eH:=by rw[hr,H.bh]
 rw[<-hr]
 have bJ:∀{w:H},aU.le w->w.cell? ⟨n0,0,none⟩=some (.slice s.a s.n s.c):=λhw=>by have:=hw _ _ d0;rw[j7] at this;exact H.ba this 0
 have c1:∀{w:H},aU.le w->w.cell? ⟨b4,0,none⟩=some (.int .i64 k):=λhw=>by have:=hw _ _ d1;rw[kv] at this;exact H.ba this 0
 intro pA h2
 have l2:=H.le.refl aU
 refine⟨k,c1 l2,λJ=>by omega,λ_=>⟨k,c1 l2,λJ=>by omega,λ_=>⟨λJ=>by omega,λ_=>?_⟩⟩⟩
 have asn:decide ((20:o)<rounds)=ax:=p7 (by omega)
 rw[asn]
 refine h2 _ _ ⟨λe=>(by cases e),λ_=>⟨s,bJ l2,λJ=>by omega,λ_=>⟨s,bJ l2,k,c1 l2,λJ=>by omega,λ_=>⟨s,bJ l2,?_⟩⟩⟩⟩
 have h1:=h.mono aj8
 obtain⟨p,ad,c,I,cH,CV,pJ⟩:=h1.at (x:=0) (by omega) (by omega)
 obtain⟨cl,vu⟩:=bE c cH
 have o3:=pJ.len
 refine⟨p,ad,⟨by omega,by omega⟩,c.1,CV,?_⟩
 intro n11 ux
 refine mT (zs:=[.int .i64 0]) rfl (by simp[cT]) ?_
 obtain⟨rF,qz⟩:∃rF,rF=(bC [cY .i64 (c.1.n:o)].toArray 3 (0,0)):=⟨_,rfl⟩
 rw[<-qz]
 obtain⟨gz,xO⟩:∃gz,gz=aU.ins n11 rF:=⟨_,rfl⟩
 rw[<-xO]
 have rA:aU.le gz:=by rw[xO];exact H.b1 _ ux
 have d11:gz n11=some rF:=by rw[xO,H.bh]
 have afi:∀{w:H},gz.le w->w.cell? ⟨n11,0,none⟩=some (.int .i64 d):=λhw=>by have:=hw _ _ d11;rw[qz] at this;have:=H.ba this 0;rw[this,show((c.1.n:N):o)=(d:o) by omega];rfl
 refine⟨s,bJ rA,(d:o),afi (H.le.refl _),?_⟩
 have y0:=h1.mono rA
 refine spec.zn y0 (d:=(d:o)) (by omega) (λc I=>⟨by have:=(bE c I).1;omega,(bE c I).2⟩) (by omega) ⟨λJ=>aW rfl J,λ_=>⟨s,bJ rA,?_⟩⟩
 refine aG.Ef _ _ _ λsrc rr=>⟨H.b1 _ rr,?_⟩
 have avc:u.le gz:=aj8.trans rA
 refine spec.ax3 (st:=eJ) (ub:=gz) (H.bh _ _ _) (H.b1 _ rr) rr (by omega) (by omega) λHY kf ee=>?_
 have ajX:=ee.le
 refine⟨k,c1 (rA.trans ajX),alJ (by omega) (by omega) λnB amE agE aBX=>?_⟩
 intro n26 aiu
 refine mT (zs:=[.slice none 0 0]) rfl (by simp[cT]) ?_
 obtain⟨PC,aiG⟩:∃PC,PC=(bC [ec nB.a nB.n nB.c].toArray 133 (0,0)):=⟨_,rfl⟩
 rw[<-aiG]
 have AS:=agE.l3 aiu PC
 obtain⟨ub,b9⟩:∃ub,ub=kf.ins n26 PC:=⟨_,rfl⟩
 rw[<-b9] at AS
 have atL:kf n26=none:=agE.own.le.none aiu
 have ajY:kf.le ub:=by rw[b9];exact H.b1 _ atL
 have CU:∀{w:H},ub.le w->w.cell? ⟨n26,0,none⟩=some (.slice nB.a nB.n nB.c):=λhw=>by
  have:ub n26=some PC:=by rw[b9];exact H.bh _ _ _
  have:=hw _ _ this;rw[aiG] at this;exact H.ba this 0
 have qD:gz.le ub:=ajX.trans ajY
 have arz:=ee.mono ajY
 have Yn:=arz.ints
 rw[show((s.n:N):o).toNat=vs.length by omega] at Yn
 have arA:=Yn.len
 rw[acw] at arA
 have aBz:nB.n=k.toNat:=by omega
 refine⟨nB,CU AS.own.le,λx w=>0<=x/\x<=k/\∃cs,fQ ub w nB cs/\cs.length=k.toNat/\∀(a:N) c,cs[a]?=some c->(a:o)<x->(wK eJ k.toNat vs)[a]?=some c.2,λx _=>(k-x).toNat,
  ⟨by omega,by omega,_,AS,by simp,λa c _ J=>by omega⟩,?_⟩
 rintro x w ⟨bL,dC,cs,dD,hG,y4⟩
 have lw:=dD.own.le
 refine⟨λJ=>?_,λJ=>?_⟩
 obtain⟨pp,jd,ow⟩:=(Yn.mono lw).at (x:=x) bL (by omega)
 have eR:x.toNat<(uU eJ vs.length).length:=by rw[acw];omega
 obtain⟨y,ah⟩:∃y,(uU eJ vs.length)[x.toNat]?=some y:=⟨_,cr eR⟩
 obtain⟨iI,jx⟩:=acx (dK ah)
 have pF:(uU eJ vs.length).getD x.toNat 0=y:=by rw[du,ah];rfl
 rw[pF] at ow
 obtain⟨q,aN,Y,aC,TM,Mp,uK⟩:=(y0.mono (qD.trans lw)).at (x:=y) iI (by omega)
 obtain⟨LW,anh⟩:=bE Y TM
 have avv:=uK.len
 have avo:x.toNat<cs.length:=by omega
 obtain⟨pY,xL,_⟩:=dD.yv.at bL (by rw[dD.len];omega)
 have ap7:vs.getD y.toNat []=Y.2:=by rw[k1,du,iR,aC];rfl
 refine⟨pp,jd,⟨bL,by omega⟩,nB,CU lw,s,bJ (rA.trans (qD.trans lw)),y,ow,q,aN,⟨iI,by omega⟩,Y.1,Mp,spec.iH uK (by omega) λaCz aCI aiH _=>⟨aiH.le,pY,xL,⟨bL,by omega⟩,?_⟩⟩
 refine dD.put aiH avo xL λQU asg _=>⟨⟨by omega,by omega⟩,⟨by omega,by omega,_,asg,by rw[qK];exact hG,λa c kI SG=>?_⟩,by dsimp only;omega⟩
 rcases Sd kI with⟨rfl,rfl⟩|⟨e,kI⟩
 rw[azk (by omega) ah,ap7]
 exact y4 a c kI (by omega)
 have Tw:cs.map (·.2)=wK eJ k.toNat vs:=by apply sk;intro a;by_cases aE:a<k.toNat;have aho:cs[a]?=some cs[a]:=cr (by omega);rw[y4 a _ aho (by omega),iR,aho];rfl;rw[iy (by rw[de];omega),iy (by rw[amd (by omega)];omega)]
 have Su:RoundIn ub b4 n11 n0 n26 k.toNat d s nB L:=⟨by rw[c1 (rA.trans qD),wA (by omega)],afi qD,bJ (rA.trans qD),CU (H.le.refl _),y0.mono qD,bE,um,aw,by omega⟩
 have GK:∀v∈vs,v.length=d/\dj v:=λv aA=>by rw[k1] at aA;obtain⟨c,I,rfl⟩:=bf.1 aA;exact bE c I
 have aud:∀c∈wK eJ k.toNat vs,c.length=d/\dj c:=λc I=>by
  unfold wK at I;obtain⟨i,hi,rfl⟩:=bf.1 I;obtain⟨i0,i1⟩:=acx (oa hi);have:vs.getD i.toNat []∈vs:=by rw[du,cr (by omega)];exact kE _
  exact GK _ this
 refine⟨λx w=>0<=x/\x<=rounds/\∃cs,fQ ub w nB cs/\cs.length=k.toNat/\cs.map (·.2)=GR d vs x.toNat (wK eJ k.toNat vs)/\∀c∈cs,c.2.length=d/\dj c.2,λx _=>(rounds-x).toNat,
  ⟨by omega,by omega,cs,dD,hG,Tw,λc I=>aud _ (by rw[<-Tw];exact h7 I)⟩,?_⟩
 rintro y eA ⟨iI,jx,ds,r6,y7,JF,SL⟩
 refine⟨λah=>.inl ⟨_,_,_,rfl,hh aom,?_⟩,λah=>?_⟩
 refine spec.av2 Su r6 y7 SL λV4 es NB fh=>⟨⟨by omega,by omega⟩,⟨by omega,by omega,es,NB,?_,?_,λc I=>?_⟩,by dsimp only;omega⟩
 have:=ei iS fh
 rw[de,adh,de] at this
 omega
 rw[fh,show(y+1).toNat=y.toNat+1 by omega,<-k1,JF]
 rfl
 have:c.2∈Ca d (L.map (·.2)) (ds.map (·.2)):=by rw[<-fh];exact h7 I
 rw[<-k1] at this
 exact alm (λv aA=>(GK v aA).2) aw.2 (λc I=>by obtain⟨Y,aC,rfl⟩:=bf.1 I;exact SL Y aC) _ this
 refine⟨nB,CU r6.own.le,au nB eA ds (r6.weaken (avc.trans qD)) ?_⟩
 rw[JF,show y.toNat=rounds.toNat by omega,<-k1]
 rfl
end
namespace j1
section
variable{u:H}{s:U}
def ajF(l:M az):l.map (·.id)=(l.map az.bz).map (·.1):=by rw[ep];rfl
def aye{L:M az}{d:o}(h:hD L d){r:az}(ad:r.bz∈L.map az.bz):(1<=r.id/\r.id<=1000000000)/\(r.v.length:o)=d/\dj r.v:=by obtain⟨Y,aC,e⟩:=bf.1 ad;have aS:Y.id=r.id:=ei sq e;have aB:Y.v=r.v:=ei tv e;rw[<-aS,<-aB];exact⟨h.id Y aC,h.v Y aC⟩
def jr(l:M az)(an a b:o):o:=if oJ l an≠0 then oJ l an else if a<1∨64<a∨b<0∨20<b then 1 else 0
def AF(eJ a b:o)(d:N)(vs:M (M o)):M (M o):=if vs=[] then[fX d 0] else adZ eJ (if(vs.length:o)<a then(vs.length:o) else a).toNat b.toNat d vs
def RL(s:U):kG aH 133 1 #[(0,.slice s.a s.n s.c)]=some (30,[.slice s.a s.n s.c]):=by kernel_rfl
def avM{d:N}{vs:M (M o)}(aA:∀v∈vs,dj v)(aw:d<=64):∀(n:N) (cs:M (M o)),(∀c∈cs,c.length=d/\dj c)->(∀c∈GR d vs n cs,c.length=d/\dj c)/\(GR d vs n cs).length=cs.length:=by
 intro n;induction n with
 |zero=>intro cs h;exact⟨h,rfl⟩
 |succ n aM=>intro cs h;obtain⟨h1,h2⟩:=aM cs h;exact⟨alm aA aw h1,by show(Ca _ _ _).length=_;rw[adh,h2]⟩
def afp{eJ a b:o}{d:N}{vs:M (M o)}(aA:∀v∈vs,v.length=d/\dj v)(aw:1<=d/\d<=64)(aE:1<=a/\a<=64):(∀c∈AF eJ a b d vs,c.length=d/\dj c)/\0<(AF eJ a b d vs).length/\(AF eJ a b d vs).length<=64:=by
 unfold AF;by_cases h0:vs=[];rw[a1 h0];refine⟨λc I=>?_,by simp,by simp⟩;rw[fV.1 I];refine⟨by simp,by simp;omega,λi hi=>?_⟩;rw[UW] at hi;rw[du,Lk,a1 hi];decide;rw[aF h0];have ad:=wx.2 h0;obtain⟨k,hk⟩:∃k,k=(if(vs.length:o)<a then(vs.length:o) else a).toNat:=⟨_,rfl⟩;have JO:1<=k/\k<=64/\k<=vs.length:=by rw[hk];split<;>omega
 rw[<-hk];have dW:∀c∈wK eJ k vs,c.length=d/\dj c:=λc I=>by
  unfold wK at I;obtain⟨i,hi,rfl⟩:=bf.1 I;obtain⟨i0,i1⟩:=acx (oa hi);have:vs.getD i.toNat []∈vs:=by rw[du,cr (by omega)];exact kE _
  exact aA _ this
 obtain⟨h1,h2⟩:=avM (λv hs=>(aA v hs).2) aw.2 b.toNat _ dW;have ar:=amd (eJ:=eJ) JO.2.2;exact⟨h1,by show 0<(GR _ _ _ _).length;omega,by show(GR _ _ _ _).length<=64;omega⟩
structure EK(u:H)(l:M az)(hl a b eJ:o)(u':H)(dR:N)(af:N->ay bp)(T:aQ):Prop where
 is:In u u' af dR T
 ok:dS T
 rows:(aR T).Perm (l.map az.bz)
 an:T.an=hl
 cs:∃P:M (o×M o),P.Perm (l.map az.bz)/\(P.Pairwise λx y=>x.1<y.1)/\T.cs.map (·.2)=AF eJ a b hl.toNat (P.map (·.2))
def adL{n:N}{d:o}{a b:U}{m:ay N}{f:H->Prop}(h:u n=some (.cells #[.int .i64 d,.slice a.a a.n a.c,.slice b.a b.n b.c,.map m] 178 (0,0))):
  (f (u.ins n (.cells #[.int .i64 d,.slice s.a s.n s.c,.slice b.a b.n b.c,.map m] 178 (0,0)))->H.aO u (ev (cB n 0 none) 1) [.slice s.a s.n s.c] f)/\
   (f (u.ins n (.cells #[.int .i64 d,.slice a.a a.n a.c,.slice s.a s.n s.c,.map m] 178 (0,0)))->H.aO u (ev (cB n 0 none) 2) [.slice s.a s.n s.c] f):=
 ⟨λZ=>⟨_,_,h,rfl,by simp[jh],by simp[cT],Z⟩,λZ=>⟨_,_,h,rfl,by simp[jh],by simp[cT],Z⟩⟩
def Wd{ai:H}{cs:M (U×M o)}(h:fQ ai u s cs){n:N}(ae:ai n=none)(ag:s.aj≠some n)(I:∀c∈cs,c.1.aj≠some n)(z:Obj):fQ ai (u.ins n z) s cs:=
 ⟨h.own.xU ae ag z,λc cH=>(h.inner c cH).xU ae (I c cH) z,h.eB,h.apart⟩
def spec.Build{l:M az}{an a b eJ:o}{K:ay bc->o->H->Prop}(ag:en u s l)(di:jr l an a b≠0->K none (jr l an a b) u)
  (bE:jr l an a b=0->∀u' dR af T,EK u l an a b eJ u' dR af T->K (some ⟨dR,0,none⟩) 0 u'):C.O5 s an a b eJ u K:=by
 have bad:∀Y,jr l an a b=Y->Y≠0->K none Y u:=λY e aC=>by subst e;exact di aC
 apply aG.O5
 refine spec.qt ag ⟨λal=>bad _ (by unfold jr;rw[a1 al]) al,λhe=>?_⟩
 have one:(a<1∨64<a∨b<0∨20<b)->K none 1 u:=λI=>bad 1 (by unfold jr;rw[aF (by simpa using he),a1 I]) (by decide)
 intro pA h2
 refine⟨λh=>one (.inl h),λac=>⟨λh=>one (.inr (.inl h)),λa2=>⟨λh=>one (.inr (.inr (.inl h))),λhE=>⟨λh=>one (.inr (.inr (.inr h))),λfM=>h2 _ _ _ ?_⟩⟩⟩⟩
 have bE:=bE (by unfold jr;rw[aF (by simpa using he),aF (by omega)])
 clear bad one di h2 pA
 have fz:=B9.1 he
 obtain⟨Mr,Ms⟩:=fz.an
 have Zx:=fz.len
 refine H6 λm pX hm iw=>?_
 have A7:(u.ins m pX) m=some pX:=H.bh _ _ _
 have qF:=H.b1 (u:=u) (b:=m) pX hm
 obtain⟨iU,se⟩:∃iU,iU=u.ins m pX:=⟨_,rfl⟩
 rw[<-se] at iw A7 qF ⊢
 intro n8 nV
 have nX:n8≠m:=λe=>by rw[e,A7] at nV;cases nV
 have vQ:u n8=none:=qF.none nV
 obtain⟨l1,rn⟩:∃l1,l1=(bC #[.int .i64 an,.slice none 0 0,.slice none 0 0,.map (some m)] 178 (0,0)):=⟨_,rfl⟩
 have rD:=H.b1 (u:=iU) (b:=n8) l1 nV
 show C.kV s (iU.ins n8 (bC #[.int .i64 an,.slice none 0 0,.slice none 0 0,.map (some m)] 178 (0,0))) _
 rw[<-rn]
 obtain⟨u8,pe⟩:∃u8,u8=iU.ins n8 l1:=⟨_,rfl⟩
 have uc:u8 n8=some l1:=by rw[pe];exact H.bh _ _ _
 rw[<-pe] at rD ⊢
 refine spec.kV (ag.mono (qF.trans rD)) fz.id (by omega) (λr O=>by have:=(fz.v r O).1;omega) λgM ls hJ bX ad qC=>?_
 have Jw:ls.length=l.length:=by simpa using ad.length_eq
 have ku:∀r∈ls,(1<=r.id/\r.id<=1000000000)/\(r.v.length:o)=an/\dj r.v:=λr O=>aye fz (ad.mem_iff.1 (h7 O))
 have bS:(ls.map (·.id)).Nodup:=by rw[ajF,(ad.map (·.1)).nodup_iff,<-ajF];exact fz.nodup
 have ti:=bX.own.le
 have agB:=bX.rws.len
 obtain⟨ub,b9⟩:∃ub:H,ub=λc=>if c=n8 then none else hJ c:=⟨_,rfl⟩
 have EC:ub n8=none:=by rw[b9];exact a1 rfl
 have ED:∀{c},c≠n8->ub c=hJ c:=λ{c} I=>by rw[b9];exact aF I
 have amK:ub.le hJ:=λc z I=>by by_cases e:c=n8;rw[e,EC] at I;cases I;rw[ED e] at I;exact I
 have EE:u.le ub:=λc z I=>by
  have:c≠n8:=λe=>by rw[e,vQ] at I;cases I
  rw[ED this];exact ti _ _ (rD _ _ (qF _ _ I))
 have X6:hJ n8=some l1:=ti _ _ uc
 have ahM:∀{x:U},(∀g,x.aj=some g->u8 g=none)->x.aj≠some n8:=λJ e=>by have:=J n8 e;rw[uc] at this;cases this
 have ayA:br ub gM 2 (ls.flatMap cR):=br.else bX.own.own.cE λg z W aa=>by rw[ED (λe=>ahM bX.own.fresh (by rw[W,e]))];exact aa
 have Vh:∀r∈ls,Ints ub r.s r.v:=λr O=>br.else (bX.inner r O).ints λg z W aa=>by rw[ED (λe=>ahM (bX.inner r O).fresh (by rw[W,e]))];exact aa
 have akb:fx ub m []:=iw.else λz aa=>by rw[ED (dz nX)];exact ti _ _ (rD _ _ aa)
 have alq:en ub gM ls:=⟨ayA,Vh⟩
 refine⟨λk7 x w=>0<=x/\x<=gM.n/\ub.le w/\w n8=some l1/\aJ hJ w 30 1 k7 (((ls.take x.toNat).map λr=>(r.s,r.v)).flatMap λc=>encS c.1),λ_ x _=>((gM.n:o)-x).toNat,
  ⟨by omega,by omega,amK,X6,by simpa using aJ.nil (H.le.refl hJ) 30 1⟩,?_⟩
 rintro k7 x w ⟨bL,dC,Ns,ud,xI⟩
 have ze:k7.n=(ls.take x.toNat).length:=by have h:=gW vw (by decide) xI.own.cE;rw[de] at h;exact h
 rw[gZ] at ze
 refine⟨λJ=>?_,λJ=>?_⟩
 obtain⟨p,jd,r,O,bJ,c1,_⟩:=(alq.mono Ns).at bL J
 refine⟨p,jd,⟨bL,J⟩,_,bJ,_,c1,oc VQ (RL r.s) (by decide) rfl (by simp[cT]) xI (by show k7.n<_;omega) (by show(k7.n+1)*_<=_;omega) λVm kf aa aBI eC eu _=>⟨⟨by omega,by omega⟩,⟨by omega,by omega,λc z I=>eC c z (Ns c z I) λe=>?_,eC _ _ ud λe=>?_,?_⟩,by dsimp only;omega⟩⟩
 have:=xI.fresh c e;rw[amK c z I] at this;cases this
 have:=xI.fresh n8 e;rw[X6] at this;cases this
 have e:ls.take (x+1).toNat=ls.take x.toNat++ [r]:=by rw[show(x+1).toNat=x.toNat+1 by omega,gS,O];rfl
 rw[e,ek,hz]
 exact aa
 rw[hR (by omega)] at xI
 have atK:k7.n=ls.length:=by omega
 clear bL dC J ze
 have aCP:∀{Y:H},w.le Y->mA Y k7 (ls.map λr=>(r.s,r.v)):=λaC=>⟨xI.own.cE.mono aC,λc I=>by obtain⟨r,O,rfl⟩:=bf.1 I;exact(Vh r O).mono (Ns.trans aC)⟩
 refine adA (by omega) (by omega) λlP mU Gm atM=>mo (RL lP) λMQ ahN=>?_
 have KE:=H.b1 (u:=mU) (b:=MQ) (.cells [ec lP.a lP.n lP.c].toArray 30 (0,0)) ahN
 have Tm:aJ mU (mU.ins MQ (.cells [ec lP.a lP.n lP.c].toArray 30 (0,0))) 30 1 ⟨some ⟨MQ,0,none⟩,1,1⟩ [ec lP.a lP.n lP.c]:=by have:=aJ.make (k:=1) (H.le.refl mU) ahN (cells:=[ec lP.a lP.n lP.c].toArray) (e:=30) (n:=1) (by omega) (by simp);simpa using this
 obtain⟨qg,au2⟩:∃qg,qg=mU.ins MQ (.cells [ec lP.a lP.n lP.c].toArray 30 (0,0)):=⟨_,rfl⟩
 rw[<-au2] at KE Tm ⊢
 obtain⟨ha,Ke⟩:∃ha:U,ha=⟨some ⟨MQ,0,none⟩,1,1⟩:=⟨_,rfl⟩
 rw[<-Ke] at Tm ⊢
 have ael:w.le qg:=Gm.le.trans KE
 have zero:fQ w qg ha [(lP,fX an.toNat 0)]:=⟨by simpa[encS] using Tm.weaken Gm.le,λc I=>by rw[fV.1 I];exact Gm.mono KE,λc I=>by rw[fV.1 I];exact(aJ.eB Gm (H.le.refl _) Tm).symm,P5 _ _⟩
 have eg:∀{x:U},(∀g,x.aj=some g->w g=none)->x.aj≠some n8:=λJ e=>by have:=J n8 e;rw[ud] at this;cases this
 have agy:=ael _ _ ud
 rw[rn] at agy
 refine(adL (a:=⟨none,0,0⟩) (b:=⟨none,0,0⟩) (s:=ha) agy).1 ?_
 obtain⟨zD,Tn⟩:∃zD:U->Obj,zD=λY=>(bC #[.int .i64 an,.slice Y.a Y.n Y.c,.slice none 0 0,.map (some m)] 178 (0,0)):=⟨_,rfl⟩
 obtain⟨Co,OS⟩:∃Co,Co=qg.ins n8 (zD ha):=⟨_,rfl⟩
 have au3:Co=qg.ins n8 (bC #[.int .i64 an,.slice ha.a ha.n ha.c,.slice none 0 0,.map (some m)] 178 (0,0)):=by rw[OS,Tn]
 rw[<-au3]
 have V8:ub.le Co:=λc z I=>by rw[OS,H.bq _ _ (λe=>by rw[e,EC] at I;cases I)];exact ael _ _ (Ns _ _ I)
 have X7:Co n8=some (zD ha):=by rw[OS];exact H.bh _ _ _
 obtain⟨P,ee⟩:∃P:M (o×M o),P=ls.map az.bz:=⟨_,rfl⟩
 have arB:P.Pairwise λx y=>x.1<y.1:=by rw[ee,tu];rw[P8,tu] at bS;refine(qC.and bS).imp λ{x y} hv=>?_;have h1:=hv.1;have h2:=hv.2;show x.id<y.id;omega
 have De:P.map (·.2)=ls.map (·.v):=by rw[ee,ep];rfl
 obtain⟨vu,y4⟩:∃vu,vu=AF eJ a b an.toNat (P.map (·.2)):=⟨_,rfl⟩
 have ahs:=afp (eJ:=eJ) (a:=a) (b:=b) (d:=an.toNat) (vs:=P.map (·.2)) (λv aA=>by rw[De] at aA;obtain⟨r,O,rfl⟩:=bf.1 aA;obtain⟨_,h1,h2⟩:=ku r O;exact⟨by omega,h2⟩) (by omega) (by omega)
 rw[<-y4] at ahs
 intro EN Jk
 have main:∀{oL:U} {cs:M (U×M o)} {wR:H} {lL:ay bc} {oi:o},ub.le wR->wR n8=some (zD oL)->fQ ub wR oL cs->oL.aj≠some n8->(∀c∈cs,c.1.aj≠some n8)->cs.map (·.2)=vu->EN lL oi wR:=by
  intro oL cs wR lL oi JB Sn dD ahn ahp Nu;have hG:cs.length=vu.length:=by rw[<-Nu,de]
  have o3:oL.n=cs.length:=dD.len;rw[Tn] at Sn;refine Jk _ _ _ ⟨oL,H.ba Sn 1,Qx azA (by omega) (nA _) (by omega) (by omega) λagl asP=>?_⟩;have vM:(ny [ec none 0 0].toArray (cs.length*1)).toList=(fX cs.length ((⟨none,0,0⟩:U),([]:M az))).flatMap λc=>encS c.1:=Hc (enc:=λc:U×M az=>encS c.1) CY (by decide) (⟨none,0,0⟩,[]) cs.length;have cI:(ny [ec none 0 0].toArray (cs.length*1)).size=cs.length*1:=by have:=ei iS vM;rw[rL,nQ CY] at this;simpa using this
  have Gn:=aJ.make (k:=1) (H.le.refl wR) asP (cells:=ny [ec none 0 0].toArray (cs.length*1)) (e:=22) (n:=cs.length) (by omega) cI;rw[vM] at Gn;rw[show((oL.n:N):o).toNat=cs.length by omega];obtain⟨qP,auJ⟩:∃qP:U,qP=⟨some ⟨agl,0,none⟩,cs.length,cs.length⟩:=⟨_,rfl⟩;rw[<-auJ] at Gn ⊢;obtain⟨l5,aaL⟩:∃l5,l5=wR.ins agl (.cells (ny [ec none 0 0].toArray (cs.length*1)) 22 (0,0)):=⟨_,rfl⟩;rw[<-aaL] at Gn ⊢;have zp:=Gn.le;refine(adL (a:=oL) (b:=⟨none,0,0⟩) (s:=qP) (zp _ _ Sn)).2 ?_;obtain⟨nK,j4⟩:∃nK:aQ,nK=⟨an,oL,cs,qP,fX cs.length (⟨none,0,0⟩,[]),m,[]⟩:=⟨_,rfl⟩;obtain⟨Ag,Ki⟩:∃Ag,Ag=l5.ins n8 (.cells (fj nK).toArray 178 (0,0)):=⟨_,rfl⟩;have au6:Ag=l5.ins n8 (bC #[.int .i64 an,.slice oL.a oL.n oL.c,.slice qP.a qP.n qP.c,.map (some m)] 178 (0,0)):=by rw[Ki,j4];rfl
  rw[<-au6];have aki:qP.aj≠some n8:=λe=>by have:=Gn.fresh n8 e;rw[Sn] at this;cases this
  have Iy:ub.le Ag:=λc z I=>by rw[Ki,H.bq _ _ (λe=>by rw[e,EC] at I;cases I)];exact zp _ _ (JB _ _ I)
  have SI:fQ ub Ag oL cs:=by rw[Ki];exact Wd (dD.mono zp) EC ahn ahp _
  have J5:aJ ub Ag 22 1 qP ((fX cs.length ((⟨none,0,0⟩:U),([]:M az))).flatMap λc=>encS c.1):=by rw[Ki];exact(Gn.weaken JB).xU EC aki _
  have ajU:∀{e k:N} {x:U} {xs:M ap},aJ ub wR e k x xs->dH x qP:=λJ=>aJ.eB J (H.le.refl wR) Gn
  let pG:N->ay bp:=λc=>open Classical in if c=n8 then some .tree else if c=m then some .map else if oL.aj=some c then some .yN else if qP.aj=some c then some .n1 else if ∃Y∈cs,Y.1.aj=some c then some .tW else if ∃r∈ls,r.s.aj=some c then some .vec else none
  have akh:ub m≠none:=by obtain⟨es,cl,J,_⟩:=akb;rw[J];simp
  have XR:∀{x:U},(∀g,x.aj=some g->ub g=none)->x.aj≠some m:=λJ e=>akh (J m e);have adg:∀r∈ls,∀c,r.s.aj=some c->ub c≠none/\c≠n8/\u8 c=none:=λr O c I=>by
   have h1:=(bX.inner r O).fresh c I;have h2:c≠n8:=λe=>by rw[e,uc] at h1;cases h1
   exact⟨by rw[ED h2];exact dE (bX.inner r O) I,h2,h1⟩
  have t8:pG n8=some .tree:=a1 rfl;have azQ:pG m=some .map:=by show(if m=n8 then _ else _)=_;rw[aF (dz nX),a1 rfl]
  have azM:∀g,oL.aj=some g->pG g=some .yN:=λg W=>by show(if g=n8 then _ else _)=_;rw[aF (λe=>ahn (by rw[W,e])),aF (λe=>XR dD.own.fresh (by rw[W,e])),a1 W]
  have qU:∀g,qP.aj=some g->pG g=some .n1:=λg W=>by show(if g=n8 then _ else _)=_;rw[aF (λe=>aki (by rw[W,e])),aF (λe=>XR J5.fresh (by rw[W,e])),aF (λe=>ajU dD.own g e W),a1 W]
  have qf:∀Y∈cs,∀g,Y.1.aj=some g->pG g=some .tW:=λY aC g W=>by show(if g=n8 then _ else _)=_;rw[aF (λe=>ahp Y aC (by rw[W,e])),aF (λe=>XR (dD.inner Y aC).fresh (by rw[W,e])),aF (λe=>dD.eB Y aC g e W),aF (λe=>ajU (dD.inner Y aC) g W e),a1 ⟨Y,aC,W⟩]
  have aI:∀r∈ls,∀g,r.s.aj=some g->pG g=some .vec:=λr O g W=>by obtain⟨b3,cu,jW⟩:=adg r O g W;show(if g=n8 then _ else _)=_;rw[aF cu,aF (λe=>by rw[e,pe,H.bq _ _ (dz nX),A7] at jW;cases jW),aF (λe=>b3 (dD.own.fresh g e)),aF (λe=>b3 (J5.fresh g e)),aF (λ⟨Y,aC,e⟩=>b3 ((dD.inner Y aC).fresh g e)),a1 ⟨r,O,W⟩]
  have t9:∀g,gM.aj=some g->pG g=none:=λg W=>by
   have jW:=bX.own.fresh g W;have cu:g≠n8:=λe=>by rw[e,uc] at jW;cases jW
   have b3:ub g≠none:=by rw[ED cu];exact dE bX.own W
   show(if g=n8 then _ else _)=_;rw[aF cu,aF (λe=>by rw[e,pe,H.bq _ _ (dz nX),A7] at jW;cases jW),aF (λe=>b3 (dD.own.fresh g e)),aF (λe=>b3 (J5.fresh g e)),aF (λ⟨Y,aC,e⟩=>b3 ((dD.inner Y aC).fresh g e)),aF (λ⟨r,O,e⟩=>bX.eB r O g W e)]
  have avS:∀g,gM.aj=some g->Ag g≠none:=λg W=>by
   have jW:=bX.own.fresh g W;have cu:g≠n8:=λe=>by rw[e,uc] at jW;cases jW
   have b3:ub g≠none:=by rw[ED cu];exact dE bX.own W
   obtain⟨z,aa⟩:=e9.1 b3;rw[Iy _ _ aa];simp
  have split:∀c,pG c≠none->c=n8∨c=m∨oL.aj=some c∨qP.aj=some c∨(∃Y∈cs,Y.1.aj=some c)∨∃r∈ls,r.s.aj=some c:=λc I=>akO λae=>I (by simp only[not_or] at ae;show(if c=n8 then _ else _)=_;rw[aF ae.1,aF ae.2.1,aF ae.2.2.1,aF ae.2.2.2.1,aF ae.2.2.2.2.1,aF ae.2.2.2.2.2])
  have avD:In u Ag pG n8 nK:=by refine⟨?_,EE.trans Iy,λc I=>?_,λc I=>?_⟩;subst j4;refine⟨by rw[Ki];exact H.bh _ _ _,t8,SI.own.own.cE,azM,λi c NI=>⟨(SI.inner c (dK NI)).ints,qf c (dK NI)⟩,J5.own,qU,λi y ah=>?_,akb.mono Iy,azQ⟩;have:y=(⟨none,0,0⟩,[]):=(u3.1 (dK ah)).2;subst this;exact⟨⟨⟨rfl,cA _,by decide,.inl rfl⟩,.inr rfl⟩,λg W=>by simp[U.aj] at W,λr O=>by cases O⟩;rcases split c I with rfl|rfl|h1|h1|⟨Y,aC,h1⟩|⟨r,O,h1⟩;exact vQ;exact hm;exact EE.none (dD.own.fresh c h1);exact EE.none (J5.fresh c h1);exact EE.none ((dD.inner Y aC).fresh c h1);exact(qF.trans rD).none (adg r O c h1).2.2;rcases split c I with rfl|rfl|h1|h1|⟨Y,aC,h1⟩|⟨r,O,h1⟩;rw[Ki,H.bh];simp;obtain⟨z,aa⟩:=e9.1 akh;rw[Iy _ _ aa];simp;exact dE SI.own h1;exact dE J5 h1;exact dE (SI.inner Y aC) h1;obtain⟨z,aa⟩:=e9.1 (adg r O c h1).1;rw[Iy _ _ aa];simp
  have axb:dS nK:=by
   subst j4;have mI:(fX cs.length ((⟨none,0,0⟩:U),([]:M az))).flatMap (·.2)=[]:=by rw[List.flatMap_eq_nil_iff];intro x J;rw[(u3.1 J).2]
   refine⟨fz.an,⟨by simp,by show 0<cs.length;omega,by show cs.length<=64;omega⟩,λc I=>?_,λy ah r O=>?_,λy ah r O=>?_,by show(List.map _ (wz _ (fX _ _))).Nodup;rw[mI];exact Ls,λx i=>⟨λh=>(by cases h),λ⟨y,ah,J⟩=>?_⟩,by show 0=(wz _ (fX _ _)).length;rw[mI];rfl,by show 0<=512;omega,λi y ah r O=>?_⟩;have:c.2∈vu:=by rw[<-Nu];exact h7 I
   obtain⟨h1,h2⟩:=ahs.1 _ this;exact⟨by show(c.2.length:o)=an;omega,h2⟩;rw[(u3.1 ah).2] at O;cases O;rw[(u3.1 ah).2] at O;cases O;rw[(u3.1 (dK ah)).2] at J;cases J;rw[(u3.1 (dK ah)).2] at O;cases O
  have ayi:aR nK=[]:=by
   subst j4;unfold aR;have mI:(fX cs.length ((⟨none,0,0⟩:U),([]:M az))).flatMap (·.2)=[]:=by rw[List.flatMap_eq_nil_iff];intro x J;rw[(u3.1 J).2]
   show(wz _ (fX _ _)).map _=[];rw[mI];rfl
  refine⟨λx w=>0<=x/\x<=gM.n/\∃af T,In u w af n8 T/\dS T/\T.an=an/\T.cs=cs/\(aR T).Perm ((ls.take x.toNat).map az.bz)/\(∀y,y∈T.w.map (·.1)↔y∈(ls.take x.toNat).map (·.id))/\T.w.length=x.toNat/\(∀r∈ls,Ints w r.s r.v/\∀g,r.s.aj=some g->af g=some .vec)/\en w gM ls/\∀g,gM.aj=some g->af g=none/\w g≠none,
   λx _=>((gM.n:o)-x).toNat,⟨by omega,by omega,pG,nK,avD,axb,by rw[j4],by rw[j4],by rw[ayi];exact .refl _,λy=>by rw[j4];simp,by rw[j4];rfl,λr O=>⟨(Vh r O).mono Iy,aI r O⟩,alq.mono Iy,λg W=>⟨t9 g W,avS g W⟩⟩,?_⟩
  rintro x w ⟨bL,dC,af,T,cv,ag3,Yw,ag2,j8,ah6,DJ,aaT,kZ,agz⟩;refine⟨λJ=>?_,λJ=>?_⟩;obtain⟨p,jd,r,O,e7,aS,_⟩:=kZ.at bL J;have hq:=dK O;obtain⟨l2,p8,yi⟩:=ku r hq;obtain⟨v1,v2⟩:=aaT r hq;have Bo:ls.take (x+1).toNat=ls.take x.toNat++ [r]:=by rw[show(x+1).toNat=x.toNat+1 by omega,gS,O];rfl
  have Bb:r.id∉T.w.map (·.1):=λb6=>by have h1:=(ah6 r.id).1 b6;have h2:((ls.take (x.toNat+1)).map (·.id)).Nodup:=bS.sublist ((rN _ _).map _);rw[show x.toNat+1=(x+1).toNat by omega,Bo,ek,gh] at h2;exact h2.2.2 _ h1 _ (by simp) rfl
  refine⟨p,jd,⟨bL,J⟩,_,e7,_,aS,spec.lay cv ag3 Bb l2 v1 v2 ⟨by rw[Yw];exact p8,yi⟩ (by omega) λaCJ aX bt iN=>⟨⟨by omega,by omega⟩,⟨by omega,by omega,aX,bt,iN.is,iN.ok,iN.an.trans Yw,iN.cs.trans ag2,?_,λy=>?_,by rw[iN.CB];omega,λdf dG=>?_,?_,λg W=>?_⟩,by dsimp only;omega⟩⟩;rw[Bo,ek];exact iN.rows.trans ((kc _ j8).trans (mR _ _).symm);rw[iN.w,ah6,Bo,ek];simp;obtain⟨gj,eA⟩:=aaT df dG;exact⟨br.else gj λg z W aa=>iN.amV g z aa (eA g W),λg W=>iN.wN g (eA g W)⟩;refine⟨br.else kZ.1 λg z W aa=>iN.eP.bN g z aa (agz g W).1,λdf dG=>?_⟩;obtain⟨gj,eA⟩:=aaT df dG;exact br.else gj λg z W aa=>iN.amV g z aa (eA g W);obtain⟨f1,f2⟩:=agz g W;obtain⟨z,aa⟩:=e9.1 f2;exact⟨iN.eP.off aa f1,by rw[iN.eP.bN g z aa f1];simp⟩;rw[hR (by omega)] at j8;refine bE w n8 af T ⟨cv,ag3,j8.trans ad,Yw,P,by rw[ee];exact ad,arB,by rw[ag2,Nu,y4]⟩
 refine⟨λpa=>?_,λBc=>?_⟩
 .have lk:0<ls.length:=by omega
  have v27:mA Co k7 (ls.map λr=>(r.s,r.v)):=⟨br.else xI.own.cE λg z W aa=>by
   have:g≠n8:=λe=>by have:=xI.fresh g W;rw[e,X6] at this;cases this
   rw[OS,H.bq _ _ this];exact ael _ _ aa,λc I=>by
   obtain⟨r,O,rfl⟩:=bf.1 I;exact(Vh r O).mono V8⟩
  have xD:(ls.map λr=>(r.s,r.v)).map (·.2)=P.map (·.2):=by rw[De,ep];rfl
  have Yo:(P.map (·.2)).length=ls.length:=by rw[De,de]
  refine spec.BD (d:=an.toNat) v27 (λc I=>?_) (by omega) (by simp;omega) (by split<;>omega) (by simp only[de];split<;>omega) (by omega) λji mq cs dD Nu=>⟨λJ=>aW rfl J,λ_=>?_⟩;obtain⟨r,O,rfl⟩:=bf.1 I;obtain⟨_,h1,h2⟩:=ku r O;exact⟨by show r.v.length=_;omega,h2⟩;have aqW:=dD.own.le _ _ X7;have D0:∀{x:U},(∀g,x.aj=some g->Co g=none)->x.aj≠some n8:=λJ e=>by have:=J n8 e;rw[X7] at this;cases this
  have agx:=aqW;rw[Tn] at agx;refine(adL (a:=ha) (b:=⟨none,0,0⟩) (s:=ji) agx).1 ?_;obtain⟨V4,TC⟩:∃V4,V4=mq.ins n8 (zD ji):=⟨_,rfl⟩;have au7:V4=mq.ins n8 (bC #[.int .i64 an,.slice ji.a ji.n ji.c,.slice none 0 0,.map (some m)] 178 (0,0)):=by rw[TC,Tn]
  rw[<-au7];refine main (λc z I=>?_) (by rw[TC];exact H.bh _ _ _) (by rw[TC];exact Wd (dD.weaken V8) EC (D0 dD.own.fresh) (λc I=>D0 (dD.inner c I).fresh) _) (D0 dD.own.fresh) (λc I=>D0 (dD.inner c I).fresh) ?_;rw[TC,H.bq _ _ (λe=>by rw[e,EC] at I;cases I)];exact dD.own.le _ _ (V8 _ _ I);rw[Nu,y4,xD];have al:P.map (·.2)≠[]:=λe=>by rw[e] at Yo;simp at Yo;omega
  unfold AF;rw[aF al,Yo,atK]
 have lh:ls=[]:=kN (by omega)
 refine main V8 X7 (by rw[OS];exact Wd (zero.weaken Ns) EC (eg zero.own.fresh) (λc I=>eg (zero.inner c I).fresh) _) (eg zero.own.fresh) (λc I=>eg (zero.inner c I).fresh) ?_
 rw[y4,De,lh]
 rfl
end
end j1
namespace eE
section
variable{ids:M o}{b:bO}{i:o}{s:M o×M bO}
def atz{a:bO}(h:bD a b=ak):a≠b:=λe=>by rw[e,JW] at h;cases h
section
variable (ht:o->bO) (cb:o->M o)
def uT(b:bO)(id:o):bO:=if bD (ht id) b=ak then ht id else b
def pass(b:bO):bO:=(cb b.1).foldl (uT ht) b
def xV:N->bO->bO
 |0,b=>b|n+1,b=>pass ht cb (xV n b)
def XQ(l:M o)(b:bO):l.foldl (uT ht) b=b∨(bD (l.foldl (uT ht) b) b=ak/\∃i∈l,l.foldl (uT ht) b=ht i):=by
 induction l generalizing b with
 |nil=>exact .inl rfl|cons x l aM=>
  simp only[Lh];by_cases J:bD (ht x) b=ak;have e:uT ht b x=ht x:=by simp[uT,J]
  rw[e];rcases aM (ht x) with h|⟨h,i,hi,aB⟩;rw[h];exact .inr ⟨J,x,.head _,rfl⟩;exact .inr ⟨NW h J,i,.tail _ hi,aB⟩;have e:uT ht b x=b:=by simp[uT,J]
  rw[e];rcases aM b with h|⟨h,i,hi,aB⟩;exact .inl h;exact .inr ⟨h,i,.tail _ hi,aB⟩
def Lu(ids:M o)(b:bO):N:=ids.countP λi=>bD (ht i) b
def ax4(ids:M o)(b:bO):Lu ht ids b<=ids.length:=List.countP_le_length
def ax5(hi:i∈ids)(h:bD (ht i) b=ak):Lu ht ids (ht i)<Lu ht ids b:=by
 unfold Lu;have aiq:∀j,bD (ht j) (ht i)=ak->bD (ht j) b=ak:=λj aP=>NW aP h;induction ids with
 |nil=>cases hi
 |cons x l aM=>
  rw[List.countP_cons,List.countP_cons];have hle:l.countP (λj=>bD (ht j) (ht i))<=l.countP (λj=>bD (ht j) b):=List.countP_mono_left λj _ aP=>aiq j aP;by_cases J:x=i;subst J;rw[h,JW];simp;omega;have qw:i∈l:=by
    cases hi with
    |head=>exact aW rfl J|tail _ h=>exact h
  have:=aM qw;by_cases h1:bD (ht x) (ht i)=ak;rw[h1,aiq x h1];simpa using this;have rb:bD (ht x) (ht i)=ax:=by simpa using h1
  rw[rb];by_cases h2:bD (ht x) b=ak;rw[h2];simp;omega;have vA:bD (ht x) b=ax:=by simpa using h2
  rw[vA];simpa using this
def avL{n:N}(h:pass ht cb (xV ht cb n b)=xV ht cb n b):∀k,xV ht cb (n+k) b=xV ht cb n b:=by
 intro k;induction k with
 |zero=>rfl|succ k aM=>show pass ht cb (xV ht cb (n+k) b)=_;rw[aM,h]
def Mt(dg:N)(at':o):o:=(xV ht cb dg (ht at')).1
def axo(ch:∀i,(ht i).1=i)(ab:b.1∈ids/\b=ht b.1)(ae:∀i∈cb b.1,i∈ids):(pass ht cb b).1∈ids/\pass ht cb b=ht (pass ht cb b).1:=by rcases XQ ht (cb b.1) b with h|⟨_,i,hi,h⟩;unfold pass;rw[h];exact ab;unfold pass;rw[h,ch];exact⟨ae i hi,rfl⟩
def TP(ch:∀i,(ht i).1=i)(ab:b.1∈ids/\b=ht b.1)(ae:∀k∈ids,∀i∈cb k,i∈ids):∀n,(xV ht cb n b).1∈ids/\xV ht cb n b=ht (xV ht cb n b).1
 |0=>ab|n+1=>axo ht cb ch (TP ch ab ae n) (ae _ (TP ch ab ae n).1)
def afH{dg:N}{at':o}(ch:∀i,(ht i).1=i)(ab:at'∈ids)(ae:∀k∈ids,∀i∈cb k,i∈ids):Mt ht cb dg at'∈ids:=
 (TP ht cb ch (by rw[ch];exact⟨ab,rfl⟩) ae dg).1
def iG(s:M o×M bO)(id:o):M o×M bO:=if id∈s.1 then s else(s.1++ [id],pT (ht id) s.2)
def vx:N->M o->M bO->M o
 |0,_,_=>[]|_+1,_,[]=>[]|n+1,met,x::l=>x.1::vx n ((cb x.1).foldl (iG ht) (met,l)).1 ((cb x.1).foldl (iG ht) (met,l)).2
structure Met(ids:M o)(s:M o×M bO):Prop where
 nodup:s.1.Nodup
 sub:∀i∈s.1,i∈ids
 wait:∀h∈s.2,h.1∈s.1/\h=ht h.1
 Hj:(s.2.map (·.1)).Nodup
 Ch:qm s.2
def Met.one{at':o}(ch:∀i,(ht i).1=i)(h:at'∈ids):Met ht ids ([at'],[ht at']) where
 nodup:=by simp
 sub i hi:=by simp at hi;rw[hi];exact h
 wait bQ bU:=by simp at bU;subst bU;rw[ch];exact⟨.head _,rfl⟩
 Hj:=by simp
 Ch:=by simp[qm]
def Met.step(ch:∀i,(ht i).1=i)(h:Met ht ids s)(hi:i∈ids):Met ht ids (iG ht s i):=by unfold iG;split;exact h;rename_i ae;refine⟨?_,?_,?_,?_,ajL h.Ch⟩;refine gh.2 ⟨h.nodup,by simp,λa aE b ab=>?_⟩;simp at ab;subst ab;exact λe=>ae (e▸aE);intro j aP;rcases cN.1 aP with aP|aP;exact h.sub j aP;simp at aP;rw[aP];exact hi;intro x J;rcases cJ.1 ((GQ (ht i) s.2).mem_iff.1 J) with rfl|J;rw[ch];exact⟨by simp,rfl⟩;exact⟨iQ _ (h.wait x J).1,(h.wait x J).2⟩;have ad:=(GQ (ht i) s.2).map (·.1);refine ad.nodup_iff.2 ?_;rw[gm,ch];refine hI.2 ⟨λhm=>?_,h.Hj⟩;obtain⟨x,J,e⟩:=bf.1 hm;exact ae (e▸(h.wait x J).1)
def Met.fold(ch:∀i,(ht i).1=i):∀{l:M o} {s:M o×M bO},Met ht ids s->(∀i∈l,i∈ids)->Met ht ids (l.foldl (iG ht) s):=by
 intro l;induction l with
 |nil=>intro s h _;exact h
 |cons x l aM=>intro s h ar;exact aM (h.step ht ch (ar x (.head _))) λi hi=>ar i (.tail _ hi)
def Met.tail{met:M o}{x:bO}{l:M bO}(h:Met ht ids (met,x::l)):Met ht ids (met,l) where
 nodup:=h.nodup
 sub:=h.sub
 wait y ah:=h.wait y (.tail _ ah)
 Hj:=(hI.1 (by simpa using h.Hj)).2
 Ch:=(k6.1 h.Ch).2
def pj{l:M o}(ae:l.Nodup)(ag:∀i∈l,i∈ids):l.length<=ids.length:=by
 induction l generalizing ids with
 |nil=>simp|cons x l aM=>
  have J:=ag x (.head _);have h2:∀i∈l,i∈ids.erase x:=λi hi=>by refine(List.mem_erase_of_ne ?_).2 (ag i (.tail _ hi));exact λe=>(hI.1 ae).1 (e▸hi)
  have:=aM (hI.1 ae).2 h2;rw[List.length_erase_of_mem J] at this;have:0<ids.length:=U3 J;simp only[hX];omega
def Met.len(h:Met ht ids s):s.1.length<=ids.length:=pj h.nodup h.sub
def due(dg:N)(s:M o×M bO):N:=s.2.length+(dg-s.1.length)
def apz(ch:∀i,(ht i).1=i)(h:Met ht ids s)(hi:i∈ids):due ids.length (iG ht s i)=due ids.length s:=by
 have h2:=(h.step ht ch hi).len;unfold due;unfold iG at h2 ⊢;split;rfl;rename_i ae;rw[aF ae] at h2;have e:(pT (ht i) s.2).length=s.2.length+1:=by rw[(GQ (ht i) s.2).length_eq];simp
 simp only[e,ez,rO] at h2 ⊢;omega
def apy(ch:∀i,(ht i).1=i):∀{l:M o} {s:M o×M bO},Met ht ids s->(∀i∈l,i∈ids)->due ids.length (l.foldl (iG ht) s)=due ids.length s:=by
 intro l;induction l with
 |nil=>intro s _ _;rfl
 |cons x l aM=>intro s h ar;rw[Lh,aM (h.step ht ch (ar x (.head _))) λi hi=>ar i (.tail _ hi),apz ht ch h (ar x (.head _))]
def aqv(l:M o)(s:M o×M bO):(∀i∈s.1,i∈(l.foldl (iG ht) s).1)/\(∀i∈l,i∈(l.foldl (iG ht) s).1):=by
 induction l generalizing s with
 |nil=>exact⟨λi hi=>hi,λi hi=>by cases hi⟩
 |cons x l aM=>
  simp only[Lh];have h1:∀i∈s.1,i∈(iG ht s x).1:=λi hi=>by unfold iG;split;exact hi;exact iQ _ hi
  have h2:x∈(iG ht s x).1:=by unfold iG;split;assumption;simp
  refine⟨λi hi=>(aM _).1 i (h1 i hi),λi hi=>?_⟩;cases hi with
  |head=>exact(aM _).1 x h2|tail _ hi=>exact(aM _).2 i hi
def aqw(ch:∀i,(ht i).1=i)(l:M o)(s:M o×M bO):∀h∈(l.foldl (iG ht) s).2,h∈s.2∨h.1∉s.1:=by
 induction l generalizing s with
 |nil=>exact λh bU=>.inl bU|cons x l aM=>intro h bU;rcases aM (iG ht s x) h bU with h1|h1;unfold iG at h1;split at h1;exact .inl h1;rename_i ae;rcases cJ.1 ((GQ (ht x) s.2).mem_iff.1 h1) with rfl|h1;rw[ch];exact .inr ae;exact .inl h1;refine .inr λhm=>h1 ?_;unfold iG;split;exact hm;exact iQ _ hm
def afX(ch:∀i,(ht i).1=i)(ae:∀k∈ids,∀i∈cb k,i∈ids):∀(n:N) (met:M o) (l:M bO),Met ht ids (met,l)->∀i∈vx ht cb n met l,i∈ids:=by
 intro n;induction n with
 |zero=>intro met l _ i hi;cases hi
 |succ n aM=>
  intro met l h i hi;cases l with
  |nil=>cases hi
  |cons x l=>
   have J:=h.sub _ (h.wait x (.head _)).1;simp only[vx] at hi;cases hi with
   |head=>exact J|tail _ hi=>exact aM _ _ (Met.fold ht ch (h.tail ht) (ae _ J)) i hi
def afY(ch:∀i,(ht i).1=i)(ae:∀k∈ids,∀i∈cb k,i∈ids):∀(n:N) (met:M o) (l:M bO),Met ht ids (met,l)->
  (vx ht cb n met l).Nodup/\∀i∈vx ht cb n met l,i∈l.map (·.1)∨i∉met:=by
 intro n
 induction n with
 |zero=>intro met l _;exact⟨Ls,λi hi=>by cases hi⟩
 |succ n aM=>
  intro met l h;cases l with
  |nil=>exact⟨Ls,λi hi=>by cases hi⟩
  |cons x l=>
   have J:=h.sub _ (h.wait x (.head _)).1;have Z:=Met.fold ht ch (h.tail ht) (ae _ J);obtain⟨h1,h2⟩:=aM _ _ Z;have hk:∀i∈vx ht cb n ((cb x.1).foldl (iG ht) (met,l)).1 ((cb x.1).foldl (iG ht) (met,l)).2,i∈l.map (·.1)∨i∉met:=by intro i hi;rcases h2 i hi with h3|h3;obtain⟨y,ah,rfl⟩:=bf.1 h3;rcases aqw ht ch (cb x.1) (met,l) y ah with a7|a7;exact .inl (bf.2 ⟨y,a7,rfl⟩);exact .inr a7;exact .inr λhm=>h3 ((aqv ht (cb x.1) (met,l)).1 i hm)
   simp only[vx];refine⟨hI.2 ⟨λhm=>?_,h1⟩,λi hi=>?_⟩;have auh:=hI.1 (show(x.1::l.map (·.1)).Nodup by simpa using h.Hj);rcases hk _ hm with h3|h3;exact auh.1 h3;exact h3 (h.wait x (.head _)).1;cases hi with
   |head=>exact .inl (by simp)|tail _ hi=>rcases hk i hi with h3|h3;exact .inl (by simp at h3 ⊢;exact .inr h3);exact .inr h3
end
def Ff(ht:o->bO)(Px:N->o->M o)(dg lv:N):N->o->o
 |0,at'=>at'|c+1,at'=>Ff ht Px dg lv c (Mt ht (Px (lv+c+1)) dg at')
def afD{ht:o->bO}{Px:N->o->M o}{dg lv:N}(ch:∀i,(ht i).1=i)(ae:∀lv,∀k∈ids,∀i∈Px lv k,i∈ids):∀(c:N) (at':o),at'∈ids->Ff ht Px dg lv c at'∈ids
 |0,_,h=>h|c+1,at',h=>afD ch ae c _ (afH ht _ ch h (ae _))
end
section
variable{u ai u' ub:H}{b lv c n:N}{s t:U}{q l:M o}{K:o->H->Prop}
def uS{e k:N}{xs:M ap}(h:aJ ai u e k s xs){g:N}(W:s.aj=some g):u g≠none:=by
 rcases h.own.is with h0|⟨b0,cur,aE,ca,_⟩;rw[h0] at W;simp[U.aj] at W;have:b0=g:=by simpa[U.aj,aE] using W
 rw[<-this,ca];simp
inductive bp where
 |tree
 |src
 |map
 |node (id:o)
 |vec (id:o)
 |arr (id:o) (lv:N)
structure dq where
 p:N
 sv:U
 v:M o
 ks:M U
 kn:M (M o)
 top:N
def jJ(n:dq):M ap:=(.slice n.sv.a n.sv.n n.sv.c::n.ks.map λs=>.slice s.a s.n s.c)++ [.int .i64 n.top]
def jt(g:M (o×dq)):M (o×ap):=g.map λx=>(x.1,.pointer (some ⟨x.2.p,0,none⟩))
def eL(g:M (o×dq))(id:o):ay dq:=(g.find? λx=>x.1==id).map (·.2)
def C9(g:M (o×dq))(id:o):fR (jt g) id=(eL g id).map λn=>hy (some ⟨n.p,0,none⟩):=by
 induction g with
 |nil=>rfl|cons x g aM=>
  unfold fR eL jt at*;simp only[gm,HP];cases J:x.1==id with
  |true=>rfl|false=>exact aM
def iq{g:M (o×dq)}{id:o}{n:dq}(h:eL g id=some n):(id,n)∈g:=by
 unfold eL at h;cases Z:g.find? (λx=>x.1==id) with
 |none=>rw[Z] at h;cases h
 |some x=>
  rw[Z] at h;cases h;have h1:=K7 Z;have h2:=K8 Z;have:x.1=id:=by simpa using h2
  rw[<-this];exact h1
def AQ{g:M (o×dq)}{id:o}:eL g id=none↔id∉g.map (·.1):=by unfold eL;rw[ac1,Ll];simp only[bf,not_exists,not_and,UO]
def yY{g:M (o×dq)}{id:o}(h:id∈g.map (·.1)):∃n,eL g id=some n:=by
 cases J:eL g id with
 |some n=>exact⟨n,rfl⟩|none=>exact aW h (AQ.1 J)
def AP{g:M (o×dq)}(ae:(g.map (·.1)).Nodup){id:o}{n:dq}(h:(id,n)∈g):eL g id=some n:=by
 obtain⟨m,hm⟩:=yY (g:=g) (id:=id) (bf.2 ⟨_,h,rfl⟩);have h2:=iq hm;obtain⟨i,hi,sN⟩:=sn.1 h;obtain⟨j,aP,q7⟩:=sn.1 h2;have al:∀{i j:N} (hi:i<g.length) (aP:j<g.length),i<j->(g[i]).1≠(g[j]).1:=λhi aP gH=>by have:=qN.1 ae _ _ (by simpa using hi) (by simpa using aP) gH;simpa using this
 rcases UA i j with gH|gH|gH;exact aW (by rw[sN,q7]) (al hi aP gH);subst gH;rw[sN] at q7;cases q7;exact hm;exact aW (by rw[sN,q7]) (al aP hi gH)
structure nb(af:N->ay bp)(u:H)(id:o)(n:dq):Prop where
 cell:u n.p=some (.cells (jJ n).toArray 230 (0,0))
 tag:af n.p=some (.node id)
 vec:Ints u n.sv n.v
 Cv:∀g,n.sv.aj=some g->af g=some (.vec id)
 uL:n.ks.length=31
 GY:n.kn.length=31
 arr:∀(lv:N) (s:U) (l:M o),n.ks[lv]?=some s->n.kn[lv]?=some l->aJ CG u 3 1 s (l.flatMap encI)/\∀g,s.aj=some g->af g=some (.arr id lv)
def nJ(af:N->ay bp)(id:o)(c:N):Prop:=af c=some (.node id)∨af c=some (.vec id)∨∃lv,af c=some (.arr id lv)
def nJ.some{af:N->ay bp}{id:o}(h:nJ af id c):af c≠none:=by rcases h with e|e|⟨lv,e⟩<;>rw[e]<;>simp
def nb.bN{af aX:N->ay bp}{id:o}{n:dq}(h:nb af u id n)(Z:∀c,nJ af id c->aX c=af c)(hu:∀c z,u c=some z->nJ af id c->u' c=some z):nb aX u' id n where
 cell:=hu _ _ h.cell (.inl h.tag)
 tag:=by rw[Z _ (.inl h.tag)];exact h.tag
 vec:=br.else h.vec λg z W aa=>hu g z aa (.inr (.inl (h.Cv g W)))
 Cv g W:=by rw[Z _ (.inr (.inl (h.Cv g W)))];exact h.Cv g W
 uL:=h.uL
 GY:=h.GY
 arr lv s l h1 h2:=by obtain⟨h3,a7⟩:=h.arr lv s l h1 h2;exact⟨(h3.own.le λb z ab b9=>hu b z b9 (.inr (.inr ⟨lv,a7 b ab⟩))).f,λg W=>by rw[Z _ (.inr (.inr ⟨lv,a7 g W⟩))];exact a7 g W⟩
structure aQ where
 an:o
 bY:o
 src:N
 m:N
 st:o
 g:M (o×dq)
 entry:o
def fj(T:aQ):M ap:=[.int .i64 T.an,.int .i64 T.bY,.pointer (some ⟨T.src,0,none⟩),.map (some T.m),.int .i64 T.entry]
structure ed(af:N->ay bp)(u:H)(b:N)(T:aQ):Prop where
 cell:u b=some (.cells (fj T).toArray 184 (0,0))
 src:u T.src=some (.cells #[.int .u64 T.st] 215 (0,0))
 Ik:dh T.st
 map:fx u T.m (jt T.g)
 dN:af b=some .tree
 h9:af T.src=some .src
 dn:af T.m=some .map
 nodes:∀x∈T.g,nb af u x.1 x.2
def ed.nodup{af:N->ay bp}{T:aQ}(h:ed af u b T):(T.g.map (·.1)).Nodup:=by obtain⟨es,c,_,he⟩:=h.map;have:=he.nodup;unfold jt at this;rw[ep] at this;exact this
def ed.bN{af aX:N->ay bp}{T:aQ}(h:ed af u b T)(Z:∀c,af c≠none->aX c=af c)(hu:∀c z,u c=some z->af c≠none->u' c=some z):ed aX u' b T where
 cell:=hu _ _ h.cell (by rw[h.dN];simp)
 src:=hu _ _ h.src (by rw[h.h9];simp)
 Ik:=h.Ik
 map:=h.map.else λz aa=>hu _ _ aa (by rw[h.dn];simp)
 dN:=by rw[Z _ (by rw[h.dN];simp)];exact h.dN
 h9:=by rw[Z _ (by rw[h.h9];simp)];exact h.h9
 dn:=by rw[Z _ (by rw[h.dn];simp)];exact h.dn
 nodes x J:=(h.nodes x J).bN (λc I=>Z c I.some) λc z aa ht=>hu c z aa ht.some
def ed.mono{af:N->ay bp}{T:aQ}(h:ed af u b T)(hu:u.le u'):ed af u' b T:=h.bN (λ_ _=>rfl) λc z aa _=>hu c z aa
def ed.node{af:N->ay bp}{T:aQ}(h:ed af u b T){id:o}{n:dq}(ae:eL T.g id=some n):nb af u id n:=h.nodes _ (iq ae)
def kP{af:N->ay bp}{T:aQ}(h:ed af u b T):u.cell? ⟨b,0,none⟩=some (.int .i64 T.an)/\u.cell? ((cB b 0 none).add 1)=some (.int .i64 T.bY)/\
  u.cell? ((cB b 0 none).add 2)=some (.pointer (some ⟨T.src,0,none⟩))/\u.cell? ((cB b 0 none).add 3)=some (.map (some T.m))/\u.cell? ((cB b 0 none).add 4)=some (.int .i64 T.entry):=by
 have ab:=h.cell
 refine⟨?_,?_,?_,?_,?_⟩<;>simp[H.cell?,ev,ab,fj]
def acg{n:dq}(h:n.ks.length=31):(jJ n).length=33:=by simp[jJ,h]
def aw7(n:dq):(jJ n)[0]?=some (.slice n.sv.a n.sv.n n.sv.c):=by simp[jJ]
def aw5{n:dq}(h:n.ks[lv]?=some s):(jJ n)[1+lv]?=some (.slice s.a s.n s.c):=by obtain⟨ar,he⟩:=jM.1 h;unfold jJ;rw[qJ (by simp;omega),Nat.add_comm,x9,iR,h];rfl
def Um{n:dq}(h:n.ks.length=31):(jJ n)[32]?=some (.int .i64 n.top):=by unfold jJ;rw[K2 (by simp[h])];simp[h]
def Hh{af:N->ay bp}{id:o}{n:dq}(h:nb af u id n)(i:N):u.cell? ⟨n.p,i,none⟩=(jJ n)[i]?:=by simp[H.cell?,h.cell]
def dq.jN(n:dq)(lv:N)(s:U)(l:M o):dq:={n with ks:=n.ks.set lv s,kn:=n.kn.set lv l}
def aw6{n:dq}(h:lv<n.ks.length)(s:U)(l:M o):jJ (n.jN lv s l)=(jJ n).set (1+lv) (.slice s.a s.n s.c):=by unfold jJ dq.jN;simp only;rw[List.set_append_left _ _ (by simp;omega),Nat.add_comm,K6,HO]
def adJ{n:dq}(I:u n.p=some (.cells (jJ n).toArray 230 (0,0)))(hk:n.ks.length=31)(ar:lv<31)(l:M o){f:H->Prop}
  (Z:f (u.ins n.p (.cells (jJ (n.jN lv s l)).toArray 230 (0,0)))):H.aO u ⟨n.p,1+lv,none⟩ [.slice s.a s.n s.c] f:=by
 refine⟨_,_,I,rfl,by simp[acg hk];omega,by simp[cT],?_⟩
 have e:wr (jJ n).toArray (1+lv) [.slice s.a s.n s.c]=(jJ (n.jN lv s l)).toArray:=by rw[aw6 (by rw[hk];exact ar)];apply K0;rw[LR _ _ _ (by simp[acg hk];omega)];simp only[rO];rw[List.set_eq_take_append_cons_drop,a1 (by rw[acg hk];omega)];simp
 simp only[e]
 exact Z
def qS(g:M (o×dq))(id:o)(n:dq):M (o×dq):=g.map λx=>if x.1=id then(x.1,n) else x
def ayN(g:M (o×dq))(id:o)(n:dq):(qS g id n).map (·.1)=g.map (·.1):=by unfold qS;rw[ep];refine zU λx _=>?_;simp only[U6];split<;>rfl
def ayO{g:M (o×dq)}{id:o}{n n':dq}(bS:(g.map (·.1)).Nodup)(h:eL g id=some n)(ad:n'.p=n.p):jt (qS g id n')=jt g:=by unfold qS jt;rw[ep];refine zU λx J=>?_;simp only[U6];split;rename_i e;have:eL g id=some x.2:=AP bS (by rw[<-e];exact J);rw[h] at this;cases this;simp[ad];rfl
def MU{g:M (o×dq)}{id:o}{n:dq}(i:o):eL (qS g id n) i=if i=id then(eL g i).map λ_=>n else eL g i:=by
 induction g with
 |nil=>simp[qS,eL]|cons x g aM=>unfold qS eL at*;simp only[gm,HP];by_cases J:x.1=id;simp only[J,qI];by_cases hi:id=i;subst hi;simp;simp only[Qf hi];exact aM;simp only[aF J];by_cases hi:x.1=i;subst hi;simp[J];simp only[Qf hi];exact aM
def aww{g:M (o×dq)}{id:o}{n:dq}{x:o×dq}(h:x∈qS g id n):(x.1≠id/\x∈g)∨(x=(id,n)/\id∈g.map (·.1)):=by obtain⟨y,ah,rfl⟩:=bf.1 h;split;rename_i e;exact .inr ⟨by rw[e],bf.2 ⟨y,ah,e⟩⟩;rename_i e;exact .inl ⟨e,ah⟩
def ed.set{af aX:N->ay bp}{T:aQ}{id:o}{n n':dq}(h:ed af u b T)(ae:eL T.g id=some n)(ad:n'.p=n.p)(hW:nb aX u' id n')(Z:∀c,af c≠none->¬nJ af id c->aX c=af c)
  (hu:∀c z,u c=some z->af c≠none->¬nJ af id c->u' c=some z):ed aX u' b {T with g:=qS T.g id n'}:=by
 have no:∀{c:N} {t:bp},af c=some t->(∀i,t≠.node i)->(∀i,t≠.vec i)->(∀i lv,t≠.arr i lv)->af c≠none/\¬nJ af id c:=λe h1 h2 h3=>⟨by rw[e];simp,by rintro(aB|aB|⟨lv,aB⟩)<;>rw[e] at aB<;>cases aB;exact h1 _ rfl;exact h2 _ rfl;exact h3 _ _ rfl⟩
 have cb:=no h.dN (by simp) (by simp) (by simp)
 have kA:=no h.h9 (by simp) (by simp) (by simp)
 have zy:=no h.dn (by simp) (by simp) (by simp)
 refine⟨hu _ _ h.cell cb.1 cb.2,hu _ _ h.src kA.1 kA.2,h.Ik,?_,by rw[Z _ cb.1 cb.2];exact h.dN,by simp only;rw[Z _ kA.1 kA.2];exact h.h9,by simp only;rw[Z _ zy.1 zy.2];exact h.dn,λx J=>?_⟩
 simp only
 rw[ayO h.nodup ae ad]
 exact h.map.else λz aa=>hu _ _ aa zy.1 zy.2
 rcases aww J with⟨al,J⟩|⟨rfl,_⟩
 have nX:∀c,nJ af x.1 c->¬nJ af id c:=by rintro c (e|e|⟨lv,e⟩) (aB|aB|⟨wa,aB⟩)<;>rw[e] at aB<;>cases aB<;>exact al rfl
 exact(h.nodes x J).bN (λc I=>Z c I.some (nX c I)) λc z aa I=>hu c z aa I.some (nX c I)
 exact hW
structure In(ai u:H)(af:N->ay bp)(b:N)(T:aQ):Prop where
 aI:ed af u b T
 le:ai.le u
 out:∀c,af c≠none->ai c=none
 known:∀c,af c≠none->u c≠none
structure gA(u:H)(af:N->ay bp)(u':H)(aX:N->ay bp):Prop where
 bN:∀c z,u c=some z->af c=none->u' c=some z
 grow:∀c,aX c≠none->af c≠none∨u c=none
def gA.refl(u:H)(af:N->ay bp):gA u af u af:=⟨λ_ _ h _=>h,λ_ h=>.inl h⟩
def gA.trans{aU dc:H}{af c5 ib:N->ay bp}(h:gA u af aU c5)(k:gA aU c5 dc ib):gA u af dc ib where
 bN c z I Z:=k.bN c z (h.bN c z I Z) (by
  cases e:c5 c with
  |none=>rfl|some t=>rcases h.grow c (by rw[e];simp) with h1|h1;exact aW Z h1;rw[I] at h1;cases h1)
 grow c I:=by
  rcases k.grow c I with h1|h1;exact h.grow c h1;cases e:af c with
  |some t=>exact .inl (by simp)|none=>
   right;cases aB:u c with
   |none=>rfl|some z=>rw[h.bN c z aB e] at h1;cases h1
def gA.mono{aU:H}{af:N->ay bp}(h:u.le aU):gA u af aU af:=⟨λc z I _=>h c z I,λ_ h=>.inl h⟩
def gA.apart{v:H}{af aX:N->ay bp}(h:gA u af u' aX)(aA:v.le u)(aw:∀c,af c≠none->v c=none):v.le u'/\∀c,aX c≠none->v c=none:=by
 refine⟨λc z I=>h.bN c z (aA c z I) ?_,λc I=>?_⟩;cases e:af c with
 |none=>rfl|some t=>have:=aw c (by rw[e];simp);rw[I] at this;cases this
 rcases h.grow c I with h1|h1;exact aw c h1;exact aA.none h1
def In.mono{af:N->ay bp}{T:aQ}(h:In ai u af b T)(hu:u.le u'):In ai u' af b T:=
 ⟨h.aI.mono hu,h.le.trans hu,h.out,λc I=>by obtain⟨z,aa⟩:=e9.1 (h.known c I);rw[hu c z aa];simp⟩
structure L9(af:N->ay bp)(u:H)(id:o)(aX:N->ay bp)(u':H):Prop where
 wN:∀c,af c≠none->¬nJ af id c->aX c=af c
 bN:∀c z,u c=some z->¬nJ af id c->u' c=some z
 grow:∀c,aX c≠none->af c≠none∨u c=none
 known:∀c,aX c≠none->u' c≠none
def L9.eP{af aX:N->ay bp}{id:o}(h:L9 af u id aX u'):gA u af u' aX:=
 ⟨λc z I Z=>h.bN c z I λhm=>hm.some Z,h.grow⟩
def nb.level{gN:H}{af:N->ay bp}{id:o}{n:dq}(eF:nb af u id n)(vQ:∀c,af c≠none->u c≠none){aq:U}{bw:M o}(ag:n.ks[lv]?=some s)(aa:aJ CG gN 3 1 aq (bw.flatMap encI))
  (he:∀c z,u c=some z->s.aj≠some c->gN c=some z) (ab:∀c,aq.aj=some c->s.aj=some c∨u c=none):
  ∃aX,nb aX (gN.ins n.p (.cells (jJ (n.jN lv aq bw)).toArray 230 (0,0))) id (n.jN lv aq bw)/\L9 af u id aX (gN.ins n.p (.cells (jJ (n.jN lv aq bw)).toArray 230 (0,0))):=by
 have nU:lv<31:=by rw[<-eF.uL];exact(jM.1 ag).1
 obtain⟨l,ar⟩:∃l,n.kn[lv]?=some l:=⟨n.kn[lv]'(by rw[eF.GY];exact nU),cr _⟩
 have dW:∀g,s.aj=some g->af g=some (.arr id lv):=(eF.arr lv s l ag ar).2
 have uE:s.aj≠some n.p:=λe=>by have:=dW _ e;rw[eF.tag] at this;cases this
 have aao:aq.aj≠some n.p:=λe=>by rcases ab _ e with h1|h1;exact uE h1;exact vQ n.p (by rw[eF.tag];simp) h1
 let aX:N->ay bp:=λc=>open Classical in if aq.aj=some c then some (.arr id lv) else if s.aj=some c then none else af c
 have aS:∀c,aq.aj=some c->aX c=some (.arr id lv):=λc I=>a1 I
 have aB:∀c,aq.aj≠some c->s.aj≠some c->aX c=af c:=λc h1 h2=>(aF h1).trans (aF h2)
 have cW:∀c,aq.aj≠some c->s.aj=some c->aX c=none:=λc h1 h2=>(aF h1).trans (a1 h2)
 have fN:∀c,af c≠none->s.aj≠some c->aX c=af c:=λc h1 h2=>aB c (λe=>(ab c e).elim h2 (vQ c h1)) h2
 have Zo:∀c,c≠n.p->(gN.ins n.p (.cells (jJ (n.jN lv aq bw)).toArray 230 (0,0))) c=gN c:=λc I=>H.bq _ _ I
 have o6:∀c z,u c=some z->c≠n.p->s.aj≠some c->(gN.ins n.p (.cells (jJ (n.jN lv aq bw)).toArray 230 (0,0))) c=some z:=λc z h1 h2 h3=>by rw[Zo c h2];exact he c z h1 h3
 refine⟨aX,?_,⟨λc h1 h2=>fN c h1 λe=>h2 (.inr (.inr ⟨lv,dW c e⟩)),λc z h1 h3=>o6 c z h1 (λe=>h3 (.inl (by rw[e];exact eF.tag))) λe=>h3 (.inr (.inr ⟨lv,dW c e⟩)),λc I=>?_,λc I=>?_⟩⟩
 refine⟨H.bh _ _ _,?_,?_,λg W=>?_,by simp[dq.jN,eF.uL],by simp[dq.jN,eF.GY],λwa s2 gg h1 h2=>?_⟩
 show aX n.p=_;rw[aB _ aao uE];exact eF.tag
 refine br.else eF.vec λg z W rf=>o6 g z rf (λe=>?_) λe=>?_
 have:=eF.Cv g W;rw[e,eF.tag] at this;cases this
 have:=eF.Cv g W;rw[dW g e] at this;cases this
 have aA:=eF.Cv g W
 rw[fN g (by rw[aA];simp) (λe=>by rw[dW g e] at aA;cases aA)];exact aA
 by_cases e:wa=lv
 subst e
 simp only[dq.jN] at h1 h2
 rw[zX (by rw[eF.uL];exact nU)] at h1
 rw[zX (by rw[eF.GY];exact nU)] at h2
 cases h1;cases h2
 exact⟨(aa.own.le λc z I sY=>by rw[Zo c (λe=>aao (e▸I))];exact sY).f,λg W=>aS g W⟩
 simp only[dq.jN] at h1 h2
 rw[u0 (dz e)] at h1 h2
 obtain⟨h3,a7⟩:=eF.arr wa s2 gg h1 h2
 have ne:∀g,s2.aj=some g->s.aj≠some g:=λg W gw=>by have:=a7 g W;rw[dW g gw] at this;cases this;exact e rfl
 refine⟨(h3.own.le λc z I sY=>o6 c z sY (λnk=>?_) (ne c I)).f,λg W=>?_⟩
 have:=a7 c I;rw[nk,eF.tag] at this;cases this
 rw[fN g (by rw[a7 g W];simp) (ne g W)];exact a7 g W
 by_cases h1:aq.aj=some c
 rcases ab c h1 with h2|h2
 exact .inl (by rw[dW c h2];simp)
 exact .inr h2
 by_cases h2:s.aj=some c
 exact aW (cW c h1 h2) I
 rw[aB c h1 h2] at I;exact .inl I
 by_cases h1:aq.aj=some c
 have:=uS aa h1
 rw[Zo c (λe=>aao (e▸h1))];exact this
 by_cases h2:s.aj=some c
 exact aW (cW c h1 h2) I
 rw[aB c h1 h2] at I
 obtain⟨z,sY⟩:=e9.1 (vQ c I)
 by_cases h3:c=n.p
 rw[h3,H.bh];simp
 rw[o6 c z sY h3 h2];simp
def In.base{af aX:N->ay bp}{T:aQ}(h:In ai u af b T)(ht:gA u af u' aX):ai.le u'/\∀c,aX c≠none->ai c=none:=ht.apart h.le h.out
def In.shift{af aX:N->ay bp}{T:aQ}(h:In ai u af b T){id:o}{n n':dq}(ae:eL T.g id=some n)(ad:n'.p=n.p)(hW:nb aX u' id n')(aD:L9 af u id aX u'):
  In ai u' aX b {T with g:=qS T.g id n'}:=
 ⟨h.aI.set ae ad hW aD.wN λc z h1 _ h3=>aD.bN c z h1 h3,(h.base aD.eP).1,(h.base aD.eP).2,aD.known⟩
def In.ayY{af aX:N->ay bp}{T:aQ}(h:In ai u af b T){id:o}(ch:id∉T.g.map (·.1))(aD:L9 af u id aX u'):In ai u' aX b T:=by
 have no:∀{c:N} {t:bp},af c=some t->(∀i,t≠.node i)->(∀i,t≠.vec i)->(∀i lv,t≠.arr i lv)->af c≠none/\¬nJ af id c:=λe h1 h2 h3=>⟨by rw[e];simp,by rintro(aB|aB|⟨lv,aB⟩)<;>rw[e] at aB<;>cases aB;exact h1 _ rfl;exact h2 _ rfl;exact h3 _ _ rfl⟩
 have cb:=no h.aI.dN (by simp) (by simp) (by simp);have kA:=no h.aI.h9 (by simp) (by simp) (by simp);have zy:=no h.aI.dn (by simp) (by simp) (by simp);refine⟨⟨aD.bN _ _ h.aI.cell cb.2,aD.bN _ _ h.aI.src kA.2,h.aI.Ik,h.aI.map.else λz aa=>aD.bN _ _ aa zy.2,by rw[aD.wN _ cb.1 cb.2];exact h.aI.dN,by rw[aD.wN _ kA.1 kA.2];exact h.aI.h9,
  by rw[aD.wN _ zy.1 zy.2];exact h.aI.dn,λx J=>?_⟩,(h.base aD.eP).1,(h.base aD.eP).2,aD.known⟩
 have al:x.1≠id:=λe=>ch (bf.2 ⟨x,J,e⟩);have nX:∀c,nJ af x.1 c->¬nJ af id c:=by rintro c (e|e|⟨lv,e⟩) (aB|aB|⟨wa,aB⟩)<;>rw[e] at aB<;>cases aB<;>exact al rfl
 exact(h.aI.nodes x J).bN (λc I=>aD.wN c I.some (nX c I)) λc z aa I=>aD.bN c z aa (nX c I)
def In.level{gN:H}{af:N->ay bp}{T:aQ}(h:In ai u af b T){id:o}{n:dq}(ae:eL T.g id=some n){aq:U}{bw:M o}(ag:n.ks[lv]?=some s)(aa:aJ CG gN 3 1 aq (bw.flatMap encI))
  (he:∀c z,u c=some z->s.aj≠some c->gN c=some z) (ab:∀c,aq.aj=some c->s.aj=some c∨u c=none):
  ∃aX,In ai (gN.ins n.p (.cells (jJ (n.jN lv aq bw)).toArray 230 (0,0))) aX b {T with g:=qS T.g id (n.jN lv aq bw)}/\gA u af (gN.ins n.p (.cells (jJ (n.jN lv aq bw)).toArray 230 (0,0))) aX:=by
 obtain⟨aX,h1,h2⟩:=(h.aI.node ae).level h.known ag aa he ab
 exact⟨aX,h.shift ae rfl h1 h2,h2.eP⟩
def In.KL{af:N->ay bp}{T:aQ}(h:In ai u af b T):T.src≠b/\T.m≠b/\T.src≠T.m/\∀i c,nJ af i c->c≠b/\c≠T.m/\c≠T.src:=by refine⟨λe=>?_,λe=>?_,λe=>?_,λi c hm=>⟨λe=>?_,λe=>?_,λe=>?_⟩⟩;have:=h.aI.h9;rw[e,h.aI.dN] at this;cases this;have:=h.aI.dn;rw[e,h.aI.dN] at this;cases this;have:=h.aI.dn;rw[<-e,h.aI.h9] at this;cases this;rw[e] at hm;rcases hm with aB|aB|⟨_,aB⟩<;>rw[h.aI.dN] at aB<;>cases aB;rw[e] at hm;rcases hm with aB|aB|⟨_,aB⟩<;>rw[h.aI.dn] at aB<;>cases aB;rw[e] at hm;rcases hm with aB|aB|⟨_,aB⟩<;>rw[h.aI.h9] at aB<;>cases aB
def In.write{af:N->ay bp}{T:aQ}(h:In ai u af b T)(I:af c≠none)(z:Obj):gA u af (u.ins c z) af/\ai.le (u.ins c z)/\∀x,af x≠none->(u.ins c z) x≠none:=by have ht:gA u af (u.ins c z) af:=⟨λx y J Z=>by have al:x≠c:=λe=>I (by rw[<-e];exact Z);rw[H.bq _ _ al];exact J,λx J=>.inl J⟩;refine⟨ht,(h.base ht).1,λx J=>?_⟩;unfold H.ins;split;simp;exact h.known x J
def In.QA{af:N->ay bp}{T:aQ}(h:In ai u af b T)(e:o):In ai (u.ins b (.cells (fj {T with entry:=e}).toArray 184 (0,0))) af b {T with entry:=e}/\
  gA u af (u.ins b (.cells (fj {T with entry:=e}).toArray 184 (0,0))) af:=by
 obtain⟨h1,h2,h3⟩:=h.write (c:=b) (by rw[h.aI.dN];simp) (.cells (fj {T with entry:=e}).toArray 184 (0,0))
 obtain⟨b4,eb,_,eZ⟩:=h.KL
 exact⟨⟨⟨H.bh _ _ _,by rw[H.bq _ _ b4];exact h.aI.src,h.aI.Ik,h.aI.map.else λz aa=>by rw[H.bq _ _ eb];exact aa,h.aI.dN,h.aI.h9,h.aI.dn,
  λx J=>(h.aI.nodes x J).bN (λ_ _=>rfl) λc z aa hm=>by rw[H.bq _ _ (eZ _ c hm).1];exact aa⟩,h2,h.out,h3⟩,h1⟩
def VI{af:N->ay bp}{T:aQ}(h:ed af u b T){e:o}{f:H->Prop}(Z:f (u.ins b (.cells (fj {T with entry:=e}).toArray 184 (0,0)))):H.aO u ((cB b 0 none).add 4) [.int .i64 e] f:=by
 rw[jh];refine⟨_,_,h.cell,rfl,by simp[fj],by simp[cT],?_⟩;have:wr (fj T).toArray (0+4) [.int .i64 e]=(fj {T with entry:=e}).toArray:=by simp[wr,fj]
 simp only[this];exact Z
def In.ayP{af:N->ay bp}{T:aQ}(h:In ai u af b T){st:o}(dW:dh st):In ai (u.ins T.src (.cells #[.int .u64 st] 215 (0,0))) af b {T with st:=st}/\gA u af (u.ins T.src (.cells #[.int .u64 st] 215 (0,0))) af:=by
 obtain⟨h1,h2,h3⟩:=h.write (c:=T.src) (by rw[h.aI.h9];simp) (.cells #[.int .u64 st] 215 (0,0));obtain⟨b4,eb,jI,eZ⟩:=h.KL;exact⟨⟨⟨by rw[H.bq _ _ (dz b4)];exact h.aI.cell,H.bh _ _ _,dW,h.aI.map.else λz aa=>by rw[H.bq _ _ (dz jI)];exact aa,h.aI.dN,h.aI.h9,h.aI.dn,
  λx J=>(h.aI.nodes x J).bN (λ_ _=>rfl) λc z aa hm=>by rw[H.bq _ _ (eZ _ c hm).2.2];exact aa⟩,h2,h.out,h3⟩,h1⟩
def In.alO{af:N->ay bp}{T:aQ}(h:In ai u af b T){z:Obj}{b0:M (o×dq)}(hm:fx (u.ins T.m z) T.m (jt b0))(W:∀x∈b0,nb af u x.1 x.2):In ai (u.ins T.m z) af b {T with g:=b0}/\gA u af (u.ins T.m z) af:=by
 obtain⟨h1,h2,h3⟩:=h.write (c:=T.m) (by rw[h.aI.dn];simp) z;obtain⟨b4,eb,jI,eZ⟩:=h.KL;exact⟨⟨⟨by rw[H.bq _ _ (dz eb)];exact h.aI.cell,by rw[H.bq _ _ jI];exact h.aI.src,h.aI.Ik,hm,h.aI.dN,h.aI.h9,h.aI.dn,
  λx J=>(W x J).bN (λ_ _=>rfl) λc z aa xD=>by rw[H.bq _ _ (eZ _ c xD).2.1];exact aa⟩,h2,h.out,h3⟩,h1⟩
def cS(g:M (o×dq))(q:M o)(id:o):bO:=(id,match eL g id with
 |some n=>fE n.v q n.v.length|none=>0)
def l0(g:M (o×dq))(lv:N)(id:o):M o:=match eL g id with
 |some n=>n.kn.getD lv []|none=>[]
def ur(g:M (o×dq))(q:M o)(id:o):(cS g q id).1=id:=rfl
structure qk(an:o)(g:M (o×dq)):Prop where
 hl:1<=an/\an<=64
 vec:∀x∈g,(x.2.v.length:o)=an/\dj x.2.v
 top:∀x∈g,x.2.top<=30
 known:∀x∈g,∀l∈x.2.kn,∀i∈l,i∈g.map (·.1)
 ids:∀x∈g,1<=x.1/\x.1<=1000000000
 small:g.length<=513
def qk.cb{an:o}{g:M (o×dq)}(h:qk an g)(lv:N):∀k∈g.map (·.1),∀i∈l0 g lv k,i∈g.map (·.1):=by intro k hk i hi;obtain⟨n,ae⟩:=yY hk;unfold l0 at hi;rw[ae] at hi;simp only at hi;rcases kC lv n.kn.length with ar|ar;rw[du,cr ar] at hi;exact h.known _ (iq ae) _ (kE ar) i hi;rw[du,iy ar] at hi;cases hi
def we:om aH 182 3 227 (.pointer none):=⟨by kernel_rfl,by kernel_rfl,λ_=>by kernel_rfl⟩
def KP(p lv:N):((cB p 0 none).add 1).add (lv*1)=⟨p,1+lv,none⟩:=by rw[Addr.Az,jh,B1,k5]
structure tS(u:H)(b:N)(T:aQ):Prop where
 cell:u b=some (.cells (fj T).toArray 184 (0,0))
 map:fx u T.m (jt T.g)
 nodes:∀x∈T.g,u x.2.p=some (.cells (jJ x.2).toArray 230 (0,0))/\Ints u x.2.sv x.2.v
def ed.Vd{af:N->ay bp}{T:aQ}(h:ed af u b T)(hu:∀c z,u c=some z->af c≠none->(∀i lv,af c≠some (.arr i lv))->u' c=some z):tS u' b T where
 cell:=hu _ _ h.cell (by rw[h.dN];simp) (by rw[h.dN];simp)
 map:=h.map.else λz aa=>hu _ _ aa (by rw[h.dn];simp) (by rw[h.dn];simp)
 nodes x J:=by have eF:=h.nodes x J;exact⟨hu _ _ eF.cell (by rw[eF.tag];simp) (by rw[eF.tag];simp),br.else eF.vec λg z W aa=>hu g z aa (by rw[eF.Cv g W];simp) (by rw[eF.Cv g W];simp)⟩
def ed.rd{af:N->ay bp}{T:aQ}(h:ed af u b T):tS u b T:=h.Vd λ_ _ aa _ _=>aa
def tS.mono{T:aQ}(h:tS u b T)(hu:u.le u'):tS u' b T:=
 ⟨hu _ _ h.cell,h.map.mono hu,λx J=>⟨hu _ _ (h.nodes x J).1,(h.nodes x J).2.mono hu⟩⟩
def alc{T:aQ}(h:tS u b T):u.cell? ⟨b,0,none⟩=some (.int .i64 T.an)/\u.cell? ((cB b 0 none).add 1)=some (.int .i64 T.bY)/\
  u.cell? ((cB b 0 none).add 3)=some (.map (some T.m))/\u.cell? ((cB b 0 none).add 4)=some (.int .i64 T.entry):=by
 have ab:=h.cell
 refine⟨?_,?_,?_,?_⟩<;>simp[H.cell?,ev,ab,fj]
def alK{T:aQ}(h:tS u b T){id:o}(ch:id∈T.g.map (·.1)){K:ay bc->H->Prop}
  (au:∀n,eL T.g id=some n->K (some ⟨n.p,0,none⟩) u):dd aH (gY 182 (.map (some T.m)) (.int .i64 id) ax) [.one .ptr] u K:=by
 obtain⟨n,ae⟩:=yY ch
 refine Qw we h.map (ct:=.ptr) (some ⟨n.p,0,none⟩) ?_ (au n ae)
 rw[C9,ae];rfl
def vb{af:N->ay bp}{T:aQ}(h:ed af u b T){id:o}(ch:id∈T.g.map (·.1)){K:ay bc->H->Prop}
  (au:∀n,eL T.g id=some n->nb af u id n->K (some ⟨n.p,0,none⟩) u):dd aH (gY 182 (.map (some T.m)) (.int .i64 id) ax) [.one .ptr] u K:=
 alK h.rd ch λn ae=>au n ae (h.node ae)
structure sD(u:H)(an:o)(t:U)(q:M o):Prop where
 is:Ints u t q
 ok:dj q
 len:(q.length:o)=an
def sD.mono{an:o}(h:sD u an t q)(k:u.le u'):sD u' an t q:=⟨h.is.mono k,h.ok,h.len⟩
def spec.Zq{T:aQ}{id:o}{K:o->o->o->H->Prop}(h:tS u b T)(W:qk T.an T.g)(ch:id∈T.g.map (·.1))(ht:sD u T.an t q)
  (au:K id (dk (cS T.g q id).2) (dr (cS T.g q id).2) u):C.pQ (some ⟨b,0,none⟩) id t u K:=by
 obtain⟨_,_,fg,_⟩:=alc h
 apply aG.pQ
 refine⟨_,rfl,_,fg,alK h ch λn ae=>⟨_,rfl,n.sv,?_,?_⟩⟩
 have:=(h.nodes _ (iq ae)).1
 simp only at this
 simp[H.cell?,this,jJ]
 have aA:=W.vec _ (iq ae)
 refine spec.lD (h.nodes _ (iq ae)).2 ht.is aA.2 ?_ ht.ok ?_ λx y J ah he=>?_
 have:=W.hl;have:=aA.1;simp only at this ⊢;omega
 have:=aA.1;have:=ht.len;simp only at*;omega
 have e:(cS T.g q id).2=fl x y:=by rw[he];simp[cS,ae]
 rw[e,Zl ah,abW ah] at au
 exact au
def spec.pQ{af:N->ay bp}{T:aQ}{id:o}{K:o->o->o->H->Prop}(h:ed af u b T)(W:qk T.an T.g)(ch:id∈T.g.map (·.1))(ht:sD u T.an t q)
  (au:K id (dk (cS T.g q id).2) (dr (cS T.g q id).2) u):C.pQ (some ⟨b,0,none⟩) id t u K:=spec.Zq h.rd W ch ht au
def wc(bY lv:o):o:=if lv=0 then 2*bY else bY
def spec.Bf{T:aQ}{lv:o}(h:tS u b T)(ar:1<=T.bY/\T.bY<=16)(au:K (wc T.bY lv) u):C.Bf (some ⟨b,0,none⟩) lv u K:=by obtain⟨_,c1,_⟩:=alc h;apply aG.Bf;unfold wc at au;refine⟨λh0=>⟨_,rfl,_,c1,⟨by omega,by omega⟩,?_⟩,λh0=>⟨_,rfl,_,c1,?_⟩⟩;rw[a1 h0] at au;exact au;rw[aF h0] at au;exact au
def xW{af:N->ay bp}{id:o}{n:dq}(h:nb af u id n)(ar:lv<31):∃s l,n.ks[lv]?=some s/\n.kn[lv]?=some l/\u.cell? (((cB n.p 0 none).add 1).add (lv*1))=some (.slice s.a s.n s.c)/\
  aJ CG u 3 1 s (l.flatMap encI)/\∀g,s.aj=some g->af g=some (.arr id lv):=by
 have h1:lv<n.ks.length:=by rw[h.uL];exact ar
 have h2:lv<n.kn.length:=by rw[h.GY];exact ar
 refine⟨n.ks[lv],n.kn[lv],cr h1,cr h2,?_,h.arr lv _ _ (cr h1) (cr h2)⟩
 rw[KP,Hh h]
 exact aw5 (cr h1)
def acb{g:M (o×dq)}{id:o}{n:dq}(ae:eL g id=some n)(ar:n.kn[lv]?=some l):l0 g lv id=l:=by unfold l0;rw[ae];simp only;rw[du,ar];rfl
def adV{α β:Type}(f:β->α->β)(l:M α){i:N}{x:α}(h:l[i]?=some x)(b:β):(l.take (i+1)).foldl f b=f ((l.take i).foldl f b) x:=by obtain⟨ar,rfl⟩:=jM.1 h;rw[List.take_succ_eq_append_getElem ar,U4];rfl
def spec.Gl{af:N->ay bp}{T:aQ}{at' lv:o}(h:ed af u b T)(W:qk T.an T.g)(ch:at'∈T.g.map (·.1))(ht:sD u T.an t q)
  (jf:0<=lv) (e3:lv<31) (au:K (Mt (cS T.g q) (l0 T.g lv.toNat) T.g.length at') u):C.Gl (some ⟨b,0,none⟩) at' t lv u K:=by
 obtain⟨_,_,_,fg,_⟩:=kP h
 have hlen:(T.g.map (·.1)).length=T.g.length:=by simp
 apply aG.Gl
 refine spec.pQ h W ch ht ?_
 refine⟨λm x y Y v=>v=u/\∃(n:N) (lH:bO),x=lH.1/\y=dk lH.2/\Y=dr lH.2/\lH=xV (cS T.g q) (l0 T.g lv.toNat) n (cS T.g q at')/\n+Lu (cS T.g q) (T.g.map (·.1)) lH<=T.g.length/\
   (m=ax->pass (cS T.g q) (l0 T.g lv.toNat) lH=lH),
  λm x y Y _=>Lu (cS T.g q) (T.g.map (·.1)) (x,fl y Y)+(if m=ak then 1 else 0),
  ⟨rfl,0,cS T.g q at',rfl,rfl,rfl,rfl,by have:=ax4 (cS T.g q) (T.g.map (·.1)) (cS T.g q at');omega,λhm=>by cases hm⟩,?_⟩
 rintro m x y Y v ⟨rfl,n,lH,rfl,rfl,rfl,Np,ae,hm⟩
 have b6:=TP (cS T.g q) (l0 T.g lv.toNat) (ur T.g q) (b:=cS T.g q at') ⟨ch,rfl⟩ (W.cb lv.toNat) n
 rw[<-Np] at b6
 refine⟨λN4=>⟨_,rfl,_,fg,vb h b6.1 λnd bS eF=>⟨_,rfl,by decide,⟨jf,e3⟩,?_⟩⟩,λatD=>?_⟩
 obtain⟨s,l,dO,dB,I,aa,_⟩:=xW eF (lv:=lv.toNat) (by omega)
 refine⟨s,I,?_⟩
 have vO:l0 T.g lv.toNat lH.1=l:=acb bS dB
 have dw:=aa.ints.len
 refine⟨λqG i x y Y b8=>b8=v/\0<=i/\i<=l.length/\∃q5:bO,x=q5.1/\y=dk q5.2/\Y=dr q5.2/\q5=(l.take i.toNat).foldl (uT (cS T.g q)) lH/\qG=decide (q5≠lH),
  λ_ i _ _ _ _=>l.length-i.toNat,⟨rfl,by omega,by omega,lH,rfl,rfl,rfl,rfl,by simp⟩,?_⟩
 rintro qG i x y Y b8 ⟨rfl,i0,i1,q5,rfl,rfl,rfl,eG,rfl⟩
 refine⟨λeO=>?_,λgG=>?_⟩
 have fB:=aa.ints.max
 obtain⟨p,ad,mG⟩:=aa.ints.at i0 eO
 refine⟨p,ad,⟨i0,eO⟩,_,mG,?_⟩
 have aty:i.toNat<l.length:=by omega
 have J:l[i.toNat]?=some (l.getD i.toNat 0):=by simp[aty]
 have GL:l.getD i.toNat 0∈T.g.map (·.1):=W.cb lv.toNat lH.1 b6.1 _ (by rw[vO];exact dK J)
 refine spec.pQ h W GL ht ?_
 have Z:=adV (uT (cS T.g q)) l J lH
 rw[<-eG] at Z
 refine spec.qX (a:=cS T.g q (l.getD i.toNat 0)) (b:=q5) ?_
 have sW:q5=lH∨bD q5 lH=ak:=by rcases XQ (cS T.g q) (l.take i.toNat) lH with h1|⟨h1,_⟩;exact .inl (eG.trans h1);exact .inr (eG▸h1)
 refine⟨λab=>⟨⟨by omega,by omega⟩,⟨rfl,by omega,by omega,cS T.g q (l.getD i.toNat 0),rfl,rfl,rfl,?_,?_⟩,by dsimp only;omega⟩,
  λab=>⟨⟨by omega,by omega⟩,⟨rfl,by omega,by omega,q5,rfl,rfl,rfl,?_,rfl⟩,by dsimp only;omega⟩⟩
 rw[show(i+1).toNat=i.toNat+1 by omega,Z,uT,a1 ab]
 have:bD (cS T.g q (l.getD i.toNat 0)) lH=ak:=by rcases sW with h1|h1;rw[<-h1];exact ab;exact NW ab h1
 exact(mm (atz this)).symm
 rw[show(i+1).toNat=i.toNat+1 by omega,Z,uT,aF (by simpa using ab)]
 have eO:i.toNat=l.length:=by have:¬i<(s.n:o):=gG;omega
 have ahh:q5=pass (cS T.g q) (l0 T.g lv.toNat) lH:=by rw[eG,eO,mQ,pass,vO]
 have hV:=XQ (cS T.g q) l lH
 have ar8:q5=l.foldl (uT (cS T.g q)) lH:=by rw[eG,eO,mQ]
 rw[<-ar8] at hV
 rw[N4]
 by_cases al:q5=lH
 refine⟨⟨rfl,n,q5,rfl,rfl,rfl,by rw[al];exact Np,by rw[al];exact ae,λ_=>by rw[al,<-ahh];exact al⟩,?_⟩
 rw[al];simp
 obtain⟨h1,lo,qw,e⟩:=hV.resolve_left al
 have as8:lo∈T.g.map (·.1):=W.cb lv.toNat lH.1 b6.1 _ (by rw[vO];exact qw)
 have O:=ax5 (cS T.g q) as8 (b:=lH) (by rw[<-e];exact h1)
 rw[<-e] at O
 refine⟨⟨rfl,n+1,q5,rfl,rfl,rfl,by rw[ahh,Np];rfl,by omega,λZ=>?_⟩,?_⟩
 simp[al] at Z
 simp only[q0]
 have:decide (q5≠lH)=ak:=by simp[al]
 rw[this]
 simpa using O
 have ad:=hm atD
 have asN:=avL (cS T.g q) (l0 T.g lv.toNat) (n:=n) (b:=cS T.g q at') (by rw[<-Np];exact ad) (T.g.length-n)
 have e:Mt (cS T.g q) (l0 T.g lv.toNat) T.g.length at'=lH.1:=by unfold Mt;rw[show T.g.length=n+(T.g.length-n) by omega,asN,Np]
 rw[e] at au
 exact au
def vd(g:M (o×dq))(q:M o)(entry:o)(lv:N):o:=
 Ff (cS g q) (λl=>l0 g l) g.length lv ((match eL g entry with|some n=>n.top|none=>0)-lv) entry
def adM{an:o}{g:M (o×dq)}(W:qk an g){entry:o}(he:entry∈g.map (·.1))(lv:N):vd g q entry lv∈g.map (·.1):=
 afD (ur g q) (λl=>W.cb l) _ _ he
def spec.Bg{af:N->ay bp}{T:aQ}{lv:o}(h:ed af u b T)(W:qk T.an T.g)(ch:T.entry∈T.g.map (·.1))(ht:sD u T.an t q)
  (jf:0<=lv) (au:K (vd T.g q T.entry lv.toNat) u):C.Bg (some ⟨b,0,none⟩) t lv u K:=by
 obtain⟨_,_,_,fg,oX⟩:=kP h
 apply aG.Bg
 refine⟨_,rfl,_,oX,_,rfl,_,fg,vb h ch λn ae eF=>⟨_,rfl,n.top,?_,?_⟩⟩
 rw[jh,k5,Hh eF];exact Um eF.uL
 have pS:=W.top _ (iq ae)
 simp only at pS
 unfold vd at au
 rw[ae] at au
 simp only at au
 refine⟨λx l v=>v=u/\x∈T.g.map (·.1)/\∃c:N,(lv<l->l=lv+c)/\l<=30/\(¬lv<l->c=0)/\Ff (cS T.g q) (λl=>l0 T.g l) T.g.length lv.toNat c x=Ff (cS T.g q) (λl=>l0 T.g l) T.g.length lv.toNat (n.top-lv.toNat) T.entry,
  λ_ l _=>(l-lv).toNat,⟨rfl,ch,n.top-lv.toNat,by omega,by omega,by omega,rfl⟩,?_⟩
 rintro x l v ⟨rfl,J,c,ho,mG,asc,aw⟩
 refine⟨λgn=>?_,λgG=>?_⟩
 have ar:=ho gn
 refine spec.Gl h W J ht (by omega) (by omega) ⟨⟨by omega,by omega⟩,⟨rfl,afH (cS T.g q) _ (ur T.g q) J (W.cb _),c-1,by omega,by omega,by omega,?_⟩,by dsimp only;omega⟩
 rw[<-aw]
 obtain⟨ni,rfl⟩:∃ni,c=ni+1:=⟨c-1,by omega⟩
 simp only[Ff,Nat.add_sub_cancel]
 rw[show l.toNat=lv.toNat+ni+1 by omega]
 rw[asc gG] at aw
 simp only[Ff] at aw
 rw[<-aw] at au
 exact au
def _root_.Go.Proofs.YtejdhbfjjgcljaaGreatDoor.q1.Ve{v0 v b8:H}{cm:N}{z b5:Obj}{L:M bO}(h:q1 (v0.ins cm z) n v L)(h0:v0 cm=none)(aa:b8 cm=some b5)(he:∀g x,v g=some x->g≠cm->b8 g=some x):q1 (v0.ins cm b5) n b8 L:=by
 obtain⟨s,h1,h2,h3⟩:=h.ex;have Gj:n≠cm:=λe=>by have:=h.out;rw[e,H.bh] at this;cases this
 have Z:∀g,(v0.ins cm z) g=none->(v0.ins cm b5) g=none:=λg W=>by
  have:g≠cm:=λe=>by rw[e,H.bh] at W;cases W
  rw[H.bq _ _ this] at W ⊢;exact W
 refine⟨⟨s,he _ _ h1 Gj,⟨h2.own.le λb x ab hu=>he b x hu λe=>?_,λb x ab=>?_,λg W=>Z g (h2.fresh g W)⟩,h3⟩,Z n h.out,h.small⟩;have:=h2.fresh b ab;rw[e,H.bh] at this;cases this;unfold H.ins at ab;split at ab;rename_i e;rw[e];cases ab;exact aa;rename_i e;have:=h2.le b x (by rw[H.bq _ _ e];exact ab);exact he b x this e
def _root_.Go.Proofs.YtejdhbfjjgcljaaGreatDoor.q1.Jg{v0 v iV b8:H}{cm:N}{z:Obj}{L:M bO}(h:q1 (v0.ins cm z) n v L)(h0:v0 cm=none)(Z:yC v0 v iV b8):q1 (iV.ins cm z) n b8 L/\iV cm=none:=by
 obtain⟨s,h1,h2,h3⟩:=h.ex;have iL:=h2.le cm z (H.bh _ _ _);obtain⟨r1,art⟩:=Z.out cm z h0 iL;have Gj:n≠cm:=λe=>by have:=h.out;rw[e,H.bh] at this;cases this
 have eX:v0 n=none:=by have:=h.out;rw[H.bq _ _ Gj] at this;exact this
 obtain⟨gp,ft⟩:=Z.out n _ eX h1;have ab:∀g,s.aj=some g->∀x,v g=some x->iV g=none/\b8 g=some x/\g≠cm:=λg W x J=>by
  have eQ:=h2.fresh g W;have SY:g≠cm:=λe=>by rw[e,H.bh] at eQ;cases eQ
  rw[H.bq _ _ SY] at eQ;exact⟨(Z.out g x eQ J).1,(Z.out g x eQ J).2,SY⟩
 refine⟨⟨⟨s,ft,⟨h2.own.le λb x eu hu=>(ab b eu x hu).2.1,λb x J=>?_,λg W=>?_⟩,h3⟩,by rw[H.bq _ _ Gj];exact gp,h.small⟩,r1⟩;unfold H.ins at J;split at J;rename_i e;rw[e];cases J;exact art;exact Z.le b x J;have hk:=dE h2 W;obtain⟨x,J⟩:=e9.1 hk;obtain⟨bK,_,fs⟩:=ab g W x J;rw[H.bq _ _ fs];exact bK
def awu{ht:o->bO}{s:M o×M bO}{i:o}(h:i∉s.1):iG ht s i=(s.1++ [i],pT (ht i) s.2):=aF h
def awv{ht:o->bO}{s:M o×M bO}{i:o}(h:i∈s.1):iG ht s i=s:=a1 h
def lE(g:M (o×dq))(q:M o)(lv:N)(at':o):M o:=vx (cS g q) (l0 g lv) g.length [at'] [cS g q at']
def NL(h:bO):ap:=.agg #[.int .i64 h.1,.int .u64 (dk h.2),.int .u64 (dr h.2)]
structure IF(T:aQ)(q:M o)(lv:N)(bd:M o)(cV:N->H->Prop)(cm n9:N)(n:N)(v:H):Prop where
 ex:∃(v0:H) (z:Obj) (i:N) (met:M o) (Ao L:M bO),cV i v0/\v0 cm=none/\tR (v0.ins cm z) cm met/\q1 (v0.ins cm z) n9 v L/\iB bD L.length L/\L.Perm Ao/\Met (cS T.g q) (T.g.map (·.1)) (met,Ao)/\
  due T.g.length (met,Ao)<=n/\bd.drop i=vx (cS T.g q) (l0 T.g lv) n met Ao/\i<=bd.length
def spec.zf{af:N->ay bp}{T:aQ}{at' lv:o}{Qu:ap}{K:H->Prop}(b9:ub.le u)(h:ed af ub b T)(W:qk T.an T.g)(ch:at'∈T.g.map (·.1))(ht:sD ub T.an t q)
  (jf:0<=lv) (e3:lv<31) (cV:N->H->Prop) (E:H->Prop) (kW:∀i v,cV i v->ub.le v)
  (aar:∀i x v (K:aK->H->Prop),(lE T.g q lv.toNat at')[i]?=some x->cV i v->(∀b8,cV (i+1) b8->K ak b8)->(∀b8,E b8->K ax b8)->tL aH Qu #[NL (cS T.g q x)] [.one .bool] v K)
  (h0:cV 0 u) (FC:∀v,cV (lE T.g q lv.toNat at').length v->K v) (qu:∀v,E v->K v):C.zf (some ⟨b,0,none⟩) at' t lv Qu u K:=by
 have aB2:=W.small
 have hlen:(T.g.map (·.1)).length=T.g.length:=by simp
 refine io.weaken (ss:=[]) ?_
 apply aG.zf
 refine adz λcm iL ky=>?_
 refine Vw H7 ky (by simp) λdc aas JQ aBO=>?_
 have sd:u.le dc:=λc z I=>JQ c z (H.b1 _ iL c z I) λe=>by rw[e,iL] at I;cases I
 obtain⟨hQ,Xa,vC,_⟩:=aas
 refine spec.pQ (h.mono (b9.trans sd)) W ch (ht.mono (b9.trans sd)) ?_
 refine mo (afe at' _ _) λg7 SX n9 uy=>?_
 have Ti:n9≠g7:=λe=>by rw[e,H.bh] at uy;cases uy
 have N8:dc n9=none:=by rw[H.bq _ _ Ti] at uy;exact uy
 have agV:cm≠g7:=λe=>by rw[<-e,vC] at SX;cases SX
 have Jt:cm≠n9:=λe=>by rw[<-e,vC] at N8;cases N8
 refine Il (H.bh _ _ _) (by simp[cT]) ?_
 have Tw:∀v,v cm=some (.map hQ Xa)->(∀c x,u c=some x->v c=some x)->v g7=some (.cells #[.int .i64 at',.int .u64 (dk (cS T.g q at').2),.int .u64 (dr (cS T.g q at').2)] 68 (0,0))->
   v n9=some (.cells #[.slice (some ⟨g7,0,none⟩) 1 1] 263 (0,0))->u n9=none->u g7=none->u cm=none->IF T q lv.toNat (lE T.g q lv.toNat at') cV cm n9 T.g.length v:=by
  intro v aS aB cW fN gw nk apG
  refine⟨u,.map hQ Xa,0,[at'],[cS T.g q at'],[cS T.g q at'],h0,apG,?_,?_,λi i0 i1=>by simp at i1;omega,Lq _,Met.one _ (ur T.g q) ch,?_,rfl,p2 _⟩
  exact⟨hQ,Xa,H.bh _ _ _,by assumption⟩
  refine⟨⟨⟨some ⟨g7,0,none⟩,1,1⟩,fN,⟨⟨(by simp[r0]),.inr ⟨g7,_,rfl,cW,cA _,(by show(1:N)<=9223372036854775807;decide),(by simp),(by simp[fH,ur])⟩⟩,λc x I=>?_,λg W=>?_⟩,by simp[U.aj];exact λe=>Ti e.symm⟩,by rw[H.bq _ _ (dz Jt)];exact gw,by simp⟩
  unfold H.ins at I
  split at I
  rename_i e;rw[e];cases I;exact aS
  exact aB c x I
  simp[U.aj] at W
  rw[<-W,H.bq _ _ (dz agV)];exact nk
  simp[due]
  have:0<T.g.length:=by have:=U3 ch;simpa using this
  omega
 have hw:∀n v,IF T q lv.toNat (lE T.g q lv.toNat at') cV cm n9 n v->∃v0,ub.le v0/\v0.le v:=by rintro n v ⟨v0,z,i,met,Ao,L,aP,r1,_,ae,_⟩;obtain⟨s,_,aa,_⟩:=ae.ex;exact⟨v0,kW i v0 aP,(H.b1 _ r1).trans aa.le⟩
 refine⟨λv=>∃n,IF T q lv.toNat (lE T.g q lv.toNat at') cV cm n9 n v,λv=>least λn=>IF T q lv.toNat (lE T.g q lv.toNat at') cV cm n9 n v,⟨T.g.length,Tw _ ?_ ?_ ?_ ?_ ?_ ?_ iL⟩,?_⟩
 rw[H.bq _ _ Jt,H.bq _ _ Jt,H.bq _ _ agV];exact vC
 intro c x I
 have mG:=sd c x I
 rw[H.bq _ _ (λe=>by rw[e,N8] at mG;cases mG),H.bq _ _ (λe=>by rw[e,N8] at mG;cases mG),H.bq _ _ (λe=>by rw[e,SX] at mG;cases mG)]
 exact mG
 rw[H.bq _ _ (dz Ti),H.bq _ _ (dz Ti),H.bh]
 rw[H.bh]
 exact sd.none N8
 exact sd.none SX
 intro v aA
 have cv:=G5 aA
 obtain⟨dg,eF⟩:∃dg,(least λn=>IF T q lv.toNat (lE T.g q lv.toNat at') cV cm n9 n v)=dg:=⟨_,rfl⟩
 dsimp only
 rw[eF] at cv ⊢
 obtain⟨v0,z,i,met,Ao,L,aP,r1,ky,Oa,asY,h5,JX,ahy,xo,hi⟩:=cv
 have aCa:=kW i v0 aP
 obtain⟨s,auS,ai1,aB5⟩:=Oa.ex
 have ave:v0.le v:=(H.b1 _ r1).trans ai1.le
 refine⟨s,H.ba auS 0,aG.Od s v _ ?_⟩
 have td:=ai1.fi.len
 refine⟨λpa=>?_,λrm=>?_⟩
 have aro:0<L.length:=by omega
 refine spec.vH (akk (v0.ins cm z) n9) akl (V:=Dp) Oa asY aro (λdW ar au=>awY dW ar au) λaU EO x aiz Z8 asZ ZH=>?_
 obtain⟨y,oP,rfl⟩:∃y oP,Ao=y::oP:=by
  cases Ao with
  |nil=>have:=h5.length_eq;rw[mi] at this;omega|cons y l=>exact⟨y,l,rfl⟩
 have hv:x=y:=by
  have J:x∈y::oP:=(Z8.trans h5).mem_iff.1 (.head _);have ah:y∈x::EO:=(Z8.trans h5).mem_iff.2 (.head _);have b3:bD x y=ax:=by
   cases J with
   |head=>exact JW _|tail _ J=>exact(k6.1 JX.Ch).1 x J
  have cu:bD y x=ax:=by
   cases ah with
   |head=>exact JW _|tail _ ah=>exact ZH y ah
  exact ZD cu b3
 subst hv
 have aun:EO.Perm oP:=(acY x).1 (Z8.trans h5)
 have vY:=JX.sub _ (JX.wait x (.head _)).1
 have TI:=(JX.wait x (.head _)).2
 obtain⟨n,rfl⟩:∃n,dg=n+1:=⟨dg-1,by simp[due] at ahy;omega⟩
 have ag5:(lE T.g q lv.toNat at')[i]?=some x.1:=by
  have:((lE T.g q lv.toNat at').drop i)[0]?=some x.1:=by rw[xo];simp[vx]
  rw[uX] at this;simpa using this
 have ahx:(lE T.g q lv.toNat at').drop (i+1)=vx (cS T.g q) (l0 T.g lv.toNat) n ((l0 T.g lv.toNat x.1).foldl (iG (cS T.g q)) (met,oP)).1 ((l0 T.g lv.toNat x.1).foldl (iG (cS T.g q)) (met,oP)).2:=by rw[<-B0,xo];simp[vx]
 have aBo:i<(lE T.g q lv.toNat at').length:=(jM.1 ag5).1
 refine alH ?_
 have avd:v0.le aU:=by obtain⟨_,_,kv,_⟩:=aiz.ex;exact(H.b1 _ r1).trans kv.le
 refine(aar i x.1 v0 (λb b8=>(b=ak->cV (i+1) b8)/\(b=ax->E b8)) ag5 aP (λb8 hs=>⟨λ_=>hs,λe=>(by cases e)⟩) (λb8 hs=>⟨λe=>(by cases e),λ_=>hs⟩)).frame avd ?_|>(λY=>(by
  have e:NL (cS T.g q x.1)=.agg #[.int .i64 x.1,.int .u64 (dk x.2),.int .u64 (dr x.2)]:=by rw[<-TI];rfl
  rw[e] at Y;exact Y))
 rintro dM iV az5 eQ ⟨YS,AW⟩
 refine⟨λal=>⟨iV,eQ.le,qu _ (AW (Bool.eq_false_iff.2 al))⟩,λab=>?_⟩
 have ri:=YS ab
 obtain⟨atU,Sw⟩:=aiz.Jg r1 eQ
 have TD:=kW _ _ ri
 have au4:iV.le az5:=eQ.le
 have ag0:=h.mono (TD.trans au4)
 obtain⟨_,_,_,fg,_⟩:=kP ag0
 refine⟨_,rfl,_,fg,vb ag0 vY λnd bS pI=>⟨_,rfl,by decide,⟨jf,e3⟩,?_⟩⟩
 obtain⟨db,kL,dO,dB,I,aa,_⟩:=xW pI (lv:=lv.toNat) (by omega)
 have vO:l0 T.g lv.toNat x.1=kL:=acb bS dB
 have jU:=aa.ints.len
 have sa:=aa.ints.max
 refine⟨db,I,?_⟩
 rw[vO] at ahx
 have Zz:∀y∈kL,y∈T.g.map (·.1):=λy ah=>W.cb lv.toNat x.1 vY y (by rw[vO];exact ah)
 have OI:tR (iV.ins cm z) cm met:=by obtain⟨es,Mn,h1,h2⟩:=ky;rw[H.bh] at h1;exact⟨es,Mn,by rw[H.bh];exact h1,h2⟩
 refine⟨λk w=>0<=k/\k<=kL.length/\∃(b5:Obj) (pC:M bO),tR (iV.ins cm b5) cm ((kL.take k.toNat).foldl (iG (cS T.g q)) (met,oP)).1/\q1 (iV.ins cm b5) n9 w pC/\iB bD pC.length pC/\
  pC.Perm ((kL.take k.toNat).foldl (iG (cS T.g q)) (met,oP)).2,λk _=>kL.length-k.toNat,⟨by omega,by omega,z,EO,OI,atU,asZ,aun⟩,?_⟩
 rintro k w ⟨jG,b3,b5,pC,OJ,Tj,Zg,Ov⟩
 obtain⟨aCC,aBZ,aax,_⟩:=Tj.ex
 have te:iV.le w:=(H.b1 _ Sw).trans aax.le
 have k0:=TD.trans te
 have N1:=Met.fold (cS T.g q) (ids:=T.g.map (·.1)) (ur T.g q) (l:=kL.take k.toNat) (JX.tail _) λy ah=>Zz y (oa ah)
 refine⟨λbD=>?_,λgG=>?_⟩
 have jn:k.toNat<kL.length:=by omega
 have oD:nb af ub x.1 nd:=h.node bS
 obtain⟨aCD,aCj,aS,aB,_,dI,_⟩:=xW oD (lv:=lv.toNat) (by omega)
 rw[dO] at aS;cases aS
 rw[dB] at aB;cases aB
 obtain⟨p,ad,lV⟩:=dI.ints.at jG bD
 refine⟨p,ad,⟨jG,bD⟩,_,H.qo k0 lV,?_⟩
 have J:kL[k.toNat]?=some (kL.getD k.toNat 0):=by simp[jn]
 have GL:=Zz _ (dK J)
 have Z:=adV (iG (cS T.g q)) kL J (met,oP)
 rw[show k.toNat+1=(k+1).toNat by omega] at Z
 refine ady H7 (OJ.mono aax.le) ?_
 refine⟨λab=>?_,λab=>?_⟩
 have rm:kL.getD k.toNat 0∉((kL.take k.toNat).foldl (iG (cS T.g q)) (met,oP)).1:=by simpa using ab
 have ie:(kL.take (k+1).toNat).foldl (iG (cS T.g q)) (met,oP)=(((kL.take k.toNat).foldl (iG (cS T.g q)) (met,oP)).1++ [kL.getD k.toNat 0],pT (cS T.g q (kL.getD k.toNat 0)) ((kL.take k.toNat).foldl (iG (cS T.g q)) (met,oP)).2):=by rw[Z,awu rm]
 refine Vw H7 (OJ.mono aax.le) rm λeA aas j6 _=>?_
 obtain⟨afU,afq,avk,atq⟩:=aas
 have aiA:=Tj.Ve Sw avk j6
 obtain⟨_,_,auT,_⟩:=aiA.ex
 have ajd:iV.le eA:=(H.b1 _ Sw).trans auT.le
 refine spec.pQ (h.mono (TD.trans ajd)) W GL (ht.mono (TD.trans ajd)) ?_
 have aib:pC.length<=1000:=by rw[Ov.length_eq];have:=pj N1.Hj (λy ah=>by obtain⟨Y,aC,rfl⟩:=bf.1 ah;exact N1.sub _ (N1.wait Y aC).1);simp at this;omega
 refine spec.r7 (akk (iV.ins cm (.map afU afq)) n9) akl (x:=Dp (cS T.g q (kL.getD k.toNat 0))) Zg (λau=>awZ aiA (by omega) au) λhL anF atV auo as0=>⟨⟨by omega,by omega⟩,⟨by omega,by omega,_,anF,?_,atV,as0,?_⟩,by dsimp only;omega⟩
 rw[ie];exact⟨afU,afq,H.bh _ _ _,atq⟩
 rw[ie]
 refine auo.trans ?_
 refine(mR _ _).trans ?_
 exact(kc _ Ov).trans (GQ _ _).symm
 have b6:kL.getD k.toNat 0∈((kL.take k.toNat).foldl (iG (cS T.g q)) (met,oP)).1:=by simpa using ab
 have ie:(kL.take (k+1).toNat).foldl (iG (cS T.g q)) (met,oP)=(kL.take k.toNat).foldl (iG (cS T.g q)) (met,oP):=by rw[Z,awv b6]
 exact⟨⟨by omega,by omega⟩,⟨by omega,by omega,b5,pC,by rw[ie];exact OJ,Tj,Zg,by rw[ie];exact Ov⟩,by dsimp only;omega⟩
 have atk:kL.take k.toNat=kL:=hR (by omega)
 rw[atk] at OJ Ov N1
 have uo:IF T q lv.toNat (lE T.g q lv.toNat at') cV cm n9 n w:=by refine⟨iV,b5,i+1,_,_,pC,ri,Sw,OJ,Tj,Zg,Ov,N1,?_,ahx,by omega⟩;have:=apy (cS T.g q) (ur T.g q) (l:=kL) (JX.tail _) Zz;rw[hlen] at this;have e:((kL.foldl (iG (cS T.g q)) (met,oP)).1,(kL.foldl (iG (cS T.g q)) (met,oP)).2)=kL.foldl (iG (cS T.g q)) (met,oP):=rfl;rw[e,this];simp[due] at ahy ⊢;omega
 exact⟨⟨n,uo⟩,Nat.lt_succ_of_le (least_le uo)⟩
 have Yg:L=[]:=kN (by omega)
 subst Yg
 have arq:Ao=[]:=by have:=h5.length_eq;simpa using this.symm
 subst arq
 have he:(lE T.g q lv.toNat at').drop i=[]:=by rw[xo];cases dg<;>rfl
 have Zn:i=(lE T.g q lv.toNat at').length:=by have:=List.drop_eq_nil_iff.1 he;omega
 subst Zn
 exact⟨v0,ave,FC _ aP⟩
open Go.Sort Go.Shelf
def _root_.Go.Proofs.YtejdhbfjjgcljaaGreatDoor.sI.azm{w w':b7}{z b5:Obj}(hw:Sub u w)(ab:u b=some z)(k:sI b b5 w w'):Step u [] w (u.ins b b5) [] w':=by refine⟨λx y h=>?_,k.os,k.tape,k.output,k.drawn,Lo k.size.symm,λx _ J _=>k.rest x (λe=>by rw[e,ab] at J;cases J),λx _ J=>?_,[],by simp,by simp⟩;unfold H.ins at h;split at h;rename_i e;rw[e];cases h;exact k.at_;rename_i e;rw[k.rest x e];exact hw _ _ h;rw[H.bq _ _ (λe=>by rw[e,ab] at J;cases J)];exact J
def ayF{g off:N}{cur:cw ap}{T:dJ}(W:u g=some (.cells cur T (0,0)))(ae:off+n<=cur.size){fw:dJ}{K:H->Prop}(au:K (u.ins g (.cells (wr cur off (fX n (.int .i64 0))) T (0,0)))):
  dd aH (p1 #[30] fw #[.slice (some ⟨g,off,none⟩) n c]) [] u K:=by
 intro w hw
 obtain⟨ht,i,Y,hi,aC,qB,y3,Bz,xT⟩:=vv oN
 rcases UX n with rfl|pa
 refine⟨.tuple #[],w,u,by simp[p1,iz ht],⟨[],.nil,rfl,?_⟩,Step.refl hw⟩
 have e:u.ins g (.cells (wr cur off (fX 0 (.int .i64 0))) T (0,0))=u:=H.abg (by rw[W];rfl)
 rw[e] at au
 exact au
 obtain⟨w',O,k3⟩:=adN (P:=aH) (b:=g) (off:=off) (T:=T) (fX n (.int .i64 0)) 0 cur w (hw _ _ W) (by simp;omega) (λv aA=>by rw[List.eq_of_mem_replicate aA];rfl)
 have aA:∀w,(zeroValue 3).run aH w=.ok (.int .i64 0) w:=λ_=>by kernel_rfl
 have aba:(wu (cY .i64 0).cells n).toList=fX n (.int .i64 0):=by simp[wu,Value.cells];apply ac6;simp;intro i h1 h2;simp[Nat.mod_one]
 obtain⟨m,rfl⟩:∃m,n=m+1:=⟨n-1,by omega⟩
 refine⟨.tuple #[],w',_,by simp[p1,iz ht,aA,aba,O],⟨[],.nil,rfl,au⟩,k3.azm hw W⟩
def WH(ub:H)(fv:ap)(p:o->aK):Prop:=∀x (v:H) (K:aK->H->Prop),ub.le v->K (p x) v->tL aH fv #[.int .i64 x] [.one .bool] v K
def spec.Ig{fv:ap}{p:o->aK}(ag:Ints u s l)(ad:WH ub fv p)(b9:ub.le u)
  (au:∀i:N,i<l.length->(∀k,k<i->p (l.getD k 0)=ax)->p (l.getD i 0)=ak->K i u) (eF:(∀k,k<l.length->p (l.getD k 0)=ax)->K (-1) u):C.Ig s fv u K:=by
 have ae:=ag.len
 have hm:=ag.max
 apply aG.Ig
 refine⟨λ_ i v=>v=u/\0<=i/\i<=l.length/\∀k:N,k<i.toNat->p (l.getD k 0)=ax,λ_ i _=>l.length-i.toNat,⟨rfl,by omega,by omega,λk hk=>by simp at hk⟩,?_⟩
 rintro _ i v ⟨rfl,i0,i1,hk⟩
 refine⟨λeO=>?_,λgG=>eF λk dA=>hk k (by omega)⟩
 obtain⟨q,aN,I⟩:=ag.at i0 eO
 refine⟨q,aN,⟨i0,eO⟩,_,I,ad _ _ _ b9 ⟨λab=>?_,λab=>⟨⟨by omega,by omega⟩,⟨rfl,by omega,by omega,λk dA=>?_⟩,by dsimp only;omega⟩⟩⟩
 have:=au i.toNat (by omega) hk ab
 rw[show((i.toNat:N):o)=i by omega] at this
 exact this
 by_cases e:k=i.toNat
 rw[e];exact ab
 exact hk k (by omega)
def spec.Ih{x:o}(ag:Ints u s l)(au:∀i:o,(0<=i↔x∈l)->K i u):C.Ih s x u K:=by
 have ae:=ag.len;have hm:=ag.max;apply aG.Ih;refine⟨λ_ i v=>v=u/\0<=i/\i<=l.length/\∀k:N,k<i.toNat->l.getD k 0≠x,λ_ i _=>l.length-i.toNat,⟨rfl,by omega,by omega,λk hk=>by simp at hk⟩,?_⟩;rintro _ i v ⟨rfl,i0,i1,hk⟩;refine⟨λeO=>?_,λgG=>au _ ⟨λh=>by omega,λh=>?_⟩⟩;obtain⟨q,aN,I⟩:=ag.at i0 eO;have J:l[i.toNat]?=some (l.getD i.toNat 0):=by
  have:i.toNat<l.length:=by omega
  simp[this]
 refine⟨q,aN,⟨i0,eO⟩,_,I,⟨λab=>au i ⟨λ_=>by rw[ab];exact dK J,λ_=>i0⟩,λab=>⟨⟨by omega,by omega⟩,⟨rfl,by omega,by omega,λk dA=>?_⟩,by dsimp only;omega⟩⟩⟩;by_cases e:k=i.toNat;rw[e];exact λh=>ab h.symm;exact hk k (by omega);exfalso;obtain⟨k,jn,rfl⟩:=sn.1 h;exact hk k (by omega) (by simp[jn])
def spec.Ib{x:o}{K:aK->H->Prop}(ag:Ints u s l)(au:K (decide (x∈l)) u):C.Ib s x u K:=by apply aG.Ib;refine spec.Ih ag λi hi=>?_;have:decide (0<=i)=decide (x∈l):=B8.2 hi;rw[<-this] at au;exact au
def _root_.Go.Proofs.YtejdhbfjjgcljaaGreatDoor.aJ.clear{e:N}(h:aJ ai u e 1 s (l.flatMap encI)){i:N}(hi:i<=s.n){fw:dJ}{K:H->Prop}
  (au:∀(u':H) (bw:M o),aJ ai u' e 1 s (bw.flatMap encI)->bw.take i=l.take i->bw.length=l.length->gO u u' s->K u'):dd aH (p1 #[30] fw #[.slice (s.part i s.n s.c 1).a (s.part i s.n s.c 1).n (s.part i s.n s.c 1).c]) [] u K:=by
 have dw:=h.ints.len
 rcases h.own.is with h0|⟨g,cur,aE,W,ae,I,ag,ht⟩
 subst h0
 have ar:l=[]:=kN dw.symm
 subst ar
 have NH:i=0:=by simpa using hi
 subst NH
 refine dd.pure [] (λw hw=>?_) .nil (au u [] h rfl rfl (gO.refl _ _))
 obtain⟨ht,_⟩:=vv oN
 simp[U.part,p1,iz ht]
 rfl
 rcases acF hi with rfl|bD
 have e:(s.part s.n s.n s.c 1).n=0:=by simp[U.part]
 refine dd.pure [] (λw hw=>?_) .nil (au u l h rfl rfl (gO.refl _ _))
 obtain⟨ht,_⟩:=vv oN
 rw[e]
 cases(s.part s.n s.n s.c 1).a<;>simp[p1,iz ht]<;>rfl
 have uA:(s.part i s.n s.c 1).a=some ⟨g,i,none⟩:=by unfold U.part;simp only;rw[aF (by omega),aE];simp[jh]
 rw[uA]
 have aab:(s.part i s.n s.c 1).n=s.n-i:=rfl
 rw[aab]
 have cI:i+(s.n-i)<=cur.size:=by rw[ag];omega
 refine ayF W cI ?_
 have DJ:=LR cur i (fX (s.n-i) (.int .i64 0)) (by simpa using cI)
 simp only[UW] at DJ
 refine au _ (l.take i++fX (s.n-i) 0) ⟨⟨by rw[nQ nO];simp;omega,.inr ⟨g,_,aE,H.bh _ _ _,ae,I,?_,?_⟩⟩,λb z ab=>?_,h.fresh⟩ ?_ ?_ ?_
 rw[<-rL,DJ];simp;omega
 rw[DJ,yU,ek,List.map_replicate]
 have ru:cur.toList.take s.n=l.map λx=>.int .i64 x:=by rw[<-yU,<-ht,B1]
 have h1:cur.toList.take i=(l.take i).map λx=>.int .i64 x:=by rw[Lm,<-ru,Hz,Eb (by omega)]
 rw[h1,P0 (by simp;omega),hR (by simp;omega)]
 have:b≠g:=λe=>by have:=h.fresh g (by simp[U.aj,aE]);rw[e,this] at ab;cases ab
 rw[H.bq _ _ this];exact h.le b z ab
 rw[P0 (by simp;omega),Hz,UT]
 simp;omega
 intro b z ab al
 rw[H.bq _ _ (λe=>al (by simp[U.aj,aE,e]))];exact ab
def spec.Ic{fv:ap}{p:o->aK}{K:U->H->Prop}(aa:aJ ai u 3 1 s (l.flatMap encI))(ad:WH ub fv p)(b9:ub.le u)(ko:∀b,s.aj=some b->ub b=none)
  (au:∀aq u',aJ ai u' 3 1 aq ((l.filter λx=>!p x).flatMap encI)->aq.aj=s.aj->gO u u' s->K aq u'):C.Ic s fv u K:=by
 have dw:=aa.ints.len
 have zd:=aa.ints.max
 apply aG.Ic
 refine spec.Ig aa.ints ad b9 (λi hi dV kz=>⟨λh=>by omega,λ_=>⟨⟨by omega,by omega⟩,?_⟩⟩) λdV=>⟨λ_=>?_,λh=>aW rfl h⟩
 have YN:(l.take i).filter (λx=>!p x)=l.take i:=by rw[p6];intro a aE;obtain⟨k,hk,rfl⟩:=sn.1 aE;simp only[gZ] at hk;have:=dV k (by omega);rw[du,cr (by omega)] at this;simp only[Qa,K1] at this ⊢;rw[this];rfl
 have J:l[i]?=some (l.getD i 0):=by simp[hi]
 refine⟨λa j v=>0<=a/\a<j/\j<=l.length/\gO u v s/\∃m:M o,m.length=l.length/\aJ ai v 3 1 s (m.flatMap encI)/\m.take a.toNat=(l.take j.toNat).filter (λx=>!p x)/\m.drop j.toNat=l.drop j.toNat,
  λ_ j _=>l.length-j.toNat,⟨by omega,by omega,by omega,gO.refl _ _,l,rfl,aa,?_,rfl⟩,?_⟩
 rw[show((i:o)+1).toNat=i+1 by omega,zV,gS,J]
 simp only[UY,zW,YN,B7,kz]
 simp
 rintro a j v ⟨a0,cL,avQ,eC,m,pP,oA,uF,Nw⟩
 have aaR:ub.le v:=λb z ab=>eC b z (b9 b z ab) λe=>by rw[ko b e] at ab;cases ab
 refine⟨λkK=>?_,λgG=>?_⟩
 obtain⟨q,aN,I⟩:=oA.ints.at (x:=j) (by omega) kK
 have S7:m.getD j.toNat 0=l.getD j.toNat 0:=by have:=ei (λY=>Y[0]?) Nw;simp only[uX,UZ] at this;rw[du,du,this]
 have NQ:l[j.toNat]?=some (l.getD j.toNat 0):=by
  have:j.toNat<l.length:=by omega
  simp[this]
 rw[S7] at I
 have Bp:(l.take (j.toNat+1)).filter (λx=>!p x)=m.take a.toNat++(if p (l.getD j.toNat 0)=ak then[] else[l.getD j.toNat 0]):=by rw[gS,NQ,uF];simp only[UY,zW,B7,List.filter_nil];cases p (l.getD j.toNat 0)<;>simp
 have Ny:∀qG:M o,(∀k,a.toNat<k->qG[k]?=m[k]?)->qG.drop (j+1).toNat=l.drop (j+1).toNat:=λqG oy=>by
  have e:l.drop (j+1).toNat=m.drop (j+1).toNat:=by rw[show(j+1).toNat=j.toNat+1 by omega,<-B0,<-B0,Nw]
  rw[e];apply sk;intro k;rw[uX,uX,oy _ (by omega)]
 refine⟨q,aN,⟨by omega,kK⟩,_,I,ad _ _ _ aaR ⟨λab=>?_,λab=>?_⟩⟩
 have Z9:p (l.getD j.toNat 0)=ax:=by simpa using ab
 rw[Z9] at Bp
 refine⟨q,aN,⟨by omega,by omega⟩,?_⟩
 refine aJ.store (enc:=encI) nO oA (by decide) (i:=a.toNat) (by omega) (y:=l.getD j.toNat 0) (RX _) aN λdc dI ic _=>⟨⟨by omega,by omega⟩,⟨by omega,by omega⟩,⟨by omega,by omega,by omega,λb z ab al=>ic b z (eC b z ab al) al,_,by simpa using pP,dI,?_,?_⟩,by dsimp only;omega⟩
 rw[show(j+1).toNat=j.toNat+1 by omega,Bp,show(a+1).toNat=a.toNat+1 by omega,gS,zX (by omega),List.take_set_of_le (cA _)]
 simp
 exact Ny _ λk hk=>u0 (by omega)
 rw[ab] at Bp
 refine⟨⟨by omega,by omega⟩,⟨by omega,by omega,by omega,eC,m,pP,oA,?_,Ny m λ_ _=>rfl⟩,by dsimp only;omega⟩
 rw[show(j+1).toNat=j.toNat+1 by omega,Bp];simp
 have kK:j.toNat=l.length:=by have:¬j<(s.n:o):=gG;omega
 have ir:=br.cap oA.own.cE
 rw[kK,mQ] at uF
 refine oM (P:=aH) oN (l:=a.toNat) (h:=s.n) (m:=s.c) (.inr (by rw[wA a0])) (.inl ⟨rfl,rfl⟩) (.inl ⟨rfl,rfl⟩) (by omega) ir (cA _) ir ?_
 refine oA.clear (i:=a.toNat) (by omega) λdc m2 dI h1 h2 ic=>?_
 refine oM (P:=aH) oN (l:=0) (h:=a.toNat) (m:=s.c) (.inl ⟨rfl,rfl⟩) (.inr (by rw[wA a0])) (.inl ⟨rfl,rfl⟩) (by omega) (by omega) (cA _) ir ?_
 obtain⟨Z,A0,_⟩:=dI.front (m:=a.toNat) (by omega)
 have e:(m2.flatMap encI).take (a.toNat*1)=(l.filter λx=>!p x).flatMap encI:=by rw[yW nO,h1,uF]
 rw[e] at Z
 exact au _ _ Z A0 λb z ab al=>ic b z (eC b z ab al) al
 have e:l.filter (λx=>!p x)=l:=by rw[p6];intro a aE;obtain⟨k,hk,rfl⟩:=sn.1 aE;have:=dV k hk;rw[du,cr hk] at this;simp only[K1] at this;rw[this];rfl
 exact au s u (by rw[e];exact aa) rfl (gO.refl _ _)
end
section
open Go.Sort Go.Shelf
def spec.J1{u:H}{b n0 n6 p:N}{T:aQ}{q:M o}{sv:U}{x y:o}{K:o->H->Prop}(h:tS u b T)(W:qk T.an T.g)(J:x∈T.g.map (·.1))(ah:y∈T.g.map (·.1))(aN:sD u T.an sv q)
  (bJ:u.cell? ⟨n0,0,none⟩=some (.pointer (some ⟨b,0,none⟩))) (IY:u.cell? ⟨n6,0,none⟩=some (.pointer (some ⟨p,0,none⟩))) (afs:u.cell? ⟨p,0,none⟩=some (.slice sv.a sv.n sv.c))
  (au:K (if bD (cS T.g q x) (cS T.g q y)=ak then -1 else 1) u):C.J1 x y ⟨n0,0,none⟩ ⟨n6,0,none⟩ u K:=by
 apply aG.J1
 refine⟨_,bJ,_,IY,_,rfl,sv,afs,_,bJ,_,IY,_,rfl,sv,afs,spec.Zq h W J aN ⟨H.le.refl u,spec.Zq h W ah aN (spec.qX (a:=cS T.g q x) (b:=cS T.g q y) ⟨λab=>?_,λab=>?_⟩)⟩⟩
 rw[a1 ab] at au;exact au
 rw[aF (by rw[ab];simp)] at au;exact au
structure WE(bY lv:o)(l:M o)(x:o)(bw:M o):Prop where
 sub:∀y∈bw,y∈l∨y=x
 nodup:(l++ [x]).Nodup->bw.Nodup
 len:(bw.length:o)<=wc bY lv
def ab5{bY lv:o}(h:1<=bY/\bY<=16):1<=wc bY lv/\wc bY lv<=32:=by unfold wc;split<;>omega
def atd(g:M (o×dq))(q:M o)(ids:M o):SWO (ltOf λx y:{i//i∈ids}=>if bD (cS g q x.1) (cS g q y.1)=ak then(-1:o) else 1) where
 irrefl x:=by unfold ltOf;simp[JW]
 trans x y Y h1 h2:=by
  unfold ltOf at*;simp only[KZ] at*;have b3:bD (cS g q x.1) (cS g q y.1)=ak:=by revert h1;split;intro _;assumption;intro h;omega
  have cu:bD (cS g q y.1) (cS g q Y.1)=ak:=by revert h2;split;intro _;assumption;intro h;omega
  rw[a1 (NW b3 cu)];decide
 ntrans x y Y h1 h2:=by
  unfold ltOf at*;simp only[HG] at*;have b3:bD (cS g q x.1) (cS g q y.1)=ax:=by revert h1;split;intro h;exact aW (by decide) h;intro _;simp_all
  have cu:bD (cS g q y.1) (cS g q Y.1)=ax:=by revert h2;split;intro h;exact aW (by decide) h;intro _;simp_all
  rw[aF (by rw[Ge cu b3];simp)];decide
def _root_.Go.Proofs.YtejdhbfjjgcljaaGreatDoor.H.CA(u:H)(s:U):H:=λc=>open Classical in if s.aj=some c then none else u c
def _root_.Go.Proofs.YtejdhbfjjgcljaaGreatDoor.H.aAs(u:H)(s:U):(u.CA s).le u:=λc z h=>by unfold H.CA at h;split at h;cases h;exact h
def _root_.Go.Proofs.YtejdhbfjjgcljaaGreatDoor.H.aer{u:H}{s:U}{c:N}(h:s.aj≠some c):u.CA s c=u c:=aF h
def spec.Be{ai u:H}{af:N->ay bp}{b:N}{T:aQ}{a x lv:o}{n:dq}{l:M o}{K:H->Prop}(h:In ai u af b T)(W:qk T.an T.g)(ar:1<=T.bY/\T.bY<=16)
  (ae:eL T.g a=some n) (J:x∈T.g.map (·.1)) (jf:0<=lv) (e3:lv<31) (jU:n.kn[lv.toNat]?=some l) (Ds:l.length<=1000000)
  (au:∀u' aX aq bw,In ai u' aX b {T with g:=qS T.g a (n.jN lv.toNat aq bw)}->gA u af u' aX->WE T.bY lv l x bw->K u'):C.Be (some ⟨b,0,none⟩) a x lv u K:=by
 have aE:a∈T.g.map (·.1):=bf.2 ⟨_,iq ae,rfl⟩
 have eF:=h.aI.node ae
 obtain⟨s,gg,dO,dB,I,aa,xN⟩:=xW eF (lv:=lv.toNat) (by omega)
 rw[jU] at dB;cases dB
 have aBG:=ab5 (lv:=lv) ar
 apply aG.Be
 intro n0 eX
 have n2:=H.b1 (u:=u) (b:=n0) (.cells #[.pointer (some ⟨b,0,none⟩)] 122 (0,0)) eX
 obtain⟨_,_,_,fg,_⟩:=kP (h.aI.mono n2)
 refine⟨_,H.ba (H.bh _ _ _) 0,_,rfl,_,fg,vb (h.aI.mono n2) aE λnd bS _=>?_⟩
 rw[ae] at bS;cases bS
 intro n6 qy
 have atP:u n6=none:=n2.none qy
 have atH:n0≠n6:=λe=>by rw[<-e,H.bh] at qy;cases qy
 refine mT (zs:=[.pointer none]) rfl (by simp[cT]) ?_
 obtain⟨iU,se⟩:∃iU,(u.ins n0 (.cells #[.pointer (some ⟨b,0,none⟩)] 122 (0,0))).ins n6 (.cells [.pointer (some ⟨n.p,0,none⟩)].toArray 227 (0,0))=iU:=⟨_,rfl⟩
 rw[se]
 have G4:u.le iU:=by rw[<-se];exact n2.trans (H.b1 _ qy)
 have gd:iU n0=some (.cells #[.pointer (some ⟨b,0,none⟩)] 122 (0,0)):=by rw[<-se,H.bq _ _ atH,H.bh]
 have CS:iU n6=some (.cells #[.pointer (some ⟨n.p,0,none⟩)] 227 (0,0)):=by rw[<-se,H.bh]
 refine⟨_,H.ba CS 0,_,rfl,by decide,⟨jf,e3⟩,s,H.qo G4 I,?_⟩
 have td:=aa.ints.len
 have dW:∀c,s.aj=some c->af c≠none:=λc e=>by rw[xN c e];simp
 have aaz:s.aj≠some n0:=λe=>h.known n0 (dW _ e) eX
 have aaA:s.aj≠some n6:=λe=>h.known n6 (dW _ e) atP
 refine oc oN (AB x) (by decide) rfl (by simp[cT]) (aa.mono G4) (by omega) (by omega) λk7 jP Of aBH FO ahf iE=>?_
 have JJ:l.flatMap encI++ [.int .i64 x]=(l++ [x]).flatMap encI:=by simp[encI]
 rw[JJ] at Of
 have Pg:∀c z,u c=some z->s.aj≠some c->jP c=some z:=λc z h1 h2=>FO c z (G4 c z h1) h2
 have ae7:∀c,k7.aj=some c->s.aj=some c∨u c=none:=λc e=>(ahf c e).imp id λh1=>G4.none h1
 have ab9:∀c,af c≠none->(∀i lv,af c≠some (.arr i lv))->s.aj≠some c:=λc _ h2 e=>h2 _ _ (xN c e)
 have ada:tS jP b T:=h.aI.Vd λc z h1 h2 h3=>Pg c z h1 (ab9 c h2 h3)
 have W0:jP n0=some (.cells #[.pointer (some ⟨b,0,none⟩)] 122 (0,0)):=FO _ _ gd aaz
 have W2:jP n6=some (.cells #[.pointer (some ⟨n.p,0,none⟩)] 227 (0,0)):=FO _ _ CS aaA
 intro L5 Yf
 have join:∀(dt:U) (gN:H) (bw:M o),aJ CG gN 3 1 dt (bw.flatMap encI)->WE T.bY lv l x bw->(∀c z,u c=some z->s.aj≠some c->gN c=some z)->(∀c,dt.aj=some c->s.aj=some c∨u c=none)->
   gN n6=some (.cells #[.pointer (some ⟨n.p,0,none⟩)] 227 (0,0))->L5 dt gN:=by
  intro dt gN bw h1 h2 h3 a7 bK
  refine Yf _ _ ⟨_,H.ba bK 0,_,rfl,by decide,⟨jf,e3⟩,?_⟩
  unfold a8
  rw[KP]
  have uE:s.aj≠some n.p:=λe=>by have:=xN _ e;rw[eF.tag] at this;cases this
  refine adJ (h3 _ _ eF.cell uE) eF.uL (by omega) bw ?_
  obtain⟨aX,fs,mF⟩:=h.level ae dO h1 h3 a7
  exact au _ _ _ _ fs mF h2
 have aBy:k7.n=l.length+1:=by have:=Of.ints.len;simpa using this
 have aBS:sD jP T.an n.sv n.v:=⟨(ada.nodes _ (iq ae)).2,(W.vec _ (iq ae)).2,(W.vec _ (iq ae)).1⟩
 have aA0:jP.cell? ⟨n.p,0,none⟩=some (.slice n.sv.a n.sv.n n.sv.c):=by have:=(ada.nodes _ (iq ae)).1;simp only at this;simp[H.cell?,this,jJ]
 refine⟨_,H.ba W0 0,spec.Bf ada ar ⟨λZF=>?_,λgG=>?_⟩⟩
 have atn:∀y∈l++ [x],y∈T.g.map (·.1):=λy ah=>by rcases cN.1 ah with ah|ah;exact W.cb lv.toNat a aE y (by rw[acb ae jU];exact ah);simp at ah;rw[ah];exact J
 obtain⟨L,cX⟩:∃L:M {i//i∈T.g.map (·.1)},L.map (·.1)=l++ [x]:=⟨(l++ [x]).attachWith _ atn,by simp⟩
 haveI:lN {i//i∈T.g.map (·.1)}:=⟨⟨x,J⟩⟩
 have oD:∀{c:N},s.aj≠some c->(iU c≠none)->k7.aj≠some c:=λh1 h2 e=>(ahf _ e).elim h1 h2
 have adb:tS (jP.CA k7) b T:=h.aI.Vd λc z h1 h2 h3=>by have a7:=ab9 c h2 h3;rw[H.aer (oD a7 (by rw[G4 c z h1];simp))];exact Pg c z h1 a7
 have d0:(jP.CA k7) n0=some (.cells #[.pointer (some ⟨b,0,none⟩)] 122 (0,0)):=by rw[H.aer (oD aaz (by rw[gd];simp))];exact W0
 have d6:(jP.CA k7) n6=some (.cells #[.pointer (some ⟨n.p,0,none⟩)] 227 (0,0)):=by rw[H.aer (oD aaA (by rw[CS];simp))];exact W2
 have auz:sD (jP.CA k7) T.an n.sv n.v:=⟨(adb.nodes _ (iq ae)).2,(W.vec _ (iq ae)).2,(W.vec _ (iq ae)).1⟩
 have apj:(jP.CA k7).cell? ⟨n.p,0,none⟩=some (.slice n.sv.a n.sv.n n.sv.c):=by have:=(adb.nodes _ (iq ae)).1;simp only at this;simp[H.cell?,this,jJ]
 rw[<-cX] at Of
 refine spec.VB (val:=λi:{i//i∈T.g.map (·.1)}=>i.1) (atd T.g n.v (T.g.map (·.1))) (enters_of Tryz.func176 (by kernel_rfl) rfl) (ub:=jP.CA k7)
  (λy Y v aA=>?_) (H.aAs _ _) (λc I=>a1 I) Of ?_ λmU pC kx _ nn SN=>?_
 exact spec.J1 (K:=λfm dc=>fm=(if bD (cS T.g n.v y.1) (cS T.g n.v Y.1)=ak then -1 else 1)/\dc=v) (adb.mono aA) W y.2 Y.2 (auz.mono aA) (H.qo aA (H.ba d0 0)) (H.qo aA (H.ba d6 0)) (H.qo aA apj) ⟨rfl,rfl⟩
 have:=ei iS cX
 simp at this;omega
 have ax7:tS mU b T:=h.aI.Vd λc z h1 h2 h3=>by have a7:=ab9 c h2 h3;exact SN c z (Pg c z h1 a7) (oD a7 (by rw[G4 c z h1];simp))
 have aoO:=SN _ _ W0 (oD aaz (by rw[gd];simp))
 have aoU:=SN _ _ W2 (oD aaA (by rw[CS];simp))
 have ir:=br.cap nn.own.cE
 refine⟨_,H.ba aoO 0,spec.Bf ax7 ar ?_⟩
 refine oM (P:=aH) oN (l:=0) (h:=(wc T.bY lv).toNat) (m:=k7.c) (.inl ⟨rfl,rfl⟩) (.inr (by rw[wA (by omega)])) (.inl ⟨rfl,rfl⟩) (by omega) (by omega) (cA _) ir ?_
 obtain⟨Z,A0,_⟩:=nn.front (m:=(wc T.bY lv).toNat) (by omega)
 rw[yW nO] at Z
 refine join _ _ _ Z ⟨λy ah=>?_,λbS=>?_,?_⟩ (λc z h1 h2=>SN c z (Pg c z h1 h2) (oD h2 (by rw[G4 c z h1];simp))) (λc e=>ae7 c (by rw[<-A0];exact e)) aoU
 have aa4:=oa ah
 have:=((kx.map (·.1)).mem_iff (a:=y)).1 aa4
 rw[cX] at this
 simpa using this
 rw[<-cX] at bS
 exact((kx.map (·.1)).nodup_iff.2 bS).sublist (rN _ _)
 simp;omega
 refine join k7 jP (l++ [x]) Of ⟨λy ah=>by simpa using ah,λh=>h,?_⟩ Pg ae7 W2
 simp;omega
end
section
variable{u ai u':H}{g b0:M (o×dq)}{b c n0:N}{l:M (o×ap)}{n:dq}{i a:o}{D bw:M o}{K:U->H->Prop}
def e5(g:M (o×dq)):M (o×M o):=g.map λx=>(x.1,x.2.v)
structure Alike(g b0:M (o×dq)):Prop where
 ids:b0.map (·.1)=g.map (·.1)
 at':∀i n,eL g i=some n->∃n',eL b0 i=some n'/\n'.p=n.p/\n'.v=n.v/\n'.top=n.top
def Alike.refl(g:M (o×dq)):Alike g g:=⟨rfl,λ_ n h=>⟨n,h,rfl,rfl,rfl⟩⟩
def Alike.trans{agk:M (o×dq)}(h:Alike g b0)(k:Alike b0 agk):Alike g agk:=
 ⟨k.ids.trans h.ids,λi n ae=>by obtain⟨n',h1,h2,h3,a7⟩:=h.at' i n ae;obtain⟨awB,b3,cu,jW,Kw⟩:=k.at' i n' h1;exact⟨awB,b3,cu.trans h2,jW.trans h3,Kw.trans a7⟩⟩
def Alike.jN(ae:eL g a=some n)(lv:N)(s:U)(l:M o):Alike g (qS g a (n.jN lv s l)):=
 ⟨ayN _ _ _,λi m hm=>by rw[MU];by_cases e:i=a;subst e;rw[a1 rfl,hm];rw[ae] at hm;cases hm;exact⟨_,rfl,rfl,rfl,rfl⟩;rw[aF e];exact⟨m,hm,rfl,rfl,rfl⟩⟩
def Alike.map{β:Type}(h:Alike g b0)(bS:(g.map (·.1)).Nodup)(f:o×dq->β)(Z:∀i n n',n'.p=n.p->n'.v=n.v->n'.top=n.top->f (i,n')=f (i,n)):b0.map f=g.map f:=by
 have hlen:b0.length=g.length:=by have:=ei iS h.ids;simpa using this
 apply ac6 (by simp[hlen]);intro k h1 h2;simp only[de] at h1 h2;simp only[HQ];have ch:(b0[k]).1=(g[k]).1:=by have:=ei (λl=>l[k]?) h.ids;simpa[h1,h2] using this
 have W:=AP bS (id:=(g[k]).1) (n:=(g[k]).2) (kE h2);obtain⟨n',aS,aB,cW,fN⟩:=h.at' _ _ W;have xE:(b0.map (·.1)).Nodup:=by rw[h.ids];exact bS
 have ca:=AP xE (id:=(b0[k]).1) (n:=(b0[k]).2) (kE h1);rw[ch,aS] at ca;have gw:(b0[k]).2=n':=(cU ca).symm;have nk:b0[k]=((g[k]).1,n'):=by rw[<-ch,<-gw]
 rw[nk];exact Z _ _ _ aB cW fN
def Alike.rows(h:Alike g b0)(bS:(g.map (·.1)).Nodup):e5 b0=e5 g:=h.map bS _ λ_ _ _ _ h2 _=>by rw[h2]
def Alike.jt(h:Alike g b0)(bS:(g.map (·.1)).Nodup):jt b0=jt g:=h.map bS _ λ_ _ _ h1 _ _=>by rw[h1]
structure ql(an bY:o)(g:M (o×dq)):Prop where
 ok:qk an g
 many:∀i n (lv:N) l,eL g i=some n->n.kn[lv]?=some l->(l.length:o)<=wc bY lv/\l.Nodup/\i∉l
def qk.alike{an:o}(h:qk an g)(aE:Alike g b0)(bS:(g.map (·.1)).Nodup)(hk:∀i n l,eL b0 i=some n->l∈n.kn->∀x∈l,x∈g.map (·.1)):qk an b0:=by
 have xE:(b0.map (·.1)).Nodup:=by rw[aE.ids];exact bS
 have mL:∀x∈b0,∃n,eL g x.1=some n/\x.2.v=n.v/\x.2.top=n.top:=λx J=>by
  have ch:x.1∈g.map (·.1):=by rw[<-aE.ids];exact bf.2 ⟨x,J,rfl⟩
  obtain⟨n,ae⟩:=yY ch;obtain⟨n',aS,_,cW,fN⟩:=aE.at' _ _ ae;have:=AP xE (id:=x.1) (n:=x.2) J;rw[aS] at this;cases this;exact⟨n,ae,cW,fN⟩
 refine⟨h.hl,λx J=>?_,λx J=>?_,λx J l ar i hi=>?_,λx J=>?_,?_⟩;obtain⟨n,ae,aS,_⟩:=mL x J;have:=h.vec _ (iq ae);rw[aS];exact this;obtain⟨n,ae,_,aB⟩:=mL x J;have:=h.top _ (iq ae);rw[aB];exact this;rw[aE.ids];exact hk x.1 x.2 l (AP xE J) ar i hi;obtain⟨n,ae,_⟩:=mL x J;exact h.ids (x.1,n) (iq ae);have:=ei iS aE.ids;simp only[de] at this;rw[this];exact h.small
def QB{lv:N}{s:U}{l gg:M o}{wa:N}(h:(n.jN lv s l).kn[wa]?=some gg):(wa=lv/\gg=l)∨(wa≠lv/\n.kn[wa]?=some gg):=by unfold dq.jN at h;simp only at h;by_cases e:wa=lv;subst e;rw[BX] at h;simp only[qI] at h;split at h;cases h;exact .inl ⟨rfl,rfl⟩;cases h;rw[u0 (dz e)] at h;exact .inr ⟨e,h⟩
def ql.jN{an bY:o}(h:ql an bY g)(bS:(g.map (·.1)).Nodup)(ae:eL g a=some n){lv:N}(s:U)(h1:∀x∈bw,x∈g.map (·.1))(h2:(bw.length:o)<=wc bY lv)(h3:bw.Nodup)(a7:a∉bw):
  ql an bY (qS g a (n.jN lv s bw)):=by
 have r9:∀i m,eL (qS g a (n.jN lv s bw)) i=some m->(i=a/\m=n.jN lv s bw)∨(i≠a/\eL g i=some m):=λi m hm=>by rw[MU] at hm;by_cases e:i=a;subst e;rw[a1 rfl,ae] at hm;cases hm;exact .inl ⟨rfl,rfl⟩;rw[aF e] at hm;exact .inr ⟨e,hm⟩
 refine⟨h.ok.alike (Alike.jN ae lv s bw) bS λi m l hm ar x J=>?_,λi m wa l hm ar=>?_⟩
 rcases r9 i m hm with⟨rfl,rfl⟩|⟨_,hm⟩
 obtain⟨k,hk⟩:=U7.1 ar
 rcases QB hk with⟨_,rfl⟩|⟨_,hk⟩
 exact h1 x J
 exact h.ok.known _ (iq ae) l (dK hk) x J
 exact h.ok.known _ (iq hm) l ar x J
 rcases r9 i m hm with⟨rfl,rfl⟩|⟨_,hm⟩
 rcases QB ar with⟨rfl,rfl⟩|⟨_,hk⟩
 exact⟨h2,h3,a7⟩
 exact h.many _ _ _ _ ae hk
 exact h.many _ _ _ _ hm ar
def ql.ajT{an bY:o}(h:ql an bY g)(bS:(g.map (·.1)).Nodup){x lv:o}(ae:eL g a=some n)(jf:0<=lv)(s:U){l:M o}(ar:n.kn[lv.toNat]?=some l)(hk:WE bY lv l x bw)
  (J:x∈g.map (·.1)) (DL:x≠a) (eR:x∉l):ql an bY (qS g a (n.jN lv.toNat s bw)):=by
 obtain⟨m1,m2,m3⟩:=h.many a n _ l ae ar
 refine h.jN bS ae s (λy ah=>?_) (by rw[wA jf];exact hk.len) (hk.nodup ?_) λhm=>?_
 rcases hk.sub y ah with ah|rfl
 exact h.ok.known _ (iq ae) l (dK ar) y ah
 exact J
 refine gh.2 ⟨m2,by simp,λc I d aw=>?_⟩
 simp at aw;subst aw;exact λe=>eR (e▸I)
 rcases hk.sub a hm with bK|bK
 exact m3 bK
 exact DL bK.symm
structure dS(T:aQ):Prop where
 k:ql T.an T.bY T.g
 bY:1<=T.bY/\T.bY<=16
 entry:(T.g=[]/\T.entry=0)∨T.entry∈T.g.map (·.1)
def In.same{af:N->ay bp}{T:aQ}(h:In ai u af b T)(hu:∀c z,u c=some z->af c≠none->u' c=some z)(hle:ai.le u'):In ai u' af b T:=
 ⟨h.aI.bN (λ_ _=>rfl) hu,hle,h.out,λc I=>by obtain⟨z,aa⟩:=e9.1 (h.known c I);rw[hu c z aa I];simp⟩
def In.aside{af:N->ay bp}{T:aQ}(h:In ai u af b T)(Z:af c=none)(h0:ai c=none)(z:Obj):In ai (u.ins c z) af b T:=
 h.same (λx y J FY=>by rw[H.bq _ _ (λe=>by rw[e] at FY;exact FY Z)];exact J) λx y J=>by rw[H.bq _ _ (λe=>by rw[e,h0] at J;cases J)];exact h.le x y J
def In.fresh{af:N->ay bp}{T:aQ}(h:In ai u af b T)(I:u c=none):af c=none:=by
 cases e:af c with
 |none=>rfl|some t=>exact aW I (h.known c (by rw[e];simp))
def gA.none{af aX:N->ay bp}(h:gA u af u' aX){z:Obj}(I:u c=some z)(Z:af c=none):aX c=none:=by
 cases e:aX c with
 |none=>rfl|some t=>rcases h.grow c (by rw[e];simp) with h1|h1;exact aW Z h1;rw[I] at h1;cases h1
abbrev Qy:iP:=Lv (Tryz.f304.body.getD Go.Code.skip)
def ayK:Qy=.rangeFunc (.tmp 6) #[7] (zZ Qy) (z1 Qy):=by kernel_rfl
def CX(x:o):ap:=.int .i64 x
def ayL(n0:N)(y:o)(v:H)(cV:H->Prop)(env:M (N×ap))(he:(2,hy (some ⟨n0,0,none⟩))∈env)
  (h:tt=tt/\([]:M (M ap))=[]/\∃s:U,v.cell? ⟨n0,0,none⟩=some (.slice s.a s.n s.c)/\
     dd aH (dL 30 1 #[(0,.int .i64 y)]) [.one .slice] v λ(s1:U) j0=>
      dd aH (ey #[30,30] 30 #[.slice s.a s.n s.c,.slice s1.a s1.n s1.c]) [.one .slice] j0 λ(s2:U) nF=>
       H.aO nF ⟨n0,0,none⟩ [.slice s2.a s2.n s2.c] λfA=>tt=tt/\cV fA):
  CL aH 13 (zZ Qy) (z1 Qy) env 7 (CX y) v cV:=
 CL.of (C:={P:=aH,exp:=[2],wrap:=ax,ik:=ik}) (nR _ _) (by kernel_rfl) (by kernel_rfl) [(7,.v (CX y)),(2,.ptr ⟨n0,0,none⟩)] (by intro p ad;rcases cJ.1 ad with rfl|ad;exact⟨_,rfl,.inl ⟨rfl,rfl⟩⟩;rcases cJ.1 ad with rfl|ad;exact⟨_,rfl,.inr ⟨show(2:N)≠7 by decide,he⟩⟩;cases ad) (p3 (by kernel_rfl) h)
def IH(l:M (o×ap))(dl:M (o×ap))(x:o)(afE:M (o×ap)):Prop:=∃v,(x,v)∈l/\x∉dl.map (·.1)/\afE=dl++ [(x,v)]
def collected{dl:M (o×ap)}(h:dl.Perm l):dQ (dl.map (·.1))=dQ (l.map (·.1)):=ay2 (h.map _)
def spec.H9{fv:ap}(ar:l.length<=1000000)(bS:(l.map (·.1)).Nodup)(iM:∀ai,u.le ai->L4 aH fv CX (IH l) [] (λdl=>dl.Perm l) ai)
  (au:∀(s:U) (dl:M (o×ap)) (u':H),dl.Perm l->aJ u u' 3 1 s ((dl.map (·.1)).flatMap encI)->K s u'):C.H9 fv u K:=by
 apply aG.H9
 apply aG.VA
 intro n0 eX
 have hle:=H.b1 (u:=u) (b:=n0) (.cells #[.slice none 0 0] 30 (0,0)) eX
 refine nf.code ayK (nf.avJ (σ:=M (o×ap)) (t:=6) (enc:=CX) (fv:=fv) (Nx:=IH l) (s0:=[]) (En:=λdl=>dl.Perm l) hle W4 (by simp) (by decide) iM
  (λdl w=>(dl.map (·.1)).Nodup/\(∀p∈dl,p∈l)/\∃s0:U,w n0=some (.cells #[.slice s0.a s0.n s0.c] 30 (0,0))/\aJ u w 3 1 s0 ((dl.map (·.1)).flatMap encI)/\s0.aj≠some n0)
  ⟨Ls,λp ad=>(by cases ad),⟨none,0,0⟩,H.bh _ _ _,aJ.nil hle _ _,by simp[U.aj]⟩ (λi v ⟨_,_,_,_,aa,_⟩=>aa.le) ?_ ?_)
 rintro dl y afE v ⟨Y,aC,at2,rfl⟩ ⟨nm,vF,s0,JA,j7,N9⟩
 refine ayL n0 y v _ _ (by simp) ⟨rfl,rfl,s0,H.ba JA 0,?_⟩
 have atG:=j7.ints.len
 have y7:dl.length<=l.length:=by
  have h1:(dl.map (·.1)).Nodup:=nm;have h2:∀i∈dl.map (·.1),i∈l.map (·.1):=λi hi=>by obtain⟨p,ad,rfl⟩:=bf.1 hi;exact bf.2 ⟨p,vF p ad,rfl⟩
  have:=pj h1 h2;simpa using this
 simp only[de] at atG
 refine oc oN (AB y) (by decide) rfl (by simp[cT]) j7 (by omega) (by omega) λs2 nF dI ft eC eu _=>Il (eC _ _ JA N9) rfl ⟨rfl,?_,?_,s2,H.bh _ _ _,?_,?_⟩
 rw[ek]
 refine gh.2 ⟨nm,by simp,λa aE b ab=>?_⟩
 simp at ab;subst ab;exact λe=>at2 (e▸aE)
 intro p ad
 rcases cN.1 ad with ad|ad
 exact vF p ad
 simp at ad;rw[ad];exact aC
 have rl:s2.aj≠some n0:=λe=>by rcases eu n0 e with h|h;exact N9 h;rw[JA] at h;cases h
 have:=dI.xU eX rl (.cells #[.slice s2.a s2.n s2.c] 30 (0,0))
 rw[ek,hz]
 exact this
 exact λe=>by rcases eu n0 e with h|h;exact N9 h;rw[JA] at h;cases h
 rintro dl v D pK ⟨nm,vF,s0,JA,j7,N9⟩ eN
 have xA:=H.b1 (u:=v) (b:=D) (yc (some [])) eN
 have kv:=j7.mono xA
 have hU:=xA _ _ JA
 refine⟨s0,H.ba hU 0,H.bh _ _ _,au _ dl _ pK ?_⟩
 refine kv.xU (j7.le.none eN) (λe=>?_) _
 have:=dE j7 e
 exact this eN
def spec.qa{fv:ap}(ar:l.length<=1000000)(bS:(l.map (·.1)).Nodup)(iM:∀ai,u.le ai->L4 aH fv CX (IH l) [] (λdl=>dl.Perm l) ai)
  (au:∀s u',aJ u u' 3 1 s ((dQ (l.map (·.1))).flatMap encI)->K s u'):C.qa fv u K:=by
 apply aG.qa
 refine spec.H9 ar bS iM λs dl aU ad aa=>?_
 have hlen:=ad.length_eq
 refine spec.rQ aa (by simp;omega) λdc dI _=>au _ _ ?_
 rw[collected ad] at dI
 exact dI
def aod:hn aH 302=ak:=by kernel_rfl
def aoc:hn aH 303=ak:=by kernel_rfl
structure anE(cV:M (o×ap)->H->Prop)(l:M (o×ap))(r b:N)(dl:M (o×ap))(w:H):Prop where
 ex:∃v0,cV dl v0/\v0 r=none/\v0.le w/\na w r b l dl
def abi{w:H}{r:N}{dl:M (o×ap)}(h:na w r b l dl):dl.length<=l.length:=by
 have h2:∀i∈dl.map (·.1),i∈l.map (·.1):=λi hi=>by obtain⟨p,ad,rfl⟩:=bf.1 hi;exact bf.2 ⟨p,h.sub p ad,rfl⟩
 have:=pj h.CW h2;simpa using this
def abC{P:dY}{v:H}{mu:ap}{t k e:dJ}{Y:ap}(T:om P t k e Y)(h:fx u b l)
  (cV:M (o×ap)->H->Prop) (kW:∀s v,cV s v->u.le v)
  (ah:∀s y aq v (K:aK->H->Prop),IH l s y aq->cV s v->(∀b8,cV aq b8->K ak b8)->Ak P mu #[CX y] [.one .bool] v K) (h0:cV [] v) {K:H->Prop} (au:∀s b8,s.Perm l->cV s b8->K b8):
  dd P (rJ t (.map (some b))) [.one .ptr] v λ(gX:ay bc) (dc:H)=>∃Wx:H->Prop,∃aeB:H->N,Wx dc/\∀fA,Wx fA->w0 P (.pointer gX) fA (λtH=>∃jj,jj.le tH/\K jj)
   (λ_ _ py=>wZ P (.pointer gX) py λv10 _ gz=>sF (.int .i64) v10 λ(aAB:o)=>tL P mu #[.int .i64 aAB] [.one .bool] gz λ(aeT:aK) (Cn:H)=>
    ((¬(aeT=ak))->∃jj,jj.le Cn/\K jj)/\(aeT=ak->Wx Cn/\aeB Cn<aeB fA)):=by
 refine LB T (h.mono (kW _ _ h0)) λr z O xw=>?_
 obtain⟨wj,Oj⟩:∃wj,u b=some wj:=by obtain⟨es,c,ab,_⟩:=h;exact⟨_,ab⟩
 let dg:N->H->Prop:=λn w=>∃dl,anE cV l r b dl w/\l.length-dl.length<=n
 refine⟨λw=>∃n,dg n w,λw=>least λn=>dg n w,⟨_,[],⟨v,h0,O,H.b1 _ O,xw⟩,cA _⟩,?_⟩
 intro w hw
 have cv:=G5 hw
 obtain⟨n,ae⟩:∃n,(least λn=>dg n w)=n:=⟨_,rfl⟩
 dsimp only
 rw[ae] at cv ⊢
 obtain⟨dl,⟨v0,aP,ll,hle,iM⟩,hlen⟩:=cv
 refine KN iM (λad=>⟨v0,hle,au _ _ ad aP⟩) λp z ad Bc pO=>?_
 refine I9 pO ?_
 have k3:∃x,w r=some x:=by obtain⟨es,c,seen,_,_,h3,_⟩:=iM;exact⟨_,h3⟩
 have xA:v0.le (w.ins r z):=λc x I=>by rw[H.bq _ _ (λe=>by rw[e,ll] at I;cases I)];exact hle c x I
 show tL P mu #[.int .i64 p.1] [.one .bool] (w.ins r z) _
 refine .inr ((ah dl p.1 (dl++ [p]) v0 (λb b8=>b=ak/\cV (dl++ [p]) b8) ⟨p.2,ad,Bc,rfl⟩ aP λb8 hs=>⟨rfl,hs⟩).frame xA ?_)
 rintro dM iV w' eQ ⟨rfl,ri⟩
 refine⟨λal=>aW rfl al,λ_=>?_⟩
 obtain⟨auB,dG⟩:=eQ.out r z ll (H.bh _ _ _)
 have hU:∀x,(w.ins r z) b=some x->w' b=some x:=λx J=>by have aS:=xA b wj (kW _ _ aP b wj Oj);rw[aS] at J;cases J;exact eQ.le b wj (kW _ _ ri b wj Oj)
 have F5:na w' r b l (dl++ [p]):=pO.else hU λx J=>by rw[H.bh] at J;cases J;exact dG
 have Gb:=abi F5
 simp only[ez,rO] at Gb
 have eF:dg (n-1) w':=⟨dl++ [p],⟨iV,ri,auB,eQ.le,F5⟩,by simp only[ez,rO];omega⟩
 refine⟨⟨_,eF⟩,?_⟩
 have:=least_le (P:=λn=>dg n w') eF
 omega
def avW(T:om aH 166 3 4 (.bool ax))(h:fx u b l)(I:u.cell? ⟨n0,0,none⟩=some (.map (some b))):
  L4 aH (.func (.func 303) #[] #[.pointer (some ⟨n0,0,none⟩)]) CX (IH l) [] (λdl=>dl.Perm l) u:=by
 intro mu cV kW ah v K h0 au
 refine⟨_,_,_,rfl,hh aoc,io.weaken (ss:=[]) ?_⟩
 exact aG.ab1 mu ⟨n0,0,none⟩ v _ ⟨_,H.qo (kW _ _ h0) I,abC T h cV kW ah h0 au⟩
def avX(T:om aH 182 3 227 (.pointer none))(h:fx u b l)(I:u.cell? ⟨n0,0,none⟩=some (.map (some b))):
  L4 aH (.func (.func 302) #[] #[.pointer (some ⟨n0,0,none⟩)]) CX (IH l) [] (λdl=>dl.Perm l) u:=by
 intro mu cV kW ah v K h0 au
 refine⟨_,_,_,rfl,hh aod,io.weaken (ss:=[]) ?_⟩
 exact aG.abZ mu ⟨n0,0,none⟩ v _ ⟨_,H.qo (kW _ _ h0) I,abC T h cV kW ah h0 au⟩
def Mj:om aH 166 3 4 (.bool ax):=⟨by kernel_rfl,by kernel_rfl,λ_=>by kernel_rfl⟩
def Fc(id:o)(l:M o):M o:=l.filter λx=>!decide (x=id)
structure mY(id:o)(g b0:M (o×dq))(D:M o)(i:o)(j:N):Prop where
 bT:Alike g b0
 kn:∀a n n',eL g a=some n->eL b0 a=some n'->∀(lv:N) bw,n'.kn[lv]?=some bw->∃l,n.kn[lv]?=some l/\bw=if a∈D∨(a=i/\lv<j) then Fc id l else l
def mY.refl(id:o)(g:M (o×dq))(i:o):mY id g g [] i 0:=
 ⟨Alike.refl g,λa n n' h bQ lv bw ar=>by rw[h] at bQ;cases bQ;exact⟨bw,ar,by simp⟩⟩
def mY.step{id:o}{j:N}(h:mY id g b0 D i j)(hi:i∉D){n':dq}(ae:eL b0 i=some n')(ar:n'.kn[j]?=some bw)(s:U):
  mY id g (qS b0 i (n'.jN j s (Fc id bw))) D i (j+1):=by
 refine⟨h.bT.trans (Alike.jN ae j s _),λa n m W hm lv gg h4=>?_⟩
 rw[MU] at hm
 by_cases e:a=i
 subst e
 rw[a1 rfl,ae] at hm;cases hm
 rcases QB h4 with⟨rfl,rfl⟩|⟨al,hk⟩
 obtain⟨l,b3,cu⟩:=h.kn a n n' W ae lv bw ar
 refine⟨l,b3,?_⟩
 rw[aF (by rintro(h1|⟨_,h1⟩);exact hi h1;omega)] at cu
 rw[a1 (.inr ⟨rfl,by omega⟩),cu]
 obtain⟨l,b3,cu⟩:=h.kn a n n' W ae lv gg hk
 refine⟨l,b3,?_⟩
 rw[cu]
 by_cases I:lv<j
 rw[a1 (.inr ⟨rfl,I⟩),a1 (.inr ⟨rfl,by omega⟩)]
 rw[aF (by rintro(h1|⟨_,h1⟩);exact hi h1;omega),aF (by rintro(h1|⟨_,h1⟩);exact hi h1;omega)]
 rw[aF e] at hm
 obtain⟨l,b3,cu⟩:=h.kn a n m W hm lv gg h4
 refine⟨l,b3,?_⟩
 rw[cu]
 simp[e]
def mY.next{id:o}(h:mY id g b0 D i 31)(hlen:∀n',eL b0 i=some n'->n'.kn.length=31)(lo:o):mY id g b0 (D++ [i]) lo 0:=
 ⟨h.bT,λa n n' W ca lv bw ar=>by
  obtain⟨l,b3,cu⟩:=h.kn a n n' W ca lv bw ar;refine⟨l,b3,?_⟩;rw[cu];by_cases e:a=i;subst e;have:=hlen n' ca;have h2:lv<31:=by rw[<-this];exact(jM.1 ar).1
  simp[h2];simp[e]⟩
def mY.eP{id:o}(h:mY id g b0 D i 0)(lo:o):mY id g b0 D lo 0:=
 ⟨h.bT,λa n n' W ca lv bw ar=>by obtain⟨l,b3,cu⟩:=h.kn a n n' W ca lv bw ar;exact⟨l,b3,by rw[cu];simp⟩⟩
def Sa{id:o}(i:o):eL (g.filter λx=>x.1 !=id) i=if i=id then none else eL g i:=by
 induction g with
 |nil=>simp[eL]|cons x g aM=>
  unfold eL at*;rw[B7];by_cases J:x.1=id;have aS:(x.1 !=id)=ax:=by simp[J]
  rw[aS];simp only[D6,BU];rw[aM];by_cases hi:i=id;rw[a1 hi,a1 hi];rw[aF hi,aF hi,HP,Qf (show x.1≠i from λe=>hi (by rw[<-e];exact J))];have aS:(x.1 !=id)=ak:=by simp[J]
  rw[aS];simp only[qI,HP];by_cases hi:x.1=i;subst hi;simp[J];rw[Qf hi];exact aM
def XH{id:o}:i∈(g.filter λx=>x.1 !=id).map (·.1)↔i∈g.map (·.1)/\i≠id:=by simp only[bf,iT,Qe,ne_eq];constructor;rintro⟨x,⟨h1,h2⟩,rfl⟩;exact⟨⟨x,h1,rfl⟩,h2⟩;rintro⟨⟨x,h1,rfl⟩,h2⟩;exact⟨x,⟨h1,h2⟩,rfl⟩
def axD(g:M (o×dq))(id:o):(jt g).filter (λp=>p.1 !=id)=jt (g.filter λx=>x.1 !=id):=by unfold jt;rw[tw];rfl
def mY.ok{id an bY:o}(au:ql an bY g)(bS:(g.map (·.1)).Nodup)(h:mY id (g.filter λx=>x.1 !=id) b0 D i 0)(eN:∀a∈(g.filter λx=>x.1 !=id).map (·.1),a∈D):ql an bY b0:=by
 have JZ:((g.filter λx=>x.1 !=id).map (·.1)).Nodup:=bS.sublist (U0.map _);have iv:qk an (g.filter λx=>x.1 !=id)->qk an b0:=λW=>W.alike h.bT JZ λa n' bw hW xy x J=>by
  have aE:a∈(g.filter λx=>x.1 !=id).map (·.1):=by rw[<-h.bT.ids];exact bf.2 ⟨_,iq hW,rfl⟩
  obtain⟨n,ae⟩:=yY aE;obtain⟨k,hk⟩:=U7.1 xy;obtain⟨l,b3,cu⟩:=h.kn a n n' ae hW k bw hk;rw[a1 (.inl (eN a aE))] at cu;rw[cu] at J;simp only[Fc,iT,La,HG] at J;rw[Sa] at ae;split at ae;cases ae;exact XH.2 ⟨au.ok.known _ (iq ae) l (dK b3) x J.1,J.2⟩
 have many:∀a n' (lv:N) bw,eL b0 a=some n'->n'.kn[lv]?=some bw->(bw.length:o)<=wc bY lv/\bw.Nodup/\a∉bw:=by
  intro a n' lv bw hW xy;have aE:a∈(g.filter λx=>x.1 !=id).map (·.1):=by rw[<-h.bT.ids];exact bf.2 ⟨_,iq hW,rfl⟩
  obtain⟨n,ae⟩:=yY aE;obtain⟨l,b3,cu⟩:=h.kn a n n' ae hW lv bw xy;rw[a1 (.inl (eN a aE))] at cu;rw[Sa] at ae;split at ae;cases ae;obtain⟨m1,m2,m3⟩:=au.many a n lv l ae b3;rw[cu];refine⟨?_,m2.sublist U0,λhm=>m3 (iT.1 hm).1⟩;have:=wB (λx=>!decide (x=id)) l;unfold Fc;omega
 refine⟨?_,many⟩;have mL:∀x∈b0,∃n,eL g x.1=some n/\x.2.v=n.v/\x.2.top=n.top/\x.1≠id:=λx J=>by
  have ch:x.1∈(g.filter λx=>x.1 !=id).map (·.1):=by rw[<-h.bT.ids];exact bf.2 ⟨x,J,rfl⟩
  obtain⟨n,ae⟩:=yY ch;obtain⟨n',aS,_,cW,fN⟩:=h.bT.at' _ _ ae;have xE:(b0.map (·.1)).Nodup:=by rw[h.bT.ids];exact JZ
  have:=AP xE (id:=x.1) (n:=x.2) J;rw[aS] at this;cases this;rw[Sa] at ae;split at ae;cases ae;rename_i al;exact⟨n,ae,cW,fN,al⟩
 have hlen:b0.length<=g.length:=by have:=ei iS h.bT.ids;simp only[de] at this;rw[this];exact wB _ _
 refine⟨au.ok.hl,λx J=>?_,λx J=>?_,λx J bw xy y ah=>?_,λx J=>?_,jg hlen au.ok.small⟩;obtain⟨n,ae,aS,_⟩:=mL x J;have:=au.ok.vec _ (iq ae);rw[aS];exact this;obtain⟨n,ae,_,aB,_⟩:=mL x J;have:=au.ok.top _ (iq ae);rw[aB];exact this;rw[h.bT.ids];have xE:(b0.map (·.1)).Nodup:=by rw[h.bT.ids];exact JZ
 have hW:=AP xE (id:=x.1) (n:=x.2) J;have aE:x.1∈(g.filter λx=>x.1 !=id).map (·.1):=by rw[<-h.bT.ids];exact bf.2 ⟨x,J,rfl⟩
 obtain⟨n,ae⟩:=yY aE;obtain⟨k,hk⟩:=U7.1 xy;obtain⟨l,b3,cu⟩:=h.kn x.1 n x.2 ae hW k bw hk;rw[a1 (.inl (eN x.1 aE))] at cu;rw[cu] at ah;simp only[Fc,iT,La,HG] at ah;rw[Sa] at ae;split at ae;cases ae;exact XH.2 ⟨au.ok.known _ (iq ae) l (dK b3) y ah.1,ah.2⟩;obtain⟨n,ae,_⟩:=mL x J;exact au.ok.ids (x.1,n) (iq ae)
def In.remove{af:N->ay bp}{T:aQ}(h:In ai u af b T){id:o}{z:Obj}(hm:fx (u.ins T.m z) T.m ((jt T.g).filter λp=>p.1 !=id))(ae:eL T.g id=some n):
  ∃c5,In ai (u.ins T.m z) c5 b {T with g:=T.g.filter λx=>x.1 !=id}/\gA u af (u.ins T.m z) c5/\(∀c,nJ af id c->c5 c=none)/\nb af (u.ins T.m z) id n:=by
 rw[axD] at hm
 obtain⟨h1,h2⟩:=h.alO hm λx J=>h.aI.nodes x (iT.1 J).1
 obtain⟨_,_,_,eZ⟩:=h.KL
 have eF:nb af (u.ins T.m z) id n:=(h.aI.node ae).bN (λ_ _=>rfl) λc y ah xD=>by rw[H.bq _ _ (eZ _ c xD).2.1];exact ah
 let c5:N->ay bp:=λc=>open Classical in if nJ af id c then none else af c
 have aS:∀c,nJ af id c->c5 c=none:=λc I=>a1 I
 have aB:∀c,¬nJ af id c->c5 c=af c:=λc I=>aF I
 have cW:∀c,c5 c≠none->af c≠none:=λc I=>by by_cases hm:nJ af id c;exact aW (aS c hm) I;rw[aB c hm] at I;exact I
 have no:∀{c:N} {t:bp},af c=some t->(∀i,t≠.node i)->(∀i,t≠.vec i)->(∀i lv,t≠.arr i lv)->c5 c=af c:=λe h1 h2 h3=>aB _ (by rintro(aB|aB|⟨lv,aB⟩)<;>rw[e] at aB<;>cases aB;exact h1 _ rfl;exact h2 _ rfl;exact h3 _ _ rfl)
 have cb:=no h.aI.dN (by simp) (by simp) (by simp)
 have kA:=no h.aI.h9 (by simp) (by simp) (by simp)
 have zy:=no h.aI.dn (by simp) (by simp) (by simp)
 refine⟨c5,⟨⟨h1.aI.cell,h1.aI.src,h1.aI.Ik,h1.aI.map,by rw[cb];exact h.aI.dN,by simp only;rw[kA];exact h.aI.h9,by simp only;rw[zy];exact h.aI.dn,λx J=>?_⟩,h1.le,λc I=>h.out c (cW c I),λc I=>h1.known c (cW c I)⟩,
  ⟨h2.bN,λc I=>h2.grow c (cW c I)⟩,aS,eF⟩
 have al:x.1≠id:=by simpa using(iT.1 J).2
 refine(h1.aI.nodes x J).bN (λc I=>aB c ?_) λ_ _ ah _=>ah
 rintro(e|e|⟨lv,e⟩)<;>rcases I with k|k|⟨wa,k⟩<;>rw[e] at k<;>cases k<;>exact al rfl
def WO:hn aH 293=ak:=by kernel_rfl
def apq{id:o}{T:dJ}:WH (CG.ins n0 (.cells #[.int .i64 id] T (0,0))) (.func (.func 293) #[] #[.pointer (some ⟨n0,0,none⟩)]) (λx=>decide (x=id)):=
 λx v _ aA au=>.inl ⟨_,_,_,rfl,hh WO,aG.ZR x ⟨n0,0,none⟩ v _ ⟨id,H.ba (aA _ _ (H.bh _ _ _)) 0,au⟩⟩
structure Am(ai u:H)(af:N->ay bp)(b:N)(T:aQ)(id:o)(u':H)(aX:N->ay bp)(bt:aQ):Prop where
 is:In ai u' aX b bt
 eP:gA u af u' aX
 ok:dS bt
 rows:e5 bt.g=(e5 T.g).filter λx=>x.1 !=id
 an:bt.an=T.an
 bY:bt.bY=T.bY
structure Rr(ai lC:H)(c5:N->ay bp)(b:N)(T:aQ)(g1:M (o×dq))(v:H):Prop where
 ex:∃aX b0,In ai v aX b {T with g:=b0}/\gA lC c5 v aX/\Alike g1 b0/\ql T.an T.bY b0
structure L0(ai lC:H)(c5:N->ay bp)(b:N)(T:aQ)(g1:M (o×dq))(id:o)(r:N)(k:N)(v:H):Prop where
 ex:∃dl aX b0,In ai v aX b {T with g:=b0}/\(∀c z,lC c=some z->c5 c=none->v c=some z)/\(∀c,aX c≠none->c5 c≠none∨lC c=none)/\aX r=none/\mY id g1 b0 (dl.map (·.1)) id 0/\
  na v r T.m (jt g1) dl/\(jt g1).length-dl.length<=k
def ayj(g:M (o×dq))(id:o):e5 (g.filter λx=>x.1 !=id)=(e5 g).filter λx=>x.1 !=id:=by unfold e5;rw[tw];rfl
def getD_some{l:M o}{i:N}(h:i<l.length):l[i]?=some (l.getD i 0):=by rw[du,cr h];rfl
def al3(h:fx u b l)(ar:l.length<=1000000)(au:∀s u',aJ u u' 3 1 s ((dQ (l.map (·.1))).flatMap encI)->K s u'):
  C.KK (some b) u λfv aU=>C.qa fv aU K:=by
 have bS:(l.map (·.1)).Nodup:=by obtain⟨_,_,_,he⟩:=h;exact he.nodup
 refine aG.KK (some b) u _ λn0 eX=>?_
 have hle:=H.b1 (u:=u) (b:=n0) (.cells #[.map (some b)] 182 (0,0)) eX
 exact spec.qa ar bS (λai rv=>avX we (h.mono (hle.trans rv)) (H.ba (rv _ _ (H.bh _ _ _)) 0)) λs u' aa=>au s u' (aa.weaken hle)
def Uw(g:M (o×dq)):(jt g).map (·.1)=g.map (·.1):=by unfold jt;rw[ep];rfl
def spec.xG{af:N->ay bp}{T:aQ}{id:o}{K:aK->o->H->Prop}(h:In ai u af b T)(aT:dS T)
  (dV:eL T.g id=none->∀u',u.le u'->K ax 0 u') (kz:∀n,eL T.g id=some n->∀u' aX bt,Am ai u af b T id u' aX bt->K ak 0 u'):C.xG (some ⟨b,0,none⟩) id u K:=by
 have bS:=h.aI.nodup
 apply aG.xG
 intro n0 eX
 refine⟨λe=>(by cases e),λ_=>?_⟩
 have n2:=H.b1 (u:=u) (b:=n0) (.cells #[.int .i64 id] 3 (0,0)) eX
 have h0:=h.mono n2
 have gd:(u.ins n0 (.cells #[.int .i64 id] 3 (0,0))) n0=some (.cells #[.int .i64 id] 3 (0,0)):=H.bh _ _ _
 have FU:af n0=none:=h.fresh eX
 obtain⟨aU,hr⟩:∃aU,u.ins n0 (.cells #[.int .i64 id] 3 (0,0))=aU:=⟨_,rfl⟩
 rw[hr] at h0 gd n2 ⊢
 obtain⟨_,_,_,fg,_⟩:=kP h0.aI
 refine⟨_,rfl,_,fg,_,H.ba gd 0,?_⟩
 refine tB we h0.aI.map (ct:=.ptr) ((eL T.g id).map λn=>(⟨n.p,0,none⟩:bc)) ?_ ?_
 rw[C9];cases eL T.g id<;>rfl
 have iE:(fR (jt T.g) id).isSome=(eL T.g id).isSome:=by rw[C9];cases eL T.g id<;>rfl
 rw[iE]
 refine⟨λZ=>dV (by simpa using Z) _ n2,λht=>?_⟩
 obtain⟨gone,JM⟩:=KY.1 ht
 have kz:=kz gone JM
 rw[JM]
 refine⟨_,rfl,_,fg,_,H.ba gd 0,Qv we h0.aI.map λz Gg=>?_⟩
 obtain⟨c5,eN,Yd,aio,Ni⟩:=h0.remove Gg JM
 obtain⟨_,_,_,eZ⟩:=h0.KL
 have r8:(aU.ins T.m z) n0=some (.cells #[.int .i64 id] 3 (0,0)):=by
  have:n0≠T.m:=λe=>by have:=h.aI.dn;rw[<-e,FU] at this;cases this
  rw[H.bq _ _ this];exact gd
 have SS:c5 n0=none:=Yd.none gd FU
 have aij:fx (aU.ins T.m z) T.m (jt (T.g.filter λx=>x.1 !=id)):=eN.aI.map
 obtain⟨lC,aaP⟩:∃lC,aU.ins T.m z=lC:=⟨_,rfl⟩
 obtain⟨g1,iv⟩:∃g1,(T.g.filter λx=>x.1 !=id)=g1:=⟨_,rfl⟩
 rw[aaP,iv] at eN
 rw[aaP] at Yd Ni r8 ⊢
 rw[aaP,iv] at aij
 have JZ:(g1.map (·.1)).Nodup:=eN.aI.nodup
 have TB:gA u af lC c5:=(gA.mono n2).trans Yd
 obtain⟨_,_,_,d3,_⟩:=kP eN.aI
 refine⟨_,rfl,_,d3,LB we aij λr or O xw=>?_⟩
 have eQ:c5 r=none:=eN.fresh O
 have ll:ai r=none:=eN.le.none O
 have aiT:r≠n0:=λe=>by rw[e,r8] at O;cases O
 have uq:∀lv:N,lv<31->∃s l,gone.kn[lv]?=some l/\∀v:H,(∀c z,lC c=some z->c5 c=none->v c=some z)->v.cell? (((cB gone.p 0 none).add 1).add (lv*1))=some (.slice s.a s.n s.c)/\Ints v s l:=by intro lv nU;obtain⟨s,l,h1,h2,h3,a7,bK⟩:=xW Ni nU;refine⟨s,l,h2,λv aA=>⟨?_,?_⟩⟩;have:=aA _ _ Ni.cell (aio _ (.inl Ni.tag));rw[KP];rw[KP,Hh Ni] at h3;simp only[H.cell?,this];simpa using h3;exact br.else a7.ints λg x W J=>aA g x J (aio g (.inr (.inr ⟨lv,bK g W⟩)))
 refine⟨λv=>∃k,L0 ai lC c5 b T g1 id r k v,λv=>least λk=>L0 ai lC c5 b T g1 id r k v,
  ⟨_,[],c5,g1,eN.aside eQ ll or,λc y I _=>H.b1 _ O c y I,λc I=>.inl I,eQ,mY.refl id g1 id,xw,cA _⟩,?_⟩
 intro v aA
 have cv:=G5 aA
 obtain⟨k,hk⟩:∃k,(least λk=>L0 ai lC c5 b T g1 id r k v)=k:=⟨_,rfl⟩
 dsimp only
 rw[hk] at cv ⊢
 obtain⟨dl,aX,b0,b6,o6,Zd,ahL,xn,iM,hlen⟩:=cv
 clear aA
 refine KN iM (λh5=>?_) λp hQ ad Bc pO=>?_
 have xk:∀a∈g1.map (·.1),a∈dl.map (·.1):=λa aE=>by rw[<-Uw] at aE;exact((h5.map (·.1)).mem_iff (a:=a)).2 aE
 have o1:ql T.an T.bY b0:=by rw[<-iv] at xn xk;exact xn.ok aT.k bS xk
 have r1:Rr ai lC c5 b T g1 v:=⟨aX,b0,b6,⟨o6,Zd⟩,xn.bT,o1⟩
 have ahR:id∈T.g.map (·.1):=bf.2 ⟨_,iq JM,rfl⟩
 have kt:∀a,a∈g1.map (·.1)↔a∈T.g.map (·.1)/\a≠id:=λa=>by rw[<-iv];exact XH
 clear xn iM b6 o6 Zd hlen xk o1
 refine⟨λlv w=>0<=lv/\lv<=31/\Rr ai lC c5 b T g1 w,λlv _=>(31-lv).toNat,⟨by omega,by omega,r1⟩,?_⟩
 rintro lv w ⟨Pq,aka,iL⟩
 refine⟨λbD=>?_,λgG=>?_⟩
 obtain⟨s,l,jU,aiR⟩:=uq lv.toNat (by omega)
 obtain⟨m1,m2,m3⟩:=aT.k.many id gone lv.toNat l JM jU
 have aic:∀y∈l,y∈g1.map (·.1):=λy ah=>(kt y).2 ⟨aT.k.ok.known _ (iq JM) l (dK jU) y ah,λe=>m3 (e▸ah)⟩
 have o8:∀{eA:H},Rr ai lC c5 b T g1 eA->∀c z,lC c=some z->c5 c=none->eA c=some z:=λ⟨_,_,_,ht,_⟩=>ht.bN
 obtain⟨dD,hints⟩:=aiR w (o8 iL)
 have dw:=hints.len
 have fB:=hints.max
 refine⟨_,rfl,by decide,⟨by omega,by omega⟩,s,dD,?_⟩
 refine⟨λi eA=>1<=i/\Rr ai lC c5 b T g1 eA,λi _=>l.length-i.toNat,⟨by omega,iL⟩,?_⟩
 rintro i eA ⟨i1,vC⟩
 obtain⟨_,ah0⟩:=aiR eA (o8 vC)
 have Tf:=o8 vC n0 _ r8 SS
 refine⟨λeO=>?_,λaBp=>⟨⟨by omega,by omega⟩,⟨by omega,by omega,vC⟩,by dsimp only;omega⟩⟩
 intro anu agQ
 obtain⟨q,aN,ho⟩:=ah0.at (x:=i-1) (by omega) (by omega)
 obtain⟨BR,Kc,mG⟩:=ah0.at (x:=i) (by omega) (by omega)
 have auw:BR=q:=by rw[aN] at Kc;exact(cU Kc).symm
 subst auw
 have ajr:l[(i-1).toNat]?=some (l.getD (i-1).toNat 0):=getD_some (by omega)
 have Kn:l[i.toNat]?=some (l.getD i.toNat 0):=getD_some (by omega)
 have al:l.getD i.toNat 0≠l.getD (i-1).toNat 0:=λe=>by
  have h1:(i-1).toNat<l.length:=by omega
  have h2:i.toNat<l.length:=by omega
  have:=qN.1 m2 (i-1).toNat i.toNat h1 h2 (by omega);rw[du,du,cr h1,cr h2] at e;exact this (by simpa using e.symm)
 have skip:anu ax eA:=agQ _ _ ⟨λe=>(by cases e),λ_=>⟨⟨by omega,by omega⟩,⟨by omega,vC⟩,by dsimp only;omega⟩⟩
 refine⟨⟨by omega,by omega⟩,_,aN,⟨by omega,by omega⟩,_,ho,_,H.ba Tf 0,λGk=>⟨_,aN,⟨by omega,by omega⟩,_,mG,_,H.ba Tf 0,λrl=>?_,λ_=>⟨H.le.refl _,H.le.refl _,skip⟩⟩,λ_=>⟨H.le.refl _,H.le.refl _,skip⟩⟩
 obtain⟨ib,g2,lJ,pd,vE,j6⟩:=vC
 have aBs:=lJ
 obtain⟨_,_,_,cW,_⟩:=kP lJ.aI
 have nW:(g2.map (·.1)).Nodup:=lJ.aI.nodup
 have aE:l.getD (i-1).toNat 0∈g2.map (·.1):=by rw[vE.ids];exact aic _ (dK ajr)
 have ab:l.getD i.toNat 0∈g2.map (·.1):=by rw[vE.ids];exact aic _ (dK Kn)
 refine⟨_,rfl,⟨by omega,by omega⟩,_,aN,⟨by omega,by omega⟩,_,aN,⟨by omega,by omega⟩,_,cW,_,ho,_,mG,vb lJ.aI aE λff uz Yl=>⟨H.le.refl _,_,rfl,by decide,⟨by omega,by omega⟩,?_⟩⟩
 obtain⟨Lz,Pk,re,Nn,arZ,ar0,_⟩:=xW Yl (lv:=lv.toNat) (by omega)
 refine⟨Lz,arZ,H.le.refl _,spec.Ib ar0.ints (agQ _ _ ⟨λrm=>?_,λ_=>⟨⟨by omega,by omega⟩,⟨by omega,ib,g2,lJ,pd,vE,j6⟩,by dsimp only;omega⟩⟩)⟩
 have Bb:l.getD i.toNat 0∉Pk:=λhm=>by rw[mm hm] at rm;cases rm
 refine⟨⟨by omega,by omega⟩,_,aN,⟨by omega,by omega⟩,_,aN,⟨by omega,by omega⟩,_,ho,_,mG,?_⟩
 have ZA:Pk.length<=1000000:=by have h1:=(j6.many _ _ _ _ uz Nn).1;have:=(ab5 (lv:=((lv.toNat:N):o)) aT.bY).2;omega
 refine spec.Be lJ j6.ok aT.bY uz ab Pq (by omega) Nn ZA λhL oZ k8 uN vJ nt jn=>⟨⟨by omega,by omega⟩,⟨by omega,oZ,_,vJ,pd.trans nt,vE.trans (Alike.jN uz _ _ _),?_⟩,by dsimp only;omega⟩
 exact j6.ajT nW uz Pq k8 Nn jn ab al Bb
 obtain⟨ib,g2,lJ,pd,vE,j6⟩:=iL
 have Tf:=pd.bN n0 _ r8 SS
 obtain⟨_,_,_,cW,fN⟩:=kP lJ.aI
 have nW:(g2.map (·.1)).Nodup:=lJ.aI.nodup
 have fin:∀w' oZ e,In ai w' oZ b {T with g:=g2,entry:=e}->gA lC c5 w' oZ->((g2=[]/\e=0)∨e∈g2.map (·.1))->K ak 0 w':=λw' oZ e h1 h2 h3=>
  kz w' oZ {T with g:=g2,entry:=e} ⟨h1,TB.trans h2,⟨j6,aT.bY,h3⟩,by show e5 g2=_;rw[vE.rows JZ,<-iv,ayj],rfl,rfl⟩
 refine⟨_,rfl,_,fN,_,H.ba Tf 0,λuk=>⟨_,rfl,?_⟩,λuk=>?_⟩
 refine VI lJ.aI (e:=0) ?_
 obtain⟨vJ,nt⟩:=lJ.QA 0
 obtain⟨hL,avi⟩:∃hL,w.ins b (.cells (fj {{T with g:=g2} with entry:=0}).toArray 184 (0,0))=hL:=⟨_,rfl⟩
 rw[avi] at vJ nt ⊢
 obtain⟨_,_,_,f3,_⟩:=kP vJ.aI
 have Gb:(jt g2).length<=1000000:=by have:=j6.ok.small;unfold jt;simp;omega
 refine⟨_,rfl,_,f3,al3 vJ.aI.map Gb λVo az8 J7=>?_⟩
 rw[Uw] at J7
 change aJ _ _ _ 1 Vo ((dQ (g2.map (·.1))).flatMap encI) at J7
 have atb:=vJ.mono J7.le
 have sc:Vo.aj≠some b:=λe=>by have:=J7.fresh b e;exact vJ.known b (by rw[vJ.aI.dN];simp) this
 have cX:=J7.ints
 have arm:=cX.len
 have aBd:=cX.max
 have Yh:∀y,y∈dQ (g2.map (·.1))↔y∈g2.map (·.1):=λy=>(nE _).mem_iff
 refine⟨λk l6=>0<=k/\k<=(dQ (g2.map (·.1))).length/\(∀c z,az8 c=some z->c≠b->l6 c=some z)/\∃e,In ai l6 ib b {T with g:=g2,entry:=e}/\gA lC c5 l6 ib/\(k=0->e=0)/\(0<k->e∈g2.map (·.1)),
  λk _=>(dQ (g2.map (·.1))).length-k.toNat,⟨by omega,by omega,λc z I _=>I,0,atb,(pd.trans nt).trans (gA.mono J7.le),λ_=>rfl,λh=>by omega⟩,?_⟩
 rintro k l6 ⟨jG,b3,ja,e,vK,aaD,aC,ad⟩
 refine⟨λjn=>?_,λS8=>fin l6 ib e vK aaD ?_⟩
 have ark:Ints l6 Vo (dQ (g2.map (·.1))):=br.else cX λg z W aa=>ja g z aa λe=>sc (e▸W)
 obtain⟨q,aN,YW⟩:=ark.at jG jn
 have Ko:(dQ (g2.map (·.1)))[k.toNat]?=some ((dQ (g2.map (·.1))).getD k.toNat 0):=by
  have:k.toNat<(dQ (g2.map (·.1))).length:=by omega
  simp only[du,cr this,K1]
 have vY:=(Yh _).1 (dK Ko)
 refine⟨q,aN,⟨jG,jn⟩,_,YW,λWC agR=>?_⟩
 obtain⟨_,_,_,af0,af1⟩:=kP vK.aI
 have yes:WC ak l6:=agR _ _ ⟨λ_=>⟨_,rfl,VI vK.aI ⟨⟨by omega,by omega⟩,⟨by omega,by omega,λc z I kp=>?_,_,(vK.QA _).1,aaD.trans (vK.QA _).2,λh=>by omega,λ_=>vY⟩,by dsimp only;omega⟩⟩,λe=>(by cases e)⟩
 have no:0<k->WC ax l6:=λxx=>agR _ _ ⟨λe=>(by cases e),λ_=>⟨⟨by omega,by omega⟩,⟨by omega,by omega,ja,e,vK,aaD,λh=>by omega,λ_=>ad xx⟩,by dsimp only;omega⟩⟩
 have any:∀dM:aK,0<k->WC dM l6:=λdM xx=>by cases dM;exact no xx;exact yes
 refine⟨_,rfl,_,af1,λsZ=>?_,λsZ=>?_⟩
 have r:=H.le.refl l6
 simp only[r,yes,and_self]
 have xx:0<k:=by rcases Int.lt_or_eq_of_le jG with h1|h1;exact h1;exact aW (aC h1.symm) sZ
 have Y6:=ad xx
 have r:=H.le.refl l6
 have top:∀{i:o} {n:dq},nb ib l6 i n->l6.cell? ((cB n.p 0 none).add 32)=some (.int .i64 n.top):=λeF=>by rw[jh,k5,Hh eF];exact Um eF.uL
 refine⟨_,rfl,_,rfl,_,rfl,_,af0,_,af0,_,af1,?_,?_⟩
 refine vb vK.aI vY λb4 _ Dc=>⟨r,_,rfl,⟨_,top Dc,r,?_⟩,?_⟩
 exact vb vK.aI Y6 λeb _ pI=>⟨r,_,rfl,_,top pI,r,any _ xx⟩
 exact vb vK.aI Y6 λeb _ pI=>⟨r,_,rfl,⟨_,top Dc,r,_,top pI,r,any _ xx⟩,⟨_,top pI,r,_,top Dc,r,any _ xx⟩⟩
 refine vb vK.aI Y6 λeb _ pI=>⟨r,_,rfl,?_,⟨_,top pI,r,?_⟩⟩
 exact vb vK.aI vY λb4 _ Dc=>⟨r,_,rfl,⟨_,top Dc,r,_,top pI,r,any _ xx⟩,⟨_,top pI,r,_,top Dc,r,any _ xx⟩⟩
 exact vb vK.aI vY λb4 _ Dc=>⟨r,_,rfl,_,top Dc,r,any _ xx⟩
 rw[H.bq _ _ kp];exact ja c z I kp
 have jn:k.toNat=(dQ (g2.map (·.1))).length:=by have:¬k<(Vo.n:o):=S8;omega
 rcases UX k.toNat with h0|h0
 left
 have:g2.map (·.1)=[]:=by
  have h2:(dQ (g2.map (·.1))).length=0:=by omega
  rw[Ab] at h2;exact kN h2
 exact⟨by simpa using this,aC (by omega)⟩
 exact .inr (ad (by omega))
 refine fin w ib T.entry lJ pd (.inr ?_)
 rw[vE.ids,kt]
 rcases aT.entry with⟨h1,_⟩|h1
 rw[h1] at ahR;simp at ahR
 exact⟨h1,uk⟩
 refine I9 pO ?_
 obtain⟨x,J,rfl⟩:=bf.1 ad
 have gp:eL g1 x.1=some x.2:=AP JZ J
 have ahK:∀ib:N->ay bp,(∀c,ib c≠none->c5 c≠none∨lC c=none)->∀c z,lC c=some z->c5 c=none->ib c=none:=λib h2 c z h3 a7=>by
  cases e:ib c with
  |none=>rfl|some t=>rcases h2 c (by rw[e];simp) with bK|bK;exact aW a7 bK;rw[h3] at bK;cases bK
 have auD:∀c z,lC c=some z->c≠r:=λc z I e=>by rw[e,O] at I;cases I
 show ∃aAP:o->H->Prop,∃aAQ:o->H->N,_
 refine⟨λlv w=>0<=lv/\lv<=31/\∃ib g2,In ai w ib b {T with g:=g2}/\(∀c z,lC c=some z->c5 c=none->w c=some z)/\(∀c,ib c≠none->c5 c≠none∨lC c=none)/\ib r=none/\mY id g1 g2 (dl.map (·.1)) x.1 lv.toNat/\
   na w r T.m (jt g1) (dl++ [(x.1,.pointer (some ⟨x.2.p,0,none⟩))]),λlv _=>(31-lv).toNat,
  ⟨by omega,by omega,aX,b0,b6.aside ahL ll hQ,λc y I Z=>by rw[H.bq _ _ (auD c y I)];exact o6 c y I Z,Zd,ahL,xn.eP x.1,pO⟩,?_⟩
 rintro lv w ⟨Pq,aka,ib,g2,lJ,JQ,S1,Y9,SJ,F5⟩
 obtain⟨eb,ft,eY,_,_⟩:=SJ.bT.at' _ _ gp
 refine⟨λbD=>?_,λgG=>?_⟩
 have pI:=lJ.aI.node ft
 obtain⟨s,l,dO,dB,I,aa,xN⟩:=xW pI (lv:=lv.toNat) (by omega)
 rw[eY] at I
 have oD:=JQ n0 _ r8 SS
 have asG:=ahK ib S1 n0 _ r8 SS
 refine⟨_,rfl,by decide,⟨by omega,by omega⟩,_,rfl,s,I,?_⟩
 refine spec.Ic aa (apq (n0:=n0) (id:=id) (T:=3)) (λc y I=>?_) (λc I=>?_) λaq eA bP hblk he=>?_
 unfold H.ins at I
 split at I
 rename_i e;rw[e];cases I;exact oD
 cases I
 exact H.bq _ _ (λe=>by have:=xN c I;rw[e,asG] at this;cases this)
 refine⟨by decide,⟨by omega,by omega⟩,?_⟩
 unfold a8
 rw[KP,<-eY]
 have uE:s.aj≠some eb.p:=λe=>by have:=xN _ e;rw[pI.tag] at this;cases this
 refine adJ (he _ _ pI.cell uE) pI.uL (by omega) (Fc id l) ?_
 obtain⟨oZ,Yj,aD⟩:=pI.level lJ.known dO bP he λc e=>.inl (by rw[<-hblk];exact e)
 have vJ:=lJ.shift (n':=eb.jN lv.toNat aq (Fc id l)) ft rfl Yj aD
 have nX:∀c,ib c=none->¬nJ ib x.1 c:=λc I hm=>hm.some I
 obtain⟨_,_,_,Pw⟩:=lJ.KL
 refine⟨⟨by omega,by omega⟩,⟨by omega,by omega,oZ,_,vJ,λc y I Z=>aD.bN c y (JQ c y I Z) (nX c (ahK ib S1 c y I Z)),λc I=>?_,?_,?_,?_⟩,by dsimp only;omega⟩
 rcases aD.grow c I with h1|h1
 exact S1 c h1
 cases aS:c5 c with
 |some t=>exact .inl (by simp)
 |none=>
  cases aB:lC c with
  |none=>exact .inr rfl|some y=>rw[JQ c y aB aS] at h1;cases h1
 cases e:oZ r with
 |none=>rfl
 |some t=>rcases aD.grow r (by rw[e];simp) with h1|h1;exact aW Y9 h1;obtain⟨_,_,_,_,_,h2,_⟩:=F5;rw[h2] at h1;cases h1
 have:=SJ.step Bc ft dB aq
 rw[show(lv+1).toNat=lv.toNat+1 by omega]
 exact this
 have ah1:=F5
 rw[<-eY] at ah1
 exact ah1.else (λy ah=>aD.bN _ _ ah λhm=>(Pw _ _ hm).2.1 rfl) λy ah=>aD.bN _ _ ah (nX r Y9)
 have nU:lv.toNat=31:=by omega
 rw[nU] at SJ
 have asi:=SJ.next (λn' hW=>(lJ.aI.node hW).GY) id
 have aib:=abi F5
 simp only[ez,rO] at aib
 have uo:L0 ai lC c5 b T g1 id r (k-1) w:=⟨_,ib,g2,lJ,JQ,S1,Y9,by simpa using asi,F5,by simp only[ez,rO];omega⟩
 refine⟨⟨_,uo⟩,?_⟩
 have:=least_le (P:=λk=>L0 ai lC c5 b T g1 id r k w) uo
 omega
open Go.Shelf
def jB(u:H):Prop:=∀w,Sub u w->Go.Proofs.TabAt 0 Lib.deBruijn64tab w
def jB.mono(h:jB u)(hu:u.le u'):jB u':=λw hw=>h w (hw.mono hu)
def apm(x:N)(J:x<18446744073709551616):Lib.ctz 64 x<=64:=by unfold Lib.ctz;split;exact cA _;rename_i h;obtain⟨_,_,h2⟩:=Lib.ctzFrom_spec 64 x (Nat.pos_of_ne_zero h) (by simpa using J);omega
def aos(op:BinOp)(x y:o):dh (bits op .u64 x y):=by have:=wf_bits op .u64 x y;simp[Lit.wf,HS,HT,Hu,Hv] at this;unfold dh;omega
def wrap_u64(x:o):dh (bR.wrap x):=by have:=wf_wrap .u64 x;simp[Lit.wf,HS,HT,Hu,Hv] at this;unfold dh;omega
def spec.bits_TrailingZeros64{x:o}{K:o->H->Prop}(J:dh x)(aT:jB u)(au:∀n:o,0<=n->n<=64->K n u):C.bits_TrailingZeros64 x u K:=by
 intro w hw;obtain⟨n,rfl⟩:=Int.eq_ofNat_of_zero_le J.1;have ae:n<18446744073709551616:=by have:=J.2;omega
 have I:=Any7.bits_TrailingZeros64 Tryz.az0 n ae w λ_=>aT w hw;change Calls aH 169 _ _ _ at I;refine I.mono ?_;rintro e w' ⟨rfl,rfl⟩;have:=apm n ae;exact⟨_,u,rfl,⟨[.int .i64 (Lib.ctz 64 n:N)],.cons (t:=.int .i64) _ .nil,rfl,au _ (by omega) (by omega)⟩,Step.refl hw⟩
def spec.yj{src:N}{st:o}{K:o->H->Prop}(h:u src=some (.cells #[.int .u64 st] 215 (0,0)))
  (au:∀oe Y,dh oe->dh Y->K Y (u.ins src (.cells #[.int .u64 oe] 215 (0,0)))):C.yj (some ⟨src,0,none⟩) u K:=by
 apply aG.yj
 refine⟨λh=>(by cases h),λ_=>⟨_,rfl,st,H.ba h 0,_,rfl,Il h (by simp[cT]) ⟨_,rfl,_,H.ba (H.bh _ _ _) 0,by omega,by omega,by omega,?_⟩⟩⟩
 exact au _ _ (wrap_u64 _) (aos _ _ _)
def spec.HV{src:N}{st:o}{ub:H}{K:o->o->H->Prop}(h:u src=some (.cells #[.int .u64 st] 215 (0,0)))(aT:jB ub)(b9:ub.le u)(ag:ub src=none)
  (au:∀oe lv,dh oe->0<=lv->lv<=30->K lv 0 (u.ins src (.cells #[.int .u64 oe] 215 (0,0)))):C.HV (some ⟨src,0,none⟩) 30 u K:=by
 apply aG.HV
 apply aG.Eg
 refine⟨λh=>(by cases h),λ_=>⟨λh=>by omega,λ_=>⟨λh=>by omega,λ_=>⟨λh=>aW rfl h,λ_=>?_⟩⟩⟩⟩
 refine spec.yj h λoe Y h1 h2=>?_
 have hle:ub.le (u.ins src (.cells #[.int .u64 oe] 215 (0,0))):=λc z I=>by rw[H.bq _ _ (λe=>by rw[e,ag] at I;cases I)];exact b9 c z I
 refine spec.bits_TrailingZeros64 h2 (aT.mono hle) λn n0 b4=>⟨by omega,?_,?_⟩
 have:gR n 2=n/2:=Lf n0
 rw[this];exact⟨by omega,by omega⟩
 have:gR n 2=n/2:=Lf n0
 rw[this]
 refine au _ _ h1 ?_ ?_<;>split<;>omega
end
section
variable{b:N}{u:H}{sv:U}{v:M o}
def XZ{g:M (o×dq)}{id:o}{nd:dq}(ch:id∉g.map (·.1))(i:o):eL (g++ [(id,nd)]) i=if i=id then some nd else eL g i:=by
 unfold eL;rw[List.find?_append];by_cases hi:i=id;subst hi;have:g.find? (λx=>x.1==i)=none:=by have:=AQ.2 ch;unfold eL at this;simpa using this
 rw[this,a1 rfl];simp;rw[aF hi];have:[(id,nd)].find? (λx=>x.1==i)=none:=by simp[dz hi]
 rw[this,Option.or_none]
def axC(g:M (o×dq))(id:o)(nd:dq):jt (g++ [(id,nd)])=jt g++ [(id,.pointer (some ⟨nd.p,0,none⟩))]:=by simp[jt]
structure CF(bY:o)(ids l:M o):Prop where
 sub:∀x∈l,x∈ids
 nodup:l.Nodup
 len:(l.length:o)<=bY
def CF.nil{bY:o}(h:1<=bY)(ids:M o):CF bY ids []:=⟨λx J=>(by cases J),Ls,by simp only[mi];omega⟩
def ql.add{an bY:o}{g:M (o×dq)}(h:ql an bY g)(ar:1<=bY/\bY<=16){id:o}{nd:dq}(ch:id∉g.map (·.1))(hi:1<=id/\id<=1000000000)(aA:(nd.v.length:o)=an/\dj nd.v)(ht:nd.top<=30)(fB:g.length<=512)
  (hk:∀(j:N) l,nd.kn[j]?=some l->CF bY (g.map (·.1)) l):ql an bY (g++ [(id,nd)]):=by
 have kt:(g++ [(id,nd)]).map (·.1)=g.map (·.1)++ [id]:=by simp
 refine⟨⟨h.ok.hl,λx J=>?_,λx J=>?_,λx J l xy i qw=>?_,λx J=>?_,by simp;omega⟩,λi n lv l ae xy=>?_⟩
 rcases cN.1 J with J|J
 exact h.ok.vec x J
 simp at J;subst J;exact aA
 rcases cN.1 J with J|J
 exact h.ok.top x J
 simp at J;subst J;exact ht
 rw[kt]
 rcases cN.1 J with J|J
 exact iQ _ (h.ok.known x J l xy i qw)
 simp at J;subst J
 obtain⟨k,dA⟩:=U7.1 xy
 exact iQ _ ((hk k l dA).sub i qw)
 rcases cN.1 J with J|J
 exact h.ok.ids x J
 simp at J;subst J;exact hi
 rw[XZ ch] at ae
 by_cases e:i=id
 rw[a1 e] at ae;cases ae
 subst e
 have:=hk lv l xy
 refine⟨?_,this.nodup,λhm=>ch (this.sub i hm)⟩
 have:=this.len
 unfold wc;split<;>omega
 rw[aF e] at ae
 exact h.many i n lv l ae xy
def uP(p:N)(sv:U)(v:M o)(top:N):dq:=⟨p,sv,v,fX 31 ⟨none,0,0⟩,fX 31 [],top⟩
def In.aw1{ai:H}{af:N->ay bp}{T:aQ}(h:In ai u af b T){id:o}(ch:id∉T.g.map (·.1)){p:N}(ad:u p=none)(aA:Ints u sv v)(OZ:∀g,sv.aj=some g->af g=some (.vec id))(top:N):
  ∃aX,In ai (u.ins p (.cells (jJ (uP p sv v top)).toArray 230 (0,0))) aX b T/\nb aX (u.ins p (.cells (jJ (uP p sv v top)).toArray 230 (0,0))) id (uP p sv v top)/\
   gA u af (u.ins p (.cells (jJ (uP p sv v top)).toArray 230 (0,0))) aX:=by
 have hV:af p=none:=h.fresh ad
 let aX:N->ay bp:=λc=>if c=p then some (.node id) else af c
 have aS:aX p=some (.node id):=a1 rfl
 have aB:∀c,c≠p->aX c=af c:=λc I=>aF I
 have cW:∀c,af c≠none->aX c=af c:=λc I=>aB c λe=>I (by rw[e];exact hV)
 have hle:=H.b1 (u:=u) (b:=p) (.cells (jJ (uP p sv v top)).toArray 230 (0,0)) ad
 refine⟨aX,⟨h.aI.bN cW λc z I _=>hle c z I,h.le.trans hle,λc I=>?_,λc I=>?_⟩,?_,⟨λc z I _=>hle c z I,λc I=>?_⟩⟩
 by_cases e:c=p
 rw[e];exact h.le.none ad
 rw[aB c e] at I;exact h.out c I
 by_cases e:c=p
 rw[e,H.bh];simp
 rw[aB c e] at I;rw[H.bq _ _ e];exact h.known c I
 refine⟨H.bh _ _ _,aS,aA.mono hle,λg W=>?_,by simp[uP],by simp[uP],λlv s l h1 h2=>?_⟩
 have:=OZ g W
 rw[cW g (by rw[this];simp)];exact this
 simp only[uP,Lk] at h1 h2
 split at h1
 cases h1
 rw[a1 (by assumption)] at h2
 cases h2
 exact⟨(Own.nil _ _ _).f,λg W=>by simp[U.aj] at W⟩
 cases h1
 by_cases e:c=p
 rw[e];exact .inr ad
 rw[aB c e] at I;exact .inl I
def akj{p:N}{top j:N}{l:M o}(h:(uP p sv v top).kn[j]?=some l):l=[]:=by simp only[uP,Lk] at h;split at h;exact(cU h).symm;cases h
def _root_.Go.Proofs.YtejdhbfjjgcljaaGreatDoor.iJ.Ve{B v:H}{cm n:N}{k:o}{z:Obj}{S:M bO}(h:iJ (B.ins cm z) n k v S)(b5:Obj):iJ (B.ins cm b5) n k (v.ins cm b5) S:=by
 obtain⟨l,⟨⟨s,h1,h2,h3⟩,a7,bK⟩,fs,mF⟩:=h;have Gj:n≠cm:=λe=>by rw[e,H.bh] at a7;cases a7
 have aiW:s.aj≠some cm:=λe=>by have:=h2.fresh cm e;rw[H.bh] at this;cases this
 refine⟨l,⟨⟨s,by rw[H.bq _ _ Gj];exact h1,⟨h2.own.le λc y I ah=>?_,λc y I=>?_,λg W=>?_⟩,h3⟩,by rw[H.bq _ _ Gj] at a7 ⊢;exact a7,bK⟩,fs,mF⟩;rw[H.bq _ _ (λe=>aiW (by rw[I,e]))];exact ah;unfold H.ins at I ⊢;split;rename_i e;rw[a1 e] at I;exact I;rename_i e;rw[aF e] at I;have:=h2.le c y (by rw[H.bq _ _ e];exact I);exact this;have:=h2.fresh g W;have SY:g≠cm:=λe=>aiW (by rw[W,e]);rw[H.bq _ _ SY] at this ⊢;exact this
def aof:hn aH 141=ak:=by kernel_rfl
def L7(B:H)(n31 n33 n:N)(bY:o)(g:M (o×dq))(q:M o)(bd:M o)(i:N)(v:H):Prop:=
 iJ ((B.ins n31 (.cells #[.pointer (some ⟨n,0,none⟩)] 90 (0,0))).ins n33 (.cells #[.int .i64 i] 3 (0,0))) n bY v ((bd.take i).map (cS g q))
def av5{B:H}{af:N->ay bp}{n0 n31 n33 n:N}{T:aQ}{q bd:M o}(h:ed af B b T)(ar:1<=T.bY/\T.bY<=16)(Jn:B n0=some (.cells #[.pointer (some ⟨b,0,none⟩)] 122 (0,0)))(X2:B n31=none)(FA:B n33=none)(al:n31≠n33)
  (gl:bd.length<=1000000) {i:N} {x:o} {v:H} {K:aK->H->Prop} (J:bd[i]?=some x) (aP:L7 B n31 n33 n T.bY T.g q bd i v)
  (au:∀dM b8,L7 B n31 n33 n T.bY T.g q bd (i+1) b8->K dM b8):
  tL aH (.func (.func 141) #[] #[.pointer (some ⟨n31,0,none⟩),.pointer (some ⟨n33,0,none⟩),.pointer (some ⟨n0,0,none⟩)]) #[NL (cS T.g q x)] [.one .bool] v K:=by
 have eO:i<bd.length:=(jM.1 J).1
 refine .inl ⟨_,_,_,rfl,hh aof,?_⟩
 refine aG.ZT (cS T.g q x).1 (dk (cS T.g q x).2) (dr (cS T.g q x).2) ⟨n31,0,none⟩ ⟨n33,0,none⟩ ⟨n0,0,none⟩ v K ?_
 have y2:∀(Y:o) {w:H} {S:M bO},iJ ((B.ins n31 (.cells #[.pointer (some ⟨n,0,none⟩)] 90 (0,0))).ins n33 (.cells #[.int .i64 Y] 3 (0,0))) n T.bY w S->
   B.le w/\w n31=some (.cells #[.pointer (some ⟨n,0,none⟩)] 90 (0,0))/\w n33=some (.cells #[.int .i64 Y] 3 (0,0)):=λY w S ht=>by
  have hle:=ht.le
  refine⟨λc y I=>hle c y ?_,hle _ _ ?_,hle _ _ (H.bh _ _ _)⟩
  rw[H.bq _ _ (λe=>by rw[e,FA] at I;cases I),H.bq _ _ (λe=>by rw[e,X2] at I;cases I)];exact I
  rw[H.bq _ _ al,H.bh]
 obtain⟨_,aoR,_⟩:=y2 _ aP
 refine⟨_,H.ba aoR 0,spec.qW aP ar.1 (by omega) λdM w hw=>?_⟩
 obtain⟨_,_,afl⟩:=y2 _ hw
 refine⟨_,H.ba afl 0,⟨by omega,by omega⟩,Il afl (by simp[cT]) ?_⟩
 have O:=hw.Ve (.cells #[.int .i64 ((i:o)+1)] 3 (0,0))
 obtain⟨agD,_,aoS⟩:=y2 _ O
 have aT:=h.mono agD
 obtain⟨_,t1,_⟩:=kP aT
 refine⟨_,H.ba aoS 0,_,H.ba (agD _ _ Jn) 0,_,rfl,_,t1,⟨by omega,by omega⟩,au _ _ ?_⟩
 unfold L7
 have e:(bd.take (i+1)).map (cS T.g q)=(bd.take i).map (cS T.g q)++ [cS T.g q x]:=by rw[gS,J];simp
 rw[e]
 have aB:((i+1:N):o)=(i:o)+1:=by omega
 rw[aB]
 exact O.perm (mR _ _).symm
def spec.aqz{af:N->ay bp}{ub:H}{T:aQ}{q:M o}{t:U}{at' lv:o}{Qu:ap}{K:H->Prop}(b9:ub.le u)(h:ed af ub b T)(W:qk T.an T.g)(ch:at'∈T.g.map (·.1))(ht:sD ub T.an t q)
  (jf:0<=lv) (e3:lv<31) (cV:N->H->Prop) (kW:∀i v,cV i v->ub.le v)
  (aar:∀i x v (K:aK->H->Prop),(lE T.g q lv.toNat at')[i]?=some x->cV i v->(∀dM b8,cV (i+1) b8->K dM b8)->tL aH Qu #[NL (cS T.g q x)] [.one .bool] v K)
  (h0:cV 0 u) (au:∀i v,i<=(lE T.g q lv.toNat at').length->cV i v->K v):C.zf (some ⟨b,0,none⟩) at' t lv Qu u K:=
 spec.zf b9 h W ch ht jf e3 cV (λv=>∃i,i<=(lE T.g q lv.toNat at').length/\cV i v) kW
  (λi x v fZ J aP h1 h2=>aar i x v fZ J aP λdM b8 lX=>by cases dM;exact h2 b8 ⟨i+1,(jM.1 J).1,lX⟩;exact h1 b8 lX)
  h0 (λv aA=>au _ v (cA _) aA) λv ⟨i,hi,aA⟩=>au i v hi aA
structure anG(ai iU:H)(Jf:N->ay bp)(b:N)(T:aQ)(id:o)(p:N)(sv:U)(v:M o)(top:N)(lv:o)(w:H)(aX:N->ay bp)(nd:dq):Prop where
 is:In ai w aX b T
 node:nb aX w id nd
 eP:gA iU Jf w aX
 Fq:nd.p=p
 es:nd.sv=sv
 R2:nd.v=v
 Jb:nd.top=top
 nR:∀(j:N) l,nd.kn[j]?=some l->CF T.bY (T.g.map (·.1)) l/\((j:o)<=lv->l=[])
structure WG(ai az9:H)(aqy:N->ay bp)(b:N)(T:aQ)(g2:M (o×dq))(id:o)(nd:dq)(P:N->o->Prop)(w:H):Prop where
 ex:∃aX b0,In ai w aX b {T with g:=b0}/\gA az9 aqy w aX/\Alike g2 b0/\ql T.an T.bY b0/\eL b0 id=some nd/\
  ∀a n (j:N) l,a≠id->eL b0 a=some n->n.kn[j]?=some l->P j a->id∉l
def spec.vP{ai:H}{af:N->ay bp}{T:aQ}{id:o}{K:H->Prop}(h:In ai u af b T)(aT:dS T)(e2:jB ai)(ch:id∉T.g.map (·.1))(as2:1<=id/\id<=1000000000)
  (aA:Ints u sv v) (OZ:∀g,sv.aj=some g->af g=some (.vec id)) (xR:(v.length:o)=T.an/\dj v) (fB:T.g.length<=512)
  (au:∀u' aX bt,In ai u' aX b bt->gA u af u' aX->dS bt->e5 bt.g=e5 T.g++ [(id,v)]->bt.an=T.an->bt.bY=T.bY->K u'):C.vP (some ⟨b,0,none⟩) id sv u K:=by
 have bS:=h.aI.nodup
 apply aG.vP
 intro n0 eX
 have n2:=H.b1 (u:=u) (b:=n0) (.cells #[.pointer (some ⟨b,0,none⟩)] 122 (0,0)) eX
 have FU:af n0=none:=h.fresh eX
 have h1:=h.mono n2
 have gd:(u.ins n0 (.cells #[.pointer (some ⟨b,0,none⟩)] 122 (0,0))) n0=some (.cells #[.pointer (some ⟨b,0,none⟩)] 122 (0,0)):=H.bh _ _ _
 obtain⟨aU,hr⟩:∃aU,u.ins n0 (.cells #[.pointer (some ⟨b,0,none⟩)] 122 (0,0))=aU:=⟨_,rfl⟩
 rw[hr] at n2 h1 gd ⊢
 obtain⟨_,_,c2,_,_⟩:=kP h1.aI
 refine⟨_,H.ba gd 0,_,rfl,_,c2,spec.HV h1.aI.src e2 h1.le (h1.out _ (by rw[h1.aI.h9];simp)) λoe Pq dW jf e3=>?_⟩
 obtain⟨top,rfl⟩:=Int.eq_ofNat_of_zero_le jf
 obtain⟨fs,Tz⟩:=h1.ayP dW
 have Rz:=Tz.bN _ _ gd FU
 have aaS:Ints (aU.ins T.src (.cells #[.int .u64 oe] 215 (0,0))) sv v:=br.else (aA.mono n2) λg z W aa=>by rw[H.bq _ _ (λe=>by have:=OZ g W;rw[e,h1.aI.h9] at this;cases this)];exact aa
 obtain⟨tH,Kj⟩:∃tH,aU.ins T.src (.cells #[.int .u64 oe] 215 (0,0))=tH:=⟨_,rfl⟩
 rw[Kj] at fs Tz Rz aaS ⊢
 intro n7 aiw
 generalize Oj:bC _ 230 (0,0)=wj
 have aub:wj=.cells (jJ (uP n7 sv v top)).toArray 230 (0,0):=by rw[<-Oj];rfl
 subst aub
 clear Oj
 have Sj:In ai tH af b {T with st:=oe}:=fs
 obtain⟨Jf,mF,Yk,OP⟩:=Sj.aw1 ch aiw aaS OZ top
 have CQ:=OP.bN _ _ Rz FU
 have Y7:=OP.none Rz FU
 have amA:=((gA.mono n2).trans Tz).trans OP
 obtain⟨iU,se⟩:∃iU,tH.ins n7 (.cells (jJ (uP n7 sv v top)).toArray 230 (0,0))=iU:=⟨_,rfl⟩
 rw[se] at mF Yk OP CQ amA ⊢
 obtain⟨bb,sT⟩:∃bb,{T with st:=oe}=bb:=⟨_,rfl⟩
 rw[sT] at mF
 have pF:bb.g=T.g:=by rw[<-sT]
 have Fk:bb.an=T.an:=by rw[<-sT]
 have el:bb.bY=T.bY:=by rw[<-sT]
 have I6:bb.entry=T.entry:=by rw[<-sT]
 have r2:dS bb:=⟨by rw[Fk,el,pF];exact aT.k,by rw[el];exact aT.bY,by rw[pF,I6];exact aT.entry⟩
 rw[<-pF] at ch fB bS
 rw[<-Fk] at xR
 have fin:∀u' aX bt,In ai u' aX b bt->gA iU Jf u' aX->dS bt->e5 bt.g=e5 bb.g++ [(id,v)]->bt.an=bb.an->bt.bY=bb.bY->K u':=λu' aX bt b3 cu jW Kw DR Pb=>
  au u' aX bt b3 (amA.trans cu) jW (by rw[Kw,pF]) (DR.trans Fk) (Pb.trans el)
 clear au aT h1 fs Sj Tz aaS aiw hr Kj se c2 jf aA OZ n2 Rz OP FU eX gd
 obtain⟨_,_,_,d3,d4⟩:=kP mF.aI
 have uq:∀x∈bb.g,1<=x.1:=λx J=>(r2.k.ok.ids x J).1
 have uu:=r2.bY
 have put:∀{w:H} {aX:N->ay bp} {nd:dq} {fZ:H->Prop},In ai w aX b bb->nb aX w id nd->nd.p=n7->(∀w',In ai w' aX b {bb with g:=bb.g++ [(id,nd)]}->gA w aX w' aX->fZ w')->
   dd aH (unit (lx 182 (.map (some bb.m)) (.int .i64 id) (.pointer (some ⟨n7,0,none⟩)))) [] w fZ:=λ{w aX nd fZ} b6 eF ad hk=>by
  refine Ep we b6.aI.map (by rw[C9,AQ.2 ch];rfl) λz hm=>?_
  have oy:fx (w.ins bb.m z) bb.m (jt (bb.g++ [(id,nd)])):=by rw[axC,ad];exact hm
  obtain⟨b3,cu⟩:=b6.alO oy λx J=>by rcases cN.1 J with J|J;exact b6.aI.nodes x J;simp at J;subst J;exact eF
  exact hk _ b3 cu
 have aeN:∀{nd:dq},nd.v=v->nd.top=top->(∀(j:N) l,nd.kn[j]?=some l->CF bb.bY (bb.g.map (·.1)) l)->ql bb.an bb.bY (bb.g++ [(id,nd)]):=λ{nd} h1 h2 h3=>
  r2.k.add uu ch as2 (by rw[h1];exact xR) (by omega) fB h3
 refine⟨_,H.ba CQ 0,_,rfl,_,d4,λhe=>?_,λhe=>?_⟩
 have r8:bb.g=[]:=by rcases r2.entry with⟨h1,_⟩|h1;exact h1;obtain⟨x,J,e⟩:=bf.1 h1;have:=uq x J;omega
 refine⟨_,H.ba CQ 0,_,rfl,_,d3,put mF Yk rfl λw hw GD=>?_⟩
 refine⟨_,H.ba (GD.bN _ _ CQ Y7) 0,_,rfl,VI hw.aI (e:=id) ?_⟩
 obtain⟨b3,cu⟩:=hw.QA id
 refine fin _ _ _ b3 (GD.trans cu) ⟨aeN rfl rfl λj l ar=>by rw[akj ar];exact CF.nil uu.1 _,uu,.inr (by simp)⟩ ?_ rfl rfl
 simp[e5,uP]
 have uk:bb.entry∈bb.g.map (·.1):=by rcases r2.entry with⟨_,h1⟩|h1;exact aW h1 he;exact h1
 intro ant ard
 have start:∀x:o,x<=30->-1<=x->ant x iU:=λx dC bL=>ard x iU (by
  refine⟨λlv w=>-1<=lv/\lv<=30/\∃aX nd,anG ai iU Jf b bb id n7 sv v top lv w aX nd,λlv _=>(lv+1).toNat,
   ⟨bL,dC,Jf,_,mF,Yk,gA.refl _ _,rfl,rfl,rfl,rfl,λj l ar=>by rw[akj ar];exact⟨CF.nil uu.1 _,λ_=>rfl⟩⟩,?_⟩
  rintro lv w ⟨Pq,aka,Fx,nd,iY⟩;have b6:=iY.is;have Ym:=iY.node;have oD:=iY.eP.bN _ _ CQ Y7;have Zb:=iY.eP.none CQ Y7;obtain⟨_,gj,_,hL,l6⟩:=kP b6.aI;have aN:sD w bb.an sv v:=⟨by have:=Ym.vec;rw[iY.es,iY.R2] at this;exact this,xR.2,xR.1⟩;refine⟨λnU=>?_,λnU=>?_⟩;refine⟨_,H.ba oD 0,_,rfl,_,gj,spec.sy (λdi=>by omega) λ_ _ pk az6 au5 J4 pS=>?_⟩;intro n31 sb;refine mT (zs:=[.pointer none]) rfl (by simp[cT]) ?_;have ajm:w n31=none:=au5.none sb;have OR:=pS.l3 sb (.cells [.pointer (some ⟨pk,0,none⟩)].toArray 90 (0,0));obtain⟨u32,ai9⟩:∃u32,az6.ins n31 (.cells [.pointer (some ⟨pk,0,none⟩)].toArray 90 (0,0))=u32:=⟨_,rfl⟩;rw[ai9] at OR ⊢;intro n33 ZL;refine mT (zs:=[.int .i64 0]) rfl (by simp[cT]) ?_;have GC:=OR.l3 ZL (.cells [.int .i64 0].toArray 3 (0,0));have X2:u32 n31≠none:=by rw[<-ai9,H.bh];simp
  have ZO:n31≠n33:=λe=>X2 (by rw[e];exact ZL);have ajn:w n33=none:=by have:=OR.le.none ZL;rw[H.bq _ _ (dz ZO)] at this;exact this
  obtain⟨l5,aaL⟩:∃l5,u32.ins n33 (.cells [.int .i64 0].toArray 3 (0,0))=l5:=⟨_,rfl⟩;rw[aaL] at GC ⊢;have y2:∀{eH hQ:Obj} {Y:H},((w.ins n31 eH).ins n33 hQ).le Y->w.le Y:=λhle c y I=>hle c y (by rw[H.bq _ _ (λe=>by rw[e,ajn] at I;cases I),H.bq _ _ (λe=>by rw[e,ajm] at I;cases I)];exact I)
  have O0:w.le l5:=y2 GC.le;obtain⟨at',uh⟩:∃at',vd bb.g v bb.entry lv.toNat=at':=⟨_,rfl⟩;have ahd:at'∈bb.g.map (·.1):=by rw[<-uh];exact adM r2.k.ok uk _
  refine⟨_,H.ba (O0 _ _ oD) 0,_,H.ba (O0 _ _ oD) 0,spec.Bg (b6.aI.mono O0) r2.k.ok uk (aN.mono O0) nU ⟨H.le.refl _,?_⟩⟩;rw[uh];obtain⟨bd,gl⟩:∃bd,lE bb.g v lv.toNat at'=bd:=⟨_,rfl⟩;have Nh:=Met.one (cS bb.g v) (ids:=bb.g.map (·.1)) (ur bb.g v) ahd;have FJ:bd.Nodup/\(∀x∈bd,x∈bb.g.map (·.1)):=by rw[<-gl];exact⟨(afY (cS bb.g v) (l0 bb.g lv.toNat) (ur bb.g v) (r2.k.ok.cb _) _ _ _ Nh).1,afX (cS bb.g v) (l0 bb.g lv.toNat) (ur bb.g v) (r2.k.ok.cb _) _ _ _ Nh⟩
  have arR:bd.length<=1000000:=by have:=pj FJ.1 FJ.2;simp at this;omega
  have att:L7 w n31 n33 pk bb.bY bb.g v bd 0 l5:=GC;refine spec.aqz O0 b6.aI r2.k.ok ahd aN nU (by omega) (λi Y=>L7 w n31 n33 pk bb.bY bb.g v bd i Y) (λi Y aC=>y2 (iJ.le aC))
   (λi x Y fZ J aP hk=>av5 b6.aI uu oD ajm ajn ZO arR (by rw[<-gl];exact J) aP hk) att λi Y dk kW=>?_
  rw[gl] at dk;have aaZ:w.le Y:=y2 (iJ.le kW);have avu:Y n31=some (.cells #[.pointer (some ⟨pk,0,none⟩)] 90 (0,0)):=(iJ.le kW) _ _ (by rw[H.bq _ _ ZO,H.bh]);refine⟨_,H.ba avu 0,spec.qV kW λVn QU J6=>?_⟩;obtain⟨L,cX⟩:∃L,eT bb.bY.toNat ((bd.take i).map (cS bb.g v))=L:=⟨_,rfl⟩;rw[cX] at J6;have aBc:∃cm:M bO,(l4 ((bd.take i).map (cS bb.g v))).take bb.bY.toNat=L:=⟨[],cX⟩;have agT:(L.map (·.1)).Sublist ((l4 ((bd.take i).map (cS bb.g v))).map (·.1)):=by rw[<-cX];exact(rN _ _).map _
  have h5:=(vc ((bd.take i).map (cS bb.g v))).map (·.1);have arS:((bd.take i).map (cS bb.g v)).map (·.1)=bd.take i:=by
   rw[ep];have:((λx:bO=>x.1)∘cS bb.g v)=λx=>x:=by funext x;rfl
   rw[this];exact B5 _
  rw[arS] at h5;have asU:∀m,CF bb.bY (bb.g.map (·.1)) ((L.take m).map (·.1)):=λm=>by
   have gJ:((L.take m).map (·.1)).Sublist (L.map (·.1)):=(rN _ _).map _;refine⟨λx J=>FJ.2 x (oa ((h5.mem_iff (a:=x)).1 (agT.mem (gJ.mem J)))),(h5.nodup_iff.2 (FJ.1.sublist (rN _ _))).sublist (gJ.trans agT),?_⟩;have:L.length<=bb.bY.toNat:=by rw[<-cX,ys];exact Nat.min_le_left _ _
   simp only[de,gZ];omega
  have xh:L.length<=16:=by
   have:L.length<=bb.bY.toNat:=by rw[<-cX,ys];exact Nat.min_le_left _ _
   omega
  have aaU:w.le QU:=aaZ.trans J6.le;have auK:∀g,Vn.aj=some g->Fx g=none/\∃z,QU g=some z:=λg W=>by have h1:=J6.fresh g W;exact⟨b6.fresh (aaZ.none h1),e9.1 (uS J6 W)⟩
  have aB3:=J6.fi.len;refine⟨λk x=>0<=k/\k<=L.length/\∃aX BM,In ai x aX b bb/\nb aX x id BM/\gA QU Fx x aX/\BM.p=n7/\BM.sv=sv/\BM.v=v/\BM.top=top/\
    ∀(j:N) l,BM.kn[j]?=some l->(j=lv.toNat/\l=(L.take k.toNat).map (·.1))∨(j≠lv.toNat/\nd.kn[j]?=some l),λk _=>L.length-k.toNat,
   ⟨by omega,by omega,Fx,nd,b6.mono aaU,Ym.bN (λ_ _=>rfl) λc z aa _=>aaU c z aa,gA.refl _ _,iY.Fq,iY.es,iY.R2,iY.Jb,λj l ar=>?_⟩,?_⟩
  by_cases e:j=lv.toNat;have:=(iY.nR j l ar).2 (by omega);exact .inl ⟨e,by simpa using this⟩;exact .inr ⟨e,ar⟩;rintro k x ⟨jG,b3,aX,BM,s5,Ju,ru,aS,aB,cW,fN,jU⟩;refine⟨λjn=>?_,λS8=>?_⟩;have aa0:kQ x Vn L:=br.else J6.fi λg z W aa=>ru.bN g z aa (auK g W).1;obtain⟨axN,auu,y,ah,iI,jx,lF⟩:=aa0.at jG jn;obtain⟨s,l,dO,dB,I,aa,xN⟩:=xW Ju (lv:=lv.toNat) (by omega);have ar:l=(L.take k.toNat).map (·.1):=by rcases jU _ l dB with⟨_,h1⟩|⟨h1,_⟩;exact h1;exact aW rfl h1
  rw[aS] at I;refine⟨axN,auu,⟨jG,jn⟩,_,iI,_,jx,_,lF,by decide,⟨nU,by omega⟩,s,I,?_⟩;have Ds:=aa.ints.len;have aBA:l.length<=16:=by rw[ar];simp;omega
  refine Aa oN (AB y.1) (by decide) rfl (by simp[cT]) aa (by omega) (by omega) λaq x2 bP hW gf eG _=>⟨by decide,⟨nU,by omega⟩,?_⟩;have mI:l.flatMap encI++ [.int .i64 y.1]=(l++ [y.1]).flatMap encI:=by simp[encI]
  rw[mI] at bP;unfold a8;rw[KP,<-aS];have uE:s.aj≠some BM.p:=λe=>by have:=xN _ e;rw[Ju.tag] at this;cases this
  refine adJ (gf _ _ Ju.cell uE) Ju.uL (by omega) (l++ [y.1]) ?_;obtain⟨oZ,Yj,aD⟩:=Ju.level s5.known dO bP gf eG;have vJ:=s5.ayY ch aD;refine⟨⟨by omega,by omega⟩,⟨by omega,by omega,oZ,_,vJ,Yj,ru.trans aD.eP,rfl,aB,cW,fN,λj gg h4=>?_⟩,by dsimp only;omega⟩;rcases QB h4 with⟨h1,h2⟩|⟨h1,h2⟩;refine .inl ⟨h1,?_⟩;rw[h2,ar,show(k+1).toNat=k.toNat+1 by omega,gS,ah];simp;rcases jU j gg h2 with⟨h3,_⟩|⟨_,h3⟩;exact aW h3 h1;exact .inr ⟨h1,h3⟩;have aBw:k.toNat=L.length:=by have:¬k<(Vn.n:o):=S8;omega
  refine⟨⟨by omega,by omega⟩,⟨by omega,by omega,aX,BM,⟨s5,Ju,(iY.eP.trans (gA.mono aaU)).trans ru,aS,aB,cW,fN,λj l ar=>?_⟩⟩,by dsimp only;omega⟩;rcases jU j l ar with⟨h1,h2⟩|⟨h1,h2⟩;rw[h2];exact⟨asU _,λaP=>by omega⟩;obtain⟨h3,a7⟩:=iY.nR j l h2;exact⟨h3,λaP=>a7 (by omega)⟩;refine⟨_,H.ba oD 0,_,rfl,_,hL,put b6 Ym iY.Fq λWm iL ai4=>?_⟩;have gQ:ql bb.an bb.bY (bb.g++ [(id,nd)]):=aeN iY.R2 iY.Jb λj l ar=>(iY.nR j l ar).1;have NX:=ai4.bN _ _ oD Zb;have asS:eL (bb.g++ [(id,nd)]) id=some nd:=by rw[XZ ch,a1 rfl]
  have nW:((bb.g++ [(id,nd)]).map (·.1)).Nodup:=iL.aI.nodup;have auH:e5 (bb.g++ [(id,nd)])=e5 bb.g++ [(id,v)]:=by simp[e5,iY.R2]
  have Jn:WG ai Wm Fx b bb (bb.g++ [(id,nd)]) id nd (λj _=>0<=j) Wm:=⟨Fx,_,iL,gA.refl _ _,Alike.refl _,gQ,asS,λa n j l al ae ar _=>by rw[XZ ch,aF al] at ae;exact λhm=>ch (r2.k.ok.known _ (iq ae) l (dK ar) id hm)⟩
  refine⟨λj Y=>0<=j/\j<=31/\WG ai Wm Fx b bb (bb.g++ [(id,nd)]) id nd (λi _=>j.toNat<=i) Y,λj _=>(31-j).toNat,⟨by omega,by omega,Jn⟩,?_⟩;rintro j Y ⟨gK,js,eM⟩;refine⟨λaP=>?_,λaP=>?_⟩;obtain⟨aX,b0,s5,ru,SF,dA,SZ,FV⟩:=eM;obtain⟨s,l,dO,dB,I,aa,xN⟩:=xW (s5.aI.node SZ) (lv:=j.toNat) (by omega);have asF:=iY.Fq;rw[asF] at I;have uq:=(iY.nR _ l dB).1;have Ds:=aa.ints.len;have JU:=aa.ints.max;refine⟨by decide,⟨gK,aP⟩,s,I,?_⟩;refine⟨λk y=>0<=k/\k<=l.length/\WG ai Wm Fx b bb (bb.g++ [(id,nd)]) id nd (λi a=>j.toNat<i∨(i=j.toNat/\a∉l.take k.toNat)) y,λk _=>l.length-k.toNat,
   ⟨by omega,by omega,aX,b0,s5,ru,SF,dA,SZ,λa n i gg h1 h2 h3 a7=>FV a n i gg h1 h2 h3 (by rcases a7 with a7|⟨a7,_⟩<;>omega)⟩,?_⟩
  rintro k y ⟨jG,b3,Sq⟩;refine⟨λjn=>?_,λS8=>?_⟩;obtain⟨ib,g3,lJ,pd,vE,j6,S0,NF⟩:=Sq;have pI:=lJ.aI.node S0;obtain⟨s2,gg,aS,aB,_,dI,_⟩:=xW pI (lv:=j.toNat) (by omega);rw[dO] at aS;cases aS;rw[dB] at aB;cases aB;obtain⟨q,Kc,YW⟩:=dI.ints.at jG jn;have Ko:l[k.toNat]?=some (l.getD k.toNat 0):=getD_some (by omega);have vY:=uq.sub _ (dK Ko);have aa2:l.getD k.toNat 0≠id:=λe=>ch (e▸vY);have ahZ:g3.map (·.1)=bb.g.map (·.1)++ [id]:=by rw[vE.ids];simp
  obtain⟨ff,uz⟩:=yY (g:=g3) (id:=l.getD k.toNat 0) (by rw[ahZ];exact iQ _ vY);have Yl:=lJ.aI.node uz;obtain⟨Lz,Pk,ac,a2,_,_,_⟩:=xW Yl (lv:=j.toNat) (by omega);have ZA:Pk.length<=1000000:=by have h1:=(j6.many _ _ _ _ uz a2).1;have:=(ab5 (lv:=((j.toNat:N):o)) uu).2;omega
  have at0:l.getD k.toNat 0∉l.take k.toNat:=λhm=>by
   obtain⟨i,hi,e⟩:=sn.1 hm;simp only[gZ] at hi;have as1:i<l.length:=by omega
   have JP:k.toNat<l.length:=by omega
   have:=qN.1 uq.nodup i k.toNat as1 JP (by omega);rw[Qa,du,cr JP] at e;exact this e
  have eQ:=NF _ ff j.toNat Pk aa2 uz a2 (.inr ⟨rfl,at0⟩);have S5:id∈g3.map (·.1):=by rw[ahZ];simp
  refine⟨q,Kc,⟨jG,jn⟩,_,YW,_,H.ba (pd.bN _ _ NX Zb) 0,?_⟩;refine spec.Be lJ j6.ok uu uz S5 gK (by omega) a2 ZA λCx aqx lB rC ata auY atp=>⟨⟨by omega,by omega⟩,⟨by omega,by omega,aqx,_,ata,pd.trans auY,vE.trans (Alike.jN uz _ _ _),?_,?_,?_⟩,by dsimp only;omega⟩;exact j6.ajT lJ.aI.nodup uz gK lB a2 atp S5 (dz aa2) eQ;rw[MU,aF (dz aa2)];exact S0;intro a n i zt h1 h2 h3 a7;rw[MU] at h2;by_cases e:a=l.getD k.toNat 0;rw[a1 e] at h2;rw[e,uz] at h2;cases h2;have bD:j.toNat<i:=by rcases a7 with a7|⟨_,a7⟩;exact a7;exfalso;apply a7;rw[e,show(k+1).toNat=k.toNat+1 by omega,gS,Ko];simp
  rcases QB h3 with⟨bK,_⟩|⟨_,bK⟩;omega;exact NF _ ff i zt (by rw[<-e];exact h1) uz bK (.inl bD);rw[aF e] at h2;refine NF a n i zt h1 h2 h3 ?_;rcases a7 with a7|⟨a7,bK⟩;exact .inl a7;refine .inr ⟨a7,λhm=>bK ?_⟩;rw[show(k+1).toNat=k.toNat+1 by omega,gS];exact iQ _ hm;obtain⟨ib,g3,lJ,pd,vE,j6,S0,NF⟩:=Sq;exact⟨⟨by omega,by omega⟩,⟨by omega,by omega,ib,g3,lJ,pd,vE,j6,S0,λa n i zt h1 h2 h3 a7=>NF a n i zt h1 h2 h3 (.inl (by omega))⟩,by dsimp only;omega⟩;obtain⟨aX,b0,s5,ru,SF,dA,SZ,_⟩:=eM;have aa6:=ru.bN _ _ NX Zb;obtain⟨_,_,_,z3,z4⟩:=kP s5.aI;have ahI:bb.entry∈b0.map (·.1):=by rw[SF.ids];simp only[ek];exact iQ _ uk
  have S5:id∈b0.map (·.1):=bf.2 ⟨_,iq SZ,rfl⟩;have j8:e5 b0=e5 bb.g++ [(id,v)]:=by rw[SF.rows nW];exact auH
  have TB:gA iU Jf Y aX:=(iY.eP.trans ai4).trans ru;refine⟨_,H.ba aa6 0,_,rfl,_,z3,_,H.ba aa6 0,_,rfl,_,z4,vb s5.aI ahI λn _ eF=>⟨_,rfl,n.top,?_,λ_=>⟨_,H.ba aa6 0,_,rfl,VI s5.aI (e:=id) ?_⟩,λ_=>?_⟩⟩;rw[jh,k5,Hh eF];exact Um eF.uL;obtain⟨b3,cu⟩:=s5.QA id;exact fin _ _ _ b3 (TB.trans cu) ⟨dA,uu,.inr S5⟩ j8 rfl rfl;exact fin _ _ _ s5 TB ⟨dA,uu,.inr ahI⟩ j8 rfl rfl)
 obtain⟨ne,al⟩:=yY uk
 refine⟨_,H.ba CQ 0,_,rfl,_,d3,_,H.ba CQ 0,_,rfl,_,d4,vb mF.aI uk λn ae eF=>⟨_,rfl,n.top,?_,?_⟩⟩
 rw[jh,k5,Hh eF];exact Um eF.uL
 have:=r2.k.ok.top _ (iq ae)
 simp only at this
 exact start _ (by split<;>omega) (by split<;>omega)
end
end eE
