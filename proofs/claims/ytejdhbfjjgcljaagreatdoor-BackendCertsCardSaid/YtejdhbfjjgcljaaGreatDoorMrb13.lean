/- Texts of mine, joined and packed by pack.py. -/
import Derived.Test.YtejdhbfjjgcljaaGreatDoorMrb12
set_option linter.all false
open Go renaming Program->dT,Value->ao,TypeId->dF,Addr->bc
open _root_ renaming Nat->N,List->M,Option->aA,Int->o,Bool->aD,absurd->aV
open Bool renaming true->ak,false->ax
open Go.Obj renaming cells->bj
open Go.Instr renaming mapUpdate->kh
open Go.Builtin renaming delete_->rZ
open Go.Result renaming andThen->jf
open Go.Proofs.Tryz renaming prog->aH
open Go.Value renaming bool->hl,int->cJ,oneCell'->cK
open Int renaming tdiv->ff
open List.Perm renaming cons->j3,swap->TT
open List.Pairwise renaming nil->oZ
open Go.Addr renaming mk->cw
open List renaming length->iC
open Prod renaming fst->sI,snd->tH
open Function renaming comp->Ud
set_option maxRecDepth 100000
noncomputable section
namespace Go.Proofs.YtejdhbfjjgcljaaGreatDoor
open H
namespace eE
structure apd(aj jh:H)(H6:N->aA bx)(b:N)(T:aS)(id:o)(p:N)(sv:U)(v:M o)(top:N)(lv:o)(w:H)(aY:N->aA bx)(nd:du):Prop where
 is:In aj w aY b T
 node:nt aY w id nd
 eX:gL jh H6 w aY
 ET:nd.p=p
 es:nd.sv=sv
 Rt:nd.v=v
 H4:nd.top=top
 oh:∀(j:N) l,nd.kn[j]?=some l->Cv T.b9 (T.g.map (·.1)) l/\((j:o)<=lv->l=[])
structure Wy(aj aCQ:H)(ar7:N->aA bx)(b:N)(T:aS)(g2:M (o×du))(id:o)(nd:du)(P:N->o->Prop)(w:H):Prop where
 ex:∃aY b2,In aj w aY b {T with g:=b2}/\gL aCQ ar7 w aY/\Alike g2 b2/\qA T.aq T.b9 b2/\eS b2 id=some nd/\
  ∀a n (j:N) l,a≠id->eS b2 a=some n->n.kn[j]?=some l->P j a->id∉l
def adb{aj u:H}{af:N->aA bx}{b:N}{T:aS}{id:o}{sv:U}{v:M o}{K:H->Prop}(h:In aj u af b T)(aT:dU T)(hK:kG aj)(cm:id∉T.g.map (·.1))(auG:1<=id/\id<=1000000000)
  (aB:Ints u sv v) (N7:∀g,sv.al=some g->af g=some (.vec id)) (Br:(v.length:o)=T.aq/\c8 v) (gf:T.g.length<=512)
  (av:∀u' aY bB,In aj u' aY b bB->gL u af u' aY->dU bB->fg bB.g=fg T.g++ [(id,v)]->bB.aq=T.aq->bB.b9=T.b9->K u'):Hv (some ⟨b,0,none⟩) id sv u K:=by
 have b3:=h.aJ.nodup
 apply aDQ
 intro n0 e1
 have oy:=bZ (u:=u) (b:=n0) (.cells #[.pointer (some ⟨b,0,none⟩)] 122 (0,0)) e1
 have Fe:af n0=none:=h.fresh e1
 have h1:=h.mono oy
 have fA:(u.ins n0 (.cells #[.pointer (some ⟨b,0,none⟩)] 122 (0,0))) n0=some (.cells #[.pointer (some ⟨b,0,none⟩)] 122 (0,0)):=bi _ _ _
 obtain⟨aU,hj⟩:∃aU,u.ins n0 (.cells #[.pointer (some ⟨b,0,none⟩)] 122 (0,0))=aU:=⟨_,rfl⟩
 rw[hj] at oy h1 fA ⊢
 obtain⟨_,_,c2,_,_⟩:=kU h1.aJ
 refine⟨_,a8 fA 0,_,rfl,_,c2,aBl h1.aJ.src hK h1.le (h1.out _ (by rw[h1.aJ.ih];simp)) λoJ Ou dY iy ej=>?_⟩
 obtain⟨top,rfl⟩:=Int.eq_ofNat_of_zero_le iy
 obtain⟨e7,SU⟩:=h1.aAp dY
 have Q4:=SU.bS _ _ fA Fe
 have aap:Ints (aU.ins T.src (.cells #[.int .u64 oJ] 215 (0,0))) sv v:=bz.else (aB.mono oy) λg z W ab=>by rw[bq _ _ (λe=>by have:=N7 g W;rw[e,h1.aJ.ih] at this;cases this)];exact ab
 obtain⟨tP,I9⟩:∃tP,aU.ins T.src (.cells #[.int .u64 oJ] 215 (0,0))=tP:=⟨_,rfl⟩
 rw[I9] at e7 SU Q4 aap ⊢
 intro n7 aiQ
 generalize Nt:bj _ 230 (0,0)=ty
 have avL:ty=.cells (jP (uW n7 sv v top)).toArray 230 (0,0):=by rw[<-Nt];rfl
 subst avL
 clear Nt
 have RI:In aj tP af b {T with st:=oJ}:=e7
 obtain⟨H6,mP,X2,NW⟩:=RI.ayB cm aiQ aap N7 top
 have CH:=NW.bS _ _ Q4 Fe
 have YK:=NW.none Q4 Fe
 have anG:=((gL.mono oy).trans SU).trans NW
 obtain⟨jh,sr⟩:∃jh,tP.ins n7 (.cells (jP (uW n7 sv v top)).toArray 230 (0,0))=jh:=⟨_,rfl⟩
 rw[sr] at mP X2 NW CH anG ⊢
 obtain⟨bb,te⟩:∃bb,{T with st:=oJ}=bb:=⟨_,rfl⟩
 rw[te] at mP
 have mf:bb.g=T.g:=by rw[<-te]
 have EO:bb.aq=T.aq:=by rw[<-te]
 have el:bb.b9=T.b9:=by rw[<-te]
 have Xl:bb.entry=T.entry:=by rw[<-te]
 have sg:dU bb:=⟨by rw[EO,el,mf];exact aT.k,by rw[el];exact aT.b9,by rw[mf,Xl];exact aT.entry⟩
 rw[<-mf] at cm gf b3
 rw[<-EO] at Br
 have fin:∀u' aY bB,In aj u' aY b bB->gL jh H6 u' aY->dU bB->fg bB.g=fg bb.g++ [(id,v)]->bB.aq=bb.aq->bB.b9=bb.b9->K u':=λu' aY bB cq cH kP aaU axn axo=>
  av u' aY bB cq (anG.trans cH) kP (by rw[aaU,mf]) (axn.trans EO) (axo.trans el)
 clear av aT h1 e7 RI SU aap aiQ hj I9 sr c2 iy aB N7 oy Q4 NW Fe e1 fA
 obtain⟨_,_,_,d3,d4⟩:=kU mP.aJ
 have ux:∀x∈bb.g,1<=x.1:=λx J=>(sg.k.ok.ids x J).1
 have vS:=sg.b9
 have put:∀{w:H} {aY:N->aA bx} {nd:du} {gw:H->Prop},In aj w aY b bb->nt aY w id nd->nd.p=n7->(∀w',In aj w' aY b {bb with g:=bb.g++ [(id,nd)]}->gL w aY w' aY->gw w')->
   c9 aH (unit (kh 182 (.map (some bb.m)) (.int .i64 id) (.pointer (some ⟨n7,0,none⟩)))) [] w gw:=λ{w aY nd gw} cb eP ad hk=>by
  refine B3 wl cb.aJ.map (by rw[CX,AJ.2 cm];rfl) λz hm=>?_
  have oQ:fz (w.ins bb.m z) bb.m (jA (bb.g++ [(id,nd)])):=by rw[aze,ad];exact hm
  obtain⟨cq,cH⟩:=cb.amb oQ λx J=>by rcases cM.1 J with J|J;exact cb.aJ.nodes x J;simp at J;subst J;exact eP
  exact hk _ cq cH
 have afa:∀{nd:du},nd.v=v->nd.top=top->(∀(j:N) l,nd.kn[j]?=some l->Cv bb.b9 (bb.g.map (·.1)) l)->qA bb.aq bb.b9 (bb.g++ [(id,nd)]):=λ{nd} h1 h2 h3=>
  sg.k.add vS cm auG (by rw[h1];exact Br) (by omega) gf h3
 refine⟨_,a8 CH 0,_,rfl,_,d4,λhe=>?_,λhe=>?_⟩
 have vP:bb.g=[]:=by rcases sg.entry with⟨h1,_⟩|h1;exact h1;obtain⟨x,J,e⟩:=bk.1 h1;have:=ux x J;omega
 refine⟨_,a8 CH 0,_,rfl,_,d3,put mP X2 rfl λw hw FZ=>?_⟩
 refine⟨_,a8 (FZ.bS _ _ CH YK) 0,_,rfl,UR hw.aJ (e:=id) ?_⟩
 obtain⟨cq,cH⟩:=hw.Pw id
 refine fin _ _ _ cq (FZ.trans cH) ⟨afa rfl rfl λj l ap=>by rw[akG ap];exact Cv.nil vS.1 _,vS,.inr (by simp)⟩ ?_ rfl rfl
 simp[fg,uW]
 have uu:bb.entry∈bb.g.map (·.1):=by rcases sg.entry with⟨_,h1⟩|h1;exact aV h1 he;exact h1
 intro ao2 asY
 have start:∀x:o,x<=30->-1<=x->ao2 x jh:=λx dw bK=>asY x jh (by
  refine⟨λlv w=>-1<=lv/\lv<=30/\∃aY nd,apd aj jh H6 b bb id n7 sv v top lv w aY nd,λlv _=>(lv+1).toNat,
   ⟨bK,dw,H6,_,mP,X2,gL.refl _ _,rfl,rfl,rfl,rfl,λj l ap=>by rw[akG ap];exact⟨Cv.nil vS.1 _,λ_=>rfl⟩⟩,?_⟩
  rintro lv w ⟨Ou,akx,EW,nd,lk⟩;have cb:=lk.is;have X4:=lk.node;have ov:=lk.eX.bS _ _ CH YK;have YO:=lk.eX.none CH YK;obtain⟨_,gk,_,h7,nk⟩:=kU cb.aJ;have aL:sW w bb.aq sv v:=⟨by have:=X4.vec;rw[lk.es,lk.Rt] at this;exact this,Br.2,Br.1⟩;refine⟨λoq=>?_,λoq=>?_⟩;refine⟨_,a8 ov 0,_,rfl,_,gk,PM (λdq=>by omega) λ_ _ pA aCM awA IT p5=>?_⟩;intro n31 sn;refine nh (zs:=[.pointer none]) rfl (by simp[cK]) ?_;have ajF:w n31=none:=awA.none sn;have NY:=p5.nf sn (.cells [.pointer (some ⟨pA,0,none⟩)].toArray 90 (0,0));obtain⟨u32,aju⟩:∃u32,aCM.ins n31 (.cells [.pointer (some ⟨pA,0,none⟩)].toArray 90 (0,0))=u32:=⟨_,rfl⟩;rw[aju] at NY ⊢;intro n33 Zj;refine nh (zs:=[.int .i64 0]) rfl (by simp[cK]) ?_;have FY:=NY.nf Zj (.cells [.int .i64 0].toArray 3 (0,0));have XL:u32 n31≠none:=by rw[<-aju,bi];simp
  have Zn:n31≠n33:=λe=>XL (by rw[e];exact Zj);have ajG:w n33=none:=by have:=NY.le.none Zj;rw[bq _ _ (dG Zn)] at this;exact this
  obtain⟨ni,aai⟩:∃ni,u32.ins n33 (.cells [.int .i64 0].toArray 3 (0,0))=ni:=⟨_,rfl⟩;rw[aai] at FY ⊢;have y2:∀{en hW:Obj} {Y:H},((w.ins n31 en).ins n33 hW).le Y->w.le Y:=λhle c y I=>hle c y (by rw[bq _ _ (λe=>by rw[e,ajG] at I;cases I),bq _ _ (λe=>by rw[e,ajF] at I;cases I)];exact I)
  have N8:w.le ni:=y2 FY.le;obtain⟨at',uo⟩:∃at',vn bb.g v bb.entry lv.toNat=at':=⟨_,rfl⟩;have ahv:at'∈bb.g.map (·.1):=by rw[<-uo];exact ady sg.k.ok uu _
  refine⟨_,a8 (N8 _ _ ov) 0,_,a8 (N8 _ _ ov) 0,amH (cb.aJ.mono N8) sg.k.ok uu (aL.mono N8) oq ⟨H.le.refl _,?_⟩⟩;rw[uo];obtain⟨bD,hq⟩:∃bD,lG bb.g v lv.toNat at'=bD:=⟨_,rfl⟩;have Mk:=Met.one (cU bb.g v) (ids:=bb.g.map (·.1)) (uz bb.g v) ahv;have E6:bD.Nodup/\(∀x∈bD,x∈bb.g.map (·.1)):=by rw[<-hq];exact⟨(agk (cU bb.g v) (l1 bb.g lv.toNat) (uz bb.g v) (sg.k.ok.ck _) _ _ _ Mk).1,agj (cU bb.g v) (l1 bb.g lv.toNat) (uz bb.g v) (sg.k.ok.ck _) _ _ _ Mk⟩
  have atz:bD.length<=1000000:=by have:=py E6.1 E6.2;simp at this;omega
  have au6:Lg w n31 n33 pA bb.b9 bb.g v bD 0 ni:=FY;refine aA2 N8 cb.aJ sg.k.ok ahv aL oq (by omega) (λi Y=>Lg w n31 n33 pA bb.b9 bb.g v bD i Y) (λi Y aC=>y2 (iZ.le aC))
   (λi x Y gw J aN hk=>axC cb.aJ vS ov ajF ajG Zn atz (by rw[<-hq];exact J) aN hk) au6 λi Y cZ k0=>?_
  rw[hq] at cZ;have aax:w.le Y:=y2 (iZ.le k0);have aw0:Y n31=some (.cells #[.pointer (some ⟨pA,0,none⟩)] 90 (0,0)):=(iZ.le k0) _ _ (by rw[bq _ _ Zn,bi]);refine⟨_,a8 aw0 0,Kz k0 λUt PS IV=>?_⟩;obtain⟨L,c6⟩:∃L,e6 bb.b9.toNat ((bD.take i).map (cU bb.g v))=L:=⟨_,rfl⟩;rw[c6] at IV;have aGR:∃cu:M bP,(ng ((bD.take i).map (cU bb.g v))).take bb.b9.toNat=L:=⟨[],c6⟩;have ahc:(L.map (·.1)).Sublist ((ng ((bD.take i).map (cU bb.g v))).map (·.1)):=by rw[<-c6];exact(r3 _ _).map _
  have ib:=(vm ((bD.take i).map (cU bb.g v))).map (·.1);have atA:((bD.take i).map (cU bb.g v)).map (·.1)=bD.take i:=by
   rw[eh];have:((λx:bP=>x.1)∘cU bb.g v)=λx=>x:=by funext x;rfl
   rw[this];exact DU _
  rw[atA] at ib;have auy:∀m,Cv bb.b9 (bb.g.map (·.1)) ((L.take m).map (·.1)):=λm=>by
   have gW:((L.take m).map (·.1)).Sublist (L.map (·.1)):=(r3 _ _).map _;refine⟨λx J=>E6.2 x (mx ((ib.mem_iff (a:=x)).1 (ahc.mem (gW.mem J)))),(ib.nodup_iff.2 (E6.1.sublist (r3 _ _))).sublist (gW.trans ahc),?_⟩;have:L.length<=bb.b9.toNat:=by rw[<-c6,Ab];exact Nat.min_le_left _ _
   simp only[dj,gq];omega
  have xk:L.length<=16:=by
   have:L.length<=bb.b9.toNat:=by rw[<-c6,Ab];exact Nat.min_le_left _ _
   omega
  have aas:w.le PS:=aax.trans IV.le;have awe:∀g,Ut.al=some g->EW g=none/\∃z,PS g=some z:=λg W=>by have h1:=IV.fresh g W;exact⟨cb.fresh (aax.none h1),fj.1 (uZ IV W)⟩
  have aHF:=IV.fq.len;refine⟨λk x=>0<=k/\k<=L.length/\∃aY BC,In aj x aY b bb/\nt aY x id BC/\gL PS EW x aY/\BC.p=n7/\BC.sv=sv/\BC.v=v/\BC.top=top/\
    ∀(j:N) l,BC.kn[j]?=some l->(j=lv.toNat/\l=(L.take k.toNat).map (·.1))∨(j≠lv.toNat/\nd.kn[j]?=some l),λk _=>L.length-k.toNat,
   ⟨by omega,by omega,EW,nd,cb.mono aas,X4.bS (λ_ _=>rfl) λc z ab _=>aas c z ab,gL.refl _ _,lk.ET,lk.es,lk.Rt,lk.H4,λj l ap=>?_⟩,?_⟩
  by_cases e:j=lv.toNat;have:=(lk.oh j l ap).2 (by omega);exact .inl ⟨e,by simpa using this⟩;exact .inr ⟨e,ap⟩;rintro k x ⟨jz,cq,aY,BC,tj,Io,rK,aQ,aF,cW,fJ,j0⟩;refine⟨λju=>?_,λSt=>?_⟩;have aay:lP x Ut L:=bz.else IV.fq λg z W ab=>rK.bS g z ab (awe g W).1;obtain⟨azn,avZ,y,ai,hS,ij,jF⟩:=aay.at jz ju;obtain⟨s,l,dZ,dQ,I,ab,xI⟩:=xQ Io (lv:=lv.toNat) (by omega);have ap:l=(L.take k.toNat).map (·.1):=by rcases j0 _ l dQ with⟨_,h1⟩|⟨h1,_⟩;exact h1;exact aV rfl h1
  rw[aQ] at I;refine⟨azn,avZ,⟨jz,ju⟩,_,hS,_,ij,_,jF,by decide,⟨oq,by omega⟩,s,I,?_⟩;have Dd:=ab.ints.len;have aHd:l.length<=16:=by rw[ap];simp;omega
  refine z1 o4 (Aw y.1) (by decide) rfl (by simp[cK]) ab (by omega) (by omega) λau x2 bQ h5 gd eQ _=>⟨by decide,⟨oq,by omega⟩,?_⟩;have mR:l.flatMap encI++ [.int .i64 y.1]=(l++ [y.1]).flatMap encI:=by simp[encI]
  rw[mR] at bQ;unfold aR;rw[JE,<-aQ];have uL:s.al≠some BC.p:=λe=>by have:=xI _ e;rw[Io.tag] at this;cases this
  refine adu (gd _ _ Io.cell uL) Io.uS (by omega) (l++ [y.1]) ?_;obtain⟨pg,X1,aI⟩:=Io.level tj.known dZ bQ gd eQ;have vQ:=tj.aAx cm aI;refine⟨⟨by omega,by omega⟩,⟨by omega,by omega,pg,_,vQ,X1,rK.trans aI.eX,rfl,aF,cW,fJ,λj eV ia=>?_⟩,by dsimp only;omega⟩;rcases Px ia with⟨h1,h2⟩|⟨h1,h2⟩;refine .inl ⟨h1,?_⟩;rw[h2,ap,show(k+1).toNat=k.toNat+1 by omega,gJ,ai];simp;rcases j0 j eV h2 with⟨h3,_⟩|⟨_,h3⟩;exact aV h3 h1;exact .inr ⟨h1,h3⟩;have aG9:k.toNat=L.length:=by have:¬k<(Ut.n:o):=St;omega
  refine⟨⟨by omega,by omega⟩,⟨by omega,by omega,aY,BC,⟨tj,Io,(lk.eX.trans (gL.mono aas)).trans rK,aQ,aF,cW,fJ,λj l ap=>?_⟩⟩,by dsimp only;omega⟩;rcases j0 j l ap with⟨h1,h2⟩|⟨h1,h2⟩;rw[h2];exact⟨auy _,λaN=>by omega⟩;obtain⟨h3,a7⟩:=lk.oh j l h2;exact⟨h3,λaN=>a7 (by omega)⟩;refine⟨_,a8 ov 0,_,rfl,_,h7,put cb X4 lk.ET λVi iw ajp=>?_⟩;have hh:qA bb.aq bb.b9 (bb.g++ [(id,nd)]):=afa lk.Rt lk.H4 λj l ap=>(lk.oh j l ap).1;have M7:=ajp.bS _ _ ov YO;have auv:eS (bb.g++ [(id,nd)]) id=some nd:=by rw[XH cm,a1 rfl]
  have ou:((bb.g++ [(id,nd)]).map (·.1)).Nodup:=iw.aJ.nodup;have awb:fg (bb.g++ [(id,nd)])=fg bb.g++ [(id,v)]:=by simp[fg,lk.Rt]
  have Ih:Wy aj Vi EW b bb (bb.g++ [(id,nd)]) id nd (λj _=>0<=j) Vi:=⟨EW,_,iw,gL.refl _ _,Alike.refl _,hh,auv,λa n j l an ae ap _=>by rw[XH cm,aG an] at ae;exact λhm=>cm (sg.k.ok.known _ (iG ae) l (dB ap) id hm)⟩
  refine⟨λj Y=>0<=j/\j<=31/\Wy aj Vi EW b bb (bb.g++ [(id,nd)]) id nd (λi _=>j.toNat<=i) Y,λj _=>(31-j).toNat,⟨by omega,by omega,Ih⟩,?_⟩;rintro j Y ⟨gF,kO,eH⟩;refine⟨λaN=>?_,λaN=>?_⟩;obtain⟨aY,b2,tj,rK,R3,dJ,Sk,Ff⟩:=eH;obtain⟨s,l,dZ,dQ,I,ab,xI⟩:=xQ (tj.aJ.node Sk) (lv:=j.toNat) (by omega);have aum:=lk.ET;rw[aum] at I;have ux:=(lk.oh _ l dQ).1;have Dd:=ab.ints.len;have IL:=ab.ints.max;refine⟨by decide,⟨gF,aN⟩,s,I,?_⟩;refine⟨λk y=>0<=k/\k<=l.length/\Wy aj Vi EW b bb (bb.g++ [(id,nd)]) id nd (λi a=>j.toNat<i∨(i=j.toNat/\a∉l.take k.toNat)) y,λk _=>l.length-k.toNat,
   ⟨by omega,by omega,aY,b2,tj,rK,R3,dJ,Sk,λa n i eV h1 h2 h3 a7=>Ff a n i eV h1 h2 h3 (by rcases a7 with a7|⟨a7,_⟩<;>omega)⟩,?_⟩
  rintro k y ⟨jz,cq,RN⟩;refine⟨λju=>?_,λSt=>?_⟩;obtain⟨im,g3,lJ,pu,vM,kd,Sl,MM⟩:=RN;have pW:=lJ.aJ.node Sl;obtain⟨s2,eV,aQ,aF,_,dP,_⟩:=xQ pW (lv:=j.toNat) (by omega);rw[dZ] at aQ;cases aQ;rw[dQ] at aF;cases aF;obtain⟨q,Dl,YB⟩:=dP.ints.at jz ju;have Jf:l[k.toNat]?=some (l.getD k.toNat 0):=getD_some (by omega);have wc:=ux.sub _ (dB Jf);have aaA:l.getD k.toNat 0≠id:=λe=>cm (e▸wc);have aih:g3.map (·.1)=bb.g.map (·.1)++ [id]:=by rw[vM.ids];simp
  obtain⟨fs,uF⟩:=yU (g:=g3) (id:=l.getD k.toNat 0) (by rw[aih];exact iA _ wc);have X3:=lJ.aJ.node uF;obtain⟨Kq,Om,Z,a2,_,_,_⟩:=xQ X3 (lv:=j.toNat) (by omega);have Y9:Om.length<=1000000:=by have h1:=(kd.many _ _ _ _ uF a2).1;have:=(abu (lv:=((j.toNat:N):o)) vS).2;omega
  have avC:l.getD k.toNat 0∉l.take k.toNat:=λhm=>by
   obtain⟨i,hi,e⟩:=sE.1 hm;simp only[gq] at hi;have auE:i<l.length:=by omega
   have IG:k.toNat<l.length:=by omega
   have:=oF.1 ux.nodup i k.toNat auE IG (by omega);rw[DR,dm,cy IG] at e;exact this e
  have eZ:=MM _ fs j.toNat Om aaA uF a2 (.inr ⟨rfl,avC⟩);have Sq:id∈g3.map (·.1):=by rw[aih];simp
  refine⟨q,Dl,⟨jz,ju⟩,_,YB,_,a8 (pu.bS _ _ M7 YO) 0,?_⟩;refine amF lJ kd.ok vS uF Sq gF (by omega) a2 Y9 λyq ar6 lE Gh auO aws au3=>⟨⟨by omega,by omega⟩,⟨by omega,by omega,ar6,_,auO,pu.trans aws,vM.trans (Alike.jT uF _ _ _),?_,?_,?_⟩,by dsimp only;omega⟩;exact kd.akb lJ.aJ.nodup uF gF lE a2 au3 Sq (dG aaA) eZ;rw[L2,aG (dG aaA)];exact Sl;intro a n i zr h1 h2 h3 a7;rw[L2] at h2;by_cases e:a=l.getD k.toNat 0;rw[a1 e] at h2;rw[e,uF] at h2;cases h2;have bw:j.toNat<i:=by rcases a7 with a7|⟨_,a7⟩;exact a7;exfalso;apply a7;rw[e,show(k+1).toNat=k.toNat+1 by omega,gJ,Jf];simp
  rcases Px h3 with⟨bO,_⟩|⟨_,bO⟩;omega;exact MM _ fs i zr (by rw[<-e];exact h1) uF bO (.inl bw);rw[aG e] at h2;refine MM a n i zr h1 h2 h3 ?_;rcases a7 with a7|⟨a7,bO⟩;exact .inl a7;refine .inr ⟨a7,λhm=>bO ?_⟩;rw[show(k+1).toNat=k.toNat+1 by omega,gJ];exact iA _ hm;obtain⟨im,g3,lJ,pu,vM,kd,Sl,MM⟩:=RN;exact⟨⟨by omega,by omega⟩,⟨by omega,by omega,im,g3,lJ,pu,vM,kd,Sl,λa n i zr h1 h2 h3 a7=>MM a n i zr h1 h2 h3 (.inl (by omega))⟩,by dsimp only;omega⟩;obtain⟨aY,b2,tj,rK,R3,dJ,Sk,_⟩:=eH;have aaE:=rK.bS _ _ M7 YO;obtain⟨_,_,_,z3,z4⟩:=kU tj.aJ;have ahY:bb.entry∈b2.map (·.1):=by rw[R3.ids];simp only[er];exact iA _ uu
  have Sq:id∈b2.map (·.1):=bk.2 ⟨_,iG Sk,rfl⟩;have kf:fg b2=fg bb.g++ [(id,v)]:=by rw[R3.rows ou];exact awb
  have SV:gL jh H6 Y aY:=(lk.eX.trans ajp).trans rK;refine⟨_,a8 aaE 0,_,rfl,_,z3,_,a8 aaE 0,_,rfl,_,z4,vl tj.aJ ahY λn _ eP=>⟨_,rfl,n.top,?_,λ_=>⟨_,a8 aaE 0,_,rfl,UR tj.aJ (e:=id) ?_⟩,λ_=>?_⟩⟩;rw[iP,ki,Gv eP];exact Tu eP.uS;obtain⟨cq,cH⟩:=tj.Pw id;exact fin _ _ _ cq (SV.trans cH) ⟨dJ,vS,.inr Sq⟩ kf rfl rfl;exact fin _ _ _ tj SV ⟨dJ,vS,.inr ahY⟩ kf rfl rfl)
 obtain⟨ne,an⟩:=yU uu
 refine⟨_,a8 CH 0,_,rfl,_,d3,_,a8 CH 0,_,rfl,_,d4,vl mP.aJ uu λn ae eP=>⟨_,rfl,n.top,?_,?_⟩⟩
 rw[iP,ki,Gv eP];exact Tu eP.uS
 have:=sg.k.ok.top _ (iG ae)
 simp only at this
 exact start _ (by split<;>omega) (by split<;>omega)
end eE
structure TabAt(u:H)(n:N)(aq:o)(L:M az):Prop where
 ex:∃(s:U) (v:H),u n=some (.cells #[.int .i64 aq,.slice s.a s.n s.c] 84 (0,0))/\v.le u/\v n=none/\eF v s L
 B8:L.Pairwise λa b=>a.id<b.id
def TabAt.bS{u u':H}{n:N}{aq:o}{L:M az}(h:TabAt u n aq L)(hu:u.le u'):TabAt u' n aq L:=by obtain⟨s,v,h1,h2,h3,a7⟩:=h.ex;exact⟨⟨s,v,hu _ _ h1,h2.trans hu,h3,a7⟩,h.B8⟩
abbrev Ao:=o×M o
def eF.nil(u:H):eF u ⟨none,0,0⟩ []:=⟨⟨rfl,cC _,by decide,.inl rfl⟩,λ_ h=>by cases h⟩
def azd{P Q:M Ao}(ad:P.Pairwise λa b=>a.1<b.1)(aL:Q.Pairwise λa b=>a.1<b.1)(h:P.Perm Q):P=Q:=by
 induction P generalizing Q with
 |nil=>exact(kS (by have:=h.length_eq;simpa using this.symm)).symm|cons p P aM=>
  cases Q with
  |nil=>have:=h.length_eq;simp at this|cons q Q=>
   obtain⟨h1,h2⟩:=k9.1 ad;obtain⟨h3,a7⟩:=k9.1 aL;have e:p=q:=by have avV:p∈q::Q:=h.mem_iff.1 (.head _);have ZP:q∈p::P:=h.mem_iff.2 (.head _);rcases cP.1 avV with bO|bO;exact bO;rcases cP.1 ZP with e7|e7;exact e7.symm;have:=h3 p bO;have:=h1 q e7;omega
   subst e;rw[aM h2 a7 ((aco p).1 h)]
def TabAt.D0{u:H}{n:N}{aq:o}{L:M az}(h:TabAt u n aq L):(L.map az.bL).Pairwise λa b=>a.1<b.1:=wy.2 h.B8
def p6(L:M az):L.map (·.id)=(L.map az.bL).map (·.1):=by rw[eh];rfl
namespace eE
section
variable{u aj v B:H}{b cu bud ck n:N}{q S:M o}{s:U}{k:o}{g:M (o×du)}
def OQ(g:M (o×du)):(jA g).length=g.length:=by simp[jA]
def amz{af:N->aA bx}{T:aS}{K:o->H->Prop}(h:ec af u b T)(av:K T.g.length u):VB (some ⟨b,0,none⟩) u K:=by obtain⟨_,_,_,fc,_⟩:=kU h;apply aDH;refine⟨λe=>(by cases e),λ_=>⟨_,rfl,_,fc,vk wl h.map ?_⟩⟩;rw[OQ];exact av
def In.adF{af:N->aA bx}{T:aS}(h:In aj u af b T)(ag:∀g,s.al=some g->af g=none/\aj g=none/\u g≠none)(id:o):
  ∃aY,In aj u aY b T/\(∀g,s.al=some g->aY g=some (.vec id))/\(∀c,s.al≠some c->aY c=af c):=by
 let aY:N->aA bx:=λc=>open Classical in if s.al=some c then some (.vec id) else af c
 have aQ:∀c,s.al=some c->aY c=some (.vec id):=λc I=>a1 I
 have aF:∀c,s.al≠some c->aY c=af c:=λc I=>aG I
 have cW:∀c,af c≠none->aY c=af c:=λc I=>aF c λe=>I (ag c e).1
 refine⟨aY,⟨h.aJ.bS cW λ_ _ ab _=>ab,h.le,λc I=>?_,λc I=>?_⟩,aQ,aF⟩
 by_cases e:s.al=some c
 exact(ag c e).2.1
 rw[aF c e] at I;exact h.out c I
 by_cases e:s.al=some c
 exact(ag c e).2.2
 rw[aF c e] at I;exact h.known c I
structure tT(aj u:H)(af:N->aA bx)(b:N)(T:aS)(id:o)(v:M o)(u':H)(aY:N->aA bx)(bB:aS):Prop where
 is:In aj u' aY b bB
 eX:gL u af u' aY
 ok:dU bB
 rows:(fg bB.g).Perm ((id,v)::(fg T.g).filter λx=>x.1 !=id)
 aq:bB.aq=T.aq
 b9:bB.b9=T.b9
def tI(g:M (o×du)):(fg g).map (·.1)=g.map (·.1):=by unfold fg;rw[eh];rfl
def amA{af:N->aA bx}{T:aS}{id:o}{t:U}{K:aD->o->H->Prop}(h:In aj u af b T)(aT:dU T)(hK:kG aj)(ht:Ints u t q)(fq:∀g,t.al=some g->af g=none)
  (dq:fR id q T.aq (decide (id∈T.g.map (·.1))) T.g.length≠0->K ax (fR id q T.aq (decide (id∈T.g.map (·.1))) T.g.length) u)
  (bH:fR id q T.aq (decide (id∈T.g.map (·.1))) T.g.length=0->∀u' aY bB,tT aj u af b T id q u' aY bB->K (decide (id∉T.g.map (·.1))) 0 u'):KX (some ⟨b,0,none⟩) id t u K:=by
 obtain⟨bM,_,_,fc,_⟩:=kU h.aJ
 apply an7
 refine⟨λe=>(by cases e),λ_=>⟨_,rfl,_,fc,?_⟩⟩
 refine tM wl h.aJ.map (ct:=.ptr) ((eS T.g id).map λn=>(⟨n.p,0,none⟩:bc)) (by rw[CX];cases eS T.g id<;>rfl) ?_
 have iU:(fD (jA T.g) id).isSome=decide (id∈T.g.map (·.1)):=by
  rw[CX,Uc];cases e:eS T.g id with
  |none=>rw[o0 (AJ.1 e)];rfl|some n=>rw[l4 (bk.2 ⟨_,iG e,rfl⟩)];rfl
 rw[iU]
 refine⟨_,rfl,_,rfl,_,bM,_,fc,vk wl h.aJ.map ⟨H.le.refl u,Kx ht ?_⟩⟩
 rw[OQ]
 refine⟨λan=>dq an,λhe=>?_⟩
 have bH:=bH he
 have kv:¬(id<1∨1000000000<id)/\hv q T.aq=0/\¬(decide (id∈T.g.map (·.1))=ax/\512<=(T.g.length:o)):=by unfold fR at he;by_cases h1:id<1∨1000000000<id;rw[a1 h1] at he;cases he;rw[aG h1] at he;by_cases h2:hv q T.aq≠0;rw[a1 h2] at he;exact aV he h2;rw[aG h2] at he;by_cases h3:decide (id∈T.g.map (·.1))=ax/\512<=(T.g.length:o);rw[a1 h3] at he;cases he;exact⟨h1,by simpa using h2,h3⟩
 obtain⟨d1,d2,d3,d4⟩:=oL kv.2.1
 have lay:∀(aU:H) (c4:N->aA bx) (bb:aS),In aj aU c4 b bb->gL u af aU c4->dU bb->fg bb.g=(fg T.g).filter (λx=>x.1 !=id)->bb.aq=T.aq->bb.b9=T.b9->
   o8 t aU λdx hb=>H.le aU hb/\Hv (some ⟨b,0,none⟩) id dx hb λwO=>K (!decide (decide (id∈T.g.map (·.1))=ak)) 0 wO:=by
  intro aU c4 bb h1 nJ te vZ pY gC
  have rB:Ints aU t q:=bz.else ht λg z W ab=>nJ.bS g z ab (fq g W)
  refine sN rB (by have:=rB.len;omega) λdx hb fY _=>⟨fY.le,?_⟩
  have xj:=h1.mono fY.le
  obtain⟨im,h2,xK,kd⟩:=xj.adF (s:=dx) (λg W=>⟨h1.fresh (fY.fresh g W),h1.le.none (fY.fresh g W),uZ fY W⟩) id
  have A7:id∉bb.g.map (·.1):=λhm=>by rw[<-tI,vZ] at hm;obtain⟨x,J,e⟩:=bk.1 hm;have:=(iX.1 J).2;simp[e] at this
  have hlen:bb.g.length<=512:=by
   have aQ:bb.g.length=((fg T.g).filter λx=>x.1 !=id).length:=by rw[<-vZ];simp[fg]
   by_cases cb:id∈T.g.map (·.1);have:((fg T.g).filter λx=>x.1 !=id).length<(fg T.g).length:=by rw[Kg];rw[<-tI] at cb;obtain⟨x,J,e⟩:=bk.1 cb;exact⟨x,J,by simp[e]⟩
   have bO:(fg T.g).length=T.g.length:=by simp[fg]
   have:=aT.k.ok.small;omega;have a7:¬512<=(T.g.length:o):=λbO=>kv.2.2 ⟨o0 cb,bO⟩;have bO:(fg T.g).length=T.g.length:=by simp[fg]
   have:=yf (λx:o×M o=>x.1 !=id) (fg T.g);omega
  refine adb h2 te hK A7 (by omega) fY.ints xK ⟨by rw[pY];exact d3,d4⟩ hlen λwO pg Ez h3 nK Yd Be Iw A0=>?_
  have aa:(!decide (decide (id∈T.g.map (·.1))=ak))=decide (id∉T.g.map (·.1)):=by by_cases cb:id∈T.g.map (·.1)<;>simp[cb]
  rw[aa]
  refine bH wO pg Ez ⟨h3,?_,Yd,?_,Iw.trans pY,A0.trans gC⟩
  have gone:∀c,aU c=none->af c≠none∨u c=none:=λc I=>by
    cases e:af c with
    |some x=>exact .inl (by simp)|none=>
     cases aF:u c with
     |none=>exact .inr rfl|some z=>rw[nJ.bS c z aF e] at I;cases I
  refine⟨λc z I ac=>?_,λc I=>?_⟩
  have bO:=nJ.bS c z I ac
  have e:dx.al≠some c:=λe=>by have:=fY.fresh c e;rw[bO] at this;cases this
  exact nK.bS c z (fY.le c z bO) (by rw[kd c e];exact nJ.none I ac)
  rcases nK.grow c I with bO|bO
  by_cases e:dx.al=some c
  exact gone c (fY.fresh c e)
  rw[kd c e] at bO;exact nJ.grow c bO
  exact gone c (fY.le.none bO)
  rw[Be,vZ]
  exact nc _ _
 refine UH h aT (λeg aU hj=>?_) λn ae aU c4 bb jc=>?_
 refine lay aU af T (h.mono hj) (gL.mono hj) aT ?_ rfl rfl
 refine(r6.2 λx J=>?_).symm
 have:x.1≠id:=λe=>AJ.1 eg (by rw[<-tI];exact bk.2 ⟨x,J,e⟩)
 simpa using this
 exact lay aU c4 bb jc.is jc.eX jc.ok jc.rows jc.aq jc.b9
def amC{af:N->aA bx}{T:aS}{K:U->H->Prop}(h:In aj u af b T)(aT:dU T)
  (av:∀s ls u',sb u u' s ls->(ls.map az.bL).Perm (fg T.g)->(ls.Pairwise λa b=>a.id<=b.id)->K s u'):VC (some ⟨b,0,none⟩) u K:=by
 obtain⟨_,_,_,fc,_⟩:=kU h.aJ
 have b3:=h.aJ.nodup
 have gf:=aT.k.ok.small
 apply aDI
 refine⟨λe=>(by cases e),λ_=>⟨_,rfl,_,fc,Kt wl h.aJ.map λr z O xt=>?_⟩⟩
 have hle:=bZ (u:=u) (b:=r) z O
 refine⟨λoH w=>u.le w/\∃(dl:M (o×ao)) (D:M az),aK u w 52 2 oH (D.flatMap cO)/\nq w r T.m (jA T.g) dl/\oH.al≠some r/\
   (∀x∈D,(x.id,x.v)∈fg T.g/\Ints u x.s x.v)/\D.map (·.id)=dl.map (·.1),λoH _=>T.g.length-oH.n,
  ⟨hle,[],[],aK.nil hle _ _,xt,by simp[U.al],λx J=>(by cases J),rfl⟩,?_⟩
 rintro oH w ⟨hw,dl,D,ab,iK,Yw,eT,kv⟩
 have ag4:oH.n=D.length:=gU fM (by decide) ab.own.cI
 have RP:D.length=dl.length:=by have:=eB iC kv;simpa using this
 refine JC iK (λib=>?_) λp hW ad A8 p3=>H2 p3 ?_
 have vL:eF w oH D:=⟨ab.own.cI,λx J=>(eT x J).2.mono hw⟩
 have YY:(D.map (·.id)).Perm (T.g.map (·.1)):=by rw[kv,<-TD];exact ib.map _
 have mj:∀x∈D,∃n,(x.id,n)∈T.g/\n.v=x.v:=λx J=>by obtain⟨y,ai,e⟩:=bk.1 (eT x J).1;simp only[GP] at e;exact⟨y.2,by rw[<-e.1];exact ai,e.2⟩
 refine z8 vL (λx J=>?_) (by have:=YY.length_eq;simp at this;omega) (λx J=>?_) λha ls hQ b4 mU qO=>av ha ls hQ ?_ ?_ qO
 obtain⟨n,ae,_⟩:=mj x J
 exact aT.k.ok.ids (x.id,n) ae
 obtain⟨n,ae,aB⟩:=mj x J
 have h1:=(aT.k.ok.vec (x.id,n) ae).1
 have h2:=aT.k.ok.hB
 simp only at h1
 rw[aB] at h1
 omega
 exact⟨b4.own.weaken hw,λx J=>(b4.inner x J).weaken hw,b4.eG,b4.apart⟩
 refine mU.trans ?_
 have ou:((fg T.g).map (·.1)).Nodup:=by rw[tI];exact b3
 have avw:((D.map az.bL).map (·.1)).Nodup:=by rw[<-p6];exact YY.nodup_iff.2 b3
 have ayu:(fg T.g).Nodup:=(wy.1 ou).imp λh e=>h (by rw[e])
 have ayv:(D.map az.bL).Nodup:=(wy.1 avw).imp λh e=>h (by rw[e])
 refine(T9 ayv ayu).2 λp=>⟨λad=>?_,λad=>?_⟩
 obtain⟨x,J,rfl⟩:=bk.1 ad
 exact(eT x J).1
 have:p.1∈D.map (·.id):=YY.mem_iff.2 (by rw[<-tI];exact bk.2 ⟨p,ad,rfl⟩)
 obtain⟨x,J,e⟩:=bk.1 this
 have h1:=(eT x J).1
 have aF:(x.id,x.v)=p:=by
  obtain⟨i,hi,s7⟩:=sE.1 h1;obtain⟨j,aN,rp⟩:=sE.1 ad;have key:∀{i j:N} (hi:i<(fg T.g).length) (aN:j<(fg T.g).length),i<j->((fg T.g)[i]).1≠((fg T.g)[j]).1:=λhi aN gV=>by have:=oF.1 ou _ _ (by simpa using hi) (by simpa using aN) gV;simpa using this
  rcases TI i j with gV|gV|gV;exact aV (by rw[s7,rp];exact e) (key hi aN gV);subst gV;rw[s7] at rp;exact rp;exact aV (by rw[s7,rp];exact e.symm) (key aN hi gV)
 exact bk.2 ⟨x,J,aF⟩
 obtain⟨x,J,rfl⟩:=bk.1 ad
 have eP:=h.aJ.nodes x J
 show ∃azB:bc,some (cw x.2.p 0 none)=some azB/\_
 have k7:w r≠none:=by obtain⟨_,_,_,_,_,h3,_⟩:=iK;rw[h3];simp
 have F4:u r=none:=O
 have Jd:u.le (w.ins r hW):=λc y I=>by rw[bq _ _ (λe=>by rw[e,F4] at I;cases I)];exact hw c y I
 have atV:(w.ins r hW).cell? ⟨x.2.p,0,none⟩=some (.slice x.2.sv.a x.2.sv.n x.2.sv.c):=by refine qE Jd ?_;rw[Gv eP];exact ayH _
 have dP:aK u (w.ins r hW) 52 2 oH (D.flatMap cO):=⟨ab.own.le λc y I ai=>by rw[bq _ _ (λe=>Yw (by rw[I,e]))];exact ai,Jd,ab.fresh⟩
 have y7:=aaP p3
 rw[OQ] at y7
 simp only[eD,r4] at y7
 refine⟨_,rfl,_,atV,?_⟩
 refine nV kk (xa x.1 x.2.sv) (by decide) rfl (by simp[cK]) dP (by omega) (by omega) λlN mB FL avq ahR atN _=>⟨⟨FL.le,dl++ [(x.1,.pointer (some ⟨x.2.p,0,none⟩))],D++ [⟨x.1,x.2.sv,x.2.v⟩],?_,?_,?_,?_,?_⟩,by dsimp only;omega⟩
 rw[gZ]
 have:([⟨x.1,x.2.sv,x.2.v⟩]:M az).flatMap cO=[.int .i64 x.1,.slice x.2.sv.a x.2.sv.n x.2.sv.c]:=by simp[cO]
 rw[this];exact FL
 refine p3.else (λy ai=>ahR _ _ ai λe=>?_) λy ai=>ahR _ _ ai Yw
 have:=dP.fresh _ e
 exact(h.known T.m (by rw[h.aJ.dr];simp)) this
 intro e
 rcases atN r e with bO|bO
 exact Yw bO
 rw[bi] at bO;cases bO
 intro y ai
 rcases cM.1 ai with ai|ai
 exact eT y ai
 simp at ai
 subst ai
 exact⟨bk.2 ⟨x,J,rfl⟩,eP.vec⟩
 simp[kv]
structure Ej(u u':H)(l:M az)(aq b9:o)(b:N)(af:N->aA bx)(T:aS):Prop where
 is:In u u' af b T
 ok:dU T
 rows:(fg T.g).Perm (l.map az.bL)
 aq:T.aq=aq
 b9:T.b9=b9
def w9(l:M az)(aq b9:o):o:=if o2 l aq≠0 then o2 l aq else if b9<1∨16<b9 then 1 else 0
def amy{l:M az}{aq b9 e3:o}{K:aA bc->o->H->Prop}(ag:eF u s l)(hK:kG u)(NM:cz e3)
  (dq:w9 l aq b9≠0->K none (w9 l aq b9) u) (bH:w9 l aq b9=0->∀b af T u',Ej u u' l aq b9 b af T->K (some ⟨b,0,none⟩) 0 u'):Ql s aq b9 e3 u K:=by
 have bad:∀Y,w9 l aq b9=Y->Y≠0->K none Y u:=λY e aC=>by subst e;exact dq aC
 apply aDE
 refine Kw ag ⟨λan=>bad _ (a1 an) an,λhe=>?_⟩
 intro o9 ph
 refine⟨λh1=>bad 1 (by unfold w9;rw[aG (by simpa using he),a1 (.inl h1)]) (by decide),λh1=>⟨λh2=>bad 1 (by unfold w9;rw[aG (by simpa using he),a1 (.inr h2)]) (by decide),λh2=>ph _ _ _ ?_⟩⟩
 have bH:=bH (by unfold w9;rw[aG (by simpa using he),aG (by omega)])
 have b4:=B0.1 he
 have hlen:=b4.len
 apply adV
 intro sz SF
 have Gj:=bZ (u:=u) (b:=sz) (.cells #[.int .u64 e3] 215 (0,0)) SF
 refine D4 λm qa hm iL=>?_
 intro pA IT
 have Zh:m≠sz:=λe=>by rw[e,bi] at hm;cases hm
 have NX:pA≠m:=λe=>by rw[e,bi] at IT;cases IT
 have SG:(u.ins sz (.cells #[.int .u64 e3] 215 (0,0))) pA=none:=by rw[bq _ _ NX] at IT;exact IT
 have aad:pA≠sz:=λe=>by rw[e,bi] at SG;cases SG
 have avD:u pA=none:=by rw[bq _ _ aad] at SG;exact SG
 have A3:u m=none:=by rw[bq _ _ Zh] at hm;exact hm
 obtain⟨n5,j9⟩:∃n5:aS,n5=⟨aq,b9,sz,m,e3,[],0⟩:=⟨_,rfl⟩
 let pU:N->aA bx:=λc=>if c=pA then some .tree else if c=sz then some .src else if c=m then some .map else none
 have f1:pU pA=some .tree:=a1 rfl
 have f2:pU sz=some .src:=(aG (dG aad)).trans (a1 rfl)
 have f3:pU m=some .map:=(aG (dG NX)).trans ((aG Zh).trans (a1 rfl))
 have f4:∀c,pU c≠none->c=pA∨c=sz∨c=m:=λc I=>by simp only[pU] at I;by_cases aQ:c=pA;exact .inl aQ;rw[aG aQ] at I;by_cases aF:c=sz;exact .inr (.inl aF);rw[aG aF] at I;by_cases cW:c=m;exact .inr (.inr cW);rw[aG cW] at I;exact aV rfl I
 have fP:(fx n5).toArray=#[.int .i64 aq,.int .i64 b9,.pointer (some ⟨sz,0,none⟩),.map (some m),.int .i64 0]:=by rw[j9];rfl
 rw[<-fP]
 obtain⟨w,hw⟩:∃w,((u.ins sz (.cells #[.int .u64 e3] 215 (0,0))).ins m qa).ins pA (.cells (fx n5).toArray 184 (0,0))=w:=⟨_,rfl⟩
 have Y7:u.le w:=by rw[<-hw];exact(Gj.trans (bZ _ hm)).trans (bZ _ IT)
 have gk:w pA=some (.cells (fx n5).toArray 184 (0,0)):=by rw[<-hw,bi]
 have ew:w sz=some (.cells #[.int .u64 e3] 215 (0,0)):=by rw[<-hw,bq _ _ (dG aad),bq _ _ (dG Zh),bi]
 have h7:fz w m []:=iL.else λz ab=>by rw[<-hw,bq _ _ (dG NX)];exact ab
 have ag7:In u w pU pA n5:=by refine⟨⟨gk,by rw[j9];exact ew,by rw[j9];exact NM,by rw[j9];exact h7,f1,by rw[j9];exact f2,by rw[j9];exact f3,λx J=>by rw[j9] at J;cases J⟩,Y7,λc I=>?_,λc I=>?_⟩;rcases f4 c I with rfl|rfl|rfl;exact avD;exact SF;exact A3;rcases f4 c I with rfl|rfl|rfl;rw[gk];simp;rw[ew];simp;obtain⟨_,_,h3,_⟩:=h7;rw[h3];simp
 have atg:dU n5:=by rw[j9];exact⟨⟨⟨b4.aq,λx J=>(by cases J),λx J=>(by cases J),λx J=>(by cases J),λx J=>(by cases J),by simp⟩,λi n lv l ae=>(by cases ae)⟩,⟨by show 1<=b9;omega,by show b9<=16;omega⟩,.inl ⟨rfl,rfl⟩⟩
 have EO:n5.aq=aq:=by rw[j9]
 have el:n5.b9=b9:=by rw[j9]
 have mf:n5.g=[]:=by rw[j9]
 rw[hw]
 clear hw iL fP j9 gk ew h7
 refine z8 (ag.mono Y7) (λr O=>b4.id r O) (by omega) (λr O=>by have:=(b4.v r O).1;have:=b4.aq;omega) λqh ls gK C2 mU qO=>?_
 have avc:ls.length=l.length:=by have:=mU.length_eq;simpa using this
 have Sx:(ls.map (·.id)).Nodup:=by have h1:=b4.nodup;rw[p6] at h1 ⊢;exact(mU.map (·.1)).nodup_iff.2 h1
 have oq:∀r∈ls,(1<=r.id/\r.id<=1000000000)/\(r.v.length:o)=aq/\c8 r.v:=λr O=>by have:r.bL∈l.map az.bL:=mU.mem_iff.1 (bk.2 ⟨r,O,rfl⟩);obtain⟨de,dz,e⟩:=bk.1 this;have h1:de.id=r.id:=eB sI e;have h2:de.v=r.v:=eB tH e;rw[<-h1,<-h2];exact⟨b4.id de dz,b4.v de dz⟩
 have asS:=ag7.mono C2.own.le
 have dM:qh.n=ls.length:=C2.rws.len
 refine⟨λi Y=>0<=i/\i<=ls.length/\∃af T,In u Y af pA T/\dU T/\T.aq=aq/\T.b9=b9/\fg T.g=(ls.take i.toNat).map az.bL/\(∀c z,gK c=some z->qh.al=some c∨(∃r∈ls.drop i.toNat,r.s.al=some c)->Y c=some z/\af c=none),
  λi _=>ls.length-i.toNat,⟨by omega,by omega,pU,n5,asS,atg,EO,el,by rw[mf];simp[fg],λc z I hm=>⟨I,?_⟩⟩,?_⟩
 have y5:w c=none:=by rcases hm with hm|⟨r,O,hm⟩;exact C2.own.fresh c hm;exact(C2.inner r (sG O)).fresh c hm
 exact ag7.fresh y5
 rintro i Y ⟨i0,i1,af,T,RR,sg,ar,ap,kf,jl⟩
 refine⟨λeU=>?_,λFu=>?_⟩
 have hi:i.toNat<ls.length:=by omega
 have aHP:eF Y qh (ls.take 0)∨True:=.inr trivial
 have uK:bz Y qh 2 (ls.flatMap cO):=bz.else C2.own.own.cI λg z W ab=>(jl g z ab (.inl W)).1
 obtain⟨r,O⟩:∃r,ls[i.toNat]?=some r:=⟨_,cy hi⟩
 obtain⟨p,ad,I⟩:=bz.elem fM (by decide) uK O
 have C7:ls.drop i.toNat=r::ls.drop (i.toNat+1):=by rw[tF hi];rw[cy hi] at O;rw[cX O]
 have fp:r∈ls:=dB O
 have uH:aK w gK 3 1 r.s (r.v.flatMap encI):=C2.inner r fp
 have nI:∀g,r.s.al=some g->∀z,gK g=some z->Y g=some z/\af g=none:=λg W z ab=>jl g z ab (.inr ⟨r,by rw[C7];exact .head _,W⟩)
 obtain⟨im,asT,xK,kd⟩:=RR.adF (s:=r.s) (λg W=>by obtain⟨z,ab⟩:=fj.1 (uZ uH W);obtain⟨bO,e7⟩:=nI g W z ab;exact⟨e7,Y7.none (uH.fresh g W),by rw[bO];simp⟩) r.id
 have A7:r.id∉T.g.map (·.1):=λhm=>by rw[<-tI,kf,<-p6] at hm;obtain⟨de,dz,e⟩:=bk.1 hm;obtain⟨j,aN,rfl⟩:=sE.1 dz;simp only[gq] at aN;rw[DR] at e;have:=oF.1 Sx j i.toNat (by simp;omega) (by simp;omega) (by omega);simp only[DW] at this;rw[cy hi] at O;rw[cX O] at this;exact this e
 have aty:T.g.length<=512:=by have:=eB iC kf;simp[fg] at this;omega
 have pj:=I 0 _ rfl
 have h9:=I 1 _ rfl
 rw[Addr.add_zero'] at pj
 refine⟨p,ad,⟨i0,eU⟩,_,pj,_,h9,adb asT sg hK A7 (oq r fp).1 (bz.else uH.ints λg z W ab=>(nI g W z ab).1) xK (by rw[ar];exact(oq r fp).2) aty λz2 pg Ez h3 nK ath Be Iw A0=>⟨⟨by omega,by omega⟩,⟨by omega,by omega,pg,Ez,h3,ath,Iw.trans ar,A0.trans ap,?_,λc z atX hm=>?_⟩,by dsimp only;omega⟩⟩
 rw[Be,kf,show(i+1).toNat=i.toNat+1 by omega,gJ,O]
 simp[az.bL]
 have an:r.s.al≠some c:=by rcases hm with hm|⟨de,dz,hm⟩;exact C2.eG r fp c hm;rw[show(i+1).toNat=i.toNat+1 by omega] at dz;have ai9:=C2.apart;rw[<-q2 i.toNat ls,C7] at ai9;have h2:=(k9.1 (J4.1 ai9).2.1).1 de dz;exact λe=>h2 c e hm
 have oQ:qh.al=some c∨∃r∈ls.drop i.toNat,r.s.al=some c:=by rcases hm with hm|⟨de,dz,hm⟩;exact .inl hm;rw[show(i+1).toNat=i.toNat+1 by omega] at dz;exact .inr ⟨de,by rw[C7];exact .tail _ dz,hm⟩
 obtain⟨bO,e7⟩:=jl c z atX oQ
 have mP:im c=none:=by rw[kd c an];exact e7
 exact⟨nK.bS c z bO mP,nK.none bO mP⟩
 have hi:i.toNat=ls.length:=by have:¬i<(qh.n:o):=Fu;omega
 rw[hi,oE] at kf
 exact bH pA af T Y ⟨RR,sg,by rw[kf];exact mU,ar,ap⟩
def nY(bud:N)(s:M o×M o)(id:o):M o×M o:=
 if id∈s.1 then s else if s.1.length=bud then(s.1,s.2++ [id]) else(s.1++ [id],s.2)
structure tX(bud:N)(EB P S R:M o):Prop where
 nodup:S.Nodup
 sub:R.Sublist P
 all:∀x,(x∈S∨x∈R)↔(x∈EB∨x∈P)
 Xb:∀x∈R,x∉S
 len:S.length<=bud
 full:R≠[]->S.length=bud
def tX.step{EB P R:M o}(h:tX bud EB P S R)(id:o):tX bud EB (P++ [id]) (nY bud (S,R) id).1 (nY bud (S,R) id).2:=by
 unfold nY;by_cases h1:id∈S;rw[a1 h1];refine⟨h.nodup,h.sub.trans (acx _ _),λx=>?_,h.Xb,h.len,h.full⟩;rw[h.all x,cM,gp];constructor;rintro(h2|h2);exact .inl h2;exact .inr (.inl h2);rintro(h2|h2|rfl);exact .inl h2;exact .inr h2;exact(h.all x).1 (.inl h1);rw[aG h1];by_cases h2:S.length=bud;simp only[h2,qX];refine⟨h.nodup,h.sub.append (acy _),λx=>?_,λx J=>?_,h.len,λ_=>h2⟩;rw[cM,cM,<-or_assoc,h.all x,or_assoc];rcases cM.1 J with J|J;exact h.Xb x J;simp at J;rw[J];exact h1;simp only[h2,BL];have b4:R=[]:=by by_cases e:R=[];exact e;exact aV (h.full e) h2
 refine⟨?_,h.sub.trans (acx _ _),λx=>?_,λx J=>(by rw[b4] at J;cases J),?_,λan=>aV b4 an⟩;refine fZ.2 ⟨h.nodup,by simp,λa ay c I=>?_⟩;simp at I;subst I;exact λe=>h1 (e▸ay);rw[cM,cM,or_right_comm,h.all x,or_assoc];have:=h.len;simp;omega
def tX.fold{EB:M o}:∀(l P S R:M o),tX bud EB P S R->tX bud EB (P++l) (l.foldl (nY bud) (S,R)).1 (l.foldl (nY bud) (S,R)).2:=by
 intro l;induction l with
 |nil=>intro P S R h;simpa using h
 |cons x l aM=>intro P S R h;have:=aM (P++ [x]) _ _ (h.step x);rw[mq,List.singleton_append] at this;exact this
def tX.start{bD:M o}(hq:bD.Nodup):tX bud (bD.take bud) [] (bD.take bud) []:=
 ⟨hq.sublist (r3 _ _),acy _,λx=>(by simp),λx J=>(by cases J),(by rw[gq];omega),λh=>aV rfl h⟩
def oe(g:M (o×du))(q:M o)(entry:o):M o:=if entry=0 then[] else lG g q 0 (vn g q entry 0)
def pJ(g:M (o×du))(q:M o)(entry:o)(bud:N):M o×M o:=(dS (g.map (·.1))).foldl (nY bud) ((oe g q entry).take bud,[])
def Xr{T:aS}(aT:dU T)(q:M o):(oe T.g q T.entry).Nodup/\∀x∈oe T.g q T.entry,x∈T.g.map (·.1):=by
 unfold oe;split;exact⟨Kh,λx J=>by cases J⟩;rename_i he;have uu:T.entry∈T.g.map (·.1):=by rcases aT.entry with⟨_,h2⟩|h2;exact aV h2 he;exact h2
 have Mk:=Met.one (cU T.g q) (ids:=T.g.map (·.1)) (uz T.g q) (ady aT.k.ok (q:=q) uu 0);exact⟨(agk (cU T.g q) (l1 T.g 0) (uz T.g q) (aT.k.ok.ck _) _ _ _ Mk).1,agj (cU T.g q) (l1 T.g 0) (uz T.g q) (aT.k.ok.ck _) _ _ _ Mk⟩
def anc{T:aS}(aT:dU T)(b3:(T.g.map (·.1)).Nodup)(q:M o)(bud:N):
  ((pJ T.g q T.entry bud).1++(pJ T.g q T.entry bud).2).Perm (T.g.map (·.1))/\(pJ T.g q T.entry bud).1.length<=bud/\((pJ T.g q T.entry bud).2≠[]->(pJ T.g q T.entry bud).1.length=bud)/\CB (pJ T.g q T.entry bud).2:=by
 obtain⟨h1,h2⟩:=Xr aT q
 have h:=tX.fold (dS (T.g.map (·.1))) [] _ _ (tX.start (bud:=bud) h1)
 rw[nQ] at h
 have c6:∀x,x∈dS (T.g.map (·.1))↔x∈T.g.map (·.1):=λx=>(nW _).mem_iff
 have as9:=D7 b3
 have RZ:CB (pJ T.g q T.entry bud).2:=as9.sublist h.sub
 have ato:(pJ T.g q T.entry bud).2.Nodup:=RZ.imp λh=>by omega
 refine⟨(T9 (fZ.2 ⟨h.nodup,ato,λa ay c I e=>h.Xb c I (e▸ay)⟩) b3).2 λx=>?_,h.len,h.full,RZ⟩
 rw[cM]
 refine(h.all x).trans ?_
 rw[c6]
 exact⟨λh3=>h3.elim (λa7=>h2 x (mx a7)) λa7=>a7,.inr⟩
def sX(B:H)(cu ck:N)(k:o)(g:M (o×du))(q:M o)(S:M o)(v:H):Prop:=
 ∃z,fz (B.ins cu z) cu (S.map λx=>(x,hl ak))/\iZ (B.ins cu z) ck k v (S.map (cU g q))
def sX.le(h:sX B cu ck k g q S v)(iw:B cu=none):B.le v:=by obtain⟨z,_,ht⟩:=h;exact(bZ _ iw).trans ht.le
def sX.map(h:sX B cu ck k g q S v):fz v cu (S.map λx=>(x,hl ak)):=by obtain⟨z,hm,ht⟩:=h;exact hm.mono ht.le
def apP:hf aH 297=ak:=by kernel_rfl
def XF(S:M o)(x:o):fD (S.map λx=>(x,hl ak)) x=if x∈S then some (.bool ak) else none:=by
 induction S with
 |nil=>rfl|cons y S aM=>
  unfold fD at*;rw[gR,G0];by_cases e:y=x;subst e;simp;rw[Pb e];rw[aM];have:(x∈y::S)↔x∈S:=by simp[dG e]
  simp only[this]
def ane{n0 n9 n13:N}{bud:o}{x:o}{K:aD->H->Prop}(iw:B cu=none)(cq:1<=k)(cH:k<=64)(fA:0<=bud)
  (h0:B n0=some (.cells #[.int .i64 bud] 3 (0,0))) (lV:B n9=some (.cells #[.pointer (some ⟨ck,0,none⟩)] 90 (0,0))) (L6:B n13=some (.cells #[.map (some cu)] 166 (0,0))) (aN:sX B cu ck k g q S v)
  (xr:S.length=bud.toNat->K ax v) (hold:S.length≠bud.toNat->x∈S->K ak v) (oR:S.length≠bud.toNat->x∉S->∀b6,sX B cu ck k g q (S++ [x]) b6->K ak b6):
  sS aH (.func (.func 297) #[] #[.pointer (some ⟨n13,0,none⟩),.pointer (some ⟨n0,0,none⟩),.pointer (some ⟨n9,0,none⟩)]) #[MT (cU g q x)] [.one .bool] v K:=by
 have E0:=aN.le iw
 refine .inl ⟨_,_,_,rfl,hd apP,?_⟩
 refine aDK (cU g q x).1 (cZ (cU g q x).2) (c5 (cU g q x).2) ⟨n13,0,none⟩ ⟨n0,0,none⟩ ⟨n9,0,none⟩ v K ?_
 refine⟨_,a8 (E0 _ _ L6) 0,vk Lo aN.map ?_⟩
 have hlen:(S.map λx=>(x,hl ak)).length=S.length:=by simp
 rw[hlen]
 refine⟨bud,a8 (E0 _ _ h0) 0,λhe=>xr (by omega),λhe=>⟨_,a8 (E0 _ _ L6) 0,?_⟩⟩
 have an:S.length≠bud.toNat:=by omega
 refine Ps Lo aN.map (ct:=.bool) (decide (x∈S)) ?_ ⟨λaa=>?_,λaa=>hold an (by simpa using aa)⟩
 show(fD _ x).getD _=_
 rw[XF]
 by_cases e:x∈S<;>simp[e,aE.enc]
 have J:x∉S:=by simpa using aa
 refine⟨_,a8 (E0 _ _ L6) 0,B3 Lo aN.map (x:=x) (by rw[XF,aG J]) λb7 oQ=>?_⟩
 obtain⟨z,hm,ht⟩:=aN
 have O:=ht.Uk b7
 have RN:B.le (v.ins cu b7):=(bZ _ iw).trans O.le
 refine⟨_,a8 (RN _ _ lV) 0,PL (x:=cU g q x) O cq cH λdp w hw=>oR an J w ⟨b7,?_,?_⟩⟩
 obtain⟨es,Lu,h1,h2⟩:=oQ
 rw[bi] at h1
 refine⟨es,Lu,by rw[bi];exact h1,?_⟩
 rw[er]
 exact h2
 rw[er]
 exact hw.perm (nc _ _).symm
def _root_.Go.Proofs.YtejdhbfjjgcljaaGreatDoor.aK.H7{v0 ji b6:H}{e k:N}{xs:M ao}(h:aK v0 v e k s xs)(ac:yw v0 v ji b6):aK ji b6 e k s xs:=by have aa:∀g,s.al=some g->∃z,v g=some z:=λg W=>fj.1 (uZ h W);refine⟨h.own.le λb z eA hu=>(ac.out b z (h.fresh b eA) hu).2,ac.le,λg W=>?_⟩;obtain⟨z,ab⟩:=aa g W;exact(ac.out g z (h.fresh g W) ab).1
def EC(j4:U)(R:M o):cn:=⟨1,⟨none,0,0⟩,⟨none,0,0⟩,0,j4,[],[],R⟩
def Pj(j4:U)(R:M o):M cn:=if R=[] then[] else[EC j4 R]
def afu(s:U):kH aH 39 1 #[(0,.agg #[.int .i64 1,.slice none 0 0,.slice none 0 0,.int .u64 0,.int .u64 0,.slice s.a s.n s.c])]=
  some (102,[.int .i64 1,.slice none 0 0,.slice none 0 0,.int .u64 0,.int .u64 0,.slice s.a s.n s.c]):=by kernel_rfl
def afG{Y:H}{a c d:U}(h:Y n=some (.cells #[.slice a.a a.n a.c,.slice c.a c.n c.c,.slice d.a d.n d.c] 41 (0,0))):
  Y.cell? ⟨n,0,none⟩=some (.slice a.a a.n a.c)/\Y.cell? ((cw n 0 none).add 1)=some (.slice c.a c.n c.c)/\Y.cell? ((cw n 0 none).add 2)=some (.slice d.a d.n d.c):=by
 refine⟨a8 h 0,?_,?_⟩
 rw[iP,ki];exact a8 h 1
 rw[iP,ki];exact a8 h 2
def _root_.Go.Proofs.YtejdhbfjjgcljaaGreatDoor.aK.skip{Y fC:H}{e k:N}{xs:M ao}(h:aK aj Y e k s xs)(hk:∀c z,Y c=some z->c≠n->fC c=some z)(ag:s.al≠some n)(h0:aj n=none):aK aj fC e k s xs:=
 ⟨h.own.le λc z I ab=>hk c z ab λe=>ag (by rw[I,e]),λc z I=>hk c z (h.le c z I) λe=>(by rw[e,h0] at I;cases I),h.fresh⟩
def aB1{x y Y a c d:ao}{T:dF}{f:H->Prop}(ae:u n=some (.cells #[x,y,Y] T (0,0)))(h1:∀v∈[a,c,d],v.oneCell'=ak)(ac:f (u.ins n (.cells #[a,c,d] T (0,0)))):H.aO u ⟨n,0,none⟩ [a,c,d] f:=by
 refine⟨_,_,ae,rfl,by simp,h1,?_⟩;have:wr #[x,y,Y] 0 [a,c,d]=#[a,c,d]:=by simp[wr]
 simp only[this];exact ac
def UG{xU:N}{K:U->H->Prop}(h:fz u cu (S.map λx=>(x,hl ak)))(I:u.cell? ⟨xU,0,none⟩=some (.map (some cu)))(bg:S.length<=1000000)(av:∀s u',aK u u' 3 1 s ((dS S).flatMap encI)->K s u'):
  vp (.func (.func 303) #[] #[.pointer (some ⟨xU,0,none⟩)]) u K:=by
 have b3:((S.map λx=>(x,hl ak)).map (·.1)).Nodup:=by obtain⟨_,_,_,he⟩:=h;exact he.nodup
 refine adl (by simpa using bg) b3 (λaj rL=>axt Lo (h.mono rL) (qE rL I)) λs u' ab=>av s u' ?_
 have e:(S.map λx=>(x,hl ak)).map (·.1)=S:=by rw[eh];exact DU S
 rw[e] at ab
 exact ab
def amD{af:N->aA bx}{T:aS}{t:U}{bud:o}{K:U->U->U->o->H->Prop}(h:In aj u af b T)(aT:dU T)(ht:Ints u t q)
  (dq:hZ q T.aq k bud≠0->∀u',u.le u'->K ⟨none,0,0⟩ ⟨none,0,0⟩ ⟨none,0,0⟩ (hZ q T.aq k bud) u')
  (bH:hZ q T.aq k bud=0->∀aI ss bd j4 u',jW u u' aI ss bd (e6 k.toNat ((pJ T.g q T.entry bud.toNat).1.map (cU T.g q))) (dS (pJ T.g q T.entry bud.toNat).1) (Pj j4 (pJ T.g q T.entry bud.toNat).2)->K aI ss bd 0 u'):
  VD (some ⟨b,0,none⟩) t k bud u K:=by
 have b3:=h.aJ.nodup
 apply aDJ
 intro n0 e1
 refine⟨λe=>(by cases e),λ_=>?_⟩
 have oy:=bZ (u:=u) (b:=n0) (.cells #[.int .i64 bud] 3 (0,0)) e1
 obtain⟨aU,hj⟩:∃aU,u.ins n0 (.cells #[.int .i64 bud] 3 (0,0))=aU:=⟨_,rfl⟩
 have fA:aU n0=some (.cells #[.int .i64 bud] 3 (0,0)):=by rw[<-hj,bi]
 rw[hj] at oy ⊢
 obtain⟨bM,_,_,_,_⟩:=kU (h.aJ.mono oy)
 refine⟨_,rfl,_,bM,_,a8 fA 0,Kv (ht.mono oy) ⟨λan=>dq an _ oy,λhe=>?_⟩⟩
 have bH:=bH he
 obtain⟨aB,cq,cH,afk,aGD⟩:hv q T.aq=0/\1<=k/\k<=64/\0<=bud/\bud<=1000000:=by unfold hZ at he;by_cases h1:hv q T.aq≠0;rw[a1 h1] at he;exact aV he h1;rw[aG h1] at he;by_cases h2:k<1∨64<k∨bud<0∨1000000<bud;rw[a1 h2] at he;cases he;exact⟨by simpa using h1,by omega,by omega,by omega,by omega⟩
 obtain⟨_,_,dh,fL⟩:=oL aB
 refine PM (λaa=>by omega) λ_ _ ck u8 pv vX p5=>?_
 intro n9 uE
 refine nh (zs:=[.pointer none]) rfl (by simp[cK]) ?_
 have nJ:=p5.nf uE (.cells [.pointer (some ⟨ck,0,none⟩)].toArray 90 (0,0))
 obtain⟨hQ,uN⟩:∃hQ,u8.ins n9 (.cells [.pointer (some ⟨ck,0,none⟩)].toArray 90 (0,0))=hQ:=⟨_,rfl⟩
 rw[uN] at nJ ⊢
 refine D4 λcu DE iw iL=>?_
 have pu:=nJ.nf iw DE
 intro n13 ze
 refine nh (zs:=[.map none]) rfl (by simp[cK]) ?_
 have nK:=pu.nf ze (.cells [.map (some cu)].toArray 166 (0,0))
 have aww:aU n9=none:=pv.none uE
 have agT:hQ n9=some (.cells [.pointer (some ⟨ck,0,none⟩)].toArray 90 (0,0)):=by rw[<-uN,bi]
 have Im:cu≠n9:=λe=>by rw[e,agT] at iw;cases iw
 have awu:aU cu=none:=pv.none (by rw[<-uN,bq _ _ Im] at iw;exact iw)
 have X0:cu≠n13:=λe=>by rw[<-e,bi] at ze;cases ze
 have L7:hQ n13=none:=by rw[bq _ _ (dG X0)] at ze;exact ze
 have XQ:n9≠n13:=λe=>by rw[<-e,agT] at L7;cases L7
 have awv:aU n13=none:=pv.none (by rw[<-uN,bq _ _ (dG XQ)] at L7;exact L7)
 obtain⟨B,eH⟩:∃B,(aU.ins n9 (.cells [.pointer (some ⟨ck,0,none⟩)].toArray 90 (0,0))).ins n13 (.cells [.map (some cu)].toArray 166 (0,0))=B:=⟨_,rfl⟩
 have Ii:B cu=none:=by rw[<-eH,bq _ _ X0,bq _ _ Im];exact awu
 have ahL:((aU.ins n9 (.cells [.pointer (some ⟨ck,0,none⟩)].toArray 90 (0,0))).ins cu DE).ins n13 (.cells [.map (some cu)].toArray 166 (0,0))=B.ins cu DE:=by rw[<-eH];funext c;unfold H.ins;by_cases aQ:c=n13;subst aQ;simp[dG X0];simp[aQ]
 rw[ahL] at nK
 obtain⟨lc,ajs⟩:∃lc,(hQ.ins cu DE).ins n13 (.cells [.map (some cu)].toArray 166 (0,0))=lc:=⟨_,rfl⟩
 rw[ajs] at nK ⊢
 have agV:aU.le B:=by rw[<-eH];exact(bZ _ aww).trans (bZ _ (by rw[bq _ _ (dG XQ)];exact awv))
 have Ih:B n0=some (.cells #[.int .i64 bud] 3 (0,0)):=agV _ _ fA
 have XS:B n9=some (.cells #[.pointer (some ⟨ck,0,none⟩)] 90 (0,0)):=by rw[<-eH,bq _ _ XQ,bi]
 have RM:B n13=some (.cells #[.map (some cu)] 166 (0,0)):=by rw[<-eH,bi]
 have Y1:sX B cu ck k T.g q [] lc:=⟨DE,by obtain⟨es,Lu,h1,h2⟩:=iL;rw[bi] at h1;exact⟨es,Lu,by rw[bi];exact h1,h2⟩,nK⟩
 have aal:u.le B:=oy.trans agV
 have Mf:=h.mono aal
 have ZO:sW B T.aq t q:=⟨ht.mono aal,fL,dh⟩
 clear nJ pu nK iL ahL iw ze L7 uE p5 pv uN ajs eH
 intro Eu XX
 have behind:∀v,sX B cu ck k T.g q ((oe T.g q T.entry).take bud.toNat) v->Eu v:=by
  intro v aN;refine XX v ?_;have E0:=aN.le Ii;obtain⟨_,_,_,fc,_⟩:=kU (Mf.mono E0).aJ;have gf:=aT.k.ok.small;refine⟨_,rfl,_,fc,amq (Mf.mono E0).aJ.map (by rw[OQ];omega) λUs kE Nq=>?_⟩;rw[TD] at Nq;obtain⟨L,c6⟩:∃L,dS (T.g.map (·.1))=L:=⟨_,rfl⟩;rw[c6] at Nq;have as5:∀x∈L,x∈T.g.map (·.1):=λx J=>by rw[<-c6] at J;exact(nW _).mem_iff.1 J
  have xk:L.length<=513:=by rw[<-c6,z6];simp;omega
  have as6:=Nq.ints.len;refine⟨λhr i w=>0<=i/\i<=L.length/\∃v0,sX B cu ck k T.g q ((L.take i.toNat).foldl (nY bud.toNat) ((oe T.g q T.entry).take bud.toNat,[])).1 v0/\aK v0 w 3 1 Us (L.flatMap encI)/\
    aK v0 w 3 1 hr ((((L.take i.toNat).foldl (nY bud.toNat) ((oe T.g q T.entry).take bud.toNat,[])).2).flatMap encI)/\dO Us hr,λ_ i _=>L.length-i.toNat,
   ⟨by omega,by omega,v,by simpa using aN,Nq,by simpa using aK.nil Nq.le 3 1,λg _ W=>by simp[U.al] at W⟩,?_⟩
  rintro hr i w ⟨i0,i1,v0,zb,Ia,vJ,p1⟩;have Ij:=zb.le Ii;have tq:v0.le w:=Ia.le;have asU:=Mf.mono (Ij.trans tq);have atl:tX bud.toNat ((oe T.g q T.entry).take bud.toNat) (L.take i.toNat) ((L.take i.toNat).foldl (nY bud.toNat) ((oe T.g q T.entry).take bud.toNat,[])).1 ((L.take i.toNat).foldl (nY bud.toNat) ((oe T.g q T.entry).take bud.toNat,[])).2:=by have:=tX.fold (L.take i.toNat) [] _ _ (tX.start (bud:=bud.toNat) (Xr aT q).1);rw[nQ] at this;exact this
  have RX:((L.take i.toNat).foldl (nY bud.toNat) ((oe T.g q T.entry).take bud.toNat,[])).2.length<=513:=by have:=atl.sub.length_le;simp at this;omega
  have aGM:=vJ.ints.len;refine⟨λeU=>?_,λFu=>?_⟩;obtain⟨p,ad,I⟩:=Ia.ints.at i0 eU;have J:L[i.toNat]?=some (L.getD i.toNat 0):=getD_some (by omega);have wc:=as5 _ (dB J);have ac:=adG (nY bud.toNat) L J ((oe T.g q T.entry).take bud.toNat,[]);rw[show i.toNat+1=(i+1).toNat by omega] at ac;obtain⟨S,bg⟩:∃S,((L.take i.toNat).foldl (nY bud.toNat) ((oe T.g q T.entry).take bud.toNat,[])).1=S:=⟨_,rfl⟩;obtain⟨R,b4⟩:∃R,((L.take i.toNat).foldl (nY bud.toNat) ((oe T.g q T.entry).take bud.toNat,[])).2=R:=⟨_,rfl⟩;have att:(L.take i.toNat).foldl (nY bud.toNat) ((oe T.g q T.entry).take bud.toNat,[])=(S,R):=by rw[<-bg,<-b4]
  rw[att] at zb vJ ac RX;refine⟨p,ad,⟨i0,eU⟩,_,I,_,a8 (tq _ _ (Ij _ _ RM)) 0,?_⟩;refine Ps Lo (zb.map.mono tq) (ct:=.bool) (decide (L.getD i.toNat 0∈S)) ?_ ⟨λaa=>?_,λaa=>?_⟩;show(fD _ _).getD _=_;rw[XF];by_cases e:L.getD i.toNat 0∈S<;>simp only[e,qX,BL,decide_true,decide_false]<;>rfl;have Ob:L.getD i.toNat 0∉S:=by simpa using aa
  refine PJ asU.aJ aT.k.ok wc (ZO.mono (Ij.trans tq)) ?_;refine(ane (n0:=n0) (n9:=n9) (n13:=n13) (x:=L.getD i.toNat 0) (K:=λdp b6=>(dp=ax->S.length=bud.toNat/\sX B cu ck k T.g q S b6)/\(dp=ak->S.length≠bud.toNat/\sX B cu ck k T.g q (S++ [L.getD i.toNat 0]) b6))
   Ii cq cH afk Ih XS RM zb (λxr=>⟨λ_=>⟨xr,zb⟩,λe=>(by cases e)⟩) (λ_ cb=>aV cb Ob) λan _ b6 gE=>⟨λe=>(by cases e),λ_=>⟨an,gE⟩⟩).frame tq ?_
  rintro dp ji w' eZ ⟨AR,Yx⟩;have XJ:=Ia.H7 eZ;have RF:=vJ.H7 eZ;refine⟨λkK=>?_,λkK=>?_⟩;obtain⟨xr,kL⟩:=AR (Bool.eq_false_iff.2 kK);have jb:(L.take (i+1).toNat).foldl (nY bud.toNat) ((oe T.g q T.entry).take bud.toNat,[])=(S,R++ [L.getD i.toNat 0]):=by rw[ac];unfold nY;simp only;rw[aG Ob,a1 xr]
  have aGN:=RF.ints.len;refine nV o4 (Aw _) (by decide) rfl (by simp[cK]) RF (by omega) (by omega) λUt PS avI _ aud atO _=>⟨⟨by omega,by omega⟩,⟨by omega,by omega,ji,by rw[jb];exact kL,?_,?_,λg W ca=>?_⟩,by dsimp only;omega⟩;exact aK.else XJ aud (λg W=>RF.fresh g W) λg W e=>p1 g e W;rw[jb];simp only[gZ];exact avI;rcases atO g ca with bO|bO;exact p1 g W bO;exact uZ XJ W bO;obtain⟨an,kL⟩:=Yx kK;have jb:(L.take (i+1).toNat).foldl (nY bud.toNat) ((oe T.g q T.entry).take bud.toNat,[])=(S++ [L.getD i.toNat 0],R):=by rw[ac];unfold nY;simp only;rw[aG Ob,aG an]
  exact⟨⟨by omega,by omega⟩,⟨by omega,by omega,ji,by rw[jb];exact kL,XJ,by rw[jb];exact RF,p1⟩,by dsimp only;omega⟩;have Ob:L.getD i.toNat 0∈S:=by simpa using aa
  have jb:(L.take (i+1).toNat).foldl (nY bud.toNat) ((oe T.g q T.entry).take bud.toNat,[])=(S,R):=by rw[ac];unfold nY;simp only;rw[a1 Ob]
  exact⟨⟨by omega,by omega⟩,⟨by omega,by omega,v0,by rw[jb];exact zb,Ia,by rw[jb];exact vJ,p1⟩,by dsimp only;omega⟩
  ·
   have Ft:i.toNat=L.length:=by have:¬i<(Us.n:o):=Fu;omega
   rw[Ft,oE] at zb vJ RX;have ats:L.foldl (nY bud.toNat) ((oe T.g q T.entry).take bud.toNat,[])=pJ T.g q T.entry bud.toNat:=by rw[<-c6];rfl
   rw[ats] at zb vJ RX;obtain⟨S,bg⟩:∃S,(pJ T.g q T.entry bud.toNat).1=S:=⟨_,rfl⟩;obtain⟨R,b4⟩:∃R,(pJ T.g q T.entry bud.toNat).2=R:=⟨_,rfl⟩;rw[bg] at zb;rw[b4] at vJ RX;rw[bg,b4] at bH;have uj:S.length<=1000000:=by rw[<-bg];have:=(anc aT b3 q bud.toNat).2.1;omega
   have Dq:u.le v0:=aal.trans Ij;intro ao5 as0;have RG:=vJ.ints.len;have last:∀(p9:N) (aI ss:U) (y:H) (dw x2 jV:ao),w.le y->aK w y 68 3 aI ((e6 k.toNat (S.map (cU T.g q))).flatMap fX)->aK w y 3 1 ss ((dS S).flatMap encI)->dO aI ss->w p9=none->aI.al≠some p9->ss.al≠some p9->
     y p9=some (.cells #[dw,x2,jV] 41 (0,0))->H.aO y ⟨p9,0,none⟩ [.slice aI.a aI.n aI.c,.slice ss.a ss.n ss.c,.slice none 0 0] λY=>ao5 ⟨p9,0,none⟩ Y:=by
    intro p9 aI ss y dw x2 jV awR b5 ag ac FI aji ajn ai
    refine aB1 ai (by simp[cK]) ?_
    have S4:∀c z,y c=some z->c≠p9->(y.ins p9 (.cells #[.slice aI.a aI.n aI.c,.slice ss.a ss.n ss.c,.slice none 0 0] 41 (0,0))) c=some z:=λc z h1 h2=>by rw[bq _ _ h2];exact h1
    obtain⟨Y,aC⟩:∃Y,y.ins p9 (.cells #[.slice aI.a aI.n aI.c,.slice ss.a ss.n ss.c,.slice none 0 0] 41 (0,0))=Y:=⟨_,rfl⟩
    have aaG:Y p9=some (.cells #[.slice aI.a aI.n aI.c,.slice ss.a ss.n ss.c,.slice none 0 0] 41 (0,0)):=by rw[<-aC,bi]
    rw[aC] at S4 ⊢
    have Dp:u p9=none:=(Dq.trans tq).none FI
    have agM:hr.al≠some p9:=λe=>uZ vJ e FI
    have Fq:=((b5.weaken (Dq.trans tq)).skip S4 aji Dp)
    have c0:=((ag.weaken (Dq.trans tq)).skip S4 ajn Dp)
    have agN:=(((vJ.mono awR).weaken Dq).skip S4 agM Dp)
    have sj:dO aI hr:=λg W ca=>uZ vJ ca (b5.fresh g W)
    have jb:dO ss hr:=λg W ca=>uZ vJ ca (ag.fresh g W)
    have A6:∀(x:U),dO x ⟨none,0,0⟩:=λx g _ W=>by simp[U.al] at W
    have ag6:∀(x:U),dO ⟨none,0,0⟩ x:=λx g W=>by simp[U.al] at W
    refine as0 _ _ ⟨λoT=>?_,λrF=>?_⟩
    refine mA (afu hr) λj8 mh=>?_
    have Fl:=bZ (u:=Y) (b:=j8) (.cells [cJ .i64 1,.slice none 0 0,.slice none 0 0,.int .u64 0,.int .u64 0,.slice hr.a hr.n hr.c].toArray 102 (0,0)) mh
    have auu:j8≠p9:=λe=>by rw[e,aaG] at mh;cases mh
    have ah8:(Y.ins j8 (.cells [cJ .i64 1,.slice none 0 0,.slice none 0 0,.int .u64 0,.int .u64 0,.slice hr.a hr.n hr.c].toArray 102 (0,0))) j8=some (.cells [cJ .i64 1,.slice none 0 0,.slice none 0 0,.int .u64 0,.int .u64 0,.slice hr.a hr.n hr.c].toArray 102 (0,0)):=bi _ _ _
    obtain⟨z2,aaF⟩:∃z2,Y.ins j8 (.cells [cJ .i64 1,.slice none 0 0,.slice none 0 0,.int .u64 0,.int .u64 0,.slice hr.a hr.n hr.c].toArray 102 (0,0))=z2:=⟨_,rfl⟩
    rw[aaF] at Fl ah8 ⊢
    rw[iP,ki]
    refine⟨_,_,Fl _ _ aaG,rfl,by simp,by simp[cK],?_⟩
    have aw3:wr #[.slice aI.a aI.n aI.c,.slice ss.a ss.n ss.c,.slice none 0 0] 2 [.slice (some ⟨j8,0,none⟩) 1 1]=#[.slice aI.a aI.n aI.c,.slice ss.a ss.n ss.c,.slice (⟨some ⟨j8,0,none⟩,1,1⟩:U).a (⟨some ⟨j8,0,none⟩,1,1⟩:U).n (⟨some ⟨j8,0,none⟩,1,1⟩:U).c]:=by simp[wr]
    simp only[aw3]
    have Jg:∀c z,z2 c=some z->c≠p9->(z2.ins p9 (.cells #[.slice aI.a aI.n aI.c,.slice ss.a ss.n ss.c,.slice (⟨some ⟨j8,0,none⟩,1,1⟩:U).a (⟨some ⟨j8,0,none⟩,1,1⟩:U).n (⟨some ⟨j8,0,none⟩,1,1⟩:U).c] 41 (0,0))) c=some z:=λc z h1 h2=>by rw[bq _ _ h2];exact h1
    obtain⟨a0,Z,a2⟩:=afG (bi z2 p9 (.cells #[.slice aI.a aI.n aI.c,.slice ss.a ss.n ss.c,.slice (⟨some ⟨j8,0,none⟩,1,1⟩:U).a (⟨some ⟨j8,0,none⟩,1,1⟩:U).n (⟨some ⟨j8,0,none⟩,1,1⟩:U).c] 41 (0,0)))
    have Ya:R≠[]:=λe=>by rw[e] at RG;simp at RG;omega
    have F4:u j8=none:=by have:u.le Y:=Fq.le;exact this.none mh
    have IC:∀{e k:N} {x:U} {xs:M ao},aK u Y e k x xs->dO x ⟨some ⟨j8,0,none⟩,1,1⟩:=λJ g W ca=>by
     have:j8=g:=by simpa[U.al] using ca
     exact uZ J W (by rw[<-this];exact mh)
    have pt:Pj hr R=[EC hr R]:=aG Ya
    refine⟨aI,a0,ss,Z,⟨some ⟨j8,0,none⟩,1,1⟩,a2,bH aI ss _ hr _ ⟨(Fq.mono Fl).skip Jg aji Dp,(c0.mono Fl).skip Jg ajn Dp,?_,λr O=>?_,?_⟩⟩
    rw[pt]
    have aQ:([EC hr R]:M cn).flatMap uf=[cJ .i64 1,.slice none 0 0,.slice none 0 0,.int .u64 0,.int .u64 0,.slice hr.a hr.n hr.c]:=by simp[uf,EC,YW,abi]
    rw[aQ]
    refine⟨⟨rfl,.inr ⟨j8,_,rfl,Jg _ _ ah8 auu,cC _,by show(1:N)<=9223372036854775807;decide,by simp,by simp⟩⟩,λc z I=>Jg c z (Fl c z (Fq.le c z I)) λe=>(by rw[e,Dp] at I;cases I),λg W=>?_⟩
    have:j8=g:=by simpa[U.al] using W
    rw[<-this];exact F4
    rw[pt] at O
    simp at O
    subst O
    have ajX:u.le (z2.ins p9 (.cells #[.slice aI.a aI.n aI.c,.slice ss.a ss.n ss.c,.slice (⟨some ⟨j8,0,none⟩,1,1⟩:U).a (⟨some ⟨j8,0,none⟩,1,1⟩:U).n (⟨some ⟨j8,0,none⟩,1,1⟩:U).c] 41 (0,0))):=λc z I=>Jg c z (Fl c z (Fq.le c z I)) λe=>(by rw[e,Dp] at I;cases I)
    exact⟨aK.nil ajX _ _,aK.nil ajX _ _,(agN.mono Fl).skip Jg agM Dp⟩
    rw[pt]
    show([aI,ss,⟨some ⟨j8,0,none⟩,1,1⟩,⟨none,0,0⟩,⟨none,0,0⟩,hr]:M U).Pairwise dO
    simp only[k9,cP,qe,qf,J5,O8,oZ,r5,Uf,Ug]
    exact⟨⟨ac,IC Fq,A6 _,A6 _,sj⟩,⟨IC c0,A6 _,A6 _,jb⟩,⟨A6 _,A6 _,(IC agN).symm⟩,⟨A6 _,ag6 _⟩,ag6 _⟩
    have X9:R=[]:=by
      have:hr.n=0:=by omega
      rw[this] at RG;exact kS RG.symm
    obtain⟨a0,Z,a2⟩:=afG (d:=⟨none,0,0⟩) aaG
    have pt:Pj hr R=[]:=a1 X9
    refine⟨aI,a0,ss,Z,⟨none,0,0⟩,a2,bH aI ss _ hr _ ⟨Fq,c0,by rw[pt];exact aK.nil Fq.le _ _,λr O=>(by rw[pt] at O;cases O),?_⟩⟩
    rw[pt]
    show([aI,ss,⟨none,0,0⟩]:M U).Pairwise dO
    simp only[k9,cP,qe,qf,J5,O8,oZ,r5,Uf,Ug]
    exact⟨⟨ac,A6 _⟩,A6 _⟩
   obtain⟨lx,avi,ajr⟩:=zb;have FZ:=ajr.mono tq;have vW:fz w cu (S.map λx=>(x,hl ak)):=(avi.mono ajr.le).mono tq;have aqs:=a8 (tq _ _ (Ij _ _ XS)) 0;have aqm:=a8 (tq _ _ (Ij _ _ RM)) 0;have Rv:∀{x y:U} {iY z2 z3:H} {aQ cq aF cH:N} {xs e9:M ao},aK w iY aQ cq x xs->iY.le z2->aK z2 z3 aF cH y e9->dO x y:=λJ hle ai g W ca=>by obtain⟨z,ab⟩:=fj.1 (uZ J W);have:=ai.fresh g ca;rw[hle _ _ ab] at this;cases this
   have Tv:∀{x:U} {iY z2:H} {e k n:N} {xs:M ao},aK w iY e k x xs->iY.le z2->z2 n=none->x.al≠some n:=λJ hle ae W=>by obtain⟨z,ab⟩:=fj.1 (uZ J W);rw[hle _ _ ab] at ae;cases ae
   refine⟨_,aqs,_,aqm,⟨Kz FZ λzY KF tn=>⟨tn.le,?_,?_⟩,λn75 aiR=>?_⟩⟩;refine adU (some cu) KF _ λxU Nl=>?_;have px:=bZ (u:=KF) (b:=xU) (.cells #[.map (some cu)] 166 (0,0)) Nl;have ahJ:(KF.ins xU (.cells #[.map (some cu)] 166 (0,0))).cell? ⟨xU,0,none⟩=some (.map (some cu)):=a8 (bi _ _ _) 0;have xM:=tn.le.trans px;refine⟨UG (vW.mono xM) ahJ uj λB2 Ho Dh n63 Ng=>⟨(xM.trans Dh.le).trans (bZ _ Ng),?_⟩,λn65 SC=>⟨xM.trans (bZ _ SC),?_⟩⟩;have aba:=bZ (u:=Ho) (b:=n63) (.cells #[.slice none 0 0,.slice none 0 0,.slice none 0 0] 41 (0,0)) Ng;exact last n63 zY B2 _ _ _ _ ((xM.trans Dh.le).trans aba) (tn.mono ((px.trans Dh.le).trans aba)) ((Dh.weaken xM).mono aba) (Rv tn px Dh) ((xM.trans Dh.le).none Ng) (Tv tn (px.trans Dh.le) Ng) (Tv (Dh.weaken xM) (H.le.refl _) Ng) (bi _ _ _);have Ju:=bZ (u:=KF.ins xU (.cells #[.map (some cu)] 166 (0,0))) (b:=n65) (.cells #[.slice none 0 0,.slice none 0 0,.slice none 0 0] 41 (0,0)) SC;exact UG (vW.mono (xM.trans Ju)) (qE Ju ahJ) uj λacQ U8 IX=>last n65 zY acQ _ _ _ _ ((xM.trans Ju).trans IX.le) (tn.mono ((px.trans Ju).trans IX.le)) (IX.weaken (xM.trans Ju)) (Rv tn (px.trans Ju) IX) (xM.none SC) (Tv tn px SC)
    (λe=>by have:=IX.fresh n65 e;rw[bi] at this;cases this) (IX.le _ _ (bi _ _ _))
   intro n69 Zl;have Tj:=bZ (u:=KF) (b:=n69) (.cells #[.slice none 0 0,.slice none 0 0,.slice none 0 0] 41 (0,0)) Zl;refine⟨tn.le.trans Tj,adU (some cu) _ _ λxU Nl=>?_⟩;have px:=bZ (b:=xU) (.cells #[.map (some cu)] 166 (0,0)) Nl;have aat:=(tn.le.trans Tj).trans px;exact UG (vW.mono aat) (a8 (bi _ _ _) 0) uj λyi aIt xE=>last n69 zY yi _ _ _ _ (aat.trans xE.le) (tn.mono ((Tj.trans px).trans xE.le)) (xE.weaken aat) (Rv tn (Tj.trans px) xE) (tn.le.none Zl) (Tv tn (H.le.refl _) Zl)
    (λe=>by have:=px _ _ (bi KF n69 (.cells #[.slice none 0 0,.slice none 0 0,.slice none 0 0] 41 (0,0)));rw[xE.fresh n69 e] at this;cases this) (xE.le _ _ (px _ _ (bi _ _ _)))
   have Jv:=bZ (u:=w) (b:=n75) (.cells #[.slice none 0 0,.slice none 0 0,.slice none 0 0] 41 (0,0)) aiR;refine⟨Jv,Kz (FZ.mono Jv) λaz3 aIv FN=>⟨Jv.trans FN.le,adU (some cu) _ _ λxU Nl=>?_⟩⟩;have px:=bZ (b:=xU) (.cells #[.map (some cu)] 166 (0,0)) Nl;have aau:=(Jv.trans FN.le).trans px;exact UG (vW.mono aau) (a8 (bi _ _ _) 0) uj λaz4 aIw xF=>last n75 az3 az4 _ _ _ _ (aau.trans xF.le) ((FN.weaken Jv).mono (px.trans xF.le)) (xF.weaken aau) (Rv (FN.weaken Jv) px xF) aiR
    (λe=>by have:=FN.fresh n75 e;rw[bi] at this;cases this)
    (λe=>by have:=(FN.le.trans px) _ _ (bi w n75 (.cells #[.slice none 0 0,.slice none 0 0,.slice none 0 0] 41 (0,0)));rw[xF.fresh n75 e] at this;cases this)
    (xF.le _ _ (px _ _ (FN.le _ _ (bi _ _ _))))
 have XR:=Y1.le Ii
 have ag8:=Mf.mono XR
 obtain⟨_,_,_,_,fJ⟩:=kU ag8.aJ
 refine⟨_,rfl,_,fJ,λan=>?_,λrz=>behind lc ?_⟩
 have uu:T.entry∈T.g.map (·.1):=by rcases aT.entry with⟨_,h2⟩|h2;exact aV h2 an;exact h2
 have hq:oe T.g q T.entry=lG T.g q 0 (vn T.g q T.entry 0):=aG an
 have E6:=(Xr aT q).1
 refine amH ag8.aJ aT.k.ok uu (ZO.mono XR) (by omega) ?_
 rw[hq] at E6 behind
 refine amE XR Mf.aJ aT.k.ok (ady aT.k.ok uu 0) ZO (by omega) (by omega)
  (λi Y=>i<=bud.toNat/\sX B cu ck k T.g q ((lG T.g q 0 (vn T.g q T.entry 0)).take i) Y) (λY=>sX B cu ck k T.g q ((lG T.g q 0 (vn T.g q T.entry 0)).take bud.toNat) Y) (λi Y aC=>aC.2.le Ii)
  (λi x Y gw J aN aa6 Td=>?_) ⟨by omega,by simpa using Y1⟩ (λY aC=>?_) λY aC=>behind Y aC
 have fQ:(lG T.g q 0 (vn T.g q T.entry 0))[i]?=some x:=J
 have eU:=(iB.1 fQ).1
 have hlen:((lG T.g q 0 (vn T.g q T.entry 0)).take i).length=i:=by rw[gq];omega
 refine ane Ii cq cH afk Ih XS RM aN.2 (λac=>Td Y ?_) (λ_ cb=>?_) λkN _ fC Bs=>aa6 fC ⟨by have:=aN.1;omega,?_⟩
 rw[hlen] at ac
 rw[<-ac];exact aN.2
 exfalso
 obtain⟨j,rC,e⟩:=sE.1 cb
 rw[hlen] at rC
 have:=oF.1 E6 j i (by omega) eU rC
 rw[DR] at e
 rw[cy eU] at fQ
 rw[e,cX fQ] at this
 exact this rfl
 rw[gJ,fQ]
 exact Bs
 refine behind Y ?_
 obtain⟨h1,h2⟩:=aC
 have rv:(lG T.g q 0 (vn T.g q T.entry 0)).length<=bud.toNat:=h1
 have vI:sX B cu ck k T.g q ((lG T.g q 0 (vn T.g q T.entry 0)).take (lG T.g q 0 (vn T.g q T.entry 0)).length) Y:=h2
 rw[gY (cC _)] at vI
 rw[gY rv]
 exact vI
 have hq:oe T.g q T.entry=[]:=a1 rz
 rw[hq]
 simpa using Y1
end
end eE
section
variable{l:M (o×ao)}{x:o}
def Jy(l:M (o×ao))(x:o)(v:ao):M (o×ao):=if x∈l.map (·.1) then l.map (λp=>if p.1=x then(x,v) else p) else l++ [(x,v)]
def aAs(ae:(l.map (·.1)).Nodup){j:N}{v y:ao}(h:l[j]?=some (x,v)):l.set j (x,y)=l.map λp=>if p.1=x then(x,y) else p:=by
 induction l generalizing j with
 |nil=>simp at h|cons p l aM=>
  have h3:=h6.1 ae;cases j with
  |zero=>
   simp only[BN,kC] at h;subst h;rw[OY,gR,a1 rfl];congr 1;have:l.map (λp=>if p.1=x then(x,y) else p)=l.map id:=zQ λq aL=>by have:q.1≠x:=λe=>h3.1 (bk.2 ⟨q,aL,e⟩);rw[aG this];rfl
   rw[this,List.map_id]
  |succ j=>simp only[x4] at h;have ad:p.1≠x:=λe=>h3.1 (bk.2 ⟨_,dB h,e.symm⟩);rw[GK,aM h3.2 h,gR,aG ad]
def al8{P:dT}{t k e:dF}{Y:ao}(T:ns P t k e Y){u:H}{b:N}(h:fz u b l){v:ao}{K:H->Prop}
  (av:∀z,fz (u.ins b z) b (Jy l x v)->K (u.ins b z)):
  c9 P (unit (kh t (.map (some b)) (.int .i64 x) v)) [] u K:=by
 cases J:fD l x with
 |none=>exact B3 T h J λz ab=>av z (by unfold Jy;rw[aG (xh.1 J)];exact ab)
 |some v0=>
  have cb:x∈l.map (·.1):=bk.2 ⟨_,L0 J,rfl⟩;obtain⟨es,c,aa,ap⟩:=h;intro w hw;have W:=x9 (P:=P) (hw _ _ aa);have I:=T.check ax x w;obtain⟨j,aN,Sw⟩:=(T.find ap.jd x w).2 v0 J;have kx:=J1 (P:=P) (.map (es.modify j λe=>{e with key:=.int .i64 x,val:=v}) c) (hw _ _ aa);have so:Instr.sameBits 10000 (cJ .i64 x) (cJ .i64 x)=ak:=by simp[Instr.sameBits]
  have ahZ:(es.toList.map MapEntry.jd)[j]?=some (nO (x,v0)):=by rw[ap.jd,jq,Sw];rfl
  rw[jq] at ahZ;obtain⟨eK,rz,aul⟩:=TJ.1 ahZ;have au0:eK.key=.int .i64 x:=eB sI aul;have aua:es[j]?=some eK:=by rw[<-rz,BP]
  have kM:j<es.toList.length:=(iB.1 rz).1;have het:(es.modify j λe=>{e with key:=cJ .i64 x,val:=v}).toList=es.toList.set j {eK with key:=.int .i64 x,val:=v}:=by apply sB;intro i;rw[Array.toList_modify,List.getElem?_modify,zK];by_cases e:j=i;subst e;rw[a1 rfl,a1 kM,rz];simp;rw[aG e];simp[e]
  refine⟨_,_,u.ins b (.map (es.modify j λe=>{e with key:=.int .i64 x,val:=v}) c),?_,⟨[],.nil,rfl,av _ ⟨_,_,bi _ _ _,?_,?_,?_,?_⟩⟩,step_block hw aa _⟩;simp[unit,kh,eW,ir T.fB,W,I,aN,jf,aua,au0,Instr.keyThatStays,so,kx];rfl;unfold Jy;rw[a1 cb,<-aAs ap.nodup Sw,het,DO,DO,ap.jd];rfl;rw[het,DO];have:(es.toList.map (·.born)).set j eK.born=es.toList.map (·.born):=by apply sB;intro i;rw[zK];by_cases e:j=i;subst e;rw[a1 rfl,a1 (by simpa using kM),jq,rz];rfl;rw[aG e]
  rw[this];exact ap.born;intro fW gd;rw[het] at gd;rcases ald gd with h1|h1;exact ap.lt fW h1;rw[h1];exact ap.lt eK (dB rz);unfold Jy;rw[a1 cb,eh];have:l.map ((·.1)∘λp=>if p.1=x then(x,v) else p)=l.map (·.1):=zQ λq _=>by show(if q.1=x then(x,v) else q).1=q.1;by_cases e:q.1=x;rw[a1 e,e];rw[aG e]
  rw[this];exact ap.nodup
def aAg{P:dT}{t k e bB aaY:dF}{Y:ao}(T:ns P t k e Y){u:H}{b:N}(h:fz u b l)(J:fD l x=none){K:H->Prop}(av:K u):
  c9 P (rZ #[t,aaY] bB #[.map (some b),.int .i64 x]) [] u K:=by
 obtain⟨es,c,aa,ap⟩:=h
 intro w hw
 have W:=x9 (P:=P) (hw _ _ aa)
 have I:=T.check es.isEmpty x w
 have kx:=J1 (P:=P) (.map es c) (hw _ _ aa)
 have e:u.ins b (.map es c)=u:=aaN aa
 refine⟨_,_,u.ins b (.map es c),?_,⟨[],.nil,rfl,by rw[e];exact av⟩,step_block hw aa _⟩
 simp[rZ,eW,ir T.fB,W,I,(T.find ap.jd x w).1 J,jf,kx]
 rfl
end
namespace hc
section
variable{u u' aj:H}
open lS (eb tc py zz je CS)
abbrev nx:=M (o×(U×M o))
def tO(w:nx)(id:o)(x:U×M o):nx:=if id∈w.map (·.1) then w.map (λp=>if p.1=id then(id,x) else p) else w++ [(id,x)]
def Rq(w:nx):(eb w).map (·.1)=w.map (·.1):=by unfold eb;rw[eh];rfl
def agd(w:nx)(id:o)(s:U)(v:M o):Jy (eb w) id (.slice s.a s.n s.c)=eb (tO w id (s,v)):=by unfold Jy tO;rw[Rq];split;unfold eb;rw[eh,eh];refine zQ λp _=>?_;simp only[Ud];by_cases e:p.1=id;rw[a1 e,a1 e];rw[aG e,aG e];unfold eb;rw[er];rfl
def UD{w:nx}{id:o}{x:U×M o}{e:o×(U×M o)}(h:e∈tO w id x):e=(id,x)∨(e∈w/\e.1≠id):=by unfold tO at h;split at h;obtain⟨p,ad,rfl⟩:=bk.1 h;by_cases e:p.1=id;rw[a1 e];exact .inl rfl;rw[aG e];exact .inr ⟨ad,e⟩;rename_i ae;rcases cM.1 h with h|h;exact .inr ⟨h,λe=>ae (bk.2 ⟨_,h,e⟩)⟩;exact .inl (gp.1 h)
def amc(w:nx)(id:o)(x:U×M o):(id∈w.map (·.1)->(tO w id x).length=w.length)/\(id∉w.map (·.1)->(tO w id x).length=w.length+1):=by unfold tO;exact⟨λh=>by rw[a1 h,dj],λh=>by rw[aG h,eD];rfl⟩
def agr{w:nx}{id:o}(h:id∉w.map (·.1)):w.filter (λe=>e.1 !=id)=w:=r6.2 λq aL=>by have:q.1≠id:=λe=>h (bk.2 ⟨q,aL,e⟩);simpa using this
def aAq{id:o}{x:U×M o}:∀{w:nx},(w.map (·.1)).Nodup->(tO w id x).Perm ((id,x)::w.filter λe=>e.1 !=id):=by
 intro w ae;unfold tO;split;rename_i cb;induction w with
 |nil=>cases cb
 |cons p w aM=>
  have h3:=h6.1 ae;rw[gR];by_cases e:p.1=id;have rF:id∉w.map (·.1):=by rw[<-e];exact h3.1
  have:w.map (λp=>if p.1=id then(id,x) else p)=w.map _root_.id:=zQ λq aL=>by have:q.1≠id:=λe=>rF (bk.2 ⟨q,aL,e⟩);rw[aG this];rfl
  rw[a1 e,this,List.map_id,List.filter_cons_of_neg (by simpa using e),agr rF];rw[aG e,List.filter_cons_of_pos (by simpa using e)];have tj:id∈w.map (·.1):=(cP.1 (by rw[<-gR];exact cb)).resolve_left λh=>e h.symm;exact(j3 p (aM h3.2 tj)).trans (TT _ _ _)
 rename_i cb;rw[agr cb];exact nc _ _
inductive bx where
 |obj|map|vec|code
structure tS where
 b:N
 gv:U
 eR:M (U×M (U×M o))
structure pN where
 hV:N
 sP:nx
 co:aA tS
structure aS where
 aq:o
 m:N
 w:nx
 cd:aA pN
def pN.ptr(c:pN):aA bc:=c.co.map λk=>⟨k.b,0,none⟩
def aS.obj(T:aS):Obj:=match T.cd with
 |none=>.cells #[.int .i64 T.aq,.map (some T.m)] 127 (0,0)|some c=>.cells #[.int .i64 T.aq,.map (some T.m),.pointer c.ptr,.map (some c.hV)] 132 (0,0)
structure sT(af:N->aA bx)(u:H)(d:o)(k:tS):Prop where
 cell:u k.b=some (.cells #[.int .i64 d,.slice k.gv.a k.gv.n k.gv.c] 191 (0,0))
 Ri:af k.b=some .code
 bp:bz u k.gv 1 (k.eR.flatMap λc=>encS c.1)
 ih:∀g,k.gv.al=some g->af g=some .code
 tY:∀c∈k.eR,mJ u c.1 c.2
 dR:∀c∈k.eR,(∀g,c.1.al=some g->af g=some .code)/\∀x∈c.2,∀g,x.1.al=some g->af g=some .code
def sT.bS{af aY:N->aA bx}{d:o}{k:tS}(h:sT af u d k)(ac:∀c,af c=some .code->aY c=some .code)(hu:∀c z,u c=some z->af c=some .code->u' c=some z):sT aY u' d k where
 cell:=hu _ _ h.cell h.Ri
 Ri:=ac _ h.Ri
 bp:=bz.else h.bp λg z W ab=>hu g z ab (h.ih g W)
 ih g W:=ac _ (h.ih g W)
 tY c I:=⟨bz.else (h.tY c I).cI λg z W ab=>hu g z ab ((h.dR c I).1 g W),λx J=>bz.else ((h.tY c I).ints x J) λg z W ab=>hu g z ab ((h.dR c I).2 x J g W)⟩
 dR c I:=⟨λg W=>ac _ ((h.dR c I).1 g W),λx J g W=>ac _ ((h.dR c I).2 x J g W)⟩
def CF(af:N->aA bx)(u:H)(w:nx):Prop:=∀e∈w,Ints u e.2.1 e.2.2/\∀g,e.2.1.al=some g->af g=some .vec
def CF.bS{af aY:N->aA bx}{w:nx}(h:CF af u w)(ac:∀c,af c=some .vec->aY c=some .vec)(hu:∀c z,u c=some z->af c=some .vec->u' c=some z):CF aY u' w:=λe he=>
 ⟨bz.else (h e he).1 λg z W ab=>hu g z ab ((h e he).2 g W),λg W=>ac g ((h e he).2 g W)⟩
structure QP(af:N->aA bx)(u:H)(d:o)(m:N)(c:pN):Prop where
 map:fz u c.hV (eb c.sP)
 dr:af c.hV=some .map
 ne:c.hV≠m
 vec:CF af u c.sP
 co:∀k,c.co=some k->sT af u d k
structure ec(af:N->aA bx)(u:H)(b:N)(T:aS):Prop where
 cell:u b=some T.obj
 dR:af b=some .obj
 map:fz u T.m (eb T.w)
 dr:af T.m=some .map
 vec:CF af u T.w
 s5:∀c,T.cd=some c->QP af u T.aq T.m c
def QP.bS{af aY:N->aA bx}{d:o}{m:N}{c:pN}(h:QP af u d m c)(ac:∀c,af c≠none->aY c=af c)(hu:∀c z,u c=some z->af c≠none->u' c=some z):QP aY u' d m c where
 map:=h.map.else λz ab=>hu _ _ ab (by rw[h.dr];simp)
 dr:=by rw[ac _ (by rw[h.dr];simp)];exact h.dr
 ne:=h.ne
 vec:=h.vec.bS (λc I=>by rw[ac _ (by rw[I];simp)];exact I) λc z I ht=>hu c z I (by rw[ht];simp)
 co k hk:=(h.co k hk).bS (λc I=>by rw[ac _ (by rw[I];simp)];exact I) λc z I ht=>hu c z I (by rw[ht];simp)
def ec.bS{af aY:N->aA bx}{b:N}{T:aS}(h:ec af u b T)(ac:∀c,af c≠none->aY c=af c)(hu:∀c z,u c=some z->af c≠none->u' c=some z):ec aY u' b T where
 cell:=hu _ _ h.cell (by rw[h.dR];simp)
 dR:=by rw[ac _ (by rw[h.dR];simp)];exact h.dR
 map:=h.map.else λz ab=>hu _ _ ab (by rw[h.dr];simp)
 dr:=by rw[ac _ (by rw[h.dr];simp)];exact h.dr
 vec:=h.vec.bS (λc I=>by rw[ac _ (by rw[I];simp)];exact I) λc z I ht=>hu c z I (by rw[ht];simp)
 s5 c I:=(h.s5 c I).bS ac hu
def bS:yx ec:=⟨λh ac hu=>h.bS ac hu⟩
abbrev In:=mG ec
def a6(X:aS):M (o×M o):=X.w.map λe=>(e.1,e.2.2)
structure Ei(d:o)(eR:M (U×M (U×M o))):Prop where
 many:1<=eR.length/\eR.length<=8
 LD:∃n:N,1<=n/\((eR.length*n:N):o)=d/\∀c∈eR,wV c.2 n
structure dU(T:aS):Prop where
 hB:1<=T.aq/\T.aq<=64
 ids:∀e∈T.w,1<=e.1/\e.1<=1000000000
 vec:∀e∈T.w,(e.2.2.length:o)=T.aq/\c8 e.2.2
 small:T.w.length<=512
 tY:∀c k,T.cd=some c->c.co=some k->Ei T.aq k.eR
def ec.r8{af:N->aA bx}{b:N}{T:aS}(h:ec af u b T):(T.w.map (·.1)).Nodup:=by obtain⟨es,cl,_,he⟩:=h.map;have:=he.nodup;rw[Rq] at this;exact this
def nN(T:aS):(a6 T).map (·.1)=T.w.map (·.1):=by unfold a6;rw[eh];rfl
def aS.bM{b:N}{T:aS}(h:u b=some T.obj):u.cell? ⟨b,0,none⟩=some (.int .i64 T.aq):=by
 unfold aS.obj at h;cases e:T.cd with
 |none=>rw[e] at h;exact a8 h 0|some c=>rw[e] at h;exact a8 h 0
def aS.c1{b:N}{T:aS}(h:u b=some T.obj):u.cell? ((cw b 0 none).add 1)=some (.map (some T.m)):=by
 unfold aS.obj at h;cases e:T.cd with
 |none=>rw[e] at h;exact a8 h 1|some c=>rw[e] at h;exact a8 h 1
def B5{af:N->aA bx}{b:N}{T:aS}{K:o->H->Prop}(h:In aj u af b T)(av:K (a6 T).length u):aeh (some ⟨b,0,none⟩) u K:=by apply aDa;refine⟨_,rfl,_,aS.c1 h.aJ.cell,vk je h.aJ.map ?_⟩;rw[show(eb T.w).length=(a6 T).length by simp[eb,a6]];exact av
def hU.map{af:N->aA bx}{m:N}(hm:af m=some .map)(z:Obj):hU u af (u.ins m z) af:=
 ⟨λc b7 I ac=>by rw[bq _ _ λe=>by rw[e,hm] at ac;cases ac];exact I,λ_ h=>.inl h⟩
def In.ins{af:N->aA bx}{b:N}{T bB:aS}{m:N}{z:Obj}(h:In aj u af b T)(hm:af m≠none)(ht:ec af (u.ins m z) b bB):In aj (u.ins m z) af b bB:=
 ⟨ht,λc b7 I=>by rw[bq _ _ λe=>by rw[e,h.out m hm] at I;cases I];exact h.le c b7 I,h.out,λc I=>by by_cases e:c=m;rw[e,bi];simp;rw[bq _ _ e];exact h.known c I⟩
structure Al(aj u:H)(af:N->aA bx)(b:N)(T:aS)(id:o)(u':H)(bB:aS):Prop where
 is:In aj u' af b bB
 eX:hU u af u' af
 ok:dU bB
 rows:a6 bB=(a6 T).filter λx=>x.1 !=id
 aq:bB.aq=T.aq
 cd:bB.cd=T.cd
def wH{af:N->aA bx}{b:N}{T:aS}{id:o}{K:aD->o->H->Prop}(h:In aj u af b T)(aT:dU T)(eg:id∉T.w.map (·.1)->K ax 0 u)
  (ky:id∈T.w.map (·.1)->∀u' bB,Al aj u af b T id u' bB->K ak 0 u'):aeg (some ⟨b,0,none⟩) id u K:=by
 have aJ:=h.aJ
 have Nc:af T.m≠none:=by rw[aJ.dr];simp
 apply aC9
 rcases tc T.w id with⟨W,hm⟩|⟨e,he,cm,W⟩
 refine⟨_,rfl,_,aS.c1 aJ.cell,tM je aJ.map (ct:=.slice) (⟨none,0,0⟩:U) (by rw[W];rfl) ⟨_,rfl,_,aS.c1 aJ.cell,aAg je aJ.map W ?_⟩⟩
 rw[W]
 exact eg hm
 refine⟨_,rfl,_,aS.c1 aJ.cell,tM je aJ.map (ct:=.slice) e.2.1 (by rw[W];rfl) ⟨_,rfl,_,aS.c1 aJ.cell,?_⟩⟩
 rw[W]
 refine Ks je aJ.map λz iL=>ky (bk.2 ⟨e,he,cm⟩) _ {T with w:=T.w.filter λe=>e.1 !=id} ⟨h.ins Nc ?_,hU.map aJ.dr z,⟨aT.hB,λe he=>aT.ids e (iX.1 he).1,λe he=>aT.vec e (iX.1 he).1,jo (yf _ _) aT.small,aT.tY⟩,?_,rfl,rfl⟩
 have pD:∀{c b7},u c=some b7->c≠T.m->(u.ins T.m z) c=some b7:=λI an=>by rw[bq _ _ an];exact I
 have qo:∀{c t},af c=some t->t≠.map->c≠T.m:=λI ht e=>by rw[e,aJ.dr] at I;exact ht (cX I).symm
 refine⟨pD aJ.cell (qo aJ.dR (by simp)),aJ.dR,?_,aJ.dr,?_,λc I=>?_⟩
 rw[CS] at iL
 exact iL
 have h1:CF af (u.ins T.m z) T.w:=aJ.vec.bS (λ_ h=>h) λc b7 I ht=>pD I (qo ht (by simp))
 exact λe he=>h1 e (iX.1 he).1
 have dd:=aJ.s5 c I
 exact⟨dd.map.else λb7 ab=>pD ab dd.ne,dd.dr,dd.ne,dd.vec.bS (λ_ h=>h) λc b7 I ht=>pD I (qo ht (by simp)),λk hk=>(dd.co k hk).bS (λ_ h=>h) λc b7 I ht=>pD I (qo ht (by simp))⟩
 show(T.w.filter _).map _=(T.w.map _).filter _
 rw[sJ]
 rfl
def z7{af:N->aA bx}{b:N}{T:aS}{K:U->H->Prop}(h:In aj u af b T)(aT:dU T)(av:∀s ls u',sb u u' s ls->(ls.map az.bL).Perm (a6 T)->(ls.Pairwise λa b=>a.id<=b.id)->K s u'):
  Vr (some ⟨b,0,none⟩) u K:=by
 have gf:=aT.small
 apply aDc
 refine⟨_,rfl,_,aS.c1 h.aJ.cell,Kt je h.aJ.map λr z O xt=>?_⟩
 have iy:=bZ (u:=u) (b:=r) z O
 refine⟨λs w=>∃rw:M az,nq w r T.m (eb T.w) (rw.map λx=>(x.id,.slice x.s.a x.s.n x.s.c))/\aK u w 52 2 s (rw.flatMap cO)/\s.al≠some r/\∀x∈rw,(x.id,(x.s,x.v))∈T.w,λs _=>1000000-s.n,
  ⟨[],xt,aK.nil iy _ _,by simp[U.al],λx J=>(by cases J)⟩,?_⟩
 rintro s w ⟨rw,iK,ab,rI,k3⟩
 have dM:s.n=rw.length:=gU fM (by decide) ab.own.cI
 have k1:rw.length<=512:=by have h2:=iK.CL;rw[eh] at h2;have h3:(rw.map (·.id)).length<=(T.w.map (·.1)).length:=(py h2 λx J=>by obtain⟨y,ai,rfl⟩:=bk.1 J;exact bk.2 ⟨_,k3 y ai,rfl⟩).1;rw[dj,dj] at h3;omega
 refine JC iK (λib=>?_) λp hW ad A8 p3=>?_
 have b4:eF w s rw:=⟨ab.own.cI,λx J=>((h.aJ.vec _ (k3 x J)).1).mono ab.le⟩
 have mU:(rw.map az.bL).Perm (a6 T):=by
  have b3:=iK.CL;rw[eh] at b3;have hlen:=ib.length_eq;simp only[dj,eb] at hlen;have gW:∀x∈rw.map az.bL,x∈a6 T:=λx J=>by obtain⟨y,ai,rfl⟩:=bk.1 J;exact bk.2 ⟨_,k3 y ai,rfl⟩
  have tm:(rw.map az.bL).Nodup:=by have:(rw.map (·.id)).Nodup:=b3;rw[show rw.map (·.id)=(rw.map az.bL).map (·.1) by rw[eh];rfl] at this;exact zz this
  exact(py tm gW).2 (by simp[a6];omega)
 refine z8 b4 (λx J=>aT.ids _ (k3 x J)) (by omega) (λx J=>?_) λs2 ls cQ lW eJ dQ=>?_
 have mg:(x.v.length:o)=T.aq:=(aT.vec _ (k3 x J)).1
 have:=aT.hB
 omega
 exact av s2 ls cQ ⟨lW.own.weaken ab.le,λr O=>(lW.inner r O).weaken ab.le,lW.eG,lW.apart⟩ (eJ.trans mU) dQ
 obtain⟨e,he,NA⟩:=bk.1 ad
 subst NA
 refine H2 p3 ?_
 have dP:aK u (w.ins r hW) 52 2 s (rw.flatMap cO):=ab.xO O rI hW
 refine nV kk (xa e.1 e.2.1) (by decide) rfl (by simp[cK]) dP (by show s.n<_;omega) (by show(s.n+1)*_<=_;omega) λau u' bQ h5 gd eA _=>⟨⟨rw++ [⟨e.1,e.2.1,e.2.2⟩],?_,?_,λaF=>?_,λx J=>?_⟩,?_⟩
 rw[er]
 refine p3.else (λb7 ml=>gd _ _ ml λcW=>?_) λb7 ml=>gd _ _ ml rI
 have:=ab.fresh _ cW
 exact h.known T.m (by rw[h.aJ.dr];simp) this
 rw[gZ];exact bQ
 rcases eA r aF with a7|a7
 exact rI a7
 rw[bi] at a7;cases a7
 rcases cM.1 J with J|J
 exact k3 x J
 obtain rfl:=gp.1 J
 exact he
 show 1000000-au.n<1000000-s.n
 omega
end
section
variable{u aj:H}{d:o}{v q:M o}{s t:U}{b:N}
open lS (eb tc py zz je CS)
def tB(v:M o)(n i:N):M o:=(v.drop (i*n)).take n
def Tz{n i p:N}(h:v.length=p*n)(hi:i<p):(tB v n i).length=n:=by unfold tB;rw[gq,mv];have:(i+1)*n<=p*n:=tG _ hi;rw[DM] at this;omega
def TA(h:c8 v)(n i:N):c8 (tB v n i):=by unfold tB;refine⟨?_,λj aN=>?_⟩;have:=h.1;rw[gq,mv];omega;rw[gq,mv] at aN;have:=h.2 (i*n+j) (by omega);rw[dm] at this ⊢;rw[List.getElem?_take_of_lt (by omega),u5];exact this
def adk{p n:N}{i:o}{K:U->H->Prop}(ag:Ints u s v)(ap:v.length=p*n)(ad:1<=p)(gn:1<=n)(gf:v.length<=1000000)(h0:0<=i)(h1:i<p)
  (av:∀t,(∀w,Ints w s v->Ints w t (tB v n i.toNat))->K t u):K0 s p i u K:=by
 have ae:=ag.len
 have ar:ff (s.n:o) (p:o)=n:=by rw[ae,ap,BU];exact Int.mul_tdiv_cancel_left _ (by omega)
 have aQ:i*(n:o)=((i.toNat*n:N):o):=by rw[BU,wz h0]
 have aF:(i+1)*(n:o)=(((i.toNat+1)*n:N):o):=by rw[BU,Int.natCast_add,wz h0];rfl
 have aa:(i.toNat+1)*n<=p*n:=tG _ (by omega)
 have io:(i.toNat+1)*n=i.toNat*n+n:=by rw[DM,Nat.one_mul]
 have iH:=bz.cap ag
 have hi:i.toNat*1<=i.toNat*n:=Nat.mul_le_mul_left _ gn
 apply aEx
 rw[ar,aQ,aF]
 refine⟨by omega,⟨by omega,by omega⟩,⟨by omega,by omega⟩,⟨by omega,by omega⟩,⟨by omega,by omega⟩,⟨by omega,by omega⟩,⟨by omega,by omega⟩,?_⟩
 refine o3 o4 (l:=i.toNat*n) (h:=(i.toNat+1)*n) (m:=(i.toNat+1)*n) (.inr rfl) (.inr rfl) (.inr ⟨rfl,by simp⟩) (by omega) (cC _) (by omega) iH (av _ λw hw=>?_)
 have:=bz.part hw (l:=i.toNat*n) (h:=(i.toNat+1)*n) (m:=(i.toNat+1)*n) (by omega) (by omega) (cC _) (by omega)
 rw[show(i.toNat+1)*n-i.toNat*n=n by omega,wu,wu,<-DS,<-Kc] at this
 exact this
def UL{l:M (U×M o)}{K:o->o->o->o->H->Prop}(h:mJ u s l)(I:wV l d)(ht:Ints u t v)(aB:c8 v)(Dr:(v.length:o)=d)
  (av:∀a x y,K a x y 0 u):Hx s t u K:=by
 have ae:=h.len
 have hm:=I.many
 have ar:=I.aq
 obtain⟨p,ad,c,oP,cL,bM,pX⟩:=h.at (x:=0) (mw _) (by omega)
 obtain⟨aQ,aF⟩:=I.each c cL
 have pk:(c.1.n:o)=d:=by rw[pX.len];exact aQ
 apply aoa
 apply aob
 intro nr nE
 refine⟨λe=>aV e (by omega),λ_=>⟨λe=>aV e (by omega),λ_=>nE 0 _ ⟨p,ad,⟨mw _,by omega⟩,_,bM,?_⟩⟩⟩
 dsimp only
 rw[pk]
 refine adh h ar I.each (by omega) ⟨λe=>aV rfl e,λ_=>⟨p,ad,⟨mw _,by omega⟩,_,bM,?_⟩⟩
 dsimp only
 rw[pk]
 have xL:hv v d=0:=by rw[<-Dr];exact BF aB (by omega)
 refine qj ht ?_
 rw[xL]
 exact⟨λe=>aV rfl e,λ_=>adi h I ht aB Dr (av _ _ _)⟩
def ap9(x:o):kH aH 30 1 #[(0,.int .i64 x)]=some (3,[.int .i64 x]):=by kernel_rfl
def Xq(c:U×M (U×M o)):(encS c.1).length=1:=rfl
def sT.len{af:N->aA bx}{k:tS}(h:sT af u d k):k.gv.n=k.eR.length:=gU Xq (by decide) h.bp
def sT.at{af:N->aA bx}{k:tS}(h:sT af u d k){x:o}(h0:0<=x)(h1:x<(k.gv.n:o)):∃p,k.gv.a=some p/\∃c,k.eR[x.toNat]?=some c/\c∈k.eR/\u.cell? (p.add (x.toNat*1))=some (.slice c.1.a c.1.n c.1.c):=by
 have ae:=h.len;have ap:x.toNat<k.eR.length:=by omega
 have J:k.eR[x.toNat]?=some k.eR[x.toNat]:=cy ap;obtain⟨p,ad,I⟩:=bz.elem Xq (by decide) h.bp J;exact⟨p,ad,_,J,kD ap,I 0 _ rfl⟩
def sT.mono{af:N->aA bx}{u':H}{k:tS}(h:sT af u d k)(hu:u.le u'):sT af u' d k:=h.bS (λ_ h=>h) λc z I _=>hu c z I
def aAG{af:N->aA bx}{k:tS}{K:U->o->H->Prop}(h:sT af u d k)(aa:Ei d k.eR)(ht:Ints u t q)(aL:hv q d=0)
  (av:∀s u' (cl:M o),aK u u' 3 1 s (cl.flatMap encI)->K s 0 u'):VL (some ⟨k.b,0,none⟩) t u K:=by
 have ae:=h.len
 have hm:=aa.many
 obtain⟨n,b8,nd,dK⟩:=aa.LD
 obtain⟨d1,d2,d3,d4⟩:=oL aL
 have ap:q.length=k.eR.length*n:=by omega
 apply aEs
 refine⟨λe=>(by cases e),λ_=>⟨_,rfl,_,a8 h.cell 0,qj ht ?_⟩⟩
 rw[aL]
 refine⟨λe=>aV rfl e,λ_=>⟨_,rfl,k.gv,a8 h.cell 1,λs x w=>0<=x/\x<=k.gv.n/\∃cl:M o,cl.length=x.toNat/\aK u w 3 1 s (cl.flatMap encI),λ_ x _=>k.gv.n-x.toNat,⟨by omega,by omega,[],rfl,aK.nil (H.le.refl u) _ _⟩,?_⟩⟩
 rintro s x w ⟨bK,dw,cl,hL,ab⟩
 have hw:=h.mono ab.le
 have dM:s.n=cl.length:=gU (enc:=encI) (λ_=>rfl) (by decide) ab.own.cI
 refine⟨λJ=>?_,λ_=>av _ _ cl ab⟩
 obtain⟨p,ad,c,oP,cL,bM⟩:=hw.at bK J
 refine⟨p,ad,⟨bK,J⟩,c.1,bM,_,rfl,k.gv,a8 hw.cell 1,?_⟩
 dsimp only
 rw[ae]
 refine adk (ht.mono ab.le) ap hm.1 b8 (by omega) bK (by omega) λym rK=>?_
 refine UL (hw.tY c cL) (dK c cL) (rK _ (ht.mono ab.le)) (TA d4 _ _) (by rw[Tz ap (by omega)]) λa y Y=>?_
 refine nV o4 (ap9 a) (by decide) rfl (by simp[cK]) ab (by show s.n<_;omega) (by show(s.n+1)*_<=_;omega) λau u' bQ h5 _ _ _=>⟨⟨by omega,by omega⟩,⟨by omega,by omega,cl++ [a],by rw[eD,hL];simp;omega,?_⟩,?_⟩
 rw[gZ];exact bQ
 omega
def vo(af:N->aA bx)(s:U):N->aA bx:=λc=>if s.al=some c then some .vec else af c
def U1{af:N->aA bx}{c:N}(h:s.al=some c):vo af s c=some .vec:=a1 h
def U2{af:N->aA bx}{c:N}(h:s.al≠some c):vo af s c=af c:=aG h
def In.vo{u':H}{af:N->aA bx}{T:aS}{e k:N}{xs:M ao}(h:In aj u af b T)(ab:aK u u' e k s xs):In aj u' (vo af s) b T/\hU u af u' (vo af s):=by have an:∀c,af c≠none->hc.vo af s c=af c:=λc I=>U2 λe=>h.known c I (ab.fresh c e);refine⟨⟨bS.bS h.aJ an λc z I _=>ab.le c z I,h.le.trans ab.le,λc I=>?_,λc I=>?_⟩,λc z I _=>ab.le c z I,λc I=>?_⟩;by_cases e:s.al=some c;exact h.le.none (ab.fresh c e);rw[U2 e] at I;exact h.out c I;by_cases e:s.al=some c;exact dL ab e;rw[U2 e] at I;obtain⟨z,bQ⟩:=fj.1 (h.known c I);rw[ab.le c z bQ];simp;by_cases e:s.al=some c;exact .inr (ab.fresh c e);rw[U2 e] at I;exact .inl I
def akA{id:o}{there:aD}{many:o}(h:fR id v d there many=0):1<=id/\id<=1000000000/\hv v d=0/\(there=ax->many<512):=by unfold fR at h;split at h;omega;split at h;rename_i h1 h2;exact aV h h2;split at h;omega;rename_i h1 h2 h3;refine⟨by omega,by omega,by omega,λht=>?_⟩;by_cases hm:many<512;exact hm;exact aV ⟨ht,by omega⟩ h3
structure tT(aj u:H)(af:N->aA bx)(b:N)(T:aS)(id:o)(v:M o)(u':H)(aY:N->aA bx)(bB:aS):Prop where
 is:In aj u' aY b bB
 eX:hU u af u' aY
 ok:dU bB
 rows:(a6 bB).Perm ((id,v)::(a6 T).filter λx=>x.1 !=id)
 aq:bB.aq=T.aq
 aqv:bB.cd.isSome=T.cd.isSome
def amT{af:N->aA bx}{T:aS}{id:o}{K:aD->o->H->Prop}(h:In aj u af b T)(aT:dU T)(ht:Ints u t q)
  (dq:fR id q T.aq (decide (id∈T.w.map (·.1))) T.w.length≠0->K ax (fR id q T.aq (decide (id∈T.w.map (·.1))) T.w.length) u)
  (bH:fR id q T.aq (decide (id∈T.w.map (·.1))) T.w.length=0->∀u' aY bB,tT aj u af b T id q u' aY bB->bB.cd=T.cd->K (decide (id∉T.w.map (·.1))) 0 u'):Vq (some ⟨b,0,none⟩) id t u K:=by
 have aJ:=h.aJ
 have ap:(eb T.w).length=T.w.length:=by simp[eb]
 have iU:(fD (eb T.w) id).isSome=decide (id∈T.w.map (·.1)):=by rcases tc T.w id with⟨W,hm⟩|⟨e,he,cm,W⟩;rw[W,o0 hm];rfl;rw[W,l4 (bk.2 ⟨e,he,cm⟩)];rfl
 obtain⟨y,ai⟩:∃y:U,(fD (eb T.w) id).getD (.slice none 0 0)=aE.slice.enc y:=by rcases tc T.w id with⟨W,hm⟩|⟨e,he,cm,W⟩;exact⟨⟨none,0,0⟩,by rw[W];rfl⟩;exact⟨e.2.1,by rw[W];rfl⟩
 apply aDb
 refine⟨_,rfl,_,aS.c1 aJ.cell,tM je aJ.map (ct:=.slice) y ai ?_⟩
 rw[iU]
 refine⟨_,rfl,_,rfl,_,aS.bM aJ.cell,_,aS.c1 aJ.cell,vk je aJ.map ⟨H.le.refl u,Kx ht ?_⟩⟩
 rw[ap]
 refine⟨λan=>dq an,λhe=>⟨_,rfl,_,aS.c1 aJ.cell,?_⟩⟩
 have bH:=bH he
 obtain⟨i1,i2,aB,Zd⟩:=akA he
 obtain⟨d1,d2,d3,d4⟩:=oL aB
 have I1:=ht.len
 refine sN ht (by omega) λau u' ab _=>⟨ab.le,?_⟩
 obtain⟨bW,ym⟩:=In.vo h ab
 have qn:=bW.aJ
 have Nc:vo af au T.m≠none:=by rw[qn.dr];simp
 refine al8 je qn.map λz iL=>?_
 rw[agd] at iL
 have pD:∀{c b7},u' c=some b7->c≠T.m->(u'.ins T.m z) c=some b7:=λI an=>by rw[bq _ _ an];exact I
 have qo:∀{c t},vo af au c=some t->t≠.map->c≠T.m:=λI ht e=>by rw[e,qn.dr] at I;exact ht (cX I).symm
 have nd:=aJ.r8
 have:=bH _ _ {T with w:=tO T.w id (au,q)} ⟨In.ins bW Nc ⟨pD qn.cell (qo qn.dR (by simp)),qn.dR,iL,qn.dr,λe he=>?_,λc I=>?_⟩,ym.trans (hU.map qn.dr z),⟨aT.hB,λe he=>?_,λe he=>?_,?_,aT.tY⟩,?_,rfl,rfl⟩ rfl
 have aF:(!decide (decide (id∈T.w.map (·.1))=ak))=decide (id∉T.w.map (·.1)):=by simp
 first
  |exact aF▸this
  |(rw[<-aF] at this;exact this)
 have hold:CF (vo af au) (u'.ins T.m z) T.w:=qn.vec.bS (λ_ h=>h) λc b7 I ht=>pD I (qo ht (by simp))
 rcases UD he with rfl|⟨he,_⟩
 exact⟨bz.else ab.ints λg b7 W I=>pD I (qo (U1 W) (by simp)),λg W=>U1 W⟩
 exact hold e he
 have dd:=qn.s5 c I
 exact⟨dd.map.else λb7 ab=>pD ab dd.ne,dd.dr,dd.ne,dd.vec.bS (λ_ h=>h) λc b7 I ht=>pD I (qo ht (by simp)),λk hk=>(dd.co k hk).bS (λ_ h=>h) λc b7 I ht=>pD I (qo ht (by simp))⟩
 rcases UD he with rfl|⟨he,_⟩
 exact⟨i1,i2⟩
 exact aT.ids e he
 rcases UD he with rfl|⟨he,_⟩
 exact⟨d3,d4⟩
 exact aT.vec e he
 have gf:=aT.small
 by_cases e:id∈T.w.map (·.1)
 show(tO T.w id (au,q)).length<=512
 rw[(amc _ _ _).1 e];exact gf
 have:=Zd (o0 e)
 show(tO T.w id (au,q)).length<=512
 rw[(amc _ _ _).2 e];omega
 show((tO T.w id (au,q)).map λe=>(e.1,e.2.2)).Perm _
 refine((aAq nd).map _).trans ?_
 rw[gR]
 unfold a6
 rw[sJ]
 exact Kf _
def aAQ{af:N->aA bx}{T:aS}{c:pN}{id:o}{K:aD->o->H->Prop}(h:In aj u af b T)(aT:dU T)(kb:T.cd=some c)(ht:Ints u t q)(fq:∀aU (c4:N->aA bx),aj.le aU->hU u af aU c4->Ints aU t q)
  (dq:fR id q T.aq (decide (id∈T.w.map (·.1))) T.w.length≠0->K ax (fR id q T.aq (decide (id∈T.w.map (·.1))) T.w.length) u)
  (bH:fR id q T.aq (decide (id∈T.w.map (·.1))) T.w.length=0->∀u' aY bB,tT aj u af b T id q u' aY bB->K (decide (id∉T.w.map (·.1))) 0 u'):aed (some ⟨b,0,none⟩) id t u K:=by
 apply aC6
 refine⟨_,rfl,amT h aT ht (λan Lc a7=>⟨λe=>aV e an,λ_=>a7 _ _ ⟨λe=>(by cases e),λ_=>dq an⟩⟩) λhe aU c4 bb O h9 Lc a7=>⟨λ_=>?_,λe=>aV rfl e⟩⟩
 have bH:=bH he
 obtain⟨_,_,aB,_⟩:=akA he
 rw[kb] at h9
 have anF:=O.is.aJ
 have WZ:aU b=some (.cells #[.int .i64 bb.aq,.map (some bb.m),.pointer c.ptr,.map (some c.hV)] 132 (0,0)):=by rw[anF.cell];unfold aS.obj;rw[h9]
 have s5:=anF.s5 c h9
 refine⟨_,rfl,c.ptr,a8 WZ 2,a7 _ _ ⟨λe=>?_,λ_=>bH aU c4 bb O⟩⟩
 cases hk:c.co with
 |none=>simp[pN.ptr,hk] at e
 |some k=>
  have ua:=s5.co k hk;have nJ:=fq aU c4 O.is.le O.eX;refine⟨_,rfl,_,rfl,_,a8 WZ 3,_,a8 WZ 2,?_⟩;rw[show c.ptr=some ⟨k.b,0,none⟩ by unfold pN.ptr;rw[hk];rfl];refine aAG ua (O.ok.tY c k h9 hk) nJ (by rw[O.aq];exact aB) λs2 cQ cl dP=>⟨dP.le,?_⟩;obtain⟨bW,ym⟩:=In.vo O.is dP;have qn:=bW.aJ;have AB:=qn.s5 c h9;refine al8 je AB.map λz iL=>?_;rw[agd (v:=cl)] at iL;have pD:∀{x b7},cQ x=some b7->x≠c.hV->(cQ.ins c.hV z) x=some b7:=λI an=>by rw[bq _ _ an];exact I
  have qo:∀{x t},vo c4 s2 x=some t->t≠.map->x≠c.hV:=λI ht e=>by rw[e,AB.dr] at I;exact ht (cX I).symm
  refine bH _ _ {bb with cd:=some {c with sP:=tO c.sP id (s2,cl)}} ⟨In.ins bW (by rw[AB.dr];simp) ⟨?_,qn.dR,qn.map.else λb7 ab=>pD ab (dG AB.ne),qn.dr,qn.vec.bS (λ_ h=>h) λx b7 I ht=>pD I (qo ht (by simp)),λnC dd=>?_⟩,(O.eX.trans ym).trans (hU.map AB.dr z),⟨O.ok.hB,O.ok.ids,O.ok.vec,O.ok.small,λnC dV dd dJ=>?_⟩,O.rows,O.aq,?_⟩;refine pD ?_ (qo qn.dR (by simp));rw[qn.cell];unfold aS.obj;rw[h9];rfl;obtain rfl:=cX dd;refine⟨iL,AB.dr,AB.ne,λe he=>?_,λk hk=>(AB.co k hk).bS (λ_ h=>h) λx b7 I ht=>pD I (qo ht (by simp))⟩;have hold:CF (vo c4 s2) (cQ.ins c.hV z) c.sP:=AB.vec.bS (λ_ h=>h) λx b7 I ht=>pD I (qo ht (by simp));rcases UD he with rfl|⟨he,_⟩;exact⟨bz.else dP.ints λg b7 W I=>pD I (qo (U1 W) (by simp)),λg W=>U1 W⟩;exact hold e he;obtain rfl:=cX dd;exact O.ok.tY c dV h9 dJ;rw[kb];rfl
end
end hc
