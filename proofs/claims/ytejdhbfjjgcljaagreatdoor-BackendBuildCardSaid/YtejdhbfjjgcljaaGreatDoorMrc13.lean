/- Texts of mine, joined and packed by pack.py. -/
import Derived.Test.YtejdhbfjjgcljaaGreatDoorMrc12
set_option linter.all false
open Go renaming Program->dR,Value->ao,TypeId->dC,Addr->ba
open _root_ renaming Nat->N,List->J,Option->ay,Int->o,Bool->aI,absurd->a6
open Bool renaming true->ak,false->ax
open Go.Obj renaming cells->bA
open Go.Instr renaming mapUpdate->kV
open Go.Builtin renaming delete_->s8
open Go.Result renaming andThen->jy
open Go.Proofs.Tryz renaming prog->aH
open Go.Value renaming bool->l3,int->cG,oneCell'->cF
open Int renaming tdiv->gw
open List.Perm renaming cons->iL,swap->S5
open List.Pairwise renaming nil->mE
open Go.Addr renaming mk->cr
open List renaming replicate->eU,length->hR
open Prod renaming fst->pd,snd->pR
open Function renaming comp->Tm
set_option maxRecDepth 100000
noncomputable section
namespace Go.Proofs.YtejdhbfjjgcljaaGreatDoor
open H
namespace eA
structure anN(ai iN:H)(Hv:N->ay bu)(b:N)(T:aT)(id:o)(p:N)(sv:U)(v:J o)(top:N)(lv:o)(w:H)(aY:N->ay bu)(nd:dj):Prop where
 is:In ai w aY b T
 node:mN aY w id nd
 eQ:gy iN Hv w aY
 El:nd.p=p
 es:nd.sv=sv
 QE:nd.v=v
 Ht:nd.top=top
 nF:∀(j:N) l,nd.kn[j]?=some l->BJ T.cj (T.g.map (·.1)) l/\((j:o)<=lv->l=[])
structure VC(ai aBi:H)(aqs:N->ay bu)(b:N)(T:aT)(g2:J (o×dj))(id:o)(nd:dj)(P:N->o->Prop)(w:H):Prop where
 ex:∃aY bX,In ai w aY b {T with g:=bX}/\gy aBi aqs w aY/\Alike g2 bX/\p9 T.dim T.cj bX/\eL bX id=some nd/\
  ∀a n (j:N) l,a≠id->eL bX a=some n->n.kn[j]?=some l->P j a->id∉l
def abR{ai u:H}{af:N->ay bu}{b:N}{T:aT}{id:o}{sv:U}{v:J o}{K:H->Prop}(h:In ai u af b T)(aR:dP T)(ka:lD ai)(b7:id∉T.g.map (·.1))(agV:1<=id/\id<=1000000000)
  (aA:Ints u sv v) (Nf:∀g,sv.aj=some g->af g=some (.vec id)) (AI:(v.length:o)=T.dim/\db v) (fq:T.g.length<=512)
  (aq:∀u' aY bx,In ai u' aY b bx->gy u af u' aY->dP bx->e4 bx.g=e4 T.g++ [(id,v)]->bx.dim=T.dim->bx.cj=T.cj->K u'):GZ (some ⟨b,0,none⟩) id sv u K:=by
 have bY:=h.aF.nodup
 apply aCh
 intro n0 eT
 have nQ:=bW (u:=u) (b:=n0) (.cells #[.pointer (some ⟨b,0,none⟩)] 122 (0,0)) eT
 have EI:af n0=none:=h.fresh eT
 have h1:=h.mono nQ
 have fV:(u.ins n0 (.cells #[.pointer (some ⟨b,0,none⟩)] 122 (0,0))) n0=some (.cells #[.pointer (some ⟨b,0,none⟩)] 122 (0,0)):=bf _ _ _
 obtain⟨aS,gI⟩:∃aS,u.ins n0 (.cells #[.pointer (some ⟨b,0,none⟩)] 122 (0,0))=aS:=⟨_,rfl⟩
 rw[gI] at nQ h1 fV ⊢
 obtain⟨_,_,c2,_,_⟩:=kB h1.aF
 refine⟨_,a1 fV 0,_,rfl,_,c2,azG h1.aF.src ka h1.le (h1.out _ (by rw[h1.aF.hV];simp)) λn2 NA dI jH eZ=>?_⟩
 obtain⟨top,rfl⟩:=Int.eq_ofNat_of_zero_le jH
 obtain⟨fO,R7⟩:=h1.ayI dI
 have Qd:=R7.bM _ _ fV EI
 have Zi:Ints (aS.ins T.src (.cells #[.int .u64 n2] 215 (0,0))) sv v:=bt.else (aA.mono nQ) λg z W ab=>by rw[bm _ _ (λe=>by have:=Nf g W;rw[e,h1.aF.hV] at this;cases this)];exact ab
 obtain⟨tj,Iz⟩:∃tj,aS.ins T.src (.cells #[.int .u64 n2] 215 (0,0))=tj:=⟨_,rfl⟩
 rw[Iz] at fO R7 Qd Zi ⊢
 intro n7 aht
 generalize MB:bA _ 230 (0,0)=vJ
 have at0:vJ=.cells (jt (um n7 sv v top)).toArray 230 (0,0):=by rw[<-MB];rfl
 subst at0
 clear MB
 have QV:In ai tj af b {T with st:=n2}:=fO
 obtain⟨Hv,kL,W2,M3⟩:=QV.awQ b7 aht Zi Nf top
 have BX:=M3.bM _ _ Qd EI
 have XI:=M3.none Qd EI
 have al9:=((gy.mono nQ).trans R7).trans M3
 obtain⟨iN,rX⟩:∃iN,tj.ins n7 (.cells (jt (um n7 sv v top)).toArray 230 (0,0))=iN:=⟨_,rfl⟩
 rw[rX] at kL W2 M3 BX al9 ⊢
 obtain⟨a8,sF⟩:∃a8,{T with st:=n2}=a8:=⟨_,rfl⟩
 rw[sF] at kL
 have pv:a8.g=T.g:=by rw[<-sF]
 have Eg:a8.dim=T.dim:=by rw[<-sF]
 have el:a8.cj=T.cj:=by rw[<-sF]
 have Wh:a8.entry=T.entry:=by rw[<-sF]
 have rK:dP a8:=⟨by rw[Eg,el,pv];exact aR.k,by rw[el];exact aR.cj,by rw[pv,Wh];exact aR.entry⟩
 rw[<-pv] at b7 fq bY
 rw[<-Eg] at AI
 have fin:∀u' aY bx,In ai u' aY b bx->gy iN Hv u' aY->dP bx->e4 bx.g=e4 a8.g++ [(id,v)]->bx.dim=a8.dim->bx.cj=a8.cj->K u':=λu' aY bx cx cS nM ZJ No avI=>
  aq u' aY bx cx (al9.trans cS) nM (by rw[ZJ,pv]) (No.trans Eg) (avI.trans el)
 clear aq aR h1 fO QV R7 Zi aht gI Iz rX c2 jH aA Nf nQ Qd M3 EI eT fV
 obtain⟨_,_,_,d3,d4⟩:=kB kL.aF
 have tN:∀x∈a8.g,1<=x.1:=λx M=>(rK.k.ok.ids x M).1
 have vl:=rK.cj
 have put:∀{w:H} {aY:N->ay bu} {nd:dj} {fA:H->Prop},In ai w aY b a8->mN aY w id nd->nd.p=n7->(∀w',In ai w' aY b {a8 with g:=a8.g++ [(id,nd)]}->gy w aY w' aY->fA w')->
   c4 aH (unit (kV 182 (.map (some a8.m)) (.int .i64 id) (.pointer (some ⟨n7,0,none⟩)))) [] w fA:=λ{w aY nd fA} b4 eG ad hk=>by
  refine Dt vF b4.aF.map (by rw[Cd,z6.2 b7];rfl) λz hm=>?_
  have oi:fs (w.ins a8.m z) a8.m (jh (a8.g++ [(id,nd)])):=by rw[axu,ad];exact hm
  obtain⟨cx,cS⟩:=b4.akK oi λx M=>by rcases cK.1 M with M|M;exact b4.aF.nodes x M;simp at M;subst M;exact eG
  exact hk _ cx cS
 have adR:∀{nd:dj},nd.v=v->nd.top=top->(∀(j:N) l,nd.kn[j]?=some l->BJ a8.cj (a8.g.map (·.1)) l)->p9 a8.dim a8.cj (a8.g++ [(id,nd)]):=λ{nd} h1 h2 h3=>
  rK.k.add vl b7 agV (by rw[h1];exact AI) (by omega) fq h3
 refine⟨_,a1 BX 0,_,rfl,_,d4,λhe=>?_,λhe=>?_⟩
 have yv:a8.g=[]:=by rcases rK.entry with⟨h1,_⟩|h1;exact h1;obtain⟨x,M,e⟩:=bk.1 h1;have:=tN x M;omega
 refine⟨_,a1 BX 0,_,rfl,_,d3,put kL W2 rfl λw hw Fl=>?_⟩
 refine⟨_,a1 (Fl.bM _ _ BX XI) 0,_,rfl,TR hw.aF (e:=id) ?_⟩
 obtain⟨cx,cS⟩:=hw.OD id
 refine fin _ _ _ cx (Fl.trans cS) ⟨adR rfl rfl λj l ar=>by rw[ajh ar];exact BJ.nil vl.1 _,vl,.inr (by simp)⟩ ?_ rfl rfl
 simp[e4,um]
 have tK:a8.entry∈a8.g.map (·.1):=by rcases rK.entry with⟨_,h1⟩|h1;exact a6 h1 he;exact h1
 intro anA aq4
 have start:∀x:o,x<=30->-1<=x->anA x iN:=λx dy bG=>aq4 x iN (by
  refine⟨λlv w=>-1<=lv/\lv<=30/\∃aY nd,anN ai iN Hv b a8 id n7 sv v top lv w aY nd,λlv _=>(lv+1).toNat,
   ⟨bG,dy,Hv,_,kL,W2,gy.refl _ _,rfl,rfl,rfl,rfl,λj l ar=>by rw[ajh ar];exact⟨BJ.nil vl.1 _,λ_=>rfl⟩⟩,?_⟩
  rintro lv w ⟨NA,ai8,Ep,nd,iG⟩;have b4:=iG.is;have W4:=iG.node;have ot:=iG.eQ.bM _ _ BX XI;have XM:=iG.eQ.none BX XI;obtain⟨_,fu,_,hy,po⟩:=kB b4.aF;have aO:sl w a8.dim sv v:=⟨by have:=W4.vec;rw[iG.es,iG.QE] at this;exact this,AI.2,AI.1⟩;refine⟨λlI=>?_,λlI=>?_⟩;refine⟨_,a1 ot 0,_,rfl,_,fu,OT (λdx=>by omega) λ_ _ o6 ame auT Ik pJ=>?_⟩;intro n31 rS;refine mG (zs:=[.pointer none]) rfl (by simp[cF]) ?_;have aik:w n31=none:=auT.none rS;have M5:=pJ.l6 rS (.cells [.pointer (some ⟨o6,0,none⟩)].toArray 90 (0,0));obtain⟨u32,ah7⟩:∃u32,ame.ins n31 (.cells [.pointer (some ⟨o6,0,none⟩)].toArray 90 (0,0))=u32:=⟨_,rfl⟩;rw[ah7] at M5 ⊢;intro n33 RP;refine mG (zs:=[.int .i64 0]) rfl (by simp[cF]) ?_;have Fk:=M5.l6 RP (.cells [.int .i64 0].toArray 3 (0,0));have WI:u32 n31≠none:=by rw[<-ah7,bf];simp
  have Ym:n31≠n33:=λe=>WI (by rw[e];exact RP);have ail:w n33=none:=by have:=M5.le.none RP;rw[bm _ _ (dv Ym)] at this;exact this
  obtain⟨lR,Zb⟩:∃lR,u32.ins n33 (.cells [.int .i64 0].toArray 3 (0,0))=lR:=⟨_,rfl⟩;rw[Zb] at Fk ⊢;have yq:∀{eJ hE:Obj} {Y:H},((w.ins n31 eJ).ins n33 hE).le Y->w.le Y:=λhle c y I=>hle c y (by rw[bm _ _ (λe=>by rw[e,ail] at I;cases I),bm _ _ (λe=>by rw[e,aik] at I;cases I)];exact I)
  have Ng:w.le lR:=yq Fk.le;obtain⟨at',qZ⟩:∃at',uR a8.g v a8.entry lv.toNat=at':=⟨_,rfl⟩;have aga:at'∈a8.g.map (·.1):=by rw[<-qZ];exact aca rK.k.ok tK _
  refine⟨_,a1 (Ng _ _ ot) 0,_,a1 (Ng _ _ ot) 0,ald (b4.aF.mono Ng) rK.k.ok tK (aO.mono Ng) lI ⟨H.le.refl _,?_⟩⟩;rw[qZ];obtain⟨bN,hB⟩:∃bN,ll a8.g v lv.toNat at'=bN:=⟨_,rfl⟩;have Lt:=Met.one (cN a8.g v) (ids:=a8.g.map (·.1)) (tP a8.g v) aga;have EB:bN.Nodup/\(∀x∈bN,x∈a8.g.map (·.1)):=by rw[<-hB];exact⟨(aeZ (cN a8.g v) (lL a8.g lv.toNat) (tP a8.g v) (rK.k.ok.cc _) _ _ _ Lt).1,aeY (cN a8.g v) (lL a8.g lv.toNat) (tP a8.g v) (rK.k.ok.cc _) _ _ _ Lt⟩
  have arK:bN.length<=1000000:=by have:=o5 EB.1 EB.2;simp at this;omega
  have atf:Kx w n31 n33 o6 a8.cj a8.g v bN 0 lR:=Fk;refine azk Ng b4.aF rK.k.ok aga aO lI (by omega) (λi Y=>Kx w n31 n33 o6 a8.cj a8.g v bN i Y) (λi Y aB=>yq (iE.le aB))
   (λi x Y fA M aM hk=>avX b4.aF vl ot aik ail Ym arK (by rw[<-hB];exact M) aM hk) atf λi Y dk kM=>?_
  rw[hB] at dk;have Zp:w.le Y:=yq (iE.le kM);have avi:Y n31=some (.cells #[.pointer (some ⟨o6,0,none⟩)] 90 (0,0)):=(iE.le kM) _ _ (by rw[bm _ _ Ym,bf]);refine⟨_,a1 avi 0,JV kM λTy O2 Il=>?_⟩;obtain⟨L,cL⟩:∃L,eV a8.cj.toNat ((bN.take i).map (cN a8.g v))=L:=⟨_,rfl⟩;rw[cL] at Il;have aFh:∃ck:J bP,(mF ((bN.take i).map (cN a8.g v))).take a8.cj.toNat=L:=⟨[],cL⟩;have afR:(L.map (·.1)).Sublist ((mF ((bN.take i).map (cN a8.g v))).map (·.1)):=by rw[<-cL];exact(rz _ _).map _
  have hP:=(v8 ((bN.take i).map (cN a8.g v))).map (·.1);have arL:((bN.take i).map (cN a8.g v)).map (·.1)=bN.take i:=by
   rw[ez];have:((λx:bP=>x.1)∘cN a8.g v)=λx=>x:=by funext x;rfl
   rw[this];exact Gg _
  rw[arL] at hP;have asH:∀m,BJ a8.cj (a8.g.map (·.1)) ((L.take m).map (·.1)):=λm=>by
   have gH:((L.take m).map (·.1)).Sublist (L.map (·.1)):=(rz _ _).map _;refine⟨λx M=>EB.2 x (nW ((hP.mem_iff (a:=x)).1 (afR.mem (gH.mem M)))),(hP.nodup_iff.2 (EB.1.sublist (rz _ _))).sublist (gH.trans afR),?_⟩;have:L.length<=a8.cj.toNat:=by rw[<-cL,zq];exact Nat.min_le_left _ _
   simp only[dg,gL];omega
  have ve:L.length<=16:=by
   have:L.length<=a8.cj.toNat:=by rw[<-cL,zq];exact Nat.min_le_left _ _
   omega
  have Zl:w.le O2:=Zp.trans Il.le;have auv:∀g,Ty.aj=some g->Ep g=none/\∃z,O2 g=some z:=λg W=>by have h1:=Il.fresh g W;exact⟨b4.fresh (Zp.none h1),e3.1 (uu Il W)⟩
  have aF7:=Il.fh.len;refine⟨λk x=>0<=k/\k<=L.length/\∃aY AU,In ai x aY b a8/\mN aY x id AU/\gy O2 Ep x aY/\AU.p=n7/\AU.sv=sv/\AU.v=v/\AU.top=top/\
    ∀(j:N) l,AU.kn[j]?=some l->(j=lv.toNat/\l=(L.take k.toNat).map (·.1))∨(j≠lv.toNat/\nd.kn[j]?=some l),λk _=>L.length-k.toNat,
   ⟨by omega,by omega,Ep,nd,b4.mono Zl,W4.bM (λ_ _=>rfl) λc z ab _=>Zl c z ab,gy.refl _ _,iG.El,iG.es,iG.QE,iG.Ht,λj l ar=>?_⟩,?_⟩
  by_cases e:j=lv.toNat;have:=(iG.nF j l ar).2 (by omega);exact .inl ⟨e,by simpa using this⟩;exact .inr ⟨e,ar⟩;rintro k x ⟨jZ,cx,aY,AU,sN,HL,rb,aP,aC,c0,ff,jF⟩;refine⟨λhC=>?_,λL7=>?_⟩;have Zq:nw x Ty L:=bt.else Il.fh λg z W ab=>rb.bM g z ab (auv g W).1;obtain⟨axE,aug,y,ah,jk,j6,lS⟩:=Zq.at jZ hC;obtain⟨s,l,eb,dE,I,ab,xe⟩:=xm HL (lv:=lv.toNat) (by omega);have ar:l=(L.take k.toNat).map (·.1):=by rcases jF _ l dE with⟨_,h1⟩|⟨h1,_⟩;exact h1;exact a6 rfl h1
  rw[aP] at I;refine⟨axE,aug,⟨jZ,hC⟩,_,jk,_,j6,_,lS,by decide,⟨lI,by omega⟩,s,I,?_⟩;have vm:=ab.ints.len;have aFF:l.length<=16:=by rw[ar];simp;omega
  refine zl lQ (zN y.1) (by decide) rfl (by simp[cF]) ab (by omega) (by omega) λap x2 bQ hJ fX eH _=>⟨by decide,⟨lI,by omega⟩,?_⟩;have mT:l.flatMap encI++ [.int .i64 y.1]=(l++ [y.1]).flatMap encI:=by simp[encI]
  rw[mT] at bQ;unfold aW;rw[I4,<-aP];have tZ:s.aj≠some AU.p:=λe=>by have:=xe _ e;rw[HL.tag] at this;cases this
  refine ab7 (fX _ _ HL.cell tZ) HL.uh (by omega) (l++ [y.1]) ?_;obtain⟨oN,W1,aG⟩:=HL.level sN.known eb bQ fX eH;have vj:=sN.ayQ b7 aG;refine⟨⟨by omega,by omega⟩,⟨by omega,by omega,oN,_,vj,W1,rb.trans aG.eQ,rfl,aC,c0,ff,λj fZ hN=>?_⟩,by dsimp only;omega⟩;rcases OE hN with⟨h1,h2⟩|⟨h1,h2⟩;refine .inl ⟨h1,?_⟩;rw[h2,ar,show(k+1).toNat=k.toNat+1 by omega,gT,ah];simp;rcases jF j fZ h2 with⟨h3,_⟩|⟨_,h3⟩;exact a6 h3 h1;exact .inr ⟨h1,h3⟩;have aFB:k.toNat=L.length:=by have:¬k<(Ty.n:o):=L7;omega
  refine⟨⟨by omega,by omega⟩,⟨by omega,by omega,aY,AU,⟨sN,HL,(iG.eQ.trans (gy.mono Zl)).trans rb,aP,aC,c0,ff,λj l ar=>?_⟩⟩,by dsimp only;omega⟩;rcases jF j l ar with⟨h1,h2⟩|⟨h1,h2⟩;rw[h2];exact⟨asH _,λaM=>by omega⟩;obtain⟨h3,a7⟩:=iG.nF j l h2;exact⟨h3,λaM=>a7 (by omega)⟩;refine⟨_,a1 ot 0,_,rfl,_,hy,put b4 W4 iG.El λUi iH ah1=>?_⟩;have gQ:p9 a8.dim a8.cj (a8.g++ [(id,nd)]):=adR iG.QE iG.Ht λj l ar=>(iG.nF j l ar).1;have Me:=ah1.bM _ _ ot XM;have asF:eL (a8.g++ [(id,nd)]) id=some nd:=by rw[WC b7,aV rfl]
  have nI:((a8.g++ [(id,nd)]).map (·.1)).Nodup:=iH.aF.nodup;have aus:e4 (a8.g++ [(id,nd)])=e4 a8.g++ [(id,v)]:=by simp[e4,iG.QE]
  have HD:VC ai Ui Ep b a8 (a8.g++ [(id,nd)]) id nd (λj _=>0<=j) Ui:=⟨Ep,_,iH,gy.refl _ _,Alike.refl _,gQ,asF,λa n j l al ae ar _=>by rw[WC b7,az al] at ae;exact λhm=>b7 (rK.k.ok.known _ (ih ae) l (du ar) id hm)⟩
  refine⟨λj Y=>0<=j/\j<=31/\VC ai Ui Ep b a8 (a8.g++ [(id,nd)]) id nd (λi _=>j.toNat<=i) Y,λj _=>(31-j).toNat,⟨by omega,by omega,HD⟩,?_⟩;rintro j Y ⟨gJ,jY,eg⟩;refine⟨λaM=>?_,λaM=>?_⟩;obtain⟨aY,bX,sN,rb,Rh,de,Ry,EJ⟩:=eg;obtain⟨s,l,eb,dE,I,ab,xe⟩:=xm (sN.aF.node Ry) (lv:=j.toNat) (by omega);have asu:=iG.El;rw[asu] at I;have tN:=(iG.nF _ l dE).1;have vm:=ab.ints.len;have Ib:=ab.ints.max;refine⟨by decide,⟨gJ,aM⟩,s,I,?_⟩;refine⟨λk y=>0<=k/\k<=l.length/\VC ai Ui Ep b a8 (a8.g++ [(id,nd)]) id nd (λi a=>j.toNat<i∨(i=j.toNat/\a∉l.take k.toNat)) y,λk _=>l.length-k.toNat,
   ⟨by omega,by omega,aY,bX,sN,rb,Rh,de,Ry,λa n i fZ h1 h2 h3 a7=>EJ a n i fZ h1 h2 h3 (by rcases a7 with a7|⟨a7,_⟩<;>omega)⟩,?_⟩
  rintro k y ⟨jZ,cx,Q0⟩;refine⟨λhC=>?_,λL7=>?_⟩;obtain⟨hY,g3,kt,o0,vg,jT,Rz,LV⟩:=Q0;have py:=kt.aF.node Rz;obtain⟨s2,fZ,aP,aC,_,dz,_⟩:=xm py (lv:=j.toNat) (by omega);rw[eb] at aP;cases aP;rw[dE] at aC;cases aC;obtain⟨q,Is,LJ⟩:=dz.ints.at jZ hC;have IC:l[k.toNat]?=some (l.getD k.toNat 0):=getD_some (by omega);have vx:=tN.sub _ (du IC);have Zs:l.getD k.toNat 0≠id:=λe=>b7 (e▸vx);have agW:g3.map (·.1)=a8.g.map (·.1)++ [id]:=by rw[vg.ids];simp
  obtain⟨fa,tU⟩:=yk (g:=g3) (id:=l.getD k.toNat 0) (by rw[agW];exact iY _ vx);have W3:=kt.aF.node tU;obtain⟨JO,Nu,aa,a2,_,_,_⟩:=xm W3 (lv:=j.toNat) (by omega);have Ya:Nu.length<=1000000:=by have h1:=(jT.many _ _ _ _ tU a2).1;have:=(aac (lv:=((j.toNat:N):o)) vl).2;omega
  have atS:l.getD k.toNat 0∉l.take k.toNat:=λhm=>by
   obtain⟨i,hi,e⟩:=pc.1 hm;simp only[gL] at hi;have asN:i<l.length:=by omega
   have H7:k.toNat<l.length:=by omega
   have:=nX.1 tN.nodup i k.toNat asN H7 (by omega);rw[Gk,dr,cn H7] at e;exact this e
  have eI:=LV _ fa j.toNat Nu Zs tU a2 (.inr ⟨rfl,atS⟩);have RD:id∈g3.map (·.1):=by rw[agW];simp
  refine⟨q,Is,⟨jZ,hC⟩,_,LJ,_,a1 (o0.bM _ _ Me XM) 0,?_⟩;refine alb kt jT.ok vl tU RD gJ (by omega) a2 Ya λGW aqr lh vA asV auM ata=>⟨⟨by omega,by omega⟩,⟨by omega,by omega,aqr,_,asV,o0.trans auM,vg.trans (Alike.jz tU _ _ _),?_,?_,?_⟩,by dsimp only;omega⟩;exact jT.aiS kt.aF.nodup tU gJ lh a2 ata RD (dv Zs) eI;rw[Lb,az (dv Zs)];exact Rz;intro a n i yR h1 h2 h3 a7;rw[Lb] at h2;by_cases e:a=l.getD k.toNat 0;rw[aV e] at h2;rw[e,tU] at h2;cases h2;have bC:j.toNat<i:=by rcases a7 with a7|⟨_,a7⟩;exact a7;exfalso;apply a7;rw[e,show(k+1).toNat=k.toNat+1 by omega,gT,IC];simp
  rcases OE h3 with⟨bE,_⟩|⟨_,bE⟩;omega;exact LV _ fa i yR (by rw[<-e];exact h1) tU bE (.inl bC);rw[az e] at h2;refine LV a n i yR h1 h2 h3 ?_;rcases a7 with a7|⟨a7,bE⟩;exact .inl a7;refine .inr ⟨a7,λhm=>bE ?_⟩;rw[show(k+1).toNat=k.toNat+1 by omega,gT];exact iY _ hm;obtain⟨hY,g3,kt,o0,vg,jT,Rz,LV⟩:=Q0;exact⟨⟨by omega,by omega⟩,⟨by omega,by omega,hY,g3,kt,o0,vg,jT,Rz,λa n i yR h1 h2 h3 a7=>LV a n i yR h1 h2 h3 (.inl (by omega))⟩,by dsimp only;omega⟩;obtain⟨aY,bX,sN,rb,Rh,de,Ry,_⟩:=eg;have Zv:=rb.bM _ _ Me XM;obtain⟨_,_,_,z3,z4⟩:=kB sN.aF;have agF:a8.entry∈bX.map (·.1):=by rw[Rh.ids];simp only[dY];exact iY _ tK
  have RD:id∈bX.map (·.1):=bk.2 ⟨_,ih Ry,rfl⟩;have jW:e4 bX=e4 a8.g++ [(id,v)]:=by rw[Rh.rows nI];exact aus
  have R8:gy iN Hv Y aY:=(iG.eQ.trans ah1).trans rb;refine⟨_,a1 Zv 0,_,rfl,_,z3,_,a1 Zv 0,_,rfl,_,z4,uQ sN.aF agF λn _ eG=>⟨_,rfl,n.top,?_,λ_=>⟨_,a1 Zv 0,_,rfl,TR sN.aF (e:=id) ?_⟩,λ_=>?_⟩⟩;rw[iC,jI,FU eG];exact SF eG.uh;obtain⟨cx,cS⟩:=sN.OD id;exact fin _ _ _ cx (R8.trans cS) ⟨de,vl,.inr RD⟩ jW rfl rfl;exact fin _ _ _ sN R8 ⟨de,vl,.inr agF⟩ jW rfl rfl)
 obtain⟨ne,al⟩:=yk tK
 refine⟨_,a1 BX 0,_,rfl,_,d3,_,a1 BX 0,_,rfl,_,d4,uQ kL.aF tK λn ae eG=>⟨_,rfl,n.top,?_,?_⟩⟩
 rw[iC,jI,FU eG];exact SF eG.uh
 have:=rK.k.ok.top _ (ih ae)
 simp only at this
 exact start _ (by split<;>omega) (by split<;>omega)
end eA
section
variable{u:H}{n:N}{dim:o}{L:J av}{s:U}
def Oq(s:U)(ls:J av):J U:=s::ls.map (·.s)
def azZ{ls:J av}{ai:H}{K:H->Prop}(h:qO ai u s ls)(aq:∀u',ai.le u'->qM (Oq s ls) u u'->K u'):Va s u K:=by
 have dw:=h.rws.len;have auK:=h.rws.max;apply aDu;have eI:∀g,s.aj=some g->ai g=none:=h.own.fresh;refine⟨λi w=>0<=i/\i<=ls.length/\aD ai w 52 2 s ((eU i.toNat (⟨0,⟨none,0,0⟩,[]⟩:av)++ls.drop i.toNat).flatMap cB)/\(∀r∈ls.drop i.toNat,aD ai w 3 1 r.s (r.v.flatMap encI))/\qM (Oq s ls) u w,
  λi _=>ls.length-i.toNat,⟨by omega,by omega,by simpa using h.own,by simpa using h.inner,qM.refl _ _⟩,?_⟩
 rintro i w ⟨i0,i1,ab,b4,il⟩;refine⟨λea=>?_,λtO=>aq w ab.le il⟩;have hi:i.toNat<ls.length:=by omega
 obtain⟨r,O⟩:∃r,ls[i.toNat]?=some r:=⟨_,cn hi⟩;have fQ:r∈ls:=du O;have pA:ls.drop i.toNat=r::ls.drop (i.toNat+1):=by rw[s9 hi];rw[cn hi] at O;rw[cO O]
 have qk:(eU i.toNat (⟨0,⟨none,0,0⟩,[]⟩:av)++ls.drop i.toNat)[i.toNat]?=some r:=by rw[pA];have:=aqu (eU i.toNat (⟨0,⟨none,0,0⟩,[]⟩:av)) r (ls.drop (i.toNat+1));simp
 have Yw:aD ai w 3 1 r.s (r.v.flatMap encI):=b4 r (by rw[pA];exact .head _);have pI:∀g,s.aj=some g->r.s.aj≠some g:=h.eu r fQ;have ax9:∀{dK:H},aD ai dK 52 2 s ((eU i.toNat (⟨0,⟨none,0,0⟩,[]⟩:av)++ls.drop i.toNat).flatMap cB)->∃p,s.a=some p/\dK.cell? ((p.add (i.toNat*2)).add 1)=some (.slice r.s.a r.s.n r.s.c):=λCM=>by obtain⟨p,ad,I⟩:=bt.elem eY (by decide) CM.own.cC qk;exact⟨p,ad,I 1 _ rfl⟩
 refine⟨λk dK=>0<=k/\k<=r.v.length/\aD ai dK 52 2 s ((eU i.toNat (⟨0,⟨none,0,0⟩,[]⟩:av)++ls.drop i.toNat).flatMap cB)/\(∀ch∈ls.drop (i.toNat+1),aD ai dK 3 1 ch.s (ch.v.flatMap encI))/\
   (∃cm:J o,cm.length=r.v.length/\aD ai dK 3 1 r.s (cm.flatMap encI))/\qM (Oq s ls) u dK,λk _=>r.v.length-k.toNat,
  ⟨by omega,by omega,ab,λch cq=>b4 ch (by rw[pA];exact .tail _ cq),⟨r.v,rfl,Yw⟩,il⟩,?_⟩
 rintro k dK ⟨jZ,cx,dz,kt,⟨cm,gR,rT⟩,ag5⟩;obtain⟨p,ad,I⟩:=ax9 dz;have yK:=rT.ints.len;have Zk:=rT.ints.max;refine⟨p,ad,⟨i0,ea⟩,r.s,I,λhC=>?_,λL7=>?_⟩;obtain⟨q,aO,LJ⟩:=rT.ints.at jZ hC;refine⟨p,ad,⟨i0,ea⟩,p,ad,⟨i0,ea⟩,r.s,I,r.s,I,q,aO,⟨jZ,hC⟩,_,LJ,q,aO,⟨jZ,hC⟩,?_⟩;refine aD.store (enc:=encI) kK rT (by decide) (i:=k.toNat) (by omega) (y:=bits .xor .i64 (cm.getD k.toNat 0) 60) (zW _) aO λhy kv rP _=>⟨⟨by omega,by omega⟩,⟨by omega,by omega,?_,λch cq=>?_,⟨_,by simpa using gR,kv⟩,ag5.trans (rP.bM (by simp[Oq];exact .inr ⟨r,fQ,rfl⟩))⟩,by dsimp only;omega⟩;exact aD.else dz rP (λg W=>rT.fresh g W) λg W e=>pI g e W;have k3:ch∈ls:=uG cq;refine aD.else (kt ch cq) rP (λg W=>rT.fresh g W) λg W=>?_;have MK:=h.apart;rw[<-r6 i.toNat ls,pA] at MK;have h2:=(jJ.1 (Bb.1 MK).2.1).1 ch cq;exact h2 g W;refine⟨p,ad,⟨i0,ea⟩,?_⟩;refine aD.store (enc:=cB) eY dz (by decide) (i:=i.toNat) (by simp;omega) (y:=⟨0,⟨none,0,0⟩,[]⟩) (B4 _) ad λhy kv rP _=>⟨⟨by omega,by omega⟩,⟨by omega,by omega,?_,λch cq=>?_,ag5.trans (rP.bM (by simp[Oq]))⟩,by dsimp only;omega⟩;have jG:(eU i.toNat (⟨0,⟨none,0,0⟩,[]⟩:av)++ls.drop i.toNat).set i.toNat ⟨0,⟨none,0,0⟩,[]⟩=eU (i+1).toNat (⟨0,⟨none,0,0⟩,[]⟩:av)++ls.drop (i+1).toNat:=by rw[pA];have:=abG (eU i.toNat (⟨0,⟨none,0,0⟩,[]⟩:av)) r ⟨0,⟨none,0,0⟩,[]⟩ (ls.drop (i.toNat+1));rw[N9] at this;rw[this,show(i+1).toNat=i.toNat+1 by omega,List.replicate_succ'];simp
 rw[jG] at kv;exact kv;rw[show(i+1).toNat=i.toNat+1 by omega] at cq;have k3:ch∈ls:=uG cq;exact aD.else (kt ch cq) rP eI λg W=>h.eu ch k3 g W
structure TabAt(u:H)(n:N)(dim:o)(L:J av):Prop where
 ex:∃(s:U) (v:H),u n=some (.cells #[.int .i64 dim,.slice s.a s.n s.c] 84 (0,0))/\v.le u/\v n=none/\dS v s L
 xR:L.Pairwise λa b=>a.id<b.id
def TabAt.bM{u':H}(h:TabAt u n dim L)(hu:u.le u'):TabAt u' n dim L:=by obtain⟨s,v,h1,h2,h3,a7⟩:=h.ex;exact⟨⟨s,v,hu _ _ h1,h2.trans hu,h3,a7⟩,h.xR⟩
abbrev zH:=o×J o
def acm(P:J zH)(id:o)(v:J o):J zH:=P.filter (λp=>decide (p.1<id))++(id,v)::P.filter (λp=>decide (id<p.1))
def aGE(P:J zH)(id:o):J zH:=P.filter λp=>p.1 !=id
def aAn(ag:L.Pairwise λa b=>a.id<b.id){id:o}{k:N}(hk:k<=L.length)(h1:∀(i:N) r,i<k->L[i]?=some r->r.id<id)(h2:∀r,L[k]?=some r->id<=r.id):
  L.take k=L.filter (λr=>decide (r.id<id))/\(∀r,L[k]?=some r->r.id≠id->L.drop k=L.filter (λr=>decide (id<r.id))/\∀r∈L,r.id≠id)/\(L.length<=k->L.filter (λr=>decide (id<r.id))=[]/\∀r∈L,r.id≠id)/\
  (∀r,L[k]?=some r->r.id=id->L.drop (k+1)=L.filter (λr=>decide (id<r.id))):=by
 have iG:∀r∈L.take k,r.id<id:=λr O=>by obtain⟨i,hi,rfl⟩:=pc.1 O;simp only[gL] at hi;exact h1 i _ (by omega) (by rw[Gk];exact cn (by omega))
 have eg:∀r∈L.drop k,id<=r.id:=λr O=>by
  obtain⟨i,hi,rfl⟩:=pc.1 O;simp only[nV] at hi;have de:k<L.length:=by omega
  have h0:=h2 _ (cn de);rw[aba];rcases Oa i with rfl|ad;exact h0;have:=nX.1 ag k (k+i) de (by omega) (by omega);omega
 have cL:L=L.take k++L.drop k:=(r6 k L).symm
 have aP:L.filter (λr=>decide (r.id<id))=L.take k:=by
  conv=>lhs;rw[cL]
  rw[vT,pS.2 λr O=>by simpa using iG r O,List.filter_eq_nil_iff.2 λr O=>by have:=eg r O;simp;omega,kA]
 have aC:L.filter (λr=>decide (id<r.id))=(L.drop k).filter (λr=>decide (id<r.id)):=by
  conv=>lhs;rw[cL]
  rw[vT,List.filter_eq_nil_iff.2 λr O=>by have:=iG r O;simp;omega,lu]
 have vd:∀r,L[k]?=some r->∀ch∈L.drop (k+1),r.id<ch.id:=λr O ch cq=>by obtain⟨de,rfl⟩:=ir.1 O;obtain⟨i,hi,rfl⟩:=pc.1 cq;simp only[nV] at hi;rw[aba];exact nX.1 ag k (k+1+i) de (by omega) (by omega)
 refine⟨aP.symm,λr O al=>?_,λar=>?_,λr O he=>?_⟩
 obtain⟨de,YP⟩:=ir.1 O
 have gr:=h2 r O
 have eh:∀ch∈L.drop k,id<ch.id:=λch cq=>by rw[s9 de,YP] at cq;rcases cE.1 cq with rfl|cq;omega;have:=vd r O ch cq;omega
 refine⟨by rw[aC,pS.2 λr O=>by simpa using eh r O],λch cq=>?_⟩
 rw[cL] at cq
 rcases cK.1 cq with h3|h3
 have:=iG ch h3;omega
 have:=eh ch h3;omega
 have:L.drop k=[]:=ry ar
 refine⟨by rw[aC,this];rfl,λch cq=>?_⟩
 rw[cL,this,kA] at cq
 have:=iG ch cq;omega
 obtain⟨de,YP⟩:=ir.1 O
 rw[aC,s9 de,YP,xN]
 have:decide (id<r.id)=ax:=by simp;omega
 rw[this]
 simp only[xA,xB]
 rw[pS.2 λch cq=>by have:=vd r O ch cq;simp;omega]
def ajG(L:J av)(f:zH->aI):(L.filter λr=>f r.bi).map av.bi=(L.map av.bi).filter f:=by rw[r8];rfl
def axt(L:J av)(id:o):(L.filter λr=>decide (r.id<id)).map av.bi=(L.map av.bi).filter λp=>decide (p.1<id):=ajG L λp=>decide (p.1<id)
def axs(L:J av)(id:o):(L.filter λr=>decide (id<r.id)).map av.bi=(L.map av.bi).filter λp=>decide (id<p.1):=ajG L λp=>decide (id<p.1)
def aAo(ag:L.Pairwise λa b=>a.id<b.id){r:av}:(L.filter (λx=>decide (x.id<r.id))++r::L.filter (λx=>decide (r.id<x.id))).Pairwise λa b=>a.id<b.id:=by
 refine Bb.2 ⟨ag.sublist JF,jJ.2 ⟨λx M=>by simpa using(hT.1 M).2,ag.sublist JF⟩,λa aE b Z=>?_⟩;have h1:a.id<r.id:=by simpa using(hT.1 aE).2
 rcases cE.1 Z with rfl|Z;exact h1;have h2:r.id<b.id:=by simpa using(hT.1 Z).2
 omega
def aAu{ap:U}{f:H->Prop}(ae:u n=some (.cells #[.int .i64 dim,.slice s.a s.n s.c] 84 (0,0)))(ac:f (u.ins n (.cells #[.int .i64 dim,.slice ap.a ap.n ap.c] 84 (0,0)))):
  H.aN u ((cr n 0 none).add 1) [.slice ap.a ap.n ap.c] f:=by
 rw[BW]
 refine⟨_,_,ae,rfl,by simp,by simp[cF],?_⟩
 have:wr #[.int .i64 dim,.slice s.a s.n s.c] 1 [.slice ap.a ap.n ap.c]=#[.int .i64 dim,.slice ap.a ap.n ap.c]:=by simp[wr]
 simp only[this]
 exact ac
def dS.nil(u:H):dS u ⟨none,0,0⟩ []:=⟨⟨rfl,cg _,by decide,.inl rfl⟩,λ_ h=>by cases h⟩
def aAR{GQ:H}{ap:U}{v:H}{kF:J av}(hu:u.le GQ)(ae:u n=some (.cells #[.int .i64 dim,.slice s.a s.n s.c] 84 (0,0)))(aA:v.le u)(yK:v n=none)
  (ab:aD u GQ 52 2 ap (kF.flatMap cB)) (b4:∀r∈kF,Ints v r.s r.v∨(Ints GQ r.s r.v/\∀g,r.s.aj=some g->u g=none)) (ag:kF.Pairwise λa b=>a.id<b.id):
  TabAt (GQ.ins n (.cells #[.int .i64 dim,.slice ap.a ap.n ap.c] 84 (0,0))) n dim kF/\∀c z,u c=some z->c≠n->(GQ.ins n (.cells #[.int .i64 dim,.slice ap.a ap.n ap.c] 84 (0,0))) c=some z:=by
 let w:H:=λc=>if c=n then none else GQ c
 have fu:w n=none:=aV rfl
 have dK:∀c,c≠n->w c=GQ c:=λc I=>az I
 have W:∀g,ap.aj=some g->g≠n:=λg W e=>by have:=ab.fresh g W;rw[e,ae] at this;cases this
 refine⟨⟨⟨ap,w,bf _ _ _,λc z I=>?_,fu,?_,λr O=>?_⟩,ag⟩,λc z I al=>by rw[bm _ _ al];exact hu c z I⟩
 by_cases e:c=n
 rw[e,fu] at I;cases I
 rw[dK c e] at I;rw[bm _ _ e];exact I
 exact bt.else ab.own.cC λg z h1 h2=>by rw[dK g (W g h1)];exact h2
 rcases b4 r O with h1|⟨h1,h2⟩
 refine Ints.mono h1 λc z I=>?_
 have:c≠n:=λe=>by rw[e,yK] at I;cases I
 rw[dK c this];exact hu c z (aA c z I)
 refine bt.else h1 λg z h3 a7=>?_
 have:g≠n:=λe=>by have:=h2 g h3;rw[e,ae] at this;cases this
 rw[dK g this];exact a7
def az8{id:o}{t:U}{q:J o}{K:aI->o->H->Prop}(h:TabAt u n dim L)(ar:L.length<=1000000)(ht:Ints u t q)
  (dx:fr id q dim (decide (id∈L.map (·.id))) L.length≠0->K ax (fr id q dim (decide (id∈L.map (·.id))) L.length) u)
  (bH:fr id q dim (decide (id∈L.map (·.id))) L.length=0->∀u' kF,TabAt u' n dim kF->kF.map av.bi=acm (L.map av.bi) id q->(∀c z,u c=some z->c≠n->u' c=some z)->K (decide (id∉L.map (·.id))) 0 u'):Vi (some ⟨n,0,none⟩) id t u K:=by
 obtain⟨s,v,ae,aA,yK,b1⟩:=h.ex
 have rL:=b1.mono aA
 have dw:=rL.len
 have auK:=rL.max
 have bK:u.cell? ⟨n,0,none⟩=some (.int .i64 dim):=a1 ae 0
 have c1:u.cell? ((cr n 0 none).add 1)=some (.slice s.a s.n s.c):=by rw[BW];exact a1 ae 1
 have gZ:=bt.cap rL.1
 have ahg:∀(ck:J av),∀y∈ck.flatMap cB,y.oneCell'=ak:=λck y ah=>by obtain⟨r,_,O⟩:=ee.1 ah;exact B4 r y O
 have bad:∀Y,fr id q dim (decide (id∈L.map (·.id))) L.length=Y->Y≠0->K ax Y u:=λY e aB=>by subst e;exact dx aB
 apply aDI
 refine alx ⟨λed=>bad 50 ?_ (by decide),λb7=>?_⟩
 have:¬(1<=id/\id<=1000000000):=by simpa using ed
 unfold fr;rw[aV (by omega)]
 have agV:1<=id/\id<=1000000000:=by simpa using b7
 have Yo:¬(id<1∨1000000000<id):=by omega
 refine⟨_,rfl,dim,bK,alw ht ⟨λal=>bad _ ?_ al,λhe=>?_⟩⟩
 unfold fr;rw[az Yo,aV al]
 intro anG aq9
 have found:∀k:N,k<=L.length->(∀(i:N) r,i<k->L[i]?=some r->r.id<id)->(∀r,L[k]?=some r->id<=r.id)->anG k u:=by
  intro k hk h1 h2;obtain⟨aP,aC,c0,ff⟩:=aAn h.xR hk h1 h2;refine aq9 _ _ λBM Aa=>?_;have fresh:∀dD:aI,(dD=ak↔id∉L.map (·.id))->(dD=ax->∃r,L[k]?=some r/\r.id=id)->(dD=ak->L.drop k=L.filter (λr=>decide (id<r.id)))->BM dD u:=by
   intro dD oP wO LG;refine Aa _ _ λadF WW=>?_;have put:(dD=ak->L.length<512)->∀adX amU,adF adX amU u:=by
    intro fq adX amU;refine WW _ _ _ ⟨_,rfl,s,c1,?_⟩;refine lj (P:=aH) ic (l:=k) (h:=s.n) (m:=s.c) (.inr rfl) (.inl ⟨rfl,rfl⟩) (.inl ⟨rfl,rfl⟩) (by omega) gZ (cg _) gZ ?_;intro anB aq5;have rest:∀(zi:U),dS u zi (L.filter λr=>decide (id<r.id))->zi.n<=L.length->anB zi u:=by
     intro zi Cf aFb;have auh:=ht.len;have aFY:q.length<=64:=by have:=oA he;omega
     have atH:aD u u 3 1 ⟨none,0,0⟩ []:=aD.nil (H.le.refl u) 3 1;have rV:bt u t 1 (q.flatMap encI):=by have:=ht;unfold Ints at this;rw[<-va] at this;exact this
     refine aq5 _ _ (Oy (s:=⟨none,0,0⟩) (x:=t) lQ (by decide) atH rV (λy ah=>by obtain⟨r,_,O⟩:=ee.1 ah;exact zW r y O) (by show 0+t.n<=_;omega) (by show(0+t.n)*8<=_;omega) λiM kC q7 _=>?_)
     rw[lu] at q7;have Mn:=q7.le _ _ ae;refine⟨_,rfl,s,by rw[BW];exact a1 Mn 1,?_⟩;refine lj (P:=aH) ic (l:=0) (h:=k) (m:=s.c) (.inl ⟨rfl,rfl⟩) (.inr rfl) (.inl ⟨rfl,rfl⟩) (by omega) (by omega) (cg _) gZ ?_;have iG:=(rL.mono q7.le).part (l:=0) (h:=k) (m:=s.c) (by omega) (by omega) (by omega) (cg _);simp only[S9,xH] at iG;have WQ:(s.part 0 k s.c 2).n=k:=by simp[U.part]
     have atI:aD kC kC 52 2 ⟨none,0,0⟩ []:=aD.nil (H.le.refl kC) 52 2;refine Oy (s:=⟨none,0,0⟩) (x:=s.part 0 k s.c 2) ic (by decide) atI iG.1 (ahg _) (by rw[WQ];show 0+k<=_;omega) (by rw[WQ];show(0+k)*32<=_;omega) λayk ame RW Yj=>?_;rw[WQ] at Yj;have aFO:ayk.n=k:=by rw[Yj];exact jI k
     rw[lu] at RW;refine np ic (wB id iM) (by decide) rfl (by simp[cF]) RW (by omega) (by omega) λph lR w8 RP _ _ _=>?_;have mT:(L.take k).flatMap cB++ [.int .i64 id,.slice iM.a iM.n iM.c]=(L.take k++ [(⟨id,iM,q⟩:av)]).flatMap cB:=by simp[cB]
     rw[mT] at w8;have ath:u.le lR:=q7.le.trans w8.le;refine Oy (s:=ph) (x:=zi) ic (by decide) w8 (Cf.mono ath).1 (ahg _) (by omega) (by omega) λaGy amg tV _=>⟨_,rfl,aAu (tV.le _ _ Mn) ?_⟩;rw[<-gU] at tV;have Lq:L.take k++ [(⟨id,iM,q⟩:av)]++L.filter (λr=>decide (id<r.id))=L.filter (λx=>decide (x.id<id))++ ⟨id,iM,q⟩::L.filter (λx=>decide (id<x.id)):=by rw[aP];simp
     rw[Lq] at tV;have oZ:=aAo h.xR (r:=(⟨id,iM,q⟩:av));have ati:u.le amg:=q7.le.trans tV.le;have b4:∀r∈L.filter (λx=>decide (x.id<id))++(⟨id,iM,q⟩:av)::L.filter (λx=>decide (id<x.id)),Ints v r.s r.v∨(Ints amg r.s r.v/\∀g,r.s.aj=some g->u g=none):=λr O=>by rcases cK.1 O with O|O;exact .inl (b1.2 r (hT.1 O).1);rcases cE.1 O with rfl|O;exact .inr ⟨(q7.mono tV.le).ints,λg W=>q7.fresh g W⟩;exact .inl (b1.2 r (hT.1 O).1)
     obtain⟨cx,cS⟩:=aAR ati ae aA yK (tV.weaken q7.le) b4 oZ;have Ig:fr id q dim (decide (id∈L.map (·.id))) L.length=0:=by
      unfold fr;rw[az Yo,az (by simpa using he),az];rintro⟨bE,fO⟩;have kL:id∉L.map (·.id):=by simpa using bE
      have:=fq (oP.2 kL);omega
     have arZ:decide (id∉L.map (·.id))=dD:=by
      cases dD with
      |true=>exact lP (oP.1 rfl)|false=>exact nY λbE=>by have:=oP.2 bE;cases this
     have:=bH Ig _ _ cx (by rw[dY,gl,axt,axs];rfl) cS
     rw[arZ] at this;exact this
    refine⟨λZ=>?_,λZ=>?_⟩;have ar1:dD=ax:=by simpa using Z
    obtain⟨r,O,xd⟩:=wO ar1;have hC:k<L.length:=(ir.1 O).1;refine⟨_,rfl,s,c1,⟨by omega,by omega⟩,?_⟩;refine lj (P:=aH) ic (l:=k+1) (h:=s.n) (m:=s.c) (.inr rfl) (.inl ⟨rfl,rfl⟩) (.inl ⟨rfl,rfl⟩) (by omega) gZ (cg _) gZ ?_;have eg:=rL.part (l:=k+1) (h:=s.n) (m:=s.c) (by omega) (cg _) gZ (cg _);rw[ho (by simp;omega),ff r O xd] at eg;exact rest _ eg (by show s.n-(k+1)<=_;omega);have eg:=rL.part (l:=k) (h:=s.n) (m:=s.c) (by omega) (cg _) gZ (cg _);rw[ho (by simp;omega),LG Z] at eg;exact rest _ eg (by show s.n-k<=_;omega)
   refine⟨λZ=>⟨_,rfl,s,c1,λRL=>bad 2 ?_ (by decide),λsM=>put (λ_=>by omega) _ _⟩,λZ=>put (λbE=>by rw[Z] at bE;cases bE) _ _⟩;have kL:id∉L.map (·.id):=oP.1 Z;unfold fr;rw[az Yo,az (by simpa using he),aV ⟨nY kL,by omega⟩]
  have ajn:(∀r∈L,r.id≠id)->id∉L.map (·.id):=λbE hm=>by obtain⟨r,O,e⟩:=bk.1 hm;exact bE r O e
  refine⟨_,rfl,s,c1,λX5=>?_,λX5=>?_⟩;have hC:L.length<=k:=by omega
  obtain⟨f1,f2⟩:=c0 hC;exact fresh ak ⟨λ_=>ajn f2,λ_=>rfl⟩ (λbE=>by cases bE) λ_=>by rw[f1,ry hC]
  have hC:k<L.length:=by omega
  obtain⟨p,ad,r,O,d0,d1,d2⟩:=rL.at (x:=(k:o)) (by omega) (by omega);rw[xM] at O;refine⟨_,rfl,s,c1,p,ad,⟨by omega,by omega⟩,_,d0,?_⟩;by_cases xd:r.id=id;have:(!decide (r.id=id))=ax:=by simp[xd]
  dsimp only;rw[this];exact fresh ax ⟨λbE=>(by cases bE),λbE=>a6 (bk.2 ⟨r,du O,xd⟩) bE⟩ (λ_=>⟨r,O,xd⟩) λbE=>by cases bE
  have:(!decide (r.id=id))=ak:=by simp[xd]
  dsimp only;rw[this];obtain⟨f1,f2⟩:=aC r O xd;exact fresh ak ⟨λ_=>ajn f2,λ_=>rfl⟩ (λbE=>by cases bE) λ_=>f1
 refine⟨λi w=>w=u/\0<=i/\i<=L.length/\∀(j:N) r,j<i.toNat->L[j]?=some r->r.id<id,λi _=>L.length-i.toNat,⟨rfl,by omega,by omega,λj r aM=>by simp at aM⟩,?_⟩
 rintro i w ⟨rfl,i0,i1,Xv⟩
 intro aEU aq8
 refine⟨_,rfl,s,c1,λea=>?_,λtO=>?_⟩
 obtain⟨p,ad,r,O,d0,d1,d2⟩:=rL.at i0 ea
 refine⟨_,rfl,s,c1,p,ad,⟨i0,ea⟩,_,d0,λbC=>aq8 _ ⟨⟨by omega,by omega⟩,⟨rfl,by omega,by omega,λj ch aM cq=>?_⟩,by dsimp only;omega⟩,λgr=>?_⟩
 by_cases e:j=i.toNat
 rw[e,O] at cq;cases cq;exact bC
 exact Xv j ch (by omega) cq
 have:=found i.toNat (by omega) Xv λch cq=>by rw[O] at cq;cases cq;omega
 rw[tb i0] at this
 exact this
 have:=found i.toNat (by omega) Xv λch cq=>by have:=(ir.1 cq).1;omega
 rw[tb i0] at this
 exact this
def aA8{P:J zH}{id:o}(h:id∉P.map (·.1))(v:J o):(acm P id v).Perm ((id,v)::P):=by
 unfold acm;refine xJ.trans (iL _ ?_);induction P with
 |nil=>exact Gl _|cons p P aL=>
  simp only[gl,cE,not_or] at h;have:=aL h.2;rcases Int.lt_trichotomy p.1 id with h1|h1|h1;have aa:decide (p.1<id)=ak:=by simpa using h1
  have a2:decide (id<p.1)=ax:=by simp;omega
  simp only[xN,aa,a2,qx,xA,xB,vO];exact iL _ this;exact a6 h1.symm h.1;have aa:decide (p.1<id)=ax:=by simp;omega
  have a2:decide (id<p.1)=ak:=by simpa using h1
  simp only[xN,aa,a2,qx,xA,xB];exact xJ.trans (iL _ this)
def ajI{P Q:J zH}(ad:P.Pairwise λa b=>a.1<b.1)(aO:Q.Pairwise λa b=>a.1<b.1)(h:P.Perm Q):P=Q:=by
 induction P generalizing Q with
 |nil=>exact(ly (by have:=h.length_eq;simpa using this.symm)).symm|cons p P aL=>
  cases Q with
  |nil=>have:=h.length_eq;simp at this|cons q Q=>
   obtain⟨h1,h2⟩:=jJ.1 ad;obtain⟨h3,a7⟩:=jJ.1 aO;have e:p=q:=by have auc:p∈q::Q:=h.mem_iff.1 (.head _);have YL:q∈p::P:=h.mem_iff.2 (.head _);rcases cE.1 auc with bE|bE;exact bE;rcases cE.1 YL with fO|fO;exact fO.symm;have:=h3 p bE;have:=h1 q fO;omega
   subst e;rw[aL h2 a7 ((aa1 p).1 h)]
def TabAt.Dm(h:TabAt u n dim L):(L.map av.bi).Pairwise λa b=>a.1<b.1:=ta.2 h.xR
def lZ(L:J av):L.map (·.id)=(L.map av.bi).map (·.1):=by rw[ez];rfl
def az7{l:J av}{d:o}{K:ay ba->H->Prop}(ag:dS u s l)(ar:gX l d)(aq:∀n u' L,u n=none->u.le u'->TabAt u' n d L->(L.map av.bi).Perm (l.map av.bi)->K (some ⟨n,0,none⟩) u'):DQ s d u K:=by
 have dw:=ag.len;have hlen:=ar.len;apply aDH;intro n ae;have hle:=bW (u:=u) (b:=n) (.cells #[.int .i64 d,.slice none 0 0] 84 (0,0)) ae;refine⟨λi w=>0<=i/\i<=l.length/\u.le w/\∃L,TabAt w n d L/\(L.map av.bi).Perm ((l.take i.toNat).map av.bi),λi _=>l.length-i.toNat,
  ⟨by omega,by omega,hle,[],⟨⟨⟨none,0,0⟩,u,bf _ _ _,hle,ae,dS.nil u⟩,mE⟩,by simp⟩,?_⟩
 rintro i w ⟨i0,i1,hw,L,aR,ad⟩;refine⟨λea=>?_,λtO=>?_⟩;obtain⟨p,iT,r,O,bK,c1,c2⟩:=(ag.mono hw).at i0 ea;have hi:i.toNat<l.length:=by omega
 have fQ:r∈l:=du O;have ve:L.length=i.toNat:=by have:=ad.length_eq;simp at this;omega
 have w5:r.id∉L.map (·.id):=λhm=>by rw[lZ] at hm;have rR:=((ad.map (·.1)).mem_iff (a:=r.id)).1 hm;rw[<-lZ] at rR;obtain⟨ch,cq,e⟩:=bk.1 rR;obtain⟨j,aM,rfl⟩:=pc.1 cq;simp only[gL] at aM;rw[Gk] at e;have:=nX.1 ar.nodup j i.toNat (by simp;omega) (by simp;omega) (by omega);simp only[Di] at this;rw[cn hi] at O;rw[cO O] at this;exact this e
 have aA:=ar.v r fQ;have b7:=ar.id r fQ;have Ig:fr r.id r.v d (decide (r.id∈L.map (·.id))) L.length=0:=by unfold fr;rw[az (by omega),az,az];rintro⟨_,h2⟩;omega;have:=y3 aA.2 (by have:=ar.dim;have:=aA.1;omega);rw[aA.1] at this;simpa using this
 refine⟨p,iT,⟨i0,ea⟩,_,bK,_,c1,az8 aR (by omega) c2 (λh=>a6 Ig h) λ_ u' kF en Lq hk=>⟨⟨by omega,by omega⟩,⟨by omega,by omega,λc z I=>hk c z (hw c z I) λe=>(by rw[e,ae] at I;cases I),kF,en,?_⟩,by dsimp only;omega⟩⟩;rw[Lq,show(i+1).toNat=i.toNat+1 by omega,gT,O,dY];refine(aA8 (by rw[<-lZ];exact w5) r.v).trans ?_;refine(iL _ ad).trans ?_;exact(l5 _ _).symm;have hi:i.toNat=l.length:=by have:¬i<(s.n:o):=tO;omega
 rw[hi,ni] at ad;exact aq n w L ae hw aR ad
end
namespace eA
section
variable{u ai v B:H}{b ck aJ cc n:N}{q S:J o}{s:U}{k:o}{g:J (o×dj)}
def NV(g:J (o×dj)):(jh g).length=g.length:=by simp[jh]
def ak6{af:N->ay bu}{T:aT}{K:o->H->Prop}(h:ef af u b T)(aq:K T.g.length u):UD (some ⟨b,0,none⟩) u K:=by obtain⟨_,_,_,fM,_⟩:=kB h;apply aB8;refine⟨λe=>(by cases e),λ_=>⟨_,rfl,_,fM,v7 vF h.map ?_⟩⟩;rw[NV];exact aq
def In.aci{af:N->ay bu}{T:aT}(h:In ai u af b T)(ag:∀g,s.aj=some g->af g=none/\ai g=none/\u g≠none)(id:o):
  ∃aY,In ai u aY b T/\(∀g,s.aj=some g->aY g=some (.vec id))/\(∀c,s.aj≠some c->aY c=af c):=by
 let aY:N->ay bu:=λc=>open Classical in if s.aj=some c then some (.vec id) else af c
 have aP:∀c,s.aj=some c->aY c=some (.vec id):=λc I=>aV I
 have aC:∀c,s.aj≠some c->aY c=af c:=λc I=>az I
 have c0:∀c,af c≠none->aY c=af c:=λc I=>aC c λe=>I (ag c e).1
 refine⟨aY,⟨h.aF.bM c0 λ_ _ ab _=>ab,h.le,λc I=>?_,λc I=>?_⟩,aP,aC⟩
 by_cases e:s.aj=some c
 exact(ag c e).2.1
 rw[aC c e] at I;exact h.out c I
 by_cases e:s.aj=some c
 exact(ag c e).2.2
 rw[aC c e] at I;exact h.known c I
structure tp(ai u:H)(af:N->ay bu)(b:N)(T:aT)(id:o)(v:J o)(u':H)(aY:N->ay bu)(bx:aT):Prop where
 is:In ai u' aY b bx
 eQ:gy u af u' aY
 ok:dP bx
 rows:(e4 bx.g).Perm ((id,v)::(e4 T.g).filter λx=>x.1 !=id)
 dim:bx.dim=T.dim
 cj:bx.cj=T.cj
def uK(g:J (o×dj)):(e4 g).map (·.1)=g.map (·.1):=by unfold e4;rw[ez];rfl
def ak7{af:N->ay bu}{T:aT}{id:o}{t:U}{K:aI->o->H->Prop}(h:In ai u af b T)(aR:dP T)(ka:lD ai)(ht:Ints u t q)(fh:∀g,t.aj=some g->af g=none)
  (dx:fr id q T.dim (decide (id∈T.g.map (·.1))) T.g.length≠0->K ax (fr id q T.dim (decide (id∈T.g.map (·.1))) T.g.length) u)
  (bH:fr id q T.dim (decide (id∈T.g.map (·.1))) T.g.length=0->∀u' aY bx,tp ai u af b T id q u' aY bx->K (decide (id∉T.g.map (·.1))) 0 u'):Px (some ⟨b,0,none⟩) id t u K:=by
 obtain⟨bK,_,_,fM,_⟩:=kB h.aF
 apply amC
 refine⟨λe=>(by cases e),λ_=>⟨_,rfl,_,fM,?_⟩⟩
 refine tf vF h.aF.map (ct:=.ptr) ((eL T.g id).map λn=>(⟨n.p,0,none⟩:ba)) (by rw[Cd];cases eL T.g id<;>rfl) ?_
 have iA:(fN (jh T.g) id).isSome=decide (id∈T.g.map (·.1)):=by
  rw[Cd,Tl];cases e:eL T.g id with
  |none=>rw[nY (z6.1 e)];rfl|some n=>rw[lP (bk.2 ⟨_,ih e,rfl⟩)];rfl
 rw[iA]
 refine⟨_,rfl,_,rfl,_,bK,_,fM,v7 vF h.aF.map ⟨H.le.refl u,JU ht ?_⟩⟩
 rw[NV]
 refine⟨λal=>dx al,λhe=>?_⟩
 have bH:=bH he
 have ke:¬(id<1∨1000000000<id)/\gn q T.dim=0/\¬(decide (id∈T.g.map (·.1))=ax/\512<=(T.g.length:o)):=by unfold fr at he;by_cases h1:id<1∨1000000000<id;rw[aV h1] at he;cases he;rw[az h1] at he;by_cases h2:gn q T.dim≠0;rw[aV h2] at he;exact a6 he h2;rw[az h2] at he;by_cases h3:decide (id∈T.g.map (·.1))=ax/\512<=(T.g.length:o);rw[aV h3] at he;cases he;exact⟨h1,by simpa using h2,h3⟩
 obtain⟨d1,d2,d3,d4⟩:=oA ke.2.1
 have lay:∀(aS:H) (cZ:N->ay bu) (a8:aT),In ai aS cZ b a8->gy u af aS cZ->dP a8->e4 a8.g=(e4 T.g).filter (λx=>x.1 !=id)->a8.dim=T.dim->a8.cj=T.cj->
   oC t aS λdp gC=>H.le aS gC/\GZ (some ⟨b,0,none⟩) id dp gC λxU=>K (!decide (decide (id∈T.g.map (·.1))=ak)) 0 xU:=by
  intro aS cZ a8 h1 mX sF vq sI gi
  have q1:Ints aS t q:=bt.else ht λg z W ab=>mX.bM g z ab (fh g W)
  refine sc q1 (by have:=q1.len;omega) λdp gC fE _=>⟨fE.le,?_⟩
  have wL:=h1.mono fE.le
  obtain⟨hY,h2,xg,jT⟩:=wL.aci (s:=dp) (λg W=>⟨h1.fresh (fE.fresh g W),h1.le.none (fE.fresh g W),uu fE W⟩) id
  have w5:id∉a8.g.map (·.1):=λhm=>by rw[<-uK,vq] at hm;obtain⟨x,M,e⟩:=bk.1 hm;have:=(hT.1 M).2;simp[e] at this
  have hlen:a8.g.length<=512:=by
   have aP:a8.g.length=((e4 T.g).filter λx=>x.1 !=id).length:=by rw[<-vq];simp[e4]
   by_cases b4:id∈T.g.map (·.1);have:((e4 T.g).filter λx=>x.1 !=id).length<(e4 T.g).length:=by rw[Oc];rw[<-uK] at b4;obtain⟨x,M,e⟩:=bk.1 b4;exact⟨x,M,by simp[e]⟩
   have bE:(e4 T.g).length=T.g.length:=by simp[e4]
   have:=aR.k.ok.small;omega;have a7:¬512<=(T.g.length:o):=λbE=>ke.2.2 ⟨nY b4,bE⟩;have bE:(e4 T.g).length=T.g.length:=by simp[e4]
   have:=Bh (λx:o×J o=>x.1 !=id) (e4 T.g);omega
  refine abR h2 sF ka w5 (by omega) fE.ints xg ⟨by rw[sI];exact d3,d4⟩ hlen λxU oN D0 h3 mY Xe Av HW Ah=>?_
  have Z:(!decide (decide (id∈T.g.map (·.1))=ak))=decide (id∉T.g.map (·.1)):=by by_cases b4:id∈T.g.map (·.1)<;>simp[b4]
  rw[Z]
  refine bH xU oN D0 ⟨h3,?_,Xe,?_,HW.trans sI,Ah.trans gi⟩
  have gone:∀c,aS c=none->af c≠none∨u c=none:=λc I=>by
    cases e:af c with
    |some x=>exact .inl (by simp)|none=>
     cases aC:u c with
     |none=>exact .inr rfl|some z=>rw[mX.bM c z aC e] at I;cases I
  refine⟨λc z I ac=>?_,λc I=>?_⟩
  have bE:=mX.bM c z I ac
  have e:dp.aj≠some c:=λe=>by have:=fE.fresh c e;rw[bE] at this;cases this
  exact mY.bM c z (fE.le c z bE) (by rw[jT c e];exact mX.none I ac)
  rcases mY.grow c I with bE|bE
  by_cases e:dp.aj=some c
  exact gone c (fE.fresh c e)
  rw[jT c e] at bE;exact mX.grow c bE
  exact gone c (fE.le.none bE)
  rw[Av,vq]
  exact l5 _ _
 refine TM h aR (λed aS gI=>?_) λn ae aS cZ a8 kg=>?_
 refine lay aS af T (h.mono gI) (gy.mono gI) aR ?_ rfl rfl
 refine(pS.2 λx M=>?_).symm
 have:x.1≠id:=λe=>z6.1 ed (by rw[<-uK];exact bk.2 ⟨x,M,e⟩)
 simpa using this
 exact lay aS cZ a8 kg.is kg.eQ kg.ok kg.rows kg.dim kg.cj
def ak8{af:N->ay bu}{T:aT}{K:U->H->Prop}(h:In ai u af b T)(aR:dP T)
  (aq:∀s ls u',qO u u' s ls->(ls.map av.bi).Perm (e4 T.g)->(ls.Pairwise λa b=>a.id<=b.id)->K s u'):UE (some ⟨b,0,none⟩) u K:=by
 obtain⟨_,_,_,fM,_⟩:=kB h.aF
 have bY:=h.aF.nodup
 have fq:=aR.k.ok.small
 apply aB9
 refine⟨λe=>(by cases e),λ_=>⟨_,rfl,_,fM,JQ vF h.aF.map λr z O wX=>?_⟩⟩
 have hle:=bW (u:=u) (b:=r) z O
 refine⟨λnZ w=>u.le w/\∃(dl:J (o×ao)) (D:J av),aD u w 52 2 nZ (D.flatMap cB)/\mM w r T.m (jh T.g) dl/\nZ.aj≠some r/\
   (∀x∈D,(x.id,x.v)∈e4 T.g/\Ints u x.s x.v)/\D.map (·.id)=dl.map (·.1),λnZ _=>T.g.length-nZ.n,
  ⟨hle,[],[],aD.nil hle _ _,wX,by simp[U.aj],λx M=>(by cases M),rfl⟩,?_⟩
 rintro nZ w ⟨hw,dl,D,ab,iI,HT,eM,ke⟩
 have afJ:nZ.n=D.length:=gY eY (by decide) ab.own.cC
 have Q2:D.length=dl.length:=by have:=dV hR ke;simpa using this
 refine I2 iI (λhP=>?_) λp hE ad Ao pF=>Hr pF ?_
 have rM:dS w nZ D:=⟨ab.own.cC,λx M=>(eM x M).2.mono hw⟩
 have XX:(D.map (·.id)).Perm (T.g.map (·.1)):=by rw[ke,<-SM];exact hP.map _
 have k3:∀x∈D,∃n,(x.id,n)∈T.g/\n.v=x.v:=λx M=>by obtain⟨y,ah,e⟩:=bk.1 (eM x M).1;simp only[Gc] at e;exact⟨y.2,by rw[<-e.1];exact ah,e.2⟩
 refine zo rM (λx M=>?_) (by have:=XX.length_eq;simp at this;omega) (λx M=>?_) λgM ls gV b1 kx oZ=>aq gM ls gV ?_ ?_ oZ
 obtain⟨n,ae,_⟩:=k3 x M
 exact aR.k.ok.ids (x.id,n) ae
 obtain⟨n,ae,aA⟩:=k3 x M
 have h1:=(aR.k.ok.vec (x.id,n) ae).1
 have h2:=aR.k.ok.hs
 simp only at h1
 rw[aA] at h1
 omega
 exact⟨b1.own.weaken hw,λx M=>(b1.inner x M).weaken hw,b1.eu,b1.apart⟩
 refine kx.trans ?_
 have nI:((e4 T.g).map (·.1)).Nodup:=by rw[uK];exact bY
 have atK:((D.map av.bi).map (·.1)).Nodup:=by rw[<-lZ];exact XX.nodup_iff.2 bY
 have awI:(e4 T.g).Nodup:=(ta.1 nI).imp λh e=>h (by rw[e])
 have awJ:(D.map av.bi).Nodup:=(ta.1 atK).imp λh e=>h (by rw[e])
 refine(Ti awJ awI).2 λp=>⟨λad=>?_,λad=>?_⟩
 obtain⟨x,M,rfl⟩:=bk.1 ad
 exact(eM x M).1
 have:p.1∈D.map (·.id):=XX.mem_iff.2 (by rw[<-uK];exact bk.2 ⟨p,ad,rfl⟩)
 obtain⟨x,M,e⟩:=bk.1 this
 have h1:=(eM x M).1
 have aC:(x.id,x.v)=p:=by
  obtain⟨i,hi,sz⟩:=pc.1 h1;obtain⟨j,aM,qU⟩:=pc.1 ad;have key:∀{i j:N} (hi:i<(e4 T.g).length) (aM:j<(e4 T.g).length),i<j->((e4 T.g)[i]).1≠((e4 T.g)[j]).1:=λhi aM gE=>by have:=nX.1 nI _ _ (by simpa using hi) (by simpa using aM) gE;simpa using this
  rcases SR i j with gE|gE|gE;exact a6 (by rw[sz,qU];exact e) (key hi aM gE);subst gE;rw[sz] at qU;exact qU;exact a6 (by rw[sz,qU];exact e.symm) (key aM hi gE)
 exact bk.2 ⟨x,M,aC⟩
 obtain⟨x,M,rfl⟩:=bk.1 ad
 have eG:=h.aF.nodes x M
 show ∃axS:ba,some (cr x.2.p 0 none)=some axS/\_
 have kU:w r≠none:=by obtain⟨_,_,_,_,_,h3,_⟩:=iI;rw[h3];simp
 have Fs:u r=none:=O
 have CM:u.le (w.ins r hE):=λc y I=>by rw[bm _ _ (λe=>by rw[e,Fs] at I;cases I)];exact hw c y I
 have ar5:(w.ins r hE).cell? ⟨x.2.p,0,none⟩=some (.slice x.2.sv.a x.2.sv.n x.2.sv.c):=by refine qg CM ?_;rw[FU eG];exact awW _
 have dz:aD u (w.ins r hE) 52 2 nZ (D.flatMap cB):=⟨ab.own.le λc y I ah=>by rw[bm _ _ (λe=>HT (by rw[I,e]))];exact ah,CM,ab.fresh⟩
 have yu:=ZF pF
 rw[NV] at yu
 simp only[eC,rA] at yu
 refine⟨_,rfl,_,ar5,?_⟩
 refine np ic (wB x.1 x.2.sv) (by decide) rfl (by simp[cF]) dz (by omega) (by omega) λiM kC q7 atC agy arW _=>⟨⟨q7.le,dl++ [(x.1,.pointer (some ⟨x.2.p,0,none⟩))],D++ [⟨x.1,x.2.sv,x.2.v⟩],?_,?_,?_,?_,?_⟩,by dsimp only;omega⟩
 rw[gU]
 have:([⟨x.1,x.2.sv,x.2.v⟩]:J av).flatMap cB=[.int .i64 x.1,.slice x.2.sv.a x.2.sv.n x.2.sv.c]:=by simp[cB]
 rw[this];exact q7
 refine pF.else (λy ah=>agy _ _ ah λe=>?_) λy ah=>agy _ _ ah HT
 have:=dz.fresh _ e
 exact(h.known T.m (by rw[h.aF.dh];simp)) this
 intro e
 rcases arW r e with bE|bE
 exact HT bE
 rw[bf] at bE;cases bE
 intro y ah
 rcases cK.1 ah with ah|ah
 exact eM y ah
 simp at ah
 subst ah
 exact⟨bk.2 ⟨x,M,rfl⟩,eG.vec⟩
 simp[ke]
structure DL(u u':H)(l:J av)(dim cj:o)(b:N)(af:N->ay bu)(T:aT):Prop where
 is:In u u' af b T
 ok:dP T
 rows:(e4 T.g).Perm (l.map av.bi)
 dim:T.dim=dim
 cj:T.cj=cj
def wA(l:J av)(dim cj:o):o:=if lz l dim≠0 then lz l dim else if cj<1∨16<cj then 1 else 0
def ak5{l:J av}{dim cj seed:o}{K:ay ba->o->H->Prop}(ag:dS u s l)(ka:lD u)(MT:dn seed)
  (dx:wA l dim cj≠0->K none (wA l dim cj) u) (bH:wA l dim cj=0->∀b af T u',DL u u' l dim cj b af T->K (some ⟨b,0,none⟩) 0 u'):Pv s dim cj seed u K:=by
 have bad:∀Y,wA l dim cj=Y->Y≠0->K none Y u:=λY e aB=>by subst e;exact dx aB
 apply aB5
 refine JT ag ⟨λal=>bad _ (aV al) al,λhe=>?_⟩
 intro nx oO
 refine⟨λh1=>bad 1 (by unfold wA;rw[az (by simpa using he),aV (.inl h1)]) (by decide),λh1=>⟨λh2=>bad 1 (by unfold wA;rw[az (by simpa using he),aV (.inr h2)]) (by decide),λh2=>oO _ _ _ ?_⟩⟩
 have bH:=bH (by unfold wA;rw[az (by simpa using he),az (by omega)])
 have b1:=Dj.1 he
 have hlen:=b1.len
 apply acA
 intro vG RT
 have FJ:=bW (u:=u) (b:=vG) (.cells #[.int .u64 seed] 215 (0,0)) RT
 refine GC λm pN hm im=>?_
 intro o6 Ik
 have Yh:m≠vG:=λe=>by rw[e,bf] at hm;cases hm
 have M4:o6≠m:=λe=>by rw[e,bf] at Ik;cases Ik
 have RU:(u.ins vG (.cells #[.int .u64 seed] 215 (0,0))) o6=none:=by rw[bm _ _ M4] at Ik;exact Ik
 have Y6:o6≠vG:=λe=>by rw[e,bf] at RU;cases RU
 have atT:u o6=none:=by rw[bm _ _ Y6] at RU;exact RU
 have Ak:u m=none:=by rw[bm _ _ Yh] at hm;exact hm
 obtain⟨nz,jR⟩:∃nz:aT,nz=⟨dim,cj,vG,m,seed,[],0⟩:=⟨_,rfl⟩
 let pw:N->ay bu:=λc=>if c=o6 then some .tree else if c=vG then some .src else if c=m then some .map else none
 have f1:pw o6=some .tree:=aV rfl
 have f2:pw vG=some .src:=(az (dv Y6)).trans (aV rfl)
 have f3:pw m=some .map:=(az (dv M4)).trans ((az Yh).trans (aV rfl))
 have f4:∀c,pw c≠none->c=o6∨c=vG∨c=m:=λc I=>by simp only[pw] at I;by_cases aP:c=o6;exact .inl aP;rw[az aP] at I;by_cases aC:c=vG;exact .inr (.inl aC);rw[az aC] at I;by_cases c0:c=m;exact .inr (.inr c0);rw[az c0] at I;exact a6 rfl I
 have fP:(fe nz).toArray=#[.int .i64 dim,.int .i64 cj,.pointer (some ⟨vG,0,none⟩),.map (some m),.int .i64 0]:=by rw[jR];rfl
 rw[<-fP]
 obtain⟨w,hw⟩:∃w,((u.ins vG (.cells #[.int .u64 seed] 215 (0,0))).ins m pN).ins o6 (.cells (fe nz).toArray 184 (0,0))=w:=⟨_,rfl⟩
 have X8:u.le w:=by rw[<-hw];exact(FJ.trans (bW _ hm)).trans (bW _ Ik)
 have fu:w o6=some (.cells (fe nz).toArray 184 (0,0)):=by rw[<-hw,bf]
 have dK:w vG=some (.cells #[.int .u64 seed] 215 (0,0)):=by rw[<-hw,bm _ _ (dv Y6),bm _ _ (dv Yh),bf]
 have hy:fs w m []:=im.else λz ab=>by rw[<-hw,bm _ _ (dv M4)];exact ab
 have afM:In u w pw o6 nz:=by refine⟨⟨fu,by rw[jR];exact dK,by rw[jR];exact MT,by rw[jR];exact hy,f1,by rw[jR];exact f2,by rw[jR];exact f3,λx M=>by rw[jR] at M;cases M⟩,X8,λc I=>?_,λc I=>?_⟩;rcases f4 c I with rfl|rfl|rfl;exact atT;exact RT;exact Ak;rcases f4 c I with rfl|rfl|rfl;rw[fu];simp;rw[dK];simp;obtain⟨_,_,h3,_⟩:=hy;rw[h3];simp
 have arp:dP nz:=by rw[jR];exact⟨⟨⟨b1.dim,λx M=>(by cases M),λx M=>(by cases M),λx M=>(by cases M),λx M=>(by cases M),by simp⟩,λi n lv l ae=>(by cases ae)⟩,⟨by show 1<=cj;omega,by show cj<=16;omega⟩,.inl ⟨rfl,rfl⟩⟩
 have Eg:nz.dim=dim:=by rw[jR]
 have el:nz.cj=cj:=by rw[jR]
 have pv:nz.g=[]:=by rw[jR]
 rw[hw]
 clear hw im fP jR fu dK hy
 refine zo (ag.mono X8) (λr O=>b1.id r O) (by omega) (λr O=>by have:=(b1.v r O).1;have:=b1.dim;omega) λpV ls gx Ch kx oZ=>?_
 have Yb:ls.length=l.length:=by have:=kx.length_eq;simpa using this
 have RJ:(ls.map (·.id)).Nodup:=by have h1:=b1.nodup;rw[lZ] at h1 ⊢;exact(kx.map (·.1)).nodup_iff.2 h1
 have lI:∀r∈ls,(1<=r.id/\r.id<=1000000000)/\(r.v.length:o)=dim/\db r.v:=λr O=>by have:r.bi∈l.map av.bi:=kx.mem_iff.1 (bk.2 ⟨r,O,rfl⟩);obtain⟨ch,cq,e⟩:=bk.1 this;have h1:ch.id=r.id:=dV pd e;have h2:ch.v=r.v:=dV pR e;rw[<-h1,<-h2];exact⟨b1.id ch cq,b1.v ch cq⟩
 have aqZ:=afM.mono Ch.own.le
 have dw:pV.n=ls.length:=Ch.rws.len
 refine⟨λi Y=>0<=i/\i<=ls.length/\∃af T,In u Y af o6 T/\dP T/\T.dim=dim/\T.cj=cj/\e4 T.g=(ls.take i.toNat).map av.bi/\(∀c z,gx c=some z->pV.aj=some c∨(∃r∈ls.drop i.toNat,r.s.aj=some c)->Y c=some z/\af c=none),
  λi _=>ls.length-i.toNat,⟨by omega,by omega,pw,nz,aqZ,arp,Eg,el,by rw[pv];simp[e4],λc z I hm=>⟨I,?_⟩⟩,?_⟩
 have ys:w c=none:=by rcases hm with hm|⟨r,O,hm⟩;exact Ch.own.fresh c hm;exact(Ch.inner r (uG O)).fresh c hm
 exact afM.fresh ys
 rintro i Y ⟨i0,i1,af,T,Q4,rK,aw,ar,jW,il⟩
 refine⟨λea=>?_,λtO=>?_⟩
 have hi:i.toNat<ls.length:=by omega
 have aGh:dS Y pV (ls.take 0)∨True:=.inr trivial
 have rV:bt Y pV 2 (ls.flatMap cB):=bt.else Ch.own.own.cC λg z W ab=>(il g z ab (.inl W)).1
 obtain⟨r,O⟩:∃r,ls[i.toNat]?=some r:=⟨_,cn hi⟩
 obtain⟨p,ad,I⟩:=bt.elem eY (by decide) rV O
 have Cp:ls.drop i.toNat=r::ls.drop (i.toNat+1):=by rw[s9 hi];rw[cn hi] at O;rw[cO O]
 have fQ:r∈ls:=du O
 have tW:aD w gx 3 1 r.s (r.v.flatMap encI):=Ch.inner r fQ
 have mW:∀g,r.s.aj=some g->∀z,gx g=some z->Y g=some z/\af g=none:=λg W z ab=>il g z ab (.inr ⟨r,by rw[Cp];exact .head _,W⟩)
 obtain⟨hY,aq0,xg,jT⟩:=Q4.aci (s:=r.s) (λg W=>by obtain⟨z,ab⟩:=e3.1 (uu tW W);obtain⟨bE,fO⟩:=mW g W z ab;exact⟨fO,X8.none (tW.fresh g W),by rw[bE];simp⟩) r.id
 have w5:r.id∉T.g.map (·.1):=λhm=>by rw[<-uK,jW,<-lZ] at hm;obtain⟨ch,cq,e⟩:=bk.1 hm;obtain⟨j,aM,rfl⟩:=pc.1 cq;simp only[gL] at aM;rw[Gk] at e;have:=nX.1 RJ j i.toNat (by simp;omega) (by simp;omega) (by omega);simp only[Di] at this;rw[cn hi] at O;rw[cO O] at this;exact this e
 have arI:T.g.length<=512:=by have:=dV hR jW;simp[e4] at this;omega
 have oQ:=I 0 _ rfl
 have iy:=I 1 _ rfl
 rw[Addr.add_zero'] at oQ
 refine⟨p,ad,⟨i0,ea⟩,_,oQ,_,iy,abR aq0 rK ka w5 (lI r fQ).1 (bt.else tW.ints λg z W ab=>(mW g W z ab).1) xg (by rw[aw];exact(lI r fQ).2) arI λz2 oN D0 h3 mY arq Av HW Ah=>⟨⟨by omega,by omega⟩,⟨by omega,by omega,oN,D0,h3,arq,HW.trans aw,Ah.trans ar,?_,λc z ar7 hm=>?_⟩,by dsimp only;omega⟩⟩
 rw[Av,jW,show(i+1).toNat=i.toNat+1 by omega,gT,O]
 simp[av.bi]
 have al:r.s.aj≠some c:=by rcases hm with hm|⟨ch,cq,hm⟩;exact Ch.eu r fQ c hm;rw[show(i+1).toNat=i.toNat+1 by omega] at cq;have MK:=Ch.apart;rw[<-r6 i.toNat ls,Cp] at MK;have h2:=(jJ.1 (Bb.1 MK).2.1).1 ch cq;exact λe=>h2 c e hm
 have oi:pV.aj=some c∨∃r∈ls.drop i.toNat,r.s.aj=some c:=by rcases hm with hm|⟨ch,cq,hm⟩;exact .inl hm;rw[show(i+1).toNat=i.toNat+1 by omega] at cq;exact .inr ⟨ch,by rw[Cp];exact .tail _ cq,hm⟩
 obtain⟨bE,fO⟩:=il c z ar7 oi
 have kL:hY c=none:=by rw[jT c al];exact fO
 exact⟨mY.bM c z bE kL,mY.none bE kL⟩
 have hi:i.toNat=ls.length:=by have:¬i<(pV.n:o):=tO;omega
 rw[hi,ni] at jW
 exact bH o6 af T Y ⟨Q4,rK,by rw[jW];exact kx,aw,ar⟩
def ns(aJ:N)(s:J o×J o)(id:o):J o×J o:=
 if id∈s.1 then s else if s.1.length=aJ then(s.1,s.2++ [id]) else(s.1++ [id],s.2)
structure tt(aJ:N)(D1 P S R:J o):Prop where
 nodup:S.Nodup
 sub:R.Sublist P
 all:∀x,(x∈S∨x∈R)↔(x∈D1∨x∈P)
 V8:∀x∈R,x∉S
 len:S.length<=aJ
 full:R≠[]->S.length=aJ
def tt.step{D1 P R:J o}(h:tt aJ D1 P S R)(id:o):tt aJ D1 (P++ [id]) (ns aJ (S,R) id).1 (ns aJ (S,R) id).2:=by
 unfold ns;by_cases h1:id∈S;rw[aV h1];refine⟨h.nodup,h.sub.trans (aa7 _ _),λx=>?_,h.V8,h.len,h.full⟩;rw[h.all x,cK,fI];constructor;rintro(h2|h2);exact .inl h2;exact .inr (.inl h2);rintro(h2|h2|rfl);exact .inl h2;exact .inr h2;exact(h.all x).1 (.inl h1);rw[az h1];by_cases h2:S.length=aJ;simp only[h2,qx];refine⟨h.nodup,h.sub.append (aa8 _),λx=>?_,λx M=>?_,h.len,λ_=>h2⟩;rw[cK,cK,<-or_assoc,h.all x,or_assoc];rcases cK.1 M with M|M;exact h.V8 x M;simp at M;rw[M];exact h1;simp only[h2,xB];have b1:R=[]:=by by_cases e:R=[];exact e;exact a6 (h.full e) h2
 refine⟨?_,h.sub.trans (aa7 _ _),λx=>?_,λx M=>(by rw[b1] at M;cases M),?_,λal=>a6 b1 al⟩;refine gb.2 ⟨h.nodup,by simp,λa aE c I=>?_⟩;simp at I;subst I;exact λe=>h1 (e▸aE);rw[cK,cK,or_right_comm,h.all x,or_assoc];have:=h.len;simp;omega
def tt.fold{D1:J o}:∀(l P S R:J o),tt aJ D1 P S R->tt aJ D1 (P++l) (l.foldl (ns aJ) (S,R)).1 (l.foldl (ns aJ) (S,R)).2:=by
 intro l;induction l with
 |nil=>intro P S R h;simpa using h
 |cons x l aL=>intro P S R h;have:=aL (P++ [x]) _ _ (h.step x);rw[nf,List.singleton_append] at this;exact this
def tt.start{bN:J o}(hB:bN.Nodup):tt aJ (bN.take aJ) [] (bN.take aJ) []:=
 ⟨hB.sublist (rz _ _),aa8 _,λx=>(by simp),λx M=>(by cases M),(by rw[gL];omega),λh=>a6 rfl h⟩
def nE(g:J (o×dj))(q:J o)(entry:o):J o:=if entry=0 then[] else ll g q 0 (uR g q entry 0)
def pj(g:J (o×dj))(q:J o)(entry:o)(aJ:N):J o×J o:=(dM (g.map (·.1))).foldl (ns aJ) ((nE g q entry).take aJ,[])
def Wm{T:aT}(aR:dP T)(q:J o):(nE T.g q T.entry).Nodup/\∀x∈nE T.g q T.entry,x∈T.g.map (·.1):=by
 unfold nE;split;exact⟨JG,λx M=>by cases M⟩;rename_i he;have tK:T.entry∈T.g.map (·.1):=by rcases aR.entry with⟨_,h2⟩|h2;exact a6 h2 he;exact h2
 have Lt:=Met.one (cN T.g q) (ids:=T.g.map (·.1)) (tP T.g q) (aca aR.k.ok (q:=q) tK 0);exact⟨(aeZ (cN T.g q) (lL T.g 0) (tP T.g q) (aR.k.ok.cc _) _ _ _ Lt).1,aeY (cN T.g q) (lL T.g 0) (tP T.g q) (aR.k.ok.cc _) _ _ _ Lt⟩
def alL{T:aT}(aR:dP T)(bY:(T.g.map (·.1)).Nodup)(q:J o)(aJ:N):
  ((pj T.g q T.entry aJ).1++(pj T.g q T.entry aJ).2).Perm (T.g.map (·.1))/\(pj T.g q T.entry aJ).1.length<=aJ/\((pj T.g q T.entry aJ).2≠[]->(pj T.g q T.entry aJ).1.length=aJ)/\BQ (pj T.g q T.entry aJ).2:=by
 obtain⟨h1,h2⟩:=Wm aR q
 have h:=tt.fold (dM (T.g.map (·.1))) [] _ _ (tt.start (aJ:=aJ) h1)
 rw[lu] at h
 have cL:∀x,x∈dM (T.g.map (·.1))↔x∈T.g.map (·.1):=λx=>(nq _).mem_iff
 have ari:=Dw bY
 have Rc:BQ (pj T.g q T.entry aJ).2:=ari.sublist h.sub
 have ary:(pj T.g q T.entry aJ).2.Nodup:=Rc.imp λh=>by omega
 refine⟨(Ti (gb.2 ⟨h.nodup,ary,λa aE c I e=>h.V8 c I (e▸aE)⟩) bY).2 λx=>?_,h.len,h.full,Rc⟩
 rw[cK]
 refine(h.all x).trans ?_
 rw[cL]
 exact⟨λh3=>h3.elim (λa7=>h2 x (nW a7)) λa7=>a7,.inr⟩
def sm(B:H)(ck cc:N)(k:o)(g:J (o×dj))(q:J o)(S:J o)(v:H):Prop:=
 ∃z,fs (B.ins ck z) ck (S.map λx=>(x,l3 ak))/\iE (B.ins ck z) cc k v (S.map (cN g q))
def sm.le(h:sm B ck cc k g q S v)(iH:B ck=none):B.le v:=by obtain⟨z,_,ht⟩:=h;exact(bW _ iH).trans ht.le
def sm.map(h:sm B ck cc k g q S v):fs v ck (S.map λx=>(x,l3 ak)):=by obtain⟨z,hm,ht⟩:=h;exact hm.mono ht.le
def aol:hl aH 297=ak:=by kernel_rfl
def WB(S:J o)(x:o):fN (S.map λx=>(x,l3 ak)) x=if x∈S then some (.bool ak) else none:=by
 induction S with
 |nil=>rfl|cons y S aL=>
  unfold fN at*;rw[gl,Gm];by_cases e:y=x;subst e;simp;rw[Of e];rw[aL];have:(x∈y::S)↔x∈S:=by simp[dv e]
  simp only[this]
def alM{n0 n9 n13:N}{aJ:o}{x:o}{K:aI->H->Prop}(iH:B ck=none)(cx:1<=k)(cS:k<=64)(fV:0<=aJ)
  (h0:B n0=some (.cells #[.int .i64 aJ] 3 (0,0))) (mq:B n9=some (.cells #[.pointer (some ⟨cc,0,none⟩)] 90 (0,0))) (Lg:B n13=some (.cells #[.map (some ck)] 166 (0,0))) (aM:sm B ck cc k g q S v)
  (wV:S.length=aJ.toNat->K ax v) (hold:S.length≠aJ.toNat->x∈S->K ak v) (oj:S.length≠aJ.toNat->x∉S->∀cm,sm B ck cc k g q (S++ [x]) cm->K ak cm):
  tm aH (.func (.func 297) #[] #[.pointer (some ⟨n13,0,none⟩),.pointer (some ⟨n0,0,none⟩),.pointer (some ⟨n9,0,none⟩)]) #[L2 (cN g q x)] [.one .bool] v K:=by
 have Ev:=aM.le iH
 refine .inl ⟨_,_,_,rfl,hh aol,?_⟩
 refine aCb (cN g q x).1 (dk (cN g q x).2) (dq (cN g q x).2) ⟨n13,0,none⟩ ⟨n0,0,none⟩ ⟨n9,0,none⟩ v K ?_
 refine⟨_,a1 (Ev _ _ Lg) 0,v7 KD aM.map ?_⟩
 have hlen:(S.map λx=>(x,l3 ak)).length=S.length:=by simp
 rw[hlen]
 refine⟨aJ,a1 (Ev _ _ h0) 0,λhe=>wV (by omega),λhe=>⟨_,a1 (Ev _ _ Lg) 0,?_⟩⟩
 have al:S.length≠aJ.toNat:=by omega
 refine OA KD aM.map (ct:=.bool) (decide (x∈S)) ?_ ⟨λZ=>?_,λZ=>hold al (by simpa using Z)⟩
 show(fN _ x).getD _=_
 rw[WB]
 by_cases e:x∈S<;>simp[e,aK.enc]
 have M:x∉S:=by simpa using Z
 refine⟨_,a1 (Ev _ _ Lg) 0,Dt KD aM.map (x:=x) (by rw[WB,az M]) λb5 oi=>?_⟩
 obtain⟨z,hm,ht⟩:=aM
 have O:=ht.Tt b5
 have Q0:B.le (v.ins ck b5):=(bW _ iH).trans O.le
 refine⟨_,a1 (Q0 _ _ mq) 0,OS (x:=cN g q x) O cx cS λdD w hw=>oj al M w ⟨b5,?_,?_⟩⟩
 obtain⟨es,KH,h1,h2⟩:=oi
 rw[bf] at h1
 refine⟨es,KH,by rw[bf];exact h1,?_⟩
 rw[dY]
 exact h2
 rw[dY]
 exact hw.perm (l5 _ _).symm
def _root_.Go.Proofs.YtejdhbfjjgcljaaGreatDoor.aD.Hw{v0 iu cm:H}{e k:N}{xs:J ao}(h:aD v0 v e k s xs)(ac:x4 v0 v iu cm):aD iu cm e k s xs:=by have Z:∀g,s.aj=some g->∃z,v g=some z:=λg W=>e3.1 (uu h W);refine⟨h.own.le λb z ev hu=>(ac.out b z (h.fresh b ev) hu).2,ac.le,λg W=>?_⟩;obtain⟨z,ab⟩:=Z g W;exact(ac.out g z (h.fresh g W) ab).1
def D2(jK:U)(R:J o):cp:=⟨1,⟨none,0,0⟩,⟨none,0,0⟩,0,jK,[],[],R⟩
def On(jK:U)(R:J o):J cp:=if R=[] then[] else[D2 jK R]
def aed(s:U):kp aH 39 1 #[(0,.agg #[.int .i64 1,.slice none 0 0,.slice none 0 0,.int .u64 0,.int .u64 0,.slice s.a s.n s.c])]=
  some (102,[.int .i64 1,.slice none 0 0,.slice none 0 0,.int .u64 0,.int .u64 0,.slice s.a s.n s.c]):=by kernel_rfl
def aen{Y:H}{a c d:U}(h:Y n=some (.cells #[.slice a.a a.n a.c,.slice c.a c.n c.c,.slice d.a d.n d.c] 41 (0,0))):
  Y.cell? ⟨n,0,none⟩=some (.slice a.a a.n a.c)/\Y.cell? ((cr n 0 none).add 1)=some (.slice c.a c.n c.c)/\Y.cell? ((cr n 0 none).add 2)=some (.slice d.a d.n d.c):=by
 refine⟨a1 h 0,?_,?_⟩
 rw[iC,jI];exact a1 h 1
 rw[iC,jI];exact a1 h 2
def _root_.Go.Proofs.YtejdhbfjjgcljaaGreatDoor.aD.skip{Y fj:H}{e k:N}{xs:J ao}(h:aD ai Y e k s xs)(hk:∀c z,Y c=some z->c≠n->fj c=some z)(ag:s.aj≠some n)(h0:ai n=none):aD ai fj e k s xs:=
 ⟨h.own.le λc z I ab=>hk c z ab λe=>ag (by rw[I,e]),λc z I=>hk c z (h.le c z I) λe=>(by rw[e,h0] at I;cases I),h.fresh⟩
def aAv{x y Y a c d:ao}{T:dC}{f:H->Prop}(ae:u n=some (.cells #[x,y,Y] T (0,0)))(h1:∀v∈[a,c,d],v.oneCell'=ak)(ac:f (u.ins n (.cells #[a,c,d] T (0,0)))):H.aN u ⟨n,0,none⟩ [a,c,d] f:=by
 refine⟨_,_,ae,rfl,by simp,h1,?_⟩;have:wr #[x,y,Y] 0 [a,c,d]=#[a,c,d]:=by simp[wr]
 simp only[this];exact ac
def TL{xp:N}{K:U->H->Prop}(h:fs u ck (S.map λx=>(x,l3 ak)))(I:u.cell? ⟨xp,0,none⟩=some (.map (some ck)))(bh:S.length<=1000000)(aq:∀s u',aD u u' 3 1 s ((dM S).flatMap encI)->K s u'):
  uU (.func (.func 303) #[] #[.pointer (some ⟨xp,0,none⟩)]) u K:=by
 have bY:((S.map λx=>(x,l3 ak)).map (·.1)).Nodup:=by obtain⟨_,_,_,he⟩:=h;exact he.nodup
 refine abY (by simpa using bh) bY (λai rc=>avN KD (h.mono rc) (qg rc I)) λs u' ab=>aq s u' ?_
 have e:(S.map λx=>(x,l3 ak)).map (·.1)=S:=by rw[ez];exact Gg S
 rw[e] at ab
 exact ab
def ak9{af:N->ay bu}{T:aT}{t:U}{aJ:o}{K:U->U->U->o->H->Prop}(h:In ai u af b T)(aR:dP T)(ht:Ints u t q)
  (dx:h7 q T.dim k aJ≠0->∀u',u.le u'->K ⟨none,0,0⟩ ⟨none,0,0⟩ ⟨none,0,0⟩ (h7 q T.dim k aJ) u')
  (bH:h7 q T.dim k aJ=0->∀aG ss bc jK u',jB u u' aG ss bc (eV k.toNat ((pj T.g q T.entry aJ.toNat).1.map (cN T.g q))) (dM (pj T.g q T.entry aJ.toNat).1) (On jK (pj T.g q T.entry aJ.toNat).2)->K aG ss bc 0 u'):
  UF (some ⟨b,0,none⟩) t k aJ u K:=by
 have bY:=h.aF.nodup
 apply aCa
 intro n0 eT
 refine⟨λe=>(by cases e),λ_=>?_⟩
 have nQ:=bW (u:=u) (b:=n0) (.cells #[.int .i64 aJ] 3 (0,0)) eT
 obtain⟨aS,gI⟩:∃aS,u.ins n0 (.cells #[.int .i64 aJ] 3 (0,0))=aS:=⟨_,rfl⟩
 have fV:aS n0=some (.cells #[.int .i64 aJ] 3 (0,0)):=by rw[<-gI,bf]
 rw[gI] at nQ ⊢
 obtain⟨bK,_,_,_,_⟩:=kB (h.aF.mono nQ)
 refine⟨_,rfl,_,bK,_,a1 fV 0,JS (ht.mono nQ) ⟨λal=>dx al _ nQ,λhe=>?_⟩⟩
 have bH:=bH he
 obtain⟨aA,cx,cS,ad2,aEX⟩:gn q T.dim=0/\1<=k/\k<=64/\0<=aJ/\aJ<=1000000:=by unfold h7 at he;by_cases h1:gn q T.dim≠0;rw[aV h1] at he;exact a6 he h1;rw[az h1] at he;by_cases h2:k<1∨64<k∨aJ<0∨1000000<aJ;rw[aV h2] at he;cases he;exact⟨by simpa using h1,by omega,by omega,by omega,by omega⟩
 obtain⟨_,_,dm,fx⟩:=oA aA
 refine OT (λZ=>by omega) λ_ _ cc u8 o1 vo pJ=>?_
 intro n9 tT
 refine mG (zs:=[.pointer none]) rfl (by simp[cF]) ?_
 have mX:=pJ.l6 tT (.cells [.pointer (some ⟨cc,0,none⟩)].toArray 90 (0,0))
 obtain⟨gV,uc⟩:∃gV,u8.ins n9 (.cells [.pointer (some ⟨cc,0,none⟩)].toArray 90 (0,0))=gV:=⟨_,rfl⟩
 rw[uc] at mX ⊢
 refine GC λck C1 iH im=>?_
 have o0:=mX.l6 iH C1
 intro n13 yE
 refine mG (zs:=[.map none]) rfl (by simp[cF]) ?_
 have mY:=o0.l6 yE (.cells [.map (some ck)].toArray 166 (0,0))
 have auP:aS n9=none:=o1.none tT
 have afx:gV n9=some (.cells [.pointer (some ⟨cc,0,none⟩)].toArray 90 (0,0)):=by rw[<-uc,bf]
 have HK:ck≠n9:=λe=>by rw[e,afx] at iH;cases iH
 have auN:aS ck=none:=o1.none (by rw[<-uc,bm _ _ HK] at iH;exact iH)
 have W0:ck≠n13:=λe=>by rw[<-e,bf] at yE;cases yE
 have Lh:gV n13=none:=by rw[bm _ _ (dv W0)] at yE;exact yE
 have WO:n9≠n13:=λe=>by rw[<-e,afx] at Lh;cases Lh
 have auO:aS n13=none:=o1.none (by rw[<-uc,bm _ _ (dv WO)] at Lh;exact Lh)
 obtain⟨B,eg⟩:∃B,(aS.ins n9 (.cells [.pointer (some ⟨cc,0,none⟩)].toArray 90 (0,0))).ins n13 (.cells [.map (some ck)].toArray 166 (0,0))=B:=⟨_,rfl⟩
 have HE:B ck=none:=by rw[<-eg,bm _ _ W0,bm _ _ HK];exact auN
 have agr:((aS.ins n9 (.cells [.pointer (some ⟨cc,0,none⟩)].toArray 90 (0,0))).ins ck C1).ins n13 (.cells [.map (some ck)].toArray 166 (0,0))=B.ins ck C1:=by rw[<-eg];funext c;unfold H.ins;by_cases aP:c=n13;subst aP;simp[dv W0];simp[aP]
 rw[agr] at mY
 obtain⟨l9,ah5⟩:∃l9,(gV.ins ck C1).ins n13 (.cells [.map (some ck)].toArray 166 (0,0))=l9:=⟨_,rfl⟩
 rw[ah5] at mY ⊢
 have afA:aS.le B:=by rw[<-eg];exact(bW _ auP).trans (bW _ (by rw[bm _ _ (dv WO)];exact auO))
 have HD:B n0=some (.cells #[.int .i64 aJ] 3 (0,0)):=afA _ _ fV
 have WS:B n9=some (.cells #[.pointer (some ⟨cc,0,none⟩)] 90 (0,0)):=by rw[<-eg,bm _ _ WO,bf]
 have QZ:B n13=some (.cells #[.map (some ck)] 166 (0,0)):=by rw[<-eg,bf]
 have X1:sm B ck cc k T.g q [] l9:=⟨C1,by obtain⟨es,KH,h1,h2⟩:=im;rw[bf] at h1;exact⟨es,KH,by rw[bf];exact h1,h2⟩,mY⟩
 have Ze:u.le B:=nQ.trans afA
 have Lo:=h.mono Ze
 have YK:sl B T.dim t q:=⟨ht.mono Ze,fx,dm⟩
 clear mX o0 mY im agr iH yE Lh tT pJ o1 uc ah5 eg
 intro Kt WX
 have behind:∀v,sm B ck cc k T.g q ((nE T.g q T.entry).take aJ.toNat) v->Kt v:=by
  intro v aM;refine WX v ?_;have Ev:=aM.le HE;obtain⟨_,_,_,fM,_⟩:=kB (Lo.mono Ev).aF;have fq:=aR.k.ok.small;refine⟨_,rfl,_,fM,akY (Lo.mono Ev).aF.map (by rw[NV];omega) λzi j4 My=>?_⟩;rw[SM] at My;obtain⟨L,cL⟩:∃L,dM (T.g.map (·.1))=L:=⟨_,rfl⟩;rw[cL] at My;have ard:∀x∈L,x∈T.g.map (·.1):=λx M=>by rw[<-cL] at M;exact(nq _).mem_iff.1 M
  have ve:L.length<=513:=by rw[<-cL,zm];simp;omega
  have are:=My.ints.len;refine⟨λhb i w=>0<=i/\i<=L.length/\∃v0,sm B ck cc k T.g q ((L.take i.toNat).foldl (ns aJ.toNat) ((nE T.g q T.entry).take aJ.toNat,[])).1 v0/\aD v0 w 3 1 zi (L.flatMap encI)/\
    aD v0 w 3 1 hb ((((L.take i.toNat).foldl (ns aJ.toNat) ((nE T.g q T.entry).take aJ.toNat,[])).2).flatMap encI)/\dH zi hb,λ_ i _=>L.length-i.toNat,
   ⟨by omega,by omega,v,by simpa using aM,My,by simpa using aD.nil My.le 3 1,λg _ W=>by simp[U.aj] at W⟩,?_⟩
  rintro hb i w ⟨i0,i1,v0,yz,Cf,vc,pD⟩;have HF:=yz.le HE;have sU:v0.le w:=Cf.le;have aq1:=Lo.mono (HF.trans sU);have arv:tt aJ.toNat ((nE T.g q T.entry).take aJ.toNat) (L.take i.toNat) ((L.take i.toNat).foldl (ns aJ.toNat) ((nE T.g q T.entry).take aJ.toNat,[])).1 ((L.take i.toNat).foldl (ns aJ.toNat) ((nE T.g q T.entry).take aJ.toNat,[])).2:=by have:=tt.fold (L.take i.toNat) [] _ _ (tt.start (aJ:=aJ.toNat) (Wm aR q).1);rw[lu] at this;exact this
  have Ra:((L.take i.toNat).foldl (ns aJ.toNat) ((nE T.g q T.entry).take aJ.toNat,[])).2.length<=513:=by have:=arv.sub.length_le;simp at this;omega
  have aFc:=vc.ints.len;refine⟨λea=>?_,λtO=>?_⟩;obtain⟨p,ad,I⟩:=Cf.ints.at i0 ea;have M:L[i.toNat]?=some (L.getD i.toNat 0):=getD_some (by omega);have vx:=ard _ (du M);have ac:=acj (ns aJ.toNat) L M ((nE T.g q T.entry).take aJ.toNat,[]);rw[show i.toNat+1=(i+1).toNat by omega] at ac;obtain⟨S,bh⟩:∃S,((L.take i.toNat).foldl (ns aJ.toNat) ((nE T.g q T.entry).take aJ.toNat,[])).1=S:=⟨_,rfl⟩;obtain⟨R,b1⟩:∃R,((L.take i.toNat).foldl (ns aJ.toNat) ((nE T.g q T.entry).take aJ.toNat,[])).2=R:=⟨_,rfl⟩;have arD:(L.take i.toNat).foldl (ns aJ.toNat) ((nE T.g q T.entry).take aJ.toNat,[])=(S,R):=by rw[<-bh,<-b1]
  rw[arD] at yz vc ac Ra;refine⟨p,ad,⟨i0,ea⟩,_,I,_,a1 (sU _ _ (HF _ _ QZ)) 0,?_⟩;refine OA KD (yz.map.mono sU) (ct:=.bool) (decide (L.getD i.toNat 0∈S)) ?_ ⟨λZ=>?_,λZ=>?_⟩;show(fN _ _).getD _=_;rw[WB];by_cases e:L.getD i.toNat 0∈S<;>simp only[e,qx,xB,decide_true,decide_false]<;>rfl;have Nh:L.getD i.toNat 0∉S:=by simpa using Z
  refine OP aq1.aF aR.k.ok vx (YK.mono (HF.trans sU)) ?_;refine(alM (n0:=n0) (n9:=n9) (n13:=n13) (x:=L.getD i.toNat 0) (K:=λdD cm=>(dD=ax->S.length=aJ.toNat/\sm B ck cc k T.g q S cm)/\(dD=ak->S.length≠aJ.toNat/\sm B ck cc k T.g q (S++ [L.getD i.toNat 0]) cm))
   HE cx cS ad2 HD WS QZ yz (λwV=>⟨λ_=>⟨wV,yz⟩,λe=>(by cases e)⟩) (λ_ b4=>a6 b4 Nh) λal _ cm gR=>⟨λe=>(by cases e),λ_=>⟨al,gR⟩⟩).frame sU ?_
  rintro dD iu w' eI ⟨wO,LG⟩;have WE:=Cf.Hw eI;have QS:=vc.Hw eI;refine⟨λjS=>?_,λjS=>?_⟩;obtain⟨wV,kO⟩:=wO (Bool.eq_false_iff.2 jS);have je:(L.take (i+1).toNat).foldl (ns aJ.toNat) ((nE T.g q T.entry).take aJ.toNat,[])=(S,R++ [L.getD i.toNat 0]):=by rw[ac];unfold ns;simp only;rw[az Nh,aV wV]
  have aFd:=QS.ints.len;refine np lQ (zN _) (by decide) rfl (by simp[cF]) QS (by omega) (by omega) λTy O2 atX _ asl arX _=>⟨⟨by omega,by omega⟩,⟨by omega,by omega,iu,by rw[je];exact kO,?_,?_,λg W cb=>?_⟩,by dsimp only;omega⟩;exact aD.else WE asl (λg W=>QS.fresh g W) λg W e=>pD g e W;rw[je];simp only[gU];exact atX;rcases arX g cb with bE|bE;exact pD g W bE;exact uu WE W bE;obtain⟨al,kO⟩:=LG jS;have je:(L.take (i+1).toNat).foldl (ns aJ.toNat) ((nE T.g q T.entry).take aJ.toNat,[])=(S++ [L.getD i.toNat 0],R):=by rw[ac];unfold ns;simp only;rw[az Nh,az al]
  exact⟨⟨by omega,by omega⟩,⟨by omega,by omega,iu,by rw[je];exact kO,WE,by rw[je];exact QS,pD⟩,by dsimp only;omega⟩;have Nh:L.getD i.toNat 0∈S:=by simpa using Z
  have je:(L.take (i+1).toNat).foldl (ns aJ.toNat) ((nE T.g q T.entry).take aJ.toNat,[])=(S,R):=by rw[ac];unfold ns;simp only;rw[aV Nh]
  exact⟨⟨by omega,by omega⟩,⟨by omega,by omega,v0,by rw[je];exact yz,Cf,by rw[je];exact vc,pD⟩,by dsimp only;omega⟩
  ·
   have XY:i.toNat=L.length:=by have:¬i<(zi.n:o):=tO;omega
   rw[XY,ni] at yz vc Ra;have arC:L.foldl (ns aJ.toNat) ((nE T.g q T.entry).take aJ.toNat,[])=pj T.g q T.entry aJ.toNat:=by rw[<-cL];rfl
   rw[arC] at yz vc Ra;obtain⟨S,bh⟩:∃S,(pj T.g q T.entry aJ.toNat).1=S:=⟨_,rfl⟩;obtain⟨R,b1⟩:∃R,(pj T.g q T.entry aJ.toNat).2=R:=⟨_,rfl⟩;rw[bh] at yz;rw[b1] at vc Ra;rw[bh,b1] at bH;have tF:S.length<=1000000:=by rw[<-bh];have:=(alL aR bY q aJ.toNat).2.1;omega
   have CJ:u.le v0:=Ze.trans HF;intro anE aq7;have QT:=vc.ints.len;have last:∀(pM:N) (aG ss:U) (y:H) (dy x2 kD:ao),w.le y->aD w y 68 3 aG ((eV k.toNat (S.map (cN T.g q))).flatMap fD)->aD w y 3 1 ss ((dM S).flatMap encI)->dH aG ss->w pM=none->aG.aj≠some pM->ss.aj≠some pM->
     y pM=some (.cells #[dy,x2,kD] 41 (0,0))->H.aN y ⟨pM,0,none⟩ [.slice aG.a aG.n aG.c,.slice ss.a ss.n ss.c,.slice none 0 0] λY=>anE ⟨pM,0,none⟩ Y:=by
    intro pM aG ss y dy x2 kD au9 bV ag ac ahv ahU ahY ah
    refine aAv ah (by simp[cF]) ?_
    have Sg:∀c z,y c=some z->c≠pM->(y.ins pM (.cells #[.slice aG.a aG.n aG.c,.slice ss.a ss.n ss.c,.slice none 0 0] 41 (0,0))) c=some z:=λc z h1 h2=>by rw[bm _ _ h2];exact h1
    obtain⟨Y,aB⟩:∃Y,y.ins pM (.cells #[.slice aG.a aG.n aG.c,.slice ss.a ss.n ss.c,.slice none 0 0] 41 (0,0))=Y:=⟨_,rfl⟩
    have Zx:Y pM=some (.cells #[.slice aG.a aG.n aG.c,.slice ss.a ss.n ss.c,.slice none 0 0] 41 (0,0)):=by rw[<-aB,bf]
    rw[aB] at Sg ⊢
    have CI:u pM=none:=(CJ.trans sU).none ahv
    have afs:hb.aj≠some pM:=λe=>uu vc e ahv
    have ES:=((bV.weaken (CJ.trans sU)).skip Sg ahU CI)
    have cY:=((ag.weaken (CJ.trans sU)).skip Sg ahY CI)
    have aft:=(((vc.mono au9).weaken CJ).skip Sg afs CI)
    have wT:dH aG hb:=λg W cb=>uu vc cb (bV.fresh g W)
    have je:dH ss hb:=λg W cb=>uu vc cb (ag.fresh g W)
    have An:∀(x:U),dH x ⟨none,0,0⟩:=λx g _ W=>by simp[U.aj] at W
    have afL:∀(x:U),dH ⟨none,0,0⟩ x:=λx g W=>by simp[U.aj] at W
    refine aq7 _ _ ⟨λoW=>?_,λq6=>?_⟩
    refine l8 (aed hb) λjQ lW=>?_
    have EO:=bW (u:=Y) (b:=jQ) (.cells [cG .i64 1,.slice none 0 0,.slice none 0 0,.int .u64 0,.int .u64 0,.slice hb.a hb.n hb.c].toArray 102 (0,0)) lW
    have asE:jQ≠pM:=λe=>by rw[e,Zx] at lW;cases lW
    have agO:(Y.ins jQ (.cells [cG .i64 1,.slice none 0 0,.slice none 0 0,.int .u64 0,.int .u64 0,.slice hb.a hb.n hb.c].toArray 102 (0,0))) jQ=some (.cells [cG .i64 1,.slice none 0 0,.slice none 0 0,.int .u64 0,.int .u64 0,.slice hb.a hb.n hb.c].toArray 102 (0,0)):=bf _ _ _
    obtain⟨z2,Zw⟩:∃z2,Y.ins jQ (.cells [cG .i64 1,.slice none 0 0,.slice none 0 0,.int .u64 0,.int .u64 0,.slice hb.a hb.n hb.c].toArray 102 (0,0))=z2:=⟨_,rfl⟩
    rw[Zw] at EO agO ⊢
    rw[iC,jI]
    refine⟨_,_,EO _ _ Zx,rfl,by simp,by simp[cF],?_⟩
    have avl:wr #[.slice aG.a aG.n aG.c,.slice ss.a ss.n ss.c,.slice none 0 0] 2 [.slice (some ⟨jQ,0,none⟩) 1 1]=#[.slice aG.a aG.n aG.c,.slice ss.a ss.n ss.c,.slice (⟨some ⟨jQ,0,none⟩,1,1⟩:U).a (⟨some ⟨jQ,0,none⟩,1,1⟩:U).n (⟨some ⟨jQ,0,none⟩,1,1⟩:U).c]:=by simp[wr]
    simp only[avl]
    have ID:∀c z,z2 c=some z->c≠pM->(z2.ins pM (.cells #[.slice aG.a aG.n aG.c,.slice ss.a ss.n ss.c,.slice (⟨some ⟨jQ,0,none⟩,1,1⟩:U).a (⟨some ⟨jQ,0,none⟩,1,1⟩:U).n (⟨some ⟨jQ,0,none⟩,1,1⟩:U).c] 41 (0,0))) c=some z:=λc z h1 h2=>by rw[bm _ _ h2];exact h1
    obtain⟨a0,aa,a2⟩:=aen (bf z2 pM (.cells #[.slice aG.a aG.n aG.c,.slice ss.a ss.n ss.c,.slice (⟨some ⟨jQ,0,none⟩,1,1⟩:U).a (⟨some ⟨jQ,0,none⟩,1,1⟩:U).n (⟨some ⟨jQ,0,none⟩,1,1⟩:U).c] 41 (0,0)))
    have Xb:R≠[]:=λe=>by rw[e] at QT;simp at QT;omega
    have Fs:u jQ=none:=by have:u.le Y:=ES.le;exact this.none lW
    have H2:∀{e k:N} {x:U} {xs:J ao},aD u Y e k x xs->dH x ⟨some ⟨jQ,0,none⟩,1,1⟩:=λM g W cb=>by
     have:jQ=g:=by simpa[U.aj] using cb
     exact uu M W (by rw[<-this];exact lW)
    have nK:On hb R=[D2 hb R]:=az Xb
    refine⟨aG,a0,ss,aa,⟨some ⟨jQ,0,none⟩,1,1⟩,a2,bH aG ss _ hb _ ⟨(ES.mono EO).skip ID ahU CI,(cY.mono EO).skip ID ahY CI,?_,λr O=>?_,?_⟩⟩
    rw[nK]
    have aP:([D2 hb R]:J cp).flatMap tB=[cG .i64 1,.slice none 0 0,.slice none 0 0,.int .u64 0,.int .u64 0,.slice hb.a hb.n hb.c]:=by simp[tB,D2,XV,Z5]
    rw[aP]
    refine⟨⟨rfl,.inr ⟨jQ,_,rfl,ID _ _ agO asE,cg _,by show(1:N)<=9223372036854775807;decide,by simp,by simp⟩⟩,λc z I=>ID c z (EO c z (ES.le c z I)) λe=>(by rw[e,CI] at I;cases I),λg W=>?_⟩
    have:jQ=g:=by simpa[U.aj] using W
    rw[<-this];exact Fs
    rw[nK] at O
    simp at O
    subst O
    have aiA:u.le (z2.ins pM (.cells #[.slice aG.a aG.n aG.c,.slice ss.a ss.n ss.c,.slice (⟨some ⟨jQ,0,none⟩,1,1⟩:U).a (⟨some ⟨jQ,0,none⟩,1,1⟩:U).n (⟨some ⟨jQ,0,none⟩,1,1⟩:U).c] 41 (0,0))):=λc z I=>ID c z (EO c z (ES.le c z I)) λe=>(by rw[e,CI] at I;cases I)
    exact⟨aD.nil aiA _ _,aD.nil aiA _ _,(aft.mono EO).skip ID afs CI⟩
    rw[nK]
    show([aG,ss,⟨some ⟨jQ,0,none⟩,1,1⟩,⟨none,0,0⟩,⟨none,0,0⟩,hb]:J U).Pairwise dH
    simp only[jJ,cE,qA,qB,Js,Ob,mE,vS,To,Tp]
    exact⟨⟨ac,H2 ES,An _,An _,wT⟩,⟨H2 cY,An _,An _,je⟩,⟨An _,An _,(H2 aft).symm⟩,⟨An _,afL _⟩,afL _⟩
    have Xa:R=[]:=by
      have:hb.n=0:=by omega
      rw[this] at QT;exact ly QT.symm
    obtain⟨a0,aa,a2⟩:=aen (d:=⟨none,0,0⟩) Zx
    have nK:On hb R=[]:=aV Xa
    refine⟨aG,a0,ss,aa,⟨none,0,0⟩,a2,bH aG ss _ hb _ ⟨ES,cY,by rw[nK];exact aD.nil ES.le _ _,λr O=>(by rw[nK] at O;cases O),?_⟩⟩
    rw[nK]
    show([aG,ss,⟨none,0,0⟩]:J U).Pairwise dH
    simp only[jJ,cE,qA,qB,Js,Ob,mE,vS,To,Tp]
    exact⟨⟨ac,An _⟩,An _⟩
   obtain⟨la,atu,ah3⟩:=yz;have Fl:=ah3.mono sU;have vn:fs w ck (S.map λx=>(x,l3 ak)):=(atu.mono ah3.le).mono sU;have aoW:=a1 (sU _ _ (HF _ _ WS)) 0;have aoQ:=a1 (sU _ _ (HF _ _ QZ)) 0;have QG:∀{x y:U} {jc z2 z3:H} {aP cx aC cS:N} {xs eD:J ao},aD w jc aP cx x xs->jc.le z2->aD z2 z3 aC cS y eD->dH x y:=λM hle ah g W cb=>by obtain⟨z,ab⟩:=e3.1 (uu M W);have:=ah.fresh g cb;rw[hle _ _ ab] at this;cases this
   have SG:∀{x:U} {jc z2:H} {e k n:N} {xs:J ao},aD w jc e k x xs->jc.le z2->z2 n=none->x.aj≠some n:=λM hle ae W=>by obtain⟨z,ab⟩:=e3.1 (uu M W);rw[hle _ _ ab] at ae;cases ae
   refine⟨_,aoW,_,aoQ,⟨JV Fl λzj J1 sR=>⟨sR.le,?_,?_⟩,λn75 ahu=>?_⟩⟩;refine acz (some ck) J1 _ λxp Mu=>?_;have o3:=bW (u:=J1) (b:=xp) (.cells #[.map (some ck)] 166 (0,0)) Mu;have agp:(J1.ins xp (.cells #[.map (some ck)] 166 (0,0))).cell? ⟨xp,0,none⟩=some (.map (some ck)):=a1 (bf _ _ _) 0;have xi:=sR.le.trans o3;refine⟨TL (vn.mono xi) agp tF λBj GP CB n63 Mp=>⟨(xi.trans CB.le).trans (bW _ Mp),?_⟩,λn65 RQ=>⟨xi.trans (bW _ RQ),?_⟩⟩;have ZX:=bW (u:=GP) (b:=n63) (.cells #[.slice none 0 0,.slice none 0 0,.slice none 0 0] 41 (0,0)) Mp;exact last n63 zj Bj _ _ _ _ ((xi.trans CB.le).trans ZX) (sR.mono ((o3.trans CB.le).trans ZX)) ((CB.weaken xi).mono ZX) (QG sR o3 CB) ((xi.trans CB.le).none Mp) (SG sR (o3.trans CB.le) Mp) (SG (CB.weaken xi) (H.le.refl _) Mp) (bf _ _ _);have IU:=bW (u:=J1.ins xp (.cells #[.map (some ck)] 166 (0,0))) (b:=n65) (.cells #[.slice none 0 0,.slice none 0 0,.slice none 0 0] 41 (0,0)) RQ;exact TL (vn.mono (xi.trans IU)) (qg IU agp) tF λabu T7 Io=>last n65 zj abu _ _ _ _ ((xi.trans IU).trans Io.le) (sR.mono ((o3.trans IU).trans Io.le)) (Io.weaken (xi.trans IU)) (QG sR (o3.trans IU) Io) (xi.none RQ) (SG sR o3 RQ)
    (λe=>by have:=Io.fresh n65 e;rw[bf] at this;cases this) (Io.le _ _ (bf _ _ _))
   intro n69 Yl;have Ss:=bW (u:=J1) (b:=n69) (.cells #[.slice none 0 0,.slice none 0 0,.slice none 0 0] 41 (0,0)) Yl;refine⟨sR.le.trans Ss,acz (some ck) _ _ λxp Mu=>?_⟩;have o3:=bW (b:=xp) (.cells #[.map (some ck)] 166 (0,0)) Mu;have Zm:=(sR.le.trans Ss).trans o3;exact TL (vn.mono Zm) (a1 (bf _ _ _) 0) tF λxP aGP w9=>last n69 zj xP _ _ _ _ (Zm.trans w9.le) (sR.mono ((Ss.trans o3).trans w9.le)) (w9.weaken Zm) (QG sR (Ss.trans o3) w9) (sR.le.none Yl) (SG sR (H.le.refl _) Yl)
    (λe=>by have:=o3 _ _ (bf J1 n69 (.cells #[.slice none 0 0,.slice none 0 0,.slice none 0 0] 41 (0,0)));rw[w9.fresh n69 e] at this;cases this) (w9.le _ _ (o3 _ _ (bf _ _ _)))
   have IV:=bW (u:=w) (b:=n75) (.cells #[.slice none 0 0,.slice none 0 0,.slice none 0 0] 41 (0,0)) ahu;refine⟨IV,JV (Fl.mono IV) λaym aGQ E8=>⟨IV.trans E8.le,acz (some ck) _ _ λxp Mu=>?_⟩⟩;have o3:=bW (b:=xp) (.cells #[.map (some ck)] 166 (0,0)) Mu;have Zn:=(IV.trans E8.le).trans o3;exact TL (vn.mono Zn) (a1 (bf _ _ _) 0) tF λayn aGR xa=>last n75 aym ayn _ _ _ _ (Zn.trans xa.le) ((E8.weaken IV).mono (o3.trans xa.le)) (xa.weaken Zn) (QG (E8.weaken IV) o3 xa) ahu
    (λe=>by have:=E8.fresh n75 e;rw[bf] at this;cases this)
    (λe=>by have:=(E8.le.trans o3) _ _ (bf w n75 (.cells #[.slice none 0 0,.slice none 0 0,.slice none 0 0] 41 (0,0)));rw[xa.fresh n75 e] at this;cases this)
    (xa.le _ _ (o3 _ _ (E8.le _ _ (bf _ _ _))))
 have WR:=X1.le HE
 have afN:=Lo.mono WR
 obtain⟨_,_,_,_,ff⟩:=kB afN.aF
 refine⟨_,rfl,_,ff,λal=>?_,λsJ=>behind l9 ?_⟩
 have tK:T.entry∈T.g.map (·.1):=by rcases aR.entry with⟨_,h2⟩|h2;exact a6 h2 al;exact h2
 have hB:nE T.g q T.entry=ll T.g q 0 (uR T.g q T.entry 0):=az al
 have EB:=(Wm aR q).1
 refine ald afN.aF aR.k.ok tK (YK.mono WR) (by omega) ?_
 rw[hB] at EB behind
 refine ala WR Lo.aF aR.k.ok (aca aR.k.ok tK 0) YK (by omega) (by omega)
  (λi Y=>i<=aJ.toNat/\sm B ck cc k T.g q ((ll T.g q 0 (uR T.g q T.entry 0)).take i) Y) (λY=>sm B ck cc k T.g q ((ll T.g q 0 (uR T.g q T.entry 0)).take aJ.toNat) Y) (λi Y aB=>aB.2.le HE)
  (λi x Y fA M aM ZV avP=>?_) ⟨by omega,by simpa using X1⟩ (λY aB=>?_) λY aB=>behind Y aB
 have fF:(ll T.g q 0 (uR T.g q T.entry 0))[i]?=some x:=M
 have ea:=(ir.1 fF).1
 have hlen:((ll T.g q 0 (uR T.g q T.entry 0)).take i).length=i:=by rw[gL];omega
 refine alM HE cx cS ad2 HD WS QZ aM.2 (λac=>avP Y ?_) (λ_ b4=>?_) λk4 _ fj AJ=>ZV fj ⟨by have:=aM.1;omega,?_⟩
 rw[hlen] at ac
 rw[<-ac];exact aM.2
 exfalso
 obtain⟨j,q2,e⟩:=pc.1 b4
 rw[hlen] at q2
 have:=nX.1 EB j i (by omega) ea q2
 rw[Gk] at e
 rw[cn ea] at fF
 rw[e,cO fF] at this
 exact this rfl
 rw[gT,fF]
 exact AJ
 refine behind Y ?_
 obtain⟨h1,h2⟩:=aB
 have qX:(ll T.g q 0 (uR T.g q T.entry 0)).length<=aJ.toNat:=h1
 have vb:sm B ck cc k T.g q ((ll T.g q 0 (uR T.g q T.entry 0)).take (ll T.g q 0 (uR T.g q T.entry 0)).length) Y:=h2
 rw[ho (cg _)] at vb
 rw[ho qX]
 exact vb
 have hB:nE T.g q T.entry=[]:=aV sJ
 rw[hB]
 simpa using X1
end
end eA
section
variable{l:J (o×ao)}{x:o}
def IY(l:J (o×ao))(x:o)(v:ao):J (o×ao):=if x∈l.map (·.1) then l.map (λp=>if p.1=x then(x,v) else p) else l++ [(x,v)]
def ayL(ae:(l.map (·.1)).Nodup){j:N}{v y:ao}(h:l[j]?=some (x,v)):l.set j (x,y)=l.map λp=>if p.1=x then(x,y) else p:=by
 induction l generalizing j with
 |nil=>simp at h|cons p l aL=>
  have h3:=hK.1 ae;cases j with
  |zero=>
   simp only[A3,j2] at h;subst h;rw[A8,gl,aV rfl];congr 1;have:l.map (λp=>if p.1=x then(x,y) else p)=l.map id:=zd λq aO=>by have:q.1≠x:=λe=>h3.1 (bk.2 ⟨q,aO,e⟩);rw[az this];rfl
   rw[this,List.map_id]
  |succ j=>simp only[xC] at h;have ad:p.1≠x:=λe=>h3.1 (bk.2 ⟨_,du h,e.symm⟩);rw[Jj,aL h3.2 h,gl,az ad]
def akH{P:dR}{t k e:dC}{Y:ao}(T:n5 P t k e Y){u:H}{b:N}(h:fs u b l){v:ao}{K:H->Prop}
  (aq:∀z,fs (u.ins b z) b (IY l x v)->K (u.ins b z)):
  c4 P (unit (kV t (.map (some b)) (.int .i64 x) v)) [] u K:=by
 cases M:fN l x with
 |none=>exact Dt T h M λz ab=>aq z (by unfold IY;rw[az (yj.1 M)];exact ab)
 |some v0=>
  have b4:x∈l.map (·.1):=bk.2 ⟨_,K9 M,rfl⟩;obtain⟨es,c,Z,ar⟩:=h;intro w hw;have W:=za (P:=P) (hw _ _ Z);have I:=T.check ax x w;obtain⟨j,aM,RI⟩:=(T.find ar.iX x w).2 v0 M;have jG:=Jp (P:=P) (.map (es.modify j λe=>{e with key:=.int .i64 x,val:=v}) c) (hw _ _ Z);have rU:Instr.sameBits 10000 (cG .i64 x) (cG .i64 x)=ak:=by simp[Instr.sameBits]
  have agG:(es.toList.map MapEntry.iX)[j]?=some (nb (x,v0)):=by rw[ar.iX,iD,RI];rfl
  rw[iD] at agG;obtain⟨fW,sJ,ast⟩:=SS.1 agG;have as7:fW.key=.int .i64 x:=dV pd ast;have ash:es[j]?=some fW:=by rw[<-sJ,A6]
  have ku:j<es.toList.length:=(ir.1 sJ).1;have het:(es.modify j λe=>{e with key:=cG .i64 x,val:=v}).toList=es.toList.set j {fW with key:=.int .i64 x,val:=v}:=by apply r1;intro i;rw[Array.toList_modify,List.getElem?_modify,A4];by_cases e:j=i;subst e;rw[aV rfl,aV ku,sJ];simp;rw[az e];simp[e]
  refine⟨_,_,u.ins b (.map (es.modify j λe=>{e with key:=.int .i64 x,val:=v}) c),?_,⟨[],.nil,rfl,aq _ ⟨_,_,bf _ _ _,?_,?_,?_,?_⟩⟩,step_block hw Z _⟩;simp[unit,kV,eS,iq T.fb,W,I,aM,jy,ash,as7,Instr.keyThatStays,rU,jG];rfl;unfold IY;rw[aV b4,<-ayL ar.nodup RI,het,Gj,Gj,ar.iX];rfl;rw[het,Gj];have:(es.toList.map (·.born)).set j fW.born=es.toList.map (·.born):=by apply r1;intro i;rw[A4];by_cases e:j=i;subst e;rw[aV rfl,aV (by simpa using ku),iD,sJ];rfl;rw[az e]
  rw[this];exact ar.born;intro gq fX;rw[het] at fX;rcases ajN fX with h1|h1;exact ar.lt gq h1;rw[h1];exact ar.lt fW (du sJ);unfold IY;rw[aV b4,ez];have:l.map ((·.1)∘λp=>if p.1=x then(x,v) else p)=l.map (·.1):=zd λq _=>by show(if q.1=x then(x,v) else q).1=q.1;by_cases e:q.1=x;rw[aV e,e];rw[az e]
  rw[this];exact ar.nodup
def ayA{P:dR}{t k e bx ZN:dC}{Y:ao}(T:n5 P t k e Y){u:H}{b:N}(h:fs u b l)(M:fN l x=none){K:H->Prop}(aq:K u):
  c4 P (s8 #[t,ZN] bx #[.map (some b),.int .i64 x]) [] u K:=by
 obtain⟨es,c,Z,ar⟩:=h
 intro w hw
 have W:=za (P:=P) (hw _ _ Z)
 have I:=T.check es.isEmpty x w
 have jG:=Jp (P:=P) (.map es c) (hw _ _ Z)
 have e:u.ins b (.map es c)=u:=Nk Z
 refine⟨_,_,u.ins b (.map es c),?_,⟨[],.nil,rfl,by rw[e];exact aq⟩,step_block hw Z _⟩
 simp[s8,eS,iq T.fb,W,I,(T.find ar.iX x w).1 M,jy,jG]
 rfl
end
namespace gO
section
variable{u u' ai:H}
open lE (ec sD o5 yX iJ B8)
abbrev mQ:=J (o×(U×J o))
def th(w:mQ)(id:o)(x:U×J o):mQ:=if id∈w.map (·.1) then w.map (λp=>if p.1=id then(id,x) else p) else w++ [(id,x)]
def QC(w:mQ):(ec w).map (·.1)=w.map (·.1):=by unfold ec;rw[ez];rfl
def aeT(w:mQ)(id:o)(s:U)(v:J o):IY (ec w) id (.slice s.a s.n s.c)=ec (th w id (s,v)):=by unfold IY th;rw[QC];split;unfold ec;rw[ez,ez];refine zd λp _=>?_;simp only[Tm];by_cases e:p.1=id;rw[aV e,aV e];rw[az e,az e];unfold ec;rw[dY];rfl
def TI{w:mQ}{id:o}{x:U×J o}{e:o×(U×J o)}(h:e∈th w id x):e=(id,x)∨(e∈w/\e.1≠id):=by unfold th at h;split at h;obtain⟨p,ad,rfl⟩:=bk.1 h;by_cases e:p.1=id;rw[aV e];exact .inl rfl;rw[az e];exact .inr ⟨ad,e⟩;rename_i ae;rcases cK.1 h with h|h;exact .inr ⟨h,λe=>ae (bk.2 ⟨_,h,e⟩)⟩;exact .inl (fI.1 h)
def akL(w:mQ)(id:o)(x:U×J o):(id∈w.map (·.1)->(th w id x).length=w.length)/\(id∉w.map (·.1)->(th w id x).length=w.length+1):=by unfold th;exact⟨λh=>by rw[aV h,dg],λh=>by rw[az h,eC];rfl⟩
def ae6{w:mQ}{id:o}(h:id∉w.map (·.1)):w.filter (λe=>e.1 !=id)=w:=pS.2 λq aO=>by have:q.1≠id:=λe=>h (bk.2 ⟨q,aO,e⟩);simpa using this
def ayJ{id:o}{x:U×J o}:∀{w:mQ},(w.map (·.1)).Nodup->(th w id x).Perm ((id,x)::w.filter λe=>e.1 !=id):=by
 intro w ae;unfold th;split;rename_i b4;induction w with
 |nil=>cases b4
 |cons p w aL=>
  have h3:=hK.1 ae;rw[gl];by_cases e:p.1=id;have q6:id∉w.map (·.1):=by rw[<-e];exact h3.1
  have:w.map (λp=>if p.1=id then(id,x) else p)=w.map _root_.id:=zd λq aO=>by have:q.1≠id:=λe=>q6 (bk.2 ⟨q,aO,e⟩);rw[az this];rfl
  rw[aV e,this,List.map_id,List.filter_cons_of_neg (by simpa using e),ae6 q6];rw[az e,List.filter_cons_of_pos (by simpa using e)];have sN:id∈w.map (·.1):=(cE.1 (by rw[<-gl];exact b4)).resolve_left λh=>e h.symm;exact(iL p (aL h3.2 sN)).trans (S5 _ _ _)
 rename_i b4;rw[ae6 b4];exact l5 _ _
inductive bu where
 |obj|map|vec|code
structure tn where
 b:N
 fS:U
 eK:J (U×J (U×J o))
structure pq where
 hD:N
 sf:mQ
 co:ay tn
structure aT where
 dim:o
 m:N
 w:mQ
 cd:ay pq
def pq.ptr(c:pq):ay ba:=c.co.map λk=>⟨k.b,0,none⟩
def aT.obj(T:aT):Obj:=match T.cd with
 |none=>.cells #[.int .i64 T.dim,.map (some T.m)] 127 (0,0)|some c=>.cells #[.int .i64 T.dim,.map (some T.m),.pointer c.ptr,.map (some c.hD)] 132 (0,0)
structure si(af:N->ay bu)(u:H)(d:o)(k:tn):Prop where
 cell:u k.b=some (.cells #[.int .i64 d,.slice k.fS.a k.fS.n k.fS.c] 191 (0,0))
 Qt:af k.b=some .code
 bo:bt u k.fS 1 (k.eK.flatMap λc=>encS c.1)
 hV:∀g,k.fS.aj=some g->af g=some .code
 tu:∀c∈k.eK,mh u c.1 c.2
 dL:∀c∈k.eK,(∀g,c.1.aj=some g->af g=some .code)/\∀x∈c.2,∀g,x.1.aj=some g->af g=some .code
def si.bM{af aY:N->ay bu}{d:o}{k:tn}(h:si af u d k)(ac:∀c,af c=some .code->aY c=some .code)(hu:∀c z,u c=some z->af c=some .code->u' c=some z):si aY u' d k where
 cell:=hu _ _ h.cell h.Qt
 Qt:=ac _ h.Qt
 bo:=bt.else h.bo λg z W ab=>hu g z ab (h.hV g W)
 hV g W:=ac _ (h.hV g W)
 tu c I:=⟨bt.else (h.tu c I).cC λg z W ab=>hu g z ab ((h.dL c I).1 g W),λx M=>bt.else ((h.tu c I).ints x M) λg z W ab=>hu g z ab ((h.dL c I).2 x M g W)⟩
 dL c I:=⟨λg W=>ac _ ((h.dL c I).1 g W),λx M g W=>ac _ ((h.dL c I).2 x M g W)⟩
def BU(af:N->ay bu)(u:H)(w:mQ):Prop:=∀e∈w,Ints u e.2.1 e.2.2/\∀g,e.2.1.aj=some g->af g=some .vec
def BU.bM{af aY:N->ay bu}{w:mQ}(h:BU af u w)(ac:∀c,af c=some .vec->aY c=some .vec)(hu:∀c z,u c=some z->af c=some .vec->u' c=some z):BU aY u' w:=λe he=>
 ⟨bt.else (h e he).1 λg z W ab=>hu g z ab ((h e he).2 g W),λg W=>ac g ((h e he).2 g W)⟩
structure PZ(af:N->ay bu)(u:H)(d:o)(m:N)(c:pq):Prop where
 map:fs u c.hD (ec c.sf)
 dh:af c.hD=some .map
 ne:c.hD≠m
 vec:BU af u c.sf
 co:∀k,c.co=some k->si af u d k
structure ef(af:N->ay bu)(u:H)(b:N)(T:aT):Prop where
 cell:u b=some T.obj
 dL:af b=some .obj
 map:fs u T.m (ec T.w)
 dh:af T.m=some .map
 vec:BU af u T.w
 sx:∀c,T.cd=some c->PZ af u T.dim T.m c
def PZ.bM{af aY:N->ay bu}{d:o}{m:N}{c:pq}(h:PZ af u d m c)(ac:∀c,af c≠none->aY c=af c)(hu:∀c z,u c=some z->af c≠none->u' c=some z):PZ aY u' d m c where
 map:=h.map.else λz ab=>hu _ _ ab (by rw[h.dh];simp)
 dh:=by rw[ac _ (by rw[h.dh];simp)];exact h.dh
 ne:=h.ne
 vec:=h.vec.bM (λc I=>by rw[ac _ (by rw[I];simp)];exact I) λc z I ht=>hu c z I (by rw[ht];simp)
 co k hk:=(h.co k hk).bM (λc I=>by rw[ac _ (by rw[I];simp)];exact I) λc z I ht=>hu c z I (by rw[ht];simp)
def ef.bM{af aY:N->ay bu}{b:N}{T:aT}(h:ef af u b T)(ac:∀c,af c≠none->aY c=af c)(hu:∀c z,u c=some z->af c≠none->u' c=some z):ef aY u' b T where
 cell:=hu _ _ h.cell (by rw[h.dL];simp)
 dL:=by rw[ac _ (by rw[h.dL];simp)];exact h.dL
 map:=h.map.else λz ab=>hu _ _ ab (by rw[h.dh];simp)
 dh:=by rw[ac _ (by rw[h.dh];simp)];exact h.dh
 vec:=h.vec.bM (λc I=>by rw[ac _ (by rw[I];simp)];exact I) λc z I ht=>hu c z I (by rw[ht];simp)
 sx c I:=(h.sx c I).bM ac hu
def bM:x5 ef:=⟨λh ac hu=>h.bM ac hu⟩
abbrev In:=mf ef
def bb(X:aT):J (o×J o):=X.w.map λe=>(e.1,e.2.2)
structure DK(d:o)(eK:J (U×J (U×J o))):Prop where
 many:1<=eK.length/\eK.length<=8
 KO:∃n:N,1<=n/\((eK.length*n:N):o)=d/\∀c∈eK,wq c.2 n
structure dP(T:aT):Prop where
 hs:1<=T.dim/\T.dim<=64
 ids:∀e∈T.w,1<=e.1/\e.1<=1000000000
 vec:∀e∈T.w,(e.2.2.length:o)=T.dim/\db e.2.2
 small:T.w.length<=512
 tu:∀c k,T.cd=some c->c.co=some k->DK T.dim k.eK
def ef.rD{af:N->ay bu}{b:N}{T:aT}(h:ef af u b T):(T.w.map (·.1)).Nodup:=by obtain⟨es,cl,_,he⟩:=h.map;have:=he.nodup;rw[QC] at this;exact this
def na(T:aT):(bb T).map (·.1)=T.w.map (·.1):=by unfold bb;rw[ez];rfl
def aT.bK{b:N}{T:aT}(h:u b=some T.obj):u.cell? ⟨b,0,none⟩=some (.int .i64 T.dim):=by
 unfold aT.obj at h;cases e:T.cd with
 |none=>rw[e] at h;exact a1 h 0|some c=>rw[e] at h;exact a1 h 0
def aT.c1{b:N}{T:aT}(h:u b=some T.obj):u.cell? ((cr b 0 none).add 1)=some (.map (some T.m)):=by
 unfold aT.obj at h;cases e:T.cd with
 |none=>rw[e] at h;exact a1 h 1|some c=>rw[e] at h;exact a1 h 1
def Bl{af:N->ay bu}{b:N}{T:aT}{K:o->H->Prop}(h:In ai u af b T)(aq:K (bb T).length u):acY (some ⟨b,0,none⟩) u K:=by apply aBD;refine⟨_,rfl,_,aT.c1 h.aF.cell,v7 iJ h.aF.map ?_⟩;rw[show(ec T.w).length=(bb T).length by simp[ec,bb]];exact aq
def hA.map{af:N->ay bu}{m:N}(hm:af m=some .map)(z:Obj):hA u af (u.ins m z) af:=
 ⟨λc b5 I ac=>by rw[bm _ _ λe=>by rw[e,hm] at ac;cases ac];exact I,λ_ h=>.inl h⟩
def In.ins{af:N->ay bu}{b:N}{T bx:aT}{m:N}{z:Obj}(h:In ai u af b T)(hm:af m≠none)(ht:ef af (u.ins m z) b bx):In ai (u.ins m z) af b bx:=
 ⟨ht,λc b5 I=>by rw[bm _ _ λe=>by rw[e,h.out m hm] at I;cases I];exact h.le c b5 I,h.out,λc I=>by by_cases e:c=m;rw[e,bf];simp;rw[bm _ _ e];exact h.known c I⟩
structure zD(ai u:H)(af:N->ay bu)(b:N)(T:aT)(id:o)(u':H)(bx:aT):Prop where
 is:In ai u' af b bx
 eQ:hA u af u' af
 ok:dP bx
 rows:bb bx=(bb T).filter λx=>x.1 !=id
 dim:bx.dim=T.dim
 cd:bx.cd=T.cd
def wa{af:N->ay bu}{b:N}{T:aT}{id:o}{K:aI->o->H->Prop}(h:In ai u af b T)(aR:dP T)(ed:id∉T.w.map (·.1)->K ax 0 u)
  (kh:id∈T.w.map (·.1)->∀u' bx,zD ai u af b T id u' bx->K ak 0 u'):acX (some ⟨b,0,none⟩) id u K:=by
 have aF:=h.aF
 have Ml:af T.m≠none:=by rw[aF.dh];simp
 apply aBC
 rcases sD T.w id with⟨W,hm⟩|⟨e,he,b7,W⟩
 refine⟨_,rfl,_,aT.c1 aF.cell,tf iJ aF.map (ct:=.slice) (⟨none,0,0⟩:U) (by rw[W];rfl) ⟨_,rfl,_,aT.c1 aF.cell,ayA iJ aF.map W ?_⟩⟩
 rw[W]
 exact ed hm
 refine⟨_,rfl,_,aT.c1 aF.cell,tf iJ aF.map (ct:=.slice) e.2.1 (by rw[W];rfl) ⟨_,rfl,_,aT.c1 aF.cell,?_⟩⟩
 rw[W]
 refine Oz iJ aF.map λz im=>kh (bk.2 ⟨e,he,b7⟩) _ {T with w:=T.w.filter λe=>e.1 !=id} ⟨h.ins Ml ?_,hA.map aF.dh z,⟨aR.hs,λe he=>aR.ids e (hT.1 he).1,λe he=>aR.vec e (hT.1 he).1,jv (Bh _ _) aR.small,aR.tu⟩,?_,rfl,rfl⟩
 have o9:∀{c b5},u c=some b5->c≠T.m->(u.ins T.m z) c=some b5:=λI al=>by rw[bm _ _ al];exact I
 have p2:∀{c t},af c=some t->t≠.map->c≠T.m:=λI ht e=>by rw[e,aF.dh] at I;exact ht (cO I).symm
 refine⟨o9 aF.cell (p2 aF.dL (by simp)),aF.dL,?_,aF.dh,?_,λc I=>?_⟩
 rw[B8] at im
 exact im
 have h1:BU af (u.ins T.m z) T.w:=aF.vec.bM (λ_ h=>h) λc b5 I ht=>o9 I (p2 ht (by simp))
 exact λe he=>h1 e (hT.1 he).1
 have c7:=aF.sx c I
 exact⟨c7.map.else λb5 ab=>o9 ab c7.ne,c7.dh,c7.ne,c7.vec.bM (λ_ h=>h) λc b5 I ht=>o9 I (p2 ht (by simp)),λk hk=>(c7.co k hk).bM (λ_ h=>h) λc b5 I ht=>o9 I (p2 ht (by simp))⟩
 show(T.w.filter _).map _=(T.w.map _).filter _
 rw[r8]
 rfl
def zn{af:N->ay bu}{b:N}{T:aT}{K:U->H->Prop}(h:In ai u af b T)(aR:dP T)(aq:∀s ls u',qO u u' s ls->(ls.map av.bi).Perm (bb T)->(ls.Pairwise λa b=>a.id<=b.id)->K s u'):
  Ut (some ⟨b,0,none⟩) u K:=by
 have fq:=aR.small
 apply aBF
 refine⟨_,rfl,_,aT.c1 h.aF.cell,JQ iJ h.aF.map λr z O wX=>?_⟩
 have jH:=bW (u:=u) (b:=r) z O
 refine⟨λs w=>∃rw:J av,mM w r T.m (ec T.w) (rw.map λx=>(x.id,.slice x.s.a x.s.n x.s.c))/\aD u w 52 2 s (rw.flatMap cB)/\s.aj≠some r/\∀x∈rw,(x.id,(x.s,x.v))∈T.w,λs _=>1000000-s.n,
  ⟨[],wX,aD.nil jH _ _,by simp[U.aj],λx M=>(by cases M)⟩,?_⟩
 rintro s w ⟨rw,iI,ab,pI,kQ⟩
 have dw:s.n=rw.length:=gY eY (by decide) ab.own.cC
 have lq:rw.length<=512:=by have h2:=iI.rH;rw[ez] at h2;have h3:(rw.map (·.id)).length<=(T.w.map (·.1)).length:=(o5 h2 λx M=>by obtain⟨y,ah,rfl⟩:=bk.1 M;exact bk.2 ⟨_,kQ y ah,rfl⟩).1;rw[dg,dg] at h3;omega
 refine I2 iI (λhP=>?_) λp hE ad Ao pF=>?_
 have b1:dS w s rw:=⟨ab.own.cC,λx M=>((h.aF.vec _ (kQ x M)).1).mono ab.le⟩
 have kx:(rw.map av.bi).Perm (bb T):=by
  have bY:=iI.rH;rw[ez] at bY;have hlen:=hP.length_eq;simp only[dg,ec] at hlen;have gH:∀x∈rw.map av.bi,x∈bb T:=λx M=>by obtain⟨y,ah,rfl⟩:=bk.1 M;exact bk.2 ⟨_,kQ y ah,rfl⟩
  have sQ:(rw.map av.bi).Nodup:=by have:(rw.map (·.id)).Nodup:=bY;rw[show rw.map (·.id)=(rw.map av.bi).map (·.1) by rw[ez];rfl] at this;exact yX this
  exact(o5 sQ gH).2 (by simp[bb];omega)
 refine zo b1 (λx M=>aR.ids _ (kQ x M)) (by omega) (λx M=>?_) λs2 ls c9 oe fg dE=>?_
 have mo:(x.v.length:o)=T.dim:=(aR.vec _ (kQ x M)).1
 have:=aR.hs
 omega
 exact aq s2 ls c9 ⟨oe.own.weaken ab.le,λr O=>(oe.inner r O).weaken ab.le,oe.eu,oe.apart⟩ (fg.trans kx) dE
 obtain⟨e,he,MH⟩:=bk.1 ad
 subst MH
 refine Hr pF ?_
 have dz:aD u (w.ins r hE) 52 2 s (rw.flatMap cB):=ab.xj O pI hE
 refine np ic (wB e.1 e.2.1) (by decide) rfl (by simp[cF]) dz (by show s.n<_;omega) (by show(s.n+1)*_<=_;omega) λap u' bQ hJ fX ev _=>⟨⟨rw++ [⟨e.1,e.2.1,e.2.2⟩],?_,?_,λaC=>?_,λx M=>?_⟩,?_⟩
 rw[dY]
 refine pF.else (λb5 kv=>fX _ _ kv λc0=>?_) λb5 kv=>fX _ _ kv pI
 have:=ab.fresh _ c0
 exact h.known T.m (by rw[h.aF.dh];simp) this
 rw[gU];exact bQ
 rcases ev r aC with a7|a7
 exact pI a7
 rw[bf] at a7;cases a7
 rcases cK.1 M with M|M
 exact kQ x M
 obtain rfl:=fI.1 M
 exact he
 show 1000000-ap.n<1000000-s.n
 omega
end
section
variable{u ai:H}{d:o}{v q:J o}{s t:U}{b:N}
open lE (ec sD o5 yX iJ B8)
def s4(v:J o)(n i:N):J o:=(v.drop (i*n)).take n
def SI{n i p:N}(h:v.length=p*n)(hi:i<p):(s4 v n i).length=n:=by unfold s4;rw[gL,nV];have:(i+1)*n<=p*n:=r2 _ hi;rw[Dc] at this;omega
def SJ(h:db v)(n i:N):db (s4 v n i):=by unfold s4;refine⟨?_,λj aM=>?_⟩;have:=h.1;rw[gL,nV];omega;rw[gL,nV] at aM;have:=h.2 (i*n+j) (by omega);rw[dr] at this ⊢;rw[List.getElem?_take_of_lt (by omega),uB];exact this
def abX{p n:N}{i:o}{K:U->H->Prop}(ag:Ints u s v)(ar:v.length=p*n)(ad:1<=p)(gj:1<=n)(fq:v.length<=1000000)(h0:0<=i)(h1:i<p)
  (aq:∀t,(∀w,Ints w s v->Ints w t (s4 v n i.toNat))->K t u):Kh s p i u K:=by
 have ae:=ag.len
 have aw:gw (s.n:o) (p:o)=n:=by rw[ae,ar,Gi];exact Int.mul_tdiv_cancel_left _ (by omega)
 have aP:i*(n:o)=((i.toNat*n:N):o):=by rw[Gi,tb h0]
 have aC:(i+1)*(n:o)=(((i.toNat+1)*n:N):o):=by rw[Gi,Int.natCast_add,tb h0];rfl
 have Z:(i.toNat+1)*n<=p*n:=r2 _ (by omega)
 have ii:(i.toNat+1)*n=i.toNat*n+n:=by rw[Dc,Nat.one_mul]
 have gZ:=bt.cap ag
 have hi:i.toNat*1<=i.toNat*n:=Nat.mul_le_mul_left _ gj
 apply aCY
 rw[aw,aP,aC]
 refine⟨by omega,⟨by omega,by omega⟩,⟨by omega,by omega⟩,⟨by omega,by omega⟩,⟨by omega,by omega⟩,⟨by omega,by omega⟩,⟨by omega,by omega⟩,?_⟩
 refine lj lQ (l:=i.toNat*n) (h:=(i.toNat+1)*n) (m:=(i.toNat+1)*n) (.inr rfl) (.inr rfl) (.inr ⟨rfl,by simp⟩) (by omega) (cg _) (by omega) gZ (aq _ λw hw=>?_)
 have:=bt.part hw (l:=i.toNat*n) (h:=(i.toNat+1)*n) (m:=(i.toNat+1)*n) (by omega) (by omega) (cg _) (by omega)
 rw[show(i.toNat+1)*n-i.toNat*n=n by omega,y7,y7,<-Dh,<-JB] at this
 exact this
def TO{l:J (U×J o)}{K:o->o->o->o->H->Prop}(h:mh u s l)(I:wq l d)(ht:Ints u t v)(aA:db v)(CK:(v.length:o)=d)
  (aq:∀a x y,K a x y 0 u):G1 s t u K:=by
 have ae:=h.len
 have hm:=I.many
 have aw:=I.dim
 obtain⟨p,ad,c,og,cJ,bK,pz⟩:=h.at (x:=0) (l4 _) (by omega)
 obtain⟨aP,aC⟩:=I.each c cJ
 have oR:(c.1.n:o)=d:=by rw[pz.len];exact aP
 apply amF
 apply amG
 intro lA mu
 refine⟨λe=>a6 e (by omega),λ_=>⟨λe=>a6 e (by omega),λ_=>mu 0 _ ⟨p,ad,⟨l4 _,by omega⟩,_,bK,?_⟩⟩⟩
 dsimp only
 rw[oR]
 refine abU h aw I.each (by omega) ⟨λe=>a6 rfl e,λ_=>⟨p,ad,⟨l4 _,by omega⟩,_,bK,?_⟩⟩
 dsimp only
 rw[oR]
 have xh:gn v d=0:=by rw[<-CK];exact y3 aA (by omega)
 refine pX ht ?_
 rw[xh]
 exact⟨λe=>a6 rfl e,λ_=>abV h I ht aA CK (aq _ _ _)⟩
def aoE(x:o):kp aH 30 1 #[(0,.int .i64 x)]=some (3,[.int .i64 x]):=by kernel_rfl
def Wl(c:U×J (U×J o)):(encS c.1).length=1:=rfl
def si.len{af:N->ay bu}{k:tn}(h:si af u d k):k.fS.n=k.eK.length:=gY Wl (by decide) h.bo
def si.at{af:N->ay bu}{k:tn}(h:si af u d k){x:o}(h0:0<=x)(h1:x<(k.fS.n:o)):∃p,k.fS.a=some p/\∃c,k.eK[x.toNat]?=some c/\c∈k.eK/\u.cell? (p.add (x.toNat*1))=some (.slice c.1.a c.1.n c.1.c):=by
 have ae:=h.len;have ar:x.toNat<k.eK.length:=by omega
 have M:k.eK[x.toNat]?=some k.eK[x.toNat]:=cn ar;obtain⟨p,ad,I⟩:=bt.elem Wl (by decide) h.bo M;exact⟨p,ad,_,M,kk ar,I 0 _ rfl⟩
def si.mono{af:N->ay bu}{u':H}{k:tn}(h:si af u d k)(hu:u.le u'):si af u' d k:=h.bM (λ_ h=>h) λc z I _=>hu c z I
def ayZ{af:N->ay bu}{k:tn}{K:U->o->H->Prop}(h:si af u d k)(Z:DK d k.eK)(ht:Ints u t q)(aO:gn q d=0)
  (aq:∀s u' (cl:J o),aD u u' 3 1 s (cl.flatMap encI)->K s 0 u'):UN (some ⟨k.b,0,none⟩) t u K:=by
 have ae:=h.len
 have hm:=Z.many
 obtain⟨n,b3,nd,dU⟩:=Z.KO
 obtain⟨d1,d2,d3,d4⟩:=oA aO
 have ar:q.length=k.eK.length*n:=by omega
 apply aCT
 refine⟨λe=>(by cases e),λ_=>⟨_,rfl,_,a1 h.cell 0,pX ht ?_⟩⟩
 rw[aO]
 refine⟨λe=>a6 rfl e,λ_=>⟨_,rfl,k.fS,a1 h.cell 1,λs x w=>0<=x/\x<=k.fS.n/\∃cl:J o,cl.length=x.toNat/\aD u w 3 1 s (cl.flatMap encI),λ_ x _=>k.fS.n-x.toNat,⟨by omega,by omega,[],rfl,aD.nil (H.le.refl u) _ _⟩,?_⟩⟩
 rintro s x w ⟨bG,dy,cl,hv,ab⟩
 have hw:=h.mono ab.le
 have dw:s.n=cl.length:=gY (enc:=encI) (λ_=>rfl) (by decide) ab.own.cC
 refine⟨λM=>?_,λ_=>aq _ _ cl ab⟩
 obtain⟨p,ad,c,og,cJ,bK⟩:=hw.at bG M
 refine⟨p,ad,⟨bG,M⟩,c.1,bK,_,rfl,k.fS,a1 hw.cell 1,?_⟩
 dsimp only
 rw[ae]
 refine abX (ht.mono ab.le) ar hm.1 b3 (by omega) bG (by omega) λxS rb=>?_
 refine TO (hw.tu c cJ) (dU c cJ) (rb _ (ht.mono ab.le)) (SJ d4 _ _) (by rw[SI ar (by omega)]) λa y Y=>?_
 refine np lQ (aoE a) (by decide) rfl (by simp[cF]) ab (by show s.n<_;omega) (by show(s.n+1)*_<=_;omega) λap u' bQ hJ _ _ _=>⟨⟨by omega,by omega⟩,⟨by omega,by omega,cl++ [a],by rw[eC,hv];simp;omega,?_⟩,?_⟩
 rw[gU];exact bQ
 omega
def uS(af:N->ay bu)(s:U):N->ay bu:=λc=>if s.aj=some c then some .vec else af c
def T0{af:N->ay bu}{c:N}(h:s.aj=some c):uS af s c=some .vec:=aV h
def T1{af:N->ay bu}{c:N}(h:s.aj≠some c):uS af s c=af c:=az h
def In.uS{u':H}{af:N->ay bu}{T:aT}{e k:N}{xs:J ao}(h:In ai u af b T)(ab:aD u u' e k s xs):In ai u' (uS af s) b T/\hA u af u' (uS af s):=by have al:∀c,af c≠none->gO.uS af s c=af c:=λc I=>T1 λe=>h.known c I (ab.fresh c e);refine⟨⟨bM.bM h.aF al λc z I _=>ab.le c z I,h.le.trans ab.le,λc I=>?_,λc I=>?_⟩,λc z I _=>ab.le c z I,λc I=>?_⟩;by_cases e:s.aj=some c;exact h.le.none (ab.fresh c e);rw[T1 e] at I;exact h.out c I;by_cases e:s.aj=some c;exact dF ab e;rw[T1 e] at I;obtain⟨z,bQ⟩:=e3.1 (h.known c I);rw[ab.le c z bQ];simp;by_cases e:s.aj=some c;exact .inr (ab.fresh c e);rw[T1 e] at I;exact .inl I
def ajb{id:o}{there:aI}{many:o}(h:fr id v d there many=0):1<=id/\id<=1000000000/\gn v d=0/\(there=ax->many<512):=by unfold fr at h;split at h;omega;split at h;rename_i h1 h2;exact a6 h h2;split at h;omega;rename_i h1 h2 h3;refine⟨by omega,by omega,by omega,λht=>?_⟩;by_cases hm:many<512;exact hm;exact a6 ⟨ht,by omega⟩ h3
structure tp(ai u:H)(af:N->ay bu)(b:N)(T:aT)(id:o)(v:J o)(u':H)(aY:N->ay bu)(bx:aT):Prop where
 is:In ai u' aY b bx
 eQ:hA u af u' aY
 ok:dP bx
 rows:(bb bx).Perm ((id,v)::(bb T).filter λx=>x.1 !=id)
 dim:bx.dim=T.dim
 ao0:bx.cd.isSome=T.cd.isSome
def alr{af:N->ay bu}{T:aT}{id:o}{K:aI->o->H->Prop}(h:In ai u af b T)(aR:dP T)(ht:Ints u t q)
  (dx:fr id q T.dim (decide (id∈T.w.map (·.1))) T.w.length≠0->K ax (fr id q T.dim (decide (id∈T.w.map (·.1))) T.w.length) u)
  (bH:fr id q T.dim (decide (id∈T.w.map (·.1))) T.w.length=0->∀u' aY bx,tp ai u af b T id q u' aY bx->bx.cd=T.cd->K (decide (id∉T.w.map (·.1))) 0 u'):Us (some ⟨b,0,none⟩) id t u K:=by
 have aF:=h.aF
 have ar:(ec T.w).length=T.w.length:=by simp[ec]
 have iA:(fN (ec T.w) id).isSome=decide (id∈T.w.map (·.1)):=by rcases sD T.w id with⟨W,hm⟩|⟨e,he,b7,W⟩;rw[W,nY hm];rfl;rw[W,lP (bk.2 ⟨e,he,b7⟩)];rfl
 obtain⟨y,ah⟩:∃y:U,(fN (ec T.w) id).getD (.slice none 0 0)=aK.slice.enc y:=by rcases sD T.w id with⟨W,hm⟩|⟨e,he,b7,W⟩;exact⟨⟨none,0,0⟩,by rw[W];rfl⟩;exact⟨e.2.1,by rw[W];rfl⟩
 apply aBE
 refine⟨_,rfl,_,aT.c1 aF.cell,tf iJ aF.map (ct:=.slice) y ah ?_⟩
 rw[iA]
 refine⟨_,rfl,_,rfl,_,aT.bK aF.cell,_,aT.c1 aF.cell,v7 iJ aF.map ⟨H.le.refl u,JU ht ?_⟩⟩
 rw[ar]
 refine⟨λal=>dx al,λhe=>⟨_,rfl,_,aT.c1 aF.cell,?_⟩⟩
 have bH:=bH he
 obtain⟨i1,i2,aA,RL⟩:=ajb he
 obtain⟨d1,d2,d3,d4⟩:=oA aA
 have auh:=ht.len
 refine sc ht (by omega) λap u' ab _=>⟨ab.le,?_⟩
 obtain⟨bL,xS⟩:=In.uS h ab
 have p1:=bL.aF
 have Ml:uS af ap T.m≠none:=by rw[p1.dh];simp
 refine akH iJ p1.map λz im=>?_
 rw[aeT] at im
 have o9:∀{c b5},u' c=some b5->c≠T.m->(u'.ins T.m z) c=some b5:=λI al=>by rw[bm _ _ al];exact I
 have p2:∀{c t},uS af ap c=some t->t≠.map->c≠T.m:=λI ht e=>by rw[e,p1.dh] at I;exact ht (cO I).symm
 have nd:=aF.rD
 have:=bH _ _ {T with w:=th T.w id (ap,q)} ⟨In.ins bL Ml ⟨o9 p1.cell (p2 p1.dL (by simp)),p1.dL,im,p1.dh,λe he=>?_,λc I=>?_⟩,xS.trans (hA.map p1.dh z),⟨aR.hs,λe he=>?_,λe he=>?_,?_,aR.tu⟩,?_,rfl,rfl⟩ rfl
 have aC:(!decide (decide (id∈T.w.map (·.1))=ak))=decide (id∉T.w.map (·.1)):=by simp
 first
  |exact aC▸this
  |(rw[<-aC] at this;exact this)
 have hold:BU (uS af ap) (u'.ins T.m z) T.w:=p1.vec.bM (λ_ h=>h) λc b5 I ht=>o9 I (p2 ht (by simp))
 rcases TI he with rfl|⟨he,_⟩
 exact⟨bt.else ab.ints λg b5 W I=>o9 I (p2 (T0 W) (by simp)),λg W=>T0 W⟩
 exact hold e he
 have c7:=p1.sx c I
 exact⟨c7.map.else λb5 ab=>o9 ab c7.ne,c7.dh,c7.ne,c7.vec.bM (λ_ h=>h) λc b5 I ht=>o9 I (p2 ht (by simp)),λk hk=>(c7.co k hk).bM (λ_ h=>h) λc b5 I ht=>o9 I (p2 ht (by simp))⟩
 rcases TI he with rfl|⟨he,_⟩
 exact⟨i1,i2⟩
 exact aR.ids e he
 rcases TI he with rfl|⟨he,_⟩
 exact⟨d3,d4⟩
 exact aR.vec e he
 have fq:=aR.small
 by_cases e:id∈T.w.map (·.1)
 show(th T.w id (ap,q)).length<=512
 rw[(akL _ _ _).1 e];exact fq
 have:=RL (nY e)
 show(th T.w id (ap,q)).length<=512
 rw[(akL _ _ _).2 e];omega
 show((th T.w id (ap,q)).map λe=>(e.1,e.2.2)).Perm _
 refine((ayJ nd).map _).trans ?_
 rw[gl]
 unfold bb
 rw[r8]
 exact Gl _
def ay8{af:N->ay bu}{T:aT}{c:pq}{id:o}{K:aI->o->H->Prop}(h:In ai u af b T)(aR:dP T)(lH:T.cd=some c)(ht:Ints u t q)(fh:∀aS (cZ:N->ay bu),ai.le aS->hA u af aS cZ->Ints aS t q)
  (dx:fr id q T.dim (decide (id∈T.w.map (·.1))) T.w.length≠0->K ax (fr id q T.dim (decide (id∈T.w.map (·.1))) T.w.length) u)
  (bH:fr id q T.dim (decide (id∈T.w.map (·.1))) T.w.length=0->∀u' aY bx,tp ai u af b T id q u' aY bx->K (decide (id∉T.w.map (·.1))) 0 u'):acU (some ⟨b,0,none⟩) id t u K:=by
 apply aBz
 refine⟨_,rfl,alr h aR ht (λal Kv a7=>⟨λe=>a6 e al,λ_=>a7 _ _ ⟨λe=>(by cases e),λ_=>dx al⟩⟩) λhe aS cZ a8 O iy Kv a7=>⟨λ_=>?_,λe=>a6 rfl e⟩⟩
 have bH:=bH he
 obtain⟨_,_,aA,_⟩:=ajb he
 rw[lH] at iy
 have al8:=O.is.aF
 have VY:aS b=some (.cells #[.int .i64 a8.dim,.map (some a8.m),.pointer c.ptr,.map (some c.hD)] 132 (0,0)):=by rw[al8.cell];unfold aT.obj;rw[iy]
 have sx:=al8.sx c iy
 refine⟨_,rfl,c.ptr,a1 VY 2,a7 _ _ ⟨λe=>?_,λ_=>bH aS cZ a8 O⟩⟩
 cases hk:c.co with
 |none=>simp[pq.ptr,hk] at e
 |some k=>
  have wE:=sx.co k hk;have mX:=fh aS cZ O.is.le O.eQ;refine⟨_,rfl,_,rfl,_,a1 VY 3,_,a1 VY 2,?_⟩;rw[show c.ptr=some ⟨k.b,0,none⟩ by unfold pq.ptr;rw[hk];rfl];refine ayZ wE (O.ok.tu c k iy hk) mX (by rw[O.dim];exact aA) λs2 c9 cl dz=>⟨dz.le,?_⟩;obtain⟨bL,xS⟩:=In.uS O.is dz;have p1:=bL.aF;have zS:=p1.sx c iy;refine akH iJ zS.map λz im=>?_;rw[aeT (v:=cl)] at im;have o9:∀{x b5},c9 x=some b5->x≠c.hD->(c9.ins c.hD z) x=some b5:=λI al=>by rw[bm _ _ al];exact I
  have p2:∀{x t},uS cZ s2 x=some t->t≠.map->x≠c.hD:=λI ht e=>by rw[e,zS.dh] at I;exact ht (cO I).symm
  refine bH _ _ {a8 with cd:=some {c with sf:=th c.sf id (s2,cl)}} ⟨In.ins bL (by rw[zS.dh];simp) ⟨?_,p1.dL,p1.map.else λb5 ab=>o9 ab (dv zS.ne),p1.dh,p1.vec.bM (λ_ h=>h) λx b5 I ht=>o9 I (p2 ht (by simp)),λmS c7=>?_⟩,(O.eQ.trans xS).trans (hA.map zS.dh z),⟨O.ok.hs,O.ok.ids,O.ok.vec,O.ok.small,λmS dQ c7 de=>?_⟩,O.rows,O.dim,?_⟩;refine o9 ?_ (p2 p1.dL (by simp));rw[p1.cell];unfold aT.obj;rw[iy];rfl;obtain rfl:=cO c7;refine⟨im,zS.dh,zS.ne,λe he=>?_,λk hk=>(zS.co k hk).bM (λ_ h=>h) λx b5 I ht=>o9 I (p2 ht (by simp))⟩;have hold:BU (uS cZ s2) (c9.ins c.hD z) c.sf:=zS.vec.bM (λ_ h=>h) λx b5 I ht=>o9 I (p2 ht (by simp));rcases TI he with rfl|⟨he,_⟩;exact⟨bt.else dz.ints λg b5 W I=>o9 I (p2 (T0 W) (by simp)),λg W=>T0 W⟩;exact hold e he;obtain rfl:=cO c7;exact O.ok.tu c dQ iy de;rw[lH];rfl
end
end gO
