/- Texts of mine, joined and packed by pack.py. -/
import Derived.Test.YtejdhbfjjgcljaaGreatDoorMra7
set_option linter.all false
open Go renaming Program->dY,Value->ap,World->b7,TypeId->dJ,FuncId->kM,Addr->bc
open _root_ renaming Nat->N,List->M,Option->ay,Array->cw,Int->o,Bool->aK,False->eh,absurd->aW
open Bool renaming true->ak,false->ax
open Go.Obj renaming cells->bC
open Go.IntKind renaming wrap->cz
open Go.Made renaming depth->uW
open Go.Instr renaming mapUpdate->lx,buildSlice->dL
open Go.Builtin renaming append_->ey,delete_->tq
open Go.Addr renaming add->ev,mk->cB
open Go.Result renaming andThen->jL
open List renaming range->lM,length->iS
open Go.Proofs.Tryz renaming prog->aH
open Go.Value renaming bool->mP,int->cY,slice->ec,oneCell'->cT
open Int renaming tmod->ps,tdiv->gR
open List.Perm renaming cons->kc,swap->UN
open List.Pairwise renaming nil->p4
open Prod renaming fst->sq,snd->tv
open Function renaming comp->U6
set_option maxRecDepth 100000
noncomputable section
namespace Go.Proofs.YtejdhbfjjgcljaaGreatDoor
structure TabAt(u:H)(n:N)(an:o)(L:M az):Prop where
 ex:∃(s:U) (v:H),u n=some (.cells #[.int .i64 an,.slice s.a s.n s.c] 84 (0,0))/\v.le u/\v n=none/\en v s L
 Ch:L.Pairwise λa b=>a.id<b.id
def TabAt.bN{u u':H}{n:N}{an:o}{L:M az}(h:TabAt u n an L)(hu:u.le u'):TabAt u' n an L:=by obtain⟨s,v,h1,h2,h3,a7⟩:=h.ex;exact⟨⟨s,v,hu _ _ h1,h2.trans hu,h3,a7⟩,h.Ch⟩
abbrev tO:=o×M o
def en.nil(u:H):en u ⟨none,0,0⟩ []:=⟨⟨rfl,cA _,by decide,.inl rfl⟩,λ_ h=>by cases h⟩
def akH{P Q:M tO}(ad:P.Pairwise λa b=>a.1<b.1)(aN:Q.Pairwise λa b=>a.1<b.1)(h:P.Perm Q):P=Q:=by
 induction P generalizing Q with
 |nil=>exact(kN (by have:=h.length_eq;simpa using this.symm)).symm|cons p P aM=>
  cases Q with
  |nil=>have:=h.length_eq;simp at this|cons q Q=>
   obtain⟨h1,h2⟩:=k6.1 ad;obtain⟨h3,a7⟩:=k6.1 aN;have e:p=q:=by have aup:p∈q::Q:=h.mem_iff.1 (.head _);have aaj:q∈p::P:=h.mem_iff.2 (.head _);rcases cJ.1 aup with bK|bK;exact bK;rcases cJ.1 aaj with fs|fs;exact fs.symm;have:=h3 p bK;have:=h1 q fs;omega
   subst e;rw[aM h2 a7 ((acY p).1 h)]
def TabAt.HW{u:H}{n:N}{an:o}{L:M az}(h:TabAt u n an L):(L.map az.bz).Pairwise λa b=>a.1<b.1:=tu.2 h.Ch
def oE(L:M az):L.map (·.id)=(L.map az.bz).map (·.1):=by rw[ep];rfl
namespace eE
section
variable{u ai v B:H}{b cm bud cb n:N}{q S:M o}{s:U}{k:o}{g:M (o×dq)}
def PT(g:M (o×dq)):(jt g).length=g.length:=by simp[jt]
def spec.Dw{af:N->ay bp}{T:aQ}{K:o->H->Prop}(h:ed af u b T)(au:K T.g.length u):C.Dw (some ⟨b,0,none⟩) u K:=by obtain⟨_,_,_,fg,_⟩:=kP h;apply aG.Dw;refine⟨λe=>(by cases e),λ_=>⟨_,rfl,_,fg,wJ we h.map ?_⟩⟩;rw[PT];exact au
def In.adU{af:N->ay bp}{T:aQ}(h:In ai u af b T)(ag:∀g,s.aj=some g->af g=none/\ai g=none/\u g≠none)(id:o):
  ∃aX,In ai u aX b T/\(∀g,s.aj=some g->aX g=some (.vec id))/\(∀c,s.aj≠some c->aX c=af c):=by
 let aX:N->ay bp:=λc=>open Classical in if s.aj=some c then some (.vec id) else af c
 have aS:∀c,s.aj=some c->aX c=some (.vec id):=λc I=>a1 I
 have aB:∀c,s.aj≠some c->aX c=af c:=λc I=>aF I
 have cW:∀c,af c≠none->aX c=af c:=λc I=>aB c λe=>I (ag c e).1
 refine⟨aX,⟨h.aI.bN cW λ_ _ aa _=>aa,h.le,λc I=>?_,λc I=>?_⟩,aS,aB⟩
 by_cases e:s.aj=some c
 exact(ag c e).2.1
 rw[aB c e] at I;exact h.out c I
 by_cases e:s.aj=some c
 exact(ag c e).2.2
 rw[aB c e] at I;exact h.known c I
structure tP(ai u:H)(af:N->ay bp)(b:N)(T:aQ)(id:o)(v:M o)(u':H)(aX:N->ay bp)(bt:aQ):Prop where
 is:In ai u' aX b bt
 eP:gA u af u' aX
 ok:dS bt
 rows:(e5 bt.g).Perm ((id,v)::(e5 T.g).filter λx=>x.1 !=id)
 an:bt.an=T.an
 bY:bt.bY=T.bY
def ty(g:M (o×dq)):(e5 g).map (·.1)=g.map (·.1):=by unfold e5;rw[ep];rfl
def spec.xH{af:N->ay bp}{T:aQ}{id:o}{t:U}{K:aK->o->H->Prop}(h:In ai u af b T)(aT:dS T)(e2:jB ai)(ht:Ints u t q)(fi:∀g,t.aj=some g->af g=none)
  (di:fu id q T.an (decide (id∈T.g.map (·.1))) T.g.length≠0->K ax (fu id q T.an (decide (id∈T.g.map (·.1))) T.g.length) u)
  (bE:fu id q T.an (decide (id∈T.g.map (·.1))) T.g.length=0->∀u' aX bt,tP ai u af b T id q u' aX bt->K (decide (id∉T.g.map (·.1))) 0 u'):C.xH (some ⟨b,0,none⟩) id t u K:=by
 obtain⟨bJ,_,_,fg,_⟩:=kP h.aI
 apply aG.xH
 refine⟨λe=>(by cases e),λ_=>⟨_,rfl,_,fg,?_⟩⟩
 refine tB we h.aI.map (ct:=.ptr) ((eL T.g id).map λn=>(⟨n.p,0,none⟩:bc)) (by rw[C9];cases eL T.g id<;>rfl) ?_
 have iE:(fR (jt T.g) id).isSome=decide (id∈T.g.map (·.1)):=by
  rw[C9,U5];cases e:eL T.g id with
  |none=>rw[p7 (AQ.1 e)];rfl|some n=>rw[mm (bf.2 ⟨_,iq e,rfl⟩)];rfl
 rw[iE]
 refine⟨_,rfl,_,rfl,_,bJ,_,fg,wJ we h.aI.map ⟨H.le.refl u,spec.q9 ht ?_⟩⟩
 rw[PT]
 refine⟨λal=>di al,λhe=>?_⟩
 have bE:=bE he
 have kt:¬(id<1∨1000000000<id)/\gV q T.an=0/\¬(decide (id∈T.g.map (·.1))=ax/\512<=(T.g.length:o)):=by unfold fu at he;by_cases h1:id<1∨1000000000<id;rw[a1 h1] at he;cases he;rw[aF h1] at he;by_cases h2:gV q T.an≠0;rw[a1 h2] at he;exact aW he h2;rw[aF h2] at he;by_cases h3:decide (id∈T.g.map (·.1))=ax/\512<=(T.g.length:o);rw[a1 h3] at he;cases he;exact⟨h1,by simpa using h2,h3⟩
 obtain⟨d1,d2,d3,d4⟩:=oh kt.2.1
 have lay:∀(aU:H) (c5:N->ay bp) (bb:aQ),In ai aU c5 b bb->gA u af aU c5->dS bb->e5 bb.g=(e5 T.g).filter (λx=>x.1 !=id)->bb.an=T.an->bb.bY=T.bY->
   C.iH t aU λdt gN=>H.le aU gN/\C.vP (some ⟨b,0,none⟩) id dt gN λyt=>K (!decide (decide (id∈T.g.map (·.1))=ak)) 0 yt:=by
  intro aU c5 bb h1 ns sT vT nm gn
  have rh:Ints aU t q:=br.else ht λg z W aa=>ns.bN g z aa (fi g W)
  refine spec.iH rh (by have:=rh.len;omega) λdt gN fJ _=>⟨fJ.le,?_⟩
  have xf:=h1.mono fJ.le
  obtain⟨ib,h2,xP,j6⟩:=xf.adU (s:=dt) (λg W=>⟨h1.fresh (fJ.fresh g W),h1.le.none (fJ.fresh g W),uS fJ W⟩) id
  have Bb:id∉bb.g.map (·.1):=λhm=>by rw[<-ty,vT] at hm;obtain⟨x,J,e⟩:=bf.1 hm;have:=(iT.1 J).2;simp[e] at this
  have hlen:bb.g.length<=512:=by
   have aS:bb.g.length=((e5 T.g).filter λx=>x.1 !=id).length:=by rw[<-vT];simp[e5]
   by_cases b6:id∈T.g.map (·.1);have:((e5 T.g).filter λx=>x.1 !=id).length<(e5 T.g).length:=by rw[Lr];rw[<-ty] at b6;obtain⟨x,J,e⟩:=bf.1 b6;exact⟨x,J,by simp[e]⟩
   have bK:(e5 T.g).length=T.g.length:=by simp[e5]
   have:=aT.k.ok.small;omega;have a7:¬512<=(T.g.length:o):=λbK=>kt.2.2 ⟨p7 b6,bK⟩;have bK:(e5 T.g).length=T.g.length:=by simp[e5]
   have:=wB (λx:o×M o=>x.1 !=id) (e5 T.g);omega
  refine spec.vP h2 sT e2 Bb (by omega) fJ.ints xP ⟨by rw[nm];exact d3,d4⟩ hlen λyt oZ ET h3 nt Yv Bl Dj A4=>?_
  have ab:(!decide (decide (id∈T.g.map (·.1))=ak))=decide (id∉T.g.map (·.1)):=by by_cases b6:id∈T.g.map (·.1)<;>simp[b6]
  rw[ab]
  refine bE yt oZ ET ⟨h3,?_,Yv,?_,Dj.trans nm,A4.trans gn⟩
  have gone:∀c,aU c=none->af c≠none∨u c=none:=λc I=>by
    cases e:af c with
    |some x=>exact .inl (by simp)|none=>
     cases aB:u c with
     |none=>exact .inr rfl|some z=>rw[ns.bN c z aB e] at I;cases I
  refine⟨λc z I Z=>?_,λc I=>?_⟩
  have bK:=ns.bN c z I Z
  have e:dt.aj≠some c:=λe=>by have:=fJ.fresh c e;rw[bK] at this;cases this
  exact nt.bN c z (fJ.le c z bK) (by rw[j6 c e];exact ns.none I Z)
  rcases nt.grow c I with bK|bK
  by_cases e:dt.aj=some c
  exact gone c (fJ.fresh c e)
  rw[j6 c e] at bK;exact ns.grow c bK
  exact gone c (fJ.le.none bK)
  rw[Bl,vT]
  exact mR _ _
 refine spec.xG h aT (λdV aU hr=>?_) λn ae aU c5 bb iN=>?_
 refine lay aU af T (h.mono hr) (gA.mono hr) aT ?_ rfl rfl
 refine(p6.2 λx J=>?_).symm
 have:x.1≠id:=λe=>AQ.1 dV (by rw[<-ty];exact bf.2 ⟨x,J,e⟩)
 simpa using this
 exact lay aU c5 bb iN.is iN.eP iN.ok iN.rows iN.an iN.bY
def spec.Dx{af:N->ay bp}{T:aQ}{K:U->H->Prop}(h:In ai u af b T)(aT:dS T)
  (au:∀s ls u',rU u u' s ls->(ls.map az.bz).Perm (e5 T.g)->(ls.Pairwise λa b=>a.id<=b.id)->K s u'):C.Dx (some ⟨b,0,none⟩) u K:=by
 obtain⟨_,_,_,fg,_⟩:=kP h.aI
 have bS:=h.aI.nodup
 have fB:=aT.k.ok.small
 apply aG.Dx
 refine⟨λe=>(by cases e),λ_=>⟨_,rfl,_,fg,LB we h.aI.map λr z O xw=>?_⟩⟩
 have hle:=H.b1 (u:=u) (b:=r) z O
 refine⟨λob w=>u.le w/\∃(dl:M (o×ap)) (D:M az),aJ u w 52 2 ob (D.flatMap cR)/\na w r T.m (jt T.g) dl/\ob.aj≠some r/\
   (∀x∈D,(x.id,x.v)∈e5 T.g/\Ints u x.s x.v)/\D.map (·.id)=dl.map (·.1),λob _=>T.g.length-ob.n,
  ⟨hle,[],[],aJ.nil hle _ _,xw,by simp[U.aj],λx J=>(by cases J),rfl⟩,?_⟩
 rintro ob w ⟨hw,dl,D,aa,iM,YR,eN,kt⟩
 have agL:ob.n=D.length:=gW fI (by decide) aa.own.cE
 have Ss:D.length=dl.length:=by have:=ei iS kt;simpa using this
 refine KN iM (λh5=>?_) λp hQ ad Bc pO=>I9 pO ?_
 have vD:en w ob D:=⟨aa.own.cE,λx J=>(eN x J).2.mono hw⟩
 have Zm:(D.map (·.id)).Perm (T.g.map (·.1)):=by rw[kt,<-Uw];exact h5.map _
 have ku:∀x∈D,∃n,(x.id,n)∈T.g/\n.v=x.v:=λx J=>by obtain⟨y,ah,e⟩:=bf.1 (eN x J).1;simp only[HB] at e;exact⟨y.2,by rw[<-e.1];exact ah,e.2⟩
 refine spec.kV vD (λx J=>?_) (by have:=Zm.length_eq;simp at this;omega) (λx J=>?_) λgM ls hJ bX np qC=>au gM ls hJ ?_ ?_ qC
 obtain⟨n,ae,_⟩:=ku x J
 exact aT.k.ok.ids (x.id,n) ae
 obtain⟨n,ae,aA⟩:=ku x J
 have h1:=(aT.k.ok.vec (x.id,n) ae).1
 have h2:=aT.k.ok.hl
 simp only at h1
 rw[aA] at h1
 omega
 exact⟨bX.own.weaken hw,λx J=>(bX.inner x J).weaken hw,bX.eB,bX.apart⟩
 refine np.trans ?_
 have nW:((e5 T.g).map (·.1)).Nodup:=by rw[ty];exact bS
 have atT:((D.map az.bz).map (·.1)).Nodup:=by rw[<-oE];exact Zm.nodup_iff.2 bS
 have awT:(e5 T.g).Nodup:=(tu.1 nW).imp λh e=>h (by rw[e])
 have awU:(D.map az.bz).Nodup:=(tu.1 atT).imp λh e=>h (by rw[e])
 refine(U1 awU awT).2 λp=>⟨λad=>?_,λad=>?_⟩
 obtain⟨x,J,rfl⟩:=bf.1 ad
 exact(eN x J).1
 have:p.1∈D.map (·.id):=Zm.mem_iff.2 (by rw[<-ty];exact bf.2 ⟨p,ad,rfl⟩)
 obtain⟨x,J,e⟩:=bf.1 this
 have h1:=(eN x J).1
 have aB:(x.id,x.v)=p:=by
  obtain⟨i,hi,sN⟩:=sn.1 h1;obtain⟨j,aP,q7⟩:=sn.1 ad;have key:∀{i j:N} (hi:i<(e5 T.g).length) (aP:j<(e5 T.g).length),i<j->((e5 T.g)[i]).1≠((e5 T.g)[j]).1:=λhi aP gH=>by have:=qN.1 nW _ _ (by simpa using hi) (by simpa using aP) gH;simpa using this
  rcases UA i j with gH|gH|gH;exact aW (by rw[sN,q7];exact e) (key hi aP gH);subst gH;rw[sN] at q7;exact q7;exact aW (by rw[sN,q7];exact e.symm) (key aP hi gH)
 exact bf.2 ⟨x,J,aB⟩
 obtain⟨x,J,rfl⟩:=bf.1 ad
 have eF:=h.aI.nodes x J
 show ∃ax1:bc,some (cB x.2.p 0 none)=some ax1/\_
 have k3:w r≠none:=by obtain⟨_,_,_,_,_,h3,_⟩:=iM;rw[h3];simp
 have GJ:u r=none:=O
 have Km:u.le (w.ins r hQ):=λc y I=>by rw[H.bq _ _ (λe=>by rw[e,GJ] at I;cases I)];exact hw c y I
 have asb:(w.ins r hQ).cell? ⟨x.2.p,0,none⟩=some (.slice x.2.sv.a x.2.sv.n x.2.sv.c):=by refine H.qo Km ?_;rw[Hh eF];exact aw7 _
 have dI:aJ u (w.ins r hQ) 52 2 ob (D.flatMap cR):=⟨aa.own.le λc y I ah=>by rw[H.bq _ _ (λe=>YR (by rw[I,e]))];exact ah,Km,aa.fresh⟩
 have y7:=abi pO
 rw[PT] at y7
 simp only[ez,rO] at y7
 refine⟨_,rfl,_,asb,?_⟩
 refine oc kF (yM x.1 x.2.sv) (by decide) rfl (by simp[cT]) dI (by omega) (by omega) λlP mU Gm atM ahB ar4 _=>⟨⟨Gm.le,dl++ [(x.1,.pointer (some ⟨x.2.p,0,none⟩))],D++ [⟨x.1,x.2.sv,x.2.v⟩],?_,?_,?_,?_,?_⟩,by dsimp only;omega⟩
 rw[hz]
 have:([⟨x.1,x.2.sv,x.2.v⟩]:M az).flatMap cR=[.int .i64 x.1,.slice x.2.sv.a x.2.sv.n x.2.sv.c]:=by simp[cR]
 rw[this];exact Gm
 refine pO.else (λy ah=>ahB _ _ ah λe=>?_) λy ah=>ahB _ _ ah YR
 have:=dI.fresh _ e
 exact(h.known T.m (by rw[h.aI.dn];simp)) this
 intro e
 rcases ar4 r e with bK|bK
 exact YR bK
 rw[H.bh] at bK;cases bK
 intro y ah
 rcases cN.1 ah with ah|ah
 exact eN y ah
 simp at ah
 subst ah
 exact⟨bf.2 ⟨x,J,rfl⟩,eF.vec⟩
 simp[kt]
structure EK(u u':H)(l:M az)(an bY:o)(b:N)(af:N->ay bp)(T:aQ):Prop where
 is:In u u' af b T
 ok:dS T
 rows:(e5 T.g).Perm (l.map az.bz)
 an:T.an=an
 bY:T.bY=bY
def w5(l:M az)(an bY:o):o:=if oJ l an≠0 then oJ l an else if bY<1∨16<bY then 1 else 0
def spec.Bd{l:M az}{an bY eJ:o}{K:ay bc->o->H->Prop}(ag:en u s l)(e2:jB u)(OG:dh eJ)
  (di:w5 l an bY≠0->K none (w5 l an bY) u) (bE:w5 l an bY=0->∀b af T u',EK u u' l an bY b af T->K (some ⟨b,0,none⟩) 0 u'):C.Bd s an bY eJ u K:=by
 have bad:∀Y,w5 l an bY=Y->Y≠0->K none Y u:=λY e aC=>by subst e;exact di aC
 apply aG.Bd
 refine spec.qt ag ⟨λal=>bad _ (a1 al) al,λhe=>?_⟩
 intro pA qu
 refine⟨λh1=>bad 1 (by unfold w5;rw[aF (by simpa using he),a1 (.inl h1)]) (by decide),λh1=>⟨λh2=>bad 1 (by unfold w5;rw[aF (by simpa using he),a1 (.inr h2)]) (by decide),λh2=>qu _ _ _ ?_⟩⟩
 have bE:=bE (by unfold w5;rw[aF (by simpa using he),aF (by omega)])
 have bX:=B9.1 he
 have hlen:=bX.len
 apply aG.Ef
 intro wg Tk
 have G3:=H.b1 (u:=u) (b:=wg) (.cells #[.int .u64 eJ] 215 (0,0)) Tk
 refine H6 λm pX hm iw=>?_
 intro pk J4
 have ZJ:m≠wg:=λe=>by rw[e,H.bh] at hm;cases hm
 have OQ:pk≠m:=λe=>by rw[e,H.bh] at J4;cases J4
 have Tl:(u.ins wg (.cells #[.int .u64 eJ] 215 (0,0))) pk=none:=by rw[H.bq _ _ OQ] at J4;exact J4
 have aaG:pk≠wg:=λe=>by rw[e,H.bh] at Tl;cases Tl
 have at1:u pk=none:=by rw[H.bq _ _ aaG] at Tl;exact Tl
 have A7:u m=none:=by rw[H.bq _ _ ZJ] at hm;exact hm
 obtain⟨nK,j4⟩:∃nK:aQ,nK=⟨an,bY,wg,m,eJ,[],0⟩:=⟨_,rfl⟩
 let pG:N->ay bp:=λc=>if c=pk then some .tree else if c=wg then some .src else if c=m then some .map else none
 have f1:pG pk=some .tree:=a1 rfl
 have f2:pG wg=some .src:=(aF (dz aaG)).trans (a1 rfl)
 have f3:pG m=some .map:=(aF (dz OQ)).trans ((aF ZJ).trans (a1 rfl))
 have f4:∀c,pG c≠none->c=pk∨c=wg∨c=m:=λc I=>by simp only[pG] at I;by_cases aS:c=pk;exact .inl aS;rw[aF aS] at I;by_cases aB:c=wg;exact .inr (.inl aB);rw[aF aB] at I;by_cases cW:c=m;exact .inr (.inr cW);rw[aF cW] at I;exact aW rfl I
 have fS:(fj nK).toArray=#[.int .i64 an,.int .i64 bY,.pointer (some ⟨wg,0,none⟩),.map (some m),.int .i64 0]:=by rw[j4];rfl
 rw[<-fS]
 obtain⟨w,hw⟩:∃w,((u.ins wg (.cells #[.int .u64 eJ] 215 (0,0))).ins m pX).ins pk (.cells (fj nK).toArray 184 (0,0))=w:=⟨_,rfl⟩
 have Zy:u.le w:=by rw[<-hw];exact(G3.trans (H.b1 _ hm)).trans (H.b1 _ J4)
 have gj:w pk=some (.cells (fj nK).toArray 184 (0,0)):=by rw[<-hw,H.bh]
 have eA:w wg=some (.cells #[.int .u64 eJ] 215 (0,0)):=by rw[<-hw,H.bq _ _ (dz aaG),H.bq _ _ (dz ZJ),H.bh]
 have hL:fx w m []:=iw.else λz aa=>by rw[<-hw,H.bq _ _ (dz OQ)];exact aa
 have agO:In u w pG pk nK:=by refine⟨⟨gj,by rw[j4];exact eA,by rw[j4];exact OG,by rw[j4];exact hL,f1,by rw[j4];exact f2,by rw[j4];exact f3,λx J=>by rw[j4] at J;cases J⟩,Zy,λc I=>?_,λc I=>?_⟩;rcases f4 c I with rfl|rfl|rfl;exact at1;exact Tk;exact A7;rcases f4 c I with rfl|rfl|rfl;rw[gj];simp;rw[eA];simp;obtain⟨_,_,h3,_⟩:=hL;rw[h3];simp
 have arx:dS nK:=by rw[j4];exact⟨⟨⟨bX.an,λx J=>(by cases J),λx J=>(by cases J),λx J=>(by cases J),λx J=>(by cases J),by simp⟩,λi n lv l ae=>(by cases ae)⟩,⟨by show 1<=bY;omega,by show bY<=16;omega⟩,.inl ⟨rfl,rfl⟩⟩
 have Fk:nK.an=an:=by rw[j4]
 have el:nK.bY=bY:=by rw[j4]
 have pF:nK.g=[]:=by rw[j4]
 rw[hw]
 clear hw iw fS j4 gj eA hL
 refine spec.kV (ag.mono Zy) (λr O=>bX.id r O) (by omega) (λr O=>by have:=(bX.v r O).1;have:=bX.an;omega) λp9 ls gz Dd np qC=>?_
 have ZC:ls.length=l.length:=by have:=np.length_eq;simpa using this
 have Tc:(ls.map (·.id)).Nodup:=by have h1:=bX.nodup;rw[oE] at h1 ⊢;exact(np.map (·.1)).nodup_iff.2 h1
 have nU:∀r∈ls,(1<=r.id/\r.id<=1000000000)/\(r.v.length:o)=an/\dj r.v:=λr O=>by have:r.bz∈l.map az.bz:=np.mem_iff.1 (bf.2 ⟨r,O,rfl⟩);obtain⟨df,dG,e⟩:=bf.1 this;have h1:df.id=r.id:=ei sq e;have h2:df.v=r.v:=ei tv e;rw[<-h1,<-h2];exact⟨bX.id df dG,bX.v df dG⟩
 have aq7:=agO.mono Dd.own.le
 have dw:p9.n=ls.length:=Dd.rws.len
 refine⟨λi Y=>0<=i/\i<=ls.length/\∃af T,In u Y af pk T/\dS T/\T.an=an/\T.bY=bY/\e5 T.g=(ls.take i.toNat).map az.bz/\(∀c z,gz c=some z->p9.aj=some c∨(∃r∈ls.drop i.toNat,r.s.aj=some c)->Y c=some z/\af c=none),
  λi _=>ls.length-i.toNat,⟨by omega,by omega,pG,nK,aq7,arx,Fk,el,by rw[pF];simp[e5],λc z I hm=>⟨I,?_⟩⟩,?_⟩
 have y5:w c=none:=by rcases hm with hm|⟨r,O,hm⟩;exact Dd.own.fresh c hm;exact(Dd.inner r (ye O)).fresh c hm
 exact agO.fresh y5
 rintro i Y ⟨i0,i1,af,T,Su,r2,aw,ar,j8,ja⟩
 refine⟨λeO=>?_,λA2=>?_⟩
 have hi:i.toNat<ls.length:=by omega
 have aCe:en Y p9 (ls.take 0)∨True:=.inr trivial
 have uD:br Y p9 2 (ls.flatMap cR):=br.else Dd.own.own.cE λg z W aa=>(ja g z aa (.inl W)).1
 obtain⟨r,O⟩:∃r,ls[i.toNat]?=some r:=⟨_,cr hi⟩
 obtain⟨p,ad,I⟩:=br.elem fI (by decide) uD O
 have Di:ls.drop i.toNat=r::ls.drop (i.toNat+1):=by rw[wo hi];rw[cr hi] at O;rw[cU O]
 have hq:r∈ls:=dK O
 have vU:aJ w gz 3 1 r.s (r.v.flatMap encI):=Dd.inner r hq
 have nr:∀g,r.s.aj=some g->∀z,gz g=some z->Y g=some z/\af g=none:=λg W z aa=>ja g z aa (.inr ⟨r,by rw[Di];exact .head _,W⟩)
 obtain⟨ib,aq8,xP,j6⟩:=Su.adU (s:=r.s) (λg W=>by obtain⟨z,aa⟩:=e9.1 (uS vU W);obtain⟨bK,fs⟩:=nr g W z aa;exact⟨fs,Zy.none (vU.fresh g W),by rw[bK];simp⟩) r.id
 have Bb:r.id∉T.g.map (·.1):=λhm=>by rw[<-ty,j8,<-oE] at hm;obtain⟨df,dG,e⟩:=bf.1 hm;obtain⟨j,aP,rfl⟩:=sn.1 dG;simp only[gZ] at aP;rw[Qa] at e;have:=qN.1 Tc j i.toNat (by simp;omega) (by simp;omega) (by omega);simp only[HQ] at this;rw[cr hi] at O;rw[cU O] at this;exact this e
 have arP:T.g.length<=512:=by have:=ei iS j8;simp[e5] at this;omega
 have o2:=I 0 _ rfl
 have ho:=I 1 _ rfl
 rw[Addr.add_zero'] at o2
 refine⟨p,ad,⟨i0,eO⟩,_,o2,_,ho,spec.vP aq8 r2 e2 Bb (nU r hq).1 (br.else vU.ints λg z W aa=>(nr g W z aa).1) xP (by rw[aw];exact(nU r hq).2) arP λz2 oZ ET h3 nt ary Bl Dj A4=>⟨⟨by omega,by omega⟩,⟨by omega,by omega,oZ,ET,h3,ary,Dj.trans aw,A4.trans ar,?_,λc z asd hm=>?_⟩,by dsimp only;omega⟩⟩
 rw[Bl,j8,show(i+1).toNat=i.toNat+1 by omega,gS,O]
 simp[az.bz]
 have al:r.s.aj≠some c:=by rcases hm with hm|⟨df,dG,hm⟩;exact Dd.eB r hq c hm;rw[show(i+1).toNat=i.toNat+1 by omega] at dG;have aiP:=Dd.apart;rw[<-u2 i.toNat ls,Di] at aiP;have h2:=(k6.1 (Ld.1 aiP).2.1).1 df dG;exact λe=>h2 c e hm
 have oy:p9.aj=some c∨∃r∈ls.drop i.toNat,r.s.aj=some c:=by rcases hm with hm|⟨df,dG,hm⟩;exact .inl hm;rw[show(i+1).toNat=i.toNat+1 by omega] at dG;exact .inr ⟨df,by rw[Di];exact .tail _ dG,hm⟩
 obtain⟨bK,fs⟩:=ja c z asd oy
 have mF:ib c=none:=by rw[j6 c al];exact fs
 exact⟨nt.bN c z bK mF,nt.none bK mF⟩
 have hi:i.toNat=ls.length:=by have:¬i<(p9.n:o):=A2;omega
 rw[hi,mQ] at j8
 exact bE pk af T Y ⟨Su,r2,by rw[j8];exact np,aw,ar⟩
def nG(bud:N)(s:M o×M o)(id:o):M o×M o:=
 if id∈s.1 then s else if s.1.length=bud then(s.1,s.2++ [id]) else(s.1++ [id],s.2)
structure tT(bud:N)(EV P S R:M o):Prop where
 nodup:S.Nodup
 sub:R.Sublist P
 all:∀x,(x∈S∨x∈R)↔(x∈EV∨x∈P)
 Xi:∀x∈R,x∉S
 len:S.length<=bud
 full:R≠[]->S.length=bud
def tT.step{EV P R:M o}(h:tT bud EV P S R)(id:o):tT bud EV (P++ [id]) (nG bud (S,R) id).1 (nG bud (S,R) id).2:=by
 unfold nG;by_cases h1:id∈S;rw[a1 h1];refine⟨h.nodup,h.sub.trans (ac3 _ _),λx=>?_,h.Xi,h.len,h.full⟩;rw[h.all x,cN,fV];constructor;rintro(h2|h2);exact .inl h2;exact .inr (.inl h2);rintro(h2|h2|rfl);exact .inl h2;exact .inr h2;exact(h.all x).1 (.inl h1);rw[aF h1];by_cases h2:S.length=bud;simp only[h2,qI];refine⟨h.nodup,h.sub.append (ac4 _),λx=>?_,λx J=>?_,h.len,λ_=>h2⟩;rw[cN,cN,<-or_assoc,h.all x,or_assoc];rcases cN.1 J with J|J;exact h.Xi x J;simp at J;rw[J];exact h1;simp only[h2,BU];have bX:R=[]:=by by_cases e:R=[];exact e;exact aW (h.full e) h2
 refine⟨?_,h.sub.trans (ac3 _ _),λx=>?_,λx J=>(by rw[bX] at J;cases J),?_,λal=>aW bX al⟩;refine gh.2 ⟨h.nodup,by simp,λa aE c I=>?_⟩;simp at I;subst I;exact λe=>h1 (e▸aE);rw[cN,cN,or_right_comm,h.all x,or_assoc];have:=h.len;simp;omega
def tT.fold{EV:M o}:∀(l P S R:M o),tT bud EV P S R->tT bud EV (P++l) (l.foldl (nG bud) (S,R)).1 (l.foldl (nG bud) (S,R)).2:=by
 intro l;induction l with
 |nil=>intro P S R h;simpa using h
 |cons x l aM=>intro P S R h;have:=aM (P++ [x]) _ _ (h.step x);rw[n5,List.singleton_append] at this;exact this
def tT.start{bd:M o}(gl:bd.Nodup):tT bud (bd.take bud) [] (bd.take bud) []:=
 ⟨gl.sublist (rN _ _),ac4 _,λx=>(by simp),λx J=>(by cases J),(by rw[gZ];omega),λh=>aW rfl h⟩
def nP(g:M (o×dq))(q:M o)(entry:o):M o:=if entry=0 then[] else lE g q 0 (vd g q entry 0)
def pv(g:M (o×dq))(q:M o)(entry:o)(bud:N):M o×M o:=(dQ (g.map (·.1))).foldl (nG bud) ((nP g q entry).take bud,[])
def XB{T:aQ}(aT:dS T)(q:M o):(nP T.g q T.entry).Nodup/\∀x∈nP T.g q T.entry,x∈T.g.map (·.1):=by
 unfold nP;split;exact⟨Ls,λx J=>by cases J⟩;rename_i he;have uk:T.entry∈T.g.map (·.1):=by rcases aT.entry with⟨_,h2⟩|h2;exact aW h2 he;exact h2
 have Nh:=Met.one (cS T.g q) (ids:=T.g.map (·.1)) (ur T.g q) (adM aT.k.ok (q:=q) uk 0);exact⟨(afY (cS T.g q) (l0 T.g 0) (ur T.g q) (aT.k.ok.cb _) _ _ _ Nh).1,afX (cS T.g q) (l0 T.g 0) (ur T.g q) (aT.k.ok.cb _) _ _ _ Nh⟩
def al9{T:aQ}(aT:dS T)(bS:(T.g.map (·.1)).Nodup)(q:M o)(bud:N):
  ((pv T.g q T.entry bud).1++(pv T.g q T.entry bud).2).Perm (T.g.map (·.1))/\(pv T.g q T.entry bud).1.length<=bud/\((pv T.g q T.entry bud).2≠[]->(pv T.g q T.entry bud).1.length=bud)/\IJ (pv T.g q T.entry bud).2:=by
 obtain⟨h1,h2⟩:=XB aT q
 have h:=tT.fold (dQ (T.g.map (·.1))) [] _ _ (tT.start (bud:=bud) h1)
 rw[nz] at h
 have cX:∀x,x∈dQ (T.g.map (·.1))↔x∈T.g.map (·.1):=λx=>(nE _).mem_iff
 have arp:=Eu bS
 have SB:IJ (pv T.g q T.entry bud).2:=arp.sublist h.sub
 have arF:(pv T.g q T.entry bud).2.Nodup:=SB.imp λh=>by omega
 refine⟨(U1 (gh.2 ⟨h.nodup,arF,λa aE c I e=>h.Xi c I (e▸aE)⟩) bS).2 λx=>?_,h.len,h.full,SB⟩
 rw[cN]
 refine(h.all x).trans ?_
 rw[cX]
 exact⟨λh3=>h3.elim (λa7=>h2 x (oa a7)) λa7=>a7,.inr⟩
def sE(B:H)(cm cb:N)(k:o)(g:M (o×dq))(q:M o)(S:M o)(v:H):Prop:=
 ∃z,fx (B.ins cm z) cm (S.map λx=>(x,mP ak))/\iJ (B.ins cm z) cb k v (S.map (cS g q))
def sE.le(h:sE B cm cb k g q S v)(iL:B cm=none):B.le v:=by obtain⟨z,_,ht⟩:=h;exact(H.b1 _ iL).trans ht.le
def sE.map(h:sE B cm cb k g q S v):fx v cm (S.map λx=>(x,mP ak)):=by obtain⟨z,hm,ht⟩:=h;exact hm.mono ht.le
def aok:hn aH 297=ak:=by kernel_rfl
def XY(S:M o)(x:o):fR (S.map λx=>(x,mP ak)) x=if x∈S then some (.bool ak) else none:=by
 induction S with
 |nil=>rfl|cons y S aM=>
  unfold fR at*;rw[gm,HP];by_cases e:y=x;subst e;simp;rw[Qf e];rw[aM];have:(x∈y::S)↔x∈S:=by simp[dz e]
  simp only[this]
def ama{n0 n9 n13:N}{bud:o}{x:o}{K:aK->H->Prop}(iL:B cm=none)(b3:1<=k)(cu:k<=64)(gd:0<=bud)
  (h0:B n0=some (.cells #[.int .i64 bud] 3 (0,0))) (jE:B n9=some (.cells #[.pointer (some ⟨cb,0,none⟩)] 90 (0,0))) (MZ:B n13=some (.cells #[.map (some cm)] 166 (0,0))) (aP:sE B cm cb k g q S v)
  (xu:S.length=bud.toNat->K ax v) (hold:S.length≠bud.toNat->x∈S->K ak v) (oz:S.length≠bud.toNat->x∉S->∀b8,sE B cm cb k g q (S++ [x]) b8->K ak b8):
  tL aH (.func (.func 297) #[] #[.pointer (some ⟨n13,0,none⟩),.pointer (some ⟨n0,0,none⟩),.pointer (some ⟨n9,0,none⟩)]) #[NL (cS g q x)] [.one .bool] v K:=by
 have FB:=aP.le iL
 refine .inl ⟨_,_,_,rfl,hh aok,?_⟩
 refine aG.ZS (cS g q x).1 (dk (cS g q x).2) (dr (cS g q x).2) ⟨n13,0,none⟩ ⟨n0,0,none⟩ ⟨n9,0,none⟩ v K ?_
 refine⟨_,H.ba (FB _ _ MZ) 0,wJ Mj aP.map ?_⟩
 have hlen:(S.map λx=>(x,mP ak)).length=S.length:=by simp
 rw[hlen]
 refine⟨bud,H.ba (FB _ _ h0) 0,λhe=>xu (by omega),λhe=>⟨_,H.ba (FB _ _ MZ) 0,?_⟩⟩
 have al:S.length≠bud.toNat:=by omega
 refine Qw Mj aP.map (ct:=.bool) (decide (x∈S)) ?_ ⟨λab=>?_,λab=>hold al (by simpa using ab)⟩
 show(fR _ x).getD _=_
 rw[XY]
 by_cases e:x∈S<;>simp[e,aL.enc]
 have J:x∉S:=by simpa using ab
 refine⟨_,H.ba (FB _ _ MZ) 0,Ep Mj aP.map (x:=x) (by rw[XY,aF J]) λb5 oy=>?_⟩
 obtain⟨z,hm,ht⟩:=aP
 have O:=ht.Ve b5
 have Sq:B.le (v.ins cm b5):=(H.b1 _ iL).trans O.le
 refine⟨_,H.ba (Sq _ _ jE) 0,spec.qW (x:=cS g q x) O b3 cu λdM w hw=>oz al J w ⟨b5,?_,?_⟩⟩
 obtain⟨es,Mn,h1,h2⟩:=oy
 rw[H.bh] at h1
 refine⟨es,Mn,by rw[H.bh];exact h1,?_⟩
 rw[ek]
 exact h2
 rw[ek]
 exact hw.perm (mR _ _).symm
def _root_.Go.Proofs.YtejdhbfjjgcljaaGreatDoor.aJ.Jg{v0 iV b8:H}{e k:N}{xs:M ap}(h:aJ v0 v e k s xs)(Z:yC v0 v iV b8):aJ iV b8 e k s xs:=by have ab:∀g,s.aj=some g->∃z,v g=some z:=λg W=>e9.1 (uS h W);refine⟨h.own.le λb z eu hu=>(Z.out b z (h.fresh b eu) hu).2,Z.le,λg W=>?_⟩;obtain⟨z,aa⟩:=ab g W;exact(Z.out g z (h.fresh g W) aa).1
def EY(jY:U)(R:M o):cn:=⟨1,⟨none,0,0⟩,⟨none,0,0⟩,0,jY,[],[],R⟩
def Qo(jY:U)(R:M o):M cn:=if R=[] then[] else[EY jY R]
def afd(s:U):kG aH 39 1 #[(0,.agg #[.int .i64 1,.slice none 0 0,.slice none 0 0,.int .u64 0,.int .u64 0,.slice s.a s.n s.c])]=
  some (102,[.int .i64 1,.slice none 0 0,.slice none 0 0,.int .u64 0,.int .u64 0,.slice s.a s.n s.c]):=by kernel_rfl
def afn{Y:H}{a c d:U}(h:Y n=some (.cells #[.slice a.a a.n a.c,.slice c.a c.n c.c,.slice d.a d.n d.c] 41 (0,0))):
  Y.cell? ⟨n,0,none⟩=some (.slice a.a a.n a.c)/\Y.cell? ((cB n 0 none).add 1)=some (.slice c.a c.n c.c)/\Y.cell? ((cB n 0 none).add 2)=some (.slice d.a d.n d.c):=by
 refine⟨H.ba h 0,?_,?_⟩
 rw[jh,k5];exact H.ba h 1
 rw[jh,k5];exact H.ba h 2
def _root_.Go.Proofs.YtejdhbfjjgcljaaGreatDoor.aJ.skip{Y fm:H}{e k:N}{xs:M ap}(h:aJ ai Y e k s xs)(hk:∀c z,Y c=some z->c≠n->fm c=some z)(ag:s.aj≠some n)(h0:ai n=none):aJ ai fm e k s xs:=
 ⟨h.own.le λc z I aa=>hk c z aa λe=>ag (by rw[I,e]),λc z I=>hk c z (h.le c z I) λe=>(by rw[e,h0] at I;cases I),h.fresh⟩
def azj{x y Y a c d:ap}{T:dJ}{f:H->Prop}(ae:u n=some (.cells #[x,y,Y] T (0,0)))(h1:∀v∈[a,c,d],v.oneCell'=ak)(Z:f (u.ins n (.cells #[a,c,d] T (0,0)))):H.aO u ⟨n,0,none⟩ [a,c,d] f:=by
 refine⟨_,_,ae,rfl,by simp,h1,?_⟩;have:wr #[x,y,Y] 0 [a,c,d]=#[a,c,d]:=by simp[wr]
 simp only[this];exact Z
def VG{x0:N}{K:U->H->Prop}(h:fx u cm (S.map λx=>(x,mP ak)))(I:u.cell? ⟨x0,0,none⟩=some (.map (some cm)))(bl:S.length<=1000000)(au:∀s u',aJ u u' 3 1 s ((dQ S).flatMap encI)->K s u'):
  C.qa (.func (.func 303) #[] #[.pointer (some ⟨x0,0,none⟩)]) u K:=by
 have bS:((S.map λx=>(x,mP ak)).map (·.1)).Nodup:=by obtain⟨_,_,_,he⟩:=h;exact he.nodup
 refine spec.qa (by simpa using bl) bS (λai rv=>avW Mj (h.mono rv) (H.qo rv I)) λs u' aa=>au s u' ?_
 have e:(S.map λx=>(x,mP ak)).map (·.1)=S:=by rw[ep];exact B5 S
 rw[e] at aa
 exact aa
def spec.Dy{af:N->ay bp}{T:aQ}{t:U}{bud:o}{K:U->U->U->o->H->Prop}(h:In ai u af b T)(aT:dS T)(ht:Ints u t q)
  (di:gE q T.an k bud≠0->∀u',u.le u'->K ⟨none,0,0⟩ ⟨none,0,0⟩ ⟨none,0,0⟩ (gE q T.an k bud) u')
  (bE:gE q T.an k bud=0->∀aD ss sr jY u',jQ u u' aD ss sr (eT k.toNat ((pv T.g q T.entry bud.toNat).1.map (cS T.g q))) (dQ (pv T.g q T.entry bud.toNat).1) (Qo jY (pv T.g q T.entry bud.toNat).2)->K aD ss sr 0 u'):
  C.Dy (some ⟨b,0,none⟩) t k bud u K:=by
 have bS:=h.aI.nodup
 apply aG.Dy
 intro n0 eX
 refine⟨λe=>(by cases e),λ_=>?_⟩
 have n2:=H.b1 (u:=u) (b:=n0) (.cells #[.int .i64 bud] 3 (0,0)) eX
 obtain⟨aU,hr⟩:∃aU,u.ins n0 (.cells #[.int .i64 bud] 3 (0,0))=aU:=⟨_,rfl⟩
 have gd:aU n0=some (.cells #[.int .i64 bud] 3 (0,0)):=by rw[<-hr,H.bh]
 rw[hr] at n2 ⊢
 obtain⟨bJ,_,_,_,_⟩:=kP (h.aI.mono n2)
 refine⟨_,rfl,_,bJ,_,H.ba gd 0,spec.qq (ht.mono n2) ⟨λal=>di al _ n2,λhe=>?_⟩⟩
 have bE:=bE he
 obtain⟨aA,b3,cu,ae2,aAY⟩:gV q T.an=0/\1<=k/\k<=64/\0<=bud/\bud<=1000000:=by unfold gE at he;by_cases h1:gV q T.an≠0;rw[a1 h1] at he;exact aW he h1;rw[aF h1] at he;by_cases h2:k<1∨64<k∨bud<0∨1000000<bud;rw[a1 h2] at he;cases he;exact⟨by simpa using h1,by omega,by omega,by omega,by omega⟩
 obtain⟨_,_,da,fk⟩:=oh aA
 refine spec.sy (λab=>by omega) λ_ _ cb u8 pe vO pS=>?_
 intro n9 uy
 refine mT (zs:=[.pointer none]) rfl (by simp[cT]) ?_
 have ns:=pS.l3 uy (.cells [.pointer (some ⟨cb,0,none⟩)].toArray 90 (0,0))
 obtain⟨hJ,uG⟩:∃hJ,u8.ins n9 (.cells [.pointer (some ⟨cb,0,none⟩)].toArray 90 (0,0))=hJ:=⟨_,rfl⟩
 rw[uG] at ns ⊢
 refine H6 λcm D1 iL iw=>?_
 have pd:=ns.l3 iL D1
 intro n13 ze
 refine mT (zs:=[.map none]) rfl (by simp[cT]) ?_
 have nt:=pd.l3 ze (.cells [.map (some cm)].toArray 166 (0,0))
 have au1:aU n9=none:=pe.none uy
 have agA:hJ n9=some (.cells [.pointer (some ⟨cb,0,none⟩)].toArray 90 (0,0)):=by rw[<-uG,H.bh]
 have Jt:cm≠n9:=λe=>by rw[e,agA] at iL;cases iL
 have auZ:aU cm=none:=pe.none (by rw[<-uG,H.bq _ _ Jt] at iL;exact iL)
 have Yi:cm≠n13:=λe=>by rw[<-e,H.bh] at ze;cases ze
 have M0:hJ n13=none:=by rw[H.bq _ _ (dz Yi)] at ze;exact ze
 have X8:n9≠n13:=λe=>by rw[<-e,agA] at M0;cases M0
 have au0:aU n13=none:=pe.none (by rw[<-uG,H.bq _ _ (dz X8)] at M0;exact M0)
 obtain⟨B,eM⟩:∃B,(aU.ins n9 (.cells [.pointer (some ⟨cb,0,none⟩)].toArray 90 (0,0))).ins n13 (.cells [.map (some cm)].toArray 166 (0,0))=B:=⟨_,rfl⟩
 have Jo:B cm=none:=by rw[<-eM,H.bq _ _ Yi,H.bq _ _ Jt];exact auZ
 have aht:((aU.ins n9 (.cells [.pointer (some ⟨cb,0,none⟩)].toArray 90 (0,0))).ins cm D1).ins n13 (.cells [.map (some cm)].toArray 166 (0,0))=B.ins cm D1:=by rw[<-eM];funext c;unfold H.ins;by_cases aS:c=n13;subst aS;simp[dz Yi];simp[aS]
 rw[aht] at nt
 obtain⟨jP,ai7⟩:∃jP,(hJ.ins cm D1).ins n13 (.cells [.map (some cm)].toArray 166 (0,0))=jP:=⟨_,rfl⟩
 rw[ai7] at nt ⊢
 have agC:aU.le B:=by rw[<-eM];exact(H.b1 _ au1).trans (H.b1 _ (by rw[H.bq _ _ (dz X8)];exact au0))
 have Jn:B n0=some (.cells #[.int .i64 bud] 3 (0,0)):=agC _ _ gd
 have Ya:B n9=some (.cells #[.pointer (some ⟨cb,0,none⟩)] 90 (0,0)):=by rw[<-eM,H.bq _ _ X8,H.bh]
 have Sp:B n13=some (.cells #[.map (some cm)] 166 (0,0)):=by rw[<-eM,H.bh]
 have Zr:sE B cm cb k T.g q [] jP:=⟨D1,by obtain⟨es,Mn,h1,h2⟩:=iw;rw[H.bh] at h1;exact⟨es,Mn,by rw[H.bh];exact h1,h2⟩,nt⟩
 have aaO:u.le B:=n2.trans agC
 have Nb:=h.mono aaO
 have aai:sD B T.an t q:=⟨ht.mono aaO,fk,da⟩
 clear ns pd nt iw aht iL ze M0 uy pS pe uG ai7 eM
 intro L5 Yf
 have behind:∀v,sE B cm cb k T.g q ((nP T.g q T.entry).take bud.toNat) v->L5 v:=by
  intro v aP;refine Yf v ?_;have FB:=aP.le Jo;obtain⟨_,_,_,fg,_⟩:=kP (Nb.mono FB).aI;have fB:=aT.k.ok.small;refine⟨_,rfl,_,fg,al3 (Nb.mono FB).aI.map (by rw[PT];omega) λVm kf Og=>?_⟩;rw[Uw] at Og;obtain⟨L,cX⟩:∃L,dQ (T.g.map (·.1))=L:=⟨_,rfl⟩;rw[cX] at Og;have arl:∀x∈L,x∈T.g.map (·.1):=λx J=>by rw[<-cX] at J;exact(nE _).mem_iff.1 J
  have xh:L.length<=513:=by rw[<-cX,Ab];simp;omega
  have arm:=Og.ints.len;refine⟨λha i w=>0<=i/\i<=L.length/\∃v0,sE B cm cb k T.g q ((L.take i.toNat).foldl (nG bud.toNat) ((nP T.g q T.entry).take bud.toNat,[])).1 v0/\aJ v0 w 3 1 Vm (L.flatMap encI)/\
    aJ v0 w 3 1 ha ((((L.take i.toNat).foldl (nG bud.toNat) ((nP T.g q T.entry).take bud.toNat,[])).2).flatMap encI)/\dH Vm ha,λ_ i _=>L.length-i.toNat,
   ⟨by omega,by omega,v,by simpa using aP,Og,by simpa using aJ.nil Og.le 3 1,λg _ W=>by simp[U.aj] at W⟩,?_⟩
  rintro ha i w ⟨i0,i1,v0,za,Jj,vB,pM⟩;have Jp:=za.le Jo;have te:v0.le w:=Jj.le;have aq9:=Nb.mono (Jp.trans te);have arC:tT bud.toNat ((nP T.g q T.entry).take bud.toNat) (L.take i.toNat) ((L.take i.toNat).foldl (nG bud.toNat) ((nP T.g q T.entry).take bud.toNat,[])).1 ((L.take i.toNat).foldl (nG bud.toNat) ((nP T.g q T.entry).take bud.toNat,[])).2:=by have:=tT.fold (L.take i.toNat) [] _ _ (tT.start (bud:=bud.toNat) (XB aT q).1);rw[nz] at this;exact this
  have Sz:((L.take i.toNat).foldl (nG bud.toNat) ((nP T.g q T.entry).take bud.toNat,[])).2.length<=513:=by have:=arC.sub.length_le;simp at this;omega
  have aA7:=vB.ints.len;refine⟨λeO=>?_,λA2=>?_⟩;obtain⟨p,ad,I⟩:=Jj.ints.at i0 eO;have J:L[i.toNat]?=some (L.getD i.toNat 0):=getD_some (by omega);have vY:=arl _ (dK J);have Z:=adV (nG bud.toNat) L J ((nP T.g q T.entry).take bud.toNat,[]);rw[show i.toNat+1=(i+1).toNat by omega] at Z;obtain⟨S,bl⟩:∃S,((L.take i.toNat).foldl (nG bud.toNat) ((nP T.g q T.entry).take bud.toNat,[])).1=S:=⟨_,rfl⟩;obtain⟨R,bX⟩:∃R,((L.take i.toNat).foldl (nG bud.toNat) ((nP T.g q T.entry).take bud.toNat,[])).2=R:=⟨_,rfl⟩;have arK:(L.take i.toNat).foldl (nG bud.toNat) ((nP T.g q T.entry).take bud.toNat,[])=(S,R):=by rw[<-bl,<-bX]
  rw[arK] at za vB Z Sz;refine⟨p,ad,⟨i0,eO⟩,_,I,_,H.ba (te _ _ (Jp _ _ Sp)) 0,?_⟩;refine Qw Mj (za.map.mono te) (ct:=.bool) (decide (L.getD i.toNat 0∈S)) ?_ ⟨λab=>?_,λab=>?_⟩;show(fR _ _).getD _=_;rw[XY];by_cases e:L.getD i.toNat 0∈S<;>simp only[e,qI,BU,decide_true,decide_false]<;>rfl;have O2:L.getD i.toNat 0∉S:=by simpa using ab
  refine spec.pQ aq9.aI aT.k.ok vY (aai.mono (Jp.trans te)) ?_;refine(ama (n0:=n0) (n9:=n9) (n13:=n13) (x:=L.getD i.toNat 0) (K:=λdM b8=>(dM=ax->S.length=bud.toNat/\sE B cm cb k T.g q S b8)/\(dM=ak->S.length≠bud.toNat/\sE B cm cb k T.g q (S++ [L.getD i.toNat 0]) b8))
   Jo b3 cu ae2 Jn Ya Sp za (λxu=>⟨λ_=>⟨xu,za⟩,λe=>(by cases e)⟩) (λ_ b6=>aW b6 O2) λal _ b8 hs=>⟨λe=>(by cases e),λ_=>⟨al,hs⟩⟩).frame te ?_
  rintro dM iV w' eQ ⟨AW,YS⟩;have X1:=Jj.Jg eQ;have Sg:=vB.Jg eQ;refine⟨λkJ=>?_,λkJ=>?_⟩;obtain⟨xu,lX⟩:=AW (Bool.eq_false_iff.2 kJ);have ie:(L.take (i+1).toNat).foldl (nG bud.toNat) ((nP T.g q T.entry).take bud.toNat,[])=(S,R++ [L.getD i.toNat 0]):=by rw[Z];unfold nG;simp only;rw[aF O2,a1 xu]
  have aA8:=Sg.ints.len;refine oc oN (AB _) (by decide) rfl (by simp[cT]) Sg (by omega) (by omega) λVn QU at6 _ ass ar5 _=>⟨⟨by omega,by omega⟩,⟨by omega,by omega,iV,by rw[ie];exact lX,?_,?_,λg W ca=>?_⟩,by dsimp only;omega⟩;exact aJ.else X1 ass (λg W=>Sg.fresh g W) λg W e=>pM g e W;rw[ie];simp only[hz];exact at6;rcases ar5 g ca with bK|bK;exact pM g W bK;exact uS X1 W bK;obtain⟨al,lX⟩:=YS kJ;have ie:(L.take (i+1).toNat).foldl (nG bud.toNat) ((nP T.g q T.entry).take bud.toNat,[])=(S++ [L.getD i.toNat 0],R):=by rw[Z];unfold nG;simp only;rw[aF O2,aF al]
  exact⟨⟨by omega,by omega⟩,⟨by omega,by omega,iV,by rw[ie];exact lX,X1,by rw[ie];exact Sg,pM⟩,by dsimp only;omega⟩;have O2:L.getD i.toNat 0∈S:=by simpa using ab
  have ie:(L.take (i+1).toNat).foldl (nG bud.toNat) ((nP T.g q T.entry).take bud.toNat,[])=(S,R):=by rw[Z];unfold nG;simp only;rw[a1 O2]
  exact⟨⟨by omega,by omega⟩,⟨by omega,by omega,v0,by rw[ie];exact za,Jj,by rw[ie];exact vB,pM⟩,by dsimp only;omega⟩
  ·
   have Zn:i.toNat=L.length:=by have:¬i<(Vm.n:o):=A2;omega
   rw[Zn,mQ] at za vB Sz;have arJ:L.foldl (nG bud.toNat) ((nP T.g q T.entry).take bud.toNat,[])=pv T.g q T.entry bud.toNat:=by rw[<-cX];rfl
   rw[arJ] at za vB Sz;obtain⟨S,bl⟩:∃S,(pv T.g q T.entry bud.toNat).1=S:=⟨_,rfl⟩;obtain⟨R,bX⟩:∃R,(pv T.g q T.entry bud.toNat).2=R:=⟨_,rfl⟩;rw[bl] at za;rw[bX] at vB Sz;rw[bl,bX] at bE;have uf:S.length<=1000000:=by rw[<-bl];have:=(al9 aT bS q bud.toNat).2.1;omega
   have DH:u.le v0:=aaO.trans Jp;intro anz arf;have Sh:=vB.ints.len;have last:∀(pW:N) (aD ss:U) (y:H) (dC x2 kh:ap),w.le y->aJ w y 68 3 aD ((eT k.toNat (S.map (cS T.g q))).flatMap fH)->aJ w y 3 1 ss ((dQ S).flatMap encI)->dH aD ss->w pW=none->aD.aj≠some pW->ss.aj≠some pW->
     y pW=some (.cells #[dC,x2,kh] 41 (0,0))->H.aO y ⟨pW,0,none⟩ [.slice aD.a aD.n aD.c,.slice ss.a ss.n ss.c,.slice none 0 0] λY=>anz ⟨pW,0,none⟩ Y:=by
    intro pW aD ss y dC x2 kh avl bU ag Z aiy aiY ai2 ah
    refine azj ah (by simp[cT]) ?_
    have TK:∀c z,y c=some z->c≠pW->(y.ins pW (.cells #[.slice aD.a aD.n aD.c,.slice ss.a ss.n ss.c,.slice none 0 0] 41 (0,0))) c=some z:=λc z h1 h2=>by rw[H.bq _ _ h2];exact h1
    obtain⟨Y,aC⟩:∃Y,y.ins pW (.cells #[.slice aD.a aD.n aD.c,.slice ss.a ss.n ss.c,.slice none 0 0] 41 (0,0))=Y:=⟨_,rfl⟩
    have aa8:Y pW=some (.cells #[.slice aD.a aD.n aD.c,.slice ss.a ss.n ss.c,.slice none 0 0] 41 (0,0)):=by rw[<-aC,H.bh]
    rw[aC] at TK ⊢
    have DG:u pW=none:=(DH.trans te).none aiy
    have agu:ha.aj≠some pW:=λe=>uS vB e aiy
    have F4:=((bU.weaken (DH.trans te)).skip TK aiY DG)
    have cI:=((ag.weaken (DH.trans te)).skip TK ai2 DG)
    have agv:=(((vB.mono avl).weaken DH).skip TK agu DG)
    have o4:dH aD ha:=λg W ca=>uS vB ca (bU.fresh g W)
    have ie:dH ss ha:=λg W ca=>uS vB ca (ag.fresh g W)
    have Ba:∀(x:U),dH x ⟨none,0,0⟩:=λx g _ W=>by simp[U.aj] at W
    have agN:∀(x:U),dH ⟨none,0,0⟩ x:=λx g W=>by simp[U.aj] at W
    refine arf _ _ ⟨λpa=>?_,λrm=>?_⟩
    refine mo (afd ha) λj3 mb=>?_
    have F0:=H.b1 (u:=Y) (b:=j3) (.cells [cY .i64 1,.slice none 0 0,.slice none 0 0,.int .u64 0,.int .u64 0,.slice ha.a ha.n ha.c].toArray 102 (0,0)) mb
    have asQ:j3≠pW:=λe=>by rw[e,aa8] at mb;cases mb
    have ahS:(Y.ins j3 (.cells [cY .i64 1,.slice none 0 0,.slice none 0 0,.int .u64 0,.int .u64 0,.slice ha.a ha.n ha.c].toArray 102 (0,0))) j3=some (.cells [cY .i64 1,.slice none 0 0,.slice none 0 0,.int .u64 0,.int .u64 0,.slice ha.a ha.n ha.c].toArray 102 (0,0)):=H.bh _ _ _
    obtain⟨z2,aa7⟩:∃z2,Y.ins j3 (.cells [cY .i64 1,.slice none 0 0,.slice none 0 0,.int .u64 0,.int .u64 0,.slice ha.a ha.n ha.c].toArray 102 (0,0))=z2:=⟨_,rfl⟩
    rw[aa7] at F0 ahS ⊢
    rw[jh,k5]
    refine⟨_,_,F0 _ _ aa8,rfl,by simp,by simp[cT],?_⟩
    have avx:wr #[.slice aD.a aD.n aD.c,.slice ss.a ss.n ss.c,.slice none 0 0] 2 [.slice (some ⟨j3,0,none⟩) 1 1]=#[.slice aD.a aD.n aD.c,.slice ss.a ss.n ss.c,.slice (⟨some ⟨j3,0,none⟩,1,1⟩:U).a (⟨some ⟨j3,0,none⟩,1,1⟩:U).n (⟨some ⟨j3,0,none⟩,1,1⟩:U).c]:=by simp[wr]
    simp only[avx]
    have Kp:∀c z,z2 c=some z->c≠pW->(z2.ins pW (.cells #[.slice aD.a aD.n aD.c,.slice ss.a ss.n ss.c,.slice (⟨some ⟨j3,0,none⟩,1,1⟩:U).a (⟨some ⟨j3,0,none⟩,1,1⟩:U).n (⟨some ⟨j3,0,none⟩,1,1⟩:U).c] 41 (0,0))) c=some z:=λc z h1 h2=>by rw[H.bq _ _ h2];exact h1
    obtain⟨a0,ac,a2⟩:=afn (H.bh z2 pW (.cells #[.slice aD.a aD.n aD.c,.slice ss.a ss.n ss.c,.slice (⟨some ⟨j3,0,none⟩,1,1⟩:U).a (⟨some ⟨j3,0,none⟩,1,1⟩:U).n (⟨some ⟨j3,0,none⟩,1,1⟩:U).c] 41 (0,0)))
    have Ys:R≠[]:=λe=>by rw[e] at Sh;simp at Sh;omega
    have GJ:u j3=none:=by have:u.le Y:=F4.le;exact this.none mb
    have JK:∀{e k:N} {x:U} {xs:M ap},aJ u Y e k x xs->dH x ⟨some ⟨j3,0,none⟩,1,1⟩:=λJ g W ca=>by
     have:j3=g:=by simpa[U.aj] using ca
     exact uS J W (by rw[<-this];exact mb)
    have pc:Qo ha R=[EY ha R]:=aF Ys
    refine⟨aD,a0,ss,ac,⟨some ⟨j3,0,none⟩,1,1⟩,a2,bE aD ss _ ha _ ⟨(F4.mono F0).skip Kp aiY DG,(cI.mono F0).skip Kp ai2 DG,?_,λr O=>?_,?_⟩⟩
    rw[pc]
    have aS:([EY ha R]:M cn).flatMap tZ=[cY .i64 1,.slice none 0 0,.slice none 0 0,.int .u64 0,.int .u64 0,.slice ha.a ha.n ha.c]:=by simp[tZ,EY,Zk,abV]
    rw[aS]
    refine⟨⟨rfl,.inr ⟨j3,_,rfl,Kp _ _ ahS asQ,cA _,by show(1:N)<=9223372036854775807;decide,by simp,by simp⟩⟩,λc z I=>Kp c z (F0 c z (F4.le c z I)) λe=>(by rw[e,DG] at I;cases I),λg W=>?_⟩
    have:j3=g:=by simpa[U.aj] using W
    rw[<-this];exact GJ
    rw[pc] at O
    simp at O
    subst O
    have ajA:u.le (z2.ins pW (.cells #[.slice aD.a aD.n aD.c,.slice ss.a ss.n ss.c,.slice (⟨some ⟨j3,0,none⟩,1,1⟩:U).a (⟨some ⟨j3,0,none⟩,1,1⟩:U).n (⟨some ⟨j3,0,none⟩,1,1⟩:U).c] 41 (0,0))):=λc z I=>Kp c z (F0 c z (F4.le c z I)) λe=>(by rw[e,DG] at I;cases I)
    exact⟨aJ.nil ajA _ _,aJ.nil ajA _ _,(agv.mono F0).skip Kp agu DG⟩
    rw[pc]
    show([aD,ss,⟨some ⟨j3,0,none⟩,1,1⟩,⟨none,0,0⟩,⟨none,0,0⟩,ha]:M U).Pairwise dH
    simp only[k6,cJ,qL,qM,Le,Qb,p4,rP,U8,U9]
    exact⟨⟨Z,JK F4,Ba _,Ba _,o4⟩,⟨JK cI,Ba _,Ba _,ie⟩,⟨Ba _,Ba _,(JK agv).symm⟩,⟨Ba _,agN _⟩,agN _⟩
    have Yr:R=[]:=by
      have:ha.n=0:=by omega
      rw[this] at Sh;exact kN Sh.symm
    obtain⟨a0,ac,a2⟩:=afn (d:=⟨none,0,0⟩) aa8
    have pc:Qo ha R=[]:=a1 Yr
    refine⟨aD,a0,ss,ac,⟨none,0,0⟩,a2,bE aD ss _ ha _ ⟨F4,cI,by rw[pc];exact aJ.nil F4.le _ _,λr O=>(by rw[pc] at O;cases O),?_⟩⟩
    rw[pc]
    show([aD,ss,⟨none,0,0⟩]:M U).Pairwise dH
    simp only[k6,cJ,qL,qM,Le,Qb,p4,rP,U8,U9]
    exact⟨⟨Z,Ba _⟩,Ba _⟩
   obtain⟨lr,atE,ai6⟩:=za;have GD:=ai6.mono te;have vN:fx w cm (S.map λx=>(x,mP ak)):=(atE.mono ai6.le).mono te;have aoW:=H.ba (te _ _ (Jp _ _ Ya)) 0;have aoQ:=H.ba (te _ _ (Jp _ _ Sp)) 0;have R4:∀{x y:U} {jk z2 z3:H} {aS b3 aB cu:N} {xs e0:M ap},aJ w jk aS b3 x xs->jk.le z2->aJ z2 z3 aB cu y e0->dH x y:=λJ hle ah g W ca=>by obtain⟨z,aa⟩:=e9.1 (uS J W);have:=ah.fresh g ca;rw[hle _ _ aa] at this;cases this
   have Un:∀{x:U} {jk z2:H} {e k n:N} {xs:M ap},aJ w jk e k x xs->jk.le z2->z2 n=none->x.aj≠some n:=λJ hle ae W=>by obtain⟨z,aa⟩:=e9.1 (uS J W);rw[hle _ _ aa] at ae;cases ae
   refine⟨_,aoW,_,aoQ,⟨spec.qV GD λz7 LL s9=>⟨s9.le,?_,?_⟩,λn75 aix=>?_⟩⟩;refine aG.DX (some cm) LL _ λx0 Oc=>?_;have pg:=H.b1 (u:=LL) (b:=x0) (.cells #[.map (some cm)] 166 (0,0)) Oc;have ahr:(LL.ins x0 (.cells #[.map (some cm)] 166 (0,0))).cell? ⟨x0,0,none⟩=some (.map (some cm)):=H.ba (H.bh _ _ _) 0;have xS:=s9.le.trans pg;refine⟨VG (vN.mono xS) ahr uf λCb Iw Dz n63 N7=>⟨(xS.trans Dz.le).trans (H.b1 _ N7),?_⟩,λn65 Th=>⟨xS.trans (H.b1 _ Th),?_⟩⟩;have abN:=H.b1 (u:=Iw) (b:=n63) (.cells #[.slice none 0 0,.slice none 0 0,.slice none 0 0] 41 (0,0)) N7;exact last n63 z7 Cb _ _ _ _ ((xS.trans Dz.le).trans abN) (s9.mono ((pg.trans Dz.le).trans abN)) ((Dz.weaken xS).mono abN) (R4 s9 pg Dz) ((xS.trans Dz.le).none N7) (Un s9 (pg.trans Dz.le) N7) (Un (Dz.weaken xS) (H.le.refl _) N7) (H.bh _ _ _);have KF:=H.b1 (u:=LL.ins x0 (.cells #[.map (some cm)] 166 (0,0))) (b:=n65) (.cells #[.slice none 0 0,.slice none 0 0,.slice none 0 0] 41 (0,0)) Th;exact VG (vN.mono (xS.trans KF)) (H.qo KF ahr) uf λadr V6 J8=>last n65 z7 adr _ _ _ _ ((xS.trans KF).trans J8.le) (s9.mono ((pg.trans KF).trans J8.le)) (J8.weaken (xS.trans KF)) (R4 s9 (pg.trans KF) J8) (xS.none Th) (Un s9 pg Th)
    (λe=>by have:=J8.fresh n65 e;rw[H.bh] at this;cases this) (J8.le _ _ (H.bh _ _ _))
   intro n69 ZN;have Ua:=H.b1 (u:=LL) (b:=n69) (.cells #[.slice none 0 0,.slice none 0 0,.slice none 0 0] 41 (0,0)) ZN;refine⟨s9.le.trans Ua,aG.DX (some cm) _ _ λx0 Oc=>?_⟩;have pg:=H.b1 (b:=x0) (.cells #[.map (some cm)] 166 (0,0)) Oc;have aaV:=(s9.le.trans Ua).trans pg;exact VG (vN.mono aaV) (H.ba (H.bh _ _ _) 0) uf λym aCM xJ=>last n69 z7 ym _ _ _ _ (aaV.trans xJ.le) (s9.mono ((Ua.trans pg).trans xJ.le)) (xJ.weaken aaV) (R4 s9 (Ua.trans pg) xJ) (s9.le.none ZN) (Un s9 (H.le.refl _) ZN)
    (λe=>by have:=pg _ _ (H.bh LL n69 (.cells #[.slice none 0 0,.slice none 0 0,.slice none 0 0] 41 (0,0)));rw[xJ.fresh n69 e] at this;cases this) (xJ.le _ _ (pg _ _ (H.bh _ _ _)))
   have KG:=H.b1 (u:=w) (b:=n75) (.cells #[.slice none 0 0,.slice none 0 0,.slice none 0 0] 41 (0,0)) aix;refine⟨KG,spec.qV (GD.mono KG) λayu aCN Gp=>⟨KG.trans Gp.le,aG.DX (some cm) _ _ λx0 Oc=>?_⟩⟩;have pg:=H.b1 (b:=x0) (.cells #[.map (some cm)] 166 (0,0)) Oc;have aaW:=(KG.trans Gp.le).trans pg;exact VG (vN.mono aaW) (H.ba (H.bh _ _ _) 0) uf λayv aCO xK=>last n75 ayu ayv _ _ _ _ (aaW.trans xK.le) ((Gp.weaken KG).mono (pg.trans xK.le)) (xK.weaken aaW) (R4 (Gp.weaken KG) pg xK) aix
    (λe=>by have:=Gp.fresh n75 e;rw[H.bh] at this;cases this)
    (λe=>by have:=(Gp.le.trans pg) _ _ (H.bh w n75 (.cells #[.slice none 0 0,.slice none 0 0,.slice none 0 0] 41 (0,0)));rw[xK.fresh n75 e] at this;cases this)
    (xK.le _ _ (pg _ _ (Gp.le _ _ (H.bh _ _ _))))
 have X9:=Zr.le Jo
 have agP:=Nb.mono X9
 obtain⟨_,_,_,_,fN⟩:=kP agP.aI
 refine⟨_,rfl,_,fN,λal=>?_,λsZ=>behind jP ?_⟩
 have uk:T.entry∈T.g.map (·.1):=by rcases aT.entry with⟨_,h2⟩|h2;exact aW h2 al;exact h2
 have gl:nP T.g q T.entry=lE T.g q 0 (vd T.g q T.entry 0):=aF al
 have FJ:=(XB aT q).1
 refine spec.Bg agP.aI aT.k.ok uk (aai.mono X9) (by omega) ?_
 rw[gl] at FJ behind
 refine spec.zf X9 Nb.aI aT.k.ok (adM aT.k.ok uk 0) aai (by omega) (by omega)
  (λi Y=>i<=bud.toNat/\sE B cm cb k T.g q ((lE T.g q 0 (vd T.g q T.entry 0)).take i) Y) (λY=>sE B cm cb k T.g q ((lE T.g q 0 (vd T.g q T.entry 0)).take bud.toNat) Y) (λi Y aC=>aC.2.le Jo)
  (λi x Y fZ J aP abH avY=>?_) ⟨by omega,by simpa using Zr⟩ (λY aC=>?_) λY aC=>behind Y aC
 have fT:(lE T.g q 0 (vd T.g q T.entry 0))[i]?=some x:=J
 have eO:=(jM.1 fT).1
 have hlen:((lE T.g q 0 (vd T.g q T.entry 0)).take i).length=i:=by rw[gZ];omega
 refine ama Jo b3 cu ae2 Jn Ya Sp aP.2 (λZ=>avY Y ?_) (λ_ b6=>?_) λlj _ fm By=>abH fm ⟨by have:=aP.1;omega,?_⟩
 rw[hlen] at Z
 rw[<-Z];exact aP.2
 exfalso
 obtain⟨j,ri,e⟩:=sn.1 b6
 rw[hlen] at ri
 have:=qN.1 FJ j i (by omega) eO ri
 rw[Qa] at e
 rw[cr eO] at fT
 rw[e,cU fT] at this
 exact this rfl
 rw[gS,fT]
 exact By
 refine behind Y ?_
 obtain⟨h1,h2⟩:=aC
 have rb:(lE T.g q 0 (vd T.g q T.entry 0)).length<=bud.toNat:=h1
 have vA:sE B cm cb k T.g q ((lE T.g q 0 (vd T.g q T.entry 0)).take (lE T.g q 0 (vd T.g q T.entry 0)).length) Y:=h2
 rw[hR (cA _)] at vA
 rw[hR rb]
 exact vA
 have gl:nP T.g q T.entry=[]:=a1 sZ
 rw[gl]
 simpa using Zr
end
end eE
section
variable{l:M (o×ap)}{x:o}
def KJ(l:M (o×ap))(x:o)(v:ap):M (o×ap):=if x∈l.map (·.1) then l.map (λp=>if p.1=x then(x,v) else p) else l++ [(x,v)]
def ayS(ae:(l.map (·.1)).Nodup){j:N}{v y:ap}(h:l[j]?=some (x,v)):l.set j (x,y)=l.map λp=>if p.1=x then(x,y) else p:=by
 induction l generalizing j with
 |nil=>simp at h|cons p l aM=>
  have h3:=hI.1 ae;cases j with
  |zero=>
   simp only[BW,kb] at h;subst h;rw[P2,gm,a1 rfl];congr 1;have:l.map (λp=>if p.1=x then(x,y) else p)=l.map id:=zU λq aN=>by have:q.1≠x:=λe=>h3.1 (bf.2 ⟨q,aN,e⟩);rw[aF this];rfl
   rw[this,List.map_id]
  |succ j=>simp only[x9] at h;have ad:p.1≠x:=λe=>h3.1 (bf.2 ⟨_,dK h,e.symm⟩);rw[K6,aM h3.2 h,gm,aF ad]
def alL{P:dY}{t k e:dJ}{Y:ap}(T:om P t k e Y){u:H}{b:N}(h:fx u b l){v:ap}{K:H->Prop}
  (au:∀z,fx (u.ins b z) b (KJ l x v)->K (u.ins b z)):
  dd P (unit (lx t (.map (some b)) (.int .i64 x) v)) [] u K:=by
 cases J:fR l x with
 |none=>exact Ep T h J λz aa=>au z (by unfold KJ;rw[aF (yX.1 J)];exact aa)
 |some v0=>
  have b6:x∈l.map (·.1):=bf.2 ⟨_,MS J,rfl⟩;obtain⟨es,c,ab,ar⟩:=h;intro w hw;have W:=zR (P:=P) (hw _ _ ab);have I:=T.check ax x w;obtain⟨j,aP,Tb⟩:=(T.find ar.je x w).2 v0 J;have ky:=Lc (P:=P) (.map (es.modify j λe=>{e with key:=.int .i64 x,val:=v}) c) (hw _ _ ab);have sc:Instr.sameBits 10000 (cY .i64 x) (cY .i64 x)=ak:=by simp[Instr.sameBits]
  have ahJ:(es.toList.map MapEntry.je)[j]?=some (nw (x,v0)):=by rw[ar.je,iR,Tb];rfl
  rw[iR] at ahJ;obtain⟨e7,sZ,asE⟩:=UB.1 ahJ;have atm:e7.key=.int .i64 x:=ei sq asE;have asp:es[j]?=some e7:=by rw[<-sZ,BZ]
  have kK:j<es.toList.length:=(jM.1 sZ).1;have het:(es.modify j λe=>{e with key:=cY .i64 x,val:=v}).toList=es.toList.set j {e7 with key:=.int .i64 x,val:=v}:=by apply sk;intro i;rw[Array.toList_modify,List.getElem?_modify,BX];by_cases e:j=i;subst e;rw[a1 rfl,a1 kK,sZ];simp;rw[aF e];simp[e]
  refine⟨_,_,u.ins b (.map (es.modify j λe=>{e with key:=.int .i64 x,val:=v}) c),?_,⟨[],.nil,rfl,au _ ⟨_,_,H.bh _ _ _,?_,?_,?_,?_⟩⟩,step_block hw ab _⟩;simp[unit,lx,eW,iz T.fw,W,I,aP,jL,asp,atm,Instr.keyThatStays,sc,ky];rfl;unfold KJ;rw[a1 b6,<-ayS ar.nodup Tb,het,HO,HO,ar.je];rfl;rw[het,HO];have:(es.toList.map (·.born)).set j e7.born=es.toList.map (·.born):=by apply sk;intro i;rw[BX];by_cases e:j=i;subst e;rw[a1 rfl,a1 (by simpa using kK),iR,sZ];rfl;rw[aF e]
  rw[this];exact ar.born;intro gv gf;rw[het] at gf;rcases akM gf with h1|h1;exact ar.lt gv h1;rw[h1];exact ar.lt e7 (dK sZ);unfold KJ;rw[a1 b6,ep];have:l.map ((·.1)∘λp=>if p.1=x then(x,v) else p)=l.map (·.1):=zU λq _=>by show(if q.1=x then(x,v) else q).1=q.1;by_cases e:q.1=x;rw[a1 e,e];rw[aF e]
  rw[this];exact ar.nodup
def ayH{P:dY}{t k e bt abv:dJ}{Y:ap}(T:om P t k e Y){u:H}{b:N}(h:fx u b l)(J:fR l x=none){K:H->Prop}(au:K u):
  dd P (tq #[t,abv] bt #[.map (some b),.int .i64 x]) [] u K:=by
 obtain⟨es,c,ab,ar⟩:=h
 intro w hw
 have W:=zR (P:=P) (hw _ _ ab)
 have I:=T.check es.isEmpty x w
 have ky:=Lc (P:=P) (.map es c) (hw _ _ ab)
 have e:u.ins b (.map es c)=u:=H.abg ab
 refine⟨_,_,u.ins b (.map es c),?_,⟨[],.nil,rfl,by rw[e];exact au⟩,step_block hw ab _⟩
 simp[tq,eW,iz T.fw,W,I,(T.find ar.je x w).1 J,jL,ky]
 rfl
end
namespace hd
section
variable{u u' ai:H}
open lS (ea sR pj zz iO C1)
abbrev ng:=M (o×(U×M o))
def tD(w:ng)(id:o)(x:U×M o):ng:=if id∈w.map (·.1) then w.map (λp=>if p.1=id then(id,x) else p) else w++ [(id,x)]
def R0(w:ng):(ea w).map (·.1)=w.map (·.1):=by unfold ea;rw[ep];rfl
def afS(w:ng)(id:o)(s:U)(v:M o):KJ (ea w) id (.slice s.a s.n s.c)=ea (tD w id (s,v)):=by unfold KJ tD;rw[R0];split;unfold ea;rw[ep,ep];refine zU λp _=>?_;simp only[U6];by_cases e:p.1=id;rw[a1 e,a1 e];rw[aF e,aF e];unfold ea;rw[ek];rfl
def Vy{w:ng}{id:o}{x:U×M o}{e:o×(U×M o)}(h:e∈tD w id x):e=(id,x)∨(e∈w/\e.1≠id):=by unfold tD at h;split at h;obtain⟨p,ad,rfl⟩:=bf.1 h;by_cases e:p.1=id;rw[a1 e];exact .inl rfl;rw[aF e];exact .inr ⟨ad,e⟩;rename_i ae;rcases cN.1 h with h|h;exact .inr ⟨h,λe=>ae (bf.2 ⟨_,h,e⟩)⟩;exact .inl (fV.1 h)
def alP(w:ng)(id:o)(x:U×M o):(id∈w.map (·.1)->(tD w id x).length=w.length)/\(id∉w.map (·.1)->(tD w id x).length=w.length+1):=by unfold tD;exact⟨λh=>by rw[a1 h,de],λh=>by rw[aF h,ez];rfl⟩
def af6{w:ng}{id:o}(h:id∉w.map (·.1)):w.filter (λe=>e.1 !=id)=w:=p6.2 λq aN=>by have:q.1≠id:=λe=>h (bf.2 ⟨q,aN,e⟩);simpa using this
def ayQ{id:o}{x:U×M o}:∀{w:ng},(w.map (·.1)).Nodup->(tD w id x).Perm ((id,x)::w.filter λe=>e.1 !=id):=by
 intro w ae;unfold tD;split;rename_i b6;induction w with
 |nil=>cases b6
 |cons p w aM=>
  have h3:=hI.1 ae;rw[gm];by_cases e:p.1=id;have rm:id∉w.map (·.1):=by rw[<-e];exact h3.1
  have:w.map (λp=>if p.1=id then(id,x) else p)=w.map _root_.id:=zU λq aN=>by have:q.1≠id:=λe=>rm (bf.2 ⟨q,aN,e⟩);rw[aF this];rfl
  rw[a1 e,this,List.map_id,List.filter_cons_of_neg (by simpa using e),af6 rm];rw[aF e,List.filter_cons_of_pos (by simpa using e)];have s5:id∈w.map (·.1):=(cJ.1 (by rw[<-gm];exact b6)).resolve_left λh=>e h.symm;exact(kc p (aM h3.2 s5)).trans (UN _ _ _)
 rename_i b6;rw[af6 b6];exact mR _ _
inductive bp where
 |obj|map|vec|code
structure tM where
 b:N
 fY:U
 eK:M (U×M (U×M o))
structure pz where
 hP:N
 sA:ng
 co:ay tM
structure aQ where
 an:o
 m:N
 w:ng
 cd:ay pz
def pz.ptr(c:pz):ay bc:=c.co.map λk=>⟨k.b,0,none⟩
def aQ.obj(T:aQ):Obj:=match T.cd with
 |none=>.cells #[.int .i64 T.an,.map (some T.m)] 127 (0,0)|some c=>.cells #[.int .i64 T.an,.map (some T.m),.pointer c.ptr,.map (some c.hP)] 132 (0,0)
structure sB(af:N->ay bp)(u:H)(d:o)(k:tM):Prop where
 cell:u k.b=some (.cells #[.int .i64 d,.slice k.fY.a k.fY.n k.fY.c] 191 (0,0))
 RS:af k.b=some .code
 bi:br u k.fY 1 (k.eK.flatMap λc=>encS c.1)
 h9:∀g,k.fY.aj=some g->af g=some .code
 tU:∀c∈k.eK,mA u c.1 c.2
 dN:∀c∈k.eK,(∀g,c.1.aj=some g->af g=some .code)/\∀x∈c.2,∀g,x.1.aj=some g->af g=some .code
def sB.bN{af aX:N->ay bp}{d:o}{k:tM}(h:sB af u d k)(Z:∀c,af c=some .code->aX c=some .code)(hu:∀c z,u c=some z->af c=some .code->u' c=some z):sB aX u' d k where
 cell:=hu _ _ h.cell h.RS
 RS:=Z _ h.RS
 bi:=br.else h.bi λg z W aa=>hu g z aa (h.h9 g W)
 h9 g W:=Z _ (h.h9 g W)
 tU c I:=⟨br.else (h.tU c I).cE λg z W aa=>hu g z aa ((h.dN c I).1 g W),λx J=>br.else ((h.tU c I).ints x J) λg z W aa=>hu g z aa ((h.dN c I).2 x J g W)⟩
 dN c I:=⟨λg W=>Z _ ((h.dN c I).1 g W),λx J g W=>Z _ ((h.dN c I).2 x J g W)⟩
def CO(af:N->ay bp)(u:H)(w:ng):Prop:=∀e∈w,Ints u e.2.1 e.2.2/\∀g,e.2.1.aj=some g->af g=some .vec
def CO.bN{af aX:N->ay bp}{w:ng}(h:CO af u w)(Z:∀c,af c=some .vec->aX c=some .vec)(hu:∀c z,u c=some z->af c=some .vec->u' c=some z):CO aX u' w:=λe he=>
 ⟨br.else (h e he).1 λg z W aa=>hu g z aa ((h e he).2 g W),λg W=>Z g ((h e he).2 g W)⟩
structure Rk(af:N->ay bp)(u:H)(d:o)(m:N)(c:pz):Prop where
 map:fx u c.hP (ea c.sA)
 dn:af c.hP=some .map
 ne:c.hP≠m
 vec:CO af u c.sA
 co:∀k,c.co=some k->sB af u d k
structure ed(af:N->ay bp)(u:H)(b:N)(T:aQ):Prop where
 cell:u b=some T.obj
 dN:af b=some .obj
 map:fx u T.m (ea T.w)
 dn:af T.m=some .map
 vec:CO af u T.w
 sL:∀c,T.cd=some c->Rk af u T.an T.m c
def Rk.bN{af aX:N->ay bp}{d:o}{m:N}{c:pz}(h:Rk af u d m c)(Z:∀c,af c≠none->aX c=af c)(hu:∀c z,u c=some z->af c≠none->u' c=some z):Rk aX u' d m c where
 map:=h.map.else λz aa=>hu _ _ aa (by rw[h.dn];simp)
 dn:=by rw[Z _ (by rw[h.dn];simp)];exact h.dn
 ne:=h.ne
 vec:=h.vec.bN (λc I=>by rw[Z _ (by rw[I];simp)];exact I) λc z I ht=>hu c z I (by rw[ht];simp)
 co k hk:=(h.co k hk).bN (λc I=>by rw[Z _ (by rw[I];simp)];exact I) λc z I ht=>hu c z I (by rw[ht];simp)
def ed.bN{af aX:N->ay bp}{b:N}{T:aQ}(h:ed af u b T)(Z:∀c,af c≠none->aX c=af c)(hu:∀c z,u c=some z->af c≠none->u' c=some z):ed aX u' b T where
 cell:=hu _ _ h.cell (by rw[h.dN];simp)
 dN:=by rw[Z _ (by rw[h.dN];simp)];exact h.dN
 map:=h.map.else λz aa=>hu _ _ aa (by rw[h.dn];simp)
 dn:=by rw[Z _ (by rw[h.dn];simp)];exact h.dn
 vec:=h.vec.bN (λc I=>by rw[Z _ (by rw[I];simp)];exact I) λc z I ht=>hu c z I (by rw[ht];simp)
 sL c I:=(h.sL c I).bN Z hu
def bN:yD ed:=⟨λh Z hu=>h.bN Z hu⟩
abbrev In:=mx ed
def aR(X:aQ):M (o×M o):=X.w.map λe=>(e.1,e.2.2)
structure EJ(d:o)(eK:M (U×M (U×M o))):Prop where
 many:1<=eK.length/\eK.length<=8
 Mu:∃n:N,1<=n/\((eK.length*n:N):o)=d/\∀c∈eK,wW c.2 n
structure dS(T:aQ):Prop where
 hl:1<=T.an/\T.an<=64
 ids:∀e∈T.w,1<=e.1/\e.1<=1000000000
 vec:∀e∈T.w,(e.2.2.length:o)=T.an/\dj e.2.2
 small:T.w.length<=512
 tU:∀c k,T.cd=some c->c.co=some k->EJ T.an k.eK
def ed.rT{af:N->ay bp}{b:N}{T:aQ}(h:ed af u b T):(T.w.map (·.1)).Nodup:=by obtain⟨es,cl,_,he⟩:=h.map;have:=he.nodup;rw[R0] at this;exact this
def nv(T:aQ):(aR T).map (·.1)=T.w.map (·.1):=by unfold aR;rw[ep];rfl
def aQ.bJ{b:N}{T:aQ}(h:u b=some T.obj):u.cell? ⟨b,0,none⟩=some (.int .i64 T.an):=by
 unfold aQ.obj at h;cases e:T.cd with
 |none=>rw[e] at h;exact H.ba h 0|some c=>rw[e] at h;exact H.ba h 0
def aQ.c1{b:N}{T:aQ}(h:u b=some T.obj):u.cell? ((cB b 0 none).add 1)=some (.map (some T.m)):=by
 unfold aQ.obj at h;cases e:T.cd with
 |none=>rw[e] at h;exact H.ba h 1|some c=>rw[e] at h;exact H.ba h 1
def spec.An{af:N->ay bp}{b:N}{T:aQ}{K:o->H->Prop}(h:In ai u af b T)(au:K (aR T).length u):C.RE (some ⟨b,0,none⟩) u K:=by apply aG.RE;refine⟨_,rfl,_,aQ.c1 h.aI.cell,wJ iO h.aI.map ?_⟩;rw[show(ea T.w).length=(aR T).length by simp[ea,aR]];exact au
def hN.map{af:N->ay bp}{m:N}(hm:af m=some .map)(z:Obj):hN u af (u.ins m z) af:=
 ⟨λc b5 I Z=>by rw[H.bq _ _ λe=>by rw[e,hm] at Z;cases Z];exact I,λ_ h=>.inl h⟩
def In.ins{af:N->ay bp}{b:N}{T bt:aQ}{m:N}{z:Obj}(h:In ai u af b T)(hm:af m≠none)(ht:ed af (u.ins m z) b bt):In ai (u.ins m z) af b bt:=
 ⟨ht,λc b5 I=>by rw[H.bq _ _ λe=>by rw[e,h.out m hm] at I;cases I];exact h.le c b5 I,h.out,λc I=>by by_cases e:c=m;rw[e,H.bh];simp;rw[H.bq _ _ e];exact h.known c I⟩
structure Am(ai u:H)(af:N->ay bp)(b:N)(T:aQ)(id:o)(u':H)(bt:aQ):Prop where
 is:In ai u' af b bt
 eP:hN u af u' af
 ok:dS bt
 rows:aR bt=(aR T).filter λx=>x.1 !=id
 an:bt.an=T.an
 cd:bt.cd=T.cd
def spec.vk{af:N->ay bp}{b:N}{T:aQ}{id:o}{K:aK->o->H->Prop}(h:In ai u af b T)(aT:dS T)(dV:id∉T.w.map (·.1)->K ax 0 u)
  (kz:id∈T.w.map (·.1)->∀u' bt,Am ai u af b T id u' bt->K ak 0 u'):C.RD (some ⟨b,0,none⟩) id u K:=by
 have aI:=h.aI
 have N4:af T.m≠none:=by rw[aI.dn];simp
 apply aG.RD
 rcases sR T.w id with⟨W,hm⟩|⟨e,he,ch,W⟩
 refine⟨_,rfl,_,aQ.c1 aI.cell,tB iO aI.map (ct:=.slice) (⟨none,0,0⟩:U) (by rw[W];rfl) ⟨_,rfl,_,aQ.c1 aI.cell,ayH iO aI.map W ?_⟩⟩
 rw[W]
 exact dV hm
 refine⟨_,rfl,_,aQ.c1 aI.cell,tB iO aI.map (ct:=.slice) e.2.1 (by rw[W];rfl) ⟨_,rfl,_,aQ.c1 aI.cell,?_⟩⟩
 rw[W]
 refine Qv iO aI.map λz iw=>kz (bf.2 ⟨e,he,ch⟩) _ {T with w:=T.w.filter λe=>e.1 !=id} ⟨h.ins N4 ?_,hN.map aI.dn z,⟨aT.hl,λe he=>aT.ids e (iT.1 he).1,λe he=>aT.vec e (iT.1 he).1,jg (wB _ _) aT.small,aT.tU⟩,?_,rfl,rfl⟩
 have pq:∀{c b5},u c=some b5->c≠T.m->(u.ins T.m z) c=some b5:=λI al=>by rw[H.bq _ _ al];exact I
 have qf:∀{c t},af c=some t->t≠.map->c≠T.m:=λI ht e=>by rw[e,aI.dn] at I;exact ht (cU I).symm
 refine⟨pq aI.cell (qf aI.dN (by simp)),aI.dN,?_,aI.dn,?_,λc I=>?_⟩
 rw[C1] at iw
 exact iw
 have h1:CO af (u.ins T.m z) T.w:=aI.vec.bN (λ_ h=>h) λc b5 I ht=>pq I (qf ht (by simp))
 exact λe he=>h1 e (iT.1 he).1
 have c9:=aI.sL c I
 exact⟨c9.map.else λb5 aa=>pq aa c9.ne,c9.dn,c9.ne,c9.vec.bN (λ_ h=>h) λc b5 I ht=>pq I (qf ht (by simp)),λk hk=>(c9.co k hk).bN (λ_ h=>h) λc b5 I ht=>pq I (qf ht (by simp))⟩
 show(T.w.filter _).map _=(T.w.map _).filter _
 rw[tw]
 rfl
def spec.Rows{af:N->ay bp}{b:N}{T:aQ}{K:U->H->Prop}(h:In ai u af b T)(aT:dS T)(au:∀s ls u',rU u u' s ls->(ls.map az.bz).Perm (aR T)->(ls.Pairwise λa b=>a.id<=b.id)->K s u'):
  C.Mi (some ⟨b,0,none⟩) u K:=by
 have fB:=aT.small
 apply aG.Mi
 refine⟨_,rfl,_,aQ.c1 h.aI.cell,LB iO h.aI.map λr z O xw=>?_⟩
 have jf:=H.b1 (u:=u) (b:=r) z O
 refine⟨λs w=>∃rw:M az,na w r T.m (ea T.w) (rw.map λx=>(x.id,.slice x.s.a x.s.n x.s.c))/\aJ u w 52 2 s (rw.flatMap cR)/\s.aj≠some r/\∀x∈rw,(x.id,(x.s,x.v))∈T.w,λs _=>1000000-s.n,
  ⟨[],xw,aJ.nil jf _ _,by simp[U.aj],λx J=>(by cases J)⟩,?_⟩
 rintro s w ⟨rw,iM,aa,rq,kZ⟩
 have dw:s.n=rw.length:=gW fI (by decide) aa.own.cE
 have kX:rw.length<=512:=by have h2:=iM.CW;rw[ep] at h2;have h3:(rw.map (·.id)).length<=(T.w.map (·.1)).length:=(pj h2 λx J=>by obtain⟨y,ah,rfl⟩:=bf.1 J;exact bf.2 ⟨_,kZ y ah,rfl⟩).1;rw[de,de] at h3;omega
 refine KN iM (λh5=>?_) λp hQ ad Bc pO=>?_
 have bX:en w s rw:=⟨aa.own.cE,λx J=>((h.aI.vec _ (kZ x J)).1).mono aa.le⟩
 have np:(rw.map az.bz).Perm (aR T):=by
  have bS:=iM.CW;rw[ep] at bS;have hlen:=h5.length_eq;simp only[de,ea] at hlen;have gJ:∀x∈rw.map az.bz,x∈aR T:=λx J=>by obtain⟨y,ah,rfl⟩:=bf.1 J;exact bf.2 ⟨_,kZ y ah,rfl⟩
  have s8:(rw.map az.bz).Nodup:=by have:(rw.map (·.id)).Nodup:=bS;rw[show rw.map (·.id)=(rw.map az.bz).map (·.1) by rw[ep];rfl] at this;exact zz this
  exact(pj s8 gJ).2 (by simp[aR];omega)
 refine spec.kV bX (λx J=>aT.ids _ (kZ x J)) (by omega) (λx J=>?_) λs2 ls dc ma eY dB=>?_
 have o0:(x.v.length:o)=T.an:=(aT.vec _ (kZ x J)).1
 have:=aT.hl
 omega
 exact au s2 ls dc ⟨ma.own.weaken aa.le,λr O=>(ma.inner r O).weaken aa.le,ma.eB,ma.apart⟩ (eY.trans np) dB
 obtain⟨e,he,Ou⟩:=bf.1 ad
 subst Ou
 refine I9 pO ?_
 have dI:aJ u (w.ins r hQ) 52 2 s (rw.flatMap cR):=aa.xU O rq hQ
 refine oc kF (yM e.1 e.2.1) (by decide) rfl (by simp[cT]) dI (by show s.n<_;omega) (by show(s.n+1)*_<=_;omega) λaq u' bP hW gf eu _=>⟨⟨rw++ [⟨e.1,e.2.1,e.2.2⟩],?_,?_,λaB=>?_,λx J=>?_⟩,?_⟩
 rw[ek]
 refine pO.else (λb5 mf=>gf _ _ mf λcW=>?_) λb5 mf=>gf _ _ mf rq
 have:=aa.fresh _ cW
 exact h.known T.m (by rw[h.aI.dn];simp) this
 rw[hz];exact bP
 rcases eu r aB with a7|a7
 exact rq a7
 rw[H.bh] at a7;cases a7
 rcases cN.1 J with J|J
 exact kZ x J
 obtain rfl:=fV.1 J
 exact he
 show 1000000-aq.n<1000000-s.n
 omega
end
section
variable{u ai:H}{d:o}{v q:M o}{s t:U}{b:N}
open lS (ea sR pj zz iO C1)
def tl(v:M o)(n i:N):M o:=(v.drop (i*n)).take n
def Uq{n i p:N}(h:v.length=p*n)(hi:i<p):(tl v n i).length=n:=by unfold tl;rw[gZ,oH];have:(i+1)*n<=p*n:=ts _ hi;rw[Ea] at this;omega
def Ur(h:dj v)(n i:N):dj (tl v n i):=by unfold tl;refine⟨?_,λj aP=>?_⟩;have:=h.1;rw[gZ,oH];omega;rw[gZ,oH] at aP;have:=h.2 (i*n+j) (by omega);rw[du] at this ⊢;rw[List.getElem?_take_of_lt (by omega),uX];exact this
def spec.x5{p n:N}{i:o}{K:U->H->Prop}(ag:Ints u s v)(ar:v.length=p*n)(ad:1<=p)(gp:1<=n)(fB:v.length<=1000000)(h0:0<=i)(h1:i<p)
  (au:∀t,(∀w,Ints w s v->Ints w t (tl v n i.toNat))->K t u):C.x5 s p i u K:=by
 have ae:=ag.len
 have aw:gR (s.n:o) (p:o)=n:=by rw[ae,ar,HN];exact Int.mul_tdiv_cancel_left _ (by omega)
 have aS:i*(n:o)=((i.toNat*n:N):o):=by rw[HN,wA h0]
 have aB:(i+1)*(n:o)=(((i.toNat+1)*n:N):o):=by rw[HN,Int.natCast_add,wA h0];rfl
 have ab:(i.toNat+1)*n<=p*n:=ts _ (by omega)
 have hU:(i.toNat+1)*n=i.toNat*n+n:=by rw[Ea,Nat.one_mul]
 have ir:=br.cap ag
 have hi:i.toNat*1<=i.toNat*n:=Nat.mul_le_mul_left _ gp
 apply aG.x5
 rw[aw,aS,aB]
 refine⟨by omega,⟨by omega,by omega⟩,⟨by omega,by omega⟩,⟨by omega,by omega⟩,⟨by omega,by omega⟩,⟨by omega,by omega⟩,⟨by omega,by omega⟩,?_⟩
 refine oM oN (l:=i.toNat*n) (h:=(i.toNat+1)*n) (m:=(i.toNat+1)*n) (.inr rfl) (.inr rfl) (.inr ⟨rfl,by simp⟩) (by omega) (cA _) (by omega) ir (au _ λw hw=>?_)
 have:=br.part hw (l:=i.toNat*n) (h:=(i.toNat+1)*n) (m:=(i.toNat+1)*n) (by omega) (by omega) (cA _) (by omega)
 rw[show(i.toNat+1)*n-i.toNat*n=n by omega,B1,B1,<-Ee,<-Lm] at this
 exact this
def spec.th{l:M (U×M o)}{K:o->o->o->o->H->Prop}(h:mA u s l)(I:wW l d)(ht:Ints u t v)(aA:dj v)(DI:(v.length:o)=d)
  (au:∀a x y,K a x y 0 u):C.th s t u K:=by
 have ae:=h.len
 have hm:=I.many
 have aw:=I.an
 obtain⟨p,ad,c,ow,cH,bJ,pJ⟩:=h.at (x:=0) (nA _) (by omega)
 obtain⟨aS,aB⟩:=I.each c cH
 have o3:(c.1.n:o)=d:=by rw[pJ.len];exact aS
 apply aG.th
 apply aG.DU
 intro my o1
 refine⟨λe=>aW e (by omega),λ_=>⟨λe=>aW e (by omega),λ_=>o1 0 _ ⟨p,ad,⟨nA _,by omega⟩,_,bJ,?_⟩⟩⟩
 dsimp only
 rw[o3]
 refine spec.zn h aw I.each (by omega) ⟨λe=>aW rfl e,λ_=>⟨p,ad,⟨nA _,by omega⟩,_,bJ,?_⟩⟩
 dsimp only
 rw[o3]
 have uI:gV v d=0:=by rw[<-DI];exact zG aA (by omega)
 refine spec.iA ht ?_
 rw[uI]
 exact⟨λe=>aW rfl e,λ_=>spec.zo h I ht aA DI (au _ _ _)⟩
def aoD(x:o):kG aH 30 1 #[(0,.int .i64 x)]=some (3,[.int .i64 x]):=by kernel_rfl
def XA(c:U×M (U×M o)):(encS c.1).length=1:=rfl
def sB.len{af:N->ay bp}{k:tM}(h:sB af u d k):k.fY.n=k.eK.length:=gW XA (by decide) h.bi
def sB.at{af:N->ay bp}{k:tM}(h:sB af u d k){x:o}(h0:0<=x)(h1:x<(k.fY.n:o)):∃p,k.fY.a=some p/\∃c,k.eK[x.toNat]?=some c/\c∈k.eK/\u.cell? (p.add (x.toNat*1))=some (.slice c.1.a c.1.n c.1.c):=by
 have ae:=h.len;have ar:x.toNat<k.eK.length:=by omega
 have J:k.eK[x.toNat]?=some k.eK[x.toNat]:=cr ar;obtain⟨p,ad,I⟩:=br.elem XA (by decide) h.bi J;exact⟨p,ad,_,J,kE ar,I 0 _ rfl⟩
def sB.mono{af:N->ay bp}{u':H}{k:tM}(h:sB af u d k)(hu:u.le u'):sB af u' d k:=h.bN (λ_ h=>h) λc z I _=>hu c z I
def spec.Encode{af:N->ay bp}{k:tM}{K:U->o->H->Prop}(h:sB af u d k)(ab:EJ d k.eK)(ht:Ints u t q)(aN:gV q d=0)
  (au:∀s u' (cl:M o),aJ u u' 3 1 s (cl.flatMap encI)->K s 0 u'):C.PQ (some ⟨k.b,0,none⟩) t u K:=by
 have ae:=h.len
 have hm:=ab.many
 obtain⟨n,b4,nd,dD⟩:=ab.Mu
 obtain⟨d1,d2,d3,d4⟩:=oh aN
 have ar:q.length=k.eK.length*n:=by omega
 apply aG.PQ
 refine⟨λe=>(by cases e),λ_=>⟨_,rfl,_,H.ba h.cell 0,spec.iA ht ?_⟩⟩
 rw[aN]
 refine⟨λe=>aW rfl e,λ_=>⟨_,rfl,k.fY,H.ba h.cell 1,λs x w=>0<=x/\x<=k.fY.n/\∃cl:M o,cl.length=x.toNat/\aJ u w 3 1 s (cl.flatMap encI),λ_ x _=>k.fY.n-x.toNat,⟨by omega,by omega,[],rfl,aJ.nil (H.le.refl u) _ _⟩,?_⟩⟩
 rintro s x w ⟨bL,dC,cl,hG,aa⟩
 have hw:=h.mono aa.le
 have dw:s.n=cl.length:=gW (enc:=encI) (λ_=>rfl) (by decide) aa.own.cE
 refine⟨λJ=>?_,λ_=>au _ _ cl aa⟩
 obtain⟨p,ad,c,ow,cH,bJ⟩:=hw.at bL J
 refine⟨p,ad,⟨bL,J⟩,c.1,bJ,_,rfl,k.fY,H.ba hw.cell 1,?_⟩
 dsimp only
 rw[ae]
 refine spec.x5 (ht.mono aa.le) ar hm.1 b4 (by omega) bL (by omega) λyp ru=>?_
 refine spec.th (hw.tU c cH) (dD c cH) (ru _ (ht.mono aa.le)) (Ur d4 _ _) (by rw[Uq ar (by omega)]) λa y Y=>?_
 refine oc oN (aoD a) (by decide) rfl (by simp[cT]) aa (by show s.n<_;omega) (by show(s.n+1)*_<=_;omega) λaq u' bP hW _ _ _=>⟨⟨by omega,by omega⟩,⟨by omega,by omega,cl++ [a],by rw[ez,hG];simp;omega,?_⟩,?_⟩
 rw[hz];exact bP
 omega
def ve(af:N->ay bp)(s:U):N->ay bp:=λc=>if s.aj=some c then some .vec else af c
def VS{af:N->ay bp}{c:N}(h:s.aj=some c):ve af s c=some .vec:=a1 h
def VT{af:N->ay bp}{c:N}(h:s.aj≠some c):ve af s c=af c:=aF h
def In.ve{u':H}{af:N->ay bp}{T:aQ}{e k:N}{xs:M ap}(h:In ai u af b T)(aa:aJ u u' e k s xs):In ai u' (ve af s) b T/\hN u af u' (ve af s):=by have al:∀c,af c≠none->hd.ve af s c=af c:=λc I=>VT λe=>h.known c I (aa.fresh c e);refine⟨⟨bN.bN h.aI al λc z I _=>aa.le c z I,h.le.trans aa.le,λc I=>?_,λc I=>?_⟩,λc z I _=>aa.le c z I,λc I=>?_⟩;by_cases e:s.aj=some c;exact h.le.none (aa.fresh c e);rw[VT e] at I;exact h.out c I;by_cases e:s.aj=some c;exact dE aa e;rw[VT e] at I;obtain⟨z,bP⟩:=e9.1 (h.known c I);rw[aa.le c z bP];simp;by_cases e:s.aj=some c;exact .inr (aa.fresh c e);rw[VT e] at I;exact .inl I
def akd{id:o}{there:aK}{many:o}(h:fu id v d there many=0):1<=id/\id<=1000000000/\gV v d=0/\(there=ax->many<512):=by unfold fu at h;split at h;omega;split at h;rename_i h1 h2;exact aW h h2;split at h;omega;rename_i h1 h2 h3;refine⟨by omega,by omega,by omega,λht=>?_⟩;by_cases hm:many<512;exact hm;exact aW ⟨ht,by omega⟩ h3
structure tP(ai u:H)(af:N->ay bp)(b:N)(T:aQ)(id:o)(v:M o)(u':H)(aX:N->ay bp)(bt:aQ):Prop where
 is:In ai u' aX b bt
 eP:hN u af u' aX
 ok:dS bt
 rows:(aR bt).Perm ((id,v)::(aR T).filter λx=>x.1 !=id)
 an:bt.an=T.an
 ao1:bt.cd.isSome=T.cd.isSome
def spec.ams{af:N->ay bp}{T:aQ}{id:o}{K:aK->o->H->Prop}(h:In ai u af b T)(aT:dS T)(ht:Ints u t q)
  (di:fu id q T.an (decide (id∈T.w.map (·.1))) T.w.length≠0->K ax (fu id q T.an (decide (id∈T.w.map (·.1))) T.w.length) u)
  (bE:fu id q T.an (decide (id∈T.w.map (·.1))) T.w.length=0->∀u' aX bt,tP ai u af b T id q u' aX bt->bt.cd=T.cd->K (decide (id∉T.w.map (·.1))) 0 u'):C.Mh (some ⟨b,0,none⟩) id t u K:=by
 have aI:=h.aI
 have ar:(ea T.w).length=T.w.length:=by simp[ea]
 have iE:(fR (ea T.w) id).isSome=decide (id∈T.w.map (·.1)):=by rcases sR T.w id with⟨W,hm⟩|⟨e,he,ch,W⟩;rw[W,p7 hm];rfl;rw[W,mm (bf.2 ⟨e,he,ch⟩)];rfl
 obtain⟨y,ah⟩:∃y:U,(fR (ea T.w) id).getD (.slice none 0 0)=aL.slice.enc y:=by rcases sR T.w id with⟨W,hm⟩|⟨e,he,ch,W⟩;exact⟨⟨none,0,0⟩,by rw[W];rfl⟩;exact⟨e.2.1,by rw[W];rfl⟩
 apply aG.Mh
 refine⟨_,rfl,_,aQ.c1 aI.cell,tB iO aI.map (ct:=.slice) y ah ?_⟩
 rw[iE]
 refine⟨_,rfl,_,rfl,_,aQ.bJ aI.cell,_,aQ.c1 aI.cell,wJ iO aI.map ⟨H.le.refl u,spec.q9 ht ?_⟩⟩
 rw[ar]
 refine⟨λal=>di al,λhe=>⟨_,rfl,_,aQ.c1 aI.cell,?_⟩⟩
 have bE:=bE he
 obtain⟨i1,i2,aA,ZF⟩:=akd he
 obtain⟨d1,d2,d3,d4⟩:=oh aA
 have Ox:=ht.len
 refine spec.iH ht (by omega) λaq u' aa _=>⟨aa.le,?_⟩
 obtain⟨bQ,yp⟩:=In.ve h aa
 have qe:=bQ.aI
 have N4:ve af aq T.m≠none:=by rw[qe.dn];simp
 refine alL iO qe.map λz iw=>?_
 rw[afS] at iw
 have pq:∀{c b5},u' c=some b5->c≠T.m->(u'.ins T.m z) c=some b5:=λI al=>by rw[H.bq _ _ al];exact I
 have qf:∀{c t},ve af aq c=some t->t≠.map->c≠T.m:=λI ht e=>by rw[e,qe.dn] at I;exact ht (cU I).symm
 have nd:=aI.rT
 have:=bE _ _ {T with w:=tD T.w id (aq,q)} ⟨In.ins bQ N4 ⟨pq qe.cell (qf qe.dN (by simp)),qe.dN,iw,qe.dn,λe he=>?_,λc I=>?_⟩,yp.trans (hN.map qe.dn z),⟨aT.hl,λe he=>?_,λe he=>?_,?_,aT.tU⟩,?_,rfl,rfl⟩ rfl
 have aB:(!decide (decide (id∈T.w.map (·.1))=ak))=decide (id∉T.w.map (·.1)):=by simp
 first
  |exact aB▸this
  |(rw[<-aB] at this;exact this)
 have hold:CO (ve af aq) (u'.ins T.m z) T.w:=qe.vec.bN (λ_ h=>h) λc b5 I ht=>pq I (qf ht (by simp))
 rcases Vy he with rfl|⟨he,_⟩
 exact⟨br.else aa.ints λg b5 W I=>pq I (qf (VS W) (by simp)),λg W=>VS W⟩
 exact hold e he
 have c9:=qe.sL c I
 exact⟨c9.map.else λb5 aa=>pq aa c9.ne,c9.dn,c9.ne,c9.vec.bN (λ_ h=>h) λc b5 I ht=>pq I (qf ht (by simp)),λk hk=>(c9.co k hk).bN (λ_ h=>h) λc b5 I ht=>pq I (qf ht (by simp))⟩
 rcases Vy he with rfl|⟨he,_⟩
 exact⟨i1,i2⟩
 exact aT.ids e he
 rcases Vy he with rfl|⟨he,_⟩
 exact⟨d3,d4⟩
 exact aT.vec e he
 have fB:=aT.small
 by_cases e:id∈T.w.map (·.1)
 show(tD T.w id (aq,q)).length<=512
 rw[(alP _ _ _).1 e];exact fB
 have:=ZF (p7 e)
 show(tD T.w id (aq,q)).length<=512
 rw[(alP _ _ _).2 e];omega
 show((tD T.w id (aq,q)).map λe=>(e.1,e.2.2)).Perm _
 refine((ayQ nd).map _).trans ?_
 rw[gm]
 unfold aR
 rw[tw]
 exact Lq _
def spec.aoX{af:N->ay bp}{T:aQ}{c:pz}{id:o}{K:aK->o->H->Prop}(h:In ai u af b T)(aT:dS T)(lW:T.cd=some c)(ht:Ints u t q)(fi:∀aU (c5:N->ay bp),ai.le aU->hN u af aU c5->Ints aU t q)
  (di:fu id q T.an (decide (id∈T.w.map (·.1))) T.w.length≠0->K ax (fu id q T.an (decide (id∈T.w.map (·.1))) T.w.length) u)
  (bE:fu id q T.an (decide (id∈T.w.map (·.1))) T.w.length=0->∀u' aX bt,tP ai u af b T id q u' aX bt->K (decide (id∉T.w.map (·.1))) 0 u'):C.RA (some ⟨b,0,none⟩) id t u K:=by
 apply aG.RA
 refine⟨_,rfl,spec.ams h aT ht (λal L6 a7=>⟨λe=>aW e al,λ_=>a7 _ _ ⟨λe=>(by cases e),λ_=>di al⟩⟩) λhe aU c5 bb O ho L6 a7=>⟨λ_=>?_,λe=>aW rfl e⟩⟩
 have bE:=bE he
 obtain⟨_,_,aA,_⟩:=akd he
 rw[lW] at ho
 have amz:=O.is.aI
 have W5:aU b=some (.cells #[.int .i64 bb.an,.map (some bb.m),.pointer c.ptr,.map (some c.hP)] 132 (0,0)):=by rw[amz.cell];unfold aQ.obj;rw[ho]
 have sL:=amz.sL c ho
 refine⟨_,rfl,c.ptr,H.ba W5 2,a7 _ _ ⟨λe=>?_,λ_=>bE aU c5 bb O⟩⟩
 cases hk:c.co with
 |none=>simp[pz.ptr,hk] at e
 |some k=>
  have w7:=sL.co k hk;have ns:=fi aU c5 O.is.le O.eP;refine⟨_,rfl,_,rfl,_,H.ba W5 3,_,H.ba W5 2,?_⟩;rw[show c.ptr=some ⟨k.b,0,none⟩ by unfold pz.ptr;rw[hk];rfl];refine spec.Encode w7 (O.ok.tU c k ho hk) ns (by rw[O.an];exact aA) λs2 dc cl dI=>⟨dI.le,?_⟩;obtain⟨bQ,yp⟩:=In.ve O.is dI;have qe:=bQ.aI;have AH:=qe.sL c ho;refine alL iO AH.map λz iw=>?_;rw[afS (v:=cl)] at iw;have pq:∀{x b5},dc x=some b5->x≠c.hP->(dc.ins c.hP z) x=some b5:=λI al=>by rw[H.bq _ _ al];exact I
  have qf:∀{x t},ve c5 s2 x=some t->t≠.map->x≠c.hP:=λI ht e=>by rw[e,AH.dn] at I;exact ht (cU I).symm
  refine bE _ _ {bb with cd:=some {c with sA:=tD c.sA id (s2,cl)}} ⟨In.ins bQ (by rw[AH.dn];simp) ⟨?_,qe.dN,qe.map.else λb5 aa=>pq aa (dz AH.ne),qe.dn,qe.vec.bN (λ_ h=>h) λx b5 I ht=>pq I (qf ht (by simp)),λni c9=>?_⟩,(O.eP.trans yp).trans (hN.map AH.dn z),⟨O.ok.hl,O.ok.ids,O.ok.vec,O.ok.small,λni dT c9 dA=>?_⟩,O.rows,O.an,?_⟩;refine pq ?_ (qf qe.dN (by simp));rw[qe.cell];unfold aQ.obj;rw[ho];rfl;obtain rfl:=cU c9;refine⟨iw,AH.dn,AH.ne,λe he=>?_,λk hk=>(AH.co k hk).bN (λ_ h=>h) λx b5 I ht=>pq I (qf ht (by simp))⟩;have hold:CO (ve c5 s2) (dc.ins c.hP z) c.sA:=AH.vec.bN (λ_ h=>h) λx b5 I ht=>pq I (qf ht (by simp));rcases Vy he with rfl|⟨he,_⟩;exact⟨br.else dI.ints λg b5 W I=>pq I (qf (VS W) (by simp)),λg W=>VS W⟩;exact hold e he;obtain rfl:=cU c9;exact O.ok.tU c dT ho dA;rw[lW];rfl
end
section
variable{u:H}{s:U}{c r:o}
def an8:hn aH 106=ak:=by kernel_rfl
def azx:kH aH 189=some (133,1,24,[.slice none 0 0]):=by kernel_rfl
def aoz(s:U):kG aH 189 1 #[(0,.slice s.a s.n s.c)]=some (133,[.slice s.a s.n s.c]):=by kernel_rfl
structure LY(u:H)(n0 b4 eb jI eZ:N)(s:U)(p c r H4:o):Prop where
 bJ:u.cell? ⟨n0,0,none⟩=some (.slice s.a s.n s.c)
 c1:u.cell? ⟨b4,0,none⟩=some (.int .i64 p)
 c2:u.cell? ⟨eb,0,none⟩=some (.int .i64 c)
 fg:u.cell? ⟨jI,0,none⟩=some (.int .i64 r)
 oX:u.cell? ⟨eZ,0,none⟩=some (.int .u64 H4)
def LY.mono{u':H}{n0 b4 eb jI eZ:N}{p H4:o}(h:LY u n0 b4 eb jI eZ s p c r H4)(k:u.le u'):LY u' n0 b4 eb jI eZ s p c r H4:=
 ⟨H.le.cell k h.bJ,H.le.cell k h.c1,H.le.cell k h.c2,H.le.cell k h.fg,H.le.cell k h.oX⟩
def spec.anQ{n0 b4 eb jI eZ:N}{L:M (U×M o)}{p n:N}{H4 i:o}{K:U->H->Prop}(b6:LY u n0 b4 eb jI eZ s p c r H4)(h:mA u s L)(aA:∀x∈L,x.2.length=p*n/\dj x.2)(ad:1<=p)(ae:1<=n/\n<=64)(um:L.length<=512)
  (I:1<=c/\c<=16) (hG:c<=L.length) (O:0<=r/\r<=20) (i0:0<=i) (i1:i<p) (au:∀aq u' cs,fQ u u' aq cs->wW cs n->K aq u'):C.Uu i ⟨n0,0,none⟩ ⟨b4,0,none⟩ ⟨eb,0,none⟩ ⟨jI,0,none⟩ ⟨eZ,0,none⟩ u K:=by
 have dw:=h.len
 apply aG.Uu
 refine⟨s,b6.bJ,λk8 x w=>0<=x/\x<=s.n/\∃D:M (U×M o),D.map (·.2)=(L.take x.toNat).map (λy=>tl y.2 n i.toNat)/\aJ u w 30 1 k8 (D.flatMap λc=>encS c.1)/\∀y∈D,Ints u y.1 y.2,λ_ x _=>s.n-x.toNat,⟨by omega,by omega,[],by simp,aJ.nil (H.le.refl u) _ _,λy ah=>(by cases ah)⟩,?_⟩
 rintro k8 x w ⟨bL,dC,D,eN,aa,cv⟩
 have Ss:D.length=x.toNat:=by have:=ei iS eN;simp at this;omega
 have aA9:k8.n=D.length:=gW vw (by decide) aa.own.cE
 refine⟨λJ=>?_,λgG=>?_⟩
 obtain⟨q,aN,y,ajy,TL,Fe,_⟩:=(h.mono aa.le).at bL J
 obtain⟨v1,v2⟩:=aA y TL
 refine⟨q,aN,⟨bL,J⟩,y.1,Fe,_,H.le.cell aa.le b6.c1,?_⟩
 have ajx:=h.ints y TL
 refine spec.x5 (ajx.mono aa.le) v1 ad ae.1 (by have:=v2.1;omega) i0 i1 λt ht=>?_
 refine oc VQ (j1.RL t) (by decide) rfl (by simp[cT]) aa (by show k8.n<_;omega) (by show(k8.n+1)*_<=_;omega) λaq u' bP hW _ _ _=>⟨⟨by omega,by omega⟩,⟨by omega,by omega,D++ [(t,tl y.2 n i.toNat)],?_,?_,λY aC=>?_⟩,?_⟩
 rw[show(x+1).toNat=x.toNat+1 by omega,gS,ajy,ek,ek,eN]
 rfl
 rw[hz];exact bP
 rcases cN.1 aC with aC|aC
 exact cv Y aC
 rw[fV.1 aC];exact ht u ajx
 dsimp only;omega
 have eR:x.toNat=L.length:=by have:¬x<(s.n:o):=gG;omega
 rw[eR,mQ] at eN
 have sU:mA w k8 D:=⟨aa.own.cE,λy ah=>(cv y ah).mono aa.le⟩
 have Jq:∀y∈D.map (·.2),y.length=n/\dj y:=λy ah=>by rw[eN] at ah;obtain⟨Y,aC,rfl⟩:=bf.1 ah;obtain⟨v1,v2⟩:=aA Y aC;exact⟨Uq v1 (by omega),Ur v2 _ _⟩
 refine⟨_,H.le.cell aa.le b6.c2,_,H.le.cell aa.le b6.fg,_,H.le.cell aa.le b6.oX,?_⟩
 refine spec.BD sU (λy ah=>Jq y.2 (bf.2 ⟨y,ah,rfl⟩)) ae (by omega) ⟨I.1,by omega⟩ (by omega) O λaq u' cs dD he=>au aq u' cs (dD.weaken aa.le) ?_
 obtain⟨adt,auO⟩:∃Y,Y=cz .u64 (H4+cz .u64 i):=⟨_,rfl⟩
 rw[<-auO] at he
 have aB:j1.AF adt c r n (D.map (·.2))=adZ adt c.toNat r.toNat n (D.map (·.2)):=by unfold j1.AF;rw[aF λe=>?_,de,aF (by omega)];have:=ei iS e;rw[de,mi] at this;omega
 obtain⟨g1,g2,g3⟩:=j1.afp (eJ:=adt) (b:=r) Jq ae (a:=c) ⟨I.1,by omega⟩
 rw[aB,<-he] at g1 g2 g3
 rw[de] at g2 g3
 exact⟨by omega,⟨g2,g3⟩,λy ah=>by obtain⟨b3,cu⟩:=g1 y.2 (bf.2 ⟨y,ah,rfl⟩);exact⟨by omega,cu⟩⟩
structure EL(u u':H)(d:o)(k:tM):Prop where
 le:u.le u'
 new:u k.b=none
 cell:u' k.b=some (.cells #[.int .i64 d,.slice k.fY.a k.fY.n k.fY.c] 191 (0,0))
 own:aJ u u' 133 1 k.fY (k.eK.flatMap λc=>encS c.1)
 each:∀c∈k.eK,fQ u u' c.1 c.2
def azg{n:N}{d:o}{a:U}{f:H->Prop}(h:u n=some (.cells #[.int .i64 d,.slice a.a a.n a.c] 191 (0,0)))(Z:f (u.ins n (.cells #[.int .i64 d,.slice s.a s.n s.c] 191 (0,0)))):H.aO u (ev (cB n 0 none) 1) [.slice s.a s.n s.c] f:=
 ⟨_,_,h,rfl,by simp[jh],by simp[cT],Z⟩
def spec.Hr{L:M (U×M o)}{d p eJ:o}{K:ay bc->o->H->Prop}(h:mA u s L)(aA:∀x∈L,(x.2.length:o)=d/\dj x.2)(aw:1<=d/\d<=64)(ad:1<=p/\p<=8)(Ot:ps d p=0)
  (I:1<=c/\c<=16) (hG:c<=L.length) (um:L.length<=512) (O:0<=r/\r<=20) (au:∀u' k,EL u u' d k->EJ d k.eK->K (some ⟨k.b,0,none⟩) 0 u'):C.Hr s d p c r eJ u K:=by
 have dw:=h.len
 obtain⟨n,ae⟩:∃n:N,d=p*n:=by
  refine⟨(d/p).toNat,?_⟩;have h1:d%p=0:=by rw[<-akP (by omega)];exact Ot
  have h2:=Int.mul_ediv_add_emod d p;have h3:0<=d/p:=Int.ediv_nonneg (by omega) (by omega);rw[wA h3];omega
 obtain⟨P,ee⟩:∃P:N,p=P:=⟨p.toNat,by omega⟩
 subst ee
 have gp:1<=n:=by rcases UX n with e|e;rw[e] at ae;simp at ae;omega;exact e
 have atQ:n<=64:=by
  have:1*n<=P*n:=ts _ (by omega);have:((P*n:N):o)=d:=by rw[HN];exact ae.symm
  omega
 have Kl:∀x∈L,x.2.length=P*n/\dj x.2:=λx J=>by obtain⟨v1,v2⟩:=aA x J;rw[ae,<-HN] at v1;exact⟨by omega,v2⟩
 apply aG.Hr
 intro n0 h0 b4 h1 eb h2 jI h3 eZ a7 IG bK
 obtain⟨fK,j7⟩:∃fK,fK=(bC #[ec s.a s.n s.c] 133 (0,0)):=⟨_,rfl⟩
 obtain⟨eH,kv⟩:∃eH,eH=(bC #[cY .i64 (P:o)] 3 (0,0)):=⟨_,rfl⟩
 obtain⟨hQ,dI⟩:∃hQ,hQ=(bC #[cY .i64 c] 3 (0,0)):=⟨_,rfl⟩
 obtain⟨zB,mf⟩:∃zB,zB=(bC #[cY .i64 r] 3 (0,0)):=⟨_,rfl⟩
 obtain⟨zC,ZY⟩:∃zC,zC=(bC #[cY .u64 eJ] 26 (0,0)):=⟨_,rfl⟩
 rw[<-j7] at h1 h2 h3 a7 ⊢
 rw[<-kv] at h2 h3 a7 ⊢
 rw[<-dI] at h3 a7 ⊢
 rw[<-mf] at a7 ⊢
 rw[<-ZY]
 obtain⟨ub,b9⟩:∃ub,ub=((((u.ins n0 fK).ins b4 eH).ins eb hQ).ins jI zB).ins eZ zC:=⟨_,rfl⟩
 rw[<-b9]
 have jf:=H.b1 (u:=u) (b:=n0) fK h0
 have e3:=H.b1 (b:=b4) eH h1
 have gg:=H.b1 (b:=eb) hQ h2
 have uN:=H.b1 (b:=jI) zB h3
 have nZ:=H.b1 (b:=eZ) zC a7
 rw[<-b9] at nZ
 have lub:u.le ub:=(((jf.trans e3).trans gg).trans uN).trans nZ
 have b6:LY ub n0 b4 eb jI eZ s P c r eJ:=by refine⟨H.le.cell (((e3.trans gg).trans uN).trans nZ) ?_,H.le.cell ((gg.trans uN).trans nZ) ?_,H.le.cell (uN.trans nZ) ?_,H.le.cell nZ ?_,?_⟩;have:=H.bh u n0 fK;rw[j7] at this ⊢;exact H.ba this 0;have:=H.bh (u.ins n0 fK) b4 eH;rw[kv] at this ⊢;exact H.ba this 0;have:=H.bh ((u.ins n0 fK).ins b4 eH) eb hQ;rw[dI] at this ⊢;exact H.ba this 0;have:=H.bh (((u.ins n0 fK).ins b4 eH).ins eb hQ) jI zB;rw[mf] at this ⊢;exact H.ba this 0;have:=H.bh ((((u.ins n0 fK).ins b4 eH).ins eb hQ).ins jI zB) eZ zC;rw[<-b9,ZY] at this;exact H.ba this 0
 clear b9 jf e3 gg uN nZ h0 h1 h2 h3 a7 j7 kv dI mf ZY
 have ab:=h.mono lub
 refine⟨λe=>aW e (by omega),λ_=>bK _ _ ⟨λe=>aW (HR e) (by omega),λ_ aeC o0=>⟨_,b6.c1,λe=>aW e (by omega),λ_=>⟨_,b6.c1,λe=>aW e (by omega),λ_=>⟨_,b6.c2,λe=>aW e (by omega),λ_=>⟨_,b6.c2,λe=>aW e (by omega),λ_=>⟨_,b6.fg,λe=>aW e (by omega),λ_=>⟨_,b6.fg,o0 _ _ ⟨λe=>aW (HR e) (by omega),λ_=>⟨_,b6.c1,by omega,λe=>aW Ot e,λ_=>⟨s,b6.bJ,λe=>aW e (by omega),λ_=>⟨s,b6.bJ,_,b6.c2,λe=>aW e (by omega),λ_=>⟨s,b6.bJ,?_⟩⟩⟩⟩⟩⟩⟩⟩⟩⟩⟩⟩⟩
 refine⟨λ_ _ x w=>w=ub/\0<=x/\x<=s.n,λ_ _ x _=>s.n-x.toNat,⟨rfl,by omega,by omega⟩,?_⟩
 rintro _ _ x w ⟨rfl,bL,dC⟩
 refine⟨λJ=>?_,λ_=>?_⟩
 obtain⟨q,aN,y,ajy,TL,Fe,aAJ⟩:=ab.at bL J
 obtain⟨v1,v2⟩:=aA y TL
 refine⟨q,aN,⟨bL,J⟩,y.1,Fe,spec.iA aAJ ?_⟩
 have uI:gV y.2 d=0:=by rw[<-v1];exact zG v2 (by omega)
 rw[uI]
 exact⟨λe=>aW rfl e,λ_=>⟨⟨by omega,by omega⟩,⟨rfl,by omega,by omega⟩,by dsimp only;omega⟩⟩
 intro m hm
 have qF:=H.b1 (u:=w) (b:=m) (.cells #[.int .i64 d,.slice none 0 0] 191 (0,0)) hm
 refine⟨_,H.le.cell qF b6.c1,λx v=>0<=x/\x<=P/\∃(fY:U) (eK:M (U×M (U×M o))),eK.length=x.toNat/\v m=some (.cells #[.int .i64 d,.slice fY.a fY.n fY.c] 191 (0,0))/\aJ w v 133 1 fY (eK.flatMap λc=>encS c.1)/\fY.aj≠some m/\
  ∀c∈eK,fQ w v c.1 c.2/\wW c.2 n/\dH fY c.1/\(∀y∈c.2,dH fY y.1)/\c.1.aj≠some m/\∀y∈c.2,y.1.aj≠some m,λx _=>P-x.toNat,⟨by omega,by omega,⟨none,0,0⟩,[],rfl,H.bh _ _ _,aJ.nil qF _ _,by simp[U.aj],λc I=>(by cases I)⟩,?_⟩
 rintro x v ⟨bL,dC,fY,eK,eu,fS,aa,fB,YO⟩
 have aBY:fY.n=eK.length:=gW XA (by decide) aa.own.cE
 refine⟨λJ=>?_,λgG=>?_⟩
 refine⟨fY,H.ba fS 1,_,_,_,rfl,hh an8,?_⟩
 refine spec.anQ (b6.mono aa.le) (ab.mono aa.le) Kl (by omega) ⟨gp,atQ⟩ um I hG O bL J λqP l5 cs dD bE=>⟨dD.own.le,?_⟩
 have zp:=dD.own.le
 have at5:=aa.mono zp
 refine dd.QH (Aa azx (aoz qP) (by decide) rfl (by simp[cT]) at5 (by show fY.n<_;omega) (by show(fY.n+1)*_<=_;omega) λEm hb Oh aBK ahC YP _=>?_) λ_ _ bU=>⟨zp.trans bU.1,bU.2⟩
 have IX:hb m=some (.cells #[.int .i64 d,.slice fY.a fY.n fY.c] 191 (0,0)):=ahC m _ (zp _ _ fS) fB
 refine azg IX ⟨⟨by omega,by omega⟩,⟨by omega,by omega,Em,eK++ [(qP,cs)],by rw[ez,eu];simp;omega,H.bh _ _ _,?_,?_,λc cH=>?_⟩,by dsimp only;omega⟩
 have al:Em.aj≠some m:=λe=>by rcases YP m e with aB|aB;exact fB aB;rw[zp _ _ fS] at aB;cases aB
 rw[hz]
 exact aJ.xU Oh hm al _
 intro e
 rcases YP m e with aB|aB
 exact fB aB
 rw[zp _ _ fS] at aB;cases aB
 have af2:∀{t:U},dH fY t->(∀g,t.aj=some g->l5 g≠none)->dH Em t:=λZ hk g W ht=>by rcases YP g W with aB|aB;exact Z g aB ht;exact hk g ht aB
 have key:∀(t:U) (l:M (U×M o)),fQ w l5 t l->wW l n->dH fY t->(∀y∈l,dH fY y.1)->t.aj≠some m->(∀y∈l,y.1.aj≠some m)->
   fQ w (hb.ins m (.cells #[.int .i64 d,.slice Em.a Em.n Em.c] 191 (0,0))) t l/\wW l n/\dH Em t/\(∀y∈l,dH Em y.1)/\t.aj≠some m/\∀y∈l,y.1.aj≠some m:=λt l cM c6 da fk pZ Hs=>
  ⟨j1.Wd (cM.else ahC (λg W=>aa.fresh g W) da fk) hm pZ Hs _,c6,af2 da λg W=>dE cM.own W,λy ah=>af2 (fk y ah) λg W=>dE (cM.inner y ah) W,pZ,Hs⟩
 rcases cN.1 cH with cH|cH
 obtain⟨cM,c6,da,fk,pZ,Hs⟩:=YO c cH
 exact key c.1 c.2 (cM.mono zp) c6 da fk pZ Hs
 rw[fV.1 cH]
 refine key qP cs (dD.weaken aa.le) bE (λg W ht=>?_) (λy ah g W ht=>?_) (λe=>?_) λy ah e=>?_
 exact dE aa W (dD.own.fresh g ht)
 exact dE aa W ((dD.inner y ah).fresh g ht)
 have:=dD.own.fresh m e;rw[fS] at this;cases this
 have:=(dD.inner y ah).fresh m e;rw[fS] at this;cases this
 have avn:x.toNat=P:=by have:¬x<(P:o):=gG;omega
 refine au v ⟨m,fY,eK⟩ ⟨lub.trans aa.le,lub.none hm,fS,aa.weaken lub,λc I=>(YO c I).1.weaken lub⟩ ⟨⟨by show 1<=eK.length;omega,by show eK.length<=8;omega⟩,n,gp,?_,λc I=>(YO c I).2.1⟩
 show((eK.length*n:N):o)=d
 rw[eu,avn,HN,ae]
end
end hd
section
variable{u ai:H}{b:N}{D:N->Prop}{q:M o}{k:o}{f:kM}{l:M az}
def eE.bN:yD eE.ed:=⟨λh Z hu=>h.bN Z hu⟩
def eE.toG{af:N->ay eE.bp}{T:eE.aQ}(h:eE.In ai u af b T):mx eE.ed ai u af b T:=⟨h.aI,h.le,h.out,h.known⟩
def eE.Hi{af:N->ay eE.bp}{T:eE.aQ}(h:mx eE.ed ai u af b T):eE.In ai u af b T:=⟨h.aI,h.le,h.out,h.known⟩
inductive cD where
 |nY (X:kR.aQ)|aZ (X:lS.aQ)|nu (X:j1.aQ)|ae (X:eE.aQ)|cZ (X:hd.aQ)
def cD.c4(ai u:H)(D:N->Prop)(b:N):cD->Prop
 | .nY X=>e1 kR.ed kR.dS ai u D b X| .aZ X=>e1 lS.ed lS.dS ai u D b X| .nu X=>e1 j1.ed j1.dS ai u D b X| .ae X=>e1 eE.ed eE.dS ai u D b X| .cZ X=>e1 hd.ed hd.dS ai u D b X
def cD.rows:cD->M (o×M o)
 | .nY X=>kR.aR X| .aZ X=>lS.aR X| .nu X=>j1.aR X| .ae X=>eE.e5 X.g| .cZ X=>hd.aR X
def cD.an:cD->o
 | .nY X=>X.an| .aZ X=>X.an| .nu X=>X.an| .ae X=>X.an| .cZ X=>X.an
def cD.eV:cD->N
 | .nY X=>X.eV| .aZ X=>X.eV|_=>0
def cD.fw:cD->dJ
 | .nY _=>113| .aZ _=>116| .nu _=>119| .ae _=>122| .cZ X=>if X.cd.isSome then 129 else 128
def cD.iface(X:cD)(b:N):ap:=.iface X.fw (.pointer (some ⟨b,0,none⟩))
def cD.Is(X:hd.aQ):(cD.cZ X).fw=if X.cd.isSome then 129 else 128:=rfl
def cD.Kr{X:hd.aQ}(h:X.cd=none)(b:N):(cD.cZ X).iface b=.iface 128 (.pointer (some ⟨b,0,none⟩)):=by unfold cD.iface;rw[cD.Is,h];rfl
def cD.Kq{X:hd.aQ}{c:hd.pz}(h:X.cd=some c)(b:N):(cD.cZ X).iface b=.iface 129 (.pointer (some ⟨b,0,none⟩)):=by unfold cD.iface;rw[cD.Is,h];rfl
def cD.base{X:cD}(h:X.c4 ai u D b):ai.le u/\(∀c,D c->ai c=none)/\∀c,D c->u c≠none:=by cases X<;>exact e1.base h
def cD.same{u':H}{X:cD}(h:X.c4 ai u D b)(hu:∀c z,u c=some z->D c->u' c=some z)(hle:ai.le u'):X.c4 ai u' D b:=by cases X;exact e1.same kR.bN h hu hle;exact e1.same lS.bN h hu hle;exact e1.same j1.bN h hu hle;exact e1.same eE.bN h hu hle;exact e1.same hd.bN h hu hle
def cD.mono{u':H}{X:cD}(h:X.c4 ai u D b)(hu:u.le u'):X.c4 ai u' D b:=cD.same h (λc z I _=>hu c z I) ((cD.base h).1.trans hu)
def cD.l3{v:H}{X:cD}(h:X.c4 ai u D b)(aA:v.le ai):X.c4 v u D b:=by cases X<;>exact e1.l3 h aA
def awx{t e:dJ}{name:String}(hm:n4 aH t name f ak=ak)(hu:aH.underlying t=some (.pointer e))(p:ay bc)(w:b7):(method (aH.types.size+uW) t (.pointer p) name).run aH w=.ok (f,.pointer p) w:=by obtain⟨i,m,h1,h2,h3,a7⟩:=BK hm;obtain⟨dT,dA⟩:=AO;rw[dA];exact Lw h1 h2 h3 a7 hu
def Q0:aH.underlying 113=some (.pointer 169):=by kernel_rfl
def Q2:aH.underlying 116=some (.pointer 174):=by kernel_rfl
def QZ:aH.underlying 119=some (.pointer 178):=by kernel_rfl
def QY:aH.underlying 122=some (.pointer 184):=by kernel_rfl
def Q1:aH.underlying 128=some (.pointer 127):=by kernel_rfl
def amP:aH.underlying 129=some (.pointer 132):=by kernel_rfl
def lg{t e:dJ}{name:String}{args:cw ap}{ss:M bg}{K:hc (gF ss) (H->Prop)}(hm:n4 aH t name f ak=ak)(hu:aH.underlying t=some (.pointer e))(ab:hn aH f=ak)
  (h:io aH f (#[.pointer (some ⟨b,0,none⟩)]++args) ss u K):mX aH (.iface t (.pointer (some ⟨b,0,none⟩))) name args ss u K:=
 ⟨_,_,f,_,rfl,λw _=>awx hm hu _ w,hh ab,h⟩
def W9{name:String}{args:cw ap}{ss:M bg}{K:hc (gF ss) (H->Prop)}(hm:∀w,(method (aH.types.size+uW) 129 (.pointer (some ⟨b,0,none⟩)) name).run aH w=.ok (f,.pointer (some ⟨b,0,none⟩)) w)(ab:hn aH f=ak)
  (h:io aH f (#[.pointer (some ⟨b,0,none⟩)]++args) ss u K):mX aH (.iface 129 (.pointer (some ⟨b,0,none⟩))) name args ss u K:=
 ⟨_,_,f,_,rfl,λw _=>hm w,hh ab,h⟩
def cD.spec.An{X:cD}{K:o->H->Prop}(h:X.c4 ai u D b)(au:K X.rows.length u):mX aH (X.iface b) "Len" #[] [.one (.int .i64)] u K:=by
 cases X with
 |nY X=>obtain⟨af,h1,h2,h3⟩:=e1.ex h;exact lg (f:=252) (by kernel_rfl) Q0 (by kernel_rfl) (kR.spec.An h2 au)
 |aZ X=>obtain⟨af,h1,h2,h3⟩:=e1.ex h;exact lg (f:=272) (by kernel_rfl) Q2 (by kernel_rfl) (lS.spec.An h2 au)
 |nu X=>obtain⟨af,h1,h2,h3⟩:=e1.ex h;exact lg (f:=280) (by kernel_rfl) QZ (by kernel_rfl) (j1.spec.An h2 h3 au)
 |ae X=>obtain⟨af,h1,h2,h3⟩:=e1.ex h;refine lg (f:=288) (by kernel_rfl) QY (by kernel_rfl) (eE.spec.Dw h2.aI ?_);rw[show(cD.ae X).rows.length=X.g.length by simp[cD.rows,eE.e5]] at au;exact au
 |cZ X=>
  obtain⟨af,h1,h2,h3⟩:=e1.ex h;have:=hd.spec.An h2 au;cases e:X.cd with
  |some c=>rw[cD.Kq e];exact W9 (f:=306) (λw=>by kernel_rfl) (by kernel_rfl) this|none=>rw[cD.Kr e];exact lg (f:=306) (by kernel_rfl) Q1 (by kernel_rfl) this
def cD.spec.Rows{X:cD}{K:U->H->Prop}(h:X.c4 ai u D b)(au:∀s ls u',rU u u' s ls->(ls.map az.bz).Perm X.rows->(ls.Pairwise λa b=>a.id<=b.id)->K s u'):mX aH (X.iface b) "Rows" #[] [.one .slice] u K:=by
 cases X with
 |nY X=>obtain⟨af,h1,h2,h3⟩:=e1.ex h;exact lg (f:=254) (by kernel_rfl) Q0 (by kernel_rfl) (kR.spec.Rows h2 h3 au)
 |aZ X=>obtain⟨af,h1,h2,h3⟩:=e1.ex h;exact lg (f:=274) (by kernel_rfl) Q2 (by kernel_rfl) (lS.spec.Rows h2 h3 au)
 |nu X=>obtain⟨af,h1,h2,h3⟩:=e1.ex h;exact lg (f:=282) (by kernel_rfl) QZ (by kernel_rfl) (j1.spec.Rows h2 h3 au)
 |ae X=>obtain⟨af,h1,h2,h3⟩:=e1.ex h;exact lg (f:=290) (by kernel_rfl) QY (by kernel_rfl) (eE.spec.Dx (eE.Hi h2) h3 au)
 |cZ X=>
  obtain⟨af,h1,h2,h3⟩:=e1.ex h;have:=hd.spec.Rows h2 h3 au;cases e:X.cd with
  |some c=>rw[cD.Kq e];exact W9 (f:=308) (λw=>by kernel_rfl) (by kernel_rfl) this|none=>rw[cD.Kr e];exact lg (f:=308) (by kernel_rfl) Q1 (by kernel_rfl) this
def wF(a b c:U)(rest:M az):M cn:=if rest=[] then[] else[⟨2,a,b,0,c,mD rest,mC rest,dQ (rest.map (·.id))⟩]
def Wu.own{aD ss sr:U}{gI:M bO}{seen:M o}{rest:M az}(h:Wu ai u aD ss sr gI seen rest):∃a b c:U,jQ ai u aD ss sr gI seen (wF a b c rest):=by
 rcases h.r with⟨he,rfl⟩|⟨al,_,a,b,c,h1,h2,h3,a7,b4,eb,jI,f1,f2⟩;refine⟨⟨none,0,0⟩,⟨none,0,0⟩,⟨none,0,0⟩,?_⟩;rw[wF,a1 he];refine⟨h.h,h.s,aJ.nil h.h.le _ _,λr O=>(by cases O),?_⟩;simp only[q4,HM];refine k6.2 ⟨λt ht=>?_,k6.2 ⟨λt ht=>?_,P5 _ _⟩⟩;rcases cJ.1 ht with rfl|ht;exact h.ag;obtain rfl:t=_:=by simpa using ht
 intro g _ W;simp[U.aj] at W;obtain rfl:t=_:=by simpa using ht
 intro g _ W;simp[U.aj] at W;refine⟨a,b,c,?_⟩;rw[wF,aF al];have e:([⟨2,a,b,0,c,mD rest,mC rest,dQ (rest.map (·.id))⟩]:M cn).flatMap tZ=[.int .i64 2,.slice a.a a.n a.c,.slice b.a b.n b.c,.int .u64 0,.int .u64 0,.slice c.a c.n c.c]:=by simp[tZ,Zk,abV]
 refine⟨h.h,h.s,by rw[e];exact h1,λr O=>?_,?_⟩;obtain rfl:r=_:=by simpa using O
 exact⟨h2,h3,a7⟩;have XD:∀x∈[a,b,c],dH aD x/\dH ss x/\dH sr x:=λx J=>⟨λg rb vA=>(f1 x J g vA).1 rb,λg rb vA=>(f1 x J g vA).2.1 rb,λg rb vA=>(f1 x J g vA).2.2 rb⟩;have ne:∀{x y:U},x.aj≠y.aj->dH x y:=λae g J ah=>ae (by rw[J,ah]);simp only[q4,gy,HM,ly,cn.jw];refine k6.2 ⟨λt ht=>?_,k6.2 ⟨λt ht=>?_,k6.2 ⟨λt ht=>(XD t ht).2.2,k6.2 ⟨λt ht=>?_,k6.2 ⟨λt ht=>?_,P5 _ _⟩⟩⟩⟩⟩;rcases cJ.1 ht with rfl|ht;exact h.ag;rcases cJ.1 ht with rfl|ht;exact λg W gQ=>(f2 g gQ).1 W;exact(XD t ht).1;rcases cJ.1 ht with rfl|ht;exact λg W gQ=>(f2 g gQ).2 W;exact(XD t ht).2.1;rcases cJ.1 ht with rfl|ht;exact ne b4;obtain rfl:t=c:=by simpa using ht
 exact ne eb;obtain rfl:t=c:=by simpa using ht
 exact ne jI
def aqr{b:o}(aN:kk l q)(ac a2 a3:U):Sound l q k (eT k.toNat ((l.take b.toNat).map (hp q))) (dQ ((l.take b.toNat).map (·.id))) (wF ac a2 a3 (l.drop b.toNat)):=by
 have bS:=aN.rows.nodup;have e:l.map (·.id)=(l.take b.toNat).map (·.id)++(l.drop b.toNat).map (·.id):=by rw[<-ek,u2]
 have xE:=bS;rw[e] at xE;obtain⟨b4,eb,_⟩:=gh.1 xE;refine⟨Eu b4,λr O=>?_,?_,λm hm N2=>?_⟩;unfold wF at O;split at O;cases O;rename_i al;obtain rfl:r=⟨2,ac,a2,0,a3,mD (l.drop b.toNat),mC (l.drop b.toNat),dQ ((l.drop b.toNat).map (·.id))⟩:=fV.1 O;have bE:hD (l.drop b.toNat) (q.length:o):=aN.rows.sub (HI _ _);obtain⟨hE,fM,w4,CR,IT,CS⟩:=afa bE al;refine⟨⟨bE.an,Eu eb,λx J=>?_,.inr (.inl ⟨rfl,rfl,w4,CR,hE,fM,IT⟩)⟩,λh=>?_,λx J=>?_⟩;obtain⟨r,O,rfl⟩:=bf.1 ((nE _).mem_iff.1 J);exact bE.id r O;have:=ei iS h;rw[Ab,de] at this;exact al (kN this);obtain⟨r,O,rfl⟩:=bf.1 ((nE _).mem_iff.1 J);refine⟨r,ye O,rfl,λ_ i hi=>CS r O i ?_,λh=>by cases h⟩;have:=(bE.v r O).1;omega;rw[e];refine List.Perm.append (nE _) ?_;unfold wF;split;rename_i h0;rw[h0];exact .refl _;simpa using nE _;have ad:m.Perm (l.take b.toNat):=alo bS hm (λr O=>oa O) (by rw[N2];exact nE _);exact(Ad (ad.map (hp q))).symm
def al8{b:o}:Ac l q k b=0↔kk l q/\1<=k/\k<=64/\0<=b/\b<=1000000:=by unfold Ac;constructor;intro h;split at h;rename_i al;exact aW h al;rename_i he;split at h;cases h;exact⟨CP.1 (by simpa using he),by omega,by omega,by omega,by omega⟩;rintro⟨h1,h2⟩;rw[aF (by simp[CP.2 h1]),aF (by omega)]
def spec.anM{s t:U}{b:o}{K:U->U->U->o->H->Prop}(ag:en u s l)(ht:Ints u t q)
  (di:Ac l q k b≠0->K ⟨none,0,0⟩ ⟨none,0,0⟩ ⟨none,0,0⟩ (Ac l q k b) u)
  (bE:Ac l q k b=0->∀aD ss sr ac a2 a3 u',jQ u u' aD ss sr (eT k.toNat ((l.take b.toNat).map (hp q))) (dQ ((l.take b.toNat).map (·.id))) (wF ac a2 a3 (l.drop b.toNat))->K aD ss sr 0 u'):
  C.C8 s t k b u K:=
 spec.C8 ag ht di λh1 h2 h3 a7 bK aD ss sr u' _ aE=>by obtain⟨ac,a2,a3,aa⟩:=aE.own;exact bE (al8.2 ⟨h1,h2,h3,a7,bK⟩) aD ss sr ac a2 a3 u' aa
def EI.nil(u:H):EI u ⟨none,0,0⟩ ⟨none,0,0⟩ ⟨none,0,0⟩ [] [] []:=
 ⟨(aJ.nil (H.le.refl u) 0 3).own.cE,Ints.nil u,(aJ.nil (H.le.refl u) 0 6).own.cE,λr O=>by cases O⟩
def al5{P:M (o×M o)}{L:M az}{S R:M o}{bud:o}{iM:o->bO}{rest:M cn}(bS:(P.map (·.1)).Nodup)(cX:(L.map az.bz).Perm P)(aN:kk L q)(gd:0<=bud)(ad:(S++R).Perm (P.map (·.1)))(ar:S.length<=bud.toNat)
  (Z:R≠[]->S.length=bud.toNat) (vU:IJ R) (atc:∀r∈L,iM r.id=hp q r) (O:rest.map cn.core=if R=[] then[] else[(1,0,[],[],R)]):
  Sound L q k (eT k.toNat (S.map iM)) (dQ S) rest/\((dQ S).length:o)<=bud/\(((dQ S).length:o)=bud∨(dQ S).length=L.length):=by
 have kt:(P.map (·.1)).Perm (L.map (·.id)):=by rw[show L.map (·.id)=(L.map az.bz).map (·.1) by rw[ep];rfl];exact(cX.map _).symm
 have arL:S.Nodup:=(gh.1 (ad.nodup_iff.2 bS)).1
 have tc:rest.flatMap (·.ids)=R/\∀r∈rest,r.core=(1,0,[],[],R)/\R≠[]:=by
  by_cases e:R=[];rw[a1 e] at O;have:rest=[]:=by simpa using O
  rw[this,e];exact⟨rfl,λr O=>by cases O⟩;rw[aF e] at O;cases rest with
  |nil=>simp at O|cons r rs=>
   cases rs with
   |cons p8 aCt=>simp at O|nil=>simp only[gm,zT,uZ,rP] at O;refine⟨?_,λdf dG=>?_⟩;have:r.ids=R:=ei (λY=>Y.2.2.2.2) O;simp[this];simp at dG;rw[dG];exact⟨O,e⟩
 refine⟨⟨Eu arL,λr dG=>?_,?_,λm hm N3=>?_⟩,?_,?_⟩
 obtain⟨I,al⟩:=tc.2 r dG
 have c1:r.aD=1:=ei (λY=>Y.1) I
 have c2:r.cG=0:=ei (λY=>Y.2.1) I
 have fg:r.bH=[]:=ei (λY=>Y.2.2.1) I
 have oX:r.hi=[]:=ei (λY=>Y.2.2.2.1) I
 have rZ:r.ids=R:=ei (λY=>Y.2.2.2.2) I
 have b6:∀x∈R,x∈L.map (·.id):=λx J=>kt.mem_iff.1 (ad.mem_iff.1 (lz _ J))
 refine⟨⟨aN.rows.an,by rw[rZ];exact vU,λx J=>?_,.inl ⟨c1,fg,oX,c2⟩⟩,by rw[rZ];exact al,λx J=>?_⟩
 rw[rZ] at J
 obtain⟨w,hw,rfl⟩:=bf.1 (b6 x J)
 exact aN.rows.id w hw
 rw[rZ] at J
 obtain⟨w,hw,rfl⟩:=bf.1 (b6 x J)
 exact⟨w,hw,rfl,λh=>(by rw[c1] at h;cases h),λh=>(by rw[c1] at h;cases h)⟩
 rw[tc.1]
 exact(((nE S).append_right R).trans ad).trans kt
 refine Ad ?_
 have bK:(m.map (·.id)).Perm S:=by rw[N3];exact nE S
 have fs:m.map (hp q)=(m.map (·.id)).map iM:=by rw[ep];exact zU λr hq=>(atc r (hm r hq)).symm
 rw[fs]
 exact(bK.map _).symm
 rw[Ab];omega
 rw[Ab]
 by_cases e:R=[]
 right
 rw[e,ly] at ad
 have:=(ad.trans kt).length_eq
 simpa using this
 left
 have:=Z e
 omega
end
namespace eE
section
variable{u ai u':H}{D:N->Prop}{b:N}{q:M o}{t:U}{K:aK->o->H->Prop}{k bud:o}{L:M az}
def aR(X:aQ):M tO:=e5 X.g
structure c4(ai u:H)(D:N->Prop)(b:N)(X:aQ):Prop where
 ex:∃af,(∀c,D c↔af c≠none)/\In ai u af b X/\dS X
structure gD(u:H)(D:N->Prop)(u':H)(dZ:N->Prop):Prop where
 bN:∀c z,u c=some z->¬D c->u' c=some z
 grow:∀c,dZ c->D c∨u c=none
def gD.mono(h:u.le u'):gD u D u' D:=⟨λc z I _=>h c z I,λ_ h=>.inl h⟩
def gD.trans{aU dc:H}{qj jl:N->Prop}(h:gD u D aU qj)(k:gD aU qj dc jl):gD u D dc jl where
 bN c z I Z:=k.bN c z (h.bN c z I Z) λaw=>by rcases h.grow c aw with h1|h1;exact Z h1;rw[I] at h1;cases h1
 grow c I:=by
  rcases k.grow c I with h1|h1;exact h.grow c h1;by_cases e:D c;exact .inl e;right;cases aB:u c with
  |none=>rfl|some z=>rw[h.bN c z aB e] at h1;cases h1
def gD.apart{v:H}{dZ:N->Prop}(h:gD u D u' dZ)(aA:v.le u)(aw:∀c,D c->v c=none):v.le u'/\∀c,dZ c->v c=none:=by refine⟨λc z I=>h.bN c z (aA c z I) λe=>?_,λc I=>?_⟩;have:=aw c e;rw[I] at this;cases this;rcases h.grow c I with h1|h1;exact aw c h1;exact aA.none h1
def TW{af:N->ay bp}{T:aQ}(h:In ai u af b T)(aT:dS T):c4 ai u (λc=>af c≠none) b T:=⟨af,λ_=>BS,h,aT⟩
def ad0{af aX:N->ay bp}(eN:∀c,D c↔af c≠none)(h:gA u af u' aX):gD u D u' (λc=>aX c≠none) where
 bN c z I Z:=h.bN c z I (by
  cases e:af c with
  |none=>rfl|some t=>exact aW ((eN c).2 (by rw[e];simp)) Z)
 grow c I:=(h.grow c I).imp (eN c).2 λh=>h
def c4.base{X:aQ}(h:c4 ai u D b X):ai.le u/\(∀c,D c->ai c=none)/\∀c,D c->u c≠none:=by obtain⟨af,h1,h2,_⟩:=h.ex;exact⟨h2.le,λc I=>h2.out c ((h1 c).1 I),λc I=>h2.known c ((h1 c).1 I)⟩
def c4.same{X:aQ}(h:c4 ai u D b X)(hu:∀c z,u c=some z->D c->u' c=some z)(hle:ai.le u'):c4 ai u' D b X:=by obtain⟨af,h1,h2,h3⟩:=h.ex;exact⟨af,h1,h2.same (λc z I Z=>hu c z I ((h1 c).2 Z)) hle,h3⟩
def c4.mono{X:aQ}(h:c4 ai u D b X)(hu:u.le u'):c4 ai u' D b X:=h.same (λc z I _=>hu c z I) (h.base.1.trans hu)
def c4.Vj{X:aQ}(h:c4 ai u D b X):((aR X).map (·.1)).Nodup:=by obtain⟨af,_,h2,_⟩:=h.ex;unfold aR;rw[ty];exact h2.aI.nodup
def spec.DP{X:aQ}{K:o->H->Prop}(h:c4 ai u D b X)(au:K (aR X).length u):C.Dw (some ⟨b,0,none⟩) u K:=by
 obtain⟨af,_,h2,_⟩:=h.ex;refine spec.Dw h2.aI ?_;have:(aR X).length=X.g.length:=by simp[aR,e5]
 rw[<-this];exact au
def BC(X:aQ)(id:o):(id∈X.g.map (·.1))↔id∈(aR X).map (·.1):=by unfold aR;rw[ty]
def spec.abm{X:aQ}{id:o}(h:c4 ai u D b X)(e2:jB ai)(ht:Ints u t q)(fi:∀g,t.aj=some g->¬D g)
  (di:fu id q X.an (decide (id∈(aR X).map (·.1))) (aR X).length≠0->K ax (fu id q X.an (decide (id∈(aR X).map (·.1))) (aR X).length) u)
  (bE:fu id q X.an (decide (id∈(aR X).map (·.1))) (aR X).length=0->∀u' dZ cC,c4 ai u' dZ b cC->gD u D u' dZ->(aR cC).Perm ((id,q)::(aR X).filter λx=>x.1 !=id)->cC.an=X.an->cC.bY=X.bY->K (decide (id∉(aR X).map (·.1))) 0 u'):
  C.xH (some ⟨b,0,none⟩) id t u K:=by
 obtain⟨af,h1,h2,h3⟩:=h.ex
 have ar:(aR X).length=X.g.length:=by simp[aR,e5]
 have aw:decide (id∈X.g.map (·.1))=decide (id∈(aR X).map (·.1)):=B8.2 (BC X id)
 have vF:decide (id∉X.g.map (·.1))=decide (id∉(aR X).map (·.1)):=B8.2 (not_congr (BC X id))
 refine spec.xH h2 h3 e2 ht (λg W=>?_) (λal=>?_) λhe u' aX bt O=>?_
 cases e:af g with
 |none=>rfl
 |some x=>exact aW ((h1 g).2 (by rw[e];simp)) (fi g W)
 rw[aw,<-ar] at al ⊢;exact di al
 rw[aw,<-ar] at he
 rw[vF]
 exact bE he u' _ bt (TW O.is O.ok) (ad0 h1 O.eP) O.rows O.an O.bY
def spec.O7{X:aQ}{id:o}(h:c4 ai u D b X)(dV:id∉(aR X).map (·.1)->∀u',u.le u'->K ax 0 u')
  (kz:id∈(aR X).map (·.1)->∀u' dZ cC,c4 ai u' dZ b cC->gD u D u' dZ->aR cC=(aR X).filter (λx=>x.1 !=id)->cC.an=X.an->cC.bY=X.bY->K ak 0 u'):C.xG (some ⟨b,0,none⟩) id u K:=by
 obtain⟨af,h1,h2,h3⟩:=h.ex
 refine spec.xG h2 h3 (λae=>dV λhm=>AQ.1 ae ((BC X id).2 hm)) λn ae u' aX bt O=>kz ((BC X id).1 (bf.2 ⟨_,iq ae,rfl⟩)) u' _ bt (TW O.is O.ok) (ad0 h1 O.eP) O.rows O.an O.bY
def spec.O9{X:aQ}{K:U->H->Prop}(h:c4 ai u D b X)(au:∀s ls u',rU u u' s ls->(ls.map az.bz).Perm (aR X)->(ls.Pairwise λa b=>a.id<=b.id)->K s u'):C.Dx (some ⟨b,0,none⟩) u K:=by obtain⟨af,_,h2,h3⟩:=h.ex;exact spec.Dx h2 h3 au
def spec.zj{s:U}{l:M az}{an bY eJ:o}{K:ay bc->o->H->Prop}(ag:en u s l)(e2:jB u)(OG:dh eJ)
  (di:w5 l an bY≠0->K none (w5 l an bY) u) (bE:w5 l an bY=0->∀b D X u',c4 u u' D b X->(aR X).Perm (l.map az.bz)->X.an=an->X.bY=bY->K (some ⟨b,0,none⟩) 0 u'):C.Bd s an bY eJ u K:=
 spec.Bd ag e2 OG di λhe b _ T u' O=>bE he b _ T u' (TW O.is O.ok) O.rows O.an O.bY
def il(X:aQ)(q:M o)(k bud:o):M bO:=eT k.toNat ((pv X.g q X.entry bud.toNat).1.map (cS X.g q))
def fU(X:aQ)(q:M o)(bud:o):M o:=dQ (pv X.g q X.entry bud.toNat).1
def jF(X:aQ)(q:M o)(bud:o):M (o×o×M o×M o×M o):=if(pv X.g q X.entry bud.toNat).2=[] then[] else[(1,0,[],[],(pv X.g q X.entry bud.toNat).2)]
def alh(jY:U)(X:aQ)(q:M o)(bud:o):(Qo jY (pv X.g q X.entry bud.toNat).2).map cn.core=jF X q bud:=by unfold Qo jF;split<;>rfl
def spec.GU{X:aQ}{K:U->U->U->o->H->Prop}(h:c4 ai u D b X)(ht:Ints u t q)
  (di:gE q X.an k bud≠0->∀u',u.le u'->K ⟨none,0,0⟩ ⟨none,0,0⟩ ⟨none,0,0⟩ (gE q X.an k bud) u')
  (bE:gE q X.an k bud=0->∀aD ss sr rest u',jQ u u' aD ss sr (il X q k bud) (fU X q bud) rest->rest.map cn.core=jF X q bud->K aD ss sr 0 u'):C.Dy (some ⟨b,0,none⟩) t k bud u K:=by
 obtain⟨af,_,h2,h3⟩:=h.ex
 exact spec.Dy h2 h3 ht di λhe aD ss sr jY u' aE=>bE he aD ss sr _ u' aE (alh jY X q bud)
def ajP{X:aQ}(h:c4 ai u D b X)(he:gE q X.an k bud=0)(cX:(L.map az.bz).Perm (aR X))(aN:kk L q){rest:M cn}(O:rest.map cn.core=jF X q bud):
  Sound L q k (il X q k bud) (fU X q bud) rest/\((fU X q bud).length:o)<=bud/\(((fU X q bud).length:o)=bud∨(fU X q bud).length=L.length):=by
 obtain⟨af,_,h2,h3⟩:=h.ex
 obtain⟨aA,b3,cu,gd,hE⟩:=w3.1 he
 have bS:=h2.aI.nodup
 obtain⟨ad,ar,Z,vU⟩:=al9 h3 bS q bud.toNat
 rw[<-ty] at ad
 refine al5 (by rw[show aR X=e5 X.g from rfl,ty];exact bS) cX aN gd ad ar Z vU (λr aam=>?_) O
 have bK:r.bz∈aR X:=cX.mem_iff.1 (bf.2 ⟨r,aam,rfl⟩)
 obtain⟨x,J,e⟩:=bf.1 bK
 have aS:x.1=r.id:=ei sq e
 have aB:x.2.v=r.v:=ei tv e
 have fs:eL X.g r.id=some x.2:=AP bS (by rw[<-aS];exact J)
 unfold cS hp
 rw[fs]
 simp only[aB]
def abn{X:aQ}(h:c4 ai u D b X)(he:gE q X.an k bud=0)(cX:(L.map az.bz).Perm (aR X))(aN:kk L q){rest:M cn}(O:rest.map cn.core=jF X q bud):
  Sound L q k (il X q k bud) (fU X q bud) rest/\((fU X q bud).length:o)<=bud/\(((fU X q bud).length:o)=bud∨(fU X q bud).length=L.length∨Aj q k (il X q k bud) rest):=by
 obtain⟨s1,s2,k8⟩:=ajP h he cX aN O
 exact⟨s1,s2,k8.imp id .inl⟩
def c4.l3{v:H}{X:aQ}(h:c4 ai u D b X)(aA:v.le ai):c4 v u D b X:=by
 obtain⟨af,h1,h2,h3⟩:=h.ex;exact⟨af,h1,⟨h2.aI,aA.trans h2.le,λc I=>by
  cases J:v c with
  |none=>rfl|some z=>have:=aA _ _ J;rw[h2.out c I] at this;exact(nomatch this),h2.known⟩,h3⟩
def spec.aiC{af:N->ay bp}{T:aQ}{id:o}(h:In ai u af b T)(aT:dS T)(e2:jB ai)(Bn:Ints ai t q)
  (di:fu id q T.an (decide (id∈T.g.map (·.1))) T.g.length≠0->K ax (fu id q T.an (decide (id∈T.g.map (·.1))) T.g.length) u)
  (bE:fu id q T.an (decide (id∈T.g.map (·.1))) T.g.length=0->∀u' aX bt,tP ai u af b T id q u' aX bt->K (decide (id∉T.g.map (·.1))) 0 u'):C.xH (some ⟨b,0,none⟩) id t u K:=by
 have ht:=Bn.mono h.le
 obtain⟨bJ,_,_,fg,_⟩:=kP h.aI
 apply aG.xH
 refine⟨λe=>(by cases e),λ_=>⟨_,rfl,_,fg,?_⟩⟩
 refine tB we h.aI.map (ct:=.ptr) ((eL T.g id).map λn=>(⟨n.p,0,none⟩:bc)) (by rw[C9];cases eL T.g id<;>rfl) ?_
 have iE:(fR (jt T.g) id).isSome=decide (id∈T.g.map (·.1)):=by
  rw[C9,U5];cases e:eL T.g id with
  |none=>rw[p7 (AQ.1 e)];rfl|some n=>rw[mm (bf.2 ⟨_,iq e,rfl⟩)];rfl
 rw[iE]
 refine⟨_,rfl,_,rfl,_,bJ,_,fg,wJ we h.aI.map ⟨H.le.refl u,spec.q9 ht ?_⟩⟩
 rw[PT]
 refine⟨λal=>di al,λhe=>?_⟩
 have bE:=bE he
 have kt:¬(id<1∨1000000000<id)/\gV q T.an=0/\¬(decide (id∈T.g.map (·.1))=ax/\512<=(T.g.length:o)):=by unfold fu at he;by_cases h1:id<1∨1000000000<id;rw[a1 h1] at he;cases he;rw[aF h1] at he;by_cases h2:gV q T.an≠0;rw[a1 h2] at he;exact aW he h2;rw[aF h2] at he;by_cases h3:decide (id∈T.g.map (·.1))=ax/\512<=(T.g.length:o);rw[a1 h3] at he;cases he;exact⟨h1,by simpa using h2,h3⟩
 obtain⟨d1,d2,d3,d4⟩:=oh kt.2.1
 have lay:∀(aU:H) (c5:N->ay bp) (bb:aQ),In ai aU c5 b bb->gA u af aU c5->dS bb->e5 bb.g=(e5 T.g).filter (λx=>x.1 !=id)->bb.an=T.an->bb.bY=T.bY->
   C.iH t aU λdt gN=>H.le aU gN/\C.vP (some ⟨b,0,none⟩) id dt gN λyt=>K (!decide (decide (id∈T.g.map (·.1))=ak)) 0 yt:=by
  intro aU c5 bb h1 ns sT vT nm gn
  have rh:Ints aU t q:=Bn.mono h1.le
  refine spec.iH rh (by have:=rh.len;omega) λdt gN fJ _=>⟨fJ.le,?_⟩
  have xf:=h1.mono fJ.le
  obtain⟨ib,h2,xP,j6⟩:=xf.adU (s:=dt) (λg W=>⟨h1.fresh (fJ.fresh g W),h1.le.none (fJ.fresh g W),uS fJ W⟩) id
  have Bb:id∉bb.g.map (·.1):=λhm=>by rw[<-ty,vT] at hm;obtain⟨x,J,e⟩:=bf.1 hm;have:=(iT.1 J).2;simp[e] at this
  have hlen:bb.g.length<=512:=by
   have aS:bb.g.length=((e5 T.g).filter λx=>x.1 !=id).length:=by rw[<-vT];simp[e5]
   by_cases b6:id∈T.g.map (·.1);have:((e5 T.g).filter λx=>x.1 !=id).length<(e5 T.g).length:=by rw[Lr];rw[<-ty] at b6;obtain⟨x,J,e⟩:=bf.1 b6;exact⟨x,J,by simp[e]⟩
   have bK:(e5 T.g).length=T.g.length:=by simp[e5]
   have:=aT.k.ok.small;omega;have a7:¬512<=(T.g.length:o):=λbK=>kt.2.2 ⟨p7 b6,bK⟩;have bK:(e5 T.g).length=T.g.length:=by simp[e5]
   have:=wB (λx:o×M o=>x.1 !=id) (e5 T.g);omega
  refine spec.vP h2 sT e2 Bb (by omega) fJ.ints xP ⟨by rw[nm];exact d3,d4⟩ hlen λyt oZ ET h3 nt Yv Bl Dj A4=>?_
  have ab:(!decide (decide (id∈T.g.map (·.1))=ak))=decide (id∉T.g.map (·.1)):=by by_cases b6:id∈T.g.map (·.1)<;>simp[b6]
  rw[ab]
  refine bE yt oZ ET ⟨h3,?_,Yv,?_,Dj.trans nm,A4.trans gn⟩
  have gone:∀c,aU c=none->af c≠none∨u c=none:=λc I=>by
    cases e:af c with
    |some x=>exact .inl (by simp)|none=>
     cases aB:u c with
     |none=>exact .inr rfl|some z=>rw[ns.bN c z aB e] at I;cases I
  refine⟨λc z I Z=>?_,λc I=>?_⟩
  have bK:=ns.bN c z I Z
  have e:dt.aj≠some c:=λe=>by have:=fJ.fresh c e;rw[bK] at this;cases this
  exact nt.bN c z (fJ.le c z bK) (by rw[j6 c e];exact ns.none I Z)
  rcases nt.grow c I with bK|bK
  by_cases e:dt.aj=some c
  exact gone c (fJ.fresh c e)
  rw[j6 c e] at bK;exact ns.grow c bK
  exact gone c (fJ.le.none bK)
  rw[Bl,vT]
  exact mR _ _
 refine spec.xG h aT (λdV aU hr=>?_) λn ae aU c5 bb iN=>?_
 refine lay aU af T (h.mono hr) (gA.mono hr) aT ?_ rfl rfl
 refine(p6.2 λx J=>?_).symm
 have:x.1≠id:=λe=>AQ.1 dV (by rw[<-ty];exact bf.2 ⟨x,J,e⟩)
 simpa using this
 exact lay aU c5 bb iN.is iN.eP iN.ok iN.rows iN.an iN.bY
def spec.O8{X:aQ}{id:o}(h:c4 ai u D b X)(e2:jB ai)(ht:Ints ai t q)
  (di:fu id q X.an (decide (id∈(aR X).map (·.1))) (aR X).length≠0->K ax (fu id q X.an (decide (id∈(aR X).map (·.1))) (aR X).length) u)
  (bE:fu id q X.an (decide (id∈(aR X).map (·.1))) (aR X).length=0->∀u' dZ cC,c4 ai u' dZ b cC->gD u D u' dZ->(aR cC).Perm ((id,q)::(aR X).filter λx=>x.1 !=id)->cC.an=X.an->cC.bY=X.bY->K (decide (id∉(aR X).map (·.1))) 0 u'):
  C.xH (some ⟨b,0,none⟩) id t u K:=by
 obtain⟨af,h1,h2,h3⟩:=h.ex
 have ar:(aR X).length=X.g.length:=by simp[aR,e5]
 have aw:decide (id∈X.g.map (·.1))=decide (id∈(aR X).map (·.1)):=B8.2 (BC X id)
 have vF:decide (id∉X.g.map (·.1))=decide (id∉(aR X).map (·.1)):=B8.2 (not_congr (BC X id))
 refine spec.aiC h2 h3 e2 ht (λal=>?_) λhe u' aX bt O=>?_
 rw[aw,<-ar] at al ⊢;exact di al
 rw[aw,<-ar] at he
 rw[vF]
 exact bE he u' _ bt (TW O.is O.ok) (ad0 h1 O.eP) O.rows O.an O.bY
def TX{X:aQ}(h:c4 ai u D b X)(Z:(aR X).length<=512)(ad:(L.map az.bz).Perm (aR X)):hD L X.an:=by obtain⟨af,_,h2,h3⟩:=h.ex;have ae:=ad.length_eq;rw[de] at ae;refine Ek h3.k.ok.hl (by omega) ?_ λp kx=>?_;rw[oE,(ad.map (·.1)).nodup_iff];exact h.Vj;obtain⟨x,J,rfl⟩:=bf.1 (ad.mem_iff.1 kx);exact⟨(h3.k.ok.ids x J).1,(h3.k.ok.ids x J).2,h3.k.ok.vec x J⟩
end
end eE
section
variable{u ai:H}{D:N->Prop}
def We{bp:Type}{af:N->ay bp}{t:U}{q:M o}(eN:∀c,D c↔af c≠none)(ht:Ints u t q)(fi:(∀g,t.aj=some g->¬D g)∨Ints ai t q)(aU:H)(c5:N->ay bp)(hle:ai.le aU)(hk:hN u af aU c5):Ints aU t q:=by
 rcases fi with fi|Bn;exact br.else ht λg z W aa=>hk.bN g z aa (by
   cases e:af g with
   |none=>rfl|some x=>exact aW ((eN g).2 (by rw[e];simp)) (fi g W))
 exact Bn.mono hle
def eE.amB{u':H}{af aX:N->ay eE.bp}(h:eE.gA u af u' aX):hN u af u' aX:=⟨h.bN,h.grow⟩
def cD.spec.CJ{b:N}{X:cD}{id:o}{t:U}{q:M o}{K:aK->o->H->Prop}(h:X.c4 ai u D b)(iC:X.eV<=2700)(e2:eE.jB ai)(ht:Ints u t q)(fi:(∀g,t.aj=some g->¬D g)∨Ints ai t q)
  (di:fu id q X.an (decide (id∈X.rows.map (·.1))) X.rows.length≠0->K ax (fu id q X.an (decide (id∈X.rows.map (·.1))) X.rows.length) u)
  (bE:fu id q X.an (decide (id∈X.rows.map (·.1))) X.rows.length=0->∀u' dZ (cC:cD),cC.c4 ai u' dZ b->gD u D u' dZ->cC.rows.Perm ((id,q)::X.rows.filter λx=>x.1 !=id)->cC.an=X.an->cC.fw=X.fw->cC.eV<=X.eV+1->K (decide (id∉X.rows.map (·.1))) 0 u'):
  mX aH (X.iface b) "Put" #[.agg #[.int .i64 id,.slice t.a t.n t.c]] [.one .bool,.one (.int .i64)] u K:=by
 cases X with
 |nY X=>obtain⟨af,h1,h2,h3⟩:=e1.ex h;exact lg (f:=253) (by kernel_rfl) Q0 (by kernel_rfl) (kR.spec.CJ h2 h3 (jg iC (by decide)) ht (We h1 ht fi) di λhe u' aX bt O=>bE he u' _ (.nY bt) (tf O.is O.ok) (Ae h1 O.eP) O.rows O.an rfl O.eV)
 |aZ X=>obtain⟨af,h1,h2,h3⟩:=e1.ex h;exact lg (f:=273) (by kernel_rfl) Q2 (by kernel_rfl) (lS.spec.CJ h2 h3 (jg iC (by decide)) ht (We h1 ht fi) di λhe u' aX bt O=>bE he u' _ (.aZ bt) (tf O.is O.ok) (Ae h1 O.eP) O.rows O.an rfl O.eV)
 |nu X=>obtain⟨af,h1,h2,h3⟩:=e1.ex h;exact lg (f:=281) (by kernel_rfl) QZ (by kernel_rfl) (j1.spec.CJ h2 h3 ht (We h1 ht fi) di λhe u' aX bt O=>bE he u' _ (.nu bt) (tf O.is O.ok) (Ae h1 O.eP) O.rows O.an rfl (p2 _))
 |ae X=>
  obtain⟨af,h1,h2,h3⟩:=e1.ex h;have ar:(cD.ae X).rows.length=X.g.length:=by simp[cD.rows,eE.e5]
  have hm:(id∈X.g.map (·.1))↔id∈(cD.ae X).rows.map (·.1):=eE.BC X id;rw[ar,<-B8.2 hm] at di bE;rw[<-B8.2 (not_congr hm)] at bE;refine lg (f:=289) (by kernel_rfl) QY (by kernel_rfl) ?_;have fin:=λhe u' aX bt (O:eE.tP ai u af b X id q u' aX bt)=>bE he u' _ (.ae bt) (tf (eE.toG O.is) O.ok) (Ae h1 (eE.amB O.eP)) O.rows O.an rfl (p2 _);rcases fi with fi|Bn;refine eE.spec.xH (eE.Hi h2) h3 e2 ht (λg W=>?_) di fin;cases e:af g with
  |none=>rfl|some x=>exact aW ((h1 g).2 (by rw[e];simp)) (fi g W)
  exact eE.spec.aiC (eE.Hi h2) h3 e2 Bn di fin
 |cZ X=>
  obtain⟨af,h1,h2,h3⟩:=e1.ex h;have hk:(cD.cZ X).rows.map (·.1)=X.w.map (·.1):=hd.nv X;have ar:(cD.cZ X).rows.length=X.w.length:=by simp[cD.rows,hd.aR]
  rw[hk,ar] at di bE;have fin:=λhe u' aX bt (O:hd.tP ai u af b X id q u' aX bt)=>bE he u' _ (.cZ bt) (tf O.is O.ok) (Ae h1 O.eP) O.rows O.an (by rw[cD.Is,cD.Is,O.ao1]) (p2 _);cases e:X.cd with
  |none=>rw[cD.Kr e];exact lg (f:=307) (by kernel_rfl) Q1 (by kernel_rfl) (hd.spec.ams h2 h3 ht di λhe u' aX bt O _=>fin he u' aX bt O)|some c=>rw[cD.Kq e];exact lg (f:=311) (by kernel_rfl) amP (by kernel_rfl) (hd.spec.aoX h2 h3 e ht (We h1 ht fi) di fin)
def cD.spec.vk{b:N}{X:cD}{id:o}{K:aK->o->H->Prop}(h:X.c4 ai u D b)(iC:X.eV<=2700)(dV:id∉X.rows.map (·.1)->∀u',u.le u'->K ax 0 u')
  (kz:id∈X.rows.map (·.1)->∀u' dZ (cC:cD),cC.c4 ai u' dZ b->gD u D u' dZ->cC.rows=X.rows.filter (λx=>x.1 !=id)->cC.an=X.an->cC.fw=X.fw->cC.eV<=X.eV->K ak 0 u'):
  mX aH (X.iface b) "Delete" #[.int .i64 id] [.one .bool,.one (.int .i64)] u K:=by
 cases X with
 |nY X=>obtain⟨af,h1,h2,h3⟩:=e1.ex h;have hk:(cD.nY X).rows.map (·.1)=X.w.map (·.1):=kR.nv X;rw[hk] at dV kz;exact lg (f:=251) (by kernel_rfl) Q0 (by kernel_rfl) (kR.spec.vk h2 h3 (jg iC (by decide)) dV λae u' aX bt O=>kz ae u' _ (.nY bt) (tf O.is O.ok) (Ae h1 O.eP) O.rows O.an rfl (Lo O.eV))
 |aZ X=>obtain⟨af,h1,h2,h3⟩:=e1.ex h;have hk:(cD.aZ X).rows.map (·.1)=X.w.map (·.1):=lS.nv X;rw[hk] at dV kz;exact lg (f:=271) (by kernel_rfl) Q2 (by kernel_rfl) (lS.spec.vk h2 h3 (jg iC (by decide)) dV λae u' aX bt O=>kz ae u' _ (.aZ bt) (tf O.is O.ok) (Ae h1 O.eP) O.rows O.an rfl (Lo O.eV))
 |nu X=>
  obtain⟨af,h1,h2,h3⟩:=e1.ex h;have hw:id∈X.w.map (·.1)↔id∈(cD.nu X).rows.map (·.1):=by rw[show(cD.nu X).rows=j1.aR X from rfl,j1.abl];exact h3.aeq
  exact lg (f:=279) (by kernel_rfl) QZ (by kernel_rfl) (j1.spec.vk h2 h3 (λae=>dV λhm=>ae (hw.2 hm)) λae u' aX bt O=>kz (hw.1 ae) u' _ (.nu bt) (tf O.is O.ok) (Ae h1 O.eP) O.rows O.an rfl (cA _))
 |ae X=>obtain⟨af,h1,h2,h3⟩:=e1.ex h;exact lg (f:=287) (by kernel_rfl) QY (by kernel_rfl) (eE.spec.xG (eE.Hi h2) h3 (λae=>dV λhm=>eE.AQ.1 ae ((eE.BC X id).2 hm)) λn ae u' aX bt O=>kz ((eE.BC X id).1 (bf.2 ⟨_,eE.iq ae,rfl⟩)) u' _ (.ae bt) (tf (eE.toG O.is) O.ok) (Ae h1 (eE.amB O.eP)) O.rows O.an rfl (cA _))
 |cZ X=>
  obtain⟨af,h1,h2,h3⟩:=e1.ex h;have hk:(cD.cZ X).rows.map (·.1)=X.w.map (·.1):=hd.nv X;rw[hk] at dV kz;have:=hd.spec.vk (K:=K) h2 h3 (λae=>dV ae u (H.le.refl u)) λae u' bt O=>kz ae u' _ (.cZ bt) (tf O.is O.ok) (Ae h1 O.eP) O.rows O.an (by rw[cD.Is,cD.Is,O.cd]) (cA _);cases e:X.cd with
  |some c=>rw[cD.Kq e];exact W9 (f:=305) (λw=>by kernel_rfl) (by kernel_rfl) this|none=>rw[cD.Kr e];exact lg (f:=305) (by kernel_rfl) Q1 (by kernel_rfl) this
end
namespace hd
section
open lS (ea)
def Al(k:tM)(c:N):Prop:=c=k.b∨k.fY.aj=some c∨∃y∈k.eK,y.1.aj=some c∨∃Y∈y.2,Y.1.aj=some c
def EL.fresh{u u':H}{d:o}{k:tM}(h:EL u u' d k)(c:N)(I:Al k c):u c=none/\u' c≠none:=by rcases I with rfl|I|⟨y,ah,I|⟨Y,aC,I⟩⟩;exact⟨h.new,by rw[h.cell];simp⟩;exact⟨h.own.fresh c I,dE h.own I⟩;exact⟨(h.each y ah).own.fresh c I,dE (h.each y ah).own I⟩;exact⟨((h.each y ah).inner Y aC).fresh c I,dE ((h.each y ah).inner Y aC) I⟩
def EL.at{u u' v:H}{d:o}{k:tM}{af:N->ay bp}(h:EL u u' d k)(aA:∀c z,u' c=some z->Al k c->v c=some z)(Z:∀c,Al k c->af c=some .code):sB af v d k where
 cell:=aA _ _ h.cell (.inl rfl)
 RS:=Z _ (.inl rfl)
 bi:=br.else h.own.own.cE λg z W aa=>aA g z aa (.inr (.inl W))
 h9 g W:=Z g (.inr (.inl W))
 tU c I:=⟨br.else (h.each c I).own.own.cE λg z W aa=>aA g z aa (.inr (.inr ⟨c,I,.inl W⟩)),λY aC=>br.else ((h.each c I).inner Y aC).ints λg z W aa=>aA g z aa (.inr (.inr ⟨c,I,.inr ⟨Y,aC,W⟩⟩))⟩
 dN c I:=⟨λg W=>Z g (.inr (.inr ⟨c,I,.inl W⟩)),λY aC g W=>Z g (.inr (.inr ⟨c,I,.inr ⟨Y,aC,W⟩⟩))⟩
def start{aU v:H}{b m:N}{an:o}{cd:ay pz}(hle:aU.le v)(ab:v b=some (aQ.obj ⟨an,m,[],cd⟩))(hm:fx v m [])(YQ:b≠m)(h1:aU b=none)(h2:aU m=none)(aw:1<=an/\an<=64)
  (I:∀c,cd=some c->c.sA=[]/\fx v c.hP []/\c.hP≠m/\c.hP≠b/\aU c.hP=none/\∀k,c.co=some k->EJ an k.eK/\∃u u',aU.le u/\EL u u' an k/\(∀x z,u' x=some z->Al k x->v x=some z)/\u b≠none/\u m≠none/\u c.hP≠none):
  ∃D,e1 ed dS aU v D b ⟨an,m,[],cd⟩/\∀c,D c->c=b∨c=m∨(∃x,cd=some x/\c=x.hP)∨∃x k,cd=some x/\x.co=some k/\Al k c:=by
 obtain⟨af,hV⟩:∃af:N->ay bp,af=λc=>open Classical in if c=b then some .obj else if c=m∨(∃x,cd=some x/\c=x.hP) then some .map else if ∃x k,cd=some x/\x.co=some k/\Al k c then some .code else none:=⟨_,rfl⟩
 have t1:af b=some .obj:=by rw[hV];exact a1 rfl
 have t2:∀c,c≠b->(c=m∨∃x,cd=some x/\c=x.hP)->af c=some .map:=λc h bQ=>by rw[hV];show(if c=b then _ else _)=_;rw[aF h,a1 bQ]
 have t3:∀x k c,cd=some x->x.co=some k->Al k c->af c=some .code:=λx k c J hk kp=>by obtain⟨_,_,_,_,_,q⟩:=I x J;obtain⟨_,u,u',cM,c6,da,fk,pZ,Hs⟩:=q k hk;have ae:=(c6.fresh c kp).1;rw[hV];show(if c=b then _ else _)=_;rw[aF (λe=>fk (by rw[<-e];exact ae)),aF (λe=>?_),a1 ⟨x,k,J,hk,kp⟩];rcases e with e|⟨nH,fT,e⟩;exact pZ (by rw[<-e];exact ae);rw[J] at fT;obtain rfl:=cU fT;exact Hs (by rw[<-e];exact ae)
 have t4:∀c,af c≠none->c=b∨c=m∨(∃x,cd=some x/\c=x.hP)∨∃x k,cd=some x/\x.co=some k/\Al k c:=λc al=>by by_cases aS:c=b;exact .inl aS;by_cases aB:c=m∨∃x,cd=some x/\c=x.hP;exact aB.elim (λe=>.inr (.inl e)) λe=>.inr (.inr (.inl e));by_cases cW:∃x k,cd=some x/\x.co=some k/\Al k c;exact .inr (.inr (.inr cW));exact aW (by rw[hV];show(if c=b then _ else _)=_;rw[aF aS,aF aB,aF cW]) al
 refine⟨λc=>af c≠none,⟨af,λ_=>BS,⟨⟨ab,t1,hm,t2 m (dz YQ) (.inl rfl),λe he=>(by cases he),λc lW=>?_⟩,hle,λc al=>?_,λc al=>?_⟩,⟨aw,λe he=>(by cases he),λe he=>(by cases he),p2 _,λc k lW hk=>?_⟩⟩,t4⟩
 have lW:cd=some c:=lW
 obtain⟨wl,cM,c6,da,fk,pZ⟩:=I c lW
 refine⟨by rw[wl];exact cM,t2 _ da (.inr ⟨c,lW,rfl⟩),c6,λe he=>(by rw[wl] at he;cases he),λk hk=>?_⟩
 obtain⟨_,u,u',gX,dy,lL,_⟩:=pZ k hk
 exact dy.at lL λx J=>t3 c k x lW hk J
 rcases t4 c al with rfl|rfl|⟨x,J,rfl⟩|⟨x,k,J,hk,kp⟩
 exact h1
 exact h2
 exact(I x J).2.2.2.2.1
 obtain⟨_,u,u',gX,dy,lL,_⟩:=(I x J).2.2.2.2.2 k hk
 exact gX.none (dy.fresh c kp).1
 rcases t4 c al with rfl|rfl|⟨x,J,rfl⟩|⟨x,k,J,hk,kp⟩
 rw[ab];simp
 obtain⟨es,cl,e,_⟩:=hm
 rw[e];simp
 obtain⟨es,cl,e,_⟩:=(I x J).2.1
 rw[e];simp
 obtain⟨_,u,u',gX,dy,lL,_⟩:=(I x J).2.2.2.2.2 k hk
 obtain⟨z,aa⟩:=e9.1 (dy.fresh c kp).2
 rw[lL c z aa kp];simp
 exact((I c lW).2.2.2.2.2 k hk).1
end
end hd
section
variable{u:H}{n:N}{l L:M az}{f:H->Prop}{a b:o}{q:M o}{rest:M cn}
def yL(k:o):ay (o×o×o):=if k=1 then some (0,0,0) else if k=2∨k=3∨k=4 then some (64,0,0) else if k=5 then some (64,8,16) else if k=6 then some (16,0,0) else none
abbrev zF(n m:o):Prop:=n<=m/\(if m<1 then m else 1)<=n
def yo(k s p c:o):o:=match yL k with
 |none=>120|some x=>if zF s x.1/\zF p x.2.1/\zF c x.2.2 then 0 else 121
def ayJ{c x:o}{K:o->H->Prop}(bL:0<=x)(dC:x<3)(h0:x=0->K a u)(h1:x=1->K b u)(h2:x=2->K c u):dd aH (Instr.index 164 (.agg #[.int .i64 a,.int .i64 b,.int .i64 c]) (.int .i64 x)) [.one (.int .i64)] u K:=by
 have h:∀(y:o),(∀w:b7,(Instr.index 164 (.agg #[.int .i64 a,.int .i64 b,.int .i64 c]) (.int .i64 x)).run aH w=.ok (.int .i64 y) w)->K y u->dd aH (Instr.index 164 (.agg #[.int .i64 a,.int .i64 b,.int .i64 c]) (.int .i64 x)) [.one (.int .i64)] u K:=λy O au=>dd.Hk (c:=.int .i64) y (λw _=>O w) au;obtain rfl|rfl|rfl:x=0∨x=1∨x=2:=by omega
 exact h a (λw=>by kernel_rfl) (h0 rfl);exact h b (λw=>by kernel_rfl) (h1 rfl);exact h c (λw=>by kernel_rfl) (h2 rfl)
def adH{c y:o}(h:u n=some (.cells #[.int .i64 a,.int .i64 b,.int .i64 c] 164 (0,0)))(Z:f (u.ins n (.cells #[.int .i64 y,.int .i64 b,.int .i64 c] 164 (0,0)))):H.aO u (ev (cB n 0 none) 0) [.int .i64 y] f:=
 ⟨_,_,h,rfl,by simp[jh],by simp[cT],Z⟩
def aze{c x y Y:o}(h:u n=some (.cells #[.int .i64 a,.int .i64 b,.int .i64 c] 164 (0,0)))(Z:f (u.ins n (.cells #[.int .i64 x,.int .i64 y,.int .i64 Y] 164 (0,0)))):H.aO u (cB n 0 none) [.int .i64 x,.int .i64 y,.int .i64 Y] f:=
 ⟨_,_,h,rfl,by simp,by simp[cT],by
  have e:wr #[cY .i64 a,.int .i64 b,.int .i64 c] 0 [.int .i64 x,.int .i64 y,.int .i64 Y]=#[.int .i64 x,.int .i64 y,.int .i64 Y]:=by simp[wr]
  rw[e];exact Z⟩
def spec.Ft{k s p c:o}{K:o->H->Prop}(h:∀u',u.le u'->K (yo k s p c) u'):C.Ft k s p c u K:=by
 apply aG.Ft;intro n0 eX;refine mT (zs:=[.int .i64 0,.int .i64 0,.int .i64 0]) rfl (by simp[cT]) ?_;obtain⟨aU,hr⟩:∃aU,aU=u.ins n0 (.cells [cY .i64 64,.int .i64 0,.int .i64 0].toArray 164 (0,0)):=⟨_,rfl⟩;rw[<-hr];have d0:aU n0=some (.cells #[.int .i64 64,.int .i64 0,.int .i64 0] 164 (0,0)):=by rw[hr];exact H.bh _ _ _
 have e3:u.le aU:=by rw[hr];exact H.b1 _ eX
 have Ug:∀z,u.le (aU.ins n0 z):=λz c x I=>by rw[H.bq _ _ (λe=>by rw[e,eX] at I;cases I)];exact e3 c x I
 intro pA h2;have fin:∀(a b d:o) (w:H),u.le w->w n0=some (.cells #[.int .i64 a,.int .i64 b,.int .i64 d] 164 (0,0))->yL k=some (a,b,d)->∀y,pA y w:=by intro a b d w hw I ab y;have key:∀Y,yo k s p c=Y->K Y w:=λY e=>e▸h w hw;have bad:¬(zF s a/\zF p b/\zF c d)->K 121 w:=λae=>key 121 (by unfold yo;rw[ab];exact aF ae);apply h2;refine⟨λ_ x v=>v=w/\0<=x/\x<=3/\(0<x->zF s a)/\(1<x->zF p b)/\(2<x->zF c d),λ_ x _=>(3-x).toNat,⟨rfl,by omega,by omega,λe=>aW e (by omega),λe=>aW e (by omega),λe=>aW e (by omega)⟩,?_⟩;rintro Y x v ⟨rfl,bL,dC,g0,g1,g2⟩;refine⟨λJ=>ayJ bL J (λe=>?_) (λe=>?_) (λe=>?_),λJ=>key 0 (by unfold yo;rw[ab];exact a1 ⟨g0 (by omega),g1 (by omega),g2 (by omega)⟩)⟩;subst e;refine⟨by decide,⟨by omega,by omega⟩,a,H.ba I 0,λe=>bad λhk=>by have:=hk.1.1;omega,λe=>⟨by decide,⟨by omega,by omega⟩,a,H.ba I 0,λaB=>bad λhk=>aW hk.1.2 (by omega),λaB=>⟨⟨by omega,by omega⟩,⟨rfl,by omega,by omega,λ_=>⟨by omega,by omega⟩,λe=>aW e (by omega),λe=>aW e (by omega)⟩,by dsimp only;omega⟩⟩⟩;subst e;refine⟨by decide,⟨by omega,by omega⟩,b,H.ba I 1,λe=>bad λhk=>by have:=hk.2.1.1;omega,λe=>⟨by decide,⟨by omega,by omega⟩,b,H.ba I 1,λaB=>bad λhk=>aW hk.2.1.2 (by omega),λaB=>⟨⟨by omega,by omega⟩,⟨rfl,by omega,by omega,λ_=>g0 (by omega),λ_=>⟨by omega,by omega⟩,λe=>aW e (by omega)⟩,by dsimp only;omega⟩⟩⟩;subst e;refine⟨by decide,⟨by omega,by omega⟩,d,H.ba I 2,λe=>bad λhk=>by have:=hk.2.2.1;omega,λe=>⟨by decide,⟨by omega,by omega⟩,d,H.ba I 2,λaB=>bad λhk=>aW hk.2.2.2 (by omega),λaB=>⟨⟨by omega,by omega⟩,⟨rfl,by omega,by omega,λ_=>g0 (by omega),λ_=>g1 (by omega),λ_=>⟨by omega,by omega⟩⟩,by dsimp only;omega⟩⟩⟩
 have hE:k=1->yL k=some (0,0,0):=λe=>by unfold yL;rw[a1 e]
 have fM:k=2∨k=3∨k=4->yL k=some (64,0,0):=λe=>by unfold yL;rw[aF (by omega),a1 e]
 refine⟨λe=>⟨by decide,⟨by omega,by omega⟩,adH d0 (fin 0 0 0 _ (Ug _) (H.bh _ _ _) (hE e) _)⟩,λaS L5 Sf=>?_⟩;have go:∀dM:aK,(dM=ak↔(k=2∨k=3))->L5 dM aU:=λdM sW=>Sf _ _ ⟨λe=>fin 64 0 0 _ e3 d0 (fM (by have:=sW.1 e;omega)) _,λe=>?_⟩;exact⟨λe=>go ak ⟨λ_=>.inl e,λ_=>rfl⟩,λe=>go _ ⟨λh3=>.inr (HR h3),λh3=>mm (by omega)⟩⟩;have ae:¬(k=2∨k=3):=λh3=>by rw[sW.2 h3] at e;cases e
 refine⟨λfN=>⟨by decide,⟨by omega,by omega⟩,adH d0 (fin 64 0 0 _ (Ug _) (H.bh _ _ _) (fM (by omega)) _)⟩,λfN=>⟨λgw=>aze d0 (fin 64 8 16 _ (Ug _) (H.bh _ _ _) ?_ _),λgw=>⟨λnk=>⟨by decide,⟨by omega,by omega⟩,adH d0 (fin 16 0 0 _ (Ug _) (H.bh _ _ _) ?_ _)⟩,λnk=>?_⟩⟩⟩;unfold yL;rw[aF aS,aF (by omega),a1 gw];unfold yL;rw[aF aS,aF (by omega),aF gw,a1 nk];have:yo k s p c=120:=by unfold yo yL;rw[aF aS,aF (by omega),aF gw,aF nk]
 exact this▸h aU e3
structure aQ where
 k:o
 s:o
 p:o
 c:o
 dR:N
 X:cD
abbrev sJ(k s p c:o)(v:ap):Obj:=.cells #[.int .i64 k,.int .i64 s,.int .i64 p,.int .i64 c,v] 81 (0,0)
def aQ.obj(T:aQ):Obj:=sJ T.k T.s T.p T.c (T.X.iface T.dR)
structure c4(ai u:H)(D:N->Prop)(b:N)(X:aQ):Prop where
 ex:∃ki,(∀c,D c↔c=b∨ki c)/\¬ki b/\ai b=none/\u b=some X.obj/\X.X.c4 ai u ki X.dR
def yK(l:M az)(an k s p c:o):o:=if yo k s p c≠0 then yo k s p c else if oJ l an≠0 then oJ l an else if k=5/\ps an p≠0 then 100 else 0
def ay7{k s p c:o}(h:yo k s p c=0):k=1∨((k=2∨k=3∨k=4)/\1<=s/\s<=64)∨(k=5/\1<=p/\p<=8/\1<=c/\c<=16)∨(k=6/\1<=s/\s<=16):=by
 unfold yo yL at h;by_cases h1:k=1;exact .inl h1;rw[aF h1] at h;have one:∀{n m:o},1<=m->zF n m->1<=n/\n<=m:=λ{n m} hm hk=>by obtain⟨a,b⟩:=hk;rw[aF (by omega)] at b;exact⟨b,a⟩
 by_cases h2:k=2∨k=3∨k=4;rw[a1 h2] at h;dsimp only at h;split at h;rename_i hk;exact .inr (.inl ⟨h2,one (by decide) hk.1⟩);cases h;rw[aF h2] at h;by_cases bK:k=5;rw[a1 bK] at h;dsimp only at h;split at h;rename_i hk;obtain⟨a,b⟩:=one (by decide) hk.2.1;obtain⟨c,d⟩:=one (by decide) hk.2.2;exact .inr (.inr (.inl ⟨bK,a,b,c,d⟩));cases h;rw[aF bK] at h;by_cases fs:k=6;rw[a1 fs] at h;dsimp only at h;split at h;rename_i hk;exact .inr (.inr (.inr ⟨fs,one (by decide) hk.1⟩));cases h;rw[aF fs] at h;cases h
def cD.agm{T:hd.aQ}{kl:cD}(h:kl.fw=(cD.cZ T).fw):kl.eV=0:=by
 rw[cD.Is] at h;cases kl with
 |nY X=>change (113:N)=_ at h;split at h<;>exact aW h (by decide)|aZ X=>change (116:N)=_ at h;split at h<;>exact aW h (by decide)|nu X=>rfl|ae X=>rfl|cZ X=>rfl
def adI{k s p c:o}{v w:ap}(h:u n=some (sJ k s p c v))(aA:w.oneCell'=ak)(Z:f (u.ins n (sJ k s p c w))):H.aO u (ev (cB n 0 none) 4) [w] f:=
 ⟨_,_,h,rfl,by simp[jh],by simp[aA],Z⟩
def azf{m hP:N}{d:o}{a b:ay bc}(h:u n=some (.cells #[.int .i64 d,.map (some m),.pointer a,.map (some hP)] 132 (0,0)))(Z:f (u.ins n (.cells #[.int .i64 d,.map (some m),.pointer b,.map (some hP)] 132 (0,0)))):H.aO u (ev (cB n 0 none) 2) [.pointer b] f:=
 ⟨_,_,h,rfl,by simp[jh],by simp[cT],Z⟩
def zx{A:H}{x y:N}{z:Obj}(J:A x=none)(ah:A y=some z):x≠y:=λe=>by rw[e,ah] at J;cases J
def aws{an:o}(bX:hD l an){r:az}(O:l[n]?=some r){P:M (o×M o)}(ee:P.Perm ((l.take n).map az.bz)):r.id∉P.map (·.1)/\fu r.id r.v an (decide (r.id∈P.map (·.1))) P.length=0:=by
 obtain⟨bD,he⟩:=jM.1 O;have hq:r∈l:=dK O;have uE:l.take n++r::l.drop (n+1)=l:=by have:=u2 n l;rw[wo bD,he] at this;exact this
 have bS:=bX.nodup;rw[<-uE,ek,gm,gh] at bS;have oz:r.id∉P.map (·.1):=λhm=>by have h1:=(ee.map (·.1)).mem_iff.1 hm;rw[ep] at h1;exact bS.2.2 r.id h1 r.id (fW ..) rfl
 have hlen:=ee.length_eq;rw[de,gZ] at hlen;have ar:=bX.len;have hi:=bX.id r hq;obtain⟨v1,v2⟩:=bX.v r hq;have aw:=bX.an;have aA:gV r.v an=0:=by rw[<-v1];exact zG v2 (by omega)
 refine⟨oz,?_⟩;unfold fu;rw[aF (by omega),aF (by simpa using aA),aF (λh=>by omega)]
def azL{r:az}(O:l[n]?=some r){P Q:M (o×M o)}(ee:P.Perm ((l.take n).map az.bz))(oz:r.id∉P.map (·.1))(fb:Q.Perm ((r.id,r.v)::P.filter λx=>x.1 !=r.id)):Q.Perm ((l.take (n+1)).map az.bz):=by
 have Z:P.filter (λx=>x.1 !=r.id)=P:=p6.2 λq aN=>by have:q.1≠r.id:=λe=>oz (bf.2 ⟨q,aN,e⟩);simpa using this
 rw[Z] at fb;rw[gS,O,ek];exact fb.trans ((kc _ ee).trans (mR _ _).symm)
def spec.E1{s:U}{an k hC p c eJ:o}{K:ay bc->o->H->Prop}(ag:en u s l)(e2:eE.jB u)(OG:dh eJ)
  (di:yK l an k hC p c≠0->∀u',u.le u'->K none (yK l an k hC p c) u')
  (bE:yK l an k hC p c=0->∀b D X u',c4 u u' D b X->X.X.rows.Perm (l.map az.bz)->X.X.an=an->X.k=k->X.s=hC->X.p=p->X.c=c->X.X.eV=0->K (some ⟨b,0,none⟩) 0 u'):C.E1 k hC p c an s eJ u K:=by
 have bad:∀Y u',u.le u'->yK l an k hC p c=Y->Y≠0->K none Y u':=λY u' hu e aC=>by subst e;exact di aC u' hu
 apply aG.E1
 refine spec.Ft λaU e3=>⟨λal=>bad _ aU e3 (by unfold yK;rw[a1 al]) al,λGy=>?_⟩
 have dO:=ag.mono e3
 have ag1:=e2.mono e3
 refine spec.qt dO ⟨λal=>bad _ aU e3 (by unfold yK;rw[aF (by simpa using Gy),a1 al]) al,λpb=>?_⟩
 have bX:=B9.1 pb
 have dw:=ag.len
 have Jw:=bX.len
 have Yq:=bX.an
 intro L6 a7
 have aBP:=ay7 Gy
 have base:yK l an k hC p c=if k=5/\ps an p≠0 then 100 else 0:=by unfold yK;rw[aF (by simpa using Gy),aF (by simpa using pb)]
 have main:(k=5->ps an p=0)->∀y Y,L6 y Y aU:=by
  intro hdiv y Y;have bE:=bE (by rw[base,aF (λh=>h.2 (hdiv h.1))]);apply a7;intro n8 nV tN jE;obtain⟨B,eM⟩:∃B,B=aU.ins n8 (sJ k hC p c .nilIface):=⟨_,rfl⟩;rw[<-eM];have DV:aU.le B:=by rw[eM];exact H.b1 _ nV
  have LX:B n8=some (sJ k hC p c .nilIface):=by rw[eM];exact H.bh _ _ _
  have pe:u n8=none:=e3.none nV;have Tt:=dO.mono DV;have Vc:¬oJ l an≠0:=by simpa using pb
  have fin:∀(X:cD) (dR:N) (ki:N->Prop) (v:H),X.c4 B v ki dR->X.rows.Perm (l.map az.bz)->X.an=an->X.eV=0->H.aO v (ev (cB n8 0 none) 4) [X.iface dR] λw=>tN 0 w:=by
   intro X dR ki v hF O aw W;have Q6:=(cD.base hF).1 _ _ LX;have agI:¬ki n8:=λe=>by have:=(cD.base hF).2.1 n8 e;rw[LX] at this;cases this
   refine adI Q6 (by simp[cD.iface,cT]) (jE 0 _ ⟨λJ=>aW rfl J,λ_=>?_⟩);obtain⟨w,hw⟩:∃w,w=v.ins n8 (sJ k hC p c (X.iface dR)):=⟨_,rfl⟩;rw[<-hw];have kw:∀x z,v x=some z->x≠n8->w x=some z:=λx z J al=>by rw[hw,H.bq _ _ al];exact J
   have lw:u.le w:=λx z J=>kw x z ((cD.base hF).1 x z (DV x z (e3 x z J))) λe=>by rw[e,pe] at J;cases J
   exact bE n8 _ ⟨k,hC,p,c,dR,X⟩ w ⟨ki,λ_=>BS,agI,pe,by rw[hw];exact H.bh _ _ _,cD.same (cD.l3 hF (e3.trans DV)) (λx z J aw=>kw x z J λe=>agI (by rw[<-e];exact aw)) lw⟩ O aw rfl rfl rfl rfl W
  refine⟨λe=>kR.spec.Build Tt (λal=>aW (by unfold kR.jr;rw[aF Vc,aF (by omega)]) al) λ_ v dR af T O=>fin (.nY T) dR _ v (tf O.is O.ok) O.rows O.an O.eV,λeb=>?_⟩;refine⟨λe=>lS.spec.Build Tt (λal=>aW (by unfold lS.jr;rw[aF Vc,aF (by omega)]) al) λ_ v dR af T O=>fin (.aZ T) dR _ v (tf O.is O.ok) O.rows O.an O.eV,λjI=>?_⟩;refine⟨λe=>j1.spec.Build Tt (λal=>aW (by unfold j1.jr;rw[aF Vc,aF (by omega)]) al) λ_ v dR af T O=>fin (.nu T) dR _ v (tf O.is O.ok) O.rows O.an rfl,λeZ=>?_⟩;refine⟨λe=>eE.spec.Bd Tt (ag1.mono DV) OG (λal=>aW (by unfold eE.w5;rw[aF Vc,aF (by omega)]) al) λ_ dR af T v O=>fin (.ae T) dR _ v (tf (eE.toG O.is) O.ok) O.rows O.an rfl,λn6=>?_⟩;refine H6 λm D1 hm iw=>?_;obtain⟨bd,gl⟩:∃bd,bd=B.ins m D1:=⟨_,rfl⟩;rw[<-gl] at iw ⊢;have Ub:B.le bd:=by rw[gl];exact H.b1 _ hm
  have anT:bd m=some D1:=by rw[gl];exact H.bh _ _ _
  intro n30 Tg;refine mT (zs:=[.int .i64 0,.map none]) rfl (by simp[cT]) ?_;obtain⟨IP,FH⟩:∃IP,IP=bd.ins n30 (.cells [cY .i64 an,.map (some m)].toArray 127 (0,0)):=⟨_,rfl⟩;rw[<-FH];have abO:bd.le IP:=by rw[FH];exact H.b1 _ Tg
  have aeH:IP n30=some (.cells #[.int .i64 an,.map (some m)] 127 (0,0)):=by rw[FH];exact H.bh _ _ _
  have m8:m≠n8:=zx hm LX;have IU:n30≠n8:=zx Tg (Ub _ _ LX);have tV:n30≠m:=zx Tg anT;refine adI (abO _ _ (Ub _ _ LX)) (by simp[cT]) ?_;obtain⟨w2,FI⟩:∃w2,w2=IP.ins n8 (sJ k hC p c (.iface 128 (.pointer (some ⟨n30,0,none⟩)))):=⟨_,rfl⟩;rw[<-FI];have cW:∀x z,IP x=some z->x≠n8->w2 x=some z:=λx z J al=>by rw[FI,H.bq _ _ al];exact J
  have Ru:w2 n8=some (sJ k hC p c (.iface 128 (.pointer (some ⟨n30,0,none⟩)))):=by rw[FI];exact H.bh _ _ _
  have T6:aU.le w2:=λx z J=>cW x z (abO x z (Ub x z (DV x z J))) λe=>by rw[e,nV] at J;cases J
  have amD:aU m=none:=DV.none hm;have az3:aU n30=none:=(DV.trans Ub).none Tg;have abY:fx w2 m []:=iw.else λz aa=>cW m z (abO m z aa) m8;intro Wz FA;have loop:∀(T:hd.aQ) (dR:N) (ki:N->Prop) (v:H),(cD.cZ T).c4 aU v ki dR->¬ki n8->v n8=some (sJ k hC p c ((cD.cZ T).iface dR))->T.w=[]->T.an=an->Wz v:=by
   intro T dR ki v hF eN aA ll Di;refine FA v ⟨λx w=>0<=x/\x<=l.length/\∃(qj:N->Prop) (kl:cD),kl.c4 aU w qj dR/\¬qj n8/\w n8=some (sJ k hC p c (kl.iface dR))/\kl.rows.Perm ((l.take x.toNat).map az.bz)/\kl.an=an/\kl.fw=(cD.cZ T).fw,λx _=>l.length-x.toNat,⟨by omega,by omega,ki,.cZ T,hF,eN,aA,?_,Di,rfl⟩,?_⟩;show(hd.aR T).Perm _;unfold hd.aR;rw[ll];exact Lq _;rintro x w ⟨bL,dC,qj,kl,r3,AT,TH,SD,YE,YF⟩;have Kh:en w s l:=dO.mono (cD.base r3).1;refine⟨λJ=>?_,λgG=>?_⟩;obtain⟨q,aN,r,O,bJ,c1,apc⟩:=Kh.at bL J;have hq:r∈l:=dK O;refine⟨q,aN,⟨bL,J⟩,r.id,bJ,r.s,c1,kl.iface dR,H.ba TH 4,?_⟩;obtain⟨oz,aik⟩:=aws bX O SD;rw[<-YE] at aik;refine cD.spec.CJ r3 (by rw[cD.agm YF];omega) ag1 apc (.inr (dO.2 r hq)) (λal=>aW aik al) λ_ u' dZ aeL arW ht arY arX ag7 _=>⟨⟨by omega,by omega⟩,⟨by omega,by omega,dZ,aeL,arW,λe=>(ht.grow n8 e).elim AT λaB=>(by rw[TH] at aB;cases aB),?_,?_,by rw[arX];exact YE,by rw[ag7];exact YF⟩,by dsimp only;omega⟩;rw[show aeL.iface dR=kl.iface dR by unfold cD.iface;rw[ag7]];exact ht.bN _ _ TH AT;rw[show(x+1).toNat=x.toNat+1 by omega];exact azL O SD oz arY;have eR:x.toNat=l.length:=by have:¬x<(s.n:o):=gG;omega
   rw[eR,mQ] at SD;exact jE 0 w ⟨λe=>aW rfl e,λ_=>bE n8 _ ⟨k,hC,p,c,dR,kl⟩ w ⟨qj,λ_=>BS,AT,pe,TH,cD.l3 r3 e3⟩ SD YE rfl rfl rfl rfl (cD.agm YF)⟩
  refine⟨λgw=>?_,λ_=>?_⟩
  ·
   obtain⟨gX,dy,c1,c2⟩:1<=p/\p<=8/\1<=c/\c<=16:=by omega
   have aeI:w2 n30=some (.cells #[.int .i64 an,.map (some m)] 127 (0,0)):=cW _ _ aeH IU;refine⟨an,H.ba aeI 0,_,H.ba aeI 1,H6 λhP aks Te aii=>?_⟩;obtain⟨IQ,Yz⟩:∃IQ,IQ=w2.ins hP aks:=⟨_,rfl⟩;rw[<-Yz] at aii ⊢;have nZ:w2.le IQ:=by rw[Yz];exact H.b1 _ Te
   have aeJ:IQ hP=some aks:=by rw[Yz];exact H.bh _ _ _
   obtain⟨aCn,Z1⟩:∃z,w2 m=some z:=by obtain⟨es,cl,e,_⟩:=abY;exact⟨_,e⟩
   intro n50 N6;obtain⟨Ma,YA⟩:∃Ma,Ma=IQ.ins n50 (.cells #[.int .i64 an,.map (some m),.pointer none,.map (some hP)] 132 (0,0)):=⟨_,rfl⟩;rw[<-YA];have rC:IQ.le Ma:=by rw[YA];exact H.b1 _ N6
   have anS:Ma n50=some (.cells #[.int .i64 an,.map (some m),.pointer none,.map (some hP)] 132 (0,0)):=by rw[YA];exact H.bh _ _ _
   have afm:hP≠n8:=zx Te Ru;have Xb:hP≠m:=zx Te Z1;have d8:n50≠n8:=zx N6 (nZ _ _ Ru);have hl:n50≠m:=zx N6 (nZ _ _ Z1);have afy:n50≠hP:=zx N6 aeJ;have sh:=nZ.trans rC;have abJ:=T6.trans sh;have az4:aU hP=none:=T6.none Te;have amC:aU n50=none:=(T6.trans nZ).none N6;refine spec.kV (dO.mono abJ) bX.id (by omega) (λr O=>by have:=(bX.v r O).1;omega) λHZ ls aeK Yp h5 _=>?_;have zt:=Yp.own.le;have ZC:ls.length=l.length:=by have:=h5.length_eq;simpa using this
   have nU:∀r∈ls,(r.v.length:o)=an/\dj r.v:=λr O=>by obtain⟨df,dG,e⟩:=bf.1 (h5.mem_iff.1 (bf.2 ⟨r,O,rfl⟩));have:df.v=r.v:=ei tv e;rw[<-this];exact bX.v df dG
   have aBa:=Yp.rws.len;refine⟨λH0 x w=>0<=x/\x<=ls.length/\aJ aeK w 30 1 H0 (((ls.take x.toNat).map λr=>(r.s,r.v)).flatMap λy=>encS y.1),λ_ x _=>ls.length-x.toNat,⟨by omega,by omega,aJ.nil (H.le.refl aeK) _ _⟩,?_⟩;rintro H0 x w ⟨bL,dC,aa⟩;have vD:=Yp.rws.mono aa.le;have aqO:H0.n=((ls.take x.toNat).map λr=>(r.s,r.v)).length:=gW vw (by decide) aa.own.cE;rw[de,gZ] at aqO;refine⟨λJ=>?_,λgG=>?_⟩;obtain⟨q,aN,r,O,jG,b3,_⟩:=vD.at bL J;refine⟨q,aN,⟨bL,J⟩,r.id,jG,r.s,b3,?_⟩;refine oc VQ (j1.RL r.s) (by decide) rfl (by simp[cT]) aa (by show H0.n<_;omega) (by show(H0.n+1)*_<=_;omega) λaq u' bP hW _ _ _=>⟨⟨by omega,by omega⟩,⟨by omega,by omega,?_⟩,by dsimp only;omega⟩;rw[show(x+1).toNat=x.toNat+1 by omega,gS,O,ek,hz];exact bP
   .have eR:x.toNat=ls.length:=by
     have:¬x<(HZ.n:o):=gG
     omega
    rw[eR,mQ] at aa
    have zr:=zt.trans aa.le
    have Wl:w n8=some (sJ k hC p c (.iface 128 (.pointer (some ⟨n30,0,none⟩)))):=zr _ _ (sh _ _ Ru)
    have Wn:=zr _ _ anS
    have last:∀(co:ay hd.tM) (v:H),v n8=some (sJ k hC p c (.iface 128 (.pointer (some ⟨n30,0,none⟩))))->v n50=some (.cells #[.int .i64 an,.map (some m),.pointer (hd.pz.ptr ⟨hP,[],co⟩),.map (some hP)] 132 (0,0))->(∀x z,Ma x=some z->x≠n50->v x=some z)->
      (∀dx,co=some dx->hd.EJ an dx.eK/\∃u',hd.EL w u' an dx/\∀x z,u' x=some z->x≠n50->v x=some z)->H.aO v (ev (cB n8 0 none) 4) [.iface 129 (.pointer (some ⟨n50,0,none⟩))] λY=>Wz Y:=by
     intro co v Q6 qY aec sY
     refine adI Q6 (by simp[cT]) ?_
     obtain⟨Y,aC⟩:∃Y,Y=v.ins n8 (sJ k hC p c (.iface 129 (.pointer (some ⟨n50,0,none⟩)))):=⟨_,rfl⟩
     rw[<-aC]
     have ML:∀x z,v x=some z->x≠n8->Y x=some z:=λx z J al=>by rw[aC,H.bq _ _ al];exact J
     have aAK:Y n8=some (sJ k hC p c (.iface 129 (.pointer (some ⟨n50,0,none⟩)))):=by rw[aC];exact H.bh _ _ _
     have apD:aU.le Y:=λx z J=>ML x z (aec x z (abJ x z J) λe=>by rw[e,amC] at J;cases J) λe=>by rw[e,nV] at J;cases J
     obtain⟨D,eN,Yc⟩:=hd.start (cd:=some ⟨hP,[],co⟩) apD (ML _ _ qY d8) (abY.else λz aa=>ML m z (aec m z (sh m z aa) (dz hl)) m8) hl amC amD Yq λni c9=>by obtain rfl:=cU c9;refine⟨rfl,aii.else λz aa=>ML hP z (aec hP z (rC hP z aa) (dz afy)) afm,Xb,dz afy,az4,λdx A3=>?_⟩;obtain⟨cM,u',c6,da⟩:=sY dx A3;refine⟨cM,w,u',abJ.trans zr,c6,λx z J ab=>?_,by rw[Wn];simp,?_,?_⟩;have ajq:=(c6.fresh x ab).1;exact ML x z (da x z J (zx ajq Wn)) (zx ajq Wl);rw[zr _ _ (sh _ _ Z1)];simp;rw[zr _ _ (rC _ _ aeJ)];simp
     refine loop ⟨an,m,[],some ⟨hP,[],co⟩⟩ n50 D Y eN (λe=>?_) (by rw[cD.Kq (c:=⟨hP,[],co⟩) rfl];exact aAK) rfl rfl
     rcases Yc n8 e with e|e|⟨nH,fT,e⟩|⟨nH,dx,fT,hk,ab⟩
     exact d8 e.symm
     exact m8 e.symm
     obtain rfl:=cU fT
     exact afm e.symm
     obtain rfl:=cU fT
     obtain⟨_,u',c6,_⟩:=sY dx hk
     have:=(c6.fresh n8 ab).1
     rw[Wl] at this;cases this
    refine⟨λI=>?_,λ_=>last none w Wl Wn (λx z J _=>zr x z J) λ_ e=>(by cases e)⟩
    have sU:mA w H0 (ls.map λr=>(r.s,r.v)):=⟨aa.own.cE,λy ah=>by obtain⟨r,O,rfl⟩:=bf.1 ah;exact vD.2 r O⟩
    refine hd.spec.Hr sU (λy ah=>?_) Yq ⟨gX,dy⟩ (hdiv gw) ⟨c1,c2⟩ (by rw[de];omega) (by rw[de];omega) (by decide) λV6 dx hO aqY=>?_
    obtain⟨r,O,rfl⟩:=bf.1 ah
    exact nU r O
    have aoV:=hO.le _ _ Wn
    refine azf aoV ?_
    obtain⟨V7,aaN⟩:∃V7,V7=V6.ins n50 (.cells #[.int .i64 an,.map (some m),.pointer (some ⟨dx.b,0,none⟩),.map (some hP)] 132 (0,0)):=⟨_,rfl⟩
    rw[<-aaN]
    have Xv:∀x z,V6 x=some z->x≠n50->V7 x=some z:=λx z J al=>by rw[aaN,H.bq _ _ al];exact J
    refine last (some dx) V7 (Xv _ _ (hO.le _ _ Wl) (dz d8)) (by rw[aaN];exact H.bh _ _ _) (λx z J al=>Xv x z (hO.le x z (zr x z J)) al) λdT dA=>?_
    obtain rfl:=cU dA
    exact⟨aqY,V6,hO,Xv⟩
  obtain⟨D,eN,Yc⟩:=hd.start (cd:=none) T6 (cW _ _ aeH IU) abY tV az3 amD Yq λ_ e=>by cases e
  refine loop ⟨an,m,[],none⟩ n30 D w2 eN (λe=>?_) (by rw[cD.Kr rfl];exact Ru) rfl rfl;rcases Yc n8 e with e|e|⟨_,e,_⟩|⟨_,_,e,_⟩;exact IU e.symm;exact m8 e.symm;cases e;cases e
 exact⟨λgw=>⟨by omega,λal=>bad 100 aU e3 (by rw[base,a1 ⟨gw,al⟩]) (by decide),λhe=>main (λ_=>he) _ _⟩,λgw=>main (λe=>aW e gw) _ _⟩
def aox{bw:M az}(h:l.map az.bz=bw.map az.bz):mD l=mD bw/\mC l=mC bw:=by
 have key:∀(f:M o->M o->M o) (l:M az),l.foldl (λacc r=>f acc r.v) (l.headD ⟨0,⟨none,0,0⟩,[]⟩).v=(l.map az.bz).foldl (λacc r=>f acc r.2) ((l.map az.bz).headD (0,[])).2:=λf l=>by rw[List.foldl_map];cases l<;>rfl
 exact⟨by unfold mD;rw[key lp,key lp,h],by unfold mC;rw[key lq,key lq,h]⟩
def ax9{a b c cO vo ni:U}{bw:M az}(h:l.map az.bz=bw.map az.bz):(wF a b c l).map cn.core=(wF cO vo ni bw).map cn.core:=by
 have ar:=axB h;have he:l=[]↔bw=[]:=by rw[<-Va,ar,Va]
 unfold wF;by_cases e:l=[];rw[a1 e,a1 (he.1 e)];rw[aF e,aF λgv=>e (he.2 gv)];obtain⟨h1,h2⟩:=aox h;show[_]=[_];simp only[cn.core,h1,h2];rw[oE,h,<-oE]
def Sound.bz{pC:M az}{k:o}{gI:M bO}{seen:M o}(h:Sound L q k gI seen rest)(ad:(L.map az.bz).Perm (pC.map az.bz)):Sound pC q k gI seen rest where
 HW:=h.HW
 kd r O:=by obtain⟨h1,h2,h3⟩:=h.kd r O;refine⟨h1,h2,λx J=>?_⟩;obtain⟨w,hw,rfl,b6⟩:=h3 x J;obtain⟨w',k2,e⟩:=bf.1 (ad.mem_iff.1 (h7 hw));exact⟨w',k2,ei sq e,by rw[show w'.v=w.v from ei tv e];exact b6⟩
 all:=by rw[oE];refine h.all.trans ?_;rw[oE];exact ad.map _
 first m hm ag:=by
  have:∀m:M az,(∀r∈m,r∈pC)->∃qG:M az,(∀r∈qG,r∈L)/\qG.map az.bz=m.map az.bz:=by
   intro m;induction m with
   |nil=>exact λ_=>⟨[],λr O=>(by cases O),rfl⟩
   |cons a m aM=>intro hm;obtain⟨qG,h1,h2⟩:=aM λr O=>hm r (gi _ O);obtain⟨w,hw,e⟩:=bf.1 (ad.mem_iff.2 (h7 (hm a (fW ..))));refine⟨w::qG,λr O=>?_,by rw[gm,gm,e,h2]⟩;rcases cJ.1 O with rfl|O;exact hw;exact h1 r O
  obtain⟨qG,h1,h2⟩:=this m hm;rw[<-ah3 h2];exact h.first qG h1 (by rw[oE,h2,<-oE];exact ag)
def Sound.core{k:o}{gI:M bO}{seen:M o}{alg:M cn}(h:Sound L q k gI seen rest)(e:rest.map cn.core=alg.map cn.core):Sound L q k gI seen alg where
 HW:=h.HW
 kd df dG:=by have hm:df.core∈rest.map cn.core:=e▸h7 dG;obtain⟨r,O,I⟩:=bf.1 hm;have c1:r.aD=df.aD:=ei (λY=>Y.1) I;have c2:r.cG=df.cG:=ei (λY=>Y.2.1) I;have fg:r.bH=df.bH:=ei (λY=>Y.2.2.1) I;have oX:r.hi=df.hi:=ei (λY=>Y.2.2.2.1) I;have rZ:r.ids=df.ids:=ei (λY=>Y.2.2.2.2) I;obtain⟨h1,h2,h3⟩:=h.kd r O;refine⟨⟨h1.an,rZ▸h1.ids,rZ▸h1.id,by rw[<-c1,<-c2,<-fg,<-oX];exact h1.shape⟩,rZ▸h2,λx J=>?_⟩;obtain⟨w,hw,rfl,b6⟩:=h3 x (rZ▸J);refine⟨w,hw,rfl,?_⟩;unfold mZ at b6 ⊢;rw[<-c1,<-c2,<-fg,<-oX];exact b6
 all:=by
  have key:∀l:M cn,l.flatMap (·.ids)=(l.map cn.core).flatMap (λY=>Y.2.2.2.2):=λl=>by rw[B6];rfl
  rw[key,<-e,<-key];exact h.all
 first:=h.first
namespace hd
def avU:∀{w:ng},(w.map (·.1)).Nodup->∀{a b},a∈w->b∈w->a.1=b.1->a=b:=by
 intro w;induction w with
 |nil=>intro _ a b aE;cases aE
 |cons x w aM=>intro ae a b aE ab e;have h:=hI.1 ae;have no:∀{y},y∈w->x.1=y.1->eh:=λah e=>h.1 (bf.2 ⟨_,ah,e.symm⟩);rcases cJ.1 aE with h1|h1<;>rcases cJ.1 ab with h2|h2;rw[h1,h2];exact(no h2 (h1▸e)).elim;exact(no h1 (h2▸e).symm).elim;exact aM h.2 h1 h2 e
def u4(w:ng)(id:o):M o:=((w.find? λe=>e.1==id).map λe=>e.2.2).getD []
def Qp{w:ng}(ae:(w.map (·.1)).Nodup){e:o×(U×M o)}(he:e∈w):u4 w e.1=e.2.2:=by
 unfold u4;cases Z:w.find? λx=>x.1==e.1 with
 |none=>exact aW (Ll.1 Z e he) (by simp)|some x=>
  have h1:x.1=e.1:=by simpa using K8 Z
  rw[avU ae (K7 Z) he h1];rfl
def ayh{w:ng}{id:o}(h:id∉w.map (·.1)):u4 w id=[]:=by unfold u4;rw[Ll.2 λx J=>by simp only[UO];exact λe=>h (e▸h7 J)];rfl
def y9(w:ng)(q:M o)(id:o):bO:=(id,fE (u4 w id) q (u4 w id).length)
def Vi(eK:M (U×M (U×M o)))(q:M o)(n i:N):M o:=(((eK[i]?).map (·.2)).getD []).map λy=>fE (tl q n i) y.2 n
def Cl(eK:M (U×M (U×M o)))(q:M o):M (M o):=(lM eK.length).map (Vi eK q (q.length/eK.length))
def Ci(cZ:M (M o))(code:M o):N->o
 |0=>0|i+1=>Ci cZ code i+(cZ.getD i []).getD (code.getD i 0).toNat 0
def MK(cZ:M (M o))(code:M o):o:=open Classical in if cZ.length=code.length/\∀i,i<code.length->0<=code.getD i 0/\code.getD i 0<(cZ.getD i []).length then Ci cZ code code.length else 0
def AK(cd:ay pz)(q:M o)(id:o):o:=match cd with
 |some ⟨_,sA,some k⟩=>MK (Cl k.eK q) (u4 sA id)|_=>0
def qH(T:aQ)(q:M o):M o:=(l4 ((dQ (T.w.map (·.1))).map λid=>(id,AK T.cd q id))).map (·.1)
def akv(T:aQ)(q:M o):(qH T q).Perm (T.w.map (·.1)):=by unfold qH;refine((vc _).map _).trans ?_;rw[ep];rw[show((·.1)∘λid:o=>((id,AK T.cd q id):bO))=(λid:o=>id) from rfl,B5];exact nE _
def tz(w:ng):M az:=(dQ (w.map (·.1))).map λid=>⟨id,⟨none,0,0⟩,u4 w id⟩
def aln{w:ng}(ae:(w.map (·.1)).Nodup):((tz w).map az.bz).Perm (w.map λe=>(e.1,e.2.2)):=by unfold tz;rw[ep];refine((nE _).map _).trans (HL ?_);rw[ep];refine zU λe he=>?_;show(e.1,u4 w e.1)=_;rw[Qp ae he]
def ayl{w:ng}(ae:(w.map (·.1)).Nodup){ls:M az}(ad:(ls.map az.bz).Perm (w.map λe=>(e.1,e.2.2)))(ag:ls.Pairwise λa b=>a.id<=b.id):ls.map az.bz=(tz w).map az.bz:=by
 have hk:(w.map λe=>(e.1,e.2.2)).map (·.1)=w.map (·.1):=by rw[ep];rfl
 refine akH ?_ ?_ (ad.trans (aln ae).symm);have bS:(ls.map (·.id)).Nodup:=by rw[oE];exact((ad.map _).nodup_iff).2 (by rw[hk];exact ae)
 rw[P8,tu] at bS;rw[tu];refine(ag.and bS).imp λ{x y} hv=>?_;have:=hv.1;have:=hv.2;show x.id<y.id;omega;unfold tz;rw[ep,tu];exact(Eu ae).imp λh=>h
def il(T:aQ)(q:M o)(k bud:o):M bO:=if T.cd.isSome then eT k.toNat (((qH T q).take bud.toNat).map (y9 T.w q)) else eT k.toNat (((tz T.w).take bud.toNat).map (hp q))
def fU(T:aQ)(q:M o)(_k bud:o):M o:=if T.cd.isSome then dQ ((qH T q).take bud.toNat) else dQ (((tz T.w).take bud.toNat).map (·.id))
def jF(T:aQ)(q:M o)(_k bud:o):M (o×o×M o×M o×M o):=
 if T.cd.isSome then if(qH T q).drop bud.toNat=[] then[] else[(1,0,[],[],dQ ((qH T q).drop bud.toNat))] else(wF ⟨none,0,0⟩ ⟨none,0,0⟩ ⟨none,0,0⟩ ((tz T.w).drop bud.toNat)).map cn.core
def sound{T:aQ}(ae:(T.w.map (·.1)).Nodup){k bud:o}(gd:0<=bud)(cX:(L.map az.bz).Perm (aR T))(aN:kk L q)(O:rest.map cn.core=jF T q k bud):
  Sound L q k (il T q k bud) (fU T q k bud) rest/\((fU T q k bud).length:o)<=bud/\(((fU T q k bud).length:o)=bud∨(fU T q k bud).length=L.length):=by
 have hk:=nv T
 unfold jF at O
 unfold il fU
 by_cases e:T.cd.isSome=ak
 rw[a1 e] at O
 simp only[a1 e]
 have ad:=akv T q
 have aE:(qH T q).take bud.toNat++(qH T q).drop bud.toNat=qH T q:=u2 _ _
 have bS:(qH T q).Nodup:=ad.nodup_iff.2 ae
 have SK:((qH T q).drop bud.toNat).Nodup:=bS.sublist (HI _ _)
 have h0:dQ ((qH T q).drop bud.toNat)=[]↔(qH T q).drop bud.toNat=[]:=by rw[<-Va,Ab,Va]
 refine al5 (R:=dQ ((qH T q).drop bud.toNat)) (by rw[hk];exact ae) cX aN gd ?_ (by rw[gZ];omega) (λal=>?_) (Eu SK) (λr aam=>?_) ?_
 rw[hk]
 refine((nE _).append_left _).trans ?_
 rw[aE]
 exact ad
 rw[gZ]
 by_cases hle:bud.toNat<=(qH T q).length
 omega
 exact aW (h0.2 (sl (by omega))) al
 obtain⟨x,J,e⟩:=bf.1 (cX.mem_iff.1 (h7 aam))
 have aS:x.1=r.id:=ei sq e
 have aB:x.2.2=r.v:=ei tv e
 unfold y9 hp
 rw[<-aS,Qp ae J,aB]
 rw[O]
 by_cases aB:(qH T q).drop bud.toNat=[]
 rw[a1 aB,a1 (h0.2 aB)]
 rw[aF aB,aF λh=>aB (h0.1 h)]
 rw[aF e] at O
 simp only[aF e]
 have ad:((tz T.w).map az.bz).Perm (L.map az.bz):=(aln ae).trans cX.symm
 have Kc:kk (tz T.w) q:=⟨aN.Wk,Ek aN.rows.an (by have:=ad.length_eq;rw[de,de] at this;rw[this];exact aN.rows.len) (by rw[oE];exact((ad.map (·.1)).nodup_iff).2 (by rw[<-oE];exact aN.rows.nodup)) λp DD=>by obtain⟨r,O,rfl⟩:=bf.1 (ad.mem_iff.1 DD);exact⟨(aN.rows.id r O).1,(aN.rows.id r O).2,(aN.rows.v r O).1,(aN.rows.v r O).2⟩⟩
 have ag:=aqr (k:=k) (b:=bud) Kc ⟨none,0,0⟩ ⟨none,0,0⟩ ⟨none,0,0⟩
 have hlen:(tz T.w).length=L.length:=by have:=ad.length_eq;simpa using this
 have td:(dQ (((tz T.w).take bud.toNat).map (·.id))).length=min bud.toNat L.length:=by rw[Ab,de,gZ,hlen]
 refine⟨(Sound.core ag O.symm).bz ad,by rw[td];omega,by rw[td];omega⟩
end hd
end
namespace hd
section
variable{cZ:M (M o)}{u:H}{s:U}
open lS (ea sR pj zz iO C1)
def Fo(d:o):M ap:=[.int .u64 (dk d),.int .u64 (dr d)]
def RY(d:o):(Fo d).length=2:=rfl
def azG:kH aH 359=some (66,2,16,[.int .u64 0,.int .u64 0]):=by kernel_rfl
def azF:kH aH 354=some (359,1,24,[.slice none 0 0]):=by kernel_rfl
def aoK(x y:o):kG aH 359 1 #[(0,.agg #[.int .u64 x,.int .u64 y])]=some (66,[.int .u64 x,.int .u64 y]):=by kernel_rfl
def aoJ(s:U):kG aH 354 1 #[(0,.slice s.a s.n s.c)]=some (359,[.slice s.a s.n s.c]):=by kernel_rfl
structure yH(u:H)(s:U)(cZ:M (M o)):Prop where
 ex:∃ck:M (U×M o),br u s 1 (ck.flatMap λy=>encS y.1)/\ck.map (·.2)=cZ/\∀y∈ck,br u y.1 2 (y.2.flatMap Fo)
def yH.mono{u':H}(h:yH u s cZ)(k:u.le u'):yH u' s cZ:=by obtain⟨ck,h1,h2,h3⟩:=h.ex;exact⟨ck,h1.mono k,h2,λy ah=>(h3 y ah).mono k⟩
def yH.len(h:yH u s cZ):s.n=cZ.length:=by obtain⟨ck,h1,h2,_⟩:=h.ex;rw[<-h2,de];exact gW vw (by decide) h1
def yH.at(h:yH u s cZ){x:o}(h0:0<=x)(h1:x<(s.n:o)):∃p,s.a=some p/\∃t:U,u.cell? (p.add (x.toNat*1))=some (.slice t.a t.n t.c)/\br u t 2 ((cZ.getD x.toNat []).flatMap Fo):=by
 have ae:=h.len;obtain⟨ck,s1,s2,k8⟩:=h.ex;have ar:x.toNat<ck.length:=by have:=ei iS s2;rw[de] at this;omega
 have J:ck[x.toNat]?=some ck[x.toNat]:=cr ar;obtain⟨p,ad,I⟩:=br.elem vw (by decide) s1 J;refine⟨p,ad,_,I 0 _ rfl,?_⟩;have:cZ.getD x.toNat []=ck[x.toNat].2:=by rw[<-s2,du,iR,J];rfl
 rw[this];exact k8 _ (kE ar)
def spec.Table{af:N->ay bp}{d:o}{k:tM}{t:U}{q:M o}{K:U->o->H->Prop}(h:sB af u d k)(ab:EJ d k.eK)(ht:Ints u t q)(aN:gV q d=0)
  (au:∀s u',u.le u'->yH u' s (Cl k.eK q)->K s 0 u'):C.PR (some ⟨k.b,0,none⟩) t u K:=by
 have ae:=h.len
 have hm:=ab.many
 obtain⟨n,b4,nd,dD⟩:=ab.Mu
 obtain⟨d1,d2,d3,d4⟩:=oh aN
 have ar:q.length=k.eK.length*n:=by omega
 have hdiv:q.length/k.eK.length=n:=by rw[ar];exact Nat.mul_div_cancel_left n (by omega)
 apply aG.PR
 refine⟨λe=>(by cases e),λ_=>⟨_,rfl,_,H.ba h.cell 0,spec.iA ht ?_⟩⟩
 rw[aN]
 refine⟨λe=>aW rfl e,λ_=>⟨_,rfl,k.fY,H.ba h.cell 1,λs x w=>0<=x/\x<=k.fY.n/\∃ck:M (U×M o),ck.map (·.2)=(lM x.toNat).map (Vi k.eK q n)/\aJ u w 359 1 s (ck.flatMap λy=>encS y.1)/\∀y∈ck,aJ u w 66 2 y.1 (y.2.flatMap Fo)/\dH s y.1,λ_ x _=>k.fY.n-x.toNat,⟨by omega,by omega,[],rfl,aJ.nil (H.le.refl u) _ _,λy ah=>(by cases ah)⟩,?_⟩⟩
 rintro s x w ⟨bL,dC,ck,fi,aa,b6⟩
 have hw:=h.mono aa.le
 have aB7:ck.length=x.toNat:=by have:=ei iS fi;simpa using this
 have dw:s.n=ck.length:=gW vw (by decide) aa.own.cE
 have GD:=ht.mono aa.le
 refine⟨λJ=>?_,λgG=>?_⟩
 obtain⟨p,ad,c,ow,cH,bJ⟩:=hw.at bL J
 have pJ:=dD c cH
 have sU:=hw.tU c cH
 have ZF:=pJ.many
 have o3:=sU.len
 refine⟨p,ad,⟨bL,J⟩,c.1,bJ,λs2 y v=>0<=y/\y<=c.1.n/\aJ w v 66 2 s2 (((c.2.take y.toNat).map λY=>fE (tl q n x.toNat) Y.2 n).flatMap Fo),λ_ y _=>c.1.n-y.toNat,⟨by omega,by omega,aJ.nil (H.le.refl w) _ _⟩,?_⟩
 rintro s2 y v ⟨iI,jx,dI⟩
 have aqI:s2.n=(c.2.take y.toNat).length:=by have:=gW RY (by decide) dI.own.cE;rw[de] at this;exact this
 rw[gZ] at aqI
 have aA:=hw.mono dI.le
 refine⟨λah=>?_,λavs=>?_⟩
 obtain⟨dy,eY,Y,aC,TM,Mp,avN⟩:=(sU.mono dI.le).at iI ah
 refine⟨dy,eY,⟨iI,ah⟩,Y.1,Mp,_,rfl,k.fY,H.ba aA.cell 1,?_⟩
 dsimp only
 rw[ae]
 have aiQ:=GD.mono dI.le
 refine spec.x5 aiQ ar hm.1 b4 (by omega) bL (by omega) λyp ru=>?_
 have pl:=Uq ar (i:=x.toNat) (by omega)
 obtain⟨aS,aB⟩:=pJ.each Y TM
 refine spec.lD (ru _ aiQ) avN (Ur d4 _ _) (by omega) aB (by omega) λa b EB ub YI=>?_
 refine oc azG (aoK a b) (by decide) rfl (by simp[cT]) dI (by show s2.n<_;omega) (by show(s2.n+1)*_<=_;omega) λaq u' bP hW _ _ _=>⟨⟨by omega,by omega⟩,⟨by omega,by omega,?_⟩,by omega⟩
 rw[show(y+1).toNat=y.toNat+1 by omega,gS,aC,ek,hz]
 obtain⟨gj,eA⟩:=CC EB ub
 rw[YI,pl] at gj eA
 rw[gj,eA] at bP
 exact bP
 have GM:y.toNat=c.2.length:=by have:¬y<(c.1.n:o):=avs;omega
 rw[GM,mQ] at dI
 have DA:=aa.mono dI.le
 have Z:dH s s2:=λg h1 h2=>by have:=dI.fresh g h2;exact dE aa h1 this
 refine oc azF (aoJ s2) (by decide) rfl (by simp[cT]) DA (by show s.n<_;omega) (by show(s.n+1)*_<=_;omega) λaq u' bP hW he eu _=>⟨⟨by omega,by omega⟩,⟨by omega,by omega,ck++ [(s2,c.2.map λY=>fE (tl q n x.toNat) Y.2 n)],?_,?_,λY aC=>?_⟩,by dsimp only;omega⟩
 rw[show(x+1).toNat=x.toNat+1 by omega,List.range_succ,ek,ek,fi]
 unfold Vi
 rw[show([x.toNat].map λi=>(((k.eK[i]?).map (·.2)).getD []).map λy=>fE (tl q n i) y.2 n)=[(((k.eK[x.toNat]?).map (·.2)).getD []).map λy=>fE (tl q n x.toNat) y.2 n] from rfl,ow]
 rfl
 rw[hz];exact bP
 have key:∀Y:U×M o,aJ u v 66 2 Y.1 (Y.2.flatMap Fo)->dH s Y.1->aJ u u' 66 2 Y.1 (Y.2.flatMap Fo)/\dH aq Y.1:=λY h1 h2=>⟨aJ.else h1 he (λg W=>DA.fresh g W) h2,λg g1 g2=>by rcases eu g g1 with e|e;exact h2 g e g2;exact dE h1 g2 e⟩
 rcases cN.1 aC with aC|aC
 exact key Y ((b6 Y aC).1.mono dI.le) (b6 Y aC).2
 rw[fV.1 aC]
 exact key (s2,_) (dI.weaken aa.le) Z
 have eR:x.toNat=k.eK.length:=by have:¬x<(k.fY.n:o):=gG;omega
 rw[eR] at fi
 refine au _ _ aa.le ⟨ck,aa.own.cE,?_,λy ah=>(b6 y ah).1.own.cE⟩
 rw[fi]
 unfold Cl
 rw[hdiv]
structure IM(cZ:M (M o)):Prop where
 many:cZ.length<=8
 each:∀r∈cZ,∀d∈r,0<=d/\d<=64*18446744056529682436
def IM.get(h:IM cZ)(i j:N):0<=(cZ.getD i []).getD j 0/\(cZ.getD i []).getD j 0<=64*18446744056529682436:=by
 rw[du (l:=cZ)];cases e:cZ[i]? with
 |none=>simp|some r=>
  have O:=dK e;simp only[K1];rw[du];cases aB:r[j]? with
  |none=>simp|some d=>exact h.each r O d (dK aB)
def azH{d:o}{eK:M (U×M (U×M o))}{q:M o}(ab:EJ d eK)(aN:gV q d=0):IM (Cl eK q):=by
 obtain⟨n,b4,nd,dD⟩:=ab.Mu;obtain⟨d1,d2,d3,d4⟩:=oh aN;have hm:=ab.many;have ar:q.length=eK.length*n:=by omega
 have hdiv:q.length/eK.length=n:=by rw[ar];exact Nat.mul_div_cancel_left n (by omega)
 have Sl:n<=64:=by have:1*n<=eK.length*n:=ts _ hm.1;omega
 refine⟨by unfold Cl;rw[de,List.length_range];omega,λr O y ah=>?_⟩;unfold Cl at O;obtain⟨i,hi,rfl⟩:=bf.1 O;have eO:i<eK.length:=K9.1 hi;rw[hdiv] at ah;unfold Vi at ah;rw[cr eO] at ah;obtain⟨Y,aC,rfl⟩:=bf.1 ah;obtain⟨aS,aB⟩:=(dD _ (kE eO)).each Y aC;have:=LG (Ur d4 n i) aB n (by rw[Uq ar eO];omega) (by omega);have h2:(n:o)*18446744056529682436<=64*18446744056529682436:=by omega
 omega
def azs(h:IM cZ)(code:M o):∀i:N,0<=Ci cZ code i/\Ci cZ code i<=i*(64*18446744056529682436):=by
 intro i;induction i with
 |zero=>exact⟨nA _,nA _⟩|succ i aM=>have:=h.get i (code.getD i 0).toNat;show 0<=Ci cZ code i+_/\Ci cZ code i+_<=_;omega
def spec.ano{t:U}{code:M o}{K:o->o->o->H->Prop}(ag:yH u s cZ)(ht:Ints u t code)(ab:IM cZ)(au:∀x y e,dh x->dh y->fl x y=MK cZ code->K x y e u):C.PS s t u K:=by
 have dw:=ag.len;have TA:=ht.len;have OQ:=ht.max;have z0:dh 0:=⟨by decide,by decide⟩;have bad:¬(cZ.length=code.length/\∀i,i<code.length->0<=code.getD i 0/\code.getD i 0<(cZ.getD i []).length)->K 0 0 101 u:=λh=>au 0 0 101 z0 z0 (by unfold MK;rw[aF h];rfl);apply aG.PS;refine⟨λal=>bad λh=>al (by omega),λhe=>⟨λ_ x _ _ w=>w=u/\0<=x/\x<=t.n/\∀i:N,(i:o)<x->0<=code.getD i 0/\code.getD i 0<(cZ.getD i []).length,λ_ x _ _ _=>t.n-x.toNat,⟨rfl,by omega,by omega,λi hi=>aW hi (by omega)⟩,?_⟩⟩;rintro _ x _ _ w ⟨rfl,bL,dC,W⟩;refine⟨λJ=>?_,λgG=>?_⟩;obtain⟨p,ad,bJ⟩:=ht.at bL J;obtain⟨dy,eY,y,Fe,VP⟩:=ag.at bL (by omega);have GN:=gW RY (by decide) VP;refine⟨p,ad,⟨bL,J⟩,_,bJ,λaBN=>bad λh=>?_,λpa=>⟨dy,eY,⟨bL,by omega⟩,y,Fe,λhle=>bad λh=>?_,λbD=>⟨⟨by omega,by omega⟩,⟨rfl,by omega,by omega,λi hi=>?_⟩,by dsimp only;omega⟩⟩⟩;have:=h.2 x.toNat (by omega);omega;have:=h.2 x.toNat (by omega);omega;by_cases e:i=x.toNat;rw[e];omega;exact W i (by omega);have eR:x=code.length:=by have:¬x<(t.n:o):=gG;omega
 have dX:cZ.length=code.length/\∀i,i<code.length->0<=code.getD i 0/\code.getD i 0<(cZ.getD i []).length:=⟨by omega,λi hi=>W i (by omega)⟩;have e:MK cZ code=Ci cZ code code.length:=a1 dX;refine⟨λ_ x a b _ _ v=>v=w/\0<=x/\x<=t.n/\dh a/\dh b/\fl a b=Ci cZ code x.toNat,λ_ x _ _ _ _ _=>t.n-x.toNat,⟨rfl,by omega,by omega,z0,z0,rfl⟩,?_⟩;rintro _ x a b _ _ v ⟨rfl,bL,dC,EB,ub,hw⟩;refine⟨λJ=>?_,λgG=>?_⟩;obtain⟨p,ad,bJ⟩:=ht.at bL J;obtain⟨dy,eY,y,Fe,VP⟩:=ag.at bL (by omega);have GN:=gW RY (by decide) VP;obtain⟨g0,g1⟩:=dX.2 x.toNat (by omega);obtain⟨j,aP⟩:∃j,j=(code.getD x.toNat 0).toNat:=⟨_,rfl⟩;have kK:j<(cZ.getD x.toNat []).length:=by omega
 have ah5:(cZ.getD x.toNat [])[j]?=some (cZ.getD x.toNat [])[j]:=cr kK;obtain⟨lL,rp,fg⟩:=br.elem RY (by decide) VP ah5;have aw:(cZ.getD x.toNat []).getD j 0=(cZ.getD x.toNat [])[j]:=by rw[du,ah5];rfl
 have bE:=ab.get x.toNat j;rw[aw] at bE;have aB6:=azs ab code x.toNat;have Du:=ab.many;have aCd:(x.toNat:o)<=8:=by omega
 have afk:=fg 0 _ rfl;rw[Addr.add_zero'] at afk;refine⟨p,ad,⟨bL,J⟩,_,bJ,dy,eY,⟨bL,by omega⟩,y,Fe,lL,rp,⟨g0,by omega⟩,_,by unfold a8;rw[<-aP];exact afk,_,by unfold a8;rw[<-aP];exact fg 1 _ rfl,?_⟩;have aq4:mw (cZ.getD x.toNat [])[j]:=⟨bE.1,by omega⟩;refine spec.Cy EB ub (Zj aq4) (BG _) (λnH mW mV aAi hv=>⟨λh=>aW rfl h,λ_=>⟨⟨by omega,by omega⟩,⟨rfl,by omega,by omega,mV,aAi,?_⟩,by dsimp only;omega⟩⟩) λar9=>?_;rw[hv,q0,hw,show(x+1).toNat=x.toNat+1 by omega];show _=Ci cZ code x.toNat+_;rw[<-aP,aw];rw[q0,hw] at ar9;omega;have eR:x.toNat=code.length:=by have:¬x<(t.n:o):=gG;omega
 exact au a b 0 EB ub (by rw[e,hw,eR])
end
section
variable{u ai:H}{b:N}{q:M o}{t:U}
open lS (ea sR pj zz iO C1)
def aoe:hn aH 318=ak:=by kernel_rfl
def ay6{l:M (o×ap)}{K:U->H->Prop}(h:fx u b l)(ar:l.length<=1000000)(au:∀s u',aJ u u' 3 1 s ((dQ (l.map (·.1))).flatMap encI)->K s u'):
  C.Pr (some b) u λfv aU=>C.qa fv aU K:=by
 have bS:(l.map (·.1)).Nodup:=by obtain⟨_,_,_,he⟩:=h;exact he.nodup
 refine aG.Pr (some b) u _ λn0 eX=>?_
 have hle:=H.b1 (u:=u) (b:=n0) (.cells #[.map (some b)] 125 (0,0)) eX
 refine eE.spec.qa ar bS (λai rv=>?_) λs u' aa=>au s u' (aa.weaken hle)
 have hm:=h.mono (hle.trans rv)
 have I:ai.cell? ⟨n0,0,none⟩=some (.map (some b)):=H.ba (rv _ _ (H.bh _ _ _)) 0
 intro mu cV kW ah v K h0 au
 refine⟨_,_,_,rfl,hh aoe,io.weaken (ss:=[]) ?_⟩
 exact aG.ab0 mu ⟨n0,0,none⟩ v _ ⟨_,H.qo (kW _ _ h0) I,eE.abC iO hm cV kW ah h0 au⟩
def axY{w:ng}{d:o}(ae:(w.map (·.1)).Nodup)(aw:1<=d/\d<=64)(hi:∀e∈w,1<=e.1/\e.1<=1000000000)(aA:∀e∈w,(e.2.2.length:o)=d/\dj e.2.2)(ag:w.length<=512)(aN:gV q d=0){ls:M az}(ad:(ls.map az.bz).Perm (w.map λe=>(e.1,e.2.2))):kk ls q:=by obtain⟨_,_,d3,d4⟩:=oh aN;refine⟨d4,?_⟩;rw[d3];have ar:=ad.length_eq;rw[de,de] at ar;refine Ek aw (by omega) ?_ λp DD=>?_;rw[oE];refine((ad.map (·.1)).nodup_iff).2 ?_;rw[ep];exact ae;obtain⟨e,he,rfl⟩:=bf.1 (ad.mem_iff.1 DD);exact⟨(hi e he).1,(hi e he).2,aA e he⟩
def jQ.weaken{u':H}{aD ss sr:U}{gI:M bO}{seen:M o}{rest:M cn}(h:jQ u u' aD ss sr gI seen rest)(k:ai.le u):jQ ai u' aD ss sr gI seen rest:=
 ⟨h.h.weaken k,h.s.weaken k,h.r.weaken k,λr O=>⟨(h.g r O).l.weaken k,(h.g r O).h.weaken k,(h.g r O).i.weaken k⟩,h.eB⟩
def spec.azD{af:N->ay bp}{T:aQ}{k bud:o}{K:U->U->U->o->H->Prop}(h:In ai u af b T)(aT:dS T)(lW:T.cd=none)(ht:Ints u t q)
  (di:gE q T.an k bud≠0->∀u',u.le u'->K ⟨none,0,0⟩ ⟨none,0,0⟩ ⟨none,0,0⟩ (gE q T.an k bud) u')
  (bE:gE q T.an k bud=0->∀aD ss sr rest u',jQ u u' aD ss sr (il T q k bud) (fU T q k bud) rest->rest.map cn.core=jF T q k bud->K aD ss sr 0 u'):C.RF (some ⟨b,0,none⟩) t k bud u K:=by
 apply aG.RF
 refine⟨_,rfl,_,aQ.bJ h.aI.cell,spec.qq ht ⟨λal=>di al u (H.le.refl u),λhe=>?_⟩⟩
 obtain⟨aA,b3,cu,gd,hE⟩:=w3.1 he
 refine spec.Rows h aT λs ls aU bX ad ag=>?_
 have hle:=bX.own.le
 have ae:=h.aI.rT
 have np:=ayl ae ad ag
 have aN:=axY ae aT.hl aT.ids aT.vec aT.small aA ad
 have FM:¬T.cd.isSome=ak:=by rw[lW];simp
 have amw:∀j,(ls.take j).map az.bz=((tz T.w).take j).map az.bz:=λj=>by rw[Lm,np,Lm]
 have bk:∀j,(ls.drop j).map az.bz=((tz T.w).drop j).map az.bz:=λj=>by rw[Ee,np,Ee]
 have NA:=al8.2 ⟨aN,b3,cu,gd,hE⟩
 refine spec.anM bX.rws (ht.mono hle) (λal=>aW NA al) λ_ aD ss sr ac a2 a3 u' aE=>?_
 refine bE he aD ss sr (wF ac a2 a3 (ls.drop bud.toNat)) u' ?_ ?_
 unfold il fU
 rw[aF FM,aF FM,<-ah3 (amw bud.toNat),oE ((tz T.w).take bud.toNat),<-amw,<-oE]
 exact jQ.weaken aE hle
 unfold jF
 rw[aF FM]
 exact ax9 (bk bud.toNat)
def spec.anN{a b:bO}{K:o->H->Prop}(h:K (if bD a b=ak then -1 else 1) u):C.RC a.1 (dk a.2) (dr a.2) b.1 (dk b.2) (dr b.2) u K:=by apply aG.RC;refine spec.qX ⟨λab=>?_,λab=>?_⟩;rw[a1 ab] at h;exact h;rw[aF (by rw[ab];simp)] at h;exact h
structure anO(B:H)(cb:N)(k:o)(w:ng)(q ord:M o)(bud x:N)(ji mn:U)(v:H):Prop where
 ex:∃v0,iJ B cb k v0 ((ord.take (min x bud)).map (y9 w q))/\aJ v0 v 3 1 ji (((ord.take x).drop bud).flatMap encI)/\aJ v0 v 3 1 mn ((ord.take (min x bud)).flatMap encI)/\dH ji mn
def akL{v0 v:H}{s:U}{l m:M o}{Y:o}(ag:aJ v0 v 3 1 s (l.flatMap encI))(ht:aJ v0 v 3 1 t (m.flatMap encI))(Z:dH s t)(ar:l.length<=1000000){K:U->H->Prop}
  (au:∀aq b8,aJ v0 b8 3 1 aq ((l++ [Y]).flatMap encI)->aJ v0 b8 3 1 t (m.flatMap encI)->dH aq t->K aq b8):
  dd aH (dL 30 1 #[(0,.int .i64 Y)]) [.one .slice] v λs1 aU=>dd aH (ey #[30,30] 30 #[.slice s.a s.n s.c,.slice s1.a s1.n s1.c]) [.one .slice] aU K:=by
 have ae:=ag.ints.len
 refine oc oN (AB Y) (by decide) rfl (by simp[cT]) ag (by omega) (by omega) λaq b8 aa _ he eu _=>au aq b8 ?_ (aJ.else ht he (λg W=>ag.fresh g W) Z) λg W h2=>?_
 rw[hz];exact aa
 rcases eu g W with e|e
 exact Z g e h2
 exact dE ht h2 e
def spec.aoZ{af:N->ay bp}{T:aQ}{c:pz}{k bud:o}{K:U->U->U->o->H->Prop}(h:In ai u af b T)(aT:dS T)(lW:T.cd=some c)(ht:Ints u t q)
  (di:gE q T.an k bud≠0->∀u',u.le u'->K ⟨none,0,0⟩ ⟨none,0,0⟩ ⟨none,0,0⟩ (gE q T.an k bud) u')
  (bE:gE q T.an k bud=0->∀aD ss sr rest u',jQ u u' aD ss sr (il T q k bud) (fU T q k bud) rest->rest.map cn.core=jF T q k bud->K aD ss sr 0 u'):C.RB (some ⟨b,0,none⟩) t k bud u K:=by
 have aI:=h.aI
 have cell:u b=some (.cells #[.int .i64 T.an,.map (some T.m),.pointer c.ptr,.map (some c.hP)] 132 (0,0)):=by have:=aI.cell;unfold aQ.obj at this;rw[lW] at this;exact this
 have sL:=aI.sL c lW
 apply aG.RB
 refine⟨_,rfl,_,H.ba cell 0,spec.qq ht ⟨λal=>di al u (H.le.refl u),λhe L6 a7=>?_⟩⟩
 have bE:=bE he
 obtain⟨aA,b3,cu,gd,hE⟩:=w3.1 he
 obtain⟨_,_,d3,d4⟩:=oh aA
 have ae:=aI.rT
 have o3:(c.sA.map (·.1)).Nodup:=by obtain⟨es,cl,_,he⟩:=sL.map;have:=he.nodup;rw[R0] at this;exact this
 have fB:=aT.small
 have lu:∀dx,c.co=some dx->IM (Cl dx.eK q):=λdx hk=>azH (aT.tU c dx lW hk) aA
 have main:∀(lB:U) (v:H),u.le v->(∀dx,c.co=some dx->yH v lB (Cl dx.eK q))->L6 lB v:=by
  intro lB v hle aaE;apply a7;refine⟨_,rfl,_,H.ba (hle _ _ cell) 1,ay6 (aI.map.mono hle) (by simp[ea];omega) λp9 gz qz=>?_⟩;rw[R0] at qz;obtain⟨ids,kt⟩:∃ids,ids=dQ (T.w.map (·.1)):=⟨_,rfl⟩;rw[<-kt] at qz;have eO:ids.length=T.w.length:=by rw[kt,Ab,de]
  have ags:=qz.ints.len;have aia:=hle.trans qz.le;refine⟨λoK x w=>0<=x/\x<=p9.n/\aJ gz w 68 3 oK (((ids.take x.toNat).map λid=>((id,AK T.cd q id):bO)).flatMap fH),λ_ x _=>p9.n-x.toNat,⟨by omega,by omega,aJ.nil (H.le.refl gz) _ _⟩,?_⟩;rintro oK x w ⟨bL,dC,aa⟩;have hw:=aia.trans aa.le;have Sf:oK.n=(ids.take x.toNat).length:=by have:=aa.fi.len;rw[de] at this;exact this
  rw[gZ] at Sf;refine⟨λJ=>?_,λgG=>?_⟩
  .obtain⟨p,ad,bJ⟩:=(qz.ints.mono aa.le).at bL J;have eR:x.toNat<ids.length:=by omega
   have TI:ids[x.toNat]?=some ids[x.toNat]:=cr eR;have aw:ids.getD x.toNat 0=ids[x.toNat]:=by rw[du,TI];rfl
   rw[aw] at bJ;have one:∀(a cO:o),a=dk (AK T.cd q ids[x.toNat])->cO=dr (AK T.cd q ids[x.toNat])->∀{fZ:U->H->Prop},(∀aq w',bo (x+1)->(0<=x+1/\x+1<=p9.n/\aJ gz w' 68 3 aq (((ids.take (x+1).toNat).map λid=>((id,AK T.cd q id):bO)).flatMap fH))->(p9.n-(x+1).toNat:N)<p9.n-x.toNat->fZ aq w')->
     dd aH (dL 38 1 #[(0,.agg #[.int .i64 ids[x.toNat],.int .u64 a,.int .u64 cO])]) [.one .slice] w λs1 aU=>dd aH (ey #[38,38] 38 #[.slice oK.a oK.n oK.c,.slice s1.a s1.n s1.c]) [.one .slice] aU fZ:=by
    intro a cO aE SE fZ nS
    subst aE;subst SE
    refine oc amq (aoA _ _ _) (by decide) rfl (by simp[cT]) aa (by show oK.n<_;omega) (by show(oK.n+1)*_<=_;omega) λaq w' bP _ _ _ _=>nS aq w' ⟨by omega,by omega⟩ ⟨by omega,by omega,?_⟩ (by omega)
    rw[show(x+1).toNat=x.toNat+1 by omega,gS,TI,ek,hz]
    exact bP
   refine⟨p,ad,⟨bL,J⟩,_,bJ,_,rfl,c.ptr,H.ba (hw _ _ cell) 2,λal=>?_,λA9=>?_⟩;cases hk:c.co with
   |none=>exact aW (by simp[pz.ptr,hk]) al|some dx=>
    have SR:AK T.cd q ids[x.toNat]=MK (Cl dx.eK q) (u4 c.sA ids[x.toNat]):=by obtain⟨hP,sA,co⟩:=c;obtain rfl:co=some dx:=hk;rw[lW];rfl
    obtain⟨y,ah,cv⟩:∃y:U,(fR (ea c.sA) ids[x.toNat]).getD (.slice none 0 0)=aL.slice.enc y/\Ints w y (u4 c.sA ids[x.toNat]):=by rcases sR c.sA ids[x.toNat] with⟨W,hm⟩|⟨e,he,ch,W⟩;exact⟨⟨none,0,0⟩,by rw[W];rfl,by rw[ayh hm];exact Ints.nil w⟩;exact⟨e.2.1,by rw[W];rfl,by rw[<-ch,Qp o3 he];exact(sL.vec e he).1.mono hw⟩
    refine⟨_,rfl,_,H.ba (hw _ _ cell) 3,Qw iO (sL.map.mono hw) (ct:=.slice) y ah ?_⟩;refine spec.ano ((aaE dx hk).mono (qz.le.trans aa.le)) cv (lu dx hk) λa cO e EB ad6 YH=>?_;obtain⟨gj,eA⟩:=CC EB ad6;rw[YH,<-SR] at gj eA;exact one a cO gj eA λaq w' i1 i2 i3=>⟨i1,i2,i3⟩
   have SR:AK T.cd q ids[x.toNat]=0:=by
     obtain⟨hP,sA,co⟩:=c;cases co with
     |none=>rw[lW];rfl|some dx=>simp[pz.ptr] at A9
   exact one 0 0 (by rw[SR];rfl) (by rw[SR];rfl) λaq w' i1 i2 i3=>⟨i1,i2,i3⟩
  have eR:x.toNat=ids.length:=by have:¬x<(p9.n:o):=gG;omega
  rw[eR,mQ] at aa;rw[eR] at Sf;refine spec.LD (cf:=λa b=>if bD a b=ak then -1 else 1) (λa b=>by by_cases h:bD a b=ak<;>simp[h]) (enters_of Tryz.func317 (by kernel_rfl) rfl)
   (λa b u'=>spec.anN (K:=λfm dc=>fm=(if bD a b=ak then -1 else 1)/\dc=u') ⟨rfl,rfl⟩) aa (by rw[de];omega) λhb Oh _=>?_
  obtain⟨ag,Zh⟩:∃ag,ag=l4 (ids.map λid=>((id,AK T.cd q id):bO)):=⟨_,rfl⟩;rw[<-Zh] at Oh;obtain⟨ord,On⟩:∃ord,ord=qH T q:=⟨_,rfl⟩;have Om:ord=ag.map (·.1):=by rw[On,Zh,kt];rfl
  have vR:ord.length=oK.n:=by rw[Om,de,Zh,QK,de];omega
  have aui:ord.Perm (T.w.map (·.1)):=by rw[On];exact akv T q
  have aja:=aia.trans Oh.le;refine spec.sy (λab=>by omega) λ_ _ cb V3 aCh vO pS=>?_;refine⟨λji x ado mn adp w=>ado=⟨none,0,0⟩/\adp=⟨none,0,0⟩/\0<=x/\x<=oK.n/\anO hb cb k T.w q ord bud.toNat x.toNat ji mn w,λ_ x _ _ _ _=>oK.n-x.toNat,⟨rfl,rfl,by omega,by omega,V3,by simpa using pS,by simpa using aJ.nil (H.le.refl V3) 3 1,by simpa using aJ.nil (H.le.refl V3) 3 1,λg W=>by simp[U.aj] at W⟩,?_⟩;rintro ji x ado mn adp w ⟨Xt,Xu,bL,dC,v0,j4,AR,Jm,pM⟩;change aJ v0 w _ 1 ji _ at AR;change aJ v0 w _ 1 mn _ at Jm;change dH ji mn at pM;have jf:=j4.le;have lw:=aja.trans (jf.trans AR.le);refine⟨λJ=>?_,λgG=>?_⟩;obtain⟨p,ad,y,ah,bJ,c1,c2⟩:=(Oh.fi.mono (jf.trans AR.le)).at bL J;have aju:ord[x.toNat]?=some y.1:=by rw[Om,iR,ah];rfl
  have Bo:ord.take (x+1).toNat=ord.take x.toNat++ [y.1]:=by rw[show(x+1).toNat=x.toNat+1 by omega,gS,aju];rfl
  have ku:y.1∈T.w.map (·.1):=aui.mem_iff.1 (dK aju);have eR:x.toNat<ord.length:=by omega
  refine⟨p,ad,⟨bL,J⟩,_,bJ,_,c1,_,c2,λab=>?_,λab=>?_⟩;refine akL AR Jm pM (by rw[oH,gZ];omega) λaq w' i1 i2 i3=>⟨⟨by omega,by omega⟩,⟨Xt,Xu,by omega,by omega,v0,?_,?_,?_,i3⟩,by dsimp only;omega⟩;rw[show min (x+1).toNat bud.toNat=min x.toNat bud.toNat by omega];exact j4;rw[Bo,acK (by rw[gZ];omega)];exact i1;rw[show min (x+1).toNat bud.toNat=min x.toNat bud.toNat by omega];exact i2;obtain⟨e,kr,ch⟩:=bf.1 ku;obtain⟨Y,aC,W⟩:∃Y,fR (ea T.w) y.1=some (aL.slice.enc Y)/\Ints u Y (u4 T.w y.1):=by rcases sR T.w y.1 with⟨_,hm⟩|⟨e,he,ch,W⟩;exact aW ku hm;exact⟨e.2.1,W,by rw[<-ch,Qp ae he];exact(aI.vec e he).1⟩
  have Gw:u4 T.w y.1=e.2.2:=by rw[<-ch];exact Qp ae kr
  obtain⟨v1,v2⟩:=aT.vec e kr;refine⟨_,rfl,_,H.ba (lw _ _ cell) 1,Qw iO (aI.map.mono lw) (ct:=.slice) Y (by rw[aC];rfl) ?_⟩;refine spec.lD (W.mono lw) (ht.mono lw) (by rw[Gw];exact v2) (by rw[Gw];have:=aT.hl;omega) d4 (by rw[Gw];omega) λa cO EB ad6 YH=>?_;obtain⟨gj,eA⟩:=CC EB ad6;rw[YH] at gj eA;rw[gj,eA];have I:C.qW (some ⟨cb,0,none⟩) (y9 T.w q y.1).1 (dk (y9 T.w q y.1).2) (dr (y9 T.w q y.1).2) v0 λ_ b8=>iJ hb cb k b8 (y9 T.w q y.1::(ord.take (min x.toNat bud.toNat)).map (y9 T.w q)):=spec.qW j4 b3 cu λ_ _ bU=>bU;refine I.frame AR.le ?_;rintro _ iV w' Z sT;have R8:=aJ.Jg AR Z;have R9:=aJ.Jg Jm Z;have aS:min x.toNat bud.toNat=x.toNat:=by omega
  have aB:min (x+1).toNat bud.toNat=(x+1).toNat:=by omega
  refine akL R9 R8 pM.symm (by rw[gZ];omega) λaq eA i1 i2 i3=>⟨⟨by omega,by omega⟩,⟨Xt,Xu,by omega,by omega,iV,?_,?_,?_,i3.symm⟩,by dsimp only;omega⟩;rw[aB,Bo,ek];rw[aS] at sT;exact sT.perm (mR _ _).symm;have d1:(ord.take (x+1).toNat).drop bud.toNat=[]:=sl (by rw[gZ];omega);have d2:(ord.take x.toNat).drop bud.toNat=[]:=sl (by rw[gZ];omega);rw[d1];rw[d2] at i2;exact i2;rw[aB,Bo];rw[aS] at i1;exact i1;have eR:x.toNat=ord.length:=by have:¬x<(oK.n:o):=gG;omega
  obtain⟨S,bl⟩:∃S,S=ord.take bud.toNat:=⟨_,rfl⟩;obtain⟨R,bX⟩:∃R,R=ord.drop bud.toNat:=⟨_,rfl⟩;have apL:ord.take (min x.toNat bud.toNat)=S:=by rw[bl,eR];rcases Nat.le_total ord.length bud.toNat with bU|bU;rw[Eb bU,mQ,hR bU];rw[Nat.min_eq_right bU]
  have apK:(ord.take x.toNat).drop bud.toNat=R:=by rw[eR,mQ,bX]
  rw[apL] at j4 Jm;rw[apK] at AR;have uf:S.length<=ord.length:=by rw[bl,gZ];omega
  have Jw:R.length<=ord.length:=by rw[bX,oH];omega
  have FM:T.cd.isSome=ak:=by rw[lW];rfl
  have avy:il T q k bud=eT k.toNat (S.map (y9 T.w q)):=by unfold il;rw[a1 FM,<-On,<-bl]
  have avA:fU T q k bud=dQ S:=by unfold fU;rw[a1 FM,<-On,<-bl]
  have avz:jF T q k bud=if R=[] then[] else[(1,0,[],[],dQ R)]:=by unfold jF;rw[a1 FM,<-On,<-bX]
  rw[avy,avA,avz] at bE;have Si:=AR.ints.len;refine spec.rQ Jm (by omega) λamG xJ asu=>?_;have R8:aJ v0 amG 3 1 ji (R.flatMap encI):=aJ.else AR asu (λg W=>Jm.fresh g W) pM.symm;intro WD X5;have Q4:=aja.trans jf;have Py:∀(x:U),dH x ⟨none,0,0⟩:=λx g _ W=>by simp[U.aj] at W
  have yT:∀(x:U),dH ⟨none,0,0⟩ x:=λx g W=>by simp[U.aj] at W
  have last:∀(sr:U) (rest:M cn) (v:H),iJ hb cb k v (S.map (y9 T.w q))->aJ v0 v 3 1 mn ((dQ S).flatMap encI)->aJ u v 102 6 sr (rest.flatMap tZ)->(∀r∈rest,yF u v r)->(q4 ⟨none,0,0⟩ mn sr rest).Pairwise dH->rest.map cn.core=(if R=[] then[] else[(1,0,[],[],dQ R)])->WD ⟨none,0,0⟩ mn sr v:=by intro sr rest v i1 i2 i3 i4 i5 i6;refine X5 ⟨none,0,0⟩ mn sr v (spec.qV i1 λaq u' bP=>bE aq mn sr rest u' ⟨bP.weaken (Q4.trans i2.le),(i2.weaken Q4).mono bP.le,i3.mono bP.le,λr O=>⟨(i4 r O).l.mono bP.le,(i4 r O).h.mono bP.le,(i4 r O).i.mono bP.le⟩,?_⟩ i6);refine k6.2 ⟨λy ah=>?_,(k6.1 i5).2⟩;have kn:∀{e dx:N} {xs:M ap} {aU:H},aJ aU v e dx y xs->dH aq y:=λbU g h1 h2=>dE bU h2 (bP.fresh g h1);rcases cJ.1 ah with rfl|ah;exact kn i2;rcases cJ.1 ah with rfl|ah;exact kn i3;obtain⟨r,O,ah⟩:=ej.1 ah;simp only[cn.jw,cJ,qL,qM] at ah;rcases ah with rfl|rfl|rfl;exact kn (i4 r O).l;exact kn (i4 r O).h;exact kn (i4 r O).i
  have asI:dH mn ji:=pM.symm;obtain rfl:ado=⟨none,0,0⟩:=Xt;obtain rfl:adp=⟨none,0,0⟩:=Xu;refine⟨λpa=>?_,λrm=>?_⟩;have Ys:R≠[]:=λe=>by rw[e] at Si;simp at Si;omega
  refine spec.rQ R8 (by omega) λLM xK asv=>?_;have R9:aJ v0 LM 3 1 mn ((dQ S).flatMap encI):=aJ.else xJ asv (λg W=>R8.fresh g W) pM;refine mo (eE.afd ji) λj3 mb=>?_;obtain⟨Y,aC⟩:∃Y,Y=LM.ins j3 (.cells [cY .i64 1,.slice none 0 0,.slice none 0 0,.int .u64 0,.int .u64 0,.slice ji.a ji.n ji.c].toArray 102 (0,0)):=⟨_,rfl⟩;have DW:LM.le Y:=by rw[aC];exact H.b1 _ mb
  have aip:=aJ.make (k:=6) (H.le.refl LM) mb (cells:=[cY .i64 1,.slice none 0 0,.slice none 0 0,.int .u64 0,.int .u64 0,.slice ji.a ji.n ji.c].toArray) (e:=102) (n:=1) (by omega) (by simp);rw[<-aC] at aip ⊢;have GJ:u.le LM:=Q4.trans xK.le;have JK:∀{e dx:N} {y:U} {xs:M ap} {aU:H},aJ aU LM e dx y xs->dH y ⟨some ⟨j3,0,none⟩,1,1⟩:=λbU g h1 h2=>by
   have:j3=g:=by simpa[U.aj] using h2
   exact dE bU h1 (by rw[<-this];exact mb)
  refine last ⟨some ⟨j3,0,none⟩,1,1⟩ [eE.EY ji (dQ R)] Y (j4.mono (xK.le.trans DW)) (R9.mono DW) ?_ (λr O=>?_) ?_ ?_;have aS:([eE.EY ji (dQ R)]:M cn).flatMap tZ=[cY .i64 1,.slice none 0 0,.slice none 0 0,.int .u64 0,.int .u64 0,.slice ji.a ji.n ji.c]:=by simp[tZ,eE.EY,Zk,abV]
  rw[aS];exact aip.weaken GJ;rw[fV.1 O];exact⟨aJ.nil (GJ.trans DW) _ _,aJ.nil (GJ.trans DW) _ _,(xK.weaken Q4).mono DW⟩;show([⟨none,0,0⟩,mn,⟨some ⟨j3,0,none⟩,1,1⟩,⟨none,0,0⟩,⟨none,0,0⟩,ji]:M U).Pairwise dH;simp only[k6,cJ,qL,qM,Le,Qb,p4,rP,U8,U9];exact⟨⟨yT _,yT _,yT _,yT _,yT _⟩,⟨JK R9,Py _,Py _,asI⟩,⟨Py _,Py _,(JK xK).symm⟩,⟨yT _,yT _⟩,yT _⟩;rw[aF Ys];rfl;have Yr:R=[]:=by
    have:ji.n=0:=by omega
    rw[this] at Si;exact kN Si.symm
  refine last ⟨none,0,0⟩ [] amG (j4.mono xJ.le) xJ (aJ.nil (Q4.trans xJ.le) _ _) (λr O=>(by cases O)) ?_ (by rw[a1 Yr];rfl);show([⟨none,0,0⟩,mn,⟨none,0,0⟩]:M U).Pairwise dH;simp only[k6,cJ,qL,qM,Le,Qb,p4,rP,U8,U9];exact⟨⟨yT _,yT _⟩,Py _⟩
 refine⟨_,rfl,_,H.ba cell 2,λal=>⟨_,rfl,_,H.ba cell 2,?_⟩,λA9=>main ⟨none,0,0⟩ u (H.le.refl u) λdx hk=>?_⟩
 cases hk:c.co with
 |none=>exact aW (by simp[pz.ptr,hk]) al
 |some dx=>rw[show c.ptr=some ⟨dx.b,0,none⟩ by simp[pz.ptr,hk]];refine spec.Table (sL.co dx hk) (aT.tU c dx lW hk) ht aA λs u' hle aaE=>main s u' hle λdT dA=>?_;rw[hk] at dA;obtain rfl:=cU dA;exact aaE
 simp[pz.ptr,hk] at A9
end
end hd
