/- Texts of mine, joined and packed by pack.py. -/
import Derived.Test.YtejdhbfjjgcljaaGreatDoorMrc10
set_option linter.all false
open Go renaming Program->dR,Value->ao,World->b6,TypeId->dC,Addr->ba,Code->iK,madeCells->lO
open _root_ renaming Nat->N,List->J,Option->ay,Int->o,Bool->aI,absurd->a6
open Bool renaming true->ak,false->ax
open Go.Obj renaming cells->bA,deferred->uD
open Go.IntKind renaming i64->ci
open Go.Instr renaming makeSlice->pP,sliceAt->fR,buildSlice->dA
open Go.Builtin renaming append_->dW,zeroCells->vP
open Go.Addr renaming add->ep,mk->cr
open List renaming range->ox,replicate->eU,length->hR,flatMap->xL
open Go.Proofs.Tryz renaming prog->aH
open Go.Value renaming int->cG,pointer->gS,slice->dX,oneCell'->cF
open Int renaming tmod->nh,tdiv->gw,toNat->vU
open List.Perm renaming cons->iL
open Go.Exit renaming normal->r5
open Prod renaming fst->pd,snd->pR
set_option maxRecDepth 100000
noncomputable section
namespace Go.Proofs.YtejdhbfjjgcljaaGreatDoor
open H
namespace jm
section
variable{u:H}{b i k:N}{s:U}{x:o}{l:J av}{K:U->H->Prop}
def aAL:j9 aH 176=some (22,1,24,[.slice none 0 0]):=by kernel_rfl
def J5:n5 aH 175 3 3 (.int .i64 0):=⟨by kernel_rfl,by kernel_rfl,λ_=>by kernel_rfl⟩
def B5(c:U×J av):(encS c.1).length=1:=rfl
def kB{af:N->ay bu}{T:aT}(h:ef af u b T):u.cell? ⟨b,0,none⟩=some (.int .i64 T.dim)/\u.cell? ((cr b 0 none).add 1)=some (.slice T.kX.a T.kX.n T.kX.c)/\
  u.cell? ((cr b 0 none).add 2)=some (.slice T.bo.a T.bo.n T.bo.c)/\u.cell? ((cr b 0 none).add 3)=some (.map (some T.m)):=
 ⟨a1 h.cell 0,a1 h.cell 1,a1 h.cell 2,a1 h.cell 3⟩
def ef.Z7{af:N->ay bu}{T:aT}(h:ef af u b T):T.bo.n=T.ls.length:=gY B5 (by decide) h.nP.cC
def ef.xX{af:N->ay bu}{T:aT}(h:ef af u b T):mh u T.kX T.cs:=⟨h.yb,λc I=>by obtain⟨i,hi,rfl⟩:=pe I;exact(h.tx i _ (cn hi)).1⟩
def dP.apl{T:aT}(h:dP T):wq T.cs T.dim:=⟨h.hs,h.many.2,h.Hn⟩
def sE(w:J (o×N))(x:o):ay N:=(w.find? λp=>p.1==x).map (·.2)
def La(w:J (o×N))(x:o):fN (p4 w) x=(sE w x).map λi=>.int .i64 i:=by
 unfold fN sE p4;induction w with
 |nil=>rfl|cons p w aL=>
  simp only[gl,Gm];by_cases e:p.1=x;simp[e];have aC:(p.1==x)=ax:=by simpa using e
  simp only[aC];exact aL
def QN{w:J (o×N)}(h:sE w x=some i):(x,i)∈w:=by
 unfold sE at h;obtain⟨p,ad,rfl⟩:=SS.1 h;have h1:=Jk ad;have h2:=Jl ad;have:p.1=x:=by simpa using h2
 rw[<-this];exact h1
def QO{w:J (o×N)}:sE w x=none↔x∉w.map (·.1):=by unfold sE;simp only[aa5,JA,bk,not_exists,not_and];constructor;intro h p ad e;exact h p ad (by simp[e]);intro h p ad e;exact h p ad (by simpa using e)
def akB{xs:J ao}(h:bt u s k xs)(ac:s.n=s.c)(hk:0<k):s=⟨none,0,0⟩∨s.a≠none:=by
 rcases h.at' with h1|⟨p,ad,_⟩;have ar:=h.len;rw[h1] at ar;simp only[nT] at ar;rcases S2.1 ar.symm with h2|h2;cases s with
 |mk a n c=>
  simp only at ac h2;subst h2;subst ac;cases a with
  |none=>exact .inl rfl|some p=>exact .inr (by simp)
 omega;exact .inr (by rw[ad];simp)
def awa{id:o}{sv:U}{v:J o}(h:BN u s l)(ar:l.length<1000000)
  (aq:∀ap u',Own u' 52 2 ap ((l++ [(⟨id,sv,v⟩:av)]).flatMap cB)->gN u u' s->(∀g,ap.aj=some g->s.aj=some g∨u g=none)->K ap u'):
  c4 aH (dA 22 1 #[(0,.agg #[.int .i64 id,.slice sv.a sv.n sv.c])]) [.one .slice] u λs1 aS=>u.le aS/\c4 aH (dW #[22,22] 22 #[.slice s.a s.n s.c,.slice s1.a s1.n s1.c]) [.one .slice] aS K:=by
 have dw:s.n=l.length:=gY eY (by decide) h.cC
 have aeM:l.flatMap cB++ [.int .i64 id,.slice sv.a sv.n sv.c]=(l++ [(⟨id,sv,v⟩:av)]).flatMap cB:=by simp[cB]
 rcases h.own with ab|ac
 refine zl ic (wB id sv) (by decide) rfl (by simp[cF]) ab.f (by omega) (by omega) λap u' bQ _ he Z _=>aq ap u' ?_ he Z
 rw[<-aeM]
 exact bQ.own
 refine l8 (wB id sv) λg W=>⟨bW _ W,?_⟩
 have hle:=bW (u:=u) (b:=g) (.cells [cG .i64 id,.slice sv.a sv.n sv.c].toArray 52 (0,0)) W
 have M:bt (u.ins g (.cells [cG .i64 id,.slice sv.a sv.n sv.c].toArray 52 (0,0))) ⟨some ⟨g,0,none⟩,1,1⟩ 2 [cG .i64 id,.slice sv.a sv.n sv.c]:=by have:=(aD.make (k:=2) (H.le.refl u) W (cells:=[cG .i64 id,.slice sv.a sv.n sv.c].toArray) (e:=52) (n:=1) (by omega) (by simp)).own.cC;simpa using this
 refine abA ic (h.cC.mono hle) M (by simp only;omega) (akB h.cC ac (by decide)) (by simp) (by simp only;omega) (by simp only;omega) λg2 c cur gQ dz=>aq _ _ (by rw[<-aeM];exact dz) (λb z Z _=>?_) λg3 agL=>?_
 have h1:=hle b z Z
 rw[bm _ _ (λe=>by rw[e,gQ] at h1;cases h1)]
 exact h1
 have:g3=g2:=by simpa[U.aj] using agL.symm
 rw[this]
 exact .inr (hle.none gQ)
def ef.akh{af aY:N->ay bu}{u':H}{T:aT}(h:ef af u b T){ap:U}{bw:J av}{w':J (o×N)}(ar:BN u' ap bw)(xe:∀g,ap.aj=some g->aY g=some (.list i))
  (jW:∀r∈bw,Ints u' r.s r.v/\∀g,r.s.aj=some g->aY g=some .vec) (H9:Own u' 22 1 T.bo ((T.ls.set i (ap,bw)).flatMap λl=>encS l.1)) (hm:fs u' T.m (p4 w'))
  (hu:∀c z,u c=some z->af c≠none->af c≠some .nP->af c≠some (.list i)->af c≠some .map->u' c=some z) (ac:∀c,af c≠none->af c≠some (.list i)->aY c=af c):ef aY u' b {T with ls:=T.ls.set i (ap,bw),w:=w'} where
 cell:=hu _ _ h.cell (by rw[h.dL];simp) (by rw[h.dL];simp) (by rw[h.dL];simp) (by rw[h.dL];simp)
 dL:=by rw[ac _ (by rw[h.dL];simp) (by rw[h.dL];simp)];exact h.dL
 yb:=bt.else h.yb λg z W ab=>hu g z ab (by rw[h.u3 g W];simp) (by rw[h.u3 g W];simp) (by rw[h.u3 g W];simp) (by rw[h.u3 g W];simp)
 u3 g W:=by rw[ac _ (by rw[h.u3 g W];simp) (by rw[h.u3 g W];simp)];exact h.u3 g W
 tx j c I:=by obtain⟨h1,h2⟩:=h.tx j c I;exact⟨bt.else h1 λg z W ab=>hu g z ab (by rw[h2 g W];simp) (by rw[h2 g W];simp) (by rw[h2 g W];simp) (by rw[h2 g W];simp),λg W=>by rw[ac _ (by rw[h2 g W];simp) (by rw[h2 g W];simp)];exact h2 g W⟩
 nP:=H9
 qs g W:=by rw[ac _ (by rw[h.qs g W];simp) (by rw[h.qs g W];simp)];exact h.qs g W
 list j l aM:=by
  by_cases e:j=i;subst e;have:l=(ap,bw):=by rw[A4] at aM;split at aM;split at aM;exact(cO aM).symm;cases aM;rename_i al;exact a6 rfl al
  subst this;exact⟨ar,xe,jW⟩;rw[uE (dv e)] at aM;obtain⟨h1,h2,h3⟩:=h.list j l aM;refine⟨h1.bM λg z W ab=>hu g z ab (by rw[h2 g W];simp) (by rw[h2 g W];simp) (by rw[h2 g W];simpa using e) (by rw[h2 g W];simp),λg W=>by rw[ac _ (by rw[h2 g W];simp) (by rw[h2 g W];simpa using e)];exact h2 g W,λr O=>?_⟩;obtain⟨a7,bE⟩:=h3 r O;exact⟨bt.else a7 λg z W ab=>hu g z ab (by rw[bE g W];simp) (by rw[bE g W];simp) (by rw[bE g W];simp) (by rw[bE g W];simp),λg W=>by rw[ac _ (by rw[bE g W];simp) (by rw[bE g W];simp)];exact bE g W⟩
 map:=hm
 dh:=by rw[ac _ (by rw[h.dh];simp) (by rw[h.dh];simp)];exact h.dh
def ayM{ls:J (U×J av)}{l:U×J av}(h:ls[i]?=some l)(ap:U)(r:av):((ls.set i (ap,l.2++ [r])).flatMap (·.2)).Perm (r::ls.flatMap (·.2)):=by
 induction ls generalizing i with
 |nil=>simp at h|cons x ls aL=>
  cases i with
  |zero=>simp only[A3,j2] at h;subst h;rw[A8,gB,gB,nf];exact xJ|succ i=>simp only[xC] at h;rw[Jj,gB,gB];exact((aL h).append_left _).trans xJ
structure anO(ai u:H)(af:N->ay bu)(b:N)(T:aT)(id:o)(v:J o)(u':H)(aY:N->ay bu)(bx:aT):Prop where
 is:In ai u' aY b bx
 eQ:hA u af u' aY
 ok:dP bx
 rows:(bb bx).Perm ((id,v)::bb T)
 dim:bx.dim=T.dim
 cs:bx.cs=T.cs
 BA:bx.w.length=T.w.length+1
 w:∀x,x∈bx.w.map (·.1)↔x∈T.w.map (·.1)∨x=id
 wg:∀c,af c=some .vec->aY c=some .vec
 amJ:∀c z,u c=some z->af c=some .vec->u' c=some z
def alj{ai:H}{af:N->ay bu}{T:aT}{id:o}{v:J o}{K:H->Prop}(h:In ai u af b T)(aR:dP T)(b7:id∉T.w.map (·.1))(hi:1<=id/\id<=1000000000)(aA:Ints u s v)
  (ag:∀g,s.aj=some g->af g=some .vec) (bH:(v.length:o)=T.dim/\db v) (hlen:T.w.length<512) (aq:∀u' aY bx,anO ai u af b T id v u' aY bx->K u'):Kg (some ⟨b,0,none⟩) id s u K:=by
 obtain⟨bK,c1,c2,fM⟩:=kB h.aF
 have dU:=aR.apl
 obtain⟨k,hk⟩:∃k,(l0 (T.cs.map (·.2)) v T.cs.length).1=k:=⟨_,rfl⟩
 have hC:k<T.cs.length:=by rw[<-hk];exact ajk _ _ _ aR.many.2.1
 have ag3:k<T.ls.length:=by rw[<-aR.many.1];exact hC
 have RJ:=h.aF.Z7
 apply aCw
 intro lA h0
 refine⟨u,H.le.refl u,_,rfl,_,c1,?_⟩
 have main:lA (k:o) u:=by
  refine h0 _ _ λKu h3=>?_;obtain⟨l,ar⟩:∃l,T.ls[k]?=some l:=⟨_,cn ag3⟩;obtain⟨cL,yp,Ls⟩:=h.aF.list k l ar;obtain⟨p,ad,I⟩:=bt.elem B5 (by decide) h.aF.nP.cC ar;have hv:=I 0 _ rfl;rw[Addr.add_zero'] at hv;have nl:∀{c t},af c=some t->t≠.list k->l.1.aj≠some c:=λI ht e=>ht (by have:=yp _ e;rw[I] at this;exact cO this);have agf:l.1.aj≠some b:=nl h.aF.dL (by simp);have Yz:∃g cur,T.bo.a=some ⟨g,0,none⟩/\u g=some (.cells cur 22 (0,0))/\T.bo.aj=some g:=by rcases h.aF.nP.is with h1|⟨g,cur,h1,h2,_⟩;rw[h1] at ad;cases ad;exact⟨g,cur,h1,h2,by simp[U.aj,h1]⟩
  obtain⟨g,cur,EN,RC,H3⟩:=Yz;have wW:=h.aF.qs g H3;have agM:l.1.aj≠some g:=nl wW (by simp);obtain rfl:p=⟨g,0,none⟩:=by rw[EN] at ad;exact(cO ad).symm
  have VZ:∀{a:ba} {x:ao},u.cell? a=some x->l.1.aj≠some a.block->(nm u l.1).cell? a=some x:=λ{a x} M al=>by unfold H.cell? at M ⊢;rw[nn al];exact M
  refine⟨nm u l.1,Ds _ _,_,rfl,_,rfl,T.bo,VZ c2 agf,T.bo,VZ c2 agf,_,ad,⟨by omega,by omega⟩,l.1,?_,?_⟩;unfold aW;rw[xM];refine VZ hv ?_;rw[iC];exact agM;have ve:l.2.length<1000000:=by have h1:=(Dy (f:=λl:U×J av=>l.2) (du ar)).length_le;rw[<-aR.BA] at h1;omega
  refine c4.OK (awa (v:=v) cL ve (K:=λabp O1=>(nm u l.1).le O1/\∃ajV:ba,T.bo.a=some ajV/\((0:o)<=(k:o)/\(k:o)<(T.bo.n:o))/\H.aN O1 (ajV.add ((k:o).toNat*1)) [.slice abp.a abp.n abp.c] λoz=>Ku oz) ?_) λs1 v1 M=>⟨(Ds _ _).trans M.1,M.2⟩;intro ap aS ab he Z;refine⟨λc z I=>he c z (JP I).1 (JP I).2,_,ad,⟨by omega,by omega⟩,?_⟩;have atd:Own aS 22 1 T.bo (T.ls.flatMap λl=>encS l.1):=h.aF.nP.le λc z I hu=>he c z hu λe=>nl (h.aF.qs c I) (by simp) e;rw[xM];have R0:ap.aj≠some g:=λe=>by rcases Z g e with h1|h1;exact agM h1;rw[RC] at h1;cases h1
  refine aD.store (enc:=λl:U×J av=>encS l.1) B5 atd.f (by decide) (i:=k) ag3 (y:=(ap,l.2++ [⟨id,s,v⟩])) (by simp[encS,cF]) EN λc9 dz iQ fp=>h3 _ ?_;have oM:∀c z,u c=some z->af c≠some .nP->af c≠some (.list k)->c9 c=some z:=λc z I h1 h2=>by refine iQ c z (he c z I λe=>h2 (yp c e)) λe=>h1 (h.aF.qs c e)
  have V2:c9 b=some (.cells (fe T).toArray 178 (0,0)):=oM b _ h.aF.cell (by rw[h.aF.dL];simp) (by rw[h.aF.dL];simp);have atq:fs c9 T.m (p4 T.w):=h.aF.map.else λz ab=>oM _ z ab (by rw[h.aF.dh];simp) (by rw[h.aF.dh];simp);refine⟨c9,H.le.refl _,_,rfl,_,a1 V2 3,Dt J5 atq (by rw[La,QO.2 b7];rfl) λz hm=>?_⟩;have Yd:∀c,af c≠some .map->c≠T.m:=λc I e=>I (by rw[e];exact h.aF.dh);have c0:∀c x,u c=some x->af c≠some .nP->af c≠some (.list k)->af c≠some .map->(c9.ins T.m z) c=some x:=λc x I h1 h2 h3=>by rw[bm _ _ (Yd c h3)];exact oM c x I h1 h2
  have ayj:ap.aj≠some T.m:=λe=>by rcases Z _ e with h1|h1;exact nl h.aF.dh (by simp) h1;exact h.known T.m (by rw[h.aF.dh];simp) h1
  have Yx:Own (c9.ins T.m z) 52 2 ap ((l.2++ [(⟨id,s,v⟩:av)]).flatMap cB):=ab.le λc x I M=>by
   rw[bm _ _ (λe=>ayj (by rw[I,e]))];exact iQ c x M λe=>by
    have:c=g:=by rw[H3] at e;exact(cO e).symm
    exact R0 (by rw[I,this])
  have oj:∀c,ap.aj=some c->af c=some (.list k)∨u c=none:=λc I=>(Z c I).imp (yp c) λh=>h
  let aY:N->ay bu:=λc=>open Classical in if ap.aj=some c then some (.list k) else if l.1.aj=some c then none else af c
  have f2:∀c,ap.aj=some c->aY c=some (.list k):=λc I=>aV I;have f1:∀c,af c≠none->af c≠some (.list k)->aY c=af c:=λc I h2=>by
   have h1:ap.aj≠some c:=λe=>by rcases oj c e with h1|h1;exact h2 h1;exact I (h.fresh h1)
   show(if ap.aj=some c then _ else _)=_;rw[az h1,az λe=>h2 (yp c e)]
  have f3:∀c,aY c≠none->(ap.aj=some c/\(af c≠none∨u c=none))∨(ap.aj≠some c/\l.1.aj≠some c/\af c≠none):=λc I=>by
   by_cases e:ap.aj=some c;exact .inl ⟨e,(oj c e).imp (λh1=>by rw[h1];simp) λh1=>h1⟩;by_cases aC:l.1.aj=some c;have:aY c=none:=by show(if ap.aj=some c then _ else _)=_;rw[az e,aV aC]
   exact a6 this I;have:aY c=af c:=by show(if ap.aj=some c then _ else _)=_;rw[az e,az aC]
   rw[this] at I;exact .inr ⟨e,aC,I⟩
  have abm:∀r∈l.2++ [(⟨id,s,v⟩:av)],Ints (c9.ins T.m z) r.s r.v/\∀c,r.s.aj=some c->aY c=some .vec:=by
   intro r O;have both:Ints u r.s r.v/\∀c,r.s.aj=some c->af c=some .vec:=by rcases cK.1 O with h1|h1;exact Ls r h1;rw[fI.1 h1];exact⟨aA,ag⟩
   exact⟨bt.else both.1 λc x I M=>c0 c x M (by rw[both.2 c I];simp) (by rw[both.2 c I];simp) (by rw[both.2 c I];simp),λc I=>by rw[f1 c (by rw[both.2 c I];simp) (by rw[both.2 c I];simp)];exact both.2 c I⟩
  have oi:fs (c9.ins T.m z) T.m (p4 (T.w++ [(id,k)])):=by
   have:p4 (T.w++ [(id,k)])=p4 T.w++ [(id,.int .i64 (k:o))]:=by simp[p4]
   rw[this];exact hm
  have RG:Own (c9.ins T.m z) 22 1 T.bo ((T.ls.set k (ap,l.2++ [(⟨id,s,v⟩:av)])).flatMap λl=>encS l.1):=dz.own.le λc x I M=>by rw[bm _ _ (λe=>by have:=h.aF.qs c I;rw[e,h.aF.dh] at this;cases this)];exact M
  have Xg:=h.aF.akh (i:=k) (w':=T.w++ [(id,k)]) ⟨Yx.cC,.inl Yx⟩ f2 abm RG oi (λc x I _ h2 h3 a7=>c0 c x I h2 h3 a7) f1;have acp:ai.le (c9.ins T.m z):=λc x I=>by
   have hu:=h.le c x I;have ac:af c=none:=by
    cases e:af c with
    |none=>rfl|some t=>have:=h.out c (by rw[e];simp);rw[I] at this;cases this
   exact c0 c x hu (by rw[ac];simp) (by rw[ac];simp) (by rw[ac];simp)
  have hP:=ayM ar ap (⟨id,s,v⟩:av);have asR:id∉(T.ls.flatMap (·.2)).map (·.id):=λhm=>by obtain⟨r,O,e⟩:=bk.1 hm;obtain⟨y,ah,MP⟩:=ee.1 O;obtain⟨j,aM,rfl⟩:=pe ah;have:=(aR.xY id j).2 ⟨_,cn aM,bk.2 ⟨r,MP,e⟩⟩;exact b7 (bk.2 ⟨_,this,rfl⟩)
  have each:∀{i:N} {y:U×J av},(T.ls.set k (ap,l.2++ [(⟨id,s,v⟩:av)]))[i]?=some y->(i=k/\y=(ap,l.2++ [⟨id,s,v⟩]))∨(i≠k/\T.ls[i]?=some y):=λ{i y} ah=>by by_cases e:i=k;subst e;rw[ze (by omega)] at ah;exact .inl ⟨rfl,(cO ah).symm⟩;rw[uE (dv e)] at ah;exact .inr ⟨e,ah⟩
  have NB:∀y∈T.ls.set k (ap,l.2++ [(⟨id,s,v⟩:av)]),∀r∈y.2,r=⟨id,s,v⟩∨∃Y∈T.ls,r∈Y.2:=λy ah r O=>by have:r∈(⟨id,s,v⟩:av)::T.ls.flatMap (·.2):=hP.mem_iff.1 (ee.2 ⟨y,ah,O⟩);rcases cE.1 this with h1|h1;exact .inl h1;obtain⟨Y,aB,mW⟩:=ee.1 h1;exact .inr ⟨Y,aB,mW⟩
  refine aq _ aY {T with ls:=T.ls.set k (ap,l.2++ [⟨id,s,v⟩]),w:=T.w++ [(id,k)]} ⟨⟨Xg,acp,λc I=>?_,λc I=>?_⟩,⟨λc x I ac=>c0 c x I (by rw[ac];simp) (by rw[ac];simp) (by rw[ac];simp),λc I=>?_⟩,?_,?_,rfl,rfl,by simp,λx=>by simp[dY],λc I=>by rw[f1 c (by rw[I];simp) (by rw[I];simp)];exact I,λc z ab I=>c0 c z ab (by rw[I];simp) (by rw[I];simp) (by rw[I];simp)⟩;rcases f3 c I with⟨_,h1|h1⟩|⟨_,_,h1⟩;exact h.out c h1;exact h.le.none h1;exact h.out c h1;rcases f3 c I with⟨h1,_⟩|⟨_,h2,h1⟩;exact dF Yx.f h1;by_cases e:c=T.m;rw[e,bf];simp;by_cases aC:T.bo.aj=some c;exact dF RG.f aC;obtain⟨x,M⟩:=e3.1 (h.known c h1);rw[bm _ _ e,iQ c x (he c x M h2) aC];simp;rcases f3 c I with⟨_,h1⟩|⟨_,_,h1⟩;exact h1;exact .inl h1;have RT:(l0 (T.cs.map (·.2)) (⟨id,s,v⟩:av).v T.cs.length).1=k:=hk;refine⟨aR.hs,⟨by simp[aR.many.1],aR.many.2⟩,aR.Hn,λy ah r O=>?_,λy ah r O=>?_,?_,λi j=>?_,?_,by simp;omega,λi y ah r O=>?_⟩;rcases NB y ah r O with rfl|⟨Y,aB,mW⟩;exact bH;exact aR.vec Y aB r mW;rcases NB y ah r O with rfl|⟨Y,aB,mW⟩;exact hi;exact aR.ids Y aB r mW;rw[(hP.map _).nodup_iff,gl,hK];exact⟨asR,aR.nodup⟩;simp only[cK,fI,Gc];constructor;rintro(h1|⟨rfl,rfl⟩);obtain⟨y,ah,hm⟩:=(aR.xY i j).1 h1;by_cases e:j=k;subst e;rw[ar] at ah;cases ah;exact⟨_,ze (by omega),by rw[dY];exact iY _ hm⟩;exact⟨y,by rw[uE (dv e)];exact ah,hm⟩;exact⟨_,ze (by omega),by simp⟩;rintro⟨y,ah,hm⟩;rcases each ah with⟨rfl,rfl⟩|⟨al,ah⟩;rw[dY] at hm;rcases cK.1 hm with h1|h1;exact .inl ((aR.xY i j).2 ⟨l,ar,h1⟩);exact .inr ⟨by simpa using h1,rfl⟩;exact .inl ((aR.xY i j).2 ⟨y,ah,hm⟩);have:=hP.length_eq;rw[h5,<-aR.BA] at this;show(T.w++ [(id,k)]).length=_;rw[this];simp;rcases each ah with⟨rfl,rfl⟩|⟨al,ah⟩;rcases cK.1 O with h1|h1;exact aR.sY i l ar r h1;rw[fI.1 h1];exact RT;exact aR.sY i y ah r O;exact hP.map av.bi
 exact⟨TO h.aF.xX dU aA bH.2 bH.1 ⟨H.le.refl u,by rw[hk];exact main⟩,H.le.refl u,TO h.aF.xX dU aA bH.2 bH.1 (by rw[hk];exact main)⟩
def ayw{P:dR}{t fb e:dC}{size bytes:N}{zs:J ao}(aR:j9 P t=some (e,size,bytes,zs)){x:U}(ag:s.n<=s.c)(M:x.n=0)(aq:K s u):
  c4 P (dW #[t,t] fb #[.slice s.a s.n s.c,.slice x.a x.n x.c]) [.one .slice] u K:=by
 obtain⟨ht,i,Y,hi,aB,oY,wP,yL,_⟩:=tz aR
 refine .C3 (c:=.slice) s (λw hw=>?_) aq
 have ar:∀(y:ba),(loadCells y 0).run P w=.ok #[] w:=λy=>by simpa using run_loadCells_list (P:=P) w y [] (by simp)
 rw[M]
 cases tY:s.a<;>cases CO:x.a<;>simp[dW,iq ht,sizeOf,typeInfo,hi,Builtin.lenOf,Builtin.firstCells,ag,aK.enc,tY,ar,storeCells]
def axd{l h m:N}{g:N}(W:(s.part l h m k).aj=some g):s.aj=some g:=by
 unfold U.part U.aj at*;simp only at W;split at W;exact W;cases aE:s.a with
 |none=>rw[aE] at W;simp at W|some p=>
  rw[aE] at W;simp only[uA] at W ⊢;have:(p.add (l*k)).block=p.block:=by unfold ep;split<;>rfl
  rw[this] at W;exact W
def av9{fb:dC}(h:bt u s 2 (l.flatMap cB))(hi:i<l.length)(ar:l.length<=1000000)
  (aq:∀ap u',u.le u'->BN u' ap (l.take i++l.drop (i+1))->(∀g,ap.aj=some g->s.aj=some g∨(u g=none/\u' g≠none))->K ap u'):
  c4 aH (dW #[22,22] fb #[.slice (s.part 0 i i 2).a (s.part 0 i i 2).n (s.part 0 i i 2).c,.slice (s.part (i+1) s.n s.c 2).a (s.part (i+1) s.n s.c 2).n (s.part (i+1) s.n s.c 2).c]) [.one .slice] u K:=by
 have ae:s.n=l.length:=gY eY (by decide) h
 have I:=h.cap
 have s1:bt u (s.part 0 i i 2) 2 ((l.take i).flatMap cB):=by have:=bt.part h (l:=0) (h:=i) (m:=i) (by omega) (by omega) (cg _) (by omega);rw[Dd,S9,xH,yi eY] at this;exact this
 have s2:bt u (s.part (i+1) s.n s.c 2) 2 ((l.drop (i+1)).flatMap cB):=by have:=bt.part h (l:=i+1) (h:=s.n) (m:=s.c) (by omega) (cg _) I (cg _);rw[QJ eY,yi eY,ho (by rw[nV];omega)] at this;exact this
 have b3:(s.part 0 i i 2).n=i:=by simp[U.part]
 have c1:(s.part 0 i i 2).c=i:=by simp[U.part]
 have eN:(s.part (i+1) s.n s.c 2).n=s.n-(i+1):=rfl
 by_cases h0:(s.part (i+1) s.n s.c 2).n=0
 have aw:l.drop (i+1)=[]:=ry (by omega)
 refine ayw ic (by omega) h0 (aq _ u (H.le.refl u) ?_ λg W=>.inl (axd W))
 rw[aw,kA]
 exact⟨s1,.inr (by omega)⟩
 have CO:(s.part (i+1) s.n s.c 2).a≠none:=by rcases s2.at' with h1|⟨p,ad,_⟩;have:=s2.len;rw[h1] at this;simp only[nT] at this;omega;rw[ad];simp
 refine abA ic s1 s2 (by omega) (akB s1 (by omega) (by decide)) CO (by omega) (by omega) λg c cur W ab=>aq _ _ (bW _ W) ?_ λg2 gQ=>?_
 rw[<-gU] at ab
 exact⟨ab.cC,.inl ab⟩
 have:g2=g:=by simpa[U.aj] using gQ.symm
 rw[this]
 exact .inr ⟨W,by rw[bf];simp⟩
def V4{r:av}{id:o}(bY:(l.map (·.id)).Nodup)(h:l[i]?=some r)(O:r.id=id):l.take i++l.drop (i+1)=l.filter λx=>x.id !=id:=by
 induction l generalizing i with
 |nil=>simp at h|cons x l aL=>
  rw[gl,hK] at bY;cases i with
  |zero=>simp only[A3,j2] at h;subst h;simp only[N2,lu,S1,S9,xN,O,bne_self_eq_false,xA,xB];refine(pS.2 λy ah=>?_).symm;have:y.id≠id:=λe=>bY.1 (bk.2 ⟨y,ah,by rw[e,O]⟩);simpa using this|succ i=>simp only[xC] at h;have M:x.id≠id:=λe=>bY.1 (bk.2 ⟨r,du h,by rw[O,e]⟩);rw[A2,S1,vO,aL bY.2 h,xN,aV (by simpa using M)]
def ayK{ls:J (U×J av)}{l:U×J av}{r:av}{id:o}(bY:((ls.flatMap (·.2)).map (·.id)).Nodup)(h:ls[k]?=some l)(hi:l.2[i]?=some r)(O:r.id=id)(ap:U):
  (ls.set k (ap,l.2.take i++l.2.drop (i+1))).flatMap (·.2)=(ls.flatMap (·.2)).filter λx=>x.id !=id:=by
 induction ls generalizing k with
 |nil=>simp at h
 |cons x ls aL=>
  rw[gB,dY,gb] at bY;obtain⟨h1,h2,h3⟩:=bY;have akC:∀{m:J av},(∀y∈m,y.id≠id)->m.filter (λx=>x.id !=id)=m:=λhm=>pS.2 λy ah=>by simpa using hm y ah
  cases k with
  |zero=>simp only[A3,j2] at h;subst h;rw[A8,gB,gB,vT,V4 h1 hi O];congr 1;exact(akC λy ah e=>h3 r.id (bk.2 ⟨r,du hi,rfl⟩) y.id (bk.2 ⟨y,ah,rfl⟩) (by rw[e,O])).symm|succ k=>simp only[xC] at h;rw[Jj,gB,gB,vT,aL h2 h];congr 1;refine(akC λy ah e=>h3 y.id (bk.2 ⟨y,ah,rfl⟩) r.id (bk.2 ⟨r,ee.2 ⟨l,du h,du hi⟩,rfl⟩) (by rw[e,O])).symm
def aEs(w:J (o×N))(id:o):(p4 w).filter (λp=>p.1 !=id)=p4 (w.filter λp=>p.1 !=id):=by unfold p4;rw[r8];rfl
def VI:hl aH 284=ak:=by kernel_rfl
def ef.rD{af:N->ay bu}{T:aT}(h:ef af u b T):(T.w.map (·.1)).Nodup:=by obtain⟨es,c,_,he⟩:=h.map;have:=he.nodup;unfold p4 at this;rw[ez] at this;exact this
def dP.acK{T:aT}(h:dP T){id:o}:id∈T.w.map (·.1)↔id∈(T.ls.flatMap (·.2)).map (·.id):=by constructor;intro hm;obtain⟨p,ad,e⟩:=bk.1 hm;obtain⟨l,ar,b7⟩:=(h.xY p.1 p.2).1 ad;obtain⟨r,O,aC⟩:=bk.1 b7;exact bk.2 ⟨r,ee.2 ⟨l,du ar,O⟩,by rw[aC,e]⟩;intro hm;obtain⟨r,O,e⟩:=bk.1 hm;obtain⟨l,ar,lq⟩:=ee.1 O;obtain⟨i,hi,rfl⟩:=pe ar;exact bk.2 ⟨(id,i),(h.xY id i).2 ⟨_,cn hi,bk.2 ⟨r,lq,e⟩⟩,rfl⟩
def ZG(T:aT):(bb T).map (·.1)=(T.ls.flatMap (·.2)).map (·.id):=by unfold bb;rw[ez];rfl
def avM{w:J (o×N)}(ae:(w.map (·.1)).Nodup){j:N}(h1:(x,i)∈w)(h2:(x,j)∈w):(x,i)=(x,j):=by
 induction w with
 |nil=>cases h1
 |cons p w aL=>rw[gl,hK] at ae;rcases cE.1 h1 with h3|h3;rcases cE.1 h2 with a7|a7;rw[h3,a7];exact a6 (bk.2 ⟨_,a7,by rw[<-h3]⟩) ae.1;rcases cE.1 h2 with a7|a7;exact a6 (bk.2 ⟨_,h3,by rw[<-a7]⟩) ae.1;exact aL ae.2 h3 a7
structure zD(ai u:H)(af:N->ay bu)(b:N)(T:aT)(id:o)(u':H)(aY:N->ay bu)(bx:aT):Prop where
 is:In ai u' aY b bx
 eQ:hA u af u' aY
 ok:dP bx
 rows:bb bx=(bb T).filter λx=>x.1 !=id
 dim:bx.dim=T.dim
 cs:bx.cs=T.cs
 w:bx.w=T.w.filter λp=>p.1 !=id
def wa{ai:H}{af:N->ay bu}{T:aT}{id:o}{K:aI->o->H->Prop}(h:In ai u af b T)(aR:dP T)(ed:id∉T.w.map (·.1)->∀u',u.le u'->K ax 0 u')
  (kh:id∈T.w.map (·.1)->∀u' aY bx,zD ai u af b T id u' aY bx->K ak 0 u'):UI (some ⟨b,0,none⟩) id u K:=by
 apply aCq
 intro n0 eT
 have FJ:u.le (u.ins n0 (.cells #[.int .i64 id] 3 (0,0))):=bW _ eT
 have fV:(u.ins n0 (.cells #[.int .i64 id] 3 (0,0))) n0=some (.cells #[.int .i64 id] 3 (0,0)):=bf _ _ _
 have h1:=h.mono bM FJ
 have aty:af n0=none:=h.fresh eT
 obtain⟨aS,gI⟩:∃aS,aS=u.ins n0 (.cells #[.int .i64 id] 3 (0,0)):=⟨_,rfl⟩
 rw[<-gI] at FJ fV h1 ⊢
 obtain⟨bK,c1,c2,fM⟩:=kB h1.aF
 refine⟨λe=>(by cases e),λ_=>⟨_,rfl,_,fM,_,a1 fV 0,?_⟩⟩
 refine tf J5 h1.aF.map (ct:=.int .i64) (((sE T.w id).getD 0:N):o) (by rw[La];cases sE T.w id<;>rfl) ?_
 have iA:(fN (p4 T.w) id).isSome=decide (id∈T.w.map (·.1)):=by
  rw[La,Tl];cases e:sE T.w id with
  |none=>rw[nY (QO.1 e)];rfl|some k=>rw[lP (bk.2 ⟨_,QN e,rfl⟩)];rfl
 rw[iA]
 refine⟨λZ=>?_,λZ=>?_⟩
 exact ed (λhm=>Z (lP hm)) _ FJ
 have b4:id∈T.w.map (·.1):=uI Z
 have kh:=kh b4
 obtain⟨k,hk⟩:∃k,sE T.w id=some k:=by
  cases e:sE T.w id with
  |none=>exact a6 b4 (QO.1 e)|some k=>exact⟨k,rfl⟩
 rw[hk,Jg]
 obtain⟨l,ar,asQ⟩:=(aR.xY id k).1 (QN hk)
 have hC:k<T.ls.length:=(ir.1 ar).1
 have RJ:=h1.aF.Z7
 obtain⟨cL,yp,Ls⟩:=h1.aF.list k l ar
 obtain⟨p,ad,I⟩:=bt.elem B5 (by decide) h1.aF.nP.cC ar
 have hv:=I 0 _ rfl
 rw[Addr.add_zero'] at hv
 have Yz:∃g cur,T.bo.a=some ⟨g,0,none⟩/\aS g=some (.cells cur 22 (0,0))/\T.bo.aj=some g:=by rcases h1.aF.nP.is with aP|⟨g,cur,aP,aC,_⟩;rw[aP] at ad;cases ad;exact⟨g,cur,aP,aC,by simp[U.aj,aP]⟩
 obtain⟨g,cur,EN,RC,H3⟩:=Yz
 have wW:=h1.aF.qs g H3
 obtain rfl:p=⟨g,0,none⟩:=by rw[EN] at ad;exact(cO ad).symm
 have nl:∀{c t},af c=some t->t≠.list k->l.1.aj≠some c:=λI ht e=>ht (by have:=yp _ e;rw[I] at this;exact cO this)
 refine⟨_,rfl,_,fM,_,a1 fV 0,Oz J5 h1.aF.map λz hm=>?_⟩
 have Yd:∀c,af c≠some .map->c≠T.m:=λc I e=>I (by rw[e];exact h1.aF.dh)
 have aP:∀c x,aS c=some x->af c≠some .map->(aS.ins T.m z) c=some x:=λc x M h3=>by rw[bm _ _ (Yd c h3)];exact M
 obtain⟨v,aA⟩:∃v,v=aS.ins T.m z:=⟨_,rfl⟩
 rw[<-aA] at hm aP ⊢
 have aEp:∀c,v c=none->aS c=none:=λc I=>by by_cases e:c=T.m;rw[aA,e,bf] at I;cases I;rw[aA,bm _ _ e] at I;exact I
 have sw:v b=some (.cells (fe T).toArray 178 (0,0)):=aP _ _ h1.aF.cell (by rw[h1.aF.dL];simp)
 have yw:=aP g _ RC (by rw[wW];simp)
 have ar9:v.cell? (ep ⟨g,0,none⟩ (k*1))=some (.slice l.1.a l.1.n l.1.c):=by rw[iC] at hv ⊢;unfold H.cell? at hv ⊢;simp only[RC,yw] at hv ⊢;exact hv
 have atz:v n0=some (.cells #[.int .i64 id] 3 (0,0)):=aP _ _ fV (by rw[aty];simp)
 have R2:bt v l.1 2 (l.2.flatMap cB):=bt.else cL.cC λc x I M=>aP c x M (by rw[yp c I];simp)
 have atm:l.1.n=l.2.length:=gY eY (by decide) R2
 have ve:l.2.length<1000000:=by have h1:=(Dy (f:=λl:U×J av=>l.2) (du ar)).length_le;rw[<-aR.BA] at h1;have:=aR.small;omega
 have ahb:(l.2.map (·.id)).Nodup:=aR.nodup.sublist ((Dy (f:=λl:U×J av=>l.2) (du ar)).map _)
 refine⟨_,rfl,T.bo,a1 sw 2,_,EN,⟨by omega,by omega⟩,l.1,by unfold aW;rw[xM];exact ar9,?_⟩
 refine aln (p:=λr=>decide (r.id=id)) (l:=l.2) R2 (λr w fA hw de=>.inl ⟨_,_,_,rfl,hh VI,aCr _ _ _ _ _ ⟨_,a1 (hw _ _ atz) 0,de⟩⟩) (H.le.refl v) (λi r O _ kx=>?_) λeG=>(by obtain⟨r,O,e⟩:=bk.1 asQ;have:=Bg (eG r O);exact a6 e this)
 have xd:r.id=id:=uI kx
 have ea:i<l.2.length:=(ir.1 O).1
 have fin:∀{fb:dC},c4 aH (dW #[22,22] fb #[.slice (l.1.part 0 i i 2).a (l.1.part 0 i i 2).n (l.1.part 0 i i 2).c,.slice (l.1.part (i+1) l.1.n l.1.c 2).a (l.1.part (i+1) l.1.n l.1.c 2).n (l.1.part (i+1) l.1.n l.1.c 2).c]) [.one .slice] v
   λiM kC=>v.le kC/\∃ajW:ba,T.bo.a=some ajW/\((0:o)<=(k:o)/\(k:o)<(T.bo.n:o))/\H.aN kC (ajW.add ((k:o).toNat*1)) [.slice iM.a iM.n iM.c] λp3=>K ak 0 p3:=by
  intro fb
  refine av9 R2 ea (by omega) λap c9 fZ Lq eH=>⟨fZ,_,EN,⟨by omega,by omega⟩,?_⟩
  have RG:Own c9 22 1 T.bo (T.ls.flatMap λl=>encS l.1):=h1.aF.nP.le λc z I hu=>fZ _ _ (aP c z hu (by rw[h1.aF.qs c I];simp))
  rw[xM]
  refine aD.store (enc:=λl:U×J av=>encS l.1) B5 RG.f (by decide) (i:=k) hC (y:=(ap,l.2.take i++l.2.drop (i+1))) (by simp[encS,cF]) EN λjM kv rP sQ=>?_
  have R0:ap.aj≠some g:=λe=>by rcases eH g e with h2|h2;exact nl wW (by simp) h2;rw[yw] at h2;cases h2.1
  have c0:∀c x,u c=some x->af c≠some .nP->af c≠some .map->jM c=some x:=λc x M h2 h3=>rP c x (fZ _ _ (aP c x (FJ _ _ M) h3)) λe=>h2 (h1.aF.qs c e)
  have aeK:∀c x,aS c=some x->af c≠some .nP->af c≠some .map->jM c=some x:=λc x M h2 h3=>rP c x (fZ _ _ (aP c x M h3)) λe=>h2 (h1.aF.qs c e)
  have oj:∀c,ap.aj=some c->af c=some (.list k)∨(af c=none/\u c=none/\c9 c≠none):=λc I=>by rcases eH c I with h2|h2;exact .inl (yp c h2);have h3:=aEp c h2.1;exact .inr ⟨h1.fresh h3,FJ.none h3,h2.2⟩
  have arb:BN jM ap (l.2.take i++l.2.drop (i+1)):=Lq.bM λc x I M=>rP c x M λe=>R0 (by
   have:c=g:=by rw[H3] at e;exact(cO e).symm
   rw[I,this])
  let aY:N->ay bu:=λc=>open Classical in if ap.aj=some c then some (.list k) else if l.1.aj=some c then none else af c
  have f2:∀c,ap.aj=some c->aY c=some (.list k):=λc I=>aV I
  have f1:∀c,af c≠none->af c≠some (.list k)->aY c=af c:=λc I h2=>by
   have a7:ap.aj≠some c:=λe=>by rcases oj c e with h3|h3;exact h2 h3;exact I h3.1
   show(if ap.aj=some c then _ else _)=_;rw[az a7,az λe=>h2 (yp c e)]
  have f3:∀c,aY c≠none->(ap.aj=some c/\(af c≠none∨u c=none))∨(ap.aj≠some c/\l.1.aj≠some c/\af c≠none):=λc I=>by
   by_cases e:ap.aj=some c;exact .inl ⟨e,(oj c e).imp (λh1=>by rw[h1];simp) λh1=>h1.2.1⟩;by_cases aC:l.1.aj=some c;have:aY c=none:=by show(if ap.aj=some c then _ else _)=_;rw[az e,aV aC]
   exact a6 this I;have:aY c=af c:=by show(if ap.aj=some c then _ else _)=_;rw[az e,az aC]
   rw[this] at I;exact .inr ⟨e,aC,I⟩
  have gH:∀ch∈l.2.take i++l.2.drop (i+1),ch∈l.2:=λch cq=>by rcases cK.1 cq with h2|h2;exact nW h2;exact uG h2
  have abm:∀ch∈l.2.take i++l.2.drop (i+1),Ints jM ch.s ch.v/\∀c,ch.s.aj=some c->aY c=some .vec:=by intro ch cq;obtain⟨i1,i2⟩:=Ls ch (gH ch cq);exact⟨bt.else i1 λc x I M=>aeK c x M (by rw[i2 c I];simp) (by rw[i2 c I];simp),λc I=>by rw[f1 c (by rw[i2 c I];simp) (by rw[i2 c I];simp)];exact i2 c I⟩
  have RK:fs jM T.m (p4 (T.w.filter λp=>p.1 !=id)):=by rw[<-aEs];exact hm.else λx M=>rP _ x (fZ _ _ M) λe=>by have:=h1.aF.qs _ e;rw[h1.aF.dh] at this;cases this
  have Xg:=h1.aF.akh (i:=k) (w':=T.w.filter λp=>p.1 !=id) arb f2 abm kv.own RK (λc x I _ h2 _ a7=>aeK c x I h2 a7) f1
  have acp:ai.le jM:=λc x I=>by
   have ac:af c=none:=by
    cases e:af c with
    |none=>rfl|some t=>have:=h.out c (by rw[e];simp);rw[I] at this;cases this
   exact c0 c x (h.le c x I) (by rw[ac];simp) (by rw[ac];simp)
  have jW:=ayK aR.nodup ar O xd ap
  have each:∀{j:N} {y:U×J av},(T.ls.set k (ap,l.2.take i++l.2.drop (i+1)))[j]?=some y->(j=k/\y=(ap,l.2.take i++l.2.drop (i+1)))∨(j≠k/\T.ls[j]?=some y):=λ{j y} ah=>by by_cases e:j=k;subst e;rw[ze (by omega)] at ah;exact .inl ⟨rfl,(cO ah).symm⟩;rw[uE (dv e)] at ah;exact .inr ⟨e,ah⟩
  have NB:∀y∈T.ls.set k (ap,l.2.take i++l.2.drop (i+1)),∀ch∈y.2,∃Y∈T.ls,ch∈Y.2:=λy ah ch cq=>by
   have:ch∈(T.ls.flatMap (·.2)).filter λx=>x.id !=id:=by rw[<-jW];exact ee.2 ⟨y,ah,cq⟩
   obtain⟨Y,aB,mW⟩:=ee.1 (hT.1 this).1;exact⟨Y,aB,mW⟩
  refine kh _ aY {T with ls:=T.ls.set k (ap,l.2.take i++l.2.drop (i+1)),w:=T.w.filter λp=>p.1 !=id} ⟨⟨Xg,acp,λc I=>?_,λc I=>?_⟩,⟨λc x I ac=>c0 c x I (by rw[ac];simp) (by rw[ac];simp),λc I=>?_⟩,?_,?_,rfl,rfl,rfl⟩
  rcases f3 c I with⟨_,h1|h1⟩|⟨_,_,h1⟩
  exact h.out c h1
  exact h.le.none h1
  exact h.out c h1
  rcases f3 c I with⟨h2,_⟩|⟨_,h2,h3⟩
  rcases oj c h2 with bE|⟨_,_,bE⟩
  obtain⟨x,M⟩:=e3.1 (h.known c (by rw[bE];simp))
  rw[c0 c x M (by rw[bE];simp) (by rw[bE];simp)];simp
  obtain⟨x,M⟩:=e3.1 bE
  rw[rP c x M λe=>R0 (by
   have:c=g:=by rw[H3] at e;exact(cO e).symm
   rw[h2,this])]
  simp
  by_cases aC:T.bo.aj=some c
  exact dF kv aC
  by_cases e:c=T.m
  obtain⟨es,cl,M,_⟩:=RK
  rw[e,M];simp
  obtain⟨x,M⟩:=e3.1 (h1.known c h3)
  have:v c=some x:=by rw[aA,bm _ _ e];exact M
  rw[rP c x (fZ _ _ this) aC];simp
  rcases f3 c I with⟨_,h1⟩|⟨_,_,h1⟩
  exact h1
  exact .inl h1
  refine⟨aR.hs,⟨by simp[aR.many.1],aR.many.2⟩,aR.Hn,λy ah ch cq=>?_,λy ah ch cq=>?_,?_,λx j=>?_,?_,jv (Bh _ _) aR.small,λj y ah ch cq=>?_⟩
  obtain⟨Y,aB,mW⟩:=NB y ah ch cq
  exact aR.vec Y aB ch mW
  obtain⟨Y,aB,mW⟩:=NB y ah ch cq
  exact aR.ids Y aB ch mW
  show((xL (·.2) (T.ls.set k _)).map _).Nodup
  rw[jW]
  exact aR.nodup.sublist (JF.map _)
  simp only[hT,bne_iff_ne,ne_eq]
  constructor
  rintro⟨h2,h3⟩
  obtain⟨y,ah,E4⟩:=(aR.xY x j).1 h2
  by_cases e:j=k
  subst e
  rw[ar] at ah;cases ah
  refine⟨_,ze (by omega),?_⟩
  rw[show((ap,l.2.take i++l.2.drop (i+1)):U×J av).2=l.2.take i++l.2.drop (i+1) from rfl,V4 ahb O xd]
  obtain⟨Y,aB,rfl⟩:=bk.1 E4
  exact bk.2 ⟨Y,hT.2 ⟨aB,by simpa using h3⟩,rfl⟩
  exact⟨y,by rw[uE (dv e)];exact ah,E4⟩
  rintro⟨y,ah,E4⟩
  rcases each ah with⟨rfl,rfl⟩|⟨al,ah⟩
  rw[show((ap,l.2.take i++l.2.drop (i+1)):U×J av).2=l.2.take i++l.2.drop (i+1) from rfl,V4 ahb O xd] at E4
  obtain⟨Y,aB,rfl⟩:=bk.1 E4
  obtain⟨avh,Zw⟩:=hT.1 aB
  exact⟨(aR.xY Y.id j).2 ⟨l,ar,bk.2 ⟨Y,avh,rfl⟩⟩,by simpa using Zw⟩
  refine⟨(aR.xY x j).2 ⟨y,ah,E4⟩,λe=>al ?_⟩
  have fu:=(aR.xY x j).2 ⟨y,ah,E4⟩
  have dK:=QN hk
  rw[e] at fu
  have:=h.aF.rD
  exact(Prod.mk.inj (avM this fu dK)).2
  have Yy:(T.w.map (·.1)).Perm ((T.ls.flatMap (·.2)).map (·.id)):=(Ti h.aF.rD aR.nodup).2 λx=>aR.acK
  have gG:=(Yy.filter λx=>x !=id).length_eq
  rw[r8,r8,dg,dg] at gG
  show(T.w.filter λp=>p.1 !=id).length=(xL (·.2) (T.ls.set k _)).length
  rw[jW]
  exact gG
  rcases each ah with⟨rfl,rfl⟩|⟨al,ah⟩
  exact aR.sY j l ar ch (gH ch cq)
  exact aR.sY j y ah ch cq
  show(xL (·.2) (T.ls.set k _)).map av.bi=_
  rw[jW]
  unfold bb
  rw[r8]
  rfl
 have gZ:=R2.cap
 have OI:∀{w:H} {F:U->H->Prop},F (l.1.part 0 i i 2) w->c4 aH (fR 22 (.slice l.1.a l.1.n l.1.c) none (some (.int .i64 (i:o))) (some (.int .i64 (i:o)))) [.one .slice] w F:=λqY=>
  lj ic (l:=0) (h:=i) (m:=i) (.inl ⟨rfl,rfl⟩) (.inr rfl) (.inr ⟨rfl,by simp⟩) (by omega) (cg _) (by omega) gZ qY
 have akQ:∀{w:H} {F:U->H->Prop},F (l.1.part (i+1) l.1.n l.1.c 2) w->c4 aH (fR 22 (.slice l.1.a l.1.n l.1.c) (some (.int .i64 ((i:o)+1))) none none) [.one .slice] w F:=λqY=>
  lj ic (l:=i+1) (h:=l.1.n) (m:=l.1.c) (.inr rfl) (.inl ⟨rfl,rfl⟩) (.inl ⟨rfl,rfl⟩) (by omega) gZ (cg _) gZ qY
 exact⟨_,rfl,⟨by omega,by omega⟩,T.bo,a1 sw 2,OI ⟨H.le.refl _,akQ ⟨H.le.refl _,fin⟩⟩,akQ ⟨H.le.refl _,OI ⟨H.le.refl _,fin⟩⟩⟩
end
end jm
def aye{P:dR}(w:b6)(t bS fb e:dC)(i:TypeInfo)(Y:ao)(ht:P.underlying t=some (.slice e))(cA:P.underlying bS=some (.int .i64))(hi:P.info? e=some i)(aB:i.zero=some Y)(ag:0<i.size)
  (n:N) (h0:0<n) (QW:(n:o)<=9223372036854775807) (aqB:n*i.bytes<=281474976710656):
  (dW #[t,bS] fb #[.slice none 0 0,.int .i64 n]).run P w=
   .ok (.slice (some ⟨w.heap.size,0,none⟩) n (grownCap w n 0 e)) (w.drew.alloc (.cells (vP Y.cells n++vP Y.cells (grownCap w n 0 e-n)) e)):=by
 have hw:ci.wrap (n:o)=n:=IntWalk.i64_in _ (by omega)
 have ae:n≠0:=by omega
 have hJ:¬((n:o)<0):=by omega
 have aqJ:¬(9223372036854775807<(n:o)):=by omega
 have aqC:¬(281474976710656<Builtin.nextslicecap n 0*i.bytes):=by rw[nextslicecap_zero h0];omega
 have aqD:¬(281474976710656<(n:o)*(i.bytes:o)):=by
  have:((n*i.bytes:N):o)=(n:o)*(i.bytes:o):=by simp
  omega
 have cY:¬(n*i.size=0):=by intro h;rcases S2.1 h with h|h<;>omega
 have aF0:i.size≠0:=by omega
 have aE:∀w',(asIntOf (.int .i64 (n:o))).run P w'=.ok (.i64,(n:o)) w':=λ_=>rfl
 simp[aE,dW,iq ht,iq cA,sizeOf,typeInfo,zeroValue,hi,aB,asInt,hw,ae,hJ,aqJ,aqC,aqD,Question.forced,run_firstCells_none,newRow,grownCap]
 exact λh=>a6 h cY
def ayB{P:dR}{t bS fb e:dC}{size bytes:N}{zs:J ao}(aR:j9 P t=some (e,size,bytes,zs))(cA:P.underlying bS=some (.int .i64))(cY:0<size){n:N}(h0:0<n)(QW:(n:o)<=9223372036854775807)(aqB:n*bytes<=140737488355328)
  {u:H} {K:U->H->Prop} (aq:∀ap u' xs,aD u u' e size ap xs->ap.n=n->K ap u'):
  c4 P (dW #[t,bS] fb #[.slice none 0 0,.int .i64 n]) [.one .slice] u K:=by
 obtain⟨ht,i,Y,hi,aB,oY,wP,yL,_⟩:=tz aR
 subst oY
 subst wP
 refine .one (c:=.slice) λw hw=>?_
 have gr:=grownCap_ge w n 0 e
 have cJ:=grownCap_le_maxLen w n 0 e (by rw[IZ];omega)
 rw[IZ] at cJ
 have O:=aye (P:=P) w t bS fb e i Y ht cA hi aB cY n h0 QW (by omega)
 obtain⟨z,ab⟩:∃z,z=vP Y.cells n++vP Y.cells (grownCap w n 0 e-n):=⟨_,rfl⟩
 rw[<-ab] at O
 have dI:=alT hw (.cells z e)
 have ahH:z.size=grownCap w n 0 e*i.size:=by rw[ab,aaP,size_zeroCells,size_zeroCells,yL,<-Dc];congr 1;omega
 refine⟨⟨some ⟨w.heap.size,0,none⟩,n,grownCap w n 0 e⟩,_,_,O,aq _ _ (z.toList.take (n*i.size)) ⟨⟨?_,.inr ⟨w.heap.size,z,rfl,bf _ _ _,gr,cJ,ahH,rfl⟩⟩,bW _ dI.2,λg W=>?_⟩ rfl,dI.1⟩
 rw[gL,ru,ahH]
 exact A9 (r2 _ gr)
 have:w.heap.size=g:=by simpa[U.aj] using W
 rw[<-this]
 exact dI.2
def aAK:aH.underlying 3=some (.int .i64):=by kernel_rfl
def azO{n:N}{u:H}{K:U->H->Prop}(ae:n<=1000000)(aq:∀ap u',aD u u' 52 2 ap []->ap.n=0->K ap u'):U0 ⟨none,0,0⟩ n u K:=by
 apply aDd;intro lA h0;refine⟨λh=>by omega,λ_=>h0 _ ⟨⟨by simp,by simp⟩,⟨by simp only;omega,by simp only;omega⟩,λoW=>?_,λ_=>aq _ _ (aD.nil (H.le.refl u) _ _) rfl⟩⟩;have eT:0<n:=by have:(0:o)<(n:o)-(((0:N):o)-((0:N):o)):=oW;omega
 refine lj ic (s:=⟨none,0,0⟩) (l:=0) (h:=0) (m:=0) (.inl ⟨rfl,rfl⟩) (.inr rfl) (.inl ⟨rfl,rfl⟩) (cg _) (cg _) (cg _) (cg _) ?_;have aP:(⟨none,0,0⟩:U).part 0 0 0 2=⟨none,0,0⟩:=rfl;rw[aP];have aC:(n:o)-(((⟨none,0,0⟩:U).c:o)-((⟨none,0,0⟩:U).n:o))=(n:o):=by simp
 rw[aC];refine ayB ic aAK (by decide) eT (by omega) (by omega) λap u' xs ab fY=>?_;obtain⟨ac,_,tM⟩:=ab.front (m:=0) (nU _);have I:ap.n<=ap.c:=ab.own.cC.cap;refine lj ic (l:=0) (h:=0) (m:=ap.c) (.inl ⟨rfl,rfl⟩) (.inr rfl) (.inl ⟨rfl,rfl⟩) (cg _) (nU _) (cg _) I ?_;rw[Dd,N2] at ac;exact aq _ _ ac tM
def afc{ls:J (U×J av)}{i:N}{l:U×J av}(h:ls[i]?=some l):((ls.take (i+1)).flatMap (·.2))=(ls.take i).flatMap (·.2)++l.2:=by rw[gT,h,Option.toList,gU];simp
def afb(ls:J (U×J av))(i:N):((ls.take i).flatMap (·.2)).length<=(ls.flatMap (·.2)).length:=by
 conv=>rhs;rw[<-r6 i ls]
 rw[gU,eC];omega
def azL{u:H}{s:U}{ls:J (U×J av)}{K:U->H->Prop}(ag:bt u s 1 (ls.flatMap λl=>encS l.1))(ar:∀l∈ls,bt u l.1 2 (l.2.flatMap cB))(ae:(ls.flatMap (·.2)).length<=1000000)
  (aq:∀ap u',aD u u' 52 2 ap ((ls.flatMap (·.2)).flatMap cB)->K ap u'):UX s u K:=by
 have hlen:∀l:U×J av,(encS l.1).length=1:=λ_=>rfl
 have dw:s.n=ls.length:=gY hlen (by decide) ag
 have fq:=jv ag.cap ag.max
 have at':∀{v:H} {x:o},u.le v->0<=x->x<(s.n:o)->∃p l,s.a=some p/\ls[x.toNat]?=some l/\v.cell? (p.add (x.toNat*1))=some (.slice l.1.a l.1.n l.1.c)/\bt v l.1 2 (l.2.flatMap cB)/\l.1.n=l.2.length:=λ{v x} aA bG dy=>by
  have eO:x.toNat<ls.length:=by omega
  have M:ls[x.toNat]?=some ls[x.toNat]:=cn eO;obtain⟨p,ad,I⟩:=bt.elem hlen (by decide) (ag.mono aA) M;have h2:=(ar _ (kk eO)).mono aA;exact⟨p,_,ad,M,I 0 _ rfl,h2,gY eY (by decide) h2⟩
 apply aC9
 refine⟨λn i v=>v=u/\0<=i/\i<=s.n/\n=(((ls.take i.toNat).flatMap (·.2)).length:N),λ_ i _=>((s.n:o)-i).toNat,⟨rfl,by omega,by omega,by simp⟩,?_⟩
 rintro n i v ⟨rfl,i0,i1,rfl⟩
 refine⟨λhi=>?_,λhi=>?_⟩
 obtain⟨p,l,ad,M,bK,h2,h3⟩:=at' (H.le.refl v) i0 hi
 have dE:=afc M
 have hle:=afb ls (i.toNat+1)
 rw[dE,eC] at hle
 refine⟨p,ad,⟨i0,hi⟩,_,bK,⟨by omega,by omega⟩,λh=>by omega,λ_=>⟨⟨by omega,by omega⟩,⟨rfl,by omega,by omega,?_⟩,by dsimp only;omega⟩⟩
 rw[show(i+1).toNat=i.toNat+1 by omega,dE,eC,h3]
 simp
 have eh:ls.take i.toNat=ls:=ho (by omega)
 rw[eh]
 refine azO ae λOv u8 awY n7=>?_
 refine⟨λpV x w=>0<=x/\x<=s.n/\aD v w 52 2 pV (((ls.take x.toNat).flatMap (·.2)).flatMap cB),λ_ x _=>((s.n:o)-x).toNat,⟨by omega,by omega,by simpa using awY⟩,?_⟩
 rintro pV x w ⟨bG,dy,ab⟩
 refine⟨λM=>?_,λM=>?_⟩
 obtain⟨p,l,ad,eO,bK,h2,h3⟩:=at' ab.le bG M
 have dE:=afc eO
 have hle:=afb ls (x.toNat+1)
 rw[dE,eC] at hle
 have tS:pV.n=((ls.take x.toNat).flatMap (·.2)).length:=gY eY (by decide) ab.own.cC
 refine⟨p,ad,⟨bG,M⟩,_,bK,Oy ic (by decide) ab h2 Wv (by omega) (by omega) λap u' bQ _=>⟨⟨by omega,by omega⟩,⟨by omega,by omega,?_⟩,by dsimp only;omega⟩⟩
 rw[show(x+1).toNat=x.toNat+1 by omega,dE,gU]
 exact bQ
 rw[ho (by omega)] at ab
 exact aq _ _ ab
namespace jm
section
variable{ai u:H}{b:N}
def amM(T:aT):(p4 T.w).length=T.w.length:=by simp[p4]
def dP.akk{T:aT}(h:dP T):(bb T).length=T.w.length:=by rw[h.BA];simp[bb]
def Bl{af:N->ay bu}{T:aT}{K:o->H->Prop}(h:In ai u af b T)(aR:dP T)(aq:K (bb T).length u):ac9 (some ⟨b,0,none⟩) u K:=by obtain⟨_,_,_,fM⟩:=kB h.aF;apply aCs;refine⟨λe=>(by cases e),λ_=>⟨_,rfl,_,fM,v7 J5 h.aF.map ?_⟩⟩;rw[amM,<-aR.akk];exact aq
def zn{af:N->ay bu}{T:aT}{K:U->H->Prop}(h:In ai u af b T)(aR:dP T)(aq:∀s ls u',qO u u' s ls->(ls.map av.bi).Perm (bb T)->(ls.Pairwise λa b=>a.id<=b.id)->K s u'):
  adb (some ⟨b,0,none⟩) u K:=by
 obtain⟨_,_,c2,_⟩:=kB h.aF
 have hw:=aR.BA
 have fq:=aR.small
 have aA:∀r∈T.ls.flatMap (·.2),Ints u r.s r.v:=λr O=>by obtain⟨l,ar,lq⟩:=ee.1 O;obtain⟨i,hi,rfl⟩:=pe ar;exact((h.aF.list i _ (cn hi)).2.2 r lq).1
 apply aCu
 refine⟨λe=>(by cases e),λ_=>⟨_,rfl,T.bo,c2,azL h.aF.nP.cC (λl ar=>?_) (by omega) λap u' ab=>?_⟩⟩
 obtain⟨i,hi,rfl⟩:=pe ar
 exact(h.aF.list i _ (cn hi)).1.cC
 have O:dS u' ap (T.ls.flatMap (·.2)):=⟨ab.own.cC,λr O=>(aA r O).mono ab.le⟩
 refine zo O (λr O=>?_) (by omega) (λr O=>?_) λs2 ls c9 b1 ad ag=>?_
 obtain⟨l,ar,lq⟩:=ee.1 O
 exact aR.ids l ar r lq
 obtain⟨l,ar,lq⟩:=ee.1 O
 have:=(aR.vec l ar r lq).1
 have:=aR.hs
 omega
 exact aq s2 ls c9 ⟨b1.own.weaken ab.le,λr O=>(b1.inner r O).weaken ab.le,b1.eu,b1.apart⟩ ad ag
structure tp(ai u:H)(af:N->ay bu)(b:N)(T:aT)(id:o)(v:J o)(u':H)(aY:N->ay bu)(bx:aT):Prop where
 is:In ai u' aY b bx
 eQ:hA u af u' aY
 ok:dP bx
 rows:(bb bx).Perm ((id,v)::(bb T).filter λx=>x.1 !=id)
 dim:bx.dim=T.dim
 cs:bx.cs=T.cs
def Dx{af:N->ay bu}{T:aT}{id:o}{t:U}{q:J o}{K:aI->o->H->Prop}(h:In ai u af b T)(aR:dP T)(ht:Ints u t q)(oS:∀aS cZ,ai.le aS->hA u af aS cZ->Ints aS t q)
  (dx:fr id q T.dim (decide (id∈(bb T).map (·.1))) (bb T).length≠0->K ax (fr id q T.dim (decide (id∈(bb T).map (·.1))) (bb T).length) u)
  (bH:fr id q T.dim (decide (id∈(bb T).map (·.1))) (bb T).length=0->∀u' aY bx,tp ai u af b T id q u' aY bx->K (decide (id∉(bb T).map (·.1))) 0 u'):ada (some ⟨b,0,none⟩) id t u K:=by
 obtain⟨bK,_,_,fM⟩:=kB h.aF
 have k3:(id∈T.w.map (·.1))↔id∈(bb T).map (·.1):=by rw[ZG];exact aR.acK
 have Eg:decide (id∈T.w.map (·.1))=decide (id∈(bb T).map (·.1)):=Gq.2 k3
 have hlen:=aR.akk
 apply aCt
 refine⟨λe=>(by cases e),λ_=>⟨_,rfl,_,fM,?_⟩⟩
 refine tf J5 h.aF.map (ct:=.int .i64) (((sE T.w id).getD 0:N):o) (by rw[La];cases sE T.w id<;>rfl) ?_
 have iA:(fN (p4 T.w) id).isSome=decide (id∈(bb T).map (·.1)):=by
  rw[<-Eg,La,Tl];cases e:sE T.w id with
  |none=>rw[nY (QO.1 e)];rfl|some k=>rw[lP (bk.2 ⟨_,QN e,rfl⟩)];rfl
 rw[iA]
 refine⟨_,rfl,_,rfl,_,bK,_,fM,v7 J5 h.aF.map ⟨H.le.refl u,JU ht ?_⟩⟩
 rw[amM,<-hlen]
 refine⟨λal=>dx al,λhe=>?_⟩
 have bH:=bH he
 obtain⟨d1,d2,xh,d4⟩:1<=id/\id<=1000000000/\gn q T.dim=0/\(decide (id∈(bb T).map (·.1))=ax->((bb T).length:o)<512):=by unfold fr at he;split at he;cases he;rename_i h1;split at he;rename_i h2;exact a6 he h2;rename_i h2;split at he;cases he;rename_i h3;refine⟨by omega,by omega,by simpa using h2,λe=>?_⟩;by_cases a7:((bb T).length:o)<512;exact a7;exact a6 ⟨e,by omega⟩ h3
 obtain⟨aP,aC,c0,ff⟩:=oA xh
 have lay:∀(aS:H) (cZ:N->ay bu) (a8:aT),In ai aS cZ b a8->hA u af aS cZ->dP a8->id∉a8.w.map (·.1)->a8.w.length<512->bb a8=(bb T).filter (λx=>x.1 !=id)->a8.dim=T.dim->a8.cs=T.cs->
   oC t aS λdp gC=>H.le aS gC/\Kg (some ⟨b,0,none⟩) id dp gC λxU=>K (!decide (decide (id∈(bb T).map (·.1))=ak)) 0 xU:=by
  intro aS cZ a8 h1 mX sF gj gi vq sI iy
  have q1:=oS aS cZ h1.le mX
  refine sc q1 (by have:=q1.len;omega) λdp gC fE _=>⟨fE.le,?_⟩
  have wL:=h1.mono bM fE.le
  obtain⟨hY,h2,xg,jT⟩:=wL.tag bM (dp.wg .vec) λc I=>by have c7:=U.aAV I;have ac:=fE.fresh c c7;exact⟨h1.fresh ac,h1.le.none ac,dF fE c7⟩
  have t2:hA u af gC hY:=by
   refine(mX.trans (hA.mono fE.le)).tag λc=>?_;by_cases e:dp.aj=some c;right;have ac:=fE.fresh c e;cases eX:u c with
   |none=>exact .inr rfl|some z=>refine .inl λlp=>?_;rw[mX.bM c z eX lp] at ac;cases ac
   exact .inl (jT c (U.al4 e))
  refine alj h2 sF gj ⟨d1,d2⟩ fE.ints (λg W=>xg g _ (U.aAU W)) ⟨by rw[sI];exact c0,ff⟩ gi λxU oN D0 O=>?_
  have Z:(!decide (decide (id∈(bb T).map (·.1))=ak))=decide (id∉(bb T).map (·.1)):=by by_cases b4:id∈(bb T).map (·.1)<;>simp[b4]
  rw[Z]
  exact bH xU oN D0 ⟨O.is,t2.trans O.eQ,O.ok,by rw[<-vq];exact O.rows,O.dim.trans sI,O.cs.trans iy⟩
 refine wa h aR (λed aS gI=>?_) λb4 aS cZ a8 O=>?_
 refine lay aS af T (h.mono bM gI) (hA.mono gI) aR ed ?_ ?_ rfl rfl
 have:=d4 (nY λhm=>ed (k3.2 hm))
 omega
 refine(pS.2 λx M=>?_).symm
 have:x.1≠id:=λe=>ed (k3.2 (bk.2 ⟨x,M,e⟩))
 simpa using this
 refine lay aS cZ a8 O.is O.eQ O.ok ?_ ?_ O.rows O.dim O.cs
 rw[O.w]
 intro hm
 obtain⟨p,ad,e⟩:=bk.1 hm
 have:=(hT.1 ad).2
 simp[e] at this
 rw[O.w]
 have ag:=aR.small
 obtain⟨p,ad,e⟩:=bk.1 b4
 have:(T.w.filter λp=>p.1 !=id).length<T.w.length:=Oc.2 ⟨p,ad,by simp[e]⟩
 omega
def aAM:j9 aH 211=some (167,1,8,[.pointer none]):=by kernel_rfl
def aoG(n:N):kp aH 211 1 #[(0,.pointer (some ⟨n,0,none⟩))]=some (167,[.pointer (some ⟨n,0,none⟩)]):=by kernel_rfl
def anZ{u':H}{aG ss bc:U}{gF:J bP}{seen:J o}{rest:J cp}(h:jB u u' aG ss bc gF seen rest)(hu:ai.le u):jB ai u' aG ss bc gF seen rest:=
 ⟨h.h.weaken hu,h.s.weaken hu,h.r.weaken hu,λr O=>⟨(h.g r O).l.weaken hu,(h.g r O).h.weaken hu,(h.g r O).i.weaken hu⟩,h.eu⟩
def axe:∀(cs:J (U×J o)) (ls:J (U×J av)) {i:N} {c l},cs[i]?=some c->ls[i]?=some l->(xu cs ls)[i]?=some (I6 c.2 l.2):=by
 intro cs;induction cs with
 |nil=>intro ls i c l h;simp at h
 |cons x cs aL=>
  intro ls i c l h1 h2;cases ls with
  |nil=>simp at h2|cons y ls=>
   cases i with
   |zero=>simp only[A3,j2] at h1 h2;subst h1;subst h2;rfl|succ i=>simp only[xC] at h1 h2;exact aL ls h1 h2
def axf:∀(cs:J (U×J o)) (ls:J (U×J av)),cs.length=ls.length->(xu cs ls).length=ls.length/\bF.hq (xu cs ls)=ls.length:=by
 intro cs;induction cs with
 |nil=>intro ls h;cases ls with
  |nil=>exact⟨rfl,rfl⟩|cons=>simp at h
 |cons x cs aL=>
  intro ls h;cases ls with
  |nil=>simp at h|cons y ls=>
   obtain⟨h1,h2⟩:=aL ls (by simpa using h);simp only[xu,h5,bF.hq,h1,h2];refine⟨trivial,?_⟩;have:(I6 x.2 y.2).size=1:=by rw[bF.size_eq];rfl
   omega
def GG{af:N->ay bu}{T:aT}{t:U}{q:J o}{k aJ:o}{K:U->U->U->o->H->Prop}(h:In ai u af b T)(aR:dP T)(ht:Ints u t q)
  (dx:h7 q T.dim k aJ≠0->K ⟨none,0,0⟩ ⟨none,0,0⟩ ⟨none,0,0⟩ (h7 q T.dim k aJ) u)
  (bH:h7 q T.dim k aJ=0->∀aG ss bc rest u',jB u u' aG ss bc (iW T q k aJ) (gk T q k aJ) rest->rest.map cp.core=jr T q k aJ->K aG ss bc 0 u'):ade (some ⟨b,0,none⟩) t k aJ u K:=by
 obtain⟨bK,c1,c2,fM⟩:=kB h.aF
 apply aCv
 refine⟨λe=>(by cases e),λ_=>⟨_,rfl,_,bK,JS ht ⟨λal=>dx al,λhe=>⟨_,rfl,T.bo,c2,?_⟩⟩⟩⟩
 obtain⟨aA,cx,cS,fV,gf⟩:gn q T.dim=0/\1<=k/\k<=64/\0<=aJ/\aJ<=1000000:=by unfold h7 at he;split at he;rename_i h1;exact a6 he h1;rename_i h1;split at he;cases he;exact⟨by simpa using h1,by omega,by omega,by omega,by omega⟩
 obtain⟨_,_,xc,Nc⟩:=oA aA
 have RJ:=h.aF.Z7
 have Ib:=aR.many
 have aFo:=h.aF.xX.len
 have ha:=aR.abk
 have ar4:(T.ls.flatMap (·.2)).length<=512:=by rw[<-aR.BA];exact aR.small
 refine⟨λfJ x w=>0<=x/\x<=T.bo.n/\∃(ms:J N) (J4:H),ms.length=x.toNat/\aD u w 167 1 fJ (ms.map λn=>.pointer (some ⟨n,0,none⟩))/\u.le J4/\J4.le w/\(∀g,fJ.aj=some g->J4 g=none)/\
   ∀(i:N) m p,ms[i]?=some m->(xu T.cs T.ls)[i]?=some p->mO J4 m p,λ_ x _=>((T.bo.n:o)-x).toNat,
  ⟨by omega,by omega,[],u,rfl,aD.nil (H.le.refl u) _ _,H.le.refl u,H.le.refl u,λg W=>by simp[U.aj] at W,λi m p hm=>by simp at hm⟩,?_⟩
 rintro fJ x w ⟨bG,dy,ms,J4,Mk,ab,ami,ew,LB,ahJ⟩
 have nH:fJ.n=ms.length:=by have:=ab.own.len;simpa using this.symm
 refine⟨λM=>?_,λM=>?_⟩
 have eO:x.toNat<T.ls.length:=by omega
 have ar:T.ls[x.toNat]?=some T.ls[x.toNat]:=cn eO
 have og:T.cs[x.toNat]?=some T.cs[x.toNat]:=cn (by omega)
 generalize T.ls[x.toNat]=l at ar
 generalize T.cs[x.toNat]=c at og
 obtain⟨cL,yp,Ls⟩:=h.aF.list _ l ar
 obtain⟨pz,_⟩:=h.aF.tx _ c og
 obtain⟨cd,u4⟩:=aR.Hn c (du og)
 obtain⟨p,ad,I⟩:=bt.elem B5 (by decide) (h.aF.nP.cC.mono ab.le) ar
 obtain⟨vK,iT,c7⟩:=bt.elem u5 (by decide) (h.aF.yb.mono ab.le) og
 have lq:gX l.2 c.2.length:=by rw[cd];exact ha.sub (Dy (f:=λl:U×J av=>l.2) (du ar))
 have kQ:dS u l.1 l.2:=⟨cL.cC,λr O=>(Ls r O).1⟩
 refine⟨p,ad,⟨bG,M⟩,l.1,I 0 _ rfl,_,rfl,T.kX,ab.le.cell c1,vK,iT,⟨bG,by omega⟩,c.1,c7 0 _ rfl,?_⟩
 refine alz (pz.mono ab.le) u4 (kQ.mono ab.le) lq λap k7 kC mU n25 Ii=>?_
 obtain⟨C2,ahG⟩:∃C2,C2=(bA #[.int .i64 3,.slice ap.a ap.n ap.c,.slice none 0 0,.int .u64 (dk (oy c.2 l.2 l.2.length)),.int .u64 (dq (oy c.2 l.2 l.2.length)),.slice none 0 0,.slice l.1.a l.1.n l.1.c,.slice none 0 0] 213 (0,0)):=⟨_,rfl⟩
 show c4 aH _ _ (kC.ins n25 (bA #[.int .i64 3,.slice ap.a ap.n ap.c,.slice none 0 0,.int .u64 (dk (oy c.2 l.2 l.2.length)),.int .u64 (dq (oy c.2 l.2 l.2.length)),.slice none 0 0,.slice l.1.a l.1.n l.1.c,.slice none 0 0] 213 (0,0))) _
 rw[<-ahG]
 have IT:=bW (u:=kC) (b:=n25) C2 Ii
 have aij:w.le (kC.ins n25 C2):=mU.le.trans IT
 have ag4:∀g,fJ.aj=some g->w g≠none:=λg W=>dF ab W
 have awv:w n25=none:=mU.le.none Ii
 have n258:fJ.aj≠some n25:=λe=>ag4 n25 e awv
 have ayi:∀g,ap.aj=some g->fJ.aj≠some g:=λg W e=>ag4 g e (mU.fresh g W)
 have Ci:J4.le (nm (kC.ins n25 C2) fJ):=λg z W=>by
  have:fJ.aj≠some g:=λe=>by rw[LB g e] at W;cases W
  rw[nn this];exact aij _ _ (ew _ _ W)
 have new:mO (nm (kC.ins n25 C2) fJ) n25 (I6 c.2 l.2):=by
  have awd:u.le (nm (kC.ins n25 C2) fJ):=ami.trans Ci;refine .mk ap ⟨none,0,0⟩ ⟨none,0,0⟩ l.1 ⟨none,0,0⟩ l.2 [] (by rw[nn n258,bf,ahG];rfl) rfl (bt.else mU.ints λg z W q0=>by rw[nn (ayi g W)];exact IT _ _ q0) ?_ (kQ.mono awd) rfl ?_ rfl λi m k hm=>by simp at hm
  exact⟨rfl,cg _,by decide,.inl rfl⟩;exact⟨rfl,cg _,by decide,.inl rfl⟩
 refine np aAM (aoG n25) (by decide) rfl (by simp[cF]) (ab.mono aij) (by show fJ.n<_;omega) (by show(fJ.n+1)*_<=_;omega) λaGx aGK RW Yj eB ev _=>⟨⟨by omega,by omega⟩,⟨by omega,by omega,ms++ [n25],nm (kC.ins n25 C2) fJ,by simp;omega,by rw[dY];exact RW,ami.trans Ci,λg z W=>eB g z (JP W).1 (JP W).2,λg W=>?_,λi m p hm fg=>?_⟩,by dsimp only;omega⟩
 rcases ev g W with h1|h1
 show(if fJ.aj=some g then none else _)=none
 rw[aV h1]
 by_cases e:fJ.aj=some g
 show(if fJ.aj=some g then none else _)=none
 rw[aV e]
 rw[nn e];exact h1
 rw[List.getElem?_append] at hm
 split at hm
 exact(ahJ i m p hm fg).mono Ci
 rename_i gr
 have hi:i=ms.length:=by have:=(ir.1 hm).1;simp at this;omega
 subst hi
 simp at hm
 subst hm
 rw[Mk,axe T.cs T.ls og ar] at fg
 rw[<-cO fg]
 exact new
 obtain⟨axo,aGr⟩:=axf T.cs T.ls Ib.1
 have eh:=ajB T.cs T.ls Ib.1
 refine abO (ms:=ms) (P:=xu T.cs T.ls) ab.own.cC (by rw[axo];omega) (λi m p h1 h2=>(ahJ i m p h1 h2).mono ew) (ajC T.cs T.ls (λc I=>by rw[xc];exact aR.Hn c I) λl ar=>?_) (ht.mono ab.le) Nc cx cS fV gf (by omega) (by rw[eh,dg];omega) (λy ah=>?_) λaG ss bc R u' aE b1=>?_
 rw[xc]
 exact ha.sub (Dy (f:=λl:U×J av=>l.2) ar)
 rw[eh] at ah
 obtain⟨r,O,rfl⟩:=bk.1 ah
 have:=ha.v r O
 exact⟨by rw[xc];exact this.1,this.2⟩
 exact bH he aG ss bc R u' (anZ aE ab.le) b1
end
end jm
section
variable{u ai:H}{s:U}{cs:J (U×J o)}{i d k:N}{v:J o}{n x st seed:o}
def TZ:j9 aH 133=some (30,1,24,[.slice none 0 0]):=by kernel_rfl
structure fL(ai u:H)(s:U)(cs:J (U×J o)):Prop where
 own:aD ai u 30 1 s (cs.flatMap λc=>encS c.1)
 inner:∀c∈cs,aD ai u 3 1 c.1 (c.2.flatMap encI)
 eu:∀c∈cs,dH s c.1
 apart:cs.Pairwise λa b=>dH a.1 b.1
def fL.xX(h:fL ai u s cs):mh u s cs:=⟨h.own.own.cC,λc I=>(h.inner c I).ints⟩
def fL.mono{u':H}(h:fL ai u s cs)(k:u.le u'):fL ai u' s cs:=⟨h.own.mono k,λc I=>(h.inner c I).mono k,h.eu,h.apart⟩
def fL.weaken{aS:H}(h:fL aS u s cs)(k:ai.le aS):fL ai u s cs:=⟨h.own.weaken k,λc I=>(h.inner c I).weaken k,h.eu,h.apart⟩
def fL.len(h:fL ai u s cs):s.n=cs.length:=h.xX.len
def fL.else{u':H}{t:U}(h:fL ai u s cs)(he:gN u u' t)(ht:∀g,t.aj=some g->ai g=none)(h1:dH t s)(h2:∀c∈cs,dH t c.1):fL ai u' s cs:=
 ⟨aD.else h.own he ht h1,λc I=>aD.else (h.inner c I) he ht (h2 c I),h.eu,h.apart⟩
def fL.none(h:aD ai u 30 1 s ((eU k ((⟨none,0,0⟩:U),([]:J o))).flatMap λc=>encS c.1)):fL ai u s (eU k (⟨none,0,0⟩,[])):=by refine⟨h,λc I=>?_,λc I=>?_,?_⟩;rw[(uH.1 I).2];exact aD.nil h.le _ _;rw[(uH.1 I).2];intro g _ W;simp[U.aj] at W;rw[aa6];exact .inr λg W=>by simp[U.aj] at W
def ajx{α:Type}{R:α->α->Prop}{l:J α}(h:l.Pairwise R)(ag:∀a b,R a b->R b a){y:α}(ah:∀j Y,j≠i->l[j]?=some Y->R Y y):(l.set i y).Pairwise R:=by rw[nX];intro a b aE Z Xp;rw[qz] at aE Z;rw[abb,abb];split;rename_i e;split;omega;rename_i aC;exact ag _ _ (ah b _ (dv aC) (cn Z));rename_i e;split;exact ah a _ (dv e) (cn aE);exact nX.1 h a b aE Z Xp
def mem_set{α:Type}{l:J α}{y Y:α}(h:Y∈l.set i y):Y=y∨∃j,j≠i/\l[j]?=some Y:=by obtain⟨j,aM,rfl⟩:=pe h;rw[qz] at aM;rw[abb];split;exact .inl rfl;rename_i e;exact .inr ⟨j,dv e,cn aM⟩
def QP{α:Type}{l:J α}{j:N}{y Y:α}(h:(l.set i y)[j]?=some Y):(j=i/\Y=y)∨(j≠i/\l[j]?=some Y):=by by_cases e:j=i;subst e;have ar:j<(l.set j y).length:=(ir.1 h).1;rw[qz] at ar;rw[ze ar] at h;exact .inl ⟨rfl,(cO h).symm⟩;rw[uE (dv e)] at h;exact .inr ⟨e,h⟩
def fL.akM(h:fL ai u s cs){j:N}{c:U×J o}(hi:cs[i]?=some c)(aM:j<c.2.length){p:ba}(ad:c.1.a=some p){f:H->Prop}
  (ac:∀u',fL ai u' s (cs.set i (c.1,c.2.set j x))->gN u u' c.1->f u'):H.aN u (p.add (j*1)) [.int .i64 x] f:=by
 have I:=du hi
 have ea:i<cs.length:=(ir.1 hi).1
 have sz:cs[i]=c:=(ir.1 hi).2
 have other:∀Y k,k≠i->cs[k]?=some Y->dH c.1 Y.1:=λY k hk aB=>by have hC:=(ir.1 aB).1;have aeN:=(ir.1 aB).2;rcases Nat.lt_or_gt_of_ne hk with h1|h1;have:=nX.1 h.apart k i hC ea h1;rw[aeN,sz] at this;exact this.symm;have:=nX.1 h.apart i k ea hC h1;rw[aeN,sz] at this;exact this
 refine aD.store (enc:=encI) kK (h.inner c I) (by decide) (i:=j) aM (y:=x) (by simp[encI,cF]) ad λu' ab he _=>ac u' ⟨?_,λY aB=>?_,λY aB=>?_,?_⟩ he
 have e:(cs.set i (c.1,c.2.set j x)).flatMap (λc=>encS c.1)=cs.flatMap λc=>encS c.1:=by
   have:(cs.set i (c.1,c.2.set j x)).map (λc=>c.1)=cs.map λc=>c.1:=by rw[Gj];apply r1;intro m;rw[A4];split;rename_i e;subst e;rw[aV (by simpa using ea),iD,hi];rfl;rfl
   have aC:∀l:J (U×J o),l.flatMap (λc=>encS c.1)=(l.map λc=>c.1).flatMap encS:=λl=>by rw[Bf]
   rw[aC,this,<-aC]
 rw[e]
 exact aD.else h.own he (h.inner c I).fresh (h.eu c I).symm
 rcases mem_set aB with rfl|⟨k,hk,aB⟩
 exact ab
 exact aD.else (h.inner Y (du aB)) he (h.inner c I).fresh (other Y k hk aB)
 rcases mem_set aB with rfl|⟨k,hk,aB⟩
 exact h.eu c I
 exact h.eu Y (du aB)
 exact ajx h.apart (λa b h=>h.symm) λk Y hk aB=>(other Y k hk aB).symm
def fL.put{aS:H}{t:U}(h:fL ai u s cs)(ht:aD u aS 3 1 t (v.flatMap encI))(hi:i<cs.length){p:ba}(ad:s.a=some p){f:H->Prop}
  (ac:∀u',fL ai u' s (cs.set i (t,v))->gN aS u' s->f u'):H.aN aS (p.add (i*1)) [.slice t.a t.n t.c] f:=by
 have h1:=h.mono ht.le
 have rc:ai.le u:=h.own.le
 have Wq:∀{e k:N} {x:U} {xs:J ao},aD ai u e k x xs->dH x t:=λM=>aD.eu M (H.le.refl u) ht
 refine aD.store (enc:=λc:U×J o=>encS c.1) u5 h1.own (by decide) (i:=i) hi (y:=(t,v)) (by simp[encS,cF]) ad λu' ab he _=>ac u' ⟨ab,λY aB=>?_,λY aB=>?_,?_⟩ he
 rcases mem_set aB with rfl|⟨k,hk,aB⟩
 exact aD.else (ht.weaken rc) he h.own.fresh (Wq h.own)
 exact aD.else (h1.inner Y (du aB)) he h.own.fresh (h.eu Y (du aB))
 rcases mem_set aB with rfl|⟨k,hk,aB⟩
 exact Wq h.own
 exact h.eu Y (du aB)
 exact ajx h.apart (λa b h=>h.symm) λk Y hk aB=>Wq (h.inner Y (du aB))
def I1(cs:J (J o))(v:J o):N:=(l0 cs v cs.length).1
def lK(cs vs:J (J o))(i:N):J (J o):=vs.filter λv=>decide (I1 cs v=i)
def p0(m:J (J o))(j:N):o:=(m.map λv=>v.getD j 0).sum
def yU(m:J (J o))(d:N):J o:=(ox d).map λj=>p0 m j/(m.length:o)
def Bi(d:N)(vs cs:J (J o)):J (J o):=(ox cs.length).map λi=>if lK cs vs i=[] then cs.getD i [] else yU (lK cs vs i) d
def abl(d:N)(vs cs:J (J o)):(Bi d vs cs).length=cs.length:=by simp[Bi]
def ax6{vs cs:J (J o)}(h:i<cs.length):(Bi d vs cs)[i]?=some (if lK cs vs i=[] then cs.getD i [] else yU (lK cs vs i) d):=by unfold Bi;rw[iD,Tc h];rfl
def ajd{cs vs:J (J o)}{x:N}(h:vs[x]?=some v)(i:N):lK cs (vs.take (x+1)) i=lK cs (vs.take x) i++(if I1 cs v=i then[v] else[]):=by unfold lK;rw[gT,h,Option.toList,vT];by_cases e:I1 cs v=i<;>simp[e]
def aAB(a b:J (J o))(j:N):p0 (a++b) j=p0 a j+p0 b j:=by unfold p0;rw[dY,List.sum_append]
def aAC(v:J o)(j:N):p0 [v] j=v.getD j 0:=by simp[p0]
def alX(j:N):p0 [] j=0:=rfl
def aer(h:db v)(j:N):-2147483647<=v.getD j 0/\v.getD j 0<=2147483647:=by by_cases aM:j<v.length;exact h.2 j aM;rw[dr,io (by omega)];decide
def ace{m:J (J o)}(h:∀v∈m,db v)(j:N):-2147483647*(m.length:o)<=p0 m j/\p0 m j<=2147483647*(m.length:o):=by
 induction m with
 |nil=>simp[p0]|cons v m aL=>
  have h1:=aer (h v (gh ..)) j;have h2:=aL λw hw=>h w (gd _ hw);have e:p0 (v::m) j=v.getD j 0+p0 m j:=by simp[p0]
  rw[e,h5];omega
def awj{m:J (J o)}(h:∀v∈m,db v)(hm:m≠[])(aw:d<=64):db (yU m d)/\(yU m d).length=d:=by
 have ar:(yU m d).length=d:=by simp[yU]
 refine⟨⟨by omega,λi hi=>?_⟩,ar⟩;have ad:(0:o)<(m.length:o):=by have:=vR.2 hm;omega
 have e:(yU m d).getD i 0=p0 m i/(m.length:o):=by unfold yU;rw[dr,iD,Tc (by omega)];rfl
 rw[e];obtain⟨h1,h2⟩:=ace h i;exact⟨Int.le_ediv_of_mul_le ad h1,Int.ediv_le_of_le_mul ad h2⟩
def aab{cs vs:J (J o)}(h:v∈lK cs vs i):v∈vs:=(hT.1 h).1
def ajc(cs vs:J (J o))(i:N):(lK cs vs i).length<=vs.length:=Bh _ _
def akl{vs cs:J (J o)}(aA:∀v∈vs,db v)(aw:d<=64)(I:∀c∈cs,c.length=d/\db c):∀c∈Bi d vs cs,c.length=d/\db c:=by
 intro c cJ;obtain⟨i,hi,rfl⟩:=bk.1 cJ;have ea:i<cs.length:=Jm.1 hi;split;have:cs.getD i []∈cs:=by rw[dr,cn ea];exact kk ea
 exact I _ this;rename_i al;obtain⟨h1,h2⟩:=awj (d:=d) (λv gR=>aA v (aab gR)) al aw;exact⟨h2,h1⟩
def apx{a b:o}(Z:0<b):(nh a b<0->gw a b-1=a/b)/\(¬nh a b<0->gw a b=a/b):=by
 have h1:=Int.mul_tdiv_add_tmod a b;have h2:=Int.mul_ediv_add_emod a b;have h3:=Od a (show b≠0 by omega);have a7:=Oe a Z;have bE:(nh a b).natAbs<b.natAbs:=by rw[Int.natAbs_tmod];exact N4 _ (by omega)
 have key:∀q r AZ ch:o,b*q+r=b*AZ+ch->0<=r->r<b->0<=ch->ch<b->q=AZ:=by
  intro q r AZ ch he qC pf aGs aGt;have aP:b*(q-AZ)=ch-r:=by rw[Int.mul_sub];omega
  by_cases aO:q=AZ;exact aO;rcases Int.lt_or_gt_of_ne aO with h|h;have:b*(q-AZ)<=b*(-1):=JC (by omega) (by omega);omega;have:b*1<=b*(q-AZ):=JC (by omega) (by omega);omega
 constructor;intro ae;refine key _ (nh a b+b) _ (a%b) ?_ (by omega) (by omega) h3 a7;rw[Int.mul_sub];omega;intro ae;exact key _ (nh a b) _ (a%b) (by omega) (by omega) (by omega) h3 a7
def azy{a b:o}{K:o->H->Prop}(Z:0<b)(h1:-10000000000000<=a)(h2:a<=10000000000000)(aq:K (a/b) u):UK a b u K:=by obtain⟨d1,d2⟩:=apx (a:=a) Z;have Fb:-10000000000000<=a/b:=Int.le_ediv_of_mul_le Z (by have:-10000000000000*b<=-10000000000000*1:=Int.mul_le_mul_of_nonpos_left (by omega) (by omega);omega);have YJ:a/b<=10000000000000:=Int.ediv_le_of_le_mul Z (by have:10000000000000*1<=10000000000000*b:=JC (by omega) (by omega);omega);apply aCM;refine⟨by omega,?_,by omega,λae=>?_,λae=>?_⟩;by_cases ae:nh a b<0;have:=d1 ae;exact⟨by omega,by omega⟩;have:=d2 ae;exact⟨by omega,by omega⟩;rw[d1 ae];exact⟨⟨by omega,by omega⟩,aq⟩;rw[d2 ae];exact aq
def abE(h0:0<=n)(ae:n<=1000000){K:U->H->Prop}(aq:∀s u',aD u u' 3 1 s ((eU n.toNat (0:o)).flatMap encI)->(s.n:o)=n->K s u'):
  c4 aH (pP 30 (.int .i64 n) (.int .i64 n)) [.one .slice] u K:=by
 refine GB lQ h0 (l4 _) (by omega) (by omega) λg W=>?_
 have q4:(lO [cG .i64 0].toArray (n.toNat*1)).toList=(eU n.toNat (0:o)).flatMap encI:=AS (enc:=encI) kK (by decide) 0 n.toNat
 have cY:(lO [cG .i64 0].toArray (n.toNat*1)).size=n.toNat*1:=by have:=dV hR q4;rw[ru,od kK] at this;simpa using this
 have ab:=aD.make (k:=1) (H.le.refl u) W (cells:=lO [cG .i64 0].toArray (n.toNat*1)) (e:=3) (n:=n.toNat) (by omega) cY
 rw[q4] at ab
 exact aq _ _ ab (by show((n.toNat:N):o)=n;omega)
def akF(h0:0<=n)(ae:n<=1000000){K:U->H->Prop}(aq:∀s u',fL u u' s (eU n.toNat (⟨none,0,0⟩,[]))->(s.n:o)=n->K s u'):
  c4 aH (pP 133 (.int .i64 n) (.int .i64 n)) [.one .slice] u K:=by
 refine GB TZ h0 (l4 _) (by omega) (by omega) λg W=>?_
 have q4:(lO [dX none 0 0].toArray (n.toNat*1)).toList=(eU n.toNat ((⟨none,0,0⟩:U),([]:J o))).flatMap λc=>encS c.1:=AS (enc:=λc:U×J o=>encS c.1) u5 (by decide) (⟨none,0,0⟩,[]) n.toNat
 have cY:(lO [dX none 0 0].toArray (n.toNat*1)).size=n.toNat*1:=by have:=dV hR q4;rw[ru,od u5] at this;simpa using this
 have ab:=aD.make (k:=1) (H.le.refl u) W (cells:=lO [dX none 0 0].toArray (n.toNat*1)) (e:=30) (n:=n.toNat) (by omega) cY
 rw[q4] at ab
 exact aq _ _ (fL.none ab) (by show((n.toNat:N):o)=n;omega)
def ap8{a b:J o}(ar:a.length=b.length)(h:∀j,j<a.length->a.getD j 0=b.getD j 0):a=b:=by apply abc ar;intro j h1 h2;have:=h j h1;rw[dr,dr,cn h1,cn h2] at this;exact this
def WA(l:J o)(i j:N)(x:o)(hi:i<l.length):(l.set i x).getD j 0=if j=i then x else l.getD j 0:=by rw[dr,A4];by_cases e:i=j;subst e;rw[aV rfl,aV hi,aV rfl];rfl;rw[az e,az (dv e),dr]
structure RoundIn(ub:H)(a0 aa a2 a3:N)(k d:N)(bo kX:U)(L:J (U×J o)):Prop where
 bK:ub.cell? ⟨a0,0,none⟩=some (.int .i64 k)
 c1:ub.cell? ⟨aa,0,none⟩=some (.int .i64 d)
 c2:ub.cell? ⟨a2,0,none⟩=some (.slice bo.a bo.n bo.c)
 fM:ub.cell? ⟨a3,0,none⟩=some (.slice kX.a kX.n kX.c)
 vs:mh ub bo L
 ok:∀c∈L,c.2.length=d/\db c.2
 u9:L.length<=512
 dim:1<=d/\d<=64
 many:1<=k/\k<=64
def azA{ub:H}{a0 aa a2 a3:N}{bo kX:U}{L n4:J (U×J o)}{K:H->Prop}(cA:RoundIn ub a0 aa a2 a3 k d bo kX L)(vd:fL ub u kX n4)(WT:n4.length=k)(Q1:∀c∈n4,c.2.length=d/\db c.2)
  (aq:∀u' acT,fL ub u' kX acT->acT.map (·.2)=Bi d (L.map (·.2)) (n4.map (·.2))->K u'):adl ⟨a0,0,none⟩ ⟨aa,0,none⟩ ⟨a2,0,none⟩ ⟨a3,0,none⟩ u K:=by
 obtain⟨d1,d2⟩:=cA.dim
 obtain⟨cx,cS⟩:=cA.many
 have sM:=cA.u9
 have b9:ub.le u:=vd.own.le
 obtain⟨cs,dU⟩:∃cs,cs=n4.map (·.2):=⟨_,rfl⟩
 obtain⟨vs,kS⟩:∃vs,vs=L.map (·.2):=⟨_,rfl⟩
 have asb:cs.length=k:=by rw[dU,dg,WT]
 have aGf:vs.length=L.length:=by rw[kS,dg]
 have Fv:∀v∈vs,db v:=λv aA=>by rw[kS] at aA;obtain⟨c,I,rfl⟩:=bk.1 aA;exact(cA.ok c I).2
 have aqR:wq n4 (d:o):=⟨by omega,by omega,λc I=>⟨by have:=(Q1 c I).1;omega,(Q1 c I).2⟩⟩
 apply aCK
 refine⟨k,b9.cell cA.bK,akF (by omega) (by omega) λs1 c9 Lx aut=>⟨k,(b9.trans Lx.own.le).cell cA.bK,abE (by omega) (by omega) λqE fK rJ auw=>⟨k,((b9.trans Lx.own.le).trans rJ.le).cell cA.bK,?_⟩⟩⟩
 have afW:=Lx.mono rJ.le
 have aqb:∀{e k:N} {x:U} {xs:J ao},aD u c9 e k x xs->dH x qE:=λM=>aD.eu M (H.le.refl c9) rJ
 refine⟨λx w=>0<=x/\x<=k/\∃S,fL u w s1 S/\S.length=k/\(∀(a:N) c,S[a]?=some c->((a:o)<x->c.2=eU d 0))/\aD u w 3 1 qE ((eU k (0:o)).flatMap encI)/\dH s1 qE/\∀c∈S,dH c.1 qE,λx _=>((k:o)-x).toNat,
  ⟨by omega,by omega,_,afW,by simp,λa c _ h=>by omega,by simpa using rJ.weaken Lx.own.le,aqb Lx.own,λc I g W=>by rw[(uH.1 I).2] at W;simp[U.aj] at W⟩,?_⟩
 rintro x w ⟨bG,dy,S,bh,tF,Ck,iH,EH,HZ⟩
 refine⟨λM=>⟨d,(b9.trans bh.own.le).cell cA.c1,?_⟩,λM=>?_⟩
 refine abE (by omega) (by omega) λGu aBc ab ahq=>?_
 have eO:x.toNat<S.length:=by omega
 obtain⟨p,ad,_⟩:=bh.xX.at bG (by rw[bh.len];omega)
 refine⟨p,ad,⟨bG,by omega⟩,?_⟩
 rw[show((d:N):o).toNat=d from rfl] at ab
 refine fL.put bh ab eO ad λu' Cj he=>⟨⟨by omega,by omega⟩,⟨by omega,by omega,_,Cj,by rw[qz];exact tF,λa c kq Ri=>?_,?_,EH,λc I=>?_⟩,by dsimp only;omega⟩
 rcases QP kq with⟨_,rfl⟩|⟨e,kq⟩
 rfl
 exact Ck a c kq (by omega)
 exact aD.else (iH.mono ab.le) he bh.own.fresh EH
 rcases mem_set I with rfl|⟨j,_,aM⟩
 exact(aD.eu iH (H.le.refl w) ab).symm
 exact HZ c (du aM)
 have IC:x.toNat=k:=by omega
 have afX:∀(a:N) c,S[a]?=some c->c.2=eU d 0:=λa c kq=>Ck a c kq (by have:=(ir.1 kq).1;omega)
 clear Ck bG dy M IC x afW rJ aut auw
 refine⟨bo,(b9.trans bh.own.le).cell cA.c2,?_⟩
 have aF5:=cA.vs.len
 refine⟨λx w=>0<=x/\x<=L.length/\∃(S:J (U×J o)) (ck:J o),fL u w s1 S/\S.length=k/\(∀(a:N) c,S[a]?=some c->c.2.length=d/\∀j,j<d->c.2.getD j 0=p0 (lK cs (vs.take x.toNat) a) j)/\aD u w 3 1 qE (ck.flatMap encI)/\ck.length=k/\(∀a,a<k->ck.getD a 0=((lK cs (vs.take x.toNat) a).length:N))/\dH s1 qE/\∀c∈S,dH c.1 qE,
  λx _=>((L.length:o)-x).toNat,⟨by omega,by omega,S,_,bh,tF,λa c kq=>?_,iH,by simp,λa aE=>?_,EH,HZ⟩,?_⟩
 rw[afX a c kq]
 refine⟨by simp,λj aM=>?_⟩
 have:lK cs (vs.take (0:o).toNat) a=[]:=rfl
 rw[this,alX,dr,Jz,aV aM]
 rfl
 have:lK cs (vs.take (0:o).toNat) a=[]:=rfl
 rw[this,dr,Jz,aV aE]
 rfl
 clear bh iH EH HZ tF afX S w
 rintro x w ⟨bG,dy,S,ck,bh,tF,Ck,iH,arn,Q9,EH,HZ⟩
 have CJ:ub.le w:=b9.trans bh.own.le
 have aFj:qE.n=ck.length:=iH.ints.len
 refine⟨λM=>?_,λM=>?_⟩
 obtain⟨p,ad,v,aA,aie,u4,aid⟩:=(cA.vs.mono CJ).at (x:=x) bG M
 obtain⟨aGT,amK⟩:=cA.ok v aie
 have Zk:vs[x.toNat]?=some v.2:=by rw[kS,iD,aA];rfl
 refine⟨p,ad,⟨bG,M⟩,v.1,u4,kX,CJ.cell cA.fM,?_⟩
 refine abV (vd.xX.mono bh.own.le) aqR aid amK (by omega) ?_
 have Ms:(l0 (n4.map (·.2)) v.2 n4.length).1=I1 cs v.2:=by unfold I1;rw[dU,dg]
 rw[Ms]
 obtain⟨at',qZ⟩:∃at',at'=I1 cs v.2:=⟨_,rfl⟩
 have arV:at'<k:=by rw[qZ,<-asb];exact ajk _ _ _ (by omega)
 rw[<-qZ]
 obtain⟨uv,xb,HV⟩:=iH.ints.at (x:=(at':o)) (by omega) (by omega)
 have sP:=Q9 at' arV
 have pG:=ajc cs (vs.take x.toNat) at'
 rw[gL] at pG
 rw[xM] at HV
 refine⟨uv,xb,⟨by omega,by omega⟩,_,by unfold aW;rw[xM];exact HV,⟨by omega,by omega⟩,uv,xb,⟨by omega,by omega⟩,?_⟩
 unfold aW
 rw[xM]
 refine aD.store (enc:=encI) kK iH (by decide) (i:=at') (by omega) (y:=ck.getD at' 0+1) (by simp[encI,cF]) xb λwj afS asi _=>⟨d,?_,?_⟩
 exact afS.le|>λh=>(b9.trans h).cell cA.c1
 have arA:fL u wj s1 S:=bh.else asi iH.fresh EH.symm λc I=>(HZ c I).symm
 have aro:∀a,a<k->(ck.set at' (ck.getD at' 0+1)).getD a 0=((lK cs (vs.take (x+1).toNat) a).length:N):=λa aE=>by rw[WA _ _ _ _ (by omega),show(x+1).toNat=x.toNat+1 by omega,ajd Zk,eC,<-qZ];by_cases e:a=at';subst e;rw[aV rfl,aV rfl,sP];simp;rw[az e,az (dv e),Q9 a aE];simp
 refine⟨λn w=>0<=n/\n<=d/\∃S,fL u w s1 S/\S.length=k/\(∀(a:N) c,S[a]?=some c->c.2.length=d/\∀j,j<d->c.2.getD j 0=p0 (lK cs (vs.take x.toNat) a) j+(if a=at'/\(j:o)<n then v.2.getD j 0 else 0))/\aD u w 3 1 qE ((ck.set at' (ck.getD at' 0+1)).flatMap encI)/\∀c∈S,dH c.1 qE,λn _=>((d:o)-n).toNat,
  ⟨by omega,by omega,S,arA,tF,λa c kq=>⟨(Ck a c kq).1,λj aM=>by rw[az (by omega),(Ck a c kq).2 j aM];omega⟩,afS,HZ⟩,?_⟩
 rintro n dK ⟨n0,b3,anQ,Ey,afV,Xc,vf,Ru⟩
 refine⟨λae=>?_,λae=>?_⟩
 obtain⟨hF,gG,c,I,cJ,B2,pz⟩:=Ey.xX.at (x:=(at':o)) (by omega) (by rw[Ey.len];omega)
 rw[xM] at I
 obtain⟨cl,aeu⟩:=Xc at' c I
 have oR:=pz.len
 have yK:=aid.len
 obtain⟨dO,fg,Zq⟩:=pz.at (x:=n) n0 (by omega)
 obtain⟨pa,q9,ava⟩:=((cA.vs.ints v aie).mono (b9.trans Ey.own.le)).at (x:=n) n0 (by omega)
 have Mv:n.toNat<d:=by omega
 have yr:=aeu n.toNat Mv
 rw[az (by omega)] at yr
 have ii:=ace (m:=lK cs (vs.take x.toNat) at') (λY aB=>Fv Y (nW (aab aB))) n.toNat
 have jS:=aer amK n.toNat
 refine⟨hF,gG,⟨by omega,by rw[Ey.len];omega⟩,pa,q9,⟨n0,by omega⟩,c.1,B2,dO,fg,⟨n0,by omega⟩,_,Zq,_,ava,⟨by omega,by omega⟩,dO,fg,⟨n0,by omega⟩,?_⟩
 refine Ey.akM I (j:=n.toNat) (by omega) fg λDD arB asm=>⟨⟨by omega,by omega⟩,⟨by omega,by omega,_,arB,by rw[qz];exact afV,λa Y Lz=>?_,aD.else vf asm (Ey.inner c cJ).fresh (Ru c cJ),λY aB=>?_⟩,by dsimp only;omega⟩
 rcases QP Lz with⟨rfl,rfl⟩|⟨e,Lz⟩
 refine⟨by rw[qz];exact cl,λj aM=>?_⟩
 rw[WA _ _ _ _ (by omega)]
 by_cases e:j=n.toNat
 subst e
 rw[aV rfl,aV ⟨rfl,by omega⟩,yr]
 omega
 rw[az e,aeu j aM]
 by_cases aC:(j:o)<n
 rw[aV ⟨rfl,aC⟩,aV ⟨rfl,by omega⟩]
 rw[az (by omega),az (by omega)]
 obtain⟨jc,z2⟩:=Xc a Y Lz
 refine⟨jc,λj aM=>?_⟩
 rw[z2 j aM,az (λh=>e h.1),az (λh=>e h.1)]
 rcases mem_set aB with rfl|⟨j,_,aM⟩
 exact Ru c cJ
 exact Ru Y (du aM)
 refine⟨⟨by omega,by omega⟩,⟨by omega,by omega,anQ,_,Ey,afV,λa Y Lz=>?_,vf,by rw[qz];exact arn,aro,EH,Ru⟩,by dsimp only;omega⟩
 obtain⟨jc,z2⟩:=Xc a Y Lz
 refine⟨jc,λj aM=>?_⟩
 rw[z2 j aM,show(x+1).toNat=x.toNat+1 by omega,ajd Zk,aAB,<-qZ]
 by_cases e:a=at'
 subst e
 rw[aV ⟨rfl,by omega⟩,aV rfl,aAC]
 rw[az (λh=>e h.1),az (dv e),alX]
 have eh:vs.take x.toNat=vs:=ho (by omega)
 rw[eh] at Ck Q9
 clear M bG dy eh x
 have aqS:=vd.mono bh.own.le
 have Cj:=bh.weaken b9
 have ark:=iH.weaken b9
 have aqc:∀c∈n4,dH c.1 s1/\dH c.1 qE/\∀Y∈S,dH c.1 Y.1:=λc I=>by have M:=vd.inner c I;exact⟨aD.eu M (H.le.refl u) bh.own,aD.eu M (H.le.refl u) iH,λY aB=>aD.eu M (H.le.refl u) (bh.inner Y aB)⟩
 refine⟨k,CJ.cell cA.bK,?_⟩
 let val:N->N->o:=λa j=>if lK cs vs a=[] then(cs.getD a []).getD j 0 else p0 (lK cs vs a) j/((lK cs vs a).length:o)
 have afm:∀{a:N} {c:U×J o},n4[a]?=some c->cs.getD a []=c.2:=λ{a c} kq=>by subst dU;rw[dr,iD,kq];rfl
 refine⟨λi w=>0<=i/\i<=k/\∃D,fL ub w kX D/\D.map (·.1)=n4.map (·.1)/\(∀(a:N) c,D[a]?=some c->c.2.length=d/\∀j,j<d->c.2.getD j 0=if(a:o)<i then val a j else(cs.getD a []).getD j 0)/\fL ub w s1 S/\aD ub w 3 1 qE (ck.flatMap encI),λi _=>((k:o)-i).toNat,
  ⟨by omega,by omega,n4,aqS,rfl,λa c kq=>⟨(Q1 c (du kq)).1,λj aM=>by rw[az (by omega),afm kq]⟩,Cj,ark⟩,?_⟩
 rintro i hy ⟨i0,i1,D,eM,Q3,HH,arz,arm⟩
 have Q2:D.length=k:=by have:=dV hR Q3;simpa[WT] using this
 have aqd:∀{D:J (U×J o)},D.map (·.1)=n4.map (·.1)->∀c∈D,dH c.1 s1/\dH c.1 qE/\∀Y∈S,dH c.1 Y.1:=λ{D} Q3 c I=>by
  have:c.1∈n4.map (·.1):=by rw[<-Q3];exact hS I
  obtain⟨mS,c7,e⟩:=bk.1 this;have gq:mS.1=c.1:=e;rw[<-gq];exact aqc mS c7
 refine⟨λhi=>⟨d,(eM.own.le).cell cA.c1,?_⟩,λhi=>?_⟩
 .have asS:i.toNat<k:=by omega
  refine⟨λn w=>0<=n/\n<=d/\∃D,fL ub w kX D/\D.map (·.1)=n4.map (·.1)/\(∀(a:N) c,D[a]?=some c->c.2.length=d/\∀j,j<d->c.2.getD j 0=if(a:o)<i∨(a:o)=i/\(j:o)<n then val a j else(cs.getD a []).getD j 0)/\fL ub w s1 S/\aD ub w 3 1 qE (ck.flatMap encI),λn _=>((d:o)-n).toNat,
   ⟨by omega,by omega,D,eM,Q3,λa c kq=>⟨(HH a c kq).1,λj aM=>by rw[(HH a c kq).2 j aM];by_cases e:(a:o)<i;rw[aV e,aV (.inl e)];rw[az e,az (by omega)]⟩,arz,arm⟩,?_⟩
  rintro n po ⟨n0,b3,E,px,Ln,HI,HN,Q8⟩;have aFg:E.length=k:=by have:=dV hR Ln;simpa[WT] using this
  refine⟨λae=>?_,λae=>⟨⟨by omega,by omega⟩,⟨by omega,by omega,E,px,Ln,λa c kq=>⟨(HI a c kq).1,λj aM=>by rw[(HI a c kq).2 j aM];by_cases e:(a:o)<i;rw[aV (.inl e),aV (by omega)];by_cases aC:(a:o)=i;rw[aV (.inr ⟨aC,by omega⟩),aV (by omega)];rw[az (by omega),az (by omega)]⟩,HN,Q8⟩,by dsimp only;omega⟩⟩
  obtain⟨uv,xb,HV⟩:=Q8.ints.at (x:=i) i0 (by omega);have sP:=Q9 i.toNat asS;have pG:=ajc cs vs i.toNat;rw[sP] at HV;have next:∀{GW:H} {F:J (U×J o)},fL ub GW kX F->F.map (·.1)=n4.map (·.1)->(∀(a:N) c,F[a]?=some c->c.2.length=d/\∀j,j<d->c.2.getD j 0=if(a:o)<i∨(a:o)=i/\(j:o)<n+1 then val a j else(cs.getD a []).getD j 0)->fL ub GW s1 S->aD ub GW 3 1 qE (ck.flatMap encI)->
    (br (n+1))/\((0<=n+1/\n+1<=d/\∃D,fL ub GW kX D/\D.map (·.1)=n4.map (·.1)/\(∀(a:N) c,D[a]?=some c->c.2.length=d/\∀j,j<d->c.2.getD j 0=if(a:o)<i∨(a:o)=i/\(j:o)<n+1 then val a j else(cs.getD a []).getD j 0)/\fL ub GW s1 S/\aD ub GW 3 1 qE (ck.flatMap encI))/\((d:o)-(n+1)).toNat<((d:o)-n).toNat):=λh1 h2 h3 a7 bE=>⟨⟨by omega,by omega⟩,⟨by omega,by omega,_,h1,h2,h3,a7,bE⟩,by omega⟩
  refine⟨uv,xb,⟨i0,by omega⟩,_,HV,λoW=>?_,λAo=>?_⟩
  .obtain⟨hF,gG,Y,aB,Si,KJ,uf⟩:=HN.xX.at (x:=i) i0 (by rw[HN.len];omega);obtain⟨axh,at7,c,I,cJ,B2,pz⟩:=px.xX.at (x:=i) i0 (by rw[px.len];omega);obtain⟨J8,am3⟩:=Ck i.toNat Y aB;obtain⟨cl,u4⟩:=HI i.toNat c I;have Mv:n.toNat<d:=by omega
   have avj:=uf.len;have oR:=pz.len;obtain⟨axD,auf,aiz⟩:=uf.at (x:=n) n0 (by omega);obtain⟨axi,ahK,_⟩:=pz.at (x:=n) n0 (by omega);rw[am3 n.toNat Mv] at aiz;have ii:=ace (m:=lK cs vs i.toNat) (λY aB=>Fv Y (aab aB)) n.toNat;refine⟨hF,gG,⟨i0,by rw[HN.len];omega⟩,uv,xb,⟨i0,by omega⟩,kX,px.own.le.cell cA.fM,axh,at7,⟨i0,by rw[px.len];omega⟩,c.1,B2,Y.1,KJ,axD,auf,⟨n0,by omega⟩,_,aiz,_,HV,?_⟩;refine azy oW (by omega) (by omega) ⟨H.le.refl _,axi,ahK,⟨n0,by omega⟩,?_⟩;obtain⟨f1,f2,f3⟩:=aqd Ln c cJ;refine px.akM I (j:=n.toNat) (by omega) ahK λaGO aqX agB=>next aqX ?_ (λa y Xt=>?_) (HN.else agB (px.inner c cJ).fresh f1 f3) (aD.else Q8 agB (px.inner c cJ).fresh f2);rw[<-Ln,Gj];apply r1;intro m;rw[A4];split;rename_i e;subst e;rw[aV (by rw[dg];omega),iD,I];rfl;rfl;have al:lK cs vs i.toNat≠[]:=λh0=>by rw[h0] at oW;simp at oW
   rcases QP Xt with⟨rfl,rfl⟩|⟨e,Xt⟩;refine⟨by rw[qz];exact cl,λj aM=>?_⟩;rw[WA _ _ _ _ (by omega)];by_cases e:j=n.toNat;subst e;rw[aV rfl,aV (.inr ⟨by omega,by omega⟩)];show _=if lK cs vs i.toNat=[] then _ else _;rw[az al];rw[az e,u4 j aM];by_cases aC:(j:o)<n;rw[aV (.inr ⟨by omega,aC⟩),aV (.inr ⟨by omega,by omega⟩)];rw[az (by omega),az (by omega)];obtain⟨j6,lS⟩:=HI a y Xt;refine⟨j6,λj aM=>?_⟩;rw[lS j aM];by_cases aC:(a:o)<i;rw[aV (.inl aC),aV (.inl aC)];rw[az (by omega),az (by omega)]
  .refine next px Ln (λa c kq=>⟨(HI a c kq).1,λj aM=>?_⟩) HN Q8;have Am:lK cs vs i.toNat=[]:=ly (by omega);rw[(HI a c kq).2 j aM];by_cases e:(a:o)<i;rw[aV (.inl e),aV (.inl e)];by_cases aC:(a:o)=i;have KR:a=i.toNat:=by omega
   have aA:val a j=(cs.getD a []).getD j 0:=by show(if lK cs vs a=[] then _ else _)=_;rw[aV (by rw[KR];exact Am)]
   by_cases c0:(j:o)<n+1;by_cases ff:(j:o)<n;rw[aV (.inr ⟨aC,ff⟩),aV (.inr ⟨aC,c0⟩)];rw[az (by omega),aV (.inr ⟨aC,c0⟩),aA];rw[az (by omega),az (by omega)];rw[az (by omega),az (by omega)]
 refine aq hy D eM ?_
 rw[<-dU,<-kS]
 apply r1
 intro a
 by_cases aE:a<k
 have afH:D[a]?=some D[a]:=cn (by omega)
 obtain⟨eZ,fZ⟩:=HH a _ afH
 have afD:n4[a]?=some n4[a]:=cn (by omega)
 have hv:=(Q1 _ (du afD)).1
 rw[iD,afH,ax6 (by omega)]
 show some D[a].2=_
 congr 1
 have apO:cs.getD a []=n4[a].2:=afm afD
 refine ap8 ?_ λj aM=>?_
 rw[eZ]
 split
 rw[apO,hv]
 simp[yU]
 have ag0:j<d:=by omega
 rw[fZ j ag0,aV (by omega)]
 show(if lK cs vs a=[] then _ else _)=_
 split
 rfl
 unfold yU
 rw[dr,iD,Tc ag0]
 rfl
 rw[io (by rw[dg];omega),io (by rw[abl];omega)]
abbrev NT:iK:=JJ (Tryz.f133.body.getD Go.Code.skip)
def axk:NT=.rangeFunc (.tmp 31) #[32,33] (zf NT) (zg NT):=by kernel_rfl
def axm(e9:N)(i k:o)(v:H)(cU:H->Prop)(env:J (N×ao))(he:(7,gS (some ⟨e9,0,none⟩))∈env)
  (h:(r5=r5)/\(([]:J (J ao))=[])/\(∃Kq:H,(H.le Kq v)/\(∃s1:U,((H.cell? v (cr e9 0 none))=(some (dX s1.a s1.n s1.c)))/\(∃s2:U,((H.cell? Kq (cr e9 0 none))=(some (dX s2.a s2.n s2.c)))/\(∃nk:U,((H.cell? v (cr e9 0 none))=(some (dX nk.a nk.n nk.c)))/\(∃ajY:ba,(nk.a=(some ajY))/\((((0:o)<=k)/\(k<(nk.n:o)))/\(∃tl:o,((H.cell? v (ep ajY ((vU k)*1)))=(some (cG .i64 tl)))/\(∃nZ:U,((H.cell? v (cr e9 0 none))=(some (dX nZ.a nZ.n nZ.c)))/\(∃aj8:ba,(nZ.a=(some aj8))/\((((0:o)<=i)/\(i<(nZ.n:o)))/\(∃amW:o,((H.cell? v (ep aj8 ((vU i)*1)))=(some (cG .i64 amW)))/\(∃aj9:ba,(s1.a=(some aj9))/\((((0:o)<=i)/\(i<(s1.n:o)))/\(H.aN v (ep aj9 ((vU i)*1)) [(cG .i64 tl)] (λ(gV:H)=>(H.le Kq gV)/\(∃ajU:ba,(s2.a=(some ajU))/\((((0:o)<=k)/\(k<(s2.n:o)))/\(H.aN gV (ep ajU ((vU k)*1)) [(cG .i64 amW)] (λ(gx:H)=>(r5=r5)/\(cU gx))))))))))))))))))))):
  G9 aH 49 (zf NT) (zg NT) env 32 33 (.int .i64 i) (.int .i64 k) v cU:=
 G9.of (C:={P:=aH,exp:=[],wrap:=ax,h9:=h9,part:=ak}) (nF _ _) (by kernel_rfl) (by kernel_rfl) [(32,.v (.int .i64 i)),(33,.v (.int .i64 k)),(7,.ptr ⟨e9,0,none⟩)] (by intro p ad;rcases cE.1 ad with rfl|ad;exact⟨_,rfl,.inl ⟨rfl,rfl⟩⟩;rcases cE.1 ad with rfl|ad;exact⟨_,rfl,.inr (.inl ⟨rfl,rfl⟩)⟩;rcases cE.1 ad with rfl|ad;exact⟨_,rfl,.inr (.inr ⟨show(7:N)≠32 by decide,show(7:N)≠33 by decide,he⟩)⟩;cases ad) (Eq.mp (by kernel_rfl) h)
def aoa:hl aH 195=ak:=by kernel_rfl
def pY(st:o):Obj:=.cells #[.int .u64 st] 215 (0,0)
def adH(s:N×o)(y:o×o)(ap:N×o):Prop:=∃m,s.1=m+1/\y=((m:o)+1,ur (kj s.2)%((m:o)+2))/\ap=(m,kj s.2)
def apc{n0 b3 src:N}(h0:0<=n)(ae:n<=65536)(bK:ai n0=some (.cells #[.pointer (some ⟨src,0,none⟩)] 171 (0,0)))(c1:ai b3=some (.cells #[.int .i64 n] 3 (0,0))):
  IterM aH (.func (.func 195) #[] #[.pointer (some ⟨b3,0,none⟩),.pointer (some ⟨n0,0,none⟩)]) (λy:o×o=>.int .i64 y.1) (λy=>.int .i64 y.2) src (λs:N×o=>pY s.2) adH ((n-1).toNat,st) (λs=>s.1=0) ai:=by
 intro mb cU kM ah v K aA aq
 refine⟨_,_,_,rfl,hh aoa,aC3 mb ⟨b3,0,none⟩ ⟨n0,0,none⟩ v K ?_⟩
 refine⟨n,a1 ((kM _ _ aA).1 _ _ c1) 0,⟨by omega,by omega⟩,λx w=>-1<=x/\x<=65535/\∃st,cU (x.toNat,st) w,λx _=>x.toNat,⟨by omega,by omega,st,aA⟩,?_⟩
 rintro x w ⟨bG,dy,st,hw⟩
 refine⟨λM=>?_,λM=>aq (x.toNat,st) w (by show x.toNat=0;omega) hw⟩
 obtain⟨hle,ra⟩:=kM _ _ hw
 refine⟨_,a1 (hle _ _ bK) 0,alk ra ?_⟩
 obtain⟨aP,aC⟩:=ad3 (n:=x+1) (ajv (kj st)) (by omega) (by omega)
 refine⟨⟨by omega,by omega⟩,aP,.inr ?_⟩
 rw[aC]
 have hm:x.toNat=(x.toNat-1)+1:=by omega
 have:=ah (x.toNat,st) (((x.toNat-1:N):o)+1,ur (kj st)%(((x.toNat-1:N):o)+2)) (x.toNat-1,kj st) w (λu0 qJ=>((¬(u0=Bool.true))->K qJ)/\((u0=Bool.true)->(br (x-1))/\((-1<=x-1/\x-1<=65535/\∃st,cU ((x-1).toNat,st) qJ)/\((x-1).toNat<x.toNat))))
  ⟨_,hm,rfl,rfl⟩ hw λcm gR=>⟨λh=>a6 rfl h,λ_=>⟨⟨by omega,by omega⟩,⟨by omega,by omega,kj st,by rw[show(x-1).toNat=x.toNat-1 by omega];exact gR⟩,by omega⟩⟩
 simp only at this
 rw[show((x.toNat-1:N):o)+1=x by omega,show((x.toNat-1:N):o)+2=x+1 by omega] at this
 exact this
def azF{src:N}{ub:H}{K:U->o->H->Prop}(h:u src=some (pY st))(b9:ub.le u)(rU:ub src=none)(h0:0<=n)(ae:n<=65536)
  (aq:∀ap u',aD ub u' 3 1 ap ((ux st n.toNat).flatMap encI)->K ap 0 u'):UT (some ⟨src,0,none⟩) n u K:=by
 apply aC1
 apply acB
 refine⟨λh=>(by cases h),λ_=>⟨λh=>by omega,λ_=>⟨λh=>by omega,λ_=>⟨λh=>a6 rfl h,λ_=>?_⟩⟩⟩⟩
 refine GB lQ h0 (l4 _) (by omega) (by omega) λg W=>?_
 have jU:=aD.make (k:=1) b9 W (cells:=lO [cG .i64 0].toArray (n.toNat*1)) (e:=3) (n:=n.toNat) (by omega) (by have:=dV hR (AS (enc:=encI) kK (by decide) 0 n.toNat);rw[ru] at this;rw[od kK] at this;simpa[encI] using this)
 have q4:(lO [cG .i64 0].toArray (n.toNat*1)).toList=(eU n.toNat (0:o)).flatMap encI:=AS (enc:=encI) kK (by decide) 0 n.toNat
 rw[q4] at jU
 obtain⟨jM,ah6⟩:∃jM,jM=u.ins g (.cells (lO [cG .i64 0].toArray (n.toNat*1)) 3 (0,0)):=⟨_,rfl⟩
 rw[<-ah6] at jU ⊢
 have tX:jM src=some (pY st):=by rw[ah6,bm _ _ (λe=>by rw[<-e,h] at W;cases W)];exact h
 have RB:(⟨some ⟨g,0,none⟩,n.toNat,n.toNat⟩:U).aj≠some src:=λe=>by
  have:g=src:=by simpa[U.aj] using e
  rw[this,h] at W;cases W
 have atP:((⟨some ⟨g,0,none⟩,n.toNat,n.toNat⟩:U).n:o)=n:=by show((n.toNat:N):o)=n;omega
 obtain⟨bo,qp⟩:∃bo:U,bo=⟨some ⟨g,0,none⟩,n.toNat,n.toNat⟩:=⟨_,rfl⟩
 have yJ:bo.a=some ⟨g,0,none⟩:=by rw[qp]
 rw[<-qp] at jU RB atP ⊢
 have aF4:bo.aj=some g:=by simp[U.aj,yJ]
 intro e9 qm
 have Yk:bo.aj≠some e9:=λe=>dF jU e qm
 have atD:e9≠src:=λe=>by rw[e,tX] at qm;cases qm
 refine mG (zs:=[.slice none 0 0]) rfl (by simp[cF]) ?_
 obtain⟨fK,re⟩:∃fK,fK=jM.ins e9 (.cells [.slice bo.a bo.n bo.c].toArray 30 (0,0)):=⟨_,rfl⟩
 rw[<-re]
 have FH:jM.le fK:=by rw[re];exact bW _ qm
 have tw:fK e9=some (.cells #[.slice bo.a bo.n bo.c] 30 (0,0)):=by rw[re];exact bf _ _ _
 have aGd:ub e9=none:=jU.le.none qm
 refine⟨bo,a1 tw 0,λx w=>0<=x/\x<=n/\w src=some (pY st)/\w e9=some (.cells #[.slice bo.a bo.n bo.c] 30 (0,0))/\aD ub w 3 1 bo ((o7 x.toNat++eU (n.toNat-x.toNat) 0).flatMap encI),λx _=>(n-x).toNat,
  ⟨by omega,by omega,FH _ _ tX,tw,by simpa[o7] using jU.mono FH⟩,?_⟩
 rintro x w ⟨bG,dy,Ix,WK,ab⟩
 have vm:(o7 x.toNat++eU (n.toNat-x.toNat) (0:o)).length=n.toNat:=by simp[o7];omega
 refine⟨λM=>?_,λM=>?_⟩
 refine⟨bo,a1 WK 0,_,yJ,⟨bG,M⟩,?_⟩
 refine aD.store (enc:=encI) kK ab (by decide) (i:=x.toNat) (by rw[vm];omega) (y:=x) (by simp[encI,cF]) yJ λaBc w7 agx _=>⟨⟨by omega,by omega⟩,⟨by omega,by omega,agx _ _ Ix RB,agx _ _ WK Yk,?_⟩,by dsimp only;omega⟩
 have jG:(o7 x.toNat++eU (n.toNat-x.toNat) (0:o)).set x.toNat x=o7 (x+1).toNat++eU (n.toNat-(x+1).toNat) 0:=by
  have aP:n.toNat-x.toNat=(n.toNat-(x+1).toNat)+1:=by omega
  have aC:(o7 x.toNat).length=x.toNat:=by simp[o7]
  have c0:o7 (x+1).toNat=o7 x.toNat++ [x]:=by rw[show(x+1).toNat=x.toNat+1 by omega];unfold o7;rw[List.range_succ,dY,List.map_singleton,tb bG]
  rw[aP,List.replicate_succ];have ff:=abG (o7 x.toNat) 0 x (eU (n.toNat-(x+1).toNat) 0);rw[aC] at ff;rw[ff,c0,nf];rfl
 rw[jG] at w7
 exact w7
 .have CP:x=n:=by omega
  subst CP;rw[Da,List.replicate_zero,kA] at ab;apply aC2;intro n0 eT b3 gj;obtain⟨fG,ahA⟩:∃fG,fG=(bA #[gS (some ⟨src,0,none⟩)] 171 (0,0)):=⟨_,rfl⟩;obtain⟨eJ,ahB⟩:∃eJ,eJ=(bA #[cG .i64 x] 3 (0,0)):=⟨_,rfl⟩;rw[<-ahA] at gj ⊢;rw[<-ahB];have tR:n0≠b3:=λe=>by rw[<-e,bf] at gj;cases gj
  have Yi:w b3=none:=by rw[bm _ _ (dv tR)] at gj;exact gj
  have lw:w.le ((w.ins n0 fG).ins b3 eJ):=(bW _ eT).trans (bW _ gj);obtain⟨sd,Za⟩:∃sd,sd=(w.ins n0 fG).ins b3 eJ:=⟨_,rfl⟩;rw[<-Za] at lw ⊢;have d0:sd n0=some fG:=by rw[Za,bm _ _ tR,bf]
  have d1:sd b3=some eJ:=by rw[Za,bf]
  let Ua:H:=λc=>if c=n0 then some fG else if c=b3 then some eJ else none
  have i0:Ua n0=some fG:=aV rfl;have i1:Ua b3=some eJ:=by show(if b3=n0 then _ else _)=_;rw[az (dv tR),aV rfl]
  have aiH:∀v:H,v n0=some fG->v b3=some eJ->Ua.le v:=λv h0 h1 c z I=>by
   by_cases fW:c=n0;subst fW;rw[i0] at I;cases I;exact h0;by_cases aP:c=b3;subst aP;rw[i1] at I;cases I;exact h1;have:Ua c=none:=by show(if c=n0 then _ else _)=_;rw[az fW,az aP]
   rw[this] at I;cases I
  have awr:n0≠src:=λe=>by rw[e,Ix] at eT;cases eT
  have awt:b3≠src:=λe=>by rw[e,Ix] at Yi;cases Yi
  have aws:bo.aj≠some n0:=λe=>dF ab e eT;have awu:bo.aj≠some b3:=λe=>dF ab e Yi;refine mP.aph axk (mP.avy (fv:=.func (.func 195) #[] #[.pointer (some ⟨b3,0,none⟩),.pointer (some ⟨n0,0,none⟩)]) (t:=31) (x:=32) (x2:=33) (src:=src) (cell:=λs:N×o=>pY s.2) (Nx:=adH) (s0:=((x-1).toNat,st)) (En:=λs=>s.1=0) (enc:=λy:o×o=>.int .i64 y.1) (wH:=λy=>.int .i64 y.2)
   (aiH sd d0 d1) VX (by simp) (by decide) (by decide) (by decide) (λai rc=>apc (st:=st) h0 ae (by rw[<-ahA];exact rc _ _ i0) (by rw[<-ahB];exact rc _ _ i1))
   (λs v=>v src=some (pY s.2)/\v n0=some fG/\v b3=some eJ/\v e9=some (.cells #[.slice bo.a bo.n bo.c] 30 (0,0))/\s.1<=x.toNat-1/\∃l:J o,l.length=x.toNat/\aD ub v 3 1 bo (l.flatMap encI)/\permA s.1 s.2 l=ux st x.toNat)
   ⟨lw _ _ Ix,d0,d1,lw _ _ WK,by show(x-1).toNat<=_;omega,o7 x.toNat,by simp[o7],ab.mono lw,by show permA (x-1).toNat st _=_;unfold ux;rw[show(x-1).toNat=x.toNat-1 by omega]⟩ (λs v aA=>aiH v aA.2.1 aA.2.2.1) (λs v aA=>aA.1) ?_ ?_)
  .rintro⟨i,we⟩ y ap v ⟨m,hm,rfl,rfl⟩ ⟨aa,a2,a3,a4,a5,l,ar,As,ad⟩;simp only at hm aa a5 ad;subst hm;obtain⟨dG,Ag⟩:∃dG,dG=ur (kj we)%((m:o)+2):=⟨_,rfl⟩;have h3:=Od (ur (kj we)) (show(m:o)+2≠0 by omega);have a7:=Oe (ur (kj we)) (show 0<(m:o)+2 by omega);show G9 _ _ _ _ _ _ _ (.int .i64 ((m:o)+1)) (.int .i64 (ur (kj we)%((m:o)+2))) _ _;rw[<-Ag] at h3 a7 ⊢;refine axm e9 _ _ _ _ _ (by simp) ⟨rfl,rfl,?_⟩;have acu:(v.ins src (pY (kj we))) e9=some (.cells #[.slice bo.a bo.n bo.c] 30 (0,0)):=by rw[bm _ _ atD];exact a4
   have rT:aD ub (v.ins src (pY (kj we))) 3 1 bo (l.flatMap encI):=⟨As.own.le λc z I hu=>by rw[bm _ _ (λe=>RB (by rw[I,e]))];exact hu,λc z I=>by rw[bm _ _ (λe=>by rw[e,rU] at I;cases I)];exact As.le c z I,As.fresh⟩
   obtain⟨By,CL⟩:∃By,By=v.ins src (pY (kj we)):=⟨_,rfl⟩;have vs:By src=some (pY (kj we)):=by rw[CL];exact bf _ _ _
   have v0:By n0=some fG:=by rw[CL,bm _ _ awr];exact a2
   have v1:By b3=some eJ:=by rw[CL,bm _ _ awt];exact a3
   show ∃Kq:H,Kq.le (v.ins src (pY (kj we)))/\_;rw[<-CL] at acu rT ⊢;have dw:bo.n=l.length:=gY kK (by decide) rT.own.cC;have pG:m+1<l.length:=by omega
   have hC:dG.toNat<l.length:=by omega
   have at':∀{Y:H} {bw:J o} (j:o),aD ub Y 3 1 bo (bw.flatMap encI)->0<=j->j.toNat<bw.length->Y.cell? (ep ⟨g,0,none⟩ (j.toNat*1))=some (.int .i64 (bw.getD j.toNat 0)):=λ{Y bw} j aB gJ aM=>by obtain⟨p,ad,I⟩:=bt.elem kK (by decide) aB.own.cC (cn aM);rw[yJ] at ad;cases ad;have:=I 0 _ rfl;rw[Addr.add_zero'] at this;rw[this,dr,cn aM];rfl
   have zO:By.cell? ⟨e9,0,none⟩=some (.slice bo.a bo.n bo.c):=a1 acu 0;have aoT:(nm By bo).cell? ⟨e9,0,none⟩=some (.slice bo.a bo.n bo.c):=by unfold H.cell? at zO ⊢;simp only[nn Yk];exact zO
   refine⟨nm By bo,Ds _ _,bo,zO,bo,aoT,bo,zO,_,yJ,⟨h3,by omega⟩,_,at' dG rT h3 hC,bo,zO,_,yJ,⟨by omega,by omega⟩,_,at' ((m:o)+1) rT (by omega) (by omega),_,yJ,⟨by omega,by omega⟩,?_⟩;refine aD.store (enc:=encI) kK rT (by decide) (i:=((m:o)+1).toNat) (by omega) (y:=l.getD dG.toNat 0) (by simp[encI,cF]) yJ λgV atV agw _=>⟨λc z I=>agw c z (JP I).1 (JP I).2,_,yJ,⟨h3,by omega⟩,?_⟩;refine aD.store (enc:=encI) kK atV (by decide) (i:=dG.toNat) (by rw[qz];exact hC) (y:=l.getD ((m:o)+1).toNat 0) (by simp[encI,cF]) yJ λgx Mw Rn _=>⟨rfl,?_⟩;have st2:∀c z,By c=some z->bo.aj≠some c->gx c=some z:=λc z I al=>Rn c z (agw c z I al) al;refine⟨st2 _ _ vs RB,st2 _ _ v0 aws,st2 _ _ v1 awu,st2 _ _ acu Yk,by show m<=_;omega,_,by rw[qz,qz];exact ar,Mw,?_⟩;have ap2:(l.set ((m:o)+1).toNat (l.getD dG.toNat 0)).set dG.toNat (l.getD ((m:o)+1).toNat 0)=jA l (m+1) dG.toNat:=by rw[GL pG hC,show((m:o)+1).toNat=m+1 by omega,dr,dr,cn pG,cn hC];rfl
   rw[ap2,<-ad];show permA m (kj we) _=permA (m+1) we l
   conv=>rhs;unfold permA
   rw[Ag]
  rintro⟨i,we⟩ v D hi ⟨aa,a2,a3,a4,a5,l,ar,As,ad⟩ eM;simp only at hi ad;subst hi;have hle:=bW (u:=v) (b:=D) (uD (some [])) eM;refine⟨bo,a1 (hle _ _ a4) 0,bf _ _ _,aq bo _ ?_⟩;have aqT:bo.aj≠some D:=λe=>dF As e eM;have iT:l=ux st x.toNat:=ad;rw[iT] at As;have auX:=As.le.none eM;have:=(As.mono hle).xj auX aqT (.deferred none);exact this
def FC(d:N)(vs:J (J o)):N->J (J o)->J (J o)
 |0,c=>c|n+1,c=>Bi d vs (FC d vs n c)
def wb(seed:o)(k:N)(vs:J (J o)):J (J o):=((ux seed vs.length).take k).map λi=>vs.getD i.toNat []
def acn(seed:o)(k rounds d:N)(vs:J (J o)):J (J o):=FC d vs rounds (wb seed k vs)
def aaA{n:N}(h:x∈ux st n):0<=x/\x<n:=by have:=(ajD st n).mem_iff.1 h;unfold o7 at this;obtain⟨i,hi,rfl⟩:=bk.1 this;have:=Jm.1 hi;omega
def aaz(st:o)(n:N):(ux st n).length=n:=by have:=(ajD st n).length_eq;simpa[o7] using this
def alP{vs:J (J o)}(h:k<=vs.length):(wb seed k vs).length=k:=by unfold wb;rw[dg,gL,aaz];omega
def aAw{vs:J (J o)}(h:i<k)(M:(ux seed vs.length)[i]?=some x):(wb seed k vs)[i]?=some (vs.getD x.toNat []):=by unfold wb;rw[iD,F7,aV h,M];rfl
def fL.l6(h:fL ai u s cs){n:N}(ae:u n=.none)(z:Obj):fL (ai.ins n z) (u.ins n z) s cs:=⟨h.own.l6 ae z,λc I=>(h.inner c I).l6 ae z,h.eu,h.apart⟩
def aon:hl aH 134=ak:=by kernel_rfl
def ali{L:J (U×J o)}{k rounds:o}{K:U->o->H->Prop}(h:mh u s L)(bH:∀c∈L,c.2.length=d/\db c.2)(aw:1<=d/\d<=64)(sM:L.length<=512)(hk:1<=k/\k<=64)(hC:k<=L.length)(O:0<=rounds/\rounds<=20)
  (aq:∀ap u' cs,fL u u' ap cs->cs.map (·.2)=acn seed k.toNat rounds.toNat d (L.map (·.2))->K ap 0 u'):PC s k rounds seed u K:=by
 have ae:=h.len
 obtain⟨vs,kS⟩:∃vs,vs=L.map (·.2):=⟨_,rfl⟩
 have Fu:vs.length=L.length:=by rw[kS,dg]
 apply aCJ
 intro n0 eT b3 gj
 obtain⟨fG,jU⟩:∃fG,fG=(bA #[dX s.a s.n s.c] 133 (0,0)):=⟨_,rfl⟩
 obtain⟨eJ,kf⟩:∃eJ,eJ=(bA #[cG .i64 k] 3 (0,0)):=⟨_,rfl⟩
 rw[<-jU] at gj ⊢
 rw[<-kf]
 have tR:n0≠b3:=λe=>by rw[<-e,bf] at gj;cases gj
 obtain⟨aS,gI⟩:∃aS,aS=(u.ins n0 fG).ins b3 eJ:=⟨_,rfl⟩
 have ai6:u.le aS:=by rw[gI];exact(bW _ eT).trans (bW _ gj)
 have d0:aS n0=some fG:=by rw[gI,bm _ _ tR,bf]
 have d1:aS b3=some eJ:=by rw[gI,bf]
 rw[<-gI]
 have bK:∀{w:H},aS.le w->w.cell? ⟨n0,0,none⟩=some (.slice s.a s.n s.c):=λhw=>by have:=hw _ _ d0;rw[jU] at this;exact a1 this 0
 have c1:∀{w:H},aS.le w->w.cell? ⟨b3,0,none⟩=some (.int .i64 k):=λhw=>by have:=hw _ _ d1;rw[kf] at this;exact a1 this 0
 intro nx h2
 have pf:=H.le.refl aS
 refine⟨k,c1 pf,λM=>by omega,λ_=>⟨k,c1 pf,λM=>by omega,λ_=>⟨λM=>by omega,λ_=>?_⟩⟩⟩
 have asf:decide ((20:o)<rounds)=ax:=nY (by omega)
 rw[asf]
 refine h2 _ _ ⟨λe=>(by cases e),λ_=>⟨s,bK pf,λM=>by omega,λ_=>⟨s,bK pf,k,c1 pf,λM=>by omega,λ_=>⟨s,bK pf,?_⟩⟩⟩⟩
 have h1:=h.mono ai6
 obtain⟨p,ad,c,I,cJ,B2,pz⟩:=h1.at (x:=0) (by omega) (by omega)
 obtain⟨cl,u4⟩:=bH c cJ
 have oR:=pz.len
 refine⟨p,ad,⟨by omega,by omega⟩,c.1,B2,?_⟩
 intro n11 tS
 refine mG (zs:=[.int .i64 0]) rfl (by simp[cF]) ?_
 obtain⟨rl,qo⟩:∃rl,rl=(bA [cG .i64 (c.1.n:o)].toArray 3 (0,0)):=⟨_,rfl⟩
 rw[<-qo]
 obtain⟨gx,xf⟩:∃gx,gx=aS.ins n11 rl:=⟨_,rfl⟩
 rw[<-xf]
 have rh:aS.le gx:=by rw[xf];exact bW _ tS
 have d11:gx n11=some rl:=by rw[xf,bf]
 have aei:∀{w:H},gx.le w->w.cell? ⟨n11,0,none⟩=some (.int .i64 d):=λhw=>by have:=hw _ _ d11;rw[qo] at this;have:=a1 this 0;rw[this,show((c.1.n:N):o)=(d:o) by omega];rfl
 refine⟨s,bK rh,(d:o),aei (H.le.refl _),?_⟩
 have ym:=h1.mono rh
 refine abU ym (d:=(d:o)) (by omega) (λc I=>⟨by have:=(bH c I).1;omega,(bH c I).2⟩) (by omega) ⟨λM=>a6 rfl M,λ_=>⟨s,bK rh,?_⟩⟩
 refine acA _ _ _ λsrc ra=>⟨bW _ ra,?_⟩
 have au0:u.le gx:=ai6.trans rh
 refine azF (st:=seed) (ub:=gx) (bf _ _ _) (bW _ ra) ra (by omega) (by omega) λGv j4 ew=>?_
 have aiV:=ew.le
 refine⟨k,c1 (rh.trans aiV),akF (by omega) (by omega) λnj aGJ afC aF1=>?_⟩
 intro n26 ahr
 refine mG (zs:=[.slice none 0 0]) rfl (by simp[cF]) ?_
 obtain⟨NJ,ahC⟩:∃NJ,NJ=(bA [dX nj.a nj.n nj.c].toArray 133 (0,0)):=⟨_,rfl⟩
 rw[<-ahC]
 have vd:=afC.l6 ahr NJ
 obtain⟨ub,b9⟩:∃ub,ub=j4.ins n26 NJ:=⟨_,rfl⟩
 rw[<-b9] at vd
 have atB:j4 n26=none:=afC.own.le.none ahr
 have aiW:j4.le ub:=by rw[b9];exact bW _ atB
 have B1:∀{w:H},ub.le w->w.cell? ⟨n26,0,none⟩=some (.slice nj.a nj.n nj.c):=λhw=>by
  have:ub n26=some NJ:=by rw[b9];exact bf _ _ _
  have:=hw _ _ this;rw[ahC] at this;exact a1 this 0
 have qq:gx.le ub:=aiV.trans aiW
 have ars:=ew.mono aiW
 have W5:=ars.ints
 rw[show((s.n:N):o).toNat=vs.length by omega] at W5
 have art:=W5.len
 rw[aaz] at art
 have aFE:nj.n=k.toNat:=by omega
 refine⟨nj,B1 vd.own.le,λx w=>0<=x/\x<=k/\∃cs,fL ub w nj cs/\cs.length=k.toNat/\∀(a:N) c,cs[a]?=some c->(a:o)<x->(wb seed k.toNat vs)[a]?=some c.2,λx _=>(k-x).toNat,
  ⟨by omega,by omega,_,vd,by simp,λa c _ M=>by omega⟩,?_⟩
 rintro x w ⟨bG,dy,cs,dU,hv,yr⟩
 have lw:=dU.own.le
 refine⟨λM=>?_,λM=>?_⟩
 obtain⟨pp,jV,og⟩:=(W5.mono lw).at (x:=x) bG (by omega)
 have eO:x.toNat<(ux seed vs.length).length:=by rw[aaz];omega
 obtain⟨y,ah⟩:∃y,(ux seed vs.length)[x.toNat]?=some y:=⟨_,cn eO⟩
 obtain⟨jk,j6⟩:=aaA (du ah)
 have pv:(ux seed vs.length).getD x.toNat 0=y:=by rw[dr,ah];rfl
 rw[pv] at og
 obtain⟨q,aO,Y,aB,Si,KJ,uf⟩:=(ym.mono (qq.trans lw)).at (x:=y) jk (by omega)
 obtain⟨J8,am3⟩:=bH Y Si
 have avj:=uf.len
 have avc:x.toNat<cs.length:=by omega
 obtain⟨uv,xb,_⟩:=dU.xX.at bG (by rw[dU.len];omega)
 have ap3:vs.getD y.toNat []=Y.2:=by rw[kS,dr,iD,aB];rfl
 refine⟨pp,jV,⟨bG,by omega⟩,nj,B1 lw,s,bK (rh.trans (qq.trans lw)),y,og,q,aO,⟨jk,by omega⟩,Y.1,KJ,sc uf (by omega) λaGz aGL ahD _=>⟨ahD.le,uv,xb,⟨bG,by omega⟩,?_⟩⟩
 refine dU.put ahD avc xb λO2 asa _=>⟨⟨by omega,by omega⟩,⟨by omega,by omega,_,asa,by rw[qz];exact hv,λa c kq Ri=>?_⟩,by dsimp only;omega⟩
 rcases QP kq with⟨rfl,rfl⟩|⟨e,kq⟩
 rw[aAw (by omega) ah,ap3]
 exact yr a c kq (by omega)
 have R4:cs.map (·.2)=wb seed k.toNat vs:=by apply r1;intro a;by_cases aE:a<k.toNat;have agm:cs[a]?=some cs[a]:=cn (by omega);rw[yr a _ agm (by omega),iD,agm];rfl;rw[io (by rw[dg];omega),io (by rw[alP (by omega)];omega)]
 have Q4:RoundIn ub b3 n11 n0 n26 k.toNat d s nj L:=⟨by rw[c1 (rh.trans qq),tb (by omega)],aei qq,bK (rh.trans qq),B1 (H.le.refl _),ym.mono qq,bH,sM,aw,by omega⟩
 have Fv:∀v∈vs,v.length=d/\db v:=λv aA=>by rw[kS] at aA;obtain⟨c,I,rfl⟩:=bk.1 aA;exact bH c I
 have at3:∀c∈wb seed k.toNat vs,c.length=d/\db c:=λc I=>by
  unfold wb at I;obtain⟨i,hi,rfl⟩:=bk.1 I;obtain⟨i0,i1⟩:=aaA (nW hi);have:vs.getD i.toNat []∈vs:=by rw[dr,cn (by omega)];exact kk _
  exact Fv _ this
 refine⟨λx w=>0<=x/\x<=rounds/\∃cs,fL ub w nj cs/\cs.length=k.toNat/\cs.map (·.2)=FC d vs x.toNat (wb seed k.toNat vs)/\∀c∈cs,c.2.length=d/\db c.2,λx _=>(rounds-x).toNat,
  ⟨by omega,by omega,cs,dU,hv,R4,λc I=>at3 _ (by rw[<-R4];exact hS I)⟩,?_⟩
 rintro y dK ⟨jk,j6,ds,rO,yu,agv,Rm⟩
 refine⟨λah=>.inl ⟨_,_,_,rfl,hh aon,?_⟩,λah=>?_⟩
 refine azA Q4 rO yu Rm λT5 es LQ fc=>⟨⟨by omega,by omega⟩,⟨by omega,by omega,es,LQ,?_,?_,λc I=>?_⟩,by dsimp only;omega⟩
 have:=dV hR fc
 rw[dg,abl,dg] at this
 omega
 rw[fc,show(y+1).toNat=y.toNat+1 by omega,<-kS,agv]
 rfl
 have:c.2∈Bi d (L.map (·.2)) (ds.map (·.2)):=by rw[<-fc];exact hS I
 rw[<-kS] at this
 exact akl (λv aA=>(Fv v aA).2) aw.2 (λc I=>by obtain⟨Y,aB,rfl⟩:=bk.1 I;exact Rm Y aB) _ this
 refine⟨nj,B1 rO.own.le,aq nj dK ds (rO.weaken (au0.trans qq)) ?_⟩
 rw[agv,show y.toNat=rounds.toNat by omega,<-kS]
 rfl
end
namespace jm
section
variable{u:H}{s:U}
def aiF(l:J av):l.map (·.id)=(l.map av.bi).map (·.1):=by rw[ez];rfl
def ax4{L:J av}{d:o}(h:gX L d){r:av}(ad:r.bi∈L.map av.bi):(1<=r.id/\r.id<=1000000000)/\(r.v.length:o)=d/\db r.v:=by obtain⟨Y,aB,e⟩:=bk.1 ad;have aP:Y.id=r.id:=dV pd e;have aC:Y.v=r.v:=dV pR e;rw[<-aP,<-aC];exact⟨h.id Y aB,h.v Y aB⟩
def ib(l:J av)(dim a b:o):o:=if lz l dim≠0 then lz l dim else if a<1∨64<a∨b<0∨20<b then 1 else 0
def zQ(seed a b:o)(d:N)(vs:J (J o)):J (J o):=if vs=[] then[eU d 0] else acn seed (if(vs.length:o)<a then(vs.length:o) else a).toNat b.toNat d vs
def Qj(s:U):kp aH 133 1 #[(0,.slice s.a s.n s.c)]=some (30,[.slice s.a s.n s.c]):=by kernel_rfl
def avA{d:N}{vs:J (J o)}(aA:∀v∈vs,db v)(aw:d<=64):∀(n:N) (cs:J (J o)),(∀c∈cs,c.length=d/\db c)->(∀c∈FC d vs n cs,c.length=d/\db c)/\(FC d vs n cs).length=cs.length:=by
 intro n;induction n with
 |zero=>intro cs h;exact⟨h,rfl⟩
 |succ n aL=>intro cs h;obtain⟨h1,h2⟩:=aL cs h;exact⟨akl aA aw h1,by show(Bi _ _ _).length=_;rw[abl,h2]⟩
def aep{seed a b:o}{d:N}{vs:J (J o)}(aA:∀v∈vs,v.length=d/\db v)(aw:1<=d/\d<=64)(aE:1<=a/\a<=64):(∀c∈zQ seed a b d vs,c.length=d/\db c)/\0<(zQ seed a b d vs).length/\(zQ seed a b d vs).length<=64:=by
 unfold zQ;by_cases h0:vs=[];rw[aV h0];refine⟨λc I=>?_,by simp,by simp⟩;rw[fI.1 I];refine⟨by simp,by simp;omega,λi hi=>?_⟩;rw[N9] at hi;rw[dr,Jz,aV hi];decide;rw[az h0];have ad:=vR.2 h0;obtain⟨k,hk⟩:∃k,k=(if(vs.length:o)<a then(vs.length:o) else a).toNat:=⟨_,rfl⟩;have H6:1<=k/\k<=64/\k<=vs.length:=by rw[hk];split<;>omega
 rw[<-hk];have dI:∀c∈wb seed k vs,c.length=d/\db c:=λc I=>by
  unfold wb at I;obtain⟨i,hi,rfl⟩:=bk.1 I;obtain⟨i0,i1⟩:=aaA (nW hi);have:vs.getD i.toNat []∈vs:=by rw[dr,cn (by omega)];exact kk _
  exact aA _ this
 obtain⟨h1,h2⟩:=avA (λv gR=>(aA v gR).2) aw.2 b.toNat _ dI;have ar:=alP (seed:=seed) H6.2.2;exact⟨h1,by show 0<(FC _ _ _ _).length;omega,by show(FC _ _ _ _).length<=64;omega⟩
structure DL(u:H)(l:J av)(hs a b seed:o)(u':H)(dN:N)(af:N->ay bu)(T:aT):Prop where
 is:In u u' af dN T
 ok:dP T
 rows:(bb T).Perm (l.map av.bi)
 dim:T.dim=hs
 cs:∃P:J (o×J o),P.Perm (l.map av.bi)/\(P.Pairwise λx y=>x.1<y.1)/\T.cs.map (·.2)=zQ seed a b hs.toNat (P.map (·.2))
def ab9{n:N}{d:o}{a b:U}{m:ay N}{f:H->Prop}(h:u n=some (.cells #[.int .i64 d,.slice a.a a.n a.c,.slice b.a b.n b.c,.map m] 178 (0,0))):
  (f (u.ins n (.cells #[.int .i64 d,.slice s.a s.n s.c,.slice b.a b.n b.c,.map m] 178 (0,0)))->H.aN u (ep (cr n 0 none) 1) [.slice s.a s.n s.c] f)/\
   (f (u.ins n (.cells #[.int .i64 d,.slice a.a a.n a.c,.slice s.a s.n s.c,.map m] 178 (0,0)))->H.aN u (ep (cr n 0 none) 2) [.slice s.a s.n s.c] f):=
 ⟨λac=>⟨_,_,h,rfl,by simp[iC],by simp[cF],ac⟩,λac=>⟨_,_,h,rfl,by simp[iC],by simp[cF],ac⟩⟩
def Ue{ai:H}{cs:J (U×J o)}(h:fL ai u s cs){n:N}(ae:ai n=none)(ag:s.aj≠some n)(I:∀c∈cs,c.1.aj≠some n)(z:Obj):fL ai (u.ins n z) s cs:=
 ⟨h.own.xj ae ag z,λc cJ=>(h.inner c cJ).xj ae (I c cJ) z,h.eu,h.apart⟩
def OO{l:J av}{dim a b seed:o}{K:ay ba->o->H->Prop}(ag:dS u s l)(dx:ib l dim a b≠0->K none (ib l dim a b) u)
  (bH:ib l dim a b=0->∀u' dN af T,DL u l dim a b seed u' dN af T->K (some ⟨dN,0,none⟩) 0 u'):UH s dim a b seed u K:=by
 have bad:∀Y,ib l dim a b=Y->Y≠0->K none Y u:=λY e aB=>by subst e;exact dx aB
 apply aCp
 refine JT ag ⟨λal=>bad _ (by unfold ib;rw[aV al]) al,λhe=>?_⟩
 have one:(a<1∨64<a∨b<0∨20<b)->K none 1 u:=λI=>bad 1 (by unfold ib;rw[az (by simpa using he),aV I]) (by decide)
 intro nx h2
 refine⟨λh=>one (.inl h),λaa=>⟨λh=>one (.inr (.inl h)),λa2=>⟨λh=>one (.inr (.inr (.inl h))),λgf=>⟨λh=>one (.inr (.inr (.inr h))),λgP=>h2 _ _ _ ?_⟩⟩⟩⟩
 have bH:=bH (by unfold ib;rw[az (by simpa using he),az (by omega)])
 clear bad one dx h2 nx
 have ha:=Dj.1 he
 obtain⟨KL,KM⟩:=ha.dim
 have ag7:=ha.len
 refine GC λm pN hm im=>?_
 have Ak:(u.ins m pN) m=some pN:=bf _ _ _
 have qt:=bW (u:=u) (b:=m) pN hm
 obtain⟨iN,rX⟩:∃iN,iN=u.ins m pN:=⟨_,rfl⟩
 rw[<-rX] at im Ak qt ⊢
 intro n8 nH
 have nJ:n8≠m:=λe=>by rw[e,Ak] at nH;cases nH
 have vp:u n8=none:=qt.none nH
 obtain⟨lM,q8⟩:∃lM,lM=(bA #[.int .i64 dim,.slice none 0 0,.slice none 0 0,.map (some m)] 178 (0,0)):=⟨_,rfl⟩
 have rj:=bW (u:=iN) (b:=n8) lM nH
 show rE s (iN.ins n8 (bA #[.int .i64 dim,.slice none 0 0,.slice none 0 0,.map (some m)] 178 (0,0))) _
 rw[<-q8]
 obtain⟨u8,o1⟩:∃u8,u8=iN.ins n8 lM:=⟨_,rfl⟩
 have tC:u8 n8=some lM:=by rw[o1];exact bf _ _ _
 rw[<-o1] at rj ⊢
 refine zo (ag.mono (qt.trans rj)) ha.id (by omega) (λr O=>by have:=(ha.v r O).1;omega) λgM ls gV b1 ad oZ=>?_
 have HM:ls.length=l.length:=by simpa using ad.length_eq
 have k3:∀r∈ls,(1<=r.id/\r.id<=1000000000)/\(r.v.length:o)=dim/\db r.v:=λr O=>ax4 ha (ad.mem_iff.1 (hS O))
 have bY:(ls.map (·.id)).Nodup:=by rw[aiF,(ad.map (·.1)).nodup_iff,<-aiF];exact ha.nodup
 have nc:=b1.own.le
 have afy:=b1.rws.len
 obtain⟨ub,b9⟩:∃ub:H,ub=λc=>if c=n8 then none else gV c:=⟨_,rfl⟩
 have DF:ub n8=none:=by rw[b9];exact aV rfl
 have DG:∀{c},c≠n8->ub c=gV c:=λ{c} I=>by rw[b9];exact az I
 have aml:ub.le gV:=λc z I=>by by_cases e:c=n8;rw[e,DF] at I;cases I;rw[DG e] at I;exact I
 have DH:u.le ub:=λc z I=>by
  have:c≠n8:=λe=>by rw[e,vp] at I;cases I
  rw[DG this];exact nc _ _ (rj _ _ (qt _ _ I))
 have WM:gV n8=some lM:=nc _ _ tC
 have agJ:∀{x:U},(∀g,x.aj=some g->u8 g=none)->x.aj≠some n8:=λM e=>by have:=M n8 e;rw[tC] at this;cases this
 have ays:bt ub gM 2 (ls.flatMap cB):=bt.else b1.own.own.cC λg z W ab=>by rw[DG (λe=>agJ b1.own.fresh (by rw[W,e]))];exact ab
 have Tv:∀r∈ls,Ints ub r.s r.v:=λr O=>bt.else (b1.inner r O).ints λg z W ab=>by rw[DG (λe=>agJ (b1.inner r O).fresh (by rw[W,e]))];exact ab
 have ai9:fs ub m []:=im.else λz ab=>by rw[DG (dv nJ)];exact nc _ _ (rj _ _ ab)
 have akp:dS ub gM ls:=⟨ays,Tv⟩
 refine⟨λkW x w=>0<=x/\x<=gM.n/\ub.le w/\w n8=some lM/\aD gV w 30 1 kW (((ls.take x.toNat).map λr=>(r.s,r.v)).flatMap λc=>encS c.1),λ_ x _=>((gM.n:o)-x).toNat,
  ⟨by omega,by omega,aml,WM,by simpa using aD.nil (H.le.refl gV) 30 1⟩,?_⟩
 rintro kW x w ⟨bG,dy,LH,tD,w7⟩
 have yE:kW.n=(ls.take x.toNat).length:=by have h:=gY u5 (by decide) w7.own.cC;rw[dg] at h;exact h
 rw[gL] at yE
 refine⟨λM=>?_,λM=>?_⟩
 obtain⟨p,jV,r,O,bK,c1,_⟩:=(akp.mono LH).at bG M
 refine⟨p,jV,⟨bG,M⟩,_,bK,_,c1,np TZ (Qj r.s) (by decide) rfl (by simp[cF]) w7 (by show kW.n<_;omega) (by show(kW.n+1)*_<=_;omega) λzi j4 ab aFN eB ev _=>⟨⟨by omega,by omega⟩,⟨by omega,by omega,λc z I=>eB c z (LH c z I) λe=>?_,eB _ _ tD λe=>?_,?_⟩,by dsimp only;omega⟩⟩
 have:=w7.fresh c e;rw[aml c z I] at this;cases this
 have:=w7.fresh n8 e;rw[WM] at this;cases this
 have e:ls.take (x+1).toNat=ls.take x.toNat++ [r]:=by rw[show(x+1).toNat=x.toNat+1 by omega,gT,O];rfl
 rw[e,dY,gU]
 exact ab
 rw[ho (by omega)] at w7
 have atA:kW.n=ls.length:=by omega
 clear bG dy M yE
 have aGS:∀{Y:H},w.le Y->mh Y kW (ls.map λr=>(r.s,r.v)):=λaB=>⟨w7.own.cC.mono aB,λc I=>by obtain⟨r,O,rfl⟩:=bk.1 I;exact(Tv r O).mono (LH.trans aB)⟩
 refine abE (by omega) (by omega) λiM kC q7 atC=>l8 (Qj iM) λK7 agK=>?_
 have IT:=bW (u:=kC) (b:=K7) (.cells [dX iM.a iM.n iM.c].toArray 30 (0,0)) agK
 have RV:aD kC (kC.ins K7 (.cells [dX iM.a iM.n iM.c].toArray 30 (0,0))) 30 1 ⟨some ⟨K7,0,none⟩,1,1⟩ [dX iM.a iM.n iM.c]:=by have:=aD.make (k:=1) (H.le.refl kC) agK (cells:=[dX iM.a iM.n iM.c].toArray) (e:=30) (n:=1) (by omega) (by simp);simpa using this
 obtain⟨p3,auQ⟩:∃p3,p3=kC.ins K7 (.cells [dX iM.a iM.n iM.c].toArray 30 (0,0)):=⟨_,rfl⟩
 rw[<-auQ] at IT RV ⊢
 obtain⟨hb,Iu⟩:∃hb:U,hb=⟨some ⟨K7,0,none⟩,1,1⟩:=⟨_,rfl⟩
 rw[<-Iu] at RV ⊢
 have acE:w.le p3:=q7.le.trans IT
 have zero:fL w p3 hb [(iM,eU dim.toNat 0)]:=⟨by simpa[encS] using RV.weaken q7.le,λc I=>by rw[fI.1 I];exact q7.mono IT,λc I=>by rw[fI.1 I];exact(aD.eu q7 (H.le.refl _) RV).symm,Jr _ _⟩
 have ei:∀{x:U},(∀g,x.aj=some g->w g=none)->x.aj≠some n8:=λM e=>by have:=M n8 e;rw[tD] at this;cases this
 have afv:=acE _ _ tD
 rw[q8] at afv
 refine(ab9 (a:=⟨none,0,0⟩) (b:=⟨none,0,0⟩) (s:=hb) afv).1 ?_
 obtain⟨y1,RX⟩:∃y1:U->Obj,y1=λY=>(bA #[.int .i64 dim,.slice Y.a Y.n Y.c,.slice none 0 0,.map (some m)] 178 (0,0)):=⟨_,rfl⟩
 obtain⟨GN,M6⟩:∃GN,GN=p3.ins n8 (y1 hb):=⟨_,rfl⟩
 have auR:GN=p3.ins n8 (bA #[.int .i64 dim,.slice hb.a hb.n hb.c,.slice none 0 0,.map (some m)] 178 (0,0)):=by rw[M6,RX]
 rw[<-auR]
 have T9:ub.le GN:=λc z I=>by rw[M6,bm _ _ (λe=>by rw[e,DF] at I;cases I)];exact acE _ _ (LH _ _ I)
 have WN:GN n8=some (y1 hb):=by rw[M6];exact bf _ _ _
 obtain⟨P,ew⟩:∃P:J (o×J o),P=ls.map av.bi:=⟨_,rfl⟩
 have aru:P.Pairwise λx y=>x.1<y.1:=by rw[ew,ta];rw[N8,ta] at bY;refine(oZ.and bY).imp λ{x y} iV=>?_;have h1:=iV.1;have h2:=iV.2;show x.id<y.id;omega
 have Ci:P.map (·.2)=ls.map (·.v):=by rw[ew,ez];rfl
 obtain⟨u4,yr⟩:∃u4,u4=zQ seed a b dim.toNat (P.map (·.2)):=⟨_,rfl⟩
 have agq:=aep (seed:=seed) (a:=a) (b:=b) (d:=dim.toNat) (vs:=P.map (·.2)) (λv aA=>by rw[Ci] at aA;obtain⟨r,O,rfl⟩:=bk.1 aA;obtain⟨_,h1,h2⟩:=k3 r O;exact⟨by omega,h2⟩) (by omega) (by omega)
 rw[<-yr] at agq
 intro DW HA
 have main:∀{pW:U} {cs:J (U×J o)} {wj:H} {pa:ay ba} {sh:o},ub.le wj->wj n8=some (y1 pW)->fL ub wj pW cs->pW.aj≠some n8->(∀c∈cs,c.1.aj≠some n8)->cs.map (·.2)=u4->DW pa sh wj:=by
  intro pW cs wj pa sh HQ QY dU agl agn LK;have hv:cs.length=u4.length:=by rw[<-LK,dg]
  have oR:pW.n=cs.length:=dU.len;rw[RX] at QY;refine HA _ _ _ ⟨pW,a1 QY 1,GB aAL (by omega) (l4 _) (by omega) (by omega) λafk asC=>?_⟩;have q4:(lO [dX none 0 0].toArray (cs.length*1)).toList=(eU cs.length ((⟨none,0,0⟩:U),([]:J av))).flatMap λc=>encS c.1:=AS (enc:=λc:U×J av=>encS c.1) B5 (by decide) (⟨none,0,0⟩,[]) cs.length;have cY:(lO [dX none 0 0].toArray (cs.length*1)).size=cs.length*1:=by have:=dV hR q4;rw[ru,od B5] at this;simpa using this
  have w8:=aD.make (k:=1) (H.le.refl wj) asC (cells:=lO [dX none 0 0].toArray (cs.length*1)) (e:=22) (n:=cs.length) (by omega) cY;rw[q4] at w8;rw[show((pW.n:N):o).toNat=cs.length by omega];obtain⟨ph,auu⟩:∃ph:U,ph=⟨some ⟨afk,0,none⟩,cs.length,cs.length⟩:=⟨_,rfl⟩;rw[<-auu] at w8 ⊢;obtain⟨lR,Zb⟩:∃lR,lR=wj.ins afk (.cells (lO [dX none 0 0].toArray (cs.length*1)) 22 (0,0)):=⟨_,rfl⟩;rw[<-Zb] at w8 ⊢;have yO:=w8.le;refine(ab9 (a:=pW) (b:=⟨none,0,0⟩) (s:=ph) (yO _ _ QY)).2 ?_;obtain⟨nz,jR⟩:∃nz:aT,nz=⟨dim,pW,cs,ph,eU cs.length (⟨none,0,0⟩,[]),m,[]⟩:=⟨_,rfl⟩;obtain⟨DC,Iy⟩:∃DC,DC=lR.ins n8 (.cells (fe nz).toArray 178 (0,0)):=⟨_,rfl⟩;have auU:DC=lR.ins n8 (bA #[.int .i64 dim,.slice pW.a pW.n pW.c,.slice ph.a ph.n ph.c,.map (some m)] 178 (0,0)):=by rw[Iy,jR];rfl
  rw[<-auU];have ajg:ph.aj≠some n8:=λe=>by have:=w8.fresh n8 e;rw[QY] at this;cases this
  have GS:ub.le DC:=λc z I=>by rw[Iy,bm _ _ (λe=>by rw[e,DF] at I;cases I)];exact yO _ _ (HQ _ _ I)
  have Rk:fL ub DC pW cs:=by rw[Iy];exact Ue (dU.mono yO) DF agl agn _
  have tV:aD ub DC 22 1 ph ((eU cs.length ((⟨none,0,0⟩:U),([]:J av))).flatMap λc=>encS c.1):=by rw[Iy];exact(w8.weaken HQ).xj DF ajg _
  have aiT:∀{e k:N} {x:U} {xs:J ao},aD ub wj e k x xs->dH x ph:=λM=>aD.eu M (H.le.refl wj) w8
  let pw:N->ay bu:=λc=>open Classical in if c=n8 then some .tree else if c=m then some .map else if pW.aj=some c then some .yb else if ph.aj=some c then some .nP else if ∃Y∈cs,Y.1.aj=some c then some .tx else if ∃r∈ls,r.s.aj=some c then some .vec else none
  have aje:ub m≠none:=by obtain⟨es,cl,M,_⟩:=ai9;rw[M];simp
  have Wx:∀{x:U},(∀g,x.aj=some g->ub g=none)->x.aj≠some m:=λM e=>aje (M m e);have abj:∀r∈ls,∀c,r.s.aj=some c->ub c≠none/\c≠n8/\u8 c=none:=λr O c I=>by
   have h1:=(b1.inner r O).fresh c I;have h2:c≠n8:=λe=>by rw[e,tC] at h1;cases h1
   exact⟨by rw[DG h2];exact dF (b1.inner r O) I,h2,h1⟩
  have t8:pw n8=some .tree:=aV rfl;have aA1:pw m=some .map:=by show(if m=n8 then _ else _)=_;rw[az (dv nJ),aV rfl]
  have aAY:∀g,pW.aj=some g->pw g=some .yb:=λg W=>by show(if g=n8 then _ else _)=_;rw[az (λe=>agl (by rw[W,e])),az (λe=>Wx dU.own.fresh (by rw[W,e])),aV W]
  have qI:∀g,ph.aj=some g->pw g=some .nP:=λg W=>by show(if g=n8 then _ else _)=_;rw[az (λe=>ajg (by rw[W,e])),az (λe=>Wx tV.fresh (by rw[W,e])),az (λe=>aiT dU.own g e W),aV W]
  have p2:∀Y∈cs,∀g,Y.1.aj=some g->pw g=some .tx:=λY aB g W=>by show(if g=n8 then _ else _)=_;rw[az (λe=>agn Y aB (by rw[W,e])),az (λe=>Wx (dU.inner Y aB).fresh (by rw[W,e])),az (λe=>dU.eu Y aB g e W),az (λe=>aiT (dU.inner Y aB) g W e),aV ⟨Y,aB,W⟩]
  have aF:∀r∈ls,∀g,r.s.aj=some g->pw g=some .vec:=λr O g W=>by obtain⟨cx,cS,nM⟩:=abj r O g W;show(if g=n8 then _ else _)=_;rw[az cS,az (λe=>by rw[e,o1,bm _ _ (dv nJ),Ak] at nM;cases nM),az (λe=>cx (dU.own.fresh g e)),az (λe=>cx (tV.fresh g e)),az (λ⟨Y,aB,e⟩=>cx ((dU.inner Y aB).fresh g e)),aV ⟨r,O,W⟩]
  have t9:∀g,gM.aj=some g->pw g=none:=λg W=>by
   have nM:=b1.own.fresh g W;have cS:g≠n8:=λe=>by rw[e,tC] at nM;cases nM
   have cx:ub g≠none:=by rw[DG cS];exact dF b1.own W
   show(if g=n8 then _ else _)=_;rw[az cS,az (λe=>by rw[e,o1,bm _ _ (dv nJ),Ak] at nM;cases nM),az (λe=>cx (dU.own.fresh g e)),az (λe=>cx (tV.fresh g e)),az (λ⟨Y,aB,e⟩=>cx ((dU.inner Y aB).fresh g e)),az (λ⟨r,O,e⟩=>b1.eu r O g W e)]
  have avJ:∀g,gM.aj=some g->DC g≠none:=λg W=>by
   have nM:=b1.own.fresh g W;have cS:g≠n8:=λe=>by rw[e,tC] at nM;cases nM
   have cx:ub g≠none:=by rw[DG cS];exact dF b1.own W
   obtain⟨z,ab⟩:=e3.1 cx;rw[GS _ _ ab];simp
  have split:∀c,pw c≠none->c=n8∨c=m∨pW.aj=some c∨ph.aj=some c∨(∃Y∈cs,Y.1.aj=some c)∨∃r∈ls,r.s.aj=some c:=λc I=>ajP λae=>I (by simp only[not_or] at ae;show(if c=n8 then _ else _)=_;rw[az ae.1,az ae.2.1,az ae.2.2.1,az ae.2.2.2.1,az ae.2.2.2.2.1,az ae.2.2.2.2.2])
  have avr:In u DC pw n8 nz:=by refine⟨?_,DH.trans GS,λc I=>?_,λc I=>?_⟩;subst jR;refine⟨by rw[Iy];exact bf _ _ _,t8,Rk.own.own.cC,aAY,λi c LZ=>⟨(Rk.inner c (du LZ)).ints,p2 c (du LZ)⟩,tV.own,qI,λi y ah=>?_,ai9.mono GS,aA1⟩;have:y=(⟨none,0,0⟩,[]):=(uH.1 (du ah)).2;subst this;exact⟨⟨⟨rfl,cg _,by decide,.inl rfl⟩,.inr rfl⟩,λg W=>by simp[U.aj] at W,λr O=>by cases O⟩;rcases split c I with rfl|rfl|h1|h1|⟨Y,aB,h1⟩|⟨r,O,h1⟩;exact vp;exact hm;exact DH.none (dU.own.fresh c h1);exact DH.none (tV.fresh c h1);exact DH.none ((dU.inner Y aB).fresh c h1);exact(qt.trans rj).none (abj r O c h1).2.2;rcases split c I with rfl|rfl|h1|h1|⟨Y,aB,h1⟩|⟨r,O,h1⟩;rw[Iy,bf];simp;obtain⟨z,ab⟩:=e3.1 aje;rw[GS _ _ ab];simp;exact dF Rk.own h1;exact dF tV h1;exact dF (Rk.inner Y aB) h1;obtain⟨z,ab⟩:=e3.1 (abj r O c h1).1;rw[GS _ _ ab];simp
  have aw0:dP nz:=by
   subst jR;have mT:(eU cs.length ((⟨none,0,0⟩:U),([]:J av))).flatMap (·.2)=[]:=by rw[List.flatMap_eq_nil_iff];intro x M;rw[(uH.1 M).2]
   refine⟨ha.dim,⟨by simp,by show 0<cs.length;omega,by show cs.length<=64;omega⟩,λc I=>?_,λy ah r O=>?_,λy ah r O=>?_,by show(List.map _ (xL _ (eU _ _))).Nodup;rw[mT];exact JG,λx i=>⟨λh=>(by cases h),λ⟨y,ah,M⟩=>?_⟩,by show 0=(xL _ (eU _ _)).length;rw[mT];rfl,by show 0<=512;omega,λi y ah r O=>?_⟩;have:c.2∈u4:=by rw[<-LK];exact hS I
   obtain⟨h1,h2⟩:=agq.1 _ this;exact⟨by show(c.2.length:o)=dim;omega,h2⟩;rw[(uH.1 ah).2] at O;cases O;rw[(uH.1 ah).2] at O;cases O;rw[(uH.1 (du ah)).2] at M;cases M;rw[(uH.1 (du ah)).2] at O;cases O
  have aya:bb nz=[]:=by
   subst jR;unfold bb;have mT:(eU cs.length ((⟨none,0,0⟩:U),([]:J av))).flatMap (·.2)=[]:=by rw[List.flatMap_eq_nil_iff];intro x M;rw[(uH.1 M).2]
   show(xL _ (eU _ _)).map _=[];rw[mT];rfl
  refine⟨λx w=>0<=x/\x<=gM.n/\∃af T,In u w af n8 T/\dP T/\T.dim=dim/\T.cs=cs/\(bb T).Perm ((ls.take x.toNat).map av.bi)/\(∀y,y∈T.w.map (·.1)↔y∈(ls.take x.toNat).map (·.id))/\T.w.length=x.toNat/\(∀r∈ls,Ints w r.s r.v/\∀g,r.s.aj=some g->af g=some .vec)/\dS w gM ls/\∀g,gM.aj=some g->af g=none/\w g≠none,
   λx _=>((gM.n:o)-x).toNat,⟨by omega,by omega,pw,nz,avr,aw0,by rw[jR],by rw[jR],by rw[aya];exact .refl _,λy=>by rw[jR];simp,by rw[jR];rfl,λr O=>⟨(Tv r O).mono GS,aF r O⟩,akp.mono GS,λg W=>⟨t9 g W,avJ g W⟩⟩,?_⟩
  rintro x w ⟨bG,dy,af,T,cA,af1,Xf,af0,jW,ag2,CN,Zj,kQ,afw⟩;refine⟨λM=>?_,λM=>?_⟩;obtain⟨p,jV,r,O,fW,aP,_⟩:=kQ.at bG M;have fQ:=du O;obtain⟨pf,tc,abe⟩:=k3 r fQ;obtain⟨v1,v2⟩:=Zj r fQ;have Ay:ls.take (x+1).toNat=ls.take x.toNat++ [r]:=by rw[show(x+1).toNat=x.toNat+1 by omega,gT,O];rfl
  have w5:r.id∉T.w.map (·.1):=λb4=>by have h1:=(ag2 r.id).1 b4;have h2:((ls.take (x.toNat+1)).map (·.id)).Nodup:=bY.sublist ((rz _ _).map _);rw[show x.toNat+1=(x+1).toNat by omega,Ay,dY,gb] at h2;exact h2.2.2 _ h1 _ (by simp) rfl
  refine⟨p,jV,⟨bG,M⟩,_,fW,_,aP,alj cA af1 w5 pf v1 v2 ⟨by rw[Xf];exact tc,abe⟩ (by omega) λaGM aY bx kg=>⟨⟨by omega,by omega⟩,⟨by omega,by omega,aY,bx,kg.is,kg.ok,kg.dim.trans Xf,kg.cs.trans af0,?_,λy=>?_,by rw[kg.BA];omega,λch cq=>?_,?_,λg W=>?_⟩,by dsimp only;omega⟩⟩;rw[Ay,dY];exact kg.rows.trans ((iL _ jW).trans (l5 _ _).symm);rw[kg.w,ag2,Ay,dY];simp;obtain⟨fu,dK⟩:=Zj ch cq;exact⟨bt.else fu λg z W ab=>kg.amJ g z ab (dK g W),λg W=>kg.wg g (dK g W)⟩;refine⟨bt.else kQ.1 λg z W ab=>kg.eQ.bM g z ab (afw g W).1,λch cq=>?_⟩;obtain⟨fu,dK⟩:=Zj ch cq;exact bt.else fu λg z W ab=>kg.amJ g z ab (dK g W);obtain⟨f1,f2⟩:=afw g W;obtain⟨z,ab⟩:=e3.1 f2;exact⟨kg.eQ.off ab f1,by rw[kg.eQ.bM g z ab f1];simp⟩;rw[ho (by omega)] at jW;refine bH w n8 af T ⟨cA,af1,jW.trans ad,Xf,P,by rw[ew];exact ad,aru,by rw[af0,LK,yr]⟩
 refine⟨λoW=>?_,λAo=>?_⟩
 .have k5:0<ls.length:=by omega
  have v27:mh GN kW (ls.map λr=>(r.s,r.v)):=⟨bt.else w7.own.cC λg z W ab=>by
   have:g≠n8:=λe=>by have:=w7.fresh g W;rw[e,WM] at this;cases this
   rw[M6,bm _ _ this];exact acE _ _ ab,λc I=>by
   obtain⟨r,O,rfl⟩:=bk.1 I;exact(Tv r O).mono T9⟩
  have Cz:(ls.map λr=>(r.s,r.v)).map (·.2)=P.map (·.2):=by rw[Ci,ez];rfl
  have W6:(P.map (·.2)).length=ls.length:=by rw[Ci,dg]
  refine ali (d:=dim.toNat) v27 (λc I=>?_) (by omega) (by simp;omega) (by split<;>omega) (by simp only[dg];split<;>omega) (by omega) λja ma cs dU LK=>⟨λM=>a6 rfl M,λ_=>?_⟩;obtain⟨r,O,rfl⟩:=bk.1 I;obtain⟨_,h1,h2⟩:=k3 r O;exact⟨by show r.v.length=_;omega,h2⟩;have aqO:=dU.own.le _ _ WN;have C0:∀{x:U},(∀g,x.aj=some g->GN g=none)->x.aj≠some n8:=λM e=>by have:=M n8 e;rw[WN] at this;cases this
  have afu:=aqO;rw[RX] at afu;refine(ab9 (a:=hb) (b:=⟨none,0,0⟩) (s:=ja) afu).1 ?_;obtain⟨T5,R9⟩:∃T5,T5=ma.ins n8 (y1 ja):=⟨_,rfl⟩;have auV:T5=ma.ins n8 (bA #[.int .i64 dim,.slice ja.a ja.n ja.c,.slice none 0 0,.map (some m)] 178 (0,0)):=by rw[R9,RX]
  rw[<-auV];refine main (λc z I=>?_) (by rw[R9];exact bf _ _ _) (by rw[R9];exact Ue (dU.weaken T9) DF (C0 dU.own.fresh) (λc I=>C0 (dU.inner c I).fresh) _) (C0 dU.own.fresh) (λc I=>C0 (dU.inner c I).fresh) ?_;rw[R9,bm _ _ (λe=>by rw[e,DF] at I;cases I)];exact dU.own.le _ _ (T9 _ _ I);rw[LK,yr,Cz];have al:P.map (·.2)≠[]:=λe=>by rw[e] at W6;simp at W6;omega
  unfold zQ;rw[az al,W6,atA]
 have nG:ls=[]:=ly (by omega)
 refine main T9 WN (by rw[M6];exact Ue (zero.weaken LH) DF (ei zero.own.fresh) (λc I=>ei (zero.inner c I).fresh) _) (ei zero.own.fresh) (λc I=>ei (zero.inner c I).fresh) ?_
 rw[yr,Ci,nG]
 rfl
end
end jm
