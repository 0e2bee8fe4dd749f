/- Texts of mine, joined and packed by pack.py. -/
import Derived.Test.YtejdhbfjjgcljaaGreatDoorMrb10
set_option linter.all false
open Go renaming Program->dT,Value->ao,World->cg,TypeId->dF,Addr->bc,Code->jg,madeCells->oC
open _root_ renaming Nat->N,List->M,Option->aA,Int->o,Bool->aD,absurd->aV
open Bool renaming true->ak,false->ax
open Go.Obj renaming cells->bj,deferred->u9
open Go.IntKind renaming i64->bY
open Go.Instr renaming makeSlice->rX,sliceAt->hP,buildSlice->dI
open Go.Builtin renaming append_->ee,zeroCells->wv
open Go.Addr renaming add->eu,mk->cw
open List renaming range->lz,replicate->gu,length->iC,flatMap->ye
open Go.Proofs.Tryz renaming prog->aH
open Go.Value renaming int->cJ,pointer->hn,slice->ea,oneCell'->cK
open Int renaming tmod->k8,tdiv->ff,toNat->wA
open List.Perm renaming cons->j3
open Go.Exit renaming normal->sF
open Prod renaming fst->sI,snd->tH
set_option maxRecDepth 100000
noncomputable section
namespace Go.Proofs.YtejdhbfjjgcljaaGreatDoor
open H
namespace jH
section
variable{u:H}{b i k:N}{s:U}{x:o}{l:M az}{K:U->H->Prop}
def aCi:kI aH 176=some (22,1,24,[.slice none 0 0]):=by kernel_rfl
def KK:ns aH 175 3 3 (.int .i64 0):=⟨by kernel_rfl,by kernel_rfl,λ_=>by kernel_rfl⟩
def CP(c:U×M az):(encS c.1).length=1:=rfl
def kU{af:N->aA bx}{T:aS}(h:ec af u b T):u.cell? ⟨b,0,none⟩=some (.int .i64 T.aq)/\u.cell? ((cw b 0 none).add 1)=some (.slice T.lb.a T.lb.n T.lb.c)/\
  u.cell? ((cw b 0 none).add 2)=some (.slice T.bp.a T.bp.n T.bp.c)/\u.cell? ((cw b 0 none).add 3)=some (.map (some T.m)):=
 ⟨a8 h.cell 0,a8 h.cell 1,a8 h.cell 2,a8 h.cell 3⟩
def ec.abk{af:N->aA bx}{T:aS}(h:ec af u b T):T.bp.n=T.ls.length:=gU CP (by decide) h.ox.cI
def ec.yp{af:N->aA bx}{T:aS}(h:ec af u b T):mJ u T.lb T.cs:=⟨h.yJ,λc I=>by obtain⟨i,hi,rfl⟩:=oG I;exact(h.uc i _ (cy hi)).1⟩
def dU.aqM{T:aS}(h:dU T):wV T.cs T.aq:=⟨h.hB,h.many.2,h.HV⟩
def td(w:M (o×N))(x:o):aA N:=(w.find? λp=>p.1==x).map (·.2)
def L1(w:M (o×N))(x:o):fD (qq w) x=(td w x).map λi=>.int .i64 i:=by
 unfold fD td qq;induction w with
 |nil=>rfl|cons p w aM=>
  simp only[gR,G0];by_cases e:p.1=x;simp[e];have aF:(p.1==x)=ax:=by simpa using e
  simp only[aF];exact aM
def RB{w:M (o×N)}(h:td w x=some i):(x,i)∈w:=by
 unfold td at h;obtain⟨p,ad,rfl⟩:=TJ.1 h;have h1:=JW ad;have h2:=JX ad;have:p.1=x:=by simpa using h2
 rw[<-this];exact h1
def RC{w:M (o×N)}:td w x=none↔x∉w.map (·.1):=by unfold td;simp only[acs,Kb,bk,not_exists,not_and];constructor;intro h p ad e;exact h p ad (by simp[e]);intro h p ad e;exact h p ad (by simpa using e)
def al1{xs:M ao}(h:bz u s k xs)(ac:s.n=s.c)(hk:0<k):s=⟨none,0,0⟩∨s.a≠none:=by
 rcases h.at' with h1|⟨p,ad,_⟩;have ap:=h.len;rw[h1] at ap;simp only[oB] at ap;rcases TR.1 ap.symm with h2|h2;cases s with
 |mk a n c=>
  simp only at ac h2;subst h2;subst ac;cases a with
  |none=>exact .inl rfl|some p=>exact .inr (by simp)
 omega;exact .inr (by rw[ad];simp)
def axQ{id:o}{sv:U}{v:M o}(h:Cx u s l)(ap:l.length<1000000)
  (av:∀au u',Own u' 52 2 au ((l++ [(⟨id,sv,v⟩:az)]).flatMap cO)->gS u u' s->(∀g,au.al=some g->s.al=some g∨u g=none)->K au u'):
  c9 aH (dI 22 1 #[(0,.agg #[.int .i64 id,.slice sv.a sv.n sv.c])]) [.one .slice] u λs1 aU=>u.le aU/\c9 aH (ee #[22,22] 22 #[.slice s.a s.n s.c,.slice s1.a s1.n s1.c]) [.one .slice] aU K:=by
 have dM:s.n=l.length:=gU fM (by decide) h.cI
 have af6:l.flatMap cO++ [.int .i64 id,.slice sv.a sv.n sv.c]=(l++ [(⟨id,sv,v⟩:az)]).flatMap cO:=by simp[cO]
 rcases h.own with ab|ac
 refine z1 kk (xa id sv) (by decide) rfl (by simp[cK]) ab.f (by omega) (by omega) λau u' bQ _ he aa _=>av au u' ?_ he aa
 rw[<-af6]
 exact bQ.own
 refine mA (xa id sv) λg W=>⟨bZ _ W,?_⟩
 have hle:=bZ (u:=u) (b:=g) (.cells [cJ .i64 id,.slice sv.a sv.n sv.c].toArray 52 (0,0)) W
 have J:bz (u.ins g (.cells [cJ .i64 id,.slice sv.a sv.n sv.c].toArray 52 (0,0))) ⟨some ⟨g,0,none⟩,1,1⟩ 2 [cJ .i64 id,.slice sv.a sv.n sv.c]:=by have:=(aK.make (k:=2) (H.le.refl u) W (cells:=[cJ .i64 id,.slice sv.a sv.n sv.c].toArray) (e:=52) (n:=1) (by omega) (by simp)).own.cI;simpa using this
 refine acV kk (h.cI.mono hle) J (by simp only;omega) (al1 h.cI ac (by decide)) (by simp) (by simp only;omega) (by simp only;omega) λg2 c cur hh dP=>av _ _ (by rw[<-af6];exact dP) (λb z aa _=>?_) λg3 ah4=>?_
 have h1:=hle b z aa
 rw[bq _ _ (λe=>by rw[e,hh] at h1;cases h1)]
 exact h1
 have:g3=g2:=by simpa[U.al] using ah4.symm
 rw[this]
 exact .inr (hle.none hh)
def ec.alF{af aY:N->aA bx}{u':H}{T:aS}(h:ec af u b T){au:U}{bE:M az}{w':M (o×N)}(ap:Cx u' au bE)(xI:∀g,au.al=some g->aY g=some (.list i))
  (kf:∀r∈bE,Ints u' r.s r.v/\∀g,r.s.al=some g->aY g=some .vec) (IJ:Own u' 22 1 T.bp ((T.ls.set i (au,bE)).flatMap λl=>encS l.1)) (hm:fz u' T.m (qq w'))
  (hu:∀c z,u c=some z->af c≠none->af c≠some .ox->af c≠some (.list i)->af c≠some .map->u' c=some z) (ac:∀c,af c≠none->af c≠some (.list i)->aY c=af c):ec aY u' b {T with ls:=T.ls.set i (au,bE),w:=w'} where
 cell:=hu _ _ h.cell (by rw[h.dR];simp) (by rw[h.dR];simp) (by rw[h.dR];simp) (by rw[h.dR];simp)
 dR:=by rw[ac _ (by rw[h.dR];simp) (by rw[h.dR];simp)];exact h.dR
 yJ:=bz.else h.yJ λg z W ab=>hu g z ab (by rw[h.vC g W];simp) (by rw[h.vC g W];simp) (by rw[h.vC g W];simp) (by rw[h.vC g W];simp)
 vC g W:=by rw[ac _ (by rw[h.vC g W];simp) (by rw[h.vC g W];simp)];exact h.vC g W
 uc j c I:=by obtain⟨h1,h2⟩:=h.uc j c I;exact⟨bz.else h1 λg z W ab=>hu g z ab (by rw[h2 g W];simp) (by rw[h2 g W];simp) (by rw[h2 g W];simp) (by rw[h2 g W];simp),λg W=>by rw[ac _ (by rw[h2 g W];simp) (by rw[h2 g W];simp)];exact h2 g W⟩
 ox:=IJ
 qS g W:=by rw[ac _ (by rw[h.qS g W];simp) (by rw[h.qS g W];simp)];exact h.qS g W
 list j l aN:=by
  by_cases e:j=i;subst e;have:l=(au,bE):=by rw[zK] at aN;split at aN;split at aN;exact(cX aN).symm;cases aN;rename_i an;exact aV rfl an
  subst this;exact⟨ap,xI,kf⟩;rw[va (dG e)] at aN;obtain⟨h1,h2,h3⟩:=h.list j l aN;refine⟨h1.bS λg z W ab=>hu g z ab (by rw[h2 g W];simp) (by rw[h2 g W];simp) (by rw[h2 g W];simpa using e) (by rw[h2 g W];simp),λg W=>by rw[ac _ (by rw[h2 g W];simp) (by rw[h2 g W];simpa using e)];exact h2 g W,λr O=>?_⟩;obtain⟨a7,bO⟩:=h3 r O;exact⟨bz.else a7 λg z W ab=>hu g z ab (by rw[bO g W];simp) (by rw[bO g W];simp) (by rw[bO g W];simp) (by rw[bO g W];simp),λg W=>by rw[ac _ (by rw[bO g W];simp) (by rw[bO g W];simp)];exact bO g W⟩
 map:=hm
 dr:=by rw[ac _ (by rw[h.dr];simp) (by rw[h.dr];simp)];exact h.dr
def aAt{ls:M (U×M az)}{l:U×M az}(h:ls[i]?=some l)(au:U)(r:az):((ls.set i (au,l.2++ [r])).flatMap (·.2)).Perm (r::ls.flatMap (·.2)):=by
 induction ls generalizing i with
 |nil=>simp at h|cons x ls aM=>
  cases i with
  |zero=>simp only[BN,kC] at h;subst h;rw[OY,gI,gI,mq];exact BX|succ i=>simp only[x4] at h;rw[GK,gI,gI];exact((aM h).append_left _).trans BX
structure ape(aj u:H)(af:N->aA bx)(b:N)(T:aS)(id:o)(v:M o)(u':H)(aY:N->aA bx)(bB:aS):Prop where
 is:In aj u' aY b bB
 eX:hU u af u' aY
 ok:dU bB
 rows:(a6 bB).Perm ((id,v)::a6 T)
 aq:bB.aq=T.aq
 cs:bB.cs=T.cs
 Cl:bB.w.length=T.w.length+1
 w:∀x,x∈bB.w.map (·.1)↔x∈T.w.map (·.1)∨x=id
 wL:∀c,af c=some .vec->aY c=some .vec
 aoe:∀c z,u c=some z->af c=some .vec->u' c=some z
def amM{aj:H}{af:N->aA bx}{T:aS}{id:o}{v:M o}{K:H->Prop}(h:In aj u af b T)(aT:dU T)(cm:id∉T.w.map (·.1))(hi:1<=id/\id<=1000000000)(aB:Ints u s v)
  (ag:∀g,s.al=some g->af g=some .vec) (bH:(v.length:o)=T.aq/\c8 v) (hlen:T.w.length<512) (av:∀u' aY bB,ape aj u af b T id v u' aY bB->K u'):KZ (some ⟨b,0,none⟩) id s u K:=by
 obtain⟨bM,c1,c2,fc⟩:=kU h.aJ
 have dK:=aT.aqM
 obtain⟨k,hk⟩:∃k,(mn (T.cs.map (·.2)) v T.cs.length).1=k:=⟨_,rfl⟩
 have ju:k<T.cs.length:=by rw[<-hk];exact akK _ _ _ aT.many.2.1
 have aip:k<T.ls.length:=by rw[<-aT.many.1];exact ju
 have Sx:=h.aJ.abk
 apply aD5
 intro nr h0
 refine⟨u,H.le.refl u,_,rfl,_,c1,?_⟩
 have main:nr (k:o) u:=by
  refine h0 _ _ λWq h3=>?_;obtain⟨l,ap⟩:∃l,T.ls[k]?=some l:=⟨_,cy aip⟩;obtain⟨c6,yX,Mj⟩:=h.aJ.list k l ap;obtain⟨p,ad,I⟩:=bz.elem CP (by decide) h.aJ.ox.cI ap;have hL:=I 0 _ rfl;rw[Addr.add_zero'] at hL;have nl:∀{c t},af c=some t->t≠.list k->l.1.al≠some c:=λI ht e=>ht (by have:=yX _ e;rw[I] at this;exact cX this);have ahA:l.1.al≠some b:=nl h.aJ.dR (by simp);have ZB:∃g cur,T.bp.a=some ⟨g,0,none⟩/\u g=some (.cells cur 22 (0,0))/\T.bp.al=some g:=by rcases h.aJ.ox.is with h1|⟨g,cur,h1,h2,_⟩;rw[h1] at ad;cases ad;exact⟨g,cur,h1,h2,by simp[U.al,h1]⟩
  obtain⟨g,cur,Fj,Sp,ID⟩:=ZB;have uy:=h.aJ.qS g ID;have ah6:l.1.al≠some g:=nl uy (by simp);obtain rfl:p=⟨g,0,none⟩:=by rw[Fj] at ad;exact(cX ad).symm
  have W0:∀{a:bc} {x:ao},u.cell? a=some x->l.1.al≠some a.block->(nT u l.1).cell? a=some x:=λ{a x} J an=>by unfold H.cell? at J ⊢;rw[nU an];exact J
  refine⟨nT u l.1,D3 _ _,_,rfl,_,rfl,T.bp,W0 c2 ahA,T.bp,W0 c2 ahA,_,ad,⟨by omega,by omega⟩,l.1,?_,?_⟩;unfold aR;rw[zR];refine W0 hL ?_;rw[iP];exact ah6;have xk:l.2.length<1000000:=by have h1:=(D9 (f:=λl:U×M az=>l.2) (dB ap)).length_le;rw[<-aT.Cl] at h1;omega
  refine c9.PD (axQ (v:=v) c6 xk (K:=λUr KD=>(nT u l.1).le KD/\∃alj:bc,T.bp.a=some alj/\((0:o)<=(k:o)/\(k:o)<(T.bp.n:o))/\H.aO KD (alj.add ((k:o).toNat*1)) [.slice Ur.a Ur.n Ur.c] λo5=>Wq o5) ?_) λs1 v1 J=>⟨(D3 _ _).trans J.1,J.2⟩;intro au aU ab he aa;refine⟨λc z I=>he c z (Kr I).1 (Kr I).2,_,ad,⟨by omega,by omega⟩,?_⟩;have au5:Own aU 22 1 T.bp (T.ls.flatMap λl=>encS l.1):=h.aJ.ox.le λc z I hu=>he c z hu λe=>nl (h.aJ.qS c I) (by simp) e;rw[zR];have SM:au.al≠some g:=λe=>by rcases aa g e with h1|h1;exact ah6 h1;rw[Sp] at h1;cases h1
  refine aK.store (enc:=λl:U×M az=>encS l.1) CP au5.f (by decide) (i:=k) aip (y:=(au,l.2++ [⟨id,s,v⟩])) (by simp[encS,cK]) Fj λcQ dP jk fK=>h3 _ ?_;have pe:∀c z,u c=some z->af c≠some .ox->af c≠some (.list k)->cQ c=some z:=λc z I h1 h2=>by refine jk c z (he c z I λe=>h2 (yX c e)) λe=>h1 (h.aJ.qS c e)
  have W5:cQ b=some (.cells (fx T).toArray 178 (0,0)):=pe b _ h.aJ.cell (by rw[h.aJ.dR];simp) (by rw[h.aJ.dR];simp);have ave:fz cQ T.m (qq T.w):=h.aJ.map.else λz ab=>pe _ z ab (by rw[h.aJ.dr];simp) (by rw[h.aJ.dr];simp);refine⟨cQ,H.le.refl _,_,rfl,_,a8 W5 3,B3 KK ave (by rw[L1,RC.2 cm];rfl) λz hm=>?_⟩;have Zc:∀c,af c≠some .map->c≠T.m:=λc I e=>I (by rw[e];exact h.aJ.dr);have cW:∀c x,u c=some x->af c≠some .ox->af c≠some (.list k)->af c≠some .map->(cQ.ins T.m z) c=some x:=λc x I h1 h2 h3=>by rw[bq _ _ (Zc c h3)];exact pe c x I h1 h2
  have az1:au.al≠some T.m:=λe=>by rcases aa _ e with h1|h1;exact nl h.aJ.dr (by simp) h1;exact h.known T.m (by rw[h.aJ.dr];simp) h1
  have Zz:Own (cQ.ins T.m z) 52 2 au ((l.2++ [(⟨id,s,v⟩:az)]).flatMap cO):=ab.le λc x I J=>by
   rw[bq _ _ (λe=>az1 (by rw[I,e]))];exact jk c x J λe=>by
    have:c=g:=by rw[ID] at e;exact(cX e).symm
    exact SM (by rw[I,this])
  have oR:∀c,au.al=some c->af c=some (.list k)∨u c=none:=λc I=>(aa c I).imp (yX c) λh=>h
  let aY:N->aA bx:=λc=>open Classical in if au.al=some c then some (.list k) else if l.1.al=some c then none else af c
  have f2:∀c,au.al=some c->aY c=some (.list k):=λc I=>a1 I;have f1:∀c,af c≠none->af c≠some (.list k)->aY c=af c:=λc I h2=>by
   have h1:au.al≠some c:=λe=>by rcases oR c e with h1|h1;exact h2 h1;exact I (h.fresh h1)
   show(if au.al=some c then _ else _)=_;rw[aG h1,aG λe=>h2 (yX c e)]
  have f3:∀c,aY c≠none->(au.al=some c/\(af c≠none∨u c=none))∨(au.al≠some c/\l.1.al≠some c/\af c≠none):=λc I=>by
   by_cases e:au.al=some c;exact .inl ⟨e,(oR c e).imp (λh1=>by rw[h1];simp) λh1=>h1⟩;by_cases aF:l.1.al=some c;have:aY c=none:=by show(if au.al=some c then _ else _)=_;rw[aG e,a1 aF]
   exact aV this I;have:aY c=af c:=by show(if au.al=some c then _ else _)=_;rw[aG e,aG aF]
   rw[this] at I;exact .inr ⟨e,aF,I⟩
  have acL:∀r∈l.2++ [(⟨id,s,v⟩:az)],Ints (cQ.ins T.m z) r.s r.v/\∀c,r.s.al=some c->aY c=some .vec:=by
   intro r O;have both:Ints u r.s r.v/\∀c,r.s.al=some c->af c=some .vec:=by rcases cM.1 O with h1|h1;exact Mj r h1;rw[gp.1 h1];exact⟨aB,ag⟩
   exact⟨bz.else both.1 λc x I J=>cW c x J (by rw[both.2 c I];simp) (by rw[both.2 c I];simp) (by rw[both.2 c I];simp),λc I=>by rw[f1 c (by rw[both.2 c I];simp) (by rw[both.2 c I];simp)];exact both.2 c I⟩
  have oQ:fz (cQ.ins T.m z) T.m (qq (T.w++ [(id,k)])):=by
   have:qq (T.w++ [(id,k)])=qq T.w++ [(id,.int .i64 (k:o))]:=by simp[qq]
   rw[this];exact hm
  have Su:Own (cQ.ins T.m z) 22 1 T.bp ((T.ls.set k (au,l.2++ [(⟨id,s,v⟩:az)])).flatMap λl=>encS l.1):=dP.own.le λc x I J=>by rw[bq _ _ (λe=>by have:=h.aJ.qS c I;rw[e,h.aJ.dr] at this;cases this)];exact J
  have Yf:=h.aJ.alF (i:=k) (w':=T.w++ [(id,k)]) ⟨Zz.cI,.inl Zz⟩ f2 acL Su oQ (λc x I _ h2 h3 a7=>cW c x I h2 h3 a7) f1;have adL:aj.le (cQ.ins T.m z):=λc x I=>by
   have hu:=h.le c x I;have ac:af c=none:=by
    cases e:af c with
    |none=>rfl|some t=>have:=h.out c (by rw[e];simp);rw[I] at this;cases this
   exact cW c x hu (by rw[ac];simp) (by rw[ac];simp) (by rw[ac];simp)
  have ib:=aAt ap au (⟨id,s,v⟩:az);have auK:id∉(T.ls.flatMap (·.2)).map (·.id):=λhm=>by obtain⟨r,O,e⟩:=bk.1 hm;obtain⟨y,ai,NI⟩:=ep.1 O;obtain⟨j,aN,rfl⟩:=oG ai;have:=(aT.yr id j).2 ⟨_,cy aN,bk.2 ⟨r,NI,e⟩⟩;exact cm (bk.2 ⟨_,this,rfl⟩)
  have each:∀{i:N} {y:U×M az},(T.ls.set k (au,l.2++ [(⟨id,s,v⟩:az)]))[i]?=some y->(i=k/\y=(au,l.2++ [⟨id,s,v⟩]))∨(i≠k/\T.ls[i]?=some y):=λ{i y} ai=>by by_cases e:i=k;subst e;rw[zT (by omega)] at ai;exact .inl ⟨rfl,(cX ai).symm⟩;rw[va (dG e)] at ai;exact .inr ⟨e,ai⟩
  have Ov:∀y∈T.ls.set k (au,l.2++ [(⟨id,s,v⟩:az)]),∀r∈y.2,r=⟨id,s,v⟩∨∃Y∈T.ls,r∈Y.2:=λy ai r O=>by have:r∈(⟨id,s,v⟩:az)::T.ls.flatMap (·.2):=ib.mem_iff.1 (ep.2 ⟨y,ai,O⟩);rcases cP.1 this with h1|h1;exact .inl h1;obtain⟨Y,aC,nI⟩:=ep.1 h1;exact .inr ⟨Y,aC,nI⟩
  refine av _ aY {T with ls:=T.ls.set k (au,l.2++ [⟨id,s,v⟩]),w:=T.w++ [(id,k)]} ⟨⟨Yf,adL,λc I=>?_,λc I=>?_⟩,⟨λc x I ac=>cW c x I (by rw[ac];simp) (by rw[ac];simp) (by rw[ac];simp),λc I=>?_⟩,?_,?_,rfl,rfl,by simp,λx=>by simp[er],λc I=>by rw[f1 c (by rw[I];simp) (by rw[I];simp)];exact I,λc z ab I=>cW c z ab (by rw[I];simp) (by rw[I];simp) (by rw[I];simp)⟩;rcases f3 c I with⟨_,h1|h1⟩|⟨_,_,h1⟩;exact h.out c h1;exact h.le.none h1;exact h.out c h1;rcases f3 c I with⟨h1,_⟩|⟨_,h2,h1⟩;exact dL Zz.f h1;by_cases e:c=T.m;rw[e,bi];simp;by_cases aF:T.bp.al=some c;exact dL Su.f aF;obtain⟨x,J⟩:=fj.1 (h.known c h1);rw[bq _ _ e,jk c x (he c x J h2) aF];simp;rcases f3 c I with⟨_,h1⟩|⟨_,_,h1⟩;exact h1;exact .inl h1;have SF:(mn (T.cs.map (·.2)) (⟨id,s,v⟩:az).v T.cs.length).1=k:=hk;refine⟨aT.hB,⟨by simp[aT.many.1],aT.many.2⟩,aT.HV,λy ai r O=>?_,λy ai r O=>?_,?_,λi j=>?_,?_,by simp;omega,λi y ai r O=>?_⟩;rcases Ov y ai r O with rfl|⟨Y,aC,nI⟩;exact bH;exact aT.vec Y aC r nI;rcases Ov y ai r O with rfl|⟨Y,aC,nI⟩;exact hi;exact aT.ids Y aC r nI;rw[(ib.map _).nodup_iff,gR,h6];exact⟨auK,aT.nodup⟩;simp only[cM,gp,GP];constructor;rintro(h1|⟨rfl,rfl⟩);obtain⟨y,ai,hm⟩:=(aT.yr i j).1 h1;by_cases e:j=k;subst e;rw[ap] at ai;cases ai;exact⟨_,zT (by omega),by rw[er];exact iA _ hm⟩;exact⟨y,by rw[va (dG e)];exact ai,hm⟩;exact⟨_,zT (by omega),by simp⟩;rintro⟨y,ai,hm⟩;rcases each ai with⟨rfl,rfl⟩|⟨an,ai⟩;rw[er] at hm;rcases cM.1 hm with h1|h1;exact .inl ((aT.yr i j).2 ⟨l,ap,h1⟩);exact .inr ⟨by simpa using h1,rfl⟩;exact .inl ((aT.yr i j).2 ⟨y,ai,hm⟩);have:=ib.length_eq;rw[hX,<-aT.Cl] at this;show(T.w++ [(id,k)]).length=_;rw[this];simp;rcases each ai with⟨rfl,rfl⟩|⟨an,ai⟩;rcases cM.1 O with h1|h1;exact aT.tw i l ap r h1;rw[gp.1 h1];exact SF;exact aT.tw i y ai r O;exact ib.map az.bL
 exact⟨UL h.aJ.yp dK aB bH.2 bH.1 ⟨H.le.refl u,by rw[hk];exact main⟩,H.le.refl u,UL h.aJ.yp dK aB bH.2 bH.1 (by rw[hk];exact main)⟩
def aAd{P:dT}{t fB e:dF}{size bytes:N}{zs:M ao}(aT:kI P t=some (e,size,bytes,zs)){x:U}(ag:s.n<=s.c)(J:x.n=0)(av:K s u):
  c9 P (ee #[t,t] fB #[.slice s.a s.n s.c,.slice x.a x.n x.c]) [.one .slice] u K:=by
 obtain⟨ht,i,Y,hi,aC,qN,y3,Bt,_⟩:=vE aT
 refine .Gy (c:=.slice) s (λw hw=>?_) av
 have ap:∀(y:bc),(loadCells y 0).run P w=.ok #[] w:=λy=>by simpa using run_loadCells_list (P:=P) w y [] (by simp)
 rw[J]
 cases uJ:s.a<;>cases Dt:x.a<;>simp[ee,ir ht,sizeOf,typeInfo,hi,Builtin.lenOf,Builtin.firstCells,ag,aE.enc,uJ,ap,storeCells]
def ayX{l h m:N}{g:N}(W:(s.part l h m k).al=some g):s.al=some g:=by
 unfold U.part U.al at*;simp only at W;split at W;exact W;cases ay:s.a with
 |none=>rw[ay] at W;simp at W|some p=>
  rw[ay] at W;simp only[u4] at W ⊢;have:(p.add (l*k)).block=p.block:=by unfold eu;split<;>rfl
  rw[this] at W;exact W
def axP{fB:dF}(h:bz u s 2 (l.flatMap cO))(hi:i<l.length)(ap:l.length<=1000000)
  (av:∀au u',u.le u'->Cx u' au (l.take i++l.drop (i+1))->(∀g,au.al=some g->s.al=some g∨(u g=none/\u' g≠none))->K au u'):
  c9 aH (ee #[22,22] fB #[.slice (s.part 0 i i 2).a (s.part 0 i i 2).n (s.part 0 i i 2).c,.slice (s.part (i+1) s.n s.c 2).a (s.part (i+1) s.n s.c 2).n (s.part (i+1) s.n s.c 2).c]) [.one .slice] u K:=by
 have ae:s.n=l.length:=gU fM (by decide) h
 have I:=h.cap
 have s1:bz u (s.part 0 i i 2) 2 ((l.take i).flatMap cO):=by have:=bz.part h (l:=0) (h:=i) (m:=i) (by omega) (by omega) (cC _) (by omega);rw[J0,TY,DP,yT fM] at this;exact this
 have s2:bz u (s.part (i+1) s.n s.c 2) 2 ((l.drop (i+1)).flatMap cO):=by have:=bz.part h (l:=i+1) (h:=s.n) (m:=s.c) (by omega) (cC _) I (cC _);rw[XB fM,yT fM,gY (by rw[mv];omega)] at this;exact this
 have b8:(s.part 0 i i 2).n=i:=by simp[U.part]
 have c1:(s.part 0 i i 2).c=i:=by simp[U.part]
 have ek:(s.part (i+1) s.n s.c 2).n=s.n-(i+1):=rfl
 by_cases h0:(s.part (i+1) s.n s.c 2).n=0
 have ar:l.drop (i+1)=[]:=sC (by omega)
 refine aAd kk (by omega) h0 (av _ u (H.le.refl u) ?_ λg W=>.inl (ayX W))
 rw[ar,lB]
 exact⟨s1,.inr (by omega)⟩
 have Dt:(s.part (i+1) s.n s.c 2).a≠none:=by rcases s2.at' with h1|⟨p,ad,_⟩;have:=s2.len;rw[h1] at this;simp only[oB] at this;omega;rw[ad];simp
 refine acV kk s1 s2 (by omega) (al1 s1 (by omega) (by decide)) Dt (by omega) (by omega) λg c cur W ab=>av _ _ (bZ _ W) ?_ λg2 hh=>?_
 rw[<-gZ] at ab
 exact⟨ab.cI,.inl ab⟩
 have:g2=g:=by simpa[U.al] using hh.symm
 rw[this]
 exact .inr ⟨W,by rw[bi];simp⟩
def W8{r:az}{id:o}(b3:(l.map (·.id)).Nodup)(h:l[i]?=some r)(O:r.id=id):l.take i++l.drop (i+1)=l.filter λx=>x.id !=id:=by
 induction l generalizing i with
 |nil=>simp at h|cons x l aM=>
  rw[gR,h6] at b3;cases i with
  |zero=>simp only[BN,kC] at h;subst h;simp only[OZ,nQ,TQ,TY,DV,O,bne_self_eq_false,DJ,BL];refine(r6.2 λy ai=>?_).symm;have:y.id≠id:=λe=>b3.1 (bk.2 ⟨y,ai,by rw[e,O]⟩);simpa using this|succ i=>simp only[x4] at h;have J:x.id≠id:=λe=>b3.1 (bk.2 ⟨r,dB h,by rw[O,e]⟩);rw[BM,TQ,x7,aM b3.2 h,DV,a1 (by simpa using J)]
def aAr{ls:M (U×M az)}{l:U×M az}{r:az}{id:o}(b3:((ls.flatMap (·.2)).map (·.id)).Nodup)(h:ls[k]?=some l)(hi:l.2[i]?=some r)(O:r.id=id)(au:U):
  (ls.set k (au,l.2.take i++l.2.drop (i+1))).flatMap (·.2)=(ls.flatMap (·.2)).filter λx=>x.id !=id:=by
 induction ls generalizing k with
 |nil=>simp at h
 |cons x ls aM=>
  rw[gI,er,fZ] at b3;obtain⟨h1,h2,h3⟩:=b3;have al2:∀{m:M az},(∀y∈m,y.id≠id)->m.filter (λx=>x.id !=id)=m:=λhm=>r6.2 λy ai=>by simpa using hm y ai
  cases k with
  |zero=>simp only[BN,kC] at h;subst h;rw[OY,gI,gI,zS,W8 h1 hi O];congr 1;exact(al2 λy ai e=>h3 r.id (bk.2 ⟨r,dB hi,rfl⟩) y.id (bk.2 ⟨y,ai,rfl⟩) (by rw[e,O])).symm|succ k=>simp only[x4] at h;rw[GK,gI,gI,zS,aM h2 h];congr 1;refine(al2 λy ai e=>h3 y.id (bk.2 ⟨y,ai,rfl⟩) r.id (bk.2 ⟨r,ep.2 ⟨l,dB h,dB hi⟩,rfl⟩) (by rw[e,O])).symm
def aF6(w:M (o×N))(id:o):(qq w).filter (λp=>p.1 !=id)=qq (w.filter λp=>p.1 !=id):=by unfold qq;rw[sJ];rfl
def WH:hf aH 284=ak:=by kernel_rfl
def ec.r8{af:N->aA bx}{T:aS}(h:ec af u b T):(T.w.map (·.1)).Nodup:=by obtain⟨es,c,_,he⟩:=h.map;have:=he.nodup;unfold qq at this;rw[eh] at this;exact this
def dU.ad4{T:aS}(h:dU T){id:o}:id∈T.w.map (·.1)↔id∈(T.ls.flatMap (·.2)).map (·.id):=by constructor;intro hm;obtain⟨p,ad,e⟩:=bk.1 hm;obtain⟨l,ap,cm⟩:=(h.yr p.1 p.2).1 ad;obtain⟨r,O,aF⟩:=bk.1 cm;exact bk.2 ⟨r,ep.2 ⟨l,dB ap,O⟩,by rw[aF,e]⟩;intro hm;obtain⟨r,O,e⟩:=bk.1 hm;obtain⟨l,ap,k1⟩:=ep.1 O;obtain⟨i,hi,rfl⟩:=oG ap;exact bk.2 ⟨(id,i),(h.yr id i).2 ⟨_,cy hi,bk.2 ⟨r,k1,e⟩⟩,rfl⟩
def aaQ(T:aS):(a6 T).map (·.1)=(T.ls.flatMap (·.2)).map (·.id):=by unfold a6;rw[eh];rfl
def axs{w:M (o×N)}(ae:(w.map (·.1)).Nodup){j:N}(h1:(x,i)∈w)(h2:(x,j)∈w):(x,i)=(x,j):=by
 induction w with
 |nil=>cases h1
 |cons p w aM=>rw[gR,h6] at ae;rcases cP.1 h1 with h3|h3;rcases cP.1 h2 with a7|a7;rw[h3,a7];exact aV (bk.2 ⟨_,a7,by rw[<-h3]⟩) ae.1;rcases cP.1 h2 with a7|a7;exact aV (bk.2 ⟨_,h3,by rw[<-a7]⟩) ae.1;exact aM ae.2 h3 a7
structure Al(aj u:H)(af:N->aA bx)(b:N)(T:aS)(id:o)(u':H)(aY:N->aA bx)(bB:aS):Prop where
 is:In aj u' aY b bB
 eX:hU u af u' aY
 ok:dU bB
 rows:a6 bB=(a6 T).filter λx=>x.1 !=id
 aq:bB.aq=T.aq
 cs:bB.cs=T.cs
 w:bB.w=T.w.filter λp=>p.1 !=id
def wH{aj:H}{af:N->aA bx}{T:aS}{id:o}{K:aD->o->H->Prop}(h:In aj u af b T)(aT:dU T)(eg:id∉T.w.map (·.1)->∀u',u.le u'->K ax 0 u')
  (ky:id∈T.w.map (·.1)->∀u' aY bB,Al aj u af b T id u' aY bB->K ak 0 u'):VG (some ⟨b,0,none⟩) id u K:=by
 apply aDZ
 intro n0 e1
 have Gj:u.le (u.ins n0 (.cells #[.int .i64 id] 3 (0,0))):=bZ _ e1
 have fA:(u.ins n0 (.cells #[.int .i64 id] 3 (0,0))) n0=some (.cells #[.int .i64 id] 3 (0,0)):=bi _ _ _
 have h1:=h.mono bS Gj
 have avm:af n0=none:=h.fresh e1
 obtain⟨aU,hj⟩:∃aU,aU=u.ins n0 (.cells #[.int .i64 id] 3 (0,0)):=⟨_,rfl⟩
 rw[<-hj] at Gj fA h1 ⊢
 obtain⟨bM,c1,c2,fc⟩:=kU h1.aJ
 refine⟨λe=>(by cases e),λ_=>⟨_,rfl,_,fc,_,a8 fA 0,?_⟩⟩
 refine tM KK h1.aJ.map (ct:=.int .i64) (((td T.w id).getD 0:N):o) (by rw[L1];cases td T.w id<;>rfl) ?_
 have iU:(fD (qq T.w) id).isSome=decide (id∈T.w.map (·.1)):=by
  rw[L1,Uc];cases e:td T.w id with
  |none=>rw[o0 (RC.1 e)];rfl|some k=>rw[l4 (bk.2 ⟨_,RB e,rfl⟩)];rfl
 rw[iU]
 refine⟨λaa=>?_,λaa=>?_⟩
 exact eg (λhm=>aa (l4 hm)) _ Gj
 have cb:id∈T.w.map (·.1):=DT aa
 have ky:=ky cb
 obtain⟨k,hk⟩:∃k,td T.w id=some k:=by
  cases e:td T.w id with
  |none=>exact aV cb (RC.1 e)|some k=>exact⟨k,rfl⟩
 rw[hk,JR]
 obtain⟨l,ap,auJ⟩:=(aT.yr id k).1 (RB hk)
 have ju:k<T.ls.length:=(iB.1 ap).1
 have Sx:=h1.aJ.abk
 obtain⟨c6,yX,Mj⟩:=h1.aJ.list k l ap
 obtain⟨p,ad,I⟩:=bz.elem CP (by decide) h1.aJ.ox.cI ap
 have hL:=I 0 _ rfl
 rw[Addr.add_zero'] at hL
 have ZB:∃g cur,T.bp.a=some ⟨g,0,none⟩/\aU g=some (.cells cur 22 (0,0))/\T.bp.al=some g:=by rcases h1.aJ.ox.is with aQ|⟨g,cur,aQ,aF,_⟩;rw[aQ] at ad;cases ad;exact⟨g,cur,aQ,aF,by simp[U.al,aQ]⟩
 obtain⟨g,cur,Fj,Sp,ID⟩:=ZB
 have uy:=h1.aJ.qS g ID
 obtain rfl:p=⟨g,0,none⟩:=by rw[Fj] at ad;exact(cX ad).symm
 have nl:∀{c t},af c=some t->t≠.list k->l.1.al≠some c:=λI ht e=>ht (by have:=yX _ e;rw[I] at this;exact cX this)
 refine⟨_,rfl,_,fc,_,a8 fA 0,Ks KK h1.aJ.map λz hm=>?_⟩
 have Zc:∀c,af c≠some .map->c≠T.m:=λc I e=>I (by rw[e];exact h1.aJ.dr)
 have aQ:∀c x,aU c=some x->af c≠some .map->(aU.ins T.m z) c=some x:=λc x J h3=>by rw[bq _ _ (Zc c h3)];exact J
 obtain⟨v,aB⟩:∃v,v=aU.ins T.m z:=⟨_,rfl⟩
 rw[<-aB] at hm aQ ⊢
 have aFZ:∀c,v c=none->aU c=none:=λc I=>by by_cases e:c=T.m;rw[aB,e,bi] at I;cases I;rw[aB,bq _ _ e] at I;exact I
 have lT:v b=some (.cells (fx T).toArray 178 (0,0)):=aQ _ _ h1.aJ.cell (by rw[h1.aJ.dR];simp)
 have ah9:=aQ g _ Sp (by rw[uy];simp)
 have atZ:v.cell? (eu ⟨g,0,none⟩ (k*1))=some (.slice l.1.a l.1.n l.1.c):=by rw[iP] at hL ⊢;unfold H.cell? at hL ⊢;simp only[Sp,ah9] at hL ⊢;exact hL
 have avn:v n0=some (.cells #[.int .i64 id] 3 (0,0)):=aQ _ _ fA (by rw[avm];simp)
 have SO:bz v l.1 2 (l.2.flatMap cO):=bz.else c6.cI λc x I J=>aQ c x J (by rw[yX c I];simp)
 have avb:l.1.n=l.2.length:=gU fM (by decide) SO
 have xk:l.2.length<1000000:=by have h1:=(D9 (f:=λl:U×M az=>l.2) (dB ap)).length_le;rw[<-aT.Cl] at h1;have:=aT.small;omega
 have aix:(l.2.map (·.id)).Nodup:=aT.nodup.sublist ((D9 (f:=λl:U×M az=>l.2) (dB ap)).map _)
 refine⟨_,rfl,T.bp,a8 lT 2,_,Fj,⟨by omega,by omega⟩,l.1,by unfold aR;rw[zR];exact atZ,?_⟩
 refine amP (p:=λr=>decide (r.id=id)) (l:=l.2) SO (λr w gw hw dJ=>.inl ⟨_,_,_,rfl,hd WH,aD0 _ _ _ _ _ ⟨_,a8 (hw _ _ avn) 0,dJ⟩⟩) (H.le.refl v) (λi r O _ mU=>?_) λeP=>(by obtain⟨r,O,e⟩:=bk.1 auJ;have:=GY (eP r O);exact aV e this)
 have ZT:r.id=id:=DT mU
 have eU:i<l.2.length:=(iB.1 O).1
 have fin:∀{fB:dF},c9 aH (ee #[22,22] fB #[.slice (l.1.part 0 i i 2).a (l.1.part 0 i i 2).n (l.1.part 0 i i 2).c,.slice (l.1.part (i+1) l.1.n l.1.c 2).a (l.1.part (i+1) l.1.n l.1.c 2).n (l.1.part (i+1) l.1.n l.1.c 2).c]) [.one .slice] v
   λlN mB=>v.le mB/\∃alk:bc,T.bp.a=some alk/\((0:o)<=(k:o)/\(k:o)<(T.bp.n:o))/\H.aO mB (alk.add ((k:o).toNat*1)) [.slice lN.a lN.n lN.c] λqp=>K ak 0 qp:=by
  intro fB
  refine axP SO eU (by omega) λau cQ eV as2 eQ=>⟨eV,_,Fj,⟨by omega,by omega⟩,?_⟩
  have Su:Own cQ 22 1 T.bp (T.ls.flatMap λl=>encS l.1):=h1.aJ.ox.le λc z I hu=>eV _ _ (aQ c z hu (by rw[h1.aJ.qS c I];simp))
  rw[zR]
  refine aK.store (enc:=λl:U×M az=>encS l.1) CP Su.f (by decide) (i:=k) ju (y:=(au,l.2.take i++l.2.drop (i+1))) (by simp[encS,cK]) Fj λj5 ml C8 tm=>?_
  have SM:au.al≠some g:=λe=>by rcases eQ g e with h2|h2;exact nl uy (by simp) h2;rw[ah9] at h2;cases h2.1
  have cW:∀c x,u c=some x->af c≠some .ox->af c≠some .map->j5 c=some x:=λc x J h2 h3=>C8 c x (eV _ _ (aQ c x (Gj _ _ J) h3)) λe=>h2 (h1.aJ.qS c e)
  have af4:∀c x,aU c=some x->af c≠some .ox->af c≠some .map->j5 c=some x:=λc x J h2 h3=>C8 c x (eV _ _ (aQ c x J h3)) λe=>h2 (h1.aJ.qS c e)
  have oR:∀c,au.al=some c->af c=some (.list k)∨(af c=none/\u c=none/\cQ c≠none):=λc I=>by rcases eQ c I with h2|h2;exact .inl (yX c h2);have h3:=aFZ c h2.1;exact .inr ⟨h1.fresh h3,Gj.none h3,h2.2⟩
  have as3:Cx j5 au (l.2.take i++l.2.drop (i+1)):=as2.bS λc x I J=>C8 c x J λe=>SM (by
   have:c=g:=by rw[ID] at e;exact(cX e).symm
   rw[I,this])
  let aY:N->aA bx:=λc=>open Classical in if au.al=some c then some (.list k) else if l.1.al=some c then none else af c
  have f2:∀c,au.al=some c->aY c=some (.list k):=λc I=>a1 I
  have f1:∀c,af c≠none->af c≠some (.list k)->aY c=af c:=λc I h2=>by
   have a7:au.al≠some c:=λe=>by rcases oR c e with h3|h3;exact h2 h3;exact I h3.1
   show(if au.al=some c then _ else _)=_;rw[aG a7,aG λe=>h2 (yX c e)]
  have f3:∀c,aY c≠none->(au.al=some c/\(af c≠none∨u c=none))∨(au.al≠some c/\l.1.al≠some c/\af c≠none):=λc I=>by
   by_cases e:au.al=some c;exact .inl ⟨e,(oR c e).imp (λh1=>by rw[h1];simp) λh1=>h1.2.1⟩;by_cases aF:l.1.al=some c;have:aY c=none:=by show(if au.al=some c then _ else _)=_;rw[aG e,a1 aF]
   exact aV this I;have:aY c=af c:=by show(if au.al=some c then _ else _)=_;rw[aG e,aG aF]
   rw[this] at I;exact .inr ⟨e,aF,I⟩
  have gW:∀de∈l.2.take i++l.2.drop (i+1),de∈l.2:=λde dz=>by rcases cM.1 dz with h2|h2;exact mx h2;exact sG h2
  have acL:∀de∈l.2.take i++l.2.drop (i+1),Ints j5 de.s de.v/\∀c,de.s.al=some c->aY c=some .vec:=by intro de dz;obtain⟨i1,i2⟩:=Mj de (gW de dz);exact⟨bz.else i1 λc x I J=>af4 c x J (by rw[i2 c I];simp) (by rw[i2 c I];simp),λc I=>by rw[f1 c (by rw[i2 c I];simp) (by rw[i2 c I];simp)];exact i2 c I⟩
  have Sy:fz j5 T.m (qq (T.w.filter λp=>p.1 !=id)):=by rw[<-aF6];exact hm.else λx J=>C8 _ x (eV _ _ J) λe=>by have:=h1.aJ.qS _ e;rw[h1.aJ.dr] at this;cases this
  have Yf:=h1.aJ.alF (i:=k) (w':=T.w.filter λp=>p.1 !=id) as3 f2 acL ml.own Sy (λc x I _ h2 _ a7=>af4 c x I h2 a7) f1
  have adL:aj.le j5:=λc x I=>by
   have ac:af c=none:=by
    cases e:af c with
    |none=>rfl|some t=>have:=h.out c (by rw[e];simp);rw[I] at this;cases this
   exact cW c x (h.le c x I) (by rw[ac];simp) (by rw[ac];simp)
  have kf:=aAr aT.nodup ap O ZT au
  have each:∀{j:N} {y:U×M az},(T.ls.set k (au,l.2.take i++l.2.drop (i+1)))[j]?=some y->(j=k/\y=(au,l.2.take i++l.2.drop (i+1)))∨(j≠k/\T.ls[j]?=some y):=λ{j y} ai=>by by_cases e:j=k;subst e;rw[zT (by omega)] at ai;exact .inl ⟨rfl,(cX ai).symm⟩;rw[va (dG e)] at ai;exact .inr ⟨e,ai⟩
  have Ov:∀y∈T.ls.set k (au,l.2.take i++l.2.drop (i+1)),∀de∈y.2,∃Y∈T.ls,de∈Y.2:=λy ai de dz=>by
   have:de∈(T.ls.flatMap (·.2)).filter λx=>x.id !=id:=by rw[<-kf];exact ep.2 ⟨y,ai,dz⟩
   obtain⟨Y,aC,nI⟩:=ep.1 (iX.1 this).1;exact⟨Y,aC,nI⟩
  refine ky _ aY {T with ls:=T.ls.set k (au,l.2.take i++l.2.drop (i+1)),w:=T.w.filter λp=>p.1 !=id} ⟨⟨Yf,adL,λc I=>?_,λc I=>?_⟩,⟨λc x I ac=>cW c x I (by rw[ac];simp) (by rw[ac];simp),λc I=>?_⟩,?_,?_,rfl,rfl,rfl⟩
  rcases f3 c I with⟨_,h1|h1⟩|⟨_,_,h1⟩
  exact h.out c h1
  exact h.le.none h1
  exact h.out c h1
  rcases f3 c I with⟨h2,_⟩|⟨_,h2,h3⟩
  rcases oR c h2 with bO|⟨_,_,bO⟩
  obtain⟨x,J⟩:=fj.1 (h.known c (by rw[bO];simp))
  rw[cW c x J (by rw[bO];simp) (by rw[bO];simp)];simp
  obtain⟨x,J⟩:=fj.1 bO
  rw[C8 c x J λe=>SM (by
   have:c=g:=by rw[ID] at e;exact(cX e).symm
   rw[h2,this])]
  simp
  by_cases aF:T.bp.al=some c
  exact dL ml aF
  by_cases e:c=T.m
  obtain⟨es,cl,J,_⟩:=Sy
  rw[e,J];simp
  obtain⟨x,J⟩:=fj.1 (h1.known c h3)
  have:v c=some x:=by rw[aB,bq _ _ e];exact J
  rw[C8 c x (eV _ _ this) aF];simp
  rcases f3 c I with⟨_,h1⟩|⟨_,_,h1⟩
  exact h1
  exact .inl h1
  refine⟨aT.hB,⟨by simp[aT.many.1],aT.many.2⟩,aT.HV,λy ai de dz=>?_,λy ai de dz=>?_,?_,λx j=>?_,?_,jo (yf _ _) aT.small,λj y ai de dz=>?_⟩
  obtain⟨Y,aC,nI⟩:=Ov y ai de dz
  exact aT.vec Y aC de nI
  obtain⟨Y,aC,nI⟩:=Ov y ai de dz
  exact aT.ids Y aC de nI
  show((ye (·.2) (T.ls.set k _)).map _).Nodup
  rw[kf]
  exact aT.nodup.sublist (O7.map _)
  simp only[iX,bne_iff_ne,ne_eq]
  constructor
  rintro⟨h2,h3⟩
  obtain⟨y,ai,FG⟩:=(aT.yr x j).1 h2
  by_cases e:j=k
  subst e
  rw[ap] at ai;cases ai
  refine⟨_,zT (by omega),?_⟩
  rw[show((au,l.2.take i++l.2.drop (i+1)):U×M az).2=l.2.take i++l.2.drop (i+1) from rfl,W8 aix O ZT]
  obtain⟨Y,aC,rfl⟩:=bk.1 FG
  exact bk.2 ⟨Y,iX.2 ⟨aC,by simpa using h3⟩,rfl⟩
  exact⟨y,by rw[va (dG e)];exact ai,FG⟩
  rintro⟨y,ai,FG⟩
  rcases each ai with⟨rfl,rfl⟩|⟨an,ai⟩
  rw[show((au,l.2.take i++l.2.drop (i+1)):U×M az).2=l.2.take i++l.2.drop (i+1) from rfl,W8 aix O ZT] at FG
  obtain⟨Y,aC,rfl⟩:=bk.1 FG
  obtain⟨awZ,aaF⟩:=iX.1 aC
  exact⟨(aT.yr Y.id j).2 ⟨l,ap,bk.2 ⟨Y,awZ,rfl⟩⟩,by simpa using aaF⟩
  refine⟨(aT.yr x j).2 ⟨y,ai,FG⟩,λe=>an ?_⟩
  have gk:=(aT.yr x j).2 ⟨y,ai,FG⟩
  have ew:=RB hk
  rw[e] at gk
  have:=h.aJ.r8
  exact(Prod.mk.inj (axs this gk ew)).2
  have ZA:(T.w.map (·.1)).Perm ((T.ls.flatMap (·.2)).map (·.id)):=(T9 h.aJ.r8 aT.nodup).2 λx=>aT.ad4
  have gD:=(ZA.filter λx=>x !=id).length_eq
  rw[sJ,sJ,dj,dj] at gD
  show(T.w.filter λp=>p.1 !=id).length=(ye (·.2) (T.ls.set k _)).length
  rw[kf]
  exact gD
  rcases each ai with⟨rfl,rfl⟩|⟨an,ai⟩
  exact aT.tw j l ap de (gW de dz)
  exact aT.tw j y ai de dz
  show(ye (·.2) (T.ls.set k _)).map az.bL=_
  rw[kf]
  unfold a6
  rw[sJ]
  rfl
 have iH:=SO.cap
 have PB:∀{w:H} {F:U->H->Prop},F (l.1.part 0 i i 2) w->c9 aH (hP 22 (.slice l.1.a l.1.n l.1.c) none (some (.int .i64 (i:o))) (some (.int .i64 (i:o)))) [.one .slice] w F:=λry=>
  o3 kk (l:=0) (h:=i) (m:=i) (.inl ⟨rfl,rfl⟩) (.inr rfl) (.inr ⟨rfl,by simp⟩) (by omega) (cC _) (by omega) iH ry
 have ami:∀{w:H} {F:U->H->Prop},F (l.1.part (i+1) l.1.n l.1.c 2) w->c9 aH (hP 22 (.slice l.1.a l.1.n l.1.c) (some (.int .i64 ((i:o)+1))) none none) [.one .slice] w F:=λry=>
  o3 kk (l:=i+1) (h:=l.1.n) (m:=l.1.c) (.inr rfl) (.inl ⟨rfl,rfl⟩) (.inl ⟨rfl,rfl⟩) (by omega) iH (cC _) iH ry
 exact⟨_,rfl,⟨by omega,by omega⟩,T.bp,a8 lT 2,PB ⟨H.le.refl _,ami ⟨H.le.refl _,fin⟩⟩,ami ⟨H.le.refl _,PB ⟨H.le.refl _,fin⟩⟩⟩
end
end jH
def azW{P:dT}(w:cg)(t bT fB e:dF)(i:TypeInfo)(Y:ao)(ht:P.underlying t=some (.slice e))(cx:P.underlying bT=some (.int .i64))(hi:P.info? e=some i)(aC:i.zero=some Y)(ag:0<i.size)
  (n:N) (h0:0<n) (RJ:(n:o)<=9223372036854775807) (ast:n*i.bytes<=281474976710656):
  (ee #[t,bT] fB #[.slice none 0 0,.int .i64 n]).run P w=
   .ok (.slice (some ⟨w.heap.size,0,none⟩) n (grownCap w n 0 e)) (w.drew.alloc (.cells (wv Y.cells n++wv Y.cells (grownCap w n 0 e-n)) e)):=by
 have hw:bY.wrap (n:o)=n:=J3 _ (by omega)
 have ae:n≠0:=by omega
 have h5:¬((n:o)<0):=by omega
 have asB:¬(9223372036854775807<(n:o)):=by omega
 have asu:¬(281474976710656<Builtin.nextslicecap n 0*i.bytes):=by rw[nextslicecap_zero h0];omega
 have asv:¬(281474976710656<(n:o)*(i.bytes:o)):=by
  have:((n*i.bytes:N):o)=(n:o)*(i.bytes:o):=by simp
  omega
 have c0:¬(n*i.size=0):=by intro h;rcases TR.1 h with h|h<;>omega
 have aje:i.size≠0:=by omega
 have ay:∀w',(asIntOf (.int .i64 (n:o))).run P w'=.ok (.i64,(n:o)) w':=λ_=>rfl
 simp[ay,ee,ir ht,ir cx,sizeOf,typeInfo,zeroValue,hi,aC,asInt,hw,ae,h5,asB,asu,asv,Question.forced,run_firstCells_none,newRow,grownCap]
 exact λh=>aV h c0
def aAi{P:dT}{t bT fB e:dF}{size bytes:N}{zs:M ao}(aT:kI P t=some (e,size,bytes,zs))(cx:P.underlying bT=some (.int .i64))(c0:0<size){n:N}(h0:0<n)(RJ:(n:o)<=9223372036854775807)(ast:n*bytes<=140737488355328)
  {u:H} {K:U->H->Prop} (av:∀au u' xs,aK u u' e size au xs->au.n=n->K au u'):
  c9 P (ee #[t,bT] fB #[.slice none 0 0,.int .i64 n]) [.one .slice] u K:=by
 obtain⟨ht,i,Y,hi,aC,qN,y3,Bt,_⟩:=vE aT
 subst qN
 subst y3
 refine .one (c:=.slice) λw hw=>?_
 have fO:=grownCap_ge w n 0 e
 have cL:=grownCap_le_maxLen w n 0 e (by rw[Gq];omega)
 rw[Gq] at cL
 have O:=azW (P:=P) w t bT fB e i Y ht cx hi aC c0 n h0 RJ (by omega)
 obtain⟨z,ab⟩:∃z,z=wv Y.cells n++wv Y.cells (grownCap w n 0 e-n):=⟨_,rfl⟩
 rw[<-ab] at O
 have dY:=anl hw (.cells z e)
 have ai5:z.size=grownCap w n 0 e*i.size:=by rw[ab,ab9,size_zeroCells,size_zeroCells,Bt,<-DM];congr 1;omega
 refine⟨⟨some ⟨w.heap.size,0,none⟩,n,grownCap w n 0 e⟩,_,_,O,av _ _ (z.toList.take (n*i.size)) ⟨⟨?_,.inr ⟨w.heap.size,z,rfl,bi _ _ _,fO,cL,ai5,rfl⟩⟩,bZ _ dY.2,λg W=>?_⟩ rfl,dY.1⟩
 rw[gq,r0,ai5]
 exact BR (tG _ fO)
 have:w.heap.size=g:=by simpa[U.al] using W
 rw[<-this]
 exact dY.2
def aCh:aH.underlying 3=some (.int .i64):=by kernel_rfl
def aBu{n:N}{u:H}{K:U->H->Prop}(ae:n<=1000000)(av:∀au u',aK u u' 52 2 au []->au.n=0->K au u'):VY ⟨none,0,0⟩ n u K:=by
 apply aEN;intro nr h0;refine⟨λh=>by omega,λ_=>h0 _ ⟨⟨by simp,by simp⟩,⟨by simp only;omega,by simp only;omega⟩,λoT=>?_,λ_=>av _ _ (aK.nil (H.le.refl u) _ _) rfl⟩⟩;have e1:0<n:=by have:(0:o)<(n:o)-(((0:N):o)-((0:N):o)):=oT;omega
 refine o3 kk (s:=⟨none,0,0⟩) (l:=0) (h:=0) (m:=0) (.inl ⟨rfl,rfl⟩) (.inr rfl) (.inl ⟨rfl,rfl⟩) (cC _) (cC _) (cC _) (cC _) ?_;have aQ:(⟨none,0,0⟩:U).part 0 0 0 2=⟨none,0,0⟩:=rfl;rw[aQ];have aF:(n:o)-(((⟨none,0,0⟩:U).c:o)-((⟨none,0,0⟩:U).n:o))=(n:o):=by simp
 rw[aF];refine aAi kk aCh (by decide) e1 (by omega) (by omega) λau u' xs ab gy=>?_;obtain⟨ac,_,sk⟩:=ab.front (m:=0) (q0 _);have I:au.n<=au.c:=ab.own.cI.cap;refine o3 kk (l:=0) (h:=0) (m:=au.c) (.inl ⟨rfl,rfl⟩) (.inr rfl) (.inl ⟨rfl,rfl⟩) (cC _) (q0 _) (cC _) I ?_;rw[J0,OZ] at ac;exact av _ _ ac sk
def agx{ls:M (U×M az)}{i:N}{l:U×M az}(h:ls[i]?=some l):((ls.take (i+1)).flatMap (·.2))=(ls.take i).flatMap (·.2)++l.2:=by rw[gJ,h,Option.toList,gZ];simp
def agw(ls:M (U×M az))(i:N):((ls.take i).flatMap (·.2)).length<=(ls.flatMap (·.2)).length:=by
 conv=>rhs;rw[<-q2 i ls]
 rw[gZ,eD];omega
def aBq{u:H}{s:U}{ls:M (U×M az)}{K:U->H->Prop}(ag:bz u s 1 (ls.flatMap λl=>encS l.1))(ap:∀l∈ls,bz u l.1 2 (l.2.flatMap cO))(ae:(ls.flatMap (·.2)).length<=1000000)
  (av:∀au u',aK u u' 52 2 au ((ls.flatMap (·.2)).flatMap cO)->K au u'):VU s u K:=by
 have hlen:∀l:U×M az,(encS l.1).length=1:=λ_=>rfl
 have dM:s.n=ls.length:=gU hlen (by decide) ag
 have gf:=jo ag.cap ag.max
 have at':∀{v:H} {x:o},u.le v->0<=x->x<(s.n:o)->∃p l,s.a=some p/\ls[x.toNat]?=some l/\v.cell? (p.add (x.toNat*1))=some (.slice l.1.a l.1.n l.1.c)/\bz v l.1 2 (l.2.flatMap cO)/\l.1.n=l.2.length:=λ{v x} aB bK dw=>by
  have fh:x.toNat<ls.length:=by omega
  have J:ls[x.toNat]?=some ls[x.toNat]:=cy fh;obtain⟨p,ad,I⟩:=bz.elem hlen (by decide) (ag.mono aB) J;have h2:=(ap _ (kD fh)).mono aB;exact⟨p,_,ad,J,I 0 _ rfl,h2,gU fM (by decide) h2⟩
 apply aEI
 refine⟨λn i v=>v=u/\0<=i/\i<=s.n/\n=(((ls.take i.toNat).flatMap (·.2)).length:N),λ_ i _=>((s.n:o)-i).toNat,⟨rfl,by omega,by omega,by simp⟩,?_⟩
 rintro n i v ⟨rfl,i0,i1,rfl⟩
 refine⟨λhi=>?_,λhi=>?_⟩
 obtain⟨p,l,ad,J,bM,h2,h3⟩:=at' (H.le.refl v) i0 hi
 have dQ:=agx J
 have hle:=agw ls (i.toNat+1)
 rw[dQ,eD] at hle
 refine⟨p,ad,⟨i0,hi⟩,_,bM,⟨by omega,by omega⟩,λh=>by omega,λ_=>⟨⟨by omega,by omega⟩,⟨rfl,by omega,by omega,?_⟩,by dsimp only;omega⟩⟩
 rw[show(i+1).toNat=i.toNat+1 by omega,dQ,eD,h3]
 simp
 have ef:ls.take i.toNat=ls:=gY (by omega)
 rw[ef]
 refine aBu ae λPp u8 ayK n7=>?_
 refine⟨λqh x w=>0<=x/\x<=s.n/\aK v w 52 2 qh (((ls.take x.toNat).flatMap (·.2)).flatMap cO),λ_ x _=>((s.n:o)-x).toNat,⟨by omega,by omega,by simpa using ayK⟩,?_⟩
 rintro qh x w ⟨bK,dw,ab⟩
 refine⟨λJ=>?_,λJ=>?_⟩
 obtain⟨p,l,ad,fh,bM,h2,h3⟩:=at' ab.le bK J
 have dQ:=agx fh
 have hle:=agw ls (x.toNat+1)
 rw[dQ,eD] at hle
 have uD:qh.n=((ls.take x.toNat).flatMap (·.2)).length:=gU fM (by decide) ab.own.cI
 refine⟨p,ad,⟨bK,J⟩,_,bM,al3 kk (by decide) ab h2 XA (by omega) (by omega) λau u' bQ _=>⟨⟨by omega,by omega⟩,⟨by omega,by omega,?_⟩,by dsimp only;omega⟩⟩
 rw[show(x+1).toNat=x.toNat+1 by omega,dQ,gZ]
 exact bQ
 rw[gY (by omega)] at ab
 exact av _ _ ab
namespace jH
section
variable{aj u:H}{b:N}
def aoi(T:aS):(qq T.w).length=T.w.length:=by simp[qq]
def dU.alJ{T:aS}(h:dU T):(a6 T).length=T.w.length:=by rw[h.Cl];simp[a6]
def B5{af:N->aA bx}{T:aS}{K:o->H->Prop}(h:In aj u af b T)(aT:dU T)(av:K (a6 T).length u):aes (some ⟨b,0,none⟩) u K:=by obtain⟨_,_,_,fc⟩:=kU h.aJ;apply aD1;refine⟨λe=>(by cases e),λ_=>⟨_,rfl,_,fc,vk KK h.aJ.map ?_⟩⟩;rw[aoi,<-aT.alJ];exact av
def z7{af:N->aA bx}{T:aS}{K:U->H->Prop}(h:In aj u af b T)(aT:dU T)(av:∀s ls u',sb u u' s ls->(ls.map az.bL).Perm (a6 T)->(ls.Pairwise λa b=>a.id<=b.id)->K s u'):
  aeu (some ⟨b,0,none⟩) u K:=by
 obtain⟨_,_,c2,_⟩:=kU h.aJ
 have hw:=aT.Cl
 have gf:=aT.small
 have aB:∀r∈T.ls.flatMap (·.2),Ints u r.s r.v:=λr O=>by obtain⟨l,ap,k1⟩:=ep.1 O;obtain⟨i,hi,rfl⟩:=oG ap;exact((h.aJ.list i _ (cy hi)).2.2 r k1).1
 apply aD3
 refine⟨λe=>(by cases e),λ_=>⟨_,rfl,T.bp,c2,aBq h.aJ.ox.cI (λl ap=>?_) (by omega) λau u' ab=>?_⟩⟩
 obtain⟨i,hi,rfl⟩:=oG ap
 exact(h.aJ.list i _ (cy hi)).1.cI
 have O:eF u' au (T.ls.flatMap (·.2)):=⟨ab.own.cI,λr O=>(aB r O).mono ab.le⟩
 refine z8 O (λr O=>?_) (by omega) (λr O=>?_) λs2 ls cQ b4 ad ag=>?_
 obtain⟨l,ap,k1⟩:=ep.1 O
 exact aT.ids l ap r k1
 obtain⟨l,ap,k1⟩:=ep.1 O
 have:=(aT.vec l ap r k1).1
 have:=aT.hB
 omega
 exact av s2 ls cQ ⟨b4.own.weaken ab.le,λr O=>(b4.inner r O).weaken ab.le,b4.eG,b4.apart⟩ ad ag
structure tT(aj u:H)(af:N->aA bx)(b:N)(T:aS)(id:o)(v:M o)(u':H)(aY:N->aA bx)(bB:aS):Prop where
 is:In aj u' aY b bB
 eX:hU u af u' aY
 ok:dU bB
 rows:(a6 bB).Perm ((id,v)::(a6 T).filter λx=>x.1 !=id)
 aq:bB.aq=T.aq
 cs:bB.cs=T.cs
def D8{af:N->aA bx}{T:aS}{id:o}{t:U}{q:M o}{K:aD->o->H->Prop}(h:In aj u af b T)(aT:dU T)(ht:Ints u t q)(pn:∀aU c4,aj.le aU->hU u af aU c4->Ints aU t q)
  (dq:fR id q T.aq (decide (id∈(a6 T).map (·.1))) (a6 T).length≠0->K ax (fR id q T.aq (decide (id∈(a6 T).map (·.1))) (a6 T).length) u)
  (bH:fR id q T.aq (decide (id∈(a6 T).map (·.1))) (a6 T).length=0->∀u' aY bB,tT aj u af b T id q u' aY bB->K (decide (id∉(a6 T).map (·.1))) 0 u'):aet (some ⟨b,0,none⟩) id t u K:=by
 obtain⟨bM,_,_,fc⟩:=kU h.aJ
 have mj:(id∈T.w.map (·.1))↔id∈(a6 T).map (·.1):=by rw[aaQ];exact aT.ad4
 have EO:decide (id∈T.w.map (·.1))=decide (id∈(a6 T).map (·.1)):=DX.2 mj
 have hlen:=aT.alJ
 apply aD2
 refine⟨λe=>(by cases e),λ_=>⟨_,rfl,_,fc,?_⟩⟩
 refine tM KK h.aJ.map (ct:=.int .i64) (((td T.w id).getD 0:N):o) (by rw[L1];cases td T.w id<;>rfl) ?_
 have iU:(fD (qq T.w) id).isSome=decide (id∈(a6 T).map (·.1)):=by
  rw[<-EO,L1,Uc];cases e:td T.w id with
  |none=>rw[o0 (RC.1 e)];rfl|some k=>rw[l4 (bk.2 ⟨_,RB e,rfl⟩)];rfl
 rw[iU]
 refine⟨_,rfl,_,rfl,_,bM,_,fc,vk KK h.aJ.map ⟨H.le.refl u,Kx ht ?_⟩⟩
 rw[aoi,<-hlen]
 refine⟨λan=>dq an,λhe=>?_⟩
 have bH:=bH he
 obtain⟨d1,d2,xL,d4⟩:1<=id/\id<=1000000000/\hv q T.aq=0/\(decide (id∈(a6 T).map (·.1))=ax->((a6 T).length:o)<512):=by unfold fR at he;split at he;cases he;rename_i h1;split at he;rename_i h2;exact aV he h2;rename_i h2;split at he;cases he;rename_i h3;refine⟨by omega,by omega,by simpa using h2,λe=>?_⟩;by_cases a7:((a6 T).length:o)<512;exact a7;exact aV ⟨e,by omega⟩ h3
 obtain⟨aQ,aF,cW,fJ⟩:=oL xL
 have lay:∀(aU:H) (c4:N->aA bx) (bb:aS),In aj aU c4 b bb->hU u af aU c4->dU bb->id∉bb.w.map (·.1)->bb.w.length<512->a6 bb=(a6 T).filter (λx=>x.1 !=id)->bb.aq=T.aq->bb.cs=T.cs->
   o8 t aU λdx hb=>H.le aU hb/\KZ (some ⟨b,0,none⟩) id dx hb λwO=>K (!decide (decide (id∈(a6 T).map (·.1))=ak)) 0 wO:=by
  intro aU c4 bb h1 nJ te gn gC vZ pY h9
  have rB:=pn aU c4 h1.le nJ
  refine sN rB (by have:=rB.len;omega) λdx hb fY _=>⟨fY.le,?_⟩
  have xj:=h1.mono bS fY.le
  obtain⟨im,h2,xK,kd⟩:=xj.tag bS (dx.wL .vec) λc I=>by have dd:=U.aCq I;have ac:=fY.fresh c dd;exact⟨h1.fresh ac,h1.le.none ac,dL fY dd⟩
  have t2:hU u af hb im:=by
   refine(nJ.trans (hU.mono fY.le)).tag λc=>?_;by_cases e:dx.al=some c;right;have ac:=fY.fresh c e;cases gA:u c with
   |none=>exact .inr rfl|some z=>refine .inl λmc=>?_;rw[nJ.bS c z gA mc] at ac;cases ac
   exact .inl (kd c (U.anx e))
  refine amM h2 te gn ⟨d1,d2⟩ fY.ints (λg W=>xK g _ (U.aCp W)) ⟨by rw[pY];exact cW,fJ⟩ gC λwO pg Ez O=>?_
  have aa:(!decide (decide (id∈(a6 T).map (·.1))=ak))=decide (id∉(a6 T).map (·.1)):=by by_cases cb:id∈(a6 T).map (·.1)<;>simp[cb]
  rw[aa]
  exact bH wO pg Ez ⟨O.is,t2.trans O.eX,O.ok,by rw[<-vZ];exact O.rows,O.aq.trans pY,O.cs.trans h9⟩
 refine wH h aT (λeg aU hj=>?_) λcb aU c4 bb O=>?_
 refine lay aU af T (h.mono bS hj) (hU.mono hj) aT eg ?_ ?_ rfl rfl
 have:=d4 (o0 λhm=>eg (mj.2 hm))
 omega
 refine(r6.2 λx J=>?_).symm
 have:x.1≠id:=λe=>eg (mj.2 (bk.2 ⟨x,J,e⟩))
 simpa using this
 refine lay aU c4 bb O.is O.eX O.ok ?_ ?_ O.rows O.aq O.cs
 rw[O.w]
 intro hm
 obtain⟨p,ad,e⟩:=bk.1 hm
 have:=(iX.1 ad).2
 simp[e] at this
 rw[O.w]
 have ag:=aT.small
 obtain⟨p,ad,e⟩:=bk.1 cb
 have:(T.w.filter λp=>p.1 !=id).length<T.w.length:=Kg.2 ⟨p,ad,by simp[e]⟩
 omega
def aCj:kI aH 211=some (167,1,8,[.pointer none]):=by kernel_rfl
def aqb(n:N):kH aH 211 1 #[(0,.pointer (some ⟨n,0,none⟩))]=some (167,[.pointer (some ⟨n,0,none⟩)]):=by kernel_rfl
def aps{u':H}{aI ss bd:U}{e0:M bP}{seen:M o}{rest:M cn}(h:jW u u' aI ss bd e0 seen rest)(hu:aj.le u):jW aj u' aI ss bd e0 seen rest:=
 ⟨h.h.weaken hu,h.s.weaken hu,h.r.weaken hu,λr O=>⟨(h.g r O).l.weaken hu,(h.g r O).h.weaken hu,(h.g r O).i.weaken hu⟩,h.eG⟩
def ayY:∀(cs:M (U×M o)) (ls:M (U×M az)) {i:N} {c l},cs[i]?=some c->ls[i]?=some l->(xX cs ls)[i]?=some (JG c.2 l.2):=by
 intro cs;induction cs with
 |nil=>intro ls i c l h;simp at h
 |cons x cs aM=>
  intro ls i c l h1 h2;cases ls with
  |nil=>simp at h2|cons y ls=>
   cases i with
   |zero=>simp only[BN,kC] at h1 h2;subst h1;subst h2;rfl|succ i=>simp only[x4] at h1 h2;exact aM ls h1 h2
def ayZ:∀(cs:M (U×M o)) (ls:M (U×M az)),cs.length=ls.length->(xX cs ls).length=ls.length/\bJ.hF (xX cs ls)=ls.length:=by
 intro cs;induction cs with
 |nil=>intro ls h;cases ls with
  |nil=>exact⟨rfl,rfl⟩|cons=>simp at h
 |cons x cs aM=>
  intro ls h;cases ls with
  |nil=>simp at h|cons y ls=>
   obtain⟨h1,h2⟩:=aM ls (by simpa using h);simp only[xX,hX,bJ.hF,h1,h2];refine⟨trivial,?_⟩;have:(JG x.2 y.2).size=1:=by rw[bJ.size_eq];rfl
   omega
def Hc{af:N->aA bx}{T:aS}{t:U}{q:M o}{k bud:o}{K:U->U->U->o->H->Prop}(h:In aj u af b T)(aT:dU T)(ht:Ints u t q)
  (dq:hZ q T.aq k bud≠0->K ⟨none,0,0⟩ ⟨none,0,0⟩ ⟨none,0,0⟩ (hZ q T.aq k bud) u)
  (bH:hZ q T.aq k bud=0->∀aI ss bd rest u',jW u u' aI ss bd (ix T q k bud) (gg T q k bud) rest->rest.map cn.core=jN T q k bud->K aI ss bd 0 u'):aev (some ⟨b,0,none⟩) t k bud u K:=by
 obtain⟨bM,c1,c2,fc⟩:=kU h.aJ
 apply aD4
 refine⟨λe=>(by cases e),λ_=>⟨_,rfl,_,bM,Kv ht ⟨λan=>dq an,λhe=>⟨_,rfl,T.bp,c2,?_⟩⟩⟩⟩
 obtain⟨aB,cq,cH,fA,ga⟩:hv q T.aq=0/\1<=k/\k<=64/\0<=bud/\bud<=1000000:=by unfold hZ at he;split at he;rename_i h1;exact aV he h1;rename_i h1;split at he;cases he;exact⟨by simpa using h1,by omega,by omega,by omega,by omega⟩
 obtain⟨_,_,qM,zk⟩:=oL aB
 have Sx:=h.aJ.abk
 have IL:=aT.many
 have aGX:=h.aJ.yp.len
 have hC:=aT.Um
 have atU:(T.ls.flatMap (·.2)).length<=512:=by rw[<-aT.Cl];exact aT.small
 refine⟨λgi x w=>0<=x/\x<=T.bp.n/\∃(ms:M N) (KI:H),ms.length=x.toNat/\aK u w 167 1 gi (ms.map λn=>.pointer (some ⟨n,0,none⟩))/\u.le KI/\KI.le w/\(∀g,gi.al=some g->KI g=none)/\
   ∀(i:N) m p,ms[i]?=some m->(xX T.cs T.ls)[i]?=some p->nu KI m p,λ_ x _=>((T.bp.n:o)-x).toNat,
  ⟨by omega,by omega,[],u,rfl,aK.nil (H.le.refl u) _ _,H.le.refl u,H.le.refl u,λg W=>by simp[U.al] at W,λi m p hm=>by simp at hm⟩,?_⟩
 rintro gi x w ⟨bK,dw,ms,KI,FF,ab,anM,eI,atP,ai6⟩
 have ot:gi.n=ms.length:=by have:=ab.own.len;simpa using this.symm
 refine⟨λJ=>?_,λJ=>?_⟩
 have fh:x.toNat<T.ls.length:=by omega
 have ap:T.ls[x.toNat]?=some T.ls[x.toNat]:=cy fh
 have oP:T.cs[x.toNat]?=some T.cs[x.toNat]:=cy (by omega)
 generalize T.ls[x.toNat]=l at ap
 generalize T.cs[x.toNat]=c at oP
 obtain⟨c6,yX,Mj⟩:=h.aJ.list _ l ap
 obtain⟨pX,_⟩:=h.aJ.uc _ c oP
 obtain⟨cd,vD⟩:=aT.HV c (dB oP)
 obtain⟨p,ad,I⟩:=bz.elem CP (by decide) (h.aJ.ox.cI.mono ab.le) ap
 obtain⟨rU,jx,dd⟩:=bz.elem vF (by decide) (h.aJ.yJ.mono ab.le) oP
 have k1:hp l.2 c.2.length:=by rw[cd];exact hC.sub (D9 (f:=λl:U×M az=>l.2) (dB ap))
 have k3:eF u l.1 l.2:=⟨c6.cI,λr O=>(Mj r O).1⟩
 refine⟨p,ad,⟨bK,J⟩,l.1,I 0 _ rfl,_,rfl,T.lb,ab.le.cell c1,rU,jx,⟨bK,by omega⟩,c.1,dd 0 _ rfl,?_⟩
 refine amZ (pX.mono ab.le) vD (k3.mono ab.le) k1 λau lp mB nG n25 IQ=>?_
 obtain⟨DF,ai4⟩:∃DF,DF=(bj #[.int .i64 3,.slice au.a au.n au.c,.slice none 0 0,.int .u64 (cZ (o1 c.2 l.2 l.2.length)),.int .u64 (c5 (o1 c.2 l.2 l.2.length)),.slice none 0 0,.slice l.1.a l.1.n l.1.c,.slice none 0 0] 213 (0,0)):=⟨_,rfl⟩
 show c9 aH _ _ (mB.ins n25 (bj #[.int .i64 3,.slice au.a au.n au.c,.slice none 0 0,.int .u64 (cZ (o1 c.2 l.2 l.2.length)),.int .u64 (c5 (o1 c.2 l.2 l.2.length)),.slice none 0 0,.slice l.1.a l.1.n l.1.c,.slice none 0 0] 213 (0,0))) _
 rw[<-ai4]
 have Jt:=bZ (u:=mB) (b:=n25) DF IQ
 have ajE:w.le (mB.ins n25 DF):=nG.le.trans Jt
 have aiq:∀g,gi.al=some g->w g≠none:=λg W=>dL ab W
 have ayg:w n25=none:=nG.le.none IQ
 have n258:gi.al≠some n25:=λe=>aiq n25 e ayg
 have az0:∀g,au.al=some g->gi.al≠some g:=λg W e=>aiq g e (nG.fresh g W)
 have C3:KI.le (nT (mB.ins n25 DF) gi):=λg z W=>by
  have:gi.al≠some g:=λe=>by rw[atP g e] at W;cases W
  rw[nU this];exact ajE _ _ (eI _ _ W)
 have new:nu (nT (mB.ins n25 DF) gi) n25 (JG c.2 l.2):=by
  have axR:u.le (nT (mB.ins n25 DF) gi):=anM.trans C3;refine .mk au ⟨none,0,0⟩ ⟨none,0,0⟩ l.1 ⟨none,0,0⟩ l.2 [] (by rw[nU n258,bi,ai4];rfl) rfl (bz.else nG.ints λg z W rA=>by rw[nU (az0 g W)];exact Jt _ _ rA) ?_ (k3.mono axR) rfl ?_ rfl λi m k hm=>by simp at hm
  exact⟨rfl,cC _,by decide,.inl rfl⟩;exact⟨rfl,cC _,by decide,.inl rfl⟩
 refine nV aCj (aqb n25) (by decide) rfl (by simp[cK]) (ab.mono ajE) (by show gi.n<_;omega) (by show(gi.n+1)*_<=_;omega) λaIc aIo avG aHn eL eA _=>⟨⟨by omega,by omega⟩,⟨by omega,by omega,ms++ [n25],nT (mB.ins n25 DF) gi,by simp;omega,by rw[er];exact avG,anM.trans C3,λg z W=>eL g z (Kr W).1 (Kr W).2,λg W=>?_,λi m p hm eJ=>?_⟩,by dsimp only;omega⟩
 rcases eA g W with h1|h1
 show(if gi.al=some g then none else _)=none
 rw[a1 h1]
 by_cases e:gi.al=some g
 show(if gi.al=some g then none else _)=none
 rw[a1 e]
 rw[nU e];exact h1
 rw[TH] at hm
 split at hm
 exact(ai6 i m p hm eJ).mono C3
 rename_i fO
 have hi:i=ms.length:=by have:=(iB.1 hm).1;simp at this;omega
 subst hi
 simp at hm
 subst hm
 rw[FF,ayY T.cs T.ls oP ap] at eJ
 rw[<-cX eJ]
 exact new
 obtain⟨ay8,aH4⟩:=ayZ T.cs T.ls IL.1
 have ef:=ak3 T.cs T.ls IL.1
 refine ac8 (ms:=ms) (P:=xX T.cs T.ls) ab.own.cI (by rw[ay8];omega) (λi m p h1 h2=>(ai6 i m p h1 h2).mono eI) (ak4 T.cs T.ls (λc I=>by rw[qM];exact aT.HV c I) λl ap=>?_) (ht.mono ab.le) zk cq cH fA ga (by omega) (by rw[ef,dj];omega) (λy ai=>?_) λaI ss bd R u' ay b4=>?_
 rw[qM]
 exact hC.sub (D9 (f:=λl:U×M az=>l.2) ap)
 rw[ef] at ai
 obtain⟨r,O,rfl⟩:=bk.1 ai
 have:=hC.v r O
 exact⟨by rw[qM];exact this.1,this.2⟩
 exact bH he aI ss bd R u' (aps ay ab.le) b4
end
end jH
section
variable{u aj:H}{s:U}{cs:M (U×M o)}{i d k:N}{v:M o}{n x st e3:o}
def U0:kI aH 133=some (30,1,24,[.slice none 0 0]):=by kernel_rfl
structure gl(aj u:H)(s:U)(cs:M (U×M o)):Prop where
 own:aK aj u 30 1 s (cs.flatMap λc=>encS c.1)
 inner:∀c∈cs,aK aj u 3 1 c.1 (c.2.flatMap encI)
 eG:∀c∈cs,dO s c.1
 apart:cs.Pairwise λa b=>dO a.1 b.1
def gl.yp(h:gl aj u s cs):mJ u s cs:=⟨h.own.own.cI,λc I=>(h.inner c I).ints⟩
def gl.mono{u':H}(h:gl aj u s cs)(k:u.le u'):gl aj u' s cs:=⟨h.own.mono k,λc I=>(h.inner c I).mono k,h.eG,h.apart⟩
def gl.weaken{aU:H}(h:gl aU u s cs)(k:aj.le aU):gl aj u s cs:=⟨h.own.weaken k,λc I=>(h.inner c I).weaken k,h.eG,h.apart⟩
def gl.len(h:gl aj u s cs):s.n=cs.length:=h.yp.len
def gl.else{u':H}{t:U}(h:gl aj u s cs)(he:gS u u' t)(ht:∀g,t.al=some g->aj g=none)(h1:dO t s)(h2:∀c∈cs,dO t c.1):gl aj u' s cs:=
 ⟨aK.else h.own he ht h1,λc I=>aK.else (h.inner c I) he ht (h2 c I),h.eG,h.apart⟩
def gl.none(h:aK aj u 30 1 s ((gu k ((⟨none,0,0⟩:U),([]:M o))).flatMap λc=>encS c.1)):gl aj u s (gu k (⟨none,0,0⟩,[])):=by refine⟨h,λc I=>?_,λc I=>?_,?_⟩;rw[(vd.1 I).2];exact aK.nil h.le _ _;rw[(vd.1 I).2];intro g _ W;simp[U.al] at W;rw[acw];exact .inr λg W=>by simp[U.al] at W
def ak1{α:Type}{R:α->α->Prop}{l:M α}(h:l.Pairwise R)(ag:∀a b,R a b->R b a){y:α}(ai:∀j Y,j≠i->l[j]?=some Y->R Y y):(l.set i y).Pairwise R:=by rw[oF];intro a b ay aa Mq;rw[qZ] at ay aa;rw[acA,acA];split;rename_i e;split;omega;rename_i aF;exact ag _ _ (ai b _ (dG aF) (cy aa));rename_i e;split;exact ai a _ (dG e) (cy ay);exact oF.1 h a b ay aa Mq
def mem_set{α:Type}{l:M α}{y Y:α}(h:Y∈l.set i y):Y=y∨∃j,j≠i/\l[j]?=some Y:=by obtain⟨j,aN,rfl⟩:=oG h;rw[qZ] at aN;rw[acA];split;exact .inl rfl;rename_i e;exact .inr ⟨j,dG e,cy aN⟩
def RD{α:Type}{l:M α}{j:N}{y Y:α}(h:(l.set i y)[j]?=some Y):(j=i/\Y=y)∨(j≠i/\l[j]?=some Y):=by by_cases e:j=i;subst e;have ap:j<(l.set j y).length:=(iB.1 h).1;rw[qZ] at ap;rw[zT ap] at h;exact .inl ⟨rfl,(cX h).symm⟩;rw[va (dG e)] at h;exact .inr ⟨e,h⟩
def gl.ame(h:gl aj u s cs){j:N}{c:U×M o}(hi:cs[i]?=some c)(aN:j<c.2.length){p:bc}(ad:c.1.a=some p){f:H->Prop}
  (ac:∀u',gl aj u' s (cs.set i (c.1,c.2.set j x))->gS u u' c.1->f u'):H.aO u (p.add (j*1)) [.int .i64 x] f:=by
 have I:=dB hi
 have eU:i<cs.length:=(iB.1 hi).1
 have s7:cs[i]=c:=(iB.1 hi).2
 have other:∀Y k,k≠i->cs[k]?=some Y->dO c.1 Y.1:=λY k hk aC=>by have ju:=(iB.1 aC).1;have af7:=(iB.1 aC).2;rcases Nat.lt_or_gt_of_ne hk with h1|h1;have:=oF.1 h.apart k i ju eU h1;rw[af7,s7] at this;exact this.symm;have:=oF.1 h.apart i k eU ju h1;rw[af7,s7] at this;exact this
 refine aK.store (enc:=encI) od (h.inner c I) (by decide) (i:=j) aN (y:=x) (by simp[encI,cK]) ad λu' ab he _=>ac u' ⟨?_,λY aC=>?_,λY aC=>?_,?_⟩ he
 have e:(cs.set i (c.1,c.2.set j x)).flatMap (λc=>encS c.1)=cs.flatMap λc=>encS c.1:=by
   have:(cs.set i (c.1,c.2.set j x)).map (λc=>c.1)=cs.map λc=>c.1:=by rw[DO];apply sB;intro m;rw[zK];split;rename_i e;subst e;rw[a1 (by simpa using eU),jq,hi];rfl;rfl
   have aF:∀l:M (U×M o),l.flatMap (λc=>encS c.1)=(l.map λc=>c.1).flatMap encS:=λl=>by rw[BZ]
   rw[aF,this,<-aF]
 rw[e]
 exact aK.else h.own he (h.inner c I).fresh (h.eG c I).symm
 rcases mem_set aC with rfl|⟨k,hk,aC⟩
 exact ab
 exact aK.else (h.inner Y (dB aC)) he (h.inner c I).fresh (other Y k hk aC)
 rcases mem_set aC with rfl|⟨k,hk,aC⟩
 exact h.eG c I
 exact h.eG Y (dB aC)
 exact ak1 h.apart (λa b h=>h.symm) λk Y hk aC=>(other Y k hk aC).symm
def gl.put{aU:H}{t:U}(h:gl aj u s cs)(ht:aK u aU 3 1 t (v.flatMap encI))(hi:i<cs.length){p:bc}(ad:s.a=some p){f:H->Prop}
  (ac:∀u',gl aj u' s (cs.set i (t,v))->gS aU u' s->f u'):H.aO aU (p.add (i*1)) [.slice t.a t.n t.c] f:=by
 have h1:=h.mono ht.le
 have rL:aj.le u:=h.own.le
 have Xv:∀{e k:N} {x:U} {xs:M ao},aK aj u e k x xs->dO x t:=λJ=>aK.eG J (H.le.refl u) ht
 refine aK.store (enc:=λc:U×M o=>encS c.1) vF h1.own (by decide) (i:=i) hi (y:=(t,v)) (by simp[encS,cK]) ad λu' ab he _=>ac u' ⟨ab,λY aC=>?_,λY aC=>?_,?_⟩ he
 rcases mem_set aC with rfl|⟨k,hk,aC⟩
 exact aK.else (ht.weaken rL) he h.own.fresh (Xv h.own)
 exact aK.else (h1.inner Y (dB aC)) he h.own.fresh (h.eG Y (dB aC))
 rcases mem_set aC with rfl|⟨k,hk,aC⟩
 exact Xv h.own
 exact h.eG Y (dB aC)
 exact ak1 h.apart (λa b h=>h.symm) λk Y hk aC=>Xv (h.inner Y (dB aC))
def JB(cs:M (M o))(v:M o):N:=(mn cs v cs.length).1
def l0(cs vs:M (M o))(i:N):M (M o):=vs.filter λv=>decide (JB cs v=i)
def qm(m:M (M o))(j:N):o:=(m.map λv=>v.getD j 0).sum
def zv(m:M (M o))(d:N):M o:=(lz d).map λj=>qm m j/(m.length:o)
def B1(d:N)(vs cs:M (M o)):M (M o):=(lz cs.length).map λi=>if l0 cs vs i=[] then cs.getD i [] else zv (l0 cs vs i) d
def acK(d:N)(vs cs:M (M o)):(B1 d vs cs).length=cs.length:=by simp[B1]
def azN{vs cs:M (M o)}(h:i<cs.length):(B1 d vs cs)[i]?=some (if l0 cs vs i=[] then cs.getD i [] else zv (l0 cs vs i) d):=by unfold B1;rw[jq,O5 h];rfl
def akC{cs vs:M (M o)}{x:N}(h:vs[x]?=some v)(i:N):l0 cs (vs.take (x+1)) i=l0 cs (vs.take x) i++(if JB cs v=i then[v] else[]):=by unfold l0;rw[gJ,h,Option.toList,zS];by_cases e:JB cs v=i<;>simp[e]
def aB8(a b:M (M o))(j:N):qm (a++b) j=qm a j+qm b j:=by unfold qm;rw[er,List.sum_append]
def aB9(v:M o)(j:N):qm [v] j=v.getD j 0:=by simp[qm]
def ano(j:N):qm [] j=0:=rfl
def afL(h:c8 v)(j:N):-2147483647<=v.getD j 0/\v.getD j 0<=2147483647:=by by_cases aN:j<v.length;exact h.2 j aN;rw[dm,iO (by omega)];decide
def adB{m:M (M o)}(h:∀v∈m,c8 v)(j:N):-2147483647*(m.length:o)<=qm m j/\qm m j<=2147483647*(m.length:o):=by
 induction m with
 |nil=>simp[qm]|cons v m aM=>
  have h1:=afL (h v (gr ..)) j;have h2:=aM λw hw=>h w (gh _ hw);have e:qm (v::m) j=v.getD j 0+qm m j:=by simp[qm]
  rw[e,hX];omega
def axY{m:M (M o)}(h:∀v∈m,c8 v)(hm:m≠[])(ar:d<=64):c8 (zv m d)/\(zv m d).length=d:=by
 have ap:(zv m d).length=d:=by simp[zv]
 refine⟨⟨by omega,λi hi=>?_⟩,ap⟩;have ad:(0:o)<(m.length:o):=by have:=vc.2 hm;omega
 have e:(zv m d).getD i 0=qm m i/(m.length:o):=by unfold zv;rw[dm,jq,O5 (by omega)];rfl
 rw[e];obtain⟨h1,h2⟩:=adB h i;exact⟨Int.le_ediv_of_mul_le ad h1,Int.ediv_le_of_le_mul ad h2⟩
def abt{cs vs:M (M o)}(h:v∈l0 cs vs i):v∈vs:=(iX.1 h).1
def akB(cs vs:M (M o))(i:N):(l0 cs vs i).length<=vs.length:=yf _ _
def alK{vs cs:M (M o)}(aB:∀v∈vs,c8 v)(ar:d<=64)(I:∀c∈cs,c.length=d/\c8 c):∀c∈B1 d vs cs,c.length=d/\c8 c:=by
 intro c cL;obtain⟨i,hi,rfl⟩:=bk.1 cL;have eU:i<cs.length:=JY.1 hi;split;have:cs.getD i []∈cs:=by rw[dm,cy eU];exact kD eU
 exact I _ this;rename_i an;obtain⟨h1,h2⟩:=axY (d:=d) (λv gE=>aB v (abt gE)) an ar;exact⟨h2,h1⟩
def aqY{a b:o}(aa:0<b):(k8 a b<0->ff a b-1=a/b)/\(¬k8 a b<0->ff a b=a/b):=by
 have h1:=Int.mul_tdiv_add_tmod a b;have h2:=Int.mul_ediv_add_emod a b;have h3:=O9 a (show b≠0 by omega);have a7:=Pa a aa;have bO:(k8 a b).natAbs<b.natAbs:=by rw[Int.natAbs_tmod];exact GV _ (by omega)
 have key:∀q r BI de:o,b*q+r=b*BI+de->0<=r->r<b->0<=de->de<b->q=BI:=by
  intro q r BI de he pG kj aH5 aH6;have aQ:b*(q-BI)=de-r:=by rw[Int.mul_sub];omega
  by_cases aL:q=BI;exact aL;rcases Int.lt_or_gt_of_ne aL with h|h;have:b*(q-BI)<=b*(-1):=BV (by omega) (by omega);omega;have:b*1<=b*(q-BI):=BV (by omega) (by omega);omega
 constructor;intro ae;refine key _ (k8 a b+b) _ (a%b) ?_ (by omega) (by omega) h3 a7;rw[Int.mul_sub];omega;intro ae;exact key _ (k8 a b) _ (a%b) (by omega) (by omega) (by omega) h3 a7
def aBd{a b:o}{K:o->H->Prop}(aa:0<b)(h1:-10000000000000<=a)(h2:a<=10000000000000)(av:K (a/b) u):VI a b u K:=by obtain⟨d1,d2⟩:=aqY (a:=a) aa;have ND:-10000000000000<=a/b:=Int.le_ediv_of_mul_le aa (by have:-10000000000000*b<=-10000000000000*1:=Int.mul_le_mul_of_nonpos_left (by omega) (by omega);omega);have ZM:a/b<=10000000000000:=Int.ediv_le_of_le_mul aa (by have:10000000000000*1<=10000000000000*b:=BV (by omega) (by omega);omega);apply aEl;refine⟨by omega,?_,by omega,λae=>?_,λae=>?_⟩;by_cases ae:k8 a b<0;have:=d1 ae;exact⟨by omega,by omega⟩;have:=d2 ae;exact⟨by omega,by omega⟩;rw[d1 ae];exact⟨⟨by omega,by omega⟩,av⟩;rw[d2 ae];exact av
def acZ(h0:0<=n)(ae:n<=1000000){K:U->H->Prop}(av:∀s u',aK u u' 3 1 s ((gu n.toNat (0:o)).flatMap encI)->(s.n:o)=n->K s u'):
  c9 aH (rX 30 (.int .i64 n) (.int .i64 n)) [.one .slice] u K:=by
 refine Pt o4 h0 (mw _) (by omega) (by omega) λg W=>?_
 have vU:(oC [cJ .i64 0].toArray (n.toNat*1)).toList=(gu n.toNat (0:o)).flatMap encI:=Gp (enc:=encI) od (by decide) 0 n.toNat
 have c0:(oC [cJ .i64 0].toArray (n.toNat*1)).size=n.toNat*1:=by have:=eB iC vU;rw[r0,og od] at this;simpa using this
 have ab:=aK.make (k:=1) (H.le.refl u) W (cells:=oC [cJ .i64 0].toArray (n.toNat*1)) (e:=3) (n:=n.toNat) (by omega) c0
 rw[vU] at ab
 exact av _ _ ab (by show((n.toNat:N):o)=n;omega)
def al6(h0:0<=n)(ae:n<=1000000){K:U->H->Prop}(av:∀s u',gl u u' s (gu n.toNat (⟨none,0,0⟩,[]))->(s.n:o)=n->K s u'):
  c9 aH (rX 133 (.int .i64 n) (.int .i64 n)) [.one .slice] u K:=by
 refine Pt U0 h0 (mw _) (by omega) (by omega) λg W=>?_
 have vU:(oC [ea none 0 0].toArray (n.toNat*1)).toList=(gu n.toNat ((⟨none,0,0⟩:U),([]:M o))).flatMap λc=>encS c.1:=Gp (enc:=λc:U×M o=>encS c.1) vF (by decide) (⟨none,0,0⟩,[]) n.toNat
 have c0:(oC [ea none 0 0].toArray (n.toNat*1)).size=n.toNat*1:=by have:=eB iC vU;rw[r0,og vF] at this;simpa using this
 have ab:=aK.make (k:=1) (H.le.refl u) W (cells:=oC [ea none 0 0].toArray (n.toNat*1)) (e:=30) (n:=n.toNat) (by omega) c0
 rw[vU] at ab
 exact av _ _ (gl.none ab) (by show((n.toNat:N):o)=n;omega)
def arJ{a b:M o}(ap:a.length=b.length)(h:∀j,j<a.length->a.getD j 0=b.getD j 0):a=b:=by apply acB ap;intro j h1 h2;have:=h j h1;rw[dm,dm,cy h1,cy h2] at this;exact this
def XE(l:M o)(i j:N)(x:o)(hi:i<l.length):(l.set i x).getD j 0=if j=i then x else l.getD j 0:=by rw[dm,zK];by_cases e:i=j;subst e;rw[a1 rfl,a1 hi,a1 rfl];rfl;rw[aG e,aG (dG e),dm]
structure RoundIn(ub:H)(a0 Z a2 a3:N)(k d:N)(bp lb:U)(L:M (U×M o)):Prop where
 bM:ub.cell? ⟨a0,0,none⟩=some (.int .i64 k)
 c1:ub.cell? ⟨Z,0,none⟩=some (.int .i64 d)
 c2:ub.cell? ⟨a2,0,none⟩=some (.slice bp.a bp.n bp.c)
 fc:ub.cell? ⟨a3,0,none⟩=some (.slice lb.a lb.n lb.c)
 vs:mJ ub bp L
 ok:∀c∈L,c.2.length=d/\c8 c.2
 vH:L.length<=512
 aq:1<=d/\d<=64
 many:1<=k/\k<=64
def aBf{ub:H}{a0 Z a2 a3:N}{bp lb:U}{L oM:M (U×M o)}{K:H->Prop}(cx:RoundIn ub a0 Z a2 a3 k d bp lb L)(AM:gl ub u lb oM)(XT:oM.length=k)(RO:∀c∈oM,c.2.length=d/\c8 c.2)
  (av:∀u' aec,gl ub u' lb aec->aec.map (·.2)=B1 d (L.map (·.2)) (oM.map (·.2))->K u'):aeC ⟨a0,0,none⟩ ⟨Z,0,none⟩ ⟨a2,0,none⟩ ⟨a3,0,none⟩ u K:=by
 obtain⟨d1,d2⟩:=cx.aq
 obtain⟨cq,cH⟩:=cx.many
 have uv:=cx.vH
 have ci:ub.le u:=AM.own.le
 obtain⟨cs,dK⟩:∃cs,cs=oM.map (·.2):=⟨_,rfl⟩
 obtain⟨vs,k6⟩:∃vs,vs=L.map (·.2):=⟨_,rfl⟩
 have at3:cs.length=k:=by rw[dK,dj,XT]
 have aHL:vs.length=L.length:=by rw[k6,dj]
 have F5:∀v∈vs,c8 v:=λv aB=>by rw[k6] at aB;obtain⟨c,I,rfl⟩:=bk.1 aB;exact(cx.ok c I).2
 have asJ:wV oM (d:o):=⟨by omega,by omega,λc I=>⟨by have:=(RO c I).1;omega,(RO c I).2⟩⟩
 apply aEj
 refine⟨k,ci.cell cx.bM,al6 (by omega) (by omega) λs1 cQ Mo awc=>⟨k,(ci.trans Mo.own.le).cell cx.bM,acZ (by omega) (by omega) λq5 gj sf awf=>⟨k,((ci.trans Mo.own.le).trans sf.le).cell cx.bM,?_⟩⟩⟩
 have ahh:=Mo.mono sf.le
 have arM:∀{e k:N} {x:U} {xs:M ao},aK u cQ e k x xs->dO x q5:=λJ=>aK.eG J (H.le.refl cQ) sf
 refine⟨λx w=>0<=x/\x<=k/\∃S,gl u w s1 S/\S.length=k/\(∀(a:N) c,S[a]?=some c->((a:o)<x->c.2=gu d 0))/\aK u w 3 1 q5 ((gu k (0:o)).flatMap encI)/\dO s1 q5/\∀c∈S,dO c.1 q5,λx _=>((k:o)-x).toNat,
  ⟨by omega,by omega,_,ahh,by simp,λa c _ h=>by omega,by simpa using sf.weaken Mo.own.le,arM Mo.own,λc I g W=>by rw[(vd.1 I).2] at W;simp[U.al] at W⟩,?_⟩
 rintro x w ⟨bK,dw,S,bg,uj,C5,iw,Fc,Iz⟩
 refine⟨λJ=>⟨d,(ci.trans bg.own.le).cell cx.c1,?_⟩,λJ=>?_⟩
 refine acZ (by omega) (by omega) λG4 aCI ab aiM=>?_
 have fh:x.toNat<S.length:=by omega
 obtain⟨p,ad,_⟩:=bg.yp.at bK (by rw[bg.len];omega)
 refine⟨p,ad,⟨bK,by omega⟩,?_⟩
 rw[show((d:N):o).toNat=d from rfl] at ab
 refine gl.put bg ab fh ad λu' C4 he=>⟨⟨by omega,by omega⟩,⟨by omega,by omega,_,C4,by rw[qZ];exact uj,λa c kJ R5=>?_,?_,Fc,λc I=>?_⟩,by dsimp only;omega⟩
 rcases RD kJ with⟨_,rfl⟩|⟨e,kJ⟩
 rfl
 exact C5 a c kJ (by omega)
 exact aK.else (iw.mono ab.le) he bg.own.fresh Fc
 rcases mem_set I with rfl|⟨j,_,aN⟩
 exact(aK.eG iw (H.le.refl w) ab).symm
 exact Iz c (dB aN)
 have Jf:x.toNat=k:=by omega
 have ahi:∀(a:N) c,S[a]?=some c->c.2=gu d 0:=λa c kJ=>C5 a c kJ (by have:=(iB.1 kJ).1;omega)
 clear C5 bK dw J Jf x ahh sf awc awf
 refine⟨bp,(ci.trans bg.own.le).cell cx.c2,?_⟩
 have aHD:=cx.vs.len
 refine⟨λx w=>0<=x/\x<=L.length/\∃(S:M (U×M o)) (cu:M o),gl u w s1 S/\S.length=k/\(∀(a:N) c,S[a]?=some c->c.2.length=d/\∀j,j<d->c.2.getD j 0=qm (l0 cs (vs.take x.toNat) a) j)/\aK u w 3 1 q5 (cu.flatMap encI)/\cu.length=k/\(∀a,a<k->cu.getD a 0=((l0 cs (vs.take x.toNat) a).length:N))/\dO s1 q5/\∀c∈S,dO c.1 q5,
  λx _=>((L.length:o)-x).toNat,⟨by omega,by omega,S,_,bg,uj,λa c kJ=>?_,iw,by simp,λa ay=>?_,Fc,Iz⟩,?_⟩
 rw[ahi a c kJ]
 refine⟨by simp,λj aN=>?_⟩
 have:l0 cs (vs.take (0:o).toNat) a=[]:=rfl
 rw[this,ano,dm,Ka,a1 aN]
 rfl
 have:l0 cs (vs.take (0:o).toNat) a=[]:=rfl
 rw[this,dm,Ka,a1 ay]
 rfl
 clear bg iw Fc Iz uj ahi S w
 rintro x w ⟨bK,dw,S,cu,bg,uj,C5,iw,ate,RV,Fc,Iz⟩
 have Dq:ub.le w:=ci.trans bg.own.le
 have aGT:q5.n=cu.length:=iw.ints.len
 refine⟨λJ=>?_,λJ=>?_⟩
 obtain⟨p,ad,v,aB,ajA,vD,ajz⟩:=(cx.vs.mono Dq).at (x:=x) bK J
 obtain⟨aIy,aof⟩:=cx.ok v ajA
 have ajD:vs[x.toNat]?=some v.2:=by rw[k6,jq,aB];rfl
 refine⟨p,ad,⟨bK,J⟩,v.1,vD,lb,Dq.cell cx.fc,?_⟩
 refine adi (AM.yp.mono bg.own.le) asJ ajz aof (by omega) ?_
 have Nj:(mn (oM.map (·.2)) v.2 oM.length).1=JB cs v.2:=by unfold JB;rw[dK,dj]
 rw[Nj]
 obtain⟨at',uo⟩:∃at',at'=JB cs v.2:=⟨_,rfl⟩
 have atM:at'<k:=by rw[uo,<-at3];exact akK _ _ _ (by omega)
 rw[<-uo]
 obtain⟨rV,xH,Iv⟩:=iw.ints.at (x:=(at':o)) (by omega) (by omega)
 have tl:=RV at' atM
 have mT:=akB cs (vs.take x.toNat) at'
 rw[gq] at mT
 rw[zR] at Iv
 refine⟨rV,xH,⟨by omega,by omega⟩,_,by unfold aR;rw[zR];exact Iv,⟨by omega,by omega⟩,rV,xH,⟨by omega,by omega⟩,?_⟩
 unfold aR
 rw[zR]
 refine aK.store (enc:=encI) od iw (by decide) (i:=at') (by omega) (y:=cu.getD at' 0+1) (by simp[encI,cK]) xH λwQ ahd aub _=>⟨d,?_,?_⟩
 exact ahd.le|>λh=>(ci.trans h).cell cx.c1
 have atq:gl u wQ s1 S:=bg.else aub iw.fresh Fc.symm λc I=>(Iz c I).symm
 have atf:∀a,a<k->(cu.set at' (cu.getD at' 0+1)).getD a 0=((l0 cs (vs.take (x+1).toNat) a).length:N):=λa ay=>by rw[XE _ _ _ _ (by omega),show(x+1).toNat=x.toNat+1 by omega,akC ajD,eD,<-uo];by_cases e:a=at';subst e;rw[a1 rfl,a1 rfl,tl];simp;rw[aG e,aG (dG e),RV a ay];simp
 refine⟨λn w=>0<=n/\n<=d/\∃S,gl u w s1 S/\S.length=k/\(∀(a:N) c,S[a]?=some c->c.2.length=d/\∀j,j<d->c.2.getD j 0=qm (l0 cs (vs.take x.toNat) a) j+(if a=at'/\(j:o)<n then v.2.getD j 0 else 0))/\aK u w 3 1 q5 ((cu.set at' (cu.getD at' 0+1)).flatMap encI)/\∀c∈S,dO c.1 q5,λn _=>((d:o)-n).toNat,
  ⟨by omega,by omega,S,atq,uj,λa c kJ=>⟨(C5 a c kJ).1,λj aN=>by rw[aG (by omega),(C5 a c kJ).2 j aN];omega⟩,ahd,Iz⟩,?_⟩
 rintro n ew ⟨n0,b8,api,E3,ahg,Yb,vK,Sh⟩
 refine⟨λae=>?_,λae=>?_⟩
 obtain⟨gX,gD,c,I,cL,CK,pX⟩:=E3.yp.at (x:=(at':o)) (by omega) (by rw[E3.len];omega)
 rw[zR] at I
 obtain⟨cl,afO⟩:=Yb at' c I
 have pk:=pX.len
 have N6:=ajz.len
 obtain⟨dv,eJ,aay⟩:=pX.at (x:=n) n0 (by omega)
 obtain⟨mo,rH,awS⟩:=((cx.vs.ints v ajA).mono (ci.trans E3.own.le)).at (x:=n) n0 (by omega)
 have Nn:n.toNat<d:=by omega
 have y4:=afO n.toNat Nn
 rw[aG (by omega)] at y4
 have io:=adB (m:=l0 cs (vs.take x.toNat) at') (λY aC=>F5 Y (mx (abt aC))) n.toNat
 have kK:=afL aof n.toNat
 refine⟨gX,gD,⟨by omega,by rw[E3.len];omega⟩,mo,rH,⟨n0,by omega⟩,c.1,CK,dv,eJ,⟨n0,by omega⟩,_,aay,_,awS,⟨by omega,by omega⟩,dv,eJ,⟨n0,by omega⟩,?_⟩
 refine E3.ame I (j:=n.toNat) (by omega) eJ λEd atr aue=>⟨⟨by omega,by omega⟩,⟨by omega,by omega,_,atr,by rw[qZ];exact ahg,λa Y Mr=>?_,aK.else vK aue (E3.inner c cL).fresh (Sh c cL),λY aC=>?_⟩,by dsimp only;omega⟩
 rcases RD Mr with⟨rfl,rfl⟩|⟨e,Mr⟩
 refine⟨by rw[qZ];exact cl,λj aN=>?_⟩
 rw[XE _ _ _ _ (by omega)]
 by_cases e:j=n.toNat
 subst e
 rw[a1 rfl,a1 ⟨rfl,by omega⟩,y4]
 omega
 rw[aG e,afO j aN]
 by_cases aF:(j:o)<n
 rw[a1 ⟨rfl,aF⟩,a1 ⟨rfl,by omega⟩]
 rw[aG (by omega),aG (by omega)]
 obtain⟨iY,z2⟩:=Yb a Y Mr
 refine⟨iY,λj aN=>?_⟩
 rw[z2 j aN,aG (λh=>e h.1),aG (λh=>e h.1)]
 rcases mem_set aC with rfl|⟨j,_,aN⟩
 exact Sh c cL
 exact Sh Y (dB aN)
 refine⟨⟨by omega,by omega⟩,⟨by omega,by omega,api,_,E3,ahg,λa Y Mr=>?_,vK,by rw[qZ];exact ate,atf,Fc,Sh⟩,by dsimp only;omega⟩
 obtain⟨iY,z2⟩:=Yb a Y Mr
 refine⟨iY,λj aN=>?_⟩
 rw[z2 j aN,show(x+1).toNat=x.toNat+1 by omega,akC ajD,aB8,<-uo]
 by_cases e:a=at'
 subst e
 rw[a1 ⟨rfl,by omega⟩,a1 rfl,aB9]
 rw[aG (λh=>e h.1),aG (dG e),ano]
 have ef:vs.take x.toNat=vs:=gY (by omega)
 rw[ef] at C5 RV
 clear J bK dw ef x
 have asK:=AM.mono bg.own.le
 have C4:=bg.weaken ci
 have atb:=iw.weaken ci
 have arN:∀c∈oM,dO c.1 s1/\dO c.1 q5/\∀Y∈S,dO c.1 Y.1:=λc I=>by have J:=AM.inner c I;exact⟨aK.eG J (H.le.refl u) bg.own,aK.eG J (H.le.refl u) iw,λY aC=>aK.eG J (H.le.refl u) (bg.inner Y aC)⟩
 refine⟨k,Dq.cell cx.bM,?_⟩
 let val:N->N->o:=λa j=>if l0 cs vs a=[] then(cs.getD a []).getD j 0 else qm (l0 cs vs a) j/((l0 cs vs a).length:o)
 have agG:∀{a:N} {c:U×M o},oM[a]?=some c->cs.getD a []=c.2:=λ{a c} kJ=>by subst dK;rw[dm,jq,kJ];rfl
 refine⟨λi w=>0<=i/\i<=k/\∃D,gl ub w lb D/\D.map (·.1)=oM.map (·.1)/\(∀(a:N) c,D[a]?=some c->c.2.length=d/\∀j,j<d->c.2.getD j 0=if(a:o)<i then val a j else(cs.getD a []).getD j 0)/\gl ub w s1 S/\aK ub w 3 1 q5 (cu.flatMap encI),λi _=>((k:o)-i).toNat,
  ⟨by omega,by omega,oM,asK,rfl,λa c kJ=>⟨(RO c (dB kJ)).1,λj aN=>by rw[aG (by omega),agG kJ]⟩,C4,atb⟩,?_⟩
 rintro i h7 ⟨i0,i1,D,eT,RQ,Ik,atp,atd⟩
 have RP:D.length=k:=by have:=eB iC RQ;simpa[XT] using this
 have arO:∀{D:M (U×M o)},D.map (·.1)=oM.map (·.1)->∀c∈D,dO c.1 s1/\dO c.1 q5/\∀Y∈S,dO c.1 Y.1:=λ{D} RQ c I=>by
  have:c.1∈oM.map (·.1):=by rw[<-RQ];exact ie I
  obtain⟨nC,dd,e⟩:=bk.1 this;have fW:nC.1=c.1:=e;rw[<-fW];exact arN nC dd
 refine⟨λhi=>⟨d,(eT.own.le).cell cx.c1,?_⟩,λhi=>?_⟩
 .have auL:i.toNat<k:=by omega
  refine⟨λn w=>0<=n/\n<=d/\∃D,gl ub w lb D/\D.map (·.1)=oM.map (·.1)/\(∀(a:N) c,D[a]?=some c->c.2.length=d/\∀j,j<d->c.2.getD j 0=if(a:o)<i∨(a:o)=i/\(j:o)<n then val a j else(cs.getD a []).getD j 0)/\gl ub w s1 S/\aK ub w 3 1 q5 (cu.flatMap encI),λn _=>((d:o)-n).toNat,
   ⟨by omega,by omega,D,eT,RQ,λa c kJ=>⟨(Ik a c kJ).1,λj aN=>by rw[(Ik a c kJ).2 j aN];by_cases e:(a:o)<i;rw[a1 e,a1 (.inl e)];rw[aG e,aG (by omega)]⟩,atp,atd⟩,?_⟩
  rintro n nk ⟨n0,b8,E,pV,Me,Il,Ir,RU⟩;have aGQ:E.length=k:=by have:=eB iC Me;simpa[XT] using this
  refine⟨λae=>?_,λae=>⟨⟨by omega,by omega⟩,⟨by omega,by omega,E,pV,Me,λa c kJ=>⟨(Il a c kJ).1,λj aN=>by rw[(Il a c kJ).2 j aN];by_cases e:(a:o)<i;rw[a1 (.inl e),a1 (by omega)];by_cases aF:(a:o)=i;rw[a1 (.inr ⟨aF,by omega⟩),a1 (by omega)];rw[aG (by omega),aG (by omega)]⟩,Ir,RU⟩,by dsimp only;omega⟩⟩
  obtain⟨rV,xH,Iv⟩:=RU.ints.at (x:=i) i0 (by omega);have tl:=RV i.toNat auL;have mT:=akB cs vs i.toNat;rw[tl] at Iv;have next:∀{yq:H} {F:M (U×M o)},gl ub yq lb F->F.map (·.1)=oM.map (·.1)->(∀(a:N) c,F[a]?=some c->c.2.length=d/\∀j,j<d->c.2.getD j 0=if(a:o)<i∨(a:o)=i/\(j:o)<n+1 then val a j else(cs.getD a []).getD j 0)->gl ub yq s1 S->aK ub yq 3 1 q5 (cu.flatMap encI)->
    (bh (n+1))/\((0<=n+1/\n+1<=d/\∃D,gl ub yq lb D/\D.map (·.1)=oM.map (·.1)/\(∀(a:N) c,D[a]?=some c->c.2.length=d/\∀j,j<d->c.2.getD j 0=if(a:o)<i∨(a:o)=i/\(j:o)<n+1 then val a j else(cs.getD a []).getD j 0)/\gl ub yq s1 S/\aK ub yq 3 1 q5 (cu.flatMap encI))/\((d:o)-(n+1)).toNat<((d:o)-n).toNat):=λh1 h2 h3 a7 bO=>⟨⟨by omega,by omega⟩,⟨by omega,by omega,_,h1,h2,h3,a7,bO⟩,by omega⟩
  refine⟨rV,xH,⟨i0,by omega⟩,_,Iv,λoT=>?_,λA8=>?_⟩
  .obtain⟨gX,gD,Y,aC,S6,Lx,uR⟩:=Ir.yp.at (x:=i) i0 (by rw[Ir.len];omega);obtain⟨ay1,avS,c,I,cL,CK,pX⟩:=pV.yp.at (x:=i) i0 (by rw[pV.len];omega);obtain⟨KQ,aox⟩:=C5 i.toNat Y aC;obtain⟨cl,vD⟩:=Il i.toNat c I;have Nn:n.toNat<d:=by omega
   have aw1:=uR.len;have pk:=pX.len;obtain⟨pz,avY,ajW⟩:=uR.at (x:=n) n0 (by omega);obtain⟨ay2,ai7,_⟩:=pX.at (x:=n) n0 (by omega);rw[aox n.toNat Nn] at ajW;have io:=adB (m:=l0 cs vs i.toNat) (λY aC=>F5 Y (abt aC)) n.toNat;refine⟨gX,gD,⟨i0,by rw[Ir.len];omega⟩,rV,xH,⟨i0,by omega⟩,lb,pV.own.le.cell cx.fc,ay1,avS,⟨i0,by rw[pV.len];omega⟩,c.1,CK,Y.1,Lx,pz,avY,⟨n0,by omega⟩,_,ajW,_,Iv,?_⟩;refine aBd oT (by omega) (by omega) ⟨H.le.refl _,ay2,ai7,⟨n0,by omega⟩,?_⟩;obtain⟨f1,f2,f3⟩:=arO Me c cL;refine pV.ame I (j:=n.toNat) (by omega) ai7 λaIs asP ahU=>next asP ?_ (λa y Yr=>?_) (Ir.else ahU (pV.inner c cL).fresh f1 f3) (aK.else RU ahU (pV.inner c cL).fresh f2);rw[<-Me,DO];apply sB;intro m;rw[zK];split;rename_i e;subst e;rw[a1 (by rw[dj];omega),jq,I];rfl;rfl;have an:l0 cs vs i.toNat≠[]:=λh0=>by rw[h0] at oT;simp at oT
   rcases RD Yr with⟨rfl,rfl⟩|⟨e,Yr⟩;refine⟨by rw[qZ];exact cl,λj aN=>?_⟩;rw[XE _ _ _ _ (by omega)];by_cases e:j=n.toNat;subst e;rw[a1 rfl,a1 (.inr ⟨by omega,by omega⟩)];show _=if l0 cs vs i.toNat=[] then _ else _;rw[aG an];rw[aG e,vD j aN];by_cases aF:(j:o)<n;rw[a1 (.inr ⟨by omega,aF⟩),a1 (.inr ⟨by omega,by omega⟩)];rw[aG (by omega),aG (by omega)];obtain⟨ij,jF⟩:=Il a y Yr;refine⟨ij,λj aN=>?_⟩;rw[jF j aN];by_cases aF:(a:o)<i;rw[a1 (.inl aF),a1 (.inl aF)];rw[aG (by omega),aG (by omega)]
  .refine next pV Me (λa c kJ=>⟨(Il a c kJ).1,λj aN=>?_⟩) Ir RU;have A5:l0 cs vs i.toNat=[]:=kS (by omega);rw[(Il a c kJ).2 j aN];by_cases e:(a:o)<i;rw[a1 (.inl e),a1 (.inl e)];by_cases aF:(a:o)=i;have LH:a=i.toNat:=by omega
   have aB:val a j=(cs.getD a []).getD j 0:=by show(if l0 cs vs a=[] then _ else _)=_;rw[a1 (by rw[LH];exact A5)]
   by_cases cW:(j:o)<n+1;by_cases fJ:(j:o)<n;rw[a1 (.inr ⟨aF,fJ⟩),a1 (.inr ⟨aF,cW⟩)];rw[aG (by omega),a1 (.inr ⟨aF,cW⟩),aB];rw[aG (by omega),aG (by omega)];rw[aG (by omega),aG (by omega)]
 refine av h7 D eT ?_
 rw[<-dK,<-k6]
 apply sB
 intro a
 by_cases ay:a<k
 have ag2:D[a]?=some D[a]:=cy (by omega)
 obtain⟨ej,eV⟩:=Ik a _ ag2
 have agY:oM[a]?=some oM[a]:=cy (by omega)
 have hL:=(RO _ (dB agY)).1
 rw[jq,ag2,azN (by omega)]
 show some D[a].2=_
 congr 1
 have arm:cs.getD a []=oM[a].2:=agG agY
 refine arJ ?_ λj aN=>?_
 rw[ej]
 split
 rw[arm,hL]
 simp[zv]
 have aim:j<d:=by omega
 rw[eV j aim,a1 (by omega)]
 show(if l0 cs vs a=[] then _ else _)=_
 split
 rfl
 unfold zv
 rw[dm,jq,O5 aim]
 rfl
 rw[iO (by rw[dj];omega),iO (by rw[acK];omega)]
abbrev OO:jg:=Kl (Tryz.f133.body.getD Go.Code.skip)
def ay4:OO=.rangeFunc (.tmp 31) #[32,33] (zU OO) (zV OO):=by kernel_rfl
def ay6(fr:N)(i k:o)(v:H)(cY:H->Prop)(env:M (N×ao))(he:(7,hn (some ⟨fr,0,none⟩))∈env)
  (h:(sF=sF)/\(([]:M (M ao))=[])/\(∃La:H,(H.le La v)/\(∃s1:U,((H.cell? v (cw fr 0 none))=(some (ea s1.a s1.n s1.c)))/\(∃s2:U,((H.cell? La (cw fr 0 none))=(some (ea s2.a s2.n s2.c)))/\(∃nS:U,((H.cell? v (cw fr 0 none))=(some (ea nS.a nS.n nS.c)))/\(∃Kj:bc,(nS.a=(some Kj))/\((((0:o)<=k)/\(k<(nS.n:o)))/\(∃n1:o,((H.cell? v (eu Kj ((wA k)*1)))=(some (cJ .i64 n1)))/\(∃oH:U,((H.cell? v (cw fr 0 none))=(some (ea oH.a oH.n oH.c)))/\(∃alx:bc,(oH.a=(some alx))/\((((0:o)<=i)/\(i<(oH.n:o)))/\(∃aor:o,((H.cell? v (eu alx ((wA i)*1)))=(some (cJ .i64 aor)))/\(∃aly:bc,(s1.a=(some aly))/\((((0:o)<=i)/\(i<(s1.n:o)))/\(H.aO v (eu aly ((wA i)*1)) [(cJ .i64 n1)] (λ(hQ:H)=>(H.le La hQ)/\(∃ali:bc,(s2.a=(some ali))/\((((0:o)<=k)/\(k<(s2.n:o)))/\(H.aO hQ (eu ali ((wA k)*1)) [(cJ .i64 aor)] (λ(gK:H)=>(sF=sF)/\(cY gK))))))))))))))))))))):
  HI aH 49 (zU OO) (zV OO) env 32 33 (.int .i64 i) (.int .i64 k) v cY:=
 HI.of (C:={P:=aH,exp:=[],wrap:=ax,iv:=iv,part:=ak}) (oh _ _) (by kernel_rfl) (by kernel_rfl) [(32,.v (.int .i64 i)),(33,.v (.int .i64 k)),(7,.ptr ⟨fr,0,none⟩)] (by intro p ad;rcases cP.1 ad with rfl|ad;exact⟨_,rfl,.inl ⟨rfl,rfl⟩⟩;rcases cP.1 ad with rfl|ad;exact⟨_,rfl,.inr (.inl ⟨rfl,rfl⟩)⟩;rcases cP.1 ad with rfl|ad;exact⟨_,rfl,.inr (.inr ⟨show(7:N)≠32 by decide,show(7:N)≠33 by decide,he⟩)⟩;cases ad) (Eq.mp (by kernel_rfl) h)
def apD:hf aH 195=ak:=by kernel_rfl
def qk(st:o):Obj:=.cells #[.int .u64 st] 215 (0,0)
def ae0(s:N×o)(y:o×o)(au:N×o):Prop:=∃m,s.1=m+1/\y=((m:o)+1,uY (kA s.2)%((m:o)+2))/\au=(m,kA s.2)
def aqD{n0 b8 src:N}(h0:0<=n)(ae:n<=65536)(bM:aj n0=some (.cells #[.pointer (some ⟨src,0,none⟩)] 171 (0,0)))(c1:aj b8=some (.cells #[.int .i64 n] 3 (0,0))):
  IterM aH (.func (.func 195) #[] #[.pointer (some ⟨b8,0,none⟩),.pointer (some ⟨n0,0,none⟩)]) (λy:o×o=>.int .i64 y.1) (λy=>.int .i64 y.2) src (λs:N×o=>qk s.2) ae0 ((n-1).toNat,st) (λs=>s.1=0) aj:=by
 intro mE cY k0 ai v K aB av
 refine⟨_,_,_,rfl,hd apD,aEC mE ⟨b8,0,none⟩ ⟨n0,0,none⟩ v K ?_⟩
 refine⟨n,a8 ((k0 _ _ aB).1 _ _ c1) 0,⟨by omega,by omega⟩,λx w=>-1<=x/\x<=65535/\∃st,cY (x.toNat,st) w,λx _=>x.toNat,⟨by omega,by omega,st,aB⟩,?_⟩
 rintro x w ⟨bK,dw,st,hw⟩
 refine⟨λJ=>?_,λJ=>av (x.toNat,st) w (by show x.toNat=0;omega) hw⟩
 obtain⟨hle,rJ⟩:=k0 _ _ hw
 refine⟨_,a8 (hle _ _ bM) 0,amN rJ ?_⟩
 obtain⟨aQ,aF⟩:=afl (n:=x+1) (akX (kA st)) (by omega) (by omega)
 refine⟨⟨by omega,by omega⟩,aQ,.inr ?_⟩
 rw[aF]
 have hm:x.toNat=(x.toNat-1)+1:=by omega
 have:=ai (x.toNat,st) (((x.toNat-1:N):o)+1,uY (kA st)%(((x.toNat-1:N):o)+2)) (x.toNat-1,kA st) w (λHP pM=>((¬(HP=Bool.true))->K pM)/\((HP=Bool.true)->(bh (x-1))/\((-1<=x-1/\x-1<=65535/\∃st,cY ((x-1).toNat,st) pM)/\((x-1).toNat<x.toNat))))
  ⟨_,hm,rfl,rfl⟩ hw λb6 gE=>⟨λh=>aV rfl h,λ_=>⟨⟨by omega,by omega⟩,⟨by omega,by omega,kA st,by rw[show(x-1).toNat=x.toNat-1 by omega];exact gE⟩,by omega⟩⟩
 simp only at this
 rw[show((x.toNat-1:N):o)+1=x by omega,show((x.toNat-1:N):o)+2=x+1 by omega] at this
 exact this
def aBk{src:N}{ub:H}{K:U->o->H->Prop}(h:u src=some (qk st))(ci:ub.le u)(so:ub src=none)(h0:0<=n)(ae:n<=65536)
  (av:∀au u',aK ub u' 3 1 au ((u1 st n.toNat).flatMap encI)->K au 0 u'):VR (some ⟨src,0,none⟩) n u K:=by
 apply aEA
 apply adW
 refine⟨λh=>(by cases h),λ_=>⟨λh=>by omega,λ_=>⟨λh=>by omega,λ_=>⟨λh=>aV rfl h,λ_=>?_⟩⟩⟩⟩
 refine Pt o4 h0 (mw _) (by omega) (by omega) λg W=>?_
 have jM:=aK.make (k:=1) ci W (cells:=oC [cJ .i64 0].toArray (n.toNat*1)) (e:=3) (n:=n.toNat) (by omega) (by have:=eB iC (Gp (enc:=encI) od (by decide) 0 n.toNat);rw[r0] at this;rw[og od] at this;simpa[encI] using this)
 have vU:(oC [cJ .i64 0].toArray (n.toNat*1)).toList=(gu n.toNat (0:o)).flatMap encI:=Gp (enc:=encI) od (by decide) 0 n.toNat
 rw[vU] at jM
 obtain⟨j5,ajt⟩:∃j5,j5=u.ins g (.cells (oC [cJ .i64 0].toArray (n.toNat*1)) 3 (0,0)):=⟨_,rfl⟩
 rw[<-ajt] at jM ⊢
 have uI:j5 src=some (qk st):=by rw[ajt,bq _ _ (λe=>by rw[<-e,h] at W;cases W)];exact h
 have Sn:(⟨some ⟨g,0,none⟩,n.toNat,n.toNat⟩:U).al≠some src:=λe=>by
  have:g=src:=by simpa[U.al] using e
  rw[this,h] at W;cases W
 have avA:((⟨some ⟨g,0,none⟩,n.toNat,n.toNat⟩:U).n:o)=n:=by show((n.toNat:N):o)=n;omega
 obtain⟨bp,sq⟩:∃bp:U,bp=⟨some ⟨g,0,none⟩,n.toNat,n.toNat⟩:=⟨_,rfl⟩
 have zj:bp.a=some ⟨g,0,none⟩:=by rw[sq]
 rw[<-sq] at jM Sn avA ⊢
 have aHC:bp.al=some g:=by simp[U.al,zj]
 intro fr qJ
 have Zk:bp.al≠some fr:=λe=>dL jM e qJ
 have avr:fr≠src:=λe=>by rw[e,uI] at qJ;cases qJ
 refine nh (zs:=[.slice none 0 0]) rfl (by simp[cK]) ?_
 obtain⟨gj,rM⟩:∃gj,gj=j5.ins fr (.cells [.slice bp.a bp.n bp.c].toArray 30 (0,0)):=⟨_,rfl⟩
 rw[<-rM]
 have Gg:j5.le gj:=by rw[rM];exact bZ _ qJ
 have pS:gj fr=some (.cells #[.slice bp.a bp.n bp.c] 30 (0,0)):=by rw[rM];exact bi _ _ _
 have aHJ:ub fr=none:=jM.le.none qJ
 refine⟨bp,a8 pS 0,λx w=>0<=x/\x<=n/\w src=some (qk st)/\w fr=some (.cells #[.slice bp.a bp.n bp.c] 30 (0,0))/\aK ub w 3 1 bp ((pB x.toNat++gu (n.toNat-x.toNat) 0).flatMap encI),λx _=>(n-x).toNat,
  ⟨by omega,by omega,Gg _ _ uI,pS,by simpa[pB] using jM.mono Gg⟩,?_⟩
 rintro x w ⟨bK,dw,I7,XN,ab⟩
 have Dd:(pB x.toNat++gu (n.toNat-x.toNat) (0:o)).length=n.toNat:=by simp[pB];omega
 refine⟨λJ=>?_,λJ=>?_⟩
 refine⟨bp,a8 XN 0,_,zj,⟨bK,J⟩,?_⟩
 refine aK.store (enc:=encI) od ab (by decide) (i:=x.toNat) (by rw[Dd];omega) (y:=x) (by simp[encI,cK]) zj λaCI xD ahQ _=>⟨⟨by omega,by omega⟩,⟨by omega,by omega,ahQ _ _ I7 Sn,ahQ _ _ XN Zk,?_⟩,by dsimp only;omega⟩
 have kx:(pB x.toNat++gu (n.toNat-x.toNat) (0:o)).set x.toNat x=pB (x+1).toNat++gu (n.toNat-(x+1).toNat) 0:=by
  have aQ:n.toNat-x.toNat=(n.toNat-(x+1).toNat)+1:=by omega
  have aF:(pB x.toNat).length=x.toNat:=by simp[pB]
  have cW:pB (x+1).toNat=pB x.toNat++ [x]:=by rw[show(x+1).toNat=x.toNat+1 by omega];unfold pB;rw[List.range_succ,er,List.map_singleton,wz bK]
  rw[aQ,List.replicate_succ];have fJ:=amd (pB x.toNat) 0 x (gu (n.toNat-(x+1).toNat) 0);rw[aF] at fJ;rw[fJ,cW,mq];rfl
 rw[kx] at xD
 exact xD
 .have S3:x=n:=by omega
  subst S3;rw[Nat.sub_self,List.replicate_zero,lB] at ab;apply aEB;intro n0 e1 b8 gn;obtain⟨fi,aiY⟩:∃fi,fi=(bj #[hn (some ⟨src,0,none⟩)] 171 (0,0)):=⟨_,rfl⟩;obtain⟨en,aiZ⟩:∃en,en=(bj #[cJ .i64 x] 3 (0,0)):=⟨_,rfl⟩;rw[<-aiY] at gn ⊢;rw[<-aiZ];have uC:n0≠b8:=λe=>by rw[<-e,bi] at gn;cases gn
  have Zi:w b8=none:=by rw[bq _ _ (dG uC)] at gn;exact gn
  have lw:w.le ((w.ins n0 fi).ins b8 en):=(bZ _ e1).trans (bZ _ gn);obtain⟨Cf,aah⟩:∃Cf,Cf=(w.ins n0 fi).ins b8 en:=⟨_,rfl⟩;rw[<-aah] at lw ⊢;have d0:Cf n0=some fi:=by rw[aah,bq _ _ uC,bi]
  have d1:Cf b8=some en:=by rw[aah,bi]
  let Vb:H:=λc=>if c=n0 then some fi else if c=b8 then some en else none
  have i0:Vb n0=some fi:=a1 rfl;have i1:Vb b8=some en:=by show(if b8=n0 then _ else _)=_;rw[aG (dG uC),a1 rfl]
  have aj2:∀v:H,v n0=some fi->v b8=some en->Vb.le v:=λv h0 h1 c z I=>by
   by_cases eK:c=n0;subst eK;rw[i0] at I;cases I;exact h0;by_cases aQ:c=b8;subst aQ;rw[i1] at I;cases I;exact h1;have:Vb c=none:=by show(if c=n0 then _ else _)=_;rw[aG eK,aG aQ]
   rw[this] at I;cases I
  have ayc:n0≠src:=λe=>by rw[e,I7] at e1;cases e1
  have aye:b8≠src:=λe=>by rw[e,I7] at Zi;cases Zi
  have ayd:bp.al≠some n0:=λe=>dL ab e e1;have ayf:bp.al≠some b8:=λe=>dL ab e Zi;refine nw.aqI ay4 (nw.axg (fv:=.func (.func 195) #[] #[.pointer (some ⟨b8,0,none⟩),.pointer (some ⟨n0,0,none⟩)]) (t:=31) (x:=32) (x2:=33) (src:=src) (cell:=λs:N×o=>qk s.2) (Nx:=ae0) (s0:=((x-1).toNat,st)) (En:=λs=>s.1=0) (enc:=λy:o×o=>.int .i64 y.1) (xf:=λy=>.int .i64 y.2)
   (aj2 Cf d0 d1) WX (by simp) (by decide) (by decide) (by decide) (λaj rL=>aqD (st:=st) h0 ae (by rw[<-aiY];exact rL _ _ i0) (by rw[<-aiZ];exact rL _ _ i1))
   (λs v=>v src=some (qk s.2)/\v n0=some fi/\v b8=some en/\v fr=some (.cells #[.slice bp.a bp.n bp.c] 30 (0,0))/\s.1<=x.toNat-1/\∃l:M o,l.length=x.toNat/\aK ub v 3 1 bp (l.flatMap encI)/\permA s.1 s.2 l=u1 st x.toNat)
   ⟨lw _ _ I7,d0,d1,lw _ _ XN,by show(x-1).toNat<=_;omega,pB x.toNat,by simp[pB],ab.mono lw,by show permA (x-1).toNat st _=_;unfold u1;rw[show(x-1).toNat=x.toNat-1 by omega]⟩ (λs v aB=>aj2 v aB.2.1 aB.2.2.1) (λs v aB=>aB.1) ?_ ?_)
  .rintro⟨i,wK⟩ y au v ⟨m,hm,rfl,rfl⟩ ⟨Z,a2,a3,a4,a5,l,ap,xG,ad⟩;simp only at hm Z a5 ad;subst hm;obtain⟨dN,AZ⟩:∃dN,dN=uY (kA wK)%((m:o)+2):=⟨_,rfl⟩;have h3:=O9 (uY (kA wK)) (show(m:o)+2≠0 by omega);have a7:=Pa (uY (kA wK)) (show 0<(m:o)+2 by omega);show HI _ _ _ _ _ _ _ (.int .i64 ((m:o)+1)) (.int .i64 (uY (kA wK)%((m:o)+2))) _ _;rw[<-AZ] at h3 a7 ⊢;refine ay6 fr _ _ _ _ _ (by simp) ⟨rfl,rfl,?_⟩;have adP:(v.ins src (qk (kA wK))) fr=some (.cells #[.slice bp.a bp.n bp.c] 30 (0,0)):=by rw[bq _ _ avr];exact a4
   have Di:aK ub (v.ins src (qk (kA wK))) 3 1 bp (l.flatMap encI):=⟨xG.own.le λc z I hu=>by rw[bq _ _ (λe=>Sn (by rw[I,e]))];exact hu,λc z I=>by rw[bq _ _ (λe=>by rw[e,so] at I;cases I)];exact xG.le c z I,xG.fresh⟩
   obtain⟨Cj,Jc⟩:∃Cj,Cj=v.ins src (qk (kA wK)):=⟨_,rfl⟩;have vs:Cj src=some (qk (kA wK)):=by rw[Jc];exact bi _ _ _
   have v0:Cj n0=some fi:=by rw[Jc,bq _ _ ayc];exact a2
   have v1:Cj b8=some en:=by rw[Jc,bq _ _ aye];exact a3
   show ∃La:H,La.le (v.ins src (qk (kA wK)))/\_;rw[<-Jc] at adP Di ⊢;have dM:bp.n=l.length:=gU od (by decide) Di.own.cI;have mT:m+1<l.length:=by omega
   have ju:dN.toNat<l.length:=by omega
   have at':∀{Y:H} {bE:M o} (j:o),aK ub Y 3 1 bp (bE.flatMap encI)->0<=j->j.toNat<bE.length->Y.cell? (eu ⟨g,0,none⟩ (j.toNat*1))=some (.int .i64 (bE.getD j.toNat 0)):=λ{Y bE} j aC gF aN=>by obtain⟨p,ad,I⟩:=bz.elem od (by decide) aC.own.cI (cy aN);rw[zj] at ad;cases ad;have:=I 0 _ rfl;rw[Addr.add_zero'] at this;rw[this,dm,cy aN];rfl
   have Ax:Cj.cell? ⟨fr,0,none⟩=some (.slice bp.a bp.n bp.c):=a8 adP 0;have aqp:(nT Cj bp).cell? ⟨fr,0,none⟩=some (.slice bp.a bp.n bp.c):=by unfold H.cell? at Ax ⊢;simp only[nU Zk];exact Ax
   refine⟨nT Cj bp,D3 _ _,bp,Ax,bp,aqp,bp,Ax,_,zj,⟨h3,by omega⟩,_,at' dN Di h3 ju,bp,Ax,_,zj,⟨by omega,by omega⟩,_,at' ((m:o)+1) Di (by omega) (by omega),_,zj,⟨by omega,by omega⟩,?_⟩;refine aK.store (enc:=encI) od Di (by decide) (i:=((m:o)+1).toNat) (by omega) (y:=l.getD dN.toNat 0) (by simp[encI,cK]) zj λhQ avF ahP _=>⟨λc z I=>ahP c z (Kr I).1 (Kr I).2,_,zj,⟨h3,by omega⟩,?_⟩;refine aK.store (enc:=encI) od avF (by decide) (i:=dN.toNat) (by rw[qZ];exact ju) (y:=l.getD ((m:o)+1).toNat 0) (by simp[encI,cK]) zj λgK No Sb _=>⟨rfl,?_⟩;have st2:∀c z,Cj c=some z->bp.al≠some c->gK c=some z:=λc z I an=>Sb c z (ahP c z I an) an;refine⟨st2 _ _ vs Sn,st2 _ _ v0 ayd,st2 _ _ v1 ayf,st2 _ _ adP Zk,by show m<=_;omega,_,by rw[qZ,qZ];exact ap,No,?_⟩;have arD:(l.set ((m:o)+1).toNat (l.getD dN.toNat 0)).set dN.toNat (l.getD ((m:o)+1).toNat 0)=jU l (m+1) dN.toNat:=by rw[Hk mT ju,show((m:o)+1).toNat=m+1 by omega,dm,dm,cy mT,cy ju];rfl
   rw[arD,<-ad];show permA m (kA wK) _=permA (m+1) wK l
   conv=>rhs;unfold permA
   rw[AZ]
  rintro⟨i,wK⟩ v D hi ⟨Z,a2,a3,a4,a5,l,ap,xG,ad⟩ eT;simp only at hi ad;subst hi;have hle:=bZ (u:=v) (b:=D) (u9 (some [])) eT;refine⟨bp,a8 (hle _ _ a4) 0,bi _ _ _,av bp _ ?_⟩;have asL:bp.al≠some D:=λe=>dL xG e eT;have jx:l=u1 st x.toNat:=ad;rw[jx] at xG;have awE:=xG.le.none eT;have:=(xG.mono hle).xO awE asL (.deferred none);exact this
def Gc(d:N)(vs:M (M o)):N->M (M o)->M (M o)
 |0,c=>c|n+1,c=>B1 d vs (Gc d vs n c)
def wI(e3:o)(k:N)(vs:M (M o)):M (M o):=((u1 e3 vs.length).take k).map λi=>vs.getD i.toNat []
def adI(e3:o)(k rounds d:N)(vs:M (M o)):M (M o):=Gc d vs rounds (wI e3 k vs)
def abU{n:N}(h:x∈u1 st n):0<=x/\x<n:=by have:=(ak5 st n).mem_iff.1 h;unfold pB at this;obtain⟨i,hi,rfl⟩:=bk.1 this;have:=JY.1 hi;omega
def abT(st:o)(n:N):(u1 st n).length=n:=by have:=(ak5 st n).length_eq;simpa[pB] using this
def anh{vs:M (M o)}(h:k<=vs.length):(wI e3 k vs).length=k:=by unfold wI;rw[dj,gq,abT];omega
def aB2{vs:M (M o)}(h:i<k)(J:(u1 e3 vs.length)[i]?=some x):(wI e3 k vs)[i]?=some (vs.getD x.toNat []):=by unfold wI;rw[jq,JT,a1 h,J];rfl
def gl.nf(h:gl aj u s cs){n:N}(ae:u n=.none)(z:Obj):gl (aj.ins n z) (u.ins n z) s cs:=⟨h.own.nf ae z,λc I=>(h.inner c I).nf ae z,h.eG,h.apart⟩
def apS:hf aH 134=ak:=by kernel_rfl
def amL{L:M (U×M o)}{k rounds:o}{K:U->o->H->Prop}(h:mJ u s L)(bH:∀c∈L,c.2.length=d/\c8 c.2)(ar:1<=d/\d<=64)(uv:L.length<=512)(hk:1<=k/\k<=64)(ju:k<=L.length)(O:0<=rounds/\rounds<=20)
  (av:∀au u' cs,gl u u' au cs->cs.map (·.2)=adI e3 k.toNat rounds.toNat d (L.map (·.2))->K au 0 u'):Qr s k rounds e3 u K:=by
 have ae:=h.len
 obtain⟨vs,k6⟩:∃vs,vs=L.map (·.2):=⟨_,rfl⟩
 have Bq:vs.length=L.length:=by rw[k6,dj]
 apply aEi
 intro n0 e1 b8 gn
 obtain⟨fi,jM⟩:∃fi,fi=(bj #[ea s.a s.n s.c] 133 (0,0)):=⟨_,rfl⟩
 obtain⟨en,j1⟩:∃en,en=(bj #[cJ .i64 k] 3 (0,0)):=⟨_,rfl⟩
 rw[<-jM] at gn ⊢
 rw[<-j1]
 have uC:n0≠b8:=λe=>by rw[<-e,bi] at gn;cases gn
 obtain⟨aU,hj⟩:∃aU,aU=(u.ins n0 fi).ins b8 en:=⟨_,rfl⟩
 have aku:u.le aU:=by rw[hj];exact(bZ _ e1).trans (bZ _ gn)
 have d0:aU n0=some fi:=by rw[hj,bq _ _ uC,bi]
 have d1:aU b8=some en:=by rw[hj,bi]
 rw[<-hj]
 have bM:∀{w:H},aU.le w->w.cell? ⟨n0,0,none⟩=some (.slice s.a s.n s.c):=λhw=>by have:=hw _ _ d0;rw[jM] at this;exact a8 this 0
 have c1:∀{w:H},aU.le w->w.cell? ⟨b8,0,none⟩=some (.int .i64 k):=λhw=>by have:=hw _ _ d1;rw[j1] at this;exact a8 this 0
 intro o9 h2
 have kj:=H.le.refl aU
 refine⟨k,c1 kj,λJ=>by omega,λ_=>⟨k,c1 kj,λJ=>by omega,λ_=>⟨λJ=>by omega,λ_=>?_⟩⟩⟩
 have YF:decide ((20:o)<rounds)=ax:=o0 (by omega)
 rw[YF]
 refine h2 _ _ ⟨λe=>(by cases e),λ_=>⟨s,bM kj,λJ=>by omega,λ_=>⟨s,bM kj,k,c1 kj,λJ=>by omega,λ_=>⟨s,bM kj,?_⟩⟩⟩⟩
 have h1:=h.mono aku
 obtain⟨p,ad,c,I,cL,CK,pX⟩:=h1.at (x:=0) (by omega) (by omega)
 obtain⟨cl,vD⟩:=bH c cL
 have pk:=pX.len
 refine⟨p,ad,⟨by omega,by omega⟩,c.1,CK,?_⟩
 intro n11 uD
 refine nh (zs:=[.int .i64 0]) rfl (by simp[cK]) ?_
 obtain⟨rS,qL⟩:∃rS,rS=(bj [cJ .i64 (c.1.n:o)].toArray 3 (0,0)):=⟨_,rfl⟩
 rw[<-qL]
 obtain⟨gK,xJ⟩:∃gK,gK=aU.ins n11 rS:=⟨_,rfl⟩
 rw[<-xJ]
 have rN:aU.le gK:=by rw[xJ];exact bZ _ uD
 have d11:gK n11=some rS:=by rw[xJ,bi]
 have afz:∀{w:H},gK.le w->w.cell? ⟨n11,0,none⟩=some (.int .i64 d):=λhw=>by have:=hw _ _ d11;rw[qL] at this;have:=a8 this 0;rw[this,show((c.1.n:N):o)=(d:o) by omega];rfl
 refine⟨s,bM rN,(d:o),afz (H.le.refl _),?_⟩
 have yW:=h1.mono rN
 refine adh yW (d:=(d:o)) (by omega) (λc I=>⟨by have:=(bH c I).1;omega,(bH c I).2⟩) (by omega) ⟨λJ=>aV rfl J,λ_=>⟨s,bM rN,?_⟩⟩
 refine adV _ _ _ λsrc rJ=>⟨bZ _ rJ,?_⟩
 have awH:u.le gK:=aku.trans rN
 refine aBk (st:=e3) (ub:=gK) (bi _ _ _) (bZ _ rJ) rJ (by omega) (by omega) λtK kE eI=>?_
 have akf:=eI.le
 refine⟨k,c1 (rN.trans akf),al6 (by omega) (by omega) λnR aIn agX aHz=>?_⟩
 intro n26 aiO
 refine nh (zs:=[.slice none 0 0]) rfl (by simp[cK]) ?_
 obtain⟨OC,ai0⟩:∃OC,OC=(bj [ea nR.a nR.n nR.c].toArray 133 (0,0)):=⟨_,rfl⟩
 rw[<-ai0]
 have AM:=agX.nf aiO OC
 obtain⟨ub,ci⟩:∃ub,ub=kE.ins n26 OC:=⟨_,rfl⟩
 rw[<-ci] at AM
 have avp:kE n26=none:=agX.own.le.none aiO
 have akg:kE.le ub:=by rw[ci];exact bZ _ avp
 have CJ:∀{w:H},ub.le w->w.cell? ⟨n26,0,none⟩=some (.slice nR.a nR.n nR.c):=λhw=>by
  have:ub n26=some OC:=by rw[ci];exact bi _ _ _
  have:=hw _ _ this;rw[ai0] at this;exact a8 this 0
 have qR:gK.le ub:=akf.trans akg
 have ati:=eI.mono akg
 have RW:=ati.ints
 rw[show((s.n:N):o).toNat=vs.length by omega] at RW
 have atj:=RW.len
 rw[abT] at atj
 have aHc:nR.n=k.toNat:=by omega
 refine⟨nR,CJ AM.own.le,λx w=>0<=x/\x<=k/\∃cs,gl ub w nR cs/\cs.length=k.toNat/\∀(a:N) c,cs[a]?=some c->(a:o)<x->(wI e3 k.toNat vs)[a]?=some c.2,λx _=>(k-x).toNat,
  ⟨by omega,by omega,_,AM,by simp,λa c _ J=>by omega⟩,?_⟩
 rintro x w ⟨bK,dw,cs,dK,hL,y4⟩
 have lw:=dK.own.le
 refine⟨λJ=>?_,λJ=>?_⟩
 obtain⟨pp,ke,oP⟩:=(RW.mono lw).at (x:=x) bK (by omega)
 have fh:x.toNat<(u1 e3 vs.length).length:=by rw[abT];omega
 obtain⟨y,ai⟩:∃y,(u1 e3 vs.length)[x.toNat]?=some y:=⟨_,cy fh⟩
 obtain⟨hS,ij⟩:=abU (dB ai)
 have mf:(u1 e3 vs.length).getD x.toNat 0=y:=by rw[dm,ai];rfl
 rw[mf] at oP
 obtain⟨q,aL,Y,aC,S6,Lx,uR⟩:=(yW.mono (qR.trans lw)).at (x:=y) hS (by omega)
 obtain⟨KQ,aox⟩:=bH Y S6
 have aw1:=uR.len
 have awU:x.toNat<cs.length:=by omega
 obtain⟨rV,xH,_⟩:=dK.yp.at bK (by rw[dK.len];omega)
 have arE:vs.getD y.toNat []=Y.2:=by rw[k6,dm,jq,aC];rfl
 refine⟨pp,ke,⟨bK,by omega⟩,nR,CJ lw,s,bM (rN.trans (qR.trans lw)),y,oP,q,aL,⟨hS,by omega⟩,Y.1,Lx,sN uR (by omega) λaId aIp ai1 _=>⟨ai1.le,rV,xH,⟨bK,by omega⟩,?_⟩⟩
 refine dK.put ai1 awU xH λPS at1 _=>⟨⟨by omega,by omega⟩,⟨by omega,by omega,_,at1,by rw[qZ];exact hL,λa c kJ R5=>?_⟩,by dsimp only;omega⟩
 rcases RD kJ with⟨rfl,rfl⟩|⟨e,kJ⟩
 rw[aB2 (by omega) ai,arE]
 exact y4 a c kJ (by omega)
 have SQ:cs.map (·.2)=wI e3 k.toNat vs:=by apply sB;intro a;by_cases ay:a<k.toNat;have ahG:cs[a]?=some cs[a]:=cy (by omega);rw[y4 a _ ahG (by omega),jq,ahG];rfl;rw[iO (by rw[dj];omega),iO (by rw[anh (by omega)];omega)]
 have RR:RoundIn ub b8 n11 n0 n26 k.toNat d s nR L:=⟨by rw[c1 (rN.trans qR),wz (by omega)],afz qR,bM (rN.trans qR),CJ (H.le.refl _),yW.mono qR,bH,uv,ar,by omega⟩
 have F5:∀v∈vs,v.length=d/\c8 v:=λv aB=>by rw[k6] at aB;obtain⟨c,I,rfl⟩:=bk.1 aB;exact bH c I
 have avN:∀c∈wI e3 k.toNat vs,c.length=d/\c8 c:=λc I=>by
  unfold wI at I;obtain⟨i,hi,rfl⟩:=bk.1 I;obtain⟨i0,i1⟩:=abU (mx hi);have:vs.getD i.toNat []∈vs:=by rw[dm,cy (by omega)];exact kD _
  exact F5 _ this
 refine⟨λx w=>0<=x/\x<=rounds/\∃cs,gl ub w nR cs/\cs.length=k.toNat/\cs.map (·.2)=Gc d vs x.toNat (wI e3 k.toNat vs)/\∀c∈cs,c.2.length=d/\c8 c.2,λx _=>(rounds-x).toNat,
  ⟨by omega,by omega,cs,dK,hL,SQ,λc I=>avN _ (by rw[<-SQ];exact ie I)⟩,?_⟩
 rintro y ew ⟨hS,ij,ds,si,y7,ahO,Sa⟩
 refine⟨λai=>.inl ⟨_,_,_,rfl,hd apS,?_⟩,λai=>?_⟩
 refine aBf RR si y7 Sa λU6 es MG fw=>⟨⟨by omega,by omega⟩,⟨by omega,by omega,es,MG,?_,?_,λc I=>?_⟩,by dsimp only;omega⟩
 have:=eB iC fw
 rw[dj,acK,dj] at this
 omega
 rw[fw,show(y+1).toNat=y.toNat+1 by omega,<-k6,ahO]
 rfl
 have:c.2∈B1 d (L.map (·.2)) (ds.map (·.2)):=by rw[<-fw];exact ie I
 rw[<-k6] at this
 exact alK (λv aB=>(F5 v aB).2) ar.2 (λc I=>by obtain⟨Y,aC,rfl⟩:=bk.1 I;exact Sa Y aC) _ this
 refine⟨nR,CJ si.own.le,av nR ew ds (si.weaken (awH.trans qR)) ?_⟩
 rw[ahO,show y.toNat=rounds.toNat by omega,<-k6]
 rfl
end
namespace jH
section
variable{u:H}{s:U}
def aj0(l:M az):l.map (·.id)=(l.map az.bL).map (·.1):=by rw[eh];rfl
def azM{L:M az}{d:o}(h:hp L d){r:az}(ad:r.bL∈L.map az.bL):(1<=r.id/\r.id<=1000000000)/\(r.v.length:o)=d/\c8 r.v:=by obtain⟨Y,aC,e⟩:=bk.1 ad;have aQ:Y.id=r.id:=eB sI e;have aF:Y.v=r.v:=eB tH e;rw[<-aQ,<-aF];exact⟨h.id Y aC,h.v Y aC⟩
def jy(l:M az)(aq a b:o):o:=if o2 l aq≠0 then o2 l aq else if a<1∨64<a∨b<0∨20<b then 1 else 0
def Az(e3 a b:o)(d:N)(vs:M (M o)):M (M o):=if vs=[] then[gu d 0] else adI e3 (if(vs.length:o)<a then(vs.length:o) else a).toNat b.toNat d vs
def Ra(s:U):kH aH 133 1 #[(0,.slice s.a s.n s.c)]=some (30,[.slice s.a s.n s.c]):=by kernel_rfl
def axi{d:N}{vs:M (M o)}(aB:∀v∈vs,c8 v)(ar:d<=64):∀(n:N) (cs:M (M o)),(∀c∈cs,c.length=d/\c8 c)->(∀c∈Gc d vs n cs,c.length=d/\c8 c)/\(Gc d vs n cs).length=cs.length:=by
 intro n;induction n with
 |zero=>intro cs h;exact⟨h,rfl⟩
 |succ n aM=>intro cs h;obtain⟨h1,h2⟩:=aM cs h;exact⟨alK aB ar h1,by show(B1 _ _ _).length=_;rw[acK,h2]⟩
def afI{e3 a b:o}{d:N}{vs:M (M o)}(aB:∀v∈vs,v.length=d/\c8 v)(ar:1<=d/\d<=64)(ay:1<=a/\a<=64):(∀c∈Az e3 a b d vs,c.length=d/\c8 c)/\0<(Az e3 a b d vs).length/\(Az e3 a b d vs).length<=64:=by
 unfold Az;by_cases h0:vs=[];rw[a1 h0];refine⟨λc I=>?_,by simp,by simp⟩;rw[gp.1 I];refine⟨by simp,by simp;omega,λi hi=>?_⟩;rw[T5] at hi;rw[dm,Ka,a1 hi];decide;rw[aG h0];have ad:=vc.2 h0;obtain⟨k,hk⟩:∃k,k=(if(vs.length:o)<a then(vs.length:o) else a).toNat:=⟨_,rfl⟩;have IF:1<=k/\k<=64/\k<=vs.length:=by rw[hk];split<;>omega
 rw[<-hk];have dY:∀c∈wI e3 k vs,c.length=d/\c8 c:=λc I=>by
  unfold wI at I;obtain⟨i,hi,rfl⟩:=bk.1 I;obtain⟨i0,i1⟩:=abU (mx hi);have:vs.getD i.toNat []∈vs:=by rw[dm,cy (by omega)];exact kD _
  exact aB _ this
 obtain⟨h1,h2⟩:=axi (λv gE=>(aB v gE).2) ar.2 b.toNat _ dY;have ap:=anh (e3:=e3) IF.2.2;exact⟨h1,by show 0<(Gc _ _ _ _).length;omega,by show(Gc _ _ _ _).length<=64;omega⟩
structure Ej(u:H)(l:M az)(hB a b e3:o)(u':H)(dX:N)(af:N->aA bx)(T:aS):Prop where
 is:In u u' af dX T
 ok:dU T
 rows:(a6 T).Perm (l.map az.bL)
 aq:T.aq=hB
 cs:∃P:M (o×M o),P.Perm (l.map az.bL)/\(P.Pairwise λx y=>x.1<y.1)/\T.cs.map (·.2)=Az e3 a b hB.toNat (P.map (·.2))
def adx{n:N}{d:o}{a b:U}{m:aA N}{f:H->Prop}(h:u n=some (.cells #[.int .i64 d,.slice a.a a.n a.c,.slice b.a b.n b.c,.map m] 178 (0,0))):
  (f (u.ins n (.cells #[.int .i64 d,.slice s.a s.n s.c,.slice b.a b.n b.c,.map m] 178 (0,0)))->H.aO u (eu (cw n 0 none) 1) [.slice s.a s.n s.c] f)/\
   (f (u.ins n (.cells #[.int .i64 d,.slice a.a a.n a.c,.slice s.a s.n s.c,.map m] 178 (0,0)))->H.aO u (eu (cw n 0 none) 2) [.slice s.a s.n s.c] f):=
 ⟨λac=>⟨_,_,h,rfl,by simp[iP],by simp[cK],ac⟩,λac=>⟨_,_,h,rfl,by simp[iP],by simp[cK],ac⟩⟩
def Vf{aj:H}{cs:M (U×M o)}(h:gl aj u s cs){n:N}(ae:aj n=none)(ag:s.al≠some n)(I:∀c∈cs,c.1.al≠some n)(z:Obj):gl aj (u.ins n z) s cs:=
 ⟨h.own.xO ae ag z,λc cL=>(h.inner c cL).xO ae (I c cL) z,h.eG,h.apart⟩
def PH{l:M az}{aq a b e3:o}{K:aA bc->o->H->Prop}(ag:eF u s l)(dq:jy l aq a b≠0->K none (jy l aq a b) u)
  (bH:jy l aq a b=0->∀u' dX af T,Ej u l aq a b e3 u' dX af T->K (some ⟨dX,0,none⟩) 0 u'):VF s aq a b e3 u K:=by
 have bad:∀Y,jy l aq a b=Y->Y≠0->K none Y u:=λY e aC=>by subst e;exact dq aC
 apply aDY
 refine Kw ag ⟨λan=>bad _ (by unfold jy;rw[a1 an]) an,λhe=>?_⟩
 have one:(a<1∨64<a∨b<0∨20<b)->K none 1 u:=λI=>bad 1 (by unfold jy;rw[aG (by simpa using he),a1 I]) (by decide)
 intro o9 h2
 refine⟨λh=>one (.inl h),λZ=>⟨λh=>one (.inr (.inl h)),λa2=>⟨λh=>one (.inr (.inr (.inl h))),λga=>⟨λh=>one (.inr (.inr (.inr h))),λfu=>h2 _ _ _ ?_⟩⟩⟩⟩
 have bH:=bH (by unfold jy;rw[aG (by simpa using he),aG (by omega)])
 clear bad one dq h2 o9
 have hC:=B0.1 he
 obtain⟨LA,LB⟩:=hC.aq
 have ais:=hC.len
 refine D4 λm qa hm iL=>?_
 have A3:(u.ins m qa) m=some qa:=bi _ _ _
 have qT:=bZ (u:=u) (b:=m) qa hm
 obtain⟨jh,sr⟩:∃jh,jh=u.ins m qa:=⟨_,rfl⟩
 rw[<-sr] at iL A3 qT ⊢
 intro n8 ot
 have lY:n8≠m:=λe=>by rw[e,A3] at ot;cases ot
 have vY:u n8=none:=qT.none ot
 obtain⟨l2,rG⟩:∃l2,l2=(bj #[.int .i64 aq,.slice none 0 0,.slice none 0 0,.map (some m)] 178 (0,0)):=⟨_,rfl⟩
 have rP:=bZ (u:=jh) (b:=n8) l2 ot
 show r9 s (jh.ins n8 (bj #[.int .i64 aq,.slice none 0 0,.slice none 0 0,.map (some m)] 178 (0,0))) _
 rw[<-rG]
 obtain⟨u8,pv⟩:∃u8,u8=jh.ins n8 l2:=⟨_,rfl⟩
 have ug:u8 n8=some l2:=by rw[pv];exact bi _ _ _
 rw[<-pv] at rP ⊢
 refine z8 (ag.mono (qT.trans rP)) hC.id (by omega) (λr O=>by have:=(hC.v r O).1;omega) λha ls hQ b4 ad qO=>?_
 have Iq:ls.length=l.length:=by simpa using ad.length_eq
 have mj:∀r∈ls,(1<=r.id/\r.id<=1000000000)/\(r.v.length:o)=aq/\c8 r.v:=λr O=>azM hC (ad.mem_iff.1 (ie O))
 have b3:(ls.map (·.id)).Nodup:=by rw[aj0,(ad.map (·.1)).nodup_iff,<-aj0];exact hC.nodup
 have tu:=b4.own.le
 have agU:=b4.rws.len
 obtain⟨ub,ci⟩:∃ub:H,ub=λc=>if c=n8 then none else hQ c:=⟨_,rfl⟩
 have Ef:ub n8=none:=by rw[ci];exact a1 rfl
 have Eg:∀{c},c≠n8->ub c=hQ c:=λ{c} I=>by rw[ci];exact aG I
 have anP:ub.le hQ:=λc z I=>by by_cases e:c=n8;rw[e,Ef] at I;cases I;rw[Eg e] at I;exact I
 have Eh:u.le ub:=λc z I=>by
  have:c≠n8:=λe=>by rw[e,vY] at I;cases I
  rw[Eg this];exact tu _ _ (rP _ _ (qT _ _ I))
 have XO:hQ n8=some l2:=tu _ _ ug
 have ah2:∀{x:U},(∀g,x.al=some g->u8 g=none)->x.al≠some n8:=λJ e=>by have:=J n8 e;rw[ug] at this;cases this
 have az9:bz ub ha 2 (ls.flatMap cO):=bz.else b4.own.own.cI λg z W ab=>by rw[Eg (λe=>ah2 b4.own.fresh (by rw[W,e]))];exact ab
 have Un:∀r∈ls,Ints ub r.s r.v:=λr O=>bz.else (b4.inner r O).ints λg z W ab=>by rw[Eg (λe=>ah2 (b4.inner r O).fresh (by rw[W,e]))];exact ab
 have aky:fz ub m []:=iL.else λz ab=>by rw[Eg (dG lY)];exact tu _ _ (rP _ _ ab)
 have alP:eF ub ha ls:=⟨az9,Un⟩
 refine⟨λla x w=>0<=x/\x<=ha.n/\ub.le w/\w n8=some l2/\aK hQ w 30 1 la (((ls.take x.toNat).map λr=>(r.s,r.v)).flatMap λc=>encS c.1),λ_ x _=>((ha.n:o)-x).toNat,
  ⟨by omega,by omega,anP,XO,by simpa using aK.nil (H.le.refl hQ) 30 1⟩,?_⟩
 rintro la x w ⟨bK,dw,Mw,uh,xD⟩
 have ze:la.n=(ls.take x.toNat).length:=by have h:=gU vF (by decide) xD.own.cI;rw[dj] at h;exact h
 rw[gq] at ze
 refine⟨λJ=>?_,λJ=>?_⟩
 obtain⟨p,ke,r,O,bM,c1,_⟩:=(alP.mono Mw).at bK J
 refine⟨p,ke,⟨bK,J⟩,_,bM,_,c1,nV U0 (Ra r.s) (by decide) rfl (by simp[cK]) xD (by show la.n<_;omega) (by show(la.n+1)*_<=_;omega) λUs kE ab aHm eL eA _=>⟨⟨by omega,by omega⟩,⟨by omega,by omega,λc z I=>eL c z (Mw c z I) λe=>?_,eL _ _ uh λe=>?_,?_⟩,by dsimp only;omega⟩⟩
 have:=xD.fresh c e;rw[anP c z I] at this;cases this
 have:=xD.fresh n8 e;rw[XO] at this;cases this
 have e:ls.take (x+1).toNat=ls.take x.toNat++ [r]:=by rw[show(x+1).toNat=x.toNat+1 by omega,gJ,O];rfl
 rw[e,er,gZ]
 exact ab
 rw[gY (by omega)] at xD
 have avo:la.n=ls.length:=by omega
 clear bK dw J ze
 have aIx:∀{Y:H},w.le Y->mJ Y la (ls.map λr=>(r.s,r.v)):=λaC=>⟨xD.own.cI.mono aC,λc I=>by obtain⟨r,O,rfl⟩:=bk.1 I;exact(Un r O).mono (Mw.trans aC)⟩
 refine acZ (by omega) (by omega) λlN mB FL avq=>mA (Ra lN) λLY ah3=>?_
 have Jt:=bZ (u:=mB) (b:=LY) (.cells [ea lN.a lN.n lN.c].toArray 30 (0,0)) ah3
 have SI:aK mB (mB.ins LY (.cells [ea lN.a lN.n lN.c].toArray 30 (0,0))) 30 1 ⟨some ⟨LY,0,none⟩,1,1⟩ [ea lN.a lN.n lN.c]:=by have:=aK.make (k:=1) (H.le.refl mB) ah3 (cells:=[ea lN.a lN.n lN.c].toArray) (e:=30) (n:=1) (by omega) (by simp);simpa using this
 obtain⟨qp,awx⟩:∃qp,qp=mB.ins LY (.cells [ea lN.a lN.n lN.c].toArray 30 (0,0)):=⟨_,rfl⟩
 rw[<-awx] at Jt SI ⊢
 obtain⟨hr,I4⟩:∃hr:U,hr=⟨some ⟨LY,0,none⟩,1,1⟩:=⟨_,rfl⟩
 rw[<-I4] at SI ⊢
 have adZ:w.le qp:=FL.le.trans Jt
 have zero:gl w qp hr [(lN,gu aq.toNat 0)]:=⟨by simpa[encS] using SI.weaken FL.le,λc I=>by rw[gp.1 I];exact FL.mono Jt,λc I=>by rw[gp.1 I];exact(aK.eG FL (H.le.refl _) SI).symm,O1 _ _⟩
 have dW:∀{x:U},(∀g,x.al=some g->w g=none)->x.al≠some n8:=λJ e=>by have:=J n8 e;rw[uh] at this;cases this
 have agR:=adZ _ _ uh
 rw[rG] at agR
 refine(adx (a:=⟨none,0,0⟩) (b:=⟨none,0,0⟩) (s:=hr) agR).1 ?_
 obtain⟨zE,SJ⟩:∃zE:U->Obj,zE=λY=>(bj #[.int .i64 aq,.slice Y.a Y.n Y.c,.slice none 0 0,.map (some m)] 178 (0,0)):=⟨_,rfl⟩
 obtain⟨Hm,NZ⟩:∃Hm,Hm=qp.ins n8 (zE hr):=⟨_,rfl⟩
 have awy:Hm=qp.ins n8 (bj #[.int .i64 aq,.slice hr.a hr.n hr.c,.slice none 0 0,.map (some m)] 178 (0,0)):=by rw[NZ,SJ]
 rw[<-awy]
 have Va:ub.le Hm:=λc z I=>by rw[NZ,bq _ _ (λe=>by rw[e,Ef] at I;cases I)];exact adZ _ _ (Mw _ _ I)
 have XP:Hm n8=some (zE hr):=by rw[NZ];exact bi _ _ _
 obtain⟨P,eI⟩:∃P:M (o×M o),P=ls.map az.bL:=⟨_,rfl⟩
 have atk:P.Pairwise λx y=>x.1<y.1:=by rw[eI,wy];rw[T4,wy] at b3;refine(qO.and b3).imp λ{x y} iV=>?_;have h1:=iV.1;have h2:=iV.2;show x.id<y.id;omega
 have C3:P.map (·.2)=ls.map (·.v):=by rw[eI,eh];rfl
 obtain⟨vD,y4⟩:∃vD,vD=Az e3 a b aq.toNat (P.map (·.2)):=⟨_,rfl⟩
 have ahK:=afI (e3:=e3) (a:=a) (b:=b) (d:=aq.toNat) (vs:=P.map (·.2)) (λv aB=>by rw[C3] at aB;obtain⟨r,O,rfl⟩:=bk.1 aB;obtain⟨_,h1,h2⟩:=mj r O;exact⟨by omega,h2⟩) (by omega) (by omega)
 rw[<-y4] at ahK
 intro Ev Ib
 have main:∀{qi:U} {cs:M (U×M o)} {wQ:H} {mo:aA bc} {nm:o},ub.le wQ->wQ n8=some (zE qi)->gl ub wQ qi cs->qi.al≠some n8->(∀c∈cs,c.1.al≠some n8)->cs.map (·.2)=vD->Ev mo nm wQ:=by
  intro qi cs wQ mo nm Is RL dK ahF ahH My;have hL:cs.length=vD.length:=by rw[<-My,dj]
  have pk:qi.n=cs.length:=dK.len;rw[SJ] at RL;refine Ib _ _ _ ⟨qi,a8 RL 1,Pt aCi (by omega) (mw _) (by omega) (by omega) λagE aut=>?_⟩;have vU:(oC [ea none 0 0].toArray (cs.length*1)).toList=(gu cs.length ((⟨none,0,0⟩:U),([]:M az))).flatMap λc=>encS c.1:=Gp (enc:=λc:U×M az=>encS c.1) CP (by decide) (⟨none,0,0⟩,[]) cs.length;have c0:(oC [ea none 0 0].toArray (cs.length*1)).size=cs.length*1:=by have:=eB iC vU;rw[r0,og CP] at this;simpa using this
  have FM:=aK.make (k:=1) (H.le.refl wQ) aut (cells:=oC [ea none 0 0].toArray (cs.length*1)) (e:=22) (n:=cs.length) (by omega) c0;rw[vU] at FM;rw[show((qi.n:N):o).toNat=cs.length by omega];obtain⟨q4,awd⟩:∃q4:U,q4=⟨some ⟨agE,0,none⟩,cs.length,cs.length⟩:=⟨_,rfl⟩;rw[<-awd] at FM ⊢;obtain⟨ni,aai⟩:∃ni,ni=wQ.ins agE (.cells (oC [ea none 0 0].toArray (cs.length*1)) 22 (0,0)):=⟨_,rfl⟩;rw[<-aai] at FM ⊢;have zo:=FM.le;refine(adx (a:=qi) (b:=⟨none,0,0⟩) (s:=q4) (zo _ _ RL)).2 ?_;obtain⟨n5,j9⟩:∃n5:aS,n5=⟨aq,qi,cs,q4,gu cs.length (⟨none,0,0⟩,[]),m,[]⟩:=⟨_,rfl⟩;obtain⟨Ec,I8⟩:∃Ec,Ec=ni.ins n8 (.cells (fx n5).toArray 178 (0,0)):=⟨_,rfl⟩;have awB:Ec=ni.ins n8 (bj #[.int .i64 aq,.slice qi.a qi.n qi.c,.slice q4.a q4.n q4.c,.map (some m)] 178 (0,0)):=by rw[I8,j9];rfl
  rw[<-awB];have akF:q4.al≠some n8:=λe=>by have:=FM.fresh n8 e;rw[RL] at this;cases this
  have Hq:ub.le Ec:=λc z I=>by rw[I8,bq _ _ (λe=>by rw[e,Ef] at I;cases I)];exact zo _ _ (Is _ _ I)
  have R7:gl ub Ec qi cs:=by rw[I8];exact Vf (dK.mono zo) Ef ahF ahH _
  have IU:aK ub Ec 22 1 q4 ((gu cs.length ((⟨none,0,0⟩:U),([]:M az))).flatMap λc=>encS c.1):=by rw[I8];exact(FM.weaken Is).xO Ef akF _
  have akc:∀{e k:N} {x:U} {xs:M ao},aK ub wQ e k x xs->dO x q4:=λJ=>aK.eG J (H.le.refl wQ) FM
  let pU:N->aA bx:=λc=>open Classical in if c=n8 then some .tree else if c=m then some .map else if qi.al=some c then some .yJ else if q4.al=some c then some .ox else if ∃Y∈cs,Y.1.al=some c then some .uc else if ∃r∈ls,r.s.al=some c then some .vec else none
  have akD:ub m≠none:=by obtain⟨es,cl,J,_⟩:=aky;rw[J];simp
  have XD:∀{x:U},(∀g,x.al=some g->ub g=none)->x.al≠some m:=λJ e=>akD (J m e);have acJ:∀r∈ls,∀c,r.s.al=some c->ub c≠none/\c≠n8/\u8 c=none:=λr O c I=>by
   have h1:=(b4.inner r O).fresh c I;have h2:c≠n8:=λe=>by rw[e,ug] at h1;cases h1
   exact⟨by rw[Eg h2];exact dL (b4.inner r O) I,h2,h1⟩
  have t8:pU n8=some .tree:=a1 rfl;have aCw:pU m=some .map:=by show(if m=n8 then _ else _)=_;rw[aG (dG lY),a1 rfl]
  have aCt:∀g,qi.al=some g->pU g=some .yJ:=λg W=>by show(if g=n8 then _ else _)=_;rw[aG (λe=>ahF (by rw[W,e])),aG (λe=>XD dK.own.fresh (by rw[W,e])),a1 W]
  have q9:∀g,q4.al=some g->pU g=some .ox:=λg W=>by show(if g=n8 then _ else _)=_;rw[aG (λe=>akF (by rw[W,e])),aG (λe=>XD IU.fresh (by rw[W,e])),aG (λe=>akc dK.own g e W),a1 W]
  have qo:∀Y∈cs,∀g,Y.1.al=some g->pU g=some .uc:=λY aC g W=>by show(if g=n8 then _ else _)=_;rw[aG (λe=>ahH Y aC (by rw[W,e])),aG (λe=>XD (dK.inner Y aC).fresh (by rw[W,e])),aG (λe=>dK.eG Y aC g e W),aG (λe=>akc (dK.inner Y aC) g W e),a1 ⟨Y,aC,W⟩]
  have aJ:∀r∈ls,∀g,r.s.al=some g->pU g=some .vec:=λr O g W=>by obtain⟨cq,cH,kP⟩:=acJ r O g W;show(if g=n8 then _ else _)=_;rw[aG cH,aG (λe=>by rw[e,pv,bq _ _ (dG lY),A3] at kP;cases kP),aG (λe=>cq (dK.own.fresh g e)),aG (λe=>cq (IU.fresh g e)),aG (λ⟨Y,aC,e⟩=>cq ((dK.inner Y aC).fresh g e)),a1 ⟨r,O,W⟩]
  have t9:∀g,ha.al=some g->pU g=none:=λg W=>by
   have kP:=b4.own.fresh g W;have cH:g≠n8:=λe=>by rw[e,ug] at kP;cases kP
   have cq:ub g≠none:=by rw[Eg cH];exact dL b4.own W
   show(if g=n8 then _ else _)=_;rw[aG cH,aG (λe=>by rw[e,pv,bq _ _ (dG lY),A3] at kP;cases kP),aG (λe=>cq (dK.own.fresh g e)),aG (λe=>cq (IU.fresh g e)),aG (λ⟨Y,aC,e⟩=>cq ((dK.inner Y aC).fresh g e)),aG (λ⟨r,O,e⟩=>b4.eG r O g W e)]
  have axp:∀g,ha.al=some g->Ec g≠none:=λg W=>by
   have kP:=b4.own.fresh g W;have cH:g≠n8:=λe=>by rw[e,ug] at kP;cases kP
   have cq:ub g≠none:=by rw[Eg cH];exact dL b4.own W
   obtain⟨z,ab⟩:=fj.1 cq;rw[Hq _ _ ab];simp
  have split:∀c,pU c≠none->c=n8∨c=m∨qi.al=some c∨q4.al=some c∨(∃Y∈cs,Y.1.al=some c)∨∃r∈ls,r.s.al=some c:=λc I=>acu λae=>I (by simp only[not_or] at ae;show(if c=n8 then _ else _)=_;rw[aG ae.1,aG ae.2.1,aG ae.2.2.1,aG ae.2.2.2.1,aG ae.2.2.2.2.1,aG ae.2.2.2.2.2])
  have aw9:In u Ec pU n8 n5:=by refine⟨?_,Eh.trans Hq,λc I=>?_,λc I=>?_⟩;subst j9;refine⟨by rw[I8];exact bi _ _ _,t8,R7.own.own.cI,aCt,λi c MQ=>⟨(R7.inner c (dB MQ)).ints,qo c (dB MQ)⟩,IU.own,q9,λi y ai=>?_,aky.mono Hq,aCw⟩;have:y=(⟨none,0,0⟩,[]):=(vd.1 (dB ai)).2;subst this;exact⟨⟨⟨rfl,cC _,by decide,.inl rfl⟩,.inr rfl⟩,λg W=>by simp[U.al] at W,λr O=>by cases O⟩;rcases split c I with rfl|rfl|h1|h1|⟨Y,aC,h1⟩|⟨r,O,h1⟩;exact vY;exact hm;exact Eh.none (dK.own.fresh c h1);exact Eh.none (IU.fresh c h1);exact Eh.none ((dK.inner Y aC).fresh c h1);exact(qT.trans rP).none (acJ r O c h1).2.2;rcases split c I with rfl|rfl|h1|h1|⟨Y,aC,h1⟩|⟨r,O,h1⟩;rw[I8,bi];simp;obtain⟨z,ab⟩:=fj.1 akD;rw[Hq _ _ ab];simp;exact dL R7.own h1;exact dL IU h1;exact dL (R7.inner Y aC) h1;obtain⟨z,ab⟩:=fj.1 (acJ r O c h1).1;rw[Hq _ _ ab];simp
  have ayM:dU n5:=by
   subst j9;have mR:(gu cs.length ((⟨none,0,0⟩:U),([]:M az))).flatMap (·.2)=[]:=by rw[acC];intro x J;rw[(vd.1 J).2]
   refine⟨hC.aq,⟨by simp,by show 0<cs.length;omega,by show cs.length<=64;omega⟩,λc I=>?_,λy ai r O=>?_,λy ai r O=>?_,by show(List.map _ (ye _ (gu _ _))).Nodup;rw[mR];exact Kh,λx i=>⟨λh=>(by cases h),λ⟨y,ai,J⟩=>?_⟩,by show 0=(ye _ (gu _ _)).length;rw[mR];rfl,by show 0<=512;omega,λi y ai r O=>?_⟩;have:c.2∈vD:=by rw[<-My];exact ie I
   obtain⟨h1,h2⟩:=ahK.1 _ this;exact⟨by show(c.2.length:o)=aq;omega,h2⟩;rw[(vd.1 ai).2] at O;cases O;rw[(vd.1 ai).2] at O;cases O;rw[(vd.1 (dB ai)).2] at J;cases J;rw[(vd.1 (dB ai)).2] at O;cases O
  have azQ:a6 n5=[]:=by
   subst j9;unfold a6;have mR:(gu cs.length ((⟨none,0,0⟩:U),([]:M az))).flatMap (·.2)=[]:=by rw[acC];intro x J;rw[(vd.1 J).2]
   show(ye _ (gu _ _)).map _=[];rw[mR];rfl
  refine⟨λx w=>0<=x/\x<=ha.n/\∃af T,In u w af n8 T/\dU T/\T.aq=aq/\T.cs=cs/\(a6 T).Perm ((ls.take x.toNat).map az.bL)/\(∀y,y∈T.w.map (·.1)↔y∈(ls.take x.toNat).map (·.id))/\T.w.length=x.toNat/\(∀r∈ls,Ints w r.s r.v/\∀g,r.s.al=some g->af g=some .vec)/\eF w ha ls/\∀g,ha.al=some g->af g=none/\w g≠none,
   λx _=>((ha.n:o)-x).toNat,⟨by omega,by omega,pU,n5,aw9,ayM,by rw[j9],by rw[j9],by rw[azQ];exact .refl _,λy=>by rw[j9];simp,by rw[j9];rfl,λr O=>⟨(Un r O).mono Hq,aJ r O⟩,alP.mono Hq,λg W=>⟨t9 g W,axp g W⟩⟩,?_⟩
  rintro x w ⟨bK,dw,af,T,cx,ahm,Ye,ahl,kf,aio,Ds,aaq,k3,agS⟩;refine⟨λJ=>?_,λJ=>?_⟩;obtain⟨p,ke,r,O,eK,aQ,_⟩:=k3.at bK J;have fp:=dB O;obtain⟨kj,my,pH⟩:=mj r fp;obtain⟨v1,v2⟩:=aaq r fp;have Bh:ls.take (x+1).toNat=ls.take x.toNat++ [r]:=by rw[show(x+1).toNat=x.toNat+1 by omega,gJ,O];rfl
  have A7:r.id∉T.w.map (·.1):=λcb=>by have h1:=(aio r.id).1 cb;have h2:((ls.take (x.toNat+1)).map (·.id)).Nodup:=b3.sublist ((r3 _ _).map _);rw[show x.toNat+1=(x+1).toNat by omega,Bh,er,fZ] at h2;exact h2.2.2 _ h1 _ (by simp) rfl
  refine⟨p,ke,⟨bK,J⟩,_,eK,_,aQ,amM cx ahm A7 kj v1 v2 ⟨by rw[Ye];exact my,pH⟩ (by omega) λaIq aY bB jc=>⟨⟨by omega,by omega⟩,⟨by omega,by omega,aY,bB,jc.is,jc.ok,jc.aq.trans Ye,jc.cs.trans ahl,?_,λy=>?_,by rw[jc.Cl];omega,λde dz=>?_,?_,λg W=>?_⟩,by dsimp only;omega⟩⟩;rw[Bh,er];exact jc.rows.trans ((j3 _ kf).trans (nc _ _).symm);rw[jc.w,aio,Bh,er];simp;obtain⟨gk,ew⟩:=aaq de dz;exact⟨bz.else gk λg z W ab=>jc.aoe g z ab (ew g W),λg W=>jc.wL g (ew g W)⟩;refine⟨bz.else k3.1 λg z W ab=>jc.eX.bS g z ab (agS g W).1,λde dz=>?_⟩;obtain⟨gk,ew⟩:=aaq de dz;exact bz.else gk λg z W ab=>jc.aoe g z ab (ew g W);obtain⟨f1,f2⟩:=agS g W;obtain⟨z,ab⟩:=fj.1 f2;exact⟨jc.eX.off ab f1,by rw[jc.eX.bS g z ab f1];simp⟩;rw[gY (by omega)] at kf;refine bH w n8 af T ⟨cx,ahm,kf.trans ad,Ye,P,by rw[eI];exact ad,atk,by rw[ahl,My,y4]⟩
 refine⟨λoT=>?_,λA8=>?_⟩
 .have lm:0<ls.length:=by omega
  have v27:mJ Hm la (ls.map λr=>(r.s,r.v)):=⟨bz.else xD.own.cI λg z W ab=>by
   have:g≠n8:=λe=>by have:=xD.fresh g W;rw[e,XO] at this;cases this
   rw[NZ,bq _ _ this];exact adZ _ _ ab,λc I=>by
   obtain⟨r,O,rfl⟩:=bk.1 I;exact(Un r O).mono Va⟩
  have uB:(ls.map λr=>(r.s,r.v)).map (·.2)=P.map (·.2):=by rw[C3,eh];rfl
  have X5:(P.map (·.2)).length=ls.length:=by rw[C3,dj]
  refine amL (d:=aq.toNat) v27 (λc I=>?_) (by omega) (by simp;omega) (by split<;>omega) (by simp only[dj];split<;>omega) (by omega) λjr mC cs dK My=>⟨λJ=>aV rfl J,λ_=>?_⟩;obtain⟨r,O,rfl⟩:=bk.1 I;obtain⟨_,h1,h2⟩:=mj r O;exact⟨by show r.v.length=_;omega,h2⟩;have asG:=dK.own.le _ _ XP;have DD:∀{x:U},(∀g,x.al=some g->Hm g=none)->x.al≠some n8:=λJ e=>by have:=J n8 e;rw[XP] at this;cases this
  have agQ:=asG;rw[SJ] at agQ;refine(adx (a:=hr) (b:=⟨none,0,0⟩) (s:=jr) agQ).1 ?_;obtain⟨U6,SX⟩:∃U6,U6=mC.ins n8 (zE jr):=⟨_,rfl⟩;have awC:U6=mC.ins n8 (bj #[.int .i64 aq,.slice jr.a jr.n jr.c,.slice none 0 0,.map (some m)] 178 (0,0)):=by rw[SX,SJ]
  rw[<-awC];refine main (λc z I=>?_) (by rw[SX];exact bi _ _ _) (by rw[SX];exact Vf (dK.weaken Va) Ef (DD dK.own.fresh) (λc I=>DD (dK.inner c I).fresh) _) (DD dK.own.fresh) (λc I=>DD (dK.inner c I).fresh) ?_;rw[SX,bq _ _ (λe=>by rw[e,Ef] at I;cases I)];exact dK.own.le _ _ (Va _ _ I);rw[My,y4,uB];have an:P.map (·.2)≠[]:=λe=>by rw[e] at X5;simp at X5;omega
  unfold Az;rw[aG an,X5,avo]
 have mS:ls=[]:=kS (by omega)
 refine main Va XP (by rw[NZ];exact Vf (zero.weaken Mw) Ef (dW zero.own.fresh) (λc I=>dW (zero.inner c I).fresh) _) (dW zero.own.fresh) (λc I=>dW (zero.inner c I).fresh) ?_
 rw[y4,C3,mS]
 rfl
end
end jH
