/- Texts of mine, joined and packed by pack.py. -/
import Derived.Test.YtejdhbfjjgcljaaGreatDoorMrc7
import Derived.Laws.NewFold
import Derived.Maps.RangeRun
set_option linter.all false
open Go renaming Program->dR,Value->ao,World->b6,TypeId->dC,Addr->ba,madeCells->lO,MapEntry->y8
open _root_ renaming Nat->N,List->J,Option->ay,Array->cu,Int->o,Bool->aI,absurd->a6,Inhabited->lx
open Bool renaming true->ak,false->ax
open Go.Obj renaming cells->bA
open Go.Instr renaming lookup->gK,mapUpdate->kV,makeMap->pO,sliceAt->fR,buildSlice->dA,range->rq,findNow->Gb,findKey->Ba,checkKey->Gd
open Go.Builtin renaming append_->dW,delete_->s8,len_->rr
open Go.Result renaming andThen->jy
open Go.Proofs.Tryz renaming prog->aH
open Go.Value renaming int->cG,func->iZ,pointer->gS,slice->dX,oneCell'->cF
open Int renaming tdiv->gw
open List.Perm renaming cons->iL
open List.Pairwise renaming nil->mE
open Go.Addr renaming mk->cr
open List renaming replicate->eU,length->hR
open Prod renaming fst->pd,snd->pR
set_option maxRecDepth 100000
noncomputable section
namespace Go.Proofs.YtejdhbfjjgcljaaGreatDoor
open H
open _root_.Go.Proofs.Tryz
structure P1(ub u:H)(s:U)(l:J av)(d:o)(u':H)(n:au):Prop where
 one:∀x∈n.bO,hz u' x
 nodup:n.own.Nodup
 out:∀c∈n.own,ub c=none/\u' c≠none
 all:n.bB.all.Perm (l.map av.bi)
 ok:fT d n.bB
 rows:∀x∈n.bO,∀r∈x.1.rows,r∈l
 size:n.bO.length+1<=2*l.length
 tA:∀c z,u c=some z->s.aj≠some c->u' c=some z
namespace kE
def KB:hl aH 122=ak:=by kernel_rfl
def VH:hl aH 125=ak:=by kernel_rfl
def VQ(a b:N):kp aH 211 2 #[(0,.pointer (some ⟨a,0,none⟩)),(1,.pointer (some ⟨b,0,none⟩))]=some (167,[.pointer (some ⟨a,0,none⟩),.pointer (some ⟨b,0,none⟩)]):=by kernel_rfl
abbrev yd(n0 b3:N):ao:=.func (.func 122) #[] #[.pointer (some ⟨n0,0,none⟩),.pointer (some ⟨b3,0,none⟩)]
structure wu(ub:H)(n0 b3 cW:N)(d leaf:o):Prop where
 bK:ub.cell? ⟨n0,0,none⟩=some (.pointer (some ⟨cW,0,none⟩))
 c1:ub.cell? ⟨b3,0,none⟩=some (yd n0 b3)
 JZ:ub.cell? ⟨cW,0,none⟩=some (.int .i64 d)
 qI:ub.cell? ((cr cW 0 none).add 1)=some (.int .i64 leaf)
def wu.mono{ub u:H}{n0 b3 cW:N}{d leaf:o}(h:wu ub n0 b3 cW d leaf)(k:ub.le u):wu u n0 b3 cW d leaf:=⟨H.le.cell k h.bK,H.le.cell k h.c1,H.le.cell k h.JZ,H.le.cell k h.qI⟩
def V3{ub:H}{n11:N}{wd:o}{l:J av}{d:o}(I:ub.cell? ⟨n11,0,none⟩=some (.int .i64 wd))(h0:0<=wd)(h1:wd<d)(aA:∀r∈l,Ints ub r.s r.v)(bH:gX l d):
  Km ub l (.func (.func 125) #[] #[.pointer (some ⟨n11,0,none⟩)]):=by
 intro a b v K aE Z hle aq
 refine⟨_,_,_,rfl,hh VH,aCH a.id a.s b.id b.s ⟨n11,0,none⟩ v K ?_⟩
 have zu:=(aA a aE).mono hle
 have qK:=(aA b Z).mono hle
 obtain⟨aa,a2⟩:=bH.v a aE
 obtain⟨gf,gP⟩:=bH.v b Z
 have aX:=zu.len
 have Qg:=qK.len
 obtain⟨p,ad,M⟩:=zu.at (x:=wd) h0 (by omega)
 obtain⟨q,aO,ah⟩:=qK.at (x:=wd) h0 (by omega)
 have aP:=a2.2 wd.toNat (by omega)
 have aC:=gP.2 wd.toNat (by omega)
 have B2:=H.le.cell hle I
 exact⟨wd,B2,p,ad,⟨h0,by omega⟩,_,M,wd,B2,q,aO,⟨h0,by omega⟩,_,ah,⟨by have:=aP.1;have:=aP.2;have:=aC.1;have:=aC.2;omega,by have:=aP.1;have:=aP.2;have:=aC.1;have:=aC.2;omega⟩,aq _⟩
def abM{n0 b3 cW:N}{d leaf:o}(Ai:1<=leaf):∀(dc:N) {ub u:H} {s:U} {l:J av} {K:ay ba->H->Prop},l.length<=dc->wu ub n0 b3 cW d leaf->aD ub u 52 2 s (l.flatMap cB)->(∀r∈l,Ints ub r.s r.v)->gX l d->
  (l=[]->K none u)->(l≠[]->∀u' n,P1 ub u s l d u' n->lm 2 n.bB->K (some ⟨n.b,0,none⟩) u')->adk s ⟨n0,0,none⟩ ⟨b3,0,none⟩ u K:=by
 intro dc
 induction dc with
 |zero=>intro ub u s l K eG b4 ab aA bH h0 _;have ar:l=[]:=ly (by omega);have dw:s.n=l.length:=gY eY (by decide) ab.own.cC;apply amE;refine⟨λ_=>h0 ar,λal=>a6 (by rw[dw,ar];rfl) al⟩
 |succ dc aL=>
  intro ub u s l K eG b4 ab aA bH h0 aq;have dw:s.n=l.length:=gY eY (by decide) ab.own.cC;have aw:=bH.dim;have aqE:=bH.len;apply amE;refine⟨λaB=>h0 (ly (by omega)),λYr=>?_⟩;have al:l≠[]:=λe=>Yr (by rw[dw,e];rfl);have aq:=aq al;have b9:=ab.le;have b1:dS u s l:=⟨ab.own.cC,λr O=>(aA r O).mono b9⟩;refine⟨_,H.le.cell b9 b4.bK,_,rfl,d,H.le.cell b9 b4.JZ,?_⟩;refine alA b1 bH al λbo aG jK gV h1 h2 h3 f1 f2 f3=>?_;obtain⟨gf,gP,wz,BY,Hh,BZ⟩:=aea bH al;have ZZ:u.le gV:=h1.le;have atm:bo.n=(mm l).length:=h1.ints.len;have pE:aG.n=(ml l).length:=h2.ints.len;intro n11 tS;refine mG (zs:=[.int .i64 0]) rfl (by simp[cF]) ?_;have Sn:=bW (u:=gV) (b:=n11) (.cells [cG .i64 0].toArray 3 (0,0)) tS;have auY:ub n11=none:=b9.none (ZZ.none tS);refine⟨λx w=>0<=x/\gV.le w/\∃wd:o,0<=wd/\wd<d/\w n11=some (.cells #[.int .i64 wd] 3 (0,0)),λx _=>(d-x).toNat,⟨by omega,Sn,0,by omega,by omega,bf _ _ _⟩,?_⟩;rintro x w ⟨bG,lw,wd,wk,fu,hw⟩;have Qu:w.cell? ⟨n11,0,none⟩=some (.int .i64 wd):=a1 hw 0;have yC:=(h1.mono lw).ints;have ER:=(h2.mono lw).ints;have j8:∀{v:J o} {i:N},db v->i<v.length->-2147483647<=v.getD i 0/\v.getD i 0<=2147483647:=λaA hi=>aA.2 _ hi;obtain⟨da,YJ,mv⟩:=ER.at (x:=wd) wk (by omega);obtain⟨cT,Fb,iy⟩:=yC.at (x:=wd) wk (by omega);have g3:=j8 wz (i:=wd.toNat) (by omega);have g4:=j8 BY (i:=wd.toNat) (by omega);refine⟨λM=>?_,λM=>?_⟩;obtain⟨hF,gG,sI⟩:=yC.at (x:=x) bG M;obtain⟨dO,fg,yt⟩:=ER.at (x:=x) bG (by omega);have g1:=j8 wz (i:=x.toNat) (by omega);have g2:=j8 BY (i:=x.toNat) (by omega);refine⟨dO,fg,⟨bG,by omega⟩,_,yt,hF,gG,⟨bG,M⟩,_,sI,⟨by omega,by omega⟩,wd,Qu,da,YJ,⟨wk,by omega⟩,_,mv,wd,Qu,cT,Fb,⟨wk,by omega⟩,_,iy,⟨by omega,by omega⟩,λ_=>?_,λ_=>⟨⟨by omega,by omega⟩,⟨by omega,lw,wd,wk,fu,hw⟩,by dsimp only;omega⟩⟩;refine GK hw (by simp[cF]) ⟨⟨by omega,by omega⟩,⟨by omega,λc z I=>?_,x,bG,by omega,bf _ _ _⟩,by dsimp only;omega⟩;rw[bm _ _ (λe=>by rw[e,tS] at I;cases I)];exact lw c z I;have IX:u.le w:=ZZ.trans lw;have kR:ub.le w:=b9.trans IX;intro DW HA;have kl:∀kids:J bF,oF ((bF.mk 2 (mm l) (ml l) 0 (l.map av.bi) kids).hp []) d/\∀rows:J jN,oF ((bF.mk 2 (mm l) (ml l) 0 rows kids).hp []) d:=λkids=>
   ⟨⟨aw,mE,λx M=>(by cases M),.inr (.inl ⟨rfl,rfl,wz,BY,gf,gP,Hh⟩)⟩,λrows=>⟨aw,mE,λx M=>(by cases M),.inr (.inl ⟨rfl,rfl,wz,BY,gf,gP,Hh⟩)⟩⟩
  have ins:∀rows kids,∀Y∈l.map av.bi,mL ((bF.mk 2 (mm l) (ml l) 0 rows kids).hp []) Y.2:=λrows kids Y aB=>by obtain⟨r,O,rfl⟩:=bk.1 aB;refine⟨λ_ i hi=>BZ r O i ?_,λh=>(by cases h)⟩;have:=(bH.v r O).1;have ql:i<r.v.length:=hi;omega
  have Ny:DW ak w:=by
   refine HA ak w ⟨λ_ n31 rS=>?_,λe=>(by cases e)⟩;obtain⟨qj,iz⟩:∃bV:et,bV=⟨n31,2,bo,aG,mm l,ml l,0,s,l,⟨none,0,0⟩⟩:=⟨_,rfl⟩;have ri:=bW (u:=w) (b:=n31) (.cells (eP qj).toArray 213 (0,0)) rS;have key:=aq (w.ins n31 (.cells (eP qj).toArray 213 (0,0))) (.mk qj []);have c8:∀g,s.aj=some g->u g≠none:=λg W=>dF ab W;have Yn:∀{t:U},(∀g,t.aj=some g->w g≠none)->∀g,t.aj=some g->g≠n31:=λht g W e=>ht g W (by rw[e];exact rS);have yN:∀g,bo.aj=some g->w g≠none:=λg W=>dF (h1.mono lw) W;have FE:∀g,aG.aj=some g->w g≠none:=λg W=>dF (h2.mono lw) W;have ks:∀g,s.aj=some g->w g≠none:=λg W=>dF (ab.mono IX) W;have pH:(au.mk qj []).own=n31::(bo.aj.toList++aG.aj.toList++s.aj.toList):=by rw[au.rm,iz];simp[au.h,au.kids,et.dt,U.aj]
   refine(show K (some ⟨n31,0,none⟩) _ from ?_);have fP:(bA #[.int .i64 2,.slice bo.a bo.n bo.c,.slice aG.a aG.n aG.c,.int .u64 0,.int .u64 0,.slice none 0 0,.slice s.a s.n s.c,.slice none 0 0] 213 (0,0))=.cells (eP qj).toArray 213 (0,0):=by rw[iz];rfl
   rw[fP];have HQ:(au.mk qj []).b=n31:=by rw[iz];rfl
   rw[HQ] at key;refine key ⟨λy ah=>?_,?_,λc I=>?_,?_,?_,λy ah r O=>?_,?_,λc z I k4=>ri c z (IX c z I)⟩ (by rw[au.hn,iz];exact .mk rfl λk hk=>(by cases hk));rw[au.ij] at ah;obtain rfl:y=(qj,[]):=by simpa[au.h,au.kids] using ah
   subst iz;exact⟨bf _ _ _,((h1.mono lw).mono ri).own,((h2.mono lw).mono ri).own,((ab.mono IX).mono ri).own,λr O=>(aA r O).mono (kR.trans ri),⟨rfl,cg _,by show 0<=9223372036854775807;omega,.inl rfl⟩⟩;rw[pH,hK];refine⟨λhm=>?_,?_⟩;simp only[cK,r7] at hm;rcases hm with(hm|hm)|hm;exact Yn yN n31 hm rfl;exact Yn FE n31 hm rfl;exact Yn ks n31 hm rfl;have eJ:∀z:ay N,z.toList.Nodup:=λz=>by cases z<;>simp
   rw[gb,gb];refine⟨⟨eJ _,eJ _,λa aE b Z e=>?_⟩,eJ _,λa aE b Z e=>?_⟩;rw[r7] at aE Z;exact f1 (by rw[aE,Z,e]);rw[r7] at Z;simp only[cK,r7] at aE;subst e;rcases aE with aE|aE;exact c8 a Z (h1.fresh a aE);exact c8 a Z (h2.fresh a aE);rw[pH] at I;simp only[cE,cK,r7] at I;rcases I with rfl|(I|I)|I;exact⟨kR.none rS,by rw[bf];simp⟩;exact⟨b9.none (h1.fresh c I),λe=>yN c I (ri.none e)⟩;exact⟨b9.none (h2.fresh c I),λe=>FE c I (ri.none e)⟩;exact⟨ab.fresh c I,λe=>ks c I (ri.none e)⟩;rw[au.s5,au.ij];subst iz;simp[au.h,au.kids];rw[au.hn];subst iz;refine .mk (kl []).1 (λY aB=>ins _ _ Y ?_) λk hk=>(by cases hk);rw[bF.all_eq] at aB;have AJ:Y∈l.map av.bi++ []:=aB;rwa[kA] at AJ;rw[au.ij] at ah;obtain rfl:y=(qj,[]):=by simpa[au.h,au.kids] using ah
   subst iz;exact O;rw[au.ij];have:=vR.2 al;simp[au.kids];omega
  have inner:leaf<s.n->DW ax w:=by
   intro bC;refine HA ax w ⟨λe=>(by cases e),λ_=>?_⟩;obtain⟨se,AF⟩:∃se:H,se=λc=>if c=n11 then w n11 else ub c:=⟨_,rfl⟩;have amj:se n11=w n11:=by rw[AF];exact aV rfl
   have acr:∀{c},c≠n11->se c=ub c:=λ{c} I=>by rw[AF];exact az I
   have bl:ub.le se:=λc z I=>by rw[acr (λe=>by rw[e,auY] at I;cases I)];exact I
   have avU:se.le w:=λc z I=>by by_cases e:c=n11;rw[e,amj] at I;rw[e];exact I;rw[acr e] at I;exact kR c z I
   have auz:∀b,s.aj=some b->se b=none:=λb Z=>by rw[acr (λe=>dF ab Z (by rw[e];exact ZZ.none tS))];exact ab.fresh b Z
   have aoX:se.cell? ⟨n11,0,none⟩=some (.int .i64 wd):=a1 (amj.trans hw) 0;refine alp (ab.mono IX) avU auz (V3 aoX wk fu (λr O=>(aA r O).mono bl) bH) (by omega) λu32 m ad om Ac=>?_;have pG:=ad.length_eq;have my:ub.le u32:=λc z I=>Ac c z (kR c z I) λe=>by have:=ab.fresh c e;rw[I] at this;cases this
   have Yg:gX m d:=bH.mix ad;have sP:∀r∈m,Ints ub r.s r.v:=λr O=>aA r (ad.mem_iff.1 O);have asU:=b4.mono my;have Rb:dS u32 s m:=⟨om.own.cC,λr O=>(sP r O).mono my⟩;have gZ:=bt.cap om.own.cC;obtain⟨e0,Mj⟩:∃e0:N,e0=s.n/2:=⟨_,rfl⟩;have Wj:gw (s.n:o) 2=(e0:o):=by rw[Jt (by omega)];omega
   rw[Wj];have cL:dS u32 (s.part 0 e0 s.c 2) (m.take e0):=by have:=Rb.part (l:=0) (h:=e0) (m:=s.c) (by omega) (by omega) (by omega) (cg _);simpa using this
   have Rc:dS u32 (s.part e0 s.n s.c 2) (m.drop e0):=by have:=Rb.part (l:=e0) (h:=s.n) (m:=s.c) (by omega) (cg _) gZ (cg _);rwa[ho (by rw[nV];omega)] at this
   have OJ:∀{Y:H} {Q:U->H->Prop},Q (s.part 0 e0 s.c 2) Y->c4 aH (fR 22 (.slice s.a s.n s.c) none (some (.int .i64 (e0:o))) none) [.one .slice] Y Q:=λe6=>
    lj (P:=aH) ic (l:=0) (h:=e0) (m:=s.c) (.inl ⟨rfl,rfl⟩) (.inr rfl) (.inl ⟨rfl,rfl⟩) (by omega) (by omega) (cg _) gZ e6
   have Bk:∀{Y:H} {Q:U->H->Prop},Q (s.part e0 s.n s.c 2) Y->c4 aH (fR 22 (.slice s.a s.n s.c) (some (.int .i64 (e0:o))) none none) [.one .slice] Y Q:=λe6=>
    lj (P:=aH) ic (l:=e0) (h:=s.n) (m:=s.c) (.inr rfl) (.inl ⟨rfl,rfl⟩) (.inl ⟨rfl,rfl⟩) (by omega) gZ (cg _) gZ e6
   have gi:(m.take e0).length=e0:=by rw[gL];omega
   have hN:(m.drop e0).length=m.length-e0:=by rw[nV]
   have E7:m.take e0≠[]:=λe=>by rw[e] at gi;simp at gi;omega
   have yF:m.drop e0≠[]:=λe=>by rw[e] at hN;simp at hN;omega
   have Dk:∀{Y fj:H} {t:U} {k:J av} {Q:ay ba->H->Prop},u32.le Y->aD Y fj 52 2 t (k.flatMap cB)->k≠[]->k.length<=dc->k.Sublist m->(∀u' n,P1 Y fj t k d u' n->lm 2 n.bB->Y.le u'->Q (some ⟨n.b,0,none⟩) u')->
     hL aH (yd n0 b3) #[.slice t.a t.n t.c] [.one .ptr] fj Q:=λ{Y fj t k Q} aB iS hk X3 rQ e6=>
    ⟨_,_,_,rfl,hh KB,aL X3 (asU.mono aB) iS (λr O=>(sP r (rQ.mem O)).mono (my.trans aB)) (Yg.sub rQ) (λe=>a6 e hk) λ_ u' n I fk=>e6 u' n I fk λc z bQ=>I.tA c z (iS.le c z bQ) λe=>by have:=iS.fresh c e;rw[bQ] at this;cases this⟩
   have NQ:Own u32 3 1 bo ((mm l).flatMap encI):=(h1.mono lw).own.le λc z I bQ=>Ac c z bQ λe=>dF ab e (h1.fresh c I);have ajw:Own u32 3 1 aG ((ml l).flatMap encI):=(h2.mono lw).own.le λc z I bQ=>Ac c z bQ λe=>dF ab e (h2.fresh c I);have second:∀{Y jc:H} {t:U} {fa:au},u32.le Y->P1 u32 jc t (m.take e0) d Y fa->lm 2 fa.bB->nv (s.part e0 s.n s.c 2) Y (λ(sb:U) (DD:H)=>(H.le u32 DD)/\(hL aH (yd n0 b3) #[.slice sb.a sb.n sb.c] [.one .ptr] DD (λ(aaw:ay ba) (ma:H)=>(H.le u32 ma)/\(c4 aH (dA 211 2 #[(0,.pointer (some ⟨fa.b,0,none⟩)),(1,.pointer aaw)]) [.one .slice] ma (λ(l7:U) (hW:H)=>(H.le u32 hW)/\(∀n49:N,(hW n49=none)->K (some ⟨n49,0,none⟩) (hW.ins n49 (.cells #[.int .i64 2,.slice bo.a bo.n bo.c,.slice aG.a aG.n aG.c,.int .u64 0,.int .u64 0,.slice none 0 0,.slice none 0 0,.slice l7.a l7.n l7.c] 213 (0,0))))))))):=by
    intro Y jc t fa aB I tY;refine OQ (Rc.1.mono aB) (by show s.n-e0<=_;omega) λsb DD MA _=>⟨aB.trans MA.le,Dk aB MA yF (by omega) (N7 _ _) λma cc Z rU vz=>⟨aB.trans vz,?_⟩⟩;refine l8 (VQ fa.b cc.b) λg W=>?_;have sX:=bW (u:=ma) (b:=g) (.cells [gS (some ⟨fa.b,0,none⟩),.pointer (some ⟨cc.b,0,none⟩)].toArray 167 (0,0)) W;have mk:=aD.make (k:=1) (H.le.refl ma) W (cells:=[gS (some ⟨fa.b,0,none⟩),.pointer (some ⟨cc.b,0,none⟩)].toArray) (e:=167) (n:=2) (by omega) rfl;obtain⟨hW,M7⟩:∃hW,hW=ma.ins g (.cells [gS (some ⟨fa.b,0,none⟩),.pointer (some ⟨cc.b,0,none⟩)].toArray 167 (0,0)):=⟨_,rfl⟩;have XN:hW g≠none:=by rw[M7,bf];simp
    rw[<-M7] at sX mk ⊢;refine⟨(aB.trans vz).trans sX,λn49 CA=>?_⟩;obtain⟨kc,iz⟩:∃bV:et,bV=⟨n49,2,bo,aG,mm l,ml l,0,⟨none,0,0⟩,[],⟨some ⟨g,0,none⟩,2,2⟩⟩:=⟨_,rfl⟩;have fP:(bA #[.int .i64 2,.slice bo.a bo.n bo.c,.slice aG.a aG.n aG.c,.int .u64 0,.int .u64 0,.slice none 0 0,.slice none 0 0,.slice (some ⟨g,0,none⟩) 2 2] 213 (0,0))=.cells (eP kc).toArray 213 (0,0):=by rw[iz];rfl
    show K (some ⟨n49,0,none⟩) (hW.ins n49 (bA #[.int .i64 2,.slice bo.a bo.n bo.c,.slice aG.a aG.n aG.c,.int .u64 0,.int .u64 0,.slice none 0 0,.slice none 0 0,.slice (some ⟨g,0,none⟩) 2 2] 213 (0,0)));rw[fP];have yP:=bW (u:=hW) (b:=n49) (.cells (eP kc).toArray 213 (0,0)) CA;have key:=aq (hW.ins n49 (.cells (eP kc).toArray 213 (0,0))) (.mk kc [fa,cc]);have Xu:(au.mk kc [fa,cc]).b=n49:=by rw[iz];rfl
    rw[Xu] at key;have Ns:u32.le (hW.ins n49 (.cells (eP kc).toArray 213 (0,0))):=((aB.trans vz).trans sX).trans yP;have yN:∀c,bo.aj=some c->u32 c≠none:=λc I=>aas NQ I;have FE:∀c,aG.aj=some c->u32 c≠none:=λc I=>aas ajw I;have IQ:∀{c},u32 c≠none->Y c≠none:=λI e=>I (aB.none e);have IL:∀{c},Y c≠none->ma c≠none:=λI e=>I (vz.none e);have CU:∀{c},ma c≠none->hW c≠none:=λI e=>I (sX.none e);have ZK:∀{c},hW c≠none->(hW.ins n49 (.cells (eP kc).toArray 213 (0,0))) c≠none:=λI e=>I (yP.none e);have pH:(au.mk kc [fa,cc]).own=n49::((bo.aj.toList++aG.aj.toList++ [g])++(fa.own++cc.own)):=by rw[au.rm,iz];simp[au.h,au.kids,et.dt,U.aj]
    have EQ:(au.mk kc [fa,cc]).bO=(kc,[fa.b,cc.b])::(fa.bO++cc.bO):=by rw[au.ij];simp[au.h,au.kids]
    have IN:∀c∈(bo.aj.toList++aG.aj.toList++ [g])++(fa.own++cc.own),ub c=none/\hW c≠none:=λc cJ=>by simp only[cK,r7,fI] at cJ;rcases cJ with((cJ|cJ)|rfl)|cJ|cJ;exact⟨b9.none (h1.fresh c cJ),CU (IL (IQ (yN c cJ)))⟩;exact⟨b9.none (h2.fresh c cJ),CU (IL (IQ (FE c cJ)))⟩;exact⟨my.none (aB.none (vz.none W)),XN⟩;exact⟨my.none (I.out c cJ).1,CU (IL (I.out c cJ).2)⟩;exact⟨my.none (aB.none (Z.out c cJ).1),CU (Z.out c cJ).2⟩
    refine key ⟨λy ah=>?_,?_,λc cJ=>?_,?_,?_,λy ah r O=>?_,?_,λc z XB k4=>Ns c z (Ac c z (IX c z XB) k4)⟩ (by rw[au.hn,iz];refine .mk rfl λk hk=>?_;have de:k∈[fa.bB,cc.bB]:=hk;simp only[cE,qA,qB] at de;rcases de with rfl|rfl;exact tY;exact rU)
    rw[EQ] at ah;rcases cE.1 ah with rfl|ah;subst iz;exact⟨bf _ _ _,NQ.le λc z _ bQ=>Ns c z bQ,ajw.le λc z _ bQ=>Ns c z bQ,Own.nil _ _ _,λr O=>(by cases O),(mk.mono yP).own.cC⟩;rcases cK.1 ah with ah|ah;exact(I.one y ah).bM (λc z _ bQ=>yP c z (sX c z (vz c z bQ))) λr O=>(sP r (nW (I.rows y ah r O))).mono (my.trans Ns);exact(Z.one y ah).bM (λc z _ bQ=>yP c z (sX c z bQ)) λr O=>(sP r (uG (Z.rows y ah r O))).mono (my.trans Ns);rw[pH,hK];refine⟨λhm=>(IN n49 hm).2 CA,?_⟩;have eJ:∀z:ay N,z.toList.Nodup:=λz=>by cases z<;>simp
    rw[gb,gb,gb,gb];refine⟨⟨⟨eJ _,eJ _,λa aE b eH e=>?_⟩,by simp,λa aE b eH e=>?_⟩,⟨I.nodup,Z.nodup,λa aE b eH e=>?_⟩,λa aE b eH e=>?_⟩;rw[r7] at aE eH;exact f1 (by rw[aE,eH,e]);rw[fI] at eH;simp only[cK,r7] at aE;rw[<-e] at eH;subst eH;rcases aE with aE|aE;exact IL (IQ (yN _ aE)) W;exact IL (IQ (FE _ aE)) W;subst e;exact(I.out a aE).2 (Z.out a eH).1;subst e;simp only[cK,r7,fI] at aE eH;rcases aE with(aE|aE)|rfl;rcases eH with eH|eH;exact yN a aE (I.out a eH).1;exact IQ (yN a aE) (Z.out a eH).1;rcases eH with eH|eH;exact FE a aE (I.out a eH).1;exact IQ (FE a aE) (Z.out a eH).1;rcases eH with eH|eH;exact IL (I.out a eH).2 W;exact(Z.out a eH).2 W;rw[pH] at cJ;rcases cE.1 cJ with rfl|cJ;exact⟨my.none (((aB.trans vz).trans sX).none CA),by rw[bf];simp⟩;exact⟨(IN c cJ).1,ZK (IN c cJ).2⟩;rw[au.hn,bF.all_eq,iz];show([]++bF.jD ([fa,cc].map au.bB)).Perm _;rw[lu];show(fa.bB.all++(cc.bB.all++ [])).Perm _;rw[kA];refine(I.all.append Z.all).trans ?_;rw[<-dY,r6];exact ad.map _;rw[au.hn];have eh:∀x,x∈(bF.mk kc.aG kc.bJ kc.hi kc.cH (kc.rows.map av.bi) ([fa,cc].map au.bB)).all->x∈l.map av.bi:=λx M=>by rw[bF.all_eq] at M;subst iz;have fF:x∈[]++(fa.bB.all++(cc.bB.all++ [])):=M;rw[lu,kA] at fF;refine(ad.map av.bi).mem_iff.1 ?_;rcases cK.1 fF with fF|fF;obtain⟨r,O,rfl⟩:=bk.1 (I.all.mem_iff.1 fF);exact hS (nW O);obtain⟨r,O,rfl⟩:=bk.1 (Z.all.mem_iff.1 fF);exact hS (uG O)
    subst iz;refine .mk ((kl []).2 []) (λx M=>ins [] [] x (eh x M)) λk hk=>?_;have de:k∈[fa.bB,cc.bB]:=hk;simp only[cE,qA,qB] at de;rcases de with rfl|rfl;exact I.ok;exact Z.ok;rw[EQ] at ah;rcases cE.1 ah with rfl|ah;subst iz;cases O;rcases cK.1 ah with ah|ah;exact ad.mem_iff.1 (nW (I.rows y ah r O));exact ad.mem_iff.1 (uG (Z.rows y ah r O));rw[EQ,h5,eC];have aP:=I.size;have aC:=Z.size;omega
   have left:∀{Y:H} {Q:U->H->Prop},u32.le Y->(∀t fj,aD Y fj 52 2 t ((m.take e0).flatMap cB)->Q t fj)->nv (s.part 0 e0 s.c 2) Y Q:=λ{Y Q} aB e6=>
    OQ (cL.1.mono aB) (by show e0-0<=_;omega) λap u' bQ _=>e6 ap u' bQ
   have v:=H.le.cell my b4.c1;refine⟨by decide,⟨by omega,by omega⟩,_,v,_,v,?_,?_⟩;refine OJ ⟨H.le.refl _,left (H.le.refl _) λt fj iS=>⟨iS.le,?_,?_⟩,?_⟩;refine Dk (H.le.refl _) iS E7 (by omega) (rz _ _) λu' fa I tY hle=>⟨hle,Bk ⟨hle,second hle I tY⟩⟩;refine Bk ⟨iS.le,Dk (H.le.refl _) iS E7 (by omega) (rz _ _) λu' fa I tY hle=>⟨hle,second hle I tY⟩⟩;refine Bk ⟨H.le.refl _,left (H.le.refl _) λt fj iS=>⟨iS.le,Dk (H.le.refl _) iS E7 (by omega) (rz _ _) λu' fa I tY hle=>⟨hle,second hle I tY⟩⟩⟩;refine Bk ⟨H.le.refl _,OJ ⟨H.le.refl _,left (H.le.refl _) λt fj iS=>⟨iS.le,Dk (H.le.refl _) iS E7 (by omega) (rz _ _) λu' fa I tY hle=>⟨hle,second hle I tY⟩⟩⟩⟩
  refine⟨_,H.le.cell kR b4.bK,_,rfl,leaf,H.le.cell kR b4.qI,λhle=>Ny,λwW=>⟨wd,Qu,cT,Fb,⟨wk,by omega⟩,_,iy,wd,Qu,da,YJ,⟨wk,by omega⟩,_,mv,?_⟩⟩;by_cases e:(mm l).getD wd.toNat 0=(ml l).getD wd.toNat 0;dsimp only;rw[lP e];exact Ny;dsimp only;rw[nY e];exact inner (by omega)
end kE
section
variable{l dl:J (o×ao)}{u u':H}{b r:N}{P:dR}{t k e:dC}{x:o}{Y v:ao}
def MapEntry.iX(e:y8):ao×ao:=(e.key,e.val)
def nb(p:o×ao):ao×ao:=(.int .i64 p.1,p.2)
def ZW{p q:o×ao}(h:nb p=nb q):p=q:=by cases p;cases q;simp only[nb,Gc,Value.int.injEq,true_and] at h;obtain⟨h1,h2⟩:=h;subst h1;subst h2;rfl
structure adC(es:cu y8)(clock:N)(l:J (o×ao)):Prop where
 iX:es.toList.map MapEntry.iX=l.map nb
 born:(es.toList.map (·.born)).Nodup
 lt:∀e∈es.toList,e.born<clock
 nodup:(l.map (·.1)).Nodup
def fs(u:H)(b:N)(l:J (o×ao)):Prop:=∃es clock,u b=some (.map es clock)/\adC es clock l
def fs.mono(h:fs u b l)(hu:u.le u'):fs u' b l:=by obtain⟨es,c,h1,h2⟩:=h;exact⟨es,c,hu _ _ h1,h2⟩
def fs.else(h:fs u b l)(hu:∀z,u b=some z->u' b=some z):fs u' b l:=by obtain⟨es,c,h1,h2⟩:=h;exact⟨es,c,hu _ h1,h2⟩
def fN(l:J (o×ao))(x:o):ay ao:=(l.find? λp=>p.1==x).map (·.2)
def K9(h:fN l x=some v):(x,v)∈l:=by
 unfold fN at h;cases ac:l.find? λp=>p.1==x with
 |none=>rw[ac] at h;cases h
 |some p=>
  rw[ac] at h;have h1:=Jl ac;have h2:=Jk ac;simp only[uA,j2] at h;have:p.1=x:=by simpa using h1
  rw[<-this,<-h];exact h2
def yj:fN l x=none↔x∉l.map (·.1):=by unfold fN;rw[aa5,JA];simp only[S6,bk,Prod.exists,exists_and_right,exists_eq_right,not_exists,Prod.forall];exact⟨λh v hm=>h x v hm rfl,λh a b hm e=>h b (e▸hm)⟩
def afn(ae:(l.map (·.1)).Nodup):fN l x=some v↔(x,v)∈l:=by
 refine⟨K9,λh=>?_⟩;cases W:fN l x with
 |none=>exact a6 (bk.2 ⟨_,h,rfl⟩) (yj.1 W)|some cm=>
  have bL:=K9 W;have:∀{l:J (o×ao)},(l.map (·.1)).Nodup->(x,v)∈l->(x,cm)∈l->v=cm:=by
   intro l;induction l with
   |nil=>intro _ h;cases h
   |cons p l aL=>intro ae h1 h2;have h3:=hK.1 ae;rcases cE.1 h1 with aP|h1;rcases cE.1 h2 with aC|h2;rw[<-aC] at aP;cases aP;rfl;exact(h3.1 (bk.2 ⟨_,h2,by rw[<-aP]⟩)).elim;rcases cE.1 h2 with aC|h2;exact(h3.1 (bk.2 ⟨_,h1,by rw[<-aC]⟩)).elim;exact aL h3.2 h1 h2
  rw[this ae h bL]
def aqg(x:o):∀(es:J y8) (l:J (o×ao)) (i:N),es.map MapEntry.iX=l.map nb->
  (fN l x=none->Gb (.int .i64) (.int .i64 x) es i=some none)/\(∀v,fN l x=some v->∃j,Gb (.int .i64) (.int .i64 x) es i=some (some (i+j,v))/\l[j]?=some (x,v)):=by
 intro es
 induction es with
 |nil=>
  intro l i h;have:l=[]:=by simpa using h.symm
  subst this;exact⟨λ_=>rfl,λv aA=>(by simp[fN] at aA)⟩
 |cons e es aL=>
  intro l i h;cases l with
  |nil=>simp at h|cons y l=>
   simp only[gl,y9,MapEntry.iX,nb,Gc] at h;obtain⟨⟨hk,aA⟩,O⟩:=h;obtain⟨i1,i2⟩:=aL l (i+1) O;unfold Gb;rw[hk,aA];simp only[Instr.sameNow,qx];by_cases iV:y.1=x;have Z:(x==y.1)=ak:=by simpa using iV.symm
   have W:fN (y::l) x=some y.2:=by simp[fN,iV]
   rw[Z,W];refine⟨λh=>(by cases h),λv aA=>⟨0,?_,?_⟩⟩;cases aA;rfl;cases aA;simp[<-iV];have Z:(x==y.1)=ax:=by simpa using λh=>iV h.symm
   have W:fN (y::l) x=fN l x:=by
    have:(y.1==x)=ax:=by simpa using iV
    simp[fN,Gm,this]
   rw[Z,W];refine⟨i1,λv aA=>?_⟩;obtain⟨j,h1,h2⟩:=i2 v aA;exact⟨j+1,by rw[h1,show i+1+j=i+(j+1) by omega],by simpa using h2⟩
structure n5(P:dR)(t k e:dC)(Y:ao):Prop where
 fb:P.underlying t=some (.map k e)
 key:P.underlying k=some (.int .i64)
 zero:∀w,(zeroValue e).run P w=.ok Y w
def n5.check(T:n5 P t k e Y)(b:aI)(x:o)(w:b6):(Gd b 10000 k (.int .i64 x)).run P w=.ok () w:=by show(Gd b (9999+1) k (.int .i64 x)).run P w=.ok () w;unfold Gd;simp[eS,iq T.key,jy]
def n5.find(T:n5 P t k e Y){es:cu y8}(h:es.toList.map MapEntry.iX=l.map nb)(x:o)(w:b6):
  (fN l x=none->(Ba k (.int .i64 x) es.toList).run P w=.ok none w)/\(∀v,fN l x=some v->∃j,(Ba k (.int .i64 x) es.toList).run P w=.ok (some (j,v)) w/\l[j]?=some (x,v)):=by
 obtain⟨h1,h2⟩:=aqg x es.toList l 0 h
 constructor
 intro M
 simp[Ba,eS,iq T.key,jy,h1 M]
 intro v aA
 obtain⟨j,aM,ar⟩:=h2 v aA
 rw[jI] at aM
 exact⟨j,by simp[Ba,eS,iq T.key,jy,aM],ar⟩
def OA(T:n5 P t k e Y)(h:fs u b l){ct:aK}(y:ct.den)(ah:(fN l x).getD Y=ct.enc y){K:ct.den->H->Prop}(aq:K y u):
  c4 P (gK t (.map (some b)) (.int .i64 x) ax) [.one ct] u K:=by
 obtain⟨es,c,Z,ar⟩:=h
 refine .C3 (c:=ct) y (λw hw=>?_) aq
 have W:=za (P:=P) (hw _ _ Z)
 have I:=T.check es.isEmpty x w
 obtain⟨f1,f2⟩:=T.find ar.iX x w
 cases M:fN l x with
 |none=>rw[M] at ah;have jX:Y=ct.enc y:=ah;simp[gK,eS,iq T.fb,W,I,f1 M,jy,T.zero,jX]
 |some v=>rw[M] at ah;have jX:v=ct.enc y:=ah;obtain⟨j,aM,_⟩:=f2 v M;simp[gK,eS,iq T.fb,W,I,aM,jy,jX]
def c4.aA9{m:Sem ao}{c d:aK}{K:c.den->d.den->H->Prop}(x:c.den)(y:d.den)(h:∀w,Sub u w->m.run P w=.ok (.tuple #[c.enc x,d.enc y]) w)(aq:K x y u):c4 P m [.one c,.one d] u K:=by intro w hw;exact⟨_,w,u,h w hw,⟨[c.enc x,d.enc y],.cons x (.cons y .nil),rfl,(aK.uT c x _).2 ((aK.uT d y _).2 aq)⟩,Step.refl hw⟩
def tf(T:n5 P t k e Y)(h:fs u b l){ct:aK}(y:ct.den)(ah:(fN l x).getD Y=ct.enc y){K:ct.den->aI->H->Prop}(aq:K y (fN l x).isSome u):
  c4 P (gK t (.map (some b)) (.int .i64 x) ak) [.one ct,.one .bool] u K:=by
 obtain⟨es,c,Z,ar⟩:=h
 refine c4.aA9 (c:=ct) (d:=.bool) y _ (λw hw=>?_) aq
 have W:=za (P:=P) (hw _ _ Z)
 have I:=T.check es.isEmpty x w
 obtain⟨f1,f2⟩:=T.find ar.iX x w
 cases M:fN l x with
 |none=>rw[M] at ah;have jX:Y=ct.enc y:=ah;simp[gK,eS,iq T.fb,W,I,f1 M,jy,T.zero,jX,aK.enc]
 |some v=>rw[M] at ah;have jX:v=ct.enc y:=ah;obtain⟨j,aM,_⟩:=f2 v M;simp[gK,eS,iq T.fb,W,I,aM,jy,jX,aK.enc]
def Dt(T:n5 P t k e Y)(h:fs u b l)(M:fN l x=none){K:H->Prop}
  (aq:∀z,fs (u.ins b z) b (l++ [(x,v)])->K (u.ins b z)):
  c4 P (unit (kV t (.map (some b)) (.int .i64 x) v)) [] u K:=by
 obtain⟨es,c,Z,ar⟩:=h
 intro w hw
 have W:=za (P:=P) (hw _ _ Z)
 have aM:=(T.find ar.iX x w).1 M
 have I:=T.check ax x w
 have jG:=Jp (P:=P) (.map (es.push {key:=.int .i64 x,val:=v,born:=c}) (c+1)) (hw _ _ Z)
 refine⟨_,_,u.ins b (.map (es.push {key:=.int .i64 x,val:=v,born:=c}) (c+1)),?_,⟨[],.nil,rfl,aq _ ⟨_,_,bf _ _ _,?_,?_,?_,?_⟩⟩,step_block hw Z _⟩
 simp[unit,kV,eS,iq T.fb,W,I,aM,jy,jG]
 rfl
 simp[ar.iX,MapEntry.iX,nb]
 rw[Array.toList_push,dY]
 refine gb.2 ⟨ar.born,by simp,λa aE d aw=>?_⟩
 obtain⟨gq,he,rfl⟩:=bk.1 aE
 have:=ar.lt gq he
 simp only[gl,Df,fI] at aw
 omega
 intro gq he
 rw[Array.toList_push] at he
 rcases cK.1 he with he|he
 have:=ar.lt gq he;omega
 obtain rfl:gq=_:=by simpa using he
 exact Nat.lt_succ_self c
 rw[dY]
 refine gb.2 ⟨ar.nodup,by simp,λa aE d aw=>?_⟩
 have:=yj.1 M
 simp only[gl,Df,fI] at aw
 exact λe=>this (by rw[<-aw,<-e];exact aE)
def erase_filter(ae:(l.map (·.1)).Nodup){j:N}(h:l[j]?=some (x,v)):l.eraseIdx j=l.filter λp=>p.1 !=x:=by
 induction l generalizing j with
 |nil=>simp at h|cons p l aL=>
  have h3:=hK.1 ae;cases j with
  |zero=>
   simp only[A3,j2] at h;subst h;have:l.filter (λp=>p.1 !=x)=l:=pS.2 λq aO=>by have:q.1≠x:=λe=>h3.1 (bk.2 ⟨q,aO,e⟩);simpa using this
   simp[this]|succ j=>simp only[xC] at h;have ad:p.1≠x:=λe=>h3.1 (bk.2 ⟨_,du h,e.symm⟩);rw[List.eraseIdx_cons_succ,aL h3.2 h,List.filter_cons_of_pos (by simpa using ad)]
def Oz{bx ZN:dC}(T:n5 P t k e Y)(h:fs u b l){K:H->Prop}
  (aq:∀z,fs (u.ins b z) b (l.filter λp=>p.1 !=x)->K (u.ins b z)):
  c4 P (s8 #[t,ZN] bx #[.map (some b),.int .i64 x]) [] u K:=by
 obtain⟨es,c,Z,ar⟩:=h
 intro w hw
 have W:=za (P:=P) (hw _ _ Z)
 have I:=T.check es.isEmpty x w
 obtain⟨f1,f2⟩:=T.find ar.iX x w
 cases M:fN l x with
 |none=>
  have jG:=Jp (P:=P) (.map es c) (hw _ _ Z);have ac:l.filter (λp=>p.1 !=x)=l:=pS.2 λq aO=>by have:q.1≠x:=λe=>yj.1 M (bk.2 ⟨q,aO,e⟩);simpa using this
  refine⟨_,_,u.ins b (.map es c),?_,⟨[],.nil,rfl,aq _ ⟨_,_,bf _ _ _,by rw[ac];exact ar⟩⟩,step_block hw Z _⟩;simp[s8,eS,iq T.fb,W,I,f1 M,jy,jG];rfl
 |some v=>
  obtain⟨j,aM,RI⟩:=f2 v M;have jG:=Jp (P:=P) (.map (es.eraseIdxIfInBounds j) c) (hw _ _ Z);have het:(es.eraseIdxIfInBounds j).toList=es.toList.eraseIdx j:=by simp
  have gH:(es.toList.eraseIdx j).Sublist es.toList:=List.eraseIdx_sublist _ _;refine⟨_,_,u.ins b (.map (es.eraseIdxIfInBounds j) c),?_,⟨[],.nil,rfl,aq _ ⟨_,_,bf _ _ _,?_,?_,?_,?_⟩⟩,step_block hw Z _⟩;simp[s8,eS,iq T.fb,W,I,aM,jy,jG];rfl;have key:∀{α β:Type} (f:α->β) (L:J α) (j:N),(L.eraseIdx j).map f=(L.map f).eraseIdx j:=by
    intro α β f L;induction L with
    |nil=>intro j;rfl
    |cons a L aL=>intro j;cases j with
     |zero=>rfl|succ j=>simp[aL j]
  rw[het,key,ar.iX,<-key,erase_filter ar.nodup RI];rw[het];exact ar.born.sublist (gH.map _);intro gq he;rw[het] at he;exact ar.lt gq (gH.mem he);exact ar.nodup.sublist (aaY _ JF)
def v7{bx:dC}(T:n5 P t k e Y)(h:fs u b l){K:o->H->Prop}(aq:K l.length u):
  c4 P (rr #[t] bx #[.map (some b)]) [.one (.int .i64)] u K:=by
 obtain⟨es,c,Z,ar⟩:=h
 have hlen:es.size=l.length:=by have:=dV hR ar.iX;simpa using this
 refine .C3 (c:=.int .i64) (l.length:o) (λw hw=>?_) aq
 have W:=za (P:=P) (hw _ _ Z)
 simp[rr,eS,iq T.fb,W,jy,hlen]
 rfl
def GC{K:ay N->H->Prop}(aq:∀b z,u b=none->fs (u.ins b z) b []->K (some b) (u.ins b z)):c4 P (pO t none) [.one .map] u K:=
 .one (c:=.map) λw hw=>⟨some w.heap.size,_,_,Go.RowKit.run_makeMap t w,aq _ _ (hw.none (cg _)) ⟨#[],0,bf _ _ _,rfl,by simp,by simp,by simp⟩,Step.AV hw _⟩
def mM(u:H)(r b:N)(l dl:J (o×ao)):Prop:=
 ∃es clock seen,u b=some (.map es clock)/\adC es clock l/\u r=some (.mapIter (some b) clock seen clock)/\
  ∃ds:J y8,seen.toList=ds.map (·.born)/\ds.map MapEntry.iX=dl.map nb/\(∀d∈ds,d∈es.toList)/\(dl.map (·.1)).Nodup
def mM.else(h:mM u r b l dl)(Z:∀z,u b=some z->u' b=some z)(O:∀z,u r=some z->u' r=some z):mM u' r b l dl:=by obtain⟨es,c,seen,h1,h2,h3,a7⟩:=h;exact⟨es,c,seen,Z _ h1,h2,O _ h3,a7⟩
def mM.map(h:mM u r b l dl):fs u b l:=by obtain⟨es,c,seen,h1,h2,_⟩:=h;exact⟨es,c,h1,h2⟩
def mM.sub(h:mM u r b l dl):∀p∈dl,p∈l:=by
 obtain⟨es,c,seen,h1,h2,h3,ds,a7,bE,fO,kL⟩:=h;intro p ad;have:nb p∈ds.map MapEntry.iX:=by rw[bE];exact bk.2 ⟨p,ad,rfl⟩
 obtain⟨d,aw,e⟩:=bk.1 this;have:nb p∈l.map nb:=by rw[<-h2.iX,<-e];exact bk.2 ⟨d,fO d aw,rfl⟩
 obtain⟨q,aO,e⟩:=bk.1 this;rw[<-ZW e];exact aO
def mM.rH(h:mM u r b l dl):(dl.map (·.1)).Nodup:=by obtain⟨es,c,seen,h1,h2,h3,ds,a7,bE,fO,kL⟩:=h;exact kL
def JQ(T:n5 P t k e Y)(h:fs u b l){K:ay ba->H->Prop}(aq:∀r z,u r=none->mM (u.ins r z) r b l []->K (some ⟨r,0,none⟩) (u.ins r z)):
  c4 P (rq t (.map (some b))) [.one .ptr] u K:=by
 obtain⟨es,c,Z,ar⟩:=h
 refine .one (c:=.ptr) λw hw=>?_
 have ae:=hw.none (cg _)
 have al:b≠w.heap.size:=λe=>by rw[<-e,Z] at ae;cases ae
 refine⟨some ⟨w.heap.size,0,none⟩,w.alloc (.mapIter (some b) c #[] c),_,?_,aq w.heap.size (.mapIter (some b) c #[] c) ae ⟨es,c,#[],by rw[bm _ _ al];exact Z,ar,bf _ _ _,[],rfl,rfl,λd aw=>(by cases aw),by simp⟩,Step.AV hw _⟩
 have W:=za (P:=P) (hw _ _ Z)
 simp[rq,eS,iq T.fb,W,jy,aK.enc]
def apR{es:J y8}(ae:(es.map (·.born)).Nodup){d e:y8}(aw:d∈es)(he:e∈es)(h:d.born=e.born):d=e:=by
 induction es with
 |nil=>cases aw
 |cons x es aL=>have h3:=hK.1 ae;rcases cE.1 aw with h1|h1;rcases cE.1 he with h2|h2;rw[h1,h2];exact(h3.1 (bk.2 ⟨e,h2,by rw[<-h,h1]⟩)).elim;rcases cE.1 he with h2|h2;exact(h3.1 (bk.2 ⟨d,h1,by rw[h,h2]⟩)).elim;exact aL h3.2 h1 h2
def axl(ar:(l.map (·.1)).Nodup)(aw:(dl.map (·.1)).Nodup)(h1:∀p∈dl,p∈l)(h2:∀p∈l,p∈dl):dl.Perm l:=by have nd:∀{l:J (o×ao)},(l.map (·.1)).Nodup->l.Nodup:=λ{l} h=>(ta.1 h).imp λh e=>h (by rw[e]);exact(Ti (nd aw) (nd ar)).2 λp=>⟨h1 p,h2 p⟩
def I2(h:mM u r b l dl){lA:H->Prop}{P2:ao->ao->H->Prop}(h0:dl.Perm l->lA u)
  (h1:∀p z,p∈l->p.1∉dl.map (·.1)->mM (u.ins r z) r b l (dl++ [p])->P2 (.int .i64 p.1) p.2 (u.ins r z)):wx P (.pointer (some ⟨r,0,none⟩)) u lA P2:=by
 have gH:=h.sub
 obtain⟨es,c,seen,Z,ar,O,ds,eb,dE,tX,MQ⟩:=h
 intro w hw
 have al:r≠b:=λe=>by rw[e,Z] at O;cases O
 have MU:∀e∈es.toList,seen.contains e.born=ak↔e∈ds:=by intro e he;rw[Array.contains_iff_mem,<-F3,eb,bk];exact⟨λ⟨d,aw,gq⟩=>apR ar.born (tX d aw) he gq▸aw,λaw=>⟨e,aw,rfl⟩⟩
 have WZ:∀e∈(leftOf es seen).toList,e∈es.toList/\e∉ds:=λe he=>by unfold leftOf at he;rw[Array.toList_filter] at he;have bL:=hT.1 he;refine⟨bL.1,λaw=>?_⟩;have:=(MU e bL.1).2 aw;rw[this] at bL;simp at bL
 have WY:∀e∈es.toList,e∉ds->e∈(leftOf es seen).toList:=λe he aw=>by
  unfold leftOf;rw[Array.toList_filter];refine hT.2 ⟨he,?_⟩;cases I:seen.contains e.born with
  |true=>exact a6 ((MU e he).1 I) aw|false=>rfl
 rcases run_next_at (P:=P) w 0 r b c c seen es c (hw _ _ O) (hw _ _ Z) ar.lt (cg _) with⟨aB,mV⟩|⟨e,asp,fu,dI,mV⟩
 refine⟨w,u,.inl ⟨mV,h0 ?_⟩,Step.refl hw⟩
 have arf:leftOf es seen=#[]:=Array.eq_empty_of_size_eq_zero aB
 refine axl ar.nodup MQ gH λp ad=>?_
 have:nb p∈es.toList.map MapEntry.iX:=by rw[ar.iX];exact bk.2 ⟨p,ad,rfl⟩
 obtain⟨e,he,aP⟩:=bk.1 this
 have aw:e∈ds:=ajP λae=>by have:=WY e he ae;rw[arf] at this;simp at this
 have:nb p∈dl.map nb:=by rw[<-dE,<-aP];exact bk.2 ⟨e,aw,rfl⟩
 obtain⟨q,aO,aC⟩:=bk.1 this
 rw[<-ZW aC];exact aO
 have aii:Sub u fu:=by rcases dI with rfl|rfl<;>exact hw
 have aAz:Step u [] w u [] fu:=by rcases dI with rfl|rfl;exact Step.refl hw;exact Step.Qy hw (Jo w.drawn)
 obtain⟨LQ,bY⟩:=WZ _ asp
 obtain⟨p,ad,sT⟩:∃p∈l,nb p=MapEntry.iX e:=by
  have:MapEntry.iX e∈l.map nb:=by rw[<-ar.iX];exact bk.2 ⟨e,LQ,rfl⟩
  obtain⟨p,ad,aP⟩:=bk.1 this;exact⟨p,ad,aP⟩
 have H6:e.key=.int .i64 p.1:=(dV pd sT).symm
 have jT:e.val=p.2:=(dV pR sT).symm
 have MG:p.1∉dl.map (·.1):=by
  intro hm;obtain⟨q,aO,aP⟩:=bk.1 hm;have xc:=gH q aO;have YL:q=p:=by have h1:=(afn ar.nodup (x:=p.1) (v:=q.2)).2 (by rw[<-aP];exact xc);have h2:=(afn ar.nodup (x:=p.1) (v:=p.2)).2 ad;rw[h1] at h2;cases q;cases p;simp only[j2] at h2 aP;rw[h2,aP]
  have:nb p∈ds.map MapEntry.iX:=by rw[dE,<-YL];exact bk.2 ⟨q,aO,rfl⟩
  obtain⟨d,aw,aC⟩:=bk.1 this;have XC:d=e:=by
   have as5:MapEntry.iX d=MapEntry.iX e:=by rw[aC,sT]
   obtain⟨m,hm,em⟩:=pc.1 (tX d aw);obtain⟨n,ae,aeP⟩:=pc.1 LQ;have q5:m=n:=by
    have hlen:es.toList.length=l.length:=by have:=dV hR ar.iX;simpa using this
    have cx:(l.map nb)[m]?=some (MapEntry.iX d):=by rw[<-ar.iX,iD,cn hm,em];rfl
    have cS:(l.map nb)[n]?=some (MapEntry.iX e):=by rw[<-ar.iX,iD,cn ae,aeP];rfl
    have nM:l[m]'(by omega)=l[n]'(by omega):=by rw[as5] at cx;rw[iD,cn (by omega)] at cx cS;exact ZW (cO (cx.trans cS.symm))
    rcases SR m n with bL|bL|bL;have:=nX.1 ar.nodup m n (by simp;omega) (by simp;omega) bL;simp only[Di] at this;exact a6 (by rw[nM]) this;exact bL;have:=nX.1 ar.nodup n m (by simp;omega) (by simp;omega) bL;simp only[Di] at this;exact a6 (by rw[nM]) this
   subst q5;rw[<-em,<-aeP]
  exact bY (XC▸aw)
 refine⟨_,u.ins r (.mapIter (some b) c (seen.push e.born) c),.inr ⟨_,_,mV,?_⟩,aAz.trans (step_block aii O _)⟩
 rw[H6,jT]
 refine h1 p _ ad MG ⟨es,c,seen.push e.born,by rw[bm _ _ (dv al)];exact Z,ar,bf _ _ _,ds++ [e],by simp[eb],?_,?_,?_⟩
 rw[dY,dE,dY];simp[sT]
 intro d aw
 rcases cK.1 aw with aw|aw
 exact tX d aw
 obtain rfl:d=e:=by simpa using aw
 exact LQ
 rw[dY]
 refine gb.2 ⟨MQ,by simp,λa aE d aw=>?_⟩
 simp only[gl,Df,fI] at aw
 exact λe=>MG (by rw[<-aw,<-e];exact aE)
def Hr{p:o×ao}(h:mM u r b l (dl++ [p])){K:ao->ao->H->Prop}(aq:K (.int .i64 p.1) p.2 u):ww P (.pointer (some ⟨r,0,none⟩)) u K:=by
 obtain⟨es,c,seen,Z,ar,O,ds,eb,dE,tX,MQ⟩:=h;intro w hw;obtain⟨Ee,e,rfl⟩:∃Ee e,ds=Ee++ [e]:=by rcases List.eq_nil_or_concat ds with h|⟨a,b,h⟩;rw[h] at dE;simp at dE;exact⟨a,b,by rw[h,List.concat_eq_append]⟩
 have hk:MapEntry.iX e=nb p:=by have:=dV List.getLast? dE;simpa using this
 have H6:e.key=.int .i64 p.1:=dV pd hk;have jT:e.val=p.2:=dV pR hk;have MU:seen=(Ee.map (·.born)).toArray.push e.born:=by apply C7;rw[eb];simp
 rw[MU] at O;have:=run_entry_at (P:=P) w r b c (Ee.map (·.born)).toArray es c e (hw _ _ O) (hw _ _ Z) (tX e (by simp)) ar.born;exact⟨_,_,w,u,this,by rw[H6,jT];exact aq,Step.refl hw⟩
end
namespace kE
def KC:hl aH 256=ak:=by kernel_rfl
def VJ:hl aH 258=ak:=by kernel_rfl
def Wc{ub:H}{n0:N}{id:o}(bK:ub.cell? ⟨n0,0,none⟩=some (.int .i64 id)):P5 ub (.func (.func 258) #[] #[.pointer (some ⟨n0,0,none⟩)]) λr=>decide (r.id=id):=λr v K aA aq=>
 .inl ⟨_,_,_,rfl,hh VJ,aCA r.id r.s ⟨n0,0,none⟩ v K ⟨_,H.le.cell (show ub.le v from aA) bK,aq⟩⟩
def abN{ub:H}{n0 b3:N}{id:o}(bK:ub.cell? ⟨n0,0,none⟩=some (.int .i64 id))(c1:ub.cell? ⟨b3,0,none⟩=some (.func (.func 256) #[] #[.pointer (some ⟨n0,0,none⟩),.pointer (some ⟨b3,0,none⟩)])):
  ∀(n:au) {u:H} {K:H->Prop},ub.le u->(∀x∈n.bO,hz u x)->n.own.Nodup->(∀c∈n.own,ub c=none)->(∀x∈n.bO,∀r∈x.1.rows,Ints ub r.s r.v)->n.bO.length<=10000000->(∀u' n',G5 id n u' n'->(∀c z,u c=some z->c∉n.own->u' c=some z)->(∀c,u c≠none->u' c≠none)->K u')->
   adf (some ⟨n.b,0,none⟩) ⟨n0,0,none⟩ ⟨b3,0,none⟩ u K:=by
 intro n
 induction n using au.ind with
 |h n aL=>
  intro u K b9 oV bY hZ k6 cY aq;have bV:(n.h,n.kids.map au.b)∈n.bO:=by rw[au.ij];exact gh ..
  have h0:=oV _ bV;have Z:n.b=n.h.b:=rfl;rw[au.rm] at bY hZ;have nI:=bY;rw[gb] at nI;obtain⟨gj,fp,sQ⟩:=nI;have MX:∀g,n.h.bc.aj=some g->g∈n.h.dt:=λg W=>by simp[et.dt,W]
  have MY:n.h.bc.aj≠some n.h.b:=λe=>by unfold et.dt at gj;rw[hK] at gj;exact gj.1 (by simp[e])
  have avR:n.kids.length<=10000000:=by
   have h1:n.bO.length=1+(n.kids.flatMap au.bO).length:=by rw[au.ij,h5];omega
   have h2:∀ks:J au,ks.length<=(ks.flatMap au.bO).length:=λks=>by
    induction ks with
    |nil=>simp|cons k ks FA=>rw[gB,eC,h5];have:=k.Rq;omega
   have:=h2 n.kids;omega
  apply aCz;refine⟨_,rfl,n.h.bc,a1 h0.cell 6,?_⟩;refine alm h0.rws.f (Wc bK) b9 (λg W=>hZ g (iY _ (MX g W))) λs2 jM dz jS iQ=>?_;have Af:(n.h.rows.filter λr=>!decide (r.id=id))=n.h.rows.filter λr=>r.id !=id:=List.filter_congr λr _=>by by_cases e:r.id=id<;>simp[e]
  rw[Af] at dz;refine⟨_,rfl,?_⟩;have XA:jM n.h.b=some (.cells (eP n.h).toArray 213 (0,0)):=iQ _ _ h0.cell MY;refine TS XA s2 (n.h.rows.filter λr=>r.id !=id) ?_;obtain⟨bL,lX⟩:∃bL:et,bL={n.h with bc:=s2,rows:=n.h.rows.filter λr=>r.id !=id}:=⟨_,rfl⟩;rw[<-lX];have eH:bL.b=n.h.b:=by rw[lX]
  have LD:bL.dt=n.h.dt:=by rw[lX];unfold et.dt;simp[jS]
  obtain⟨fK,re⟩:∃fK,fK=jM.ins n.h.b (.cells (eP bL).toArray 213 (0,0)):=⟨_,rfl⟩;rw[<-re];have lh:fK n.h.b=some (.cells (eP bL).toArray 213 (0,0)):=by rw[re];exact bf _ _ _
  have ty:∀c z,jM c=some z->c≠n.h.b->fK c=some z:=λc z I al=>by rw[re,bm _ _ al];exact I
  have eX:∀c z,u c=some z->c∉n.h.dt->fK c=some z:=λc z I al=>ty c z (iQ c z I λe=>al (MX c e)) λe=>al (by rw[e];exact gh ..);have ZT:∀c,u c≠none->fK c≠none:=λc I=>by by_cases e:c=n.h.b;rw[e,lh];simp;obtain⟨z,ab⟩:=e3.1 I;by_cases aC:n.h.bc.aj=some c;obtain⟨yZ,kv⟩:=e3.1 (dF dz (g:=c) (by rw[jS];exact aC));rw[ty c yZ kv e];simp;rw[ty c z (iQ c z ab aC) e];simp
  have vv:ub.le fK:=λc z I=>eX c z (b9 c z I) λhm=>by rw[hZ c (iY _ hm)] at I;cases I
  have NR:∀{e k:N} {s:U} {xs:J ao},Own u e k s xs->(∀g,s.aj=some g->g≠n.h.b/\n.h.bc.aj≠some g)->Own fK e k s xs:=λab al=>ab.le λc z I hu=>ty c z (iQ c z hu λe=>(al c I).2 e) (al c I).1;have ix:(∀g,n.h.bo.aj=some g->g≠n.h.b/\n.h.bc.aj≠some g)/\(∀g,n.h.fl.aj=some g->g≠n.h.b/\n.h.bc.aj≠some g)/\(∀g,n.h.c8.aj=some g->g≠n.h.b/\n.h.bc.aj≠some g):=by unfold et.dt at gj;rw[hK] at gj;obtain⟨cT,da⟩:=gj;have aO:∀g,g∈n.h.bo.aj.toList++n.h.fl.aj.toList++n.h.bc.aj.toList++n.h.c8.aj.toList->g≠n.h.b:=λg W e=>cT (by rw[<-e];exact W);rw[gb,gb,gb] at da;obtain⟨⟨⟨_,_,dm⟩,_,fx⟩,_,rn⟩:=da;refine⟨λg W=>⟨aO g (by simp[W]),λe=>fx g (by simp[W]) g (by simp[e]) rfl⟩,λg W=>⟨aO g (by simp[W]),λe=>fx g (by simp[W]) g (by simp[e]) rfl⟩,λg W=>⟨aO g (by simp[W]),λe=>rn g (by simp[e]) g (by simp[W]) rfl⟩⟩
  have Lv:∀sW,sW=n.kids.map au.b->hz fK (bL,sW):=λsW X4=>by subst X4;subst lX;refine⟨lh,NR h0.bJ ix.1,NR h0.hi ix.2.1,dz.own.le λc z I hu=>ty c z hu λe=>MY (by rw[<-jS,I,e]),λr O=>(k6 _ bV r (hT.1 O).1).mono vv,bt.else h0.lJ λg z W ab=>ty g z (iQ g z ab λe=>(ix.2.2 g W).2 e) (ix.2.2 g W).1⟩
  have Fj:bL.c8=n.h.c8:=by rw[lX]
  refine⟨_,rfl,bL.c8,by rw[Z];exact a1 lh 7,?_⟩;refine⟨λx w=>0<=x/\x<=n.kids.length/\(∀c z,fK c=some z->c∉n.kids.flatMap au.own->w c=some z)/\(∀c,fK c≠none->w c≠none)/\∃ds:J au,ds.length=x.toNat/\(∀(i:N) d k,ds[i]?=some d->n.kids[i]?=some k->G5 id k w d)/\(∀(i:N) k,x.toNat<=i->n.kids[i]?=some k->∀y∈k.bO,hz w y),
   λx _=>((n.kids.length:o)-x).toNat,⟨by omega,by omega,λc z I _=>I,λc I=>I,[],rfl,λi d k aw=>by simp at aw,λi k _ hk y ah=>?_⟩,?_⟩
  obtain⟨jc,z2⟩:k.own ⊆ n.kids.flatMap au.own/\True:=⟨λc I=>ee.2 ⟨k,du hk,I⟩,trivial⟩;have Fy:y∈n.bO:=by rw[au.ij];exact gd _ (ee.2 ⟨k,du hk,ah⟩)
  refine(oV y Fy).bM (λc z I ab=>eX c z ab λhm=>sQ c hm c (jc (ee.2 ⟨y,ah,I⟩)) rfl) λr O=>(k6 y Fy r O).mono vv;rintro x w ⟨bG,dy,sS,oU,ds,yu,rO,vr⟩;have kR:ub.le w:=λc z I=>sS c z (vv c z I) λhm=>by rw[hZ c (lf _ hm)] at I;cases I
  have YW:bL.c8.n=n.kids.length:=by rw[Fj];have:=h0.lJ.len;simp at this;omega
  have EX:∀{Y:N} {k:au},n.kids[Y]?=some k->(∀y∈k.bO,y∈n.bO)/\(∀c∈k.own,c∈n.kids.flatMap au.own):=λhk=>⟨λy ah=>by rw[au.ij];exact gd _ (ee.2 ⟨_,du hk,ah⟩),λc I=>ee.2 ⟨_,du hk,I⟩⟩;refine⟨λM=>?_,λM=>?_⟩;have eO:x.toNat<n.kids.length:=by omega
  obtain⟨k,hk⟩:∃k,n.kids[x.toNat]?=some k:=⟨_,cn eO⟩;have YV:bt fK n.h.c8 1 ((n.kids.map au.b).map λn=>.pointer (some ⟨n,0,none⟩)):=(Lv _ rfl).lJ|>λh=>by rw[Fj] at h;exact h
  have YY:bt w n.h.c8 1 ((n.kids.map au.b).map λn=>.pointer (some ⟨n,0,none⟩)):=bt.else YV λg z W ab=>sS g z ab λhm=>sQ g (by simp[et.dt,W]) g hm rfl;have qk:((n.kids.map au.b).map λn=>gS (some ⟨n,0,none⟩))[x.toNat]?=some (.pointer (some ⟨k.b,0,none⟩)):=by simp[hk]
  obtain⟨p,ad,fP⟩:=YY.at'|>.resolve_left (λe=>by rw[e] at qk;simp at qk);have og:=fP _ _ qk;obtain⟨cx,cS⟩:=EX hk;have jF:k.own.Nodup:=fp.sublist (Tj (hS (f:=au.own) (du hk)));have M1:k.bO.length<=10000000:=by
   have h1:n.bO.length=1+(n.kids.flatMap au.bO).length:=by rw[au.ij,h5];omega
   have h2:k.bO.length<=(n.kids.flatMap au.bO).length:=(Tj (hS (f:=au.bO) (du hk))).length_le;omega
  refine⟨p,by rw[Fj];exact ad,⟨bG,by omega⟩,_,by unfold aW;rw[y7];exact og,_,kR.cell c1,.inl ⟨_,_,_,rfl,hh KC,?_⟩⟩;refine aL k (du hk) kR (vr x.toNat k (cg _) hk) jF (λc I=>hZ c (lf _ (cS c I))) (λy ah=>k6 y (cx y ah)) M1 λw' d aw eB H7=>?_;have M9:ub.le w':=λc z I=>eB c z (kR c z I) λe=>by rw[hZ c (lf _ (cS c e))] at I;cases I
  have other:∀{i:N} {dQ:au},n.kids[i]?=some dQ->i≠x.toNat->∀c∈dQ.own,c∉k.own:=λde al c I=>afa fp de hk al I;refine⟨⟨by omega,by omega⟩,⟨by omega,by omega,λc z I hm=>eB c z (sS c z I hm) λe=>hm (cS c e),λc I=>H7 c (oU c I),ds++ [d],by rw[eC,yu];simp;omega,λi lo dQ tJ de=>?_,λi dQ hi de y ah=>?_⟩,by dsimp only;omega⟩;by_cases e:i<ds.length;rw[qy e] at tJ;have hold:=rO i lo dQ tJ de;have al:=other de (by omega);refine⟨λy ah=>(hold.one y ah).bM (λc z I ab=>eB c z ab (al c (by rw[<-hold.own];exact ee.2 ⟨y,ah,I⟩))) λr O=>?_,hold.own,hold.b,hold.bB,hold.rows⟩;obtain⟨Y,aB,mW⟩:=hold.rows y ah r O;exact(k6 Y ((EX de).1 Y aB) r mW).mono M9;have ea:i<(ds++ [d]).length:=(ir.1 tJ).1;rw[eC,rA] at ea;have sz:i=x.toNat:=by omega
  rw[C9 (by omega),show i-ds.length=0 by omega] at tJ;obtain rfl:=cO (show some d=some lo from tJ);rw[sz,hk] at de;obtain rfl:=cO de;exact aw;refine(vr i dQ (by omega) de y ah).bM (λc z I ab=>eB c z ab (other de (by omega) c (ee.2 ⟨y,ah,I⟩))) λr O=>(k6 y ((EX de).1 y ah) r O).mono M9;have eO:x.toNat=n.kids.length:=by omega
  have asg:ds.length=n.kids.length:=by omega
  have Eh:∀{γ:Type} (f g:au->γ),(∀(i:N) d k,ds[i]?=some d->n.kids[i]?=some k->f d=g k)->ds.map f=n.kids.map g:=λf g LS=>by apply r1;intro i;rw[iD,iD];by_cases e:i<ds.length;have h1:ds[i]?=some ds[i]:=cn e;have h2:n.kids[i]?=some n.kids[i]:=cn (by omega);rw[h1,h2,uA,uA,LS i _ _ h1 h2];rw[io (by omega),io (by omega)];rfl
  have KS:ds.map au.b=n.kids.map au.b:=Eh _ _ λi d k h1 h2=>(rO i d k h1 h2).b;have Wn:ds.flatMap au.own=n.kids.flatMap au.own:=by rw[JE,JE,Eh au.own au.own λi d k h1 h2=>(rO i d k h1 h2).own]
  have El:ds.map au.bB=n.kids.map λk=>k.bB.del id:=Eh _ _ λi d k h1 h2=>(rO i d k h1 h2).bB;have mem:∀d∈ds,∃k∈n.kids,G5 id k w d:=λd aw=>by obtain⟨i,hi,rfl⟩:=pe aw;exact⟨_,kk (show i<n.kids.length by omega),rO i _ _ (cn hi) (cn (by omega))⟩
  refine aq w (.mk bL ds) ⟨λy ah=>?_,?_,eH,?_,λy ah r O=>?_⟩ (λc z I hm=>?_) λc I=>oU c (ZT c I);rw[au.ij] at ah;rcases cE.1 ah with rfl|ah;refine(Lv _ KS).bM (λc z I ab=>sS c z ab λhm=>sQ c (by rw[<-LD];exact I) c hm rfl) λr O=>?_;have cq:r∈n.h.rows:=by rw[lX] at O;exact(hT.1 O).1
  exact(k6 _ bV r cq).mono kR;obtain⟨d,aw,ah⟩:=ee.1 ah;obtain⟨k,_,hk⟩:=mem d aw;exact hk.one y ah;rw[au.rm,au.rm];show bL.dt++ds.flatMap au.own=_;rw[LD,Wn];rw[au.hn,au.hn,bF.del_eq];show bF.mk bL.aG bL.bJ bL.hi bL.cH (bL.rows.map av.bi) (ds.map au.bB)=bF.mk n.h.aG n.h.bJ n.h.hi n.h.cH ((n.h.rows.map av.bi).filter λx=>x.1 !=id) ((n.kids.map au.bB).map (bF.del id));rw[El,ez,r8,lX];rfl;rw[au.ij] at ah;rcases cE.1 ah with rfl|ah;have cq:r∈n.h.rows:=by have:r∈bL.rows:=O;rw[lX] at this;exact(hT.1 this).1
  exact⟨_,bV,cq⟩;obtain⟨d,aw,ah⟩:=ee.1 ah;obtain⟨k,rQ,hk⟩:=mem d aw;obtain⟨Y,aB,mW⟩:=hk.rows y ah r O;exact⟨Y,by rw[au.ij];exact gd _ (ee.2 ⟨k,rQ,aB⟩),mW⟩;rw[au.rm] at hm;exact sS c z (eX c z I λh=>hm (iY _ h)) λh=>hm (lf _ h)
end kE
section
variable{u:H}{s:U}{d:o}
open Go.Sort Go.Shelf
structure qO(ai u:H)(s:U)(ls:J av):Prop where
 own:aD ai u 52 2 s (ls.flatMap cB)
 inner:∀r∈ls,aD ai u 3 1 r.s (r.v.flatMap encI)
 eu:∀r∈ls,dH s r.s
 apart:ls.Pairwise λa b=>dH a.s b.s
def qO.rws{ai:H}{ls:J av}(h:qO ai u s ls):dS u s ls:=⟨h.own.own.cC,λr O=>(h.inner r O).ints⟩
def qO.mono{ai u':H}{ls:J av}(h:qO ai u s ls)(k:u.le u'):qO ai u' s ls:=
 ⟨h.own.mono k,λr O=>(h.inner r O).mono k,h.eu,h.apart⟩
def BS(r:av):Prop:=1<=r.id/\r.id<=1000000000
def ax7:SWO (ltOf λa b:{r//BS r}=>a.1.id-b.1.id) where
 irrefl x:=by unfold ltOf;simp
 trans x y Y h1 h2:=by unfold ltOf at*;simp only[Jf] at*;omega
 ntrans x y Y h1 h2:=by unfold ltOf at*;simp only[Ju] at*;omega
instance:lx {r//BS r}:=⟨⟨⟨1,⟨none,0,0⟩,[]⟩,by unfold BS;decide⟩⟩
def zo{l:J av}{K:U->H->Prop}(ag:dS u s l)(b7:∀r∈l,1<=r.id/\r.id<=1000000000)(ae:l.length<=1000000)(aA:∀r∈l,r.v.length<=1000000)
  (aq:∀ap ls u',qO u u' ap ls->(ls.map av.bi).Perm (l.map av.bi)->(ls.Pairwise λa b=>a.id<=b.id)->K ap u'):rE s u K:=by
 have dw:=ag.len
 apply aBO
 refine GB ic (by omega) (l4 _) (by omega) (by omega) λg W=>?_
 have q4:∀(n:N),(lO [cG .i64 0,.slice none 0 0].toArray (n*2)).toList=(eU n (⟨0,⟨none,0,0⟩,[]⟩:av)).flatMap cB:=λn=>AS (enc:=cB) eY (by decide) ⟨0,⟨none,0,0⟩,[]⟩ n
 obtain⟨cs,dU⟩:∃cs,lO [cG .i64 0,.slice none 0 0].toArray ((s.n:o).toNat*2)=cs:=⟨_,rfl⟩
 have hv:cs.toList=(eU l.length (⟨0,⟨none,0,0⟩,[]⟩:av)).flatMap cB:=by rw[<-dU,<-q4,show(s.n:o).toNat=l.length by omega]
 rw[dU]
 have asd:cs.size=l.length*2:=by rw[<-ru,hv,od eY];simp
 have jU:aD u (u.ins g (.cells cs 52 (0,0))) 52 2 ⟨some ⟨g,0,none⟩,l.length,l.length⟩ ((eU l.length (⟨0,⟨none,0,0⟩,[]⟩:av)).flatMap cB):=by have:=aD.make (k:=2) (H.le.refl u) W (cells:=cs) (e:=52) (n:=l.length) (by omega) asd;rw[hv] at this;exact this
 rw[show(s.n:o).toNat=l.length by omega]
 have hblk:(⟨some ⟨g,0,none⟩,l.length,l.length⟩:U).aj=some g:=rfl
 refine⟨λi w=>0<=i/\i<=l.length/\∃D:J av,D.map av.bi=(l.take i.toNat).map av.bi/\qO u w ⟨some ⟨g,0,none⟩,l.length,l.length⟩ (D++eU (l.length-i.toNat) ⟨0,⟨none,0,0⟩,[]⟩),
  λi _=>l.length-i.toNat,⟨by omega,by omega,[],by simp,?_⟩,?_⟩
 refine⟨by simpa using jU,λr O=>?_,λr O=>?_,?_⟩
 simp at O
 rw[O.2]
 exact aD.nil (bW _ W) _ _
 simp at O
 rw[O.2]
 intro x _ M;simp[U.aj] at M
 simp only[lu]
 rw[aa6]
 exact .inr λx M=>by simp[U.aj] at M
 rintro i w ⟨i0,i1,D,eM,b1⟩
 have Q2:D.length=i.toNat:=by have:=dV hR eM;simp at this;omega
 refine⟨λea=>?_,λtO=>?_⟩
 obtain⟨p,ad,r,O,bK,c1,c2⟩:=(ag.mono b1.own.le).at i0 ea
 have fQ:r∈l:=du O
 have RZ:=c2.len
 have:=aA r fQ
 refine⟨p,ad,⟨i0,ea⟩,_,bK,_,c1,sc c2 (by omega) λgM gV Ip tT=>⟨Ip.le,_,rfl,⟨i0,by show i<((l.length:N):o);omega⟩,?_⟩⟩
 have arw:=b1.mono Ip.le
 refine aD.store (enc:=cB) eY arw.own (by decide) (i:=i.toNat) (by simp;omega) (y:=⟨r.id,gM,r.v⟩) (B4 _) rfl λgx Mw Rn _=>⟨⟨by omega,by omega⟩,⟨by omega,by omega,D++ [⟨r.id,gM,r.v⟩],?_,?_⟩,by dsimp only;omega⟩
 rw[show(i+1).toNat=i.toNat+1 by omega,gT,O,dY,eM]
 simp[av.bi]
 have jG:(D++eU (l.length-i.toNat) (⟨0,⟨none,0,0⟩,[]⟩:av)).set i.toNat ⟨r.id,gM,r.v⟩=D++ [⟨r.id,gM,r.v⟩]++eU (l.length-(i+1).toNat) ⟨0,⟨none,0,0⟩,[]⟩:=by rw[show l.length-i.toNat=(l.length-(i+1).toNat)+1 by omega,List.replicate_succ,<-Q2,abG];simp
 rw[jG] at Mw
 have hold:∀x∈D,aD u w 3 1 x.s (x.v.flatMap encI):=λx M=>b1.inner x (iY _ M)
 have asG:w g≠none:=dF b1.own hblk
 have ahR:gM.aj≠some g:=λe=>asG (Ip.fresh g e)
 have asz:∀x∈D,dH x.s gM:=λx M c I c7=>dF (hold x M) I (Ip.fresh c c7)
 have afI:∀x∈D,dH ⟨some ⟨g,0,none⟩,l.length,l.length⟩ x.s:=λx M=>b1.eu x (iY _ M)
 refine⟨Mw,λx M=>?_,λx M=>?_,?_⟩
 rcases cK.1 M with M|M
 rcases cK.1 M with M|M
 exact aD.else ((hold x M).mono Ip.le) Rn (λc I=>b1.own.fresh c I) λc I=>afI x M c I
 simp at M
 subst M
 exact aD.else (Ip.weaken b1.own.le) Rn (λc I=>b1.own.fresh c I) λc I=>by
  have:c=g:=by rw[hblk] at I;exact(cO I).symm
  rw[this];exact ahR
 rw[(uH.1 M).2]
 exact aD.nil (Mw.le) _ _
 rcases cK.1 M with M|M
 rcases cK.1 M with M|M
 exact afI x M
 simp at M
 subst M
 intro c I
 have:c=g:=by rw[hblk] at I;exact(cO I).symm
 rw[this];exact ahR
 rw[(uH.1 M).2]
 intro c _ I;simp[U.aj] at I
 have ix:=(Bb.1 b1.apart).1
 refine Bb.2 ⟨Bb.2 ⟨ix,by simp,λx M y ah=>?_⟩,?_,λx M y ah=>?_⟩
 simp at ah;subst ah;exact asz x M
 rw[aa6]
 exact .inr λc I=>by simp[U.aj] at I
 rw[(uH.1 ah).2]
 intro c _ I;simp[U.aj] at I
 have ea:i.toNat=l.length:=by have:¬i<(s.n:o):=tO;omega
 rw[ea,Da,List.replicate_zero,kA] at b1
 rw[ea,ni] at eM
 have b4:∀r∈D,BS r:=λr O=>by
  have:r.bi∈l.map av.bi:=by rw[<-eM];exact bk.2 ⟨r,O,rfl⟩
  obtain⟨ch,cq,e⟩:=bk.1 this;have h1:=b7 ch cq;have:ch.id=r.id:=dV pd e;unfold BS;rw[<-this];exact h1
 obtain⟨E,px⟩:∃E:J {r//BS r},E.map (·.1)=D:=⟨D.attachWith _ b4,by simp⟩
 have pH:=b1.own
 rw[<-px] at pH
 refine azS (val:=λr:{r//BS r}=>r.1) ax7 (enters_of func105 (by kernel_rfl) rfl) (λa b v=>?_) pH (by have:=dV hR px;simp at this;omega) λc9 Vt ad oZ dz iQ=>aq _ (Vt.map (·.1)) _ ?_ ?_ ?_
 have aE:=a.2
 have Z:=b.2
 unfold BS at aE Z
 exact aBP a.1.id a.1.s b.1.id b.1.s v (λfj c9=>fj=a.1.id-b.1.id/\c9=v) ⟨⟨by omega,by omega⟩,rfl,rfl⟩
 have CE:(Vt.map (·.1)).Perm D:=by rw[<-px];exact ad.map _
 have k3:∀x∈Vt.map (·.1),x∈D:=λx M=>CE.mem_iff.1 M
 exact⟨dz,λr O=>aD.else (b1.inner r (k3 r O)) iQ (λc I=>b1.own.fresh c I) λc I=>b1.eu r (k3 r O) c I,λr O=>b1.eu r (k3 r O),b1.apart.perm CE.symm λh=>h.symm⟩
 rw[<-eM,<-px]
 exact((ad.map (·.1)).map av.bi)
 rw[ta]
 exact oZ.imp λh=>by omega
def fr(id:o)(v:J o)(d:o)(there:aI)(many:o):o:=
 if id<1∨1000000000<id then 50 else if gn v d≠0 then gn v d else if there=ax/\512<=many then 2 else 0
def JU{id:o}{v:J o}{there:aI}{many:o}{K:o->H->Prop}(ag:Ints u s v)(h:K (fr id v d there many) u):DN id s d there many u K:=by
 apply aBN;refine pX ag ?_;intro nx oO;have go:∀dD:aI,(dD=ak↔(id<1∨1000000000<id))->nx dD u:=λdD Z=>oO dD u ⟨λe=>?_,λe=>⟨λal=>?_,λhe=>⟨λht=>⟨λhm=>?_,λhm=>?_⟩,λht=>?_⟩⟩⟩;exact⟨λh1=>go ak ⟨λ_=>.inl h1,λ_=>rfl⟩,λh1=>go _ ⟨λe=>.inr (by simpa using e),λe=>by simp;omega⟩⟩;unfold fr at h;rw[aV (Z.1 e)] at h;exact h
 all_goals
  have vo:¬(id<1∨1000000000<id):=λaC=>by rw[Z.2 aC] at e;cases e
  unfold fr at h;rw[az vo] at h
 rw[aV al] at h;exact h;rw[az (by simpa using he),aV ⟨by simpa using ht,hm⟩] at h;exact h;rw[az (by simpa using he),az (λh2=>hm h2.2)] at h;exact h;rw[az (by simpa using he),az (λh2=>by rw[ht] at h2;cases h2.1)] at h;exact h
def h7(q:J o)(d k b:o):o:=if gn q d≠0 then gn q d else if k<1∨64<k∨b<0∨1000000<b then 1 else 0
def JS{t:U}{q:J o}{k b:o}{K:o->H->Prop}(ht:Ints u t q)(h:K (h7 q d k b) u):BD t d k b u K:=by unfold h7 at h;apply aBL;refine pX ht ⟨λal=>by rw[aV al] at h;exact h,λhe=>?_⟩;rw[az (by simpa using he)] at h;by_cases dx:k<1∨64<k∨b<0∨1000000<b;rw[aV dx] at h;exact⟨λ_=>h,λcx=>⟨λ_=>h,λcS=>⟨λ_=>h,λgf=>⟨λ_=>h,λgP=>by omega⟩⟩⟩⟩;rw[az dx] at h;exact⟨λcx=>by omega,λ_=>⟨λcS=>by omega,λ_=>⟨λgf=>by omega,λ_=>⟨λgP=>by omega,λ_=>h⟩⟩⟩⟩
def azY{t:U}{a c:J av}{K:aI->H->Prop}(ag:dS u s a)(ht:dS u t c)(h:K (decide (a.map av.bi=c.map av.bi)) u):U9 s t u K:=by
 have key:∀Y,decide (a.map av.bi=c.map av.bi)=Y->K Y u:=λY e=>e▸h;have ae:=ag.len;have hm:=ht.len;have M:=ag.max;apply aDt;refine⟨λal=>key ax ?_,λRr=>?_⟩;refine nY λe=>al ?_;have:=dV hR e;simp at this;omega;refine⟨λ_ i w=>w=u/\0<=i/\i<=a.length/\(a.take i.toNat).map av.bi=(c.take i.toNat).map av.bi,λ_ i _=>a.length-i.toNat,⟨rfl,by omega,by omega,by simp⟩,?_⟩;rintro dD i w ⟨rfl,i0,i1,yI⟩;refine⟨λea=>?_,λtO=>?_⟩;intro BL HJ;obtain⟨p,ad,r,O,bK,c1,c2⟩:=ag.at i0 ea;obtain⟨q,aO,ch,cq,d0,d1,d2⟩:=ht.at (x:=i) i0 (by omega);have bad:r.bi≠ch.bi->K ax w:=λal=>key ax (nY λe=>al (by have:=dV (λY=>Y[i.toNat]?) e;simp only[iD,O,cq,uA,j2] at this;exact this))
 refine⟨p,ad,⟨i0,ea⟩,q,aO,⟨i0,by omega⟩,_,bK,_,d0,λal=>bad λe=>al (dV pd e),λb7=>⟨p,ad,⟨i0,ea⟩,q,aO,⟨i0,by omega⟩,_,c1,_,d1,alu c2 d2 ⟨λal=>bad λe=>al ?_,λaA=>HJ _ _ ⟨⟨by omega,by omega⟩,⟨rfl,by omega,by omega,?_⟩,by dsimp only;omega⟩⟩⟩⟩;rw[Jf];exact dV pR e;rw[show(i+1).toNat=i.toNat+1 by omega,gT,gT,O,cq,dY,dY,yI];have:r.bi=ch.bi:=by unfold av.bi;rw[b7,uI aA]
 simp[this];have ea:i.toNat=a.length:=by have:¬i<(s.n:o):=tO;omega
 rw[ho (by omega),ho (by omega)] at yI;exact key ak (lP yI)
def D3{q:J o}{k b:o}:h7 q d k b=0↔gn q d=0/\1<=k/\k<=64/\0<=b/\b<=1000000:=by unfold h7;by_cases h1:gn q d=0;rw[az (by simpa using h1)];by_cases h2:k<1∨64<k∨b<0∨1000000<b;rw[aV h2];constructor;intro h;cases h;rintro⟨_,h3⟩;omega;rw[az h2];exact⟨λ_=>⟨h1,by omega⟩,λ_=>rfl⟩;rw[aV h1];exact⟨λh=>a6 h h1,λh=>a6 h.1 h1⟩
end
namespace kE
section
variable{u:H}{b:N}
def GH{ub:H}{cW:N}{d leaf:o}{s:U}{l:J av}{K:ay ba->H->Prop}(Ai:1<=leaf)(JZ:ub.cell? ⟨cW,0,none⟩=some (.int .i64 d))(qI:ub.cell? ((cr cW 0 none).add 1)=some (.int .i64 leaf))
  (ab:aD ub u 52 2 s (l.flatMap cB)) (aA:∀r∈l,Ints ub r.s r.v) (bH:gX l d) (h0:l=[]->∀u',u.le u'->K none u') (aq:l≠[]->∀u' n,P1 ub u s l d u' n->lm 2 n.bB->K (some ⟨n.b,0,none⟩) u'):G0 (some ⟨cW,0,none⟩) s u K:=by
 have b9:=ab.le
 apply aCG
 intro n0 eT b3 gj
 obtain⟨fG,jU⟩:∃fG,fG=(bA #[gS (some ⟨cW,0,none⟩)] 113 (0,0)):=⟨_,rfl⟩
 rw[<-jU] at gj ⊢
 have tR:n0≠b3:=λe=>by rw[<-e,bf] at gj;cases gj
 have E5:u b3=none:=by rw[bm _ _ (dv tR)] at gj;exact gj
 refine mG (zs:=[.nilFunc]) rfl (by simp[cF]) ?_
 obtain⟨eJ,kf⟩:∃eJ,eJ=(bA [yd n0 b3].toArray 170 (0,0)):=⟨_,rfl⟩
 rw[<-kf]
 obtain⟨c9,rW⟩:∃c9,c9=(u.ins n0 fG).ins b3 eJ:=⟨_,rfl⟩
 rw[<-rW]
 have yS:u.le c9:=by rw[rW];exact(bW _ eT).trans (bW _ gj)
 have d0:c9 n0=some fG:=by rw[rW,bm _ _ tR,bf]
 have d1:c9 b3=some eJ:=by rw[rW,bf]
 obtain⟨gm,Fq⟩:∃gm:H,gm=λc=>if c=n0 then some fG else if c=b3 then some eJ else ub c:=⟨_,rfl⟩
 have fV:gm n0=some fG:=by rw[Fq];exact aV rfl
 have gf:gm b3=some eJ:=by rw[Fq];show(if b3=n0 then _ else if b3=b3 then _ else _)=_;rw[az (dv tR),aV rfl]
 have gP:∀{c},c≠n0->c≠b3->gm c=ub c:=λ{c} h1 h2=>by rw[Fq];show(if c=n0 then _ else if c=b3 then _ else _)=_;rw[az h1,az h2]
 have qq:ub.le gm:=λc z I=>by rw[gP (λe=>by rw[e,b9.none eT] at I;cases I) (λe=>by rw[e,b9.none E5] at I;cases I)];exact I
 have Nw:gm.le c9:=λc z I=>by by_cases fW:c=n0;rw[fW,fV] at I;rw[fW,d0];exact I;by_cases aP:c=b3;rw[aP,gf] at I;rw[aP,d1];exact I;rw[gP fW aP] at I;exact yS c z (b9 c z I)
 have dz:aD gm c9 52 2 s (l.flatMap cB):=⟨(ab.mono yS).own,Nw,λg W=>by rw[gP (λe=>dF ab W (by rw[e];exact eT)) (λe=>dF ab W (by rw[e];exact E5))];exact ab.fresh g W⟩
 have b4:wu gm n0 b3 cW d leaf:=⟨by rw[jU] at fV;exact a1 fV 0,by rw[kf] at gf;exact a1 gf 0,H.le.cell qq JZ,H.le.cell qq qI⟩
 refine⟨_,H.le.cell Nw b4.c1,.inl ⟨_,_,_,rfl,hh KB,?_⟩⟩
 exact abM Ai l.length (cg _) b4 dz (λr O=>(aA r O).mono qq) bH (λe=>h0 e c9 yS) λal u' n I fk=>aq al u' n ⟨I.one,I.nodup,λc hm=>⟨qq.none (I.out c hm).1,(I.out c hm).2⟩,I.all,I.ok,I.rows,I.size,λc z h1 h2=>I.tA c z (yS c z h1) h2⟩ fk
inductive bu where
 |tree|map|node|vec
structure aT where
 dim:o
 leaf:o
 root:ay au
 m:N
 w:J (o×(U×J o))
 eR:N
def aT.cj(T:aT):o:=T.leaf
def fe(T:aT):J ao:=[.int .i64 T.dim,.int .i64 T.leaf,.pointer (T.root.map λn=>⟨n.b,0,none⟩),.map (some T.m)]
def ec(w:J (o×(U×J o))):J (o×ao):=w.map λe=>(e.1,.slice e.2.1.a e.2.1.n e.2.1.c)
structure ef(af:N->ay bu)(u:H)(b:N)(T:aT):Prop where
 cell:u b=some (.cells (fe T).toArray 169 (0,0))
 dL:af b=some .tree
 map:fs u T.m (ec T.w)
 dh:af T.m=some .map
 vec:∀e∈T.w,Ints u e.2.1 e.2.2/\∀g,e.2.1.aj=some g->af g=some .vec
 one:∀n,T.root=some n->(∀x∈n.bO,hz u x)/\n.own.Nodup/\(∀c∈n.own,af c=some .node)/\∀x∈n.bO,∀r∈x.1.rows,∀g,r.s.aj=some g->af g=some .vec
def ef.bM{af aY:N->ay bu}{u':H}{T:aT}(h:ef af u b T)(ac:∀c,af c≠none->aY c=af c)(hu:∀c z,u c=some z->af c≠none->u' c=some z):ef aY u' b T where
 cell:=hu _ _ h.cell (by rw[h.dL];simp)
 dL:=by rw[ac _ (by rw[h.dL];simp)];exact h.dL
 map:=h.map.else λz ab=>hu _ _ ab (by rw[h.dh];simp)
 dh:=by rw[ac _ (by rw[h.dh];simp)];exact h.dh
 vec e he:=by obtain⟨h1,h2⟩:=h.vec e he;exact⟨bt.else h1 λg z W ab=>hu g z ab (by rw[h2 g W];simp),λg W=>by rw[ac g (by rw[h2 g W];simp)];exact h2 g W⟩
 one n ae:=by obtain⟨h1,h2,h3,a7⟩:=h.one n ae;refine⟨λx M=>(h1 x M).bM (λc z I ab=>hu c z ab (by rw[h3 c (ee.2 ⟨x,M,I⟩)];simp)) λr O=>bt.else ((h1 x M).vec r O) λg z W ab=>hu g z ab (by rw[a7 x M r O g W];simp),h2,λc I=>by rw[ac c (by rw[h3 c I];simp)];exact h3 c I,λx M r O g W=>by rw[ac g (by rw[a7 x M r O g W];simp)];exact a7 x M r O g W⟩
def bM:x5 ef:=⟨λh ac hu=>h.bM ac hu⟩
abbrev In:=mf ef
def lg(T:aT):J jN:=match T.root with
 |none=>[]|some n=>n.bB.all
def bb(X:aT):J (o×J o):=X.w.map λe=>(e.1,e.2.2)
structure dP(T:aT):Prop where
 hs:1<=T.dim/\T.dim<=64
 AN:1<=T.leaf/\T.leaf<=64
 ids:∀e∈T.w,1<=e.1/\e.1<=1000000000
 vec:∀e∈T.w,(e.2.2.length:o)=T.dim/\db e.2.2
 small:T.w.length<=512
 rows:(lg T).Perm (bb T)
 ok:∀n,T.root=some n->fT T.dim n.bB
 n1:∀n,T.root=some n->lm 2 n.bB
 size:∀n,T.root=some n->n.bO.length<=1100*T.eR+2000
def iJ:n5 aH 125 3 30 (.slice none 0 0):=⟨by kernel_rfl,by kernel_rfl,λ_=>by kernel_rfl⟩
def KW(T:aT):(ec T.w).length=(bb T).length:=by simp[ec,bb]
def ef.rD{af:N->ay bu}{T:aT}(h:ef af u b T):((bb T).map (·.1)).Nodup:=by obtain⟨es,cl,_,he⟩:=h.map;have:=he.nodup;unfold ec at this;rw[ez] at this;unfold bb;rw[ez];exact this
def Bl{ai:H}{af:N->ay bu}{T:aT}{K:o->H->Prop}(h:In ai u af b T)(aq:K (bb T).length u):adg (some ⟨b,0,none⟩) u K:=by apply aCB;refine⟨λe=>(by cases e),λ_=>⟨_,rfl,_,a1 h.aF.cell 3,v7 iJ h.aF.map ?_⟩⟩;rw[KW];exact aq
structure zD(ai u:H)(af:N->ay bu)(b:N)(T:aT)(id:o)(u':H)(aY:N->ay bu)(bx:aT):Prop where
 is:In ai u' aY b bx
 eQ:hA u af u' aY
 ok:dP bx
 rows:bb bx=(bb T).filter λx=>x.1 !=id
 dim:bx.dim=T.dim
 leaf:bx.leaf=T.leaf
 eR:bx.eR=T.eR
def sD(w:J (o×(U×J o)))(x:o):(fN (ec w) x=none/\x∉w.map (·.1))∨∃e,e∈w/\e.1=x/\fN (ec w) x=some (.slice e.2.1.a e.2.1.n e.2.1.c):=by
 cases h:fN (ec w) x with
 |none=>left;have:=yj.1 h;unfold ec at this;rw[ez] at this;exact⟨rfl,this⟩|some v=>right;have:=K9 h;obtain⟨e,he,aC⟩:=bk.1 this;have c0:e.1=x:=dV pd aC;have ff:dX e.2.1.a e.2.1.n e.2.1.c=v:=dV pR aC;exact⟨e,he,c0,by rw[ff]⟩
def na(T:aT):(bb T).map (·.1)=T.w.map (·.1):=by unfold bb;rw[ez];rfl
def B8(w:J (o×(U×J o)))(id:o):(ec w).filter (λp=>p.1 !=id)=ec (w.filter λe=>e.1 !=id):=by unfold ec;rw[r8];rfl
def wa{ai:H}{af:N->ay bu}{T:aT}{id:o}{K:aI->o->H->Prop}(h:In ai u af b T)(aR:dP T)(kN:T.eR<=4000)(ed:id∉T.w.map (·.1)->∀u',u.le u'->K ax 0 u')
  (kh:id∈T.w.map (·.1)->∀u' aY bx,zD ai u af b T id u' aY bx->K ak 0 u'):PB (some ⟨b,0,none⟩) id u K:=by
 apply aCy
 intro n0 eT
 obtain⟨aS,gI⟩:∃aS,aS=u.ins n0 (.cells #[.int .i64 id] 3 (0,0)):=⟨_,rfl⟩
 have eZ:u.le aS:=by rw[gI];exact bW _ eT
 have d0:aS n0=some (.cells #[.int .i64 id] 3 (0,0)):=by rw[gI];exact bf _ _ _
 rw[<-gI]
 have i1:=mf.mono bM h eZ
 have aF:=i1.aF
 refine⟨λe=>(by cases e),λ_=>⟨_,rfl,_,a1 aF.cell 3,id,a1 d0 0,?_⟩⟩
 rcases sD T.w id with⟨W,hm⟩|⟨e,he,b7,W⟩
 refine tf iJ aF.map (ct:=.slice) (⟨none,0,0⟩:U) (by rw[W];rfl) ⟨λ_=>ed hm aS eZ,λM=>?_⟩
 rw[W] at M;cases M
 have b4:id∈T.w.map (·.1):=bk.2 ⟨e,he,b7⟩
 refine tf iJ aF.map (ct:=.slice) e.2.1 (by rw[W];rfl) ⟨λM=>?_,λ_=>?_⟩
 rw[W] at M;exact a6 rfl M
 refine⟨_,rfl,_,a1 aF.cell 3,id,a1 d0 0,?_⟩
 refine Oz iJ aF.map λz im=>?_
 obtain⟨gV,uc⟩:∃gV,gV=aS.ins T.m z:=⟨_,rfl⟩
 rw[<-uc] at im ⊢
 have js:∀{c},af c≠some .map->c≠T.m:=λI e=>I (by rw[e];exact aF.dh)
 have KP:∀c z,aS c=some z->c≠T.m->gV c=some z:=λc b5 I al=>by rw[uc,bm _ _ al];exact I
 have m10:gV T.m=some z:=by rw[uc];exact bf _ _ _
 have aad:n0≠T.m:=λe=>by have:=h.known T.m (by rw[h.aF.dh];simp);rw[<-e] at this;exact this eT
 intro n11 tS
 refine mG (zs:=[.nilFunc]) rfl (by simp[cF]) ?_
 obtain⟨rl,qo⟩:∃rl,rl=(bA [iZ (.func 256) #[] #[.pointer (some ⟨n0,0,none⟩),.pointer (some ⟨n11,0,none⟩)]].toArray 324 (0,0)):=⟨_,rfl⟩
 rw[<-qo]
 obtain⟨gx,xf⟩:∃gx,gx=gV.ins n11 rl:=⟨_,rfl⟩
 rw[<-xf]
 have rh:gV.le gx:=by rw[xf];exact bW _ tS
 have d11:gx n11=some rl:=by rw[xf];exact bf _ _ _
 have oM:∀c b5,aS c=some b5->c≠T.m->gx c=some b5:=λc b5 I al=>rh c b5 (KP c b5 I al)
 have KF:gx b=some (.cells (fe T).toArray 169 (0,0)):=oM b _ aF.cell (js (by rw[aF.dL];simp))
 obtain⟨n,ae⟩:∃n,T.root=some n:=by
  cases O:T.root with
  |some n=>exact⟨n,rfl⟩|none=>have h1:=aR.rows.length_eq;unfold lg at h1;rw[O] at h1;have h2:=Tk he;simp[bb] at h1;omega
 obtain⟨cT,da,dm,fx⟩:=aF.one n ae
 have tI:gx.cell? ((cr b 0 none).add 2)=some (.pointer (some ⟨n.b,0,none⟩)):=by
  have M:fe T=[.int .i64 T.dim,.int .i64 T.leaf,.pointer (some ⟨n.b,0,none⟩),.map (some T.m)]:=by simp[fe,ae]
  rw[M] at KF;exact a1 KF 2
 refine⟨_,rfl,_,by rw[qo] at d11;exact a1 d11 0,_,tI,_,_,_,rfl,hh KC,?_⟩
 obtain⟨ub,b9⟩:∃ub:H,ub=λc=>open Classical in if c∈n.own then none else gx c:=⟨_,rfl⟩
 have xW:∀{c},c∈n.own->ub c=none:=λI=>by rw[b9];exact aV I
 have gm:∀{c},c∉n.own->ub c=gx c:=λI=>by rw[b9];exact az I
 have lub:ub.le gx:=λc b5 I=>by by_cases e:c∈n.own;rw[xW e] at I;cases I;rw[gm e] at I;exact I
 have lr:∀{c},af c≠some .node->c∉n.own:=λI e=>I (dm _ e)
 have aae:n0∉n.own:=λe=>h.known n0 (by rw[dm n0 e];simp) eT
 have aaf:n11∉n.own:=λe=>by have h1:=i1.known n11 (by rw[dm n11 e];simp);obtain⟨b5,bQ⟩:=e3.1 h1;have:=KP n11 b5 bQ (js (by rw[dm n11 e];simp));rw[tS] at this;cases this
 have oQ:ub.cell? ⟨n0,0,none⟩=some (.int .i64 id):=by
  have z0:ub n0=some (.cells #[.int .i64 id] 3 (0,0)):=by rw[gm aae];exact oM _ _ d0 aad
  exact a1 z0 0
 have iy:ub.cell? ⟨n11,0,none⟩=some (.func (.func 256) #[] #[.pointer (some ⟨n0,0,none⟩),.pointer (some ⟨n11,0,none⟩)]):=by
  have jc:ub n11=some rl:=by rw[gm aaf];exact d11
  rw[qo] at jc;exact a1 jc 0
 have iU:∀x∈n.bO,hz gx x:=λx M=>(cT x M).bM (λc b5 I bQ=>oM c b5 bQ (js (by rw[dm c (ee.2 ⟨x,M,I⟩)];simp))) λr O=>bt.else ((cT x M).vec r O) λg b5 W bQ=>oM g b5 bQ (js (by rw[fx x M r O g W];simp))
 have k6:∀x∈n.bO,∀r∈x.1.rows,Ints ub r.s r.v:=λx M r O=>bt.else ((cT x M).vec r O) λg b5 W bQ=>by rw[gm (lr (by rw[fx x M r O g W];simp))];exact oM g b5 bQ (js (by rw[fx x M r O g W];simp))
 have cY:=aR.size n ae
 refine abN oQ iy n lub iU da (λc I=>xW I) k6 (by omega) λu16 n' aw eB jF=>?_
 have ye:∀c b5,aS c=some b5->c≠T.m->c∉n.own->u16 c=some b5:=λc b5 I al Yp=>eB c b5 (oM c b5 I al) Yp
 have VG:u16 b=some (.cells (fe T).toArray 169 (0,0)):=ye b _ aF.cell (js (by rw[aF.dL];simp)) (lr (by rw[aF.dL];simp))
 have Ye:fs u16 T.m (ec (T.w.filter λe=>e.1 !=id)):=by rw[<-B8];exact im.else λb5 bQ=>eB _ _ (rh _ _ bQ) (lr (by rw[aF.dh];simp))
 have acD:∀{s:U} {v:J o},Ints aS s v->(∀g,s.aj=some g->af g=some .vec)->Ints u16 s v:=λhi W=>bt.else hi λg b5 cb bQ=>ye g b5 bQ (js (by rw[W g cb];simp)) (lr (by rw[W g cb];simp))
 obtain⟨bx,en⟩:∃bx:aT,bx={T with root:=some n',w:=T.w.filter λe=>e.1 !=id}:=⟨_,rfl⟩
 have Af:bb bx=(bb T).filter λx=>x.1 !=id:=by rw[en];unfold bb;rw[r8];rfl
 have ZI:∀c,aS c≠none->u16 c≠none:=λc I=>jF c λe=>by by_cases aC:c=T.m;rw[aC,rh _ _ m10] at e;cases e;obtain⟨b5,bQ⟩:=e3.1 I;rw[oM c b5 bQ aC] at e;cases e
 refine kh b4 u16 af bx ⟨⟨?_,λc b5 I=>?_,h.out,λc I=>ZI c (i1.known c I)⟩,⟨λc b5 I ac=>ye c b5 (eZ c b5 I) (js (by rw[ac];simp)) (lr (by rw[ac];simp)),λc I=>.inl I⟩,?_,Af,by rw[en],by rw[en],by rw[en]⟩
 subst en
 refine⟨?_,aF.dL,Ye,aF.dh,λgq fX=>?_,λeN fp=>?_⟩
 rw[VG]
 simp[fe,ae,aw.b]
 obtain⟨v1,v2⟩:=aF.vec gq (hT.1 fX).1
 exact⟨acD v1 v2,v2⟩
 obtain rfl:=cO (show some n'=some eN from fp)
 exact⟨aw.one,by rw[aw.own];exact da,λc I=>dm c (by rw[<-aw.own];exact I),λx M r O g W=>by obtain⟨y,ah,MP⟩:=aw.rows x M r O;exact fx y ah r MP g W⟩
 have XH:=h.out
 have h1:=h.le c b5 I
 have ac:af c=none:=by
  cases e:af c with
  |none=>rfl|some t=>have:=h.out c (by rw[e];simp);rw[I] at this;cases this
 exact ye c b5 (eZ c b5 h1) (js (by rw[ac];simp)) (lr (by rw[ac];simp))
 have Ir:=aR.ok n ae
 refine⟨by rw[en];exact aR.hs,by rw[en];exact aR.AN,λgq fX=>?_,λgq fX=>?_,?_,?_,λeN fp=>?_,λeN fp=>?_,λeN fp=>?_⟩
 rw[en] at fX;exact aR.ids gq (hT.1 fX).1
 rw[en] at fX ⊢;exact aR.vec gq (hT.1 fX).1
 rw[en];exact jv (Bh _ _) aR.small
 rw[Af]
 have O:=aR.rows
 rw[en]
 unfold lg at O ⊢
 rw[ae] at O
 show n'.bB.all.Perm _
 rw[aw.bB,bF.V7]
 exact O.filter _
 rw[en] at fp ⊢
 obtain rfl:=cO (show some n'=some eN from fp)
 rw[aw.bB]
 exact bF.aeB Ir
 rw[en] at fp
 obtain rfl:=cO (show some n'=some eN from fp)
 rw[aw.bB]
 exact(aR.n1 n ae).del
 rw[en] at fp ⊢
 obtain rfl:=cO (show some n'=some eN from fp)
 rw[<-au.I9,aw.bB,bF.aeC,au.I9]
 exact cY
end
end kE
section
variable{u v ai u':H}{k b:o}{l:J lC}{dc n6 n:N}{bc ss:U}{S:J bP}{R:J cp}{ids q:J o}{r:cp}{s:mi}{p:bF}{rows Q:J jN}{K:aI->H->Prop}{e:lC}
def aAb{s:U}{K:o->H->Prop}(ae:u n=some (.cells #[.int .i64 k,.slice s.a s.n s.c] 143 (0,0)))(aq:K s.n u):Vm (some ⟨n,0,none⟩) u K:=by apply aDN;exact⟨λe=>(by cases e),λ_=>⟨_,rfl,s,a1 ae 1,aq⟩⟩
def aAl{l:J bP}(ag:qa l){x:bP}(M:x∈l)(hm:∀y∈l,bC x y=ax):l.getD (l.length-1) default=x:=by
 have ar:0<l.length:=vR.2 λe=>by rw[e] at M;cases M
 obtain⟨i,hi,rfl⟩:=pe M;have gi:l.length-1<l.length:=by omega
 rw[dr,cn gi];show l[l.length-1]=l[i];by_cases e:i=l.length-1;subst e;rfl;have h1:=nX.1 ag i (l.length-1) hi gi (by omega);exact Yc (hm _ (kk gi)) h1
def azh{e9:N}{hi bJ:o}(h:iE ai dc k u S)(cx:1<=k)(aw:∀g∈S,mc g.2)(qm:u.cell? ⟨e9,0,none⟩=some (.pointer (some ⟨dc,0,none⟩)))(_h1:dn hi)(h2:dn bJ)
  (aq:∀dD:aI,(dD=ak↔k<=(S.length:o)/\((eV k.toNat S).getD (k.toNat-1) default).2<fi hi bJ)->K dD u):UB hi bJ ⟨e9,0,none⟩ u K:=by
 obtain⟨l,dI,bV,ad⟩:=h
 obtain⟨s,ae,ab,al⟩:=dI.ex
 have dw:=ab.fh.len
 have hlen:=ad.length_eq
 rw[zq] at hlen
 apply aBV
 refine⟨_,qm,?_⟩
 apply aDQ
 have full:∀{x2 kD:o},dn kD->((s.n:o)=k->fi x2 kD=((eV k.toNat S).getD (k.toNat-1) default).2)->Vl (some ⟨dc,0,none⟩) u (λ(adZ:aI) (u8:H)=>((adZ=Bool.true)->uV hi bJ x2 kD u8 (λ(aEI:o) (gV:H)=>K (decide ((0:o)<aEI)) gV))/\((adZ=Bool.false)->K Bool.false u8)):=by
  intro x2 kD air hw;apply aDM;refine⟨λ_=>⟨_,rfl,_,rfl,s,a1 ae 1,_,a1 ae 0,λZ=>?_,λZ=>?_⟩,λe=>(by cases e)⟩;have he:=uI Z;refine Bn h2 air ?_;rw[hw he];have oT:k<=(S.length:o):=by omega
  have key:∀Y:o,(0<Y↔((eV k.toNat S).getD (k.toNat-1) default).2<fi hi bJ)->K (decide (0<Y)) u:=λY aB=>aq _ (by rw[decide_eq_true_iff,aB];exact⟨λh=>⟨oT,h⟩,λh=>h.2⟩);refine key _ ?_;split;omega;split<;>omega;have he:=Bg Z;exact aq _ ⟨λe=>(by cases e),λI=>by omega⟩
 refine aAb ae ⟨λh0=>⟨_,qm,full ⟨by omega,by omega⟩ λe=>by omega⟩,λMr=>?_⟩
 obtain⟨p,jV,g,W,bK,c1,c2⟩:=ab.fh.at (x:=0) (by omega) (by omega)
 have yv:l.getD 0 default=g:=by rw[dr];have:l[(0:o).toNat]?=some g:=W;rw[show(0:o).toNat=0 from rfl] at this;rw[this];rfl
 have tN:g∈l:=du W
 have wW:g∈eV k.toNat S:=ad.mem_iff.1 tN
 have aFp:mc g.2:=aw g ((v8 _).mem_iff.1 (nW wW))
 have fW:p.add ((0:o).toNat*3)=p.add 0:=rfl
 rw[fW] at bK c1 c2
 refine⟨_,rfl,s,a1 ae 1,p,jV,⟨by omega,by omega⟩,_,bK,_,c1,_,c2,_,qm,full (AO _) λe=>?_⟩
 rw[sg]
 have cL:oE (λa b:bP=>bC b a):=⟨λa b h=>Ic h,λa b c h k=>E1 k h⟩
 have atr:∀y∈eV k.toNat S,bC g y=ax:=λy ah=>by
  have Fx:=ad.mem_iff.2 ah;obtain⟨i,hi,rfl⟩:=pe Fx;have h3:bC (l.getD 0 default) (l.getD i default)=ax:=bV.root cL i hi;have e:l.getD i default=l[i]:=by rw[dr,cn hi];rfl
  rw[e,yv] at h3;exact h3
 have ar:=aAl (T3 k.toNat S) wW atr
 rw[zq] at ar
 rw[show k.toNat-1=min k.toNat S.length-1 by omega,ar]
def azB{K:ao->H->Prop}(h:sk v u n l)(bV:iw blt l.length l)(al:0<l.length)
  (aq:∀u' m,sk v u' n (j0 blt l)->mO v m (l.getD 0 default).2->K (vV ((⟨m,0,none⟩:ba),l.getD 0 default)) u'):DP (Gr n) u K:=by
 obtain⟨L,e6,cL,eh⟩:=h.ex
 have hlen:L.length=l.length:=by rw[<-cL,dg]
 have qk:∀i,l.getD i default=(L.getD i default).2:=λi=>by rw[<-cL];exact getD_map' (f:=λe:kG=>e.2) rfl L i
 have agQ:iw xv L.length L:=λi i0 i1=>by have:=bV i i0 (by omega);rw[qk,qk] at this;exact this
 obtain⟨hF,_,_,_⟩:=NU ajT agQ (by omega)
 refine azn (ajS v n) ajT (V:=vV) e6 agQ (by omega) (λ{u' bw x fA} ag hk=>?_) λu' ag=>?_
 refine axQ ag (by simp) λjb ahQ=>?_
 rw[List.dropLast_concat] at ahQ
 have e:(bw++ [x]).getD ((bw++ [x]).length-1) default=x:=by rw[dr];simp
 rw[e]
 exact hk jb ahQ
 have h0:L.getD 0 default∈L:=by rw[dr,cn (by omega)];exact kk (by omega)
 obtain⟨m,hm,ad⟩:=eh _ h0
 have e:L.getD 0 default=((⟨m,0,none⟩:ba),l.getD 0 default):=by rw[qk,<-hm]
 rw[e]
 refine aq u' m ⟨j0 xv L,ag,?_,λy ah=>eh y (hF.mem_iff.1 (gd _ ah))⟩ (by rw[qk];exact ad)
 have aC:=axq (α:=kG) (β:=lC) (lt:=xv) (vB:=blt) (f:=λe:kG=>e.2) rfl (λ_ _=>rfl) L
 rw[cL] at aC
 exact aC
def aAN:j9 aH 39=some (102,6,96,[.int .i64 0,.slice none 0 0,.slice none 0 0,.int .u64 0,.int .u64 0,.slice none 0 0]):=by kernel_rfl
structure tq(ai u:H)(bc:U)(rest:J cp):Prop where
 own:aD ai u 102 6 bc (rest.flatMap tB)
 each:∀r∈rest,x7 ai u r
 eu:(bc::rest.flatMap cp.jj).Pairwise dH
def tq.mono{rest:J cp}(h:tq ai u bc rest)(k:u.le u'):tq ai u' bc rest:=
 ⟨h.own.mono k,λr O=>⟨(h.each r O).l.mono k,(h.each r O).h.mono k,(h.each r O).i.mono k⟩,h.eu⟩
def tq.nil(h:ai.le u):tq ai u ⟨none,0,0⟩ []:=⟨aD.nil h _ _,λr O=>(by cases O),by rw[Gh];exact Jr _ _⟩
def FX(h:x7 ai u r):∀s∈r.jj,∃xs,aD ai u 3 1 s xs:=by intro s ag;simp only[cp.jj,cE,qA,qB] at ag;rcases ag with rfl|rfl|rfl;exact⟨_,h.l⟩;exact⟨_,h.h⟩;exact⟨_,h.i⟩
def ax0{aS:H}{rest:J cp}{K:U->H->Prop}(h:tq ai aS bc rest)(hu:aS.le u)(O:x7 aS u r)(f1:dH r.ls r.ag)(f2:dH r.ls r.is)(f3:dH r.ag r.is)(ar:rest.length<=10000000)
  (aq:∀ap u',tq ai u' ap (rest++ [r])->gN u u' bc->(∀g,ap.aj=some g->bc.aj=some g∨u g=none)->K ap u'):
  c4 aH (dA 39 1 #[(0,.agg #[.int .i64 r.aG,.slice r.ls.a r.ls.n r.ls.c,.slice r.ag.a r.ag.n r.ag.c,.int .u64 (dk r.cH),.int .u64 (dq r.cH),.slice r.is.a r.is.n r.is.c])]) [.one .slice] u λs1 v1=>u.le v1/\c4 aH (dW #[39,39] 39 #[.slice bc.a bc.n bc.c,.slice s1.a s1.n s1.c]) [.one .slice] v1 K:=by
 have hm:=h.mono hu
 have ae:bc.n=rest.length:=gY Wk (by decide) hm.own.own.cC
 have aco:ai.le aS:=h.own.le
 have lY:x7 ai u r:=⟨O.l.weaken aco,O.h.weaken aco,O.i.weaken aco⟩
 have eh:∀x∈rest++ [r],x7 ai u x:=λx M=>by rcases cK.1 M with M|M;exact hm.each x M;rw[fI.1 M];exact lY
 have Wp:∀s∈r.jj,dH bc s/\∀t∈rest.flatMap cp.jj,dH t s:=λs ag=>by obtain⟨xs,M⟩:=FX O s ag;refine⟨aD.eu h.own (H.le.refl aS) M,λt ht=>?_⟩;obtain⟨y,ah,Fm⟩:=ee.1 ht;obtain⟨eD,Zt⟩:=FX (h.each y ah) t Fm;exact aD.eu Zt (H.le.refl aS) M
 have ac:=h.eu
 rw[jJ] at ac
 refine zl aAN (aef r.ls r.ag r.is r.aG (dk r.cH) (dq r.cH)) (by decide) rfl (by simp[cF]) hm.own (by omega) (by omega) λap u' ab hJ eB ev _=>aq ap u' ⟨?_,λx M=>?_,?_⟩ eB ev
 rw[gU]
 exact ab
 have hk:qM [bc] u u':=λb z Z aw=>eB b z Z (aw bc (gh ..))
 refine hk.aw5 (eh x M) (λs ag g W=>by rw[fI.1 ag] at W;exact hm.own.fresh g W) λs ag t ht=>?_
 rw[fI.1 ag]
 rcases cK.1 M with M|M
 exact ac.1 t (ee.2 ⟨x,M,ht⟩)
 rw[fI.1 M] at ht;exact(Wp t ht).1
 rw[gU,jJ]
 have auC:[r].flatMap cp.jj=r.jj:=by simp
 rw[auC]
 refine⟨λt ht=>?_,Bb.2 ⟨ac.2,?_,λt ht s ag=>(Wp s ag).2 t ht⟩⟩
 intro g W gQ
 have pD:dH bc t:=by rcases cK.1 ht with h1|h1;exact ac.1 t h1;exact(Wp t h1).1
 have pH:∃xs,aD ai u 3 1 t xs:=by rcases cK.1 ht with h1|h1;obtain⟨y,ah,Fm⟩:=ee.1 h1;exact FX (hm.each y ah) t Fm;exact FX lY t h1
 obtain⟨xs,M⟩:=pH
 rcases ev g W with h1|h1
 exact pD g h1 gQ
 exact dF M gQ h1
 simp only[cp.jj,jJ,cE,qA,qB,Js,Ob,mE,vS]
 exact⟨⟨f1,f2⟩,f3,λ_ h=>h.elim⟩
def x4.beside{a cM b:H}(ac:x4 a u cM u')(au3:v.le cM)(Z:b.le u)(AH:v.le b)(ix:∀c,a c≠none->b c≠none->v c≠none):b.le u'/\∀c,cM c≠none->b c≠none->v c≠none:=by
 refine⟨λc z I=>?_,λc h1 h2=>?_⟩;cases e:a c with
 |none=>exact(ac.out c z e (Z c z I)).2|some b5=>obtain⟨hE,h2⟩:=e3.1 (ix c (by rw[e];simp) (by rw[I];simp));have h3:=AH c hE h2;rw[I] at h3;cases h3;exact ac.le c z (au3 c z h2)
 cases e:a c with
 |none=>obtain⟨z,ab⟩:=e3.1 h2;exact a6 (ac.out c z e (Z c z ab)).1 h1
 |some b5=>exact ix c (by rw[e];simp) h2
structure jo(v u:H)(dc n6:N)(k:o)(S:J bP)(l:J lC)(ids:J o)(ss bc:U)(R:J cp):Prop where
 ex:∃gW kY,gW.le u/\kY.le u/\v.le gW/\v.le kY/\(∀c,gW c≠none->kY c≠none->v c≠none)/\iE v dc k gW S/\sk v kY n6 l/\(∀s∈ss::bc::R.flatMap cp.jj,∀g,s.aj=some g->gW g=none/\kY g=none)
 seen:aD v u 3 1 ss (ids.flatMap encI)
 rest:tq v u bc R
 eu:∀s∈bc::R.flatMap cp.jj,dH ss s
def jo.le(h:jo v u dc n6 k S l ids ss bc R):v.le u:=h.seen.le
def jo.known(h:jo v u dc n6 k S l ids ss bc R):∀s∈ss::bc::R.flatMap cp.jj,∀g,s.aj=some g->u g≠none:=by intro s ag g W;rcases cE.1 ag with rfl|ag;exact dF h.seen W;rcases cE.1 ag with rfl|ag;exact dF h.rest.own W;obtain⟨y,ah,Fm⟩:=ee.1 ag;obtain⟨xs,M⟩:=FX (h.rest.each y ah) s Fm;exact dF M W
def tq.stay(h:tq v u bc R)(aA:v.le u')(ag:∀s∈bc::R.flatMap cp.jj,∀g z,s.aj=some g->u g=some z->u' g=some z):tq v u' bc R:=by have one:∀{e k:N} {s:U} {xs:J ao},aD v u e k s xs->s∈bc::R.flatMap cp.jj->aD v u' e k s xs:=λab hm=>⟨ab.own.le λb z Z hu=>ag _ hm b z Z hu,aA,ab.fresh⟩;refine⟨one h.own (gh ..),λr O=>?_,h.eu⟩;have hm:∀s∈r.jj,s∈bc::R.flatMap cp.jj:=λs ag=>gd _ (ee.2 ⟨r,O,ag⟩);exact⟨one (h.each r O).l (hm _ (by simp[cp.jj])),one (h.each r O).h (hm _ (by simp[cp.jj])),one (h.each r O).i (hm _ (by simp[cp.jj]))⟩
def aAg{x:bP}(h:jo v u dc n6 k S l ids ss bc R)(cx:1<=k)(cS:k<=64)
  (aq:∀b u',jo v u' dc n6 k (x::S) l ids ss bc R->K b u'):zz (some ⟨dc,0,none⟩) x.1 (dk x.2) (dq x.2) u K:=by
 obtain⟨gW,kY,t1,cT,t2,da,ix,aR,e6,eI⟩:=h.ex
 have I:=OS (K:=λ_ u'=>iE v dc k u' (x::S)) aR cx cS λb u' bL=>bL
 refine I.frame t1 ?_
 intro b amk u' ac en
 have gR:=en.le
 obtain⟨gf,gP⟩:=ac.beside gR cT da ix
 have stay:∀s∈ss::bc::R.flatMap cp.jj,∀g z,s.aj=some g->u g=some z->amk g=none/\u' g=some z:=λs ag g z W ab=>ac.out g z (eI s ag g W).1 ab
 refine aq b u' ⟨⟨amk,kY,ac.le,gf,gR,da,gP,en,e6,λs ag g W=>?_⟩,⟨h.seen.own.le λg z W ab=>(stay _ (gh ..) g z W ab).2,gR.trans ac.le,h.seen.fresh⟩,h.rest.stay (gR.trans ac.le) λs ag g z W ab=>(stay s (gd _ ag) g z W ab).2,h.eu⟩
 obtain⟨z,ab⟩:=e3.1 (h.known s ag g W)
 exact⟨(stay s ag g z W ab).1,(eI s ag g W).2⟩
def jo.queue{gW kY GR:H}{bw:J lC}(h:jo v u dc n6 k S l ids ss bc R)(t1:gW.le u)(t2:v.le gW)(ix:∀c,gW c≠none->kY c≠none->v c≠none)
  (aR:iE v dc k gW S) (eI:∀s∈ss::bc::R.flatMap cp.jj,∀g,s.aj=some g->gW g=none/\kY g=none) (ac:x4 kY u GR u') (gR:v.le GR) (Ex:sk v GR n6 bw):jo v u' dc n6 k S bw ids ss bc R:=by
 obtain⟨gf,gP⟩:=ac.beside gR t1 t2 λc h1 h2=>ix c h2 h1
 have stay:∀s∈ss::bc::R.flatMap cp.jj,∀g z,s.aj=some g->u g=some z->GR g=none/\u' g=some z:=λs ag g z W ab=>ac.out g z (eI s ag g W).2 ab
 refine⟨⟨gW,GR,gf,ac.le,t2,gR,λc h1 h2=>gP c h2 h1,aR,Ex,λs ag g W=>?_⟩,⟨h.seen.own.le λg z W ab=>(stay _ (gh ..) g z W ab).2,gR.trans ac.le,h.seen.fresh⟩,h.rest.stay (gR.trans ac.le) λs ag g z W ab=>(stay s (gd _ ag) g z W ab).2,h.eu⟩
 obtain⟨z,ab⟩:=e3.1 (h.known s ag g W)
 exact⟨(eI s ag g W).1,(stay s ag g z W ab).1⟩
def sk.le(h:sk v u n l):v.le u:=by obtain⟨L,e6,_,_⟩:=h.ex;obtain⟨s,_,ab,_⟩:=e6.ex;exact ab.le
def alD{n0 m:N}{s:U}{K:H->Prop}(h:jo v u dc n6 k S l ids ss bc R)(ar:l.length<10000000)(ad:mO v m p)
  (bH:oF (p.hp []) q.length) (aO:db q) (eT:v.cell? ⟨n0,0,none⟩=some (.slice s.a s.n s.c)) (ag:Ints v s q) (aq:∀u',jo v u' dc n6 k S (ps q l p) ids ss bc R->K u'):UA (some ⟨m,0,none⟩) ⟨n0,0,none⟩ ⟨n6,0,none⟩ u K:=by
 obtain⟨gW,kY,t1,cT,t2,da,ix,aR,e6,eI⟩:=h.ex
 have I:=azg (K:=λu'=>sk v u' n6 (ps q l p)) e6 da ar ad bH aO (da.cell eT) (ag.mono da) λu' bL=>bL
 refine I.frame cT ?_
 intro GR u' ac Ex
 exact aq u' (h.queue t1 t2 ix aR eI ac Ex.le Ex)
def aAi{K:ao->H->Prop}(h:jo v u dc n6 k S l ids ss bc R)(bV:iw blt l.length l)(al:0<l.length)
  (aq:∀u' m,jo v u' dc n6 k S (j0 blt l) ids ss bc R->mO v m (l.getD 0 default).2->K (vV ((⟨m,0,none⟩:ba),l.getD 0 default)) u'):DP (Gr n6) u K:=by
 obtain⟨gW,kY,t1,cT,t2,da,ix,aR,e6,eI⟩:=h.ex
 have I:=azB (K:=λx u'=>∃m,x=vV ((⟨m,0,none⟩:ba),l.getD 0 default)/\sk v u' n6 (j0 blt l)/\mO v m (l.getD 0 default).2) e6 bV al λu' m h1 h2=>⟨m,rfl,h1,h2⟩
 refine I.frame cT ?_
 rintro x GR u' ac ⟨m,rfl,Ex,ad⟩
 exact aq u' m (h.queue t1 t2 ix aR eI ac Ex.le Ex) ad
def iE.whole{gW:H}(h:iE v dc k gW S)(hu:gW.le u):iE v dc k u S:=h.mono hu
def aAh{e9:N}{hi bJ:o}(h:jo v u dc n6 k S l ids ss bc R)(cx:1<=k)(aw:∀g∈S,mc g.2)
  (qm:v.cell? ⟨e9,0,none⟩=some (.pointer (some ⟨dc,0,none⟩))) (h1:dn hi) (h2:dn bJ) (aq:∀dD:aI,(dD=ak↔k<=(S.length:o)/\((eV k.toNat S).getD (k.toNat-1) default).2<fi hi bJ)->K dD u):UB hi bJ ⟨e9,0,none⟩ u K:=by
 obtain⟨gW,kY,t1,cT,t2,da,ix,aR,e6,eI⟩:=h.ex
 exact azh (aR.whole t1) cx aw (h.le.cell qm) h1 h2 aq
def le_none{a:H}(h:a.le u){g:N}(W:u g=none):a g=none:=by
 cases e:a g with
 |none=>rfl|some z=>have:=h g z e;rw[W] at this;cases this
def aEv{x:o}{K:U->H->Prop}(h:jo v u dc n6 k S l ids ss bc R)(ar:ids.length<10000000)
  (aq:∀ap u',jo v u' dc n6 k S l (ids++ [x]) ap bc R->K ap u'):
  c4 aH (dA 30 1 #[(0,.int .i64 x)]) [.one .slice] u λs1 aS=>c4 aH (dW #[30,30] 30 #[.slice ss.a ss.n ss.c,.slice s1.a s1.n s1.c]) [.one .slice] aS K:=by
 obtain⟨gW,kY,t1,cT,t2,da,ix,aR,e6,eI⟩:=h.ex
 have ae:=h.seen.ints.len
 refine np lQ (zN _) (by decide) rfl (by simp[cF]) h.seen (by omega) (by omega) λap u' ab hJ eB ev _=>aq ap u' ?_
 have fresh:∀g,ap.aj=some g->gW g=none/\kY g=none:=λg W=>by rcases ev g W with h1|h1;exact eI ss (gh ..) g h1;exact⟨le_none t1 h1,le_none cT h1⟩
 have alR:∀{w:H},w.le u->(∀g,ss.aj=some g->w g=none)->w.le u':=λhw W b z Z=>eB b z (hw b z Z) λe=>by rw[W b e] at Z;cases Z
 have aqa:∀s∈bc::R.flatMap cp.jj,dH ap s:=λs ag g W gQ=>by rcases ev g W with h1|h1;exact h.eu s ag g h1 gQ;exact h.known s (gd _ ag) g gQ h1
 refine⟨⟨gW,kY,alR t1 λg W=>(eI ss (gh ..) g W).1,alR cT λg W=>(eI ss (gh ..) g W).2,t2,da,ix,aR,e6,λs ag g W=>?_⟩,?_,h.rest.stay ab.le λs ag g z W bQ=>eB g z bQ λe=>h.eu s ag g e W,aqa⟩
 rcases cE.1 ag with rfl|ag
 exact fresh g W
 exact eI s (gd _ ag) g W
 rw[gU]
 exact ab
def amN{w:H}{K:U->H->Prop}(h:jo v u dc n6 k S l ids ss bc R)(hw:u.le w)(O:x7 u w r)(f1:dH r.ls r.ag)(f2:dH r.ls r.is)(f3:dH r.ag r.is)(ar:R.length<=10000000)
  (aq:∀ap u',jo v u' dc n6 k S l ids ss ap (R++ [r])->gN w u' bc->(∀g,ap.aj=some g->bc.aj=some g∨w g=none)->K ap u'):
  c4 aH (dA 39 1 #[(0,.agg #[.int .i64 r.aG,.slice r.ls.a r.ls.n r.ls.c,.slice r.ag.a r.ag.n r.ag.c,.int .u64 (dk r.cH),.int .u64 (dq r.cH),.slice r.is.a r.is.n r.is.c])]) [.one .slice] w λs1 v1=>w.le v1/\c4 aH (dW #[39,39] 39 #[.slice bc.a bc.n bc.c,.slice s1.a s1.n s1.c]) [.one .slice] v1 K:=by
 obtain⟨gW,kY,t1,cT,t2,da,ix,aR,e6,eI⟩:=h.ex
 refine ax0 h.rest hw O f1 f2 f3 ar λap u' b1 eB ev=>aq ap u' ?_ eB ev
 have ajl:∀s∈r.jj,∃xs,aD u w 3 1 s xs:=FX O
 have fresh:∀s∈ss::ap::(R++ [r]).flatMap cp.jj,∀g,s.aj=some g->gW g=none/\kY g=none:=λs ag g W=>by rcases cE.1 ag with rfl|ag;exact eI _ (gh ..) g W;rcases cE.1 ag with rfl|ag;rcases ev g W with h1|h1;exact eI bc (by simp) g h1;exact⟨le_none (t1.trans hw) h1,le_none (cT.trans hw) h1⟩;rw[gU] at ag;rcases cK.1 ag with ag|ag;exact eI s (by simp only[cE];exact .inr (.inr ag)) g W;obtain⟨xs,M⟩:=ajl s (by simpa using ag);exact⟨le_none t1 (M.fresh g W),le_none cT (M.fresh g W)⟩
 have ae4:dH ss bc:=h.eu bc (gh ..)
 have bM:∀{Y:H},Y.le u->(∀g,bc.aj=some g->Y g=none)->Y.le u':=λaB W b z Z=>eB b z (hw b z (aB b z Z)) λe=>by rw[W b e] at Z;cases Z
 refine⟨⟨gW,kY,bM t1 λg W=>(eI bc (by simp) g W).1,bM cT λg W=>(eI bc (by simp) g W).2,t2,da,ix,aR,e6,fresh⟩,⟨h.seen.own.le λb z Z ab=>eB b z (hw b z ab) λe=>ae4 b Z e,b1.own.le,h.seen.fresh⟩,b1,λs ag=>?_⟩
 rcases cE.1 ag with rfl|ag
 intro g W gQ
 rcases ev g gQ with h1|h1
 exact ae4 g W h1
 have:=dF h.seen W
 exact this (le_none hw h1)
 rw[gU] at ag
 rcases cK.1 ag with ag|ag
 exact h.eu s (gd _ ag)
 obtain⟨xs,M⟩:=ajl s (by simpa using ag)
 exact aD.eu h.seen (H.le.refl u) M
def sk.slice(h:sk v u n l):∃s:U,u.cell? ⟨n,0,none⟩=some (.slice s.a s.n s.c)/\s.n=l.length/\∀x:o,0<=x->x<(s.n:o)->∃p m e,s.a=some p/\l[x.toNat]?=some e/\mO v m e.2/\
  u.cell? (p.add (x.toNat*3))=some (.pointer (some ⟨m,0,none⟩))/\u.cell? ((p.add (x.toNat*3)).add 1)=some (.int .u64 (dk e.1))/\u.cell? ((p.add (x.toNat*3)).add 2)=some (.int .u64 (dq e.1)):=by
 obtain⟨L,e6,cL,eh⟩:=h.ex
 obtain⟨s,ae,ab,_⟩:=e6.ex
 refine⟨s,a1 ae 0,by rw[ab.pT.len,<-cL,dg],λx bG dy=>?_⟩
 obtain⟨p,ad,y,ah,bK,c1,c2⟩:=ab.pT.at bG dy
 obtain⟨m,hm,RY⟩:=eh y (du ah)
 refine⟨p,m,y.2,ad,by rw[<-cL,iD,ah];rfl,RY,?_,c1,c2⟩
 rw[hm] at bK
 exact bK
def jo.slice(h:jo v u dc n6 k S l ids ss bc R):∃s:U,u.cell? ⟨n6,0,none⟩=some (.slice s.a s.n s.c)/\s.n=l.length/\∀x:o,0<=x->x<(s.n:o)->∃p m e,s.a=some p/\l[x.toNat]?=some e/\mO v m e.2/\
  u.cell? (p.add (x.toNat*3))=some (.pointer (some ⟨m,0,none⟩))/\u.cell? ((p.add (x.toNat*3)).add 1)=some (.int .u64 (dk e.1))/\u.cell? ((p.add (x.toNat*3)).add 2)=some (.int .u64 (dq e.1)):=by
 obtain⟨gW,kY,t1,cT,t2,da,ix,aR,e6,eI⟩:=h.ex
 obtain⟨s,h1,h2,h3⟩:=e6.slice
 refine⟨s,cT.cell h1,h2,λx bG dy=>?_⟩
 obtain⟨p,m,e,g1,g2,g3,g4,g5,g6⟩:=h3 x bG dy
 exact⟨p,m,e,g1,g2,g3,cT.cell g4,cT.cell g5,cT.cell g6⟩
def jo.mono(h:jo v u dc n6 k S l ids ss bc R)(hu:u.le u'):jo v u' dc n6 k S l ids ss bc R:=by obtain⟨gW,kY,t1,cT,t2,da,ix,aR,e6,eI⟩:=h.ex;exact⟨⟨gW,kY,t1.trans hu,cT.trans hu,t2,da,ix,aR,e6,eI⟩,h.seen.mono hu,h.rest.mono hu,h.eu⟩
def pu(x:bF×J jN):o×o×J o×J o×J o:=(x.1.aG,x.1.cH,x.1.bJ,x.1.hi,dM (x.2.map (·.1)))
def Qs(h:r.core=pu (p,rows)):r.aG=p.aG/\r.cH=p.cH/\r.bJ=p.bJ/\r.hi=p.hi/\r.ids=dM (rows.map (·.1)):=by simp only[cp.core,pu,Gc] at h;exact⟨h.1,h.2.1,h.2.2.1,h.2.2.2.1,h.2.2.2.2⟩
def awL(h:r.core=pu (p,rows))(q:J o):o4 r q=o4 (p.hp []) q:=by obtain⟨h1,h2,h3,a7,_⟩:=Qs h;unfold o4 bF.hp;simp only[h1,h2,h3,a7]
def avw(h:r.core=pu (p,rows)){v:J o}(hi:mL (p.hp []) v):mL r v:=by obtain⟨h1,h2,h3,a7,_⟩:=Qs h;unfold mL bF.hp at*;simp only[h1,h2,h3,a7] at*;exact hi
def axY{d:o}(h:r.core=pu (p,rows))(ad:oF (p.hp []) d)(ae:(rows.map (·.1)).Nodup)(b7:∀x∈rows,1<=x.1/\x.1<=1000000000):oF r d:=by obtain⟨h1,h2,h3,a7,bE⟩:=Qs h;refine⟨ad.dim,by rw[bE];exact Dw ae,λx M=>?_,?_⟩;rw[bE] at M;obtain⟨y,ah,rfl⟩:=bk.1 ((nq _).mem_iff.1 M);exact b7 y ah;have:=ad.shape;unfold bF.hp at this;simp only at this;rw[h1,h2,h3,a7];exact this
def axn{L:J av}:∀{S:J jN},(∀x∈S,x∈L.map av.bi)->∃m:J av,m.map av.bi=S/\∀r∈m,r∈L:=by
 intro S;induction S with
 |nil=>intro _;exact⟨[],rfl,λr O=>by cases O⟩
 |cons x S aL=>intro h;obtain⟨m,h1,h2⟩:=aL λy ah=>h y (gd _ ah);obtain⟨r,O,e⟩:=bk.1 (h x (gh ..));exact⟨r::m,by rw[gl,h1,e],λy ah=>by rcases cE.1 ah with rfl|ah;exact O;exact h2 y ah⟩
def Z2(s:mi):(nR s).flatMap (·.2)=s.rest.flatMap (·.2)++s.heap.flatMap λx=>x.2.all:=by
 unfold nR;rw[gU];congr 1;generalize s.heap=l;induction l with
 |nil=>rfl|cons x l aL=>
  rw[gl,xN,gB];cases e:x.2.all with
  |nil=>simpa[e] using aL|cons y eD=>simp only[List.isEmpty_cons,Bool.not_false,qx,gB,aL]
def Z3{P:J jN}(h:so q b P s):∀x∈nR s,fT q.length x.1/\x.2≠[]/\(∀y∈x.2,y∈x.1.all):=by intro x M;unfold nR at M;rcases cK.1 M with h1|h1;exact h.left x h1;obtain⟨h2,h3⟩:=hT.1 h1;obtain⟨y,ah,rfl⟩:=bk.1 h2;refine⟨(h.sY y ah).2,λe=>?_,λY aB=>aB⟩;simp only at e;rw[e] at h3;cases h3
def Dy{α β:Type}{f:α->J β}{x:α}:∀{l:J α},x∈l->List.Sublist (f x) (l.flatMap f):=by
 intro l;induction l with
 |nil=>intro h;cases h
 |cons y l aL=>intro h;rw[gB];rcases cE.1 h with rfl|h;exact aa7 _ _;exact(aL h).trans (List.sublist_append_right _ _)
def acI{c3:J bF}{L:J av}{rs:J cp}(Z:0<=b)(hk:1<=k)(aud:∀p∈c3,fT q.length p)(aO:kH L q)(cL:(L.map av.bi).Perm (bF.jD c3))(O:rs.map cp.core=(nR (oB q k b c3)).map pu):
  Sound L q k (xT q k (oB q k b c3)) (dM ((oB q k b c3).seen.map (·.1))) rs/\((dM ((oB q k b c3).seen.map (·.1))).length:o)<=b/\
   (((dM ((oB q k b c3).seen.map (·.1))).length:o)=b∨(dM ((oB q k b c3).seen.map (·.1))).length=L.length∨zA q k (xT q k (oB q k b c3)) rs):=by
 obtain⟨hw,pB⟩:=aEq (k:=k) Z aud
 generalize oB q k b c3=s at*
 have k5:=hw.perm
 rw[<-Z2] at k5
 have eh:=k5.trans cL.symm
 have asP:(L.map av.bi).map (·.1)=L.map (·.id):=by rw[ez];rfl
 have ke:(s.seen.map (·.1)++((nR s).flatMap (·.2)).map (·.1)).Perm (L.map (·.id)):=by rw[<-asP,<-dY];exact eh.map _
 have bY:=ke.nodup_iff.2 aO.rows.nodup
 have w6:=(gb.1 bY).1
 have Mv:=(gb.1 bY).2.1
 have EF:∀r∈rs,∃x∈nR s,r.core=pu x:=λr fQ=>by
  have:r.core∈(nR s).map pu:=by rw[<-O];exact hS fQ
  obtain⟨x,M,e⟩:=bk.1 this;exact⟨x,M,e.symm⟩
 have ahl:∀x∈nR s,∀y∈x.2,y∈L.map av.bi:=λx M y ah=>eh.mem_iff.1 (lf _ (ee.2 ⟨x,M,ah⟩))
 have ahO:∀r∈rs,∃x∈nR s,r.core=pu x/\oF r q.length:=λr fQ=>by obtain⟨x,M,e⟩:=EF r fQ;obtain⟨h1,h2,h3⟩:=Z3 hw x M;refine⟨x,M,e,axY (p:=x.1) (rows:=x.2) e h1.kl ?_ λy ah=>?_⟩;exact Mv.sublist ((Dy M).map _);obtain⟨w,kT,sB⟩:=bk.1 (ahl x M y ah);rw[<-sB];exact aO.rows.id w kT
 have H0:(rs.flatMap (·.ids)).Perm (((nR s).flatMap (·.2)).map (·.1)):=by
  have aP:rs.flatMap (·.ids)=(rs.map cp.core).flatMap λY=>Y.2.2.2.2:=by rw[Bf];rfl
  rw[aP,O,Bf];generalize nR s=l;induction l with
  |nil=>exact .refl _|cons x l aL=>rw[gB,gB,dY];exact(nq _).append aL
 have hlen:(dM (s.seen.map (·.1))).length=s.seen.length:=by rw[zm,dg]
 obtain⟨ms,E2,rR⟩:=axn (L:=L) (S:=s.seen) λx M=>eh.mem_iff.1 (iY _ M)
 have pJ:xT q k s=eV k.toNat (ms.map (ia q)):=by unfold xT;rw[<-E2,ez];rfl
 refine⟨⟨Dw w6,λr fQ=>?_,?_,λm hm Mk=>?_⟩,by rw[hlen];exact hw.u9,?_⟩
 obtain⟨x,M,e,It⟩:=ahO r fQ
 obtain⟨h1,h2,h3⟩:=Z3 hw x M
 obtain⟨_,_,_,_,eX⟩:=Qs (p:=x.1) (rows:=x.2) e
 refine⟨It,λae=>?_,λy ah=>?_⟩
 rw[eX] at ae
 have:=dV hR ae
 rw[zm,dg,nT] at this
 exact h2 (ly this)
 rw[eX] at ah
 obtain⟨Y,aB,rfl⟩:=bk.1 ((nq _).mem_iff.1 ah)
 obtain⟨w,kT,sB⟩:=bk.1 (ahl x M Y aB)
 refine⟨w,kT,by rw[<-sB];rfl,avw (p:=x.1) (rows:=x.2) e ?_⟩
 have:=h1.ins Y (h3 Y aB)
 rw[<-sB] at this
 exact this
 exact((nq _).append H0).trans ke
 rw[pJ]
 have ad:m.Perm ms:=by refine akn aO.rows.nodup hm rR ?_;rw[Mk];refine(nq _).trans (aa2 ?_);rw[<-E2,ez];rfl
 exact DB (ad.symm.map _)
 rw[hlen]
 have sM:=hw.u9
 by_cases wR:s.rest=[]
 by_cases jS:b<=(s.seen.length:o)
 left;omega
 by_cases bV:s.heap=[]
 right;left
 have h1:=ke.length_eq
 rw[Z2,wR,bV] at h1
 simpa using h1
 right;right
 have wV:K5 q k s (s.heap.getD 0 default).1:=by by_cases ac:K5 q k s (s.heap.getD 0 default).1;exact ac;exact a6 ⟨bV,by omega,ac⟩ pB
 obtain⟨f1,f2⟩:=wV
 right
 refine⟨?_,λr fQ=>?_⟩
 unfold xT
 rw[zq,dg]
 omega
 obtain⟨x,M,e,_⟩:=ahO r fQ
 rw[awL (p:=x.1) (rows:=x.2) e]
 unfold nR at M
 rw[wR,lu] at M
 obtain⟨y,ah,rfl⟩:=bk.1 (hT.1 M).1
 obtain⟨i,hi,rfl⟩:=pe ah
 have kP:=hw.ad.root D6 i hi
 rw[dr,cn hi] at kP
 have gr:(s.heap.getD 0 default).1<=s.heap[i].1:=by have:¬s.heap[i].1<(s.heap.getD 0 default).1:=Bg kP;omega
 have:=(hw.sY _ ah).1
 rw[show(k-1).toNat=k.toNat-1 by omega]
 show _<o4 (s.heap[i].2.hp []) q
 omega
 left
 exact hw.cut wR
def ad0:hl aH 265=ak:=by kernel_rfl
def aop:hl aH 266=ak:=by kernel_rfl
def Sx(P:J bF):P.length<=bF.hq P:=by
 induction P with
 |nil=>exact cg _|cons p P aL=>simp only[bF.hq,h5];have:=bF.size_eq p;omega
def Ja{s:U}{c3:J N}(h:bt u s 1 (c3.map λn=>.pointer (some ⟨n,0,none⟩))){i:N}(hi:i<c3.length):∃a,s.a=some a/\u.cell? (a.add (i*1))=some (.pointer (some ⟨c3[i],0,none⟩)):=by
 obtain⟨a,aE,I⟩:=bt.elem (enc:=λn:N=>[gS (some ⟨n,0,none⟩)]) (k:=1) (λ_=>rfl) (by decide) (xs:=c3) (by
  have e:c3.flatMap (λn:N=>[gS (some ⟨n,0,none⟩)])=c3.map λn=>gS (some ⟨n,0,none⟩):=by
   generalize c3=Y;induction Y with
   |nil=>rfl|cons y Y aL=>rw[gB,gl,aL];rfl
  rw[e];exact h) (cn hi)
 exact⟨a,aE,I 0 _ rfl⟩
def aAx(q:J o)(P:J bF):bF.hq ((TT q P).heap.map (·.2))<=bF.hq P:=by
 have h0:iw blt ([]:J lC).length []:=λi _ hi=>by simp at hi
 obtain⟨h1,h2⟩:=foldl_add (q:=q) P [] h0;rw[lu] at h2;show bF.hq ((P.foldl (ps q) []).map (·.2))<=_;rw[TJ (h2.map _),ez];exact JD (dV _ (Gg _))
def av6(h:¬yl q k b s):∀f,uk q k b f s=s:=by
 intro f;cases f with
 |zero=>rfl|succ f=>unfold uk;rw[az h]
def av5(h:yl q k b s)(f:N):uk q k b (f+1) s=uk q k b f (pZ q b s):=by
 conv=>lhs;unfold uk
 rw[aV h]
structure At(v w:H)(dc n6:N)(k b:o)(q:J o)(P:J bF)(f:N)(aG ss bc:U):Prop where
 gF:aG=⟨none,0,0⟩
 ex:∃(st:mi) (S:J bP) (R:J cp),jo v w dc n6 k S st.heap (st.seen.map (·.1)) ss bc R/\S.Perm (st.seen.map (Cv q))/\so q b (bF.jD P) st/\R.map cp.core=st.rest.map pu/\uk q k b f st=oB q k b P/\bF.hq (st.heap.map (·.2))<=f/\f<=bF.hq P
def jo.start(aR:iE v dc k u [])(ae:u n6=none):jo v (u.ins n6 (.cells #[.slice none 0 0] 331 (0,0))) dc n6 k [] [] [] ⟨none,0,0⟩ ⟨none,0,0⟩ []:=by have aA:=aR.le;have yK:v n6=none:=le_none aA ae;have hle:=bW (u:=u) (b:=n6) (.cells #[.slice none 0 0] 331 (0,0)) ae;have w1:=bW (u:=v) (b:=n6) (.cells #[.slice none 0 0] 331 (0,0)) yK;refine⟨⟨u,v.ins n6 (.cells #[.slice none 0 0] 331 (0,0)),hle,λc z I=>?_,aA,w1,λc h1 h2=>?_,aR,⟨[],⟨⟨⟨none,0,0⟩,bf _ _ _,aD.nil w1 _ _,by simp[U.aj]⟩,yK,by simp⟩,rfl,λe he=>(by cases he)⟩,λs ag g W=>?_⟩,aD.nil (aA.trans hle) _ _,tq.nil (aA.trans hle),λs ag=>?_⟩;by_cases e:c=n6;subst e;rw[bf] at I ⊢;exact I;rw[bm _ _ e] at I ⊢;exact aA c z I;by_cases e:c=n6;subst e;exact a6 ae h1;rw[bm _ _ e] at h2;exact h2;simp at ag;subst ag;simp[U.aj] at W;intro g W;simp[U.aj] at W
def aqj{α:Type}{L:J (α×J jN)}(h:∀x∈L,x.2≠[]):L.length<=(L.flatMap (·.2)).length:=by
 induction L with
 |nil=>exact cg _|cons x L aL=>have h1:=aL λy ah=>h y (gd _ ah);have h2:0<x.2.length:=vR.2 (h x (gh ..));rw[gB,eC,h5];omega
def av3(h:so q b Q s):(nR s).length<=Q.length:=by have h1:=aqj λx M=>(Z3 h x M).2.1;have h2:=h.perm.length_eq;rw[<-Z2,eC] at h2;omega
def xn(s:mi)(x:N):J (bF×J jN):=s.rest++((s.heap.take x).map λy=>(y.2,y.2.all)).filter λy=>!y.2.isEmpty
def av1(h:so q b Q s)(x:N):(xn s x).length<=Q.length:=by refine jv (List.Sublist.length_le ?_) (av3 h);unfold xn nR;exact(aa8 _).append (((rz x s.heap).map _).filter _)
def av0(s:mi){x:N}(h:s.heap.length<=x):xn s x=nR s:=by unfold xn nR;rw[ho h]
def av2{x:N}(h:s.heap[x]?=some e):xn s (x+1)=xn s x++(if e.2.all=[] then[] else[(e.2,e.2.all)]):=by unfold xn;rw[gT,h,Option.toList,dY,vT,nf];congr 2;cases aC:e.2.all<;>simp[aC]
def agD(h:so q b Q s)(he:e∈s.heap):e.2.all.length<=Q.length:=by have h1:=(Dy (f:=λx:lC=>x.2.all) he).length_le;have h2:=h.perm.length_eq;rw[eC,eC] at h2;omega
def ass(he:e∈l):e.2.size<=bF.hq (l.map (·.2)):=by
 induction l with
 |nil=>cases he
 |cons x l aL=>simp only[gl,bF.hq];rcases cE.1 he with rfl|he;omega;have:=aL he;omega
def akg{d:o}(h:oF (p.hp []) d):p.bJ.length<=64/\p.hi.length<=64:=by have aw:=h.dim;rcases h.shape with⟨_,h1,h2,_⟩|⟨_,_,h1,h2,_⟩|⟨_,h1,h2,_⟩;have qX:p.bJ=[]:=h1;have vb:p.hi=[]:=h2;rw[qX,vb];simp;exact⟨h1.1,h2.1⟩;have qX:p.hi=[]:=h1;rw[qX];exact⟨h2.1,by simp⟩
def aEu{Y aS c9:H}{aiE:J o}{aG:U}{H1:J bP}(xo:u.le v)(hB:jo v Y dc n6 k S l ids ss bc R)
  (h1:aD v aS 3 1 ss (aiE.flatMap encI)) (he:gN Y aS ss) (h2:aD aS c9 68 3 aG (H1.flatMap fD)):jB u c9 aG ss bc H1 aiE R:=by
 have W7:tq v aS bc R:=hB.rest.stay h1.le λs ag g z W ab=>he g z ab λe=>hB.eu s ag g e W
 have oe:=W7.mono h2.le
 have vt:=h1.mono h2.le
 refine⟨h2.weaken (xo.trans h1.le),vt.weaken xo,oe.own.weaken xo,λr O=>⟨(oe.each r O).l.weaken xo,(oe.each r O).h.weaken xo,(oe.each r O).i.weaken xo⟩,?_⟩
 have kn:∀s∈ss::bc::R.flatMap cp.jj,∀g,s.aj=some g->aS g≠none:=by intro s ag g W;rcases cE.1 ag with rfl|ag;exact dF h1 W;rcases cE.1 ag with rfl|ag;exact dF W7.own W;obtain⟨y,ah,Fm⟩:=ee.1 ag;obtain⟨xs,M⟩:=FX (W7.each y ah) s Fm;exact dF M W
 unfold qR
 refine jJ.2 ⟨λs ag g W gQ=>kn s ag g gQ (h2.fresh g W),jJ.2 ⟨λs ag=>hB.eu s ag,oe.eu⟩⟩
def an5{P:J bF}{st:mi}{f:N}(q0:yl q k b st)(bH:so q b (bF.jD P) st)(ar:uk q k b f st=oB q k b P)(ag:bF.hq (st.heap.map (·.2))<=f):
  ∃zY,f=zY+1/\uk q k b zY (pZ q b st)=oB q k b P/\bF.hq ((pZ q b st).heap.map (·.2))<=zY/\so q b (bF.jD P) (pZ q b st):=by
 have h1:=alV bH q0
 cases f with
 |zero=>omega
 |succ f=>exact⟨f,rfl,by rw[<-av5 q0];exact ar,by omega,alS bH q0⟩
def abO{s0 t:U}{ms:J N}{P:J bF}{K:U->U->U->H->Prop}(ag:bt u s0 1 (ms.map λn=>.pointer (some ⟨n,0,none⟩)))(hlen:ms.length=P.length)
  (ad:∀(i:N) m p,ms[i]?=some m->P[i]?=some p->mO u m p) (bH:∀p∈P,fT q.length p) (ht:Ints u t q) (aO:db q) (cx:1<=k) (cS:k<=64) (fV:0<=b) (gf:b<=1000000) (cY:bF.hq P<=4000000) (wM:(bF.jD P).length<=100000)
  (jW:∀x∈bF.jD P,(x.2.length:o)=q.length/\db x.2)
  (aq:∀aG ss bc R u',jB u u' aG ss bc (xT q k (oB q k b P)) (dM ((oB q k b P).seen.map (·.1))) R->R.map cp.core=(nR (oB q k b P)).map pu->K aG ss bc u'):DO s0 t k b u K:=by
 apply aBT
 intro n0 eT
 refine OT (λM=>a6 M (by omega)) λ_ _ dc jM uj eG jR=>?_
 intro e9 qm
 refine⟨_,_,bf _ _ _,rfl,by simp,by simp[cF],?_⟩
 intro n6 qn
 rw[IH] at qn ⊢
 obtain⟨NK,ahF⟩:∃NK,NK=(bA (wr #[gS none] 0 [gS (some ⟨dc,0,none⟩)]) 90 (0,0)):=⟨_,rfl⟩
 rw[<-ahF] at qn ⊢
 obtain⟨fG,jU⟩:∃fG,fG=(bA #[dX t.a t.n t.c] 30 (0,0)):=⟨_,rfl⟩
 rw[<-jU] at jR uj eG
 have aR:=jR.l6 qm NK
 have aib:(u.ins n0 fG) e9=none:=le_none uj qm
 obtain⟨v,aA⟩:∃v,v=(u.ins n0 fG).ins e9 NK:=⟨_,rfl⟩
 rw[<-aA] at aR
 have xo:u.le v:=by rw[aA];exact(bW _ eT).trans (bW _ aib)
 have VU:v.cell? ⟨n0,0,none⟩=some (.slice t.a t.n t.c):=by
  have h1:(u.ins n0 fG) n0=some fG:=bf _ _ _;have h2:v n0=some fG:=by rw[aA];exact bW _ aib _ _ h1
  rw[jU] at h2;exact a1 h2 0
 have zO:v.cell? ⟨e9,0,none⟩=some (.pointer (some ⟨dc,0,none⟩)):=by
  have h2:v e9=some NK:=by rw[aA];exact bf _ _ _
  rw[ahF] at h2;exact a1 h2 0
 have anT:=jo.start aR qn
 have Y8:=ht.mono xo
 have MJ:∀(i:N) m p,ms[i]?=some m->P[i]?=some p->mO v m p:=λi m p h1 h2=>(ad i m p h1 h2).mono xo
 have dw:s0.n=ms.length:=by have:=ag.len;simpa using this.symm
 have fq:=jv (bt.cap ag) (bt.max ag)
 refine⟨λx w=>0<=x/\x<=s0.n/\jo v w dc n6 k [] ((P.take x.toNat).foldl (ps q) []) [] ⟨none,0,0⟩ ⟨none,0,0⟩ [],λx _=>((s0.n:o)-x).toNat,⟨by omega,by omega,anT⟩,λx w cA=>⟨λM=>?_,λM=>?_⟩⟩
 obtain⟨bG,dy,bN⟩:=cA
 have eO:x.toNat<ms.length:=by omega
 obtain⟨a,aE,I⟩:=Ja (ag.mono (xo.trans bN.le)) eO
 have ew:P[x.toNat]?=some P[x.toNat]:=cn (by omega)
 have sT:=bH _ (kk (show x.toNat<P.length by omega))
 have EZ:((P.take x.toNat).foldl (ps q) []).length<10000000:=by
  have QQ:iw blt ([]:J lC).length []:=λi _ hi=>by simp at hi
  have h1:=(foldl_add (q:=q) (P.take x.toNat) [] QQ).2.length_eq;rw[lu,dg,gL] at h1;have h2:=Sx P;omega
 refine⟨a,aE,⟨bG,M⟩,_,I,.inl ⟨_,_,_,rfl,hh ad0,alD bN EZ (MJ _ _ _ (cn eO) ew) sT.kl aO VU Y8 λu' hB=>⟨⟨by omega,by omega⟩,⟨by omega,by omega,?_⟩,by dsimp only;omega⟩⟩⟩
 rw[show(x+1).toNat=x.toNat+1 by omega,gT,ew,aa9]
 exact hB
 .obtain⟨bG,dy,bN⟩:=cA;rw[ho (by omega)] at bN;intro anx afr;refine⟨λzj te uL w=>∃f,At v w dc n6 k b q P f zj te uL,λzj te uL w=>least λf=>At v w dc n6 k b q P f zj te uL,⟨bF.hq P,rfl,TT q P,[],[],bN,.refl _,alQ fV bH,rfl,rfl,aAx q P,cg _⟩,λzj te uL w cA=>?_⟩;have ac:=FL cA;generalize LR:(least λf=>At v w dc n6 k b q P f zj te uL)=f at ac;obtain⟨aqH,st,S,R,hB,bh,ue,b1,ahd,oY,mT⟩:=ac;obtain rfl:zj=⟨none,0,0⟩:=aqH;intro aEV aqI;obtain⟨Bo,aP,aC,c0⟩:=hB.slice;have MU:te.n=st.seen.length:=by have h:=hB.seen.ints.len;rw[dg] at h;exact h
  have aFs:st.heap.length<=4000000:=by have h:=Sx (st.heap.map (·.2));rw[dg] at h;omega
  have ats:∀x∈st.seen,x∈bF.jD P:=λx M=>ue.perm.mem_iff.1 (iY _ M);have Rm:∀g∈S,mc g.2:=λg W=>by obtain⟨x,M,rfl⟩:=bk.1 (bh.mem_iff.1 W);obtain⟨g1,g2⟩:=jW x (ats x M);exact OU g2 aO (by omega)
  have pJ:xT q k st=eV k.toNat S:=DB bh.symm;have HM:R.length=st.rest.length:=by have:=dV hR b1;simpa using this
  have fin:¬yl q k b st->anx ⟨none,0,0⟩ te uL w:=λatO=>by
   have dI:oB q k b P=st:=by rw[<-ahd,av6 atO]
   obtain⟨gW,kY,t1,cT,t2,da,ix,arG,e6,eI⟩:=hB.ex;obtain⟨Bo,aP,aC,c0⟩:=e6.slice;refine afr ⟨none,0,0⟩ te uL w ⟨Bo,cT.cell aP,λx iM nj hb Y=>0<=x/\x<=Bo.n/\iM=⟨none,0,0⟩/\nj=te/\gW.le Y/\kY.le Y/\(∀g,hb.aj=some g->gW g=none/\kY g=none)/\∃BP,jo v Y dc n6 k S st.heap (st.seen.map (·.1)) te hb BP/\BP.map cp.core=(xn st x.toNat).map pu,λx _ _ _ _=>((Bo.n:o)-x).toNat,
    ⟨by omega,by omega,rfl,rfl,t1,cT,λg W=>eI uL (by simp) g W,R,hB,by rw[b1];simp[xn]⟩,?_⟩
   rintro x iM nj hb Y ⟨bG,dy,WG,WH,T4,JH,aB,BP,Cm,rL⟩;obtain rfl:iM=⟨none,0,0⟩:=WG;obtain rfl:nj=te:=WH;have aFk:BP.length=(xn st x.toNat).length:=by have:=dV hR rL;simpa using this
   have sM:=av1 ue x.toNat;refine⟨λM=>?_,λM=>?_⟩
   .obtain⟨p,m,e,g1,g2,g3,g4,g5,g6⟩:=c0 x bG M;have kd:e∈st.heap:=du g2;have ar4:=agD ue kd;obtain⟨aeQ,Hq⟩:=ue.sY e kd;have R6:=av2 g2;refine⟨p,g1,⟨bG,M⟩,_,JH.cell g4,_,JH.cell g5,_,JH.cell g6,azd g3 Cm.le (by omega) λayl L u32 xr cL cA=>⟨λoW=>?_,λed=>?_⟩⟩
    .have rS:=gY eY (by decide) xr.own.cC;have ve:L.length=e.2.all.length:=by rw[<-cL,dg]
     have al:e.2.all≠[]:=λh0=>by rw[h0] at ve;simp at ve;rw[ve] at rS;simp at rS;omega
     rw[az al] at R6;cases g3 with
     |mk ls fY is rs ks rows c3 cell AL bJ hi at' bi kids len each=>
     have bI:v.le u32:=Cm.le.trans xr.le;have I:=bI _ _ cell;obtain⟨Z4,XT⟩:=akg Hq.kl;have kQ:dS u32 ayl L:=⟨xr.own.cC,λr O=>(cA r O).mono bI⟩;have ke:dM (L.map (·.id))=dM (e.2.all.map (·.1)):=by rw[<-cL,ez];rfl
     refine⟨_,rfl,_,a1 I 0,ls,a1 I 1,fY,a1 I 2,_,a1 I 3,_,a1 I 4,is,a1 I 5,
      ak1 (bJ.mono bI) (hi.mono bI) kQ Z4 XT (by omega) λa zM c ma vI vJ y1 f1 f2 f3=>⟨vI.le,?_⟩⟩
     have Ez:=Cm.mono xr.le;have:=amN (r:=⟨e.2.aG,a,zM,e.2.cH,c,e.2.bJ,e.2.hi,dM (L.map (·.id))⟩) Ez vI.le ⟨vI,vJ,y1⟩ f1 f2 f3 (by omega)
      (K:=λ(abt:U) (T6:H)=>br (x+1)/\(0<=x+1/\x+1<=(Bo.n:o)/\(⟨none,0,0⟩:U)=⟨none,0,0⟩/\nj=nj/\gW.le T6/\kY.le T6/\(∀g,abt.aj=some g->gW g=none/\kY g=none)/\∃BP,jo v T6 dc n6 k S st.heap (st.seen.map (·.1)) nj abt BP/\BP.map cp.core=(xn st (x+1).toNat).map pu)/\((Bo.n:o)-(x+1)).toNat<((Bo.n:o)-x).toNat)
      λabt T6 EA eB ev=>⟨⟨by omega,by omega⟩,⟨by omega,by omega,rfl,rfl,λg z W=>eB g z (vI.le _ _ (xr.le _ _ (T4 g z W))) λfW=>(by rw[(aB g fW).1] at W;cases W),λg z W=>eB g z (vI.le _ _ (xr.le _ _ (JH g z W))) λfW=>(by rw[(aB g fW).2] at W;cases W),λg W=>?_,_,EA,?_⟩,by omega⟩
     exact c4.OK this λs1 v1 h=>⟨vI.le.trans h.1,h.2⟩;rcases ev g W with h1|h1;exact aB g h1;have h2:=le_none (xr.le.trans vI.le) h1;exact⟨le_none T4 h2,le_none JH h2⟩;rw[show(x+1).toNat=x.toNat+1 by omega,R6,dY,dY,rL];simp only[gl,Df,cp.core,pu,ke]
    have rS:=gY eY (by decide) xr.own.cC;have ve:L.length=e.2.all.length:=by rw[<-cL,dg]
    have Am:e.2.all=[]:=ly (by omega);rw[aV Am,kA] at R6;exact⟨⟨by omega,by omega⟩,⟨by omega,by omega,rfl,rfl,T4.trans xr.le,JH.trans xr.le,aB,BP,Cm.mono xr.le,by rw[show(x+1).toNat=x.toNat+1 by omega,R6];exact rL⟩,by dsimp only;omega⟩
   have qp:=ue.u9;rw[av0 st (by omega)] at rL;refine GI Cm.seen (by rw[dg];omega) λaBg ahE agA=>⟨_,ahE.le.cell zO,?_⟩;have aAO:gW.le aBg:=λg z W=>agA g z (T4 g z W) λfW=>by rw[(eI nj (by simp) g fW).1] at W;cases W
   refine JV (arG.whole aAO) λaGA aGN awX=>?_;have af7:=aEu xo Cm ahE agA awX;rw[<-pJ,<-dI] at af7;rw[<-dI] at rL;exact aq _ _ _ _ _ af7 rL
  have tF:S.length=st.seen.length:=by have:=bh.length_eq;rwa[dg] at this
  refine⟨Bo,aP,amx _ _ _ ⟨λhlen=>⟨λZ=>?_,λZ=>fin λW=>by have:=W.2.1;omega⟩,λhlen=>fin λW=>?_⟩⟩
  .obtain⟨p,m,e,g1,g2,g3,g4,g5,g6⟩:=c0 0 (by omega) (by omega);have KT:st.heap.getD 0 default=e:=by rw[dr];rw[show(0:o).toNat=0 from rfl] at g2;rw[g2];rfl
   have kd:e∈st.heap:=du g2;obtain⟨aeQ,Hq⟩:=ue.sY e kd;have XC:mc e.1:=by rw[aeQ];exact awK Hq.kl aO
   refine⟨Bo,aP,p,g1,⟨by omega,by omega⟩,_,g5,_,by rw[Addr.zL];exact g6,.inl ⟨_,_,_,rfl,hh aop,aAh hB cx Rm zO (XU XC) (AO _) λdD oP=>?_⟩⟩;rw[sg,tF] at oP;have wV:dD=ak↔K5 q k st (st.heap.getD 0 default).1:=by rw[oP,KT];unfold K5;rw[pJ]
   refine⟨λbY=>aqI _ ?_,λaw=>fin λW=>W.2.2 (wV.1 aw)⟩;have q0:yl q k b st:=⟨λfW=>(by rw[fW] at kd;cases kd),by omega,λac=>bY (wV.2 ac)⟩;clear fin afr wV;obtain⟨zY,aFr,ahe,ahW,ain⟩:=an5 q0 ue ahd oY;have agT:0<st.heap.length:=vR.2 q0.1;have auq:st.rest=[]:=by by_cases fW:st.rest=[];exact fW;have:=ue.cut fW;omega
   have ahk:∀{JO fS kX:U} {Y:H},At v Y dc n6 k b q P zY JO fS kX->least (λf=>At v Y dc n6 k b q P f JO fS kX)<least λf=>At v w dc n6 k b q P f ⟨none,0,0⟩ te uL:=λ{JO fS kX Y} h=>by rw[LR];exact Nat.lt_of_le_of_lt (least_le h) (by omega)
   refine aAi hB ue.ad agT λu64 m1 jE RY=>akE ?_;rw[KT] at RY ⊢;have eh:=agD ue kd;rw[bF.all_eq,eC] at eh;obtain⟨hF,dO,pa,_⟩:=NU D6 ue.ad agT;have M1:=ass kd;have auL:=Sx (st.heap.map (·.2));rw[dg] at auL;rw[bF.size_eq] at M1;have hC:=Sx e.2.kids;have k5:=hF.length_eq;rw[h5] at k5;cases RY with
   |mk ls fY is rs ks rows c3 cell AL bJ hi at' bi kids len each=>
   have jF:ks.n=c3.length:=by have:=kids.len;simpa using this.symm
   have lq:e.2.rows.length=rows.length:=by rw[<-bi,dg]
   have ahP:=at'.len;refine⟨_,rfl,ks,a1 (jE.le _ _ cell) 7,λx Y=>0<=x/\x<=ks.n/\jo v Y dc n6 k S ((e.2.kids.take x.toNat).foldl (ps q) (j0 blt st.heap)) (st.seen.map (·.1)) te uL R,λx _=>((ks.n:o)-x).toNat,⟨by omega,by omega,by simpa using jE⟩,?_⟩;rintro x Y ⟨bG,dy,EC⟩;refine⟨λM=>?_,λM=>?_⟩;have eO:x.toNat<c3.length:=by omega
   obtain⟨a,aE,I⟩:=Ja (kids.mono EC.le) eO;have ew:e.2.kids[x.toNat]?=some e.2.kids[x.toNat]:=cn (by omega);have sT:=Hq.kids _ (kk (show x.toNat<e.2.kids.length by omega));have EZ:((e.2.kids.take x.toNat).foldl (ps q) (j0 blt st.heap)).length<10000000:=by have h1:=(foldl_add (q:=q) (e.2.kids.take x.toNat) _ dO).2.length_eq;rw[eC,dg,gL] at h1;omega
   refine⟨a,aE,⟨bG,M⟩,_,I,.inl ⟨_,_,_,rfl,hh ad0,alD EC EZ (each _ _ _ (cn eO) ew) sT.kl aO VU Y8 λu' hB=>⟨⟨by omega,by omega⟩,⟨by omega,by omega,?_⟩,by dsimp only;omega⟩⟩⟩;rw[show(x+1).toNat=x.toNat+1 by omega,gT,ew,aa9];exact hB;rw[ho (by omega)] at EC;have auJ:(pZ q b st).heap=e.2.kids.foldl (ps q) (j0 blt st.heap):=by unfold pZ;rw[KT]
   have Iv:(pZ q b st).seen=st.seen++e.2.rows.take (b-st.seen.length).toNat:=by unfold pZ;rw[KT]
   have R5:(pZ q b st).rest=if(e.2.rows.length:o)<=b-st.seen.length then st.rest else st.rest++ [(e.2,e.2.rows.drop (b-st.seen.length).toNat)]:=by unfold pZ;rw[KT]
   rw[<-auJ] at EC;refine⟨_,rfl,rs,a1 (EC.le _ _ cell) 6,λx qF Gy Ow Y=>0<=x/\x<=rs.n/\qF=⟨none,0,0⟩/\Ow=uL/\st.seen.length+x<=b/\∃Ha,jo v Y dc n6 k Ha (pZ q b st).heap ((st.seen++e.2.rows.take x.toNat).map (·.1)) Gy uL R/\Ha.Perm ((st.seen++e.2.rows.take x.toNat).map (Cv q)),
    λx _ _ _ _=>((rs.n:o)-x).toNat,⟨by omega,by omega,rfl,rfl,by have:=ue.u9;omega,S,by simpa using EC,by simpa using bh⟩,?_⟩
   clear bG dy M EC x Y;rintro x qF Gy Ow Y ⟨bG,dy,aqN,aqP,aG2,Ha,tG,Cj⟩;obtain rfl:qF=⟨none,0,0⟩:=aqN;obtain rfl:Ow=uL:=aqP;have aFR:Gy.n=st.seen.length+min x.toNat e.2.rows.length:=by have h:=tG.seen.ints.len;rw[dg,eC,gL] at h;exact h
   refine⟨λM=>?_,λM=>?_⟩;obtain⟨pp,jV,r,O,bK,c1,c2⟩:=(at'.mono tG.le).at bG M;have Fg:e.2.rows[x.toNat]?=some r.bi:=by rw[<-bi,iD,O];rfl
   have auo:r.bi∈bF.jD P:=ue.perm.mem_iff.1 (lf _ (lf _ (ee.2 ⟨e,kd,by rw[bF.all_eq];exact iY _ (du Fg)⟩)));obtain⟨ayf,ayg⟩:=jW _ auo;have aGv:(r.v.length:o)=q.length:=ayf;have ayh:db r.v:=ayg;refine⟨pp,jV,⟨bG,M⟩,_,bK,_,c1,λarY=>?_,λarY=>?_⟩;have I:=tG.le _ _ cell;obtain⟨Z4,XT⟩:=akg Hq.kl;have HU:(b-st.seen.length).toNat=x.toNat:=by omega
   have wR:¬(e.2.rows.length:o)<=b-st.seen.length:=by omega
   rw[az wR,HU] at R5;rw[HU] at Iv;have Ir:=(at'.mono tG.le).part (l:=x.toNat) (h:=rs.n) (m:=rs.c) (by omega) (cg _) at'.1.cap (cg _);have ua:(rows.drop x.toNat).take (rs.n-x.toNat)=rows.drop x.toNat:=ho (by rw[nV];omega);rw[ua] at Ir;have ke:dM ((rows.drop x.toNat).map (·.id))=dM ((e.2.rows.drop x.toNat).map (·.1)):=by rw[<-bi,<-Dh,ez];rfl
   refine⟨_,rfl,_,rfl,_,a1 I 0,ls,a1 I 1,fY,a1 I 2,_,a1 I 3,_,a1 I 4,is,a1 I 5,rs,a1 I 6,
    lj ic (l:=x.toNat) (h:=rs.n) (m:=rs.c) (.inr (by rw[tb bG])) (.inl ⟨rfl,rfl⟩) (.inl ⟨rfl,rfl⟩) (by omega) at'.1.cap (cg _) at'.1.cap ⟨H.le.refl _,
    ak1 (bJ.mono tG.le) (hi.mono tG.le) Ir Z4 XT (by rw[nV];omega) λa zM c ma vI vJ y1 f1 f2 f3=>⟨vI.le,?_⟩⟩⟩
   have:=amN (r:=⟨e.2.aG,a,zM,e.2.cH,c,e.2.bJ,e.2.hi,dM ((rows.drop x.toNat).map (·.id))⟩) tG vI.le ⟨vI,vJ,y1⟩ f1 f2 f3 (by rw[HM,auq];simp)
    (K:=λ(Tx:U) (wi:H)=>(∃f,At v wi dc n6 k b q P f ⟨none,0,0⟩ Gy Tx)/\(least λf=>At v wi dc n6 k b q P f ⟨none,0,0⟩ Gy Tx)<least λf=>At v w dc n6 k b q P f ⟨none,0,0⟩ te Ow)
    λTx wi EA _ _=>?_
   exact c4.OK this λs1 v1 h=>⟨vI.le.trans h.1,h.2⟩;have Ll:At v wi dc n6 k b q P zY ⟨none,0,0⟩ Gy Tx:=⟨rfl,pZ q b st,Ha,_,by rw[Iv];exact EA,by rw[Iv];exact Cj,ain,by rw[R5,dY,dY,b1];simp only[gl,Df,cp.core,pu,ke],ahe,ahW,by omega⟩;exact⟨⟨zY,Ll⟩,ahk Ll⟩;refine⟨t,tG.le.cell VU,Bm c2 (Y8.mono tG.le) ayh (by have:=Hq.kl.dim;omega) aO (by omega) λamS amT air ais hw=>⟨_,tG.le.cell zO,?_⟩⟩;have apE:amS=dk (Cv q r.bi).2:=by show amS=dk (fz r.v q r.v.length);rw[<-hw,XW ais]
   have apF:amT=dq (Cv q r.bi).2:=by show amT=dq (fz r.v q r.v.length);rw[<-hw,Z6 ais]
   rw[apE,apF];refine aAg (x:=Cv q r.bi) tG cx cS λdD aGH arM=>aEv arM (by rw[dg,eC,gL];omega) λap aGI arN=>⟨⟨by omega,by omega⟩,⟨by omega,by omega,rfl,rfl,by omega,Cv q r.bi::Ha,?_,?_⟩,by dsimp only;omega⟩;have Ht:e.2.rows.take (x+1).toNat=e.2.rows.take x.toNat++ [r.bi]:=by rw[show(x+1).toNat=x.toNat+1 by omega,gT,Fg];rfl
   rw[Ht,<-nf,dY];exact arN;have Ht:e.2.rows.take (x+1).toNat=e.2.rows.take x.toNat++ [r.bi]:=by rw[show(x+1).toNat=x.toNat+1 by omega,gT,Fg];rfl
   rw[Ht,<-nf,dY];exact(iL _ Cj).trans (l5 _ _).symm;have XJ:(e.2.rows.length:o)<=b-st.seen.length:=by omega
   rw[aV XJ] at R5;rw[ho (by omega)] at tG Cj;rw[ho (by omega)] at Iv;have Ll:At v Y dc n6 k b q P zY ⟨none,0,0⟩ Gy Ow:=⟨rfl,pZ q b st,Ha,R,by rw[Iv];exact tG,by rw[Iv];exact Cj,ain,by rw[R5];exact b1,ahe,ahW,by omega⟩;exact⟨⟨zY,Ll⟩,ahk Ll⟩
  have al:=W.1;have:=vR.2 al;omega
end
