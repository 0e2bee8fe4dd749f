/- Texts of mine, joined and packed by pack.py. -/
import Derived.Test.YtejdhbfjjgcljaaGreatDoorMrc9
set_option linter.all false
open _root_ renaming Nat->N,List->J,Option->ay,Int->o,Bool->aI,absurd->a6
open Go renaming Value->ao,Addr->ba
open Bool renaming true->ak,false->ax
open Go.Obj renaming cells->bA
open Go.IntKind renaming i64->ci,u64->bR
open Go.Instr renaming sliceAt->fR,buildSlice->dA
open Go.Builtin renaming append_->dW
open Go.Addr renaming add->ep,mk->cr
open Go.Proofs.Tryz renaming prog->aH
open Go.Value renaming agg->cV,int->cG,func->iZ,pointer->gS,slice->dX,oneCell'->cF
open Int renaming tdiv->gw
open List.Perm renaming cons->iL,trans->Be
open List.Pairwise renaming nil->mE
open Prod renaming fst->pd,snd->pR
set_option maxRecDepth 100000
noncomputable section
namespace Go.Proofs.YtejdhbfjjgcljaaGreatDoor
open H
def zJ(u:H)(src:N):Prop:=∃st,u src=some (.cells #[.int .u64 st] 215 (0,0))
def H.no(u:H)(b:N):H:=λc=>if c=b then none else u c
def I3{u:H}{b c:N}(h:c≠b):H.no u b c=u c:=az h
def SE(u:H)(b:N):H.no u b b=none:=aV rfl
def NH(u:H)(b:N):(H.no u b).le u:=λc z h=>by by_cases e:c=b;rw[e,SE] at h;cases h;rw[I3 e] at h;exact h
def avZ{v u:H}{b:N}(h:v.le u)(Z:v b=none):v.le (H.no u b):=λc z I=>by rw[I3 (λe=>by rw[e,Z] at I;cases I)];exact h c z I
structure mK(ub u:H)(src:N)(s:U)(l:J av)(d:o)(u':H)(n:au):Prop where
 one:∀x∈n.bO,hz u' x
 nodup:n.own.Nodup
 out:∀c∈n.own,ub c=none/\u' c≠none/\c≠src
 all:n.bB.all.Perm (l.map av.bi)
 ok:fT d n.bB
 rows:∀x∈n.bO,∀r∈x.1.rows,r∈l
 size:n.bO.length+1<=2*l.length
 tA:∀c z,u c=some z->s.aj≠some c->c≠src->u' c=some z
 src:zJ u' src
 n1:lm 3 n.bB
 bin:jC n.bB
namespace lE
def KB:hl aH 127=ak:=by kernel_rfl
def aob:hl aH 130=ak:=by kernel_rfl
def VH:hl aH 131=ak:=by kernel_rfl
def VQ(a b:N):kp aH 211 2 #[(0,.pointer (some ⟨a,0,none⟩)),(1,.pointer (some ⟨b,0,none⟩))]=some (167,[.pointer (some ⟨a,0,none⟩),.pointer (some ⟨b,0,none⟩)]):=by kernel_rfl
abbrev yd(n0 b3:N):ao:=.func (.func 127) #[] #[.pointer (some ⟨n0,0,none⟩),.pointer (some ⟨b3,0,none⟩)]
abbrev QH(n10:N):ao:=.func (.func 130) #[] #[.pointer (some ⟨n10,0,none⟩)]
structure wu(ub:H)(n0 b3 cW src:N)(leaf:o):Prop where
 bK:ub.cell? ⟨n0,0,none⟩=some (.pointer (some ⟨cW,0,none⟩))
 c1:ub.cell? ⟨b3,0,none⟩=some (yd n0 b3)
 qI:ub.cell? ((cr cW 0 none).add 1)=some (.int .i64 leaf)
 ca:ub.cell? ((cr cW 0 none).add 2)=some (.pointer (some ⟨src,0,none⟩))
def wu.mono{ub u:H}{n0 b3 cW src:N}{leaf:o}(h:wu ub n0 b3 cW src leaf)(k:ub.le u):wu u n0 b3 cW src leaf:=⟨H.le.cell k h.bK,H.le.cell k h.c1,H.le.cell k h.qI,H.le.cell k h.ca⟩
def V3{ub:H}{n10 n24:N}{fJ:U}{c:J o}{l:J av}{d:o}(WH:ub.cell? ⟨n24,0,none⟩=some (QH n10))(Lf:ub.cell? ⟨n10,0,none⟩=some (.slice fJ.a fJ.n fJ.c))(mo:Ints ub fJ c)(I:db c)(lH:(c.length:o)=d)(aw:1<=d)(aA:∀r∈l,Ints ub r.s r.v)(bH:gX l d):
  Km ub l (.func (.func 131) #[] #[.pointer (some ⟨n24,0,none⟩)]):=by
 intro a b v K aE Z hle aq
 refine⟨_,_,_,rfl,hh VH,aEj a.id a.s b.id b.s ⟨n24,0,none⟩ v K ?_⟩
 have aej:=H.le.cell hle WH
 have aoP:=H.le.cell hle Lf
 have Pe:=mo.mono hle
 have eu:∀{r:av} {Q:o->o->H->Prop},r∈l->(∀x y,dn x->dn y->Q x y v)->hL aH (QH n10) #[.agg #[.int .i64 r.id,.slice r.s.a r.s.n r.s.c]] [.agg [.int .u64,.int .u64]] v Q:=λ{r Q} O e6=>by obtain⟨pf,tc⟩:=bH.v r O;exact⟨_,_,_,rfl,hh aob,aEi r.id r.s ⟨n10,0,none⟩ v Q ⟨fJ,aoP,Bm Pe ((aA r O).mono hle) I (by omega) tc (by omega) λx y M ah _=>e6 x y M ah⟩⟩
 exact⟨_,aej,_,aej,eu aE λx y M ah=>⟨H.le.refl _,eu Z λnt mI fF jX=>Bn ah jX (aq _)⟩⟩
def abM{n0 b3 cW src:N}{d leaf:o}(Ai:1<=leaf):∀(dc:N) {ub u:H} {s:U} {l:J av} {K:ay ba->H->Prop},l.length<=dc->wu ub n0 b3 cW src leaf->ub src=none->zJ u src->s.aj≠some src->aD ub u 52 2 s (l.flatMap cB)->(∀r∈l,Ints ub r.s r.v)->gX l d->
  (l=[]->K none u)->(l≠[]->∀u' n,mK ub u src s l d u' n->K (some ⟨n.b,0,none⟩) u')->adB s ⟨n0,0,none⟩ ⟨b3,0,none⟩ u K:=by
 intro dc
 induction dc with
 |zero=>intro ub u s l K eG b4 _ _ _ ab aA bH h0 _;have ar:l=[]:=ly (by omega);have dw:s.n=l.length:=gY eY (by decide) ab.own.cC;apply amI;refine⟨λ_=>h0 ar,λal=>a6 (by rw[dw,ar];rfl) al⟩
 |succ dc aL=>
  intro ub u s l K eG b4 AG ra vt ab aA bH h0 aq;have dw:s.n=l.length:=gY eY (by decide) ab.own.cC;have aw:=bH.dim;have aqE:=bH.len;apply amI;refine⟨λaB=>h0 (ly (by omega)),λYr=>?_⟩;have al:l≠[]:=λe=>Yr (by rw[dw,e];rfl);have aq:=aq al;have b9:=ab.le;obtain⟨st,dI⟩:=ra;refine⟨_,H.le.cell b9 b4.bK,_,rfl,_,H.le.cell b9 b4.ca,azE dI (by omega) (by omega) ?_⟩;obtain⟨fK,re⟩:∃fK,fK=u.ins src (.cells #[.int .u64 (kj st)] 215 (0,0)):=⟨_,rfl⟩;rw[<-re];have lh:fK src=some (.cells #[.int .u64 (kj st)] 215 (0,0)):=by rw[re];exact bf _ _ _
  have eX:∀c z,u c=some z->c≠src->fK c=some z:=λc z I al=>by rw[re,bm _ _ al];exact I
  have ajf:∀{c},fK c=none->u c=none:=λ{c} I=>by by_cases e:c=src;rw[e,lh] at I;cases I;rw[re,bm _ _ e] at I;exact I
  have vv:ub.le fK:=λc z I=>eX c z (b9 c z I) λe=>by rw[e,AG] at I;cases I
  have Ap:aD ub fK 52 2 s (l.flatMap cB):=⟨ab.own.le λc z I M=>eX c z M λe=>vt (by rw[I,e]),vv,ab.fresh⟩;have afU:dS fK s l:=⟨Ap.own.cC,λr O=>(aA r O).mono vv⟩;obtain⟨adW,Xs⟩:∃x,x=ur (kj st)%(s.n:o):=⟨_,rfl⟩;have aa:0<=adW:=by rw[Xs];exact Od _ (by omega)
  have a2:adW<s.n:=by rw[Xs];exact Oe _ (by omega)
  rw[<-Xs];obtain⟨aax,at6,r9,oX,_,c1,c2⟩:=afU.at aa a2;have aup:r9∈l:=du oX;obtain⟨cx,cS⟩:=bH.v r9 aup;have aGj:=c2.len;refine⟨aax,at6,⟨aa,a2⟩,r9.s,c1,sc c2 (by omega) λfJ qJ q8 _=>?_⟩;have aiX:=q8.le;intro n10 ahp;refine mG (zs:=[.slice none 0 0]) rfl (by simp[cF]) ?_;obtain⟨zt,Y9⟩:∃zt,zt=qJ.ins n10 (.cells [dX fJ.a fJ.n fJ.c].toArray 30 (0,0)):=⟨_,rfl⟩;rw[<-Y9];have Sn:qJ.le zt:=by rw[Y9];exact bW _ ahp
  have d10:zt n10=some (.cells [dX fJ.a fJ.n fJ.c].toArray 30 (0,0)):=by rw[Y9];exact bf _ _ _
  have Nt:fK.le zt:=aiX.trans Sn;have arx:dS zt s l:=afU.mono Nt;have mo:Ints zt fJ r9.v:=q8.ints.mono Sn;refine⟨fJ,a1 d10 0,alz mo cS arx (by rw[cx];exact bH) λbo i18 e5 h1=>?_⟩;have Sv:zt.le e5:=h1.le;obtain⟨R,b1⟩:∃R,R=oy r9.v l l.length:=⟨_,rfl⟩;rw[<-b1];have anP:mc R:=by rw[b1];exact akb cS (by rw[cx];exact bH) _ (cg _)
  have FI:fK.le e5:=Nt.trans Sv;have kR:ub.le e5:=vv.trans FI;have Gv:e5 src=some (.cells #[.int .u64 (kj st)] 215 (0,0)):=FI _ _ lh;have fresh:∀{c},zt c=none->ub c=none/\c≠src/\s.aj≠some c:=λ{c} I=>⟨vv.none (Nt.none I),(λe=>by have mq:=Nt.none I;rw[e,lh] at mq;cases mq),λe=>dF Ap e (Nt.none I)⟩
  have kl:∀rows kids,oF ((bF.mk 3 r9.v [] R rows kids).hp []) d:=λrows kids=>⟨aw,mE,λx M=>(by cases M),.inr (.inr ⟨rfl,rfl,cS,cx,anP⟩)⟩;have ins:∀rows kids,∀Y∈l.map av.bi,mL ((bF.mk 3 r9.v [] R rows kids).hp []) Y.2:=λrows kids Y aB=>by obtain⟨r,O,rfl⟩:=bk.1 aB;refine⟨λh=>(by cases h),λ_=>?_⟩;obtain⟨i,hi,RE⟩:=pe O;show fz r9.v r.v r9.v.length<=R;rw[b1];exact(aka r9.v l l.length).2 i r hi (by rw[cn hi,RE])
  have yN:∀g,bo.aj=some g->e5 g≠none:=λg W=>dF h1 W;have qh:∀g,bo.aj=some g->zt g=none:=λg W=>h1.fresh g W;have aiU:∀g,s.aj=some g->e5 g≠none:=λg W=>dF (Ap.mono FI) W;intro aET Cf;have Ny:∀n31,e5 n31=none->K (some ⟨n31,0,none⟩) (e5.ins n31 (.cells #[.int .i64 3,.slice bo.a bo.n bo.c,.slice none 0 0,.int .u64 (dk R),.int .u64 (dq R),.slice none 0 0,.slice s.a s.n s.c,.slice none 0 0] 213 (0,0))):=by
   intro n31 rS;obtain⟨qj,iz⟩:∃bV:et,bV=⟨n31,3,bo,⟨none,0,0⟩,r9.v,[],R,s,l,⟨none,0,0⟩⟩:=⟨_,rfl⟩;have ri:=bW (u:=e5) (b:=n31) (.cells (eP qj).toArray 213 (0,0)) rS;have key:=aq (e5.ins n31 (.cells (eP qj).toArray 213 (0,0))) (.mk qj []);have pH:(au.mk qj []).own=n31::(bo.aj.toList++s.aj.toList):=by rw[au.rm,iz];simp[au.h,au.kids,et.dt,U.aj]
   have fP:(bA #[.int .i64 3,.slice bo.a bo.n bo.c,.slice none 0 0,.int .u64 (dk R),.int .u64 (dq R),.slice none 0 0,.slice s.a s.n s.c,.slice none 0 0] 213 (0,0))=.cells (eP qj).toArray 213 (0,0):=by rw[iz];rfl
   rw[fP];have HQ:(au.mk qj []).b=n31:=by rw[iz];rfl
   rw[HQ] at key;have f31:=fresh (Sv.none rS);refine key ⟨λy ah=>?_,?_,λc I=>?_,?_,?_,λy ah r O=>?_,?_,λc z I k4 dU=>ri c z (FI c z (eX c z I dU)),⟨_,ri _ _ Gv⟩,by rw[au.hn,iz];exact .mk rfl λk hk=>(by cases hk),Qe (.inl rfl) λk hk=>(by cases hk)⟩;rw[au.ij] at ah;obtain rfl:y=(qj,[]):=by simpa[au.h,au.kids] using ah
   subst iz;exact⟨bf _ _ _,(h1.mono ri).own,Own.nil _ _ _,((Ap.mono FI).mono ri).own,λr O=>(aA r O).mono (kR.trans ri),⟨rfl,cg _,by show 0<=9223372036854775807;omega,.inl rfl⟩⟩;rw[pH,hK];refine⟨λhm=>?_,?_⟩;simp only[cK,r7] at hm;rcases hm with hm|hm;exact yN n31 hm rS;exact aiU n31 hm rS;have eJ:∀z:ay N,z.toList.Nodup:=λz=>by cases z<;>simp
   rw[gb];refine⟨eJ _,eJ _,λa aE b Z e=>?_⟩;rw[r7] at aE Z;subst e;exact(fresh (qh a aE)).2.2 Z;rw[pH] at I;simp only[cE,cK,r7] at I;rcases I with rfl|I|I;exact⟨f31.1,by rw[bf];simp,f31.2.1⟩;have:=fresh (qh c I);exact⟨this.1,λe=>yN c I (ri.none e),this.2.1⟩;exact⟨ab.fresh c I,λe=>aiU c I (ri.none e),λe=>vt (by rw[<-e];exact I)⟩;rw[au.s5,au.ij];subst iz;simp[au.h,au.kids];rw[au.hn];subst iz;refine .mk (kl _ _) (λY aB=>ins _ _ Y ?_) λk hk=>(by cases hk);rw[bF.all_eq] at aB;have AJ:Y∈l.map av.bi++ []:=aB;rwa[kA] at AJ;rw[au.ij] at ah;obtain rfl:y=(qj,[]):=by simpa[au.h,au.kids] using ah
   subst iz;exact O;rw[au.ij];have:=vR.2 al;simp[au.kids];omega
  refine⟨_,H.le.cell kR b4.bK,_,rfl,leaf,H.le.cell kR b4.qI,λ_=>Ny,λwW=>⟨λ_=>Ny,λ_=>Cf none e5 λn24 Mn=>?_⟩⟩;refine mG (zs:=[.nilFunc]) rfl (by simp[cF]) ?_;obtain⟨w,hw⟩:∃w,w=e5.ins n24 (.cells [QH n10].toArray 219 (0,0)):=⟨_,rfl⟩;rw[<-hw];have IS:e5.le w:=by rw[hw];exact bW _ Mn
  have d24:w n24=some (.cells [QH n10].toArray 219 (0,0)):=by rw[hw];exact bf _ _ _
  have apo:w n10=some (.cells [dX fJ.a fJ.n fJ.c].toArray 30 (0,0)):=IS _ _ (Sv _ _ d10);have yQ:fK.le w:=FI.trans IS;have amo:ub.le w:=kR.trans IS;have MF:aD ub w 52 2 s (l.flatMap cB):=Ap.mono yQ;have YU:∀c,s.aj=some c->fK c≠none:=λc I=>dF Ap I;obtain⟨se,AF⟩:∃se:H,se=nm w s:=⟨_,rfl⟩;have bl:ub.le se:=λc z I=>by rw[AF,nn (λe=>by rw[ab.fresh c e] at I;cases I)];exact amo c z I
  have adJ:se n24=w n24:=by rw[AF];exact nn λe=>YU _ e (FI.none Mn)
  have adI:se n10=w n10:=by rw[AF];exact nn λe=>YU _ e (aiX.none ahp)
  have anR:Ints se fJ r9.v:=bt.else (mo.mono (Sv.trans IS)) λg z W M=>by rw[AF,nn (λe=>YU _ e (q8.fresh g W))];exact M
  refine alp MF (by rw[AF];exact Ds _ _) (λb Z=>by rw[AF];exact aV Z) (V3 (n10:=n10) (by rw[d24] at adJ;exact a1 adJ 0) (by rw[apo] at adI;exact a1 adI 0) anR cS cx aw.1 (λr O=>(aA r O).mono bl) bH) (by omega) λu32 m ad om Ac=>?_;have pG:=ad.length_eq;have my:ub.le u32:=λc z I=>Ac c z (amo c z I) λe=>by have:=ab.fresh c e;rw[I] at this;cases this
  have pW:zJ u32 src:=⟨_,Ac _ _ (IS _ _ Gv) vt⟩;have Yg:gX m d:=bH.mix ad;have sP:∀r∈m,Ints ub r.s r.v:=λr O=>aA r (ad.mem_iff.1 O);have Rb:dS u32 s m:=⟨om.own.cC,λr O=>(sP r O).mono my⟩;have gZ:=bt.cap om.own.cC;obtain⟨e0,Mj⟩:∃e0:N,e0=s.n/2:=⟨_,rfl⟩;have Wj:gw (s.n:o) 2=(e0:o):=by rw[Jt (by omega)];omega
  rw[Wj];have OJ:∀{Y:H} {Q:U->H->Prop},Q (s.part 0 e0 s.c 2) Y->c4 aH (fR 22 (.slice s.a s.n s.c) none (some (.int .i64 (e0:o))) none) [.one .slice] Y Q:=λe6=>
   lj (P:=aH) ic (l:=0) (h:=e0) (m:=s.c) (.inl ⟨rfl,rfl⟩) (.inr rfl) (.inl ⟨rfl,rfl⟩) (by omega) (by omega) (cg _) gZ e6
  have Bk:∀{Y:H} {Q:U->H->Prop},Q (s.part e0 s.n s.c 2) Y->c4 aH (fR 22 (.slice s.a s.n s.c) (some (.int .i64 (e0:o))) none none) [.one .slice] Y Q:=λe6=>
   lj (P:=aH) ic (l:=e0) (h:=s.n) (m:=s.c) (.inr rfl) (.inl ⟨rfl,rfl⟩) (.inl ⟨rfl,rfl⟩) (by omega) gZ (cg _) gZ e6
  have gi:(m.take e0).length=e0:=by rw[gL];omega
  have hN:(m.drop e0).length=m.length-e0:=by rw[nV]
  have E7:m.take e0≠[]:=λe=>by rw[e] at gi;simp at gi;omega
  have yF:m.drop e0≠[]:=λe=>by rw[e] at hN;simp at hN;omega
  have ayt:∀{Y:H},(∀c z,u32 c=some z->c≠src->Y c=some z)->dS Y s m:=λ{Y} aB=>⟨bt.else om.own.cC λc z I M=>aB c z M λe=>vt (by rw[I,e]),λr O=>(sP r O).mono λc z I=>aB c z (my c z I) λe=>by rw[e,AG] at I;cases I⟩;have s4:∀{Y:H},dS Y s m->dS Y (s.part 0 e0 s.c 2) (m.take e0):=λaB=>by have:=aB.part (l:=0) (h:=e0) (m:=s.c) (by omega) (by omega) (by omega) (cg _);simpa using this
  have axc:∀{Y:H},dS Y s m->dS Y (s.part e0 s.n s.c 2) (m.drop e0):=λaB=>by have:=aB.part (l:=e0) (h:=s.n) (m:=s.c) (by omega) (cg _) gZ (cg _);rwa[ho (by rw[nV];omega)] at this
  have lub:∀{Y:H},(∀c z,u32 c=some z->c≠src->Y c=some z)->ub.le Y:=λaB c z I=>aB c z (my c z I) λe=>by rw[e,AG] at I;cases I
  have Dk:∀{Y fj:H} {t:U} {k:J av} {Q:ay ba->H->Prop},(∀c z,u32 c=some z->c≠src->Y c=some z)->zJ Y src->aD Y fj 52 2 t (k.flatMap cB)->k≠[]->k.length<=dc->k.Sublist m->(∀u' n,mK (H.no Y src) fj src t k d u' n->(∀c z,Y c=some z->c≠src->u' c=some z)->Q (some ⟨n.b,0,none⟩) u')->
    hL aH (yd n0 b3) #[.slice t.a t.n t.c] [.one .ptr] fj Q:=λ{Y fj t k Q} aB ag iS hk X3 rQ e6=>by
   have CX:ub.le (H.no Y src):=avZ (lub aB) AG
   obtain⟨n2,vu⟩:=ag
   have fh:t.aj≠some src:=λe=>by have:=iS.fresh src e;rw[vu] at this;cases this
   exact⟨_,_,_,rfl,hh KB,aL X3 (b4.mono CX) (SE _ _) ⟨n2,iS.le _ _ vu⟩ fh ⟨iS.own,(NH _ _).trans iS.le,λg W=>(NH Y src).none (iS.fresh g W)⟩ (λr O=>(sP r (rQ.mem O)).mono CX) (Yg.sub rQ) (λe=>a6 e hk) λ_ u' n I=>e6 u' n I λc z bQ dU=>I.tA c z (iS.le c z bQ) (λe=>by have:=iS.fresh c e;rw[bQ] at this;cases this) dU⟩
  have NQ:Own u32 3 1 bo (r9.v.flatMap encI):=(h1.mono IS).own.le λc z I bQ=>Ac c z bQ λe=>(fresh (qh c I)).2.2 e;have second:∀{Y J7 jc:H} {t:U} {fa:au},(∀c z,u32 c=some z->c≠src->J7 c=some z)->(∀c z,J7 c=some z->c≠src->Y c=some z)->mK (H.no J7 src) jc src t (m.take e0) d Y fa->nv (s.part e0 s.n s.c 2) Y (λ(sb:U) (DD:H)=>(H.le ub DD)/\(hL aH (yd n0 b3) #[.slice sb.a sb.n sb.c] [.one .ptr] DD (λ(aaw:ay ba) (ma:H)=>(H.le ub ma)/\(c4 aH (dA 211 2 #[(0,.pointer (some ⟨fa.b,0,none⟩)),(1,.pointer aaw)]) [.one .slice] ma (λ(l7:U) (hW:H)=>(H.le ub hW)/\(∀n49:N,(hW n49=none)->K (some ⟨n49,0,none⟩) (hW.ins n49 (.cells #[.int .i64 3,.slice bo.a bo.n bo.c,.slice none 0 0,.int .u64 (dk R),.int .u64 (dq R),.slice none 0 0,.slice none 0 0,.slice l7.a l7.n l7.c] 213 (0,0))))))))):=by
   intro Y J7 jc t fa Zy aiB I;have aB:∀c z,u32 c=some z->c≠src->Y c=some z:=λc z h1 h2=>aiB c z (Zy c z h1 h2) h2;have ai7:=lub aB;refine OQ (axc (ayt aB)).1 (by show s.n-e0<=_;omega) λsb DD MA _=>⟨ai7.trans MA.le,Dk aB I.src MA yF (by omega) (N7 _ _) λma cc Z vz=>?_⟩;have Fz:∀c z,u32 c=some z->c≠src->ma c=some z:=λc z h1 h2=>vz c z (aB c z h1 h2) h2;refine⟨lub Fz,?_⟩;refine l8 (VQ fa.b cc.b) λg W=>?_;have sX:=bW (u:=ma) (b:=g) (.cells [gS (some ⟨fa.b,0,none⟩),.pointer (some ⟨cc.b,0,none⟩)].toArray 167 (0,0)) W;have mk:=aD.make (k:=1) (H.le.refl ma) W (cells:=[gS (some ⟨fa.b,0,none⟩),.pointer (some ⟨cc.b,0,none⟩)].toArray) (e:=167) (n:=2) (by omega) rfl;obtain⟨hW,M7⟩:∃hW,hW=ma.ins g (.cells [gS (some ⟨fa.b,0,none⟩),.pointer (some ⟨cc.b,0,none⟩)].toArray 167 (0,0)):=⟨_,rfl⟩;have XN:hW g≠none:=by rw[M7,bf];simp
   rw[<-M7] at sX mk ⊢;refine⟨(lub Fz).trans sX,λn49 CA=>?_⟩;obtain⟨kc,iz⟩:∃bV:et,bV=⟨n49,3,bo,⟨none,0,0⟩,r9.v,[],R,⟨none,0,0⟩,[],⟨some ⟨g,0,none⟩,2,2⟩⟩:=⟨_,rfl⟩;have fP:(bA #[.int .i64 3,.slice bo.a bo.n bo.c,.slice none 0 0,.int .u64 (dk R),.int .u64 (dq R),.slice none 0 0,.slice none 0 0,.slice (some ⟨g,0,none⟩) 2 2] 213 (0,0))=.cells (eP kc).toArray 213 (0,0):=by rw[iz];rfl
   show K (some ⟨n49,0,none⟩) (hW.ins n49 (bA #[.int .i64 3,.slice bo.a bo.n bo.c,.slice none 0 0,.int .u64 (dk R),.int .u64 (dq R),.slice none 0 0,.slice none 0 0,.slice (some ⟨g,0,none⟩) 2 2] 213 (0,0)));rw[fP];have yP:=bW (u:=hW) (b:=n49) (.cells (eP kc).toArray 213 (0,0)) CA;obtain⟨GO,ah9⟩:∃GO,GO=hW.ins n49 (.cells (eP kc).toArray 213 (0,0)):=⟨_,rfl⟩;have key:=aq GO (.mk kc [fa,cc]);have d49:GO n49=some (.cells (eP kc).toArray 213 (0,0)):=by rw[ah9];exact bf _ _ _
   rw[<-ah9] at yP ⊢;have Xu:(au.mk kc [fa,cc]).b=n49:=by rw[iz];rfl
   rw[Xu] at key;have Sr:ma.le GO:=sX.trans yP;have acO:∀c z,u32 c=some z->c≠src->GO c=some z:=λc z h1 h2=>Sr c z (Fz c z h1 h2);have amm:=lub acO;have Sm:∀c,bo.aj=some c->u32 c≠none/\c≠src:=λc I=>⟨aas NQ I,(fresh (qh c I)).2.1⟩;have IP:∀{a b:H},(∀c z,a c=some z->c≠src->b c=some z)->∀{c},a c≠none->c≠src->b c≠none:=λ{a b} h {c} I ag=>by obtain⟨z,bQ⟩:=e3.1 I;rw[h c z bQ ag];simp
   have CU:∀{c},ma c≠none->hW c≠none:=λI e=>I (sX.none e);have ZK:∀{c},hW c≠none->GO c≠none:=λI e=>I (yP.none e);have alJ:∀{c},ma c=none->c≠src:=λI e=>by obtain⟨n2,vu⟩:=Z.src;rw[e,vu] at I;cases I
   have am2:∀{c},H.no J7 src c=none->c≠src->J7 c=none:=λh ag=>by rw[I3 ag] at h;exact h
   have acR:∀{c},H.no Y src c=none->c≠src->Y c=none:=λh ag=>by rw[I3 ag] at h;exact h
   have amn:∀{Y:H},ub.le Y->∀{c},Y c=none->ub c=none:=λ{_} h {_} I=>H.le.none h I;have pH:(au.mk kc [fa,cc]).own=n49::((bo.aj.toList++ [g])++(fa.own++cc.own)):=by rw[au.rm,iz];simp[au.h,au.kids,et.dt,U.aj]
   have EQ:(au.mk kc [fa,cc]).bO=(kc,[fa.b,cc.b])::(fa.bO++cc.bO):=by rw[au.ij];simp[au.h,au.kids]
   have IN:∀c∈(bo.aj.toList++ [g])++(fa.own++cc.own),ub c=none/\hW c≠none/\c≠src:=λc cJ=>by simp only[cK,r7,fI] at cJ;rcases cJ with(cJ|rfl)|cJ|cJ;obtain⟨cT,da⟩:=Sm c cJ;exact⟨(fresh (qh c cJ)).1,CU (IP Fz cT da),da⟩;exact⟨(lub Fz).none W,XN,alJ W⟩;obtain⟨cT,da,dm⟩:=I.out c cJ;exact⟨amn (lub Zy) (am2 cT dm),CU (IP vz da dm),dm⟩;obtain⟨cT,da,dm⟩:=Z.out c cJ;exact⟨amn ai7 (acR cT dm),CU da,dm⟩
   refine key ⟨λy ah=>?_,?_,λc cJ=>?_,?_,?_,λy ah r O=>?_,?_,λc z XB k4 dU=>acO c z (Ac c z (yQ c z (eX c z XB dU)) k4) dU,?_,?_,?_⟩;rw[EQ] at ah;rcases cE.1 ah with rfl|ah;subst iz;exact⟨d49,NQ.le λc z c7 bQ=>acO c z bQ (Sm c c7).2,Own.nil _ _ _,Own.nil _ _ _,λr O=>(by cases O),(mk.mono yP).own.cC⟩;rcases cK.1 ah with ah|ah;exact(I.one y ah).bM (λc z cJ bQ=>Sr c z (vz c z bQ (I.out c (ee.2 ⟨y,ah,cJ⟩)).2.2)) λr O=>(sP r (nW (I.rows y ah r O))).mono amm;exact(Z.one y ah).bM (λc z _ bQ=>Sr c z bQ) λr O=>(sP r (uG (Z.rows y ah r O))).mono amm;rw[pH,hK];refine⟨λhm=>(IN n49 hm).2.1 CA,?_⟩;have eJ:∀z:ay N,z.toList.Nodup:=λz=>by cases z<;>simp
   rw[gb,gb,gb];refine⟨⟨eJ _,by simp,λa aE b eH e=>?_⟩,⟨I.nodup,Z.nodup,λa aE b eH e=>?_⟩,λa aE b eH e=>?_⟩;rw[fI] at eH;rw[r7] at aE;rw[<-e] at eH;subst eH;obtain⟨cT,da⟩:=Sm a aE;exact IP Fz cT da W;subst e;obtain⟨_,da,dm⟩:=I.out a aE;exact da (acR (Z.out a eH).1 dm);subst e;simp only[cK,r7,fI] at aE eH;rcases aE with aE|rfl;obtain⟨cT,da⟩:=Sm a aE;rcases eH with eH|eH;exact IP Zy cT da (am2 (I.out a eH).1 da);exact IP aB cT da (acR (Z.out a eH).1 da);rcases eH with eH|eH;obtain⟨_,da,dm⟩:=I.out a eH;exact IP vz da dm W;exact(Z.out a eH).2.1 W;rw[pH] at cJ;rcases cE.1 cJ with rfl|cJ;exact⟨(lub Fz).none (sX.none CA),by rw[d49];simp,alJ (sX.none CA)⟩;obtain⟨cT,da,dm⟩:=IN c cJ;exact⟨cT,ZK da,dm⟩;rw[au.hn,bF.all_eq,iz];show([]++bF.jD ([fa,cc].map au.bB)).Perm _;rw[lu];show(fa.bB.all++(cc.bB.all++ [])).Perm _;rw[kA];refine(I.all.append Z.all).trans ?_;rw[<-dY,r6];exact ad.map _;rw[au.hn];have eh:∀x,x∈(bF.mk kc.aG kc.bJ kc.hi kc.cH (kc.rows.map av.bi) ([fa,cc].map au.bB)).all->x∈l.map av.bi:=λx M=>by rw[bF.all_eq] at M;subst iz;have fF:x∈[]++(fa.bB.all++(cc.bB.all++ [])):=M;rw[lu,kA] at fF;refine(ad.map av.bi).mem_iff.1 ?_;rcases cK.1 fF with fF|fF;obtain⟨r,O,rfl⟩:=bk.1 (I.all.mem_iff.1 fF);exact hS (nW O);obtain⟨r,O,rfl⟩:=bk.1 (Z.all.mem_iff.1 fF);exact hS (uG O)
   subst iz;refine .mk (kl [] []) (λx M=>ins [] [] x (eh x M)) λk hk=>?_;have de:k∈[fa.bB,cc.bB]:=hk;simp only[cE,qA,qB] at de;rcases de with rfl|rfl;exact I.ok;exact Z.ok;rw[EQ] at ah;rcases cE.1 ah with rfl|ah;subst iz;cases O;rcases cK.1 ah with ah|ah;exact ad.mem_iff.1 (nW (I.rows y ah r O));exact ad.mem_iff.1 (uG (Z.rows y ah r O));rw[EQ,h5,eC];have aP:=I.size;have aC:=Z.size;omega;obtain⟨n2,vu⟩:=Z.src;exact⟨n2,Sr _ _ vu⟩;rw[au.hn,iz];refine .mk rfl λk hk=>?_;have de:k∈[fa.bB,cc.bB]:=hk;simp only[cE,qA,qB] at de;rcases de with rfl|rfl;exact I.n1;exact Z.n1;refine Qe (.inr rfl) λk hk=>?_;simp only[cE,qA,qB] at hk;rcases hk with rfl|rfl;exact I.bin;exact Z.bin
  have z0:∀c z,u32 c=some z->c≠src->u32 c=some z:=λ_ _ h _=>h;have left:∀{Q:U->H->Prop},(∀t fj,aD u32 fj 52 2 t ((m.take e0).flatMap cB)->Q t fj)->nv (s.part 0 e0 s.c 2) u32 Q:=λ{Q} e6=>
   OQ (s4 Rb).1 (by show e0-0<=_;omega) λap u' bQ _=>e6 ap u' bQ
  have first:∀{t fj} {Q:ay ba->H->Prop},aD u32 fj 52 2 t ((m.take e0).flatMap cB)->(∀Y fa,mK (H.no u32 src) fj src t (m.take e0) d Y fa->(∀c z,u32 c=some z->c≠src->Y c=some z)->Q (some ⟨fa.b,0,none⟩) Y)->hL aH (yd n0 b3) #[.slice t.a t.n t.c] [.one .ptr] fj Q:=λiS e6=>
   Dk z0 pW iS E7 (by omega) (rz _ _) λu' n I aB=>e6 u' n I aB
  refine⟨by decide,⟨by omega,by omega⟩,ub,my,_,b4.c1,_,b4.c1,?_,?_⟩;refine OJ ⟨my,left λt fj iS=>⟨my.trans iS.le,?_,?_⟩,?_⟩;exact first iS λY fa I aB=>⟨lub aB,Bk ⟨lub aB,second z0 aB I⟩⟩
  exact Bk ⟨my.trans iS.le,first iS λY fa I aB=>⟨lub aB,second z0 aB I⟩⟩;exact Bk ⟨my,left λt fj iS=>⟨my.trans iS.le,first iS λY fa I aB=>⟨lub aB,second z0 aB I⟩⟩⟩;exact Bk ⟨my,OJ ⟨my,left λt fj iS=>⟨my.trans iS.le,first iS λY fa I aB=>⟨lub aB,second z0 aB I⟩⟩⟩⟩
end lE
namespace lE
section
variable{u ai ub u':H}{b:N}{h:et}{d:o}{s:U}{v q:J o}{f:H->Prop}{K:aI->o->H->Prop}{ks:J au}
def KC:hl aH 276=ak:=by kernel_rfl
def VJ:hl aH 277=ak:=by kernel_rfl
def Wc{n0:N}{id:o}(bK:ub.cell? ⟨n0,0,none⟩=some (.int .i64 id)):P5 ub (.func (.func 277) #[] #[.pointer (some ⟨n0,0,none⟩)]) λr=>decide (r.id=id):=λr v K aA aq=>
 .inl ⟨_,_,_,rfl,hh VJ,aEc r.id r.s ⟨n0,0,none⟩ v K ⟨_,H.le.cell (show ub.le v from aA) bK,aq⟩⟩
def abN{n0 b3:N}{id:o}(bK:ub.cell? ⟨n0,0,none⟩=some (.int .i64 id))(c1:ub.cell? ⟨b3,0,none⟩=some (.func (.func 276) #[] #[.pointer (some ⟨n0,0,none⟩),.pointer (some ⟨b3,0,none⟩)])):
  ∀(n:au) {u:H} {K:H->Prop},ub.le u->(∀x∈n.bO,hz u x)->n.own.Nodup->(∀c∈n.own,ub c=none)->(∀x∈n.bO,∀r∈x.1.rows,Ints ub r.s r.v)->n.bO.length<=10000000->(∀u' n',G5 id n u' n'->(∀c z,u c=some z->c∉n.own->u' c=some z)->(∀c,u c≠none->u' c≠none)->K u')->
   adw (some ⟨n.b,0,none⟩) ⟨n0,0,none⟩ ⟨b3,0,none⟩ u K:=by
 intro n
 induction n using au.ind with
 |h n aL=>
  intro u K b9 oV bY hZ k6 cY aq;have bV:(n.h,n.kids.map au.b)∈n.bO:=by rw[au.ij];exact gh ..
  have h0:=oV _ bV;have Z:n.b=n.h.b:=rfl;rw[au.rm] at bY hZ;have nI:=bY;rw[gb] at nI;obtain⟨gj,fp,sQ⟩:=nI;have MX:∀g,n.h.bc.aj=some g->g∈n.h.dt:=λg W=>by simp[et.dt,W]
  have MY:n.h.bc.aj≠some n.h.b:=λe=>by unfold et.dt at gj;rw[hK] at gj;exact gj.1 (by simp[e])
  have avR:n.kids.length<=10000000:=by
   have h1:n.bO.length=1+(n.kids.flatMap au.bO).length:=by rw[au.ij,h5];omega
   have h2:∀ks:J au,ks.length<=(ks.flatMap au.bO).length:=λks=>by
    induction ks with
    |nil=>simp|cons k ks FA=>rw[gB,eC,h5];have:=k.Rq;omega
   have:=h2 n.kids;omega
  apply aEb;refine⟨_,rfl,n.h.bc,a1 h0.cell 6,?_⟩;refine alm h0.rws.f (Wc bK) b9 (λg W=>hZ g (iY _ (MX g W))) λs2 jM dz jS iQ=>?_;have Af:(n.h.rows.filter λr=>!decide (r.id=id))=n.h.rows.filter λr=>r.id !=id:=List.filter_congr λr _=>by by_cases e:r.id=id<;>simp[e]
  rw[Af] at dz;refine⟨_,rfl,?_⟩;have XA:jM n.h.b=some (.cells (eP n.h).toArray 213 (0,0)):=iQ _ _ h0.cell MY;refine TS XA s2 (n.h.rows.filter λr=>r.id !=id) ?_;obtain⟨bL,lX⟩:∃bL:et,bL={n.h with bc:=s2,rows:=n.h.rows.filter λr=>r.id !=id}:=⟨_,rfl⟩;rw[<-lX];have eH:bL.b=n.h.b:=by rw[lX]
  have LD:bL.dt=n.h.dt:=by rw[lX];unfold et.dt;simp[jS]
  obtain⟨fK,re⟩:∃fK,fK=jM.ins n.h.b (.cells (eP bL).toArray 213 (0,0)):=⟨_,rfl⟩;rw[<-re];have lh:fK n.h.b=some (.cells (eP bL).toArray 213 (0,0)):=by rw[re];exact bf _ _ _
  have ty:∀c z,jM c=some z->c≠n.h.b->fK c=some z:=λc z I al=>by rw[re,bm _ _ al];exact I
  have eX:∀c z,u c=some z->c∉n.h.dt->fK c=some z:=λc z I al=>ty c z (iQ c z I λe=>al (MX c e)) λe=>al (by rw[e];exact gh ..);have ZT:∀c,u c≠none->fK c≠none:=λc I=>by by_cases e:c=n.h.b;rw[e,lh];simp;obtain⟨z,ab⟩:=e3.1 I;by_cases aC:n.h.bc.aj=some c;obtain⟨yZ,kv⟩:=e3.1 (dF dz (g:=c) (by rw[jS];exact aC));rw[ty c yZ kv e];simp;rw[ty c z (iQ c z ab aC) e];simp
  have vv:ub.le fK:=λc z I=>eX c z (b9 c z I) λhm=>by rw[hZ c (iY _ hm)] at I;cases I
  have NR:∀{e k:N} {s:U} {xs:J ao},Own u e k s xs->(∀g,s.aj=some g->g≠n.h.b/\n.h.bc.aj≠some g)->Own fK e k s xs:=λab al=>ab.le λc z I hu=>ty c z (iQ c z hu λe=>(al c I).2 e) (al c I).1;have ix:(∀g,n.h.bo.aj=some g->g≠n.h.b/\n.h.bc.aj≠some g)/\(∀g,n.h.fl.aj=some g->g≠n.h.b/\n.h.bc.aj≠some g)/\(∀g,n.h.c8.aj=some g->g≠n.h.b/\n.h.bc.aj≠some g):=by unfold et.dt at gj;rw[hK] at gj;obtain⟨cT,da⟩:=gj;have aO:∀g,g∈n.h.bo.aj.toList++n.h.fl.aj.toList++n.h.bc.aj.toList++n.h.c8.aj.toList->g≠n.h.b:=λg W e=>cT (by rw[<-e];exact W);rw[gb,gb,gb] at da;obtain⟨⟨⟨_,_,dm⟩,_,fx⟩,_,rn⟩:=da;refine⟨λg W=>⟨aO g (by simp[W]),λe=>fx g (by simp[W]) g (by simp[e]) rfl⟩,λg W=>⟨aO g (by simp[W]),λe=>fx g (by simp[W]) g (by simp[e]) rfl⟩,λg W=>⟨aO g (by simp[W]),λe=>rn g (by simp[e]) g (by simp[W]) rfl⟩⟩
  have Lv:∀sW,sW=n.kids.map au.b->hz fK (bL,sW):=λsW X4=>by subst X4;subst lX;refine⟨lh,NR h0.bJ ix.1,NR h0.hi ix.2.1,dz.own.le λc z I hu=>ty c z hu λe=>MY (by rw[<-jS,I,e]),λr O=>(k6 _ bV r (hT.1 O).1).mono vv,bt.else h0.lJ λg z W ab=>ty g z (iQ g z ab λe=>(ix.2.2 g W).2 e) (ix.2.2 g W).1⟩
  have Fj:bL.c8=n.h.c8:=by rw[lX]
  refine⟨_,rfl,bL.c8,by rw[Z];exact a1 lh 7,?_⟩;refine⟨λx w=>0<=x/\x<=n.kids.length/\(∀c z,fK c=some z->c∉n.kids.flatMap au.own->w c=some z)/\(∀c,fK c≠none->w c≠none)/\∃ds:J au,ds.length=x.toNat/\(∀(i:N) d k,ds[i]?=some d->n.kids[i]?=some k->G5 id k w d)/\(∀(i:N) k,x.toNat<=i->n.kids[i]?=some k->∀y∈k.bO,hz w y),
   λx _=>((n.kids.length:o)-x).toNat,⟨by omega,by omega,λc z I _=>I,λc I=>I,[],rfl,λi d k aw=>by simp at aw,λi k _ hk y ah=>?_⟩,?_⟩
  obtain⟨jc,z2⟩:k.own ⊆ n.kids.flatMap au.own/\True:=⟨λc I=>ee.2 ⟨k,du hk,I⟩,trivial⟩;have Fy:y∈n.bO:=by rw[au.ij];exact gd _ (ee.2 ⟨k,du hk,ah⟩)
  refine(oV y Fy).bM (λc z I ab=>eX c z ab λhm=>sQ c hm c (jc (ee.2 ⟨y,ah,I⟩)) rfl) λr O=>(k6 y Fy r O).mono vv;rintro x w ⟨bG,dy,sS,oU,ds,yu,rO,vr⟩;have kR:ub.le w:=λc z I=>sS c z (vv c z I) λhm=>by rw[hZ c (lf _ hm)] at I;cases I
  have YW:bL.c8.n=n.kids.length:=by rw[Fj];have:=h0.lJ.len;simp at this;omega
  have EX:∀{Y:N} {k:au},n.kids[Y]?=some k->(∀y∈k.bO,y∈n.bO)/\(∀c∈k.own,c∈n.kids.flatMap au.own):=λhk=>⟨λy ah=>by rw[au.ij];exact gd _ (ee.2 ⟨_,du hk,ah⟩),λc I=>ee.2 ⟨_,du hk,I⟩⟩;refine⟨λM=>?_,λM=>?_⟩;have eO:x.toNat<n.kids.length:=by omega
  obtain⟨k,hk⟩:∃k,n.kids[x.toNat]?=some k:=⟨_,cn eO⟩;have YV:bt fK n.h.c8 1 ((n.kids.map au.b).map λn=>.pointer (some ⟨n,0,none⟩)):=(Lv _ rfl).lJ|>λh=>by rw[Fj] at h;exact h
  have YY:bt w n.h.c8 1 ((n.kids.map au.b).map λn=>.pointer (some ⟨n,0,none⟩)):=bt.else YV λg z W ab=>sS g z ab λhm=>sQ g (by simp[et.dt,W]) g hm rfl;have qk:((n.kids.map au.b).map λn=>gS (some ⟨n,0,none⟩))[x.toNat]?=some (.pointer (some ⟨k.b,0,none⟩)):=by simp[hk]
  obtain⟨p,ad,fP⟩:=YY.at'|>.resolve_left (λe=>by rw[e] at qk;simp at qk);have og:=fP _ _ qk;obtain⟨cx,cS⟩:=EX hk;have jF:k.own.Nodup:=fp.sublist (Tj (hS (f:=au.own) (du hk)));have M1:k.bO.length<=10000000:=by
   have h1:n.bO.length=1+(n.kids.flatMap au.bO).length:=by rw[au.ij,h5];omega
   have h2:k.bO.length<=(n.kids.flatMap au.bO).length:=(Tj (hS (f:=au.bO) (du hk))).length_le;omega
  refine⟨p,by rw[Fj];exact ad,⟨bG,by omega⟩,_,by unfold aW;rw[y7];exact og,_,kR.cell c1,.inl ⟨_,_,_,rfl,hh KC,?_⟩⟩;refine aL k (du hk) kR (vr x.toNat k (cg _) hk) jF (λc I=>hZ c (lf _ (cS c I))) (λy ah=>k6 y (cx y ah)) M1 λw' d aw eB H7=>?_;have M9:ub.le w':=λc z I=>eB c z (kR c z I) λe=>by rw[hZ c (lf _ (cS c e))] at I;cases I
  have other:∀{i:N} {dQ:au},n.kids[i]?=some dQ->i≠x.toNat->∀c∈dQ.own,c∉k.own:=λde al c I=>afa fp de hk al I;refine⟨⟨by omega,by omega⟩,⟨by omega,by omega,λc z I hm=>eB c z (sS c z I hm) λe=>hm (cS c e),λc I=>H7 c (oU c I),ds++ [d],by rw[eC,yu];simp;omega,λi lo dQ tJ de=>?_,λi dQ hi de y ah=>?_⟩,by dsimp only;omega⟩;by_cases e:i<ds.length;rw[qy e] at tJ;have hold:=rO i lo dQ tJ de;have al:=other de (by omega);refine⟨λy ah=>(hold.one y ah).bM (λc z I ab=>eB c z ab (al c (by rw[<-hold.own];exact ee.2 ⟨y,ah,I⟩))) λr O=>?_,hold.own,hold.b,hold.bB,hold.rows⟩;obtain⟨Y,aB,mW⟩:=hold.rows y ah r O;exact(k6 Y ((EX de).1 Y aB) r mW).mono M9;have ea:i<(ds++ [d]).length:=(ir.1 tJ).1;rw[eC,rA] at ea;have sz:i=x.toNat:=by omega
  rw[C9 (by omega),show i-ds.length=0 by omega] at tJ;obtain rfl:=cO (show some d=some lo from tJ);rw[sz,hk] at de;obtain rfl:=cO de;exact aw;refine(vr i dQ (by omega) de y ah).bM (λc z I ab=>eB c z ab (other de (by omega) c (ee.2 ⟨y,ah,I⟩))) λr O=>(k6 y ((EX de).1 y ah) r O).mono M9;have eO:x.toNat=n.kids.length:=by omega
  have asg:ds.length=n.kids.length:=by omega
  have Eh:∀{γ:Type} (f g:au->γ),(∀(i:N) d k,ds[i]?=some d->n.kids[i]?=some k->f d=g k)->ds.map f=n.kids.map g:=λf g LS=>by apply r1;intro i;rw[iD,iD];by_cases e:i<ds.length;have h1:ds[i]?=some ds[i]:=cn e;have h2:n.kids[i]?=some n.kids[i]:=cn (by omega);rw[h1,h2,uA,uA,LS i _ _ h1 h2];rw[io (by omega),io (by omega)];rfl
  have KS:ds.map au.b=n.kids.map au.b:=Eh _ _ λi d k h1 h2=>(rO i d k h1 h2).b;have Wn:ds.flatMap au.own=n.kids.flatMap au.own:=by rw[JE,JE,Eh au.own au.own λi d k h1 h2=>(rO i d k h1 h2).own]
  have El:ds.map au.bB=n.kids.map λk=>k.bB.del id:=Eh _ _ λi d k h1 h2=>(rO i d k h1 h2).bB;have mem:∀d∈ds,∃k∈n.kids,G5 id k w d:=λd aw=>by obtain⟨i,hi,rfl⟩:=pe aw;exact⟨_,kk (show i<n.kids.length by omega),rO i _ _ (cn hi) (cn (by omega))⟩
  refine aq w (.mk bL ds) ⟨λy ah=>?_,?_,eH,?_,λy ah r O=>?_⟩ (λc z I hm=>?_) λc I=>oU c (ZT c I);rw[au.ij] at ah;rcases cE.1 ah with rfl|ah;refine(Lv _ KS).bM (λc z I ab=>sS c z ab λhm=>sQ c (by rw[<-LD];exact I) c hm rfl) λr O=>?_;have cq:r∈n.h.rows:=by rw[lX] at O;exact(hT.1 O).1
  exact(k6 _ bV r cq).mono kR;obtain⟨d,aw,ah⟩:=ee.1 ah;obtain⟨k,_,hk⟩:=mem d aw;exact hk.one y ah;rw[au.rm,au.rm];show bL.dt++ds.flatMap au.own=_;rw[LD,Wn];rw[au.hn,au.hn,bF.del_eq];show bF.mk bL.aG bL.bJ bL.hi bL.cH (bL.rows.map av.bi) (ds.map au.bB)=bF.mk n.h.aG n.h.bJ n.h.hi n.h.cH ((n.h.rows.map av.bi).filter λx=>x.1 !=id) ((n.kids.map au.bB).map (bF.del id));rw[El,ez,r8,lX];rfl;rw[au.ij] at ah;rcases cE.1 ah with rfl|ah;have cq:r∈n.h.rows:=by have:r∈bL.rows:=O;rw[lX] at this;exact(hT.1 this).1
  exact⟨_,bV,cq⟩;obtain⟨d,aw,ah⟩:=ee.1 ah;obtain⟨k,rQ,hk⟩:=mem d aw;obtain⟨Y,aB,mW⟩:=hk.rows y ah r O;exact⟨Y,by rw[au.ij];exact gd _ (ee.2 ⟨k,rQ,aB⟩),mW⟩;rw[au.rm] at hm;exact sS c z (eX c z I λh=>hm (iY _ h)) λh=>hm (lf _ h)
def GH{cW src:N}{leaf:o}{l:J av}{K:ay ba->H->Prop}(Ai:1<=leaf)(qI:ub.cell? ((cr cW 0 none).add 1)=some (.int .i64 leaf))(ca:ub.cell? ((cr cW 0 none).add 2)=some (.pointer (some ⟨src,0,none⟩)))(AG:ub src=none)(dI:zJ u src)(vt:s.aj≠some src)
  (ab:aD ub u 52 2 s (l.flatMap cB)) (aA:∀r∈l,Ints ub r.s r.v) (bH:gX l d) (h0:l=[]->∀u',u.le u'->K none u') (aq:l≠[]->∀u' n,mK ub u src s l d u' n->K (some ⟨n.b,0,none⟩) u'):G4 (some ⟨cW,0,none⟩) s u K:=by
 have b9:=ab.le
 apply aEh
 intro n0 eT b3 gj
 obtain⟨fG,jU⟩:∃fG,fG=(bA #[gS (some ⟨cW,0,none⟩)] 116 (0,0)):=⟨_,rfl⟩
 rw[<-jU] at gj ⊢
 have tR:n0≠b3:=λe=>by rw[<-e,bf] at gj;cases gj
 have E5:u b3=none:=by rw[bm _ _ (dv tR)] at gj;exact gj
 refine mG (zs:=[.nilFunc]) rfl (by simp[cF]) ?_
 obtain⟨eJ,kf⟩:∃eJ,eJ=(bA [yd n0 b3].toArray 170 (0,0)):=⟨_,rfl⟩
 rw[<-kf]
 obtain⟨c9,rW⟩:∃c9,c9=(u.ins n0 fG).ins b3 eJ:=⟨_,rfl⟩
 rw[<-rW]
 have yS:u.le c9:=by rw[rW];exact(bW _ eT).trans (bW _ gj)
 have d0:c9 n0=some fG:=by rw[rW,bm _ _ tR,bf]
 have d1:c9 b3=some eJ:=by rw[rW,bf]
 obtain⟨gm,Fq⟩:∃gm:H,gm=λc=>if c=n0 then some fG else if c=b3 then some eJ else ub c:=⟨_,rfl⟩
 have fV:gm n0=some fG:=by rw[Fq];exact aV rfl
 have gf:gm b3=some eJ:=by rw[Fq];show(if b3=n0 then _ else if b3=b3 then _ else _)=_;rw[az (dv tR),aV rfl]
 have gP:∀{c},c≠n0->c≠b3->gm c=ub c:=λ{c} h1 h2=>by rw[Fq];show(if c=n0 then _ else if c=b3 then _ else _)=_;rw[az h1,az h2]
 have qq:ub.le gm:=λc z I=>by rw[gP (λe=>by rw[e,b9.none eT] at I;cases I) (λe=>by rw[e,b9.none E5] at I;cases I)];exact I
 have Nw:gm.le c9:=λc z I=>by by_cases fW:c=n0;rw[fW,fV] at I;rw[fW,d0];exact I;by_cases aP:c=b3;rw[aP,gf] at I;rw[aP,d1];exact I;rw[gP fW aP] at I;exact yS c z (b9 c z I)
 have dz:aD gm c9 52 2 s (l.flatMap cB):=⟨(ab.mono yS).own,Nw,λg W=>by rw[gP (λe=>dF ab W (by rw[e];exact eT)) (λe=>dF ab W (by rw[e];exact E5))];exact ab.fresh g W⟩
 have b4:wu gm n0 b3 cW src leaf:=⟨by rw[jU] at fV;exact a1 fV 0,by rw[kf] at gf;exact a1 gf 0,H.le.cell qq qI,H.le.cell qq ca⟩
 obtain⟨st,dI⟩:=dI
 have aBp:gm src=none:=by rw[gP (λe=>by rw[<-e,dI] at eT;cases eT) (λe=>by rw[<-e,dI] at E5;cases E5)];exact AG
 refine⟨_,H.le.cell Nw b4.c1,.inl ⟨_,_,_,rfl,hh KB,?_⟩⟩
 exact abM Ai l.length (cg _) b4 aBp ⟨st,yS _ _ dI⟩ vt dz (λr O=>(aA r O).mono qq) bH (λe=>h0 e c9 yS) λal u' n I=>aq al u' n ⟨I.one,I.nodup,λc hm=>⟨qq.none (I.out c hm).1,(I.out c hm).2⟩,I.all,I.ok,I.rows,I.size,λc z h1 h2 h3=>I.tA c z (yS c z h1) h2 h3,I.src,I.n1,I.bin⟩
inductive bu where
 |tree|map|node|vec|src
structure aT where
 dim:o
 leaf:o
 src:N
 root:ay au
 m:N
 w:J (o×(U×J o))
 eR:N
def aT.cj(T:aT):o:=T.leaf
def fe(T:aT):J ao:=[.int .i64 T.dim,.int .i64 T.leaf,.pointer (some ⟨T.src,0,none⟩),.pointer (T.root.map λn=>⟨n.b,0,none⟩),.map (some T.m)]
def ec(w:J (o×(U×J o))):J (o×ao):=w.map λe=>(e.1,.slice e.2.1.a e.2.1.n e.2.1.c)
structure ef(af:N->ay bu)(u:H)(b:N)(T:aT):Prop where
 cell:u b=some (.cells (fe T).toArray 174 (0,0))
 dL:af b=some .tree
 map:fs u T.m (ec T.w)
 dh:af T.m=some .map
 src:zJ u T.src
 hV:af T.src=some .src
 vec:∀e∈T.w,Ints u e.2.1 e.2.2/\∀g,e.2.1.aj=some g->af g=some .vec
 one:∀n,T.root=some n->(∀x∈n.bO,hz u x)/\n.own.Nodup/\(∀c∈n.own,af c=some .node)/\∀x∈n.bO,∀r∈x.1.rows,∀g,r.s.aj=some g->af g=some .vec
def ef.bM{af aY:N->ay bu}{T:aT}(h:ef af u b T)(ac:∀c,af c≠none->aY c=af c)(hu:∀c z,u c=some z->af c≠none->u' c=some z):ef aY u' b T where
 cell:=hu _ _ h.cell (by rw[h.dL];simp)
 dL:=by rw[ac _ (by rw[h.dL];simp)];exact h.dL
 map:=h.map.else λz ab=>hu _ _ ab (by rw[h.dh];simp)
 dh:=by rw[ac _ (by rw[h.dh];simp)];exact h.dh
 src:=h.src.elim λst ag=>⟨st,hu _ _ ag (by rw[h.hV];simp)⟩
 hV:=by rw[ac _ (by rw[h.hV];simp)];exact h.hV
 vec e he:=by obtain⟨h1,h2⟩:=h.vec e he;exact⟨bt.else h1 λg z W ab=>hu g z ab (by rw[h2 g W];simp),λg W=>by rw[ac g (by rw[h2 g W];simp)];exact h2 g W⟩
 one n ae:=by obtain⟨h1,h2,h3,a7⟩:=h.one n ae;refine⟨λx M=>(h1 x M).bM (λc z I ab=>hu c z ab (by rw[h3 c (ee.2 ⟨x,M,I⟩)];simp)) λr O=>bt.else ((h1 x M).vec r O) λg z W ab=>hu g z ab (by rw[a7 x M r O g W];simp),h2,λc I=>by rw[ac c (by rw[h3 c I];simp)];exact h3 c I,λx M r O g W=>by rw[ac g (by rw[a7 x M r O g W];simp)];exact a7 x M r O g W⟩
def bM:x5 ef:=⟨λh ac hu=>h.bM ac hu⟩
abbrev In:=mf ef
def lg(T:aT):J jN:=match T.root with
 |none=>[]|some n=>n.bB.all
def bb(X:aT):J (o×J o):=X.w.map λe=>(e.1,e.2.2)
structure dP(T:aT):Prop where
 hs:1<=T.dim/\T.dim<=64
 AN:1<=T.leaf/\T.leaf<=64
 ids:∀e∈T.w,1<=e.1/\e.1<=1000000000
 vec:∀e∈T.w,(e.2.2.length:o)=T.dim/\db e.2.2
 small:T.w.length<=512
 rows:(lg T).Perm (bb T)
 ok:∀n,T.root=some n->fT T.dim n.bB
 n1:∀n,T.root=some n->lm 3 n.bB
 bin:∀n,T.root=some n->jC n.bB
 size:∀n,T.root=some n->n.bO.length<=1100*T.eR+2000
def iJ:n5 aH 125 3 30 (.slice none 0 0):=⟨by kernel_rfl,by kernel_rfl,λ_=>by kernel_rfl⟩
def KW(T:aT):(ec T.w).length=(bb T).length:=by simp[ec,bb]
def ef.rD{af:N->ay bu}{T:aT}(h:ef af u b T):((bb T).map (·.1)).Nodup:=by obtain⟨es,cl,_,he⟩:=h.map;have:=he.nodup;unfold ec at this;rw[ez] at this;unfold bb;rw[ez];exact this
def Bl{af:N->ay bu}{T:aT}{K:o->H->Prop}(h:In ai u af b T)(aq:K (bb T).length u):adx (some ⟨b,0,none⟩) u K:=by apply aEd;refine⟨λe=>(by cases e),λ_=>⟨_,rfl,_,a1 h.aF.cell 4,v7 iJ h.aF.map ?_⟩⟩;rw[KW];exact aq
structure zD(ai u:H)(af:N->ay bu)(b:N)(T:aT)(id:o)(u':H)(aY:N->ay bu)(bx:aT):Prop where
 is:In ai u' aY b bx
 eQ:hA u af u' aY
 ok:dP bx
 rows:bb bx=(bb T).filter λx=>x.1 !=id
 dim:bx.dim=T.dim
 leaf:bx.leaf=T.leaf
 eR:bx.eR=T.eR
def sD(w:J (o×(U×J o)))(x:o):(fN (ec w) x=none/\x∉w.map (·.1))∨∃e,e∈w/\e.1=x/\fN (ec w) x=some (.slice e.2.1.a e.2.1.n e.2.1.c):=by
 cases h:fN (ec w) x with
 |none=>left;have:=yj.1 h;unfold ec at this;rw[ez] at this;exact⟨rfl,this⟩|some v=>right;have:=K9 h;obtain⟨e,he,aC⟩:=bk.1 this;have c0:e.1=x:=dV pd aC;have ff:dX e.2.1.a e.2.1.n e.2.1.c=v:=dV pR aC;exact⟨e,he,c0,by rw[ff]⟩
def na(T:aT):(bb T).map (·.1)=T.w.map (·.1):=by unfold bb;rw[ez];rfl
def B8(w:J (o×(U×J o)))(id:o):(ec w).filter (λp=>p.1 !=id)=ec (w.filter λe=>e.1 !=id):=by unfold ec;rw[r8];rfl
def wa{af:N->ay bu}{T:aT}{id:o}(h:In ai u af b T)(aR:dP T)(kN:T.eR<=4000)(ed:id∉T.w.map (·.1)->∀u',u.le u'->K ax 0 u')
  (kh:id∈T.w.map (·.1)->∀u' aY bx,zD ai u af b T id u' aY bx->K ak 0 u'):PW (some ⟨b,0,none⟩) id u K:=by
 apply aEa
 intro n0 eT
 obtain⟨aS,gI⟩:∃aS,aS=u.ins n0 (.cells #[.int .i64 id] 3 (0,0)):=⟨_,rfl⟩
 have eZ:u.le aS:=by rw[gI];exact bW _ eT
 have d0:aS n0=some (.cells #[.int .i64 id] 3 (0,0)):=by rw[gI];exact bf _ _ _
 rw[<-gI]
 have i1:=mf.mono bM h eZ
 have aF:=i1.aF
 refine⟨λe=>(by cases e),λ_=>⟨_,rfl,_,a1 aF.cell 4,id,a1 d0 0,?_⟩⟩
 rcases sD T.w id with⟨W,hm⟩|⟨e,he,b7,W⟩
 refine tf iJ aF.map (ct:=.slice) (⟨none,0,0⟩:U) (by rw[W];rfl) ⟨λ_=>ed hm aS eZ,λM=>?_⟩
 rw[W] at M;cases M
 have b4:id∈T.w.map (·.1):=bk.2 ⟨e,he,b7⟩
 refine tf iJ aF.map (ct:=.slice) e.2.1 (by rw[W];rfl) ⟨λM=>?_,λ_=>?_⟩
 rw[W] at M;exact a6 rfl M
 refine⟨_,rfl,_,a1 aF.cell 4,id,a1 d0 0,?_⟩
 refine Oz iJ aF.map λz im=>?_
 obtain⟨gV,uc⟩:∃gV,gV=aS.ins T.m z:=⟨_,rfl⟩
 rw[<-uc] at im ⊢
 have js:∀{c},af c≠some .map->c≠T.m:=λI e=>I (by rw[e];exact aF.dh)
 have KP:∀c z,aS c=some z->c≠T.m->gV c=some z:=λc b5 I al=>by rw[uc,bm _ _ al];exact I
 have m10:gV T.m=some z:=by rw[uc];exact bf _ _ _
 have aad:n0≠T.m:=λe=>by have:=h.known T.m (by rw[h.aF.dh];simp);rw[<-e] at this;exact this eT
 intro n11 tS
 refine mG (zs:=[.nilFunc]) rfl (by simp[cF]) ?_
 obtain⟨rl,qo⟩:∃rl,rl=(bA [iZ (.func 276) #[] #[.pointer (some ⟨n0,0,none⟩),.pointer (some ⟨n11,0,none⟩)]].toArray 324 (0,0)):=⟨_,rfl⟩
 rw[<-qo]
 obtain⟨gx,xf⟩:∃gx,gx=gV.ins n11 rl:=⟨_,rfl⟩
 rw[<-xf]
 have rh:gV.le gx:=by rw[xf];exact bW _ tS
 have d11:gx n11=some rl:=by rw[xf];exact bf _ _ _
 have oM:∀c b5,aS c=some b5->c≠T.m->gx c=some b5:=λc b5 I al=>rh c b5 (KP c b5 I al)
 have KF:gx b=some (.cells (fe T).toArray 174 (0,0)):=oM b _ aF.cell (js (by rw[aF.dL];simp))
 obtain⟨n,ae⟩:∃n,T.root=some n:=by
  cases O:T.root with
  |some n=>exact⟨n,rfl⟩|none=>have h1:=aR.rows.length_eq;unfold lg at h1;rw[O] at h1;have h2:=Tk he;simp[bb] at h1;omega
 obtain⟨cT,da,dm,fx⟩:=aF.one n ae
 have tI:gx.cell? ((cr b 0 none).add 3)=some (.pointer (some ⟨n.b,0,none⟩)):=by
  have M:fe T=[.int .i64 T.dim,.int .i64 T.leaf,.pointer (some ⟨T.src,0,none⟩),.pointer (some ⟨n.b,0,none⟩),.map (some T.m)]:=by simp[fe,ae]
  rw[M] at KF;exact a1 KF 3
 refine⟨_,rfl,_,by rw[qo] at d11;exact a1 d11 0,_,tI,_,_,_,rfl,hh KC,?_⟩
 obtain⟨ub,b9⟩:∃ub:H,ub=λc=>open Classical in if c∈n.own then none else gx c:=⟨_,rfl⟩
 have xW:∀{c},c∈n.own->ub c=none:=λI=>by rw[b9];exact aV I
 have gm:∀{c},c∉n.own->ub c=gx c:=λI=>by rw[b9];exact az I
 have lub:ub.le gx:=λc b5 I=>by by_cases e:c∈n.own;rw[xW e] at I;cases I;rw[gm e] at I;exact I
 have lr:∀{c},af c≠some .node->c∉n.own:=λI e=>I (dm _ e)
 have aae:n0∉n.own:=λe=>h.known n0 (by rw[dm n0 e];simp) eT
 have aaf:n11∉n.own:=λe=>by have h1:=i1.known n11 (by rw[dm n11 e];simp);obtain⟨b5,bQ⟩:=e3.1 h1;have:=KP n11 b5 bQ (js (by rw[dm n11 e];simp));rw[tS] at this;cases this
 have oQ:ub.cell? ⟨n0,0,none⟩=some (.int .i64 id):=by
  have z0:ub n0=some (.cells #[.int .i64 id] 3 (0,0)):=by rw[gm aae];exact oM _ _ d0 aad
  exact a1 z0 0
 have iy:ub.cell? ⟨n11,0,none⟩=some (.func (.func 276) #[] #[.pointer (some ⟨n0,0,none⟩),.pointer (some ⟨n11,0,none⟩)]):=by
  have jc:ub n11=some rl:=by rw[gm aaf];exact d11
  rw[qo] at jc;exact a1 jc 0
 have iU:∀x∈n.bO,hz gx x:=λx M=>(cT x M).bM (λc b5 I bQ=>oM c b5 bQ (js (by rw[dm c (ee.2 ⟨x,M,I⟩)];simp))) λr O=>bt.else ((cT x M).vec r O) λg b5 W bQ=>oM g b5 bQ (js (by rw[fx x M r O g W];simp))
 have k6:∀x∈n.bO,∀r∈x.1.rows,Ints ub r.s r.v:=λx M r O=>bt.else ((cT x M).vec r O) λg b5 W bQ=>by rw[gm (lr (by rw[fx x M r O g W];simp))];exact oM g b5 bQ (js (by rw[fx x M r O g W];simp))
 have cY:=aR.size n ae
 refine abN oQ iy n lub iU da (λc I=>xW I) k6 (by omega) λu16 n' aw eB jF=>?_
 have ye:∀c b5,aS c=some b5->c≠T.m->c∉n.own->u16 c=some b5:=λc b5 I al Yp=>eB c b5 (oM c b5 I al) Yp
 have VG:u16 b=some (.cells (fe T).toArray 174 (0,0)):=ye b _ aF.cell (js (by rw[aF.dL];simp)) (lr (by rw[aF.dL];simp))
 have Ye:fs u16 T.m (ec (T.w.filter λe=>e.1 !=id)):=by rw[<-B8];exact im.else λb5 bQ=>eB _ _ (rh _ _ bQ) (lr (by rw[aF.dh];simp))
 have acD:∀{s:U} {v:J o},Ints aS s v->(∀g,s.aj=some g->af g=some .vec)->Ints u16 s v:=λhi W=>bt.else hi λg b5 cb bQ=>ye g b5 bQ (js (by rw[W g cb];simp)) (lr (by rw[W g cb];simp))
 obtain⟨bx,en⟩:∃bx:aT,bx={T with root:=some n',w:=T.w.filter λe=>e.1 !=id}:=⟨_,rfl⟩
 have Af:bb bx=(bb T).filter λx=>x.1 !=id:=by rw[en];unfold bb;rw[r8];rfl
 have ZI:∀c,aS c≠none->u16 c≠none:=λc I=>jF c λe=>by by_cases aC:c=T.m;rw[aC,rh _ _ m10] at e;cases e;obtain⟨b5,bQ⟩:=e3.1 I;rw[oM c b5 bQ aC] at e;cases e
 refine kh b4 u16 af bx ⟨⟨?_,λc b5 I=>?_,h.out,λc I=>ZI c (i1.known c I)⟩,⟨λc b5 I ac=>ye c b5 (eZ c b5 I) (js (by rw[ac];simp)) (lr (by rw[ac];simp)),λc I=>.inl I⟩,?_,Af,by rw[en],by rw[en],by rw[en]⟩
 subst en
 refine⟨?_,aF.dL,Ye,aF.dh,aF.src.elim λst ag=>⟨st,ye _ _ ag (js (by rw[aF.hV];simp)) (lr (by rw[aF.hV];simp))⟩,aF.hV,λgq fX=>?_,λeN fp=>?_⟩
 rw[VG]
 simp[fe,ae,aw.b]
 obtain⟨v1,v2⟩:=aF.vec gq (hT.1 fX).1
 exact⟨acD v1 v2,v2⟩
 obtain rfl:=cO (show some n'=some eN from fp)
 exact⟨aw.one,by rw[aw.own];exact da,λc I=>dm c (by rw[<-aw.own];exact I),λx M r O g W=>by obtain⟨y,ah,MP⟩:=aw.rows x M r O;exact fx y ah r MP g W⟩
 have XH:=h.out
 have h1:=h.le c b5 I
 have ac:af c=none:=by
  cases e:af c with
  |none=>rfl|some t=>have:=h.out c (by rw[e];simp);rw[I] at this;cases this
 exact ye c b5 (eZ c b5 h1) (js (by rw[ac];simp)) (lr (by rw[ac];simp))
 have Ir:=aR.ok n ae
 refine⟨by rw[en];exact aR.hs,by rw[en];exact aR.AN,λgq fX=>?_,λgq fX=>?_,?_,?_,λeN fp=>?_,λeN fp=>?_,λeN fp=>?_,λeN fp=>?_⟩
 rw[en] at fX;exact aR.ids gq (hT.1 fX).1
 rw[en] at fX ⊢;exact aR.vec gq (hT.1 fX).1
 rw[en];exact jv (Bh _ _) aR.small
 rw[Af]
 have O:=aR.rows
 rw[en]
 unfold lg at O ⊢
 rw[ae] at O
 show n'.bB.all.Perm _
 rw[aw.bB,bF.V7]
 exact O.filter _
 rw[en] at fp ⊢
 obtain rfl:=cO (show some n'=some eN from fp)
 rw[aw.bB]
 exact bF.aeB Ir
 rw[en] at fp
 obtain rfl:=cO (show some n'=some eN from fp)
 rw[aw.bB]
 exact(aR.n1 n ae).del
 rw[en] at fp
 obtain rfl:=cO (show some n'=some eN from fp)
 rw[aw.bB]
 exact(aR.bin n ae).del
 rw[en] at fp ⊢
 obtain rfl:=cO (show some n'=some eN from fp)
 rw[<-au.I9,aw.bB,bF.aeC,au.I9]
 exact cY
def o5{α:Type}:∀{a b:J α},a.Nodup->(∀x∈a,x∈b)->a.length<=b.length/\(b.length<=a.length->a.Perm b)
 | [],b,_,_=>⟨nU _,λh=>by have:b=[]:=ly (by simpa using h);rw[this]⟩|x::a,b,ae,ag=>by
  obtain⟨s,t,rfl⟩:=aa0 (ag x (gh ..));rw[hK] at ae;have fY:∀y∈a,y∈s++t:=λy ah=>by have:=ag y (gd _ ah);rw[cK,cE] at this;rw[cK];rcases this with h|rfl|h;exact .inl h;exact a6 ah ae.1;exact .inr h
  obtain⟨h1,h2⟩:=o5 ae.2 fY;rw[eC] at h1 h2;refine⟨by simp;omega,λar=>?_⟩;have:=h2 (by simp at ar;omega);exact(iL x this).trans xJ.symm
def yX{α β:Type}{f:α->β}:∀{l:J α},(l.map f).Nodup->l.Nodup
 | [],_=>.nil|x::l,h=>by rw[gl,hK] at h;rw[hK];exact⟨λM=>h.1 (hS M),yX h.2⟩
def zn{af:N->ay bu}{T:aT}{K:U->H->Prop}(h:In ai u af b T)(aR:dP T)(aq:∀s ls u',qO u u' s ls->(ls.map av.bi).Perm (bb T)->(ls.Pairwise λa b=>a.id<=b.id)->K s u'):
  adz (some ⟨b,0,none⟩) u K:=by
 have fq:=aR.small
 apply aEf
 refine⟨λe=>(by cases e),λ_=>⟨_,rfl,_,a1 h.aF.cell 4,JQ iJ h.aF.map λr z O wX=>?_⟩⟩
 have jH:=bW (u:=u) (b:=r) z O
 refine⟨λs w=>∃rw:J av,mM w r T.m (ec T.w) (rw.map λx=>(x.id,.slice x.s.a x.s.n x.s.c))/\aD u w 52 2 s (rw.flatMap cB)/\s.aj≠some r/\∀x∈rw,(x.id,(x.s,x.v))∈T.w,λs _=>1000000-s.n,
  ⟨[],wX,aD.nil jH _ _,by simp[U.aj],λx M=>(by cases M)⟩,?_⟩
 rintro s w ⟨rw,iI,ab,pI,kQ⟩
 have dw:s.n=rw.length:=gY eY (by decide) ab.own.cC
 have lq:rw.length<=512:=by have h1:=iI.sub;have h2:=iI.rH;rw[ez] at h2;have h3:(rw.map (·.id)).length<=(T.w.map (·.1)).length:=(o5 h2 λx M=>by obtain⟨y,ah,rfl⟩:=bk.1 M;exact bk.2 ⟨_,kQ y ah,rfl⟩).1;rw[dg,dg] at h3;omega
 refine I2 iI (λhP=>?_) λp hE ad Ao pF=>?_
 have b1:dS w s rw:=⟨ab.own.cC,λx M=>((h.aF.vec _ (kQ x M)).1).mono ab.le⟩
 have kx:(rw.map av.bi).Perm (bb T):=by
  have bY:=iI.rH;rw[ez] at bY;have hlen:=hP.length_eq;simp only[dg,ec] at hlen;have nI:(T.w.map (·.1)).Nodup:=by rw[<-na];exact h.aF.rD
  have gH:∀x∈rw.map av.bi,x∈bb T:=λx M=>by obtain⟨y,ah,rfl⟩:=bk.1 M;exact bk.2 ⟨_,kQ y ah,rfl⟩
  have sQ:(rw.map av.bi).Nodup:=by have:(rw.map (·.id)).Nodup:=bY;rw[show rw.map (·.id)=(rw.map av.bi).map (·.1) by rw[ez];rfl] at this;exact yX this
  exact(o5 sQ gH).2 (by simp[bb];omega)
 refine zo b1 (λx M=>aR.ids _ (kQ x M)) (by omega) (λx M=>?_) λs2 ls c9 oe fg dE=>?_
 have mo:(x.v.length:o)=T.dim:=(aR.vec _ (kQ x M)).1
 have:=aR.hs
 omega
 exact aq s2 ls c9 ⟨oe.own.weaken ab.le,λr O=>(oe.inner r O).weaken ab.le,oe.eu,oe.apart⟩ (fg.trans kx) dE
 obtain⟨e,he,MH⟩:=bk.1 ad
 subst MH
 refine Hr pF ?_
 have dz:aD u (w.ins r hE) 52 2 s (rw.flatMap cB):=ab.xj O pI hE
 refine np ic (wB e.1 e.2.1) (by decide) rfl (by simp[cF]) dz (by show s.n<_;omega) (by show(s.n+1)*_<=_;omega) λap u' bQ hJ fX ev _=>⟨⟨rw++ [⟨e.1,e.2.1,e.2.2⟩],?_,?_,λaC=>?_,λx M=>?_⟩,?_⟩
 rw[dY]
 refine pF.else (λb5 kv=>fX _ _ kv λc0=>?_) λb5 kv=>fX _ _ kv pI
 have:=ab.fresh _ c0
 exact h.known T.m (by rw[h.aF.dh];simp) this
 rw[gU];exact bQ
 rcases ev r aC with a7|a7
 exact pI a7
 rw[bf] at a7;cases a7
 rcases cK.1 M with M|M
 exact kQ x M
 obtain rfl:=fI.1 M
 exact he
 show 1000000-ap.n<1000000-s.n
 omega
def parts(X:aT):J bF:=(X.root.map au.bB).toList
def acH(X:aT)(q:J o)(k aJ:o):mi:=oB q k aJ (parts X)
def iW(X:aT)(q:J o)(k aJ:o):J bP:=xT q k (acH X q k aJ)
def gk(X:aT)(q:J o)(k aJ:o):J o:=dM ((acH X q k aJ).seen.map (·.1))
def jr(X:aT)(q:J o)(k aJ:o):J (o×o×J o×J o×J o):=(nR (acH X q k aJ)).map pu
def FZ(X:aT):bF.jD (parts X)=lg X:=by
 unfold parts lg;cases X.root with
 |none=>rfl|some n=>show n.bB.all++ []=_;rw[kA]
def ach:j9 aH 211=some (167,1,8,[.pointer none]):=by kernel_rfl
def VR(n:N):kp aH 211 1 #[(0,.pointer (some ⟨n,0,none⟩))]=some (167,[.pointer (some ⟨n,0,none⟩)]):=by kernel_rfl
def GG{af:N->ay bu}{T:aT}{t:U}{k aJ:o}{K:U->U->U->o->H->Prop}(h:In ai u af b T)(aR:dP T)(kN:T.eR<=2700)(ht:Ints u t q)
  (dx:h7 q T.dim k aJ≠0->K ⟨none,0,0⟩ ⟨none,0,0⟩ ⟨none,0,0⟩ (h7 q T.dim k aJ) u)
  (bH:h7 q T.dim k aJ=0->∀aG ss bc rest u',jB u u' aG ss bc (iW T q k aJ) (gk T q k aJ) rest->rest.map cp.core=jr T q k aJ->K aG ss bc 0 u'):adA (some ⟨b,0,none⟩) t k aJ u K:=by
 apply aEg
 refine⟨λe=>(by cases e),λ_=>⟨_,rfl,_,a1 h.aF.cell 0,JS ht ⟨λal=>dx al,λhe=>?_⟩⟩⟩
 obtain⟨aA,cx,cS,fV,gf⟩:=D3.1 he
 obtain⟨_,_,xc,Nc⟩:=oA aA
 have bH:=bH he
 have wM:(bF.jD (parts T)).length<=100000:=by rw[FZ,aR.rows.length_eq];have:=aR.small;simp[bb];omega
 have jW:∀x∈bF.jD (parts T),(x.2.length:o)=q.length/\db x.2:=λx M=>by rw[FZ] at M;obtain⟨e,fX,rfl⟩:=bk.1 (aR.rows.mem_iff.1 M);obtain⟨v1,v2⟩:=aR.vec e fX;exact⟨by rw[v1,xc],v2⟩
 have cY:bF.hq (parts T)<=4000000:=by
  unfold parts;cases O:T.root with
  |none=>show 0<=_;omega|some n=>have:=aR.size n O;show n.bB.size+0<=_;rw[au.I9];omega
 have YF:∀p∈parts T,fT q.length p:=λp ad=>by
  unfold parts at ad;cases O:T.root with
  |none=>rw[O] at ad;cases ad
  |some n=>
   rw[O] at ad;obtain rfl:p=n.bB:=by simpa using ad
   rw[xc];exact aR.ok n O
 have walk:∀(s:U) (ms:J N) (Y:H),u.le Y->bt Y s 1 (ms.map λn=>.pointer (some ⟨n,0,none⟩))->ms.length=(parts T).length->(∀(i:N) m p,ms[i]?=some m->(parts T)[i]?=some p->mO Y m p)->DO s t k aJ Y (λnZ Ov fJ qJ=>K nZ Ov fJ 0 qJ):=by intro s ms Y aB ag hlen ad;refine abO ag hlen ad YF (ht.mono aB) Nc cx cS fV gf cY wM jW λaG ss bc R u' aE EF=>bH aG ss bc R u' ?_ EF;exact⟨aE.h.weaken aB,aE.s.weaken aB,aE.r.weaken aB,λr O=>⟨(aE.g r O).l.weaken aB,(aE.g r O).h.weaken aB,(aE.g r O).i.weaken aB⟩,aE.eu⟩
 obtain⟨vL,yG⟩:∃vL:ay ba,vL=T.root.map λn=>⟨n.b,0,none⟩:=⟨_,rfl⟩
 have KI:u.cell? ((cr b 0 none).add 3)=some (.pointer vL):=by rw[yG];exact a1 h.aF.cell 3
 refine⟨_,rfl,vL,KI,λsJ=>?_,λal=>⟨_,rfl,vL,KI,?_⟩⟩
 cases O:T.root with
 |some n=>rw[O] at yG;rw[sJ] at yG;cases yG
 |none=>exact walk ⟨none,0,0⟩ [] u (H.le.refl u) ⟨rfl,cg _,by decide,.inl rfl⟩ (by unfold parts;rw[O];rfl) λi m p hm=>by simp at hm
 cases O:T.root with
 |none=>rw[O] at yG;exact a6 yG al
 |some n=>
  rw[O] at yG;rw[show vL=some ⟨n.b,0,none⟩ from yG];refine l8 (VR n.b) λg W=>?_;obtain⟨cT,_⟩:=h.aF.one n O;have eZ:=bW (u:=u) (b:=g) (.cells [gS (some ⟨n.b,0,none⟩)].toArray 167 (0,0)) W;have mk:=aD.make (k:=1) (H.le.refl u) W (cells:=[gS (some ⟨n.b,0,none⟩)].toArray) (e:=167) (n:=1) (by omega) rfl;refine walk _ [n.b] _ eZ mk.own.cC (by unfold parts;rw[O];rfl) λi m p hm ad=>?_;have hi:i=0:=by have:=(ir.1 hm).1;simpa using this
  subst hi;obtain rfl:n.b=m:=cO hm;have iT:p=n.bB:=by unfold parts at ad;rw[O] at ad;exact(cO ad).symm
  rw[iT];exact(zG.part cT).mono eZ
def O0{X:aT}(h:dP X){k aJ:o}(hk:1<=k)(Z:0<=aJ)(aw:(q.length:o)=X.dim){L:J av}(cL:(L.map av.bi).Perm (bb X))(aO:kH L q){rest:J cp}(O:rest.map cp.core=jr X q k aJ):
  Sound L q k (iW X q k aJ) (gk X q k aJ) rest/\((gk X q k aJ).length:o)<=aJ/\(((gk X q k aJ).length:o)=aJ∨(gk X q k aJ).length=L.length∨zA q k (iW X q k aJ) rest):=by
 refine acI Z hk (λp ad=>?_) aO ?_ O
 unfold parts at ad
 cases cq:X.root with
 |none=>rw[cq] at ad;cases ad
 |some n=>
  rw[cq] at ad;obtain rfl:p=n.bB:=by simpa using ad
  rw[aw];exact h.ok n cq
 rw[FZ]
 exact cL.trans h.rows.symm
def ib(l:J av)(dim a:o):o:=if lz l dim≠0 then lz l dim else if a<1∨64<a then 1 else 0
structure DL(u:H)(l:J av)(hs a:o)(u':H)(dN:N)(af:N->ay bu)(T:aT):Prop where
 is:In u u' af dN T
 ok:dP T
 rows:(bb T).Perm (l.map av.bi)
 dim:T.dim=hs
 leaf:T.leaf=a
 eR:T.eR=0
def wJ(r:av):o×(U×J o):=(r.id,(r.s,r.v))
def OX{n src:N}{a:o}{p vK:ay ba}{m:ay N}(h:u n=some (.cells #[.int .i64 d,.int .i64 a,.pointer (some ⟨src,0,none⟩),.pointer p,.map m] 174 (0,0)))
  (ac:f (u.ins n (.cells #[.int .i64 d,.int .i64 a,.pointer (some ⟨src,0,none⟩),.pointer vK,.map m] 174 (0,0)))):H.aN u (ep (cr n 0 none) 3) [.pointer vK] f:=
 ⟨_,_,h,rfl,by simp[iC],by simp[cF],ac⟩
def OO{l:J av}{dim a seed:o}{K:ay ba->o->H->Prop}(ag:dS u s l)(dx:ib l dim a≠0->K none (ib l dim a) u)
  (bH:ib l dim a=0->∀u' dN af T,DL u l dim a u' dN af T->K (some ⟨dN,0,none⟩) 0 u'):Vq s dim a seed u K:=by
 have bad:∀Y,ib l dim a=Y->Y≠0->K none Y u:=λY e aB=>by subst e;exact dx aB
 apply aD9
 refine JT ag ⟨λal=>bad _ (by unfold ib;rw[aV al]) al,λhe=>?_⟩
 have one:(a<1∨64<a)->K none 1 u:=λI=>bad 1 (by unfold ib;rw[az (by simpa using he),aV I]) (by decide)
 intro nx h2
 refine⟨λh=>one (.inl h),λaa=>⟨λh=>one (.inr h),λa2=>h2 _ _ _ ?_⟩⟩
 have bH:=bH (by unfold ib;rw[az (by simpa using he),az (by omega)])
 clear bad one dx h2 nx
 have ha:=Dj.1 he
 obtain⟨KL,KM⟩:=ha.dim
 have ag7:=ha.len
 apply acA
 intro n6 qn
 obtain⟨tj,Iz⟩:∃tj,tj=u.ins n6 (.cells #[.int .u64 seed] 215 (0,0)):=⟨_,rfl⟩
 have yR:u.le tj:=by rw[Iz];exact bW _ qn
 have d6:tj n6=some (.cells #[.int .u64 seed] 215 (0,0)):=by rw[Iz];exact bf _ _ _
 rw[<-Iz]
 refine GC λm pN hm im=>?_
 have Ak:u m=none:=yR.none hm
 have QX:n6≠m:=λe=>by rw[<-e,d6] at hm;cases hm
 have qt:=bW (u:=tj) (b:=m) pN hm
 obtain⟨iN,rX⟩:∃iN,iN=tj.ins m pN:=⟨_,rfl⟩
 have Mg:iN m≠none:=by rw[rX,bf];simp
 rw[<-rX] at im qt ⊢
 intro n8 nH
 have nJ:n8≠m:=λe=>by rw[e] at nH;exact Mg nH
 have Yq:tj n8=none:=qt.none nH
 have vp:u n8=none:=yR.none Yq
 have Lj:n6≠n8:=λe=>by rw[<-e,d6] at Yq;cases Yq
 obtain⟨lM,q8⟩:∃lM,lM=(bA #[.int .i64 dim,.int .i64 a,.pointer (some ⟨n6,0,none⟩),.pointer none,.map (some m)] 174 (0,0)):=⟨_,rfl⟩
 show rE s (iN.ins n8 (bA #[.int .i64 dim,.int .i64 a,.pointer (some ⟨n6,0,none⟩),.pointer none,.map (some m)] 174 (0,0))) _
 rw[<-q8]
 have rj:=bW (u:=iN) (b:=n8) lM nH
 obtain⟨u8,o1⟩:∃u8,u8=iN.ins n8 lM:=⟨_,rfl⟩
 have tC:u8 n8=some lM:=by rw[o1];exact bf _ _ _
 rw[<-o1] at rj ⊢
 have Cy:u8 m≠none:=λe=>Mg (rj.none e)
 have AQ:u.le u8:=yR.trans (qt.trans rj)
 have d68:u8 n6=some (.cells #[.int .u64 seed] 215 (0,0)):=rj _ _ (qt _ _ d6)
 refine zo (ag.mono AQ) ha.id (by omega) (λr O=>by have:=(ha.v r O).1;omega) λgM ls gV b1 ad oZ=>?_
 have HM:ls.length=l.length:=by simpa using ad.length_eq
 have Aj:gX ls dim:=by refine Dn ha.dim (by omega) ?_ λp iT=>?_;rw[show ls.map (·.id)=(ls.map av.bi).map (·.1) by rw[ez];rfl,(ad.map (·.1)).nodup_iff,ez];exact ha.nodup;obtain⟨r,O,rfl⟩:=bk.1 (ad.mem_iff.1 iT);exact⟨(ha.id r O).1,(ha.id r O).2,(ha.v r O).1,(ha.v r O).2⟩
 have nc:=b1.own.le
 have afy:gM.n=ls.length:=b1.rws.len
 have Aw:gM.aj≠some m:=λe=>Cy (b1.own.fresh m e)
 have MS:gM.aj≠some n8:=λe=>by have:=b1.own.fresh n8 e;rw[tC] at this;cases this
 have fQ:∀r∈ls,r.s.aj≠some m:=λr O e=>Cy ((b1.inner r O).fresh m e)
 have YN:∀r∈ls,r.s.aj≠some n8:=λr O e=>by have:=(b1.inner r O).fresh n8 e;rw[tC] at this;cases this
 have auy:gM.aj≠some n6:=λe=>by have:=b1.own.fresh n6 e;rw[d68] at this;cases this
 have YM:∀r∈ls,r.s.aj≠some n6:=λr O e=>by have:=(b1.inner r O).fresh n6 e;rw[d68] at this;cases this
 refine⟨λx w=>0<=x/\x<=gM.n/\fs w m (ec ((ls.take x.toNat).map wJ))/\(∀c z,gV c=some z->c≠m->w c=some z)/\w m≠none,λx _=>((gM.n:o)-x).toNat,⟨by omega,by omega,(im.mono rj).mono nc,λc z I _=>I,λe=>Cy (nc.none e)⟩,?_⟩
 rintro x w ⟨bG,dy,vn,pC,rQ⟩
 have tD:w n8=some lM:=pC _ _ (nc _ _ tC) nJ
 have aev:w n6=some (.cells #[.int .u64 seed] 215 (0,0)):=pC _ _ (nc _ _ d68) QX
 have rM:dS w gM ls:=⟨bt.else b1.own.own.cC λg z W ab=>pC g z ab λe=>Aw (by rw[W,e]),λr O=>bt.else (b1.inner r O).ints λg z W ab=>pC g z ab λe=>fQ r O (by rw[W,e])⟩
 refine⟨λM=>?_,λM=>?_⟩
 obtain⟨p,jV,r,O,bK,c1,_⟩:=rM.at bG M
 have eO:x.toNat<ls.length:=by omega
 refine⟨p,jV,⟨bG,M⟩,_,bK,_,c1,_,by rw[q8] at tD;exact a1 tD 4,?_⟩
 have al:fN (ec ((ls.take x.toNat).map wJ)) r.id=none:=yj.2 λoi=>by unfold ec at oi;rw[ez,ez] at oi;obtain⟨Y,aB,uf⟩:=bk.1 oi;have ZA:Y.id=r.id:=uf;have bY:=Aj.nodup;rw[<-r6 x.toNat ls,dY,gb] at bY;refine bY.2.2 Y.id (hS aB) r.id (hS ?_) ZA;exact du (i:=0) (by rw[uB,Th];exact O)
 refine Dt iJ vn al λz E3=>⟨⟨by omega,by omega⟩,⟨by omega,by omega,?_,λc b5 I k4=>?_,by rw[bf];simp⟩,by dsimp only;omega⟩
 rw[show(x+1).toNat=x.toNat+1 by omega,gT,O,dY]
 unfold ec at E3 ⊢
 rw[dY]
 exact E3
 rw[bm _ _ k4];exact pC c b5 I k4
 .rw[ho (by omega)] at vn;obtain⟨ub,b9⟩:∃ub,ub=H.no (nm w gM) n6:=⟨_,rfl⟩;have aBj:ub n6=none:=by rw[b9];exact SE _ _
  have O4:∀{c},c≠n6->gM.aj≠some c->ub c=w c:=λh1 h2=>by rw[b9,I3 h1,nn h2]
  have lub:ub.le w:=by rw[b9];exact(NH _ _).trans (Ds _ _)
  have MF:aD ub w 52 2 gM (ls.flatMap cB):=⟨b1.own.own.le λc z I ab=>pC c z ab λe=>Aw (by rw[I,e]),lub,λg W=>by rw[b9];refine(NH _ _).none ?_;unfold nm;exact aV W⟩
  have Bv:ub n8=some lM:=by rw[O4 (dv Lj) MS];exact tD
  have AH:∀r∈ls,Ints ub r.s r.v:=λr O=>bt.else (rM.2 r O) λg z W ab=>by rw[O4 (λe=>YM r O (by rw[W,e])) ((b1.eu r O).symm g W)];exact ab
  have rf:∀r∈ls,∀g,r.s.aj=some g->ub g≠none/\g≠n8/\g≠m/\g≠n6:=λr O g W=>by have aP:g≠m:=λe=>fQ r O (by rw[W,e]);have lp:g≠n6:=λe=>YM r O (by rw[W,e]);refine⟨λe=>?_,λe=>YN r O (by rw[W,e]),aP,lp⟩;obtain⟨z,ab⟩:=e3.1 (dF (b1.inner r O) W);rw[O4 lp ((b1.eu r O).symm g W),pC g z ab aP] at e;cases e
  have Pd:∀c z,u c=some z->w c=some z/\gM.aj≠some c:=λc z I=>⟨pC c z (nc c z (AQ c z I)) (λe=>(by rw[e,Ak] at I;cases I)),λe=>(by have:=b1.own.fresh c e;rw[AQ c z I] at this;cases this)⟩;have DH:u.le ub:=λc z I=>by obtain⟨h1,h2⟩:=Pd c z I;rw[O4 (λe=>by rw[e,qn] at I;cases I) h2];exact h1
  have acv:ub m≠none:=by rw[O4 (dv QX) Aw];exact rQ
  have fin:∀(root:ay au) (oz:H),(∀c z,w c=some z->gM.aj≠some c->c≠n6->oz c=some z)->zJ oz n6->(∀n,root=some n->(∀x∈n.bO,hz oz x)/\n.own.Nodup/\(∀c∈n.own,ub c=none/\oz c≠none/\c≠n6)/\(∀x∈n.bO,∀r∈x.1.rows,r∈ls)/\fT dim n.bB/\lm 3 n.bB/\jC n.bB/\n.bO.length+1<=2*ls.length)->
    (match root with|none=>([]:J jN)|some n=>n.bB.all).Perm (ls.map av.bi)->H.aN oz (ep (cr n8 0 none) 3) [.pointer (root.map λn=>⟨n.b,0,none⟩)] λj4=>K (some ⟨n8,0,none⟩) 0 j4:=by
   intro root oz f1 ae0 f2 f3
   have Lk:oz n8=some lM:=f1 _ _ tD MS (dv Lj)
   rw[q8] at Lk
   refine OX Lk ?_
   obtain⟨T,aR⟩:∃T:aT,T=⟨dim,a,n6,root,m,ls.map wJ,0⟩:=⟨_,rfl⟩
   obtain⟨j4,Fo⟩:∃j4,j4=oz.ins n8 (.cells #[.int .i64 dim,.int .i64 a,.pointer (some ⟨n6,0,none⟩),.pointer (root.map λn=>⟨n.b,0,none⟩),.map (some m)] 174 (0,0)):=⟨_,rfl⟩
   rw[<-Fo]
   have g1:∀c z,oz c=some z->c≠n8->j4 c=some z:=λc z I al=>by rw[Fo,bm _ _ al];exact I
   have AY:∀n,root=some n->n8∉n.own/\m∉n.own/\∀r∈ls,∀g,r.s.aj=some g->g∉n.own:=λn ae=>by obtain⟨_,_,dm,_⟩:=f2 n ae;exact⟨λe=>(by have:=(dm n8 e).1;rw[Bv] at this;cases this),λe=>acv (dm m e).1,λr O g W e=>(rf r O g W).1 (dm g e).1⟩
   obtain⟨af,hI⟩:∃af:N->ay bu,af=λc=>open Classical in if c=n8 then some .tree else if c=m then some .map else if ∃n,root=some n/\c∈n.own then some .node else if ∃r∈ls,r.s.aj=some c then some .vec else if c=n6 then some .src else none:=⟨_,rfl⟩
   have hF:af n8=some .tree:=by rw[hI];exact aV rfl
   have dO:af m=some .map:=by rw[hI];show(if m=n8 then _ else _)=_;rw[az (dv nJ),aV rfl]
   have pa:∀n c,root=some n->c∈n.own->af c=some .node:=λn c ae I=>by obtain⟨aP,aC,_⟩:=AY n ae;rw[hI];show(if c=n8 then _ else _)=_;rw[az (λe=>aP (by rw[<-e];exact I)),az (λe=>aC (by rw[<-e];exact I)),aV ⟨n,ae,I⟩]
   have uv:∀r∈ls,∀g,r.s.aj=some g->af g=some .vec:=λr O g W=>by obtain⟨_,aP,aC,_⟩:=rf r O g W;rw[hI];show(if g=n8 then _ else _)=_;rw[az aP,az aC,az (λ⟨n,ae,I⟩=>(AY n ae).2.2 r O g W I),aV ⟨r,O,W⟩]
   have aax:af n6=some .src:=by rw[hI];show(if n6=n8 then _ else _)=_;rw[az Lj,az QX,az (λ⟨n,ae,I⟩=>((f2 n ae).2.2.1 n6 I).2.2 rfl),az (λ⟨r,O,W⟩=>YM r O W),aV rfl]
   have vL:∀c,af c≠none->c=n8∨c=m∨(∃n,root=some n/\c∈n.own)∨(∃r∈ls,r.s.aj=some c)∨c=n6:=λc I=>by rw[hI] at I;by_cases aP:c=n8;exact .inl aP;by_cases aC:c=m;exact .inr (.inl aC);by_cases c0:∃n,root=some n/\c∈n.own;exact .inr (.inr (.inl c0));by_cases ff:∃r∈ls,r.s.aj=some c;exact .inr (.inr (.inr (.inl ff)));by_cases eX:c=n6;exact .inr (.inr (.inr (.inr eX)));exact a6 (by show(if c=n8 then _ else _)=_;rw[az aP,az aC,az c0,az ff,az eX]) I
   have Pg:∀r∈ls,Ints j4 r.s r.v:=λr O=>bt.else (rM.2 r O) λg z W ab=>g1 g z (f1 g z ab ((b1.eu r O).symm g W) (rf r O g W).2.2.2) (rf r O g W).2.1
   have L3:bb T=ls.map av.bi:=by rw[aR];unfold bb;rw[ez];rfl
   have Li:j4 n8=some (.cells (fe T).toArray 174 (0,0)):=by rw[Fo,bf,aR];rfl
   have Mf:fs j4 m (ec (ls.map wJ)):=vn.else λz ab=>g1 m z (f1 m z ab Aw (dv QX)) (dv nJ)
   refine bH j4 n8 af T ⟨⟨⟨Li,hF,by rw[aR];exact Mf,by rw[aR];exact dO,by rw[aR];exact ae0.elim λst dI=>⟨st,g1 _ _ dI Lj⟩,by rw[aR];exact aax,λe kd=>?_,λn ae=>?_⟩,λc z I=>?_,λc I=>?_,λc I=>?_⟩,⟨by rw[aR];exact⟨KL,KM⟩,by rw[aR];exact⟨by show 1<=a;omega,by show a<=64;omega⟩,λe kd=>?_,λe kd=>?_,by rw[aR];show(ls.map wJ).length<=512;rw[dg];omega,?_,λn ae=>?_,λn ae=>(by rw[aR] at ae;exact(f2 n ae).2.2.2.2.2.1),λn ae=>(by rw[aR] at ae;exact(f2 n ae).2.2.2.2.2.2.1),λn ae=>?_⟩,by rw[L3];exact ad,by rw[aR],by rw[aR],by rw[aR]⟩
   rw[aR] at kd
   obtain⟨r,O,rfl⟩:=bk.1 kd
   exact⟨Pg r O,uv r O⟩
   rw[aR] at ae
   obtain⟨cT,da,dm,fx,_⟩:=f2 n ae
   obtain⟨aP,_,_⟩:=AY n ae
   refine⟨λx M=>(cT x M).bM (λc z I ab=>g1 c z ab λe=>aP (by rw[<-e];exact ee.2 ⟨x,M,I⟩)) λr O=>Pg r (fx x M r O),da,λc I=>pa n c ae I,λx M r O g W=>uv r (fx x M r O) g W⟩
   obtain⟨h1,h3⟩:=Pd c z I
   exact g1 c z (f1 c z h1 h3 λe=>by rw[e,qn] at I;cases I) λe=>by rw[e,vp] at I;cases I
   rcases vL c I with rfl|rfl|⟨n,ae,oR⟩|⟨r,O,oX⟩|rfl
   exact vp
   exact Ak
   exact DH.none ((f2 n ae).2.2.1 c oR).1
   exact AQ.none ((b1.inner r O).fresh c oX)
   exact qn
   rcases vL c I with rfl|rfl|⟨n,ae,oR⟩|⟨r,O,oX⟩|rfl
   rw[Li];simp
   obtain⟨_,_,a7,_⟩:=Mf
   rw[a7];simp
   obtain⟨z,ab⟩:=e3.1 ((f2 n ae).2.2.1 c oR).2.1
   rw[g1 c z ab λe=>(AY n ae).1 (by rw[<-e];exact oR)];simp
   obtain⟨z,ab⟩:=e3.1 (dF (b1.inner r O) oX)
   obtain⟨_,aP,aC,lp⟩:=rf r O c oX
   rw[g1 c z (f1 c z (pC c z ab aC) ((b1.eu r O).symm c oX) lp) aP];simp
   obtain⟨st,dI⟩:=ae0
   rw[g1 c _ dI Lj];simp
   rw[aR] at kd
   obtain⟨r,O,rfl⟩:=bk.1 kd
   exact Aj.id r O
   rw[aR] at kd ⊢
   obtain⟨r,O,rfl⟩:=bk.1 kd
   exact Aj.v r O
   rw[L3,aR]
   exact f3
   rw[aR] at ae ⊢
   exact(f2 n ae).2.2.2.2.1
   rw[aR] at ae ⊢
   have:=(f2 n ae).2.2.2.2.2.2.2
   show n.bO.length<=1100*0+2000
   omega
  rw[q8] at Bv;refine GH (src:=n6) (by omega) (a1 Bv 1) (a1 Bv 2) aBj ⟨_,aev⟩ auy MF AH Aj (λfW u' nL=>?_) λal u' n I=>?_;exact fin none u' (λc z I _ _=>nL c z I) ⟨_,nL _ _ aev⟩ (λn ae=>by cases ae) (by rw[fW];exact .refl _);exact fin (some n) u' (λc z c7 k4 QV=>I.tA c z c7 k4 QV) I.src (λn' hJ=>by obtain rfl:=cO hJ;exact⟨I.one,I.nodup,I.out,I.rows,I.ok,I.n1,I.bin,I.size⟩) I.all
def iF(h:et)(v:J o):et:={h with cH:=if h.cH<fz h.bJ v h.bJ.length then fz h.bJ v h.bJ.length else h.cH}
def VK(fk:h.aG=3)(ad:fT d (au.mk h ks).bB):1<=d/\d<=64/\h.hi=[]/\db h.bJ/\(h.bJ.length:o)=d/\mc h.cH:=by have h1:=ad.kl;rw[au.hn] at h1;obtain⟨aw,_,_,ag⟩:=h1;rcases ag with⟨e,_⟩|⟨e,_⟩|⟨_,e⟩;have:h.aG=1:=e;omega;have:h.aG=2:=e;omega;exact⟨aw.1,aw.2,e.1,e.2.1,e.2.2.1,e.2.2.2⟩
def aqw(h:et)(v:J o):h.cH<=(iF h v).cH/\fz h.bJ v h.bJ.length<=(iF h v).cH:=by unfold iF;by_cases e:h.cH<fz h.bJ v h.bJ.length;simp only[aV e];omega;simp only[az e];omega
def WD(fk:h.aG=3)(ad:fT d (au.mk h ks).bB)(aA:db v)(CK:(v.length:o)=d):fT d (au.mk (iF h v) ks).bB/\mL ((au.mk (iF h v) ks).bB.hp []) v:=by
 obtain⟨d1,d2,LY,gf,gP,wz⟩:=VK fk ad;have h2:=ad.ins;have h3:=ad.kids;rw[au.hn] at h2 h3;obtain⟨g1,g2⟩:=aqw h v;have zU:mc (iF h v).cH:=by unfold iF;by_cases e:h.cH<fz h.bJ v h.bJ.length;simp only[aV e];exact OU gf aA (by omega);simp only[az e];exact wz
 have ZD:mL ((au.mk (iF h v) ks).bB.hp []) v:=by rw[au.hn];refine⟨λe=>?_,λ_=>g2⟩;have:h.aG=2:=e;omega
 refine⟨?_,ZD⟩;rw[au.hn];refine .mk ⟨⟨d1,d2⟩,mE,λx M=>(by cases M),.inr (.inr ⟨fk,LY,gf,gP,zU⟩)⟩ (λx M=>?_) h3;have fF:x∈(bF.mk h.aG h.bJ h.hi h.cH (h.rows.map av.bi) (ks.map au.bB)).all:=M;obtain⟨_,Y⟩:=h2 x fF;refine⟨λe=>?_,λ_=>Int.le_trans (Y fk) g1⟩;have:h.aG=2:=e;omega
def aAt(I:u h.b=some (.cells (eP h).toArray 213 (0,0)))(r:o)
  (ac:f (u.ins h.b (.cells (eP {h with cH:=r}).toArray 213 (0,0)))):H.aN u ((cr h.b 0 none).add 3) [.int .u64 (dk r),.int .u64 (dq r)] f:=by
 exact⟨_,_,I,rfl,by simp[eP,iC],by simp[cF],ac⟩
def abP{sW:J N}{K:o->o->H->Prop}(aA:Ints ub s v)(b9:ub.le u)(iU:hz u (h,sW))(bY:h.dt.Nodup)(hZ:∀c∈h.dt,ub c=none)(RZ:∀r∈h.rows,Ints ub r.s r.v)(yC:db h.bJ)(rf:db v)(h1:h.bJ.length=v.length)(h0:1<=v.length)(CH:mc h.cH)
  (aq:∀x y u',hz u' (iF h v,sW)->(∀c z,u c=some z->c∉h.dt->u' c=some z)->(∀c,u c≠none->u' c≠none)->K x y u'):Vr (some ⟨h.b,0,none⟩) s u K:=by
 have fP:u h.b=some (.cells (eP h).toArray 213 (0,0)):=iU.cell
 apply aEk
 refine⟨_,rfl,h.bo,a1 fP 1,Bm iU.bJ.f.ints (aA.mono b9) yC (by show 1<=h.bJ.length;omega) rf h1 λx y M ah hw=>⟨_,rfl,_,a1 fP 3,_,a1 fP 4,Bn ah (AO _) ?_⟩⟩
 have hw:fi x y=fz h.bJ v h.bJ.length:=hw
 rw[sg,hw]
 by_cases e:h.cH<fz h.bJ v h.bJ.length
 refine⟨λ_=>⟨_,rfl,?_⟩,λae=>a6 ?_ ae⟩
 obtain⟨ex,u7⟩:=BB M ah
 rw[hw] at ex u7
 have W:iF h v={h with cH:=fz h.bJ v h.bJ.length}:=by unfold iF;rw[aV e]
 have key:H.aN u ((cr h.b 0 none).add 3) [.int .u64 (dk (fz h.bJ v h.bJ.length)),.int .u64 (dq (fz h.bJ v h.bJ.length))] λgx=>K x y gx:=by
  refine aAt fP _ ?_;rw[<-W];obtain⟨w,kT⟩:∃w,w=u.ins h.b (.cells (eP (iF h v)).toArray 213 (0,0)):=⟨_,rfl⟩;rw[<-kT];have sB:∀c z,u c=some z->c≠h.b->w c=some z:=λc z I al=>by rw[kT,bm _ _ al];exact I
  have kR:ub.le w:=λc z I=>sB c z (b9 c z I) λe=>by rw[e,hZ h.b (gh ..)] at I;cases I
  have cc:∀g,(h.bo.aj=some g∨h.fl.aj=some g∨h.bc.aj=some g∨h.c8.aj=some g)->g≠h.b:=λg W e=>by unfold et.dt at bY;rw[hK] at bY;refine bY.1 ?_;rw[<-e,cK,cK,cK];rcases W with e|e|e|e;exact .inl (.inl (.inl (by rw[e];simp)));exact .inl (.inl (.inr (by rw[e];simp)));exact .inl (.inr (by rw[e];simp));exact .inr (by rw[e];simp)
  refine aq x y w ⟨?_,iU.bJ.le λc z I ab=>sB c z ab (cc c (.inl I)),iU.hi.le λc z I ab=>sB c z ab (cc c (.inr (.inl I))),iU.rws.le λc z I ab=>sB c z ab (cc c (.inr (.inr (.inl I)))),λr O=>(RZ r O).mono kR,bt.else iU.lJ λc z I ab=>sB c z ab (cc c (.inr (.inr (.inr I))))⟩ (λc z I hm=>sB c z I λe=>hm (by rw[e];exact gh ..)) λc I=>?_;show w h.b=_;rw[kT];exact bf _ _ _;by_cases aC:c=h.b;rw[aC,kT,bf];simp;obtain⟨z,ab⟩:=e3.1 I;rw[sB c z ab aC];simp
 rw[<-ex,<-u7] at key
 exact key
 rw[az (by omega),aV e]
 decide
 have W:iF h v=h:=by unfold iF;rw[az e]
 refine⟨λad=>a6 ad ?_,λ_=>aq x y u (by rw[W];exact iU) (λc z I _=>I) λc I=>I⟩
 rw[az e]
 split<;>decide
structure tp(ai u:H)(af:N->ay bu)(b:N)(T:aT)(id:o)(v:J o)(u':H)(aY:N->ay bu)(bx:aT):Prop where
 is:In ai u' aY b bx
 eQ:hA u af u' aY
 ok:dP bx
 rows:(bb bx).Perm ((id,v)::(bb T).filter λx=>x.1 !=id)
 dim:bx.dim=T.dim
 leaf:bx.leaf=T.leaf
 eR:bx.eR<=T.eR+1
structure DX(aS:H)(af:N->ay bu)(b:N)(T:aT)(id:o)(s:U)(v:J o)(u':H)(r:au):Prop where
 cell:u' b=some (.cells (fe {T with root:=some r}).toArray 174 (0,0))
 map:fs u' T.m (ec (T.w++ [(id,(s,v))]))
 src:∃st,u' T.src=some (.cells #[.int .u64 st] 215 (0,0))
 sv:Ints u' s v
 c8:∀g,s.aj=some g->aS g=none/\u' g≠none
 bM:∀c z,aS c=some z->af c=none∨af c=some .vec->u' c=some z
 kn:∀c,aS c≠none->af c≠some .node->u' c≠none
 one:∀x∈r.bO,hz u' x
 nodup:r.own.Nodup
 own:∀c∈r.own,(af c=some .node∨(aS c=none/\s.aj≠some c))/\u' c≠none
 rws:∀x∈r.bO,∀y∈x.1.rows,∀g,y.s.aj=some g->af g=some .vec∨s.aj=some g
 all:r.bB.all.Perm ((id,v)::lg T)
 ok:fT T.dim r.bB
 n1:lm 3 r.bB
 bin:jC r.bB
 size:r.bO.length<=1100*(T.eR+1)+2000
def DX.abh{aS:H}{af:N->ay bu}{T:aT}{id:o}{r:au}(f:DX aS af b T id s v u' r)(h:In ai aS af b T)(aR:dP T)(b7:1<=id/\id<=1000000000)(aA:(v.length:o)=T.dim/\db v)(ar:T.w.length<512):
  ∃aY bx,In ai u' aY b bx/\hA aS af u' aY/\dP bx/\(bb bx).Perm ((id,v)::bb T)/\bx.dim=T.dim/\bx.leaf=T.leaf/\bx.eR<=T.eR+1:=by
 obtain⟨bx,en⟩:∃bx:aT,bx={T with root:=some r,w:=T.w++ [(id,(s,v))],eR:=T.eR+1}:=⟨_,rfl⟩
 obtain⟨aY,hI⟩:∃aY:N->ay bu,aY=λc=>open Classical in if c∈r.own then some .node else if s.aj=some c then some .vec else if af c=some .node then none else af c:=⟨_,rfl⟩
 have cT:∀c∈r.own,aY c=some .node:=λc I=>by rw[hI];exact aV I
 have da:∀c,s.aj=some c->aY c=some .vec:=λc I=>by
  have ed:c∉r.own:=λhm=>by rcases(f.own c hm).1 with e|e;exact h.known c (by rw[e];simp) (f.c8 c I).1;exact e.2 I
  rw[hI];show(if c∈r.own then _ else _)=_;rw[az ed,aV I]
 have dm:∀c t,af c=some t->t≠.node->aY c=some t:=λc t I ht=>by
  have hk:=h.known c (by rw[I];simp);have ed:c∉r.own:=λhm=>by rcases(f.own c hm).1 with e|e;rw[I] at e;exact ht (cO e);exact hk e.1
  have w6:s.aj≠some c:=λe=>hk (f.c8 c e).1;rw[hI];show(if c∈r.own then _ else _)=_;rw[az ed,az w6,az (by rw[I];exact λe=>ht (cO e)),I]
 have fx:∀c,aY c≠none->c∈r.own∨s.aj=some c∨(af c≠none/\af c≠some .node):=λc I=>by by_cases aP:c∈r.own;exact .inl aP;by_cases aC:s.aj=some c;exact .inr (.inl aC);by_cases c0:af c=some .node;exact a6 (by rw[hI];show(if c∈r.own then _ else _)=_;rw[az aP,az aC,aV c0]) I;refine .inr (.inr ⟨λe=>I ?_,c0⟩);rw[hI];show(if c∈r.own then _ else _)=_;rw[az aP,az aC,az c0,e]
 have aF:=h.aF
 refine⟨aY,bx,⟨⟨by rw[en];exact f.cell,dm _ _ aF.dL (by simp),by rw[en];exact f.map,by rw[en];exact dm _ _ aF.dh (by simp),by rw[en];exact f.src,by rw[en];exact dm _ _ aF.hV (by simp),λe he=>?_,λn ae=>?_⟩,λc z I=>?_,λc I=>?_,λc I=>?_⟩,⟨λc z I ac=>f.bM c z I (.inl ac),λc I=>?_⟩,
  ⟨by rw[en];exact aR.hs,by rw[en];exact aR.AN,λe he=>?_,λe he=>?_,?_,?_,λn ae=>?_,λn ae=>?_,λn ae=>?_,λn ae=>?_⟩,?_,by rw[en],by rw[en],by rw[en];exact cg _⟩
 rw[en] at he
 rcases cK.1 he with he|he
 obtain⟨v1,v2⟩:=aF.vec e he
 exact⟨bt.else v1 λg z W ab=>f.bM g z ab (.inr (v2 g W)),λg W=>dm g _ (v2 g W) (by simp)⟩
 rw[fI.1 he]
 exact⟨f.sv,da⟩
 rw[en] at ae
 obtain rfl:=cO ae
 exact⟨f.one,f.nodup,cT,λx M y ah g W=>(f.rws x M y ah g W).elim (λe=>dm g _ e (by simp)) λe=>da g e⟩
 refine f.bM c z (h.le c z I) (.inl ?_)
 cases e:af c with
 |none=>rfl
 |some t=>have:=h.out c (by rw[e];simp);rw[I] at this;cases this
 rcases fx c I with e|e|e
 rcases(f.own c e).1 with e|e
 exact h.out c (by rw[e];simp)
 exact h.le.none e.1
 exact h.le.none (f.c8 c e).1
 exact h.out c e.1
 rcases fx c I with e|e|e
 exact(f.own c e).2
 exact(f.c8 c e).2
 exact f.kn c (h.known c e.1) e.2
 rcases fx c I with e|e|e
 rcases(f.own c e).1 with e|e
 exact .inl (by rw[e];simp)
 exact .inr e.1
 exact .inr (f.c8 c e).1
 exact .inl e.1
 rw[en] at he
 rcases cK.1 he with he|he
 exact aR.ids e he
 rw[fI.1 he];exact b7
 rw[en] at he ⊢
 rcases cK.1 he with he|he
 exact aR.vec e he
 rw[fI.1 he];exact aA
 rw[en]
 show(T.w++ [(id,(s,v))]).length<=512
 rw[eC]
 simp only[h5,nT]
 omega
 rw[en]
 show r.bB.all.Perm ((T.w++ [(id,(s,v))]).map λe=>(e.1,e.2.2))
 rw[dY]
 exact f.all.trans ((iL _ aR.rows).trans (l5 _ _).symm)
 rw[en] at ae ⊢
 obtain rfl:=cO ae
 exact f.ok
 rw[en] at ae
 obtain rfl:=cO ae
 exact f.n1
 rw[en] at ae
 obtain rfl:=cO ae
 exact f.bin
 rw[en] at ae ⊢
 obtain rfl:=cO ae
 exact f.size
 rw[en]
 show((T.w++ [(id,(s,v))]).map λe=>(e.1,e.2.2)).Perm _
 rw[dY]
 exact l5 _ _
def rG(h:et):h.dt.Perm (h.bc.aj.toList++(h.b::(h.bo.aj.toList++h.fl.aj.toList++h.c8.aj.toList))):=by unfold et.dt;refine Be (iL _ ?_) xJ.symm;generalize h.bo.aj.toList++h.fl.aj.toList=a;generalize h.bc.aj.toList=r;generalize h.c8.aj.toList=k;rw[nf];exact aa4 a r k
def VM(ae:h.dt.Nodup)(rows:J av)(ag:∀g,s.aj=some g->h.bc.aj=some g∨g∉h.dt):({h with bc:=s,rows:=rows}:et).dt.Nodup:=by
 have h1:=(rG h).nodup_iff.1 ae;rw[(rG _).nodup_iff];rw[gb] at h1 ⊢;obtain⟨_,h3,a7⟩:=h1;refine⟨?_,h3,λc I mS c7 e=>?_⟩;show s.aj.toList.Nodup;cases s.aj<;>simp;subst e;have I:s.aj=some c:=by simpa using I
 rcases ag c I with bE|bE;exact a7 c (by rw[bE];simp) c c7 rfl;exact bE ((rG h).mem_iff.2 (lf _ c7))
def Z0(ad:fT d (au.mk h []).bB){id:o}{sv:U}(b4:mL ((au.mk h []).bB.hp []) v):fT d (au.mk {h with bc:=s,rows:=h.rows++ [⟨id,sv,v⟩]} []).bB/\(au.mk {h with bc:=s,rows:=h.rows++ [⟨id,sv,v⟩]} []).bB.all.Perm ((id,v)::(au.mk h []).bB.all):=by
 have aP:(au.mk {h with bc:=s,rows:=h.rows++ [⟨id,sv,v⟩]} []).bB.all=(au.mk h []).bB.all++ [(id,v)]:=by rw[au.s5,au.s5,au.bO,au.bO,au.mw];simp[av.bi]
 have h1:=ad.kl;have h2:=ad.ins;refine⟨.mk h1 (λx M=>?_) λk hk=>(by rw[au.hn] at hk;cases hk),by rw[aP];exact l5 _ _⟩;rw[aP] at M;rcases cK.1 M with M|M;exact h2 x M;rw[fI.1 M];exact b4
def ab8{h1 h2:et}{p:N}(I:u p=some (.cells (eP h1).toArray 213 (0,0)))(ac:f (u.ins p (.cells (eP h2).toArray 213 (0,0)))):
  H.aN u (cr p 0 none) [.int .i64 h2.aG,.slice h2.bo.a h2.bo.n h2.bo.c,.slice h2.fl.a h2.fl.n h2.fl.c,.int .u64 (dk h2.cH),.int .u64 (dq h2.cH),.slice none 0 0,.slice h2.bc.a h2.bc.n h2.bc.c,.slice h2.c8.a h2.c8.n h2.c8.c] f:=
 ⟨_,_,I,rfl,by simp[eP],by simp[cF],by
  have e:wr (eP h1).toArray 0 [.int .i64 h2.aG,.slice h2.bo.a h2.bo.n h2.bo.c,.slice h2.fl.a h2.fl.n h2.fl.c,.int .u64 (dk h2.cH),.int .u64 (dq h2.cH),.slice none 0 0,.slice h2.bc.a h2.bc.n h2.bc.c,.slice h2.c8.a h2.c8.n h2.c8.c]=(eP h2).toArray:=by simp[wr,eP]
  show f (u.ins p (.cells (wr (eP h1).toArray 0 _) _ (0,0)));rw[e];exact ac⟩
def abW{leaf:o}{bN:N->Prop}{n0:au}{aU:J j7}{src:N}{id:o}{sv:U}{Fin:H->Prop}(w:Way 3 ub u d v (λc=>c≠src) bN n0 aU (.mk h []))(Ai:1<=leaf)(qI:ub.cell? ((cr b 0 none).add 1)=some (.int .i64 leaf))(ca:ub.cell? ((cr b 0 none).add 2)=some (.pointer (some ⟨src,0,none⟩)))(ra:∃st,u src=some (.cells #[.int .u64 st] 215 (0,0)))(HR:jC (mC aU (.mk h [])).bB)
  (Iw:Ints ub sv v) (ha:gX (h.rows++ [⟨id,sv,v⟩]) d) (b4:mL ((au.mk h []).bB.hp []) v) (tL:∀u' r,Down 3 ub u' d (id,v) (λc=>c≠src) (λy=>∀g,y.s.aj=some g->bN g∨sv.aj=some g) n0 r 1100->jC r.bB->(∃st,u' src=some (.cells #[.int .u64 st] 215 (0,0)))->Fin u'):
  (c4 aH (dA 22 1 #[(0,(cV #[(cG ci id),(dX sv.a sv.n sv.c)]))]) [(bj.one aK.slice)] u (λ(Bj:U) (GP:H)=>(H.le u GP)/\(c4 aH (dW #[22,22] 22 #[(dX h.bc.a h.bc.n h.bc.c),(dX Bj.a Bj.n Bj.c)]) [(bj.one aK.slice)] GP (λ(Gx:U) (u64:H)=>∃Oh:ba,((some (cr h.b 0 none))=(some Oh))/\(H.aN u64 (ep Oh 6) [(dX Gx.a Gx.n Gx.c)] (λ(hx:H)=>∃Oi:ba,((some (cr h.b 0 none))=(some Oi))/\(∃Oj:ba,((some (cr b 0 none))=(some Oj))/\(∃xO:U,((H.cell? hx (ep Oi 6))=(some (dX xO.a xO.n xO.c)))/\(∃GY:o,((H.cell? hx (ep Oj 1))=(some (cG ci GY)))/\(((GY<(xO.n:o))->∃Ol:ba,((some (cr h.b 0 none))=(some Ol))/\(∃xP:U,((H.cell? hx (ep Ol 6))=(some (dX xP.a xP.n xP.c)))/\(G4 (some (cr b 0 none)) xP hx (λ(aay:(ay ba)) (j5:H)=>∃pg:ba,(aay=(some pg))/\(∃Pn:o,((H.cell? j5 pg)=(some (cG ci Pn)))/\(∃uM:U,((H.cell? j5 (ep pg 1))=(some (dX uM.a uM.n uM.c)))/\(∃uN:U,((H.cell? j5 (ep pg 2))=(some (dX uN.a uN.n uN.c)))/\(∃Po:o,((H.cell? j5 (ep pg 3))=(some (cG bR Po)))/\(∃Pp:o,((H.cell? j5 (ep pg 4))=(some (cG bR Pp)))/\(∃uO:U,((H.cell? j5 (ep pg 5))=(some (dX uO.a uO.n uO.c)))/\(∃uP:U,((H.cell? j5 (ep pg 6))=(some (dX uP.a uP.n uP.c)))/\(∃qF:U,((H.cell? j5 (ep pg 7))=(some (dX qF.a qF.n qF.c)))/\(∃Om:ba,((some (cr h.b 0 none))=(some Om))/\(H.aN j5 Om [(cG ci Pn),(dX uM.a uM.n uM.c),(dX uN.a uN.n uN.c),(cG bR Po),(cG bR Pp),(dX uO.a uO.n uO.c),(dX uP.a uP.n uP.c),(dX qF.a qF.n qF.c)] (λ(n3:H)=>Fin n3)))))))))))))))/\((¬(GY<(xO.n:o)))->Fin hx))))))))))):=by
 obtain⟨iU,bY,hZ,k6,fk⟩:=w.head
 obtain⟨alN,R3⟩:=ra
 have O3:ub src=none:=by
  cases e:ub src with
  |none=>rfl|some z=>exact a6 rfl (w.known src (by rw[e];simp))
 have pY:src∉h.dt:=λhm=>(hZ src hm).2.2 rfl
 have fP:u h.b=some (.cells (eP h).toArray 213 (0,0)):=iU.cell
 have hO:aD ub u 52 2 h.bc (h.rows.flatMap cB):=⟨iU.rws,w.base,λg W=>(hZ g (by simp[et.dt,W])).1⟩
 have dw:h.bc.n=h.rows.length:=gY eY (by decide) hO.own.cC
 have lq:=ha.len
 rw[eC] at lq
 simp only[h5,nT] at lq
 have aO:h.bc.aj≠some h.b:=λe=>by have h1:=(rG h).nodup_iff.1 bY;rw[gb] at h1;exact h1.2.2 h.b (by rw[e];simp) h.b (gh ..) rfl
 have Fc:∀g,(h.bo.aj=some g∨h.fl.aj=some g∨h.c8.aj=some g)->g∈h.dt/\g≠h.b/\h.bc.aj≠some g:=λg W=>by
  have h1:=(rG h).nodup_iff.1 bY;rw[gb] at h1;have h2:g∈h.bo.aj.toList++h.fl.aj.toList++h.c8.aj.toList:=by rw[cK,cK];rcases W with e|e|e;exact .inl (.inl (by rw[e];simp));exact .inl (.inr (by rw[e];simp));exact .inr (by rw[e];simp)
  exact⟨(rG h).mem_iff.2 (lf _ (gd _ h2)),λe=>(hK.1 h1.2.1).1 (by rw[<-e];exact h2),λe=>h1.2.2 g (by rw[e];simp) g (gd _ h2) rfl⟩
 refine zl ic (wB id sv) (by decide) rfl (by simp[cF]) hO (by omega) (by rw[dw];show(h.rows.length+1)*_<=_;omega) λap u64 bQ hJ fX ev _=>?_
 have bQ:aD ub u64 52 2 ap ((h.rows++ [(⟨id,sv,v⟩:av)]).flatMap cB):=by rw[gU];exact bQ
 have rU:ap.aj≠some h.b:=λe=>by rcases ev _ e with e|e;exact aO e;rw[fP] at e;cases e
 have Xz:u64 h.b=some (.cells (eP h).toArray 213 (0,0)):=fX _ _ fP aO
 refine⟨_,rfl,TS Xz ap (h.rows++ [⟨id,sv,v⟩]) ?_⟩
 obtain⟨g1,ik⟩:∃g1:et,g1={h with bc:=ap,rows:=h.rows++ [⟨id,sv,v⟩]}:=⟨_,rfl⟩
 have K6:g1.b=h.b:=by rw[ik]
 rw[<-ik]
 obtain⟨hx,Fp⟩:∃hx,hx=u64.ins h.b (.cells (eP g1).toArray 213 (0,0)):=⟨_,rfl⟩
 rw[<-Fp]
 have wD:hx h.b=some (.cells (eP g1).toArray 213 (0,0)):=by rw[Fp];exact bf _ _ _
 have f66:∀c z,u64 c=some z->c≠h.b->hx c=some z:=λc z I al=>by rw[Fp,bm _ _ al];exact I
 have Ef:∀c z,u c=some z->c≠h.b->h.bc.aj≠some c->hx c=some z:=λc z I h2 h3=>f66 c z (fX c z I h3) h2
 have vD:h.b∈h.dt:=gh ..
 have yT:∀{g},h.bc.aj=some g->g∈h.dt:=λ{g} e=>by simp[et.dt,e]
 have wG:∀c z,u c=some z->c∉h.dt->hx c=some z:=λc z I hm=>Ef c z I (λe=>hm (by rw[e];exact vD)) λe=>hm (yT e)
 have AE:ub.le hx:=λc z I=>wG c z (w.base c z I) λhm=>by rw[(hZ c hm).1] at I;cases I
 have FY:aD ub hx 52 2 ap ((h.rows++ [(⟨id,sv,v⟩:av)]).flatMap cB):=⟨bQ.own.le λc z I ab=>f66 c z ab λe=>rU (by rw[<-e];exact I),AE,bQ.fresh⟩
 have KG:hx.cell? ((cr h.b 0 none).add 6)=some (.slice ap.a ap.n ap.c):=by
  have:g1.bc=ap:=by rw[ik]
  have mq:hx.cell? ((cr h.b 0 none).add 6)=some (.slice g1.bc.a g1.bc.n g1.bc.c):=a1 wD 6;rw[this] at mq;exact mq
 have r0:(au.mk h []).own=h.dt:=by unfold au.own;rw[au.bO,au.mw];simp
 have rY:∀r∈h.rows++ [(⟨id,sv,v⟩:av)],Ints ub r.s r.v/\∀g,r.s.aj=some g->bN g∨sv.aj=some g:=λr O=>by rcases cK.1 O with O|O;exact⟨(k6 r O).1,λg W=>.inl ((k6 r O).2 g W)⟩;rw[fI.1 O];exact⟨Iw,λg W=>.inr W⟩
 refine⟨_,rfl,_,rfl,ap,KG,leaf,H.le.cell AE qI,λ_=>?_,λ_=>?_⟩
 have abu:hx src=some (.cells #[.int .u64 alN] 215 (0,0)):=wG _ _ R3 pY
 have OL:ap.aj≠some src:=λe=>by rcases ev _ e with e|e;exact pY (yT e);rw[R3] at e;cases e
 obtain⟨mH,oq⟩:∃mH:H,mH=λc=>if c=src then none else nm hx ap c:=⟨_,rfl⟩
 have Bw:∀{c},c≠src->mH c=nm hx ap c:=λ{c} I=>by rw[oq];exact az I
 have amt:mH src=none:=by rw[oq];exact aV rfl
 have aBq:mH.le hx:=λc z I=>by by_cases e:c=src;rw[e,amt] at I;cases I;rw[Bw e] at I;exact Ds _ _ c z I
 have AR:ub.le mH:=λc z I=>by rw[Bw (λe=>by rw[e,O3] at I;cases I),nn (λe=>by rw[bQ.fresh c e] at I;cases I)];exact AE c z I
 refine⟨_,rfl,ap,KG,GH (ub:=mH) (src:=src) Ai (H.le.cell AR qI) (H.le.cell AR ca) amt ⟨_,abu⟩ OL ⟨FY.own,aBq,λg W=>by rw[Bw (λe=>OL (by rw[<-e];exact W))];exact aV W⟩ (λr O=>((rY r O).1).mono AR) ha (λe=>a6 e (by simp)) λ_ j5 eN I=>?_⟩
 obtain⟨bV,dG⟩:=eN
 have oV:=I.one (bV,dG.map au.b) (by rw[au.bO];exact gh ..)
 have lG:j5 bV.b=some (.cells (eP bV).toArray 213 (0,0)):=oV.cell
 refine⟨_,rfl,_,a1 lG 0,bV.bo,a1 lG 1,bV.fl,a1 lG 2,_,a1 lG 3,_,a1 lG 4,⟨none,0,0⟩,a1 lG 5,bV.bc,a1 lG 6,bV.c8,a1 lG 7,_,rfl,?_⟩
 have VW:j5 h.b=some (.cells (eP g1).toArray 213 (0,0)):=I.tA _ _ wD rU (λe=>pY (by rw[<-e];exact vD))
 refine ab8 (h2:=bV) VW ?_
 obtain⟨g2,gQ⟩:∃g2:et,g2={bV with b:=h.b}:=⟨_,rfl⟩
 have Wi:eP bV=eP g2:=by rw[gQ];rfl
 rw[Wi]
 obtain⟨n3,AD⟩:∃n3,n3=j5.ins h.b (.cells (eP g2).toArray 213 (0,0)):=⟨_,rfl⟩
 rw[<-AD]
 have qT:∀c z,j5 c=some z->c≠h.b->n3 c=some z:=λc z c7 al=>by rw[AD,bm _ _ al];exact c7
 have Al:h.b∉(au.mk bV dG).own:=λhm=>by have:=(I.out _ hm).1;rw[Bw (λe=>pY (by rw[<-e];exact vD)),nn rU,wD] at this;cases this
 have AX:(au.mk bV dG).own=bV.b::((bV.bo.aj.toList++bV.fl.aj.toList++bV.bc.aj.toList++bV.c8.aj.toList)++dG.flatMap au.own):=by rw[au.rm];rfl
 have NP:(au.mk g2 dG).own=h.b::((bV.bo.aj.toList++bV.fl.aj.toList++bV.bc.aj.toList++bV.c8.aj.toList)++dG.flatMap au.own):=by rw[au.rm,gQ];rfl
 have EG:(au.mk g2 dG).bO=(g2,dG.map au.b)::au.mw dG:=by rw[au.bO]
 have wS:(au.mk bV dG).bO=(bV,dG.map au.b)::au.mw dG:=by rw[au.bO]
 have C4:(au.mk g2 dG).bB=(au.mk bV dG).bB:=by rw[au.hn,au.hn,gQ];rfl
 have nI:=I.nodup
 have acd:∀c∈(au.mk g2 dG).own,c=h.b∨c∈(au.mk bV dG).own:=λc cJ=>by rw[NP] at cJ;rcases cE.1 cJ with e|e;exact .inl e;exact .inr (by rw[AX];exact gd _ e)
 have KU:∀c z,u c=some z->c≠src->c∉(au.mk h []).own->n3 c=some z:=λc z c7 w6 hm=>by rw[r0] at hm;refine qT c z (I.tA c z (wG c z c7 hm) (λe=>?_) w6) λe=>hm (by rw[e];exact vD);rcases ev c e with e|e;exact hm (yT e);rw[c7] at e;cases e
 have M8:ub.le n3:=λc z c7=>KU c z (w.base c z c7) (λe=>by rw[e,O3] at c7;cases c7) λhm=>by rw[r0] at hm;rw[(hZ c hm).1] at c7;cases c7
 have ZP:∀{x:et×J N},hz j5 x->(∀c∈x.1.dt,c≠h.b)->(∀r∈x.1.rows,r∈h.rows++ [(⟨id,sv,v⟩:av)])->hz n3 x:=λM Z O=>M.bM (λc z cJ ab=>qT c z ab (Z c cJ)) λr fQ=>((rY r (O r fQ)).1).mono M8
 refine tL n3 _ ?rH (SK aU (n':=.mk g2 dG) HR (by rw[C4];exact I.bin)) (I.src.elim λst dI=>⟨st,qT _ _ dI λe=>pY (by rw[e];exact vD)⟩)
 refine(Way.down w (n':=.mk g2 dG) (by rw[show(au.mk g2 dG).b=g2.b from rfl,gQ];rfl) (λx M=>?_) ?_ (λc z c7 w6 hm=>KU c z c7 w6 hm) (λc cJ=>?_) (λx M y ah=>?_) (λy ah g W=>.inl (ah g W)) ?_ (by rw[C4];exact I.ok) (by rw[C4];exact I.n1) ?_)
 rw[EG] at M
 rcases cE.1 M with rfl|M
 have aB:∀g,(bV.bo.aj=some g∨bV.fl.aj=some g∨bV.bc.aj=some g∨bV.c8.aj=some g)->g≠h.b:=λg W e=>Al (by rw[AX,<-e];refine gd _ (iY _ ?_);rw[cK,cK,cK];rcases W with e|e|e|e;exact .inl (.inl (.inl (by rw[e];simp)));exact .inl (.inl (.inr (by rw[e];simp)));exact .inl (.inr (by rw[e];simp));exact .inr (by rw[e];simp))
 have Ff:∀r∈bV.rows,r∈h.rows++ [(⟨id,sv,v⟩:av)]:=λr O=>I.rows (bV,dG.map au.b) (by rw[wS];exact gh ..) r O
 rw[gQ]
 refine⟨?_,oV.bJ.le λc z kr ab=>qT c z ab (aB c (.inl kr)),oV.hi.le λc z kr ab=>qT c z ab (aB c (.inr (.inl kr))),oV.rws.le λc z kr ab=>qT c z ab (aB c (.inr (.inr (.inl kr)))),λr O=>((rY r (Ff r O)).1).mono M8,bt.else oV.lJ λc z kr ab=>qT c z ab (aB c (.inr (.inr (.inr kr))))⟩
 show n3 h.b=_
 rw[AD,bf,gQ]
 have fF:x∈(au.mk bV dG).bO:=by rw[wS];exact gd _ M
 exact ZP (I.one x fF) (λc cJ e=>Al (by rw[<-e];exact ee.2 ⟨x,fF,cJ⟩)) (I.rows x fF)
 rw[NP,hK]
 rw[AX,hK] at nI
 exact⟨λhm=>Al (by rw[AX];exact gd _ hm),nI.2⟩
 rcases acd c cJ with rfl|cJ
 exact⟨.inl (by rw[r0];exact vD),by rw[AD,bf];simp⟩
 obtain⟨cT,da,dm⟩:=I.out c cJ
 rw[Bw dm] at cT
 refine⟨?_,?_⟩
 by_cases e:ap.aj=some c
 rcases ev c e with e|e
 exact .inl (by rw[r0];exact yT e)
 exact .inr ⟨e,dm⟩
 rw[nn e] at cT
 cases M:u c with
 |none=>exact .inr ⟨rfl,dm⟩
 |some z=>left;rw[r0];by_cases hm:c∈h.dt;exact hm;rw[wG c z M hm] at cT;cases cT
 obtain⟨z,ab⟩:=e3.1 da
 rw[qT c z ab (λe=>Al (by rw[<-e];exact cJ))];simp
 rw[EG] at M
 rcases cE.1 M with rfl|M
 exact(rY y (I.rows (bV,dG.map au.b) (by rw[wS];exact gh ..) y (by rw[gQ] at ah;exact ah))).2
 exact(rY y (I.rows x (by rw[wS];exact gd _ M) y ah)).2
 rw[C4]
 refine I.all.trans ?_
 rw[dY,au.s5,au.bO,au.mw]
 simp only[gB,Gh,kA]
 exact l5 _ _
 have:=I.size
 rw[wS] at this
 rw[EG]
 rw[eC] at this
 simp only[h5,nT] at this ⊢
 omega
 have ar:=Z0 (id:=id) (sv:=sv) (s:=ap) (I8 aU w.ok) b4
 rw[<-ik] at ar
 have NI:(au.mk g1 []).own=g1.dt:=by unfold au.own;rw[au.bO,au.mw];simp
 have FT:(au.mk g1 []).bO=[(g1,[])]:=by rw[au.bO,au.mw];rfl
 have Z9:∀c∈g1.dt,c=h.b∨(h.bo.aj=some c∨h.fl.aj=some c∨h.c8.aj=some c)∨ap.aj=some c:=λc I=>by rw[ik] at I;have I:=(rG _).mem_iff.1 I;rcases cK.1 I with I|I;exact .inr (.inr (by simpa using I));rcases cE.1 I with I|I;exact .inl I;rw[cK,cK] at I;rcases I with(I|I)|I;exact .inr (.inl (.inl (by simpa using I)));exact .inr (.inl (.inr (.inl (by simpa using I))));exact .inr (.inl (.inr (.inr (by simpa using I))))
 refine tL hx _ ?aE3 (SK aU (n':=.mk g1 []) HR (Qe (.inl rfl) λk hk=>(by cases hk))) ⟨alN,wG _ _ R3 pY⟩
 refine(Way.down w (n':=.mk g1 []) K6 (λx M=>?_) ?_ (λc z I _ hm=>wG c z I (by rw[<-r0];exact hm)) (λc I=>?_) (λx M y ah=>?_) (λy ah g W=>.inl (ah g W)) ar.2 ar.1 ?_ (by rw[FT];show 1<=_;have:=(au.mk h []).Rq;omega))
 rw[FT,fI] at M
 subst M
 have cx:∀{s:U} {c:N} {z:Obj},(h.bo.aj=some c∨h.fl.aj=some c∨h.c8.aj=some c)->u c=some z->hx c=some z:=λ{s c z} I ab=>Ef c z ab (Fc c I).2.1 (Fc c I).2.2
 refine⟨by show hx g1.b=_;rw[K6];exact wD,?_,?_,?_,λr O=>?_,?_⟩
 rw[ik];exact iU.bJ.le λc z I ab=>cx (s:=h.bo) (.inl I) ab
 rw[ik];exact iU.hi.le λc z I ab=>cx (s:=h.bo) (.inr (.inl I)) ab
 rw[ik];exact FY.own
 rw[ik] at O;exact((rY r O).1).mono AE
 rw[ik];exact bt.else iU.lJ λc z I ab=>cx (s:=h.bo) (.inr (.inr I)) ab
 rw[NI,ik]
 refine VM bY _ λg W=>(ev g W).imp (λe=>e) λe hm=>(hZ g hm).2.1 e
 rw[NI] at I
 rw[r0]
 rcases Z9 c I with rfl|I|I
 exact⟨.inl vD,by rw[wD];simp⟩
 obtain⟨cT,da,dm⟩:=Fc c I
 obtain⟨z,ab⟩:=e3.1 (hZ c cT).2.1
 exact⟨.inl cT,by rw[Ef c z ab da dm];simp⟩
 exact⟨(ev c I).imp yT (λe=>⟨e,λaC=>by rw[aC,R3] at e;cases e⟩),dF FY I⟩
 rw[FT,fI] at M
 subst M
 exact(rY y (by rw[ik] at ah;exact ah)).2
 rw[au.hn]
 refine .mk ?_ λk hk=>(by cases hk)
 show g1.aG=3
 rw[ik]
 exact fk
structure Vu(ai u:H)(af:N->ay bu)(b:N)(T:aT)(id:o)(u':H)(aY:N->ay bu)(bx:aT):Prop where
 is:In ai u' aY b bx
 eQ:hA u af u' aY
 ok:dP bx
 rows:bb bx=(bb T).filter λx=>x.1 !=id
 dim:bx.dim=T.dim
 leaf:bx.leaf=T.leaf
 eR:bx.eR=T.eR
 no:id∉bx.w.map (·.1)
 u9:bx.w.length<512
def abL{af:N->ay bu}{T:aT}{id:o}(h:In ai u af b T)(aR:dP T)(kN:T.eR<=4000)(sM:id∉T.w.map (·.1)->T.w.length<512)
  (aq:∀dD u' aY bx,Vu ai u af b T id u' aY bx->K dD 0 u'):PW (some ⟨b,0,none⟩) id u K:=by
 refine wa h aR kN (λed aS gI=>aq _ aS af T ⟨h.mono bM gI,hA.mono gI,aR,?_,rfl,rfl,rfl,ed,sM ed⟩) λb4 aS cZ a8 O=>aq _ aS cZ a8 ⟨O.is,O.eQ,O.ok,O.rows,O.dim,O.leaf,O.eR,?_,?_⟩
 refine(pS.2 λx M=>?_).symm
 have:x.1≠id:=λe=>ed (by rw[<-na];exact bk.2 ⟨x,M,e⟩)
 simpa using this
 rw[<-na,O.rows]
 intro hm
 obtain⟨p,ad,e⟩:=bk.1 hm
 have:=(hT.1 ad).2
 simp[e] at this
 have ag:=aR.small
 have aP:a8.w.length=(bb a8).length:=by simp[bb]
 have aC:T.w.length=(bb T).length:=by simp[bb]
 rw[<-na] at b4
 obtain⟨p,ad,e⟩:=bk.1 b4
 have:((bb T).filter λp=>p.1 !=id).length<(bb T).length:=Oc.2 ⟨p,ad,by simp[e]⟩
 rw[O.rows] at aP
 omega
def _root_.Go.Proofs.YtejdhbfjjgcljaaGreatDoor.hz.mono{x:et×J N}(h:hz u x)(hu:u.le u'):hz u' x:=h.bM (λc z _ ab=>hu c z ab) λr O=>(h.vec r O).mono hu
def _root_.Go.Proofs.YtejdhbfjjgcljaaGreatDoor.Way.mono{aG:o}{lB bN:N->Prop}{n0:au}{aU:J j7}{n:au}(w:Way aG ub u d v lB bN n0 aU n)(hu:u.le u'):Way aG ub u' d v lB bN n0 aU n:=
 ⟨w.base.trans hu,λx M=>(w.one x M).mono hu,w.nodup,λc I=>(λY=>⟨Y.1,λe=>Y.2.1 (hu.none e),Y.2.2⟩) (w.out c I),w.known,w.vec,w.ok,w.ins,w.box,w.all,w.len,w.b⟩
def alO{n:N}{id:o}(h:u n=some (.cells #[.int .i64 0,.slice none 0 0] 52 (0,0)))(ac:f (u.ins n (.cells #[.int .i64 id,.slice s.a s.n s.c] 52 (0,0)))):
  H.aN u (cr n 0 none) [.int .i64 id,.slice s.a s.n s.c] f:=⟨_,_,h,rfl,by simp,by simp[cF],ac⟩
def NC:∀{l:J N} {x:N},x∈l->x<=l.sum
 |y::l,x,h=>by rw[List.sum_cons];rcases cE.1 h with rfl|h;omega;have:=NC h;omega
def ZS{i:N}(hi:i<ks.length):ks[i].bO.length<(au.mk h ks).bO.length:=by rw[au.bO,au.HY,h5,List.length_flatMap];have:ks[i].bO.length<=(ks.map λk=>k.bO.length).sum:=NC (bk.2 ⟨ks[i],kk hi,rfl⟩);omega
def Dx{af:N->ay bu}{T:aT}{id:o}{t:U}(h:In ai u af b T)(aR:dP T)(kN:T.eR<=4000)(ht:Ints u t q)(oS:∀aS cZ,ai.le aS->hA u af aS cZ->Ints aS t q)
  (dx:fr id q T.dim (decide (id∈(bb T).map (·.1))) (bb T).length≠0->K ax (fr id q T.dim (decide (id∈(bb T).map (·.1))) (bb T).length) u)
  (bH:fr id q T.dim (decide (id∈(bb T).map (·.1))) (bb T).length=0->∀u' aY bx,tp ai u af b T id q u' aY bx->K (decide (id∉(bb T).map (·.1))) 0 u'):ady (some ⟨b,0,none⟩) id t u K:=by
 apply aEe
 refine⟨λe=>(by cases e),λ_=>⟨_,rfl,_,a1 h.aF.cell 4,?_⟩⟩
 obtain⟨y,ah,iA⟩:∃y:U,(fN (ec T.w) id).getD (.slice none 0 0)=aK.slice.enc y/\(fN (ec T.w) id).isSome=decide (id∈(bb T).map (·.1)):=by rw[na];rcases sD T.w id with⟨W,hm⟩|⟨e,he,b7,W⟩;exact⟨⟨none,0,0⟩,by rw[W];rfl,by rw[W,nY hm];rfl⟩;exact⟨e.2.1,by rw[W];rfl,by rw[W,lP (bk.2 ⟨e,he,b7⟩)];rfl⟩
 refine tf iJ h.aF.map (ct:=.slice) y ah ?_
 rw[iA]
 refine⟨_,rfl,_,rfl,_,a1 h.aF.cell 0,_,a1 h.aF.cell 4,v7 iJ h.aF.map ⟨H.le.refl u,JU ht ?_⟩⟩
 rw[KW]
 refine⟨λal=>dx al,λhe=>?_⟩
 have bH:=bH he
 obtain⟨d1,d2,xh,d4⟩:1<=id/\id<=1000000000/\gn q T.dim=0/\(decide (id∈(bb T).map (·.1))=ax->((bb T).length:o)<512):=by unfold fr at he;split at he;cases he;rename_i h1;split at he;rename_i h2;exact a6 he h2;rename_i h2;split at he;cases he;rename_i h3;refine⟨by omega,by omega,by simpa using h2,λe=>?_⟩;by_cases a7:((bb T).length:o)<512;exact a7;exact a6 ⟨e,by omega⟩ h3
 obtain⟨aP,aC,c0,ff⟩:=oA xh
 have Z:(!decide (decide (id∈(bb T).map (·.1))=ak))=decide (id∉(bb T).map (·.1)):=by by_cases b4:id∈(bb T).map (·.1)<;>simp[b4]
 have eH:∀Y:H,K (decide (id∉(bb T).map (·.1))) 0 Y->K (!decide (decide (id∈(bb T).map (·.1))=ak)) 0 Y:=λY aB=>by rw[Z];exact aB
 refine abL h aR kN (λed=>?_) λ_ aS cZ a8 W=>?_
 have:=d4 (nY (by rw[na];exact ed))
 have eX:T.w.length=(bb T).length:=by simp[bb]
 omega
 have i1:=W.is
 have lb:=W.ok
 have q1:=oS aS cZ i1.le W.eQ
 intro anz Et
 suffices go:∀(cc:N) (dp:U) (gC:H),aS cc=none->dp.aj≠some cc->aD aS gC 3 1 dp (q.flatMap encI)->gC cc=some (.cells #[.int .i64 id,.slice dp.a dp.n dp.c] 52 (0,0))->anz ⟨cc,0,none⟩ gC by
  have agd:t.n<=1099511627776:=by have:=q1.len;omega
  refine⟨sc q1 agd λdp gC fE _=>⟨fE.le,λn ae=>⟨fE.le.trans (bW _ ae),alO (bf _ _ _) ?_⟩⟩,λn ae=>⟨bW _ ae,sc (q1.mono (bW _ ae)) agd λdp gC fE _=>⟨(bW _ ae).trans fE.le,alO (fE.le _ _ (bf _ _ _)) ?_⟩⟩⟩;rw[IH];exact go n dp _ (fE.le.none ae) (λe=>dF fE e ae) (fE.mono (bW _ ae)) (bf _ _ _);have al:dp.aj≠some n:=λe=>by have:=fE.fresh n e;rw[bf] at this;cases this
  have ab:aD aS gC 3 1 dp (q.flatMap encI):=fE.weaken (bW _ ae);exact go n dp _ ae al ⟨ab.own.le λc z I M=>by rw[bm _ _ (λe=>al (by rw[I,e]))];exact M,λc z I=>by rw[bm _ _ (λe=>by rw[e,ae] at I;cases I)];exact ab.le c z I,ab.fresh⟩ (bf _ _ _)
 intro cc dp gC vo aF8 fE V9
 refine Et _ _ ?_
 have ui:=fE.le
 have aF:=(mf.mono bM i1 ui).aF
 refine⟨_,rfl,_,a1 aF.cell 4,_,a1 V9 0,dp,a1 V9 1,Dt iJ aF.map (yj.2 (by unfold ec;rw[ez];exact W.no)) λpN im=>?_⟩
 obtain⟨e5,AA⟩:∃e5,e5=gC.ins a8.m pN:=⟨_,rfl⟩
 rw[<-AA] at im ⊢
 have m20:e5 a8.m=some pN:=by rw[AA];exact bf _ _ _
 have nD:∀c z,gC c=some z->c≠a8.m->e5 c=some z:=λc z I al=>by rw[AA,bm _ _ al];exact I
 have js:∀{c},cZ c≠some .map->c≠a8.m:=λI e=>I (by rw[e];exact aF.dh)
 have n20:∀{c},e5 c=none->aS c=none/\dp.aj≠some c:=λ{c} I=>by
  have al:c≠a8.m:=λe=>by rw[e,m20] at I;cases I
  have wL:gC c=none:=by rw[AA,bm _ _ al] at I;exact I
  exact⟨ui.none wL,λe=>dF fE e wL⟩
 have smap:∀g,dp.aj=some g->aS g=none/\g≠a8.m:=λg cb=>⟨fE.fresh g cb,λe=>by have:=i1.known a8.m (by rw[aF.dh];simp);rw[<-e] at this;exact this (fE.fresh g cb)⟩
 have Mh:fs e5 a8.m (ec (a8.w++ [(id,(dp,q))])):=by
  have:ec (a8.w++ [(id,(dp,q))])=ec a8.w++ [(id,.slice dp.a dp.n dp.c)]:=by simp[ec]
  rw[this];exact im
 have Bq:Ints e5 dp q:=bt.else fE.ints λg z cb ab=>nD g z ab (smap g cb).2
 have b3:∀{c},cZ c≠none->c≠cc:=λI e=>i1.known _ I (by rw[e];exact vo)
 have d20:e5 cc=some (.cells #[.int .i64 id,.slice dp.a dp.n dp.c] 52 (0,0)):=nD _ _ V9 (b3 (c:=a8.m) (by rw[aF.dh];simp)).symm
 obtain⟨st,dI⟩:=aF.src
 have Gv:e5 a8.src=some (.cells #[.int .u64 st] 215 (0,0)):=nD _ _ dI (js (by rw[aF.hV];simp))
 have ab4:dp.aj≠some a8.src:=λe=>i1.known a8.src (by rw[aF.hV];simp) (smap _ e).1
 have OV:a8.src≠b:=λe=>by have:=aF.hV;rw[e,aF.dL] at this;cases this
 have TQ:a8.src≠a8.m:=λe=>by have:=aF.hV;rw[e,aF.dh] at this;cases this
 have nB:e5 b=some (.cells (fe a8).toArray 174 (0,0)):=nD _ _ aF.cell (js (by rw[aF.dL];simp))
 have al6:e5.cell? ((cr b 0 none).add 1)=some (.int .i64 a8.leaf):=a1 nB 1
 have aGG:e5.cell? ((cr b 0 none).add 2)=some (.pointer (some ⟨a8.src,0,none⟩)):=a1 nB 2
 have CF:(q.length:o)=a8.dim:=by rw[W.dim];exact c0
 have fin:∀u' r,DX aS cZ b a8 id dp q u' r->K (!decide (decide (id∈(bb T).map (·.1))=ak)) 0 u':=λu' r ac=>by obtain⟨aY,bx,f1,f2,f3,f4,f5,f6,f7⟩:=ac.abh i1 lb ⟨d1,d2⟩ ⟨CF,ff⟩ W.u9;refine eH _ (bH u' aY bx ⟨f1,W.eQ.trans f2,f3,by rw[<-W.rows];exact f4,f5.trans W.dim,f6.trans W.leaf,by rw[<-W.eR];exact f7⟩)
 have MN:∀l:J av,((l.map av.bi).Perm ((id,q)::lg a8)∨∃m:J jN,((l.map av.bi)++m).Perm ((id,q)::lg a8))->gX l a8.dim:=λl ar=>by
  obtain⟨m,hm⟩:∃m:J jN,((l.map av.bi)++m).Perm ((id,q)::lg a8):=ar.elim (λh=>⟨[],by rw[kA];exact h⟩) λh=>h;have fg:((l.map av.bi)++m).Perm ((id,q)::bb a8):=hm.trans (iL _ lb.rows);have bY:(((id,q)::bb a8).map (·.1)).Nodup:=by rw[gl,hK];exact⟨by rw[na];exact W.no,i1.aF.rD⟩
  have hlen:=fg.length_eq;have sM:=W.u9;simp only[eC,dg,h5,bb] at hlen;refine Dn lb.hs (by omega) ?_ λp ad=>?_;have:=(fg.map (·.1)).nodup_iff.2 bY;rw[dY,gb] at this;rw[show l.map (·.id)=(l.map av.bi).map (·.1) by rw[ez];rfl];exact this.1;rcases cE.1 (fg.mem_iff.1 (iY _ ad)) with rfl|ad;exact⟨d1,d2,CF,ff⟩;obtain⟨e,fX,rfl⟩:=bk.1 ad;exact⟨(lb.ids e fX).1,(lb.ids e fX).2,lb.vec e fX⟩
 cases kP:a8.root with
 |none=>
  have tI:e5.cell? ((cr b 0 none).add 3)=some (.pointer none):=by
   have M:fe a8=[.int .i64 a8.dim,.int .i64 a8.leaf,.pointer (some ⟨a8.src,0,none⟩),.pointer none,.map (some a8.m)]:=by simp[fe,kP]
   rw[M] at nB;exact a1 nB 3
  have wN:lg a8=[]:=by unfold lg;rw[kP]
  refine⟨_,rfl,none,tI,λ_=>⟨_,a1 d20 0,dp,a1 d20 1,?_⟩,λal=>a6 rfl al⟩;refine l8 (wB id dp) λg pE=>?_;obtain⟨AW,MC⟩:∃AW,AW=(bA [cG .i64 id,.slice dp.a dp.n dp.c].toArray 52 (0,0)):=⟨_,rfl⟩;rw[<-MC];have Sq:e5.le (e5.ins g AW):=bW _ pE;obtain⟨mH,oq⟩:∃mH,mH=H.no e5 a8.src:=⟨_,rfl⟩;have AR:mH.le e5:=by rw[oq];exact NH _ _
  have Bw:∀{c},c≠a8.src->mH c=e5 c:=λI=>by rw[oq];exact I3 I
  have mU:aD mH (e5.ins g AW) 52 2 ⟨some ⟨g,0,none⟩,1,1⟩ (([⟨id,dp,q⟩]:J av).flatMap cB):=by rw[MC];exact(aD.make (H.le.refl e5) pE (cells:=[cG .i64 id,.slice dp.a dp.n dp.c].toArray) (n:=1) (by omega) rfl).weaken AR
  have V5:mH b=some (.cells (fe a8).toArray 174 (0,0)):=by rw[Bw (dv OV)];exact nB
  have aAE:Ints mH dp q:=bt.else Bq λc z I M=>by rw[Bw (λe=>ab4 (by rw[I,e]))];exact M
  refine GH (ub:=mH) (src:=a8.src) (by have:=lb.AN;omega) (a1 V5 1) (a1 V5 2) (by rw[oq];exact SE _ _) ⟨st,Sq _ _ Gv⟩ (λe=>by
   have:g=a8.src:=by simpa[U.aj] using e
   rw[this,Gv] at pE;cases pE) mU (λr O=>by rw[fI.1 O];exact aAE) (MN _ (.inl (by rw[wN];exact .refl _))) (λe=>by cases e) λ_ p3 eN I=>?_
  have Wz:g≠b:=λe=>by rw[e,nB] at pE;cases pE
  have rZ:∀c z,e5 c=some z->c≠a8.src->p3 c=some z:=λc z c7 w6=>I.tA c z (Sq c z c7) (λe=>by
   have:g=c:=by simpa[U.aj] using e
   rw[this,c7] at pE;cases pE) w6
  have B1:p3 b=some (.cells #[.int .i64 a8.dim,.int .i64 a8.leaf,.pointer (some ⟨a8.src,0,none⟩),.pointer none,.map (some a8.m)] 174 (0,0)):=by have:=rZ _ _ nB (dv OV);rw[show fe a8=[.int .i64 a8.dim,.int .i64 a8.leaf,.pointer (some ⟨a8.src,0,none⟩),.pointer none,.map (some a8.m)] by simp[fe,kP]] at this;exact this
  refine⟨_,rfl,OX B1 ?_⟩;obtain⟨xV,AB⟩:∃xV,xV=p3.ins b (.cells #[.int .i64 a8.dim,.int .i64 a8.leaf,.pointer (some ⟨a8.src,0,none⟩),.pointer (some ⟨eN.b,0,none⟩),.map (some a8.m)] 174 (0,0)):=⟨_,rfl⟩;rw[<-AB];have o2:∀c z,p3 c=some z->c≠b->xV c=some z:=λc z c7 al=>by rw[AB,bm _ _ al];exact c7
  have KE:b∉eN.own:=λe=>by have:=(I.out b e).1;rw[V5] at this;cases this
  have tv:a8.m≠b:=λe=>by have h1:=aF.dh;rw[e,aF.dL] at h1;cases h1
  have fS:∀bX,dp.aj=some bX->bX≠b:=λbX cb e=>by have:=i1.known b (by rw[aF.dL];simp);rw[<-e] at this;exact this (smap bX cb).1
  have Nn:∀c z,aS c=some z->c≠a8.m->c≠b->c≠a8.src->xV c=some z:=λc z c7 h1 h2 h3=>o2 c z (rZ c z (nD c z (ui c z c7) h1) h3) h2;have ss:∀{bX},dp.aj=some bX->bX≠a8.src:=λcb e=>ab4 (by rw[cb,e]);refine fin xV eN ⟨?_,Mh.else λz ab=>o2 _ z (rZ _ z ab (dv TQ)) tv,I.src.elim λn2 vu=>⟨n2,o2 _ _ vu OV⟩,bt.else Bq λbX z cb ab=>o2 bX z (rZ bX z ab (ss cb)) (fS bX cb),λbX cb=>⟨(smap bX cb).1,?_⟩,λc z c7 ac=>?_,λc c7 ac=>?_,λx M=>?_,I.nodup,λc c7=>?_,λx M r O bX cb=>?_,?_,I.ok,I.n1,I.bin,?_⟩;rw[AB,bf];rfl;obtain⟨z,ab⟩:=e3.1 (dF fE cb);rw[o2 bX z (rZ bX z (nD bX z ab (smap bX cb).2) (ss cb)) (fS bX cb)];simp;refine Nn c z c7 (js ?_) (λe=>?_) λe=>by rw[e,aF.hV] at ac;rcases ac with ac|ac<;>cases ac
  rcases ac with ac|ac<;>rw[ac]<;>simp;rw[e,aF.dL] at ac;rcases ac with ac|ac<;>cases ac;by_cases h1:c=a8.m;rw[h1,o2 _ _ (rZ _ _ m20 (dv TQ)) tv];simp;by_cases h2:c=b;rw[h2,AB,bf];simp;by_cases h3:c=a8.src;obtain⟨n2,vu⟩:=I.src;rw[h3,o2 _ _ vu OV];simp;obtain⟨z,ab⟩:=e3.1 c7;rw[Nn c z ab h1 h2 h3];simp;refine(I.one x M).bM (λc z cJ ab=>o2 c z ab λe=>KE (by rw[<-e];exact ee.2 ⟨x,M,cJ⟩)) λr O=>?_;rw[fI.1 (I.rows x M r O)];exact bt.else Bq λbX z cb ab=>o2 bX z (rZ bX z ab (ss cb)) (fS bX cb);obtain⟨cT,da,dm⟩:=I.out c c7;rw[Bw dm] at cT;obtain⟨z,ab⟩:=e3.1 da;exact⟨.inr (n20 cT),by rw[o2 c z ab (λe=>KE (by rw[<-e];exact c7))];simp⟩;rw[fI.1 (I.rows x M r O)] at cb;exact .inr cb;rw[wN];exact I.all;have:=I.size;simp only[h5,nT] at this;omega
 |some n0=>
  obtain⟨cT,da,dm,fx⟩:=aF.one n0 kP;have tI:e5.cell? ((cr b 0 none).add 3)=some (.pointer (some ⟨n0.b,0,none⟩)):=by
   have M:fe a8=[.int .i64 a8.dim,.int .i64 a8.leaf,.pointer (some ⟨a8.src,0,none⟩),.pointer (some ⟨n0.b,0,none⟩),.map (some a8.m)]:=by simp[fe,kP]
   rw[M] at nB;exact a1 nB 3
  have wN:lg a8=n0.bB.all:=by unfold lg;rw[kP]
  obtain⟨ub,b9⟩:∃ub:H,ub=λc=>open Classical in if c∈n0.own∨c=a8.src then none else e5 c:=⟨_,rfl⟩;have xW:∀{c},c∈n0.own->ub c=none:=λI=>by rw[b9];exact aV (.inl I)
  have O3:ub a8.src=none:=by rw[b9];exact aV (.inr rfl)
  have gm:∀{c},c∉n0.own->c≠a8.src->ub c=e5 c:=λI ag=>by rw[b9];exact az (λe=>e.elim I ag)
  have lub:ub.le e5:=λc b5 I=>by by_cases e:c∈n0.own;rw[xW e] at I;cases I;by_cases aC:c=a8.src;rw[aC,O3] at I;cases I;rw[gm e aC] at I;exact I
  have lr:∀{c},cZ c≠some .node->c∉n0.own:=λI e=>I (dm _ e);have ON:∀g,dp.aj=some g->g∉n0.own:=λg cb e=>i1.known g (by rw[dm g e];simp) (smap g cb).1;have OL:∀{g},dp.aj=some g->g≠a8.src:=λcb e=>ab4 (by rw[cb,e]);have sw:ub b=some (.cells (fe a8).toArray 174 (0,0)):=by rw[gm (lr (by rw[aF.dL];simp)) (dv OV)];exact nB
  have awG:cc∉n0.own:=λe=>b3 (by rw[dm cc e];simp) rfl;have awH:cc≠a8.src:=λe=>b3 (c:=a8.src) (by rw[aF.hV];simp) e.symm;have aew:ub cc=some (.cells #[.int .i64 id,.slice dp.a dp.n dp.c] 52 (0,0)):=by rw[gm awG awH];exact d20
  have Br:Ints ub dp q:=bt.else Bq λg z cb ab=>by rw[gm (ON g cb) (OL cb)];exact ab
  have KQ:∀c z,gC c=some z->cZ c≠some .map->cZ c≠some .node->cZ c≠some .src->ub c=some z:=λc z I h1 h2 h3=>by rw[gm (lr h2) (λe=>h3 (by rw[e];exact aF.hV))];exact nD c z I (js h1)
  have Nb:∀x∈n0.bO,∀r∈x.1.rows,Ints ub r.s r.v:=λx M r O=>bt.else ((cT x M).vec r O) λg z cb ab=>KQ g z ab (by rw[fx x M r O g cb];simp) (by rw[fx x M r O g cb];simp) (by rw[fx x M r O g cb];simp);have wk:Way 3 ub e5 a8.dim q (λc=>c≠a8.src) (λg=>cZ g=some .vec) n0 [] n0:=by refine Way.start lub (λc I e=>I (by rw[e];exact O3)) (λx M=>(cT x M).bM (λc z I ab=>nD c z ab (js ?_)) λr O=>(Nb x M r O).mono lub) da (λc I=>⟨xW I,?_,λe=>by have:=dm c I;rw[e,aF.hV] at this;cases this⟩) (λx M r O=>⟨Nb x M r O,λg cb=>fx x M r O g cb⟩) (lb.ok n0 kP) (lb.n1 n0 kP);rw[dm c (ee.2 ⟨x,M,I⟩)];simp;have hk:=i1.known c (by rw[dm c I];simp);obtain⟨z,ab⟩:=e3.1 hk;rw[nD c z (ui c z ab) (js (by rw[dm c I];simp))];simp
  refine⟨_,rfl,_,tI,λe=>(by cases e),λ_=>⟨_,rfl,_,tI,?_⟩⟩
  let At:ay ba->H->N->Prop:=λp w f=>∃aU n,p=some ⟨n.b,0,none⟩/\Way 3 ub w a8.dim q (λc=>c≠a8.src) (λg=>cZ g=some .vec) n0 aU n/\zJ w a8.src/\jC (mC aU n).bB/\n.bO.length=f
  refine⟨λp w=>∃f,At p w f,λp w=>least (At p w),⟨_,[],n0,rfl,wk,⟨st,Gv⟩,lb.bin n0 kP,rfl⟩,λNS lR cA=>?_⟩;have mT:=FL cA;generalize LR:least (At NS lR)=f at mT;obtain⟨aU,n,ad,w,⟨st1,eb⟩,HR,atN⟩:=mT;obtain⟨e2,ks⟩:=n;obtain rfl:NS=some ⟨e2.b,0,none⟩:=ad;obtain⟨iU,bY,hZ,k6,fk⟩:=w.head;have sT:=I8 aU w.ok;obtain⟨KL,KM,_,ad6,aou,aov⟩:=VK fk sT;have Qp:∀{Y:H},ub.le Y->Y.cell? ((cr cc 0 none).add 1)=some (.slice dp.a dp.n dp.c):=λaB=>a1 (aB _ _ aew) 1;refine⟨dp,Qp w.base,abP Br w.base iU bY (λc I=>(hZ c I).1) (λr O=>(k6 r O).1) ad6 ff (by omega) (by omega) aov λ_ _ hc E9 eB jF=>?_⟩;obtain⟨Le,Er⟩:=WD (ks:=ks) fk sT ff CF;have tk:Way 3 ub hc a8.dim q (λc=>c≠a8.src) (λg=>cZ g=some .vec) n0 aU (.mk (iF e2 q) ks):=w.eQ rfl rfl rfl E9 eB jF Le;have akq:zJ hc a8.src:=⟨st1,eB _ _ eb λhm=>(hZ _ hm).2.2 rfl⟩;have ad4:jC (mC aU (.mk (iF e2 q) ks)).bB:=SK aU HR (by obtain⟨gf,gP⟩:=ad5 (Qf aU HR);exact Qe gf gP)
  have Hk:hc e2.b=some (.cells (eP (iF e2 q)).toArray 213 (0,0)):=E9.cell;have wE:∀{Y:H},hc.le Y->Y.cell? ((cr e2.b 0 none).add 7)=some (.slice e2.c8.a e2.c8.n e2.c8.c):=λaB=>a1 (aB _ _ Hk) 7;have rV:bt hc e2.c8 1 ((ks.map au.b).map λn=>.pointer (some ⟨n,0,none⟩)):=E9.lJ;have YW:e2.c8.n=ks.length:=by have:=rV.len;simpa using this.symm
  refine⟨_,rfl,e2.c8,wE (H.le.refl _),λh0=>?_,λh0=>?_⟩;obtain rfl:ks=[]:=ly (by omega);refine⟨_,rfl,e2.bc,a1 Hk 6,_,a1 (tk.base _ _ aew) 0,dp,Qp tk.base,?_⟩;refine abW (h:=iF e2 q) tk (by have:=lb.AN;omega) (a1 sw 1) (a1 sw 2) akq ad4 Br (MN _ (.inr ?_)) Er λu' r aw e7 ra=>fin u' r ?_;refine⟨(jq aU e2.b).flatMap λx=>x.1.rows.map av.bi,?_⟩;have eX:=(I7 aU (.mk e2 [])).symm.trans w.all;rw[wN];have lp:(au.mk e2 []).bB.all=e2.rows.map av.bi:=by rw[au.s5,au.bO,au.mw];simp
  rw[lp] at eX;rw[dY];refine(List.Perm.append_right _ (l5 _ _)).trans ?_;exact iL _ eX;have cP:fe {a8 with root:=some r}=fe a8:=by simp[fe,kP,aw.b]
  refine⟨by rw[cP];exact aw.le _ _ sw,?_,ra,Br.mono aw.le,λg cb=>⟨(smap g cb).1,?_⟩,λc z I ac=>?_,λc I ac=>?_,aw.one,aw.nodup,λc I=>⟨?_,(aw.own c I).2⟩,λx M y ah g cb=>aw.rws x M y ah g cb,by rw[wN];exact aw.all,aw.ok,aw.n1,e7,?_⟩;exact Mh.else λz ab=>aw.le _ _ (by rw[gm (lr (by rw[aF.dh];simp)) (dv TQ)];exact ab);obtain⟨z,ab⟩:=e3.1 (dF fE cb);rw[aw.le g z (by rw[gm (ON g cb) (OL cb)];exact nD g z ab (smap g cb).2)];simp;exact aw.le c z (KQ c z (ui c z I) (by rcases ac with ac|ac<;>rw[ac]<;>simp) (by rcases ac with ac|ac<;>rw[ac]<;>simp) (by rcases ac with ac|ac<;>rw[ac]<;>simp));by_cases h1:c=a8.m;rw[h1,aw.le _ _ (by rw[gm (lr (by rw[aF.dh];simp)) (dv TQ)];exact m20)];simp;by_cases h2:c=a8.src;obtain⟨n2,vu⟩:=ra;rw[h2,vu];simp;obtain⟨z,ab⟩:=e3.1 I;rw[aw.le c z (by rw[gm (lr ac) h2];exact nD c z (ui c z ab) h1)];simp;obtain⟨h1,h2⟩:=(aw.own c I).1;by_cases hm:c∈n0.own;exact .inl (dm c hm);rw[gm hm h2] at h1;exact .inr (n20 h1);have h1:=aw.size;have h2:=lb.size n0 kP;omega;have hC:ks.length=2:=(ad5 (Qf aU HR)).1.resolve_left λe=>h0 (by omega);have lJ:∀(i:N) (hi:i<ks.length),hz hc (ks[i].h,ks[i].kids.map au.b)/\db ks[i].h.bJ/\(ks[i].h.bJ.length:o)=a8.dim:=λi hi=>by
   have k3:(ks[i].h,ks[i].kids.map au.b)∈(au.mk (iF e2 q) ks).bO++jq aU (au.mk (iF e2 q) ks).b:=by rw[au.bO,au.HY];refine iY _ (gd _ (ee.2 ⟨ks[i],kk hi,?_⟩));rw[au.ij];exact gh ..
   have h3:=Le.kids ks[i].bB (by rw[au.hn];exact hS (kk hi));have hk:ks[i]=.mk ks[i].h ks[i].kids:=by cases ks[i];rfl
   rw[hk] at h3;obtain⟨_,_,_,jc,z2,_⟩:=VK (show ks[i].h.aG=3 from tk.box _ k3) h3;exact⟨tk.one _ k3,jc,z2⟩
  obtain⟨a0,ED,oQ⟩:=Ja rV (i:=0) (by simp;omega);obtain⟨aa,Cn,iy⟩:=Ja rV (i:=1) (by simp;omega);obtain rfl:aa=a0:=by rw[ED] at Cn;exact(cO Cn).symm
  rw[Di] at oQ iy;have agi:hc.cell? (ep aa 0)=some (.pointer (some ⟨(ks[0]'(by omega)).b,0,none⟩)):=by simpa using oQ
  have agj:hc.cell? (ep aa 1)=some (.pointer (some ⟨(ks[1]'(by omega)).b,0,none⟩)):=by simpa using iy
  have aiR:∀(i:N) (hi:i<ks.length) {Y:H},hc.le Y->Y.cell? ((cr ks[i].b 0 none).add 1)=some (.slice ks[i].h.bo.a ks[i].h.bo.n ks[i].h.bo.c):=λi hi Y aB=>by have CV:hc ks[i].b=some (.cells (eP ks[i].h).toArray 213 (0,0)):=(lJ i hi).1.cell;exact a1 (aB _ _ CV) 1
  have Qx:∀(i:N) (hi:i<ks.length) {Y:H} {Q:o->o->o->H->Prop},hc.le Y->(∀x y,dn x->dn y->Q x y 0 Y)->rF ks[i].h.bo dp Y Q:=λi hi Y Q aB e6=>by obtain⟨cx,cS,nM⟩:=lJ i hi;exact Bm (cx.bJ.f.ints.mono aB) (Br.mono (tk.base.trans aB)) cS (by show 1<=ks[i].h.bJ.length;omega) ff (by show ks[i].h.bJ.length=q.length;omega) λx y M ah _=>e6 x y M ah
  have on:∀(i:N) (hi:i<ks.length) (Y:H),hc.le Y->(∃f,At (some ⟨ks[i].b,0,none⟩) Y f)/\least (At (some ⟨ks[i].b,0,none⟩) Y)<least (At (some ⟨e2.b,0,none⟩) lR):=λi hi Y aB=>by
   have oT:ks=ks.take i++ks[i]::ks.drop (i+1):=by rw[<-s9 hi,r6]
   have aED:=tk.mono aB;have hw:Way 3 ub Y a8.dim q (λc=>c≠a8.src) (λg=>cZ g=some .vec) n0 (⟨iF e2 q,ks.take i,ks.drop (i+1)⟩::aU) ks[i]:=by refine Way.lJ (by rw[<-oT];exact aED) ?_;rw[au.hn] at Er;exact Er
   have jS:jC (mC (⟨iF e2 q,ks.take i,ks.drop (i+1)⟩::aU) ks[i]).bB:=by show jC (mC aU (.mk (iF e2 q) (ks.take i++ks[i]::ks.drop (i+1)))).bB;rw[<-oT];exact ad4
   have bC:=ZS (h:=e2) hi;have qZ:At (some ⟨ks[i].b,0,none⟩) Y ks[i].bO.length:=⟨_,_,rfl,hw,akq.elim λa b=>⟨a,aB _ _ b⟩,jS,rfl⟩;refine⟨⟨_,qZ⟩,?_⟩;have:=least_le qZ;rw[LR];omega
  intro anI aqL;have two:∀(fa:N) (x y:o) (Y:H),dn y->hc.le Y->Y fa=some (.cells [cG .u64 x,.int .u64 y].toArray 66 (0,0))->anI ⟨fa,0,none⟩ Y:=by
   intro fa x y Y ah aB aeF;refine aqL _ _ ?_;intro anJ aqM;have cmp:∀(C0:N) (nt mI:o) (fj:H),dn mI->Y.le fj->fj C0=some (.cells [cG .u64 nt,.int .u64 mI].toArray 66 (0,0))->anJ ⟨C0,0,none⟩ fj:=by intro C0 nt mI fj jX AJ aeG;have HB:=aB.trans AJ;refine aqM _ _ ⟨_,a1 (AJ _ _ aeF) 0,_,a1 (AJ _ _ aeF) 1,_,a1 aeG 0,_,a1 aeG 1,Bn ah jX ⟨λ_=>?_,λ_=>?_⟩⟩;exact⟨_,rfl,e2.c8,wE HB,aa,ED,⟨by omega,by omega⟩,_,H.le.cell HB agi,on 0 (by omega) fj HB⟩;exact⟨_,rfl,e2.c8,wE HB,aa,ED,⟨by omega,by omega⟩,_,H.le.cell HB agj,on 1 (by omega) fj HB⟩
   refine⟨_,rfl,e2.c8,wE aB,aa,ED,⟨by omega,by omega⟩,_,H.le.cell aB agj,_,rfl,_,aiR 1 (by omega) aB,dp,Qp (tk.base.trans aB),?_,λn ae=>⟨bW _ ae,?_⟩⟩;exact Qx 1 (by omega) aB λnt mI _ jX n ae=>⟨bW _ ae,mG (zs:=[.int .u64 0,.int .u64 0]) rfl (by simp[cF]) (cmp n nt mI _ jX (bW _ ae) (bf _ _ _))⟩;exact Qx 1 (by omega) (aB.trans (bW _ ae)) λnt mI _ jX=>mG (zs:=[.int .u64 0,.int .u64 0]) rfl (by simp[cF]) (cmp n nt mI _ jX (bW _ ae) (bf _ _ _))
  refine⟨_,rfl,e2.c8,wE (H.le.refl _),aa,ED,⟨by omega,by omega⟩,_,agi,_,rfl,_,aiR 0 (by omega) (H.le.refl _),dp,Qp tk.base,?_,λn ae=>⟨bW _ ae,?_⟩⟩;exact Qx 0 (by omega) (H.le.refl _) λnt mI _ jX n ae=>⟨bW _ ae,mG (zs:=[.int .u64 0,.int .u64 0]) rfl (by simp[cF]) (two n nt mI _ jX (bW _ ae) (bf _ _ _))⟩;exact Qx 0 (by omega) (bW _ ae) λnt mI _ jX=>mG (zs:=[.int .u64 0,.int .u64 0]) rfl (by simp[cF]) (two n nt mI _ jX (bW _ ae) (bf _ _ _))
end
end lE
namespace jm
inductive bu where
 |tree|yb|tx|nP|list (i:N)|vec|map
structure aT where
 dim:o
 kX:U
 cs:J (U×J o)
 bo:U
 ls:J (U×J av)
 m:N
 w:J (o×N)
def aT.cj(T:aT):J (J o):=T.cs.map (·.2)
def fe(T:aT):J ao:=[.int .i64 T.dim,.slice T.kX.a T.kX.n T.kX.c,.slice T.bo.a T.bo.n T.bo.c,.map (some T.m)]
def p4(w:J (o×N)):J (o×ao):=w.map λx=>(x.1,.int .i64 x.2)
structure BN(u:H)(s:U)(l:J av):Prop where
 cC:bt u s 2 (l.flatMap cB)
 own:Own u 52 2 s (l.flatMap cB)∨s.n=s.c
structure ef(af:N->ay bu)(u:H)(b:N)(T:aT):Prop where
 cell:u b=some (.cells (fe T).toArray 178 (0,0))
 dL:af b=some .tree
 yb:bt u T.kX 1 (T.cs.flatMap λc=>encS c.1)
 u3:∀g,T.kX.aj=some g->af g=some .yb
 tx:∀(i:N) c,T.cs[i]?=some c->Ints u c.1 c.2/\∀g,c.1.aj=some g->af g=some .tx
 nP:Own u 22 1 T.bo (T.ls.flatMap λl=>encS l.1)
 qs:∀g,T.bo.aj=some g->af g=some .nP
 list:∀i l,T.ls[i]?=some l->BN u l.1 l.2/\(∀g,l.1.aj=some g->af g=some (.list i))/\∀r∈l.2,Ints u r.s r.v/\∀g,r.s.aj=some g->af g=some .vec
 map:fs u T.m (p4 T.w)
 dh:af T.m=some .map
def BN.bM{u u':H}{s:U}{l:J av}(h:BN u s l)(hu:∀c z,s.aj=some c->u c=some z->u' c=some z):BN u' s l:=
 ⟨bt.else h.cC λg z W ab=>hu g z W ab,h.own.imp (λab=>ab.le λb z Z b9=>hu b z Z b9) id⟩
def ef.bM{af aY:N->ay bu}{u u':H}{b:N}{T:aT}(h:ef af u b T)(ac:∀c,af c≠none->aY c=af c)(hu:∀c z,u c=some z->af c≠none->u' c=some z):ef aY u' b T where
 cell:=hu _ _ h.cell (by rw[h.dL];simp)
 dL:=by rw[ac _ (by rw[h.dL];simp)];exact h.dL
 yb:=bt.else h.yb λg z W ab=>hu g z ab (by rw[h.u3 g W];simp)
 u3 g W:=by rw[ac _ (by rw[h.u3 g W];simp)];exact h.u3 g W
 tx i c I:=⟨bt.else (h.tx i c I).1 λg z W ab=>hu g z ab (by rw[(h.tx i c I).2 g W];simp),λg W=>by rw[ac _ (by rw[(h.tx i c I).2 g W];simp)];exact(h.tx i c I).2 g W⟩
 nP:=h.nP.le λg z W ab=>hu g z ab (by rw[h.qs g W];simp)
 qs g W:=by rw[ac _ (by rw[h.qs g W];simp)];exact h.qs g W
 list i l ar:=by obtain⟨h1,h2,h3⟩:=h.list i l ar;refine⟨h1.bM λg z W ab=>hu g z ab (by rw[h2 g W];simp),λg W=>by rw[ac _ (by rw[h2 g W];simp)];exact h2 g W,λr O=>?_⟩;obtain⟨a7,bE⟩:=h3 r O;exact⟨bt.else a7 λg z W ab=>hu g z ab (by rw[bE g W];simp),λg W=>by rw[ac _ (by rw[bE g W];simp)];exact bE g W⟩
 map:=h.map.else λz ab=>hu _ _ ab (by rw[h.dh];simp)
 dh:=by rw[ac _ (by rw[h.dh];simp)];exact h.dh
def bM:x5 ef:=⟨λh h1 h2=>h.bM h1 h2⟩
abbrev In:=mf ef
structure dP(T:aT):Prop where
 hs:1<=T.dim/\T.dim<=64
 many:T.cs.length=T.ls.length/\0<T.cs.length/\T.cs.length<=64
 Hn:∀c∈T.cs,(c.2.length:o)=T.dim/\db c.2
 vec:∀l∈T.ls,∀r∈l.2,(r.v.length:o)=T.dim/\db r.v
 ids:∀l∈T.ls,∀r∈l.2,1<=r.id/\r.id<=1000000000
 nodup:((T.ls.flatMap (·.2)).map (·.id)).Nodup
 xY:∀id i,(id,i)∈T.w↔∃l,T.ls[i]?=some l/\id∈l.2.map (·.id)
 BA:T.w.length=(T.ls.flatMap (·.2)).length
 small:T.w.length<=512
 sY:∀i l,T.ls[i]?=some l->∀r∈l.2,(l0 (T.cs.map (·.2)) r.v T.cs.length).1=i
def bb(X:aT):J (o×J o):=(X.ls.flatMap (·.2)).map av.bi
def I6(c:J o)(l:J av):bF:=.mk 3 c [] (oy c l l.length) (l.map av.bi) []
def xu:J (U×J o)->J (U×J av)->J bF
 |c::cs,l::ls=>I6 c.2 l.2::xu cs ls|_,_=>[]
def ajB:∀(cs:J (U×J o)) (ls:J (U×J av)),cs.length=ls.length->bF.jD (xu cs ls)=(ls.flatMap (·.2)).map av.bi:=by
 intro cs;induction cs with
 |nil=>
  intro ls h;cases ls with
  |nil=>rfl|cons l ls=>simp at h
 |cons c cs aL=>
  intro ls h;cases ls with
  |nil=>simp at h|cons l ls=>have:=aL ls (by simpa using h);simp only[xu,bF.jD,this,gB,dY];congr 1;unfold I6;rw[bF.all_eq];show l.2.map av.bi++ []=_;rw[kA]
def axb{c:J o}{l:J av}{d:o}(I:(c.length:o)=d/\db c)(ar:gX l d):fT d (I6 c l):=by
 have ha:gX l c.length:=by rw[I.1];exact ar
 refine .mk ⟨ar.dim,mE,λx M=>(by cases M),.inr (.inr ⟨rfl,rfl,I.2,I.1,akb I.2 ha _ (cg _)⟩)⟩ (λx M=>?_) (λk hk=>(by cases hk));have fF:x∈l.map av.bi:=by rw[bF.all_eq] at M;have h2:x∈l.map av.bi++ []:=M;rwa[kA] at h2
 obtain⟨r,O,rfl⟩:=bk.1 fF;obtain⟨i,hi,rfl⟩:=pe O;exact⟨λe=>(by cases e),λ_=>(aka c l l.length).2 i _ hi (cn hi)⟩
def ajC{d:o}:∀(cs:J (U×J o)) (ls:J (U×J av)),(∀c∈cs,(c.2.length:o)=d/\db c.2)->(∀l∈ls,gX l.2 d)->∀p∈xu cs ls,fT d p:=by
 intro cs;induction cs with
 |nil=>intro ls _ _ p ad;cases ls<;>cases ad
 |cons c cs aL=>
  intro ls h1 h2 p ad;cases ls with
  |nil=>cases ad
  |cons l ls=>rcases cE.1 ad with rfl|ad;exact axb (h1 c (gh ..)) (h2 l (gh ..));exact aL ls (λc I=>h1 c (gd _ I)) (λl ar=>h2 l (gd _ ar)) p ad
def acF(X:aT)(q:J o)(k aJ:o):mi:=oB q k aJ (xu X.cs X.ls)
def iW(X:aT)(q:J o)(k aJ:o):J bP:=xT q k (acF X q k aJ)
def gk(X:aT)(q:J o)(k aJ:o):J o:=dM ((acF X q k aJ).seen.map (·.1))
def jr(X:aT)(q:J o)(k aJ:o):J (o×o×J o×J o×J o):=(nR (acF X q k aJ)).map pu
def dP.abk{X:aT}(h:dP X):gX (X.ls.flatMap (·.2)) X.dim:=
 ⟨h.hs,by rw[<-h.BA];exact h.small,λr O=>by obtain⟨l,ar,O⟩:=ee.1 O;exact h.ids l ar r O,h.nodup,λr O=>by obtain⟨l,ar,O⟩:=ee.1 O;exact h.vec l ar r O⟩
def O0{X:aT}(h:dP X){q:J o}{k aJ:o}(hk:1<=k)(Z:0<=aJ)(aw:(q.length:o)=X.dim){L:J av}(cL:(L.map av.bi).Perm (bb X))(aO:kH L q){rest:J cp}(O:rest.map cp.core=jr X q k aJ):
  Sound L q k (iW X q k aJ) (gk X q k aJ) rest/\((gk X q k aJ).length:o)<=aJ/\(((gk X q k aJ).length:o)=aJ∨(gk X q k aJ).length=L.length∨zA q k (iW X q k aJ) rest):=by
 have ha:=h.abk
 refine acI Z hk (ajC X.cs X.ls (λc I=>by rw[aw];exact h.Hn c I) λl ar=>?_) aO ?_ O
 rw[aw]
 exact ha.sub (Dy (f:=λl:U×J av=>l.2) ar)
 rw[ajB _ _ h.many.1]
 exact cL
end jm
