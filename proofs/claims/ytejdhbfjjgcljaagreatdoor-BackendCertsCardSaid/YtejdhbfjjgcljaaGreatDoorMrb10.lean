/- Texts of mine, joined and packed by pack.py. -/
import Derived.Test.YtejdhbfjjgcljaaGreatDoorMrb9
set_option linter.all false
open _root_ renaming Nat->N,List->M,Option->aA,Int->o,Bool->aD,absurd->aV
open Go renaming Value->ao,Addr->bc
open Bool renaming true->ak,false->ax
open Go.Obj renaming cells->bj
open Go.IntKind renaming i64->bY,u64->bo
open Go.Instr renaming sliceAt->hP,buildSlice->dI
open Go.Builtin renaming append_->ee
open Go.Addr renaming add->eu,mk->cw
open Go.Proofs.Tryz renaming prog->aH
open Go.Value renaming agg->cD,int->cJ,func->iQ,pointer->hn,slice->ea,oneCell'->cK
open Int renaming tdiv->ff
open List.Perm renaming cons->j3,trans->BY
open List.Pairwise renaming nil->oZ
open Prod renaming fst->sI,snd->tH
set_option maxRecDepth 100000
noncomputable section
namespace Go.Proofs.YtejdhbfjjgcljaaGreatDoor
open H
def Aq(u:H)(src:N):Prop:=∃st,u src=some (.cells #[.int .u64 st] 215 (0,0))
def H.no(u:H)(b:N):H:=λc=>if c=b then none else u c
def JD{u:H}{b c:N}(h:c≠b):H.no u b c=u c:=aG h
def Tt(u:H)(b:N):H.no u b b=none:=a1 rfl
def OA(u:H)(b:N):(H.no u b).le u:=λc z h=>by by_cases e:c=b;rw[e,Tt] at h;cases h;rw[JD e] at h;exact h
def axE{v u:H}{b:N}(h:v.le u)(aa:v b=none):v.le (H.no u b):=λc z I=>by rw[JD (λe=>by rw[e,aa] at I;cases I)];exact h c z I
structure np(ub u:H)(src:N)(s:U)(l:M az)(d:o)(u':H)(n:aw):Prop where
 one:∀x∈n.bR,hT u' x
 nodup:n.own.Nodup
 out:∀c∈n.own,ub c=none/\u' c≠none/\c≠src
 all:n.bF.all.Perm (l.map az.bL)
 ok:gx d n.bF
 rows:∀x∈n.bR,∀r∈x.1.rows,r∈l
 size:n.bR.length+1<=2*l.length
 ue:∀c z,u c=some z->s.al≠some c->c≠src->u' c=some z
 src:Aq u' src
 oI:lH 3 n.bF
 bin:jX n.bF
namespace lS
def Lm:hf aH 127=ak:=by kernel_rfl
def apE:hf aH 130=ak:=by kernel_rfl
def WG:hf aH 131=ak:=by kernel_rfl
def WQ(a b:N):kH aH 211 2 #[(0,.pointer (some ⟨a,0,none⟩)),(1,.pointer (some ⟨b,0,none⟩))]=some (167,[.pointer (some ⟨a,0,none⟩),.pointer (some ⟨b,0,none⟩)]):=by kernel_rfl
abbrev yM(n0 b8:N):ao:=.func (.func 127) #[] #[.pointer (some ⟨n0,0,none⟩),.pointer (some ⟨b8,0,none⟩)]
abbrev Rw(n10:N):ao:=.func (.func 130) #[] #[.pointer (some ⟨n10,0,none⟩)]
structure wW(ub:H)(n0 b8 c3 src:N)(leaf:o):Prop where
 bM:ub.cell? ⟨n0,0,none⟩=some (.pointer (some ⟨c3,0,none⟩))
 c1:ub.cell? ⟨b8,0,none⟩=some (yM n0 b8)
 q9:ub.cell? ((cw c3 0 none).add 1)=some (.int .i64 leaf)
 cr:ub.cell? ((cw c3 0 none).add 2)=some (.pointer (some ⟨src,0,none⟩))
def wW.mono{ub u:H}{n0 b8 c3 src:N}{leaf:o}(h:wW ub n0 b8 c3 src leaf)(k:ub.le u):wW u n0 b8 c3 src leaf:=⟨H.le.cell k h.bM,H.le.cell k h.c1,H.le.cell k h.q9,H.le.cell k h.cr⟩
def W7{ub:H}{n10 n24:N}{gi:U}{c:M o}{l:M az}{d:o}(XK:ub.cell? ⟨n24,0,none⟩=some (Rw n10))(L5:ub.cell? ⟨n10,0,none⟩=some (.slice gi.a gi.n gi.c))(mg:Ints ub gi c)(I:c8 c)(kb:(c.length:o)=d)(ar:1<=d)(aB:∀r∈l,Ints ub r.s r.v)(bH:hp l d):
  K7 ub l (.func (.func 131) #[] #[.pointer (some ⟨n24,0,none⟩)]):=by
 intro a b v K ay aa hle av
 refine⟨_,_,_,rfl,hd WG,aFT a.id a.s b.id b.s ⟨n24,0,none⟩ v K ?_⟩
 have afA:=H.le.cell hle XK
 have aql:=H.le.cell hle L5
 have P4:=mg.mono hle
 have eG:∀{r:az} {Q:o->o->H->Prop},r∈l->(∀x y,cz x->cz y->Q x y v)->h8 aH (Rw n10) #[.agg #[.int .i64 r.id,.slice r.s.a r.s.n r.s.c]] [.agg [.int .u64,.int .u64]] v Q:=λ{r Q} O fm=>by obtain⟨kj,my⟩:=bH.v r O;exact⟨_,_,_,rfl,hd apE,aFS r.id r.s ⟨n10,0,none⟩ v Q ⟨gi,aql,B6 P4 ((aB r O).mono hle) I (by omega) my (by omega) λx y J ai _=>fm x y J ai⟩⟩
 exact⟨_,afA,_,afA,eG ay λx y J ai=>⟨H.le.refl _,eG aa λkV kF fQ iM=>yl ai iM (av _)⟩⟩
def ac6{n0 b8 c3 src:N}{d leaf:o}(A1:1<=leaf):∀(di:N) {ub u:H} {s:U} {l:M az} {K:aA bc->H->Prop},l.length<=di->wW ub n0 b8 c3 src leaf->ub src=none->Aq u src->s.al≠some src->aK ub u 52 2 s (l.flatMap cO)->(∀r∈l,Ints ub r.s r.v)->hp l d->
  (l=[]->K none u)->(l≠[]->∀u' n,np ub u src s l d u' n->K (some ⟨n.b,0,none⟩) u')->aeT s ⟨n0,0,none⟩ ⟨b8,0,none⟩ u K:=by
 intro di
 induction di with
 |zero=>intro ub u s l K eP cb _ _ _ ab aB bH h0 _;have ap:l=[]:=kS (by omega);have dM:s.n=l.length:=gU fM (by decide) ab.own.cI;apply aod;refine⟨λ_=>h0 ap,λan=>aV (by rw[dM,ap];rfl) an⟩
 |succ di aM=>
  intro ub u s l K eP cb Bo rJ v8 ab aB bH h0 av;have dM:s.n=l.length:=gU fM (by decide) ab.own.cI;have ar:=bH.aq;have agO:=bH.len;apply aod;refine⟨λaC=>h0 (kS (by omega)),λZr=>?_⟩;have an:l≠[]:=λe=>Zr (by rw[dM,e];rfl);have av:=av an;have ci:=ab.le;obtain⟨st,dY⟩:=rJ;refine⟨_,H.le.cell ci cb.bM,_,rfl,_,H.le.cell ci cb.cr,aBj dY (by omega) (by omega) ?_⟩;obtain⟨gj,rM⟩:∃gj,gj=u.ins src (.cells #[.int .u64 (kA st)] 215 (0,0)):=⟨_,rfl⟩;rw[<-rM];have lE:gj src=some (.cells #[.int .u64 (kA st)] 215 (0,0)):=by rw[rM];exact bi _ _ _
  have gA:∀c z,u c=some z->c≠src->gj c=some z:=λc z I an=>by rw[rM,bq _ _ an];exact I
  have akE:∀{c},gj c=none->u c=none:=λ{c} I=>by by_cases e:c=src;rw[e,lE] at I;cases I;rw[rM,bq _ _ e] at I;exact I
  have wb:ub.le gj:=λc z I=>gA c z (ci c z I) λe=>by rw[e,Bo] at I;cases I
  have A9:aK ub gj 52 2 s (l.flatMap cO):=⟨ab.own.le λc z I J=>gA c z J λe=>v8 (by rw[I,e]),wb,ab.fresh⟩;have ahf:eF gj s l:=⟨A9.own.cI,λr O=>(aB r O).mono wb⟩;obtain⟨aff,Yq⟩:∃x,x=uY (kA st)%(s.n:o):=⟨_,rfl⟩;have Z:0<=aff:=by rw[Yq];exact O9 _ (by omega)
  have a2:aff<s.n:=by rw[Yq];exact Pa _ (by omega)
  rw[<-Yq];obtain⟨abR,avR,sK,ps,_,c1,c2⟩:=ahf.at Z a2;have av8:sK∈l:=dB ps;obtain⟨cq,cH⟩:=bH.v sK av8;have aHS:=c2.len;refine⟨abR,avR,⟨Z,a2⟩,sK.s,c1,sN c2 (by omega) λgi pM rG _=>?_⟩;have aki:=rG.le;intro n10 aiL;refine nh (zs:=[.slice none 0 0]) rfl (by simp[cK]) ?_;obtain⟨Ad,aag⟩:∃Ad,Ad=pM.ins n10 (.cells [ea gi.a gi.n gi.c].toArray 30 (0,0)):=⟨_,rfl⟩;rw[<-aag];have Tf:pM.le Ad:=by rw[aag];exact bZ _ aiL
  have d10:Ad n10=some (.cells [ea gi.a gi.n gi.c].toArray 30 (0,0)):=by rw[aag];exact bi _ _ _
  have Ol:gj.le Ad:=aki.trans Tf;have atn:eF Ad s l:=ahf.mono Ol;have mg:Ints Ad gi sK.v:=rG.ints.mono Tf;refine⟨gi,a8 d10 0,amZ mg cH atn (by rw[cq];exact bH) λbp i18 fk h1=>?_⟩;have Tm:Ad.le fk:=h1.le;obtain⟨R,b4⟩:∃R,R=o1 sK.v l l.length:=⟨_,rfl⟩;rw[<-b4];have aph:lh R:=by rw[b4];exact alA cH (by rw[cq];exact bH) _ (cC _)
  have Gi:gj.le fk:=Ol.trans Tm;have k5:ub.le fk:=wb.trans Gi;have tK:fk src=some (.cells #[.int .u64 (kA st)] 215 (0,0)):=Gi _ _ lE;have fresh:∀{c},Ad c=none->ub c=none/\c≠src/\s.al≠some c:=λ{c} I=>⟨wb.none (Ol.none I),(λe=>by have lV:=Ol.none I;rw[e,lE] at lV;cases lV),λe=>dL A9 e (Ol.none I)⟩
  have jD:∀rows kids,nv ((bJ.mk 3 sK.v [] R rows kids).hE []) d:=λrows kids=>⟨ar,oZ,λx J=>(by cases J),.inr (.inr ⟨rfl,rfl,cH,cq,aph⟩)⟩;have ins:∀rows kids,∀Y∈l.map az.bL,mH ((bJ.mk 3 sK.v [] R rows kids).hE []) Y.2:=λrows kids Y aC=>by obtain⟨r,O,rfl⟩:=bk.1 aC;refine⟨λh=>(by cases h),λ_=>?_⟩;obtain⟨i,hi,Sr⟩:=oG O;show fG sK.v r.v sK.v.length<=R;rw[b4];exact(alz sK.v l l.length).2 i r hi (by rw[cy hi,Sr])
  have zm:∀g,bp.al=some g->fk g≠none:=λg W=>dL h1 W;have qF:∀g,bp.al=some g->Ad g=none:=λg W=>h1.fresh g W;have akd:∀g,s.al=some g->fk g≠none:=λg W=>dL (A9.mono Gi) W;intro aGy Ia;have Oq:∀n31,fk n31=none->K (some ⟨n31,0,none⟩) (fk.ins n31 (.cells #[.int .i64 3,.slice bp.a bp.n bp.c,.slice none 0 0,.int .u64 (cZ R),.int .u64 (c5 R),.slice none 0 0,.slice s.a s.n s.c,.slice none 0 0] 213 (0,0))):=by
   intro n31 sn;obtain⟨qH,iS⟩:∃b5:ey,b5=⟨n31,3,bp,⟨none,0,0⟩,sK.v,[],R,s,l,⟨none,0,0⟩⟩:=⟨_,rfl⟩;have rO:=bZ (u:=fk) (b:=n31) (.cells (e2 qH).toArray 213 (0,0)) sn;have key:=av (fk.ins n31 (.cells (e2 qH).toArray 213 (0,0))) (.mk qH []);have p4:(aw.mk qH []).own=n31::(bp.al.toList++s.al.toList):=by rw[aw.rT,iS];simp[aw.h,aw.kids,ey.dC,U.al]
   have fP:(bj #[.int .i64 3,.slice bp.a bp.n bp.c,.slice none 0 0,.int .u64 (cZ R),.int .u64 (c5 R),.slice none 0 0,.slice s.a s.n s.c,.slice none 0 0] 213 (0,0))=.cells (e2 qH).toArray 213 (0,0):=by rw[iS];rfl
   rw[fP];have Is:(aw.mk qH []).b=n31:=by rw[iS];rfl
   rw[Is] at key;have f31:=fresh (Tm.none sn);refine key ⟨λy ai=>?_,?_,λc I=>?_,?_,?_,λy ai r O=>?_,?_,λc z I kN dK=>rO c z (Gi c z (gA c z I dK)),⟨_,rO _ _ tK⟩,by rw[aw.hD,iS];exact .mk rfl λk hk=>(by cases hk),Q5 (.inl rfl) λk hk=>(by cases hk)⟩;rw[aw.iI] at ai;obtain rfl:y=(qH,[]):=by simpa[aw.h,aw.kids] using ai
   subst iS;exact⟨bi _ _ _,(h1.mono rO).own,Own.nil _ _ _,((A9.mono Gi).mono rO).own,λr O=>(aB r O).mono (k5.trans rO),⟨rfl,cC _,by show 0<=9223372036854775807;omega,.inl rfl⟩⟩;rw[p4,h6];refine⟨λhm=>?_,?_⟩;simp only[cM,sH] at hm;rcases hm with hm|hm;exact zm n31 hm sn;exact akd n31 hm sn;have en:∀z:aA N,z.toList.Nodup:=λz=>by cases z<;>simp
   rw[fZ];refine⟨en _,en _,λa ay b aa e=>?_⟩;rw[sH] at ay aa;subst e;exact(fresh (qF a ay)).2.2 aa;rw[p4] at I;simp only[cP,cM,sH] at I;rcases I with rfl|I|I;exact⟨f31.1,by rw[bi];simp,f31.2.1⟩;have:=fresh (qF c I);exact⟨this.1,λe=>zm c I (rO.none e),this.2.1⟩;exact⟨ab.fresh c I,λe=>akd c I (rO.none e),λe=>v8 (by rw[<-e];exact I)⟩;rw[aw.tC,aw.iI];subst iS;simp[aw.h,aw.kids];rw[aw.hD];subst iS;refine .mk (jD _ _) (λY aC=>ins _ _ Y ?_) λk hk=>(by cases hk);rw[bJ.all_eq] at aC;have Bs:Y∈l.map az.bL++ []:=aC;rwa[lB] at Bs;rw[aw.iI] at ai;obtain rfl:y=(qH,[]):=by simpa[aw.h,aw.kids] using ai
   subst iS;exact O;rw[aw.iI];have:=vc.2 an;simp[aw.kids];omega
  refine⟨_,H.le.cell k5 cb.bM,_,rfl,leaf,H.le.cell k5 cb.q9,λ_=>Oq,λuy=>⟨λ_=>Oq,λ_=>Ia none fk λn24 aiN=>?_⟩⟩;refine nh (zs:=[.nilFunc]) rfl (by simp[cK]) ?_;obtain⟨w,hw⟩:∃w,w=fk.ins n24 (.cells [Rw n10].toArray 219 (0,0)):=⟨_,rfl⟩;rw[<-hw];have Js:fk.le w:=by rw[hw];exact bZ _ aiN
  have d24:w n24=some (.cells [Rw n10].toArray 219 (0,0)):=by rw[hw];exact bi _ _ _
  have aqP:w n10=some (.cells [ea gi.a gi.n gi.c].toArray 30 (0,0)):=Js _ _ (Tm _ _ d10);have zq:gj.le w:=Gi.trans Js;have anS:ub.le w:=k5.trans Js;have Ny:aK ub w 52 2 s (l.flatMap cO):=A9.mono zq;have ZY:∀c,s.al=some c->gj c≠none:=λc I=>dL A9 I;obtain⟨sO,Bn⟩:∃sO:H,sO=nT w s:=⟨_,rfl⟩;have bn:ub.le sO:=λc z I=>by rw[Bn,nU (λe=>by rw[ab.fresh c e] at I;cases I)];exact anS c z I
  have ae3:sO n24=w n24:=by rw[Bn];exact nU λe=>ZY _ e (Gi.none aiN)
  have ae2:sO n10=w n10:=by rw[Bn];exact nU λe=>ZY _ e (aki.none aiL)
  have apj:Ints sO gi sK.v:=bz.else (mg.mono (Tm.trans Js)) λg z W J=>by rw[Bn,nU (λe=>ZY _ e (rG.fresh g W))];exact J
  refine amR Ny (by rw[Bn];exact D3 _ _) (λb aa=>by rw[Bn];exact a1 aa) (W7 (n10:=n10) (by rw[d24] at ae3;exact a8 ae3 0) (by rw[aqP] at ae2;exact a8 ae2 0) apj cH cq ar.1 (λr O=>(aB r O).mono bn) bH) (by omega) λu32 m ad oS AV=>?_;have mT:=ad.length_eq;have mW:ub.le u32:=λc z I=>AV c z (anS c z I) λe=>by have:=ab.fresh c e;rw[I] at this;cases this
  have qi:Aq u32 src:=⟨_,AV _ _ (Js _ _ tK) v8⟩;have Zg:hp m d:=bH.mix ad;have tl:∀r∈m,Ints ub r.s r.v:=λr O=>aB r (ad.mem_iff.1 O);have RY:eF u32 s m:=⟨oS.own.cI,λr O=>(tl r O).mono mW⟩;have iH:=bz.cap oS.own.cI;obtain⟨fe,vV⟩:∃fe:N,fe=s.n/2:=⟨_,rfl⟩;have Xn:ff (s.n:o) 2=(fe:o):=by rw[zP (by omega)];omega
  rw[Xn];have PC:∀{Y:H} {Q:U->H->Prop},Q (s.part 0 fe s.c 2) Y->c9 aH (hP 22 (.slice s.a s.n s.c) none (some (.int .i64 (fe:o))) none) [.one .slice] Y Q:=λfm=>
   o3 (P:=aH) kk (l:=0) (h:=fe) (m:=s.c) (.inl ⟨rfl,rfl⟩) (.inr rfl) (.inl ⟨rfl,rfl⟩) (by omega) (by omega) (cC _) iH fm
  have B4:∀{Y:H} {Q:U->H->Prop},Q (s.part fe s.n s.c 2) Y->c9 aH (hP 22 (.slice s.a s.n s.c) (some (.int .i64 (fe:o))) none none) [.one .slice] Y Q:=λfm=>
   o3 (P:=aH) kk (l:=fe) (h:=s.n) (m:=s.c) (.inr rfl) (.inl ⟨rfl,rfl⟩) (.inl ⟨rfl,rfl⟩) (by omega) iH (cC _) iH fm
  have gC:(m.take fe).length=fe:=by rw[gq];omega
  have ia:(m.drop fe).length=m.length-fe:=by rw[mv]
  have FK:m.take fe≠[]:=λe=>by rw[e] at gC;simp at gC;omega
  have zf:m.drop fe≠[]:=λe=>by rw[e] at ia;simp at ia;omega
  have aAa:∀{Y:H},(∀c z,u32 c=some z->c≠src->Y c=some z)->eF Y s m:=λ{Y} aC=>⟨bz.else oS.own.cI λc z I J=>aC c z J λe=>v8 (by rw[I,e]),λr O=>(tl r O).mono λc z I=>aC c z (mW c z I) λe=>by rw[e,Bo] at I;cases I⟩;have tB:∀{Y:H},eF Y s m->eF Y (s.part 0 fe s.c 2) (m.take fe):=λaC=>by have:=aC.part (l:=0) (h:=fe) (m:=s.c) (by omega) (by omega) (by omega) (cC _);simpa using this
  have ayW:∀{Y:H},eF Y s m->eF Y (s.part fe s.n s.c 2) (m.drop fe):=λaC=>by have:=aC.part (l:=fe) (h:=s.n) (m:=s.c) (by omega) (cC _) iH (cC _);rwa[gY (by rw[mv];omega)] at this
  have lub:∀{Y:H},(∀c z,u32 c=some z->c≠src->Y c=some z)->ub.le Y:=λaC c z I=>aC c z (mW c z I) λe=>by rw[e,Bo] at I;cases I
  have DY:∀{Y fC:H} {t:U} {k:M az} {Q:aA bc->H->Prop},(∀c z,u32 c=some z->c≠src->Y c=some z)->Aq Y src->aK Y fC 52 2 t (k.flatMap cO)->k≠[]->k.length<=di->k.Sublist m->(∀u' n,np (H.no Y src) fC src t k d u' n->(∀c z,Y c=some z->c≠src->u' c=some z)->Q (some ⟨n.b,0,none⟩) u')->
    h8 aH (yM n0 b8) #[.slice t.a t.n t.c] [.one .ptr] fC Q:=λ{Y fC t k Q} aC ag jm hk Y3 sm fm=>by
   have DA:ub.le (H.no Y src):=axE (lub aC) Bo
   obtain⟨oJ,wa⟩:=ag
   have fq:t.al≠some src:=λe=>by have:=jm.fresh src e;rw[wa] at this;cases this
   exact⟨_,_,_,rfl,hd Lm,aM Y3 (cb.mono DA) (Tt _ _) ⟨oJ,jm.le _ _ wa⟩ fq ⟨jm.own,(OA _ _).trans jm.le,λg W=>(OA Y src).none (jm.fresh g W)⟩ (λr O=>(tl r (sm.mem O)).mono DA) (Zg.sub sm) (λe=>aV e hk) λ_ u' n I=>fm u' n I λc z bQ dK=>I.ue c z (jm.le c z bQ) (λe=>by have:=jm.fresh c e;rw[bQ] at this;cases this) dK⟩
  have OK:Own u32 3 1 bp (sK.v.flatMap encI):=(h1.mono Js).own.le λc z I bQ=>AV c z bQ λe=>(fresh (qF c I)).2.2 e;have second:∀{Y KP iY:H} {t:U} {fs:aw},(∀c z,u32 c=some z->c≠src->KP c=some z)->(∀c z,KP c=some z->c≠src->Y c=some z)->np (H.no KP src) iY src t (m.take fe) d Y fs->n2 (s.part fe s.n s.c 2) Y (λ(sM:U) (Ed:H)=>(H.le ub Ed)/\(h8 aH (yM n0 b8) #[.slice sM.a sM.n sM.c] [.one .ptr] Ed (λ(abQ:aA bc) (mC:H)=>(H.le ub mC)/\(c9 aH (dI 211 2 #[(0,.pointer (some ⟨fs.b,0,none⟩)),(1,.pointer abQ)]) [.one .slice] mC (λ(mz:U) (ii:H)=>(H.le ub ii)/\(∀n49:N,(ii n49=none)->K (some ⟨n49,0,none⟩) (ii.ins n49 (.cells #[.int .i64 3,.slice bp.a bp.n bp.c,.slice none 0 0,.int .u64 (cZ R),.int .u64 (c5 R),.slice none 0 0,.slice none 0 0,.slice mz.a mz.n mz.c] 213 (0,0))))))))):=by
   intro Y KP iY t fs aaH ajY I;have aC:∀c z,u32 c=some z->c≠src->Y c=some z:=λc z h1 h2=>ajY c z (aaH c z h1 h2) h2;have akv:=lub aC;refine PK (ayW (aAa aC)).1 (by show s.n-fe<=_;omega) λsM Ed Ns _=>⟨akv.trans Ns.le,DY aC I.src Ns zf (by omega) (O4 _ _) λmC ck aa wg=>?_⟩;have F9:∀c z,u32 c=some z->c≠src->mC c=some z:=λc z h1 h2=>wg c z (aC c z h1 h2) h2;refine⟨lub F9,?_⟩;refine mA (WQ fs.b ck.b) λg W=>?_;have tv:=bZ (u:=mC) (b:=g) (.cells [hn (some ⟨fs.b,0,none⟩),.pointer (some ⟨ck.b,0,none⟩)].toArray 167 (0,0)) W;have mk:=aK.make (k:=1) (H.le.refl mC) W (cells:=[hn (some ⟨fs.b,0,none⟩),.pointer (some ⟨ck.b,0,none⟩)].toArray) (e:=167) (n:=2) (by omega) rfl;obtain⟨ii,N0⟩:∃ii,ii=mC.ins g (.cells [hn (some ⟨fs.b,0,none⟩),.pointer (some ⟨ck.b,0,none⟩)].toArray 167 (0,0)):=⟨_,rfl⟩;have YP:ii g≠none:=by rw[N0,bi];simp
   rw[<-N0] at tv mk ⊢;refine⟨(lub F9).trans tv,λn49 Dg=>?_⟩;obtain⟨kt,iS⟩:∃b5:ey,b5=⟨n49,3,bp,⟨none,0,0⟩,sK.v,[],R,⟨none,0,0⟩,[],⟨some ⟨g,0,none⟩,2,2⟩⟩:=⟨_,rfl⟩;have fP:(bj #[.int .i64 3,.slice bp.a bp.n bp.c,.slice none 0 0,.int .u64 (cZ R),.int .u64 (c5 R),.slice none 0 0,.slice none 0 0,.slice (some ⟨g,0,none⟩) 2 2] 213 (0,0))=.cells (e2 kt).toArray 213 (0,0):=by rw[iS];rfl
   show K (some ⟨n49,0,none⟩) (ii.ins n49 (bj #[.int .i64 3,.slice bp.a bp.n bp.c,.slice none 0 0,.int .u64 (cZ R),.int .u64 (c5 R),.slice none 0 0,.slice none 0 0,.slice (some ⟨g,0,none⟩) 2 2] 213 (0,0)));rw[fP];have zp:=bZ (u:=ii) (b:=n49) (.cells (e2 kt).toArray 213 (0,0)) Dg;obtain⟨Hn,ajw⟩:∃Hn,Hn=ii.ins n49 (.cells (e2 kt).toArray 213 (0,0)):=⟨_,rfl⟩;have key:=av Hn (.mk kt [fs,ck]);have d49:Hn n49=some (.cells (e2 kt).toArray 213 (0,0)):=by rw[ajw];exact bi _ _ _
   rw[<-ajw] at zp ⊢;have Ys:(aw.mk kt [fs,ck]).b=n49:=by rw[iS];rfl
   rw[Ys] at key;have Ti:mC.le Hn:=tv.trans zp;have ad8:∀c z,u32 c=some z->c≠src->Hn c=some z:=λc z h1 h2=>Ti c z (F9 c z h1 h2);have anQ:=lub ad8;have Te:∀c,bp.al=some c->u32 c≠none/\c≠src:=λc I=>⟨abL OK I,(fresh (qF c I)).2.1⟩;have Jq:∀{a b:H},(∀c z,a c=some z->c≠src->b c=some z)->∀{c},a c≠none->c≠src->b c≠none:=λ{a b} h {c} I ag=>by obtain⟨z,bQ⟩:=fj.1 I;rw[h c z bQ ag];simp
   have Dx:∀{c},mC c≠none->ii c≠none:=λI e=>I (tv.none e);have aaV:∀{c},ii c≠none->Hn c≠none:=λI e=>I (zp.none e);have ana:∀{c},mC c=none->c≠src:=λI e=>by obtain⟨oJ,wa⟩:=aa.src;rw[e,wa] at I;cases I
   have aow:∀{c},H.no KP src c=none->c≠src->KP c=none:=λh ag=>by rw[JD ag] at h;exact h
   have aeb:∀{c},H.no Y src c=none->c≠src->Y c=none:=λh ag=>by rw[JD ag] at h;exact h
   have anR:∀{Y:H},ub.le Y->∀{c},Y c=none->ub c=none:=λ{_} h {_} I=>H.le.none h I;have p4:(aw.mk kt [fs,ck]).own=n49::((bp.al.toList++ [g])++(fs.own++ck.own)):=by rw[aw.rT,iS];simp[aw.h,aw.kids,ey.dC,U.al]
   have Fo:(aw.mk kt [fs,ck]).bR=(kt,[fs.b,ck.b])::(fs.bR++ck.bR):=by rw[aw.iI];simp[aw.h,aw.kids]
   have Jp:∀c∈(bp.al.toList++ [g])++(fs.own++ck.own),ub c=none/\ii c≠none/\c≠src:=λc cL=>by simp only[cM,sH,gp] at cL;rcases cL with(cL|rfl)|cL|cL;obtain⟨cV,dc⟩:=Te c cL;exact⟨(fresh (qF c cL)).1,Dx (Jq F9 cV dc),dc⟩;exact⟨(lub F9).none W,YP,ana W⟩;obtain⟨cV,dc,dh⟩:=I.out c cL;exact⟨anR (lub aaH) (aow cV dh),Dx (Jq wg dc dh),dh⟩;obtain⟨cV,dc,dh⟩:=aa.out c cL;exact⟨anR akv (aeb cV dh),Dx dc,dh⟩
   refine key ⟨λy ai=>?_,?_,λc cL=>?_,?_,?_,λy ai r O=>?_,?_,λc z YC kN dK=>ad8 c z (AV c z (zq c z (gA c z YC dK)) kN) dK,?_,?_,?_⟩;rw[Fo] at ai;rcases cP.1 ai with rfl|ai;subst iS;exact⟨d49,OK.le λc z dd bQ=>ad8 c z bQ (Te c dd).2,Own.nil _ _ _,Own.nil _ _ _,λr O=>(by cases O),(mk.mono zp).own.cI⟩;rcases cM.1 ai with ai|ai;exact(I.one y ai).bS (λc z cL bQ=>Ti c z (wg c z bQ (I.out c (ep.2 ⟨y,ai,cL⟩)).2.2)) λr O=>(tl r (mx (I.rows y ai r O))).mono anQ;exact(aa.one y ai).bS (λc z _ bQ=>Ti c z bQ) λr O=>(tl r (sG (aa.rows y ai r O))).mono anQ;rw[p4,h6];refine⟨λhm=>(Jp n49 hm).2.1 Dg,?_⟩;have en:∀z:aA N,z.toList.Nodup:=λz=>by cases z<;>simp
   rw[fZ,fZ,fZ];refine⟨⟨en _,by simp,λa ay b eQ e=>?_⟩,⟨I.nodup,aa.nodup,λa ay b eQ e=>?_⟩,λa ay b eQ e=>?_⟩;rw[gp] at eQ;rw[sH] at ay;rw[<-e] at eQ;subst eQ;obtain⟨cV,dc⟩:=Te a ay;exact Jq F9 cV dc W;subst e;obtain⟨_,dc,dh⟩:=I.out a ay;exact dc (aeb (aa.out a eQ).1 dh);subst e;simp only[cM,sH,gp] at ay eQ;rcases ay with ay|rfl;obtain⟨cV,dc⟩:=Te a ay;rcases eQ with eQ|eQ;exact Jq aaH cV dc (aow (I.out a eQ).1 dc);exact Jq aC cV dc (aeb (aa.out a eQ).1 dc);rcases eQ with eQ|eQ;obtain⟨_,dc,dh⟩:=I.out a eQ;exact Jq wg dc dh W;exact(aa.out a eQ).2.1 W;rw[p4] at cL;rcases cP.1 cL with rfl|cL;exact⟨(lub F9).none (tv.none Dg),by rw[d49];simp,ana (tv.none Dg)⟩;obtain⟨cV,dc,dh⟩:=Jp c cL;exact⟨cV,aaV dc,dh⟩;rw[aw.hD,bJ.all_eq,iS];show([]++bJ.jY ([fs,ck].map aw.bF)).Perm _;rw[nQ];show(fs.bF.all++(ck.bF.all++ [])).Perm _;rw[lB];refine(I.all.append aa.all).trans ?_;rw[<-er,q2];exact ad.map _;rw[aw.hD];have ef:∀x,x∈(bJ.mk kt.aI kt.bm kt.hi kt.cA (kt.rows.map az.bL) ([fs,ck].map aw.bF)).all->x∈l.map az.bL:=λx J=>by rw[bJ.all_eq] at J;subst iS;have fQ:x∈[]++(fs.bF.all++(ck.bF.all++ [])):=J;rw[nQ,lB] at fQ;refine(ad.map az.bL).mem_iff.1 ?_;rcases cM.1 fQ with fQ|fQ;obtain⟨r,O,rfl⟩:=bk.1 (I.all.mem_iff.1 fQ);exact ie (mx O);obtain⟨r,O,rfl⟩:=bk.1 (aa.all.mem_iff.1 fQ);exact ie (sG O)
   subst iS;refine .mk (jD [] []) (λx J=>ins [] [] x (ef x J)) λk hk=>?_;have dJ:k∈[fs.bF,ck.bF]:=hk;simp only[cP,qe,qf] at dJ;rcases dJ with rfl|rfl;exact I.ok;exact aa.ok;rw[Fo] at ai;rcases cP.1 ai with rfl|ai;subst iS;cases O;rcases cM.1 ai with ai|ai;exact ad.mem_iff.1 (mx (I.rows y ai r O));exact ad.mem_iff.1 (sG (aa.rows y ai r O));rw[Fo,hX,eD];have aQ:=I.size;have aF:=aa.size;omega;obtain⟨oJ,wa⟩:=aa.src;exact⟨oJ,Ti _ _ wa⟩;rw[aw.hD,iS];refine .mk rfl λk hk=>?_;have dJ:k∈[fs.bF,ck.bF]:=hk;simp only[cP,qe,qf] at dJ;rcases dJ with rfl|rfl;exact I.oI;exact aa.oI;refine Q5 (.inr rfl) λk hk=>?_;simp only[cP,qe,qf] at hk;rcases hk with rfl|rfl;exact I.bin;exact aa.bin
  have z0:∀c z,u32 c=some z->c≠src->u32 c=some z:=λ_ _ h _=>h;have left:∀{Q:U->H->Prop},(∀t fC,aK u32 fC 52 2 t ((m.take fe).flatMap cO)->Q t fC)->n2 (s.part 0 fe s.c 2) u32 Q:=λ{Q} fm=>
   PK (tB RY).1 (by show fe-0<=_;omega) λau u' bQ _=>fm au u' bQ
  have first:∀{t fC} {Q:aA bc->H->Prop},aK u32 fC 52 2 t ((m.take fe).flatMap cO)->(∀Y fs,np (H.no u32 src) fC src t (m.take fe) d Y fs->(∀c z,u32 c=some z->c≠src->Y c=some z)->Q (some ⟨fs.b,0,none⟩) Y)->h8 aH (yM n0 b8) #[.slice t.a t.n t.c] [.one .ptr] fC Q:=λjm fm=>
   DY z0 qi jm FK (by omega) (r3 _ _) λu' n I aC=>fm u' n I aC
  refine⟨by decide,⟨by omega,by omega⟩,ub,mW,_,cb.c1,_,cb.c1,?_,?_⟩;refine PC ⟨mW,left λt fC jm=>⟨mW.trans jm.le,?_,?_⟩,?_⟩;exact first jm λY fs I aC=>⟨lub aC,B4 ⟨lub aC,second z0 aC I⟩⟩
  exact B4 ⟨mW.trans jm.le,first jm λY fs I aC=>⟨lub aC,second z0 aC I⟩⟩;exact B4 ⟨mW,left λt fC jm=>⟨mW.trans jm.le,first jm λY fs I aC=>⟨lub aC,second z0 aC I⟩⟩⟩;exact B4 ⟨mW,PC ⟨mW,left λt fC jm=>⟨mW.trans jm.le,first jm λY fs I aC=>⟨lub aC,second z0 aC I⟩⟩⟩⟩
end lS
namespace lS
section
variable{u aj ub u':H}{b:N}{h:ey}{d:o}{s:U}{v q:M o}{f:H->Prop}{K:aD->o->H->Prop}{ks:M aw}
def Ln:hf aH 276=ak:=by kernel_rfl
def WI:hf aH 277=ak:=by kernel_rfl
def Xf{n0:N}{id:o}(bM:ub.cell? ⟨n0,0,none⟩=some (.int .i64 id)):QV ub (.func (.func 277) #[] #[.pointer (some ⟨n0,0,none⟩)]) λr=>decide (r.id=id):=λr v K aB av=>
 .inl ⟨_,_,_,rfl,hd WI,aFM r.id r.s ⟨n0,0,none⟩ v K ⟨_,H.le.cell (show ub.le v from aB) bM,av⟩⟩
def ac7{n0 b8:N}{id:o}(bM:ub.cell? ⟨n0,0,none⟩=some (.int .i64 id))(c1:ub.cell? ⟨b8,0,none⟩=some (.func (.func 276) #[] #[.pointer (some ⟨n0,0,none⟩),.pointer (some ⟨b8,0,none⟩)])):
  ∀(n:aw) {u:H} {K:H->Prop},ub.le u->(∀x∈n.bR,hT u x)->n.own.Nodup->(∀c∈n.own,ub c=none)->(∀x∈n.bR,∀r∈x.1.rows,Ints ub r.s r.v)->n.bR.length<=10000000->(∀u' n',HD id n u' n'->(∀c z,u c=some z->c∉n.own->u' c=some z)->(∀c,u c≠none->u' c≠none)->K u')->
   aeO (some ⟨n.b,0,none⟩) ⟨n0,0,none⟩ ⟨b8,0,none⟩ u K:=by
 intro n
 induction n using aw.ind with
 |h n aM=>
  intro u K ci pr b3 iq lo c0 av;have b5:(n.h,n.kids.map aw.b)∈n.bR:=by rw[aw.iI];exact gr ..
  have h0:=pr _ b5;have aa:n.b=n.h.b:=rfl;rw[aw.rT] at b3 iq;have ou:=b3;rw[fZ] at ou;obtain⟨gn,fK,tm⟩:=ou;have NQ:∀g,n.h.bd.al=some g->g∈n.h.dC:=λg W=>by simp[ey.dC,W]
  have NR:n.h.bd.al≠some n.h.b:=λe=>by unfold ey.dC at gn;rw[h6] at gn;exact gn.1 (by simp[e])
  have axw:n.kids.length<=10000000:=by
   have h1:n.bR.length=1+(n.kids.flatMap aw.bR).length:=by rw[aw.iI,hX];omega
   have h2:∀ks:M aw,ks.length<=(ks.flatMap aw.bR).length:=λks=>by
    induction ks with
    |nil=>simp|cons k ks Ga=>rw[gI,eD,hX];have:=k.Se;omega
   have:=h2 n.kids;omega
  apply aFL;refine⟨_,rfl,n.h.bd,a8 h0.cell 6,?_⟩;refine amO h0.rws.f (Xf bM) ci (λg W=>iq g (iA _ (NQ g W))) λs2 j5 dP kK jk=>?_;have AY:(n.h.rows.filter λr=>!decide (r.id=id))=n.h.rows.filter λr=>r.id !=id:=acv λr _=>by by_cases e:r.id=id<;>simp[e]
  rw[AY] at dP;refine⟨_,rfl,?_⟩;have Yz:j5 n.h.b=some (.cells (e2 n.h).toArray 213 (0,0)):=jk _ _ h0.cell NR;refine US Yz s2 (n.h.rows.filter λr=>r.id !=id) ?_;obtain⟨bW,mi⟩:∃bW:ey,bW={n.h with bd:=s2,rows:=n.h.rows.filter λr=>r.id !=id}:=⟨_,rfl⟩;rw[<-mi];have eQ:bW.b=n.h.b:=by rw[mi]
  have Mu:bW.dC=n.h.dC:=by rw[mi];unfold ey.dC;simp[kK]
  obtain⟨gj,rM⟩:∃gj,gj=j5.ins n.h.b (.cells (e2 bW).toArray 213 (0,0)):=⟨_,rfl⟩;rw[<-rM];have lE:gj n.h.b=some (.cells (e2 bW).toArray 213 (0,0)):=by rw[rM];exact bi _ _ _
  have ud:∀c z,j5 c=some z->c≠n.h.b->gj c=some z:=λc z I an=>by rw[rM,bq _ _ an];exact I
  have gA:∀c z,u c=some z->c∉n.h.dC->gj c=some z:=λc z I an=>ud c z (jk c z I λe=>an (NQ c e)) λe=>an (by rw[e];exact gr ..);have aa4:∀c,u c≠none->gj c≠none:=λc I=>by by_cases e:c=n.h.b;rw[e,lE];simp;obtain⟨z,ab⟩:=fj.1 I;by_cases aF:n.h.bd.al=some c;obtain⟨zC,ml⟩:=fj.1 (dL dP (g:=c) (by rw[kK];exact aF));rw[ud c zC ml e];simp;rw[ud c z (jk c z ab aF) e];simp
  have wb:ub.le gj:=λc z I=>gA c z (ci c z I) λhm=>by rw[iq c (iA _ hm)] at I;cases I
  have OL:∀{e k:N} {s:U} {xs:M ao},Own u e k s xs->(∀g,s.al=some g->g≠n.h.b/\n.h.bd.al≠some g)->Own gj e k s xs:=λab an=>ab.le λc z I hu=>ud c z (jk c z hu λe=>(an c I).2 e) (an c I).1;have ka:(∀g,n.h.bp.al=some g->g≠n.h.b/\n.h.bd.al≠some g)/\(∀g,n.h.fF.al=some g->g≠n.h.b/\n.h.bd.al≠some g)/\(∀g,n.h.df.al=some g->g≠n.h.b/\n.h.bd.al≠some g):=by unfold ey.dC at gn;rw[h6] at gn;obtain⟨cV,dc⟩:=gn;have aL:∀g,g∈n.h.bp.al.toList++n.h.fF.al.toList++n.h.bd.al.toList++n.h.df.al.toList->g≠n.h.b:=λg W e=>cV (by rw[<-e];exact W);rw[fZ,fZ,fZ] at dc;obtain⟨⟨⟨_,_,dh⟩,_,fL⟩,_,qb⟩:=dc;refine⟨λg W=>⟨aL g (by simp[W]),λe=>fL g (by simp[W]) g (by simp[e]) rfl⟩,λg W=>⟨aL g (by simp[W]),λe=>fL g (by simp[W]) g (by simp[e]) rfl⟩,λg W=>⟨aL g (by simp[W]),λe=>qb g (by simp[e]) g (by simp[W]) rfl⟩⟩
  have Mm:∀tt,tt=n.kids.map aw.b->hT gj (bW,tt):=λtt MZ=>by subst MZ;subst mi;refine⟨lE,OL h0.bm ka.1,OL h0.hi ka.2.1,dP.own.le λc z I hu=>ud c z hu λe=>NR (by rw[<-kK,I,e]),λr O=>(lo _ b5 r (iX.1 O).1).mono wb,bz.else h0.lZ λg z W ab=>ud g z (jk g z ab λe=>(ka.2.2 g W).2 e) (ka.2.2 g W).1⟩
  have FX:bW.df=n.h.df:=by rw[mi]
  refine⟨_,rfl,bW.df,by rw[aa];exact a8 lE 7,?_⟩;refine⟨λx w=>0<=x/\x<=n.kids.length/\(∀c z,gj c=some z->c∉n.kids.flatMap aw.own->w c=some z)/\(∀c,gj c≠none->w c≠none)/\∃ds:M aw,ds.length=x.toNat/\(∀(i:N) d k,ds[i]?=some d->n.kids[i]?=some k->HD id k w d)/\(∀(i:N) k,x.toNat<=i->n.kids[i]?=some k->∀y∈k.bR,hT w y),
   λx _=>((n.kids.length:o)-x).toNat,⟨by omega,by omega,λc z I _=>I,λc I=>I,[],rfl,λi d k ar=>by simp at ar,λi k _ hk y ai=>?_⟩,?_⟩
  obtain⟨iY,z2⟩:k.own ⊆ n.kids.flatMap aw.own/\True:=⟨λc I=>ep.2 ⟨k,dB hk,I⟩,trivial⟩;have F8:y∈n.bR:=by rw[aw.iI];exact gh _ (ep.2 ⟨k,dB hk,ai⟩)
  refine(pr y F8).bS (λc z I ab=>gA c z ab λhm=>tm c hm c (iY (ep.2 ⟨y,ai,I⟩)) rfl) λr O=>(lo y F8 r O).mono wb;rintro x w ⟨bK,dw,to,pq,ds,y7,si,v7⟩;have k5:ub.le w:=λc z I=>to c z (wb c z I) λhm=>by rw[iq c (lC _ hm)] at I;cases I
  have Z0:bW.df.n=n.kids.length:=by rw[FX];have:=h0.lZ.len;simp at this;omega
  have Fy:∀{Y:N} {k:aw},n.kids[Y]?=some k->(∀y∈k.bR,y∈n.bR)/\(∀c∈k.own,c∈n.kids.flatMap aw.own):=λhk=>⟨λy ai=>by rw[aw.iI];exact gh _ (ep.2 ⟨_,dB hk,ai⟩),λc I=>ep.2 ⟨_,dB hk,I⟩⟩;refine⟨λJ=>?_,λJ=>?_⟩;have fh:x.toNat<n.kids.length:=by omega
  obtain⟨k,hk⟩:∃k,n.kids[x.toNat]?=some k:=⟨_,cy fh⟩;have ZZ:bz gj n.h.df 1 ((n.kids.map aw.b).map λn=>.pointer (some ⟨n,0,none⟩)):=(Mm _ rfl).lZ|>λh=>by rw[FX] at h;exact h
  have Z2:bz w n.h.df 1 ((n.kids.map aw.b).map λn=>.pointer (some ⟨n,0,none⟩)):=bz.else ZZ λg z W ab=>to g z ab λhm=>tm g (by simp[ey.dC,W]) g hm rfl;have sl:((n.kids.map aw.b).map λn=>hn (some ⟨n,0,none⟩))[x.toNat]?=some (.pointer (some ⟨k.b,0,none⟩)):=by simp[hk]
  obtain⟨p,ad,fP⟩:=Z2.at'|>.resolve_left (λe=>by rw[e] at sl;simp at sl);have oP:=fP _ _ sl;obtain⟨cq,cH⟩:=Fy hk;have j0:k.own.Nodup:=fK.sublist (Ua (ie (f:=aw.own) (dB hk)));have NV:k.bR.length<=10000000:=by
   have h1:n.bR.length=1+(n.kids.flatMap aw.bR).length:=by rw[aw.iI,hX];omega
   have h2:k.bR.length<=(n.kids.flatMap aw.bR).length:=(Ua (ie (f:=aw.bR) (dB hk))).length_le;omega
  refine⟨p,by rw[FX];exact ad,⟨bK,by omega⟩,_,by unfold aR;rw[wu];exact oP,_,k5.cell c1,.inl ⟨_,_,_,rfl,hd Ln,?_⟩⟩;refine aM k (dB hk) k5 (v7 x.toNat k (cC _) hk) j0 (λc I=>iq c (lC _ (cH c I))) (λy ai=>lo y (cq y ai)) NV λw' d ar eL IG=>?_;have N2:ub.le w':=λc z I=>eL c z (k5 c z I) λe=>by rw[iq c (lC _ (cH c e))] at I;cases I
  have other:∀{i:N} {dV:aw},n.kids[i]?=some dV->i≠x.toNat->∀c∈dV.own,c∉k.own:=λdJ an c I=>agv fK dJ hk an I;refine⟨⟨by omega,by omega⟩,⟨by omega,by omega,λc z I hm=>eL c z (to c z I hm) λe=>hm (cH c e),λc I=>IG c (pq c I),ds++ [d],by rw[eD,y7];simp;omega,λi gN dV oo dJ=>?_,λi dV hi dJ y ai=>?_⟩,by dsimp only;omega⟩;by_cases e:i<ds.length;rw[qY e] at oo;have hold:=si i gN dV oo dJ;have an:=other dJ (by omega);refine⟨λy ai=>(hold.one y ai).bS (λc z I ab=>eL c z ab (an c (by rw[<-hold.own];exact ep.2 ⟨y,ai,I⟩))) λr O=>?_,hold.own,hold.b,hold.bF,hold.rows⟩;obtain⟨Y,aC,nI⟩:=hold.rows y ai r O;exact(lo Y ((Fy dJ).1 Y aC) r nI).mono N2;have eU:i<(ds++ [d]).length:=(iB.1 oo).1;rw[eD,r4] at eU;have s7:i=x.toNat:=by omega
  rw[JS (by omega),show i-ds.length=0 by omega] at oo;obtain rfl:=cX (show some d=some gN from oo);rw[s7,hk] at dJ;obtain rfl:=cX dJ;exact ar;refine(v7 i dV (by omega) dJ y ai).bS (λc z I ab=>eL c z ab (other dJ (by omega) c (ep.2 ⟨y,ai,I⟩))) λr O=>(lo y ((Fy dJ).1 y ai) r O).mono N2;have fh:x.toNat=n.kids.length:=by omega
  have at7:ds.length=n.kids.length:=by omega
  have EP:∀{γ:Type} (f g:aw->γ),(∀(i:N) d k,ds[i]?=some d->n.kids[i]?=some k->f d=g k)->ds.map f=n.kids.map g:=λf g MK=>by apply sB;intro i;rw[jq,jq];by_cases e:i<ds.length;have h1:ds[i]?=some ds[i]:=cy e;have h2:n.kids[i]?=some n.kids[i]:=cy (by omega);rw[h1,h2,u4,u4,MK i _ _ h1 h2];rw[iO (by omega),iO (by omega)];rfl
  have CN:ds.map aw.b=n.kids.map aw.b:=EP _ _ λi d k h1 h2=>(si i d k h1 h2).b;have Xs:ds.flatMap aw.own=n.kids.flatMap aw.own:=by rw[Ke,Ke,EP aw.own aw.own λi d k h1 h2=>(si i d k h1 h2).own]
  have ET:ds.map aw.bF=n.kids.map λk=>k.bF.del id:=EP _ _ λi d k h1 h2=>(si i d k h1 h2).bF;have mem:∀d∈ds,∃k∈n.kids,HD id k w d:=λd ar=>by obtain⟨i,hi,rfl⟩:=oG ar;exact⟨_,kD (show i<n.kids.length by omega),si i _ _ (cy hi) (cy (by omega))⟩
  refine av w (.mk bW ds) ⟨λy ai=>?_,?_,eQ,?_,λy ai r O=>?_⟩ (λc z I hm=>?_) λc I=>pq c (aa4 c I);rw[aw.iI] at ai;rcases cP.1 ai with rfl|ai;refine(Mm _ CN).bS (λc z I ab=>to c z ab λhm=>tm c (by rw[<-Mu];exact I) c hm rfl) λr O=>?_;have dz:r∈n.h.rows:=by rw[mi] at O;exact(iX.1 O).1
  exact(lo _ b5 r dz).mono k5;obtain⟨d,ar,ai⟩:=ep.1 ai;obtain⟨k,_,hk⟩:=mem d ar;exact hk.one y ai;rw[aw.rT,aw.rT];show bW.dC++ds.flatMap aw.own=_;rw[Mu,Xs];rw[aw.hD,aw.hD,bJ.del_eq];show bJ.mk bW.aI bW.bm bW.hi bW.cA (bW.rows.map az.bL) (ds.map aw.bF)=bJ.mk n.h.aI n.h.bm n.h.hi n.h.cA ((n.h.rows.map az.bL).filter λx=>x.1 !=id) ((n.kids.map aw.bF).map (bJ.del id));rw[ET,eh,sJ,mi];rfl;rw[aw.iI] at ai;rcases cP.1 ai with rfl|ai;have dz:r∈n.h.rows:=by have:r∈bW.rows:=O;rw[mi] at this;exact(iX.1 this).1
  exact⟨_,b5,dz⟩;obtain⟨d,ar,ai⟩:=ep.1 ai;obtain⟨k,sm,hk⟩:=mem d ar;obtain⟨Y,aC,nI⟩:=hk.rows y ai r O;exact⟨Y,by rw[aw.iI];exact gh _ (ep.2 ⟨k,sm,aC⟩),nI⟩;rw[aw.rT] at hm;exact to c z (gA c z I λh=>hm (iA _ h)) λh=>hm (lC _ h)
def Hd{c3 src:N}{leaf:o}{l:M az}{K:aA bc->H->Prop}(A1:1<=leaf)(q9:ub.cell? ((cw c3 0 none).add 1)=some (.int .i64 leaf))(cr:ub.cell? ((cw c3 0 none).add 2)=some (.pointer (some ⟨src,0,none⟩)))(Bo:ub src=none)(dY:Aq u src)(v8:s.al≠some src)
  (ab:aK ub u 52 2 s (l.flatMap cO)) (aB:∀r∈l,Ints ub r.s r.v) (bH:hp l d) (h0:l=[]->∀u',u.le u'->K none u') (av:l≠[]->∀u' n,np ub u src s l d u' n->K (some ⟨n.b,0,none⟩) u'):HC (some ⟨c3,0,none⟩) s u K:=by
 have ci:=ab.le
 apply aFR
 intro n0 e1 b8 gn
 obtain⟨fi,jM⟩:∃fi,fi=(bj #[hn (some ⟨c3,0,none⟩)] 116 (0,0)):=⟨_,rfl⟩
 rw[<-jM] at gn ⊢
 have uC:n0≠b8:=λe=>by rw[<-e,bi] at gn;cases gn
 have FH:u b8=none:=by rw[bq _ _ (dG uC)] at gn;exact gn
 refine nh (zs:=[.nilFunc]) rfl (by simp[cK]) ?_
 obtain⟨en,j1⟩:∃en,en=(bj [yM n0 b8].toArray 170 (0,0)):=⟨_,rfl⟩
 rw[<-j1]
 obtain⟨cQ,qP⟩:∃cQ,cQ=(u.ins n0 fi).ins b8 en:=⟨_,rfl⟩
 rw[<-qP]
 have zu:u.le cQ:=by rw[qP];exact(bZ _ e1).trans (bZ _ gn)
 have d0:cQ n0=some fi:=by rw[qP,bq _ _ uC,bi]
 have d1:cQ b8=some en:=by rw[qP,bi]
 obtain⟨gG,F3⟩:∃gG:H,gG=λc=>if c=n0 then some fi else if c=b8 then some en else ub c:=⟨_,rfl⟩
 have fA:gG n0=some fi:=by rw[F3];exact a1 rfl
 have ga:gG b8=some en:=by rw[F3];show(if b8=n0 then _ else if b8=b8 then _ else _)=_;rw[aG (dG uC),a1 rfl]
 have fu:∀{c},c≠n0->c≠b8->gG c=ub c:=λ{c} h1 h2=>by rw[F3];show(if c=n0 then _ else if c=b8 then _ else _)=_;rw[aG h1,aG h2]
 have qR:ub.le gG:=λc z I=>by rw[fu (λe=>by rw[e,ci.none e1] at I;cases I) (λe=>by rw[e,ci.none FH] at I;cases I)];exact I
 have Oo:gG.le cQ:=λc z I=>by by_cases eK:c=n0;rw[eK,fA] at I;rw[eK,d0];exact I;by_cases aQ:c=b8;rw[aQ,ga] at I;rw[aQ,d1];exact I;rw[fu eK aQ] at I;exact zu c z (ci c z I)
 have dP:aK gG cQ 52 2 s (l.flatMap cO):=⟨(ab.mono zu).own,Oo,λg W=>by rw[fu (λe=>dL ab W (by rw[e];exact e1)) (λe=>dL ab W (by rw[e];exact FH))];exact ab.fresh g W⟩
 have cb:wW gG n0 b8 c3 src leaf:=⟨by rw[jM] at fA;exact a8 fA 0,by rw[j1] at ga;exact a8 ga 0,H.le.cell qR q9,H.le.cell qR cr⟩
 obtain⟨st,dY⟩:=dY
 have aCX:gG src=none:=by rw[fu (λe=>by rw[<-e,dY] at e1;cases e1) (λe=>by rw[<-e,dY] at FH;cases FH)];exact Bo
 refine⟨_,H.le.cell Oo cb.c1,.inl ⟨_,_,_,rfl,hd Lm,?_⟩⟩
 exact ac6 A1 l.length (cC _) cb aCX ⟨st,zu _ _ dY⟩ v8 dP (λr O=>(aB r O).mono qR) bH (λe=>h0 e cQ zu) λan u' n I=>av an u' n ⟨I.one,I.nodup,λc hm=>⟨qR.none (I.out c hm).1,(I.out c hm).2⟩,I.all,I.ok,I.rows,I.size,λc z h1 h2 h3=>I.ue c z (zu c z h1) h2 h3,I.src,I.oI,I.bin⟩
inductive bx where
 |tree|map|node|vec|src
structure aS where
 aq:o
 leaf:o
 src:N
 root:aA aw
 m:N
 w:M (o×(U×M o))
 e4:N
def aS.b9(T:aS):o:=T.leaf
def fx(T:aS):M ao:=[.int .i64 T.aq,.int .i64 T.leaf,.pointer (some ⟨T.src,0,none⟩),.pointer (T.root.map λn=>⟨n.b,0,none⟩),.map (some T.m)]
def eb(w:M (o×(U×M o))):M (o×ao):=w.map λe=>(e.1,.slice e.2.1.a e.2.1.n e.2.1.c)
structure ec(af:N->aA bx)(u:H)(b:N)(T:aS):Prop where
 cell:u b=some (.cells (fx T).toArray 174 (0,0))
 dR:af b=some .tree
 map:fz u T.m (eb T.w)
 dr:af T.m=some .map
 src:Aq u T.src
 ih:af T.src=some .src
 vec:∀e∈T.w,Ints u e.2.1 e.2.2/\∀g,e.2.1.al=some g->af g=some .vec
 one:∀n,T.root=some n->(∀x∈n.bR,hT u x)/\n.own.Nodup/\(∀c∈n.own,af c=some .node)/\∀x∈n.bR,∀r∈x.1.rows,∀g,r.s.al=some g->af g=some .vec
def ec.bS{af aY:N->aA bx}{T:aS}(h:ec af u b T)(ac:∀c,af c≠none->aY c=af c)(hu:∀c z,u c=some z->af c≠none->u' c=some z):ec aY u' b T where
 cell:=hu _ _ h.cell (by rw[h.dR];simp)
 dR:=by rw[ac _ (by rw[h.dR];simp)];exact h.dR
 map:=h.map.else λz ab=>hu _ _ ab (by rw[h.dr];simp)
 dr:=by rw[ac _ (by rw[h.dr];simp)];exact h.dr
 src:=h.src.elim λst ag=>⟨st,hu _ _ ag (by rw[h.ih];simp)⟩
 ih:=by rw[ac _ (by rw[h.ih];simp)];exact h.ih
 vec e he:=by obtain⟨h1,h2⟩:=h.vec e he;exact⟨bz.else h1 λg z W ab=>hu g z ab (by rw[h2 g W];simp),λg W=>by rw[ac g (by rw[h2 g W];simp)];exact h2 g W⟩
 one n ae:=by obtain⟨h1,h2,h3,a7⟩:=h.one n ae;refine⟨λx J=>(h1 x J).bS (λc z I ab=>hu c z ab (by rw[h3 c (ep.2 ⟨x,J,I⟩)];simp)) λr O=>bz.else ((h1 x J).vec r O) λg z W ab=>hu g z ab (by rw[a7 x J r O g W];simp),h2,λc I=>by rw[ac c (by rw[h3 c I];simp)];exact h3 c I,λx J r O g W=>by rw[ac g (by rw[a7 x J r O g W];simp)];exact a7 x J r O g W⟩
def bS:yx ec:=⟨λh ac hu=>h.bS ac hu⟩
abbrev In:=mG ec
def lD(T:aS):M j6:=match T.root with
 |none=>[]|some n=>n.bF.all
def a6(X:aS):M (o×M o):=X.w.map λe=>(e.1,e.2.2)
structure dU(T:aS):Prop where
 hB:1<=T.aq/\T.aq<=64
 Bx:1<=T.leaf/\T.leaf<=64
 ids:∀e∈T.w,1<=e.1/\e.1<=1000000000
 vec:∀e∈T.w,(e.2.2.length:o)=T.aq/\c8 e.2.2
 small:T.w.length<=512
 rows:(lD T).Perm (a6 T)
 ok:∀n,T.root=some n->gx T.aq n.bF
 oI:∀n,T.root=some n->lH 3 n.bF
 bin:∀n,T.root=some n->jX n.bF
 size:∀n,T.root=some n->n.bR.length<=1100*T.e4+2000
def je:ns aH 125 3 30 (.slice none 0 0):=⟨by kernel_rfl,by kernel_rfl,λ_=>by kernel_rfl⟩
def LM(T:aS):(eb T.w).length=(a6 T).length:=by simp[eb,a6]
def ec.r8{af:N->aA bx}{T:aS}(h:ec af u b T):((a6 T).map (·.1)).Nodup:=by obtain⟨es,cl,_,he⟩:=h.map;have:=he.nodup;unfold eb at this;rw[eh] at this;unfold a6;rw[eh];exact this
def B5{af:N->aA bx}{T:aS}{K:o->H->Prop}(h:In aj u af b T)(av:K (a6 T).length u):aeP (some ⟨b,0,none⟩) u K:=by apply aFN;refine⟨λe=>(by cases e),λ_=>⟨_,rfl,_,a8 h.aJ.cell 4,vk je h.aJ.map ?_⟩⟩;rw[LM];exact av
structure Al(aj u:H)(af:N->aA bx)(b:N)(T:aS)(id:o)(u':H)(aY:N->aA bx)(bB:aS):Prop where
 is:In aj u' aY b bB
 eX:hU u af u' aY
 ok:dU bB
 rows:a6 bB=(a6 T).filter λx=>x.1 !=id
 aq:bB.aq=T.aq
 leaf:bB.leaf=T.leaf
 e4:bB.e4=T.e4
def tc(w:M (o×(U×M o)))(x:o):(fD (eb w) x=none/\x∉w.map (·.1))∨∃e,e∈w/\e.1=x/\fD (eb w) x=some (.slice e.2.1.a e.2.1.n e.2.1.c):=by
 cases h:fD (eb w) x with
 |none=>left;have:=xh.1 h;unfold eb at this;rw[eh] at this;exact⟨rfl,this⟩|some v=>right;have:=L0 h;obtain⟨e,he,aF⟩:=bk.1 this;have cW:e.1=x:=eB sI aF;have fJ:ea e.2.1.a e.2.1.n e.2.1.c=v:=eB tH aF;exact⟨e,he,cW,by rw[fJ]⟩
def nN(T:aS):(a6 T).map (·.1)=T.w.map (·.1):=by unfold a6;rw[eh];rfl
def CS(w:M (o×(U×M o)))(id:o):(eb w).filter (λp=>p.1 !=id)=eb (w.filter λe=>e.1 !=id):=by unfold eb;rw[sJ];rfl
def wH{af:N->aA bx}{T:aS}{id:o}(h:In aj u af b T)(aT:dU T)(kc:T.e4<=4000)(eg:id∉T.w.map (·.1)->∀u',u.le u'->K ax 0 u')
  (ky:id∈T.w.map (·.1)->∀u' aY bB,Al aj u af b T id u' aY bB->K ak 0 u'):QM (some ⟨b,0,none⟩) id u K:=by
 apply aFK
 intro n0 e1
 obtain⟨aU,hj⟩:∃aU,aU=u.ins n0 (.cells #[.int .i64 id] 3 (0,0)):=⟨_,rfl⟩
 have ej:u.le aU:=by rw[hj];exact bZ _ e1
 have d0:aU n0=some (.cells #[.int .i64 id] 3 (0,0)):=by rw[hj];exact bi _ _ _
 rw[<-hj]
 have i1:=mG.mono bS h ej
 have aJ:=i1.aJ
 refine⟨λe=>(by cases e),λ_=>⟨_,rfl,_,a8 aJ.cell 4,id,a8 d0 0,?_⟩⟩
 rcases tc T.w id with⟨W,hm⟩|⟨e,he,cm,W⟩
 refine tM je aJ.map (ct:=.slice) (⟨none,0,0⟩:U) (by rw[W];rfl) ⟨λ_=>eg hm aU ej,λJ=>?_⟩
 rw[W] at J;cases J
 have cb:id∈T.w.map (·.1):=bk.2 ⟨e,he,cm⟩
 refine tM je aJ.map (ct:=.slice) e.2.1 (by rw[W];rfl) ⟨λJ=>?_,λ_=>?_⟩
 rw[W] at J;exact aV rfl J
 refine⟨_,rfl,_,a8 aJ.cell 4,id,a8 d0 0,?_⟩
 refine Ks je aJ.map λz iL=>?_
 obtain⟨hQ,uN⟩:∃hQ,hQ=aU.ins T.m z:=⟨_,rfl⟩
 rw[<-uN] at iL ⊢
 have jO:∀{c},af c≠some .map->c≠T.m:=λI e=>I (by rw[e];exact aJ.dr)
 have LF:∀c z,aU c=some z->c≠T.m->hQ c=some z:=λc b7 I an=>by rw[uN,bq _ _ an];exact I
 have m10:hQ T.m=some z:=by rw[uN];exact bi _ _ _
 have abv:n0≠T.m:=λe=>by have:=h.known T.m (by rw[h.aJ.dr];simp);rw[<-e] at this;exact this e1
 intro n11 uD
 refine nh (zs:=[.nilFunc]) rfl (by simp[cK]) ?_
 obtain⟨rS,qL⟩:∃rS,rS=(bj [iQ (.func 276) #[] #[.pointer (some ⟨n0,0,none⟩),.pointer (some ⟨n11,0,none⟩)]].toArray 324 (0,0)):=⟨_,rfl⟩
 rw[<-qL]
 obtain⟨gK,xJ⟩:∃gK,gK=hQ.ins n11 rS:=⟨_,rfl⟩
 rw[<-xJ]
 have rN:hQ.le gK:=by rw[xJ];exact bZ _ uD
 have d11:gK n11=some rS:=by rw[xJ];exact bi _ _ _
 have pe:∀c b7,aU c=some b7->c≠T.m->gK c=some b7:=λc b7 I an=>rN c b7 (LF c b7 I an)
 have Lq:gK b=some (.cells (fx T).toArray 174 (0,0)):=pe b _ aJ.cell (jO (by rw[aJ.dR];simp))
 obtain⟨n,ae⟩:∃n,T.root=some n:=by
  cases O:T.root with
  |some n=>exact⟨n,rfl⟩|none=>have h1:=aT.rows.length_eq;unfold lD at h1;rw[O] at h1;have h2:=Ub he;simp[a6] at h1;omega
 obtain⟨cV,dc,dh,fL⟩:=aJ.one n ae
 have ur:gK.cell? ((cw b 0 none).add 3)=some (.pointer (some ⟨n.b,0,none⟩)):=by
  have J:fx T=[.int .i64 T.aq,.int .i64 T.leaf,.pointer (some ⟨T.src,0,none⟩),.pointer (some ⟨n.b,0,none⟩),.map (some T.m)]:=by simp[fx,ae]
  rw[J] at Lq;exact a8 Lq 3
 refine⟨_,rfl,_,by rw[qL] at d11;exact a8 d11 0,_,ur,_,_,_,rfl,hd Ln,?_⟩
 obtain⟨ub,ci⟩:∃ub:H,ub=λc=>open Classical in if c∈n.own then none else gK c:=⟨_,rfl⟩
 have yo:∀{c},c∈n.own->ub c=none:=λI=>by rw[ci];exact a1 I
 have gG:∀{c},c∉n.own->ub c=gK c:=λI=>by rw[ci];exact aG I
 have lub:ub.le gK:=λc b7 I=>by by_cases e:c∈n.own;rw[yo e] at I;cases I;rw[gG e] at I;exact I
 have lL:∀{c},af c≠some .node->c∉n.own:=λI e=>I (dh _ e)
 have abw:n0∉n.own:=λe=>h.known n0 (by rw[dh n0 e];simp) e1
 have abx:n11∉n.own:=λe=>by have h1:=i1.known n11 (by rw[dh n11 e];simp);obtain⟨b7,bQ⟩:=fj.1 h1;have:=LF n11 b7 bQ (jO (by rw[dh n11 e];simp));rw[uD] at this;cases this
 have pj:ub.cell? ⟨n0,0,none⟩=some (.int .i64 id):=by
  have z0:ub n0=some (.cells #[.int .i64 id] 3 (0,0)):=by rw[gG abw];exact pe _ _ d0 abv
  exact a8 z0 0
 have h9:ub.cell? ⟨n11,0,none⟩=some (.func (.func 276) #[] #[.pointer (some ⟨n0,0,none⟩),.pointer (some ⟨n11,0,none⟩)]):=by
  have iY:ub n11=some rS:=by rw[gG abx];exact d11
  rw[qL] at iY;exact a8 iY 0
 have jn:∀x∈n.bR,hT gK x:=λx J=>(cV x J).bS (λc b7 I bQ=>pe c b7 bQ (jO (by rw[dh c (ep.2 ⟨x,J,I⟩)];simp))) λr O=>bz.else ((cV x J).vec r O) λg b7 W bQ=>pe g b7 bQ (jO (by rw[fL x J r O g W];simp))
 have lo:∀x∈n.bR,∀r∈x.1.rows,Ints ub r.s r.v:=λx J r O=>bz.else ((cV x J).vec r O) λg b7 W bQ=>by rw[gG (lL (by rw[fL x J r O g W];simp))];exact pe g b7 bQ (jO (by rw[fL x J r O g W];simp))
 have c0:=aT.size n ae
 refine ac7 pj h9 n lub jn dc (λc I=>yo I) lo (by omega) λu16 n' ar eL j0=>?_
 have yO:∀c b7,aU c=some b7->c≠T.m->c∉n.own->u16 c=some b7:=λc b7 I an Zp=>eL c b7 (pe c b7 I an) Zp
 have WE:u16 b=some (.cells (fx T).toArray 174 (0,0)):=yO b _ aJ.cell (jO (by rw[aJ.dR];simp)) (lL (by rw[aJ.dR];simp))
 have Ze:fz u16 T.m (eb (T.w.filter λe=>e.1 !=id)):=by rw[<-CS];exact iL.else λb7 bQ=>eL _ _ (rN _ _ bQ) (lL (by rw[aJ.dr];simp))
 have adY:∀{s:U} {v:M o},Ints aU s v->(∀g,s.al=some g->af g=some .vec)->Ints u16 s v:=λhi W=>bz.else hi λg b7 ca bQ=>yO g b7 bQ (jO (by rw[W g ca];simp)) (lL (by rw[W g ca];simp))
 obtain⟨bB,ez⟩:∃bB:aS,bB={T with root:=some n',w:=T.w.filter λe=>e.1 !=id}:=⟨_,rfl⟩
 have AY:a6 bB=(a6 T).filter λx=>x.1 !=id:=by rw[ez];unfold a6;rw[sJ];rfl
 have aaT:∀c,aU c≠none->u16 c≠none:=λc I=>j0 c λe=>by by_cases aF:c=T.m;rw[aF,rN _ _ m10] at e;cases e;obtain⟨b7,bQ⟩:=fj.1 I;rw[pe c b7 bQ aF] at e;cases e
 refine ky cb u16 af bB ⟨⟨?_,λc b7 I=>?_,h.out,λc I=>aaT c (i1.known c I)⟩,⟨λc b7 I ac=>yO c b7 (ej c b7 I) (jO (by rw[ac];simp)) (lL (by rw[ac];simp)),λc I=>.inl I⟩,?_,AY,by rw[ez],by rw[ez],by rw[ez]⟩
 subst ez
 refine⟨?_,aJ.dR,Ze,aJ.dr,aJ.src.elim λst ag=>⟨st,yO _ _ ag (jO (by rw[aJ.ih];simp)) (lL (by rw[aJ.ih];simp))⟩,aJ.ih,λfW gd=>?_,λek fK=>?_⟩
 rw[WE]
 simp[fx,ae,ar.b]
 obtain⟨v1,v2⟩:=aJ.vec fW (iX.1 gd).1
 exact⟨adY v1 v2,v2⟩
 obtain rfl:=cX (show some n'=some ek from fK)
 exact⟨ar.one,by rw[ar.own];exact dc,λc I=>dh c (by rw[<-ar.own];exact I),λx J r O g W=>by obtain⟨y,ai,NI⟩:=ar.rows x J r O;exact fL y ai r NI g W⟩
 have MH:=h.out
 have h1:=h.le c b7 I
 have ac:af c=none:=by
  cases e:af c with
  |none=>rfl|some t=>have:=h.out c (by rw[e];simp);rw[I] at this;cases this
 exact yO c b7 (ej c b7 h1) (jO (by rw[ac];simp)) (lL (by rw[ac];simp))
 have I0:=aT.ok n ae
 refine⟨by rw[ez];exact aT.hB,by rw[ez];exact aT.Bx,λfW gd=>?_,λfW gd=>?_,?_,?_,λek fK=>?_,λek fK=>?_,λek fK=>?_,λek fK=>?_⟩
 rw[ez] at gd;exact aT.ids fW (iX.1 gd).1
 rw[ez] at gd ⊢;exact aT.vec fW (iX.1 gd).1
 rw[ez];exact jo (yf _ _) aT.small
 rw[AY]
 have O:=aT.rows
 rw[ez]
 unfold lD at O ⊢
 rw[ae] at O
 show n'.bF.all.Perm _
 rw[ar.bF,bJ.Xa]
 exact O.filter _
 rw[ez] at fK ⊢
 obtain rfl:=cX (show some n'=some ek from fK)
 rw[ar.bF]
 exact bJ.afU I0
 rw[ez] at fK
 obtain rfl:=cX (show some n'=some ek from fK)
 rw[ar.bF]
 exact(aT.oI n ae).del
 rw[ez] at fK
 obtain rfl:=cX (show some n'=some ek from fK)
 rw[ar.bF]
 exact(aT.bin n ae).del
 rw[ez] at fK ⊢
 obtain rfl:=cX (show some n'=some ek from fK)
 rw[<-aw.JJ,ar.bF,bJ.afV,aw.JJ]
 exact c0
def py{α:Type}:∀{a b:M α},a.Nodup->(∀x∈a,x∈b)->a.length<=b.length/\(b.length<=a.length->a.Perm b)
 | [],b,_,_=>⟨q0 _,λh=>by have:b=[]:=kS (by simpa using h);rw[this]⟩|x::a,b,ae,ag=>by
  obtain⟨s,t,rfl⟩:=acn (ag x (gr ..));rw[h6] at ae;have gy:∀y∈a,y∈s++t:=λy ai=>by have:=ag y (gh _ ai);rw[cM,cP] at this;rw[cM];rcases this with h|rfl|h;exact .inl h;exact aV ai ae.1;exact .inr h
  obtain⟨h1,h2⟩:=py ae.2 gy;rw[eD] at h1 h2;refine⟨by simp;omega,λap=>?_⟩;have:=h2 (by simp at ap;omega);exact(j3 x this).trans BX.symm
def zz{α β:Type}{f:α->β}:∀{l:M α},(l.map f).Nodup->l.Nodup
 | [],_=>.nil|x::l,h=>by rw[gR,h6] at h;rw[h6];exact⟨λJ=>h.1 (ie J),zz h.2⟩
def z7{af:N->aA bx}{T:aS}{K:U->H->Prop}(h:In aj u af b T)(aT:dU T)(av:∀s ls u',sb u u' s ls->(ls.map az.bL).Perm (a6 T)->(ls.Pairwise λa b=>a.id<=b.id)->K s u'):
  aeR (some ⟨b,0,none⟩) u K:=by
 have gf:=aT.small
 apply aFP
 refine⟨λe=>(by cases e),λ_=>⟨_,rfl,_,a8 h.aJ.cell 4,Kt je h.aJ.map λr z O xt=>?_⟩⟩
 have iy:=bZ (u:=u) (b:=r) z O
 refine⟨λs w=>∃rw:M az,nq w r T.m (eb T.w) (rw.map λx=>(x.id,.slice x.s.a x.s.n x.s.c))/\aK u w 52 2 s (rw.flatMap cO)/\s.al≠some r/\∀x∈rw,(x.id,(x.s,x.v))∈T.w,λs _=>1000000-s.n,
  ⟨[],xt,aK.nil iy _ _,by simp[U.al],λx J=>(by cases J)⟩,?_⟩
 rintro s w ⟨rw,iK,ab,rI,k3⟩
 have dM:s.n=rw.length:=gU fM (by decide) ab.own.cI
 have k1:rw.length<=512:=by have h1:=iK.sub;have h2:=iK.CL;rw[eh] at h2;have h3:(rw.map (·.id)).length<=(T.w.map (·.1)).length:=(py h2 λx J=>by obtain⟨y,ai,rfl⟩:=bk.1 J;exact bk.2 ⟨_,k3 y ai,rfl⟩).1;rw[dj,dj] at h3;omega
 refine JC iK (λib=>?_) λp hW ad A8 p3=>?_
 have b4:eF w s rw:=⟨ab.own.cI,λx J=>((h.aJ.vec _ (k3 x J)).1).mono ab.le⟩
 have mU:(rw.map az.bL).Perm (a6 T):=by
  have b3:=iK.CL;rw[eh] at b3;have hlen:=ib.length_eq;simp only[dj,eb] at hlen;have ou:(T.w.map (·.1)).Nodup:=by rw[<-nN];exact h.aJ.r8
  have gW:∀x∈rw.map az.bL,x∈a6 T:=λx J=>by obtain⟨y,ai,rfl⟩:=bk.1 J;exact bk.2 ⟨_,k3 y ai,rfl⟩
  have tm:(rw.map az.bL).Nodup:=by have:(rw.map (·.id)).Nodup:=b3;rw[show rw.map (·.id)=(rw.map az.bL).map (·.1) by rw[eh];rfl] at this;exact zz this
  exact(py tm gW).2 (by simp[a6];omega)
 refine z8 b4 (λx J=>aT.ids _ (k3 x J)) (by omega) (λx J=>?_) λs2 ls cQ lW eJ dQ=>?_
 have mg:(x.v.length:o)=T.aq:=(aT.vec _ (k3 x J)).1
 have:=aT.hB
 omega
 exact av s2 ls cQ ⟨lW.own.weaken ab.le,λr O=>(lW.inner r O).weaken ab.le,lW.eG,lW.apart⟩ (eJ.trans mU) dQ
 obtain⟨e,he,NA⟩:=bk.1 ad
 subst NA
 refine H2 p3 ?_
 have dP:aK u (w.ins r hW) 52 2 s (rw.flatMap cO):=ab.xO O rI hW
 refine nV kk (xa e.1 e.2.1) (by decide) rfl (by simp[cK]) dP (by show s.n<_;omega) (by show(s.n+1)*_<=_;omega) λau u' bQ h5 gd eA _=>⟨⟨rw++ [⟨e.1,e.2.1,e.2.2⟩],?_,?_,λaF=>?_,λx J=>?_⟩,?_⟩
 rw[er]
 refine p3.else (λb7 ml=>gd _ _ ml λcW=>?_) λb7 ml=>gd _ _ ml rI
 have:=ab.fresh _ cW
 exact h.known T.m (by rw[h.aJ.dr];simp) this
 rw[gZ];exact bQ
 rcases eA r aF with a7|a7
 exact rI a7
 rw[bi] at a7;cases a7
 rcases cM.1 J with J|J
 exact k3 x J
 obtain rfl:=gp.1 J
 exact he
 show 1000000-au.n<1000000-s.n
 omega
def parts(X:aS):M bJ:=(X.root.map aw.bF).toList
def ad2(X:aS)(q:M o)(k bud:o):mK:=o6 q k bud (parts X)
def ix(X:aS)(q:M o)(k bud:o):M bP:=yn q k (ad2 X q k bud)
def gg(X:aS)(q:M o)(k bud:o):M o:=dS ((ad2 X q k bud).seen.map (·.1))
def jN(X:aS)(q:M o)(k bud:o):M (o×o×M o×M o×M o):=(oz (ad2 X q k bud)).map pT
def GB(X:aS):bJ.jY (parts X)=lD X:=by
 unfold parts lD;cases X.root with
 |none=>rfl|some n=>show n.bF.all++ []=_;rw[lB]
def adE:kI aH 211=some (167,1,8,[.pointer none]):=by kernel_rfl
def WR(n:N):kH aH 211 1 #[(0,.pointer (some ⟨n,0,none⟩))]=some (167,[.pointer (some ⟨n,0,none⟩)]):=by kernel_rfl
def Hc{af:N->aA bx}{T:aS}{t:U}{k bud:o}{K:U->U->U->o->H->Prop}(h:In aj u af b T)(aT:dU T)(kc:T.e4<=2700)(ht:Ints u t q)
  (dq:hZ q T.aq k bud≠0->K ⟨none,0,0⟩ ⟨none,0,0⟩ ⟨none,0,0⟩ (hZ q T.aq k bud) u)
  (bH:hZ q T.aq k bud=0->∀aI ss bd rest u',jW u u' aI ss bd (ix T q k bud) (gg T q k bud) rest->rest.map cn.core=jN T q k bud->K aI ss bd 0 u'):aeS (some ⟨b,0,none⟩) t k bud u K:=by
 apply aFQ
 refine⟨λe=>(by cases e),λ_=>⟨_,rfl,_,a8 h.aJ.cell 0,Kv ht ⟨λan=>dq an,λhe=>?_⟩⟩⟩
 obtain⟨aB,cq,cH,fA,ga⟩:=w6.1 he
 obtain⟨_,_,qM,zk⟩:=oL aB
 have bH:=bH he
 have xl:(bJ.jY (parts T)).length<=100000:=by rw[GB,aT.rows.length_eq];have:=aT.small;simp[a6];omega
 have kf:∀x∈bJ.jY (parts T),(x.2.length:o)=q.length/\c8 x.2:=λx J=>by rw[GB] at J;obtain⟨e,gd,rfl⟩:=bk.1 (aT.rows.mem_iff.1 J);obtain⟨v1,v2⟩:=aT.vec e gd;exact⟨by rw[v1,qM],v2⟩
 have c0:bJ.hF (parts T)<=4000000:=by
  unfold parts;cases O:T.root with
  |none=>show 0<=_;omega|some n=>have:=aT.size n O;show n.bF.size+0<=_;rw[aw.JJ];omega
 have ZH:∀p∈parts T,gx q.length p:=λp ad=>by
  unfold parts at ad;cases O:T.root with
  |none=>rw[O] at ad;cases ad
  |some n=>
   rw[O] at ad;obtain rfl:p=n.bF:=by simpa using ad
   rw[qM];exact aT.ok n O
 have walk:∀(s:U) (ms:M N) (Y:H),u.le Y->bz Y s 1 (ms.map λn=>.pointer (some ⟨n,0,none⟩))->ms.length=(parts T).length->(∀(i:N) m p,ms[i]?=some m->(parts T)[i]?=some p->nu Y m p)->Eo s t k bud Y (λoH Pp gi pM=>K oH Pp gi 0 pM):=by intro s ms Y aC ag hlen ad;refine ac8 ag hlen ad ZH (ht.mono aC) zk cq cH fA ga c0 xl kf λaI ss bd R u' ay Fa=>bH aI ss bd R u' ?_ Fa;exact⟨ay.h.weaken aC,ay.s.weaken aC,ay.r.weaken aC,λr O=>⟨(ay.g r O).l.weaken aC,(ay.g r O).h.weaken aC,(ay.g r O).i.weaken aC⟩,ay.eG⟩
 obtain⟨sA,zg⟩:∃sA:aA bc,sA=T.root.map λn=>⟨n.b,0,none⟩:=⟨_,rfl⟩
 have Lv:u.cell? ((cw b 0 none).add 3)=some (.pointer sA):=by rw[zg];exact a8 h.aJ.cell 3
 refine⟨_,rfl,sA,Lv,λrz=>?_,λan=>⟨_,rfl,sA,Lv,?_⟩⟩
 cases O:T.root with
 |some n=>rw[O] at zg;rw[rz] at zg;cases zg
 |none=>exact walk ⟨none,0,0⟩ [] u (H.le.refl u) ⟨rfl,cC _,by decide,.inl rfl⟩ (by unfold parts;rw[O];rfl) λi m p hm=>by simp at hm
 cases O:T.root with
 |none=>rw[O] at zg;exact aV zg an
 |some n=>
  rw[O] at zg;rw[show sA=some ⟨n.b,0,none⟩ from zg];refine mA (WR n.b) λg W=>?_;obtain⟨cV,_⟩:=h.aJ.one n O;have ej:=bZ (u:=u) (b:=g) (.cells [hn (some ⟨n.b,0,none⟩)].toArray 167 (0,0)) W;have mk:=aK.make (k:=1) (H.le.refl u) W (cells:=[hn (some ⟨n.b,0,none⟩)].toArray) (e:=167) (n:=1) (by omega) rfl;refine walk _ [n.b] _ ej mk.own.cI (by unfold parts;rw[O];rfl) λi m p hm ad=>?_;have hi:i=0:=by have:=(iB.1 hm).1;simpa using this
  subst hi;obtain rfl:n.b=m:=cX hm;have jx:p=n.bF:=by unfold parts at ad;rw[O] at ad;exact(cX ad).symm
  rw[jx];exact(An.part cV).mono ej
def PR{X:aS}(h:dU X){k bud:o}(hk:1<=k)(aa:0<=bud)(ar:(q.length:o)=X.aq){L:M az}(c6:(L.map az.bL).Perm (a6 X))(aL:jt L q){rest:M cn}(O:rest.map cn.core=jN X q k bud):
  Sound L q k (ix X q k bud) (gg X q k bud) rest/\((gg X q k bud).length:o)<=bud/\(((gg X q k bud).length:o)=bud∨(gg X q k bud).length=L.length∨qw q k (ix X q k bud) rest):=by
 refine ad3 aa hk (λp ad=>?_) aL ?_ O
 unfold parts at ad
 cases dz:X.root with
 |none=>rw[dz] at ad;cases ad
 |some n=>
  rw[dz] at ad;obtain rfl:p=n.bF:=by simpa using ad
  rw[ar];exact h.ok n dz
 rw[GB]
 exact c6.trans h.rows.symm
def jy(l:M az)(aq a:o):o:=if o2 l aq≠0 then o2 l aq else if a<1∨64<a then 1 else 0
structure Ej(u:H)(l:M az)(hB a:o)(u':H)(dX:N)(af:N->aA bx)(T:aS):Prop where
 is:In u u' af dX T
 ok:dU T
 rows:(a6 T).Perm (l.map az.bL)
 aq:T.aq=hB
 leaf:T.leaf=a
 e4:T.e4=0
def pf(r:az):o×(U×M o):=(r.id,(r.s,r.v))
def PO{n src:N}{a:o}{p rU:aA bc}{m:aA N}(h:u n=some (.cells #[.int .i64 d,.int .i64 a,.pointer (some ⟨src,0,none⟩),.pointer p,.map m] 174 (0,0)))
  (ac:f (u.ins n (.cells #[.int .i64 d,.int .i64 a,.pointer (some ⟨src,0,none⟩),.pointer rU,.map m] 174 (0,0)))):H.aO u (eu (cw n 0 none) 3) [.pointer rU] f:=
 ⟨_,_,h,rfl,by simp[iP],by simp[cK],ac⟩
def PH{l:M az}{aq a e3:o}{K:aA bc->o->H->Prop}(ag:eF u s l)(dq:jy l aq a≠0->K none (jy l aq a) u)
  (bH:jy l aq a=0->∀u' dX af T,Ej u l aq a u' dX af T->K (some ⟨dX,0,none⟩) 0 u'):Wh s aq a e3 u K:=by
 have bad:∀Y,jy l aq a=Y->Y≠0->K none Y u:=λY e aC=>by subst e;exact dq aC
 apply aFJ
 refine Kw ag ⟨λan=>bad _ (by unfold jy;rw[a1 an]) an,λhe=>?_⟩
 have one:(a<1∨64<a)->K none 1 u:=λI=>bad 1 (by unfold jy;rw[aG (by simpa using he),a1 I]) (by decide)
 intro o9 h2
 refine⟨λh=>one (.inl h),λZ=>⟨λh=>one (.inr h),λa2=>h2 _ _ _ ?_⟩⟩
 have bH:=bH (by unfold jy;rw[aG (by simpa using he),aG (by omega)])
 clear bad one dq h2 o9
 have hC:=B0.1 he
 obtain⟨LA,LB⟩:=hC.aq
 have ais:=hC.len
 apply adV
 intro n6 qK
 obtain⟨tP,I9⟩:∃tP,tP=u.ins n6 (.cells #[.int .u64 e3] 215 (0,0)):=⟨_,rfl⟩
 have zr:u.le tP:=by rw[I9];exact bZ _ qK
 have d6:tP n6=some (.cells #[.int .u64 e3] 215 (0,0)):=by rw[I9];exact bi _ _ _
 rw[<-I9]
 refine D4 λm qa hm iL=>?_
 have A3:u m=none:=zr.none hm
 have RK:n6≠m:=λe=>by rw[<-e,d6] at hm;cases hm
 have qT:=bZ (u:=tP) (b:=m) qa hm
 obtain⟨jh,sr⟩:∃jh,jh=tP.ins m qa:=⟨_,rfl⟩
 have M9:jh m≠none:=by rw[sr,bi];simp
 rw[<-sr] at iL qT ⊢
 intro n8 ot
 have lY:n8≠m:=λe=>by rw[e] at ot;exact M9 ot
 have Zq:tP n8=none:=qT.none ot
 have vY:u n8=none:=zr.none Zq
 have L9:n6≠n8:=λe=>by rw[<-e,d6] at Zq;cases Zq
 obtain⟨l2,rG⟩:∃l2,l2=(bj #[.int .i64 aq,.int .i64 a,.pointer (some ⟨n6,0,none⟩),.pointer none,.map (some m)] 174 (0,0)):=⟨_,rfl⟩
 show r9 s (jh.ins n8 (bj #[.int .i64 aq,.int .i64 a,.pointer (some ⟨n6,0,none⟩),.pointer none,.map (some m)] 174 (0,0))) _
 rw[<-rG]
 have rP:=bZ (u:=jh) (b:=n8) l2 ot
 obtain⟨u8,pv⟩:∃u8,u8=jh.ins n8 l2:=⟨_,rfl⟩
 have ug:u8 n8=some l2:=by rw[pv];exact bi _ _ _
 rw[<-pv] at rP ⊢
 have Df:u8 m≠none:=λe=>M9 (rP.none e)
 have Bz:u.le u8:=zr.trans (qT.trans rP)
 have d68:u8 n6=some (.cells #[.int .u64 e3] 215 (0,0)):=rP _ _ (qT _ _ d6)
 refine z8 (ag.mono Bz) hC.id (by omega) (λr O=>by have:=(hC.v r O).1;omega) λha ls hQ b4 ad qO=>?_
 have Iq:ls.length=l.length:=by simpa using ad.length_eq
 have A2:hp ls aq:=by refine D1 hC.aq (by omega) ?_ λp jx=>?_;rw[show ls.map (·.id)=(ls.map az.bL).map (·.1) by rw[eh];rfl,(ad.map (·.1)).nodup_iff,eh];exact hC.nodup;obtain⟨r,O,rfl⟩:=bk.1 (ad.mem_iff.1 jx);exact⟨(hC.id r O).1,(hC.id r O).2,(hC.v r O).1,(hC.v r O).2⟩
 have tu:=b4.own.le
 have agU:ha.n=ls.length:=b4.rws.len
 have Bf:ha.al≠some m:=λe=>Df (b4.own.fresh m e)
 have NL:ha.al≠some n8:=λe=>by have:=b4.own.fresh n8 e;rw[ug] at this;cases this
 have fp:∀r∈ls,r.s.al≠some m:=λr O e=>Df ((b4.inner r O).fresh m e)
 have ZR:∀r∈ls,r.s.al≠some n8:=λr O e=>by have:=(b4.inner r O).fresh n8 e;rw[ug] at this;cases this
 have awg:ha.al≠some n6:=λe=>by have:=b4.own.fresh n6 e;rw[d68] at this;cases this
 have ZQ:∀r∈ls,r.s.al≠some n6:=λr O e=>by have:=(b4.inner r O).fresh n6 e;rw[d68] at this;cases this
 refine⟨λx w=>0<=x/\x<=ha.n/\fz w m (eb ((ls.take x.toNat).map pf))/\(∀c z,hQ c=some z->c≠m->w c=some z)/\w m≠none,λx _=>((ha.n:o)-x).toNat,⟨by omega,by omega,(iL.mono rP).mono tu,λc z I _=>I,λe=>Df (tu.none e)⟩,?_⟩
 rintro x w ⟨bK,dw,vW,p0,sm⟩
 have uh:w n8=some l2:=p0 _ _ (tu _ _ ug) lY
 have afP:w n6=some (.cells #[.int .u64 e3] 215 (0,0)):=p0 _ _ (tu _ _ d68) RK
 have vL:eF w ha ls:=⟨bz.else b4.own.own.cI λg z W ab=>p0 g z ab λe=>Bf (by rw[W,e]),λr O=>bz.else (b4.inner r O).ints λg z W ab=>p0 g z ab λe=>fp r O (by rw[W,e])⟩
 refine⟨λJ=>?_,λJ=>?_⟩
 obtain⟨p,ke,r,O,bM,c1,_⟩:=vL.at bK J
 have fh:x.toNat<ls.length:=by omega
 refine⟨p,ke,⟨bK,J⟩,_,bM,_,c1,_,by rw[rG] at uh;exact a8 uh 4,?_⟩
 have an:fD (eb ((ls.take x.toNat).map pf)) r.id=none:=xh.2 λoQ=>by unfold eb at oQ;rw[eh,eh] at oQ;obtain⟨Y,aC,uR⟩:=bk.1 oQ;have aaJ:Y.id=r.id:=uR;have b3:=A2.nodup;rw[<-q2 x.toNat ls,er,fZ] at b3;refine b3.2.2 Y.id (ie aC) r.id (ie ?_) aaJ;exact dB (i:=0) (by rw[u5,T8];exact O)
 refine B3 je vW an λz FE=>⟨⟨by omega,by omega⟩,⟨by omega,by omega,?_,λc b7 I kN=>?_,by rw[bi];simp⟩,by dsimp only;omega⟩
 rw[show(x+1).toNat=x.toNat+1 by omega,gJ,O,er]
 unfold eb at FE ⊢
 rw[er]
 exact FE
 rw[bq _ _ kN];exact p0 c b7 I kN
 .rw[gY (by omega)] at vW;obtain⟨ub,ci⟩:∃ub,ub=H.no (nT w ha) n6:=⟨_,rfl⟩;have aCR:ub n6=none:=by rw[ci];exact Tt _ _
  have PU:∀{c},c≠n6->ha.al≠some c->ub c=w c:=λh1 h2=>by rw[ci,JD h1,nU h2]
  have lub:ub.le w:=by rw[ci];exact(OA _ _).trans (D3 _ _)
  have Ny:aK ub w 52 2 ha (ls.flatMap cO):=⟨b4.own.own.le λc z I ab=>p0 c z ab λe=>Bf (by rw[I,e]),lub,λg W=>by rw[ci];refine(OA _ _).none ?_;unfold nT;exact a1 W⟩
  have Cg:ub n8=some l2:=by rw[PU (dG L9) NL];exact uh
  have Bp:∀r∈ls,Ints ub r.s r.v:=λr O=>bz.else (vL.2 r O) λg z W ab=>by rw[PU (λe=>ZQ r O (by rw[W,e])) ((b4.eG r O).symm g W)];exact ab
  have oW:∀r∈ls,∀g,r.s.al=some g->ub g≠none/\g≠n8/\g≠m/\g≠n6:=λr O g W=>by have aQ:g≠m:=λe=>fp r O (by rw[W,e]);have mc:g≠n6:=λe=>ZQ r O (by rw[W,e]);refine⟨λe=>?_,λe=>ZR r O (by rw[W,e]),aQ,mc⟩;obtain⟨z,ab⟩:=fj.1 (dL (b4.inner r O) W);rw[PU mc ((b4.eG r O).symm g W),p0 g z ab aQ] at e;cases e
  have P3:∀c z,u c=some z->w c=some z/\ha.al≠some c:=λc z I=>⟨p0 c z (tu c z (Bz c z I)) (λe=>(by rw[e,A3] at I;cases I)),λe=>(by have:=b4.own.fresh c e;rw[Bz c z I] at this;cases this)⟩;have Eh:u.le ub:=λc z I=>by obtain⟨h1,h2⟩:=P3 c z I;rw[PU (λe=>by rw[e,qK] at I;cases I) h2];exact h1
  have adQ:ub m≠none:=by rw[PU (dG RK) Bf];exact sm
  have fin:∀(root:aA aw) (o5:H),(∀c z,w c=some z->ha.al≠some c->c≠n6->o5 c=some z)->Aq o5 n6->(∀n,root=some n->(∀x∈n.bR,hT o5 x)/\n.own.Nodup/\(∀c∈n.own,ub c=none/\o5 c≠none/\c≠n6)/\(∀x∈n.bR,∀r∈x.1.rows,r∈ls)/\gx aq n.bF/\lH 3 n.bF/\jX n.bF/\n.bR.length+1<=2*ls.length)->
    (match root with|none=>([]:M j6)|some n=>n.bF.all).Perm (ls.map az.bL)->H.aO o5 (eu (cw n8 0 none) 3) [.pointer (root.map λn=>⟨n.b,0,none⟩)] λkE=>K (some ⟨n8,0,none⟩) 0 kE:=by
   intro root o5 f1 agl f2 f3
   have Ma:o5 n8=some l2:=f1 _ _ uh NL (dG L9)
   rw[rG] at Ma
   refine PO Ma ?_
   obtain⟨T,aT⟩:∃T:aS,T=⟨aq,a,n6,root,m,ls.map pf,0⟩:=⟨_,rfl⟩
   obtain⟨kE,F1⟩:∃kE,kE=o5.ins n8 (.cells #[.int .i64 aq,.int .i64 a,.pointer (some ⟨n6,0,none⟩),.pointer (root.map λn=>⟨n.b,0,none⟩),.map (some m)] 174 (0,0)):=⟨_,rfl⟩
   rw[<-F1]
   have g1:∀c z,o5 c=some z->c≠n8->kE c=some z:=λc z I an=>by rw[F1,bq _ _ an];exact I
   have BH:∀n,root=some n->n8∉n.own/\m∉n.own/\∀r∈ls,∀g,r.s.al=some g->g∉n.own:=λn ae=>by obtain⟨_,_,dh,_⟩:=f2 n ae;exact⟨λe=>(by have:=(dh n8 e).1;rw[Cg] at this;cases this),λe=>adQ (dh m e).1,λr O g W e=>(oW r O g W).1 (dh g e).1⟩
   obtain⟨af,h4⟩:∃af:N->aA bx,af=λc=>open Classical in if c=n8 then some .tree else if c=m then some .map else if ∃n,root=some n/\c∈n.own then some .node else if ∃r∈ls,r.s.al=some c then some .vec else if c=n6 then some .src else none:=⟨_,rfl⟩
   have gX:af n8=some .tree:=by rw[h4];exact a1 rfl
   have dv:af m=some .map:=by rw[h4];show(if m=n8 then _ else _)=_;rw[aG (dG lY),a1 rfl]
   have mo:∀n c,root=some n->c∈n.own->af c=some .node:=λn c ae I=>by obtain⟨aQ,aF,_⟩:=BH n ae;rw[h4];show(if c=n8 then _ else _)=_;rw[aG (λe=>aQ (by rw[<-e];exact I)),aG (λe=>aF (by rw[<-e];exact I)),a1 ⟨n,ae,I⟩]
   have rV:∀r∈ls,∀g,r.s.al=some g->af g=some .vec:=λr O g W=>by obtain⟨_,aQ,aF,_⟩:=oW r O g W;rw[h4];show(if g=n8 then _ else _)=_;rw[aG aQ,aG aF,aG (λ⟨n,ae,I⟩=>(BH n ae).2.2 r O g W I),a1 ⟨r,O,W⟩]
   have abR:af n6=some .src:=by rw[h4];show(if n6=n8 then _ else _)=_;rw[aG L9,aG RK,aG (λ⟨n,ae,I⟩=>((f2 n ae).2.2.1 n6 I).2.2 rfl),aG (λ⟨r,O,W⟩=>ZQ r O W),a1 rfl]
   have sA:∀c,af c≠none->c=n8∨c=m∨(∃n,root=some n/\c∈n.own)∨(∃r∈ls,r.s.al=some c)∨c=n6:=λc I=>by rw[h4] at I;by_cases aQ:c=n8;exact .inl aQ;by_cases aF:c=m;exact .inr (.inl aF);by_cases cW:∃n,root=some n/\c∈n.own;exact .inr (.inr (.inl cW));by_cases fJ:∃r∈ls,r.s.al=some c;exact .inr (.inr (.inr (.inl fJ)));by_cases gA:c=n6;exact .inr (.inr (.inr (.inr gA)));exact aV (by show(if c=n8 then _ else _)=_;rw[aG aQ,aG aF,aG cW,aG fJ,aG gA]) I
   have P6:∀r∈ls,Ints kE r.s r.v:=λr O=>bz.else (vL.2 r O) λg z W ab=>g1 g z (f1 g z ab ((b4.eG r O).symm g W) (oW r O g W).2.2.2) (oW r O g W).2.1
   have MU:a6 T=ls.map az.bL:=by rw[aT];unfold a6;rw[eh];rfl
   have L8:kE n8=some (.cells (fx T).toArray 174 (0,0)):=by rw[F1,bi,aT];rfl
   have M8:fz kE m (eb (ls.map pf)):=vW.else λz ab=>g1 m z (f1 m z ab Bf (dG RK)) (dG lY)
   refine bH kE n8 af T ⟨⟨⟨L8,gX,by rw[aT];exact M8,by rw[aT];exact dv,by rw[aT];exact agl.elim λst dY=>⟨st,g1 _ _ dY L9⟩,by rw[aT];exact abR,λe ku=>?_,λn ae=>?_⟩,λc z I=>?_,λc I=>?_,λc I=>?_⟩,⟨by rw[aT];exact⟨LA,LB⟩,by rw[aT];exact⟨by show 1<=a;omega,by show a<=64;omega⟩,λe ku=>?_,λe ku=>?_,by rw[aT];show(ls.map pf).length<=512;rw[dj];omega,?_,λn ae=>?_,λn ae=>(by rw[aT] at ae;exact(f2 n ae).2.2.2.2.2.1),λn ae=>(by rw[aT] at ae;exact(f2 n ae).2.2.2.2.2.2.1),λn ae=>?_⟩,by rw[MU];exact ad,by rw[aT],by rw[aT],by rw[aT]⟩
   rw[aT] at ku
   obtain⟨r,O,rfl⟩:=bk.1 ku
   exact⟨P6 r O,rV r O⟩
   rw[aT] at ae
   obtain⟨cV,dc,dh,fL,_⟩:=f2 n ae
   obtain⟨aQ,_,_⟩:=BH n ae
   refine⟨λx J=>(cV x J).bS (λc z I ab=>g1 c z ab λe=>aQ (by rw[<-e];exact ep.2 ⟨x,J,I⟩)) λr O=>P6 r (fL x J r O),dc,λc I=>mo n c ae I,λx J r O g W=>rV r (fL x J r O) g W⟩
   obtain⟨h1,h3⟩:=P3 c z I
   exact g1 c z (f1 c z h1 h3 λe=>by rw[e,qK] at I;cases I) λe=>by rw[e,vY] at I;cases I
   rcases sA c I with rfl|rfl|⟨n,ae,pk⟩|⟨r,O,ps⟩|rfl
   exact vY
   exact A3
   exact Eh.none ((f2 n ae).2.2.1 c pk).1
   exact Bz.none ((b4.inner r O).fresh c ps)
   exact qK
   rcases sA c I with rfl|rfl|⟨n,ae,pk⟩|⟨r,O,ps⟩|rfl
   rw[L8];simp
   obtain⟨_,_,a7,_⟩:=M8
   rw[a7];simp
   obtain⟨z,ab⟩:=fj.1 ((f2 n ae).2.2.1 c pk).2.1
   rw[g1 c z ab λe=>(BH n ae).1 (by rw[<-e];exact pk)];simp
   obtain⟨z,ab⟩:=fj.1 (dL (b4.inner r O) ps)
   obtain⟨_,aQ,aF,mc⟩:=oW r O c ps
   rw[g1 c z (f1 c z (p0 c z ab aF) ((b4.eG r O).symm c ps) mc) aQ];simp
   obtain⟨st,dY⟩:=agl
   rw[g1 c _ dY L9];simp
   rw[aT] at ku
   obtain⟨r,O,rfl⟩:=bk.1 ku
   exact A2.id r O
   rw[aT] at ku ⊢
   obtain⟨r,O,rfl⟩:=bk.1 ku
   exact A2.v r O
   rw[MU,aT]
   exact f3
   rw[aT] at ae ⊢
   exact(f2 n ae).2.2.2.2.1
   rw[aT] at ae ⊢
   have:=(f2 n ae).2.2.2.2.2.2.2
   show n.bR.length<=1100*0+2000
   omega
  rw[rG] at Cg;refine Hd (src:=n6) (by omega) (a8 Cg 1) (a8 Cg 2) aCR ⟨_,afP⟩ awg Ny Bp A2 (λeK u' k4=>?_) λan u' n I=>?_;exact fin none u' (λc z I _ _=>k4 c z I) ⟨_,k4 _ _ afP⟩ (λn ae=>by cases ae) (by rw[eK];exact .refl _);exact fin (some n) u' (λc z dd kN RI=>I.ue c z dd kN RI) I.src (λn' h5=>by obtain rfl:=cX h5;exact⟨I.one,I.nodup,I.out,I.rows,I.ok,I.oI,I.bin,I.size⟩) I.all
def ja(h:ey)(v:M o):ey:={h with cA:=if h.cA<fG h.bm v h.bm.length then fG h.bm v h.bm.length else h.cA}
def WJ(fE:h.aI=3)(ad:gx d (aw.mk h ks).bF):1<=d/\d<=64/\h.hi=[]/\c8 h.bm/\(h.bm.length:o)=d/\lh h.cA:=by have h1:=ad.jD;rw[aw.hD] at h1;obtain⟨ar,_,_,ag⟩:=h1;rcases ag with⟨e,_⟩|⟨e,_⟩|⟨_,e⟩;have:h.aI=1:=e;omega;have:h.aI=2:=e;omega;exact⟨ar.1,ar.2,e.1,e.2.1,e.2.2.1,e.2.2.2⟩
def asi(h:ey)(v:M o):h.cA<=(ja h v).cA/\fG h.bm v h.bm.length<=(ja h v).cA:=by unfold ja;by_cases e:h.cA<fG h.bm v h.bm.length;simp only[a1 e];omega;simp only[aG e];omega
def XI(fE:h.aI=3)(ad:gx d (aw.mk h ks).bF)(aB:c8 v)(Dr:(v.length:o)=d):gx d (aw.mk (ja h v) ks).bF/\mH ((aw.mk (ja h v) ks).bF.hE []) v:=by
 obtain⟨d1,d2,MO,ga,fu,oa⟩:=WJ fE ad;have h2:=ad.ins;have h3:=ad.kids;rw[aw.hD] at h2 h3;obtain⟨g1,g2⟩:=asi h v;have AD:lh (ja h v).cA:=by unfold ja;by_cases e:h.cA<fG h.bm v h.bm.length;simp only[a1 e];exact Hg ga aB (by omega);simp only[aG e];exact oa
 have aaM:mH ((aw.mk (ja h v) ks).bF.hE []) v:=by rw[aw.hD];refine⟨λe=>?_,λ_=>g2⟩;have:h.aI=2:=e;omega
 refine⟨?_,aaM⟩;rw[aw.hD];refine .mk ⟨⟨d1,d2⟩,oZ,λx J=>(by cases J),.inr (.inr ⟨fE,MO,ga,fu,AD⟩)⟩ (λx J=>?_) h3;have fQ:x∈(bJ.mk h.aI h.bm h.hi h.cA (h.rows.map az.bL) (ks.map aw.bF)).all:=J;obtain⟨_,Y⟩:=h2 x fQ;refine⟨λe=>?_,λ_=>Int.le_trans (Y fE) g1⟩;have:h.aI=2:=e;omega
def aB0(I:u h.b=some (.cells (e2 h).toArray 213 (0,0)))(r:o)
  (ac:f (u.ins h.b (.cells (e2 {h with cA:=r}).toArray 213 (0,0)))):H.aO u ((cw h.b 0 none).add 3) [.int .u64 (cZ r),.int .u64 (c5 r)] f:=by
 exact⟨_,_,I,rfl,by simp[e2,iP],by simp[cK],ac⟩
def ac9{tt:M N}{K:o->o->H->Prop}(aB:Ints ub s v)(ci:ub.le u)(jn:hT u (h,tt))(b3:h.dC.Nodup)(iq:∀c∈h.dC,ub c=none)(SL:∀r∈h.rows,Ints ub r.s r.v)(zd:c8 h.bm)(oW:c8 v)(h1:h.bm.length=v.length)(h0:1<=v.length)(uG:lh h.cA)
  (av:∀x y u',hT u' (ja h v,tt)->(∀c z,u c=some z->c∉h.dC->u' c=some z)->(∀c,u c≠none->u' c≠none)->K x y u'):Wi (some ⟨h.b,0,none⟩) s u K:=by
 have fP:u h.b=some (.cells (e2 h).toArray 213 (0,0)):=jn.cell
 apply aFU
 refine⟨_,rfl,h.bp,a8 fP 1,B6 jn.bm.f.ints (aB.mono ci) zd (by show 1<=h.bm.length;omega) oW h1 λx y J ai hw=>⟨_,rfl,_,a8 fP 3,_,a8 fP 4,yl ai (rQ _) ?_⟩⟩
 have hw:dy x y=fG h.bm v h.bm.length:=hw
 rw[mD,hw]
 by_cases e:h.cA<fG h.bm v h.bm.length
 refine⟨λ_=>⟨_,rfl,?_⟩,λae=>aV ?_ ae⟩
 obtain⟨ex,tb⟩:=Af J ai
 rw[hw] at ex tb
 have W:ja h v={h with cA:=fG h.bm v h.bm.length}:=by unfold ja;rw[a1 e]
 have key:H.aO u ((cw h.b 0 none).add 3) [.int .u64 (cZ (fG h.bm v h.bm.length)),.int .u64 (c5 (fG h.bm v h.bm.length))] λgK=>K x y gK:=by
  refine aB0 fP _ ?_;rw[<-W];obtain⟨w,j2⟩:∃w,w=u.ins h.b (.cells (e2 (ja h v)).toArray 213 (0,0)):=⟨_,rfl⟩;rw[<-j2];have s9:∀c z,u c=some z->c≠h.b->w c=some z:=λc z I an=>by rw[j2,bq _ _ an];exact I
  have k5:ub.le w:=λc z I=>s9 c z (ci c z I) λe=>by rw[e,iq h.b (gr ..)] at I;cases I
  have ck:∀g,(h.bp.al=some g∨h.fF.al=some g∨h.bd.al=some g∨h.df.al=some g)->g≠h.b:=λg W e=>by unfold ey.dC at b3;rw[h6] at b3;refine b3.1 ?_;rw[<-e,cM,cM,cM];rcases W with e|e|e|e;exact .inl (.inl (.inl (by rw[e];simp)));exact .inl (.inl (.inr (by rw[e];simp)));exact .inl (.inr (by rw[e];simp));exact .inr (by rw[e];simp)
  refine av x y w ⟨?_,jn.bm.le λc z I ab=>s9 c z ab (ck c (.inl I)),jn.hi.le λc z I ab=>s9 c z ab (ck c (.inr (.inl I))),jn.rws.le λc z I ab=>s9 c z ab (ck c (.inr (.inr (.inl I)))),λr O=>(SL r O).mono k5,bz.else jn.lZ λc z I ab=>s9 c z ab (ck c (.inr (.inr (.inr I))))⟩ (λc z I hm=>s9 c z I λe=>hm (by rw[e];exact gr ..)) λc I=>?_;show w h.b=_;rw[j2];exact bi _ _ _;by_cases aF:c=h.b;rw[aF,j2,bi];simp;obtain⟨z,ab⟩:=fj.1 I;rw[s9 c z ab aF];simp
 rw[<-ex,<-tb] at key
 exact key
 rw[aG (by omega),a1 e]
 decide
 have W:ja h v=h:=by unfold ja;rw[aG e]
 refine⟨λad=>aV ad ?_,λ_=>av x y u (by rw[W];exact jn) (λc z I _=>I) λc I=>I⟩
 rw[aG e]
 split<;>decide
structure tT(aj u:H)(af:N->aA bx)(b:N)(T:aS)(id:o)(v:M o)(u':H)(aY:N->aA bx)(bB:aS):Prop where
 is:In aj u' aY b bB
 eX:hU u af u' aY
 ok:dU bB
 rows:(a6 bB).Perm ((id,v)::(a6 T).filter λx=>x.1 !=id)
 aq:bB.aq=T.aq
 leaf:bB.leaf=T.leaf
 e4:bB.e4<=T.e4+1
structure Ew(aU:H)(af:N->aA bx)(b:N)(T:aS)(id:o)(s:U)(v:M o)(u':H)(r:aw):Prop where
 cell:u' b=some (.cells (fx {T with root:=some r}).toArray 174 (0,0))
 map:fz u' T.m (eb (T.w++ [(id,(s,v))]))
 src:∃st,u' T.src=some (.cells #[.int .u64 st] 215 (0,0))
 sv:Ints u' s v
 df:∀g,s.al=some g->aU g=none/\u' g≠none
 bS:∀c z,aU c=some z->af c=none∨af c=some .vec->u' c=some z
 kn:∀c,aU c≠none->af c≠some .node->u' c≠none
 one:∀x∈r.bR,hT u' x
 nodup:r.own.Nodup
 own:∀c∈r.own,(af c=some .node∨(aU c=none/\s.al≠some c))/\u' c≠none
 rws:∀x∈r.bR,∀y∈x.1.rows,∀g,y.s.al=some g->af g=some .vec∨s.al=some g
 all:r.bF.all.Perm ((id,v)::lD T)
 ok:gx T.aq r.bF
 oI:lH 3 r.bF
 bin:jX r.bF
 size:r.bR.length<=1100*(T.e4+1)+2000
def Ew.acH{aU:H}{af:N->aA bx}{T:aS}{id:o}{r:aw}(f:Ew aU af b T id s v u' r)(h:In aj aU af b T)(aT:dU T)(cm:1<=id/\id<=1000000000)(aB:(v.length:o)=T.aq/\c8 v)(ap:T.w.length<512):
  ∃aY bB,In aj u' aY b bB/\hU aU af u' aY/\dU bB/\(a6 bB).Perm ((id,v)::a6 T)/\bB.aq=T.aq/\bB.leaf=T.leaf/\bB.e4<=T.e4+1:=by
 obtain⟨bB,ez⟩:∃bB:aS,bB={T with root:=some r,w:=T.w++ [(id,(s,v))],e4:=T.e4+1}:=⟨_,rfl⟩
 obtain⟨aY,h4⟩:∃aY:N->aA bx,aY=λc=>open Classical in if c∈r.own then some .node else if s.al=some c then some .vec else if af c=some .node then none else af c:=⟨_,rfl⟩
 have cV:∀c∈r.own,aY c=some .node:=λc I=>by rw[h4];exact a1 I
 have dc:∀c,s.al=some c->aY c=some .vec:=λc I=>by
  have eg:c∉r.own:=λhm=>by rcases(f.own c hm).1 with e|e;exact h.known c (by rw[e];simp) (f.df c I).1;exact e.2 I
  rw[h4];show(if c∈r.own then _ else _)=_;rw[aG eg,a1 I]
 have dh:∀c t,af c=some t->t≠.node->aY c=some t:=λc t I ht=>by
  have hk:=h.known c (by rw[I];simp);have eg:c∉r.own:=λhm=>by rcases(f.own c hm).1 with e|e;rw[I] at e;exact ht (cX e);exact hk e.1
  have xC:s.al≠some c:=λe=>hk (f.df c e).1;rw[h4];show(if c∈r.own then _ else _)=_;rw[aG eg,aG xC,aG (by rw[I];exact λe=>ht (cX e)),I]
 have fL:∀c,aY c≠none->c∈r.own∨s.al=some c∨(af c≠none/\af c≠some .node):=λc I=>by by_cases aQ:c∈r.own;exact .inl aQ;by_cases aF:s.al=some c;exact .inr (.inl aF);by_cases cW:af c=some .node;exact aV (by rw[h4];show(if c∈r.own then _ else _)=_;rw[aG aQ,aG aF,a1 cW]) I;refine .inr (.inr ⟨λe=>I ?_,cW⟩);rw[h4];show(if c∈r.own then _ else _)=_;rw[aG aQ,aG aF,aG cW,e]
 have aJ:=h.aJ
 refine⟨aY,bB,⟨⟨by rw[ez];exact f.cell,dh _ _ aJ.dR (by simp),by rw[ez];exact f.map,by rw[ez];exact dh _ _ aJ.dr (by simp),by rw[ez];exact f.src,by rw[ez];exact dh _ _ aJ.ih (by simp),λe he=>?_,λn ae=>?_⟩,λc z I=>?_,λc I=>?_,λc I=>?_⟩,⟨λc z I ac=>f.bS c z I (.inl ac),λc I=>?_⟩,
  ⟨by rw[ez];exact aT.hB,by rw[ez];exact aT.Bx,λe he=>?_,λe he=>?_,?_,?_,λn ae=>?_,λn ae=>?_,λn ae=>?_,λn ae=>?_⟩,?_,by rw[ez],by rw[ez],by rw[ez];exact cC _⟩
 rw[ez] at he
 rcases cM.1 he with he|he
 obtain⟨v1,v2⟩:=aJ.vec e he
 exact⟨bz.else v1 λg z W ab=>f.bS g z ab (.inr (v2 g W)),λg W=>dh g _ (v2 g W) (by simp)⟩
 rw[gp.1 he]
 exact⟨f.sv,dc⟩
 rw[ez] at ae
 obtain rfl:=cX ae
 exact⟨f.one,f.nodup,cV,λx J y ai g W=>(f.rws x J y ai g W).elim (λe=>dh g _ e (by simp)) λe=>dc g e⟩
 refine f.bS c z (h.le c z I) (.inl ?_)
 cases e:af c with
 |none=>rfl
 |some t=>have:=h.out c (by rw[e];simp);rw[I] at this;cases this
 rcases fL c I with e|e|e
 rcases(f.own c e).1 with e|e
 exact h.out c (by rw[e];simp)
 exact h.le.none e.1
 exact h.le.none (f.df c e).1
 exact h.out c e.1
 rcases fL c I with e|e|e
 exact(f.own c e).2
 exact(f.df c e).2
 exact f.kn c (h.known c e.1) e.2
 rcases fL c I with e|e|e
 rcases(f.own c e).1 with e|e
 exact .inl (by rw[e];simp)
 exact .inr e.1
 exact .inr (f.df c e).1
 exact .inl e.1
 rw[ez] at he
 rcases cM.1 he with he|he
 exact aT.ids e he
 rw[gp.1 he];exact cm
 rw[ez] at he ⊢
 rcases cM.1 he with he|he
 exact aT.vec e he
 rw[gp.1 he];exact aB
 rw[ez]
 show(T.w++ [(id,(s,v))]).length<=512
 rw[eD]
 simp only[hX,oB]
 omega
 rw[ez]
 show r.bF.all.Perm ((T.w++ [(id,(s,v))]).map λe=>(e.1,e.2.2))
 rw[er]
 exact f.all.trans ((j3 _ aT.rows).trans (nc _ _).symm)
 rw[ez] at ae ⊢
 obtain rfl:=cX ae
 exact f.ok
 rw[ez] at ae
 obtain rfl:=cX ae
 exact f.oI
 rw[ez] at ae
 obtain rfl:=cX ae
 exact f.bin
 rw[ez] at ae ⊢
 obtain rfl:=cX ae
 exact f.size
 rw[ez]
 show((T.w++ [(id,(s,v))]).map λe=>(e.1,e.2.2)).Perm _
 rw[er]
 exact nc _ _
def sd(h:ey):h.dC.Perm (h.bd.al.toList++(h.b::(h.bp.al.toList++h.fF.al.toList++h.df.al.toList))):=by unfold ey.dC;refine BY (j3 _ ?_) BX.symm;generalize h.bp.al.toList++h.fF.al.toList=a;generalize h.bd.al.toList=r;generalize h.df.al.toList=k;rw[mq];exact acr a r k
def WK(ae:h.dC.Nodup)(rows:M az)(ag:∀g,s.al=some g->h.bd.al=some g∨g∉h.dC):({h with bd:=s,rows:=rows}:ey).dC.Nodup:=by
 have h1:=(sd h).nodup_iff.1 ae;rw[(sd _).nodup_iff];rw[fZ] at h1 ⊢;obtain⟨_,h3,a7⟩:=h1;refine⟨?_,h3,λc I nC dd e=>?_⟩;show s.al.toList.Nodup;cases s.al<;>simp;subst e;have I:s.al=some c:=by simpa using I
 rcases ag c I with bO|bO;exact a7 c (by rw[bO];simp) c dd rfl;exact bO ((sd h).mem_iff.2 (lC _ dd))
def abd(ad:gx d (aw.mk h []).bF){id:o}{sv:U}(cb:mH ((aw.mk h []).bF.hE []) v):gx d (aw.mk {h with bd:=s,rows:=h.rows++ [⟨id,sv,v⟩]} []).bF/\(aw.mk {h with bd:=s,rows:=h.rows++ [⟨id,sv,v⟩]} []).bF.all.Perm ((id,v)::(aw.mk h []).bF.all):=by
 have aQ:(aw.mk {h with bd:=s,rows:=h.rows++ [⟨id,sv,v⟩]} []).bF.all=(aw.mk h []).bF.all++ [(id,v)]:=by rw[aw.tC,aw.tC,aw.bR,aw.bR,aw.mQ];simp[az.bL]
 have h1:=ad.jD;have h2:=ad.ins;refine⟨.mk h1 (λx J=>?_) λk hk=>(by rw[aw.hD] at hk;cases hk),by rw[aQ];exact nc _ _⟩;rw[aQ] at J;rcases cM.1 J with J|J;exact h2 x J;rw[gp.1 J];exact cb
def adw{h1 h2:ey}{p:N}(I:u p=some (.cells (e2 h1).toArray 213 (0,0)))(ac:f (u.ins p (.cells (e2 h2).toArray 213 (0,0)))):
  H.aO u (cw p 0 none) [.int .i64 h2.aI,.slice h2.bp.a h2.bp.n h2.bp.c,.slice h2.fF.a h2.fF.n h2.fF.c,.int .u64 (cZ h2.cA),.int .u64 (c5 h2.cA),.slice none 0 0,.slice h2.bd.a h2.bd.n h2.bd.c,.slice h2.df.a h2.df.n h2.df.c] f:=
 ⟨_,_,I,rfl,by simp[e2],by simp[cK],by
  have e:wr (e2 h1).toArray 0 [.int .i64 h2.aI,.slice h2.bp.a h2.bp.n h2.bp.c,.slice h2.fF.a h2.fF.n h2.fF.c,.int .u64 (cZ h2.cA),.int .u64 (c5 h2.cA),.slice none 0 0,.slice h2.bd.a h2.bd.n h2.bd.c,.slice h2.df.a h2.df.n h2.df.c]=(e2 h2).toArray:=by simp[wr,e2]
  show f (u.ins p (.cells (wr (e2 h1).toArray 0 _) _ (0,0)));rw[e];exact ac⟩
def adj{leaf:o}{bD:N->Prop}{n0:aw}{aW:M ko}{src:N}{id:o}{sv:U}{Fin:H->Prop}(w:Way 3 ub u d v (λc=>c≠src) bD n0 aW (.mk h []))(A1:1<=leaf)(q9:ub.cell? ((cw b 0 none).add 1)=some (.int .i64 leaf))(cr:ub.cell? ((cw b 0 none).add 2)=some (.pointer (some ⟨src,0,none⟩)))(rJ:∃st,u src=some (.cells #[.int .u64 st] 215 (0,0)))(It:jX (na aW (.mk h [])).bF)
  (I6:Ints ub sv v) (hC:hp (h.rows++ [⟨id,sv,v⟩]) d) (cb:mH ((aw.mk h []).bF.hE []) v) (uw:∀u' r,Down 3 ub u' d (id,v) (λc=>c≠src) (λy=>∀g,y.s.al=some g->bD g∨sv.al=some g) n0 r 1100->jX r.bF->(∃st,u' src=some (.cells #[.int .u64 st] 215 (0,0)))->Fin u'):
  (c9 aH (dI 22 1 #[(0,(cD #[(cJ bY id),(ea sv.a sv.n sv.c)]))]) [(bf.one aE.slice)] u (λ(B2:U) (Ho:H)=>(H.le u Ho)/\(c9 aH (ee #[22,22] 22 #[(ea h.bd.a h.bd.n h.bd.c),(ea B2.a B2.n B2.c)]) [(bf.one aE.slice)] Ho (λ(G6:U) (u64:H)=>∃Pd:bc,((some (cw h.b 0 none))=(some Pd))/\(H.aO u64 (eu Pd 6) [(ea G6.a G6.n G6.c)] (λ(hR:H)=>∃Pe:bc,((some (cw h.b 0 none))=(some Pe))/\(∃Pf:bc,((some (cw b 0 none))=(some Pf))/\(∃yh:U,((H.cell? hR (eu Pe 6))=(some (ea yh.a yh.n yh.c)))/\(∃Hu:o,((H.cell? hR (eu Pf 1))=(some (cJ bY Hu)))/\(((Hu<(yh.n:o))->∃Pg:bc,((some (cw h.b 0 none))=(some Pg))/\(∃yi:U,((H.cell? hR (eu Pg 6))=(some (ea yi.a yi.n yi.c)))/\(HC (some (cw b 0 none)) yi hR (λ(abS:(aA bc)) (kl:H)=>∃pI:bc,(abS=(some pI))/\(∃Qb:o,((H.cell? kl pI)=(some (cJ bY Qb)))/\(∃vg:U,((H.cell? kl (eu pI 1))=(some (ea vg.a vg.n vg.c)))/\(∃vh:U,((H.cell? kl (eu pI 2))=(some (ea vh.a vh.n vh.c)))/\(∃Qc:o,((H.cell? kl (eu pI 3))=(some (cJ bo Qc)))/\(∃Qd:o,((H.cell? kl (eu pI 4))=(some (cJ bo Qd)))/\(∃vi:U,((H.cell? kl (eu pI 5))=(some (ea vi.a vi.n vi.c)))/\(∃vj:U,((H.cell? kl (eu pI 6))=(some (ea vj.a vj.n vj.c)))/\(∃q6:U,((H.cell? kl (eu pI 7))=(some (ea q6.a q6.n q6.c)))/\(∃Ph:bc,((some (cw h.b 0 none))=(some Ph))/\(H.aO kl Ph [(cJ bY Qb),(ea vg.a vg.n vg.c),(ea vh.a vh.n vh.c),(cJ bo Qc),(cJ bo Qd),(ea vi.a vi.n vi.c),(ea vj.a vj.n vj.c),(ea q6.a q6.n q6.c)] (λ(oK:H)=>Fin oK)))))))))))))))/\((¬(Hu<(yh.n:o)))->Fin hR))))))))))):=by
 obtain⟨jn,b3,iq,lo,fE⟩:=w.head
 obtain⟨anf,SP⟩:=rJ
 have PT:ub src=none:=by
  cases e:ub src with
  |none=>rfl|some z=>exact aV rfl (w.known src (by rw[e];simp))
 have qk:src∉h.dC:=λhm=>(iq src hm).2.2 rfl
 have fP:u h.b=some (.cells (e2 h).toArray 213 (0,0)):=jn.cell
 have hO:aK ub u 52 2 h.bd (h.rows.flatMap cO):=⟨jn.rws,w.base,λg W=>(iq g (by simp[ey.dC,W])).1⟩
 have dM:h.bd.n=h.rows.length:=gU fM (by decide) hO.own.cI
 have k1:=hC.len
 rw[eD] at k1
 simp only[hX,oB] at k1
 have aL:h.bd.al≠some h.b:=λe=>by have h1:=(sd h).nodup_iff.1 b3;rw[fZ] at h1;exact h1.2.2 h.b (by rw[e];simp) h.b (gr ..) rfl
 have FQ:∀g,(h.bp.al=some g∨h.fF.al=some g∨h.df.al=some g)->g∈h.dC/\g≠h.b/\h.bd.al≠some g:=λg W=>by
  have h1:=(sd h).nodup_iff.1 b3;rw[fZ] at h1;have h2:g∈h.bp.al.toList++h.fF.al.toList++h.df.al.toList:=by rw[cM,cM];rcases W with e|e|e;exact .inl (.inl (by rw[e];simp));exact .inl (.inr (by rw[e];simp));exact .inr (by rw[e];simp)
  exact⟨(sd h).mem_iff.2 (lC _ (gh _ h2)),λe=>(h6.1 h1.2.1).1 (by rw[<-e];exact h2),λe=>h1.2.2 g (by rw[e];simp) g (gh _ h2) rfl⟩
 refine z1 kk (xa id sv) (by decide) rfl (by simp[cK]) hO (by omega) (by rw[dM];show(h.rows.length+1)*_<=_;omega) λau u64 bQ h5 gd eA _=>?_
 have bQ:aK ub u64 52 2 au ((h.rows++ [(⟨id,sv,v⟩:az)]).flatMap cO):=by rw[gZ];exact bQ
 have so:au.al≠some h.b:=λe=>by rcases eA _ e with e|e;exact aL e;rw[fP] at e;cases e
 have Yy:u64 h.b=some (.cells (e2 h).toArray 213 (0,0)):=gd _ _ fP aL
 refine⟨_,rfl,US Yy au (h.rows++ [⟨id,sv,v⟩]) ?_⟩
 obtain⟨g1,iJ⟩:∃g1:ey,g1={h with bd:=au,rows:=h.rows++ [⟨id,sv,v⟩]}:=⟨_,rfl⟩
 have LX:g1.b=h.b:=by rw[iJ]
 rw[<-iJ]
 obtain⟨hR,F2⟩:∃hR,hR=u64.ins h.b (.cells (e2 g1).toArray 213 (0,0)):=⟨_,rfl⟩
 rw[<-F2]
 have xb:hR h.b=some (.cells (e2 g1).toArray 213 (0,0)):=by rw[F2];exact bi _ _ _
 have f66:∀c z,u64 c=some z->c≠h.b->hR c=some z:=λc z I an=>by rw[F2,bq _ _ an];exact I
 have EN:∀c z,u c=some z->c≠h.b->h.bd.al≠some c->hR c=some z:=λc z I h2 h3=>f66 c z (gd c z I h3) h2
 have wj:h.b∈h.dC:=gr ..
 have xT:∀{g},h.bd.al=some g->g∈h.dC:=λ{g} e=>by simp[ey.dC,e]
 have xe:∀c z,u c=some z->c∉h.dC->hR c=some z:=λc z I hm=>EN c z I (λe=>hm (by rw[e];exact wj)) λe=>hm (xT e)
 have Bm:ub.le hR:=λc z I=>xe c z (w.base c z I) λhm=>by rw[(iq c hm).1] at I;cases I
 have GA:aK ub hR 52 2 au ((h.rows++ [(⟨id,sv,v⟩:az)]).flatMap cO):=⟨bQ.own.le λc z I ab=>f66 c z ab λe=>so (by rw[<-e];exact I),Bm,bQ.fresh⟩
 have Ls:hR.cell? ((cw h.b 0 none).add 6)=some (.slice au.a au.n au.c):=by
  have:g1.bd=au:=by rw[iJ]
  have lV:hR.cell? ((cw h.b 0 none).add 6)=some (.slice g1.bd.a g1.bd.n g1.bd.c):=a8 xb 6;rw[this] at lV;exact lV
 have sy:(aw.mk h []).own=h.dC:=by unfold aw.own;rw[aw.bR,aw.mQ];simp
 have su:∀r∈h.rows++ [(⟨id,sv,v⟩:az)],Ints ub r.s r.v/\∀g,r.s.al=some g->bD g∨sv.al=some g:=λr O=>by rcases cM.1 O with O|O;exact⟨(lo r O).1,λg W=>.inl ((lo r O).2 g W)⟩;rw[gp.1 O];exact⟨I6,λg W=>.inr W⟩
 refine⟨_,rfl,_,rfl,au,Ls,leaf,H.le.cell Bm q9,λ_=>?_,λ_=>?_⟩
 have acQ:hR src=some (.cells #[.int .u64 anf] 215 (0,0)):=xe _ _ SP qk
 have PE:au.al≠some src:=λe=>by rcases eA _ e with e|e;exact qk (xT e);rw[SP] at e;cases e
 obtain⟨nj,oV⟩:∃nj:H,nj=λc=>if c=src then none else nT hR au c:=⟨_,rfl⟩
 have Ch:∀{c},c≠src->nj c=nT hR au c:=λ{c} I=>by rw[oV];exact aG I
 have anX:nj src=none:=by rw[oV];exact a1 rfl
 have aCY:nj.le hR:=λc z I=>by by_cases e:c=src;rw[e,anX] at I;cases I;rw[Ch e] at I;exact D3 _ _ c z I
 have BA:ub.le nj:=λc z I=>by rw[Ch (λe=>by rw[e,PT] at I;cases I),nU (λe=>by rw[bQ.fresh c e] at I;cases I)];exact Bm c z I
 refine⟨_,rfl,au,Ls,Hd (ub:=nj) (src:=src) A1 (H.le.cell BA q9) (H.le.cell BA cr) anX ⟨_,acQ⟩ PE ⟨GA.own,aCY,λg W=>by rw[Ch (λe=>PE (by rw[<-e];exact W))];exact a1 W⟩ (λr O=>((su r O).1).mono BA) hC (λe=>aV e (by simp)) λ_ kl ek I=>?_⟩
 obtain⟨b5,dN⟩:=ek
 have pr:=I.one (b5,dN.map aw.b) (by rw[aw.bR];exact gr ..)
 have lX:kl b5.b=some (.cells (e2 b5).toArray 213 (0,0)):=pr.cell
 refine⟨_,rfl,_,a8 lX 0,b5.bp,a8 lX 1,b5.fF,a8 lX 2,_,a8 lX 3,_,a8 lX 4,⟨none,0,0⟩,a8 lX 5,b5.bd,a8 lX 6,b5.df,a8 lX 7,_,rfl,?_⟩
 have WW:kl h.b=some (.cells (e2 g1).toArray 213 (0,0)):=I.ue _ _ xb so (λe=>qk (by rw[<-e];exact wj))
 refine adw (h2:=b5) WW ?_
 obtain⟨g2,hh⟩:∃g2:ey,g2={b5 with b:=h.b}:=⟨_,rfl⟩
 have Xm:e2 b5=e2 g2:=by rw[hh];rfl
 rw[Xm]
 obtain⟨oK,Bl⟩:∃oK,oK=kl.ins h.b (.cells (e2 g2).toArray 213 (0,0)):=⟨_,rfl⟩
 rw[<-Bl]
 have rn:∀c z,kl c=some z->c≠h.b->oK c=some z:=λc z dd an=>by rw[Bl,bq _ _ an];exact dd
 have A4:h.b∉(aw.mk b5 dN).own:=λhm=>by have:=(I.out _ hm).1;rw[Ch (λe=>qk (by rw[<-e];exact wj)),nU so,xb] at this;cases this
 have BG:(aw.mk b5 dN).own=b5.b::((b5.bp.al.toList++b5.fF.al.toList++b5.bd.al.toList++b5.df.al.toList)++dN.flatMap aw.own):=by rw[aw.rT];rfl
 have OJ:(aw.mk g2 dN).own=h.b::((b5.bp.al.toList++b5.fF.al.toList++b5.bd.al.toList++b5.df.al.toList)++dN.flatMap aw.own):=by rw[aw.rT,hh];rfl
 have Fb:(aw.mk g2 dN).bR=(g2,dN.map aw.b)::aw.mQ dN:=by rw[aw.bR]
 have xp:(aw.mk b5 dN).bR=(b5,dN.map aw.b)::aw.mQ dN:=by rw[aw.bR]
 have DG:(aw.mk g2 dN).bF=(aw.mk b5 dN).bF:=by rw[aw.hD,aw.hD,hh];rfl
 have ou:=I.nodup
 have adA:∀c∈(aw.mk g2 dN).own,c=h.b∨c∈(aw.mk b5 dN).own:=λc cL=>by rw[OJ] at cL;rcases cP.1 cL with e|e;exact .inl e;exact .inr (by rw[BG];exact gh _ e)
 have LJ:∀c z,u c=some z->c≠src->c∉(aw.mk h []).own->oK c=some z:=λc z dd xC hm=>by rw[sy] at hm;refine rn c z (I.ue c z (xe c z dd hm) (λe=>?_) xC) λe=>hm (by rw[e];exact wj);rcases eA c e with e|e;exact hm (xT e);rw[dd] at e;cases e
 have N1:ub.le oK:=λc z dd=>LJ c z (w.base c z dd) (λe=>by rw[e,PT] at dd;cases dd) λhm=>by rw[sy] at hm;rw[(iq c hm).1] at dd;cases dd
 have aa0:∀{x:ey×M N},hT kl x->(∀c∈x.1.dC,c≠h.b)->(∀r∈x.1.rows,r∈h.rows++ [(⟨id,sv,v⟩:az)])->hT oK x:=λJ aa O=>J.bS (λc z cL ab=>rn c z ab (aa c cL)) λr fp=>((su r (O r fp)).1).mono N1
 refine uw oK _ ?CL (TB aW (n':=.mk g2 dN) It (by rw[DG];exact I.bin)) (I.src.elim λst dY=>⟨st,rn _ _ dY λe=>qk (by rw[e];exact wj)⟩)
 refine(Way.down w (n':=.mk g2 dN) (by rw[show(aw.mk g2 dN).b=g2.b from rfl,hh];rfl) (λx J=>?_) ?_ (λc z dd xC hm=>LJ c z dd xC hm) (λc cL=>?_) (λx J y ai=>?_) (λy ai g W=>.inl (ai g W)) ?_ (by rw[DG];exact I.ok) (by rw[DG];exact I.oI) ?_)
 rw[Fb] at J
 rcases cP.1 J with rfl|J
 have aC:∀g,(b5.bp.al=some g∨b5.fF.al=some g∨b5.bd.al=some g∨b5.df.al=some g)->g≠h.b:=λg W e=>A4 (by rw[BG,<-e];refine gh _ (iA _ ?_);rw[cM,cM,cM];rcases W with e|e|e|e;exact .inl (.inl (.inl (by rw[e];simp)));exact .inl (.inl (.inr (by rw[e];simp)));exact .inl (.inr (by rw[e];simp));exact .inr (by rw[e];simp))
 have FT:∀r∈b5.rows,r∈h.rows++ [(⟨id,sv,v⟩:az)]:=λr O=>I.rows (b5,dN.map aw.b) (by rw[xp];exact gr ..) r O
 rw[hh]
 refine⟨?_,pr.bm.le λc z kr ab=>rn c z ab (aC c (.inl kr)),pr.hi.le λc z kr ab=>rn c z ab (aC c (.inr (.inl kr))),pr.rws.le λc z kr ab=>rn c z ab (aC c (.inr (.inr (.inl kr)))),λr O=>((su r (FT r O)).1).mono N1,bz.else pr.lZ λc z kr ab=>rn c z ab (aC c (.inr (.inr (.inr kr))))⟩
 show oK h.b=_
 rw[Bl,bi,hh]
 have fQ:x∈(aw.mk b5 dN).bR:=by rw[xp];exact gh _ J
 exact aa0 (I.one x fQ) (λc cL e=>A4 (by rw[<-e];exact ep.2 ⟨x,fQ,cL⟩)) (I.rows x fQ)
 rw[OJ,h6]
 rw[BG,h6] at ou
 exact⟨λhm=>A4 (by rw[BG];exact gh _ hm),ou.2⟩
 rcases adA c cL with rfl|cL
 exact⟨.inl (by rw[sy];exact wj),by rw[Bl,bi];simp⟩
 obtain⟨cV,dc,dh⟩:=I.out c cL
 rw[Ch dh] at cV
 refine⟨?_,?_⟩
 by_cases e:au.al=some c
 rcases eA c e with e|e
 exact .inl (by rw[sy];exact xT e)
 exact .inr ⟨e,dh⟩
 rw[nU e] at cV
 cases J:u c with
 |none=>exact .inr ⟨rfl,dh⟩
 |some z=>left;rw[sy];by_cases hm:c∈h.dC;exact hm;rw[xe c z J hm] at cV;cases cV
 obtain⟨z,ab⟩:=fj.1 dc
 rw[rn c z ab (λe=>A4 (by rw[<-e];exact cL))];simp
 rw[Fb] at J
 rcases cP.1 J with rfl|J
 exact(su y (I.rows (b5,dN.map aw.b) (by rw[xp];exact gr ..) y (by rw[hh] at ai;exact ai))).2
 exact(su y (I.rows x (by rw[xp];exact gh _ J) y ai)).2
 rw[DG]
 refine I.all.trans ?_
 rw[er,aw.tC,aw.bR,aw.mQ]
 simp only[gI,GZ,lB]
 exact nc _ _
 have:=I.size
 rw[xp] at this
 rw[Fb]
 rw[eD] at this
 simp only[hX,oB] at this ⊢
 omega
 have ap:=abd (id:=id) (sv:=sv) (s:=au) (JI aW w.ok) cb
 rw[<-iJ] at ap
 have OB:(aw.mk g1 []).own=g1.dC:=by unfold aw.own;rw[aw.bR,aw.mQ];simp
 have Gu:(aw.mk g1 []).bR=[(g1,[])]:=by rw[aw.bR,aw.mQ];rfl
 have abq:∀c∈g1.dC,c=h.b∨(h.bp.al=some c∨h.fF.al=some c∨h.df.al=some c)∨au.al=some c:=λc I=>by rw[iJ] at I;have I:=(sd _).mem_iff.1 I;rcases cM.1 I with I|I;exact .inr (.inr (by simpa using I));rcases cP.1 I with I|I;exact .inl I;rw[cM,cM] at I;rcases I with(I|I)|I;exact .inr (.inl (.inl (by simpa using I)));exact .inr (.inl (.inr (.inl (by simpa using I))));exact .inr (.inl (.inr (.inr (by simpa using I))))
 refine uw hR _ ?aGI (TB aW (n':=.mk g1 []) It (Q5 (.inl rfl) λk hk=>(by cases hk))) ⟨anf,xe _ _ SP qk⟩
 refine(Way.down w (n':=.mk g1 []) LX (λx J=>?_) ?_ (λc z I _ hm=>xe c z I (by rw[<-sy];exact hm)) (λc I=>?_) (λx J y ai=>?_) (λy ai g W=>.inl (ai g W)) ap.2 ap.1 ?_ (by rw[Gu];show 1<=_;have:=(aw.mk h []).Se;omega))
 rw[Gu,gp] at J
 subst J
 have cq:∀{s:U} {c:N} {z:Obj},(h.bp.al=some c∨h.fF.al=some c∨h.df.al=some c)->u c=some z->hR c=some z:=λ{s c z} I ab=>EN c z ab (FQ c I).2.1 (FQ c I).2.2
 refine⟨by show hR g1.b=_;rw[LX];exact xb,?_,?_,?_,λr O=>?_,?_⟩
 rw[iJ];exact jn.bm.le λc z I ab=>cq (s:=h.bp) (.inl I) ab
 rw[iJ];exact jn.hi.le λc z I ab=>cq (s:=h.bp) (.inr (.inl I)) ab
 rw[iJ];exact GA.own
 rw[iJ] at O;exact((su r O).1).mono Bm
 rw[iJ];exact bz.else jn.lZ λc z I ab=>cq (s:=h.bp) (.inr (.inr I)) ab
 rw[OB,iJ]
 refine WK b3 _ λg W=>(eA g W).imp (λe=>e) λe hm=>(iq g hm).2.1 e
 rw[OB] at I
 rw[sy]
 rcases abq c I with rfl|I|I
 exact⟨.inl wj,by rw[xb];simp⟩
 obtain⟨cV,dc,dh⟩:=FQ c I
 obtain⟨z,ab⟩:=fj.1 (iq c cV).2.1
 exact⟨.inl cV,by rw[EN c z ab dc dh];simp⟩
 exact⟨(eA c I).imp xT (λe=>⟨e,λaF=>by rw[aF,SP] at e;cases e⟩),dL GA I⟩
 rw[Gu,gp] at J
 subst J
 exact(su y (by rw[iJ] at ai;exact ai)).2
 rw[aw.hD]
 refine .mk ?_ λk hk=>(by cases hk)
 show g1.aI=3
 rw[iJ]
 exact fE
structure Wm(aj u:H)(af:N->aA bx)(b:N)(T:aS)(id:o)(u':H)(aY:N->aA bx)(bB:aS):Prop where
 is:In aj u' aY b bB
 eX:hU u af u' aY
 ok:dU bB
 rows:a6 bB=(a6 T).filter λx=>x.1 !=id
 aq:bB.aq=T.aq
 leaf:bB.leaf=T.leaf
 e4:bB.e4=T.e4
 no:id∉bB.w.map (·.1)
 vH:bB.w.length<512
def ac5{af:N->aA bx}{T:aS}{id:o}(h:In aj u af b T)(aT:dU T)(kc:T.e4<=4000)(uv:id∉T.w.map (·.1)->T.w.length<512)
  (av:∀dp u' aY bB,Wm aj u af b T id u' aY bB->K dp 0 u'):QM (some ⟨b,0,none⟩) id u K:=by
 refine wH h aT kc (λeg aU hj=>av _ aU af T ⟨h.mono bS hj,hU.mono hj,aT,?_,rfl,rfl,rfl,eg,uv eg⟩) λcb aU c4 bb O=>av _ aU c4 bb ⟨O.is,O.eX,O.ok,O.rows,O.aq,O.leaf,O.e4,?_,?_⟩
 refine(r6.2 λx J=>?_).symm
 have:x.1≠id:=λe=>eg (by rw[<-nN];exact bk.2 ⟨x,J,e⟩)
 simpa using this
 rw[<-nN,O.rows]
 intro hm
 obtain⟨p,ad,e⟩:=bk.1 hm
 have:=(iX.1 ad).2
 simp[e] at this
 have ag:=aT.small
 have aQ:bb.w.length=(a6 bb).length:=by simp[a6]
 have aF:T.w.length=(a6 T).length:=by simp[a6]
 rw[<-nN] at cb
 obtain⟨p,ad,e⟩:=bk.1 cb
 have:((a6 T).filter λp=>p.1 !=id).length<(a6 T).length:=Kg.2 ⟨p,ad,by simp[e]⟩
 rw[O.rows] at aQ
 omega
def _root_.Go.Proofs.YtejdhbfjjgcljaaGreatDoor.hT.mono{x:ey×M N}(h:hT u x)(hu:u.le u'):hT u' x:=h.bS (λc z _ ab=>hu c z ab) λr O=>(h.vec r O).mono hu
def _root_.Go.Proofs.YtejdhbfjjgcljaaGreatDoor.Way.mono{aI:o}{lQ bD:N->Prop}{n0:aw}{aW:M ko}{n:aw}(w:Way aI ub u d v lQ bD n0 aW n)(hu:u.le u'):Way aI ub u' d v lQ bD n0 aW n:=
 ⟨w.base.trans hu,λx J=>(w.one x J).mono hu,w.nodup,λc I=>(λY=>⟨Y.1,λe=>Y.2.1 (hu.none e),Y.2.2⟩) (w.out c I),w.known,w.vec,w.ok,w.ins,w.box,w.all,w.len,w.b⟩
def ang{n:N}{id:o}(h:u n=some (.cells #[.int .i64 0,.slice none 0 0] 52 (0,0)))(ac:f (u.ins n (.cells #[.int .i64 id,.slice s.a s.n s.c] 52 (0,0)))):
  H.aO u (cw n 0 none) [.int .i64 id,.slice s.a s.n s.c] f:=⟨_,_,h,rfl,by simp,by simp[cK],ac⟩
def Ow:∀{l:M N} {x:N},x∈l->x<=l.sum
 |y::l,x,h=>by rw[List.sum_cons];rcases cP.1 h with rfl|h;omega;have:=Ow h;omega
def aa3{i:N}(hi:i<ks.length):ks[i].bR.length<(aw.mk h ks).bR.length:=by rw[aw.bR,aw.Iy,hX,List.length_flatMap];have:ks[i].bR.length<=(ks.map λk=>k.bR.length).sum:=Ow (bk.2 ⟨ks[i],kD hi,rfl⟩);omega
def D8{af:N->aA bx}{T:aS}{id:o}{t:U}(h:In aj u af b T)(aT:dU T)(kc:T.e4<=4000)(ht:Ints u t q)(pn:∀aU c4,aj.le aU->hU u af aU c4->Ints aU t q)
  (dq:fR id q T.aq (decide (id∈(a6 T).map (·.1))) (a6 T).length≠0->K ax (fR id q T.aq (decide (id∈(a6 T).map (·.1))) (a6 T).length) u)
  (bH:fR id q T.aq (decide (id∈(a6 T).map (·.1))) (a6 T).length=0->∀u' aY bB,tT aj u af b T id q u' aY bB->K (decide (id∉(a6 T).map (·.1))) 0 u'):aeQ (some ⟨b,0,none⟩) id t u K:=by
 apply aFO
 refine⟨λe=>(by cases e),λ_=>⟨_,rfl,_,a8 h.aJ.cell 4,?_⟩⟩
 obtain⟨y,ai,iU⟩:∃y:U,(fD (eb T.w) id).getD (.slice none 0 0)=aE.slice.enc y/\(fD (eb T.w) id).isSome=decide (id∈(a6 T).map (·.1)):=by rw[nN];rcases tc T.w id with⟨W,hm⟩|⟨e,he,cm,W⟩;exact⟨⟨none,0,0⟩,by rw[W];rfl,by rw[W,o0 hm];rfl⟩;exact⟨e.2.1,by rw[W];rfl,by rw[W,l4 (bk.2 ⟨e,he,cm⟩)];rfl⟩
 refine tM je h.aJ.map (ct:=.slice) y ai ?_
 rw[iU]
 refine⟨_,rfl,_,rfl,_,a8 h.aJ.cell 0,_,a8 h.aJ.cell 4,vk je h.aJ.map ⟨H.le.refl u,Kx ht ?_⟩⟩
 rw[LM]
 refine⟨λan=>dq an,λhe=>?_⟩
 have bH:=bH he
 obtain⟨d1,d2,xL,d4⟩:1<=id/\id<=1000000000/\hv q T.aq=0/\(decide (id∈(a6 T).map (·.1))=ax->((a6 T).length:o)<512):=by unfold fR at he;split at he;cases he;rename_i h1;split at he;rename_i h2;exact aV he h2;rename_i h2;split at he;cases he;rename_i h3;refine⟨by omega,by omega,by simpa using h2,λe=>?_⟩;by_cases a7:((a6 T).length:o)<512;exact a7;exact aV ⟨e,by omega⟩ h3
 obtain⟨aQ,aF,cW,fJ⟩:=oL xL
 have aa:(!decide (decide (id∈(a6 T).map (·.1))=ak))=decide (id∉(a6 T).map (·.1)):=by by_cases cb:id∈(a6 T).map (·.1)<;>simp[cb]
 have eQ:∀Y:H,K (decide (id∉(a6 T).map (·.1))) 0 Y->K (!decide (decide (id∈(a6 T).map (·.1))=ak)) 0 Y:=λY aC=>by rw[aa];exact aC
 refine ac5 h aT kc (λeg=>?_) λ_ aU c4 bb W=>?_
 have:=d4 (o0 (by rw[nN];exact eg))
 have gA:T.w.length=(a6 T).length:=by simp[a6]
 omega
 have i1:=W.is
 have ly:=W.ok
 have rB:=pn aU c4 i1.le W.eX
 intro ao1 asn
 suffices go:∀(ck:N) (dx:U) (hb:H),aU ck=none->dx.al≠some ck->aK aU hb 3 1 dx (q.flatMap encI)->hb ck=some (.cells #[.int .i64 id,.slice dx.a dx.n dx.c] 52 (0,0))->ao1 ⟨ck,0,none⟩ hb by
  have ahy:t.n<=1099511627776:=by have:=rB.len;omega
  refine⟨sN rB ahy λdx hb fY _=>⟨fY.le,λn ae=>⟨fY.le.trans (bZ _ ae),ang (bi _ _ _) ?_⟩⟩,λn ae=>⟨bZ _ ae,sN (rB.mono (bZ _ ae)) ahy λdx hb fY _=>⟨(bZ _ ae).trans fY.le,ang (fY.le _ _ (bi _ _ _)) ?_⟩⟩⟩;rw[S8];exact go n dx _ (fY.le.none ae) (λe=>dL fY e ae) (fY.mono (bZ _ ae)) (bi _ _ _);have an:dx.al≠some n:=λe=>by have:=fY.fresh n e;rw[bi] at this;cases this
  have ab:aK aU hb 3 1 dx (q.flatMap encI):=fY.weaken (bZ _ ae);exact go n dx _ ae an ⟨ab.own.le λc z I J=>by rw[bq _ _ (λe=>an (by rw[I,e]))];exact J,λc z I=>by rw[bq _ _ (λe=>by rw[e,ae] at I;cases I)];exact ab.le c z I,ab.fresh⟩ (bi _ _ _)
 intro ck dx hb vX aHG fY Xc
 refine asn _ _ ?_
 have uT:=fY.le
 have aJ:=(mG.mono bS i1 uT).aJ
 refine⟨_,rfl,_,a8 aJ.cell 4,_,a8 Xc 0,dx,a8 Xc 1,B3 je aJ.map (xh.2 (by unfold eb;rw[eh];exact W.no)) λqa iL=>?_⟩
 obtain⟨fk,Bj⟩:∃fk,fk=hb.ins bb.m qa:=⟨_,rfl⟩
 rw[<-Bj] at iL ⊢
 have m20:fk bb.m=some qa:=by rw[Bj];exact bi _ _ _
 have oc:∀c z,hb c=some z->c≠bb.m->fk c=some z:=λc z I an=>by rw[Bj,bq _ _ an];exact I
 have jO:∀{c},c4 c≠some .map->c≠bb.m:=λI e=>I (by rw[e];exact aJ.dr)
 have n20:∀{c},fk c=none->aU c=none/\dx.al≠some c:=λ{c} I=>by
  have an:c≠bb.m:=λe=>by rw[e,m20] at I;cases I
  have xj:hb c=none:=by rw[Bj,bq _ _ an] at I;exact I
  exact⟨uT.none xj,λe=>dL fY e xj⟩
 have smap:∀g,dx.al=some g->aU g=none/\g≠bb.m:=λg ca=>⟨fY.fresh g ca,λe=>by have:=i1.known bb.m (by rw[aJ.dr];simp);rw[<-e] at this;exact this (fY.fresh g ca)⟩
 have Na:fz fk bb.m (eb (bb.w++ [(id,(dx,q))])):=by
  have:eb (bb.w++ [(id,(dx,q))])=eb bb.w++ [(id,.slice dx.a dx.n dx.c)]:=by simp[eb]
  rw[this];exact iL
 have Ca:Ints fk dx q:=bz.else fY.ints λg z ca ab=>oc g z ab (smap g ca).2
 have b8:∀{c},c4 c≠none->c≠ck:=λI e=>i1.known _ I (by rw[e];exact vX)
 have d20:fk ck=some (.cells #[.int .i64 id,.slice dx.a dx.n dx.c] 52 (0,0)):=oc _ _ Xc (b8 (c:=bb.m) (by rw[aJ.dr];simp)).symm
 obtain⟨st,dY⟩:=aJ.src
 have tK:fk bb.src=some (.cells #[.int .u64 st] 215 (0,0)):=oc _ _ dY (jO (by rw[aJ.ih];simp))
 have adr:dx.al≠some bb.src:=λe=>i1.known bb.src (by rw[aJ.ih];simp) (smap _ e).1
 have PN:bb.src≠b:=λe=>by have:=aJ.ih;rw[e,aJ.dR] at this;cases this
 have UQ:bb.src≠bb.m:=λe=>by have:=aJ.ih;rw[e,aJ.dr] at this;cases this
 have ob:fk b=some (.cells (fx bb).toArray 174 (0,0)):=oc _ _ aJ.cell (jO (by rw[aJ.dR];simp))
 have anB:fk.cell? ((cw b 0 none).add 1)=some (.int .i64 bb.leaf):=a8 ob 1
 have aIj:fk.cell? ((cw b 0 none).add 2)=some (.pointer (some ⟨bb.src,0,none⟩)):=a8 ob 2
 have Dm:(q.length:o)=bb.aq:=by rw[W.aq];exact cW
 have fin:∀u' r,Ew aU c4 b bb id dx q u' r->K (!decide (decide (id∈(a6 T).map (·.1))=ak)) 0 u':=λu' r ac=>by obtain⟨aY,bB,f1,f2,f3,f4,f5,f6,f7⟩:=ac.acH i1 ly ⟨d1,d2⟩ ⟨Dm,fJ⟩ W.vH;refine eQ _ (bH u' aY bB ⟨f1,W.eX.trans f2,f3,by rw[<-W.rows];exact f4,f5.trans W.aq,f6.trans W.leaf,by rw[<-W.e4];exact f7⟩)
 have NG:∀l:M az,((l.map az.bL).Perm ((id,q)::lD bb)∨∃m:M j6,((l.map az.bL)++m).Perm ((id,q)::lD bb))->hp l bb.aq:=λl ap=>by
  obtain⟨m,hm⟩:∃m:M j6,((l.map az.bL)++m).Perm ((id,q)::lD bb):=ap.elim (λh=>⟨[],by rw[lB];exact h⟩) λh=>h;have eJ:((l.map az.bL)++m).Perm ((id,q)::a6 bb):=hm.trans (j3 _ ly.rows);have b3:(((id,q)::a6 bb).map (·.1)).Nodup:=by rw[gR,h6];exact⟨by rw[nN];exact W.no,i1.aJ.r8⟩
  have hlen:=eJ.length_eq;have uv:=W.vH;simp only[eD,dj,hX,a6] at hlen;refine D1 ly.hB (by omega) ?_ λp ad=>?_;have:=(eJ.map (·.1)).nodup_iff.2 b3;rw[er,fZ] at this;rw[show l.map (·.id)=(l.map az.bL).map (·.1) by rw[eh];rfl];exact this.1;rcases cP.1 (eJ.mem_iff.1 (iA _ ad)) with rfl|ad;exact⟨d1,d2,Dm,fJ⟩;obtain⟨e,gd,rfl⟩:=bk.1 ad;exact⟨(ly.ids e gd).1,(ly.ids e gd).2,ly.vec e gd⟩
 cases k2:bb.root with
 |none=>
  have ur:fk.cell? ((cw b 0 none).add 3)=some (.pointer none):=by
   have J:fx bb=[.int .i64 bb.aq,.int .i64 bb.leaf,.pointer (some ⟨bb.src,0,none⟩),.pointer none,.map (some bb.m)]:=by simp[fx,k2]
   rw[J] at ob;exact a8 ob 3
  have xm:lD bb=[]:=by unfold lD;rw[k2]
  refine⟨_,rfl,none,ur,λ_=>⟨_,a8 d20 0,dx,a8 d20 1,?_⟩,λan=>aV rfl an⟩;refine mA (xa id dx) λg p2=>?_;obtain⟨BE,Nu⟩:∃BE,BE=(bj [cJ .i64 id,.slice dx.a dx.n dx.c].toArray 52 (0,0)):=⟨_,rfl⟩;rw[<-Nu];have Dz:fk.le (fk.ins g BE):=bZ _ p2;obtain⟨nj,oV⟩:∃nj,nj=H.no fk bb.src:=⟨_,rfl⟩;have BA:nj.le fk:=by rw[oV];exact OA _ _
  have Ch:∀{c},c≠bb.src->nj c=fk c:=λI=>by rw[oV];exact JD I
  have nG:aK nj (fk.ins g BE) 52 2 ⟨some ⟨g,0,none⟩,1,1⟩ (([⟨id,dx,q⟩]:M az).flatMap cO):=by rw[Nu];exact(aK.make (H.le.refl fk) p2 (cells:=[cJ .i64 id,.slice dx.a dx.n dx.c].toArray) (n:=1) (by omega) rfl).weaken BA
  have W9:nj b=some (.cells (fx bb).toArray 174 (0,0)):=by rw[Ch (dG PN)];exact ob
  have aCb:Ints nj dx q:=bz.else Ca λc z I J=>by rw[Ch (λe=>adr (by rw[I,e]))];exact J
  refine Hd (ub:=nj) (src:=bb.src) (by have:=ly.Bx;omega) (a8 W9 1) (a8 W9 2) (by rw[oV];exact Tt _ _) ⟨st,Dz _ _ tK⟩ (λe=>by
   have:g=bb.src:=by simpa[U.al] using e
   rw[this,tK] at p2;cases p2) nG (λr O=>by rw[gp.1 O];exact aCb) (NG _ (.inl (by rw[xm];exact .refl _))) (λe=>by cases e) λ_ qp ek I=>?_
  have asd:g≠b:=λe=>by rw[e,ob] at p2;cases p2
  have sw:∀c z,fk c=some z->c≠bb.src->qp c=some z:=λc z dd xC=>I.ue c z (Dz c z dd) (λe=>by
   have:g=c:=by simpa[U.al] using e
   rw[this,dd] at p2;cases p2) xC
  have CJ:qp b=some (.cells #[.int .i64 bb.aq,.int .i64 bb.leaf,.pointer (some ⟨bb.src,0,none⟩),.pointer none,.map (some bb.m)] 174 (0,0)):=by have:=sw _ _ ob (dG PN);rw[show fx bb=[.int .i64 bb.aq,.int .i64 bb.leaf,.pointer (some ⟨bb.src,0,none⟩),.pointer none,.map (some bb.m)] by simp[fx,k2]] at this;exact this
  refine⟨_,rfl,PO CJ ?_⟩;obtain⟨wP,Bk⟩:∃wP,wP=qp.ins b (.cells #[.int .i64 bb.aq,.int .i64 bb.leaf,.pointer (some ⟨bb.src,0,none⟩),.pointer (some ⟨ek.b,0,none⟩),.map (some bb.m)] 174 (0,0)):=⟨_,rfl⟩;rw[<-Bk];have pw:∀c z,qp c=some z->c≠b->wP c=some z:=λc z dd an=>by rw[Bk,bq _ _ an];exact dd
  have Lp:b∉ek.own:=λe=>by have:=(I.out b e).1;rw[W9] at this;cases this
  have tZ:bb.m≠b:=λe=>by have h1:=aJ.dr;rw[e,aJ.dR] at h1;cases h1
  have gv:∀b2,dx.al=some b2->b2≠b:=λb2 ca e=>by have:=i1.known b (by rw[aJ.dR];simp);rw[<-e] at this;exact this (smap b2 ca).1
  have Of:∀c z,aU c=some z->c≠bb.m->c≠b->c≠bb.src->wP c=some z:=λc z dd h1 h2 h3=>pw c z (sw c z (oc c z (uT c z dd) h1) h3) h2;have ss:∀{b2},dx.al=some b2->b2≠bb.src:=λca e=>adr (by rw[ca,e]);refine fin wP ek ⟨?_,Na.else λz ab=>pw _ z (sw _ z ab (dG UQ)) tZ,I.src.elim λoJ wa=>⟨oJ,pw _ _ wa PN⟩,bz.else Ca λb2 z ca ab=>pw b2 z (sw b2 z ab (ss ca)) (gv b2 ca),λb2 ca=>⟨(smap b2 ca).1,?_⟩,λc z dd ac=>?_,λc dd ac=>?_,λx J=>?_,I.nodup,λc dd=>?_,λx J r O b2 ca=>?_,?_,I.ok,I.oI,I.bin,?_⟩;rw[Bk,bi];rfl;obtain⟨z,ab⟩:=fj.1 (dL fY ca);rw[pw b2 z (sw b2 z (oc b2 z ab (smap b2 ca).2) (ss ca)) (gv b2 ca)];simp;refine Of c z dd (jO ?_) (λe=>?_) λe=>by rw[e,aJ.ih] at ac;rcases ac with ac|ac<;>cases ac
  rcases ac with ac|ac<;>rw[ac]<;>simp;rw[e,aJ.dR] at ac;rcases ac with ac|ac<;>cases ac;by_cases h1:c=bb.m;rw[h1,pw _ _ (sw _ _ m20 (dG UQ)) tZ];simp;by_cases h2:c=b;rw[h2,Bk,bi];simp;by_cases h3:c=bb.src;obtain⟨oJ,wa⟩:=I.src;rw[h3,pw _ _ wa PN];simp;obtain⟨z,ab⟩:=fj.1 dd;rw[Of c z ab h1 h2 h3];simp;refine(I.one x J).bS (λc z cL ab=>pw c z ab λe=>Lp (by rw[<-e];exact ep.2 ⟨x,J,cL⟩)) λr O=>?_;rw[gp.1 (I.rows x J r O)];exact bz.else Ca λb2 z ca ab=>pw b2 z (sw b2 z ab (ss ca)) (gv b2 ca);obtain⟨cV,dc,dh⟩:=I.out c dd;rw[Ch dh] at cV;obtain⟨z,ab⟩:=fj.1 dc;exact⟨.inr (n20 cV),by rw[pw c z ab (λe=>Lp (by rw[<-e];exact dd))];simp⟩;rw[gp.1 (I.rows x J r O)] at ca;exact .inr ca;rw[xm];exact I.all;have:=I.size;simp only[hX,oB] at this;omega
 |some n0=>
  obtain⟨cV,dc,dh,fL⟩:=aJ.one n0 k2;have ur:fk.cell? ((cw b 0 none).add 3)=some (.pointer (some ⟨n0.b,0,none⟩)):=by
   have J:fx bb=[.int .i64 bb.aq,.int .i64 bb.leaf,.pointer (some ⟨bb.src,0,none⟩),.pointer (some ⟨n0.b,0,none⟩),.map (some bb.m)]:=by simp[fx,k2]
   rw[J] at ob;exact a8 ob 3
  have xm:lD bb=n0.bF.all:=by unfold lD;rw[k2]
  obtain⟨ub,ci⟩:∃ub:H,ub=λc=>open Classical in if c∈n0.own∨c=bb.src then none else fk c:=⟨_,rfl⟩;have yo:∀{c},c∈n0.own->ub c=none:=λI=>by rw[ci];exact a1 (.inl I)
  have PT:ub bb.src=none:=by rw[ci];exact a1 (.inr rfl)
  have gG:∀{c},c∉n0.own->c≠bb.src->ub c=fk c:=λI ag=>by rw[ci];exact aG (λe=>e.elim I ag)
  have lub:ub.le fk:=λc b7 I=>by by_cases e:c∈n0.own;rw[yo e] at I;cases I;by_cases aF:c=bb.src;rw[aF,PT] at I;cases I;rw[gG e aF] at I;exact I
  have lL:∀{c},c4 c≠some .node->c∉n0.own:=λI e=>I (dh _ e);have PG:∀g,dx.al=some g->g∉n0.own:=λg ca e=>i1.known g (by rw[dh g e];simp) (smap g ca).1;have PE:∀{g},dx.al=some g->g≠bb.src:=λca e=>adr (by rw[ca,e]);have lT:ub b=some (.cells (fx bb).toArray 174 (0,0)):=by rw[gG (lL (by rw[aJ.dR];simp)) (dG PN)];exact ob
  have ays:ck∉n0.own:=λe=>b8 (by rw[dh ck e];simp) rfl;have ayt:ck≠bb.src:=λe=>b8 (c:=bb.src) (by rw[aJ.ih];simp) e.symm;have afQ:ub ck=some (.cells #[.int .i64 id,.slice dx.a dx.n dx.c] 52 (0,0)):=by rw[gG ays ayt];exact d20
  have Cb:Ints ub dx q:=bz.else Ca λg z ca ab=>by rw[gG (PG g ca) (PE ca)];exact ab
  have LG:∀c z,hb c=some z->c4 c≠some .map->c4 c≠some .node->c4 c≠some .src->ub c=some z:=λc z I h1 h2 h3=>by rw[gG (lL h2) (λe=>h3 (by rw[e];exact aJ.ih))];exact oc c z I (jO h1)
  have N5:∀x∈n0.bR,∀r∈x.1.rows,Ints ub r.s r.v:=λx J r O=>bz.else ((cV x J).vec r O) λg z ca ab=>LG g z ab (by rw[fL x J r O g ca];simp) (by rw[fL x J r O g ca];simp) (by rw[fL x J r O g ca];simp);have wR:Way 3 ub fk bb.aq q (λc=>c≠bb.src) (λg=>c4 g=some .vec) n0 [] n0:=by refine Way.start lub (λc I e=>I (by rw[e];exact PT)) (λx J=>(cV x J).bS (λc z I ab=>oc c z ab (jO ?_)) λr O=>(N5 x J r O).mono lub) dc (λc I=>⟨yo I,?_,λe=>by have:=dh c I;rw[e,aJ.ih] at this;cases this⟩) (λx J r O=>⟨N5 x J r O,λg ca=>fL x J r O g ca⟩) (ly.ok n0 k2) (ly.oI n0 k2);rw[dh c (ep.2 ⟨x,J,I⟩)];simp;have hk:=i1.known c (by rw[dh c I];simp);obtain⟨z,ab⟩:=fj.1 hk;rw[oc c z (uT c z ab) (jO (by rw[dh c I];simp))];simp
  refine⟨_,rfl,_,ur,λe=>(by cases e),λ_=>⟨_,rfl,_,ur,?_⟩⟩
  let At:aA bc->H->N->Prop:=λp w f=>∃aW n,p=some ⟨n.b,0,none⟩/\Way 3 ub w bb.aq q (λc=>c≠bb.src) (λg=>c4 g=some .vec) n0 aW n/\Aq w bb.src/\jX (na aW n).bF/\n.bR.length=f
  refine⟨λp w=>∃f,At p w f,λp w=>least (At p w),⟨_,[],n0,rfl,wR,⟨st,tK⟩,ly.bin n0 k2,rfl⟩,λOM ni cx=>?_⟩;have mR:=Gl cx;generalize MJ:least (At OM ni)=f at mR;obtain⟨aW,n,ad,w,⟨st1,dZ⟩,It,avz⟩:=mR;obtain⟨e8,ks⟩:=n;obtain rfl:OM=some ⟨e8.b,0,none⟩:=ad;obtain⟨jn,b3,iq,lo,fE⟩:=w.head;have tp:=JI aW w.ok;obtain⟨LA,LB,_,afo,apZ,ap0⟩:=WJ fE tp;have Re:∀{Y:H},ub.le Y->Y.cell? ((cw ck 0 none).add 1)=some (.slice dx.a dx.n dx.c):=λaC=>a8 (aC _ _ afQ) 1;refine⟨dx,Re w.base,ac9 Cb w.base jn b3 (λc I=>(iq c I).1) (λr O=>(lo r O).1) afo fJ (by omega) (by omega) ap0 λ_ _ hs FO eL j0=>?_⟩;obtain⟨rr,AK⟩:=XI (ks:=ks) fE tp fJ Dm;have tQ:Way 3 ub hs bb.aq q (λc=>c≠bb.src) (λg=>c4 g=some .vec) n0 aW (.mk (ja e8 q) ks):=w.eX rfl rfl rfl FO eL j0 rr;have alQ:Aq hs bb.src:=⟨st1,eL _ _ dZ λhm=>(iq _ hm).2.2 rfl⟩;have afm:jX (na aW (.mk (ja e8 q) ks)).bF:=TB aW It (by obtain⟨ga,fu⟩:=afn (Q6 aW It);exact Q5 ga fu)
  have HR:hs e8.b=some (.cells (e2 (ja e8 q)).toArray 213 (0,0)):=FO.cell;have ua:∀{Y:H},hs.le Y->Y.cell? ((cw e8.b 0 none).add 7)=some (.slice e8.df.a e8.df.n e8.df.c):=λaC=>a8 (aC _ _ HR) 7;have uK:bz hs e8.df 1 ((ks.map aw.b).map λn=>.pointer (some ⟨n,0,none⟩)):=FO.lZ;have Z0:e8.df.n=ks.length:=by have:=uK.len;simpa using this.symm
  refine⟨_,rfl,e8.df,ua (H.le.refl _),λh0=>?_,λh0=>?_⟩;obtain rfl:ks=[]:=kS (by omega);refine⟨_,rfl,e8.bd,a8 HR 6,_,a8 (tQ.base _ _ afQ) 0,dx,Re tQ.base,?_⟩;refine adj (h:=ja e8 q) tQ (by have:=ly.Bx;omega) (a8 lT 1) (a8 lT 2) alQ afm Cb (NG _ (.inr ?_)) AK λu' r ar fo rJ=>fin u' r ?_;refine⟨(jL aW e8.b).flatMap λx=>x.1.rows.map az.bL,?_⟩;have gA:=(JH aW (.mk e8 [])).symm.trans w.all;rw[xm];have mc:(aw.mk e8 []).bF.all=e8.rows.map az.bL:=by rw[aw.tC,aw.bR,aw.mQ];simp
  rw[mc] at gA;rw[er];refine(List.Perm.append_right _ (nc _ _)).trans ?_;exact j3 _ gA;have cN:fx {bb with root:=some r}=fx bb:=by simp[fx,k2,ar.b]
  refine⟨by rw[cN];exact ar.le _ _ lT,?_,rJ,Cb.mono ar.le,λg ca=>⟨(smap g ca).1,?_⟩,λc z I ac=>?_,λc I ac=>?_,ar.one,ar.nodup,λc I=>⟨?_,(ar.own c I).2⟩,λx J y ai g ca=>ar.rws x J y ai g ca,by rw[xm];exact ar.all,ar.ok,ar.oI,fo,?_⟩;exact Na.else λz ab=>ar.le _ _ (by rw[gG (lL (by rw[aJ.dr];simp)) (dG UQ)];exact ab);obtain⟨z,ab⟩:=fj.1 (dL fY ca);rw[ar.le g z (by rw[gG (PG g ca) (PE ca)];exact oc g z ab (smap g ca).2)];simp;exact ar.le c z (LG c z (uT c z I) (by rcases ac with ac|ac<;>rw[ac]<;>simp) (by rcases ac with ac|ac<;>rw[ac]<;>simp) (by rcases ac with ac|ac<;>rw[ac]<;>simp));by_cases h1:c=bb.m;rw[h1,ar.le _ _ (by rw[gG (lL (by rw[aJ.dr];simp)) (dG UQ)];exact m20)];simp;by_cases h2:c=bb.src;obtain⟨oJ,wa⟩:=rJ;rw[h2,wa];simp;obtain⟨z,ab⟩:=fj.1 I;rw[ar.le c z (by rw[gG (lL ac) h2];exact oc c z (uT c z ab) h1)];simp;obtain⟨h1,h2⟩:=(ar.own c I).1;by_cases hm:c∈n0.own;exact .inl (dh c hm);rw[gG hm h2] at h1;exact .inr (n20 h1);have h1:=ar.size;have h2:=ly.size n0 k2;omega;have ju:ks.length=2:=(afn (Q6 aW It)).1.resolve_left λe=>h0 (by omega);have lZ:∀(i:N) (hi:i<ks.length),hT hs (ks[i].h,ks[i].kids.map aw.b)/\c8 ks[i].h.bm/\(ks[i].h.bm.length:o)=bb.aq:=λi hi=>by
   have mj:(ks[i].h,ks[i].kids.map aw.b)∈(aw.mk (ja e8 q) ks).bR++jL aW (aw.mk (ja e8 q) ks).b:=by rw[aw.bR,aw.Iy];refine iA _ (gh _ (ep.2 ⟨ks[i],kD hi,?_⟩));rw[aw.iI];exact gr ..
   have h3:=rr.kids ks[i].bF (by rw[aw.hD];exact ie (kD hi));have hk:ks[i]=.mk ks[i].h ks[i].kids:=by cases ks[i];rfl
   rw[hk] at h3;obtain⟨_,_,_,iY,z2,_⟩:=WJ (show ks[i].h.aI=3 from tQ.box _ mj) h3;exact⟨tQ.one _ mj,iY,z2⟩
  obtain⟨a0,y1,pj⟩:=JK uK (i:=0) (by simp;omega);obtain⟨Z,um,h9⟩:=JK uK (i:=1) (by simp;omega);obtain rfl:Z=a0:=by rw[y1] at um;exact(cX um).symm
  rw[DW] at pj h9;have ahC:hs.cell? (eu Z 0)=some (.pointer (some ⟨(ks[0]'(by omega)).b,0,none⟩)):=by simpa using pj
  have ahD:hs.cell? (eu Z 1)=some (.pointer (some ⟨(ks[1]'(by omega)).b,0,none⟩)):=by simpa using h9
  have aka:∀(i:N) (hi:i<ks.length) {Y:H},hs.le Y->Y.cell? ((cw ks[i].b 0 none).add 1)=some (.slice ks[i].h.bp.a ks[i].h.bp.n ks[i].h.bp.c):=λi hi Y aC=>by have Dy:hs ks[i].b=some (.cells (e2 ks[i].h).toArray 213 (0,0)):=(lZ i hi).1.cell;exact a8 (aC _ _ Dy) 1
  have Rl:∀(i:N) (hi:i<ks.length) {Y:H} {Q:o->o->o->H->Prop},hs.le Y->(∀x y,cz x->cz y->Q x y 0 Y)->sa ks[i].h.bp dx Y Q:=λi hi Y Q aC fm=>by obtain⟨cq,cH,kP⟩:=lZ i hi;exact B6 (cq.bm.f.ints.mono aC) (Cb.mono (tQ.base.trans aC)) cH (by show 1<=ks[i].h.bm.length;omega) fJ (by show ks[i].h.bm.length=q.length;omega) λx y J ai _=>fm x y J ai
  have on:∀(i:N) (hi:i<ks.length) (Y:H),hs.le Y->(∃f,At (some ⟨ks[i].b,0,none⟩) Y f)/\least (At (some ⟨ks[i].b,0,none⟩) Y)<least (At (some ⟨e8.b,0,none⟩) ni):=λi hi Y aC=>by
   have po:ks=ks.take i++ks[i]::ks.drop (i+1):=by rw[<-tF hi,q2]
   have aGg:=tQ.mono aC;have hw:Way 3 ub Y bb.aq q (λc=>c≠bb.src) (λg=>c4 g=some .vec) n0 (⟨ja e8 q,ks.take i,ks.drop (i+1)⟩::aW) ks[i]:=by refine Way.lZ (by rw[<-po];exact aGg) ?_;rw[aw.hD] at AK;exact AK
   have kK:jX (na (⟨ja e8 q,ks.take i,ks.drop (i+1)⟩::aW) ks[i]).bF:=by show jX (na aW (.mk (ja e8 q) (ks.take i++ks[i]::ks.drop (i+1)))).bF;rw[<-po];exact afm
   have bw:=aa3 (h:=e8) hi;have uo:At (some ⟨ks[i].b,0,none⟩) Y ks[i].bR.length:=⟨_,_,rfl,hw,alQ.elim λa b=>⟨a,aC _ _ b⟩,kK,rfl⟩;refine⟨⟨_,uo⟩,?_⟩;have:=least_le uo;rw[MJ];omega
  intro ao9 asD;have two:∀(fs:N) (x y:o) (Y:H),cz y->hs.le Y->Y fs=some (.cells [cJ .u64 x,.int .u64 y].toArray 66 (0,0))->ao9 ⟨fs,0,none⟩ Y:=by
   intro fs x y Y ai aC afY;refine asD _ _ ?_;intro apa asE;have cmp:∀(DD:N) (kV kF:o) (fC:H),cz kF->Y.le fC->fC DD=some (.cells [cJ .u64 kV,.int .u64 kF].toArray 66 (0,0))->apa ⟨DD,0,none⟩ fC:=by intro DD kV kF fC iM Bs afZ;have Ic:=aC.trans Bs;refine asE _ _ ⟨_,a8 (Bs _ _ afY) 0,_,a8 (Bs _ _ afY) 1,_,a8 afZ 0,_,a8 afZ 1,yl ai iM ⟨λ_=>?_,λ_=>?_⟩⟩;exact⟨_,rfl,e8.df,ua Ic,Z,y1,⟨by omega,by omega⟩,_,H.le.cell Ic ahC,on 0 (by omega) fC Ic⟩;exact⟨_,rfl,e8.df,ua Ic,Z,y1,⟨by omega,by omega⟩,_,H.le.cell Ic ahD,on 1 (by omega) fC Ic⟩
   refine⟨_,rfl,e8.df,ua aC,Z,y1,⟨by omega,by omega⟩,_,H.le.cell aC ahD,_,rfl,_,aka 1 (by omega) aC,dx,Re (tQ.base.trans aC),?_,λn ae=>⟨bZ _ ae,?_⟩⟩;exact Rl 1 (by omega) aC λkV kF _ iM n ae=>⟨bZ _ ae,nh (zs:=[.int .u64 0,.int .u64 0]) rfl (by simp[cK]) (cmp n kV kF _ iM (bZ _ ae) (bi _ _ _))⟩;exact Rl 1 (by omega) (aC.trans (bZ _ ae)) λkV kF _ iM=>nh (zs:=[.int .u64 0,.int .u64 0]) rfl (by simp[cK]) (cmp n kV kF _ iM (bZ _ ae) (bi _ _ _))
  refine⟨_,rfl,e8.df,ua (H.le.refl _),Z,y1,⟨by omega,by omega⟩,_,ahC,_,rfl,_,aka 0 (by omega) (H.le.refl _),dx,Re tQ.base,?_,λn ae=>⟨bZ _ ae,?_⟩⟩;exact Rl 0 (by omega) (H.le.refl _) λkV kF _ iM n ae=>⟨bZ _ ae,nh (zs:=[.int .u64 0,.int .u64 0]) rfl (by simp[cK]) (two n kV kF _ iM (bZ _ ae) (bi _ _ _))⟩;exact Rl 0 (by omega) (bZ _ ae) λkV kF _ iM=>nh (zs:=[.int .u64 0,.int .u64 0]) rfl (by simp[cK]) (two n kV kF _ iM (bZ _ ae) (bi _ _ _))
end
end lS
namespace jH
inductive bx where
 |tree|yJ|uc|ox|list (i:N)|vec|map
structure aS where
 aq:o
 lb:U
 cs:M (U×M o)
 bp:U
 ls:M (U×M az)
 m:N
 w:M (o×N)
def aS.b9(T:aS):M (M o):=T.cs.map (·.2)
def fx(T:aS):M ao:=[.int .i64 T.aq,.slice T.lb.a T.lb.n T.lb.c,.slice T.bp.a T.bp.n T.bp.c,.map (some T.m)]
def qq(w:M (o×N)):M (o×ao):=w.map λx=>(x.1,.int .i64 x.2)
structure Cx(u:H)(s:U)(l:M az):Prop where
 cI:bz u s 2 (l.flatMap cO)
 own:Own u 52 2 s (l.flatMap cO)∨s.n=s.c
structure ec(af:N->aA bx)(u:H)(b:N)(T:aS):Prop where
 cell:u b=some (.cells (fx T).toArray 178 (0,0))
 dR:af b=some .tree
 yJ:bz u T.lb 1 (T.cs.flatMap λc=>encS c.1)
 vC:∀g,T.lb.al=some g->af g=some .yJ
 uc:∀(i:N) c,T.cs[i]?=some c->Ints u c.1 c.2/\∀g,c.1.al=some g->af g=some .uc
 ox:Own u 22 1 T.bp (T.ls.flatMap λl=>encS l.1)
 qS:∀g,T.bp.al=some g->af g=some .ox
 list:∀i l,T.ls[i]?=some l->Cx u l.1 l.2/\(∀g,l.1.al=some g->af g=some (.list i))/\∀r∈l.2,Ints u r.s r.v/\∀g,r.s.al=some g->af g=some .vec
 map:fz u T.m (qq T.w)
 dr:af T.m=some .map
def Cx.bS{u u':H}{s:U}{l:M az}(h:Cx u s l)(hu:∀c z,s.al=some c->u c=some z->u' c=some z):Cx u' s l:=
 ⟨bz.else h.cI λg z W ab=>hu g z W ab,h.own.imp (λab=>ab.le λb z aa ci=>hu b z aa ci) id⟩
def ec.bS{af aY:N->aA bx}{u u':H}{b:N}{T:aS}(h:ec af u b T)(ac:∀c,af c≠none->aY c=af c)(hu:∀c z,u c=some z->af c≠none->u' c=some z):ec aY u' b T where
 cell:=hu _ _ h.cell (by rw[h.dR];simp)
 dR:=by rw[ac _ (by rw[h.dR];simp)];exact h.dR
 yJ:=bz.else h.yJ λg z W ab=>hu g z ab (by rw[h.vC g W];simp)
 vC g W:=by rw[ac _ (by rw[h.vC g W];simp)];exact h.vC g W
 uc i c I:=⟨bz.else (h.uc i c I).1 λg z W ab=>hu g z ab (by rw[(h.uc i c I).2 g W];simp),λg W=>by rw[ac _ (by rw[(h.uc i c I).2 g W];simp)];exact(h.uc i c I).2 g W⟩
 ox:=h.ox.le λg z W ab=>hu g z ab (by rw[h.qS g W];simp)
 qS g W:=by rw[ac _ (by rw[h.qS g W];simp)];exact h.qS g W
 list i l ap:=by obtain⟨h1,h2,h3⟩:=h.list i l ap;refine⟨h1.bS λg z W ab=>hu g z ab (by rw[h2 g W];simp),λg W=>by rw[ac _ (by rw[h2 g W];simp)];exact h2 g W,λr O=>?_⟩;obtain⟨a7,bO⟩:=h3 r O;exact⟨bz.else a7 λg z W ab=>hu g z ab (by rw[bO g W];simp),λg W=>by rw[ac _ (by rw[bO g W];simp)];exact bO g W⟩
 map:=h.map.else λz ab=>hu _ _ ab (by rw[h.dr];simp)
 dr:=by rw[ac _ (by rw[h.dr];simp)];exact h.dr
def bS:yx ec:=⟨λh h1 h2=>h.bS h1 h2⟩
abbrev In:=mG ec
structure dU(T:aS):Prop where
 hB:1<=T.aq/\T.aq<=64
 many:T.cs.length=T.ls.length/\0<T.cs.length/\T.cs.length<=64
 HV:∀c∈T.cs,(c.2.length:o)=T.aq/\c8 c.2
 vec:∀l∈T.ls,∀r∈l.2,(r.v.length:o)=T.aq/\c8 r.v
 ids:∀l∈T.ls,∀r∈l.2,1<=r.id/\r.id<=1000000000
 nodup:((T.ls.flatMap (·.2)).map (·.id)).Nodup
 yr:∀id i,(id,i)∈T.w↔∃l,T.ls[i]?=some l/\id∈l.2.map (·.id)
 Cl:T.w.length=(T.ls.flatMap (·.2)).length
 small:T.w.length<=512
 tw:∀i l,T.ls[i]?=some l->∀r∈l.2,(mn (T.cs.map (·.2)) r.v T.cs.length).1=i
def a6(X:aS):M (o×M o):=(X.ls.flatMap (·.2)).map az.bL
def JG(c:M o)(l:M az):bJ:=.mk 3 c [] (o1 c l l.length) (l.map az.bL) []
def xX:M (U×M o)->M (U×M az)->M bJ
 |c::cs,l::ls=>JG c.2 l.2::xX cs ls|_,_=>[]
def ak3:∀(cs:M (U×M o)) (ls:M (U×M az)),cs.length=ls.length->bJ.jY (xX cs ls)=(ls.flatMap (·.2)).map az.bL:=by
 intro cs;induction cs with
 |nil=>
  intro ls h;cases ls with
  |nil=>rfl|cons l ls=>simp at h
 |cons c cs aM=>
  intro ls h;cases ls with
  |nil=>simp at h|cons l ls=>have:=aM ls (by simpa using h);simp only[xX,bJ.jY,this,gI,er];congr 1;unfold JG;rw[bJ.all_eq];show l.2.map az.bL++ []=_;rw[lB]
def ayV{c:M o}{l:M az}{d:o}(I:(c.length:o)=d/\c8 c)(ap:hp l d):gx d (JG c l):=by
 have hC:hp l c.length:=by rw[I.1];exact ap
 refine .mk ⟨ap.aq,oZ,λx J=>(by cases J),.inr (.inr ⟨rfl,rfl,I.2,I.1,alA I.2 hC _ (cC _)⟩)⟩ (λx J=>?_) (λk hk=>(by cases hk));have fQ:x∈l.map az.bL:=by rw[bJ.all_eq] at J;have h2:x∈l.map az.bL++ []:=J;rwa[lB] at h2
 obtain⟨r,O,rfl⟩:=bk.1 fQ;obtain⟨i,hi,rfl⟩:=oG O;exact⟨λe=>(by cases e),λ_=>(alz c l l.length).2 i _ hi (cy hi)⟩
def ak4{d:o}:∀(cs:M (U×M o)) (ls:M (U×M az)),(∀c∈cs,(c.2.length:o)=d/\c8 c.2)->(∀l∈ls,hp l.2 d)->∀p∈xX cs ls,gx d p:=by
 intro cs;induction cs with
 |nil=>intro ls _ _ p ad;cases ls<;>cases ad
 |cons c cs aM=>
  intro ls h1 h2 p ad;cases ls with
  |nil=>cases ad
  |cons l ls=>rcases cP.1 ad with rfl|ad;exact ayV (h1 c (gr ..)) (h2 l (gr ..));exact aM ls (λc I=>h1 c (gh _ I)) (λl ap=>h2 l (gh _ ap)) p ad
def ad0(X:aS)(q:M o)(k bud:o):mK:=o6 q k bud (xX X.cs X.ls)
def ix(X:aS)(q:M o)(k bud:o):M bP:=yn q k (ad0 X q k bud)
def gg(X:aS)(q:M o)(k bud:o):M o:=dS ((ad0 X q k bud).seen.map (·.1))
def jN(X:aS)(q:M o)(k bud:o):M (o×o×M o×M o×M o):=(oz (ad0 X q k bud)).map pT
def dU.Um{X:aS}(h:dU X):hp (X.ls.flatMap (·.2)) X.aq:=
 ⟨h.hB,by rw[<-h.Cl];exact h.small,λr O=>by obtain⟨l,ap,O⟩:=ep.1 O;exact h.ids l ap r O,h.nodup,λr O=>by obtain⟨l,ap,O⟩:=ep.1 O;exact h.vec l ap r O⟩
def PR{X:aS}(h:dU X){q:M o}{k bud:o}(hk:1<=k)(aa:0<=bud)(ar:(q.length:o)=X.aq){L:M az}(c6:(L.map az.bL).Perm (a6 X))(aL:jt L q){rest:M cn}(O:rest.map cn.core=jN X q k bud):
  Sound L q k (ix X q k bud) (gg X q k bud) rest/\((gg X q k bud).length:o)<=bud/\(((gg X q k bud).length:o)=bud∨(gg X q k bud).length=L.length∨qw q k (ix X q k bud) rest):=by
 have hC:=h.Um
 refine ad3 aa hk (ak4 X.cs X.ls (λc I=>by rw[ar];exact h.HV c I) λl ap=>?_) aL ?_ O
 rw[ar]
 exact hC.sub (D9 (f:=λl:U×M az=>l.2) ap)
 rw[ak3 _ _ h.many.1]
 exact c6
end jH
