/- Texts of mine, joined and packed by pack.py. -/
import Derived.Test.YtejdhbfjjgcljaaGreatDoorMrb7
import Derived.Laws.NewFold
import Derived.Maps.RangeRun
set_option linter.all false
open Go renaming Program->dT,Value->ao,World->cg,TypeId->dF,Addr->bc,madeCells->oC,MapEntry->zN
open _root_ renaming Nat->N,List->M,Option->aA,Array->cv,Int->o,Bool->aD,absurd->aV,Inhabited->lM
open Bool renaming true->ak,false->ax
open Go.Obj renaming cells->bj
open Go.Instr renaming lookup->gz,mapUpdate->kh,makeMap->pE,sliceAt->hP,buildSlice->dI,range->rY,findNow->GO,findKey->BS,checkKey->GQ
open Go.Builtin renaming append_->ee,delete_->rZ,len_->qc
open Go.Result renaming andThen->jf
open Go.Proofs.Tryz renaming prog->aH
open Go.Value renaming int->cJ,func->iQ,pointer->hn,slice->ea,oneCell'->cK
open Int renaming tdiv->ff
open List.Perm renaming cons->j3
open List.Pairwise renaming nil->oZ
open Go.Addr renaming mk->cw
open List renaming replicate->gu,length->iC
open Prod renaming fst->sI,snd->tH
set_option maxRecDepth 100000
noncomputable section
namespace Go.Proofs.YtejdhbfjjgcljaaGreatDoor
open H
open _root_.Go.Proofs.Tryz
structure QR(ub u:H)(s:U)(l:M az)(d:o)(u':H)(n:aw):Prop where
 one:∀x∈n.bR,hT u' x
 nodup:n.own.Nodup
 out:∀c∈n.own,ub c=none/\u' c≠none
 all:n.bF.all.Perm (l.map az.bL)
 ok:gx d n.bF
 rows:∀x∈n.bR,∀r∈x.1.rows,r∈l
 size:n.bR.length+1<=2*l.length
 ue:∀c z,u c=some z->s.al≠some c->u' c=some z
namespace kW
def Lm:hf aH 122=ak:=by kernel_rfl
def WG:hf aH 125=ak:=by kernel_rfl
def WQ(a b:N):kH aH 211 2 #[(0,.pointer (some ⟨a,0,none⟩)),(1,.pointer (some ⟨b,0,none⟩))]=some (167,[.pointer (some ⟨a,0,none⟩),.pointer (some ⟨b,0,none⟩)]):=by kernel_rfl
abbrev yM(n0 b8:N):ao:=.func (.func 122) #[] #[.pointer (some ⟨n0,0,none⟩),.pointer (some ⟨b8,0,none⟩)]
structure wW(ub:H)(n0 b8 c3:N)(d leaf:o):Prop where
 bM:ub.cell? ⟨n0,0,none⟩=some (.pointer (some ⟨c3,0,none⟩))
 c1:ub.cell? ⟨b8,0,none⟩=some (yM n0 b8)
 KC:ub.cell? ⟨c3,0,none⟩=some (.int .i64 d)
 q9:ub.cell? ((cw c3 0 none).add 1)=some (.int .i64 leaf)
def wW.mono{ub u:H}{n0 b8 c3:N}{d leaf:o}(h:wW ub n0 b8 c3 d leaf)(k:ub.le u):wW u n0 b8 c3 d leaf:=⟨H.le.cell k h.bM,H.le.cell k h.c1,H.le.cell k h.KC,H.le.cell k h.q9⟩
def W7{ub:H}{n11:N}{wd:o}{l:M az}{d:o}(I:ub.cell? ⟨n11,0,none⟩=some (.int .i64 wd))(h0:0<=wd)(h1:wd<d)(aB:∀r∈l,Ints ub r.s r.v)(bH:hp l d):
  K7 ub l (.func (.func 125) #[] #[.pointer (some ⟨n11,0,none⟩)]):=by
 intro a b v K ay aa hle av
 refine⟨_,_,_,rfl,hd WG,aEg a.id a.s b.id b.s ⟨n11,0,none⟩ v K ?_⟩
 have Ae:=(aB a ay).mono hle
 have rb:=(aB b aa).mono hle
 obtain⟨Z,a2⟩:=bH.v a ay
 obtain⟨ga,fu⟩:=bH.v b aa
 have aX:=Ae.len
 have Q7:=rb.len
 obtain⟨p,ad,J⟩:=Ae.at (x:=wd) h0 (by omega)
 obtain⟨q,aL,ai⟩:=rb.at (x:=wd) h0 (by omega)
 have aQ:=a2.2 wd.toNat (by omega)
 have aF:=fu.2 wd.toNat (by omega)
 have CK:=H.le.cell hle I
 exact⟨wd,CK,p,ad,⟨h0,by omega⟩,_,J,wd,CK,q,aL,⟨h0,by omega⟩,_,ai,⟨by have:=aQ.1;have:=aQ.2;have:=aF.1;have:=aF.2;omega,by have:=aQ.1;have:=aQ.2;have:=aF.1;have:=aF.2;omega⟩,av _⟩
def ac6{n0 b8 c3:N}{d leaf:o}(A1:1<=leaf):∀(di:N) {ub u:H} {s:U} {l:M az} {K:aA bc->H->Prop},l.length<=di->wW ub n0 b8 c3 d leaf->aK ub u 52 2 s (l.flatMap cO)->(∀r∈l,Ints ub r.s r.v)->hp l d->
  (l=[]->K none u)->(l≠[]->∀u' n,QR ub u s l d u' n->lH 2 n.bF->K (some ⟨n.b,0,none⟩) u')->aeB s ⟨n0,0,none⟩ ⟨b8,0,none⟩ u K:=by
 intro di
 induction di with
 |zero=>intro ub u s l K eP cb ab aB bH h0 _;have ap:l=[]:=kS (by omega);have dM:s.n=l.length:=gU fM (by decide) ab.own.cI;apply an9;refine⟨λ_=>h0 ap,λan=>aV (by rw[dM,ap];rfl) an⟩
 |succ di aM=>
  intro ub u s l K eP cb ab aB bH h0 av;have dM:s.n=l.length:=gU fM (by decide) ab.own.cI;have ar:=bH.aq;have agO:=bH.len;apply an9;refine⟨λaC=>h0 (kS (by omega)),λZr=>?_⟩;have an:l≠[]:=λe=>Zr (by rw[dM,e];rfl);have av:=av an;have ci:=ab.le;have b4:eF u s l:=⟨ab.own.cI,λr O=>(aB r O).mono ci⟩;refine⟨_,H.le.cell ci cb.bM,_,rfl,d,H.le.cell ci cb.KC,?_⟩;refine am0 b4 bH an λbp aI j4 hQ h1 h2 h3 f1 f2 f3=>?_;obtain⟨ga,fu,oa,pQ,rk,pR⟩:=afr bH an;have abc:u.le hQ:=h1.le;have avb:bp.n=(mN l).length:=h1.ints.len;have p2:aI.n=(mM l).length:=h2.ints.len;intro n11 uD;refine nh (zs:=[.int .i64 0]) rfl (by simp[cK]) ?_;have Tf:=bZ (u:=hQ) (b:=n11) (.cells [cJ .i64 0].toArray 3 (0,0)) uD;have awF:ub n11=none:=ci.none (abc.none uD);refine⟨λx w=>0<=x/\hQ.le w/\∃wd:o,0<=wd/\wd<d/\w n11=some (.cells #[.int .i64 wd] 3 (0,0)),λx _=>(d-x).toNat,⟨by omega,Tf,0,by omega,by omega,bi _ _ _⟩,?_⟩;rintro x w ⟨bK,lw,wd,wR,gk,hw⟩;have Rj:w.cell? ⟨n11,0,none⟩=some (.int .i64 wd):=a8 hw 0;have zd:=(h1.mono lw).ints;have Fp:=(h2.mono lw).ints;have jK:∀{v:M o} {i:N},c8 v->i<v.length->-2147483647<=v.getD i 0/\v.getD i 0<=2147483647:=λaB hi=>aB.2 _ hi;obtain⟨dc,ZM,om⟩:=Fp.at (x:=wd) wR (by omega);obtain⟨cV,ND,h9⟩:=zd.at (x:=wd) wR (by omega);have g3:=jK oa (i:=wd.toNat) (by omega);have g4:=jK pQ (i:=wd.toNat) (by omega);refine⟨λJ=>?_,λJ=>?_⟩;obtain⟨gX,gD,pY⟩:=zd.at (x:=x) bK J;obtain⟨dv,eJ,y6⟩:=Fp.at (x:=x) bK (by omega);have g1:=jK oa (i:=x.toNat) (by omega);have g2:=jK pQ (i:=x.toNat) (by omega);refine⟨dv,eJ,⟨bK,by omega⟩,_,y6,gX,gD,⟨bK,J⟩,_,pY,⟨by omega,by omega⟩,wd,Rj,dc,ZM,⟨wR,by omega⟩,_,om,wd,Rj,cV,ND,⟨wR,by omega⟩,_,h9,⟨by omega,by omega⟩,λ_=>?_,λ_=>⟨⟨by omega,by omega⟩,⟨by omega,lw,wd,wR,gk,hw⟩,by dsimp only;omega⟩⟩;refine Hj hw (by simp[cK]) ⟨⟨by omega,by omega⟩,⟨by omega,λc z I=>?_,x,bK,by omega,bi _ _ _⟩,by dsimp only;omega⟩;rw[bq _ _ (λe=>by rw[e,uD] at I;cases I)];exact lw c z I;have Jx:u.le w:=abc.trans lw;have k5:ub.le w:=ci.trans Jx;intro Ev Ib;have jD:∀kids:M bJ,nv ((bJ.mk 2 (mN l) (mM l) 0 (l.map az.bL) kids).hE []) d/\∀rows:M j6,nv ((bJ.mk 2 (mN l) (mM l) 0 rows kids).hE []) d:=λkids=>
   ⟨⟨ar,oZ,λx J=>(by cases J),.inr (.inl ⟨rfl,rfl,oa,pQ,ga,fu,rk⟩)⟩,λrows=>⟨ar,oZ,λx J=>(by cases J),.inr (.inl ⟨rfl,rfl,oa,pQ,ga,fu,rk⟩)⟩⟩
  have ins:∀rows kids,∀Y∈l.map az.bL,mH ((bJ.mk 2 (mN l) (mM l) 0 rows kids).hE []) Y.2:=λrows kids Y aC=>by obtain⟨r,O,rfl⟩:=bk.1 aC;refine⟨λ_ i hi=>pR r O i ?_,λh=>(by cases h)⟩;have:=(bH.v r O).1;have qI:i<r.v.length:=hi;omega
  have Oq:Ev ak w:=by
   refine Ib ak w ⟨λ_ n31 sn=>?_,λe=>(by cases e)⟩;obtain⟨qH,iS⟩:∃b5:ey,b5=⟨n31,2,bp,aI,mN l,mM l,0,s,l,⟨none,0,0⟩⟩:=⟨_,rfl⟩;have rO:=bZ (u:=w) (b:=n31) (.cells (e2 qH).toArray 213 (0,0)) sn;have key:=av (w.ins n31 (.cells (e2 qH).toArray 213 (0,0))) (.mk qH []);have df:∀g,s.al=some g->u g≠none:=λg W=>dL ab W;have Zo:∀{t:U},(∀g,t.al=some g->w g≠none)->∀g,t.al=some g->g≠n31:=λht g W e=>ht g W (by rw[e];exact sn);have zm:∀g,bp.al=some g->w g≠none:=λg W=>dL (h1.mono lw) W;have Gd:∀g,aI.al=some g->w g≠none:=λg W=>dL (h2.mono lw) W;have ks:∀g,s.al=some g->w g≠none:=λg W=>dL (ab.mono Jx) W;have p4:(aw.mk qH []).own=n31::(bp.al.toList++aI.al.toList++s.al.toList):=by rw[aw.rT,iS];simp[aw.h,aw.kids,ey.dC,U.al]
   refine(show K (some ⟨n31,0,none⟩) _ from ?_);have fP:(bj #[.int .i64 2,.slice bp.a bp.n bp.c,.slice aI.a aI.n aI.c,.int .u64 0,.int .u64 0,.slice none 0 0,.slice s.a s.n s.c,.slice none 0 0] 213 (0,0))=.cells (e2 qH).toArray 213 (0,0):=by rw[iS];rfl
   rw[fP];have Is:(aw.mk qH []).b=n31:=by rw[iS];rfl
   rw[Is] at key;refine key ⟨λy ai=>?_,?_,λc I=>?_,?_,?_,λy ai r O=>?_,?_,λc z I kN=>rO c z (Jx c z I)⟩ (by rw[aw.hD,iS];exact .mk rfl λk hk=>(by cases hk));rw[aw.iI] at ai;obtain rfl:y=(qH,[]):=by simpa[aw.h,aw.kids] using ai
   subst iS;exact⟨bi _ _ _,((h1.mono lw).mono rO).own,((h2.mono lw).mono rO).own,((ab.mono Jx).mono rO).own,λr O=>(aB r O).mono (k5.trans rO),⟨rfl,cC _,by show 0<=9223372036854775807;omega,.inl rfl⟩⟩;rw[p4,h6];refine⟨λhm=>?_,?_⟩;simp only[cM,sH] at hm;rcases hm with(hm|hm)|hm;exact Zo zm n31 hm rfl;exact Zo Gd n31 hm rfl;exact Zo ks n31 hm rfl;have en:∀z:aA N,z.toList.Nodup:=λz=>by cases z<;>simp
   rw[fZ,fZ];refine⟨⟨en _,en _,λa ay b aa e=>?_⟩,en _,λa ay b aa e=>?_⟩;rw[sH] at ay aa;exact f1 (by rw[ay,aa,e]);rw[sH] at aa;simp only[cM,sH] at ay;subst e;rcases ay with ay|ay;exact df a aa (h1.fresh a ay);exact df a aa (h2.fresh a ay);rw[p4] at I;simp only[cP,cM,sH] at I;rcases I with rfl|(I|I)|I;exact⟨k5.none sn,by rw[bi];simp⟩;exact⟨ci.none (h1.fresh c I),λe=>zm c I (rO.none e)⟩;exact⟨ci.none (h2.fresh c I),λe=>Gd c I (rO.none e)⟩;exact⟨ab.fresh c I,λe=>ks c I (rO.none e)⟩;rw[aw.tC,aw.iI];subst iS;simp[aw.h,aw.kids];rw[aw.hD];subst iS;refine .mk (jD []).1 (λY aC=>ins _ _ Y ?_) λk hk=>(by cases hk);rw[bJ.all_eq] at aC;have Bs:Y∈l.map az.bL++ []:=aC;rwa[lB] at Bs;rw[aw.iI] at ai;obtain rfl:y=(qH,[]):=by simpa[aw.h,aw.kids] using ai
   subst iS;exact O;rw[aw.iI];have:=vc.2 an;simp[aw.kids];omega
  have inner:leaf<s.n->Ev ax w:=by
   intro bw;refine Ib ax w ⟨λe=>(by cases e),λ_=>?_⟩;obtain⟨sO,Bn⟩:∃sO:H,sO=λc=>if c=n11 then w n11 else ub c:=⟨_,rfl⟩;have anN:sO n11=w n11:=by rw[Bn];exact a1 rfl
   have adN:∀{c},c≠n11->sO c=ub c:=λ{c} I=>by rw[Bn];exact aG I
   have bn:ub.le sO:=λc z I=>by rw[adN (λe=>by rw[e,awF] at I;cases I)];exact I
   have axy:sO.le w:=λc z I=>by by_cases e:c=n11;rw[e,anN] at I;rw[e];exact I;rw[adN e] at I;exact k5 c z I
   have awh:∀b,s.al=some b->sO b=none:=λb aa=>by rw[adN (λe=>dL ab aa (by rw[e];exact abc.none uD))];exact ab.fresh b aa
   have aqt:sO.cell? ⟨n11,0,none⟩=some (.int .i64 wd):=a8 (anN.trans hw) 0;refine amR (ab.mono Jx) axy awh (W7 aqt wR gk (λr O=>(aB r O).mono bn) bH) (by omega) λu32 m ad oS AV=>?_;have mT:=ad.length_eq;have mW:ub.le u32:=λc z I=>AV c z (k5 c z I) λe=>by have:=ab.fresh c e;rw[I] at this;cases this
   have Zg:hp m d:=bH.mix ad;have tl:∀r∈m,Ints ub r.s r.v:=λr O=>aB r (ad.mem_iff.1 O);have auN:=cb.mono mW;have RY:eF u32 s m:=⟨oS.own.cI,λr O=>(tl r O).mono mW⟩;have iH:=bz.cap oS.own.cI;obtain⟨fe,vV⟩:∃fe:N,fe=s.n/2:=⟨_,rfl⟩;have Xn:ff (s.n:o) 2=(fe:o):=by rw[zP (by omega)];omega
   rw[Xn];have c6:eF u32 (s.part 0 fe s.c 2) (m.take fe):=by have:=RY.part (l:=0) (h:=fe) (m:=s.c) (by omega) (by omega) (by omega) (cC _);simpa using this
   have RZ:eF u32 (s.part fe s.n s.c 2) (m.drop fe):=by have:=RY.part (l:=fe) (h:=s.n) (m:=s.c) (by omega) (cC _) iH (cC _);rwa[gY (by rw[mv];omega)] at this
   have PC:∀{Y:H} {Q:U->H->Prop},Q (s.part 0 fe s.c 2) Y->c9 aH (hP 22 (.slice s.a s.n s.c) none (some (.int .i64 (fe:o))) none) [.one .slice] Y Q:=λfm=>
    o3 (P:=aH) kk (l:=0) (h:=fe) (m:=s.c) (.inl ⟨rfl,rfl⟩) (.inr rfl) (.inl ⟨rfl,rfl⟩) (by omega) (by omega) (cC _) iH fm
   have B4:∀{Y:H} {Q:U->H->Prop},Q (s.part fe s.n s.c 2) Y->c9 aH (hP 22 (.slice s.a s.n s.c) (some (.int .i64 (fe:o))) none none) [.one .slice] Y Q:=λfm=>
    o3 (P:=aH) kk (l:=fe) (h:=s.n) (m:=s.c) (.inr rfl) (.inl ⟨rfl,rfl⟩) (.inl ⟨rfl,rfl⟩) (by omega) iH (cC _) iH fm
   have gC:(m.take fe).length=fe:=by rw[gq];omega
   have ia:(m.drop fe).length=m.length-fe:=by rw[mv]
   have FK:m.take fe≠[]:=λe=>by rw[e] at gC;simp at gC;omega
   have zf:m.drop fe≠[]:=λe=>by rw[e] at ia;simp at ia;omega
   have DY:∀{Y fC:H} {t:U} {k:M az} {Q:aA bc->H->Prop},u32.le Y->aK Y fC 52 2 t (k.flatMap cO)->k≠[]->k.length<=di->k.Sublist m->(∀u' n,QR Y fC t k d u' n->lH 2 n.bF->Y.le u'->Q (some ⟨n.b,0,none⟩) u')->
     h8 aH (yM n0 b8) #[.slice t.a t.n t.c] [.one .ptr] fC Q:=λ{Y fC t k Q} aC jm hk Y3 sm fm=>
    ⟨_,_,_,rfl,hd Lm,aM Y3 (auN.mono aC) jm (λr O=>(tl r (sm.mem O)).mono (mW.trans aC)) (Zg.sub sm) (λe=>aV e hk) λ_ u' n I fE=>fm u' n I fE λc z bQ=>I.ue c z (jm.le c z bQ) λe=>by have:=jm.fresh c e;rw[bQ] at this;cases this⟩
   have OK:Own u32 3 1 bp ((mN l).flatMap encI):=(h1.mono lw).own.le λc z I bQ=>AV c z bQ λe=>dL ab e (h1.fresh c I);have akY:Own u32 3 1 aI ((mM l).flatMap encI):=(h2.mono lw).own.le λc z I bQ=>AV c z bQ λe=>dL ab e (h2.fresh c I);have second:∀{Y iY:H} {t:U} {fs:aw},u32.le Y->QR u32 iY t (m.take fe) d Y fs->lH 2 fs.bF->n2 (s.part fe s.n s.c 2) Y (λ(sM:U) (Ed:H)=>(H.le u32 Ed)/\(h8 aH (yM n0 b8) #[.slice sM.a sM.n sM.c] [.one .ptr] Ed (λ(abQ:aA bc) (mC:H)=>(H.le u32 mC)/\(c9 aH (dI 211 2 #[(0,.pointer (some ⟨fs.b,0,none⟩)),(1,.pointer abQ)]) [.one .slice] mC (λ(mz:U) (ii:H)=>(H.le u32 ii)/\(∀n49:N,(ii n49=none)->K (some ⟨n49,0,none⟩) (ii.ins n49 (.cells #[.int .i64 2,.slice bp.a bp.n bp.c,.slice aI.a aI.n aI.c,.int .u64 0,.int .u64 0,.slice none 0 0,.slice none 0 0,.slice mz.a mz.n mz.c] 213 (0,0))))))))):=by
    intro Y iY t fs aC I uJ;refine PK (RZ.1.mono aC) (by show s.n-fe<=_;omega) λsM Ed Ns _=>⟨aC.trans Ns.le,DY aC Ns zf (by omega) (O4 _ _) λmC ck aa so wg=>⟨aC.trans wg,?_⟩⟩;refine mA (WQ fs.b ck.b) λg W=>?_;have tv:=bZ (u:=mC) (b:=g) (.cells [hn (some ⟨fs.b,0,none⟩),.pointer (some ⟨ck.b,0,none⟩)].toArray 167 (0,0)) W;have mk:=aK.make (k:=1) (H.le.refl mC) W (cells:=[hn (some ⟨fs.b,0,none⟩),.pointer (some ⟨ck.b,0,none⟩)].toArray) (e:=167) (n:=2) (by omega) rfl;obtain⟨ii,N0⟩:∃ii,ii=mC.ins g (.cells [hn (some ⟨fs.b,0,none⟩),.pointer (some ⟨ck.b,0,none⟩)].toArray 167 (0,0)):=⟨_,rfl⟩;have YP:ii g≠none:=by rw[N0,bi];simp
    rw[<-N0] at tv mk ⊢;refine⟨(aC.trans wg).trans tv,λn49 Dg=>?_⟩;obtain⟨kt,iS⟩:∃b5:ey,b5=⟨n49,2,bp,aI,mN l,mM l,0,⟨none,0,0⟩,[],⟨some ⟨g,0,none⟩,2,2⟩⟩:=⟨_,rfl⟩;have fP:(bj #[.int .i64 2,.slice bp.a bp.n bp.c,.slice aI.a aI.n aI.c,.int .u64 0,.int .u64 0,.slice none 0 0,.slice none 0 0,.slice (some ⟨g,0,none⟩) 2 2] 213 (0,0))=.cells (e2 kt).toArray 213 (0,0):=by rw[iS];rfl
    show K (some ⟨n49,0,none⟩) (ii.ins n49 (bj #[.int .i64 2,.slice bp.a bp.n bp.c,.slice aI.a aI.n aI.c,.int .u64 0,.int .u64 0,.slice none 0 0,.slice none 0 0,.slice (some ⟨g,0,none⟩) 2 2] 213 (0,0)));rw[fP];have zp:=bZ (u:=ii) (b:=n49) (.cells (e2 kt).toArray 213 (0,0)) Dg;have key:=av (ii.ins n49 (.cells (e2 kt).toArray 213 (0,0))) (.mk kt [fs,ck]);have Ys:(aw.mk kt [fs,ck]).b=n49:=by rw[iS];rfl
    rw[Ys] at key;have Oj:u32.le (ii.ins n49 (.cells (e2 kt).toArray 213 (0,0))):=((aC.trans wg).trans tv).trans zp;have zm:∀c,bp.al=some c->u32 c≠none:=λc I=>abL OK I;have Gd:∀c,aI.al=some c->u32 c≠none:=λc I=>abL akY I;have Jr:∀{c},u32 c≠none->Y c≠none:=λI e=>I (aC.none e);have Jn:∀{c},Y c≠none->mC c≠none:=λI e=>I (wg.none e);have Dx:∀{c},mC c≠none->ii c≠none:=λI e=>I (tv.none e);have aaV:∀{c},ii c≠none->(ii.ins n49 (.cells (e2 kt).toArray 213 (0,0))) c≠none:=λI e=>I (zp.none e);have p4:(aw.mk kt [fs,ck]).own=n49::((bp.al.toList++aI.al.toList++ [g])++(fs.own++ck.own)):=by rw[aw.rT,iS];simp[aw.h,aw.kids,ey.dC,U.al]
    have Fo:(aw.mk kt [fs,ck]).bR=(kt,[fs.b,ck.b])::(fs.bR++ck.bR):=by rw[aw.iI];simp[aw.h,aw.kids]
    have Jp:∀c∈(bp.al.toList++aI.al.toList++ [g])++(fs.own++ck.own),ub c=none/\ii c≠none:=λc cL=>by simp only[cM,sH,gp] at cL;rcases cL with((cL|cL)|rfl)|cL|cL;exact⟨ci.none (h1.fresh c cL),Dx (Jn (Jr (zm c cL)))⟩;exact⟨ci.none (h2.fresh c cL),Dx (Jn (Jr (Gd c cL)))⟩;exact⟨mW.none (aC.none (wg.none W)),YP⟩;exact⟨mW.none (I.out c cL).1,Dx (Jn (I.out c cL).2)⟩;exact⟨mW.none (aC.none (aa.out c cL).1),Dx (aa.out c cL).2⟩
    refine key ⟨λy ai=>?_,?_,λc cL=>?_,?_,?_,λy ai r O=>?_,?_,λc z YC kN=>Oj c z (AV c z (Jx c z YC) kN)⟩ (by rw[aw.hD,iS];refine .mk rfl λk hk=>?_;have dJ:k∈[fs.bF,ck.bF]:=hk;simp only[cP,qe,qf] at dJ;rcases dJ with rfl|rfl;exact uJ;exact so)
    rw[Fo] at ai;rcases cP.1 ai with rfl|ai;subst iS;exact⟨bi _ _ _,OK.le λc z _ bQ=>Oj c z bQ,akY.le λc z _ bQ=>Oj c z bQ,Own.nil _ _ _,λr O=>(by cases O),(mk.mono zp).own.cI⟩;rcases cM.1 ai with ai|ai;exact(I.one y ai).bS (λc z _ bQ=>zp c z (tv c z (wg c z bQ))) λr O=>(tl r (mx (I.rows y ai r O))).mono (mW.trans Oj);exact(aa.one y ai).bS (λc z _ bQ=>zp c z (tv c z bQ)) λr O=>(tl r (sG (aa.rows y ai r O))).mono (mW.trans Oj);rw[p4,h6];refine⟨λhm=>(Jp n49 hm).2 Dg,?_⟩;have en:∀z:aA N,z.toList.Nodup:=λz=>by cases z<;>simp
    rw[fZ,fZ,fZ,fZ];refine⟨⟨⟨en _,en _,λa ay b eQ e=>?_⟩,by simp,λa ay b eQ e=>?_⟩,⟨I.nodup,aa.nodup,λa ay b eQ e=>?_⟩,λa ay b eQ e=>?_⟩;rw[sH] at ay eQ;exact f1 (by rw[ay,eQ,e]);rw[gp] at eQ;simp only[cM,sH] at ay;rw[<-e] at eQ;subst eQ;rcases ay with ay|ay;exact Jn (Jr (zm _ ay)) W;exact Jn (Jr (Gd _ ay)) W;subst e;exact(I.out a ay).2 (aa.out a eQ).1;subst e;simp only[cM,sH,gp] at ay eQ;rcases ay with(ay|ay)|rfl;rcases eQ with eQ|eQ;exact zm a ay (I.out a eQ).1;exact Jr (zm a ay) (aa.out a eQ).1;rcases eQ with eQ|eQ;exact Gd a ay (I.out a eQ).1;exact Jr (Gd a ay) (aa.out a eQ).1;rcases eQ with eQ|eQ;exact Jn (I.out a eQ).2 W;exact(aa.out a eQ).2 W;rw[p4] at cL;rcases cP.1 cL with rfl|cL;exact⟨mW.none (((aC.trans wg).trans tv).none Dg),by rw[bi];simp⟩;exact⟨(Jp c cL).1,aaV (Jp c cL).2⟩;rw[aw.hD,bJ.all_eq,iS];show([]++bJ.jY ([fs,ck].map aw.bF)).Perm _;rw[nQ];show(fs.bF.all++(ck.bF.all++ [])).Perm _;rw[lB];refine(I.all.append aa.all).trans ?_;rw[<-er,q2];exact ad.map _;rw[aw.hD];have ef:∀x,x∈(bJ.mk kt.aI kt.bm kt.hi kt.cA (kt.rows.map az.bL) ([fs,ck].map aw.bF)).all->x∈l.map az.bL:=λx J=>by rw[bJ.all_eq] at J;subst iS;have fQ:x∈[]++(fs.bF.all++(ck.bF.all++ [])):=J;rw[nQ,lB] at fQ;refine(ad.map az.bL).mem_iff.1 ?_;rcases cM.1 fQ with fQ|fQ;obtain⟨r,O,rfl⟩:=bk.1 (I.all.mem_iff.1 fQ);exact ie (mx O);obtain⟨r,O,rfl⟩:=bk.1 (aa.all.mem_iff.1 fQ);exact ie (sG O)
    subst iS;refine .mk ((jD []).2 []) (λx J=>ins [] [] x (ef x J)) λk hk=>?_;have dJ:k∈[fs.bF,ck.bF]:=hk;simp only[cP,qe,qf] at dJ;rcases dJ with rfl|rfl;exact I.ok;exact aa.ok;rw[Fo] at ai;rcases cP.1 ai with rfl|ai;subst iS;cases O;rcases cM.1 ai with ai|ai;exact ad.mem_iff.1 (mx (I.rows y ai r O));exact ad.mem_iff.1 (sG (aa.rows y ai r O));rw[Fo,hX,eD];have aQ:=I.size;have aF:=aa.size;omega
   have left:∀{Y:H} {Q:U->H->Prop},u32.le Y->(∀t fC,aK Y fC 52 2 t ((m.take fe).flatMap cO)->Q t fC)->n2 (s.part 0 fe s.c 2) Y Q:=λ{Y Q} aC fm=>
    PK (c6.1.mono aC) (by show fe-0<=_;omega) λau u' bQ _=>fm au u' bQ
   have v:=H.le.cell mW cb.c1;refine⟨by decide,⟨by omega,by omega⟩,_,v,_,v,?_,?_⟩;refine PC ⟨H.le.refl _,left (H.le.refl _) λt fC jm=>⟨jm.le,?_,?_⟩,?_⟩;refine DY (H.le.refl _) jm FK (by omega) (r3 _ _) λu' fs I uJ hle=>⟨hle,B4 ⟨hle,second hle I uJ⟩⟩;refine B4 ⟨jm.le,DY (H.le.refl _) jm FK (by omega) (r3 _ _) λu' fs I uJ hle=>⟨hle,second hle I uJ⟩⟩;refine B4 ⟨H.le.refl _,left (H.le.refl _) λt fC jm=>⟨jm.le,DY (H.le.refl _) jm FK (by omega) (r3 _ _) λu' fs I uJ hle=>⟨hle,second hle I uJ⟩⟩⟩;refine B4 ⟨H.le.refl _,PC ⟨H.le.refl _,left (H.le.refl _) λt fC jm=>⟨jm.le,DY (H.le.refl _) jm FK (by omega) (r3 _ _) λu' fs I uJ hle=>⟨hle,second hle I uJ⟩⟩⟩⟩
  refine⟨_,H.le.cell k5 cb.bM,_,rfl,leaf,H.le.cell k5 cb.q9,λhle=>Oq,λuy=>⟨wd,Rj,cV,ND,⟨wR,by omega⟩,_,h9,wd,Rj,dc,ZM,⟨wR,by omega⟩,_,om,?_⟩⟩;by_cases e:(mN l).getD wd.toNat 0=(mM l).getD wd.toNat 0;dsimp only;rw[l4 e];exact Oq;dsimp only;rw[o0 e];exact inner (by omega)
end kW
section
variable{l dl:M (o×ao)}{u u':H}{b r:N}{P:dT}{t k e:dF}{x:o}{Y v:ao}
def MapEntry.jd(e:zN):ao×ao:=(e.key,e.val)
def nO(p:o×ao):ao×ao:=(.int .i64 p.1,p.2)
def aa7{p q:o×ao}(h:nO p=nO q):p=q:=by cases p;cases q;simp only[nO,GP,Value.int.injEq,true_and] at h;obtain⟨h1,h2⟩:=h;subst h1;subst h2;rfl
structure aeU(es:cv zN)(clock:N)(l:M (o×ao)):Prop where
 jd:es.toList.map MapEntry.jd=l.map nO
 born:(es.toList.map (·.born)).Nodup
 lt:∀e∈es.toList,e.born<clock
 nodup:(l.map (·.1)).Nodup
def fz(u:H)(b:N)(l:M (o×ao)):Prop:=∃es clock,u b=some (.map es clock)/\aeU es clock l
def fz.mono(h:fz u b l)(hu:u.le u'):fz u' b l:=by obtain⟨es,c,h1,h2⟩:=h;exact⟨es,c,hu _ _ h1,h2⟩
def fz.else(h:fz u b l)(hu:∀z,u b=some z->u' b=some z):fz u' b l:=by obtain⟨es,c,h1,h2⟩:=h;exact⟨es,c,hu _ h1,h2⟩
def fD(l:M (o×ao))(x:o):aA ao:=(l.find? λp=>p.1==x).map (·.2)
def L0(h:fD l x=some v):(x,v)∈l:=by
 unfold fD at h;cases ac:l.find? λp=>p.1==x with
 |none=>rw[ac] at h;cases h
 |some p=>
  rw[ac] at h;have h1:=JX ac;have h2:=JW ac;simp only[u4,kC] at h;have:p.1=x:=by simpa using h1
  rw[<-this,<-h];exact h2
def xh:fD l x=none↔x∉l.map (·.1):=by unfold fD;rw[acs,Kb];simp only[TV,bk,Prod.exists,exists_and_right,exists_eq_right,not_exists,Prod.forall];exact⟨λh v hm=>h x v hm rfl,λh a b hm e=>h b (e▸hm)⟩
def XG(ae:(l.map (·.1)).Nodup):fD l x=some v↔(x,v)∈l:=by
 refine⟨L0,λh=>?_⟩;cases W:fD l x with
 |none=>exact aV (bk.2 ⟨_,h,rfl⟩) (xh.1 W)|some b6=>
  have bW:=L0 W;have:∀{l:M (o×ao)},(l.map (·.1)).Nodup->(x,v)∈l->(x,b6)∈l->v=b6:=by
   intro l;induction l with
   |nil=>intro _ h;cases h
   |cons p l aM=>intro ae h1 h2;have h3:=h6.1 ae;rcases cP.1 h1 with aQ|h1;rcases cP.1 h2 with aF|h2;rw[<-aF] at aQ;cases aQ;rfl;exact(h3.1 (bk.2 ⟨_,h2,by rw[<-aQ]⟩)).elim;rcases cP.1 h2 with aF|h2;exact(h3.1 (bk.2 ⟨_,h1,by rw[<-aF]⟩)).elim;exact aM h3.2 h1 h2
  rw[this ae h bW]
def arU(x:o):∀(es:M zN) (l:M (o×ao)) (i:N),es.map MapEntry.jd=l.map nO->
  (fD l x=none->GO (.int .i64) (.int .i64 x) es i=some none)/\(∀v,fD l x=some v->∃j,GO (.int .i64) (.int .i64 x) es i=some (some (i+j,v))/\l[j]?=some (x,v)):=by
 intro es
 induction es with
 |nil=>
  intro l i h;have:l=[]:=by simpa using h.symm
  subst this;exact⟨λ_=>rfl,λv aB=>(by simp[fD] at aB)⟩
 |cons e es aM=>
  intro l i h;cases l with
  |nil=>simp at h|cons y l=>
   simp only[gR,u7,MapEntry.jd,nO,GP] at h;obtain⟨⟨hk,aB⟩,O⟩:=h;obtain⟨i1,i2⟩:=aM l (i+1) O;unfold GO;rw[hk,aB];simp only[Instr.sameNow,qX];by_cases iV:y.1=x;have aa:(x==y.1)=ak:=by simpa using iV.symm
   have W:fD (y::l) x=some y.2:=by simp[fD,iV]
   rw[aa,W];refine⟨λh=>(by cases h),λv aB=>⟨0,?_,?_⟩⟩;cases aB;rfl;cases aB;simp[<-iV];have aa:(x==y.1)=ax:=by simpa using λh=>iV h.symm
   have W:fD (y::l) x=fD l x:=by
    have:(y.1==x)=ax:=by simpa using iV
    simp[fD,G0,this]
   rw[aa,W];refine⟨i1,λv aB=>?_⟩;obtain⟨j,h1,h2⟩:=i2 v aB;exact⟨j+1,by rw[h1,show i+1+j=i+(j+1) by omega],by simpa using h2⟩
structure ns(P:dT)(t k e:dF)(Y:ao):Prop where
 fB:P.underlying t=some (.map k e)
 key:P.underlying k=some (.int .i64)
 zero:∀w,(zeroValue e).run P w=.ok Y w
def ns.check(T:ns P t k e Y)(b:aD)(x:o)(w:cg):(GQ b 10000 k (.int .i64 x)).run P w=.ok () w:=by show(GQ b (9999+1) k (.int .i64 x)).run P w=.ok () w;unfold GQ;simp[eW,ir T.key,jf]
def ns.find(T:ns P t k e Y){es:cv zN}(h:es.toList.map MapEntry.jd=l.map nO)(x:o)(w:cg):
  (fD l x=none->(BS k (.int .i64 x) es.toList).run P w=.ok none w)/\(∀v,fD l x=some v->∃j,(BS k (.int .i64 x) es.toList).run P w=.ok (some (j,v)) w/\l[j]?=some (x,v)):=by
 obtain⟨h1,h2⟩:=arU x es.toList l 0 h
 constructor
 intro J
 simp[BS,eW,ir T.key,jf,h1 J]
 intro v aB
 obtain⟨j,aN,ap⟩:=h2 v aB
 rw[ki] at aN
 exact⟨j,by simp[BS,eW,ir T.key,jf,aN],ap⟩
def Ps(T:ns P t k e Y)(h:fz u b l){ct:aE}(y:ct.den)(ai:(fD l x).getD Y=ct.enc y){K:ct.den->H->Prop}(av:K y u):
  c9 P (gz t (.map (some b)) (.int .i64 x) ax) [.one ct] u K:=by
 obtain⟨es,c,aa,ap⟩:=h
 refine .Gy (c:=ct) y (λw hw=>?_) av
 have W:=x9 (P:=P) (hw _ _ aa)
 have I:=T.check es.isEmpty x w
 obtain⟨f1,f2⟩:=T.find ap.jd x w
 cases J:fD l x with
 |none=>rw[J] at ai;have iM:Y=ct.enc y:=ai;simp[gz,eW,ir T.fB,W,I,f1 J,jf,T.zero,iM]
 |some v=>rw[J] at ai;have iM:v=ct.enc y:=ai;obtain⟨j,aN,_⟩:=f2 v J;simp[gz,eW,ir T.fB,W,I,aN,jf,iM]
def c9.aCF{m:Sem ao}{c d:aE}{K:c.den->d.den->H->Prop}(x:c.den)(y:d.den)(h:∀w,Sub u w->m.run P w=.ok (.tuple #[c.enc x,d.enc y]) w)(av:K x y u):c9 P m [.one c,.one d] u K:=by intro w hw;exact⟨_,w,u,h w hw,⟨[c.enc x,d.enc y],.cons x (.cons y .nil),rfl,(aE.ra c x _).2 ((aE.ra d y _).2 av)⟩,Step.refl hw⟩
def tM(T:ns P t k e Y)(h:fz u b l){ct:aE}(y:ct.den)(ai:(fD l x).getD Y=ct.enc y){K:ct.den->aD->H->Prop}(av:K y (fD l x).isSome u):
  c9 P (gz t (.map (some b)) (.int .i64 x) ak) [.one ct,.one .bool] u K:=by
 obtain⟨es,c,aa,ap⟩:=h
 refine c9.aCF (c:=ct) (d:=.bool) y _ (λw hw=>?_) av
 have W:=x9 (P:=P) (hw _ _ aa)
 have I:=T.check es.isEmpty x w
 obtain⟨f1,f2⟩:=T.find ap.jd x w
 cases J:fD l x with
 |none=>rw[J] at ai;have iM:Y=ct.enc y:=ai;simp[gz,eW,ir T.fB,W,I,f1 J,jf,T.zero,iM,aE.enc]
 |some v=>rw[J] at ai;have iM:v=ct.enc y:=ai;obtain⟨j,aN,_⟩:=f2 v J;simp[gz,eW,ir T.fB,W,I,aN,jf,iM,aE.enc]
def B3(T:ns P t k e Y)(h:fz u b l)(J:fD l x=none){K:H->Prop}
  (av:∀z,fz (u.ins b z) b (l++ [(x,v)])->K (u.ins b z)):
  c9 P (unit (kh t (.map (some b)) (.int .i64 x) v)) [] u K:=by
 obtain⟨es,c,aa,ap⟩:=h
 intro w hw
 have W:=x9 (P:=P) (hw _ _ aa)
 have aN:=(T.find ap.jd x w).1 J
 have I:=T.check ax x w
 have kx:=J1 (P:=P) (.map (es.push {key:=.int .i64 x,val:=v,born:=c}) (c+1)) (hw _ _ aa)
 refine⟨_,_,u.ins b (.map (es.push {key:=.int .i64 x,val:=v,born:=c}) (c+1)),?_,⟨[],.nil,rfl,av _ ⟨_,_,bi _ _ _,?_,?_,?_,?_⟩⟩,step_block hw aa _⟩
 simp[unit,kh,eW,ir T.fB,W,I,aN,jf,kx]
 rfl
 simp[ap.jd,MapEntry.jd,nO]
 rw[Array.toList_push,er]
 refine fZ.2 ⟨ap.born,by simp,λa ay d ar=>?_⟩
 obtain⟨fW,he,rfl⟩:=bk.1 ay
 have:=ap.lt fW he
 simp only[gR,BT,gp] at ar
 omega
 intro fW he
 rw[Array.toList_push] at he
 rcases cM.1 he with he|he
 have:=ap.lt fW he;omega
 obtain rfl:fW=_:=by simpa using he
 exact Nat.lt_succ_self c
 rw[er]
 refine fZ.2 ⟨ap.nodup,by simp,λa ay d ar=>?_⟩
 have:=xh.1 J
 simp only[gR,BT,gp] at ar
 exact λe=>this (by rw[<-ar,<-e];exact ay)
def erase_filter(ae:(l.map (·.1)).Nodup){j:N}(h:l[j]?=some (x,v)):l.eraseIdx j=l.filter λp=>p.1 !=x:=by
 induction l generalizing j with
 |nil=>simp at h|cons p l aM=>
  have h3:=h6.1 ae;cases j with
  |zero=>
   simp only[BN,kC] at h;subst h;have:l.filter (λp=>p.1 !=x)=l:=r6.2 λq aL=>by have:q.1≠x:=λe=>h3.1 (bk.2 ⟨q,aL,e⟩);simpa using this
   simp[this]|succ j=>simp only[x4] at h;have ad:p.1≠x:=λe=>h3.1 (bk.2 ⟨_,dB h,e.symm⟩);rw[List.eraseIdx_cons_succ,aM h3.2 h,List.filter_cons_of_pos (by simpa using ad)]
def Ks{bB aaY:dF}(T:ns P t k e Y)(h:fz u b l){K:H->Prop}
  (av:∀z,fz (u.ins b z) b (l.filter λp=>p.1 !=x)->K (u.ins b z)):
  c9 P (rZ #[t,aaY] bB #[.map (some b),.int .i64 x]) [] u K:=by
 obtain⟨es,c,aa,ap⟩:=h
 intro w hw
 have W:=x9 (P:=P) (hw _ _ aa)
 have I:=T.check es.isEmpty x w
 obtain⟨f1,f2⟩:=T.find ap.jd x w
 cases J:fD l x with
 |none=>
  have kx:=J1 (P:=P) (.map es c) (hw _ _ aa);have ac:l.filter (λp=>p.1 !=x)=l:=r6.2 λq aL=>by have:q.1≠x:=λe=>xh.1 J (bk.2 ⟨q,aL,e⟩);simpa using this
  refine⟨_,_,u.ins b (.map es c),?_,⟨[],.nil,rfl,av _ ⟨_,_,bi _ _ _,by rw[ac];exact ap⟩⟩,step_block hw aa _⟩;simp[rZ,eW,ir T.fB,W,I,f1 J,jf,kx];rfl
 |some v=>
  obtain⟨j,aN,Sw⟩:=f2 v J;have kx:=J1 (P:=P) (.map (es.eraseIdxIfInBounds j) c) (hw _ _ aa);have het:(es.eraseIdxIfInBounds j).toList=es.toList.eraseIdx j:=by simp
  have gW:(es.toList.eraseIdx j).Sublist es.toList:=List.eraseIdx_sublist _ _;refine⟨_,_,u.ins b (.map (es.eraseIdxIfInBounds j) c),?_,⟨[],.nil,rfl,av _ ⟨_,_,bi _ _ _,?_,?_,?_,?_⟩⟩,step_block hw aa _⟩;simp[rZ,eW,ir T.fB,W,I,aN,jf,kx];rfl;have key:∀{α β:Type} (f:α->β) (L:M α) (j:N),(L.eraseIdx j).map f=(L.map f).eraseIdx j:=by
    intro α β f L;induction L with
    |nil=>intro j;rfl
    |cons a L aM=>intro j;cases j with
     |zero=>rfl|succ j=>simp[aM j]
  rw[het,key,ap.jd,<-key,erase_filter ap.nodup Sw];rw[het];exact ap.born.sublist (gW.map _);intro fW he;rw[het] at he;exact ap.lt fW (gW.mem he);exact ap.nodup.sublist (acm _ O7)
def vk{bB:dF}(T:ns P t k e Y)(h:fz u b l){K:o->H->Prop}(av:K l.length u):
  c9 P (qc #[t] bB #[.map (some b)]) [.one (.int .i64)] u K:=by
 obtain⟨es,c,aa,ap⟩:=h
 have hlen:es.size=l.length:=by have:=eB iC ap.jd;simpa using this
 refine .Gy (c:=.int .i64) (l.length:o) (λw hw=>?_) av
 have W:=x9 (P:=P) (hw _ _ aa)
 simp[qc,eW,ir T.fB,W,jf,hlen]
 rfl
def D4{K:aA N->H->Prop}(av:∀b z,u b=none->fz (u.ins b z) b []->K (some b) (u.ins b z)):c9 P (pE t none) [.one .map] u K:=
 .one (c:=.map) λw hw=>⟨some w.heap.size,_,_,Go.RowKit.run_makeMap t w,av _ _ (hw.none (cC _)) ⟨#[],0,bi _ _ _,rfl,by simp,by simp,by simp⟩,Step.BD hw _⟩
def nq(u:H)(r b:N)(l dl:M (o×ao)):Prop:=
 ∃es clock seen,u b=some (.map es clock)/\aeU es clock l/\u r=some (.mapIter (some b) clock seen clock)/\
  ∃ds:M zN,seen.toList=ds.map (·.born)/\ds.map MapEntry.jd=dl.map nO/\(∀d∈ds,d∈es.toList)/\(dl.map (·.1)).Nodup
def nq.else(h:nq u r b l dl)(aa:∀z,u b=some z->u' b=some z)(O:∀z,u r=some z->u' r=some z):nq u' r b l dl:=by obtain⟨es,c,seen,h1,h2,h3,a7⟩:=h;exact⟨es,c,seen,aa _ h1,h2,O _ h3,a7⟩
def nq.map(h:nq u r b l dl):fz u b l:=by obtain⟨es,c,seen,h1,h2,_⟩:=h;exact⟨es,c,h1,h2⟩
def nq.sub(h:nq u r b l dl):∀p∈dl,p∈l:=by
 obtain⟨es,c,seen,h1,h2,h3,ds,a7,bO,e7,mP⟩:=h;intro p ad;have:nO p∈ds.map MapEntry.jd:=by rw[bO];exact bk.2 ⟨p,ad,rfl⟩
 obtain⟨d,ar,e⟩:=bk.1 this;have:nO p∈l.map nO:=by rw[<-h2.jd,<-e];exact bk.2 ⟨d,e7 d ar,rfl⟩
 obtain⟨q,aL,e⟩:=bk.1 this;rw[<-aa7 e];exact aL
def nq.CL(h:nq u r b l dl):(dl.map (·.1)).Nodup:=by obtain⟨es,c,seen,h1,h2,h3,ds,a7,bO,e7,mP⟩:=h;exact mP
def Kt(T:ns P t k e Y)(h:fz u b l){K:aA bc->H->Prop}(av:∀r z,u r=none->nq (u.ins r z) r b l []->K (some ⟨r,0,none⟩) (u.ins r z)):
  c9 P (rY t (.map (some b))) [.one .ptr] u K:=by
 obtain⟨es,c,aa,ap⟩:=h
 refine .one (c:=.ptr) λw hw=>?_
 have ae:=hw.none (cC _)
 have an:b≠w.heap.size:=λe=>by rw[<-e,aa] at ae;cases ae
 refine⟨some ⟨w.heap.size,0,none⟩,w.alloc (.mapIter (some b) c #[] c),_,?_,av w.heap.size (.mapIter (some b) c #[] c) ae ⟨es,c,#[],by rw[bq _ _ an];exact aa,ap,bi _ _ _,[],rfl,rfl,λd ar=>(by cases ar),by simp⟩,Step.BD hw _⟩
 have W:=x9 (P:=P) (hw _ _ aa)
 simp[rY,eW,ir T.fB,W,jf,aE.enc]
def arq{es:M zN}(ae:(es.map (·.born)).Nodup){d e:zN}(ar:d∈es)(he:e∈es)(h:d.born=e.born):d=e:=by
 induction es with
 |nil=>cases ar
 |cons x es aM=>have h3:=h6.1 ae;rcases cP.1 ar with h1|h1;rcases cP.1 he with h2|h2;rw[h1,h2];exact(h3.1 (bk.2 ⟨e,h2,by rw[<-h,h1]⟩)).elim;rcases cP.1 he with h2|h2;exact(h3.1 (bk.2 ⟨d,h1,by rw[h,h2]⟩)).elim;exact aM h3.2 h1 h2
def ay5(ap:(l.map (·.1)).Nodup)(ar:(dl.map (·.1)).Nodup)(h1:∀p∈dl,p∈l)(h2:∀p∈l,p∈dl):dl.Perm l:=by have nd:∀{l:M (o×ao)},(l.map (·.1)).Nodup->l.Nodup:=λ{l} h=>(wy.1 h).imp λh e=>h (by rw[e]);exact(T9 (nd ar) (nd ap)).2 λp=>⟨h1 p,h2 p⟩
def JC(h:nq u r b l dl){nr:H->Prop}{QS:ao->ao->H->Prop}(h0:dl.Perm l->nr u)
  (h1:∀p z,p∈l->p.1∉dl.map (·.1)->nq (u.ins r z) r b l (dl++ [p])->QS (.int .i64 p.1) p.2 (u.ins r z)):wZ P (.pointer (some ⟨r,0,none⟩)) u nr QS:=by
 have gW:=h.sub
 obtain⟨es,c,seen,aa,ap,O,ds,dZ,dQ,uI,NJ⟩:=h
 intro w hw
 have an:r≠b:=λe=>by rw[e,aa] at O;cases O
 have NN:∀e∈es.toList,seen.contains e.born=ak↔e∈ds:=by intro e he;rw[Array.contains_iff_mem,<-GF,dZ,bk];exact⟨λ⟨d,ar,fW⟩=>arq ap.born (uI d ar) he fW▸ar,λar=>⟨e,ar,rfl⟩⟩
 have XZ:∀e∈(leftOf es seen).toList,e∈es.toList/\e∉ds:=λe he=>by unfold leftOf at he;rw[Array.toList_filter] at he;have bW:=iX.1 he;refine⟨bW.1,λar=>?_⟩;have:=(NN e bW.1).2 ar;rw[this] at bW;simp at bW
 have XY:∀e∈es.toList,e∉ds->e∈(leftOf es seen).toList:=λe he ar=>by
  unfold leftOf;rw[Array.toList_filter];refine iX.2 ⟨he,?_⟩;cases I:seen.contains e.born with
  |true=>exact aV ((NN e he).1 I) ar|false=>rfl
 rcases run_next_at (P:=P) w 0 r b c c seen es c (hw _ _ O) (hw _ _ aa) ap.lt (cC _) with⟨aC,nH⟩|⟨e,auh,gk,dY,nH⟩
 refine⟨w,u,.inl ⟨nH,h0 ?_⟩,Step.refl hw⟩
 have as7:leftOf es seen=#[]:=Array.eq_empty_of_size_eq_zero aC
 refine ay5 ap.nodup NJ gW λp ad=>?_
 have:nO p∈es.toList.map MapEntry.jd:=by rw[ap.jd];exact bk.2 ⟨p,ad,rfl⟩
 obtain⟨e,he,aQ⟩:=bk.1 this
 have ar:e∈ds:=acu λae=>by have:=XY e he ae;rw[as7] at this;simp at this
 have:nO p∈dl.map nO:=by rw[<-dQ,<-aQ];exact bk.2 ⟨e,ar,rfl⟩
 obtain⟨q,aL,aF⟩:=bk.1 this
 rw[<-aa7 aF];exact aL
 have aar:Sub u gk:=by rcases dY with rfl|rfl<;>exact hw
 have aB5:Step u [] w u [] gk:=by rcases dY with rfl|rfl;exact Step.refl hw;exact Step.Rm hw (GL w.drawn)
 obtain⟨MG,b3⟩:=XZ _ auh
 obtain⟨p,ad,tp⟩:∃p∈l,nO p=MapEntry.jd e:=by
  have:MapEntry.jd e∈l.map nO:=by rw[<-ap.jd];exact bk.2 ⟨e,MG,rfl⟩
  obtain⟨p,ad,aQ⟩:=bk.1 this;exact⟨p,ad,aQ⟩
 have IF:e.key=.int .i64 p.1:=(eB sI tp).symm
 have kd:e.val=p.2:=(eB tH tp).symm
 have Nz:p.1∉dl.map (·.1):=by
  intro hm;obtain⟨q,aL,aQ⟩:=bk.1 hm;have qM:=gW q aL;have ZP:q=p:=by have h1:=(XG ap.nodup (x:=p.1) (v:=q.2)).2 (by rw[<-aQ];exact qM);have h2:=(XG ap.nodup (x:=p.1) (v:=p.2)).2 ad;rw[h1] at h2;cases q;cases p;simp only[kC] at h2 aQ;rw[h2,aQ]
  have:nO p∈ds.map MapEntry.jd:=by rw[dQ,<-ZP];exact bk.2 ⟨q,aL,rfl⟩
  obtain⟨d,ar,aF⟩:=bk.1 this;have YE:d=e:=by
   have auX:MapEntry.jd d=MapEntry.jd e:=by rw[aF,tp]
   obtain⟨m,hm,em⟩:=sE.1 (uI d ar);obtain⟨n,ae,af9⟩:=sE.1 MG;have rE:m=n:=by
    have hlen:es.toList.length=l.length:=by have:=eB iC ap.jd;simpa using this
    have cq:(l.map nO)[m]?=some (MapEntry.jd d):=by rw[<-ap.jd,jq,cy hm,em];rfl
    have cH:(l.map nO)[n]?=some (MapEntry.jd e):=by rw[<-ap.jd,jq,cy ae,af9];rfl
    have kP:l[m]'(by omega)=l[n]'(by omega):=by rw[auX] at cq;rw[jq,cy (by omega)] at cq cH;exact aa7 (cX (cq.trans cH.symm))
    rcases TI m n with bW|bW|bW;have:=oF.1 ap.nodup m n (by simp;omega) (by simp;omega) bW;simp only[DW] at this;exact aV (by rw[kP]) this;exact bW;have:=oF.1 ap.nodup n m (by simp;omega) (by simp;omega) bW;simp only[DW] at this;exact aV (by rw[kP]) this
   subst rE;rw[<-em,<-af9]
  exact b3 (YE▸ar)
 refine⟨_,u.ins r (.mapIter (some b) c (seen.push e.born) c),.inr ⟨_,_,nH,?_⟩,aB5.trans (step_block aar O _)⟩
 rw[IF,kd]
 refine h1 p _ ad Nz ⟨es,c,seen.push e.born,by rw[bq _ _ (dG an)];exact aa,ap,bi _ _ _,ds++ [e],by simp[dZ],?_,?_,?_⟩
 rw[er,dQ,er];simp[tp]
 intro d ar
 rcases cM.1 ar with ar|ar
 exact uI d ar
 obtain rfl:d=e:=by simpa using ar
 exact MG
 rw[er]
 refine fZ.2 ⟨NJ,by simp,λa ay d ar=>?_⟩
 simp only[gR,BT,gp] at ar
 exact λe=>Nz (by rw[<-ar,<-e];exact ay)
def H2{p:o×ao}(h:nq u r b l (dl++ [p])){K:ao->ao->H->Prop}(av:K (.int .i64 p.1) p.2 u):wY P (.pointer (some ⟨r,0,none⟩)) u K:=by
 obtain⟨es,c,seen,aa,ap,O,ds,dZ,dQ,uI,NJ⟩:=h;intro w hw;obtain⟨EM,e,rfl⟩:∃EM e,ds=EM++ [e]:=by rcases List.eq_nil_or_concat ds with h|⟨a,b,h⟩;rw[h] at dQ;simp at dQ;exact⟨a,b,by rw[h,List.concat_eq_append]⟩
 have hk:MapEntry.jd e=nO p:=by have:=eB List.getLast? dQ;simpa using this
 have IF:e.key=.int .i64 p.1:=eB sI hk;have kd:e.val=p.2:=eB tH hk;have NN:seen=(EM.map (·.born)).toArray.push e.born:=by apply JQ;rw[dZ];simp
 rw[NN] at O;have:=run_entry_at (P:=P) w r b c (EM.map (·.born)).toArray es c e (hw _ _ O) (hw _ _ aa) (uI e (by simp)) ap.born;exact⟨_,_,w,u,this,by rw[IF,kd];exact av,Step.refl hw⟩
end
namespace kW
def Ln:hf aH 256=ak:=by kernel_rfl
def WI:hf aH 258=ak:=by kernel_rfl
def Xf{ub:H}{n0:N}{id:o}(bM:ub.cell? ⟨n0,0,none⟩=some (.int .i64 id)):QV ub (.func (.func 258) #[] #[.pointer (some ⟨n0,0,none⟩)]) λr=>decide (r.id=id):=λr v K aB av=>
 .inl ⟨_,_,_,rfl,hd WI,aD9 r.id r.s ⟨n0,0,none⟩ v K ⟨_,H.le.cell (show ub.le v from aB) bM,av⟩⟩
def ac7{ub:H}{n0 b8:N}{id:o}(bM:ub.cell? ⟨n0,0,none⟩=some (.int .i64 id))(c1:ub.cell? ⟨b8,0,none⟩=some (.func (.func 256) #[] #[.pointer (some ⟨n0,0,none⟩),.pointer (some ⟨b8,0,none⟩)])):
  ∀(n:aw) {u:H} {K:H->Prop},ub.le u->(∀x∈n.bR,hT u x)->n.own.Nodup->(∀c∈n.own,ub c=none)->(∀x∈n.bR,∀r∈x.1.rows,Ints ub r.s r.v)->n.bR.length<=10000000->(∀u' n',HD id n u' n'->(∀c z,u c=some z->c∉n.own->u' c=some z)->(∀c,u c≠none->u' c≠none)->K u')->
   aew (some ⟨n.b,0,none⟩) ⟨n0,0,none⟩ ⟨b8,0,none⟩ u K:=by
 intro n
 induction n using aw.ind with
 |h n aM=>
  intro u K ci pr b3 iq lo c0 av;have b5:(n.h,n.kids.map aw.b)∈n.bR:=by rw[aw.iI];exact gr ..
  have h0:=pr _ b5;have aa:n.b=n.h.b:=rfl;rw[aw.rT] at b3 iq;have ou:=b3;rw[fZ] at ou;obtain⟨gn,fK,tm⟩:=ou;have NQ:∀g,n.h.bd.al=some g->g∈n.h.dC:=λg W=>by simp[ey.dC,W]
  have NR:n.h.bd.al≠some n.h.b:=λe=>by unfold ey.dC at gn;rw[h6] at gn;exact gn.1 (by simp[e])
  have axw:n.kids.length<=10000000:=by
   have h1:n.bR.length=1+(n.kids.flatMap aw.bR).length:=by rw[aw.iI,hX];omega
   have h2:∀ks:M aw,ks.length<=(ks.flatMap aw.bR).length:=λks=>by
    induction ks with
    |nil=>simp|cons k ks Ga=>rw[gI,eD,hX];have:=k.Se;omega
   have:=h2 n.kids;omega
  apply aD8;refine⟨_,rfl,n.h.bd,a8 h0.cell 6,?_⟩;refine amO h0.rws.f (Xf bM) ci (λg W=>iq g (iA _ (NQ g W))) λs2 j5 dP kK jk=>?_;have AY:(n.h.rows.filter λr=>!decide (r.id=id))=n.h.rows.filter λr=>r.id !=id:=acv λr _=>by by_cases e:r.id=id<;>simp[e]
  rw[AY] at dP;refine⟨_,rfl,?_⟩;have Yz:j5 n.h.b=some (.cells (e2 n.h).toArray 213 (0,0)):=jk _ _ h0.cell NR;refine US Yz s2 (n.h.rows.filter λr=>r.id !=id) ?_;obtain⟨bW,mi⟩:∃bW:ey,bW={n.h with bd:=s2,rows:=n.h.rows.filter λr=>r.id !=id}:=⟨_,rfl⟩;rw[<-mi];have eQ:bW.b=n.h.b:=by rw[mi]
  have Mu:bW.dC=n.h.dC:=by rw[mi];unfold ey.dC;simp[kK]
  obtain⟨gj,rM⟩:∃gj,gj=j5.ins n.h.b (.cells (e2 bW).toArray 213 (0,0)):=⟨_,rfl⟩;rw[<-rM];have lE:gj n.h.b=some (.cells (e2 bW).toArray 213 (0,0)):=by rw[rM];exact bi _ _ _
  have ud:∀c z,j5 c=some z->c≠n.h.b->gj c=some z:=λc z I an=>by rw[rM,bq _ _ an];exact I
  have gA:∀c z,u c=some z->c∉n.h.dC->gj c=some z:=λc z I an=>ud c z (jk c z I λe=>an (NQ c e)) λe=>an (by rw[e];exact gr ..);have aa4:∀c,u c≠none->gj c≠none:=λc I=>by by_cases e:c=n.h.b;rw[e,lE];simp;obtain⟨z,ab⟩:=fj.1 I;by_cases aF:n.h.bd.al=some c;obtain⟨zC,ml⟩:=fj.1 (dL dP (g:=c) (by rw[kK];exact aF));rw[ud c zC ml e];simp;rw[ud c z (jk c z ab aF) e];simp
  have wb:ub.le gj:=λc z I=>gA c z (ci c z I) λhm=>by rw[iq c (iA _ hm)] at I;cases I
  have OL:∀{e k:N} {s:U} {xs:M ao},Own u e k s xs->(∀g,s.al=some g->g≠n.h.b/\n.h.bd.al≠some g)->Own gj e k s xs:=λab an=>ab.le λc z I hu=>ud c z (jk c z hu λe=>(an c I).2 e) (an c I).1;have ka:(∀g,n.h.bp.al=some g->g≠n.h.b/\n.h.bd.al≠some g)/\(∀g,n.h.fF.al=some g->g≠n.h.b/\n.h.bd.al≠some g)/\(∀g,n.h.df.al=some g->g≠n.h.b/\n.h.bd.al≠some g):=by unfold ey.dC at gn;rw[h6] at gn;obtain⟨cV,dc⟩:=gn;have aL:∀g,g∈n.h.bp.al.toList++n.h.fF.al.toList++n.h.bd.al.toList++n.h.df.al.toList->g≠n.h.b:=λg W e=>cV (by rw[<-e];exact W);rw[fZ,fZ,fZ] at dc;obtain⟨⟨⟨_,_,dh⟩,_,fL⟩,_,qb⟩:=dc;refine⟨λg W=>⟨aL g (by simp[W]),λe=>fL g (by simp[W]) g (by simp[e]) rfl⟩,λg W=>⟨aL g (by simp[W]),λe=>fL g (by simp[W]) g (by simp[e]) rfl⟩,λg W=>⟨aL g (by simp[W]),λe=>qb g (by simp[e]) g (by simp[W]) rfl⟩⟩
  have Mm:∀tt,tt=n.kids.map aw.b->hT gj (bW,tt):=λtt MZ=>by subst MZ;subst mi;refine⟨lE,OL h0.bm ka.1,OL h0.hi ka.2.1,dP.own.le λc z I hu=>ud c z hu λe=>NR (by rw[<-kK,I,e]),λr O=>(lo _ b5 r (iX.1 O).1).mono wb,bz.else h0.lZ λg z W ab=>ud g z (jk g z ab λe=>(ka.2.2 g W).2 e) (ka.2.2 g W).1⟩
  have FX:bW.df=n.h.df:=by rw[mi]
  refine⟨_,rfl,bW.df,by rw[aa];exact a8 lE 7,?_⟩;refine⟨λx w=>0<=x/\x<=n.kids.length/\(∀c z,gj c=some z->c∉n.kids.flatMap aw.own->w c=some z)/\(∀c,gj c≠none->w c≠none)/\∃ds:M aw,ds.length=x.toNat/\(∀(i:N) d k,ds[i]?=some d->n.kids[i]?=some k->HD id k w d)/\(∀(i:N) k,x.toNat<=i->n.kids[i]?=some k->∀y∈k.bR,hT w y),
   λx _=>((n.kids.length:o)-x).toNat,⟨by omega,by omega,λc z I _=>I,λc I=>I,[],rfl,λi d k ar=>by simp at ar,λi k _ hk y ai=>?_⟩,?_⟩
  obtain⟨iY,z2⟩:k.own ⊆ n.kids.flatMap aw.own/\True:=⟨λc I=>ep.2 ⟨k,dB hk,I⟩,trivial⟩;have F8:y∈n.bR:=by rw[aw.iI];exact gh _ (ep.2 ⟨k,dB hk,ai⟩)
  refine(pr y F8).bS (λc z I ab=>gA c z ab λhm=>tm c hm c (iY (ep.2 ⟨y,ai,I⟩)) rfl) λr O=>(lo y F8 r O).mono wb;rintro x w ⟨bK,dw,to,pq,ds,y7,si,v7⟩;have k5:ub.le w:=λc z I=>to c z (wb c z I) λhm=>by rw[iq c (lC _ hm)] at I;cases I
  have Z0:bW.df.n=n.kids.length:=by rw[FX];have:=h0.lZ.len;simp at this;omega
  have Fy:∀{Y:N} {k:aw},n.kids[Y]?=some k->(∀y∈k.bR,y∈n.bR)/\(∀c∈k.own,c∈n.kids.flatMap aw.own):=λhk=>⟨λy ai=>by rw[aw.iI];exact gh _ (ep.2 ⟨_,dB hk,ai⟩),λc I=>ep.2 ⟨_,dB hk,I⟩⟩;refine⟨λJ=>?_,λJ=>?_⟩;have fh:x.toNat<n.kids.length:=by omega
  obtain⟨k,hk⟩:∃k,n.kids[x.toNat]?=some k:=⟨_,cy fh⟩;have ZZ:bz gj n.h.df 1 ((n.kids.map aw.b).map λn=>.pointer (some ⟨n,0,none⟩)):=(Mm _ rfl).lZ|>λh=>by rw[FX] at h;exact h
  have Z2:bz w n.h.df 1 ((n.kids.map aw.b).map λn=>.pointer (some ⟨n,0,none⟩)):=bz.else ZZ λg z W ab=>to g z ab λhm=>tm g (by simp[ey.dC,W]) g hm rfl;have sl:((n.kids.map aw.b).map λn=>hn (some ⟨n,0,none⟩))[x.toNat]?=some (.pointer (some ⟨k.b,0,none⟩)):=by simp[hk]
  obtain⟨p,ad,fP⟩:=Z2.at'|>.resolve_left (λe=>by rw[e] at sl;simp at sl);have oP:=fP _ _ sl;obtain⟨cq,cH⟩:=Fy hk;have j0:k.own.Nodup:=fK.sublist (Ua (ie (f:=aw.own) (dB hk)));have NV:k.bR.length<=10000000:=by
   have h1:n.bR.length=1+(n.kids.flatMap aw.bR).length:=by rw[aw.iI,hX];omega
   have h2:k.bR.length<=(n.kids.flatMap aw.bR).length:=(Ua (ie (f:=aw.bR) (dB hk))).length_le;omega
  refine⟨p,by rw[FX];exact ad,⟨bK,by omega⟩,_,by unfold aR;rw[wu];exact oP,_,k5.cell c1,.inl ⟨_,_,_,rfl,hd Ln,?_⟩⟩;refine aM k (dB hk) k5 (v7 x.toNat k (cC _) hk) j0 (λc I=>iq c (lC _ (cH c I))) (λy ai=>lo y (cq y ai)) NV λw' d ar eL IG=>?_;have N2:ub.le w':=λc z I=>eL c z (k5 c z I) λe=>by rw[iq c (lC _ (cH c e))] at I;cases I
  have other:∀{i:N} {dV:aw},n.kids[i]?=some dV->i≠x.toNat->∀c∈dV.own,c∉k.own:=λdJ an c I=>agv fK dJ hk an I;refine⟨⟨by omega,by omega⟩,⟨by omega,by omega,λc z I hm=>eL c z (to c z I hm) λe=>hm (cH c e),λc I=>IG c (pq c I),ds++ [d],by rw[eD,y7];simp;omega,λi gN dV oo dJ=>?_,λi dV hi dJ y ai=>?_⟩,by dsimp only;omega⟩;by_cases e:i<ds.length;rw[qY e] at oo;have hold:=si i gN dV oo dJ;have an:=other dJ (by omega);refine⟨λy ai=>(hold.one y ai).bS (λc z I ab=>eL c z ab (an c (by rw[<-hold.own];exact ep.2 ⟨y,ai,I⟩))) λr O=>?_,hold.own,hold.b,hold.bF,hold.rows⟩;obtain⟨Y,aC,nI⟩:=hold.rows y ai r O;exact(lo Y ((Fy dJ).1 Y aC) r nI).mono N2;have eU:i<(ds++ [d]).length:=(iB.1 oo).1;rw[eD,r4] at eU;have s7:i=x.toNat:=by omega
  rw[JS (by omega),show i-ds.length=0 by omega] at oo;obtain rfl:=cX (show some d=some gN from oo);rw[s7,hk] at dJ;obtain rfl:=cX dJ;exact ar;refine(v7 i dV (by omega) dJ y ai).bS (λc z I ab=>eL c z ab (other dJ (by omega) c (ep.2 ⟨y,ai,I⟩))) λr O=>(lo y ((Fy dJ).1 y ai) r O).mono N2;have fh:x.toNat=n.kids.length:=by omega
  have at7:ds.length=n.kids.length:=by omega
  have EP:∀{γ:Type} (f g:aw->γ),(∀(i:N) d k,ds[i]?=some d->n.kids[i]?=some k->f d=g k)->ds.map f=n.kids.map g:=λf g MK=>by apply sB;intro i;rw[jq,jq];by_cases e:i<ds.length;have h1:ds[i]?=some ds[i]:=cy e;have h2:n.kids[i]?=some n.kids[i]:=cy (by omega);rw[h1,h2,u4,u4,MK i _ _ h1 h2];rw[iO (by omega),iO (by omega)];rfl
  have CN:ds.map aw.b=n.kids.map aw.b:=EP _ _ λi d k h1 h2=>(si i d k h1 h2).b;have Xs:ds.flatMap aw.own=n.kids.flatMap aw.own:=by rw[Ke,Ke,EP aw.own aw.own λi d k h1 h2=>(si i d k h1 h2).own]
  have ET:ds.map aw.bF=n.kids.map λk=>k.bF.del id:=EP _ _ λi d k h1 h2=>(si i d k h1 h2).bF;have mem:∀d∈ds,∃k∈n.kids,HD id k w d:=λd ar=>by obtain⟨i,hi,rfl⟩:=oG ar;exact⟨_,kD (show i<n.kids.length by omega),si i _ _ (cy hi) (cy (by omega))⟩
  refine av w (.mk bW ds) ⟨λy ai=>?_,?_,eQ,?_,λy ai r O=>?_⟩ (λc z I hm=>?_) λc I=>pq c (aa4 c I);rw[aw.iI] at ai;rcases cP.1 ai with rfl|ai;refine(Mm _ CN).bS (λc z I ab=>to c z ab λhm=>tm c (by rw[<-Mu];exact I) c hm rfl) λr O=>?_;have dz:r∈n.h.rows:=by rw[mi] at O;exact(iX.1 O).1
  exact(lo _ b5 r dz).mono k5;obtain⟨d,ar,ai⟩:=ep.1 ai;obtain⟨k,_,hk⟩:=mem d ar;exact hk.one y ai;rw[aw.rT,aw.rT];show bW.dC++ds.flatMap aw.own=_;rw[Mu,Xs];rw[aw.hD,aw.hD,bJ.del_eq];show bJ.mk bW.aI bW.bm bW.hi bW.cA (bW.rows.map az.bL) (ds.map aw.bF)=bJ.mk n.h.aI n.h.bm n.h.hi n.h.cA ((n.h.rows.map az.bL).filter λx=>x.1 !=id) ((n.kids.map aw.bF).map (bJ.del id));rw[ET,eh,sJ,mi];rfl;rw[aw.iI] at ai;rcases cP.1 ai with rfl|ai;have dz:r∈n.h.rows:=by have:r∈bW.rows:=O;rw[mi] at this;exact(iX.1 this).1
  exact⟨_,b5,dz⟩;obtain⟨d,ar,ai⟩:=ep.1 ai;obtain⟨k,sm,hk⟩:=mem d ar;obtain⟨Y,aC,nI⟩:=hk.rows y ai r O;exact⟨Y,by rw[aw.iI];exact gh _ (ep.2 ⟨k,sm,aC⟩),nI⟩;rw[aw.rT] at hm;exact to c z (gA c z I λh=>hm (iA _ h)) λh=>hm (lC _ h)
end kW
section
variable{u:H}{s:U}{d:o}
open Go.Sort Go.Shelf
structure sb(aj u:H)(s:U)(ls:M az):Prop where
 own:aK aj u 52 2 s (ls.flatMap cO)
 inner:∀r∈ls,aK aj u 3 1 r.s (r.v.flatMap encI)
 eG:∀r∈ls,dO s r.s
 apart:ls.Pairwise λa b=>dO a.s b.s
def sb.rws{aj:H}{ls:M az}(h:sb aj u s ls):eF u s ls:=⟨h.own.own.cI,λr O=>(h.inner r O).ints⟩
def sb.mono{aj u':H}{ls:M az}(h:sb aj u s ls)(k:u.le u'):sb aj u' s ls:=
 ⟨h.own.mono k,λr O=>(h.inner r O).mono k,h.eG,h.apart⟩
def CD(r:az):Prop:=1<=r.id/\r.id<=1000000000
def azO:SWO (ltOf λa b:{r//CD r}=>a.1.id-b.1.id) where
 irrefl x:=by unfold ltOf;simp
 trans x y Y h1 h2:=by unfold ltOf at*;simp only[JP] at*;omega
 ntrans x y Y h1 h2:=by unfold ltOf at*;simp only[GU] at*;omega
instance:lM {r//CD r}:=⟨⟨⟨1,⟨none,0,0⟩,[]⟩,by unfold CD;decide⟩⟩
def z8{l:M az}{K:U->H->Prop}(ag:eF u s l)(cm:∀r∈l,1<=r.id/\r.id<=1000000000)(ae:l.length<=1000000)(aB:∀r∈l,r.v.length<=1000000)
  (av:∀au ls u',sb u u' au ls->(ls.map az.bL).Perm (l.map az.bL)->(ls.Pairwise λa b=>a.id<=b.id)->K au u'):r9 s u K:=by
 have dM:=ag.len
 apply aDn
 refine Pt kk (by omega) (mw _) (by omega) (by omega) λg W=>?_
 have vU:∀(n:N),(oC [cJ .i64 0,.slice none 0 0].toArray (n*2)).toList=(gu n (⟨0,⟨none,0,0⟩,[]⟩:az)).flatMap cO:=λn=>Gp (enc:=cO) fM (by decide) ⟨0,⟨none,0,0⟩,[]⟩ n
 obtain⟨cs,dK⟩:∃cs,oC [cJ .i64 0,.slice none 0 0].toArray ((s.n:o).toNat*2)=cs:=⟨_,rfl⟩
 have hL:cs.toList=(gu l.length (⟨0,⟨none,0,0⟩,[]⟩:az)).flatMap cO:=by rw[<-dK,<-vU,show(s.n:o).toNat=l.length by omega]
 rw[dK]
 have at5:cs.size=l.length*2:=by rw[<-r0,hL,og fM];simp
 have jM:aK u (u.ins g (.cells cs 52 (0,0))) 52 2 ⟨some ⟨g,0,none⟩,l.length,l.length⟩ ((gu l.length (⟨0,⟨none,0,0⟩,[]⟩:az)).flatMap cO):=by have:=aK.make (k:=2) (H.le.refl u) W (cells:=cs) (e:=52) (n:=l.length) (by omega) at5;rw[hL] at this;exact this
 rw[show(s.n:o).toNat=l.length by omega]
 have hblk:(⟨some ⟨g,0,none⟩,l.length,l.length⟩:U).al=some g:=rfl
 refine⟨λi w=>0<=i/\i<=l.length/\∃D:M az,D.map az.bL=(l.take i.toNat).map az.bL/\sb u w ⟨some ⟨g,0,none⟩,l.length,l.length⟩ (D++gu (l.length-i.toNat) ⟨0,⟨none,0,0⟩,[]⟩),
  λi _=>l.length-i.toNat,⟨by omega,by omega,[],by simp,?_⟩,?_⟩
 refine⟨by simpa using jM,λr O=>?_,λr O=>?_,?_⟩
 simp at O
 rw[O.2]
 exact aK.nil (bZ _ W) _ _
 simp at O
 rw[O.2]
 intro x _ J;simp[U.al] at J
 simp only[nQ]
 rw[acw]
 exact .inr λx J=>by simp[U.al] at J
 rintro i w ⟨i0,i1,D,eT,b4⟩
 have RP:D.length=i.toNat:=by have:=eB iC eT;simp at this;omega
 refine⟨λeU=>?_,λFu=>?_⟩
 obtain⟨p,ad,r,O,bM,c1,c2⟩:=(ag.mono b4.own.le).at i0 eU
 have fp:r∈l:=dB O
 have SL:=c2.len
 have:=aB r fp
 refine⟨p,ad,⟨i0,eU⟩,_,bM,_,c1,sN c2 (by omega) λha hQ IY uE=>⟨IY.le,_,rfl,⟨i0,by show i<((l.length:N):o);omega⟩,?_⟩⟩
 have atm:=b4.mono IY.le
 refine aK.store (enc:=cO) fM atm.own (by decide) (i:=i.toNat) (by simp;omega) (y:=⟨r.id,ha,r.v⟩) (Xp _) rfl λgK No Sb _=>⟨⟨by omega,by omega⟩,⟨by omega,by omega,D++ [⟨r.id,ha,r.v⟩],?_,?_⟩,by dsimp only;omega⟩
 rw[show(i+1).toNat=i.toNat+1 by omega,gJ,O,er,eT]
 simp[az.bL]
 have kx:(D++gu (l.length-i.toNat) (⟨0,⟨none,0,0⟩,[]⟩:az)).set i.toNat ⟨r.id,ha,r.v⟩=D++ [⟨r.id,ha,r.v⟩]++gu (l.length-(i+1).toNat) ⟨0,⟨none,0,0⟩,[]⟩:=by rw[show l.length-i.toNat=(l.length-(i+1).toNat)+1 by omega,List.replicate_succ,<-RP,amd];simp
 rw[kx] at No
 have hold:∀x∈D,aK u w 3 1 x.s (x.v.flatMap encI):=λx J=>b4.inner x (iA _ J)
 have auw:w g≠none:=dL b4.own hblk
 have ajf:ha.al≠some g:=λe=>auw (IY.fresh g e)
 have auq:∀x∈D,dO x.s ha:=λx J c I dd=>dL (hold x J) I (IY.fresh c dd)
 have ag3:∀x∈D,dO ⟨some ⟨g,0,none⟩,l.length,l.length⟩ x.s:=λx J=>b4.eG x (iA _ J)
 refine⟨No,λx J=>?_,λx J=>?_,?_⟩
 rcases cM.1 J with J|J
 rcases cM.1 J with J|J
 exact aK.else ((hold x J).mono IY.le) Sb (λc I=>b4.own.fresh c I) λc I=>ag3 x J c I
 simp at J
 subst J
 exact aK.else (IY.weaken b4.own.le) Sb (λc I=>b4.own.fresh c I) λc I=>by
  have:c=g:=by rw[hblk] at I;exact(cX I).symm
  rw[this];exact ajf
 rw[(vd.1 J).2]
 exact aK.nil (No.le) _ _
 rcases cM.1 J with J|J
 rcases cM.1 J with J|J
 exact ag3 x J
 simp at J
 subst J
 intro c I
 have:c=g:=by rw[hblk] at I;exact(cX I).symm
 rw[this];exact ajf
 rw[(vd.1 J).2]
 intro c _ I;simp[U.al] at I
 have ka:=(J4.1 b4.apart).1
 refine J4.2 ⟨J4.2 ⟨ka,by simp,λx J y ai=>?_⟩,?_,λx J y ai=>?_⟩
 simp at ai;subst ai;exact auq x J
 rw[acw]
 exact .inr λc I=>by simp[U.al] at I
 rw[(vd.1 ai).2]
 intro c _ I;simp[U.al] at I
 have eU:i.toNat=l.length:=by have:¬i<(s.n:o):=Fu;omega
 rw[eU,Nat.sub_self,List.replicate_zero,lB] at b4
 rw[eU,oE] at eT
 have cb:∀r∈D,CD r:=λr O=>by
  have:r.bL∈l.map az.bL:=by rw[<-eT];exact bk.2 ⟨r,O,rfl⟩
  obtain⟨de,dz,e⟩:=bk.1 this;have h1:=cm de dz;have:de.id=r.id:=eB sI e;unfold CD;rw[<-this];exact h1
 obtain⟨E,pV⟩:∃E:M {r//CD r},E.map (·.1)=D:=⟨D.attachWith _ cb,by simp⟩
 have p4:=b4.own
 rw[<-pV] at p4
 refine aBy (val:=λr:{r//CD r}=>r.1) azO (enters_of func105 (by kernel_rfl) rfl) (λa b v=>?_) p4 (by have:=eB iC pV;simp at this;omega) λcQ Wl ad qO dP jk=>av _ (Wl.map (·.1)) _ ?_ ?_ ?_
 have ay:=a.2
 have aa:=b.2
 unfold CD at ay aa
 exact aDo a.1.id a.1.s b.1.id b.1.s v (λfC cQ=>fC=a.1.id-b.1.id/\cQ=v) ⟨⟨by omega,by omega⟩,rfl,rfl⟩
 have Dk:(Wl.map (·.1)).Perm D:=by rw[<-pV];exact ad.map _
 have mj:∀x∈Wl.map (·.1),x∈D:=λx J=>Dk.mem_iff.1 J
 exact⟨dP,λr O=>aK.else (b4.inner r (mj r O)) jk (λc I=>b4.own.fresh c I) λc I=>b4.eG r (mj r O) c I,λr O=>b4.eG r (mj r O),b4.apart.perm Dk.symm λh=>h.symm⟩
 rw[<-eT,<-pV]
 exact((ad.map (·.1)).map az.bL)
 rw[wy]
 exact qO.imp λh=>by omega
def fR(id:o)(v:M o)(d:o)(there:aD)(many:o):o:=
 if id<1∨1000000000<id then 50 else if hv v d≠0 then hv v d else if there=ax/\512<=many then 2 else 0
def Kx{id:o}{v:M o}{there:aD}{many:o}{K:o->H->Prop}(ag:Ints u s v)(h:K (fR id v d there many) u):El id s d there many u K:=by
 apply aDm;refine qj ag ?_;intro o9 ph;have go:∀dp:aD,(dp=ak↔(id<1∨1000000000<id))->o9 dp u:=λdp aa=>ph dp u ⟨λe=>?_,λe=>⟨λan=>?_,λhe=>⟨λht=>⟨λhm=>?_,λhm=>?_⟩,λht=>?_⟩⟩⟩;exact⟨λh1=>go ak ⟨λ_=>.inl h1,λ_=>rfl⟩,λh1=>go _ ⟨λe=>.inr (by simpa using e),λe=>by simp;omega⟩⟩;unfold fR at h;rw[a1 (aa.1 e)] at h;exact h
 all_goals
  have vX:¬(id<1∨1000000000<id):=λaF=>by rw[aa.2 aF] at e;cases e
  unfold fR at h;rw[aG vX] at h
 rw[a1 an] at h;exact h;rw[aG (by simpa using he),a1 ⟨by simpa using ht,hm⟩] at h;exact h;rw[aG (by simpa using he),aG (λh2=>hm h2.2)] at h;exact h;rw[aG (by simpa using he),aG (λh2=>by rw[ht] at h2;cases h2.1)] at h;exact h
def hZ(q:M o)(d k b:o):o:=if hv q d≠0 then hv q d else if k<1∨64<k∨b<0∨1000000<b then 1 else 0
def Kv{t:U}{q:M o}{k b:o}{K:o->H->Prop}(ht:Ints u t q)(h:K (hZ q d k b) u):Co t d k b u K:=by unfold hZ at h;apply aDk;refine qj ht ⟨λan=>by rw[a1 an] at h;exact h,λhe=>?_⟩;rw[aG (by simpa using he)] at h;by_cases dq:k<1∨64<k∨b<0∨1000000<b;rw[a1 dq] at h;exact⟨λ_=>h,λcq=>⟨λ_=>h,λcH=>⟨λ_=>h,λga=>⟨λ_=>h,λfu=>by omega⟩⟩⟩⟩;rw[aG dq] at h;exact⟨λcq=>by omega,λ_=>⟨λcH=>by omega,λ_=>⟨λga=>by omega,λ_=>⟨λfu=>by omega,λ_=>h⟩⟩⟩⟩
def w6{q:M o}{k b:o}:hZ q d k b=0↔hv q d=0/\1<=k/\k<=64/\0<=b/\b<=1000000:=by unfold hZ;by_cases h1:hv q d=0;rw[aG (by simpa using h1)];by_cases h2:k<1∨64<k∨b<0∨1000000<b;rw[a1 h2];constructor;intro h;cases h;rintro⟨_,h3⟩;omega;rw[aG h2];exact⟨λ_=>⟨h1,by omega⟩,λ_=>rfl⟩;rw[a1 h1];exact⟨λh=>aV h h1,λh=>aV h.1 h1⟩
end
namespace kW
section
variable{u:H}{b:N}
def Hd{ub:H}{c3:N}{d leaf:o}{s:U}{l:M az}{K:aA bc->H->Prop}(A1:1<=leaf)(KC:ub.cell? ⟨c3,0,none⟩=some (.int .i64 d))(q9:ub.cell? ((cw c3 0 none).add 1)=some (.int .i64 leaf))
  (ab:aK ub u 52 2 s (l.flatMap cO)) (aB:∀r∈l,Ints ub r.s r.v) (bH:hp l d) (h0:l=[]->∀u',u.le u'->K none u') (av:l≠[]->∀u' n,QR ub u s l d u' n->lH 2 n.bF->K (some ⟨n.b,0,none⟩) u'):Hw (some ⟨c3,0,none⟩) s u K:=by
 have ci:=ab.le
 apply aEf
 intro n0 e1 b8 gn
 obtain⟨fi,jM⟩:∃fi,fi=(bj #[hn (some ⟨c3,0,none⟩)] 113 (0,0)):=⟨_,rfl⟩
 rw[<-jM] at gn ⊢
 have uC:n0≠b8:=λe=>by rw[<-e,bi] at gn;cases gn
 have FH:u b8=none:=by rw[bq _ _ (dG uC)] at gn;exact gn
 refine nh (zs:=[.nilFunc]) rfl (by simp[cK]) ?_
 obtain⟨en,j1⟩:∃en,en=(bj [yM n0 b8].toArray 170 (0,0)):=⟨_,rfl⟩
 rw[<-j1]
 obtain⟨cQ,qP⟩:∃cQ,cQ=(u.ins n0 fi).ins b8 en:=⟨_,rfl⟩
 rw[<-qP]
 have zu:u.le cQ:=by rw[qP];exact(bZ _ e1).trans (bZ _ gn)
 have d0:cQ n0=some fi:=by rw[qP,bq _ _ uC,bi]
 have d1:cQ b8=some en:=by rw[qP,bi]
 obtain⟨gG,F3⟩:∃gG:H,gG=λc=>if c=n0 then some fi else if c=b8 then some en else ub c:=⟨_,rfl⟩
 have fA:gG n0=some fi:=by rw[F3];exact a1 rfl
 have ga:gG b8=some en:=by rw[F3];show(if b8=n0 then _ else if b8=b8 then _ else _)=_;rw[aG (dG uC),a1 rfl]
 have fu:∀{c},c≠n0->c≠b8->gG c=ub c:=λ{c} h1 h2=>by rw[F3];show(if c=n0 then _ else if c=b8 then _ else _)=_;rw[aG h1,aG h2]
 have qR:ub.le gG:=λc z I=>by rw[fu (λe=>by rw[e,ci.none e1] at I;cases I) (λe=>by rw[e,ci.none FH] at I;cases I)];exact I
 have Oo:gG.le cQ:=λc z I=>by by_cases eK:c=n0;rw[eK,fA] at I;rw[eK,d0];exact I;by_cases aQ:c=b8;rw[aQ,ga] at I;rw[aQ,d1];exact I;rw[fu eK aQ] at I;exact zu c z (ci c z I)
 have dP:aK gG cQ 52 2 s (l.flatMap cO):=⟨(ab.mono zu).own,Oo,λg W=>by rw[fu (λe=>dL ab W (by rw[e];exact e1)) (λe=>dL ab W (by rw[e];exact FH))];exact ab.fresh g W⟩
 have cb:wW gG n0 b8 c3 d leaf:=⟨by rw[jM] at fA;exact a8 fA 0,by rw[j1] at ga;exact a8 ga 0,H.le.cell qR KC,H.le.cell qR q9⟩
 refine⟨_,H.le.cell Oo cb.c1,.inl ⟨_,_,_,rfl,hd Lm,?_⟩⟩
 exact ac6 A1 l.length (cC _) cb dP (λr O=>(aB r O).mono qR) bH (λe=>h0 e cQ zu) λan u' n I fE=>av an u' n ⟨I.one,I.nodup,λc hm=>⟨qR.none (I.out c hm).1,(I.out c hm).2⟩,I.all,I.ok,I.rows,I.size,λc z h1 h2=>I.ue c z (zu c z h1) h2⟩ fE
inductive bx where
 |tree|map|node|vec
structure aS where
 aq:o
 leaf:o
 root:aA aw
 m:N
 w:M (o×(U×M o))
 e4:N
def aS.b9(T:aS):o:=T.leaf
def fx(T:aS):M ao:=[.int .i64 T.aq,.int .i64 T.leaf,.pointer (T.root.map λn=>⟨n.b,0,none⟩),.map (some T.m)]
def eb(w:M (o×(U×M o))):M (o×ao):=w.map λe=>(e.1,.slice e.2.1.a e.2.1.n e.2.1.c)
structure ec(af:N->aA bx)(u:H)(b:N)(T:aS):Prop where
 cell:u b=some (.cells (fx T).toArray 169 (0,0))
 dR:af b=some .tree
 map:fz u T.m (eb T.w)
 dr:af T.m=some .map
 vec:∀e∈T.w,Ints u e.2.1 e.2.2/\∀g,e.2.1.al=some g->af g=some .vec
 one:∀n,T.root=some n->(∀x∈n.bR,hT u x)/\n.own.Nodup/\(∀c∈n.own,af c=some .node)/\∀x∈n.bR,∀r∈x.1.rows,∀g,r.s.al=some g->af g=some .vec
def ec.bS{af aY:N->aA bx}{u':H}{T:aS}(h:ec af u b T)(ac:∀c,af c≠none->aY c=af c)(hu:∀c z,u c=some z->af c≠none->u' c=some z):ec aY u' b T where
 cell:=hu _ _ h.cell (by rw[h.dR];simp)
 dR:=by rw[ac _ (by rw[h.dR];simp)];exact h.dR
 map:=h.map.else λz ab=>hu _ _ ab (by rw[h.dr];simp)
 dr:=by rw[ac _ (by rw[h.dr];simp)];exact h.dr
 vec e he:=by obtain⟨h1,h2⟩:=h.vec e he;exact⟨bz.else h1 λg z W ab=>hu g z ab (by rw[h2 g W];simp),λg W=>by rw[ac g (by rw[h2 g W];simp)];exact h2 g W⟩
 one n ae:=by obtain⟨h1,h2,h3,a7⟩:=h.one n ae;refine⟨λx J=>(h1 x J).bS (λc z I ab=>hu c z ab (by rw[h3 c (ep.2 ⟨x,J,I⟩)];simp)) λr O=>bz.else ((h1 x J).vec r O) λg z W ab=>hu g z ab (by rw[a7 x J r O g W];simp),h2,λc I=>by rw[ac c (by rw[h3 c I];simp)];exact h3 c I,λx J r O g W=>by rw[ac g (by rw[a7 x J r O g W];simp)];exact a7 x J r O g W⟩
def bS:yx ec:=⟨λh ac hu=>h.bS ac hu⟩
abbrev In:=mG ec
def lD(T:aS):M j6:=match T.root with
 |none=>[]|some n=>n.bF.all
def a6(X:aS):M (o×M o):=X.w.map λe=>(e.1,e.2.2)
structure dU(T:aS):Prop where
 hB:1<=T.aq/\T.aq<=64
 Bx:1<=T.leaf/\T.leaf<=64
 ids:∀e∈T.w,1<=e.1/\e.1<=1000000000
 vec:∀e∈T.w,(e.2.2.length:o)=T.aq/\c8 e.2.2
 small:T.w.length<=512
 rows:(lD T).Perm (a6 T)
 ok:∀n,T.root=some n->gx T.aq n.bF
 oI:∀n,T.root=some n->lH 2 n.bF
 size:∀n,T.root=some n->n.bR.length<=1100*T.e4+2000
def je:ns aH 125 3 30 (.slice none 0 0):=⟨by kernel_rfl,by kernel_rfl,λ_=>by kernel_rfl⟩
def LM(T:aS):(eb T.w).length=(a6 T).length:=by simp[eb,a6]
def ec.r8{af:N->aA bx}{T:aS}(h:ec af u b T):((a6 T).map (·.1)).Nodup:=by obtain⟨es,cl,_,he⟩:=h.map;have:=he.nodup;unfold eb at this;rw[eh] at this;unfold a6;rw[eh];exact this
def B5{aj:H}{af:N->aA bx}{T:aS}{K:o->H->Prop}(h:In aj u af b T)(av:K (a6 T).length u):aex (some ⟨b,0,none⟩) u K:=by apply aEa;refine⟨λe=>(by cases e),λ_=>⟨_,rfl,_,a8 h.aJ.cell 3,vk je h.aJ.map ?_⟩⟩;rw[LM];exact av
structure Al(aj u:H)(af:N->aA bx)(b:N)(T:aS)(id:o)(u':H)(aY:N->aA bx)(bB:aS):Prop where
 is:In aj u' aY b bB
 eX:hU u af u' aY
 ok:dU bB
 rows:a6 bB=(a6 T).filter λx=>x.1 !=id
 aq:bB.aq=T.aq
 leaf:bB.leaf=T.leaf
 e4:bB.e4=T.e4
def tc(w:M (o×(U×M o)))(x:o):(fD (eb w) x=none/\x∉w.map (·.1))∨∃e,e∈w/\e.1=x/\fD (eb w) x=some (.slice e.2.1.a e.2.1.n e.2.1.c):=by
 cases h:fD (eb w) x with
 |none=>left;have:=xh.1 h;unfold eb at this;rw[eh] at this;exact⟨rfl,this⟩|some v=>right;have:=L0 h;obtain⟨e,he,aF⟩:=bk.1 this;have cW:e.1=x:=eB sI aF;have fJ:ea e.2.1.a e.2.1.n e.2.1.c=v:=eB tH aF;exact⟨e,he,cW,by rw[fJ]⟩
def nN(T:aS):(a6 T).map (·.1)=T.w.map (·.1):=by unfold a6;rw[eh];rfl
def CS(w:M (o×(U×M o)))(id:o):(eb w).filter (λp=>p.1 !=id)=eb (w.filter λe=>e.1 !=id):=by unfold eb;rw[sJ];rfl
def wH{aj:H}{af:N->aA bx}{T:aS}{id:o}{K:aD->o->H->Prop}(h:In aj u af b T)(aT:dU T)(kc:T.e4<=4000)(eg:id∉T.w.map (·.1)->∀u',u.le u'->K ax 0 u')
  (ky:id∈T.w.map (·.1)->∀u' aY bB,Al aj u af b T id u' aY bB->K ak 0 u'):Qq (some ⟨b,0,none⟩) id u K:=by
 apply aD7
 intro n0 e1
 obtain⟨aU,hj⟩:∃aU,aU=u.ins n0 (.cells #[.int .i64 id] 3 (0,0)):=⟨_,rfl⟩
 have ej:u.le aU:=by rw[hj];exact bZ _ e1
 have d0:aU n0=some (.cells #[.int .i64 id] 3 (0,0)):=by rw[hj];exact bi _ _ _
 rw[<-hj]
 have i1:=mG.mono bS h ej
 have aJ:=i1.aJ
 refine⟨λe=>(by cases e),λ_=>⟨_,rfl,_,a8 aJ.cell 3,id,a8 d0 0,?_⟩⟩
 rcases tc T.w id with⟨W,hm⟩|⟨e,he,cm,W⟩
 refine tM je aJ.map (ct:=.slice) (⟨none,0,0⟩:U) (by rw[W];rfl) ⟨λ_=>eg hm aU ej,λJ=>?_⟩
 rw[W] at J;cases J
 have cb:id∈T.w.map (·.1):=bk.2 ⟨e,he,cm⟩
 refine tM je aJ.map (ct:=.slice) e.2.1 (by rw[W];rfl) ⟨λJ=>?_,λ_=>?_⟩
 rw[W] at J;exact aV rfl J
 refine⟨_,rfl,_,a8 aJ.cell 3,id,a8 d0 0,?_⟩
 refine Ks je aJ.map λz iL=>?_
 obtain⟨hQ,uN⟩:∃hQ,hQ=aU.ins T.m z:=⟨_,rfl⟩
 rw[<-uN] at iL ⊢
 have jO:∀{c},af c≠some .map->c≠T.m:=λI e=>I (by rw[e];exact aJ.dr)
 have LF:∀c z,aU c=some z->c≠T.m->hQ c=some z:=λc b7 I an=>by rw[uN,bq _ _ an];exact I
 have m10:hQ T.m=some z:=by rw[uN];exact bi _ _ _
 have abv:n0≠T.m:=λe=>by have:=h.known T.m (by rw[h.aJ.dr];simp);rw[<-e] at this;exact this e1
 intro n11 uD
 refine nh (zs:=[.nilFunc]) rfl (by simp[cK]) ?_
 obtain⟨rS,qL⟩:∃rS,rS=(bj [iQ (.func 256) #[] #[.pointer (some ⟨n0,0,none⟩),.pointer (some ⟨n11,0,none⟩)]].toArray 324 (0,0)):=⟨_,rfl⟩
 rw[<-qL]
 obtain⟨gK,xJ⟩:∃gK,gK=hQ.ins n11 rS:=⟨_,rfl⟩
 rw[<-xJ]
 have rN:hQ.le gK:=by rw[xJ];exact bZ _ uD
 have d11:gK n11=some rS:=by rw[xJ];exact bi _ _ _
 have pe:∀c b7,aU c=some b7->c≠T.m->gK c=some b7:=λc b7 I an=>rN c b7 (LF c b7 I an)
 have Lq:gK b=some (.cells (fx T).toArray 169 (0,0)):=pe b _ aJ.cell (jO (by rw[aJ.dR];simp))
 obtain⟨n,ae⟩:∃n,T.root=some n:=by
  cases O:T.root with
  |some n=>exact⟨n,rfl⟩|none=>have h1:=aT.rows.length_eq;unfold lD at h1;rw[O] at h1;have h2:=Ub he;simp[a6] at h1;omega
 obtain⟨cV,dc,dh,fL⟩:=aJ.one n ae
 have ur:gK.cell? ((cw b 0 none).add 2)=some (.pointer (some ⟨n.b,0,none⟩)):=by
  have J:fx T=[.int .i64 T.aq,.int .i64 T.leaf,.pointer (some ⟨n.b,0,none⟩),.map (some T.m)]:=by simp[fx,ae]
  rw[J] at Lq;exact a8 Lq 2
 refine⟨_,rfl,_,by rw[qL] at d11;exact a8 d11 0,_,ur,_,_,_,rfl,hd Ln,?_⟩
 obtain⟨ub,ci⟩:∃ub:H,ub=λc=>open Classical in if c∈n.own then none else gK c:=⟨_,rfl⟩
 have yo:∀{c},c∈n.own->ub c=none:=λI=>by rw[ci];exact a1 I
 have gG:∀{c},c∉n.own->ub c=gK c:=λI=>by rw[ci];exact aG I
 have lub:ub.le gK:=λc b7 I=>by by_cases e:c∈n.own;rw[yo e] at I;cases I;rw[gG e] at I;exact I
 have lL:∀{c},af c≠some .node->c∉n.own:=λI e=>I (dh _ e)
 have abw:n0∉n.own:=λe=>h.known n0 (by rw[dh n0 e];simp) e1
 have abx:n11∉n.own:=λe=>by have h1:=i1.known n11 (by rw[dh n11 e];simp);obtain⟨b7,bQ⟩:=fj.1 h1;have:=LF n11 b7 bQ (jO (by rw[dh n11 e];simp));rw[uD] at this;cases this
 have pj:ub.cell? ⟨n0,0,none⟩=some (.int .i64 id):=by
  have z0:ub n0=some (.cells #[.int .i64 id] 3 (0,0)):=by rw[gG abw];exact pe _ _ d0 abv
  exact a8 z0 0
 have h9:ub.cell? ⟨n11,0,none⟩=some (.func (.func 256) #[] #[.pointer (some ⟨n0,0,none⟩),.pointer (some ⟨n11,0,none⟩)]):=by
  have iY:ub n11=some rS:=by rw[gG abx];exact d11
  rw[qL] at iY;exact a8 iY 0
 have jn:∀x∈n.bR,hT gK x:=λx J=>(cV x J).bS (λc b7 I bQ=>pe c b7 bQ (jO (by rw[dh c (ep.2 ⟨x,J,I⟩)];simp))) λr O=>bz.else ((cV x J).vec r O) λg b7 W bQ=>pe g b7 bQ (jO (by rw[fL x J r O g W];simp))
 have lo:∀x∈n.bR,∀r∈x.1.rows,Ints ub r.s r.v:=λx J r O=>bz.else ((cV x J).vec r O) λg b7 W bQ=>by rw[gG (lL (by rw[fL x J r O g W];simp))];exact pe g b7 bQ (jO (by rw[fL x J r O g W];simp))
 have c0:=aT.size n ae
 refine ac7 pj h9 n lub jn dc (λc I=>yo I) lo (by omega) λu16 n' ar eL j0=>?_
 have yO:∀c b7,aU c=some b7->c≠T.m->c∉n.own->u16 c=some b7:=λc b7 I an Zp=>eL c b7 (pe c b7 I an) Zp
 have WE:u16 b=some (.cells (fx T).toArray 169 (0,0)):=yO b _ aJ.cell (jO (by rw[aJ.dR];simp)) (lL (by rw[aJ.dR];simp))
 have Ze:fz u16 T.m (eb (T.w.filter λe=>e.1 !=id)):=by rw[<-CS];exact iL.else λb7 bQ=>eL _ _ (rN _ _ bQ) (lL (by rw[aJ.dr];simp))
 have adY:∀{s:U} {v:M o},Ints aU s v->(∀g,s.al=some g->af g=some .vec)->Ints u16 s v:=λhi W=>bz.else hi λg b7 ca bQ=>yO g b7 bQ (jO (by rw[W g ca];simp)) (lL (by rw[W g ca];simp))
 obtain⟨bB,ez⟩:∃bB:aS,bB={T with root:=some n',w:=T.w.filter λe=>e.1 !=id}:=⟨_,rfl⟩
 have AY:a6 bB=(a6 T).filter λx=>x.1 !=id:=by rw[ez];unfold a6;rw[sJ];rfl
 have aaT:∀c,aU c≠none->u16 c≠none:=λc I=>j0 c λe=>by by_cases aF:c=T.m;rw[aF,rN _ _ m10] at e;cases e;obtain⟨b7,bQ⟩:=fj.1 I;rw[pe c b7 bQ aF] at e;cases e
 refine ky cb u16 af bB ⟨⟨?_,λc b7 I=>?_,h.out,λc I=>aaT c (i1.known c I)⟩,⟨λc b7 I ac=>yO c b7 (ej c b7 I) (jO (by rw[ac];simp)) (lL (by rw[ac];simp)),λc I=>.inl I⟩,?_,AY,by rw[ez],by rw[ez],by rw[ez]⟩
 subst ez
 refine⟨?_,aJ.dR,Ze,aJ.dr,λfW gd=>?_,λek fK=>?_⟩
 rw[WE]
 simp[fx,ae,ar.b]
 obtain⟨v1,v2⟩:=aJ.vec fW (iX.1 gd).1
 exact⟨adY v1 v2,v2⟩
 obtain rfl:=cX (show some n'=some ek from fK)
 exact⟨ar.one,by rw[ar.own];exact dc,λc I=>dh c (by rw[<-ar.own];exact I),λx J r O g W=>by obtain⟨y,ai,NI⟩:=ar.rows x J r O;exact fL y ai r NI g W⟩
 have MH:=h.out
 have h1:=h.le c b7 I
 have ac:af c=none:=by
  cases e:af c with
  |none=>rfl|some t=>have:=h.out c (by rw[e];simp);rw[I] at this;cases this
 exact yO c b7 (ej c b7 h1) (jO (by rw[ac];simp)) (lL (by rw[ac];simp))
 have I0:=aT.ok n ae
 refine⟨by rw[ez];exact aT.hB,by rw[ez];exact aT.Bx,λfW gd=>?_,λfW gd=>?_,?_,?_,λek fK=>?_,λek fK=>?_,λek fK=>?_⟩
 rw[ez] at gd;exact aT.ids fW (iX.1 gd).1
 rw[ez] at gd ⊢;exact aT.vec fW (iX.1 gd).1
 rw[ez];exact jo (yf _ _) aT.small
 rw[AY]
 have O:=aT.rows
 rw[ez]
 unfold lD at O ⊢
 rw[ae] at O
 show n'.bF.all.Perm _
 rw[ar.bF,bJ.Xa]
 exact O.filter _
 rw[ez] at fK ⊢
 obtain rfl:=cX (show some n'=some ek from fK)
 rw[ar.bF]
 exact bJ.afU I0
 rw[ez] at fK
 obtain rfl:=cX (show some n'=some ek from fK)
 rw[ar.bF]
 exact(aT.oI n ae).del
 rw[ez] at fK ⊢
 obtain rfl:=cX (show some n'=some ek from fK)
 rw[<-aw.JJ,ar.bF,bJ.afV,aw.JJ]
 exact c0
end
end kW
section
variable{u v aj u':H}{k b:o}{l:M lR}{di n6 n:N}{bd ss:U}{S:M bP}{R:M cn}{ids q:M o}{r:cn}{s:mK}{p:bJ}{rows Q:M j6}{K:aD->H->Prop}{e:lR}
def aBK{s:U}{K:o->H->Prop}(ae:u n=some (.cells #[.int .i64 k,.slice s.a s.n s.c] 143 (0,0)))(av:K s.n u):We (some ⟨n,0,none⟩) u K:=by apply aFl;exact⟨λe=>(by cases e),λ_=>⟨_,rfl,s,a8 ae 1,av⟩⟩
def aBU{l:M bP}(ag:qB l){x:bP}(J:x∈l)(hm:∀y∈l,bw x y=ax):l.getD (l.length-1) default=x:=by
 have ap:0<l.length:=vc.2 λe=>by rw[e] at J;cases J
 obtain⟨i,hi,rfl⟩:=oG J;have gC:l.length-1<l.length:=by omega
 rw[dm,cy gC];show l[l.length-1]=l[i];by_cases e:i=l.length-1;subst e;rfl;have h1:=oF.1 ag i (l.length-1) hi gC (by omega);exact Zb (hm _ (kD gC)) h1
def aAZ{fr:N}{hi bm:o}(h:iZ aj di k u S)(cq:1<=k)(ar:∀g∈S,lh g.2)(qJ:u.cell? ⟨fr,0,none⟩=some (.pointer (some ⟨di,0,none⟩)))(_h1:cz hi)(h2:cz bm)
  (av:∀dp:aD,(dp=ak↔k<=(S.length:o)/\((e6 k.toNat S).getD (k.toNat-1) default).2<dy hi bm)->K dp u):Vz hi bm ⟨fr,0,none⟩ u K:=by
 obtain⟨l,dY,b5,ad⟩:=h
 obtain⟨s,ae,ab,an⟩:=dY.ex
 have dM:=ab.fq.len
 have hlen:=ad.length_eq
 rw[Ab] at hlen
 apply aDu
 refine⟨_,qJ,?_⟩
 apply aFo
 have full:∀{x2 jV:o},cz jV->((s.n:o)=k->dy x2 jV=((e6 k.toNat S).getD (k.toNat-1) default).2)->Wd (some ⟨di,0,none⟩) u (λ(vA:aD) (u8:H)=>((vA=Bool.true)->sR hi bm x2 jV u8 (λ(aGm:o) (hQ:H)=>K (decide ((0:o)<aGm)) hQ))/\((vA=Bool.false)->K Bool.false u8)):=by
  intro x2 jV ajN hw;apply aFk;refine⟨λ_=>⟨_,rfl,_,rfl,s,a8 ae 1,_,a8 ae 0,λaa=>?_,λaa=>?_⟩,λe=>(by cases e)⟩;have he:=DT aa;refine yl h2 ajN ?_;rw[hw he];have po:k<=(S.length:o):=by omega
  have key:∀Y:o,(0<Y↔((e6 k.toNat S).getD (k.toNat-1) default).2<dy hi bm)->K (decide (0<Y)) u:=λY aC=>av _ (by rw[decide_eq_true_iff,aC];exact⟨λh=>⟨po,h⟩,λh=>h.2⟩);refine key _ ?_;split;omega;split<;>omega;have he:=GY aa;exact av _ ⟨λe=>(by cases e),λI=>by omega⟩
 refine aBK ae ⟨λh0=>⟨_,qJ,full ⟨by omega,by omega⟩ λe=>by omega⟩,λNi=>?_⟩
 obtain⟨p,ke,g,W,bM,c1,c2⟩:=ab.fq.at (x:=0) (by omega) (by omega)
 have vP:l.getD 0 default=g:=by rw[dm];have:l[(0:o).toNat]?=some g:=W;rw[show(0:o).toNat=0 from rfl] at this;rw[this];rfl
 have ux:g∈l:=dB W
 have uy:g∈e6 k.toNat S:=ad.mem_iff.1 ux
 have YG:lh g.2:=ar g ((vm _).mem_iff.1 (mx uy))
 have eK:p.add ((0:o).toNat*3)=p.add 0:=rfl
 rw[eK] at bM c1 c2
 refine⟨_,rfl,s,a8 ae 1,p,ke,⟨by omega,by omega⟩,_,bM,_,c1,_,c2,_,qJ,full (rQ _) λe=>?_⟩
 rw[mD]
 have c6:pb (λa b:bP=>bw b a):=⟨λa b h=>IM h,λa b c h k=>FC k h⟩
 have avf:∀y∈e6 k.toNat S,bw g y=ax:=λy ai=>by
  have F7:=ad.mem_iff.2 ai;obtain⟨i,hi,rfl⟩:=oG F7;have h3:bw (l.getD 0 default) (l.getD i default)=ax:=b5.root c6 i hi;have e:l.getD i default=l[i]:=by rw[dm,cy hi];rfl
  rw[e,vP] at h3;exact h3
 have ap:=aBU (U4 k.toNat S) uy avf
 rw[Ab] at ap
 rw[show k.toNat-1=min k.toNat S.length-1 by omega,ap]
def aBg{K:ao->H->Prop}(h:sV v u n l)(b5:iR blt l.length l)(an:0<l.length)
  (av:∀u' m,sV v u' n (kg blt l)->nu v m (l.getD 0 default).2->K (wB ((⟨m,0,none⟩:bc),l.getD 0 default)) u'):Ep (G3 n) u K:=by
 obtain⟨L,fm,c6,ef⟩:=h.ex
 have hlen:L.length=l.length:=by rw[<-c6,dj]
 have sl:∀i,l.getD i default=(L.getD i default).2:=λi=>by rw[<-c6];exact getD_map' (f:=λe:kX=>e.2) rfl L i
 have aib:iR xY L.length L:=λi i0 i1=>by have:=b5 i i0 (by omega);rw[sl,sl] at this;exact this
 obtain⟨gX,_,_,_⟩:=OP alh aib (by omega)
 refine aA5 (alg v n) alh (V:=wB) fm aib (by omega) (λ{u' bE x gw} ag hk=>?_) λu' ag=>?_
 refine azz ag (by simp) λjs ajd=>?_
 rw[List.dropLast_concat] at ajd
 have e:(bE++ [x]).getD ((bE++ [x]).length-1) default=x:=by rw[dm];simp
 rw[e]
 exact hk js ajd
 have h0:L.getD 0 default∈L:=by rw[dm,cy (by omega)];exact kD (by omega)
 obtain⟨m,hm,ad⟩:=ef _ h0
 have e:L.getD 0 default=((⟨m,0,none⟩:bc),l.getD 0 default):=by rw[sl,<-hm]
 rw[e]
 refine av u' m ⟨kg xY L,ag,?_,λy ai=>ef y (gX.mem_iff.1 (gh _ ai))⟩ (by rw[sl];exact ad)
 have aF:=aza (α:=kX) (β:=lR) (lt:=xY) (wh:=blt) (f:=λe:kX=>e.2) rfl (λ_ _=>rfl) L
 rw[c6] at aF
 exact aF
def aCk:kI aH 39=some (102,6,96,[.int .i64 0,.slice none 0 0,.slice none 0 0,.int .u64 0,.int .u64 0,.slice none 0 0]):=by kernel_rfl
structure tU(aj u:H)(bd:U)(rest:M cn):Prop where
 own:aK aj u 102 6 bd (rest.flatMap uf)
 each:∀r∈rest,yz aj u r
 eG:(bd::rest.flatMap cn.jE).Pairwise dO
def tU.mono{rest:M cn}(h:tU aj u bd rest)(k:u.le u'):tU aj u' bd rest:=
 ⟨h.own.mono k,λr O=>⟨(h.each r O).l.mono k,(h.each r O).h.mono k,(h.each r O).i.mono k⟩,h.eG⟩
def tU.nil(h:aj.le u):tU aj u ⟨none,0,0⟩ []:=⟨aK.nil h _ _,λr O=>(by cases O),by rw[GZ];exact O1 _ _⟩
def Gz(h:yz aj u r):∀s∈r.jE,∃xs,aK aj u 3 1 s xs:=by intro s ag;simp only[cn.jE,cP,qe,qf] at ag;rcases ag with rfl|rfl|rfl;exact⟨_,h.l⟩;exact⟨_,h.h⟩;exact⟨_,h.i⟩
def azI{aU:H}{rest:M cn}{K:U->H->Prop}(h:tU aj aU bd rest)(hu:aU.le u)(O:yz aU u r)(f1:dO r.ls r.ag)(f2:dO r.ls r.is)(f3:dO r.ag r.is)(ap:rest.length<=10000000)
  (av:∀au u',tU aj u' au (rest++ [r])->gS u u' bd->(∀g,au.al=some g->bd.al=some g∨u g=none)->K au u'):
  c9 aH (dI 39 1 #[(0,.agg #[.int .i64 r.aI,.slice r.ls.a r.ls.n r.ls.c,.slice r.ag.a r.ag.n r.ag.c,.int .u64 (cZ r.cA),.int .u64 (c5 r.cA),.slice r.is.a r.is.n r.is.c])]) [.one .slice] u λs1 v1=>u.le v1/\c9 aH (ee #[39,39] 39 #[.slice bd.a bd.n bd.c,.slice s1.a s1.n s1.c]) [.one .slice] v1 K:=by
 have hm:=h.mono hu
 have ae:bd.n=rest.length:=gU Xo (by decide) hm.own.own.cI
 have adK:aj.le aU:=h.own.le
 have ln:yz aj u r:=⟨O.l.weaken adK,O.h.weaken adK,O.i.weaken adK⟩
 have ef:∀x∈rest++ [r],yz aj u x:=λx J=>by rcases cM.1 J with J|J;exact hm.each x J;rw[gp.1 J];exact ln
 have Xu:∀s∈r.jE,dO bd s/\∀t∈rest.flatMap cn.jE,dO t s:=λs ag=>by obtain⟨xs,J⟩:=Gz O s ag;refine⟨aK.eG h.own (H.le.refl aU) J,λt ht=>?_⟩;obtain⟨y,ai,F0⟩:=ep.1 ht;obtain⟨e9,aaC⟩:=Gz (h.each y ai) t F0;exact aK.eG aaC (H.le.refl aU) J
 have ac:=h.eG
 rw[k9] at ac
 refine z1 aCk (afw r.ls r.ag r.is r.aI (cZ r.cA) (c5 r.cA)) (by decide) rfl (by simp[cK]) hm.own (by omega) (by omega) λau u' ab h5 eL eA _=>av au u' ⟨?_,λx J=>?_,?_⟩ eL eA
 rw[gZ]
 exact ab
 have hk:vt [bd] u u':=λb z aa ar=>eL b z aa (ar bd (gr ..))
 refine hk.ayR (ef x J) (λs ag g W=>by rw[gp.1 ag] at W;exact hm.own.fresh g W) λs ag t ht=>?_
 rw[gp.1 ag]
 rcases cM.1 J with J|J
 exact ac.1 t (ep.2 ⟨x,J,ht⟩)
 rw[gp.1 J] at ht;exact(Xu t ht).1
 rw[gZ,k9]
 have awk:[r].flatMap cn.jE=r.jE:=by simp
 rw[awk]
 refine⟨λt ht=>?_,J4.2 ⟨ac.2,?_,λt ht s ag=>(Xu s ag).2 t ht⟩⟩
 intro g W hh
 have p1:dO bd t:=by rcases cM.1 ht with h1|h1;exact ac.1 t h1;exact(Xu t h1).1
 have p4:∃xs,aK aj u 3 1 t xs:=by rcases cM.1 ht with h1|h1;obtain⟨y,ai,F0⟩:=ep.1 h1;exact Gz (hm.each y ai) t F0;exact Gz ln t h1
 obtain⟨xs,J⟩:=p4
 rcases eA g W with h1|h1
 exact p1 g h1 hh
 exact dL J hh h1
 simp only[cn.jE,k9,cP,qe,qf,J5,O8,oZ,r5]
 exact⟨⟨f1,f2⟩,f3,λ_ h=>h.elim⟩
def yw.beside{a cT b:H}(ac:yw a u cT u')(awK:v.le cT)(aa:b.le u)(Bp:v.le b)(ka:∀c,a c≠none->b c≠none->v c≠none):b.le u'/\∀c,cT c≠none->b c≠none->v c≠none:=by
 refine⟨λc z I=>?_,λc h1 h2=>?_⟩;cases e:a c with
 |none=>exact(ac.out c z e (aa c z I)).2|some b7=>obtain⟨hW,h2⟩:=fj.1 (ka c (by rw[e];simp) (by rw[I];simp));have h3:=Bp c hW h2;rw[I] at h3;cases h3;exact ac.le c z (awK c z h2)
 cases e:a c with
 |none=>obtain⟨z,ab⟩:=fj.1 h2;exact aV (ac.out c z e (aa c z ab)).1 h1
 |some b7=>exact ka c (by rw[e];simp) h2
structure jJ(v u:H)(di n6:N)(k:o)(S:M bP)(l:M lR)(ids:M o)(ss bd:U)(R:M cn):Prop where
 ex:∃ho lf,ho.le u/\lf.le u/\v.le ho/\v.le lf/\(∀c,ho c≠none->lf c≠none->v c≠none)/\iZ v di k ho S/\sV v lf n6 l/\(∀s∈ss::bd::R.flatMap cn.jE,∀g,s.al=some g->ho g=none/\lf g=none)
 seen:aK v u 3 1 ss (ids.flatMap encI)
 rest:tU v u bd R
 eG:∀s∈bd::R.flatMap cn.jE,dO ss s
def jJ.le(h:jJ v u di n6 k S l ids ss bd R):v.le u:=h.seen.le
def jJ.known(h:jJ v u di n6 k S l ids ss bd R):∀s∈ss::bd::R.flatMap cn.jE,∀g,s.al=some g->u g≠none:=by intro s ag g W;rcases cP.1 ag with rfl|ag;exact dL h.seen W;rcases cP.1 ag with rfl|ag;exact dL h.rest.own W;obtain⟨y,ai,F0⟩:=ep.1 ag;obtain⟨xs,J⟩:=Gz (h.rest.each y ai) s F0;exact dL J W
def tU.stay(h:tU v u bd R)(aB:v.le u')(ag:∀s∈bd::R.flatMap cn.jE,∀g z,s.al=some g->u g=some z->u' g=some z):tU v u' bd R:=by have one:∀{e k:N} {s:U} {xs:M ao},aK v u e k s xs->s∈bd::R.flatMap cn.jE->aK v u' e k s xs:=λab hm=>⟨ab.own.le λb z aa hu=>ag _ hm b z aa hu,aB,ab.fresh⟩;refine⟨one h.own (gr ..),λr O=>?_,h.eG⟩;have hm:∀s∈r.jE,s∈bd::R.flatMap cn.jE:=λs ag=>gh _ (ep.2 ⟨r,O,ag⟩);exact⟨one (h.each r O).l (hm _ (by simp[cn.jE])),one (h.each r O).h (hm _ (by simp[cn.jE])),one (h.each r O).i (hm _ (by simp[cn.jE]))⟩
def aBO{x:bP}(h:jJ v u di n6 k S l ids ss bd R)(cq:1<=k)(cH:k<=64)
  (av:∀b u',jJ v u' di n6 k (x::S) l ids ss bd R->K b u'):Ai (some ⟨di,0,none⟩) x.1 (cZ x.2) (c5 x.2) u K:=by
 obtain⟨ho,lf,t1,cV,t2,dc,ka,aT,fm,eZ⟩:=h.ex
 have I:=PL (K:=λ_ u'=>iZ v di k u' (x::S)) aT cq cH λb u' bW=>bW
 refine I.frame t1 ?_
 intro b anO u' ac ez
 have gE:=ez.le
 obtain⟨ga,fu⟩:=ac.beside gE cV dc ka
 have stay:∀s∈ss::bd::R.flatMap cn.jE,∀g z,s.al=some g->u g=some z->anO g=none/\u' g=some z:=λs ag g z W ab=>ac.out g z (eZ s ag g W).1 ab
 refine av b u' ⟨⟨anO,lf,ac.le,ga,gE,dc,fu,ez,fm,λs ag g W=>?_⟩,⟨h.seen.own.le λg z W ab=>(stay _ (gr ..) g z W ab).2,gE.trans ac.le,h.seen.fresh⟩,h.rest.stay (gE.trans ac.le) λs ag g z W ab=>(stay s (gh _ ag) g z W ab).2,h.eG⟩
 obtain⟨z,ab⟩:=fj.1 (h.known s ag g W)
 exact⟨(stay s ag g z W ab).1,(eZ s ag g W).2⟩
def jJ.queue{ho lf Hp:H}{bE:M lR}(h:jJ v u di n6 k S l ids ss bd R)(t1:ho.le u)(t2:v.le ho)(ka:∀c,ho c≠none->lf c≠none->v c≠none)
  (aT:iZ v di k ho S) (eZ:∀s∈ss::bd::R.flatMap cn.jE,∀g,s.al=some g->ho g=none/\lf g=none) (ac:yw lf u Hp u') (gE:v.le Hp) (E2:sV v Hp n6 bE):jJ v u' di n6 k S bE ids ss bd R:=by
 obtain⟨ga,fu⟩:=ac.beside gE t1 t2 λc h1 h2=>ka c h2 h1
 have stay:∀s∈ss::bd::R.flatMap cn.jE,∀g z,s.al=some g->u g=some z->Hp g=none/\u' g=some z:=λs ag g z W ab=>ac.out g z (eZ s ag g W).2 ab
 refine⟨⟨ho,Hp,ga,ac.le,t2,gE,λc h1 h2=>fu c h2 h1,aT,E2,λs ag g W=>?_⟩,⟨h.seen.own.le λg z W ab=>(stay _ (gr ..) g z W ab).2,gE.trans ac.le,h.seen.fresh⟩,h.rest.stay (gE.trans ac.le) λs ag g z W ab=>(stay s (gh _ ag) g z W ab).2,h.eG⟩
 obtain⟨z,ab⟩:=fj.1 (h.known s ag g W)
 exact⟨(eZ s ag g W).1,(stay s ag g z W ab).1⟩
def sV.le(h:sV v u n l):v.le u:=by obtain⟨L,fm,_,_⟩:=h.ex;obtain⟨s,_,ab,_⟩:=fm.ex;exact ab.le
def am5{n0 m:N}{s:U}{K:H->Prop}(h:jJ v u di n6 k S l ids ss bd R)(ap:l.length<10000000)(ad:nu v m p)
  (bH:nv (p.hE []) q.length) (aL:c8 q) (e1:v.cell? ⟨n0,0,none⟩=some (.slice s.a s.n s.c)) (ag:Ints v s q) (av:∀u',jJ v u' di n6 k S (pP q l p) ids ss bd R->K u'):Vy (some ⟨m,0,none⟩) ⟨n0,0,none⟩ ⟨n6,0,none⟩ u K:=by
 obtain⟨ho,lf,t1,cV,t2,dc,ka,aT,fm,eZ⟩:=h.ex
 have I:=aAY (K:=λu'=>sV v u' n6 (pP q l p)) fm dc ap ad bH aL (dc.cell e1) (ag.mono dc) λu' bW=>bW
 refine I.frame cV ?_
 intro Hp u' ac E2
 exact av u' (h.queue t1 t2 ka aT eZ ac E2.le E2)
def aBQ{K:ao->H->Prop}(h:jJ v u di n6 k S l ids ss bd R)(b5:iR blt l.length l)(an:0<l.length)
  (av:∀u' m,jJ v u' di n6 k S (kg blt l) ids ss bd R->nu v m (l.getD 0 default).2->K (wB ((⟨m,0,none⟩:bc),l.getD 0 default)) u'):Ep (G3 n6) u K:=by
 obtain⟨ho,lf,t1,cV,t2,dc,ka,aT,fm,eZ⟩:=h.ex
 have I:=aBg (K:=λx u'=>∃m,x=wB ((⟨m,0,none⟩:bc),l.getD 0 default)/\sV v u' n6 (kg blt l)/\nu v m (l.getD 0 default).2) fm b5 an λu' m h1 h2=>⟨m,rfl,h1,h2⟩
 refine I.frame cV ?_
 rintro x Hp u' ac ⟨m,rfl,E2,ad⟩
 exact av u' m (h.queue t1 t2 ka aT eZ ac E2.le E2) ad
def iZ.whole{ho:H}(h:iZ v di k ho S)(hu:ho.le u):iZ v di k u S:=h.mono hu
def aBP{fr:N}{hi bm:o}(h:jJ v u di n6 k S l ids ss bd R)(cq:1<=k)(ar:∀g∈S,lh g.2)
  (qJ:v.cell? ⟨fr,0,none⟩=some (.pointer (some ⟨di,0,none⟩))) (h1:cz hi) (h2:cz bm) (av:∀dp:aD,(dp=ak↔k<=(S.length:o)/\((e6 k.toNat S).getD (k.toNat-1) default).2<dy hi bm)->K dp u):Vz hi bm ⟨fr,0,none⟩ u K:=by
 obtain⟨ho,lf,t1,cV,t2,dc,ka,aT,fm,eZ⟩:=h.ex
 exact aAZ (aT.whole t1) cq ar (h.le.cell qJ) h1 h2 av
def le_none{a:H}(h:a.le u){g:N}(W:u g=none):a g=none:=by
 cases e:a g with
 |none=>rfl|some z=>have:=h g z e;rw[W] at this;cases this
def aF8{x:o}{K:U->H->Prop}(h:jJ v u di n6 k S l ids ss bd R)(ap:ids.length<10000000)
  (av:∀au u',jJ v u' di n6 k S l (ids++ [x]) au bd R->K au u'):
  c9 aH (dI 30 1 #[(0,.int .i64 x)]) [.one .slice] u λs1 aU=>c9 aH (ee #[30,30] 30 #[.slice ss.a ss.n ss.c,.slice s1.a s1.n s1.c]) [.one .slice] aU K:=by
 obtain⟨ho,lf,t1,cV,t2,dc,ka,aT,fm,eZ⟩:=h.ex
 have ae:=h.seen.ints.len
 refine nV o4 (Aw _) (by decide) rfl (by simp[cK]) h.seen (by omega) (by omega) λau u' ab h5 eL eA _=>av au u' ?_
 have fresh:∀g,au.al=some g->ho g=none/\lf g=none:=λg W=>by rcases eA g W with h1|h1;exact eZ ss (gr ..) g h1;exact⟨le_none t1 h1,le_none cV h1⟩
 have anj:∀{w:H},w.le u->(∀g,ss.al=some g->w g=none)->w.le u':=λhw W b z aa=>eL b z (hw b z aa) λe=>by rw[W b e] at aa;cases aa
 have arL:∀s∈bd::R.flatMap cn.jE,dO au s:=λs ag g W hh=>by rcases eA g W with h1|h1;exact h.eG s ag g h1 hh;exact h.known s (gh _ ag) g hh h1
 refine⟨⟨ho,lf,anj t1 λg W=>(eZ ss (gr ..) g W).1,anj cV λg W=>(eZ ss (gr ..) g W).2,t2,dc,ka,aT,fm,λs ag g W=>?_⟩,?_,h.rest.stay ab.le λs ag g z W bQ=>eL g z bQ λe=>h.eG s ag g e W,arL⟩
 rcases cP.1 ag with rfl|ag
 exact fresh g W
 exact eZ s (gh _ ag) g W
 rw[gZ]
 exact ab
def aok{w:H}{K:U->H->Prop}(h:jJ v u di n6 k S l ids ss bd R)(hw:u.le w)(O:yz u w r)(f1:dO r.ls r.ag)(f2:dO r.ls r.is)(f3:dO r.ag r.is)(ap:R.length<=10000000)
  (av:∀au u',jJ v u' di n6 k S l ids ss au (R++ [r])->gS w u' bd->(∀g,au.al=some g->bd.al=some g∨w g=none)->K au u'):
  c9 aH (dI 39 1 #[(0,.agg #[.int .i64 r.aI,.slice r.ls.a r.ls.n r.ls.c,.slice r.ag.a r.ag.n r.ag.c,.int .u64 (cZ r.cA),.int .u64 (c5 r.cA),.slice r.is.a r.is.n r.is.c])]) [.one .slice] w λs1 v1=>w.le v1/\c9 aH (ee #[39,39] 39 #[.slice bd.a bd.n bd.c,.slice s1.a s1.n s1.c]) [.one .slice] v1 K:=by
 obtain⟨ho,lf,t1,cV,t2,dc,ka,aT,fm,eZ⟩:=h.ex
 refine azI h.rest hw O f1 f2 f3 ap λau u' b4 eL eA=>av au u' ?_ eL eA
 have akL:∀s∈r.jE,∃xs,aK u w 3 1 s xs:=Gz O
 have fresh:∀s∈ss::au::(R++ [r]).flatMap cn.jE,∀g,s.al=some g->ho g=none/\lf g=none:=λs ag g W=>by rcases cP.1 ag with rfl|ag;exact eZ _ (gr ..) g W;rcases cP.1 ag with rfl|ag;rcases eA g W with h1|h1;exact eZ bd (by simp) g h1;exact⟨le_none (t1.trans hw) h1,le_none (cV.trans hw) h1⟩;rw[gZ] at ag;rcases cM.1 ag with ag|ag;exact eZ s (by simp only[cP];exact .inr (.inr ag)) g W;obtain⟨xs,J⟩:=akL s (by simpa using ag);exact⟨le_none t1 (J.fresh g W),le_none cV (J.fresh g W)⟩
 have agp:dO ss bd:=h.eG bd (gr ..)
 have bS:∀{Y:H},Y.le u->(∀g,bd.al=some g->Y g=none)->Y.le u':=λaC W b z aa=>eL b z (hw b z (aC b z aa)) λe=>by rw[W b e] at aa;cases aa
 refine⟨⟨ho,lf,bS t1 λg W=>(eZ bd (by simp) g W).1,bS cV λg W=>(eZ bd (by simp) g W).2,t2,dc,ka,aT,fm,fresh⟩,⟨h.seen.own.le λb z aa ab=>eL b z (hw b z ab) λe=>agp b aa e,b4.own.le,h.seen.fresh⟩,b4,λs ag=>?_⟩
 rcases cP.1 ag with rfl|ag
 intro g W hh
 rcases eA g hh with h1|h1
 exact agp g W h1
 have:=dL h.seen W
 exact this (le_none hw h1)
 rw[gZ] at ag
 rcases cM.1 ag with ag|ag
 exact h.eG s (gh _ ag)
 obtain⟨xs,J⟩:=akL s (by simpa using ag)
 exact aK.eG h.seen (H.le.refl u) J
def sV.slice(h:sV v u n l):∃s:U,u.cell? ⟨n,0,none⟩=some (.slice s.a s.n s.c)/\s.n=l.length/\∀x:o,0<=x->x<(s.n:o)->∃p m e,s.a=some p/\l[x.toNat]?=some e/\nu v m e.2/\
  u.cell? (p.add (x.toNat*3))=some (.pointer (some ⟨m,0,none⟩))/\u.cell? ((p.add (x.toNat*3)).add 1)=some (.int .u64 (cZ e.1))/\u.cell? ((p.add (x.toNat*3)).add 2)=some (.int .u64 (c5 e.1)):=by
 obtain⟨L,fm,c6,ef⟩:=h.ex
 obtain⟨s,ae,ab,_⟩:=fm.ex
 refine⟨s,a8 ae 0,by rw[ab.qs.len,<-c6,dj],λx bK dw=>?_⟩
 obtain⟨p,ad,y,ai,bM,c1,c2⟩:=ab.qs.at bK dw
 obtain⟨m,hm,SK⟩:=ef y (dB ai)
 refine⟨p,m,y.2,ad,by rw[<-c6,jq,ai];rfl,SK,?_,c1,c2⟩
 rw[hm] at bM
 exact bM
def jJ.slice(h:jJ v u di n6 k S l ids ss bd R):∃s:U,u.cell? ⟨n6,0,none⟩=some (.slice s.a s.n s.c)/\s.n=l.length/\∀x:o,0<=x->x<(s.n:o)->∃p m e,s.a=some p/\l[x.toNat]?=some e/\nu v m e.2/\
  u.cell? (p.add (x.toNat*3))=some (.pointer (some ⟨m,0,none⟩))/\u.cell? ((p.add (x.toNat*3)).add 1)=some (.int .u64 (cZ e.1))/\u.cell? ((p.add (x.toNat*3)).add 2)=some (.int .u64 (c5 e.1)):=by
 obtain⟨ho,lf,t1,cV,t2,dc,ka,aT,fm,eZ⟩:=h.ex
 obtain⟨s,h1,h2,h3⟩:=fm.slice
 refine⟨s,cV.cell h1,h2,λx bK dw=>?_⟩
 obtain⟨p,m,e,g1,g2,g3,g4,g5,g6⟩:=h3 x bK dw
 exact⟨p,m,e,g1,g2,g3,cV.cell g4,cV.cell g5,cV.cell g6⟩
def jJ.mono(h:jJ v u di n6 k S l ids ss bd R)(hu:u.le u'):jJ v u' di n6 k S l ids ss bd R:=by obtain⟨ho,lf,t1,cV,t2,dc,ka,aT,fm,eZ⟩:=h.ex;exact⟨⟨ho,lf,t1.trans hu,cV.trans hu,t2,dc,ka,aT,fm,eZ⟩,h.seen.mono hu,h.rest.mono hu,h.eG⟩
def pT(x:bJ×M j6):o×o×M o×M o×M o:=(x.1.aI,x.1.cA,x.1.bm,x.1.hi,dS (x.2.map (·.1)))
def Rh(h:r.core=pT (p,rows)):r.aI=p.aI/\r.cA=p.cA/\r.bm=p.bm/\r.hi=p.hi/\r.ids=dS (rows.map (·.1)):=by simp only[cn.core,pT,GP] at h;exact⟨h.1,h.2.1,h.2.2.1,h.2.2.2.1,h.2.2.2.2⟩
def ayw(h:r.core=pT (p,rows))(q:M o):mm r q=mm (p.hE []) q:=by obtain⟨h1,h2,h3,a7,_⟩:=Rh h;unfold mm bJ.hE;simp only[h1,h2,h3,a7]
def axe(h:r.core=pT (p,rows)){v:M o}(hi:mH (p.hE []) v):mH r v:=by obtain⟨h1,h2,h3,a7,_⟩:=Rh h;unfold mH bJ.hE at*;simp only[h1,h2,h3,a7] at*;exact hi
def azG{d:o}(h:r.core=pT (p,rows))(ad:nv (p.hE []) d)(ae:(rows.map (·.1)).Nodup)(cm:∀x∈rows,1<=x.1/\x.1<=1000000000):nv r d:=by obtain⟨h1,h2,h3,a7,bO⟩:=Rh h;refine⟨ad.aq,by rw[bO];exact D7 ae,λx J=>?_,?_⟩;rw[bO] at J;obtain⟨y,ai,rfl⟩:=bk.1 ((nW _).mem_iff.1 J);exact cm y ai;have:=ad.shape;unfold bJ.hE at this;simp only at this;rw[h1,h2,h3,a7];exact this
def ay7{L:M az}:∀{S:M j6},(∀x∈S,x∈L.map az.bL)->∃m:M az,m.map az.bL=S/\∀r∈m,r∈L:=by
 intro S;induction S with
 |nil=>intro _;exact⟨[],rfl,λr O=>by cases O⟩
 |cons x S aM=>intro h;obtain⟨m,h1,h2⟩:=aM λy ai=>h y (gh _ ai);obtain⟨r,O,e⟩:=bk.1 (h x (gr ..));exact⟨r::m,by rw[gR,h1,e],λy ai=>by rcases cP.1 ai with rfl|ai;exact O;exact h2 y ai⟩
def abf(s:mK):(oz s).flatMap (·.2)=s.rest.flatMap (·.2)++s.heap.flatMap λx=>x.2.all:=by
 unfold oz;rw[gZ];congr 1;generalize s.heap=l;induction l with
 |nil=>rfl|cons x l aM=>
  rw[gR,DV,gI];cases e:x.2.all with
  |nil=>simpa[e] using aM|cons y e9=>simp only[List.isEmpty_cons,Bool.not_false,qX,gI,aM]
def abg{P:M j6}(h:sZ q b P s):∀x∈oz s,gx q.length x.1/\x.2≠[]/\(∀y∈x.2,y∈x.1.all):=by intro x J;unfold oz at J;rcases cM.1 J with h1|h1;exact h.left x h1;obtain⟨h2,h3⟩:=iX.1 h1;obtain⟨y,ai,rfl⟩:=bk.1 h2;refine⟨(h.tw y ai).2,λe=>?_,λY aC=>aC⟩;simp only at e;rw[e] at h3;cases h3
def D9{α β:Type}{f:α->M β}{x:α}:∀{l:M α},x∈l->List.Sublist (f x) (l.flatMap f):=by
 intro l;induction l with
 |nil=>intro h;cases h
 |cons y l aM=>intro h;rw[gI];rcases cP.1 h with rfl|h;exact acx _ _;exact(aM h).trans (List.sublist_append_right _ _)
def ad3{c7:M bJ}{L:M az}{rs:M cn}(aa:0<=b)(hk:1<=k)(avW:∀p∈c7,gx q.length p)(aL:jt L q)(c6:(L.map az.bL).Perm (bJ.jY c7))(O:rs.map cn.core=(oz (o6 q k b c7)).map pT):
  Sound L q k (yn q k (o6 q k b c7)) (dS ((o6 q k b c7).seen.map (·.1))) rs/\((dS ((o6 q k b c7).seen.map (·.1))).length:o)<=b/\
   (((dS ((o6 q k b c7).seen.map (·.1))).length:o)=b∨(dS ((o6 q k b c7).seen.map (·.1))).length=L.length∨qw q k (yn q k (o6 q k b c7)) rs):=by
 obtain⟨hw,pZ⟩:=aF5 (k:=k) aa avW
 generalize o6 q k b c7=s at*
 have lm:=hw.perm
 rw[<-abf] at lm
 have ef:=lm.trans c6.symm
 have auI:(L.map az.bL).map (·.1)=L.map (·.id):=by rw[eh];rfl
 have kv:(s.seen.map (·.1)++((oz s).flatMap (·.2)).map (·.1)).Perm (L.map (·.id)):=by rw[<-auI,<-er];exact ef.map _
 have b3:=kv.nodup_iff.2 aL.rows.nodup
 have xC:=(fZ.1 b3).1
 have Nn:=(fZ.1 b3).2.1
 have Fa:∀r∈rs,∃x∈oz s,r.core=pT x:=λr fp=>by
  have:r.core∈(oz s).map pT:=by rw[<-O];exact ie fp
  obtain⟨x,J,e⟩:=bk.1 this;exact⟨x,J,e.symm⟩
 have aiH:∀x∈oz s,∀y∈x.2,y∈L.map az.bL:=λx J y ai=>ef.mem_iff.1 (lC _ (ep.2 ⟨x,J,ai⟩))
 have ajc:∀r∈rs,∃x∈oz s,r.core=pT x/\nv r q.length:=λr fp=>by obtain⟨x,J,e⟩:=Fa r fp;obtain⟨h1,h2,h3⟩:=abg hw x J;refine⟨x,J,e,azG (p:=x.1) (rows:=x.2) e h1.jD ?_ λy ai=>?_⟩;exact Nn.sublist ((D9 J).map _);obtain⟨w,j2,s9⟩:=bk.1 (aiH x J y ai);rw[<-s9];exact aL.rows.id w j2
 have IA:(rs.flatMap (·.ids)).Perm (((oz s).flatMap (·.2)).map (·.1)):=by
  have aQ:rs.flatMap (·.ids)=(rs.map cn.core).flatMap λY=>Y.2.2.2.2:=by rw[BZ];rfl
  rw[aQ,O,BZ];generalize oz s=l;induction l with
  |nil=>exact .refl _|cons x l aM=>rw[gI,gI,er];exact(nW _).append aM
 have hlen:(dS (s.seen.map (·.1))).length=s.seen.length:=by rw[z6,dj]
 obtain⟨ms,FD,vT⟩:=ay7 (L:=L) (S:=s.seen) λx J=>ef.mem_iff.1 (iA _ J)
 have p5:yn q k s=e6 k.toNat (ms.map (hM q)):=by unfold yn;rw[<-FD,eh];rfl
 refine⟨⟨D7 xC,λr fp=>?_,?_,λm hm FF=>?_⟩,by rw[hlen];exact hw.vH,?_⟩
 obtain⟨x,J,e,I2⟩:=ajc r fp
 obtain⟨h1,h2,h3⟩:=abg hw x J
 obtain⟨_,_,_,_,gA⟩:=Rh (p:=x.1) (rows:=x.2) e
 refine⟨I2,λae=>?_,λy ai=>?_⟩
 rw[gA] at ae
 have:=eB iC ae
 rw[z6,dj,oB] at this
 exact h2 (kS this)
 rw[gA] at ai
 obtain⟨Y,aC,rfl⟩:=bk.1 ((nW _).mem_iff.1 ai)
 obtain⟨w,j2,s9⟩:=bk.1 (aiH x J Y aC)
 refine⟨w,j2,by rw[<-s9];rfl,axe (p:=x.1) (rows:=x.2) e ?_⟩
 have:=h1.ins Y (h3 Y aC)
 rw[<-s9] at this
 exact this
 exact((nW _).append IA).trans kv
 rw[p5]
 have ad:m.Perm ms:=by refine alN aL.rows.nodup hm vT ?_;rw[FF];refine(nW _).trans (acp ?_);rw[<-FD,eh];rfl
 exact Ce (ad.symm.map _)
 rw[hlen]
 have uv:=hw.vH
 by_cases xo:s.rest=[]
 by_cases kK:b<=(s.seen.length:o)
 left;omega
 by_cases b5:s.heap=[]
 right;left
 have h1:=kv.length_eq
 rw[abf,xo,b5] at h1
 simpa using h1
 right;right
 have xr:LW q k s (s.heap.getD 0 default).1:=by by_cases ac:LW q k s (s.heap.getD 0 default).1;exact ac;exact aV ⟨b5,by omega,ac⟩ pZ
 obtain⟨f1,f2⟩:=xr
 right
 refine⟨?_,λr fp=>?_⟩
 unfold yn
 rw[Ab,dj]
 omega
 obtain⟨x,J,e,_⟩:=ajc r fp
 rw[ayw (p:=x.1) (rows:=x.2) e]
 unfold oz at J
 rw[xo,nQ] at J
 obtain⟨y,ai,rfl⟩:=bk.1 (iX.1 J).1
 obtain⟨i,hi,rfl⟩:=oG ai
 have k2:=hw.ad.root EG i hi
 rw[dm,cy hi] at k2
 have fO:(s.heap.getD 0 default).1<=s.heap[i].1:=by have:¬s.heap[i].1<(s.heap.getD 0 default).1:=GY k2;omega
 have:=(hw.tw _ ai).1
 rw[show(k-1).toNat=k.toNat-1 by omega]
 show _<mm (s.heap[i].2.hE []) q
 omega
 left
 exact hw.cut xo
def afh:hf aH 265=ak:=by kernel_rfl
def apU:hf aH 266=ak:=by kernel_rfl
def Tn(P:M bJ):P.length<=bJ.hF P:=by
 induction P with
 |nil=>exact cC _|cons p P aM=>simp only[bJ.hF,hX];have:=bJ.size_eq p;omega
def JK{s:U}{c7:M N}(h:bz u s 1 (c7.map λn=>.pointer (some ⟨n,0,none⟩))){i:N}(hi:i<c7.length):∃a,s.a=some a/\u.cell? (a.add (i*1))=some (.pointer (some ⟨c7[i],0,none⟩)):=by
 obtain⟨a,ay,I⟩:=bz.elem (enc:=λn:N=>[hn (some ⟨n,0,none⟩)]) (k:=1) (λ_=>rfl) (by decide) (xs:=c7) (by
  have e:c7.flatMap (λn:N=>[hn (some ⟨n,0,none⟩)])=c7.map λn=>hn (some ⟨n,0,none⟩):=by
   generalize c7=Y;induction Y with
   |nil=>rfl|cons y Y aM=>rw[gI,gR,aM];rfl
  rw[e];exact h) (cy hi)
 exact⟨a,ay,I 0 _ rfl⟩
def aB3(q:M o)(P:M bJ):bJ.hF ((UT q P).heap.map (·.2))<=bJ.hF P:=by
 have h0:iR blt ([]:M lR).length []:=λi _ hi=>by simp at hi
 obtain⟨h1,h2⟩:=foldl_add (q:=q) P [] h0;rw[nQ] at h2;show bJ.hF ((P.foldl (pP q) []).map (·.2))<=_;rw[UE (h2.map _),eh];exact Kd (eB _ (DU _))
def axM(h:¬yV q k b s):∀f,uV q k b f s=s:=by
 intro f;cases f with
 |zero=>rfl|succ f=>unfold uV;rw[aG h]
def axL(h:yV q k b s)(f:N):uV q k b (f+1) s=uV q k b f (ql q b s):=by
 conv=>lhs;unfold uV
 rw[a1 h]
structure At(v w:H)(di n6:N)(k b:o)(q:M o)(P:M bJ)(f:N)(aI ss bd:U):Prop where
 e0:aI=⟨none,0,0⟩
 ex:∃(st:mK) (S:M bP) (R:M cn),jJ v w di n6 k S st.heap (st.seen.map (·.1)) ss bd R/\S.Perm (st.seen.map (Db q))/\sZ q b (bJ.jY P) st/\R.map cn.core=st.rest.map pT/\uV q k b f st=o6 q k b P/\bJ.hF (st.heap.map (·.2))<=f/\f<=bJ.hF P
def jJ.start(aT:iZ v di k u [])(ae:u n6=none):jJ v (u.ins n6 (.cells #[.slice none 0 0] 331 (0,0))) di n6 k [] [] [] ⟨none,0,0⟩ ⟨none,0,0⟩ []:=by have aB:=aT.le;have N6:v n6=none:=le_none aB ae;have hle:=bZ (u:=u) (b:=n6) (.cells #[.slice none 0 0] 331 (0,0)) ae;have xx:=bZ (u:=v) (b:=n6) (.cells #[.slice none 0 0] 331 (0,0)) N6;refine⟨⟨u,v.ins n6 (.cells #[.slice none 0 0] 331 (0,0)),hle,λc z I=>?_,aB,xx,λc h1 h2=>?_,aT,⟨[],⟨⟨⟨none,0,0⟩,bi _ _ _,aK.nil xx _ _,by simp[U.al]⟩,N6,by simp⟩,rfl,λe he=>(by cases he)⟩,λs ag g W=>?_⟩,aK.nil (aB.trans hle) _ _,tU.nil (aB.trans hle),λs ag=>?_⟩;by_cases e:c=n6;subst e;rw[bi] at I ⊢;exact I;rw[bq _ _ e] at I ⊢;exact aB c z I;by_cases e:c=n6;subst e;exact aV ae h1;rw[bq _ _ e] at h2;exact h2;simp at ag;subst ag;simp[U.al] at W;intro g W;simp[U.al] at W
def arX{α:Type}{L:M (α×M j6)}(h:∀x∈L,x.2≠[]):L.length<=(L.flatMap (·.2)).length:=by
 induction L with
 |nil=>exact cC _|cons x L aM=>have h1:=aM λy ai=>h y (gh _ ai);have h2:0<x.2.length:=vc.2 (h x (gr ..));rw[gI,eD,hX];omega
def axI(h:sZ q b Q s):(oz s).length<=Q.length:=by have h1:=arX λx J=>(abg h x J).2.1;have h2:=h.perm.length_eq;rw[<-abf,eD] at h2;omega
def xR(s:mK)(x:N):M (bJ×M j6):=s.rest++((s.heap.take x).map λy=>(y.2,y.2.all)).filter λy=>!y.2.isEmpty
def axG(h:sZ q b Q s)(x:N):(xR s x).length<=Q.length:=by refine jo (List.Sublist.length_le ?_) (axI h);unfold xR oz;exact(acy _).append (((r3 x s.heap).map _).filter _)
def axF(s:mK){x:N}(h:s.heap.length<=x):xR s x=oz s:=by unfold xR oz;rw[gY h]
def axH{x:N}(h:s.heap[x]?=some e):xR s (x+1)=xR s x++(if e.2.all=[] then[] else[(e.2,e.2.all)]):=by unfold xR;rw[gJ,h,Option.toList,er,zS,mq];congr 2;cases aF:e.2.all<;>simp[aF]
def ahW(h:sZ q b Q s)(he:e∈s.heap):e.2.all.length<=Q.length:=by have h1:=(D9 (f:=λx:lR=>x.2.all) he).length_le;have h2:=h.perm.length_eq;rw[eD,eD] at h2;omega
def auk(he:e∈l):e.2.size<=bJ.hF (l.map (·.2)):=by
 induction l with
 |nil=>cases he
 |cons x l aM=>simp only[gR,bJ.hF];rcases cP.1 he with rfl|he;omega;have:=aM he;omega
def alE{d:o}(h:nv (p.hE []) d):p.bm.length<=64/\p.hi.length<=64:=by have ar:=h.aq;rcases h.shape with⟨_,h1,h2,_⟩|⟨_,_,h1,h2,_⟩|⟨_,h1,h2,_⟩;have rv:p.bm=[]:=h1;have vI:p.hi=[]:=h2;rw[rv,vI];simp;exact⟨h1.1,h2.1⟩;have rv:p.hi=[]:=h1;rw[rv];exact⟨h2.1,by simp⟩
def aF7{Y aU cQ:H}{ajZ:M o}{aI:U}{H1:M bP}(xS:u.le v)(hq:jJ v Y di n6 k S l ids ss bd R)
  (h1:aK v aU 3 1 ss (ajZ.flatMap encI)) (he:gS Y aU ss) (h2:aK aU cQ 68 3 aI (H1.flatMap fX)):jW u cQ aI ss bd H1 ajZ R:=by
 have X6:tU v aU bd R:=hq.rest.stay h1.le λs ag g z W ab=>he g z ab λe=>hq.eG s ag g e W
 have lW:=X6.mono h2.le
 have v8:=h1.mono h2.le
 refine⟨h2.weaken (xS.trans h1.le),v8.weaken xS,lW.own.weaken xS,λr O=>⟨(lW.each r O).l.weaken xS,(lW.each r O).h.weaken xS,(lW.each r O).i.weaken xS⟩,?_⟩
 have kn:∀s∈ss::bd::R.flatMap cn.jE,∀g,s.al=some g->aU g≠none:=by intro s ag g W;rcases cP.1 ag with rfl|ag;exact dL h1 W;rcases cP.1 ag with rfl|ag;exact dL X6.own W;obtain⟨y,ai,F0⟩:=ep.1 ag;obtain⟨xs,J⟩:=Gz (X6.each y ai) s F0;exact dL J W
 unfold rj
 refine k9.2 ⟨λs ag g W hh=>kn s ag g hh (h2.fresh g W),k9.2 ⟨λs ag=>hq.eG s ag,lW.eG⟩⟩
def apy{P:M bJ}{st:mK}{f:N}(rA:yV q k b st)(bH:sZ q b (bJ.jY P) st)(ap:uV q k b f st=o6 q k b P)(ag:bJ.hF (st.heap.map (·.2))<=f):
  ∃AG,f=AG+1/\uV q k b AG (ql q b st)=o6 q k b P/\bJ.hF ((ql q b st).heap.map (·.2))<=AG/\sZ q b (bJ.jY P) (ql q b st):=by
 have h1:=anm bH rA
 cases f with
 |zero=>omega
 |succ f=>exact⟨f,rfl,by rw[<-axL rA];exact ap,by omega,ank bH rA⟩
def ac8{s0 t:U}{ms:M N}{P:M bJ}{K:U->U->U->H->Prop}(ag:bz u s0 1 (ms.map λn=>.pointer (some ⟨n,0,none⟩)))(hlen:ms.length=P.length)
  (ad:∀(i:N) m p,ms[i]?=some m->P[i]?=some p->nu u m p) (bH:∀p∈P,gx q.length p) (ht:Ints u t q) (aL:c8 q) (cq:1<=k) (cH:k<=64) (fA:0<=b) (ga:b<=1000000) (c0:bJ.hF P<=4000000) (xl:(bJ.jY P).length<=100000)
  (kf:∀x∈bJ.jY P,(x.2.length:o)=q.length/\c8 x.2)
  (av:∀aI ss bd R u',jW u u' aI ss bd (yn q k (o6 q k b P)) (dS ((o6 q k b P).seen.map (·.1))) R->R.map cn.core=(oz (o6 q k b P)).map pT->K aI ss bd u'):Eo s0 t k b u K:=by
 apply aDs
 intro n0 e1
 refine PM (λJ=>aV J (by omega)) λ_ _ di j5 qQ eP j9=>?_
 intro fr qJ
 refine⟨_,_,bi _ _ _,rfl,by simp,by simp[cK],?_⟩
 intro n6 qK
 rw[S8] at qK ⊢
 obtain⟨OD,ai3⟩:∃OD,OD=(bj (wr #[hn none] 0 [hn (some ⟨di,0,none⟩)]) 90 (0,0)):=⟨_,rfl⟩
 rw[<-ai3] at qK ⊢
 obtain⟨fi,jM⟩:∃fi,fi=(bj #[ea t.a t.n t.c] 30 (0,0)):=⟨_,rfl⟩
 rw[<-jM] at j9 qQ eP
 have aT:=j9.nf qJ OD
 have ajy:(u.ins n0 fi) fr=none:=le_none qQ qJ
 obtain⟨v,aB⟩:∃v,v=(u.ins n0 fi).ins fr OD:=⟨_,rfl⟩
 rw[<-aB] at aT
 have xS:u.le v:=by rw[aB];exact(bZ _ e1).trans (bZ _ ajy)
 have WU:v.cell? ⟨n0,0,none⟩=some (.slice t.a t.n t.c):=by
  have h1:(u.ins n0 fi) n0=some fi:=bi _ _ _;have h2:v n0=some fi:=by rw[aB];exact bZ _ ajy _ _ h1
  rw[jM] at h2;exact a8 h2 0
 have Ax:v.cell? ⟨fr,0,none⟩=some (.pointer (some ⟨di,0,none⟩)):=by
  have h2:v fr=some OD:=by rw[aB];exact bi _ _ _
  rw[ai3] at h2;exact a8 h2 0
 have apl:=jJ.start aT qK
 have aaf:=ht.mono xS
 have NC:∀(i:N) m p,ms[i]?=some m->P[i]?=some p->nu v m p:=λi m p h1 h2=>(ad i m p h1 h2).mono xS
 have dM:s0.n=ms.length:=by have:=ag.len;simpa using this.symm
 have gf:=jo (bz.cap ag) (bz.max ag)
 refine⟨λx w=>0<=x/\x<=s0.n/\jJ v w di n6 k [] ((P.take x.toNat).foldl (pP q) []) [] ⟨none,0,0⟩ ⟨none,0,0⟩ [],λx _=>((s0.n:o)-x).toNat,⟨by omega,by omega,apl⟩,λx w cx=>⟨λJ=>?_,λJ=>?_⟩⟩
 obtain⟨bK,dw,bD⟩:=cx
 have fh:x.toNat<ms.length:=by omega
 obtain⟨a,ay,I⟩:=JK (ag.mono (xS.trans bD.le)) fh
 have eI:P[x.toNat]?=some P[x.toNat]:=cy (by omega)
 have tp:=bH _ (kD (show x.toNat<P.length by omega))
 have FA:((P.take x.toNat).foldl (pP q) []).length<10000000:=by
  have RE:iR blt ([]:M lR).length []:=λi _ hi=>by simp at hi
  have h1:=(foldl_add (q:=q) (P.take x.toNat) [] RE).2.length_eq;rw[nQ,dj,gq] at h1;have h2:=Tn P;omega
 refine⟨a,ay,⟨bK,J⟩,_,I,.inl ⟨_,_,_,rfl,hd afh,am5 bD FA (NC _ _ _ (cy fh) eI) tp.jD aL WU aaf λu' hq=>⟨⟨by omega,by omega⟩,⟨by omega,by omega,?_⟩,by dsimp only;omega⟩⟩⟩
 rw[show(x+1).toNat=x.toNat+1 by omega,gJ,eI,acz]
 exact hq
 .obtain⟨bK,dw,bD⟩:=cx;rw[gY (by omega)] at bD;intro ao0 agL;refine⟨λzY tL vf w=>∃f,At v w di n6 k b q P f zY tL vf,λzY tL vf w=>least λf=>At v w di n6 k b q P f zY tL vf,⟨bJ.hF P,rfl,UT q P,[],[],bD,.refl _,ani fA bH,rfl,rfl,aB3 q P,cC _⟩,λzY tL vf w cx=>?_⟩;have ac:=Gl cx;generalize MJ:(least λf=>At v w di n6 k b q P f zY tL vf)=f at ac;obtain⟨asz,st,S,R,hq,bg,uP,b4,aiz,qN,mR⟩:=ac;obtain rfl:zY=⟨none,0,0⟩:=asz;intro aGA asA;obtain⟨B7,aQ,aF,cW⟩:=hq.slice;have NN:tL.n=st.seen.length:=by have h:=hq.seen.ints.len;rw[dj] at h;exact h
  have aG0:st.heap.length<=4000000:=by have h:=Tn (st.heap.map (·.2));rw[dj] at h;omega
  have avg:∀x∈st.seen,x∈bJ.jY P:=λx J=>uP.perm.mem_iff.1 (iA _ J);have Sa:∀g∈S,lh g.2:=λg W=>by obtain⟨x,J,rfl⟩:=bk.1 (bg.mem_iff.1 W);obtain⟨g1,g2⟩:=kf x (avg x J);exact Hg g2 aL (by omega)
  have p5:yn q k st=e6 k.toNat S:=Ce bg.symm;have Iq:R.length=st.rest.length:=by have:=eB iC b4;simpa using this
  have fin:¬yV q k b st->ao0 ⟨none,0,0⟩ tL vf w:=λaiW=>by
   have dY:o6 q k b P=st:=by rw[<-aiz,axM aiW]
   obtain⟨ho,lf,t1,cV,t2,dc,ka,atw,fm,eZ⟩:=hq.ex;obtain⟨B7,aQ,aF,cW⟩:=fm.slice;refine agL ⟨none,0,0⟩ tL vf w ⟨B7,cV.cell aQ,λx lN nR hr Y=>0<=x/\x<=B7.n/\lN=⟨none,0,0⟩/\nR=tL/\ho.le Y/\lf.le Y/\(∀g,hr.al=some g->ho g=none/\lf g=none)/\∃CA,jJ v Y di n6 k S st.heap (st.seen.map (·.1)) tL hr CA/\CA.map cn.core=(xR st x.toNat).map pT,λx _ _ _ _=>((B7.n:o)-x).toNat,
    ⟨by omega,by omega,rfl,rfl,t1,cV,λg W=>eZ vf (by simp) g W,R,hq,by rw[b4];simp[xR]⟩,?_⟩
   rintro x lN nR hr Y ⟨bK,dw,aso,XK,U5,Ki,aC,CA,yZ,Ip⟩;obtain rfl:lN=⟨none,0,0⟩:=aso;obtain rfl:nR=tL:=XK;have aGV:CA.length=(xR st x.toNat).length:=by have:=eB iC Ip;simpa using this
   have uv:=axG uP x.toNat;refine⟨λJ=>?_,λJ=>?_⟩
   .obtain⟨p,m,e,g1,g2,g3,g4,g5,g6⟩:=cW x bK J;have ku:e∈st.heap:=dB g2;have atU:=ahW uP ku;obtain⟨aga,HZ⟩:=uP.tw e ku;have SS:=axH g2;refine⟨p,g1,⟨bK,J⟩,_,Ki.cell g4,_,Ki.cell g5,_,Ki.cell g6,aAW g3 yZ.le (by omega) λaz2 L u32 xW c6 cx=>⟨λoT=>?_,λeg=>?_⟩⟩
    .have sn:=gU fM (by decide) xW.own.cI;have xk:L.length=e.2.all.length:=by rw[<-c6,dj]
     have an:e.2.all≠[]:=λh0=>by rw[h0] at xk;simp at xk;rw[xk] at sn;simp at sn;omega
     rw[aG an] at SS;cases g3 with
     |mk ls gy is rs ks rows c7 cell Bv bm hi at' bL kids len each=>
     have bA:v.le u32:=yZ.le.trans xW.le;have I:=bA _ _ cell;obtain⟨abh,MP⟩:=alE HZ.jD;have k3:eF u32 az2 L:=⟨xW.own.cI,λr O=>(cx r O).mono bA⟩;have kv:dS (L.map (·.id))=dS (e.2.all.map (·.1)):=by rw[<-c6,eh];rfl
     refine⟨_,rfl,_,a8 I 0,ls,a8 I 1,gy,a8 I 2,_,a8 I 3,_,a8 I 4,is,a8 I 5,
      amu (bm.mono bA) (hi.mono bA) k3 abh MP (by omega) λa Av c mC tx ty zE f1 f2 f3=>⟨tx.le,?_⟩⟩
     have E4:=yZ.mono xW.le;have:=aok (r:=⟨e.2.aI,a,Av,e.2.cA,c,e.2.bm,e.2.hi,dS (L.map (·.id))⟩) E4 tx.le ⟨tx,ty,zE⟩ f1 f2 f3 (by omega)
      (K:=λ(acP:U) (U7:H)=>bh (x+1)/\(0<=x+1/\x+1<=(B7.n:o)/\(⟨none,0,0⟩:U)=⟨none,0,0⟩/\nR=nR/\ho.le U7/\lf.le U7/\(∀g,acP.al=some g->ho g=none/\lf g=none)/\∃CA,jJ v U7 di n6 k S st.heap (st.seen.map (·.1)) nR acP CA/\CA.map cn.core=(xR st (x+1).toNat).map pT)/\((B7.n:o)-(x+1)).toNat<((B7.n:o)-x).toNat)
      λacP U7 E5 eL eA=>⟨⟨by omega,by omega⟩,⟨by omega,by omega,rfl,rfl,λg z W=>eL g z (tx.le _ _ (xW.le _ _ (U5 g z W))) λeK=>(by rw[(aC g eK).1] at W;cases W),λg z W=>eL g z (tx.le _ _ (xW.le _ _ (Ki g z W))) λeK=>(by rw[(aC g eK).2] at W;cases W),λg W=>?_,_,E5,?_⟩,by omega⟩
     exact c9.PD this λs1 v1 h=>⟨tx.le.trans h.1,h.2⟩;rcases eA g W with h1|h1;exact aC g h1;have h2:=le_none (xW.le.trans tx.le) h1;exact⟨le_none U5 h2,le_none Ki h2⟩;rw[show(x+1).toNat=x.toNat+1 by omega,SS,er,er,Ip];simp only[gR,BT,cn.core,pT,kv]
    have sn:=gU fM (by decide) xW.own.cI;have xk:L.length=e.2.all.length:=by rw[<-c6,dj]
    have A5:e.2.all=[]:=kS (by omega);rw[a1 A5,lB] at SS;exact⟨⟨by omega,by omega⟩,⟨by omega,by omega,rfl,rfl,U5.trans xW.le,Ki.trans xW.le,aC,CA,yZ.mono xW.le,by rw[show(x+1).toNat=x.toNat+1 by omega,SS];exact Ip⟩,by dsimp only;omega⟩
   have sq:=uP.vH;rw[axF st (by omega)] at Ip;refine He yZ.seen (by rw[dj];omega) λaCO ai2 ahT=>⟨_,ai2.le.cell Ax,?_⟩;have aCl:ho.le aCO:=λg z W=>ahT g z (U5 g z W) λeK=>by rw[(eZ nR (by simp) g eK).1] at W;cases W
   refine Kz (atw.whole aCl) λaIe aIr ayJ=>?_;have aht:=aF7 xS yZ ai2 ahT ayJ;rw[<-p5,<-dY] at aht;rw[<-dY] at Ip;exact av _ _ _ _ _ aht Ip
  have uj:S.length=st.seen.length:=by have:=bg.length_eq;rwa[dj] at this
  refine⟨B7,aQ,an2 _ _ _ ⟨λhlen=>⟨λaa=>?_,λaa=>fin λW=>by have:=W.2.1;omega⟩,λhlen=>fin λW=>?_⟩⟩
  .obtain⟨p,m,e,g1,g2,g3,g4,g5,g6⟩:=cW 0 (by omega) (by omega);have LI:st.heap.getD 0 default=e:=by rw[dm];rw[show(0:o).toNat=0 from rfl] at g2;rw[g2];rfl
   have ku:e∈st.heap:=dB g2;obtain⟨aga,HZ⟩:=uP.tw e ku;have YE:lh e.1:=by rw[aga];exact akJ HZ.jD aL
   refine⟨B7,aQ,p,g1,⟨by omega,by omega⟩,_,g5,_,by rw[Addr.w5];exact g6,.inl ⟨_,_,_,rfl,hd apU,aBP hq cq Sa Ax (Fs YE) (rQ _) λdp qG=>?_⟩⟩;rw[mD,uj] at qG;have xr:dp=ak↔LW q k st (st.heap.getD 0 default).1:=by rw[qG,LI];unfold LW;rw[p5]
   refine⟨λb3=>asA _ ?_,λar=>fin λW=>W.2.2 (xr.1 ar)⟩;have rA:yV q k b st:=⟨λeK=>(by rw[eK] at ku;cases ku),by omega,λac=>b3 (xr.2 ac)⟩;clear fin agL xr;obtain⟨AG,aGZ,aiA,ajk,ajI⟩:=apy rA uP aiz qN;have aie:0<st.heap.length:=vc.2 rA.1;have av9:st.rest=[]:=by by_cases eK:st.rest=[];exact eK;have:=uP.cut eK;omega
   have aiG:∀{Kq gv lb:U} {Y:H},At v Y di n6 k b q P AG Kq gv lb->least (λf=>At v Y di n6 k b q P f Kq gv lb)<least λf=>At v w di n6 k b q P f ⟨none,0,0⟩ tL vf:=λ{Kq gv lb Y} h=>by rw[MJ];exact Nat.lt_of_le_of_lt (least_le h) (by omega)
   refine aBQ hq uP.ad aie λu64 m1 jZ SK=>al5 ?_;rw[LI] at SK ⊢;have ef:=ahW uP ku;rw[bJ.all_eq,eD] at ef;obtain⟨gX,dv,mo,_⟩:=OP EG uP.ad aie;have NV:=auk ku;have awr:=Tn (st.heap.map (·.2));rw[dj] at awr;rw[bJ.size_eq] at NV;have ju:=Tn e.2.kids;have lm:=gX.length_eq;rw[hX] at lm;cases SK with
   |mk ls gy is rs ks rows c7 cell Bv bm hi at' bL kids len each=>
   have j0:ks.n=c7.length:=by have:=kids.len;simpa using this.symm
   have k1:e.2.rows.length=rows.length:=by rw[<-bL,dj]
   have I3:=at'.len;refine⟨_,rfl,ks,a8 (jZ.le _ _ cell) 7,λx Y=>0<=x/\x<=ks.n/\jJ v Y di n6 k S ((e.2.kids.take x.toNat).foldl (pP q) (kg blt st.heap)) (st.seen.map (·.1)) tL vf R,λx _=>((ks.n:o)-x).toNat,⟨by omega,by omega,by simpa using jZ⟩,?_⟩;rintro x Y ⟨bK,dw,E7⟩;refine⟨λJ=>?_,λJ=>?_⟩;have fh:x.toNat<c7.length:=by omega
   obtain⟨a,ay,I⟩:=JK (kids.mono E7.le) fh;have eI:e.2.kids[x.toNat]?=some e.2.kids[x.toNat]:=cy (by omega);have tp:=HZ.kids _ (kD (show x.toNat<e.2.kids.length by omega));have FA:((e.2.kids.take x.toNat).foldl (pP q) (kg blt st.heap)).length<10000000:=by have h1:=(foldl_add (q:=q) (e.2.kids.take x.toNat) _ dv).2.length_eq;rw[eD,dj,gq] at h1;omega
   refine⟨a,ay,⟨bK,J⟩,_,I,.inl ⟨_,_,_,rfl,hd afh,am5 E7 FA (each _ _ _ (cy fh) eI) tp.jD aL WU aaf λu' hq=>⟨⟨by omega,by omega⟩,⟨by omega,by omega,?_⟩,by dsimp only;omega⟩⟩⟩;rw[show(x+1).toNat=x.toNat+1 by omega,gJ,eI,acz];exact hq;rw[gY (by omega)] at E7;have awq:(ql q b st).heap=e.2.kids.foldl (pP q) (kg blt st.heap):=by unfold ql;rw[LI]
   have I5:(ql q b st).seen=st.seen++e.2.rows.take (b-st.seen.length).toNat:=by unfold ql;rw[LI]
   have SR:(ql q b st).rest=if(e.2.rows.length:o)<=b-st.seen.length then st.rest else st.rest++ [(e.2,e.2.rows.drop (b-st.seen.length).toNat)]:=by unfold ql;rw[LI]
   rw[<-awq] at E7;refine⟨_,rfl,rs,a8 (E7.le _ _ cell) 6,λx q6 G7 Pq Y=>0<=x/\x<=rs.n/\q6=⟨none,0,0⟩/\Pq=vf/\st.seen.length+x<=b/\∃HJ,jJ v Y di n6 k HJ (ql q b st).heap ((st.seen++e.2.rows.take x.toNat).map (·.1)) G7 vf R/\HJ.Perm ((st.seen++e.2.rows.take x.toNat).map (Db q)),
    λx _ _ _ _=>((rs.n:o)-x).toNat,⟨by omega,by omega,rfl,rfl,by have:=uP.vH;omega,S,by simpa using E7,by simpa using bg⟩,?_⟩
   clear bK dw J E7 x Y;rintro x q6 G7 Pq Y ⟨bK,dw,asF,asH,aII,HJ,uk,C4⟩;obtain rfl:q6=⟨none,0,0⟩:=asF;obtain rfl:Pq=vf:=asH;have aHq:G7.n=st.seen.length+min x.toNat e.2.rows.length:=by have h:=uk.seen.ints.len;rw[dj,eD,gq] at h;exact h
   refine⟨λJ=>?_,λJ=>?_⟩;obtain⟨pp,ke,r,O,bM,c1,c2⟩:=(at'.mono uk.le).at bK J;have FU:e.2.rows[x.toNat]?=some r.bL:=by rw[<-bL,jq,O];rfl
   have av7:r.bL∈bJ.jY P:=uP.perm.mem_iff.1 (lC _ (lC _ (ep.2 ⟨e,ku,by rw[bJ.all_eq];exact iA _ (dB FU)⟩)));obtain⟨azX,azY⟩:=kf _ av7;have aH8:(r.v.length:o)=q.length:=azX;have azZ:c8 r.v:=azY;refine⟨pp,ke,⟨bK,J⟩,_,bM,_,c1,λatQ=>?_,λatQ=>?_⟩;have I:=uk.le _ _ cell;obtain⟨abh,MP⟩:=alE HZ.jD;have Iu:(b-st.seen.length).toNat=x.toNat:=by omega
   have xo:¬(e.2.rows.length:o)<=b-st.seen.length:=by omega
   rw[aG xo,Iu] at SR;rw[Iu] at I5;have I0:=(at'.mono uk.le).part (l:=x.toNat) (h:=rs.n) (m:=rs.c) (by omega) (cC _) at'.1.cap (cC _);have uM:(rows.drop x.toNat).take (rs.n-x.toNat)=rows.drop x.toNat:=gY (by rw[mv];omega);rw[uM] at I0;have kv:dS ((rows.drop x.toNat).map (·.id))=dS ((e.2.rows.drop x.toNat).map (·.1)):=by rw[<-bL,<-DS,eh];rfl
   refine⟨_,rfl,_,rfl,_,a8 I 0,ls,a8 I 1,gy,a8 I 2,_,a8 I 3,_,a8 I 4,is,a8 I 5,rs,a8 I 6,
    o3 kk (l:=x.toNat) (h:=rs.n) (m:=rs.c) (.inr (by rw[wz bK])) (.inl ⟨rfl,rfl⟩) (.inl ⟨rfl,rfl⟩) (by omega) at'.1.cap (cC _) at'.1.cap ⟨H.le.refl _,
    amu (bm.mono uk.le) (hi.mono uk.le) I0 abh MP (by rw[mv];omega) λa Av c mC tx ty zE f1 f2 f3=>⟨tx.le,?_⟩⟩⟩
   have:=aok (r:=⟨e.2.aI,a,Av,e.2.cA,c,e.2.bm,e.2.hi,dS ((rows.drop x.toNat).map (·.id))⟩) uk tx.le ⟨tx,ty,zE⟩ f1 f2 f3 (by rw[Iq,av9];simp)
    (K:=λ(Uq:U) (wN:H)=>(∃f,At v wN di n6 k b q P f ⟨none,0,0⟩ G7 Uq)/\(least λf=>At v wN di n6 k b q P f ⟨none,0,0⟩ G7 Uq)<least λf=>At v w di n6 k b q P f ⟨none,0,0⟩ tL Pq)
    λUq wN E5 _ _=>?_
   exact c9.PD this λs1 v1 h=>⟨tx.le.trans h.1,h.2⟩;have Mc:At v wN di n6 k b q P AG ⟨none,0,0⟩ G7 Uq:=⟨rfl,ql q b st,HJ,_,by rw[I5];exact E5,by rw[I5];exact C4,ajI,by rw[SR,er,er,b4];simp only[gR,BT,cn.core,pT,kv],aiA,ajk,by omega⟩;exact⟨⟨AG,Mc⟩,aiG Mc⟩;refine⟨t,uk.le.cell WU,B6 c2 (aaf.mono uk.le) azZ (by have:=HZ.jD.aq;omega) aL (by omega) λaop aoq ajN ajO hw=>⟨_,uk.le.cell Ax,?_⟩⟩;have ard:aop=cZ (Db q r.bL).2:=by show aop=cZ (fG r.v q r.v.length);rw[<-hw,YX ajO]
   have are:aoq=c5 (Db q r.bL).2:=by show aoq=c5 (fG r.v q r.v.length);rw[<-hw,abj ajO]
   rw[ard,are];refine aBO (x:=Db q r.bL) uk cq cH λdp aIk atB=>aF8 atB (by rw[dj,eD,gq];omega) λau aIl atC=>⟨⟨by omega,by omega⟩,⟨by omega,by omega,rfl,rfl,by omega,Db q r.bL::HJ,?_,?_⟩,by dsimp only;omega⟩;have H4:e.2.rows.take (x+1).toNat=e.2.rows.take x.toNat++ [r.bL]:=by rw[show(x+1).toNat=x.toNat+1 by omega,gJ,FU];rfl
   rw[H4,<-mq,er];exact atC;have H4:e.2.rows.take (x+1).toNat=e.2.rows.take x.toNat++ [r.bL]:=by rw[show(x+1).toNat=x.toNat+1 by omega,gJ,FU];rfl
   rw[H4,<-mq,er];exact(j3 _ C4).trans (nc _ _).symm;have YL:(e.2.rows.length:o)<=b-st.seen.length:=by omega
   rw[a1 YL] at SR;rw[gY (by omega)] at uk C4;rw[gY (by omega)] at I5;have Mc:At v Y di n6 k b q P AG ⟨none,0,0⟩ G7 Pq:=⟨rfl,ql q b st,HJ,R,by rw[I5];exact uk,by rw[I5];exact C4,ajI,by rw[SR];exact b4,aiA,ajk,by omega⟩;exact⟨⟨AG,Mc⟩,aiG Mc⟩
  have an:=W.1;have:=vc.2 an;omega
end
