/- Texts of mine, joined and packed by pack.py. -/
import Derived.Test.YtejdhbfjjgcljaaGreatDoorMrd8
import Derived.OpenShut
set_option linter.all false
open _root_ renaming List->J,Nat->O,Option->aA,Int->o,Bool->ay,False->eg,absurd->bf
open Go renaming Program->dL,Value->ap,Addr->a8,callFunc->qT,Code->iW
open Bool renaming true->ai,false->ao
open Go.Obj renaming cells->bt
open Go.IntKind renaming i64->b2,signed->Gf,bits->Gg,u64->bu,min->Gy,max->Gz
open Go.Fence renaming wide->vg
open Go.Instr renaming sliceAt->fZ,buildSlice->dA
open Go.Builtin renaming append_->dO
open Go.Addr renaming add->er,mk->cp
open List renaming range->lD
open Go.Proofs.Tryz renaming prog->aH
open Go.Value renaming agg->cz,int->cN,pointer->ha,slice->ed,oneCell'->cI
open Int renaming tmod->lE,tdiv->ff,fdiv->et,toNat->wE
open List.Perm renaming cons->j9
open List.Pairwise renaming nil->mG
open Go.LoopState renaming busy->TG
set_option maxRecDepth 100000
noncomputable section
namespace Go.Proofs.YtejdhbfjjgcljaaGreatDoor
open H
namespace k6
section
variable{v a:J o}
def jc(h:ev)(v:J o):ev:={h with bm:=lT h.bm v,hi:=lU h.hi v}
theorem S5{i:O}(h:a.length=v.length)(hi:i<a.length):(lT a v).getD i 0=min (a.getD i 0) (v.getD i 0):=by
 unfold lT
 grind
theorem S6{i:O}(h:a.length=v.length)(hi:i<a.length):(lU a v).getD i 0=max (a.getD i 0) (v.getD i 0):=by
 unfold lU
 grind
theorem ayK(h:a.length=v.length)(i:O):(lT a v).getD i 0<=a.getD i 0:=by
 by_cases hi:i<a.length;rw[S5 h hi];omega;have:(lT a v).length=a.length:=B4 h
 grind
theorem ayN(h:a.length=v.length)(i:O):a.getD i 0<=(lU a v).getD i 0:=by
 by_cases hi:i<a.length;rw[S6 h hi];omega;have:(lU a v).length=a.length:=B4 h
 grind
def XI{d:o}{h:ev}{ks:J aw}(fM:h.aC=2)(ad:gr d (aw.mk h ks).bG)(aB:cY v)(Db:(v.length:o)=d):gr d (aw.mk (jc h v) ks).bG/\mq ((aw.mk (jc h v) ks).bG.hI []) v:=by
 have h1:=ad.kb;have h2:=ad.ins;have h3:=ad.kids;rw[aw.hz] at h1 h2 h3;obtain⟨av,_,_,ae⟩:=h1;have fS:h.cD=0/\cY h.bm/\cY h.hi/\(h.bm.length:o)=d/\(h.hi.length:o)=d/\∀i:O,(i:o)<d->h.bm.getD i 0<=h.hi.getD i 0:=by rcases ae with⟨e,_⟩|⟨_,e⟩|⟨e,_⟩;have:h.aC=1:=e;omega;exact e;have:h.aC=3:=e;omega
 obtain⟨q2,mV,pJ,e7,fy,rh⟩:=fS;have dN:(lT h.bm v).length=h.bm.length:=B4 (by omega);have eZ:(lU h.hi v).length=h.hi.length:=B4 (by omega);have e0:cY (lT h.bm v):=⟨by omega,λi hi=>by rw[S5 (by omega) (by omega)];have aT:=mV.2 i (by omega);have aN:=aB.2 i (by omega);unfold jP at*;omega⟩
 have hT:cY (lU h.hi v):=⟨by omega,λi hi=>by rw[S6 (by omega) (by omega)];have aT:=pJ.2 i (by omega);have aN:=aB.2 i (by omega);unfold jP at*;omega⟩
 have aaY:mq ((aw.mk (jc h v) ks).bG.hI []) v:=by rw[aw.hz];refine⟨λ_ i ey=>?_,λe=>?_⟩;show(lT h.bm v).getD i 0<=v.getD i 0/\v.getD i 0<=(lU h.hi v).getD i 0;have aJd:i<v.length:=ey;rw[S5 (by omega) (by omega),S6 (by omega) (by omega)];omega;have:h.aC=3:=e;omega
 refine⟨?_,aaY⟩;rw[aw.hz];refine .mk ⟨av,mG,λx M=>(by cases M),.inr (.inl ⟨fM,q2,e0,hT,by show((lT h.bm v).length:o)=d;omega,by show((lU h.hi v).length:o)=d;omega,λi hi=>?_⟩)⟩ (λx M=>?_) h3;show(lT h.bm v).getD i 0<=(lU h.hi v).getD i 0;rw[S5 (by omega) (by omega),S6 (by omega) (by omega)];have:=rh i hi;omega;have gn:x∈(bI.mk h.aC h.bm h.hi h.cD (h.rows.map ax.bn) (ks.map aw.bG)).all:=M;obtain⟨g1,_⟩:=h2 x gn;refine⟨λ_ i ey=>?_,λe=>?_⟩;obtain⟨jw,z2⟩:=g1 fM i ey;have ii:=ayK (a:=h.bm) (v:=v) (by omega) i;have jI:=ayN (a:=h.hi) (v:=v) (by omega) i;exact⟨Int.le_trans ii jw,Int.le_trans z2 jI⟩;have:h.aC=3:=e;omega
def rk(h:ev)(v:J o)(x:O):ev:={h with bm:=(lT h.bm v).take x++h.bm.drop x,hi:=(lU h.hi v).take x++h.hi.drop x}
theorem ac8{ub u:H}{h:ev}{tz:J O}{s:N}{Rest:H->Prop}(aB:Ints ub s v)(cC:ub.le u)(jn:hL u (h,tz))(b8:h.dE.Nodup)(lb:∀c∈h.dE,ub c=none)(Sp:∀r∈h.rows,Ints ub r.s r.v)(h1:h.bm.length=v.length)(h2:h.hi.length=v.length)(EL:v.length<=64)
  (b7:∀u',hL u' (jc h v,tz)->(∀c z,u c=some z->c∉h.dE->u' c=some z)->(∀c,u c≠none->u' c≠none)->Rest u'):
  ∃Wp:(o->(H->Prop)),∃aeZ:(o->(H->O)),(Wp 0 u)/\(∀n3:o,∀ho:H,(Wp n3 ho)->((n3<(s.n:o))->∃alr:a8,(s.a=(some alr))/\((((0:o)<=n3)/\(n3<(s.n:o)))/\(∃PC:o,((H.cell? ho (er alr ((wE n3)*1)))=(some (cN .i64 PC)))/\(∃alu:a8,((some (cp h.b 0 none))=(some alu))/\(∃alv:a8,((some (cp h.b 0 none))=(some alv))/\(∃sH:N,((H.cell? ho (er alu 1))=(some (ed sH.a sH.n sH.c)))/\(∃ju:N,((H.cell? ho (er alv 1))=(some (ed ju.a ju.n ju.c)))/\(∃alw:a8,(ju.a=(some alw))/\((((0:o)<=n3)/\(n3<(ju.n:o)))/\(∃aed:o,((H.cell? ho (er alw ((wE n3)*1)))=(some (cN .i64 aed)))/\(∃alx:a8,(sH.a=(some alx))/\((((0:o)<=n3)/\(n3<(sH.n:o)))/\(H.aM ho (er alx ((wE n3)*1)) [(cN .i64 (ite (PC<aed) PC aed))] (λ(ih:H)=>∃aly:a8,((some (cp h.b 0 none))=(some aly))/\(∃alz:a8,((some (cp h.b 0 none))=(some alz))/\(∃J2:N,((H.cell? ih (er aly 2))=(some (ed J2.a J2.n J2.c)))/\(∃OR:N,((H.cell? ih (er alz 2))=(some (ed OR.a OR.n OR.c)))/\(∃alA:a8,(OR.a=(some alA))/\((((0:o)<=n3)/\(n3<(OR.n:o)))/\(∃aee:o,((H.cell? ih (er alA ((wE n3)*1)))=(some (cN .i64 aee)))/\(∃alB:a8,(J2.a=(some alB))/\((((0:o)<=n3)/\(n3<(J2.n:o)))/\(H.aM ih (er alB ((wE n3)*1)) [(cN .i64 (ite (PC>aee) PC aee))] (λ(G1:H)=>(a7 (n3+1))/\((Wp (n3+1) G1)/\((aeZ (n3+1) G1)<(aeZ n3 ho)))))))))))))))))))))))))))/\((¬(n3<(s.n:o)))->Rest ho)):=by
 have dS:=aB.len
 have aL:∀g,(h.bx.al=some g->g∈h.dE/\g≠h.b/\h.fT.al≠some g/\h.a6.al≠some g/\h.dd.al≠some g)/\(h.fT.al=some g->g∈h.dE/\g≠h.b/\h.bx.al≠some g/\h.a6.al≠some g/\h.dd.al≠some g):=by
  intro g;unfold ev.dE at b8 ⊢;rw[ka] at b8;obtain⟨di,dv⟩:=b8;rw[hg,hg,hg] at dv;obtain⟨⟨⟨_,_,ef⟩,_,hl⟩,_,rJ⟩:=dv;refine⟨λZ=>⟨by simp[Z],λe=>di (by rw[<-e];simp[Z]),λe=>ef g (by simp[Z]) g (by simp[e]) rfl,λe=>hl g (by simp[Z]) g (by simp[e]) rfl,λe=>rJ g (by simp[Z]) g (by simp[e]) rfl⟩,
   λZ=>⟨by simp[Z],λe=>di (by rw[<-e];simp[Z]),λe=>ef g (by simp[e]) g (by simp[Z]) rfl,λe=>hl g (by simp[Z]) g (by simp[e]) rfl,λe=>rJ g (by simp[Z]) g (by simp[e]) rfl⟩⟩
 have dN:(lT h.bm v).length=h.bm.length:=B4 h1
 have eZ:(lU h.hi v).length=h.hi.length:=B4 h2
 refine⟨λx w=>0<=x/\x<=v.length/\hL w (rk h v x.toNat,tz)/\(∀c z,u c=some z->c∉h.dE->w c=some z)/\(∀c,u c≠none->w c≠none),λx _=>((v.length:o)-x).toNat,⟨by omega,by omega,?_,λc z I _=>I,λc I=>I⟩,?_⟩
 have:rk h v (0:o).toNat=h:=by unfold rk;simp
 rw[this];exact jn
 rintro x w ⟨bK,dr,hw,eC,kj⟩
 have lg:ub.le w:=λc z I=>eC c z (cC c z I) λe=>by grind
 refine⟨λM=>?_,λM=>?_⟩
 have eY:x.toNat<v.length:=by omega
 obtain⟨p,ad,HJ⟩:=(aB.mono lg).at (x:=x) bK M
 have y4:=hw.bm.f.ints
 have E6:=hw.hi.f.ints
 have aiG:(rk h v x.toNat).bm.length=v.length:=by show((lT h.bm v).take x.toNat++h.bm.drop x.toNat).length=_;rw[gG,iV,rO];omega
 have ail:(rk h v x.toNat).hi.length=v.length:=by show((lU h.hi v).take x.toNat++h.hi.drop x.toNat).length=_;rw[gG,iV,rO];omega
 have vO:(rk h v x.toNat).bm.getD x.toNat 0=h.bm.getD x.toNat 0:=U1 h1 (by omega)
 have vN:(rk h v x.toNat).hi.getD x.toNat 0=h.hi.getD x.toNat 0:=U1 h2 (by omega)
 have nl:h.bx.n=v.length:=by have l6:h.bx.n=_:=y4.len;rw[l6];exact aiG
 have e2:h.fT.n=v.length:=by have l6:h.fT.n=_:=E6.len;rw[l6];exact ail
 obtain⟨gU,ft,cl⟩:=y4.at (x:=x) bK (by show x<(h.bx.n:o);omega)
 obtain⟨du,eX,HG⟩:=E6.at (x:=x) bK (by show x<(h.fT.n:o);omega)
 have ft:h.bx.a=some gU:=ft
 have eX:h.fT.a=some du:=eX
 rw[vO] at cl
 rw[vN] at HG
 have gf:w h.b=some (.cells (eT (rk h v x.toNat)).toArray 213 (0,0)):=hw.cell
 have c1:w.cell? ((cp h.b 0 none).add 1)=some (.slice h.bx.a h.bx.n h.bx.c):=aZ gf 1
 refine⟨p,ad,⟨bK,M⟩,_,HJ,_,rfl,_,rfl,h.bx,c1,h.bx,c1,gU,ft,⟨bK,by omega⟩,_,cl,gU,ft,⟨bK,by omega⟩,?_⟩
 refine aD.store (enc:=encI) j4 hw.bm.f (by decide) (i:=x.toNat) (by rw[aiG];exact eY) (y:=if v.getD x.toNat 0<h.bm.getD x.toNat 0 then v.getD x.toNat 0 else h.bm.getD x.toNat 0) (by simp[encI,cI]) ft λih ZC L8 _=>?_
 have L8:∀c z,w c=some z->h.bx.al≠some c->ih c=some z:=L8
 have ahO:ih h.b=some (.cells (eT (rk h v x.toNat)).toArray 213 (0,0)):=L8 _ _ gf λe=>((aL h.b).1 e).2.1 rfl
 have c2:ih.cell? ((cp h.b 0 none).add 2)=some (.slice h.fT.a h.fT.n h.fT.c):=aZ ahO 2
 have ain:Own ih 3 1 h.fT ((rk h v x.toNat).hi.flatMap encI):=hw.hi.le λc z I ac=>L8 c z ac λe=>((aL c).1 e).2.2.1 I
 have aqM:ih.cell? (er du (x.toNat*1))=some (.int .i64 (h.hi.getD x.toNat 0)):=by obtain⟨nU,rv,fc⟩:=ain.f.ints.at (x:=x) bK (by omega);rw[eX] at rv;obtain rfl:=eh rv;rw[vN] at fc;exact fc
 refine⟨_,rfl,_,rfl,h.fT,c2,h.fT,c2,du,eX,⟨bK,by omega⟩,_,aqM,du,eX,⟨bK,by omega⟩,?_⟩
 refine aD.store (enc:=encI) j4 ain.f (by decide) (i:=x.toNat) (by rw[ail];exact eY) (y:=if v.getD x.toNat 0>h.hi.getD x.toNat 0 then v.getD x.toNat 0 else h.hi.getD x.toNat 0) (by simp[encI,cI]) eX λG1 ZD L9 _=>?_
 have L9:∀c z,ih c=some z->h.fT.al≠some c->G1 c=some z:=L9
 have aN:∀c z,w c=some z->h.bx.al≠some c->h.fT.al≠some c->G1 c=some z:=λc z I a b=>L9 c z (L8 c z I a) b
 have el:(rk h v x.toNat).bm.set x.toNat (if v.getD x.toNat 0<h.bm.getD x.toNat 0 then v.getD x.toNat 0 else h.bm.getD x.toNat 0)=(rk h v (x+1).toNat).bm:=by rw[show(x+1).toNat=x.toNat+1 by omega];exact U2 (f:=λa x=>if x<a then x else a) h1 (by omega)
 have ars:(rk h v x.toNat).hi.set x.toNat (if v.getD x.toNat 0>h.hi.getD x.toNat 0 then v.getD x.toNat 0 else h.hi.getD x.toNat 0)=(rk h v (x+1).toNat).hi:=by rw[show(x+1).toNat=x.toNat+1 by omega];exact U2 (f:=λa x=>if x>a then x else a) h2 (by omega)
 rw[el] at ZC
 rw[ars] at ZD
 have axc:ub.le G1:=λc z I=>aN c z (lg c z I) (λe=>by grind) (λe=>by grind)
 refine⟨⟨by omega,by omega⟩,⟨by omega,by omega,⟨?_,ZC.own.le λc z I ac=>L9 c z ac λe=>((aL c).1 I).2.2.1 e,ZD.own,hw.rws.le λc z I ac=>aN c z ac (λe=>((aL c).1 e).2.2.2.1 I) (λe=>((aL c).2 e).2.2.2.1 I),λr U=>(Sp r U).mono axc,bw.else hw.mf λg z Z ac=>aN g z ac (λe=>((aL g).1 e).2.2.2.2 Z) (λe=>((aL g).2 e).2.2.2.2 Z)⟩,λc z I hm=>aN c z (eC c z I hm) (λe=>hm ((aL c).1 e).1) (λe=>hm ((aL c).2 e).1),λc I=>?_⟩,by dsimp only;omega⟩
 exact L9 _ _ ahO λe=>((aL h.b).2 e).2.1 rfl
 obtain⟨z,ac⟩:=fp.1 (kj c I)
 by_cases a:h.fT.al=some c
 exact dH ZD a
 by_cases b:h.bx.al=some c
 obtain⟨cn,bR⟩:=fp.1 (dH ZC b)
 grind
 grind
 have:rk h v x.toNat=jc h v:=by unfold rk jc;rw[gC (by omega),gC (by omega),Tx (by omega),Tx (by omega),ml,ml]
 rw[this] at hw
 exact b7 w hw eC kj
end
end k6
section
variable{aC d:o}{ub u u':H}{v:J o}{l1 bJ:O->Prop}{n0 n:aw}{aQ:J kq}{h:ev}
theorem aw.oA{s:o}(n:aw)(h:∀x∈n.bT,x.1.aC=s):lM s n.bG:=by
 induction n using aw.ind with
 |h n aW=>rw[aw.hz];refine .mk (h (n.h,n.kids.map aw.b) (by rw[aw.iD];grind)) λk hk=>?_;obtain⟨W,aE,rfl⟩:=bQ.1 (show k∈n.kids.map aw.bG from hk);exact aW W aE λx M=>h x (by rw[aw.iD];grind)
def aw.amm{s:o}(n:aw)(h:lM s n.bG):∀x∈n.bT,x.1.aC=s:=by
 induction n using aw.ind with
 |h n aW=>rw[aw.hz] at h;intro x M;rw[aw.iD] at M;rcases dM.1 M with rfl|M;exact h.aC;obtain⟨W,aE,M⟩:=eA.1 M;exact aW W aE (h.kids _ (kH aE)) x M
structure Way(aC:o)(ub u:H)(d:o)(v:J o)(l1 bJ:O->Prop)(n0:aw)(aQ:J kq)(n:aw):Prop where
 base:ub.le u
 one:∀x∈n.bT++jQ aQ n.b,hL u x
 nodup:((n.bT++jQ aQ n.b).flatMap λx=>x.1.dE).Nodup
 out:∀c∈(n.bT++jQ aQ n.b).flatMap (λx=>x.1.dE),ub c=none/\u c≠none/\l1 c
 known:∀c,ub c≠none->l1 c
 vec:∀x∈n.bT++jQ aQ n.b,∀r∈x.1.rows,Ints ub r.s r.v/\∀g,r.s.al=some g->bJ g
 ok:gr d (nn aQ n).bG
 ins:∀f∈aQ,mq f.hI v
 box:∀x∈n.bT++jQ aQ n.b,x.1.aC=aC
 all:(nn aQ n).bG.all.Perm n0.bG.all
 len:(nn aQ n).bT.length=n0.bT.length
 b:(nn aQ n).b=n0.b
def Way.start(base:ub.le u)(known:∀c,ub c≠none->l1 c)(one:∀x∈n.bT,hL u x)(nodup:n.own.Nodup)(out:∀c∈n.own,ub c=none/\u c≠none/\l1 c)
  (vec:∀x∈n.bT,∀r∈x.1.rows,Ints ub r.s r.v/\∀g,r.s.al=some g->bJ g) (ok:gr d n.bG) (fM:lM aC n.bG):Way aC ub u d v l1 bJ n [] n:=by
 have e:n.bT++jQ [] n.b=n.bT:=by rw[jQ,ml]
 exact⟨base,by rw[e];exact one,by rw[e];exact nodup,by rw[e];exact out,known,by rw[e];exact vec,ok,λf ab=>(by cases ab),by rw[e];exact n.amm fM,.refl _,rfl,rfl⟩
def Way.mf{pre post:J aw}{k:aw}(w:Way aC ub u d v l1 bJ n0 aQ (.mk h (pre++k::post)))(hi:mq (kq.hI ⟨h,pre,post⟩) v):Way aC ub u d v l1 bJ n0 (⟨h,pre,post⟩::aQ) k:=by
 have ad:((aw.mk h (pre++k::post)).bT++jQ aQ h.b).Perm (k.bT++jQ (⟨h,pre,post⟩::aQ) k.b):=by rw[jQ,<-wA];exact(agv ⟨h,pre,post⟩ k).append_right _
 exact⟨w.base,λx M=>w.one x (ad.mem_iff.2 M),(ad.flatMap_right _).nodup_iff.1 w.nodup,λc I=>w.out c ((ad.flatMap_right _).mem_iff.2 I),w.known,λx M=>w.vec x (ad.mem_iff.2 M),w.ok,λf ab=>by rcases dM.1 ab with rfl|ab;exact hi;exact w.ins f ab,λx M=>w.box x (ad.mem_iff.2 M),w.all,w.len,w.b⟩
def Way.head{ks:J aw}(w:Way aC ub u d v l1 bJ n0 aQ (.mk h ks)):
  hL u (h,ks.map aw.b)/\h.dE.Nodup/\(∀c∈h.dE,ub c=none/\u c≠none/\l1 c)/\(∀r∈h.rows,Ints ub r.s r.v/\∀g,r.s.al=some g->bJ g)/\h.aC=aC:=by
 have hm:(h,ks.map aw.b)∈(aw.mk h ks).bT++jQ aQ (aw.mk h ks).b:=by rw[aw.bT];exact kG _ (ik ..)
 have ag:=w.nodup
 rw[aw.bT,x7,jr,hg] at ag
 exact⟨w.one _ hm,ag.1,λc I=>w.out c (eA.2 ⟨_,hm,I⟩),w.vec _ hm,w.box _ hm⟩
theorem Way.else(w:Way aC ub u d v l1 bJ n0 aQ n)(eC:∀c z,u c=some z->l1 c->c∉n.own->u' c=some z):
  ub.le u'/\(∀x∈jQ aQ n.b,hL u' x)/\(∀c∈(jQ aQ n.b).flatMap (λx=>x.1.dE),(ub c=none/\l1 c)/\u' c≠none/\c∉n.own)/\((jQ aQ n.b).flatMap λx=>x.1.dE).Nodup:=by
 have ag:=w.nodup
 rw[hb,hg] at ag
 obtain⟨_,h2,h3⟩:=ag
 have ac:∀c∈n.own,ub c=none:=λc I=>(w.out c (by rw[hb];exact kG _ I)).1
 have aa:ub.le u':=λc z I=>eC c z (w.base c z I) (w.known c (by rw[I];simp)) λhm=>by grind
 have ab:∀c∈(jQ aQ n.b).flatMap (λx=>x.1.dE),c∉n.own:=λc I hm=>h3 c hm c I rfl
 refine⟨aa,λx M=>(w.one x (q1 _ M)).bO (λc z I ac=>eC c z ac (w.out c (by grind)).2.2 (ab c (eA.2 ⟨x,M,I⟩))) λr U=>((w.vec x (q1 _ M) r U).1).mono aa,λc I=>?_,h2⟩
 obtain⟨dv,ef,hl⟩:=w.out c (by grind)
 obtain⟨z,bR⟩:=fp.1 ef
 grind
theorem Way.eJ{bZ:ev}{ks:J aw}(w:Way aC ub u d v l1 bJ n0 aQ (.mk h ks))(aa:bZ.dE=h.dE)(U:bZ.rows=h.rows)(ae:bZ.aC=h.aC)
  (jn:hL u' (bZ,ks.map aw.b)) (eC:∀c z,u c=some z->c∉h.dE->u' c=some z) (kj:∀c,u c≠none->u' c≠none) (bM:gr d (aw.mk bZ ks).bG):Way aC ub u' d v l1 bJ n0 aQ (.mk bZ ks):=by
 have nG:bZ.b=h.b:=(List.cons.inj aa).1
 have ag:=w.nodup
 rw[aw.bT,x7,jr] at ag
 have fK:=(hg.1 ag).2.2
 have sub:∀x∈aw.na ks++jQ aQ h.b,x∈(aw.mk h ks).bT++jQ aQ (aw.mk h ks).b:=λx M=>by rw[aw.bT,x7];exact iX _ M
 have ej:∀x∈aw.na ks++jQ aQ h.b,∀c∈x.1.dE,c∉h.dE:=λx M c I hm=>fK c hm c (eA.2 ⟨x,M,I⟩) rfl
 have ac:∀c∈h.dE,ub c=none:=λc I=>(w.head.2.2.1 c I).1
 have yS:ub.le u':=λc z I=>eC c z (w.base c z I) λhm=>by grind
 have aby:∀x,x∈(aw.mk bZ ks).bT++jQ aQ (aw.mk bZ ks).b->x=(bZ,ks.map aw.b)∨x∈aw.na ks++jQ aQ h.b:=λx M=>by rw[aw.bT,x7,show(aw.mk bZ ks).b=h.b from nG] at M;exact dM.1 M
 have agx:((aw.mk bZ ks).bT++jQ aQ (aw.mk bZ ks).b).flatMap (λx=>x.1.dE)=((aw.mk h ks).bT++jQ aQ (aw.mk h ks).b).flatMap (λx=>x.1.dE):=by rw[aw.bT,aw.bT,x7,x7,jr,jr,show(aw.mk bZ ks).b=h.b from nG,show(aw.mk h ks).b=h.b from rfl];show bZ.dE++_=h.dE++_;rw[aa]
 have eL:(aw.mk bZ ks).bG.all=(aw.mk h ks).bG.all:=by rw[aw.tJ,aw.tJ,aw.bT,aw.bT,jr,jr];show bZ.rows.map ax.bn++_=h.rows.map ax.bn++_;rw[U]
 refine⟨yS,λx M=>?_,by rw[agx];exact w.nodup,λc I=>?_,w.known,λx M=>?_,abZ aQ w.ok bM λx M=>.inl (by rw[<-eL];exact M),w.ins,λx M=>?_,?_,?_,?_⟩
 rcases aby x M with rfl|M
 exact jn
 exact(w.one x (sub x M)).bO (λc z I bR=>eC c z bR (ej x M c I)) λr cU=>((w.vec x (sub x M) r cU).1).mono yS
 rw[agx] at I
 obtain⟨dv,ef,hl⟩:=w.out c I
 grind
 rcases aby x M with rfl|M
 intro r cU
 exact w.head.2.2.2.1 r (by rw[<-U];exact cU)
 exact w.vec x (sub x M)
 rcases aby x M with rfl|M
 exact ae.trans w.head.2.2.2.2
 exact w.box x (sub x M)
 refine(Jo aQ _).trans (.trans ?_ ((Jo aQ (.mk h ks)).symm.trans w.all))
 rw[eL,show(aw.mk bZ ks).b=h.b from nG,show(aw.mk h ks).b=h.b from rfl]
 rw[(Gd aQ _).length_eq,<-w.len,(Gd aQ (.mk h ks)).length_eq,show(aw.mk bZ ks).b=h.b from nG,show(aw.mk h ks).b=h.b from rfl]
 simp[aw.bT]
 rw[<-w.b]
 exact abY aQ nG
structure Down(aC:o)(ub u':H)(d:o)(e:ke)(l1:O->Prop)(bJ:ax->Prop)(n0 r:aw)(more:O):Prop where
 one:∀x∈r.bT,hL u' x
 nodup:r.own.Nodup
 own:∀c∈r.own,(ub c=none/\l1 c)/\u' c≠none
 rws:∀x∈r.bT,∀y∈x.1.rows,bJ y
 all:r.bG.all.Perm (e::n0.bG.all)
 ok:gr d r.bG
 oA:lM aC r.bG
 size:r.bT.length<=n0.bT.length+more
 b:r.b=n0.b
 le:ub.le u'
theorem Way.down{n':aw}{id:o}{more:O}{Cn:ax->Prop}(w:Way aC ub u d v l1 bJ n0 aQ n)(aa:n'.b=n.b)(pe:∀x∈n'.bT,hL u' x)(b8:n'.own.Nodup)
  (eC:∀c z,u c=some z->l1 c->c∉n.own->u' c=some z) (sh:∀c∈n'.own,(c∈n.own∨(u c=none/\l1 c))/\u' c≠none) (hQ:∀x∈n'.bT,∀y∈x.1.rows,Cn y) (ER:∀y:ax,(∀g,y.s.al=some g->bJ g)->Cn y)
  (eL:n'.bG.all.Perm ((id,v)::n.bG.all)) (bM:gr d n'.bG) (fM:lM aC n'.bG) (hm:n'.bT.length<=n.bT.length+more):Down aC ub u' d (id,v) l1 Cn n0 (nn aQ n') more:=by
 obtain⟨h1,h2,h3,br⟩:=w.else eC
 have ad:=Gd aQ n'
 have ZJ:=Gd aQ n
 have ajh:=azX aQ n'
 rw[aa] at ad ajh
 have axM:∀c∈n.own,ub c=none/\l1 c:=λc I=>(λW=>⟨W.1,W.2.2⟩) (w.out c (by rw[hb];exact kG _ I))
 have aIs:∀c∈(jQ aQ n.b).flatMap (λx=>x.1.dE),u c≠none:=λc I=>(w.out c (by grind)).2.1
 refine⟨λx M=>?_,?_,λc I=>?_,λx M=>?_,?_,abZ aQ w.ok bM λx M=>?_,aw.oA _ λx M=>?_,?_,(abY aQ aa).trans w.b,h1⟩
 rcases dT.1 (ad.mem_iff.1 M) with M|M
 exact pe x M
 exact h2 x M
 grind
 rcases dT.1 (ajh.mem_iff.1 I) with I|I
 obtain⟨di,dv⟩:=sh c I
 exact⟨di.elim (axM c) λh=>⟨w.base.none h.1,h.2⟩,dv⟩
 grind
 rcases dT.1 (ad.mem_iff.1 M) with M|M
 exact hQ x M
 exact λy aj=>ER y (w.vec x (q1 _ M) y aj).2
 have aT:=Jo aQ n'
 have aN:=(Jo aQ n).symm.trans w.all
 grind
 rcases dM.1 (eL.mem_iff.1 M) with rfl|M
 exact .inr w.ins
 exact .inl M
 rcases dT.1 (ad.mem_iff.1 M) with M|M
 exact n'.amm fM x M
 exact w.box x (q1 _ M)
 rw[<-w.len,ad.length_eq,ZJ.length_eq,gG,gG]
 omega
end
namespace k6
section
variable{h:ev}{b:O}{u ak:H}{s:N}{v:J o}{d:o}
structure ug(ak u:H)(ah:O->aA bB)(b:O)(T:aU)(id:o)(v:J o)(u':H)(aY:O->aA bB)(bD:aU):Prop where
 is:In ak u' aY b bD
 eJ:hM u ah u' aY
 ok:dX bD
 rows:(bi bD).Perm ((id,v)::(bi T).filter λx=>x.1 !=id)
 dim:bD.dim=T.dim
 leaf:bD.leaf=T.leaf
 eW:bD.eW<=T.eW+1
structure Ed(aR:H)(ah:O->aA bB)(b:O)(T:aU)(id:o)(s:N)(v:J o)(u':H)(r:aw):Prop where
 cell:u' b=some (.cells (fx {T with root:=some r}).toArray 169 (0,0))
 map:fE u' T.m (ec (T.w++ [(id,(s,v))]))
 sv:Ints u' s v
 dd:∀g,s.al=some g->aR g=none/\u' g≠none
 bO:∀c z,aR c=some z->ah c=none∨ah c=some .vec->u' c=some z
 kn:∀c,aR c≠none->ah c≠some .node->u' c≠none
 one:∀x∈r.bT,hL u' x
 nodup:r.own.Nodup
 own:∀c∈r.own,(ah c=some .node∨(aR c=none/\s.al≠some c))/\u' c≠none
 rws:∀x∈r.bT,∀y∈x.1.rows,∀g,y.s.al=some g->ah g=some .vec∨s.al=some g
 all:r.bG.all.Perm ((id,v)::lG T)
 ok:gr T.dim r.bG
 oA:lM 2 r.bG
 size:r.bT.length<=1100*(T.eW+1)+2000
theorem Ed.acB{aR u':H}{ah:O->aA bB}{T:aU}{id:o}{r:aw}(f:Ed aR ah b T id s v u' r)(h:In ak aR ah b T)(aV:dX T)(cy:1<=id/\id<=1000000000)(aB:(v.length:o)=T.dim/\cY v)(aq:T.w.length<512):
  ∃aY bD,In ak u' aY b bD/\hM aR ah u' aY/\dX bD/\(bi bD).Perm ((id,v)::bi T)/\bD.dim=T.dim/\bD.leaf=T.leaf/\bD.eW<=T.eW+1:=by
 obtain⟨bD,dZ⟩:∃bD:aU,bD={T with root:=some r,w:=T.w++ [(id,(s,v))],eW:=T.eW+1}:=⟨_,rfl⟩
 obtain⟨aY,ly⟩:∃aY:O->aA bB,aY=λc=>open Classical in if c∈r.own then some .node else if s.al=some c then some .vec else if ah c=some .node then none else ah c:=⟨_,rfl⟩
 have di:∀c∈r.own,aY c=some .node:=λc I=>by rw[ly];exact b3 I
 have dv:∀c,s.al=some c->aY c=some .vec:=λc I=>by
  have dR:c∉r.own:=λhm=>by rcases(f.own c hm).1 with e|e;exact h.known c (by rw[e];simp) (f.dd c I).1;exact e.2 I
  grind
 have ef:∀c t,ah c=some t->t≠.node->aY c=some t:=λc t I ht=>by
  have hk:=h.known c (by rw[I];simp);have dR:c∉r.own:=λhm=>by
   rcases(f.own c hm).1 with e|e
   grind
   exact hk e.1
  have A0:s.al≠some c:=λe=>hk (f.dd c e).1
  grind
 have hl:∀c,aY c≠none->c∈r.own∨s.al=some c∨(ah c≠none/\ah c≠some .node):=λc I=>by
  grind
 have aJ:=h.aJ
 refine⟨aY,bD,⟨⟨by rw[dZ];exact f.cell,ef _ _ aJ.dQ (by simp),by rw[dZ];exact f.map,by rw[dZ];exact ef _ _ aJ.dy (by simp),λe he=>?_,λn ag=>?_⟩,λc z I=>?_,λc I=>?_,λc I=>?_⟩,⟨λc z I ab=>f.bO c z I (.inl ab),λc I=>?_⟩,
  ⟨by rw[dZ];exact aV.hP,by rw[dZ];exact aV.Bk,λe he=>?_,λe he=>?_,?_,?_,λn ag=>?_,λn ag=>?_,λn ag=>?_⟩,?_,by rw[dZ],by rw[dZ],by grind⟩
 rw[dZ] at he
 rcases dT.1 he with he|he
 obtain⟨v1,v2⟩:=aJ.vec e he
 exact⟨bw.else v1 λg z Z ac=>f.bO g z ac (.inr (v2 g Z)),λg Z=>ef g _ (v2 g Z) (by simp)⟩
 rw[hZ.1 he]
 exact⟨f.sv,dv⟩
 rw[dZ] at ag
 obtain rfl:=eh ag
 exact⟨f.one,f.nodup,di,λx M y aj g Z=>(f.rws x M y aj g Z).elim (λe=>ef g _ e (by simp)) λe=>dv g e⟩
 refine f.bO c z (h.le c z I) (.inl ?_)
 cases e:ah c with
 |none=>rfl
 |some t=>have:=h.out c (by rw[e];simp);grind
 rcases hl c I with e|e|e
 rcases(f.own c e).1 with e|e
 exact h.out c (by rw[e];simp)
 exact h.le.none e.1
 exact h.le.none (f.dd c e).1
 exact h.out c e.1
 rcases hl c I with e|e|e
 exact(f.own c e).2
 exact(f.dd c e).2
 exact f.kn c (h.known c e.1) e.2
 rcases hl c I with e|e|e
 rcases(f.own c e).1 with e|e
 grind
 exact .inr e.1
 exact .inr (f.dd c e).1
 exact .inl e.1
 rw[dZ] at he
 rcases dT.1 he with he|he
 exact aV.ids e he
 grind
 rw[dZ] at he ⊢
 rcases dT.1 he with he|he
 exact aV.vec e he
 grind
 grind
 rw[dZ]
 show r.bG.all.Perm ((T.w++ [(id,(s,v))]).map λe=>(e.1,e.2.2))
 rw[en]
 exact f.all.trans ((j9 _ aV.rows).trans (mH _ _).symm)
 rw[dZ] at ag ⊢
 obtain rfl:=eh ag
 exact f.ok
 rw[dZ] at ag
 obtain rfl:=eh ag
 exact f.oA
 rw[dZ] at ag ⊢
 obtain rfl:=eh ag
 exact f.size
 rw[dZ]
 show((T.w++ [(id,(s,v))]).map λe=>(e.1,e.2.2)).Perm _
 rw[en]
 exact mH _ _
theorem r1(h:ev):h.dE.Perm (h.a6.al.toList++(h.b::(h.bx.al.toList++h.fT.al.toList++h.dd.al.toList))):=by
 unfold ev.dE
 grind
theorem WI(ag:h.dE.Nodup)(rows:J ax)(ae:∀g,s.al=some g->h.a6.al=some g∨g∉h.dE):({h with a6:=s,rows:=rows}:ev).dE.Nodup:=by
 have h1:=(r1 h).nodup_iff.1 ag;rw[(r1 _).nodup_iff];rw[hg] at h1 ⊢;obtain⟨_,h3,br⟩:=h1;refine⟨?_,h3,λc I pL dI e=>?_⟩
 grind
 subst e;have I:s.al=some c:=by simpa using I
 rcases ae c I with bL|bL
 grind
 exact bL ((r1 h).mem_iff.2 (q1 _ dI))
def abq(ad:gr d (aw.mk h []).bG){id:o}{sv:N}(ch:mq ((aw.mk h []).bG.hI []) v):gr d (aw.mk {h with a6:=s,rows:=h.rows++ [⟨id,sv,v⟩]} []).bG/\(aw.mk {h with a6:=s,rows:=h.rows++ [⟨id,sv,v⟩]} []).bG.all.Perm ((id,v)::(aw.mk h []).bG.all):=by
 have aT:(aw.mk {h with a6:=s,rows:=h.rows++ [⟨id,sv,v⟩]} []).bG.all=(aw.mk h []).bG.all++ [(id,v)]:=by rw[aw.tJ,aw.tJ,aw.bT,aw.bT,aw.na];simp[ax.bn]
 have h1:=ad.kb;have h2:=ad.ins;refine⟨.mk h1 (λx M=>?_) λk hk=>(by rw[aw.hz] at hk;cases hk),by rw[aT];exact mH _ _⟩;rw[aT] at M;rcases dT.1 M with M|M;exact h2 x M;rw[hZ.1 M];exact ch
def adB{h1 h2:ev}{p:O}(I:u p=some (.cells (eT h1).toArray 213 (0,0))){f:H->Prop}(ab:f (u.ins p (.cells (eT h2).toArray 213 (0,0)))):
  H.aM u (cp p 0 none) [.int .i64 h2.aC,.slice h2.bx.a h2.bx.n h2.bx.c,.slice h2.fT.a h2.fT.n h2.fT.c,.int .u64 (cQ h2.cD),.int .u64 (cS h2.cD),.slice none 0 0,.slice h2.a6.a h2.a6.n h2.a6.c,.slice h2.dd.a h2.dd.n h2.dd.c] f:=
 ⟨_,_,I,rfl,by simp[eT],by simp[cI],by
  have e:wr (eT h1).toArray 0 [.int .i64 h2.aC,.slice h2.bx.a h2.bx.n h2.bx.c,.slice h2.fT.a h2.fT.n h2.fT.c,.int .u64 (cQ h2.cD),.int .u64 (cS h2.cD),.slice none 0 0,.slice h2.a6.a h2.a6.n h2.a6.c,.slice h2.dd.a h2.dd.n h2.dd.c]=(eT h2).toArray:=by simp[wr,eT]
  show f (u.ins p (.cells (wr (eT h1).toArray 0 _) _ (0,0)));rw[e];exact ab⟩
theorem adh{ub:H}{leaf:o}{bJ:O->Prop}{n0:aw}{aQ:J kq}{id:o}{sv:N}{Fin:H->Prop}(w:Way 2 ub u d v (λ_=>True) bJ n0 aQ (.mk h []))(AX:1<=leaf)(Ki:ub.cell? ⟨b,0,none⟩=some (.int .i64 d))(q7:ub.cell? ((cp b 0 none).add 1)=some (.int .i64 leaf))
  (Sw:Ints ub sv v) (gX:gD (h.rows++ [⟨id,sv,v⟩]) d) (ch:mq ((aw.mk h []).bG.hI []) v) (uE:∀u' r,Down 2 ub u' d (id,v) (λ_=>True) (λy=>∀g,y.s.al=some g->bJ g∨sv.al=some g) n0 r 1100->Fin u'):
  ∃alC:a8,((some (cp h.b 0 none))=(some alC))/\(∃J4:N,((H.cell? u (er alC 6))=(some (ed J4.a J4.n J4.c)))/\(c7 aH (dA 22 1 #[(0,(cz #[(cN b2 id),(ed sv.a sv.n sv.c)]))]) [(bk.one aI.slice)] u (λ(BI:N) (G2:H)=>(H.le u G2)/\(c7 aH (dO #[22,22] 22 #[(ed J4.a J4.n J4.c),(ed BI.a BI.n BI.c)]) [(bk.one aI.slice)] G2 (λ(GH:N) (u64:H)=>∃OH:a8,((some (cp h.b 0 none))=(some OH))/\(H.aM u64 (er OH 6) [(ed GH.a GH.n GH.c)] (λ(h4:H)=>∃OI:a8,((some (cp h.b 0 none))=(some OI))/\(∃OJ:a8,((some (cp b 0 none))=(some OJ))/\(∃yf:N,((H.cell? h4 (er OI 6))=(some (ed yf.a yf.n yf.c)))/\(∃Hd:o,((H.cell? h4 (er OJ 1))=(some (cN b2 Hd)))/\(((Hd<(yf.n:o))->∃OK:a8,((some (cp h.b 0 none))=(some OK))/\(∃yg:N,((H.cell? h4 (er OK 6))=(some (ed yg.a yg.n yg.c)))/\(Hg (some (cp b 0 none)) yg h4 (λ(abV:(aA a8)) (kp:H)=>∃py:a8,(abV=(some py))/\(∃PD:o,((H.cell? kp py)=(some (cN b2 PD)))/\(∃vo:N,((H.cell? kp (er py 1))=(some (ed vo.a vo.n vo.c)))/\(∃vp:N,((H.cell? kp (er py 2))=(some (ed vp.a vp.n vp.c)))/\(∃PE:o,((H.cell? kp (er py 3))=(some (cN bu PE)))/\(∃PF:o,((H.cell? kp (er py 4))=(some (cN bu PF)))/\(∃vq:N,((H.cell? kp (er py 5))=(some (ed vq.a vq.n vq.c)))/\(∃vr:N,((H.cell? kp (er py 6))=(some (ed vr.a vr.n vr.c)))/\(∃q3:N,((H.cell? kp (er py 7))=(some (ed q3.a q3.n q3.c)))/\(∃OL:a8,((some (cp h.b 0 none))=(some OL))/\(H.aM kp OL [(cN b2 PD),(ed vo.a vo.n vo.c),(ed vp.a vp.n vp.c),(cN bu PE),(cN bu PF),(ed vq.a vq.n vq.c),(ed vr.a vr.n vr.c),(ed q3.a q3.n q3.c)] (λ(oC:H)=>Fin oC)))))))))))))))/\((¬(Hd<(yf.n:o)))->Fin h4)))))))))))):=by
 obtain⟨jn,b8,lb,ni,fM⟩:=w.head
 obtain⟨h1,AU⟩:∃h1:ev,h1=h:=⟨_,rfl⟩
 have gf:u h.b=some (.cells (eT h).toArray 213 (0,0)):=jn.cell
 have hO:aD ub u 52 2 h.a6 (h.rows.flatMap cJ):=⟨jn.rws,w.base,λg Z=>(lb g (by simp[ev.dE,Z])).1⟩
 have dS:h.a6.n=h.rows.length:=hf fO (by decide) hO.own.cK
 have lc:=gX.len
 rw[gG] at lc
 simp only[jq,sw] at lc
 have aL:h.a6.al≠some h.b:=λe=>by
  have h1:=(r1 h).nodup_iff.1 b8
  grind
 have Fv:∀g,(h.bx.al=some g∨h.fT.al=some g∨h.dd.al=some g)->g∈h.dE/\g≠h.b/\h.a6.al≠some g:=λg Z=>by
  have h1:=(r1 h).nodup_iff.1 b8;rw[hg] at h1;have h2:g∈h.bx.al.toList++h.fT.al.toList++h.dd.al.toList:=by grind
  exact⟨(r1 h).mem_iff.2 (q1 _ (iX _ h2)),λe=>(ka.1 h1.2.1).1 (by rw[<-e];exact h2),λe=>h1.2.2 g (by rw[e];simp) g (iX _ h2) rfl⟩
 refine⟨_,rfl,h.a6,aZ gf 6,?_⟩
 refine zT ig (vI id sv) (by decide) rfl (by simp[cI]) hO (by omega) (by omega) λar u64 bR hY fW fC _=>?_
 have bR:aD ub u64 52 2 ar ((h.rows++ [(⟨id,sv,v⟩:ax)]).flatMap cJ):=by rw[hb];exact bR
 have ts:ar.al≠some h.b:=λe=>by
  grind
 have YC:u64 h.b=some (.cells (eT h).toArray 213 (0,0)):=fW _ _ gf aL
 refine⟨_,rfl,Uu YC ar (h.rows++ [⟨id,sv,v⟩]) ?_⟩
 obtain⟨g1,hV⟩:∃g1:ev,g1={h with a6:=ar,rows:=h.rows++ [⟨id,sv,v⟩]}:=⟨_,rfl⟩
 have XA:g1.b=h.b:=by rw[hV]
 rw[<-hV]
 obtain⟨h4,FF⟩:∃h4,h4=u64.ins h.b (.cells (eT g1).toArray 213 (0,0)):=⟨_,rfl⟩
 rw[<-FF]
 have Er:h4 h.b=some (.cells (eT g1).toArray 213 (0,0)):=by rw[FF];exact bh _ _ _
 have f66:∀c z,u64 c=some z->c≠h.b->h4 c=some z:=λc z I an=>by rw[FF,bz _ _ an];exact I
 have Lf:∀c z,u c=some z->c≠h.b->h.a6.al≠some c->h4 c=some z:=λc z I h2 h3=>f66 c z (fW c z I h3) h2
 have zn:h.b∈h.dE:=ik ..
 have Je:∀{g},h.a6.al=some g->g∈h.dE:=λ{g} e=>by simp[ev.dE,e]
 have Ay:∀c z,u c=some z->c∉h.dE->h4 c=some z:=λc z I hm=>Lf c z I (λe=>hm (by rw[e];exact zn)) λe=>hm (Je e)
 have Be:ub.le h4:=λc z I=>Ay c z (w.base c z I) λhm=>by grind
 have Ga:aD ub h4 52 2 ar ((h.rows++ [(⟨id,sv,v⟩:ax)]).flatMap cJ):=⟨bR.own.le λc z I ac=>f66 c z ac λe=>ts (by rw[<-e];exact I),Be,bR.fresh⟩
 have K6:h4.cell? ((cp h.b 0 none).add 6)=some (.slice ar.a ar.n ar.c):=by
  have:g1.a6=ar:=by rw[hV]
  have l6:h4.cell? ((cp h.b 0 none).add 6)=some (.slice g1.a6.a g1.a6.n g1.a6.c):=aZ Er 6;rw[this] at l6;exact l6
 have zt:(aw.mk h []).own=h.dE:=by unfold aw.own;rw[aw.bT,aw.na];simp
 have uY:∀r∈h.rows++ [(⟨id,sv,v⟩:ax)],Ints ub r.s r.v/\∀g,r.s.al=some g->bJ g∨sv.al=some g:=λr U=>by
  grind
 refine⟨_,rfl,_,rfl,ar,K6,leaf,H.le.cell Be q7,λ_=>?_,λ_=>?_⟩
 obtain⟨nu,pj⟩:∃nu,nu=nY h4 ar:=⟨_,rfl⟩
 have Bm:ub.le nu:=λc z I=>by rw[pj,nZ (λe=>by rw[bR.fresh c e] at I;cases I)];exact Be c z I
 refine⟨_,rfl,ar,K6,GP (ub:=nu) AX (H.le.cell Bm Ki) (H.le.cell Bm q7) ⟨Ga.own,by rw[pj];exact DJ _ _,λg Z=>by rw[pj];exact b3 Z⟩ (λr U=>((uY r U).1).mono Bm) gX (λe=>bf e (by simp)) λ_ kp ez I Z5=>?_⟩
 obtain⟨cb,dK⟩:=ez
 have pe:=I.one (cb,dK.map aw.b) (by rw[aw.bT];grind)
 have l8:kp cb.b=some (.cells (eT cb).toArray 213 (0,0)):=pe.cell
 refine⟨_,rfl,_,aZ l8 0,cb.bx,aZ l8 1,cb.fT,aZ l8 2,_,aZ l8 3,_,aZ l8 4,⟨none,0,0⟩,aZ l8 5,cb.a6,aZ l8 6,cb.dd,aZ l8 7,_,rfl,?_⟩
 have WT:kp h.b=some (.cells (eT g1).toArray 213 (0,0)):=I.uv _ _ Er ts
 refine adB (h2:=cb) WT ?_
 obtain⟨g2,gu⟩:∃g2:ev,g2={cb with b:=h.b}:=⟨_,rfl⟩
 have Xj:eT cb=eT g2:=by rw[gu];rfl
 rw[Xj]
 obtain⟨oC,Bd⟩:∃oC,oC=kp.ins h.b (.cells (eT g2).toArray 213 (0,0)):=⟨_,rfl⟩
 rw[<-Bd]
 have s3:∀c z,kp c=some z->c≠h.b->oC c=some z:=λc z dI an=>by rw[Bd,bz _ _ an];exact dI
 have Fk:h.b∉(aw.mk cb dK).own:=λhm=>by have:=(I.out _ hm).1;rw[pj,nZ ts,Er] at this;cases this
 have F7:(aw.mk cb dK).own=cb.b::((cb.bx.al.toList++cb.fT.al.toList++cb.a6.al.toList++cb.dd.al.toList)++dK.flatMap aw.own):=by rw[aw.rI];rfl
 have abP:(aw.mk g2 dK).own=h.b::((cb.bx.al.toList++cb.fT.al.toList++cb.a6.al.toList++cb.dd.al.toList)++dK.flatMap aw.own):=by rw[aw.rI,gu];rfl
 have E0:(aw.mk g2 dK).bT=(g2,dK.map aw.b)::aw.na dK:=by rw[aw.bT]
 have YN:(aw.mk cb dK).bT=(cb,dK.map aw.b)::aw.na dK:=by rw[aw.bT]
 have Dr:(aw.mk g2 dK).bG=(aw.mk cb dK).bG:=by rw[aw.hz,aw.hz,gu];rfl
 have og:=I.nodup
 have adF:∀c∈(aw.mk g2 dK).own,c=h.b∨c∈(aw.mk cb dK).own:=λc c4=>by
  grind
 have Lh:∀c z,u c=some z->c∉(aw.mk h []).own->oC c=some z:=λc z dI hm=>by
  rw[zt] at hm;refine s3 c z (I.uv c z (Ay c z dI hm) λe=>?_) λe=>hm (by rw[e];exact zn)
  grind
 have No:ub.le oC:=λc z dI=>Lh c z (w.base c z dI) λhm=>by rw[zt] at hm;rw[(lb c hm).1] at dI;cases dI
 have abd:∀{x:ev×J O},hL kp x->(∀c∈x.1.dE,c≠h.b)->(∀r∈x.1.rows,r∈h.rows++ [(⟨id,sv,v⟩:ax)])->hL oC x:=λM aa U=>M.bO (λc z c4 ac=>s3 c z ac (aa c c4)) λr fR=>((uY r (U r fR)).1).mono No
 refine uE oC _ (Way.down w (n':=.mk g2 dK) (by rw[show(aw.mk g2 dK).b=g2.b from rfl,gu];rfl) (λx M=>?_) ?_ (λc z dI _ hm=>Lh c z dI hm) (λc c4=>?_) (λx M y aj=>?_) (λy aj g Z=>.inl (aj g Z)) ?_ (by rw[Dr];exact I.ok) (by rw[Dr];exact Z5) ?_)
 rw[E0] at M
 rcases dM.1 M with rfl|M
 have aE:∀g,(cb.bx.al=some g∨cb.fT.al=some g∨cb.a6.al=some g∨cb.dd.al=some g)->g≠h.b:=λg Z e=>Fk (by
   rw[F7,<-e];refine iX _ (kG _ ?_);rw[dT,dT,dT]
   grind)
 have IJ:∀r∈cb.rows,r∈h.rows++ [(⟨id,sv,v⟩:ax)]:=λr U=>I.rows (cb,dK.map aw.b) (by grind) r U
 rw[gu]
 refine⟨?_,pe.bm.le λc z kx ac=>s3 c z ac (aE c (.inl kx)),pe.hi.le λc z kx ac=>s3 c z ac (aE c (.inr (.inl kx))),pe.rws.le λc z kx ac=>s3 c z ac (aE c (.inr (.inr (.inl kx)))),λr U=>((uY r (IJ r U)).1).mono No,bw.else pe.mf λc z kx ac=>s3 c z ac (aE c (.inr (.inr (.inr kx))))⟩
 show oC h.b=_
 rw[Bd,bh,gu]
 have gn:x∈(aw.mk cb dK).bT:=by grind
 exact abd (I.one x gn) (λc c4 e=>Fk (by rw[<-e];exact eA.2 ⟨x,gn,c4⟩)) (I.rows x gn)
 rw[abP,ka]
 rw[F7,ka] at og
 exact⟨λhm=>Fk (by rw[F7];exact iX _ hm),og.2⟩
 rcases adF c c4 with rfl|c4
 exact⟨.inl (by rw[zt];exact zn),by rw[Bd,bh];simp⟩
 obtain⟨di,dv⟩:=I.out c c4
 refine⟨?_,?_⟩
 by_cases e:ar.al=some c
 grind
 rw[pj,nZ e] at di
 cases M:u c with
 |none=>grind
 |some z=>
  grind
 obtain⟨z,ac⟩:=fp.1 dv
 grind
 rw[E0] at M
 rcases dM.1 M with rfl|M
 exact(uY y (I.rows (cb,dK.map aw.b) (by grind) y (by rw[gu] at aj;exact aj))).2
 exact(uY y (I.rows x (by grind) y aj)).2
 rw[Dr]
 refine I.all.trans ?_
 rw[en,aw.tJ,aw.bT,aw.na]
 simp only[jr,JS,ml]
 exact mH _ _
 have:=I.size
 rw[YN] at this
 rw[E0]
 rw[gG] at this
 simp only[jq,sw] at this ⊢
 omega
 have aq:=abq (id:=id) (sv:=sv) (s:=ar) (Jp aQ w.ok) ch
 rw[<-hV] at aq
 have NX:(aw.mk g1 []).own=g1.dE:=by unfold aw.own;rw[aw.bT,aw.na];simp
 have abI:(aw.mk g1 []).bT=[(g1,[])]:=by rw[aw.bT,aw.na];rfl
 have abx:∀c∈g1.dE,c=h.b∨(h.bx.al=some c∨h.fT.al=some c∨h.dd.al=some c)∨ar.al=some c:=λc I=>by
  rw[hV] at I;have I:=(r1 _).mem_iff.1 I
  grind
 refine uE h4 _ (Way.down w (n':=.mk g1 []) XA (λx M=>?_) ?_ (λc z I _ hm=>Ay c z I (by rw[<-zt];exact hm)) (λc I=>?_) (λx M y aj=>?_) (λy aj g Z=>.inl (aj g Z)) aq.2 aq.1 ?_ (by grind))
 rw[abI,hZ] at M
 subst M
 have cB:∀{s:N} {c:O} {z:Obj},(h.bx.al=some c∨h.fT.al=some c∨h.dd.al=some c)->u c=some z->h4 c=some z:=λ{s c z} I ac=>Lf c z ac (Fv c I).2.1 (Fv c I).2.2
 refine⟨by grind,?_,?_,?_,λr U=>?_,?_⟩
 rw[hV];exact jn.bm.le λc z I ac=>cB (s:=h.bx) (.inl I) ac
 rw[hV];exact jn.hi.le λc z I ac=>cB (s:=h.bx) (.inr (.inl I)) ac
 rw[hV];exact Ga.own
 rw[hV] at U;exact((uY r U).1).mono Be
 rw[hV];exact bw.else jn.mf λc z I ac=>cB (s:=h.bx) (.inr (.inr I)) ac
 rw[NX,hV]
 refine WI b8 _ λg Z=>(fC g Z).imp (λe=>e) λe hm=>(lb g hm).2.1 e
 rw[NX] at I
 rw[zt]
 rcases abx c I with rfl|I|I
 grind
 obtain⟨di,dv,ef⟩:=Fv c I
 obtain⟨z,ac⟩:=fp.1 (lb c di).2.1
 grind
 exact⟨(fC c I).imp Je (λe=>⟨e,trivial⟩),dH Ga I⟩
 grind
 rw[aw.hz]
 refine .mk ?_ λk hk=>(by cases hk)
 show g1.aC=2
 rw[hV]
 exact fM
structure Wn(ak u:H)(ah:O->aA bB)(b:O)(T:aU)(id:o)(u':H)(aY:O->aA bB)(bD:aU):Prop where
 is:In ak u' aY b bD
 eJ:hM u ah u' aY
 ok:dX bD
 rows:bi bD=(bi T).filter λx=>x.1 !=id
 dim:bD.dim=T.dim
 leaf:bD.leaf=T.leaf
 eW:bD.eW=T.eW
 no:id∉bD.w.map (·.1)
 vM:bD.w.length<512
theorem ac4{ah:O->aA bB}{T:aU}{id:o}{K:ay->o->H->Prop}(h:In ak u ah b T)(aV:dX T)(jk:T.eW<=4000)(tf:id∉T.w.map (·.1)->T.w.length<512)
  (au:∀c0 u' aY bD,Wn ak u ah b T id u' aY bD->K c0 0 u'):PT (some ⟨b,0,none⟩) id u K:=by
 refine wL h aV jk (λdR aR gB=>au _ aR ah T ⟨h.mono bO gB,hM.mono gB,aV,?_,rfl,rfl,rfl,dR,tf dR⟩) λch aR c5 ba U=>au _ aR c5 ba ⟨U.is,U.eJ,U.ok,U.rows,U.dim,U.leaf,U.eW,?_,?_⟩
 refine(qe.2 λx M=>?_).symm
 have:x.1≠id:=λe=>dR (by rw[<-nQ];grind)
 simpa using this
 rw[<-nQ,U.rows]
 grind
 have ae:=aV.small
 have aT:ba.w.length=(bi ba).length:=by simp[bi]
 have aN:T.w.length=(bi T).length:=by simp[bi]
 rw[<-nQ] at ch
 obtain⟨p,ad,e⟩:=bQ.1 ch
 have:((bi T).filter λp=>p.1 !=id).length<(bi T).length:=OD.2 ⟨p,ad,by simp[e]⟩
 rw[U.rows] at aT
 omega
def ap8{ks:J aw}(ad:gr d (aw.mk h ks).bG)(fM:h.aC=2):(h.bm.length:o)=d/\(h.hi.length:o)=d:=by have h1:=ad.kb;rw[aw.hz] at h1;obtain⟨_,_,_,ae⟩:=h1;rcases ae with⟨e,_⟩|⟨_,e⟩|⟨e,_⟩;have:h.aC=1:=e;omega;exact⟨e.2.2.2.1,e.2.2.2.2.1⟩;have:h.aC=3:=e;omega
def NR:∀{l:J O} {x:O},x∈l->x<=l.sum
 |y::l,x,h=>by rw[List.sum_cons];rcases dM.1 h with rfl|h;omega;have:=NR h;omega
def abg{ks:J aw}{i:O}(hi:i<ks.length):ks[i].bT.length<(aw.mk h ks).bT.length:=by rw[aw.bT,aw.Iq,jq,List.length_flatMap];have:ks[i].bT.length<=(ks.map λk=>k.bT.length).sum:=NR (bQ.2 ⟨ks[i],ln hi,rfl⟩);omega
theorem DO{ah:O->aA bB}{T:aU}{id:o}{t:N}{q:J o}{K:ay->o->H->Prop}(h:In ak u ah b T)(aV:dX T)(jk:T.eW<=4000)(ht:Ints u t q)(mz:∀aR c5,ak.le aR->hM u ah aR c5->Ints aR t q)
  (dq:eM id q T.dim (decide (id∈(bi T).map (·.1))) (bi T).length≠0->K ao (eM id q T.dim (decide (id∈(bi T).map (·.1))) (bi T).length) u)
  (bM:eM id q T.dim (decide (id∈(bi T).map (·.1))) (bi T).length=0->∀u' aY bD,ug ak u ah b T id q u' aY bD->K (decide (id∉(bi T).map (·.1))) 0 u'):aeC (some ⟨b,0,none⟩) id t u K:=by
 apply aFw
 refine⟨λe=>(by cases e),λ_=>⟨_,rfl,_,aZ h.aJ.cell 3,?_⟩⟩
 obtain⟨y,aj,iS⟩:∃y:N,(gm (ec T.w) id).getD (.slice none 0 0)=aI.slice.enc y/\(gm (ec T.w) id).isSome=decide (id∈(bi T).map (·.1)):=by rw[nQ];rcases s8 T.w id with⟨Z,hm⟩|⟨e,he,cy,Z⟩;exact⟨⟨none,0,0⟩,by rw[Z];rfl,by grind⟩;exact⟨e.2.1,by rw[Z];rfl,by grind⟩
 refine tU je h.aJ.map (ct:=.slice) y aj ?_
 rw[iS]
 refine⟨_,rfl,_,rfl,_,aZ h.aJ.cell 0,_,aZ h.aJ.cell 3,wK je h.aJ.map ⟨H.le.refl u,Kc ht ?_⟩⟩
 rw[Ll]
 refine⟨λan=>dq an,λhe=>?_⟩
 have bM:=bM he
 obtain⟨d1,d2,xK,d4⟩:1<=id/\id<=1000000000/\gx q T.dim=0/\(decide (id∈(bi T).map (·.1))=ao->((bi T).length:o)<512):=by
  unfold eM at he
  grind
 obtain⟨aT,aN,dG,gz⟩:=n1 xK
 have aa:(!decide (decide (id∈(bi T).map (·.1))=ai))=decide (id∉(bi T).map (·.1)):=by grind
 have eB:∀W:H,K (decide (id∉(bi T).map (·.1))) 0 W->K (!decide (decide (id∈(bi T).map (·.1))=ai)) 0 W:=λW aE=>by rw[aa];exact aE
 refine ac4 h aV jk (λdR=>?_) λ_ aR c5 ba Z=>?_
 have:=d4 (q0 (by rw[nQ];exact dR))
 have gI:T.w.length=(bi T).length:=by simp[bi]
 omega
 have i1:=Z.is
 have lC:=Z.ok
 have qM:=mz aR c5 i1.le Z.eJ
 refine sI qM (by have:=qM.len;omega) λdg gL gg _=>?_
 have wh:=gg.le
 have aJ:=(mP.mono bO i1 wh).aJ
 refine⟨_,rfl,_,aZ aJ.cell 3,DK je aJ.map (yL.2 (by unfold ec;rw[e4];exact Z.no)) λqb iF=>?_⟩
 obtain⟨fg,Bb⟩:∃fg,fg=gL.ins ba.m qb:=⟨_,rfl⟩
 rw[<-Bb] at iF ⊢
 have m20:fg ba.m=some qb:=by rw[Bb];exact bh _ _ _
 have qC:∀c z,gL c=some z->c≠ba.m->fg c=some z:=λc z I an=>by rw[Bb,bz _ _ an];exact I
 have lA:∀{c},c5 c≠some .map->c≠ba.m:=λI e=>I (by rw[e];exact aJ.dy)
 have n20:∀{c},fg c=none->aR c=none/\dg.al≠some c:=λ{c} I=>by
  have an:c≠ba.m:=λe=>by grind
  have xd:gL c=none:=by rw[Bb,bz _ _ an] at I;exact I
  exact⟨wh.none xd,λe=>dH gg e xd⟩
 have smap:∀g,dg.al=some g->aR g=none/\g≠ba.m:=λg cu=>⟨gg.fresh g cu,λe=>by have:=i1.known ba.m (by rw[aJ.dy];simp);rw[<-e] at this;exact this (gg.fresh g cu)⟩
 have ME:fE fg ba.m (ec (ba.w++ [(id,(dg,q))])):=by
  have:ec (ba.w++ [(id,(dg,q))])=ec ba.w++ [(id,.slice dg.a dg.n dg.c)]:=by simp[ec]
  rw[this];exact iF
 have BR:Ints fg dg q:=bw.else gg.ints λg z cu ac=>qC g z ac (smap g cu).2
 have pa:fg b=some (.cells (fx ba).toArray 169 (0,0)):=qC _ _ aJ.cell (lA (by rw[aJ.dQ];simp))
 have aDN:fg.cell? ⟨b,0,none⟩=some (.int .i64 ba.dim):=aZ pa 0
 have anJ:fg.cell? ((cp b 0 none).add 1)=some (.int .i64 ba.leaf):=aZ pa 1
 have Fu:(q.length:o)=ba.dim:=by rw[Z.dim];exact dG
 have fin:∀u' r,Ed aR c5 b ba id dg q u' r->K (!decide (decide (id∈(bi T).map (·.1))=ai)) 0 u':=λu' r ab=>by obtain⟨aY,bD,f1,f2,f3,f4,f5,f6,f7⟩:=ab.acB i1 lC ⟨d1,d2⟩ ⟨Fu,gz⟩ Z.vM;refine eB _ (bM u' aY bD ⟨f1,Z.eJ.trans f2,f3,by rw[<-Z.rows];exact f4,f5.trans Z.dim,f6.trans Z.leaf,by rw[<-Z.eW];exact f7⟩)
 have M1:∀l:J ax,((l.map ax.bn).Perm ((id,q)::lG ba)∨∃m:J ke,((l.map ax.bn)++m).Perm ((id,q)::lG ba))->gD l ba.dim:=λl aq=>by
  obtain⟨m,hm⟩:∃m:J ke,((l.map ax.bn)++m).Perm ((id,q)::lG ba):=aq.elim (λh=>⟨[],by grind⟩) λh=>h;have eX:((l.map ax.bn)++m).Perm ((id,q)::bi ba):=hm.trans (j9 _ lC.rows);have b8:(((id,q)::bi ba).map (·.1)).Nodup:=by rw[iw,ka];exact⟨by rw[nQ];exact Z.no,i1.aJ.rW⟩
  have hlen:=eX.length_eq;have tf:=Z.vM;simp only[gG,eb,jq,bi] at hlen;refine zP lC.hP (by omega) ?_ λp ad=>?_;have:=(eX.map (·.1)).nodup_iff.2 b8;rw[en,hg] at this;rw[show l.map (·.id)=(l.map ax.bn).map (·.1) by rw[e4];rfl];exact this.1;rcases dM.1 (eX.mem_iff.1 (kG _ ad)) with rfl|ad
  grind
  obtain⟨e,fW,rfl⟩:=bQ.1 ad;exact⟨(lC.ids e fW).1,(lC.ids e fW).2,lC.vec e fW⟩
 cases lf:ba.root with
 |none=>
  have uz:fg.cell? ((cp b 0 none).add 2)=some (.pointer none):=by
   have M:fx ba=[.int .i64 ba.dim,.int .i64 ba.leaf,.pointer none,.map (some ba.m)]:=by simp[fx,lf]
   rw[M] at pa;exact aZ pa 2
  have xh:lG ba=[]:=by unfold lG;rw[lf]
  refine⟨_,rfl,none,uz,λ_=>?_,λan=>bf rfl an⟩;refine mK (vI id dg) λg uH=>?_;obtain⟨Bq,MW⟩:∃Bq,Bq=(bt [cN .i64 id,.slice dg.a dg.n dg.c].toArray 52 (0,0)):=⟨_,rfl⟩;rw[<-MW];have SS:fg.le (fg.ins g Bq):=bX _ uH;have nK:aD fg (fg.ins g Bq) 52 2 ⟨some ⟨g,0,none⟩,1,1⟩ (([⟨id,dg,q⟩]:J ax).flatMap cJ):=by rw[MW];exact aD.make (H.le.refl fg) uH (cells:=[cN .i64 id,.slice dg.a dg.n dg.c].toArray) (n:=1) (by omega) rfl
  refine GP (ub:=fg) (by have:=lC.Bk;omega) aDN anJ nK (λr U=>by rw[hZ.1 U];exact BR) (M1 _ (.inl (by rw[xh];exact .refl _))) (λe=>by cases e) λ_ qm ez I fM=>?_;have XD:g≠b:=λe=>by grind
  have u3:∀c z,fg c=some z->qm c=some z:=λc z dI=>I.uv c z (SS c z dI) λe=>by
   have:g=c:=by simpa[N.al] using e
   grind
  have Cu:qm b=some (.cells #[.int .i64 ba.dim,.int .i64 ba.leaf,.pointer none,.map (some ba.m)] 169 (0,0)):=by have:=u3 _ _ pa;rw[show fx ba=[.int .i64 ba.dim,.int .i64 ba.leaf,.pointer none,.map (some ba.m)] by simp[fx,lf]] at this;exact this
  refine⟨_,rfl,Ph Cu ?_⟩;obtain⟨ym,Bc⟩:∃ym,ym=qm.ins b (.cells #[.int .i64 ba.dim,.int .i64 ba.leaf,.pointer (some ⟨ez.b,0,none⟩),.map (some ba.m)] 169 (0,0)):=⟨_,rfl⟩;rw[<-Bc];have rB:∀c z,qm c=some z->c≠b->ym c=some z:=λc z dI an=>by rw[Bc,bz _ _ an];exact dI
  have QF:b∉ez.own:=λe=>by have:=(I.out b e).1;grind
  have vH:ba.m≠b:=λe=>by have h1:=aJ.dy;rw[e,aJ.dQ] at h1;cases h1
  have gH:∀b5,dg.al=some b5->b5≠b:=λb5 cu e=>by
   have:=i1.known b (by rw[aJ.dQ];simp)
   grind
  have SN:∀c z,aR c=some z->c≠ba.m->c≠b->ym c=some z:=λc z dI h1 h2=>rB c z (u3 c z (qC c z (wh c z dI) h1)) h2;refine fin ym ez ⟨?_,ME.else λz ac=>rB _ z (u3 _ z ac) vH,bw.else BR λb5 z cu ac=>rB b5 z (u3 b5 z ac) (gH b5 cu),λb5 cu=>⟨(smap b5 cu).1,?_⟩,λc z dI ab=>?_,λc dI ab=>?_,λx M=>?_,I.nodup,λc dI=>?_,λx M r U b5 cu=>?_,?_,I.ok,fM,?_⟩;rw[Bc,bh];rfl;obtain⟨z,ac⟩:=fp.1 (dH gg cu)
  grind
  refine SN c z dI (lA ?_) λe=>?_
  grind
  rw[e,aJ.dQ] at ab
  grind
  by_cases h1:c=ba.m
  grind
  by_cases h2:c=b;rw[h2,Bc,bh];simp;obtain⟨z,ac⟩:=fp.1 dI
  grind
  refine(I.one x M).bO (λc z c4 ac=>rB c z ac λe=>QF (by rw[<-e];exact eA.2 ⟨x,M,c4⟩)) λr U=>?_;rw[hZ.1 (I.rows x M r U)];exact bw.else BR λb5 z cu ac=>rB b5 z (u3 b5 z ac) (gH b5 cu);obtain⟨di,dv⟩:=I.out c dI;obtain⟨z,ac⟩:=fp.1 dv
  grind
  rw[hZ.1 (I.rows x M r U)] at cu;exact .inr cu;rw[xh];exact I.all;have:=I.size
  grind
 |some n0=>
  obtain⟨di,dv,ef,hl⟩:=aJ.one n0 lf;have uz:fg.cell? ((cp b 0 none).add 2)=some (.pointer (some ⟨n0.b,0,none⟩)):=by
   have M:fx ba=[.int .i64 ba.dim,.int .i64 ba.leaf,.pointer (some ⟨n0.b,0,none⟩),.map (some ba.m)]:=by simp[fx,lf]
   rw[M] at pa;exact aZ pa 2
  have xh:lG ba=n0.bG.all:=by unfold lG;rw[lf]
  obtain⟨ub,cC⟩:∃ub:H,ub=λc=>open Classical in if c∈n0.own then none else fg c:=⟨_,rfl⟩;have DX:∀{c},c∈n0.own->ub c=none:=λI=>by rw[cC];exact b3 I
  have ja:∀{c},c∉n0.own->ub c=fg c:=λI=>by rw[cC];exact bF I
  have lub:ub.le fg:=λc cn I=>by
   grind
  have nT:∀{c},c5 c≠some .node->c∉n0.own:=λI e=>I (ef _ e);have ac3:∀g,dg.al=some g->g∉n0.own:=λg cu e=>i1.known g (by rw[ef g e];simp) (smap g cu).1;have l5:ub b=some (.cells (fx ba).toArray 169 (0,0)):=by rw[ja (nT (by rw[aJ.dQ];simp))];exact pa
  have BS:Ints ub dg q:=bw.else BR λg z cu ac=>by grind
  have Le:∀c z,gL c=some z->c5 c≠some .map->c5 c≠some .node->ub c=some z:=λc z I h1 h2=>by grind
  have Ns:∀x∈n0.bT,∀r∈x.1.rows,Ints ub r.s r.v:=λx M r U=>bw.else ((di x M).vec r U) λg z cu ac=>Le g z ac (by grind) (by grind);have wT:Way 2 ub fg ba.dim q (λ_=>True) (λg=>c5 g=some .vec) n0 [] n0:=by
   refine Way.start lub (λ_ _=>trivial) (λx M=>(di x M).bO (λc z I ac=>qC c z ac (lA ?_)) λr U=>(Ns x M r U).mono lub) dv (λc I=>⟨DX I,?_,trivial⟩) (λx M r U=>⟨Ns x M r U,λg cu=>hl x M r U g cu⟩) (lC.ok n0 lf) (lC.oA n0 lf);rw[ef c (eA.2 ⟨x,M,I⟩)];simp;have hk:=i1.known c (by rw[ef c I];simp)
   grind
  refine⟨_,rfl,_,uz,λe=>(by cases e),λ_=>⟨_,rfl,_,uz,?_⟩⟩
  let At:aA a8->H->O->Prop:=λp w f=>∃aQ n,p=some ⟨n.b,0,none⟩/\Way 2 ub w ba.dim q (λ_=>True) (λg=>c5 g=some .vec) n0 aQ n/\n.bT.length=f
  refine⟨λp w=>∃f,At p w f,λp w=>least (At p w),⟨_,[],n0,rfl,wT,rfl⟩,λN7 mM cv=>?_⟩;have nb:=FZ cv;generalize RP:least (At N7 mM)=f at nb;obtain⟨aQ,n,ad,w,avW⟩:=nb;obtain⟨e2,ks⟩:=n;obtain rfl:N7=some ⟨e2.b,0,none⟩:=ad;obtain⟨jn,b8,lb,ni,fM⟩:=w.head;have tq:=Jp aQ w.ok;obtain⟨afs,ap6⟩:=ap8 tq fM;refine ac8 BS w.base jn b8 (λc I=>(lb c I).1) (λr U=>(ni r U).1) (by omega) (by omega) (by have:=lC.hP;omega) λho Fs eC kj=>?_;obtain⟨EI,AF⟩:=XI (ks:=ks) fM tq gz Fu;have tY:Way 2 ub ho ba.dim q (λ_=>True) (λg=>c5 g=some .vec) n0 aQ (.mk (jc e2 q) ks):=w.eJ rfl rfl rfl Fs eC kj EI;have HC:ho e2.b=some (.cells (eT (jc e2 q)).toArray 213 (0,0)):=Fs.cell;have w6:ho.cell? ((cp e2.b 0 none).add 7)=some (.slice e2.dd.a e2.dd.n e2.dd.c):=aZ HC 7;have sj:bw ho e2.dd 1 ((ks.map aw.b).map λn=>.pointer (some ⟨n,0,none⟩)):=Fs.mf;have Z8:e2.dd.n=ks.length:=by have:=sj.len;simpa using this.symm
  have fQ:=bw.cap sj;have tk:=bw.max sj;refine⟨_,rfl,e2.dd,w6,λh0=>?_,λh0=>?_⟩;obtain rfl:ks=[]:=qW (by omega);refine adh (h:=jc e2 q) tY (by have:=lC.Bk;omega) (aZ l5 0) (aZ l5 1) BS (M1 _ (.inr ?_)) AF λu' r av=>fin u' r ?_;refine⟨(jQ aQ e2.b).flatMap λx=>x.1.rows.map ax.bn,?_⟩;have gI:=(Jo aQ (.mk e2 [])).symm.trans w.all;rw[xh];have nE:(aw.mk e2 []).bG.all=e2.rows.map ax.bn:=by rw[aw.tJ,aw.bT,aw.na];simp
  rw[nE] at gI;rw[en];refine(List.Perm.append_right _ (mH _ _)).trans ?_;exact j9 _ gI;have b4:fx {ba with root:=some r}=fx ba:=by simp[fx,lf,av.b]
  refine⟨by rw[b4];exact av.le _ _ l5,?_,BS.mono av.le,λg cu=>⟨(smap g cu).1,?_⟩,λc z I ab=>?_,λc I ab=>?_,av.one,av.nodup,λc I=>⟨?_,(av.own c I).2⟩,λx M y aj g cu=>av.rws x M y aj g cu,by rw[xh];exact av.all,av.ok,av.oA,?_⟩;exact ME.else λz ac=>av.le _ _ (by grind);obtain⟨z,ac⟩:=fp.1 (dH gg cu);rw[av.le g z (by grind)];simp;exact av.le c z (Le c z (wh c z I) (by grind) (by grind));by_cases h1:c=ba.m;rw[h1,av.le _ _ (by rw[ja (nT (by rw[aJ.dy];simp))];exact m20)];simp;obtain⟨z,ac⟩:=fp.1 I;rw[av.le c z (by rw[ja (nT ab)];exact qC c z (wh c z ac) h1)];simp;have h1:=(av.own c I).1.1
  grind
  have h1:=av.size;have h2:=lC.size n0 lf;omega;have hW:0<ks.length:=by omega
  have mf:∀(i:O) (hi:i<ks.length),hL ho (ks[i].h,ks[i].kids.map aw.b)/\l3 (ks[i].bG.hI []) q.length:=λi hi=>by
   have mb:(ks[i].h,ks[i].kids.map aw.b)∈(aw.mk (jc e2 q) ks).bT++jQ aQ (aw.mk (jc e2 q) ks).b:=by rw[aw.bT,aw.Iq];refine kG _ (iX _ (eA.2 ⟨ks[i],ln hi,?_⟩));rw[aw.iD];exact ik ..
   refine⟨tY.one _ mb,?_⟩;have h3:=EI.kids ks[i].bG (by rw[aw.hz];exact kH (ln hi));rw[Fu];exact h3.kb
  have tD:∀(i:O) (hi:i<ks.length) {Q:o->o->o->H->Prop},(∀x y,Q x y 0 ho)->∃aoz:o,((H.cell? ho ⟨ks[i].b,0,none⟩)=(some (cN b2 aoz)))/\(∃T2:N,((H.cell? ho (er ⟨ks[i].b,0,none⟩ 1))=(some (ed T2.a T2.n T2.c)))/\(∃T3:N,((H.cell? ho (er ⟨ks[i].b,0,none⟩ 2))=(some (ed T3.a T3.n T3.c)))/\(∃aoA:o,((H.cell? ho (er ⟨ks[i].b,0,none⟩ 3))=(some (cN bu aoA)))/\(∃aoB:o,((H.cell? ho (er ⟨ks[i].b,0,none⟩ 4))=(some (cN bu aoB)))/\(∃T4:N,((H.cell? ho (er ⟨ks[i].b,0,none⟩ 5))=(some (ed T4.a T4.n T4.c)))/\(D7 aoz T2 T3 aoA aoB T4 dg ho Q)))))):=λi hi Q fj=>by
   obtain⟨abi,FT⟩:=mf i hi;have Df:ho ks[i].b=some (.cells (eT ks[i].h).toArray 213 (0,0)):=abi.cell;have U:(ks[i].bG.hI [])=⟨ks[i].h.aC,⟨none,0,0⟩,⟨none,0,0⟩,ks[i].h.cD,⟨none,0,0⟩,ks[i].h.bm,ks[i].h.hi,[]⟩:=by rw[aw.hz];rfl
   rw[U] at FT;exact⟨_,aZ Df 0,ks[i].h.bx,aZ Df 1,ks[i].h.fT,aZ Df 2,_,aZ Df 3,_,aZ Df 4,⟨none,0,0⟩,aZ Df 5,
    adr (r:=⟨ks[i].h.aC,ks[i].h.bx,ks[i].h.fT,ks[i].h.cD,⟨none,0,0⟩,ks[i].h.bm,ks[i].h.hi,[]⟩) abi.bm.f.ints abi.hi.f.ints ⟨FT.dim,FT.ids,FT.id,FT.shape⟩ (.inl rfl) (BS.mono tY.base) gz (fj _ _)⟩
  obtain⟨a0,yQ,pd⟩:=Jr sj (i:=0) (by simpa using hW);rw[DD] at pd;refine⟨_,rfl,e2.dd,w6,a0,yQ,⟨by omega,by omega⟩,_,by simpa using pd,_,rfl,tD 0 hW λaLd aLe=>⟨_,rfl,e2.dd,w6,?_⟩⟩;refine kJ adJ (l:=1) (h:=e2.dd.n) (m:=e2.dd.c) (.inr rfl) (.inl ⟨rfl,rfl⟩) (.inl ⟨rfl,rfl⟩) (by omega) fQ (cw _) fQ ?_;have awN:bw ho (e2.dd.part 1 e2.dd.n e2.dd.c 1) 1 (((ks.drop 1).map aw.b).map λn=>.pointer (some ⟨n,0,none⟩)):=by have:=bw.part sj (l:=1) (h:=e2.dd.n) (m:=e2.dd.c) (by omega) (cw _) fQ (cw _);rw[gC (by simp;omega)] at this;rw[Ov,Ov];exact this
  have fK:(e2.dd.part 1 e2.dd.n e2.dd.c 1).n=ks.length-1:=by show e2.dd.n-1=_;omega
  refine⟨λp x _ _ w=>0<=x/\w=ho/\∃(i:O) (hi:i<ks.length),p=some ⟨ks[i].b,0,none⟩,λ_ x _ _ _=>((ks.length:o)-x).toNat,⟨by omega,rfl,0,hW,rfl⟩,?_⟩;rintro aKB B2 aK9 aLa yk ⟨bK,rfl,i,hi,rfl⟩;refine⟨λM=>?_,λM=>?_⟩;have eY:B2.toNat+1<ks.length:=by omega
  obtain⟨Y,AL,iO⟩:=Jr awN (i:=B2.toNat) (by grind);rw[DD,TJ] at iO;have ex:1+B2.toNat=B2.toNat+1:=by omega
  simp only[ex] at iO;have st:∀(p:aA a8),(∃(i:O) (hi:i<ks.length),p=some ⟨ks[i].b,0,none⟩)->(a7 (B2+1))/\((0<=B2+1/\yk=yk/\∃(i:O) (hi:i<ks.length),p=some ⟨ks[i].b,0,none⟩)/\((ks.length:o)-(B2+1)).toNat<((ks.length:o)-B2).toNat):=λp fL=>⟨⟨by omega,by omega⟩,⟨by omega,rfl,fL⟩,by omega⟩;refine⟨Y,AL,⟨bK,M⟩,_,iO,_,rfl,tD (B2.toNat+1) eY λaLb aLc ao6 au=>?_⟩;have l7:∀c0,ao6 c0 yk:=λc0=>au c0 yk ⟨λ_=>st _ ⟨_,eY,rfl⟩,λ_=>st _ ⟨i,hi,rfl⟩⟩;exact⟨λ_=>l7 _,λ_=>⟨λ_=>l7 _,λ_=>l7 _⟩⟩;have pV:ks=ks.take i++ks[i]::ks.drop (i+1):=by rw[<-qV hi,px]
  have hw:Way 2 ub yk ba.dim q (λ_=>True) (λg=>c5 g=some .vec) n0 (⟨jc e2 q,ks.take i,ks.drop (i+1)⟩::aQ) ks[i]:=by refine Way.mf (by rw[<-pV];exact tY) ?_;rw[aw.hz] at AF;exact AF
  have bP:=abg (h:=e2) hi;have sa:At (some ⟨ks[i].b,0,none⟩) yk ks[i].bT.length:=⟨_,_,rfl,hw,rfl⟩;refine⟨⟨_,sa⟩,?_⟩;have:=least_le sa
  grind
end
end k6
section
variable{u:H}{s t:N}{l:J (N×J o)}{d:o}{p:bI}
inductive j1:bI->Prop where
 |mk {p:bI} (two:p.kids.length=0∨p.kids.length=2) (kids:∀k∈p.kids,j1 k):j1 p
def j1.two(h:j1 p):p.kids.length=0∨p.kids.length=2:=by cases h;assumption
def j1.kids(h:j1 p):∀k∈p.kids,j1 k:=by cases h;assumption
def j1.del{id:o}(h:j1 p):j1 (p.del id):=by
 induction p using bI.ind with
 |h p aW=>
  rw[bI.del_eq];have h1:(p.kids.map (bI.del id)).length=0∨(p.kids.map (bI.del id)).length=2:=by rw[eb];exact h.two
  refine .mk h1 λk hk=>?_;obtain⟨dY,dk,rfl⟩:=bQ.1 (show k∈p.kids.map (bI.del id) from hk);exact aW dY dk (h.kids dY dk)
theorem arV{f:kq}{n n':aw}(h:j1 (f.fill n).bG)(bZ:j1 n'.bG):j1 (f.fill n').bG:=by
 have h1:=h.two;have h2:=h.kids;rw[CG] at h1 h2;refine .mk ?_ λk hk=>?_;rw[CG]
 grind
 rw[CG] at hk;obtain⟨W,aE,rfl⟩:=bQ.1 hk;rw[dT,dM] at aE;rcases aE with aE|rfl|aE;exact h2 _ (kH (kG _ aE));exact bZ;exact h2 _ (kH (q1 _ (iX _ aE)))
def QC:∀(aQ:J kq) {n:aw},j1 (nn aQ n).bG->j1 n.bG
 | [],_,h=>h|f::aQ,n,h=>by have h3:=(QC aQ (n:=f.fill n) h).kids;rw[CG] at h3;exact h3 _ (kH (by simp))
def Ti:∀(aQ:J kq) {n n':aw},j1 (nn aQ n).bG->j1 n'.bG->j1 (nn aQ n').bG
 | [],_,_,_,bZ=>bZ|f::aQ,n,n',h,bZ=>Ti aQ (n:=f.fill n) (n':=f.fill n') h (arV (QC aQ (n:=f.fill n) h) bZ)
theorem afr{h:ev}{ks:J aw}(bZ:j1 (aw.mk h ks).bG):(ks.length=0∨ks.length=2)/\∀k∈ks,j1 k.bG:=by rw[aw.hz] at bZ;have h1:=bZ.two;have h2:=bZ.kids;refine⟨by have h3:(ks.map aw.bG).length=0∨(ks.map aw.bG).length=2:=h1;grind,λk hk=>h2 k.bG (show k.bG∈ks.map aw.bG from kH hk)⟩
theorem QB{h:ev}{ks:J aw}(h1:ks.length=0∨ks.length=2)(h2:∀k∈ks,j1 k.bG):j1 (aw.mk h ks).bG:=by rw[aw.hz];refine .mk (by show(ks.map aw.bG).length=0∨(ks.map aw.bG).length=2;grind) λk hk=>?_;obtain⟨W,aE,rfl⟩:=bQ.1 (show k∈ks.map aw.bG from hk);exact h2 W aE
def encS(s:N):J ap:=[.slice s.a s.n s.c]
def vK(c:N×J o):(encS c.1).length=1:=rfl
structure mR(u:H)(s:N)(l:J (N×J o)):Prop where
 cK:bw u s 1 (l.flatMap λc=>encS c.1)
 ints:∀c∈l,Ints u c.1 c.2
def mR.mono{u':H}(h:mR u s l)(k:u.le u'):mR u' s l:=⟨h.cK.mono k,λc I=>(h.ints c I).mono k⟩
def mR.len(h:mR u s l):s.n=l.length:=hf vK (by decide) h.cK
def mR.at(h:mR u s l){x:o}(h0:0<=x)(h1:x<(s.n:o)):∃p,s.a=some p/\∃c,l[x.toNat]?=some c/\c∈l/\u.cell? (p.add (x.toNat*1))=some (.slice c.1.a c.1.n c.1.c)/\Ints u c.1 c.2:=by
 have ag:=h.len;have aq:x.toNat<l.length:=by omega
 have M:l[x.toNat]?=some l[x.toNat]:=dj aq;obtain⟨p,ad,I⟩:=bw.elem vK (by decide) h.cK M;exact⟨p,ad,_,M,ln aq,I 0 _ rfl,h.ints _ (ln aq)⟩
structure wW(l:J (N×J o))(d:o):Prop where
 dim:1<=d/\d<=64
 many:0<l.length/\l.length<=64
 each:∀c∈l,(c.2.length:o)=d/\cY c.2
def adf{K:o->H->Prop}(h:mR u s l)(av:1<=d/\d<=64)(I:∀c∈l,(c.2.length:o)=d/\cY c.2)(aq:l.length<=1000000)(au:K 0 u):PV s d u K:=by have ag:=h.len;apply aFF;refine⟨λ_ x v=>v=u/\0<=x,λ_ x _=>((s.n:o)-x).toNat,⟨rfl,by omega⟩,?_⟩;rintro _ x v ⟨rfl,bK⟩;refine⟨λM=>?_,λ_=>au⟩;obtain⟨p,ad,c,_,c4,bA,hi⟩:=h.at bK M;obtain⟨aT,aN⟩:=I c c4;exact⟨p,ad,⟨bK,M⟩,_,bA,qg hi ⟨λan=>bf (G9 aN aT av) an,λ_=>⟨⟨by omega,by omega⟩,⟨rfl,by omega⟩,by dsimp only;omega⟩⟩⟩
def aB7{K:o->H->Prop}(h:mR u s l)(I:wW l d)(au:K 0 u):Vp s u K:=by have ag:=h.len;have hm:=I.many;apply aoj;intro iK h0;refine⟨λM=>bf M (by omega),λ_=>⟨λM=>bf M (by omega),λ_=>h0 _ _ ?_⟩⟩;obtain⟨p,ad,c,_,c4,bA,hi⟩:=h.at (x:=0) (by omega) (by omega);have pQ:=hi.len;obtain⟨aT,aN⟩:=I.each c c4;refine⟨p,ad,⟨by omega,by omega⟩,_,bA,?_⟩;dsimp only;rw[show(c.1.n:o)=d by omega];exact adf h I.dim I.each (by omega) au
def mD(cs:J (J o))(v:J o):O->O×o
 |0=>(0,0)|n+1=>if n=0∨gb (cs.getD n []) v v.length<(mD cs v n).2 then(n,gb (cs.getD n []) v v.length) else mD cs v n
theorem akK(cs:J (J o))(v:J o):∀n,0<n->(mD cs v n).1<n:=by
 intro n;induction n with
 |zero=>intro h;omega
 |succ n aW=>
  intro _;unfold mD
  grind
theorem adg{v:J o}{K:o->o->o->H->Prop}(h:mR u s l)(I:wW l d)(ht:Ints u t v)(aB:cY v)(Db:(v.length:o)=d)
  (au:K (mD (l.map (·.2)) v l.length).1 (cQ (mD (l.map (·.2)) v l.length).2) (cS (mD (l.map (·.2)) v l.length).2) u):PW s t u K:=by
 have ag:=h.len
 have hm:=I.many
 have W:cE 0:=⟨by omega,by omega⟩
 have av:=I.dim
 apply aFH
 refine⟨λa i x y w=>w=u/\0<=i/\i<=s.n/\a=(mD (l.map (·.2)) v i.toNat).1/\cE x/\cE y/\dw x y=(mD (l.map (·.2)) v i.toNat).2,λ_ i _ _ _=>((s.n:o)-i).toNat,⟨rfl,by omega,by omega,rfl,W,W,rfl⟩,?_⟩
 rintro a i x y w ⟨rfl,i0,i1,QU,M,aj,hw⟩
 refine⟨λhi=>?_,λhi=>?_⟩
 obtain⟨p,ad,c,pR,c4,bA,pQ⟩:=h.at i0 hi
 obtain⟨aT,aN⟩:=I.each c c4
 have oJ:(l.map (·.2)).getD i.toNat []=c.2:=by grind
 have hlen:c.2.length=v.length:=by omega
 refine⟨p,ad,⟨i0,hi⟩,_,bA,BN pQ ht aN (by omega) aB hlen λk3 kM gn jC lh=>?_⟩
 rw[hlen] at lh
 have step:mD (l.map (·.2)) v (i+1).toNat=if i.toNat=0∨gb c.2 v v.length<(mD (l.map (·.2)) v i.toNat).2 then(i.toNat,gb c.2 v v.length) else mD (l.map (·.2)) v i.toNat:=by rw[show(i+1).toNat=i.toNat+1 by omega];show(if _ then _ else _)=_;rw[oJ]
 have new:i.toNat=0∨gb c.2 v v.length<(mD (l.map (·.2)) v i.toNat).2->a7 (i+1)/\(w=w/\0<=i+1/\i+1<=(s.n:o)/\i=(mD (l.map (·.2)) v (i+1).toNat).1/\cE k3/\cE kM/\dw k3 kM=(mD (l.map (·.2)) v (i+1).toNat).2)/\((s.n:o)-(i+1)).toNat<((s.n:o)-i).toNat:=λI=>by rw[step,b3 I];exact⟨⟨by omega,by omega⟩,⟨rfl,by omega,by omega,by omega,gn,jC,lh⟩,by omega⟩
 refine⟨λh0=>new (.inl (by omega)),λh0=>BO jC aj ?_⟩
 rw[hw,lh]
 by_cases bP:gb c.2 v v.length<(mD (l.map (·.2)) v i.toNat).2
 rw[b3 bP]
 exact⟨λ_=>new (.inr bP),λM=>bf (by decide) M⟩
 refine⟨λM=>bf M ?_,λ_=>⟨⟨by omega,by omega⟩,⟨rfl,by omega,by omega,?_,M,aj,?_⟩,by dsimp only;omega⟩⟩
 omega
 grind
 grind
 have:i.toNat=l.length:=by omega
 rw[this] at QU hw
 obtain⟨g1,g2⟩:=z7 M aj
 rw[hw] at g1 g2
 rw[QU,g1,g2]
 exact au
def Uk{v:J o}{K:o->o->o->o->H->Prop}(h:mR u s l)(I:wW l d)(ht:Ints u t v)(aB:cY v)(Db:(v.length:o)=d)
  (au:K (mD (l.map (·.2)) v l.length).1 (cQ (mD (l.map (·.2)) v l.length).2) (cS (mD (l.map (·.2)) v l.length).2) 0 u):Hh s t u K:=by
 have ag:=h.len
 have hm:=I.many
 apply aoi
 refine aB7 h I ⟨λM=>bf rfl M,λ_=>?_⟩
 obtain⟨p,ad,c,_,c4,bA,hi⟩:=h.at (x:=0) (by omega) (by omega)
 have pQ:=hi.len
 obtain⟨aT,aN⟩:=I.each c c4
 refine⟨p,ad,⟨by omega,by omega⟩,_,bA,qg ht ⟨λM=>bf ?_ M,λ_=>adg h I ht aB Db au⟩⟩
 rw[show(c.1.n:o)=d by omega]
 exact G9 aB Db I.dim
def oY(c:J o)(l:J ax):O->o
 |0=>0|n+1=>if oY c l n<gb c (l.getD n ⟨0,⟨none,0,0⟩,[]⟩).v c.length then gb c (l.getD n ⟨0,⟨none,0,0⟩,[]⟩).v c.length else oY c l n
theorem alF(c:J o)(l:J ax):∀n,0<=oY c l n/\∀i r,i<n->l[i]?=some r->gb c r.v c.length<=oY c l n:=by
 intro n;induction n with
 |zero=>exact⟨ps _,λi r h=>by omega⟩|succ n aW=>
  obtain⟨h0,h1⟩:=aW;unfold oY;have last:∀r,l[n]?=some r->l.getD n ⟨0,⟨none,0,0⟩,[]⟩=r:=λr U=>by grind
  split;rename_i bP;refine⟨by omega,λi r hi U=>?_⟩;by_cases e:i=n
  grind
  have:=h1 i r (by omega) U;omega
  grind
theorem alG{c:J o}{l:J ax}(I:cY c)(aq:gD l c.length):∀n,n<=l.length->jJ (oY c l n):=by
 intro n;induction n with
 |zero=>intro _;exact⟨ps _,(by decide:(0:o)<340282366920938463463374607431768211456)⟩
 |succ n aW=>
  intro ag;unfold oY;have Z:l.getD n ⟨0,⟨none,0,0⟩,[]⟩∈l:=by grind
  obtain⟨aT,aN⟩:=aq.v _ Z;split;exact DP I aN (by omega);exact aW (by omega)
theorem am8{c:J o}{l:J ax}{K:o->N->N->o->o->N->o->H->Prop}(ae:Ints u s c)(I:cY c)(ht:dU u t l)(aq:gD l c.length)
  (au:∀ar mc u',aD u u' 3 1 ar (c.flatMap encI)->K 3 ar ⟨none,0,0⟩ (cQ (oY c l l.length)) (cS (oY c l l.length)) mc 0 u'):Qc s t u K:=by
 have dS:=ae.len
 have aaj:=ht.len
 have Ni:=ht.max
 have av:=aq.dim
 have EL:=I.1
 have W:cE 0:=⟨by omega,by omega⟩
 apply aHp
 refine qg ae ?_
 rw[dS,G9 I rfl av]
 refine⟨λM=>bf rfl M,λ_=>ana ht aq λmc nt zx=>⟨λM=>bf rfl M,λ_=>?_⟩⟩
 refine⟨λi x y w=>w=nt/\0<=i/\i<=t.n/\cE x/\cE y/\dw x y=oY c l i.toNat,λi _ _ _=>((t.n:o)-i).toNat,⟨rfl,by omega,by omega,W,W,rfl⟩,?_⟩
 rintro i x y w ⟨rfl,i0,i1,M,aj,hw⟩
 refine⟨λhi=>?_,λhi=>?_⟩
 obtain⟨p,ad,r,U,bA,c1,uU⟩:=(ht.mono zx.le).at i0 hi
 have fR:=dz U
 obtain⟨aT,aN⟩:=aq.v r fR
 have oJ:l.getD i.toNat ⟨0,⟨none,0,0⟩,[]⟩=r:=by grind
 have step:oY c l (i+1).toNat=if oY c l i.toNat<gb c r.v c.length then gb c r.v c.length else oY c l i.toNat:=by rw[show(i+1).toNat=i.toNat+1 by omega];show(if _ then _ else _)=_;rw[oJ]
 refine⟨p,ad,⟨i0,hi⟩,_,bA,_,c1,adt (ae.mono zx.le) uU I aN (by omega) λk3 kM gn jC lh=>BO jC aj ?_⟩
 rw[hw,lh]
 by_cases bP:oY c l i.toNat<gb c r.v c.length
 refine⟨λ_=>⟨⟨by omega,by omega⟩,⟨rfl,by omega,by omega,gn,jC,by omega⟩,by dsimp only;omega⟩,λM=>bf ?_ M⟩
 omega
 refine⟨λM=>bf M ?_,λ_=>⟨⟨by omega,by omega⟩,⟨rfl,by omega,by omega,M,aj,by omega⟩,by dsimp only;omega⟩⟩
 omega
 have:i.toNat=l.length:=by omega
 rw[this] at hw
 obtain⟨g1,g2⟩:=z7 M aj
 rw[hw] at g1 g2
 refine sI (ae.mono zx.le) (by omega) λar u' ac _=>⟨ac.le,?_⟩
 rw[g1,g2]
 exact au _ _ _ (ac.weaken zx.le)
open Go.RowKit
def KR{α σ:Type}(P:dL)(fv:ap)(enc:α->ap)(Nx:σ->α->σ->Prop)(s0:σ)(En:σ->Prop)(u:H):Prop:=
 ∀(mO:ap) (cZ:σ->H->Prop),(∀s v,cZ s v->u.le v)->
  (∀s y ar v (K:ay->H->Prop),Nx s y ar->cZ s v->(∀b9,cZ ar b9->K ai b9)->Ae P mO #[enc y] [.one .bool] v K)->
  ∀v (K:H->Prop),cZ s0 v->(∀s b9,En s->cZ s b9->K b9)->h6 P fv #[mO] [] v K
theorem nB.axR{P:dL}{α σ:Type}{Nx:σ->α->σ->Prop}{s0:σ}{En:σ->Prop}{t x n:O}{assign body:iW}{env:J (O×ap)}{K:O->H->Prop}{enc:α->ap}{fv:ap}{ub:H}(cC:ub.le u)
  (ab:∀f args w,(∃fn,P.funcs[f]?=some fn/\fn.body.isSome=ai)->(qT f args).run P w=.ok (.enter f args) w) (Z:(t,fv)∈env) (M:x<n)
  (fs:∀ak,ub.le ak->KR P fv enc Nx s0 En ak) (cZ:σ->H->Prop) (h0:cZ s0 u) (hle:∀i v,cZ i v->ub.le v)
  (L1:∀i y mc v,Nx i y mc->cZ i v->Cj P n assign body env x (enc y) v (cZ mc))
  (au:∀s v D,En s->cZ s v->v D=none->K D (v.ins D (.deferred (some [])))):nB P (.rangeFunc (.tmp t) #[x] assign body) n env u K:=by
 intro a w dm xn L6 gR
 refine(Ol (n:=0)).1 (wpIn_rangeFunc ?_)
 intro fn _
 have fr:a.eval (.tmp t)=fv:=by simp only[Act.eval];rw[JB,xn _ Z];rfl
 obtain⟨rec,ng⟩:∃rec:LoopState->Loop,rec=λst=>{state:=st,pending:=none,fn,tmps:=a.tmps,params:=#[x],assign,body,defers:=w.heap.size}:=⟨_,rfl⟩
 obtain⟨jh,j5⟩:∃jh,(w.alloc (.deferred (some []))).alloc (.loop (rec .ready))=jh:=⟨_,rfl⟩
 have ajz:jh.heap.size=w.heap.size+2:=by rw[<-j5];simp
 have ahj:jh.heap[w.heap.size+1]?=some (.loop (rec .ready)):=by rw[<-j5];have:=JK (w.alloc (.deferred (some []))) (.loop (rec .ready));simp_all
 have EN:jh.heap[w.heap.size]?=some (.deferred (some [])):=by rw[<-j5];exact(Below.heap_alloc _ _ _ (by simp)).trans (JK w _)
 have hold:∀b,b<w.heap.size->jh.heap[b]?=w.heap[b]?:=λb aa=>by rw[<-j5];exact(Below.heap_alloc _ _ _ (by simp;omega)).trans (Below.heap_alloc _ _ _ aa)
 have xw:u (w.heap.size+1)=none:=gR.none (by omega)
 have xg:u w.heap.size=none:=gR.none (cw _)
 have Mt:ub (w.heap.size+1)=none:=by
  cases M:ub (w.heap.size+1) with
  |none=>rfl|some z=>rw[cC _ _ M] at xw;cases xw
 have Nq:ub.le (ub.ins (w.heap.size+1) (.loop (rec .ready))):=bX _ Mt
 have Nd:Sub (u.ins (w.heap.size+1) (.loop (rec .ready))) jh:=by
  intro b z aa;unfold H.ins at aa;split at aa
  grind
  have:=gR b z aa
  grind
 have hR:=fs _ Nq (.func (.yield (w.heap.size+1)) #[] #[])
  (λi v=>∃v0,v=v0.ins (w.heap.size+1) (.loop (rec .ready))/\v0 (w.heap.size+1)=none/\v0 w.heap.size=none/\cZ i v0)
  (λi v ⟨v0,aB,_,_,aP⟩=>by rw[aB];exact I2 (hle i v0 aP) _ _)
  (by
   rintro i y mc v fB aj ⟨v0,rfl,pW,uw,aP⟩ l7;refine⟨_,rfl,λbJ hQ=>?_⟩;have xt:bJ.heap[w.heap.size+1]?=some (.loop (rec .ready)):=hQ _ _ (bh _ _ _);have bP:w.heap.size+1<bJ.heap.size:=(x6.1 xt).1;have om:(Instr.yield (w.heap.size+1) #[enc y]).run P bJ=.ok (.round (w.heap.size+1) fn (a.tmps.setIfInBounds x (enc y)) assign body) bJ:=by have:=run_yield (P:=P) (args:=#[enc y]) xt (by rw[ng];rfl);rw[ng] at this;simpa using this
   have Nf:Sub v0 bJ:=hQ.mono (bX _ pW);refine⟨fn,_,assign,body,om,aci trivial ?_⟩;refine ya (L1 i y mc v0 aj aP (w.heap.size+1) _ bJ ?_ ?_ ?_ rfl Nf) ?_;simpa using dm
   grind
   grind
   intro e Y e5 ad;cases e with
   |normal=>
    obtain⟨v1,ea,aa⟩:=ad;have C0:e5.heap[w.heap.size+1]?=some (.loop (rec .ready)):=(ea.rest _ bP pW (by simp)).trans xt;have xv:w.heap.size+1<e5.heap.size:=(x6.1 C0).1;have hX:v1 (w.heap.size+1)=none:=ea.jB _ bP pW;have AI:v1 w.heap.size=none:=ea.jB _ (by omega) uw;refine⟨_,run_beginRound C0 (by rw[ng]),ya (aa _ ?_) ?_⟩;intro b z jj;have an:b≠w.heap.size+1:=λe=>by grind
    exact(mE an).trans (ea.sub b z jj);rintro e a2 hh ⟨rfl,v2,rm,dJ⟩;have Ms:(e5.putObj (w.heap.size+1) (.loop {rec .ready with state:=.busy})).heap[w.heap.size+1]?=some (.loop {rec .ready with state:=.busy}):=Gm xv;have ti:hh.heap[w.heap.size+1]?=some (.loop {rec .ready with state:=.busy}):=(dJ.rest _ (by simpa using xv) hX (by simp)).trans Ms;have My:w.heap.size+1<hh.heap.size:=(x6.1 ti).1;have iR:v2 (w.heap.size+1)=none:=dJ.jB _ (by simpa using xv) hX;have pS:=run_endRound (P:=P) none ti;have Lq:({{rec .ready with state:=TG} with state:=if(none:aA iW).isNone then .ready else .done,pending:=none}:Loop)=rec .ready:=by rw[ng];rfl
    rw[Lq] at pS;refine⟨_,_,pS,.bool ai,v2.ins (w.heap.size+1) (.loop (rec .ready)),rfl,⟨[.bool ai],.cons (t:=.bool) ai .nil,rfl,?_⟩,?_⟩;exact l7 _ ⟨v2,rfl,iR,dJ.jB _ (by grind) AI,rm⟩;refine⟨λb z jj=>?_,dJ.os.trans ea.os,dJ.tape.trans ea.tape,dJ.output.trans ea.output,jW ea.drawn dJ.drawn,?_,λb aa fV _=>?_,λb aa fV=>?_,[],by simp,by simp⟩;unfold H.ins at jj;split at jj;rename_i fC;subst fC;cases jj;exact Gm My;rename_i fC;rw[mE fC];exact dJ.sub b z jj;have h1:=ea.size;have h2:=dJ.size;simp at h2 ⊢;omega;have an:b≠w.heap.size+1:=λe=>by rw[e,bh] at fV;cases fV
    rw[bz _ _ an] at fV;have j6:b<e5.heap.size:=Ju aa ea.size;rw[mE an,dJ.rest b (by simpa using j6) (ea.jB b aa fV) (by simp),mE an];exact ea.rest b aa fV (by simp);have an:b≠w.heap.size+1:=λe=>by rw[e,bh] at fV;cases fV
    rw[bz _ _ an] at fV ⊢;exact dJ.jB b (by have:=ea.size;simp;omega) (ea.jB b aa fV)
   |_=>exact ad.elim)
  _ (λb9=>∃v0,b9=v0.ins (w.heap.size+1) (.loop (rec .ready))/\v0 (w.heap.size+1)=none/\v0 w.heap.size=none/\∃s,En s/\cZ s v0) ⟨u,rfl,xw,xg,h0⟩ (λs _ ae ⟨v0,a,b,c,d⟩=>⟨v0,a,b,c,s,ae,d⟩)
 obtain⟨xc,CK,cap,E4,xi,hR⟩:=hR
 rw[E4] at fr
 refine⟨w.heap.size+1,[{target:=.collected w.heap.size,args:=#[]}],jh,{target:=.fn (.func xc) cap,args:=CK++ #[.func (.yield (w.heap.size+1)) #[] #[]]},jh,xc,
  CK++ #[.func (.yield (w.heap.size+1)) #[] #[]]++cap,jh,?_,?_,λ_ _=>trivial,?_,λh=>by simp[vg] at h,?_⟩
 rw[<-j5,ng];exact acj _ _ _ _ _
 simp only[resolve,fr]
 simp[go_sem]
 simp[invoke,go_sem,ab xc _ _ xi]
 refine Oj.2 ((hR jh Nd).mono ?_)
 rintro e hh ⟨v,u',rfl,⟨vs,hk,rfl,I⟩,ae⟩
 cases hk
 obtain⟨v0,rfl,pW,uw,s,M7,aP⟩:∃v0:H,u'=v0.ins (w.heap.size+1) (.loop (rec .ready))/\v0 (w.heap.size+1)=none/\v0 w.heap.size=none/\∃s,En s/\cZ s v0:=I
 have ti:hh.heap[w.heap.size+1]?=some (.loop (rec .ready)):=ae.sub _ _ (bh _ _ _)
 have LI:hh.heap[w.heap.size]?=some (.deferred (some [])):=by rw[ae.rest _ (by omega) (by rw[bz _ _ (by omega)];exact xg) (by simp)];exact EN
 have pS:(Instr.endLoop (w.heap.size+1)).run P hh=.ok none (hh.putObj (w.heap.size+1) (.loop {rec .ready with state:=.exhausted})):=by have:=run_endLoop (P:=P) ti (by rw[ng];simp);rw[this];rw[ng]
 refine⟨none,_,pS,rfl,rfl,w.heap.size,_,?_,au s v0 w.heap.size M7 aP uw,?_⟩
 simp[L6,La]
 have v8:=ae.size
 refine⟨λb z jj=>?_,?_,?_,?_,?_,by simp;omega,λb aa fV _=>?_,λb aa fV=>?_,[],by simp,by simp⟩
 unfold H.ins at jj
 split at jj
 rename_i fC;subst fC;cases jj
 rw[mE (by omega)];exact LI
 have an:b≠w.heap.size+1:=λe=>by grind
 rw[mE an]
 exact ae.sub b z (by rw[bz _ _ an];exact jj)
 exact ae.os.trans (by rw[<-j5];rfl)
 exact ae.tape.trans (by rw[<-j5];rfl)
 exact ae.output.trans (by rw[<-j5];rfl)
 exact jW (by rw[<-j5];exact cw _) ae.drawn
 have an:b≠w.heap.size+1:=by omega
 rw[mE an,ae.rest b (by omega) (by rw[bz _ _ an];exact fV) (by simp)]
 exact hold b aa
 have an:b≠w.heap.size+1:=by omega
 have:=ae.jB b (by omega) (by rw[bz _ _ an];exact fV)
 rw[bz _ _ an] at this
 rw[bz _ _ (by omega)];exact this
end
section
variable{n x x2:O}{env:J (O×ap)}
open Go.RowKit
def IterM{α σ:Type}(P:dL)(fv:ap)(enc Cx:α->ap)(src:O)(cell:σ->Obj)(Nx:σ->α->σ->Prop)(s0:σ)(En:σ->Prop)(u:H):Prop:=
 ∀(mO:ap) (cZ:σ->H->Prop),(∀s v,cZ s v->u.le v/\v src=some (cell s))->
  (∀s y ar v (K:ay->H->Prop),Nx s y ar->cZ s v->(∀b9,cZ ar b9->K ai b9)->Ae P mO #[enc y,Cx y] [.one .bool] (v.ins src (cell ar)) K)->
  ∀v (K:H->Prop),cZ s0 v->(∀s b9,En s->cZ s b9->K b9)->h6 P fv #[mO] [] v K
def Ht(P:dL)(n:O)(assign body:iW)(env:J (O×ap))(x x2:O)(y jI:ap)(v:H)(cZ:H->Prop):Prop:=
 ∀l a w,a.tmps.size=n->(∀p∈env,p.1≠x->p.1≠x2->a.tmps[p.1]?=some p.2)->a.tmps[x]?=some y->a.tmps[x2]?=some jI->a.defers=[]->Sub v w->
  assign.wpIn (Fr (some l)) 0 P (Exit.then (λY e5=>∃v1,Step v [] w v1 [] e5/\∀dF,Sub v1 dF->
   body.wpIn (Fr (some l)) 0 P (λe _ hh=>e=.normal/\∃v2,cZ v2/\Step v1 [] dF v2 [] hh) Y dF) (λ_ _ _=>eg)) a w
def Ht.of{C:lq}(fP:Good C){assign body:iW}{y jI:ap}{v:H}{cZ:H->Prop}(az:nm assign=ai)(aa:nm body=ai)
  (EC:J (O×gd)) (xn:∀p∈EC,∃W,hv [] p.2=some W/\((p.1=x/\W=y)∨(p.1=x2/\W=jI)∨p.1≠x/\p.1≠x2/\(p.1,W)∈env))
  (h:hr C [] assign 1 (λ_=>ai) (λe s u=>e=.normal/\s.loc=[]/\hr C [] body 1 (λ_=>ai) (λe _ u=>e=.normal/\cZ u) s u) {n:=n,env:=EC,loc:=[]} v):
  Ht C.P n assign body env x x2 y jI v cZ:=by
 intro l a w dm he M aaP av ae
 have ab:Fits {n:=n,env:=EC,loc:=[]} [] v a w:=by refine⟨⟨av,dm,λp ad=>?_⟩,rfl,λi cs e=>by simp at e,by simp,by simp,ae⟩;obtain⟨W,h1,h2⟩:=xn p ad;refine⟨W,h1,?_⟩;rcases h2 with⟨h3,rfl⟩|⟨h3,rfl⟩|⟨h3,bL,br⟩;rw[h3];exact M;rw[h3];exact aaP;exact he _ br h3 bL
 refine ya (QL fP (some l) assign az 1 _ _ _ v h [] a w ab) ?_
 rintro e Y e5 ⟨_,ar,u',da,⟨rfl,uJ,eB⟩,df,c6,_,_⟩
 have lx:da=[]:=by have:=df.len;rw[uJ] at this;simpa using this
 subst lx
 refine⟨u',c6,λdF Dc=>?_⟩
 have jz:Fits ar [] u' Y dF:=⟨df.toFitsE,df.len,λi cs e=>by rw[uJ] at e;simp at e,by simp,by simp,Dc⟩
 refine ya (QL fP (some l) body aa 1 _ _ ar u' eB [] Y dF jz) ?_
 rintro e a2 hh ⟨_,s2,cF,HB,⟨rfl,aP⟩,YS,aad,_,_⟩
 exact⟨rfl,cF,aP,aad.forget⟩
theorem nB.axS{P:dL}{α σ:Type}{Nx:σ->α->σ->Prop}{s0:σ}{En:σ->Prop}{src:O}{cell:σ->Obj}{t:O}{assign body:iW}{u:H}{K:O->H->Prop}{enc Cx:α->ap}{fv:ap}{ub:H}(cC:ub.le u)
  (ab:∀f args w,(∃fn,P.funcs[f]?=some fn/\fn.body.isSome=ai)->(qT f args).run P w=.ok (.enter f args) w) (Z:(t,fv)∈env) (M:x<n) (Ny:x2<n) (AG:x≠x2)
  (fs:∀ak,ub.le ak->IterM P fv enc Cx src cell Nx s0 En ak) (cZ:σ->H->Prop) (h0:cZ s0 u) (hle:∀i v,cZ i v->ub.le v) (sk:∀i v,cZ i v->v src=some (cell i))
  (L1:∀i y mc v,Nx i y mc->cZ i v->Ht P n assign body env x x2 (enc y) (Cx y) (v.ins src (cell mc)) (cZ mc))
  (au:∀s v D,En s->cZ s v->v D=none->K D (v.ins D (.deferred (some [])))):nB P (.rangeFunc (.tmp t) #[x,x2] assign body) n env u K:=by
 intro a w dm xn L6 gR
 refine(Ol (n:=0)).1 (wpIn_rangeFunc ?_)
 intro fn _
 have fr:a.eval (.tmp t)=fv:=by simp only[Act.eval];rw[JB,xn _ Z];rfl
 obtain⟨rec,ng⟩:∃rec:LoopState->Loop,rec=λst=>{state:=st,pending:=none,fn,tmps:=a.tmps,params:=#[x,x2],assign,body,defers:=w.heap.size}:=⟨_,rfl⟩
 obtain⟨jh,j5⟩:∃jh,(w.alloc (.deferred (some []))).alloc (.loop (rec .ready))=jh:=⟨_,rfl⟩
 have ajz:jh.heap.size=w.heap.size+2:=by rw[<-j5];simp
 have ahj:jh.heap[w.heap.size+1]?=some (.loop (rec .ready)):=by rw[<-j5];have:=JK (w.alloc (.deferred (some []))) (.loop (rec .ready));simp_all
 have EN:jh.heap[w.heap.size]?=some (.deferred (some [])):=by rw[<-j5];exact(Below.heap_alloc _ _ _ (by simp)).trans (JK w _)
 have hold:∀b,b<w.heap.size->jh.heap[b]?=w.heap[b]?:=λb aa=>by rw[<-j5];exact(Below.heap_alloc _ _ _ (by simp;omega)).trans (Below.heap_alloc _ _ _ aa)
 have xw:u (w.heap.size+1)=none:=gR.none (by omega)
 have xg:u w.heap.size=none:=gR.none (cw _)
 have Mt:ub (w.heap.size+1)=none:=by
  cases M:ub (w.heap.size+1) with
  |none=>rfl|some z=>rw[cC _ _ M] at xw;cases xw
 have Nq:ub.le (ub.ins (w.heap.size+1) (.loop (rec .ready))):=bX _ Mt
 have Nd:Sub (u.ins (w.heap.size+1) (.loop (rec .ready))) jh:=by
  intro b z aa;unfold H.ins at aa;split at aa
  grind
  have:=gR b z aa
  grind
 have hR:=fs _ Nq (.func (.yield (w.heap.size+1)) #[] #[])
  (λi v=>∃v0,v=v0.ins (w.heap.size+1) (.loop (rec .ready))/\v0 (w.heap.size+1)=none/\v0 w.heap.size=none/\cZ i v0)
  (λi v ⟨v0,aB,h1,_,aP⟩=>⟨by rw[aB];exact I2 (hle i v0 aP) _ _,by rw[aB,bz _ _ (λe=>by grind)];exact sk i v0 aP⟩)
  (by
   rintro i y mc v fB aj ⟨UR,rfl,avh,asN,aP⟩ l7;have cH:=L1 i y mc UR aj aP;have tt:=sk i UR aP;have nl:src≠w.heap.size+1:=λe=>by grind
   have ayW:src≠w.heap.size:=λe=>by grind
   obtain⟨v0,IS⟩:∃v0,v0=UR.ins src (cell mc):=⟨_,rfl⟩;rw[<-IS] at cH;have pW:v0 (w.heap.size+1)=none:=by rw[IS,bz _ _ (e3 nl)];exact avh
   have uw:v0 w.heap.size=none:=by rw[IS,bz _ _ (e3 ayW)];exact asN
   have arn:(UR.ins (w.heap.size+1) (.loop (rec .ready))).ins src (cell mc)=v0.ins (w.heap.size+1) (.loop (rec .ready)):=by
    rw[IS];funext c;unfold H.ins;by_cases aT:c=src
    grind
    grind
   rw[arn];refine⟨_,rfl,λbJ hQ=>?_⟩;have xt:bJ.heap[w.heap.size+1]?=some (.loop (rec .ready)):=hQ _ _ (bh _ _ _);have bP:w.heap.size+1<bJ.heap.size:=(x6.1 xt).1;have om:(Instr.yield (w.heap.size+1) #[enc y,Cx y]).run P bJ=.ok (.round (w.heap.size+1) fn ((a.tmps.setIfInBounds x (enc y)).setIfInBounds x2 (Cx y)) assign body) bJ:=by have:=run_yield (P:=P) (args:=#[enc y,Cx y]) xt (by rw[ng];rfl);rw[ng] at this;simpa using this
   have Nf:Sub v0 bJ:=hQ.mono (bX _ pW);refine⟨fn,_,assign,body,om,aci trivial ?_⟩;refine ya (cH (w.heap.size+1) _ bJ ?_ ?_ ?_ ?_ rfl Nf) ?_;simpa using dm
   grind
   grind
   grind
   intro e Y e5 ad;cases e with
   |normal=>
    obtain⟨v1,ea,aa⟩:=ad;have C0:e5.heap[w.heap.size+1]?=some (.loop (rec .ready)):=(ea.rest _ bP pW (by simp)).trans xt;have xv:w.heap.size+1<e5.heap.size:=(x6.1 C0).1;have hX:v1 (w.heap.size+1)=none:=ea.jB _ bP pW;have AI:v1 w.heap.size=none:=ea.jB _ (by omega) uw;refine⟨_,run_beginRound C0 (by rw[ng]),ya (aa _ ?_) ?_⟩;intro b z jj;have an:b≠w.heap.size+1:=λe=>by grind
    exact(mE an).trans (ea.sub b z jj);rintro e a2 hh ⟨rfl,v2,rm,dJ⟩;have Ms:(e5.putObj (w.heap.size+1) (.loop {rec .ready with state:=.busy})).heap[w.heap.size+1]?=some (.loop {rec .ready with state:=.busy}):=Gm xv;have ti:hh.heap[w.heap.size+1]?=some (.loop {rec .ready with state:=.busy}):=(dJ.rest _ (by simpa using xv) hX (by simp)).trans Ms;have My:w.heap.size+1<hh.heap.size:=(x6.1 ti).1;have iR:v2 (w.heap.size+1)=none:=dJ.jB _ (by simpa using xv) hX;have pS:=run_endRound (P:=P) none ti;have Lq:({{rec .ready with state:=TG} with state:=if(none:aA iW).isNone then .ready else .done,pending:=none}:Loop)=rec .ready:=by rw[ng];rfl
    rw[Lq] at pS;refine⟨_,_,pS,.bool ai,v2.ins (w.heap.size+1) (.loop (rec .ready)),rfl,⟨[.bool ai],.cons (t:=.bool) ai .nil,rfl,?_⟩,?_⟩;exact l7 _ ⟨v2,rfl,iR,dJ.jB _ (by grind) AI,rm⟩;refine⟨λb z jj=>?_,dJ.os.trans ea.os,dJ.tape.trans ea.tape,dJ.output.trans ea.output,jW ea.drawn dJ.drawn,?_,λb aa fV _=>?_,λb aa fV=>?_,[],by simp,by simp⟩;unfold H.ins at jj;split at jj;rename_i fC;subst fC;cases jj;exact Gm My;rename_i fC;rw[mE fC];exact dJ.sub b z jj;have h1:=ea.size;have h2:=dJ.size;simp at h2 ⊢;omega;have an:b≠w.heap.size+1:=λe=>by rw[e,bh] at fV;cases fV
    rw[bz _ _ an] at fV;have j6:b<e5.heap.size:=Ju aa ea.size;rw[mE an,dJ.rest b (by simpa using j6) (ea.jB b aa fV) (by simp),mE an];exact ea.rest b aa fV (by simp);have an:b≠w.heap.size+1:=λe=>by rw[e,bh] at fV;cases fV
    rw[bz _ _ an] at fV ⊢;exact dJ.jB b (by have:=ea.size;simp;omega) (ea.jB b aa fV)
   |_=>exact ad.elim)
  _ (λb9=>∃v0,b9=v0.ins (w.heap.size+1) (.loop (rec .ready))/\v0 (w.heap.size+1)=none/\v0 w.heap.size=none/\∃s,En s/\cZ s v0) ⟨u,rfl,xw,xg,h0⟩ (λs _ ae ⟨v0,a,b,c,d⟩=>⟨v0,a,b,c,s,ae,d⟩)
 obtain⟨xc,CK,cap,E4,xi,hR⟩:=hR
 rw[E4] at fr
 refine⟨w.heap.size+1,[{target:=.collected w.heap.size,args:=#[]}],jh,{target:=.fn (.func xc) cap,args:=CK++ #[.func (.yield (w.heap.size+1)) #[] #[]]},jh,xc,
  CK++ #[.func (.yield (w.heap.size+1)) #[] #[]]++cap,jh,?_,?_,λ_ _=>trivial,?_,λh=>by simp[vg] at h,?_⟩
 rw[<-j5,ng];exact acj _ _ _ _ _
 simp only[resolve,fr]
 simp[go_sem]
 simp[invoke,go_sem,ab xc _ _ xi]
 refine Oj.2 ((hR jh Nd).mono ?_)
 rintro e hh ⟨v,u',rfl,⟨vs,hk,rfl,I⟩,ae⟩
 cases hk
 obtain⟨v0,rfl,pW,uw,s,M7,aP⟩:∃v0:H,u'=v0.ins (w.heap.size+1) (.loop (rec .ready))/\v0 (w.heap.size+1)=none/\v0 w.heap.size=none/\∃s,En s/\cZ s v0:=I
 have ti:hh.heap[w.heap.size+1]?=some (.loop (rec .ready)):=ae.sub _ _ (bh _ _ _)
 have LI:hh.heap[w.heap.size]?=some (.deferred (some [])):=by rw[ae.rest _ (by omega) (by rw[bz _ _ (by omega)];exact xg) (by simp)];exact EN
 have pS:(Instr.endLoop (w.heap.size+1)).run P hh=.ok none (hh.putObj (w.heap.size+1) (.loop {rec .ready with state:=.exhausted})):=by have:=run_endLoop (P:=P) ti (by rw[ng];simp);rw[this];rw[ng]
 refine⟨none,_,pS,rfl,rfl,w.heap.size,_,?_,au s v0 w.heap.size M7 aP uw,?_⟩
 simp[L6,La]
 have v8:=ae.size
 refine⟨λb z jj=>?_,?_,?_,?_,?_,by simp;omega,λb aa fV _=>?_,λb aa fV=>?_,[],by simp,by simp⟩
 unfold H.ins at jj
 split at jj
 rename_i fC;subst fC;cases jj
 rw[mE (by omega)];exact LI
 have an:b≠w.heap.size+1:=λe=>by grind
 rw[mE an]
 exact ae.sub b z (by rw[bz _ _ an];exact jj)
 exact ae.os.trans (by rw[<-j5];rfl)
 exact ae.tape.trans (by rw[<-j5];rfl)
 exact ae.output.trans (by rw[<-j5];rfl)
 exact jW (by rw[<-j5];exact cw _) ae.drawn
 have an:b≠w.heap.size+1:=by omega
 rw[mE an,ae.rest b (by omega) (by rw[bz _ _ an];exact fV) (by simp)]
 exact hold b aa
 have an:b≠w.heap.size+1:=by omega
 have:=ae.jB b (by omega) (by rw[bz _ _ an];exact fV)
 rw[bz _ _ an] at this
 rw[bz _ _ (by omega)];exact this
def nB.aqS{P:dL}{c:iW}{t:O}{u:H}{K:O->H->Prop}(I:c=.rangeFunc (.tmp t) #[x,x2] (zN c) (zO c))(h:nB P (.rangeFunc (.tmp t) #[x,x2] (zN c) (zO c)) n env u K):nB P c n env u K:=by rw[I];exact h
end
section
variable{u:H}
def kF(st:o):o:=bu.wrap (st+11400714819323198485)
def vb(x:o):o:=
 bits .xor .u64 (bu.wrap (bits .xor .u64 (bu.wrap (bits .xor .u64 x (et x (2 ^ 30))*13787848793156543929)) (et (bu.wrap (bits .xor .u64 x (et x (2 ^ 30))*13787848793156543929)) (2 ^ 27))*10723151780598845931))
  (et (bu.wrap (bits .xor .u64 (bu.wrap (bits .xor .u64 x (et x (2 ^ 30))*13787848793156543929)) (et (bu.wrap (bits .xor .u64 x (et x (2 ^ 30))*13787848793156543929)) (2 ^ 27))*10723151780598845931)) (2 ^ 31))
def ap4(op:BinOp)(x y:o):cE (bits op .u64 x y):=by have:=wf_bits op .u64 x y;simp[Lit.wf,Gy,Gz,Gf,Gg] at this;unfold cE;omega
def aH2(x:o):cE (bu.wrap x):=by have:=wf_wrap .u64 x;simp[Lit.wf,Gy,Gz,Gf,Gg] at this;unfold cE;omega
def akV(x:o):cE (vb x):=ap4 _ _ _
def aKw(x:o):cE (kF x):=aH2 _
def afp{x n:o}(M:cE x)(h1:1<=n)(h2:n<=1000000000):bu.wrap n≠0/\b2.wrap (lE x (bu.wrap n))=x%n:=by have aT:bu.wrap n=n:=ox n (by omega);have aN:lE x n=x%n:=TB M.1;have h3:=OE x (show n≠0 by omega);have br:=OF x (show 0<n by omega);rw[aT,aN];exact⟨by omega,JI _ (by omega)⟩
def amR{src:O}{st:o}{K:o->H->Prop}(h:u src=some (.cells #[.int .u64 st] 215 (0,0)))
  (au:K (vb (kF st)) (u.ins src (.cells #[.int .u64 (kF st)] 215 (0,0)))):Hi (some ⟨src,0,none⟩) u K:=by
 apply aok
 exact⟨λh=>(by cases h),λ_=>⟨_,rfl,st,aZ h 0,_,rfl,GV h (by simp[cI]) ⟨_,rfl,_,aZ (bh _ _ _) 0,by omega,by omega,by omega,au⟩⟩⟩
def aCc{src:O}{st n:o}{K:o->o->H->Prop}(h:u src=some (.cells #[.int .u64 st] 215 (0,0)))(h1:1<=n)(h2:n<=1000000000)
  (au:K (vb (kF st)%n) 0 (u.ins src (.cells #[.int .u64 (kF st)] 215 (0,0)))):Vv (some ⟨src,0,none⟩) n u K:=by
 obtain⟨aT,aN⟩:=afp (akV (kF st)) h1 h2
 apply aFT
 apply ad1
 refine⟨λh=>(by cases h),λ_=>⟨λh=>by omega,λ_=>⟨λh=>by omega,λ_=>⟨λh=>bf rfl h,λ_=>amR h ⟨aT,?_⟩⟩⟩⟩⟩
 rw[aN]
 exact au
def permA:O->o->J o->J o
 |0,_,l=>l|i+1,st,l=>permA i (kF st) (jZ l (i+1) (vb (kF st)%((i:o)+2)).toNat)
def po(n:O):J o:=(lD n).map λi:O=>(i:o)
def vf(st:o)(n:O):J o:=permA (n-1) st (po n)
def azR:∀(i:O) (st:o) (l:J o),i<l.length->(permA i st l).Perm l:=by
 intro i;induction i with
 |zero=>intro st l _;exact .refl _
 |succ i aW=>intro st l h;have h3:=OE (vb (kF st)) (show(i:o)+2≠0 by omega);have br:=OF (vb (kF st)) (show 0<(i:o)+2 by omega);unfold permA;exact(aW _ _ (by rw[qj];omega)).trans (DR h (by omega))
def ak3(st:o)(n:O):(vf st n).Perm (po n):=by
 unfold vf;cases n with
 |zero=>exact .refl _|succ n=>exact azR _ _ _ (by simp[po])
def Al(u:H)(src:O):Prop:=∃st,u src=some (.cells #[.int .u64 st] 215 (0,0))
def H.no(u:H)(b:O):H:=λc=>if c=b then none else u c
def Jk{b c:O}(h:c≠b):H.no u b c=u c:=bF h
def Ta(u:H)(b:O):H.no u b b=none:=b3 rfl
def NW(u:H)(b:O):(H.no u b).le u:=λc z h=>by by_cases e:c=b;rw[e,Ta] at h;cases h;rw[Jk e] at h;exact h
theorem ayh{v:H}{b:O}(h:v.le u)(aa:v b=none):v.le (H.no u b):=λc z I=>by rw[Jk (λe=>by grind)];exact h c z I
structure nw(ub u:H)(src:O)(s:N)(l:J ax)(d:o)(u':H)(n:aw):Prop where
 one:∀x∈n.bT,hL u' x
 nodup:n.own.Nodup
 out:∀c∈n.own,ub c=none/\u' c≠none/\c≠src
 all:n.bG.all.Perm (l.map ax.bn)
 ok:gr d n.bG
 rows:∀x∈n.bT,∀r∈x.1.rows,r∈l
 size:n.bT.length+1<=2*l.length
 uv:∀c z,u c=some z->s.al≠some c->c≠src->u' c=some z
 src:Al u' src
 oA:lM 3 n.bG
 bin:j1 n.bG
namespace lr
def K2:hy aH 127=ai:=by kernel_rfl
def apN:hy aH 130=ai:=by kernel_rfl
def WD:hy aH 131=ai:=by kernel_rfl
def WM(a b:O):kO aH 211 2 #[(0,.pointer (some ⟨a,0,none⟩)),(1,.pointer (some ⟨b,0,none⟩))]=some (167,[.pointer (some ⟨a,0,none⟩),.pointer (some ⟨b,0,none⟩)]):=by kernel_rfl
abbrev yE(n0 cj:O):ap:=.func (.func 127) #[] #[.pointer (some ⟨n0,0,none⟩),.pointer (some ⟨cj,0,none⟩)]
abbrev Q3(n10:O):ap:=.func (.func 130) #[] #[.pointer (some ⟨n10,0,none⟩)]
structure wX(ub:H)(n0 cj c3 src:O)(leaf:o):Prop where
 bA:ub.cell? ⟨n0,0,none⟩=some (.pointer (some ⟨c3,0,none⟩))
 c1:ub.cell? ⟨cj,0,none⟩=some (yE n0 cj)
 q7:ub.cell? ((cp c3 0 none).add 1)=some (.int .i64 leaf)
 cg:ub.cell? ((cp c3 0 none).add 2)=some (.pointer (some ⟨src,0,none⟩))
def wX.mono{ub:H}{n0 cj c3 src:O}{leaf:o}(h:wX ub n0 cj c3 src leaf)(k:ub.le u):wX u n0 cj c3 src leaf:=⟨H.le.cell k h.bA,H.le.cell k h.c1,H.le.cell k h.q7,H.le.cell k h.cg⟩
def W3{ub:H}{n10 n24:O}{ga:N}{c:J o}{l:J ax}{d:o}(XN:ub.cell? ⟨n24,0,none⟩=some (Q3 n10))(LA:ub.cell? ⟨n10,0,none⟩=some (.slice ga.a ga.n ga.c))(mx:Ints ub ga c)(I:cY c)(kQ:(c.length:o)=d)(av:1<=d)(aB:∀r∈l,Ints ub r.s r.v)(bM:gD l d):
  KM ub l (.func (.func 131) #[] #[.pointer (some ⟨n24,0,none⟩)]):=by
 intro a b v K az aa hle au
 refine⟨_,_,_,rfl,hs WD,aHK a.id a.s b.id b.s ⟨n24,0,none⟩ v K ?_⟩
 have afF:=H.le.cell hle XN
 have aqs:=H.le.cell hle LA
 have Pv:=mx.mono hle
 have ej:∀{r:ax} {Q:o->o->H->Prop},r∈l->(∀x y,cE x->cE y->Q x y v)->h6 aH (Q3 n10) #[.agg #[.int .i64 r.id,.slice r.s.a r.s.n r.s.c]] [.agg [.int .u64,.int .u64]] v Q:=λ{r Q} U fj=>by obtain⟨nq,qf⟩:=bM.v r U;exact⟨_,_,_,rfl,hs apN,aHJ r.id r.s ⟨n10,0,none⟩ v Q ⟨ga,aqs,BN Pv ((aB r U).mono hle) I (by omega) qf (by omega) λx y M aj _=>fj x y M aj⟩⟩
 exact⟨_,afF,_,afF,ej az λx y M aj=>⟨H.le.refl _,ej aa λk3 kM gn jC=>BO aj jC (au _)⟩⟩
theorem ac5{n0 cj c3 src:O}{d leaf:o}(AX:1<=leaf):∀(de:O) {ub u:H} {s:N} {l:J ax} {K:aA a8->H->Prop},l.length<=de->wX ub n0 cj c3 src leaf->ub src=none->Al u src->s.al≠some src->aD ub u 52 2 s (l.flatMap cJ)->(∀r∈l,Ints ub r.s r.v)->gD l d->
  (l=[]->K none u)->(l≠[]->∀u' n,nw ub u src s l d u' n->K (some ⟨n.b,0,none⟩) u')->aeW s ⟨n0,0,none⟩ ⟨cj,0,none⟩ u K:=by
 intro de
 induction de with
 |zero=>intro ub u s l K eP ch _ _ _ ac aB bM h0 _;have aq:l=[]:=qW (by omega);have dS:s.n=l.length:=hf fO (by decide) ac.own.cK;apply aol;refine⟨λ_=>h0 aq,λan=>bf (by rw[dS,aq];rfl) an⟩
 |succ de aW=>
  intro ub u s l K eP ch Nr sk wa ac aB bM h0 au;have dS:s.n=l.length:=hf fO (by decide) ac.own.cK;have av:=bM.dim;have asw:=bM.len;apply aol;refine⟨λaE=>h0 (qW (by omega)),λZA=>?_⟩;have an:l≠[]:=λe=>ZA (by rw[dS,e];rfl);have au:=au an;have cC:=ac.le;obtain⟨st,c6⟩:=sk;refine⟨_,H.le.cell cC ch.bA,_,rfl,_,H.le.cell cC ch.cg,aCc c6 (by omega) (by omega) ?_⟩;obtain⟨gq,rA⟩:∃gq,gq=u.ins src (.cells #[.int .u64 (kF st)] 215 (0,0)):=⟨_,rfl⟩;rw[<-rA];have lH:gq src=some (.cells #[.int .u64 (kF st)] 215 (0,0)):=by rw[rA];exact bh _ _ _
  have gI:∀c z,u c=some z->c≠src->gq c=some z:=λc z I an=>by rw[rA,bz _ _ an];exact I
  have abB:∀{c},gq c=none->u c=none:=λ{c} I=>by
   by_cases e:c=src
   grind
   rw[rA,bz _ _ e] at I;exact I
  have wb:ub.le gq:=λc z I=>gI c z (cC c z I) λe=>by grind
  have A2:aD ub gq 52 2 s (l.flatMap cJ):=⟨ac.own.le λc z I M=>gI c z M λe=>wa (by rw[I,e]),wb,ac.fresh⟩;have aho:dU gq s l:=⟨A2.own.cK,λr U=>(aB r U).mono wb⟩;obtain⟨afi,Yw⟩:∃x,x=vb (kF st)%(s.n:o):=⟨_,rfl⟩;have Y:0<=afi:=by rw[Yw];exact OE _ (by omega)
  have a2:afi<s.n:=by rw[Yw];exact OF _ (by omega)
  rw[<-Yw];obtain⟨abU,awk,sC,pZ,_,c1,c2⟩:=aho.at Y a2;have awB:sC∈l:=dz pZ;obtain⟨cB,cW⟩:=bM.v sC awB;have aKi:=c2.len;refine⟨abU,awk,⟨Y,a2⟩,sC.s,c1,sI c2 (by omega) λga o0 oO _=>?_⟩;have ako:=oO.le;intro n10 aiS;refine lZ (zs:=[.slice none 0 0]) rfl (by simp[cI]) ?_;obtain⟨zZ,aan⟩:∃zZ,zZ=o0.ins n10 (.cells [ed ga.a ga.n ga.c].toArray 30 (0,0)):=⟨_,rfl⟩;rw[<-aan];have SQ:o0.le zZ:=by rw[aan];exact bX _ aiS
  have d10:zZ n10=some (.cells [ed ga.a ga.n ga.c].toArray 30 (0,0)):=by rw[aan];exact bh _ _ _
  have NJ:gq.le zZ:=ako.trans SQ;have ato:dU zZ s l:=aho.mono NJ;have mx:Ints zZ ga sC.v:=oO.ints.mono SQ;refine⟨ga,aZ d10 0,am8 mx cW ato (by rw[cB];exact bM) λbx i18 fg h1=>?_⟩;have SZ:zZ.le fg:=h1.le;obtain⟨R,b7⟩:∃R,R=oY sC.v l l.length:=⟨_,rfl⟩;rw[<-b7];have apt:jJ R:=by rw[b7];exact alG cW (by rw[cB];exact bM) _ (cw _)
  have FW:gq.le fg:=NJ.trans SZ;have lg:ub.le fg:=wb.trans FW;have GF:fg src=some (.cells #[.int .u64 (kF st)] 215 (0,0)):=FW _ _ lH;have fresh:∀{c},zZ c=none->ub c=none/\c≠src/\s.al≠some c:=λ{c} I=>⟨wb.none (NJ.none I),(λe=>by
   have l6:=NJ.none I
   grind),λe=>dH A2 e (NJ.none I)⟩
  have kb:∀rows kids,l3 ((bI.mk 3 sC.v [] R rows kids).hI []) d:=λrows kids=>⟨av,mG,λx M=>(by cases M),.inr (.inr ⟨rfl,rfl,cW,cB,apt⟩)⟩;have ins:∀rows kids,∀W∈l.map ax.bn,mq ((bI.mk 3 sC.v [] R rows kids).hI []) W.2:=λrows kids W aE=>by obtain⟨r,U,rfl⟩:=bQ.1 aE;refine⟨λh=>(by cases h),λ_=>?_⟩;obtain⟨i,hi,Zc⟩:=oX U;show gb sC.v r.v sC.v.length<=R;rw[b7];exact(alF sC.v l l.length).2 i r hi (by grind)
  have Dg:∀g,bx.al=some g->fg g≠none:=λg Z=>dH h1 Z;have pb:∀g,bx.al=some g->zZ g=none:=λg Z=>h1.fresh g Z;have aya:∀g,s.al=some g->fg g≠none:=λg Z=>dH (A2.mono FW) Z;intro aIl CL;have NN:∀n31,fg n31=none->K (some ⟨n31,0,none⟩) (fg.ins n31 (.cells #[.int .i64 3,.slice bx.a bx.n bx.c,.slice none 0 0,.int .u64 (cQ R),.int .u64 (cS R),.slice none 0 0,.slice s.a s.n s.c,.slice none 0 0] 213 (0,0))):=by
   intro n31 uN;obtain⟨qJ,iP⟩:∃cb:ev,cb=⟨n31,3,bx,⟨none,0,0⟩,sC.v,[],R,s,l,⟨none,0,0⟩⟩:=⟨_,rfl⟩;have rD:=bX (u:=fg) (b:=n31) (.cells (eT qJ).toArray 213 (0,0)) uN;have key:=au (fg.ins n31 (.cells (eT qJ).toArray 213 (0,0))) (.mk qJ []);have qO:(aw.mk qJ []).own=n31::(bx.al.toList++s.al.toList):=by rw[aw.rI,iP];simp[aw.h,aw.kids,ev.dE,N.al]
   have gf:(bt #[.int .i64 3,.slice bx.a bx.n bx.c,.slice none 0 0,.int .u64 (cQ R),.int .u64 (cS R),.slice none 0 0,.slice s.a s.n s.c,.slice none 0 0] 213 (0,0))=.cells (eT qJ).toArray 213 (0,0):=by rw[iP];rfl
   rw[gf];have Il:(aw.mk qJ []).b=n31:=by rw[iP];rfl
   rw[Il] at key;have f31:=fresh (SZ.none uN);refine key ⟨λy aj=>?_,?_,λc I=>?_,?_,?_,λy aj r U=>?_,?_,λc z I kS dV=>rD c z (FW c z (gI c z I dV)),⟨_,rD _ _ GF⟩,by rw[aw.hz,iP];exact .mk rfl λk hk=>(by cases hk),QB (.inl rfl) λk hk=>(by cases hk)⟩;rw[aw.iD] at aj;obtain rfl:y=(qJ,[]):=by simpa[aw.h,aw.kids] using aj
   subst iP;exact⟨bh _ _ _,(h1.mono rD).own,Own.nil _ _ _,((A2.mono FW).mono rD).own,λr U=>(aB r U).mono (lg.trans rD),⟨rfl,cw _,by grind,.inl rfl⟩⟩
   grind
   rw[qO] at I;simp only[dM,dT,zM] at I;rcases I with rfl|I|I;exact⟨f31.1,by rw[bh];simp,f31.2.1⟩;have:=fresh (pb c I);exact⟨this.1,λe=>Dg c I (rD.none e),this.2.1⟩;exact⟨ac.fresh c I,λe=>aya c I (rD.none e),λe=>wa (by rw[<-e];exact I)⟩;rw[aw.tJ,aw.iD];subst iP;simp[aw.h,aw.kids];rw[aw.hz];subst iP;refine .mk (kb _ _) (λW aE=>ins _ _ W ?_) λk hk=>(by cases hk);rw[bI.all_eq] at aE;have FK:W∈l.map ax.bn++ []:=aE
   grind
   rw[aw.iD] at aj;obtain rfl:y=(qJ,[]):=by simpa[aw.h,aw.kids] using aj
   grind
   rw[aw.iD];have:=yb.2 an;simp[aw.kids];omega
  refine⟨_,H.le.cell lg ch.bA,_,rfl,leaf,H.le.cell lg ch.q7,λ_=>NN,λvT=>⟨λ_=>NN,λ_=>CL none fg λn24 ML=>?_⟩⟩;refine lZ (zs:=[.nilFunc]) rfl (by simp[cI]) ?_;obtain⟨w,hw⟩:∃w,w=fg.ins n24 (.cells [Q3 n10].toArray 219 (0,0)):=⟨_,rfl⟩;rw[<-hw];have I9:fg.le w:=by rw[hw];exact bX _ ML
  have d24:w n24=some (.cells [Q3 n10].toArray 219 (0,0)):=by rw[hw];exact bh _ _ _
  have aqY:w n10=some (.cells [ed ga.a ga.n ga.c].toArray 30 (0,0)):=I9 _ _ (SZ _ _ d10);have zk:gq.le w:=FW.trans I9;have an0:ub.le w:=lg.trans I9;have A4:aD ub w 52 2 s (l.flatMap cJ):=A2.mono zk;have Z6:∀c,s.al=some c->gq c≠none:=λc I=>dH A2 I;obtain⟨sK,FG⟩:∃sK:H,sK=nY w s:=⟨_,rfl⟩;have bc:ub.le sK:=λc z I=>by rw[FG,nZ (λe=>by rw[ac.fresh c e] at I;cases I)];exact an0 c z I
  have ae7:sK n24=w n24:=by rw[FG];exact nZ λe=>Z6 _ e (FW.none ML)
  have ae6:sK n10=w n10:=by rw[FG];exact nZ λe=>Z6 _ e (ako.none aiS)
  have apv:Ints sK ga sC.v:=bw.else (mx.mono (SZ.trans I9)) λg z Z M=>by rw[FG,nZ (λe=>Z6 _ e (oO.fresh g Z))];exact M
  refine amV A4 (by rw[FG];exact DJ _ _) (λb aa=>by rw[FG];exact b3 aa) (W3 (n10:=n10) (by rw[d24] at ae7;exact aZ ae7 0) (by rw[aqY] at ae6;exact aZ ae6 0) apv cW cB av.1 (λr U=>(aB r U).mono bc) bM) (by omega) λu32 m ad oP AP=>?_;have nf:=ad.length_eq;have nh:ub.le u32:=λc z I=>AP c z (an0 c z I) λe=>by have:=ac.fresh c e;grind
  have nX:Al u32 src:=⟨_,AP _ _ (I9 _ _ GF) wa⟩;have Zs:gD m d:=bM.mix ad;have uM:∀r∈m,Ints ub r.s r.v:=λr U=>aB r (ad.mem_iff.1 U);have Rt:dU u32 s m:=⟨oP.own.cK,λr U=>(uM r U).mono nh⟩;have fQ:=bw.cap oP.own.cK;obtain⟨fa,y5⟩:∃fa:O,fa=s.n/2:=⟨_,rfl⟩;have Xk:ff (s.n:o) 2=(fa:o):=by grind
  rw[Xk];have O5:∀{W:H} {Q:N->H->Prop},Q (s.part 0 fa s.c 2) W->c7 aH (fZ 22 (.slice s.a s.n s.c) none (some (.int .i64 (fa:o))) none) [.one .slice] W Q:=λfj=>
   kJ (P:=aH) ig (l:=0) (h:=fa) (m:=s.c) (.inl ⟨rfl,rfl⟩) (.inr rfl) (.inl ⟨rfl,rfl⟩) (by omega) (by omega) (cw _) fQ fj
  have BL:∀{W:H} {Q:N->H->Prop},Q (s.part fa s.n s.c 2) W->c7 aH (fZ 22 (.slice s.a s.n s.c) (some (.int .i64 (fa:o))) none none) [.one .slice] W Q:=λfj=>
   kJ (P:=aH) ig (l:=fa) (h:=s.n) (m:=s.c) (.inr rfl) (.inl ⟨rfl,rfl⟩) (.inl ⟨rfl,rfl⟩) (by omega) fQ (cw _) fQ fj
  have hX:(m.take fa).length=fa:=by grind
  have iR:(m.drop fa).length=m.length-fa:=by rw[rO]
  have Fm:m.take fa≠[]:=λe=>by grind
  have y9:m.drop fa≠[]:=λe=>by grind
  have aA1:∀{W:H},(∀c z,u32 c=some z->c≠src->W c=some z)->dU W s m:=λ{W} aE=>⟨bw.else oP.own.cK λc z I M=>aE c z M λe=>wa (by rw[I,e]),λr U=>(uM r U).mono λc z I=>aE c z (nh c z I) λe=>by grind⟩;have wu:∀{W:H},dU W s m->dU W (s.part 0 fa s.c 2) (m.take fa):=λaE=>by have:=aE.part (l:=0) (h:=fa) (m:=s.c) (by omega) (by omega) (by omega) (cw _);simpa using this
  have azI:∀{W:H},dU W s m->dU W (s.part fa s.n s.c 2) (m.drop fa):=λaE=>by have:=aE.part (l:=fa) (h:=s.n) (m:=s.c) (by omega) (cw _) fQ (cw _);rwa[gC (by omega)] at this
  have lub:∀{W:H},(∀c z,u32 c=some z->c≠src->W c=some z)->ub.le W:=λaE c z I=>aE c z (nh c z I) λe=>by grind
  have DG:∀{W fA:H} {t:N} {k:J ax} {Q:aA a8->H->Prop},(∀c z,u32 c=some z->c≠src->W c=some z)->Al W src->aD W fA 52 2 t (k.flatMap cJ)->k≠[]->k.length<=de->k.Sublist m->(∀u' n,nw (H.no W src) fA src t k d u' n->(∀c z,W c=some z->c≠src->u' c=some z)->Q (some ⟨n.b,0,none⟩) u')->
    h6 aH (yE n0 cj) #[.slice t.a t.n t.c] [.one .ptr] fA Q:=λ{W fA t k Q} aE ae jm hk Zg vX fj=>by
   have Di:ub.le (H.no W src):=ayh (lub aE) Nr
   obtain⟨oB,ze⟩:=ae
   have fk:t.al≠some src:=λe=>by have:=jm.fresh src e;grind
   exact⟨_,_,_,rfl,hs K2,aW Zg (ch.mono Di) (Ta _ _) ⟨oB,jm.le _ _ ze⟩ fk ⟨jm.own,(NW _ _).trans jm.le,λg Z=>(NW W src).none (jm.fresh g Z)⟩ (λr U=>(uM r (vX.mem U)).mono Di) (Zs.sub vX) (λe=>bf e hk) λ_ u' n I=>fj u' n I λc z bR dV=>I.uv c z (jm.le c z bR) (λe=>by have:=jm.fresh c e;grind) dV⟩
  have N5:Own u32 3 1 bx (sC.v.flatMap encI):=(h1.mono I9).own.le λc z I bR=>AP c z bR λe=>(fresh (pb c I)).2.2 e;have second:∀{W Kr jw:H} {t:N} {fb:aw},(∀c z,u32 c=some z->c≠src->Kr c=some z)->(∀c z,Kr c=some z->c≠src->W c=some z)->nw (H.no Kr src) jw src t (m.take fa) d W fb->n4 (s.part fa s.n s.c 2) W (λ(sH:N) (DV:H)=>(H.le ub DV)/\(h6 aH (yE n0 cj) #[.slice sH.a sH.n sH.c] [.one .ptr] DV (λ(abT:aA a8) (mN:H)=>(H.le ub mN)/\(c7 aH (dA 211 2 #[(0,.pointer (some ⟨fb.b,0,none⟩)),(1,.pointer abT)]) [.one .slice] mN (λ(mJ:N) (ih:H)=>(H.le ub ih)/\(∀n49:O,(ih n49=none)->K (some ⟨n49,0,none⟩) (ih.ins n49 (.cells #[.int .i64 3,.slice bx.a bx.n bx.c,.slice none 0 0,.int .u64 (cQ R),.int .u64 (cS R),.slice none 0 0,.slice none 0 0,.slice mJ.a mJ.n mJ.c] 213 (0,0))))))))):=by
   intro W Kr jw t fb aaT aj6 I;have aE:∀c z,u32 c=some z->c≠src->W c=some z:=λc z h1 h2=>aj6 c z (aaT c z h1 h2) h2;have ayx:=lub aE;refine Pc (azI (aA1 aE)).1 (by show s.n-fa<=_;omega) λsH DV MU _=>⟨ayx.trans MU.le,DG aE I.src MU y9 (by omega) (Oo _ _) λmN ck aa wi=>?_⟩;have FL:∀c z,u32 c=some z->c≠src->mN c=some z:=λc z h1 h2=>wi c z (aE c z h1 h2) h2;refine⟨lub FL,?_⟩;refine mK (WM fb.b ck.b) λg Z=>?_;have tB:=bX (u:=mN) (b:=g) (.cells [ha (some ⟨fb.b,0,none⟩),.pointer (some ⟨ck.b,0,none⟩)].toArray 167 (0,0)) Z;have mk:=aD.make (k:=1) (H.le.refl mN) Z (cells:=[ha (some ⟨fb.b,0,none⟩),.pointer (some ⟨ck.b,0,none⟩)].toArray) (e:=167) (n:=2) (by omega) rfl;obtain⟨ih,Nl⟩:∃ih,ih=mN.ins g (.cells [ha (some ⟨fb.b,0,none⟩),.pointer (some ⟨ck.b,0,none⟩)].toArray 167 (0,0)):=⟨_,rfl⟩;have Y0:ih g≠none:=by rw[Nl,bh];simp
   rw[<-Nl] at tB mk ⊢;refine⟨(lub FL).trans tB,λn49 C5=>?_⟩;obtain⟨ky,iP⟩:∃cb:ev,cb=⟨n49,3,bx,⟨none,0,0⟩,sC.v,[],R,⟨none,0,0⟩,[],⟨some ⟨g,0,none⟩,2,2⟩⟩:=⟨_,rfl⟩;have gf:(bt #[.int .i64 3,.slice bx.a bx.n bx.c,.slice none 0 0,.int .u64 (cQ R),.int .u64 (cS R),.slice none 0 0,.slice none 0 0,.slice (some ⟨g,0,none⟩) 2 2] 213 (0,0))=.cells (eT ky).toArray 213 (0,0):=by rw[iP];rfl
   show K (some ⟨n49,0,none⟩) (ih.ins n49 (bt #[.int .i64 3,.slice bx.a bx.n bx.c,.slice none 0 0,.int .u64 (cQ R),.int .u64 (cS R),.slice none 0 0,.slice none 0 0,.slice (some ⟨g,0,none⟩) 2 2] 213 (0,0)));rw[gf];have zj:=bX (u:=ih) (b:=n49) (.cells (eT ky).toArray 213 (0,0)) C5;obtain⟨G0,ajH⟩:∃G0,G0=ih.ins n49 (.cells (eT ky).toArray 213 (0,0)):=⟨_,rfl⟩;have key:=au G0 (.mk ky [fb,ck]);have d49:G0 n49=some (.cells (eT ky).toArray 213 (0,0)):=by rw[ajH];exact bh _ _ _
   rw[<-ajH] at zj ⊢;have EX:(aw.mk ky [fb,ck]).b=n49:=by rw[iP];rfl
   rw[EX] at key;have SU:mN.le G0:=tB.trans zj;have aec:∀c z,u32 c=some z->c≠src->G0 c=some z:=λc z h1 h2=>SU c z (FL c z h1 h2);have anZ:=lub aec;have SP:∀c,bx.al=some c->u32 c≠none/\c≠src:=λc I=>⟨abQ N5 I,(fresh (pb c I)).2.1⟩;have I7:∀{a b:H},(∀c z,a c=some z->c≠src->b c=some z)->∀{c},a c≠none->c≠src->b c≠none:=λ{a b} h {c} I ae=>by obtain⟨z,bR⟩:=fp.1 I;rw[h c z bR ae];simp
   have FQ:∀{c},mN c≠none->ih c≠none:=λI e=>I (tB.none e);have axZ:∀{c},ih c≠none->G0 c≠none:=λI e=>I (zj.none e);have anj:∀{c},mN c=none->c≠src:=λI e=>by
    obtain⟨oB,ze⟩:=aa.src
    grind
   have aoD:∀{c},H.no Kr src c=none->c≠src->Kr c=none:=λh ae=>by rw[Jk ae] at h;exact h
   have aoE:∀{c},H.no W src c=none->c≠src->W c=none:=λh ae=>by rw[Jk ae] at h;exact h
   have aEd:∀{W:H},ub.le W->∀{c},W c=none->ub c=none:=λ{_} h {_} I=>H.le.none h I;have qO:(aw.mk ky [fb,ck]).own=n49::((bx.al.toList++ [g])++(fb.own++ck.own)):=by rw[aw.rI,iP];simp[aw.h,aw.kids,ev.dE,N.al]
   have E5:(aw.mk ky [fb,ck]).bT=(ky,[fb.b,ck.b])::(fb.bT++ck.bT):=by rw[aw.iD];simp[aw.h,aw.kids]
   have abc:∀c∈(bx.al.toList++ [g])++(fb.own++ck.own),ub c=none/\ih c≠none/\c≠src:=λc c4=>by
    simp only[dT,zM,hZ] at c4;rcases c4 with(c4|rfl)|c4|c4;obtain⟨di,dv⟩:=SP c c4;exact⟨(fresh (pb c c4)).1,FQ (I7 FL di dv),dv⟩;exact⟨(lub FL).none Z,Y0,anj Z⟩;obtain⟨di,dv,ef⟩:=I.out c c4;exact⟨aEd (lub aaT) (aoD di ef),FQ (I7 wi dv ef),ef⟩;obtain⟨di,dv,ef⟩:=aa.out c c4
    grind
   refine key ⟨λy aj=>?_,?_,λc c4=>?_,?_,?_,λy aj r U=>?_,?_,λc z YH kS dV=>aec c z (AP c z (zk c z (gI c z YH dV)) kS) dV,?_,?_,?_⟩;rw[E5] at aj;rcases dM.1 aj with rfl|aj;subst iP;exact⟨d49,N5.le λc z dI bR=>aec c z bR (SP c dI).2,Own.nil _ _ _,Own.nil _ _ _,λr U=>(by cases U),(mk.mono zj).own.cK⟩;rcases dT.1 aj with aj|aj;exact(I.one y aj).bO (λc z c4 bR=>SU c z (wi c z bR (I.out c (eA.2 ⟨y,aj,c4⟩)).2.2)) λr U=>(uM r (oW (I.rows y aj r U))).mono anZ;exact(aa.one y aj).bO (λc z _ bR=>SU c z bR) λr U=>(uM r (tQ (aa.rows y aj r U))).mono anZ;rw[qO,ka];refine⟨λhm=>(abc n49 hm).2.1 C5,?_⟩;have e0:∀z:aA O,z.toList.Nodup:=λz=>by cases z<;>simp
   rw[hg,hg,hg];refine⟨⟨e0 _,by simp,λa az b eB e=>?_⟩,⟨I.nodup,aa.nodup,λa az b eB e=>?_⟩,λa az b eB e=>?_⟩;rw[hZ] at eB;rw[zM] at az;rw[<-e] at eB;subst eB;obtain⟨di,dv⟩:=SP a az;exact I7 FL di dv Z;subst e;obtain⟨_,dv,ef⟩:=I.out a az;exact dv (aoE (aa.out a eB).1 ef);subst e;simp only[dT,zM,hZ] at az eB;rcases az with az|rfl;obtain⟨di,dv⟩:=SP a az;rcases eB with eB|eB;exact I7 aaT di dv (aoD (I.out a eB).1 dv);exact I7 aE di dv (aoE (aa.out a eB).1 dv);rcases eB with eB|eB;obtain⟨_,dv,ef⟩:=I.out a eB;exact I7 wi dv ef Z;exact(aa.out a eB).2.1 Z;rw[qO] at c4;rcases dM.1 c4 with rfl|c4;exact⟨(lub FL).none (tB.none C5),by rw[d49];simp,anj (tB.none C5)⟩
   grind
   rw[aw.hz,bI.all_eq,iP];show([]++bI.j2 ([fb,ck].map aw.bG)).Perm _;rw[mm];show(fb.bG.all++(ck.bG.all++ [])).Perm _;rw[ml];refine(I.all.append aa.all).trans ?_;rw[<-en,px];exact ad.map _;rw[aw.hz];have eL:∀x,x∈(bI.mk ky.aC ky.bm ky.hi ky.cD (ky.rows.map ax.bn) ([fb,ck].map aw.bG)).all->x∈l.map ax.bn:=λx M=>by
    rw[bI.all_eq] at M;subst iP;have gn:x∈[]++(fb.bG.all++(ck.bG.all++ [])):=M;rw[mm,ml] at gn;refine(ad.map ax.bn).mem_iff.1 ?_;rcases dT.1 gn with gn|gn;obtain⟨r,U,rfl⟩:=bQ.1 (I.all.mem_iff.1 gn)
    grind
    obtain⟨r,U,rfl⟩:=bQ.1 (aa.all.mem_iff.1 gn)
    grind
   subst iP;refine .mk (kb [] []) (λx M=>ins [] [] x (eL x M)) λk hk=>?_;have dk:k∈[fb.bG,ck.bG]:=hk;simp only[dM,qX,qY] at dk;rcases dk with rfl|rfl;exact I.ok;exact aa.ok;rw[E5] at aj;rcases dM.1 aj with rfl|aj;subst iP;cases U;rcases dT.1 aj with aj|aj;exact ad.mem_iff.1 (oW (I.rows y aj r U));exact ad.mem_iff.1 (tQ (aa.rows y aj r U));rw[E5,jq,gG];have aT:=I.size;have aN:=aa.size;omega;obtain⟨oB,ze⟩:=aa.src;exact⟨oB,SU _ _ ze⟩;rw[aw.hz,iP];refine .mk rfl λk hk=>?_;have dk:k∈[fb.bG,ck.bG]:=hk;simp only[dM,qX,qY] at dk;rcases dk with rfl|rfl;exact I.oA;exact aa.oA;refine QB (.inr rfl) λk hk=>?_;simp only[dM,qX,qY] at hk;rcases hk with rfl|rfl;exact I.bin;exact aa.bin
  have z0:∀c z,u32 c=some z->c≠src->u32 c=some z:=λ_ _ h _=>h;have left:∀{Q:N->H->Prop},(∀t fA,aD u32 fA 52 2 t ((m.take fa).flatMap cJ)->Q t fA)->n4 (s.part 0 fa s.c 2) u32 Q:=λ{Q} fj=>
   Pc (wu Rt).1 (by show fa-0<=_;omega) λar u' bR _=>fj ar u' bR
  have first:∀{t fA} {Q:aA a8->H->Prop},aD u32 fA 52 2 t ((m.take fa).flatMap cJ)->(∀W fb,nw (H.no u32 src) fA src t (m.take fa) d W fb->(∀c z,u32 c=some z->c≠src->W c=some z)->Q (some ⟨fb.b,0,none⟩) W)->h6 aH (yE n0 cj) #[.slice t.a t.n t.c] [.one .ptr] fA Q:=λjm fj=>
   DG z0 nX jm Fm (by omega) (sz _ _) λu' n I aE=>fj u' n I aE
  refine⟨by decide,⟨by omega,by omega⟩,ub,nh,_,ch.c1,_,ch.c1,?_,?_⟩;refine O5 ⟨nh,left λt fA jm=>⟨nh.trans jm.le,?_,?_⟩,?_⟩;exact first jm λW fb I aE=>⟨lub aE,BL ⟨lub aE,second z0 aE I⟩⟩
  exact BL ⟨nh.trans jm.le,first jm λW fb I aE=>⟨lub aE,second z0 aE I⟩⟩;exact BL ⟨nh,left λt fA jm=>⟨nh.trans jm.le,first jm λW fb I aE=>⟨lub aE,second z0 aE I⟩⟩⟩;exact BL ⟨nh,O5 ⟨nh,left λt fA jm=>⟨nh.trans jm.le,first jm λW fb I aE=>⟨lub aE,second z0 aE I⟩⟩⟩⟩
end lr
end
namespace lr
section
variable{u ub:H}{b:O}
def K3:hy aH 276=ai:=by kernel_rfl
def WG:hy aH 277=ai:=by kernel_rfl
def Xd{n0:O}{id:o}(bA:ub.cell? ⟨n0,0,none⟩=some (.int .i64 id)):Qq ub (.func (.func 277) #[] #[.pointer (some ⟨n0,0,none⟩)]) λr=>decide (r.id=id):=λr v K aB au=>
 .inl ⟨_,_,_,rfl,hs WG,aHD r.id r.s ⟨n0,0,none⟩ v K ⟨_,H.le.cell (show ub.le v from aB) bA,au⟩⟩
theorem ac6{n0 cj:O}{id:o}(bA:ub.cell? ⟨n0,0,none⟩=some (.int .i64 id))(c1:ub.cell? ⟨cj,0,none⟩=some (.func (.func 276) #[] #[.pointer (some ⟨n0,0,none⟩),.pointer (some ⟨cj,0,none⟩)])):
  ∀(n:aw) {u:H} {K:H->Prop},ub.le u->(∀x∈n.bT,hL u x)->n.own.Nodup->(∀c∈n.own,ub c=none)->(∀x∈n.bT,∀r∈x.1.rows,Ints ub r.s r.v)->n.bT.length<=10000000->(∀u' n',Hp id n u' n'->(∀c z,u c=some z->c∉n.own->u' c=some z)->(∀c,u c≠none->u' c≠none)->K u')->
   aeR (some ⟨n.b,0,none⟩) ⟨n0,0,none⟩ ⟨cj,0,none⟩ u K:=by
 intro n
 induction n using aw.ind with
 |h n aW=>
  intro u K cC pe b8 lb ni dm au;have cb:(n.h,n.kids.map aw.b)∈n.bT:=by rw[aw.iD];exact ik ..
  have h0:=pe _ cb;have aa:n.b=n.h.b:=rfl;rw[aw.rI] at b8 lb;have og:=b8;rw[hg] at og;obtain⟨gQ,fK,tl⟩:=og;have Nb:∀g,n.h.a6.al=some g->g∈n.h.dE:=λg Z=>by simp[ev.dE,Z]
  have Nc:n.h.a6.al≠some n.h.b:=λe=>by
   unfold ev.dE at gQ
   grind
  have ax8:n.kids.length<=10000000:=by
   have h1:n.bT.length=1+(n.kids.flatMap aw.bT).length:=by rw[aw.iD,jq];omega
   have h2:∀ks:J aw,ks.length<=(ks.flatMap aw.bT).length:=λks=>by
    induction ks with
    |nil=>simp|cons k ks I0=>rw[jr,gG,jq];have:=k.ah4;omega
   have:=h2 n.kids;omega
  apply aHC;refine⟨_,rfl,n.h.a6,aZ h0.cell 6,?_⟩;refine amS h0.rws.f (Xd bA) cC (λg Z=>lb g (kG _ (Nb g Z))) λs2 il dt iN jy=>?_;have AR:(n.h.rows.filter λr=>!decide (r.id=id))=n.h.rows.filter λr=>r.id !=id:=TN λr _=>by grind
  rw[AR] at dt;refine⟨_,rfl,?_⟩;have YE:il n.h.b=some (.cells (eT n.h).toArray 213 (0,0)):=jy _ _ h0.cell Nc;refine Uu YE s2 (n.h.rows.filter λr=>r.id !=id) ?_;obtain⟨bZ,nI⟩:∃bZ:ev,bZ={n.h with a6:=s2,rows:=n.h.rows.filter λr=>r.id !=id}:=⟨_,rfl⟩;rw[<-nI];have eB:bZ.b=n.h.b:=by rw[nI]
  have L0:bZ.dE=n.h.dE:=by rw[nI];unfold ev.dE;simp[iN]
  obtain⟨gq,rA⟩:∃gq,gq=il.ins n.h.b (.cells (eT bZ).toArray 213 (0,0)):=⟨_,rfl⟩;rw[<-rA];have lH:gq n.h.b=some (.cells (eT bZ).toArray 213 (0,0)):=by rw[rA];exact bh _ _ _
  have ur:∀c z,il c=some z->c≠n.h.b->gq c=some z:=λc z I an=>by rw[rA,bz _ _ an];exact I
  have gI:∀c z,u c=some z->c∉n.h.dE->gq c=some z:=λc z I an=>ur c z (jy c z I λe=>an (Nb c e)) λe=>an (by rw[e];exact ik ..);have abh:∀c,u c≠none->gq c≠none:=λc I=>by by_cases e:c=n.h.b;rw[e,lH];simp;obtain⟨z,ac⟩:=fp.1 I;by_cases aN:n.h.a6.al=some c;obtain⟨zw,jT⟩:=fp.1 (dH dt (g:=c) (by rw[iN];exact aN));rw[ur c zw jT e];simp;rw[ur c z (jy c z ac aN) e];simp
  have wb:ub.le gq:=λc z I=>gI c z (cC c z I) λhm=>by grind
  have N6:∀{e k:O} {s:N} {xs:J ap},Own u e k s xs->(∀g,s.al=some g->g≠n.h.b/\n.h.a6.al≠some g)->Own gq e k s xs:=λac an=>ac.le λc z I hu=>ur c z (jy c z hu λe=>(an c I).2 e) (an c I).1;have kv:(∀g,n.h.bx.al=some g->g≠n.h.b/\n.h.a6.al≠some g)/\(∀g,n.h.fT.al=some g->g≠n.h.b/\n.h.a6.al≠some g)/\(∀g,n.h.dd.al=some g->g≠n.h.b/\n.h.a6.al≠some g):=by unfold ev.dE at gQ;rw[ka] at gQ;obtain⟨di,dv⟩:=gQ;have aL:∀g,g∈n.h.bx.al.toList++n.h.fT.al.toList++n.h.a6.al.toList++n.h.dd.al.toList->g≠n.h.b:=λg Z e=>di (by rw[<-e];exact Z);rw[hg,hg,hg] at dv;obtain⟨⟨⟨_,_,ef⟩,_,hl⟩,_,rJ⟩:=dv;refine⟨λg Z=>⟨aL g (by simp[Z]),λe=>hl g (by simp[Z]) g (by simp[e]) rfl⟩,λg Z=>⟨aL g (by simp[Z]),λe=>hl g (by simp[Z]) g (by simp[e]) rfl⟩,λg Z=>⟨aL g (by simp[Z]),λe=>rJ g (by simp[e]) g (by simp[Z]) rfl⟩⟩
  have LQ:∀tz,tz=n.kids.map aw.b->hL gq (bZ,tz):=λtz Mq=>by subst Mq;subst nI;refine⟨lH,N6 h0.bm kv.1,N6 h0.hi kv.2.1,dt.own.le λc z I hu=>ur c z hu λe=>Nc (by rw[<-iN,I,e]),λr U=>(ni _ cb r (kZ.1 U).1).mono wb,bw.else h0.mf λg z Z ac=>ur g z (jy g z ac λe=>(kv.2.2 g Z).2 e) (kv.2.2 g Z).1⟩
  have FA:bZ.dd=n.h.dd:=by rw[nI]
  refine⟨_,rfl,bZ.dd,by rw[aa];exact aZ lH 7,?_⟩;refine⟨λx w=>0<=x/\x<=n.kids.length/\(∀c z,gq c=some z->c∉n.kids.flatMap aw.own->w c=some z)/\(∀c,gq c≠none->w c≠none)/\∃ds:J aw,ds.length=x.toNat/\(∀(i:O) d k,ds[i]?=some d->n.kids[i]?=some k->Hp id k w d)/\(∀(i:O) k,x.toNat<=i->n.kids[i]?=some k->∀y∈k.bT,hL w y),
   λx _=>((n.kids.length:o)-x).toNat,⟨by omega,by omega,λc z I _=>I,λc I=>I,[],rfl,λi d k av=>by simp at av,λi k _ hk y aj=>?_⟩,?_⟩
  obtain⟨jw,z2⟩:k.own ⊆ n.kids.flatMap aw.own/\True:=⟨λc I=>eA.2 ⟨k,dz hk,I⟩,trivial⟩;have FJ:y∈n.bT:=by rw[aw.iD];exact iX _ (eA.2 ⟨k,dz hk,aj⟩)
  refine(pe y FJ).bO (λc z I ac=>gI c z ac λhm=>tl c hm c (jw (eA.2 ⟨y,aj,I⟩)) rfl) λr U=>(ni y FJ r U).mono wb;rintro x w ⟨bK,dr,si,ma,ds,CT,sd,v7⟩;have lg:ub.le w:=λc z I=>si c z (wb c z I) λhm=>by grind
  have Z8:bZ.dd.n=n.kids.length:=by rw[FA];have:=h0.mf.len;simp at this;omega
  have Fe:∀{W:O} {k:aw},n.kids[W]?=some k->(∀y∈k.bT,y∈n.bT)/\(∀c∈k.own,c∈n.kids.flatMap aw.own):=λhk=>⟨λy aj=>by rw[aw.iD];grind,λc I=>eA.2 ⟨_,dz hk,I⟩⟩;refine⟨λM=>?_,λM=>?_⟩;have eY:x.toNat<n.kids.length:=by omega
  obtain⟨k,hk⟩:∃k,n.kids[x.toNat]?=some k:=⟨_,dj eY⟩;have Z7:bw gq n.h.dd 1 ((n.kids.map aw.b).map λn=>.pointer (some ⟨n,0,none⟩)):=(LQ _ rfl).mf|>λh=>by rw[FA] at h;exact h
  have aaa:bw w n.h.dd 1 ((n.kids.map aw.b).map λn=>.pointer (some ⟨n,0,none⟩)):=bw.else Z7 λg z Z ac=>si g z ac λhm=>tl g (by simp[ev.dE,Z]) g hm rfl;have uG:((n.kids.map aw.b).map λn=>ha (some ⟨n,0,none⟩))[x.toNat]?=some (.pointer (some ⟨k.b,0,none⟩)):=by simp[hk]
  obtain⟨p,ad,gf⟩:=aaa.at'|>.resolve_left (λe=>by grind);have pR:=gf _ _ uG;obtain⟨cB,cW⟩:=Fe hk;have kj:k.own.Nodup:=fK.sublist (TO (kH (f:=aw.own) (dz hk)));have Ng:k.bT.length<=10000000:=by
   have h1:n.bT.length=1+(n.kids.flatMap aw.bT).length:=by rw[aw.iD,jq];omega
   have h2:k.bT.length<=(n.kids.flatMap aw.bT).length:=(TO (kH (f:=aw.bT) (dz hk))).length_le;omega
  refine⟨p,by rw[FA];exact ad,⟨bK,by omega⟩,_,by unfold aG;rw[wz];exact pR,_,lg.cell c1,.inl ⟨_,_,_,rfl,hs K3,?_⟩⟩;refine aW k (dz hk) lg (v7 x.toNat k (cw _) hk) kj (λc I=>lb c (q1 _ (cW c I))) (λy aj=>ni y (cB y aj)) Ng λw' d av eC vW=>?_;have Np:ub.le w':=λc z I=>eC c z (lg c z I) λe=>by grind
  have other:∀{i:O} {dY:aw},n.kids[i]?=some dY->i≠x.toNat->∀c∈dY.own,c∉k.own:=λdk an c I=>agA fK dk hk an I;refine⟨⟨by omega,by omega⟩,⟨by omega,by omega,λc z I hm=>eC c z (si c z I hm) λe=>hm (cW c e),λc I=>vW c (ma c I),ds++ [d],by grind,λi gO dY qI dk=>?_,λi dY hi dk y aj=>?_⟩,by dsimp only;omega⟩;by_cases e:i<ds.length;rw[Gi e] at qI;have hold:=sd i gO dY qI dk;have an:=other dk (by omega);refine⟨λy aj=>(hold.one y aj).bO (λc z I ac=>eC c z ac (an c (by rw[<-hold.own];exact eA.2 ⟨y,aj,I⟩))) λr U=>?_,hold.own,hold.b,hold.bG,hold.rows⟩;obtain⟨W,aE,oQ⟩:=hold.rows y aj r U;exact(ni W ((Fe dk).1 W aE) r oQ).mono Np;have ey:i<(ds++ [d]).length:=(hG.1 qI).1;rw[gG,x9] at ey;have w9:i=x.toNat:=by omega
  rw[Tn (by omega),show i-ds.length=0 by omega] at qI;obtain rfl:=eh (show some d=some gO from qI);rw[w9,hk] at dk;obtain rfl:=eh dk;exact av;refine(v7 i dY (by omega) dk y aj).bO (λc z I ac=>eC c z ac (other dk (by omega) c (eA.2 ⟨y,aj,I⟩))) λr U=>(ni y ((Fe dk).1 y aj) r U).mono Np;have eY:x.toNat=n.kids.length:=by omega
  have aud:ds.length=n.kids.length:=by omega
  have EA:∀{γ:Type} (f g:aw->γ),(∀(i:O) d k,ds[i]?=some d->n.kids[i]?=some k->f d=g k)->ds.map f=n.kids.map g:=λf g YU=>by
   apply sr
   grind
  have HN:ds.map aw.b=n.kids.map aw.b:=EA _ _ λi d k h1 h2=>(sd i d k h1 h2).b;have Xn:ds.flatMap aw.own=n.kids.flatMap aw.own:=by rw[JU,JU,EA aw.own aw.own λi d k h1 h2=>(sd i d k h1 h2).own]
  have ED:ds.map aw.bG=n.kids.map λk=>k.bG.del id:=EA _ _ λi d k h1 h2=>(sd i d k h1 h2).bG;have mem:∀d∈ds,∃k∈n.kids,Hp id k w d:=λd av=>by obtain⟨i,hi,rfl⟩:=oX av;exact⟨_,ln (show i<n.kids.length by omega),sd i _ _ (dj hi) (dj (by omega))⟩
  refine au w (.mk bZ ds) ⟨λy aj=>?_,?_,eB,?_,λy aj r U=>?_⟩ (λc z I hm=>?_) λc I=>ma c (abh c I);rw[aw.iD] at aj;rcases dM.1 aj with rfl|aj;refine(LQ _ HN).bO (λc z I ac=>si c z ac λhm=>tl c (by rw[<-L0];exact I) c hm rfl) λr U=>?_;have cU:r∈n.h.rows:=by grind
  exact(ni _ cb r cU).mono lg;obtain⟨d,av,aj⟩:=eA.1 aj;obtain⟨k,_,hk⟩:=mem d av;exact hk.one y aj;rw[aw.rI,aw.rI];show bZ.dE++ds.flatMap aw.own=_;rw[L0,Xn];rw[aw.hz,aw.hz,bI.del_eq];show bI.mk bZ.aC bZ.bm bZ.hi bZ.cD (bZ.rows.map ax.bn) (ds.map aw.bG)=bI.mk n.h.aC n.h.bm n.h.hi n.h.cD ((n.h.rows.map ax.bn).filter λx=>x.1 !=id) ((n.kids.map aw.bG).map (bI.del id));rw[ED,e4,sB,nI];rfl;rw[aw.iD] at aj;rcases dM.1 aj with rfl|aj;have cU:r∈n.h.rows:=by have:r∈bZ.rows:=U;rw[nI] at this;exact(kZ.1 this).1
  exact⟨_,cb,cU⟩;obtain⟨d,av,aj⟩:=eA.1 aj;obtain⟨k,vX,hk⟩:=mem d av;obtain⟨W,aE,oQ⟩:=hk.rows y aj r U;exact⟨W,by rw[aw.iD];grind,oQ⟩;rw[aw.rI] at hm
  grind
theorem GP{c3 src:O}{d leaf:o}{s:N}{l:J ax}{K:aA a8->H->Prop}(AX:1<=leaf)(q7:ub.cell? ((cp c3 0 none).add 1)=some (.int .i64 leaf))(cg:ub.cell? ((cp c3 0 none).add 2)=some (.pointer (some ⟨src,0,none⟩)))(Nr:ub src=none)(c6:Al u src)(wa:s.al≠some src)
  (ac:aD ub u 52 2 s (l.flatMap cJ)) (aB:∀r∈l,Ints ub r.s r.v) (bM:gD l d) (h0:l=[]->∀u',u.le u'->K none u') (au:l≠[]->∀u' n,nw ub u src s l d u' n->K (some ⟨n.b,0,none⟩) u'):Ho (some ⟨c3,0,none⟩) s u K:=by
 have cC:=ac.le
 apply aHI
 intro n0 fJ cj gQ
 obtain⟨gh,kk⟩:∃gh,gh=(bt #[ha (some ⟨c3,0,none⟩)] 116 (0,0)):=⟨_,rfl⟩
 rw[<-kk] at gQ ⊢
 have y6:n0≠cj:=λe=>by rw[<-e,bh] at gQ;cases gQ
 have MK:u cj=none:=by rw[bz _ _ (e3 y6)] at gQ;exact gQ
 refine lZ (zs:=[.nilFunc]) rfl (by simp[cI]) ?_
 obtain⟨e0,jl⟩:∃e0,e0=(bt [yE n0 cj].toArray 170 (0,0)):=⟨_,rfl⟩
 rw[<-jl]
 obtain⟨cF,qP⟩:∃cF,cF=(u.ins n0 gh).ins cj e0:=⟨_,rfl⟩
 rw[<-qP]
 have zm:u.le cF:=by rw[qP];exact(bX _ fJ).trans (bX _ gQ)
 have d0:cF n0=some gh:=by rw[qP,bz _ _ y6,bh]
 have d1:cF cj=some e0:=by rw[qP,bh]
 obtain⟨ja,axb⟩:∃ja:H,ja=λc=>if c=n0 then some gh else if c=cj then some e0 else ub c:=⟨_,rfl⟩
 have fH:ja n0=some gh:=by grind
 have e7:ja cj=some e0:=by grind
 have fy:∀{c},c≠n0->c≠cj->ja c=ub c:=λ{c} h1 h2=>by
  grind
 have qQ:ub.le ja:=λc z I=>by rw[fy (λe=>by rw[e,cC.none fJ] at I;cases I) (λe=>by rw[e,cC.none MK] at I;cases I)];exact I
 have NM:ja.le cF:=λc z I=>by
  by_cases fi:c=n0
  grind
  by_cases aT:c=cj
  grind
  rw[fy fi aT] at I;exact zm c z (cC c z I)
 have dt:aD ja cF 52 2 s (l.flatMap cJ):=⟨(ac.mono zm).own,NM,λg Z=>by rw[fy (λe=>dH ac Z (by rw[e];exact fJ)) (λe=>dH ac Z (by rw[e];exact MK))];exact ac.fresh g Z⟩
 have ch:wX ja n0 cj c3 src leaf:=⟨by rw[kk] at fH;exact aZ fH 0,by rw[jl] at e7;exact aZ e7 0,H.le.cell qQ q7,H.le.cell qQ cg⟩
 obtain⟨st,c6⟩:=c6
 have aEj:ja src=none:=by grind
 refine⟨_,H.le.cell NM ch.c1,.inl ⟨_,_,_,rfl,hs K2,?_⟩⟩
 exact ac5 AX l.length (cw _) ch aEj ⟨st,zm _ _ c6⟩ wa dt (λr U=>(aB r U).mono qQ) bM (λe=>h0 e cF zm) λan u' n I=>au an u' n ⟨I.one,I.nodup,λc hm=>⟨qQ.none (I.out c hm).1,(I.out c hm).2⟩,I.all,I.ok,I.rows,I.size,λc z h1 h2 h3=>I.uv c z (zm c z h1) h2 h3,I.src,I.oA,I.bin⟩
inductive bB where
 |tree|map|node|vec|src
structure aU where
 dim:o
 leaf:o
 src:O
 root:aA aw
 m:O
 w:J (o×(N×J o))
 eW:O
def aU.cm(T:aU):o:=T.leaf
def fx(T:aU):J ap:=[.int .i64 T.dim,.int .i64 T.leaf,.pointer (some ⟨T.src,0,none⟩),.pointer (T.root.map λn=>⟨n.b,0,none⟩),.map (some T.m)]
def ec(w:J (o×(N×J o))):J (o×ap):=w.map λe=>(e.1,.slice e.2.1.a e.2.1.n e.2.1.c)
structure ee(ah:O->aA bB)(u:H)(b:O)(T:aU):Prop where
 cell:u b=some (.cells (fx T).toArray 174 (0,0))
 dQ:ah b=some .tree
 map:fE u T.m (ec T.w)
 dy:ah T.m=some .map
 src:Al u T.src
 ie:ah T.src=some .src
 vec:∀e∈T.w,Ints u e.2.1 e.2.2/\∀g,e.2.1.al=some g->ah g=some .vec
 one:∀n,T.root=some n->(∀x∈n.bT,hL u x)/\n.own.Nodup/\(∀c∈n.own,ah c=some .node)/\∀x∈n.bT,∀r∈x.1.rows,∀g,r.s.al=some g->ah g=some .vec
theorem ee.bO{ah aY:O->aA bB}{u':H}{T:aU}(h:ee ah u b T)(ab:∀c,ah c≠none->aY c=ah c)(hu:∀c z,u c=some z->ah c≠none->u' c=some z):ee aY u' b T where
 cell:=hu _ _ h.cell (by rw[h.dQ];simp)
 dQ:=by rw[ab _ (by rw[h.dQ];simp)];exact h.dQ
 map:=h.map.else λz ac=>hu _ _ ac (by rw[h.dy];simp)
 dy:=by rw[ab _ (by rw[h.dy];simp)];exact h.dy
 src:=h.src.elim λst ae=>⟨st,hu _ _ ae (by rw[h.ie];simp)⟩
 ie:=by rw[ab _ (by rw[h.ie];simp)];exact h.ie
 vec e he:=by obtain⟨h1,h2⟩:=h.vec e he;exact⟨bw.else h1 λg z Z ac=>hu g z ac (by rw[h2 g Z];simp),λg Z=>by grind⟩
 one n ag:=by obtain⟨h1,h2,h3,br⟩:=h.one n ag;refine⟨λx M=>(h1 x M).bO (λc z I ac=>hu c z ac (by rw[h3 c (eA.2 ⟨x,M,I⟩)];simp)) λr U=>bw.else ((h1 x M).vec r U) λg z Z ac=>hu g z ac (by grind),h2,λc I=>by grind,λx M r U g Z=>by grind⟩
def bO:yt ee:=⟨λh ab hu=>h.bO ab hu⟩
abbrev In:=mP ee
def lG(T:aU):J ke:=match T.root with
 |none=>[]|some n=>n.bG.all
def bi(X:aU):J (o×J o):=X.w.map λe=>(e.1,e.2.2)
structure dX(T:aU):Prop where
 hP:1<=T.dim/\T.dim<=64
 Bk:1<=T.leaf/\T.leaf<=64
 ids:∀e∈T.w,1<=e.1/\e.1<=1000000000
 vec:∀e∈T.w,(e.2.2.length:o)=T.dim/\cY e.2.2
 small:T.w.length<=512
 rows:(lG T).Perm (bi T)
 ok:∀n,T.root=some n->gr T.dim n.bG
 oA:∀n,T.root=some n->lM 3 n.bG
 bin:∀n,T.root=some n->j1 n.bG
 size:∀n,T.root=some n->n.bT.length<=1100*T.eW+2000
def je:Cf aH 125 3 30 (.slice none 0 0):=⟨by kernel_rfl,by kernel_rfl,λ_=>by kernel_rfl⟩
def Ll(T:aU):(ec T.w).length=(bi T).length:=by simp[ec,bi]
theorem ee.rW{ah:O->aA bB}{T:aU}(h:ee ah u b T):((bi T).map (·.1)).Nodup:=by
 obtain⟨es,cl,_,he⟩:=h.map;have:=he.nodup;unfold ec at this;rw[e4] at this;unfold bi
 grind
def BM{ak:H}{ah:O->aA bB}{T:aU}{K:o->H->Prop}(h:In ak u ah b T)(au:K (bi T).length u):aeS (some ⟨b,0,none⟩) u K:=by apply aHE;refine⟨λe=>(by cases e),λ_=>⟨_,rfl,_,aZ h.aJ.cell 4,wK je h.aJ.map ?_⟩⟩;rw[Ll];exact au
end
end lr
