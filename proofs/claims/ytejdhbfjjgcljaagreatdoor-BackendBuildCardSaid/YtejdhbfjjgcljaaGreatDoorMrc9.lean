/- Texts of mine, joined and packed by pack.py. -/
import Derived.Test.YtejdhbfjjgcljaaGreatDoorMrc8
import Derived.OpenShut
set_option linter.all false
open Go renaming Program->dR,Value->ao,Addr->ba,callFunc->qw,Code->iK
open _root_ renaming Nat->N,List->J,Option->ay,Int->o,Bool->aI,False->ej,absurd->a6
open Bool renaming true->ak,false->ax
open Go.Obj renaming cells->bA
open Go.IntKind renaming i64->ci,signed->F4,bits->F5,u64->bR,min->Gn,max->Gp
open Go.Fence renaming wide->uy
open Go.Instr renaming buildSlice->dA
open Go.Builtin renaming append_->dW
open Go.Addr renaming add->ep,mk->cr
open List renaming range->ox
open Go.Proofs.Tryz renaming prog->aH
open Go.Value renaming agg->cV,int->cG,slice->dX,oneCell'->cF
open Int renaming tmod->nh,fdiv->er,toNat->vU
open List.Perm renaming cons->iL,trans->Be
open List.Pairwise renaming nil->mE
open Go.LoopState renaming busy->S8
set_option maxRecDepth 100000
noncomputable section
namespace Go.Proofs.YtejdhbfjjgcljaaGreatDoor
open H
namespace kE
def o5{α:Type}:∀{a b:J α},a.Nodup->(∀x∈a,x∈b)->a.length<=b.length/\(b.length<=a.length->a.Perm b)
 | [],b,_,_=>⟨nU _,λh=>by have:b=[]:=ly (by simpa using h);rw[this]⟩|x::a,b,ae,ag=>by
  obtain⟨s,t,rfl⟩:=aa0 (ag x (gh ..));rw[hK] at ae;have fY:∀y∈a,y∈s++t:=λy ah=>by have:=ag y (gd _ ah);rw[cK,cE] at this;rw[cK];rcases this with h|rfl|h;exact .inl h;exact a6 ah ae.1;exact .inr h
  obtain⟨h1,h2⟩:=o5 ae.2 fY;rw[eC] at h1 h2;refine⟨by simp;omega,λar=>?_⟩;have:=h2 (by simp at ar;omega);exact(iL x this).trans xJ.symm
def yX{α β:Type}{f:α->β}:∀{l:J α},(l.map f).Nodup->l.Nodup
 | [],_=>.nil|x::l,h=>by rw[gl,hK] at h;rw[hK];exact⟨λM=>h.1 (hS M),yX h.2⟩
def zn{ai u:H}{af:N->ay bu}{b:N}{T:aT}{K:U->H->Prop}(h:In ai u af b T)(aR:dP T)(aq:∀s ls u',qO u u' s ls->(ls.map av.bi).Perm (bb T)->(ls.Pairwise λa b=>a.id<=b.id)->K s u'):
  adi (some ⟨b,0,none⟩) u K:=by
 have fq:=aR.small
 apply aCD
 refine⟨λe=>(by cases e),λ_=>⟨_,rfl,_,a1 h.aF.cell 3,JQ iJ h.aF.map λr z O wX=>?_⟩⟩
 have jH:=bW (u:=u) (b:=r) z O
 refine⟨λs w=>∃rw:J av,mM w r T.m (ec T.w) (rw.map λx=>(x.id,.slice x.s.a x.s.n x.s.c))/\aD u w 52 2 s (rw.flatMap cB)/\s.aj≠some r/\∀x∈rw,(x.id,(x.s,x.v))∈T.w,λs _=>1000000-s.n,
  ⟨[],wX,aD.nil jH _ _,by simp[U.aj],λx M=>(by cases M)⟩,?_⟩
 rintro s w ⟨rw,iI,ab,pI,kQ⟩
 have dw:s.n=rw.length:=gY eY (by decide) ab.own.cC
 have lq:rw.length<=512:=by have h1:=iI.sub;have h2:=iI.rH;rw[ez] at h2;have h3:(rw.map (·.id)).length<=(T.w.map (·.1)).length:=(o5 h2 λx M=>by obtain⟨y,ah,rfl⟩:=bk.1 M;exact bk.2 ⟨_,kQ y ah,rfl⟩).1;rw[dg,dg] at h3;omega
 refine I2 iI (λhP=>?_) λp hE ad Ao pF=>?_
 have b1:dS w s rw:=⟨ab.own.cC,λx M=>((h.aF.vec _ (kQ x M)).1).mono ab.le⟩
 have kx:(rw.map av.bi).Perm (bb T):=by
  have bY:=iI.rH;rw[ez] at bY;have hlen:=hP.length_eq;simp only[dg,ec] at hlen;have nI:(T.w.map (·.1)).Nodup:=by rw[<-na];exact h.aF.rD
  have gH:∀x∈rw.map av.bi,x∈bb T:=λx M=>by obtain⟨y,ah,rfl⟩:=bk.1 M;exact bk.2 ⟨_,kQ y ah,rfl⟩
  have sQ:(rw.map av.bi).Nodup:=by have:(rw.map (·.id)).Nodup:=bY;rw[show rw.map (·.id)=(rw.map av.bi).map (·.1) by rw[ez];rfl] at this;exact yX this
  exact(o5 sQ gH).2 (by simp[bb];omega)
 refine zo b1 (λx M=>aR.ids _ (kQ x M)) (by omega) (λx M=>?_) λs2 ls c9 oe fg dE=>?_
 have mo:(x.v.length:o)=T.dim:=(aR.vec _ (kQ x M)).1
 have:=aR.hs
 omega
 exact aq s2 ls c9 ⟨oe.own.weaken ab.le,λr O=>(oe.inner r O).weaken ab.le,oe.eu,oe.apart⟩ (fg.trans kx) dE
 obtain⟨e,he,MH⟩:=bk.1 ad
 subst MH
 refine Hr pF ?_
 have dz:aD u (w.ins r hE) 52 2 s (rw.flatMap cB):=ab.xj O pI hE
 refine np ic (wB e.1 e.2.1) (by decide) rfl (by simp[cF]) dz (by show s.n<_;omega) (by show(s.n+1)*_<=_;omega) λap u' bQ hJ fX ev _=>⟨⟨rw++ [⟨e.1,e.2.1,e.2.2⟩],?_,?_,λaC=>?_,λx M=>?_⟩,?_⟩
 rw[dY]
 refine pF.else (λb5 kv=>fX _ _ kv λc0=>?_) λb5 kv=>fX _ _ kv pI
 have:=ab.fresh _ c0
 exact h.known T.m (by rw[h.aF.dh];simp) this
 rw[gU];exact bQ
 rcases ev r aC with a7|a7
 exact pI a7
 rw[bf] at a7;cases a7
 rcases cK.1 M with M|M
 exact kQ x M
 obtain rfl:=fI.1 M
 exact he
 show 1000000-ap.n<1000000-s.n
 omega
def parts(X:aT):J bF:=(X.root.map au.bB).toList
def acG(X:aT)(q:J o)(k aJ:o):mi:=oB q k aJ (parts X)
def iW(X:aT)(q:J o)(k aJ:o):J bP:=xT q k (acG X q k aJ)
def gk(X:aT)(q:J o)(k aJ:o):J o:=dM ((acG X q k aJ).seen.map (·.1))
def jr(X:aT)(q:J o)(k aJ:o):J (o×o×J o×J o×J o):=(nR (acG X q k aJ)).map pu
def FZ(X:aT):bF.jD (parts X)=lg X:=by
 unfold parts lg;cases X.root with
 |none=>rfl|some n=>show n.bB.all++ []=_;rw[kA]
def aoo:hl aH 262=ak:=by kernel_rfl
def aoj:hl aH 261=ak:=by kernel_rfl
def ach:j9 aH 211=some (167,1,8,[.pointer none]):=by kernel_rfl
def VR(n:N):kp aH 211 1 #[(0,.pointer (some ⟨n,0,none⟩))]=some (167,[.pointer (some ⟨n,0,none⟩)]):=by kernel_rfl
def GG{ai u:H}{af:N->ay bu}{b:N}{T:aT}{t:U}{q:J o}{k aJ:o}{K:U->U->U->o->H->Prop}(h:In ai u af b T)(aR:dP T)(kN:T.eR<=2700)(ht:Ints u t q)
  (dx:h7 q T.dim k aJ≠0->K ⟨none,0,0⟩ ⟨none,0,0⟩ ⟨none,0,0⟩ (h7 q T.dim k aJ) u)
  (bH:h7 q T.dim k aJ=0->∀aG ss bc rest u',jB u u' aG ss bc (iW T q k aJ) (gk T q k aJ) rest->rest.map cp.core=jr T q k aJ->K aG ss bc 0 u'):adj (some ⟨b,0,none⟩) t k aJ u K:=by
 apply aCE
 refine⟨λe=>(by cases e),λ_=>⟨_,rfl,_,a1 h.aF.cell 0,JS ht ⟨λal=>dx al,λhe=>?_⟩⟩⟩
 obtain⟨aA,cx,cS,fV,gf⟩:=D3.1 he
 obtain⟨_,_,xc,Nc⟩:=oA aA
 have bH:=bH he
 intro e9 qm
 obtain⟨nr,Zc⟩:∃nr,nr=u.ins e9 (.cells #[.slice none 0 0] 211 (0,0)):=⟨_,rfl⟩
 have nO:u.le nr:=by rw[Zc];exact bW _ qm
 have d4:nr e9=some (.cells #[.slice none 0 0] 211 (0,0)):=by rw[Zc];exact bf _ _ _
 rw[<-Zc]
 intro BL bE
 have wM:(bF.jD (parts T)).length<=100000:=by rw[FZ,aR.rows.length_eq];have:=aR.small;simp[bb];omega
 have jW:∀x∈bF.jD (parts T),(x.2.length:o)=q.length/\db x.2:=λx M=>by rw[FZ] at M;obtain⟨e,fX,rfl⟩:=bk.1 (aR.rows.mem_iff.1 M);obtain⟨v1,v2⟩:=aR.vec e fX;exact⟨by rw[v1,xc],v2⟩
 have cY:bF.hq (parts T)<=4000000:=by
  unfold parts;cases O:T.root with
  |none=>show 0<=_;omega|some n=>have:=aR.size n O;show n.bB.size+0<=_;rw[au.I9];omega
 have YF:∀p∈parts T,fT q.length p:=λp ad=>by
  unfold parts at ad;cases O:T.root with
  |none=>rw[O] at ad;cases ad
  |some n=>
   rw[O] at ad;obtain rfl:p=n.bB:=by simpa using ad
   rw[xc];exact aR.ok n O
 have walk:∀(s:U) (ms:J N) (Y:H),u.le Y->Y.cell? ⟨e9,0,none⟩=some (.slice s.a s.n s.c)->bt Y s 1 (ms.map λn=>.pointer (some ⟨n,0,none⟩))->ms.length=(parts T).length->(∀(i:N) m p,ms[i]?=some m->(parts T)[i]?=some p->mO Y m p)->BL Y:=by intro s ms Y aB I ag hlen ad;refine bE Y ⟨s,I,.inl ⟨_,_,_,rfl,hh aoo,?_⟩⟩;refine aCI (some ⟨b,0,none⟩) s t k aJ Y _ ?_;refine abO ag hlen ad YF (ht.mono aB) Nc cx cS fV gf cY wM jW λaG ss bc R u' aE EF=>bH aG ss bc R u' ?_ EF;exact⟨aE.h.weaken aB,aE.s.weaken aB,aE.r.weaken aB,λr O=>⟨(aE.g r O).l.weaken aB,(aE.g r O).h.weaken aB,(aE.g r O).i.weaken aB⟩,aE.eu⟩
 obtain⟨I5,CC⟩:∃I5:ay ba,I5=T.root.map λn=>⟨n.b,0,none⟩:=⟨_,rfl⟩
 have KI:nr.cell? ((cr b 0 none).add 2)=some (.pointer I5):=by rw[CC];exact H.le.cell nO (a1 h.aF.cell 2)
 refine⟨_,rfl,I5,KI,λal=>⟨_,rfl,I5,KI,.inl ⟨_,_,_,rfl,hh aoj,?_⟩⟩,λsJ=>?_⟩
 cases O:T.root with
 |none=>rw[O] at CC;exact a6 CC al
 |some n=>
  rw[O] at CC;rw[show I5=some ⟨n.b,0,none⟩ from CC];refine aCF (some ⟨n.b,0,none⟩) ⟨e9,0,none⟩ nr _ ⟨⟨none,0,0⟩,a1 d4 0,?_⟩;refine np ach (VR n.b) (by decide) rfl (by simp[cF]) (aD.nil (H.le.refl nr) 167 1) (by show 0<_;omega) (by show(0+1)*_<=_;omega) λap u' bQ hJ fX _ _=>?_;have apq:u' e9=some (.cells #[.slice none 0 0] 211 (0,0)):=bQ.le _ _ d4;refine GK apq (by simp[cF]) ?_;obtain⟨Y,aB⟩:∃Y,Y=u'.ins e9 (.cells #[.slice ap.a ap.n ap.c] 211 (0,0)):=⟨_,rfl⟩;rw[<-aB];have MQ:ap.aj≠some e9:=λe=>by have:=bQ.fresh e9 e;rw[d4] at this;cases this
  have LW:∀c z,u' c=some z->c≠e9->Y c=some z:=λc z I al=>by rw[aB,bm _ _ al];exact I
  have amu:u.le Y:=λc z I=>LW c z (bQ.le c z (nO c z I)) λe=>by rw[e,qm] at I;cases I
  have apA:Y e9=some (.cells #[.slice ap.a ap.n ap.c] 211 (0,0)):=by rw[aB];exact bf _ _ _
  obtain⟨cT,_⟩:=h.aF.one n O;refine walk ap [n.b] Y amu (a1 apA 0) (bt.else bQ.own.cC λg z W ab=>LW g z ab λe=>MQ (by rw[W,e])) (by unfold parts;rw[O];rfl) λi m p hm ad=>?_;have hi:i=0:=by have:=(ir.1 hm).1;simpa using this
  subst hi;obtain rfl:n.b=m:=cO hm;have iT:p=n.bB:=by unfold parts at ad;rw[O] at ad;exact(cO ad).symm
  rw[iT];exact(zG.part cT).mono amu
 cases O:T.root with
 |some n=>rw[O] at CC;rw[sJ] at CC;cases CC
 |none=>exact walk ⟨none,0,0⟩ [] nr nO (a1 d4 0) ⟨rfl,cg _,by decide,.inl rfl⟩ (by unfold parts;rw[O];rfl) λi m p hm=>by simp at hm
def O0{X:aT}(h:dP X){q:J o}{k aJ:o}(hk:1<=k)(Z:0<=aJ)(aw:(q.length:o)=X.dim){L:J av}(cL:(L.map av.bi).Perm (bb X))(aO:kH L q){rest:J cp}(O:rest.map cp.core=jr X q k aJ):
  Sound L q k (iW X q k aJ) (gk X q k aJ) rest/\((gk X q k aJ).length:o)<=aJ/\(((gk X q k aJ).length:o)=aJ∨(gk X q k aJ).length=L.length∨zA q k (iW X q k aJ) rest):=by
 refine acI Z hk (λp ad=>?_) aO ?_ O
 unfold parts at ad
 cases cq:X.root with
 |none=>rw[cq] at ad;cases ad
 |some n=>
  rw[cq] at ad;obtain rfl:p=n.bB:=by simpa using ad
  rw[aw];exact h.ok n cq
 rw[FZ]
 exact cL.trans h.rows.symm
def ib(l:J av)(dim a:o):o:=if lz l dim≠0 then lz l dim else if a<1∨64<a then 1 else 0
structure DL(u:H)(l:J av)(hs a:o)(u':H)(dN:N)(af:N->ay bu)(T:aT):Prop where
 is:In u u' af dN T
 ok:dP T
 rows:(bb T).Perm (l.map av.bi)
 dim:T.dim=hs
 leaf:T.leaf=a
 eR:T.eR=0
def wJ(r:av):o×(U×J o):=(r.id,(r.s,r.v))
def OX{u:H}{n:N}{d a:o}{p vK:ay ba}{m:ay N}{f:H->Prop}(h:u n=some (.cells #[.int .i64 d,.int .i64 a,.pointer p,.map m] 169 (0,0)))
  (ac:f (u.ins n (.cells #[.int .i64 d,.int .i64 a,.pointer vK,.map m] 169 (0,0)))):H.aN u (ep (cr n 0 none) 2) [.pointer vK] f:=
 ⟨_,_,h,rfl,by simp[iC],by simp[cF],ac⟩
def OO{s:U}{l:J av}{dim a:o}{u:H}{K:ay ba->o->H->Prop}(ag:dS u s l)(dx:ib l dim a≠0->K none (ib l dim a) u)
  (bH:ib l dim a=0->∀u' dN af T,DL u l dim a u' dN af T->K (some ⟨dN,0,none⟩) 0 u'):UJ s dim a u K:=by
 have bad:∀Y,ib l dim a=Y->Y≠0->K none Y u:=λY e aB=>by subst e;exact dx aB
 apply aCx
 refine JT ag ⟨λal=>bad _ (by unfold ib;rw[aV al]) al,λhe=>?_⟩
 have one:(a<1∨64<a)->K none 1 u:=λI=>bad 1 (by unfold ib;rw[az (by simpa using he),aV I]) (by decide)
 intro nx h2
 refine⟨λh=>one (.inl h),λaa=>⟨λh=>one (.inr h),λa2=>h2 _ _ _ ?_⟩⟩
 have bH:=bH (by unfold ib;rw[az (by simpa using he),az (by omega)])
 clear bad one dx h2 nx
 have ha:=Dj.1 he
 obtain⟨KL,KM⟩:=ha.dim
 have ag7:=ha.len
 refine GC λm pN hm im=>?_
 have qt:=bW (u:=u) (b:=m) pN hm
 obtain⟨iN,rX⟩:∃iN,iN=u.ins m pN:=⟨_,rfl⟩
 have Mg:iN m≠none:=by rw[rX,bf];simp
 rw[<-rX] at im qt ⊢
 intro n8 nH
 have nJ:n8≠m:=λe=>by rw[e] at nH;exact Mg nH
 have vp:u n8=none:=qt.none nH
 obtain⟨lM,q8⟩:∃lM,lM=(bA #[.int .i64 dim,.int .i64 a,.pointer none,.map (some m)] 169 (0,0)):=⟨_,rfl⟩
 show rE s (iN.ins n8 (bA #[.int .i64 dim,.int .i64 a,.pointer none,.map (some m)] 169 (0,0))) _
 rw[<-q8]
 have rj:=bW (u:=iN) (b:=n8) lM nH
 obtain⟨u8,o1⟩:∃u8,u8=iN.ins n8 lM:=⟨_,rfl⟩
 have tC:u8 n8=some lM:=by rw[o1];exact bf _ _ _
 rw[<-o1] at rj ⊢
 have Cy:u8 m≠none:=λe=>Mg (rj.none e)
 have AQ:u.le u8:=qt.trans rj
 refine zo (ag.mono AQ) ha.id (by omega) (λr O=>by have:=(ha.v r O).1;omega) λgM ls gV b1 ad oZ=>?_
 have HM:ls.length=l.length:=by simpa using ad.length_eq
 have Aj:gX ls dim:=by refine Dn ha.dim (by omega) ?_ λp iT=>?_;rw[show ls.map (·.id)=(ls.map av.bi).map (·.1) by rw[ez];rfl,(ad.map (·.1)).nodup_iff,ez];exact ha.nodup;obtain⟨r,O,rfl⟩:=bk.1 (ad.mem_iff.1 iT);exact⟨(ha.id r O).1,(ha.id r O).2,(ha.v r O).1,(ha.v r O).2⟩
 have nc:=b1.own.le
 have afy:gM.n=ls.length:=b1.rws.len
 have Aw:gM.aj≠some m:=λe=>Cy (b1.own.fresh m e)
 have MS:gM.aj≠some n8:=λe=>by have:=b1.own.fresh n8 e;rw[tC] at this;cases this
 have fQ:∀r∈ls,r.s.aj≠some m:=λr O e=>Cy ((b1.inner r O).fresh m e)
 have YN:∀r∈ls,r.s.aj≠some n8:=λr O e=>by have:=(b1.inner r O).fresh n8 e;rw[tC] at this;cases this
 refine⟨λx w=>0<=x/\x<=gM.n/\fs w m (ec ((ls.take x.toNat).map wJ))/\(∀c z,gV c=some z->c≠m->w c=some z)/\w m≠none,λx _=>((gM.n:o)-x).toNat,⟨by omega,by omega,(im.mono rj).mono nc,λc z I _=>I,λe=>Cy (nc.none e)⟩,?_⟩
 rintro x w ⟨bG,dy,vn,pC,rQ⟩
 have tD:w n8=some lM:=pC _ _ (nc _ _ tC) nJ
 have rM:dS w gM ls:=⟨bt.else b1.own.own.cC λg z W ab=>pC g z ab λe=>Aw (by rw[W,e]),λr O=>bt.else (b1.inner r O).ints λg z W ab=>pC g z ab λe=>fQ r O (by rw[W,e])⟩
 refine⟨λM=>?_,λM=>?_⟩
 obtain⟨p,jV,r,O,bK,c1,_⟩:=rM.at bG M
 have eO:x.toNat<ls.length:=by omega
 refine⟨p,jV,⟨bG,M⟩,_,bK,_,c1,_,by rw[q8] at tD;exact a1 tD 3,?_⟩
 have al:fN (ec ((ls.take x.toNat).map wJ)) r.id=none:=yj.2 λoi=>by unfold ec at oi;rw[ez,ez] at oi;obtain⟨Y,aB,uf⟩:=bk.1 oi;have ZA:Y.id=r.id:=uf;have bY:=Aj.nodup;rw[<-r6 x.toNat ls,dY,gb] at bY;refine bY.2.2 Y.id (hS aB) r.id (hS ?_) ZA;exact du (i:=0) (by rw[uB,Th];exact O)
 refine Dt iJ vn al λz E3=>⟨⟨by omega,by omega⟩,⟨by omega,by omega,?_,λc b5 I k4=>?_,by rw[bf];simp⟩,by dsimp only;omega⟩
 rw[show(x+1).toNat=x.toNat+1 by omega,gT,O,dY]
 unfold ec at E3 ⊢
 rw[dY]
 exact E3
 rw[bm _ _ k4];exact pC c b5 I k4
 .rw[ho (by omega)] at vn;obtain⟨ub,b9⟩:∃ub,ub=nm w gM:=⟨_,rfl⟩;have lub:ub.le w:=by rw[b9];exact Ds _ _
  have MF:aD ub w 52 2 gM (ls.flatMap cB):=⟨b1.own.own.le λc z I ab=>pC c z ab λe=>Aw (by rw[I,e]),lub,λg W=>by rw[b9];unfold nm;exact aV W⟩
  have Bv:ub n8=some lM:=by rw[b9,nn MS];exact tD
  have AH:∀r∈ls,Ints ub r.s r.v:=λr O=>bt.else (rM.2 r O) λg z W ab=>by rw[b9,nn ((b1.eu r O).symm g W)];exact ab
  have rf:∀r∈ls,∀g,r.s.aj=some g->ub g≠none/\g≠n8/\g≠m:=λr O g W=>by have aP:g≠m:=λe=>fQ r O (by rw[W,e]);refine⟨λe=>?_,λe=>YN r O (by rw[W,e]),aP⟩;obtain⟨z,ab⟩:=e3.1 (dF (b1.inner r O) W);rw[b9,nn ((b1.eu r O).symm g W),pC g z ab aP] at e;cases e
  have Pd:∀c z,u c=some z->w c=some z/\gM.aj≠some c:=λc z I=>⟨pC c z (nc c z (AQ c z I)) (λe=>(by rw[e,hm] at I;cases I)),λe=>(by have:=b1.own.fresh c e;rw[AQ c z I] at this;cases this)⟩;have DH:u.le ub:=λc z I=>by obtain⟨h1,h2⟩:=Pd c z I;rw[b9,nn h2];exact h1
  have acv:ub m≠none:=by rw[b9,nn Aw];exact rQ
  have fin:∀(root:ay au) (oz:H),(∀c z,w c=some z->gM.aj≠some c->oz c=some z)->(∀n,root=some n->(∀x∈n.bO,hz oz x)/\n.own.Nodup/\(∀c∈n.own,ub c=none/\oz c≠none)/\(∀x∈n.bO,∀r∈x.1.rows,r∈ls)/\fT dim n.bB/\lm 2 n.bB/\n.bO.length+1<=2*ls.length)->
    (match root with|none=>([]:J jN)|some n=>n.bB.all).Perm (ls.map av.bi)->H.aN oz (ep (cr n8 0 none) 2) [.pointer (root.map λn=>⟨n.b,0,none⟩)] λj4=>K (some ⟨n8,0,none⟩) 0 j4:=by
   intro root oz f1 f2 f3
   have Lk:oz n8=some lM:=f1 _ _ tD MS
   rw[q8] at Lk
   refine OX Lk ?_
   obtain⟨T,aR⟩:∃T:aT,T=⟨dim,a,root,m,ls.map wJ,0⟩:=⟨_,rfl⟩
   obtain⟨j4,Fo⟩:∃j4,j4=oz.ins n8 (.cells #[.int .i64 dim,.int .i64 a,.pointer (root.map λn=>⟨n.b,0,none⟩),.map (some m)] 169 (0,0)):=⟨_,rfl⟩
   rw[<-Fo]
   have g1:∀c z,oz c=some z->c≠n8->j4 c=some z:=λc z I al=>by rw[Fo,bm _ _ al];exact I
   have AY:∀n,root=some n->n8∉n.own/\m∉n.own/\∀r∈ls,∀g,r.s.aj=some g->g∉n.own:=λn ae=>by obtain⟨_,_,dm,_⟩:=f2 n ae;exact⟨λe=>(by have:=(dm n8 e).1;rw[Bv] at this;cases this),λe=>acv (dm m e).1,λr O g W e=>(rf r O g W).1 (dm g e).1⟩
   obtain⟨af,hI⟩:∃af:N->ay bu,af=λc=>open Classical in if c=n8 then some .tree else if c=m then some .map else if ∃n,root=some n/\c∈n.own then some .node else if ∃r∈ls,r.s.aj=some c then some .vec else none:=⟨_,rfl⟩
   have hF:af n8=some .tree:=by rw[hI];exact aV rfl
   have dO:af m=some .map:=by rw[hI];show(if m=n8 then _ else _)=_;rw[az (dv nJ),aV rfl]
   have pa:∀n c,root=some n->c∈n.own->af c=some .node:=λn c ae I=>by obtain⟨aP,aC,_⟩:=AY n ae;rw[hI];show(if c=n8 then _ else _)=_;rw[az (λe=>aP (by rw[<-e];exact I)),az (λe=>aC (by rw[<-e];exact I)),aV ⟨n,ae,I⟩]
   have uv:∀r∈ls,∀g,r.s.aj=some g->af g=some .vec:=λr O g W=>by obtain⟨_,aP,aC⟩:=rf r O g W;rw[hI];show(if g=n8 then _ else _)=_;rw[az aP,az aC,az (λ⟨n,ae,I⟩=>(AY n ae).2.2 r O g W I),aV ⟨r,O,W⟩]
   have vL:∀c,af c≠none->c=n8∨c=m∨(∃n,root=some n/\c∈n.own)∨∃r∈ls,r.s.aj=some c:=λc I=>by rw[hI] at I;by_cases aP:c=n8;exact .inl aP;by_cases aC:c=m;exact .inr (.inl aC);by_cases c0:∃n,root=some n/\c∈n.own;exact .inr (.inr (.inl c0));by_cases ff:∃r∈ls,r.s.aj=some c;exact .inr (.inr (.inr ff));exact a6 (by show(if c=n8 then _ else _)=_;rw[az aP,az aC,az c0,az ff]) I
   have Pg:∀r∈ls,Ints j4 r.s r.v:=λr O=>bt.else (rM.2 r O) λg z W ab=>g1 g z (f1 g z ab ((b1.eu r O).symm g W)) (rf r O g W).2.1
   have L3:bb T=ls.map av.bi:=by rw[aR];unfold bb;rw[ez];rfl
   have Li:j4 n8=some (.cells (fe T).toArray 169 (0,0)):=by rw[Fo,bf,aR];rfl
   have Mf:fs j4 m (ec (ls.map wJ)):=vn.else λz ab=>g1 m z (f1 m z ab Aw) (dv nJ)
   refine bH j4 n8 af T ⟨⟨⟨Li,hF,by rw[aR];exact Mf,by rw[aR];exact dO,λe kd=>?_,λn ae=>?_⟩,λc z I=>?_,λc I=>?_,λc I=>?_⟩,⟨by rw[aR];exact⟨KL,KM⟩,by rw[aR];exact⟨by show 1<=a;omega,by show a<=64;omega⟩,λe kd=>?_,λe kd=>?_,by rw[aR];show(ls.map wJ).length<=512;rw[dg];omega,?_,λn ae=>?_,λn ae=>(by rw[aR] at ae;exact(f2 n ae).2.2.2.2.2.1),λn ae=>?_⟩,by rw[L3];exact ad,by rw[aR],by rw[aR],by rw[aR]⟩
   rw[aR] at kd
   obtain⟨r,O,rfl⟩:=bk.1 kd
   exact⟨Pg r O,uv r O⟩
   rw[aR] at ae
   obtain⟨cT,da,dm,fx,_⟩:=f2 n ae
   obtain⟨aP,_,_⟩:=AY n ae
   refine⟨λx M=>(cT x M).bM (λc z I ab=>g1 c z ab λe=>aP (by rw[<-e];exact ee.2 ⟨x,M,I⟩)) λr O=>Pg r (fx x M r O),da,λc I=>pa n c ae I,λx M r O g W=>uv r (fx x M r O) g W⟩
   obtain⟨h1,h3⟩:=Pd c z I
   exact g1 c z (f1 c z h1 h3) λe=>by rw[e,vp] at I;cases I
   rcases vL c I with rfl|rfl|⟨n,ae,oR⟩|⟨r,O,oX⟩
   exact vp
   exact hm
   exact DH.none ((f2 n ae).2.2.1 c oR).1
   exact AQ.none ((b1.inner r O).fresh c oX)
   rcases vL c I with rfl|rfl|⟨n,ae,oR⟩|⟨r,O,oX⟩
   rw[Li];simp
   obtain⟨_,_,a7,_⟩:=Mf
   rw[a7];simp
   obtain⟨z,ab⟩:=e3.1 ((f2 n ae).2.2.1 c oR).2
   rw[g1 c z ab λe=>(AY n ae).1 (by rw[<-e];exact oR)];simp
   obtain⟨z,ab⟩:=e3.1 (dF (b1.inner r O) oX)
   obtain⟨_,aP,aC⟩:=rf r O c oX
   rw[g1 c z (f1 c z (pC c z ab aC) ((b1.eu r O).symm c oX)) aP];simp
   rw[aR] at kd
   obtain⟨r,O,rfl⟩:=bk.1 kd
   exact Aj.id r O
   rw[aR] at kd ⊢
   obtain⟨r,O,rfl⟩:=bk.1 kd
   exact Aj.v r O
   rw[L3,aR]
   exact f3
   rw[aR] at ae ⊢
   exact(f2 n ae).2.2.2.2.1
   rw[aR] at ae ⊢
   have:=(f2 n ae).2.2.2.2.2.2
   show n.bO.length<=1100*0+2000
   omega
  rw[q8] at Bv;refine GH (by omega) (a1 Bv 0) (a1 Bv 1) MF AH Aj (λfW u' nL=>?_) λal u' n I fk=>?_;exact fin none u' (λc z I _=>nL c z I) (λn ae=>by cases ae) (by rw[fW];exact .refl _);exact fin (some n) u' (λc z c7 k4=>I.tA c z c7 k4) (λn' hJ=>by obtain rfl:=cO hJ;exact⟨I.one,I.nodup,I.out,I.rows,I.ok,fk,I.size⟩) I.all
end kE
section
variable{d:o}
def I7(aU:J j7)(n:au):(mC aU n).bB.all.Perm (n.bB.all++(jq aU n.b).flatMap λx=>x.1.rows.map av.bi):=by rw[au.s5,au.s5,<-gU];exact(F0 aU n).flatMap_right _
def axp(aU:J j7)(n:au):(mC aU n).own.Perm (n.own++(jq aU n.b).flatMap λx=>x.1.dt):=by unfold au.own;rw[<-gU];exact(F0 aU n).flatMap_right _
def j7.hp(f:j7):cp:=(bF.mk f.h.aG f.h.bJ f.h.hi f.h.cH [] []).hp []
def Wr(f:j7)(n:au):(f.fill n).bB.hp []=f.hp:=by rw[au.hn];rfl
def Cb(f:j7)(n:au):(f.fill n).bB.kids=(f.pre++n::f.post).map au.bB:=by rw[au.hn];rfl
def Ca(f:j7)(n:au)(x:jN):x∈(f.fill n).bB.all↔x∈f.h.rows.map av.bi∨(∃k∈f.pre++f.post,x∈k.bB.all)∨x∈n.bB.all:=by
 rw[bF.all_eq,Cb,cK,ya,ee];have ap1:(f.fill n).bB.rows=f.h.rows.map av.bi:=by rw[au.hn];rfl
 rw[ap1];constructor;rintro(h|⟨p,ad,M⟩);exact .inl h;obtain⟨k,hk,rfl⟩:=bk.1 ad;rw[cK,cE] at hk;rcases hk with hk|rfl|hk;exact .inr (.inl ⟨k,iY _ hk,M⟩);exact .inr (.inr M);exact .inr (.inl ⟨k,lf _ hk,M⟩);rintro(h|⟨k,hk,M⟩|M);exact .inl h;refine .inr ⟨k.bB,hS ?_,M⟩;rw[cK,cE];rcases cK.1 hk with hk|hk;exact .inl hk;exact .inr (.inr hk);exact .inr ⟨n.bB,hS (by simp),M⟩
def aqf{f:j7}{n n':au}(h:fT d (f.fill n).bB)(bL:fT d n'.bB)(eh:∀x∈n'.bB.all,x∈n.bB.all∨mL f.hp x.2):fT d (f.fill n').bB:=by have h1:=h.kl;have h2:=h.ins;have h3:=h.kids;rw[Wr] at h1 h2;rw[Cb] at h3;refine .mk (by rw[Wr];exact h1) (λx M=>?_) λk hk=>?_;rw[Wr];rcases(Ca f n' x).1 M with M|M|M;exact h2 x ((Ca f n x).2 (.inl M));exact h2 x ((Ca f n x).2 (.inr (.inl M)));rcases eh x M with M|M;exact h2 x ((Ca f n x).2 (.inr (.inr M)));exact M;rw[Cb] at hk;obtain⟨Y,aB,rfl⟩:=bk.1 hk;rw[cK,cE] at aB;rcases aB with aB|rfl|aB;exact h3 _ (hS (iY _ aB));exact bL;exact h3 _ (hS (lf _ (gd _ aB)))
def I8:∀(aU:J j7) {n:au},fT d (mC aU n).bB->fT d n.bB
 | [],_,h=>h|f::aU,n,h=>by have:=I8 aU (n:=f.fill n) h;have h3:=this.kids;rw[Cb] at h3;exact h3 _ (hS (by simp))
def aaC:∀(aU:J j7) {n n':au},fT d (mC aU n).bB->fT d n'.bB->(∀x∈n'.bB.all,x∈n.bB.all∨∀f∈aU,mL f.hp x.2)->fT d (mC aU n').bB
 | [],_,_,_,bL,_=>bL|f::aU,n,n',h,bL,eh=>by refine aaC aU (n:=f.fill n) (n':=f.fill n') h (aqf (I8 aU h) bL λx M=>(eh x M).imp id λM=>M f (gh ..)) λx M=>?_;rcases(Ca f n' x).1 M with M|M|M;exact .inl ((Ca f n x).2 (.inl M));exact .inl ((Ca f n x).2 (.inr (.inl M)));rcases eh x M with M|M;exact .inl ((Ca f n x).2 (.inr (.inr M)));exact .inr λg W=>M g (gd _ W)
end
namespace kE
section
variable{v a:J o}
def iF(h:et)(v:J o):et:={h with bJ:=k8 h.bJ v,hi:=k9 h.hi v}
def SB{i:N}(h:a.length=v.length)(hi:i<a.length):(k8 a v).getD i 0=min (a.getD i 0) (v.getD i 0):=by unfold k8;rw[dr,Tf,dr,dr,cn hi,cn (by omega)];show(if v[i]<a[i] then v[i] else a[i])=min a[i] v[i];split<;>omega
def SC{i:N}(h:a.length=v.length)(hi:i<a.length):(k9 a v).getD i 0=max (a.getD i 0) (v.getD i 0):=by unfold k9;rw[dr,Tf,dr,dr,cn hi,cn (by omega)];show(if v[i]>a[i] then v[i] else a[i])=max a[i] v[i];split<;>omega
def awo(h:a.length=v.length)(i:N):(k8 a v).getD i 0<=a.getD i 0:=by by_cases hi:i<a.length;rw[SB h hi];omega;have:(k8 a v).length=a.length:=wo h;rw[dr,dr,io (by omega),io (by omega)];exact l4 _
def awp(h:a.length=v.length)(i:N):a.getD i 0<=(k9 a v).getD i 0:=by by_cases hi:i<a.length;rw[SC h hi];omega;have:(k9 a v).length=a.length:=wo h;rw[dr,dr,io (by omega),io (by omega)];exact l4 _
def WD{d:o}{h:et}{ks:J au}(fk:h.aG=2)(ad:fT d (au.mk h ks).bB)(aA:db v)(CK:(v.length:o)=d):fT d (au.mk (iF h v) ks).bB/\mL ((au.mk (iF h v) ks).bB.hp []) v:=by
 have h1:=ad.kl;have h2:=ad.ins;have h3:=ad.kids;rw[au.hn] at h1 h2 h3;obtain⟨aw,_,_,ag⟩:=h1;have fY:h.cH=0/\db h.bJ/\db h.hi/\(h.bJ.length:o)=d/\(h.hi.length:o)=d/\∀i:N,(i:o)<d->h.bJ.getD i 0<=h.hi.getD i 0:=by rcases ag with⟨e,_⟩|⟨_,e⟩|⟨e,_⟩;have:h.aG=1:=e;omega;exact e;have:h.aG=3:=e;omega
 obtain⟨qC,wz,BY,gf,gP,Hh⟩:=fY;have eZ:(k8 h.bJ v).length=h.bJ.length:=wo (by omega);have fZ:(k9 h.hi v).length=h.hi.length:=wo (by omega);have eJ:db (k8 h.bJ v):=⟨by omega,λi hi=>by rw[SB (by omega) (by omega)];have aP:=wz.2 i (by omega);have aC:=aA.2 i (by omega);unfold k2 at*;omega⟩
 have hE:db (k9 h.hi v):=⟨by omega,λi hi=>by rw[SC (by omega) (by omega)];have aP:=BY.2 i (by omega);have aC:=aA.2 i (by omega);unfold k2 at*;omega⟩
 have ZD:mL ((au.mk (iF h v) ks).bB.hp []) v:=by rw[au.hn];refine⟨λ_ i ea=>?_,λe=>?_⟩;show(k8 h.bJ v).getD i 0<=v.getD i 0/\v.getD i 0<=(k9 h.hi v).getD i 0;have aFw:i<v.length:=ea;rw[SB (by omega) (by omega),SC (by omega) (by omega)];omega;have:h.aG=3:=e;omega
 refine⟨?_,ZD⟩;rw[au.hn];refine .mk ⟨aw,mE,λx M=>(by cases M),.inr (.inl ⟨fk,qC,eJ,hE,by show((k8 h.bJ v).length:o)=d;omega,by show((k9 h.hi v).length:o)=d;omega,λi hi=>?_⟩)⟩ (λx M=>?_) h3;show(k8 h.bJ v).getD i 0<=(k9 h.hi v).getD i 0;rw[SB (by omega) (by omega),SC (by omega) (by omega)];have:=Hh i hi;omega;have fF:x∈(bF.mk h.aG h.bJ h.hi h.cH (h.rows.map av.bi) (ks.map au.bB)).all:=M;obtain⟨g1,_⟩:=h2 x fF;refine⟨λ_ i ea=>?_,λe=>?_⟩;obtain⟨jc,z2⟩:=g1 fk i ea;have j6:=awo (a:=h.bJ) (v:=v) (by omega) i;have lS:=awp (a:=h.hi) (v:=v) (by omega) i;exact⟨Int.le_trans j6 jc,Int.le_trans z2 lS⟩;have:h.aG=3:=e;omega
def qW(h:et)(v:J o)(x:N):et:={h with bJ:=(k8 h.bJ v).take x++h.bJ.drop x,hi:=(k9 h.hi v).take x++h.hi.drop x}
def abP{ub u:H}{h:et}{sW:J N}{s:U}{Rest:H->Prop}(aA:Ints ub s v)(b9:ub.le u)(iU:hz u (h,sW))(bY:h.dt.Nodup)(hZ:∀c∈h.dt,ub c=none)(RZ:∀r∈h.rows,Ints ub r.s r.v)(h1:h.bJ.length=v.length)(h2:h.hi.length=v.length)(yn:v.length<=64)
  (b1:∀u',hz u' (iF h v,sW)->(∀c z,u c=some z->c∉h.dt->u' c=some z)->(∀c,u c≠none->u' c≠none)->Rest u'):
  ∃Vw:(o->(H->Prop)),∃adD:(o->(H->N)),(Vw 0 u)/\(∀nu:o,∀hc:H,(Vw nu hc)->((nu<(s.n:o))->∃ajX:ba,(s.a=(some ajX))/\((((0:o)<=nu)/\(nu<(s.n:o)))/\(∃Pm:o,((H.cell? hc (ep ajX ((vU nu)*1)))=(some (cG .i64 Pm)))/\(∃ajZ:ba,((some (cr h.b 0 none))=(some ajZ))/\(∃aj0:ba,((some (cr h.b 0 none))=(some aj0))/\(∃sb:U,((H.cell? hc (ep ajZ 1))=(some (dX sb.a sb.n sb.c)))/\(∃ja:U,((H.cell? hc (ep aj0 1))=(some (dX ja.a ja.n ja.c)))/\(∃aj1:ba,(ja.a=(some aj1))/\((((0:o)<=nu)/\(nu<(ja.n:o)))/\(∃acP:o,((H.cell? hc (ep aj1 ((vU nu)*1)))=(some (cG .i64 acP)))/\(∃aj2:ba,(sb.a=(some aj2))/\((((0:o)<=nu)/\(nu<(sb.n:o)))/\(H.aN hc (ep aj2 ((vU nu)*1)) [(cG .i64 (ite (Pm<acP) Pm acP))] (λ(hW:H)=>∃aj3:ba,((some (cr h.b 0 none))=(some aj3))/\(∃aj4:ba,((some (cr h.b 0 none))=(some aj4))/\(∃Gw:U,((H.cell? hW (ep aj3 2))=(some (dX Gw.a Gw.n Gw.c)))/\(∃Ou:U,((H.cell? hW (ep aj4 2))=(some (dX Ou.a Ou.n Ou.c)))/\(∃aj5:ba,(Ou.a=(some aj5))/\((((0:o)<=nu)/\(nu<(Ou.n:o)))/\(∃acQ:o,((H.cell? hW (ep aj5 ((vU nu)*1)))=(some (cG .i64 acQ)))/\(∃aj6:ba,(Gw.a=(some aj6))/\((((0:o)<=nu)/\(nu<(Gw.n:o)))/\(H.aN hW (ep aj6 ((vU nu)*1)) [(cG .i64 (ite (Pm>acQ) Pm acQ))] (λ(J0:H)=>(br (nu+1))/\((Vw (nu+1) J0)/\((adD (nu+1) J0)<(adD nu hc)))))))))))))))))))))))))))/\((¬(nu<(s.n:o)))->Rest hc)):=by
 have dw:=aA.len
 have aO:∀g,(h.bo.aj=some g->g∈h.dt/\g≠h.b/\h.fl.aj≠some g/\h.bc.aj≠some g/\h.c8.aj≠some g)/\(h.fl.aj=some g->g∈h.dt/\g≠h.b/\h.bo.aj≠some g/\h.bc.aj≠some g/\h.c8.aj≠some g):=by
  intro g;unfold et.dt at bY ⊢;rw[hK] at bY;obtain⟨cT,da⟩:=bY;rw[gb,gb,gb] at da;obtain⟨⟨⟨_,_,dm⟩,_,fx⟩,_,rn⟩:=da;refine⟨λW=>⟨by simp[W],λe=>cT (by rw[<-e];simp[W]),λe=>dm g (by simp[W]) g (by simp[e]) rfl,λe=>fx g (by simp[W]) g (by simp[e]) rfl,λe=>rn g (by simp[W]) g (by simp[e]) rfl⟩,
   λW=>⟨by simp[W],λe=>cT (by rw[<-e];simp[W]),λe=>dm g (by simp[e]) g (by simp[W]) rfl,λe=>fx g (by simp[W]) g (by simp[e]) rfl,λe=>rn g (by simp[W]) g (by simp[e]) rfl⟩⟩
 have eZ:(k8 h.bJ v).length=h.bJ.length:=wo h1
 have fZ:(k9 h.hi v).length=h.hi.length:=wo h2
 refine⟨λx w=>0<=x/\x<=v.length/\hz w (qW h v x.toNat,sW)/\(∀c z,u c=some z->c∉h.dt->w c=some z)/\(∀c,u c≠none->w c≠none),λx _=>((v.length:o)-x).toNat,⟨by omega,by omega,?_,λc z I _=>I,λc I=>I⟩,?_⟩
 have:qW h v (0:o).toNat=h:=by unfold qW;simp
 rw[this];exact iU
 rintro x w ⟨bG,dy,hw,eB,jF⟩
 have kR:ub.le w:=λc z I=>eB c z (b9 c z I) λe=>by rw[hZ c e] at I;cases I
 refine⟨λM=>?_,λM=>?_⟩
 have eO:x.toNat<v.length:=by omega
 obtain⟨p,ad,V6⟩:=(aA.mono kR).at (x:=x) bG M
 have yC:=hw.bJ.f.ints
 have ER:=hw.hi.f.ints
 have ahc:(qW h v x.toNat).bJ.length=v.length:=by show((k8 h.bJ v).take x.toNat++h.bJ.drop x.toNat).length=_;rw[eC,gL,nV];omega
 have agS:(qW h v x.toNat).hi.length=v.length:=by show((k9 h.hi v).take x.toNat++h.hi.drop x.toNat).length=_;rw[eC,gL,nV];omega
 have Ld:(qW h v x.toNat).bJ.getD x.toNat 0=h.bJ.getD x.toNat 0:=Ul h1 (by omega)
 have Lc:(qW h v x.toNat).hi.getD x.toNat 0=h.hi.getD x.toNat 0:=Ul h2 (by omega)
 have nl:h.bo.n=v.length:=by have mq:h.bo.n=_:=yC.len;rw[mq];exact ahc
 have e2:h.fl.n=v.length:=by have mq:h.fl.n=_:=ER.len;rw[mq];exact agS
 obtain⟨hF,gG,cl⟩:=yC.at (x:=x) bG (by show x<(h.bo.n:o);omega)
 obtain⟨dO,fg,Hl⟩:=ER.at (x:=x) bG (by show x<(h.fl.n:o);omega)
 have gG:h.bo.a=some hF:=gG
 have fg:h.fl.a=some dO:=fg
 rw[Ld] at cl
 rw[Lc] at Hl
 have fP:w h.b=some (.cells (eP (qW h v x.toNat)).toArray 213 (0,0)):=hw.cell
 have c1:w.cell? ((cr h.b 0 none).add 1)=some (.slice h.bo.a h.bo.n h.bo.c):=a1 fP 1
 refine⟨p,ad,⟨bG,M⟩,_,V6,_,rfl,_,rfl,h.bo,c1,h.bo,c1,hF,gG,⟨bG,by omega⟩,_,cl,hF,gG,⟨bG,by omega⟩,?_⟩
 refine aD.store (enc:=encI) kK hw.bJ.f (by decide) (i:=x.toNat) (by rw[ahc];exact eO) (y:=if v.getD x.toNat 0<h.bJ.getD x.toNat 0 then v.getD x.toNat 0 else h.bJ.getD x.toNat 0) (by simp[encI,cF]) gG λhW Yt LO _=>?_
 have LO:∀c z,w c=some z->h.bo.aj≠some c->hW c=some z:=LO
 have agk:hW h.b=some (.cells (eP (qW h v x.toNat)).toArray 213 (0,0)):=LO _ _ fP λe=>((aO h.b).1 e).2.1 rfl
 have c2:hW.cell? ((cr h.b 0 none).add 2)=some (.slice h.fl.a h.fl.n h.fl.c):=a1 agk 2
 have agU:Own hW 3 1 h.fl ((qW h v x.toNat).hi.flatMap encI):=hw.hi.le λc z I ab=>LO c z ab λe=>((aO c).1 e).2.2.1 I
 have apb:hW.cell? (ep dO (x.toNat*1))=some (.int .i64 (h.hi.getD x.toNat 0)):=by obtain⟨pa,q9,fM⟩:=agU.f.ints.at (x:=x) bG (by omega);rw[fg] at q9;obtain rfl:=cO q9;rw[Lc] at fM;exact fM
 refine⟨_,rfl,_,rfl,h.fl,c2,h.fl,c2,dO,fg,⟨bG,by omega⟩,_,apb,dO,fg,⟨bG,by omega⟩,?_⟩
 refine aD.store (enc:=encI) kK agU.f (by decide) (i:=x.toNat) (by rw[agS];exact eO) (y:=if v.getD x.toNat 0>h.hi.getD x.toNat 0 then v.getD x.toNat 0 else h.hi.getD x.toNat 0) (by simp[encI,cF]) fg λJ0 Yu HX _=>?_
 have HX:∀c z,hW c=some z->h.fl.aj≠some c->J0 c=some z:=HX
 have aC:∀c z,w c=some z->h.bo.aj≠some c->h.fl.aj≠some c->J0 c=some z:=λc z I a b=>HX c z (LO c z I a) b
 have el:(qW h v x.toNat).bJ.set x.toNat (if v.getD x.toNat 0<h.bJ.getD x.toNat 0 then v.getD x.toNat 0 else h.bJ.getD x.toNat 0)=(qW h v (x+1).toNat).bJ:=by rw[show(x+1).toNat=x.toNat+1 by omega];exact Um (f:=λa x=>if x<a then x else a) h1 (by omega)
 have apP:(qW h v x.toNat).hi.set x.toNat (if v.getD x.toNat 0>h.hi.getD x.toNat 0 then v.getD x.toNat 0 else h.hi.getD x.toNat 0)=(qW h v (x+1).toNat).hi:=by rw[show(x+1).toNat=x.toNat+1 by omega];exact Um (f:=λa x=>if x>a then x else a) h2 (by omega)
 rw[el] at Yt
 rw[apP] at Yu
 have auZ:ub.le J0:=λc z I=>aC c z (kR c z I) (λe=>by rw[hZ c ((aO c).1 e).1] at I;cases I) (λe=>by rw[hZ c ((aO c).2 e).1] at I;cases I)
 refine⟨⟨by omega,by omega⟩,⟨by omega,by omega,⟨?_,Yt.own.le λc z I ab=>HX c z ab λe=>((aO c).1 I).2.2.1 e,Yu.own,hw.rws.le λc z I ab=>aC c z ab (λe=>((aO c).1 e).2.2.2.1 I) (λe=>((aO c).2 e).2.2.2.1 I),λr O=>(RZ r O).mono auZ,bt.else hw.lJ λg z W ab=>aC g z ab (λe=>((aO g).1 e).2.2.2.2 W) (λe=>((aO g).2 e).2.2.2.2 W)⟩,λc z I hm=>aC c z (eB c z I hm) (λe=>hm ((aO c).1 e).1) (λe=>hm ((aO c).2 e).1),λc I=>?_⟩,by dsimp only;omega⟩
 exact HX _ _ agk λe=>((aO h.b).2 e).2.1 rfl
 obtain⟨z,ab⟩:=e3.1 (jF c I)
 by_cases a:h.fl.aj=some c
 exact dF Yu a
 by_cases b:h.bo.aj=some c
 obtain⟨b5,bQ⟩:=e3.1 (dF Yt b)
 rw[HX c b5 bQ a];simp
 rw[aC c z ab b a];simp
 have:qW h v x.toNat=iF h v:=by unfold qW iF;rw[ho (by omega),ho (by omega),N1 (by omega),N1 (by omega),kA,kA]
 rw[this] at hw
 exact b1 w hw eB jF
end
end kE
section
variable{aG d:o}{ub u u':H}{v:J o}{lB bN:N->Prop}{n0 n:au}{aU:J j7}{h:et}
def au.n1{s:o}(n:au)(h:∀x∈n.bO,x.1.aG=s):lm s n.bB:=by
 induction n using au.ind with
 |h n aL=>rw[au.hn];refine .mk (h (n.h,n.kids.map au.b) (by rw[au.ij];exact gh ..)) λk hk=>?_;obtain⟨Y,aB,rfl⟩:=bk.1 (show k∈n.kids.map au.bB from hk);exact aL Y aB λx M=>h x (by rw[au.ij];exact gd _ (ee.2 ⟨Y,aB,M⟩))
def au.akO{s:o}(n:au)(h:lm s n.bB):∀x∈n.bO,x.1.aG=s:=by
 induction n using au.ind with
 |h n aL=>rw[au.hn] at h;intro x M;rw[au.ij] at M;rcases cE.1 M with rfl|M;exact h.aG;obtain⟨Y,aB,M⟩:=ee.1 M;exact aL Y aB (h.kids _ (hS aB)) x M
structure Way(aG:o)(ub u:H)(d:o)(v:J o)(lB bN:N->Prop)(n0:au)(aU:J j7)(n:au):Prop where
 base:ub.le u
 one:∀x∈n.bO++jq aU n.b,hz u x
 nodup:((n.bO++jq aU n.b).flatMap λx=>x.1.dt).Nodup
 out:∀c∈(n.bO++jq aU n.b).flatMap (λx=>x.1.dt),ub c=none/\u c≠none/\lB c
 known:∀c,ub c≠none->lB c
 vec:∀x∈n.bO++jq aU n.b,∀r∈x.1.rows,Ints ub r.s r.v/\∀g,r.s.aj=some g->bN g
 ok:fT d (mC aU n).bB
 ins:∀f∈aU,mL f.hp v
 box:∀x∈n.bO++jq aU n.b,x.1.aG=aG
 all:(mC aU n).bB.all.Perm n0.bB.all
 len:(mC aU n).bO.length=n0.bO.length
 b:(mC aU n).b=n0.b
def Way.start(base:ub.le u)(known:∀c,ub c≠none->lB c)(one:∀x∈n.bO,hz u x)(nodup:n.own.Nodup)(out:∀c∈n.own,ub c=none/\u c≠none/\lB c)
  (vec:∀x∈n.bO,∀r∈x.1.rows,Ints ub r.s r.v/\∀g,r.s.aj=some g->bN g) (ok:fT d n.bB) (fk:lm aG n.bB):Way aG ub u d v lB bN n [] n:=by
 have e:n.bO++jq [] n.b=n.bO:=by rw[jq,kA]
 exact⟨base,by rw[e];exact one,by rw[e];exact nodup,by rw[e];exact out,known,by rw[e];exact vec,ok,λf ac=>(by cases ac),by rw[e];exact n.akO fk,.refl _,rfl,rfl⟩
def Way.lJ{pre post:J au}{k:au}(w:Way aG ub u d v lB bN n0 aU (.mk h (pre++k::post)))(hi:mL (j7.hp ⟨h,pre,post⟩) v):Way aG ub u d v lB bN n0 (⟨h,pre,post⟩::aU) k:=by
 have ad:((au.mk h (pre++k::post)).bO++jq aU h.b).Perm (k.bO++jq (⟨h,pre,post⟩::aU) k.b):=by rw[jq,<-nf];exact(ae5 ⟨h,pre,post⟩ k).append_right _
 exact⟨w.base,λx M=>w.one x (ad.mem_iff.2 M),(ad.flatMap_right _).nodup_iff.1 w.nodup,λc I=>w.out c ((ad.flatMap_right _).mem_iff.2 I),w.known,λx M=>w.vec x (ad.mem_iff.2 M),w.ok,λf ac=>by rcases cE.1 ac with rfl|ac;exact hi;exact w.ins f ac,λx M=>w.box x (ad.mem_iff.2 M),w.all,w.len,w.b⟩
def Way.head{ks:J au}(w:Way aG ub u d v lB bN n0 aU (.mk h ks)):
  hz u (h,ks.map au.b)/\h.dt.Nodup/\(∀c∈h.dt,ub c=none/\u c≠none/\lB c)/\(∀r∈h.rows,Ints ub r.s r.v/\∀g,r.s.aj=some g->bN g)/\h.aG=aG:=by
 have hm:(h,ks.map au.b)∈(au.mk h ks).bO++jq aU (au.mk h ks).b:=by rw[au.bO];exact iY _ (gh ..)
 have ae:=w.nodup
 rw[au.bO,vO,gB,gb] at ae
 exact⟨w.one _ hm,ae.1,λc I=>w.out c (ee.2 ⟨_,hm,I⟩),w.vec _ hm,w.box _ hm⟩
def Way.else(w:Way aG ub u d v lB bN n0 aU n)(eB:∀c z,u c=some z->lB c->c∉n.own->u' c=some z):
  ub.le u'/\(∀x∈jq aU n.b,hz u' x)/\(∀c∈(jq aU n.b).flatMap (λx=>x.1.dt),(ub c=none/\lB c)/\u' c≠none/\c∉n.own)/\((jq aU n.b).flatMap λx=>x.1.dt).Nodup:=by
 have ae:=w.nodup
 rw[gU,gb] at ae
 obtain⟨_,h2,h3⟩:=ae
 have ab:∀c∈n.own,ub c=none:=λc I=>(w.out c (by rw[gU];exact iY _ I)).1
 have Z:ub.le u':=λc z I=>eB c z (w.base c z I) (w.known c (by rw[I];simp)) λhm=>by rw[ab c hm] at I;cases I
 have ac:∀c∈(jq aU n.b).flatMap (λx=>x.1.dt),c∉n.own:=λc I hm=>h3 c hm c I rfl
 refine⟨Z,λx M=>(w.one x (lf _ M)).bM (λc z I ab=>eB c z ab (w.out c (by rw[gU];exact lf _ (ee.2 ⟨x,M,I⟩))).2.2 (ac c (ee.2 ⟨x,M,I⟩))) λr O=>((w.vec x (lf _ M) r O).1).mono Z,λc I=>?_,h2⟩
 obtain⟨da,dm,fx⟩:=w.out c (by rw[gU];exact lf _ I)
 obtain⟨z,bQ⟩:=e3.1 dm
 exact⟨⟨da,fx⟩,by rw[eB c z bQ fx (ac c I)];simp,ac c I⟩
def Way.eQ{bL:et}{ks:J au}(w:Way aG ub u d v lB bN n0 aU (.mk h ks))(Z:bL.dt=h.dt)(O:bL.rows=h.rows)(ag:bL.aG=h.aG)
  (iU:hz u' (bL,ks.map au.b)) (eB:∀c z,u c=some z->c∉h.dt->u' c=some z) (jF:∀c,u c≠none->u' c≠none) (bH:fT d (au.mk bL ks).bB):Way aG ub u' d v lB bN n0 aU (.mk bL ks):=by
 have oP:bL.b=h.b:=(List.cons.inj Z).1
 have ae:=w.nodup
 rw[au.bO,vO,gB] at ae
 have fp:=(gb.1 ae).2.2
 have sub:∀x∈au.mw ks++jq aU h.b,x∈(au.mk h ks).bO++jq aU (au.mk h ks).b:=λx M=>by rw[au.bO,vO];exact gd _ M
 have eu:∀x∈au.mw ks++jq aU h.b,∀c∈x.1.dt,c∉h.dt:=λx M c I hm=>fp c hm c (ee.2 ⟨x,M,I⟩) rfl
 have ab:∀c∈h.dt,ub c=none:=λc I=>(w.head.2.2.1 c I).1
 have yq:ub.le u':=λc z I=>eB c z (w.base c z I) λhm=>by rw[ab c hm] at I;cases I
 have aaa:∀x,x∈(au.mk bL ks).bO++jq aU (au.mk bL ks).b->x=(bL,ks.map au.b)∨x∈au.mw ks++jq aU h.b:=λx M=>by rw[au.bO,vO,show(au.mk bL ks).b=h.b from oP] at M;exact cE.1 M
 have ae7:((au.mk bL ks).bO++jq aU (au.mk bL ks).b).flatMap (λx=>x.1.dt)=((au.mk h ks).bO++jq aU (au.mk h ks).b).flatMap (λx=>x.1.dt):=by rw[au.bO,au.bO,vO,vO,gB,gB,show(au.mk bL ks).b=h.b from oP,show(au.mk h ks).b=h.b from rfl];show bL.dt++_=h.dt++_;rw[Z]
 have eh:(au.mk bL ks).bB.all=(au.mk h ks).bB.all:=by rw[au.s5,au.s5,au.bO,au.bO,gB,gB];show bL.rows.map av.bi++_=h.rows.map av.bi++_;rw[O]
 refine⟨yq,λx M=>?_,by rw[ae7];exact w.nodup,λc I=>?_,w.known,λx M=>?_,aaC aU w.ok bH λx M=>.inl (by rw[<-eh];exact M),w.ins,λx M=>?_,?_,?_,?_⟩
 rcases aaa x M with rfl|M
 exact iU
 exact(w.one x (sub x M)).bM (λc z I bQ=>eB c z bQ (eu x M c I)) λr cq=>((w.vec x (sub x M) r cq).1).mono yq
 rw[ae7] at I
 obtain⟨da,dm,fx⟩:=w.out c I
 exact⟨da,jF c dm,fx⟩
 rcases aaa x M with rfl|M
 intro r cq
 exact w.head.2.2.2.1 r (by rw[<-O];exact cq)
 exact w.vec x (sub x M)
 rcases aaa x M with rfl|M
 exact ag.trans w.head.2.2.2.2
 exact w.box x (sub x M)
 refine(I7 aU _).trans (.trans ?_ ((I7 aU (.mk h ks)).symm.trans w.all))
 rw[eh,show(au.mk bL ks).b=h.b from oP,show(au.mk h ks).b=h.b from rfl]
 rw[(F0 aU _).length_eq,<-w.len,(F0 aU (.mk h ks)).length_eq,show(au.mk bL ks).b=h.b from oP,show(au.mk h ks).b=h.b from rfl]
 simp[au.bO]
 rw[<-w.b]
 exact aaB aU oP
structure Down(aG:o)(ub u':H)(d:o)(e:jN)(lB:N->Prop)(bN:av->Prop)(n0 r:au)(more:N):Prop where
 one:∀x∈r.bO,hz u' x
 nodup:r.own.Nodup
 own:∀c∈r.own,(ub c=none/\lB c)/\u' c≠none
 rws:∀x∈r.bO,∀y∈x.1.rows,bN y
 all:r.bB.all.Perm (e::n0.bB.all)
 ok:fT d r.bB
 n1:lm aG r.bB
 size:r.bO.length<=n0.bO.length+more
 b:r.b=n0.b
 le:ub.le u'
def Way.down{n':au}{id:o}{more:N}{BV:av->Prop}(w:Way aG ub u d v lB bN n0 aU n)(Z:n'.b=n.b)(oV:∀x∈n'.bO,hz u' x)(bY:n'.own.Nodup)
  (eB:∀c z,u c=some z->lB c->c∉n.own->u' c=some z) (oj:∀c∈n'.own,(c∈n.own∨(u c=none/\lB c))/\u' c≠none) (hB:∀x∈n'.bO,∀y∈x.1.rows,BV y) (Ez:∀y:av,(∀g,y.s.aj=some g->bN g)->BV y)
  (eh:n'.bB.all.Perm ((id,v)::n.bB.all)) (bH:fT d n'.bB) (fk:lm aG n'.bB) (hm:n'.bO.length<=n.bO.length+more):Down aG ub u' d (id,v) lB BV n0 (mC aU n') more:=by
 obtain⟨h1,h2,h3,a7⟩:=w.else eB
 have ad:=F0 aU n'
 have Yy:=F0 aU n
 have YE:=axp aU n'
 rw[Z] at ad YE
 have avs:∀c∈n.own,ub c=none/\lB c:=λc I=>(λY=>⟨Y.1,Y.2.2⟩) (w.out c (by rw[gU];exact iY _ I))
 have apm:∀c∈(jq aU n.b).flatMap (λx=>x.1.dt),u c≠none:=λc I=>(w.out c (by rw[gU];exact lf _ I)).2.1
 refine⟨λx M=>?_,?_,λc I=>?_,λx M=>?_,?_,aaC aU w.ok bH λx M=>?_,au.n1 _ λx M=>?_,?_,(aaB aU Z).trans w.b,h1⟩
 rcases cK.1 (ad.mem_iff.1 M) with M|M
 exact oV x M
 exact h2 x M
 rw[YE.nodup_iff,gb]
 refine⟨bY,a7,λc I mS c7 e=>?_⟩
 subst e
 rcases(oj c I).1 with h|h
 exact(h3 c c7).2.2 h
 exact apm c c7 h.1
 rcases cK.1 (YE.mem_iff.1 I) with I|I
 obtain⟨cT,da⟩:=oj c I
 exact⟨cT.elim (avs c) λh=>⟨w.base.none h.1,h.2⟩,da⟩
 obtain⟨cT,dm,_⟩:=h3 c I
 exact⟨cT,dm⟩
 rcases cK.1 (ad.mem_iff.1 M) with M|M
 exact hB x M
 exact λy ah=>Ez y (w.vec x (lf _ M) y ah).2
 have aP:=I7 aU n'
 have aC:=(I7 aU n).symm.trans w.all
 rw[Z] at aP
 exact aP.trans ((eh.append_right _).trans (iL _ aC))
 rcases cE.1 (eh.mem_iff.1 M) with rfl|M
 exact .inr w.ins
 exact .inl M
 rcases cK.1 (ad.mem_iff.1 M) with M|M
 exact n'.akO fk x M
 exact w.box x (lf _ M)
 rw[<-w.len,ad.length_eq,Yy.length_eq,eC,eC]
 omega
end
namespace kE
section
variable{h:et}{b:N}{u ai:H}{s:U}{v:J o}{d:o}
structure tp(ai u:H)(af:N->ay bu)(b:N)(T:aT)(id:o)(v:J o)(u':H)(aY:N->ay bu)(bx:aT):Prop where
 is:In ai u' aY b bx
 eQ:hA u af u' aY
 ok:dP bx
 rows:(bb bx).Perm ((id,v)::(bb T).filter λx=>x.1 !=id)
 dim:bx.dim=T.dim
 leaf:bx.leaf=T.leaf
 eR:bx.eR<=T.eR+1
structure DX(aS:H)(af:N->ay bu)(b:N)(T:aT)(id:o)(s:U)(v:J o)(u':H)(r:au):Prop where
 cell:u' b=some (.cells (fe {T with root:=some r}).toArray 169 (0,0))
 map:fs u' T.m (ec (T.w++ [(id,(s,v))]))
 sv:Ints u' s v
 c8:∀g,s.aj=some g->aS g=none/\u' g≠none
 bM:∀c z,aS c=some z->af c=none∨af c=some .vec->u' c=some z
 kn:∀c,aS c≠none->af c≠some .node->u' c≠none
 one:∀x∈r.bO,hz u' x
 nodup:r.own.Nodup
 own:∀c∈r.own,(af c=some .node∨(aS c=none/\s.aj≠some c))/\u' c≠none
 rws:∀x∈r.bO,∀y∈x.1.rows,∀g,y.s.aj=some g->af g=some .vec∨s.aj=some g
 all:r.bB.all.Perm ((id,v)::lg T)
 ok:fT T.dim r.bB
 n1:lm 2 r.bB
 size:r.bO.length<=1100*(T.eR+1)+2000
def DX.abh{aS u':H}{af:N->ay bu}{T:aT}{id:o}{r:au}(f:DX aS af b T id s v u' r)(h:In ai aS af b T)(aR:dP T)(b7:1<=id/\id<=1000000000)(aA:(v.length:o)=T.dim/\db v)(ar:T.w.length<512):
  ∃aY bx,In ai u' aY b bx/\hA aS af u' aY/\dP bx/\(bb bx).Perm ((id,v)::bb T)/\bx.dim=T.dim/\bx.leaf=T.leaf/\bx.eR<=T.eR+1:=by
 obtain⟨bx,en⟩:∃bx:aT,bx={T with root:=some r,w:=T.w++ [(id,(s,v))],eR:=T.eR+1}:=⟨_,rfl⟩
 obtain⟨aY,hI⟩:∃aY:N->ay bu,aY=λc=>open Classical in if c∈r.own then some .node else if s.aj=some c then some .vec else if af c=some .node then none else af c:=⟨_,rfl⟩
 have cT:∀c∈r.own,aY c=some .node:=λc I=>by rw[hI];exact aV I
 have da:∀c,s.aj=some c->aY c=some .vec:=λc I=>by
  have ed:c∉r.own:=λhm=>by rcases(f.own c hm).1 with e|e;exact h.known c (by rw[e];simp) (f.c8 c I).1;exact e.2 I
  rw[hI];show(if c∈r.own then _ else _)=_;rw[az ed,aV I]
 have dm:∀c t,af c=some t->t≠.node->aY c=some t:=λc t I ht=>by
  have hk:=h.known c (by rw[I];simp);have ed:c∉r.own:=λhm=>by rcases(f.own c hm).1 with e|e;rw[I] at e;exact ht (cO e);exact hk e.1
  have w6:s.aj≠some c:=λe=>hk (f.c8 c e).1;rw[hI];show(if c∈r.own then _ else _)=_;rw[az ed,az w6,az (by rw[I];exact λe=>ht (cO e)),I]
 have fx:∀c,aY c≠none->c∈r.own∨s.aj=some c∨(af c≠none/\af c≠some .node):=λc I=>by by_cases aP:c∈r.own;exact .inl aP;by_cases aC:s.aj=some c;exact .inr (.inl aC);by_cases c0:af c=some .node;exact a6 (by rw[hI];show(if c∈r.own then _ else _)=_;rw[az aP,az aC,aV c0]) I;refine .inr (.inr ⟨λe=>I ?_,c0⟩);rw[hI];show(if c∈r.own then _ else _)=_;rw[az aP,az aC,az c0,e]
 have aF:=h.aF
 refine⟨aY,bx,⟨⟨by rw[en];exact f.cell,dm _ _ aF.dL (by simp),by rw[en];exact f.map,by rw[en];exact dm _ _ aF.dh (by simp),λe he=>?_,λn ae=>?_⟩,λc z I=>?_,λc I=>?_,λc I=>?_⟩,⟨λc z I ac=>f.bM c z I (.inl ac),λc I=>?_⟩,
  ⟨by rw[en];exact aR.hs,by rw[en];exact aR.AN,λe he=>?_,λe he=>?_,?_,?_,λn ae=>?_,λn ae=>?_,λn ae=>?_⟩,?_,by rw[en],by rw[en],by rw[en];exact cg _⟩
 rw[en] at he
 rcases cK.1 he with he|he
 obtain⟨v1,v2⟩:=aF.vec e he
 exact⟨bt.else v1 λg z W ab=>f.bM g z ab (.inr (v2 g W)),λg W=>dm g _ (v2 g W) (by simp)⟩
 rw[fI.1 he]
 exact⟨f.sv,da⟩
 rw[en] at ae
 obtain rfl:=cO ae
 exact⟨f.one,f.nodup,cT,λx M y ah g W=>(f.rws x M y ah g W).elim (λe=>dm g _ e (by simp)) λe=>da g e⟩
 refine f.bM c z (h.le c z I) (.inl ?_)
 cases e:af c with
 |none=>rfl
 |some t=>have:=h.out c (by rw[e];simp);rw[I] at this;cases this
 rcases fx c I with e|e|e
 rcases(f.own c e).1 with e|e
 exact h.out c (by rw[e];simp)
 exact h.le.none e.1
 exact h.le.none (f.c8 c e).1
 exact h.out c e.1
 rcases fx c I with e|e|e
 exact(f.own c e).2
 exact(f.c8 c e).2
 exact f.kn c (h.known c e.1) e.2
 rcases fx c I with e|e|e
 rcases(f.own c e).1 with e|e
 exact .inl (by rw[e];simp)
 exact .inr e.1
 exact .inr (f.c8 c e).1
 exact .inl e.1
 rw[en] at he
 rcases cK.1 he with he|he
 exact aR.ids e he
 rw[fI.1 he];exact b7
 rw[en] at he ⊢
 rcases cK.1 he with he|he
 exact aR.vec e he
 rw[fI.1 he];exact aA
 rw[en]
 show(T.w++ [(id,(s,v))]).length<=512
 rw[eC]
 simp only[h5,nT]
 omega
 rw[en]
 show r.bB.all.Perm ((T.w++ [(id,(s,v))]).map λe=>(e.1,e.2.2))
 rw[dY]
 exact f.all.trans ((iL _ aR.rows).trans (l5 _ _).symm)
 rw[en] at ae ⊢
 obtain rfl:=cO ae
 exact f.ok
 rw[en] at ae
 obtain rfl:=cO ae
 exact f.n1
 rw[en] at ae ⊢
 obtain rfl:=cO ae
 exact f.size
 rw[en]
 show((T.w++ [(id,(s,v))]).map λe=>(e.1,e.2.2)).Perm _
 rw[dY]
 exact l5 _ _
def rG(h:et):h.dt.Perm (h.bc.aj.toList++(h.b::(h.bo.aj.toList++h.fl.aj.toList++h.c8.aj.toList))):=by unfold et.dt;refine Be (iL _ ?_) xJ.symm;generalize h.bo.aj.toList++h.fl.aj.toList=a;generalize h.bc.aj.toList=r;generalize h.c8.aj.toList=k;rw[nf];exact aa4 a r k
def VM(ae:h.dt.Nodup)(rows:J av)(ag:∀g,s.aj=some g->h.bc.aj=some g∨g∉h.dt):({h with bc:=s,rows:=rows}:et).dt.Nodup:=by
 have h1:=(rG h).nodup_iff.1 ae;rw[(rG _).nodup_iff];rw[gb] at h1 ⊢;obtain⟨_,h3,a7⟩:=h1;refine⟨?_,h3,λc I mS c7 e=>?_⟩;show s.aj.toList.Nodup;cases s.aj<;>simp;subst e;have I:s.aj=some c:=by simpa using I
 rcases ag c I with bE|bE;exact a7 c (by rw[bE];simp) c c7 rfl;exact bE ((rG h).mem_iff.2 (lf _ c7))
def Z0(ad:fT d (au.mk h []).bB){id:o}{sv:U}(b4:mL ((au.mk h []).bB.hp []) v):fT d (au.mk {h with bc:=s,rows:=h.rows++ [⟨id,sv,v⟩]} []).bB/\(au.mk {h with bc:=s,rows:=h.rows++ [⟨id,sv,v⟩]} []).bB.all.Perm ((id,v)::(au.mk h []).bB.all):=by
 have aP:(au.mk {h with bc:=s,rows:=h.rows++ [⟨id,sv,v⟩]} []).bB.all=(au.mk h []).bB.all++ [(id,v)]:=by rw[au.s5,au.s5,au.bO,au.bO,au.mw];simp[av.bi]
 have h1:=ad.kl;have h2:=ad.ins;refine⟨.mk h1 (λx M=>?_) λk hk=>(by rw[au.hn] at hk;cases hk),by rw[aP];exact l5 _ _⟩;rw[aP] at M;rcases cK.1 M with M|M;exact h2 x M;rw[fI.1 M];exact b4
def ab8{h1 h2:et}{p:N}(I:u p=some (.cells (eP h1).toArray 213 (0,0))){f:H->Prop}(ac:f (u.ins p (.cells (eP h2).toArray 213 (0,0)))):
  H.aN u (cr p 0 none) [.int .i64 h2.aG,.slice h2.bo.a h2.bo.n h2.bo.c,.slice h2.fl.a h2.fl.n h2.fl.c,.int .u64 (dk h2.cH),.int .u64 (dq h2.cH),.slice none 0 0,.slice h2.bc.a h2.bc.n h2.bc.c,.slice h2.c8.a h2.c8.n h2.c8.c] f:=
 ⟨_,_,I,rfl,by simp[eP],by simp[cF],by
  have e:wr (eP h1).toArray 0 [.int .i64 h2.aG,.slice h2.bo.a h2.bo.n h2.bo.c,.slice h2.fl.a h2.fl.n h2.fl.c,.int .u64 (dk h2.cH),.int .u64 (dq h2.cH),.slice none 0 0,.slice h2.bc.a h2.bc.n h2.bc.c,.slice h2.c8.a h2.c8.n h2.c8.c]=(eP h2).toArray:=by simp[wr,eP]
  show f (u.ins p (.cells (wr (eP h1).toArray 0 _) _ (0,0)));rw[e];exact ac⟩
def abW{ub:H}{leaf:o}{bN:N->Prop}{n0:au}{aU:J j7}{id:o}{sv:U}{Fin:H->Prop}(w:Way 2 ub u d v (λ_=>True) bN n0 aU (.mk h []))(Ai:1<=leaf)(JZ:ub.cell? ⟨b,0,none⟩=some (.int .i64 d))(qI:ub.cell? ((cr b 0 none).add 1)=some (.int .i64 leaf))
  (Iw:Ints ub sv v) (ha:gX (h.rows++ [⟨id,sv,v⟩]) d) (b4:mL ((au.mk h []).bB.hp []) v) (tL:∀u' r,Down 2 ub u' d (id,v) (λ_=>True) (λy=>∀g,y.s.aj=some g->bN g∨sv.aj=some g) n0 r 1100->Fin u'):
  ∃aj7:ba,((some (cr h.b 0 none))=(some aj7))/\(∃JN:U,((H.cell? u (ep aj7 6))=(some (dX JN.a JN.n JN.c)))/\(c4 aH (dA 22 1 #[(0,(cV #[(cG ci id),(dX sv.a sv.n sv.c)]))]) [(bj.one aK.slice)] u (λ(Bj:U) (GP:H)=>(H.le u GP)/\(c4 aH (dW #[22,22] 22 #[(dX JN.a JN.n JN.c),(dX Bj.a Bj.n Bj.c)]) [(bj.one aK.slice)] GP (λ(Gx:U) (u64:H)=>∃Oh:ba,((some (cr h.b 0 none))=(some Oh))/\(H.aN u64 (ep Oh 6) [(dX Gx.a Gx.n Gx.c)] (λ(hx:H)=>∃Oi:ba,((some (cr h.b 0 none))=(some Oi))/\(∃Oj:ba,((some (cr b 0 none))=(some Oj))/\(∃xO:U,((H.cell? hx (ep Oi 6))=(some (dX xO.a xO.n xO.c)))/\(∃GY:o,((H.cell? hx (ep Oj 1))=(some (cG ci GY)))/\(((GY<(xO.n:o))->∃Ol:ba,((some (cr h.b 0 none))=(some Ol))/\(∃xP:U,((H.cell? hx (ep Ol 6))=(some (dX xP.a xP.n xP.c)))/\(G0 (some (cr b 0 none)) xP hx (λ(aay:(ay ba)) (j5:H)=>∃pg:ba,(aay=(some pg))/\(∃Pn:o,((H.cell? j5 pg)=(some (cG ci Pn)))/\(∃uM:U,((H.cell? j5 (ep pg 1))=(some (dX uM.a uM.n uM.c)))/\(∃uN:U,((H.cell? j5 (ep pg 2))=(some (dX uN.a uN.n uN.c)))/\(∃Po:o,((H.cell? j5 (ep pg 3))=(some (cG bR Po)))/\(∃Pp:o,((H.cell? j5 (ep pg 4))=(some (cG bR Pp)))/\(∃uO:U,((H.cell? j5 (ep pg 5))=(some (dX uO.a uO.n uO.c)))/\(∃uP:U,((H.cell? j5 (ep pg 6))=(some (dX uP.a uP.n uP.c)))/\(∃qF:U,((H.cell? j5 (ep pg 7))=(some (dX qF.a qF.n qF.c)))/\(∃Om:ba,((some (cr h.b 0 none))=(some Om))/\(H.aN j5 Om [(cG ci Pn),(dX uM.a uM.n uM.c),(dX uN.a uN.n uN.c),(cG bR Po),(cG bR Pp),(dX uO.a uO.n uO.c),(dX uP.a uP.n uP.c),(dX qF.a qF.n qF.c)] (λ(n3:H)=>Fin n3)))))))))))))))/\((¬(GY<(xO.n:o)))->Fin hx)))))))))))):=by
 obtain⟨iU,bY,hZ,k6,fk⟩:=w.head
 obtain⟨h1,EP⟩:∃h1:et,h1=h:=⟨_,rfl⟩
 have fP:u h.b=some (.cells (eP h).toArray 213 (0,0)):=iU.cell
 have hO:aD ub u 52 2 h.bc (h.rows.flatMap cB):=⟨iU.rws,w.base,λg W=>(hZ g (by simp[et.dt,W])).1⟩
 have dw:h.bc.n=h.rows.length:=gY eY (by decide) hO.own.cC
 have lq:=ha.len
 rw[eC] at lq
 simp only[h5,nT] at lq
 have aO:h.bc.aj≠some h.b:=λe=>by have h1:=(rG h).nodup_iff.1 bY;rw[gb] at h1;exact h1.2.2 h.b (by rw[e];simp) h.b (gh ..) rfl
 have Fc:∀g,(h.bo.aj=some g∨h.fl.aj=some g∨h.c8.aj=some g)->g∈h.dt/\g≠h.b/\h.bc.aj≠some g:=λg W=>by
  have h1:=(rG h).nodup_iff.1 bY;rw[gb] at h1;have h2:g∈h.bo.aj.toList++h.fl.aj.toList++h.c8.aj.toList:=by rw[cK,cK];rcases W with e|e|e;exact .inl (.inl (by rw[e];simp));exact .inl (.inr (by rw[e];simp));exact .inr (by rw[e];simp)
  exact⟨(rG h).mem_iff.2 (lf _ (gd _ h2)),λe=>(hK.1 h1.2.1).1 (by rw[<-e];exact h2),λe=>h1.2.2 g (by rw[e];simp) g (gd _ h2) rfl⟩
 refine⟨_,rfl,h.bc,a1 fP 6,?_⟩
 refine zl ic (wB id sv) (by decide) rfl (by simp[cF]) hO (by omega) (by rw[dw];show(h.rows.length+1)*_<=_;omega) λap u64 bQ hJ fX ev _=>?_
 have bQ:aD ub u64 52 2 ap ((h.rows++ [(⟨id,sv,v⟩:av)]).flatMap cB):=by rw[gU];exact bQ
 have rU:ap.aj≠some h.b:=λe=>by rcases ev _ e with e|e;exact aO e;rw[fP] at e;cases e
 have Xz:u64 h.b=some (.cells (eP h).toArray 213 (0,0)):=fX _ _ fP aO
 refine⟨_,rfl,TS Xz ap (h.rows++ [⟨id,sv,v⟩]) ?_⟩
 obtain⟨g1,ik⟩:∃g1:et,g1={h with bc:=ap,rows:=h.rows++ [⟨id,sv,v⟩]}:=⟨_,rfl⟩
 have K6:g1.b=h.b:=by rw[ik]
 rw[<-ik]
 obtain⟨hx,Fp⟩:∃hx,hx=u64.ins h.b (.cells (eP g1).toArray 213 (0,0)):=⟨_,rfl⟩
 rw[<-Fp]
 have wD:hx h.b=some (.cells (eP g1).toArray 213 (0,0)):=by rw[Fp];exact bf _ _ _
 have f66:∀c z,u64 c=some z->c≠h.b->hx c=some z:=λc z I al=>by rw[Fp,bm _ _ al];exact I
 have Ef:∀c z,u c=some z->c≠h.b->h.bc.aj≠some c->hx c=some z:=λc z I h2 h3=>f66 c z (fX c z I h3) h2
 have vD:h.b∈h.dt:=gh ..
 have yT:∀{g},h.bc.aj=some g->g∈h.dt:=λ{g} e=>by simp[et.dt,e]
 have wG:∀c z,u c=some z->c∉h.dt->hx c=some z:=λc z I hm=>Ef c z I (λe=>hm (by rw[e];exact vD)) λe=>hm (yT e)
 have AE:ub.le hx:=λc z I=>wG c z (w.base c z I) λhm=>by rw[(hZ c hm).1] at I;cases I
 have FY:aD ub hx 52 2 ap ((h.rows++ [(⟨id,sv,v⟩:av)]).flatMap cB):=⟨bQ.own.le λc z I ab=>f66 c z ab λe=>rU (by rw[<-e];exact I),AE,bQ.fresh⟩
 have KG:hx.cell? ((cr h.b 0 none).add 6)=some (.slice ap.a ap.n ap.c):=by
  have:g1.bc=ap:=by rw[ik]
  have mq:hx.cell? ((cr h.b 0 none).add 6)=some (.slice g1.bc.a g1.bc.n g1.bc.c):=a1 wD 6;rw[this] at mq;exact mq
 have r0:(au.mk h []).own=h.dt:=by unfold au.own;rw[au.bO,au.mw];simp
 have rY:∀r∈h.rows++ [(⟨id,sv,v⟩:av)],Ints ub r.s r.v/\∀g,r.s.aj=some g->bN g∨sv.aj=some g:=λr O=>by rcases cK.1 O with O|O;exact⟨(k6 r O).1,λg W=>.inl ((k6 r O).2 g W)⟩;rw[fI.1 O];exact⟨Iw,λg W=>.inr W⟩
 refine⟨_,rfl,_,rfl,ap,KG,leaf,H.le.cell AE qI,λ_=>?_,λ_=>?_⟩
 obtain⟨mH,oq⟩:∃mH,mH=nm hx ap:=⟨_,rfl⟩
 have AR:ub.le mH:=λc z I=>by rw[oq,nn (λe=>by rw[bQ.fresh c e] at I;cases I)];exact AE c z I
 refine⟨_,rfl,ap,KG,GH (ub:=mH) Ai (H.le.cell AR JZ) (H.le.cell AR qI) ⟨FY.own,by rw[oq];exact Ds _ _,λg W=>by rw[oq];exact aV W⟩ (λr O=>((rY r O).1).mono AR) ha (λe=>a6 e (by simp)) λ_ j5 eN I YT=>?_⟩
 obtain⟨bV,dG⟩:=eN
 have oV:=I.one (bV,dG.map au.b) (by rw[au.bO];exact gh ..)
 have lG:j5 bV.b=some (.cells (eP bV).toArray 213 (0,0)):=oV.cell
 refine⟨_,rfl,_,a1 lG 0,bV.bo,a1 lG 1,bV.fl,a1 lG 2,_,a1 lG 3,_,a1 lG 4,⟨none,0,0⟩,a1 lG 5,bV.bc,a1 lG 6,bV.c8,a1 lG 7,_,rfl,?_⟩
 have VW:j5 h.b=some (.cells (eP g1).toArray 213 (0,0)):=I.tA _ _ wD rU
 refine ab8 (h2:=bV) VW ?_
 obtain⟨g2,gQ⟩:∃g2:et,g2={bV with b:=h.b}:=⟨_,rfl⟩
 have Wi:eP bV=eP g2:=by rw[gQ];rfl
 rw[Wi]
 obtain⟨n3,AD⟩:∃n3,n3=j5.ins h.b (.cells (eP g2).toArray 213 (0,0)):=⟨_,rfl⟩
 rw[<-AD]
 have qT:∀c z,j5 c=some z->c≠h.b->n3 c=some z:=λc z c7 al=>by rw[AD,bm _ _ al];exact c7
 have Al:h.b∉(au.mk bV dG).own:=λhm=>by have:=(I.out _ hm).1;rw[oq,nn rU,wD] at this;cases this
 have AX:(au.mk bV dG).own=bV.b::((bV.bo.aj.toList++bV.fl.aj.toList++bV.bc.aj.toList++bV.c8.aj.toList)++dG.flatMap au.own):=by rw[au.rm];rfl
 have NP:(au.mk g2 dG).own=h.b::((bV.bo.aj.toList++bV.fl.aj.toList++bV.bc.aj.toList++bV.c8.aj.toList)++dG.flatMap au.own):=by rw[au.rm,gQ];rfl
 have EG:(au.mk g2 dG).bO=(g2,dG.map au.b)::au.mw dG:=by rw[au.bO]
 have wS:(au.mk bV dG).bO=(bV,dG.map au.b)::au.mw dG:=by rw[au.bO]
 have C4:(au.mk g2 dG).bB=(au.mk bV dG).bB:=by rw[au.hn,au.hn,gQ];rfl
 have nI:=I.nodup
 have acd:∀c∈(au.mk g2 dG).own,c=h.b∨c∈(au.mk bV dG).own:=λc cJ=>by rw[NP] at cJ;rcases cE.1 cJ with e|e;exact .inl e;exact .inr (by rw[AX];exact gd _ e)
 have KU:∀c z,u c=some z->c∉(au.mk h []).own->n3 c=some z:=λc z c7 hm=>by rw[r0] at hm;refine qT c z (I.tA c z (wG c z c7 hm) λe=>?_) λe=>hm (by rw[e];exact vD);rcases ev c e with e|e;exact hm (yT e);rw[c7] at e;cases e
 have M8:ub.le n3:=λc z c7=>KU c z (w.base c z c7) λhm=>by rw[r0] at hm;rw[(hZ c hm).1] at c7;cases c7
 have ZP:∀{x:et×J N},hz j5 x->(∀c∈x.1.dt,c≠h.b)->(∀r∈x.1.rows,r∈h.rows++ [(⟨id,sv,v⟩:av)])->hz n3 x:=λM Z O=>M.bM (λc z cJ ab=>qT c z ab (Z c cJ)) λr fQ=>((rY r (O r fQ)).1).mono M8
 refine tL n3 _ (Way.down w (n':=.mk g2 dG) (by rw[show(au.mk g2 dG).b=g2.b from rfl,gQ];rfl) (λx M=>?_) ?_ (λc z c7 _ hm=>KU c z c7 hm) (λc cJ=>?_) (λx M y ah=>?_) (λy ah g W=>.inl (ah g W)) ?_ (by rw[C4];exact I.ok) (by rw[C4];exact YT) ?_)
 rw[EG] at M
 rcases cE.1 M with rfl|M
 have aB:∀g,(bV.bo.aj=some g∨bV.fl.aj=some g∨bV.bc.aj=some g∨bV.c8.aj=some g)->g≠h.b:=λg W e=>Al (by rw[AX,<-e];refine gd _ (iY _ ?_);rw[cK,cK,cK];rcases W with e|e|e|e;exact .inl (.inl (.inl (by rw[e];simp)));exact .inl (.inl (.inr (by rw[e];simp)));exact .inl (.inr (by rw[e];simp));exact .inr (by rw[e];simp))
 have Ff:∀r∈bV.rows,r∈h.rows++ [(⟨id,sv,v⟩:av)]:=λr O=>I.rows (bV,dG.map au.b) (by rw[wS];exact gh ..) r O
 rw[gQ]
 refine⟨?_,oV.bJ.le λc z kr ab=>qT c z ab (aB c (.inl kr)),oV.hi.le λc z kr ab=>qT c z ab (aB c (.inr (.inl kr))),oV.rws.le λc z kr ab=>qT c z ab (aB c (.inr (.inr (.inl kr)))),λr O=>((rY r (Ff r O)).1).mono M8,bt.else oV.lJ λc z kr ab=>qT c z ab (aB c (.inr (.inr (.inr kr))))⟩
 show n3 h.b=_
 rw[AD,bf,gQ]
 have fF:x∈(au.mk bV dG).bO:=by rw[wS];exact gd _ M
 exact ZP (I.one x fF) (λc cJ e=>Al (by rw[<-e];exact ee.2 ⟨x,fF,cJ⟩)) (I.rows x fF)
 rw[NP,hK]
 rw[AX,hK] at nI
 exact⟨λhm=>Al (by rw[AX];exact gd _ hm),nI.2⟩
 rcases acd c cJ with rfl|cJ
 exact⟨.inl (by rw[r0];exact vD),by rw[AD,bf];simp⟩
 obtain⟨cT,da⟩:=I.out c cJ
 refine⟨?_,?_⟩
 by_cases e:ap.aj=some c
 rcases ev c e with e|e
 exact .inl (by rw[r0];exact yT e)
 exact .inr ⟨e,trivial⟩
 rw[oq,nn e] at cT
 cases M:u c with
 |none=>exact .inr ⟨rfl,trivial⟩
 |some z=>left;rw[r0];by_cases hm:c∈h.dt;exact hm;rw[wG c z M hm] at cT;cases cT
 obtain⟨z,ab⟩:=e3.1 da
 rw[qT c z ab (λe=>Al (by rw[<-e];exact cJ))];simp
 rw[EG] at M
 rcases cE.1 M with rfl|M
 exact(rY y (I.rows (bV,dG.map au.b) (by rw[wS];exact gh ..) y (by rw[gQ] at ah;exact ah))).2
 exact(rY y (I.rows x (by rw[wS];exact gd _ M) y ah)).2
 rw[C4]
 refine I.all.trans ?_
 rw[dY,au.s5,au.bO,au.mw]
 simp only[gB,Gh,kA]
 exact l5 _ _
 have:=I.size
 rw[wS] at this
 rw[EG]
 rw[eC] at this
 simp only[h5,nT] at this ⊢
 omega
 have ar:=Z0 (id:=id) (sv:=sv) (s:=ap) (I8 aU w.ok) b4
 rw[<-ik] at ar
 have NI:(au.mk g1 []).own=g1.dt:=by unfold au.own;rw[au.bO,au.mw];simp
 have FT:(au.mk g1 []).bO=[(g1,[])]:=by rw[au.bO,au.mw];rfl
 have Z9:∀c∈g1.dt,c=h.b∨(h.bo.aj=some c∨h.fl.aj=some c∨h.c8.aj=some c)∨ap.aj=some c:=λc I=>by rw[ik] at I;have I:=(rG _).mem_iff.1 I;rcases cK.1 I with I|I;exact .inr (.inr (by simpa using I));rcases cE.1 I with I|I;exact .inl I;rw[cK,cK] at I;rcases I with(I|I)|I;exact .inr (.inl (.inl (by simpa using I)));exact .inr (.inl (.inr (.inl (by simpa using I))));exact .inr (.inl (.inr (.inr (by simpa using I))))
 refine tL hx _ (Way.down w (n':=.mk g1 []) K6 (λx M=>?_) ?_ (λc z I _ hm=>wG c z I (by rw[<-r0];exact hm)) (λc I=>?_) (λx M y ah=>?_) (λy ah g W=>.inl (ah g W)) ar.2 ar.1 ?_ (by rw[FT];show 1<=_;have:=(au.mk h []).Rq;omega))
 rw[FT,fI] at M
 subst M
 have cx:∀{s:U} {c:N} {z:Obj},(h.bo.aj=some c∨h.fl.aj=some c∨h.c8.aj=some c)->u c=some z->hx c=some z:=λ{s c z} I ab=>Ef c z ab (Fc c I).2.1 (Fc c I).2.2
 refine⟨by show hx g1.b=_;rw[K6];exact wD,?_,?_,?_,λr O=>?_,?_⟩
 rw[ik];exact iU.bJ.le λc z I ab=>cx (s:=h.bo) (.inl I) ab
 rw[ik];exact iU.hi.le λc z I ab=>cx (s:=h.bo) (.inr (.inl I)) ab
 rw[ik];exact FY.own
 rw[ik] at O;exact((rY r O).1).mono AE
 rw[ik];exact bt.else iU.lJ λc z I ab=>cx (s:=h.bo) (.inr (.inr I)) ab
 rw[NI,ik]
 refine VM bY _ λg W=>(ev g W).imp (λe=>e) λe hm=>(hZ g hm).2.1 e
 rw[NI] at I
 rw[r0]
 rcases Z9 c I with rfl|I|I
 exact⟨.inl vD,by rw[wD];simp⟩
 obtain⟨cT,da,dm⟩:=Fc c I
 obtain⟨z,ab⟩:=e3.1 (hZ c cT).2.1
 exact⟨.inl cT,by rw[Ef c z ab da dm];simp⟩
 exact⟨(ev c I).imp yT (λe=>⟨e,trivial⟩),dF FY I⟩
 rw[FT,fI] at M
 subst M
 exact(rY y (by rw[ik] at ah;exact ah)).2
 rw[au.hn]
 refine .mk ?_ λk hk=>(by cases hk)
 show g1.aG=2
 rw[ik]
 exact fk
structure Vu(ai u:H)(af:N->ay bu)(b:N)(T:aT)(id:o)(u':H)(aY:N->ay bu)(bx:aT):Prop where
 is:In ai u' aY b bx
 eQ:hA u af u' aY
 ok:dP bx
 rows:bb bx=(bb T).filter λx=>x.1 !=id
 dim:bx.dim=T.dim
 leaf:bx.leaf=T.leaf
 eR:bx.eR=T.eR
 no:id∉bx.w.map (·.1)
 u9:bx.w.length<512
def abL{af:N->ay bu}{T:aT}{id:o}{K:aI->o->H->Prop}(h:In ai u af b T)(aR:dP T)(kN:T.eR<=4000)(sM:id∉T.w.map (·.1)->T.w.length<512)
  (aq:∀dD u' aY bx,Vu ai u af b T id u' aY bx->K dD 0 u'):PB (some ⟨b,0,none⟩) id u K:=by
 refine wa h aR kN (λed aS gI=>aq _ aS af T ⟨h.mono bM gI,hA.mono gI,aR,?_,rfl,rfl,rfl,ed,sM ed⟩) λb4 aS cZ a8 O=>aq _ aS cZ a8 ⟨O.is,O.eQ,O.ok,O.rows,O.dim,O.leaf,O.eR,?_,?_⟩
 refine(pS.2 λx M=>?_).symm
 have:x.1≠id:=λe=>ed (by rw[<-na];exact bk.2 ⟨x,M,e⟩)
 simpa using this
 rw[<-na,O.rows]
 intro hm
 obtain⟨p,ad,e⟩:=bk.1 hm
 have:=(hT.1 ad).2
 simp[e] at this
 have ag:=aR.small
 have aP:a8.w.length=(bb a8).length:=by simp[bb]
 have aC:T.w.length=(bb T).length:=by simp[bb]
 rw[<-na] at b4
 obtain⟨p,ad,e⟩:=bk.1 b4
 have:((bb T).filter λp=>p.1 !=id).length<(bb T).length:=Oc.2 ⟨p,ad,by simp[e]⟩
 rw[O.rows] at aP
 omega
def aow{ks:J au}(ad:fT d (au.mk h ks).bB)(fk:h.aG=2):(h.bJ.length:o)=d/\(h.hi.length:o)=d:=by have h1:=ad.kl;rw[au.hn] at h1;obtain⟨_,_,_,ag⟩:=h1;rcases ag with⟨e,_⟩|⟨_,e⟩|⟨e,_⟩;have:h.aG=1:=e;omega;exact⟨e.2.2.2.1,e.2.2.2.2.1⟩;have:h.aG=3:=e;omega
def NC:∀{l:J N} {x:N},x∈l->x<=l.sum
 |y::l,x,h=>by rw[List.sum_cons];rcases cE.1 h with rfl|h;omega;have:=NC h;omega
def ZS{ks:J au}{i:N}(hi:i<ks.length):ks[i].bO.length<(au.mk h ks).bO.length:=by rw[au.bO,au.HY,h5,List.length_flatMap];have:ks[i].bO.length<=(ks.map λk=>k.bO.length).sum:=NC (bk.2 ⟨ks[i],kk hi,rfl⟩);omega
def Dx{af:N->ay bu}{T:aT}{id:o}{t:U}{q:J o}{K:aI->o->H->Prop}(h:In ai u af b T)(aR:dP T)(kN:T.eR<=4000)(ht:Ints u t q)(oS:∀aS cZ,ai.le aS->hA u af aS cZ->Ints aS t q)
  (dx:fr id q T.dim (decide (id∈(bb T).map (·.1))) (bb T).length≠0->K ax (fr id q T.dim (decide (id∈(bb T).map (·.1))) (bb T).length) u)
  (bH:fr id q T.dim (decide (id∈(bb T).map (·.1))) (bb T).length=0->∀u' aY bx,tp ai u af b T id q u' aY bx->K (decide (id∉(bb T).map (·.1))) 0 u'):adh (some ⟨b,0,none⟩) id t u K:=by
 apply aCC
 refine⟨λe=>(by cases e),λ_=>⟨_,rfl,_,a1 h.aF.cell 3,?_⟩⟩
 obtain⟨y,ah,iA⟩:∃y:U,(fN (ec T.w) id).getD (.slice none 0 0)=aK.slice.enc y/\(fN (ec T.w) id).isSome=decide (id∈(bb T).map (·.1)):=by rw[na];rcases sD T.w id with⟨W,hm⟩|⟨e,he,b7,W⟩;exact⟨⟨none,0,0⟩,by rw[W];rfl,by rw[W,nY hm];rfl⟩;exact⟨e.2.1,by rw[W];rfl,by rw[W,lP (bk.2 ⟨e,he,b7⟩)];rfl⟩
 refine tf iJ h.aF.map (ct:=.slice) y ah ?_
 rw[iA]
 refine⟨_,rfl,_,rfl,_,a1 h.aF.cell 0,_,a1 h.aF.cell 3,v7 iJ h.aF.map ⟨H.le.refl u,JU ht ?_⟩⟩
 rw[KW]
 refine⟨λal=>dx al,λhe=>?_⟩
 have bH:=bH he
 obtain⟨d1,d2,xh,d4⟩:1<=id/\id<=1000000000/\gn q T.dim=0/\(decide (id∈(bb T).map (·.1))=ax->((bb T).length:o)<512):=by unfold fr at he;split at he;cases he;rename_i h1;split at he;rename_i h2;exact a6 he h2;rename_i h2;split at he;cases he;rename_i h3;refine⟨by omega,by omega,by simpa using h2,λe=>?_⟩;by_cases a7:((bb T).length:o)<512;exact a7;exact a6 ⟨e,by omega⟩ h3
 obtain⟨aP,aC,c0,ff⟩:=oA xh
 have Z:(!decide (decide (id∈(bb T).map (·.1))=ak))=decide (id∉(bb T).map (·.1)):=by by_cases b4:id∈(bb T).map (·.1)<;>simp[b4]
 have eH:∀Y:H,K (decide (id∉(bb T).map (·.1))) 0 Y->K (!decide (decide (id∈(bb T).map (·.1))=ak)) 0 Y:=λY aB=>by rw[Z];exact aB
 refine abL h aR kN (λed=>?_) λ_ aS cZ a8 W=>?_
 have:=d4 (nY (by rw[na];exact ed))
 have eX:T.w.length=(bb T).length:=by simp[bb]
 omega
 have i1:=W.is
 have lb:=W.ok
 have q1:=oS aS cZ i1.le W.eQ
 refine sc q1 (by have:=q1.len;omega) λdp gC fE _=>?_
 have ui:=fE.le
 have aF:=(mf.mono bM i1 ui).aF
 refine⟨_,rfl,_,a1 aF.cell 3,Dt iJ aF.map (yj.2 (by unfold ec;rw[ez];exact W.no)) λpN im=>?_⟩
 obtain⟨e5,AA⟩:∃e5,e5=gC.ins a8.m pN:=⟨_,rfl⟩
 rw[<-AA] at im ⊢
 have m20:e5 a8.m=some pN:=by rw[AA];exact bf _ _ _
 have nD:∀c z,gC c=some z->c≠a8.m->e5 c=some z:=λc z I al=>by rw[AA,bm _ _ al];exact I
 have js:∀{c},cZ c≠some .map->c≠a8.m:=λI e=>I (by rw[e];exact aF.dh)
 have n20:∀{c},e5 c=none->aS c=none/\dp.aj≠some c:=λ{c} I=>by
  have al:c≠a8.m:=λe=>by rw[e,m20] at I;cases I
  have wL:gC c=none:=by rw[AA,bm _ _ al] at I;exact I
  exact⟨ui.none wL,λe=>dF fE e wL⟩
 have smap:∀g,dp.aj=some g->aS g=none/\g≠a8.m:=λg cb=>⟨fE.fresh g cb,λe=>by have:=i1.known a8.m (by rw[aF.dh];simp);rw[<-e] at this;exact this (fE.fresh g cb)⟩
 have Mh:fs e5 a8.m (ec (a8.w++ [(id,(dp,q))])):=by
  have:ec (a8.w++ [(id,(dp,q))])=ec a8.w++ [(id,.slice dp.a dp.n dp.c)]:=by simp[ec]
  rw[this];exact im
 have Bq:Ints e5 dp q:=bt.else fE.ints λg z cb ab=>nD g z ab (smap g cb).2
 have nB:e5 b=some (.cells (fe a8).toArray 169 (0,0)):=nD _ _ aF.cell (js (by rw[aF.dL];simp))
 have aAZ:e5.cell? ⟨b,0,none⟩=some (.int .i64 a8.dim):=a1 nB 0
 have al6:e5.cell? ((cr b 0 none).add 1)=some (.int .i64 a8.leaf):=a1 nB 1
 have CF:(q.length:o)=a8.dim:=by rw[W.dim];exact c0
 have fin:∀u' r,DX aS cZ b a8 id dp q u' r->K (!decide (decide (id∈(bb T).map (·.1))=ak)) 0 u':=λu' r ac=>by obtain⟨aY,bx,f1,f2,f3,f4,f5,f6,f7⟩:=ac.abh i1 lb ⟨d1,d2⟩ ⟨CF,ff⟩ W.u9;refine eH _ (bH u' aY bx ⟨f1,W.eQ.trans f2,f3,by rw[<-W.rows];exact f4,f5.trans W.dim,f6.trans W.leaf,by rw[<-W.eR];exact f7⟩)
 have MN:∀l:J av,((l.map av.bi).Perm ((id,q)::lg a8)∨∃m:J jN,((l.map av.bi)++m).Perm ((id,q)::lg a8))->gX l a8.dim:=λl ar=>by
  obtain⟨m,hm⟩:∃m:J jN,((l.map av.bi)++m).Perm ((id,q)::lg a8):=ar.elim (λh=>⟨[],by rw[kA];exact h⟩) λh=>h;have fg:((l.map av.bi)++m).Perm ((id,q)::bb a8):=hm.trans (iL _ lb.rows);have bY:(((id,q)::bb a8).map (·.1)).Nodup:=by rw[gl,hK];exact⟨by rw[na];exact W.no,i1.aF.rD⟩
  have hlen:=fg.length_eq;have sM:=W.u9;simp only[eC,dg,h5,bb] at hlen;refine Dn lb.hs (by omega) ?_ λp ad=>?_;have:=(fg.map (·.1)).nodup_iff.2 bY;rw[dY,gb] at this;rw[show l.map (·.id)=(l.map av.bi).map (·.1) by rw[ez];rfl];exact this.1;rcases cE.1 (fg.mem_iff.1 (iY _ ad)) with rfl|ad;exact⟨d1,d2,CF,ff⟩;obtain⟨e,fX,rfl⟩:=bk.1 ad;exact⟨(lb.ids e fX).1,(lb.ids e fX).2,lb.vec e fX⟩
 cases kP:a8.root with
 |none=>
  have tI:e5.cell? ((cr b 0 none).add 2)=some (.pointer none):=by
   have M:fe a8=[.int .i64 a8.dim,.int .i64 a8.leaf,.pointer none,.map (some a8.m)]:=by simp[fe,kP]
   rw[M] at nB;exact a1 nB 2
  have wN:lg a8=[]:=by unfold lg;rw[kP]
  refine⟨_,rfl,none,tI,λ_=>?_,λal=>a6 rfl al⟩;refine l8 (wB id dp) λg pE=>?_;obtain⟨AW,MC⟩:∃AW,AW=(bA [cG .i64 id,.slice dp.a dp.n dp.c].toArray 52 (0,0)):=⟨_,rfl⟩;rw[<-MC];have Sq:e5.le (e5.ins g AW):=bW _ pE;have mU:aD e5 (e5.ins g AW) 52 2 ⟨some ⟨g,0,none⟩,1,1⟩ (([⟨id,dp,q⟩]:J av).flatMap cB):=by rw[MC];exact aD.make (H.le.refl e5) pE (cells:=[cG .i64 id,.slice dp.a dp.n dp.c].toArray) (n:=1) (by omega) rfl
  refine GH (ub:=e5) (by have:=lb.AN;omega) aAZ al6 mU (λr O=>by rw[fI.1 O];exact Bq) (MN _ (.inl (by rw[wN];exact .refl _))) (λe=>by cases e) λ_ p3 eN I fk=>?_;have Wz:g≠b:=λe=>by rw[e,nB] at pE;cases pE
  have rZ:∀c z,e5 c=some z->p3 c=some z:=λc z c7=>I.tA c z (Sq c z c7) λe=>by
   have:g=c:=by simpa[U.aj] using e
   rw[this,c7] at pE;cases pE
  have B1:p3 b=some (.cells #[.int .i64 a8.dim,.int .i64 a8.leaf,.pointer none,.map (some a8.m)] 169 (0,0)):=by have:=rZ _ _ nB;rw[show fe a8=[.int .i64 a8.dim,.int .i64 a8.leaf,.pointer none,.map (some a8.m)] by simp[fe,kP]] at this;exact this
  refine⟨_,rfl,OX B1 ?_⟩;obtain⟨xV,AB⟩:∃xV,xV=p3.ins b (.cells #[.int .i64 a8.dim,.int .i64 a8.leaf,.pointer (some ⟨eN.b,0,none⟩),.map (some a8.m)] 169 (0,0)):=⟨_,rfl⟩;rw[<-AB];have o2:∀c z,p3 c=some z->c≠b->xV c=some z:=λc z c7 al=>by rw[AB,bm _ _ al];exact c7
  have KE:b∉eN.own:=λe=>by have:=(I.out b e).1;rw[nB] at this;cases this
  have tv:a8.m≠b:=λe=>by have h1:=aF.dh;rw[e,aF.dL] at h1;cases h1
  have fS:∀bX,dp.aj=some bX->bX≠b:=λbX cb e=>by have:=i1.known b (by rw[aF.dL];simp);rw[<-e] at this;exact this (smap bX cb).1
  have Nn:∀c z,aS c=some z->c≠a8.m->c≠b->xV c=some z:=λc z c7 h1 h2=>o2 c z (rZ c z (nD c z (ui c z c7) h1)) h2;refine fin xV eN ⟨?_,Mh.else λz ab=>o2 _ z (rZ _ z ab) tv,bt.else Bq λbX z cb ab=>o2 bX z (rZ bX z ab) (fS bX cb),λbX cb=>⟨(smap bX cb).1,?_⟩,λc z c7 ac=>?_,λc c7 ac=>?_,λx M=>?_,I.nodup,λc c7=>?_,λx M r O bX cb=>?_,?_,I.ok,fk,?_⟩;rw[AB,bf];rfl;obtain⟨z,ab⟩:=e3.1 (dF fE cb);rw[o2 bX z (rZ bX z (nD bX z ab (smap bX cb).2)) (fS bX cb)];simp;refine Nn c z c7 (js ?_) λe=>?_;rcases ac with ac|ac<;>rw[ac]<;>simp;rw[e,aF.dL] at ac;rcases ac with ac|ac<;>cases ac;by_cases h1:c=a8.m;rw[h1,o2 _ _ (rZ _ _ m20) tv];simp;by_cases h2:c=b;rw[h2,AB,bf];simp;obtain⟨z,ab⟩:=e3.1 c7;rw[Nn c z ab h1 h2];simp;refine(I.one x M).bM (λc z cJ ab=>o2 c z ab λe=>KE (by rw[<-e];exact ee.2 ⟨x,M,cJ⟩)) λr O=>?_;rw[fI.1 (I.rows x M r O)];exact bt.else Bq λbX z cb ab=>o2 bX z (rZ bX z ab) (fS bX cb);obtain⟨cT,da⟩:=I.out c c7;obtain⟨z,ab⟩:=e3.1 da;exact⟨.inr (n20 cT),by rw[o2 c z ab (λe=>KE (by rw[<-e];exact c7))];simp⟩;rw[fI.1 (I.rows x M r O)] at cb;exact .inr cb;rw[wN];exact I.all;have:=I.size;simp only[h5,nT] at this;omega
 |some n0=>
  obtain⟨cT,da,dm,fx⟩:=aF.one n0 kP;have tI:e5.cell? ((cr b 0 none).add 2)=some (.pointer (some ⟨n0.b,0,none⟩)):=by
   have M:fe a8=[.int .i64 a8.dim,.int .i64 a8.leaf,.pointer (some ⟨n0.b,0,none⟩),.map (some a8.m)]:=by simp[fe,kP]
   rw[M] at nB;exact a1 nB 2
  have wN:lg a8=n0.bB.all:=by unfold lg;rw[kP]
  obtain⟨ub,b9⟩:∃ub:H,ub=λc=>open Classical in if c∈n0.own then none else e5 c:=⟨_,rfl⟩;have xW:∀{c},c∈n0.own->ub c=none:=λI=>by rw[b9];exact aV I
  have gm:∀{c},c∉n0.own->ub c=e5 c:=λI=>by rw[b9];exact az I
  have lub:ub.le e5:=λc b5 I=>by by_cases e:c∈n0.own;rw[xW e] at I;cases I;rw[gm e] at I;exact I
  have lr:∀{c},cZ c≠some .node->c∉n0.own:=λI e=>I (dm _ e);have ON:∀g,dp.aj=some g->g∉n0.own:=λg cb e=>i1.known g (by rw[dm g e];simp) (smap g cb).1;have sw:ub b=some (.cells (fe a8).toArray 169 (0,0)):=by rw[gm (lr (by rw[aF.dL];simp))];exact nB
  have Br:Ints ub dp q:=bt.else Bq λg z cb ab=>by rw[gm (ON g cb)];exact ab
  have KQ:∀c z,gC c=some z->cZ c≠some .map->cZ c≠some .node->ub c=some z:=λc z I h1 h2=>by rw[gm (lr h2)];exact nD c z I (js h1)
  have Nb:∀x∈n0.bO,∀r∈x.1.rows,Ints ub r.s r.v:=λx M r O=>bt.else ((cT x M).vec r O) λg z cb ab=>KQ g z ab (by rw[fx x M r O g cb];simp) (by rw[fx x M r O g cb];simp);have wk:Way 2 ub e5 a8.dim q (λ_=>True) (λg=>cZ g=some .vec) n0 [] n0:=by refine Way.start lub (λ_ _=>trivial) (λx M=>(cT x M).bM (λc z I ab=>nD c z ab (js ?_)) λr O=>(Nb x M r O).mono lub) da (λc I=>⟨xW I,?_,trivial⟩) (λx M r O=>⟨Nb x M r O,λg cb=>fx x M r O g cb⟩) (lb.ok n0 kP) (lb.n1 n0 kP);rw[dm c (ee.2 ⟨x,M,I⟩)];simp;have hk:=i1.known c (by rw[dm c I];simp);obtain⟨z,ab⟩:=e3.1 hk;rw[nD c z (ui c z ab) (js (by rw[dm c I];simp))];simp
  refine⟨_,rfl,_,tI,λe=>(by cases e),λ_=>⟨_,rfl,_,tI,?_⟩⟩
  let At:ay ba->H->N->Prop:=λp w f=>∃aU n,p=some ⟨n.b,0,none⟩/\Way 2 ub w a8.dim q (λ_=>True) (λg=>cZ g=some .vec) n0 aU n/\n.bO.length=f
  refine⟨λp w=>∃f,At p w f,λp w=>least (At p w),⟨_,[],n0,rfl,wk,rfl⟩,λNS lR cA=>?_⟩;have mT:=FL cA;generalize LR:least (At NS lR)=f at mT;obtain⟨aU,n,ad,w,atN⟩:=mT;obtain⟨e2,ks⟩:=n;obtain rfl:NS=some ⟨e2.b,0,none⟩:=ad;obtain⟨iU,bY,hZ,k6,fk⟩:=w.head;have sT:=I8 aU w.ok;obtain⟨ad6,aou⟩:=aow sT fk;refine abP Br w.base iU bY (λc I=>(hZ c I).1) (λr O=>(k6 r O).1) (by omega) (by omega) (by have:=lb.hs;omega) λhc E9 eB jF=>?_;obtain⟨Le,Er⟩:=WD (ks:=ks) fk sT ff CF;have tk:Way 2 ub hc a8.dim q (λ_=>True) (λg=>cZ g=some .vec) n0 aU (.mk (iF e2 q) ks):=w.eQ rfl rfl rfl E9 eB jF Le;have Hk:hc e2.b=some (.cells (eP (iF e2 q)).toArray 213 (0,0)):=E9.cell;have wE:hc.cell? ((cr e2.b 0 none).add 7)=some (.slice e2.c8.a e2.c8.n e2.c8.c):=a1 Hk 7;have rV:bt hc e2.c8 1 ((ks.map au.b).map λn=>.pointer (some ⟨n,0,none⟩)):=E9.lJ;have YW:e2.c8.n=ks.length:=by have:=rV.len;simpa using this.symm
  have gZ:=bt.cap rV;have yD:=bt.max rV;refine⟨_,rfl,e2.c8,wE,λh0=>?_,λh0=>?_⟩;obtain rfl:ks=[]:=ly (by omega);refine abW (h:=iF e2 q) tk (by have:=lb.AN;omega) (a1 sw 0) (a1 sw 1) Br (MN _ (.inr ?_)) Er λu' r aw=>fin u' r ?_;refine⟨(jq aU e2.b).flatMap λx=>x.1.rows.map av.bi,?_⟩;have eX:=(I7 aU (.mk e2 [])).symm.trans w.all;rw[wN];have lp:(au.mk e2 []).bB.all=e2.rows.map av.bi:=by rw[au.s5,au.bO,au.mw];simp
  rw[lp] at eX;rw[dY];refine(List.Perm.append_right _ (l5 _ _)).trans ?_;exact iL _ eX;have cP:fe {a8 with root:=some r}=fe a8:=by simp[fe,kP,aw.b]
  refine⟨by rw[cP];exact aw.le _ _ sw,?_,Br.mono aw.le,λg cb=>⟨(smap g cb).1,?_⟩,λc z I ac=>?_,λc I ac=>?_,aw.one,aw.nodup,λc I=>⟨?_,(aw.own c I).2⟩,λx M y ah g cb=>aw.rws x M y ah g cb,by rw[wN];exact aw.all,aw.ok,aw.n1,?_⟩;exact Mh.else λz ab=>aw.le _ _ (by rw[gm (lr (by rw[aF.dh];simp))];exact ab);obtain⟨z,ab⟩:=e3.1 (dF fE cb);rw[aw.le g z (by rw[gm (ON g cb)];exact nD g z ab (smap g cb).2)];simp;exact aw.le c z (KQ c z (ui c z I) (by rcases ac with ac|ac<;>rw[ac]<;>simp) (by rcases ac with ac|ac<;>rw[ac]<;>simp));by_cases h1:c=a8.m;rw[h1,aw.le _ _ (by rw[gm (lr (by rw[aF.dh];simp))];exact m20)];simp;obtain⟨z,ab⟩:=e3.1 I;rw[aw.le c z (by rw[gm (lr ac)];exact nD c z (ui c z ab) h1)];simp;have h1:=(aw.own c I).1.1;by_cases hm:c∈n0.own;exact .inl (dm c hm);rw[gm hm] at h1;exact .inr (n20 h1);have h1:=aw.size;have h2:=lb.size n0 kP;omega;have hC:0<ks.length:=by omega
  have lJ:∀(i:N) (hi:i<ks.length),hz hc (ks[i].h,ks[i].kids.map au.b)/\oF (ks[i].bB.hp []) q.length:=λi hi=>by
   have k3:(ks[i].h,ks[i].kids.map au.b)∈(au.mk (iF e2 q) ks).bO++jq aU (au.mk (iF e2 q) ks).b:=by rw[au.bO,au.HY];refine iY _ (gd _ (ee.2 ⟨ks[i],kk hi,?_⟩));rw[au.ij];exact gh ..
   refine⟨tk.one _ k3,?_⟩;have h3:=Le.kids ks[i].bB (by rw[au.hn];exact hS (kk hi));rw[CF];exact h3.kl
  have sY:∀(i:N) (hi:i<ks.length) {Q:o->o->o->H->Prop},(∀x y,Q x y 0 hc)->∃amX:o,((H.cell? hc ⟨ks[i].b,0,none⟩)=(some (cG ci amX)))/\(∃TA:U,((H.cell? hc (ep ⟨ks[i].b,0,none⟩ 1))=(some (dX TA.a TA.n TA.c)))/\(∃TB:U,((H.cell? hc (ep ⟨ks[i].b,0,none⟩ 2))=(some (dX TB.a TB.n TB.c)))/\(∃amY:o,((H.cell? hc (ep ⟨ks[i].b,0,none⟩ 3))=(some (cG bR amY)))/\(∃amZ:o,((H.cell? hc (ep ⟨ks[i].b,0,none⟩ 4))=(some (cG bR amZ)))/\(∃TC:U,((H.cell? hc (ep ⟨ks[i].b,0,none⟩ 5))=(some (dX TC.a TC.n TC.c)))/\(DS amX TA TB amY amZ TC dp hc Q)))))):=λi hi Q e6=>by
   obtain⟨ZU,FG⟩:=lJ i hi;have CV:hc ks[i].b=some (.cells (eP ks[i].h).toArray 213 (0,0)):=ZU.cell;have O:(ks[i].bB.hp [])=⟨ks[i].h.aG,⟨none,0,0⟩,⟨none,0,0⟩,ks[i].h.cH,⟨none,0,0⟩,ks[i].h.bJ,ks[i].h.hi,[]⟩:=by rw[au.hn];rfl
   rw[O] at FG;exact⟨_,a1 CV 0,ks[i].h.bo,a1 CV 1,ks[i].h.fl,a1 CV 2,_,a1 CV 3,_,a1 CV 4,⟨none,0,0⟩,a1 CV 5,
    ab0 (r:=⟨ks[i].h.aG,ks[i].h.bo,ks[i].h.fl,ks[i].h.cH,⟨none,0,0⟩,ks[i].h.bJ,ks[i].h.hi,[]⟩) ZU.bJ.f.ints ZU.hi.f.ints ⟨FG.dim,FG.ids,FG.id,FG.shape⟩ (.inl rfl) (Br.mono tk.base) ff (e6 _ _)⟩
  obtain⟨a0,ED,oQ⟩:=Ja rV (i:=0) (by simpa using hC);rw[Di] at oQ;refine⟨_,rfl,e2.c8,wE,a0,ED,⟨by omega,by omega⟩,_,by simpa using oQ,_,rfl,sY 0 hC λaG0 aG1=>⟨_,rfl,e2.c8,wE,?_⟩⟩;refine lj ach (l:=1) (h:=e2.c8.n) (m:=e2.c8.c) (.inr rfl) (.inl ⟨rfl,rfl⟩) (.inl ⟨rfl,rfl⟩) (by omega) gZ (cg _) gZ ?_;have auB:bt hc (e2.c8.part 1 e2.c8.n e2.c8.c 1) 1 (((ks.drop 1).map au.b).map λn=>.pointer (some ⟨n,0,none⟩)):=by have:=bt.part rV (l:=1) (h:=e2.c8.n) (m:=e2.c8.c) (by omega) (cg _) gZ (cg _);rw[ho (by simp;omega)] at this;rw[Dh,Dh];exact this
  have fp:(e2.c8.part 1 e2.c8.n e2.c8.c 1).n=ks.length-1:=by show e2.c8.n-1=_;omega
  refine⟨λp x _ _ w=>0<=x/\w=hc/\∃(i:N) (hi:i<ks.length),p=some ⟨ks[i].b,0,none⟩,λ_ x _ _ _=>((ks.length:o)-x).toNat,⟨by omega,rfl,0,hC,rfl⟩,?_⟩;rintro aGq BC aGW aGX wi ⟨bG,rfl,i,hi,rfl⟩;refine⟨λM=>?_,λM=>?_⟩;have eO:BC.toNat+1<ks.length:=by omega
  obtain⟨aa,Cn,iy⟩:=Ja auB (i:=BC.toNat) (by rw[dg,nV];omega);rw[Di,aba] at iy;have ex:1+BC.toNat=BC.toNat+1:=by omega
  simp only[ex] at iy;have st:∀(p:ay ba),(∃(i:N) (hi:i<ks.length),p=some ⟨ks[i].b,0,none⟩)->(br (BC+1))/\((0<=BC+1/\wi=wi/\∃(i:N) (hi:i<ks.length),p=some ⟨ks[i].b,0,none⟩)/\((ks.length:o)-(BC+1)).toNat<((ks.length:o)-BC).toNat):=λp iT=>⟨⟨by omega,by omega⟩,⟨by omega,rfl,iT⟩,by omega⟩;refine⟨aa,Cn,⟨bG,M⟩,_,iy,_,rfl,sY (BC.toNat+1) eO λaGY aGZ anw aq=>?_⟩;have mr:∀dD,anw dD wi:=λdD=>aq dD wi ⟨λ_=>st _ ⟨_,eO,rfl⟩,λ_=>st _ ⟨i,hi,rfl⟩⟩;exact⟨λ_=>mr _,λ_=>⟨λ_=>mr _,λ_=>mr _⟩⟩;have oT:ks=ks.take i++ks[i]::ks.drop (i+1):=by rw[<-s9 hi,r6]
  have hw:Way 2 ub wi a8.dim q (λ_=>True) (λg=>cZ g=some .vec) n0 (⟨iF e2 q,ks.take i,ks.drop (i+1)⟩::aU) ks[i]:=by refine Way.lJ (by rw[<-oT];exact tk) ?_;rw[au.hn] at Er;exact Er
  have bC:=ZS (h:=e2) hi;have qZ:At (some ⟨ks[i].b,0,none⟩) wi ks[i].bO.length:=⟨_,_,rfl,hw,rfl⟩;refine⟨⟨_,qZ⟩,?_⟩;have:=least_le qZ;show least (At _ wi)<least (At _ lR);rw[LR];omega
end
end kE
section
variable{u:H}{s t:U}{l:J (U×J o)}{d:o}{p:bF}
inductive jC:bF->Prop where
 |mk {p:bF} (two:p.kids.length=0∨p.kids.length=2) (kids:∀k∈p.kids,jC k):jC p
def jC.two(h:jC p):p.kids.length=0∨p.kids.length=2:=by cases h;assumption
def jC.kids(h:jC p):∀k∈p.kids,jC k:=by cases h;assumption
def jC.del{id:o}(h:jC p):jC (p.del id):=by
 induction p using bF.ind with
 |h p aL=>
  rw[bF.del_eq];have h1:(p.kids.map (bF.del id)).length=0∨(p.kids.map (bF.del id)).length=2:=by rw[dg];exact h.two
  refine .mk h1 λk hk=>?_;obtain⟨dQ,de,rfl⟩:=bk.1 (show k∈p.kids.map (bF.del id) from hk);exact aL dQ de (h.kids dQ de)
def aqe{f:j7}{n n':au}(h:jC (f.fill n).bB)(bL:jC n'.bB):jC (f.fill n').bB:=by have h1:=h.two;have h2:=h.kids;rw[Cb] at h1 h2;refine .mk ?_ λk hk=>?_;rw[Cb];simp only[dg,eC,h5] at h1 ⊢;exact h1;rw[Cb] at hk;obtain⟨Y,aB,rfl⟩:=bk.1 hk;rw[cK,cE] at aB;rcases aB with aB|rfl|aB;exact h2 _ (hS (iY _ aB));exact bL;exact h2 _ (hS (lf _ (gd _ aB)))
def Qf:∀(aU:J j7) {n:au},jC (mC aU n).bB->jC n.bB
 | [],_,h=>h|f::aU,n,h=>by have h3:=(Qf aU (n:=f.fill n) h).kids;rw[Cb] at h3;exact h3 _ (hS (by simp))
def SK:∀(aU:J j7) {n n':au},jC (mC aU n).bB->jC n'.bB->jC (mC aU n').bB
 | [],_,_,_,bL=>bL|f::aU,n,n',h,bL=>SK aU (n:=f.fill n) (n':=f.fill n') h (aqe (Qf aU (n:=f.fill n) h) bL)
def ad5{h:et}{ks:J au}(bL:jC (au.mk h ks).bB):(ks.length=0∨ks.length=2)/\∀k∈ks,jC k.bB:=by rw[au.hn] at bL;have h1:=bL.two;have h2:=bL.kids;refine⟨by have h3:(ks.map au.bB).length=0∨(ks.map au.bB).length=2:=h1;rw[dg] at h3;exact h3,λk hk=>h2 k.bB (show k.bB∈ks.map au.bB from hS hk)⟩
def Qe{h:et}{ks:J au}(h1:ks.length=0∨ks.length=2)(h2:∀k∈ks,jC k.bB):jC (au.mk h ks).bB:=by rw[au.hn];refine .mk (by show(ks.map au.bB).length=0∨(ks.map au.bB).length=2;rw[dg];exact h1) λk hk=>?_;obtain⟨Y,aB,rfl⟩:=bk.1 (show k∈ks.map au.bB from hk);exact h2 Y aB
def encS(s:U):J ao:=[.slice s.a s.n s.c]
def u5(c:U×J o):(encS c.1).length=1:=rfl
structure mh(u:H)(s:U)(l:J (U×J o)):Prop where
 cC:bt u s 1 (l.flatMap λc=>encS c.1)
 ints:∀c∈l,Ints u c.1 c.2
def mh.mono{u':H}(h:mh u s l)(k:u.le u'):mh u' s l:=⟨h.cC.mono k,λc I=>(h.ints c I).mono k⟩
def mh.len(h:mh u s l):s.n=l.length:=gY u5 (by decide) h.cC
def mh.at(h:mh u s l){x:o}(h0:0<=x)(h1:x<(s.n:o)):∃p,s.a=some p/\∃c,l[x.toNat]?=some c/\c∈l/\u.cell? (p.add (x.toNat*1))=some (.slice c.1.a c.1.n c.1.c)/\Ints u c.1 c.2:=by
 have ae:=h.len;have ar:x.toNat<l.length:=by omega
 have M:l[x.toNat]?=some l[x.toNat]:=cn ar;obtain⟨p,ad,I⟩:=bt.elem u5 (by decide) h.cC M;exact⟨p,ad,_,M,kk ar,I 0 _ rfl,h.ints _ (kk ar)⟩
structure wq(l:J (U×J o))(d:o):Prop where
 dim:1<=d/\d<=64
 many:0<l.length/\l.length<=64
 each:∀c∈l,(c.2.length:o)=d/\db c.2
def abU{K:o->H->Prop}(h:mh u s l)(aw:1<=d/\d<=64)(I:∀c∈l,(c.2.length:o)=d/\db c.2)(ar:l.length<=1000000)(aq:K 0 u):PD s d u K:=by have ae:=h.len;apply aCL;refine⟨λ_ x v=>v=u/\0<=x,λ_ x _=>((s.n:o)-x).toNat,⟨rfl,by omega⟩,?_⟩;rintro _ x v ⟨rfl,bG⟩;refine⟨λM=>?_,λ_=>aq⟩;obtain⟨p,ad,c,_,cJ,bK,hi⟩:=h.at bG M;obtain⟨aP,aC⟩:=I c cJ;exact⟨p,ad,⟨bG,M⟩,_,bK,pX hi ⟨λal=>a6 (GV aC aP aw) al,λ_=>⟨⟨by omega,by omega⟩,⟨rfl,by omega⟩,by dsimp only;omega⟩⟩⟩
def azz{K:o->H->Prop}(h:mh u s l)(I:wq l d)(aq:K 0 u):UL s u K:=by have ae:=h.len;have hm:=I.many;apply amG;intro lA h0;refine⟨λM=>a6 M (by omega),λ_=>⟨λM=>a6 M (by omega),λ_=>h0 _ _ ?_⟩⟩;obtain⟨p,ad,c,_,cJ,bK,hi⟩:=h.at (x:=0) (by omega) (by omega);have pz:=hi.len;obtain⟨aP,aC⟩:=I.each c cJ;refine⟨p,ad,⟨by omega,by omega⟩,_,bK,?_⟩;dsimp only;rw[show(c.1.n:o)=d by omega];exact abU h I.dim I.each (by omega) aq
def l0(cs:J (J o))(v:J o):N->N×o
 |0=>(0,0)|n+1=>if n=0∨fz (cs.getD n []) v v.length<(l0 cs v n).2 then(n,fz (cs.getD n []) v v.length) else l0 cs v n
def ajk(cs:J (J o))(v:J o):∀n,0<n->(l0 cs v n).1<n:=by
 intro n;induction n with
 |zero=>intro h;omega
 |succ n aL=>intro _;unfold l0;split;exact Nat.lt_succ_self n;rename_i I;have:=aL (by omega);omega
def abV{v:J o}{K:o->o->o->H->Prop}(h:mh u s l)(I:wq l d)(ht:Ints u t v)(aA:db v)(CK:(v.length:o)=d)
  (aq:K (l0 (l.map (·.2)) v l.length).1 (dk (l0 (l.map (·.2)) v l.length).2) (dq (l0 (l.map (·.2)) v l.length).2) u):PE s t u K:=by
 have ae:=h.len
 have hm:=I.many
 have Y:dn 0:=⟨by omega,by omega⟩
 have aw:=I.dim
 apply aCN
 refine⟨λa i x y w=>w=u/\0<=i/\i<=s.n/\a=(l0 (l.map (·.2)) v i.toNat).1/\dn x/\dn y/\fi x y=(l0 (l.map (·.2)) v i.toNat).2,λ_ i _ _ _=>((s.n:o)-i).toNat,⟨rfl,by omega,by omega,rfl,Y,Y,rfl⟩,?_⟩
 rintro a i x y w ⟨rfl,i0,i1,KR,M,ah,hw⟩
 refine⟨λhi=>?_,λhi=>?_⟩
 obtain⟨p,ad,c,og,cJ,bK,pz⟩:=h.at i0 hi
 obtain⟨aP,aC⟩:=I.each c cJ
 have pv:(l.map (·.2)).getD i.toNat []=c.2:=by rw[dr,iD,og];rfl
 have hlen:c.2.length=v.length:=by omega
 refine⟨p,ad,⟨i0,hi⟩,_,bK,Bm pz ht aC (by omega) aA hlen λnt mI fF jX kT=>?_⟩
 rw[hlen] at kT
 have step:l0 (l.map (·.2)) v (i+1).toNat=if i.toNat=0∨fz c.2 v v.length<(l0 (l.map (·.2)) v i.toNat).2 then(i.toNat,fz c.2 v v.length) else l0 (l.map (·.2)) v i.toNat:=by rw[show(i+1).toNat=i.toNat+1 by omega];show(if _ then _ else _)=_;rw[pv]
 have new:i.toNat=0∨fz c.2 v v.length<(l0 (l.map (·.2)) v i.toNat).2->br (i+1)/\(w=w/\0<=i+1/\i+1<=(s.n:o)/\i=(l0 (l.map (·.2)) v (i+1).toNat).1/\dn nt/\dn mI/\fi nt mI=(l0 (l.map (·.2)) v (i+1).toNat).2)/\((s.n:o)-(i+1)).toNat<((s.n:o)-i).toNat:=λI=>by rw[step,aV I];exact⟨⟨by omega,by omega⟩,⟨rfl,by omega,by omega,by show i=((i.toNat:N):o);omega,fF,jX,kT⟩,by omega⟩
 refine⟨λh0=>new (.inl (by omega)),λh0=>Bn jX ah ?_⟩
 rw[hw,kT]
 by_cases bC:fz c.2 v v.length<(l0 (l.map (·.2)) v i.toNat).2
 rw[aV bC]
 exact⟨λ_=>new (.inr bC),λM=>a6 (by decide) M⟩
 refine⟨λM=>a6 M ?_,λ_=>⟨⟨by omega,by omega⟩,⟨rfl,by omega,by omega,?_,M,ah,?_⟩,by dsimp only;omega⟩⟩
 rw[az bC];split<;>omega
 rw[step,az (by omega)];exact KR
 rw[step,az (by omega)];exact hw
 have:i.toNat=l.length:=by omega
 rw[this] at KR hw
 obtain⟨g1,g2⟩:=BB M ah
 rw[hw] at g1 g2
 rw[KR,g1,g2]
 exact aq
def TO{v:J o}{K:o->o->o->o->H->Prop}(h:mh u s l)(I:wq l d)(ht:Ints u t v)(aA:db v)(CK:(v.length:o)=d)
  (aq:K (l0 (l.map (·.2)) v l.length).1 (dk (l0 (l.map (·.2)) v l.length).2) (dq (l0 (l.map (·.2)) v l.length).2) 0 u):G1 s t u K:=by
 have ae:=h.len
 have hm:=I.many
 apply amF
 refine azz h I ⟨λM=>a6 rfl M,λ_=>?_⟩
 obtain⟨p,ad,c,_,cJ,bK,hi⟩:=h.at (x:=0) (by omega) (by omega)
 have pz:=hi.len
 obtain⟨aP,aC⟩:=I.each c cJ
 refine⟨p,ad,⟨by omega,by omega⟩,_,bK,pX ht ⟨λM=>a6 ?_ M,λ_=>abV h I ht aA CK aq⟩⟩
 rw[show(c.1.n:o)=d by omega]
 exact GV aA CK I.dim
def oy(c:J o)(l:J av):N->o
 |0=>0|n+1=>if oy c l n<fz c (l.getD n ⟨0,⟨none,0,0⟩,[]⟩).v c.length then fz c (l.getD n ⟨0,⟨none,0,0⟩,[]⟩).v c.length else oy c l n
def aka(c:J o)(l:J av):∀n,0<=oy c l n/\∀i r,i<n->l[i]?=some r->fz c r.v c.length<=oy c l n:=by
 intro n;induction n with
 |zero=>exact⟨l4 _,λi r h=>by omega⟩|succ n aL=>
  obtain⟨h0,h1⟩:=aL;unfold oy;have last:∀r,l[n]?=some r->l.getD n ⟨0,⟨none,0,0⟩,[]⟩=r:=λr O=>by rw[dr,O];rfl
  split;rename_i bC;refine⟨by omega,λi r hi O=>?_⟩;by_cases e:i=n;subst e;rw[last r O];exact l4 _;have:=h1 i r (by omega) O;omega;rename_i gr;refine⟨h0,λi r hi O=>?_⟩;by_cases e:i=n;subst e;rw[last r O] at gr;omega;exact h1 i r (by omega) O
def akb{c:J o}{l:J av}(I:db c)(ar:gX l c.length):∀n,n<=l.length->mc (oy c l n):=by
 intro n;induction n with
 |zero=>intro _;exact⟨l4 _,(by decide:(0:o)<340282366920938463463374607431768211456)⟩
 |succ n aL=>
  intro ae;unfold oy;have W:l.getD n ⟨0,⟨none,0,0⟩,[]⟩∈l:=by rw[dr,cn (by omega)];exact kk (by omega)
  obtain⟨aP,aC⟩:=ar.v _ W;split;exact OU I aC (by omega);exact aL (by omega)
def alz{c:J o}{l:J av}{K:o->U->U->o->o->U->o->H->Prop}(ag:Ints u s c)(I:db c)(ht:dS u t l)(ar:gX l c.length)
  (aq:∀ap k7 u',aD u u' 3 1 ap (c.flatMap encI)->K 3 ap ⟨none,0,0⟩ (dk (oy c l l.length)) (dq (oy c l l.length)) k7 0 u'):PS s t u K:=by
 have dw:=ag.len
 have ah4:=ht.len
 have M4:=ht.max
 have aw:=ar.dim
 have yn:=I.1
 have Y:dn 0:=⟨by omega,by omega⟩
 apply aDY
 refine pX ag ?_
 rw[dw,GV I rfl aw]
 refine⟨λM=>a6 rfl M,λ_=>alB ht ar λk7 nr y0=>⟨λM=>a6 rfl M,λ_=>?_⟩⟩
 refine⟨λi x y w=>w=nr/\0<=i/\i<=t.n/\dn x/\dn y/\fi x y=oy c l i.toNat,λi _ _ _=>((t.n:o)-i).toNat,⟨rfl,by omega,by omega,Y,Y,rfl⟩,?_⟩
 rintro i x y w ⟨rfl,i0,i1,M,ah,hw⟩
 refine⟨λhi=>?_,λhi=>?_⟩
 obtain⟨p,ad,r,O,bK,c1,tW⟩:=(ht.mono y0.le).at i0 hi
 have fQ:=du O
 obtain⟨aP,aC⟩:=ar.v r fQ
 have pv:l.getD i.toNat ⟨0,⟨none,0,0⟩,[]⟩=r:=by rw[dr,O];rfl
 have step:oy c l (i+1).toNat=if oy c l i.toNat<fz c r.v c.length then fz c r.v c.length else oy c l i.toNat:=by rw[show(i+1).toNat=i.toNat+1 by omega];show(if _ then _ else _)=_;rw[pv]
 refine⟨p,ad,⟨i0,hi⟩,_,bK,_,c1,ab2 (ag.mono y0.le) tW I aC (by omega) λnt mI fF jX kT=>Bn jX ah ?_⟩
 rw[hw,kT]
 by_cases bC:oy c l i.toNat<fz c r.v c.length
 refine⟨λ_=>⟨⟨by omega,by omega⟩,⟨rfl,by omega,by omega,fF,jX,by rw[step,aV bC];exact kT⟩,by dsimp only;omega⟩,λM=>a6 ?_ M⟩
 rw[az (by omega),aV bC]
 decide
 refine⟨λM=>a6 M ?_,λ_=>⟨⟨by omega,by omega⟩,⟨rfl,by omega,by omega,M,ah,by rw[step,az bC];exact hw⟩,by dsimp only;omega⟩⟩
 rw[az bC]
 split<;>decide
 have:i.toNat=l.length:=by omega
 rw[this] at hw
 obtain⟨g1,g2⟩:=BB M ah
 rw[hw] at g1 g2
 refine sc (ag.mono y0.le) (by omega) λap u' ab _=>⟨ab.le,?_⟩
 rw[g1,g2]
 exact aq _ _ _ (ab.weaken y0.le)
open Go.RowKit
def Ks{α σ:Type}(P:dR)(fv:ao)(enc:α->ao)(Nx:σ->α->σ->Prop)(s0:σ)(En:σ->Prop)(u:H):Prop:=
 ∀(mb:ao) (cU:σ->H->Prop),(∀s v,cU s v->u.le v)->
  (∀s y ap v (K:aI->H->Prop),Nx s y ap->cU s v->(∀cm,cU ap cm->K ak cm)->zB P mb #[enc y] [.one .bool] v K)->
  ∀v (K:H->Prop),cU s0 v->(∀s cm,En s->cU s cm->K cm)->hL P fv #[mb] [] v K
def mP.avx{P:dR}{α σ:Type}{Nx:σ->α->σ->Prop}{s0:σ}{En:σ->Prop}{t x n:N}{assign body:iK}{env:J (N×ao)}{K:N->H->Prop}{enc:α->ao}{fv:ao}{ub:H}(b9:ub.le u)
  (ac:∀f args w,(∃fn,P.funcs[f]?=some fn/\fn.body.isSome=ak)->(qw f args).run P w=.ok (.enter f args) w) (W:(t,fv)∈env) (M:x<n)
  (iI:∀ai,ub.le ai->Ks P fv enc Nx s0 En ai) (cU:σ->H->Prop) (h0:cU s0 u) (hle:∀i v,cU i v->ub.le v)
  (LF:∀i y k7 v,Nx i y k7->cU i v->BR P n assign body env x (enc y) v (cU k7))
  (aq:∀s v D,En s->cU s v->v D=none->K D (v.ins D (.deferred (some [])))):mP P (.rangeFunc (.tmp t) #[x] assign body) n env u K:=by
 intro a w cY sL LL gH
 refine(NZ (n:=0)).1 (wpIn_rangeFunc ?_)
 intro fn _
 have fc:a.eval (.tmp t)=fv:=by simp only[Act.eval];rw[A1,sL _ W];rfl
 obtain⟨rec,mx⟩:∃rec:LoopState->Loop,rec=λst=>{state:=st,pending:=none,fn,tmps:=a.tmps,params:=#[x],assign,body,defers:=w.heap.size}:=⟨_,rfl⟩
 obtain⟨iO,jE⟩:∃iO,(w.alloc (.deferred (some []))).alloc (.loop (rec .ready))=iO:=⟨_,rfl⟩
 have ah0:iO.heap.size=w.heap.size+2:=by rw[<-jE];simp
 have Lr:iO.heap[w.heap.size+1]?=some (.loop (rec .ready)):=by rw[<-jE];have:=Jv (w.alloc (.deferred (some []))) (.loop (rec .ready));rwa[C8] at this
 have Ew:iO.heap[w.heap.size]?=some (.deferred (some [])):=by rw[<-jE];exact(Below.heap_alloc _ _ _ (by simp)).trans (Jv w _)
 have hold:∀b,b<w.heap.size->iO.heap[b]?=w.heap[b]?:=λb Z=>by rw[<-jE];exact(Below.heap_alloc _ _ _ (by simp;omega)).trans (Below.heap_alloc _ _ _ Z)
 have w3:u (w.heap.size+1)=none:=gH.none (by omega)
 have yo:u w.heap.size=none:=gH.none (cg _)
 have L9:ub (w.heap.size+1)=none:=by
  cases M:ub (w.heap.size+1) with
  |none=>rfl|some z=>rw[b9 _ _ M] at w3;cases w3
 have Na:ub.le (ub.ins (w.heap.size+1) (.loop (rec .ready))):=bW _ L9
 have MZ:Sub (u.ins (w.heap.size+1) (.loop (rec .ready))) iO:=by intro b z Z;unfold H.ins at Z;split at Z;rename_i ev;subst ev;cases Z;exact Lr;have:=gH b z Z;have bC:=gH.lt Z;rw[hold b bC];exact this
 have hv:=iI _ Na (.func (.yield (w.heap.size+1)) #[] #[])
  (λi v=>∃v0,v=v0.ins (w.heap.size+1) (.loop (rec .ready))/\v0 (w.heap.size+1)=none/\v0 w.heap.size=none/\cU i v0)
  (λi v ⟨v0,aA,_,_,aM⟩=>by rw[aA];exact II (hle i v0 aM) _ _)
  (by
   rintro i y k7 v fA ah ⟨v0,rfl,nG,tE,aM⟩ mr;refine⟨_,rfl,λbN hB=>?_⟩;have w0:bN.heap[w.heap.size+1]?=some (.loop (rec .ready)):=hB _ _ (bf _ _ _);have bC:w.heap.size+1<bN.heap.size:=(xE.1 w0).1;have mV:(Instr.yield (w.heap.size+1) #[enc y]).run P bN=.ok (.round (w.heap.size+1) fn (a.tmps.setIfInBounds x (enc y)) assign body) bN:=by have:=run_yield (P:=P) (args:=#[enc y]) w0 (by rw[mx];rfl);rw[mx] at this;simpa using this
   have M0:Sub v0 bN:=hB.mono (bW _ nG);refine⟨fn,_,assign,body,mV,aaW trivial ?_⟩;refine xI (LF i y k7 v0 ah aM (w.heap.size+1) _ bN ?_ ?_ ?_ rfl M0) ?_;simpa using cY;intro p ad Fa;show(a.tmps.setIfInBounds x (enc y))[p.1]?=_;rw[Ge (dv Fa)];exact sL p ad;show(a.tmps.setIfInBounds x (enc y))[x]?=_;rw[S7];simp[cY,M];intro e aa fu ad;cases e with
   |normal=>
    obtain⟨v1,eb,Z⟩:=ad;have Cw:fu.heap[w.heap.size+1]?=some (.loop (rec .ready)):=(eb.rest _ bC nG (by simp)).trans w0;have w2:w.heap.size+1<fu.heap.size:=(xE.1 Cw).1;have gi:v1 (w.heap.size+1)=none:=eb.jg _ bC nG;have z8:v1 w.heap.size=none:=eb.jg _ (by omega) tE;refine⟨_,run_beginRound Cw (by rw[mx]),xI (Z _ ?_) ?_⟩;intro b z gz;have al:b≠w.heap.size+1:=λe=>by rw[e,gi] at gz;cases gz
    exact(l2 al).trans (eb.sub b z gz);rintro e a2 hy ⟨rfl,v2,q2,dE⟩;have L8:(fu.putObj (w.heap.size+1) (.loop {rec .ready with state:=.busy})).heap[w.heap.size+1]?=some (.loop {rec .ready with state:=.busy}):=F9 w2;have sO:hy.heap[w.heap.size+1]?=some (.loop {rec .ready with state:=.busy}):=(dE.rest _ (by simpa using w2) gi (by simp)).trans L8;have Mc:w.heap.size+1<hy.heap.size:=(xE.1 sO).1;have hN:v2 (w.heap.size+1)=none:=dE.jg _ (by simpa using w2) gi;have pB:=run_endRound (P:=P) none sO;have K1:({{rec .ready with state:=S8} with state:=if(none:ay iK).isNone then .ready else .done,pending:=none}:Loop)=rec .ready:=by rw[mx];rfl
    rw[K1] at pB;refine⟨_,_,pB,.bool ak,v2.ins (w.heap.size+1) (.loop (rec .ready)),rfl,⟨[.bool ak],.cons (t:=.bool) ak .nil,rfl,?_⟩,?_⟩;exact mr _ ⟨v2,rfl,hN,dE.jg _ (by have:=eb.size;simp;omega) z8,q2⟩;refine⟨λb z gz=>?_,dE.os.trans eb.os,dE.tape.trans eb.tape,dE.output.trans eb.output,jv eb.drawn dE.drawn,?_,λb Z e7 _=>?_,λb Z e7=>?_,[],by simp,by simp⟩;unfold H.ins at gz;split at gz;rename_i ev;subst ev;cases gz;exact F9 Mc;rename_i ev;rw[l2 ev];exact dE.sub b z gz;have h1:=eb.size;have h2:=dE.size;simp at h2 ⊢;omega;have al:b≠w.heap.size+1:=λe=>by rw[e,bf] at e7;cases e7
    rw[bm _ _ al] at e7;have ii:b<fu.heap.size:=Jd Z eb.size;rw[l2 al,dE.rest b (by simpa using ii) (eb.jg b Z e7) (by simp),l2 al];exact eb.rest b Z e7 (by simp);have al:b≠w.heap.size+1:=λe=>by rw[e,bf] at e7;cases e7
    rw[bm _ _ al] at e7 ⊢;exact dE.jg b (by have:=eb.size;simp;omega) (eb.jg b Z e7)
   |_=>exact ad.elim)
  _ (λcm=>∃v0,cm=v0.ins (w.heap.size+1) (.loop (rec .ready))/\v0 (w.heap.size+1)=none/\v0 w.heap.size=none/\∃s,En s/\cU s v0) ⟨u,rfl,w3,yo,h0⟩ (λs _ ag ⟨v0,a,b,c,d⟩=>⟨v0,a,b,c,s,ag,d⟩)
 obtain⟨wK,Ce,cap,EL,wO,hv⟩:=hv
 rw[EL] at fc
 refine⟨w.heap.size+1,[{target:=.collected w.heap.size,args:=#[]}],iO,{target:=.fn (.func wK) cap,args:=Ce++ #[.func (.yield (w.heap.size+1)) #[] #[]]},iO,wK,
  Ce++ #[.func (.yield (w.heap.size+1)) #[] #[]]++cap,iO,?_,?_,λ_ _=>trivial,?_,λh=>by simp[uy] at h,?_⟩
 rw[<-jE,mx];exact aaX _ _ _ _ _
 simp only[resolve,fc]
 simp[go_sem]
 simp[invoke,go_sem,ac wK _ _ wO]
 refine NY.2 ((hv iO MZ).mono ?_)
 rintro e hy ⟨v,u',rfl,⟨vs,hk,rfl,I⟩,ag⟩
 cases hk
 obtain⟨v0,rfl,nG,tE,s,Fh,aM⟩:∃v0:H,u'=v0.ins (w.heap.size+1) (.loop (rec .ready))/\v0 (w.heap.size+1)=none/\v0 w.heap.size=none/\∃s,En s/\cU s v0:=I
 have sO:hy.heap[w.heap.size+1]?=some (.loop (rec .ready)):=ag.sub _ _ (bf _ _ _)
 have Lm:hy.heap[w.heap.size]?=some (.deferred (some [])):=by rw[ag.rest _ (by omega) (by rw[bm _ _ (by omega)];exact yo) (by simp)];exact Ew
 have pB:(Instr.endLoop (w.heap.size+1)).run P hy=.ok none (hy.putObj (w.heap.size+1) (.loop {rec .ready with state:=.exhausted})):=by have:=run_endLoop (P:=P) sO (by rw[mx];simp);rw[this];rw[mx]
 refine⟨none,_,pB,rfl,rfl,w.heap.size,_,?_,aq s v0 w.heap.size Fh aM tE,?_⟩
 simp[LL,KK]
 have tX:=ag.size
 refine⟨λb z gz=>?_,?_,?_,?_,?_,by simp;omega,λb Z e7 _=>?_,λb Z e7=>?_,[],by simp,by simp⟩
 unfold H.ins at gz
 split at gz
 rename_i ev;subst ev;cases gz
 rw[l2 (by omega)];exact Lm
 have al:b≠w.heap.size+1:=λe=>by rw[e,nG] at gz;cases gz
 rw[l2 al]
 exact ag.sub b z (by rw[bm _ _ al];exact gz)
 exact ag.os.trans (by rw[<-jE];rfl)
 exact ag.tape.trans (by rw[<-jE];rfl)
 exact ag.output.trans (by rw[<-jE];rfl)
 exact jv (by rw[<-jE];exact cg _) ag.drawn
 have al:b≠w.heap.size+1:=by omega
 rw[l2 al,ag.rest b (by omega) (by rw[bm _ _ al];exact e7) (by simp)]
 exact hold b Z
 have al:b≠w.heap.size+1:=by omega
 have:=ag.jg b (by omega) (by rw[bm _ _ al];exact e7)
 rw[bm _ _ al] at this
 rw[bm _ _ (by omega)];exact this
end
section
variable{n x x2:N}{env:J (N×ao)}
open Go.RowKit
def IterM{α σ:Type}(P:dR)(fv:ao)(enc wH:α->ao)(src:N)(cell:σ->Obj)(Nx:σ->α->σ->Prop)(s0:σ)(En:σ->Prop)(u:H):Prop:=
 ∀(mb:ao) (cU:σ->H->Prop),(∀s v,cU s v->u.le v/\v src=some (cell s))->
  (∀s y ap v (K:aI->H->Prop),Nx s y ap->cU s v->(∀cm,cU ap cm->K ak cm)->zB P mb #[enc y,wH y] [.one .bool] (v.ins src (cell ap)) K)->
  ∀v (K:H->Prop),cU s0 v->(∀s cm,En s->cU s cm->K cm)->hL P fv #[mb] [] v K
def G9(P:dR)(n:N)(assign body:iK)(env:J (N×ao))(x x2:N)(y lS:ao)(v:H)(cU:H->Prop):Prop:=
 ∀l a w,a.tmps.size=n->(∀p∈env,p.1≠x->p.1≠x2->a.tmps[p.1]?=some p.2)->a.tmps[x]?=some y->a.tmps[x2]?=some lS->a.defers=[]->Sub v w->
  assign.wpIn (Fr (some l)) 0 P (Exit.then (λaa fu=>∃v1,Step v [] w v1 [] fu/\∀dK,Sub v1 dK->
   body.wpIn (Fr (some l)) 0 P (λe _ hy=>e=.normal/\∃v2,cU v2/\Step v1 [] dK v2 [] hy) aa dK) (λ_ _ _=>ej)) a w
def G9.of{C:kZ}(ft:Good C){assign body:iK}{y lS:ao}{v:H}{cU:H->Prop}(aE:mB assign=ak)(Z:mB body=ak)
  (Ek:J (N×fB)) (sL:∀p∈Ek,∃Y,hj [] p.2=some Y/\((p.1=x/\Y=y)∨(p.1=x2/\Y=lS)∨p.1≠x/\p.1≠x2/\(p.1,Y)∈env))
  (h:hf C [] assign 1 (λ_=>ak) (λe s u=>e=.normal/\s.loc=[]/\hf C [] body 1 (λ_=>ak) (λe _ u=>e=.normal/\cU u) s u) {n:=n,env:=Ek,loc:=[]} v):
  G9 C.P n assign body env x x2 y lS v cU:=by
 intro l a w cY he M avf aw ag
 have ac:Fits {n:=n,env:=Ek,loc:=[]} [] v a w:=by refine⟨⟨aw,cY,λp ad=>?_⟩,rfl,λi cs e=>by simp at e,by simp,by simp,ag⟩;obtain⟨Y,h1,h2⟩:=sL p ad;refine⟨Y,h1,?_⟩;rcases h2 with⟨h3,rfl⟩|⟨h3,rfl⟩|⟨h3,bE,a7⟩;rw[h3];exact M;rw[h3];exact avf;exact he _ a7 h3 bE
 refine xI (Qq ft (some l) assign aE 1 _ _ _ v h [] a w ac) ?_
 rintro e aa fu ⟨_,ap,u',c5,⟨rfl,tQ,eH⟩,dd,dI,_,_⟩
 have kb:c5=[]:=by have:=dd.len;rw[tQ] at this;simpa using this
 subst kb
 refine⟨u',dI,λdK CM=>?_⟩
 have je:Fits ap [] u' aa dK:=⟨dd.toFitsE,dd.len,λi cs e=>by rw[tQ] at e;simp at e,by simp,by simp,CM⟩
 refine xI (Qq ft (some l) body Z 1 _ _ ap u' eH [] aa dK je) ?_
 rintro e a2 hy ⟨_,s2,c9,Hj,⟨rfl,aM⟩,asw,Y1,_,_⟩
 exact⟨rfl,c9,aM,Y1.forget⟩
def mP.avy{P:dR}{α σ:Type}{Nx:σ->α->σ->Prop}{s0:σ}{En:σ->Prop}{src:N}{cell:σ->Obj}{t:N}{assign body:iK}{u:H}{K:N->H->Prop}{enc wH:α->ao}{fv:ao}{ub:H}(b9:ub.le u)
  (ac:∀f args w,(∃fn,P.funcs[f]?=some fn/\fn.body.isSome=ak)->(qw f args).run P w=.ok (.enter f args) w) (W:(t,fv)∈env) (M:x<n) (IB:x2<n) (ym:x≠x2)
  (iI:∀ai,ub.le ai->IterM P fv enc wH src cell Nx s0 En ai) (cU:σ->H->Prop) (h0:cU s0 u) (hle:∀i v,cU i v->ub.le v) (ra:∀i v,cU i v->v src=some (cell i))
  (LF:∀i y k7 v,Nx i y k7->cU i v->G9 P n assign body env x x2 (enc y) (wH y) (v.ins src (cell k7)) (cU k7))
  (aq:∀s v D,En s->cU s v->v D=none->K D (v.ins D (.deferred (some [])))):mP P (.rangeFunc (.tmp t) #[x,x2] assign body) n env u K:=by
 intro a w cY sL LL gH
 refine(NZ (n:=0)).1 (wpIn_rangeFunc ?_)
 intro fn _
 have fc:a.eval (.tmp t)=fv:=by simp only[Act.eval];rw[A1,sL _ W];rfl
 obtain⟨rec,mx⟩:∃rec:LoopState->Loop,rec=λst=>{state:=st,pending:=none,fn,tmps:=a.tmps,params:=#[x,x2],assign,body,defers:=w.heap.size}:=⟨_,rfl⟩
 obtain⟨iO,jE⟩:∃iO,(w.alloc (.deferred (some []))).alloc (.loop (rec .ready))=iO:=⟨_,rfl⟩
 have ah0:iO.heap.size=w.heap.size+2:=by rw[<-jE];simp
 have Lr:iO.heap[w.heap.size+1]?=some (.loop (rec .ready)):=by rw[<-jE];have:=Jv (w.alloc (.deferred (some []))) (.loop (rec .ready));rwa[C8] at this
 have Ew:iO.heap[w.heap.size]?=some (.deferred (some [])):=by rw[<-jE];exact(Below.heap_alloc _ _ _ (by simp)).trans (Jv w _)
 have hold:∀b,b<w.heap.size->iO.heap[b]?=w.heap[b]?:=λb Z=>by rw[<-jE];exact(Below.heap_alloc _ _ _ (by simp;omega)).trans (Below.heap_alloc _ _ _ Z)
 have w3:u (w.heap.size+1)=none:=gH.none (by omega)
 have yo:u w.heap.size=none:=gH.none (cg _)
 have L9:ub (w.heap.size+1)=none:=by
  cases M:ub (w.heap.size+1) with
  |none=>rfl|some z=>rw[b9 _ _ M] at w3;cases w3
 have Na:ub.le (ub.ins (w.heap.size+1) (.loop (rec .ready))):=bW _ L9
 have MZ:Sub (u.ins (w.heap.size+1) (.loop (rec .ready))) iO:=by intro b z Z;unfold H.ins at Z;split at Z;rename_i ev;subst ev;cases Z;exact Lr;have:=gH b z Z;have bC:=gH.lt Z;rw[hold b bC];exact this
 have hv:=iI _ Na (.func (.yield (w.heap.size+1)) #[] #[])
  (λi v=>∃v0,v=v0.ins (w.heap.size+1) (.loop (rec .ready))/\v0 (w.heap.size+1)=none/\v0 w.heap.size=none/\cU i v0)
  (λi v ⟨v0,aA,h1,_,aM⟩=>⟨by rw[aA];exact II (hle i v0 aM) _ _,by rw[aA,bm _ _ (λe=>by have:=ra i v0 aM;rw[e,h1] at this;cases this)];exact ra i v0 aM⟩)
  (by
   rintro i y k7 v fA ah ⟨Uc,rfl,ag6,afE,aM⟩ mr;have eg:=LF i y k7 Uc ah aM;have pI:=ra i Uc aM;have nl:src≠w.heap.size+1:=λe=>by rw[e,ag6] at pI;cases pI
   have aww:src≠w.heap.size:=λe=>by rw[e,afE] at pI;cases pI
   obtain⟨v0,IA⟩:∃v0,v0=Uc.ins src (cell k7):=⟨_,rfl⟩;rw[<-IA] at eg;have nG:v0 (w.heap.size+1)=none:=by rw[IA,bm _ _ (dv nl)];exact ag6
   have tE:v0 w.heap.size=none:=by rw[IA,bm _ _ (dv aww)];exact afE
   have apN:(Uc.ins (w.heap.size+1) (.loop (rec .ready))).ins src (cell k7)=v0.ins (w.heap.size+1) (.loop (rec .ready)):=by rw[IA];funext c;unfold H.ins;by_cases aP:c=src;by_cases aC:c=w.heap.size+1;exact a6 (aP.symm.trans aC) nl;rw[aV aP,az aC,aV aP];rw[az aP];by_cases aC:c=w.heap.size+1;rw[aV aC,aV aC];rw[az aC,az aC,az aP]
   rw[apN];refine⟨_,rfl,λbN hB=>?_⟩;have w0:bN.heap[w.heap.size+1]?=some (.loop (rec .ready)):=hB _ _ (bf _ _ _);have bC:w.heap.size+1<bN.heap.size:=(xE.1 w0).1;have mV:(Instr.yield (w.heap.size+1) #[enc y,wH y]).run P bN=.ok (.round (w.heap.size+1) fn ((a.tmps.setIfInBounds x (enc y)).setIfInBounds x2 (wH y)) assign body) bN:=by have:=run_yield (P:=P) (args:=#[enc y,wH y]) w0 (by rw[mx];rfl);rw[mx] at this;simpa using this
   have M0:Sub v0 bN:=hB.mono (bW _ nG);refine⟨fn,_,assign,body,mV,aaW trivial ?_⟩;refine xI (eg (w.heap.size+1) _ bN ?_ ?_ ?_ ?_ rfl M0) ?_;simpa using cY;intro p ad Fa aue;show((a.tmps.setIfInBounds x (enc y)).setIfInBounds x2 (wH y))[p.1]?=_;rw[Ge (dv aue),Ge (dv Fa)];exact sL p ad;show((a.tmps.setIfInBounds x (enc y)).setIfInBounds x2 (wH y))[x]?=_;rw[Ge (dv ym),S7];simp[cY,M];show((a.tmps.setIfInBounds x (enc y)).setIfInBounds x2 (wH y))[x2]?=_;rw[S7];simp[cY,IB];intro e aa fu ad;cases e with
   |normal=>
    obtain⟨v1,eb,Z⟩:=ad;have Cw:fu.heap[w.heap.size+1]?=some (.loop (rec .ready)):=(eb.rest _ bC nG (by simp)).trans w0;have w2:w.heap.size+1<fu.heap.size:=(xE.1 Cw).1;have gi:v1 (w.heap.size+1)=none:=eb.jg _ bC nG;have z8:v1 w.heap.size=none:=eb.jg _ (by omega) tE;refine⟨_,run_beginRound Cw (by rw[mx]),xI (Z _ ?_) ?_⟩;intro b z gz;have al:b≠w.heap.size+1:=λe=>by rw[e,gi] at gz;cases gz
    exact(l2 al).trans (eb.sub b z gz);rintro e a2 hy ⟨rfl,v2,q2,dE⟩;have L8:(fu.putObj (w.heap.size+1) (.loop {rec .ready with state:=.busy})).heap[w.heap.size+1]?=some (.loop {rec .ready with state:=.busy}):=F9 w2;have sO:hy.heap[w.heap.size+1]?=some (.loop {rec .ready with state:=.busy}):=(dE.rest _ (by simpa using w2) gi (by simp)).trans L8;have Mc:w.heap.size+1<hy.heap.size:=(xE.1 sO).1;have hN:v2 (w.heap.size+1)=none:=dE.jg _ (by simpa using w2) gi;have pB:=run_endRound (P:=P) none sO;have K1:({{rec .ready with state:=S8} with state:=if(none:ay iK).isNone then .ready else .done,pending:=none}:Loop)=rec .ready:=by rw[mx];rfl
    rw[K1] at pB;refine⟨_,_,pB,.bool ak,v2.ins (w.heap.size+1) (.loop (rec .ready)),rfl,⟨[.bool ak],.cons (t:=.bool) ak .nil,rfl,?_⟩,?_⟩;exact mr _ ⟨v2,rfl,hN,dE.jg _ (by have:=eb.size;simp;omega) z8,q2⟩;refine⟨λb z gz=>?_,dE.os.trans eb.os,dE.tape.trans eb.tape,dE.output.trans eb.output,jv eb.drawn dE.drawn,?_,λb Z e7 _=>?_,λb Z e7=>?_,[],by simp,by simp⟩;unfold H.ins at gz;split at gz;rename_i ev;subst ev;cases gz;exact F9 Mc;rename_i ev;rw[l2 ev];exact dE.sub b z gz;have h1:=eb.size;have h2:=dE.size;simp at h2 ⊢;omega;have al:b≠w.heap.size+1:=λe=>by rw[e,bf] at e7;cases e7
    rw[bm _ _ al] at e7;have ii:b<fu.heap.size:=Jd Z eb.size;rw[l2 al,dE.rest b (by simpa using ii) (eb.jg b Z e7) (by simp),l2 al];exact eb.rest b Z e7 (by simp);have al:b≠w.heap.size+1:=λe=>by rw[e,bf] at e7;cases e7
    rw[bm _ _ al] at e7 ⊢;exact dE.jg b (by have:=eb.size;simp;omega) (eb.jg b Z e7)
   |_=>exact ad.elim)
  _ (λcm=>∃v0,cm=v0.ins (w.heap.size+1) (.loop (rec .ready))/\v0 (w.heap.size+1)=none/\v0 w.heap.size=none/\∃s,En s/\cU s v0) ⟨u,rfl,w3,yo,h0⟩ (λs _ ag ⟨v0,a,b,c,d⟩=>⟨v0,a,b,c,s,ag,d⟩)
 obtain⟨wK,Ce,cap,EL,wO,hv⟩:=hv
 rw[EL] at fc
 refine⟨w.heap.size+1,[{target:=.collected w.heap.size,args:=#[]}],iO,{target:=.fn (.func wK) cap,args:=Ce++ #[.func (.yield (w.heap.size+1)) #[] #[]]},iO,wK,
  Ce++ #[.func (.yield (w.heap.size+1)) #[] #[]]++cap,iO,?_,?_,λ_ _=>trivial,?_,λh=>by simp[uy] at h,?_⟩
 rw[<-jE,mx];exact aaX _ _ _ _ _
 simp only[resolve,fc]
 simp[go_sem]
 simp[invoke,go_sem,ac wK _ _ wO]
 refine NY.2 ((hv iO MZ).mono ?_)
 rintro e hy ⟨v,u',rfl,⟨vs,hk,rfl,I⟩,ag⟩
 cases hk
 obtain⟨v0,rfl,nG,tE,s,Fh,aM⟩:∃v0:H,u'=v0.ins (w.heap.size+1) (.loop (rec .ready))/\v0 (w.heap.size+1)=none/\v0 w.heap.size=none/\∃s,En s/\cU s v0:=I
 have sO:hy.heap[w.heap.size+1]?=some (.loop (rec .ready)):=ag.sub _ _ (bf _ _ _)
 have Lm:hy.heap[w.heap.size]?=some (.deferred (some [])):=by rw[ag.rest _ (by omega) (by rw[bm _ _ (by omega)];exact yo) (by simp)];exact Ew
 have pB:(Instr.endLoop (w.heap.size+1)).run P hy=.ok none (hy.putObj (w.heap.size+1) (.loop {rec .ready with state:=.exhausted})):=by have:=run_endLoop (P:=P) sO (by rw[mx];simp);rw[this];rw[mx]
 refine⟨none,_,pB,rfl,rfl,w.heap.size,_,?_,aq s v0 w.heap.size Fh aM tE,?_⟩
 simp[LL,KK]
 have tX:=ag.size
 refine⟨λb z gz=>?_,?_,?_,?_,?_,by simp;omega,λb Z e7 _=>?_,λb Z e7=>?_,[],by simp,by simp⟩
 unfold H.ins at gz
 split at gz
 rename_i ev;subst ev;cases gz
 rw[l2 (by omega)];exact Lm
 have al:b≠w.heap.size+1:=λe=>by rw[e,nG] at gz;cases gz
 rw[l2 al]
 exact ag.sub b z (by rw[bm _ _ al];exact gz)
 exact ag.os.trans (by rw[<-jE];rfl)
 exact ag.tape.trans (by rw[<-jE];rfl)
 exact ag.output.trans (by rw[<-jE];rfl)
 exact jv (by rw[<-jE];exact cg _) ag.drawn
 have al:b≠w.heap.size+1:=by omega
 rw[l2 al,ag.rest b (by omega) (by rw[bm _ _ al];exact e7) (by simp)]
 exact hold b Z
 have al:b≠w.heap.size+1:=by omega
 have:=ag.jg b (by omega) (by rw[bm _ _ al];exact e7)
 rw[bm _ _ al] at this
 rw[bm _ _ (by omega)];exact this
def mP.aph{P:dR}{c:iK}{t:N}{u:H}{K:N->H->Prop}(I:c=.rangeFunc (.tmp t) #[x,x2] (zf c) (zg c))(h:mP P (.rangeFunc (.tmp t) #[x,x2] (zf c) (zg c)) n env u K):mP P c n env u K:=by rw[I];exact h
end
def kj(st:o):o:=bR.wrap (st+11400714819323198485)
def ur(x:o):o:=
 bits .xor .u64 (bR.wrap (bits .xor .u64 (bR.wrap (bits .xor .u64 x (er x (2 ^ 30))*13787848793156543929)) (er (bR.wrap (bits .xor .u64 x (er x (2 ^ 30))*13787848793156543929)) (2 ^ 27))*10723151780598845931))
  (er (bR.wrap (bits .xor .u64 (bR.wrap (bits .xor .u64 x (er x (2 ^ 30))*13787848793156543929)) (er (bR.wrap (bits .xor .u64 x (er x (2 ^ 30))*13787848793156543929)) (2 ^ 27))*10723151780598845931)) (2 ^ 31))
def aos(op:BinOp)(x y:o):dn (bits op .u64 x y):=by have:=wf_bits op .u64 x y;simp[Lit.wf,Gn,Gp,F4,F5] at this;unfold dn;omega
def aEB(x:o):dn (bR.wrap x):=by have:=wf_wrap .u64 x;simp[Lit.wf,Gn,Gp,F4,F5] at this;unfold dn;omega
def ajv(x:o):dn (ur x):=aos _ _ _
def aGo(x:o):dn (kj x):=aEB _
def ad3{x n:o}(M:dn x)(h1:1<=n)(h2:n<=1000000000):bR.wrap n≠0/\ci.wrap (nh x (bR.wrap n))=x%n:=by have aP:bR.wrap n=n:=S4 n (by omega);have aC:nh x n=x%n:=ajQ M.1;have h3:=Od x (show n≠0 by omega);have a7:=Oe x (show 0<n by omega);rw[aP,aC];exact⟨by omega,IntWalk.i64_in _ (by omega)⟩
def alk{src:N}{st:o}{u:H}{K:o->H->Prop}(h:u src=some (.cells #[.int .u64 st] 215 (0,0)))
  (aq:K (ur (kj st)) (u.ins src (.cells #[.int .u64 (kj st)] 215 (0,0)))):G2 (some ⟨src,0,none⟩) u K:=by
 apply amH
 exact⟨λh=>(by cases h),λ_=>⟨_,rfl,st,a1 h 0,_,rfl,GK h (by simp[cF]) ⟨_,rfl,_,a1 (bf _ _ _) 0,by omega,by omega,by omega,aq⟩⟩⟩
def azE{src:N}{st n:o}{u:H}{K:o->o->H->Prop}(h:u src=some (.cells #[.int .u64 st] 215 (0,0)))(h1:1<=n)(h2:n<=1000000000)
  (aq:K (ur (kj st)%n) 0 (u.ins src (.cells #[.int .u64 (kj st)] 215 (0,0)))):UR (some ⟨src,0,none⟩) n u K:=by
 obtain⟨aP,aC⟩:=ad3 (ajv (kj st)) h1 h2
 apply aCZ
 apply acB
 refine⟨λh=>(by cases h),λ_=>⟨λh=>by omega,λ_=>⟨λh=>by omega,λ_=>⟨λh=>a6 rfl h,λ_=>alk h ⟨aP,?_⟩⟩⟩⟩⟩
 rw[aC]
 exact aq
def permA:N->o->J o->J o
 |0,_,l=>l|i+1,st,l=>permA i (kj st) (jA l (i+1) (ur (kj st)%((i:o)+2)).toNat)
def o7(n:N):J o:=(ox n).map λi:N=>(i:o)
def ux(st:o)(n:N):J o:=permA (n-1) st (o7 n)
def axj:∀(i:N) (st:o) (l:J o),i<l.length->(permA i st l).Perm l:=by
 intro i;induction i with
 |zero=>intro st l _;exact .refl _
 |succ i aL=>intro st l h;have h3:=Od (ur (kj st)) (show(i:o)+2≠0 by omega);have a7:=Oe (ur (kj st)) (show 0<(i:o)+2 by omega);unfold permA;exact(aL _ _ (by rw[pk];omega)).trans (DA h (by omega))
def ajD(st:o)(n:N):(ux st n).Perm (o7 n):=by
 unfold ux;cases n with
 |zero=>exact .refl _|succ n=>exact axj _ _ _ (by simp[o7])
