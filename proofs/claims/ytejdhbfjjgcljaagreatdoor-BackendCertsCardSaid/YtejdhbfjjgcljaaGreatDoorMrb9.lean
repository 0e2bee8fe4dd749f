/- Texts of mine, joined and packed by pack.py. -/
import Derived.Test.YtejdhbfjjgcljaaGreatDoorMrb8
import Derived.OpenShut
set_option linter.all false
open Go renaming Program->dT,Value->ao,Addr->bc,callFunc->qW,Code->jg
open _root_ renaming Nat->N,List->M,Option->aA,Int->o,Bool->aD,False->ed,absurd->aV
open Bool renaming true->ak,false->ax
open Go.Obj renaming cells->bj
open Go.IntKind renaming i64->bY,signed->GG,bits->GH,u64->bo,min->G1,max->G2
open Go.Fence renaming wide->u2
open Go.Instr renaming buildSlice->dI
open Go.Builtin renaming append_->ee
open Go.Addr renaming add->eu,mk->cw
open List renaming range->lz
open Go.Proofs.Tryz renaming prog->aH
open Go.Value renaming agg->cD,int->cJ,slice->ea,oneCell'->cK
open Int renaming tmod->k8,fdiv->ev,toNat->wA
open List.Perm renaming cons->j3,trans->BY
open List.Pairwise renaming nil->oZ
open Go.LoopState renaming busy->TX
set_option maxRecDepth 100000
noncomputable section
namespace Go.Proofs.YtejdhbfjjgcljaaGreatDoor
open H
namespace kW
def py{α:Type}:∀{a b:M α},a.Nodup->(∀x∈a,x∈b)->a.length<=b.length/\(b.length<=a.length->a.Perm b)
 | [],b,_,_=>⟨q0 _,λh=>by have:b=[]:=kS (by simpa using h);rw[this]⟩|x::a,b,ae,ag=>by
  obtain⟨s,t,rfl⟩:=acn (ag x (gr ..));rw[h6] at ae;have gy:∀y∈a,y∈s++t:=λy ai=>by have:=ag y (gh _ ai);rw[cM,cP] at this;rw[cM];rcases this with h|rfl|h;exact .inl h;exact aV ai ae.1;exact .inr h
  obtain⟨h1,h2⟩:=py ae.2 gy;rw[eD] at h1 h2;refine⟨by simp;omega,λap=>?_⟩;have:=h2 (by simp at ap;omega);exact(j3 x this).trans BX.symm
def zz{α β:Type}{f:α->β}:∀{l:M α},(l.map f).Nodup->l.Nodup
 | [],_=>.nil|x::l,h=>by rw[gR,h6] at h;rw[h6];exact⟨λJ=>h.1 (ie J),zz h.2⟩
def z7{aj u:H}{af:N->aA bx}{b:N}{T:aS}{K:U->H->Prop}(h:In aj u af b T)(aT:dU T)(av:∀s ls u',sb u u' s ls->(ls.map az.bL).Perm (a6 T)->(ls.Pairwise λa b=>a.id<=b.id)->K s u'):
  aez (some ⟨b,0,none⟩) u K:=by
 have gf:=aT.small
 apply aEc
 refine⟨λe=>(by cases e),λ_=>⟨_,rfl,_,a8 h.aJ.cell 3,Kt je h.aJ.map λr z O xt=>?_⟩⟩
 have iy:=bZ (u:=u) (b:=r) z O
 refine⟨λs w=>∃rw:M az,nq w r T.m (eb T.w) (rw.map λx=>(x.id,.slice x.s.a x.s.n x.s.c))/\aK u w 52 2 s (rw.flatMap cO)/\s.al≠some r/\∀x∈rw,(x.id,(x.s,x.v))∈T.w,λs _=>1000000-s.n,
  ⟨[],xt,aK.nil iy _ _,by simp[U.al],λx J=>(by cases J)⟩,?_⟩
 rintro s w ⟨rw,iK,ab,rI,k3⟩
 have dM:s.n=rw.length:=gU fM (by decide) ab.own.cI
 have k1:rw.length<=512:=by have h1:=iK.sub;have h2:=iK.CL;rw[eh] at h2;have h3:(rw.map (·.id)).length<=(T.w.map (·.1)).length:=(py h2 λx J=>by obtain⟨y,ai,rfl⟩:=bk.1 J;exact bk.2 ⟨_,k3 y ai,rfl⟩).1;rw[dj,dj] at h3;omega
 refine JC iK (λib=>?_) λp hW ad A8 p3=>?_
 have b4:eF w s rw:=⟨ab.own.cI,λx J=>((h.aJ.vec _ (k3 x J)).1).mono ab.le⟩
 have mU:(rw.map az.bL).Perm (a6 T):=by
  have b3:=iK.CL;rw[eh] at b3;have hlen:=ib.length_eq;simp only[dj,eb] at hlen;have ou:(T.w.map (·.1)).Nodup:=by rw[<-nN];exact h.aJ.r8
  have gW:∀x∈rw.map az.bL,x∈a6 T:=λx J=>by obtain⟨y,ai,rfl⟩:=bk.1 J;exact bk.2 ⟨_,k3 y ai,rfl⟩
  have tm:(rw.map az.bL).Nodup:=by have:(rw.map (·.id)).Nodup:=b3;rw[show rw.map (·.id)=(rw.map az.bL).map (·.1) by rw[eh];rfl] at this;exact zz this
  exact(py tm gW).2 (by simp[a6];omega)
 refine z8 b4 (λx J=>aT.ids _ (k3 x J)) (by omega) (λx J=>?_) λs2 ls cQ lW eJ dQ=>?_
 have mg:(x.v.length:o)=T.aq:=(aT.vec _ (k3 x J)).1
 have:=aT.hB
 omega
 exact av s2 ls cQ ⟨lW.own.weaken ab.le,λr O=>(lW.inner r O).weaken ab.le,lW.eG,lW.apart⟩ (eJ.trans mU) dQ
 obtain⟨e,he,NA⟩:=bk.1 ad
 subst NA
 refine H2 p3 ?_
 have dP:aK u (w.ins r hW) 52 2 s (rw.flatMap cO):=ab.xO O rI hW
 refine nV kk (xa e.1 e.2.1) (by decide) rfl (by simp[cK]) dP (by show s.n<_;omega) (by show(s.n+1)*_<=_;omega) λau u' bQ h5 gd eA _=>⟨⟨rw++ [⟨e.1,e.2.1,e.2.2⟩],?_,?_,λaF=>?_,λx J=>?_⟩,?_⟩
 rw[er]
 refine p3.else (λb7 ml=>gd _ _ ml λcW=>?_) λb7 ml=>gd _ _ ml rI
 have:=ab.fresh _ cW
 exact h.known T.m (by rw[h.aJ.dr];simp) this
 rw[gZ];exact bQ
 rcases eA r aF with a7|a7
 exact rI a7
 rw[bi] at a7;cases a7
 rcases cM.1 J with J|J
 exact k3 x J
 obtain rfl:=gp.1 J
 exact he
 show 1000000-au.n<1000000-s.n
 omega
def parts(X:aS):M bJ:=(X.root.map aw.bF).toList
def ad1(X:aS)(q:M o)(k bud:o):mK:=o6 q k bud (parts X)
def ix(X:aS)(q:M o)(k bud:o):M bP:=yn q k (ad1 X q k bud)
def gg(X:aS)(q:M o)(k bud:o):M o:=dS ((ad1 X q k bud).seen.map (·.1))
def jN(X:aS)(q:M o)(k bud:o):M (o×o×M o×M o×M o):=(oz (ad1 X q k bud)).map pT
def GB(X:aS):bJ.jY (parts X)=lD X:=by
 unfold parts lD;cases X.root with
 |none=>rfl|some n=>show n.bF.all++ []=_;rw[lB]
def apT:hf aH 262=ak:=by kernel_rfl
def apN:hf aH 261=ak:=by kernel_rfl
def adE:kI aH 211=some (167,1,8,[.pointer none]):=by kernel_rfl
def WR(n:N):kH aH 211 1 #[(0,.pointer (some ⟨n,0,none⟩))]=some (167,[.pointer (some ⟨n,0,none⟩)]):=by kernel_rfl
def Hc{aj u:H}{af:N->aA bx}{b:N}{T:aS}{t:U}{q:M o}{k bud:o}{K:U->U->U->o->H->Prop}(h:In aj u af b T)(aT:dU T)(kc:T.e4<=2700)(ht:Ints u t q)
  (dq:hZ q T.aq k bud≠0->K ⟨none,0,0⟩ ⟨none,0,0⟩ ⟨none,0,0⟩ (hZ q T.aq k bud) u)
  (bH:hZ q T.aq k bud=0->∀aI ss bd rest u',jW u u' aI ss bd (ix T q k bud) (gg T q k bud) rest->rest.map cn.core=jN T q k bud->K aI ss bd 0 u'):aeA (some ⟨b,0,none⟩) t k bud u K:=by
 apply aEd
 refine⟨λe=>(by cases e),λ_=>⟨_,rfl,_,a8 h.aJ.cell 0,Kv ht ⟨λan=>dq an,λhe=>?_⟩⟩⟩
 obtain⟨aB,cq,cH,fA,ga⟩:=w6.1 he
 obtain⟨_,_,qM,zk⟩:=oL aB
 have bH:=bH he
 intro fr qJ
 obtain⟨nX,aaj⟩:∃nX,nX=u.ins fr (.cells #[.slice none 0 0] 211 (0,0)):=⟨_,rfl⟩
 have lK:u.le nX:=by rw[aaj];exact bZ _ qJ
 have d4:nX fr=some (.cells #[.slice none 0 0] 211 (0,0)):=by rw[aaj];exact bi _ _ _
 rw[<-aaj]
 intro Ld bO
 have xl:(bJ.jY (parts T)).length<=100000:=by rw[GB,aT.rows.length_eq];have:=aT.small;simp[a6];omega
 have kf:∀x∈bJ.jY (parts T),(x.2.length:o)=q.length/\c8 x.2:=λx J=>by rw[GB] at J;obtain⟨e,gd,rfl⟩:=bk.1 (aT.rows.mem_iff.1 J);obtain⟨v1,v2⟩:=aT.vec e gd;exact⟨by rw[v1,qM],v2⟩
 have c0:bJ.hF (parts T)<=4000000:=by
  unfold parts;cases O:T.root with
  |none=>show 0<=_;omega|some n=>have:=aT.size n O;show n.bF.size+0<=_;rw[aw.JJ];omega
 have ZH:∀p∈parts T,gx q.length p:=λp ad=>by
  unfold parts at ad;cases O:T.root with
  |none=>rw[O] at ad;cases ad
  |some n=>
   rw[O] at ad;obtain rfl:p=n.bF:=by simpa using ad
   rw[qM];exact aT.ok n O
 have walk:∀(s:U) (ms:M N) (Y:H),u.le Y->Y.cell? ⟨fr,0,none⟩=some (.slice s.a s.n s.c)->bz Y s 1 (ms.map λn=>.pointer (some ⟨n,0,none⟩))->ms.length=(parts T).length->(∀(i:N) m p,ms[i]?=some m->(parts T)[i]?=some p->nu Y m p)->Ld Y:=by intro s ms Y aC I ag hlen ad;refine bO Y ⟨s,I,.inl ⟨_,_,_,rfl,hd apT,?_⟩⟩;refine aEh (some ⟨b,0,none⟩) s t k bud Y _ ?_;refine ac8 ag hlen ad ZH (ht.mono aC) zk cq cH fA ga c0 xl kf λaI ss bd R u' ay Fa=>bH aI ss bd R u' ?_ Fa;exact⟨ay.h.weaken aC,ay.s.weaken aC,ay.r.weaken aC,λr O=>⟨(ay.g r O).l.weaken aC,(ay.g r O).h.weaken aC,(ay.g r O).i.weaken aC⟩,ay.eG⟩
 obtain⟨JF,Dj⟩:∃JF:aA bc,JF=T.root.map λn=>⟨n.b,0,none⟩:=⟨_,rfl⟩
 have Lv:nX.cell? ((cw b 0 none).add 2)=some (.pointer JF):=by rw[Dj];exact H.le.cell lK (a8 h.aJ.cell 2)
 refine⟨_,rfl,JF,Lv,λan=>⟨_,rfl,JF,Lv,.inl ⟨_,_,_,rfl,hd apN,?_⟩⟩,λrz=>?_⟩
 cases O:T.root with
 |none=>rw[O] at Dj;exact aV Dj an
 |some n=>
  rw[O] at Dj;rw[show JF=some ⟨n.b,0,none⟩ from Dj];refine aEe (some ⟨n.b,0,none⟩) ⟨fr,0,none⟩ nX _ ⟨⟨none,0,0⟩,a8 d4 0,?_⟩;refine nV adE (WR n.b) (by decide) rfl (by simp[cK]) (aK.nil (H.le.refl nX) 167 1) (by show 0<_;omega) (by show(0+1)*_<=_;omega) λau u' bQ h5 gd _ _=>?_;have aqQ:u' fr=some (.cells #[.slice none 0 0] 211 (0,0)):=bQ.le _ _ d4;refine Hj aqQ (by simp[cK]) ?_;obtain⟨Y,aC⟩:∃Y,Y=u'.ins fr (.cells #[.slice au.a au.n au.c] 211 (0,0)):=⟨_,rfl⟩;rw[<-aC];have NJ:au.al≠some fr:=λe=>by have:=bQ.fresh fr e;rw[d4] at this;cases this
  have IB:∀c z,u' c=some z->c≠fr->Y c=some z:=λc z I an=>by rw[aC,bq _ _ an];exact I
  have anY:u.le Y:=λc z I=>IB c z (bQ.le c z (lK c z I)) λe=>by rw[e,qJ] at I;cases I
  have aq9:Y fr=some (.cells #[.slice au.a au.n au.c] 211 (0,0)):=by rw[aC];exact bi _ _ _
  obtain⟨cV,_⟩:=h.aJ.one n O;refine walk au [n.b] Y anY (a8 aq9 0) (bz.else bQ.own.cI λg z W ab=>IB g z ab λe=>NJ (by rw[W,e])) (by unfold parts;rw[O];rfl) λi m p hm ad=>?_;have hi:i=0:=by have:=(iB.1 hm).1;simpa using this
  subst hi;obtain rfl:n.b=m:=cX hm;have jx:p=n.bF:=by unfold parts at ad;rw[O] at ad;exact(cX ad).symm
  rw[jx];exact(An.part cV).mono anY
 cases O:T.root with
 |some n=>rw[O] at Dj;rw[rz] at Dj;cases Dj
 |none=>exact walk ⟨none,0,0⟩ [] nX lK (a8 d4 0) ⟨rfl,cC _,by decide,.inl rfl⟩ (by unfold parts;rw[O];rfl) λi m p hm=>by simp at hm
def PR{X:aS}(h:dU X){q:M o}{k bud:o}(hk:1<=k)(aa:0<=bud)(ar:(q.length:o)=X.aq){L:M az}(c6:(L.map az.bL).Perm (a6 X))(aL:jt L q){rest:M cn}(O:rest.map cn.core=jN X q k bud):
  Sound L q k (ix X q k bud) (gg X q k bud) rest/\((gg X q k bud).length:o)<=bud/\(((gg X q k bud).length:o)=bud∨(gg X q k bud).length=L.length∨qw q k (ix X q k bud) rest):=by
 refine ad3 aa hk (λp ad=>?_) aL ?_ O
 unfold parts at ad
 cases dz:X.root with
 |none=>rw[dz] at ad;cases ad
 |some n=>
  rw[dz] at ad;obtain rfl:p=n.bF:=by simpa using ad
  rw[ar];exact h.ok n dz
 rw[GB]
 exact c6.trans h.rows.symm
def jy(l:M az)(aq a:o):o:=if o2 l aq≠0 then o2 l aq else if a<1∨64<a then 1 else 0
structure Ej(u:H)(l:M az)(hB a:o)(u':H)(dX:N)(af:N->aA bx)(T:aS):Prop where
 is:In u u' af dX T
 ok:dU T
 rows:(a6 T).Perm (l.map az.bL)
 aq:T.aq=hB
 leaf:T.leaf=a
 e4:T.e4=0
def pf(r:az):o×(U×M o):=(r.id,(r.s,r.v))
def PO{u:H}{n:N}{d a:o}{p rU:aA bc}{m:aA N}{f:H->Prop}(h:u n=some (.cells #[.int .i64 d,.int .i64 a,.pointer p,.map m] 169 (0,0)))
  (ac:f (u.ins n (.cells #[.int .i64 d,.int .i64 a,.pointer rU,.map m] 169 (0,0)))):H.aO u (eu (cw n 0 none) 2) [.pointer rU] f:=
 ⟨_,_,h,rfl,by simp[iP],by simp[cK],ac⟩
def PH{s:U}{l:M az}{aq a:o}{u:H}{K:aA bc->o->H->Prop}(ag:eF u s l)(dq:jy l aq a≠0->K none (jy l aq a) u)
  (bH:jy l aq a=0->∀u' dX af T,Ej u l aq a u' dX af T->K (some ⟨dX,0,none⟩) 0 u'):VH s aq a u K:=by
 have bad:∀Y,jy l aq a=Y->Y≠0->K none Y u:=λY e aC=>by subst e;exact dq aC
 apply aD6
 refine Kw ag ⟨λan=>bad _ (by unfold jy;rw[a1 an]) an,λhe=>?_⟩
 have one:(a<1∨64<a)->K none 1 u:=λI=>bad 1 (by unfold jy;rw[aG (by simpa using he),a1 I]) (by decide)
 intro o9 h2
 refine⟨λh=>one (.inl h),λZ=>⟨λh=>one (.inr h),λa2=>h2 _ _ _ ?_⟩⟩
 have bH:=bH (by unfold jy;rw[aG (by simpa using he),aG (by omega)])
 clear bad one dq h2 o9
 have hC:=B0.1 he
 obtain⟨LA,LB⟩:=hC.aq
 have ais:=hC.len
 refine D4 λm qa hm iL=>?_
 have qT:=bZ (u:=u) (b:=m) qa hm
 obtain⟨jh,sr⟩:∃jh,jh=u.ins m qa:=⟨_,rfl⟩
 have M9:jh m≠none:=by rw[sr,bi];simp
 rw[<-sr] at iL qT ⊢
 intro n8 ot
 have lY:n8≠m:=λe=>by rw[e] at ot;exact M9 ot
 have vY:u n8=none:=qT.none ot
 obtain⟨l2,rG⟩:∃l2,l2=(bj #[.int .i64 aq,.int .i64 a,.pointer none,.map (some m)] 169 (0,0)):=⟨_,rfl⟩
 show r9 s (jh.ins n8 (bj #[.int .i64 aq,.int .i64 a,.pointer none,.map (some m)] 169 (0,0))) _
 rw[<-rG]
 have rP:=bZ (u:=jh) (b:=n8) l2 ot
 obtain⟨u8,pv⟩:∃u8,u8=jh.ins n8 l2:=⟨_,rfl⟩
 have ug:u8 n8=some l2:=by rw[pv];exact bi _ _ _
 rw[<-pv] at rP ⊢
 have Df:u8 m≠none:=λe=>M9 (rP.none e)
 have Bz:u.le u8:=qT.trans rP
 refine z8 (ag.mono Bz) hC.id (by omega) (λr O=>by have:=(hC.v r O).1;omega) λha ls hQ b4 ad qO=>?_
 have Iq:ls.length=l.length:=by simpa using ad.length_eq
 have A2:hp ls aq:=by refine D1 hC.aq (by omega) ?_ λp jx=>?_;rw[show ls.map (·.id)=(ls.map az.bL).map (·.1) by rw[eh];rfl,(ad.map (·.1)).nodup_iff,eh];exact hC.nodup;obtain⟨r,O,rfl⟩:=bk.1 (ad.mem_iff.1 jx);exact⟨(hC.id r O).1,(hC.id r O).2,(hC.v r O).1,(hC.v r O).2⟩
 have tu:=b4.own.le
 have agU:ha.n=ls.length:=b4.rws.len
 have Bf:ha.al≠some m:=λe=>Df (b4.own.fresh m e)
 have NL:ha.al≠some n8:=λe=>by have:=b4.own.fresh n8 e;rw[ug] at this;cases this
 have fp:∀r∈ls,r.s.al≠some m:=λr O e=>Df ((b4.inner r O).fresh m e)
 have ZR:∀r∈ls,r.s.al≠some n8:=λr O e=>by have:=(b4.inner r O).fresh n8 e;rw[ug] at this;cases this
 refine⟨λx w=>0<=x/\x<=ha.n/\fz w m (eb ((ls.take x.toNat).map pf))/\(∀c z,hQ c=some z->c≠m->w c=some z)/\w m≠none,λx _=>((ha.n:o)-x).toNat,⟨by omega,by omega,(iL.mono rP).mono tu,λc z I _=>I,λe=>Df (tu.none e)⟩,?_⟩
 rintro x w ⟨bK,dw,vW,p0,sm⟩
 have uh:w n8=some l2:=p0 _ _ (tu _ _ ug) lY
 have vL:eF w ha ls:=⟨bz.else b4.own.own.cI λg z W ab=>p0 g z ab λe=>Bf (by rw[W,e]),λr O=>bz.else (b4.inner r O).ints λg z W ab=>p0 g z ab λe=>fp r O (by rw[W,e])⟩
 refine⟨λJ=>?_,λJ=>?_⟩
 obtain⟨p,ke,r,O,bM,c1,_⟩:=vL.at bK J
 have fh:x.toNat<ls.length:=by omega
 refine⟨p,ke,⟨bK,J⟩,_,bM,_,c1,_,by rw[rG] at uh;exact a8 uh 3,?_⟩
 have an:fD (eb ((ls.take x.toNat).map pf)) r.id=none:=xh.2 λoQ=>by unfold eb at oQ;rw[eh,eh] at oQ;obtain⟨Y,aC,uR⟩:=bk.1 oQ;have aaJ:Y.id=r.id:=uR;have b3:=A2.nodup;rw[<-q2 x.toNat ls,er,fZ] at b3;refine b3.2.2 Y.id (ie aC) r.id (ie ?_) aaJ;exact dB (i:=0) (by rw[u5,T8];exact O)
 refine B3 je vW an λz FE=>⟨⟨by omega,by omega⟩,⟨by omega,by omega,?_,λc b7 I kN=>?_,by rw[bi];simp⟩,by dsimp only;omega⟩
 rw[show(x+1).toNat=x.toNat+1 by omega,gJ,O,er]
 unfold eb at FE ⊢
 rw[er]
 exact FE
 rw[bq _ _ kN];exact p0 c b7 I kN
 .rw[gY (by omega)] at vW;obtain⟨ub,ci⟩:∃ub,ub=nT w ha:=⟨_,rfl⟩;have lub:ub.le w:=by rw[ci];exact D3 _ _
  have Ny:aK ub w 52 2 ha (ls.flatMap cO):=⟨b4.own.own.le λc z I ab=>p0 c z ab λe=>Bf (by rw[I,e]),lub,λg W=>by rw[ci];unfold nT;exact a1 W⟩
  have Cg:ub n8=some l2:=by rw[ci,nU NL];exact uh
  have Bp:∀r∈ls,Ints ub r.s r.v:=λr O=>bz.else (vL.2 r O) λg z W ab=>by rw[ci,nU ((b4.eG r O).symm g W)];exact ab
  have oW:∀r∈ls,∀g,r.s.al=some g->ub g≠none/\g≠n8/\g≠m:=λr O g W=>by have aQ:g≠m:=λe=>fp r O (by rw[W,e]);refine⟨λe=>?_,λe=>ZR r O (by rw[W,e]),aQ⟩;obtain⟨z,ab⟩:=fj.1 (dL (b4.inner r O) W);rw[ci,nU ((b4.eG r O).symm g W),p0 g z ab aQ] at e;cases e
  have P3:∀c z,u c=some z->w c=some z/\ha.al≠some c:=λc z I=>⟨p0 c z (tu c z (Bz c z I)) (λe=>(by rw[e,hm] at I;cases I)),λe=>(by have:=b4.own.fresh c e;rw[Bz c z I] at this;cases this)⟩;have Eh:u.le ub:=λc z I=>by obtain⟨h1,h2⟩:=P3 c z I;rw[ci,nU h2];exact h1
  have adQ:ub m≠none:=by rw[ci,nU Bf];exact sm
  have fin:∀(root:aA aw) (o5:H),(∀c z,w c=some z->ha.al≠some c->o5 c=some z)->(∀n,root=some n->(∀x∈n.bR,hT o5 x)/\n.own.Nodup/\(∀c∈n.own,ub c=none/\o5 c≠none)/\(∀x∈n.bR,∀r∈x.1.rows,r∈ls)/\gx aq n.bF/\lH 2 n.bF/\n.bR.length+1<=2*ls.length)->
    (match root with|none=>([]:M j6)|some n=>n.bF.all).Perm (ls.map az.bL)->H.aO o5 (eu (cw n8 0 none) 2) [.pointer (root.map λn=>⟨n.b,0,none⟩)] λkE=>K (some ⟨n8,0,none⟩) 0 kE:=by
   intro root o5 f1 f2 f3
   have Ma:o5 n8=some l2:=f1 _ _ uh NL
   rw[rG] at Ma
   refine PO Ma ?_
   obtain⟨T,aT⟩:∃T:aS,T=⟨aq,a,root,m,ls.map pf,0⟩:=⟨_,rfl⟩
   obtain⟨kE,F1⟩:∃kE,kE=o5.ins n8 (.cells #[.int .i64 aq,.int .i64 a,.pointer (root.map λn=>⟨n.b,0,none⟩),.map (some m)] 169 (0,0)):=⟨_,rfl⟩
   rw[<-F1]
   have g1:∀c z,o5 c=some z->c≠n8->kE c=some z:=λc z I an=>by rw[F1,bq _ _ an];exact I
   have BH:∀n,root=some n->n8∉n.own/\m∉n.own/\∀r∈ls,∀g,r.s.al=some g->g∉n.own:=λn ae=>by obtain⟨_,_,dh,_⟩:=f2 n ae;exact⟨λe=>(by have:=(dh n8 e).1;rw[Cg] at this;cases this),λe=>adQ (dh m e).1,λr O g W e=>(oW r O g W).1 (dh g e).1⟩
   obtain⟨af,h4⟩:∃af:N->aA bx,af=λc=>open Classical in if c=n8 then some .tree else if c=m then some .map else if ∃n,root=some n/\c∈n.own then some .node else if ∃r∈ls,r.s.al=some c then some .vec else none:=⟨_,rfl⟩
   have gX:af n8=some .tree:=by rw[h4];exact a1 rfl
   have dv:af m=some .map:=by rw[h4];show(if m=n8 then _ else _)=_;rw[aG (dG lY),a1 rfl]
   have mo:∀n c,root=some n->c∈n.own->af c=some .node:=λn c ae I=>by obtain⟨aQ,aF,_⟩:=BH n ae;rw[h4];show(if c=n8 then _ else _)=_;rw[aG (λe=>aQ (by rw[<-e];exact I)),aG (λe=>aF (by rw[<-e];exact I)),a1 ⟨n,ae,I⟩]
   have rV:∀r∈ls,∀g,r.s.al=some g->af g=some .vec:=λr O g W=>by obtain⟨_,aQ,aF⟩:=oW r O g W;rw[h4];show(if g=n8 then _ else _)=_;rw[aG aQ,aG aF,aG (λ⟨n,ae,I⟩=>(BH n ae).2.2 r O g W I),a1 ⟨r,O,W⟩]
   have sA:∀c,af c≠none->c=n8∨c=m∨(∃n,root=some n/\c∈n.own)∨∃r∈ls,r.s.al=some c:=λc I=>by rw[h4] at I;by_cases aQ:c=n8;exact .inl aQ;by_cases aF:c=m;exact .inr (.inl aF);by_cases cW:∃n,root=some n/\c∈n.own;exact .inr (.inr (.inl cW));by_cases fJ:∃r∈ls,r.s.al=some c;exact .inr (.inr (.inr fJ));exact aV (by show(if c=n8 then _ else _)=_;rw[aG aQ,aG aF,aG cW,aG fJ]) I
   have P6:∀r∈ls,Ints kE r.s r.v:=λr O=>bz.else (vL.2 r O) λg z W ab=>g1 g z (f1 g z ab ((b4.eG r O).symm g W)) (oW r O g W).2.1
   have MU:a6 T=ls.map az.bL:=by rw[aT];unfold a6;rw[eh];rfl
   have L8:kE n8=some (.cells (fx T).toArray 169 (0,0)):=by rw[F1,bi,aT];rfl
   have M8:fz kE m (eb (ls.map pf)):=vW.else λz ab=>g1 m z (f1 m z ab Bf) (dG lY)
   refine bH kE n8 af T ⟨⟨⟨L8,gX,by rw[aT];exact M8,by rw[aT];exact dv,λe ku=>?_,λn ae=>?_⟩,λc z I=>?_,λc I=>?_,λc I=>?_⟩,⟨by rw[aT];exact⟨LA,LB⟩,by rw[aT];exact⟨by show 1<=a;omega,by show a<=64;omega⟩,λe ku=>?_,λe ku=>?_,by rw[aT];show(ls.map pf).length<=512;rw[dj];omega,?_,λn ae=>?_,λn ae=>(by rw[aT] at ae;exact(f2 n ae).2.2.2.2.2.1),λn ae=>?_⟩,by rw[MU];exact ad,by rw[aT],by rw[aT],by rw[aT]⟩
   rw[aT] at ku
   obtain⟨r,O,rfl⟩:=bk.1 ku
   exact⟨P6 r O,rV r O⟩
   rw[aT] at ae
   obtain⟨cV,dc,dh,fL,_⟩:=f2 n ae
   obtain⟨aQ,_,_⟩:=BH n ae
   refine⟨λx J=>(cV x J).bS (λc z I ab=>g1 c z ab λe=>aQ (by rw[<-e];exact ep.2 ⟨x,J,I⟩)) λr O=>P6 r (fL x J r O),dc,λc I=>mo n c ae I,λx J r O g W=>rV r (fL x J r O) g W⟩
   obtain⟨h1,h3⟩:=P3 c z I
   exact g1 c z (f1 c z h1 h3) λe=>by rw[e,vY] at I;cases I
   rcases sA c I with rfl|rfl|⟨n,ae,pk⟩|⟨r,O,ps⟩
   exact vY
   exact hm
   exact Eh.none ((f2 n ae).2.2.1 c pk).1
   exact Bz.none ((b4.inner r O).fresh c ps)
   rcases sA c I with rfl|rfl|⟨n,ae,pk⟩|⟨r,O,ps⟩
   rw[L8];simp
   obtain⟨_,_,a7,_⟩:=M8
   rw[a7];simp
   obtain⟨z,ab⟩:=fj.1 ((f2 n ae).2.2.1 c pk).2
   rw[g1 c z ab λe=>(BH n ae).1 (by rw[<-e];exact pk)];simp
   obtain⟨z,ab⟩:=fj.1 (dL (b4.inner r O) ps)
   obtain⟨_,aQ,aF⟩:=oW r O c ps
   rw[g1 c z (f1 c z (p0 c z ab aF) ((b4.eG r O).symm c ps)) aQ];simp
   rw[aT] at ku
   obtain⟨r,O,rfl⟩:=bk.1 ku
   exact A2.id r O
   rw[aT] at ku ⊢
   obtain⟨r,O,rfl⟩:=bk.1 ku
   exact A2.v r O
   rw[MU,aT]
   exact f3
   rw[aT] at ae ⊢
   exact(f2 n ae).2.2.2.2.1
   rw[aT] at ae ⊢
   have:=(f2 n ae).2.2.2.2.2.2
   show n.bR.length<=1100*0+2000
   omega
  rw[rG] at Cg;refine Hd (by omega) (a8 Cg 0) (a8 Cg 1) Ny Bp A2 (λeK u' k4=>?_) λan u' n I fE=>?_;exact fin none u' (λc z I _=>k4 c z I) (λn ae=>by cases ae) (by rw[eK];exact .refl _);exact fin (some n) u' (λc z dd kN=>I.ue c z dd kN) (λn' h5=>by obtain rfl:=cX h5;exact⟨I.one,I.nodup,I.out,I.rows,I.ok,fE,I.size⟩) I.all
end kW
section
variable{d:o}
def JH(aW:M ko)(n:aw):(na aW n).bF.all.Perm (n.bF.all++(jL aW n.b).flatMap λx=>x.1.rows.map az.bL):=by rw[aw.tC,aw.tC,<-gZ];exact(GC aW n).flatMap_right _
def ay9(aW:M ko)(n:aw):(na aW n).own.Perm (n.own++(jL aW n.b).flatMap λx=>x.1.dC):=by unfold aw.own;rw[<-gZ];exact(GC aW n).flatMap_right _
def ko.hE(f:ko):cn:=(bJ.mk f.h.aI f.h.bm f.h.hi f.h.cA [] []).hE []
def Xw(f:ko)(n:aw):(f.fill n).bF.hE []=f.hE:=by rw[aw.hD];rfl
def CV(f:ko)(n:aw):(f.fill n).bF.kids=(f.pre++n::f.post).map aw.bF:=by rw[aw.hD];rfl
def CU(f:ko)(n:aw)(x:j6):x∈(f.fill n).bF.all↔x∈f.h.rows.map az.bL∨(∃k∈f.pre++f.post,x∈k.bF.all)∨x∈n.bF.all:=by
 rw[bJ.all_eq,CV,cM,yF,ep];have Rs:(f.fill n).bF.rows=f.h.rows.map az.bL:=by rw[aw.hD];rfl
 rw[Rs];constructor;rintro(h|⟨p,ad,J⟩);exact .inl h;obtain⟨k,hk,rfl⟩:=bk.1 ad;rw[cM,cP] at hk;rcases hk with hk|rfl|hk;exact .inr (.inl ⟨k,iA _ hk,J⟩);exact .inr (.inr J);exact .inr (.inl ⟨k,lC _ hk,J⟩);rintro(h|⟨k,hk,J⟩|J);exact .inl h;refine .inr ⟨k.bF,ie ?_,J⟩;rw[cM,cP];rcases cM.1 hk with hk|hk;exact .inl hk;exact .inr (.inr hk);exact .inr ⟨n.bF,ie (by simp),J⟩
def arR{f:ko}{n n':aw}(h:gx d (f.fill n).bF)(bW:gx d n'.bF)(ef:∀x∈n'.bF.all,x∈n.bF.all∨mH f.hE x.2):gx d (f.fill n').bF:=by have h1:=h.jD;have h2:=h.ins;have h3:=h.kids;rw[Xw] at h1 h2;rw[CV] at h3;refine .mk (by rw[Xw];exact h1) (λx J=>?_) λk hk=>?_;rw[Xw];rcases(CU f n' x).1 J with J|J|J;exact h2 x ((CU f n x).2 (.inl J));exact h2 x ((CU f n x).2 (.inr (.inl J)));rcases ef x J with J|J;exact h2 x ((CU f n x).2 (.inr (.inr J)));exact J;rw[CV] at hk;obtain⟨Y,aC,rfl⟩:=bk.1 hk;rw[cM,cP] at aC;rcases aC with aC|rfl|aC;exact h3 _ (ie (iA _ aC));exact bW;exact h3 _ (ie (lC _ (gh _ aC)))
def JI:∀(aW:M ko) {n:aw},gx d (na aW n).bF->gx d n.bF
 | [],_,h=>h|f::aW,n,h=>by have:=JI aW (n:=f.fill n) h;have h3:=this.kids;rw[CV] at h3;exact h3 _ (ie (by simp))
def abW:∀(aW:M ko) {n n':aw},gx d (na aW n).bF->gx d n'.bF->(∀x∈n'.bF.all,x∈n.bF.all∨∀f∈aW,mH f.hE x.2)->gx d (na aW n').bF
 | [],_,_,_,bW,_=>bW|f::aW,n,n',h,bW,ef=>by refine abW aW (n:=f.fill n) (n':=f.fill n') h (arR (JI aW h) bW λx J=>(ef x J).imp id λJ=>J f (gr ..)) λx J=>?_;rcases(CU f n' x).1 J with J|J|J;exact .inl ((CU f n x).2 (.inl J));exact .inl ((CU f n x).2 (.inr (.inl J)));rcases ef x J with J|J;exact .inl ((CU f n x).2 (.inr (.inr J)));exact .inr λg W=>J g (gh _ W)
end
namespace kW
section
variable{v a:M o}
def ja(h:ey)(v:M o):ey:={h with bm:=lq h.bm v,hi:=lr h.hi v}
def Tq{i:N}(h:a.length=v.length)(hi:i<a.length):(lq a v).getD i 0=min (a.getD i 0) (v.getD i 0):=by unfold lq;rw[dm,T3,dm,dm,cy hi,cy (by omega)];show(if v[i]<a[i] then v[i] else a[i])=min a[i] v[i];split<;>omega
def Tr{i:N}(h:a.length=v.length)(hi:i<a.length):(lr a v).getD i 0=max (a.getD i 0) (v.getD i 0):=by unfold lr;rw[dm,T3,dm,dm,cy hi,cy (by omega)];show(if v[i]>a[i] then v[i] else a[i])=max a[i] v[i];split<;>omega
def ax7(h:a.length=v.length)(i:N):(lq a v).getD i 0<=a.getD i 0:=by by_cases hi:i<a.length;rw[Tq h hi];omega;have:(lq a v).length=a.length:=wU h;rw[dm,dm,iO (by omega),iO (by omega)];exact mw _
def aya(h:a.length=v.length)(i:N):a.getD i 0<=(lr a v).getD i 0:=by by_cases hi:i<a.length;rw[Tr h hi];omega;have:(lr a v).length=a.length:=wU h;rw[dm,dm,iO (by omega),iO (by omega)];exact mw _
def XI{d:o}{h:ey}{ks:M aw}(fE:h.aI=2)(ad:gx d (aw.mk h ks).bF)(aB:c8 v)(Dr:(v.length:o)=d):gx d (aw.mk (ja h v) ks).bF/\mH ((aw.mk (ja h v) ks).bF.hE []) v:=by
 have h1:=ad.jD;have h2:=ad.ins;have h3:=ad.kids;rw[aw.hD] at h1 h2 h3;obtain⟨ar,_,_,ag⟩:=h1;have gy:h.cA=0/\c8 h.bm/\c8 h.hi/\(h.bm.length:o)=d/\(h.hi.length:o)=d/\∀i:N,(i:o)<d->h.bm.getD i 0<=h.hi.getD i 0:=by rcases ag with⟨e,_⟩|⟨_,e⟩|⟨e,_⟩;have:h.aI=1:=e;omega;exact e;have:h.aI=3:=e;omega
 obtain⟨pG,oa,pQ,ga,fu,rk⟩:=gy;have ej:(lq h.bm v).length=h.bm.length:=wU (by omega);have eV:(lr h.hi v).length=h.hi.length:=wU (by omega);have en:c8 (lq h.bm v):=⟨by omega,λi hi=>by rw[Tq (by omega) (by omega)];have aQ:=oa.2 i (by omega);have aF:=aB.2 i (by omega);unfold ma at*;omega⟩
 have hW:c8 (lr h.hi v):=⟨by omega,λi hi=>by rw[Tr (by omega) (by omega)];have aQ:=pQ.2 i (by omega);have aF:=aB.2 i (by omega);unfold ma at*;omega⟩
 have aaM:mH ((aw.mk (ja h v) ks).bF.hE []) v:=by rw[aw.hD];refine⟨λ_ i eU=>?_,λe=>?_⟩;show(lq h.bm v).getD i 0<=v.getD i 0/\v.getD i 0<=(lr h.hi v).getD i 0;have aG4:i<v.length:=eU;rw[Tq (by omega) (by omega),Tr (by omega) (by omega)];omega;have:h.aI=3:=e;omega
 refine⟨?_,aaM⟩;rw[aw.hD];refine .mk ⟨ar,oZ,λx J=>(by cases J),.inr (.inl ⟨fE,pG,en,hW,by show((lq h.bm v).length:o)=d;omega,by show((lr h.hi v).length:o)=d;omega,λi hi=>?_⟩)⟩ (λx J=>?_) h3;show(lq h.bm v).getD i 0<=(lr h.hi v).getD i 0;rw[Tq (by omega) (by omega),Tr (by omega) (by omega)];have:=rk i hi;omega;have fQ:x∈(bJ.mk h.aI h.bm h.hi h.cA (h.rows.map az.bL) (ks.map aw.bF)).all:=J;obtain⟨g1,_⟩:=h2 x fQ;refine⟨λ_ i eU=>?_,λe=>?_⟩;obtain⟨iY,z2⟩:=g1 fE i eU;have ij:=ax7 (a:=h.bm) (v:=v) (by omega) i;have jF:=aya (a:=h.hi) (v:=v) (by omega) i;exact⟨Int.le_trans ij iY,Int.le_trans z2 jF⟩;have:h.aI=3:=e;omega
def ru(h:ey)(v:M o)(x:N):ey:={h with bm:=(lq h.bm v).take x++h.bm.drop x,hi:=(lr h.hi v).take x++h.hi.drop x}
def ac9{ub u:H}{h:ey}{tt:M N}{s:U}{Rest:H->Prop}(aB:Ints ub s v)(ci:ub.le u)(jn:hT u (h,tt))(b3:h.dC.Nodup)(iq:∀c∈h.dC,ub c=none)(SL:∀r∈h.rows,Ints ub r.s r.v)(h1:h.bm.length=v.length)(h2:h.hi.length=v.length)(Ig:v.length<=64)
  (b4:∀u',hT u' (ja h v,tt)->(∀c z,u c=some z->c∉h.dC->u' c=some z)->(∀c,u c≠none->u' c≠none)->Rest u'):
  ∃Wo:(o->(H->Prop)),∃aeV:(o->(H->N)),(Wo 0 u)/\(∀nZ:o,∀hs:H,(Wo nZ hs)->((nZ<(s.n:o))->∃alm:bc,(s.a=(some alm))/\((((0:o)<=nZ)/\(nZ<(s.n:o)))/\(∃Qa:o,((H.cell? hs (eu alm ((wA nZ)*1)))=(some (cJ .i64 Qa)))/\(∃aln:bc,((some (cw h.b 0 none))=(some aln))/\(∃alo:bc,((some (cw h.b 0 none))=(some alo))/\(∃sM:U,((H.cell? hs (eu aln 1))=(some (ea sM.a sM.n sM.c)))/\(∃jr:U,((H.cell? hs (eu alo 1))=(some (ea jr.a jr.n jr.c)))/\(∃alp:bc,(jr.a=(some alp))/\((((0:o)<=nZ)/\(nZ<(jr.n:o)))/\(∃ad9:o,((H.cell? hs (eu alp ((wA nZ)*1)))=(some (cJ .i64 ad9)))/\(∃alq:bc,(sM.a=(some alq))/\((((0:o)<=nZ)/\(nZ<(sM.n:o)))/\(H.aO hs (eu alq ((wA nZ)*1)) [(cJ .i64 (ite (Qa<ad9) Qa ad9))] (λ(ii:H)=>∃alr:bc,((some (cw h.b 0 none))=(some alr))/\(∃als:bc,((some (cw h.b 0 none))=(some als))/\(∃G5:U,((H.cell? ii (eu alr 2))=(some (ea G5.a G5.n G5.c)))/\(∃Po:U,((H.cell? ii (eu als 2))=(some (ea Po.a Po.n Po.c)))/\(∃alu:bc,(Po.a=(some alu))/\((((0:o)<=nZ)/\(nZ<(Po.n:o)))/\(∃aea:o,((H.cell? ii (eu alu ((wA nZ)*1)))=(some (cJ .i64 aea)))/\(∃alv:bc,(G5.a=(some alv))/\((((0:o)<=nZ)/\(nZ<(G5.n:o)))/\(H.aO ii (eu alv ((wA nZ)*1)) [(cJ .i64 (ite (Qa>aea) Qa aea))] (λ(KE:H)=>(bh (nZ+1))/\((Wo (nZ+1) KE)/\((aeV (nZ+1) KE)<(aeV nZ hs)))))))))))))))))))))))))))/\((¬(nZ<(s.n:o)))->Rest hs)):=by
 have dM:=aB.len
 have aL:∀g,(h.bp.al=some g->g∈h.dC/\g≠h.b/\h.fF.al≠some g/\h.bd.al≠some g/\h.df.al≠some g)/\(h.fF.al=some g->g∈h.dC/\g≠h.b/\h.bp.al≠some g/\h.bd.al≠some g/\h.df.al≠some g):=by
  intro g;unfold ey.dC at b3 ⊢;rw[h6] at b3;obtain⟨cV,dc⟩:=b3;rw[fZ,fZ,fZ] at dc;obtain⟨⟨⟨_,_,dh⟩,_,fL⟩,_,qb⟩:=dc;refine⟨λW=>⟨by simp[W],λe=>cV (by rw[<-e];simp[W]),λe=>dh g (by simp[W]) g (by simp[e]) rfl,λe=>fL g (by simp[W]) g (by simp[e]) rfl,λe=>qb g (by simp[W]) g (by simp[e]) rfl⟩,
   λW=>⟨by simp[W],λe=>cV (by rw[<-e];simp[W]),λe=>dh g (by simp[e]) g (by simp[W]) rfl,λe=>fL g (by simp[W]) g (by simp[e]) rfl,λe=>qb g (by simp[W]) g (by simp[e]) rfl⟩⟩
 have ej:(lq h.bm v).length=h.bm.length:=wU h1
 have eV:(lr h.hi v).length=h.hi.length:=wU h2
 refine⟨λx w=>0<=x/\x<=v.length/\hT w (ru h v x.toNat,tt)/\(∀c z,u c=some z->c∉h.dC->w c=some z)/\(∀c,u c≠none->w c≠none),λx _=>((v.length:o)-x).toNat,⟨by omega,by omega,?_,λc z I _=>I,λc I=>I⟩,?_⟩
 have:ru h v (0:o).toNat=h:=by unfold ru;simp
 rw[this];exact jn
 rintro x w ⟨bK,dw,hw,eL,j0⟩
 have k5:ub.le w:=λc z I=>eL c z (ci c z I) λe=>by rw[iq c e] at I;cases I
 refine⟨λJ=>?_,λJ=>?_⟩
 have fh:x.toNat<v.length:=by omega
 obtain⟨p,ad,HW⟩:=(aB.mono k5).at (x:=x) bK J
 have zd:=hw.bm.f.ints
 have Fp:=hw.hi.f.ints
 have aiy:(ru h v x.toNat).bm.length=v.length:=by show((lq h.bm v).take x.toNat++h.bm.drop x.toNat).length=_;rw[eD,gq,mv];omega
 have aid:(ru h v x.toNat).hi.length=v.length:=by show((lr h.hi v).take x.toNat++h.hi.drop x.toNat).length=_;rw[eD,gq,mv];omega
 have L4:(ru h v x.toNat).bm.getD x.toNat 0=h.bm.getD x.toNat 0:=Vm h1 (by omega)
 have L3:(ru h v x.toNat).hi.getD x.toNat 0=h.hi.getD x.toNat 0:=Vm h2 (by omega)
 have nl:h.bp.n=v.length:=by have lV:h.bp.n=_:=zd.len;rw[lV];exact aiy
 have e8:h.fF.n=v.length:=by have lV:h.fF.n=_:=Fp.len;rw[lV];exact aid
 obtain⟨gX,gD,cl⟩:=zd.at (x:=x) bK (by show x<(h.bp.n:o);omega)
 obtain⟨dv,eJ,HT⟩:=Fp.at (x:=x) bK (by show x<(h.fF.n:o);omega)
 have gD:h.bp.a=some gX:=gD
 have eJ:h.fF.a=some dv:=eJ
 rw[L4] at cl
 rw[L3] at HT
 have fP:w h.b=some (.cells (e2 (ru h v x.toNat)).toArray 213 (0,0)):=hw.cell
 have c1:w.cell? ((cw h.b 0 none).add 1)=some (.slice h.bp.a h.bp.n h.bp.c):=a8 fP 1
 refine⟨p,ad,⟨bK,J⟩,_,HW,_,rfl,_,rfl,h.bp,c1,h.bp,c1,gX,gD,⟨bK,by omega⟩,_,cl,gX,gD,⟨bK,by omega⟩,?_⟩
 refine aK.store (enc:=encI) od hw.bm.f (by decide) (i:=x.toNat) (by rw[aiy];exact fh) (y:=if v.getD x.toNat 0<h.bm.getD x.toNat 0 then v.getD x.toNat 0 else h.bm.getD x.toNat 0) (by simp[encI,cK]) gD λii Zt MD _=>?_
 have MD:∀c z,w c=some z->h.bp.al≠some c->ii c=some z:=MD
 have ahE:ii h.b=some (.cells (e2 (ru h v x.toNat)).toArray 213 (0,0)):=MD _ _ fP λe=>((aL h.b).1 e).2.1 rfl
 have c2:ii.cell? ((cw h.b 0 none).add 2)=some (.slice h.fF.a h.fF.n h.fF.c):=a8 ahE 2
 have aif:Own ii 3 1 h.fF ((ru h v x.toNat).hi.flatMap encI):=hw.hi.le λc z I ab=>MD c z ab λe=>((aL c).1 e).2.2.1 I
 have aqC:ii.cell? (eu dv (x.toNat*1))=some (.int .i64 (h.hi.getD x.toNat 0)):=by obtain⟨mo,rH,fc⟩:=aif.f.ints.at (x:=x) bK (by omega);rw[eJ] at rH;obtain rfl:=cX rH;rw[L3] at fc;exact fc
 refine⟨_,rfl,_,rfl,h.fF,c2,h.fF,c2,dv,eJ,⟨bK,by omega⟩,_,aqC,dv,eJ,⟨bK,by omega⟩,?_⟩
 refine aK.store (enc:=encI) od aif.f (by decide) (i:=x.toNat) (by rw[aid];exact fh) (y:=if v.getD x.toNat 0>h.hi.getD x.toNat 0 then v.getD x.toNat 0 else h.hi.getD x.toNat 0) (by simp[encI,cK]) eJ λKE Zu Ix _=>?_
 have Ix:∀c z,ii c=some z->h.fF.al≠some c->KE c=some z:=Ix
 have aF:∀c z,w c=some z->h.bp.al≠some c->h.fF.al≠some c->KE c=some z:=λc z I a b=>Ix c z (MD c z I a) b
 have el:(ru h v x.toNat).bm.set x.toNat (if v.getD x.toNat 0<h.bm.getD x.toNat 0 then v.getD x.toNat 0 else h.bm.getD x.toNat 0)=(ru h v (x+1).toNat).bm:=by rw[show(x+1).toNat=x.toNat+1 by omega];exact Vn (f:=λa x=>if x<a then x else a) h1 (by omega)
 have arn:(ru h v x.toNat).hi.set x.toNat (if v.getD x.toNat 0>h.hi.getD x.toNat 0 then v.getD x.toNat 0 else h.hi.getD x.toNat 0)=(ru h v (x+1).toNat).hi:=by rw[show(x+1).toNat=x.toNat+1 by omega];exact Vn (f:=λa x=>if x>a then x else a) h2 (by omega)
 rw[el] at Zt
 rw[arn] at Zu
 have awG:ub.le KE:=λc z I=>aF c z (k5 c z I) (λe=>by rw[iq c ((aL c).1 e).1] at I;cases I) (λe=>by rw[iq c ((aL c).2 e).1] at I;cases I)
 refine⟨⟨by omega,by omega⟩,⟨by omega,by omega,⟨?_,Zt.own.le λc z I ab=>Ix c z ab λe=>((aL c).1 I).2.2.1 e,Zu.own,hw.rws.le λc z I ab=>aF c z ab (λe=>((aL c).1 e).2.2.2.1 I) (λe=>((aL c).2 e).2.2.2.1 I),λr O=>(SL r O).mono awG,bz.else hw.lZ λg z W ab=>aF g z ab (λe=>((aL g).1 e).2.2.2.2 W) (λe=>((aL g).2 e).2.2.2.2 W)⟩,λc z I hm=>aF c z (eL c z I hm) (λe=>hm ((aL c).1 e).1) (λe=>hm ((aL c).2 e).1),λc I=>?_⟩,by dsimp only;omega⟩
 exact Ix _ _ ahE λe=>((aL h.b).2 e).2.1 rfl
 obtain⟨z,ab⟩:=fj.1 (j0 c I)
 by_cases a:h.fF.al=some c
 exact dL Zu a
 by_cases b:h.bp.al=some c
 obtain⟨b7,bQ⟩:=fj.1 (dL Zt b)
 rw[Ix c b7 bQ a];simp
 rw[aF c z ab b a];simp
 have:ru h v x.toNat=ja h v:=by unfold ru ja;rw[gY (by omega),gY (by omega),OX (by omega),OX (by omega),lB,lB]
 rw[this] at hw
 exact b4 w hw eL j0
end
end kW
section
variable{aI d:o}{ub u u':H}{v:M o}{lQ bD:N->Prop}{n0 n:aw}{aW:M ko}{h:ey}
def aw.oI{s:o}(n:aw)(h:∀x∈n.bR,x.1.aI=s):lH s n.bF:=by
 induction n using aw.ind with
 |h n aM=>rw[aw.hD];refine .mk (h (n.h,n.kids.map aw.b) (by rw[aw.iI];exact gr ..)) λk hk=>?_;obtain⟨Y,aC,rfl⟩:=bk.1 (show k∈n.kids.map aw.bF from hk);exact aM Y aC λx J=>h x (by rw[aw.iI];exact gh _ (ep.2 ⟨Y,aC,J⟩))
def aw.amg{s:o}(n:aw)(h:lH s n.bF):∀x∈n.bR,x.1.aI=s:=by
 induction n using aw.ind with
 |h n aM=>rw[aw.hD] at h;intro x J;rw[aw.iI] at J;rcases cP.1 J with rfl|J;exact h.aI;obtain⟨Y,aC,J⟩:=ep.1 J;exact aM Y aC (h.kids _ (ie aC)) x J
structure Way(aI:o)(ub u:H)(d:o)(v:M o)(lQ bD:N->Prop)(n0:aw)(aW:M ko)(n:aw):Prop where
 base:ub.le u
 one:∀x∈n.bR++jL aW n.b,hT u x
 nodup:((n.bR++jL aW n.b).flatMap λx=>x.1.dC).Nodup
 out:∀c∈(n.bR++jL aW n.b).flatMap (λx=>x.1.dC),ub c=none/\u c≠none/\lQ c
 known:∀c,ub c≠none->lQ c
 vec:∀x∈n.bR++jL aW n.b,∀r∈x.1.rows,Ints ub r.s r.v/\∀g,r.s.al=some g->bD g
 ok:gx d (na aW n).bF
 ins:∀f∈aW,mH f.hE v
 box:∀x∈n.bR++jL aW n.b,x.1.aI=aI
 all:(na aW n).bF.all.Perm n0.bF.all
 len:(na aW n).bR.length=n0.bR.length
 b:(na aW n).b=n0.b
def Way.start(base:ub.le u)(known:∀c,ub c≠none->lQ c)(one:∀x∈n.bR,hT u x)(nodup:n.own.Nodup)(out:∀c∈n.own,ub c=none/\u c≠none/\lQ c)
  (vec:∀x∈n.bR,∀r∈x.1.rows,Ints ub r.s r.v/\∀g,r.s.al=some g->bD g) (ok:gx d n.bF) (fE:lH aI n.bF):Way aI ub u d v lQ bD n [] n:=by
 have e:n.bR++jL [] n.b=n.bR:=by rw[jL,lB]
 exact⟨base,by rw[e];exact one,by rw[e];exact nodup,by rw[e];exact out,known,by rw[e];exact vec,ok,λf ac=>(by cases ac),by rw[e];exact n.amg fE,.refl _,rfl,rfl⟩
def Way.lZ{pre post:M aw}{k:aw}(w:Way aI ub u d v lQ bD n0 aW (.mk h (pre++k::post)))(hi:mH (ko.hE ⟨h,pre,post⟩) v):Way aI ub u d v lQ bD n0 (⟨h,pre,post⟩::aW) k:=by
 have ad:((aw.mk h (pre++k::post)).bR++jL aW h.b).Perm (k.bR++jL (⟨h,pre,post⟩::aW) k.b):=by rw[jL,<-mq];exact(agq ⟨h,pre,post⟩ k).append_right _
 exact⟨w.base,λx J=>w.one x (ad.mem_iff.2 J),(ad.flatMap_right _).nodup_iff.1 w.nodup,λc I=>w.out c ((ad.flatMap_right _).mem_iff.2 I),w.known,λx J=>w.vec x (ad.mem_iff.2 J),w.ok,λf ac=>by rcases cP.1 ac with rfl|ac;exact hi;exact w.ins f ac,λx J=>w.box x (ad.mem_iff.2 J),w.all,w.len,w.b⟩
def Way.head{ks:M aw}(w:Way aI ub u d v lQ bD n0 aW (.mk h ks)):
  hT u (h,ks.map aw.b)/\h.dC.Nodup/\(∀c∈h.dC,ub c=none/\u c≠none/\lQ c)/\(∀r∈h.rows,Ints ub r.s r.v/\∀g,r.s.al=some g->bD g)/\h.aI=aI:=by
 have hm:(h,ks.map aw.b)∈(aw.mk h ks).bR++jL aW (aw.mk h ks).b:=by rw[aw.bR];exact iA _ (gr ..)
 have ae:=w.nodup
 rw[aw.bR,x7,gI,fZ] at ae
 exact⟨w.one _ hm,ae.1,λc I=>w.out c (ep.2 ⟨_,hm,I⟩),w.vec _ hm,w.box _ hm⟩
def Way.else(w:Way aI ub u d v lQ bD n0 aW n)(eL:∀c z,u c=some z->lQ c->c∉n.own->u' c=some z):
  ub.le u'/\(∀x∈jL aW n.b,hT u' x)/\(∀c∈(jL aW n.b).flatMap (λx=>x.1.dC),(ub c=none/\lQ c)/\u' c≠none/\c∉n.own)/\((jL aW n.b).flatMap λx=>x.1.dC).Nodup:=by
 have ae:=w.nodup
 rw[gZ,fZ] at ae
 obtain⟨_,h2,h3⟩:=ae
 have ab:∀c∈n.own,ub c=none:=λc I=>(w.out c (by rw[gZ];exact iA _ I)).1
 have aa:ub.le u':=λc z I=>eL c z (w.base c z I) (w.known c (by rw[I];simp)) λhm=>by rw[ab c hm] at I;cases I
 have ac:∀c∈(jL aW n.b).flatMap (λx=>x.1.dC),c∉n.own:=λc I hm=>h3 c hm c I rfl
 refine⟨aa,λx J=>(w.one x (lC _ J)).bS (λc z I ab=>eL c z ab (w.out c (by rw[gZ];exact lC _ (ep.2 ⟨x,J,I⟩))).2.2 (ac c (ep.2 ⟨x,J,I⟩))) λr O=>((w.vec x (lC _ J) r O).1).mono aa,λc I=>?_,h2⟩
 obtain⟨dc,dh,fL⟩:=w.out c (by rw[gZ];exact lC _ I)
 obtain⟨z,bQ⟩:=fj.1 dh
 exact⟨⟨dc,fL⟩,by rw[eL c z bQ fL (ac c I)];simp,ac c I⟩
def Way.eX{bW:ey}{ks:M aw}(w:Way aI ub u d v lQ bD n0 aW (.mk h ks))(aa:bW.dC=h.dC)(O:bW.rows=h.rows)(ag:bW.aI=h.aI)
  (jn:hT u' (bW,ks.map aw.b)) (eL:∀c z,u c=some z->c∉h.dC->u' c=some z) (j0:∀c,u c≠none->u' c≠none) (bH:gx d (aw.mk bW ks).bF):Way aI ub u' d v lQ bD n0 aW (.mk bW ks):=by
 have qG:bW.b=h.b:=(List.cons.inj aa).1
 have ae:=w.nodup
 rw[aw.bR,x7,gI] at ae
 have fK:=(fZ.1 ae).2.2
 have sub:∀x∈aw.mQ ks++jL aW h.b,x∈(aw.mk h ks).bR++jL aW (aw.mk h ks).b:=λx J=>by rw[aw.bR,x7];exact gh _ J
 have eG:∀x∈aw.mQ ks++jL aW h.b,∀c∈x.1.dC,c∉h.dC:=λx J c I hm=>fK c hm c (ep.2 ⟨x,J,I⟩) rfl
 have ab:∀c∈h.dC,ub c=none:=λc I=>(w.head.2.2.1 c I).1
 have y2:ub.le u':=λc z I=>eL c z (w.base c z I) λhm=>by rw[ab c hm] at I;cases I
 have abr:∀x,x∈(aw.mk bW ks).bR++jL aW (aw.mk bW ks).b->x=(bW,ks.map aw.b)∨x∈aw.mQ ks++jL aW h.b:=λx J=>by rw[aw.bR,x7,show(aw.mk bW ks).b=h.b from qG] at J;exact cP.1 J
 have ags:((aw.mk bW ks).bR++jL aW (aw.mk bW ks).b).flatMap (λx=>x.1.dC)=((aw.mk h ks).bR++jL aW (aw.mk h ks).b).flatMap (λx=>x.1.dC):=by rw[aw.bR,aw.bR,x7,x7,gI,gI,show(aw.mk bW ks).b=h.b from qG,show(aw.mk h ks).b=h.b from rfl];show bW.dC++_=h.dC++_;rw[aa]
 have ef:(aw.mk bW ks).bF.all=(aw.mk h ks).bF.all:=by rw[aw.tC,aw.tC,aw.bR,aw.bR,gI,gI];show bW.rows.map az.bL++_=h.rows.map az.bL++_;rw[O]
 refine⟨y2,λx J=>?_,by rw[ags];exact w.nodup,λc I=>?_,w.known,λx J=>?_,abW aW w.ok bH λx J=>.inl (by rw[<-ef];exact J),w.ins,λx J=>?_,?_,?_,?_⟩
 rcases abr x J with rfl|J
 exact jn
 exact(w.one x (sub x J)).bS (λc z I bQ=>eL c z bQ (eG x J c I)) λr dz=>((w.vec x (sub x J) r dz).1).mono y2
 rw[ags] at I
 obtain⟨dc,dh,fL⟩:=w.out c I
 exact⟨dc,j0 c dh,fL⟩
 rcases abr x J with rfl|J
 intro r dz
 exact w.head.2.2.2.1 r (by rw[<-O];exact dz)
 exact w.vec x (sub x J)
 rcases abr x J with rfl|J
 exact ag.trans w.head.2.2.2.2
 exact w.box x (sub x J)
 refine(JH aW _).trans (.trans ?_ ((JH aW (.mk h ks)).symm.trans w.all))
 rw[ef,show(aw.mk bW ks).b=h.b from qG,show(aw.mk h ks).b=h.b from rfl]
 rw[(GC aW _).length_eq,<-w.len,(GC aW (.mk h ks)).length_eq,show(aw.mk bW ks).b=h.b from qG,show(aw.mk h ks).b=h.b from rfl]
 simp[aw.bR]
 rw[<-w.b]
 exact abV aW qG
structure Down(aI:o)(ub u':H)(d:o)(e:j6)(lQ:N->Prop)(bD:az->Prop)(n0 r:aw)(more:N):Prop where
 one:∀x∈r.bR,hT u' x
 nodup:r.own.Nodup
 own:∀c∈r.own,(ub c=none/\lQ c)/\u' c≠none
 rws:∀x∈r.bR,∀y∈x.1.rows,bD y
 all:r.bF.all.Perm (e::n0.bF.all)
 ok:gx d r.bF
 oI:lH aI r.bF
 size:r.bR.length<=n0.bR.length+more
 b:r.b=n0.b
 le:ub.le u'
def Way.down{n':aw}{id:o}{more:N}{yC:az->Prop}(w:Way aI ub u d v lQ bD n0 aW n)(aa:n'.b=n.b)(pr:∀x∈n'.bR,hT u' x)(b3:n'.own.Nodup)
  (eL:∀c z,u c=some z->lQ c->c∉n.own->u' c=some z) (oR:∀c∈n'.own,(c∈n.own∨(u c=none/\lQ c))/\u' c≠none) (hq:∀x∈n'.bR,∀y∈x.1.rows,yC y) (E4:∀y:az,(∀g,y.s.al=some g->bD g)->yC y)
  (ef:n'.bF.all.Perm ((id,v)::n.bF.all)) (bH:gx d n'.bF) (fE:lH aI n'.bF) (hm:n'.bR.length<=n.bR.length+more):Down aI ub u' d (id,v) lQ yC n0 (na aW n') more:=by
 obtain⟨h1,h2,h3,a7⟩:=w.else eL
 have ad:=GC aW n'
 have ZA:=GC aW n
 have ZG:=ay9 aW n'
 rw[aa] at ad ZG
 have axa:∀c∈n.own,ub c=none/\lQ c:=λc I=>(λY=>⟨Y.1,Y.2.2⟩) (w.out c (by rw[gZ];exact iA _ I))
 have aqN:∀c∈(jL aW n.b).flatMap (λx=>x.1.dC),u c≠none:=λc I=>(w.out c (by rw[gZ];exact lC _ I)).2.1
 refine⟨λx J=>?_,?_,λc I=>?_,λx J=>?_,?_,abW aW w.ok bH λx J=>?_,aw.oI _ λx J=>?_,?_,(abV aW aa).trans w.b,h1⟩
 rcases cM.1 (ad.mem_iff.1 J) with J|J
 exact pr x J
 exact h2 x J
 rw[ZG.nodup_iff,fZ]
 refine⟨b3,a7,λc I nC dd e=>?_⟩
 subst e
 rcases(oR c I).1 with h|h
 exact(h3 c dd).2.2 h
 exact aqN c dd h.1
 rcases cM.1 (ZG.mem_iff.1 I) with I|I
 obtain⟨cV,dc⟩:=oR c I
 exact⟨cV.elim (axa c) λh=>⟨w.base.none h.1,h.2⟩,dc⟩
 obtain⟨cV,dh,_⟩:=h3 c I
 exact⟨cV,dh⟩
 rcases cM.1 (ad.mem_iff.1 J) with J|J
 exact hq x J
 exact λy ai=>E4 y (w.vec x (lC _ J) y ai).2
 have aQ:=JH aW n'
 have aF:=(JH aW n).symm.trans w.all
 rw[aa] at aQ
 exact aQ.trans ((ef.append_right _).trans (j3 _ aF))
 rcases cP.1 (ef.mem_iff.1 J) with rfl|J
 exact .inr w.ins
 exact .inl J
 rcases cM.1 (ad.mem_iff.1 J) with J|J
 exact n'.amg fE x J
 exact w.box x (lC _ J)
 rw[<-w.len,ad.length_eq,ZA.length_eq,eD,eD]
 omega
end
namespace kW
section
variable{h:ey}{b:N}{u aj:H}{s:U}{v:M o}{d:o}
structure tT(aj u:H)(af:N->aA bx)(b:N)(T:aS)(id:o)(v:M o)(u':H)(aY:N->aA bx)(bB:aS):Prop where
 is:In aj u' aY b bB
 eX:hU u af u' aY
 ok:dU bB
 rows:(a6 bB).Perm ((id,v)::(a6 T).filter λx=>x.1 !=id)
 aq:bB.aq=T.aq
 leaf:bB.leaf=T.leaf
 e4:bB.e4<=T.e4+1
structure Ew(aU:H)(af:N->aA bx)(b:N)(T:aS)(id:o)(s:U)(v:M o)(u':H)(r:aw):Prop where
 cell:u' b=some (.cells (fx {T with root:=some r}).toArray 169 (0,0))
 map:fz u' T.m (eb (T.w++ [(id,(s,v))]))
 sv:Ints u' s v
 df:∀g,s.al=some g->aU g=none/\u' g≠none
 bS:∀c z,aU c=some z->af c=none∨af c=some .vec->u' c=some z
 kn:∀c,aU c≠none->af c≠some .node->u' c≠none
 one:∀x∈r.bR,hT u' x
 nodup:r.own.Nodup
 own:∀c∈r.own,(af c=some .node∨(aU c=none/\s.al≠some c))/\u' c≠none
 rws:∀x∈r.bR,∀y∈x.1.rows,∀g,y.s.al=some g->af g=some .vec∨s.al=some g
 all:r.bF.all.Perm ((id,v)::lD T)
 ok:gx T.aq r.bF
 oI:lH 2 r.bF
 size:r.bR.length<=1100*(T.e4+1)+2000
def Ew.acH{aU u':H}{af:N->aA bx}{T:aS}{id:o}{r:aw}(f:Ew aU af b T id s v u' r)(h:In aj aU af b T)(aT:dU T)(cm:1<=id/\id<=1000000000)(aB:(v.length:o)=T.aq/\c8 v)(ap:T.w.length<512):
  ∃aY bB,In aj u' aY b bB/\hU aU af u' aY/\dU bB/\(a6 bB).Perm ((id,v)::a6 T)/\bB.aq=T.aq/\bB.leaf=T.leaf/\bB.e4<=T.e4+1:=by
 obtain⟨bB,ez⟩:∃bB:aS,bB={T with root:=some r,w:=T.w++ [(id,(s,v))],e4:=T.e4+1}:=⟨_,rfl⟩
 obtain⟨aY,h4⟩:∃aY:N->aA bx,aY=λc=>open Classical in if c∈r.own then some .node else if s.al=some c then some .vec else if af c=some .node then none else af c:=⟨_,rfl⟩
 have cV:∀c∈r.own,aY c=some .node:=λc I=>by rw[h4];exact a1 I
 have dc:∀c,s.al=some c->aY c=some .vec:=λc I=>by
  have eg:c∉r.own:=λhm=>by rcases(f.own c hm).1 with e|e;exact h.known c (by rw[e];simp) (f.df c I).1;exact e.2 I
  rw[h4];show(if c∈r.own then _ else _)=_;rw[aG eg,a1 I]
 have dh:∀c t,af c=some t->t≠.node->aY c=some t:=λc t I ht=>by
  have hk:=h.known c (by rw[I];simp);have eg:c∉r.own:=λhm=>by rcases(f.own c hm).1 with e|e;rw[I] at e;exact ht (cX e);exact hk e.1
  have xC:s.al≠some c:=λe=>hk (f.df c e).1;rw[h4];show(if c∈r.own then _ else _)=_;rw[aG eg,aG xC,aG (by rw[I];exact λe=>ht (cX e)),I]
 have fL:∀c,aY c≠none->c∈r.own∨s.al=some c∨(af c≠none/\af c≠some .node):=λc I=>by by_cases aQ:c∈r.own;exact .inl aQ;by_cases aF:s.al=some c;exact .inr (.inl aF);by_cases cW:af c=some .node;exact aV (by rw[h4];show(if c∈r.own then _ else _)=_;rw[aG aQ,aG aF,a1 cW]) I;refine .inr (.inr ⟨λe=>I ?_,cW⟩);rw[h4];show(if c∈r.own then _ else _)=_;rw[aG aQ,aG aF,aG cW,e]
 have aJ:=h.aJ
 refine⟨aY,bB,⟨⟨by rw[ez];exact f.cell,dh _ _ aJ.dR (by simp),by rw[ez];exact f.map,by rw[ez];exact dh _ _ aJ.dr (by simp),λe he=>?_,λn ae=>?_⟩,λc z I=>?_,λc I=>?_,λc I=>?_⟩,⟨λc z I ac=>f.bS c z I (.inl ac),λc I=>?_⟩,
  ⟨by rw[ez];exact aT.hB,by rw[ez];exact aT.Bx,λe he=>?_,λe he=>?_,?_,?_,λn ae=>?_,λn ae=>?_,λn ae=>?_⟩,?_,by rw[ez],by rw[ez],by rw[ez];exact cC _⟩
 rw[ez] at he
 rcases cM.1 he with he|he
 obtain⟨v1,v2⟩:=aJ.vec e he
 exact⟨bz.else v1 λg z W ab=>f.bS g z ab (.inr (v2 g W)),λg W=>dh g _ (v2 g W) (by simp)⟩
 rw[gp.1 he]
 exact⟨f.sv,dc⟩
 rw[ez] at ae
 obtain rfl:=cX ae
 exact⟨f.one,f.nodup,cV,λx J y ai g W=>(f.rws x J y ai g W).elim (λe=>dh g _ e (by simp)) λe=>dc g e⟩
 refine f.bS c z (h.le c z I) (.inl ?_)
 cases e:af c with
 |none=>rfl
 |some t=>have:=h.out c (by rw[e];simp);rw[I] at this;cases this
 rcases fL c I with e|e|e
 rcases(f.own c e).1 with e|e
 exact h.out c (by rw[e];simp)
 exact h.le.none e.1
 exact h.le.none (f.df c e).1
 exact h.out c e.1
 rcases fL c I with e|e|e
 exact(f.own c e).2
 exact(f.df c e).2
 exact f.kn c (h.known c e.1) e.2
 rcases fL c I with e|e|e
 rcases(f.own c e).1 with e|e
 exact .inl (by rw[e];simp)
 exact .inr e.1
 exact .inr (f.df c e).1
 exact .inl e.1
 rw[ez] at he
 rcases cM.1 he with he|he
 exact aT.ids e he
 rw[gp.1 he];exact cm
 rw[ez] at he ⊢
 rcases cM.1 he with he|he
 exact aT.vec e he
 rw[gp.1 he];exact aB
 rw[ez]
 show(T.w++ [(id,(s,v))]).length<=512
 rw[eD]
 simp only[hX,oB]
 omega
 rw[ez]
 show r.bF.all.Perm ((T.w++ [(id,(s,v))]).map λe=>(e.1,e.2.2))
 rw[er]
 exact f.all.trans ((j3 _ aT.rows).trans (nc _ _).symm)
 rw[ez] at ae ⊢
 obtain rfl:=cX ae
 exact f.ok
 rw[ez] at ae
 obtain rfl:=cX ae
 exact f.oI
 rw[ez] at ae ⊢
 obtain rfl:=cX ae
 exact f.size
 rw[ez]
 show((T.w++ [(id,(s,v))]).map λe=>(e.1,e.2.2)).Perm _
 rw[er]
 exact nc _ _
def sd(h:ey):h.dC.Perm (h.bd.al.toList++(h.b::(h.bp.al.toList++h.fF.al.toList++h.df.al.toList))):=by unfold ey.dC;refine BY (j3 _ ?_) BX.symm;generalize h.bp.al.toList++h.fF.al.toList=a;generalize h.bd.al.toList=r;generalize h.df.al.toList=k;rw[mq];exact acr a r k
def WK(ae:h.dC.Nodup)(rows:M az)(ag:∀g,s.al=some g->h.bd.al=some g∨g∉h.dC):({h with bd:=s,rows:=rows}:ey).dC.Nodup:=by
 have h1:=(sd h).nodup_iff.1 ae;rw[(sd _).nodup_iff];rw[fZ] at h1 ⊢;obtain⟨_,h3,a7⟩:=h1;refine⟨?_,h3,λc I nC dd e=>?_⟩;show s.al.toList.Nodup;cases s.al<;>simp;subst e;have I:s.al=some c:=by simpa using I
 rcases ag c I with bO|bO;exact a7 c (by rw[bO];simp) c dd rfl;exact bO ((sd h).mem_iff.2 (lC _ dd))
def abd(ad:gx d (aw.mk h []).bF){id:o}{sv:U}(cb:mH ((aw.mk h []).bF.hE []) v):gx d (aw.mk {h with bd:=s,rows:=h.rows++ [⟨id,sv,v⟩]} []).bF/\(aw.mk {h with bd:=s,rows:=h.rows++ [⟨id,sv,v⟩]} []).bF.all.Perm ((id,v)::(aw.mk h []).bF.all):=by
 have aQ:(aw.mk {h with bd:=s,rows:=h.rows++ [⟨id,sv,v⟩]} []).bF.all=(aw.mk h []).bF.all++ [(id,v)]:=by rw[aw.tC,aw.tC,aw.bR,aw.bR,aw.mQ];simp[az.bL]
 have h1:=ad.jD;have h2:=ad.ins;refine⟨.mk h1 (λx J=>?_) λk hk=>(by rw[aw.hD] at hk;cases hk),by rw[aQ];exact nc _ _⟩;rw[aQ] at J;rcases cM.1 J with J|J;exact h2 x J;rw[gp.1 J];exact cb
def adw{h1 h2:ey}{p:N}(I:u p=some (.cells (e2 h1).toArray 213 (0,0))){f:H->Prop}(ac:f (u.ins p (.cells (e2 h2).toArray 213 (0,0)))):
  H.aO u (cw p 0 none) [.int .i64 h2.aI,.slice h2.bp.a h2.bp.n h2.bp.c,.slice h2.fF.a h2.fF.n h2.fF.c,.int .u64 (cZ h2.cA),.int .u64 (c5 h2.cA),.slice none 0 0,.slice h2.bd.a h2.bd.n h2.bd.c,.slice h2.df.a h2.df.n h2.df.c] f:=
 ⟨_,_,I,rfl,by simp[e2],by simp[cK],by
  have e:wr (e2 h1).toArray 0 [.int .i64 h2.aI,.slice h2.bp.a h2.bp.n h2.bp.c,.slice h2.fF.a h2.fF.n h2.fF.c,.int .u64 (cZ h2.cA),.int .u64 (c5 h2.cA),.slice none 0 0,.slice h2.bd.a h2.bd.n h2.bd.c,.slice h2.df.a h2.df.n h2.df.c]=(e2 h2).toArray:=by simp[wr,e2]
  show f (u.ins p (.cells (wr (e2 h1).toArray 0 _) _ (0,0)));rw[e];exact ac⟩
def adj{ub:H}{leaf:o}{bD:N->Prop}{n0:aw}{aW:M ko}{id:o}{sv:U}{Fin:H->Prop}(w:Way 2 ub u d v (λ_=>True) bD n0 aW (.mk h []))(A1:1<=leaf)(KC:ub.cell? ⟨b,0,none⟩=some (.int .i64 d))(q9:ub.cell? ((cw b 0 none).add 1)=some (.int .i64 leaf))
  (I6:Ints ub sv v) (hC:hp (h.rows++ [⟨id,sv,v⟩]) d) (cb:mH ((aw.mk h []).bF.hE []) v) (uw:∀u' r,Down 2 ub u' d (id,v) (λ_=>True) (λy=>∀g,y.s.al=some g->bD g∨sv.al=some g) n0 r 1100->Fin u'):
  ∃alw:bc,((some (cw h.b 0 none))=(some alw))/\(∃Kp:U,((H.cell? u (eu alw 6))=(some (ea Kp.a Kp.n Kp.c)))/\(c9 aH (dI 22 1 #[(0,(cD #[(cJ bY id),(ea sv.a sv.n sv.c)]))]) [(bf.one aE.slice)] u (λ(B2:U) (Ho:H)=>(H.le u Ho)/\(c9 aH (ee #[22,22] 22 #[(ea Kp.a Kp.n Kp.c),(ea B2.a B2.n B2.c)]) [(bf.one aE.slice)] Ho (λ(G6:U) (u64:H)=>∃Pd:bc,((some (cw h.b 0 none))=(some Pd))/\(H.aO u64 (eu Pd 6) [(ea G6.a G6.n G6.c)] (λ(hR:H)=>∃Pe:bc,((some (cw h.b 0 none))=(some Pe))/\(∃Pf:bc,((some (cw b 0 none))=(some Pf))/\(∃yh:U,((H.cell? hR (eu Pe 6))=(some (ea yh.a yh.n yh.c)))/\(∃Hu:o,((H.cell? hR (eu Pf 1))=(some (cJ bY Hu)))/\(((Hu<(yh.n:o))->∃Pg:bc,((some (cw h.b 0 none))=(some Pg))/\(∃yi:U,((H.cell? hR (eu Pg 6))=(some (ea yi.a yi.n yi.c)))/\(Hw (some (cw b 0 none)) yi hR (λ(abS:(aA bc)) (kl:H)=>∃pI:bc,(abS=(some pI))/\(∃Qb:o,((H.cell? kl pI)=(some (cJ bY Qb)))/\(∃vg:U,((H.cell? kl (eu pI 1))=(some (ea vg.a vg.n vg.c)))/\(∃vh:U,((H.cell? kl (eu pI 2))=(some (ea vh.a vh.n vh.c)))/\(∃Qc:o,((H.cell? kl (eu pI 3))=(some (cJ bo Qc)))/\(∃Qd:o,((H.cell? kl (eu pI 4))=(some (cJ bo Qd)))/\(∃vi:U,((H.cell? kl (eu pI 5))=(some (ea vi.a vi.n vi.c)))/\(∃vj:U,((H.cell? kl (eu pI 6))=(some (ea vj.a vj.n vj.c)))/\(∃q6:U,((H.cell? kl (eu pI 7))=(some (ea q6.a q6.n q6.c)))/\(∃Ph:bc,((some (cw h.b 0 none))=(some Ph))/\(H.aO kl Ph [(cJ bY Qb),(ea vg.a vg.n vg.c),(ea vh.a vh.n vh.c),(cJ bo Qc),(cJ bo Qd),(ea vi.a vi.n vi.c),(ea vj.a vj.n vj.c),(ea q6.a q6.n q6.c)] (λ(oK:H)=>Fin oK)))))))))))))))/\((¬(Hu<(yh.n:o)))->Fin hR)))))))))))):=by
 obtain⟨jn,b3,iq,lo,fE⟩:=w.head
 obtain⟨h1,Fm⟩:∃h1:ey,h1=h:=⟨_,rfl⟩
 have fP:u h.b=some (.cells (e2 h).toArray 213 (0,0)):=jn.cell
 have hO:aK ub u 52 2 h.bd (h.rows.flatMap cO):=⟨jn.rws,w.base,λg W=>(iq g (by simp[ey.dC,W])).1⟩
 have dM:h.bd.n=h.rows.length:=gU fM (by decide) hO.own.cI
 have k1:=hC.len
 rw[eD] at k1
 simp only[hX,oB] at k1
 have aL:h.bd.al≠some h.b:=λe=>by have h1:=(sd h).nodup_iff.1 b3;rw[fZ] at h1;exact h1.2.2 h.b (by rw[e];simp) h.b (gr ..) rfl
 have FQ:∀g,(h.bp.al=some g∨h.fF.al=some g∨h.df.al=some g)->g∈h.dC/\g≠h.b/\h.bd.al≠some g:=λg W=>by
  have h1:=(sd h).nodup_iff.1 b3;rw[fZ] at h1;have h2:g∈h.bp.al.toList++h.fF.al.toList++h.df.al.toList:=by rw[cM,cM];rcases W with e|e|e;exact .inl (.inl (by rw[e];simp));exact .inl (.inr (by rw[e];simp));exact .inr (by rw[e];simp)
  exact⟨(sd h).mem_iff.2 (lC _ (gh _ h2)),λe=>(h6.1 h1.2.1).1 (by rw[<-e];exact h2),λe=>h1.2.2 g (by rw[e];simp) g (gh _ h2) rfl⟩
 refine⟨_,rfl,h.bd,a8 fP 6,?_⟩
 refine z1 kk (xa id sv) (by decide) rfl (by simp[cK]) hO (by omega) (by rw[dM];show(h.rows.length+1)*_<=_;omega) λau u64 bQ h5 gd eA _=>?_
 have bQ:aK ub u64 52 2 au ((h.rows++ [(⟨id,sv,v⟩:az)]).flatMap cO):=by rw[gZ];exact bQ
 have so:au.al≠some h.b:=λe=>by rcases eA _ e with e|e;exact aL e;rw[fP] at e;cases e
 have Yy:u64 h.b=some (.cells (e2 h).toArray 213 (0,0)):=gd _ _ fP aL
 refine⟨_,rfl,US Yy au (h.rows++ [⟨id,sv,v⟩]) ?_⟩
 obtain⟨g1,iJ⟩:∃g1:ey,g1={h with bd:=au,rows:=h.rows++ [⟨id,sv,v⟩]}:=⟨_,rfl⟩
 have LX:g1.b=h.b:=by rw[iJ]
 rw[<-iJ]
 obtain⟨hR,F2⟩:∃hR,hR=u64.ins h.b (.cells (e2 g1).toArray 213 (0,0)):=⟨_,rfl⟩
 rw[<-F2]
 have xb:hR h.b=some (.cells (e2 g1).toArray 213 (0,0)):=by rw[F2];exact bi _ _ _
 have f66:∀c z,u64 c=some z->c≠h.b->hR c=some z:=λc z I an=>by rw[F2,bq _ _ an];exact I
 have EN:∀c z,u c=some z->c≠h.b->h.bd.al≠some c->hR c=some z:=λc z I h2 h3=>f66 c z (gd c z I h3) h2
 have wj:h.b∈h.dC:=gr ..
 have xT:∀{g},h.bd.al=some g->g∈h.dC:=λ{g} e=>by simp[ey.dC,e]
 have xe:∀c z,u c=some z->c∉h.dC->hR c=some z:=λc z I hm=>EN c z I (λe=>hm (by rw[e];exact wj)) λe=>hm (xT e)
 have Bm:ub.le hR:=λc z I=>xe c z (w.base c z I) λhm=>by rw[(iq c hm).1] at I;cases I
 have GA:aK ub hR 52 2 au ((h.rows++ [(⟨id,sv,v⟩:az)]).flatMap cO):=⟨bQ.own.le λc z I ab=>f66 c z ab λe=>so (by rw[<-e];exact I),Bm,bQ.fresh⟩
 have Ls:hR.cell? ((cw h.b 0 none).add 6)=some (.slice au.a au.n au.c):=by
  have:g1.bd=au:=by rw[iJ]
  have lV:hR.cell? ((cw h.b 0 none).add 6)=some (.slice g1.bd.a g1.bd.n g1.bd.c):=a8 xb 6;rw[this] at lV;exact lV
 have sy:(aw.mk h []).own=h.dC:=by unfold aw.own;rw[aw.bR,aw.mQ];simp
 have su:∀r∈h.rows++ [(⟨id,sv,v⟩:az)],Ints ub r.s r.v/\∀g,r.s.al=some g->bD g∨sv.al=some g:=λr O=>by rcases cM.1 O with O|O;exact⟨(lo r O).1,λg W=>.inl ((lo r O).2 g W)⟩;rw[gp.1 O];exact⟨I6,λg W=>.inr W⟩
 refine⟨_,rfl,_,rfl,au,Ls,leaf,H.le.cell Bm q9,λ_=>?_,λ_=>?_⟩
 obtain⟨nj,oV⟩:∃nj,nj=nT hR au:=⟨_,rfl⟩
 have BA:ub.le nj:=λc z I=>by rw[oV,nU (λe=>by rw[bQ.fresh c e] at I;cases I)];exact Bm c z I
 refine⟨_,rfl,au,Ls,Hd (ub:=nj) A1 (H.le.cell BA KC) (H.le.cell BA q9) ⟨GA.own,by rw[oV];exact D3 _ _,λg W=>by rw[oV];exact a1 W⟩ (λr O=>((su r O).1).mono BA) hC (λe=>aV e (by simp)) λ_ kl ek I ZX=>?_⟩
 obtain⟨b5,dN⟩:=ek
 have pr:=I.one (b5,dN.map aw.b) (by rw[aw.bR];exact gr ..)
 have lX:kl b5.b=some (.cells (e2 b5).toArray 213 (0,0)):=pr.cell
 refine⟨_,rfl,_,a8 lX 0,b5.bp,a8 lX 1,b5.fF,a8 lX 2,_,a8 lX 3,_,a8 lX 4,⟨none,0,0⟩,a8 lX 5,b5.bd,a8 lX 6,b5.df,a8 lX 7,_,rfl,?_⟩
 have WW:kl h.b=some (.cells (e2 g1).toArray 213 (0,0)):=I.ue _ _ xb so
 refine adw (h2:=b5) WW ?_
 obtain⟨g2,hh⟩:∃g2:ey,g2={b5 with b:=h.b}:=⟨_,rfl⟩
 have Xm:e2 b5=e2 g2:=by rw[hh];rfl
 rw[Xm]
 obtain⟨oK,Bl⟩:∃oK,oK=kl.ins h.b (.cells (e2 g2).toArray 213 (0,0)):=⟨_,rfl⟩
 rw[<-Bl]
 have rn:∀c z,kl c=some z->c≠h.b->oK c=some z:=λc z dd an=>by rw[Bl,bq _ _ an];exact dd
 have A4:h.b∉(aw.mk b5 dN).own:=λhm=>by have:=(I.out _ hm).1;rw[oV,nU so,xb] at this;cases this
 have BG:(aw.mk b5 dN).own=b5.b::((b5.bp.al.toList++b5.fF.al.toList++b5.bd.al.toList++b5.df.al.toList)++dN.flatMap aw.own):=by rw[aw.rT];rfl
 have OJ:(aw.mk g2 dN).own=h.b::((b5.bp.al.toList++b5.fF.al.toList++b5.bd.al.toList++b5.df.al.toList)++dN.flatMap aw.own):=by rw[aw.rT,hh];rfl
 have Fb:(aw.mk g2 dN).bR=(g2,dN.map aw.b)::aw.mQ dN:=by rw[aw.bR]
 have xp:(aw.mk b5 dN).bR=(b5,dN.map aw.b)::aw.mQ dN:=by rw[aw.bR]
 have DG:(aw.mk g2 dN).bF=(aw.mk b5 dN).bF:=by rw[aw.hD,aw.hD,hh];rfl
 have ou:=I.nodup
 have adA:∀c∈(aw.mk g2 dN).own,c=h.b∨c∈(aw.mk b5 dN).own:=λc cL=>by rw[OJ] at cL;rcases cP.1 cL with e|e;exact .inl e;exact .inr (by rw[BG];exact gh _ e)
 have LJ:∀c z,u c=some z->c∉(aw.mk h []).own->oK c=some z:=λc z dd hm=>by rw[sy] at hm;refine rn c z (I.ue c z (xe c z dd hm) λe=>?_) λe=>hm (by rw[e];exact wj);rcases eA c e with e|e;exact hm (xT e);rw[dd] at e;cases e
 have N1:ub.le oK:=λc z dd=>LJ c z (w.base c z dd) λhm=>by rw[sy] at hm;rw[(iq c hm).1] at dd;cases dd
 have aa0:∀{x:ey×M N},hT kl x->(∀c∈x.1.dC,c≠h.b)->(∀r∈x.1.rows,r∈h.rows++ [(⟨id,sv,v⟩:az)])->hT oK x:=λJ aa O=>J.bS (λc z cL ab=>rn c z ab (aa c cL)) λr fp=>((su r (O r fp)).1).mono N1
 refine uw oK _ (Way.down w (n':=.mk g2 dN) (by rw[show(aw.mk g2 dN).b=g2.b from rfl,hh];rfl) (λx J=>?_) ?_ (λc z dd _ hm=>LJ c z dd hm) (λc cL=>?_) (λx J y ai=>?_) (λy ai g W=>.inl (ai g W)) ?_ (by rw[DG];exact I.ok) (by rw[DG];exact ZX) ?_)
 rw[Fb] at J
 rcases cP.1 J with rfl|J
 have aC:∀g,(b5.bp.al=some g∨b5.fF.al=some g∨b5.bd.al=some g∨b5.df.al=some g)->g≠h.b:=λg W e=>A4 (by rw[BG,<-e];refine gh _ (iA _ ?_);rw[cM,cM,cM];rcases W with e|e|e|e;exact .inl (.inl (.inl (by rw[e];simp)));exact .inl (.inl (.inr (by rw[e];simp)));exact .inl (.inr (by rw[e];simp));exact .inr (by rw[e];simp))
 have FT:∀r∈b5.rows,r∈h.rows++ [(⟨id,sv,v⟩:az)]:=λr O=>I.rows (b5,dN.map aw.b) (by rw[xp];exact gr ..) r O
 rw[hh]
 refine⟨?_,pr.bm.le λc z kr ab=>rn c z ab (aC c (.inl kr)),pr.hi.le λc z kr ab=>rn c z ab (aC c (.inr (.inl kr))),pr.rws.le λc z kr ab=>rn c z ab (aC c (.inr (.inr (.inl kr)))),λr O=>((su r (FT r O)).1).mono N1,bz.else pr.lZ λc z kr ab=>rn c z ab (aC c (.inr (.inr (.inr kr))))⟩
 show oK h.b=_
 rw[Bl,bi,hh]
 have fQ:x∈(aw.mk b5 dN).bR:=by rw[xp];exact gh _ J
 exact aa0 (I.one x fQ) (λc cL e=>A4 (by rw[<-e];exact ep.2 ⟨x,fQ,cL⟩)) (I.rows x fQ)
 rw[OJ,h6]
 rw[BG,h6] at ou
 exact⟨λhm=>A4 (by rw[BG];exact gh _ hm),ou.2⟩
 rcases adA c cL with rfl|cL
 exact⟨.inl (by rw[sy];exact wj),by rw[Bl,bi];simp⟩
 obtain⟨cV,dc⟩:=I.out c cL
 refine⟨?_,?_⟩
 by_cases e:au.al=some c
 rcases eA c e with e|e
 exact .inl (by rw[sy];exact xT e)
 exact .inr ⟨e,trivial⟩
 rw[oV,nU e] at cV
 cases J:u c with
 |none=>exact .inr ⟨rfl,trivial⟩
 |some z=>left;rw[sy];by_cases hm:c∈h.dC;exact hm;rw[xe c z J hm] at cV;cases cV
 obtain⟨z,ab⟩:=fj.1 dc
 rw[rn c z ab (λe=>A4 (by rw[<-e];exact cL))];simp
 rw[Fb] at J
 rcases cP.1 J with rfl|J
 exact(su y (I.rows (b5,dN.map aw.b) (by rw[xp];exact gr ..) y (by rw[hh] at ai;exact ai))).2
 exact(su y (I.rows x (by rw[xp];exact gh _ J) y ai)).2
 rw[DG]
 refine I.all.trans ?_
 rw[er,aw.tC,aw.bR,aw.mQ]
 simp only[gI,GZ,lB]
 exact nc _ _
 have:=I.size
 rw[xp] at this
 rw[Fb]
 rw[eD] at this
 simp only[hX,oB] at this ⊢
 omega
 have ap:=abd (id:=id) (sv:=sv) (s:=au) (JI aW w.ok) cb
 rw[<-iJ] at ap
 have OB:(aw.mk g1 []).own=g1.dC:=by unfold aw.own;rw[aw.bR,aw.mQ];simp
 have Gu:(aw.mk g1 []).bR=[(g1,[])]:=by rw[aw.bR,aw.mQ];rfl
 have abq:∀c∈g1.dC,c=h.b∨(h.bp.al=some c∨h.fF.al=some c∨h.df.al=some c)∨au.al=some c:=λc I=>by rw[iJ] at I;have I:=(sd _).mem_iff.1 I;rcases cM.1 I with I|I;exact .inr (.inr (by simpa using I));rcases cP.1 I with I|I;exact .inl I;rw[cM,cM] at I;rcases I with(I|I)|I;exact .inr (.inl (.inl (by simpa using I)));exact .inr (.inl (.inr (.inl (by simpa using I))));exact .inr (.inl (.inr (.inr (by simpa using I))))
 refine uw hR _ (Way.down w (n':=.mk g1 []) LX (λx J=>?_) ?_ (λc z I _ hm=>xe c z I (by rw[<-sy];exact hm)) (λc I=>?_) (λx J y ai=>?_) (λy ai g W=>.inl (ai g W)) ap.2 ap.1 ?_ (by rw[Gu];show 1<=_;have:=(aw.mk h []).Se;omega))
 rw[Gu,gp] at J
 subst J
 have cq:∀{s:U} {c:N} {z:Obj},(h.bp.al=some c∨h.fF.al=some c∨h.df.al=some c)->u c=some z->hR c=some z:=λ{s c z} I ab=>EN c z ab (FQ c I).2.1 (FQ c I).2.2
 refine⟨by show hR g1.b=_;rw[LX];exact xb,?_,?_,?_,λr O=>?_,?_⟩
 rw[iJ];exact jn.bm.le λc z I ab=>cq (s:=h.bp) (.inl I) ab
 rw[iJ];exact jn.hi.le λc z I ab=>cq (s:=h.bp) (.inr (.inl I)) ab
 rw[iJ];exact GA.own
 rw[iJ] at O;exact((su r O).1).mono Bm
 rw[iJ];exact bz.else jn.lZ λc z I ab=>cq (s:=h.bp) (.inr (.inr I)) ab
 rw[OB,iJ]
 refine WK b3 _ λg W=>(eA g W).imp (λe=>e) λe hm=>(iq g hm).2.1 e
 rw[OB] at I
 rw[sy]
 rcases abq c I with rfl|I|I
 exact⟨.inl wj,by rw[xb];simp⟩
 obtain⟨cV,dc,dh⟩:=FQ c I
 obtain⟨z,ab⟩:=fj.1 (iq c cV).2.1
 exact⟨.inl cV,by rw[EN c z ab dc dh];simp⟩
 exact⟨(eA c I).imp xT (λe=>⟨e,trivial⟩),dL GA I⟩
 rw[Gu,gp] at J
 subst J
 exact(su y (by rw[iJ] at ai;exact ai)).2
 rw[aw.hD]
 refine .mk ?_ λk hk=>(by cases hk)
 show g1.aI=2
 rw[iJ]
 exact fE
structure Wm(aj u:H)(af:N->aA bx)(b:N)(T:aS)(id:o)(u':H)(aY:N->aA bx)(bB:aS):Prop where
 is:In aj u' aY b bB
 eX:hU u af u' aY
 ok:dU bB
 rows:a6 bB=(a6 T).filter λx=>x.1 !=id
 aq:bB.aq=T.aq
 leaf:bB.leaf=T.leaf
 e4:bB.e4=T.e4
 no:id∉bB.w.map (·.1)
 vH:bB.w.length<512
def ac5{af:N->aA bx}{T:aS}{id:o}{K:aD->o->H->Prop}(h:In aj u af b T)(aT:dU T)(kc:T.e4<=4000)(uv:id∉T.w.map (·.1)->T.w.length<512)
  (av:∀dp u' aY bB,Wm aj u af b T id u' aY bB->K dp 0 u'):Qq (some ⟨b,0,none⟩) id u K:=by
 refine wH h aT kc (λeg aU hj=>av _ aU af T ⟨h.mono bS hj,hU.mono hj,aT,?_,rfl,rfl,rfl,eg,uv eg⟩) λcb aU c4 bb O=>av _ aU c4 bb ⟨O.is,O.eX,O.ok,O.rows,O.aq,O.leaf,O.e4,?_,?_⟩
 refine(r6.2 λx J=>?_).symm
 have:x.1≠id:=λe=>eg (by rw[<-nN];exact bk.2 ⟨x,J,e⟩)
 simpa using this
 rw[<-nN,O.rows]
 intro hm
 obtain⟨p,ad,e⟩:=bk.1 hm
 have:=(iX.1 ad).2
 simp[e] at this
 have ag:=aT.small
 have aQ:bb.w.length=(a6 bb).length:=by simp[a6]
 have aF:T.w.length=(a6 T).length:=by simp[a6]
 rw[<-nN] at cb
 obtain⟨p,ad,e⟩:=bk.1 cb
 have:((a6 T).filter λp=>p.1 !=id).length<(a6 T).length:=Kg.2 ⟨p,ad,by simp[e]⟩
 rw[O.rows] at aQ
 omega
def ap1{ks:M aw}(ad:gx d (aw.mk h ks).bF)(fE:h.aI=2):(h.bm.length:o)=d/\(h.hi.length:o)=d:=by have h1:=ad.jD;rw[aw.hD] at h1;obtain⟨_,_,_,ag⟩:=h1;rcases ag with⟨e,_⟩|⟨_,e⟩|⟨e,_⟩;have:h.aI=1:=e;omega;exact⟨e.2.2.2.1,e.2.2.2.2.1⟩;have:h.aI=3:=e;omega
def Ow:∀{l:M N} {x:N},x∈l->x<=l.sum
 |y::l,x,h=>by rw[List.sum_cons];rcases cP.1 h with rfl|h;omega;have:=Ow h;omega
def aa3{ks:M aw}{i:N}(hi:i<ks.length):ks[i].bR.length<(aw.mk h ks).bR.length:=by rw[aw.bR,aw.Iy,hX,List.length_flatMap];have:ks[i].bR.length<=(ks.map λk=>k.bR.length).sum:=Ow (bk.2 ⟨ks[i],kD hi,rfl⟩);omega
def D8{af:N->aA bx}{T:aS}{id:o}{t:U}{q:M o}{K:aD->o->H->Prop}(h:In aj u af b T)(aT:dU T)(kc:T.e4<=4000)(ht:Ints u t q)(pn:∀aU c4,aj.le aU->hU u af aU c4->Ints aU t q)
  (dq:fR id q T.aq (decide (id∈(a6 T).map (·.1))) (a6 T).length≠0->K ax (fR id q T.aq (decide (id∈(a6 T).map (·.1))) (a6 T).length) u)
  (bH:fR id q T.aq (decide (id∈(a6 T).map (·.1))) (a6 T).length=0->∀u' aY bB,tT aj u af b T id q u' aY bB->K (decide (id∉(a6 T).map (·.1))) 0 u'):aey (some ⟨b,0,none⟩) id t u K:=by
 apply aEb
 refine⟨λe=>(by cases e),λ_=>⟨_,rfl,_,a8 h.aJ.cell 3,?_⟩⟩
 obtain⟨y,ai,iU⟩:∃y:U,(fD (eb T.w) id).getD (.slice none 0 0)=aE.slice.enc y/\(fD (eb T.w) id).isSome=decide (id∈(a6 T).map (·.1)):=by rw[nN];rcases tc T.w id with⟨W,hm⟩|⟨e,he,cm,W⟩;exact⟨⟨none,0,0⟩,by rw[W];rfl,by rw[W,o0 hm];rfl⟩;exact⟨e.2.1,by rw[W];rfl,by rw[W,l4 (bk.2 ⟨e,he,cm⟩)];rfl⟩
 refine tM je h.aJ.map (ct:=.slice) y ai ?_
 rw[iU]
 refine⟨_,rfl,_,rfl,_,a8 h.aJ.cell 0,_,a8 h.aJ.cell 3,vk je h.aJ.map ⟨H.le.refl u,Kx ht ?_⟩⟩
 rw[LM]
 refine⟨λan=>dq an,λhe=>?_⟩
 have bH:=bH he
 obtain⟨d1,d2,xL,d4⟩:1<=id/\id<=1000000000/\hv q T.aq=0/\(decide (id∈(a6 T).map (·.1))=ax->((a6 T).length:o)<512):=by unfold fR at he;split at he;cases he;rename_i h1;split at he;rename_i h2;exact aV he h2;rename_i h2;split at he;cases he;rename_i h3;refine⟨by omega,by omega,by simpa using h2,λe=>?_⟩;by_cases a7:((a6 T).length:o)<512;exact a7;exact aV ⟨e,by omega⟩ h3
 obtain⟨aQ,aF,cW,fJ⟩:=oL xL
 have aa:(!decide (decide (id∈(a6 T).map (·.1))=ak))=decide (id∉(a6 T).map (·.1)):=by by_cases cb:id∈(a6 T).map (·.1)<;>simp[cb]
 have eQ:∀Y:H,K (decide (id∉(a6 T).map (·.1))) 0 Y->K (!decide (decide (id∈(a6 T).map (·.1))=ak)) 0 Y:=λY aC=>by rw[aa];exact aC
 refine ac5 h aT kc (λeg=>?_) λ_ aU c4 bb W=>?_
 have:=d4 (o0 (by rw[nN];exact eg))
 have gA:T.w.length=(a6 T).length:=by simp[a6]
 omega
 have i1:=W.is
 have ly:=W.ok
 have rB:=pn aU c4 i1.le W.eX
 refine sN rB (by have:=rB.len;omega) λdx hb fY _=>?_
 have uT:=fY.le
 have aJ:=(mG.mono bS i1 uT).aJ
 refine⟨_,rfl,_,a8 aJ.cell 3,B3 je aJ.map (xh.2 (by unfold eb;rw[eh];exact W.no)) λqa iL=>?_⟩
 obtain⟨fk,Bj⟩:∃fk,fk=hb.ins bb.m qa:=⟨_,rfl⟩
 rw[<-Bj] at iL ⊢
 have m20:fk bb.m=some qa:=by rw[Bj];exact bi _ _ _
 have oc:∀c z,hb c=some z->c≠bb.m->fk c=some z:=λc z I an=>by rw[Bj,bq _ _ an];exact I
 have jO:∀{c},c4 c≠some .map->c≠bb.m:=λI e=>I (by rw[e];exact aJ.dr)
 have n20:∀{c},fk c=none->aU c=none/\dx.al≠some c:=λ{c} I=>by
  have an:c≠bb.m:=λe=>by rw[e,m20] at I;cases I
  have xj:hb c=none:=by rw[Bj,bq _ _ an] at I;exact I
  exact⟨uT.none xj,λe=>dL fY e xj⟩
 have smap:∀g,dx.al=some g->aU g=none/\g≠bb.m:=λg ca=>⟨fY.fresh g ca,λe=>by have:=i1.known bb.m (by rw[aJ.dr];simp);rw[<-e] at this;exact this (fY.fresh g ca)⟩
 have Na:fz fk bb.m (eb (bb.w++ [(id,(dx,q))])):=by
  have:eb (bb.w++ [(id,(dx,q))])=eb bb.w++ [(id,.slice dx.a dx.n dx.c)]:=by simp[eb]
  rw[this];exact iL
 have Ca:Ints fk dx q:=bz.else fY.ints λg z ca ab=>oc g z ab (smap g ca).2
 have ob:fk b=some (.cells (fx bb).toArray 169 (0,0)):=oc _ _ aJ.cell (jO (by rw[aJ.dR];simp))
 have aCu:fk.cell? ⟨b,0,none⟩=some (.int .i64 bb.aq):=a8 ob 0
 have anB:fk.cell? ((cw b 0 none).add 1)=some (.int .i64 bb.leaf):=a8 ob 1
 have Dm:(q.length:o)=bb.aq:=by rw[W.aq];exact cW
 have fin:∀u' r,Ew aU c4 b bb id dx q u' r->K (!decide (decide (id∈(a6 T).map (·.1))=ak)) 0 u':=λu' r ac=>by obtain⟨aY,bB,f1,f2,f3,f4,f5,f6,f7⟩:=ac.acH i1 ly ⟨d1,d2⟩ ⟨Dm,fJ⟩ W.vH;refine eQ _ (bH u' aY bB ⟨f1,W.eX.trans f2,f3,by rw[<-W.rows];exact f4,f5.trans W.aq,f6.trans W.leaf,by rw[<-W.e4];exact f7⟩)
 have NG:∀l:M az,((l.map az.bL).Perm ((id,q)::lD bb)∨∃m:M j6,((l.map az.bL)++m).Perm ((id,q)::lD bb))->hp l bb.aq:=λl ap=>by
  obtain⟨m,hm⟩:∃m:M j6,((l.map az.bL)++m).Perm ((id,q)::lD bb):=ap.elim (λh=>⟨[],by rw[lB];exact h⟩) λh=>h;have eJ:((l.map az.bL)++m).Perm ((id,q)::a6 bb):=hm.trans (j3 _ ly.rows);have b3:(((id,q)::a6 bb).map (·.1)).Nodup:=by rw[gR,h6];exact⟨by rw[nN];exact W.no,i1.aJ.r8⟩
  have hlen:=eJ.length_eq;have uv:=W.vH;simp only[eD,dj,hX,a6] at hlen;refine D1 ly.hB (by omega) ?_ λp ad=>?_;have:=(eJ.map (·.1)).nodup_iff.2 b3;rw[er,fZ] at this;rw[show l.map (·.id)=(l.map az.bL).map (·.1) by rw[eh];rfl];exact this.1;rcases cP.1 (eJ.mem_iff.1 (iA _ ad)) with rfl|ad;exact⟨d1,d2,Dm,fJ⟩;obtain⟨e,gd,rfl⟩:=bk.1 ad;exact⟨(ly.ids e gd).1,(ly.ids e gd).2,ly.vec e gd⟩
 cases k2:bb.root with
 |none=>
  have ur:fk.cell? ((cw b 0 none).add 2)=some (.pointer none):=by
   have J:fx bb=[.int .i64 bb.aq,.int .i64 bb.leaf,.pointer none,.map (some bb.m)]:=by simp[fx,k2]
   rw[J] at ob;exact a8 ob 2
  have xm:lD bb=[]:=by unfold lD;rw[k2]
  refine⟨_,rfl,none,ur,λ_=>?_,λan=>aV rfl an⟩;refine mA (xa id dx) λg p2=>?_;obtain⟨BE,Nu⟩:∃BE,BE=(bj [cJ .i64 id,.slice dx.a dx.n dx.c].toArray 52 (0,0)):=⟨_,rfl⟩;rw[<-Nu];have Dz:fk.le (fk.ins g BE):=bZ _ p2;have nG:aK fk (fk.ins g BE) 52 2 ⟨some ⟨g,0,none⟩,1,1⟩ (([⟨id,dx,q⟩]:M az).flatMap cO):=by rw[Nu];exact aK.make (H.le.refl fk) p2 (cells:=[cJ .i64 id,.slice dx.a dx.n dx.c].toArray) (n:=1) (by omega) rfl
  refine Hd (ub:=fk) (by have:=ly.Bx;omega) aCu anB nG (λr O=>by rw[gp.1 O];exact Ca) (NG _ (.inl (by rw[xm];exact .refl _))) (λe=>by cases e) λ_ qp ek I fE=>?_;have asd:g≠b:=λe=>by rw[e,ob] at p2;cases p2
  have sw:∀c z,fk c=some z->qp c=some z:=λc z dd=>I.ue c z (Dz c z dd) λe=>by
   have:g=c:=by simpa[U.al] using e
   rw[this,dd] at p2;cases p2
  have CJ:qp b=some (.cells #[.int .i64 bb.aq,.int .i64 bb.leaf,.pointer none,.map (some bb.m)] 169 (0,0)):=by have:=sw _ _ ob;rw[show fx bb=[.int .i64 bb.aq,.int .i64 bb.leaf,.pointer none,.map (some bb.m)] by simp[fx,k2]] at this;exact this
  refine⟨_,rfl,PO CJ ?_⟩;obtain⟨wP,Bk⟩:∃wP,wP=qp.ins b (.cells #[.int .i64 bb.aq,.int .i64 bb.leaf,.pointer (some ⟨ek.b,0,none⟩),.map (some bb.m)] 169 (0,0)):=⟨_,rfl⟩;rw[<-Bk];have pw:∀c z,qp c=some z->c≠b->wP c=some z:=λc z dd an=>by rw[Bk,bq _ _ an];exact dd
  have Lp:b∉ek.own:=λe=>by have:=(I.out b e).1;rw[ob] at this;cases this
  have tZ:bb.m≠b:=λe=>by have h1:=aJ.dr;rw[e,aJ.dR] at h1;cases h1
  have gv:∀b2,dx.al=some b2->b2≠b:=λb2 ca e=>by have:=i1.known b (by rw[aJ.dR];simp);rw[<-e] at this;exact this (smap b2 ca).1
  have Of:∀c z,aU c=some z->c≠bb.m->c≠b->wP c=some z:=λc z dd h1 h2=>pw c z (sw c z (oc c z (uT c z dd) h1)) h2;refine fin wP ek ⟨?_,Na.else λz ab=>pw _ z (sw _ z ab) tZ,bz.else Ca λb2 z ca ab=>pw b2 z (sw b2 z ab) (gv b2 ca),λb2 ca=>⟨(smap b2 ca).1,?_⟩,λc z dd ac=>?_,λc dd ac=>?_,λx J=>?_,I.nodup,λc dd=>?_,λx J r O b2 ca=>?_,?_,I.ok,fE,?_⟩;rw[Bk,bi];rfl;obtain⟨z,ab⟩:=fj.1 (dL fY ca);rw[pw b2 z (sw b2 z (oc b2 z ab (smap b2 ca).2)) (gv b2 ca)];simp;refine Of c z dd (jO ?_) λe=>?_;rcases ac with ac|ac<;>rw[ac]<;>simp;rw[e,aJ.dR] at ac;rcases ac with ac|ac<;>cases ac;by_cases h1:c=bb.m;rw[h1,pw _ _ (sw _ _ m20) tZ];simp;by_cases h2:c=b;rw[h2,Bk,bi];simp;obtain⟨z,ab⟩:=fj.1 dd;rw[Of c z ab h1 h2];simp;refine(I.one x J).bS (λc z cL ab=>pw c z ab λe=>Lp (by rw[<-e];exact ep.2 ⟨x,J,cL⟩)) λr O=>?_;rw[gp.1 (I.rows x J r O)];exact bz.else Ca λb2 z ca ab=>pw b2 z (sw b2 z ab) (gv b2 ca);obtain⟨cV,dc⟩:=I.out c dd;obtain⟨z,ab⟩:=fj.1 dc;exact⟨.inr (n20 cV),by rw[pw c z ab (λe=>Lp (by rw[<-e];exact dd))];simp⟩;rw[gp.1 (I.rows x J r O)] at ca;exact .inr ca;rw[xm];exact I.all;have:=I.size;simp only[hX,oB] at this;omega
 |some n0=>
  obtain⟨cV,dc,dh,fL⟩:=aJ.one n0 k2;have ur:fk.cell? ((cw b 0 none).add 2)=some (.pointer (some ⟨n0.b,0,none⟩)):=by
   have J:fx bb=[.int .i64 bb.aq,.int .i64 bb.leaf,.pointer (some ⟨n0.b,0,none⟩),.map (some bb.m)]:=by simp[fx,k2]
   rw[J] at ob;exact a8 ob 2
  have xm:lD bb=n0.bF.all:=by unfold lD;rw[k2]
  obtain⟨ub,ci⟩:∃ub:H,ub=λc=>open Classical in if c∈n0.own then none else fk c:=⟨_,rfl⟩;have yo:∀{c},c∈n0.own->ub c=none:=λI=>by rw[ci];exact a1 I
  have gG:∀{c},c∉n0.own->ub c=fk c:=λI=>by rw[ci];exact aG I
  have lub:ub.le fk:=λc b7 I=>by by_cases e:c∈n0.own;rw[yo e] at I;cases I;rw[gG e] at I;exact I
  have lL:∀{c},c4 c≠some .node->c∉n0.own:=λI e=>I (dh _ e);have PG:∀g,dx.al=some g->g∉n0.own:=λg ca e=>i1.known g (by rw[dh g e];simp) (smap g ca).1;have lT:ub b=some (.cells (fx bb).toArray 169 (0,0)):=by rw[gG (lL (by rw[aJ.dR];simp))];exact ob
  have Cb:Ints ub dx q:=bz.else Ca λg z ca ab=>by rw[gG (PG g ca)];exact ab
  have LG:∀c z,hb c=some z->c4 c≠some .map->c4 c≠some .node->ub c=some z:=λc z I h1 h2=>by rw[gG (lL h2)];exact oc c z I (jO h1)
  have N5:∀x∈n0.bR,∀r∈x.1.rows,Ints ub r.s r.v:=λx J r O=>bz.else ((cV x J).vec r O) λg z ca ab=>LG g z ab (by rw[fL x J r O g ca];simp) (by rw[fL x J r O g ca];simp);have wR:Way 2 ub fk bb.aq q (λ_=>True) (λg=>c4 g=some .vec) n0 [] n0:=by refine Way.start lub (λ_ _=>trivial) (λx J=>(cV x J).bS (λc z I ab=>oc c z ab (jO ?_)) λr O=>(N5 x J r O).mono lub) dc (λc I=>⟨yo I,?_,trivial⟩) (λx J r O=>⟨N5 x J r O,λg ca=>fL x J r O g ca⟩) (ly.ok n0 k2) (ly.oI n0 k2);rw[dh c (ep.2 ⟨x,J,I⟩)];simp;have hk:=i1.known c (by rw[dh c I];simp);obtain⟨z,ab⟩:=fj.1 hk;rw[oc c z (uT c z ab) (jO (by rw[dh c I];simp))];simp
  refine⟨_,rfl,_,ur,λe=>(by cases e),λ_=>⟨_,rfl,_,ur,?_⟩⟩
  let At:aA bc->H->N->Prop:=λp w f=>∃aW n,p=some ⟨n.b,0,none⟩/\Way 2 ub w bb.aq q (λ_=>True) (λg=>c4 g=some .vec) n0 aW n/\n.bR.length=f
  refine⟨λp w=>∃f,At p w f,λp w=>least (At p w),⟨_,[],n0,rfl,wR,rfl⟩,λOM ni cx=>?_⟩;have mR:=Gl cx;generalize MJ:least (At OM ni)=f at mR;obtain⟨aW,n,ad,w,avz⟩:=mR;obtain⟨e8,ks⟩:=n;obtain rfl:OM=some ⟨e8.b,0,none⟩:=ad;obtain⟨jn,b3,iq,lo,fE⟩:=w.head;have tp:=JI aW w.ok;obtain⟨afo,apZ⟩:=ap1 tp fE;refine ac9 Cb w.base jn b3 (λc I=>(iq c I).1) (λr O=>(lo r O).1) (by omega) (by omega) (by have:=ly.hB;omega) λhs FO eL j0=>?_;obtain⟨rr,AK⟩:=XI (ks:=ks) fE tp fJ Dm;have tQ:Way 2 ub hs bb.aq q (λ_=>True) (λg=>c4 g=some .vec) n0 aW (.mk (ja e8 q) ks):=w.eX rfl rfl rfl FO eL j0 rr;have HR:hs e8.b=some (.cells (e2 (ja e8 q)).toArray 213 (0,0)):=FO.cell;have ua:hs.cell? ((cw e8.b 0 none).add 7)=some (.slice e8.df.a e8.df.n e8.df.c):=a8 HR 7;have uK:bz hs e8.df 1 ((ks.map aw.b).map λn=>.pointer (some ⟨n,0,none⟩)):=FO.lZ;have Z0:e8.df.n=ks.length:=by have:=uK.len;simpa using this.symm
  have iH:=bz.cap uK;have xA:=bz.max uK;refine⟨_,rfl,e8.df,ua,λh0=>?_,λh0=>?_⟩;obtain rfl:ks=[]:=kS (by omega);refine adj (h:=ja e8 q) tQ (by have:=ly.Bx;omega) (a8 lT 0) (a8 lT 1) Cb (NG _ (.inr ?_)) AK λu' r ar=>fin u' r ?_;refine⟨(jL aW e8.b).flatMap λx=>x.1.rows.map az.bL,?_⟩;have gA:=(JH aW (.mk e8 [])).symm.trans w.all;rw[xm];have mc:(aw.mk e8 []).bF.all=e8.rows.map az.bL:=by rw[aw.tC,aw.bR,aw.mQ];simp
  rw[mc] at gA;rw[er];refine(List.Perm.append_right _ (nc _ _)).trans ?_;exact j3 _ gA;have cN:fx {bb with root:=some r}=fx bb:=by simp[fx,k2,ar.b]
  refine⟨by rw[cN];exact ar.le _ _ lT,?_,Cb.mono ar.le,λg ca=>⟨(smap g ca).1,?_⟩,λc z I ac=>?_,λc I ac=>?_,ar.one,ar.nodup,λc I=>⟨?_,(ar.own c I).2⟩,λx J y ai g ca=>ar.rws x J y ai g ca,by rw[xm];exact ar.all,ar.ok,ar.oI,?_⟩;exact Na.else λz ab=>ar.le _ _ (by rw[gG (lL (by rw[aJ.dr];simp))];exact ab);obtain⟨z,ab⟩:=fj.1 (dL fY ca);rw[ar.le g z (by rw[gG (PG g ca)];exact oc g z ab (smap g ca).2)];simp;exact ar.le c z (LG c z (uT c z I) (by rcases ac with ac|ac<;>rw[ac]<;>simp) (by rcases ac with ac|ac<;>rw[ac]<;>simp));by_cases h1:c=bb.m;rw[h1,ar.le _ _ (by rw[gG (lL (by rw[aJ.dr];simp))];exact m20)];simp;obtain⟨z,ab⟩:=fj.1 I;rw[ar.le c z (by rw[gG (lL ac)];exact oc c z (uT c z ab) h1)];simp;have h1:=(ar.own c I).1.1;by_cases hm:c∈n0.own;exact .inl (dh c hm);rw[gG hm] at h1;exact .inr (n20 h1);have h1:=ar.size;have h2:=ly.size n0 k2;omega;have ju:0<ks.length:=by omega
  have lZ:∀(i:N) (hi:i<ks.length),hT hs (ks[i].h,ks[i].kids.map aw.b)/\nv (ks[i].bF.hE []) q.length:=λi hi=>by
   have mj:(ks[i].h,ks[i].kids.map aw.b)∈(aw.mk (ja e8 q) ks).bR++jL aW (aw.mk (ja e8 q) ks).b:=by rw[aw.bR,aw.Iy];refine iA _ (gh _ (ep.2 ⟨ks[i],kD hi,?_⟩));rw[aw.iI];exact gr ..
   refine⟨tQ.one _ mj,?_⟩;have h3:=rr.kids ks[i].bF (by rw[aw.hD];exact ie (kD hi));rw[Dm];exact h3.jD
  have tw:∀(i:N) (hi:i<ks.length) {Q:o->o->o->H->Prop},(∀x y,Q x y 0 hs)->∃aos:o,((H.cell? hs ⟨ks[i].b,0,none⟩)=(some (cJ bY aos)))/\(∃Uv:U,((H.cell? hs (eu ⟨ks[i].b,0,none⟩ 1))=(some (ea Uv.a Uv.n Uv.c)))/\(∃Uw:U,((H.cell? hs (eu ⟨ks[i].b,0,none⟩ 2))=(some (ea Uw.a Uw.n Uw.c)))/\(∃aot:o,((H.cell? hs (eu ⟨ks[i].b,0,none⟩ 3))=(some (cJ bo aot)))/\(∃aou:o,((H.cell? hs (eu ⟨ks[i].b,0,none⟩ 4))=(some (cJ bo aou)))/\(∃Ux:U,((H.cell? hs (eu ⟨ks[i].b,0,none⟩ 5))=(some (ea Ux.a Ux.n Ux.c)))/\(Ct aos Uv Uw aot aou Ux dx hs Q)))))):=λi hi Q fm=>by
   obtain⟨aa5,Gf⟩:=lZ i hi;have Dy:hs ks[i].b=some (.cells (e2 ks[i].h).toArray 213 (0,0)):=aa5.cell;have O:(ks[i].bF.hE [])=⟨ks[i].h.aI,⟨none,0,0⟩,⟨none,0,0⟩,ks[i].h.cA,⟨none,0,0⟩,ks[i].h.bm,ks[i].h.hi,[]⟩:=by rw[aw.hD];rfl
   rw[O] at Gf;exact⟨_,a8 Dy 0,ks[i].h.bp,a8 Dy 1,ks[i].h.fF,a8 Dy 2,_,a8 Dy 3,_,a8 Dy 4,⟨none,0,0⟩,a8 Dy 5,
    UN (r:=⟨ks[i].h.aI,ks[i].h.bp,ks[i].h.fF,ks[i].h.cA,⟨none,0,0⟩,ks[i].h.bm,ks[i].h.hi,[]⟩) aa5.bm.f.ints aa5.hi.f.ints ⟨Gf.aq,Gf.ids,Gf.id,Gf.shape⟩ (.inl rfl) (Cb.mono tQ.base) fJ (fm _ _)⟩
  obtain⟨a0,y1,pj⟩:=JK uK (i:=0) (by simpa using ju);rw[DW] at pj;refine⟨_,rfl,e8.df,ua,a0,y1,⟨by omega,by omega⟩,_,by simpa using pj,_,rfl,tw 0 ju λaIG aIH=>⟨_,rfl,e8.df,ua,?_⟩⟩;refine o3 adE (l:=1) (h:=e8.df.n) (m:=e8.df.c) (.inr rfl) (.inl ⟨rfl,rfl⟩) (.inl ⟨rfl,rfl⟩) (by omega) iH (cC _) iH ?_;have awj:bz hs (e8.df.part 1 e8.df.n e8.df.c 1) 1 (((ks.drop 1).map aw.b).map λn=>.pointer (some ⟨n,0,none⟩)):=by have:=bz.part uK (l:=1) (h:=e8.df.n) (m:=e8.df.c) (by omega) (cC _) iH (cC _);rw[gY (by simp;omega)] at this;rw[DS,DS];exact this
  have fK:(e8.df.part 1 e8.df.n e8.df.c 1).n=ks.length-1:=by show e8.df.n-1=_;omega
  refine⟨λp x _ _ w=>0<=x/\w=hs/\∃(i:N) (hi:i<ks.length),p=some ⟨ks[i].b,0,none⟩,λ_ x _ _ _=>((ks.length:o)-x).toNat,⟨by omega,rfl,0,ju,rfl⟩,?_⟩;rintro aH3 Cm aIz aIA wN ⟨bK,rfl,i,hi,rfl⟩;refine⟨λJ=>?_,λJ=>?_⟩;have fh:Cm.toNat+1<ks.length:=by omega
  obtain⟨Z,um,h9⟩:=JK awj (i:=Cm.toNat) (by rw[dj,mv];omega);rw[DW,List.getElem_drop] at h9;have ex:1+Cm.toNat=Cm.toNat+1:=by omega
  simp only[ex] at h9;have st:∀(p:aA bc),(∃(i:N) (hi:i<ks.length),p=some ⟨ks[i].b,0,none⟩)->(bh (Cm+1))/\((0<=Cm+1/\wN=wN/\∃(i:N) (hi:i<ks.length),p=some ⟨ks[i].b,0,none⟩)/\((ks.length:o)-(Cm+1)).toNat<((ks.length:o)-Cm).toNat):=λp jx=>⟨⟨by omega,by omega⟩,⟨by omega,rfl,jx⟩,by omega⟩;refine⟨Z,um,⟨bK,J⟩,_,h9,_,rfl,tw (Cm.toNat+1) fh λaIB aIC aoZ av=>?_⟩;have oi:∀dp,aoZ dp wN:=λdp=>av dp wN ⟨λ_=>st _ ⟨_,fh,rfl⟩,λ_=>st _ ⟨i,hi,rfl⟩⟩;exact⟨λ_=>oi _,λ_=>⟨λ_=>oi _,λ_=>oi _⟩⟩;have po:ks=ks.take i++ks[i]::ks.drop (i+1):=by rw[<-tF hi,q2]
  have hw:Way 2 ub wN bb.aq q (λ_=>True) (λg=>c4 g=some .vec) n0 (⟨ja e8 q,ks.take i,ks.drop (i+1)⟩::aW) ks[i]:=by refine Way.lZ (by rw[<-po];exact tQ) ?_;rw[aw.hD] at AK;exact AK
  have bw:=aa3 (h:=e8) hi;have uo:At (some ⟨ks[i].b,0,none⟩) wN ks[i].bR.length:=⟨_,_,rfl,hw,rfl⟩;refine⟨⟨_,uo⟩,?_⟩;have:=least_le uo;show least (At _ wN)<least (At _ ni);rw[MJ];omega
end
end kW
section
variable{u:H}{s t:U}{l:M (U×M o)}{d:o}{p:bJ}
inductive jX:bJ->Prop where
 |mk {p:bJ} (two:p.kids.length=0∨p.kids.length=2) (kids:∀k∈p.kids,jX k):jX p
def jX.two(h:jX p):p.kids.length=0∨p.kids.length=2:=by cases h;assumption
def jX.kids(h:jX p):∀k∈p.kids,jX k:=by cases h;assumption
def jX.del{id:o}(h:jX p):jX (p.del id):=by
 induction p using bJ.ind with
 |h p aM=>
  rw[bJ.del_eq];have h1:(p.kids.map (bJ.del id)).length=0∨(p.kids.map (bJ.del id)).length=2:=by rw[dj];exact h.two
  refine .mk h1 λk hk=>?_;obtain⟨dV,dJ,rfl⟩:=bk.1 (show k∈p.kids.map (bJ.del id) from hk);exact aM dV dJ (h.kids dV dJ)
def arQ{f:ko}{n n':aw}(h:jX (f.fill n).bF)(bW:jX n'.bF):jX (f.fill n').bF:=by have h1:=h.two;have h2:=h.kids;rw[CV] at h1 h2;refine .mk ?_ λk hk=>?_;rw[CV];simp only[dj,eD,hX] at h1 ⊢;exact h1;rw[CV] at hk;obtain⟨Y,aC,rfl⟩:=bk.1 hk;rw[cM,cP] at aC;rcases aC with aC|rfl|aC;exact h2 _ (ie (iA _ aC));exact bW;exact h2 _ (ie (lC _ (gh _ aC)))
def Q6:∀(aW:M ko) {n:aw},jX (na aW n).bF->jX n.bF
 | [],_,h=>h|f::aW,n,h=>by have h3:=(Q6 aW (n:=f.fill n) h).kids;rw[CV] at h3;exact h3 _ (ie (by simp))
def TB:∀(aW:M ko) {n n':aw},jX (na aW n).bF->jX n'.bF->jX (na aW n').bF
 | [],_,_,_,bW=>bW|f::aW,n,n',h,bW=>TB aW (n:=f.fill n) (n':=f.fill n') h (arQ (Q6 aW (n:=f.fill n) h) bW)
def afn{h:ey}{ks:M aw}(bW:jX (aw.mk h ks).bF):(ks.length=0∨ks.length=2)/\∀k∈ks,jX k.bF:=by rw[aw.hD] at bW;have h1:=bW.two;have h2:=bW.kids;refine⟨by have h3:(ks.map aw.bF).length=0∨(ks.map aw.bF).length=2:=h1;rw[dj] at h3;exact h3,λk hk=>h2 k.bF (show k.bF∈ks.map aw.bF from ie hk)⟩
def Q5{h:ey}{ks:M aw}(h1:ks.length=0∨ks.length=2)(h2:∀k∈ks,jX k.bF):jX (aw.mk h ks).bF:=by rw[aw.hD];refine .mk (by show(ks.map aw.bF).length=0∨(ks.map aw.bF).length=2;rw[dj];exact h1) λk hk=>?_;obtain⟨Y,aC,rfl⟩:=bk.1 (show k∈ks.map aw.bF from hk);exact h2 Y aC
def encS(s:U):M ao:=[.slice s.a s.n s.c]
def vF(c:U×M o):(encS c.1).length=1:=rfl
structure mJ(u:H)(s:U)(l:M (U×M o)):Prop where
 cI:bz u s 1 (l.flatMap λc=>encS c.1)
 ints:∀c∈l,Ints u c.1 c.2
def mJ.mono{u':H}(h:mJ u s l)(k:u.le u'):mJ u' s l:=⟨h.cI.mono k,λc I=>(h.ints c I).mono k⟩
def mJ.len(h:mJ u s l):s.n=l.length:=gU vF (by decide) h.cI
def mJ.at(h:mJ u s l){x:o}(h0:0<=x)(h1:x<(s.n:o)):∃p,s.a=some p/\∃c,l[x.toNat]?=some c/\c∈l/\u.cell? (p.add (x.toNat*1))=some (.slice c.1.a c.1.n c.1.c)/\Ints u c.1 c.2:=by
 have ae:=h.len;have ap:x.toNat<l.length:=by omega
 have J:l[x.toNat]?=some l[x.toNat]:=cy ap;obtain⟨p,ad,I⟩:=bz.elem vF (by decide) h.cI J;exact⟨p,ad,_,J,kD ap,I 0 _ rfl,h.ints _ (kD ap)⟩
structure wV(l:M (U×M o))(d:o):Prop where
 aq:1<=d/\d<=64
 many:0<l.length/\l.length<=64
 each:∀c∈l,(c.2.length:o)=d/\c8 c.2
def adh{K:o->H->Prop}(h:mJ u s l)(ar:1<=d/\d<=64)(I:∀c∈l,(c.2.length:o)=d/\c8 c.2)(ap:l.length<=1000000)(av:K 0 u):Qs s d u K:=by have ae:=h.len;apply aEk;refine⟨λ_ x v=>v=u/\0<=x,λ_ x _=>((s.n:o)-x).toNat,⟨rfl,by omega⟩,?_⟩;rintro _ x v ⟨rfl,bK⟩;refine⟨λJ=>?_,λ_=>av⟩;obtain⟨p,ad,c,_,cL,bM,hi⟩:=h.at bK J;obtain⟨aQ,aF⟩:=I c cL;exact⟨p,ad,⟨bK,J⟩,_,bM,qj hi ⟨λan=>aV (Hs aF aQ ar) an,λ_=>⟨⟨by omega,by omega⟩,⟨rfl,by omega⟩,by dsimp only;omega⟩⟩⟩
def aBe{K:o->H->Prop}(h:mJ u s l)(I:wV l d)(av:K 0 u):VJ s u K:=by have ae:=h.len;have hm:=I.many;apply aob;intro nr h0;refine⟨λJ=>aV J (by omega),λ_=>⟨λJ=>aV J (by omega),λ_=>h0 _ _ ?_⟩⟩;obtain⟨p,ad,c,_,cL,bM,hi⟩:=h.at (x:=0) (by omega) (by omega);have pX:=hi.len;obtain⟨aQ,aF⟩:=I.each c cL;refine⟨p,ad,⟨by omega,by omega⟩,_,bM,?_⟩;dsimp only;rw[show(c.1.n:o)=d by omega];exact adh h I.aq I.each (by omega) av
def mn(cs:M (M o))(v:M o):N->N×o
 |0=>(0,0)|n+1=>if n=0∨fG (cs.getD n []) v v.length<(mn cs v n).2 then(n,fG (cs.getD n []) v v.length) else mn cs v n
def akK(cs:M (M o))(v:M o):∀n,0<n->(mn cs v n).1<n:=by
 intro n;induction n with
 |zero=>intro h;omega
 |succ n aM=>intro _;unfold mn;split;exact Nat.lt_succ_self n;rename_i I;have:=aM (by omega);omega
def adi{v:M o}{K:o->o->o->H->Prop}(h:mJ u s l)(I:wV l d)(ht:Ints u t v)(aB:c8 v)(Dr:(v.length:o)=d)
  (av:K (mn (l.map (·.2)) v l.length).1 (cZ (mn (l.map (·.2)) v l.length).2) (c5 (mn (l.map (·.2)) v l.length).2) u):Qt s t u K:=by
 have ae:=h.len
 have hm:=I.many
 have Y:cz 0:=⟨by omega,by omega⟩
 have ar:=I.aq
 apply aEm
 refine⟨λa i x y w=>w=u/\0<=i/\i<=s.n/\a=(mn (l.map (·.2)) v i.toNat).1/\cz x/\cz y/\dy x y=(mn (l.map (·.2)) v i.toNat).2,λ_ i _ _ _=>((s.n:o)-i).toNat,⟨rfl,by omega,by omega,rfl,Y,Y,rfl⟩,?_⟩
 rintro a i x y w ⟨rfl,i0,i1,LH,J,ai,hw⟩
 refine⟨λhi=>?_,λhi=>?_⟩
 obtain⟨p,ad,c,oP,cL,bM,pX⟩:=h.at i0 hi
 obtain⟨aQ,aF⟩:=I.each c cL
 have mf:(l.map (·.2)).getD i.toNat []=c.2:=by rw[dm,jq,oP];rfl
 have hlen:c.2.length=v.length:=by omega
 refine⟨p,ad,⟨i0,hi⟩,_,bM,B6 pX ht aF (by omega) aB hlen λkV kF fQ iM j2=>?_⟩
 rw[hlen] at j2
 have step:mn (l.map (·.2)) v (i+1).toNat=if i.toNat=0∨fG c.2 v v.length<(mn (l.map (·.2)) v i.toNat).2 then(i.toNat,fG c.2 v v.length) else mn (l.map (·.2)) v i.toNat:=by rw[show(i+1).toNat=i.toNat+1 by omega];show(if _ then _ else _)=_;rw[mf]
 have new:i.toNat=0∨fG c.2 v v.length<(mn (l.map (·.2)) v i.toNat).2->bh (i+1)/\(w=w/\0<=i+1/\i+1<=(s.n:o)/\i=(mn (l.map (·.2)) v (i+1).toNat).1/\cz kV/\cz kF/\dy kV kF=(mn (l.map (·.2)) v (i+1).toNat).2)/\((s.n:o)-(i+1)).toNat<((s.n:o)-i).toNat:=λI=>by rw[step,a1 I];exact⟨⟨by omega,by omega⟩,⟨rfl,by omega,by omega,by show i=((i.toNat:N):o);omega,fQ,iM,j2⟩,by omega⟩
 refine⟨λh0=>new (.inl (by omega)),λh0=>yl iM ai ?_⟩
 rw[hw,j2]
 by_cases bw:fG c.2 v v.length<(mn (l.map (·.2)) v i.toNat).2
 rw[a1 bw]
 exact⟨λ_=>new (.inr bw),λJ=>aV (by decide) J⟩
 refine⟨λJ=>aV J ?_,λ_=>⟨⟨by omega,by omega⟩,⟨rfl,by omega,by omega,?_,J,ai,?_⟩,by dsimp only;omega⟩⟩
 rw[aG bw];split<;>omega
 rw[step,aG (by omega)];exact LH
 rw[step,aG (by omega)];exact hw
 have:i.toNat=l.length:=by omega
 rw[this] at LH hw
 obtain⟨g1,g2⟩:=Af J ai
 rw[hw] at g1 g2
 rw[LH,g1,g2]
 exact av
def UL{v:M o}{K:o->o->o->o->H->Prop}(h:mJ u s l)(I:wV l d)(ht:Ints u t v)(aB:c8 v)(Dr:(v.length:o)=d)
  (av:K (mn (l.map (·.2)) v l.length).1 (cZ (mn (l.map (·.2)) v l.length).2) (c5 (mn (l.map (·.2)) v l.length).2) 0 u):Hx s t u K:=by
 have ae:=h.len
 have hm:=I.many
 apply aoa
 refine aBe h I ⟨λJ=>aV rfl J,λ_=>?_⟩
 obtain⟨p,ad,c,_,cL,bM,hi⟩:=h.at (x:=0) (by omega) (by omega)
 have pX:=hi.len
 obtain⟨aQ,aF⟩:=I.each c cL
 refine⟨p,ad,⟨by omega,by omega⟩,_,bM,qj ht ⟨λJ=>aV ?_ J,λ_=>adi h I ht aB Dr av⟩⟩
 rw[show(c.1.n:o)=d by omega]
 exact Hs aB Dr I.aq
def o1(c:M o)(l:M az):N->o
 |0=>0|n+1=>if o1 c l n<fG c (l.getD n ⟨0,⟨none,0,0⟩,[]⟩).v c.length then fG c (l.getD n ⟨0,⟨none,0,0⟩,[]⟩).v c.length else o1 c l n
def alz(c:M o)(l:M az):∀n,0<=o1 c l n/\∀i r,i<n->l[i]?=some r->fG c r.v c.length<=o1 c l n:=by
 intro n;induction n with
 |zero=>exact⟨mw _,λi r h=>by omega⟩|succ n aM=>
  obtain⟨h0,h1⟩:=aM;unfold o1;have last:∀r,l[n]?=some r->l.getD n ⟨0,⟨none,0,0⟩,[]⟩=r:=λr O=>by rw[dm,O];rfl
  split;rename_i bw;refine⟨by omega,λi r hi O=>?_⟩;by_cases e:i=n;subst e;rw[last r O];exact mw _;have:=h1 i r (by omega) O;omega;rename_i fO;refine⟨h0,λi r hi O=>?_⟩;by_cases e:i=n;subst e;rw[last r O] at fO;omega;exact h1 i r (by omega) O
def alA{c:M o}{l:M az}(I:c8 c)(ap:hp l c.length):∀n,n<=l.length->lh (o1 c l n):=by
 intro n;induction n with
 |zero=>intro _;exact⟨mw _,(by decide:(0:o)<340282366920938463463374607431768211456)⟩
 |succ n aM=>
  intro ae;unfold o1;have W:l.getD n ⟨0,⟨none,0,0⟩,[]⟩∈l:=by rw[dm,cy (by omega)];exact kD (by omega)
  obtain⟨aQ,aF⟩:=ap.v _ W;split;exact Hg I aF (by omega);exact aM (by omega)
def amZ{c:M o}{l:M az}{K:o->U->U->o->o->U->o->H->Prop}(ag:Ints u s c)(I:c8 c)(ht:eF u t l)(ap:hp l c.length)
  (av:∀au lp u',aK u u' 3 1 au (c.flatMap encI)->K 3 au ⟨none,0,0⟩ (cZ (o1 c l l.length)) (c5 (o1 c l l.length)) lp 0 u'):QG s t u K:=by
 have dM:=ag.len
 have aac:=ht.len
 have NX:=ht.max
 have ar:=ap.aq
 have Ig:=I.1
 have Y:cz 0:=⟨by omega,by omega⟩
 apply aFw
 refine qj ag ?_
 rw[dM,Hs I rfl ar]
 refine⟨λJ=>aV rfl J,λ_=>am3 ht ap λlp nX zD=>⟨λJ=>aV rfl J,λ_=>?_⟩⟩
 refine⟨λi x y w=>w=nX/\0<=i/\i<=t.n/\cz x/\cz y/\dy x y=o1 c l i.toNat,λi _ _ _=>((t.n:o)-i).toNat,⟨rfl,by omega,by omega,Y,Y,rfl⟩,?_⟩
 rintro i x y w ⟨rfl,i0,i1,J,ai,hw⟩
 refine⟨λhi=>?_,λhi=>?_⟩
 obtain⟨p,ad,r,O,bM,c1,uH⟩:=(ht.mono zD.le).at i0 hi
 have fp:=dB O
 obtain⟨aQ,aF⟩:=ap.v r fp
 have mf:l.getD i.toNat ⟨0,⟨none,0,0⟩,[]⟩=r:=by rw[dm,O];rfl
 have step:o1 c l (i+1).toNat=if o1 c l i.toNat<fG c r.v c.length then fG c r.v c.length else o1 c l i.toNat:=by rw[show(i+1).toNat=i.toNat+1 by omega];show(if _ then _ else _)=_;rw[mf]
 refine⟨p,ad,⟨i0,hi⟩,_,bM,_,c1,UO (ag.mono zD.le) uH I aF (by omega) λkV kF fQ iM j2=>yl iM ai ?_⟩
 rw[hw,j2]
 by_cases bw:o1 c l i.toNat<fG c r.v c.length
 refine⟨λ_=>⟨⟨by omega,by omega⟩,⟨rfl,by omega,by omega,fQ,iM,by rw[step,a1 bw];exact j2⟩,by dsimp only;omega⟩,λJ=>aV ?_ J⟩
 rw[aG (by omega),a1 bw]
 decide
 refine⟨λJ=>aV J ?_,λ_=>⟨⟨by omega,by omega⟩,⟨rfl,by omega,by omega,J,ai,by rw[step,aG bw];exact hw⟩,by dsimp only;omega⟩⟩
 rw[aG bw]
 split<;>decide
 have:i.toNat=l.length:=by omega
 rw[this] at hw
 obtain⟨g1,g2⟩:=Af J ai
 rw[hw] at g1 g2
 refine sN (ag.mono zD.le) (by omega) λau u' ab _=>⟨ab.le,?_⟩
 rw[g1,g2]
 exact av _ _ _ (ab.weaken zD.le)
open Go.RowKit
def Lb{α σ:Type}(P:dT)(fv:ao)(enc:α->ao)(Nx:σ->α->σ->Prop)(s0:σ)(En:σ->Prop)(u:H):Prop:=
 ∀(mE:ao) (cY:σ->H->Prop),(∀s v,cY s v->u.le v)->
  (∀s y au v (K:aD->H->Prop),Nx s y au->cY s v->(∀b6,cY au b6->K ak b6)->Aj P mE #[enc y] [.one .bool] v K)->
  ∀v (K:H->Prop),cY s0 v->(∀s b6,En s->cY s b6->K b6)->h8 P fv #[mE] [] v K
def nw.axf{P:dT}{α σ:Type}{Nx:σ->α->σ->Prop}{s0:σ}{En:σ->Prop}{t x n:N}{assign body:jg}{env:M (N×ao)}{K:N->H->Prop}{enc:α->ao}{fv:ao}{ub:H}(ci:ub.le u)
  (ac:∀f args w,(∃fn,P.funcs[f]?=some fn/\fn.body.isSome=ak)->(qW f args).run P w=.ok (.enter f args) w) (W:(t,fv)∈env) (J:x<n)
  (iK:∀aj,ub.le aj->Lb P fv enc Nx s0 En aj) (cY:σ->H->Prop) (h0:cY s0 u) (hle:∀i v,cY i v->ub.le v)
  (Mv:∀i y lp v,Nx i y lp->cY i v->CC P n assign body env x (enc y) v (cY lp))
  (av:∀s v D,En s->cY s v->v D=none->K D (v.ins D (.deferred (some [])))):nw P (.rangeFunc (.tmp t) #[x] assign body) n env u K:=by
 intro a w c0 ti Mz gW
 refine(OV (n:=0)).1 (wpIn_rangeFunc ?_)
 intro fn _
 have fw:a.eval (.tmp t)=fv:=by simp only[Act.eval];rw[BK,ti _ W];rfl
 obtain⟨rec,mV⟩:∃rec:LoopState->Loop,rec=λst=>{state:=st,pending:=none,fn,tmps:=a.tmps,params:=#[x],assign,body,defers:=w.heap.size}:=⟨_,rfl⟩
 obtain⟨jj,jZ⟩:∃jj,(w.alloc (.deferred (some []))).alloc (.loop (rec .ready))=jj:=⟨_,rfl⟩
 have ajo:jj.heap.size=w.heap.size+2:=by rw[<-jZ];simp
 have Mi:jj.heap[w.heap.size+1]?=some (.loop (rec .ready)):=by rw[<-jZ];have:=J6 (w.alloc (.deferred (some []))) (.loop (rec .ready));rwa[DK] at this
 have E1:jj.heap[w.heap.size]?=some (.deferred (some [])):=by rw[<-jZ];exact(Below.heap_alloc _ _ _ (by simp)).trans (J6 w _)
 have hold:∀b,b<w.heap.size->jj.heap[b]?=w.heap[b]?:=λb aa=>by rw[<-jZ];exact(Below.heap_alloc _ _ _ (by simp;omega)).trans (Below.heap_alloc _ _ _ aa)
 have xz:u (w.heap.size+1)=none:=gW.none (by omega)
 have C0:u w.heap.size=none:=gW.none (cC _)
 have M1:ub (w.heap.size+1)=none:=by
  cases J:ub (w.heap.size+1) with
  |none=>rfl|some z=>rw[ci _ _ J] at xz;cases xz
 have N3:ub.le (ub.ins (w.heap.size+1) (.loop (rec .ready))):=bZ _ M1
 have NS:Sub (u.ins (w.heap.size+1) (.loop (rec .ready))) jj:=by intro b z aa;unfold H.ins at aa;split at aa;rename_i eA;subst eA;cases aa;exact Mi;have:=gW b z aa;have bw:=gW.lt aa;rw[hold b bw];exact this
 have hL:=iK _ N3 (.func (.yield (w.heap.size+1)) #[] #[])
  (λi v=>∃v0,v=v0.ins (w.heap.size+1) (.loop (rec .ready))/\v0 (w.heap.size+1)=none/\v0 w.heap.size=none/\cY i v0)
  (λi v ⟨v0,aB,_,_,aN⟩=>by rw[aB];exact Jk (hle i v0 aN) _ _)
  (by
   rintro i y lp v gw ai ⟨v0,rfl,mS,ui,aN⟩ oi;refine⟨_,rfl,λbD hq=>?_⟩;have xw:bD.heap[w.heap.size+1]?=some (.loop (rec .ready)):=hq _ _ (bi _ _ _);have bw:w.heap.size+1<bD.heap.size:=(x6.1 xw).1;have nH:(Instr.yield (w.heap.size+1) #[enc y]).run P bD=.ok (.round (w.heap.size+1) fn (a.tmps.setIfInBounds x (enc y)) assign body) bD:=by have:=run_yield (P:=P) (args:=#[enc y]) xw (by rw[mV];rfl);rw[mV] at this;simpa using this
   have NT:Sub v0 bD:=hq.mono (bZ _ mS);refine⟨fn,_,assign,body,nH,acj trivial ?_⟩;refine ya (Mv i y lp v0 ai aN (w.heap.size+1) _ bD ?_ ?_ ?_ rfl NT) ?_;simpa using c0;intro p ad FP;show(a.tmps.setIfInBounds x (enc y))[p.1]?=_;rw[GR (dG FP)];exact ti p ad;show(a.tmps.setIfInBounds x (enc y))[x]?=_;rw[TW];simp[c0,J];intro e Z gk ad;cases e with
   |normal=>
    obtain⟨v1,dZ,aa⟩:=ad;have Dc:gk.heap[w.heap.size+1]?=some (.loop (rec .ready)):=(dZ.rest _ bw mS (by simp)).trans xw;have xy:w.heap.size+1<gk.heap.size:=(x6.1 Dc).1;have gC:v1 (w.heap.size+1)=none:=dZ.jw _ bw mS;have AN:v1 w.heap.size=none:=dZ.jw _ (by omega) ui;refine⟨_,run_beginRound Dc (by rw[mV]),ya (aa _ ?_) ?_⟩;intro b z hg;have an:b≠w.heap.size+1:=λe=>by rw[e,gC] at hg;cases hg
    exact(mu an).trans (dZ.sub b z hg);rintro e a2 h7 ⟨rfl,v2,rC,dQ⟩;have M0:(gk.putObj (w.heap.size+1) (.loop {rec .ready with state:=.busy})).heap[w.heap.size+1]?=some (.loop {rec .ready with state:=.busy}):=GM xy;have tk:h7.heap[w.heap.size+1]?=some (.loop {rec .ready with state:=.busy}):=(dQ.rest _ (by simpa using xy) gC (by simp)).trans M0;have M5:w.heap.size+1<h7.heap.size:=(x6.1 tk).1;have ia:v2 (w.heap.size+1)=none:=dQ.jw _ (by simpa using xy) gC;have pZ:=run_endRound (P:=P) none tk;have LR:({{rec .ready with state:=TX} with state:=if(none:aA jg).isNone then .ready else .done,pending:=none}:Loop)=rec .ready:=by rw[mV];rfl
    rw[LR] at pZ;refine⟨_,_,pZ,.bool ak,v2.ins (w.heap.size+1) (.loop (rec .ready)),rfl,⟨[.bool ak],.cons (t:=.bool) ak .nil,rfl,?_⟩,?_⟩;exact oi _ ⟨v2,rfl,ia,dQ.jw _ (by have:=dZ.size;simp;omega) AN,rC⟩;refine⟨λb z hg=>?_,dQ.os.trans dZ.os,dQ.tape.trans dZ.tape,dQ.output.trans dZ.output,jo dZ.drawn dQ.drawn,?_,λb aa fo _=>?_,λb aa fo=>?_,[],by simp,by simp⟩;unfold H.ins at hg;split at hg;rename_i eA;subst eA;cases hg;exact GM M5;rename_i eA;rw[mu eA];exact dQ.sub b z hg;have h1:=dZ.size;have h2:=dQ.size;simp at h2 ⊢;omega;have an:b≠w.heap.size+1:=λe=>by rw[e,bi] at fo;cases fo
    rw[bq _ _ an] at fo;have io:b<gk.heap.size:=JN aa dZ.size;rw[mu an,dQ.rest b (by simpa using io) (dZ.jw b aa fo) (by simp),mu an];exact dZ.rest b aa fo (by simp);have an:b≠w.heap.size+1:=λe=>by rw[e,bi] at fo;cases fo
    rw[bq _ _ an] at fo ⊢;exact dQ.jw b (by have:=dZ.size;simp;omega) (dZ.jw b aa fo)
   |_=>exact ad.elim)
  _ (λb6=>∃v0,b6=v0.ins (w.heap.size+1) (.loop (rec .ready))/\v0 (w.heap.size+1)=none/\v0 w.heap.size=none/\∃s,En s/\cY s v0) ⟨u,rfl,xz,C0,h0⟩ (λs _ ag ⟨v0,a,b,c,d⟩=>⟨v0,a,b,c,s,ag,d⟩)
 obtain⟨xi,CY,cap,Fh,AR,hL⟩:=hL
 rw[Fh] at fw
 refine⟨w.heap.size+1,[{target:=.collected w.heap.size,args:=#[]}],jj,{target:=.fn (.func xi) cap,args:=CY++ #[.func (.yield (w.heap.size+1)) #[] #[]]},jj,xi,
  CY++ #[.func (.yield (w.heap.size+1)) #[] #[]]++cap,jj,?_,?_,λ_ _=>trivial,?_,λh=>by simp[u2] at h,?_⟩
 rw[<-jZ,mV];exact ack _ _ _ _ _
 simp only[resolve,fw]
 simp[go_sem]
 simp[invoke,go_sem,ac xi _ _ AR]
 refine OU.2 ((hL jj NS).mono ?_)
 rintro e h7 ⟨v,u',rfl,⟨vs,hk,rfl,I⟩,ag⟩
 cases hk
 obtain⟨v0,rfl,mS,ui,s,FV,aN⟩:∃v0:H,u'=v0.ins (w.heap.size+1) (.loop (rec .ready))/\v0 (w.heap.size+1)=none/\v0 w.heap.size=none/\∃s,En s/\cY s v0:=I
 have tk:h7.heap[w.heap.size+1]?=some (.loop (rec .ready)):=ag.sub _ _ (bi _ _ _)
 have Md:h7.heap[w.heap.size]?=some (.deferred (some [])):=by rw[ag.rest _ (by omega) (by rw[bq _ _ (by omega)];exact C0) (by simp)];exact E1
 have pZ:(Instr.endLoop (w.heap.size+1)).run P h7=.ok none (h7.putObj (w.heap.size+1) (.loop {rec .ready with state:=.exhausted})):=by have:=run_endLoop (P:=P) tk (by rw[mV];simp);rw[this];rw[mV]
 refine⟨none,_,pZ,rfl,rfl,w.heap.size,_,?_,av s v0 w.heap.size FV aN ui,?_⟩
 simp[Mz,Ly]
 have uI:=ag.size
 refine⟨λb z hg=>?_,?_,?_,?_,?_,by simp;omega,λb aa fo _=>?_,λb aa fo=>?_,[],by simp,by simp⟩
 unfold H.ins at hg
 split at hg
 rename_i eA;subst eA;cases hg
 rw[mu (by omega)];exact Md
 have an:b≠w.heap.size+1:=λe=>by rw[e,mS] at hg;cases hg
 rw[mu an]
 exact ag.sub b z (by rw[bq _ _ an];exact hg)
 exact ag.os.trans (by rw[<-jZ];rfl)
 exact ag.tape.trans (by rw[<-jZ];rfl)
 exact ag.output.trans (by rw[<-jZ];rfl)
 exact jo (by rw[<-jZ];exact cC _) ag.drawn
 have an:b≠w.heap.size+1:=by omega
 rw[mu an,ag.rest b (by omega) (by rw[bq _ _ an];exact fo) (by simp)]
 exact hold b aa
 have an:b≠w.heap.size+1:=by omega
 have:=ag.jw b (by omega) (by rw[bq _ _ an];exact fo)
 rw[bq _ _ an] at this
 rw[bq _ _ (by omega)];exact this
end
section
variable{n x x2:N}{env:M (N×ao)}
open Go.RowKit
def IterM{α σ:Type}(P:dT)(fv:ao)(enc xf:α->ao)(src:N)(cell:σ->Obj)(Nx:σ->α->σ->Prop)(s0:σ)(En:σ->Prop)(u:H):Prop:=
 ∀(mE:ao) (cY:σ->H->Prop),(∀s v,cY s v->u.le v/\v src=some (cell s))->
  (∀s y au v (K:aD->H->Prop),Nx s y au->cY s v->(∀b6,cY au b6->K ak b6)->Aj P mE #[enc y,xf y] [.one .bool] (v.ins src (cell au)) K)->
  ∀v (K:H->Prop),cY s0 v->(∀s b6,En s->cY s b6->K b6)->h8 P fv #[mE] [] v K
def HI(P:dT)(n:N)(assign body:jg)(env:M (N×ao))(x x2:N)(y jF:ao)(v:H)(cY:H->Prop):Prop:=
 ∀l a w,a.tmps.size=n->(∀p∈env,p.1≠x->p.1≠x2->a.tmps[p.1]?=some p.2)->a.tmps[x]?=some y->a.tmps[x2]?=some jF->a.defers=[]->Sub v w->
  assign.wpIn (Fr (some l)) 0 P (Exit.then (λZ gk=>∃v1,Step v [] w v1 [] gk/\∀ew,Sub v1 ew->
   body.wpIn (Fr (some l)) 0 P (λe _ h7=>e=.normal/\∃v2,cY v2/\Step v1 [] ew v2 [] h7) Z ew) (λ_ _ _=>ed)) a w
def HI.of{C:lg}(fN:Good C){assign body:jg}{y jF:ao}{v:H}{cY:H->Prop}(ay:mZ assign=ak)(aa:mZ body=ak)
  (ES:M (N×fU)) (ti:∀p∈ES,∃Y,hA [] p.2=some Y/\((p.1=x/\Y=y)∨(p.1=x2/\Y=jF)∨p.1≠x/\p.1≠x2/\(p.1,Y)∈env))
  (h:hz C [] assign 1 (λ_=>ak) (λe s u=>e=.normal/\s.loc=[]/\hz C [] body 1 (λ_=>ak) (λe _ u=>e=.normal/\cY u) s u) {n:=n,env:=ES,loc:=[]} v):
  HI C.P n assign body env x x2 y jF v cY:=by
 intro l a w c0 he J aaB ar ag
 have ac:Fits {n:=n,env:=ES,loc:=[]} [] v a w:=by refine⟨⟨ar,c0,λp ad=>?_⟩,rfl,λi cs e=>by simp at e,by simp,by simp,ag⟩;obtain⟨Y,h1,h2⟩:=ti p ad;refine⟨Y,h1,?_⟩;rcases h2 with⟨h3,rfl⟩|⟨h3,rfl⟩|⟨h3,bO,a7⟩;rw[h3];exact J;rw[h3];exact aaB;exact he _ a7 h3 bO
 refine ya (Rf fN (some l) assign ay 1 _ _ _ v h [] a w ac) ?_
 rintro e Z gk ⟨_,au,u',db,⟨rfl,uA,eQ⟩,cS,dY,_,_⟩
 have kq:db=[]:=by have:=cS.len;rw[uA] at this;simpa using this
 subst kq
 refine⟨u',dY,λew Jd=>?_⟩
 have jb:Fits au [] u' Z ew:=⟨cS.toFitsE,cS.len,λi cs e=>by rw[uA] at e;simp at e,by simp,by simp,Jd⟩
 refine ya (Rf fN (some l) body aa 1 _ _ au u' eQ [] Z ew jb) ?_
 rintro e a2 h7 ⟨_,s2,cQ,HQ,⟨rfl,aN⟩,MI,Z6,_,_⟩
 exact⟨rfl,cQ,aN,Z6.forget⟩
def nw.axg{P:dT}{α σ:Type}{Nx:σ->α->σ->Prop}{s0:σ}{En:σ->Prop}{src:N}{cell:σ->Obj}{t:N}{assign body:jg}{u:H}{K:N->H->Prop}{enc xf:α->ao}{fv:ao}{ub:H}(ci:ub.le u)
  (ac:∀f args w,(∃fn,P.funcs[f]?=some fn/\fn.body.isSome=ak)->(qW f args).run P w=.ok (.enter f args) w) (W:(t,fv)∈env) (J:x<n) (Je:x2<n) (yW:x≠x2)
  (iK:∀aj,ub.le aj->IterM P fv enc xf src cell Nx s0 En aj) (cY:σ->H->Prop) (h0:cY s0 u) (hle:∀i v,cY i v->ub.le v) (rJ:∀i v,cY i v->v src=some (cell i))
  (Mv:∀i y lp v,Nx i y lp->cY i v->HI P n assign body env x x2 (enc y) (xf y) (v.ins src (cell lp)) (cY lp))
  (av:∀s v D,En s->cY s v->v D=none->K D (v.ins D (.deferred (some [])))):nw P (.rangeFunc (.tmp t) #[x,x2] assign body) n env u K:=by
 intro a w c0 ti Mz gW
 refine(OV (n:=0)).1 (wpIn_rangeFunc ?_)
 intro fn _
 have fw:a.eval (.tmp t)=fv:=by simp only[Act.eval];rw[BK,ti _ W];rfl
 obtain⟨rec,mV⟩:∃rec:LoopState->Loop,rec=λst=>{state:=st,pending:=none,fn,tmps:=a.tmps,params:=#[x,x2],assign,body,defers:=w.heap.size}:=⟨_,rfl⟩
 obtain⟨jj,jZ⟩:∃jj,(w.alloc (.deferred (some []))).alloc (.loop (rec .ready))=jj:=⟨_,rfl⟩
 have ajo:jj.heap.size=w.heap.size+2:=by rw[<-jZ];simp
 have Mi:jj.heap[w.heap.size+1]?=some (.loop (rec .ready)):=by rw[<-jZ];have:=J6 (w.alloc (.deferred (some []))) (.loop (rec .ready));rwa[DK] at this
 have E1:jj.heap[w.heap.size]?=some (.deferred (some [])):=by rw[<-jZ];exact(Below.heap_alloc _ _ _ (by simp)).trans (J6 w _)
 have hold:∀b,b<w.heap.size->jj.heap[b]?=w.heap[b]?:=λb aa=>by rw[<-jZ];exact(Below.heap_alloc _ _ _ (by simp;omega)).trans (Below.heap_alloc _ _ _ aa)
 have xz:u (w.heap.size+1)=none:=gW.none (by omega)
 have C0:u w.heap.size=none:=gW.none (cC _)
 have M1:ub (w.heap.size+1)=none:=by
  cases J:ub (w.heap.size+1) with
  |none=>rfl|some z=>rw[ci _ _ J] at xz;cases xz
 have N3:ub.le (ub.ins (w.heap.size+1) (.loop (rec .ready))):=bZ _ M1
 have NS:Sub (u.ins (w.heap.size+1) (.loop (rec .ready))) jj:=by intro b z aa;unfold H.ins at aa;split at aa;rename_i eA;subst eA;cases aa;exact Mi;have:=gW b z aa;have bw:=gW.lt aa;rw[hold b bw];exact this
 have hL:=iK _ N3 (.func (.yield (w.heap.size+1)) #[] #[])
  (λi v=>∃v0,v=v0.ins (w.heap.size+1) (.loop (rec .ready))/\v0 (w.heap.size+1)=none/\v0 w.heap.size=none/\cY i v0)
  (λi v ⟨v0,aB,h1,_,aN⟩=>⟨by rw[aB];exact Jk (hle i v0 aN) _ _,by rw[aB,bq _ _ (λe=>by have:=rJ i v0 aN;rw[e,h1] at this;cases this)];exact rJ i v0 aN⟩)
  (by
   rintro i y lp v gw ai ⟨Vd,rfl,air,agZ,aN⟩ oi;have eH:=Mv i y lp Vd ai aN;have rI:=rJ i Vd aN;have nl:src≠w.heap.size+1:=λe=>by rw[e,air] at rI;cases rI
   have ayh:src≠w.heap.size:=λe=>by rw[e,agZ] at rI;cases rI
   obtain⟨v0,Ja⟩:∃v0,v0=Vd.ins src (cell lp):=⟨_,rfl⟩;rw[<-Ja] at eH;have mS:v0 (w.heap.size+1)=none:=by rw[Ja,bq _ _ (dG nl)];exact air
   have ui:v0 w.heap.size=none:=by rw[Ja,bq _ _ (dG ayh)];exact agZ
   have arl:(Vd.ins (w.heap.size+1) (.loop (rec .ready))).ins src (cell lp)=v0.ins (w.heap.size+1) (.loop (rec .ready)):=by rw[Ja];funext c;unfold H.ins;by_cases aQ:c=src;by_cases aF:c=w.heap.size+1;exact aV (aQ.symm.trans aF) nl;rw[a1 aQ,aG aF,a1 aQ];rw[aG aQ];by_cases aF:c=w.heap.size+1;rw[a1 aF,a1 aF];rw[aG aF,aG aF,aG aQ]
   rw[arl];refine⟨_,rfl,λbD hq=>?_⟩;have xw:bD.heap[w.heap.size+1]?=some (.loop (rec .ready)):=hq _ _ (bi _ _ _);have bw:w.heap.size+1<bD.heap.size:=(x6.1 xw).1;have nH:(Instr.yield (w.heap.size+1) #[enc y,xf y]).run P bD=.ok (.round (w.heap.size+1) fn ((a.tmps.setIfInBounds x (enc y)).setIfInBounds x2 (xf y)) assign body) bD:=by have:=run_yield (P:=P) (args:=#[enc y,xf y]) xw (by rw[mV];rfl);rw[mV] at this;simpa using this
   have NT:Sub v0 bD:=hq.mono (bZ _ mS);refine⟨fn,_,assign,body,nH,acj trivial ?_⟩;refine ya (eH (w.heap.size+1) _ bD ?_ ?_ ?_ ?_ rfl NT) ?_;simpa using c0;intro p ad FP avX;show((a.tmps.setIfInBounds x (enc y)).setIfInBounds x2 (xf y))[p.1]?=_;rw[GR (dG avX),GR (dG FP)];exact ti p ad;show((a.tmps.setIfInBounds x (enc y)).setIfInBounds x2 (xf y))[x]?=_;rw[GR (dG yW),TW];simp[c0,J];show((a.tmps.setIfInBounds x (enc y)).setIfInBounds x2 (xf y))[x2]?=_;rw[TW];simp[c0,Je];intro e Z gk ad;cases e with
   |normal=>
    obtain⟨v1,dZ,aa⟩:=ad;have Dc:gk.heap[w.heap.size+1]?=some (.loop (rec .ready)):=(dZ.rest _ bw mS (by simp)).trans xw;have xy:w.heap.size+1<gk.heap.size:=(x6.1 Dc).1;have gC:v1 (w.heap.size+1)=none:=dZ.jw _ bw mS;have AN:v1 w.heap.size=none:=dZ.jw _ (by omega) ui;refine⟨_,run_beginRound Dc (by rw[mV]),ya (aa _ ?_) ?_⟩;intro b z hg;have an:b≠w.heap.size+1:=λe=>by rw[e,gC] at hg;cases hg
    exact(mu an).trans (dZ.sub b z hg);rintro e a2 h7 ⟨rfl,v2,rC,dQ⟩;have M0:(gk.putObj (w.heap.size+1) (.loop {rec .ready with state:=.busy})).heap[w.heap.size+1]?=some (.loop {rec .ready with state:=.busy}):=GM xy;have tk:h7.heap[w.heap.size+1]?=some (.loop {rec .ready with state:=.busy}):=(dQ.rest _ (by simpa using xy) gC (by simp)).trans M0;have M5:w.heap.size+1<h7.heap.size:=(x6.1 tk).1;have ia:v2 (w.heap.size+1)=none:=dQ.jw _ (by simpa using xy) gC;have pZ:=run_endRound (P:=P) none tk;have LR:({{rec .ready with state:=TX} with state:=if(none:aA jg).isNone then .ready else .done,pending:=none}:Loop)=rec .ready:=by rw[mV];rfl
    rw[LR] at pZ;refine⟨_,_,pZ,.bool ak,v2.ins (w.heap.size+1) (.loop (rec .ready)),rfl,⟨[.bool ak],.cons (t:=.bool) ak .nil,rfl,?_⟩,?_⟩;exact oi _ ⟨v2,rfl,ia,dQ.jw _ (by have:=dZ.size;simp;omega) AN,rC⟩;refine⟨λb z hg=>?_,dQ.os.trans dZ.os,dQ.tape.trans dZ.tape,dQ.output.trans dZ.output,jo dZ.drawn dQ.drawn,?_,λb aa fo _=>?_,λb aa fo=>?_,[],by simp,by simp⟩;unfold H.ins at hg;split at hg;rename_i eA;subst eA;cases hg;exact GM M5;rename_i eA;rw[mu eA];exact dQ.sub b z hg;have h1:=dZ.size;have h2:=dQ.size;simp at h2 ⊢;omega;have an:b≠w.heap.size+1:=λe=>by rw[e,bi] at fo;cases fo
    rw[bq _ _ an] at fo;have io:b<gk.heap.size:=JN aa dZ.size;rw[mu an,dQ.rest b (by simpa using io) (dZ.jw b aa fo) (by simp),mu an];exact dZ.rest b aa fo (by simp);have an:b≠w.heap.size+1:=λe=>by rw[e,bi] at fo;cases fo
    rw[bq _ _ an] at fo ⊢;exact dQ.jw b (by have:=dZ.size;simp;omega) (dZ.jw b aa fo)
   |_=>exact ad.elim)
  _ (λb6=>∃v0,b6=v0.ins (w.heap.size+1) (.loop (rec .ready))/\v0 (w.heap.size+1)=none/\v0 w.heap.size=none/\∃s,En s/\cY s v0) ⟨u,rfl,xz,C0,h0⟩ (λs _ ag ⟨v0,a,b,c,d⟩=>⟨v0,a,b,c,s,ag,d⟩)
 obtain⟨xi,CY,cap,Fh,AR,hL⟩:=hL
 rw[Fh] at fw
 refine⟨w.heap.size+1,[{target:=.collected w.heap.size,args:=#[]}],jj,{target:=.fn (.func xi) cap,args:=CY++ #[.func (.yield (w.heap.size+1)) #[] #[]]},jj,xi,
  CY++ #[.func (.yield (w.heap.size+1)) #[] #[]]++cap,jj,?_,?_,λ_ _=>trivial,?_,λh=>by simp[u2] at h,?_⟩
 rw[<-jZ,mV];exact ack _ _ _ _ _
 simp only[resolve,fw]
 simp[go_sem]
 simp[invoke,go_sem,ac xi _ _ AR]
 refine OU.2 ((hL jj NS).mono ?_)
 rintro e h7 ⟨v,u',rfl,⟨vs,hk,rfl,I⟩,ag⟩
 cases hk
 obtain⟨v0,rfl,mS,ui,s,FV,aN⟩:∃v0:H,u'=v0.ins (w.heap.size+1) (.loop (rec .ready))/\v0 (w.heap.size+1)=none/\v0 w.heap.size=none/\∃s,En s/\cY s v0:=I
 have tk:h7.heap[w.heap.size+1]?=some (.loop (rec .ready)):=ag.sub _ _ (bi _ _ _)
 have Md:h7.heap[w.heap.size]?=some (.deferred (some [])):=by rw[ag.rest _ (by omega) (by rw[bq _ _ (by omega)];exact C0) (by simp)];exact E1
 have pZ:(Instr.endLoop (w.heap.size+1)).run P h7=.ok none (h7.putObj (w.heap.size+1) (.loop {rec .ready with state:=.exhausted})):=by have:=run_endLoop (P:=P) tk (by rw[mV];simp);rw[this];rw[mV]
 refine⟨none,_,pZ,rfl,rfl,w.heap.size,_,?_,av s v0 w.heap.size FV aN ui,?_⟩
 simp[Mz,Ly]
 have uI:=ag.size
 refine⟨λb z hg=>?_,?_,?_,?_,?_,by simp;omega,λb aa fo _=>?_,λb aa fo=>?_,[],by simp,by simp⟩
 unfold H.ins at hg
 split at hg
 rename_i eA;subst eA;cases hg
 rw[mu (by omega)];exact Md
 have an:b≠w.heap.size+1:=λe=>by rw[e,mS] at hg;cases hg
 rw[mu an]
 exact ag.sub b z (by rw[bq _ _ an];exact hg)
 exact ag.os.trans (by rw[<-jZ];rfl)
 exact ag.tape.trans (by rw[<-jZ];rfl)
 exact ag.output.trans (by rw[<-jZ];rfl)
 exact jo (by rw[<-jZ];exact cC _) ag.drawn
 have an:b≠w.heap.size+1:=by omega
 rw[mu an,ag.rest b (by omega) (by rw[bq _ _ an];exact fo) (by simp)]
 exact hold b aa
 have an:b≠w.heap.size+1:=by omega
 have:=ag.jw b (by omega) (by rw[bq _ _ an];exact fo)
 rw[bq _ _ an] at this
 rw[bq _ _ (by omega)];exact this
def nw.aqI{P:dT}{c:jg}{t:N}{u:H}{K:N->H->Prop}(I:c=.rangeFunc (.tmp t) #[x,x2] (zU c) (zV c))(h:nw P (.rangeFunc (.tmp t) #[x,x2] (zU c) (zV c)) n env u K):nw P c n env u K:=by rw[I];exact h
end
def kA(st:o):o:=bo.wrap (st+11400714819323198485)
def uY(x:o):o:=
 bits .xor .u64 (bo.wrap (bits .xor .u64 (bo.wrap (bits .xor .u64 x (ev x (2 ^ 30))*13787848793156543929)) (ev (bo.wrap (bits .xor .u64 x (ev x (2 ^ 30))*13787848793156543929)) (2 ^ 27))*10723151780598845931))
  (ev (bo.wrap (bits .xor .u64 (bo.wrap (bits .xor .u64 x (ev x (2 ^ 30))*13787848793156543929)) (ev (bo.wrap (bits .xor .u64 x (ev x (2 ^ 30))*13787848793156543929)) (2 ^ 27))*10723151780598845931)) (2 ^ 31))
def apX(op:BinOp)(x y:o):cz (bits op .u64 x y):=by have:=wf_bits op .u64 x y;simp[Lit.wf,G1,G2,GG,GH] at this;unfold cz;omega
def aGe(x:o):cz (bo.wrap x):=by have:=wf_wrap .u64 x;simp[Lit.wf,G1,G2,GG,GH] at this;unfold cz;omega
def akX(x:o):cz (uY x):=apX _ _ _
def aH1(x:o):cz (kA x):=aGe _
def afl{x n:o}(J:cz x)(h1:1<=n)(h2:n<=1000000000):bo.wrap n≠0/\bY.wrap (k8 x (bo.wrap n))=x%n:=by have aQ:bo.wrap n=n:=oD n (by omega);have aF:k8 x n=x%n:=O2 J.1;have h3:=O9 x (show n≠0 by omega);have a7:=Pa x (show 0<n by omega);rw[aQ,aF];exact⟨by omega,J3 _ (by omega)⟩
def amN{src:N}{st:o}{u:H}{K:o->H->Prop}(h:u src=some (.cells #[.int .u64 st] 215 (0,0)))
  (av:K (uY (kA st)) (u.ins src (.cells #[.int .u64 (kA st)] 215 (0,0)))):Hy (some ⟨src,0,none⟩) u K:=by
 apply aoc
 exact⟨λh=>(by cases h),λ_=>⟨_,rfl,st,a8 h 0,_,rfl,Hj h (by simp[cK]) ⟨_,rfl,_,a8 (bi _ _ _) 0,by omega,by omega,by omega,av⟩⟩⟩
def aBj{src:N}{st n:o}{u:H}{K:o->o->H->Prop}(h:u src=some (.cells #[.int .u64 st] 215 (0,0)))(h1:1<=n)(h2:n<=1000000000)
  (av:K (uY (kA st)%n) 0 (u.ins src (.cells #[.int .u64 (kA st)] 215 (0,0)))):VP (some ⟨src,0,none⟩) n u K:=by
 obtain⟨aQ,aF⟩:=afl (akX (kA st)) h1 h2
 apply aEy
 apply adW
 refine⟨λh=>(by cases h),λ_=>⟨λh=>by omega,λ_=>⟨λh=>by omega,λ_=>⟨λh=>aV rfl h,λ_=>amN h ⟨aQ,?_⟩⟩⟩⟩⟩
 rw[aF]
 exact av
def permA:N->o->M o->M o
 |0,_,l=>l|i+1,st,l=>permA i (kA st) (jU l (i+1) (uY (kA st)%((i:o)+2)).toNat)
def pB(n:N):M o:=(lz n).map λi:N=>(i:o)
def u1(st:o)(n:N):M o:=permA (n-1) st (pB n)
def ay3:∀(i:N) (st:o) (l:M o),i<l.length->(permA i st l).Perm l:=by
 intro i;induction i with
 |zero=>intro st l _;exact .refl _
 |succ i aM=>intro st l h;have h3:=O9 (uY (kA st)) (show(i:o)+2≠0 by omega);have a7:=Pa (uY (kA st)) (show 0<(i:o)+2 by omega);unfold permA;exact(aM _ _ (by rw[pK];omega)).trans (Eb h (by omega))
def ak5(st:o)(n:N):(u1 st n).Perm (pB n):=by
 unfold u1;cases n with
 |zero=>exact .refl _|succ n=>exact ay3 _ _ _ (by simp[pB])
