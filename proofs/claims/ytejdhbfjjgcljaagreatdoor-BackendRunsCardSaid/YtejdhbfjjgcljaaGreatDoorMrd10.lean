/- Texts of mine, joined and packed by pack.py. -/
import Derived.Test.YtejdhbfjjgcljaaGreatDoorMrd9
set_option linter.all false
open _root_ renaming List->J,Nat->O,Option->aA,Int->o,Bool->ay,absurd->bf
open Go renaming Program->dL,Value->ap,World->ci,Addr->a8,TypeId->dC
open Bool renaming true->ai,false->ao
open Go.Obj renaming cells->bt
open Go.IntKind renaming i64->b2,u64->bu
open Go.Instr renaming sliceAt->fZ,buildSlice->dA
open Go.Builtin renaming append_->dO,zeroCells->wy
open Go.Addr renaming add->er,mk->cp
open Go.Proofs.Tryz renaming prog->aH
open Go.Value renaming agg->cz,int->cN,func->js,pointer->ha,slice->ed,oneCell'->cI
open List.Perm renaming cons->j9
open List.Pairwise renaming nil->mG
open List renaming flatMap->wC
set_option maxRecDepth 100000
noncomputable section
namespace Go.Proofs.YtejdhbfjjgcljaaGreatDoor
open H
namespace lr
section
variable{u ak ub u':H}{h:ev}{b:O}{d:o}{s:N}{v q:J o}{f:H->Prop}{K:ay->o->H->Prop}{ks:J aw}
structure Ag(ak u:H)(ah:O->aA bB)(b:O)(T:aU)(id:o)(u':H)(aY:O->aA bB)(bD:aU):Prop where
 is:In ak u' aY b bD
 eJ:hM u ah u' aY
 ok:dX bD
 rows:bi bD=(bi T).filter λx=>x.1 !=id
 dim:bD.dim=T.dim
 leaf:bD.leaf=T.leaf
 eW:bD.eW=T.eW
theorem s8(w:J (o×(N×J o)))(x:o):(gm (ec w) x=none/\x∉w.map (·.1))∨∃e,e∈w/\e.1=x/\gm (ec w) x=some (.slice e.2.1.a e.2.1.n e.2.1.c):=by
 cases h:gm (ec w) x with
 |none=>
  left;have:=yL.1 h;unfold ec at this
  grind|some v=>
  right;have:=Lw h;obtain⟨e,he,aN⟩:=bQ.1 this
  grind
def nQ(T:aU):(bi T).map (·.1)=T.w.map (·.1):=by unfold bi;rw[e4];rfl
def CC(w:J (o×(N×J o)))(id:o):(ec w).filter (λp=>p.1 !=id)=ec (w.filter λe=>e.1 !=id):=by unfold ec;rw[sB];rfl
theorem wL{ah:O->aA bB}{T:aU}{id:o}(h:In ak u ah b T)(aV:dX T)(jk:T.eW<=4000)(dR:id∉T.w.map (·.1)->∀u',u.le u'->K ao 0 u')
  (jD:id∈T.w.map (·.1)->∀u' aY bD,Ag ak u ah b T id u' aY bD->K ai 0 u'):Qg (some ⟨b,0,none⟩) id u K:=by
 apply aHB
 intro n0 fJ
 obtain⟨aR,gB⟩:∃aR,aR=u.ins n0 (.cells #[.int .i64 id] 3 (0,0)):=⟨_,rfl⟩
 have dN:u.le aR:=by rw[gB];exact bX _ fJ
 have d0:aR n0=some (.cells #[.int .i64 id] 3 (0,0)):=by rw[gB];exact bh _ _ _
 rw[<-gB]
 have i1:=mP.mono bO h dN
 have aJ:=i1.aJ
 refine⟨λe=>(by cases e),λ_=>⟨_,rfl,_,aZ aJ.cell 4,id,aZ d0 0,?_⟩⟩
 rcases s8 T.w id with⟨Z,hm⟩|⟨e,he,cy,Z⟩
 refine tU je aJ.map (ct:=.slice) (⟨none,0,0⟩:N) (by rw[Z];rfl) ⟨λ_=>dR hm aR dN,λM=>?_⟩
 rw[Z] at M;cases M
 have ch:id∈T.w.map (·.1):=bQ.2 ⟨e,he,cy⟩
 refine tU je aJ.map (ct:=.slice) e.2.1 (by rw[Z];rfl) ⟨λM=>?_,λ_=>?_⟩
 rw[Z] at M;exact bf rfl M
 refine⟨_,rfl,_,aZ aJ.cell 4,id,aZ d0 0,?_⟩
 refine OV je aJ.map λz iF=>?_
 obtain⟨hn,uX⟩:∃hn,hn=aR.ins T.m z:=⟨_,rfl⟩
 rw[<-uX] at iF ⊢
 have lA:∀{c},ah c≠some .map->c≠T.m:=λI e=>I (by rw[e];exact aJ.dy)
 have Xe:∀c z,aR c=some z->c≠T.m->hn c=some z:=λc cn I an=>by rw[uX,bz _ _ an];exact I
 have m10:hn T.m=some z:=by rw[uX];exact bh _ _ _
 have ayO:n0≠T.m:=λe=>by
  have:=h.known T.m (by rw[h.aJ.dy];simp)
  grind
 intro n11 y7
 refine lZ (zs:=[.nilFunc]) rfl (by simp[cI]) ?_
 obtain⟨rH,qN⟩:∃rH,rH=(bt [js (.func 276) #[] #[.pointer (some ⟨n0,0,none⟩),.pointer (some ⟨n11,0,none⟩)]].toArray 324 (0,0)):=⟨_,rfl⟩
 rw[<-qN]
 obtain⟨gK,xH⟩:∃gK,gK=hn.ins n11 rH:=⟨_,rfl⟩
 rw[<-xH]
 have rC:hn.le gK:=by rw[xH];exact bX _ y7
 have d11:gK n11=some rH:=by rw[xH];exact bh _ _ _
 have uq:∀c cn,aR c=some cn->c≠T.m->gK c=some cn:=λc cn I an=>rC c cn (Xe c cn I an)
 have K5:gK b=some (.cells (fx T).toArray 174 (0,0)):=uq b _ aJ.cell (lA (by rw[aJ.dQ];simp))
 obtain⟨n,ag⟩:∃n,T.root=some n:=by
  cases U:T.root with
  |some n=>exact⟨n,rfl⟩|none=>have h1:=aV.rows.length_eq;unfold lG at h1;rw[U] at h1;have h2:=List.length_pos_of_mem he;simp[bi] at h1;omega
 obtain⟨di,dv,ef,hl⟩:=aJ.one n ag
 have uz:gK.cell? ((cp b 0 none).add 3)=some (.pointer (some ⟨n.b,0,none⟩)):=by
  have M:fx T=[.int .i64 T.dim,.int .i64 T.leaf,.pointer (some ⟨T.src,0,none⟩),.pointer (some ⟨n.b,0,none⟩),.map (some T.m)]:=by simp[fx,ag]
  rw[M] at K5;exact aZ K5 3
 refine⟨_,rfl,_,by rw[qN] at d11;exact aZ d11 0,_,uz,_,_,_,rfl,hs K3,?_⟩
 obtain⟨ub,cC⟩:∃ub:H,ub=λc=>open Classical in if c∈n.own then none else gK c:=⟨_,rfl⟩
 have DX:∀{c},c∈n.own->ub c=none:=λI=>by rw[cC];exact b3 I
 have ja:∀{c},c∉n.own->ub c=gK c:=λI=>by rw[cC];exact bF I
 have lub:ub.le gK:=λc cn I=>by
  grind
 have nT:∀{c},ah c≠some .node->c∉n.own:=λI e=>I (ef _ e)
 have ayP:n0∉n.own:=λe=>h.known n0 (by rw[ef n0 e];simp) fJ
 have ayS:n11∉n.own:=λe=>by
  have h1:=i1.known n11 (by rw[ef n11 e];simp);obtain⟨cn,bR⟩:=fp.1 h1
  grind
 have pd:ub.cell? ⟨n0,0,none⟩=some (.int .i64 id):=by
  have z0:ub n0=some (.cells #[.int .i64 id] 3 (0,0)):=by grind
  exact aZ z0 0
 have iO:ub.cell? ⟨n11,0,none⟩=some (.func (.func 276) #[] #[.pointer (some ⟨n0,0,none⟩),.pointer (some ⟨n11,0,none⟩)]):=by
  have jw:ub n11=some rH:=by grind
  rw[qN] at jw;exact aZ jw 0
 have jn:∀x∈n.bT,hL gK x:=λx M=>(di x M).bO (λc cn I bR=>uq c cn bR (lA (by rw[ef c (eA.2 ⟨x,M,I⟩)];simp))) λr U=>bw.else ((di x M).vec r U) λg cn Z bR=>uq g cn bR (lA (by grind))
 have ni:∀x∈n.bT,∀r∈x.1.rows,Ints ub r.s r.v:=λx M r U=>bw.else ((di x M).vec r U) λg cn Z bR=>by
  grind
 have dm:=aV.size n ag
 refine ac6 pd iO n lub jn dv (λc I=>DX I) ni (by omega) λu16 n' av eC kj=>?_
 have yG:∀c cn,aR c=some cn->c≠T.m->c∉n.own->u16 c=some cn:=λc cn I an Zz=>eC c cn (uq c cn I an) Zz
 have Qz:u16 b=some (.cells (fx T).toArray 174 (0,0)):=yG b _ aJ.cell (lA (by rw[aJ.dQ];simp)) (nT (by rw[aJ.dQ];simp))
 have Zr:fE u16 T.m (ec (T.w.filter λe=>e.1 !=id)):=by rw[<-CC];exact iF.else λcn bR=>eC _ _ (rC _ _ bR) (nT (by rw[aJ.dy];simp))
 have aHQ:∀{s:N} {v:J o},Ints aR s v->(∀g,s.al=some g->ah g=some .vec)->Ints u16 s v:=λhi Z=>bw.else hi λg cn cu bR=>yG g cn bR (lA (by rw[Z g cu];simp)) (nT (by rw[Z g cu];simp))
 obtain⟨bD,dZ⟩:∃bD:aU,bD={T with root:=some n',w:=T.w.filter λe=>e.1 !=id}:=⟨_,rfl⟩
 have AR:bi bD=(bi T).filter λx=>x.1 !=id:=by rw[dZ];unfold bi;rw[sB];rfl
 have aa5:∀c,aR c≠none->u16 c≠none:=λc I=>kj c λe=>by
  by_cases aN:c=T.m;rw[aN,rC _ _ m10] at e;cases e;obtain⟨cn,bR⟩:=fp.1 I
  grind
 refine jD ch u16 ah bD ⟨⟨?_,λc cn I=>?_,h.out,λc I=>aa5 c (i1.known c I)⟩,⟨λc cn I ab=>yG c cn (dN c cn I) (lA (by rw[ab];simp)) (nT (by rw[ab];simp)),λc I=>.inl I⟩,?_,AR,by rw[dZ],by rw[dZ],by rw[dZ]⟩
 subst dZ
 refine⟨?_,aJ.dQ,Zr,aJ.dy,aJ.src.elim λst ae=>⟨st,yG _ _ ae (lA (by rw[aJ.ie];simp)) (nT (by rw[aJ.ie];simp))⟩,aJ.ie,λhd fW=>?_,λez fK=>?_⟩
 rw[Qz]
 simp[fx,ag,av.b]
 obtain⟨v1,v2⟩:=aJ.vec hd (kZ.1 fW).1
 grind
 obtain rfl:=eh (show some n'=some ez from fK)
 exact⟨av.one,by rw[av.own];exact dv,λc I=>ef c (by rw[<-av.own];exact I),λx M r U g Z=>by obtain⟨y,aj,M4⟩:=av.rows x M r U;exact hl y aj r M4 g Z⟩
 have YR:=h.out
 have h1:=h.le c cn I
 have ab:ah c=none:=by grind
 exact yG c cn (dN c cn h1) (lA (by rw[ab];simp)) (nT (by rw[ab];simp))
 have IG:=aV.ok n ag
 refine⟨by rw[dZ];exact aV.hP,by rw[dZ];exact aV.Bk,λhd fW=>?_,λhd fW=>?_,?_,?_,λez fK=>?_,λez fK=>?_,λez fK=>?_,λez fK=>?_⟩
 rw[dZ] at fW;exact aV.ids hd (kZ.1 fW).1
 rw[dZ] at fW ⊢;exact aV.vec hd (kZ.1 fW).1
 rw[dZ];exact jW (DE _ _) aV.small
 rw[AR]
 have U:=aV.rows
 rw[dZ]
 unfold lG at U ⊢
 rw[ag] at U
 show n'.bG.all.Perm _
 rw[av.bG,bI.W6]
 exact U.filter _
 rw[dZ] at fK ⊢
 obtain rfl:=eh (show some n'=some ez from fK)
 rw[av.bG]
 exact bI.afY IG
 rw[dZ] at fK
 obtain rfl:=eh (show some n'=some ez from fK)
 rw[av.bG]
 exact(aV.oA n ag).del
 rw[dZ] at fK
 obtain rfl:=eh (show some n'=some ez from fK)
 rw[av.bG]
 exact(aV.bin n ag).del
 rw[dZ] at fK ⊢
 obtain rfl:=eh (show some n'=some ez from fK)
 rw[<-aw.Jq,av.bG,bI.afZ,aw.Jq]
 exact dm
theorem pn{α:Type}:∀{a b:J α},a.Nodup->(∀x∈a,x∈b)->a.length<=b.length/\(b.length<=a.length->a.Perm b)
 | [],b,_,_=>⟨pu _,λh=>by
  simp_all⟩|x::a,b,ag,ae=>by
  obtain⟨s,t,rfl⟩:=acn (ae x (ik ..));rw[ka] at ag;have fS:∀y∈a,y∈s++t:=λy aj=>by
   grind
  obtain⟨h1,h2⟩:=pn ag.2 fS;rw[gG] at h1 h2;refine⟨by simp;omega,λaq=>?_⟩;have:=h2 (by simp at aq;omega);exact(j9 x this).trans zJ.symm
def zr{α β:Type}{f:α->β}:∀{l:J α},(l.map f).Nodup->l.Nodup
 | [],_=>.nil|x::l,h=>by rw[iw,ka] at h;rw[ka];exact⟨λM=>h.1 (kH M),zr h.2⟩
theorem zU{ah:O->aA bB}{T:aU}{K:N->H->Prop}(h:In ak u ah b T)(aV:dX T)(au:∀s ls u',re u u' s ls->(ls.map ax.bn).Perm (bi T)->(ls.Pairwise λa b=>a.id<=b.id)->K s u'):
  aeU (some ⟨b,0,none⟩) u K:=by
 have fX:=aV.small
 apply aHG
 refine⟨λe=>(by cases e),λ_=>⟨_,rfl,_,aZ h.aJ.cell 4,J8 je h.aJ.map λr z U xp=>?_⟩⟩
 have iG:=bX (u:=u) (b:=r) z U
 refine⟨λs w=>∃rw:J ax,nx w r T.m (ec T.w) (rw.map λx=>(x.id,.slice x.s.a x.s.n x.s.c))/\aD u w 52 2 s (rw.flatMap cJ)/\s.al≠some r/\∀x∈rw,(x.id,(x.s,x.v))∈T.w,λs _=>1000000-s.n,
  ⟨[],xp,aD.nil iG _ _,by simp[N.al],λx M=>(by cases M)⟩,?_⟩
 rintro s w ⟨rw,fs,ac,tt,mA⟩
 have dS:s.n=rw.length:=hf fO (by decide) ac.own.cK
 have lc:rw.length<=512:=by
  have h1:=fs.sub;have h2:=fs.Cw;rw[e4] at h2;have h3:(rw.map (·.id)).length<=(T.w.map (·.1)).length:=(pn h2 λx M=>by
   grind).1
  rw[eb,eb] at h3;omega
 refine Jj fs (λgF=>?_) λp hT ad AZ pU=>?_
 have b7:dU w s rw:=⟨ac.own.cK,λx M=>((h.aJ.vec _ (mA x M)).1).mono ac.le⟩
 have pY:(rw.map ax.bn).Perm (bi T):=by
  have b8:=fs.Cw;rw[e4] at b8;have hlen:=gF.length_eq;simp only[eb,ec] at hlen;have og:(T.w.map (·.1)).Nodup:=by rw[<-nQ];exact h.aJ.rW
  have gR:∀x∈rw.map ax.bn,x∈bi T:=λx M=>by obtain⟨y,aj,rfl⟩:=bQ.1 M;exact bQ.2 ⟨_,mA y aj,rfl⟩
  have tl:(rw.map ax.bn).Nodup:=by have:(rw.map (·.id)).Nodup:=b8;rw[show rw.map (·.id)=(rw.map ax.bn).map (·.1) by rw[e4];rfl] at this;exact zr this
  exact(pn tl gR).2 (by simp[bi];omega)
 refine zV b7 (λx M=>aV.ids _ (mA x M)) (by omega) (λx M=>?_) λs2 ls cF oM eX dJ=>?_
 have mx:(x.v.length:o)=T.dim:=(aV.vec _ (mA x M)).1
 have:=aV.hP
 omega
 exact au s2 ls cF ⟨oM.own.weaken ac.le,λr U=>(oM.inner r U).weaken ac.le,oM.ej,oM.apart⟩ (eX.trans pY) dJ
 obtain⟨e,he,MX⟩:=bQ.1 ad
 subst MX
 refine HR pU ?_
 have dt:aD u (w.ins r hT) 52 2 s (rw.flatMap cJ):=ac.xO U tt hT
 refine mn ig (vI e.1 e.2.1) (by decide) rfl (by simp[cI]) dt (by show s.n<_;omega) (by omega) λar u' bR hY fW fC _=>⟨⟨rw++ [⟨e.1,e.2.1,e.2.2⟩],?_,?_,λaN=>?_,λx M=>?_⟩,?_⟩
 rw[en]
 refine pU.else (λcn jT=>fW _ _ jT λdG=>?_) λcn jT=>fW _ _ jT tt
 have:=ac.fresh _ dG
 exact h.known T.m (by rw[h.aJ.dy];simp) this
 rw[hb];exact bR
 rcases fC r aN with br|br
 exact tt br
 rw[bh] at br;cases br
 grind
 grind
def parts(X:aU):J bI:=(X.root.map aw.bG).toList
def ad6(X:aU)(q:J o)(k aK:o):mS:=o1 q k aK (parts X)
def iT(X:aU)(q:J o)(k aK:o):J bN:=yj q k (ad6 X q k aK)
def gv(X:aU)(q:J o)(k aK:o):J o:=cR ((ad6 X q k aK).seen.map (·.1))
def jF(X:aU)(q:J o)(k aK:o):J (o×o×J o×J o×J o):=(ou (ad6 X q k aK)).map pN
def Gc(X:aU):bI.j2 (parts X)=lG X:=by
 unfold parts lG;cases X.root with
 |none=>rfl|some n=>show n.bG.all++ []=_;rw[ml]
def adJ:ku aH 211=some (167,1,8,[.pointer none]):=by kernel_rfl
def WN(n:O):kO aH 211 1 #[(0,.pointer (some ⟨n,0,none⟩))]=some (167,[.pointer (some ⟨n,0,none⟩)]):=by kernel_rfl
theorem GO{ah:O->aA bB}{T:aU}{t:N}{k aK:o}{K:N->N->N->o->H->Prop}(h:In ak u ah b T)(aV:dX T)(jk:T.eW<=2700)(ht:Ints u t q)
  (dq:h7 q T.dim k aK≠0->K ⟨none,0,0⟩ ⟨none,0,0⟩ ⟨none,0,0⟩ (h7 q T.dim k aK) u)
  (bM:h7 q T.dim k aK=0->∀aC ss a6 rest u',iI u u' aC ss a6 (iT T q k aK) (gv T q k aK) rest->rest.map b1.core=jF T q k aK->K aC ss a6 0 u'):aeV (some ⟨b,0,none⟩) t k aK u K:=by
 apply aHH
 refine⟨λe=>(by cases e),λ_=>⟨_,rfl,_,aZ h.aJ.cell 0,Ka ht ⟨λan=>dq an,λhe=>?_⟩⟩⟩
 obtain⟨aB,cB,cW,fH,e7⟩:=Cr.1 he
 obtain⟨_,_,uR,xL⟩:=n1 aB
 have bM:=bM he
 have yR:(bI.j2 (parts T)).length<=100000:=by rw[Gc,aV.rows.length_eq];have:=aV.small;simp[bi];omega
 have kT:∀x∈bI.j2 (parts T),(x.2.length:o)=q.length/\cY x.2:=λx M=>by
  rw[Gc] at M;obtain⟨e,fW,rfl⟩:=bQ.1 (aV.rows.mem_iff.1 M);obtain⟨v1,v2⟩:=aV.vec e fW
  grind
 have dm:bI.hB (parts T)<=4000000:=by
  unfold parts;cases U:T.root with
  |none=>show 0<=_;omega|some n=>have:=aV.size n U;show n.bG.size+0<=_;rw[aw.Jq];omega
 have ZQ:∀p∈parts T,gr q.length p:=λp ad=>by
  unfold parts at ad;cases U:T.root with
  |none=>rw[U] at ad;cases ad
  |some n=>
   rw[U] at ad;obtain rfl:p=n.bG:=by simpa using ad
   rw[uR];exact aV.ok n U
 have walk:∀(s:N) (ms:J O) (W:H),u.le W->bw W s 1 (ms.map λn=>.pointer (some ⟨n,0,none⟩))->ms.length=(parts T).length->(∀(i:O) m p,ms[i]?=some m->(parts T)[i]?=some p->nA W m p)->D3 s t k aK W (λoz OS ga o0=>K oz OS ga 0 o0):=by intro s ms W aE ae hlen ad;refine ac7 ae hlen ad ZQ (ht.mono aE) xL cB cW fH e7 dm yR kT λaC ss a6 R u' az AM=>bM aC ss a6 R u' ?_ AM;exact⟨az.h.weaken aE,az.s.weaken aE,az.r.weaken aE,λr U=>⟨(az.g r U).l.weaken aE,(az.g r U).h.weaken aE,(az.g r U).i.weaken aE⟩,az.ej⟩
 obtain⟨vd,zc⟩:∃vd:aA a8,vd=T.root.map λn=>⟨n.b,0,none⟩:=⟨_,rfl⟩
 have K8:u.cell? ((cp b 0 none).add 3)=some (.pointer vd):=by rw[zc];exact aZ h.aJ.cell 3
 refine⟨_,rfl,vd,K8,λuC=>?_,λan=>⟨_,rfl,vd,K8,?_⟩⟩
 cases U:T.root with
 |some n=>rw[U] at zc;rw[uC] at zc;cases zc
 |none=>exact walk ⟨none,0,0⟩ [] u (H.le.refl u) ⟨rfl,cw _,by decide,.inl rfl⟩ (by unfold parts;rw[U];rfl) λi m p hm=>by simp at hm
 cases U:T.root with
 |none=>rw[U] at zc;exact bf zc an
 |some n=>
  rw[U] at zc;rw[show vd=some ⟨n.b,0,none⟩ from zc];refine mK (WN n.b) λg Z=>?_;obtain⟨di,_⟩:=h.aJ.one n U;have dN:=bX (u:=u) (b:=g) (.cells [ha (some ⟨n.b,0,none⟩)].toArray 167 (0,0)) Z;have mk:=aD.make (k:=1) (H.le.refl u) Z (cells:=[ha (some ⟨n.b,0,none⟩)].toArray) (e:=167) (n:=1) (by omega) rfl;refine walk _ [n.b] _ dN mk.own.cK (by unfold parts;rw[U];rfl) λi m p hm ad=>?_;have hi:i=0:=by grind
  subst hi;obtain rfl:n.b=m:=eh hm;have fL:p=n.bG:=by unfold parts at ad;rw[U] at ad;exact(eh ad).symm
  rw[fL];exact(Ai.part di).mono dN
def Pl{X:aU}(h:dX X){k aK:o}(hk:1<=k)(aa:0<=aK)(av:(q.length:o)=X.dim){L:J ax}(cX:(L.map ax.bn).Perm (bi X))(aL:jx L q){rest:J b1}(U:rest.map b1.core=jF X q k aK):
  Sound L q k (iT X q k aK) (gv X q k aK) rest/\((gv X q k aK).length:o)<=aK/\(((gv X q k aK).length:o)=aK∨(gv X q k aK).length=L.length∨sO q k (iT X q k aK) rest):=by
 refine ad7 aa hk (λp ad=>?_) aL ?_ U
 unfold parts at ad
 cases cU:X.root with
 |none=>rw[cU] at ad;cases ad
 |some n=>
  rw[cU] at ad;obtain rfl:p=n.bG:=by simpa using ad
  rw[av];exact h.ok n cU
 rw[Gc]
 exact cX.trans h.rows.symm
def jE(l:J ax)(dim a:o):o:=if nr l dim≠0 then nr l dim else if a<1∨64<a then 1 else 0
structure D0(u:H)(l:J ax)(hP a:o)(u':H)(dx:O)(ah:O->aA bB)(T:aU):Prop where
 is:In u u' ah dx T
 ok:dX T
 rows:(bi T).Perm (l.map ax.bn)
 dim:T.dim=hP
 leaf:T.leaf=a
 eW:T.eW=0
def Az(r:ax):o×(N×J o):=(r.id,(r.s,r.v))
def Ph{n src:O}{a:o}{p jV:aA a8}{m:aA O}(h:u n=some (.cells #[.int .i64 d,.int .i64 a,.pointer (some ⟨src,0,none⟩),.pointer p,.map m] 174 (0,0)))
  (ab:f (u.ins n (.cells #[.int .i64 d,.int .i64 a,.pointer (some ⟨src,0,none⟩),.pointer jV,.map m] 174 (0,0)))):H.aM u (er (cp n 0 none) 3) [.pointer jV] f:=
 ⟨_,_,h,rfl,by simp[ib],by simp[cI],ab⟩
theorem Pa{l:J ax}{dim a seed:o}{K:aA a8->o->H->Prop}(ae:dU u s l)(dq:jE l dim a≠0->K none (jE l dim a) u)
  (bM:jE l dim a=0->∀u' dx ah T,D0 u l dim a u' dx ah T->K (some ⟨dx,0,none⟩) 0 u'):Wj s dim a seed u K:=by
 have bad:∀W,jE l dim a=W->W≠0->K none W u:=λW e aE=>by subst e;exact dq aE
 apply aHA
 refine Kb ae ⟨λan=>bad _ (by unfold jE;rw[b3 an]) an,λhe=>?_⟩
 have one:(a<1∨64<a)->K none 1 u:=λI=>bad 1 (by unfold jE;omega) (by decide)
 intro ny h2
 refine⟨λh=>one (.inl h),λY=>⟨λh=>one (.inr h),λa2=>h2 _ _ _ ?_⟩⟩
 have bM:=bM (by unfold jE;omega)
 clear bad one dq h2 ny
 have gX:=DF.1 he
 obtain⟨W8,W9⟩:=gX.dim
 have aiA:=gX.len
 apply ad0
 intro n6 sg
 obtain⟨q8,IN⟩:∃q8,q8=u.ins n6 (.cells #[.int .u64 seed] 215 (0,0)):=⟨_,rfl⟩
 have u5:u.le q8:=by rw[IN];exact bX _ sg
 have d6:q8 n6=some (.cells #[.int .u64 seed] 215 (0,0)):=by rw[IN];exact bh _ _ _
 rw[<-IN]
 refine GL λm qb hm iF=>?_
 have Iz:u m=none:=u5.none hm
 have agV:n6≠m:=λe=>by grind
 have qR:=bX (u:=q8) (b:=m) qb hm
 obtain⟨jg,sl⟩:∃jg,jg=q8.ins m qb:=⟨_,rfl⟩
 have Zp:jg m≠none:=by rw[sl,bh];simp
 rw[<-sl] at iF qR ⊢
 intro n8 rr
 have nJ:n8≠m:=λe=>by grind
 have av2:q8 n8=none:=qR.none rr
 have A1:u n8=none:=u5.none av2
 have XR:n6≠n8:=λe=>by grind
 obtain⟨mi,oO⟩:∃mi,mi=(bt #[.int .i64 dim,.int .i64 a,.pointer (some ⟨n6,0,none⟩),.pointer none,.map (some m)] 174 (0,0)):=⟨_,rfl⟩
 show rY s (jg.ins n8 (bt #[.int .i64 dim,.int .i64 a,.pointer (some ⟨n6,0,none⟩),.pointer none,.map (some m)] 174 (0,0))) _
 rw[<-oO]
 have rE:=bX (u:=jg) (b:=n8) mi rr
 obtain⟨u8,p3⟩:∃u8,u8=jg.ins n8 mi:=⟨_,rfl⟩
 have LG:u8 n8=some mi:=by rw[p3];exact bh _ _ _
 rw[<-p3] at rE ⊢
 have C4:u8 m≠none:=λe=>Zp (rE.none e)
 have Bl:u.le u8:=u5.trans (qR.trans rE)
 have d68:u8 n6=some (.cells #[.int .u64 seed] 215 (0,0)):=rE _ _ (qR _ _ d6)
 refine zV (ae.mono Bl) gX.id (by omega) (λr U=>by have:=(gX.v r U).1;omega) λgV ls hn b7 ad mB=>?_
 have Ig:ls.length=l.length:=by simpa using ad.length_eq
 have AY:gD ls dim:=by refine zP gX.dim (by omega) ?_ λp fL=>?_;rw[show ls.map (·.id)=(ls.map ax.bn).map (·.1) by rw[e4];rfl,(ad.map (·.1)).nodup_iff,e4];exact gX.nodup;obtain⟨r,U,rfl⟩:=bQ.1 (ad.mem_iff.1 fL);exact⟨(gX.id r U).1,(gX.id r U).2,(gX.v r U).1,(gX.v r U).2⟩
 have tA:=b7.own.le
 have ag0:gV.n=ls.length:=b7.rws.len
 have Da:gV.al≠some m:=λe=>C4 (b7.own.fresh m e)
 have Sq:gV.al≠some n8:=λe=>by have:=b7.own.fresh n8 e;grind
 have fR:∀r∈ls,r.s.al≠some m:=λr U e=>C4 ((b7.inner r U).fresh m e)
 have ZX:∀r∈ls,r.s.al≠some n8:=λr U e=>by have:=(b7.inner r U).fresh n8 e;grind
 have awK:gV.al≠some n6:=λe=>by have:=b7.own.fresh n6 e;grind
 have ajj:∀r∈ls,r.s.al≠some n6:=λr U e=>by have:=(b7.inner r U).fresh n6 e;grind
 refine⟨λx w=>0<=x/\x<=gV.n/\fE w m (ec ((ls.take x.toNat).map Az))/\(∀c z,hn c=some z->c≠m->w c=some z)/\w m≠none,λx _=>((gV.n:o)-x).toNat,⟨by omega,by omega,(iF.mono rE).mono tA,λc z I _=>I,λe=>C4 (tA.none e)⟩,?_⟩
 rintro x w ⟨bK,dr,vY,pT,vX⟩
 have xe:w n8=some mi:=pT _ _ (tA _ _ LG) nJ
 have afT:w n6=some (.cells #[.int .u64 seed] 215 (0,0)):=pT _ _ (tA _ _ d68) agV
 have r9:dU w gV ls:=⟨bw.else b7.own.own.cK λg z Z ac=>pT g z ac λe=>Da (by rw[Z,e]),λr U=>bw.else (b7.inner r U).ints λg z Z ac=>pT g z ac λe=>fR r U (by rw[Z,e])⟩
 refine⟨λM=>?_,λM=>?_⟩
 obtain⟨p,h8,r,U,bA,c1,_⟩:=r9.at bK M
 have eY:x.toNat<ls.length:=by omega
 refine⟨p,h8,⟨bK,M⟩,_,bA,_,c1,_,by rw[oO] at xe;exact aZ xe 4,?_⟩
 have an:gm (ec ((ls.take x.toNat).map Az)) r.id=none:=yL.2 λpX=>by unfold ec at pX;rw[e4,e4] at pX;obtain⟨W,aE,u1⟩:=bQ.1 pX;have aaV:W.id=r.id:=u1;have b8:=AY.nodup;rw[<-px x.toNat ls,en,hg] at b8;refine b8.2.2 W.id (kH aE) r.id (kH ?_) aaV;exact dz (i:=0) (by grind)
 refine DK je vY an λz Fj=>⟨⟨by omega,by omega⟩,⟨by omega,by omega,?_,λc cn I kS=>?_,by rw[bh];simp⟩,by dsimp only;omega⟩
 rw[show(x+1).toNat=x.toNat+1 by omega,fN,U,en]
 unfold ec at Fj ⊢
 rw[en]
 exact Fj
 rw[bz _ _ kS];exact pT c cn I kS
 .rw[gC (by omega)] at vY;obtain⟨ub,cC⟩:∃ub,ub=H.no (nY w gV) n6:=⟨_,rfl⟩;have aEa:ub n6=none:=by rw[cC];exact Ta _ _
  have an1:∀{c},c≠n6->gV.al≠some c->ub c=w c:=λh1 h2=>by rw[cC,Jk h1,nZ h2]
  have lub:ub.le w:=by rw[cC];exact(NW _ _).trans (DJ _ _)
  have A4:aD ub w 52 2 gV (ls.flatMap cJ):=⟨b7.own.own.le λc z I ac=>pT c z ac λe=>Da (by rw[I,e]),lub,λg Z=>by rw[cC];refine(NW _ _).none ?_;unfold nY;exact b3 Z⟩
  have G6:ub n8=some mi:=by grind
  have tv:∀r∈ls,Ints ub r.s r.v:=λr U=>bw.else (r9.2 r U) λg z Z ac=>by rw[an1 (λe=>ajj r U (by rw[Z,e])) ((b7.ej r U).symm g Z)];exact ac
  have p4:∀r∈ls,∀g,r.s.al=some g->ub g≠none/\g≠n8/\g≠m/\g≠n6:=λr U g Z=>by have aT:g≠m:=λe=>fR r U (by rw[Z,e]);have nE:g≠n6:=λe=>ajj r U (by rw[Z,e]);refine⟨λe=>?_,λe=>ZX r U (by rw[Z,e]),aT,nE⟩;obtain⟨z,ac⟩:=fp.1 (dH (b7.inner r U) Z);rw[an1 nE ((b7.ej r U).symm g Z),pT g z ac aT] at e;cases e
  have an6:∀c z,u c=some z->w c=some z/\gV.al≠some c:=λc z I=>⟨pT c z (tA c z (Bl c z I)) (λe=>(by grind)),λe=>(by have:=b7.own.fresh c e;rw[Bl c z I] at this;cases this)⟩;have DY:u.le ub:=λc z I=>by
   grind
  have aEc:ub m≠none:=by grind
  have fin:∀(root:aA aw) (oZ:H),(∀c z,w c=some z->gV.al≠some c->c≠n6->oZ c=some z)->Al oZ n6->(∀n,root=some n->(∀x∈n.bT,hL oZ x)/\n.own.Nodup/\(∀c∈n.own,ub c=none/\oZ c≠none/\c≠n6)/\(∀x∈n.bT,∀r∈x.1.rows,r∈ls)/\gr dim n.bG/\lM 3 n.bG/\j1 n.bG/\n.bT.length+1<=2*ls.length)->
    (match root with|none=>([]:J ke)|some n=>n.bG.all).Perm (ls.map ax.bn)->H.aM oZ (er (cp n8 0 none) 3) [.pointer (root.map λn=>⟨n.b,0,none⟩)] λk2=>K (some ⟨n8,0,none⟩) 0 k2:=by
   intro root oZ f1 agq f2 f3
   have LF:oZ n8=some mi:=f1 _ _ xe Sq (e3 XR)
   rw[oO] at LF
   refine Ph LF ?_
   obtain⟨T,aV⟩:∃T:aU,T=⟨dim,a,n6,root,m,ls.map Az,0⟩:=⟨_,rfl⟩
   obtain⟨k2,FE⟩:∃k2,k2=oZ.ins n8 (.cells #[.int .i64 dim,.int .i64 a,.pointer (some ⟨n6,0,none⟩),.pointer (root.map λn=>⟨n.b,0,none⟩),.map (some m)] 174 (0,0)):=⟨_,rfl⟩
   rw[<-FE]
   have g1:∀c z,oZ c=some z->c≠n8->k2 c=some z:=λc z I an=>by rw[FE,bz _ _ an];exact I
   have Gb:∀n,root=some n->n8∉n.own/\m∉n.own/\∀r∈ls,∀g,r.s.al=some g->g∉n.own:=λn ag=>by
    grind
   obtain⟨ah,ly⟩:∃ah:O->aA bB,ah=λc=>open Classical in if c=n8 then some .tree else if c=m then some .map else if ∃n,root=some n/\c∈n.own then some .node else if ∃r∈ls,r.s.al=some c then some .vec else if c=n6 then some .src else none:=⟨_,rfl⟩
   have gU:ah n8=some .tree:=by grind
   have du:ah m=some .map:=by grind
   have nU:∀n c,root=some n->c∈n.own->ah c=some .node:=λn c ag I=>by obtain⟨aT,aN,_⟩:=Gb n ag;rw[ly];show(if c=n8 then _ else _)=_;rw[bF (λe=>aT (by rw[<-e];exact I)),bF (λe=>aN (by rw[<-e];exact I)),b3 ⟨n,ag,I⟩]
   have tH:∀r∈ls,∀g,r.s.al=some g->ah g=some .vec:=λr U g Z=>by obtain⟨_,aT,aN,_⟩:=p4 r U g Z;rw[ly];show(if g=n8 then _ else _)=_;rw[bF aT,bF aN,bF (λ⟨n,ag,I⟩=>(Gb n ag).2.2 r U g Z I),b3 ⟨r,U,Z⟩]
   have abU:ah n6=some .src:=by grind
   have vd:∀c,ah c≠none->c=n8∨c=m∨(∃n,root=some n/\c∈n.own)∨(∃r∈ls,r.s.al=some c)∨c=n6:=λc I=>by
    grind
   have Px:∀r∈ls,Ints k2 r.s r.v:=λr U=>bw.else (r9.2 r U) λg z Z ac=>g1 g z (f1 g z ac ((b7.ej r U).symm g Z) (p4 r U g Z).2.2.2) (p4 r U g Z).2.1
   have Mm:bi T=ls.map ax.bn:=by rw[aV];unfold bi;rw[e4];rfl
   have LC:k2 n8=some (.cells (fx T).toArray 174 (0,0)):=by rw[FE,bh,aV];rfl
   have MC:fE k2 m (ec (ls.map Az)):=vY.else λz ac=>g1 m z (f1 m z ac Da (e3 agV)) (e3 nJ)
   refine bM k2 n8 ah T ⟨⟨⟨LC,gU,by rw[aV];exact MC,by rw[aV];exact du,by rw[aV];exact agq.elim λst c6=>⟨st,g1 _ _ c6 XR⟩,by rw[aV];exact abU,λe kz=>?_,λn ag=>?_⟩,λc z I=>?_,λc I=>?_,λc I=>?_⟩,⟨by grind,by grind,λe kz=>?_,λe kz=>?_,by grind,?_,λn ag=>?_,λn ag=>(by rw[aV] at ag;exact(f2 n ag).2.2.2.2.2.1),λn ag=>(by rw[aV] at ag;exact(f2 n ag).2.2.2.2.2.2.1),λn ag=>?_⟩,by rw[Mm];exact ad,by rw[aV],by rw[aV],by rw[aV]⟩
   rw[aV] at kz
   obtain⟨r,U,rfl⟩:=bQ.1 kz
   exact⟨Px r U,tH r U⟩
   rw[aV] at ag
   obtain⟨di,dv,ef,hl,_⟩:=f2 n ag
   obtain⟨aT,_,_⟩:=Gb n ag
   refine⟨λx M=>(di x M).bO (λc z I ac=>g1 c z ac λe=>aT (by rw[<-e];exact eA.2 ⟨x,M,I⟩)) λr U=>Px r (hl x M r U),dv,λc I=>nU n c ag I,λx M r U g Z=>tH r (hl x M r U) g Z⟩
   grind
   rcases vd c I with rfl|rfl|⟨n,ag,qH⟩|⟨r,U,pZ⟩|rfl
   exact A1
   exact Iz
   exact DY.none ((f2 n ag).2.2.1 c qH).1
   exact Bl.none ((b7.inner r U).fresh c pZ)
   exact sg
   rcases vd c I with rfl|rfl|⟨n,ag,qH⟩|⟨r,U,pZ⟩|rfl
   rw[LC];simp
   obtain⟨_,_,br,_⟩:=MC
   rw[br];simp
   obtain⟨z,ac⟩:=fp.1 ((f2 n ag).2.2.1 c qH).2.1
   grind
   obtain⟨z,ac⟩:=fp.1 (dH (b7.inner r U) pZ)
   obtain⟨_,aT,aN,nE⟩:=p4 r U c pZ
   rw[g1 c z (f1 c z (pT c z ac aN) ((b7.ej r U).symm c pZ) nE) aT];simp
   obtain⟨st,c6⟩:=agq
   rw[g1 c _ c6 XR];simp
   rw[aV] at kz
   obtain⟨r,U,rfl⟩:=bQ.1 kz
   exact AY.id r U
   rw[aV] at kz ⊢
   obtain⟨r,U,rfl⟩:=bQ.1 kz
   exact AY.v r U
   rw[Mm,aV]
   exact f3
   rw[aV] at ag ⊢
   exact(f2 n ag).2.2.2.2.1
   grind
  rw[oO] at G6;refine GP (src:=n6) (by omega) (aZ G6 1) (aZ G6 2) aEa ⟨_,afT⟩ awK A4 tv AY (λfi u' kE=>?_) λan u' n I=>?_;exact fin none u' (λc z I _ _=>kE c z I) ⟨_,kE _ _ afT⟩ (λn ag=>by cases ag) (by rw[fi];exact .refl _);exact fin (some n) u' (λc z dI kS Rg=>I.uv c z dI kS Rg) I.src (λn' hY=>by obtain rfl:=eh hY;exact⟨I.one,I.nodup,I.out,I.rows,I.ok,I.oA,I.bin,I.size⟩) I.all
def jc(h:ev)(v:J o):ev:={h with cD:=if h.cD<gb h.bm v h.bm.length then gb h.bm v h.bm.length else h.cD}
def WH(fM:h.aC=3)(ad:gr d (aw.mk h ks).bG):1<=d/\d<=64/\h.hi=[]/\cY h.bm/\(h.bm.length:o)=d/\jJ h.cD:=by have h1:=ad.kb;rw[aw.hz] at h1;obtain⟨av,_,_,ae⟩:=h1;rcases ae with⟨e,_⟩|⟨e,_⟩|⟨_,e⟩;have:h.aC=1:=e;omega;have:h.aC=2:=e;omega;exact⟨av.1,av.2,e.1,e.2.1,e.2.2.1,e.2.2.2⟩
theorem asm(h:ev)(v:J o):h.cD<=(jc h v).cD/\gb h.bm v h.bm.length<=(jc h v).cD:=by
 unfold jc
 grind
def XI(fM:h.aC=3)(ad:gr d (aw.mk h ks).bG)(aB:cY v)(Db:(v.length:o)=d):gr d (aw.mk (jc h v) ks).bG/\mq ((aw.mk (jc h v) ks).bG.hI []) v:=by
 obtain⟨d1,d2,E8,e7,fy,mV⟩:=WH fM ad;have h2:=ad.ins;have h3:=ad.kids;rw[aw.hz] at h2 h3;obtain⟨g1,g2⟩:=asm h v;have Aw:jJ (jc h v).cD:=by unfold jc;by_cases e:h.cD<gb h.bm v h.bm.length;simp only[b3 e];exact DP e7 aB (by omega);simp only[bF e];exact mV
 have aaY:mq ((aw.mk (jc h v) ks).bG.hI []) v:=by rw[aw.hz];refine⟨λe=>?_,λ_=>g2⟩;have:h.aC=2:=e;omega
 refine⟨?_,aaY⟩;rw[aw.hz];refine .mk ⟨⟨d1,d2⟩,mG,λx M=>(by cases M),.inr (.inr ⟨fM,E8,e7,fy,Aw⟩)⟩ (λx M=>?_) h3;have gn:x∈(bI.mk h.aC h.bm h.hi h.cD (h.rows.map ax.bn) (ks.map aw.bG)).all:=M;obtain⟨_,W⟩:=h2 x gn;refine⟨λe=>?_,λ_=>Int.le_trans (W fM) g1⟩;have:h.aC=2:=e;omega
def aDj(I:u h.b=some (.cells (eT h).toArray 213 (0,0)))(r:o)
  (ab:f (u.ins h.b (.cells (eT {h with cD:=r}).toArray 213 (0,0)))):H.aM u ((cp h.b 0 none).add 3) [.int .u64 (cQ r),.int .u64 (cS r)] f:=by
 exact⟨_,_,I,rfl,by simp[eT,ib],by simp[cI],ab⟩
theorem ac8{tz:J O}{K:o->o->H->Prop}(aB:Ints ub s v)(cC:ub.le u)(jn:hL u (h,tz))(b8:h.dE.Nodup)(lb:∀c∈h.dE,ub c=none)(Sp:∀r∈h.rows,Ints ub r.s r.v)(y4:cY h.bm)(p4:cY v)(h1:h.bm.length=v.length)(h0:1<=v.length)(tr:jJ h.cD)
  (au:∀x y u',hL u' (jc h v,tz)->(∀c z,u c=some z->c∉h.dE->u' c=some z)->(∀c,u c≠none->u' c≠none)->K x y u'):Wk (some ⟨h.b,0,none⟩) s u K:=by
 have gf:u h.b=some (.cells (eT h).toArray 213 (0,0)):=jn.cell
 apply aHL
 refine⟨_,rfl,h.bx,aZ gf 1,BN jn.bm.f.ints (aB.mono cC) y4 (by grind) p4 h1 λx y M aj hw=>⟨_,rfl,_,aZ gf 3,_,aZ gf 4,BO aj (rF _) ?_⟩⟩
 have hw:dw x y=gb h.bm v h.bm.length:=hw
 rw[l0,hw]
 by_cases e:h.cD<gb h.bm v h.bm.length
 refine⟨λ_=>⟨_,rfl,?_⟩,λag=>bf ?_ ag⟩
 obtain⟨ex,r2⟩:=z7 M aj
 rw[hw] at ex r2
 have Z:jc h v={h with cD:=gb h.bm v h.bm.length}:=by unfold jc;rw[b3 e]
 have key:H.aM u ((cp h.b 0 none).add 3) [.int .u64 (cQ (gb h.bm v h.bm.length)),.int .u64 (cS (gb h.bm v h.bm.length))] λgK=>K x y gK:=by
  refine aDj gf _ ?_;rw[<-Z];obtain⟨w,lh⟩:∃w,w=u.ins h.b (.cells (eT (jc h v)).toArray 213 (0,0)):=⟨_,rfl⟩;rw[<-lh];have s6:∀c z,u c=some z->c≠h.b->w c=some z:=λc z I an=>by rw[lh,bz _ _ an];exact I
  have lg:ub.le w:=λc z I=>s6 c z (cC c z I) λe=>by rw[e,lb h.b (ik ..)] at I;cases I
  have ck:∀g,(h.bx.al=some g∨h.fT.al=some g∨h.a6.al=some g∨h.dd.al=some g)->g≠h.b:=λg Z e=>by
   unfold ev.dE at b8
   grind
  refine au x y w ⟨?_,jn.bm.le λc z I ac=>s6 c z ac (ck c (.inl I)),jn.hi.le λc z I ac=>s6 c z ac (ck c (.inr (.inl I))),jn.rws.le λc z I ac=>s6 c z ac (ck c (.inr (.inr (.inl I)))),λr U=>(Sp r U).mono lg,bw.else jn.mf λc z I ac=>s6 c z ac (ck c (.inr (.inr (.inr I))))⟩ (λc z I hm=>s6 c z I λe=>hm (by rw[e];exact ik ..)) λc I=>?_;show w h.b=_;rw[lh];exact bh _ _ _;by_cases aN:c=h.b;rw[aN,lh,bh];simp;obtain⟨z,ac⟩:=fp.1 I;rw[s6 c z ac aN];simp
 rw[<-ex,<-r2] at key
 exact key
 omega
 have Z:jc h v=h:=by unfold jc;rw[bF e]
 refine⟨λad=>bf ad ?_,λ_=>au x y u (by rw[Z];exact jn) (λc z I _=>I) λc I=>I⟩
 omega
structure ug(ak u:H)(ah:O->aA bB)(b:O)(T:aU)(id:o)(v:J o)(u':H)(aY:O->aA bB)(bD:aU):Prop where
 is:In ak u' aY b bD
 eJ:hM u ah u' aY
 ok:dX bD
 rows:(bi bD).Perm ((id,v)::(bi T).filter λx=>x.1 !=id)
 dim:bD.dim=T.dim
 leaf:bD.leaf=T.leaf
 eW:bD.eW<=T.eW+1
structure Ed(aR:H)(ah:O->aA bB)(b:O)(T:aU)(id:o)(s:N)(v:J o)(u':H)(r:aw):Prop where
 cell:u' b=some (.cells (fx {T with root:=some r}).toArray 174 (0,0))
 map:fE u' T.m (ec (T.w++ [(id,(s,v))]))
 src:∃st,u' T.src=some (.cells #[.int .u64 st] 215 (0,0))
 sv:Ints u' s v
 dd:∀g,s.al=some g->aR g=none/\u' g≠none
 bO:∀c z,aR c=some z->ah c=none∨ah c=some .vec->u' c=some z
 kn:∀c,aR c≠none->ah c≠some .node->u' c≠none
 one:∀x∈r.bT,hL u' x
 nodup:r.own.Nodup
 own:∀c∈r.own,(ah c=some .node∨(aR c=none/\s.al≠some c))/\u' c≠none
 rws:∀x∈r.bT,∀y∈x.1.rows,∀g,y.s.al=some g->ah g=some .vec∨s.al=some g
 all:r.bG.all.Perm ((id,v)::lG T)
 ok:gr T.dim r.bG
 oA:lM 3 r.bG
 bin:j1 r.bG
 size:r.bT.length<=1100*(T.eW+1)+2000
theorem Ed.acB{aR:H}{ah:O->aA bB}{T:aU}{id:o}{r:aw}(f:Ed aR ah b T id s v u' r)(h:In ak aR ah b T)(aV:dX T)(cy:1<=id/\id<=1000000000)(aB:(v.length:o)=T.dim/\cY v)(aq:T.w.length<512):
  ∃aY bD,In ak u' aY b bD/\hM aR ah u' aY/\dX bD/\(bi bD).Perm ((id,v)::bi T)/\bD.dim=T.dim/\bD.leaf=T.leaf/\bD.eW<=T.eW+1:=by
 obtain⟨bD,dZ⟩:∃bD:aU,bD={T with root:=some r,w:=T.w++ [(id,(s,v))],eW:=T.eW+1}:=⟨_,rfl⟩
 obtain⟨aY,ly⟩:∃aY:O->aA bB,aY=λc=>open Classical in if c∈r.own then some .node else if s.al=some c then some .vec else if ah c=some .node then none else ah c:=⟨_,rfl⟩
 have di:∀c∈r.own,aY c=some .node:=λc I=>by rw[ly];exact b3 I
 have dv:∀c,s.al=some c->aY c=some .vec:=λc I=>by
  have dR:c∉r.own:=λhm=>by rcases(f.own c hm).1 with e|e;exact h.known c (by rw[e];simp) (f.dd c I).1;exact e.2 I
  grind
 have ef:∀c t,ah c=some t->t≠.node->aY c=some t:=λc t I ht=>by
  have hk:=h.known c (by rw[I];simp);have dR:c∉r.own:=λhm=>by
   rcases(f.own c hm).1 with e|e
   grind
   exact hk e.1
  have A0:s.al≠some c:=λe=>hk (f.dd c e).1
  grind
 have hl:∀c,aY c≠none->c∈r.own∨s.al=some c∨(ah c≠none/\ah c≠some .node):=λc I=>by
  grind
 have aJ:=h.aJ
 refine⟨aY,bD,⟨⟨by rw[dZ];exact f.cell,ef _ _ aJ.dQ (by simp),by rw[dZ];exact f.map,by rw[dZ];exact ef _ _ aJ.dy (by simp),by rw[dZ];exact f.src,by rw[dZ];exact ef _ _ aJ.ie (by simp),λe he=>?_,λn ag=>?_⟩,λc z I=>?_,λc I=>?_,λc I=>?_⟩,⟨λc z I ab=>f.bO c z I (.inl ab),λc I=>?_⟩,
  ⟨by rw[dZ];exact aV.hP,by rw[dZ];exact aV.Bk,λe he=>?_,λe he=>?_,?_,?_,λn ag=>?_,λn ag=>?_,λn ag=>?_,λn ag=>?_⟩,?_,by rw[dZ],by rw[dZ],by grind⟩
 rw[dZ] at he
 rcases dT.1 he with he|he
 obtain⟨v1,v2⟩:=aJ.vec e he
 exact⟨bw.else v1 λg z Z ac=>f.bO g z ac (.inr (v2 g Z)),λg Z=>ef g _ (v2 g Z) (by simp)⟩
 rw[hZ.1 he]
 exact⟨f.sv,dv⟩
 rw[dZ] at ag
 obtain rfl:=eh ag
 exact⟨f.one,f.nodup,di,λx M y aj g Z=>(f.rws x M y aj g Z).elim (λe=>ef g _ e (by simp)) λe=>dv g e⟩
 refine f.bO c z (h.le c z I) (.inl ?_)
 cases e:ah c with
 |none=>rfl
 |some t=>have:=h.out c (by rw[e];simp);grind
 rcases hl c I with e|e|e
 rcases(f.own c e).1 with e|e
 exact h.out c (by rw[e];simp)
 exact h.le.none e.1
 exact h.le.none (f.dd c e).1
 exact h.out c e.1
 rcases hl c I with e|e|e
 exact(f.own c e).2
 exact(f.dd c e).2
 exact f.kn c (h.known c e.1) e.2
 rcases hl c I with e|e|e
 rcases(f.own c e).1 with e|e
 grind
 exact .inr e.1
 exact .inr (f.dd c e).1
 exact .inl e.1
 rw[dZ] at he
 rcases dT.1 he with he|he
 exact aV.ids e he
 grind
 rw[dZ] at he ⊢
 rcases dT.1 he with he|he
 exact aV.vec e he
 grind
 grind
 rw[dZ]
 show r.bG.all.Perm ((T.w++ [(id,(s,v))]).map λe=>(e.1,e.2.2))
 rw[en]
 exact f.all.trans ((j9 _ aV.rows).trans (mH _ _).symm)
 rw[dZ] at ag ⊢
 obtain rfl:=eh ag
 exact f.ok
 rw[dZ] at ag
 obtain rfl:=eh ag
 exact f.oA
 rw[dZ] at ag
 obtain rfl:=eh ag
 exact f.bin
 rw[dZ] at ag ⊢
 obtain rfl:=eh ag
 exact f.size
 rw[dZ]
 show((T.w++ [(id,(s,v))]).map λe=>(e.1,e.2.2)).Perm _
 rw[en]
 exact mH _ _
theorem r1(h:ev):h.dE.Perm (h.a6.al.toList++(h.b::(h.bx.al.toList++h.fT.al.toList++h.dd.al.toList))):=by
 unfold ev.dE
 grind
theorem WI(ag:h.dE.Nodup)(rows:J ax)(ae:∀g,s.al=some g->h.a6.al=some g∨g∉h.dE):({h with a6:=s,rows:=rows}:ev).dE.Nodup:=by
 have h1:=(r1 h).nodup_iff.1 ag;rw[(r1 _).nodup_iff];rw[hg] at h1 ⊢;obtain⟨_,h3,br⟩:=h1;refine⟨?_,h3,λc I pL dI e=>?_⟩
 grind
 subst e;have I:s.al=some c:=by simpa using I
 rcases ae c I with bL|bL
 grind
 exact bL ((r1 h).mem_iff.2 (q1 _ dI))
def abq(ad:gr d (aw.mk h []).bG){id:o}{sv:N}(ch:mq ((aw.mk h []).bG.hI []) v):gr d (aw.mk {h with a6:=s,rows:=h.rows++ [⟨id,sv,v⟩]} []).bG/\(aw.mk {h with a6:=s,rows:=h.rows++ [⟨id,sv,v⟩]} []).bG.all.Perm ((id,v)::(aw.mk h []).bG.all):=by
 have aT:(aw.mk {h with a6:=s,rows:=h.rows++ [⟨id,sv,v⟩]} []).bG.all=(aw.mk h []).bG.all++ [(id,v)]:=by rw[aw.tJ,aw.tJ,aw.bT,aw.bT,aw.na];simp[ax.bn]
 have h1:=ad.kb;have h2:=ad.ins;refine⟨.mk h1 (λx M=>?_) λk hk=>(by rw[aw.hz] at hk;cases hk),by rw[aT];exact mH _ _⟩;rw[aT] at M;rcases dT.1 M with M|M;exact h2 x M;rw[hZ.1 M];exact ch
def adB{h1 h2:ev}{p:O}(I:u p=some (.cells (eT h1).toArray 213 (0,0)))(ab:f (u.ins p (.cells (eT h2).toArray 213 (0,0)))):
  H.aM u (cp p 0 none) [.int .i64 h2.aC,.slice h2.bx.a h2.bx.n h2.bx.c,.slice h2.fT.a h2.fT.n h2.fT.c,.int .u64 (cQ h2.cD),.int .u64 (cS h2.cD),.slice none 0 0,.slice h2.a6.a h2.a6.n h2.a6.c,.slice h2.dd.a h2.dd.n h2.dd.c] f:=
 ⟨_,_,I,rfl,by simp[eT],by simp[cI],by
  have e:wr (eT h1).toArray 0 [.int .i64 h2.aC,.slice h2.bx.a h2.bx.n h2.bx.c,.slice h2.fT.a h2.fT.n h2.fT.c,.int .u64 (cQ h2.cD),.int .u64 (cS h2.cD),.slice none 0 0,.slice h2.a6.a h2.a6.n h2.a6.c,.slice h2.dd.a h2.dd.n h2.dd.c]=(eT h2).toArray:=by simp[wr,eT]
  show f (u.ins p (.cells (wr (eT h1).toArray 0 _) _ (0,0)));rw[e];exact ab⟩
theorem adh{leaf:o}{bJ:O->Prop}{n0:aw}{aQ:J kq}{src:O}{id:o}{sv:N}{Fin:H->Prop}(w:Way 3 ub u d v (λc=>c≠src) bJ n0 aQ (.mk h []))(AX:1<=leaf)(q7:ub.cell? ((cp b 0 none).add 1)=some (.int .i64 leaf))(cg:ub.cell? ((cp b 0 none).add 2)=some (.pointer (some ⟨src,0,none⟩)))(sk:∃st,u src=some (.cells #[.int .u64 st] 215 (0,0)))(Im:j1 (nn aQ (.mk h [])).bG)
  (Sw:Ints ub sv v) (gX:gD (h.rows++ [⟨id,sv,v⟩]) d) (ch:mq ((aw.mk h []).bG.hI []) v) (uE:∀u' r,Down 3 ub u' d (id,v) (λc=>c≠src) (λy=>∀g,y.s.al=some g->bJ g∨sv.al=some g) n0 r 1100->j1 r.bG->(∃st,u' src=some (.cells #[.int .u64 st] 215 (0,0)))->Fin u'):
  (c7 aH (dA 22 1 #[(0,(cz #[(cN b2 id),(ed sv.a sv.n sv.c)]))]) [(bk.one aI.slice)] u (λ(BI:N) (G2:H)=>(H.le u G2)/\(c7 aH (dO #[22,22] 22 #[(ed h.a6.a h.a6.n h.a6.c),(ed BI.a BI.n BI.c)]) [(bk.one aI.slice)] G2 (λ(GH:N) (u64:H)=>∃OH:a8,((some (cp h.b 0 none))=(some OH))/\(H.aM u64 (er OH 6) [(ed GH.a GH.n GH.c)] (λ(h4:H)=>∃OI:a8,((some (cp h.b 0 none))=(some OI))/\(∃OJ:a8,((some (cp b 0 none))=(some OJ))/\(∃yf:N,((H.cell? h4 (er OI 6))=(some (ed yf.a yf.n yf.c)))/\(∃Hd:o,((H.cell? h4 (er OJ 1))=(some (cN b2 Hd)))/\(((Hd<(yf.n:o))->∃OK:a8,((some (cp h.b 0 none))=(some OK))/\(∃yg:N,((H.cell? h4 (er OK 6))=(some (ed yg.a yg.n yg.c)))/\(Ho (some (cp b 0 none)) yg h4 (λ(abV:(aA a8)) (kp:H)=>∃py:a8,(abV=(some py))/\(∃PD:o,((H.cell? kp py)=(some (cN b2 PD)))/\(∃vo:N,((H.cell? kp (er py 1))=(some (ed vo.a vo.n vo.c)))/\(∃vp:N,((H.cell? kp (er py 2))=(some (ed vp.a vp.n vp.c)))/\(∃PE:o,((H.cell? kp (er py 3))=(some (cN bu PE)))/\(∃PF:o,((H.cell? kp (er py 4))=(some (cN bu PF)))/\(∃vq:N,((H.cell? kp (er py 5))=(some (ed vq.a vq.n vq.c)))/\(∃vr:N,((H.cell? kp (er py 6))=(some (ed vr.a vr.n vr.c)))/\(∃q3:N,((H.cell? kp (er py 7))=(some (ed q3.a q3.n q3.c)))/\(∃OL:a8,((some (cp h.b 0 none))=(some OL))/\(H.aM kp OL [(cN b2 PD),(ed vo.a vo.n vo.c),(ed vp.a vp.n vp.c),(cN bu PE),(cN bu PF),(ed vq.a vq.n vq.c),(ed vr.a vr.n vr.c),(ed q3.a q3.n q3.c)] (λ(oC:H)=>Fin oC)))))))))))))))/\((¬(Hd<(yf.n:o)))->Fin h4))))))))))):=by
 obtain⟨jn,b8,lb,ni,fM⟩:=w.head
 obtain⟨Us,ajw⟩:=sk
 have UP:ub src=none:=by
  cases e:ub src with
  |none=>rfl|some z=>exact bf rfl (w.known src (by rw[e];simp))
 have q6:src∉h.dE:=λhm=>(lb src hm).2.2 rfl
 have gf:u h.b=some (.cells (eT h).toArray 213 (0,0)):=jn.cell
 have hO:aD ub u 52 2 h.a6 (h.rows.flatMap cJ):=⟨jn.rws,w.base,λg Z=>(lb g (by simp[ev.dE,Z])).1⟩
 have dS:h.a6.n=h.rows.length:=hf fO (by decide) hO.own.cK
 have lc:=gX.len
 rw[gG] at lc
 simp only[jq,sw] at lc
 have aL:h.a6.al≠some h.b:=λe=>by
  have h1:=(r1 h).nodup_iff.1 b8
  grind
 have Fv:∀g,(h.bx.al=some g∨h.fT.al=some g∨h.dd.al=some g)->g∈h.dE/\g≠h.b/\h.a6.al≠some g:=λg Z=>by
  have h1:=(r1 h).nodup_iff.1 b8;rw[hg] at h1;have h2:g∈h.bx.al.toList++h.fT.al.toList++h.dd.al.toList:=by grind
  exact⟨(r1 h).mem_iff.2 (q1 _ (iX _ h2)),λe=>(ka.1 h1.2.1).1 (by rw[<-e];exact h2),λe=>h1.2.2 g (by rw[e];simp) g (iX _ h2) rfl⟩
 refine zT ig (vI id sv) (by decide) rfl (by simp[cI]) hO (by omega) (by omega) λar u64 bR hY fW fC _=>?_
 have bR:aD ub u64 52 2 ar ((h.rows++ [(⟨id,sv,v⟩:ax)]).flatMap cJ):=by rw[hb];exact bR
 have ts:ar.al≠some h.b:=λe=>by
  grind
 have YC:u64 h.b=some (.cells (eT h).toArray 213 (0,0)):=fW _ _ gf aL
 refine⟨_,rfl,Uu YC ar (h.rows++ [⟨id,sv,v⟩]) ?_⟩
 obtain⟨g1,hV⟩:∃g1:ev,g1={h with a6:=ar,rows:=h.rows++ [⟨id,sv,v⟩]}:=⟨_,rfl⟩
 have XA:g1.b=h.b:=by rw[hV]
 rw[<-hV]
 obtain⟨h4,FF⟩:∃h4,h4=u64.ins h.b (.cells (eT g1).toArray 213 (0,0)):=⟨_,rfl⟩
 rw[<-FF]
 have Er:h4 h.b=some (.cells (eT g1).toArray 213 (0,0)):=by rw[FF];exact bh _ _ _
 have f66:∀c z,u64 c=some z->c≠h.b->h4 c=some z:=λc z I an=>by rw[FF,bz _ _ an];exact I
 have Lf:∀c z,u c=some z->c≠h.b->h.a6.al≠some c->h4 c=some z:=λc z I h2 h3=>f66 c z (fW c z I h3) h2
 have zn:h.b∈h.dE:=ik ..
 have Je:∀{g},h.a6.al=some g->g∈h.dE:=λ{g} e=>by simp[ev.dE,e]
 have Ay:∀c z,u c=some z->c∉h.dE->h4 c=some z:=λc z I hm=>Lf c z I (λe=>hm (by rw[e];exact zn)) λe=>hm (Je e)
 have Be:ub.le h4:=λc z I=>Ay c z (w.base c z I) λhm=>by grind
 have Ga:aD ub h4 52 2 ar ((h.rows++ [(⟨id,sv,v⟩:ax)]).flatMap cJ):=⟨bR.own.le λc z I ac=>f66 c z ac λe=>ts (by rw[<-e];exact I),Be,bR.fresh⟩
 have K6:h4.cell? ((cp h.b 0 none).add 6)=some (.slice ar.a ar.n ar.c):=by
  have:g1.a6=ar:=by rw[hV]
  have l6:h4.cell? ((cp h.b 0 none).add 6)=some (.slice g1.a6.a g1.a6.n g1.a6.c):=aZ Er 6;rw[this] at l6;exact l6
 have zt:(aw.mk h []).own=h.dE:=by unfold aw.own;rw[aw.bT,aw.na];simp
 have uY:∀r∈h.rows++ [(⟨id,sv,v⟩:ax)],Ints ub r.s r.v/\∀g,r.s.al=some g->bJ g∨sv.al=some g:=λr U=>by
  grind
 refine⟨_,rfl,_,rfl,ar,K6,leaf,H.le.cell Be q7,λ_=>?_,λ_=>?_⟩
 have acO:h4 src=some (.cells #[.int .u64 Us] 215 (0,0)):=Ay _ _ ajw q6
 have O7:ar.al≠some src:=λe=>by
  grind
 obtain⟨nu,pj⟩:∃nu:H,nu=λc=>if c=src then none else nY h4 ar c:=⟨_,rfl⟩
 have BX:∀{c},c≠src->nu c=nY h4 ar c:=λ{c} I=>by rw[pj];exact bF I
 have aEk:nu src=none:=by grind
 have aEl:nu.le h4:=λc z I=>by
  by_cases e:c=src
  grind
  rw[BX e] at I;exact DJ _ _ c z I
 have Bm:ub.le nu:=λc z I=>by rw[BX (λe=>by grind),nZ (λe=>by rw[bR.fresh c e] at I;cases I)];exact Be c z I
 refine⟨_,rfl,ar,K6,GP (ub:=nu) (src:=src) AX (H.le.cell Bm q7) (H.le.cell Bm cg) aEk ⟨_,acO⟩ O7 ⟨Ga.own,aEl,λg Z=>by rw[BX (λe=>O7 (by rw[<-e];exact Z))];exact b3 Z⟩ (λr U=>((uY r U).1).mono Bm) gX (λe=>bf e (by simp)) λ_ kp ez I=>?_⟩
 obtain⟨cb,dK⟩:=ez
 have pe:=I.one (cb,dK.map aw.b) (by rw[aw.bT];grind)
 have l8:kp cb.b=some (.cells (eT cb).toArray 213 (0,0)):=pe.cell
 refine⟨_,rfl,_,aZ l8 0,cb.bx,aZ l8 1,cb.fT,aZ l8 2,_,aZ l8 3,_,aZ l8 4,⟨none,0,0⟩,aZ l8 5,cb.a6,aZ l8 6,cb.dd,aZ l8 7,_,rfl,?_⟩
 have WT:kp h.b=some (.cells (eT g1).toArray 213 (0,0)):=I.uv _ _ Er ts (λe=>q6 (by rw[<-e];exact zn))
 refine adB (h2:=cb) WT ?_
 obtain⟨g2,gu⟩:∃g2:ev,g2={cb with b:=h.b}:=⟨_,rfl⟩
 have Xj:eT cb=eT g2:=by rw[gu];rfl
 rw[Xj]
 obtain⟨oC,Bd⟩:∃oC,oC=kp.ins h.b (.cells (eT g2).toArray 213 (0,0)):=⟨_,rfl⟩
 rw[<-Bd]
 have s3:∀c z,kp c=some z->c≠h.b->oC c=some z:=λc z dI an=>by rw[Bd,bz _ _ an];exact dI
 have Fk:h.b∉(aw.mk cb dK).own:=λhm=>by have:=(I.out _ hm).1;rw[BX (λe=>q6 (by rw[<-e];exact zn)),nZ ts,Er] at this;cases this
 have F7:(aw.mk cb dK).own=cb.b::((cb.bx.al.toList++cb.fT.al.toList++cb.a6.al.toList++cb.dd.al.toList)++dK.flatMap aw.own):=by rw[aw.rI];rfl
 have abP:(aw.mk g2 dK).own=h.b::((cb.bx.al.toList++cb.fT.al.toList++cb.a6.al.toList++cb.dd.al.toList)++dK.flatMap aw.own):=by rw[aw.rI,gu];rfl
 have E0:(aw.mk g2 dK).bT=(g2,dK.map aw.b)::aw.na dK:=by rw[aw.bT]
 have YN:(aw.mk cb dK).bT=(cb,dK.map aw.b)::aw.na dK:=by rw[aw.bT]
 have Dr:(aw.mk g2 dK).bG=(aw.mk cb dK).bG:=by rw[aw.hz,aw.hz,gu];rfl
 have og:=I.nodup
 have adF:∀c∈(aw.mk g2 dK).own,c=h.b∨c∈(aw.mk cb dK).own:=λc c4=>by
  grind
 have Lh:∀c z,u c=some z->c≠src->c∉(aw.mk h []).own->oC c=some z:=λc z dI A0 hm=>by
  rw[zt] at hm;refine s3 c z (I.uv c z (Ay c z dI hm) (λe=>?_) A0) λe=>hm (by rw[e];exact zn)
  grind
 have No:ub.le oC:=λc z dI=>Lh c z (w.base c z dI) (λe=>by rw[e,UP] at dI;cases dI) λhm=>by grind
 have abd:∀{x:ev×J O},hL kp x->(∀c∈x.1.dE,c≠h.b)->(∀r∈x.1.rows,r∈h.rows++ [(⟨id,sv,v⟩:ax)])->hL oC x:=λM aa U=>M.bO (λc z c4 ac=>s3 c z ac (aa c c4)) λr fR=>((uY r (U r fR)).1).mono No
 refine uE oC _ ?Cw (Ti aQ (n':=.mk g2 dK) Im (by rw[Dr];exact I.bin)) (I.src.elim λst c6=>⟨st,s3 _ _ c6 λe=>q6 (by rw[e];exact zn)⟩)
 refine(Way.down w (n':=.mk g2 dK) (by rw[show(aw.mk g2 dK).b=g2.b from rfl,gu];rfl) (λx M=>?_) ?_ (λc z dI A0 hm=>Lh c z dI A0 hm) (λc c4=>?_) (λx M y aj=>?_) (λy aj g Z=>.inl (aj g Z)) ?_ (by rw[Dr];exact I.ok) (by rw[Dr];exact I.oA) ?_)
 rw[E0] at M
 rcases dM.1 M with rfl|M
 have aE:∀g,(cb.bx.al=some g∨cb.fT.al=some g∨cb.a6.al=some g∨cb.dd.al=some g)->g≠h.b:=λg Z e=>Fk (by
   rw[F7,<-e];refine iX _ (kG _ ?_);rw[dT,dT,dT]
   grind)
 have IJ:∀r∈cb.rows,r∈h.rows++ [(⟨id,sv,v⟩:ax)]:=λr U=>I.rows (cb,dK.map aw.b) (by grind) r U
 rw[gu]
 refine⟨?_,pe.bm.le λc z kx ac=>s3 c z ac (aE c (.inl kx)),pe.hi.le λc z kx ac=>s3 c z ac (aE c (.inr (.inl kx))),pe.rws.le λc z kx ac=>s3 c z ac (aE c (.inr (.inr (.inl kx)))),λr U=>((uY r (IJ r U)).1).mono No,bw.else pe.mf λc z kx ac=>s3 c z ac (aE c (.inr (.inr (.inr kx))))⟩
 show oC h.b=_
 rw[Bd,bh,gu]
 have gn:x∈(aw.mk cb dK).bT:=by grind
 exact abd (I.one x gn) (λc c4 e=>Fk (by rw[<-e];exact eA.2 ⟨x,gn,c4⟩)) (I.rows x gn)
 rw[abP,ka]
 rw[F7,ka] at og
 exact⟨λhm=>Fk (by rw[F7];exact iX _ hm),og.2⟩
 rcases adF c c4 with rfl|c4
 exact⟨.inl (by rw[zt];exact zn),by rw[Bd,bh];simp⟩
 obtain⟨di,dv,ef⟩:=I.out c c4
 rw[BX ef] at di
 refine⟨?_,?_⟩
 by_cases e:ar.al=some c
 grind
 rw[nZ e] at di
 cases M:u c with
 |none=>exact .inr ⟨rfl,ef⟩
 |some z=>
  grind
 obtain⟨z,ac⟩:=fp.1 dv
 grind
 rw[E0] at M
 rcases dM.1 M with rfl|M
 exact(uY y (I.rows (cb,dK.map aw.b) (by grind) y (by rw[gu] at aj;exact aj))).2
 exact(uY y (I.rows x (by grind) y aj)).2
 rw[Dr]
 refine I.all.trans ?_
 rw[en,aw.tJ,aw.bT,aw.na]
 simp only[jr,JS,ml]
 exact mH _ _
 have:=I.size
 rw[YN] at this
 rw[E0]
 rw[gG] at this
 simp only[jq,sw] at this ⊢
 omega
 have aq:=abq (id:=id) (sv:=sv) (s:=ar) (Jp aQ w.ok) ch
 rw[<-hV] at aq
 have NX:(aw.mk g1 []).own=g1.dE:=by unfold aw.own;rw[aw.bT,aw.na];simp
 have abI:(aw.mk g1 []).bT=[(g1,[])]:=by rw[aw.bT,aw.na];rfl
 have abx:∀c∈g1.dE,c=h.b∨(h.bx.al=some c∨h.fT.al=some c∨h.dd.al=some c)∨ar.al=some c:=λc I=>by
  rw[hV] at I;have I:=(r1 _).mem_iff.1 I
  grind
 refine uE h4 _ ?aIu (Ti aQ (n':=.mk g1 []) Im (QB (.inl rfl) λk hk=>(by cases hk))) ⟨Us,Ay _ _ ajw q6⟩
 refine(Way.down w (n':=.mk g1 []) XA (λx M=>?_) ?_ (λc z I _ hm=>Ay c z I (by rw[<-zt];exact hm)) (λc I=>?_) (λx M y aj=>?_) (λy aj g Z=>.inl (aj g Z)) aq.2 aq.1 ?_ (by grind))
 rw[abI,hZ] at M
 subst M
 have cB:∀{s:N} {c:O} {z:Obj},(h.bx.al=some c∨h.fT.al=some c∨h.dd.al=some c)->u c=some z->h4 c=some z:=λ{s c z} I ac=>Lf c z ac (Fv c I).2.1 (Fv c I).2.2
 refine⟨by grind,?_,?_,?_,λr U=>?_,?_⟩
 rw[hV];exact jn.bm.le λc z I ac=>cB (s:=h.bx) (.inl I) ac
 rw[hV];exact jn.hi.le λc z I ac=>cB (s:=h.bx) (.inr (.inl I)) ac
 rw[hV];exact Ga.own
 rw[hV] at U;exact((uY r U).1).mono Be
 rw[hV];exact bw.else jn.mf λc z I ac=>cB (s:=h.bx) (.inr (.inr I)) ac
 rw[NX,hV]
 refine WI b8 _ λg Z=>(fC g Z).imp (λe=>e) λe hm=>(lb g hm).2.1 e
 rw[NX] at I
 rw[zt]
 rcases abx c I with rfl|I|I
 grind
 obtain⟨di,dv,ef⟩:=Fv c I
 obtain⟨z,ac⟩:=fp.1 (lb c di).2.1
 grind
 exact⟨(fC c I).imp Je (λe=>⟨e,λaN=>by grind⟩),dH Ga I⟩
 grind
 rw[aw.hz]
 refine .mk ?_ λk hk=>(by cases hk)
 show g1.aC=3
 rw[hV]
 exact fM
structure Wn(ak u:H)(ah:O->aA bB)(b:O)(T:aU)(id:o)(u':H)(aY:O->aA bB)(bD:aU):Prop where
 is:In ak u' aY b bD
 eJ:hM u ah u' aY
 ok:dX bD
 rows:bi bD=(bi T).filter λx=>x.1 !=id
 dim:bD.dim=T.dim
 leaf:bD.leaf=T.leaf
 eW:bD.eW=T.eW
 no:id∉bD.w.map (·.1)
 vM:bD.w.length<512
theorem ac4{ah:O->aA bB}{T:aU}{id:o}(h:In ak u ah b T)(aV:dX T)(jk:T.eW<=4000)(tf:id∉T.w.map (·.1)->T.w.length<512)
  (au:∀c0 u' aY bD,Wn ak u ah b T id u' aY bD->K c0 0 u'):Qg (some ⟨b,0,none⟩) id u K:=by
 refine wL h aV jk (λdR aR gB=>au _ aR ah T ⟨h.mono bO gB,hM.mono gB,aV,?_,rfl,rfl,rfl,dR,tf dR⟩) λch aR c5 ba U=>au _ aR c5 ba ⟨U.is,U.eJ,U.ok,U.rows,U.dim,U.leaf,U.eW,?_,?_⟩
 refine(qe.2 λx M=>?_).symm
 have:x.1≠id:=λe=>dR (by rw[<-nQ];grind)
 simpa using this
 rw[<-nQ,U.rows]
 grind
 have ae:=aV.small
 have aT:ba.w.length=(bi ba).length:=by simp[bi]
 have aN:T.w.length=(bi T).length:=by simp[bi]
 rw[<-nQ] at ch
 obtain⟨p,ad,e⟩:=bQ.1 ch
 have:((bi T).filter λp=>p.1 !=id).length<(bi T).length:=OD.2 ⟨p,ad,by simp[e]⟩
 rw[U.rows] at aT
 omega
def _root_.Go.Proofs.YtejdhbfjjgcljaaGreatDoor.hL.mono{x:ev×J O}(h:hL u x)(hu:u.le u'):hL u' x:=h.bO (λc z _ ac=>hu c z ac) λr U=>(h.vec r U).mono hu
def _root_.Go.Proofs.YtejdhbfjjgcljaaGreatDoor.Way.mono{aC:o}{l1 bJ:O->Prop}{n0:aw}{aQ:J kq}{n:aw}(w:Way aC ub u d v l1 bJ n0 aQ n)(hu:u.le u'):Way aC ub u' d v l1 bJ n0 aQ n:=
 ⟨w.base.trans hu,λx M=>(w.one x M).mono hu,w.nodup,λc I=>(λW=>⟨W.1,λe=>W.2.1 (hu.none e),W.2.2⟩) (w.out c I),w.known,w.vec,w.ok,w.ins,w.box,w.all,w.len,w.b⟩
def anp{n:O}{id:o}(h:u n=some (.cells #[.int .i64 0,.slice none 0 0] 52 (0,0)))(ab:f (u.ins n (.cells #[.int .i64 id,.slice s.a s.n s.c] 52 (0,0)))):
  H.aM u (cp n 0 none) [.int .i64 id,.slice s.a s.n s.c] f:=⟨_,_,h,rfl,by simp,by simp[cI],ab⟩
def NR:∀{l:J O} {x:O},x∈l->x<=l.sum
 |y::l,x,h=>by rw[List.sum_cons];rcases dM.1 h with rfl|h;omega;have:=NR h;omega
def abg{i:O}(hi:i<ks.length):ks[i].bT.length<(aw.mk h ks).bT.length:=by rw[aw.bT,aw.Iq,jq,List.length_flatMap];have:ks[i].bT.length<=(ks.map λk=>k.bT.length).sum:=NR (bQ.2 ⟨ks[i],ln hi,rfl⟩);omega
theorem DO{ah:O->aA bB}{T:aU}{id:o}{t:N}(h:In ak u ah b T)(aV:dX T)(jk:T.eW<=4000)(ht:Ints u t q)(mz:∀aR c5,ak.le aR->hM u ah aR c5->Ints aR t q)
  (dq:eM id q T.dim (decide (id∈(bi T).map (·.1))) (bi T).length≠0->K ao (eM id q T.dim (decide (id∈(bi T).map (·.1))) (bi T).length) u)
  (bM:eM id q T.dim (decide (id∈(bi T).map (·.1))) (bi T).length=0->∀u' aY bD,ug ak u ah b T id q u' aY bD->K (decide (id∉(bi T).map (·.1))) 0 u'):aeT (some ⟨b,0,none⟩) id t u K:=by
 apply aHF
 refine⟨λe=>(by cases e),λ_=>⟨_,rfl,_,aZ h.aJ.cell 4,?_⟩⟩
 obtain⟨y,aj,iS⟩:∃y:N,(gm (ec T.w) id).getD (.slice none 0 0)=aI.slice.enc y/\(gm (ec T.w) id).isSome=decide (id∈(bi T).map (·.1)):=by rw[nQ];rcases s8 T.w id with⟨Z,hm⟩|⟨e,he,cy,Z⟩;exact⟨⟨none,0,0⟩,by rw[Z];rfl,by grind⟩;exact⟨e.2.1,by rw[Z];rfl,by grind⟩
 refine tU je h.aJ.map (ct:=.slice) y aj ?_
 rw[iS]
 refine⟨_,rfl,_,rfl,_,aZ h.aJ.cell 0,_,aZ h.aJ.cell 4,wK je h.aJ.map ⟨H.le.refl u,Kc ht ?_⟩⟩
 rw[Ll]
 refine⟨λan=>dq an,λhe=>?_⟩
 have bM:=bM he
 obtain⟨d1,d2,xK,d4⟩:1<=id/\id<=1000000000/\gx q T.dim=0/\(decide (id∈(bi T).map (·.1))=ao->((bi T).length:o)<512):=by
  unfold eM at he
  grind
 obtain⟨aT,aN,dG,gz⟩:=n1 xK
 have aa:(!decide (decide (id∈(bi T).map (·.1))=ai))=decide (id∉(bi T).map (·.1)):=by grind
 have eB:∀W:H,K (decide (id∉(bi T).map (·.1))) 0 W->K (!decide (decide (id∈(bi T).map (·.1))=ai)) 0 W:=λW aE=>by rw[aa];exact aE
 refine ac4 h aV jk (λdR=>?_) λ_ aR c5 ba Z=>?_
 have:=d4 (q0 (by rw[nQ];exact dR))
 have gI:T.w.length=(bi T).length:=by simp[bi]
 omega
 have i1:=Z.is
 have lC:=Z.ok
 have qM:=mz aR c5 i1.le Z.eJ
 intro ao8 HY
 suffices go:∀(ck:O) (dg:N) (gL:H),aR ck=none->dg.al≠some ck->aD aR gL 3 1 dg (q.flatMap encI)->gL ck=some (.cells #[.int .i64 id,.slice dg.a dg.n dg.c] 52 (0,0))->ao8 ⟨ck,0,none⟩ gL by
  have ahH:t.n<=1099511627776:=by have:=qM.len;omega
  refine⟨sI qM ahH λdg gL gg _=>⟨gg.le,λn ag=>⟨gg.le.trans (bX _ ag),anp (bh _ _ _) ?_⟩⟩,λn ag=>⟨bX _ ag,sI (qM.mono (bX _ ag)) ahH λdg gL gg _=>⟨(bX _ ag).trans gg.le,anp (gg.le _ _ (bh _ _ _)) ?_⟩⟩⟩;rw[FN];exact go n dg _ (gg.le.none ag) (λe=>dH gg e ag) (gg.mono (bX _ ag)) (bh _ _ _);have an:dg.al≠some n:=λe=>by have:=gg.fresh n e;rw[bh] at this;cases this
  have ac:aD aR gL 3 1 dg (q.flatMap encI):=gg.weaken (bX _ ag);exact go n dg _ ag an ⟨ac.own.le λc z I M=>by rw[bz _ _ (λe=>an (by rw[I,e]))];exact M,λc z I=>by rw[bz _ _ (λe=>by rw[e,ag] at I;cases I)];exact ac.le c z I,ac.fresh⟩ (bh _ _ _)
 intro ck dg gL vZ aJ1 gg Xa
 refine HY _ _ ?_
 have wh:=gg.le
 have aJ:=(mP.mono bO i1 wh).aJ
 refine⟨_,rfl,_,aZ aJ.cell 4,_,aZ Xa 0,dg,aZ Xa 1,DK je aJ.map (yL.2 (by unfold ec;rw[e4];exact Z.no)) λqb iF=>?_⟩
 obtain⟨fg,Bb⟩:∃fg,fg=gL.ins ba.m qb:=⟨_,rfl⟩
 rw[<-Bb] at iF ⊢
 have m20:fg ba.m=some qb:=by rw[Bb];exact bh _ _ _
 have qC:∀c z,gL c=some z->c≠ba.m->fg c=some z:=λc z I an=>by rw[Bb,bz _ _ an];exact I
 have lA:∀{c},c5 c≠some .map->c≠ba.m:=λI e=>I (by rw[e];exact aJ.dy)
 have n20:∀{c},fg c=none->aR c=none/\dg.al≠some c:=λ{c} I=>by
  have an:c≠ba.m:=λe=>by rw[e,m20] at I;cases I
  have xd:gL c=none:=by rw[Bb,bz _ _ an] at I;exact I
  exact⟨wh.none xd,λe=>dH gg e xd⟩
 have smap:∀g,dg.al=some g->aR g=none/\g≠ba.m:=λg cu=>⟨gg.fresh g cu,λe=>by have:=i1.known ba.m (by rw[aJ.dy];simp);rw[<-e] at this;exact this (gg.fresh g cu)⟩
 have ME:fE fg ba.m (ec (ba.w++ [(id,(dg,q))])):=by
  have:ec (ba.w++ [(id,(dg,q))])=ec ba.w++ [(id,.slice dg.a dg.n dg.c)]:=by simp[ec]
  rw[this];exact iF
 have BR:Ints fg dg q:=bw.else gg.ints λg z cu ac=>qC g z ac (smap g cu).2
 have cj:∀{c},c5 c≠none->c≠ck:=λI e=>i1.known _ I (by rw[e];exact vZ)
 have d20:fg ck=some (.cells #[.int .i64 id,.slice dg.a dg.n dg.c] 52 (0,0)):=qC _ _ Xa (cj (c:=ba.m) (by rw[aJ.dy];simp)).symm
 obtain⟨st,c6⟩:=aJ.src
 have GF:fg ba.src=some (.cells #[.int .u64 st] 215 (0,0)):=qC _ _ c6 (lA (by rw[aJ.ie];simp))
 have adw:dg.al≠some ba.src:=λe=>i1.known ba.src (by rw[aJ.ie];simp) (smap _ e).1
 have Pg:ba.src≠b:=λe=>by have:=aJ.ie;rw[e,aJ.dQ] at this;cases this
 have Ur:ba.src≠ba.m:=λe=>by have:=aJ.ie;rw[e,aJ.dy] at this;cases this
 have pa:fg b=some (.cells (fx ba).toArray 174 (0,0)):=qC _ _ aJ.cell (lA (by rw[aJ.dQ];simp))
 have anJ:fg.cell? ((cp b 0 none).add 1)=some (.int .i64 ba.leaf):=aZ pa 1
 have aKS:fg.cell? ((cp b 0 none).add 2)=some (.pointer (some ⟨ba.src,0,none⟩)):=aZ pa 2
 have Fu:(q.length:o)=ba.dim:=by rw[Z.dim];exact dG
 have fin:∀u' r,Ed aR c5 b ba id dg q u' r->K (!decide (decide (id∈(bi T).map (·.1))=ai)) 0 u':=λu' r ab=>by obtain⟨aY,bD,f1,f2,f3,f4,f5,f6,f7⟩:=ab.acB i1 lC ⟨d1,d2⟩ ⟨Fu,gz⟩ Z.vM;refine eB _ (bM u' aY bD ⟨f1,Z.eJ.trans f2,f3,by rw[<-Z.rows];exact f4,f5.trans Z.dim,f6.trans Z.leaf,by rw[<-Z.eW];exact f7⟩)
 have M1:∀l:J ax,((l.map ax.bn).Perm ((id,q)::lG ba)∨∃m:J ke,((l.map ax.bn)++m).Perm ((id,q)::lG ba))->gD l ba.dim:=λl aq=>by
  obtain⟨m,hm⟩:∃m:J ke,((l.map ax.bn)++m).Perm ((id,q)::lG ba):=aq.elim (λh=>⟨[],by rw[ml];exact h⟩) λh=>h;have eX:((l.map ax.bn)++m).Perm ((id,q)::bi ba):=hm.trans (j9 _ lC.rows);have b8:(((id,q)::bi ba).map (·.1)).Nodup:=by rw[iw,ka];exact⟨by rw[nQ];exact Z.no,i1.aJ.rW⟩
  have hlen:=eX.length_eq;have tf:=Z.vM;simp only[gG,eb,jq,bi] at hlen;refine zP lC.hP (by omega) ?_ λp ad=>?_;have:=(eX.map (·.1)).nodup_iff.2 b8;rw[en,hg] at this;rw[show l.map (·.id)=(l.map ax.bn).map (·.1) by rw[e4];rfl];exact this.1;rcases dM.1 (eX.mem_iff.1 (kG _ ad)) with rfl|ad;exact⟨d1,d2,Fu,gz⟩;obtain⟨e,fW,rfl⟩:=bQ.1 ad;exact⟨(lC.ids e fW).1,(lC.ids e fW).2,lC.vec e fW⟩
 cases lf:ba.root with
 |none=>
  have uz:fg.cell? ((cp b 0 none).add 3)=some (.pointer none):=by
   have M:fx ba=[.int .i64 ba.dim,.int .i64 ba.leaf,.pointer (some ⟨ba.src,0,none⟩),.pointer none,.map (some ba.m)]:=by simp[fx,lf]
   rw[M] at pa;exact aZ pa 3
  have xh:lG ba=[]:=by unfold lG;rw[lf]
  refine⟨_,rfl,none,uz,λ_=>⟨_,aZ d20 0,dg,aZ d20 1,?_⟩,λan=>bf rfl an⟩;refine mK (vI id dg) λg uH=>?_;obtain⟨Bq,MW⟩:∃Bq,Bq=(bt [cN .i64 id,.slice dg.a dg.n dg.c].toArray 52 (0,0)):=⟨_,rfl⟩;rw[<-MW];have SS:fg.le (fg.ins g Bq):=bX _ uH;obtain⟨nu,pj⟩:∃nu,nu=H.no fg ba.src:=⟨_,rfl⟩;have Bm:nu.le fg:=by rw[pj];exact NW _ _
  have BX:∀{c},c≠ba.src->nu c=fg c:=λI=>by rw[pj];exact Jk I
  have nK:aD nu (fg.ins g Bq) 52 2 ⟨some ⟨g,0,none⟩,1,1⟩ (([⟨id,dg,q⟩]:J ax).flatMap cJ):=by rw[MW];exact(aD.make (H.le.refl fg) uH (cells:=[cN .i64 id,.slice dg.a dg.n dg.c].toArray) (n:=1) (by omega) rfl).weaken Bm
  have W5:nu b=some (.cells (fx ba).toArray 174 (0,0)):=by rw[BX (e3 Pg)];exact pa
  have aDt:Ints nu dg q:=bw.else BR λc z I M=>by rw[BX (λe=>adw (by rw[I,e]))];exact M
  refine GP (ub:=nu) (src:=ba.src) (by have:=lC.Bk;omega) (aZ W5 1) (aZ W5 2) (by rw[pj];exact Ta _ _) ⟨st,SS _ _ GF⟩ (λe=>by
   have:g=ba.src:=by simpa[N.al] using e
   rw[this,GF] at uH;cases uH) nK (λr U=>by rw[hZ.1 U];exact aDt) (M1 _ (.inl (by rw[xh];exact .refl _))) (λe=>by cases e) λ_ qm ez I=>?_
  have XD:g≠b:=λe=>by rw[e,pa] at uH;cases uH
  have u3:∀c z,fg c=some z->c≠ba.src->qm c=some z:=λc z dI A0=>I.uv c z (SS c z dI) (λe=>by
   have:g=c:=by simpa[N.al] using e
   rw[this,dI] at uH;cases uH) A0
  have Cu:qm b=some (.cells #[.int .i64 ba.dim,.int .i64 ba.leaf,.pointer (some ⟨ba.src,0,none⟩),.pointer none,.map (some ba.m)] 174 (0,0)):=by have:=u3 _ _ pa (e3 Pg);rw[show fx ba=[.int .i64 ba.dim,.int .i64 ba.leaf,.pointer (some ⟨ba.src,0,none⟩),.pointer none,.map (some ba.m)] by simp[fx,lf]] at this;exact this
  refine⟨_,rfl,Ph Cu ?_⟩;obtain⟨ym,Bc⟩:∃ym,ym=qm.ins b (.cells #[.int .i64 ba.dim,.int .i64 ba.leaf,.pointer (some ⟨ba.src,0,none⟩),.pointer (some ⟨ez.b,0,none⟩),.map (some ba.m)] 174 (0,0)):=⟨_,rfl⟩;rw[<-Bc];have rB:∀c z,qm c=some z->c≠b->ym c=some z:=λc z dI an=>by rw[Bc,bz _ _ an];exact dI
  have QF:b∉ez.own:=λe=>by have:=(I.out b e).1;rw[W5] at this;cases this
  have vH:ba.m≠b:=λe=>by have h1:=aJ.dy;rw[e,aJ.dQ] at h1;cases h1
  have gH:∀b5,dg.al=some b5->b5≠b:=λb5 cu e=>by have:=i1.known b (by rw[aJ.dQ];simp);rw[<-e] at this;exact this (smap b5 cu).1
  have SN:∀c z,aR c=some z->c≠ba.m->c≠b->c≠ba.src->ym c=some z:=λc z dI h1 h2 h3=>rB c z (u3 c z (qC c z (wh c z dI) h1) h3) h2;have ss:∀{b5},dg.al=some b5->b5≠ba.src:=λcu e=>adw (by rw[cu,e]);refine fin ym ez ⟨?_,ME.else λz ac=>rB _ z (u3 _ z ac (e3 Ur)) vH,I.src.elim λoB ze=>⟨oB,rB _ _ ze Pg⟩,bw.else BR λb5 z cu ac=>rB b5 z (u3 b5 z ac (ss cu)) (gH b5 cu),λb5 cu=>⟨(smap b5 cu).1,?_⟩,λc z dI ab=>?_,λc dI ab=>?_,λx M=>?_,I.nodup,λc dI=>?_,λx M r U b5 cu=>?_,?_,I.ok,I.oA,I.bin,?_⟩;rw[Bc,bh];rfl;obtain⟨z,ac⟩:=fp.1 (dH gg cu);rw[rB b5 z (u3 b5 z (qC b5 z ac (smap b5 cu).2) (ss cu)) (gH b5 cu)];simp;refine SN c z dI (lA ?_) (λe=>?_) λe=>by rw[e,aJ.ie] at ab;rcases ab with ab|ab<;>cases ab
  rcases ab with ab|ab<;>rw[ab]<;>simp;rw[e,aJ.dQ] at ab;rcases ab with ab|ab<;>cases ab;by_cases h1:c=ba.m;rw[h1,rB _ _ (u3 _ _ m20 (e3 Ur)) vH];simp;by_cases h2:c=b;rw[h2,Bc,bh];simp;by_cases h3:c=ba.src;obtain⟨oB,ze⟩:=I.src;rw[h3,rB _ _ ze Pg];simp;obtain⟨z,ac⟩:=fp.1 dI;rw[SN c z ac h1 h2 h3];simp;refine(I.one x M).bO (λc z c4 ac=>rB c z ac λe=>QF (by rw[<-e];exact eA.2 ⟨x,M,c4⟩)) λr U=>?_;rw[hZ.1 (I.rows x M r U)];exact bw.else BR λb5 z cu ac=>rB b5 z (u3 b5 z ac (ss cu)) (gH b5 cu);obtain⟨di,dv,ef⟩:=I.out c dI;rw[BX ef] at di;obtain⟨z,ac⟩:=fp.1 dv;exact⟨.inr (n20 di),by rw[rB c z ac (λe=>QF (by rw[<-e];exact dI))];simp⟩;rw[hZ.1 (I.rows x M r U)] at cu;exact .inr cu;rw[xh];exact I.all;have:=I.size;simp only[jq,sw] at this;omega
 |some n0=>
  obtain⟨di,dv,ef,hl⟩:=aJ.one n0 lf;have uz:fg.cell? ((cp b 0 none).add 3)=some (.pointer (some ⟨n0.b,0,none⟩)):=by
   have M:fx ba=[.int .i64 ba.dim,.int .i64 ba.leaf,.pointer (some ⟨ba.src,0,none⟩),.pointer (some ⟨n0.b,0,none⟩),.map (some ba.m)]:=by simp[fx,lf]
   rw[M] at pa;exact aZ pa 3
  have xh:lG ba=n0.bG.all:=by unfold lG;rw[lf]
  obtain⟨ub,cC⟩:∃ub:H,ub=λc=>open Classical in if c∈n0.own∨c=ba.src then none else fg c:=⟨_,rfl⟩;have DX:∀{c},c∈n0.own->ub c=none:=λI=>by rw[cC];exact b3 (.inl I)
  have UP:ub ba.src=none:=by rw[cC];exact b3 (.inr rfl)
  have ja:∀{c},c∉n0.own->c≠ba.src->ub c=fg c:=λI ae=>by rw[cC];exact bF (λe=>e.elim I ae)
  have lub:ub.le fg:=λc cn I=>by by_cases e:c∈n0.own;rw[DX e] at I;cases I;by_cases aN:c=ba.src;rw[aN,UP] at I;cases I;rw[ja e aN] at I;exact I
  have nT:∀{c},c5 c≠some .node->c∉n0.own:=λI e=>I (ef _ e);have ac3:∀g,dg.al=some g->g∉n0.own:=λg cu e=>i1.known g (by rw[ef g e];simp) (smap g cu).1;have O7:∀{g},dg.al=some g->g≠ba.src:=λcu e=>adw (by rw[cu,e]);have l5:ub b=some (.cells (fx ba).toArray 174 (0,0)):=by rw[ja (nT (by rw[aJ.dQ];simp)) (e3 Pg)];exact pa
  have ay8:ck∉n0.own:=λe=>cj (by rw[ef ck e];simp) rfl;have ay9:ck≠ba.src:=λe=>cj (c:=ba.src) (by rw[aJ.ie];simp) e.symm;have afU:ub ck=some (.cells #[.int .i64 id,.slice dg.a dg.n dg.c] 52 (0,0)):=by rw[ja ay8 ay9];exact d20
  have BS:Ints ub dg q:=bw.else BR λg z cu ac=>by rw[ja (ac3 g cu) (O7 cu)];exact ac
  have Le:∀c z,gL c=some z->c5 c≠some .map->c5 c≠some .node->c5 c≠some .src->ub c=some z:=λc z I h1 h2 h3=>by rw[ja (nT h2) (λe=>h3 (by rw[e];exact aJ.ie))];exact qC c z I (lA h1)
  have Ns:∀x∈n0.bT,∀r∈x.1.rows,Ints ub r.s r.v:=λx M r U=>bw.else ((di x M).vec r U) λg z cu ac=>Le g z ac (by rw[hl x M r U g cu];simp) (by rw[hl x M r U g cu];simp) (by rw[hl x M r U g cu];simp);have wT:Way 3 ub fg ba.dim q (λc=>c≠ba.src) (λg=>c5 g=some .vec) n0 [] n0:=by refine Way.start lub (λc I e=>I (by rw[e];exact UP)) (λx M=>(di x M).bO (λc z I ac=>qC c z ac (lA ?_)) λr U=>(Ns x M r U).mono lub) dv (λc I=>⟨DX I,?_,λe=>by have:=ef c I;rw[e,aJ.ie] at this;cases this⟩) (λx M r U=>⟨Ns x M r U,λg cu=>hl x M r U g cu⟩) (lC.ok n0 lf) (lC.oA n0 lf);rw[ef c (eA.2 ⟨x,M,I⟩)];simp;have hk:=i1.known c (by rw[ef c I];simp);obtain⟨z,ac⟩:=fp.1 hk;rw[qC c z (wh c z ac) (lA (by rw[ef c I];simp))];simp
  refine⟨_,rfl,_,uz,λe=>(by cases e),λ_=>⟨_,rfl,_,uz,?_⟩⟩
  let At:aA a8->H->O->Prop:=λp w f=>∃aQ n,p=some ⟨n.b,0,none⟩/\Way 3 ub w ba.dim q (λc=>c≠ba.src) (λg=>c5 g=some .vec) n0 aQ n/\Al w ba.src/\j1 (nn aQ n).bG/\n.bT.length=f
  refine⟨λp w=>∃f,At p w f,λp w=>least (At p w),⟨_,[],n0,rfl,wT,⟨st,GF⟩,lC.bin n0 lf,rfl⟩,λN7 mM cv=>?_⟩;have nb:=FZ cv;generalize RP:least (At N7 mM)=f at nb;obtain⟨aQ,n,ad,w,⟨st1,ea⟩,Im,avW⟩:=nb;obtain⟨e2,ks⟩:=n;obtain rfl:N7=some ⟨e2.b,0,none⟩:=ad;obtain⟨jn,b8,lb,ni,fM⟩:=w.head;have tq:=Jp aQ w.ok;obtain⟨W8,W9,_,afs,ap6,ap7⟩:=WH fM tq;have QK:∀{W:H},ub.le W->W.cell? ((cp ck 0 none).add 1)=some (.slice dg.a dg.n dg.c):=λaE=>aZ (aE _ _ afU) 1;refine⟨dg,QK w.base,ac8 BS w.base jn b8 (λc I=>(lb c I).1) (λr U=>(ni r U).1) afs gz (by omega) (by omega) ap7 λ_ _ ho Fs eC kj=>?_⟩;obtain⟨EI,AF⟩:=XI (ks:=ks) fM tq gz Fu;have tY:Way 3 ub ho ba.dim q (λc=>c≠ba.src) (λg=>c5 g=some .vec) n0 aQ (.mk (jc e2 q) ks):=w.eJ rfl rfl rfl Fs eC kj EI;have alU:Al ho ba.src:=⟨st1,eC _ _ ea λhm=>(lb _ hm).2.2 rfl⟩;have afq:j1 (nn aQ (.mk (jc e2 q) ks)).bG:=Ti aQ Im (by obtain⟨e7,fy⟩:=afr (QC aQ Im);exact QB e7 fy)
  have HC:ho e2.b=some (.cells (eT (jc e2 q)).toArray 213 (0,0)):=Fs.cell;have w6:∀{W:H},ho.le W->W.cell? ((cp e2.b 0 none).add 7)=some (.slice e2.dd.a e2.dd.n e2.dd.c):=λaE=>aZ (aE _ _ HC) 7;have sj:bw ho e2.dd 1 ((ks.map aw.b).map λn=>.pointer (some ⟨n,0,none⟩)):=Fs.mf;have Z8:e2.dd.n=ks.length:=by have:=sj.len;simpa using this.symm
  refine⟨_,rfl,e2.dd,w6 (H.le.refl _),λh0=>?_,λh0=>?_⟩;obtain rfl:ks=[]:=qW (by omega);refine⟨_,rfl,e2.a6,aZ HC 6,_,aZ (tY.base _ _ afU) 0,dg,QK tY.base,?_⟩;refine adh (h:=jc e2 q) tY (by have:=lC.Bk;omega) (aZ l5 1) (aZ l5 2) alU afq BS (M1 _ (.inr ?_)) AF λu' r av fV sk=>fin u' r ?_;refine⟨(jQ aQ e2.b).flatMap λx=>x.1.rows.map ax.bn,?_⟩;have gI:=(Jo aQ (.mk e2 [])).symm.trans w.all;rw[xh];have nE:(aw.mk e2 []).bG.all=e2.rows.map ax.bn:=by rw[aw.tJ,aw.bT,aw.na];simp
  rw[nE] at gI;rw[en];refine(List.Perm.append_right _ (mH _ _)).trans ?_;exact j9 _ gI;have b4:fx {ba with root:=some r}=fx ba:=by simp[fx,lf,av.b]
  refine⟨by rw[b4];exact av.le _ _ l5,?_,sk,BS.mono av.le,λg cu=>⟨(smap g cu).1,?_⟩,λc z I ab=>?_,λc I ab=>?_,av.one,av.nodup,λc I=>⟨?_,(av.own c I).2⟩,λx M y aj g cu=>av.rws x M y aj g cu,by rw[xh];exact av.all,av.ok,av.oA,fV,?_⟩;exact ME.else λz ac=>av.le _ _ (by rw[ja (nT (by rw[aJ.dy];simp)) (e3 Ur)];exact ac);obtain⟨z,ac⟩:=fp.1 (dH gg cu);rw[av.le g z (by rw[ja (ac3 g cu) (O7 cu)];exact qC g z ac (smap g cu).2)];simp;exact av.le c z (Le c z (wh c z I) (by rcases ab with ab|ab<;>rw[ab]<;>simp) (by rcases ab with ab|ab<;>rw[ab]<;>simp) (by rcases ab with ab|ab<;>rw[ab]<;>simp));by_cases h1:c=ba.m;rw[h1,av.le _ _ (by rw[ja (nT (by rw[aJ.dy];simp)) (e3 Ur)];exact m20)];simp;by_cases h2:c=ba.src;obtain⟨oB,ze⟩:=sk;rw[h2,ze];simp;obtain⟨z,ac⟩:=fp.1 I;rw[av.le c z (by rw[ja (nT ab) h2];exact qC c z (wh c z ac) h1)];simp;obtain⟨h1,h2⟩:=(av.own c I).1;by_cases hm:c∈n0.own;exact .inl (ef c hm);rw[ja hm h2] at h1;exact .inr (n20 h1);have h1:=av.size;have h2:=lC.size n0 lf;omega;have hW:ks.length=2:=(afr (QC aQ Im)).1.resolve_left λe=>h0 (by omega);have mf:∀(i:O) (hi:i<ks.length),hL ho (ks[i].h,ks[i].kids.map aw.b)/\cY ks[i].h.bm/\(ks[i].h.bm.length:o)=ba.dim:=λi hi=>by
   have mb:(ks[i].h,ks[i].kids.map aw.b)∈(aw.mk (jc e2 q) ks).bT++jQ aQ (aw.mk (jc e2 q) ks).b:=by rw[aw.bT,aw.Iq];refine kG _ (iX _ (eA.2 ⟨ks[i],ln hi,?_⟩));rw[aw.iD];exact ik ..
   have h3:=EI.kids ks[i].bG (by rw[aw.hz];exact kH (ln hi));have hk:ks[i]=.mk ks[i].h ks[i].kids:=by cases ks[i];rfl
   rw[hk] at h3;obtain⟨_,_,_,jw,z2,_⟩:=WH (show ks[i].h.aC=3 from tY.box _ mb) h3;exact⟨tY.one _ mb,jw,z2⟩
  obtain⟨a0,yQ,pd⟩:=Jr sj (i:=0) (by simp;omega);obtain⟨Y,AL,iO⟩:=Jr sj (i:=1) (by simp;omega);obtain rfl:Y=a0:=by rw[yQ] at AL;exact(eh AL).symm
  rw[DD] at pd iO;have ahM:ho.cell? (er Y 0)=some (.pointer (some ⟨(ks[0]'(by omega)).b,0,none⟩)):=by simpa using pd
  have ahN:ho.cell? (er Y 1)=some (.pointer (some ⟨(ks[1]'(by omega)).b,0,none⟩)):=by simpa using iO
  have aki:∀(i:O) (hi:i<ks.length) {W:H},ho.le W->W.cell? ((cp ks[i].b 0 none).add 1)=some (.slice ks[i].h.bx.a ks[i].h.bx.n ks[i].h.bx.c):=λi hi W aE=>by have Df:ho ks[i].b=some (.cells (eT ks[i].h).toArray 213 (0,0)):=(mf i hi).1.cell;exact aZ (aE _ _ Df) 1
  have QS:∀(i:O) (hi:i<ks.length) {W:H} {Q:o->o->o->H->Prop},ho.le W->(∀x y,cE x->cE y->Q x y 0 W)->rZ ks[i].h.bx dg W Q:=λi hi W Q aE fj=>by obtain⟨cB,cW,nP⟩:=mf i hi;exact BN (cB.bm.f.ints.mono aE) (BS.mono (tY.base.trans aE)) cW (by show 1<=ks[i].h.bm.length;omega) gz (by show ks[i].h.bm.length=q.length;omega) λx y M aj _=>fj x y M aj
  have on:∀(i:O) (hi:i<ks.length) (W:H),ho.le W->(∃f,At (some ⟨ks[i].b,0,none⟩) W f)/\least (At (some ⟨ks[i].b,0,none⟩) W)<least (At (some ⟨e2.b,0,none⟩) mM):=λi hi W aE=>by
   have pV:ks=ks.take i++ks[i]::ks.drop (i+1):=by rw[<-qV hi,px]
   have aH4:=tY.mono aE;have hw:Way 3 ub W ba.dim q (λc=>c≠ba.src) (λg=>c5 g=some .vec) n0 (⟨jc e2 q,ks.take i,ks.drop (i+1)⟩::aQ) ks[i]:=by refine Way.mf (by rw[<-pV];exact aH4) ?_;rw[aw.hz] at AF;exact AF
   have iN:j1 (nn (⟨jc e2 q,ks.take i,ks.drop (i+1)⟩::aQ) ks[i]).bG:=by show j1 (nn aQ (.mk (jc e2 q) (ks.take i++ks[i]::ks.drop (i+1)))).bG;rw[<-pV];exact afq
   have bP:=abg (h:=e2) hi;have sa:At (some ⟨ks[i].b,0,none⟩) W ks[i].bT.length:=⟨_,_,rfl,hw,alU.elim λa b=>⟨a,aE _ _ b⟩,iN,rfl⟩;refine⟨⟨_,sa⟩,?_⟩;have:=least_le sa;rw[RP];omega
  intro api asD;have two:∀(fb:O) (x y:o) (W:H),cE y->ho.le W->W fb=some (.cells [cN .u64 x,.int .u64 y].toArray 66 (0,0))->api ⟨fb,0,none⟩ W:=by
   intro fb x y W aj aE af2;refine asD _ _ ?_;intro apj asE;have cmp:∀(Dm:O) (k3 kM:o) (fA:H),cE kM->W.le fA->fA Dm=some (.cells [cN .u64 k3,.int .u64 kM].toArray 66 (0,0))->apj ⟨Dm,0,none⟩ fA:=by intro Dm k3 kM fA jC FK af3;have H2:=aE.trans FK;refine asE _ _ ⟨_,aZ (FK _ _ af2) 0,_,aZ (FK _ _ af2) 1,_,aZ af3 0,_,aZ af3 1,BO aj jC ⟨λ_=>?_,λ_=>?_⟩⟩;exact⟨_,rfl,e2.dd,w6 H2,Y,yQ,⟨by omega,by omega⟩,_,H.le.cell H2 ahM,on 0 (by omega) fA H2⟩;exact⟨_,rfl,e2.dd,w6 H2,Y,yQ,⟨by omega,by omega⟩,_,H.le.cell H2 ahN,on 1 (by omega) fA H2⟩
   refine⟨_,rfl,e2.dd,w6 aE,Y,yQ,⟨by omega,by omega⟩,_,H.le.cell aE ahN,_,rfl,_,aki 1 (by omega) aE,dg,QK (tY.base.trans aE),?_,λn ag=>⟨bX _ ag,?_⟩⟩;exact QS 1 (by omega) aE λk3 kM _ jC n ag=>⟨bX _ ag,lZ (zs:=[.int .u64 0,.int .u64 0]) rfl (by simp[cI]) (cmp n k3 kM _ jC (bX _ ag) (bh _ _ _))⟩;exact QS 1 (by omega) (aE.trans (bX _ ag)) λk3 kM _ jC=>lZ (zs:=[.int .u64 0,.int .u64 0]) rfl (by simp[cI]) (cmp n k3 kM _ jC (bX _ ag) (bh _ _ _))
  refine⟨_,rfl,e2.dd,w6 (H.le.refl _),Y,yQ,⟨by omega,by omega⟩,_,ahM,_,rfl,_,aki 0 (by omega) (H.le.refl _),dg,QK tY.base,?_,λn ag=>⟨bX _ ag,?_⟩⟩;exact QS 0 (by omega) (H.le.refl _) λk3 kM _ jC n ag=>⟨bX _ ag,lZ (zs:=[.int .u64 0,.int .u64 0]) rfl (by simp[cI]) (two n k3 kM _ jC (bX _ ag) (bh _ _ _))⟩;exact QS 0 (by omega) (bX _ ag) λk3 kM _ jC=>lZ (zs:=[.int .u64 0,.int .u64 0]) rfl (by simp[cI]) (two n k3 kM _ jC (bX _ ag) (bh _ _ _))
end
end lr
namespace kd
section
variable{u u':H}{b i k:O}{s:N}{l:J ax}{x:o}{K:N->H->Prop}
inductive bB where
 |tree|yC|uo|oq|list (i:O)|vec|map
structure aU where
 dim:o
 lo:N
 cs:J (N×J o)
 bx:N
 ls:J (N×J ax)
 m:O
 w:J (o×O)
def aU.cm(T:aU):J (J o):=T.cs.map (·.2)
def fx(T:aU):J ap:=[.int .i64 T.dim,.slice T.lo.a T.lo.n T.lo.c,.slice T.bx.a T.bx.n T.bx.c,.map (some T.m)]
def qn(w:J (o×O)):J (o×ap):=w.map λx=>(x.1,.int .i64 x.2)
structure Ce(u:H)(s:N)(l:J ax):Prop where
 cK:bw u s 2 (l.flatMap cJ)
 own:Own u 52 2 s (l.flatMap cJ)∨s.n=s.c
structure ee(ah:O->aA bB)(u:H)(b:O)(T:aU):Prop where
 cell:u b=some (.cells (fx T).toArray 178 (0,0))
 dQ:ah b=some .tree
 yC:bw u T.lo 1 (T.cs.flatMap λc=>encS c.1)
 vJ:∀g,T.lo.al=some g->ah g=some .yC
 uo:∀(i:O) c,T.cs[i]?=some c->Ints u c.1 c.2/\∀g,c.1.al=some g->ah g=some .uo
 oq:Own u 22 1 T.bx (T.ls.flatMap λl=>encS l.1)
 tC:∀g,T.bx.al=some g->ah g=some .oq
 list:∀i l,T.ls[i]?=some l->Ce u l.1 l.2/\(∀g,l.1.al=some g->ah g=some (.list i))/\∀r∈l.2,Ints u r.s r.v/\∀g,r.s.al=some g->ah g=some .vec
 map:fE u T.m (qn T.w)
 dy:ah T.m=some .map
def Ce.bO(h:Ce u s l)(hu:∀c z,s.al=some c->u c=some z->u' c=some z):Ce u' s l:=
 ⟨bw.else h.cK λg z Z ac=>hu g z Z ac,h.own.imp (λac=>ac.le λb z aa cC=>hu b z aa cC) id⟩
theorem ee.bO{ah aY:O->aA bB}{T:aU}(h:ee ah u b T)(ab:∀c,ah c≠none->aY c=ah c)(hu:∀c z,u c=some z->ah c≠none->u' c=some z):ee aY u' b T where
 cell:=hu _ _ h.cell (by rw[h.dQ];simp)
 dQ:=by rw[ab _ (by rw[h.dQ];simp)];exact h.dQ
 yC:=bw.else h.yC λg z Z ac=>hu g z ac (by rw[h.vJ g Z];simp)
 vJ g Z:=by rw[ab _ (by rw[h.vJ g Z];simp)];exact h.vJ g Z
 uo i c I:=⟨bw.else (h.uo i c I).1 λg z Z ac=>hu g z ac (by rw[(h.uo i c I).2 g Z];simp),λg Z=>by rw[ab _ (by rw[(h.uo i c I).2 g Z];simp)];exact(h.uo i c I).2 g Z⟩
 oq:=h.oq.le λg z Z ac=>hu g z ac (by rw[h.tC g Z];simp)
 tC g Z:=by rw[ab _ (by rw[h.tC g Z];simp)];exact h.tC g Z
 list i l aq:=by obtain⟨h1,h2,h3⟩:=h.list i l aq;refine⟨h1.bO λg z Z ac=>hu g z ac (by rw[h2 g Z];simp),λg Z=>by grind,λr U=>?_⟩;obtain⟨br,bL⟩:=h3 r U;exact⟨bw.else br λg z Z ac=>hu g z ac (by rw[bL g Z];simp),λg Z=>by grind⟩
 map:=h.map.else λz ac=>hu _ _ ac (by rw[h.dy];simp)
 dy:=by rw[ab _ (by rw[h.dy];simp)];exact h.dy
def bO:yt ee:=⟨λh h1 h2=>h.bO h1 h2⟩
abbrev In:=mP ee
structure dX(T:aU):Prop where
 hP:1<=T.dim/\T.dim<=64
 many:T.cs.length=T.ls.length/\0<T.cs.length/\T.cs.length<=64
 HI:∀c∈T.cs,(c.2.length:o)=T.dim/\cY c.2
 vec:∀l∈T.ls,∀r∈l.2,(r.v.length:o)=T.dim/\cY r.v
 ids:∀l∈T.ls,∀r∈l.2,1<=r.id/\r.id<=1000000000
 nodup:((T.ls.flatMap (·.2)).map (·.id)).Nodup
 yo:∀id i,(id,i)∈T.w↔∃l,T.ls[i]?=some l/\id∈l.2.map (·.id)
 B1:T.w.length=(T.ls.flatMap (·.2)).length
 small:T.w.length<=512
 tD:∀i l,T.ls[i]?=some l->∀r∈l.2,(mD (T.cs.map (·.2)) r.v T.cs.length).1=i
def bi(X:aU):J (o×J o):=(X.ls.flatMap (·.2)).map ax.bn
def Jn(c:J o)(l:J ax):bI:=.mk 3 c [] (oY c l l.length) (l.map ax.bn) []
def xZ:J (N×J o)->J (N×J ax)->J bI
 |c::cs,l::ls=>Jn c.2 l.2::xZ cs ls|_,_=>[]
def ak1:∀(cs:J (N×J o)) (ls:J (N×J ax)),cs.length=ls.length->bI.j2 (xZ cs ls)=(ls.flatMap (·.2)).map ax.bn:=by
 intro cs;induction cs with
 |nil=>
  intro ls h;cases ls with
  |nil=>rfl|cons l ls=>simp at h
 |cons c cs aW=>
  intro ls h;cases ls with
  |nil=>simp at h|cons l ls=>have:=aW ls (by simpa using h);simp only[xZ,bI.j2,this,jr,en];congr 1;unfold Jn;rw[bI.all_eq];show l.2.map ax.bn++ []=_;rw[ml]
theorem azH{c:J o}{d:o}(I:(c.length:o)=d/\cY c)(aq:gD l d):gr d (Jn c l):=by
 have gX:gD l c.length:=by rw[I.1];exact aq
 refine .mk ⟨aq.dim,mG,λx M=>(by cases M),.inr (.inr ⟨rfl,rfl,I.2,I.1,alG I.2 gX _ (cw _)⟩)⟩ (λx M=>?_) (λk hk=>(by cases hk));have gn:x∈l.map ax.bn:=by
  rw[bI.all_eq] at M;have h2:x∈l.map ax.bn++ []:=M
  grind
 obtain⟨r,U,rfl⟩:=bQ.1 gn;obtain⟨i,hi,rfl⟩:=oX U;exact⟨λe=>(by cases e),λ_=>(alF c l l.length).2 i _ hi (dj hi)⟩
def ak2{d:o}:∀(cs:J (N×J o)) (ls:J (N×J ax)),(∀c∈cs,(c.2.length:o)=d/\cY c.2)->(∀l∈ls,gD l.2 d)->∀p∈xZ cs ls,gr d p:=by
 intro cs;induction cs with
 |nil=>intro ls _ _ p ad;cases ls<;>cases ad
 |cons c cs aW=>
  intro ls h1 h2 p ad;cases ls with
  |nil=>cases ad
  |cons l ls=>rcases dM.1 ad with rfl|ad;exact azH (h1 c (ik ..)) (h2 l (ik ..));exact aW ls (λc I=>h1 c (iX _ I)) (λl aq=>h2 l (iX _ aq)) p ad
def ad4(X:aU)(q:J o)(k aK:o):mS:=o1 q k aK (xZ X.cs X.ls)
def iT(X:aU)(q:J o)(k aK:o):J bN:=yj q k (ad4 X q k aK)
def gv(X:aU)(q:J o)(k aK:o):J o:=cR ((ad4 X q k aK).seen.map (·.1))
def jF(X:aU)(q:J o)(k aK:o):J (o×o×J o×J o×J o):=(ou (ad4 X q k aK)).map pN
def dX.acE{X:aU}(h:dX X):gD (X.ls.flatMap (·.2)) X.dim:=
 ⟨h.hP,by rw[<-h.B1];exact h.small,λr U=>by obtain⟨l,aq,U⟩:=eA.1 U;exact h.ids l aq r U,h.nodup,λr U=>by obtain⟨l,aq,U⟩:=eA.1 U;exact h.vec l aq r U⟩
def Pl{X:aU}(h:dX X){q:J o}{k aK:o}(hk:1<=k)(aa:0<=aK)(av:(q.length:o)=X.dim){L:J ax}(cX:(L.map ax.bn).Perm (bi X))(aL:jx L q){rest:J b1}(U:rest.map b1.core=jF X q k aK):
  Sound L q k (iT X q k aK) (gv X q k aK) rest/\((gv X q k aK).length:o)<=aK/\(((gv X q k aK).length:o)=aK∨(gv X q k aK).length=L.length∨sO q k (iT X q k aK) rest):=by
 have gX:=h.acE
 refine ad7 aa hk (ak2 X.cs X.ls (λc I=>by rw[av];exact h.HI c I) λl aq=>?_) aL ?_ U
 rw[av]
 exact gX.sub (GW (f:=λl:N×J ax=>l.2) aq)
 rw[ak1 _ _ h.many.1]
 exact cX
def aDA:ku aH 176=some (22,1,24,[.slice none 0 0]):=by kernel_rfl
def Kn:Cf aH 175 3 3 (.int .i64 0):=⟨by kernel_rfl,by kernel_rfl,λ_=>by kernel_rfl⟩
def Cz(c:N×J ax):(encS c.1).length=1:=rfl
def k1{ah:O->aA bB}{T:aU}(h:ee ah u b T):u.cell? ⟨b,0,none⟩=some (.int .i64 T.dim)/\u.cell? ((cp b 0 none).add 1)=some (.slice T.lo.a T.lo.n T.lo.c)/\
  u.cell? ((cp b 0 none).add 2)=some (.slice T.bx.a T.bx.n T.bx.c)/\u.cell? ((cp b 0 none).add 3)=some (.map (some T.m)):=
 ⟨aZ h.cell 0,aZ h.cell 1,aZ h.cell 2,aZ h.cell 3⟩
def ee.abv{ah:O->aA bB}{T:aU}(h:ee ah u b T):T.bx.n=T.ls.length:=hf Cz (by decide) h.oq.cK
def ee.yn{ah:O->aA bB}{T:aU}(h:ee ah u b T):mR u T.lo T.cs:=⟨h.yC,λc I=>by obtain⟨i,hi,rfl⟩:=oX I;exact(h.uo i _ (dj hi)).1⟩
def dX.aqW{T:aU}(h:dX T):wW T.cs T.dim:=⟨h.hP,h.many.2,h.HI⟩
def s9(w:J (o×O))(x:o):aA O:=(w.find? λp=>p.1==x).map (·.2)
theorem Lx(w:J (o×O))(x:o):gm (qn w) x=(s9 w x).map λi=>.int .i64 i:=by
 unfold gm s9 qn;induction w with
 |nil=>rfl|cons p w aW=>
  grind
theorem Ra{w:J (o×O)}(h:s9 w x=some i):(x,i)∈w:=by
 unfold s9 at h;obtain⟨p,ad,rfl⟩:=Tr.1 h
 grind
theorem Rb{w:J (o×O)}:s9 w x=none↔x∉w.map (·.1):=by
 unfold s9;simp only[acq,TL,bQ,not_exists,not_and]
 grind
theorem al9{xs:J ap}(h:bw u s k xs)(ab:s.n=s.c)(hk:0<k):s=⟨none,0,0⟩∨s.a≠none:=by
 rcases h.at' with h1|⟨p,ad,_⟩;have aq:=h.len;rw[h1] at aq;simp only[sw] at aq;rcases Ty.1 aq.symm with h2|h2;cases s with
 |mk a n c=>
  grind
 omega
 grind
theorem ays{id:o}{sv:N}{v:J o}(h:Ce u s l)(aq:l.length<1000000)
  (au:∀ar u',Own u' 52 2 ar ((l++ [(⟨id,sv,v⟩:ax)]).flatMap cJ)->hc u u' s->(∀g,ar.al=some g->s.al=some g∨u g=none)->K ar u'):
  c7 aH (dA 22 1 #[(0,.agg #[.int .i64 id,.slice sv.a sv.n sv.c])]) [.one .slice] u λs1 aR=>u.le aR/\c7 aH (dO #[22,22] 22 #[.slice s.a s.n s.c,.slice s1.a s1.n s1.c]) [.one .slice] aR K:=by
 have dS:s.n=l.length:=hf fO (by decide) h.cK
 have agd:l.flatMap cJ++ [.int .i64 id,.slice sv.a sv.n sv.c]=(l++ [(⟨id,sv,v⟩:ax)]).flatMap cJ:=by simp[cJ]
 rcases h.own with ac|ab
 refine zT ig (vI id sv) (by decide) rfl (by simp[cI]) ac.f (by omega) (by omega) λar u' bR _ he aa _=>au ar u' ?_ he aa
 rw[<-agd]
 exact bR.own
 refine mK (vI id sv) λg Z=>⟨bX _ Z,?_⟩
 have hle:=bX (u:=u) (b:=g) (.cells [cN .i64 id,.slice sv.a sv.n sv.c].toArray 52 (0,0)) Z
 have M:bw (u.ins g (.cells [cN .i64 id,.slice sv.a sv.n sv.c].toArray 52 (0,0))) ⟨some ⟨g,0,none⟩,1,1⟩ 2 [cN .i64 id,.slice sv.a sv.n sv.c]:=by have:=(aD.make (k:=2) (H.le.refl u) Z (cells:=[cN .i64 id,.slice sv.a sv.n sv.c].toArray) (e:=52) (n:=1) (by omega) (by simp)).own.cK;simpa using this
 refine acU ig (h.cK.mono hle) M (by simp only;omega) (al9 h.cK ab (by decide)) (by simp) (by simp only;omega) (by simp only;omega) λg2 c cur gu dt=>au _ _ (by rw[<-agd];exact dt) (λb z aa _=>?_) λg3 aie=>?_
 have h1:=hle b z aa
 rw[bz _ _ (λe=>by grind)]
 exact h1
 have:g3=g2:=by simpa[N.al] using aie.symm
 rw[this]
 exact .inr (hle.none gu)
theorem ee.alM{ah aY:O->aA bB}{T:aU}(h:ee ah u b T){ar:N}{bH:J ax}{w':J (o×O)}(aq:Ce u' ar bH)(A8:∀g,ar.al=some g->aY g=some (.list i))
  (kT:∀r∈bH,Ints u' r.s r.v/\∀g,r.s.al=some g->aY g=some .vec) (R1:Own u' 22 1 T.bx ((T.ls.set i (ar,bH)).flatMap λl=>encS l.1)) (hm:fE u' T.m (qn w'))
  (hu:∀c z,u c=some z->ah c≠none->ah c≠some .oq->ah c≠some (.list i)->ah c≠some .map->u' c=some z) (ab:∀c,ah c≠none->ah c≠some (.list i)->aY c=ah c):ee aY u' b {T with ls:=T.ls.set i (ar,bH),w:=w'} where
 cell:=hu _ _ h.cell (by rw[h.dQ];simp) (by rw[h.dQ];simp) (by rw[h.dQ];simp) (by rw[h.dQ];simp)
 dQ:=by rw[ab _ (by rw[h.dQ];simp) (by rw[h.dQ];simp)];exact h.dQ
 yC:=bw.else h.yC λg z Z ac=>hu g z ac (by rw[h.vJ g Z];simp) (by rw[h.vJ g Z];simp) (by rw[h.vJ g Z];simp) (by rw[h.vJ g Z];simp)
 vJ g Z:=by rw[ab _ (by rw[h.vJ g Z];simp) (by rw[h.vJ g Z];simp)];exact h.vJ g Z
 uo j c I:=by obtain⟨h1,h2⟩:=h.uo j c I;exact⟨bw.else h1 λg z Z ac=>hu g z ac (by rw[h2 g Z];simp) (by rw[h2 g Z];simp) (by rw[h2 g Z];simp) (by rw[h2 g Z];simp),λg Z=>by grind⟩
 oq:=R1
 tC g Z:=by rw[ab _ (by rw[h.tC g Z];simp) (by rw[h.tC g Z];simp)];exact h.tC g Z
 list j l aP:=by
  by_cases e:j=i
  grind
  rw[TP (e3 e)] at aP;obtain⟨h1,h2,h3⟩:=h.list j l aP;refine⟨h1.bO λg z Z ac=>hu g z ac (by rw[h2 g Z];simp) (by rw[h2 g Z];simp) (by grind) (by rw[h2 g Z];simp),λg Z=>by grind,λr U=>?_⟩;obtain⟨br,bL⟩:=h3 r U;exact⟨bw.else br λg z Z ac=>hu g z ac (by rw[bL g Z];simp) (by rw[bL g Z];simp) (by rw[bL g Z];simp) (by rw[bL g Z];simp),λg Z=>by grind⟩
 map:=hm
 dy:=by rw[ab _ (by rw[h.dy];simp) (by rw[h.dy];simp)];exact h.dy
theorem aBl{ls:J (N×J ax)}{l:N×J ax}(h:ls[i]?=some l)(ar:N)(r:ax):((ls.set i (ar,l.2++ [r])).flatMap (·.2)).Perm (r::ls.flatMap (·.2)):=by
 induction ls generalizing i with
 |nil=>simp at h|cons x ls aW=>
  cases i with
  |zero=>
   simp_all|succ i=>simp only[Gj] at h;rw[JE,jr,jr];exact((aW h).append_left _).trans zJ
structure apo(ak u:H)(ah:O->aA bB)(b:O)(T:aU)(id:o)(v:J o)(u':H)(aY:O->aA bB)(bD:aU):Prop where
 is:In ak u' aY b bD
 eJ:hM u ah u' aY
 ok:dX bD
 rows:(bi bD).Perm ((id,v)::bi T)
 dim:bD.dim=T.dim
 cs:bD.cs=T.cs
 B1:bD.w.length=T.w.length+1
 w:∀x,x∈bD.w.map (·.1)↔x∈T.w.map (·.1)∨x=id
 wQ:∀c,ah c=some .vec->aY c=some .vec
 aom:∀c z,u c=some z->ah c=some .vec->u' c=some z
theorem amP{ak:H}{ah:O->aA bB}{T:aU}{id:o}{v:J o}{K:H->Prop}(h:In ak u ah b T)(aV:dX T)(cy:id∉T.w.map (·.1))(hi:1<=id/\id<=1000000000)(aB:Ints u s v)
  (ae:∀g,s.al=some g->ah g=some .vec) (bM:(v.length:o)=T.dim/\cY v) (hlen:T.w.length<512) (au:∀u' aY bD,apo ak u ah b T id v u' aY bD->K u'):Ky (some ⟨b,0,none⟩) id s u K:=by
 obtain⟨bA,c1,c2,fc⟩:=k1 h.aJ
 have dV:=aV.aqW
 obtain⟨k,hk⟩:∃k,(mD (T.cs.map (·.2)) v T.cs.length).1=k:=⟨_,rfl⟩
 have hW:k<T.cs.length:=by rw[<-hk];exact akK _ _ _ aV.many.2.1
 have aiw:k<T.ls.length:=by rw[<-aV.many.1];exact hW
 have R5:=h.aJ.abv
 apply aFq
 intro iK h0
 refine⟨u,H.le.refl u,_,rfl,_,c1,?_⟩
 have main:iK (k:o) u:=by
  refine h0 _ _ λEb h3=>?_;obtain⟨l,aq⟩:∃l,T.ls[k]?=some l:=⟨_,dj aiw⟩;obtain⟨cX,Ia,LM⟩:=h.aJ.list k l aq;obtain⟨p,ad,I⟩:=bw.elem Cz (by decide) h.aJ.oq.cK aq;have hR:=I 0 _ rfl;rw[Addr.add_zero'] at hR;have nl:∀{c t},ah c=some t->t≠.list k->l.1.al≠some c:=λI ht e=>ht (by grind);have ahK:l.1.al≠some b:=nl h.aJ.dQ (by simp);have ZL:∃g cur,T.bx.a=some ⟨g,0,none⟩/\u g=some (.cells cur 22 (0,0))/\T.bx.al=some g:=by rcases h.aJ.oq.is with h1|⟨g,cur,h1,h2,_⟩;rw[h1] at ad;cases ad;exact⟨g,cur,h1,h2,by simp[N.al,h1]⟩
  obtain⟨g,cur,Mh,Y5,Y2⟩:=ZL;have vT:=h.aJ.tC g Y2;have auD:l.1.al≠some g:=nl vT (by simp);obtain rfl:p=⟨g,0,none⟩:=by grind
  have WW:∀{a:a8} {x:ap},u.cell? a=some x->l.1.al≠some a.block->(nY u l.1).cell? a=some x:=λ{a x} M an=>by unfold H.cell? at M ⊢;rw[nZ an];exact M
  refine⟨nY u l.1,DJ _ _,_,rfl,_,rfl,T.bx,WW c2 ahK,T.bx,WW c2 ahK,_,ad,⟨by omega,by omega⟩,l.1,?_,?_⟩;unfold aG;rw[zL];refine WW hR ?_;rw[ib];exact auD;have ux:l.2.length<1000000:=by have h1:=(GW (f:=λl:N×J ax=>l.2) (dz aq)).length_le;rw[<-aV.B1] at h1;omega
  refine c7.O6 (ays (v:=v) cX ux (K:=λacJ UI=>(nY u l.1).le UI/\∃alp:a8,T.bx.a=some alp/\((0:o)<=(k:o)/\(k:o)<(T.bx.n:o))/\H.aM UI (alp.add ((k:o).toNat*1)) [.slice acJ.a acJ.n acJ.c] λoZ=>Eb oZ) ?_) λs1 v1 M=>⟨(DJ _ _).trans M.1,M.2⟩;intro ar aR ac he aa;refine⟨λc z I=>he c z (J6 I).1 (J6 I).2,_,ad,⟨by omega,by omega⟩,?_⟩;have avi:Own aR 22 1 T.bx (T.ls.flatMap λl=>encS l.1):=h.aJ.oq.le λc z I hu=>he c z hu λe=>nl (h.aJ.tC c I) (by simp) e;rw[zL];have Z1:ar.al≠some g:=λe=>by
   grind
  refine aD.store (enc:=λl:N×J ax=>encS l.1) Cz avi.f (by decide) (i:=k) aiw (y:=(ar,l.2++ [⟨id,s,v⟩])) (by simp[encS,cI]) Mh λcF dt jy fK=>h3 _ ?_;have uq:∀c z,u c=some z->ah c≠some .oq->ah c≠some (.list k)->cF c=some z:=λc z I h1 h2=>by refine jy c z (he c z I λe=>h2 (Ia c e)) λe=>h1 (h.aJ.tC c e)
  have W1:cF b=some (.cells (fx T).toArray 178 (0,0)):=uq b _ h.aJ.cell (by rw[h.aJ.dQ];simp) (by rw[h.aJ.dQ];simp);have avw:fE cF T.m (qn T.w):=h.aJ.map.else λz ac=>uq _ z ac (by rw[h.aJ.dy];simp) (by rw[h.aJ.dy];simp);refine⟨cF,H.le.refl _,_,rfl,_,aZ W1 3,DK Kn avw (by rw[Lx,Rb.2 cy];rfl) λz hm=>?_⟩;have Zq:∀c,ah c≠some .map->c≠T.m:=λc I e=>I (by rw[e];exact h.aJ.dy);have dG:∀c x,u c=some x->ah c≠some .oq->ah c≠some (.list k)->ah c≠some .map->(cF.ins T.m z) c=some x:=λc x I h1 h2 h3=>by rw[bz _ _ (Zq c h3)];exact uq c x I h1 h2
  have aAR:ar.al≠some T.m:=λe=>by
   rcases aa _ e with h1|h1
   grind
   exact h.known T.m (by rw[h.aJ.dy];simp) h1
  have ZH:Own (cF.ins T.m z) 52 2 ar ((l.2++ [(⟨id,s,v⟩:ax)]).flatMap cJ):=ac.le λc x I M=>by
   rw[bz _ _ (λe=>aAR (by rw[I,e]))];exact jy c x M λe=>by
    grind
  have sh:∀c,ar.al=some c->ah c=some (.list k)∨u c=none:=λc I=>(aa c I).imp (Ia c) λh=>h
  let aY:O->aA bB:=λc=>open Classical in if ar.al=some c then some (.list k) else if l.1.al=some c then none else ah c
  have f2:∀c,ar.al=some c->aY c=some (.list k):=λc I=>b3 I;have f1:∀c,ah c≠none->ah c≠some (.list k)->aY c=ah c:=λc I h2=>by
   have h1:ar.al≠some c:=λe=>by rcases sh c e with h1|h1;exact h2 h1;exact I (h.fresh h1)
   grind
  have f3:∀c,aY c≠none->(ar.al=some c/\(ah c≠none∨u c=none))∨(ar.al≠some c/\l.1.al≠some c/\ah c≠none):=λc I=>by
   grind
  have acH:∀r∈l.2++ [(⟨id,s,v⟩:ax)],Ints (cF.ins T.m z) r.s r.v/\∀c,r.s.al=some c->aY c=some .vec:=by
   intro r U;have both:Ints u r.s r.v/\∀c,r.s.al=some c->ah c=some .vec:=by rcases dT.1 U with h1|h1;exact LM r h1;rw[hZ.1 h1];exact⟨aB,ae⟩
   exact⟨bw.else both.1 λc x I M=>dG c x M (by rw[both.2 c I];simp) (by rw[both.2 c I];simp) (by rw[both.2 c I];simp),λc I=>by rw[f1 c (by rw[both.2 c I];simp) (by rw[both.2 c I];simp)];exact both.2 c I⟩
  have pX:fE (cF.ins T.m z) T.m (qn (T.w++ [(id,k)])):=by
   have:qn (T.w++ [(id,k)])=qn T.w++ [(id,.int .i64 (k:o))]:=by simp[qn]
   rw[this];exact hm
  have R2:Own (cF.ins T.m z) 22 1 T.bx ((T.ls.set k (ar,l.2++ [(⟨id,s,v⟩:ax)])).flatMap λl=>encS l.1):=dt.own.le λc x I M=>by rw[bz _ _ (λe=>by grind)];exact M
  have Ym:=h.aJ.alM (i:=k) (w':=T.w++ [(id,k)]) ⟨ZH.cK,.inl ZH⟩ f2 acH R2 pX (λc x I _ h2 h3 br=>dG c x I h2 h3 br) f1;have adP:ak.le (cF.ins T.m z):=λc x I=>by
   have hu:=h.le c x I;have ab:ah c=none:=by
    cases e:ah c with
    |none=>rfl|some t=>have:=h.out c (by rw[e];simp);grind
   grind
  have gF:=aBl aq ar (⟨id,s,v⟩:ax);have auR:id∉(T.ls.flatMap (·.2)).map (·.id):=λhm=>by
   obtain⟨r,U,e⟩:=bQ.1 hm;obtain⟨y,aj,M4⟩:=eA.1 U;obtain⟨j,aP,rfl⟩:=oX aj;have:=(aV.yo id j).2 ⟨_,dj aP,bQ.2 ⟨r,M4,e⟩⟩
   grind
  have each:∀{i:O} {y:N×J ax},(T.ls.set k (ar,l.2++ [(⟨id,s,v⟩:ax)]))[i]?=some y->(i=k/\y=(ar,l.2++ [⟨id,s,v⟩]))∨(i≠k/\T.ls[i]?=some y):=λ{i y} aj=>by by_cases e:i=k;subst e;rw[DC (by omega)] at aj;exact .inl ⟨rfl,(eh aj).symm⟩;rw[TP (e3 e)] at aj;exact .inr ⟨e,aj⟩
  have NQ:∀y∈T.ls.set k (ar,l.2++ [(⟨id,s,v⟩:ax)]),∀r∈y.2,r=⟨id,s,v⟩∨∃W∈T.ls,r∈W.2:=λy aj r U=>by have:r∈(⟨id,s,v⟩:ax)::T.ls.flatMap (·.2):=gF.mem_iff.1 (eA.2 ⟨y,aj,U⟩);rcases dM.1 this with h1|h1;exact .inl h1;obtain⟨W,aE,oQ⟩:=eA.1 h1;exact .inr ⟨W,aE,oQ⟩
  refine au _ aY {T with ls:=T.ls.set k (ar,l.2++ [⟨id,s,v⟩]),w:=T.w++ [(id,k)]} ⟨⟨Ym,adP,λc I=>?_,λc I=>?_⟩,⟨λc x I ab=>dG c x I (by rw[ab];simp) (by rw[ab];simp) (by rw[ab];simp),λc I=>?_⟩,?_,?_,rfl,rfl,by simp,λx=>by simp[en],λc I=>by grind,λc z ac I=>dG c z ac (by rw[I];simp) (by rw[I];simp) (by rw[I];simp)⟩;rcases f3 c I with⟨_,h1|h1⟩|⟨_,_,h1⟩;exact h.out c h1;exact h.le.none h1;exact h.out c h1;rcases f3 c I with⟨h1,_⟩|⟨_,h2,h1⟩;exact dH ZH.f h1;by_cases e:c=T.m;rw[e,bh];simp;by_cases aN:T.bx.al=some c;exact dH R2.f aN;obtain⟨x,M⟩:=fp.1 (h.known c h1);rw[bz _ _ e,jy c x (he c x M h2) aN];simp
  grind
  have ai3:(mD (T.cs.map (·.2)) (⟨id,s,v⟩:ax).v T.cs.length).1=k:=hk;refine⟨aV.hP,⟨by simp[aV.many.1],aV.many.2⟩,aV.HI,λy aj r U=>?_,λy aj r U=>?_,?_,λi j=>?_,?_,by simp;omega,λi y aj r U=>?_⟩;rcases NQ y aj r U with rfl|⟨W,aE,oQ⟩;exact bM;exact aV.vec W aE r oQ;rcases NQ y aj r U with rfl|⟨W,aE,oQ⟩;exact hi;exact aV.ids W aE r oQ;rw[(gF.map _).nodup_iff,iw,ka];exact⟨auR,aV.nodup⟩;simp only[dT,hZ,JF];constructor;rintro(h1|⟨rfl,rfl⟩);obtain⟨y,aj,hm⟩:=(aV.yo i j).1 h1;by_cases e:j=k;subst e;rw[aq] at aj;cases aj;exact⟨_,DC (by omega),by rw[en];exact kG _ hm⟩;exact⟨y,by rw[TP (e3 e)];exact aj,hm⟩;exact⟨_,DC (by omega),by simp⟩;rintro⟨y,aj,hm⟩;rcases each aj with⟨rfl,rfl⟩|⟨an,aj⟩;rw[en] at hm;rcases dT.1 hm with h1|h1;exact .inl ((aV.yo i j).2 ⟨l,aq,h1⟩);exact .inr ⟨by simpa using h1,rfl⟩;exact .inl ((aV.yo i j).2 ⟨y,aj,hm⟩);have:=gF.length_eq;rw[jq,<-aV.B1] at this;show(T.w++ [(id,k)]).length=_;rw[this];simp;rcases each aj with⟨rfl,rfl⟩|⟨an,aj⟩;rcases dT.1 U with h1|h1;exact aV.tD i l aq r h1
  grind
  exact aV.tD i y aj r U;exact gF.map ax.bn
 exact⟨Uk h.aJ.yn dV aB bM.2 bM.1 ⟨H.le.refl u,by rw[hk];exact main⟩,H.le.refl u,Uk h.aJ.yn dV aB bM.2 bM.1 (by rw[hk];exact main)⟩
def aA4{P:dL}{t fq e:dC}{size bytes:O}{zs:J ap}(aV:ku P t=some (e,size,bytes,zs)){x:N}(ae:s.n<=s.c)(M:x.n=0)(au:K s u):
  c7 P (dO #[t,t] fq #[.slice s.a s.n s.c,.slice x.a x.n x.c]) [.one .slice] u K:=by
 obtain⟨ht,i,W,hi,aE,pg,xj,zg,_⟩:=uu aV
 refine .Dq (c:=.slice) s (λw hw=>?_) au
 have aq:∀(y:a8),(loadCells y 0).run P w=.ok #[] w:=λy=>by simpa using run_loadCells_list (P:=P) w y [] (by simp)
 rw[M]
 cases uV:s.a<;>cases Bg:x.a<;>simp[dO,ia ht,sizeOf,typeInfo,hi,Builtin.lenOf,Builtin.firstCells,ae,aI.enc,uV,aq,storeCells]
theorem azK{l h m:O}{g:O}(Z:(s.part l h m k).al=some g):s.al=some g:=by
 unfold N.part N.al at*;simp only at Z;split at Z;exact Z;cases az:s.a with
 |none=>rw[az] at Z;simp at Z|some p=>
  rw[az] at Z;simp only[Dt] at Z ⊢;have:(p.add (l*k)).block=p.block:=by unfold er;split<;>rfl
  grind
theorem ayr{fq:dC}(h:bw u s 2 (l.flatMap cJ))(hi:i<l.length)(aq:l.length<=1000000)
  (au:∀ar u',u.le u'->Ce u' ar (l.take i++l.drop (i+1))->(∀g,ar.al=some g->s.al=some g∨(u g=none/\u' g≠none))->K ar u'):
  c7 aH (dO #[22,22] fq #[.slice (s.part 0 i i 2).a (s.part 0 i i 2).n (s.part 0 i i 2).c,.slice (s.part (i+1) s.n s.c 2).a (s.part (i+1) s.n s.c 2).n (s.part (i+1) s.n s.c 2).c]) [.one .slice] u K:=by
 have ag:s.n=l.length:=hf fO (by decide) h
 have I:=h.cap
 have s1:bw u (s.part 0 i i 2) 2 ((l.take i).flatMap cJ):=by have:=bw.part h (l:=0) (h:=i) (m:=i) (by omega) (by omega) (cw _) (by omega);rw[JD,DA,zI,yK fO] at this;exact this
 have s2:bw u (s.part (i+1) s.n s.c 2) 2 ((l.drop (i+1)).flatMap cJ):=by have:=bw.part h (l:=i+1) (h:=s.n) (m:=s.c) (by omega) (cw _) I (cw _);rw[Q5 fO,yK fO,gC (by grind)] at this;exact this
 have cj:(s.part 0 i i 2).n=i:=by simp[N.part]
 have c1:(s.part 0 i i 2).c=i:=by simp[N.part]
 have ez:(s.part (i+1) s.n s.c 2).n=s.n-(i+1):=rfl
 by_cases h0:(s.part (i+1) s.n s.c 2).n=0
 have av:l.drop (i+1)=[]:=vi (by omega)
 refine aA4 ig (by omega) h0 (au _ u (H.le.refl u) ?_ λg Z=>.inl (azK Z))
 rw[av,ml]
 exact⟨s1,.inr (by omega)⟩
 have Bg:(s.part (i+1) s.n s.c 2).a≠none:=by
   rcases s2.at' with h1|⟨p,ad,_⟩;have:=s2.len
   grind
   rw[ad];simp
 refine acU ig s1 s2 (by omega) (al9 s1 (by omega) (by decide)) Bg (by omega) (by omega) λg c cur Z ac=>au _ _ (bX _ Z) ?_ λg2 gu=>?_
 rw[<-hb] at ac
 exact⟨ac.cK,.inl ac⟩
 have:g2=g:=by simpa[N.al] using gu.symm
 rw[this]
 exact .inr ⟨Z,by rw[bh];simp⟩
theorem W4{r:ax}{id:o}(b8:(l.map (·.id)).Nodup)(h:l[i]?=some r)(U:r.id=id):l.take i++l.drop (i+1)=l.filter λx=>x.id !=id:=by
 induction l generalizing i with
 |nil=>simp at h|cons x l aW=>
  rw[iw,ka] at b8;cases i with
  |zero=>
   simp only[Du,ll] at h;subst h;simp only[TC,mm,ab8,DA,Oz,U,bne_self_eq_false,Dw,Gn];refine(qe.2 λy aj=>?_).symm
   grind|succ i=>
   grind
def aBj{ls:J (N×J ax)}{l:N×J ax}{r:ax}{id:o}(b8:((ls.flatMap (·.2)).map (·.id)).Nodup)(h:ls[k]?=some l)(hi:l.2[i]?=some r)(U:r.id=id)(ar:N):
  (ls.set k (ar,l.2.take i++l.2.drop (i+1))).flatMap (·.2)=(ls.flatMap (·.2)).filter λx=>x.id !=id:=by
 induction ls generalizing k with
 |nil=>simp at h
 |cons x ls aW=>
  rw[jr,en,hg] at b8;obtain⟨h1,h2,h3⟩:=b8;have ama:∀{m:J ax},(∀y∈m,y.id≠id)->m.filter (λx=>x.id !=id)=m:=λhm=>qe.2 λy aj=>by simpa using hm y aj
  cases k with
  |zero=>simp only[Du,ll] at h;subst h;rw[TH,jr,jr,BB,W4 h1 hi U];congr 1;exact(ama λy aj e=>h3 r.id (bQ.2 ⟨r,dz hi,rfl⟩) y.id (bQ.2 ⟨y,aj,rfl⟩) (by rw[e,U])).symm|succ k=>simp only[Gj] at h;rw[JE,jr,jr,BB,aW h2 h];congr 1;refine(ama λy aj e=>h3 y.id (bQ.2 ⟨y,aj,rfl⟩) r.id (bQ.2 ⟨r,eA.2 ⟨l,dz h,dz hi⟩,rfl⟩) (by rw[e,U])).symm
def aHT(w:J (o×O))(id:o):(qn w).filter (λp=>p.1 !=id)=qn (w.filter λp=>p.1 !=id):=by unfold qn;rw[sB];rfl
def WE:hy aH 284=ai:=by kernel_rfl
theorem ee.rW{ah:O->aA bB}{T:aU}(h:ee ah u b T):(T.w.map (·.1)).Nodup:=by
 obtain⟨es,c,_,he⟩:=h.map;have:=he.nodup;unfold qn at this
 grind
theorem dX.ad8{T:aU}(h:dX T){id:o}:id∈T.w.map (·.1)↔id∈(T.ls.flatMap (·.2)).map (·.id):=by
 constructor;intro hm;obtain⟨p,ad,e⟩:=bQ.1 hm;obtain⟨l,aq,cy⟩:=(h.yo p.1 p.2).1 ad
 grind
 intro hm;obtain⟨r,U,e⟩:=bQ.1 hm;obtain⟨l,aq,lc⟩:=eA.1 U;obtain⟨i,hi,rfl⟩:=oX aq;exact bQ.2 ⟨(id,i),(h.yo id i).2 ⟨_,dj hi,bQ.2 ⟨r,lc,e⟩⟩,rfl⟩
def aa1(T:aU):(bi T).map (·.1)=(T.ls.flatMap (·.2)).map (·.id):=by unfold bi;rw[e4];rfl
theorem ax4{w:J (o×O)}(ag:(w.map (·.1)).Nodup){j:O}(h1:(x,i)∈w)(h2:(x,j)∈w):(x,i)=(x,j):=by
 induction w with
 |nil=>cases h1
 |cons p w aW=>
  grind
structure Ag(ak u:H)(ah:O->aA bB)(b:O)(T:aU)(id:o)(u':H)(aY:O->aA bB)(bD:aU):Prop where
 is:In ak u' aY b bD
 eJ:hM u ah u' aY
 ok:dX bD
 rows:bi bD=(bi T).filter λx=>x.1 !=id
 dim:bD.dim=T.dim
 cs:bD.cs=T.cs
 w:bD.w=T.w.filter λp=>p.1 !=id
theorem wL{ak:H}{ah:O->aA bB}{T:aU}{id:o}{K:ay->o->H->Prop}(h:In ak u ah b T)(aV:dX T)(dR:id∉T.w.map (·.1)->∀u',u.le u'->K ao 0 u')
  (jD:id∈T.w.map (·.1)->∀u' aY bD,Ag ak u ah b T id u' aY bD->K ai 0 u'):Vm (some ⟨b,0,none⟩) id u K:=by
 apply aFk
 intro n0 fJ
 have FX:u.le (u.ins n0 (.cells #[.int .i64 id] 3 (0,0))):=bX _ fJ
 have fH:(u.ins n0 (.cells #[.int .i64 id] 3 (0,0))) n0=some (.cells #[.int .i64 id] 3 (0,0)):=bh _ _ _
 have h1:=h.mono bO FX
 have avG:ah n0=none:=h.fresh fJ
 obtain⟨aR,gB⟩:∃aR,aR=u.ins n0 (.cells #[.int .i64 id] 3 (0,0)):=⟨_,rfl⟩
 rw[<-gB] at FX fH h1 ⊢
 obtain⟨bA,c1,c2,fc⟩:=k1 h1.aJ
 refine⟨λe=>(by cases e),λ_=>⟨_,rfl,_,fc,_,aZ fH 0,?_⟩⟩
 refine tU Kn h1.aJ.map (ct:=.int .i64) (((s9 T.w id).getD 0:O):o) (by rw[Lx];cases s9 T.w id<;>rfl) ?_
 have iS:(gm (qn T.w) id).isSome=decide (id∈T.w.map (·.1)):=by
  rw[Lx,TQ];cases e:s9 T.w id with
  |none=>rw[q0 (Rb.1 e)];rfl|some k=>rw[jf (bQ.2 ⟨_,Ra e,rfl⟩)];rfl
 rw[iS]
 refine⟨λaa=>?_,λaa=>?_⟩
 exact dR (λhm=>aa (jf hm)) _ FX
 have ch:id∈T.w.map (·.1):=BC aa
 have jD:=jD ch
 obtain⟨k,hk⟩:∃k,s9 T.w id=some k:=by
  cases e:s9 T.w id with
  |none=>exact bf ch (Rb.1 e)|some k=>exact⟨k,rfl⟩
 rw[hk,Of]
 obtain⟨l,aq,auQ⟩:=(aV.yo id k).1 (Ra hk)
 have hW:k<T.ls.length:=(hG.1 aq).1
 have R5:=h1.aJ.abv
 obtain⟨cX,Ia,LM⟩:=h1.aJ.list k l aq
 obtain⟨p,ad,I⟩:=bw.elem Cz (by decide) h1.aJ.oq.cK aq
 have hR:=I 0 _ rfl
 rw[Addr.add_zero'] at hR
 have ZL:∃g cur,T.bx.a=some ⟨g,0,none⟩/\aR g=some (.cells cur 22 (0,0))/\T.bx.al=some g:=by rcases h1.aJ.oq.is with aT|⟨g,cur,aT,aN,_⟩;rw[aT] at ad;cases ad;exact⟨g,cur,aT,aN,by simp[N.al,aT]⟩
 obtain⟨g,cur,Mh,Y5,Y2⟩:=ZL
 have vT:=h1.aJ.tC g Y2
 obtain rfl:p=⟨g,0,none⟩:=by grind
 have nl:∀{c t},ah c=some t->t≠.list k->l.1.al≠some c:=λI ht e=>ht (by grind)
 refine⟨_,rfl,_,fc,_,aZ fH 0,OV Kn h1.aJ.map λz hm=>?_⟩
 have Zq:∀c,ah c≠some .map->c≠T.m:=λc I e=>I (by rw[e];exact h1.aJ.dy)
 have aT:∀c x,aR c=some x->ah c≠some .map->(aR.ins T.m z) c=some x:=λc x M h3=>by rw[bz _ _ (Zq c h3)];exact M
 obtain⟨v,aB⟩:∃v,v=aR.ins T.m z:=⟨_,rfl⟩
 rw[<-aB] at hm aT ⊢
 have aHR:∀c,v c=none->aR c=none:=λc I=>by by_cases e:c=T.m;rw[aB,e,bh] at I;cases I;rw[aB,bz _ _ e] at I;exact I
 have l5:v b=some (.cells (fx T).toArray 178 (0,0)):=aT _ _ h1.aJ.cell (by rw[h1.aJ.dQ];simp)
 have auI:=aT g _ Y5 (by rw[vT];simp)
 have aIX:v.cell? (er ⟨g,0,none⟩ (k*1))=some (.slice l.1.a l.1.n l.1.c):=by rw[ib] at hR ⊢;unfold H.cell? at hR ⊢;simp only[Y5,auI] at hR ⊢;exact hR
 have avH:v n0=some (.cells #[.int .i64 id] 3 (0,0)):=aT _ _ fH (by rw[avG];simp)
 have Ss:bw v l.1 2 (l.2.flatMap cJ):=bw.else cX.cK λc x I M=>aT c x M (by rw[Ia c I];simp)
 have avr:l.1.n=l.2.length:=hf fO (by decide) Ss
 have ux:l.2.length<1000000:=by have h1:=(GW (f:=λl:N×J ax=>l.2) (dz aq)).length_le;rw[<-aV.B1] at h1;have:=aV.small;omega
 have aiF:(l.2.map (·.id)).Nodup:=aV.nodup.sublist ((GW (f:=λl:N×J ax=>l.2) (dz aq)).map _)
 refine⟨_,rfl,T.bx,aZ l5 2,_,Mh,⟨by omega,by omega⟩,l.1,by grind,?_⟩
 refine amT (p:=λr=>decide (r.id=id)) (l:=l.2) Ss (λr w fB hw dk=>.inl ⟨_,_,_,rfl,hs WE,aFl _ _ _ _ _ ⟨_,aZ (hw _ _ avH) 0,dk⟩⟩) (H.le.refl v) (λi r U _ pY=>?_) λeP=>(by obtain⟨r,U,e⟩:=bQ.1 auQ;have:=Ox (eP r U);exact bf e this)
 have xG:r.id=id:=BC pY
 have ey:i<l.2.length:=(hG.1 U).1
 have fin:∀{fq:dC},c7 aH (dO #[22,22] fq #[.slice (l.1.part 0 i i 2).a (l.1.part 0 i i 2).n (l.1.part 0 i i 2).c,.slice (l.1.part (i+1) l.1.n l.1.c 2).a (l.1.part (i+1) l.1.n l.1.c 2).n (l.1.part (i+1) l.1.n l.1.c 2).c]) [.one .slice] v
   λiZ kL=>v.le kL/\∃alq:a8,T.bx.a=some alq/\((0:o)<=(k:o)/\(k:o)<(T.bx.n:o))/\H.aM kL (alq.add ((k:o).toNat*1)) [.slice iZ.a iZ.n iZ.c] λqm=>K ai 0 qm:=by
  intro fq
  refine ayr Ss ey (by omega) λar cF eZ LL eB=>⟨eZ,_,Mh,⟨by omega,by omega⟩,?_⟩
  have R2:Own cF 22 1 T.bx (T.ls.flatMap λl=>encS l.1):=h1.aJ.oq.le λc z I hu=>eZ _ _ (aT c z hu (by grind))
  rw[zL]
  refine aD.store (enc:=λl:N×J ax=>encS l.1) Cz R2.f (by decide) (i:=k) hW (y:=(ar,l.2.take i++l.2.drop (i+1))) (by simp[encS,cI]) Mh λil jT se tl=>?_
  have Z1:ar.al≠some g:=λe=>by
   grind
  have dG:∀c x,u c=some x->ah c≠some .oq->ah c≠some .map->il c=some x:=λc x M h2 h3=>se c x (eZ _ _ (aT c x (FX _ _ M) h3)) λe=>h2 (h1.aJ.tC c e)
  have af9:∀c x,aR c=some x->ah c≠some .oq->ah c≠some .map->il c=some x:=λc x M h2 h3=>se c x (eZ _ _ (aT c x M h3)) λe=>h2 (h1.aJ.tC c e)
  have sh:∀c,ar.al=some c->ah c=some (.list k)∨(ah c=none/\u c=none/\cF c≠none):=λc I=>by rcases eB c I with h2|h2;exact .inl (Ia c h2);have h3:=aHR c h2.1;exact .inr ⟨h1.fresh h3,FX.none h3,h2.2⟩
  have as7:Ce il ar (l.2.take i++l.2.drop (i+1)):=LL.bO λc x I M=>se c x M λe=>Z1 (by
   grind)
  let aY:O->aA bB:=λc=>open Classical in if ar.al=some c then some (.list k) else if l.1.al=some c then none else ah c
  have f2:∀c,ar.al=some c->aY c=some (.list k):=λc I=>b3 I
  have f1:∀c,ah c≠none->ah c≠some (.list k)->aY c=ah c:=λc I h2=>by
   grind
  have f3:∀c,aY c≠none->(ar.al=some c/\(ah c≠none∨u c=none))∨(ar.al≠some c/\l.1.al≠some c/\ah c≠none):=λc I=>by
   grind
  have gR:∀cx∈l.2.take i++l.2.drop (i+1),cx∈l.2:=λcx cU=>by
   grind
  have acH:∀cx∈l.2.take i++l.2.drop (i+1),Ints il cx.s cx.v/\∀c,cx.s.al=some c->aY c=some .vec:=by intro cx cU;obtain⟨i1,i2⟩:=LM cx (gR cx cU);exact⟨bw.else i1 λc x I M=>af9 c x M (by rw[i2 c I];simp) (by rw[i2 c I];simp),λc I=>by grind⟩
  have R6:fE il T.m (qn (T.w.filter λp=>p.1 !=id)):=by
   rw[<-aHT];exact hm.else λx M=>se _ x (eZ _ _ M) λe=>by
    grind
  have Ym:=h1.aJ.alM (i:=k) (w':=T.w.filter λp=>p.1 !=id) as7 f2 acH jT.own R6 (λc x I _ h2 _ br=>af9 c x I h2 br) f1
  have adP:ak.le il:=λc x I=>by
   have ab:ah c=none:=by
    cases e:ah c with
    |none=>rfl|some t=>have:=h.out c (by rw[e];simp);grind
   exact dG c x (h.le c x I) (by rw[ab];simp) (by rw[ab];simp)
  have kT:=aBj aV.nodup aq U xG ar
  have each:∀{j:O} {y:N×J ax},(T.ls.set k (ar,l.2.take i++l.2.drop (i+1)))[j]?=some y->(j=k/\y=(ar,l.2.take i++l.2.drop (i+1)))∨(j≠k/\T.ls[j]?=some y):=λ{j y} aj=>by
   grind
  have NQ:∀y∈T.ls.set k (ar,l.2.take i++l.2.drop (i+1)),∀cx∈y.2,∃W∈T.ls,cx∈W.2:=λy aj cx cU=>by
   grind
  refine jD _ aY {T with ls:=T.ls.set k (ar,l.2.take i++l.2.drop (i+1)),w:=T.w.filter λp=>p.1 !=id} ⟨⟨Ym,adP,λc I=>?_,λc I=>?_⟩,⟨λc x I ab=>dG c x I (by rw[ab];simp) (by rw[ab];simp),λc I=>?_⟩,?_,?_,rfl,rfl,rfl⟩
  rcases f3 c I with⟨_,h1|h1⟩|⟨_,_,h1⟩
  exact h.out c h1
  exact h.le.none h1
  exact h.out c h1
  rcases f3 c I with⟨h2,_⟩|⟨_,h2,h3⟩
  rcases sh c h2 with bL|⟨_,_,bL⟩
  obtain⟨x,M⟩:=fp.1 (h.known c (by rw[bL];simp))
  rw[dG c x M (by rw[bL];simp) (by rw[bL];simp)];simp
  obtain⟨x,M⟩:=fp.1 bL
  rw[se c x M λe=>Z1 (by
   grind)]
  simp
  by_cases aN:T.bx.al=some c
  exact dH jT aN
  by_cases e:c=T.m
  obtain⟨es,cl,M,_⟩:=R6
  rw[e,M];simp
  obtain⟨x,M⟩:=fp.1 (h1.known c h3)
  have:v c=some x:=by rw[aB,bz _ _ e];exact M
  rw[se c x (eZ _ _ this) aN];simp
  grind
  refine⟨aV.hP,⟨by simp[aV.many.1],aV.many.2⟩,aV.HI,λy aj cx cU=>?_,λy aj cx cU=>?_,?_,λx j=>?_,?_,jW (DE _ _) aV.small,λj y aj cx cU=>?_⟩
  obtain⟨W,aE,oQ⟩:=NQ y aj cx cU
  exact aV.vec W aE cx oQ
  obtain⟨W,aE,oQ⟩:=NQ y aj cx cU
  exact aV.ids W aE cx oQ
  show((wC (·.2) (T.ls.set k _)).map _).Nodup
  rw[kT]
  exact aV.nodup.sublist (JW.map _)
  simp only[kZ,bne_iff_ne,ne_eq]
  constructor
  rintro⟨h2,h3⟩
  obtain⟨y,aj,MI⟩:=(aV.yo x j).1 h2
  by_cases e:j=k
  subst e
  rw[aq] at aj;cases aj
  refine⟨_,DC (by omega),?_⟩
  rw[show((ar,l.2.take i++l.2.drop (i+1)):N×J ax).2=l.2.take i++l.2.drop (i+1) from rfl,W4 aiF U xG]
  grind
  grind
  rintro⟨y,aj,MI⟩
  rcases each aj with⟨rfl,rfl⟩|⟨an,aj⟩
  rw[show((ar,l.2.take i++l.2.drop (i+1)):N×J ax).2=l.2.take i++l.2.drop (i+1) from rfl,W4 aiF U xG] at MI
  obtain⟨W,aE,rfl⟩:=bQ.1 MI
  obtain⟨axz,aaS⟩:=kZ.1 aE
  exact⟨(aV.yo W.id j).2 ⟨l,aq,bQ.2 ⟨W,axz,rfl⟩⟩,by simpa using aaS⟩
  refine⟨(aV.yo x j).2 ⟨y,aj,MI⟩,λe=>an ?_⟩
  have e5:=(aV.yo x j).2 ⟨y,aj,MI⟩
  have dF:=Ra hk
  rw[e] at e5
  have:=h.aJ.rW
  exact(Prod.mk.inj (ax4 this e5 dF)).2
  have ZJ:(T.w.map (·.1)).Perm ((T.ls.flatMap (·.2)).map (·.id)):=(TM h.aJ.rW aV.nodup).2 λx=>aV.ad8
  have ft:=(ZJ.filter λx=>x !=id).length_eq
  rw[sB,sB,eb,eb] at ft
  show(T.w.filter λp=>p.1 !=id).length=(wC (·.2) (T.ls.set k _)).length
  rw[kT]
  exact ft
  rcases each aj with⟨rfl,rfl⟩|⟨an,aj⟩
  exact aV.tD j l aq cx (gR cx cU)
  exact aV.tD j y aj cx cU
  show(wC (·.2) (T.ls.set k _)).map ax.bn=_
  rw[kT]
  unfold bi
  rw[sB]
  rfl
 have fQ:=Ss.cap
 have O4:∀{w:H} {F:N->H->Prop},F (l.1.part 0 i i 2) w->c7 aH (fZ 22 (.slice l.1.a l.1.n l.1.c) none (some (.int .i64 (i:o))) (some (.int .i64 (i:o)))) [.one .slice] w F:=λr6=>
  kJ ig (l:=0) (h:=i) (m:=i) (.inl ⟨rfl,rfl⟩) (.inr rfl) (.inr ⟨rfl,by simp⟩) (by omega) (cw _) (by omega) fQ r6
 have amo:∀{w:H} {F:N->H->Prop},F (l.1.part (i+1) l.1.n l.1.c 2) w->c7 aH (fZ 22 (.slice l.1.a l.1.n l.1.c) (some (.int .i64 ((i:o)+1))) none none) [.one .slice] w F:=λr6=>
  kJ ig (l:=i+1) (h:=l.1.n) (m:=l.1.c) (.inr rfl) (.inl ⟨rfl,rfl⟩) (.inl ⟨rfl,rfl⟩) (by omega) fQ (cw _) fQ r6
 exact⟨_,rfl,⟨by omega,by omega⟩,T.bx,aZ l5 2,O4 ⟨H.le.refl _,amo ⟨H.le.refl _,fin⟩⟩,amo ⟨H.le.refl _,O4 ⟨H.le.refl _,fin⟩⟩⟩
end
end kd
def aAM{P:dL}(w:ci)(t bE fq e:dC)(i:TypeInfo)(W:ap)(ht:P.underlying t=some (.slice e))(cv:P.underlying bE=some (.int .i64))(hi:P.info? e=some i)(aE:i.zero=some W)(ae:0<i.size)
  (n:O) (h0:0<n) (Rh:(n:o)<=9223372036854775807) (ast:n*i.bytes<=281474976710656):
  (dO #[t,bE] fq #[.slice none 0 0,.int .i64 n]).run P w=
   .ok (.slice (some ⟨w.heap.size,0,none⟩) n (grownCap w n 0 e)) (w.drew.alloc (.cells (wy W.cells n++wy W.cells (grownCap w n 0 e-n)) e)):=by
 have hw:b2.wrap (n:o)=n:=JI _ (by omega)
 have ag:n≠0:=by omega
 have hY:¬((n:o)<0):=by omega
 have asA:¬(9223372036854775807<(n:o)):=by omega
 have asu:¬(281474976710656<Builtin.nextslicecap n 0*i.bytes):=by rw[nextslicecap_zero h0];omega
 have asv:¬(281474976710656<(n:o)*(i.bytes:o)):=by omega
 have dm:¬(n*i.size=0):=by intro h;rcases Ty.1 h with h|h<;>omega
 have aJR:i.size≠0:=by omega
 have az:∀w',(asIntOf (.int .i64 (n:o))).run P w'=.ok (.i64,(n:o)) w':=λ_=>rfl
 simp[az,dO,ia ht,ia cv,sizeOf,typeInfo,zeroValue,hi,aE,asInt,hw,ag,hY,asA,asu,asv,Question.forced,run_firstCells_none,newRow,grownCap]
 omega
theorem aA9{P:dL}{t bE fq e:dC}{size bytes:O}{zs:J ap}(aV:ku P t=some (e,size,bytes,zs))(cv:P.underlying bE=some (.int .i64))(dm:0<size){n:O}(h0:0<n)(Rh:(n:o)<=9223372036854775807)(ast:n*bytes<=140737488355328)
  {u:H} {K:N->H->Prop} (au:∀ar u' xs,aD u u' e size ar xs->ar.n=n->K ar u'):
  c7 P (dO #[t,bE] fq #[.slice none 0 0,.int .i64 n]) [.one .slice] u K:=by
 obtain⟨ht,i,W,hi,aE,pg,xj,zg,_⟩:=uu aV
 subst pg
 subst xj
 refine .one (c:=.slice) λw hw=>?_
 have hF:=grownCap_ge w n 0 e
 have c4:=grownCap_le_maxLen w n 0 e (by rw[F3];omega)
 rw[F3] at c4
 have U:=aAM (P:=P) w t bE fq e i W ht cv hi aE dm n h0 Rh (by omega)
 obtain⟨z,ac⟩:∃z,z=wy W.cells n++wy W.cells (grownCap w n 0 e-n):=⟨_,rfl⟩
 rw[<-ac] at U
 have c6:=anv hw (.cells z e)
 have awh:z.size=grownCap w n 0 e*i.size:=by rw[ac,Array.size_append,size_zeroCells,size_zeroCells,zg,<-JC];congr 1;omega
 refine⟨⟨some ⟨w.heap.size,0,none⟩,n,grownCap w n 0 e⟩,_,_,U,au _ _ (z.toList.take (n*i.size)) ⟨⟨?_,.inr ⟨w.heap.size,z,rfl,bh _ _ _,hF,c4,awh,rfl⟩⟩,bX _ c6.2,λg Z=>?_⟩ rfl,c6.1⟩
 simp_all
 have:w.heap.size=g:=by simpa[N.al] using Z
 grind
def aDz:aH.underlying 3=some (.int .i64):=by kernel_rfl
theorem aCm{n:O}{u:H}{K:N->H->Prop}(ag:n<=1000000)(au:∀ar u',aD u u' 52 2 ar []->ar.n=0->K ar u'):VD ⟨none,0,0⟩ n u K:=by
 apply aF7;intro iK h0;refine⟨λh=>by omega,λ_=>h0 _ ⟨⟨by simp,by simp⟩,⟨by simp only;omega,by simp only;omega⟩,λoi=>?_,λ_=>au _ _ (aD.nil (H.le.refl u) _ _) rfl⟩⟩;have fJ:0<n:=by grind
 refine kJ ig (s:=⟨none,0,0⟩) (l:=0) (h:=0) (m:=0) (.inl ⟨rfl,rfl⟩) (.inr rfl) (.inl ⟨rfl,rfl⟩) (cw _) (cw _) (cw _) (cw _) ?_;have aT:(⟨none,0,0⟩:N).part 0 0 0 2=⟨none,0,0⟩:=rfl;rw[aT];have aN:(n:o)-(((⟨none,0,0⟩:N).c:o)-((⟨none,0,0⟩:N).n:o))=(n:o):=by simp
 rw[aN];refine aA9 ig aDz (by decide) fJ (by omega) (by omega) λar u' xs ac fS=>?_;obtain⟨ab,_,uF⟩:=ac.front (m:=0) (pu _);have I:ar.n<=ar.c:=ac.own.cK.cap;refine kJ ig (l:=0) (h:=0) (m:=ar.c) (.inl ⟨rfl,rfl⟩) (.inr rfl) (.inl ⟨rfl,rfl⟩) (cw _) (pu _) (cw _) I ?_;rw[JD,TC] at ab;exact au _ _ ab uF
def agC{ls:J (N×J ax)}{i:O}{l:N×J ax}(h:ls[i]?=some l):((ls.take (i+1)).flatMap (·.2))=(ls.take i).flatMap (·.2)++l.2:=by rw[fN,h,Option.toList,hb];simp
theorem agB(ls:J (N×J ax))(i:O):((ls.take i).flatMap (·.2)).length<=(ls.flatMap (·.2)).length:=by
 conv=>rhs;rw[<-px i ls]
 grind
theorem aCj{u:H}{s:N}{ls:J (N×J ax)}{K:N->H->Prop}(ae:bw u s 1 (ls.flatMap λl=>encS l.1))(aq:∀l∈ls,bw u l.1 2 (l.2.flatMap cJ))(ag:(ls.flatMap (·.2)).length<=1000000)
  (au:∀ar u',aD u u' 52 2 ar ((ls.flatMap (·.2)).flatMap cJ)->K ar u'):VA s u K:=by
 have hlen:∀l:N×J ax,(encS l.1).length=1:=λ_=>rfl
 have dS:s.n=ls.length:=hf hlen (by decide) ae
 have fX:=jW ae.cap ae.max
 have at':∀{v:H} {x:o},u.le v->0<=x->x<(s.n:o)->∃p l,s.a=some p/\ls[x.toNat]?=some l/\v.cell? (p.add (x.toNat*1))=some (.slice l.1.a l.1.n l.1.c)/\bw v l.1 2 (l.2.flatMap cJ)/\l.1.n=l.2.length:=λ{v x} aB bK dr=>by
  have eY:x.toNat<ls.length:=by omega
  have M:ls[x.toNat]?=some ls[x.toNat]:=dj eY;obtain⟨p,ad,I⟩:=bw.elem hlen (by decide) (ae.mono aB) M;have h2:=(aq _ (ln eY)).mono aB;exact⟨p,_,ad,M,I 0 _ rfl,h2,hf fO (by decide) h2⟩
 apply aF3
 refine⟨λn i v=>v=u/\0<=i/\i<=s.n/\n=(((ls.take i.toNat).flatMap (·.2)).length:O),λ_ i _=>((s.n:o)-i).toNat,⟨rfl,by omega,by omega,by simp⟩,?_⟩
 rintro n i v ⟨rfl,i0,i1,rfl⟩
 refine⟨λhi=>?_,λhi=>?_⟩
 obtain⟨p,l,ad,M,bA,h2,h3⟩:=at' (H.le.refl v) i0 hi
 have dJ:=agC M
 have hle:=agB ls (i.toNat+1)
 rw[dJ,gG] at hle
 refine⟨p,ad,⟨i0,hi⟩,_,bA,⟨by omega,by omega⟩,λh=>by omega,λ_=>⟨⟨by omega,by omega⟩,⟨rfl,by omega,by omega,?_⟩,by dsimp only;omega⟩⟩
 grind
 have eL:ls.take i.toNat=ls:=gC (by omega)
 rw[eL]
 refine aCm ag λOS u8 azr n7=>?_
 refine⟨λrR x w=>0<=x/\x<=s.n/\aD v w 52 2 rR (((ls.take x.toNat).flatMap (·.2)).flatMap cJ),λ_ x _=>((s.n:o)-x).toNat,⟨by omega,by omega,by simpa using azr⟩,?_⟩
 rintro rR x w ⟨bK,dr,ac⟩
 refine⟨λM=>?_,λM=>?_⟩
 obtain⟨p,l,ad,eY,bA,h2,h3⟩:=at' ac.le bK M
 have dJ:=agC eY
 have hle:=agB ls (x.toNat+1)
 rw[dJ,gG] at hle
 have y7:rR.n=((ls.take x.toNat).flatMap (·.2)).length:=hf fO (by decide) ac.own.cK
 refine⟨p,ad,⟨bK,M⟩,_,bA,BJ ig (by decide) ac h2 Xw (by omega) (by omega) λar u' bR _=>⟨⟨by omega,by omega⟩,⟨by omega,by omega,?_⟩,by dsimp only;omega⟩⟩
 rw[show(x+1).toNat=x.toNat+1 by omega,dJ,hb]
 exact bR
 rw[gC (by omega)] at ac
 exact au _ _ ac
namespace kd
section
variable{ak u:H}{b:O}
def aoq(T:aU):(qn T.w).length=T.w.length:=by simp[qn]
def dX.alO{T:aU}(h:dX T):(bi T).length=T.w.length:=by rw[h.B1];simp[bi]
def BM{ah:O->aA bB}{T:aU}{K:o->H->Prop}(h:In ak u ah b T)(aV:dX T)(au:K (bi T).length u):aew (some ⟨b,0,none⟩) u K:=by obtain⟨_,_,_,fc⟩:=k1 h.aJ;apply aFm;refine⟨λe=>(by cases e),λ_=>⟨_,rfl,_,fc,wK Kn h.aJ.map ?_⟩⟩;rw[aoq,<-aV.alO];exact au
def zU{ah:O->aA bB}{T:aU}{K:N->H->Prop}(h:In ak u ah b T)(aV:dX T)(au:∀s ls u',re u u' s ls->(ls.map ax.bn).Perm (bi T)->(ls.Pairwise λa b=>a.id<=b.id)->K s u'):
  aey (some ⟨b,0,none⟩) u K:=by
 obtain⟨_,_,c2,_⟩:=k1 h.aJ
 have hw:=aV.B1
 have fX:=aV.small
 have aB:∀r∈T.ls.flatMap (·.2),Ints u r.s r.v:=λr U=>by obtain⟨l,aq,lc⟩:=eA.1 U;obtain⟨i,hi,rfl⟩:=oX aq;exact((h.aJ.list i _ (dj hi)).2.2 r lc).1
 apply aFo
 refine⟨λe=>(by cases e),λ_=>⟨_,rfl,T.bx,c2,aCj h.aJ.oq.cK (λl aq=>?_) (by omega) λar u' ac=>?_⟩⟩
 obtain⟨i,hi,rfl⟩:=oX aq
 exact(h.aJ.list i _ (dj hi)).1.cK
 have U:dU u' ar (T.ls.flatMap (·.2)):=⟨ac.own.cK,λr U=>(aB r U).mono ac.le⟩
 refine zV U (λr U=>?_) (by omega) (λr U=>?_) λs2 ls cF b7 ad ae=>?_
 obtain⟨l,aq,lc⟩:=eA.1 U
 exact aV.ids l aq r lc
 obtain⟨l,aq,lc⟩:=eA.1 U
 have:=(aV.vec l aq r lc).1
 have:=aV.hP
 omega
 exact au s2 ls cF ⟨b7.own.weaken ac.le,λr U=>(b7.inner r U).weaken ac.le,b7.ej,b7.apart⟩ ad ae
structure ug(ak u:H)(ah:O->aA bB)(b:O)(T:aU)(id:o)(v:J o)(u':H)(aY:O->aA bB)(bD:aU):Prop where
 is:In ak u' aY b bD
 eJ:hM u ah u' aY
 ok:dX bD
 rows:(bi bD).Perm ((id,v)::(bi T).filter λx=>x.1 !=id)
 dim:bD.dim=T.dim
 cs:bD.cs=T.cs
theorem DO{ah:O->aA bB}{T:aU}{id:o}{t:N}{q:J o}{K:ay->o->H->Prop}(h:In ak u ah b T)(aV:dX T)(ht:Ints u t q)(mz:∀aR c5,ak.le aR->hM u ah aR c5->Ints aR t q)
  (dq:eM id q T.dim (decide (id∈(bi T).map (·.1))) (bi T).length≠0->K ao (eM id q T.dim (decide (id∈(bi T).map (·.1))) (bi T).length) u)
  (bM:eM id q T.dim (decide (id∈(bi T).map (·.1))) (bi T).length=0->∀u' aY bD,ug ak u ah b T id q u' aY bD->K (decide (id∉(bi T).map (·.1))) 0 u'):aex (some ⟨b,0,none⟩) id t u K:=by
 obtain⟨bA,_,_,fc⟩:=k1 h.aJ
 have mb:(id∈T.w.map (·.1))↔id∈(bi T).map (·.1):=by rw[aa1];exact aV.ad8
 have Ez:decide (id∈T.w.map (·.1))=decide (id∈(bi T).map (·.1)):=BD.2 mb
 have hlen:=aV.alO
 apply aFn
 refine⟨λe=>(by cases e),λ_=>⟨_,rfl,_,fc,?_⟩⟩
 refine tU Kn h.aJ.map (ct:=.int .i64) (((s9 T.w id).getD 0:O):o) (by rw[Lx];cases s9 T.w id<;>rfl) ?_
 have iS:(gm (qn T.w) id).isSome=decide (id∈(bi T).map (·.1)):=by
  rw[<-Ez,Lx,TQ];cases e:s9 T.w id with
  |none=>rw[q0 (Rb.1 e)];rfl|some k=>rw[jf (bQ.2 ⟨_,Ra e,rfl⟩)];rfl
 rw[iS]
 refine⟨_,rfl,_,rfl,_,bA,_,fc,wK Kn h.aJ.map ⟨H.le.refl u,Kc ht ?_⟩⟩
 rw[aoq,<-hlen]
 refine⟨λan=>dq an,λhe=>?_⟩
 have bM:=bM he
 obtain⟨d1,d2,xK,d4⟩:1<=id/\id<=1000000000/\gx q T.dim=0/\(decide (id∈(bi T).map (·.1))=ao->((bi T).length:o)<512):=by
  unfold eM at he
  grind
 obtain⟨aT,aN,dG,gz⟩:=n1 xK
 have lay:∀(aR:H) (c5:O->aA bB) (ba:aU),In ak aR c5 b ba->hM u ah aR c5->dX ba->id∉ba.w.map (·.1)->ba.w.length<512->bi ba=(bi T).filter (λx=>x.1 !=id)->ba.dim=T.dim->ba.cs=T.cs->
   o3 t aR λdg gL=>H.le aR gL/\Ky (some ⟨b,0,none⟩) id dg gL λyl=>K (!decide (decide (id∈(bi T).map (·.1))=ai)) 0 yl:=by
  intro aR c5 ba h1 nL tc gQ hX uT uA iO
  have qM:=mz aR c5 h1.le nL
  refine sI qM (by have:=qM.len;omega) λdg gL gg _=>⟨gg.le,?_⟩
  have xd:=h1.mono bO gg.le
  obtain⟨iq,h2,xJ,iQ⟩:=xd.tag bO (dg.wQ .vec) λc I=>by have dI:=N.aDJ I;have ab:=gg.fresh c dI;exact⟨h1.fresh ab,h1.le.none ab,dH gg dI⟩
  have t2:hM u ah gL iq:=by
   refine(nL.trans (hM.mono gg.le)).tag λc=>?_;by_cases e:dg.al=some c;right;have ab:=gg.fresh c e;cases gI:u c with
   |none=>exact .inr rfl|some z=>refine .inl λnE=>?_;rw[nL.bO c z gI nE] at ab;cases ab
   exact .inl (iQ c (N.anH e))
  refine amP h2 tc gQ ⟨d1,d2⟩ gg.ints (λg Z=>xJ g _ (N.aDI Z)) ⟨by rw[uA];exact dG,gz⟩ hX λyl pc Eg U=>?_
  have aa:(!decide (decide (id∈(bi T).map (·.1))=ai))=decide (id∉(bi T).map (·.1)):=by grind
  rw[aa]
  exact bM yl pc Eg ⟨U.is,t2.trans U.eJ,U.ok,by rw[<-uT];exact U.rows,U.dim.trans uA,U.cs.trans iO⟩
 refine wL h aV (λdR aR gB=>?_) λch aR c5 ba U=>?_
 refine lay aR ah T (h.mono bO gB) (hM.mono gB) aV dR ?_ ?_ rfl rfl
 grind
 refine(qe.2 λx M=>?_).symm
 grind
 refine lay aR c5 ba U.is U.eJ U.ok ?_ ?_ U.rows U.dim U.cs
 rw[U.w]
 grind
 rw[U.w]
 have ae:=aV.small
 obtain⟨p,ad,e⟩:=bQ.1 ch
 have:(T.w.filter λp=>p.1 !=id).length<T.w.length:=OD.2 ⟨p,ad,by simp[e]⟩
 omega
def aDB:ku aH 211=some (167,1,8,[.pointer none]):=by kernel_rfl
def aqi(n:O):kO aH 211 1 #[(0,.pointer (some ⟨n,0,none⟩))]=some (167,[.pointer (some ⟨n,0,none⟩)]):=by kernel_rfl
def apD{u':H}{aC ss a6:N}{eE:J bN}{seen:J o}{rest:J b1}(h:iI u u' aC ss a6 eE seen rest)(hu:ak.le u):iI ak u' aC ss a6 eE seen rest:=
 ⟨h.h.weaken hu,h.s.weaken hu,h.r.weaken hu,λr U=>⟨(h.g r U).l.weaken hu,(h.g r U).h.weaken hu,(h.g r U).i.weaken hu⟩,h.ej⟩
theorem azM:∀(cs:J (N×J o)) (ls:J (N×J ax)) {i:O} {c l},cs[i]?=some c->ls[i]?=some l->(xZ cs ls)[i]?=some (Jn c.2 l.2):=by
 intro cs;induction cs with
 |nil=>grind|cons x cs aW=>
  intro ls i c l h1 h2;cases ls with
  |nil=>simp at h2|cons y ls=>
   cases i with
   |zero=>simp only[Du,ll] at h1 h2;subst h1;subst h2;rfl|succ i=>simp only[Gj] at h1 h2;exact aW ls h1 h2
def azN:∀(cs:J (N×J o)) (ls:J (N×J ax)),cs.length=ls.length->(xZ cs ls).length=ls.length/\bI.hB (xZ cs ls)=ls.length:=by
 intro cs;induction cs with
 |nil=>intro ls h;cases ls with
  |nil=>exact⟨rfl,rfl⟩|cons=>simp at h
 |cons x cs aW=>
  intro ls h;cases ls with
  |nil=>simp at h|cons y ls=>
   obtain⟨h1,h2⟩:=aW ls (by simpa using h);simp only[xZ,jq,bI.hB,h1,h2];refine⟨trivial,?_⟩;have:(Jn x.2 y.2).size=1:=by rw[bI.size_eq];rfl
   omega
theorem GO{ah:O->aA bB}{T:aU}{t:N}{q:J o}{k aK:o}{K:N->N->N->o->H->Prop}(h:In ak u ah b T)(aV:dX T)(ht:Ints u t q)
  (dq:h7 q T.dim k aK≠0->K ⟨none,0,0⟩ ⟨none,0,0⟩ ⟨none,0,0⟩ (h7 q T.dim k aK) u)
  (bM:h7 q T.dim k aK=0->∀aC ss a6 rest u',iI u u' aC ss a6 (iT T q k aK) (gv T q k aK) rest->rest.map b1.core=jF T q k aK->K aC ss a6 0 u'):aez (some ⟨b,0,none⟩) t k aK u K:=by
 obtain⟨bA,c1,c2,fc⟩:=k1 h.aJ
 apply aFp
 refine⟨λe=>(by cases e),λ_=>⟨_,rfl,_,bA,Ka ht ⟨λan=>dq an,λhe=>⟨_,rfl,T.bx,c2,?_⟩⟩⟩⟩
 obtain⟨aB,cB,cW,fH,e7⟩:gx q T.dim=0/\1<=k/\k<=64/\0<=aK/\aK<=1000000:=by unfold h7 at he;omega
 obtain⟨_,_,uR,xL⟩:=n1 aB
 have R5:=h.aJ.abv
 have Mv:=aV.many
 have aI1:=h.aJ.yn.len
 have gX:=aV.acE
 have atZ:(T.ls.flatMap (·.2)).length<=512:=by rw[<-aV.B1];exact aV.small
 refine⟨λga x w=>0<=x/\x<=T.bx.n/\∃(ms:J O) (Km:H),ms.length=x.toNat/\aD u w 167 1 ga (ms.map λn=>.pointer (some ⟨n,0,none⟩))/\u.le Km/\Km.le w/\(∀g,ga.al=some g->Km g=none)/\
   ∀(i:O) m p,ms[i]?=some m->(xZ T.cs T.ls)[i]?=some p->nA Km m p,λ_ x _=>((T.bx.n:o)-x).toNat,
  ⟨by omega,by omega,[],u,rfl,aD.nil (H.le.refl u) _ _,H.le.refl u,H.le.refl u,λg Z=>by simp[N.al] at Z,λi m p hm=>by simp at hm⟩,?_⟩
 rintro ga x w ⟨bK,dr,ms,Km,MG,ac,anW,ep,atS,ajf⟩
 have rr:ga.n=ms.length:=by have:=ac.own.len;simpa using this.symm
 refine⟨λM=>?_,λM=>?_⟩
 have eY:x.toNat<T.ls.length:=by omega
 have aq:T.ls[x.toNat]?=some T.ls[x.toNat]:=dj eY
 have pR:T.cs[x.toNat]?=some T.cs[x.toNat]:=dj (by omega)
 generalize T.ls[x.toNat]=l at aq
 generalize T.cs[x.toNat]=c at pR
 obtain⟨cX,Ia,LM⟩:=h.aJ.list _ l aq
 obtain⟨pQ,_⟩:=h.aJ.uo _ c pR
 obtain⟨cd,w7⟩:=aV.HI c (dz pR)
 obtain⟨p,ad,I⟩:=bw.elem Cz (by decide) (h.aJ.oq.cK.mono ac.le) aq
 obtain⟨jV,fL,dI⟩:=bw.elem vK (by decide) (h.aJ.yC.mono ac.le) pR
 have lc:gD l.2 c.2.length:=by rw[cd];exact gX.sub (GW (f:=λl:N×J ax=>l.2) (dz aq))
 have mA:dU u l.1 l.2:=⟨cX.cK,λr U=>(LM r U).1⟩
 refine⟨p,ad,⟨bK,M⟩,l.1,I 0 _ rfl,_,rfl,T.lo,ac.le.cell c1,jV,fL,⟨bK,by omega⟩,c.1,dI 0 _ rfl,?_⟩
 refine am8 (pQ.mono ac.le) w7 (mA.mono ac.le) lc λar mc kL nK n25 Sa=>?_
 obtain⟨Dp,ajc⟩:∃Dp,Dp=(bt #[.int .i64 3,.slice ar.a ar.n ar.c,.slice none 0 0,.int .u64 (cQ (oY c.2 l.2 l.2.length)),.int .u64 (cS (oY c.2 l.2 l.2.length)),.slice none 0 0,.slice l.1.a l.1.n l.1.c,.slice none 0 0] 213 (0,0)):=⟨_,rfl⟩
 show c7 aH _ _ (kL.ins n25 (bt #[.int .i64 3,.slice ar.a ar.n ar.c,.slice none 0 0,.int .u64 (cQ (oY c.2 l.2 l.2.length)),.int .u64 (cS (oY c.2 l.2 l.2.length)),.slice none 0 0,.slice l.1.a l.1.n l.1.c,.slice none 0 0] 213 (0,0))) _
 rw[<-ajc]
 have Ja:=bX (u:=kL) (b:=n25) Dp Sa
 have ajQ:w.le (kL.ins n25 Dp):=nK.le.trans Ja
 have aix:∀g,ga.al=some g->w g≠none:=λg Z=>dH ac Z
 have ayV:w n25=none:=nK.le.none Sa
 have n258:ga.al≠some n25:=λe=>aix n25 e ayV
 have aAQ:∀g,ar.al=some g->ga.al≠some g:=λg Z e=>aix g e (nK.fresh g Z)
 have Ie:Km.le (nY (kL.ins n25 Dp) ga):=λg z Z=>by
  have:ga.al≠some g:=λe=>by grind
  rw[nZ this];exact ajQ _ _ (ep _ _ Z)
 have new:nA (nY (kL.ins n25 Dp) ga) n25 (Jn c.2 l.2):=by
  have ayw:u.le (nY (kL.ins n25 Dp) ga):=anW.trans Ie;refine .mk ar ⟨none,0,0⟩ ⟨none,0,0⟩ l.1 ⟨none,0,0⟩ l.2 [] (by rw[nZ n258,bh,ajc];rfl) rfl (bw.else nK.ints λg z Z tg=>by rw[nZ (aAQ g Z)];exact Ja _ _ tg) ?_ (mA.mono ayw) rfl ?_ rfl λi m k hm=>by simp at hm
  exact⟨rfl,cw _,by decide,.inl rfl⟩;exact⟨rfl,cw _,by decide,.inl rfl⟩
 refine mn aDB (aqi n25) (by decide) rfl (by simp[cI]) (ac.mono ajQ) (by show ga.n<_;omega) (by omega) λaKK aKW Si aiV eC fC _=>⟨⟨by omega,by omega⟩,⟨by omega,by omega,ms++ [n25],nY (kL.ins n25 Dp) ga,by simp;omega,by rw[en];exact Si,anW.trans Ie,λg z Z=>eC g z (J6 Z).1 (J6 Z).2,λg Z=>?_,λi m p hm eX=>?_⟩,by dsimp only;omega⟩
 rcases fC g Z with h1|h1
 show(if ga.al=some g then none else _)=none
 rw[b3 h1]
 by_cases e:ga.al=some g
 show(if ga.al=some g then none else _)=none
 rw[b3 e]
 rw[nZ e];exact h1
 rw[Tp] at hm
 split at hm
 exact(ajf i m p hm eX).mono Ie
 rename_i hF
 have hi:i=ms.length:=by grind
 subst hi
 simp at hm
 subst hm
 rw[MG,azM T.cs T.ls pR aq] at eX
 rw[<-eh eX]
 exact new
 obtain⟨azW,aKC⟩:=azN T.cs T.ls Mv.1
 have eL:=ak1 T.cs T.ls Mv.1
 refine ac7 (ms:=ms) (P:=xZ T.cs T.ls) ac.own.cK (by rw[azW];omega) (λi m p h1 h2=>(ajf i m p h1 h2).mono ep) (ak2 T.cs T.ls (λc I=>by rw[uR];exact aV.HI c I) λl aq=>?_) (ht.mono ac.le) xL cB cW fH e7 (by omega) (by grind) (λy aj=>?_) λaC ss a6 R u' az b7=>?_
 rw[uR]
 exact gX.sub (GW (f:=λl:N×J ax=>l.2) aq)
 rw[eL] at aj
 obtain⟨r,U,rfl⟩:=bQ.1 aj
 have:=gX.v r U
 exact⟨by rw[uR];exact this.1,this.2⟩
 exact bM he aC ss a6 R u' (apD az ac.le) b7
end
end kd
