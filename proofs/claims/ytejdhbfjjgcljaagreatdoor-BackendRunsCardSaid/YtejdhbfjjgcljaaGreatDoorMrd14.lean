/- Texts of mine, joined and packed by pack.py. -/
import Derived.Test.YtejdhbfjjgcljaaGreatDoorMrd13
import Derived.Test.YtejdhbfjjgcljaaGreatDoorRows
import Derived.Deep.Strs
import Derived.Lib.LaidTab
import Derived.LaidMore
import Derived.Lay
import Derived.SevenTiedAt
set_option linter.all false
open _root_ renaming List->J,Nat->O,Option->aA,Array->cA,Int->o,Bool->ay,absurd->bf,Inhabited->lF
open Go renaming Value->ap,World->ci,Addr->a8,TypeId->dC,reachBytes->qZ
open Bool renaming true->ai,false->ao
open Go.Instr renaming buildSlice->dA
open Go.Builtin renaming append_->dO
open List renaming range->lD,drop->JM,take->JN,length->iY
open Go.Proofs.Tryz renaming prog->aH
open Go.Value renaming int->cN,oneCell'->cI
open List.Perm renaming cons->j9
open List.Pairwise renaming nil->mG
open Go.DataW renaming weightsAll->Gs,trod->qd,weights->Gt
open Int renaming toNat->wE
open Go.IntKind renaming min->Gy,max->Gz
open Go.Proofs.YtejdhbfjjgcljaaGreatDoor.Rows renaming laid_math_bits_deBruijn64tab->alk
set_option maxRecDepth 100000
noncomputable section
namespace Go.Proofs.YtejdhbfjjgcljaaGreatDoor
open H
open _root_.Go.Proofs.Tryz
namespace hq
section
variable{c3:J (J o)}{u:H}{s:N}
open lr (ec s8 pn zr je CC)
def EB(d:o):J ap:=[.int .u64 (cQ d),.int .u64 (cS d)]
def QW(d:o):(EB d).length=2:=rfl
def aDF:ku aH 359=some (66,2,16,[.int .u64 0,.int .u64 0]):=by kernel_rfl
def aDE:ku aH 354=some (359,1,24,[.slice none 0 0]):=by kernel_rfl
def aqn(x y:o):kO aH 359 1 #[(0,.agg #[.int .u64 x,.int .u64 y])]=some (66,[.int .u64 x,.int .u64 y]):=by kernel_rfl
def aqm(s:N):kO aH 354 1 #[(0,.slice s.a s.n s.c)]=some (359,[.slice s.a s.n s.c]):=by kernel_rfl
structure yw(u:H)(s:N)(c3:J (J o)):Prop where
 ex:∃cg:J (N×J o),bw u s 1 (cg.flatMap λy=>encS y.1)/\cg.map (·.2)=c3/\∀y∈cg,bw u y.1 2 (y.2.flatMap EB)
def yw.mono{u':H}(h:yw u s c3)(k:u.le u'):yw u' s c3:=by obtain⟨cg,h1,h2,h3⟩:=h.ex;exact⟨cg,h1.mono k,h2,λy aj=>(h3 y aj).mono k⟩
def yw.len(h:yw u s c3):s.n=c3.length:=by obtain⟨cg,h1,h2,_⟩:=h.ex;rw[<-h2,eb];exact hf vK (by decide) h1
theorem yw.at(h:yw u s c3){x:o}(h0:0<=x)(h1:x<(s.n:o)):∃p,s.a=some p/\∃t:N,u.cell? (p.add (x.toNat*1))=some (.slice t.a t.n t.c)/\bw u t 2 ((c3.getD x.toNat []).flatMap EB):=by
 have ag:=h.len;obtain⟨cg,s1,s2,k0⟩:=h.ex;have aq:x.toNat<cg.length:=by grind
 have M:cg[x.toNat]?=some cg[x.toNat]:=dj aq;obtain⟨p,ad,I⟩:=bw.elem vK (by decide) s1 M;refine⟨p,ad,_,I 0 _ rfl,?_⟩;have:c3.getD x.toNat []=cg[x.toNat].2:=by grind
 rw[this];exact k0 _ (ln aq)
theorem aBC{ah:O->aA bB}{d:o}{k:uc}{t:N}{q:J o}{K:N->o->H->Prop}(h:sP ah u d k)(aa:DZ d k.eV)(ht:Ints u t q)(aL:gx q d=0)
  (au:∀s u',u.le u'->yw u' s (BT k.eV q)->K s 0 u'):Vs (some ⟨k.b,0,none⟩) t u K:=by
 have ag:=h.len
 have hm:=aa.many
 obtain⟨n,cj,nd,dV⟩:=aa.Ld
 obtain⟨d1,d2,d3,d4⟩:=n1 aL
 have aq:q.length=k.eV.length*n:=by omega
 have hdiv:q.length/k.eV.length=n:=by rw[aq];exact Nat.mul_div_cancel_left n (by omega)
 apply aFO
 refine⟨λe=>(by cases e),λ_=>⟨_,rfl,_,aZ h.cell 0,qg ht ?_⟩⟩
 rw[aL]
 refine⟨λe=>bf rfl e,λ_=>⟨_,rfl,k.gH,aZ h.cell 1,λs x w=>0<=x/\x<=k.gH.n/\∃cg:J (N×J o),cg.map (·.2)=(lD x.toNat).map (T0 k.eV q n)/\aD u w 359 1 s (cg.flatMap λy=>encS y.1)/\∀y∈cg,aD u w 66 2 y.1 (y.2.flatMap EB)/\dB s y.1,λ_ x _=>k.gH.n-x.toNat,⟨by omega,by omega,[],rfl,aD.nil (H.le.refl u) _ _,λy aj=>(by cases aj)⟩,?_⟩⟩
 rintro s x w ⟨bK,dr,cg,fk,ac,ch⟩
 have hw:=h.mono ac.le
 have aJ3:cg.length=x.toNat:=by have:=eI iY fk;simpa using this
 have dS:s.n=cg.length:=hf vK (by decide) ac.own.cK
 have FC:=ht.mono ac.le
 refine⟨λM=>?_,λhF=>?_⟩
 obtain⟨p,ad,c,pR,c4,bA⟩:=hw.at bK M
 have pQ:=dV c c4
 have CP:=hw.um c c4
 have R7:=pQ.many
 have qH:=CP.len
 refine⟨p,ad,⟨bK,M⟩,c.1,bA,λs2 y v=>0<=y/\y<=c.1.n/\aD w v 66 2 s2 (((c.2.take y.toNat).map λW=>gb (wu q n x.toNat) W.2 n).flatMap EB),λ_ y _=>c.1.n-y.toNat,⟨by omega,by omega,aD.nil (H.le.refl w) _ _⟩,?_⟩
 rintro s2 y v ⟨hJ,ii,dt⟩
 have asq:s2.n=(c.2.take y.toNat).length:=by have:=hf QW (by decide) dt.own.cK;rw[eb] at this;exact this
 rw[iV] at asq
 have aB:=hw.mono dt.le
 refine⟨λaj=>?_,λaKd=>?_⟩
 obtain⟨du,eX,W,aE,SJ,K9,axX⟩:=(CP.mono dt.le).at hJ aj
 refine⟨du,eX,⟨hJ,aj⟩,W.1,K9,_,rfl,k.gH,aZ aB.cell 1,?_⟩
 dsimp only
 rw[ag]
 have aji:=FC.mono dt.le
 refine adi aji aq hm.1 cj (by omega) bK (by omega) λwP rz=>?_
 have pl:=Tg aq (i:=x.toNat) (by omega)
 obtain⟨aT,aN⟩:=pQ.each W SJ
 refine BN (rz _ aji) axX (Th d4 _ _) (by omega) aN (by omega) λa b DW ub LV=>?_
 refine mn aDF (aqn a b) (by decide) rfl (by simp[cI]) dt (by show s2.n<_;omega) (by omega) λar u' bR hY _ _ _=>⟨⟨by omega,by omega⟩,⟨by omega,by omega,?_⟩,by omega⟩
 rw[show(y+1).toNat=y.toNat+1 by omega,fN,aE,en,hb]
 obtain⟨e5,dF⟩:=z7 DW ub
 rw[LV,pl] at e5 dF
 rw[e5,dF] at bR
 exact bR
 have FI:y.toNat=c.2.length:=by omega
 rw[FI,pt] at dt
 have oh:=ac.mono dt.le
 have ab:dB s s2:=λg h1 h2=>by have:=dt.fresh g h2;exact dH ac h1 this
 refine mn aDE (aqm s2) (by decide) rfl (by simp[cI]) oh (by show s.n<_;omega) (by omega) λar u' bR hY he fC _=>⟨⟨by omega,by omega⟩,⟨by omega,by omega,cg++ [(s2,c.2.map λW=>gb (wu q n x.toNat) W.2 n)],?_,?_,λW aE=>?_⟩,by dsimp only;omega⟩
 rw[show(x+1).toNat=x.toNat+1 by omega,List.range_succ,en,en,fk]
 unfold T0
 grind
 rw[hb];exact bR
 have key:∀W:N×J o,aD u v 66 2 W.1 (W.2.flatMap EB)->dB s W.1->aD u u' 66 2 W.1 (W.2.flatMap EB)/\dB ar W.1:=λW h1 h2=>⟨aD.else h1 he (λg Z=>oh.fresh g Z) h2,λg g1 g2=>by rcases fC g g1 with e|e;exact h2 g e g2;exact dH h1 g2 e⟩
 rcases dT.1 aE with aE|aE
 exact key W ((ch W aE).1.mono dt.le) (ch W aE).2
 rw[hZ.1 aE]
 exact key (s2,_) (dt.weaken ac.le) ab
 have eY:x.toNat=k.eV.length:=by omega
 rw[eY] at fk
 refine au _ _ ac.le ⟨cg,ac.own.cK,?_,λy aj=>(ch y aj).1.own.cK⟩
 rw[fk]
 unfold BT
 rw[hdiv]
structure Hv(c3:J (J o)):Prop where
 many:c3.length<=8
 each:∀r∈c3,∀d∈r,0<=d/\d<=64*18446744056529682436
def Hv.get(h:Hv c3)(i j:O):0<=(c3.getD i []).getD j 0/\(c3.getD i []).getD j 0<=64*18446744056529682436:=by
 rw[jX (l:=c3)];cases e:c3[i]? with
 |none=>simp|some r=>
  have U:=dz e;simp only[Of];rw[jX];cases aN:r[j]? with
  |none=>simp|some d=>exact h.each r U d (dz aN)
theorem aDH{d:o}{eV:J (N×J (N×J o))}{q:J o}(aa:DZ d eV)(aL:gx q d=0):Hv (BT eV q):=by
 obtain⟨n,cj,nd,dV⟩:=aa.Ld;obtain⟨d1,d2,d3,d4⟩:=n1 aL;have hm:=aa.many;have aq:q.length=eV.length*n:=by omega
 have hdiv:q.length/eV.length=n:=by rw[aq];exact Nat.mul_div_cancel_left n (by omega)
 have EL:n<=64:=by have:1*n<=eV.length*n:=tO _ hm.1;omega
 refine⟨by unfold BT;grind,λr U y aj=>?_⟩;unfold BT at U;obtain⟨i,hi,rfl⟩:=bQ.1 U;have ey:i<eV.length:=ab7.1 hi;rw[hdiv] at aj;unfold T0 at aj;rw[dj ey] at aj;obtain⟨W,aE,rfl⟩:=bQ.1 aj;obtain⟨aT,aN⟩:=(dV _ (ln ey)).each W aE;have:=GR (Th d4 n i) aN n (by rw[Tg aq ey];omega) (by omega);omega
def aDs(h:Hv c3)(code:J o):∀i:O,0<=BQ c3 code i/\BQ c3 code i<=i*(64*18446744056529682436):=by
 intro i;induction i with
 |zero=>exact⟨ps _,ps _⟩|succ i aW=>have:=h.get i (code.getD i 0).toNat;show 0<=BQ c3 code i+_/\BQ c3 code i+_<=_;omega
theorem aBz{t:N}{code:J o}{K:o->o->o->H->Prop}(ae:yw u s c3)(ht:Ints u t code)(aa:Hv c3)(au:∀x y e,cE x->cE y->dw x y=Lr c3 code->K x y e u):Vt s t u K:=by
 have dS:=ae.len;have aaj:=ht.len;have Ni:=ht.max;have z0:cE 0:=⟨by decide,by decide⟩;have bad:¬(c3.length=code.length/\∀i,i<code.length->0<=code.getD i 0/\code.getD i 0<(c3.getD i []).length)->K 0 0 101 u:=λh=>au 0 0 101 z0 z0 (by unfold Lr;rw[bF h];rfl);apply aFP;refine⟨λan=>bad λh=>an (by omega),λhe=>⟨λ_ x _ _ w=>w=u/\0<=x/\x<=t.n/\∀i:O,(i:o)<x->0<=code.getD i 0/\code.getD i 0<(c3.getD i []).length,λ_ x _ _ _=>t.n-x.toNat,⟨rfl,by omega,by omega,λi hi=>bf hi (by omega)⟩,?_⟩⟩;rintro _ x _ _ w ⟨rfl,bK,dr,Z⟩;refine⟨λM=>?_,λhF=>?_⟩;obtain⟨p,ad,bA⟩:=ht.at bK M;obtain⟨du,eX,y,yF,UA⟩:=ae.at bK (by omega);have FJ:=hf QW (by decide) UA;refine⟨p,ad,⟨bK,M⟩,_,bA,λaJE=>bad λh=>?_,λoi=>⟨du,eX,⟨bK,by omega⟩,y,yF,λhle=>bad λh=>?_,λbP=>⟨⟨by omega,by omega⟩,⟨rfl,by omega,by omega,λi hi=>?_⟩,by dsimp only;omega⟩⟩⟩
 grind
 grind
 by_cases e:i=x.toNat;rw[e];omega;exact Z i (by omega);have eY:x=code.length:=by omega
 have eL:c3.length=code.length/\∀i,i<code.length->0<=code.getD i 0/\code.getD i 0<(c3.getD i []).length:=⟨by omega,λi hi=>Z i (by omega)⟩;have e:Lr c3 code=BQ c3 code code.length:=b3 eL;refine⟨λ_ x a b _ _ v=>v=w/\0<=x/\x<=t.n/\cE a/\cE b/\dw a b=BQ c3 code x.toNat,λ_ x _ _ _ _ _=>t.n-x.toNat,⟨rfl,by omega,by omega,z0,z0,rfl⟩,?_⟩;rintro _ x a b _ _ v ⟨rfl,bK,dr,DW,ub,hw⟩;refine⟨λM=>?_,λhF=>?_⟩;obtain⟨p,ad,bA⟩:=ht.at bK M;obtain⟨du,eX,y,yF,UA⟩:=ae.at bK (by omega);have FJ:=hf QW (by decide) UA;obtain⟨g0,g1⟩:=eL.2 x.toNat (by omega);obtain⟨j,aP⟩:∃j,j=(code.getD x.toNat 0).toNat:=⟨_,rfl⟩;have kC:j<(c3.getD x.toNat []).length:=by omega
 have au4:(c3.getD x.toNat [])[j]?=some (c3.getD x.toNat [])[j]:=dj kC;obtain⟨nU,rv,fc⟩:=bw.elem QW (by decide) UA au4;have av:(c3.getD x.toNat []).getD j 0=(c3.getD x.toNat [])[j]:=by grind
 have bM:=aa.get x.toNat j;rw[av] at bM;have aaf:=aDs aa code x.toNat;have C4:=aa.many;have aKa:(x.toNat:o)<=8:=by omega
 have afG:=fc 0 _ rfl;rw[Addr.add_zero'] at afG;refine⟨p,ad,⟨bK,M⟩,_,bA,du,eX,⟨bK,by omega⟩,y,yF,nU,rv,⟨g0,by omega⟩,_,by unfold aG;rw[<-aP];exact afG,_,by unfold aG;rw[<-aP];exact fc 1 _ rfl,?_⟩;have asR:jJ (c3.getD x.toNat [])[j]:=⟨bM.1,by omega⟩;refine ane DW ub (yZ asR) (rF _) (λk3 kM nu aEm ir=>⟨λh=>bf rfl h,λ_=>⟨⟨by omega,by omega⟩,⟨rfl,by omega,by omega,nu,aEm,?_⟩,by dsimp only;omega⟩⟩) λatY=>?_;rw[ir,l0,hw,show(x+1).toNat=x.toNat+1 by omega];show _=BQ c3 code x.toNat+_;rw[<-aP,av];rw[l0,hw] at atY;omega;have eY:x.toNat=code.length:=by omega
 exact au a b 0 DW ub (by rw[e,hw,eY])
end
section
variable{u ak:H}{b:O}{q:J o}{t:N}
open lr (ec s8 pn zr je CC)
def apR:hy aH 318=ai:=by kernel_rfl
def aBx{l:J (o×ap)}{K:N->H->Prop}(h:fE u b l)(aq:l.length<=1000000)(au:∀s u',aD u u' 3 1 s ((cR (l.map (·.1))).flatMap encI)->K s u'):
  Vq (some b) u λfv aR=>vy fv aR K:=by
 have b8:(l.map (·.1)).Nodup:=by obtain⟨_,_,_,he⟩:=h;exact he.nodup
 refine aFK (some b) u _ λn0 fJ=>?_
 have hle:=bX (u:=u) (b:=n0) (.cells #[.map (some b)] 125 (0,0)) fJ
 refine eu.adj aq b8 (λak ph=>?_) λs u' ac=>au s u' (ac.weaken hle)
 have hm:=h.mono (hle.trans ph)
 have I:ak.cell? ⟨n0,0,none⟩=some (.map (some b)):=aZ (ph _ _ (bh _ _ _)) 0
 intro mO cZ la aj v K h0 au
 refine⟨_,_,_,rfl,hs apR,hD.weaken (ss:=[]) ?_⟩
 exact aFL mO ⟨n0,0,none⟩ v _ ⟨_,oH (la _ _ h0) I,eu.abe je hm cZ la aj h0 au⟩
theorem aAm{w:nC}{d:o}(ag:(w.map (·.1)).Nodup)(av:1<=d/\d<=64)(hi:∀e∈w,1<=e.1/\e.1<=1000000000)(aB:∀e∈w,(e.2.2.length:o)=d/\cY e.2.2)(ae:w.length<=512)(aL:gx q d=0){ls:J ax}(ad:(ls.map ax.bn).Perm (w.map λe=>(e.1,e.2.2))):jx ls q:=by
 obtain⟨_,_,d3,d4⟩:=n1 aL;refine⟨d4,?_⟩;rw[d3];have aq:=ad.length_eq;rw[eb,eb] at aq;refine zP av (by omega) ?_ λp Ft=>?_;rw[mC]
 grind
 grind
def iI.weaken{u':H}{aC ss a6:N}{eE:J bN}{seen:J o}{rest:J b1}(h:iI u u' aC ss a6 eE seen rest)(k:ak.le u):iI ak u' aC ss a6 eE seen rest:=
 ⟨h.h.weaken k,h.s.weaken k,h.r.weaken k,λr U=>⟨(h.g r U).l.weaken k,(h.g r U).h.weaken k,(h.g r U).i.weaken k⟩,h.ej⟩
theorem aCr{ah:O->aA bB}{T:aU}{k aK:o}{K:N->N->N->o->H->Prop}(h:In ak u ah b T)(aV:dX T)(kQ:T.cd=none)(ht:Ints u t q)
  (dq:h7 q T.dim k aK≠0->∀u',u.le u'->K ⟨none,0,0⟩ ⟨none,0,0⟩ ⟨none,0,0⟩ (h7 q T.dim k aK) u')
  (bM:h7 q T.dim k aK=0->∀aC ss a6 rest u',iI u u' aC ss a6 (iT T q k aK) (gv T q k aK) rest->rest.map b1.core=jF T q k aK->K aC ss a6 0 u'):aem (some ⟨b,0,none⟩) t k aK u K:=by
 apply aEA
 refine⟨_,rfl,_,aU.bA h.aJ.cell,Ka ht ⟨λan=>dq an u (H.le.refl u),λhe=>?_⟩⟩
 obtain⟨aB,cB,cW,fH,e7⟩:=Cr.1 he
 refine zU h aV λs ls aR b7 ad ae=>?_
 have hle:=b7.own.le
 have ag:=h.aJ.rW
 have pY:=aAK ag ad ae
 have aL:=aAm ag aV.hP aV.ids aV.vec aV.small aB ad
 have RE:¬T.cd.isSome=ai:=by rw[kQ];simp
 have anI:∀j,(ls.take j).map ax.bn=((tS T.w).take j).map ax.bn:=λj=>by simp_all
 have bl:∀j,(ls.drop j).map ax.bn=((tS T.w).drop j).map ax.bn:=λj=>by simp_all
 have Ma:=ank.2 ⟨aL,cB,cW,fH,e7⟩
 refine aBA b7.rws (ht.mono hle) (λan=>bf Ma an) λ_ aC ss a6 Y a2 a3 u' az=>?_
 refine bM he aC ss a6 (wH Y a2 a3 (ls.drop aK.toNat)) u' ?_ ?_
 unfold iT gv
 rw[bF RE,bF RE,<-ais (anI aK.toNat),mC ((tS T.w).take aK.toNat),<-anI,<-mC]
 exact iI.weaken az hle
 unfold jF
 rw[bF RE]
 exact aAu (bl aK.toNat)
def aBB{a b:bN}{K:o->H->Prop}(h:K (if bP a b=ai then -1 else 1) u):aej a.1 (cQ a.2) (cS a.2) b.1 (cQ b.2) (cS b.2) u K:=by apply aEv;refine Kg ⟨λaa=>?_,λaa=>?_⟩;rw[b3 aa] at h;exact h;rw[bF (by rw[aa];simp)] at h;exact h
structure apw(B:H)(ck:O)(k:o)(w:nC)(q ord:J o)(aK x:O)(ju mJ:N)(v:H):Prop where
 ex:∃v0,jb B ck k v0 ((ord.take (min x aK)).map (y0 w q))/\aD v0 v 3 1 ju (((ord.take x).drop aK).flatMap encI)/\aD v0 v 3 1 mJ ((ord.take (min x aK)).flatMap encI)/\dB ju mJ
def ale{v0 v:H}{s:N}{l m:J o}{W:o}(ae:aD v0 v 3 1 s (l.flatMap encI))(ht:aD v0 v 3 1 t (m.flatMap encI))(ab:dB s t)(aq:l.length<=1000000){K:N->H->Prop}
  (au:∀ar b9,aD v0 b9 3 1 ar ((l++ [W]).flatMap encI)->aD v0 b9 3 1 t (m.flatMap encI)->dB ar t->K ar b9):
  c7 aH (dA 30 1 #[(0,.int .i64 W)]) [.one .slice] v λs1 aR=>c7 aH (dO #[30,30] 30 #[.slice s.a s.n s.c,.slice s1.a s1.n s1.c]) [.one .slice] aR K:=by
 have ag:=ae.ints.len
 refine mn kK (yA W) (by decide) rfl (by simp[cI]) ae (by omega) (by omega) λar b9 ac _ he fC _=>au ar b9 ?_ (aD.else ht he (λg Z=>ae.fresh g Z) ab) λg Z h2=>?_
 rw[hb];exact ac
 rcases fC g Z with e|e
 exact ab g e h2
 exact dH ht h2 e
theorem aBI{ah:O->aA bB}{T:aU}{c:pE}{k aK:o}{K:N->N->N->o->H->Prop}(h:In ak u ah b T)(aV:dX T)(kQ:T.cd=some c)(ht:Ints u t q)
  (dq:h7 q T.dim k aK≠0->∀u',u.le u'->K ⟨none,0,0⟩ ⟨none,0,0⟩ ⟨none,0,0⟩ (h7 q T.dim k aK) u')
  (bM:h7 q T.dim k aK=0->∀aC ss a6 rest u',iI u u' aC ss a6 (iT T q k aK) (gv T q k aK) rest->rest.map b1.core=jF T q k aK->K aC ss a6 0 u'):aei (some ⟨b,0,none⟩) t k aK u K:=by
 have aJ:=h.aJ
 have cell:u b=some (.cells #[.int .i64 T.dim,.map (some T.m),.pointer c.ptr,.map (some c.hS)] 132 (0,0)):=by have:=aJ.cell;unfold aU.obj at this;rw[kQ] at this;exact this
 have sX:=aJ.sX c kQ
 apply aEu
 refine⟨_,rfl,_,aZ cell 0,Ka ht ⟨λan=>dq an u (H.le.refl u),λhe KT br=>?_⟩⟩
 have bM:=bM he
 obtain⟨aB,cB,cW,fH,e7⟩:=Cr.1 he
 obtain⟨_,_,d3,d4⟩:=n1 aB
 have ag:=aJ.rW
 have qH:(c.sL.map (·.1)).Nodup:=by obtain⟨es,cl,_,he⟩:=sX.map;have:=he.nodup;rw[QY] at this;exact this
 have fX:=aV.small
 have lC:∀dK,c.co=some dK->Hv (BT dK.eV q):=λdK hk=>aDH (aV.um c dK kQ hk) aB
 have main:∀(lH:N) (v:H),u.le v->(∀dK,c.co=some dK->yw v lH (BT dK.eV q))->KT lH v:=by
  intro lH v hle aah;apply br;refine⟨_,rfl,_,aZ (hle _ _ cell) 1,aBx (aJ.map.mono hle) (by simp[ec];omega) λrR gK qN=>?_⟩;rw[QY] at qN;obtain⟨ids,kA⟩:∃ids,ids=cR (T.w.map (·.1)):=⟨_,rfl⟩;rw[<-kA] at qN;have ey:ids.length=T.w.length:=by rw[kA,yi,eb]
  have agP:=qN.ints.len;have aiC:=hle.trans qN.le;refine⟨λsG x w=>0<=x/\x<=rR.n/\aD gK w 68 3 sG (((ids.take x.toNat).map λid=>((id,AA T.cd q id):bN)).flatMap eO),λ_ x _=>rR.n-x.toNat,⟨by omega,by omega,aD.nil (H.le.refl gK) _ _⟩,?_⟩;rintro sG x w ⟨bK,dr,ac⟩;have hw:=aiC.trans ac.le;have LB:sG.n=(ids.take x.toNat).length:=by have:=ac.fk.len;rw[eb] at this;exact this
  rw[iV] at LB;refine⟨λM=>?_,λhF=>?_⟩
  .obtain⟨p,ad,bA⟩:=(qN.ints.mono ac.le).at bK M;have eY:x.toNat<ids.length:=by omega
   have aaN:ids[x.toNat]?=some ids[x.toNat]:=dj eY;have av:ids.getD x.toNat 0=ids[x.toNat]:=by grind
   rw[av] at bA;have one:∀(a cT:o),a=cQ (AA T.cd q ids[x.toNat])->cT=cS (AA T.cd q ids[x.toNat])->∀{fB:N->H->Prop},(∀ar w',a7 (x+1)->(0<=x+1/\x+1<=rR.n/\aD gK w' 68 3 ar (((ids.take (x+1).toNat).map λid=>((id,AA T.cd q id):bN)).flatMap eO))->(rR.n-(x+1).toNat:O)<rR.n-x.toNat->fB ar w')->
     c7 aH (dA 38 1 #[(0,.agg #[.int .i64 ids[x.toNat],.int .u64 a,.int .u64 cT])]) [.one .slice] w λs1 aR=>c7 aH (dO #[38,38] 38 #[.slice sG.a sG.n sG.c,.slice s1.a s1.n s1.c]) [.one .slice] aR fB:=by
    intro a cT az Ry fB l7
    subst az;subst Ry
    refine mn UB (afz _ _ _) (by decide) rfl (by simp[cI]) ac (by show sG.n<_;omega) (by omega) λar w' bR _ _ _ _=>l7 ar w' ⟨by omega,by omega⟩ ⟨by omega,by omega,?_⟩ (by omega)
    rw[show(x+1).toNat=x.toNat+1 by omega,fN,aaN,en,hb]
    exact bR
   refine⟨p,ad,⟨bK,M⟩,_,bA,_,rfl,c.ptr,aZ (hw _ _ cell) 2,λan=>?_,λC6=>?_⟩;cases hk:c.co with
   |none=>exact bf (by simp[pE.ptr,hk]) an|some dK=>
    have RM:AA T.cd q ids[x.toNat]=Lr (BT dK.eV q) (vm c.sL ids[x.toNat]):=by obtain⟨hS,sL,co⟩:=c;obtain rfl:co=some dK:=hk;rw[kQ];rfl
    obtain⟨y,aj,cv⟩:∃y:N,(gm (ec c.sL) ids[x.toNat]).getD (.slice none 0 0)=aI.slice.enc y/\Ints w y (vm c.sL ids[x.toNat]):=by rcases s8 c.sL ids[x.toNat] with⟨Z,hm⟩|⟨e,he,cy,Z⟩;exact⟨⟨none,0,0⟩,by rw[Z];rfl,by rw[aAF hm];exact Ints.nil w⟩;exact⟨e.2.1,by rw[Z];rfl,by rw[<-cy,ON qH he];exact(sX.vec e he).1.mono hw⟩
    refine⟨_,rfl,_,aZ (hw _ _ cell) 3,OW je (sX.map.mono hw) (ct:=.slice) y aj ?_⟩;refine aBz ((aah dK hk).mono (qN.le.trans ac.le)) cv (lC dK hk) λa cT e DW adT Rz=>?_;obtain⟨e5,dF⟩:=z7 DW adT;rw[Rz,<-RM] at e5 dF;exact one a cT e5 dF λar w' i1 i2 i3=>⟨i1,i2,i3⟩
   have RM:AA T.cd q ids[x.toNat]=0:=by
     obtain⟨hS,sL,co⟩:=c;cases co with
     |none=>rw[kQ];rfl|some dK=>simp[pE.ptr] at C6
   exact one 0 0 (by rw[RM];rfl) (by rw[RM];rfl) λar w' i1 i2 i3=>⟨i1,i2,i3⟩
  have eY:x.toNat=ids.length:=by omega
  rw[eY,pt] at ac;rw[eY] at LB;refine amU (cf:=λa b=>if bP a b=ai then -1 else 1) (λa b=>by grind) (enters_of func317 (by kernel_rfl) rfl)
   (λa b u'=>aBB (K:=λfA cF=>fA=(if bP a b=ai then -1 else 1)/\cF=u') ⟨rfl,rfl⟩) ac (by grind) λho MT _=>?_
  obtain⟨ae,Y9⟩:∃ae,ae=mL (ids.map λid=>((id,AA T.cd q id):bN)):=⟨_,rfl⟩;rw[<-Y9] at MT;obtain⟨ord,ajd⟩:∃ord,ord=sn T q:=⟨_,rfl⟩;have Sk:ord=ae.map (·.1):=by rw[ajd,Y9,kA];rfl
  have zb:ord.length=sG.n:=by rw[Sk,eb,Y9,O8,eb];omega
  have ZF:ord.Perm (T.w.map (·.1)):=by rw[ajd];exact akT T q
  have ajG:=aiC.trans MT.le;refine Pf (λaa=>by omega) λ_ _ ck adS aKj vZ p2=>?_;refine⟨λju x GG mJ acL w=>GG=⟨none,0,0⟩/\acL=⟨none,0,0⟩/\0<=x/\x<=sG.n/\apw ho ck k T.w q ord aK.toNat x.toNat ju mJ w,λ_ x _ _ _ _=>sG.n-x.toNat,⟨rfl,rfl,by omega,by omega,adS,by simpa using p2,by simpa using aD.nil (H.le.refl adS) 3 1,by simpa using aD.nil (H.le.refl adS) 3 1,λg Z=>by simp[N.al] at Z⟩,?_⟩;rintro ju x GG mJ acL w ⟨Xf,Xg,bK,dr,v0,ki,AH,H3,qK⟩;change aD v0 w _ 1 ju _ at AH;change aD v0 w _ 1 mJ _ at H3;change dB ju mJ at qK;have iG:=ki.le;have lw:=ajG.trans (iG.trans AH.le);refine⟨λM=>?_,λhF=>?_⟩;obtain⟨p,ad,y,aj,bA,c1,c2⟩:=(MT.fk.mono (iG.trans AH.le)).at bK M;have ajZ:ord[x.toNat]?=some y.1:=by grind
  have A9:ord.take (x+1).toNat=ord.take x.toNat++ [y.1]:=by rw[show(x+1).toNat=x.toNat+1 by omega,fN,ajZ];rfl
  have mb:y.1∈T.w.map (·.1):=ZF.mem_iff.1 (dz ajZ);have eY:x.toNat<ord.length:=by omega
  refine⟨p,ad,⟨bK,M⟩,_,bA,_,c1,_,c2,λaa=>?_,λaa=>?_⟩;refine ale AH H3 qK (by grind) λar w' i1 i2 i3=>⟨⟨by omega,by omega⟩,⟨Xf,Xg,by omega,by omega,v0,?_,?_,?_,i3⟩,by dsimp only;omega⟩;rw[show min (x+1).toNat aK.toNat=min x.toNat aK.toNat by omega];exact ki;rw[A9,List.drop_append_of_le_length (by rw[iV];omega)];exact i1;rw[show min (x+1).toNat aK.toNat=min x.toNat aK.toNat by omega];exact i2;obtain⟨e,kz,cy⟩:=bQ.1 mb;obtain⟨W,aE,Z⟩:∃W,gm (ec T.w) y.1=some (aI.slice.enc W)/\Ints u W (vm T.w y.1):=by rcases s8 T.w y.1 with⟨_,hm⟩|⟨e,he,cy,Z⟩;exact bf mb hm;exact⟨e.2.1,Z,by rw[<-cy,ON ag he];exact(aJ.vec e he).1⟩
  have IJ:vm T.w y.1=e.2.2:=by rw[<-cy];exact ON ag kz
  obtain⟨v1,v2⟩:=aV.vec e kz;refine⟨_,rfl,_,aZ (lw _ _ cell) 1,OW je (aJ.map.mono lw) (ct:=.slice) W (by rw[aE];rfl) ?_⟩;refine BN (Z.mono lw) (ht.mono lw) (by rw[IJ];exact v2) (by grind) d4 (by rw[IJ];omega) λa cT DW adT Rz=>?_;obtain⟨e5,dF⟩:=z7 DW adT;rw[Rz] at e5 dF;rw[e5,dF];have I:Ad (some ⟨ck,0,none⟩) (y0 T.w q y.1).1 (cQ (y0 T.w q y.1).2) (cS (y0 T.w q y.1).2) v0 λ_ b9=>jb ho ck k b9 (y0 T.w q y.1::(ord.take (min x.toNat aK.toNat)).map (y0 T.w q)):=Pe ki cB cW λ_ _ cb=>cb;refine I.frame AH.le ?_;rintro _ h5 w' ab tc;have Q6:=aD.HV AH ab;have Q7:=aD.HV H3 ab;have aT:min x.toNat aK.toNat=x.toNat:=by omega
  have aN:min (x+1).toNat aK.toNat=(x+1).toNat:=by omega
  refine ale Q7 Q6 qK.symm (by rw[iV];omega) λar dF i1 i2 i3=>⟨⟨by omega,by omega⟩,⟨Xf,Xg,by omega,by omega,h5,?_,?_,?_,i3.symm⟩,by dsimp only;omega⟩;rw[aN,A9,en];rw[aT] at tc;exact tc.perm (mH _ _).symm;have d1:(ord.take (x+1).toNat).drop aK.toNat=[]:=vi (by grind);have d2:(ord.take x.toNat).drop aK.toNat=[]:=vi (by grind);rw[d1];rw[d2] at i2;exact i2;rw[aN,A9];rw[aT] at i1;exact i1;have eY:x.toNat=ord.length:=by omega
  obtain⟨S,bb⟩:∃S,S=ord.take aK.toNat:=⟨_,rfl⟩;obtain⟨R,b7⟩:∃R,R=ord.drop aK.toNat:=⟨_,rfl⟩;have arm:ord.take (min x.toNat aK.toNat)=S:=by grind
  have arl:(ord.take x.toNat).drop aK.toNat=R:=by grind
  rw[arm] at ki H3;rw[arl] at AH;have vQ:S.length<=ord.length:=by grind
  have Ig:R.length<=ord.length:=by grind
  have RE:T.cd.isSome=ai:=by rw[kQ];rfl
  have axE:iT T q k aK=e1 k.toNat (S.map (y0 T.w q)):=by unfold iT;grind
  have axG:gv T q k aK=cR S:=by unfold gv;grind
  have axF:jF T q k aK=if R=[] then[] else[(1,0,[],[],cR R)]:=by unfold jF;grind
  rw[axE,axG,axF] at bM;have agU:=AH.ints.len;refine GQ H3 (by omega) λanV xB auj=>?_;have Q6:aD v0 anV 3 1 ju (R.flatMap encI):=aD.else AH auj (λg Z=>H3.fresh g Z) qK.symm;intro Wt XS;have Pu:=ajG.trans iG;have S7:∀(x:N),dB x ⟨none,0,0⟩:=λx g _ Z=>by simp[N.al] at Z
  have CE:∀(x:N),dB ⟨none,0,0⟩ x:=λx g Z=>by simp[N.al] at Z
  have last:∀(a6:N) (rest:J b1) (v:H),jb ho ck k v (S.map (y0 T.w q))->aD v0 v 3 1 mJ ((cR S).flatMap encI)->aD u v 102 6 a6 (rest.flatMap qD)->(∀r∈rest,qx u v r)->(oF ⟨none,0,0⟩ mJ a6 rest).Pairwise dB->rest.map b1.core=(if R=[] then[] else[(1,0,[],[],cR R)])->Wt ⟨none,0,0⟩ mJ a6 v:=by intro a6 rest v i1 i2 i3 i4 i5 i6;refine XS ⟨none,0,0⟩ mJ a6 v (Kf i1 λar u' bR=>bM ar mJ a6 rest u' ⟨bR.weaken (Pu.trans i2.le),(i2.weaken Pu).mono bR.le,i3.mono bR.le,λr U=>⟨(i4 r U).l.mono bR.le,(i4 r U).h.mono bR.le,(i4 r U).i.mono bR.le⟩,?_⟩ i6);refine ix.2 ⟨λy aj=>?_,(ix.1 i5).2⟩;have kn:∀{e dK:O} {xs:J ap} {aR:H},aD aR v e dK y xs->dB ar y:=λcb g h1 h2=>dH cb h2 (bR.fresh g h1);rcases dM.1 aj with rfl|aj;exact kn i2;rcases dM.1 aj with rfl|aj;exact kn i3;obtain⟨r,U,aj⟩:=eA.1 aj;simp only[b1.gp,dM,qX,qY] at aj;rcases aj with rfl|rfl|rfl;exact kn (i4 r U).l;exact kn (i4 r U).h;exact kn (i4 r U).i
  have aur:dB mJ ju:=qK.symm;obtain rfl:GG=⟨none,0,0⟩:=Xf;obtain rfl:acL=⟨none,0,0⟩:=Xg;refine⟨λoi=>?_,λtn=>?_⟩;have Yh:R≠[]:=λe=>by grind
  refine GQ Q6 (by omega) λKk xC auk=>?_;have Q7:aD v0 Kk 3 1 mJ ((cR S).flatMap encI):=aD.else xB auk (λg Z=>Q6.fresh g Z) qK;refine mK (eu.afy ju) λji nc=>?_;obtain⟨W,aE⟩:∃W,W=Kk.ins ji (.cells [cN .i64 1,.slice none 0 0,.slice none 0 0,.int .u64 0,.int .u64 0,.slice ju.a ju.n ju.c].toArray 102 (0,0)):=⟨_,rfl⟩;have Di:Kk.le W:=by rw[aE];exact bX _ nc
  have aiR:=aD.make (k:=6) (H.le.refl Kk) nc (cells:=[cN .i64 1,.slice none 0 0,.slice none 0 0,.int .u64 0,.int .u64 0,.slice ju.a ju.n ju.c].toArray) (e:=102) (n:=1) (by omega) (by simp);rw[<-aE] at aiR ⊢;have IQ:u.le Kk:=Pu.trans xC.le;have It:∀{e dK:O} {y:N} {xs:J ap} {aR:H},aD aR Kk e dK y xs->dB y ⟨some ⟨ji,0,none⟩,1,1⟩:=λcb g h1 h2=>by
   have:ji=g:=by simpa[N.al] using h2
   exact dH cb h1 (by rw[<-this];exact nc)
  refine last ⟨some ⟨ji,0,none⟩,1,1⟩ [eu.Ek ju (cR R)] W (ki.mono (xC.le.trans Di)) (Q7.mono Di) ?_ (λr U=>?_) ?_ ?_;have aT:([eu.Ek ju (cR R)]:J b1).flatMap qD=[cN .i64 1,.slice none 0 0,.slice none 0 0,.int .u64 0,.int .u64 0,.slice ju.a ju.n ju.c]:=by simp[qD,eu.Ek,E9,F1]
  rw[aT];exact aiR.weaken IQ;rw[hZ.1 U];exact⟨aD.nil (IQ.trans Di) _ _,aD.nil (IQ.trans Di) _ _,(xC.weaken Pu).mono Di⟩;show([⟨none,0,0⟩,mJ,⟨some ⟨ji,0,none⟩,1,1⟩,⟨none,0,0⟩,⟨none,0,0⟩,ju]:J N).Pairwise dB;simp only[ix,dM,qX,qY,OB,OC,mG,rP,TT,TU];exact⟨⟨CE _,CE _,CE _,CE _,CE _⟩,⟨It Q7,S7 _,S7 _,aur⟩,⟨S7 _,S7 _,(It xC).symm⟩,⟨CE _,CE _⟩,CE _⟩;rw[bF Yh];rfl;have Yg:R=[]:=by
    have:ju.n=0:=by omega
    rw[this] at agU;exact qW agU.symm
  refine last ⟨none,0,0⟩ [] anV (ki.mono xB.le) xB (aD.nil (Pu.trans xB.le) _ _) (λr U=>(by cases U)) ?_ (by rw[b3 Yg];rfl);show([⟨none,0,0⟩,mJ,⟨none,0,0⟩]:J N).Pairwise dB;simp only[ix,dM,qX,qY,OB,OC,mG,rP,TT,TU]
  grind
 refine⟨_,rfl,_,aZ cell 2,λan=>⟨_,rfl,_,aZ cell 2,?_⟩,λC6=>main ⟨none,0,0⟩ u (H.le.refl u) λdK hk=>?_⟩
 cases hk:c.co with
 |none=>exact bf (by simp[pE.ptr,hk]) an
 |some dK=>rw[show c.ptr=some ⟨dK.b,0,none⟩ by simp[pE.ptr,hk]];refine aBC (sX.co dK hk) (aV.um c dK kQ hk) ht aB λs u' hle aah=>main s u' hle λdY dk=>?_;rw[hk] at dk;obtain rfl:=eh dk;exact aah
 simp[pE.ptr,hk] at C6
end
end hq
section
variable{u ak u':H}{D:O->Prop}{b gi:O}{s t:N}{bJ:ci}{X:cO}{L l:J ax}{K:ay->o->H->Prop}{A B E F:o}
def cO.Qw:cO->J o->o->o->J bN
 | .oo X=>k6.iT X| .aX X=>lr.iT X| .nO X=>kd.iT X| .ag X=>eu.iT X| .c3 X=>hq.iT X
def cO.oF:cO->J o->o->o->J o
 | .oo X=>k6.gv X| .aX X=>lr.gv X| .nO X=>kd.gv X| .ag X=>λq _ aK=>eu.gv X q aK| .c3 X=>hq.gv X
def cO.WC:cO->J o->o->o->J (o×o×J o×J o×J o)
 | .oo X=>k6.jF X| .aX X=>lr.jF X| .nO X=>kd.jF X| .ag X=>λq _ aK=>eu.jF X q aK| .c3 X=>hq.jF X
def cO.ids(h:X.ei ak u D b):(X.rows.map (·.1)).Nodup:=by
 cases X with
 |oo X=>obtain⟨ah,h1,h2,h3⟩:=e6.ex h;exact h2.aJ.rW
 |aX X=>obtain⟨ah,h1,h2,h3⟩:=e6.ex h;exact h2.aJ.rW
 |nO X=>obtain⟨ah,h1,h2,h3⟩:=e6.ex h;rw[show(cO.nO X).rows=kd.bi X from rfl,kd.aa1];exact h3.nodup
 |ag X=>obtain⟨ah,h1,h2,h3⟩:=e6.ex h;rw[show(cO.ag X).rows=eu.fw X.g from rfl,eu.vn];exact(eu.F5 h2).aJ.nodup
 |c3 X=>obtain⟨ah,h1,h2,h3⟩:=e6.ex h;rw[show(cO.c3 X).rows=hq.bi X from rfl,hq.nQ];exact h2.aJ.rW
def cO.acE(h:X.ei ak u D b)(ab:X.rows.length<=512)(ad:(L.map ax.bn).Perm X.rows):gD L X.dim:=by
 have ag:=ad.length_eq;rw[eb] at ag;have av:(L.map (·.id)).Nodup:=by rw[mC,(ad.map (·.1)).nodup_iff];exact cO.ids h
 have fin:(1<=X.dim/\X.dim<=64)->(∀p∈X.rows,1<=p.1/\p.1<=1000000000/\(p.2.length:o)=X.dim/\cY p.2)->gD L X.dim:=λh1 h2=>zP h1 (by omega) av λp hm=>h2 p (ad.mem_iff.1 hm);cases X with
 |oo X=>obtain⟨ah,h1,h2,h3⟩:=e6.ex h;exact fin h3.hP λp hm=>by obtain⟨e,he,rfl⟩:=bQ.1 hm;exact⟨(h3.ids e he).1,(h3.ids e he).2,h3.vec e he⟩
 |aX X=>obtain⟨ah,h1,h2,h3⟩:=e6.ex h;exact fin h3.hP λp hm=>by obtain⟨e,he,rfl⟩:=bQ.1 hm;exact⟨(h3.ids e he).1,(h3.ids e he).2,h3.vec e he⟩
 |nO X=>obtain⟨ah,h1,h2,h3⟩:=e6.ex h;exact fin h3.hP λp hm=>by obtain⟨r,U,rfl⟩:=bQ.1 hm;obtain⟨l,aq,cU⟩:=eA.1 U;exact⟨(h3.ids l aq r cU).1,(h3.ids l aq r cU).2,h3.vec l aq r cU⟩
 |ag X=>obtain⟨ah,h1,h2,h3⟩:=e6.ex h;exact fin h3.k.ok.hP λp hm=>by obtain⟨e,he,rfl⟩:=bQ.1 hm;exact⟨(h3.k.ok.ids e he).1,(h3.k.ok.ids e he).2,h3.k.ok.vec e he⟩
 |c3 X=>obtain⟨ah,h1,h2,h3⟩:=e6.ex h;exact fin h3.hP λp hm=>by obtain⟨e,he,rfl⟩:=bQ.1 hm;exact⟨(h3.ids e he).1,(h3.ids e he).2,h3.vec e he⟩
def cO.sound(h:X.ei ak u D b){q:J o}{k aK:o}(he:h7 q X.dim k aK=0)(cX:(L.map ax.bn).Perm X.rows)(aL:jx L q){rest:J b1}(U:rest.map b1.core=X.WC q k aK):
  Sound L q k (X.Qw q k aK) (X.oF q k aK) rest/\((X.oF q k aK).length:o)<=aK/\(((X.oF q k aK).length:o)=aK∨(X.oF q k aK).length=L.length∨sO q k (X.Qw q k aK) rest):=by
 obtain⟨aB,cB,_,fH,_⟩:=Cr.1 he
 have av:=(n1 aB).2.2.1
 cases X with
 |oo X=>obtain⟨ah,h1,h2,h3⟩:=e6.ex h;exact k6.Pl h3 cB fH av cX aL U
 |aX X=>obtain⟨ah,h1,h2,h3⟩:=e6.ex h;exact lr.Pl h3 cB fH av cX aL U
 |nO X=>obtain⟨ah,h1,h2,h3⟩:=e6.ex h;exact kd.Pl h3 cB fH av cX aL U
 |ag X=>obtain⟨ah,h1,h2,h3⟩:=e6.ex h;obtain⟨s1,s2,k0⟩:=eu.akf (D:=D) (b:=b) ⟨ah,h1,eu.F5 h2,h3⟩ he cX aL U;exact⟨s1,s2,k0.imp id .inl⟩
 |c3 X=>obtain⟨ah,h1,h2,h3⟩:=e6.ex h;obtain⟨s1,s2,k0⟩:=hq.sound h2.aJ.rW fH cX aL U;exact⟨s1,s2,k0.imp id .inl⟩
def cO.GO{q:J o}{k aK:o}{K:N->N->N->o->H->Prop}(h:X.ei ak u D b)(jk:X.eW<=2700)(ht:Ints u t q)
  (dq:h7 q X.dim k aK≠0->∀u',u.le u'->K ⟨none,0,0⟩ ⟨none,0,0⟩ ⟨none,0,0⟩ (h7 q X.dim k aK) u')
  (bM:h7 q X.dim k aK=0->∀aC ss a6 rest u',iI u u' aC ss a6 (X.Qw q k aK) (X.oF q k aK) rest->rest.map b1.core=X.WC q k aK->K aC ss a6 0 u'):
  nv aH (X.iface b) "Search" #[.slice t.a t.n t.c,.int .i64 k,.int .i64 aK] [.agg [.slice,.slice,.slice],.one (.int .i64)] u K:=by
 cases X with
 |oo X=>obtain⟨ah,h1,h2,h3⟩:=e6.ex h;exact lu (f:=255) (by kernel_rfl) Pq (by kernel_rfl) (k6.GO h2 h3 jk ht (λan=>dq an u (H.le.refl u)) bM)
 |aX X=>obtain⟨ah,h1,h2,h3⟩:=e6.ex h;exact lu (f:=275) (by kernel_rfl) Ps (by kernel_rfl) (lr.GO h2 h3 jk ht (λan=>dq an u (H.le.refl u)) bM)
 |nO X=>obtain⟨ah,h1,h2,h3⟩:=e6.ex h;exact lu (f:=283) (by kernel_rfl) Pp (by kernel_rfl) (kd.GO h2 h3 ht (λan=>dq an u (H.le.refl u)) bM)
 |ag X=>obtain⟨ah,h1,h2,h3⟩:=e6.ex h;exact lu (f:=291) (by kernel_rfl) Po (by kernel_rfl) (eu.amH (eu.F5 h2) h3 ht dq λhe aC ss a6 kc u' az=>bM he aC ss a6 _ u' az (eu.alN kc X q aK))
 |c3 X=>
  obtain⟨ah,h1,h2,h3⟩:=e6.ex h;cases e:X.cd with
  |none=>rw[cO.IZ e];exact lu (f:=309) (by kernel_rfl) Pr (by kernel_rfl) (hq.aCr h2 h3 e ht dq bM)|some c=>rw[cO.IY e];exact lu (f:=312) (by kernel_rfl) an3 (by kernel_rfl) (hq.aBI h2 h3 e ht dq bM)
def aU.dim(X:aU):o:=X.X.dim
def aU.cm(_:aU):o:=0
def bi(X:aU):J vB:=X.X.rows
def iT(X:aU)(q:J o)(k aK:o):J bN:=X.X.Qw q k aK
def gv(X:aU)(q:J o)(k aK:o):J o:=X.X.oF q k aK
def jF(X:aU)(q:J o)(k aK:o):J (o×o×J o×J o×J o):=X.X.WC q k aK
abbrev jE(l:J ax)(dim A B E F:o):o:=qy l dim A B E F
def p6(X:aU):O:=X.X.eW
abbrev lO(u:H):Prop:=eu.lO u
def lO.mono(h:lO u)(hu:u.le u'):lO u':=eu.lO.mono h hu
theorem ei.base{X:aU}(h:ei ak u D b X):ak.le u/\(∀c,D c->ak c=none)/\∀c,D c->u c≠none:=by
 obtain⟨k5,h1,_,h3,br,bL⟩:=h.ex;obtain⟨cB,cW,nP⟩:=cO.base bL
 grind
def ei.same{X:aU}(h:ei ak u D b X)(hu:∀c z,u c=some z->D c->u' c=some z)(hle:ak.le u'):ei ak u' D b X:=by obtain⟨k5,h1,h2,h3,br,bL⟩:=h.ex;exact⟨k5,h1,h2,h3,hu _ _ br ((h1 b).2 (.inl rfl)),cO.same bL (λc z I av=>hu c z I ((h1 c).2 (.inr av))) hle⟩
def ei.mono{X:aU}(h:ei ak u D b X)(hu:u.le u'):ei ak u' D b X:=h.same (λc z I _=>hu c z I) (h.base.1.trans hu)
def ei.mI{v:H}{X:aU}(h:ei ak u D b X)(aB:v.le ak):ei v u D b X:=by obtain⟨k5,h1,h2,h3,br,bL⟩:=h.ex;exact⟨k5,h1,h2,aB.none h3,br,cO.mI bL aB⟩
theorem ei.eJ{qu k5:O->Prop}{X:aU}{o8:cO}(h1:∀c,D c↔c=b∨k5 c)(h2:¬k5 b)(h3:ak b=none)(br:u b=some X.obj)(is:o8.ei ak u' qu X.dx)(t:kN u k5 u' qu)(ht:o8.fq=X.X.fq):
  ei ak u' (λc=>c=b∨qu c) b {X with X:=o8}/\kN u D u' λc=>c=b∨qu c:=by
 have aa:¬qu b:=λav=>by rcases t.grow b av with h|h;exact h2 h;rw[br] at h;cases h
 refine⟨⟨qu,λ_=>Bt,aa,h3,?_,is⟩,λc z I av=>t.bO c z I λh=>av ((h1 c).2 (.inr h)),λc I=>?_⟩
 rw[t.bO _ _ br h2]
 unfold aU.obj cO.iface
 simp only[ht]
 rcases I with rfl|I
 grind
 exact(t.grow c I).imp (λh=>(h1 c).2 (.inr h)) id
def Uh{X:aU}{K:o->H->Prop}(h:ei ak u D b X)(au:K (bi X).length u):D1 (some ⟨b,0,none⟩) u K:=by obtain⟨k5,_,_,_,br,bL⟩:=h.ex;apply aEo;exact⟨λe=>(by cases e),λ_=>⟨_,rfl,_,aZ br 4,cO.BM bL au⟩⟩
def amN{X:aU}{K:N->H->Prop}(h:ei ak u D b X)(au:∀s ls u',re u u' s ls->(ls.map ax.bn).Perm (bi X)->(ls.Pairwise λa b=>a.id<=b.id)->K s u'):U4 (some ⟨b,0,none⟩) u K:=by obtain⟨k5,_,_,_,br,bL⟩:=h.ex;apply aEq;exact⟨λe=>(by cases e),λ_=>⟨_,rfl,_,aZ br 4,cO.zU bL au⟩⟩
def aB5{X:aU}{id:o}{q:J o}(h:ei ak u D b X)(jk:p6 X<=2700)(jS:lO ak)(ht:Ints u t q)(fk:(∀g,t.al=some g->¬D g)∨Ints ak t q)
  (dq:eM id q X.dim (decide (id∈(bi X).map (·.1))) (bi X).length≠0->K ao (eM id q X.dim (decide (id∈(bi X).map (·.1))) (bi X).length) u)
  (bM:eM id q X.dim (decide (id∈(bi X).map (·.1))) (bi X).length=0->∀u' hK gE,ei ak u' hK b gE->kN u D u' hK->(bi gE).Perm ((id,q)::(bi X).filter λx=>x.1 !=id)->gE.dim=X.dim->gE.cm=X.cm->p6 gE<=p6 X+1->K (decide (id∉(bi X).map (·.1))) 0 u'):
  He (some ⟨b,0,none⟩) id t u K:=by
 obtain⟨k5,h1,h2,h3,br,bL⟩:=h.ex
 apply aEp
 refine⟨λe=>(by cases e),λ_=>⟨_,rfl,_,aZ br 4,cO.DO bL jk jS ht (fk.imp (λh g Z av=>h g Z ((h1 g).2 (.inr av))) λh=>h) dq λhe u' hK o8 i1 i2 i3 i4 i5 i6=>?_⟩⟩
 obtain⟨kU,aa3⟩:=ei.eJ h1 h2 h3 br i1 i2 i5
 exact bM he u' _ _ kU aa3 i3 i4 rfl i6
def Ui{X:aU}{id:o}{q:J o}(h:ei ak u D b X)(jk:p6 X<=2700)(jS:lO ak)(ht:Ints u t q)(fk:∀g,t.al=some g->¬D g)
  (dq:eM id q X.dim (decide (id∈(bi X).map (·.1))) (bi X).length≠0->K ao (eM id q X.dim (decide (id∈(bi X).map (·.1))) (bi X).length) u)
  (bM:eM id q X.dim (decide (id∈(bi X).map (·.1))) (bi X).length=0->∀u' hK gE,ei ak u' hK b gE->kN u D u' hK->(bi gE).Perm ((id,q)::(bi X).filter λx=>x.1 !=id)->gE.dim=X.dim->gE.cm=X.cm->p6 gE<=p6 X+1->K (decide (id∉(bi X).map (·.1))) 0 u'):
  He (some ⟨b,0,none⟩) id t u K:=aB5 h jk jS ht (.inl fk) dq bM
def ade{X:aU}{id:o}(h:ei ak u D b X)(jk:p6 X<=2700)(dR:id∉(bi X).map (·.1)->∀u',u.le u'->K ao 0 u')
  (jD:id∈(bi X).map (·.1)->∀u' hK gE,ei ak u' hK b gE->kN u D u' hK->bi gE=(bi X).filter (λx=>x.1 !=id)->gE.dim=X.dim->gE.cm=X.cm->p6 gE<=p6 X->K ai 0 u'):PH (some ⟨b,0,none⟩) id u K:=by
 obtain⟨k5,h1,h2,h3,br,bL⟩:=h.ex
 apply aEn
 refine⟨λe=>(by cases e),λ_=>⟨_,rfl,_,aZ br 4,cO.wL bL jk dR λhm u' hK o8 i1 i2 i3 i4 i5 i6=>?_⟩⟩
 obtain⟨kU,aa3⟩:=ei.eJ h1 h2 h3 br i1 i2 i5
 exact jD hm u' _ _ kU aa3 i3 i4 rfl i6
def Uj{X:aU}{q:J o}{k aK:o}{K:N->N->N->o->H->Prop}(h:ei ak u D b X)(jk:p6 X<=2700)(ht:Ints u t q)
  (dq:h7 q X.dim k aK≠0->∀u',u.le u'->K ⟨none,0,0⟩ ⟨none,0,0⟩ ⟨none,0,0⟩ (h7 q X.dim k aK) u')
  (bM:h7 q X.dim k aK=0->∀aC ss a6 rest u',iI u u' aC ss a6 (iT X q k aK) (gv X q k aK) rest->rest.map b1.core=jF X q k aK->K aC ss a6 0 u'):Ku (some ⟨b,0,none⟩) t k aK u K:=by
 obtain⟨k5,_,_,_,br,bL⟩:=h.ex
 apply aEr
 exact⟨λe=>(by cases e),λ_=>⟨_,rfl,_,aZ br 4,cO.GO bL jk ht dq bM⟩⟩
def adb{dim seed:o}{K:aA a8->o->H->Prop}(ae:dU u s l)(jS:lO u)(Yo:cE seed)
  (dq:jE l dim A B E F≠0->K none (jE l dim A B E F) u) (bM:jE l dim A B E F=0->∀b D X u',ei u u' D b X->(bi X).Perm (l.map ax.bn)->X.dim=dim->(X.k=A/\X.s=B/\X.p=E/\X.c=F)->p6 X=0->K (some ⟨b,0,none⟩) 0 u'):P9 s dim A B E F seed u K:=by
 refine hD.weaken (ss:=[.one .ptr,.one (.int .i64)]) ?_
 apply aGv
 exact aBE ae jS Yo (λan _ l=>⟨u,l,dq an⟩) λhe b D X u' qF U av h1 h2 h3 br Z=>⟨u',H.le.refl u',bM he b D X u' qF U av ⟨h1,h2,h3,br⟩ Z⟩
def NE{X:aU}(h:ei ak u D b X){q:J o}{k aK:o}(he:h7 q X.dim k aK=0)(cX:(L.map ax.bn).Perm (bi X))(aL:jx L q){rest:J b1}(U:rest.map b1.core=jF X q k aK):
  Sound L q k (iT X q k aK) (gv X q k aK) rest/\((gv X q k aK).length:o)<=aK/\(((gv X q k aK).length:o)=aK∨(gv X q k aK).length=L.length∨sO q k (iT X q k aK) rest):=by
 obtain⟨k5,_,_,_,_,bL⟩:=h.ex
 exact cO.sound bL he cX aL U
def axV{d:o}(h:jE l d A B E F=0):gD l d:=by unfold jE qy at h;by_cases h1:rT A B E F≠0;rw[b3 h1] at h;exact bf h h1;rw[bF h1] at h;by_cases h2:nr l d≠0;rw[b3 h2] at h;exact bf h h2;exact DF.1 (by simpa using h2)
def aCD{d seed:o}{K:o->H->Prop}(ae:dU u s l)(h:K (jE l d A B E F) u):VS s d A B E F seed u K:=by apply aGA;exact aC0 ae h
structure qt where
 kind:o
 id:o
 k:o
 aK:o
 sF:o
 rQ:N
 v:J o
 kI:N
 q:J o
def HP(z:qt):J ap:=[.int .i64 z.kind,.int .i64 z.id,.int .i64 z.k,.int .i64 z.aK,.int .i64 z.sF,.slice z.rQ.a z.rQ.n z.rQ.c,.slice z.kI.a z.kI.n z.kI.c]
def Lj(z:qt):(HP z).length=7:=rfl
def aIB(z:qt):∀v∈HP z,v.oneCell'=ai:=by simp[HP,cI]
def uf(u:H)(s:N)(l:J qt):Prop:=bw u s 7 (l.flatMap HP)/\∀z∈l,Ints u z.rQ z.v/\Ints u z.kI z.q
def uf.len{l:J qt}(h:uf u s l):s.n=l.length:=hf Lj (by decide) h.1
def uf.max{l:J qt}(h:uf u s l):s.n<=9223372036854775807:=jW (bw.cap h.1) (bw.max h.1)
def uf.mono{l:J qt}(h:uf u s l)(k:u.le u'):uf u' s l:=⟨h.1.mono k,λz ac=>⟨(h.2 z ac).1.mono k,(h.2 z ac).2.mono k⟩⟩
def uf.nil(u:H):uf u ⟨none,0,0⟩ []:=⟨⟨rfl,cw _,by decide,.inl rfl⟩,λ_ h=>by cases h⟩
def uf.at{l:J qt}(h:uf u s l){x:o}(h0:0<=x)(h1:x<(s.n:o)):∃p,s.a=some p/\∃z:qt,l[x.toNat]?=some z/\z∈l/\u.cell? (p.add (x.toNat*7))=some (.int .i64 z.kind)/\u.cell? ((p.add (x.toNat*7)).add 1)=some (.int .i64 z.id)/\
  u.cell? ((p.add (x.toNat*7)).add 2)=some (.int .i64 z.k)/\u.cell? ((p.add (x.toNat*7)).add 3)=some (.int .i64 z.aK)/\u.cell? ((p.add (x.toNat*7)).add 4)=some (.int .i64 z.sF)/\
  u.cell? ((p.add (x.toNat*7)).add 5)=some (.slice z.rQ.a z.rQ.n z.rQ.c)/\u.cell? ((p.add (x.toNat*7)).add 6)=some (.slice z.kI.a z.kI.n z.kI.c)/\Ints u z.rQ z.v/\Ints u z.kI z.q:=by
 have ag:=h.len
 have bP:x.toNat<l.length:=by omega
 have M:l[x.toNat]?=some l[x.toNat]:=dj bP
 obtain⟨p,ad,I⟩:=bw.elem Lj (by decide) h.1 M
 have Rc:=I 0 _ rfl
 rw[Addr.add_zero'] at Rc
 have hm:=ln bP
 exact⟨p,ad,_,M,hm,Rc,I 1 _ rfl,I 2 _ rfl,I 3 _ rfl,I 4 _ rfl,I 5 _ rfl,I 6 _ rfl,(h.2 _ hm).1,(h.2 _ hm).2⟩
structure aeX(u:H)(s t:N)(l:J ax)(ops:J qt):Prop where
 rows:dU u s l
 calls:uf u t ops
 small:∀r∈l,r.v.length<=17592186044416
 ac1:s.n<=17592186044416
 aBr:∀z∈ops,z.v.length<=17592186044416/\z.q.length<=17592186044416
 aDQ:t.n<=17592186044416
def aCz{ops:J qt}{K:ay->H->Prop}(I:aeX u s t l ops)(h1:K ai u)
  (h2:l.length<=2000->ops.length<=2000->(∀r∈l,r.v.length<=32768)->(∀z∈ops,z.v.length<=32768/\z.q.length<=32768)->K ao u):VO s t u K:=by
 have dS:=I.rows.len
 have aaj:=I.calls.len
 apply aGu
 intro iK iM
 refine⟨λ_=>h1,λht=>⟨λ_=>h1,λae=>aCy I.rows I.small I.ac1 (by omega) λx M=>⟨λ_=>h1,λgn=>iM _ _ ?_⟩⟩⟩
 have aB:∀r∈l,r.v.length<=32768:=λr U=>by have:=M (by omega) r U;omega
 have fin:∀n:o,(n<=32768->∀z∈ops,z.v.length<=32768/\z.q.length<=32768)->∀c0:ay,(c0=ai↔32768<n)->K c0 u:=λn ag c0 aa=>by
  cases c0 with
  |true=>exact h1|false=>exact h2 (by omega) (by omega) aB (ag (by by_cases e:32768<n;have:=aa.2 e;cases this;omega))
 refine⟨λn i w=>w=u/\0<=i/\i<=ops.length/\0<=n/\∀z∈ops.take i.toNat,(z.v.length:o)<=n/\(z.q.length:o)<=n,λ_ i _=>ops.length-i.toNat,⟨rfl,by omega,by omega,by omega,λz ac=>by simp at ac⟩,?_⟩
 rintro n i w ⟨rfl,i0,i1,n0,Yu⟩
 intro Qn Ro
 refine⟨λey=>⟨λag=>Ro _ ?_,λag=>fin n (λh=>bf h ag) _ (by simp)⟩,λCW=>fin n (λag z ac=>?_) _ (by simp)⟩
 obtain⟨p,ad,z,ac,oP,bA,c1,c2,fc,pM,qA,HD,IT,xJ⟩:=I.calls.at i0 ey
 have dN:=IT.len
 have eZ:=xJ.len
 obtain⟨s1,s2⟩:=I.aBr z oP
 refine⟨p,ad,⟨i0,ey⟩,p,ad,⟨i0,ey⟩,_,by rw[Addr.w4];exact qA,⟨by omega,by omega⟩,_,HD,⟨by omega,by omega⟩,⟨by omega,by omega⟩,⟨rfl,by omega,by omega,by omega,λcn bR=>?_⟩,by dsimp only;omega⟩
 rw[show(i+1).toNat=i.toNat+1 by omega,fN,ac] at bR
 rcases dT.1 bR with bZ|bZ
 have:=Yu cn bZ;omega
 simp at bZ;subst bZ;omega
 have hi:i.toNat=ops.length:=by have:¬i<(t.n:o):=CW;omega
 rw[hi,pt] at Yu
 have:=Yu z ac
 omega
def aql(a b c d:N):kO aH 22 4 #[(0,.agg #[.int .i64 1,.slice a.a a.n a.c]),(1,.agg #[.int .i64 2,.slice b.a b.n b.c]),(2,.agg #[.int .i64 3,.slice c.a c.n c.c]),(3,.agg #[.int .i64 4,.slice d.a d.n d.c])]=
  some (52,[.int .i64 1,.slice a.a a.n a.c,.int .i64 2,.slice b.a b.n b.c,.int .i64 3,.slice c.a c.n c.c,.int .i64 4,.slice d.a d.n d.c]):=by kernel_rfl
def CD(a b c d:N):J ax:=[⟨1,a,[0,0]⟩,⟨2,b,[3,4]⟩,⟨3,c,[0,1]⟩,⟨4,d,[30,40]⟩]
def aCA{K:N->H->Prop}(h:∀s u' a b c d,u.le u'->dU u' s (CD a b c d)->K s u'):VP u K:=by apply aGx;refine mK (Ct _ _) λg1 h1=>mK (Ct _ _) λg2 h2=>mK (Ct _ _) λg3 h3=>mK (Ct _ _) λg4 br=>mK (aql _ _ _ _) λg5 bL=>?_;have i1:=I3 (H.le.refl u) h1 [0,0] 3 (by simp);have i2:=I3 (H.le.refl _) h2 [3,4] 3 (by simp);have i3:=I3 (H.le.refl _) h3 [0,1] 3 (by simp);have i4:=I3 (H.le.refl _) br [30,40] 3 (by simp);have dN:=bX (u:=u) (b:=g1) (.cells [cN .i64 0,.int .i64 0].toArray 3 (0,0)) h1;have eZ:=bX (b:=g2) (.cells [cN .i64 3,.int .i64 4].toArray 3 (0,0)) h2;have lR:=bX (b:=g3) (.cells [cN .i64 0,.int .i64 1].toArray 3 (0,0)) h3;have lS:=bX (b:=g4) (.cells [cN .i64 30,.int .i64 40].toArray 3 (0,0)) br;have m:=aD.make (k:=2) (H.le.refl _) bL (cells:=[cN .i64 1,.slice (some ⟨g1,0,none⟩) 2 2,.int .i64 2,.slice (some ⟨g2,0,none⟩) 2 2,.int .i64 3,.slice (some ⟨g3,0,none⟩) 2 2,.int .i64 4,.slice (some ⟨g4,0,none⟩) 2 2].toArray) (e:=52) (n:=4) (by omega) rfl;refine h _ _ ⟨some ⟨g1,0,none⟩,2,2⟩ ⟨some ⟨g2,0,none⟩,2,2⟩ ⟨some ⟨g3,0,none⟩,2,2⟩ ⟨some ⟨g4,0,none⟩,2,2⟩ ?_ ⟨m.own.cK,?_⟩;exact(((dN.trans eZ).trans lR).trans lS).trans m.le;intro r U;simp only[CD,dM,qX,qY] at U;rcases U with rfl|rfl|rfl|rfl;exact i1.mono (((eZ.trans lR).trans lS).trans m.le);exact i2.mono ((lR.trans lS).trans m.le);exact i3.mono (lS.trans m.le);exact i4.mono m.le
def arK(a b c d:N):jx (CD a b c d) [0,0]:=Hz.1 (by kernel_rfl)
def arL(a b c d:N):e1 2 ((CD a b c d).map (hj [0,0]))=[(1,0),(3,1)]:=by kernel_rfl
def arJ(a b c d:N):jE (CD a b c d) 2 3 2 0 0=0:=by kernel_rfl
theorem axW{X:aU}(h:ei ak u D b X){q:J o}{k aK:o}(he:h7 q X.dim k aK=0)(cX:(L.map ax.bn).Perm (bi X))(uS:jx L q)(aa:(L.length:o)<=aK):
  iT X q k aK=e1 k.toNat (L.map (hj q))/\(gv X q k aK).length<=(bi X).length:=by
 obtain⟨aB,cB,cW,_,_⟩:=Cr.1 he
 have hlen:=cX.length_eq
 rw[eb] at hlen
 obtain⟨bb,h1,h2⟩:=NE h he cX uS (aAx (jF X q k aK))
 have yR:=bb.all.length_eq
 rw[gG,eb] at yR
 refine⟨bb.aqL uS cB ?_,by omega⟩
 have al8:(gv X q k aK).length=L.length->sO q k (iT X q k aK) ((jF X q k aK).map acC):=λh2=>by
  left;generalize (jF X q k aK).map acC=rest at*;cases rest with
  |nil=>rfl|cons r rs=>
   have h3:=(bb.kb r (ik ..)).2.1
   simp_all
 rcases h2 with h2|h2|h2
 exact al8 (by omega)
 exact al8 h2
 exact h2
def am2{K:ay->H->Prop}(jS:lO u)(h:∀u',u.le u'->K ai u'):P8 u K:=by
 apply aGt;have Bs:∀{w:H} {g:O} (Z:w g=none) (x y:o),Ints (w.ins g (.cells [cN .i64 x,.int .i64 y].toArray 3 (0,0))) ⟨some ⟨g,0,none⟩,2,2⟩ [x,y]:=λ{w g} Z x y=>I3 (H.le.refl w) Z [x,y] 3 (by simp);refine aCA λs0 aR a b c d dN nq=>?_;refine adb nq (jS.mono dN) ⟨by decide,by decide⟩ (λan=>bf (arJ a b c d) an) λ_ dx D X nt qF kT rl sf AS=>?_;have hlen:(bi X).length=4:=by have:=kT.length_eq;simpa[CD] using this
 intro r0 tb;refine⟨λe=>(by cases e),λ_=>⟨λe=>bf rfl e,λ_=>Uh qF ⟨λan=>bf (by rw[hlen];rfl) an,λ_=>tb _ _ ?_⟩⟩⟩;clear tb r0;refine mK (Ct 0 0) λg1 h1=>?_;have m1:=bX (u:=nt) (b:=g1) (.cells [cN .i64 0,.int .i64 0].toArray 3 (0,0)) h1;have ahC:h7 [0,0] X.dim 2 4=0:=by rw[rl];decide
 refine Uj (qF.mono m1) (by omega) (Bs h1 0 0) (λan=>bf ahC an) λ_ OQ rR GC rest lI az AM=>?_;have Y7:=(axW qF ahC (L:=CD a b c d) kT.symm (arK a b c d) (ps _)).1;have aN:e1 (wE 2) ((CD a b c d).map (hj [0,0]))=[(1,0),(3,1)]:=arL a b c d;rw[aN] at Y7;have Sk:=az.h;rw[Y7] at Sk;have ahw:=qF.mono (m1.trans az.le);have ag7:∀g,OQ.al=some g->¬D g:=λg Z av=>by have:=az.h.fresh g Z;obtain⟨z,ac⟩:=fp.1 (qF.base.2.2 g av);rw[m1 _ _ ac] at this;cases this
 have aJj:∀g,OQ.al=some g->∃z,lI g=some z:=λg Z=>fp.1 (dH az.h Z);clear Y7 AM az;refine mK (Ct 9 9) λg2 h2=>?_;have m2:=bX (u:=lI) (b:=g2) (.cells [cN .i64 9,.int .i64 9].toArray 3 (0,0)) h2;have cy:∀x,x∈(bi X).map (·.1)↔x∈([1,2,3,4]:J o):=λx=>(kT.map (·.1)).mem_iff;have t3:decide ((3:o)∈(bi X).map (·.1))=ai:=jf ((cy 3).2 (by decide));have aDw:decide ((3:o)∉(bi X).map (·.1))=ao:=q0 λh=>h ((cy 3).2 (by decide));have R6:eM 3 [9,9] X.dim (decide ((3:o)∈(bi X).map (·.1))) (bi X).length=0:=by rw[t3,rl,hlen];decide
 have ahb:∀{W:H} {g:O},(∀c,D c->W c≠none)->W g=none->∀b5,(⟨some ⟨g,0,none⟩,2,2⟩:N).al=some b5->¬D b5:=λ{W g} aE Z b5 cu av=>by
  have:g=b5:=by simpa[N.al] using cu
  exact aE b5 av (by rw[<-this];exact Z)
 refine Ui (ahw.mono m2) (by omega) (jS.mono dN) (Bs h2 9 9) (ahb ahw.base.2.2 h2) (λan=>bf R6 an) λ_ UI ud Ei EV p1 xF CS _ gu=>?_;rw[aDw];have au5:∀g,OQ.al=some g->∀z,lI g=some z->UI g=some z/\¬ud g:=λg Z z ac=>by refine⟨p1.bO g z (m2 _ _ ac) (ag7 g Z),λav=>?_⟩;rcases p1.grow g av with bL|bL;exact ag7 g Z bL;rw[m2 _ _ ac] at bL;cases bL
 have eX:(bi Ei).Perm [(3,[9,9]),(1,[0,0]),(2,[3,4]),(4,[30,40])]:=by refine xF.trans (j9 _ ?_);exact(kT.filter _).trans (JV _)
 have auP:(1:o)∈(bi Ei).map (·.1):=(eX.map (·.1)).mem_iff.2 (by decide);refine ade EV (by omega) (λdR=>bf auP dR) λ_ k2 ao3 Qu Rv nM Fw Ip _ aie=>?_;have AW:(bi Qu).length=3:=by rw[Fw];have:=(eX.filter λx=>x.1 !=1).length_eq;exact this
 have au6:∀g,OQ.al=some g->∀z,lI g=some z->k2 g=some z:=λg Z z ac=>by obtain⟨bL,gA⟩:=au5 g Z z ac;exact nM.bO g z bL gA
 refine mK (Ct 1 1) λg3 h3=>?_;have m3:=bX (u:=k2) (b:=g3) (.cells [cN .i64 1,.int .i64 1].toArray 3 (0,0)) h3;have MB:eM 0 [1,1] Qu.dim (decide ((0:o)∈(bi Qu).map (·.1))) (bi Qu).length=50:=by unfold eM;rw[b3 (by omega)]
 have asQ:∀b5,(⟨some ⟨g3,0,none⟩,2,2⟩:N).al=some b5->¬ao3 b5:=λb5 cu av=>by
  have:g3=b5:=by simpa[N.al] using cu
  exact Rv.base.2.2 b5 av (by rw[<-this];exact h3)
 refine Ui (Rv.mono m3) (by omega) (jS.mono dN) (Bs h3 1 1) asQ (λ_=>?_) λhe=>by rw[MB] at he;cases he
 rw[MB];have uE:=h _ ((dN.trans (Rv.base.1)).trans m3);have fk:lL _ OQ [((1:o),(0:o)),(3,1)]:=bw.else Sk.fk λg z Z ac=>m3 _ _ (au6 g Z z ac);intro Ea as2;refine⟨λ_=>⟨λ_=>⟨λ_=>⟨λ_=>⟨λ_=>⟨λ_=>Uh (Rv.mono m3) ?_,λe=>(by cases e)⟩,λe=>(by cases e)⟩,λe=>bf rfl e⟩,λe=>bf rfl e⟩,λe=>bf rfl e⟩,λe=>bf rfl e⟩;have abj:∀c0:ay,c0=ai->K c0 (k2.ins g3 (.cells [cN .i64 1,.int .i64 1].toArray 3 (0,0))):=λc0 aa=>by rw[aa];exact uE
 refine as2 _ _ ⟨λ_=>?_,λaa=>?_⟩;have fK:=fk.len;refine⟨λ_=>?_,λan=>bf (by rw[fK];rfl) an⟩;obtain⟨p,ad,x,M,bA,c1,c2⟩:=fk.at (x:=0) (by omega) (by rw[fK];decide);obtain⟨jV,fL,y,aj,d0,d1,d2⟩:=fk.at (x:=1) (by omega) (by rw[fK];decide);have h8:jV=p:=by rw[ad] at fL;exact(eh fL).symm
 subst h8;have gn:x=(1,0):=by simpa using M.symm
 have jC:y=(3,1):=by simpa using aj.symm
 subst gn;subst jC;refine⟨_,ad,⟨by omega,by rw[fK];decide⟩,_,bA,_,c1,_,c2,λ_=>⟨_,ad,⟨by omega,by rw[fK];decide⟩,_,d0,_,d1,_,d2,abj _ ?_⟩,λan=>bf ⟨rfl,rfl,rfl⟩ an⟩;exact jf ⟨rfl,rfl,rfl⟩;rw[AW] at aa;simp at aa
open Go.ChangeShapes Go.WideShapes Go.ChangeAt Go.RowKit
def afL:aH.cellsOf 54=7:=by kernel_rfl
def aqI:aH.cellsOf 28=5:=by kernel_rfl
def aqJ:aH.cellsOf 23=1:=by kernel_rfl
def aqK:aH.cellsOf 25=4:=by kernel_rfl
def aqq:aH.bytesOf 54=88:=by kernel_rfl
section
variable {pF:Type} {enc:dC×ap->pF}
theorem azz{cs:J ap}{x:DataW pF×J MemPlace}(h:qd enc aH bJ 0 (λ_=>ai) ai gi 52 cs=some x)(hw:∀n∈x.1.weights aH 52,n<=qZ):
  ∃(i:o) (s:N) (v:J o),cs=[.int .i64 i,.slice s.a s.n s.c]/\Ints (whole bJ) s v/\v.length<=17592186044416:=by
 obtain⟨hJ,ii,k,ir,hlen,ak,aR⟩:=trod_struct2 TI h
 rw[WY] at hlen
 match cs,hlen with
 | [v0,v1],_=>
  simp only[HF,WX,JM,JN] at ak aR;obtain⟨q,fi,_,_⟩:=yd yc ak;simp only[vj,rP] at fi;subst fi;obtain⟨s,rfl⟩:=cells_one aR;obtain⟨zs,aE,xN⟩:=abO aR (λn ag=>hw n (by rw[ir];simp only[Gt,show aH.underlying 52=some _ from TI];simp only[iw,Bz,DataW.weightsEach,dT];exact .inr (.inl ag)))
  grind
def azx{cs:J ap}{x:DataW pF×J MemPlace}(h:qd enc aH bJ 0 (λ_=>ai) ai gi 54 cs=some x)(hw:∀n∈x.1.weights aH 54,n<=qZ):
  ∃z:qt,cs=HP z/\Ints (whole bJ) z.rQ z.v/\Ints (whole bJ) z.kI z.q/\z.v.length<=17592186044416/\z.q.length<=17592186044416:=by
 obtain⟨xs,n,_,ir,hlen,eY,ab⟩:=DataW.trod_struct underlying54 h
 rw[afL] at hlen
 match xs,eY,cs,hlen with
 | [hJ,ii,jI,o2,qp,sM],_,[v0,v1,v2,v3,v4,v5,v6],_=>have f0:qd enc aH bJ 0 (λ_=>ai) ai n 3 (([v0,v1,v2,v3,v4,v5,v6].drop 0).take (aH.cellsOf 3))=some hJ:=ab 0 _ rfl;have f1:qd enc aH bJ 0 (λ_=>ai) ai n 3 (([v0,v1,v2,v3,v4,v5,v6].drop 1).take (aH.cellsOf 3))=some ii:=ab 1 _ rfl;have f2:qd enc aH bJ 0 (λ_=>ai) ai n 3 (([v0,v1,v2,v3,v4,v5,v6].drop 2).take (aH.cellsOf 3))=some jI:=ab 2 _ rfl;have f3:qd enc aH bJ 0 (λ_=>ai) ai n 3 (([v0,v1,v2,v3,v4,v5,v6].drop 3).take (aH.cellsOf 3))=some o2:=ab 3 _ rfl;have f4:qd enc aH bJ 0 (λ_=>ai) ai n 52 (([v0,v1,v2,v3,v4,v5,v6].drop 4).take (aH.cellsOf 52))=some qp:=ab 4 _ rfl;have f5:qd enc aH bJ 0 (λ_=>ai) ai n 30 (([v0,v1,v2,v3,v4,v5,v6].drop 6).take (aH.cellsOf 30))=some sM:=ab 5 _ rfl;simp only[HF,WX,WY,JM,JN] at f0 f1 f2 f3 f4 f5;obtain⟨Bs,fi,_,_⟩:=yd yc f0;obtain⟨di,aT,_,_⟩:=yd yc f1;obtain⟨dv,aN,_,_⟩:=yd yc f2;obtain⟨ef,dG,_,_⟩:=yd yc f3;have ch:∀{t:dC} {y:DataW pF×J MemPlace},∀m:O,m∈y.1.weights aH t->(t=52/\y=qp∨t=30/\y=sM)->m<=qZ:=λm hm I=>hw m (by rw[ir];simp only[Gt,show aH.underlying 54=some _ from underlying54];simp only[iw,Bz,DataW.weightsEach,dT];rcases I with⟨rfl,rfl⟩|⟨rfl,rfl⟩;exact .inr (.inr (.inr (.inr (.inl hm))));exact .inr (.inr (.inr (.inr (.inr (.inl hm))))));obtain⟨aAy,rs,rQ,Xo,U,lc⟩:=azz f4 (λm hm=>ch m hm (.inl ⟨rfl,rfl⟩));obtain⟨kI,eq⟩:=cells_one f5;subst eq;obtain⟨zs,aE,xN⟩:=abO f5 (λm hm=>ch m hm (.inr ⟨rfl,rfl⟩));simp only[vj,rP] at fi aT aN dG Xo;obtain⟨arF,arG⟩:=Xo;subst fi aT aN dG arF arG;exact⟨⟨Bs,di,dv,ef,aAy,rs,rQ,kI,zs⟩,rfl,U,aE,lc,xN⟩
def azw{cs:cA ap}{x:DataW pF×J MemPlace}(h:qd enc aH bJ 0 (λ_=>ai) ai gi 28 cs.toList=some x):
  ∃a b c d s:o,cE s/\cs=#[.int .i64 a,.int .i64 b,.int .i64 c,.int .i64 d,.int .u64 s]:=by
 obtain⟨hJ,ii,k,_,hlen,ak,aR⟩:=trod_struct2 underlying28 h
 rw[aqI] at hlen
 obtain⟨cl⟩:=cs
 change cl.length=5 at hlen
 match cl,hlen with
 | [v0,v1,v2,v3,v4],_=>
  simp only[aqK,aqG,JM,JN] at ak aR;obtain⟨xs,n,_,_,_,eY,ab⟩:=DataW.trod_struct underlying25 ak
  match xs,eY with
  | [z0,jw,z2,z3],_=>
   have f0:qd enc aH bJ 0 (λ_=>ai) ai n 23 (([v0,v1,v2,v3].drop 0).take (aH.cellsOf 23))=some z0:=ab 0 _ rfl;have f1:qd enc aH bJ 0 (λ_=>ai) ai n 3 (([v0,v1,v2,v3].drop 1).take (aH.cellsOf 3))=some jw:=ab 1 _ rfl;have f2:qd enc aH bJ 0 (λ_=>ai) ai n 3 (([v0,v1,v2,v3].drop 2).take (aH.cellsOf 3))=some z2:=ab 2 _ rfl;have f3:qd enc aH bJ 0 (λ_=>ai) ai n 3 (([v0,v1,v2,v3].drop 3).take (aH.cellsOf 3))=some z3:=ab 3 _ rfl;simp only[aqJ,HF,JM,JN] at f0 f1 f2 f3;obtain⟨m0,fi,_,_⟩:=yd underlying23 f0;obtain⟨m1,aT,_,_⟩:=yd yc f1;obtain⟨m2,aN,_,_⟩:=yd yc f2;obtain⟨m3,dG,_,_⟩:=yd yc f3;obtain⟨m4,gz,_,pC⟩:=yd underlying26 aR;simp only[vj,rP] at fi aT aN dG gz;subst fi aT aN dG gz;refine⟨m0,m1,m2,m3,m4,?_,rfl⟩;simp only[Lit.wf,oV,TE] at pC;have g1:Gy .u64=0:=by decide
   have g2:Gz .u64=18446744073709551615:=by decide
   rw[g1,g2] at pC;exact⟨pC.1,by omega⟩
instance:lF qt:=⟨⟨0,0,0,0,0,⟨none,0,0⟩,[],⟨none,0,0⟩,[]⟩⟩
def azy{a:aA a8}{len cap:O}{x:DataW pF×J MemPlace}(h:qd enc aH bJ 0 (λ_=>ai) ai gi 29 [.slice a len cap]=some x)(hw:∀n∈x.1.weights aH 29,n<=qZ):
  ∃l:J qt,uf (whole bJ) ⟨a,len,cap⟩ l/\(∀z∈l,z.v.length<=17592186044416/\z.q.length<=17592186044416)/\len<=17592186044416:=by
 have U:qZ=140737488351232:=by decide
 rcases Deep.open_slice underlying29 h with⟨dV,_⟩|⟨p,l,c,m,n,D,aps,dV,aa,aq,hm,uL,M,eC⟩
 simp only[vj,JL,rP] at dV
 obtain⟨rfl,rfl,rfl⟩:=dV
 exact⟨[],⟨⟨rfl,cw _,by simp,.inl rfl⟩,λ_ h=>(by cases h)⟩,λ_ h=>(by cases h),by omega⟩
 simp only[vj,JL,rP] at dV
 obtain⟨rfl,rfl,rfl⟩:=dV
 simp only[x5] at uL
 subst uL
 rw[F3] at hm
 have Nv:∀k,k∈(((lD len).map D).length+((lD (m-len)).map λj=>D (len+j)).length)*aH.bytesOf 54::(Gs aH 54 ((lD len).map D)++Gs aH 54 ((lD (m-len)).map λj=>D (len+j)))->k<=qZ:=by intro k hk;refine hw k ?_;rw[M];simp only[Gt,show aH.underlying 29=some (.slice 54) from underlying29];exact hk
 have kx:len*32<=qZ:=by
  have:=Nv _ (ik ..);rw[aqq] at this;simp at this;have e:len+(m-len)=m:=by omega
  omega
 have each:∀i,i<len->∃z:qt,(∀j,j<7->bJ.cell? ((p.add (i*7)).add j)=(HP z)[j]?)/\(Ints (whole bJ) z.rQ z.v/\Ints (whole bJ) z.kI z.q)/\z.v.length<=17592186044416/\z.q.length<=17592186044416:=by intro i hi;obtain⟨yD,h1,h2⟩:=eC i (by omega);rw[afL] at h1;obtain⟨_,hlen,gf⟩:=World.cells?_some h1;have aaH:∀n∈(D i).weights aH 54,n<=qZ:=λn ag=>Nv n (iX _ (kG _ (aop (i:=i) (d:=D i) (by simp[hi]) n ag)));obtain⟨z,rfl,aB,aL,Bf,uR⟩:=azx h2 aaH;exact⟨z,gf,⟨aB,aL⟩,Bf,uR⟩
 obtain⟨f,ab⟩:=Deep.choose_lt each
 have nb:((lD len).map f).length=len:=by simp
 refine⟨(lD len).map f,⟨⟨?_,aq,hm,.inr ⟨p,rfl,λj v e=>?_⟩⟩,λr U=>?_⟩,λr U=>?_,by omega⟩
 rw[oc Lj,nb]
 have aP:j<len*7:=by have:=(hG.1 e).1;rw[oc Lj,nb] at this;exact this
 have aT:j=j/7*7+j%7:=by omega
 have av:j/7<len:=by omega
 rw[UZ]
 rw[aT,EF Lj _ _ _ (Gr _ (by decide))] at e
 rw[pw,acm av] at e
 simp only[Dt,Oe] at e
 obtain⟨g0,_⟩:=ab (j/7) av
 rw[aT,<-Addr.w4,g0 _ (Gr _ (by decide)),e]
 obtain⟨i,hi,rfl⟩:=bQ.1 U
 exact(ab i (by simpa using hi)).2.1
 obtain⟨i,hi,rfl⟩:=bQ.1 U
 exact(ab i (by simpa using hi)).2.2
end
def ayd:(alk:DataW Unit)=Lib.tabData .u8 (Lib.deBruijn64tab.map Int.ofNat):=by kernel_rfl
theorem aDG(h:laidMetH aH [("math/bits.deBruijn64tab",alk)] bJ):lO (whole bJ):=by
 rw[MakeChecks.laidMetH_plain _ _ _ (by kernel_rfl),ayd] at h;have ht:=Lib.tabIs_of_head (g:=0) (by kernel_rfl) (by kernel_rfl) underlying281 underlying5 (by kernel_rfl) (by kernel_rfl) h;intro w hw j aP;have I:=Lib.TabIs.cell ht (g:=0) (by kernel_rfl) j (by grind);rw[<-UZ] at I;have:=hw.cell I
 grind
end
section
variable{L l:J ax}{u ub u':H}{D:O->Prop}{n b:O}{d:o}{K:ay->H->Prop}{q:J o}{s:N}
structure lN(ub u:H)(D:O->Prop)(n:O)(d:o)(L:J ax):Prop where
 ex:∃gw,gw.le u/\(∀c,D c->gw c=none)/\TabAt gw n d L/\ub.le gw/\ub n=none
def lN.le(h:lN ub u D n d L):ub.le u:=by obtain⟨gw,h1,_,_,br,_⟩:=h.ex;exact br.trans h1
def lN.mono(h:lN ub u D n d L)(hu:u.le u'):lN ub u' D n d L:=by obtain⟨gw,h1,h2,h3,br,bL⟩:=h.ex;exact⟨gw,h1.trans hu,h2,h3,br,bL⟩
def lN.rows(h:lN ub u D n d L):∃s:N,u n=some (.cells #[.int .i64 d,.slice s.a s.n s.c] 84 (0,0))/\dU u s L:=by obtain⟨gw,h1,_,h3,_,_⟩:=h.ex;obtain⟨s,v,ag,aB,_,b7⟩:=h3.ex;exact⟨s,h1 _ _ ag,b7.mono (aB.trans h1)⟩
def lN.BF(h:lN ub u D n d L):(L.map ax.bn).Pairwise λa b=>a.1<b.1:=by obtain⟨gw,_,_,h3,_,_⟩:=h.ex;exact h3.BF
def lN.nodup(h:lN ub u D n d L):(L.map (·.id)).Nodup:=by obtain⟨gw,_,_,h3,_,_⟩:=h.ex;rw[Ow,tR];exact h3.sJ.imp λh=>Int.ne_of_lt h
def lN.eJ{hK:O->Prop}(h:lN ub u D n d L)(k:kN u D u' hK):lN ub u' hK n d L:=by obtain⟨gw,h1,h2,h3,br,bL⟩:=h.ex;obtain⟨cB,cW⟩:=k.apart h1 h2;exact⟨gw,cB,cW,h3,br,bL⟩
theorem amZ{id:o}{t:N}{K:ay->o->H->Prop}(h:lN ub u D n d L)(xg:∀c,D c->u c≠none)(aq:L.length<=1000000)(ht:Ints ub t q)
  (dq:eM id q d (decide (id∈L.map (·.id))) L.length≠0->∀u',lN ub u' D n d L->(∀c z,u c=some z->D c->u' c=some z)->K ao (eM id q d (decide (id∈L.map (·.id))) L.length) u')
  (bM:eM id q d (decide (id∈L.map (·.id))) L.length=0->∀u' eo,lN ub u' D n d eo->(∀c z,u c=some z->D c->u' c=some z)->eo.map ax.bn=DT (L.map ax.bn) id q->K (decide (id∉L.map (·.id))) 0 u'):Hn (some ⟨n,0,none⟩) id t u K:=by
 obtain⟨gw,h1,h2,h3,br,bL⟩:=h.ex
 let iK:ay->o->H->Prop:=λb e b9=>∃eo,TabAt b9 n d eo/\ub.le b9/\((b=ao/\e=eM id q d (decide (id∈L.map (·.id))) L.length/\eM id q d (decide (id∈L.map (·.id))) L.length≠0/\eo=L)∨
  (b=decide (id∉L.map (·.id))/\e=0/\eM id q d (decide (id∈L.map (·.id))) L.length=0/\eo.map ax.bn=DT (L.map ax.bn) id q))
 have I:Hn (some ⟨n,0,none⟩) id t gw iK:=am6 h3 aq (ht.mono br) (λan=>⟨L,h3,br,.inl ⟨rfl,rfl,an,rfl⟩⟩)
  λhe u' eo dZ ad hk=>⟨eo,dZ,λc z I=>hk c z (br c z I) (λe=>by grind),.inr ⟨rfl,rfl,he,ad⟩⟩
 refine I.frame h1 ?_
 rintro b e h5 b9 ab ⟨eo,dZ,Nn,YD⟩
 have c6:lN ub b9 D n d eo:=⟨h5,ab.le,λc I=>by
  cases M:u c with
  |none=>grind|some z=>exact(ab.out c z (h2 c I) M).1,dZ,Nn,bL⟩
 have mz:∀c z,u c=some z->D c->b9 c=some z:=λc z I av=>(ab.out c z (h2 c av) I).2
 rcases YD with⟨rfl,rfl,an,rfl⟩|⟨rfl,rfl,he,ad⟩
 exact dq an b9 c6 mz
 exact bM he b9 eo c6 mz ad
theorem amY{id:o}(h:lN ub u D n d L)(xg:∀c,D c->u c≠none)(aq:L.length<=1000000)
  (dR:(∀r∈L,r.id≠id)->∀u',lN ub u' D n d L->(∀c z,u c=some z->D c->u' c=some z)->K ao u')
  (jD:(∃r∈L,r.id=id)->∀u' eo,lN ub u' D n d eo->(∀c z,u c=some z->D c->u' c=some z)->eo.map ax.bn=Kj (L.map ax.bn) id->K ai u'):KI (some ⟨n,0,none⟩) id u K:=by
 obtain⟨gw,h1,h2,h3,br,bL⟩:=h.ex
 let iK:ay->H->Prop:=λb b9=>∃eo,TabAt b9 n d eo/\ub.le b9/\((b=ao/\(∀r∈L,r.id≠id)/\eo=L)∨(b=ai/\(∃r∈L,r.id=id)/\eo.map ax.bn=Kj (L.map ax.bn) id))
 have I:KI (some ⟨n,0,none⟩) id gw iK:=aCX h3 aq (λdR=>⟨L,h3,br,.inl ⟨rfl,dR,rfl⟩⟩)
  λhe u' eo dZ ad hk=>⟨eo,dZ,λc z I=>hk c z (br c z I) (λe=>by grind),.inr ⟨rfl,he,ad⟩⟩
 refine I.frame h1 ?_
 rintro b h5 b9 ab ⟨eo,dZ,Nn,YD⟩
 have c6:lN ub b9 D n d eo:=⟨h5,ab.le,λc I=>by
  cases M:u c with
  |none=>grind|some z=>exact(ab.out c z (h2 c I) M).1,dZ,Nn,bL⟩
 have mz:∀c z,u c=some z->D c->b9 c=some z:=λc z I av=>(ab.out c z (h2 c av) I).2
 rcases YD with⟨rfl,an,rfl⟩|⟨rfl,he,ad⟩
 exact dR an b9 c6 mz
 exact jD he b9 eo c6 mz ad
theorem aCs{K:aA a8->H->Prop}(hle:ub.le u)(H7:∀c,D c->ub c=none)(xg:∀c,D c->u c≠none)(ae:dU ub s l)(aq:gD l d)
  (au:∀n u' L,lN ub u' D n d L->(∀c z,u c=some z->D c->u' c=some z)->(L.map ax.bn).Perm (l.map ax.bn)->K (some ⟨n,0,none⟩) u'):KH s d u K:=by
 let iK:aA a8->H->Prop:=λp b9=>∃n L,p=some ⟨n,0,none⟩/\ub n=none/\ub.le b9/\TabAt b9 n d L/\(L.map ax.bn).Perm (l.map ax.bn)
 have I:KH s d ub iK:=aCV ae aq λn u' L h1 h2 h3 br=>⟨n,L,rfl,h1,h2,h3,br⟩
 refine I.frame hle ?_
 rintro p h5 b9 ab ⟨n,L,rfl,h1,h2,h3,br⟩
 refine au n b9 L ⟨h5,ab.le,λc I=>?_,h3,h2,h1⟩ (λc z I av=>(ab.out c z (H7 c av) I).2) br
 cases M:u c with
 |none=>grind
 |some z=>exact(ab.out c z (H7 c I) M).1
structure pH(ub u:H)(D:O->Prop)(b:O)(X:aU)(n:O)(L:J ax):Prop where
 a1:ei ub u D b X
 tX:lN ub u D n X.dim L
 perm:(bi X).Perm (L.map ax.bn)
 ok:gD L X.dim
def pH.mono{X:aU}(h:pH ub u D b X n L)(hu:u.le u'):pH ub u' D b X n L:=⟨h.a1.mono hu,h.tX.mono hu,h.perm,h.ok⟩
def pH.le{X:aU}(h:pH ub u D b X n L):ub.le u:=h.tX.le
def pH.ids{X:aU}(h:pH ub u D b X n L)(id:o):id∈(bi X).map (·.1)↔id∈L.map (·.id):=by rw[mC];exact(h.perm.map _).mem_iff
def pH.len{X:aU}(h:pH ub u D b X n L):(bi X).length=L.length:=by have:=h.perm.length_eq;simpa using this
def am3{X:aU}(h:pH ub u D b X n L)(au:∀u',u.le u'->K ai u'):
  Qa (some ⟨b,0,none⟩) (some ⟨n,0,none⟩) u K:=by
 apply aGw
 refine amN h.a1 λs ls aR b7 ad ae=>?_
 intro ny oe
 have gB:u.le aR:=b7.own.le
 obtain⟨cg,ag,r9⟩:=(h.mono gB).tX.rows
 have hlen:=r9.len
 have c1:H.cell? aR ((⟨n,0,none⟩:a8).add 1)=some (.slice cg.a cg.n cg.c):=aZ ag 1
 refine⟨_,rfl,cg,c1,?_⟩
 refine aCv b7.rws r9 ?_
 have pY:(ls.map ax.bn).Perm (L.map ax.bn):=ad.trans h.perm
 have awD:(ls.map ax.bn).Pairwise λa b=>a.1<b.1:=by
  rw[tR];have b8:(ls.map (·.id)).Nodup:=by rw[mC];exact((pY.map (·.1)).nodup_iff).2 (by rw[<-mC];exact h.tX.nodup)
  rw[Ow,tR] at b8;refine(ae.and b8).imp λ{x y} ir=>?_;have:=ir.1;have:=ir.2;show x.id<y.id;omega
 have e:ls.map ax.bn=L.map ax.bn:=ala awD h.tX.BF pY
 have fin:∀c0:ay,c0=ai->ny c0 aR:=λc0 aa=>oe c0 aR (aCx b7 λu' hle _=>by rw[aa];exact au u' hle)
 have len:∀{A:o->H->Prop},A (L.length:o) aR->D1 (some ⟨b,0,none⟩) aR A:=λhx=>Uh (h.a1.mono gB) (by rw[h.len];exact hx)
 refine⟨λ_=>⟨_,rfl,len ⟨cg,c1,fin _ (jf (by omega))⟩,cg,c1,len (fin _ (jf (by omega)))⟩,λaa=>?_⟩
 rw[jf e] at aa
 cases aa
def aD.again{aR cF v il:H}{e k:O}{xs:J ap}(h:aD aR cF e k s xs)(aB:v.le aR)(h3:v.le il)(hk:∀b z,aR b=none->cF b=some z->il b=some z):aD v il e k s xs:=
 ⟨h.own.le λb z aa hu=>hk b z (h.fresh b aa) hu,h3,λg Z=>by
  cases M:v g with
  |none=>rfl|some z=>have:=aB _ _ M;rw[h.fresh g Z] at this;cases this⟩
def iI.again{aR cF v il:H}{aC ss a6:N}{eE:J bN}{seen:J o}{rest:J b1}(h:iI aR cF aC ss a6 eE seen rest)(aB:v.le aR)(h3:v.le il)(hk:∀b z,aR b=none->cF b=some z->il b=some z):iI v il aC ss a6 eE seen rest:=
 ⟨h.h.again aB h3 hk,h.s.again aB h3 hk,h.r.again aB h3 hk,λr U=>⟨(h.g r U).l.again aB h3 hk,(h.g r U).h.again aB h3 hk,(h.g r U).i.again aB h3 hk⟩,h.ej⟩
def aCB{X:aU}{kind id k aK sF:o}{rQ kI:N}(h:pH ub u D b X n L)(jk:p6 X<=2700)(aL:Ints ub kI q)(aa:q.length<=1000000)
  (au:∀u',u.le u'->K ai u'):VQ (some ⟨b,0,none⟩) (some ⟨n,0,none⟩) kind id k aK sF rQ kI u K:=by
 apply aGy
 refine am1 (aL.mono h.le) aa λg Z=>?_
 have dN:u.le (u.ins g (Dh q)):=bX _ Z
 have h1:=h.mono dN
 refine Uj h1.a1 jk (S1 (bh _ _ _) aa) (λan cF eZ=>?_) (λhe aC ss a6 rest cF az U=>?_)
 intro w0 AJ
 refine Ul (eZ _ _ (bh _ _ _)) (aL.mono ((h1.le).trans eZ)) aa λz=>⟨λM=>bf rfl M,λ_=>?_⟩
 have lR:u.le (cF.ins g z):=λc x I=>by rw[bz _ _ (λe=>by rw[e,Z] at I;cases I)];exact(dN.trans eZ) c x I
 obtain⟨cg,ag,_⟩:=(h.mono lR).tX.rows
 have bA:H.cell? (cF.ins g z) ⟨n,0,none⟩=some (.int .i64 X.dim):=aZ ag 0
 have aa7:w0 ao (cF.ins g z):=AJ ao _ ⟨λ_=>am0 (rX.nil _) (rX.nil _) rfl (au _ lR),λfi=>bf fi an⟩
 have leaf:k4 kI X.dim k aK (cF.ins g z) (λ(x:o) (v:H)=>((¬(h7 q X.dim k aK=x))->K ao v)/\((h7 q X.dim k aK=x)->w0 ao v)):=
  am5 (aL.mono (h.le.trans lR)) ⟨λM=>bf rfl M,λ_=>aa7⟩
 refine⟨_,rfl,?_⟩
 repeat' (first|exact leaf|refine⟨_,bA,?_⟩|apply And.intro)
 intro w0 AJ
 refine Ul (az.le _ _ (bh _ _ _)) (aL.mono ((h1.le).trans az.le)) aa λz=>⟨λM=>bf rfl M,λ_=>?_⟩
 have lR:u.le (cF.ins g z):=λc x I=>by rw[bz _ _ (λe=>by rw[e,Z] at I;cases I)];exact(dN.trans az.le) c x I
 have h3:=h.mono lR
 have aaw:=h3.le
 obtain⟨cg,ag,b7⟩:=h3.tX.rows
 have bA:H.cell? (cF.ins g z) ⟨n,0,none⟩=some (.int .i64 X.dim):=aZ ag 0
 have Ij:iI u (cF.ins g z) aC ss a6 (iT X q k aK) (gv X q k aK) rest:=az.again dN lR λc x h1 h2=>by rw[bz _ _ (λe=>by rw[e,bh] at h1;cases h1)];exact h2
 obtain⟨aB,cB,cW,e7,fy⟩:=Cr.1 he
 obtain⟨_,_,uR,xL⟩:=n1 aB
 have uS:jx L q:=⟨xL,by rw[uR];exact h.ok⟩
 have azs:∀{v:H} {fB:ay->H->Prop} {aC ss a6:N} {rest:J b1},(cF.ins g z).le v->rX v aC ss a6 (iT X q k aK) (gv X q k aK) rest->rest.map b1.core=jF X q k aK->fB ai v->KG cg kI k aK aC ss a6 v fB:=λ{v fB aC ss a6 rest} hle U AM l7=>by obtain⟨s1,s2,k0⟩:=NE h.a1 he h.perm.symm uS AM;exact amQ (b7.mono hle) (aL.mono (aaw.trans hle)) uS cB U s1 (s1.af4 uS) s2 k0 l7
 have aa7:w0 ao (cF.ins g z):=by refine AJ ao _ ⟨λM=>bf rfl M,λ_=>⟨_,rfl,cg,aZ ag 1,azs (H.le.refl _) Ij.read U ⟨λM=>bf rfl M,λ_=>?_⟩⟩⟩;refine Uj h3.a1 jk (aL.mono aaw) (λan=>bf he an) λ_ BK adv Uq GB gq eB cU=>?_;refine am0 (Ij.mono eB.le).read eB.read (U.trans cU.symm) ?_;refine aCw (Ij.mono eB.le) (NE h.a1 he h.perm.symm uS U).1.co λq8 u5 au7=>⟨λ_=>?_,λe=>(by cases e)⟩;have atQ:=eB.else (u':=q8) λx cn aT aN=>au7 x cn aN λs ae cu=>Ij.known s ae x cu aT;have gA:=h.mono u5;obtain⟨aDZ,hY,my⟩:=gA.tX.rows;obtain⟨s1,s2,k0⟩:=NE h.a1 he h.perm.symm uS cU;exact⟨_,rfl,aDZ,aZ hY 1,amQ my (aL.mono gA.le) uS cB atQ s1 (s1.af4 uS) s2 k0 (au _ u5)⟩
 have leaf:k4 kI X.dim k aK (cF.ins g z) (λ(x:o) (v:H)=>((¬((0:o)=x))->K ao v)/\(((0:o)=x)->w0 ao v)):=by refine am5 (aL.mono aaw) ?_;rw[show(if gx q X.dim≠0 then gx q X.dim else if k<1∨64<k∨aK<0∨1000000<aK then 1 else 0)=0 from he];exact⟨λM=>bf rfl M,λ_=>aa7⟩
 refine⟨_,rfl,?_⟩
 repeat' (first|exact leaf|refine⟨_,bA,?_⟩|apply And.intro)
def acF(h:gD L d):∀p∈L.map ax.bn,1<=p.1/\p.1<=1000000000/\(p.2.length:o)=d/\cY p.2:=by intro p ad;obtain⟨r,U,rfl⟩:=bQ.1 ad;exact⟨(h.id r U).1,(h.id r U).2,h.v r U⟩
theorem anL(P:J vB)(id:o)(v:J o):(DT P id v).Perm ((id,v)::P.filter λp=>p.1 !=id):=by
 unfold DT;refine zJ.trans (j9 _ ?_);have aT:P.filter (λp=>decide (p.1<id))=(P.filter λp=>p.1 !=id).filter λp=>decide (p.1<id):=by
  rw[List.filter_filter];refine TN λp _=>?_;by_cases h:p.1<id
  grind
  simp[h]
 have aN:P.filter (λp=>decide (id<p.1))=(P.filter λp=>p.1 !=id).filter λp=>!decide (p.1<id):=by
  rw[List.filter_filter];refine TN λp _=>?_;by_cases h:id<p.1
  grind
  grind
 rw[aT,aN];exact List.filter_append_perm _ _
theorem ayC{id:o}{v:J o}{there:ay}{many:o}(h:eM id v d there many=0):1<=id/\id<=1000000000/\gx v d=0/\(there=ao->many<512):=by
 unfold eM at h
 grind
theorem arX{P:J vB}{id:o}(h:id∈P.map (·.1)):(P.filter λp=>p.1 !=id).length<P.length:=by
 simp_all
theorem aAC{eo:J ax}{id:o}(h:gD L d)(ad:eo.map ax.bn=DT (L.map ax.bn) id q)(b8:(eo.map (·.id)).Nodup)(he:eM id q d (decide (id∈L.map (·.id))) L.length=0):gD eo d:=by
 obtain⟨h1,h2,h3,br⟩:=ayC he;obtain⟨_,_,bL,gA⟩:=n1 h3;have gF:=anL (L.map ax.bn) id q;rw[<-ad] at gF;have hlen:eo.length<=512:=by
  have e:=gF.length_eq;simp only[eb,jq] at e;by_cases hm:id∈L.map (·.id);rw[mC] at hm;have:=arX hm;have aq:=h.len
  grind
  grind
 refine zP h.dim hlen b8 λp ad=>?_;rcases dM.1 (gF.mem_iff.1 ad) with rfl|ad
 grind
 exact acF h p (kZ.1 ad).1
def aAA{eo:J ax}{id:o}(h:gD L d)(ad:eo.map ax.bn=Kj (L.map ax.bn) id)(b8:(eo.map (·.id)).Nodup):gD eo d:=by
 have hlen:eo.length<=512:=by have e:=eI iY ad;have kP:=DE (λp:vB=>p.1 !=id) (L.map ax.bn);have aq:=h.len;unfold Kj at e;rw[eb] at e kP;omega
 refine zP h.dim hlen b8 λp fL=>?_;rw[ad] at fL;exact acF h p (kZ.1 fL).1
def pH.known{X:aU}(h:pH ub u D b X n L):∀c,D c->u c≠none:=h.a1.base.2.2
def aCC{X:aU}{z:qt}(h:pH ub u D b X n L)(jk:p6 X<=2700)(jS:lO ub)(aB:Ints ub z.rQ z.v)(aL:Ints ub z.kI z.q)(tv:z.v.length<=1000000)(aws:z.q.length<=1000000)
  (au:∀u' hK gE eo,pH ub u' hK b gE n eo->gE.dim=X.dim->gE.cm=X.cm->p6 gE<=p6 X+1->K ai u'):VR (some ⟨b,0,none⟩) (some ⟨n,0,none⟩) z.kind z.id z.k z.aK z.sF z.rQ z.kI u K:=by
 have fin:∀{c0:ay} {u'} {hK gE eo},c0=ai->pH ub u' hK b gE n eo->gE.dim=X.dim->gE.cm=X.cm->p6 gE<=p6 X+1->K c0 u':=λaa h1 h2 h3 br=>by rw[aa];exact au _ _ _ _ h1 h2 h3 br
 have cX:L.length<=1000000:=by have:=h.ok.len;omega
 apply aGz
 refine⟨λ_=>?_,λ_=>⟨λ_=>?_,λ_=>⟨λ_=>aCB h jk aL aws λu' kE=>au _ _ _ _ (h.mono kE) rfl rfl (Bv _),λ_=>am3 h λu' kE=>au _ _ _ _ (h.mono kE) rfl rfl (Bv _)⟩⟩⟩
 refine am1 (aB.mono h.le) tv λg Z=>?_
 have dN:u.le (u.ins g (Dh z.v)):=bX _ Z
 have h1:=h.mono dN
 have Y1:¬D g:=λav=>h.known g av Z
 have cC:ub g=none:=by
  cases M:ub g with
  |none=>rfl|some x=>have:=h.le _ _ M;rw[Z] at this;cases this
 have arp:decide (z.sF∈(bi X).map (·.1))=decide (z.sF∈L.map (·.id)):=BD.2 (h.ids z.sF)
 have arq:decide (z.sF∉(bi X).map (·.1))=decide (z.sF∉L.map (·.id)):=BD.2 (not_congr (h.ids z.sF))
 have agc:eM z.sF z.v X.dim (decide (z.sF∈(bi X).map (·.1))) (bi X).length=eM z.sF z.v X.dim (decide (z.sF∈L.map (·.id))) L.length:=by rw[arp,h.len]
 refine Ui h1.a1 jk jS (S1 (bh _ _ _) tv) (λb5 cu av=>by
  have:b5=g:=by simp[N.al] at cu;exact cu.symm
  exact Y1 (this▸av)) (λan=>?_) (λhe cF ud Ei EV ht ad rl sf gu=>?_)
 rw[agc] at an ⊢
 refine Ul (bh _ _ _) (aB.mono h1.le) tv λx=>?_
 have lR:u.le ((u.ins g (Dh z.v)).ins g x):=λc y I=>by rw[bz _ _ (λe=>by rw[e,Z] at I;cases I)];exact dN c y I
 have h3:=h.mono lR
 refine amZ h3.tX h3.known cX aB (λ_ u' c6 hk=>?_) (λhe=>bf he an)
 exact⟨λ_=>⟨λ_=>fin (jf rfl) ⟨h3.a1.same hk c6.le,c6,h.perm,h.ok⟩ rfl rfl (Bv _),λM=>bf rfl M⟩,λe=>(by cases e)⟩
 have Y3:cF g=some (Dh z.v):=ht.bO _ _ (bh _ _ _) Y1
 have auB:¬ud g:=λav=>by rcases ht.grow g av with bL|bL;exact Y1 bL;rw[bh] at bL;cases bL
 refine Ul Y3 (aB.mono EV.base.1) tv λx=>?_
 have t2:lN ub cF ud n X.dim L:=h1.tX.eJ ht
 have t3:lN ub (cF.ins g x) ud n X.dim L:=by obtain⟨gw,aT,aN,dG,gz,gI⟩:=h.tX.ex;have cB:=(h1.tX.eJ ht);obtain⟨cW,nP⟩:=ht.apart (aT.trans dN) aN;refine⟨gw,λc y I=>?_,nP,dG,gz,gI⟩;rw[bz _ _ (λe=>by have:=aT _ _ I;rw[e,Z] at this;cases this)];exact cW c y I
 have i3:ei ub (cF.ins g x) ud b Ei:=EV.same (λc y I av=>by rw[bz _ _ (λe=>auB (by rw[<-e];exact av))];exact I) t3.le
 refine amZ t3 i3.base.2.2 cX aB (λan=>bf (agc▸he) an) λfW u' eo c6 hk C9=>?_
 have gX:=aAC h.ok C9 c6.nodup fW
 have gF:(bi Ei).Perm (eo.map ax.bn):=by rw[C9];exact ad.trans ((j9 _ (h.perm.filter _)).trans (anL _ _ _).symm)
 rw[arq]
 exact⟨λ_=>⟨λ_=>fin (jf rfl) ⟨i3.same hk c6.le,rl▸c6,gF,rl▸gX⟩ rl sf gu,λM=>bf rfl M⟩,λe=>(by cases e)⟩
 refine ade h.a1 jk (λdR cF eZ=>?_) (λjD cF ud Ei EV ht ad rl sf gu=>?_)
 have h2:=h.mono eZ
 refine amY h2.tX h2.known cX (λ_ u' c6 hk=>?_) (λaj=>?_)
 exact⟨λ_=>fin (jf rfl) ⟨h2.a1.same hk c6.le,c6,h.perm,h.ok⟩ rfl rfl (Bv _),λM=>bf rfl M⟩
 obtain⟨r,U,he⟩:=aj
 exact bf ((h.ids z.id).2 (bQ.2 ⟨r,U,he⟩)) dR
 refine amY (h.tX.eJ ht) EV.base.2.2 cX (λdR=>?_) (λ_ u' eo c6 hk C9=>?_)
 obtain⟨r,U,he⟩:=bQ.1 ((h.ids z.id).1 jD)
 exact bf he (dR r U)
 have gF:(bi Ei).Perm (eo.map ax.bn):=by rw[C9,ad];exact h.perm.filter _
 exact⟨λ_=>fin (jf rfl) ⟨EV.same hk c6.le,rl▸c6,gF,rl▸aAA h.ok C9 c6.nodup⟩ rl sf (Nat.le_succ_of_le gu),λM=>bf rfl M⟩
def aAB(h:gD l d)(ad:(L.map ax.bn).Perm (l.map ax.bn)):gD L d:=by have hlen:=ad.length_eq;rw[eb,eb] at hlen;refine zP h.dim (by have:=h.len;omega) ?_ λp fL=>acF h p (ad.mem_iff.1 fL);rw[mC,(ad.map (·.1)).nodup_iff,<-mC];exact h.nodup
def aye{t:N}{ops:J qt}{dim A B E F seed:o}(jS:lO u)(I:aeX u s t l ops)(Yo:cE seed)(h:∀u',u.le u'->K ai u'):
  aeN s dim A B E F seed t u K:=by
 apply aGs
 refine aCz I ⟨λ_=>h u (H.le.refl u),λe=>(by cases e)⟩ λaq zb aB uZ=>⟨λe=>(by cases e),λ_=>?_⟩
 have aaj:=I.aDQ
 have aJK:=I.calls.len
 refine adb I.rows jS Yo (λan=>?_) (λhe b D X nt qF ad rl sf AS=>?_)
 intro r0 bL
 refine⟨λ_=>bL _ _ ⟨λ_=>am2 jS λo0 abn=>⟨λ_=>⟨λ_=>aCD (I.rows.mono abn) ?_,λM=>bf rfl M⟩,λe=>(by cases e)⟩,λe=>(by cases e)⟩,λfi=>bf fi an⟩
 exact(show ∀c0:ay,c0=ai->K c0 o0 from λc0 aa=>by rw[aa];exact h _ abn) _ (jf rfl)
 intro r0 bL
 refine⟨λM=>bf rfl M,λ_=>bL _ _ ⟨λht=>(by have:=BC ht;cases this),λ_=>?_⟩⟩
 have EX:=qF.base
 have gX:=axV he
 refine aCs EX.1 EX.2.1 EX.2.2 I.rows gX λn adQ L c6 hk C9=>?_
 have Us:pH u adQ D b X n L:=⟨qF.same hk c6.le,rl.symm▸c6,ad.trans C9.symm,rl.symm▸aAB gX C9⟩
 refine⟨λ_ x v=>0<=x/\∃D X L,pH u v D b X n L/\(p6 X:o)<=x,λ_ x _=>((t.n:o)-x).toNat,⟨by omega,D,X,L,Us,by omega⟩,λQz x v cv=>⟨λM=>?_,λM=>?_⟩⟩
 obtain⟨h0,D,X,L,c6,aI6⟩:=cv
 obtain⟨p,ad,z,_,mb,bA,c1,c2,fc,pM,qA,HD,_,_⟩:=(I.calls.mono c6.le).at h0 M
 refine⟨p,ad,⟨h0,M⟩,_,bA,_,c1,_,c2,_,fc,_,pM,_,qA,_,HD,?_⟩
 obtain⟨oh,awf⟩:=I.calls.2 z mb
 have aa:=uZ z mb
 refine aCC c6 (by omega) jS oh awf (by omega) (by omega) λu' hK gE eo bZ _ _ cu=>⟨λM=>bf rfl M,λ_=>⟨⟨by omega,by omega⟩,⟨by omega,hK,gE,eo,bZ,by omega⟩,by dsimp only;omega⟩⟩
 obtain⟨h0,D,X,L,c6,_⟩:=cv
 exact am2 (jS.mono c6.le) λadR akn=>⟨λ_=>am3 (c6.mono akn) λu32 ayb=>h _ ((c6.le.trans akn).trans ayb),λe=>(by cases e)⟩
end
