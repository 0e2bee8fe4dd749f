/- Texts of mine, joined and packed by pack.py. -/
import Derived.Test.YtejdhbfjjgcljaaGreatDoorMrd5
import Derived.Laws.IdiomCopy
set_option linter.all false
open _root_ renaming List->J,Nat->O,Array->cA,Int->o,Bool->ay,absurd->bf,Inhabited->lF
open Go renaming Program->dL,Value->ap,World->ci,Addr->a8,FuncId->j8,TypeId->dC,madeCells->mF
open Bool renaming true->ai,false->ao
open Go.Obj renaming cells->bt
open Go.IntKind renaming wrap->bS,u64->bu
open Go.Made renaming depth->tM
open Go.Instr renaming sliceAt->fZ,typeAssert->so
open Go.Builtin renaming append_->dO
open Go.Addr renaming add->er,mk->cp
open Go.Proofs.Tryz renaming prog->aH
open Go.Value renaming int->cN,oneCell'->cI
open Int renaming tdiv->ff
open List.Perm renaming cons->j9,trans->JQ
open List renaming zipWith->lX,replicate->fz,length->iY,flatMap->wC
set_option maxRecDepth 100000
noncomputable section
namespace Go.Proofs.YtejdhbfjjgcljaaGreatDoor
open H
section
variable{u:H}{g i c:O}{T:dC}{d q:J o}
def ae3{k:O}(hk:k<d.length):eQ (d.take (k+1))=eQ (d.take k)+d.getD k 0*eG k:=by rw[fN,Wx,iV,Oq (by omega),dj hk,jX,dj hk];simp[eQ,Int.mul_comm]
def ae2(av:∀x∈d,0<=x/\x<65536)(k:O):eQ (d.take k)<=eQ d:=by have h1:=Wx (d.take k) (d.drop k);rw[px] at h1;have h2:0<=eQ (d.drop k):=Cg λx M=>av x (tQ M);have h3:0<=eG (d.take k).length*eQ (d.drop k):=sy (by have:=wq (d.take k).length;omega) h2;omega
def ayM{x y:o}(M:0<=x/\x<65536)(aj:0<=y/\y<65536):0<=x*y/\x*y<=4294836225:=by refine⟨sy M.1 aj.1,?_⟩;have:=By (show x<=65535 by omega) (show y<=65535 by omega) aj.1 (by omega);omega
theorem aCF{a b:J o}{K:o->o->o->o->o->o->o->o->ay->H->Prop}(az:ra a)(aa:ra b)(ae:eQ a*eQ b<eG 8)
  (h:∀gO:J o,ra gO->eQ gO=eQ a*eQ b->K (gO.getD 0 0) (gO.getD 1 0) (gO.getD 2 0) (gO.getD 3 0) (gO.getD 4 0) (gO.getD 5 0) (gO.getD 6 0) (gO.getD 7 0) ao u):
  VU (a.getD 0 0) (a.getD 1 0) (a.getD 2 0) (a.getD 3 0) (a.getD 4 0) (a.getD 5 0) (a.getD 6 0) (a.getD 7 0) ao (b.getD 0 0) (b.getD 1 0) (b.getD 2 0) (b.getD 3 0) (b.getD 4 0) (b.getD 5 0) (b.getD 6 0) (b.getD 7 0) ao u K:=by
 refine hD.forget (ss:=[.agg [.int .i64,.int .i64,.int .i64,.int .i64,.int .i64,.int .i64,.int .i64,.int .i64,.bool]]) ?_
 apply aGE
 have HM:∀{d:J o},ra d->(#[cN .i64 (d.getD 0 0),.int .i64 (d.getD 1 0),.int .i64 (d.getD 2 0),.int .i64 (d.getD 3 0),.int .i64 (d.getD 4 0),.int .i64 (d.getD 5 0),.int .i64 (d.getD 6 0),.int .i64 (d.getD 7 0),.bool ao]:cA ap)=iH d:=λav=>by
  conv=>rhs;rw[Lb av.1]
  rfl
 rw[HM az,HM aa]
 intro n ag m hm
 have nJ:m≠n:=λe=>by rw[e,bh] at hm;cases hm
 have hle:u.le ((u.ins n (.cells (iH a) 155 (0,0))).ins m (.cells (iH b) 155 (0,0))):=(bX _ ag).trans (bX _ hm)
 have gf:∀(x:a8),x.block=n->((u.ins n (.cells (iH a) 155 (0,0))).ins m (.cells (iH b) 155 (0,0))).cell? x=(u.ins n (.cells (iH a) 155 (0,0))).cell? x:=λx M=>by unfold H.cell?;rw[M,bz _ _ (e3 nJ)]
 have yB:∀{i:o},0<=i->i<8->((u.ins n (.cells (iH a) 155 (0,0))).ins m (.cells (iH b) 155 (0,0))).cell? ((cp n 0 none).add (i.toNat*1))=some (.int .i64 (a.getD i.toNat 0)):=λh0 h1=>by rw[wz,ib,kY,gf _ rfl];exact zv az.1 (by omega)
 have l5:∀{i:o},0<=i->i<8->((u.ins n (.cells (iH a) 155 (0,0))).ins m (.cells (iH b) 155 (0,0))).cell? ((cp m 0 none).add (i.toNat*1))=some (.int .i64 (b.getD i.toNat 0)):=λh0 h1=>Td aa.1 h0 h1
 have tF:((u.ins n (.cells (iH a) 155 (0,0))).ins m (.cells (iH b) 155 (0,0))).cell? ((cp n 0 none).add 8)=some (.bool ao):=by rw[gf _ rfl];exact abK az.1
 have tG:((u.ins n (.cells (iH a) 155 (0,0))).ins m (.cells (iH b) 155 (0,0))).cell? ((cp m 0 none).add 8)=some (.bool ao):=abK aa.1
 generalize ((u.ins n (.cells (iH a) 155 (0,0))).ins m (.cells (iH b) 155 (0,0)))=cF at*
 intro ny oe
 refine⟨ao,tF,λe=>(by cases e),λ_=>⟨ao,tG,oe _ _ _ _ _ _ _ _ _ _ ?_⟩⟩
 refine⟨λi bK dr x2 j0 pD qo tZ Kp z w=>w=cF/\0<=i/\i<=8/\z=ao/\ra [bK,dr,x2,j0,pD,qo,tZ,Kp]/\eQ [bK,dr,x2,j0,pD,qo,tZ,Kp]=eQ (a.take i.toNat)*eQ b,λi _ _ _ _ _ _ _ _ _ _=>(8-i).toNat,
  ⟨rfl,by omega,by omega,rfl,⟨rfl,λx M=>by simp at M;omega⟩,by simp[eQ]⟩,?_⟩
 rintro i bK dr x2 j0 pD qo tZ Kp z w ⟨rfl,i0,i8,rfl,av,aB⟩
 refine⟨λhi=>?_,λhi=>⟨hle,?_⟩⟩
 refine⟨λk hJ ii jI o2 qp sM B3 Kq z w'=>w'=w/\0<=k/\k<=8/\z=ao/\ra [hJ,ii,jI,o2,qp,sM,B3,Kq]/\eQ [hJ,ii,jI,o2,qp,sM,B3,Kq]=eQ (a.take i.toNat)*eQ b+a.getD i.toNat 0*eG i.toNat*eQ (b.take k.toNat),λk _ _ _ _ _ _ _ _ _ _=>(8-k).toNat,
   ⟨rfl,by omega,by omega,rfl,av,by rw[aB];simp[eQ]⟩,?_⟩
 rintro k hJ ii jI o2 qp sM B3 Kq z w' ⟨rfl,iu,aKh,rfl,AO,p4⟩
 have auO:i.toNat<a.length:=by rw[az.1];omega
 have ahz:=az.get (i:=i.toNat) (by omega)
 have aT:=ae3 auO
 refine⟨λhk=>?_,λhk=>?_⟩
 have Mq:k.toNat<b.length:=by rw[aa.1];omega
 have LZ:=aa.get (i:=k.toNat) (by omega)
 have aN:=ae3 Mq
 have ad:=ayM ahz LZ
 have Rr:=wq i.toNat
 have aIU:=wq k.toNat
 have dG:eG (i+k).toNat=eG i.toNat*eG k.toNat:=by rw[<-N8];congr 1;omega
 have cH:=Cg aa.2
 have dN:eQ (b.take (k.toNat+1))<=eQ b:=ae2 aa.2 _
 have eZ:eQ (a.take (i.toNat+1))<=eQ a:=ae2 az.2 _
 have lR:a.getD i.toNat 0*eG i.toNat*eQ (b.take (k.toNat+1))<=a.getD i.toNat 0*eG i.toNat*eQ b:=DB dN (sy ahz.1 (by omega))
 have lS:eQ (a.take (i.toNat+1))*eQ b<=eQ a*eQ b:=JO eZ cH
 have aaf:eQ [hJ,ii,jI,o2,qp,sM,B3,Kq]+a.getD i.toNat 0*b.getD k.toNat 0*eG (i+k).toNat=eQ (a.take i.toNat)*eQ b+a.getD i.toNat 0*eG i.toNat*eQ (b.take (k.toNat+1)):=by
  rw[p4,aN,dG];generalize a.getD i.toNat 0=gU;generalize b.getD k.toNat 0=du;generalize eG i.toNat=nU;generalize eG k.toNat=tH;generalize eQ (b.take k.toNat)=vd
  grind
 have bP:eQ [hJ,ii,jI,o2,qp,sM,B3,Kq]+a.getD i.toNat 0*b.getD k.toNat 0*eG (i+k).toNat<eG 8:=by rw[aaf];rw[aT,Int.add_mul] at lS;omega
 refine⟨by decide,⟨i0,hi⟩,by decide,⟨iu,hk⟩,_,yB i0 hi,_,l5 iu hk,⟨by omega,by omega⟩,?_⟩
 intro apd asr
 have SO:∀c0:ay,c0=ao->apd c0 w':=λc0 nG=>by rw[nG];refine asr ao w' ⟨λe=>(by cases e),λ_=>⟨⟨by omega,by omega⟩,?_⟩⟩;refine aCH (d:=[hJ,ii,jI,o2,qp,sM,B3,Kq]) AO (by omega) (by omega) ad.1 (by omega) (λ_=>bP) λgO qI gS=>⟨⟨by omega,by omega⟩,⟨rfl,by omega,by omega,rfl,?_,?_⟩,by dsimp only;omega⟩;rw[<-Lb qI.1];exact qI;rw[<-Lb qI.1,gS,aaf,show(k+1).toNat=k.toNat+1 by omega]
 refine⟨λoi=>⟨⟨by omega,by omega⟩,SO _ (q0 λmx=>?_)⟩,λ_=>SO _ rfl⟩
 have h1:=Cg AO.2
 have h2:eG (i+k).toNat=eG ((i+k).toNat-8)*eG 8:=by rw[<-N8];congr 1;omega
 have h3:=wq ((i+k).toNat-8)
 have br:=wq 8
 have bL:eG 8<=eG ((i+k).toNat-8)*eG 8:=by have:=JO h3 (by omega:0<=eG 8);omega
 have gA:eG (i+k).toNat<=a.getD i.toNat 0*b.getD k.toNat 0*eG (i+k).toNat:=by have:=JO (show 1<=a.getD i.toNat 0*b.getD k.toNat 0 by omega) (show 0<=eG (i+k).toNat by omega);omega
 omega
 have ht:b.take 8=b:=gC (by rw[aa.1];omega)
 rw[show k.toNat=8 by omega,ht] at p4
 refine⟨⟨by omega,by omega⟩,⟨rfl,by omega,by omega,rfl,AO,?_⟩,by dsimp only;omega⟩
 rw[p4,show(i+1).toNat=i.toNat+1 by omega,aT,Int.add_mul]
 rw[show i.toNat=8 by omega,gC (by rw[az.1];omega)] at aB
 exact h _ av aB
theorem aCG{K:o->o->H->Prop}(av:ra d)(h:K (eQ (d.drop 4)) (eQ (d.take 4)) u):
  VV (d.getD 0 0) (d.getD 1 0) (d.getD 2 0) (d.getD 3 0) (d.getD 4 0) (d.getD 5 0) (d.getD 6 0) (d.getD 7 0) ao u K:=by
 refine hD.forget (ss:=[.agg [.int .u64,.int .u64]]) ?_
 apply aGF
 have HM:(#[cN .i64 (d.getD 0 0),.int .i64 (d.getD 1 0),.int .i64 (d.getD 2 0),.int .i64 (d.getD 3 0),.int .i64 (d.getD 4 0),.int .i64 (d.getD 5 0),.int .i64 (d.getD 6 0),.int .i64 (d.getD 7 0),.bool ao]:cA ap)=iH d:=by
  conv=>rhs;rw[Lb av.1]
  rfl
 rw[HM]
 intro n ag
 refine⟨λi x y w=>w=u.ins n (.cells (iH d) 155 (0,0))/\ -1<=i/\i<=3/\x=eQ ((d.drop 4).drop (i+1).toNat)/\y=eQ ((d.take 4).drop (i+1).toNat),λi _ _ _=>(i+1).toNat,
  ⟨rfl,by omega,by omega,?_,?_⟩,?_⟩
 rw[show(3+1:o).toNat=4 from rfl,vi (by rw[rO,av.1];omega)];rfl
 rw[show(3+1:o).toNat=4 from rfl,vi (by grind)];rfl
 rintro i x y w ⟨rfl,i0,i3,M,aj⟩
 refine⟨λhi=>?_,λhi=>⟨bX _ ag,?_⟩⟩
 have g1:=av.get (i:=i.toNat) (by omega)
 have g2:=av.get (i:=(4+i).toNat) (by omega)
 have oG:0<=x/\x<281474976710656:=by
  rw[M];have hm:∀W∈(d.drop 4).drop (i+1).toNat,0<=W/\W<65536:=λW aE=>av.2 W (tQ (tQ aE));refine⟨Cg hm,?_⟩;have h1:=Wy hm;rw[rO,rO,av.1] at h1;have h2:eG (8-4-(i+1).toNat)*eG ((i+1).toNat-1)=eG 3:=by rw[<-N8];congr 1;omega
  have h3:=wq ((i+1).toNat-1);have br:=wq (8-4-(i+1).toNat);have bL:eG (8-4-(i+1).toNat)<=eG 3:=by have:=DB h3 (show 0<=eG (8-4-(i+1).toNat) by omega);omega
  have gA:eG 3=281474976710656:=by decide
  omega
 have aIp:0<=y/\y<281474976710656:=by
  rw[aj];have hm:∀W∈(d.take 4).drop (i+1).toNat,0<=W/\W<65536:=λW aE=>av.2 W (oW (tQ aE));refine⟨Cg hm,?_⟩;have h1:=Wy hm;rw[rO,iV,av.1] at h1;have h2:eG (min 4 8-(i+1).toNat)*eG ((i+1).toNat-1)=eG 3:=by rw[<-N8];congr 1;omega
  have h3:=wq ((i+1).toNat-1);have br:=wq (min 4 8-(i+1).toNat);have bL:eG (min 4 8-(i+1).toNat)<=eG 3:=by have:=DB h3 (show 0<=eG (min 4 8-(i+1).toNat) by omega);omega
  have gA:eG 3=281474976710656:=by decide
  omega
 have aIz:eQ ((d.drop 4).drop i.toNat)=d.getD (4+i).toNat 0+65536*x:=by
  have aq:i.toNat<(d.drop 4).length:=by rw[rO,av.1];omega
  rw[qV aq,M,show(i+1).toNat=i.toNat+1 by omega];simp only[eQ,TJ];rw[jX,dj (by rw[av.1];omega)];simp only[show(4+i).toNat=4+i.toNat by omega];rfl
 have aIA:eQ ((d.take 4).drop i.toNat)=d.getD i.toNat 0+65536*y:=by
  have aq:i.toNat<(d.take 4).length:=by rw[iV,av.1];omega
  rw[qV aq,aj,show(i+1).toNat=i.toNat+1 by omega];simp only[eQ,JP];rw[jX,dj (by rw[av.1];omega)];rfl
 have e5:bu.wrap ((bu.wrap (65536*x))+(bu.wrap (d.getD (4+i).toNat 0)))=65536*x+d.getD (4+i).toNat 0:=by rw[ox (65536*x) (by omega),ox (d.getD (4+i).toNat 0) (by omega),ox _ (by omega)]
 have dF:bu.wrap ((bu.wrap (65536*y))+(bu.wrap (d.getD i.toNat 0)))=65536*y+d.getD i.toNat 0:=by rw[ox (65536*y) (by omega),ox (d.getD i.toNat 0) (by omega),ox _ (by omega)]
 refine⟨by decide,⟨hi,by omega⟩,_,Td av.1 hi (by omega),⟨by omega,by omega⟩,by decide,⟨by omega,by omega⟩,_,Td av.1 (i:=4+i) (by omega) (by omega),⟨by omega,by omega⟩,?_⟩
 rw[e5,dF]
 refine⟨⟨rfl,by omega,by omega,?_,?_⟩,by dsimp only;omega⟩
 grind
 grind
 rw[show(i+1).toNat=0 by omega,DA] at M aj
 rw[M,aj]
 exact h
theorem adl{a b:o}{K:o->o->H->Prop}(az:cE a)(aa:cE b)(h:K (cQ (a*b)) (cS (a*b)) u):KB a b u K:=by
 apply aGD;have W:cE 0:=⟨by omega,by omega⟩;have ai4:∀x:o,cE x->eQ [gP x 0,gP x 1,gP x 2,gP x 3,gP 0 0,gP 0 1,gP 0 2,gP 0 3]=x:=λx M=>by simp only[eQ,cE,gP,Nat.reducePow] at*;omega
 have YK:∀x:o,ra [gP x 0,gP x 1,gP x 2,gP x 3,gP 0 0,gP 0 1,gP 0 2,gP 0 3]:=λx=>⟨rfl,λy aj=>by simp only[dM,qX,qY] at aj;rcases aj with rfl|rfl|rfl|rfl|rfl|rfl|rfl|rfl<;>exact aq1 _ _⟩
 have mx:eG 8=340282366920938463463374607431768211456:=by decide
 have br:eG 4=18446744073709551616:=by decide
 have LV:0<=a*b/\a*b<eG 8:=by
  refine⟨sy az.1 aa.1,?_⟩;have h1:a<=18446744073709551615:=by have:=az.2;omega
  have h2:b<=18446744073709551615:=by have:=aa.2;omega
  have:=By h1 h2 aa.1 (by omega);rw[mx];omega
 refine Un W az (Un W aa ?_);refine aCF (a:=[gP a 0,gP a 1,gP a 2,gP a 3,gP 0 0,gP 0 1,gP 0 2,gP 0 3]) (b:=[gP b 0,gP b 1,gP b 2,gP b 3,gP 0 0,gP 0 1,gP 0 2,gP 0 3]) (YK a) (YK b) (by grind) λd av aB=>?_;rw[ai4 a az,ai4 b aa] at aB;refine aCG av ?_;have e:=Wx (d.take 4) (d.drop 4);rw[px,iV,av.1,show min 4 8=4 from rfl,aB,br] at e;have m1:∀W∈d.take 4,0<=W/\W<65536:=λW aE=>av.2 W (oW aE);have e7:=Cg m1;have fy:=Wy m1;rw[iV,av.1,show min 4 8=4 from rfl,br] at fy;have aT:eQ (d.drop 4)=cQ (a*b):=by unfold cQ;omega
 have aN:eQ (d.take 4)=cS (a*b):=by unfold cS;omega
 rw[aT,aN];exact h
section
variable {α:Type} {enc:α->J ap} {k:O}
theorem Dj(hk:∀x,(enc x).length=k)(rn:0<k)(a:α)(m:O):(mF (enc a).toArray (m*k)).toList=(fz m a).flatMap enc:=by
 apply sr;intro i;by_cases hi:i<m*k
 .have e:i=i/k*k+i%k:=by rw[Nat.mul_comm];exact(Nat.div_add_mod i k).symm
  have hm:i%k<k:=Gr _ rn;have av:i/k<m:=Nat.div_lt_of_lt_mul (by grind);have U:((fz m a).flatMap enc)[i]?=(enc a)[i%k]?:=by
   conv=>lhs;rw[e]
   rw[EF hk _ _ _ hm,Ot,b3 av];rfl
  rw[U];have pX:i%k<(enc a).length:=by rw[hk];exact hm
  simp[mF,hi,hk,hm]
 rw[wx (by simp[size_madeCells];omega),wx (by rw[oc hk];simp;omega)]
def zy(enc:α->J ap)(xs:J α)(T:dC):Obj:=.cells (xs.flatMap enc).toArray T (0,0)
theorem aqE(hk:∀x,(enc x).length=k){xs:J α}(Z:u g=some (zy enc xs T)){j:O}{x:α}{v:ap}(hi:xs[i]?=some x)(aP:(enc x)[j]?=some v):
  u.cell? (((cp g 0 none).add (i*k)).add j)=some v:=by
 have Fb:j<k:=by grind
 rw[Addr.w4,ib,kY,aZ Z]
 rw[List.getElem?_toArray,EF hk xs i j Fb,hi]
 exact aP
def afK(hk:∀x,(enc x).length=k){xs:J α}(Z:u g=some (zy enc xs T)){x:α}{v:ap}(hi:xs[i]?=some x)(aP:(enc x)[0]?=some v):
  u.cell? ((cp g 0 none).add (i*k))=some v:=aqE hk Z hi aP
def ano(hk:∀x,(enc x).length=k){xs:J α}(Z:u g=some (zy enc xs T))(hi:i<xs.length){y:α}(h1:∀v∈enc y,v.oneCell'=ai){f:H->Prop}
  (ab:f (u.ins g (zy enc (xs.set i y) T))):H.aM u ((cp g 0 none).add (i*k)) (enc y) f:=by
 have Yv:(⟨g,0,none⟩:a8).add (i*k)=⟨g,i*k,none⟩:=by rw[ib,kY]
 rw[Yv]
 have hle:i*k+k<=xs.length*k:=by
  calc i*k+k=(i+1)*k:=by rw[Nat.succ_mul]
   _<=xs.length*k:=tO _ hi
 have dm:i*k+(enc y).length<=((xs.flatMap enc).toArray).size:=by rw[hk];simpa[oc hk] using hle
 refine⟨_,T,Z,rfl,dm,h1,?_⟩
 have:wr (xs.flatMap enc).toArray (i*k) (enc y)=((xs.set i y).flatMap enc).toArray:=by apply TD;rw[Hc _ _ _ dm,agE hk xs i y hi,hk]
 show f (u.ins g (.cells (wr (xs.flatMap enc).toArray (i*k) (enc y)) T (0,0)))
 rw[this]
 exact ab
def agD(hk:∀x,(enc x).length=k){xs eK:J α}(Z:u g=some (zy enc (xs++eK) T))(I:xs.length<=c)(hm:c<=9223372036854775807):
  bw u ⟨some ⟨g,0,none⟩,xs.length,c⟩ k (xs.flatMap enc):=by
 refine⟨oc hk xs,I,hm,.inr ⟨_,rfl,λi v e=>?_⟩⟩
 rw[ib,kY,aZ Z,List.getElem?_toArray,hb,Gi ((hG.1 e).1)]
 exact e
end
theorem H.NC{z:Obj}(h:u g=some z):u.ins g z=u:=by
 funext x;unfold H.ins
 grind
theorem aA7{P:dL}{QQ acP fq e:dC}{bytes:O}{zs:J ap}(aV:ku P QQ=some (e,1,bytes,zs)){n:O}{cur:cA ap}{x:N}{eK:J ap}
  (Z:u g=some (.cells cur T (0,0))) (M:bw u x 1 eK) (h1:∀y∈eK,y.oneCell'=ai) (ag:x.n<=n) (I:n<=cur.size) {K:o->H->Prop}
  (au:K x.n (u.ins g (.cells (eK++cur.toList.drop x.n).toArray T (0,0)))):
  c7 P (Builtin.copy_ #[QQ,acP] fq #[.slice (some ⟨g,0,none⟩) n c,.slice x.a x.n x.c]) [.one (.int .i64)] u K:=by
 obtain⟨ht,i,W,hi,aE,pg,xj,zg,xN⟩:=uu aV
 have hlen:eK.length=x.n:=by have:=M.len;simpa using this
 have ae:(P.info? e).map (·.size)=some 1:=by rw[hi];simp[pg]
 rcases M.at' with h0|⟨p,ad,gf⟩
 subst h0
 have tw:x.n=0:=by simpa using hlen.symm
 have aT:u.ins g (.cells (([]:J ap)++cur.toList.drop x.n).toArray T (0,0))=u:=by rw[tw];exact H.NC (by rw[Z];simp)
 rw[aT] at au
 refine .Dq (c:=.int .i64) (x.n:o) (λw hw=>?_) au
 rw[run_copy_none w QQ acP fq e _ _ n c x.n x.c ht ae (by grind),tw]
 rfl
 refine .one (c:=.int .i64) λw hw=>⟨(x.n:o),_,_,?_,au,anw hw Z _⟩
 rw[ad,run_copy_row P w QQ acP fq e g 0 n c p x.n x.c cur T eK ht ae (hw _ _ Z) (by grind) (λj v aP=>hw.cell (gf j v aP)) (by omega) h1,hlen]
 simp only[kY,TC,mm]
 rfl
abbrev Dh(q:J o):Obj:=zy encI (q++ [-77]) 3
def S1(h:u g=some (Dh q))(aa:q.length<=1000000):Ints u ⟨some ⟨g,0,none⟩,q.length,q.length+1⟩ q:=by have:=agD j4 h (c:=q.length+1) (by omega) (by omega);rw[r3] at this;exact this
def azL(g n c:O)(size:O)(I:0<c):N.part ⟨some ⟨g,0,none⟩,c,c⟩ 0 n c size=⟨some ⟨g,0,none⟩,n,c⟩:=by simp only[N.part,zI,JD];rw[bF (by omega)];rfl
def azJ(g n c:O)(size:O)(I:0<c):N.part ⟨some ⟨g,0,none⟩,n,c⟩ 0 c c size=⟨some ⟨g,0,none⟩,c,c⟩:=by simp only[N.part,zI,JD];rw[bF (by omega)];rfl
theorem am1{s:N}{K:N->H->Prop}(ae:Ints u s q)(aa:q.length<=1000000)
  (au:∀g,u g=none->K ⟨some ⟨g,0,none⟩,q.length,q.length+1⟩ (u.ins g (Dh q))):P7 s u K:=by
 have ag:=ae.len
 have aT:((s.n:o)+1).toNat=q.length+1:=by omega
 apply aGm
 refine⟨⟨by omega,by omega⟩,J7 kK (by omega) (ps _) (by omega) (by omega) λg Z=>?_⟩
 rw[aT]
 have fS:bw (u.ins g (.cells (mF [cN .i64 0].toArray ((q.length+1)*1)) 3 (0,0))) s 1 (q.flatMap encI):=by rw[r3];exact ae.mono (bX _ Z)
 refine aA7 kK (bh _ _ _) fS (λy aj=>?_) (by grind) (by rw[size_madeCells];grind) ?_
 obtain⟨h,_,aj⟩:=eA.1 aj
 exact s4 h y aj
 rw[FN]
 have uK:=Dj j4 (by decide) 0 (q.length+1)
 have avv:(mF [cN .i64 0].toArray ((q.length+1)*1)).toList=(fz (q.length+1) 0).flatMap encI:=uK
 have awa:bt (q.flatMap encI++(mF [cN .i64 0].toArray ((q.length+1)*1)).toList.drop s.n).toArray 3 (0,0)=zy encI (q++ [0]) 3:=by rw[avv,ag];have:=Q5 j4 (fz (q.length+1) 0) q.length;rw[wz] at this;rw[this,List.drop_replicate,<-hb];simp[zy,show q.length+1-q.length=1 by omega]
 rw[awa]
 refine⟨_,rfl,⟨by omega,by grind⟩,?_⟩
 unfold aG
 rw[show(s.n:o).toNat=q.length by omega]
 refine ano (y:= -77) j4 (bh _ _ _) (by simp) (s4 _) ?_
 rw[FN,List.set_append_right _ _ (cw _),To,TH]
 refine kJ (s:=⟨some ⟨g,0,none⟩,q.length+1,q.length+1⟩) (l:=0) (h:=q.length) (m:=q.length+1) kK (.inl ⟨rfl,rfl⟩) (.inr (by rw[ag])) (.inl ⟨rfl,rfl⟩) (pu _) (by omega) (cw _) (cw _) ?_
 rw[azL _ _ _ _ (by omega)]
 exact au g Z
theorem Kd{s t:N}{a b:J o}{K:ay->H->Prop}(ae:Ints u s a)(ht:Ints u t b)(h:K (decide (a=b)) u):B8 s t u K:=by
 have key:∀W,decide (a=b)=W->K W u:=λW e=>e▸h;have ag:=ae.len;have hm:=ht.len;have tk:=ae.max;apply aGl;refine⟨λan=>key _ ?_,λhe=>?_⟩
 grind
 refine⟨λ_ i v=>v=u/\0<=i/\i<=(s.n:o)/\a.take i.toNat=b.take i.toNat,λ_ i _=>s.n-i.toNat,⟨rfl,by omega,by omega,by simp⟩,?_⟩;rintro _ i v ⟨rfl,h0,h1,ad⟩;refine⟨λhi=>?_,λhi=>key _ ?_⟩;obtain⟨p,ft,bA⟩:=ae.at h0 hi;obtain⟨q,xE,d0⟩:=ht.at h0 (show i<(t.n:o) by omega);have axI:i.toNat<a.length:=by omega
 have axJ:i.toNat<b.length:=by omega
 have XC:a.getD i.toNat 0=a[i.toNat]:=by grind
 have XD:b.getD i.toNat 0=b[i.toNat]:=by grind
 refine⟨p,ft,⟨h0,hi⟩,q,xE,⟨h0,by omega⟩,_,bA,_,d0,λan=>key _ ?_,λir=>⟨⟨by omega,by omega⟩,⟨rfl,by omega,by omega,?_⟩,by dsimp only;omega⟩⟩
 grind
 rw[XC,XD] at ir;have aT:(i+1).toNat=i.toNat+1:=by omega
 rw[aT,fN,fN,ad,dj axI,dj axJ,ir];have aT:i.toNat=a.length:=by omega
 grind
def Ul{t:N}{K:ay->H->Prop}(Z:u g=some (Dh q))(ht:Ints u t q)(aa:q.length<=1000000)
  (au:∀z,K ai (u.ins g z)):P6 ⟨some ⟨g,0,none⟩,q.length,q.length+1⟩ t u K:=by
 have ag:=ht.len
 have aT:(t.n:o)+1=((q.length+1:O):o):=by omega
 have p0:∀{fB:N->H->Prop},fB ⟨some ⟨g,0,none⟩,q.length+1,q.length+1⟩ u->c7 aH (fZ 30 (.slice (some ⟨g,0,none⟩) q.length (q.length+1)) none (some (.int .i64 ((t.n:o)+1))) none) [.one .slice] u fB:=λl7=>by rw[aT];refine kJ (s:=⟨some ⟨g,0,none⟩,q.length,q.length+1⟩) (l:=0) (h:=q.length+1) (m:=q.length+1) kK (.inl ⟨rfl,rfl⟩) (.inr rfl) (.inl ⟨rfl,rfl⟩) (pu _) (cw _) (cw _) (Bv _) ?_;rw[azJ _ _ _ _ (by omega)];exact l7
 apply aGj
 intro iK iM
 refine Kd (S1 Z aa) ht ?_
 rw[jf rfl]
 refine⟨λ_=>⟨⟨by omega,by omega⟩,p0 ⟨_,rfl,⟨by omega,by dsimp only;omega⟩,-77,?_,iM _ _ ?_⟩⟩,λaa=>by cases aa⟩
 unfold aG
 rw[show(t.n:o).toNat=q.length by omega]
 exact afK (x:= -77) j4 Z (by simp) rfl
 rw[jf rfl]
 refine⟨⟨by omega,by omega⟩,p0 ?_⟩
 refine⟨λx v=>0<=x/\∃L:J o,L.length=q.length+1/\v=u.ins g (zy encI L 3),λx _=>q.length+1-x.toNat,⟨by omega,_,by simp,(H.NC Z).symm⟩,?_⟩
 rintro x v ⟨bK,L,cX,rfl⟩
 refine⟨λM=>?_,λ_=>au _⟩
 have gn:x<((q.length+1:O):o):=M
 have eY:x.toNat<L.length:=by omega
 refine⟨_,rfl,⟨bK,M⟩,L[x.toNat],afK j4 (bh _ _ _) (dj eY) rfl,_,rfl,⟨bK,M⟩,ano (y:=Go.bits Go.BinOp.xor Go.IntKind.i64 L[x.toNat] 85) j4 (bh _ _ _) eY (s4 _) ⟨⟨by omega,by omega⟩,⟨by omega,_,?_,FN _ _ _ _⟩,by dsimp only;omega⟩⟩
 simpa using cX
def ax.bn(r:ax):o×J o:=(r.id,r.v)
abbrev aAJ(ls:J ax):Obj:=zy cJ ls 52
structure KV(ak u:H)(g:O)(ls:J ax):Prop where
 inner:∀r∈ls,∃h,r.s=⟨some ⟨h,0,none⟩,r.v.length,r.v.length+1⟩/\u h=some (Dh r.v)/\ak h=none/\h≠g/\r.v.length<=1000000
 apart:ls.Pairwise λa b=>a.s.al≠b.s.al
theorem KV.else{ak u':H}{ls:J ax}(h:KV ak u g ls)(he:∀b z,b≠g->u b=some z->u' b=some z):KV ak u' g ls:=
 ⟨λr U=>by obtain⟨x,h1,h2,h3,br,bL⟩:=h.inner r U;grind,h.apart⟩
def KV.rws{ak:H}{ls ms:J ax}(h:KV ak u g ls)(Z:u g=some (aAJ (ls++ms)))(I:ls.length<=c)(hm:c<=9223372036854775807):dU u ⟨some ⟨g,0,none⟩,ls.length,c⟩ ls:=
 ⟨agD fO Z I hm,λr U=>by obtain⟨x,h1,h2,_,_,bL⟩:=h.inner r U;rw[h1];exact S1 h2 bL⟩
end
section
variable{u ak u' v v0:H}{q seen a b L:J o}{eE:J bN}{ss a6 t:N}{K:ay->H->Prop}{k x d y w:o}{P:dL}{xs:J ap}{n e:O}{D:J N}{f:j8}{fv:ap}
def Hw(l:J o):Prop:=l.Pairwise (· <=·)
def Ak(l:J o):Prop:=l.Pairwise (· < ·)
def ns(l:J o):(cR l).Perm l:=List.mergeSort_perm l _
def Ue(l:J o):Hw (cR l):=by have:=List.pairwise_mergeSort (le:=λx y:o=>decide (x<=y)) (λa b c h1 h2=>by simp at*;omega) (λa b=>by simp;omega) l;exact this.imp λh=>by simpa using h
def yi(l:J o):(cR l).length=l.length:=(ns l).length_eq
theorem Hw.eq(az:Hw a)(aa:Hw b)(h:a.Perm b):a=b:=by
 induction a generalizing b with
 |nil=>simp_all|cons x a aW=>
  cases b with
  |nil=>simp_all|cons y b=>
   have Bg:=ix.1 az;have axy:=ix.1 aa;have ir:x=y:=by
    have h1:x∈y::b:=h.mem_iff.1 (ik ..);have h2:y∈x::a:=h.mem_iff.2 (ik ..);rcases dM.1 h1 with e|h1;exact e
    grind
   subst ir;rw[aW Bg.2 axy.2 (List.Perm.cons_inv h)]
def ac2(h:a.Perm b)(az:Hw a):a=cR b:=az.eq (Ue b) (h.trans (ns b).symm)
def O9(h:a.Perm b):cR a=cR b:=ac2 ((ns a).trans h) (Ue a)
def aKR(h:Hw a):cR a=a:=(ac2 (.refl a) h).symm
def DN{l:J o}(h:l.Nodup):Ak (cR l):=by have h1:=Ue l;have h2:(cR l).Nodup:=(ns l).nodup_iff.2 h;exact(h1.and h2).imp λ⟨a,b⟩=>by omega
theorem aBt{k:O}(hk:k<=(cR L).length)(h1:∀y∈(cR L).take k,y<x)(h2:∀y,(cR L)[k]?=some y->x<=y):(cR L).take k++x::(cR L).drop k=cR (x::L):=by
 have ae:=Ue L;refine ac2 ?_ ?_;refine(zJ).trans (j9 x ?_);rw[px];exact ns L;have fS:=ae;rw[<-px k (cR L)] at fS;have⟨az,aa,LV⟩:=tP.1 fS;have axt:∀y∈(cR L).drop k,x<=y:=by
  intro y aj;cases av:(cR L).drop k with
  |nil=>rw[av] at aj;cases aj
  |cons W r=>
   have aE:(cR L)[k]?=some W:=by
    have:((cR L).drop k)[0]?=some W:=by rw[av];rfl
    rw[Jx] at this;exact this
   have:=h2 W aE;rw[av] at aj aa;rcases dM.1 aj with rfl|aj;exact this;have:=(ix.1 aa).1 y aj;omega
 refine tP.2 ⟨az,ix.2 ⟨axt,aa⟩,λa Rz b nG=>?_⟩
 grind
theorem alR{l a b:J ax}(aq:(l.map (·.id)).Nodup)(az:∀r∈a,r∈l)(aa:∀r∈b,r∈l)(h:(a.map (·.id)).Perm (b.map (·.id))):a.Perm b:=by
 have inj:∀{l:J ax},(l.map (·.id)).Nodup->∀r∈l,∀cx∈l,r.id=cx.id->r=cx:=by
  intro l;induction l with
  |nil=>intro _ r U;cases U
  |cons x l aW=>
   grind
 let f:o->ax:=λx=>(l.find? λr=>r.id==x).getD ⟨0,⟨none,0,0⟩,[]⟩
 have ab:∀r∈l,f r.id=r:=by
  intro r U;show(l.find? λcx=>cx.id==r.id).getD _=r;cases CV:l.find? λcx=>cx.id==r.id with
  |none=>grind|some cx=>
   grind
 have hm:∀{c:J ax},(∀r∈c,r∈l)->(c.map (·.id)).map f=c:=by
  intro c I;rw[e4]
  conv=>rhs;rw[<-List.map_id c]
  exact zK λr U=>ab r (I r U)
 have:=h.map f
 simp_all
theorem ar5{f:o->o->o}(ab:∀a x,(f a x<=a/\f a x<=x/\(f a x=a∨f a x=x))):∀(l:J ax) (a:J o) (n:O),a.length=n->(∀r∈l,r.v.length=n)->
  (l.foldl (λacc r=>lX f acc r.v) a).length=n/\(∀i,i<n->(l.foldl (λacc r=>lX f acc r.v) a).getD i 0<=a.getD i 0/\(∀r∈l,(l.foldl (λacc r=>lX f acc r.v) a).getD i 0<=r.v.getD i 0)/\
   ((l.foldl (λacc r=>lX f acc r.v) a).getD i 0=a.getD i 0∨∃r∈l,(l.foldl (λacc r=>lX f acc r.v) a).getD i 0=r.v.getD i 0)):=by
 intro l
 induction l with
 |nil=>grind
 |cons r l aW=>
  intro a n az aq;have U:=aq r (by simp);have aE:(lX f a r.v).length=n:=by grind
  obtain⟨h1,h2⟩:=aW (lX f a r.v) n aE λx M=>aq x (by simp[M]);rw[Ou];refine⟨h1,λi hi=>?_⟩;have u1:(lX f a r.v).getD i 0=f (a.getD i 0) (r.v.getD i 0):=by grind
  obtain⟨g1,g2,g3⟩:=h2 i hi;obtain⟨f1,f2,f3⟩:=ab (a.getD i 0) (r.v.getD i 0);rw[u1] at g1 g3;refine⟨by omega,λx M=>?_,?_⟩;rcases dM.1 M with rfl|M;omega;exact g2 x M;rcases g3 with g3|⟨x,M,g3⟩;rcases f3 with f3|f3;exact .inl (by rw[g3,f3]);exact .inr ⟨r,by simp,by rw[g3,f3]⟩;exact .inr ⟨x,by simp[M],g3⟩
theorem ar6{f:o->o->o}(ab:∀a x,(a<=f a x/\x<=f a x/\(f a x=a∨f a x=x))):∀(l:J ax) (a:J o) (n:O),a.length=n->(∀r∈l,r.v.length=n)->
  (l.foldl (λacc r=>lX f acc r.v) a).length=n/\(∀i,i<n->a.getD i 0<=(l.foldl (λacc r=>lX f acc r.v) a).getD i 0/\(∀r∈l,r.v.getD i 0<=(l.foldl (λacc r=>lX f acc r.v) a).getD i 0)/\
   ((l.foldl (λacc r=>lX f acc r.v) a).getD i 0=a.getD i 0∨∃r∈l,(l.foldl (λacc r=>lX f acc r.v) a).getD i 0=r.v.getD i 0)):=by
 intro l
 induction l with
 |nil=>grind
 |cons r l aW=>
  intro a n az aq;have U:=aq r (by simp);have aE:(lX f a r.v).length=n:=by grind
  obtain⟨h1,h2⟩:=aW (lX f a r.v) n aE λx M=>aq x (by simp[M]);rw[Ou];refine⟨h1,λi hi=>?_⟩;have u1:(lX f a r.v).getD i 0=f (a.getD i 0) (r.v.getD i 0):=by grind
  obtain⟨g1,g2,g3⟩:=h2 i hi;obtain⟨f1,f2,f3⟩:=ab (a.getD i 0) (r.v.getD i 0);rw[u1] at g1 g3
  grind
theorem afv{l:J ax}(h:gD l d)(an:l≠[]):((mZ l).length:o)=d/\((mY l).length:o)=d/\cY (mZ l)/\cY (mY l)/\(∀i:O,(i:o)<d->(mZ l).getD i 0<=(mY l).getD i 0)/\
  ∀r∈l,∀i:O,(i:o)<d->(mZ l).getD i 0<=r.v.getD i 0/\r.v.getD i 0<=(mY l).getD i 0:=by
 obtain⟨x,bH,rfl⟩:∃x bH,l=x::bH:=by
  cases l with
  |nil=>exact bf rfl an|cons x bH=>exact⟨x,bH,rfl⟩
 have av:=h.dim
 have M:=h.v x (by simp)
 have eL:∀r∈x::bH,r.v.length=d.toNat:=λr U=>by have:=(h.v r U).1;omega
 obtain⟨Y,a2⟩:=ar5 (f:=λa x=>if x<a then x else a) (λa x=>by split<;>omega) (x::bH) x.v d.toNat (eL x (by simp)) eL
 obtain⟨e7,fy⟩:=ar6 (f:=λa x=>if x>a then x else a) (λa x=>by split<;>omega) (x::bH) x.v d.toNat (eL x (by simp)) eL
 have ark:mZ (x::bH)=(x::bH).foldl (λacc r=>lX (λa x=>if x<a then x else a) acc r.v) x.v:=rfl
 have ari:mY (x::bH)=(x::bH).foldl (λacc r=>lX (λa x=>if x>a then x else a) acc r.v) x.v:=rfl
 rw[<-ark] at Y a2
 rw[<-ari] at e7 fy
 have QM:∀r∈x::bH,∀i,i<d.toNat->jP (r.v.getD i 0):=λr U i hi=>(h.v r U).2.2 i (by rw[eL r U];exact hi)
 refine⟨by omega,by omega,⟨by omega,λi hi=>?_⟩,⟨by omega,λi hi=>?_⟩,λi hi=>?_,λr U i hi=>⟨(a2 i (by omega)).2.1 r U,(fy i (by omega)).2.1 r U⟩⟩
 rcases(a2 i (by omega)).2.2 with e|⟨r,U,e⟩
 rw[e];exact QM x (by simp) i (by omega)
 rw[e];exact QM r U i (by omega)
 rcases(fy i (by omega)).2.2 with e|⟨r,U,e⟩
 rw[e];exact QM x (by simp) i (by omega)
 rw[e];exact QM r U i (by omega)
 grind
def yu(l:J bN):Prop:=(l.map (·.1)).Nodup
def yu.perm{a b:J bN}(h:yu a)(ad:a.Perm b):yu b:=(ad.map _).nodup h
def yu.e1{k:O}{l:J bN}(h:yu l):yu (e1 k l):=
 List.Nodup.sublist (ack _ (sz _ _)) (h.perm (vu l).symm)
theorem yu.eq{l:J bN}(h:yu l){a b:bN}(az:a∈l)(aa:b∈l)(e:a.1=b.1):a=b:=by
 induction l with
 |nil=>cases az
 |cons x l aW=>
  have h2:=ka.1 h;rcases dM.1 az with ahE|az
  grind
  rcases dM.1 aa with YB|aa
  grind
  exact aW h2.2 az aa
def aDV{k:O}{l:J bN}{x:bN}(h:x∈e1 k l):x∈l:=(vu l).mem_iff.1 (oW h)
def Qs(u u':H)(l:J ax)(q:J o)(k:o)(s:N)(e:o):Prop:=
 u.le u'/\((e=BV l q k/\e≠0/\s=⟨none,0,0⟩)∨(e=0/\BV l q k=0/\jx l q/\1<=k/\k<=64/\aD u u' 68 3 s ((e1 k.toNat (l.map (hj q))).flatMap eO)))
def Qs.fk{l:J ax}{s:N}{e:o}(h:Qs u u' l q k s e):∃L,lL u' s L/\L.length<=64/\(e=0->L=e1 k.toNat (l.map (hj q)))/\(e≠0->L=[]):=by rcases h.2 with⟨_,h1,rfl⟩|⟨h0,_,_,_,cW,ac⟩;exact⟨[],(aD.nil (H.le.refl u') 0 3).own.cK,by simp,λh=>bf h h1,λ_=>rfl⟩;exact⟨_,ac.fk,by rw[zX];omega,λ_=>rfl,λh=>bf h0 h⟩
def jx.F6{l:J ax}(h:jx l q):yu (l.map (hj q)):=by unfold yu;rw[e4];exact h.rows.nodup
theorem aCy{s:N}{l:J ax}{m:o}{K:o->H->Prop}(ae:dU u s l)(aa:∀r∈l,r.v.length<=17592186044416)(aq:s.n<=17592186044416)(hm:m<=1000000)(h:∀x,(x<=m->∀r∈l,(r.v.length:o)<=m)->K x u):VN s m u K:=by
 have ag:=ae.len;apply aGr;refine⟨λx i v=>v=u/\0<=i/\i<=(s.n:o)/\0<=x/\∀r∈l.take i.toNat,(r.v.length:o)<=x,λ_ i _=>s.n-i.toNat,⟨rfl,by omega,by omega,by omega,λr U=>by simp at U⟩,?_⟩;rintro x i v ⟨rfl,i0,i1,bK,tw⟩;intro r0 tb;refine⟨λhi=>⟨λM=>tb _ ?_,λM=>h x λh=>bf h M⟩,λhi=>h x λBh r U=>?_⟩;obtain⟨p,ad,r,U,bA,c1,aB⟩:=ae.at i0 hi;have fR:=dz U;have:=aa r fR;have nN:=aB.len;refine⟨p,ad,⟨i0,hi⟩,_,c1,⟨by omega,by omega⟩,⟨by omega,by omega⟩,⟨rfl,by omega,by omega,by omega,λcx cU=>?_⟩,by dsimp only;omega⟩;rw[show(i+1).toNat=i.toNat+1 by omega,fN,U] at cU
 grind
 have:=tw r (by rw[gC (by omega)];exact U);omega
def az0{l bH:J ax}(h:l.map ax.bn=bH.map ax.bn):l.length=bH.length:=by simpa using eI iY h
def ais{l bH:J ax}(h:l.map ax.bn=bH.map ax.bn):l.map (hj q)=bH.map (hj q):=by have e:hj q=(λp:o×J o=>((p.1,gb p.2 q p.2.length):bN))∘ax.bn:=rfl;rw[e,<-e4,<-e4,h]
def aCT{s:N}{L:J bN}{K:N->H->Prop}(ae:lL u s L)(iu:0<=k)(h:∀ar,lL u ar (L.take k.toNat)->K ar u):V8 s k u K:=by
 have ag:=ae.len;have fQ:s.n<=s.c:=bw.cap ae;apply aG0;have QV:k=((k.toNat:O):o):=by omega
 refine⟨λhk=>?_,λhk=>h _ ?_⟩;rw[QV];refine kJ (l:=0) (h:=k.toNat) (m:=s.c) UB (.inl ⟨rfl,rfl⟩) (.inr rfl) (.inl ⟨rfl,rfl⟩) (pu _) (by omega) (cw _) fQ (h _ ?_);have:=ae.part (l:=0) (h:=k.toNat) (m:=s.c) (pu _) (by omega) (by omega) (cw _);rw[DA,zI] at this;exact this;rw[gC (by omega)];exact ae
def Qs.else{jv:H}{l:J ax}{s:N}{e:o}(h:Qs u u' l q k s e)(he:∀b z,u b=none->u' b=some z->jv b=some z):
  ∃L,lL jv s L/\(e=0->L=e1 k.toNat (l.map (hj q)))/\(e≠0->L=[]):=by
 rcases h.2 with⟨_,h1,rfl⟩|⟨h0,_,_,_,_,ac⟩
 exact⟨[],(aD.nil (H.le.refl jv) 0 3).own.cK,λh=>bf h h1,λ_=>rfl⟩
 exact⟨_,(ac.own.le (u':=jv) λb z aa hu=>he b z (ac.fresh b aa) hu).cK,λ_=>rfl,λh=>bf h0 h⟩
def BJ{t fq e:dC}{size bytes:O}{zs:J ap}(aV:ku P t=some (e,size,bytes,zs))(dm:0<size){s x:N}{eK:J ap}{K:N->H->Prop}
  (ac:aD ak u e size s xs) (M:bw u x size eK) (h1:∀y∈eK,y.oneCell'=ai) (hm:s.n+x.n<=9223372036854775807) (aa:(s.n+x.n)*bytes<=140737488355328)
  (au:∀ar u',aD ak u' e size ar (xs++eK)->ar.n=s.n+x.n->K ar u'):
  c7 P (dO #[t,t] fq #[.slice s.a s.n s.c,.slice x.a x.n x.c]) [.one .slice] u K:=
 acT aV dm ac.own M h1 hm aa λar u' h2 h3 nc _=>au ar u' ⟨h2,nc.le ac.le ac.fresh,λb5 cu=>nc.out ac.le ac.fresh b5 cu⟩ h3
def Ints.part{s:N}(ae:Ints u s L){l h m:O}(h1:l<=h)(h2:h<=s.n)(h3:h<=m)(br:m<=s.c):Ints u (s.part l h m 1) ((L.drop l).take (h-l)):=by have:=bw.part ae h1 h2 h3 br;rw[wz,wz,<-Ov,<-List.map_take] at this;exact this
def Ints.nil(u:H):Ints u ⟨none,0,0⟩ []:=(aD.nil (H.le.refl u) 0 1).own.cK
theorem Ints.get{s:N}(ae:Ints u s L)(h0:0<=x)(h1:x<(s.n:o)):∃p,s.a=some p/\∃y,L[x.toNat]?=some y/\u.cell? (p.add (x.toNat*1))=some (.int .i64 y):=by
 obtain⟨p,ad,I⟩:=ae.at h0 h1;have ag:=ae.len
 grind
theorem adq{s:N}{l:J ax}{K:o->H->Prop}(ae:dU u s l)(h1:∀(i:O) r,l[i]?=some r->r.id=x->K i u)(h2:(∀r∈l,r.id≠x)->K (-1) u):KJ s x u K:=by
 have ag:=ae.len;have tk:=ae.max;apply aG8;refine⟨λ_ i v=>v=u/\0<=i/\∀r∈l.take i.toNat,r.id≠x,λ_ i _=>s.n-i.toNat,⟨rfl,by omega,λr U=>by simp at U⟩,?_⟩;rintro _ i v ⟨rfl,i0,E8⟩;refine⟨λhi=>?_,λhi=>h2 λr U=>E8 r (by rw[gC (by omega)];exact U)⟩;obtain⟨p,ad,r,U,bA,_,_⟩:=ae.at i0 hi;refine⟨p,ad,⟨i0,hi⟩,_,bA,λhe=>?_,λan=>⟨⟨by omega,by omega⟩,⟨rfl,by omega,λcx cU=>?_⟩,by dsimp only;omega⟩⟩;have:=h1 i.toNat r U he;rw[show((i.toNat:O):o)=i by omega] at this;exact this;rw[show(i+1).toNat=i.toNat+1 by omega,fN,U] at cU
 grind
theorem adp{s:N}{K:N->H->Prop}(ae:Ints u s (cR L))(aa:L.length<=1000000)(au:∀ar u',aD u u' 3 1 ar ((cR (x::L)).flatMap encI)->K ar u'):KF s x u K:=by
 have ag:=ae.len;have fQ:s.n<=s.c:=bw.cap ae;have p0:=yi L;apply aGU;intro iK iM;have one:∀(l:J o),∀y∈l.flatMap encI,y.oneCell'=ai:=λl y aj=>by obtain⟨h,_,aj⟩:=eA.1 aj;exact s4 h y aj
 have fin:∀k:O,k<=s.n->(∀y∈(cR L).take k,y<x)->(∀y,(cR L)[k]?=some y->x<=y)->iK (k:o) u:=by
  intro k hk h1 h2;refine iM _ _ ?_;refine kJ (l:=0) (h:=k) (m:=s.c) kK (.inl ⟨rfl,rfl⟩) (.inr rfl) (.inl ⟨rfl,rfl⟩) (pu _) (by omega) (cw _) fQ ?_;have gU:=ae.part (l:=0) (h:=k) (m:=s.c) (pu _) hk (by omega) (cw _);rw[DA,zI] at gU;have azD:bw u (s.part 0 k s.c 1) 1 (((cR L).take k).flatMap encI):=by rw[r3];exact gU
  have aKD:(s.part 0 k s.c 1).n=k:=rfl;refine BJ (s:=⟨none,0,0⟩) kK (by decide) (aD.nil (H.le.refl u) 3 1) azD (one _) (by grind) (by grind) λlH q8 bL aKq=>?_;have abB:lH.n=k:=by grind
  refine mn kK (yA x) (by decide) rfl (by simp[cI]) bL (by omega) (by omega) λgV hn l6 n9 _ _ _=>?_;refine kJ (l:=k) (h:=s.n) (m:=s.c) kK (.inr rfl) (.inl ⟨rfl,rfl⟩) (.inl ⟨rfl,rfl⟩) hk fQ (cw _) fQ ?_;have du:=(ae.mono l6.le).part (l:=k) (h:=s.n) (m:=s.c) hk (cw _) fQ (cw _);rw[gC (by simp;omega)] at du;have azE:bw hn (s.part k s.n s.c 1) 1 (((cR L).drop k).flatMap encI):=by rw[r3];exact du
  have ak6:(s.part k s.n s.c 1).n=s.n-k:=rfl;refine BJ kK (by decide) l6 azE (one _) (by rw[ak6];omega) (by rw[ak6];omega) λjt lI EK _=>au jt lI ?_;rw[<-aBt (by omega) h1 h2];simpa[hb,encI] using EK
 refine⟨λi v=>v=u/\0<=i/\i<=(s.n:o)/\∀y∈(cR L).take i.toNat,y<x,λi _=>s.n-i.toNat,⟨rfl,by omega,by omega,by simp⟩,?_⟩;rintro i v ⟨rfl,i0,i1,ad⟩;have w9:((i.toNat:O):o)=i:=by omega
 refine⟨λhi=>?_,λhi=>?_⟩;obtain⟨p,ft,y,aj,bA⟩:=ae.get i0 hi;refine⟨p,ft,⟨i0,hi⟩,_,bA,λMx=>⟨⟨by omega,by omega⟩,⟨rfl,by omega,by omega,?_⟩,by dsimp only;omega⟩,λhF=>?_⟩;rw[show(i+1).toNat=i.toNat+1 by omega,fN,aj]
 grind
 have:=fin i.toNat (by omega) ad λW aE=>by grind
 rw[w9] at this;exact this;have:=fin i.toNat (by omega) ad λW aE=>by
   grind
 rw[w9] at this;exact this
def ams:cR []=[]:=by simp[cR]
def aCJ{s:N}{l:J ax}{K:N->H->Prop}(ae:dU u s l)(aa:l.length<=1000000)(au:∀ar u',u.le u'->Ints u' ar (cR (l.map (·.id)))->K ar u'):VY s u K:=by have ag:=ae.len;apply aGM;refine⟨λt i v=>0<=i/\u.le v/\Ints v t (cR ((l.take i.toNat).map (·.id))),λ_ i _=>s.n-i.toNat,⟨by omega,H.le.refl u,by simpa[ams] using Ints.nil u⟩,?_⟩;rintro t i v ⟨i0,hle,ht⟩;change Ints v t _ at ht;refine⟨λhi=>?_,λhi=>?_⟩;obtain⟨p,ad,r,U,bA,_,_⟩:=(ae.mono hle).at i0 hi;refine⟨p,ad,⟨i0,hi⟩,_,bA,adp ht (by simp;omega) λar u' ac=>⟨⟨by omega,by omega⟩,⟨by omega,hle.trans ac.le,?_⟩,by dsimp only;omega⟩⟩;rw[show(i+1).toNat=i.toNat+1 by omega,Pj U,O9 (mH _ _)];exact ac.ints;rw[gC (by omega)] at ht;exact au t v hle ht
theorem aCL{s:N}(ae:Ints u s a)(ht:Ints u t b)(h:K (decide (a=b)) u):V0 s t u K:=by
 have key:∀W,decide (a=b)=W->K W u:=λW e=>e▸h;have ag:=ae.len;have hm:=ht.len;have tk:=ae.max;apply aGO;refine⟨λan=>key _ ?_,λhe=>?_⟩
 grind
 refine⟨λ_ i v=>v=u/\0<=i/\i<=(s.n:o)/\a.take i.toNat=b.take i.toNat,λ_ i _=>s.n-i.toNat,⟨rfl,by omega,by omega,by simp⟩,?_⟩;rintro _ i v ⟨rfl,h0,h1,ad⟩;refine⟨λhi=>?_,λhi=>key _ ?_⟩;obtain⟨p,ft,x,M,bA⟩:=ae.get h0 hi;obtain⟨q,xE,y,aj,d0⟩:=ht.get h0 (show i<(t.n:o) by omega);refine⟨p,ft,⟨h0,hi⟩,q,xE,⟨h0,by omega⟩,_,bA,_,d0,λan=>key _ ?_,λir=>⟨⟨by omega,by omega⟩,⟨rfl,by omega,by omega,?_⟩,by dsimp only;omega⟩⟩
 grind
 have aT:(i+1).toNat=i.toNat+1:=by omega
 rw[aT,fN,fN,ad,M,aj,ir];have aT:i.toNat=a.length:=by omega
 grind
structure b1 where
 aC:o
 ls:N
 ae:N
 cD:o
 is:N
 bm:J o
 hi:J o
 ids:J o
def qD(r:b1):J ap:=[.int .i64 r.aC,.slice r.ls.a r.ls.n r.ls.c,.slice r.ae.a r.ae.n r.ae.c,.int .u64 (cQ r.cD),.int .u64 (cS r.cD),.slice r.is.a r.is.n r.is.c]
def Li(r:b1):(qD r).length=6:=rfl
def art(r:b1):∀v∈qD r,v.oneCell'=ai:=by simp[qD,cI]
def yv(u:H)(s:N)(l:J b1):Prop:=bw u s 6 (l.flatMap qD)/\∀r∈l,Ints u r.ls r.bm/\Ints u r.ae r.hi/\Ints u r.is r.ids
def yv.len{s:N}{l:J b1}(h:yv u s l):s.n=l.length:=hf Li (by decide) h.1
def yv.max{s:N}{l:J b1}(h:yv u s l):s.n<=9223372036854775807:=jW (bw.cap h.1) (bw.max h.1)
def yv.mono{s:N}{l:J b1}(h:yv u s l)(k:u.le u'):yv u' s l:=⟨bw.mono h.1 k,λr U=>⟨(h.2 r U).1.mono k,(h.2 r U).2.1.mono k,(h.2 r U).2.2.mono k⟩⟩
def yv.at{s:N}{l:J b1}(h:yv u s l)(h0:0<=x)(h1:x<(s.n:o)):∃p,s.a=some p/\∃q:b1,l[x.toNat]?=some q/\
  u.cell? (p.add (x.toNat*6))=some (.int .i64 q.aC)/\u.cell? ((p.add (x.toNat*6)).add 1)=some (.slice q.ls.a q.ls.n q.ls.c)/\u.cell? ((p.add (x.toNat*6)).add 2)=some (.slice q.ae.a q.ae.n q.ae.c)/\
  u.cell? ((p.add (x.toNat*6)).add 3)=some (.int .u64 (cQ q.cD))/\u.cell? ((p.add (x.toNat*6)).add 4)=some (.int .u64 (cS q.cD))/\u.cell? ((p.add (x.toNat*6)).add 5)=some (.slice q.is.a q.is.n q.is.c):=by
 have ag:=h.len
 have aq:x.toNat<l.length:=by omega
 obtain⟨p,ad,I⟩:=bw.elem Li (by decide) h.1 (dj aq)
 exact⟨p,ad,_,dj aq,I 0 _ rfl,I 1 _ rfl,I 2 _ rfl,I 3 _ rfl,I 4 _ rfl,I 5 _ rfl⟩
structure l3(r:b1)(d:o):Prop where
 dim:1<=d/\d<=64
 ids:Ak r.ids
 id:∀x∈r.ids,1<=x/\x<=1000000000
 shape:(r.aC=1/\r.bm=[]/\r.hi=[]/\r.cD=0)∨(r.aC=2/\r.cD=0/\cY r.bm/\cY r.hi/\(r.bm.length:o)=d/\(r.hi.length:o)=d/\∀i:O,(i:o)<d->r.bm.getD i 0<=r.hi.getD i 0)∨
  (r.aC=3/\r.hi=[]/\cY r.bm/\(r.bm.length:o)=d/\jJ r.cD)
def mq(r:b1)(v:J o):Prop:=(r.aC=2->∀i:O,i<v.length->r.bm.getD i 0<=v.getD i 0/\v.getD i 0<=r.hi.getD i 0)/\(r.aC=3->gb r.bm v r.bm.length<=r.cD)
def aCP{s:N}{l:J o}(ae:Ints u s l)(U:Ak l)(cy:∀x∈l,1<=x/\x<=1000000000)(h:K ai u):V4 s u K:=by
 have tk:=ae.max;apply aGW;refine⟨λ_ i v=>v=u/\0<=i,λ_ i _=>s.n-i.toNat,⟨rfl,by omega⟩,?_⟩;rintro _ i v ⟨rfl,i0⟩;refine⟨λhi=>?_,λ_=>h⟩;intro r0 tb;have next:∀b,r0 b v:=λb=>tb _ _ ⟨⟨by omega,by omega⟩,⟨rfl,by omega⟩,by dsimp only;omega⟩;obtain⟨p,ad,x,M,bA⟩:=ae.get i0 hi;have axu:=cy x (dz M);refine⟨p,ad,⟨i0,hi⟩,_,bA,adm ?_⟩;rw[jf axu];refine⟨λaa=>bf rfl aa,λ_=>⟨λoi=>?_,λ_=>⟨next _,next _⟩⟩⟩;obtain⟨jV,fL,y,aj,d0⟩:=ae.get (x:=i-1) (by omega) (by omega);have Mx:y<x:=by obtain⟨h1,aT⟩:=hG.1 M;obtain⟨h2,aN⟩:=hG.1 aj;have:=lW.1 U _ _ h2 h1 (by omega);rw[aT,aN] at this;exact this
 exact⟨⟨by omega,by omega⟩,jV,fL,⟨by omega,by omega⟩,p,ad,⟨i0,hi⟩,⟨_,d0,_,bA,λh=>by omega,λ_=>next _⟩,⟨_,bA,_,d0,λh=>by omega,λ_=>next _⟩⟩
def E9:cQ 0=0:=by decide
def F1:cS 0=0:=by decide
def aCO{r:b1}(h1:Ints u r.ls r.bm)(h2:Ints u r.ae r.hi)(U:l3 r d)(h:K ai u):V3 r.aC r.ls r.ae (cQ r.cD) (cS r.cD) r.is u K:=by have cj:=h1.len;have ez:=h2.len;apply aGV;rcases U.shape with⟨e,aT,aN,dG⟩|⟨e,dG,_⟩|⟨e,aN,_⟩;rw[dG,E9,F1];refine⟨λ_=>⟨λ_=>⟨λ_=>?_,λan=>bf (by rw[ez,aN];rfl) an⟩,λan=>bf (by rw[cj,aT];rfl) an⟩,λan=>bf e an⟩;rw[jf (And.intro rfl rfl)];exact h;rw[dG,E9,F1];refine⟨λh=>by omega,λ_=>⟨λ_=>?_,λan=>bf e an⟩⟩;rw[jf (And.intro rfl rfl)];exact h;refine⟨λh=>by omega,λ_=>⟨λh=>by omega,λ_=>⟨λ_=>?_,λan=>bf e an⟩⟩⟩;rw[jf (show(r.ae.n:o)=0 by rw[ez,aN];rfl)];exact h
def aCI{r:b1}{K:o->H->Prop}(h1:Ints u r.ls r.bm)(h2:Ints u r.ae r.hi)(h3:Ints u r.is r.ids)(U:l3 r d)(h:K 0 u):VX r.aC r.ls r.ae (cQ r.cD) (cS r.cD) r.is d u K:=by
 have av:=U.dim;have cj:=h1.len;have ez:=h2.len;apply aGJ;intro iK iM;refine⟨λh=>by omega,λ_=>⟨λh=>by omega,λ_=>iM _ _ ?_⟩⟩;clear iM iK;intro Eb ahh;refine aCO h1 h2 U ⟨λaa=>bf rfl aa,λ_=>aCP h3 U.ids U.id ⟨λaa=>bf rfl aa,λ_=>ahh _ _ ?_⟩⟩;clear ahh Eb;have check:∀{v:J o},cY v->(v.length:o)=d->gx v d=0:=λaB aq=>by rw[<-aq];exact xY aB (by omega)
 rcases U.shape with⟨e,aT,aN,dG⟩|⟨e,dG,v1,v2,dN,eZ,hle⟩|⟨e,aN,v1,dN,_⟩;exact⟨λ_=>h,λan=>bf e an⟩;refine⟨λh=>by omega,λ_=>Ke h1 ?_⟩;rw[check v1 dN];intro Qn Ro;refine⟨λan=>bf rfl an,λ_=>⟨λh=>by omega,λ_=>Ro _ _ (Ke h2 ?_)⟩⟩;rw[check v2 eZ];refine⟨λan=>bf rfl an,λ_=>⟨λ_ i v=>v=u/\0<=i,λ_ i _=>d.toNat-i.toNat,⟨rfl,by omega⟩,?_⟩⟩;rintro _ i v ⟨rfl,i0⟩;refine⟨λhi=>?_,λ_=>h⟩;obtain⟨p,ad,bA⟩:=h1.at i0 (show i<(r.ls.n:o) by omega);obtain⟨jV,fL,d0⟩:=h2.at i0 (show i<(r.ae.n:o) by omega);have:=hle i.toNat (by omega);exact⟨p,ad,⟨i0,by omega⟩,_,bA,jV,fL,⟨i0,by omega⟩,_,d0,λh=>by omega,λ_=>⟨⟨by omega,by omega⟩,⟨rfl,by omega⟩,by dsimp only;omega⟩⟩;refine⟨λh=>by omega,λ_=>Ke h1 ?_⟩;rw[check v1 dN];intro Qn Ro;exact⟨λan=>bf rfl an,λ_=>⟨λ_=>h,λan=>bf e an⟩⟩
def aCK{r:b1}{v:J o}(h1:Ints u r.ls r.bm)(h2:Ints u r.ae r.hi)(U:l3 r d)(aB:Ints u t v)(uZ:cY v)(aq:(v.length:o)=d)(ch:mq r v)(h:K ai u):
  VZ r.aC r.ls r.ae (cQ r.cD) (cS r.cD) r.is t u K:=by
 have cj:=h1.len
 have ez:=h2.len
 have aKv:=aB.len
 have av:=U.dim
 apply aGN
 rcases U.shape with⟨e,_⟩|⟨e,_,v1,v2,dN,eZ,hle⟩|⟨e,aN,v1,dN,tr⟩
 exact⟨λh=>by omega,λ_=>⟨λh=>by omega,λ_=>h⟩⟩
 refine⟨λ_=>⟨λ_ i w=>w=u/\0<=i,λ_ i _=>t.n-i.toNat,⟨rfl,by omega⟩,?_⟩,λan=>bf e an⟩
 rintro _ i w ⟨rfl,i0⟩
 refine⟨λhi=>?_,λ_=>h⟩
 intro r0 tb
 obtain⟨p,ad,bA⟩:=aB.at i0 hi
 obtain⟨gU,ft,c1⟩:=h1.at i0 (show i<(r.ls.n:o) by omega)
 obtain⟨du,eX,c2⟩:=h2.at i0 (show i<(r.ae.n:o) by omega)
 have:=ch.1 e i.toNat (by omega)
 exact⟨p,ad,⟨i0,hi⟩,_,bA,gU,ft,⟨i0,by omega⟩,_,c1,λh=>by omega,λ_=>⟨p,ad,⟨i0,hi⟩,_,bA,du,eX,⟨i0,by omega⟩,_,c2,λh=>by omega,λ_=>tb _ _ ⟨⟨by omega,by omega⟩,⟨rfl,by omega⟩,by dsimp only;omega⟩⟩⟩
 refine⟨λh=>by omega,λ_=>⟨λ_=>?_,λan=>bf e an⟩⟩
 refine Uo h1 aB v1 uZ (by omega) λx y M aj hw=>⟨H.le.refl u,Um (yZ tr) (rF _) M aj ?_⟩
 have ab:decide (dw (cQ r.cD) (cS r.cD)<dw x y)=ao:=by have:=ch.2 e;rw[l0,hw];simpa using this
 rw[ab]
 exact h
theorem aCY{s:N}{l:J ax}{r:b1}(ae:dU u s l)(aq:gD l d)(h1:Ints u r.ls r.bm)(h2:Ints u r.ae r.hi)(h3:Ints u r.is r.ids)(U:l3 r d)(an:r.ids≠[])
  (ch:∀x∈r.ids,∃w∈l,w.id=x/\mq r w.v) (h:K ai u):Wb s r.aC r.ls r.ae (cQ r.cD) (cS r.cD) r.is d u K:=by
 have lV:=h3.len
 have ag:=ae.len
 have m3:=h3.max
 apply aG9
 intro iK iM
 refine aCI h1 h2 h3 U ⟨λaa=>bf rfl aa,λ_=>⟨λh0=>?_,λ_=>iM _ _ ?_⟩⟩
 exact bf (qW (by omega)) an
 refine⟨λ_ i v=>v=u/\0<=i,λ_ i _=>r.is.n-i.toNat,⟨rfl,by omega⟩,?_⟩
 rintro _ i v ⟨rfl,i0⟩
 refine⟨λhi=>?_,λ_=>h⟩
 obtain⟨p,ad,x,M,bA⟩:=h3.get i0 hi
 obtain⟨w,hw,IV,axm⟩:=ch x (dz M)
 refine⟨p,ad,⟨i0,hi⟩,_,bA,adq ae (λj w' aP cy=>⟨λh=>by omega,λ_=>?_⟩) λdR=>bf IV (dR w hw)⟩
 have kB:=(hG.1 aP).1
 have Nw:w'=w:=by
  obtain⟨k,hk,e⟩:=oX hw;have hd:=(hG.1 aP).2;have Fb:j=k:=by
   have b8:=aq.nodup;rcases Oh j k with Mx|RL|vT;have:=lW.1 b8 j k (by simpa using kB) (by simpa using hk) Mx
   grind
   exact RL;have:=lW.1 b8 k j (by simpa using hk) (by simpa using kB) vT
   grind
  subst Fb;rw[<-hd,<-e]
 subst Nw
 obtain⟨dh,tp,q,aL,_,d1,af8⟩:=ae.at (x:=(j:o)) (by omega) (by omega)
 rw[show((j:o)).toNat=j by omega] at aL d1
 rw[aP] at aL
 cases aL
 have aB:=aq.v w' hw
 refine⟨dh,tp,⟨by omega,by omega⟩,w'.s,by grind,aCK h1 h2 U af8 aB.2 aB.1 axm ⟨λaa=>bf rfl aa,λ_=>⟨⟨by omega,by omega⟩,⟨rfl,by omega⟩,by dsimp only;omega⟩⟩⟩
structure rX(u:H)(aC ss a6:N)(eE:J bN)(seen:J o)(rest:J b1):Prop where
 h:lL u aC eE
 s:Ints u ss seen
 r:yv u a6 rest
def rX.mono{aC:N}{rest:J b1}(h:rX u aC ss a6 eE seen rest)(k:u.le u'):rX u' aC ss a6 eE seen rest:=⟨h.h.mono k,h.s.mono k,h.r.mono k⟩
structure Sound(l:J ax)(q:J o)(k:o)(eE:J bN)(seen:J o)(rest:J b1):Prop where
 BF:Ak seen
 kb:∀r∈rest,l3 r q.length/\r.ids≠[]/\∀x∈r.ids,∃w∈l,w.id=x/\mq r w.v
 all:(seen++rest.flatMap (·.ids)).Perm (l.map (·.id))
 first:∀m:J ax,(∀r∈m,r∈l)->m.map (·.id)=seen->eE=e1 k.toNat (m.map (hj q))
def vI(x:o)(s:N):kO aH 22 1 #[(0,.agg #[.int .i64 x,.slice s.a s.n s.c])]=some (52,[.int .i64 x,.slice s.a s.n s.c]):=by kernel_rfl
def aD.rws{s:N}{m l:J ax}(h:aD ak u e 2 s (m.flatMap cJ))(aq:dU u t l)(hm:∀r∈m,r∈l):dU u s m:=⟨h.own.cK,λr U=>aq.2 r (hm r U)⟩
theorem aCW{s aC:N}{l:J ax}{rest:J b1}(ae:dU u s l)(ht:Ints u t q)(aL:jx l q)(cB:0<=k)
  (az:rX u aC ss a6 eE seen rest) (bb:Sound l q k eE seen rest) (h:K ai u):Wa s t k aC ss a6 u K:=by
 have ag:=ae.len
 have ZW:=ht.len
 have ay2:=az.s.len
 have aKr:=az.r.len
 have ayX:=az.h.len
 have Je:=az.r.max
 have hlen:=aL.rows.len
 have aJ4:seen.length+(rest.flatMap (·.ids)).length=l.length:=by have:=bb.all.length_eq;simpa using this
 have Fy:∀x∈seen,∃r∈l,r.id=x:=λx M=>by
  have:=bb.all.mem_iff.1 (kG _ M)
  grind
 refine hD.forget (ss:=[.one .bool]) ?_
 apply aG5
 refine⟨λ_ k0 oy i v=>0<=i/\i<=(ss.n:o)/\Ints v k0 (cR (seen.take i.toNat))/\∃m:J ax,aD u v 52 2 oy (m.flatMap cJ)/\(∀r∈m,r∈l)/\m.map (·.id)=seen.take i.toNat,λ_ _ _ i _=>ss.n-i.toNat,
  ⟨by omega,by omega,by simpa[ams] using Ints.nil u,[],aD.nil (H.le.refl u) _ _,λr U=>(by cases U),by simp⟩,?_⟩
 rintro b k0 oy i v ⟨i0,i1,eL,m,ac,nf,y5⟩
 change Ints v k0 _ at eL
 change aD u v _ 2 oy _ at ac
 have aJt:m.length=i.toNat:=by have:=eI iY y5;simp at this;omega
 refine⟨λhi=>?_,λhi=>?_⟩
 obtain⟨p,ad,x,M,bA⟩:=(az.s.mono ac.le).get i0 hi
 obtain⟨w,hw,IV⟩:=Fy x (dz M)
 refine⟨p,ad,⟨i0,hi⟩,_,bA,adq (ae.mono ac.le) (λj r aP cy=>?_) λdR=>bf IV (dR w hw)⟩
 have kB:=(hG.1 aP).1
 intro ao5 asX
 have go:∀b,ao5 b v:=by
  intro b;refine asX _ _ ⟨p,ad,⟨i0,hi⟩,_,bA,adp eL (by simp;omega) λdg gL HY=>?_⟩;obtain⟨dh,tp,cx,cU,d0,d1,af8⟩:=(ae.mono (ac.le.trans HY.le)).at (x:=(j:o)) (by omega) (by omega);have xa:((j:o)).toNat=j:=by omega
  rw[xa] at cU d0 d1;rw[aP] at cU;cases cU;have dS:=hf fO (by decide) ac.own.cK;refine⟨dh,tp,⟨by omega,by omega⟩,_,by unfold aG;rw[xa];exact d0,r.s,by grind,mn ig (vI _ _) (by decide) rfl (by simp[cI]) (ac.mono HY.le) (by omega) (by omega) λiZ kL XM n23 eC fC _=>⟨⟨by omega,by omega⟩,⟨by omega,by omega,?_,m++ [r],?_,?_,?_⟩,by dsimp only;omega⟩⟩;have agQ:aD v gL 3 1 dg ((cR (x::seen.take i.toNat)).flatMap encI):=HY;have cv:Own kL 3 1 dg ((cR (x::seen.take i.toNat)).flatMap encI):=agQ.own.le λb z aa hu=>eC b z hu λe=>dH ac e (agQ.fresh b aa);have X2:Ints kL dg (cR (x::seen.take i.toNat)):=by have:=cv.cK;rw[r3] at this;exact this
  rw[show(i+1).toNat=i.toNat+1 by omega,fN,M];have e:cR (seen.take i.toNat++(some x).toList)=cR (x::seen.take i.toNat):=O9 (mH _ _);rw[e];exact X2;rw[hb];simpa[cJ] using XM
  grind
  rw[show(i+1).toNat=i.toNat+1 by omega,fN,M,en,y5,<-cy];rfl
 refine⟨λh=>by omega,λ_=>⟨λoi=>?_,λ_=>go _⟩⟩
 obtain⟨jV,fL,y,aj,d0⟩:=(az.s.mono ac.le).get (x:=i-1) (by omega) (by omega)
 have Mx:y<x:=by obtain⟨h1,aT⟩:=hG.1 M;obtain⟨h2,aN⟩:=hG.1 aj;have:=lW.1 bb.BF _ _ h2 h1 (by omega);rw[aT,aN] at this;exact this
 exact⟨⟨by omega,by omega⟩,jV,fL,⟨by omega,by omega⟩,_,d0,p,ad,⟨i0,hi⟩,_,bA,λh=>by omega,λ_=>go _⟩
 rw[gC (by omega)] at eL y5
 have gR:∀i,((rest.take i).flatMap (·.ids)).length<=512:=λi=>by
  have:=eI (wC (·.ids)) (px i rest)
  grind
 refine⟨λ_ nX i w=>0<=i/\i<=(a6.n:o)/\v.le w/\Ints w nX (cR (seen++(rest.take i.toNat).flatMap (·.ids))),λ_ _ i _=>a6.n-i.toNat,⟨by omega,by omega,H.le.refl v,by simpa using eL⟩,?_⟩
 rintro _ nX i w ⟨i0,i1,aaA,RB⟩
 change Ints w nX _ at RB
 have sm:=ac.le.trans aaA
 refine⟨λhi=>?_,λhi=>?_⟩
 obtain⟨p,ad,g,Z,bA,c1,c2,fc,pM,qA⟩:=(az.r.mono sm).at i0 hi
 have AT:=dz Z
 obtain⟨nq,qf,BE⟩:=(az.r.mono sm).2 g AT
 obtain⟨EI,asj,AF⟩:=bb.kb g AT
 refine⟨p,ad,⟨i0,hi⟩,_,bA,_,c1,_,c2,_,fc,_,pM,_,qA,?_⟩
 rw[ZW]
 refine aCY (ae.mono sm) aL.rows nq qf BE EI asj AF ⟨λaa=>bf rfl aa,λ_=>?_⟩
 have aKs:=BE.len
 have hV:(rest.take (i.toNat+1)).flatMap (·.ids)=(rest.take i.toNat).flatMap (·.ids)++g.ids:=by rw[fN,Z,hb];simp
 have vS:=gR (i.toNat+1)
 rw[hV,gG] at vS
 refine⟨λGG j w'=>0<=j/\j<=(g.is.n:o)/\v.le w'/\Ints w' GG (cR (seen++(rest.take i.toNat).flatMap (·.ids)++g.ids.take j.toNat)),λ_ j _=>g.is.n-j.toNat,⟨by omega,by omega,aaA,by simpa using RB⟩,?_⟩
 rintro GG j w' ⟨e9,kU,aaB,RC⟩
 change Ints w' GG _ at RC
 have ajI:=ac.le.trans aaB
 obtain⟨jV,fL,b5,cu,_,_,_,_,_,d5⟩:=(az.r.mono ajI).at i0 hi
 rw[Z] at cu
 cases cu
 refine⟨jV,fL,⟨i0,hi⟩,g.is,d5,λaP=>?_,λaP=>⟨⟨by omega,by omega⟩,⟨by omega,by omega,aaB,?_⟩,by dsimp only;omega⟩⟩
 obtain⟨pi,A5,x,M,fi⟩:=((az.r.mono ajI).2 g AT).2.2.get e9 aP
 refine⟨jV,fL,⟨i0,hi⟩,g.is,d5,pi,A5,⟨e9,aP⟩,_,fi,adp RC (by grind) λJ3 G1 Rf=>⟨⟨by omega,by omega⟩,⟨by omega,by omega,aaB.trans Rf.le,?_⟩,by dsimp only;omega⟩⟩
 rw[show(j+1).toNat=j.toNat+1 by omega,fN,M]
 have e:cR (seen++(rest.take i.toNat).flatMap (·.ids)++(g.ids.take j.toNat++(some x).toList))=cR (x::(seen++(rest.take i.toNat).flatMap (·.ids)++g.ids.take j.toNat)):=by rw[<-wA];exact O9 (mH _ _)
 rw[e]
 exact Rf.ints
 rw[show(i+1).toNat=i.toNat+1 by omega,hV,<-wA]
 rw[gC (l:=g.ids) (show g.ids.length<=j.toNat by omega)] at RC
 exact RC
 rw[gC (by omega)] at RB
 have tj:=(ac.mono aaA).rws (ae.mono sm) nf
 refine aCU tj (ht.mono sm) (λr U=>⟨(aL.rows.v r (nf r U)).2,by have:=(aL.rows.v r (nf r U)).1;omega⟩) aL.Ha (by omega) λye BW LD=>?_
 refine aCT LD.fk cB λrS asy=>?_
 have auu:=bb.first m nf y5
 have XQ:lL BW rS eE:=by rw[auu];exact asy
 have n59:=XQ.len
 have aar:=sm.trans LD.le
 have hH:=az.h.mono aar
 refine⟨λan=>bf (by rw[n59,ayX]) an,λ_=>⟨λ_ i w'=>w'=BW/\0<=i,λ_ i _=>rS.n-i.toNat,⟨rfl,by omega⟩,?_⟩⟩
 rintro _ i w' ⟨rfl,i0⟩
 have tk:=XQ.max
 refine⟨λhi=>?_,λhi=>?_⟩
 obtain⟨p,ad,x,M,bA,c1,c2⟩:=XQ.at i0 hi
 obtain⟨jV,fL,y,aj,d0,d1,d2⟩:=hH.at i0 (show i<(aC.n:o) by omega)
 rw[M] at aj
 cases aj
 exact⟨p,ad,⟨i0,hi⟩,_,bA,_,c1,_,c2,jV,fL,⟨i0,by omega⟩,_,d0,_,d1,_,d2,λan=>bf ⟨rfl,rfl,rfl⟩ an,λ_=>⟨⟨by omega,by omega⟩,⟨rfl,by omega⟩,by dsimp only;omega⟩⟩
 refine aCJ (ae.mono aar) (by omega) λaKO aK1 Bj asC=>aCL (RB.mono (LD.le.trans Bj)) asC ?_
 rw[jf (O9 bb.all)]
 exact⟨aar.trans Bj,h⟩
structure ys(v0 v h5 b9:H):Prop where
 le:h5.le b9
 out:∀b z,v0 b=none->v b=some z->h5 b=none/\b9 b=some z
 new:∀b,b9 b≠none->h5 b≠none∨(v0 b=none/\b9 b=v b)
def H.frame(v v0 h5:H):H:=λb=>match h5 b with
 |some z=>some z|none=>match v0 b with
  |some _=>none|none=>v b
theorem Step.frame{h5:H}{w w':ci}(k:Step v0 [] w h5 [] w')(hle:v0.le v)(ae:Sub v w):Step v [] w (v.frame v0 h5) [] w'/\ys v0 v h5 (v.frame v0 h5):=by
 have h0:∀b,v b=none->v0 b=none:=λb aa=>by
  cases e:v0 b with
  |none=>rfl|some z=>rw[hle _ _ e] at aa;cases aa
 refine⟨⟨λb z aa=>?_,k.os,k.tape,k.output,k.drawn,k.size,λb aa hu _=>k.rest b aa (h0 b hu) (by simp),λb aa hu=>?_,[],by simp,by simp⟩,⟨λb z aa=>?_,λb z h1 h2=>?_,λb aa=>?_⟩⟩;unfold H.frame at aa;split at aa;rename_i e;cases aa;exact k.sub _ _ e;split at aa;cases aa;rename_i e;rw[k.rest b (ae.lt aa) e (by simp)];exact ae _ _ aa;unfold H.frame;rw[k.jB b aa (h0 b hu),h0 b hu];exact hu;unfold H.frame;rw[aa];have:=k.jB b (ae.lt h2) h1;exact⟨this,by unfold H.frame;rw[this,h1];exact h2⟩;cases e:h5 b with
 |some z=>exact .inl (by simp)|none=>
  cases fi:v0 b with
  |some z=>unfold H.frame at aa;grind|none=>exact .inr ⟨rfl,by unfold H.frame;rw[e,fi]⟩
def bw.else{s:N}{size:O}(h:bw u s size xs)(hu:∀g z,s.al=some g->u g=some z->u' g=some z):bw u' s size xs:=
 ⟨h.len,h.cap,h.max,h.at'.imp id λ⟨p,h1,h2⟩=>⟨p,h1,λi v e=>by
  have I:=h2 i v e;unfold H.cell? at I ⊢;have aa:(p.add i).block=p.block:=by unfold er;split<;>rfl
  split at I;rename_i c t f M;rw[hu _ _ (by simp[N.al,h1,aa]) M];exact I;cases I⟩⟩
def I5(R:H->H->Prop):(cg:J aI)->hp cg (H->Prop)->hp cg (H->Prop)->Prop
 | [],r,cx=>∀u u',R u u'->r u->cx u'|_::cg,K,fB=>∀x,I5 R cg (K x) (fB x)
def an2{R:H->H->Prop}(b7:R u u'):∀(cg:J aI) (K fB:hp cg (H->Prop)) (vs:J ap),I5 R cg K fB->(hU cg K vs λr=>r u)->hU cg fB vs λr=>r u':=by
 intro cg;induction cg with
 |nil=>intro K fB vs h k;cases vs with
  |nil=>exact h _ _ b7 k|cons=>simp[hU] at k
 |cons t cg aW=>
  intro K fB vs h k;cases vs with
  |nil=>simp[hU] at k|cons v vs=>simp only[hU] at k ⊢;obtain⟨x,rfl,M⟩:=aI.UQ k;exact(aI.vx t x _).2 (aW (K x) (fB x) vs (h x) M)
def hD.frame{args:cA ap}{ss:J bk}{K fB:hp (gW ss) (H->Prop)}(h:hD P f args ss v0 K)(hle:v0.le v)(hk:I5 (ys v0 v) (gW ss) K fB):hD P f args ss v fB:=by intro w hw;refine(h w (hw.mono hle)).mono ?_;rintro e w' ⟨x,u',he,⟨vs,aB,M,I⟩,ae⟩;obtain⟨h1,h2⟩:=ae.frame hle hw;exact⟨x,_,he,⟨vs,aB,M,an2 h2 _ _ _ _ hk I⟩,h1⟩
def Ae.frame{args:cA ap}{ss:J bk}{K fB:hp (gW ss) (H->Prop)}(h:Ae P fv args ss v0 K)(hle:v0.le v)(hk:I5 (ys v0 v) (gW ss) K fB):Ae P fv args ss v fB:=by obtain⟨l,ab,h⟩:=h;refine⟨l,ab,λw hw=>?_⟩;obtain⟨fn,tmps,assign,body,aj,b7⟩:=h w (hw.mono hle);refine⟨fn,tmps,assign,body,aj,b7.mono ?_⟩;rintro e w' ⟨x,u',he,⟨vs,aB,M,I⟩,ae⟩;obtain⟨h1,h2⟩:=ae.frame hle hw;exact⟨x,_,he,⟨vs,aB,M,an2 h2 _ _ _ _ hk I⟩,h1⟩
def h6.frame{args:cA ap}{ss:J bk}{K fB:hp (gW ss) (H->Prop)}(h:h6 P fv args ss v0 K)(hle:v0.le v)(hk:I5 (ys v0 v) (gW ss) K fB):h6 P fv args ss v fB:=by obtain⟨f,pre,cap,ab,aa,h⟩:=h;exact⟨f,pre,cap,ab,aa,h.frame hle hk⟩
def ua.frame{args:cA ap}{ss:J bk}{K fB:hp (gW ss) (H->Prop)}(h:ua P fv args ss v0 K)(hle:v0.le v)(hk:I5 (ys v0 v) (gW ss) K fB):ua P fv args ss v fB:=
 h.imp (λh=>h.frame hle hk) λh=>h.frame hle hk
def Step.less{jv:H}{bs da:J O}{w w':ci}(h:Step u bs w u' da w')(k:jv.le u'):Step u bs w jv da w':=
 ⟨h.sub.mono k,h.os,h.tape,h.output,h.drawn,h.size,h.rest,λb aa hu=>(by
  cases e:jv b with
  |none=>rfl|some z=>have:=h.jB b aa hu;rw[k _ _ e] at this;cases this),h.more⟩
def abb:(cg:J aI)->hp cg (H->Prop)->hp cg (H->Prop)
 | [],r=>λu'=>∃jv,jv.le u'/\r jv|_::cg,K=>λx=>abb cg (K x)
def aEf:∀(cg:J aI) (K:hp cg (H->Prop)) (vs:J ap),(hU cg (abb cg K) vs λr=>r u')->∃jv,jv.le u'/\hU cg K vs λr=>r jv:=by
 intro cg;induction cg with
 |nil=>intro K vs h;cases vs with
  |nil=>exact h|cons=>simp[hU] at h
 |cons t cg aW=>
  intro K vs h;cases vs with
  |nil=>simp[hU] at h|cons v vs=>simp only[hU] at h ⊢;obtain⟨x,rfl,M⟩:=aI.UQ h;obtain⟨jv,h1,h2⟩:=aW (K x) vs M;exact⟨jv,h1,(aI.vx t x _).2 h2⟩
def hD.weaken{args:cA ap}{ss:J bk}{K:hp (gW ss) (H->Prop)}(h:hD P f args ss u (abb (gW ss) K)):hD P f args ss u K:=by intro w hw;refine(h w hw).mono ?_;rintro e w' ⟨v,u',he,⟨vs,hk,aB,I⟩,ae⟩;obtain⟨jv,hle,dI⟩:=aEf _ _ _ I;exact⟨v,jv,he,⟨vs,hk,aB,dI⟩,ae.less hle⟩
theorem akp{P:O->Prop}(h:∃n,P n):∃n,P n/\∀m,P m->n<=m:=by
 obtain⟨n,ag⟩:=h;induction n using Nat.strongRecOn with
 |ind n aW=>
  grind
open Classical in
def least(P:O->Prop):O:=if h:∃n,P n then Classical.choose (akp h) else 0
def FZ{P:O->Prop}(h:∃n,P n):P (least P):=by unfold least;rw[Gu h];exact(Classical.choose_spec (akp h)).1
theorem least_le{P:O->Prop}(h:P n):least P<=n:=by unfold least;rw[Gu ⟨n,h⟩];grind
def rt(w:o):o:=(least λn=>w<((n:o)+1)*((n:o)+1):O)
def aDa(h0:0<=x)(h:x<y):x*x<y*y:=by have h1:x*x<=x*y:=DB (by omega) h0;have h2:x*y<y*y:=Int.mul_lt_mul_of_pos_right h (by omega);omega
def GS(h0:0<=x)(h:x<=y):x*x<=y*y:=By h h h0 (by omega)
theorem zQ(h0:0<=w):0<=rt w/\rt w*rt w<=w/\w<(rt w+1)*(rt w+1):=by
 have hex:∃n:O,w<((n:o)+1)*((n:o)+1):=⟨w.toNat,by
  grind⟩
 have h1:=FZ hex;unfold rt;generalize ag:(least λn=>w<((n:o)+1)*((n:o)+1))=n at*;refine⟨by omega,?_,h1⟩;cases n with
 |zero=>simpa using h0|succ m=>
  have hm:¬w<((m:o)+1)*((m:o)+1):=λbP=>by have:=least_le (P:=λn:O=>w<((n:o)+1)*((n:o)+1)) bP;omega
  grind
def rt_eq{s:o}(h0:0<=s)(h1:s*s<=w)(h2:w<(s+1)*(s+1)):s=rt w:=by
 have hw:0<=w:=by have:=sy h0 h0;omega
 obtain⟨q2,nq,qf⟩:=zQ hw;by_cases az:s<rt w;have:=GS (show 0<=s+1 by omega) (show s+1<=rt w by omega);omega;by_cases aa:rt w<s;have:=GS (show 0<=rt w+1 by omega) (show rt w+1<=s by omega);omega;omega
def OP(h:jJ w):rt w<18446744073709551616:=by obtain⟨q2,nq,qf⟩:=zQ h.1;by_cases aa:18446744073709551616<=rt w;have:=GS (show(0:o)<=18446744073709551616 by omega) aa;have:=h.2;omega;omega
theorem am4{a b:o}{K:o->H->Prop}(az:cE a)(aa:cE b)(h:K (rt (dw a b)) u):Qb a b u K:=by
 apply aGQ;have oS:0<=dw a b:=by unfold dw;obtain⟨_,_⟩:=az;obtain⟨_,_⟩:=aa;omega
 have aaD:dw a b<340282366920938463463374607431768211456:=by unfold dw;obtain⟨_,_⟩:=az;obtain⟨_,_⟩:=aa;omega
 generalize hw:dw a b=w at*;refine⟨λhi bm v=>v=u/\0<=bm/\bm<=hi/\hi<=18446744073709551615/\bm*bm<=w/\w<(hi+1)*(hi+1),λhi bm _=>(hi-bm).toNat,⟨rfl,by omega,by omega,by omega,by omega,by omega⟩,?_⟩;rintro hi bm v ⟨rfl,iG,dN,eZ,lR,lS⟩;refine⟨λbP=>⟨by decide,?_⟩,λhF=>?_⟩;have t1:ff (hi-bm) 2=(hi-bm)/2:=Dz (by omega);have e:bS .u64 ((bS .u64 (bm+(bS .u64 (ff (bS .u64 (hi-bm)) 2))))+1)=bm+(hi-bm)/2+1:=by rw[ox (hi-bm) (by omega),t1,ox ((hi-bm)/2) (by omega),ox (bm+(hi-bm)/2) (by omega),ox _ (by omega)]
 rw[e];generalize hm:bm+(hi-bm)/2+1=m;have m0:bm<m/\m<=hi:=by omega
 have aiK:cE m:=⟨by omega,by omega⟩;refine adl aiK aiK ⟨H.le.refl v,?_⟩;have uL:jJ (m*m):=⟨sy (by omega) (by omega),by have:=GS (show 0<=m by omega) (show m<=18446744073709551615 by omega);omega⟩
 refine Um az aa (yZ uL) (rF _) ?_;rw[hw,l0];have aT:bS .u64 (m-1)=m-1:=ox _ (by omega);rw[aT];refine⟨λht=>⟨⟨rfl,iG,by omega,by omega,lR,?_⟩,by dsimp only;omega⟩,λab=>⟨⟨rfl,by omega,by omega,eZ,?_,lS⟩,by dsimp only;omega⟩⟩
 grind
 grind
 have:bm=hi:=by omega
 subst this;rw[rt_eq iG lR lS];exact h
def qz(bm hi q:J o):O->o
 |0=>0|n+1=>qz bm hi q n+(if q.getD n 0<bm.getD n 0 then lY (bm.getD n 0) (q.getD n 0) else 0)+(if hi.getD n 0<q.getD n 0 then lY (q.getD n 0) (hi.getD n 0) else 0)
def WK{bm hi:J o}(aq:cY bm)(cb:cY hi)(aL:cY q)(aT:bm.length=q.length)(aN:hi.length=q.length):∀n,n<=q.length->0<=qz bm hi q n/\qz bm hi q n<=n*36893488113059364872:=by
 intro n;induction n with
 |zero=>intro _;simp[qz]
 |succ n aW=>intro ag;obtain⟨i0,i1⟩:=aW (by omega);have Y:=Kh (aq.2 n (by omega)) (aL.2 n (by omega));have a2:=Kh (aL.2 n (by omega)) (cb.2 n (by omega));unfold qz;split<;>split<;>omega
def Em(d cD:o):o:=if(if rt cD*rt cD=cD then rt cD else rt cD+1)<rt d then(rt d-(if rt cD*rt cD=cD then rt cD else rt cD+1))*(rt d-(if rt cD*rt cD=cD then rt cD else rt cD+1)) else 0
def nS(r:b1)(q:J o):o:=if r.aC=2 then qz r.bm r.hi q q.length else if r.aC=3 then Em (gb r.bm q r.bm.length) r.cD else 0
def ap2{cD:o}(av:jJ d)(U:jJ cD):jJ (Em d cD):=by
 unfold Em;have h1:=OP av;have h2:=(zQ av.1).1;have h3:=(zQ U.1).1;generalize ht:(if rt cD*rt cD=cD then rt cD else rt cD+1)=t;have t0:0<=t:=by omega
 split;rename_i bP;refine⟨sy (by omega) (by omega),?_⟩;have:=GS (show 0<=rt d-t by omega) (show rt d-t<=18446744073709551615 by omega);omega;exact⟨by omega,by omega⟩
def akJ{r:b1}(U:l3 r q.length)(aL:cY q):jJ (nS r q):=by unfold nS;rcases U.shape with⟨e,_⟩|⟨e,_,v1,v2,dN,eZ,hle⟩|⟨e,aN,v1,dN,tr⟩;rw[bF (by omega),bF (by omega)];exact⟨by omega,by omega⟩;rw[b3 e];have:=WK v1 v2 aL (by omega) (by omega) q.length (cw _);have:=aL.1;exact⟨by omega,by omega⟩;rw[bF (by omega),b3 e];exact ap2 (DP v1 aL (by omega)) tr
def z7(_hx:cE x)(aj:cE y):x=cQ (dw x y)/\y=cS (dw x y):=by unfold cE at*;unfold cQ cS dw;omega
def aiB(h1:cQ x=cQ y)(h2:cS x=cS y):x=y:=by rw[<-l0 x,<-l0 y,h1,h2]
theorem aCM{r:b1}{K:o->o->H->Prop}(h1:Ints u r.ls r.bm)(h2:Ints u r.ae r.hi)(U:l3 r q.length)(ht:Ints u t q)(aL:cY q)
  (h:K (cQ (nS r q)) (cS (nS r q)) u):V1 r.aC r.ls r.ae (cQ r.cD) (cS r.cD) r.is t u K:=by
 have cj:=h1.len
 have ez:=h2.len
 have azp:=ht.len
 have av:=U.dim
 have W:cE 0:=⟨by omega,by omega⟩
 unfold nS at h
 apply aGP
 rcases U.shape with⟨e,_⟩|⟨e,_,v1,v2,dN,eZ,hle⟩|⟨e,aN,v1,dN,tr⟩
 rw[bF (by omega),bF (by omega)] at h
 exact⟨λh=>by omega,λ_=>⟨λh=>by omega,λ_=>h⟩⟩
 rw[b3 e] at h
 refine⟨λ_=>?_,λan=>bf e an⟩
 refine⟨λi x y w=>w=u/\0<=i/\i<=t.n/\cE x/\cE y/\dw x y=qz r.bm r.hi q i.toNat,λi _ _ _=>((t.n:o)-i).toNat,⟨rfl,by omega,by omega,W,W,rfl⟩,?_⟩
 rintro i x y w ⟨rfl,i0,i1,M,aj,hw⟩
 refine⟨λhi=>?_,λhi=>?_⟩
 obtain⟨p,ad,bA⟩:=ht.at i0 hi
 obtain⟨gU,ft,c1⟩:=h1.at i0 (show i<(r.ls.n:o) by omega)
 obtain⟨du,eX,c2⟩:=h2.at i0 (show i<(r.ae.n:o) by omega)
 have iu:=aL.2 i.toNat (by omega)
 have cB:=v1.2 i.toNat (by omega)
 have cW:=v2.2 i.toNat (by omega)
 have s1:=Kh cB iu
 have s2:=Kh iu cW
 have aa:=WK v1 v2 aL (by omega) (by omega) i.toNat (by omega)
 have EL:=aL.1
 have HN:qz r.bm r.hi q (i+1).toNat=qz r.bm r.hi q i.toNat+(if q.getD i.toNat 0<r.bm.getD i.toNat 0 then lY (r.bm.getD i.toNat 0) (q.getD i.toNat 0) else 0)+(if r.hi.getD i.toNat 0<q.getD i.toNat 0 then lY (q.getD i.toNat 0) (r.hi.getD i.toNat 0) else 0):=by rw[show(i+1).toNat=i.toNat+1 by omega];rfl
 unfold jP at iu cB cW
 have RW:(i.toNat:o)<=64:=by omega
 have nG:qz r.bm r.hi q i.toNat<=64*36893488113059364872:=by omega
 intro Wr gA
 have second:∀k3 kM,cE k3->cE kM->dw k3 kM=qz r.bm r.hi q i.toNat+(if q.getD i.toNat 0<r.bm.getD i.toNat 0 then lY (r.bm.getD i.toNat 0) (q.getD i.toNat 0) else 0)->Wr k3 kM w:=by
  intro k3 kM gn jC lh;have aJ9:0<=dw k3 kM/\dw k3 kM<=65*36893488113059364872:=by omega
  refine gA _ _ _ ⟨p,ad,⟨i0,hi⟩,_,bA,du,eX,⟨i0,by omega⟩,_,c2,λbP=>?_,λhF=>⟨⟨by omega,by omega⟩,⟨rfl,by omega,by omega,gn,jC,by omega⟩,by dsimp only;omega⟩⟩;refine⟨p,ad,⟨i0,hi⟩,_,bA,du,eX,⟨i0,by omega⟩,_,c2,⟨by omega,by omega⟩,adn (by omega) ⟨H.le.refl _,?_⟩⟩;have qP:cE ((q.getD i.toNat 0-r.hi.getD i.toNat 0)*(q.getD i.toNat 0-r.hi.getD i.toNat 0)):=⟨s2.1,by have:=s2.2;unfold lY at this;omega⟩;have axo:dw 0 ((q.getD i.toNat 0-r.hi.getD i.toNat 0)*(q.getD i.toNat 0-r.hi.getD i.toNat 0))=lY (q.getD i.toNat 0) (r.hi.getD i.toNat 0):=by unfold dw lY;omega
  refine ado gn jC W qP (by rw[axo];omega) λc d I YI kQ=>⟨⟨by omega,by omega⟩,⟨rfl,by omega,by omega,I,YI,?_⟩,by dsimp only;omega⟩;omega
 refine⟨p,ad,⟨i0,hi⟩,_,bA,gU,ft,⟨i0,by omega⟩,_,c1,λbP=>?_,λhF=>second x y M aj (by omega)⟩
 refine⟨p,ad,⟨i0,hi⟩,gU,ft,⟨i0,by omega⟩,_,c1,_,bA,⟨by omega,by omega⟩,adn (by omega) ⟨H.le.refl _,?_⟩⟩
 have gB:cE ((r.bm.getD i.toNat 0-q.getD i.toNat 0)*(r.bm.getD i.toNat 0-q.getD i.toNat 0)):=⟨s1.1,by have:=s1.2;unfold lY at this;omega⟩
 have axn:dw 0 ((r.bm.getD i.toNat 0-q.getD i.toNat 0)*(r.bm.getD i.toNat 0-q.getD i.toNat 0))=lY (r.bm.getD i.toNat 0) (q.getD i.toNat 0):=by unfold dw lY;omega
 refine ado M aj W gB (by rw[axn];omega) λc d I YI kQ=>second c d I YI (by omega)
 have:i.toNat=q.length:=by omega
 rw[this] at hw
 obtain⟨g1,g2⟩:=z7 M aj
 rw[hw] at g1 g2
 rw[g1,g2]
 exact h
 rw[bF (by omega),b3 e] at h
 refine⟨λh=>by omega,λ_=>⟨λ_=>?_,λan=>bf e an⟩⟩
 refine Uo h1 ht v1 aL (by omega) λx y M aj hw=>?_
 have AO:=DP v1 aL (show r.bm.length=q.length by omega)
 refine am4 M aj (am4 (yZ tr) (rF _) ?_)
 rw[l0,hw]
 have s0:=zQ AO.1
 have s1:=OP AO
 have t0:=zQ tr.1
 have t1:=OP tr
 unfold Em at h
 generalize ae:rt (gb r.bm q r.bm.length)=s at*
 generalize awY:rt r.cD=iy at*
 intro apf ass
 have go:∀T:o,0<=T->(K (cQ (if T<s then(s-T)*(s-T) else 0)) (cS (if T<s then(s-T)*(s-T) else 0)) u)->apf T 0 0 u:=λT aV AK=>by refine ass _ _ _ _ ⟨λbP=>?_,λhF=>?_⟩;rw[b3 bP] at AK;have aT:bS .u64 (s-T)=s-T:=ox _ (by omega);rw[aT];exact adl ⟨by omega,by omega⟩ ⟨by omega,by omega⟩ AK;rw[bF hF] at AK;exact AK
 refine adl ⟨t0.1,by omega⟩ ⟨t0.1,by omega⟩ ⟨H.le.refl _,λan=>?_,λhe=>?_⟩
 have kS:¬iy*iy=r.cD:=λe=>an (by grind)
 rw[bF kS] at h
 refine⟨λhF=>?_,λbP=>?_⟩
 rw[bF (by omega)] at h
 exact h
 have aT:bS .u64 (iy+1)=iy+1:=ox _ (by omega)
 rw[aT]
 exact go _ (by omega) h
 have fW:iy*iy=r.cD:=aiB he.1 he.2
 rw[b3 fW] at h
 exact go _ t0.1 h
def sO(q:J o)(k:o)(eE:J bN)(rest:J b1):Prop:=rest=[]∨(k<=eE.length/\∀r∈rest,(eE.getD (k-1).toNat default).2<nS r q)
open Classical in
theorem aCR{aC:N}{rest:J b1}(az:rX u aC ss a6 eE seen rest)(ht:Ints u t q)(aL:cY q)(hk:1<=k)(av:∀g∈eE,jJ g.2)(U:∀r∈rest,l3 r q.length)
  (h:K (decide (sO q k eE rest)) u):V6 t k aC ss a6 u K:=by
 have tE:=az.r.len
 have e2:=az.h.len
 have ayL:=az.r.max
 have ayJ:=az.h.max
 have key:∀c0:ay,(c0=ai↔sO q k eE rest)->K c0 u:=λc0 aa=>by
  have:c0=decide (sO q k eE rest):=by grind
  rw[this];exact h
 apply aGY
 refine⟨λag=>key _ ⟨λ_=>.inl (qW (by omega)),λ_=>rfl⟩,λag=>?_⟩
 have an:rest≠[]:=λe=>ag (by rw[tE,e];rfl)
 refine⟨λbP=>key _ ⟨λe=>(by cases e),λI=>?_⟩,λhF=>?_⟩
 rcases I with I|⟨I,_⟩
 exact bf I an
 omega
 obtain⟨p,ad,g,Z,bA,c1,c2⟩:=az.h.at (x:=k-1) (by omega) (by omega)
 have oJ:eE.getD (k-1).toNat default=g:=by simp_all
 have AT:=dz Z
 refine⟨λ_ x v=>v=u/\0<=x/\∀r∈rest.take x.toNat,g.2<nS r q,λ_ x _=>((a6.n:o)-x).toNat,⟨rfl,by omega,λr U=>(by simp at U)⟩,λb x v cv=>⟨λM=>?_,λM=>?_⟩⟩
 obtain⟨rfl,bK,cv⟩:=cv
 obtain⟨du,eX,r,cU,d0,d1,d2,d3,d4,d5⟩:=az.r.at bK M
 have fR:=dz cU
 obtain⟨nq,qf,BE⟩:=az.r.2 r fR
 refine⟨⟨by omega,by omega⟩,p,ad,⟨by omega,by omega⟩,_,c1,_,by rw[Addr.w4];exact c2,du,eX,⟨bK,M⟩,_,d0,_,d1,_,d2,_,d3,_,d4,_,d5,?_⟩
 refine aCM nq qf (U r fR) ht aL ⟨H.le.refl _,?_⟩
 refine Um (yZ (av g AT)) (rF _) (yZ (akJ (U r fR) aL)) (rF _) ?_
 rw[l0,l0]
 refine⟨λab=>key _ ⟨λe=>(by cases e),λI=>?_⟩,λbP=>⟨⟨by omega,by omega⟩,⟨rfl,by omega,λy aj=>?_⟩,by dsimp only;omega⟩⟩
 rcases I with I|⟨_,I⟩
 exact bf I an
 have:=I r fR
 grind
 rw[show(x+1).toNat=x.toNat+1 by omega,fN,cU] at aj
 rcases dT.1 aj with h1|h1
 exact cv y h1
 simp_all
 obtain⟨rfl,bK,cv⟩:=cv
 rw[gC (by omega)] at cv
 exact key _ ⟨λ_=>.inr ⟨by omega,λr fR=>by rw[oJ];exact cv r fR⟩,λ_=>rfl⟩
open Classical in
def amQ{s aC:N}{l:J ax}{b:o}{rest:J b1}(ae:dU u s l)(ht:Ints u t q)(aL:jx l q)(cB:1<=k)
  (az:rX u aC ss a6 eE seen rest) (bb:Sound l q k eE seen rest) (av:∀g∈eE,jJ g.2) (aa:(seen.length:o)<=b) (iN:(seen.length:o)=b∨seen.length=l.length∨sO q k eE rest) (h:K ai u):KG s t k b aC ss a6 u K:=by
 have ag:=ae.len
 have ay2:=az.s.len
 apply aG2
 intro iK iM
 refine aCW ae ht aL (by omega) az bb ⟨λaa=>bf rfl aa,λ_=>⟨λh=>by omega,λ_=>iM _ _ ⟨λ_=>h,λh1=>⟨λ_=>h,λh2=>?_⟩⟩⟩⟩
 refine aCR az ht aL.Ha cB av (λr U=>(bb.kb r U).1) ?_
 have I:sO q k eE rest:=by rcases iN with h3|h3|h3;omega;omega;exact h3
 rw[jf I]
 exact h
def dB(a b:N):Prop:=∀g,a.al=some g->b.al≠some g
def dB.symm{a b:N}(h:dB a b):dB b a:=λg Z gu=>h g gu Z
def jL(D:J N)(u v:H):Prop:=∀b z,u b=some z->(∀s∈D,s.al≠some b)->v b=some z
def jL.refl(D:J N)(u:H):jL D u u:=λ_ _ h _=>h
def jL.trans{w:H}(h:jL D u v)(k:jL D v w):jL D u w:=λb z aa av=>k b z (h b z aa av) av
def hc.bO{s:N}(h:hc u v s)(ae:s∈D):jL D u v:=λb z aa av=>h b z aa (av s ae)
theorem jL.own{k:O}(hk:jL D u v)(h:aD ak u e k t xs)(ab:∀s∈D,∀g,s.al=some g->ak g=none)(av:∀s∈D,dB s t):aD ak v e k t xs:=
 ⟨h.own.le λb z aa hu=>hk b z hu λs ae Z=>av s ae b Z aa,λb z aa=>hk b z (h.le b z aa) λs ae Z=>(by grind),h.fresh⟩
def aD.ej{aR:H}{k hd dY:O}{s:N}{eK:J ap}(h:aD ak u e k s xs)(hu:u.le aR)(bZ:aD aR v hd dY t eK):dB s t:=λg Z gu=>by
 have h1:=bZ.fresh g gu;have h2:=dH h Z;cases M:u g with
 |none=>exact h2 M|some z=>rw[hu _ _ M] at h1;cases h1
def b1.gp(r:b1):J N:=[r.ls,r.ae,r.is]
structure qx(ak u:H)(r:b1):Prop where
 l:aD ak u 3 1 r.ls (r.bm.flatMap encI)
 h:aD ak u 3 1 r.ae (r.hi.flatMap encI)
 i:aD ak u 3 1 r.is (r.ids.flatMap encI)
def jL.F8{r:b1}(hk:jL D u v)(h:qx ak u r)(ab:∀s∈D,∀g,s.al=some g->ak g=none)(av:∀s∈D,∀t∈r.gp,dB s t):qx ak v r:=
 ⟨hk.own h.l ab λs ae=>av s ae _ (by simp[b1.gp]),hk.own h.h ab λs ae=>av s ae _ (by simp[b1.gp]),hk.own h.i ab λs ae=>av s ae _ (by simp[b1.gp])⟩
def oF(aC ss a6:N)(rest:J b1):J N:=aC::ss::a6::rest.flatMap b1.gp
structure iI(ak u:H)(aC ss a6:N)(eE:J bN)(seen:J o)(rest:J b1):Prop where
 h:aD ak u 68 3 aC (eE.flatMap eO)
 s:aD ak u 3 1 ss (seen.flatMap encI)
 r:aD ak u 102 6 a6 (rest.flatMap qD)
 g:∀r∈rest,qx ak u r
 ej:(oF aC ss a6 rest).Pairwise dB
def iI.fresh{aC:N}{rest:J b1}(h:iI ak u aC ss a6 eE seen rest):∀s∈oF aC ss a6 rest,∀g,s.al=some g->ak g=none:=by intro s ae;simp only[oF,dM,eA] at ae;rcases ae with rfl|rfl|rfl|⟨r,U,ae⟩;exact h.h.fresh;exact h.s.fresh;exact h.r.fresh;have:=h.g r U;simp only[b1.gp,dM,qX,qY] at ae;rcases ae with rfl|rfl|rfl;exact this.l.fresh;exact this.h.fresh;exact this.i.fresh
def iI.known{aC:N}{rest:J b1}(h:iI ak u aC ss a6 eE seen rest):∀s∈oF aC ss a6 rest,∀g,s.al=some g->u g≠none:=by intro s ae g Z;simp only[oF,dM,eA] at ae;rcases ae with rfl|rfl|rfl|⟨r,U,ae⟩;exact dH h.h Z;exact dH h.s Z;exact dH h.r Z;have:=h.g r U;simp only[b1.gp,dM,qX,qY] at ae;rcases ae with rfl|rfl|rfl;exact dH this.l Z;exact dH this.h Z;exact dH this.i Z
def iI.mono{aC:N}{rest:J b1}(h:iI ak u aC ss a6 eE seen rest)(k:u.le u'):iI ak u' aC ss a6 eE seen rest:=
 ⟨h.h.mono k,h.s.mono k,h.r.mono k,λr U=>⟨(h.g r U).l.mono k,(h.g r U).h.mono k,(h.g r U).i.mono k⟩,h.ej⟩
def iI.le{aC:N}{rest:J b1}(h:iI ak u aC ss a6 eE seen rest):ak.le u:=h.h.le
def iI.read{aC:N}{rest:J b1}(h:iI ak u aC ss a6 eE seen rest):rX u aC ss a6 eE seen rest:=
 ⟨h.h.fk,h.s.ints,h.r.own.cK,λr U=>⟨(h.g r U).l.ints,(h.g r U).h.ints,(h.g r U).i.ints⟩⟩
def iI.else{aC:N}{rest:J b1}(h:iI ak u aC ss a6 eE seen rest)(he:∀b z,ak b=none->u b=some z->u' b=some z):rX u' aC ss a6 eE seen rest:=by
 have one:∀{e k:O} {s:N} {xs:J ap},aD ak u e k s xs->bw u' s k xs:=λac=>(ac.own.le (u':=u') λb z aa hu=>he b z (ac.fresh b aa) hu).cK;have ints:∀{e:O} {s:N} {l:J o},aD ak u e 1 s (l.flatMap encI)->Ints u' s l:=λac=>by have:=one ac;rw[r3] at this;exact this
 exact⟨one h.h,ints h.s,one h.r,λr U=>⟨ints (h.g r U).l,ints (h.g r U).h,ints (h.g r U).i⟩⟩
def b1.core(r:b1):o×o×J o×J o×J o:=(r.aC,r.cD,r.bm,r.hi,r.ids)
def aCu{r cx:b1}(h1:Ints u r.ls r.bm)(h2:Ints u r.ae r.hi)(h3:Ints u r.is r.ids)(g1:Ints u cx.ls cx.bm)(g2:Ints u cx.ae cx.hi)(g3:Ints u cx.is cx.ids)(e:r.core=cx.core)(h:K ai u):
  VJ r.aC r.ls r.ae (cQ r.cD) (cS r.cD) r.is cx.aC cx.ls cx.ae (cQ cx.cD) (cS cx.cD) cx.is u K:=by
 simp only[b1.core,JF] at e
 obtain⟨aT,aN,dG,gz,gI⟩:=e
 apply aGn
 refine⟨λ_=>⟨λ_=>Kd h1 g1 ?_,λan=>bf ⟨by rw[aN],by rw[aN]⟩ an⟩,λan=>bf aT an⟩
 rw[jf dG]
 refine⟨λ_=>Kd h2 g2 ?_,λaa=>by cases aa⟩
 rw[jf gz]
 refine⟨λ_=>Kd h3 g3 ?_,λaa=>by cases aa⟩
 rw[jf gI]
 exact h
theorem am0{aC BK adv Uq:N}{rest GB:J b1}(az:rX u aC ss a6 eE seen rest)(aa:rX u BK adv Uq eE seen GB)(e:rest.map b1.core=GB.map b1.core)
  (h:K ai u):P5 aC ss a6 BK adv Uq u K:=by
 have fb:=az.r.len
 have ck:=aa.r.len
 have aKl:=az.r.max
 have hlen:rest.length=GB.length:=by simpa using eI iY e
 apply aGi
 intro iK iM
 refine aCt az.h aa.h ?_
 rw[jf rfl]
 refine⟨λaa=>bf rfl aa,λ_=>Kd az.s aa.s ?_⟩
 rw[jf rfl]
 refine⟨λaa=>bf rfl aa,λ_=>⟨λan=>bf (by rw[fb,ck,hlen]) an,λ_=>iM _ _ ?_⟩⟩
 refine⟨λ_ i v=>v=u/\0<=i,λ_ i _=>a6.n-i.toNat,⟨rfl,by omega⟩,?_⟩
 rintro _ i v ⟨rfl,i0⟩
 refine⟨λhi=>?_,λ_=>h⟩
 obtain⟨p,ad,g,Z,bA,c1,c2,fc,pM,qA⟩:=az.r.at i0 hi
 obtain⟨jV,fL,b5,cu,d0,d1,d2,d3,d4,d5⟩:=aa.r.at i0 (show i<(Uq.n:o) by omega)
 have I:g.core=b5.core:=by
  have h1:(rest.map b1.core)[i.toNat]?=some g.core:=by grind
  rw[e,pw,cu] at h1;exact(eh h1).symm
 obtain⟨Y,a2,a3⟩:=az.r.2 g (dz Z)
 obtain⟨e7,fy,mV⟩:=aa.r.2 b5 (dz cu)
 exact⟨p,ad,⟨i0,hi⟩,_,bA,_,c1,_,c2,_,fc,_,pM,_,qA,jV,fL,⟨i0,by omega⟩,_,d0,_,d1,_,d2,_,d3,_,d4,_,d5,
  aCu Y a2 a3 e7 fy mV I ⟨λaa=>bf rfl aa,λ_=>⟨⟨by omega,by omega⟩,⟨rfl,by omega⟩,by dsimp only;omega⟩⟩⟩
theorem UF{α:Type}{A l:J α}{i:O}{x y:α}(hx:A.length=i)(h:l[i]?=some x):(A++l.drop i).set i y=(A++ [y])++l.drop (i+1)/\(A++l.drop i)[i]?=some x:=by
 obtain⟨h1,h2⟩:=hG.1 h;have av:l.drop i=x::l.drop (i+1):=by rw[qV h1,h2]
 grind
theorem aCw{aC:N}{rest:J b1}{K:H->Prop}(az:iI ak u aC ss a6 eE seen rest)(te:∀r∈rest,(∀x∈r.bm,jP x)/\∀x∈r.hi,jP x)
  (au:∀u',ak.le u'->jL (oF aC ss a6 rest) u u'->K u'):VL aC ss a6 u K:=by
 have ayJ:=az.read.h.max
 have ms:=az.read.s.max
 have ayL:=az.read.r.max
 have e2:=az.read.h.len
 have kl:=az.read.s.len
 have tE:=az.read.r.len
 have e8:=az.fresh
 obtain⟨f1,f2⟩:=ix.1 az.ej
 obtain⟨f3,f4⟩:=ix.1 f2
 obtain⟨f5,f6⟩:=ix.1 f4
 have NA:∀s,s∈oF aC ss a6 rest↔s=aC∨s=ss∨s=a6∨∃r∈rest,s∈r.gp:=λs=>by simp[oF,eA]
 generalize fe:oF aC ss a6 rest=D at au e8 NA
 apply aGp
 refine⟨λi v=>0<=i/\jL [aC] u v/\∃L:J bN,L.length=eE.length/\aD ak v 68 3 aC (L.flatMap eO),λi _=>aC.n-i.toNat,⟨by omega,jL.refl _ _,_,rfl,az.h⟩,?_⟩
 rintro i v ⟨i0,CZ,L,cX,oh⟩
 refine⟨λhi=>?_,λ_=>?_⟩
 obtain⟨p,ad,_⟩:=oh.fk.at i0 hi
 refine⟨p,ad,⟨i0,hi⟩,?_⟩
 rw[show([cN .i64 (-1),.int .u64 0,.int .u64 0]:J ap)=eO (-1,0) from by simp[eO,E9,F1]]
 exact aD.store pO oh (by decide) (i:=i.toNat) (by omega) (y:=(-1,0)) (yH _) ad λu' bR he _=>⟨⟨by omega,by omega⟩,⟨by omega,CZ.trans (he.bO (by simp)),_,by grind,bR⟩,by dsimp only;omega⟩
 have single:∀{s t:N},dB s t->∀x∈[s],dB x t:=λh x M=>by
  obtain rfl:x=_:=by simpa using M
  exact h
 have r4:∀{s:N},(∀g,s.al=some g->ak g=none)->∀x∈[s],∀g,x.al=some g->ak g=none:=λh x M=>by
  grind
 have ea:=CZ.own az.s (r4 az.h.fresh) (single (f1 ss (by simp)))
 have uT:=CZ.own az.r (r4 az.h.fresh) (single (f1 a6 (by simp)))
 have hV:∀r∈rest,qx ak v r:=λr U=>CZ.F8 (az.g r U) (r4 az.h.fresh) λs ae t ht=>single (f1 t (by grind)) s ae
 have ait:jL D u v:=λb z aa av=>CZ b z aa λs ae=>av s ((NA s).2 (.inl (by simpa using ae)))
 clear oh cX L CZ
 refine⟨λi w=>0<=i/\jL [ss] v w/\∃L:J o,L.length=seen.length/\aD ak w 3 1 ss (L.flatMap encI),λi _=>ss.n-i.toNat,⟨by omega,jL.refl _ _,_,rfl,ea⟩,?_⟩
 rintro j w ⟨e9,ma,L,cX,A4⟩
 refine⟨λaP=>?_,λ_=>?_⟩
 obtain⟨p,ad,_⟩:=A4.ints.at e9 aP
 exact⟨p,ad,⟨e9,aP⟩,aD.store j4 A4 (by decide) (i:=j.toNat) (by omega) (y:= -1) (s4 _) ad λu' bR he _=>⟨⟨by omega,by omega⟩,⟨by omega,ma.trans (he.bO (by simp)),_,by grind,bR⟩,by dsimp only;omega⟩⟩
 have xF:=ma.own uT (r4 az.s.fresh) (single (f3 a6 (by simp)))
 have gu:∀r∈rest,qx ak w r:=λr U=>ma.F8 (hV r U) (r4 az.s.fresh) λs ae t ht=>single (f3 t (by grind)) s ae
 have aiu:jL D u w:=ait.trans λb z aa av=>ma b z aa λs ae=>av s ((NA s).2 (.inr (.inl (by simpa using ae))))
 clear A4 cX L ma ait hV uT ea
 refine⟨λi W=>0<=i/\i<=(a6.n:o)/\jL D u W/\(∃Co:J b1,Co.length=i.toNat/\aD ak W 102 6 a6 ((Co++rest.drop i.toNat).flatMap qD))/\∀r∈rest.drop i.toNat,qx ak W r,λi _=>a6.n-i.toNat,
  ⟨by omega,by omega,aiu,⟨[],rfl,by simpa using xF⟩,by simpa using gu⟩,?_⟩
 clear aiu gu xF
 rintro x W ⟨bK,dr,aiz,⟨Co,Rx,ZI⟩,yX⟩
 refine⟨λM=>?_,λ_=>au W ZI.le aiz⟩
 have eY:x.toNat<rest.length:=by omega
 obtain⟨g,Z⟩:∃g,rest[x.toNat]?=some g:=⟨_,dj eY⟩
 have AT:=dz Z
 have uB:rest.drop x.toNat=g::rest.drop (x.toNat+1):=by rw[qV eY,(hG.1 Z).2]
 obtain⟨vO,vN,Lz⟩:=yX g (by rw[uB];simp)
 have nc:∀r∈rest.drop (x.toNat+1),qx ak W r:=λr U=>yX r (by rw[uB];simp[U])
 obtain⟨c1,c2⟩:=te g AT
 have nl:=vO.ints.len
 have aKt:=vN.ints.len
 have aKu:=Lz.ints.len
 have aKo:=vO.ints.max
 have aKm:=vN.ints.max
 have aKn:=Lz.ints.max
 have asb:(g.gp++(rest.drop (x.toNat+1)).flatMap b1.gp).Pairwise dB:=by
  have h1:rest.flatMap b1.gp=(rest.take x.toNat).flatMap b1.gp++(rest.drop x.toNat).flatMap b1.gp:=by rw[<-hb,px]
  rw[h1,uB,jr] at f6;exact(tP.1 f6).2.1
 obtain⟨arS,_,asc⟩:=tP.1 asb
 obtain⟨pb,arT⟩:=ix.1 arS
 obtain⟨arU,_⟩:=ix.1 arT
 have adu:∀t∈g.gp,dB a6 t:=λt ht=>f5 t (eA.2 ⟨g,AT,ht⟩)
 have aDb:∀r∈rest.drop (x.toNat+1),∀t∈r.gp,dB a6 t:=λr U t ht=>f5 t (eA.2 ⟨r,tQ U,ht⟩)
 have ji:∀s∈g.gp,∀r∈rest.drop (x.toNat+1),∀t∈r.gp,dB s t:=λs ae r U t ht=>asc s ae t (eA.2 ⟨r,U,ht⟩)
 have XB:∀s∈g.gp,s∈D:=λs ae=>(NA s).2 (.inr (.inr (.inr ⟨g,AT,ae⟩)))
 have axH:(Co++rest.drop x.toNat)[x.toNat]?=some g:=(UF (y:=g) Rx Z).2
 have sa:∃p,a6.a=some p/\∀j v,(qD g)[j]?=some v->W.cell? ((p.add (x.toNat*6)).add j)=some v:=bw.elem Li (by decide) ZI.own.cK axH
 obtain⟨p,ad,I⟩:=sa
 refine⟨p,ad,⟨bK,M⟩,_,I 0 _ rfl,_,I 1 _ rfl,_,I 2 _ rfl,_,I 3 _ rfl,_,I 4 _ rfl,_,I 5 _ rfl,?_⟩
 refine⟨λj w=>0<=j/\jL [g.ls] W w/\∃A:J o,A.length=j.toNat/\aD ak w 3 1 g.ls ((A++g.bm.drop j.toNat).flatMap encI),λj _=>g.ls.n-j.toNat,⟨by omega,jL.refl _ _,[],rfl,by simpa using vO⟩,?_⟩
 rintro j e5 ⟨e9,rp,A,hx,jl⟩
 refine⟨λaP=>?_,λ_=>?_⟩
 have kC:j.toNat<g.bm.length:=by omega
 obtain⟨s1,s2⟩:=UF (A:=A) (l:=g.bm) (y:=g.bm[j.toNat]+7) hx (dj kC)
 have gQ:=jl.ints.len
 obtain⟨jV,fL,y,aj,d0⟩:=jl.ints.get e9 aP
 rw[s2] at aj
 cases aj
 have:=c1 _ (ln kC)
 unfold jP at this
 refine⟨jV,fL,⟨e9,aP⟩,_,d0,⟨by omega,by omega⟩,jV,fL,⟨e9,aP⟩,aD.store j4 jl (by decide) (i:=j.toNat) (by omega) (y:=g.bm[j.toNat]+7) (s4 _) fL λu' bR he _=>⟨⟨by omega,by omega⟩,⟨by omega,rp.trans (he.bO (by simp)),A++ [g.bm[j.toNat]+7],by simp;omega,?_⟩,by dsimp only;omega⟩⟩
 rw[s1] at bR
 rw[show(j+1).toNat=j.toNat+1 by omega]
 exact bR
 have asg:=rp.own vN (r4 vO.fresh) (single (pb g.ae (by simp)))
 have ash:=rp.own Lz (r4 vO.fresh) (single (pb g.is (by simp)))
 have awi:=rp.own ZI (r4 vO.fresh) (single (adu g.ls (by simp[b1.gp])).symm)
 have auF:∀r∈rest.drop (x.toNat+1),qx ak e5 r:=λr U=>rp.F8 (nc r U) (r4 vO.fresh) λs ae t ht=>single (ji g.ls (by simp[b1.gp]) r U t ht) s ae
 have ave:jL D u e5:=aiz.trans λb z aa av=>rp b z aa λs ae=>av s (XB s (by simp at ae;simp[b1.gp,ae]))
 clear jl hx A rp
 refine⟨λj w=>0<=j/\jL [g.ae] e5 w/\∃A:J o,A.length=j.toNat/\aD ak w 3 1 g.ae ((A++g.hi.drop j.toNat).flatMap encI),λj _=>g.ae.n-j.toNat,⟨by omega,jL.refl _ _,[],rfl,by simpa using asg⟩,?_⟩
 rintro j dF ⟨e9,iQ,A,hx,dt⟩
 refine⟨λaP=>?_,λ_=>?_⟩
 have kC:j.toNat<g.hi.length:=by omega
 obtain⟨s1,s2⟩:=UF (A:=A) (l:=g.hi) (y:=g.hi[j.toNat]-7) hx (dj kC)
 have gQ:=dt.ints.len
 obtain⟨jV,fL,y,aj,d0⟩:=dt.ints.get e9 aP
 rw[s2] at aj
 cases aj
 have:=c2 _ (ln kC)
 unfold jP at this
 refine⟨jV,fL,⟨e9,aP⟩,_,d0,⟨by omega,by omega⟩,jV,fL,⟨e9,aP⟩,aD.store j4 dt (by decide) (i:=j.toNat) (by omega) (y:=g.hi[j.toNat]-7) (s4 _) fL λu' bR he _=>⟨⟨by omega,by omega⟩,⟨by omega,iQ.trans (he.bO (by simp)),A++ [g.hi[j.toNat]-7],by simp;omega,?_⟩,by dsimp only;omega⟩⟩
 rw[s1] at bR
 rw[show(j+1).toNat=j.toNat+1 by omega]
 exact bR
 have asi:=iQ.own ash (r4 vN.fresh) (single (arU g.is (by simp)))
 have awj:=iQ.own awi (r4 vN.fresh) (single (adu g.ae (by simp[b1.gp])).symm)
 have auG:∀r∈rest.drop (x.toNat+1),qx ak dF r:=λr U=>iQ.F8 (auF r U) (r4 vN.fresh) λs ae t ht=>single (ji g.ae (by simp[b1.gp]) r U t ht) s ae
 have avf:jL D u dF:=ave.trans λb z aa av=>iQ b z aa λs ae=>av s (XB s (by simp at ae;simp[b1.gp,ae]))
 clear dt hx A iQ
 refine⟨λj w=>0<=j/\jL [g.is] dF w/\∃A:J o,A.length=g.ids.length/\aD ak w 3 1 g.is (A.flatMap encI),λj _=>g.is.n-j.toNat,⟨by omega,jL.refl _ _,_,rfl,asi⟩,?_⟩
 rintro j hh ⟨e9,vW,A,hx,jT⟩
 refine⟨λaP=>?_,λ_=>?_⟩
 obtain⟨jV,fL,_⟩:=jT.ints.at e9 aP
 exact⟨jV,fL,⟨e9,aP⟩,aD.store j4 jT (by decide) (i:=j.toNat) (by omega) (y:= -1) (s4 _) fL λu' bR he _=>⟨⟨by omega,by omega⟩,⟨by omega,vW.trans (he.bO (by simp)),_,by grind,bR⟩,by dsimp only;omega⟩⟩
 have aje:=vW.own awj (r4 Lz.fresh) (single (adu g.is (by simp[b1.gp])).symm)
 have auH:∀r∈rest.drop (x.toNat+1),qx ak hh r:=λr U=>vW.F8 (auG r U) (r4 Lz.fresh) λs ae t ht=>single (ji g.is (by simp[b1.gp]) r U t ht) s ae
 have avg:jL D u hh:=avf.trans λb z aa av=>vW b z aa λs ae=>av s (XB s (by simp at ae;simp[b1.gp,ae]))
 clear jT hx A vW
 refine⟨p,ad,⟨bK,M⟩,?_⟩
 rw[show([cN .i64 0,.slice none 0 0,.slice none 0 0,.int .u64 0,.int .u64 0,.slice none 0 0]:J ap)=qD ⟨0,⟨none,0,0⟩,⟨none,0,0⟩,0,⟨none,0,0⟩,[],[],[]⟩ from by simp[qD,E9,F1]]
 refine aD.store Li aje (by decide) (i:=x.toNat) (by simp;omega) (y:=⟨0,⟨none,0,0⟩,⟨none,0,0⟩,0,⟨none,0,0⟩,[],[],[]⟩) (art _) ad λu' bR he _=>⟨⟨by omega,by omega⟩,⟨by omega,by omega,avg.trans (he.bO ((NA a6).2 (.inr (.inr (.inl rfl))))),⟨Co++ [⟨0,⟨none,0,0⟩,⟨none,0,0⟩,0,⟨none,0,0⟩,[],[],[]⟩],by simp;omega,?_⟩,λr U=>?_⟩,by dsimp only;omega⟩
 rw[(UF Rx Z).1] at bR
 rw[show(x+1).toNat=x.toNat+1 by omega]
 exact bR
 rw[show(x+1).toNat=x.toNat+1 by omega] at U
 exact(he.bO (D:=[a6]) (by simp)).F8 (auH r U) (r4 aje.fresh) λs ae t ht=>single (aDb r U t ht) s ae
def oI(x y:O->o):O->o
 |0=>0|n+1=>oI x y n+x n*y n
def Xb(x:O->o)(n:O):0<=oI x x n:=by
 induction n with
 |zero=>exact ps _|succ n aW=>
  have:0<=x n*x n:=by by_cases h:0<=x n;exact sy h h;exact acb (by omega) (by omega)
  unfold oI;omega
theorem aq2(a b:o)(x y:O->o)(n:O):oI (λi=>a*x i-b*y i) (λi=>a*x i-b*y i) n=a*a*oI x x n-2*(a*b)*oI x y n+b*b*oI y y n:=by
 induction n with
 |zero=>simp[oI]|succ n aW=>
  unfold oI
  grind
theorem aqC(x y:O->o)(n:O):oI x y n*oI x y n<=oI x x n*oI y y n:=by
 have M:=Xb x n;have aj:=Xb y n;have h:=λa b=>(aq2 a b x y n)▸Xb (λi=>a*x i-b*y i) n;generalize oI x x n=p at*;generalize oI y y n=r at*;generalize oI x y n=q at*;by_cases U:0<r;have h1:=h r q;have e:r*r*p-2*(r*q)*q+q*q*r=r*(p*r-q*q):=by grind
 rw[e] at h1;by_cases I:0<=p*r-q*q;omega;have:=Int.mul_neg_of_pos_of_neg U (show p*r-q*q<0 by omega);omega;have oj:r=0:=by omega
 subst oj;have h1:=h 1 (p+1);have h2:=h 1 (-(p+1));have aT:(1:o)*1*p-2*(1*(p+1))*q+(p+1)*(p+1)*0=p-2*((p+1)*q):=by grind
 have aN:(1:o)*1*p-2*(1*(-(p+1)))*q+(-(p+1))*(-(p+1))*0=p+2*((p+1)*q):=by grind
 rw[aT] at h1;rw[aN] at h2;have aL:q=0:=by by_cases h3:1<=q;have:(p+1)*1<=(p+1)*q:=DB h3 (by omega);omega;by_cases br:q<=-1;have:(p+1)*q<=(p+1)*(-1):=DB br (by omega);omega;omega
 rw[aL];omega
def ani(a b:J o)(n:O):gb a b n=oI (λi=>a.getD i 0-b.getD i 0) (λi=>a.getD i 0-b.getD i 0) n:=by
 induction n with
 |zero=>rfl|succ n aW=>unfold gb oI;rw[aW];rfl
theorem aC9(c v q:J o)(n:O):gb c q n=gb c v n+gb v q n+2*oI (λi=>c.getD i 0-v.getD i 0) (λi=>v.getD i 0-q.getD i 0) n:=by
 induction n with
 |zero=>rfl|succ n aW=>
  unfold gb oI lY
  grind
theorem ap3{D E F P cD:o}(fe:D=E+F+2*P)(r5:0<=E)(r6:0<=F)(uw:0<=D)(xf:P*P<=E*F)(X1:E<=cD):Em D cD<=F:=by
 obtain⟨s0,s1,_⟩:=zQ uw;obtain⟨t0,t1,t2⟩:=zQ (show 0<=cD by omega);unfold Em;generalize aV:(if rt cD*rt cD=cD then rt cD else rt cD+1)=T;have n5:0<=T/\cD<=T*T:=by grind
 generalize rt D=s at*;split;rename_i bP;by_cases I:(s-T)*(s-T)<=F;exact I;exfalso;by_cases ad:P<=T*(s-T)
 grind
 have aE:0<=T*(s-T):=sy n5.1 (by omega);have h1:=aDa aE (show T*(s-T)<P by omega);have h2:E*F<=(T*T)*((s-T)*(s-T)):=By (by omega) (by omega) r6 (by omega)
 grind
 exact r6
theorem ap9{bm hi v:J o}:∀n,(∀i,i<n->bm.getD i 0<=v.getD i 0/\v.getD i 0<=hi.getD i 0)->qz bm hi q n<=gb v q n:=by
 intro n;induction n with
 |zero=>intro _;exact ps _
 |succ n aW=>
  intro h;have h1:=aW λi hi=>h i (by omega);obtain⟨h2,h3⟩:=h n (by omega);unfold qz gb lY;generalize bm.getD n 0=a at*;generalize hi.getD n 0=b at*;generalize v.getD n 0=x at*;generalize q.getD n 0=y at*;have aE:0<=(x-y)*(x-y):=by by_cases h:0<=x-y;exact sy h h;exact acb (by omega) (by omega)
  have aT:y<a->(a-y)*(a-y)<=(x-y)*(x-y):=λ_=>GS (by omega) (by omega);have aN:b<y->(y-b)*(y-b)<=(x-y)*(x-y):=λ_=>by
   have:=GS (show 0<=y-b by omega) (show y-b<=y-x by omega)
   grind
  split<;>split<;>omega
def azd{r:b1}{v:J o}(U:l3 r q.length)(aB:v.length=q.length)(uZ:cY v)(aL:cY q)(ch:mq r v):nS r q<=gb v q v.length:=by
 unfold nS;have r6:=(GR uZ aL v.length (cw _) (by omega)).1;rcases U.shape with⟨e,_⟩|⟨e,_,v1,v2,dN,eZ,hle⟩|⟨e,aN,v1,dN,tr⟩;omega;rw[b3 e,<-aB];exact ap9 _ λi hi=>ch.1 e i hi;rw[bF (by omega),b3 e];have aq:r.bm.length=v.length:=by omega
 have r5:=(GR v1 uZ r.bm.length (cw _) (by omega)).1;have fe:=(GR v1 aL r.bm.length (cw _) (by omega)).1;have h3:=aC9 r.bm v q r.bm.length;have X1:=ch.2 e;rw[aq] at r5 fe h3 X1 ⊢;refine ap3 h3 r5 r6 fe ?_ X1;rw[ani r.bm v,ani v q];exact aqC _ _ _
theorem rowsOf:∀(S:J o) (L:J ax),S.Perm (L.map (·.id))->∃m:J ax,m.Perm L/\m.map (·.id)=S:=by
 intro S;induction S with
 |nil=>
  simp_all|cons x S aW=>
  intro L h;obtain⟨r,U,M⟩:=bQ.1 (h.mem_iff.1 (ik ..));obtain⟨A,B,rfl⟩:=acn U;have bL:S.Perm ((A++B).map (·.id)):=by
   have gA:(x::S).Perm (x::(A++B).map (·.id)):=by refine h.trans ?_;rw[en,iw,en,M];exact zJ
   exact(List.perm_cons x).1 gA
  obtain⟨m,Iw,tj⟩:=aW _ bL;exact⟨r::m,(Iw.cons r).trans zJ.symm,by grind⟩
def aDU{k:O}{a:J bN}(az:k<=a.length):∀{b:J bN},(∀x∈b,∀y∈e1 k a,bP x y=ao)->e1 k (b++a)=e1 k a:=by
 intro b;induction b with
 |nil=>intro _;rfl
 |cons x b aW=>intro h;have h1:=aW λW aE=>h W (iX _ aE);rw[x7,adM (by rw[gG];omega) (by rw[h1];exact h x (ik ..)),h1]
theorem Sound.parts{L:J ax}{rest:J b1}(h:Sound L q k eE seen rest):∃m1 m2:J ax,(m1++m2).Perm L/\m1.map (·.id)=seen/\m2.map (·.id)=rest.flatMap (·.ids)/\eE=e1 k.toNat (m1.map (hj q)):=by
 obtain⟨m,Iw,tj⟩:=rowsOf _ L h.all;have ae:(m.take seen.length).map (·.id)=seen:=by simp_all
 have av:(m.drop seen.length).map (·.id)=rest.flatMap (·.ids):=by simp_all
 refine⟨m.take seen.length,m.drop seen.length,by simp_all,ae,av,?_⟩;exact h.first _ (λr U=>Iw.mem_iff.1 (oW U)) ae
def Sound.af4{L:J ax}{rest:J b1}(h:Sound L q k eE seen rest)(aL:jx L q):∀g∈eE,jJ g.2:=by obtain⟨m1,m2,ad,_,_,e⟩:=h.parts;intro g Z;rw[e] at Z;obtain⟨r,U,rfl⟩:=bQ.1 (aDV Z);exact aL.fs (ad.mem_iff.1 (kG _ U))
theorem Sound.co{L:J ax}{rest:J b1}(h:Sound L q k eE seen rest):∀r∈rest,(∀x∈r.bm,jP x)/\∀x∈r.hi,jP x:=by
 intro r U;have all:∀{v:J o},cY v->∀x∈v,jP x:=λaB x M=>by obtain⟨i,hi,rfl⟩:=oX M;have:=aB.2 i hi;rwa[jX,dj hi] at this
 rcases(h.kb r U).1.shape with⟨_,aT,aN,_⟩|⟨_,_,v1,v2,_,_,_⟩|⟨_,aN,v1,_,_⟩
 grind
 grind
 grind
def acC(W:o×o×J o×J o×J o):b1:=⟨W.1,⟨none,0,0⟩,⟨none,0,0⟩,W.2.1,⟨none,0,0⟩,W.2.2.1,W.2.2.2.1,W.2.2.2.2⟩
def aAx(l:J (o×o×J o×J o×J o)):(l.map acC).map b1.core=l:=by rw[e4];exact Gv _
theorem Sound.aqL{L:J ax}{rest:J b1}(h:Sound L q k eE seen rest)(aL:jx L q)(hk:1<=k)(I:sO q k eE rest):eE=e1 k.toNat (L.map (hj q)):=by
 obtain⟨m1,m2,ad,ae,av,e⟩:=h.parts;have Ft:((m2++m1).map (hj q)).Perm (L.map (hj q)):=(List.perm_append_comm.trans ad).map _;rw[<-DS Ft,en];rcases I with I|⟨hlen,I⟩
 simp_all
 have aq:(e1 k.toNat (m1.map (hj q))).length=k.toNat:=by rw[<-e];have:=zX k.toNat (m1.map (hj q));rw[<-e] at this;omega
 have nf:k.toNat<=(m1.map (hj q)).length:=by have:=zX k.toNat (m1.map (hj q));omega
 rw[aDU nf λx M y aj=>?_,e];obtain⟨w,hw,rfl⟩:=bQ.1 M;have axk:w∈L:=ad.mem_iff.1 (q1 _ hw);have cy:w.id∈rest.flatMap (·.ids):=by grind
 obtain⟨r,U,uU⟩:=eA.1 cy;obtain⟨IH,_,eL⟩:=h.kb r U;obtain⟨w',lh,he,ch⟩:=eL _ uU;have s6:w'=w:=by
  have b8:=aL.rows.nodup;rw[Ow,tR,lW] at b8;obtain⟨i,hi,rfl⟩:=oX lh;obtain⟨j,aP,rfl⟩:=oX axk;by_cases h1:i<j
  grind
  grind
 subst s6;obtain⟨Bf,uZ⟩:=aL.rows.v _ lh;have aJp:=azd IH (by omega) uZ aL.Ha ch;have qK:=I r U;have Iv:y.2<=(eE.getD (k-1).toNat default).2:=by
  have mB:=UG k.toNat (m1.map (hj q));rw[<-e] at mB aj aq;obtain⟨i,hi,rfl⟩:=oX aj;have y2:(k-1).toNat<eE.length:=by omega
  rw[jX,dj y2];show eE[i].2<=eE[(k-1).toNat].2;by_cases jd:i=(k-1).toNat
  grind
  have:=lW.1 mB i (k-1).toNat hi y2 (by omega);rw[C3] at this;omega
 rw[C3];left;show y.2<gb w'.v q w'.v.length;omega
def zP{eo:J ax}(av:1<=d/\d<=64)(hlen:eo.length<=512)(b8:(eo.map (·.id)).Nodup)(h:∀p∈eo.map ax.bn,1<=p.1/\p.1<=1000000000/\(p.2.length:o)=d/\cY p.2):gD eo d:=
 ⟨av,hlen,λr U=>⟨(h r.bn (kH U)).1,(h r.bn (kH U)).2.1⟩,b8,λr U=>(h r.bn (kH U)).2.2⟩
def ayY:ov aH 265 "Len" 171 ao=ai:=by kernel_rfl
def ayZ:ov aH 265 "Less" 325 ao=ai:=by kernel_rfl
def nSwap:ov aH 265 "Swap" 326 ao=ai:=by kernel_rfl
def ay1:ov aH 265 "Push" 328 ai=ai:=by kernel_rfl
def ay0:ov aH 265 "Pop" 327 ai=ai:=by kernel_rfl
def aBn:q5 aH 263=some (.one .slice):=by kernel_rfl
def adX:aH.underlying 265=some (.pointer 263):=by kernel_rfl
def anE:ku aH 263=some (68,3,24,[.int .i64 0,.int .u64 0,.int .u64 0]):=by kernel_rfl
def afA(x y W:o):kO aH 263 1 #[(0,.agg #[.int .i64 x,.int .u64 y,.int .u64 W])]=some (68,[.int .i64 x,.int .u64 y,.int .u64 W]):=by kernel_rfl
def ay3:hy aH 171=ai:=by kernel_rfl
def ay4:hy aH 325=ai:=by kernel_rfl
def ay7:hy aH 326=ai:=by kernel_rfl
def ay6:hy aH 328=ai:=by kernel_rfl
def ay5:hy aH 327=ai:=by kernel_rfl
def aD.front{k:O}{s:N}(h:aD ak u e k s xs){m:O}(hm:m<=s.n):aD ak u e k (s.part 0 m s.c k) (xs.take (m*k))/\(s.part 0 m s.c k).al=s.al/\(s.part 0 m s.c k).n=m:=by
 have az:(s.part 0 m s.c k).a=s.a:=by unfold N.part;simp only;split;rfl;rw[JD];cases s.a<;>simp[Addr.add_zero']
 have aa:(s.part 0 m s.c k).al=s.al:=by unfold N.al;rw[az]
 refine⟨⟨⟨?_,?_⟩,h.le,λg Z=>h.fresh g (aa▸Z)⟩,aa,rfl⟩;show _=(m-0)*k;rw[iV,h.own.len,zI,Oq (tO _ hm)];rcases h.own.is with h0|⟨g,cur,aT,aN,dG,gz,gI,nE⟩;left;subst h0;have:m=0:=by simpa using hm
 subst this;simp[N.part];right;refine⟨g,cur,az.trans aT,aN,?_,?_,?_,?_⟩;show m-0<=s.c-0;omega;show s.c-0<=_;omega;show cur.size=(s.c-0)*k;omega;show cur.toList.take ((m-0)*k)=_;rw[zI,<-nE,aco,Oq (tO _ hm)]
structure rb(ak:H)(n:O)(u:H)(l:J bN):Prop where
 ex:∃s:N,u n=some (.cells #[.slice s.a s.n s.c] 263 (0,0))/\aD ak u 68 3 s (l.flatMap eO)/\s.al≠some n
 out:ak n=none
 small:l.length<=1000000
def abF(n:O):ap:=.iface 265 (.pointer (some (cp n 0 none)))
def abG{s:N}{name:String}(hm:ov aH 265 name f ao=ai)(ag:u n=some (.cells #[.slice s.a s.n s.c] 263 (0,0)))(w:ci)(hw:Sub u w):
  (method (aH.types.size+tM) 265 (.pointer (some (cp n 0 none))) name).run aH w=.ok (f,.slice s.a s.n s.c) w:=by
 obtain⟨i,m,h1,h2,h3,br⟩:=Bn hm
 obtain⟨dY,dk⟩:=AD
 rw[dk]
 refine acI h1 h2 h3 br adX ?_
 have I:u.cell? (cp n 0 none)=some (.slice s.a s.n s.c):=aZ ag 0
 have yT:=hw.cell I
 exact Jc aBn (cp n 0 none) (vs:=[.slice s.a s.n s.c]) rfl (ach _ _ _ _ _ rfl (λj v aP=>by
  cases j with
  |zero=>simp at aP;subst aP;exact yT|succ j=>simp at aP)) (λc I=>⟨_,rfl,yT⟩)
def aB3{s:N}{l:J bN}{i j:o}(ae:lL u s l)(i0:0<=i)(i1:i<l.length)(e9:0<=j)(kU:j<l.length)
  (h:K (bP (l.getD i.toNat default) (l.getD j.toNat default)) u):aeu s i j u K:=by
 have ag:=ae.len
 apply aFf
 obtain⟨p,ad,x,M,bA,c1,c2⟩:=ae.at e9 (show j<(s.n:o) by omega)
 obtain⟨q,aL,y,aj,d0,d1,d2⟩:=ae.at i0 (show i<(s.n:o) by omega)
 rw[Q8 M,Q8 aj] at h
 exact⟨q,aL,⟨i0,by omega⟩,p,ad,⟨e9,by omega⟩,_,d0,_,d1,_,d2,_,bA,_,c1,_,c2,Kg h⟩
theorem aB4{s:N}{l:J bN}{i j:o}{K:H->Prop}(ac:aD ak u 68 3 s (l.flatMap eO))(i0:0<=i)(i1:i<l.length)(e9:0<=j)(kU:j<l.length)
  (h:∀u',aD ak u' 68 3 s ((jZ l i.toNat j.toNat).flatMap eO)->hc u u' s->K u'):aev s i j u K:=by
 have ae:=ac.fk
 have ag:=ae.len
 apply aFi
 obtain⟨p,ad,x,M,bA,c1,c2⟩:=ae.at e9 (show j<(s.n:o) by omega)
 obtain⟨q,aL,y,aj,d0,d1,d2⟩:=ae.at i0 (show i<(s.n:o) by omega)
 refine⟨p,ad,⟨e9,by omega⟩,q,aL,⟨i0,by omega⟩,_,bA,_,c1,_,c2,_,d0,_,d1,_,d2,q,aL,⟨i0,by omega⟩,?_⟩
 refine aD.store (enc:=eO) pO ac (by decide) (i:=i.toNat) (by omega) (y:=x) (yH x) aL λaR jl yV _=>⟨p,ad,⟨e9,by omega⟩,?_⟩
 refine aD.store (enc:=eO) pO jl (by decide) (i:=j.toNat) (by simp;omega) (y:=y) (yH y) ad λcF dt jy _=>h cF ?_ (λb z aa an=>jy b z (yV b z aa an) an)
 have ey:i.toNat<l.length:=by omega
 have kC:j.toNat<l.length:=by omega
 have ex:l[j.toNat]=x:=by grind
 have r2:l[i.toNat]=y:=by grind
 rw[GX ey kC,ex,r2]
 exact dt
def rb.set{l bH:J bN}{s:N}(h:rb ak n u l)(ag:u n=some (.cells #[.slice s.a s.n s.c] 263 (0,0)))(ae:s.al≠some n)
  (ac:aD ak u' 68 3 s (bH.flatMap eO)) (he:hc u u' s) (aq:bH.length=l.length):rb ak n u' bH:=
 ⟨⟨s,he _ _ ag ae,ac,ae⟩,h.out,by rw[aq];exact h.small⟩
def akH(ak:H)(n:O):vA (abF n) (rb ak n) bP where
 len:=by intro u l K h au;obtain⟨s,ag,ac,_⟩:=h.ex;refine⟨_,_,_,_,rfl,λw hw=>abG ayY ag w hw,hs ay3,aog s u K ?_⟩;rw[ac.fk.len];exact au
 less:=by intro u l i j K h i0 i1 e9 kU au;obtain⟨s,ag,ac,_⟩:=h.ex;exact⟨_,_,_,_,rfl,λw hw=>abG ayZ ag w hw,hs ay4,aB3 ac.fk i0 i1 e9 kU au⟩
 swap:=by intro u l i j K h i0 i1 e9 kU au;obtain⟨s,ag,ac,an⟩:=h.ex;exact⟨_,_,_,_,rfl,λw hw=>abG nSwap ag w hw,hs ay7,aB4 ac i0 i1 e9 kU λu' bR he=>au u' (h.set ag an bR he (qj _ _ _))⟩
 small:=λh=>by have:=h.small;omega
def akI:o5 bP where
 asymm:=λ_ _ h=>Fh h
 trans:=λ_ _ _ h k=>C2 h k
def apG(h:bN)(w:ci):(so (.iface 68 (.agg #[.int .i64 h.1,.int .u64 (cQ h.2),.int .u64 (cS h.2)])) 20 68 ao).run aH w=
  .ok (.agg #[.int .i64 h.1,.int .u64 (cQ h.2),.int .u64 (cS h.2)]) w:=by kernel_rfl
def CX(h:bN):ap:=.iface 68 (.agg #[.int .i64 h.1,.int .u64 (cQ h.2),.int .u64 (cS h.2)])
def amb{h:bN}{K:o->o->o->H->Prop}(au:K h.1 (cQ h.2) (cS h.2) u):c7 aH (so (CX h) 20 68 ao) [.agg [.int .i64,.int .u64,.int .u64]] u K:=
 c7.pure [.int .i64 h.1,.int .u64 (cQ h.2),.int .u64 (cS h.2)] (λw _=>apG h w) (.cons (t:=.int .i64) _ (.cons (t:=.int .u64) _ (.cons (t:=.int .u64) _ .nil))) au
theorem azf{l:J bN}{x:bN}{K:H->Prop}(h:rb ak n u l)(aq:l.length<1000000)(au:∀u',rb ak n u' (l++ [x])->K u'):
  nv aH (abF n) "Push" #[CX x] [] u K:=by
 obtain⟨s,ag,ac,an⟩:=h.ex
 obtain⟨i,m,h1,h2,h3,br⟩:=Bn ay1
 obtain⟨dY,dk⟩:=AD
 refine⟨_,_,_,_,rfl,λw _=>by rw[dk];exact J1 h1 h2 h3 br adX,hs ay6,?_⟩
 refine aFh (some (cp n 0 none)) _ u K ?_
 refine⟨_,rfl,s,aZ ag 0,amb ⟨H.le.refl u,?_⟩⟩
 have ad:=zT (P:=aH) (K:=λga o0=>∃OG:a8,some (cp n 0 none)=some OG/\H.aM o0 OG [.slice ga.a ga.n ga.c] K) anE (afA x.1 (cQ x.2) (cS x.2)) (by decide) rfl (by simp[cI]) ac (by have:=ac.fk.len;omega) (by have:=ac.fk.len;omega) λar u' bR hY he hblk _=>⟨_,rfl,?_⟩
 exact ad
 have fK:=he _ _ ag an
 have kS:ar.al≠some n:=λe=>by
  grind
 refine⟨_,_,fK,rfl,by simp,by simp[cI],au _ ⟨⟨ar,bh _ _ _,⟨?_,?_,bR.fresh⟩,kS⟩,h.out,by simp;omega⟩⟩
 rw[Xx] at bR
 exact bR.own.le λb z aa cC=>by rw[bz _ _ (λe=>kS (by rw[aa,e]))];exact cC
 intro b z aa
 rw[bz _ _ (λe=>by rw[e,h.out] at aa;cases aa)]
 exact bR.le b z aa
theorem aze{l:J bN}{K:ap->H->Prop}(h:rb ak n u l)(aq:0<l.length)(au:∀u',rb ak n u' l.dropLast->K (CX (l.getD (l.length-1) default)) u'):
  nv aH (abF n) "Pop" #[] [.one .val] u K:=by
 obtain⟨s,ag,ac,an⟩:=h.ex
 obtain⟨i,m,h1,h2,h3,br⟩:=Bn ay0
 obtain⟨dY,dk⟩:=AD
 refine⟨_,_,_,_,rfl,λw _=>by rw[dk];exact J1 h1 h2 h3 br adX,hs ay5,?_⟩
 refine aFg (some (cp n 0 none)) u K ?_
 have dS:=ac.fk.len
 have I:u.cell? (cp n 0 none)=some (.slice s.a s.n s.c):=aZ ag 0
 have fX:=h.small
 obtain⟨p,ad,x,M,bA,c1,c2⟩:=ac.fk.at (x:=(s.n:o)-1) (by omega) (by omega)
 have eY:l.getD (l.length-1) default=x:=by simp_all
 intro iK iM
 refine⟨_,rfl,_,rfl,s,I,s,I,⟨by omega,by omega⟩,p,ad,⟨by omega,by omega⟩,_,bA,_,c1,_,c2,λm hm=>⟨bX _ hm,?_⟩⟩
 have rq:m≠n:=λe=>by grind
 refine⟨_,_,bh _ _ _,rfl,by simp,by simp[cI],iM _ _ ⟨_,rfl,_,rfl,s,?_,s,?_,⟨by omega,by omega⟩,?_⟩⟩
 simp only[H.cell?,bz _ _ (e3 rq)];simpa[H.cell?] using I
 simp only[H.cell?,bz _ _ (e3 rq)];simpa[H.cell?] using I
 have fQ:s.n<=s.c:=(bw.cap ac.own.cK)
 obtain⟨ab,AQ,uF⟩:=ac.front (m:=s.n-1) (by omega)
 refine kJ (P:=aH) anE (l:=0) (h:=s.n-1) (m:=s.c) (.inl ⟨rfl,rfl⟩) (.inr ?_) (.inl ⟨rfl,rfl⟩) (by omega) (by omega) (cw _) fQ ⟨_,rfl,?_⟩
 grind
 refine⟨_,_,by simp only[];rw[bz _ _ (e3 rq),bz _ _ (e3 rq)];exact ag,rfl,by simp,by simp[cI],?_⟩
 have c4:∀(j:O) v,([.int .i64 x.1,.int .u64 (cQ x.2),.int .u64 (cS x.2)]:J ap)[j]?=some v->H.cell? ((((u.ins m (.cells #[.int .i64 0,.int .u64 0,.int .u64 0] 68 (0,0))).ins m (.cells (wr #[.int .i64 0,.int .u64 0,.int .u64 0] 0 [.int .i64 x.1,.int .u64 (cQ x.2),.int .u64 (cS x.2)]) 68 (0,0))).ins n
   (.cells (wr #[.slice s.a s.n s.c] 0 [.slice (s.part 0 (s.n-1) s.c 3).a (s.part 0 (s.n-1) s.c 3).n (s.part 0 (s.n-1) s.c 3).c]) 263 (0,0)))) ((cp m 0 none).add j)=some v:=by
  intro j v aP
  simp only[H.cell?,ib,kY,bz _ _ rq,bh]
  rcases j with _|_|_|j
  simpa[wr] using aP
  simpa[wr] using aP
  simpa[wr] using aP
  simp at aP
 have d0:=c4 0 _ rfl
 have d1:=c4 1 _ rfl
 have d2:=c4 2 _ rfl
 rw[Addr.add_zero'] at d0
 refine⟨_,d0,_,d1,_,d2,?_⟩
 have e:CX x=CX (l.getD (l.length-1) default):=by rw[eY]
 show K (CX x) _
 rw[e]
 have De:(l.flatMap eO).take ((s.n-1)*3)=l.dropLast.flatMap eO:=by rw[yK pO,dS,List.dropLast_eq_take]
 rw[De] at ab
 have fV:(s.part 0 (s.n-1) s.c 3).al≠some n:=by rw[AQ];exact an
 refine au _ ⟨⟨_,bh _ _ _,⟨?_,?_,ab.fresh⟩,fV⟩,h.out,by simp;omega⟩
 refine ab.own.le λb z aa cC=>?_
 rw[bz _ _ (λe=>fV (by rw[aa,e])),bz _ _ (λe=>by grind),bz _ _ (λe=>by grind)]
 exact cC
 intro b z aa
 have RD:=ab.le b z aa
 rw[bz _ _ (λe=>by rw[e,h.out] at aa;cases aa),bz _ _ (λe=>by grind),bz _ _ (λe=>by grind)]
 exact RD
theorem aBV{α:Type}[lF α]{recv:ap}{aM:H->J α->Prop}{lt:α->α->ay}(dn:vA recv aM lt)(L:o5 lt){V:α->ap}{l:J α}{K:ap->H->Prop}(ae:aM u l)(cb:iJ lt l.length l)(an:0<l.length)
  (ZR:∀{u':H} {bH:J α} {K:ap->H->Prop},aM u' bH->0<bH.length->(∀jv,aM jv bH.dropLast->K (V (bH.getD (bH.length-1) default)) jv)->nv aH recv "Pop" #[] [.one .val] u' K)
  (au:∀u' bH x,aM u' bH->(x::bH).Perm l->iJ lt bH.length bH->(∀y∈bH,lt y x=ao)->K (V x) u'):D4 recv u K:=by
 apply aob
 have fX:=dn.small ae
 refine dn.len ae ⟨⟨by omega,by omega⟩,dn.swap ae (by omega) (by omega) (by omega) (by omega) λaR ea=>?_⟩
 obtain⟨n,ag⟩:∃n,l.length=n+1:=⟨l.length-1,by omega⟩
 have aT:(((l.length:o)-1).toNat)=n:=by omega
 rw[aT] at ea
 have h0:(0:o).toNat=0:=rfl
 rw[h0] at ea
 have hX:(jZ l 0 n).length=n+1:=by rw[qj,ag]
 refine amB dn L ea (by omega) (by omega) (by rw[aT];refine⟨by omega,λi i0 i1 i2=>?_,λi i0 i1 i2 h=>by simp at h⟩;have aaX:dh i≠0:=i2;rw[DQ (by omega) (by omega) (by omega),DQ (by omega) (by omega) (by unfold dh;omega)];rw[bF (by omega),bF (by omega),bF (by unfold dh;omega),bF aaX];exact cb i i0 (by omega)) (λb cF eZ dJ eX yY iQ=>?_) (.inr (by omega))
 rw[aT] at yY
 have iR:eZ.length=n+1:=by grind
 have M:eZ.getD (eZ.length-1) default=l.getD 0 default:=by have:=iQ n (by omega);rw[jX,iR,Nat.add_sub_cancel,this,<-jX,DQ (by omega) (by omega) (by omega)];split;rfl;omega
 refine ZR dJ (by omega) λil v8=>?_
 rw[M]
 have Iv:eZ.dropLast++ [l.getD 0 default]=eZ:=by
  rw[<-M];have y9:eZ≠[]:=λe=>by grind
  have:=acf y9;rw[List.getLast_eq_getElem] at this;rw[jX,dj (by omega)];exact this
 have gF:(l.getD 0 default::eZ.dropLast).Perm l:=by refine JQ ?_ (eX.trans (DR (by omega) (by omega)));rw[<-Iv,List.dropLast_concat];exact(mH _ _).symm
 refine au _ _ _ v8 gF (λi i0 i1=>?_) λy aj=>?_
 have CT:eZ.dropLast.length=n:=by simp[iR]
 have g:∀k,k<n->eZ.dropLast.getD k default=eZ.getD k default:=λk hk=>by
  grind
 rw[g i (by omega),g _ (by unfold dh;omega)]
 exact yY i i0 (by omega)
 have FI:y∈l:=gF.mem_iff.1 (iX _ aj)
 obtain⟨i,hi,rfl⟩:=pv.1 FI
 have:=cb.root L i hi
 grind
end
