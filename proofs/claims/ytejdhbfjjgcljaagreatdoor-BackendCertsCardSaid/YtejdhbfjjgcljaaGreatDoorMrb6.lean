/- Texts of mine, joined and packed by pack.py. -/
import Derived.Test.YtejdhbfjjgcljaaGreatDoorMrb5
import Derived.Laws.IdiomCopy
set_option linter.all false
open Go renaming Program->dT,Value->ao,World->cg,TypeId->dF,FuncId->jQ,Addr->bc,madeCells->oC
open _root_ renaming Nat->N,List->M,Array->cv,Int->o,Bool->aD,absurd->aV
open Bool renaming true->ak,false->ax
open Go.IntKind renaming wrap->bV,u64->bo
open Go.Builtin renaming append_->ee
open Go.Addr renaming add->eu,mk->cw
open Go.Proofs.Tryz renaming prog->aH
open Go.Value renaming int->cJ,oneCell'->cK
open Int renaming tdiv->ff
open List renaming zipWith->lA,replicate->gu,length->iC
set_option maxRecDepth 100000
noncomputable section
namespace Go.Proofs.YtejdhbfjjgcljaaGreatDoor
open H
section
variable{u:H}{g:N}{d:M o}
def aeZ{k:N}(hk:k<d.length):eY (d.take (k+1))=eY (d.take k)+d.getD k 0*et k:=by rw[gJ,Wz,gq,BR (by omega),cy hk,dm,cy hk];simp[eY,O6]
def aeY(ar:∀x∈d,0<=x/\x<65536)(k:N):eY (d.take k)<=eY d:=by have h1:=Wz (d.take k) (d.drop k);rw[q2] at h1;have h2:0<=eY (d.drop k):=Cy λx J=>ar x (sG J);have h3:0<=et (d.take k).length*eY (d.drop k):=r2 (by have:=tz (d.take k).length;omega) h2;omega
def ax9{x y:o}(J:0<=x/\x<65536)(ai:0<=y/\y<65536):0<=x*y/\x*y<=4294836225:=by refine⟨r2 J.1 ai.1,?_⟩;have:=zO (show x<=65535 by omega) (show y<=65535 by omega) ai.1 (by omega);omega
def aBE{a b:M o}{K:o->o->o->o->o->o->o->o->aD->H->Prop}(ay:rf a)(aa:rf b)(ag:eY a*eY b<et 8)
  (h:∀gN:M o,rf gN->eY gN=eY a*eY b->K (gN.getD 0 0) (gN.getD 1 0) (gN.getD 2 0) (gN.getD 3 0) (gN.getD 4 0) (gN.getD 5 0) (gN.getD 6 0) (gN.getD 7 0) ax u):
  V7 (a.getD 0 0) (a.getD 1 0) (a.getD 2 0) (a.getD 3 0) (a.getD 4 0) (a.getD 5 0) (a.getD 6 0) (a.getD 7 0) ax (b.getD 0 0) (b.getD 1 0) (b.getD 2 0) (b.getD 3 0) (b.getD 4 0) (b.getD 5 0) (b.getD 6 0) (b.getD 7 0) ax u K:=by
 refine hx.forget (ss:=[.agg [.int .i64,.int .i64,.int .i64,.int .i64,.int .i64,.int .i64,.int .i64,.int .i64,.bool]]) ?_
 apply aFa
 have CM:∀{d:M o},rf d->(#[cJ .i64 (d.getD 0 0),.int .i64 (d.getD 1 0),.int .i64 (d.getD 2 0),.int .i64 (d.getD 3 0),.int .i64 (d.getD 4 0),.int .i64 (d.getD 5 0),.int .i64 (d.getD 6 0),.int .i64 (d.getD 7 0),.bool ax]:cv ao)=iN d:=λar=>by
  conv=>rhs;rw[Lz ar.1]
  rfl
 rw[CM ay,CM aa]
 intro n ae m hm
 have lY:m≠n:=λe=>by rw[e,bi] at hm;cases hm
 have hle:u.le ((u.ins n (.cells (iN a) 155 (0,0))).ins m (.cells (iN b) 155 (0,0))):=(bZ _ ae).trans (bZ _ hm)
 have fP:∀(x:bc),x.block=n->((u.ins n (.cells (iN a) 155 (0,0))).ins m (.cells (iN b) 155 (0,0))).cell? x=(u.ins n (.cells (iN a) 155 (0,0))).cell? x:=λx J=>by unfold H.cell?;rw[J,bq _ _ (dG lY)]
 have yI:∀{i:o},0<=i->i<8->((u.ins n (.cells (iN a) 155 (0,0))).ins m (.cells (iN b) 155 (0,0))).cell? ((cw n 0 none).add (i.toNat*1))=some (.int .i64 (a.getD i.toNat 0)):=λh0 h1=>by rw[wu,iP,ki,fP _ rfl];exact zB ay.1 (by omega)
 have lT:∀{i:o},0<=i->i<8->((u.ins n (.cells (iN a) 155 (0,0))).ins m (.cells (iN b) 155 (0,0))).cell? ((cw m 0 none).add (i.toNat*1))=some (.int .i64 (b.getD i.toNat 0)):=λh0 h1=>Tw aa.1 h0 h1
 have tx:((u.ins n (.cells (iN a) 155 (0,0))).ins m (.cells (iN b) 155 (0,0))).cell? ((cw n 0 none).add 8)=some (.bool ax):=by rw[fP _ rfl];exact abF ay.1
 have ty:((u.ins n (.cells (iN a) 155 (0,0))).ins m (.cells (iN b) 155 (0,0))).cell? ((cw m 0 none).add 8)=some (.bool ax):=abF aa.1
 generalize ((u.ins n (.cells (iN a) 155 (0,0))).ins m (.cells (iN b) 155 (0,0)))=cQ at*
 intro o9 ph
 refine⟨ax,tx,λe=>(by cases e),λ_=>⟨ax,ty,ph _ _ _ _ _ _ _ _ _ _ ?_⟩⟩
 refine⟨λi bK dw x2 jV nm n1 tR KN z w=>w=cQ/\0<=i/\i<=8/\z=ax/\rf [bK,dw,x2,jV,nm,n1,tR,KN]/\eY [bK,dw,x2,jV,nm,n1,tR,KN]=eY (a.take i.toNat)*eY b,λi _ _ _ _ _ _ _ _ _ _=>(8-i).toNat,
  ⟨rfl,by omega,by omega,rfl,⟨rfl,λx J=>by simp at J;omega⟩,by simp[eY]⟩,?_⟩
 rintro i bK dw x2 jV nm n1 tR KN z w ⟨rfl,i0,i8,rfl,ar,aB⟩
 refine⟨λhi=>?_,λhi=>⟨hle,?_⟩⟩
 refine⟨λk hS ij jF o7 qt sQ Cn KO z w'=>w'=w/\0<=k/\k<=8/\z=ax/\rf [hS,ij,jF,o7,qt,sQ,Cn,KO]/\eY [hS,ij,jF,o7,qt,sQ,Cn,KO]=eY (a.take i.toNat)*eY b+a.getD i.toNat 0*et i.toNat*eY (b.take k.toNat),λk _ _ _ _ _ _ _ _ _ _=>(8-k).toNat,
   ⟨rfl,by omega,by omega,rfl,ar,by rw[aB];simp[eY]⟩,?_⟩
 rintro k hS ij jF o7 qt sQ Cn KO z w' ⟨rfl,jz,aHR,rfl,AT,oW⟩
 have auF:i.toNat<a.length:=by rw[ay.1];omega
 have ahr:=ay.get (i:=i.toNat) (by omega)
 have aQ:=aeZ auF
 refine⟨λhk=>?_,λhk=>?_⟩
 have MZ:k.toNat<b.length:=by rw[aa.1];omega
 have Mt:=aa.get (i:=k.toNat) (by omega)
 have aF:=aeZ MZ
 have ad:=ax9 ahr Mt
 have RW:=tz i.toNat
 have aGU:=tz k.toNat
 have cW:et (i+k).toNat=et i.toNat*et k.toNat:=by rw[<-ON];congr 1;omega
 have eH:=Cy aa.2
 have ej:eY (b.take (k.toNat+1))<=eY b:=aeY aa.2 _
 have eV:eY (a.take (i.toNat+1))<=eY a:=aeY ay.2 _
 have qQ:a.getD i.toNat 0*et i.toNat*eY (b.take (k.toNat+1))<=a.getD i.toNat 0*et i.toNat*eY b:=BV ej (r2 ahr.1 (by omega))
 have lK:eY (a.take (i.toNat+1))*eY b<=eY a*eY b:=DQ eV eH
 have Z8:eY [hS,ij,jF,o7,qt,sQ,Cn,KO]+a.getD i.toNat 0*b.getD k.toNat 0*et (i+k).toNat=eY (a.take i.toNat)*eY b+a.getD i.toNat 0*et i.toNat*eY (b.take (k.toNat+1)):=by
  rw[oW,aF,cW];generalize a.getD i.toNat 0=gX;generalize b.getD k.toNat 0=dv;generalize et i.toNat=mo;generalize et k.toNat=rV;generalize eY (b.take k.toNat)=sA
  grind
 have bw:eY [hS,ij,jF,o7,qt,sQ,Cn,KO]+a.getD i.toNat 0*b.getD k.toNat 0*et (i+k).toNat<et 8:=by rw[Z8];rw[aQ,Int.add_mul] at lK;omega
 refine⟨by decide,⟨i0,hi⟩,by decide,⟨jz,hk⟩,_,yI i0 hi,_,lT jz hk,⟨by omega,by omega⟩,?_⟩
 intro ao4 asr
 have Td:∀dp:aD,dp=ax->ao4 dp w':=λdp qG=>by rw[qG];refine asr ax w' ⟨λe=>(by cases e),λ_=>⟨⟨by omega,by omega⟩,?_⟩⟩;refine aBG (d:=[hS,ij,jF,o7,qt,sQ,Cn,KO]) AT (by omega) (by omega) ad.1 (by omega) (λ_=>bw) λgN oo gE=>⟨⟨by omega,by omega⟩,⟨rfl,by omega,by omega,rfl,?_,?_⟩,by dsimp only;omega⟩;rw[<-Lz oo.1];exact oo;rw[<-Lz oo.1,gE,Z8,show(k+1).toNat=k.toNat+1 by omega]
 refine⟨λoT=>⟨⟨by omega,by omega⟩,Td _ (o0 λmg=>?_)⟩,λ_=>Td _ rfl⟩
 have h1:=Cy AT.2
 have h2:et (i+k).toNat=et ((i+k).toNat-8)*et 8:=by rw[<-ON];congr 1;omega
 have h3:=tz ((i+k).toNat-8)
 have a7:=tz 8
 have bO:et 8<=et ((i+k).toNat-8)*et 8:=by have:=DQ h3 (by omega:0<=et 8);omega
 have e7:et (i+k).toNat<=a.getD i.toNat 0*b.getD k.toNat 0*et (i+k).toNat:=by have:=DQ (show 1<=a.getD i.toNat 0*b.getD k.toNat 0 by omega) (show 0<=et (i+k).toNat by have:=tz (i+k).toNat;omega);omega
 omega
 have ht:b.take 8=b:=gY (by rw[aa.1];omega)
 rw[show k.toNat=8 by omega,ht] at oW
 refine⟨⟨by omega,by omega⟩,⟨rfl,by omega,by omega,rfl,AT,?_⟩,by dsimp only;omega⟩
 rw[oW,show(i+1).toNat=i.toNat+1 by omega,aQ,Int.add_mul]
 rw[show i.toNat=8 by omega,gY (by rw[ay.1];omega)] at aB
 exact h _ ar aB
def aBF{K:o->o->H->Prop}(ar:rf d)(h:K (eY (d.drop 4)) (eY (d.take 4)) u):
  V8 (d.getD 0 0) (d.getD 1 0) (d.getD 2 0) (d.getD 3 0) (d.getD 4 0) (d.getD 5 0) (d.getD 6 0) (d.getD 7 0) ax u K:=by
 refine hx.forget (ss:=[.agg [.int .u64,.int .u64]]) ?_
 apply aFb
 have CM:(#[cJ .i64 (d.getD 0 0),.int .i64 (d.getD 1 0),.int .i64 (d.getD 2 0),.int .i64 (d.getD 3 0),.int .i64 (d.getD 4 0),.int .i64 (d.getD 5 0),.int .i64 (d.getD 6 0),.int .i64 (d.getD 7 0),.bool ax]:cv ao)=iN d:=by
  conv=>rhs;rw[Lz ar.1]
  rfl
 rw[CM]
 intro n ae
 refine⟨λi x y w=>w=u.ins n (.cells (iN d) 155 (0,0))/\ -1<=i/\i<=3/\x=eY ((d.drop 4).drop (i+1).toNat)/\y=eY ((d.take 4).drop (i+1).toNat),λi _ _ _=>(i+1).toNat,
  ⟨rfl,by omega,by omega,?_,?_⟩,?_⟩
 rw[show(3+1:o).toNat=4 from rfl,sC (by rw[mv,ar.1];omega)];rfl
 rw[show(3+1:o).toNat=4 from rfl,sC (by rw[gq,ar.1];omega)];rfl
 rintro i x y w ⟨rfl,i0,i3,J,ai⟩
 refine⟨λhi=>?_,λhi=>⟨bZ _ ae,?_⟩⟩
 have g1:=ar.get (i:=i.toNat) (by omega)
 have g2:=ar.get (i:=(4+i).toNat) (by omega)
 have oN:0<=x/\x<281474976710656:=by
  rw[J];have hm:∀Y∈(d.drop 4).drop (i+1).toNat,0<=Y/\Y<65536:=λY aC=>ar.2 Y (sG (sG aC));refine⟨Cy hm,?_⟩;have h1:=WA hm;rw[mv,mv,ar.1] at h1;have h2:et (8-4-(i+1).toNat)*et ((i+1).toNat-1)=et 3:=by rw[<-ON];congr 1;omega
  have h3:=tz ((i+1).toNat-1);have a7:=tz (8-4-(i+1).toNat);have bO:et (8-4-(i+1).toNat)<=et 3:=by have:=BV h3 (show 0<=et (8-4-(i+1).toNat) by omega);omega
  have e7:et 3=281474976710656:=by decide
  omega
 have aGE:0<=y/\y<281474976710656:=by
  rw[ai];have hm:∀Y∈(d.take 4).drop (i+1).toNat,0<=Y/\Y<65536:=λY aC=>ar.2 Y (mx (sG aC));refine⟨Cy hm,?_⟩;have h1:=WA hm;rw[mv,gq,ar.1] at h1;have h2:et (min 4 8-(i+1).toNat)*et ((i+1).toNat-1)=et 3:=by rw[<-ON];congr 1;omega
  have h3:=tz ((i+1).toNat-1);have a7:=tz (min 4 8-(i+1).toNat);have bO:et (min 4 8-(i+1).toNat)<=et 3:=by have:=BV h3 (show 0<=et (min 4 8-(i+1).toNat) by omega);omega
  have e7:et 3=281474976710656:=by decide
  omega
 have aq7:eY ((d.drop 4).drop i.toNat)=d.getD (4+i).toNat 0+65536*x:=by
  have ap:i.toNat<(d.drop 4).length:=by rw[mv,ar.1];omega
  rw[tF ap,J,show(i+1).toNat=i.toNat+1 by omega];simp only[eY,List.getElem_drop];rw[dm,cy (by rw[ar.1];omega)];simp only[show(4+i).toNat=4+i.toNat by omega];rfl
 have aq8:eY ((d.take 4).drop i.toNat)=d.getD i.toNat 0+65536*y:=by
  have ap:i.toNat<(d.take 4).length:=by rw[gq,ar.1];omega
  rw[tF ap,ai,show(i+1).toNat=i.toNat+1 by omega];simp only[eY,DR];rw[dm,cy (by rw[ar.1];omega)];rfl
 have gk:bo.wrap ((bo.wrap (65536*x))+(bo.wrap (d.getD (4+i).toNat 0)))=65536*x+d.getD (4+i).toNat 0:=by rw[oD (65536*x) (by omega),oD (d.getD (4+i).toNat 0) (by omega),oD _ (by omega)]
 have ew:bo.wrap ((bo.wrap (65536*y))+(bo.wrap (d.getD i.toNat 0)))=65536*y+d.getD i.toNat 0:=by rw[oD (65536*y) (by omega),oD (d.getD i.toNat 0) (by omega),oD _ (by omega)]
 refine⟨by decide,⟨hi,by omega⟩,_,Tw ar.1 hi (by omega),⟨by omega,by omega⟩,by decide,⟨by omega,by omega⟩,_,Tw ar.1 (i:=4+i) (by omega) (by omega),⟨by omega,by omega⟩,?_⟩
 rw[gk,ew]
 refine⟨⟨rfl,by omega,by omega,?_,?_⟩,by dsimp only;omega⟩
 rw[show(i-1+1).toNat=i.toNat by omega,aq7];omega
 rw[show(i-1+1).toNat=i.toNat by omega,aq8];omega
 rw[show(i+1).toNat=0 by omega,TY] at J ai
 rw[J,ai]
 exact h
def adn{a b:o}{K:o->o->H->Prop}(ay:cz a)(aa:cz b)(h:K (cZ (a*b)) (c5 (a*b)) u):K3 a b u K:=by
 apply aE9;have Y:cz 0:=⟨by omega,by omega⟩;have SH:∀x:o,cz x->eY [gO x 0,gO x 1,gO x 2,gO x 3,gO 0 0,gO 0 1,gO 0 2,gO 0 3]=x:=λx J=>by simp only[eY,cz,gO,Nat.reducePow] at*;omega
 have YG:∀x:o,rf [gO x 0,gO x 1,gO x 2,gO x 3,gO 0 0,gO 0 1,gO 0 2,gO 0 3]:=λx=>⟨rfl,λy ai=>by simp only[cP,qe,qf] at ai;rcases ai with rfl|rfl|rfl|rfl|rfl|rfl|rfl|rfl<;>exact aqS _ _⟩
 have mg:et 8=340282366920938463463374607431768211456:=by decide
 have a7:et 4=18446744073709551616:=by decide
 have Mq:0<=a*b/\a*b<et 8:=by
  refine⟨r2 ay.1 aa.1,?_⟩;have h1:a<=18446744073709551615:=by have:=ay.2;omega
  have h2:b<=18446744073709551615:=by have:=aa.2;omega
  have:=zO h1 h2 aa.1 (by omega);rw[mg];omega
 refine UM Y ay (UM Y aa ?_);refine aBE (a:=[gO a 0,gO a 1,gO a 2,gO a 3,gO 0 0,gO 0 1,gO 0 2,gO 0 3]) (b:=[gO b 0,gO b 1,gO b 2,gO b 3,gO 0 0,gO 0 1,gO 0 2,gO 0 3]) (YG a) (YG b) (by rw[SH a ay,SH b aa];exact Mq.2) λd ar aB=>?_;rw[SH a ay,SH b aa] at aB;refine aBF ar ?_;have e:=Wz (d.take 4) (d.drop 4);rw[q2,gq,ar.1,show min 4 8=4 from rfl,aB,a7] at e;have m1:∀Y∈d.take 4,0<=Y/\Y<65536:=λY aC=>ar.2 Y (mx aC);have ga:=Cy m1;have fu:=WA m1;rw[gq,ar.1,show min 4 8=4 from rfl,a7] at fu;have aQ:eY (d.drop 4)=cZ (a*b):=by unfold cZ;omega
 have aF:eY (d.take 4)=c5 (a*b):=by unfold c5;omega
 rw[aQ,aF];exact h
section
variable {α:Type} {enc:α->M ao} {k:N}
def Gp(hk:∀x,(enc x).length=k)(rD:0<k)(a:α)(m:N):(oC (enc a).toArray (m*k)).toList=(gu m a).flatMap enc:=by
 apply sB;intro i;by_cases hi:i<m*k
 .have e:i=i/k*k+i%k:=by rw[T1];exact(Nat.div_add_mod i k).symm
  have hm:i%k<k:=GV _ rD;have ar:i/k<m:=Nat.div_lt_of_lt_mul (by rw[T1];exact hi);have O:((gu m a).flatMap enc)[i]?=(enc a)[i%k]?:=by
   conv=>lhs;rw[e]
   rw[H5 hk _ _ _ hm,Ka,a1 ar];rfl
  rw[O];have oQ:i%k<(enc a).length:=by rw[hk];exact hm
  simp[oC,hi,hk,hm]
 rw[iO (by simp[size_madeCells];omega),iO (by rw[og hk];simp;omega)]
def abH(enc:α->M ao)(xs:M α)(T:dF):Obj:=.cells (xs.flatMap enc).toArray T (0,0)
def agz(hk:∀x,(enc x).length=k){xs e9:M α}{T:dF}(W:u g=some (abH enc (xs++e9) T)){c:N}(I:xs.length<=c)(hm:c<=9223372036854775807):
  bz u ⟨some ⟨g,0,none⟩,xs.length,c⟩ k (xs.flatMap enc):=by
 refine⟨og hk xs,I,hm,.inr ⟨_,rfl,λi v e=>?_⟩⟩
 rw[iP,ki,a8 W,List.getElem?_toArray,gZ,qY ((iB.1 e).1)]
 exact e
end
def H.aaN{z:Obj}(h:u g=some z):u.ins g z=u:=by funext x;unfold H.ins;split;rename_i J;rw[J,h];rfl
abbrev akl(q:M o):Obj:=abH encI (q++ [-77]) 3
def axJ{q:M o}(h:u g=some (akl q))(aa:q.length<=1000000):Ints u ⟨some ⟨g,0,none⟩,q.length,q.length+1⟩ q:=by have:=agz od h (c:=q.length+1) (by omega) (by omega);rw[yR] at this;exact this
def az.bL(r:az):o×M o:=(r.id,r.v)
abbrev azS(ls:M az):Obj:=abH cO ls 52
structure Lh(aj u:H)(g:N)(ls:M az):Prop where
 inner:∀r∈ls,∃h,r.s=⟨some ⟨h,0,none⟩,r.v.length,r.v.length+1⟩/\u h=some (akl r.v)/\aj h=none/\h≠g/\r.v.length<=1000000
 apart:ls.Pairwise λa b=>a.s.al≠b.s.al
def Lh.else{aj u':H}{ls:M az}(h:Lh aj u g ls)(he:∀b z,b≠g->u b=some z->u' b=some z):Lh aj u' g ls:=
 ⟨λr O=>by obtain⟨x,h1,h2,h3,a7,bO⟩:=h.inner r O;exact⟨x,h1,he _ _ a7 h2,h3,a7,bO⟩,h.apart⟩
def Lh.rws{aj:H}{ls ms:M az}(h:Lh aj u g ls)(W:u g=some (azS (ls++ms))){c:N}(I:ls.length<=c)(hm:c<=9223372036854775807):eF u ⟨some ⟨g,0,none⟩,ls.length,c⟩ ls:=
 ⟨agz fM W I hm,λr O=>by obtain⟨x,h1,h2,_,_,bO⟩:=h.inner r O;rw[h1];exact axJ h2 bO⟩
end
section
variable{u u' aj v v0:H}{q seen a b:M o}{e0:M bP}{k x y d e w:o}{ss bd t:U}{P:dT}{xs:M ao}{D:M U}{L:M az}{fv:ao}
def HL(l:M o):Prop:=l.Pairwise (· <=·)
def CB(l:M o):Prop:=l.Pairwise (· < ·)
def nW(l:M o):(dS l).Perm l:=List.mergeSort_perm l _
def ac4(l:M o):HL (dS l):=by have:=List.pairwise_mergeSort (le:=λx y:o=>decide (x<=y)) (λa b c h1 h2=>by simp at*;omega) (λa b=>by simp;omega) l;exact this.imp λh=>by simpa using h
def z6(l:M o):(dS l).length=l.length:=(nW l).length_eq
def HL.eq(ay:HL a)(aa:HL b)(h:a.Perm b):a=b:=by
 induction a generalizing b with
 |nil=>exact(List.Perm.nil_eq h)|cons x a aM=>
  cases b with
  |nil=>exact aV h.length_eq (by simp)|cons y b=>
   have Dt:=k9.1 ay;have ajT:=k9.1 aa;have iV:x=y:=by have h1:x∈y::b:=h.mem_iff.1 (gr ..);have h2:y∈x::a:=h.mem_iff.2 (gr ..);rcases cP.1 h1 with e|h1;exact e;rcases cP.1 h2 with e|h2;exact e.symm;have:=ajT.1 x h1;have:=Dt.1 y h2;omega
   subst iV;rw[aM Dt.2 ajT.2 (List.Perm.cons_inv h)]
def amm(h:a.Perm b)(ay:HL a):a=dS b:=ay.eq (ac4 b) (h.trans (nW b).symm)
def aAB(h:a.Perm b):dS a=dS b:=amm ((nW a).trans h) (ac4 a)
def aIi(h:HL a):dS a=a:=(amm (.refl a) h).symm
def D7{l:M o}(h:l.Nodup):CB (dS l):=by have h1:=ac4 l;have h2:(dS l).Nodup:=(nW l).nodup_iff.2 h;exact(h1.and h2).imp λ⟨a,b⟩=>by omega
def alN{l a b:M az}(ap:(l.map (·.id)).Nodup)(ay:∀r∈a,r∈l)(aa:∀r∈b,r∈l)(h:(a.map (·.id)).Perm (b.map (·.id))):a.Perm b:=by
 have inj:∀{l:M az},(l.map (·.id)).Nodup->∀r∈l,∀de∈l,r.id=de.id->r=de:=by
  intro l;induction l with
  |nil=>intro _ r O;cases O
  |cons x l aM=>intro ae r O de dz e;have h2:=h6.1 ae;rcases cP.1 O with h1|h1;rcases cP.1 dz with h3|h3;rw[h1,h3];exact(h2.1 (bk.2 ⟨de,h3,by rw[<-e,h1]⟩)).elim;rcases cP.1 dz with h3|h3;exact(h2.1 (bk.2 ⟨r,h1,by rw[e,h3]⟩)).elim;exact aM h2.2 r h1 de h3 e
 let f:o->az:=λx=>(l.find? λr=>r.id==x).getD ⟨0,⟨none,0,0⟩,[]⟩
 have ac:∀r∈l,f r.id=r:=by
  intro r O;show(l.find? λde=>de.id==r.id).getD _=r;cases xq:l.find? λde=>de.id==r.id with
  |none=>exact aV (Kb.1 xq r O) (by simp)|some de=>have h1:=JX xq;have h2:=JW xq;exact inj ap de h2 r O (by simpa using h1)
 have hm:∀{c:M az},(∀r∈c,r∈l)->(c.map (·.id)).map f=c:=by
  intro c I;rw[eh]
  conv=>rhs;rw[<-List.map_id c]
  exact zQ λr O=>ac r (I r O)
 have:=h.map f;rw[hm ay,hm aa] at this;exact this
def ar2{f:o->o->o}(ac:∀a x,(f a x<=a/\f a x<=x/\(f a x=a∨f a x=x))):∀(l:M az) (a:M o) (n:N),a.length=n->(∀r∈l,r.v.length=n)->
  (l.foldl (λacc r=>lA f acc r.v) a).length=n/\(∀i,i<n->(l.foldl (λacc r=>lA f acc r.v) a).getD i 0<=a.getD i 0/\(∀r∈l,(l.foldl (λacc r=>lA f acc r.v) a).getD i 0<=r.v.getD i 0)/\
   ((l.foldl (λacc r=>lA f acc r.v) a).getD i 0=a.getD i 0∨∃r∈l,(l.foldl (λacc r=>lA f acc r.v) a).getD i 0=r.v.getD i 0)):=by
 intro l
 induction l with
 |nil=>intro a n ay _;exact⟨ay,λi _=>⟨mw _,λr O=>(by cases O),.inl rfl⟩⟩
 |cons r l aM=>
  intro a n ay ap;have O:=ap r (by simp);have aC:(lA f a r.v).length=n:=by rw[List.length_zipWith,ay,O,T2]
  obtain⟨h1,h2⟩:=aM (lA f a r.v) n aC λx J=>ap x (by simp[J]);rw[J7];refine⟨h1,λi hi=>?_⟩;have uR:(lA f a r.v).getD i 0=f (a.getD i 0) (r.v.getD i 0):=by
   have h3:i<a.length:=by omega
   have a7:i<r.v.length:=by omega
   simp[dm,T3,cy h3,cy a7]
  obtain⟨g1,g2,g3⟩:=h2 i hi;obtain⟨f1,f2,f3⟩:=ac (a.getD i 0) (r.v.getD i 0);rw[uR] at g1 g3;refine⟨by omega,λx J=>?_,?_⟩;rcases cP.1 J with rfl|J;omega;exact g2 x J;rcases g3 with g3|⟨x,J,g3⟩;rcases f3 with f3|f3;exact .inl (by rw[g3,f3]);exact .inr ⟨r,by simp,by rw[g3,f3]⟩;exact .inr ⟨x,by simp[J],g3⟩
def ar3{f:o->o->o}(ac:∀a x,(a<=f a x/\x<=f a x/\(f a x=a∨f a x=x))):∀(l:M az) (a:M o) (n:N),a.length=n->(∀r∈l,r.v.length=n)->
  (l.foldl (λacc r=>lA f acc r.v) a).length=n/\(∀i,i<n->a.getD i 0<=(l.foldl (λacc r=>lA f acc r.v) a).getD i 0/\(∀r∈l,r.v.getD i 0<=(l.foldl (λacc r=>lA f acc r.v) a).getD i 0)/\
   ((l.foldl (λacc r=>lA f acc r.v) a).getD i 0=a.getD i 0∨∃r∈l,(l.foldl (λacc r=>lA f acc r.v) a).getD i 0=r.v.getD i 0)):=by
 intro l
 induction l with
 |nil=>intro a n ay _;exact⟨ay,λi _=>⟨mw _,λr O=>(by cases O),.inl rfl⟩⟩
 |cons r l aM=>
  intro a n ay ap;have O:=ap r (by simp);have aC:(lA f a r.v).length=n:=by rw[List.length_zipWith,ay,O,T2]
  obtain⟨h1,h2⟩:=aM (lA f a r.v) n aC λx J=>ap x (by simp[J]);rw[J7];refine⟨h1,λi hi=>?_⟩;have uR:(lA f a r.v).getD i 0=f (a.getD i 0) (r.v.getD i 0):=by
   have h3:i<a.length:=by omega
   have a7:i<r.v.length:=by omega
   simp[dm,T3,cy h3,cy a7]
  obtain⟨g1,g2,g3⟩:=h2 i hi;obtain⟨f1,f2,f3⟩:=ac (a.getD i 0) (r.v.getD i 0);rw[uR] at g1 g3;refine⟨by omega,λx J=>?_,?_⟩;rcases cP.1 J with rfl|J;omega;exact g2 x J;rcases g3 with g3|⟨x,J,g3⟩;rcases f3 with f3|f3;exact .inl (by rw[g3,f3]);exact .inr ⟨r,by simp,by rw[g3,f3]⟩;exact .inr ⟨x,by simp[J],g3⟩
def afr{l:M az}(h:hp l d)(an:l≠[]):((mN l).length:o)=d/\((mM l).length:o)=d/\c8 (mN l)/\c8 (mM l)/\(∀i:N,(i:o)<d->(mN l).getD i 0<=(mM l).getD i 0)/\
  ∀r∈l,∀i:N,(i:o)<d->(mN l).getD i 0<=r.v.getD i 0/\r.v.getD i 0<=(mM l).getD i 0:=by
 obtain⟨x,bE,rfl⟩:∃x bE,l=x::bE:=by
  cases l with
  |nil=>exact aV rfl an|cons x bE=>exact⟨x,bE,rfl⟩
 have ar:=h.aq
 have J:=h.v x (by simp)
 have ef:∀r∈x::bE,r.v.length=d.toNat:=λr O=>by have:=(h.v r O).1;omega
 obtain⟨Z,a2⟩:=ar2 (f:=λa x=>if x<a then x else a) (λa x=>by split<;>omega) (x::bE) x.v d.toNat (ef x (by simp)) ef
 obtain⟨ga,fu⟩:=ar3 (f:=λa x=>if x>a then x else a) (λa x=>by split<;>omega) (x::bE) x.v d.toNat (ef x (by simp)) ef
 have ari:mN (x::bE)=(x::bE).foldl (λacc r=>lA (λa x=>if x<a then x else a) acc r.v) x.v:=rfl
 have arh:mM (x::bE)=(x::bE).foldl (λacc r=>lA (λa x=>if x>a then x else a) acc r.v) x.v:=rfl
 rw[<-ari] at Z a2
 rw[<-arh] at ga fu
 have Rg:∀r∈x::bE,∀i,i<d.toNat->ma (r.v.getD i 0):=λr O i hi=>(h.v r O).2.2 i (by rw[ef r O];exact hi)
 refine⟨by omega,by omega,⟨by omega,λi hi=>?_⟩,⟨by omega,λi hi=>?_⟩,λi hi=>?_,λr O i hi=>⟨(a2 i (by omega)).2.1 r O,(fu i (by omega)).2.1 r O⟩⟩
 rcases(a2 i (by omega)).2.2 with e|⟨r,O,e⟩
 rw[e];exact Rg x (by simp) i (by omega)
 rw[e];exact Rg r O i (by omega)
 rcases(fu i (by omega)).2.2 with e|⟨r,O,e⟩
 rw[e];exact Rg x (by simp) i (by omega)
 rw[e];exact Rg r O i (by omega)
 have h1:=(a2 i (by omega)).1
 have h2:=(fu i (by omega)).1
 omega
def yy(l:M bP):Prop:=(l.map (·.1)).Nodup
def yy.perm{a b:M bP}(h:yy a)(ad:a.Perm b):yy b:=(ad.map _).nodup h
def yy.e6{k:N}{l:M bP}(h:yy l):yy (e6 k l):=
 List.Nodup.sublist (acm _ (r3 _ _)) (h.perm (vm l).symm)
def yy.eq{l:M bP}(h:yy l){a b:bP}(ay:a∈l)(aa:b∈l)(e:a.1=b.1):a=b:=by
 induction l with
 |nil=>cases ay
 |cons x l aM=>have h2:=h6.1 h;rcases cP.1 ay with R5|ay;rcases cP.1 aa with Iu|aa;rw[R5,Iu];exact aV (bk.2 ⟨b,aa,by show b.1=x.1;rw[<-e,R5]⟩) h2.1;rcases cP.1 aa with Iu|aa;exact aV (bk.2 ⟨a,ay,by show a.1=x.1;rw[e,Iu]⟩) h2.1;exact aM h2.2 ay aa
def aCC{k:N}{l:M bP}{x:bP}(h:x∈e6 k l):x∈l:=(vm l).mem_iff.1 (mx h)
def EA(u u':H)(l:M az)(q:M o)(k:o)(s:U)(e:o):Prop:=
 u.le u'/\((e=kT l q k/\e≠0/\s=⟨none,0,0⟩)∨(e=0/\kT l q k=0/\jt l q/\1<=k/\k<=64/\aK u u' 68 3 s ((e6 k.toNat (l.map (hM q))).flatMap fX)))
def aCx{l:M az}:kT l q k=0↔jt l q/\1<=k/\k<=64:=by unfold kT;constructor;intro h;split at h;rename_i an;exact aV h an;rename_i he;split at h;cases h;exact⟨w7.1 (by simpa using he),by omega,by omega⟩;rintro⟨h1,h2,h3⟩;rw[aG (by simp[w7.2 h1]),aG (by omega)]
def aAL{s:U}{l:M az}{K:U->o->H->Prop}(ag:eF u s l)(ht:Ints u t q)(h:∀au e u',EA u u' l q k au e->K au e u'):Em s t k u K:=
 PI ag ht (λan=>h _ _ u ⟨H.le.refl u,.inl ⟨rfl,an,rfl⟩⟩) λaL cq cH au u' ab=>h au 0 u' ⟨ab.le,.inr ⟨rfl,aCx.2 ⟨aL,cq,cH⟩,aL,cq,cH,ab⟩⟩
def EA.fq{l:M az}{s:U}(h:EA u u' l q k s e):∃L,lP u' s L/\L.length<=64/\(e=0->L=e6 k.toNat (l.map (hM q)))/\(e≠0->L=[]):=by rcases h.2 with⟨_,h1,rfl⟩|⟨h0,_,_,_,cH,ab⟩;exact⟨[],(aK.nil (H.le.refl u') 0 3).own.cI,by simp,λh=>aV h h1,λ_=>rfl⟩;exact⟨_,ab.fq,by rw[Ab];omega,λ_=>rfl,λh=>aV h0 h⟩
def jt.Gx{l:M az}(h:jt l q):yy (l.map (hM q)):=by unfold yy;rw[eh];exact h.rows.nodup
def aBB{s:U}{l:M az}{m:o}{K:o->H->Prop}(ag:eF u s l)(aa:∀r∈l,r.v.length<=17592186044416)(ap:s.n<=17592186044416)(hm:m<=1000000)(h:∀x,(x<=m->∀r∈l,(r.v.length:o)<=m)->K x u):V4 s m u K:=by
 have ae:=ag.len;apply aEZ;refine⟨λx i v=>v=u/\0<=i/\i<=(s.n:o)/\0<=x/\∀r∈l.take i.toNat,(r.v.length:o)<=x,λ_ i _=>s.n-i.toNat,⟨rfl,by omega,by omega,by omega,λr O=>by simp at O⟩,?_⟩;rintro x i v ⟨rfl,i0,i1,bK,uQ⟩;intro Ld RS;refine⟨λhi=>⟨λJ=>RS _ ?_,λJ=>h x λh=>aV h J⟩,λhi=>h x λF6 r O=>?_⟩;obtain⟨p,ad,r,O,bM,c1,aB⟩:=ag.at i0 hi;have fp:=dB O;have:=aa r fp;have N6:=aB.len;refine⟨p,ad,⟨i0,hi⟩,_,c1,⟨by omega,by omega⟩,⟨by omega,by omega⟩,⟨rfl,by omega,by omega,by omega,λde dz=>?_⟩,by dsimp only;omega⟩;rw[show(i+1).toNat=i.toNat+1 by omega,gJ,O] at dz;rcases cM.1 dz with bW|bW;have:=uQ de bW;omega;obtain rfl:de=r:=by simpa using bW
 omega;have:=uQ r (by rw[gY (by omega)];exact O);omega
def azc{l bE:M az}(h:l.map az.bL=bE.map az.bL):l.length=bE.length:=by simpa using eB iC h
def ail{l bE:M az}(h:l.map az.bL=bE.map az.bL):l.map (hM q)=bE.map (hM q):=by have e:hM q=(λp:o×M o=>((p.1,fG p.2 q p.2.length):bP))∘az.bL:=rfl;rw[e,<-eh,<-eh,h]
def EA.err{l:M az}{s:U}(h:EA u u' l q k s e):e=kT l q k:=by rcases h.2 with⟨h1,_⟩|⟨h1,h2,_⟩<;>omega
def EA.else{js:H}{l:M az}{s:U}(h:EA u u' l q k s e)(he:∀b z,u b=none->u' b=some z->js b=some z):
  ∃L,lP js s L/\(e=0->L=e6 k.toNat (l.map (hM q)))/\(e≠0->L=[]):=by
 rcases h.2 with⟨_,h1,rfl⟩|⟨h0,_,_,_,_,ab⟩
 exact⟨[],(aK.nil (H.le.refl js) 0 3).own.cI,λh=>aV h h1,λ_=>rfl⟩
 exact⟨_,(ab.own.le (u':=js) λb z aa hu=>he b z (ab.fresh b aa) hu).cI,λ_=>rfl,λh=>aV h0 h⟩
def al3{t fB e:dF}{size bytes:N}{zs:M ao}(aT:kI P t=some (e,size,bytes,zs))(c0:0<size){s x:U}{e9:M ao}{K:U->H->Prop}
  (ab:aK aj u e size s xs) (J:bz u x size e9) (h1:∀y∈e9,y.oneCell'=ak) (hm:s.n+x.n<=9223372036854775807) (aa:(s.n+x.n)*bytes<=140737488355328)
  (av:∀au u',aK aj u' e size au (xs++e9)->au.n=s.n+x.n->K au u'):
  c9 P (ee #[t,t] fB #[.slice s.a s.n s.c,.slice x.a x.n x.c]) [.one .slice] u K:=
 acU aT c0 ab.own J h1 hm aa λau u' h2 h3 mh _=>av au u' ⟨h2,mh.le ab.le ab.fresh,λb2 ca=>mh.out ab.le ab.fresh b2 ca⟩ h3
def Ints.part{s:U}{L:M o}(ag:Ints u s L){l h m:N}(h1:l<=h)(h2:h<=s.n)(h3:h<=m)(a7:m<=s.c):Ints u (s.part l h m 1) ((L.drop l).take (h-l)):=by have:=bz.part ag h1 h2 h3 a7;rw[wu,wu,<-DS,<-Kc] at this;exact this
def Ints.nil(u:H):Ints u ⟨none,0,0⟩ []:=(aK.nil (H.le.refl u) 0 1).own.cI
def Ints.get{s:U}{L:M o}(ag:Ints u s L)(h0:0<=x)(h1:x<(s.n:o)):∃p,s.a=some p/\∃y,L[x.toNat]?=some y/\u.cell? (p.add (x.toNat*1))=some (.int .i64 y):=by
 obtain⟨p,ad,I⟩:=ag.at h0 h1;have ae:=ag.len;have ap:x.toNat<L.length:=by omega
 refine⟨p,ad,L[x.toNat],cy ap,?_⟩;rw[I];simp[dm,ap]
structure cn where
 aI:o
 ls:U
 ag:U
 cA:o
 is:U
 bm:M o
 hi:M o
 ids:M o
def uf(r:cn):M ao:=[.int .i64 r.aI,.slice r.ls.a r.ls.n r.ls.c,.slice r.ag.a r.ag.n r.ag.c,.int .u64 (cZ r.cA),.int .u64 (c5 r.cA),.slice r.is.a r.is.n r.is.c]
def Xo(r:cn):(uf r).length=6:=rfl
def aGJ(r:cn):∀v∈uf r,v.oneCell'=ak:=by simp[uf,cK]
def yA(u:H)(s:U)(l:M cn):Prop:=bz u s 6 (l.flatMap uf)/\∀r∈l,Ints u r.ls r.bm/\Ints u r.ag r.hi/\Ints u r.is r.ids
def yA.len{s:U}{l:M cn}(h:yA u s l):s.n=l.length:=gU Xo (by decide) h.1
def yA.max{s:U}{l:M cn}(h:yA u s l):s.n<=9223372036854775807:=jo (bz.cap h.1) (bz.max h.1)
def yA.mono{s:U}{l:M cn}(h:yA u s l)(k:u.le u'):yA u' s l:=⟨bz.mono h.1 k,λr O=>⟨(h.2 r O).1.mono k,(h.2 r O).2.1.mono k,(h.2 r O).2.2.mono k⟩⟩
def yA.at{s:U}{l:M cn}(h:yA u s l)(h0:0<=x)(h1:x<(s.n:o)):∃p,s.a=some p/\∃q:cn,l[x.toNat]?=some q/\
  u.cell? (p.add (x.toNat*6))=some (.int .i64 q.aI)/\u.cell? ((p.add (x.toNat*6)).add 1)=some (.slice q.ls.a q.ls.n q.ls.c)/\u.cell? ((p.add (x.toNat*6)).add 2)=some (.slice q.ag.a q.ag.n q.ag.c)/\
  u.cell? ((p.add (x.toNat*6)).add 3)=some (.int .u64 (cZ q.cA))/\u.cell? ((p.add (x.toNat*6)).add 4)=some (.int .u64 (c5 q.cA))/\u.cell? ((p.add (x.toNat*6)).add 5)=some (.slice q.is.a q.is.n q.is.c):=by
 have ae:=h.len
 have ap:x.toNat<l.length:=by omega
 obtain⟨p,ad,I⟩:=bz.elem Xo (by decide) h.1 (cy ap)
 exact⟨p,ad,_,cy ap,I 0 _ rfl,I 1 _ rfl,I 2 _ rfl,I 3 _ rfl,I 4 _ rfl,I 5 _ rfl⟩
structure nv(r:cn)(d:o):Prop where
 aq:1<=d/\d<=64
 ids:CB r.ids
 id:∀x∈r.ids,1<=x/\x<=1000000000
 shape:(r.aI=1/\r.bm=[]/\r.hi=[]/\r.cA=0)∨(r.aI=2/\r.cA=0/\c8 r.bm/\c8 r.hi/\(r.bm.length:o)=d/\(r.hi.length:o)=d/\∀i:N,(i:o)<d->r.bm.getD i 0<=r.hi.getD i 0)∨
  (r.aI=3/\r.hi=[]/\c8 r.bm/\(r.bm.length:o)=d/\lh r.cA)
def mH(r:cn)(v:M o):Prop:=(r.aI=2->∀i:N,i<v.length->r.bm.getD i 0<=v.getD i 0/\v.getD i 0<=r.hi.getD i 0)/\(r.aI=3->fG r.bm v r.bm.length<=r.cA)
def YW:cZ 0=0:=by decide
def abi:c5 0=0:=by decide
structure yt(u:H)(aI ss bd:U)(e0:M bP)(seen:M o)(rest:M cn):Prop where
 h:lP u aI e0
 s:Ints u ss seen
 r:yA u bd rest
def yt.mono{aI:U}{rest:M cn}(h:yt u aI ss bd e0 seen rest)(k:u.le u'):yt u' aI ss bd e0 seen rest:=⟨h.h.mono k,h.s.mono k,h.r.mono k⟩
structure Sound(l:M az)(q:M o)(k:o)(e0:M bP)(seen:M o)(rest:M cn):Prop where
 D0:CB seen
 jD:∀r∈rest,nv r q.length/\r.ids≠[]/\∀x∈r.ids,∃w∈l,w.id=x/\mH r w.v
 all:(seen++rest.flatMap (·.ids)).Perm (l.map (·.id))
 first:∀m:M az,(∀r∈m,r∈l)->m.map (·.id)=seen->e0=e6 k.toNat (m.map (hM q))
def xa(x:o)(s:U):kH aH 22 1 #[(0,.agg #[.int .i64 x,.slice s.a s.n s.c])]=some (52,[.int .i64 x,.slice s.a s.n s.c]):=by kernel_rfl
def aK.rws{e:N}{s:U}{m l:M az}(h:aK aj u e 2 s (m.flatMap cO))(ap:eF u t l)(hm:∀r∈m,r∈l):eF u s m:=⟨h.own.cI,λr O=>ap.2 r (hm r O)⟩
structure yw(v0 v ji b6:H):Prop where
 le:ji.le b6
 out:∀b z,v0 b=none->v b=some z->ji b=none/\b6 b=some z
 new:∀b,b6 b≠none->ji b≠none∨(v0 b=none/\b6 b=v b)
def H.frame(v v0 ji:H):H:=λb=>match ji b with
 |some z=>some z|none=>match v0 b with
  |some _=>none|none=>v b
def Step.frame{ji:H}{w w':cg}(k:Step v0 [] w ji [] w')(hle:v0.le v)(ag:Sub v w):Step v [] w (v.frame v0 ji) [] w'/\yw v0 v ji (v.frame v0 ji):=by
 have h0:∀b,v b=none->v0 b=none:=λb aa=>by
  cases e:v0 b with
  |none=>rfl|some z=>rw[hle _ _ e] at aa;cases aa
 refine⟨⟨λb z aa=>?_,k.os,k.tape,k.output,k.drawn,k.size,λb aa hu _=>k.rest b aa (h0 b hu) (by simp),λb aa hu=>?_,[],by simp,by simp⟩,⟨λb z aa=>?_,λb z h1 h2=>?_,λb aa=>?_⟩⟩;unfold H.frame at aa;split at aa;rename_i e;cases aa;exact k.sub _ _ e;split at aa;cases aa;rename_i e;rw[k.rest b (ag.lt aa) e (by simp)];exact ag _ _ aa;unfold H.frame;rw[k.jw b aa (h0 b hu),h0 b hu];exact hu;unfold H.frame;rw[aa];have:=k.jw b (ag.lt h2) h1;exact⟨this,by unfold H.frame;rw[this,h1];exact h2⟩;cases e:ji b with
 |some z=>exact .inl (by simp)|none=>
  cases eK:v0 b with
  |some z=>unfold H.frame at aa;rw[e,eK] at aa;exact aV rfl aa|none=>exact .inr ⟨rfl,by unfold H.frame;rw[e,eK]⟩
def bz.else{s:U}{size:N}(h:bz u s size xs)(hu:∀g z,s.al=some g->u g=some z->u' g=some z):bz u' s size xs:=
 ⟨h.len,h.cap,h.max,h.at'.imp id λ⟨p,h1,h2⟩=>⟨p,h1,λi v e=>by
  have I:=h2 i v e;unfold H.cell? at I ⊢;have aa:(p.add i).block=p.block:=by unfold eu;split<;>rfl
  split at I;rename_i c t f J;rw[hu _ _ (by simp[U.al,h1,aa]) J];exact I;cases I⟩⟩
def Jo(R:H->H->Prop):(cr:M aE)->hy cr (H->Prop)->hy cr (H->Prop)->Prop
 | [],r,de=>∀u u',R u u'->r u->de u'|_::cr,K,gw=>∀x,Jo R cr (K x) (gw x)
def anT{R:H->H->Prop}(b4:R u u'):∀(cr:M aE) (K gw:hy cr (H->Prop)) (vs:M ao),Jo R cr K gw->(hY cr K vs λr=>r u)->hY cr gw vs λr=>r u':=by
 intro cr;induction cr with
 |nil=>intro K gw vs h k;cases vs with
  |nil=>exact h _ _ b4 k|cons=>simp[hY] at k
 |cons t cr aM=>
  intro K gw vs h k;cases vs with
  |nil=>simp[hY] at k|cons v vs=>simp only[hY] at k ⊢;obtain⟨x,rfl,J⟩:=aE.Vc k;exact(aE.ra t x _).2 (aM (K x) (gw x) vs (h x) J)
def hx.frame{f:jQ}{args:cv ao}{ss:M bf}{K gw:hy (gT ss) (H->Prop)}(h:hx P f args ss v0 K)(hle:v0.le v)(hk:Jo (yw v0 v) (gT ss) K gw):hx P f args ss v gw:=by intro w hw;refine(h w (hw.mono hle)).mono ?_;rintro e w' ⟨x,u',he,⟨vs,aB,J,I⟩,ag⟩;obtain⟨h1,h2⟩:=ag.frame hle hw;exact⟨x,_,he,⟨vs,aB,J,anT h2 _ _ _ _ hk I⟩,h1⟩
def Aj.frame{args:cv ao}{ss:M bf}{K gw:hy (gT ss) (H->Prop)}(h:Aj P fv args ss v0 K)(hle:v0.le v)(hk:Jo (yw v0 v) (gT ss) K gw):Aj P fv args ss v gw:=by obtain⟨l,ac,h⟩:=h;refine⟨l,ac,λw hw=>?_⟩;obtain⟨fn,tmps,assign,body,ai,b4⟩:=h w (hw.mono hle);refine⟨fn,tmps,assign,body,ai,b4.mono ?_⟩;rintro e w' ⟨x,u',he,⟨vs,aB,J,I⟩,ag⟩;obtain⟨h1,h2⟩:=ag.frame hle hw;exact⟨x,_,he,⟨vs,aB,J,anT h2 _ _ _ _ hk I⟩,h1⟩
def h8.frame{args:cv ao}{ss:M bf}{K gw:hy (gT ss) (H->Prop)}(h:h8 P fv args ss v0 K)(hle:v0.le v)(hk:Jo (yw v0 v) (gT ss) K gw):h8 P fv args ss v gw:=by obtain⟨f,pre,cap,ac,aa,h⟩:=h;exact⟨f,pre,cap,ac,aa,h.frame hle hk⟩
def sS.frame{args:cv ao}{ss:M bf}{K gw:hy (gT ss) (H->Prop)}(h:sS P fv args ss v0 K)(hle:v0.le v)(hk:Jo (yw v0 v) (gT ss) K gw):sS P fv args ss v gw:=
 h.imp (λh=>h.frame hle hk) λh=>h.frame hle hk
def Step.less{js:H}{bs db:M N}{w w':cg}(h:Step u bs w u' db w')(k:js.le u'):Step u bs w js db w':=
 ⟨h.sub.mono k,h.os,h.tape,h.output,h.drawn,h.size,h.rest,λb aa hu=>(by
  cases e:js b with
  |none=>rfl|some z=>have:=h.jw b aa hu;rw[k _ _ e] at this;cases this),h.more⟩
def aaZ:(cr:M aE)->hy cr (H->Prop)->hy cr (H->Prop)
 | [],r=>λu'=>∃js,js.le u'/\r js|_::cr,K=>λx=>aaZ cr (K x)
def aCT:∀(cr:M aE) (K:hy cr (H->Prop)) (vs:M ao),(hY cr (aaZ cr K) vs λr=>r u')->∃js,js.le u'/\hY cr K vs λr=>r js:=by
 intro cr;induction cr with
 |nil=>intro K vs h;cases vs with
  |nil=>exact h|cons=>simp[hY] at h
 |cons t cr aM=>
  intro K vs h;cases vs with
  |nil=>simp[hY] at h|cons v vs=>simp only[hY] at h ⊢;obtain⟨x,rfl,J⟩:=aE.Vc h;obtain⟨js,h1,h2⟩:=aM (K x) vs J;exact⟨js,h1,(aE.ra t x _).2 h2⟩
def hx.weaken{f:jQ}{args:cv ao}{ss:M bf}{K:hy (gT ss) (H->Prop)}(h:hx P f args ss u (aaZ (gT ss) K)):hx P f args ss u K:=by intro w hw;refine(h w hw).mono ?_;rintro e w' ⟨v,u',he,⟨vs,hk,aB,I⟩,ag⟩;obtain⟨js,hle,dd⟩:=aCT _ _ _ I;exact⟨v,js,he,⟨vs,hk,aB,dd⟩,ag.less hle⟩
def abe{P:N->Prop}(h:∃n,P n):∃n,P n/\∀m,P m->n<=m:=by
 obtain⟨n,ae⟩:=h;induction n using Nat.strongRecOn with
 |ind n aM=>rcases Classical.em (∃m,m<n/\P m) with⟨m,hm,ad⟩|eg;exact aM m hm ad;exact⟨n,ae,λm ad=>Nat.le_of_not_lt λbw=>eg ⟨m,bw,ad⟩⟩
open Classical in
def least(P:N->Prop):N:=if h:∃n,P n then Classical.choose (abe h) else 0
def Gl{P:N->Prop}(h:∃n,P n):P (least P):=by unfold least;rw[BW h];exact(Classical.choose_spec (abe h)).1
def least_le{P:N->Prop}{n:N}(h:P n):least P<=n:=by unfold least;rw[BW ⟨n,h⟩];exact(Classical.choose_spec (abe ⟨n,h⟩)).2 n h
def rt(w:o):o:=(least λn=>w<((n:o)+1)*((n:o)+1):N)
def aBT(h0:0<=x)(h:x<y):x*x<y*y:=by have h1:x*x<=x*y:=BV (by omega) h0;have h2:x*y<y*y:=Int.mul_lt_mul_of_pos_right h (by omega);omega
def Hh(h0:0<=x)(h:x<=y):x*x<=y*y:=zO h h h0 (by omega)
def zW(h0:0<=w):0<=rt w/\rt w*rt w<=w/\w<(rt w+1)*(rt w+1):=by
 have hex:∃n:N,w<((n:o)+1)*((n:o)+1):=⟨w.toNat,by
  have e:((w.toNat:N):o)=w:=by omega
  rw[e];have:w*1<=(w+1)*(w+1):=zO (by omega) (by omega) (by omega) (by omega);have h2:(w+1)*(w+1)=w*(w+1)+(w+1):=by grind
  have h3:0<=w*(w+1):=r2 h0 (by omega);omega⟩
 have h1:=Gl hex;unfold rt;generalize ae:(least λn=>w<((n:o)+1)*((n:o)+1))=n at*;refine⟨by omega,?_,h1⟩;cases n with
 |zero=>simpa using h0|succ m=>
  have hm:¬w<((m:o)+1)*((m:o)+1):=λbw=>by have:=least_le (P:=λn:N=>w<((n:o)+1)*((n:o)+1)) bw;omega
  have e:((m+1:N):o)=(m:o)+1:=by omega
  rw[e];omega
def rt_eq{s:o}(h0:0<=s)(h1:s*s<=w)(h2:w<(s+1)*(s+1)):s=rt w:=by
 have hw:0<=w:=by have:=r2 h0 h0;omega
 obtain⟨pG,kj,my⟩:=zW hw;by_cases ay:s<rt w;have:=Hh (show 0<=s+1 by omega) (show s+1<=rt w by omega);omega;by_cases aa:rt w<s;have:=Hh (show 0<=rt w+1 by omega) (show rt w+1<=s by omega);omega;omega
def Pm(h:lh w):rt w<18446744073709551616:=by obtain⟨pG,kj,my⟩:=zW h.1;by_cases aa:18446744073709551616<=rt w;have:=Hh (show(0:o)<=18446744073709551616 by omega) aa;have:=h.2;omega;omega
def amX{a b:o}{K:o->H->Prop}(ay:cz a)(aa:cz b)(h:K (rt (dy a b)) u):QF a b u K:=by
 apply aFg;have ov:0<=dy a b:=by unfold dy;obtain⟨_,_⟩:=ay;obtain⟨_,_⟩:=aa;omega
 have aar:dy a b<340282366920938463463374607431768211456:=by unfold dy;obtain⟨_,_⟩:=ay;obtain⟨_,_⟩:=aa;omega
 generalize hw:dy a b=w at*;refine⟨λhi bm v=>v=u/\0<=bm/\bm<=hi/\hi<=18446744073709551615/\bm*bm<=w/\w<(hi+1)*(hi+1),λhi bm _=>(hi-bm).toNat,⟨rfl,by omega,by omega,by omega,by omega,by omega⟩,?_⟩;rintro hi bm v ⟨rfl,iy,ej,eV,qQ,lK⟩;refine⟨λbw=>⟨by decide,?_⟩,λfO=>?_⟩;have t1:ff (hi-bm) 2=(hi-bm)/2:=zP (by omega);have e:bV .u64 ((bV .u64 (bm+(bV .u64 (ff (bV .u64 (hi-bm)) 2))))+1)=bm+(hi-bm)/2+1:=by rw[oD (hi-bm) (by omega),t1,oD ((hi-bm)/2) (by omega),oD (bm+(hi-bm)/2) (by omega),oD _ (by omega)]
 rw[e];generalize hm:bm+(hi-bm)/2+1=m;have m0:bm<m/\m<=hi:=by omega
 have aiB:cz m:=⟨by omega,by omega⟩;refine adn aiB aiB ⟨H.le.refl v,?_⟩;have uB:lh (m*m):=⟨r2 (by omega) (by omega),by have:=Hh (show 0<=m by omega) (show m<=18446744073709551615 by omega);omega⟩
 refine amW ay aa (Fs uB) (rQ _) ?_;rw[hw,mD];have aQ:bV .u64 (m-1)=m-1:=oD _ (by omega);rw[aQ];refine⟨λht=>⟨⟨rfl,iy,by omega,by omega,qQ,?_⟩,by dsimp only;omega⟩,λac=>⟨⟨rfl,by omega,by omega,eV,?_,lK⟩,by dsimp only;omega⟩⟩;have:=DT ht;rw[show m-1+1=m by omega];exact this;have:=GY ac;omega;have:bm=hi:=by omega
 subst this;rw[rt_eq iy qQ lK];exact h
def qC(bm hi q:M o):N->o
 |0=>0|n+1=>qC bm hi q n+(if q.getD n 0<bm.getD n 0 then lO (bm.getD n 0) (q.getD n 0) else 0)+(if hi.getD n 0<q.getD n 0 then lO (q.getD n 0) (hi.getD n 0) else 0)
def WM{bm hi:M o}(ap:c8 bm)(b5:c8 hi)(aL:c8 q)(aQ:bm.length=q.length)(aF:hi.length=q.length):∀n,n<=q.length->0<=qC bm hi q n/\qC bm hi q n<=n*36893488113059364872:=by
 intro n;induction n with
 |zero=>intro _;simp[qC]
 |succ n aM=>intro ae;obtain⟨i0,i1⟩:=aM (by omega);have Z:=KB (ap.2 n (by omega)) (aL.2 n (by omega));have a2:=KB (aL.2 n (by omega)) (b5.2 n (by omega));unfold qC;split<;>split<;>omega
def EE(d cA:o):o:=if(if rt cA*rt cA=cA then rt cA else rt cA+1)<rt d then(rt d-(if rt cA*rt cA=cA then rt cA else rt cA+1))*(rt d-(if rt cA*rt cA=cA then rt cA else rt cA+1)) else 0
def mm(r:cn)(q:M o):o:=if r.aI=2 then qC r.bm r.hi q q.length else if r.aI=3 then EE (fG r.bm q r.bm.length) r.cA else 0
def apV{cA:o}(ar:lh d)(O:lh cA):lh (EE d cA):=by
 unfold EE;have h1:=Pm ar;have h2:=(zW ar.1).1;have h3:=(zW O.1).1;generalize ht:(if rt cA*rt cA=cA then rt cA else rt cA+1)=t;have t0:0<=t:=by rw[<-ht];split<;>omega
 split;rename_i bw;refine⟨r2 (by omega) (by omega),?_⟩;have:=Hh (show 0<=rt d-t by omega) (show rt d-t<=18446744073709551615 by omega);omega;exact⟨by omega,by omega⟩
def akJ{r:cn}(O:nv r q.length)(aL:c8 q):lh (mm r q):=by unfold mm;rcases O.shape with⟨e,_⟩|⟨e,_,v1,v2,ej,eV,hle⟩|⟨e,aF,v1,ej,uG⟩;rw[aG (by omega),aG (by omega)];exact⟨by omega,by omega⟩;rw[a1 e];have:=WM v1 v2 aL (by omega) (by omega) q.length (cC _);have:=aL.1;exact⟨by omega,by omega⟩;rw[aG (by omega),a1 e];exact apV (Hg v1 aL (by omega)) uG
def Af(_hx:cz x)(ai:cz y):x=cZ (dy x y)/\y=c5 (dy x y):=by unfold cz at*;unfold cZ c5 dy;omega
def ait(h1:cZ x=cZ y)(h2:c5 x=c5 y):x=y:=by rw[<-mD x,<-mD y,h1,h2]
def aBI{r:cn}{K:o->o->H->Prop}(h1:Ints u r.ls r.bm)(h2:Ints u r.ag r.hi)(O:nv r q.length)(ht:Ints u t q)(aL:c8 q)
  (h:K (cZ (mm r q)) (c5 (mm r q)) u):Wb r.aI r.ls r.ag (cZ r.cA) (c5 r.cA) r.is t u K:=by
 have b8:=h1.len
 have ek:=h2.len
 have ayI:=ht.len
 have ar:=O.aq
 have Y:cz 0:=⟨by omega,by omega⟩
 unfold mm at h
 apply aFf
 rcases O.shape with⟨e,_⟩|⟨e,_,v1,v2,ej,eV,hle⟩|⟨e,aF,v1,ej,uG⟩
 rw[aG (by omega),aG (by omega)] at h
 exact⟨λh=>by omega,λ_=>⟨λh=>by omega,λ_=>h⟩⟩
 rw[a1 e] at h
 refine⟨λ_=>?_,λan=>aV e an⟩
 refine⟨λi x y w=>w=u/\0<=i/\i<=t.n/\cz x/\cz y/\dy x y=qC r.bm r.hi q i.toNat,λi _ _ _=>((t.n:o)-i).toNat,⟨rfl,by omega,by omega,Y,Y,rfl⟩,?_⟩
 rintro i x y w ⟨rfl,i0,i1,J,ai,hw⟩
 refine⟨λhi=>?_,λhi=>?_⟩
 obtain⟨p,ad,bM⟩:=ht.at i0 hi
 obtain⟨gX,gD,c1⟩:=h1.at i0 (show i<(r.ls.n:o) by omega)
 obtain⟨dv,eJ,c2⟩:=h2.at i0 (show i<(r.ag.n:o) by omega)
 have jz:=aL.2 i.toNat (by omega)
 have cq:=v1.2 i.toNat (by omega)
 have cH:=v2.2 i.toNat (by omega)
 have s1:=KB cq jz
 have s2:=KB jz cH
 have aa:=WM v1 v2 aL (by omega) (by omega) i.toNat (by omega)
 have Ig:=aL.1
 have CN:qC r.bm r.hi q (i+1).toNat=qC r.bm r.hi q i.toNat+(if q.getD i.toNat 0<r.bm.getD i.toNat 0 then lO (r.bm.getD i.toNat 0) (q.getD i.toNat 0) else 0)+(if r.hi.getD i.toNat 0<q.getD i.toNat 0 then lO (q.getD i.toNat 0) (r.hi.getD i.toNat 0) else 0):=by rw[show(i+1).toNat=i.toNat+1 by omega];rfl
 unfold ma at jz cq cH
 have MP:(i.toNat:o)<=64:=by omega
 have qG:qC r.bm r.hi q i.toNat<=64*36893488113059364872:=by have:=DQ MP (show(0:o)<=36893488113059364872 by omega);omega
 intro Le e7
 have second:∀kV kF,cz kV->cz kF->dy kV kF=qC r.bm r.hi q i.toNat+(if q.getD i.toNat 0<r.bm.getD i.toNat 0 then lO (r.bm.getD i.toNat 0) (q.getD i.toNat 0) else 0)->Le kV kF w:=by
  intro kV kF fQ iM j2;have aHM:0<=dy kV kF/\dy kV kF<=65*36893488113059364872:=by rw[j2];split<;>omega
  refine e7 _ _ _ ⟨p,ad,⟨i0,hi⟩,_,bM,dv,eJ,⟨i0,by omega⟩,_,c2,λbw=>?_,λfO=>⟨⟨by omega,by omega⟩,⟨rfl,by omega,by omega,fQ,iM,by rw[CN,aG fO,j2];omega⟩,by dsimp only;omega⟩⟩;refine⟨p,ad,⟨i0,hi⟩,_,bM,dv,eJ,⟨i0,by omega⟩,_,c2,⟨by omega,by omega⟩,ado (by omega) ⟨H.le.refl _,?_⟩⟩;have qP:cz ((q.getD i.toNat 0-r.hi.getD i.toNat 0)*(q.getD i.toNat 0-r.hi.getD i.toNat 0)):=⟨s2.1,by have:=s2.2;unfold lO at this;omega⟩;have ajL:dy 0 ((q.getD i.toNat 0-r.hi.getD i.toNat 0)*(q.getD i.toNat 0-r.hi.getD i.toNat 0))=lO (q.getD i.toNat 0) (r.hi.getD i.toNat 0):=by unfold dy lO;omega
  refine adp fQ iM Y qP (by rw[ajL];omega) λc d I YD kb=>⟨⟨by omega,by omega⟩,⟨rfl,by omega,by omega,I,YD,?_⟩,by dsimp only;omega⟩;rw[kb,j2,ajL,CN,a1 bw]
 refine⟨p,ad,⟨i0,hi⟩,_,bM,gX,gD,⟨i0,by omega⟩,_,c1,λbw=>?_,λfO=>second x y J ai (by rw[hw,aG fO];omega)⟩
 refine⟨p,ad,⟨i0,hi⟩,gX,gD,⟨i0,by omega⟩,_,c1,_,bM,⟨by omega,by omega⟩,ado (by omega) ⟨H.le.refl _,?_⟩⟩
 have hj:cz ((r.bm.getD i.toNat 0-q.getD i.toNat 0)*(r.bm.getD i.toNat 0-q.getD i.toNat 0)):=⟨s1.1,by have:=s1.2;unfold lO at this;omega⟩
 have ajK:dy 0 ((r.bm.getD i.toNat 0-q.getD i.toNat 0)*(r.bm.getD i.toNat 0-q.getD i.toNat 0))=lO (r.bm.getD i.toNat 0) (q.getD i.toNat 0):=by unfold dy lO;omega
 refine adp J ai Y hj (by rw[ajK];omega) λc d I YD kb=>second c d I YD (by rw[kb,hw,ajK,a1 bw])
 have:i.toNat=q.length:=by omega
 rw[this] at hw
 obtain⟨g1,g2⟩:=Af J ai
 rw[hw] at g1 g2
 rw[g1,g2]
 exact h
 rw[aG (by omega),a1 e] at h
 refine⟨λh=>by omega,λ_=>⟨λ_=>?_,λan=>aV e an⟩⟩
 refine aBH h1 ht v1 aL (by omega) λx y J ai hw=>?_
 have AT:=Hg v1 aL (show r.bm.length=q.length by omega)
 refine amX J ai (amX (Fs uG) (rQ _) ?_)
 rw[mD,hw]
 have s0:=zW AT.1
 have s1:=Pm AT
 have t0:=zW uG.1
 have t1:=Pm uG
 unfold EE at h
 generalize ag:rt (fG r.bm q r.bm.length)=s at*
 generalize awt:rt r.cA=iD at*
 intro ao6 ass
 have go:∀T:o,0<=T->(K (cZ (if T<s then(s-T)*(s-T) else 0)) (c5 (if T<s then(s-T)*(s-T) else 0)) u)->ao6 T 0 0 u:=λT aT AO=>by refine ass _ _ _ _ ⟨λbw=>?_,λfO=>?_⟩;rw[a1 bw] at AO;have aQ:bV .u64 (s-T)=s-T:=oD _ (by omega);rw[aQ];exact adn ⟨by omega,by omega⟩ ⟨by omega,by omega⟩ AO;rw[aG fO] at AO;exact AO
 refine adn ⟨t0.1,by omega⟩ ⟨t0.1,by omega⟩ ⟨H.le.refl _,λan=>?_,λhe=>?_⟩
 have kN:¬iD*iD=r.cA:=λe=>an (by rw[e];exact⟨rfl,rfl⟩)
 rw[aG kN] at h
 refine⟨λfO=>?_,λbw=>?_⟩
 rw[aG (by omega)] at h
 exact h
 have aQ:bV .u64 (iD+1)=iD+1:=oD _ (by omega)
 rw[aQ]
 exact go _ (by omega) h
 have gd:iD*iD=r.cA:=ait he.1 he.2
 rw[a1 gd] at h
 exact go _ t0.1 h
def qw(q:M o)(k:o)(e0:M bP)(rest:M cn):Prop:=rest=[]∨(k<=e0.length/\∀r∈rest,(e0.getD (k-1).toNat default).2<mm r q)
open Classical in
def aBJ{aI:U}{rest:M cn}{K:aD->H->Prop}(ay:yt u aI ss bd e0 seen rest)(ht:Ints u t q)(aL:c8 q)(hk:1<=k)(ar:∀g∈e0,lh g.2)(O:∀r∈rest,nv r q.length)
  (h:K (decide (qw q k e0 rest)) u):Wc t k aI ss bd u K:=by
 have sz:=ay.r.len
 have e8:=ay.h.len
 have ax8:=ay.r.max
 have ax3:=ay.h.max
 have key:∀dp:aD,(dp=ak↔qw q k e0 rest)->K dp u:=λdp aa=>by
  have:dp=decide (qw q k e0 rest):=by
   cases dp with
   |true=>exact(l4 (aa.1 rfl)).symm|false=>exact(o0 λI=>by have:=aa.2 I;cases this).symm
  rw[this];exact h
 apply aFj
 refine⟨λae=>key _ ⟨λ_=>.inl (kS (by omega)),λ_=>rfl⟩,λae=>?_⟩
 have an:rest≠[]:=λe=>ae (by rw[sz,e];rfl)
 refine⟨λbw=>key _ ⟨λe=>(by cases e),λI=>?_⟩,λfO=>?_⟩
 rcases I with I|⟨I,_⟩
 exact aV I an
 omega
 obtain⟨p,ad,g,W,bM,c1,c2⟩:=ay.h.at (x:=k-1) (by omega) (by omega)
 have mf:e0.getD (k-1).toNat default=g:=by rw[dm,W];rfl
 have Fk:=dB W
 refine⟨λ_ x v=>v=u/\0<=x/\∀r∈rest.take x.toNat,g.2<mm r q,λ_ x _=>((bd.n:o)-x).toNat,⟨rfl,by omega,λr O=>(by simp at O)⟩,λb x v cx=>⟨λJ=>?_,λJ=>?_⟩⟩
 obtain⟨rfl,bK,cx⟩:=cx
 obtain⟨dv,eJ,r,dz,d0,d1,d2,d3,d4,d5⟩:=ay.r.at bK J
 have fp:=dB dz
 obtain⟨kj,my,pH⟩:=ay.r.2 r fp
 refine⟨⟨by omega,by omega⟩,p,ad,⟨by omega,by omega⟩,_,c1,_,by rw[Addr.w5];exact c2,dv,eJ,⟨bK,J⟩,_,d0,_,d1,_,d2,_,d3,_,d4,_,d5,?_⟩
 refine aBI kj my (O r fp) ht aL ⟨H.le.refl _,?_⟩
 refine amW (Fs (ar g Fk)) (rQ _) (Fs (akJ (O r fp) aL)) (rQ _) ?_
 rw[mD,mD]
 refine⟨λac=>key _ ⟨λe=>(by cases e),λI=>?_⟩,λbw=>⟨⟨by omega,by omega⟩,⟨rfl,by omega,λy ai=>?_⟩,by dsimp only;omega⟩⟩
 rcases I with I|⟨_,I⟩
 exact aV I an
 have:=I r fp
 rw[mf] at this
 exact aV (l4 this) ac
 rw[show(x+1).toNat=x.toNat+1 by omega,gJ,dz] at ai
 rcases cM.1 ai with h1|h1
 exact cx y h1
 simp at h1;rw[h1];exact DT bw
 obtain⟨rfl,bK,cx⟩:=cx
 rw[gY (by omega)] at cx
 exact key _ ⟨λ_=>.inr ⟨by omega,λr fp=>by rw[mf];exact cx r fp⟩,λ_=>rfl⟩
def dO(a b:U):Prop:=∀g,a.al=some g->b.al≠some g
def dO.symm{a b:U}(h:dO a b):dO b a:=λg W hh=>h g hh W
def vt(D:M U)(u v:H):Prop:=∀b z,u b=some z->(∀s∈D,s.al≠some b)->v b=some z
def vt.refl(D:M U)(u:H):vt D u u:=λ_ _ h _=>h
def vt.trans{w:H}(h:vt D u v)(k:vt D v w):vt D u w:=λb z aa ar=>k b z (h b z aa ar) ar
def gS.bS{s:U}(h:gS u v s)(ag:s∈D):vt D u v:=λb z aa ar=>h b z aa (ar s ag)
def vt.own{e k:N}(hk:vt D u v)(h:aK aj u e k t xs)(ac:∀s∈D,∀g,s.al=some g->aj g=none)(ar:∀s∈D,dO s t):aK aj v e k t xs:=
 ⟨h.own.le λb z aa hu=>hk b z hu λs ag W=>ar s ag b W aa,λb z aa=>hk b z (h.le b z aa) λs ag W=>(by rw[ac s ag b W] at aa;cases aa),h.fresh⟩
def aK.eG{aU:H}{e k fW dV:N}{s:U}{e9:M ao}(h:aK aj u e k s xs)(hu:u.le aU)(bW:aK aU v fW dV t e9):dO s t:=λg W hh=>by
 have h1:=bW.fresh g hh;have h2:=dL h W;cases J:u g with
 |none=>exact h2 J|some z=>rw[hu _ _ J] at h1;cases h1
def cn.jE(r:cn):M U:=[r.ls,r.ag,r.is]
structure yz(aj u:H)(r:cn):Prop where
 l:aK aj u 3 1 r.ls (r.bm.flatMap encI)
 h:aK aj u 3 1 r.ag (r.hi.flatMap encI)
 i:aK aj u 3 1 r.is (r.ids.flatMap encI)
def vt.ayR{r:cn}(hk:vt D u v)(h:yz aj u r)(ac:∀s∈D,∀g,s.al=some g->aj g=none)(ar:∀s∈D,∀t∈r.jE,dO s t):yz aj v r:=
 ⟨hk.own h.l ac λs ag=>ar s ag _ (by simp[cn.jE]),hk.own h.h ac λs ag=>ar s ag _ (by simp[cn.jE]),hk.own h.i ac λs ag=>ar s ag _ (by simp[cn.jE])⟩
def rj(aI ss bd:U)(rest:M cn):M U:=aI::ss::bd::rest.flatMap cn.jE
structure jW(aj u:H)(aI ss bd:U)(e0:M bP)(seen:M o)(rest:M cn):Prop where
 h:aK aj u 68 3 aI (e0.flatMap fX)
 s:aK aj u 3 1 ss (seen.flatMap encI)
 r:aK aj u 102 6 bd (rest.flatMap uf)
 g:∀r∈rest,yz aj u r
 eG:(rj aI ss bd rest).Pairwise dO
def jW.fresh{aI:U}{rest:M cn}(h:jW aj u aI ss bd e0 seen rest):∀s∈rj aI ss bd rest,∀g,s.al=some g->aj g=none:=by intro s ag;simp only[rj,cP,ep] at ag;rcases ag with rfl|rfl|rfl|⟨r,O,ag⟩;exact h.h.fresh;exact h.s.fresh;exact h.r.fresh;have:=h.g r O;simp only[cn.jE,cP,qe,qf] at ag;rcases ag with rfl|rfl|rfl;exact this.l.fresh;exact this.h.fresh;exact this.i.fresh
def jW.known{aI:U}{rest:M cn}(h:jW aj u aI ss bd e0 seen rest):∀s∈rj aI ss bd rest,∀g,s.al=some g->u g≠none:=by intro s ag g W;simp only[rj,cP,ep] at ag;rcases ag with rfl|rfl|rfl|⟨r,O,ag⟩;exact dL h.h W;exact dL h.s W;exact dL h.r W;have:=h.g r O;simp only[cn.jE,cP,qe,qf] at ag;rcases ag with rfl|rfl|rfl;exact dL this.l W;exact dL this.h W;exact dL this.i W
def jW.mono{aI:U}{rest:M cn}(h:jW aj u aI ss bd e0 seen rest)(k:u.le u'):jW aj u' aI ss bd e0 seen rest:=
 ⟨h.h.mono k,h.s.mono k,h.r.mono k,λr O=>⟨(h.g r O).l.mono k,(h.g r O).h.mono k,(h.g r O).i.mono k⟩,h.eG⟩
def jW.le{aI:U}{rest:M cn}(h:jW aj u aI ss bd e0 seen rest):aj.le u:=h.h.le
def jW.read{aI:U}{rest:M cn}(h:jW aj u aI ss bd e0 seen rest):yt u aI ss bd e0 seen rest:=
 ⟨h.h.fq,h.s.ints,h.r.own.cI,λr O=>⟨(h.g r O).l.ints,(h.g r O).h.ints,(h.g r O).i.ints⟩⟩
def jW.else{aI:U}{rest:M cn}(h:jW aj u aI ss bd e0 seen rest)(he:∀b z,aj b=none->u b=some z->u' b=some z):yt u' aI ss bd e0 seen rest:=by
 have one:∀{e k:N} {s:U} {xs:M ao},aK aj u e k s xs->bz u' s k xs:=λab=>(ab.own.le (u':=u') λb z aa hu=>he b z (ab.fresh b aa) hu).cI;have ints:∀{e:N} {s:U} {l:M o},aK aj u e 1 s (l.flatMap encI)->Ints u' s l:=λab=>by have:=one ab;rw[yR] at this;exact this
 exact⟨one h.h,ints h.s,one h.r,λr O=>⟨ints (h.g r O).l,ints (h.g r O).h,ints (h.g r O).i⟩⟩
def cn.core(r:cn):o×o×M o×M o×M o:=(r.aI,r.cA,r.bm,r.hi,r.ids)
def mO(x y:N->o):N->o
 |0=>0|n+1=>mO x y n+x n*y n
def Xd(x:N->o)(n:N):0<=mO x x n:=by
 induction n with
 |zero=>exact mw _|succ n aM=>
  have:0<=x n*x n:=by by_cases h:0<=x n;exact r2 h h;exact acd (by omega) (by omega)
  unfold mO;omega
def aqT(a b:o)(x y:N->o)(n:N):mO (λi=>a*x i-b*y i) (λi=>a*x i-b*y i) n=a*a*mO x x n-2*(a*b)*mO x y n+b*b*mO y y n:=by
 induction n with
 |zero=>simp[mO]|succ n aM=>
  unfold mO;rw[aM];generalize mO x x n=p;generalize mO x y n=q;generalize mO y y n=r;generalize x n=u;generalize y n=v
  grind
def aqu(x y:N->o)(n:N):mO x y n*mO x y n<=mO x x n*mO y y n:=by
 have J:=Xd x n;have ai:=Xd y n;have h:=λa b=>(aqT a b x y n)▸Xd (λi=>a*x i-b*y i) n;generalize mO x x n=p at*;generalize mO y y n=r at*;generalize mO x y n=q at*;by_cases O:0<r;have h1:=h r q;have e:r*r*p-2*(r*q)*q+q*q*r=r*(p*r-q*q):=by grind
 rw[e] at h1;by_cases I:0<=p*r-q*q;omega;have:=Int.mul_neg_of_pos_of_neg O (show p*r-q*q<0 by omega);omega;have ln:r=0:=by omega
 subst ln;have h1:=h 1 (p+1);have h2:=h 1 (-(p+1));have aQ:(1:o)*1*p-2*(1*(p+1))*q+(p+1)*(p+1)*0=p-2*((p+1)*q):=by grind
 have aF:(1:o)*1*p-2*(1*(-(p+1)))*q+(-(p+1))*(-(p+1))*0=p+2*((p+1)*q):=by grind
 rw[aQ] at h1;rw[aF] at h2;have aL:q=0:=by by_cases h3:1<=q;have:(p+1)*1<=(p+1)*q:=BV h3 (by omega);omega;by_cases a7:q<=-1;have:(p+1)*q<=(p+1)*(-1):=BV a7 (by omega);omega;omega
 rw[aL];omega
def am9(a b:M o)(n:N):fG a b n=mO (λi=>a.getD i 0-b.getD i 0) (λi=>a.getD i 0-b.getD i 0) n:=by
 induction n with
 |zero=>rfl|succ n aM=>unfold fG mO;rw[aM];rfl
def aBS(c v q:M o)(n:N):fG c q n=fG c v n+fG v q n+2*mO (λi=>c.getD i 0-v.getD i 0) (λi=>v.getD i 0-q.getD i 0) n:=by
 induction n with
 |zero=>rfl|succ n aM=>
  unfold fG mO lO;rw[aM];generalize c.getD n 0=x;generalize v.getD n 0=y;generalize q.getD n 0=Y
  grind
def apW{D E F P cA:o}(eT:D=E+F+2*P)(pV:0<=E)(ry:0<=F)(ui:0<=D)(AM:P*P<=E*F)(XW:E<=cA):EE D cA<=F:=by
 obtain⟨s0,s1,_⟩:=zW ui;obtain⟨t0,t1,t2⟩:=zW (show 0<=cA by omega);unfold EE;generalize aT:(if rt cA*rt cA=cA then rt cA else rt cA+1)=T;have n5:0<=T/\cA<=T*T:=by rw[<-aT];split;rename_i e;exact⟨t0,by omega⟩;exact⟨by omega,by omega⟩
 generalize rt D=s at*;split;rename_i bw;by_cases I:(s-T)*(s-T)<=F;exact I;exfalso;by_cases ad:P<=T*(s-T);have e:s*s=T*T+(s-T)*(s-T)+2*(T*(s-T)):=by grind
 omega;have aC:0<=T*(s-T):=r2 n5.1 (by omega);have h1:=aBT aC (show T*(s-T)<P by omega);have h2:E*F<=(T*T)*((s-T)*(s-T)):=zO (by omega) (by omega) ry (by omega);have e:T*(s-T)*(T*(s-T))=(T*T)*((s-T)*(s-T)):=by grind
 omega;exact ry
def ap2{bm hi v:M o}:∀n,(∀i,i<n->bm.getD i 0<=v.getD i 0/\v.getD i 0<=hi.getD i 0)->qC bm hi q n<=fG v q n:=by
 intro n;induction n with
 |zero=>intro _;exact mw _
 |succ n aM=>
  intro h;have h1:=aM λi hi=>h i (by omega);obtain⟨h2,h3⟩:=h n (by omega);unfold qC fG lO;generalize bm.getD n 0=a at*;generalize hi.getD n 0=b at*;generalize v.getD n 0=x at*;generalize q.getD n 0=y at*;have aC:0<=(x-y)*(x-y):=by by_cases h:0<=x-y;exact r2 h h;exact acd (by omega) (by omega)
  have aQ:y<a->(a-y)*(a-y)<=(x-y)*(x-y):=λ_=>Hh (by omega) (by omega);have aF:b<y->(y-b)*(y-b)<=(x-y)*(x-y):=λ_=>by
   have:=Hh (show 0<=y-b by omega) (show y-b<=y-x by omega);have e:(y-x)*(y-x)=(x-y)*(x-y):=by grind
   omega
  split<;>split<;>omega
def ayx{r:cn}{v:M o}(O:nv r q.length)(aB:v.length=q.length)(Br:c8 v)(aL:c8 q)(cb:mH r v):mm r q<=fG v q v.length:=by
 unfold mm;have ry:=(Hf Br aL v.length (cC _) (by omega)).1;rcases O.shape with⟨e,_⟩|⟨e,_,v1,v2,ej,eV,hle⟩|⟨e,aF,v1,ej,uG⟩;rw[aG (by omega),aG (by omega)];exact ry;rw[a1 e,<-aB];exact ap2 _ λi hi=>cb.1 e i hi;rw[aG (by omega),a1 e];have ap:r.bm.length=v.length:=by omega
 have pV:=(Hf v1 Br r.bm.length (cC _) (by omega)).1;have eT:=(Hf v1 aL r.bm.length (cC _) (by omega)).1;have h3:=aBS r.bm v q r.bm.length;have XW:=cb.2 e;rw[ap] at pV eT h3 XW ⊢;refine apW h3 pV ry eT ?_ XW;rw[am9 r.bm v,am9 v q];exact aqu _ _ _
def rowsOf:∀(S:M o) (L:M az),S.Perm (L.map (·.id))->∃m:M az,m.Perm L/\m.map (·.id)=S:=by
 intro S;induction S with
 |nil=>
  intro L h;cases L with
  |nil=>exact⟨[],.refl _,rfl⟩|cons r L=>have:=h.length_eq;simp at this
 |cons x S aM=>
  intro L h;obtain⟨r,O,J⟩:=bk.1 (h.mem_iff.1 (gr ..));obtain⟨A,B,rfl⟩:=acn O;have bO:S.Perm ((A++B).map (·.id)):=by
   have e7:(x::S).Perm (x::(A++B).map (·.id)):=by refine h.trans ?_;rw[er,gR,er,J];exact BX
   exact(aco x).1 e7
  obtain⟨m,FD,vT⟩:=aM _ bO;exact⟨r::m,(FD.cons r).trans BX.symm,by rw[gR,vT,J]⟩
def aCB{k:N}{a:M bP}(ay:k<=a.length):∀{b:M bP},(∀x∈b,∀y∈e6 k a,bw x y=ax)->e6 k (b++a)=e6 k a:=by
 intro b;induction b with
 |nil=>intro _;rfl
 |cons x b aM=>intro h;have h1:=aM λY aC=>h Y (gh _ aC);rw[x7,adH (by rw[eD];omega) (by rw[h1];exact h x (gr ..)),h1]
def Sound.parts{rest:M cn}(h:Sound L q k e0 seen rest):∃m1 m2:M az,(m1++m2).Perm L/\m1.map (·.id)=seen/\m2.map (·.id)=rest.flatMap (·.ids)/\e0=e6 k.toNat (m1.map (hM q)):=by
 obtain⟨m,FD,vT⟩:=rowsOf _ L h.all;have ag:(m.take seen.length).map (·.id)=seen:=by rw[Kc,vT,TO]
 have ar:(m.drop seen.length).map (·.id)=rest.flatMap (·.ids):=by rw[DS,vT,TP]
 refine⟨m.take seen.length,m.drop seen.length,by rw[q2];exact FD,ag,ar,?_⟩;exact h.first _ (λr O=>FD.mem_iff.1 (mx O)) ag
def Sound.af0{rest:M cn}(h:Sound L q k e0 seen rest)(aL:jt L q):∀g∈e0,lh g.2:=by obtain⟨m1,m2,ad,_,_,e⟩:=h.parts;intro g W;rw[e] at W;obtain⟨r,O,rfl⟩:=bk.1 (aCC W);exact aL.iK (ad.mem_iff.1 (iA _ O))
def Sound.co{rest:M cn}(h:Sound L q k e0 seen rest):∀r∈rest,(∀x∈r.bm,ma x)/\∀x∈r.hi,ma x:=by
 intro r O;have all:∀{v:M o},c8 v->∀x∈v,ma x:=λaB x J=>by obtain⟨i,hi,rfl⟩:=oG J;have:=aB.2 i hi;rwa[dm,cy hi] at this
 rcases(h.jD r O).1.shape with⟨_,aQ,aF,_⟩|⟨_,_,v1,v2,_,_,_⟩|⟨_,aF,v1,_,_⟩;rw[aQ,aF];exact⟨λx J=>(by cases J),λx J=>(by cases J)⟩;exact⟨all v1,all v2⟩;rw[aF];exact⟨all v1,λx J=>(by cases J)⟩
def acI(Y:o×o×M o×M o×M o):cn:=⟨Y.1,⟨none,0,0⟩,⟨none,0,0⟩,Y.2.1,⟨none,0,0⟩,Y.2.2.1,Y.2.2.2.1,Y.2.2.2.2⟩
def azK(l:M (o×o×M o×M o×M o)):(l.map acI).map cn.core=l:=by rw[eh];exact DU _
def Sound.afJ{rest:M cn}(h:Sound L q k e0 seen rest)(aL:jt L q)(hk:1<=k)(I:qw q k e0 rest):e0=e6 k.toNat (L.map (hM q)):=by
 obtain⟨m1,m2,ad,ag,ar,e⟩:=h.parts;have Dk:((m2++m1).map (hM q)).Perm (L.map (hM q)):=(List.perm_append_comm.trans ad).map _;rw[<-Ce Dk,er];rcases I with I|⟨hlen,I⟩;have:m2=[]:=by have:=eB iC ar;rw[I] at this;exact kS (by simpa using this)
 rw[this,e];rfl;have ap:(e6 k.toNat (m1.map (hM q))).length=k.toNat:=by rw[<-e];have:=Ab k.toNat (m1.map (hM q));rw[<-e] at this;omega
 have mT:k.toNat<=(m1.map (hM q)).length:=by have:=Ab k.toNat (m1.map (hM q));omega
 rw[aCB mT λx J y ai=>?_,e];obtain⟨w,hw,rfl⟩:=bk.1 J;have awP:w∈L:=ad.mem_iff.1 (lC _ hw);have cm:w.id∈rest.flatMap (·.ids):=by rw[<-ar];exact ie hw
 obtain⟨r,O,uH⟩:=ep.1 cm;obtain⟨I2,_,ef⟩:=h.jD r O;obtain⟨w',j2,he,cb⟩:=ef _ uH;have s9:w'=w:=by
  have b3:=aL.rows.nodup;rw[T4,wy,oF] at b3;obtain⟨i,hi,rfl⟩:=oG j2;obtain⟨j,aN,rfl⟩:=oG awP;by_cases h1:i<j;exact aV he (b3 i j hi aN h1);by_cases h2:j<i;exact aV he.symm (b3 j i aN hi h2);have:i=j:=by omega
  subst this;rfl
 subst s9;obtain⟨Bq,Br⟩:=aL.rows.v _ j2;have aHe:=ayx I2 (by omega) Br aL.Ht cb;have p1:=I r O;have IK:y.2<=(e0.getD (k-1).toNat default).2:=by
  have qO:=U4 k.toNat (m1.map (hM q));rw[<-e] at qO ai ap;obtain⟨i,hi,rfl⟩:=oG ai;have II:(k-1).toNat<e0.length:=by omega
  rw[dm,cy II];show e0[i].2<=e0[(k-1).toNat].2;by_cases gV:i=(k-1).toNat;subst gV;exact mw _;have:=oF.1 qO i (k-1).toNat hi II (by omega);rw[De] at this;omega
 rw[De];left;show y.2<fG w'.v q w'.v.length;omega
def D1{L':M az}(ar:1<=d/\d<=64)(hlen:L'.length<=512)(b3:(L'.map (·.id)).Nodup)(h:∀p∈L'.map az.bL,1<=p.1/\p.1<=1000000000/\(p.2.length:o)=d/\c8 p.2):hp L' d:=
 ⟨ar,hlen,λr O=>⟨(h r.bL (ie O)).1,(h r.bL (ie O)).2.1⟩,b3,λr O=>(h r.bL (ie O)).2.2⟩
end
