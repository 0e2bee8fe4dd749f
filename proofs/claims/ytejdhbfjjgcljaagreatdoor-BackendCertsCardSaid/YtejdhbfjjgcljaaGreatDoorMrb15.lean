/- Texts of mine, joined and packed by pack.py. -/
import Derived.Test.YtejdhbfjjgcljaaGreatDoorMrb14
import Derived.Test.YtejdhbfjjgcljaaGreatDoorRows
import Derived.Deep.Strs
import Derived.Lib.LaidTab
import Derived.LaidMore
import Derived.Lay
import Derived.SevenTiedAt
set_option linter.all false
open Go renaming Program->dT,Value->ao,World->cg,TypeId->dF,Addr->bc,reachBytes->q1
open _root_ renaming Nat->N,List->M,Option->aA,Array->cv,Int->o,Bool->aD,absurd->aV,Inhabited->lM
open Bool renaming true->ak,false->ax
open Go.Obj renaming cells->bj
open Go.Instr renaming lookup->gz,mapUpdate->kh
open Go.Result renaming andThen->jf
open List renaming range->lz,drop->J9,length->iC
open Go.Proofs.Tryz renaming prog->aH
open Go.Value renaming int->cJ,oneCell'->cK
open List.Perm renaming cons->j3
open Go.DataW renaming weightsAll->GW,trod->qg,weights->GX
open Int renaming toNat->wA
open Go.IntKind renaming min->G1,max->G2
open Go.Proofs.YtejdhbfjjgcljaaGreatDoor.Rows renaming laid_math_bits_deBruijn64tab->alf
set_option maxRecDepth 100000
noncomputable section
namespace Go.Proofs.YtejdhbfjjgcljaaGreatDoor
open H
open _root_.Go.Proofs.Tryz
section
variable{u:H}{s:U}{bD:cg}{gb:N}
structure re where
 kind:o
 id:o
 k:o
 bud:o
 alI:o
 wE:U
 v:M o
 qs:U
 q:M o
def H0(z:re):M ao:=[.int .i64 z.kind,.int .i64 z.id,.int .i64 z.k,.int .i64 z.bud,.int .i64 z.alI,.slice z.wE.a z.wE.n z.wE.c,.slice z.qs.a z.qs.n z.qs.c]
def LK(z:re):(H0 z).length=7:=rfl
def aGK(z:re):∀v∈H0 z,v.oneCell'=ak:=by simp[H0,cK]
def sU(u:H)(s:U)(l:M re):Prop:=bz u s 7 (l.flatMap H0)/\∀z∈l,Ints u z.wE z.v/\Ints u z.qs z.q
def sU.len{l:M re}(h:sU u s l):s.n=l.length:=gU LK (by decide) h.1
def sU.max{l:M re}(h:sU u s l):s.n<=9223372036854775807:=jo (bz.cap h.1) (bz.max h.1)
def sU.mono{u':H}{l:M re}(h:sU u s l)(k:u.le u'):sU u' s l:=⟨h.1.mono k,λz ab=>⟨(h.2 z ab).1.mono k,(h.2 z ab).2.mono k⟩⟩
def sU.nil(u:H):sU u ⟨none,0,0⟩ []:=⟨⟨rfl,cC _,by decide,.inl rfl⟩,λ_ h=>by cases h⟩
def sU.at{l:M re}(h:sU u s l){x:o}(h0:0<=x)(h1:x<(s.n:o)):∃p,s.a=some p/\∃z:re,l[x.toNat]?=some z/\z∈l/\u.cell? (p.add (x.toNat*7))=some (.int .i64 z.kind)/\u.cell? ((p.add (x.toNat*7)).add 1)=some (.int .i64 z.id)/\
  u.cell? ((p.add (x.toNat*7)).add 2)=some (.int .i64 z.k)/\u.cell? ((p.add (x.toNat*7)).add 3)=some (.int .i64 z.bud)/\u.cell? ((p.add (x.toNat*7)).add 4)=some (.int .i64 z.alI)/\
  u.cell? ((p.add (x.toNat*7)).add 5)=some (.slice z.wE.a z.wE.n z.wE.c)/\u.cell? ((p.add (x.toNat*7)).add 6)=some (.slice z.qs.a z.qs.n z.qs.c)/\Ints u z.wE z.v/\Ints u z.qs z.q:=by
 have ae:=h.len
 have bw:x.toNat<l.length:=by omega
 have J:l[x.toNat]?=some l[x.toNat]:=cy bw
 obtain⟨p,ad,I⟩:=bz.elem LK (by decide) h.1 J
 have RE:=I 0 _ rfl
 rw[Addr.add_zero'] at RE
 have hm:=kD bw
 exact⟨p,ad,_,J,hm,RE,I 1 _ rfl,I 2 _ rfl,I 3 _ rfl,I 4 _ rfl,I 5 _ rfl,I 6 _ rfl,(h.2 _ hm).1,(h.2 _ hm).2⟩
structure Wk(u:H)(s t:U)(l:M az)(ops:M re):Prop where
 rows:eF u s l
 calls:sU u t ops
 small:∀r∈l,r.v.length<=17592186044416
 ac2:s.n<=17592186044416
 aAz:∀z∈ops,z.v.length<=17592186044416/\z.q.length<=17592186044416
 anC:t.n<=17592186044416
def amU{t:U}{l:M az}{ops:M re}{K:aD->H->Prop}(I:Wk u s t l ops)(h1:K ak u)
  (h2:l.length<=2000->ops.length<=2000->(∀r∈l,r.v.length<=32768)->(∀z∈ops,z.v.length<=32768/\z.q.length<=32768)->K ax u):QC s t u K:=by
 have dM:=I.rows.len
 have aac:=I.calls.len
 apply aE3
 intro nr nE
 refine⟨λ_=>h1,λht=>⟨λ_=>h1,λag=>aBB I.rows I.small I.ac2 (by omega) λx J=>⟨λ_=>h1,λfQ=>nE _ _ ?_⟩⟩⟩
 have aB:∀r∈l,r.v.length<=32768:=λr O=>by have:=J (by omega) r O;omega
 have fin:∀n:o,(n<=32768->∀z∈ops,z.v.length<=32768/\z.q.length<=32768)->∀dp:aD,(dp=ak↔32768<n)->K dp u:=λn ae dp aa=>by
  cases dp with
  |true=>exact h1|false=>exact h2 (by omega) (by omega) aB (ae (by by_cases e:32768<n;have:=aa.2 e;cases this;omega))
 refine⟨λn i w=>w=u/\0<=i/\i<=ops.length/\0<=n/\∀z∈ops.take i.toNat,(z.v.length:o)<=n/\(z.q.length:o)<=n,λ_ i _=>ops.length-i.toNat,⟨rfl,by omega,by omega,by omega,λz ab=>by simp at ab⟩,?_⟩
 rintro n i w ⟨rfl,i0,i1,n0,Yp⟩
 intro aeX as1
 refine⟨λeU=>⟨λae=>as1 _ ?_,λae=>fin n (λh=>aV h ae) _ (by simp)⟩,λFu=>fin n (λae z ab=>?_) _ (by simp)⟩
 obtain⟨p,ad,z,ab,oS,bM,c1,c2,fc,pS,rm,Lr,Jb,xK⟩:=I.calls.at i0 eU
 have ej:=Jb.len
 have eV:=xK.len
 obtain⟨s1,s2⟩:=I.aAz z oS
 refine⟨p,ad,⟨i0,eU⟩,p,ad,⟨i0,eU⟩,_,by rw[Addr.w5];exact rm,⟨by omega,by omega⟩,_,Lr,⟨by omega,by omega⟩,⟨by omega,by omega⟩,⟨rfl,by omega,by omega,by omega,λb7 bQ=>?_⟩,by dsimp only;omega⟩
 rw[show(i+1).toNat=i.toNat+1 by omega,gJ,ab] at bQ
 rcases cM.1 bQ with bW|bW
 have:=Yp b7 bW;omega
 simp at bW;subst bW;omega
 have hi:i.toNat=ops.length:=by have:¬i<(t.n:o):=Fu;omega
 rw[hi,oE] at Yp
 have:=Yp z ab
 omega
def aqe(a b c d:U):kH aH 22 4 #[(0,.agg #[.int .i64 1,.slice a.a a.n a.c]),(1,.agg #[.int .i64 2,.slice b.a b.n b.c]),(2,.agg #[.int .i64 3,.slice c.a c.n c.c]),(3,.agg #[.int .i64 4,.slice d.a d.n d.c])]=
  some (52,[.int .i64 1,.slice a.a a.n a.c,.int .i64 2,.slice b.a b.n b.c,.int .i64 3,.slice c.a c.n c.c,.int .i64 4,.slice d.a d.n d.c]):=by kernel_rfl
def CT(a b c d:U):M az:=[⟨1,a,[0,0]⟩,⟨2,b,[3,4]⟩,⟨3,c,[0,1]⟩,⟨4,d,[30,40]⟩]
def aBC{K:U->H->Prop}(h:∀s u' a b c d,u.le u'->eF u' s (CT a b c d)->K s u'):V5 u K:=by apply aE6;refine mA (CI _ _) λg1 h1=>mA (CI _ _) λg2 h2=>mA (CI _ _) λg3 h3=>mA (CI _ _) λg4 a7=>mA (aqe _ _ _ _) λg5 bO=>?_;have i1:=Jl (H.le.refl u) h1 [0,0] 3 (by simp);have i2:=Jl (H.le.refl _) h2 [3,4] 3 (by simp);have i3:=Jl (H.le.refl _) h3 [0,1] 3 (by simp);have i4:=Jl (H.le.refl _) a7 [30,40] 3 (by simp);have ej:=bZ (u:=u) (b:=g1) (.cells [cJ .i64 0,.int .i64 0].toArray 3 (0,0)) h1;have eV:=bZ (b:=g2) (.cells [cJ .i64 3,.int .i64 4].toArray 3 (0,0)) h2;have qQ:=bZ (b:=g3) (.cells [cJ .i64 0,.int .i64 1].toArray 3 (0,0)) h3;have lK:=bZ (b:=g4) (.cells [cJ .i64 30,.int .i64 40].toArray 3 (0,0)) a7;have m:=aK.make (k:=2) (H.le.refl _) bO (cells:=[cJ .i64 1,.slice (some ⟨g1,0,none⟩) 2 2,.int .i64 2,.slice (some ⟨g2,0,none⟩) 2 2,.int .i64 3,.slice (some ⟨g3,0,none⟩) 2 2,.int .i64 4,.slice (some ⟨g4,0,none⟩) 2 2].toArray) (e:=52) (n:=4) (by omega) rfl;refine h _ _ ⟨some ⟨g1,0,none⟩,2,2⟩ ⟨some ⟨g2,0,none⟩,2,2⟩ ⟨some ⟨g3,0,none⟩,2,2⟩ ⟨some ⟨g4,0,none⟩,2,2⟩ ?_ ⟨m.own.cI,?_⟩;exact(((ej.trans eV).trans qQ).trans lK).trans m.le;intro r O;simp only[CT,cP,qe,qf] at O;rcases O with rfl|rfl|rfl|rfl;exact i1.mono (((eV.trans qQ).trans lK).trans m.le);exact i2.mono ((qQ.trans lK).trans m.le);exact i3.mono (lK.trans m.le);exact i4.mono m.le
def arG(a b c d:U):jt (CT a b c d) [0,0]:=w7.1 (by kernel_rfl)
def arH(a b c d:U):e6 2 ((CT a b c d).map (hM [0,0]))=[(1,0),(3,1)]:=by kernel_rfl
def arF(a b c d:U):jy (CT a b c d) 2 3 2 0 0=0:=by kernel_rfl
def zw(P:M Ao):M az:=P.map λp=>⟨p.1,⟨none,0,0⟩,p.2⟩
def ax5(P:M Ao):(zw P).map az.bL=P:=by unfold zw;rw[eh];exact DU _
def axk{aj:H}{D:N->Prop}{b:N}{X:aS}(h:dD aj u D b X){q:M o}{k bud:o}(he:hZ q X.aq k bud=0){L:M az}(c6:(L.map az.bL).Perm (a6 X))(Bd:jt L q)(aa:(L.length:o)<=bud):
  ix X q k bud=e6 k.toNat (L.map (hM q))/\(gg X q k bud).length<=(a6 X).length:=by
 obtain⟨aB,cq,cH,_,_⟩:=w6.1 he
 have hlen:=c6.length_eq
 rw[dj] at hlen
 obtain⟨bg,h1,h2⟩:=Tc h he c6 Bd (azK (jN X q k bud))
 have xl:=bg.all.length_eq
 rw[eD,dj] at xl
 refine⟨bg.afJ Bd cq ?_,by omega⟩
 have al0:(gg X q k bud).length=L.length->qw q k (ix X q k bud) ((jN X q k bud).map acI):=λh2=>by
  left;generalize (jN X q k bud).map acI=rest at*;cases rest with
  |nil=>rfl|cons r rs=>have h3:=(bg.jD r (gr ..)).2.1;have a7:=vc.2 h3;rw[gI,eD] at xl;omega
 rcases h2 with h2|h2|h2
 exact al0 (by omega)
 exact al0 h2
 exact h2
def Ky{K:aD->H->Prop}(hK:kG u)(h:∀u',u.le u'->K ak u'):vq u K:=by
 apply aE2;have zJ:∀{w:H} {g:N} (W:w g=none) (x y:o),Ints (w.ins g (.cells [cJ .i64 x,.int .i64 y].toArray 3 (0,0))) ⟨some ⟨g,0,none⟩,2,2⟩ [x,y]:=λ{w g} W x y=>Jl (H.le.refl w) W [x,y] 3 (by simp);refine aBC λs0 aU a b c d ej kj=>?_;refine UI kj (hK.mono ej) ⟨by decide,by decide⟩ (λan=>aV (arF a b c d) an) λ_ dX D X nX ll kf AS vS vP=>?_;have hlen:(a6 X).length=4:=by have:=kf.length_eq;simpa[CT] using this
 intro Ld RS;refine⟨λe=>(by cases e),λ_=>⟨λe=>aV rfl e,λ_=>adf ll ⟨λan=>aV (by rw[hlen];rfl) an,λ_=>RS _ _ ?_⟩⟩⟩;clear RS Ld;refine mA (CI 0 0) λg1 h1=>?_;have m1:=bZ (u:=nX) (b:=g1) (.cells [cJ .i64 0,.int .i64 0].toArray 3 (0,0)) h1;have R4:hZ [0,0] X.aq 2 4=0:=by rw[AS];decide
 refine UK (ll.mono m1) (by omega) (zJ h1 0 0) (λan=>aV R4 an) λ_ Pn qh G4 rest lc ay Fa=>?_;have YT:=(axk ll R4 (L:=CT a b c d) kf.symm (arG a b c d) (mw _)).1;have aF:e6 (wA 2) ((CT a b c d).map (hM [0,0]))=[(1,0),(3,1)]:=arH a b c d;rw[aF] at YT;have Nv:=ay.h;rw[YT] at Nv;have aho:=ll.mono (m1.trans ay.le);have ag0:∀g,Pn.al=some g->¬D g:=λg W ar=>by have:=ay.h.fresh g W;obtain⟨z,ab⟩:=fj.1 (ll.base.2.2 g ar);rw[m1 _ _ ab] at this;cases this
 have aG8:∀g,Pn.al=some g->∃z,lc g=some z:=λg W=>fj.1 (dL ay.h W);clear YT Fa ay;refine mA (CI 9 9) λg2 h2=>?_;have m2:=bZ (u:=lc) (b:=g2) (.cells [cJ .i64 9,.int .i64 9].toArray 3 (0,0)) h2;have cm:∀x,x∈(a6 X).map (·.1)↔x∈([1,2,3,4]:M o):=λx=>(kf.map (·.1)).mem_iff;have t3:decide ((3:o)∈(a6 X).map (·.1))=ak:=l4 ((cm 3).2 (by decide));have aCe:decide ((3:o)∉(a6 X).map (·.1))=ax:=o0 λh=>h ((cm 3).2 (by decide));have Sy:fR 3 [9,9] X.aq (decide ((3:o)∈(a6 X).map (·.1))) (a6 X).length=0:=by rw[t3,AS,hlen];decide
 have ag4:∀{Y:H} {g:N},(∀c,D c->Y c≠none)->Y g=none->∀b2,(⟨some ⟨g,0,none⟩,2,2⟩:U).al=some b2->¬D b2:=λ{Y g} aC W b2 ca ar=>by
  have:g=b2:=by simpa[U.al] using ca
  exact aC b2 ar (by rw[<-this];exact W)
 refine adg (aho.mono m2) (by omega) (hK.mono ej) (zJ h2 9 9) (ag4 aho.base.2.2 h2) (λan=>aV Sy an) λ_ KD qy yD atD pu NE y6 _ hh=>?_;rw[aCe];have auV:∀g,Pn.al=some g->∀z,lc g=some z->KD g=some z/\¬qy g:=λg W z ab=>by refine⟨pu.bS g z (m2 _ _ ab) (ag0 g W),λar=>?_⟩;rcases pu.grow g ar with bO|bO;exact ag0 g W bO;rw[m2 _ _ ab] at bO;cases bO
 have eJ:(a6 yD).Perm [(3,[9,9]),(1,[0,0]),(2,[3,4]),(4,[30,40])]:=by refine NE.trans (j3 _ ?_);exact(kf.filter _).trans (Kf _)
 have auH:(1:o)∈(a6 yD).map (·.1):=(eJ.map (·.1)).mem_iff.2 (by decide);refine ade atD (by omega) (λeg=>aV auH eg) λ_ kE aoX QY R0 nK Be Iw _ ah4=>?_;have A0:(a6 QY).length=3:=by rw[Be];have:=(eJ.filter λx=>x.1 !=1).length_eq;exact this
 have auW:∀g,Pn.al=some g->∀z,lc g=some z->kE g=some z:=λg W z ab=>by obtain⟨bO,e7⟩:=auV g W z ab;exact nK.bS g z bO e7
 refine mA (CI 1 1) λg3 h3=>?_;have m3:=bZ (u:=kE) (b:=g3) (.cells [cJ .i64 1,.int .i64 1].toArray 3 (0,0)) h3;have M7:fR 0 [1,1] QY.aq (decide ((0:o)∈(a6 QY).map (·.1))) (a6 QY).length=50:=by unfold fR;rw[a1 (by omega)]
 have asN:∀b2,(⟨some ⟨g3,0,none⟩,2,2⟩:U).al=some b2->¬aoX b2:=λb2 ca ar=>by
  have:g3=b2:=by simpa[U.al] using ca
  exact R0.base.2.2 b2 ar (by rw[<-this];exact h3)
 refine adg (R0.mono m3) (by omega) (hK.mono ej) (zJ h3 1 1) asN (λ_=>?_) λhe=>by rw[M7] at he;cases he
 rw[M7];have uw:=h _ ((ej.trans (R0.base.1)).trans m3);have fq:lP _ Pn [((1:o),(0:o)),(3,1)]:=bz.else Nv.fq λg z W ab=>m3 _ _ (auW g W z ab);intro Ev asZ;refine⟨λ_=>⟨λ_=>⟨λ_=>⟨λ_=>⟨λ_=>⟨λ_=>adf (R0.mono m3) ?_,λe=>(by cases e)⟩,λe=>(by cases e)⟩,λe=>aV rfl e⟩,λe=>aV rfl e⟩,λe=>aV rfl e⟩,λe=>aV rfl e⟩;have aa6:∀dp:aD,dp=ak->K dp (kE.ins g3 (.cells [cJ .i64 1,.int .i64 1].toArray 3 (0,0))):=λdp aa=>by rw[aa];exact uw
 refine asZ _ _ ⟨λ_=>?_,λaa=>?_⟩;have fK:=fq.len;refine⟨λ_=>?_,λan=>aV (by rw[fK];rfl) an⟩;obtain⟨p,ad,x,J,bM,c1,c2⟩:=fq.at (x:=0) (by omega) (by rw[fK];decide);obtain⟨rU,jx,y,ai,d0,d1,d2⟩:=fq.at (x:=1) (by omega) (by rw[fK];decide);have ke:rU=p:=by rw[ad] at jx;exact(cX jx).symm
 subst ke;have fQ:x=(1,0):=by simpa using J.symm
 have iM:y=(3,1):=by simpa using ai.symm
 subst fQ;subst iM;refine⟨_,ad,⟨by omega,by rw[fK];decide⟩,_,bM,_,c1,_,c2,λ_=>⟨_,ad,⟨by omega,by rw[fK];decide⟩,_,d0,_,d1,_,d2,aa6 _ ?_⟩,λan=>aV ⟨rfl,rfl,rfl⟩ an⟩;exact l4 ⟨rfl,rfl,rfl⟩;rw[A0] at aa;simp at aa
open Go.ChangeShapes Go.WideShapes Go.ChangeAt Go.RowKit
def afH:aH.cellsOf 54=7:=by kernel_rfl
def aqz:aH.cellsOf 28=5:=by kernel_rfl
def aqA:aH.cellsOf 23=1:=by kernel_rfl
def aqB:aH.cellsOf 25=4:=by kernel_rfl
def aqj:aH.bytesOf 54=88:=by kernel_rfl
section
variable {mF:Type} {enc:dF×ao->mF}
def ayQ{cs:M ao}{x:DataW mF×M MemPlace}(h:qg enc aH bD 0 (λ_=>ak) ak gb 52 cs=some x)(hw:∀n∈x.1.weights aH 52,n<=q1):
  ∃(i:o) (s:U) (v:M o),cs=[.int .i64 i,.slice s.a s.n s.c]/\Ints (whole bD) s v/\v.length<=17592186044416:=by
 obtain⟨hS,ij,k,iV,hlen,aj,aU⟩:=trod_struct2 TZ h
 rw[W2] at hlen
 match cs,hlen with
 | [v0,v1],_=>simp only[HS,W1,J9,List.take] at aj aU;obtain⟨q,eK,_,_⟩:=yc yb aj;simp only[u7,r5] at eK;subst eK;obtain⟨s,rfl⟩:=cells_one aU;obtain⟨zs,aC,xN⟩:=OH aU (λn ae=>hw n (by rw[iV];simp only[GX,show aH.underlying 52=some _ from TZ];simp only[gR,BT,DataW.weightsEach,cM];exact .inr (.inl ae)));exact⟨q,s,zs,rfl,aC,xN⟩
def ayP{cs:M ao}{x:DataW mF×M MemPlace}(h:qg enc aH bD 0 (λ_=>ak) ak gb 54 cs=some x)(hw:∀n∈x.1.weights aH 54,n<=q1):
  ∃z:re,cs=H0 z/\Ints (whole bD) z.wE z.v/\Ints (whole bD) z.qs z.q/\z.v.length<=17592186044416/\z.q.length<=17592186044416:=by
 obtain⟨xs,n,_,iV,hlen,fh,ac⟩:=DataW.trod_struct underlying54 h
 rw[afH] at hlen
 match xs,fh,cs,hlen with
 | [hS,ij,jF,o7,qt,sQ],_,[v0,v1,v2,v3,v4,v5,v6],_=>have f0:qg enc aH bD 0 (λ_=>ak) ak n 3 (([v0,v1,v2,v3,v4,v5,v6].drop 0).take (aH.cellsOf 3))=some hS:=ac 0 _ rfl;have f1:qg enc aH bD 0 (λ_=>ak) ak n 3 (([v0,v1,v2,v3,v4,v5,v6].drop 1).take (aH.cellsOf 3))=some ij:=ac 1 _ rfl;have f2:qg enc aH bD 0 (λ_=>ak) ak n 3 (([v0,v1,v2,v3,v4,v5,v6].drop 2).take (aH.cellsOf 3))=some jF:=ac 2 _ rfl;have f3:qg enc aH bD 0 (λ_=>ak) ak n 3 (([v0,v1,v2,v3,v4,v5,v6].drop 3).take (aH.cellsOf 3))=some o7:=ac 3 _ rfl;have f4:qg enc aH bD 0 (λ_=>ak) ak n 52 (([v0,v1,v2,v3,v4,v5,v6].drop 4).take (aH.cellsOf 52))=some qt:=ac 4 _ rfl;have f5:qg enc aH bD 0 (λ_=>ak) ak n 30 (([v0,v1,v2,v3,v4,v5,v6].drop 6).take (aH.cellsOf 30))=some sQ:=ac 5 _ rfl;simp only[HS,W1,W2,J9,List.take] at f0 f1 f2 f3 f4 f5;obtain⟨zJ,eK,_,_⟩:=yc yb f0;obtain⟨cV,aQ,_,_⟩:=yc yb f1;obtain⟨dc,aF,_,_⟩:=yc yb f2;obtain⟨dh,cW,_,_⟩:=yc yb f3;have cb:∀{t:dF} {y:DataW mF×M MemPlace},∀m:N,m∈y.1.weights aH t->(t=52/\y=qt∨t=30/\y=sQ)->m<=q1:=λm hm I=>hw m (by rw[iV];simp only[GX,show aH.underlying 54=some _ from underlying54];simp only[gR,BT,DataW.weightsEach,cM];rcases I with⟨rfl,rfl⟩|⟨rfl,rfl⟩;exact .inr (.inr (.inr (.inr (.inl hm))));exact .inr (.inr (.inr (.inr (.inr (.inl hm))))));obtain⟨azL,rs,wE,Rs,O,k1⟩:=ayQ f4 (λm hm=>cb m hm (.inl ⟨rfl,rfl⟩));obtain⟨qs,eq⟩:=cells_one f5;subst eq;obtain⟨zs,aC,xN⟩:=OH f5 (λm hm=>cb m hm (.inr ⟨rfl,rfl⟩));simp only[u7,r5] at eK aQ aF cW Rs;obtain⟨arB,arC⟩:=Rs;subst eK aQ aF cW arB arC;exact⟨⟨zJ,cV,dc,dh,azL,rs,wE,qs,zs⟩,rfl,O,aC,k1,xN⟩
def akS{cs:cv ao}{x:DataW mF×M MemPlace}(h:qg enc aH bD 0 (λ_=>ak) ak gb 28 cs.toList=some x):
  ∃a b c d s:o,cz s/\cs=#[.int .i64 a,.int .i64 b,.int .i64 c,.int .i64 d,.int .u64 s]:=by
 obtain⟨hS,ij,k,_,hlen,aj,aU⟩:=trod_struct2 underlying28 h
 rw[aqz] at hlen
 obtain⟨cl⟩:=cs
 change cl.length=5 at hlen
 match cl,hlen with
 | [v0,v1,v2,v3,v4],_=>
  simp only[aqB,aqx,J9,List.take] at aj aU;obtain⟨xs,n,_,_,_,fh,ac⟩:=DataW.trod_struct underlying25 aj
  match xs,fh with
  | [z0,iY,z2,z3],_=>
   have f0:qg enc aH bD 0 (λ_=>ak) ak n 23 (([v0,v1,v2,v3].drop 0).take (aH.cellsOf 23))=some z0:=ac 0 _ rfl;have f1:qg enc aH bD 0 (λ_=>ak) ak n 3 (([v0,v1,v2,v3].drop 1).take (aH.cellsOf 3))=some iY:=ac 1 _ rfl;have f2:qg enc aH bD 0 (λ_=>ak) ak n 3 (([v0,v1,v2,v3].drop 2).take (aH.cellsOf 3))=some z2:=ac 2 _ rfl;have f3:qg enc aH bD 0 (λ_=>ak) ak n 3 (([v0,v1,v2,v3].drop 3).take (aH.cellsOf 3))=some z3:=ac 3 _ rfl;simp only[aqA,HS,J9,List.take] at f0 f1 f2 f3;obtain⟨m0,eK,_,_⟩:=yc underlying23 f0;obtain⟨m1,aQ,_,_⟩:=yc yb f1;obtain⟨m2,aF,_,_⟩:=yc yb f2;obtain⟨m3,cW,_,_⟩:=yc yb f3;obtain⟨m4,fJ,_,nk⟩:=yc underlying26 aU;simp only[u7,r5] at eK aQ aF cW fJ;subst eK aQ aF cW fJ;refine⟨m0,m1,m2,m3,m4,?_,rfl⟩;simp only[Lit.wf,pF,JP] at nk;have g1:G1 .u64=0:=by decide
   have g2:G2 .u64=18446744073709551615:=by decide
   rw[g1,g2] at nk;exact⟨nk.1,by omega⟩
instance:lM re:=⟨⟨0,0,0,0,0,⟨none,0,0⟩,[],⟨none,0,0⟩,[]⟩⟩
def akT{a:aA bc}{len cap:N}{x:DataW mF×M MemPlace}(h:qg enc aH bD 0 (λ_=>ak) ak gb 29 [.slice a len cap]=some x)(hw:∀n∈x.1.weights aH 29,n<=q1):
  ∃l:M re,sU (whole bD) ⟨a,len,cap⟩ l/\(∀z∈l,z.v.length<=17592186044416/\z.q.length<=17592186044416)/\len<=17592186044416:=by
 have O:q1=140737488351232:=by decide
 rcases Deep.open_slice underlying29 h with⟨dK,_⟩|⟨p,l,c,m,n,D,apg,dK,aa,ap,hm,uB,J,eL⟩
 simp only[u7,J8,r5] at dK
 obtain⟨rfl,rfl,rfl⟩:=dK
 exact⟨[],⟨⟨rfl,cC _,by simp,.inl rfl⟩,λ_ h=>(by cases h)⟩,λ_ h=>(by cases h),by omega⟩
 simp only[u7,J8,r5] at dK
 obtain⟨rfl,rfl,rfl⟩:=dK
 simp only[qX] at uB
 subst uB
 rw[Gq] at hm
 have N9:∀k,k∈(((lz len).map D).length+((lz (m-len)).map λj=>D (len+j)).length)*aH.bytesOf 54::(GW aH 54 ((lz len).map D)++GW aH 54 ((lz (m-len)).map λj=>D (len+j)))->k<=q1:=by intro k hk;refine hw k ?_;rw[J];simp only[GX,show aH.underlying 29=some (.slice 54) from underlying29];exact hk
 have kr:len*32<=q1:=by
  have:=N9 _ (gr ..);rw[aqj] at this;simp at this;have e:len+(m-len)=m:=by omega
  omega
 have each:∀i,i<len->∃z:re,(∀j,j<7->bD.cell? ((p.add (i*7)).add j)=(H0 z)[j]?)/\(Ints (whole bD) z.wE z.v/\Ints (whole bD) z.qs z.q)/\z.v.length<=17592186044416/\z.q.length<=17592186044416:=by intro i hi;obtain⟨yL,h1,h2⟩:=eL i (by omega);rw[afH] at h1;obtain⟨_,hlen,fP⟩:=World.cells?_some h1;have aav:∀n∈(D i).weights aH 54,n<=q1:=λn ae=>N9 n (gh _ (iA _ (aoh (i:=i) (d:=D i) (by simp[hi]) n ae)));obtain⟨z,rfl,aB,aL,Bq,qM⟩:=ayP h2 aav;exact⟨z,fP,⟨aB,aL⟩,Bq,qM⟩
 obtain⟨f,ac⟩:=Deep.choose_lt each
 have mR:((lz len).map f).length=len:=by simp
 refine⟨(lz len).map f,⟨⟨?_,ap,hm,.inr ⟨p,rfl,λj v e=>?_⟩⟩,λr O=>?_⟩,λr O=>?_,by omega⟩
 rw[og LK,mR]
 have aN:j<len*7:=by have:=(iB.1 e).1;rw[og LK,mR] at this;exact this
 have aQ:j=j/7*7+j%7:=by omega
 have ar:j/7<len:=by omega
 rw[Vk]
 rw[aQ,H5 LK _ _ _ (GV _ (by decide))] at e
 rw[jq,O5 ar] at e
 simp only[u4,OT] at e
 obtain⟨g0,_⟩:=ac (j/7) ar
 rw[aQ,<-Addr.w5,g0 _ (GV _ (by decide)),e]
 obtain⟨i,hi,rfl⟩:=bk.1 O
 exact(ac i (by simpa using hi)).2.1
 obtain⟨i,hi,rfl⟩:=bk.1 O
 exact(ac i (by simpa using hi)).2.2
end
def axz:(alf:DataW Unit)=Lib.tabData .u8 (Lib.deBruijn64tab.map Int.ofNat):=by kernel_rfl
def anw(h:laidMetH aH [("math/bits.deBruijn64tab",alf)] bD):kG (whole bD):=by rw[MakeChecks.laidMetH_plain _ _ _ (by kernel_rfl),axz] at h;have ht:=Lib.tabIs_of_head (g:=0) (by kernel_rfl) (by kernel_rfl) underlying281 underlying5 (by kernel_rfl) (by kernel_rfl) h;intro w hw j aN;have I:=Lib.TabIs.cell ht (g:=0) (by kernel_rfl) j (by rw[dj];exact aN);rw[<-Vk] at I;have:=hw.cell I;rw[this];simp[List.getD,cy aN]
end
section
variable{u ub aj v u' b6:H}{L l:M az}{n b m:N}{D:N->Prop}{d k A B E F:o}{s t:U}{q S:M o}{P:M Ao}{r:az}{ops:M re}{K:aD->H->Prop}
structure sc(ub u:H)(D:N->Prop)(n:N)(d:o)(L:M az):Prop where
 ex:∃ho,ho.le u/\(∀c,D c->ho c=none)/\TabAt ho n d L/\ub.le ho/\ub n=none
def sc.le(h:sc ub u D n d L):ub.le u:=by obtain⟨ho,h1,_,_,a7,_⟩:=h.ex;exact a7.trans h1
def sc.mono(h:sc ub u D n d L)(hu:u.le u'):sc ub u' D n d L:=by obtain⟨ho,h1,h2,h3,a7,bO⟩:=h.ex;exact⟨ho,h1.trans hu,h2,h3,a7,bO⟩
def sc.rows(h:sc ub u D n d L):∃s:U,u n=some (.cells #[.int .i64 d,.slice s.a s.n s.c] 84 (0,0))/\eF u s L:=by obtain⟨ho,h1,_,h3,_,_⟩:=h.ex;obtain⟨s,v,ae,aB,_,b4⟩:=h3.ex;exact⟨s,h1 _ _ ae,b4.mono (aB.trans h1)⟩
def sc.D0(h:sc ub u D n d L):(L.map az.bL).Pairwise λa b=>a.1<b.1:=by obtain⟨ho,_,_,h3,_,_⟩:=h.ex;exact h3.D0
def sc.nodup(h:sc ub u D n d L):(L.map (·.id)).Nodup:=by obtain⟨ho,_,_,h3,_,_⟩:=h.ex;rw[T4,wy];exact h3.B8.imp λh=>Int.ne_of_lt h
def sc.eX{fy:N->Prop}(h:sc ub u D n d L)(k:ik u D u' fy):sc ub u' fy n d L:=by obtain⟨ho,h1,h2,h3,a7,bO⟩:=h.ex;obtain⟨cq,cH⟩:=k.apart h1 h2;exact⟨ho,cq,cH,h3,a7,bO⟩
structure w0(ub u:H)(D:N->Prop)(b:N)(X:aS)(n:N)(L:M az):Prop where
 bu:dD ub u D b X
 anv:sc ub u D n X.aq L
 perm:(a6 X).Perm (L.map az.bL)
 ok:hp L X.aq
def w0.mono{X:aS}(h:w0 ub u D b X n L)(hu:u.le u'):w0 ub u' D b X n L:=⟨h.bu.mono hu,h.anv.mono hu,h.perm,h.ok⟩
def w0.le{X:aS}(h:w0 ub u D b X n L):ub.le u:=h.anv.le
def w0.ids{X:aS}(h:w0 ub u D b X n L)(id:o):id∈(a6 X).map (·.1)↔id∈L.map (·.id):=by rw[p6];exact(h.perm.map _).mem_iff
def w0.len{X:aS}(h:w0 ub u D b X n L):(a6 X).length=L.length:=by have:=h.perm.length_eq;simpa using this
def axW{id:o}{v:M o}{there:aD}{many:o}(h:fR id v d there many=0):1<=id/\id<=1000000000/\hv v d=0/\(there=ax->many<512):=by unfold fR at h;split at h;omega;split at h;rename_i h1 h2;exact aV h h2;split at h;omega;rename_i h1 h2 h3;refine⟨by omega,by omega,by omega,λht=>?_⟩;by_cases hm:many<512;exact hm;exact aV ⟨ht,by omega⟩ h3
def arS{id:o}(h:id∈P.map (·.1)):(P.filter λp=>p.1 !=id).length<P.length:=by obtain⟨p,gD,eJ⟩:=bk.1 h;exact Kg.2 ⟨p,gD,by simp[eJ]⟩
def w0.known{X:aS}(h:w0 ub u D b X n L):∀c,D c->u c≠none:=h.bu.base.2.2
def arP{ae1:M Ao}{id:o}(ac:P.length<=512)(he:fR id q d (decide (id∈P.map (·.1))) P.length=0)(ad:ae1.Perm ((id,q)::P.filter λx=>x.1 !=id)):ae1.length<=512:=by obtain⟨_,_,_,a7⟩:=axW he;have e:=ad.length_eq;simp only[hX] at e;by_cases hm:id∈P.map (·.1);have:=arS hm;omega;have:=a7 (by simp only[GU];exact hm);have mP:=yf (λp:Ao=>p.1 !=id) P;omega
def amV{X:aS}{K:H->Prop}(h:dD ub u D b X)(ac:(a6 X).length<=512)(kc:mX X+ops.length<=2700)(hK:kG ub)(hO:sU ub t ops)(aac:t.n<=17592186044416)
  (av:∀u' fy dE,dD ub u' fy b dE->(a6 dE).length<=512->dE.aq=X.aq->dE.b9=X.b9->ik u D u' fy->mX dE<=mX X+ops.length->K u'):QD (some ⟨b,0,none⟩) t u K:=by
 have aHu:=hO.len
 apply aE5
 refine⟨λx v=>0<=x/\∃fy dE,dD ub v fy b dE/\(a6 dE).length<=512/\dE.aq=X.aq/\dE.b9=X.b9/\ik u D v fy/\(mX dE:o)<=mX X+x/\x<=t.n,λx _=>((t.n:o)-x).toNat,⟨by omega,D,X,h,ac,rfl,rfl,ik.mono (H.le.refl u),by omega,by omega⟩,λx v cx=>⟨λJ=>?_,λJ=>?_⟩⟩
 .obtain⟨h0,fy,dE,ll,cS,ar,ap,ht,YR,awW⟩:=cx;obtain⟨p,ad,z,_,mj,bM,c1,c2,fc,pS,rm,Lr,aB,aL⟩:=(hO.mono ll.base.1).at h0 J;have next:∀{b6:H} {qy:N->Prop} {yD:aS},dD ub b6 qy b yD->(a6 yD).length<=512->yD.aq=dE.aq->yD.b9=dE.b9->ik v fy b6 qy->mX yD<=mX dE+1->
    bh (x+1)/\(0<=x+1/\∃fy dE,dD ub b6 fy b dE/\(a6 dE).length<=512/\dE.aq=X.aq/\dE.b9=X.b9/\ik u D b6 fy/\(mX dE:o)<=mX X+(x+1)/\x+1<=t.n)/\((t.n:o)-(x+1)).toNat<((t.n:o)-x).toNat:=λi1 i2 i3 i4 i5 i6=>
   ⟨⟨by omega,by omega⟩,⟨by omega,_,_,i1,i2,i3.trans ar,i4.trans ap,ht.trans i5,by omega,by omega⟩,by omega⟩
  refine⟨p,ad,⟨h0,J⟩,_,bM,λ_=>⟨p,ad,⟨h0,J⟩,_,pS,_,rm,?_⟩,λ_=>⟨λ_=>⟨p,ad,⟨h0,J⟩,_,c1,?_⟩,λ_=>next ll cS rfl rfl (ik.mono (H.le.refl v)) (GL _)⟩⟩
  .refine amK ll (by omega) hK (hO.2 z mj).1 (λ_=>next ll cS rfl rfl (ik.mono (H.le.refl v)) (GL _)) λhe b6 qy yD i1 i2 i3 i4 i5 i6=>next i1 (arP cS he i3) i4 i5 i2 i6
  .refine ade ll (by omega) (λ_ b6 lv=>next (ll.mono lv) cS rfl rfl (ik.mono lv) (GL _)) λ_ b6 qy yD i1 i2 i3 i4 i5 i6=>next i1 ?_ i4 i5 i2 (Nat.le_succ_of_le i6);rw[i3];exact jo (yf _ _) cS
 obtain⟨h0,fy,dE,ll,cS,ar,ap,ht,YR,awW⟩:=cx
 exact av v fy dE ll cS ar ap ht (by omega)
def aj7(h:jy l d A B E F=0)(ad:P.Perm (l.map az.bL)):P.length<=512:=by have h1:=(axj h).len;have h2:=ad.length_eq;rw[dj] at h2;omega
def anE{ls:M az}(ar:d=q.length)(h:hp ls d):kT ls q k=hZ q d k 1000000:=by subst ar;unfold kT hZ asked;rw[B0.2 h];by_cases aB:hv q q.length=0;simp only[aB,ne_eq,not_true_eq_false,BL];by_cases hk:k<1∨64<k;rw[a1 hk,a1 (by omega)];rw[aG hk,aG (by omega)];simp only[ne_eq,aB,not_false_eq_true,qX]
def dD.beside{fy qy:N->Prop}{fu:N}{ny:aS}(h:dD ub u qy fu ny)(ht:ik u D u' fy)(ar:∀c,D c->¬qy c)(hle:ub.le u'):dD ub u' qy fu ny/\∀c,fy c->¬qy c:=
 ⟨h.same (λc z I h2=>ht.bS c z I λh1=>ar c h1 h2) hle,λc h1 h2=>by rcases ht.grow c h1 with h3|h3;exact ar c h3 h2;exact h.base.2.2 c h2 h3⟩
def ax4{Q:M Ao}(h:P.Perm Q):(zw P).Perm (zw Q):=h.map _
open Classical in
def axB{qs:U}{e3 bud:o}(hK:kG u)(I:Wk u s t l ops)(Mp:cz e3)(aL:Ints u qs q)(h:∀u',u.le u'->K ak u'):
  aeK s A B E F e3 t qs k bud u K:=by
 have I1:=aL.len
 apply aE1
 intro nr h0
 refine amU I ⟨λ_=>h u (H.le.refl u),λe=>(by cases e)⟩ λ_ xG _ _=>⟨λe=>(by cases e),λ_=>⟨λ_=>h u (H.le.refl u),λ_=>h0 _ _ ?_⟩⟩
 refine UI I.rows hK Mp (λan=>?_) (λhe b D X gj ll ad AS vS vP=>?_)
 intro Le e7
 exact⟨λ_=>Ky hK h,λe=>aV e an⟩
 intro Le e7
 refine⟨λJ=>aV rfl J,λ_=>⟨λe=>(by cases e),λ_=>e7 _ _ ?_⟩⟩
 refine amV ll (aj7 he ad) (by omega) hK I.calls I.anC λpM fy dE y0 cS oo _ _ YR=>?_
 have ar:dE.aq=q.length:=by rw[oo,AS,I1]
 have Dn:=y0.base.1
 have fin:∀{dp:aD} {v:H},dp=ak->u.le v->K dp v:=λaa aB=>by rw[aa];exact h _ aB
 have gM:∀{v:H},u.le v->vq v (λ(apA:aD) (aCN:H)=>K apA aCN):=λlv=>Ky (hK.mono lv) λu' bE=>h _ (lv.trans bE)
 refine UK y0 (by omega) (aL.mono Dn) (λan lc zn=>?_) (λAU aI ss bd Pl lc ay O=>?_)
 intro Eu EY
 exact⟨λ_=>gM (Dn.trans zn),λe=>aV e an⟩
 intro Eu EY
 have zn:=Dn.trans ay.le
 have hk:=w6.1 AU
 have c6:((zw (a6 dE)).map az.bL).Perm (a6 dE):=by rw[ax5]
 have hC:=Oe y0 cS c6
 obtain⟨_,_,qM,zk⟩:=oL hk.1
 have Bd:jt (zw (a6 dE)) q:=⟨zk,by rw[qM];exact hC⟩
 obtain⟨bg,_,_⟩:=Tc y0 AU c6 Bd O
 refine⟨λJ=>aV rfl J,λ_=>aBJ ay.read (aL.mono zn) zk hk.2.1 (bg.af0 Bd) (λr fp=>(bg.jD r fp).1) ?_⟩
 by_cases YA:qw q k (ix dE q k bud) Pl
 rw[l4 YA]
 refine⟨λJ=>aV rfl J,λ_=>EY _ _ ?_⟩
 have i14:=y0.mono ay.le
 refine UJ i14 λUr ls KD b4 mU _=>?_
 have aa9:u.le KD:=zn.trans b4.own.le
 refine aAL b4.rws (aL.mono aa9) λtK aGj kE jc=>?_
 have awa:=Oe i14 cS mU
 have rz:hZ q dE.aq k 1000000=0:=w6.2 ⟨hk.1,hk.2.1,hk.2.2.1,by omega,by omega⟩
 have ex:aGj=0:=by rw[jc.err,anE ar awa,rz]
 obtain⟨Wx,asQ,_,aQ,_⟩:=jc.fq
 have Xk:ix dE q k bud=Wx:=by
  rw[bg.afJ Bd hk.2.1 YA,aQ ex];have iY:((zw (a6 dE)).map (hM q)).Perm ((zw (ls.map az.bL)).map (hM q)):=(ax4 mU.symm).map _;have z2:(zw (ls.map az.bL)).map (hM q)=ls.map (hM q):=by unfold zw;rw[eh,eh];rfl
  rw[Ce iY,z2]
 refine Ky (hK.mono (aa9.trans jc.1)) λmB Dz=>⟨λ_=>⟨λ_=>?_,λJ=>aV ex J⟩,λe=>(by cases e)⟩
 exact aBA (ay.read.h.mono ((b4.own.le.trans jc.1).trans Dz)) (asQ.mono Dz) (fin (l4 Xk) ((aa9.trans jc.1).trans Dz))
 rw[o0 YA]
 exact⟨λ_=>gM zn,λe=>(by cases e)⟩
def apG:hf aH 92=ak:=by kernel_rfl
def apR:hf aH 51=ak:=by kernel_rfl
def aBN{r:cn}{v:M o}{K:aD->o->H->Prop}(h1:Ints u r.ls r.bm)(h2:Ints u r.ag r.hi)(O:nv r v.length)(ht:HF u t)(ag:Ints u s v)(aB:c8 v)(cb:mH r v)(h:K ak 0 u):
  Wg r.aI r.ls r.ag (cZ r.cA) (c5 r.cA) t s u K:=by
 have b8:=h1.len
 have ek:=h2.len
 have aH0:=ag.len
 have xA:=ag.max
 refine hx.forget (ss:=[.one .bool,.one (.int .i64)]) ?_
 apply aFC
 intro n0 e1 Gr gn
 generalize jM:bj _ _ _=fi at gn ⊢
 generalize j1:bj _ _ _=en at ⊢
 have ej:u.le (u.ins n0 fi):=bZ _ e1
 have eV:(u.ins n0 fi).le ((u.ins n0 fi).ins Gr en):=bZ _ gn
 have d0:((u.ins n0 fi).ins Gr en) n0=some fi:=eV _ _ (bi _ _ _)
 have d1:((u.ins n0 fi).ins Gr en) Gr=some en:=bi _ _ _
 generalize hw:(u.ins n0 fi).ins Gr en=w at*
 have lw:u.le w:=ej.trans eV
 subst jM j1
 have c:∀i,w.cell? ⟨n0,i,none⟩=_:=λi=>a8 d0 i
 have eK:w.cell? ⟨Gr,0,none⟩=some (.slice s.a s.n s.c):=a8 d1 0
 refine⟨_,c 0,r.ls,c 1,r.ag,c 2,_,c 3,_,c 4,t,c 5,s,eK,am2 (h1.mono lw) (h2.mono lw) O ?_ (ag.mono lw) aB ⟨λJ=>aV rfl J,λ_=>⟨_,c 0,?_⟩⟩⟩
 rcases ht with h|⟨L,a,b⟩
 exact .inl h
 exact .inr ⟨L,a.mono lw,b⟩
 rcases O.shape with⟨e,_⟩|⟨e,_,v1,v2,ej,eV,hle⟩|⟨e,aF,v1,ej,uG⟩
 exact⟨λh=>by omega,λ_=>⟨λh=>by omega,λ_=>⟨lw,h⟩⟩⟩
 refine⟨λ_=>⟨s,eK,λ_ _ i w'=>w'=w/\0<=i,λ_ _ i _=>((s.n:o)-i).toNat,⟨rfl,by omega⟩,?_⟩,λh=>aV e h⟩
 rintro _ _ i w' ⟨rfl,i0⟩
 refine⟨λhi=>.inl ⟨_,_,_,rfl,hd apG,aFD i ⟨n0,0,none⟩ ⟨Gr,0,none⟩ _ _ ?_⟩,λ_=>⟨lw,h⟩⟩
 obtain⟨p,ad,bK⟩:=(ag.mono lw).at i0 hi
 obtain⟨gX,gD,dw⟩:=(h1.mono lw).at i0 (show i<(r.ls.n:o) by omega)
 obtain⟨dv,eJ,x2⟩:=(h2.mono lw).at i0 (show i<(r.ag.n:o) by omega)
 have g:=cb.1 e i.toNat (by omega)
 refine⟨r.ls,c 1,gX,gD,⟨i0,by omega⟩,_,dw,s,eK,p,ad,⟨i0,hi⟩,_,bK,λ_=>⟨s,eK,p,ad,⟨i0,hi⟩,_,bK,r.ag,c 2,dv,eJ,⟨i0,by omega⟩,_,x2,?_⟩,λh=>aV g.1 h⟩
 exact⟨λh=>aV (l4 g.2) h,λ_=>⟨⟨by omega,by omega⟩,⟨rfl,by omega⟩,by dsimp only;omega⟩⟩
 refine⟨λh=>by omega,λ_=>⟨λ_=>⟨r.ls,c 1,s,eK,_,c 3,_,c 4,?_⟩,λh=>aV e h⟩⟩
 refine UO (h1.mono lw) (ag.mono lw) v1 aB (by omega) λx y J ai hw=>⟨H.le.refl _,yl ai (rQ _) ?_⟩
 have:=cb.2 e
 have aC:(if dy x y<dy (cZ r.cA) (c5 r.cA) then(-1:o) else if dy (cZ r.cA) (c5 r.cA)<dy x y then 1 else 0)<=0:=by rw[mD,hw];split;decide;rw[aG (by omega)];decide
 rw[l4 aC]
 exact⟨lw,h⟩
def Up:ns aH 103 3 52 (.agg #[.int .i64 0,.slice none 0 0]):=⟨by kernel_rfl,by kernel_rfl,λ_=>by kernel_rfl⟩
def aAh{P:dT}{t k e:dF}{Y:ao}(T:ns P t k e Y){l:M (o×ao)}(h:fz u b l){x i:o}(ai:(fD l x).getD Y=.agg #[.int .i64 i,.slice s.a s.n s.c]){K:o->U->aD->H->Prop}(av:K i s (fD l x).isSome u):
  c9 P (gz t (.map (some b)) (.int .i64 x) ak) [.agg [.int .i64,.slice],.one .bool] u K:=by
 obtain⟨es,c,aa,ap⟩:=h
 intro w hw
 refine⟨.tuple #[.agg #[.int .i64 i,.slice s.a s.n s.c],.bool (fD l x).isSome],w,u,?_,⟨_,.cons (t:=.int .i64) i (.cons (t:=.slice) s (.cons (t:=.bool) (fD l x).isSome .nil)),rfl,(aE.ra (.int .i64) i _).2 ((aE.ra .slice s _).2 ((aE.ra .bool _ _).2 av))⟩,Step.refl hw⟩
 have W:=x9 (P:=P) (hw _ _ aa)
 have I:=T.check es.isEmpty x w
 obtain⟨f1,f2⟩:=T.find ap.jd x w
 cases J:fD l x with
 |none=>rw[J] at ai;have iM:Y=.agg #[.int .i64 i,.slice s.a s.n s.c]:=ai;simp[gz,eW,ir T.fB,W,I,f1 J,jf,T.zero,iM]
 |some v=>rw[J] at ai;have iM:v=.agg #[.int .i64 i,.slice s.a s.n s.c]:=ai;obtain⟨j,aN,_⟩:=f2 v J;simp[gz,eW,ir T.fB,W,I,aN,jf,iM]
def pf(r:az):o×ao:=(r.id,.agg #[.int .i64 r.id,.slice r.s.a r.s.n r.s.c])
def agc(l:M az):(l.map pf).map (·.1)=l.map (·.id):=by rw[eh];rfl
def arp(l:M az)(x:o):(l.map pf).filter (λp=>p.1 !=x)=(l.filter λr=>r.id !=x).map pf:=by rw[sJ];rfl
structure n3(aj v:H)(m n:N)(L:M az):Prop where
 le:aj.le v
 c:v n=some (.cells #[.map (some m)] 103 (0,0))
 map:fz v m (L.map pf)
 m0:aj m=none
 n0:aj n=none
 ne:m≠n
def n3.mono(h:n3 aj v m n L)(aB:v.le b6):n3 aj b6 m n L:=⟨h.le.trans aB,aB _ _ h.c,h.map.mono aB,h.m0,h.n0,h.ne⟩
def n3.else{xs:M ao}(h:n3 aj v m n L)(ab:aK aj v 52 2 s xs)(he:gS v b6 s):n3 aj b6 m n L:=by
 have aa:∀g,s.al=some g->aj g=none/\g≠m/\g≠n:=λg W=>by
  refine⟨ab.fresh g W,?_⟩;rcases ab.own.is with h0|⟨b2,cur,ay,ca,_⟩;rw[h0] at W;cases W;obtain rfl:b2=g:=by simpa[U.al,ay] using W
  obtain⟨es,ua,hm,_⟩:=h.map;refine⟨λe=>?_,λe=>?_⟩;rw[e,hm] at ca;cases ca;rw[e,h.c] at ca;cases ca
 refine⟨λc z I=>he c z (h.le c z I) λe=>?_,he _ _ h.c λe=>(aa _ e).2.2 rfl,h.map.else λz hm=>he _ _ hm λe=>(aa _ e).2.1 rfl,h.m0,h.n0,h.ne⟩;rw[(aa _ e).1] at I;cases I
def n3.set{L':M az}{z:Obj}(h:n3 aj v m n L)(hm:fz (v.ins m z) m (L'.map pf)):n3 aj (v.ins m z) m n L':=by
 refine⟨λc b7 I=>?_,by rw[bq _ _ h.ne.symm];exact h.c,hm,h.m0,h.n0,h.ne⟩;have:c≠m:=λe=>by rw[e,h.m0] at I;cases I
 rw[bq _ _ this];exact h.le c b7 I
def n3.cell(h:n3 aj v m n L):v.cell? ⟨n,0,none⟩=some (.map (some m)):=a8 h.c 0
def asf(ae:(L.map (·.id)).Nodup)(O:r∈L):fD (L.map pf) r.id=some (pf r).2:=(XG (by rw[agc];exact ae)).2 (bk.2 ⟨r,O,rfl⟩)
def anz{K:o->U->aD->H->Prop}(h:n3 aj v m n L)(ae:(L.map (·.id)).Nodup)(O:r∈L)(av:∀b6,n3 aj b6 m n (L.filter λx=>x.id !=r.id)->(∀c z,v c=some z->c≠m->b6 c=some z)->K r.id r.s ak b6):
  sS aH (.func (.func 51) #[] #[.pointer (some ⟨n,0,none⟩)]) #[.int .i64 r.id] [.agg [.int .i64,.slice],.one .bool] v K:=by
 refine .inl ⟨_,_,_,rfl,hd apR,aDg r.id ⟨n,0,none⟩ v _ ⟨_,h.cell,?_⟩⟩
 have W:=asf ae O
 refine aAh Up h.map (i:=r.id) (s:=r.s) (by rw[W];rfl) ⟨_,h.cell,Ks Up h.map λz hm=>?_⟩
 rw[W]
 rw[arp] at hm
 exact av _ (h.set hm) λc b7 I cL=>by rw[bq _ _ cL];exact I
def arT{x:o}:(L.filter λr=>decide (r.id∉S)).filter (λr=>r.id !=x)=L.filter λr=>decide (r.id∉S++ [x]):=by rw[List.filter_filter];refine acv λr _=>?_;by_cases h1:r.id=x<;>by_cases h2:r.id∈S<;>simp[h1,h2]
def akZ{xs:M ao}(h:n3 aj v m n L)(ab:aK aj v 52 2 s xs)(hle:aj.le b6)(aB:∀c z,v c=some z->c≠m->b6 c=some z):aK aj b6 52 2 s xs:=by
 refine⟨ab.own.le λb z aa hu=>aB b z hu λe=>?_,hle,ab.fresh⟩;obtain⟨es,ua,hm,_⟩:=h.map;rcases ab.own.is with h0|⟨b2,cur,ay,ca,_⟩;rw[h0] at aa;cases aa;obtain rfl:b2=b:=by simpa[U.al,ay] using aa
 rw[e,hm] at ca;cases ca
def aBt{l:M bP}(ag:lP u s l)(ht:lP u t l)(h:K ak u):VX s t u K:=by have b8:=ag.len;have ek:=ht.len;have Jz:=ag.max;apply aEM;refine⟨λae=>aV (by omega) ae,λ_=>⟨λ_ i v=>v=u/\0<=i,λ_ i _=>((s.n:o)-i).toNat,⟨rfl,by omega⟩,?_⟩⟩;rintro _ i v ⟨rfl,i0⟩;refine⟨λhi=>?_,λ_=>h⟩;obtain⟨p,ad,x,J,bM,c1,c2⟩:=ag.at i0 hi;obtain⟨rU,jx,y,ai,d0,d1,d2⟩:=ht.at i0 (show i<(t.n:o) by omega);rw[J] at ai;cases ai;exact⟨p,ad,⟨i0,hi⟩,rU,jx,⟨i0,by omega⟩,_,bM,_,c1,_,c2,_,d0,_,d1,_,d2,λan=>aV ⟨rfl,rfl,rfl⟩ an,λ_=>⟨⟨by omega,by omega⟩,⟨rfl,by omega⟩,by dsimp only;omega⟩⟩
def azU{m:M az}(h:hp l d)(hm:∀r∈m,r∈l)(ae:(m.map (·.id)).Nodup)(ap:m.length<=l.length):hp m d:=⟨h.aq,jo ap h.len,λr O=>h.id r (hm r O),ae,λr O=>h.v r (hm r O)⟩
def By(l:M az)(S:M o):M az:=l.filter λr=>decide (r.id∉S)
def ako(l:M az)(S:M o)(x:o):(By l S).filter (λr=>r.id !=x)=By l (S++ [x]):=arT
def akm(O:r∈l)(h:r.id∉S):r∈By l S:=iX.2 ⟨O,l4 h⟩
def akn(h:(l.map (·.id)).Nodup):((By l S).map (·.id)).Nodup:=h.sublist (O7.map _)
def ax6{i:N}{K:H->Prop}(h:n3 aj v m n (l.take i))(O:l[i]?=some r)(ae:(l.map (·.id)).Nodup)(av:∀b6,n3 aj b6 m n (l.take (i+1))->K b6):
  c9 aH (unit (kh 103 (.map (some m)) (.int .i64 r.id) (.agg #[.int .i64 r.id,.slice r.s.a r.s.n r.s.c]))) [] v K:=by
 refine B3 Up h.map (xh.2 λJ=>?_) λz hm=>av _ (h.set (L':=l.take (i+1)) ?_)
 rw[agc] at J
 obtain⟨hi,e⟩:=iB.1 O
 obtain⟨de,dz,he⟩:=bk.1 J
 obtain⟨j,aN,fW⟩:=oG dz
 rw[DR] at fW
 have kL:j<i:=by rw[gq] at aN;omega
 have:=oF.1 ae j i (by simp;omega) (by simpa using hi) kL
 simp only[DW,e,fW] at this
 exact this he
 rw[gJ,O,er]
 exact hm
def ams{aI ss bd:U}{e0:M bP}{seen:M o}{rest:M cn}{K:aD->o->H->Prop}(ag:eF u s l)(ht:Ints u t q)(ay:yt u aI ss bd e0 seen rest)
  (dq:kT l q k≠0->∀u',u.le u'->K ax (kT l q k) u') (bg:kT l q k=0->Sound l q k e0 seen rest) (bH:kT l q k=0->K ak 0 u):Qg s t k aI ss bd u K:=by
 have ae:=ag.len
 have I1:=ht.len
 have aym:=ay.s.len
 have aHY:=ay.r.len
 have xT:=ay.r.max
 have aHX:=ay.s.max
 have xA:=ag.max
 by_cases he:kT l q k=0
 case neg=>apply an0;exact PI ag ht (λ_=>⟨λ_=>dq he _ (H.le.refl _),λh=>aV h he⟩) λaL cq cH=>aV (by unfold kT;rw[w7.2 aL,aG (by decide),aG (by omega)]) he
 have bg:=bg he
 have bH:=bH he
 refine hx.forget (ss:=[.one .bool,.one (.int .i64)]) ?_
 have fin:∀{v:H},u.le v->u.le v/\K ak 0 u:=λaB=>⟨aB,bH⟩
 apply an0
 refine PI ag ht (λh=>aV he h) λaL cq cH s0 cQ aje=>⟨λh=>aV rfl h,λ_=>?_⟩
 have eV:=aje.le
 have b3:=aL.rows.nodup
 refine D4 λm z hm iw n ae=>?_
 refine⟨#[.map none],103,bi _ _ _,rfl,cC _,by simp[cK],?_⟩
 have an:m≠n:=λe=>by rw[<-e,bi] at ae;cases ae
 have afE:n3 cQ (((cQ.ins m z).ins n (.cells #[.map none] 103 (0,0))).ins n (.cells (wr #[.map none] 0 [.map (some m)]) 103 (0,0))) m n (l.take 0):=by
  refine⟨λc b7 I=>?_,bi _ _ _,?_,hm,?_,an⟩;have h1:c≠m:=λe=>by rw[e,hm] at I;cases I
  have h2:c≠n:=λe=>by rw[<-e,bq _ _ h1,I] at ae;cases ae
  rw[bq _ _ h2,bq _ _ h2,bq _ _ h1];exact I;exact iw.else λb7 bQ=>by rw[bq _ _ an,bq _ _ an];exact bQ
  rw[bq _ _ an.symm] at ae;exact ae
 refine⟨λi v=>0<=i/\n3 cQ v m n (l.take i.toNat),λi _=>((s.n:o)-i).toNat,⟨by omega,afE⟩,?_⟩
 rintro i v ⟨i0,ce⟩
 have lv:=eV.trans ce.le
 refine⟨λhi=>?_,λhi=>?_⟩
 obtain⟨p,ad,r,O,bM,c1,_⟩:=(ag.mono lv).at i0 hi
 refine⟨p,ad,⟨i0,hi⟩,_,bM,_,c1,_,ce.cell,ax6 ce O b3 λb6 xc=>⟨⟨by omega,by omega⟩,⟨by omega,?_⟩,by dsimp only;omega⟩⟩
 rw[show(i+1).toNat=i.toNat+1 by omega]
 exact xc
 rw[gY (by omega)] at ce
 have ef:∀x,x∈seen++rest.flatMap (·.ids)->∃r∈l,r.id=x:=λx J=>by obtain⟨r,O,e⟩:=bk.1 (bg.all.mem_iff.1 J);exact⟨r,O,e⟩
 have FI:(seen++rest.flatMap (·.ids)).Nodup:=bg.all.nodup_iff.2 b3
 have eK:By l []=l:=r6.2 λr _=>by simp
 refine⟨λ_ _ tK i v=>0<=i/\i<=(ss.n:o)/\n3 cQ v m n (By l (seen.take i.toNat))/\∃ms:M az,aK cQ v 52 2 tK (ms.flatMap cO)/\(∀r∈ms,r∈l)/\ms.map (·.id)=seen.take i.toNat,λ_ _ _ i _=>((ss.n:o)-i).toNat,
  ⟨by omega,by omega,by rw[show(0:o).toNat=0 from rfl,OZ,eK];exact ce,[],aK.mono (aK.nil (H.le.refl cQ) _ _) ce.le,λ_ h=>(by cases h),by simp⟩,?_⟩
 clear ce i0 hi lv i v afE iw ae an
 rintro b aID tK i v ⟨i0,i1,ce,ms,ab,mT,vV⟩
 change aK cQ v _ 2 tK _ at ab
 have lv:=eV.trans ce.le
 have aHj:ms.length=i.toNat:=by have:=eB iC vV;simp at this;omega
 have agO:=aL.rows.len
 have sq:seen.length<=512:=by have:=bg.all.length_eq;simp at this;omega
 refine⟨λhi=>?_,λhi=>?_⟩
 .obtain⟨p,ad,x,J,bM⟩:=(ay.s.mono lv).get i0 hi;obtain⟨r,O,rfl⟩:=ef x (iA _ (dB J));obtain⟨eU,Ft⟩:=iB.1 J;have Zm:=(fZ.1 FI).1;have I3:r.id∉seen.take i.toNat:=λh=>by
   obtain⟨j,aN,fW⟩:=oG h;rw[DR] at fW;have kL:j<i.toNat:=by rw[gq] at aN;omega
   exact oF.1 Zm j i.toNat (by omega) eU kL (by rw[fW,Ft])
  refine⟨p,ad,⟨i0,hi⟩,_,bM,anz ce (akn b3) (akm O I3) λb6 xc gE=>?_⟩;have bQ:=akZ ce ab xc.le gE;intro Wp asp;have go:∀b x,Wp b x b6:=λb x=>asp b x _ (nV kk (xa _ _) (by decide) rfl (by simp[cK]) bQ (by have:=gU fM (by decide) bQ.own.cI;omega) (by have:=gU fM (by decide) bQ.own.cI;omega) λau u' h1 h2 h3 _ _=>⟨⟨by omega,by omega⟩,⟨by omega,by omega,?_,ms++ [r],by rw[gZ];simpa[cO] using h1,λde dz=>?_,?_⟩,by dsimp only;omega⟩)
  rotate_left
  rw[ako] at xc;have:=xc.else bQ h3;rw[show(i+1).toNat=i.toNat+1 by omega,gJ,J];exact this;rcases cM.1 dz with h|h;exact mT de h;obtain rfl:de=r:=by simpa using h
  exact O;rw[show(i+1).toNat=i.toNat+1 by omega,gJ,J,er,vV];rfl;refine⟨λh=>aV rfl h,λ_=>⟨λh0=>?_,λ_=>go _ _⟩⟩;obtain⟨rU,jx,y,ai,d0⟩:=(ay.s.mono (eV.trans xc.le)).get (x:=i-1) (by omega) (by omega);obtain⟨g1,aQ⟩:=iB.1 ai;have:=oF.1 bg.D0 _ _ g1 eU (by omega);exact⟨⟨by omega,by omega⟩,rU,jx,⟨by omega,by omega⟩,y,d0,λh=>by omega,λ_=>go _ _⟩
 rw[gY (by omega)] at ce vV
 refine⟨λ_ _ j w=>0<=j/\j<=(bd.n:o)/\n3 cQ w m n (By l (seen++(rest.take j.toNat).flatMap (·.ids)))/\aK cQ w 52 2 tK (ms.flatMap cO),λ_ _ j _=>((bd.n:o)-j).toNat,⟨by omega,by omega,by simpa using ce,ab⟩,?_⟩
 clear ce ab lv
 rintro aGB aIE j w ⟨gF,kO,ce,ab⟩
 have lv:=eV.trans ce.le
 refine⟨λaN=>?_,λaN=>?_⟩
 .obtain⟨p,ad,g,W,bM,c1,c2,fc,pS,rm⟩:=(ay.r.mono lv).at gF aN;have Fk:=dB W;obtain⟨kj,my,pH⟩:=(ay.r.mono lv).2 g Fk;obtain⟨rr,asg,AK⟩:=bg.jD g Fk;have aHZ:=pH.len;have aGL:=pH.max;refine⟨p,ad,⟨gF,aN⟩,_,bM,_,c1,_,c2,_,fc,_,pS,_,rm,λaGz asw=>⟨λh0=>aV (kS (by omega)) asg,λ_=>?_⟩⟩;rw[I1];refine am1 kj my rr (.inr ⟨_,pH,rr.ids,rr.id⟩) ⟨λh=>aV rfl h,λ_=>asw _ _ _ ?_⟩;have YF:rest=rest.take j.toNat++g::rest.drop (j.toNat+1):=by obtain⟨ap,e⟩:=iB.1 W;rw[<-e,<-tF ap,q2]
  refine⟨λ_ _ i w=>0<=i/\i<=(g.is.n:o)/\n3 cQ w m n (By l (seen++(rest.take j.toNat).flatMap (·.ids)++g.ids.take i.toNat))/\aK cQ w 52 2 tK (ms.flatMap cO),λ_ _ i _=>((g.is.n:o)-i).toNat,⟨by omega,by omega,by simpa using ce,ab⟩,?_⟩;clear ce ab lv kj my pH bM c1 c2 fc pS rm;rintro aGC aIF i v ⟨i0,i1,ce,ab⟩;have lv:=eV.trans ce.le;obtain⟨kj,my,pH⟩:=(ay.r.mono lv).2 g Fk;refine⟨λhi=>?_,λhi=>⟨⟨by omega,by omega⟩,⟨by omega,by omega,?_,ab⟩,by dsimp only;omega⟩⟩
  .obtain⟨pi,zi,x,J,eK⟩:=pH.get i0 hi;obtain⟨r,O,rfl,cb⟩:=AK x (dB J);obtain⟨eU,Ft⟩:=iB.1 J;have I3:r.id∉seen++(rest.take j.toNat).flatMap (·.ids)++g.ids.take i.toNat:=λh=>by
    have e:seen++rest.flatMap (·.ids)=(seen++(rest.take j.toNat).flatMap (·.ids)++g.ids.take i.toNat)++(g.ids.drop i.toNat++(rest.drop (j.toNat+1)).flatMap (·.ids)):=by
     conv=>lhs;rw[YF]
     simp only[gZ,gI,mq];rw[<-mq (g.ids.take i.toNat),q2]
    rw[e] at FI;exact(fZ.1 FI).2.2 _ h _ (iA _ (by rw[tF eU,Ft];exact .head _)) rfl
   refine⟨pi,zi,⟨i0,hi⟩,_,eK,anz ce (akn b3) (akm O I3) λb6 xc gE=>⟨λh=>aV rfl h,λ_=>?_⟩⟩;have akw:=eV.trans xc.le;have aB:=aL.rows.v r O;obtain⟨kj,my,pH⟩:=(ay.r.mono akw).2 g Fk;refine aBN kj my (by rw[aB.1];exact rr) (.inr ⟨_,pH,rr.ids,rr.id⟩) ((ag.mono akw).2 r O) aB.2 cb ⟨λh=>aV rfl h,λ_=>⟨⟨by omega,by omega⟩,⟨by omega,by omega,?_,akZ ce ab xc.le gE⟩,by dsimp only;omega⟩⟩;rw[ako,mq] at xc;rw[show(i+1).toNat=i.toNat+1 by omega,gJ,J];exact xc
  rw[gY (l:=g.ids) (by omega)] at ce;rw[show(j+1).toNat=j.toNat+1 by omega,gJ,W,gZ];simpa using ce
 rw[gY (by omega)] at ce
 have b4:=ab.rws (ag.mono lv) mT
 have Zm:=(fZ.1 FI).1
 have FF:ms.length<=l.length:=by have h1:=eB iC vV;have h2:=bg.all.length_eq;simp at h1 h2;omega
 have Dl:jt ms q:=⟨aL.Ht,azU aL.rows mT (by rw[vV];exact Zm) FF⟩
 have ME:kT ms q k=0:=by unfold kT;rw[w7.2 Dl,aG (by decide),aG (by omega)]
 refine PI b4 (ht.mono lv) (λh=>aV ME h) λ_ _ _ aIf aIu CZ=>?_
 have afF:=ce.mono CZ.le
 refine⟨_,afF.cell,vk Up afF.map ⟨λ_=>?_,λan=>aV ?_ an⟩⟩
 have agP:=CZ.fq
 rw[<-bg.first ms mT vV] at agP
 exact aBt agP (ay.h.mono (lv.trans CZ.le)) (fin (lv.trans CZ.le))
 have:By l (seen++rest.flatMap (·.ids))=[]:=List.filter_eq_nil_iff.2 λr O=>by have:=bg.all.mem_iff.2 (bk.2 ⟨r,O,rfl⟩);simp only[JP,Classical.not_not];exact this
 rw[this]
 rfl
open Classical in
def aAS{aI ss bd:U}{e0:M bP}{seen:M o}{rest:M cn}{K:aD->o->H->Prop}(ag:eF u s l)(ht:Ints u t q)(ay:yt u aI ss bd e0 seen rest)
  (dq:kT l q k≠0->∀u',u.le u'->K ax (kT l q k) u') (bg:kT l q k=0->Sound l q k e0 seen rest) (bH:kT l q k=0->K (decide (qw q k e0 rest)) 0 u):Vt s t k aI ss bd u K:=by
 have sz:=ay.r.len
 have e8:=ay.h.len
 have ax8:=ay.r.max
 have ax3:=ay.h.max
 apply aDf
 refine ams ag ht ay (λhe u' hu=>?_) bg λhe=>?_
 intro Wq _
 exact⟨λ_=>dq he u' hu,λh=>aV h he⟩
 intro Wq h3
 refine⟨λh=>aV rfl h,λ_=>⟨λh=>aV rfl h,λ_=>h3 _ _ _ ?_⟩⟩
 have bg:=bg he
 have bH:=bH he
 have R4:asked l q=0:=by by_cases h:asked l q=0;exact h;unfold kT at he;rw[a1 h] at he;exact he
 have aL:=w7.1 R4
 have hk:1<=k/\k<=64:=by unfold kT at he;rw[aG (by omega)] at he;split at he<;>omega
 have ar:=bg.af0 aL
 have key:∀dp:aD,(dp=ak↔qw q k e0 rest)->K dp 0 u:=λdp aa=>by
  have:dp=decide (qw q k e0 rest):=by
   cases dp with
   |true=>exact(l4 (aa.1 rfl)).symm|false=>exact(o0 λI=>by have:=aa.2 I;cases this).symm
  rw[this];exact bH
 refine⟨λ_ _ x v=>v=u/\0<=x/\(∀r∈rest.take x.toNat,(e0.getD (k-1).toNat default).2<mm r q)/\(0<x->k<=e0.length),λ_ _ x _=>((bd.n:o)-x).toNat,⟨rfl,by omega,λr O=>(by simp at O),λh=>by omega⟩,?_⟩
 rintro _ _ x v ⟨rfl,bK,cx,Oa⟩
 refine⟨λJ=>?_,λJ=>?_⟩
 obtain⟨dv,eJ,r,dz,d0,d1,d2,d3,d4,d5⟩:=ay.r.at bK J
 have fp:=dB dz
 have an:rest≠[]:=λe=>by rw[e] at fp;cases fp
 obtain⟨kj,my,pH⟩:=ay.r.2 r fp
 have rr:=(bg.jD r fp).1
 refine⟨dv,eJ,⟨bK,J⟩,_,d0,_,d1,_,d2,_,d3,_,d4,_,d5,λbw=>key _ ⟨λe=>(by cases e),λI=>?_⟩,λfO=>?_⟩
 rcases I with I|⟨I,_⟩
 exact aV I an
 omega
 obtain⟨p,ad,g,W,bM,c1,c2⟩:=ay.h.at (x:=k-1) (by omega) (by omega)
 have mf:e0.getD (k-1).toNat default=g:=by rw[dm,W];rfl
 have Fk:=dB W
 refine UN kj my rr (.inr ⟨_,pH,rr.ids,rr.id⟩) ht aL.Ht ⟨⟨by omega,by omega⟩,p,ad,⟨by omega,by omega⟩,_,c1,_,by rw[Addr.w5];exact c2,?_⟩
 refine yl (rQ _) (rQ _) ?_
 rw[mD,mD]
 refine⟨λhle=>key _ ⟨λe=>(by cases e),λI=>?_⟩,λuy=>⟨⟨by omega,by omega⟩,⟨rfl,by omega,λy ai=>?_,λ_=>by omega⟩,by dsimp only;omega⟩⟩
 rcases I with I|⟨_,I⟩
 exact aV I an
 have:=I r fp
 rw[mf] at this
 rw[aG (by omega),a1 this] at hle
 omega
 rw[show(x+1).toNat=x.toNat+1 by omega,gJ,dz] at ai
 rcases cM.1 ai with h1|h1
 exact cx y h1
 simp at h1
 rw[h1,mf]
 refine acu λaiW=>uy ?_
 split
 omega
 first|(rw[aG (by omega)];omega)|omega
 rw[gY (by omega)] at cx
 refine key _ ⟨λ_=>?_,λ_=>rfl⟩
 by_cases ln:rest=[]
 exact .inl ln
 have:0<rest.length:=vc.2 ln
 exact .inr ⟨Oa (by omega),cx⟩
open Classical in
def axA{qs:U}{e3 bud:o}(hK:kG u)(I:Wk u s t l ops)(Mp:cz e3)(aL:Ints u qs q)(h:∀u',u.le u'->K ak u'):
  aeJ s A B E F e3 t qs k bud u K:=by
 have I1:=aL.len
 apply aE0
 intro nr h0
 refine amU I ⟨λ_=>h u (H.le.refl u),λe=>(by cases e)⟩ λ_ xG _ _=>⟨λe=>(by cases e),λ_=>⟨λ_=>h u (H.le.refl u),λ_=>h0 _ _ ?_⟩⟩
 refine UI I.rows hK Mp (λan=>?_) (λhe b D X gj ll ad AS vS vP=>?_)
 intro Le e7
 exact⟨λ_=>Ky hK h,λe=>aV e an⟩
 intro Le e7
 refine⟨λJ=>aV rfl J,λ_=>⟨λe=>(by cases e),λ_=>e7 _ _ ?_⟩⟩
 refine amV ll (aj7 he ad) (by omega) hK I.calls I.anC λpM fy dE y0 cS oo _ _ YR=>?_
 have ar:dE.aq=q.length:=by rw[oo,AS,I1]
 have Dn:=y0.base.1
 have fin:∀{dp:aD} {v:H},dp=ak->u.le v->K dp v:=λaa aB=>by rw[aa];exact h _ aB
 refine UK y0 (by omega) (aL.mono Dn) (λan lc zn=>?_) (λAU aI ss bd Pl lc ay O=>?_)
 exact⟨λ_=>Ky (hK.mono (Dn.trans zn)) λu' bE=>⟨λ_=>fin (l4 rfl) ((Dn.trans zn).trans bE),λe=>(by cases e)⟩,λe=>aV e an⟩
 have zn:=Dn.trans ay.le
 have hk:=w6.1 AU
 have i14:=y0.mono ay.le
 refine⟨λJ=>aV rfl J,λ_=>UJ i14 λaIa ls wO b4 mU _=>⟨b4.own.le,?_⟩⟩
 have topz:∀{L:M az},(L.map az.bL).Perm (a6 dE)->kT L q k=0:=λc6=>by have:=anE (k:=k) ar (Oe i14 cS c6);rw[this];exact w6.2 ⟨hk.1,hk.2.1,hk.2.2.1,by omega,by omega⟩
 have sound:∀{L:M az},(L.map az.bL).Perm (a6 dE)->Sound L q k (ix dE q k bud) (gg dE q k bud) Pl/\((gg dE q k bud).length:o)<=bud/\(((gg dE q k bud).length:o)=bud∨(gg dE q k bud).length=L.length∨qw q k (ix dE q k bud) Pl):=λc6=>by obtain⟨_,_,qM,zk⟩:=oL hk.1;exact Tc y0 AU c6 ⟨zk,by rw[qM];exact Oe i14 cS c6⟩ O
 have ake:=zn.trans b4.own.le
 refine ams b4.rws (aL.mono ake) (ay.read.mono b4.own.le) (λan=>aV (topz mU) an) (λ_=>(sound mU).1) λ_=>?_
 refine UJ (i14.mono b4.own.le) λaIb aHW aIm lW ZJ _=>⟨lW.own.le,?_⟩
 have Th:=ake.trans lW.own.le
 refine aAS lW.rws (aL.mono Th) (ay.read.mono (b4.own.le.trans lW.own.le)) (λan=>aV (topz ZJ) an) (λ_=>(sound ZJ).1) λ_=>?_
 obtain⟨bg,io,kK⟩:=sound ZJ
 have aym:=ay.read.s.len
 refine Ky (hK.mono Th) λwP akh=>⟨λ_=>⟨λ_=>⟨λ_=>⟨λ_=>⟨λ_=>⟨λ_=>fin rfl (Th.trans akh),λac=>fin (l4 ?_) (Th.trans akh)⟩,λJ=>aV (by omega) J⟩,λe=>(by cases e)⟩,λJ=>aV rfl J⟩,λJ=>aV rfl J⟩,λe=>(by cases e)⟩
 have aiS:=GY ac
 rcases kK with h3|h3|h3
 omega
 refine aV (.inl (List.eq_nil_iff_forall_not_mem.2 λr fp=>?_)) aiS
 have h1:=bg.all.length_eq
 rw[eD,dj] at h1
 have h2:(Pl.flatMap (·.ids)).length=0:=by omega
 have a7:=kS h2
 exact(bg.jD r fp).2.1 (acC.1 a7 r fp)
 exact aV h3 aiS
end
