/- Texts of mine, joined and packed by pack.py. -/
import Derived.Test.YtejdhbfjjgcljaaGreatDoorMrc14
import Derived.Test.YtejdhbfjjgcljaaGreatDoorRows
import Derived.Deep.Strs
import Derived.Lib.LaidTab
import Derived.LaidMore
import Derived.Lay
import Derived.SevenTiedAt
set_option linter.all false
open _root_ renaming Nat->N,List->J,Option->ay,Array->cu,Int->o,Bool->aI,absurd->a6,Inhabited->lx
open Go renaming Value->ao,World->b6,TypeId->dC,Addr->ba
open Bool renaming true->ak,false->ax
open Go.Proofs.Tryz renaming prog->aH
open Go.Value renaming int->cG,oneCell'->cF
open List.Perm renaming cons->iL
open Go.DataW renaming trod->Bc
open List renaming length->hR
open Int renaming toNat->vU
open Go.IntKind renaming min->Gn,max->Gp
open Go.Proofs.YtejdhbfjjgcljaaGreatDoor.Rows renaming laid_math_bits_deBruijn64tab->ajR
set_option maxRecDepth 100000
noncomputable section
namespace Go.Proofs.YtejdhbfjjgcljaaGreatDoor
open H
open _root_.Go.Proofs.Tryz
section
variable{u:H}{s:U}
structure uW where
 kind:o
 id:o
 k:o
 aJ:o
 akj:o
 Dq:U
 v:J o
 pT:U
 q:J o
def Qz(z:uW):J ao:=[.int .i64 z.kind,.int .i64 z.id,.int .i64 z.k,.int .i64 z.aJ,.int .i64 z.akj,.slice z.Dq.a z.Dq.n z.Dq.c,.slice z.pT.a z.pT.n z.pT.c]
def aeR(z:uW):(Qz z).length=7:=rfl
def aE8(z:uW):∀v∈Qz z,v.oneCell'=ak:=by simp[Qz,cF]
def to(u:H)(s:U)(l:J uW):Prop:=bt u s 7 (l.flatMap Qz)/\∀z∈l,Ints u z.Dq z.v/\Ints u z.pT z.q
def to.len{l:J uW}(h:to u s l):s.n=l.length:=gY aeR (by decide) h.1
def to.max{l:J uW}(h:to u s l):s.n<=9223372036854775807:=jv (bt.cap h.1) (bt.max h.1)
def to.mono{u':H}{l:J uW}(h:to u s l)(k:u.le u'):to u' s l:=⟨h.1.mono k,λz ab=>⟨(h.2 z ab).1.mono k,(h.2 z ab).2.mono k⟩⟩
def to.nil(u:H):to u ⟨none,0,0⟩ []:=⟨⟨rfl,cg _,by decide,.inl rfl⟩,λ_ h=>by cases h⟩
def to.at{l:J uW}(h:to u s l){x:o}(h0:0<=x)(h1:x<(s.n:o)):∃p,s.a=some p/\∃z:uW,l[x.toNat]?=some z/\z∈l/\u.cell? (p.add (x.toNat*7))=some (.int .i64 z.kind)/\u.cell? ((p.add (x.toNat*7)).add 1)=some (.int .i64 z.id)/\
  u.cell? ((p.add (x.toNat*7)).add 2)=some (.int .i64 z.k)/\u.cell? ((p.add (x.toNat*7)).add 3)=some (.int .i64 z.aJ)/\u.cell? ((p.add (x.toNat*7)).add 4)=some (.int .i64 z.akj)/\
  u.cell? ((p.add (x.toNat*7)).add 5)=some (.slice z.Dq.a z.Dq.n z.Dq.c)/\u.cell? ((p.add (x.toNat*7)).add 6)=some (.slice z.pT.a z.pT.n z.pT.c)/\Ints u z.Dq z.v/\Ints u z.pT z.q:=by
 have ae:=h.len
 have bC:x.toNat<l.length:=by omega
 have M:l[x.toNat]?=some l[x.toNat]:=cn bC
 obtain⟨p,ad,I⟩:=bt.elem aeR (by decide) h.1 M
 have QQ:=I 0 _ rfl
 rw[Addr.add_zero'] at QQ
 have hm:=kk bC
 exact⟨p,ad,_,M,hm,QQ,I 1 _ rfl,I 2 _ rfl,I 3 _ rfl,I 4 _ rfl,I 5 _ rfl,I 6 _ rfl,(h.2 _ hm).1,(h.2 _ hm).2⟩
structure ans(u:H)(s t:U)(l:J av)(ops:J uW):Prop where
 rows:dS u s l
 calls:to u t ops
 small:∀r∈l,r.v.length<=17592186044416
 abI:s.n<=17592186044416
 ayS:∀z∈ops,z.v.length<=17592186044416/\z.q.length<=17592186044416
 aGF:t.n<=17592186044416
def az1{t:U}{l:J av}{ops:J uW}{K:aI->H->Prop}(I:ans u s t l ops)(h1:K ak u)
  (h2:l.length<=2000->ops.length<=2000->(∀r∈l,r.v.length<=32768)->(∀z∈ops,z.v.length<=32768/\z.q.length<=32768)->K ax u):Vd s t u K:=by
 have dw:=I.rows.len
 have ah4:=I.calls.len
 apply aDy
 intro lA mu
 refine⟨λ_=>h1,λht=>⟨λ_=>h1,λag=>az0 I.rows I.small I.abI (by omega) λx M=>⟨λ_=>h1,λfF=>mu _ _ ?_⟩⟩⟩
 have aA:∀r∈l,r.v.length<=32768:=λr O=>by have:=M (by omega) r O;omega
 have fin:∀n:o,(n<=32768->∀z∈ops,z.v.length<=32768/\z.q.length<=32768)->∀dD:aI,(dD=ak↔32768<n)->K dD u:=λn ae dD Z=>by
  cases dD with
  |true=>exact h1|false=>exact h2 (by omega) (by omega) aA (ae (by by_cases e:32768<n;have:=Z.2 e;cases this;omega))
 refine⟨λn i w=>w=u/\0<=i/\i<=ops.length/\0<=n/\∀z∈ops.take i.toNat,(z.v.length:o)<=n/\(z.q.length:o)<=n,λ_ i _=>ops.length-i.toNat,⟨rfl,by omega,by omega,by omega,λz ab=>by simp at ab⟩,?_⟩
 rintro n i w ⟨rfl,i0,i1,n0,Xq⟩
 intro adG ara
 refine⟨λea=>⟨λae=>ara _ ?_,λae=>fin n (λh=>a6 h ae) _ (by simp)⟩,λtO=>fin n (λae z ab=>?_) _ (by simp)⟩
 obtain⟨p,ad,z,ab,om,bK,c1,c2,fM,tw,wC,Qk,Sb,xg⟩:=I.calls.at i0 ea
 have eZ:=Sb.len
 have fZ:=xg.len
 obtain⟨s1,s2⟩:=I.ayS z om
 refine⟨p,ad,⟨i0,ea⟩,p,ad,⟨i0,ea⟩,_,by rw[Addr.zL];exact wC,⟨by omega,by omega⟩,_,Qk,⟨by omega,by omega⟩,⟨by omega,by omega⟩,⟨rfl,by omega,by omega,by omega,λb5 bQ=>?_⟩,by dsimp only;omega⟩
 rw[show(i+1).toNat=i.toNat+1 by omega,gT,ab] at bQ
 rcases cK.1 bQ with bL|bL
 have:=Xq b5 bL;omega
 simp at bL;subst bL;omega
 have hi:i.toNat=ops.length:=by have:¬i<(t.n:o):=tO;omega
 rw[hi,ni] at Xq
 have:=Xq z ab
 omega
def aoJ(a b c d:U):kp aH 22 4 #[(0,.agg #[.int .i64 1,.slice a.a a.n a.c]),(1,.agg #[.int .i64 2,.slice b.a b.n b.c]),(2,.agg #[.int .i64 3,.slice c.a c.n c.c]),(3,.agg #[.int .i64 4,.slice d.a d.n d.c])]=
  some (52,[.int .i64 1,.slice a.a a.n a.c,.int .i64 2,.slice b.a b.n b.c,.int .i64 3,.slice c.a c.n c.c,.int .i64 4,.slice d.a d.n d.c]):=by kernel_rfl
def B9(a b c d:U):J av:=[⟨1,a,[0,0]⟩,⟨2,b,[3,4]⟩,⟨3,c,[0,1]⟩,⟨4,d,[30,40]⟩]
def az3{K:U->H->Prop}(h:∀s u' a b c d,u.le u'->dS u' s (B9 a b c d)->K s u'):Ve u K:=by apply aDB;refine l8 (B0 _ _) λg1 h1=>l8 (B0 _ _) λg2 h2=>l8 (B0 _ _) λg3 h3=>l8 (B0 _ _) λg4 a7=>l8 (aoJ _ _ _ _) λg5 bE=>?_;have i1:=IJ (H.le.refl u) h1 [0,0] 3 (by simp);have i2:=IJ (H.le.refl _) h2 [3,4] 3 (by simp);have i3:=IJ (H.le.refl _) h3 [0,1] 3 (by simp);have i4:=IJ (H.le.refl _) a7 [30,40] 3 (by simp);have eZ:=bW (u:=u) (b:=g1) (.cells [cG .i64 0,.int .i64 0].toArray 3 (0,0)) h1;have fZ:=bW (b:=g2) (.cells [cG .i64 3,.int .i64 4].toArray 3 (0,0)) h2;have uj:=bW (b:=g3) (.cells [cG .i64 0,.int .i64 1].toArray 3 (0,0)) h3;have nO:=bW (b:=g4) (.cells [cG .i64 30,.int .i64 40].toArray 3 (0,0)) a7;have m:=aD.make (k:=2) (H.le.refl _) bE (cells:=[cG .i64 1,.slice (some ⟨g1,0,none⟩) 2 2,.int .i64 2,.slice (some ⟨g2,0,none⟩) 2 2,.int .i64 3,.slice (some ⟨g3,0,none⟩) 2 2,.int .i64 4,.slice (some ⟨g4,0,none⟩) 2 2].toArray) (e:=52) (n:=4) (by omega) rfl;refine h _ _ ⟨some ⟨g1,0,none⟩,2,2⟩ ⟨some ⟨g2,0,none⟩,2,2⟩ ⟨some ⟨g3,0,none⟩,2,2⟩ ⟨some ⟨g4,0,none⟩,2,2⟩ ?_ ⟨m.own.cC,?_⟩;exact(((eZ.trans fZ).trans uj).trans nO).trans m.le;intro r O;simp only[B9,cE,qA,qB] at O;rcases O with rfl|rfl|rfl|rfl;exact i1.mono (((fZ.trans uj).trans nO).trans m.le);exact i2.mono ((uj.trans nO).trans m.le);exact i3.mono (nO.trans m.le);exact i4.mono m.le
def ap5(a b c d:U):kH (B9 a b c d) [0,0]:=Hf.1 (by kernel_rfl)
def ap6(a b c d:U):eV 2 ((B9 a b c d).map (ia [0,0]))=[(1,0),(3,1)]:=by kernel_rfl
def ap4(a b c d:U):ib (B9 a b c d) 2 3 2 0 0=0:=by kernel_rfl
def avD{ai:H}{D:N->Prop}{b:N}{X:aT}(h:ek ai u D b X){q:J o}{k aJ:o}(he:h7 q X.dim k aJ=0){L:J av}(cL:(L.map av.bi).Perm (bb X))(ML:kH L q)(Z:(L.length:o)<=aJ):
  iW X q k aJ=eV k.toNat (L.map (ia q))/\(gk X q k aJ).length<=(bb X).length:=by
 obtain⟨aA,cx,cS,_,_⟩:=D3.1 he
 have hlen:=cL.length_eq
 rw[dg] at hlen
 obtain⟨bh,h1,h2⟩:=aiN h he cL ML (ax2 (jr X q k aJ))
 have wM:=bh.all.length_eq
 rw[eC,dg] at wM
 refine⟨bh.apa ML cx ?_,by omega⟩
 have akA:(gk X q k aJ).length=L.length->zA q k (iW X q k aJ) ((jr X q k aJ).map abi):=λh2=>by
  left;generalize (jr X q k aJ).map abi=rest at*;cases rest with
  |nil=>rfl|cons r rs=>have h3:=(bh.kl r (gh ..)).2.1;have a7:=vR.2 h3;rw[gB,eC] at wM;omega
 rcases h2 with h2|h2|h2
 exact akA (by omega)
 exact akA h2
 exact h2
def alv{K:aI->H->Prop}(ka:lD u)(h:∀u',u.le u'->K ak u'):Vc u K:=by
 apply aDx;have F1:∀{w:H} {g:N} (W:w g=none) (x y:o),Ints (w.ins g (.cells [cG .i64 x,.int .i64 y].toArray 3 (0,0))) ⟨some ⟨g,0,none⟩,2,2⟩ [x,y]:=λ{w g} W x y=>IJ (H.le.refl w) W [x,y] 3 (by simp);refine az3 λs0 aS a b c d eZ pf=>?_;refine abS pf (ka.mono eZ) ⟨by decide,by decide⟩ (λal=>a6 (ap4 a b c d) al) λ_ dN D X nr qi jW Cq vl yv=>?_;have hlen:(bb X).length=4:=by have:=jW.length_eq;simpa[B9] using this
 intro BL HJ;refine⟨λe=>(by cases e),λ_=>⟨λe=>a6 rfl e,λ_=>TN qi ⟨λal=>a6 (by rw[hlen];rfl) al,λ_=>HJ _ _ ?_⟩⟩⟩;clear HJ BL;refine l8 (B0 0 0) λg1 h1=>?_;have m1:=bW (u:=nr) (b:=g1) (.cells [cG .i64 0,.int .i64 0].toArray 3 (0,0)) h1;have af9:h7 [0,0] X.dim 2 4=0:=by rw[Cq];decide
 refine alh (qi.mono m1) (by omega) (F1 h1 0 0) (λal=>a6 af9 al) λ_ Ot pV Gu rest l9 aE EF=>?_;have XQ:=(avD qi af9 (L:=B9 a b c d) jW.symm (ap5 a b c d) (l4 _)).1;have aC:eV (vU 2) ((B9 a b c d).map (ia [0,0]))=[(1,0),(3,1)]:=ap6 a b c d;rw[aC] at XQ;have MD:=aE.h;rw[XQ] at MD;have af3:=qi.mono (m1.trans aE.le);have afF:∀g,Ot.aj=some g->¬D g:=λg W aw=>by have:=aE.h.fresh g W;obtain⟨z,ab⟩:=e3.1 (qi.base.2.2 g aw);rw[m1 _ _ ab] at this;cases this
 have aFA:∀g,Ot.aj=some g->∃z,l9 g=some z:=λg W=>e3.1 (dF aE.h W);clear XQ EF aE;refine l8 (B0 9 9) λg2 h2=>?_;have m2:=bW (u:=l9) (b:=g2) (.cells [cG .i64 9,.int .i64 9].toArray 3 (0,0)) h2;have b7:∀x,x∈(bb X).map (·.1)↔x∈([1,2,3,4]:J o):=λx=>(jW.map (·.1)).mem_iff;have t3:decide ((3:o)∈(bb X).map (·.1))=ak:=lP ((b7 3).2 (by decide));have aAH:decide ((3:o)∉(bb X).map (·.1))=ax:=nY λh=>h ((b7 3).2 (by decide));have RK:fr 3 [9,9] X.dim (decide ((3:o)∈(bb X).map (·.1))) (bb X).length=0:=by rw[t3,Cq,hlen];decide
 have afJ:∀{Y:H} {g:N},(∀c,D c->Y c≠none)->Y g=none->∀bX,(⟨some ⟨g,0,none⟩,2,2⟩:U).aj=some bX->¬D bX:=λ{Y g} aB W bX cb aw=>by
  have:g=bX:=by simpa[U.aj] using cb
  exact aB bX aw (by rw[<-this];exact W)
 refine abT (af3.mono m2) (by omega) (ka.mono eZ) (F1 h2 9 9) (afJ af3.base.2.2 h2) (λal=>a6 RK al) λ_ O1 DV adO arO o0 CG yt _ gQ=>?_;rw[aAH];have as3:∀g,Ot.aj=some g->∀z,l9 g=some z->O1 g=some z/\¬DV g:=λg W z ab=>by refine⟨o0.bM g z (m2 _ _ ab) (afF g W),λaw=>?_⟩;rcases o0.grow g aw with bE|bE;exact afF g W bE;rw[m2 _ _ ab] at bE;cases bE
 have fg:(bb adO).Perm [(3,[9,9]),(1,[0,0]),(2,[3,4]),(4,[30,40])]:=by refine CG.trans (iL _ ?_);exact(jW.filter _).trans (Gl _)
 have asO:(1:o)∈(bb adO).map (·.1):=(fg.map (·.1)).mem_iff.2 (by decide);refine alf arO (by omega) (λed=>a6 asO ed) λ_ j4 ant P9 Re mY Av HW _ agL=>?_;have Ah:(bb P9).length=3:=by rw[Av];have:=(fg.filter λx=>x.1 !=1).length_eq;exact this
 have as4:∀g,Ot.aj=some g->∀z,l9 g=some z->j4 g=some z:=λg W z ab=>by obtain⟨bE,fO⟩:=as3 g W z ab;exact mY.bM g z bE fO
 refine l8 (B0 1 1) λg3 h3=>?_;have m3:=bW (u:=j4) (b:=g3) (.cells [cG .i64 1,.int .i64 1].toArray 3 (0,0)) h3;have Me:fr 0 [1,1] P9.dim (decide ((0:o)∈(bb P9).map (·.1))) (bb P9).length=50:=by unfold fr;rw[aV (by omega)]
 have aqV:∀bX,(⟨some ⟨g3,0,none⟩,2,2⟩:U).aj=some bX->¬ant bX:=λbX cb aw=>by
  have:g3=bX:=by simpa[U.aj] using cb
  exact Re.base.2.2 bX aw (by rw[<-this];exact h3)
 refine abT (Re.mono m3) (by omega) (ka.mono eZ) (F1 h3 1 1) aqV (λ_=>?_) λhe=>by rw[Me] at he;cases he
 rw[Me];have tL:=h _ ((eZ.trans (Re.base.1)).trans m3);have fh:nw _ Ot [((1:o),(0:o)),(3,1)]:=bt.else MD.fh λg z W ab=>m3 _ _ (as4 g W z ab);intro DW aq6;refine⟨λ_=>⟨λ_=>⟨λ_=>⟨λ_=>⟨λ_=>⟨λ_=>TN (Re.mono m3) ?_,λe=>(by cases e)⟩,λe=>(by cases e)⟩,λe=>a6 rfl e⟩,λe=>a6 rfl e⟩,λe=>a6 rfl e⟩,λe=>a6 rfl e⟩;have ZV:∀dD:aI,dD=ak->K dD (j4.ins g3 (.cells [cG .i64 1,.int .i64 1].toArray 3 (0,0))):=λdD Z=>by rw[Z];exact tL
 refine aq6 _ _ ⟨λ_=>?_,λZ=>?_⟩;have fp:=fh.len;refine⟨λ_=>?_,λal=>a6 (by rw[fp];rfl) al⟩;obtain⟨p,ad,x,M,bK,c1,c2⟩:=fh.at (x:=0) (by omega) (by rw[fp];decide);obtain⟨vK,iT,y,ah,d0,d1,d2⟩:=fh.at (x:=1) (by omega) (by rw[fp];decide);have jV:vK=p:=by rw[ad] at iT;exact(cO iT).symm
 subst jV;have fF:x=(1,0):=by simpa using M.symm
 have jX:y=(3,1):=by simpa using ah.symm
 subst fF;subst jX;refine⟨_,ad,⟨by omega,by rw[fp];decide⟩,_,bK,_,c1,_,c2,λ_=>⟨_,ad,⟨by omega,by rw[fp];decide⟩,_,d0,_,d1,_,d2,ZV _ ?_⟩,λal=>a6 ⟨rfl,rfl,rfl⟩ al⟩;exact lP ⟨rfl,rfl,rfl⟩;rw[Ah] at Z;simp at Z
open Go.ChangeShapes Go.WideShapes Go.ChangeAt Go.RowKit
def aE0:aH.cellsOf 54=7:=by kernel_rfl
def ao7:aH.cellsOf 28=5:=by kernel_rfl
def ao8:aH.cellsOf 23=1:=by kernel_rfl
def ao9:aH.cellsOf 25=4:=by kernel_rfl
def aEY:aH.bytesOf 54=88:=by kernel_rfl
section
variable {sj:Type} {enc:dC×ao->sj}
def aw2{bN:b6}{cs:cu ao}{gg:N}{x:DataW sj×J MemPlace}(h:Bc enc aH bN 0 (λ_=>ak) ak gg 28 cs.toList=some x):
  ∃a b c d s:o,dn s/\cs=#[.int .i64 a,.int .i64 b,.int .i64 c,.int .i64 d,.int .u64 s]:=by
 obtain⟨jk,j6,k,_,hlen,ai,aS⟩:=trod_struct2 underlying28 h
 rw[ao7] at hlen
 obtain⟨cl⟩:=cs
 change cl.length=5 at hlen
 match cl,hlen with
 | [v0,v1,v2,v3,v4],_=>
  simp only[ao9,ao4,List.drop,List.take] at ai aS;obtain⟨xs,n,_,_,_,eO,ac⟩:=DataW.trod_struct underlying25 ai
  match xs,eO with
  | [z0,jc,z2,z3],_=>
   have f0:Bc enc aH bN 0 (λ_=>ak) ak n 23 (([v0,v1,v2,v3].drop 0).take (aH.cellsOf 23))=some z0:=ac 0 _ rfl;have f1:Bc enc aH bN 0 (λ_=>ak) ak n 3 (([v0,v1,v2,v3].drop 1).take (aH.cellsOf 3))=some jc:=ac 1 _ rfl;have f2:Bc enc aH bN 0 (λ_=>ak) ak n 3 (([v0,v1,v2,v3].drop 2).take (aH.cellsOf 3))=some z2:=ac 2 _ rfl;have f3:Bc enc aH bN 0 (λ_=>ak) ak n 3 (([v0,v1,v2,v3].drop 3).take (aH.cellsOf 3))=some z3:=ac 3 _ rfl;simp only[ao8,Qn,List.drop,List.take] at f0 f1 f2 f3;obtain⟨m0,fW,_,_⟩:=Jy underlying23 f0;obtain⟨m1,aP,_,_⟩:=Jy Jx f1;obtain⟨m2,aC,_,_⟩:=Jy Jx f2;obtain⟨m3,c0,_,_⟩:=Jy Jx f3;obtain⟨m4,ff,_,po⟩:=Jy underlying26 aS;simp only[y9,vS] at fW aP aC c0 ff;subst fW aP aC c0 ff;refine⟨m0,m1,m2,m3,m4,?_,rfl⟩;simp only[Lit.wf,pb,Jf] at po;have g1:Gn .u64=0:=by decide
   have g2:Gp .u64=18446744073709551615:=by decide
   rw[g1,g2] at po;exact⟨po.1,by omega⟩
instance:lx uW:=⟨⟨0,0,0,0,0,⟨none,0,0⟩,[],⟨none,0,0⟩,[]⟩⟩
end
def avV:(ajR:DataW Unit)=Lib.tabData .u8 (Lib.deBruijn64tab.map Int.ofNat):=by kernel_rfl
def aAS{bN:b6}(h:laidMetH aH [("math/bits.deBruijn64tab",ajR)] bN):lD (whole bN):=by rw[MakeChecks.laidMetH_plain _ _ _ (by kernel_rfl),avV] at h;have ht:=Lib.tabIs_of_head (g:=0) (by kernel_rfl) (by kernel_rfl) underlying281 underlying5 (by kernel_rfl) (by kernel_rfl) h;intro w hw j aM;have I:=Lib.TabIs.cell ht (g:=0) (by kernel_rfl) j (by rw[dg];exact aM);rw[<-acJ] at I;have:=hw.cell I;rw[this];simp[List.getD,cn aM]
end
section
variable{u ub u':H}{L l:J av}{D:N->Prop}{n b:N}{d:o}
structure qP(ub u:H)(D:N->Prop)(n:N)(d:o)(L:J av):Prop where
 ex:∃gW,gW.le u/\(∀c,D c->gW c=none)/\TabAt gW n d L/\ub.le gW/\ub n=none
def qP.le(h:qP ub u D n d L):ub.le u:=by obtain⟨gW,h1,_,_,a7,_⟩:=h.ex;exact a7.trans h1
def qP.mono(h:qP ub u D n d L)(hu:u.le u'):qP ub u' D n d L:=by obtain⟨gW,h1,h2,h3,a7,bE⟩:=h.ex;exact⟨gW,h1.trans hu,h2,h3,a7,bE⟩
def qP.rows(h:qP ub u D n d L):∃s:U,u n=some (.cells #[.int .i64 d,.slice s.a s.n s.c] 84 (0,0))/\dS u s L:=by obtain⟨gW,h1,_,h3,_,_⟩:=h.ex;obtain⟨s,v,ae,aA,_,b1⟩:=h3.ex;exact⟨s,h1 _ _ ae,b1.mono (aA.trans h1)⟩
def qP.Dm(h:qP ub u D n d L):(L.map av.bi).Pairwise λa b=>a.1<b.1:=by obtain⟨gW,_,_,h3,_,_⟩:=h.ex;exact h3.Dm
def qP.nodup(h:qP ub u D n d L):(L.map (·.id)).Nodup:=by obtain⟨gW,_,_,h3,_,_⟩:=h.ex;rw[N8,ta];exact h3.xR.imp λh=>Int.ne_of_lt h
def qP.eQ{iv:N->Prop}(h:qP ub u D n d L)(k:ko u D u' iv):qP ub u' iv n d L:=by obtain⟨gW,h1,h2,h3,a7,bE⟩:=h.ex;obtain⟨cx,cS⟩:=k.apart h1 h2;exact⟨gW,cx,cS,h3,a7,bE⟩
def azU{s:U}{K:ay ba->H->Prop}(hle:ub.le u)(HG:∀c,D c->ub c=none)(yo:∀c,D c->u c≠none)(ag:dS ub s l)(ar:gX l d)
  (aq:∀n u' L,qP ub u' D n d L->(∀c z,u c=some z->D c->u' c=some z)->(L.map av.bi).Perm (l.map av.bi)->K (some ⟨n,0,none⟩) u'):DQ s d u K:=by
 let lA:ay ba->H->Prop:=λp cm=>∃n L,p=some ⟨n,0,none⟩/\ub n=none/\ub.le cm/\TabAt cm n d L/\(L.map av.bi).Perm (l.map av.bi)
 have I:DQ s d ub lA:=az7 ag ar λn u' L h1 h2 h3 a7=>⟨n,L,rfl,h1,h2,h3,a7⟩
 refine I.frame hle ?_
 rintro p iu cm ac ⟨n,L,rfl,h1,h2,h3,a7⟩
 refine aq n cm L ⟨iu,ac.le,λc I=>?_,h3,h2,h1⟩ (λc z I aw=>(ac.out c z (HG c aw) I).2) a7
 cases M:u c with
 |none=>exact a6 M (yo c I)
 |some z=>exact(ac.out c z (HG c I) M).1
structure uZ(ub u:H)(D:N->Prop)(b:N)(X:aT)(n:N)(L:J av):Prop where
 bp:ek ub u D b X
 OY:qP ub u D n X.dim L
 perm:(bb X).Perm (L.map av.bi)
 ok:gX L X.dim
def uZ.mono{X:aT}(h:uZ ub u D b X n L)(hu:u.le u'):uZ ub u' D b X n L:=⟨h.bp.mono hu,h.OY.mono hu,h.perm,h.ok⟩
def uZ.le{X:aT}(h:uZ ub u D b X n L):ub.le u:=h.OY.le
def uZ.ids{X:aT}(h:uZ ub u D b X n L)(id:o):id∈(bb X).map (·.1)↔id∈L.map (·.id):=by rw[lZ];exact(h.perm.map _).mem_iff
def uZ.len{X:aT}(h:uZ ub u D b X n L):(bb X).length=L.length:=by have:=h.perm.length_eq;simpa using this
def az2{X:aT}{K:aI->H->Prop}(h:uZ ub u D b X n L)(aq:∀u',u.le u'->K ak u'):
  Kj (some ⟨b,0,none⟩) (some ⟨n,0,none⟩) u K:=by
 apply aDA
 refine alg h.bp λs ls aS b1 ad ag=>?_
 intro nx oO
 have gI:u.le aS:=b1.own.le
 obtain⟨ca,ae,rM⟩:=(h.mono gI).OY.rows
 have hlen:=rM.len
 have c1:H.cell? aS ((⟨n,0,none⟩:ba).add 1)=some (.slice ca.a ca.n ca.c):=a1 ae 1
 refine⟨_,rfl,ca,c1,?_⟩
 refine azY b1.rws rM ?_
 have kx:(ls.map av.bi).Perm (L.map av.bi):=ad.trans h.perm
 have aur:(ls.map av.bi).Pairwise λa b=>a.1<b.1:=by
  rw[ta];have bY:(ls.map (·.id)).Nodup:=by rw[lZ];exact((kx.map (·.1)).nodup_iff).2 (by rw[<-lZ];exact h.OY.nodup)
  rw[N8,ta] at bY;refine(ag.and bY).imp λ{x y} iV=>?_;have:=iV.1;have:=iV.2;show x.id<y.id;omega
 have e:ls.map av.bi=L.map av.bi:=ajI aur h.OY.Dm kx
 have fin:∀dD:aI,dD=ak->nx dD aS:=λdD Z=>oO dD aS (azZ b1 λu' hle _=>by rw[Z];exact aq u' hle)
 have len:∀{A:o->H->Prop},A (L.length:o) aS->DM (some ⟨b,0,none⟩) aS A:=λiG=>TN (h.bp.mono gI) (by rw[h.len];exact iG)
 refine⟨λ_=>⟨_,rfl,len ⟨ca,c1,fin _ (lP (by omega))⟩,ca,c1,len (fin _ (lP (by omega)))⟩,λZ=>?_⟩
 rw[lP e] at Z
 cases Z
def ax3(h:gX L d):∀p∈L.map av.bi,1<=p.1/\p.1<=1000000000/\(p.2.length:o)=d/\db p.2:=by intro p ad;obtain⟨r,O,rfl⟩:=bk.1 ad;exact⟨(h.id r O).1,(h.id r O).2,h.v r O⟩
def uZ.known{X:aT}(h:uZ ub u D b X n L):∀c,D c->u c≠none:=h.bp.base.2.2
def aey{p q:Prop}[Decidable p][Decidable q](h:p↔¬q):decide p=!decide q:=by by_cases aO:q<;>simp[h,aO]
def ax5(h:gX l d)(ad:(L.map av.bi).Perm (l.map av.bi)):gX L d:=by have hlen:=ad.length_eq;rw[dg,dg] at hlen;refine Dn h.dim (by have:=h.len;omega) ?_ λp iT=>ax3 h p (ad.mem_iff.1 iT);rw[lZ,(ad.map (·.1)).nodup_iff,<-lZ];exact h.nodup
def avW{s:U}{dim A B E F seed:o}{K:aI->H->Prop}(ka:lD u)(ag:dS u s l)(fq:∀r∈l,r.v.length<=17592186044416)(dw:s.n<=17592186044416)(Xi:dn seed)(h:∀u',u.le u'->K ak u'):
  ads s dim A B E F seed u K:=by
 apply aDw
 refine az1 (ops:=[]) ⟨ag,to.nil u,fq,dw,λz ab=>(by cases ab),by show 0<=17592186044416;omega⟩ ⟨λ_=>h u (H.le.refl u),λe=>(by cases e)⟩ λar _ aA _=>⟨λe=>(by cases e),λ_=>?_⟩
 refine az4 ag ?_
 refine azX ag (by omega) (λr O=>by have:=aA r O;omega) λg ls fK vA W Rv cL kx=>?_
 have vm:ls.length=l.length:=by simpa using dV hR kx
 have nK:dS fK ⟨some ⟨g,0,none⟩,l.length,l.length+1⟩ ls:=by have:=cL.rws Rv (c:=l.length+1) (by omega) (by omega);rwa[vm] at this
 have Wg:ib ls dim A B E F=ib l dim A B E F:=avB kx
 refine abS nK (ka.mono vA) Xi (λal=>?_) (λhe b D X u8 qi ad Cq vl _=>?_)
 refine als Rv W cL vA ag kx (by omega) λgV nc _=>?_
 intro anv Hz
 rw[Wg] at al
 refine⟨λM=>a6 rfl M,λ_=>⟨λM=>a6 Wg M,λ_=>⟨λM=>a6 (aey ⟨λ_=>al,λ_=>rfl⟩) M,λ_=>?_⟩⟩⟩
 exact Hz _ _ (alv (ka.mono nc) λsd AM=>⟨λ_=>⟨λ_=>⟨h _ (nc.trans AM),h _ (nc.trans AM)⟩,λM=>a6 rfl M⟩,λe=>(by cases e)⟩)
 have LA:=qi.base
 have asD:=LA.1 _ _ Rv
 refine als asD W (cL.else λc z _ I=>LA.1 c z I) (vA.trans LA.1) ag kx (by omega) λgV nc hk=>?_
 intro anv Hz
 rw[Wg] at he
 refine⟨λM=>a6 rfl M,λ_=>⟨λM=>a6 he.symm M,λ_=>⟨λM=>a6 (aey ⟨λe=>(by cases e),λe=>a6 he e⟩) M,λ_=>?_⟩⟩⟩
 refine Hz _ _ (alv (ka.mono nc) λsd AM=>⟨λ_=>⟨λe=>(by cases e),λ_=>?_⟩,λe=>(by cases e)⟩)
 have i10:ek u gV D b X:=(qi.l6 vA).same (λc z I aw=>hk c z I (λe=>by
  have:=LA.2.1 c aw;rw[e,Rv] at this;cases this) λr O HS=>by
   obtain⟨x,h1,h2,_,_,_⟩:=cL.inner r O;have:x=c:=by rw[h1] at HS;simpa[U.aj] using HS
   have h3:=LA.2.1 c aw;rw[<-this,h2] at h3;cases h3) nc
 have i15:=i10.mono AM
 have ha:=avC he
 have one:∀{acS:o->o->o->o->H->Prop},(∀x y Y w,acS x y Y w sd=(((x=A/\y=B/\Y=E/\w=F)->DQ s dim sd λaw8 j4=>Kj (some ⟨b,0,none⟩) aw8 j4 λan7 kC=>K an7 kC)/\((¬(x=A/\y=B/\Y=E/\w=F))->K ax sd)))->Kc (some ⟨b,0,none⟩) sd acS:=λiG=>by refine azx i15 ?_;rw[iG];refine⟨λ_=>?_,λal=>a6 vl al⟩;refine azU (nc.trans AM) i15.base.2.1 i15.base.2.2 ag ha λn gC L dI as2 ahI=>?_;refine az2 (ub:=u) (D:=D) (X:=X) (L:=L) ⟨i15.same as2 dI.le,Cq.symm▸dI,?_,Cq.symm▸ax5 ha ahI⟩ λO1 avT=>h _ (dI.le.trans avT);refine ad.trans ?_;rw[kx];exact ahI.symm
 exact⟨one λ_ _ _ _=>rfl,one λ_ _ _ _=>rfl⟩
end
