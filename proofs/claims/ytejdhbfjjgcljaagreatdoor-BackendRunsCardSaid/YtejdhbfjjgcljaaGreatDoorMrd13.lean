/- Texts of mine, joined and packed by pack.py. -/
import Derived.Test.YtejdhbfjjgcljaaGreatDoorMrd12
set_option linter.all false
open _root_ renaming List->J,Nat->O,Option->aA,Array->cA,Int->o,Bool->ay,absurd->bf
open Go renaming Program->dL,Value->ap,World->ci,Addr->a8,FuncId->j8,TypeId->dC
open Bool renaming true->ai,false->ao
open Go.Obj renaming cells->bt
open Go.IntKind renaming wrap->bS
open Go.Made renaming depth->tM
open Go.Instr renaming mapUpdate->kW,sameBits->OA
open Go.Builtin renaming delete_->tN
open Go.Addr renaming add->er,mk->cp
open Go.Result renaming andThen->jH
open List renaming range->lD,length->iY
open Go.Proofs.Tryz renaming prog->aH
open Go.Value renaming bool->gZ,int->cN,slice->ed,oneCell'->cI
open Int renaming tmod->lE,tdiv->ff
open List.Perm renaming cons->j9
open List.Pairwise renaming nil->mG
open Prod renaming fst->vl,snd->wD
set_option maxRecDepth 100000
noncomputable section
namespace Go.Proofs.YtejdhbfjjgcljaaGreatDoor
open H
namespace eu
section
variable{n:O}{u:H}
def Ek(kc:N)(R:J o):b1:=⟨1,⟨none,0,0⟩,⟨none,0,0⟩,0,kc,[],[],R⟩
def OM(kc:N)(R:J o):J b1:=if R=[] then[] else[Ek kc R]
def afy(s:N):kO aH 39 1 #[(0,.agg #[.int .i64 1,.slice none 0 0,.slice none 0 0,.int .u64 0,.int .u64 0,.slice s.a s.n s.c])]=
  some (102,[.int .i64 1,.slice none 0 0,.slice none 0 0,.int .u64 0,.int .u64 0,.slice s.a s.n s.c]):=by kernel_rfl
def afJ{W:H}{a c d:N}(h:W n=some (.cells #[.slice a.a a.n a.c,.slice c.a c.n c.c,.slice d.a d.n d.c] 41 (0,0))):
  W.cell? ⟨n,0,none⟩=some (.slice a.a a.n a.c)/\W.cell? ((cp n 0 none).add 1)=some (.slice c.a c.n c.c)/\W.cell? ((cp n 0 none).add 2)=some (.slice d.a d.n d.c):=by
 refine⟨aZ h 0,?_,?_⟩
 rw[ib,kY];exact aZ h 1
 rw[ib,kY];exact aZ h 2
theorem _root_.Go.Proofs.YtejdhbfjjgcljaaGreatDoor.aD.skip{ak W fA:H}{e k:O}{s:N}{xs:J ap}(h:aD ak W e k s xs)(hk:∀c z,W c=some z->c≠n->fA c=some z)(ae:s.al≠some n)(h0:ak n=none):aD ak fA e k s xs:=
 ⟨h.own.le λc z I ac=>hk c z ac λe=>ae (by rw[I,e]),λc z I=>hk c z (h.le c z I) λe=>(by grind),h.fresh⟩
def aDk{x y W a c d:ap}{T:dC}{f:H->Prop}(ag:u n=some (.cells #[x,y,W] T (0,0)))(h1:∀v∈[a,c,d],v.oneCell'=ai)(ab:f (u.ins n (.cells #[a,c,d] T (0,0)))):H.aM u ⟨n,0,none⟩ [a,c,d] f:=by
 refine⟨_,_,ag,rfl,by simp,h1,?_⟩;have:wr #[x,y,W] 0 [a,c,d]=#[a,c,d]:=by simp[wr]
 simp only[this];exact ab
def Uf{cq xV:O}{S:J o}{K:N->H->Prop}(h:fE u cq (S.map λx=>(x,gZ ai)))(I:u.cell? ⟨xV,0,none⟩=some (.map (some cq)))(bb:S.length<=1000000)(au:∀s u',aD u u' 3 1 s ((cR S).flatMap encI)->K s u'):
  vy (.func (.func 303) #[] #[.pointer (some ⟨xV,0,none⟩)]) u K:=by
 have b8:((S.map λx=>(x,gZ ai)).map (·.1)).Nodup:=by obtain⟨_,_,_,he⟩:=h;exact he.nodup
 refine adj (by simpa using bb) b8 (λak ph=>ax5 K4 (h.mono ph) (oH ph I)) λs u' ac=>au s u' ?_
 have e:(S.map λx=>(x,gZ ai)).map (·.1)=S:=by rw[e4];exact Gv S
 rw[e] at ac
 exact ac
theorem amH{ak:H}{ah:O->aA bB}{b:O}{T:aU}{t:N}{q:J o}{k aK:o}{K:N->N->N->o->H->Prop}(h:In ak u ah b T)(aV:dX T)(ht:Ints u t q)
  (dq:h7 q T.dim k aK≠0->∀u',u.le u'->K ⟨none,0,0⟩ ⟨none,0,0⟩ ⟨none,0,0⟩ (h7 q T.dim k aK) u')
  (bM:h7 q T.dim k aK=0->∀aC ss a6 kc u',iI u u' aC ss a6 (e1 k.toNat ((pA T.g q T.entry aK.toNat).1.map (cV T.g q))) (cR (pA T.g q T.entry aK.toNat).1) (OM kc (pA T.g q T.entry aK.toNat).2)->K aC ss a6 0 u'):
  Vj (some ⟨b,0,none⟩) t k aK u K:=by
 have b8:=h.aJ.nodup
 apply aE4
 intro n0 fJ
 refine⟨λe=>(by cases e),λ_=>?_⟩
 have ot:=bX (u:=u) (b:=n0) (.cells #[.int .i64 aK] 3 (0,0)) fJ
 obtain⟨aR,gB⟩:∃aR,u.ins n0 (.cells #[.int .i64 aK] 3 (0,0))=aR:=⟨_,rfl⟩
 have fH:aR n0=some (.cells #[.int .i64 aK] 3 (0,0)):=by rw[<-gB,bh]
 rw[gB] at ot ⊢
 obtain⟨bA,_,_,_,_⟩:=k1 (h.aJ.mono ot)
 refine⟨_,rfl,_,bA,_,aZ fH 0,Ka (ht.mono ot) ⟨λan=>dq an _ ot,λhe=>?_⟩⟩
 have bM:=bM he
 obtain⟨aB,cB,cW,afo,aIo⟩:gx q T.dim=0/\1<=k/\k<=64/\0<=aK/\aK<=1000000:=by unfold h7 at he;omega
 obtain⟨_,_,ef,hl⟩:=n1 aB
 refine Pf (λaa=>by omega) λ_ _ ck u8 p3 vZ p2=>?_
 intro n9 uO
 refine lZ (zs:=[.pointer none]) rfl (by simp[cI]) ?_
 have nL:=p2.mI uO (.cells [.pointer (some ⟨ck,0,none⟩)].toArray 90 (0,0))
 obtain⟨hn,uX⟩:∃hn,u8.ins n9 (.cells [.pointer (some ⟨ck,0,none⟩)].toArray 90 (0,0))=hn:=⟨_,rfl⟩
 rw[uX] at nL ⊢
 refine GL λcq Dn jR iF=>?_
 have p1:=nL.mI jR Dn
 intro n13 y8
 refine lZ (zs:=[.map none]) rfl (by simp[cI]) ?_
 have nM:=p1.mI y8 (.cells [.map (some cq)].toArray 166 (0,0))
 have aw3:aR n9=none:=p3.none uO
 have aIM:hn n9=some (.cells [.pointer (some ⟨ck,0,none⟩)].toArray 90 (0,0)):=by rw[<-uX,bh]
 have Ib:cq≠n9:=λe=>by grind
 have aw1:aR cq=none:=p3.none (by rw[<-uX,bz _ _ Ib] at jR;exact jR)
 have ahl:cq≠n13:=λe=>by rw[<-e,bh] at y8;cases y8
 have XJ:hn n13=none:=by rw[bz _ _ (e3 ahl)] at y8;exact y8
 have XU:n9≠n13:=λe=>by grind
 have aw2:aR n13=none:=p3.none (by rw[<-uX,bz _ _ (e3 XU)] at XJ;exact XJ)
 obtain⟨B,cH⟩:∃B,(aR.ins n9 (.cells [.pointer (some ⟨ck,0,none⟩)].toArray 90 (0,0))).ins n13 (.cells [.map (some cq)].toArray 166 (0,0))=B:=⟨_,rfl⟩
 have H5:B cq=none:=by rw[<-cH,bz _ _ ahl,bz _ _ Ib];exact aw1
 have ahU:((aR.ins n9 (.cells [.pointer (some ⟨ck,0,none⟩)].toArray 90 (0,0))).ins cq Dn).ins n13 (.cells [.map (some cq)].toArray 166 (0,0))=B.ins cq Dn:=by
  rw[<-cH];funext c;unfold H.ins;by_cases aT:c=n13
  grind
  simp[aT]
 rw[ahU] at nM
 obtain⟨lI,ajD⟩:∃lI,(hn.ins cq Dn).ins n13 (.cells [.map (some cq)].toArray 166 (0,0))=lI:=⟨_,rfl⟩
 rw[ajD] at nM ⊢
 have ag1:aR.le B:=by rw[<-cH];exact(bX _ aw3).trans (bX _ (by rw[bz _ _ (e3 XU)];exact aw2))
 have H4:B n0=some (.cells #[.int .i64 aK] 3 (0,0)):=ag1 _ _ fH
 have XX:B n9=some (.cells #[.pointer (some ⟨ck,0,none⟩)] 90 (0,0)):=by rw[<-cH,bz _ _ XU,bh]
 have Rk:B n13=some (.cells #[.map (some cq)] 166 (0,0)):=by rw[<-cH,bh]
 have Ze:sS B cq ck k T.g q [] lI:=⟨Dn,by obtain⟨es,K7,h1,h2⟩:=iF;rw[bh] at h1;exact⟨es,K7,by rw[bh];exact h1,h2⟩,nM⟩
 have aat:u.le B:=ot.trans ag1
 have LK:=h.mono aat
 have ZV:sR B T.dim t q:=⟨ht.mono aat,hl,ef⟩
 clear nL p1 nM iF ahU jR y8 XJ uO p2 p3 uX ajD cH
 intro KS X4
 have behind:∀v,sS B cq ck k T.g q ((ob T.g q T.entry).take aK.toNat) v->KS v:=by
  intro v aP;refine X4 v ?_;have EM:=aP.le H5;obtain⟨_,_,_,fc,_⟩:=k1 (LK.mono EM).aJ;have fX:=aV.k.ok.small;refine⟨_,rfl,_,fc,amw (LK.mono EM).aJ.map (by rw[Ob];omega) λBH k2 MS=>?_⟩;rw[Tk] at MS;obtain⟨L,cX⟩:∃L,cR (T.g.map (·.1))=L:=⟨_,rfl⟩;rw[cX] at MS;have as9:∀x∈L,x∈T.g.map (·.1):=λx M=>by rw[<-cX] at M;exact(ns _).mem_iff.1 M
  have ux:L.length<=513:=by rw[<-cX,yi];simp;omega
  have X7:=MS.ints.len;refine⟨λhA i w=>0<=i/\i<=L.length/\∃v0,sS B cq ck k T.g q ((L.take i.toNat).foldl (n2 aK.toNat) ((ob T.g q T.entry).take aK.toNat,[])).1 v0/\aD v0 w 3 1 BH (L.flatMap encI)/\
    aD v0 w 3 1 hA ((((L.take i.toNat).foldl (n2 aK.toNat) ((ob T.g q T.entry).take aK.toNat,[])).2).flatMap encI)/\dB BH hA,λ_ i _=>L.length-i.toNat,
   ⟨by omega,by omega,v,by simpa using aP,MS,by simpa using aD.nil MS.le 3 1,λg _ Z=>by simp[N.al] at Z⟩,?_⟩
  rintro hA i w ⟨i0,i1,v0,y1,CL,vP,qK⟩;have H6:=y1.le H5;have tu:v0.le w:=CL.le;have asV:=LK.mono (H6.trans tu);have atm:uk aK.toNat ((ob T.g q T.entry).take aK.toNat) (L.take i.toNat) ((L.take i.toNat).foldl (n2 aK.toNat) ((ob T.g q T.entry).take aK.toNat,[])).1 ((L.take i.toNat).foldl (n2 aK.toNat) ((ob T.g q T.entry).take aK.toNat,[])).2:=by have:=uk.fold (L.take i.toNat) [] _ _ (uk.start (aK:=aK.toNat) (Xm aV q).1);rw[mm] at this;exact this
  have Rs:((L.take i.toNat).foldl (n2 aK.toNat) ((ob T.g q T.entry).take aK.toNat,[])).2.length<=513:=by have:=atm.sub.length_le;simp at this;omega
  have aII:=vP.ints.len;refine⟨λey=>?_,λCW=>?_⟩;obtain⟨p,ad,I⟩:=CL.ints.at i0 ey;have M:L[i.toNat]?=some (L.getD i.toNat 0):=getD_some (by omega);have wc:=as9 _ (dz M);have ab:=adL (n2 aK.toNat) L M ((ob T.g q T.entry).take aK.toNat,[]);rw[show i.toNat+1=(i+1).toNat by omega] at ab;obtain⟨S,bb⟩:∃S,((L.take i.toNat).foldl (n2 aK.toNat) ((ob T.g q T.entry).take aK.toNat,[])).1=S:=⟨_,rfl⟩;obtain⟨R,b7⟩:∃R,((L.take i.toNat).foldl (n2 aK.toNat) ((ob T.g q T.entry).take aK.toNat,[])).2=R:=⟨_,rfl⟩;have atw:(L.take i.toNat).foldl (n2 aK.toNat) ((ob T.g q T.entry).take aK.toNat,[])=(S,R):=by rw[<-bb,<-b7]
  rw[atw] at y1 vP ab Rs;refine⟨p,ad,⟨i0,ey⟩,_,I,_,aZ (tu _ _ (H6 _ _ Rk)) 0,?_⟩;refine OW K4 (y1.map.mono tu) (ct:=.bool) (decide (L.getD i.toNat 0∈S)) ?_ ⟨λaa=>?_,λaa=>?_⟩;show(gm _ _).getD _=_;rw[XF];by_cases e:L.getD i.toNat 0∈S<;>simp only[e,x5,Gn,decide_true,decide_false]<;>rfl;have aaL:L.getD i.toNat 0∉S:=by simpa using aa
  refine Pb asV.aJ aV.k.ok wc (ZV.mono (H6.trans tu)) ?_;refine(anm (n0:=n0) (n9:=n9) (n13:=n13) (x:=L.getD i.toNat 0) (K:=λc0 b9=>(c0=ao->S.length=aK.toNat/\sS B cq ck k T.g q S b9)/\(c0=ai->S.length≠aK.toNat/\sS B cq ck k T.g q (S++ [L.getD i.toNat 0]) b9))
   H5 cB cW afo H4 XX Rk y1 (λyW=>⟨λ_=>⟨yW,y1⟩,λe=>(by cases e)⟩) (λ_ ch=>bf ch aaL) λan _ b9 gS=>⟨λe=>(by cases e),λ_=>⟨an,gS⟩⟩).frame tu ?_
  rintro c0 h5 w' e8 ⟨xi,L2⟩;have XL:=CL.HV e8;have Re:=vP.HV e8;refine⟨λiN=>?_,λiN=>?_⟩;obtain⟨yW,kB⟩:=xi (Bool.eq_false_iff.2 iN);have jz:(L.take (i+1).toNat).foldl (n2 aK.toNat) ((ob T.g q T.entry).take aK.toNat,[])=(S,R++ [L.getD i.toNat 0]):=by rw[ab];unfold n2;simp only;grind
  have aIJ:=Re.ints.len;refine mn kK (yA _) (by decide) rfl (by simp[cI]) Re (by omega) (by omega) λacK Pm av5 _ auh atP _=>⟨⟨by omega,by omega⟩,⟨by omega,by omega,h5,by rw[jz];exact kB,?_,?_,λg Z cu=>?_⟩,by dsimp only;omega⟩;exact aD.else XL auh (λg Z=>Re.fresh g Z) λg Z e=>qK g e Z;rw[jz];simp only[hb];exact av5;rcases atP g cu with bL|bL;exact qK g Z bL;exact vc XL Z bL;obtain⟨an,kB⟩:=L2 iN;have jz:(L.take (i+1).toNat).foldl (n2 aK.toNat) ((ob T.g q T.entry).take aK.toNat,[])=(S++ [L.getD i.toNat 0],R):=by rw[ab];unfold n2;simp only;grind
  exact⟨⟨by omega,by omega⟩,⟨by omega,by omega,h5,by rw[jz];exact kB,XL,by rw[jz];exact Re,qK⟩,by dsimp only;omega⟩;have aaL:L.getD i.toNat 0∈S:=by simpa using aa
  have jz:(L.take (i+1).toNat).foldl (n2 aK.toNat) ((ob T.g q T.entry).take aK.toNat,[])=(S,R):=by rw[ab];unfold n2;simp only;rw[b3 aaL]
  exact⟨⟨by omega,by omega⟩,⟨by omega,by omega,v0,by rw[jz];exact y1,CL,by rw[jz];exact vP,qK⟩,by dsimp only;omega⟩
  ·
   have Zb:i.toNat=L.length:=by omega
   rw[Zb,pt] at y1 vP Rs;have atv:L.foldl (n2 aK.toNat) ((ob T.g q T.entry).take aK.toNat,[])=pA T.g q T.entry aK.toNat:=by rw[<-cX];rfl
   rw[atv] at y1 vP Rs;obtain⟨S,bb⟩:∃S,(pA T.g q T.entry aK.toNat).1=S:=⟨_,rfl⟩;obtain⟨R,b7⟩:∃R,(pA T.g q T.entry aK.toNat).2=R:=⟨_,rfl⟩;rw[bb] at y1;rw[b7] at vP Rs;rw[bb,b7] at bM;have vQ:S.length<=1000000:=by rw[<-bb];have:=(anl aV b8 q aK.toNat).2.1;omega
   have sm:u.le v0:=aat.trans H6;intro ape as3;have aIH:=vP.ints.len;have last:∀(p8:O) (aC ss:N) (y:H) (dr x2 j0:ap),w.le y->aD w y 68 3 aC ((e1 k.toNat (S.map (cV T.g q))).flatMap eO)->aD w y 3 1 ss ((cR S).flatMap encI)->dB aC ss->w p8=none->aC.al≠some p8->ss.al≠some p8->
     y p8=some (.cells #[dr,x2,j0] 41 (0,0))->H.aM y ⟨p8,0,none⟩ [.slice aC.a aC.n aC.c,.slice ss.a ss.n ss.c,.slice none 0 0] λW=>ape ⟨p8,0,none⟩ W:=by
    intro p8 aC ss y dr x2 j0 axp cb ae ab aiZ ajq ajv aj
    refine aDk aj (by simp[cI]) ?_
    have SH:∀c z,y c=some z->c≠p8->(y.ins p8 (.cells #[.slice aC.a aC.n aC.c,.slice ss.a ss.n ss.c,.slice none 0 0] 41 (0,0))) c=some z:=λc z h1 h2=>by rw[bz _ _ h2];exact h1
    obtain⟨W,aE⟩:∃W,y.ins p8 (.cells #[.slice aC.a aC.n aC.c,.slice ss.a ss.n ss.c,.slice none 0 0] 41 (0,0))=W:=⟨_,rfl⟩
    have aj4:W p8=some (.cells #[.slice aC.a aC.n aC.c,.slice ss.a ss.n ss.c,.slice none 0 0] 41 (0,0)):=by rw[<-aE,bh]
    rw[aE] at SH ⊢
    have IP:u p8=none:=(sm.trans tu).none aiZ
    have agR:hA.al≠some p8:=λe=>vc vP e aiZ
    have E7:=((cb.weaken (sm.trans tu)).skip SH ajq IP)
    have dm:=((ae.weaken (sm.trans tu)).skip SH ajv IP)
    have agS:=(((vP.mono axp).weaken sm).skip SH agR IP)
    have xo:dB aC hA:=λg Z cu=>vc vP cu (cb.fresh g Z)
    have jz:dB ss hA:=λg Z cu=>vc vP cu (ae.fresh g Z)
    have Fo:∀(x:N),dB x ⟨none,0,0⟩:=λx g _ Z=>by simp[N.al] at Z
    have ahd:∀(x:N),dB ⟨none,0,0⟩ x:=λx g Z=>by simp[N.al] at Z
    refine as3 _ _ ⟨λoi=>?_,λtn=>?_⟩
    refine mK (afy hA) λji nc=>?_
    have yX:=bX (u:=W) (b:=ji) (.cells [cN .i64 1,.slice none 0 0,.slice none 0 0,.int .u64 0,.int .u64 0,.slice hA.a hA.n hA.c].toArray 102 (0,0)) nc
    have auA:ji≠p8:=λe=>by grind
    have aih:(W.ins ji (.cells [cN .i64 1,.slice none 0 0,.slice none 0 0,.int .u64 0,.int .u64 0,.slice hA.a hA.n hA.c].toArray 102 (0,0))) ji=some (.cells [cN .i64 1,.slice none 0 0,.slice none 0 0,.int .u64 0,.int .u64 0,.slice hA.a hA.n hA.c].toArray 102 (0,0)):=bh _ _ _
    obtain⟨z2,aaS⟩:∃z2,W.ins ji (.cells [cN .i64 1,.slice none 0 0,.slice none 0 0,.int .u64 0,.int .u64 0,.slice hA.a hA.n hA.c].toArray 102 (0,0))=z2:=⟨_,rfl⟩
    rw[aaS] at yX aih ⊢
    rw[ib,kY]
    refine⟨_,_,yX _ _ aj4,rfl,by simp,by simp[cI],?_⟩
    have axD:wr #[.slice aC.a aC.n aC.c,.slice ss.a ss.n ss.c,.slice none 0 0] 2 [.slice (some ⟨ji,0,none⟩) 1 1]=#[.slice aC.a aC.n aC.c,.slice ss.a ss.n ss.c,.slice (⟨some ⟨ji,0,none⟩,1,1⟩:N).a (⟨some ⟨ji,0,none⟩,1,1⟩:N).n (⟨some ⟨ji,0,none⟩,1,1⟩:N).c]:=by simp[wr]
    simp only[axD]
    have IX:∀c z,z2 c=some z->c≠p8->(z2.ins p8 (.cells #[.slice aC.a aC.n aC.c,.slice ss.a ss.n ss.c,.slice (⟨some ⟨ji,0,none⟩,1,1⟩:N).a (⟨some ⟨ji,0,none⟩,1,1⟩:N).n (⟨some ⟨ji,0,none⟩,1,1⟩:N).c] 41 (0,0))) c=some z:=λc z h1 h2=>by rw[bz _ _ h2];exact h1
    obtain⟨a0,Y,a2⟩:=afJ (bh z2 p8 (.cells #[.slice aC.a aC.n aC.c,.slice ss.a ss.n ss.c,.slice (⟨some ⟨ji,0,none⟩,1,1⟩:N).a (⟨some ⟨ji,0,none⟩,1,1⟩:N).n (⟨some ⟨ji,0,none⟩,1,1⟩:N).c] 41 (0,0)))
    have Yh:R≠[]:=λe=>by grind
    have IQ:u ji=none:=by have:u.le W:=E7.le;exact this.none nc
    have It:∀{e k:O} {x:N} {xs:J ap},aD u W e k x xs->dB x ⟨some ⟨ji,0,none⟩,1,1⟩:=λM g Z cu=>by
     have:ji=g:=by simpa[N.al] using cu
     exact vc M Z (by rw[<-this];exact nc)
    have pf:OM hA R=[Ek hA R]:=bF Yh
    refine⟨aC,a0,ss,Y,⟨some ⟨ji,0,none⟩,1,1⟩,a2,bM aC ss _ hA _ ⟨(E7.mono yX).skip IX ajq IP,(dm.mono yX).skip IX ajv IP,?_,λr U=>?_,?_⟩⟩
    rw[pf]
    have aT:([Ek hA R]:J b1).flatMap qD=[cN .i64 1,.slice none 0 0,.slice none 0 0,.int .u64 0,.int .u64 0,.slice hA.a hA.n hA.c]:=by simp[qD,Ek,E9,F1]
    rw[aT]
    refine⟨⟨rfl,.inr ⟨ji,_,rfl,IX _ _ aih auA,cw _,by grind,by simp,by simp⟩⟩,λc z I=>IX c z (yX c z (E7.le c z I)) λe=>(by grind),λg Z=>?_⟩
    have:ji=g:=by simpa[N.al] using Z
    rw[<-this];exact IQ
    rw[pf] at U
    simp at U
    subst U
    have aj5:u.le (z2.ins p8 (.cells #[.slice aC.a aC.n aC.c,.slice ss.a ss.n ss.c,.slice (⟨some ⟨ji,0,none⟩,1,1⟩:N).a (⟨some ⟨ji,0,none⟩,1,1⟩:N).n (⟨some ⟨ji,0,none⟩,1,1⟩:N).c] 41 (0,0))):=λc z I=>IX c z (yX c z (E7.le c z I)) λe=>(by grind)
    exact⟨aD.nil aj5 _ _,aD.nil aj5 _ _,(agS.mono yX).skip IX agR IP⟩
    rw[pf]
    show([aC,ss,⟨some ⟨ji,0,none⟩,1,1⟩,⟨none,0,0⟩,⟨none,0,0⟩,hA]:J N).Pairwise dB
    simp only[ix,dM,qX,qY,OB,OC,mG,rP,TT,TU]
    exact⟨⟨ab,It E7,Fo _,Fo _,xo⟩,⟨It dm,Fo _,Fo _,jz⟩,⟨Fo _,Fo _,(It agS).symm⟩,⟨Fo _,ahd _⟩,ahd _⟩
    have Yg:R=[]:=by grind
    obtain⟨a0,Y,a2⟩:=afJ (d:=⟨none,0,0⟩) aj4
    have pf:OM hA R=[]:=b3 Yg
    refine⟨aC,a0,ss,Y,⟨none,0,0⟩,a2,bM aC ss _ hA _ ⟨E7,dm,by rw[pf];exact aD.nil E7.le _ _,λr U=>(by rw[pf] at U;cases U),?_⟩⟩
    rw[pf]
    show([aC,ss,⟨none,0,0⟩]:J N).Pairwise dB
    simp only[ix,dM,qX,qY,OB,OC,mG,rP,TT,TU]
    grind
   obtain⟨lB,avB,ajC⟩:=y1;have FC:=ajC.mono tu;have vY:fE w cq (S.map λx=>(x,gZ ai)):=(avB.mono ajC.le).mono tu;have aqz:=aZ (tu _ _ (H6 _ _ XX)) 0;have aqt:=aZ (tu _ _ (H6 _ _ Rk)) 0;have Q2:∀{x y:N} {jw z2 z3:H} {aT cB aN cW:O} {xs eK:J ap},aD w jw aT cB x xs->jw.le z2->aD z2 z3 aN cW y eK->dB x y:=λM hle aj g Z cu=>by obtain⟨z,ac⟩:=fp.1 (vc M Z);have:=aj.fresh g cu;rw[hle _ _ ac] at this;cases this
   have Tc:∀{x:N} {jw z2:H} {e k n:O} {xs:J ap},aD w jw e k x xs->jw.le z2->z2 n=none->x.al≠some n:=λM hle ag Z=>by obtain⟨z,ac⟩:=fp.1 (vc M Z);rw[hle _ _ ac] at ag;cases ag
   refine⟨_,aqz,_,aqt,⟨Kf FC λye BW to=>⟨to.le,?_,?_⟩,λn75 aiY=>?_⟩⟩;refine adZ (some cq) BW _ λxV MQ=>?_;have pk:=bX (u:=BW) (b:=xV) (.cells #[.map (some cq)] 166 (0,0)) MQ;have ahT:(BW.ins xV (.cells #[.map (some cq)] 166 (0,0))).cell? ⟨xV,0,none⟩=some (.map (some cq)):=aZ (bh _ _ _) 0;have xM:=to.le.trans pk;refine⟨Uf (vY.mono xM) ahT vQ λBI G2 C7 n63 MN=>⟨(xM.trans C7.le).trans (bX _ MN),?_⟩,λn65 Sd=>⟨xM.trans (bX _ Sd),?_⟩⟩;have abm:=bX (u:=G2) (b:=n63) (.cells #[.slice none 0 0,.slice none 0 0,.slice none 0 0] 41 (0,0)) MN;exact last n63 ye BI _ _ _ _ ((xM.trans C7.le).trans abm) (to.mono ((pk.trans C7.le).trans abm)) ((C7.weaken xM).mono abm) (Q2 to pk C7) ((xM.trans C7.le).none MN) (Tc to (pk.trans C7.le) MN) (Tc (C7.weaken xM) (H.le.refl _) MN) (bh _ _ _);have Jb:=bX (u:=BW.ins xV (.cells #[.map (some cq)] 166 (0,0))) (b:=n65) (.cells #[.slice none 0 0,.slice none 0 0,.slice none 0 0] 41 (0,0)) Sd;exact Uf (vY.mono (xM.trans Jb)) (oH Jb ahT) vQ λacO UL IE=>last n65 ye acO _ _ _ _ ((xM.trans Jb).trans IE.le) (to.mono ((pk.trans Jb).trans IE.le)) (IE.weaken (xM.trans Jb)) (Q2 to (pk.trans Jb) IE) (xM.none Sd) (Tc to pk Sd)
    (λe=>by have:=IE.fresh n65 e;rw[bh] at this;cases this) (IE.le _ _ (bh _ _ _))
   intro n69 Zv;have SV:=bX (u:=BW) (b:=n69) (.cells #[.slice none 0 0,.slice none 0 0,.slice none 0 0] 41 (0,0)) Zv;refine⟨to.le.trans SV,adZ (some cq) _ _ λxV MQ=>?_⟩;have pk:=bX (b:=xV) (.cells #[.map (some cq)] 166 (0,0)) MQ;have aaF:=(to.le.trans SV).trans pk;exact Uf (vY.mono aaF) (aZ (bh _ _ _) 0) vQ λyg aK0 xB=>last n69 ye yg _ _ _ _ (aaF.trans xB.le) (to.mono ((SV.trans pk).trans xB.le)) (xB.weaken aaF) (Q2 to (SV.trans pk) xB) (to.le.none Zv) (Tc to (H.le.refl _) Zv)
    (λe=>by have:=pk _ _ (bh BW n69 (.cells #[.slice none 0 0,.slice none 0 0,.slice none 0 0] 41 (0,0)));rw[xB.fresh n69 e] at this;cases this) (xB.le _ _ (pk _ _ (bh _ _ _)))
   have Bj:=bX (u:=w) (b:=n75) (.cells #[.slice none 0 0,.slice none 0 0,.slice none 0 0] 41 (0,0)) aiY;refine⟨Bj,Kf (FC.mono Bj) λaAU aK2 Fp=>⟨Bj.trans Fp.le,adZ (some cq) _ _ λxV MQ=>?_⟩⟩;have pk:=bX (b:=xV) (.cells #[.map (some cq)] 166 (0,0)) MQ;have aaG:=(Bj.trans Fp.le).trans pk;exact Uf (vY.mono aaG) (aZ (bh _ _ _) 0) vQ λaAV aK3 xC=>last n75 aAU aAV _ _ _ _ (aaG.trans xC.le) ((Fp.weaken Bj).mono (pk.trans xC.le)) (xC.weaken aaG) (Q2 (Fp.weaken Bj) pk xC) aiY
    (λe=>by have:=Fp.fresh n75 e;rw[bh] at this;cases this)
    (λe=>by have:=(Fp.le.trans pk) _ _ (bh w n75 (.cells #[.slice none 0 0,.slice none 0 0,.slice none 0 0] 41 (0,0)));rw[xC.fresh n75 e] at this;cases this)
    (xC.le _ _ (pk _ _ (Fp.le _ _ (bh _ _ _))))
 have XW:=Ze.le H5
 have ahf:=LK.mono XW
 obtain⟨_,_,_,_,gz⟩:=k1 ahf.aJ
 refine⟨_,rfl,_,gz,λan=>?_,λuC=>behind lI ?_⟩
 have uD:T.entry∈T.g.map (·.1):=by rcases aV.entry with⟨_,h2⟩|h2;exact bf h2 an;exact h2
 have hQ:ob T.g q T.entry=lK T.g q 0 (vv T.g q T.entry 0):=bF an
 have ET:=(Xm aV q).1
 refine amL ahf.aJ aV.k.ok uD (ZV.mono XW) (by omega) ?_
 rw[hQ] at ET behind
 refine amI XW LK.aJ aV.k.ok (adD aV.k.ok uD 0) ZV (by omega) (by omega)
  (λi W=>i<=aK.toNat/\sS B cq ck k T.g q ((lK T.g q 0 (vv T.g q T.entry 0)).take i) W) (λW=>sS B cq ck k T.g q ((lK T.g q 0 (vv T.g q T.entry 0)).take aK.toNat) W) (λi W aE=>aE.2.le H5)
  (λi x W fB M aP abj SO=>?_) ⟨by omega,by simpa using Ze⟩ (λW aE=>?_) λW aE=>behind W aE
 have gn:(lK T.g q 0 (vv T.g q T.entry 0))[i]?=some x:=M
 have ey:=(hG.1 gn).1
 have hlen:((lK T.g q 0 (vv T.g q T.entry 0)).take i).length=i:=by grind
 refine anm H5 cB cW afo H4 XX Rk aP.2 (λab=>SO W ?_) (λ_ ch=>?_) λkS _ fA FK=>abj fA ⟨by have:=aP.1;omega,?_⟩
 rw[hlen] at ab
 rw[<-ab];exact aP.2
 exfalso
 obtain⟨j,rm,e⟩:=pv.1 ch
 rw[hlen] at rm
 have:=lW.1 ET j i (by omega) ey rm
 grind
 rw[fN,gn]
 exact FK
 refine behind W ?_
 obtain⟨h1,h2⟩:=aE
 have ta:(lK T.g q 0 (vv T.g q T.entry 0)).length<=aK.toNat:=h1
 have yO:sS B cq ck k T.g q ((lK T.g q 0 (vv T.g q T.entry 0)).take (lK T.g q 0 (vv T.g q T.entry 0)).length) W:=h2
 rw[gC (cw _)] at yO
 rw[gC ta]
 exact yO
 have hQ:ob T.g q T.entry=[]:=b3 uC
 rw[hQ]
 simpa using Ze
end
end eu
section
variable {κ:Type} [DecidableEq κ] [iz κ]
def Jf(l:J (κ×ap))(x:κ)(v:ap):J (κ×ap):=if x∈l.map (·.1) then l.map (λp=>if p.1=x then(x,v) else p) else l++ [(x,v)]
def aBk{l:J (κ×ap)}(ag:(l.map (·.1)).Nodup){j:O}{x:κ}{v y:ap}(h:l[j]?=some (x,v)):l.set j (x,y)=l.map λp=>if p.1=x then(x,y) else p:=by
 induction l generalizing j with
 |nil=>simp at h|cons p l aW=>
  have h3:=ka.1 ag;cases j with
  |zero=>
   simp only[Du,ll] at h;subst h;rw[TH,iw,b3 rfl];congr 1;have:l.map (λp=>if p.1=x then(x,y) else p)=l.map id:=zK λq aL=>by have:q.1≠x:=λe=>h3.1 (bQ.2 ⟨q,aL,e⟩);rw[bF this];rfl
   rw[this,List.map_id]
  |succ j=>simp only[Gj] at h;have ad:p.1≠x:=λe=>h3.1 (bQ.2 ⟨_,dz h,e.symm⟩);rw[JE,aW h3.2 h,iw,bF ad]
def amf{P:dL}{t k e:dC}{W:ap}(T:ue κ P t k e W){u:H}{b:O}{l:J (κ×ap)}(h:fE u b l){x:κ}{v:ap}{K:H->Prop}
  (au:∀z,fE (u.ins b z) b (Jf l x v)->K (u.ins b z)):
  c7 P (unit (kW t (.map (some b)) (iz.enc x) v)) [] u K:=by
 cases M:gm l x with
 |none=>exact DK T h M λz ac=>au z (by unfold Jf;rw[bF (yL.1 M)];exact ac)
 |some v0=>
  have ch:x∈l.map (·.1):=bQ.2 ⟨_,Lw M,rfl⟩;obtain⟨es,c,aa,aq⟩:=h;intro w hw;have Z:=zG (P:=P) (hw _ _ aa);have I:=T.check ao x w;obtain⟨j,aP,R4⟩:=(T.find aq.jo x w).2 v0 M;have j7:=JG (P:=P) (.map (es.modify j λe=>{e with key:=iz.enc x,val:=v}) c) (hw _ _ aa);have ts:OA 10000 (iz.enc x) (iz.enc x)=ai:=iz.bits x;have ah9:(es.toList.map MapEntry.jo)[j]?=some (nR (x,v0)):=by rw[aq.jo,pw,R4];rfl
  rw[pw] at ah9;obtain⟨fi,uC,aup⟩:=Tr.1 ah9;have ava:fi.key=iz.enc x:=eI vl aup;have aue:es[j]?=some fi:=by rw[<-uC,Oi]
  have kC:j<es.toList.length:=(hG.1 uC).1;have het:(es.modify j λe=>{e with key:=iz.enc x,val:=v}).toList=es.toList.set j {fi with key:=iz.enc x,val:=v}:=by apply sr;intro i;rw[Array.toList_modify,List.getElem?_modify,Jy];by_cases e:j=i;subst e;rw[b3 rfl,b3 kC,uC];simp;rw[bF e];simp[e]
  refine⟨_,_,u.ins b (.map (es.modify j λe=>{e with key:=iz.enc x,val:=v}) c),?_,⟨[],.nil,rfl,au _ ⟨_,_,bh _ _ _,?_,?_,?_,?_⟩⟩,step_block hw aa _⟩;simp[unit,kW,eN,ia T.fq,Z,I,aP,jH,aue,ava,Instr.keyThatStays,ts,j7];rfl;unfold Jf;rw[b3 ch,<-aBk aq.nodup R4,het,Gw,Gw,aq.jo];rfl;rw[het,Gw];have:(es.toList.map (·.born)).set j fi.born=es.toList.map (·.born):=by apply sr;intro i;rw[Jy];by_cases e:j=i;subst e;rw[b3 rfl,b3 (by simpa using kC),pw,uC];rfl;rw[bF e]
  rw[this];exact aq.born;intro hd fW;rw[het] at fW;rcases alh fW with h1|h1;exact aq.lt hd h1;rw[h1];exact aq.lt fi (dz uC);unfold Jf;rw[b3 ch,e4];have:l.map ((·.1)∘λp=>if p.1=x then(x,v) else p)=l.map (·.1):=zK λq _=>by show(if q.1=x then(x,v) else q).1=q.1;by_cases e:q.1=x;rw[b3 e,e];rw[bF e]
  rw[this];exact aq.nodup
def aA8{P:dL}{t k e bD aba:dC}{W:ap}(T:ue κ P t k e W){u:H}{b:O}{l:J (κ×ap)}(h:fE u b l){x:κ}(M:gm l x=none){K:H->Prop}(au:K u):
  c7 P (tN #[t,aba] bD #[.map (some b),iz.enc x]) [] u K:=by
 obtain⟨es,c,aa,aq⟩:=h
 intro w hw
 have Z:=zG (P:=P) (hw _ _ aa)
 have I:=T.check es.isEmpty x w
 have j7:=JG (P:=P) (.map es c) (hw _ _ aa)
 have e:u.ins b (.map es c)=u:=NC aa
 refine⟨_,_,u.ins b (.map es c),?_,⟨[],.nil,rfl,by rw[e];exact au⟩,step_block hw aa _⟩
 simp[tN,eN,ia T.fq,Z,I,(T.find aq.jo x w).1 M,jH,j7]
 rfl
end
namespace hq
section
variable{u u' ak:H}
open lr (ec s8 pn zr je CC)
abbrev nC:=J (o×(N×J o))
def tW(w:nC)(id:o)(x:N×J o):nC:=if id∈w.map (·.1) then w.map (λp=>if p.1=id then(id,x) else p) else w++ [(id,x)]
def QY(w:nC):(ec w).map (·.1)=w.map (·.1):=by unfold ec;rw[e4];rfl
def agj(w:nC)(id:o)(s:N)(v:J o):Jf (ec w) id (.slice s.a s.n s.c)=ec (tW w id (s,v)):=by unfold Jf tW;rw[QY];split;unfold ec;rw[e4,e4];refine zK λp _=>?_;simp only[Function.comp];by_cases e:p.1=id;rw[b3 e,b3 e];rw[bF e,bF e];unfold ec;rw[en];rfl
def Ua{w:nC}{id:o}{x:N×J o}{e:o×(N×J o)}(h:e∈tW w id x):e=(id,x)∨(e∈w/\e.1≠id):=by unfold tW at h;split at h;obtain⟨p,ad,rfl⟩:=bQ.1 h;by_cases e:p.1=id;rw[b3 e];exact .inl rfl;rw[bF e];exact .inr ⟨ad,e⟩;rename_i ag;rcases dT.1 h with h|h;exact .inr ⟨h,λe=>ag (bQ.2 ⟨_,h,e⟩)⟩;exact .inl (hZ.1 h)
def amj(w:nC)(id:o)(x:N×J o):(id∈w.map (·.1)->(tW w id x).length=w.length)/\(id∉w.map (·.1)->(tW w id x).length=w.length+1):=by unfold tW;exact⟨λh=>by rw[b3 h,eb],λh=>by rw[bF h,gG];rfl⟩
def agw{w:nC}{id:o}(h:id∉w.map (·.1)):w.filter (λe=>e.1 !=id)=w:=qe.2 λq aL=>by have:q.1≠id:=λe=>h (bQ.2 ⟨q,aL,e⟩);simpa using this
def aBi{id:o}{x:N×J o}:∀{w:nC},(w.map (·.1)).Nodup->(tW w id x).Perm ((id,x)::w.filter λe=>e.1 !=id):=by
 intro w ag;unfold tW;split;rename_i ch;induction w with
 |nil=>cases ch
 |cons p w aW=>
  have h3:=ka.1 ag;rw[iw];by_cases e:p.1=id;have tn:id∉w.map (·.1):=by rw[<-e];exact h3.1
  have:w.map (λp=>if p.1=id then(id,x) else p)=w.map _root_.id:=zK λq aL=>by have:q.1≠id:=λe=>tn (bQ.2 ⟨q,aL,e⟩);rw[bF this];rfl
  rw[b3 e,this,List.map_id,List.filter_cons_of_neg (by simpa using e),agw tn];rw[bF e,List.filter_cons_of_pos (by simpa using e)];have th:id∈w.map (·.1):=(dM.1 (by rw[<-iw];exact ch)).resolve_left λh=>e h.symm;exact(j9 p (aW h3.2 th)).trans (List.Perm.swap _ _ _)
 rename_i ch;rw[agw ch];exact mH _ _
inductive bB where
 |obj|map|vec|code
structure uc where
 b:O
 gH:N
 eV:J (N×J (N×J o))
structure pE where
 hS:O
 sL:nC
 co:aA uc
structure aU where
 dim:o
 m:O
 w:nC
 cd:aA pE
def pE.ptr(c:pE):aA a8:=c.co.map λk=>⟨k.b,0,none⟩
def aU.obj(T:aU):Obj:=match T.cd with
 |none=>.cells #[.int .i64 T.dim,.map (some T.m)] 127 (0,0)|some c=>.cells #[.int .i64 T.dim,.map (some T.m),.pointer c.ptr,.map (some c.hS)] 132 (0,0)
structure sP(ah:O->aA bB)(u:H)(d:o)(k:uc):Prop where
 cell:u k.b=some (.cells #[.int .i64 d,.slice k.gH.a k.gH.n k.gH.c] 191 (0,0))
 QO:ah k.b=some .code
 bx:bw u k.gH 1 (k.eV.flatMap λc=>encS c.1)
 ie:∀g,k.gH.al=some g->ah g=some .code
 um:∀c∈k.eV,mR u c.1 c.2
 dQ:∀c∈k.eV,(∀g,c.1.al=some g->ah g=some .code)/\∀x∈c.2,∀g,x.1.al=some g->ah g=some .code
def sP.bO{ah aY:O->aA bB}{d:o}{k:uc}(h:sP ah u d k)(ab:∀c,ah c=some .code->aY c=some .code)(hu:∀c z,u c=some z->ah c=some .code->u' c=some z):sP aY u' d k where
 cell:=hu _ _ h.cell h.QO
 QO:=ab _ h.QO
 bx:=bw.else h.bx λg z Z ac=>hu g z ac (h.ie g Z)
 ie g Z:=ab _ (h.ie g Z)
 um c I:=⟨bw.else (h.um c I).cK λg z Z ac=>hu g z ac ((h.dQ c I).1 g Z),λx M=>bw.else ((h.um c I).ints x M) λg z Z ac=>hu g z ac ((h.dQ c I).2 x M g Z)⟩
 dQ c I:=⟨λg Z=>ab _ ((h.dQ c I).1 g Z),λx M g Z=>ab _ ((h.dQ c I).2 x M g Z)⟩
def Cm(ah:O->aA bB)(u:H)(w:nC):Prop:=∀e∈w,Ints u e.2.1 e.2.2/\∀g,e.2.1.al=some g->ah g=some .vec
def Cm.bO{ah aY:O->aA bB}{w:nC}(h:Cm ah u w)(ab:∀c,ah c=some .vec->aY c=some .vec)(hu:∀c z,u c=some z->ah c=some .vec->u' c=some z):Cm aY u' w:=λe he=>
 ⟨bw.else (h e he).1 λg z Z ac=>hu g z ac ((h e he).2 g Z),λg Z=>ab g ((h e he).2 g Z)⟩
structure Qj(ah:O->aA bB)(u:H)(d:o)(m:O)(c:pE):Prop where
 map:fE u c.hS (ec c.sL)
 dy:ah c.hS=some .map
 ne:c.hS≠m
 vec:Cm ah u c.sL
 co:∀k,c.co=some k->sP ah u d k
structure ee(ah:O->aA bB)(u:H)(b:O)(T:aU):Prop where
 cell:u b=some T.obj
 dQ:ah b=some .obj
 map:fE u T.m (ec T.w)
 dy:ah T.m=some .map
 vec:Cm ah u T.w
 sX:∀c,T.cd=some c->Qj ah u T.dim T.m c
def Qj.bO{ah aY:O->aA bB}{d:o}{m:O}{c:pE}(h:Qj ah u d m c)(ab:∀c,ah c≠none->aY c=ah c)(hu:∀c z,u c=some z->ah c≠none->u' c=some z):Qj aY u' d m c where
 map:=h.map.else λz ac=>hu _ _ ac (by rw[h.dy];simp)
 dy:=by rw[ab _ (by rw[h.dy];simp)];exact h.dy
 ne:=h.ne
 vec:=h.vec.bO (λc I=>by rw[ab _ (by rw[I];simp)];exact I) λc z I ht=>hu c z I (by rw[ht];simp)
 co k hk:=(h.co k hk).bO (λc I=>by rw[ab _ (by rw[I];simp)];exact I) λc z I ht=>hu c z I (by rw[ht];simp)
def ee.bO{ah aY:O->aA bB}{b:O}{T:aU}(h:ee ah u b T)(ab:∀c,ah c≠none->aY c=ah c)(hu:∀c z,u c=some z->ah c≠none->u' c=some z):ee aY u' b T where
 cell:=hu _ _ h.cell (by rw[h.dQ];simp)
 dQ:=by rw[ab _ (by rw[h.dQ];simp)];exact h.dQ
 map:=h.map.else λz ac=>hu _ _ ac (by rw[h.dy];simp)
 dy:=by rw[ab _ (by rw[h.dy];simp)];exact h.dy
 vec:=h.vec.bO (λc I=>by rw[ab _ (by rw[I];simp)];exact I) λc z I ht=>hu c z I (by rw[ht];simp)
 sX c I:=(h.sX c I).bO ab hu
def bO:yt ee:=⟨λh ab hu=>h.bO ab hu⟩
abbrev In:=mP ee
def bi(X:aU):J (o×J o):=X.w.map λe=>(e.1,e.2.2)
structure DZ(d:o)(eV:J (N×J (N×J o))):Prop where
 many:1<=eV.length/\eV.length<=8
 Ld:∃n:O,1<=n/\((eV.length*n:O):o)=d/\∀c∈eV,wW c.2 n
structure dX(T:aU):Prop where
 hP:1<=T.dim/\T.dim<=64
 ids:∀e∈T.w,1<=e.1/\e.1<=1000000000
 vec:∀e∈T.w,(e.2.2.length:o)=T.dim/\cY e.2.2
 small:T.w.length<=512
 um:∀c k,T.cd=some c->c.co=some k->DZ T.dim k.eV
def ee.rW{ah:O->aA bB}{b:O}{T:aU}(h:ee ah u b T):(T.w.map (·.1)).Nodup:=by obtain⟨es,cl,_,he⟩:=h.map;have:=he.nodup;rw[QY] at this;exact this
def nQ(T:aU):(bi T).map (·.1)=T.w.map (·.1):=by unfold bi;rw[e4];rfl
def aU.bA{b:O}{T:aU}(h:u b=some T.obj):u.cell? ⟨b,0,none⟩=some (.int .i64 T.dim):=by
 unfold aU.obj at h;cases e:T.cd with
 |none=>rw[e] at h;exact aZ h 0|some c=>rw[e] at h;exact aZ h 0
def aU.c1{b:O}{T:aU}(h:u b=some T.obj):u.cell? ((cp b 0 none).add 1)=some (.map (some T.m)):=by
 unfold aU.obj at h;cases e:T.cd with
 |none=>rw[e] at h;exact aZ h 1|some c=>rw[e] at h;exact aZ h 1
def BM{ah:O->aA bB}{b:O}{T:aU}{K:o->H->Prop}(h:In ak u ah b T)(au:K (bi T).length u):ael (some ⟨b,0,none⟩) u K:=by apply aEx;refine⟨_,rfl,_,aU.c1 h.aJ.cell,wK je h.aJ.map ?_⟩;rw[show(ec T.w).length=(bi T).length by simp[ec,bi]];exact au
def hM.map{ah:O->aA bB}{m:O}(hm:ah m=some .map)(z:Obj):hM u ah (u.ins m z) ah:=
 ⟨λc cn I ab=>by rw[bz _ _ λe=>by rw[e,hm] at ab;cases ab];exact I,λ_ h=>.inl h⟩
def In.ins{ah:O->aA bB}{b:O}{T bD:aU}{m:O}{z:Obj}(h:In ak u ah b T)(hm:ah m≠none)(ht:ee ah (u.ins m z) b bD):In ak (u.ins m z) ah b bD:=
 ⟨ht,λc cn I=>by rw[bz _ _ λe=>by rw[e,h.out m hm] at I;cases I];exact h.le c cn I,h.out,λc I=>by by_cases e:c=m;rw[e,bh];simp;rw[bz _ _ e];exact h.known c I⟩
structure Ag(ak u:H)(ah:O->aA bB)(b:O)(T:aU)(id:o)(u':H)(bD:aU):Prop where
 is:In ak u' ah b bD
 eJ:hM u ah u' ah
 ok:dX bD
 rows:bi bD=(bi T).filter λx=>x.1 !=id
 dim:bD.dim=T.dim
 cd:bD.cd=T.cd
def wL{ah:O->aA bB}{b:O}{T:aU}{id:o}{K:ay->o->H->Prop}(h:In ak u ah b T)(aV:dX T)(dR:id∉T.w.map (·.1)->K ao 0 u)
  (jD:id∈T.w.map (·.1)->∀u' bD,Ag ak u ah b T id u' bD->K ai 0 u'):aek (some ⟨b,0,none⟩) id u K:=by
 have aJ:=h.aJ
 have MH:ah T.m≠none:=by rw[aJ.dy];simp
 apply aEw
 rcases s8 T.w id with⟨Z,hm⟩|⟨e,he,cy,Z⟩
 refine⟨_,rfl,_,aU.c1 aJ.cell,tU je aJ.map (ct:=.slice) (⟨none,0,0⟩:N) (by rw[Z];rfl) ⟨_,rfl,_,aU.c1 aJ.cell,aA8 je aJ.map Z ?_⟩⟩
 rw[Z]
 exact dR hm
 refine⟨_,rfl,_,aU.c1 aJ.cell,tU je aJ.map (ct:=.slice) e.2.1 (by rw[Z];rfl) ⟨_,rfl,_,aU.c1 aJ.cell,?_⟩⟩
 rw[Z]
 refine OV je aJ.map λz iF=>jD (bQ.2 ⟨e,he,cy⟩) _ {T with w:=T.w.filter λe=>e.1 !=id} ⟨h.ins MH ?_,hM.map aJ.dy z,⟨aV.hP,λe he=>aV.ids e (kZ.1 he).1,λe he=>aV.vec e (kZ.1 he).1,jW (DE _ _) aV.small,aV.um⟩,?_,rfl,rfl⟩
 have pq:∀{c cn},u c=some cn->c≠T.m->(u.ins T.m z) c=some cn:=λI an=>by rw[bz _ _ an];exact I
 have ql:∀{c t},ah c=some t->t≠.map->c≠T.m:=λI ht e=>by rw[e,aJ.dy] at I;exact ht (eh I).symm
 refine⟨pq aJ.cell (ql aJ.dQ (by simp)),aJ.dQ,?_,aJ.dy,?_,λc I=>?_⟩
 rw[CC] at iF
 exact iF
 have h1:Cm ah (u.ins T.m z) T.w:=aJ.vec.bO (λ_ h=>h) λc cn I ht=>pq I (ql ht (by simp))
 exact λe he=>h1 e (kZ.1 he).1
 have dI:=aJ.sX c I
 exact⟨dI.map.else λcn ac=>pq ac dI.ne,dI.dy,dI.ne,dI.vec.bO (λ_ h=>h) λc cn I ht=>pq I (ql ht (by simp)),λk hk=>(dI.co k hk).bO (λ_ h=>h) λc cn I ht=>pq I (ql ht (by simp))⟩
 show(T.w.filter _).map _=(T.w.map _).filter _
 rw[sB]
 rfl
def zU{ah:O->aA bB}{b:O}{T:aU}{K:N->H->Prop}(h:In ak u ah b T)(aV:dX T)(au:∀s ls u',re u u' s ls->(ls.map ax.bn).Perm (bi T)->(ls.Pairwise λa b=>a.id<=b.id)->K s u'):
  U7 (some ⟨b,0,none⟩) u K:=by
 have fX:=aV.small
 apply aEz
 refine⟨_,rfl,_,aU.c1 h.aJ.cell,J8 je h.aJ.map λr z U xp=>?_⟩
 have iG:=bX (u:=u) (b:=r) z U
 refine⟨λs w=>∃rw:J ax,nx w r T.m (ec T.w) (rw.map λx=>(x.id,.slice x.s.a x.s.n x.s.c))/\aD u w 52 2 s (rw.flatMap cJ)/\s.al≠some r/\∀x∈rw,(x.id,(x.s,x.v))∈T.w,λs _=>1000000-s.n,
  ⟨[],xp,aD.nil iG _ _,by simp[N.al],λx M=>(by cases M)⟩,?_⟩
 rintro s w ⟨rw,fs,ac,tt,mA⟩
 have dS:s.n=rw.length:=hf fO (by decide) ac.own.cK
 have lc:rw.length<=512:=by have h2:=fs.Cw;rw[e4] at h2;have h3:(rw.map (·.id)).length<=(T.w.map (·.1)).length:=(pn h2 λx M=>by obtain⟨y,aj,rfl⟩:=bQ.1 M;exact bQ.2 ⟨_,mA y aj,rfl⟩).1;rw[eb,eb] at h3;omega
 refine Jj fs (λgF=>?_) λp hT ad AZ pU=>?_
 have b7:dU w s rw:=⟨ac.own.cK,λx M=>((h.aJ.vec _ (mA x M)).1).mono ac.le⟩
 have pY:(rw.map ax.bn).Perm (bi T):=by
  have b8:=fs.Cw;rw[e4] at b8;have hlen:=gF.length_eq;simp only[eb,ec] at hlen;have gR:∀x∈rw.map ax.bn,x∈bi T:=λx M=>by obtain⟨y,aj,rfl⟩:=bQ.1 M;exact bQ.2 ⟨_,mA y aj,rfl⟩
  have tl:(rw.map ax.bn).Nodup:=by have:(rw.map (·.id)).Nodup:=b8;rw[show rw.map (·.id)=(rw.map ax.bn).map (·.1) by rw[e4];rfl] at this;exact zr this
  exact(pn tl gR).2 (by simp[bi];omega)
 refine zV b7 (λx M=>aV.ids _ (mA x M)) (by omega) (λx M=>?_) λs2 ls cF oM eX dJ=>?_
 have mx:(x.v.length:o)=T.dim:=(aV.vec _ (mA x M)).1
 have:=aV.hP
 omega
 exact au s2 ls cF ⟨oM.own.weaken ac.le,λr U=>(oM.inner r U).weaken ac.le,oM.ej,oM.apart⟩ (eX.trans pY) dJ
 obtain⟨e,he,MX⟩:=bQ.1 ad
 subst MX
 refine HR pU ?_
 have dt:aD u (w.ins r hT) 52 2 s (rw.flatMap cJ):=ac.xO U tt hT
 refine mn ig (vI e.1 e.2.1) (by decide) rfl (by simp[cI]) dt (by show s.n<_;omega) (by show(s.n+1)*_<=_;omega) λar u' bR hY fW fC _=>⟨⟨rw++ [⟨e.1,e.2.1,e.2.2⟩],?_,?_,λaN=>?_,λx M=>?_⟩,?_⟩
 rw[en]
 refine pU.else (λcn jT=>fW _ _ jT λdG=>?_) λcn jT=>fW _ _ jT tt
 have:=ac.fresh _ dG
 exact h.known T.m (by rw[h.aJ.dy];simp) this
 rw[hb];exact bR
 rcases fC r aN with br|br
 exact tt br
 rw[bh] at br;cases br
 rcases dT.1 M with M|M
 exact mA x M
 obtain rfl:=hZ.1 M
 exact he
 show 1000000-ar.n<1000000-s.n
 omega
end
section
variable{u ak:H}{d:o}{v q:J o}{s t:N}{b:O}
open lr (ec s8 pn zr je CC)
def wu(v:J o)(n i:O):J o:=(v.drop (i*n)).take n
theorem Tg{n i p:O}(h:v.length=p*n)(hi:i<p):(wu v n i).length=n:=by
 unfold wu;rw[iV,rO];have:(i+1)*n<=p*n:=tO _ hi
 grind
theorem Th(h:cY v)(n i:O):cY (wu v n i):=by
 unfold wu;refine⟨?_,λj aP=>?_⟩;have:=h.1
 grind
 rw[iV,rO] at aP;have:=h.2 (i*n+j) (by omega);rw[jX] at this ⊢;rw[List.getElem?_take_of_lt (by omega),Jx];exact this
theorem adi{p n:O}{i:o}{K:N->H->Prop}(ae:Ints u s v)(aq:v.length=p*n)(ad:1<=p)(gQ:1<=n)(fX:v.length<=1000000)(h0:0<=i)(h1:i<p)
  (au:∀t,(∀w,Ints w s v->Ints w t (wu v n i.toNat))->K t u):Kz s p i u K:=by
 have ag:=ae.len
 have av:ff (s.n:o) (p:o)=n:=by rw[ag,aq,Int.natCast_mul];exact Int.mul_tdiv_cancel_left _ (by omega)
 have aT:i*(n:o)=((i.toNat*n:O):o):=by grind
 have aN:(i+1)*(n:o)=(((i.toNat+1)*n:O):o):=by grind
 have aa:(i.toNat+1)*n<=p*n:=tO _ (by omega)
 have j6:(i.toNat+1)*n=i.toNat*n+n:=by grind
 have fQ:=bw.cap ae
 have hi:i.toNat*1<=i.toNat*n:=Nat.mul_le_mul_left _ gQ
 apply aFS
 rw[av,aT,aN]
 refine⟨by omega,⟨by omega,by omega⟩,⟨by omega,by omega⟩,⟨by omega,by omega⟩,⟨by omega,by omega⟩,⟨by omega,by omega⟩,⟨by omega,by omega⟩,?_⟩
 refine kJ kK (l:=i.toNat*n) (h:=(i.toNat+1)*n) (m:=(i.toNat+1)*n) (.inr rfl) (.inr rfl) (.inr ⟨rfl,by simp⟩) (by omega) (cw _) (by omega) fQ (au _ λw hw=>?_)
 have:=bw.part hw (l:=i.toNat*n) (h:=(i.toNat+1)*n) (m:=(i.toNat+1)*n) (by omega) (by omega) (cw _) (by omega)
 rw[show(i.toNat+1)*n-i.toNat*n=n by omega,wz,wz,<-Ov,<-List.map_take] at this
 exact this
def Uk{l:J (N×J o)}{K:o->o->o->o->H->Prop}(h:mR u s l)(I:wW l d)(ht:Ints u t v)(aB:cY v)(Db:(v.length:o)=d)
  (au:∀a x y,K a x y 0 u):Hh s t u K:=by
 have ag:=h.len
 have hm:=I.many
 have av:=I.dim
 obtain⟨p,ad,c,pR,c4,bA,pQ⟩:=h.at (x:=0) (ps _) (by omega)
 obtain⟨aT,aN⟩:=I.each c c4
 have qH:(c.1.n:o)=d:=by rw[pQ.len];exact aT
 apply aoi
 apply aoj
 intro iK iM
 refine⟨λe=>bf e (by omega),λ_=>⟨λe=>bf e (by omega),λ_=>iM 0 _ ⟨p,ad,⟨ps _,by omega⟩,_,bA,?_⟩⟩⟩
 dsimp only
 rw[qH]
 refine adf h av I.each (by omega) ⟨λe=>bf rfl e,λ_=>⟨p,ad,⟨ps _,by omega⟩,_,bA,?_⟩⟩
 dsimp only
 rw[qH]
 have xK:gx v d=0:=by rw[<-Db];exact xY aB (by omega)
 refine qg ht ?_
 rw[xK]
 exact⟨λe=>bf rfl e,λ_=>adg h I ht aB Db (au _ _ _)⟩
def aqg(x:o):kO aH 30 1 #[(0,.int .i64 x)]=some (3,[.int .i64 x]):=by kernel_rfl
def Xl(c:N×J (N×J o)):(encS c.1).length=1:=rfl
def sP.len{ah:O->aA bB}{k:uc}(h:sP ah u d k):k.gH.n=k.eV.length:=hf Xl (by decide) h.bx
def sP.at{ah:O->aA bB}{k:uc}(h:sP ah u d k){x:o}(h0:0<=x)(h1:x<(k.gH.n:o)):∃p,k.gH.a=some p/\∃c,k.eV[x.toNat]?=some c/\c∈k.eV/\u.cell? (p.add (x.toNat*1))=some (.slice c.1.a c.1.n c.1.c):=by
 have ag:=h.len;have aq:x.toNat<k.eV.length:=by omega
 have M:k.eV[x.toNat]?=some k.eV[x.toNat]:=dj aq;obtain⟨p,ad,I⟩:=bw.elem Xl (by decide) h.bx M;exact⟨p,ad,_,M,ln aq,I 0 _ rfl⟩
def sP.mono{ah:O->aA bB}{u':H}{k:uc}(h:sP ah u d k)(hu:u.le u'):sP ah u' d k:=h.bO (λ_ h=>h) λc z I _=>hu c z I
theorem aBy{ah:O->aA bB}{k:uc}{K:N->o->H->Prop}(h:sP ah u d k)(aa:DZ d k.eV)(ht:Ints u t q)(aL:gx q d=0)
  (au:∀s u' (cl:J o),aD u u' 3 1 s (cl.flatMap encI)->K s 0 u'):Vr (some ⟨k.b,0,none⟩) t u K:=by
 have ag:=h.len
 have hm:=aa.many
 obtain⟨n,cj,nd,dV⟩:=aa.Ld
 obtain⟨d1,d2,d3,d4⟩:=n1 aL
 have aq:q.length=k.eV.length*n:=by omega
 apply aFN
 refine⟨λe=>(by cases e),λ_=>⟨_,rfl,_,aZ h.cell 0,qg ht ?_⟩⟩
 rw[aL]
 refine⟨λe=>bf rfl e,λ_=>⟨_,rfl,k.gH,aZ h.cell 1,λs x w=>0<=x/\x<=k.gH.n/\∃cl:J o,cl.length=x.toNat/\aD u w 3 1 s (cl.flatMap encI),λ_ x _=>k.gH.n-x.toNat,⟨by omega,by omega,[],rfl,aD.nil (H.le.refl u) _ _⟩,?_⟩⟩
 rintro s x w ⟨bK,dr,cl,hR,ac⟩
 have hw:=h.mono ac.le
 have dS:s.n=cl.length:=hf (enc:=encI) (λ_=>rfl) (by decide) ac.own.cK
 refine⟨λM=>?_,λ_=>au _ _ cl ac⟩
 obtain⟨p,ad,c,pR,c4,bA⟩:=hw.at bK M
 refine⟨p,ad,⟨bK,M⟩,c.1,bA,_,rfl,k.gH,aZ hw.cell 1,?_⟩
 dsimp only
 rw[ag]
 refine adi (ht.mono ac.le) aq hm.1 cj (by omega) bK (by omega) λwP rz=>?_
 refine Uk (hw.um c c4) (dV c c4) (rz _ (ht.mono ac.le)) (Th d4 _ _) (by rw[Tg aq (by omega)]) λa y W=>?_
 refine mn kK (aqg a) (by decide) rfl (by simp[cI]) ac (by show s.n<_;omega) (by omega) λar u' bR hY _ _ _=>⟨⟨by omega,by omega⟩,⟨by omega,by omega,cl++ [a],by grind,?_⟩,?_⟩
 rw[hb];exact bR
 omega
def vw(ah:O->aA bB)(s:N):O->aA bB:=λc=>if s.al=some c then some .vec else ah c
def UD{ah:O->aA bB}{c:O}(h:s.al=some c):vw ah s c=some .vec:=b3 h
def UE{ah:O->aA bB}{c:O}(h:s.al≠some c):vw ah s c=ah c:=bF h
def In.vw{u':H}{ah:O->aA bB}{T:aU}{e k:O}{xs:J ap}(h:In ak u ah b T)(ac:aD u u' e k s xs):In ak u' (vw ah s) b T/\hM u ah u' (vw ah s):=by have an:∀c,ah c≠none->hq.vw ah s c=ah c:=λc I=>UE λe=>h.known c I (ac.fresh c e);refine⟨⟨bO.bO h.aJ an λc z I _=>ac.le c z I,h.le.trans ac.le,λc I=>?_,λc I=>?_⟩,λc z I _=>ac.le c z I,λc I=>?_⟩;by_cases e:s.al=some c;exact h.le.none (ac.fresh c e);rw[UE e] at I;exact h.out c I;by_cases e:s.al=some c;exact dH ac e;rw[UE e] at I;obtain⟨z,bR⟩:=fp.1 (h.known c I);rw[ac.le c z bR];simp;by_cases e:s.al=some c;exact .inr (ac.fresh c e);rw[UE e] at I;exact .inl I
theorem akB{id:o}{there:ay}{many:o}(h:eM id v d there many=0):1<=id/\id<=1000000000/\gx v d=0/\(there=ao->many<512):=by
 unfold eM at h
 grind
structure ug(ak u:H)(ah:O->aA bB)(b:O)(T:aU)(id:o)(v:J o)(u':H)(aY:O->aA bB)(bD:aU):Prop where
 is:In ak u' aY b bD
 eJ:hM u ah u' aY
 ok:dX bD
 rows:(bi bD).Perm ((id,v)::(bi T).filter λx=>x.1 !=id)
 dim:bD.dim=T.dim
 aqD:bD.cd.isSome=T.cd.isSome
theorem amX{ah:O->aA bB}{T:aU}{id:o}{K:ay->o->H->Prop}(h:In ak u ah b T)(aV:dX T)(ht:Ints u t q)
  (dq:eM id q T.dim (decide (id∈T.w.map (·.1))) T.w.length≠0->K ao (eM id q T.dim (decide (id∈T.w.map (·.1))) T.w.length) u)
  (bM:eM id q T.dim (decide (id∈T.w.map (·.1))) T.w.length=0->∀u' aY bD,ug ak u ah b T id q u' aY bD->bD.cd=T.cd->K (decide (id∉T.w.map (·.1))) 0 u'):U6 (some ⟨b,0,none⟩) id t u K:=by
 have aJ:=h.aJ
 have aq:(ec T.w).length=T.w.length:=by simp[ec]
 have iS:(gm (ec T.w) id).isSome=decide (id∈T.w.map (·.1)):=by
  rcases s8 T.w id with⟨Z,hm⟩|⟨e,he,cy,Z⟩
  grind
  grind
 obtain⟨y,aj⟩:∃y:N,(gm (ec T.w) id).getD (.slice none 0 0)=aI.slice.enc y:=by rcases s8 T.w id with⟨Z,hm⟩|⟨e,he,cy,Z⟩;exact⟨⟨none,0,0⟩,by rw[Z];rfl⟩;exact⟨e.2.1,by rw[Z];rfl⟩
 apply aEy
 refine⟨_,rfl,_,aU.c1 aJ.cell,tU je aJ.map (ct:=.slice) y aj ?_⟩
 rw[iS]
 refine⟨_,rfl,_,rfl,_,aU.bA aJ.cell,_,aU.c1 aJ.cell,wK je aJ.map ⟨H.le.refl u,Kc ht ?_⟩⟩
 rw[aq]
 refine⟨λan=>dq an,λhe=>⟨_,rfl,_,aU.c1 aJ.cell,?_⟩⟩
 have bM:=bM he
 obtain⟨i1,i2,aB,R7⟩:=akB he
 obtain⟨d1,d2,d3,d4⟩:=n1 aB
 have ZW:=ht.len
 refine sI ht (by omega) λar u' ac _=>⟨ac.le,?_⟩
 obtain⟨bZ,wP⟩:=In.vw h ac
 have qk:=bZ.aJ
 have MH:vw ah ar T.m≠none:=by rw[qk.dy];simp
 refine amf je qk.map λz iF=>?_
 rw[agj] at iF
 have pq:∀{c cn},u' c=some cn->c≠T.m->(u'.ins T.m z) c=some cn:=λI an=>by rw[bz _ _ an];exact I
 have ql:∀{c t},vw ah ar c=some t->t≠.map->c≠T.m:=λI ht e=>by rw[e,qk.dy] at I;grind
 have nd:=aJ.rW
 have:=bM _ _ {T with w:=tW T.w id (ar,q)} ⟨In.ins bZ MH ⟨pq qk.cell (ql qk.dQ (by simp)),qk.dQ,iF,qk.dy,λe he=>?_,λc I=>?_⟩,wP.trans (hM.map qk.dy z),⟨aV.hP,λe he=>?_,λe he=>?_,?_,aV.um⟩,?_,rfl,rfl⟩ rfl
 have aN:(!decide (decide (id∈T.w.map (·.1))=ai))=decide (id∉T.w.map (·.1)):=by simp
 first
  |exact aN▸this
  |(rw[<-aN] at this;exact this)
 have hold:Cm (vw ah ar) (u'.ins T.m z) T.w:=qk.vec.bO (λ_ h=>h) λc cn I ht=>pq I (ql ht (by simp))
 rcases Ua he with rfl|⟨he,_⟩
 exact⟨bw.else ac.ints λg cn Z I=>pq I (ql (UD Z) (by simp)),λg Z=>UD Z⟩
 exact hold e he
 have dI:=qk.sX c I
 exact⟨dI.map.else λcn ac=>pq ac dI.ne,dI.dy,dI.ne,dI.vec.bO (λ_ h=>h) λc cn I ht=>pq I (ql ht (by simp)),λk hk=>(dI.co k hk).bO (λ_ h=>h) λc cn I ht=>pq I (ql ht (by simp))⟩
 rcases Ua he with rfl|⟨he,_⟩
 exact⟨i1,i2⟩
 exact aV.ids e he
 rcases Ua he with rfl|⟨he,_⟩
 exact⟨d3,d4⟩
 exact aV.vec e he
 have fX:=aV.small
 by_cases e:id∈T.w.map (·.1)
 show(tW T.w id (ar,q)).length<=512
 rw[(amj _ _ _).1 e];exact fX
 have:=R7 (q0 e)
 show(tW T.w id (ar,q)).length<=512
 rw[(amj _ _ _).2 e];omega
 show((tW T.w id (ar,q)).map λe=>(e.1,e.2.2)).Perm _
 refine((aBi nd).map _).trans ?_
 rw[iw]
 unfold bi
 rw[sB]
 exact JV _
theorem aBH{ah:O->aA bB}{T:aU}{c:pE}{id:o}{K:ay->o->H->Prop}(h:In ak u ah b T)(aV:dX T)(kQ:T.cd=some c)(ht:Ints u t q)(fk:∀aR (c5:O->aA bB),ak.le aR->hM u ah aR c5->Ints aR t q)
  (dq:eM id q T.dim (decide (id∈T.w.map (·.1))) T.w.length≠0->K ao (eM id q T.dim (decide (id∈T.w.map (·.1))) T.w.length) u)
  (bM:eM id q T.dim (decide (id∈T.w.map (·.1))) T.w.length=0->∀u' aY bD,ug ak u ah b T id q u' aY bD->K (decide (id∉T.w.map (·.1))) 0 u'):aeh (some ⟨b,0,none⟩) id t u K:=by
 apply aEt
 refine⟨_,rfl,amX h aV ht (λan KT br=>⟨λe=>bf e an,λ_=>br _ _ ⟨λe=>(by cases e),λ_=>dq an⟩⟩) λhe aR c5 ba U iO KT br=>⟨λ_=>?_,λe=>bf rfl e⟩⟩
 have bM:=bM he
 obtain⟨_,_,aB,_⟩:=akB he
 rw[kQ] at iO
 have anM:=U.is.aJ
 have WV:aR b=some (.cells #[.int .i64 ba.dim,.map (some ba.m),.pointer c.ptr,.map (some c.hS)] 132 (0,0)):=by rw[anM.cell];unfold aU.obj;rw[iO]
 have sX:=anM.sX c iO
 refine⟨_,rfl,c.ptr,aZ WV 2,br _ _ ⟨λe=>?_,λ_=>bM aR c5 ba U⟩⟩
 cases hk:c.co with
 |none=>simp[pE.ptr,hk] at e
 |some k=>
  have w6:=sX.co k hk;have nL:=fk aR c5 U.is.le U.eJ;refine⟨_,rfl,_,rfl,_,aZ WV 3,_,aZ WV 2,?_⟩;rw[show c.ptr=some ⟨k.b,0,none⟩ by unfold pE.ptr;rw[hk];rfl];refine aBy w6 (U.ok.um c k iO hk) nL (by rw[U.dim];exact aB) λs2 cF cl dt=>⟨dt.le,?_⟩;obtain⟨bZ,wP⟩:=In.vw U.is dt;have qk:=bZ.aJ;have Av:=qk.sX c iO;refine amf je Av.map λz iF=>?_;rw[agj (v:=cl)] at iF;have pq:∀{x cn},cF x=some cn->x≠c.hS->(cF.ins c.hS z) x=some cn:=λI an=>by rw[bz _ _ an];exact I
  have ql:∀{x t},vw c5 s2 x=some t->t≠.map->x≠c.hS:=λI ht e=>by rw[e,Av.dy] at I;grind
  refine bM _ _ {ba with cd:=some {c with sL:=tW c.sL id (s2,cl)}} ⟨In.ins bZ (by rw[Av.dy];simp) ⟨?_,qk.dQ,qk.map.else λcn ac=>pq ac (e3 Av.ne),qk.dy,qk.vec.bO (λ_ h=>h) λx cn I ht=>pq I (ql ht (by simp)),λpL dI=>?_⟩,(U.eJ.trans wP).trans (hM.map Av.dy z),⟨U.ok.hP,U.ok.ids,U.ok.vec,U.ok.small,λpL dY dI dk=>?_⟩,U.rows,U.dim,?_⟩;refine pq ?_ (ql qk.dQ (by simp));rw[qk.cell];unfold aU.obj;rw[iO];rfl;obtain rfl:=eh dI;refine⟨iF,Av.dy,Av.ne,λe he=>?_,λk hk=>(Av.co k hk).bO (λ_ h=>h) λx cn I ht=>pq I (ql ht (by simp))⟩;have hold:Cm (vw c5 s2) (cF.ins c.hS z) c.sL:=Av.vec.bO (λ_ h=>h) λx cn I ht=>pq I (ql ht (by simp));rcases Ua he with rfl|⟨he,_⟩;exact⟨bw.else dt.ints λg cn Z I=>pq I (ql (UD Z) (by simp)),λg Z=>UD Z⟩;exact hold e he;obtain rfl:=eh dI;exact U.ok.um c dY iO dk;rw[kQ];rfl
end
section
variable{u:H}{s:N}{c r:o}
def apL:hy aH 106=ai:=by kernel_rfl
def aDx:ku aH 189=some (133,1,24,[.slice none 0 0]):=by kernel_rfl
def aqd(s:N):kO aH 189 1 #[(0,.slice s.a s.n s.c)]=some (133,[.slice s.a s.n s.c]):=by kernel_rfl
structure Kt(u:H)(n0 cj ez lV fo:O)(s:N)(p c r GJ:o):Prop where
 bA:u.cell? ⟨n0,0,none⟩=some (.slice s.a s.n s.c)
 c1:u.cell? ⟨cj,0,none⟩=some (.int .i64 p)
 c2:u.cell? ⟨ez,0,none⟩=some (.int .i64 c)
 fc:u.cell? ⟨lV,0,none⟩=some (.int .i64 r)
 pM:u.cell? ⟨fo,0,none⟩=some (.int .u64 GJ)
def Kt.mono{u':H}{n0 cj ez lV fo:O}{p GJ:o}(h:Kt u n0 cj ez lV fo s p c r GJ)(k:u.le u'):Kt u' n0 cj ez lV fo s p c r GJ:=
 ⟨H.le.cell k h.bA,H.le.cell k h.c1,H.le.cell k h.c2,H.le.cell k h.fc,H.le.cell k h.pM⟩
theorem aBD{n0 cj ez lV fo:O}{L:J (N×J o)}{p n:O}{GJ i:o}{K:N->H->Prop}(ch:Kt u n0 cj ez lV fo s p c r GJ)(h:mR u s L)(aB:∀x∈L,x.2.length=p*n/\cY x.2)(ad:1<=p)(ag:1<=n/\n<=64)(tf:L.length<=512)
  (I:1<=c/\c<=16) (hR:c<=L.length) (U:0<=r/\r<=20) (i0:0<=i) (i1:i<p) (au:∀ar u' cs,gk u u' ar cs->wW cs n->K ar u'):aeH i ⟨n0,0,none⟩ ⟨cj,0,none⟩ ⟨ez,0,none⟩ ⟨lV,0,none⟩ ⟨fo,0,none⟩ u K:=by
 have dS:=h.len
 apply aFR
 refine⟨s,ch.bA,λk0 x w=>0<=x/\x<=s.n/\∃D:J (N×J o),D.map (·.2)=(L.take x.toNat).map (λy=>wu y.2 n i.toNat)/\aD u w 30 1 k0 (D.flatMap λc=>encS c.1)/\∀y∈D,Ints u y.1 y.2,λ_ x _=>s.n-x.toNat,⟨by omega,by omega,[],by simp,aD.nil (H.le.refl u) _ _,λy aj=>(by cases aj)⟩,?_⟩
 rintro k0 x w ⟨bK,dr,D,fe,ac,cv⟩
 have Rm:D.length=x.toNat:=by have:=eI iY fe;simp at this;omega
 have aIK:k0.n=D.length:=hf vK (by decide) ac.own.cK
 refine⟨λM=>?_,λhF=>?_⟩
 obtain⟨q,aL,y,aj2,SI,yF,_⟩:=(h.mono ac.le).at bK M
 obtain⟨v1,v2⟩:=aB y SI
 refine⟨q,aL,⟨bK,M⟩,y.1,yF,_,H.le.cell ac.le ch.c1,?_⟩
 have aj1:=h.ints y SI
 refine adi (aj1.mono ac.le) v1 ad ag.1 (by have:=v2.1;omega) i0 i1 λt ht=>?_
 refine mn UC (kd.QH t) (by decide) rfl (by simp[cI]) ac (by show k0.n<_;omega) (by omega) λar u' bR hY _ _ _=>⟨⟨by omega,by omega⟩,⟨by omega,by omega,D++ [(t,wu y.2 n i.toNat)],?_,?_,λW aE=>?_⟩,?_⟩
 rw[show(x+1).toNat=x.toNat+1 by omega,fN,aj2,en,en,fe]
 rfl
 rw[hb];exact bR
 rcases dT.1 aE with aE|aE
 exact cv W aE
 rw[hZ.1 aE];exact ht u aj1
 dsimp only;omega
 have eY:x.toNat=L.length:=by omega
 rw[eY,pt] at fe
 have CP:mR w k0 D:=⟨ac.own.cK,λy aj=>(cv y aj).mono ac.le⟩
 have H8:∀y∈D.map (·.2),y.length=n/\cY y:=λy aj=>by rw[fe] at aj;obtain⟨W,aE,rfl⟩:=bQ.1 aj;obtain⟨v1,v2⟩:=aB W aE;exact⟨Tg v1 (by omega),Th v2 _ _⟩
 refine⟨_,H.le.cell ac.le ch.c2,_,H.le.cell ac.le ch.fc,_,H.le.cell ac.le ch.pM,?_⟩
 refine amO CP (λy aj=>H8 y.2 (bQ.2 ⟨y,aj,rfl⟩)) ag (by omega) ⟨I.1,by omega⟩ (by omega) U λar u' cs dV he=>au ar u' cs (dV.weaken ac.le) ?_
 obtain⟨acR,awM⟩:∃W,W=bS .u64 (GJ+bS .u64 i):=⟨_,rfl⟩
 rw[<-awM] at he
 have aN:kd.As acR c r n (D.map (·.2))=adN acR c.toNat r.toNat n (D.map (·.2)):=by unfold kd.As;rw[bF λe=>?_,eb,bF (by omega)];have:=eI iY e;rw[eb,sw] at this;omega
 obtain⟨g1,g2,g3⟩:=kd.afM (seed:=acR) (b:=r) H8 ag (a:=c) ⟨I.1,by omega⟩
 rw[aN,<-he] at g1 g2 g3
 rw[eb] at g2 g3
 exact⟨by omega,⟨g2,g3⟩,λy aj=>by
  grind⟩
structure D9(u u':H)(d:o)(k:uc):Prop where
 le:u.le u'
 new:u k.b=none
 cell:u' k.b=some (.cells #[.int .i64 d,.slice k.gH.a k.gH.n k.gH.c] 191 (0,0))
 own:aD u u' 133 1 k.gH (k.eV.flatMap λc=>encS c.1)
 each:∀c∈k.eV,gk u u' c.1 c.2
def aDh{n:O}{d:o}{a:N}{f:H->Prop}(h:u n=some (.cells #[.int .i64 d,.slice a.a a.n a.c] 191 (0,0)))(ab:f (u.ins n (.cells #[.int .i64 d,.slice s.a s.n s.c] 191 (0,0)))):H.aM u (er (cp n 0 none) 1) [.slice s.a s.n s.c] f:=
 ⟨_,_,h,rfl,by simp[ib],by simp[cI],ab⟩
theorem aCa{L:J (N×J o)}{d p seed:o}{K:aA a8->o->H->Prop}(h:mR u s L)(aB:∀x∈L,(x.2.length:o)=d/\cY x.2)(av:1<=d/\d<=64)(ad:1<=p/\p<=8)(Sl:lE d p=0)
  (I:1<=c/\c<=16) (hR:c<=L.length) (tf:L.length<=512) (U:0<=r/\r<=20) (au:∀u' k,D9 u u' d k->DZ d k.eV->K (some ⟨k.b,0,none⟩) 0 u'):Vu s d p c r seed u K:=by
 have dS:=h.len
 obtain⟨n,ag⟩:∃n:O,d=p*n:=by
  refine⟨(d/p).toNat,?_⟩;have h1:d%p=0:=by grind
  have h2:=Int.mul_ediv_add_emod d p;have h3:0<=d/p:=ace (by omega) (by omega)
  grind
 obtain⟨P,ep⟩:∃P:O,p=P:=⟨p.toNat,by omega⟩
 subst ep
 have gQ:1<=n:=by grind
 have avO:n<=64:=by
  have:1*n<=P*n:=tO _ (by omega);have:((P*n:O):o)=d:=by omega
  omega
 have IU:∀x∈L,x.2.length=P*n/\cY x.2:=λx M=>by
  grind
 apply aFQ
 intro n0 h0 cj h1 ez h2 lV h3 fo br r0 bL
 obtain⟨gh,kk⟩:∃gh,gh=(bt #[ed s.a s.n s.c] 133 (0,0)):=⟨_,rfl⟩
 obtain⟨e0,jl⟩:∃e0,e0=(bt #[cN .i64 (P:o)] 3 (0,0)):=⟨_,rfl⟩
 obtain⟨hT,dt⟩:∃hT,hT=(bt #[cN .i64 c] 3 (0,0)):=⟨_,rfl⟩
 obtain⟨zw,jT⟩:∃zw,zw=(bt #[cN .i64 r] 3 (0,0)):=⟨_,rfl⟩
 obtain⟨zx,ZB⟩:∃zx,zx=(bt #[cN .u64 seed] 26 (0,0)):=⟨_,rfl⟩
 rw[<-kk] at h1 h2 h3 br ⊢
 rw[<-jl] at h2 h3 br ⊢
 rw[<-dt] at h3 br ⊢
 rw[<-jT] at br ⊢
 rw[<-ZB]
 obtain⟨ub,cC⟩:∃ub,ub=((((u.ins n0 gh).ins cj e0).ins ez hT).ins lV zw).ins fo zx:=⟨_,rfl⟩
 rw[<-cC]
 have iG:=bX (u:=u) (b:=n0) gh h0
 have dN:=bX (b:=cj) e0 h1
 have eZ:=bX (b:=ez) hT h2
 have lR:=bX (b:=lV) zw h3
 have lS:=bX (b:=fo) zx br
 rw[<-cC] at lS
 have lub:u.le ub:=(((iG.trans dN).trans eZ).trans lR).trans lS
 have ch:Kt ub n0 cj ez lV fo s P c r seed:=by refine⟨H.le.cell (((dN.trans eZ).trans lR).trans lS) ?_,H.le.cell ((eZ.trans lR).trans lS) ?_,H.le.cell (lR.trans lS) ?_,H.le.cell lS ?_,?_⟩;have:=bh u n0 gh;rw[kk] at this ⊢;exact aZ this 0;have:=bh (u.ins n0 gh) cj e0;rw[jl] at this ⊢;exact aZ this 0;have:=bh ((u.ins n0 gh).ins cj e0) ez hT;rw[dt] at this ⊢;exact aZ this 0;have:=bh (((u.ins n0 gh).ins cj e0).ins ez hT) lV zw;rw[jT] at this ⊢;exact aZ this 0;have:=bh ((((u.ins n0 gh).ins cj e0).ins ez hT).ins lV zw) fo zx;rw[<-cC,ZB] at this;exact aZ this 0
 clear cC iG dN eZ lR lS h0 h1 h2 h3 br kk jl dt jT ZB
 have aa:=h.mono lub
 refine⟨λe=>bf e (by omega),λ_=>bL _ _ ⟨λe=>bf (BC e) (by omega),λ_ Qn mx=>⟨_,ch.c1,λe=>bf e (by omega),λ_=>⟨_,ch.c1,λe=>bf e (by omega),λ_=>⟨_,ch.c2,λe=>bf e (by omega),λ_=>⟨_,ch.c2,λe=>bf e (by omega),λ_=>⟨_,ch.fc,λe=>bf e (by omega),λ_=>⟨_,ch.fc,mx _ _ ⟨λe=>bf (BC e) (by omega),λ_=>⟨_,ch.c1,by omega,λe=>bf Sl e,λ_=>⟨s,ch.bA,λe=>bf e (by omega),λ_=>⟨s,ch.bA,_,ch.c2,λe=>bf e (by omega),λ_=>⟨s,ch.bA,?_⟩⟩⟩⟩⟩⟩⟩⟩⟩⟩⟩⟩⟩
 refine⟨λ_ _ x w=>w=ub/\0<=x/\x<=s.n,λ_ _ x _=>s.n-x.toNat,⟨rfl,by omega,by omega⟩,?_⟩
 rintro _ _ x w ⟨rfl,bK,dr⟩
 refine⟨λM=>?_,λ_=>?_⟩
 obtain⟨q,aL,y,aj2,SI,yF,aIa⟩:=aa.at bK M
 obtain⟨v1,v2⟩:=aB y SI
 refine⟨q,aL,⟨bK,M⟩,y.1,yF,qg aIa ?_⟩
 have xK:gx y.2 d=0:=by rw[<-v1];exact xY v2 (by omega)
 rw[xK]
 exact⟨λe=>bf rfl e,λ_=>⟨⟨by omega,by omega⟩,⟨rfl,by omega,by omega⟩,by dsimp only;omega⟩⟩
 intro m hm
 have qR:=bX (u:=w) (b:=m) (.cells #[.int .i64 d,.slice none 0 0] 191 (0,0)) hm
 refine⟨_,H.le.cell qR ch.c1,λx v=>0<=x/\x<=P/\∃(gH:N) (eV:J (N×J (N×J o))),eV.length=x.toNat/\v m=some (.cells #[.int .i64 d,.slice gH.a gH.n gH.c] 191 (0,0))/\aD w v 133 1 gH (eV.flatMap λc=>encS c.1)/\gH.al≠some m/\
  ∀c∈eV,gk w v c.1 c.2/\wW c.2 n/\dB gH c.1/\(∀y∈c.2,dB gH y.1)/\c.1.al≠some m/\∀y∈c.2,y.1.al≠some m,λx _=>P-x.toNat,⟨by omega,by omega,⟨none,0,0⟩,[],rfl,bh _ _ _,aD.nil qR _ _,by simp[N.al],λc I=>(by cases I)⟩,?_⟩
 rintro x v ⟨bK,dr,gH,eV,fC,gf,ac,fX,LZ⟩
 have aJV:gH.n=eV.length:=hf Xl (by decide) ac.own.cK
 refine⟨λM=>?_,λhF=>?_⟩
 refine⟨gH,aZ gf 1,_,_,_,rfl,hs apL,?_⟩
 refine aBD (ch.mono ac.le) (aa.mono ac.le) IU (by omega) ⟨gQ,avO⟩ tf I hR U bK M λpz mM cs dV bM=>⟨dV.own.le,?_⟩
 have zi:=dV.own.le
 have av4:=ac.mono zi
 refine c7.O6 (zT aDx (aqd pz) (by decide) rfl (by simp[cI]) av4 (by show gH.n<_;omega) (by omega) λDI ho MT aJz ah1 Yz _=>?_) λ_ _ cb=>⟨zi.trans cb.1,cb.2⟩
 have HC:ho m=some (.cells #[.int .i64 d,.slice gH.a gH.n gH.c] 191 (0,0)):=ah1 m _ (zi _ _ gf) fX
 refine aDh HC ⟨⟨by omega,by omega⟩,⟨by omega,by omega,DI,eV++ [(pz,cs)],by rw[gG,fC];simp;omega,bh _ _ _,?_,?_,λc c4=>?_⟩,by dsimp only;omega⟩
 have an:DI.al≠some m:=λe=>by rcases Yz m e with aN|aN;exact fX aN;rw[zi _ _ gf] at aN;cases aN
 rw[hb]
 exact aD.xO MT hm an _
 intro e
 rcases Yz m e with aN|aN
 exact fX aN
 rw[zi _ _ gf] at aN;cases aN
 have agt:∀{t:N},dB gH t->(∀g,t.al=some g->mM g≠none)->dB DI t:=λab hk g Z ht=>by rcases Yz g Z with aN|aN;exact ab g aN ht;exact hk g ht aN
 have key:∀(t:N) (l:J (N×J o)),gk w mM t l->wW l n->dB gH t->(∀y∈l,dB gH y.1)->t.al≠some m->(∀y∈l,y.1.al≠some m)->
   gk w (ho.ins m (.cells #[.int .i64 d,.slice DI.a DI.n DI.c] 191 (0,0))) t l/\wW l n/\dB DI t/\(∀y∈l,dB DI y.1)/\t.al≠some m/\∀y∈l,y.1.al≠some m:=λt l di dv ef hl rJ Ge=>
  ⟨kd.UT (di.else ah1 (λg Z=>ac.fresh g Z) ef hl) hm rJ Ge _,dv,agt ef λg Z=>dH di.own Z,λy aj=>agt (hl y aj) λg Z=>dH (di.inner y aj) Z,rJ,Ge⟩
 rcases dT.1 c4 with c4|c4
 obtain⟨di,dv,ef,hl,rJ,Ge⟩:=LZ c c4
 exact key c.1 c.2 (di.mono zi) dv ef hl rJ Ge
 rw[hZ.1 c4]
 refine key pz cs (dV.weaken ac.le) bM (λg Z ht=>?_) (λy aj g Z ht=>?_) (λe=>?_) λy aj e=>?_
 exact dH ac Z (dV.own.fresh g ht)
 exact dH ac Z ((dV.inner y aj).fresh g ht)
 have:=dV.own.fresh m e;rw[gf] at this;cases this
 have:=(dV.inner y aj).fresh m e;rw[gf] at this;cases this
 have axr:x.toNat=P:=by omega
 refine au v ⟨m,gH,eV⟩ ⟨lub.trans ac.le,lub.none hm,gf,ac.weaken lub,λc I=>(LZ c I).1.weaken lub⟩ ⟨⟨by show 1<=eV.length;omega,by show eV.length<=8;omega⟩,n,gQ,?_,λc I=>(LZ c I).2.1⟩
 show((eV.length*n:O):o)=d
 rw[fC,axr,Int.natCast_mul,ag]
end
end hq
section
variable{u ak:H}{b:O}{D:O->Prop}{q:J o}{k:o}{f:j8}{l:J ax}
def eu.bO:yt eu.ee:=⟨λh ab hu=>h.bO ab hu⟩
def eu.toG{ah:O->aA eu.bB}{T:eu.aU}(h:eu.In ak u ah b T):mP eu.ee ak u ah b T:=⟨h.aJ,h.le,h.out,h.known⟩
def eu.F5{ah:O->aA eu.bB}{T:eu.aU}(h:mP eu.ee ak u ah b T):eu.In ak u ah b T:=⟨h.aJ,h.le,h.out,h.known⟩
inductive cO where
 |oo (X:k6.aU)|aX (X:lr.aU)|nO (X:kd.aU)|ag (X:eu.aU)|c3 (X:hq.aU)
def cO.ei(ak u:H)(D:O->Prop)(b:O):cO->Prop
 | .oo X=>e6 k6.ee k6.dX ak u D b X| .aX X=>e6 lr.ee lr.dX ak u D b X| .nO X=>e6 kd.ee kd.dX ak u D b X| .ag X=>e6 eu.ee eu.dX ak u D b X| .c3 X=>e6 hq.ee hq.dX ak u D b X
def cO.rows:cO->J (o×J o)
 | .oo X=>k6.bi X| .aX X=>lr.bi X| .nO X=>kd.bi X| .ag X=>eu.fw X.g| .c3 X=>hq.bi X
def cO.dim:cO->o
 | .oo X=>X.dim| .aX X=>X.dim| .nO X=>X.dim| .ag X=>X.dim| .c3 X=>X.dim
def cO.eW:cO->O
 | .oo X=>X.eW| .aX X=>X.eW|_=>0
def cO.fq:cO->dC
 | .oo _=>113| .aX _=>116| .nO _=>119| .ag _=>122| .c3 X=>if X.cd.isSome then 129 else 128
def cO.iface(X:cO)(b:O):ap:=.iface X.fq (.pointer (some ⟨b,0,none⟩))
def cO.GY(X:hq.aU):(cO.c3 X).fq=if X.cd.isSome then 129 else 128:=rfl
def cO.IZ{X:hq.aU}(h:X.cd=none)(b:O):(cO.c3 X).iface b=.iface 128 (.pointer (some ⟨b,0,none⟩)):=by unfold cO.iface;rw[cO.GY,h];rfl
def cO.IY{X:hq.aU}{c:hq.pE}(h:X.cd=some c)(b:O):(cO.c3 X).iface b=.iface 129 (.pointer (some ⟨b,0,none⟩)):=by unfold cO.iface;rw[cO.GY,h];rfl
def cO.base{X:cO}(h:X.ei ak u D b):ak.le u/\(∀c,D c->ak c=none)/\∀c,D c->u c≠none:=by cases X<;>exact e6.base h
def cO.same{u':H}{X:cO}(h:X.ei ak u D b)(hu:∀c z,u c=some z->D c->u' c=some z)(hle:ak.le u'):X.ei ak u' D b:=by cases X;exact e6.same k6.bO h hu hle;exact e6.same lr.bO h hu hle;exact e6.same kd.bO h hu hle;exact e6.same eu.bO h hu hle;exact e6.same hq.bO h hu hle
def cO.mono{u':H}{X:cO}(h:X.ei ak u D b)(hu:u.le u'):X.ei ak u' D b:=cO.same h (λc z I _=>hu c z I) ((cO.base h).1.trans hu)
def cO.mI{v:H}{X:cO}(h:X.ei ak u D b)(aB:v.le ak):X.ei v u D b:=by cases X<;>exact e6.mI h aB
def ayI{t e:dC}{name:String}(hm:ov aH t name f ai=ai)(hu:aH.underlying t=some (.pointer e))(p:aA a8)(w:ci):(method (aH.types.size+tM) t (.pointer p) name).run aH w=.ok (f,.pointer p) w:=by obtain⟨i,m,h1,h2,h3,br⟩:=Bn hm;obtain⟨dY,dk⟩:=AD;rw[dk];exact J1 h1 h2 h3 br hu
def Pq:aH.underlying 113=some (.pointer 169):=by kernel_rfl
def Ps:aH.underlying 116=some (.pointer 174):=by kernel_rfl
def Pp:aH.underlying 119=some (.pointer 178):=by kernel_rfl
def Po:aH.underlying 122=some (.pointer 184):=by kernel_rfl
def Pr:aH.underlying 128=some (.pointer 127):=by kernel_rfl
def an3:aH.underlying 129=some (.pointer 132):=by kernel_rfl
def lu{t e:dC}{name:String}{args:cA ap}{ss:J bk}{K:hp (gW ss) (H->Prop)}(hm:ov aH t name f ai=ai)(hu:aH.underlying t=some (.pointer e))(aa:hy aH f=ai)
  (h:hD aH f (#[.pointer (some ⟨b,0,none⟩)]++args) ss u K):nv aH (.iface t (.pointer (some ⟨b,0,none⟩))) name args ss u K:=
 ⟨_,_,f,_,rfl,λw _=>ayI hm hu _ w,hs aa,h⟩
def WZ{name:String}{args:cA ap}{ss:J bk}{K:hp (gW ss) (H->Prop)}(hm:∀w,(method (aH.types.size+tM) 129 (.pointer (some ⟨b,0,none⟩)) name).run aH w=.ok (f,.pointer (some ⟨b,0,none⟩)) w)(aa:hy aH f=ai)
  (h:hD aH f (#[.pointer (some ⟨b,0,none⟩)]++args) ss u K):nv aH (.iface 129 (.pointer (some ⟨b,0,none⟩))) name args ss u K:=
 ⟨_,_,f,_,rfl,λw _=>hm w,hs aa,h⟩
def cO.BM{X:cO}{K:o->H->Prop}(h:X.ei ak u D b)(au:K X.rows.length u):nv aH (X.iface b) "Len" #[] [.one (.int .i64)] u K:=by
 cases X with
 |oo X=>obtain⟨ah,h1,h2,h3⟩:=e6.ex h;exact lu (f:=252) (by kernel_rfl) Pq (by kernel_rfl) (k6.BM h2 au)
 |aX X=>obtain⟨ah,h1,h2,h3⟩:=e6.ex h;exact lu (f:=272) (by kernel_rfl) Ps (by kernel_rfl) (lr.BM h2 au)
 |nO X=>obtain⟨ah,h1,h2,h3⟩:=e6.ex h;exact lu (f:=280) (by kernel_rfl) Pp (by kernel_rfl) (kd.BM h2 h3 au)
 |ag X=>obtain⟨ah,h1,h2,h3⟩:=e6.ex h;refine lu (f:=288) (by kernel_rfl) Po (by kernel_rfl) (eu.amE h2.aJ ?_);rw[show(cO.ag X).rows.length=X.g.length by simp[cO.rows,eu.fw]] at au;exact au
 |c3 X=>
  obtain⟨ah,h1,h2,h3⟩:=e6.ex h;have:=hq.BM h2 au;cases e:X.cd with
  |some c=>rw[cO.IY e];exact WZ (f:=306) (λw=>by kernel_rfl) (by kernel_rfl) this|none=>rw[cO.IZ e];exact lu (f:=306) (by kernel_rfl) Pr (by kernel_rfl) this
def cO.zU{X:cO}{K:N->H->Prop}(h:X.ei ak u D b)(au:∀s ls u',re u u' s ls->(ls.map ax.bn).Perm X.rows->(ls.Pairwise λa b=>a.id<=b.id)->K s u'):nv aH (X.iface b) "Rows" #[] [.one .slice] u K:=by
 cases X with
 |oo X=>obtain⟨ah,h1,h2,h3⟩:=e6.ex h;exact lu (f:=254) (by kernel_rfl) Pq (by kernel_rfl) (k6.zU h2 h3 au)
 |aX X=>obtain⟨ah,h1,h2,h3⟩:=e6.ex h;exact lu (f:=274) (by kernel_rfl) Ps (by kernel_rfl) (lr.zU h2 h3 au)
 |nO X=>obtain⟨ah,h1,h2,h3⟩:=e6.ex h;exact lu (f:=282) (by kernel_rfl) Pp (by kernel_rfl) (kd.zU h2 h3 au)
 |ag X=>obtain⟨ah,h1,h2,h3⟩:=e6.ex h;exact lu (f:=290) (by kernel_rfl) Po (by kernel_rfl) (eu.amG (eu.F5 h2) h3 au)
 |c3 X=>
  obtain⟨ah,h1,h2,h3⟩:=e6.ex h;have:=hq.zU h2 h3 au;cases e:X.cd with
  |some c=>rw[cO.IY e];exact WZ (f:=308) (λw=>by kernel_rfl) (by kernel_rfl) this|none=>rw[cO.IZ e];exact lu (f:=308) (by kernel_rfl) Pr (by kernel_rfl) this
def wH(a b c:N)(rest:J ax):J b1:=if rest=[] then[] else[⟨2,a,b,0,c,mZ rest,mY rest,cR (rest.map (·.id))⟩]
def U3.own{aC ss a6:N}{eE:J bN}{seen:J o}{rest:J ax}(h:U3 ak u aC ss a6 eE seen rest):∃a b c:N,iI ak u aC ss a6 eE seen (wH a b c rest):=by
 rcases h.r with⟨he,rfl⟩|⟨an,_,a,b,c,h1,h2,h3,br,cj,ez,lV,f1,f2⟩;refine⟨⟨none,0,0⟩,⟨none,0,0⟩,⟨none,0,0⟩,?_⟩;rw[wH,b3 he];refine⟨h.h,h.s,aD.nil h.h.le _ _,λr U=>(by cases U),?_⟩;simp only[oF,JS];refine ix.2 ⟨λt ht=>?_,ix.2 ⟨λt ht=>?_,TA _ _⟩⟩;rcases dM.1 ht with rfl|ht;exact h.ae;obtain rfl:t=_:=by simpa using ht
 intro g _ Z;simp[N.al] at Z;obtain rfl:t=_:=by simpa using ht
 intro g _ Z;simp[N.al] at Z;refine⟨a,b,c,?_⟩;rw[wH,bF an];have e:([⟨2,a,b,0,c,mZ rest,mY rest,cR (rest.map (·.id))⟩]:J b1).flatMap qD=[.int .i64 2,.slice a.a a.n a.c,.slice b.a b.n b.c,.int .u64 0,.int .u64 0,.slice c.a c.n c.c]:=by simp[qD,E9,F1]
 refine⟨h.h,h.s,by rw[e];exact h1,λr U=>?_,?_⟩;obtain rfl:r=_:=by simpa using U
 exact⟨h2,h3,br⟩;have Xp:∀x∈[a,b,c],dB aC x/\dB ss x/\dB a6 x:=λx M=>⟨λg ta yO=>(f1 x M g yO).1 ta,λg ta yO=>(f1 x M g yO).2.1 ta,λg ta yO=>(f1 x M g yO).2.2 ta⟩;have ne:∀{x y:N},x.al≠y.al->dB x y:=λag g M aj=>ag (by rw[M,aj]);simp only[oF,jr,JS,ml,b1.gp];refine ix.2 ⟨λt ht=>?_,ix.2 ⟨λt ht=>?_,ix.2 ⟨λt ht=>(Xp t ht).2.2,ix.2 ⟨λt ht=>?_,ix.2 ⟨λt ht=>?_,TA _ _⟩⟩⟩⟩⟩;rcases dM.1 ht with rfl|ht;exact h.ae;rcases dM.1 ht with rfl|ht;exact λg Z gu=>(f2 g gu).1 Z;exact(Xp t ht).1;rcases dM.1 ht with rfl|ht;exact λg Z gu=>(f2 g gu).2 Z;exact(Xp t ht).2.1;rcases dM.1 ht with rfl|ht;exact ne cj;obtain rfl:t=c:=by simpa using ht
 exact ne ez;obtain rfl:t=c:=by simpa using ht
 exact ne lV
theorem ar3{b:o}(aL:jx l q)(Y a2 a3:N):Sound l q k (e1 k.toNat ((l.take b.toNat).map (hj q))) (cR ((l.take b.toNat).map (·.id))) (wH Y a2 a3 (l.drop b.toNat)):=by
 have b8:=aL.rows.nodup;have e:l.map (·.id)=(l.take b.toNat).map (·.id)++(l.drop b.toNat).map (·.id):=by simp_all
 have xx:=b8;rw[e] at xx;obtain⟨cj,ez,_⟩:=hg.1 xx;refine⟨DN cj,λr U=>?_,?_,λm hm y5=>?_⟩;unfold wH at U;split at U;cases U;rename_i an;obtain rfl:r=⟨2,Y,a2,0,a3,mZ (l.drop b.toNat),mY (l.drop b.toNat),cR ((l.drop b.toNat).map (·.id))⟩:=hZ.1 U;have bM:gD (l.drop b.toNat) (q.length:o):=aL.rows.sub (Oo _ _);obtain⟨e7,fy,mV,pJ,rh,pK⟩:=afv bM an;refine⟨⟨bM.dim,DN ez,λx M=>?_,.inr (.inl ⟨rfl,rfl,mV,pJ,e7,fy,rh⟩)⟩,λh=>?_,λx M=>?_⟩;obtain⟨r,U,rfl⟩:=bQ.1 ((ns _).mem_iff.1 M);exact bM.id r U;have:=eI iY h;rw[yi,eb] at this
 grind
 obtain⟨r,U,rfl⟩:=bQ.1 ((ns _).mem_iff.1 M);refine⟨r,tQ U,rfl,λ_ i hi=>pK r U i ?_,λh=>by cases h⟩;have:=(bM.v r U).1;omega;rw[e];refine List.Perm.append (ns _) ?_;unfold wH;split
 grind
 simpa using ns _;have ad:m.Perm (l.take b.toNat):=alR b8 hm (λr U=>oW U) (by rw[y5];exact ns _);exact(DS (ad.map (hj q))).symm
def am5{t:N}{d b:o}{K:o->H->Prop}(ht:Ints u t q)(h:K (if gx q d≠0 then gx q d else if k<1∨64<k∨b<0∨1000000<b then 1 else 0) u):k4 t d k b u K:=by apply aG4;refine Ke ht ⟨λan=>by rw[b3 an] at h;exact h,λhe=>?_⟩;rw[bF (by simpa using he)] at h;by_cases dq:k<1∨64<k∨b<0∨1000000<b;rw[b3 dq] at h;exact⟨λ_=>h,λcB=>⟨λ_=>h,λcW=>⟨λ_=>h,λe7=>⟨λ_=>h,λfy=>by omega⟩⟩⟩⟩;rw[bF dq] at h;exact⟨λcB=>by omega,λ_=>⟨λcW=>by omega,λ_=>⟨λe7=>by omega,λ_=>⟨λfy=>by omega,λ_=>h⟩⟩⟩⟩
def ank{b:o}:zW l q k b=0↔jx l q/\1<=k/\k<=64/\0<=b/\b<=1000000:=by unfold zW;constructor;intro h;split at h;omega;rename_i he;split at h;cases h;exact⟨Hz.1 (by simpa using he),by omega,by omega,by omega,by omega⟩;rintro⟨h1,h2⟩;rw[bF (by simp[Hz.2 h1]),bF (by omega)]
def aBA{s t:N}{b:o}{K:N->N->N->o->H->Prop}(ae:dU u s l)(ht:Ints u t q)
  (dq:zW l q k b≠0->K ⟨none,0,0⟩ ⟨none,0,0⟩ ⟨none,0,0⟩ (zW l q k b) u)
  (bM:zW l q k b=0->∀aC ss a6 Y a2 a3 u',iI u u' aC ss a6 (e1 k.toNat ((l.take b.toNat).map (hj q))) (cR ((l.take b.toNat).map (·.id))) (wH Y a2 a3 (l.drop b.toNat))->K aC ss a6 0 u'):
  PJ s t k b u K:=
 aBN ae ht dq λh1 h2 h3 br bL aC ss a6 u' _ az=>by obtain⟨Y,a2,a3,ac⟩:=az.own;exact bM (ank.2 ⟨h1,h2,h3,br,bL⟩) aC ss a6 Y a2 a3 u' ac
def rX.nil(u:H):rX u ⟨none,0,0⟩ ⟨none,0,0⟩ ⟨none,0,0⟩ [] [] []:=
 ⟨(aD.nil (H.le.refl u) 0 3).own.cK,Ints.nil u,(aD.nil (H.le.refl u) 0 6).own.cK,λr U=>by cases U⟩
theorem anh{P:J (o×J o)}{L:J ax}{S R:J o}{aK:o}{fs:o->bN}{rest:J b1}(b8:(P.map (·.1)).Nodup)(cX:(L.map ax.bn).Perm P)(aL:jx L q)(fH:0<=aK)(ad:(S++R).Perm (P.map (·.1)))(aq:S.length<=aK.toNat)
  (ab:R≠[]->S.length=aK.toNat) (uU:Ak R) (auY:∀r∈L,fs r.id=hj q r) (U:rest.map b1.core=if R=[] then[] else[(1,0,[],[],R)]):
  Sound L q k (e1 k.toNat (S.map fs)) (cR S) rest/\((cR S).length:o)<=aK/\(((cR S).length:o)=aK∨(cR S).length=L.length):=by
 have kA:(P.map (·.1)).Perm (L.map (·.id)):=by rw[show L.map (·.id)=(L.map ax.bn).map (·.1) by rw[e4];rfl];exact(cX.map _).symm
 have atx:S.Nodup:=(hg.1 (ad.nodup_iff.2 b8)).1
 have v7:rest.flatMap (·.ids)=R/\∀r∈rest,r.core=(1,0,[],[],R)/\R≠[]:=by
  by_cases e:R=[]
  simp_all
  rw[bF e] at U;cases rest with
  |nil=>simp at U|cons r rs=>
   cases rs with
   |cons qf aKH=>simp at U|nil=>
    simp only[iw,Bz,vj,rP] at U;refine⟨?_,λcx cU=>?_⟩;have:r.ids=R:=eI (λW=>W.2.2.2.2) U;simp[this]
    grind
 refine⟨⟨DN atx,λr cU=>?_,?_,λm hm MG=>?_⟩,?_,?_⟩
 obtain⟨I,an⟩:=v7.2 r cU
 have c1:r.aC=1:=eI (λW=>W.1) I
 have c2:r.cD=0:=eI (λW=>W.2.1) I
 have fc:r.bm=[]:=eI (λW=>W.2.2.1) I
 have pM:r.hi=[]:=eI (λW=>W.2.2.2.1) I
 have qA:r.ids=R:=eI (λW=>W.2.2.2.2) I
 have ch:∀x∈R,x∈L.map (·.id):=λx M=>kA.mem_iff.1 (ad.mem_iff.1 (q1 _ M))
 refine⟨⟨aL.rows.dim,by rw[qA];exact uU,λx M=>?_,.inl ⟨c1,fc,pM,c2⟩⟩,by rw[qA];exact an,λx M=>?_⟩
 rw[qA] at M
 obtain⟨w,hw,rfl⟩:=bQ.1 (ch x M)
 exact aL.rows.id w hw
 rw[qA] at M
 obtain⟨w,hw,rfl⟩:=bQ.1 (ch x M)
 exact⟨w,hw,rfl,λh=>(by rw[c1] at h;cases h),λh=>(by rw[c1] at h;cases h)⟩
 rw[v7.1]
 exact(((ns S).append_right R).trans ad).trans kA
 refine DS ?_
 have bL:(m.map (·.id)).Perm S:=by rw[MG];exact ns S
 have gA:m.map (hj q)=(m.map (·.id)).map fs:=by rw[e4];exact zK λr fR=>(auY r (hm r fR)).symm
 grind
 rw[yi];omega
 rw[yi]
 by_cases e:R=[]
 right
 rw[e,ml] at ad
 have:=(ad.trans kA).length_eq
 simpa using this
 grind
end
namespace eu
section
variable{u ak u':H}{D:O->Prop}{b:O}{q:J o}{t:N}{K:ay->o->H->Prop}{k aK:o}
def bi(X:aU):J vB:=fw X.g
structure ei(ak u:H)(D:O->Prop)(b:O)(X:aU):Prop where
 ex:∃ah,(∀c,D c↔ah c≠none)/\In ak u ah b X/\dX X
structure kN(u:H)(D:O->Prop)(u':H)(hK:O->Prop):Prop where
 bO:∀c z,u c=some z->¬D c->u' c=some z
 grow:∀c,hK c->D c∨u c=none
def kN.mono(h:u.le u'):kN u D u' D:=⟨λc z I _=>h c z I,λ_ h=>.inl h⟩
theorem kN.trans{aR cF:H}{qu ud:O->Prop}(h:kN u D aR qu)(k:kN aR qu cF ud):kN u D cF ud where
 bO c z I ab:=k.bO c z (h.bO c z I ab) λav=>by
  rcases h.grow c av with h1|h1;exact ab h1
  grind
 grow c I:=by
  rcases k.grow c I with h1|h1;exact h.grow c h1;by_cases e:D c;exact .inl e;right;cases aN:u c with
  |none=>rfl|some z=>rw[h.bO c z aN e] at h1;cases h1
theorem kN.apart{v:H}{hK:O->Prop}(h:kN u D u' hK)(aB:v.le u)(av:∀c,D c->v c=none):v.le u'/\∀c,hK c->v c=none:=by
 refine⟨λc z I=>h.bO c z (aB c z I) λe=>?_,λc I=>?_⟩
 grind
 rcases h.grow c I with h1|h1;exact av c h1;exact aB.none h1
def aa2{ah:O->aA bB}{T:aU}(h:In ak u ah b T)(aV:dX T):ei ak u (λc=>ah c≠none) b T:=⟨ah,λ_=>Bt,h,aV⟩
theorem anP{ah aY:O->aA bB}(fe:∀c,D c↔ah c≠none)(h:gM u ah u' aY):kN u D u' (λc=>aY c≠none) where
 bO c z I ab:=h.bO c z I (by
  grind)
 grow c I:=(h.grow c I).imp (fe c).2 λh=>h
def ei.base{X:aU}(h:ei ak u D b X):ak.le u/\(∀c,D c->ak c=none)/\∀c,D c->u c≠none:=by obtain⟨ah,h1,h2,_⟩:=h.ex;exact⟨h2.le,λc I=>h2.out c ((h1 c).1 I),λc I=>h2.known c ((h1 c).1 I)⟩
def ei.same{X:aU}(h:ei ak u D b X)(hu:∀c z,u c=some z->D c->u' c=some z)(hle:ak.le u'):ei ak u' D b X:=by obtain⟨ah,h1,h2,h3⟩:=h.ex;exact⟨ah,h1,h2.same (λc z I ab=>hu c z I ((h1 c).2 ab)) hle,h3⟩
def ei.mono{X:aU}(h:ei ak u D b X)(hu:u.le u'):ei ak u' D b X:=h.same (λc z I _=>hu c z I) (h.base.1.trans hu)
def Uh{X:aU}{K:o->H->Prop}(h:ei ak u D b X)(au:K (bi X).length u):Vh (some ⟨b,0,none⟩) u K:=by
 obtain⟨ah,_,h2,_⟩:=h.ex;refine amE h2.aJ ?_;have:(bi X).length=X.g.length:=by simp[bi,fw]
 rw[<-this];exact au
def FP(X:aU)(id:o):(id∈X.g.map (·.1))↔id∈(bi X).map (·.1):=by unfold bi;rw[vn]
theorem Ui{X:aU}{id:o}(h:ei ak u D b X)(jS:lO ak)(ht:Ints u t q)(fk:∀g,t.al=some g->¬D g)
  (dq:eM id q X.dim (decide (id∈(bi X).map (·.1))) (bi X).length≠0->K ao (eM id q X.dim (decide (id∈(bi X).map (·.1))) (bi X).length) u)
  (bM:eM id q X.dim (decide (id∈(bi X).map (·.1))) (bi X).length=0->∀u' hK gE,ei ak u' hK b gE->kN u D u' hK->(bi gE).Perm ((id,q)::(bi X).filter λx=>x.1 !=id)->gE.dim=X.dim->gE.cm=X.cm->K (decide (id∉(bi X).map (·.1))) 0 u'):
  PO (some ⟨b,0,none⟩) id t u K:=by
 obtain⟨ah,h1,h2,h3⟩:=h.ex
 have aq:(bi X).length=X.g.length:=by simp[bi,fw]
 have av:decide (id∈X.g.map (·.1))=decide (id∈(bi X).map (·.1)):=BD.2 (FP X id)
 have CS:decide (id∉X.g.map (·.1))=decide (id∉(bi X).map (·.1)):=BD.2 (not_congr (FP X id))
 refine amF h2 h3 jS ht (λg Z=>?_) (λan=>?_) λhe u' aY bD U=>?_
 grind
 rw[av,<-aq] at an ⊢;exact dq an
 rw[av,<-aq] at he
 rw[CS]
 exact bM he u' _ bD (aa2 U.is U.ok) (anP h1 U.eJ) U.rows U.dim U.cm
def ade{X:aU}{id:o}(h:ei ak u D b X)(dR:id∉(bi X).map (·.1)->∀u',u.le u'->K ao 0 u')
  (jD:id∈(bi X).map (·.1)->∀u' hK gE,ei ak u' hK b gE->kN u D u' hK->bi gE=(bi X).filter (λx=>x.1 !=id)->gE.dim=X.dim->gE.cm=X.cm->K ai 0 u'):PN (some ⟨b,0,none⟩) id u K:=by
 obtain⟨ah,h1,h2,h3⟩:=h.ex
 refine Ug h2 h3 (λag=>dR λhm=>CJ.1 ag ((FP X id).2 hm)) λn ag u' aY bD U=>jD ((FP X id).1 (bQ.2 ⟨_,iC ag,rfl⟩)) u' _ bD (aa2 U.is U.ok) (anP h1 U.eJ) U.rows U.dim U.cm
def amN{X:aU}{K:N->H->Prop}(h:ei ak u D b X)(au:∀s ls u',re u u' s ls->(ls.map ax.bn).Perm (bi X)->(ls.Pairwise λa b=>a.id<=b.id)->K s u'):Vi (some ⟨b,0,none⟩) u K:=by obtain⟨ah,_,h2,h3⟩:=h.ex;exact amG h2 h3 au
def adb{s:N}{l:J ax}{dim cm seed:o}{K:aA a8->o->H->Prop}(ae:dU u s l)(jS:lO u)(M8:cE seed)
  (dq:w5 l dim cm≠0->K none (w5 l dim cm) u) (bM:w5 l dim cm=0->∀b D X u',ei u u' D b X->(bi X).Perm (l.map ax.bn)->X.dim=dim->X.cm=cm->K (some ⟨b,0,none⟩) 0 u'):PM s dim cm seed u K:=
 amD ae jS M8 dq λhe b _ T u' U=>bM he b _ T u' (aa2 U.is U.ok) U.rows U.dim U.cm
def iT(X:aU)(q:J o)(k aK:o):J bN:=e1 k.toNat ((pA X.g q X.entry aK.toNat).1.map (cV X.g q))
def gv(X:aU)(q:J o)(aK:o):J o:=cR (pA X.g q X.entry aK.toNat).1
def jF(X:aU)(q:J o)(aK:o):J (o×o×J o×J o×J o):=if(pA X.g q X.entry aK.toNat).2=[] then[] else[(1,0,[],[],(pA X.g q X.entry aK.toNat).2)]
def alN(kc:N)(X:aU)(q:J o)(aK:o):(OM kc (pA X.g q X.entry aK.toNat).2).map b1.core=jF X q aK:=by unfold OM jF;split<;>rfl
def Uj{X:aU}{K:N->N->N->o->H->Prop}(h:ei ak u D b X)(ht:Ints u t q)
  (dq:h7 q X.dim k aK≠0->∀u',u.le u'->K ⟨none,0,0⟩ ⟨none,0,0⟩ ⟨none,0,0⟩ (h7 q X.dim k aK) u')
  (bM:h7 q X.dim k aK=0->∀aC ss a6 rest u',iI u u' aC ss a6 (iT X q k aK) (gv X q aK) rest->rest.map b1.core=jF X q aK->K aC ss a6 0 u'):Vj (some ⟨b,0,none⟩) t k aK u K:=by
 obtain⟨ah,_,h2,h3⟩:=h.ex
 exact amH h2 h3 ht dq λhe aC ss a6 kc u' az=>bM he aC ss a6 _ u' az (alN kc X q aK)
def akf{X:aU}(h:ei ak u D b X)(he:h7 q X.dim k aK=0){L:J ax}(cX:(L.map ax.bn).Perm (bi X))(aL:jx L q){rest:J b1}(U:rest.map b1.core=jF X q aK):
  Sound L q k (iT X q k aK) (gv X q aK) rest/\((gv X q aK).length:o)<=aK/\(((gv X q aK).length:o)=aK∨(gv X q aK).length=L.length):=by
 obtain⟨ah,_,h2,h3⟩:=h.ex
 obtain⟨aB,cB,cW,fH,e7⟩:=Cr.1 he
 have b8:=h2.aJ.nodup
 obtain⟨ad,aq,ab,uU⟩:=anl h3 b8 q aK.toNat
 rw[<-vn] at ad
 refine anh (by rw[show bi X=fw X.g from rfl,vn];exact b8) cX aL fH ad aq ab uU (λr ZY=>?_) U
 have bL:r.bn∈bi X:=cX.mem_iff.1 (bQ.2 ⟨r,ZY,rfl⟩)
 obtain⟨x,M,e⟩:=bQ.1 bL
 have aT:x.1=r.id:=eI vl e
 have aN:x.2.v=r.v:=eI wD e
 have gA:eS X.g r.id=some x.2:=AE b8 (by rw[<-aT];exact M)
 unfold cV hj
 rw[gA]
 simp only[aN]
theorem NE{X:aU}(h:ei ak u D b X)(he:h7 q X.dim k aK=0){L:J ax}(cX:(L.map ax.bn).Perm (bi X))(aL:jx L q){rest:J b1}(U:rest.map b1.core=jF X q aK):
  Sound L q k (iT X q k aK) (gv X q aK) rest/\((gv X q aK).length:o)<=aK/\(((gv X q aK).length:o)=aK∨(gv X q aK).length=L.length∨sO q k (iT X q k aK) rest):=by
 obtain⟨s1,s2,k0⟩:=akf h he cX aL U
 grind
def ei.mI{v:H}{X:aU}(h:ei ak u D b X)(aB:v.le ak):ei v u D b X:=by
 obtain⟨ah,h1,h2,h3⟩:=h.ex;exact⟨ah,h1,⟨h2.aJ,aB.trans h2.le,λc I=>by
  cases M:v c with
  |none=>rfl|some z=>have:=aB _ _ M;rw[h2.out c I] at this;exact(nomatch this),h2.known⟩,h3⟩
theorem aB0{ah:O->aA bB}{T:aU}{id:o}(h:In ak u ah b T)(aV:dX T)(jS:lO ak)(A7:Ints ak t q)
  (dq:eM id q T.dim (decide (id∈T.g.map (·.1))) T.g.length≠0->K ao (eM id q T.dim (decide (id∈T.g.map (·.1))) T.g.length) u)
  (bM:eM id q T.dim (decide (id∈T.g.map (·.1))) T.g.length=0->∀u' aY bD,ug ak u ah b T id q u' aY bD->K (decide (id∉T.g.map (·.1))) 0 u'):PO (some ⟨b,0,none⟩) id t u K:=by
 have ht:=A7.mono h.le
 obtain⟨bA,_,_,fc,_⟩:=k1 h.aJ
 apply aof
 refine⟨λe=>(by cases e),λ_=>⟨_,rfl,_,fc,?_⟩⟩
 refine tU wm h.aJ.map (ct:=.ptr) ((eS T.g id).map λn=>(⟨n.p,0,none⟩:a8)) (by rw[CI];cases eS T.g id<;>rfl) ?_
 have iS:(gm (jG T.g) id).isSome=decide (id∈T.g.map (·.1)):=by
  rw[CI,TQ];cases e:eS T.g id with
  |none=>rw[q0 (CJ.1 e)];rfl|some n=>rw[jf (bQ.2 ⟨_,iC e,rfl⟩)];rfl
 rw[iS]
 refine⟨_,rfl,_,rfl,_,bA,_,fc,wK wm h.aJ.map ⟨H.le.refl u,Kc ht ?_⟩⟩
 rw[Ob]
 refine⟨λan=>dq an,λhe=>?_⟩
 have bM:=bM he
 have kA:¬(id<1∨1000000000<id)/\gx q T.dim=0/\¬(decide (id∈T.g.map (·.1))=ao/\512<=(T.g.length:o)):=by
  unfold eM at he;by_cases h1:id<1∨1000000000<id;omega
  grind
 obtain⟨d1,d2,d3,d4⟩:=n1 kA.2.1
 have lay:∀(aR:H) (c5:O->aA bB) (ba:aU),In ak aR c5 b ba->gM u ah aR c5->dX ba->fw ba.g=(fw T.g).filter (λx=>x.1 !=id)->ba.dim=T.dim->ba.cm=T.cm->
   o3 t aR λdg gL=>H.le aR gL/\Hf (some ⟨b,0,none⟩) id dg gL λyl=>K (!decide (decide (id∈T.g.map (·.1))=ai)) 0 yl:=by
  intro aR c5 ba h1 nL tc uT uA hX
  have qM:Ints aR t q:=A7.mono h1.le
  refine sI qM (by have:=qM.len;omega) λdg gL gg _=>⟨gg.le,?_⟩
  have xd:=h1.mono gg.le
  obtain⟨iq,h2,xJ,iQ⟩:=xd.adK (s:=dg) (λg Z=>⟨h1.fresh (gg.fresh g Z),h1.le.none (gg.fresh g Z),vc gg Z⟩) id
  have xy:id∉ba.g.map (·.1):=λhm=>by
   rw[<-vn,uT] at hm
   grind
  have hlen:ba.g.length<=512:=by
   have aT:ba.g.length=((fw T.g).filter λx=>x.1 !=id).length:=by rw[<-uT];simp[fw]
   by_cases ch:id∈T.g.map (·.1);have:((fw T.g).filter λx=>x.1 !=id).length<(fw T.g).length:=by rw[OD];rw[<-vn] at ch;obtain⟨x,M,e⟩:=bQ.1 ch;exact⟨x,M,by simp[e]⟩
   have bL:(fw T.g).length=T.g.length:=by simp[fw]
   have:=aV.k.ok.small;omega;have br:¬512<=(T.g.length:o):=λbL=>kA.2.2 ⟨q0 ch,bL⟩;have bL:(fw T.g).length=T.g.length:=by simp[fw]
   grind
  refine ada h2 tc jS xy (by omega) gg.ints xJ ⟨by rw[uA];exact d3,d4⟩ hlen λyl pc Eg h3 nM Yk Fw Ip AW=>?_
  have aa:(!decide (decide (id∈T.g.map (·.1))=ai))=decide (id∉T.g.map (·.1)):=by grind
  rw[aa]
  refine bM yl pc Eg ⟨h3,?_,Yk,?_,Ip.trans uA,AW.trans hX⟩
  have gone:∀c,aR c=none->ah c≠none∨u c=none:=λc I=>by
    cases e:ah c with
    |some x=>exact .inl (by simp)|none=>
     cases aN:u c with
     |none=>exact .inr rfl|some z=>rw[nL.bO c z aN e] at I;cases I
  refine⟨λc z I ab=>?_,λc I=>?_⟩
  have bL:=nL.bO c z I ab
  have e:dg.al≠some c:=λe=>by have:=gg.fresh c e;grind
  exact nM.bO c z (gg.le c z bL) (by rw[iQ c e];exact nL.none I ab)
  rcases nM.grow c I with bL|bL
  by_cases e:dg.al=some c
  exact gone c (gg.fresh c e)
  rw[iQ c e] at bL;exact nL.grow c bL
  exact gone c (gg.le.none bL)
  grind
 refine Ug h aV (λdR aR gB=>?_) λn ag aR c5 ba kD=>?_
 refine lay aR ah T (h.mono gB) (gM.mono gB) aV ?_ rfl rfl
 refine(qe.2 λx M=>?_).symm
 have:x.1≠id:=λe=>CJ.1 dR (by rw[<-vn];grind)
 simpa using this
 exact lay aR c5 ba kD.is kD.eJ kD.ok kD.rows kD.dim kD.cm
end
end eu
section
variable{u ak:H}{D:O->Prop}
theorem UU{bB:Type}{ah:O->aA bB}{t:N}{q:J o}(fe:∀c,D c↔ah c≠none)(ht:Ints u t q)(fk:(∀g,t.al=some g->¬D g)∨Ints ak t q)(aR:H)(c5:O->aA bB)(hle:ak.le aR)(hk:hM u ah aR c5):Ints aR t q:=by
 rcases fk with fk|A7;exact bw.else ht λg z Z ac=>hk.bO g z ac (by
   grind)
 exact A7.mono hle
def eu.anO{u':H}{ah aY:O->aA eu.bB}(h:eu.gM u ah u' aY):hM u ah u' aY:=⟨h.bO,h.grow⟩
theorem cO.DO{b:O}{X:cO}{id:o}{t:N}{q:J o}{K:ay->o->H->Prop}(h:X.ei ak u D b)(jk:X.eW<=2700)(jS:eu.lO ak)(ht:Ints u t q)(fk:(∀g,t.al=some g->¬D g)∨Ints ak t q)
  (dq:eM id q X.dim (decide (id∈X.rows.map (·.1))) X.rows.length≠0->K ao (eM id q X.dim (decide (id∈X.rows.map (·.1))) X.rows.length) u)
  (bM:eM id q X.dim (decide (id∈X.rows.map (·.1))) X.rows.length=0->∀u' hK (gE:cO),gE.ei ak u' hK b->kN u D u' hK->gE.rows.Perm ((id,q)::X.rows.filter λx=>x.1 !=id)->gE.dim=X.dim->gE.fq=X.fq->gE.eW<=X.eW+1->K (decide (id∉X.rows.map (·.1))) 0 u'):
  nv aH (X.iface b) "Put" #[.agg #[.int .i64 id,.slice t.a t.n t.c]] [.one .bool,.one (.int .i64)] u K:=by
 cases X with
 |oo X=>obtain⟨ah,h1,h2,h3⟩:=e6.ex h;exact lu (f:=253) (by kernel_rfl) Pq (by kernel_rfl) (k6.DO h2 h3 (jW jk (by decide)) ht (UU h1 ht fk) dq λhe u' aY bD U=>bM he u' _ (.oo bD) (tx U.is U.ok) (zY h1 U.eJ) U.rows U.dim rfl U.eW)
 |aX X=>obtain⟨ah,h1,h2,h3⟩:=e6.ex h;exact lu (f:=273) (by kernel_rfl) Ps (by kernel_rfl) (lr.DO h2 h3 (jW jk (by decide)) ht (UU h1 ht fk) dq λhe u' aY bD U=>bM he u' _ (.aX bD) (tx U.is U.ok) (zY h1 U.eJ) U.rows U.dim rfl U.eW)
 |nO X=>obtain⟨ah,h1,h2,h3⟩:=e6.ex h;exact lu (f:=281) (by kernel_rfl) Pp (by kernel_rfl) (kd.DO h2 h3 ht (UU h1 ht fk) dq λhe u' aY bD U=>bM he u' _ (.nO bD) (tx U.is U.ok) (zY h1 U.eJ) U.rows U.dim rfl (pu _))
 |ag X=>
  obtain⟨ah,h1,h2,h3⟩:=e6.ex h;have aq:(cO.ag X).rows.length=X.g.length:=by simp[cO.rows,eu.fw]
  have hm:(id∈X.g.map (·.1))↔id∈(cO.ag X).rows.map (·.1):=eu.FP X id;rw[aq,<-BD.2 hm] at dq bM;rw[<-BD.2 (not_congr hm)] at bM;refine lu (f:=289) (by kernel_rfl) Po (by kernel_rfl) ?_;have fin:=λhe u' aY bD (U:eu.ug ak u ah b X id q u' aY bD)=>bM he u' _ (.ag bD) (tx (eu.toG U.is) U.ok) (zY h1 (eu.anO U.eJ)) U.rows U.dim rfl (pu _);rcases fk with fk|A7;refine eu.amF (eu.F5 h2) h3 jS ht (λg Z=>?_) dq fin
  grind
  exact eu.aB0 (eu.F5 h2) h3 jS A7 dq fin
 |c3 X=>
  obtain⟨ah,h1,h2,h3⟩:=e6.ex h;have hk:(cO.c3 X).rows.map (·.1)=X.w.map (·.1):=hq.nQ X;have aq:(cO.c3 X).rows.length=X.w.length:=by simp[cO.rows,hq.bi]
  rw[hk,aq] at dq bM;have fin:=λhe u' aY bD (U:hq.ug ak u ah b X id q u' aY bD)=>bM he u' _ (.c3 bD) (tx U.is U.ok) (zY h1 U.eJ) U.rows U.dim (by rw[cO.GY,cO.GY,U.aqD]) (pu _);cases e:X.cd with
  |none=>rw[cO.IZ e];exact lu (f:=307) (by kernel_rfl) Pr (by kernel_rfl) (hq.amX h2 h3 ht dq λhe u' aY bD U _=>fin he u' aY bD U)|some c=>rw[cO.IY e];exact lu (f:=311) (by kernel_rfl) an3 (by kernel_rfl) (hq.aBH h2 h3 e ht (UU h1 ht fk) dq fin)
def cO.wL{b:O}{X:cO}{id:o}{K:ay->o->H->Prop}(h:X.ei ak u D b)(jk:X.eW<=2700)(dR:id∉X.rows.map (·.1)->∀u',u.le u'->K ao 0 u')
  (jD:id∈X.rows.map (·.1)->∀u' hK (gE:cO),gE.ei ak u' hK b->kN u D u' hK->gE.rows=X.rows.filter (λx=>x.1 !=id)->gE.dim=X.dim->gE.fq=X.fq->gE.eW<=X.eW->K ai 0 u'):
  nv aH (X.iface b) "Delete" #[.int .i64 id] [.one .bool,.one (.int .i64)] u K:=by
 cases X with
 |oo X=>obtain⟨ah,h1,h2,h3⟩:=e6.ex h;have hk:(cO.oo X).rows.map (·.1)=X.w.map (·.1):=k6.nQ X;rw[hk] at dR jD;exact lu (f:=251) (by kernel_rfl) Pq (by kernel_rfl) (k6.wL h2 h3 (jW jk (by decide)) dR λag u' aY bD U=>jD ag u' _ (.oo bD) (tx U.is U.ok) (zY h1 U.eJ) U.rows U.dim rfl (JT U.eW))
 |aX X=>obtain⟨ah,h1,h2,h3⟩:=e6.ex h;have hk:(cO.aX X).rows.map (·.1)=X.w.map (·.1):=lr.nQ X;rw[hk] at dR jD;exact lu (f:=271) (by kernel_rfl) Ps (by kernel_rfl) (lr.wL h2 h3 (jW jk (by decide)) dR λag u' aY bD U=>jD ag u' _ (.aX bD) (tx U.is U.ok) (zY h1 U.eJ) U.rows U.dim rfl (JT U.eW))
 |nO X=>
  obtain⟨ah,h1,h2,h3⟩:=e6.ex h;have hw:id∈X.w.map (·.1)↔id∈(cO.nO X).rows.map (·.1):=by rw[show(cO.nO X).rows=kd.bi X from rfl,kd.aa1];exact h3.ad8
  exact lu (f:=279) (by kernel_rfl) Pp (by kernel_rfl) (kd.wL h2 h3 (λag=>dR λhm=>ag (hw.2 hm)) λag u' aY bD U=>jD (hw.1 ag) u' _ (.nO bD) (tx U.is U.ok) (zY h1 U.eJ) U.rows U.dim rfl (cw _))
 |ag X=>obtain⟨ah,h1,h2,h3⟩:=e6.ex h;exact lu (f:=287) (by kernel_rfl) Po (by kernel_rfl) (eu.Ug (eu.F5 h2) h3 (λag=>dR λhm=>eu.CJ.1 ag ((eu.FP X id).2 hm)) λn ag u' aY bD U=>jD ((eu.FP X id).1 (bQ.2 ⟨_,eu.iC ag,rfl⟩)) u' _ (.ag bD) (tx (eu.toG U.is) U.ok) (zY h1 (eu.anO U.eJ)) U.rows U.dim rfl (cw _))
 |c3 X=>
  obtain⟨ah,h1,h2,h3⟩:=e6.ex h;have hk:(cO.c3 X).rows.map (·.1)=X.w.map (·.1):=hq.nQ X;rw[hk] at dR jD;have:=hq.wL (K:=K) h2 h3 (λag=>dR ag u (H.le.refl u)) λag u' bD U=>jD ag u' _ (.c3 bD) (tx U.is U.ok) (zY h1 U.eJ) U.rows U.dim (by rw[cO.GY,cO.GY,U.cd]) (cw _);cases e:X.cd with
  |some c=>rw[cO.IY e];exact WZ (f:=305) (λw=>by kernel_rfl) (by kernel_rfl) this|none=>rw[cO.IZ e];exact lu (f:=305) (by kernel_rfl) Pr (by kernel_rfl) this
end
namespace hq
section
open lr (ec)
def Af(k:uc)(c:O):Prop:=c=k.b∨k.gH.al=some c∨∃y∈k.eV,y.1.al=some c∨∃W∈y.2,W.1.al=some c
def D9.fresh{u u':H}{d:o}{k:uc}(h:D9 u u' d k)(c:O)(I:Af k c):u c=none/\u' c≠none:=by rcases I with rfl|I|⟨y,aj,I|⟨W,aE,I⟩⟩;exact⟨h.new,by rw[h.cell];simp⟩;exact⟨h.own.fresh c I,dH h.own I⟩;exact⟨(h.each y aj).own.fresh c I,dH (h.each y aj).own I⟩;exact⟨((h.each y aj).inner W aE).fresh c I,dH ((h.each y aj).inner W aE) I⟩
def D9.at{u u' v:H}{d:o}{k:uc}{ah:O->aA bB}(h:D9 u u' d k)(aB:∀c z,u' c=some z->Af k c->v c=some z)(ab:∀c,Af k c->ah c=some .code):sP ah v d k where
 cell:=aB _ _ h.cell (.inl rfl)
 QO:=ab _ (.inl rfl)
 bx:=bw.else h.own.own.cK λg z Z ac=>aB g z ac (.inr (.inl Z))
 ie g Z:=ab g (.inr (.inl Z))
 um c I:=⟨bw.else (h.each c I).own.own.cK λg z Z ac=>aB g z ac (.inr (.inr ⟨c,I,.inl Z⟩)),λW aE=>bw.else ((h.each c I).inner W aE).ints λg z Z ac=>aB g z ac (.inr (.inr ⟨c,I,.inr ⟨W,aE,Z⟩⟩))⟩
 dQ c I:=⟨λg Z=>ab g (.inr (.inr ⟨c,I,.inl Z⟩)),λW aE g Z=>ab g (.inr (.inr ⟨c,I,.inr ⟨W,aE,Z⟩⟩))⟩
def start{aR v:H}{b m:O}{dim:o}{cd:aA pE}(hle:aR.le v)(aa:v b=some (aU.obj ⟨dim,m,[],cd⟩))(hm:fE v m ([]:J (o×ap)))(ahJ:b≠m)(h1:aR b=none)(h2:aR m=none)(av:1<=dim/\dim<=64)
  (I:∀c,cd=some c->c.sL=[]/\fE v c.hS ([]:J (o×ap))/\c.hS≠m/\c.hS≠b/\aR c.hS=none/\∀k,c.co=some k->DZ dim k.eV/\∃u u',aR.le u/\D9 u u' dim k/\(∀x z,u' x=some z->Af k x->v x=some z)/\u b≠none/\u m≠none/\u c.hS≠none):
  ∃D,e6 ee dX aR v D b ⟨dim,m,[],cd⟩/\∀c,D c->c=b∨c=m∨(∃x,cd=some x/\c=x.hS)∨∃x k,cd=some x/\x.co=some k/\Af k c:=by
 obtain⟨ah,ly⟩:∃ah:O->aA bB,ah=λc=>open Classical in if c=b then some .obj else if c=m∨(∃x,cd=some x/\c=x.hS) then some .map else if ∃x k,cd=some x/\x.co=some k/\Af k c then some .code else none:=⟨_,rfl⟩
 have t1:ah b=some .obj:=by rw[ly];exact b3 rfl
 have t2:∀c,c≠b->(c=m∨∃x,cd=some x/\c=x.hS)->ah c=some .map:=λc h bZ=>by rw[ly];show(if c=b then _ else _)=_;rw[bF h,b3 bZ]
 have t3:∀x k c,cd=some x->x.co=some k->Af k c->ah c=some .code:=λx k c M hk kx=>by obtain⟨_,_,_,_,_,q⟩:=I x M;obtain⟨_,u,u',di,dv,ef,hl,rJ,Ge⟩:=q k hk;have ag:=(dv.fresh c kx).1;rw[ly];show(if c=b then _ else _)=_;rw[bF (λe=>hl (by rw[<-e];exact ag)),bF (λe=>?_),b3 ⟨x,k,M,hk,kx⟩];rcases e with e|⟨k3,gn,e⟩;exact rJ (by rw[<-e];exact ag);rw[M] at gn;obtain rfl:=eh gn;exact Ge (by rw[<-e];exact ag)
 have t4:∀c,ah c≠none->c=b∨c=m∨(∃x,cd=some x/\c=x.hS)∨∃x k,cd=some x/\x.co=some k/\Af k c:=λc an=>by by_cases aT:c=b;exact .inl aT;by_cases aN:c=m∨∃x,cd=some x/\c=x.hS;exact aN.elim (λe=>.inr (.inl e)) λe=>.inr (.inr (.inl e));by_cases dG:∃x k,cd=some x/\x.co=some k/\Af k c;exact .inr (.inr (.inr dG));exact bf (by rw[ly];show(if c=b then _ else _)=_;rw[bF aT,bF aN,bF dG]) an
 refine⟨λc=>ah c≠none,⟨ah,λ_=>Bt,⟨⟨aa,t1,hm,t2 m (e3 ahJ) (.inl rfl),λe he=>(by cases he),λc kQ=>?_⟩,hle,λc an=>?_,λc an=>?_⟩,⟨av,λe he=>(by cases he),λe he=>(by cases he),pu _,λc k kQ hk=>?_⟩⟩,t4⟩
 have kQ:cd=some c:=kQ
 obtain⟨Bs,di,dv,ef,hl,rJ⟩:=I c kQ
 refine⟨by rw[Bs];exact di,t2 _ ef (.inr ⟨c,kQ,rfl⟩),dv,λe he=>(by rw[Bs] at he;cases he),λk hk=>?_⟩
 obtain⟨_,u,u',gU,du,nU,_⟩:=rJ k hk
 exact du.at nU λx M=>t3 c k x kQ hk M
 rcases t4 c an with rfl|rfl|⟨x,M,rfl⟩|⟨x,k,M,hk,kx⟩
 exact h1
 exact h2
 exact(I x M).2.2.2.2.1
 obtain⟨_,u,u',gU,du,nU,_⟩:=(I x M).2.2.2.2.2 k hk
 exact gU.none (du.fresh c kx).1
 rcases t4 c an with rfl|rfl|⟨x,M,rfl⟩|⟨x,k,M,hk,kx⟩
 rw[aa];simp
 obtain⟨es,cl,e,_⟩:=hm
 rw[e];simp
 obtain⟨es,cl,e,_⟩:=(I x M).2.1
 rw[e];simp
 obtain⟨_,u,u',gU,du,nU,_⟩:=(I x M).2.2.2.2.2 k hk
 obtain⟨z,ac⟩:=fp.1 (du.fresh c kx).2
 rw[nU c z ac kx];simp
 exact((I c kQ).2.2.2.2.2 k hk).1
end
end hq
section
variable{u:H}{n:O}{l L:J ax}{K:o->H->Prop}{f:H->Prop}{a b dim:o}{q:J o}{rest:J b1}
def mW(k:o):aA (o×o×o):=if k=1 then some (0,0,0) else if k=2∨k=3∨k=4 then some (64,0,0) else if k=5 then some (64,8,16) else if k=6 then some (16,0,0) else none
abbrev qa(n m:o):Prop:=n<=m/\(if m<1 then m else 1)<=n
def rT(k s p c:o):o:=match mW k with
 |none=>120|some x=>if qa s x.1/\qa p x.2.1/\qa c x.2.2 then 0 else 121
def aBa{c x:o}(bK:0<=x)(dr:x<3)(h0:x=0->K a u)(h1:x=1->K b u)(h2:x=2->K c u):c7 aH (Instr.index 164 (.agg #[.int .i64 a,.int .i64 b,.int .i64 c]) (.int .i64 x)) [.one (.int .i64)] u K:=by
 have h:∀(y:o),(∀w:ci,(Instr.index 164 (.agg #[.int .i64 a,.int .i64 b,.int .i64 c]) (.int .i64 x)).run aH w=.ok (.int .i64 y) w)->K y u->c7 aH (Instr.index 164 (.agg #[.int .i64 a,.int .i64 b,.int .i64 c]) (.int .i64 x)) [.one (.int .i64)] u K:=λy U au=>c7.Dq (c:=.int .i64) y (λw _=>U w) au;obtain rfl|rfl|rfl:x=0∨x=1∨x=2:=by omega
 exact h a (λw=>by kernel_rfl) (h0 rfl);exact h b (λw=>by kernel_rfl) (h1 rfl);exact h c (λw=>by kernel_rfl) (h2 rfl)
def adx{c y:o}(h:u n=some (.cells #[.int .i64 a,.int .i64 b,.int .i64 c] 164 (0,0)))(ab:f (u.ins n (.cells #[.int .i64 y,.int .i64 b,.int .i64 c] 164 (0,0)))):H.aM u (er (cp n 0 none) 0) [.int .i64 y] f:=
 ⟨_,_,h,rfl,by simp[ib],by simp[cI],ab⟩
def aDf{c x y W:o}(h:u n=some (.cells #[.int .i64 a,.int .i64 b,.int .i64 c] 164 (0,0)))(ab:f (u.ins n (.cells #[.int .i64 x,.int .i64 y,.int .i64 W] 164 (0,0)))):H.aM u (cp n 0 none) [.int .i64 x,.int .i64 y,.int .i64 W] f:=
 ⟨_,_,h,rfl,by simp,by simp[cI],by
  have e:wr #[cN .i64 a,.int .i64 b,.int .i64 c] 0 [.int .i64 x,.int .i64 y,.int .i64 W]=#[.int .i64 x,.int .i64 y,.int .i64 W]:=by simp[wr]
  rw[e];exact ab⟩
theorem aBL{k s p c:o}(h:∀u',u.le u'->K (rT k s p c) u'):Vc k s p c u K:=by
 apply aEE;intro n0 fJ;refine lZ (zs:=[.int .i64 0,.int .i64 0,.int .i64 0]) rfl (by simp[cI]) ?_;obtain⟨aR,gB⟩:∃aR,aR=u.ins n0 (.cells [cN .i64 64,.int .i64 0,.int .i64 0].toArray 164 (0,0)):=⟨_,rfl⟩;rw[<-gB];have d0:aR n0=some (.cells #[.int .i64 64,.int .i64 0,.int .i64 0] 164 (0,0)):=by rw[gB];exact bh _ _ _
 have dN:u.le aR:=by rw[gB];exact bX _ fJ
 have S3:∀z,u.le (aR.ins n0 z):=λz c x I=>by rw[bz _ _ (λe=>by grind)];exact dN c x I
 intro ny h2;have fin:∀(a b d:o) (w:H),u.le w->w n0=some (.cells #[.int .i64 a,.int .i64 b,.int .i64 d] 164 (0,0))->mW k=some (a,b,d)->∀y,ny y w:=by intro a b d w hw I aa y;have key:∀W,rT k s p c=W->K W w:=λW e=>e▸h w hw;have bad:¬(qa s a/\qa p b/\qa c d)->K 121 w:=λag=>key 121 (by unfold rT;rw[aa];exact bF ag);apply h2;refine⟨λ_ x v=>v=w/\0<=x/\x<=3/\(0<x->qa s a)/\(1<x->qa p b)/\(2<x->qa c d),λ_ x _=>(3-x).toNat,⟨rfl,by omega,by omega,λe=>bf e (by omega),λe=>bf e (by omega),λe=>bf e (by omega)⟩,?_⟩;rintro W x v ⟨rfl,bK,dr,g0,g1,g2⟩;refine⟨λM=>aBa bK M (λe=>?_) (λe=>?_) (λe=>?_),λM=>key 0 (by unfold rT;grind)⟩;subst e;refine⟨by decide,⟨by omega,by omega⟩,a,aZ I 0,λe=>bad λhk=>by have:=hk.1.1;omega,λe=>⟨by decide,⟨by omega,by omega⟩,a,aZ I 0,λaN=>bad λhk=>bf hk.1.2 (by omega),λaN=>⟨⟨by omega,by omega⟩,⟨rfl,by omega,by omega,λ_=>⟨by omega,by omega⟩,λe=>bf e (by omega),λe=>bf e (by omega)⟩,by dsimp only;omega⟩⟩⟩;subst e;refine⟨by decide,⟨by omega,by omega⟩,b,aZ I 1,λe=>bad λhk=>by have:=hk.2.1.1;omega,λe=>⟨by decide,⟨by omega,by omega⟩,b,aZ I 1,λaN=>bad λhk=>bf hk.2.1.2 (by omega),λaN=>⟨⟨by omega,by omega⟩,⟨rfl,by omega,by omega,λ_=>g0 (by omega),λ_=>⟨by omega,by omega⟩,λe=>bf e (by omega)⟩,by dsimp only;omega⟩⟩⟩;subst e;refine⟨by decide,⟨by omega,by omega⟩,d,aZ I 2,λe=>bad λhk=>by have:=hk.2.2.1;omega,λe=>⟨by decide,⟨by omega,by omega⟩,d,aZ I 2,λaN=>bad λhk=>bf hk.2.2.2 (by omega),λaN=>⟨⟨by omega,by omega⟩,⟨rfl,by omega,by omega,λ_=>g0 (by omega),λ_=>g1 (by omega),λ_=>⟨by omega,by omega⟩⟩,by dsimp only;omega⟩⟩⟩
 have e7:k=1->mW k=some (0,0,0):=λe=>by unfold mW;rw[b3 e]
 have fy:k=2∨k=3∨k=4->mW k=some (64,0,0):=λe=>by unfold mW;grind
 refine⟨λe=>⟨by decide,⟨by omega,by omega⟩,adx d0 (fin 0 0 0 _ (S3 _) (bh _ _ _) (e7 e) _)⟩,λaT KS LB=>?_⟩;have go:∀c0:ay,(c0=ai↔(k=2∨k=3))->KS c0 aR:=λc0 nG=>LB _ _ ⟨λe=>fin 64 0 0 _ dN d0 (fy (by have:=nG.1 e;omega)) _,λe=>?_⟩;exact⟨λe=>go ai ⟨λ_=>.inl e,λ_=>rfl⟩,λe=>go _ ⟨λh3=>.inr (BC h3),λh3=>jf (by omega)⟩⟩;have ag:¬(k=2∨k=3):=λh3=>by grind
 refine⟨λgz=>⟨by decide,⟨by omega,by omega⟩,adx d0 (fin 64 0 0 _ (S3 _) (bh _ _ _) (fy (by omega)) _)⟩,λgz=>⟨λgI=>aDf d0 (fin 64 8 16 _ (S3 _) (bh _ _ _) ?_ _),λgI=>⟨λnE=>⟨by decide,⟨by omega,by omega⟩,adx d0 (fin 16 0 0 _ (S3 _) (bh _ _ _) ?_ _)⟩,λnE=>?_⟩⟩⟩;unfold mW;grind;unfold mW;grind;have:rT k s p c=120:=by unfold rT mW;grind
 exact this▸h aR dN
structure aU where
 k:o
 s:o
 p:o
 c:o
 dx:O
 X:cO
abbrev sW(k s p c:o)(v:ap):Obj:=.cells #[.int .i64 k,.int .i64 s,.int .i64 p,.int .i64 c,v] 81 (0,0)
def aU.obj(T:aU):Obj:=sW T.k T.s T.p T.c (T.X.iface T.dx)
structure ei(ak u:H)(D:O->Prop)(b:O)(X:aU):Prop where
 ex:∃k5,(∀c,D c↔c=b∨k5 c)/\¬k5 b/\ak b=none/\u b=some X.obj/\X.X.ei ak u k5 X.dx
def qy(l:J ax)(dim k s p c:o):o:=if rT k s p c≠0 then rT k s p c else if nr l dim≠0 then nr l dim else if k=5/\lE dim p≠0 then 100 else 0
theorem ang{k s p c:o}(h:rT k s p c=0):k=1∨((k=2∨k=3∨k=4)/\1<=s/\s<=64)∨(k=5/\1<=p/\p<=8/\1<=c/\c<=16)∨(k=6/\1<=s/\s<=16):=by
 unfold rT mW at h;by_cases h1:k=1;exact .inl h1;rw[bF h1] at h;have one:∀{n m:o},1<=m->qa n m->1<=n/\n<=m:=λ{n m} hm hk=>by omega
 by_cases h2:k=2∨k=3∨k=4
 grind
 rw[bF h2] at h;by_cases bL:k=5
 grind
 rw[bF bL] at h
 grind
theorem cO.agK{T:hq.aU}{o8:cO}(h:o8.fq=(cO.c3 T).fq):o8.eW=0:=by
 rw[cO.GY] at h;cases o8 with
 |oo X=>
  change (113:O)=_ at h
  grind|aX X=>
  change (116:O)=_ at h
  grind|nO X=>rfl|ag X=>rfl|c3 X=>rfl
def ady{k s p c:o}{v w:ap}(h:u n=some (sW k s p c v))(aB:w.oneCell'=ai)(ab:f (u.ins n (sW k s p c w))):H.aM u (er (cp n 0 none) 4) [w] f:=
 ⟨_,_,h,rfl,by simp[ib],by simp[aB],ab⟩
def aDg{m hS:O}{d:o}{a b:aA a8}(h:u n=some (.cells #[.int .i64 d,.map (some m),.pointer a,.map (some hS)] 132 (0,0)))(ab:f (u.ins n (.cells #[.int .i64 d,.map (some m),.pointer b,.map (some hS)] 132 (0,0)))):H.aM u (er (cp n 0 none) 2) [.pointer b] f:=
 ⟨_,_,h,rfl,by simp[ib],by simp[cI],ab⟩
theorem zp{A:H}{x y:O}{z:Obj}(M:A x=none)(aj:A y=some z):x≠y:=λe=>by grind
def ayD(b7:gD l dim){r:ax}(U:l[n]?=some r){P:J (o×J o)}(ep:P.Perm ((l.take n).map ax.bn)):r.id∉P.map (·.1)/\eM r.id r.v dim (decide (r.id∈P.map (·.1))) P.length=0:=by
 obtain⟨bP,he⟩:=hG.1 U;have fR:r∈l:=dz U;have ry:l.take n++r::l.drop (n+1)=l:=by have:=px n l;rw[qV bP,he] at this;exact this
 have b8:=b7.nodup;rw[<-ry,en,iw,hg] at b8;have sh:r.id∉P.map (·.1):=λhm=>by have h1:=(ep.map (·.1)).mem_iff.1 hm;rw[e4] at h1;exact b8.2.2 r.id h1 r.id (ik ..) rfl
 have hlen:=ep.length_eq;rw[eb,iV] at hlen;have aq:=b7.len;have hi:=b7.id r fR;obtain⟨v1,v2⟩:=b7.v r fR;have av:=b7.dim;have aB:gx r.v dim=0:=by rw[<-v1];exact xY v2 (by omega)
 refine⟨sh,?_⟩;unfold eM;omega
theorem aDL{r:ax}(U:l[n]?=some r){P Q:J (o×J o)}(ep:P.Perm ((l.take n).map ax.bn))(sh:r.id∉P.map (·.1))(fj:Q.Perm ((r.id,r.v)::P.filter λx=>x.1 !=r.id)):Q.Perm ((l.take (n+1)).map ax.bn):=by
 have ab:P.filter (λx=>x.1 !=r.id)=P:=qe.2 λq aL=>by
  grind
 rw[ab] at fj;rw[fN,U,en];exact fj.trans ((j9 _ ep).trans (mH _ _).symm)
theorem aBE{s:N}{k hC p c seed:o}{K:aA a8->o->H->Prop}(ae:dU u s l)(jS:eu.lO u)(M8:cE seed)
  (dq:qy l dim k hC p c≠0->∀u',u.le u'->K none (qy l dim k hC p c) u')
  (bM:qy l dim k hC p c=0->∀b D X u',ei u u' D b X->X.X.rows.Perm (l.map ax.bn)->X.X.dim=dim->X.k=k->X.s=hC->X.p=p->X.c=c->X.X.eW=0->K (some ⟨b,0,none⟩) 0 u'):U5 k hC p c dim s seed u K:=by
 have bad:∀W u',u.le u'->qy l dim k hC p c=W->W≠0->K none W u':=λW u' hu e aE=>by subst e;exact dq aE u' hu
 apply aEs
 refine aBL λaR dN=>⟨λan=>bad _ aR dN (by unfold qy;rw[b3 an]) an,λM7=>?_⟩
 have ea:=ae.mono dN
 have ahs:=jS.mono dN
 refine Kb ea ⟨λan=>bad _ aR dN (by unfold qy;omega) an,λpZ=>?_⟩
 have b7:=DF.1 pZ
 have dS:=ae.len
 have Ig:=b7.len
 have Yf:=b7.dim
 intro KT br
 have aJI:=ang M7
 have base:qy l dim k hC p c=if k=5/\lE dim p≠0 then 100 else 0:=by unfold qy;omega
 have main:(k=5->lE dim p=0)->∀y W,KT y W aR:=by
  intro hdiv y W;have bM:=bM (by omega);apply br;intro n8 rr Ec l6;obtain⟨B,cH⟩:∃B,B=aR.ins n8 (sW k hC p c .nilIface):=⟨_,rfl⟩;rw[<-cH];have u6:aR.le B:=by rw[cH];exact bX _ rr
  have PG:B n8=some (sW k hC p c .nilIface):=by rw[cH];exact bh _ _ _
  have p3:u n8=none:=dN.none rr;have Sr:=ea.mono u6;have aKG:¬nr l dim≠0:=by simpa using pZ
  have fin:∀(X:cO) (dx:O) (k5:O->Prop) (v:H),X.ei B v k5 dx->X.rows.Perm (l.map ax.bn)->X.dim=dim->X.eW=0->H.aM v (er (cp n8 0 none) 4) [X.iface dx] λw=>Ec 0 w:=by
   intro X dx k5 v qF U av Z;have Pv:=(cO.base qF).1 _ _ PG;have ag8:¬k5 n8:=λe=>by have:=(cO.base qF).2.1 n8 e;grind
   refine ady Pv (by simp[cO.iface,cI]) (l6 0 _ ⟨λM=>bf rfl M,λ_=>?_⟩);obtain⟨w,hw⟩:∃w,w=v.ins n8 (sW k hC p c (X.iface dx)):=⟨_,rfl⟩;rw[<-hw];have kw:∀x z,v x=some z->x≠n8->w x=some z:=λx z M an=>by rw[hw,bz _ _ an];exact M
   have lw:u.le w:=λx z M=>kw x z ((cO.base qF).1 x z (u6 x z (dN x z M))) λe=>by grind
   exact bM n8 _ ⟨k,hC,p,c,dx,X⟩ w ⟨k5,λ_=>Bt,ag8,p3,by rw[hw];exact bh _ _ _,cO.same (cO.mI qF (dN.trans u6)) (λx z M av=>kw x z M λe=>ag8 (by rw[<-e];exact av)) lw⟩ U av rfl rfl rfl rfl Z
  refine⟨λe=>k6.Pa Sr (λan=>bf (by unfold k6.jE;omega) an) λ_ v dx ah T U=>fin (.oo T) dx _ v (tx U.is U.ok) U.rows U.dim U.eW,λez=>?_⟩;refine⟨λe=>lr.Pa Sr (λan=>bf (by unfold lr.jE;omega) an) λ_ v dx ah T U=>fin (.aX T) dx _ v (tx U.is U.ok) U.rows U.dim U.eW,λlV=>?_⟩;refine⟨λe=>kd.Pa Sr (λan=>bf (by unfold kd.jE;omega) an) λ_ v dx ah T U=>fin (.nO T) dx _ v (tx U.is U.ok) U.rows U.dim rfl,λfo=>?_⟩;refine⟨λe=>eu.amD Sr (ahs.mono u6) M8 (λan=>bf (by unfold eu.w5;omega) an) λ_ dx ah T v U=>fin (.ag T) dx _ v (tx (eu.toG U.is) U.ok) U.rows U.dim rfl,λn6=>?_⟩;refine GL λm Dn hm iF=>?_;obtain⟨bJ,hQ⟩:∃bJ,bJ=B.ins m Dn:=⟨_,rfl⟩;rw[<-hQ] at iF ⊢;have SX:B.le bJ:=by rw[hQ];exact bX _ hm
  have apz:bJ m=some Dn:=by rw[hQ];exact bh _ _ _
  intro n30 Sb;refine lZ (zs:=[.int .i64 0,.map none]) rfl (by simp[cI]) ?_;obtain⟨Hx,ER⟩:∃Hx,Hx=bJ.ins n30 (.cells [cN .i64 dim,.map (some m)].toArray 127 (0,0)):=⟨_,rfl⟩;rw[<-ER];have abo:bJ.le Hx:=by rw[ER];exact bX _ Sb
  have ae8:Hx n30=some (.cells #[.int .i64 dim,.map (some m)] 127 (0,0)):=by rw[ER];exact bh _ _ _
  have m8:m≠n8:=zp hm PG;have yz:n30≠n8:=zp Sb (SX _ _ PG);have vH:n30≠m:=zp Sb apz;refine ady (abo _ _ (SX _ _ PG)) (by simp[cI]) ?_;obtain⟨w2,ES⟩:∃w2,w2=Hx.ins n8 (sW k hC p c (.iface 128 (.pointer (some ⟨n30,0,none⟩)))):=⟨_,rfl⟩;rw[<-ES];have dG:∀x z,Hx x=some z->x≠n8->w2 x=some z:=λx z M an=>by rw[ES,bz _ _ an];exact M
  have Qt:w2 n8=some (sW k hC p c (.iface 128 (.pointer (some ⟨n30,0,none⟩)))):=by rw[ES];exact bh _ _ _
  have SR:aR.le w2:=λx z M=>dG x z (abo x z (SX x z (u6 x z M))) λe=>by grind
  have anR:aR m=none:=u6.none hm;have aD3:aR n30=none:=(u6.trans SX).none Sb;have abw:fE w2 m []:=iF.else λz ac=>dG m z (abo m z ac) m8;intro Wq H0;have loop:∀(T:hq.aU) (dx:O) (k5:O->Prop) (v:H),(cO.c3 T).ei aR v k5 dx->¬k5 n8->v n8=some (sW k hC p c ((cO.c3 T).iface dx))->T.w=[]->T.dim=dim->Wq v:=by
   intro T dx k5 v qF fe aB oj EY;refine H0 v ⟨λx w=>0<=x/\x<=l.length/\∃(qu:O->Prop) (o8:cO),o8.ei aR w qu dx/\¬qu n8/\w n8=some (sW k hC p c (o8.iface dx))/\o8.rows.Perm ((l.take x.toNat).map ax.bn)/\o8.dim=dim/\o8.fq=(cO.c3 T).fq,λx _=>l.length-x.toNat,⟨by omega,by omega,k5,.c3 T,qF,fe,aB,?_,EY,rfl⟩,?_⟩;show(hq.bi T).Perm _;unfold hq.bi
   grind
   rintro x w ⟨bK,dr,qu,o8,Yr,AI,SF,Rw,Ys,Yt⟩;have Sx:dU w s l:=ea.mono (cO.base Yr).1;refine⟨λM=>?_,λhF=>?_⟩;obtain⟨q,aL,r,U,bA,c1,aqO⟩:=Sx.at bK M;have fR:r∈l:=dz U;refine⟨q,aL,⟨bK,M⟩,r.id,bA,r.s,c1,o8.iface dx,aZ SF 4,?_⟩;obtain⟨sh,Ix⟩:=ayD b7 U Rw;rw[<-Ys] at Ix;refine cO.DO Yr (by rw[cO.agK Yt];omega) ahs aqO (.inr (ea.2 r fR)) (λan=>bf Ix an) λ_ u' hK Co Rx ht atI atH ahx _=>⟨⟨by omega,by omega⟩,⟨by omega,by omega,hK,Co,Rx,λe=>(ht.grow n8 e).elim AI λaN=>(by rw[SF] at aN;cases aN),?_,?_,by rw[atH];exact Ys,by rw[ahx];exact Yt⟩,by dsimp only;omega⟩;rw[show Co.iface dx=o8.iface dx by unfold cO.iface;rw[ahx]];exact ht.bO _ _ SF AI;rw[show(x+1).toNat=x.toNat+1 by omega];exact aDL U Rw sh atI;have eY:x.toNat=l.length:=by omega
   rw[eY,pt] at Rw;exact l6 0 w ⟨λe=>bf rfl e,λ_=>bM n8 _ ⟨k,hC,p,c,dx,o8⟩ w ⟨qu,λ_=>Bt,AI,p3,SF,cO.mI Yr dN⟩ Rw Ys rfl rfl rfl rfl (cO.agK Yt)⟩
  refine⟨λgI=>?_,λ_=>?_⟩
  ·
   obtain⟨gU,du,c1,c2⟩:1<=p/\p<=8/\1<=c/\c<=16:=by omega
   have ae9:w2 n30=some (.cells #[.int .i64 dim,.map (some m)] 127 (0,0)):=dG _ _ ae8 yz;refine⟨dim,aZ ae9 0,_,aZ ae9 1,GL λhS akR R8 aiL=>?_⟩;obtain⟨Hy,Yp⟩:∃Hy,Hy=w2.ins hS akR:=⟨_,rfl⟩;rw[<-Yp] at aiL ⊢;have lS:w2.le Hy:=by rw[Yp];exact bX _ R8
   have afa:Hy hS=some akR:=by rw[Yp];exact bh _ _ _
   obtain⟨aKx,ZE⟩:∃z,w2 m=some z:=by obtain⟨es,cl,e,_⟩:=abw;exact⟨_,e⟩
   intro n50 MM;obtain⟨KX,Yq⟩:∃KX,KX=Hy.ins n50 (.cells #[.int .i64 dim,.map (some m),.pointer none,.map (some hS)] 132 (0,0)):=⟨_,rfl⟩;rw[<-Yq];have FV:Hy.le KX:=by rw[Yq];exact bX _ MM
   have apy:KX n50=some (.cells #[.int .i64 dim,.map (some m),.pointer none,.map (some hS)] 132 (0,0)):=by rw[Yq];exact bh _ _ _
   have afI:hS≠n8:=zp R8 Qt;have W1:hS≠m:=zp R8 ZE;have d8:n50≠n8:=zp MM (lS _ _ Qt);have hP:n50≠m:=zp MM (lS _ _ ZE);have afV:n50≠hS:=zp MM afa;have FU:=lS.trans FV;have abl:=SR.trans FU;have aD4:aR hS=none:=SR.none R8;have anQ:aR n50=none:=(SR.trans lS).none MM;refine zV (ea.mono abl) b7.id (by omega) (λr U=>by have:=(b7.v r U).1;omega) λJ2 ls afb Ye gF _=>?_;have u5:=Ye.own.le;have avt:ls.length=l.length:=by have:=gF.length_eq;simpa using this
   have oN:∀r∈ls,(r.v.length:o)=dim/\cY r.v:=λr U=>by obtain⟨cx,cU,e⟩:=bQ.1 (gF.mem_iff.1 (bQ.2 ⟨r,U,rfl⟩));have:cx.v=r.v:=eI wD e;rw[<-this];exact b7.v cx cU
   have aIL:=Ye.rws.len;refine⟨λJ3 x w=>0<=x/\x<=ls.length/\aD afb w 30 1 J3 (((ls.take x.toNat).map λr=>(r.s,r.v)).flatMap λy=>encS y.1),λ_ x _=>ls.length-x.toNat,⟨by omega,by omega,aD.nil (H.le.refl afb) _ _⟩,?_⟩;rintro J3 x w ⟨bK,dr,ac⟩;have r9:=Ye.rws.mono ac.le;have Rf:J3.n=((ls.take x.toNat).map λr=>(r.s,r.v)).length:=hf vK (by decide) ac.own.cK;rw[eb,iV] at Rf;refine⟨λM=>?_,λhF=>?_⟩;obtain⟨q,aL,r,U,iu,cB,_⟩:=r9.at bK M;refine⟨q,aL,⟨bK,M⟩,r.id,iu,r.s,cB,?_⟩;refine mn UC (kd.QH r.s) (by decide) rfl (by simp[cI]) ac (by show J3.n<_;omega) (by omega) λar u' bR hY _ _ _=>⟨⟨by omega,by omega⟩,⟨by omega,by omega,?_⟩,by dsimp only;omega⟩;rw[show(x+1).toNat=x.toNat+1 by omega,fN,U,en,hb];exact bR
   .have eY:x.toNat=ls.length:=by omega
    rw[eY,pt] at ac;have zk:=u5.trans ac.le;have UW:w n8=some (sW k hC p c (.iface 128 (.pointer (some ⟨n30,0,none⟩)))):=zk _ _ (FU _ _ Qt);have UY:=zk _ _ apy;have last:∀(co:aA hq.uc) (v:H),v n8=some (sW k hC p c (.iface 128 (.pointer (some ⟨n30,0,none⟩))))->v n50=some (.cells #[.int .i64 dim,.map (some m),.pointer (hq.pE.ptr ⟨hS,[],co⟩),.map (some hS)] 132 (0,0))->(∀x z,KX x=some z->x≠n50->v x=some z)->
      (∀dK,co=some dK->hq.DZ dim dK.eV/\∃u',hq.D9 w u' dim dK/\∀x z,u' x=some z->x≠n50->v x=some z)->H.aM v (er (cp n8 0 none) 4) [.iface 129 (.pointer (some ⟨n50,0,none⟩))] λW=>Wq W:=by
     intro co v Pv q9 ad2 te
     refine ady Pv (by simp[cI]) ?_
     obtain⟨W,aE⟩:∃W,W=v.ins n8 (sW k hC p c (.iface 129 (.pointer (some ⟨n50,0,none⟩)))):=⟨_,rfl⟩
     rw[<-aE]
     have Ls:∀x z,v x=some z->x≠n8->W x=some z:=λx z M an=>by rw[aE,bz _ _ an];exact M
     have aIb:W n8=some (sW k hC p c (.iface 129 (.pointer (some ⟨n50,0,none⟩)))):=by rw[aE];exact bh _ _ _
     have ard:aR.le W:=λx z M=>Ls x z (ad2 x z (abl x z M) λe=>by rw[e,anQ] at M;cases M) λe=>by rw[e,rr] at M;cases M
     obtain⟨D,fe,H7⟩:=hq.start (cd:=some ⟨hS,[],co⟩) ard (Ls _ _ q9 d8) (abw.else λz ac=>Ls m z (ad2 m z (FU m z ac) (e3 hP)) m8) hP anQ anR Yf λpL dI=>by obtain rfl:=eh dI;refine⟨rfl,aiL.else λz ac=>Ls hS z (ad2 hS z (FV hS z ac) (e3 afV)) afI,W1,e3 afV,aD4,λdK AV=>?_⟩;obtain⟨di,u',dv,ef⟩:=te dK AV;refine⟨di,w,u',abl.trans zk,dv,λx z M aa=>?_,by rw[UY];simp,?_,?_⟩;have IV:=(dv.fresh x aa).1;exact Ls x z (ef x z M (zp IV UY)) (zp IV UW);rw[zk _ _ (FU _ _ ZE)];simp;rw[zk _ _ (FV _ _ afa)];simp
     refine loop ⟨dim,m,[],some ⟨hS,[],co⟩⟩ n50 D W fe (λe=>?_) (by rw[cO.IY (c:=⟨hS,[],co⟩) rfl];exact aIb) rfl rfl
     rcases H7 n8 e with e|e|⟨k3,gn,e⟩|⟨k3,dK,gn,hk,aa⟩
     exact d8 e.symm
     exact m8 e.symm
     obtain rfl:=eh gn
     exact afI e.symm
     obtain rfl:=eh gn
     obtain⟨_,u',dv,_⟩:=te dK hk
     have:=(dv.fresh n8 aa).1
     rw[UW] at this;cases this
    refine⟨λI=>?_,λ_=>last none w UW UY (λx z M _=>zk x z M) λ_ e=>(by cases e)⟩;have CP:mR w J3 (ls.map λr=>(r.s,r.v)):=⟨ac.own.cK,λy aj=>by obtain⟨r,U,rfl⟩:=bQ.1 aj;exact r9.2 r U⟩
    refine hq.aCa CP (λy aj=>?_) Yf ⟨gU,du⟩ (hdiv gI) ⟨c1,c2⟩ (by rw[eb];omega) (by rw[eb];omega) (by decide) λUL dK hO asK=>?_;obtain⟨r,U,rfl⟩:=bQ.1 aj;exact oN r U;have aqy:=hO.le _ _ UY;refine aDg aqy ?_;obtain⟨UM,aas⟩:∃UM,UM=UL.ins n50 (.cells #[.int .i64 dim,.map (some m),.pointer (some ⟨dK.b,0,none⟩),.map (some hS)] 132 (0,0)):=⟨_,rfl⟩;rw[<-aas];have Xh:∀x z,UL x=some z->x≠n50->UM x=some z:=λx z M an=>by rw[aas,bz _ _ an];exact M
    refine last (some dK) UM (Xh _ _ (hO.le _ _ UW) (e3 d8)) (by rw[aas];exact bh _ _ _) (λx z M an=>Xh x z (hO.le x z (zk x z M)) an) λdY dk=>?_;obtain rfl:=eh dk;exact⟨asK,UL,hO,Xh⟩
  obtain⟨D,fe,H7⟩:=hq.start (cd:=none) SR (dG _ _ ae8 yz) abw vH aD3 anR Yf λ_ e=>by cases e
  refine loop ⟨dim,m,[],none⟩ n30 D w2 fe (λe=>?_) (by rw[cO.IZ rfl];exact Qt) rfl rfl;rcases H7 n8 e with e|e|⟨_,e,_⟩|⟨_,_,e,_⟩;exact yz e.symm;exact m8 e.symm;cases e;cases e
 exact⟨λgI=>⟨by omega,λan=>bad 100 aR dN (by omega) (by decide),λhe=>main (λ_=>he) _ _⟩,λgI=>main (λe=>bf e gI) _ _⟩
def aKy{n:o}:qa n 0↔n=0:=by omega
def aKz{n m:o}(h:1<=m):qa n m↔1<=n/\n<=m:=by omega
def Pd{n m:o}{K:ay->H->Prop}(h:K (decide (1<=n/\n<=m)) u):Ac n m u K:=by apply aHb;refine⟨λh1=>?_,λh1=>?_⟩;rw[show decide (1<=n/\n<=m)=decide (n<=m) from BD.2 (by omega)] at h;exact h;rw[q0 (by omega)] at h;exact h
theorem aCZ{k s p c:o}(h:K (rT k s p c) u):Wc k s p c u K:=by
 have of:∀{x y W:o} (b:ay),mW k=some (x,y,W)->(b=ai↔qa s x/\qa p y/\qa c W)->rT k s p c=if b=ai then 0 else 121:=λ{x y W} b aa hi=>by
  unfold rT
  grind
 apply aHa;intro iK h0;have key:∀e7:ay,(e7=ai↔p=0/\c=0)->iK e7 u:=by
  intro e7 j6;refine h0 _ _ λEb h3=>?_;have fin:∀{x y W:o} (b:ay),mW k=some (x,y,W)->(b=ai↔qa s x/\qa p y/\qa c W)->∀i,Eb b i u:=λb aa hi i=>by rw[of b aa hi] at h;exact h3 _ _ _ ⟨λag=>by rw[bF ag] at h;exact h,λaj=>by rw[b3 aj] at h;exact h⟩
  have EL:(1:o)<=64:=by decide
  have HY:(1:o)<=16:=by decide
  have mx:(1:o)<=8:=by decide
  have kh:∀{P:Prop},¬P->((ao=ai)↔P):=λh=>⟨λe=>(by cases e),λq=>bf q h⟩;refine⟨λaT=>?_,λaT w0 kP=>?_⟩;have aa:mW k=some (0,0,0):=by unfold mW;rw[b3 aT]
  exact⟨λs0=>fin e7 aa (by grind) 0,λs0=>fin ao aa (kh (by omega)) 0⟩;have tree:mW k=some (64,0,0)->Ac s 64 u λb u'=>((b=ai)->Eb e7 0 u')/\((b=ao)->Eb ao 0 u'):=λaa=>
   Pd ⟨λe=>fin e7 aa (by grind) 0,λe=>fin ao aa (kh (by grind)) 0⟩
  have seven:∀yz:ay,(yz=ai↔k=2∨k=3)->w0 yz u:=by
   intro yz atS;refine kP _ _ ⟨λe=>tree ?_,λe=>⟨λgz=>tree ?_,λgz=>⟨λgI=>?_,λgI=>⟨λnE=>?_,λnE=>?_⟩⟩⟩⟩;unfold mW;grind;unfold mW;grind;have aa:mW k=some (64,8,16):=by unfold mW;grind
   refine Pd ⟨λs1=>Pd ⟨λgU=>Pd (fin _ aa ?_ 0),λgU=>fin ao aa (kh ?_) 0⟩,λs1=>fin ao aa (kh ?_) 0⟩
   grind
   grind
   grind
   have aa:mW k=some (16,0,0):=by
     unfold mW
     grind
   exact Pd ⟨λs1=>fin e7 aa (by grind) 0,λs1=>fin ao aa (kh (by grind)) 0⟩;have aa:mW k=none:=by
     unfold mW
     grind
   have:rT k s p c=120:=by unfold rT;rw[aa]
   rw[this] at h;exact h
  exact⟨λe=>seven ai ⟨λ_=>.inl e,λ_=>rfl⟩,λe=>seven _ ⟨λh3=>.inr (BC h3),λh3=>jf (by omega)⟩⟩
 exact⟨λe=>key _ ⟨λh3=>⟨e,BC h3⟩,λh3=>jf h3.2⟩,λe=>key ao ⟨λh3=>(by cases h3),λh3=>bf h3.1 e⟩⟩
def aC0{k s p c:o}{t:N}(ae:dU u t l)(h:K (qy l dim k s p c) u):Wd k s p c dim t u K:=by have key:∀W,qy l dim k s p c=W->K W u:=λW e=>e▸h;apply aHc;refine aCZ λny h2=>⟨λe=>aCS ae (h2 _ _ λr0 bL=>⟨λgI=>⟨λaa6=>⟨?_,λan=>bL _ _ (key 100 ?_),λhe=>bL _ _ (key _ ?_)⟩,λaa6=>bL _ _ (key _ ?_)⟩,λgI=>bL _ _ (key _ ?_)⟩),λe=>h2 _ _ λr0 bL=>⟨λgI=>bf gI e,λ_=>bL _ _ (key _ ?_)⟩⟩;have:=ang e;omega;unfold qy;omega;unfold qy;omega;unfold qy;omega;unfold qy;omega;unfold qy;rw[b3 e]
def aqa{bH:J ax}(h:l.map ax.bn=bH.map ax.bn):mZ l=mZ bH/\mY l=mY bH:=by
 have key:∀(f:J o->J o->J o) (l:J ax),l.foldl (λacc r=>f acc r.v) (l.headD ⟨0,⟨none,0,0⟩,[]⟩).v=(l.map ax.bn).foldl (λacc r=>f acc r.2) ((l.map ax.bn).headD (0,[])).2:=λf l=>by rw[List.foldl_map];cases l<;>rfl
 exact⟨by unfold mZ;rw[key lT,key lT,h],by unfold mY;rw[key lU,key lU,h]⟩
theorem aAu{a b c cT Ap pL:N}{bH:J ax}(h:l.map ax.bn=bH.map ax.bn):(wH a b c l).map b1.core=(wH cT Ap pL bH).map b1.core:=by
 have aq:=az0 h;have he:l=[]↔bH=[]:=by grind
 unfold wH;by_cases e:l=[]
 grind
 rw[bF e,bF λhd=>e (he.2 hd)];obtain⟨h1,h2⟩:=aqa h;show[_]=[_];simp only[b1.core,h1,h2];rw[mC,h,<-mC]
theorem Sound.bn{eo:J ax}{k:o}{eE:J bN}{seen:J o}(h:Sound L q k eE seen rest)(ad:(L.map ax.bn).Perm (eo.map ax.bn)):Sound eo q k eE seen rest where
 BF:=h.BF
 kb r U:=by obtain⟨h1,h2,h3⟩:=h.kb r U;refine⟨h1,h2,λx M=>?_⟩;obtain⟨w,hw,rfl,ch⟩:=h3 x M;obtain⟨w',lh,e⟩:=bQ.1 (ad.mem_iff.1 (kH hw));exact⟨w',lh,eI vl e,by rw[show w'.v=w.v from eI wD e];exact ch⟩
 all:=by rw[mC];refine h.all.trans ?_;rw[mC];exact ad.map _
 first m hm ae:=by
  have:∀m:J ax,(∀r∈m,r∈eo)->∃qS:J ax,(∀r∈qS,r∈L)/\qS.map ax.bn=m.map ax.bn:=by
   intro m;induction m with
   |nil=>grind|cons a m aW=>
    intro hm;obtain⟨qS,h1,h2⟩:=aW λr U=>hm r (iX _ U);obtain⟨w,hw,e⟩:=bQ.1 (ad.mem_iff.2 (kH (hm a (ik ..))));refine⟨w::qS,λr U=>?_,by grind⟩
    grind
  obtain⟨qS,h1,h2⟩:=this m hm;rw[<-ais h2];exact h.first qS h1 (by rw[mC,h2,<-mC];exact ae)
theorem Sound.core{k:o}{eE:J bN}{seen:J o}{GB:J b1}(h:Sound L q k eE seen rest)(e:rest.map b1.core=GB.map b1.core):Sound L q k eE seen GB where
 BF:=h.BF
 kb cx cU:=by
  have hm:cx.core∈rest.map b1.core:=e▸kH cU;obtain⟨r,U,I⟩:=bQ.1 hm;have c1:r.aC=cx.aC:=eI (λW=>W.1) I;have c2:r.cD=cx.cD:=eI (λW=>W.2.1) I;have fc:r.bm=cx.bm:=eI (λW=>W.2.2.1) I;have pM:r.hi=cx.hi:=eI (λW=>W.2.2.2.1) I;have qA:r.ids=cx.ids:=eI (λW=>W.2.2.2.2) I;obtain⟨h1,h2,h3⟩:=h.kb r U;refine⟨⟨h1.dim,qA▸h1.ids,qA▸h1.id,by rw[<-c1,<-c2,<-fc,<-pM];exact h1.shape⟩,qA▸h2,λx M=>?_⟩;obtain⟨w,hw,rfl,ch⟩:=h3 x (qA▸M);refine⟨w,hw,rfl,?_⟩;unfold mq at ch ⊢
  grind
 all:=by
  have key:∀l:J b1,l.flatMap (·.ids)=(l.map b1.core).flatMap (λW=>W.2.2.2.2):=λl=>by rw[BA];rfl
  rw[key,<-e,<-key];exact h.all
 first:=h.first
namespace hq
theorem ax3:∀{w:nC},(w.map (·.1)).Nodup->∀{a b},a∈w->b∈w->a.1=b.1->a=b:=by
 intro w;induction w with
 |nil=>intro _ a b az;cases az
 |cons x w aW=>
  grind
def vm(w:nC)(id:o):J o:=((w.find? λe=>e.1==id).map λe=>e.2.2).getD []
theorem ON{w:nC}(ag:(w.map (·.1)).Nodup){e:o×(N×J o)}(he:e∈w):vm w e.1=e.2.2:=by
 unfold vm;cases ab:w.find? λx=>x.1==e.1 with
 |none=>grind|some x=>
  have h1:x.1=e.1:=by grind
  rw[ax3 ag (ab6 ab) he h1];rfl
theorem aAF{w:nC}{id:o}(h:id∉w.map (·.1)):vm w id=[]:=by
 unfold vm;rw[TL.2 λx M=>by
  grind]
 rfl
def y0(w:nC)(q:J o)(id:o):bN:=(id,gb (vm w id) q (vm w id).length)
def T0(eV:J (N×J (N×J o)))(q:J o)(n i:O):J o:=(((eV[i]?).map (·.2)).getD []).map λy=>gb (wu q n i) y.2 n
def BT(eV:J (N×J (N×J o)))(q:J o):J (J o):=(lD eV.length).map (T0 eV q (q.length/eV.length))
def BQ(c3:J (J o))(code:J o):O->o
 |0=>0|i+1=>BQ c3 code i+(c3.getD i []).getD (code.getD i 0).toNat 0
def Lr(c3:J (J o))(code:J o):o:=open Classical in if c3.length=code.length/\∀i,i<code.length->0<=code.getD i 0/\code.getD i 0<(c3.getD i []).length then BQ c3 code code.length else 0
def AA(cd:aA pE)(q:J o)(id:o):o:=match cd with
 |some ⟨_,sL,some k⟩=>Lr (BT k.eV q) (vm sL id)|_=>0
def sn(T:aU)(q:J o):J o:=(mL ((cR (T.w.map (·.1))).map λid=>(id,AA T.cd q id))).map (·.1)
def akT(T:aU)(q:J o):(sn T q).Perm (T.w.map (·.1)):=by unfold sn;refine((vu _).map _).trans ?_;rw[e4];rw[show((·.1)∘λid:o=>((id,AA T.cd q id):bN))=(λid:o=>id) from rfl,Gv];exact ns _
def tS(w:nC):J ax:=(cR (w.map (·.1))).map λid=>⟨id,⟨none,0,0⟩,vm w id⟩
def alQ{w:nC}(ag:(w.map (·.1)).Nodup):((tS w).map ax.bn).Perm (w.map λe=>(e.1,e.2.2)):=by unfold tS;rw[e4];refine((ns _).map _).trans (acp ?_);rw[e4];refine zK λe he=>?_;show(e.1,vm w e.1)=_;rw[ON ag he]
def aAK{w:nC}(ag:(w.map (·.1)).Nodup){ls:J ax}(ad:(ls.map ax.bn).Perm (w.map λe=>(e.1,e.2.2)))(ae:ls.Pairwise λa b=>a.id<=b.id):ls.map ax.bn=(tS w).map ax.bn:=by
 have hk:(w.map λe=>(e.1,e.2.2)).map (·.1)=w.map (·.1):=by rw[e4];rfl
 refine ala ?_ ?_ (ad.trans (alQ ag).symm);have b8:(ls.map (·.id)).Nodup:=by rw[mC];exact((ad.map _).nodup_iff).2 (by rw[hk];exact ag)
 rw[Ow,tR] at b8;rw[tR];refine(ae.and b8).imp λ{x y} ir=>?_;have:=ir.1;have:=ir.2;show x.id<y.id;omega;unfold tS;rw[e4,tR];exact(DN ag).imp λh=>h
def iT(T:aU)(q:J o)(k aK:o):J bN:=if T.cd.isSome then e1 k.toNat (((sn T q).take aK.toNat).map (y0 T.w q)) else e1 k.toNat (((tS T.w).take aK.toNat).map (hj q))
def gv(T:aU)(q:J o)(_k aK:o):J o:=if T.cd.isSome then cR ((sn T q).take aK.toNat) else cR (((tS T.w).take aK.toNat).map (·.id))
def jF(T:aU)(q:J o)(_k aK:o):J (o×o×J o×J o×J o):=
 if T.cd.isSome then if(sn T q).drop aK.toNat=[] then[] else[(1,0,[],[],cR ((sn T q).drop aK.toNat))] else(wH ⟨none,0,0⟩ ⟨none,0,0⟩ ⟨none,0,0⟩ ((tS T.w).drop aK.toNat)).map b1.core
theorem sound{T:aU}(ag:(T.w.map (·.1)).Nodup){k aK:o}(fH:0<=aK)(cX:(L.map ax.bn).Perm (bi T))(aL:jx L q)(U:rest.map b1.core=jF T q k aK):
  Sound L q k (iT T q k aK) (gv T q k aK) rest/\((gv T q k aK).length:o)<=aK/\(((gv T q k aK).length:o)=aK∨(gv T q k aK).length=L.length):=by
 have hk:=nQ T
 unfold jF at U
 unfold iT gv
 by_cases e:T.cd.isSome=ai
 rw[b3 e] at U
 simp only[b3 e]
 have ad:=akT T q
 have az:(sn T q).take aK.toNat++(sn T q).drop aK.toNat=sn T q:=px _ _
 have b8:(sn T q).Nodup:=ad.nodup_iff.2 ag
 have RH:((sn T q).drop aK.toNat).Nodup:=b8.sublist (Oo _ _)
 have h0:cR ((sn T q).drop aK.toNat)=[]↔(sn T q).drop aK.toNat=[]:=by rw[<-List.length_eq_zero_iff,yi,List.length_eq_zero_iff]
 refine anh (R:=cR ((sn T q).drop aK.toNat)) (by rw[hk];exact ag) cX aL fH ?_ (by grind) (λan=>?_) (DN RH) (λr ZY=>?_) ?_
 rw[hk]
 refine((ns _).append_left _).trans ?_
 rw[az]
 exact ad
 grind
 obtain⟨x,M,e⟩:=bQ.1 (cX.mem_iff.1 (kH ZY))
 have aT:x.1=r.id:=eI vl e
 have aN:x.2.2=r.v:=eI wD e
 unfold y0 hj
 rw[<-aT,ON ag M,aN]
 grind
 rw[bF e] at U
 simp only[bF e]
 have ad:((tS T.w).map ax.bn).Perm (L.map ax.bn):=(alQ ag).trans cX.symm
 have Sn:jx (tS T.w) q:=⟨aL.Ha,zP aL.rows.dim (by have:=ad.length_eq;rw[eb,eb] at this;rw[this];exact aL.rows.len) (by rw[mC];grind) λp Ft=>by obtain⟨r,U,rfl⟩:=bQ.1 (ad.mem_iff.1 Ft);exact⟨(aL.rows.id r U).1,(aL.rows.id r U).2,(aL.rows.v r U).1,(aL.rows.v r U).2⟩⟩
 have ae:=ar3 (k:=k) (b:=aK) Sn ⟨none,0,0⟩ ⟨none,0,0⟩ ⟨none,0,0⟩
 have hlen:(tS T.w).length=L.length:=by have:=ad.length_eq;simpa using this
 have p0:(cR (((tS T.w).take aK.toNat).map (·.id))).length=min aK.toNat L.length:=by rw[yi,eb,iV,hlen]
 refine⟨(Sound.core ae U.symm).bn ad,by rw[p0];omega,by rw[p0];omega⟩
end hq
end
