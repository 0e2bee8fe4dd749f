/- Texts of mine, joined and packed by pack.py. -/
import Derived.Test.YtejdhbfjjgcljaaGreatDoorMrd6
import Derived.Lib.EndianBits
import Derived.Shelf.SlSortCmp.Whole1
set_option linter.all false
open _root_ renaming List->J,Nat->O,Option->aA,Array->cA,Int->o,Bool->ay,absurd->bf,Inhabited->lF
open Go renaming Program->dL,Value->ap,World->ci,Addr->a8,FuncId->j8,TypeId->dC,callFunc->qT
open Bool renaming true->ai,false->ao
open Go.Obj renaming cells->bt
open Go.IntKind renaming i64->b2,wrap->bS,u64->bu
open Go.Made renaming depth->tM
open Go.Instr renaming sliceAt->fZ,buildSlice->dA,typeAssert->so
open Go.Builtin renaming clear_->qc,zeroCells->wy
open Go.World renaming frozen?->Gh
open Go.Proofs.Tryz renaming prog->aH
open Go.Value renaming agg->cz,int->cN,pointer->ha,slice->ed,oneCell'->cI
open Int renaming tdiv->ff,fdiv->et
open List.Perm renaming cons->j9,trans->JQ
open List.Pairwise renaming nil->mG
open Go.Addr renaming mk->cp
open Go.Sort renaming ahead->wB
open List renaming replicate->fz,length->iY,flatMap->wC
set_option maxRecDepth 100000
noncomputable section
namespace Go.Proofs.YtejdhbfjjgcljaaGreatDoor
open H
section
variable{u:H}{n:O}
section
variable {α:Type} [lF α] (lt:α->α->ay)
def rU(l:J α)(j:O):J α:=
 if _h:j=0 then l else if lt (l.getD j default) (l.getD (dh j) default) then rU (jZ l (dh j) j) (dh j) else l
termination_by j
decreasing_by unfold dh;omega
def oT(n:O)(l:J α)(i:O):O:=if 2*i+2<n/\lt (l.getD (2*i+2) default) (l.getD (2*i+1) default)=ai then 2*i+2 else 2*i+1
def mw(n:O)(l:J α)(i:O):J α:=
 if _h:2*i+1<n then(if lt (l.getD (oT lt n l i) default) (l.getD i default) then mw n (jZ l i (oT lt n l i)) (oT lt n l i) else l) else l
termination_by n-i
decreasing_by unfold oT;split<;>omega
def zC(l:J α)(y:α):J α:=rU lt (l++ [y]) l.length
def lk(l:J α):J α:=(mw lt (l.length-1) (jZ l 0 (l.length-1)) 0).dropLast
end
section
variable {α:Type} [lF α] {lt:α->α->ay}
def an5:∀(j:O) (l:J α),j<l.length->(rU lt l j).Perm l:=by
 intro j;induction j using Nat.strongRecOn with
 |ind j aW=>
  intro l aP;unfold rU;split;exact .refl _;split;have ad:dh j<j:=by unfold dh;omega
  exact(aW (dh j) ad _ (by rw[qj];omega)).trans (DR (by omega) aP);exact .refl _
def aEh(L:o5 lt):∀(j:O) (l:J α),Am lt l j->iJ lt (rU lt l j).length (rU lt l j):=by
 intro j;induction j using Nat.strongRecOn with
 |ind j aW=>intro l hu;unfold rU;split;rename_i h;exact hu.done (.inl h);split;rename_i h aq;exact aW (dh j) (by unfold dh;omega) _ (hu.step L (by omega) aq);rename_i h aq;exact hu.done (.inr (by simpa using aq))
def abf{i:O}{l:J α}(h:2*i+1<n):0<oT lt n l i/\oT lt n l i<n/\dh (oT lt n l i)=i/\i<oT lt n l i:=by unfold oT dh;split<;>omega
theorem akh(L:o5 lt){i:O}{l:J α}(h:2*i+1<n):∀x,0<x->x<n->dh x=i->lt (l.getD x default) (l.getD (oT lt n l i) default)=ao:=by
 have ND:∀a,lt a a=ao:=λa=>by
  cases e:lt a a with
  |false=>rfl|true=>have:=L.asymm _ _ e;grind
 intro x bK dr x2;have two:x=2*i+1∨x=2*i+2:=by unfold dh at x2;omega
 unfold oT;split;rename_i I;rcases two with rfl|rfl;exact L.asymm _ _ I.2;exact ND _
 grind
def aq3(n:O):∀(m:O) (i:O) (l:J α),n-i<=m->(mw lt n l i).length=l.length:=by
 intro m;induction m with
 |zero=>intro i l h;unfold mw;rw[JR (by omega)]
 |succ m aW=>intro i l h;unfold mw;split;rename_i I;split;obtain⟨_,_,_,hk⟩:=abf (lt:=lt) (l:=l) I;rw[aW _ _ (by omega),qj];rfl;rfl
def aq5(L:o5 lt):∀(m:O) (i:O) (l:J α),n-i<=m->wY lt n l i->n<=l.length->(i<n∨i=0)->
  (mw lt n l i).Perm l/\iJ lt n (mw lt n l i)/\∀k,n<=k->(mw lt n l i)[k]?=l[k]?:=by
 intro m
 induction m with
 |zero=>intro i l h av ag hi;unfold mw;rw[JR (by omega)];exact⟨.refl _,av.done (λx bK dr x2=>by unfold dh at x2;omega),λ_ _=>rfl⟩
 |succ m aW=>intro i l h av ag hi;unfold mw;split;rename_i I;obtain⟨iu,cB,cW,nP⟩:=abf (lt:=lt) (l:=l) I;split;rename_i aq;obtain⟨h1,h2,h3⟩:=aW (oT lt n l i) (jZ l i (oT lt n l i)) (by omega) (av.step L iu cB cW aq (akh L I)) (by rw[qj];exact ag) (.inl cB);refine⟨h1.trans (DR (by omega) (by omega)),h2,λk hk=>?_⟩;rw[h3 k hk,anC (by omega) (by omega)];rename_i aq;refine⟨.refl _,av.done (λx bK dr x2=>?_),λ_ _=>rfl⟩;exact L.trans _ _ _ (by simpa using aq) (akh L I x bK dr x2);rename_i I;exact⟨.refl _,av.done (λx bK dr x2=>by unfold dh at x2;omega),λ_ _=>rfl⟩
theorem az6{l:J α}{y:α}(cb:iJ lt l.length l):Am lt (l++ [y]) l.length:=by
 refine⟨by simp,λi i0 i1 i2=>?_,λi i0 i1 i2=>?_⟩;simp only[gG,x9] at i1;have hi:i<l.length:=by omega
 have g:∀k,k<l.length->(l++ [y]).getD k default=l.getD k default:=λk hk=>by
  grind
 rw[g i hi,g _ (by unfold dh;omega)];exact cb i i0 hi
 grind
def az5(L:o5 lt){l:J α}{y:α}(cb:iJ lt l.length l):(zC lt l y).Perm (l++ [y])/\iJ lt (zC lt l y).length (zC lt l y):=
 ⟨an5 _ _ (by simp),aEh L _ _ (az6 cb)⟩
def azZ{l:J α}(cb:iJ lt l.length l)(an:0<l.length):wY lt (l.length-1) (jZ l 0 (l.length-1)) 0:=by refine⟨by rw[qj];omega,λi i0 i1 i2=>?_,λi i0 i1 i2 h=>by simp at h⟩;have aaX:dh i≠0:=i2;rw[DQ (by omega) (by omega) (by omega),DQ (by omega) (by omega) (by unfold dh;omega)];rw[bF (by omega),bF (by omega),bF (by unfold dh;omega),bF aaX];exact cb i i0 (by omega)
theorem Oa(L:o5 lt){l:J α}(cb:iJ lt l.length l)(an:0<l.length):(l.getD 0 default::lk lt l).Perm l/\iJ lt (lk lt l).length (lk lt l)/\(∀y∈lk lt l,lt y (l.getD 0 default)=ao)/\
  mw lt (l.length-1) (jZ l 0 (l.length-1)) 0=lk lt l++ [l.getD 0 default]:=by
 have av:=azZ cb an
 obtain⟨h1,h2,h3⟩:=aq5 L (l.length-1) 0 _ (by omega) av (by rw[qj];omega) (.inr rfl)
 have hlen:=aq3 (lt:=lt) (l.length-1) (l.length-1) 0 (jZ l 0 (l.length-1)) (by omega)
 rw[qj] at hlen
 have e:mw lt (l.length-1) (jZ l 0 (l.length-1)) 0=lk lt l++ [l.getD 0 default]:=by
  unfold lk;generalize fe:mw lt (l.length-1) (jZ l 0 (l.length-1)) 0=D at*;have y9:D≠[]:=λe=>by grind
  have Iv:=acf y9;rw[List.getLast_eq_getElem] at Iv;have M:D[D.length-1]'(by omega)=l.getD 0 default:=by
   have br:=h3 (l.length-1) (cw _);rw[dj (by omega),dj (by rw[qj];omega)] at br;have bL:D[l.length-1]'(by omega)=(jZ l 0 (l.length-1)).getD (l.length-1) default:=by grind
   rw[DQ (by omega) (by omega) (by omega),b3 rfl] at bL;rw[<-bL];congr 1;omega
  rw[M] at Iv;exact Iv.symm
 have ad:(l.getD 0 default::lk lt l).Perm l:=by have:=h1.trans (DR (by omega) (by omega));rw[e] at this;exact(mH _ _).symm.trans this
 have aJq:(lk lt l).length=l.length-1:=by grind
 refine⟨ad,λi i0 i1=>?_,λy aj=>?_,e⟩
 have bL:=h2 i i0 (by omega)
 grind
 have FI:y∈l:=ad.mem_iff.1 (iX _ aj)
 obtain⟨i,hi,rfl⟩:=oX FI
 have:=cb.root L i hi
 grind
variable {recv:ap} {aM:H->J α->Prop}
theorem aBZ(dn:vA recv aM lt){l:J α}{j:o}{K:H->Prop}(ae:aM u l)(h0:0<=j)(aP:j<l.length)(au:∀u',aM u' (rU lt l j.toNat)->K u'):Kw recv j u K:=by
 have fX:=dn.small ae;apply aoe;refine⟨λx v=>0<=x/\∃bH,aM v bH/\bH.length=l.length/\x<l.length/\rU lt bH x.toNat=rU lt l j.toNat,λx _=>x.toNat,⟨h0,l,ae,rfl,aP,rfl⟩,?_⟩;rintro x v ⟨bK,bH,fS,hlen,ch,he⟩;refine⟨⟨by omega,by omega⟩,by decide,?_⟩;by_cases M:x=0;subst M;refine⟨⟨by decide,by decide⟩,λ_=>au _ ?_,λh=>bf (by decide) h⟩;rw[<-he];unfold rU;rw[Gu (by rfl)];exact fS
 .have ht:ff (x-1) 2=(x-1)/2:=Dz (by omega);have tp:((x-1)/2).toNat=dh x.toNat:=by unfold dh;omega
  rw[ht];refine⟨⟨by omega,by omega⟩,λh=>by omega,λ_=>dn.less fS bK (by omega) (by omega) (by omega) ?_⟩;rw[tp];refine⟨λaa=>au _ ?_,λaa=>dn.swap fS (by omega) (by omega) bK (by omega) λu' dJ=>⟨⟨by omega,_,dJ,by rw[qj];exact hlen,by omega,?_⟩,by dsimp only;omega⟩⟩;rw[<-he];unfold rU;rw[JR (by omega),bF aa];exact fS
  .rw[tp,<-he]
   conv=>rhs;unfold rU
   grind
theorem aBY(dn:vA recv aM lt){l:J α}{j n:o}{K:ay->H->Prop}(ae:aM u l)(h0:0<=j)(ag:n<=l.length)(au:∀b u',aM u' (mw lt n.toNat l j.toNat)->K b u')(aP:j<n∨j<=0)(avp:j<l.length):Kv recv j n u K:=by
 have fX:=dn.small ae;apply aod;intro iK iM;refine⟨λx v=>0<=x/\(x<n∨x<=0)/\x<l.length/\∃bH,aM v bH/\bH.length=l.length/\mw lt n.toNat bH x.toNat=mw lt n.toNat l j.toNat,λx _=>(n-x).toNat,⟨h0,aP,avp,l,ae,rfl,rfl⟩,?_⟩;rintro x v ⟨bK,SG,eY,bH,fS,hlen,he⟩;have done:mw lt n.toNat bH x.toNat=bH->iK x v:=λh=>iM _ _ (au _ _ (by rw[<-he,h];exact fS));refine⟨⟨by omega,by omega⟩,⟨by omega,by omega⟩,λw0 AJ=>⟨λh=>done ?_,λh=>⟨λh2=>by omega,λ_=>AJ _ ?_⟩⟩⟩;unfold mw;rw[JR (by omega)];clear AJ w0;intro Ec EO;have eJ:∀c:o,c.toNat=oT lt n.toNat bH x.toNat->0<c->c<n->x<c->Ec c v:=by
  intro c I bA c1 pR;refine EO _ _ (dn.less fS (by omega) (by omega) bK (by omega) ⟨λaa=>done ?_,λaa=>dn.swap fS bK (by omega) (by omega) (by omega) λu' dJ=>⟨⟨by omega,.inl c1,by omega,_,dJ,by rw[qj];exact hlen,?_⟩,by dsimp only;omega⟩⟩);unfold mw
  grind
  .rw[<-he]
   conv=>rhs;unfold mw
   grind
 clear EO;have aT:(2*x+1).toNat=2*x.toNat+1:=by omega
 have aN:(2*x+1+1).toNat=2*x.toNat+2:=by omega
 refine⟨⟨by omega,by omega⟩,λh2=>dn.less fS (by omega) (by omega) (by omega) (by omega) ⟨λaa=>eJ _ ?_ (by omega) h2 (by omega),λaa=>eJ _ ?_ (by omega) (by omega) (by omega)⟩,λh2=>eJ _ ?_ (by omega) (by omega) (by omega)⟩;rw[aT,aN] at aa;unfold oT
 grind
 rw[aT,aN] at aa;unfold oT
 grind
 unfold oT
 grind
theorem aBX(dn:vA recv aM lt){l:J α}{x:ap}{y:α}{K:H->Prop}
  (ZS:∀{K:H->Prop},(∀u',aM u' (l++ [y])->K u')->nv aH recv "Push" #[x] [] u K)
  (au:∀u',aM u' (zC lt l y)->K u'):Ab recv x u K:=by
 apply aoc
 refine ZS λu' ae=>dn.len ae ?_
 have fX:=dn.small ae
 simp only[gG,x9] at fX ⊢
 refine⟨⟨by omega,by omega⟩,aBZ dn ae (by omega) (by grind) λcF h2=>au cF ?_⟩
 have e:(((l.length+1:O):o)-1).toNat=l.length:=by omega
 rw[e] at h2
 exact h2
def aBW(dn:vA recv aM lt)(L:o5 lt){V:α->ap}{l:J α}{K:ap->H->Prop}(ae:aM u l)(cb:iJ lt l.length l)(an:0<l.length)
  (ZR:∀{u':H} {bH:J α} {x:α} {K:ap->H->Prop},aM u' (bH++ [x])->(∀jv,aM jv bH->K (V x) jv)->nv aH recv "Pop" #[] [.one .val] u' K)
  (au:∀u',aM u' (lk lt l)->K (V (l.getD 0 default)) u'):D4 recv u K:=by
 obtain⟨_,_,_,he⟩:=Oa L cb an
 apply aob
 have fX:=dn.small ae
 refine dn.len ae ⟨⟨by omega,by omega⟩,dn.swap ae (by omega) (by omega) (by omega) (by omega) λaR ea=>?_⟩
 have aT:(((l.length:o)-1).toNat)=l.length-1:=by omega
 rw[aT,show(0:o).toNat=0 from rfl] at ea
 refine aBY dn ea (by omega) (by rw[qj];omega) (λb cF dJ=>?_) (.inr (by omega)) (by rw[qj];omega)
 rw[aT,show(0:o).toNat=0 from rfl,he] at dJ
 exact ZR dJ au
end
end
section
variable{q:J o}{b k d:o}
abbrev ke:=o×J o
inductive bI where
 |mk (aC:o) (bm hi:J o) (cD:o) (rows:J ke) (kids:J bI)
instance:lF bI:=⟨.mk 1 [] [] 0 [] []⟩
namespace bI
def aC:bI->o| .mk s _ _ _ _ _=>s
def bm:bI->J o| .mk _ l _ _ _ _=>l
def hi:bI->J o| .mk _ _ h _ _ _=>h
def cD:bI->o| .mk _ _ _ r _ _=>r
def rows:bI->J ke| .mk _ _ _ _ r _=>r
def kids:bI->J bI| .mk _ _ _ _ _ k=>k
mutual
def all:bI->J ke
 | .mk _ _ _ _ rows kids=>rows++j2 kids
def j2:J bI->J ke
 | []=>[]|p::c9=>p.all++j2 c9
end
mutual
def size:bI->O
 | .mk _ _ _ _ _ kids=>1+hB kids
def hB:J bI->O
 | []=>0|p::c9=>p.size+hB c9
end
def hI(p:bI)(ids:J o):b1:=⟨p.aC,⟨none,0,0⟩,⟨none,0,0⟩,p.cD,⟨none,0,0⟩,p.bm,p.hi,ids⟩
def all_eq(p:bI):p.all=p.rows++j2 p.kids:=by cases p;rfl
def size_eq(p:bI):p.size=1+hB p.kids:=by cases p;rfl
end bI
def aKJ(x:ke):ax:=⟨x.1,⟨none,0,0⟩,x.2⟩
def CY(q:J o)(x:ke):bN:=(x.1,gb x.2 q x.2.length)
def aJg(q:J o)(r:ax):CY q r.bn=hj q r:=rfl
inductive gr(d:o):bI->Prop where
 |mk {p:bI} (kb:l3 (p.hI []) d) (ins:∀x∈p.all,mq (p.hI []) x.2) (kids:∀k∈p.kids,gr d k):gr d p
def gr.kb{p:bI}(h:gr d p):l3 (p.hI []) d:=by cases h;assumption
def gr.ins{p:bI}(h:gr d p):∀x∈p.all,mq (p.hI []) x.2:=by cases h;assumption
def gr.kids{p:bI}(h:gr d p):∀k∈p.kids,gr d k:=by cases h;assumption
abbrev l2:=o×bI
def blt(a b:l2):ay:=decide (a.1<b.1)
def Ep:o5 blt where
 asymm a b h:=by simp[blt] at*;omega
 trans a b c h k:=by simp[blt] at*;omega
def pI(q:J o)(l:J l2)(p:bI):J l2:=zC blt l (nS (p.hI []) q,p)
structure mS where
 heap:J l2
 seen:J ke
 rest:J (bI×J ke)
def yj(q:J o)(k:o)(s:mS):J bN:=e1 k.toNat (s.seen.map (CY q))
def Lu(q:J o)(k:o)(s:mS)(b:o):Prop:=k<=(s.seen.length:o)/\((yj q k s).getD (k.toNat-1) default).2<b
def yN(q:J o)(k b:o)(s:mS):Prop:=s.heap≠[]/\(s.seen.length:o)<b/\¬Lu q k s (s.heap.getD 0 default).1
def qh(q:J o)(b:o)(s:mS):mS:=
 ⟨(s.heap.getD 0 default).2.kids.foldl (pI q) (lk blt s.heap),s.seen++(s.heap.getD 0 default).2.rows.take (b-s.seen.length).toNat,
  if((s.heap.getD 0 default).2.rows.length:o)<=b-s.seen.length then s.rest else s.rest++ [((s.heap.getD 0 default).2,(s.heap.getD 0 default).2.rows.drop (b-s.seen.length).toNat)]⟩
open Classical in
def u7(q:J o)(k b:o):O->mS->mS
 |0,s=>s|f+1,s=>if yN q k b s then u7 q k b f (qh q b s) else s
def Uv(q:J o)(c9:J bI):mS:=⟨c9.foldl (pI q) [],[],[]⟩
def o1(q:J o)(k b:o)(c9:J bI):mS:=u7 q k b (bI.hB c9) (Uv q c9)
def ou(s:mS):J (bI×J ke):=s.rest++(s.heap.map λx=>(x.2,x.2.all)).filter λx=>!x.2.isEmpty
structure sU(q:J o)(b:o)(P:J ke)(s:mS):Prop where
 ad:iJ blt s.heap.length s.heap
 tD:∀x∈s.heap,x.1=nS (x.2.hI []) q/\gr q.length x.2
 perm:(s.seen++(s.rest.flatMap (·.2)++s.heap.flatMap λx=>x.2.all)).Perm P
 vM:(s.seen.length:o)<=b
 cut:s.rest≠[]->(s.seen.length:o)=b
 left:∀x∈s.rest,gr q.length x.1/\x.2≠[]/\∀y∈x.2,y∈x.1.all
theorem foldl_add:∀(c9:J bI) (l:J l2),iJ blt l.length l->iJ blt (c9.foldl (pI q) l).length (c9.foldl (pI q) l)/\(c9.foldl (pI q) l).Perm (l++c9.map λp=>(nS (p.hI []) q,p)):=by
 intro c9;induction c9 with
 |nil=>simp_all|cons p c9 aW=>
  intro l h;obtain⟨h1,h2⟩:=az5 Ep (y:=((nS (p.hI []) q,p):l2)) h;obtain⟨h3,br⟩:=aW _ h2;refine⟨h3,br.trans ?_⟩;rw[iw];refine(h1.append_right _).trans ?_
  simp_all
def yy(c9:J bI):bI.j2 c9=c9.flatMap λp=>p.all:=by
 induction c9 with
 |nil=>rfl|cons p c9 aW=>rw[jr,<-aW];rfl
def ans{c9:J bI}(aa:0<=b)(h:∀p∈c9,gr q.length p):sU q b (bI.j2 c9) (Uv q c9):=by
 have h0:iJ blt ([]:J l2).length []:=λi _ hi=>by simp at hi
 obtain⟨h1,h2⟩:=foldl_add (q:=q) c9 [] h0;rw[mm] at h2;refine⟨h1,λx M=>?_,?_,by show((0:O):o)<=b;omega,λe=>bf rfl e,λx M=>by cases M⟩;obtain⟨p,ad,rfl⟩:=bQ.1 (h2.mem_iff.1 M);exact⟨rfl,h p ad⟩;show([]++([]++_)).Perm _;rw[mm,mm,yy];refine(h2.flatMap_right _).trans (acp ?_);rw[BA]
theorem ase{α:Type}[lF α]{l:J α}(h:l≠[]):l.getD 0 default∈l:=by
 grind
theorem anu{P:J ke}{s:mS}(h:sU q b P s)(Z:yN q k b s):sU q b P (qh q b s):=by
 obtain⟨an,bP,_⟩:=Z;have aq:0<s.heap.length:=yb.2 an;obtain⟨gU,du,nU,_⟩:=Oa Ep h.ad aq;have oj:s.rest=[]:=by by_cases e:s.rest=[];exact e;have:=h.cut e;omega
 obtain⟨aaJ,Ny⟩:=h.tD _ (ase an);unfold qh;generalize M:s.heap.getD 0 default=x at*;obtain⟨f1,f2⟩:=foldl_add (q:=q) x.2.kids _ du;refine⟨f1,λy aj=>?_,?_,?_,λe=>?_,λy aj=>?_⟩;rcases dT.1 (f2.mem_iff.1 aj) with h1|h1;exact h.tD y (gU.mem_iff.1 (iX _ h1));obtain⟨p,ad,rfl⟩:=bQ.1 h1;exact⟨rfl,Ny.kids p ad⟩;have gF:=h.perm;rw[oj,JS,mm] at gF;refine JQ ?_ gF;show((s.seen++x.2.rows.take (b-s.seen.length).toNat)++(wC (λy:bI×J ke=>y.2) (if(x.2.rows.length:o)<=b-s.seen.length then s.rest else s.rest++ [(x.2,x.2.rows.drop (b-s.seen.length).toNat)])++wC (λx=>x.2.all) (x.2.kids.foldl (pI q) (lk blt s.heap)))).Perm _;rw[wA];refine List.Perm.append_left _ ?_;have aI7:(wC (λx=>x.2.all) (x.2.kids.foldl (pI q) (lk blt s.heap))).Perm ((lk blt s.heap).flatMap (λx=>x.2.all)++bI.j2 x.2.kids):=by refine(f2.flatMap_right _).trans ?_;rw[hb,BA,yy]
 have hold:(s.heap.flatMap λx=>x.2.all).Perm (x.2.all++(lk blt s.heap).flatMap λx=>x.2.all):=by grind
 refine JQ ?_ hold.symm;rw[bI.all_eq];have key:(x.2.rows.take (b-s.seen.length).toNat++wC (·.2) (if(x.2.rows.length:o)<=b-s.seen.length then s.rest else s.rest++ [(x.2,x.2.rows.drop (b-s.seen.length).toNat)]))=x.2.rows:=by rw[oj];split;rw[JS,ml,gC (by omega)];simp
 rw[<-wA,key]
 grind
 grind
 grind
 change y∈(if(x.2.rows.length:o)<=b-s.seen.length then s.rest else s.rest++ [(x.2,x.2.rows.drop (b-s.seen.length).toNat)]) at aj;rw[oj] at aj;split at aj;cases aj;rename_i I;rw[mm] at aj;have:=hZ.1 aj;subst this;refine⟨Ny,λe=>?_,λW aE=>?_⟩;have:=eI iY e
 grind
 rw[bI.all_eq]
 grind
def aBq(a b:J bI):bI.hB (a++b)=bI.hB a+bI.hB b:=by
 induction a with
 |nil=>simp[bI.hB]|cons p a aW=>simp only[x7,bI.hB,aW];omega
def Ub{a b:J bI}(h:a.Perm b):bI.hB a=bI.hB b:=by
 induction h with
 |nil=>rfl|cons x _ aW=>simp only[bI.hB,aW]|swap x y l=>simp only[bI.hB];omega|trans _ _ h1 h2=>exact h1.trans h2
def anx{P:J ke}{s:mS}(h:sU q b P s)(Z:yN q k b s):bI.hB ((qh q b s).heap.map (·.2))+1=bI.hB (s.heap.map (·.2)):=by
 have aq:0<s.heap.length:=yb.2 Z.1;obtain⟨gU,du,nU,_⟩:=Oa Ep h.ad aq;obtain⟨f1,f2⟩:=foldl_add (q:=q) (s.heap.getD 0 default).2.kids _ du;have aT:bI.hB ((qh q b s).heap.map (·.2))=bI.hB ((lk blt s.heap).map (·.2))+bI.hB (s.heap.getD 0 default).2.kids:=by show bI.hB (List.map (λx=>x.2) (List.foldl (pI q) (lk blt s.heap) (s.heap.getD 0 default).2.kids))=_;rw[Ub (f2.map _),en,aBq,e4];congr 2;exact Gv _
 have aN:bI.hB (s.heap.map (·.2))=(s.heap.getD 0 default).2.size+bI.hB ((lk blt s.heap).map (·.2)):=by rw[<-Ub (gU.map _),iw];rfl
 rw[aT,aN,bI.size_eq];omega
theorem aym{P:J ke}:∀(f:O) (s:mS),sU q b P s->bI.hB (s.heap.map (·.2))<=f->sU q b P (u7 q k b f s)/\¬yN q k b (u7 q k b f s):=by
 intro f;induction f with
 |zero=>
  intro s h ae;refine⟨h,λZ=>?_⟩;have an:=Z.1;cases e:s.heap with
  |nil=>exact an e|cons x l=>rw[e] at ae;simp only[iw,bI.hB] at ae;have:=bI.size_eq x.2;omega
 |succ f aW=>
  intro s h ae;unfold u7;split;rename_i Z;have:=anx h Z;exact aW _ (anu h Z) (by omega)
  grind
def aHS{c9:J bI}(aa:0<=b)(h:∀p∈c9,gr q.length p):sU q b (bI.j2 c9) (o1 q k b c9)/\¬yN q k b (o1 q k b c9):=by
 refine aym _ _ (ans aa h) ?_;have h0:iJ blt ([]:J l2).length []:=λi _ hi=>by simp at hi
 obtain⟨h1,h2⟩:=foldl_add (q:=q) c9 [] h0;rw[mm] at h2;show bI.hB ((c9.foldl (pI q) []).map (·.2))<=_;rw[Ub (h2.map _),e4];exact JT (eI _ (Gv _))
end
section
variable{u ak v:H}{s t:N}{n:O}{K:H->Prop}{r:b1}{q:J o}{p:bI}
def aAc:ov aH 332 "Len" 268 ao=ai:=by kernel_rfl
def aAd:ov aH 332 "Less" 330 ao=ai:=by kernel_rfl
def aAg:ov aH 332 "Swap" 331 ao=ai:=by kernel_rfl
def aAf:ov aH 332 "Push" 333 ai=ai:=by kernel_rfl
def aAe:ov aH 332 "Pop" 332 ai=ai:=by kernel_rfl
def aBo:q5 aH 331=some (.one .slice):=by kernel_rfl
def adY:aH.underlying 332=some (.pointer 331):=by kernel_rfl
def anF:ku aH 331=some (334,3,24,[.pointer none,.int .u64 0,.int .u64 0]):=by kernel_rfl
def aqj(x:aA a8)(y W:o):kO aH 331 1 #[(0,.agg #[.pointer x,.int .u64 y,.int .u64 W])]=some (334,[.pointer x,.int .u64 y,.int .u64 W]):=by kernel_rfl
def aAh:hy aH 268=ai:=by kernel_rfl
def aAi:hy aH 330=ai:=by kernel_rfl
def aAl:hy aH 331=ai:=by kernel_rfl
def aAk:hy aH 333=ai:=by kernel_rfl
def aAj:hy aH 332=ai:=by kernel_rfl
abbrev k7:=a8×l2
instance:lF k7:=⟨(⟨0,0,none⟩,default)⟩
def x0(a b:k7):ay:=blt a.2 b.2
def rj(e:k7):J ap:=[.pointer (some e.1),.int .u64 (cQ e.2.1),.int .u64 (cS e.2.1)]
def Lk(e:k7):(rj e).length=3:=rfl
def agi(e:k7):∀v∈rj e,v.oneCell'=ai:=by simp[rj,cI]
def Hs(u:H)(s:N)(l:J k7):Prop:=bw u s 3 (l.flatMap rj)
def Hs.len{l:J k7}(h:Hs u s l):s.n=l.length:=hf Lk (by decide) h
def aD.kI{e:O}{l:J k7}(h:aD ak u e 3 s (l.flatMap rj)):Hs u s l:=h.own.cK
def Hs.at{l:J k7}(h:Hs u s l){x:o}(h0:0<=x)(h1:x<(s.n:o)):∃p,s.a=some p/\∃q:k7,l[x.toNat]?=some q/\
  u.cell? (p.add (x.toNat*3))=some (.pointer (some q.1))/\u.cell? ((p.add (x.toNat*3)).add 1)=some (.int .u64 (cQ q.2.1))/\u.cell? ((p.add (x.toNat*3)).add 2)=some (.int .u64 (cS q.2.1)):=by
 have ag:=h.len
 have aq:x.toNat<l.length:=by omega
 obtain⟨p,ad,I⟩:=bw.elem Lk (by decide) h (dj aq)
 exact⟨p,ad,_,dj aq,I 0 _ rfl,I 1 _ rfl,I 2 _ rfl⟩
def ar2(l:J k7)(x:k7):l.flatMap rj++ [.pointer (some x.1),.int .u64 (cQ x.2.1),.int .u64 (cS x.2.1)]=(l++ [x]).flatMap rj:=by simp[rj]
structure Aj(ak:H)(n:O)(u:H)(l:J k7):Prop where
 ex:∃s:N,u n=some (.cells #[.slice s.a s.n s.c] 331 (0,0))/\aD ak u 334 3 s (l.flatMap rj)/\s.al≠some n
 out:ak n=none
 small:l.length<=10000000
def GA(n:O):ap:=.iface 332 (.pointer (some (cp n 0 none)))
def acy{name:String}{f:j8}(hm:ov aH 332 name f ao=ai)(ag:u n=some (.cells #[.slice s.a s.n s.c] 331 (0,0)))(w:ci)(hw:Sub u w):
  (method (aH.types.size+tM) 332 (.pointer (some (cp n 0 none))) name).run aH w=.ok (f,.slice s.a s.n s.c) w:=by
 obtain⟨i,m,h1,h2,h3,br⟩:=Bn hm
 obtain⟨dY,dk⟩:=AD
 rw[dk]
 refine acI h1 h2 h3 br adY ?_
 have I:u.cell? (cp n 0 none)=some (.slice s.a s.n s.c):=aZ ag 0
 have yT:=hw.cell I
 exact Jc aBo (cp n 0 none) (vs:=[.slice s.a s.n s.c]) rfl (ach _ _ _ _ _ rfl (λj v aP=>by
  cases j with
  |zero=>simp at aP;subst aP;exact yT|succ j=>simp at aP)) (λc I=>⟨_,rfl,yT⟩)
theorem aBR{l:J k7}{i j:o}{K:ay->H->Prop}(ae:Hs u s l)(i0:0<=i)(i1:i<l.length)(e9:0<=j)(kU:j<l.length)
  (h:K (x0 (l.getD i.toNat default) (l.getD j.toNat default)) u):aeq s i j u K:=by
 have ag:=ae.len
 apply aET
 obtain⟨p,ad,x,M,bA,c1,c2⟩:=ae.at e9 (show j<(s.n:o) by omega)
 obtain⟨q,aL,y,aj,d0,d1,d2⟩:=ae.at i0 (show i<(s.n:o) by omega)
 rw[show l.getD i.toNat default=y by grind,show l.getD j.toNat default=x by grind] at h
 refine⟨q,aL,⟨i0,by omega⟩,p,ad,⟨e9,by omega⟩,_,d1,_,by rw[Addr.w4];exact d2,_,c1,_,by rw[Addr.w4];exact c2,BO (rF _) (rF _) ?_⟩
 rw[l0,l0]
 have key:∀W:o,(W<0↔y.2.1<x.2.1)->K (decide (W<0)) u:=λW aE=>by
  have:decide (W<0)=x0 y x:=by unfold x0 blt;simp[aE]
  rw[this];exact h
 refine key _ ?_
 omega
theorem aBS{l:J k7}{i j:o}(ac:aD ak u 334 3 s (l.flatMap rj))(i0:0<=i)(i1:i<l.length)(e9:0<=j)(kU:j<l.length)
  (h:∀u',aD ak u' 334 3 s ((jZ l i.toNat j.toNat).flatMap rj)->hc u u' s->K u'):aer s i j u K:=by
 have ae:=ac.kI
 have ag:=ae.len
 apply aEW
 obtain⟨p,ad,x,M,bA,c1,c2⟩:=ae.at e9 (show j<(s.n:o) by omega)
 obtain⟨q,aL,y,aj,d0,d1,d2⟩:=ae.at i0 (show i<(s.n:o) by omega)
 refine⟨p,ad,⟨e9,by omega⟩,q,aL,⟨i0,by omega⟩,_,bA,_,c1,_,c2,_,d0,_,d1,_,d2,q,aL,⟨i0,by omega⟩,?_⟩
 refine aD.store (enc:=rj) Lk ac (by decide) (i:=i.toNat) (by omega) (y:=x) (agi x) aL λaR jl yV _=>⟨p,ad,⟨e9,by omega⟩,?_⟩
 refine aD.store (enc:=rj) Lk jl (by decide) (i:=j.toNat) (by simp;omega) (y:=y) (agi y) ad λcF dt jy _=>h cF ?_ (λb z aa an=>jy b z (yV b z aa an) an)
 have ey:i.toNat<l.length:=by omega
 have kC:j.toNat<l.length:=by omega
 have ex:l[j.toNat]=x:=by grind
 have r2:l[i.toNat]=y:=by grind
 rw[GX ey kC,ex,r2]
 exact dt
def Aj.set{u':H}{l bH:J k7}(h:Aj ak n u l)(ag:u n=some (.cells #[.slice s.a s.n s.c] 331 (0,0)))(ae:s.al≠some n)
  (ac:aD ak u' 334 3 s (bH.flatMap rj)) (he:hc u u' s) (aq:bH.length=l.length):Aj ak n u' bH:=
 ⟨⟨s,he _ _ ag ae,ac,ae⟩,h.out,by rw[aq];exact h.small⟩
def alm(ak:H)(n:O):vA (GA n) (Aj ak n) x0 where
 len:=by intro u l K h au;obtain⟨s,ag,ac,_⟩:=h.ex;refine⟨_,_,_,_,rfl,λw hw=>acy aAc ag w hw,hs aAh,aoa s u K ?_⟩;rw[ac.kI.len];exact au
 less:=by intro u l i j K h i0 i1 e9 kU au;obtain⟨s,ag,ac,_⟩:=h.ex;exact⟨_,_,_,_,rfl,λw hw=>acy aAd ag w hw,hs aAi,aBR ac.kI i0 i1 e9 kU au⟩
 swap:=by intro u l i j K h i0 i1 e9 kU au;obtain⟨s,ag,ac,an⟩:=h.ex;exact⟨_,_,_,_,rfl,λw hw=>acy aAg ag w hw,hs aAl,aBS ac i0 i1 e9 kU λu' bR he=>au u' (h.set ag an bR he (qj _ _ _))⟩
 small:=λh=>by have:=h.small;omega
def aln:o5 x0 where
 asymm:=λ_ _ h=>Ep.asymm _ _ h
 trans:=λ_ _ _ h k=>Ep.trans _ _ _ h k
def apH(h:k7)(w:ci):(so (.iface 334 (.agg #[.pointer (some h.1),.int .u64 (cQ h.2.1),.int .u64 (cS h.2.1)])) 20 334 ao).run aH w=
  .ok (.agg #[.pointer (some h.1),.int .u64 (cQ h.2.1),.int .u64 (cS h.2.1)]) w:=by kernel_rfl
def wF(h:k7):ap:=.iface 334 (.agg #[.pointer (some h.1),.int .u64 (cQ h.2.1),.int .u64 (cS h.2.1)])
def amc{h:k7}{K:aA a8->o->o->H->Prop}(au:K (some h.1) (cQ h.2.1) (cS h.2.1) u):c7 aH (so (wF h) 20 334 ao) [.agg [.ptr,.int .u64,.int .u64]] u K:=
 c7.pure [.pointer (some h.1),.int .u64 (cQ h.2.1),.int .u64 (cS h.2.1)] (λw _=>apH h w) (.cons (t:=.ptr) (some h.1) (.cons (t:=.int .u64) _ (.cons (t:=.int .u64) _ .nil))) au
def aAo{l:J k7}{x:k7}(h:Aj ak n u l)(aq:l.length<10000000)(au:∀u',Aj ak n u' (l++ [x])->K u'):
  nv aH (GA n) "Push" #[wF x] [] u K:=by
 obtain⟨s,ag,ac,an⟩:=h.ex
 obtain⟨i,m,h1,h2,h3,br⟩:=Bn aAf
 obtain⟨dY,dk⟩:=AD
 refine⟨_,_,_,_,rfl,λw _=>by rw[dk];exact J1 h1 h2 h3 br adY,hs aAk,?_⟩
 refine aEV (some (cp n 0 none)) _ u K ?_
 refine⟨_,rfl,s,aZ ag 0,amc ⟨H.le.refl u,?_⟩⟩
 have ad:=zT (P:=aH) (K:=λga o0=>∃OG:a8,some (cp n 0 none)=some OG/\H.aM o0 OG [.slice ga.a ga.n ga.c] K) anF (aqj (some x.1) (cQ x.2.1) (cS x.2.1)) (by decide) rfl (by simp[cI]) ac (by have:=ac.kI.len;omega) (by have:=ac.kI.len;omega) λar u' bR hY he hblk _=>⟨_,rfl,?_⟩
 exact ad
 have fK:=he _ _ ag an
 have kS:ar.al≠some n:=λe=>by rcases hblk n e with h|h;exact an h;rw[ag] at h;cases h
 refine⟨_,_,fK,rfl,by simp,by simp[cI],au _ ⟨⟨ar,bh _ _ _,⟨?_,?_,bR.fresh⟩,kS⟩,h.out,by simp;omega⟩⟩
 rw[ar2] at bR
 exact bR.own.le λb z aa cC=>by rw[bz _ _ (λe=>kS (by rw[aa,e]))];exact cC
 intro b z aa
 rw[bz _ _ (λe=>by rw[e,h.out] at aa;cases aa)]
 exact bR.le b z aa
theorem aAn{l:J k7}{K:ap->H->Prop}(h:Aj ak n u l)(aq:0<l.length)(au:∀u',Aj ak n u' l.dropLast->K (wF (l.getD (l.length-1) default)) u'):
  nv aH (GA n) "Pop" #[] [.one .val] u K:=by
 obtain⟨s,ag,ac,an⟩:=h.ex
 obtain⟨i,m,h1,h2,h3,br⟩:=Bn aAe
 obtain⟨dY,dk⟩:=AD
 refine⟨_,_,_,_,rfl,λw _=>by rw[dk];exact J1 h1 h2 h3 br adY,hs aAj,?_⟩
 refine aEU (some (cp n 0 none)) u K ?_
 have dS:=ac.kI.len
 have I:u.cell? (cp n 0 none)=some (.slice s.a s.n s.c):=aZ ag 0
 have fX:=h.small
 obtain⟨p,ad,x,M,bA,c1,c2⟩:=ac.kI.at (x:=(s.n:o)-1) (by omega) (by omega)
 have eY:l.getD (l.length-1) default=x:=by simp_all
 intro iK iM
 refine⟨_,rfl,_,rfl,s,I,s,I,⟨by omega,by omega⟩,p,ad,⟨by omega,by omega⟩,_,bA,_,c1,_,c2,λm hm=>⟨bX _ hm,?_⟩⟩
 have rq:m≠n:=λe=>by grind
 refine⟨_,_,bh _ _ _,rfl,by simp,by simp[cI],iM _ _ ⟨_,rfl,_,rfl,s,?_,s,?_,⟨by omega,by omega⟩,?_⟩⟩
 simp only[H.cell?,bz _ _ (e3 rq)];simpa[H.cell?] using I
 simp only[H.cell?,bz _ _ (e3 rq)];simpa[H.cell?] using I
 have fQ:s.n<=s.c:=(bw.cap ac.own.cK)
 obtain⟨ab,AQ,uF⟩:=ac.front (m:=s.n-1) (by omega)
 refine kJ (P:=aH) anF (l:=0) (h:=s.n-1) (m:=s.c) (.inl ⟨rfl,rfl⟩) (.inr ?_) (.inl ⟨rfl,rfl⟩) (by omega) (by omega) (cw _) fQ ⟨_,rfl,?_⟩
 grind
 refine⟨_,_,by simp only[];rw[bz _ _ (e3 rq),bz _ _ (e3 rq)];exact ag,rfl,by simp,by simp[cI],?_⟩
 have c4:∀(j:O) v,([.pointer (some x.1),.int .u64 (cQ x.2.1),.int .u64 (cS x.2.1)]:J ap)[j]?=some v->H.cell? ((((u.ins m (.cells #[.pointer none,.int .u64 0,.int .u64 0] 334 (0,0))).ins m (.cells (wr #[.pointer none,.int .u64 0,.int .u64 0] 0 [.pointer (some x.1),.int .u64 (cQ x.2.1),.int .u64 (cS x.2.1)]) 334 (0,0))).ins n
   (.cells (wr #[.slice s.a s.n s.c] 0 [.slice (s.part 0 (s.n-1) s.c 3).a (s.part 0 (s.n-1) s.c 3).n (s.part 0 (s.n-1) s.c 3).c]) 331 (0,0)))) ((cp m 0 none).add j)=some v:=by
  intro j v aP
  simp only[H.cell?,ib,kY,bz _ _ rq,bh]
  rcases j with _|_|_|j
  simpa[wr] using aP
  simpa[wr] using aP
  simpa[wr] using aP
  simp at aP
 have d0:=c4 0 _ rfl
 have d1:=c4 1 _ rfl
 have d2:=c4 2 _ rfl
 rw[Addr.add_zero'] at d0
 refine⟨_,d0,_,d1,_,d2,?_⟩
 have e:wF x=wF (l.getD (l.length-1) default):=by rw[eY]
 show K (wF x) _
 rw[e]
 have De:(l.flatMap rj).take ((s.n-1)*3)=l.dropLast.flatMap rj:=by rw[yK Lk,dS,List.dropLast_eq_take]
 rw[De] at ab
 have fV:(s.part 0 (s.n-1) s.c 3).al≠some n:=by rw[AQ];exact an
 refine au _ ⟨⟨_,bh _ _ _,⟨?_,?_,ab.fresh⟩,fV⟩,h.out,by simp;omega⟩
 refine ab.own.le λb z aa cC=>?_
 rw[bz _ _ (λe=>fV (by rw[aa,e])),bz _ _ (λe=>by grind),bz _ _ (λe=>by grind)]
 exact cC
 intro b z aa
 have RD:=ab.le b z aa
 rw[bz _ _ (λe=>by rw[e,h.out] at aa;cases aa),bz _ _ (λe=>by grind),bz _ _ (λe=>by grind)]
 exact RD
def du(k:O):o:=((2 ^ k:O):o)
def akX(k:O):1<=du k:=acd.2 (Nat.pow_pos (by decide))
def Te(k:O):du (k+1)=2*du k:=by show((2 ^ (k+1):O):o)=2*((2 ^ k:O):o);omega
def azF{k:O}(h:k<=63):du k<=9223372036854775808:=by have h1:(2 ^ k:O)<=2 ^ 63:=Nat.pow_le_pow_right (by decide) h;have h2:du k<=((2 ^ 63:O):o):=Int.ofNat_le.2 h1;omega
theorem anf{a b:o}{K:o->H->Prop}(az:cE a)(aa:cE b)(h:K (rt (dw a b)) u):Qi a b u K:=by
 apply aHP;have oS:0<=dw a b:=by unfold dw;obtain⟨_,_⟩:=az;obtain⟨_,_⟩:=aa;omega
 have aaD:dw a b<340282366920938463463374607431768211456:=by unfold dw;obtain⟨_,_⟩:=az;obtain⟨_,_⟩:=aa;omega
 refine⟨λr x v=>v=u/\∃(k:O) (c:o),k<=63/\x=du k/\0<=c/\r=c*du (k+1)/\r+du (k+1)<=18446744073709551616/\r*r<=dw a b/\dw a b<(r+du (k+1))*(r+du (k+1)),λ_ x _=>x.toNat,
  ⟨rfl,63,0,by omega,by decide,by omega,by simp,by decide,by simpa using oS,?_⟩,?_⟩
 have e:du (63+1)=18446744073709551616:=by decide
 rw[e];omega;rintro r x v ⟨rfl,k,c,hk,rfl,I,U,aJQ,h1,h2⟩;have ad:=akX k;have fL:=Te k;have lz:=azF hk;have oj:0<=r:=by rw[U];exact sy I (by omega)
 have ZG:bits .or .u64 r (du k)=r+du k:=by
  have aN:(2:o) ^ (k+1)=du (k+1):=by simp[du]
  have aga:(2:o) ^ 64=18446744073709551616:=by decide
  refine bits_join .u64 64 (by decide) (λn h0 h1=>wraps_u64 n h0 h1) (k+1) r (du k) oj ?_ (by rw[aga];omega) (by omega) (by rw[aN];omega) (by rw[aga];omega);rw[aN,U];exact Int.mul_emod_left _ _
 rw[ZG];have ajB:cE (r+du k):=⟨by omega,by omega⟩;refine Up ajB ajB λx y M aj ir=>⟨H.le.refl _,BO aj aa ?_⟩;rw[ir];have CU:k≠0->et (du k) (2 ^ 1)=du (k-1):=λrn=>by obtain⟨m,rfl⟩:∃m,k=m+1:=⟨k-1,by omega⟩;rw[Te,aca _ (by decide)];simp
 have rp:du k=1->k=0:=λe=>by by_cases rn:k=0;exact rn;exfalso;obtain⟨m,rfl⟩:∃m,k=m+1:=⟨k-1,by omega⟩;rw[Te] at e;omega
 have fi:du 0=1:=by decide
 have step:∀(cx:o),0<=cx->cx*cx<=dw a b->dw a b<(cx+du k)*(cx+du k)->(∃pL,0<=pL/\cx=pL*du k)->cx+du k<=18446744073709551616->
   ((du k=1)->K cx v)/\((¬(du k=1))->((0:o)<=1)/\((v=v/\∃(dY:O) (c:o),dY<=63/\et (du k) (2 ^ 1)=du dY/\0<=c/\cx=c*du (dY+1)/\cx+du (dY+1)<=18446744073709551616/\cx*cx<=dw a b/\dw a b<(cx+du (dY+1))*(cx+du (dY+1)))/\((et (du k) (2 ^ 1)).toNat<(du k).toNat))):=by
  intro cx q2 nq qf ⟨pL,dI,pZ⟩ BE
  refine⟨λe=>?_,λan=>?_⟩
  rw[e] at qf
  rw[rt_eq q2 nq qf]
  exact h
  have rn:k≠0:=λe=>an (by rw[e];exact fi)
  have AV:k-1+1=k:=by omega
  have rv:=akX (k-1)
  have xD:=Te (k-1)
  rw[AV] at xD
  refine⟨by decide,⟨rfl,k-1,pL,by omega,CU rn,dI,by rw[AV];exact pZ,by rw[AV];exact BE,nq,by rw[AV];exact qf⟩,?_⟩
  rw[CU rn]
  omega
 by_cases hle:(r+du k)*(r+du k)<=dw a b;have s:=step (r+du k) (by omega) hle (by rw[show r+du k+du k=r+du (k+1) by omega];exact h2) ⟨2*c+1,by omega,by rw[U,fL];grind⟩ (by omega);refine⟨λ_=>s,λM=>bf ?_ M⟩;omega;have s:=step r oj h1 (by omega) ⟨2*c,by omega,by rw[U,fL];grind⟩ (by omega);refine⟨λM=>bf M ?_,λ_=>s⟩;omega
def G9{l:J o}{d:o}(aB:cY l)(aq:(l.length:o)=d)(av:1<=d/\d<=64):gx l d=0:=by rw[<-aq];exact xY aB (by omega)
def KQ(u:H)(t:N):Prop:=t.n=0∨∃L,Ints u t L/\Ak L/\∀x∈L,1<=x/\x<=1000000000
def KQ.get(h:KQ u t):∃L:J o,(∀x:o,0<=x->x<(t.n:o)->(t.n:o)<=9223372036854775807/\∃p,t.a=some p/\∃y,L[x.toNat]?=some y/\u.cell? (p.add (x.toNat*1))=some (.int .i64 y))/\Ak L/\∀x∈L,1<=x/\x<=1000000000:=by rcases h with h|⟨L,a,b,c⟩;exact⟨[],λx h0 h1=>by omega,.nil,λ_ h=>by cases h⟩;have:=a.max;exact⟨L,λx h0 h1=>⟨by omega,a.get h0 h1⟩,b,c⟩
def aC4{d:o}{K:o->H->Prop}(h1:Ints u r.ls r.bm)(h2:Ints u r.ae r.hi)(U:l3 r d)(ht:KQ u t)(h:K 0 u):Wh r.aC r.ls r.ae (cQ r.cD) (cS r.cD) t d u K:=by
 refine hD.forget (ss:=[.one (.int .i64)]) ?_;have cj:=h1.len;have ez:=h2.len;have av:=U.dim;have fin:∀{v:H},u.le v->u.le v/\K 0 u:=λaB=>⟨aB,h⟩;apply aHt;refine ads ?_;rw[jf av];obtain⟨L,cX,uU,cy⟩:=ht.get;refine⟨λM=>bf rfl M,λ_=>⟨λ_ qo tZ v=>v=u/\0<=tZ/\∀y,L[tZ.toNat]?=some y->qo<y,λ_ _ tZ _=>((t.n:o)-tZ).toNat,⟨rfl,by omega,λy aj=>by have:=cy y (dz aj);omega⟩,λpD qo tZ v aB=>?_⟩⟩;obtain⟨rfl,ajY,bP⟩:=aB;refine⟨λM=>?_,λ_=>?_⟩;obtain⟨hm,p,ad,y,aj,bA⟩:=cX tZ ajY M;have:=bP y aj;have:=cy y (dz aj);refine⟨p,ad,⟨ajY,M⟩,y,bA,λh=>by omega,λ_=>⟨λh=>by omega,λ_=>⟨⟨by omega,by omega⟩,⟨rfl,by omega,λW aE=>?_⟩,by dsimp only;omega⟩⟩⟩;obtain⟨g1,aT⟩:=hG.1 aj;obtain⟨g2,aN⟩:=hG.1 aE;rw[<-aT,<-aN];exact lW.1 uU _ _ g1 g2 (by omega);intro aIi LA Wq H0;rcases U.shape with⟨e,aT,aN,dG⟩|⟨e,fi,v1,v2,dN,eZ,hle⟩|⟨e,aN,v1,dN,tr⟩;have jw:r.bm.length=0:=by rw[aT];rfl
 have z2:r.hi.length=0:=by rw[aN];rfl
 refine⟨λ_=>⟨⟨by omega,by omega⟩,λ_=>H0 _ _ ⟨λ_=>fin (H.le.refl _),λab=>bf ⟨by rw[dG];rfl,by rw[dG];rfl⟩ (Ox ab)⟩,λag=>bf (by rw[cj,ez,aT,aN];rfl) ag⟩,λag=>bf e ag⟩;refine⟨λM=>bf M (by omega),λ_=>H0 _ _ ⟨λM=>(by cases M),λ_=>?_⟩⟩;intro apc XO;refine⟨λM=>bf M (by omega),λ_=>XO _ _ ⟨λM=>(by cases M),λ_=>⟨λM=>bf e M,λ_=>⟨λM=>bf ⟨by rw[fi];rfl,by rw[fi];rfl⟩ M,λ_=>LA _ _ ?_⟩⟩⟩⟩;refine mK (afC _ _) λg Z=>?_;generalize kE:v.ins g _=u';have Mu:v.le u':=by subst kE;exact bX _ Z
 have c:∀j w,(#[ed r.ls.a r.ls.n r.ls.c,ed r.ae.a r.ae.n r.ae.c]:cA ap)[j]?=some w->u'.cell? ⟨g,j,none⟩=some w:=by intro j w hw;subst kE;exact(aZ (bh _ _ _) j).trans hw
 clear kE Z;refine⟨λ_ i w=>w=u'/\0<=i/\i<=2,λ_ i _=>(2-i).toNat,⟨rfl,by omega,by omega⟩,?_⟩;rintro _ i w ⟨rfl,i0,i1⟩;refine⟨λhi=>⟨_,rfl,⟨i0,hi⟩,?_⟩,λhi=>?_⟩;have hi:i<2:=hi;have I:i=0∨i=1:=by omega
 rcases I with rfl|rfl;refine⟨r.ls,c 0 _ rfl,qg (h1.mono Mu) ⟨λan=>bf (G9 v1 dN av) an,λ_=>⟨⟨by omega,by omega⟩,⟨rfl,by omega,by omega⟩,by dsimp only;omega⟩⟩⟩;refine⟨r.ae,c 1 _ rfl,qg (h2.mono Mu) ⟨λan=>bf (G9 v2 eZ av) an,λ_=>⟨⟨by omega,by omega⟩,⟨rfl,by omega,by omega⟩,by dsimp only;omega⟩⟩⟩;refine⟨λ_ i w'=>w'=w/\0<=i,λ_ i _=>((r.ls.n:o)-i).toNat,⟨rfl,by omega⟩,?_⟩;rintro _ i w' ⟨rfl,i0⟩;refine⟨λhi=>?_,λ_=>⟨Mu,h⟩⟩;obtain⟨gU,ft,c1⟩:=(h1.mono Mu).at i0 hi;obtain⟨du,eX,c2⟩:=(h2.mono Mu).at i0 (show i<(r.ae.n:o) by omega);have:=hle i.toNat (by omega);exact⟨gU,ft,⟨i0,hi⟩,_,c1,du,eX,⟨i0,by omega⟩,_,c2,λM=>by omega,λ_=>⟨⟨by omega,by omega⟩,⟨rfl,by omega⟩,by dsimp only;omega⟩⟩;refine⟨λM=>bf M (by omega),λ_=>H0 _ _ ⟨λM=>(by cases M),λ_=>?_⟩⟩;intro apc XO;refine⟨λ_=>XO _ _ ⟨λ_=>qg h1 ?_,λab=>?_⟩,λM=>bf e M⟩;rw[G9 v1 dN av];exact fin (H.le.refl _);exact bf (by rw[ez,aN];rfl) (Ox ab)
def aC5{K:o->H->Prop}(h1:Ints u r.ls r.bm)(h2:Ints u r.ae r.hi)(U:l3 r q.length)(ht:KQ u t)(ae:Ints u s q)(aL:cY q)(h:K 0 u):Wi r.aC r.ls r.ae (cQ r.cD) (cS r.cD) t s u K:=by have ag:=ae.len;apply aHv;rw[ag];refine aC4 h1 h2 U ht ⟨λM=>bf rfl M,λ_=>qg ae ?_⟩;rw[G9 aL rfl U.dim];exact h
theorem adr{K:o->o->o->H->Prop}(h1:Ints u r.ls r.bm)(h2:Ints u r.ae r.hi)(U:l3 r q.length)(ht:KQ u t)(ae:Ints u s q)(aL:cY q)
  (h:K (cQ (nS r q)) (cS (nS r q)) 0 u):D7 r.aC r.ls r.ae (cQ r.cD) (cS r.cD) t s u K:=by
 have cj:=h1.len
 have ez:=h2.len
 have azp:=ae.len
 have av:=U.dim
 have W:cE 0:=⟨by omega,by omega⟩
 unfold nS at h
 apply aHq
 refine aC5 h1 h2 U ht ae aL ⟨λM=>bf rfl M,λ_=>?_⟩
 intro ny oe
 rcases U.shape with⟨e,_⟩|⟨e,_,v1,v2,dN,eZ,hle⟩|⟨e,aN,v1,dN,tr⟩
 rw[bF (by omega),bF (by omega)] at h
 exact⟨λh=>by omega,λ_=>⟨λh=>by omega,λ_=>oe _ _ _ h⟩⟩
 rw[b3 e] at h
 refine⟨λ_=>?_,λan=>bf e an⟩
 refine⟨λi x y w=>w=u/\0<=i/\i<=s.n/\cE x/\cE y/\dw x y=qz r.bm r.hi q i.toNat,λi _ _ _=>((s.n:o)-i).toNat,⟨rfl,by omega,by omega,W,W,rfl⟩,?_⟩
 rintro i x y w ⟨rfl,i0,i1,M,aj,hw⟩
 refine⟨λhi=>?_,λhi=>?_⟩
 obtain⟨p,ad,bA⟩:=ae.at i0 hi
 obtain⟨gU,ft,c1⟩:=h1.at i0 (show i<(r.ls.n:o) by omega)
 obtain⟨du,eX,c2⟩:=h2.at i0 (show i<(r.ae.n:o) by omega)
 have iu:=aL.2 i.toNat (by omega)
 have cB:=v1.2 i.toNat (by omega)
 have cW:=v2.2 i.toNat (by omega)
 have aa:=WK v1 v2 aL (by omega) (by omega) i.toNat (by omega)
 have EL:=aL.1
 have y4:=hle i.toNat (by omega)
 have HN:qz r.bm r.hi q (i+1).toNat=qz r.bm r.hi q i.toNat+(if q.getD i.toNat 0<r.bm.getD i.toNat 0 then lY (r.bm.getD i.toNat 0) (q.getD i.toNat 0) else 0)+(if r.hi.getD i.toNat 0<q.getD i.toNat 0 then lY (q.getD i.toNat 0) (r.hi.getD i.toNat 0) else 0):=by rw[show(i+1).toNat=i.toNat+1 by omega];rfl
 have nG:qz r.bm r.hi q i.toNat<=64*36893488113059364872:=by omega
 refine⟨p,ad,⟨i0,hi⟩,_,bA,gU,ft,⟨i0,by omega⟩,_,c1,du,eX,⟨i0,by omega⟩,_,c2,?_⟩
 generalize q.getD i.toNat 0=a at*
 generalize r.bm.getD i.toNat 0=b at*
 generalize r.hi.getD i.toNat 0=c at*
 have at3:jP (if c<(if b>a then b else a) then c else(if b>a then b else a)):=by unfold jP at*;split<;>split<;>omega
 refine anb M aj iu at3 (by omega) λk3 kM gn jC lh=>⟨⟨by omega,by omega⟩,⟨rfl,by omega,by omega,gn,jC,?_⟩,by dsimp only;omega⟩
 rw[lh,hw,HN]
 unfold lY
 grind
 have:i.toNat=q.length:=by omega
 rw[this] at hw
 obtain⟨g1,g2⟩:=z7 M aj
 rw[hw] at g1 g2
 rw[g1,g2]
 exact oe _ _ _ h
 rw[bF (by omega),b3 e] at h
 refine⟨λh=>by omega,λ_=>⟨λ_=>?_,λan=>bf e an⟩⟩
 refine adt h1 ae v1 aL (by omega) λx y M aj hw=>⟨H.le.refl _,?_⟩
 have AO:=DP v1 aL (show r.bm.length=q.length by omega)
 refine anf M aj ⟨H.le.refl _,anf (yZ tr) (rF _) ?_⟩
 rw[l0,hw]
 have s0:=zQ AO.1
 have s1:=OP AO
 have t0:=zQ tr.1
 have t1:=OP tr
 unfold Em at h
 generalize wa:rt (gb r.bm q r.bm.length)=S at*
 generalize awY:rt r.cD=iy at*
 intro Ea HZ
 have fin:∀W:o,0<=W->W<18446744073709551616->K (cQ (W*W)) (cS (W*W)) 0 u->D8 W W u λ(aH7:o) (aH8:o) (anS:H)=>ny aH7 aH8 anS:=λW z0 jw aE=>Up ⟨z0,jw⟩ ⟨z0,jw⟩ λx y M aj ir=>by obtain⟨g1,g2⟩:=z7 M aj;rw[ir] at g1 g2;rw[g1,g2];exact oe _ _ _ aE
 have go:∀T:o,0<=T->(K (cQ (if T<S then(S-T)*(S-T) else 0)) (cS (if T<S then(S-T)*(S-T) else 0)) 0 u)->Ea T u:=λT aV AK=>by refine HZ _ _ ⟨λbP=>?_,λhF=>?_⟩;rw[b3 bP] at AK;have aT:bS .u64 (S-T)=S-T:=ox _ (by omega);rw[aT];exact fin _ (by omega) (by omega) AK;rw[bF hF] at AK;exact oe _ _ _ AK
 refine⟨λbP=>?_,λhF=>⟨H.le.refl _,?_⟩⟩
 refine Up ⟨t0.1,by omega⟩ ⟨t0.1,by omega⟩ λk3 kM gn jC ir=>⟨H.le.refl _,?_⟩
 obtain⟨g1,g2⟩:=z7 gn jC
 rw[ir] at g1 g2
 refine⟨λan=>?_,λhe=>?_⟩
 have kS:¬iy*iy=r.cD:=λagb=>an (by grind)
 rw[bF kS] at h
 have aT:bS .u64 (iy+1)=iy+1:=ox _ (by omega)
 rw[aT]
 exact go _ (by omega) h
 have fW:iy*iy=r.cD:=aiB (by rw[<-g1];exact he.1) (by rw[<-g2];exact he.2)
 rw[b3 fW] at h
 exact go _ t0.1 h
 refine go _ t0.1 ?_
 rw[bF hF]
 rw[bF (by split<;>omega)] at h
 exact h
def H.le.cell(h:v.le u){a:a8}{x:ap}(I:v.cell? a=some x):u.cell? a=some x:=by unfold H.cell? at I ⊢;split at I;rename_i c t f M;rw[h _ _ M];exact I;cases I
section
variable {α β:Type} [lF α] [lF β] {lt:α->α->ay} {wk:β->β->ay} {f:α->β}
theorem getD_map'(av:f default=default)(l:J α)(i:O):(l.map f).getD i default=f (l.getD i default):=by
 grind
omit [lF α] [lF β] in
theorem adH(l:J α)(i j:O):(jZ l i j).map f=jZ (l.map f) i j:=by unfold jZ;rw[pw,pw];cases l[i]?<;>cases l[j]?<;>simp[Gw]
def aEi(av:f default=default)(aq:∀a b,wk (f a) (f b)=lt a b):∀(j:O) (l:J α),(rU lt l j).map f=rU wk (l.map f) j:=by
 intro j;induction j using Nat.strongRecOn with
 |ind j aW=>intro l;unfold rU;by_cases h:j=0;rw[Gu h,Gu h];rw[JR h,JR h,getD_map' av,getD_map' av,aq];split;rw[aW (dh j) (by unfold dh;omega),adH];rfl
theorem ax7(av:f default=default)(aq:∀a b,wk (f a) (f b)=lt a b)(n:O)(l:J α)(i:O):oT wk n (l.map f) i=oT lt n l i:=by
 unfold oT
 grind
theorem aq4(av:f default=default)(aq:∀a b,wk (f a) (f b)=lt a b)(n:O):∀(m:O) (i:O) (l:J α),n-i<=m->(mw lt n l i).map f=mw wk n (l.map f) i:=by
 intro m;induction m with
 |zero=>
  intro i l h;unfold mw
  grind
 |succ m aW=>
  intro i l h;unfold mw;by_cases I:2*i+1<n;rw[Gu I,Gu I,ax7 av aq,getD_map' av,getD_map' av,aq];split;obtain⟨_,_,_,hk⟩:=abf (lt:=lt) (l:=l) I;rw[aW _ _ (by omega),adH];rfl
  grind
def az4(av:f default=default)(aq:∀a b,wk (f a) (f b)=lt a b)(l:J α)(y:α):(zC lt l y).map f=zC wk (l.map f) (f y):=by unfold zC;rw[aEi av aq,en,eb];rfl
def azY(av:f default=default)(aq:∀a b,wk (f a) (f b)=lt a b)(l:J α):(lk lt l).map f=lk wk (l.map f):=by unfold lk;rw[List.map_dropLast,aq4 av aq _ _ _ _ (cw _),adH,eb]
end
inductive nA(u:H):O->bI->Prop where
 |mk {n:O} {p:bI} (ls ae is rs ks:N) (rows:J ax) (c9:J O)
   (cell:u n=some (.cells #[.int .i64 p.aC,.slice ls.a ls.n ls.c,.slice ae.a ae.n ae.c,.int .u64 (cQ p.cD),.int .u64 (cS p.cD),.slice is.a is.n is.c,.slice rs.a rs.n rs.c,.slice ks.a ks.n ks.c] 213 (0,0)))
   (Bi:is.n=0) (bm:Ints u ls p.bm) (hi:Ints u ae p.hi) (at':dU u rs rows) (bn:rows.map ax.bn=p.rows)
   (kids:bw u ks 1 (c9.map λn=>.pointer (some ⟨n,0,none⟩))) (len:c9.length=p.kids.length) (each:∀(i:O) m k,c9[i]?=some m->p.kids[i]?=some k->nA u m k):nA u n p
def nA.mono{u':H}(h:nA u n p)(hu:u.le u'):nA u' n p:=by
 induction h with
 |mk ls ae is rs ks rows c9 cell Bi bm hi at' bn kids len each aW=>exact .mk ls ae is rs ks rows c9 (hu _ _ cell) Bi (bm.mono hu) (hi.mono hu) (at'.mono hu) bn (kids.mono hu) len aW
structure sQ(v u:H)(n:O)(l:J l2):Prop where
 ex:∃L:J k7,Aj v n u L/\L.map (·.2)=l/\∀e∈L,∃m,e.1=⟨m,0,none⟩/\nA v m e.2.2
theorem aCb{m:O}{l:J l2}{b:o}(h:sQ v u n l)(aq:l.length<10000000)(ad:nA v m p)(au:∀u',sQ v u' n (zC blt l (b,p))->K u'):
  Ab (GA n) (wF ((⟨m,0,none⟩:a8),(b,p))) u K:=by
 obtain⟨L,fj,cX,eL⟩:=h.ex
 have hlen:L.length=l.length:=by grind
 refine aBX (alm v n) (y:=((⟨m,0,none⟩:a8),((b,p):l2))) (λhk=>aAo fj (by omega) hk) λu' ae=>au u' ⟨zC x0 L ((⟨m,0,none⟩:a8),((b,p):l2)),ae,?_,λe he=>?_⟩
 have e:=az4 (α:=k7) (β:=l2) (lt:=x0) (wk:=blt) (f:=λe:k7=>e.2) rfl (λ_ _=>rfl) L ((⟨m,0,none⟩:a8),((b,p):l2))
 rw[cX] at e
 exact e
 have gF:=an5 (lt:=x0) L.length (L++ [((⟨m,0,none⟩:a8),((b,p):l2))]) (by simp)
 rcases dT.1 (gF.mem_iff.1 he) with h1|h1
 exact eL e h1
 grind
def aBP{m n0:O}{l:J l2}(h:sQ v u n l)(aB:v.le u)(aq:l.length<10000000)(ad:nA v m p)(bM:l3 (p.hI []) q.length)(aL:cY q)
  (fJ:u.cell? ⟨n0,0,none⟩=some (.slice s.a s.n s.c)) (ae:Ints u s q) (au:∀u',sQ v u' n (pI q l p)->K u'):Ve (some ⟨m,0,none⟩) ⟨n0,0,none⟩ ⟨n,0,none⟩ u K:=by
 cases ad with
 |mk ls fS is rs ks rows c9 cell Bi bm hi at' bn kids len each=>
 have I:=aB _ _ cell
 have IH:l3 (⟨p.aC,ls,fS,p.cD,is,p.bm,p.hi,[]⟩:b1) q.length:=⟨bM.dim,bM.ids,bM.id,bM.shape⟩
 apply aEO
 have push:Ab (GA n) (wF ((⟨m,0,none⟩:a8),(nS (p.hI []) q,p))) u K:=aCb h aq (.mk ls fS is rs ks rows c9 cell Bi bm hi at' bn kids len each) λu' kE=>au u' kE
 have MO:nS (⟨p.aC,ls,fS,p.cD,is,p.bm,p.hi,[]⟩:b1) q=nS (p.hI []) q:=rfl
 refine⟨_,rfl,_,aZ I 0,ls,aZ I 1,fS,aZ I 2,_,aZ I 3,_,aZ I 4,is,aZ I 5,s,fJ,?_,H.le.refl u,?_⟩
 exact adr (r:=⟨p.aC,ls,fS,p.cD,is,p.bm,p.hi,[]⟩) (bm.mono aB) (hi.mono aB) IH (.inl Bi) ae aL ⟨H.le.refl u,push⟩
 exact adr (r:=⟨p.aC,ls,fS,p.cD,is,p.bm,p.hi,[]⟩) (bm.mono aB) (hi.mono aB) IH (.inl Bi) ae aL push
end
section
variable{u u' ak:H}{b c:O}{D:O->Prop}{s:N}
def Cd:H:=λ_=>none
def ao4(u:H):Cd.le u:=λ_ _ h=>by cases h
def Own.f{e k:O}{xs:J ap}(h:Own u e k s xs):aD Cd u e k s xs:=⟨h,ao4 u,λ_ _=>rfl⟩
def H.nY(u:H)(s:N):H:=λc=>open Classical in if s.al=some c then none else u c
def nZ(h:s.al≠some c):H.nY u s c=u c:=bF h
theorem DJ(u:H)(s:N):(H.nY u s).le u:=λc z h=>by
 unfold H.nY at h
 grind
theorem J6{z:Obj}(h:H.nY u s c=some z):u c=some z/\s.al≠some c:=by
 unfold H.nY at h
 grind
section
variable {bB aU:Type}
structure yt(A:(O->aA bB)->H->O->aU->Prop):Prop where
 bO:∀{ah aY:O->aA bB} {u u':H} {b:O} {T:aU},A ah u b T->(∀c,ah c≠none->aY c=ah c)->(∀c z,u c=some z->ah c≠none->u' c=some z)->A aY u' b T
structure mP(A:(O->aA bB)->H->O->aU->Prop)(ak u:H)(ah:O->aA bB)(b:O)(T:aU):Prop where
 aJ:A ah u b T
 le:ak.le u
 out:∀c,ah c≠none->ak c=none
 known:∀c,ah c≠none->u c≠none
structure hM(u:H)(ah:O->aA bB)(u':H)(aY:O->aA bB):Prop where
 bO:∀c z,u c=some z->ah c=none->u' c=some z
 grow:∀c,aY c≠none->ah c≠none∨u c=none
variable {A:(O->aA bB)->H->O->aU->Prop}
omit A in
theorem hM.mono{ah:O->aA bB}(h:u.le u'):hM u ah u' ah:=⟨λc z I _=>h c z I,λ_ h=>.inl h⟩
omit A in
theorem hM.off{ah aY:O->aA bB}(h:hM u ah u' aY){z:Obj}(I:u c=some z)(ab:ah c=none):aY c=none:=by
 cases e:aY c with
 |none=>rfl|some t=>
  rcases h.grow c (by rw[e];simp) with h1|h1;exact bf ab h1
  grind
omit A in
theorem hM.trans{aR cF:H}{ah c5 iq:O->aA bB}(h:hM u ah aR c5)(k:hM aR c5 cF iq):hM u ah cF iq where
 bO c z I ab:=k.bO c z (h.bO c z I ab) (h.off I ab)
 grow c I:=by
  rcases k.grow c I with h1|h1;exact h.grow c h1;cases e:ah c with
  |some x=>exact .inl (by simp)|none=>
   cases aN:u c with
   |none=>exact .inr rfl|some z=>rw[h.bO c z aN e] at h1;cases h1
omit A in
theorem hM.tag{ah aY iq:O->aA bB}(h:hM u ah u' aY)(k:∀c,iq c=aY c∨ah c≠none∨u c=none):hM u ah u' iq where
 bO:=h.bO
 grow c I:=by rcases k c with h1|h1;rw[h1] at I;exact h.grow c I;exact h1
def mP.same(hk:yt A){ah:O->aA bB}{T:aU}(h:mP A ak u ah b T)(hu:∀c z,u c=some z->ah c≠none->u' c=some z)(hle:ak.le u'):mP A ak u' ah b T:=
 ⟨hk.bO h.aJ (λ_ _=>rfl) hu,hle,h.out,λc I=>by obtain⟨z,ac⟩:=fp.1 (h.known c I);rw[hu c z ac I];simp⟩
def mP.mono(hk:yt A){ah:O->aA bB}{T:aU}(h:mP A ak u ah b T)(hu:u.le u'):mP A ak u' ah b T:=h.same hk (λc z I _=>hu c z I) (h.le.trans hu)
def mP.fresh{ah:O->aA bB}{T:aU}(h:mP A ak u ah b T)(I:u c=none):ah c=none:=by
 cases e:ah c with
 |none=>rfl|some t=>exact bf I (h.known c (by rw[e];simp))
theorem mP.tag(hk:yt A){ah:O->aA bB}{T:aU}(h:mP A ak u ah b T)(S:O->aA bB)(ae:∀c,S c≠none->ah c=none/\ak c=none/\u c≠none):
  ∃aY,mP A ak u aY b T/\(∀c t,S c=some t->aY c=some t)/\(∀c,S c=none->aY c=ah c):=by
 let aY:O->aA bB:=λc=>match S c with|some t=>some t|none=>ah c
 have aT:∀c t,S c=some t->aY c=some t:=λc t I=>by simp only[aY,I]
 have aN:∀c,S c=none->aY c=ah c:=λc I=>by simp only[aY,I]
 have dG:∀c,ah c≠none->aY c=ah c:=λc I=>by
  grind
 refine⟨aY,⟨hk.bO h.aJ dG λ_ _ ac _=>ac,h.le,λc I=>?_,λc I=>?_⟩,aT,aN⟩
 cases e:S c with
 |none=>rw[aN c e] at I;exact h.out c I
 |some t=>grind
 cases e:S c with
 |none=>rw[aN c e] at I;exact h.known c I
 |some t=>grind
def N.wQ(s:N)(t:bB):O->aA bB:=λc=>if s.al=some c then some t else none
omit A in
theorem N.aDI{t:bB}(h:s.al=some c):s.wQ t c=some t:=b3 h
omit A in
theorem N.anH{t:bB}(h:s.al≠some c):s.wQ t c=none:=bF h
omit A in
theorem N.aDJ{t:bB}(h:s.wQ t c≠none):s.al=some c:=by by_cases e:s.al=some c;exact e;exact bf (N.anH e) h
structure e6(A:(O->aA bB)->H->O->aU->Prop)(Ok:aU->Prop)(ak u:H)(D:O->Prop)(b:O)(X:aU):Prop where
 ex:∃ah,(∀c,D c↔ah c≠none)/\mP A ak u ah b X/\Ok X
end
structure kN(u:H)(D:O->Prop)(u':H)(hK:O->Prop):Prop where
 bO:∀c z,u c=some z->¬D c->u' c=some z
 grow:∀c,hK c->D c∨u c=none
def kN.mono(h:u.le u'):kN u D u' D:=⟨λc z I _=>h c z I,λ_ h=>.inl h⟩
theorem kN.trans{aR cF:H}{qu ud:O->Prop}(h:kN u D aR qu)(k:kN aR qu cF ud):kN u D cF ud where
 bO c z I ab:=k.bO c z (h.bO c z I ab) λav=>by
  rcases h.grow c av with h1|h1;exact ab h1
  grind
 grow c I:=by
  rcases k.grow c I with h1|h1;exact h.grow c h1;by_cases e:D c;exact .inl e;right;cases aN:u c with
  |none=>rfl|some z=>rw[h.bO c z aN e] at h1;cases h1
theorem kN.apart{v:H}{hK:O->Prop}(h:kN u D u' hK)(aB:v.le u)(av:∀c,D c->v c=none):v.le u'/\∀c,hK c->v c=none:=by
 refine⟨λc z I=>h.bO c z (aB c z I) λe=>?_,λc I=>?_⟩
 grind
 rcases h.grow c I with h1|h1;exact av c h1;exact aB.none h1
section
variable {bB aU:Type} {A:(O->aA bB)->H->O->aU->Prop} {Ok:aU->Prop}
def tx{ah:O->aA bB}{T:aU}(h:mP A ak u ah b T)(aV:Ok T):e6 A Ok ak u (λc=>ah c≠none) b T:=⟨ah,λ_=>Bt,h,aV⟩
omit A Ok in
theorem zY{ah aY:O->aA bB}(fe:∀c,D c↔ah c≠none)(h:hM u ah u' aY):kN u D u' (λc=>aY c≠none) where
 bO c z I ab:=h.bO c z I (by
  grind)
 grow c I:=(h.grow c I).imp (fe c).2 λh=>h
def e6.base{X:aU}(h:e6 A Ok ak u D b X):ak.le u/\(∀c,D c->ak c=none)/\∀c,D c->u c≠none:=by obtain⟨ah,h1,h2,_⟩:=h.ex;exact⟨h2.le,λc I=>h2.out c ((h1 c).1 I),λc I=>h2.known c ((h1 c).1 I)⟩
def e6.same(hk:yt A){X:aU}(h:e6 A Ok ak u D b X)(hu:∀c z,u c=some z->D c->u' c=some z)(hle:ak.le u'):e6 A Ok ak u' D b X:=by obtain⟨ah,h1,h2,h3⟩:=h.ex;exact⟨ah,h1,h2.same hk (λc z I ab=>hu c z I ((h1 c).2 ab)) hle,h3⟩
def e6.mono(hk:yt A){X:aU}(h:e6 A Ok ak u D b X)(hu:u.le u'):e6 A Ok ak u' D b X:=h.same hk (λc z I _=>hu c z I) (h.base.1.trans hu)
def e6.mI{v:H}{X:aU}(h:e6 A Ok ak u D b X)(aB:v.le ak):e6 A Ok v u D b X:=by
 obtain⟨ah,h1,h2,h3⟩:=h.ex;exact⟨ah,h1,⟨h2.aJ,aB.trans h2.le,λc I=>by
  cases M:v c with
  |none=>rfl|some z=>have:=aB _ _ M;rw[h2.out c I] at this;exact(nomatch this),h2.known⟩,h3⟩
end
end
section
variable{u u':H}
structure ev where
 b:O
 aC:o
 bx:N
 fT:N
 bm:J o
 hi:J o
 cD:o
 a6:N
 rows:J ax
 dd:N
def ev.dE(h:ev):J O:=h.b::(h.bx.al.toList++h.fT.al.toList++h.a6.al.toList++h.dd.al.toList)
inductive aw where
 |mk (h:ev) (kids:J aw)
namespace aw
def h:aw->ev| .mk h _=>h
def kids:aw->J aw| .mk _ k=>k
def b(n:aw):O:=n.h.b
mutual
def bG:aw->bI
 | .mk h kids=>.mk h.aC h.bm h.hi h.cD (h.rows.map ax.bn) (Tj kids)
def Tj:J aw->J bI
 | []=>[]|n::kl=>n.bG::Tj kl
end
mutual
def bT:aw->J (ev×J O)
 | .mk h kids=>(h,kids.map aw.b)::na kids
def na:J aw->J (ev×J O)
 | []=>[]|n::kl=>n.bT++na kl
end
def alb:∀kl:J aw,Tj kl=kl.map bG
 | []=>rfl|n::kl=>by rw[Tj,alb kl,iw]
def Iq:∀kl:J aw,na kl=kl.flatMap bT
 | []=>rfl|n::kl=>by rw[na,Iq kl,jr]
def iD(n:aw):n.bT=(n.h,n.kids.map b)::n.kids.flatMap bT:=by cases n;rw[bT,Iq];rfl
def hz(n:aw):n.bG=.mk n.h.aC n.h.bm n.h.hi n.h.cD (n.h.rows.map ax.bn) (n.kids.map bG):=by cases n;rw[bG,alb];rfl
def ah4(n:aw):0<n.bT.length:=by rw[iD];simp
def ind{P:aw->Prop}(h:∀n,(∀k∈n.kids,P k)->P n):∀n,P n:=by intro n;exact aw.rec (motive_1:=P) (motive_2:=λkl=>∀k∈kl,P k) (λ_ _ aW=>h _ aW) (λk hk=>(by cases hk)) (λn kl h1 h2 k hk=>by rcases dM.1 hk with rfl|hk;exact h1;exact h2 k hk) n
def tJ(n:aw):n.bG.all=n.bT.flatMap λx=>x.1.rows.map ax.bn:=by
 induction n using ind with
 |h n aW=>rw[hz,iD,jr,bI.all];congr 1;rw[yy,BA,List.flatMap_assoc];rw[JU,JU];exact eI List.flatten (zK λk hk=>aW k hk)
def Jq(n:aw):n.bG.size=n.bT.length:=by
 induction n using ind with
 |h n aW=>
  rw[hz,iD,jq,bI.size,Nat.add_comm];congr 1;obtain⟨ks,pV⟩:∃ks,ks=n.kids:=⟨_,rfl⟩;rw[<-pV] at aW ⊢;clear pV;induction ks with
  |nil=>rfl|cons k ks I0=>rw[iw,bI.hB,jr,gG,aW k (ik ..),I0 λj aP=>aW j (iX _ aP)]
def own(n:aw):J O:=n.bT.flatMap λx=>x.1.dE
def rI(n:aw):n.own=n.h.dE++n.kids.flatMap own:=by unfold own;rw[iD,jr,List.flatMap_assoc]
end aw
def eT(h:ev):J ap:=[.int .i64 h.aC,.slice h.bx.a h.bx.n h.bx.c,.slice h.fT.a h.fT.n h.fT.c,.int .u64 (cQ h.cD),.int .u64 (cS h.cD),.slice none 0 0,.slice h.a6.a h.a6.n h.a6.c,.slice h.dd.a h.dd.n h.dd.c]
structure hL(u:H)(x:ev×J O):Prop where
 cell:u x.1.b=some (.cells (eT x.1).toArray 213 (0,0))
 bm:Own u 3 1 x.1.bx (x.1.bm.flatMap encI)
 hi:Own u 3 1 x.1.fT (x.1.hi.flatMap encI)
 rws:Own u 52 2 x.1.a6 (x.1.rows.flatMap cJ)
 vec:∀r∈x.1.rows,Ints u r.s r.v
 mf:bw u x.1.dd 1 (x.2.map λn=>.pointer (some ⟨n,0,none⟩))
def hL.bO{x:ev×J O}(h:hL u x)(hu:∀c z,c∈x.1.dE->u c=some z->u' c=some z)(aB:∀r∈x.1.rows,Ints u' r.s r.v):hL u' x where
 cell:=hu _ _ (ik ..) h.cell
 bm:=h.bm.le λc z I ac=>hu c z (by simp[ev.dE,I]) ac
 hi:=h.hi.le λc z I ac=>hu c z (by simp[ev.dE,I]) ac
 rws:=h.rws.le λc z I ac=>hu c z (by simp[ev.dE,I]) ac
 vec:=aB
 mf:=bw.else h.mf λc z I ac=>hu c z (by simp[ev.dE,I]) ac
structure Ai(u:H)(n:aw):Prop where
 one:∀x∈n.bT,hL u x
 nodup:n.own.Nodup
def Ai.bO{n:aw}(h:Ai u n)(hu:∀c z,c∈n.own->u c=some z->u' c=some z)(aB:∀x∈n.bT,∀r∈x.1.rows,Ints u' r.s r.v):Ai u' n:=
 ⟨λx M=>(h.one x M).bO (λc z I ac=>hu c z (eA.2 ⟨x,M,I⟩) ac) (aB x M),h.nodup⟩
def Ai.mono{n:aw}(h:Ai u n)(hu:u.le u'):Ai u' n:=h.bO (λc z _ ac=>hu c z ac) λx M r U=>((h.one x M).vec r U).mono hu
theorem Ai.part{n:aw}(h:∀x∈n.bT,hL u x):nA u n.b n.bG:=by
 induction n using aw.ind with
 |h n aW=>
  have h0:=h (n.h,n.kids.map aw.b) (by rw[aw.iD];grind);rw[aw.hz];refine .mk n.h.bx n.h.fT ⟨none,0,0⟩ n.h.a6 n.h.dd n.h.rows (n.kids.map aw.b) h0.cell rfl h0.bm.f.ints h0.hi.f.ints ⟨h0.rws.cK,h0.vec⟩ rfl h0.mf (by simp[bI.kids]) λi m k hm hk=>?_;have dk:(n.kids.map aw.bG)[i]?=some k:=hk;rw[pw] at hm dk;cases e:n.kids[i]? with
  |none=>rw[e] at hm;cases hm
  |some W=>rw[e] at hm dk;obtain rfl:=eh hm;obtain rfl:=eh dk;have aE:=dz e;exact aW W aE λx M=>h x (by rw[aw.iD];grind)
structure kq where
 h:ev
 pre:J aw
 post:J aw
def kq.fill(f:kq)(n:aw):aw:=.mk f.h (f.pre++n::f.post)
def nn:J kq->aw->aw
 | [],n=>n|f::aQ,n=>nn aQ (f.fill n)
def kq.bT(f:kq)(b:O):J (ev×J O):=(f.h,f.pre.map aw.b++b::f.post.map aw.b)::(f.pre++f.post).flatMap aw.bT
def jQ:J kq->O->J (ev×J O)
 | [],_=>[]|f::aQ,b=>f.bT b++jQ aQ f.h.b
def agv(f:kq)(n:aw):(f.fill n).bT.Perm (n.bT++f.bT n.b):=by unfold kq.fill kq.bT;rw[aw.iD];show((f.h,(f.pre++n::f.post).map aw.b)::(f.pre++n::f.post).flatMap aw.bT).Perm _;rw[en,iw,hb,hb,jr];refine JQ (j9 _ ?_) zJ.symm;refine List.perm_append_comm_assoc _ _ _|>.trans ?_;exact .refl _
def Gd:∀(aQ:J kq) (n:aw),(nn aQ n).bT.Perm (n.bT++jQ aQ n.b)
 | [],n=>by rw[jQ,ml];exact .refl _|f::aQ,n=>by show(nn aQ (f.fill n)).bT.Perm _;refine(Gd aQ (f.fill n)).trans ?_;rw[jQ,<-wA];exact(agv f n).append_right _
def abY:∀(aQ:J kq) {n n':aw},n.b=n'.b->(nn aQ n).b=(nn aQ n').b
 | [],_,_,h=>h|f::aQ,n,n',_=>abY aQ (n:=f.fill n) (n':=f.fill n') rfl
end
section
variable{u:H}{l:J ax}{s:N}{p:bI}{i:O}
def amz{aC hw lw:o}{ls ae is rs:N}{bm hi:J o}{rows:J ax}{K:o->N->N->o->o->N->H->Prop}(h1:Ints u ls bm)(h2:Ints u ae hi)(U:dU u rs rows)(e7:bm.length<=64)(fy:hi.length<=64)(mV:rows.length<=1000000)
  (au:∀a b c u',aD u u' 3 1 a (bm.flatMap encI)->aD u u' 3 1 b (hi.flatMap encI)->aD u u' 3 1 c ((cR (rows.map (·.id))).flatMap encI)->dB a b->dB a c->dB b c->K aC a b hw lw c u'):PL aC ls ae hw lw is rs u K:=by
 have cj:=h1.len
 have ez:=h2.len
 have lV:=U.len
 apply aEX
 refine sI h1 (by omega) λs0 aR e0 _=>⟨e0.le,sI (h2.mono e0.le) (by omega) λs2 il hT _=>?_⟩
 have Fw:=U.mono (e0.le.trans hT.le)
 refine⟨λi Kp ga gV aou aov GC w=>0<=i/\i<=rs.n/\Kp=aC/\ga=s0/\gV=s2/\aou=hw/\aov=lw/\aD il w 3 1 GC (((rows.take i.toNat).map (·.id)).flatMap encI),λi _ _ _ _ _ _ _=>((rs.n:o)-i).toNat,
  ⟨by omega,by omega,rfl,rfl,rfl,rfl,rfl,by simpa using aD.nil (H.le.refl il) 3 1⟩,?_⟩
 rintro i Kp ga gV aou aov GC w ⟨i0,i1,aT,aN,dG,gz,gI,ac⟩
 have aiT:=ac.ints.len
 rw[eb,iV] at aiT
 refine⟨λhi=>?_,λhi=>?_⟩
 obtain⟨p,ad,r,Fx,bA,c1,_⟩:=(Fw.mono ac.le).at i0 hi
 refine⟨p,ad,⟨i0,hi⟩,_,bA,_,c1,mn kK (yA _) (by decide) rfl (by simp[cI]) ac (by omega) (by omega) λar u' dt fK eC fC _=>⟨⟨by omega,by omega⟩,⟨by omega,by omega,aT,aN,dG,gz,gI,?_⟩,by dsimp only;omega⟩⟩
 have e:rows.take (i+1).toNat=rows.take i.toNat++ [r]:=by rw[show(i+1).toNat=i.toNat+1 by omega,fN,Fx];rfl
 rw[e,en,hb]
 exact dt
 have eL:rows.take i.toNat=rows:=gC (by omega)
 rw[eL] at ac
 subst aT aN dG gz gI
 refine GQ ac (by simp;omega) λgq A2 aI2=>?_
 have ab:∀g,GC.al=some g->il g=none:=ac.fresh
 have f13:dB ga GC:=aD.ej (e0.mono hT.le) (H.le.refl il) ac
 have f23:dB gV GC:=aD.ej hT (H.le.refl il) ac
 have f12:dB ga gV:=aD.ej e0 (H.le.refl aR) hT
 have FV:il.le gq:=A2.le
 exact au _ _ _ gq ((e0.mono hT.le).mono FV) ((hT.weaken e0.le).mono FV) (A2.weaken (e0.le.trans hT.le)) f12 f13 f23
def aqk:kO aH 22 0 #[]=some (52,[]):=by kernel_rfl
def Xw:∀y∈l.flatMap cJ,y.oneCell'=ai:=by intro y aj;obtain⟨h,_,aj⟩:=eA.1 aj;exact HQ h y aj
def Pc{K:N->H->Prop}(ae:bw u s 2 (l.flatMap cJ))(aa:s.n<=1099511627776)(au:∀ar u',aD u u' 52 2 ar (l.flatMap cJ)->ar.n=s.n->K ar u'):n4 s u K:=by
 apply aF1;refine⟨λag=>?_,λ_=>acV ig aqk (by decide) ae Xw (by omega) au⟩;have aq:=acS ae ag;have iR:s.n=0:=by have:=bw.len ae;rw[aq] at this;simp at this;omega
 refine au _ _ ?_ iR.symm;rw[aq];exact aD.nil (H.le.refl u) _ _
def apC{c9:J bI}{k:bI}(h:c9[i]?=some k):bI.j2 (c9.take (i+1))=bI.j2 (c9.take i)++k.all:=by rw[fN,h,yy,yy];simp
def apB(c9:J bI)(i:O):(bI.j2 (c9.take i)).length<=(bI.j2 c9).length:=by
 conv=>rhs;rw[<-px i c9]
 rw[yy,yy,hb,gG];omega
theorem aBM{v:H}{n:O}(ad:nA v n p):∀{u:H} {K:N->H->Prop},v.le u->p.all.length<=1000000->
  (∀(s:N) (L:J ax) (u':H),aD u u' 52 2 s (L.flatMap cJ)->L.map ax.bn=p.all->(∀r∈L,Ints v r.s r.v)->K s u')->PI (some ⟨n,0,none⟩) u K:=by
 induction ad with
 |@mk n p ls ae is rs ks rows c9 cell Bi bm hi at' bn kids len each aW=>
 intro u K aB aa au
 have I:=aB _ _ cell
 have lc:p.rows.length=rows.length:=by grind
 rw[bI.all_eq] at aa au
 rw[gG] at aa
 have ajm:=at'.len
 apply aEK
 refine⟨_,rfl,rs,aZ I 6,Pc (bw.mono at'.1 aB) (by omega) λs2 il hT _=>⟨_,rfl,ks,aZ (hT.le _ _ I) 7,?_⟩⟩
 have vX:=jW (bw.cap kids) (bw.max kids)
 have kj:ks.n=c9.length:=by have:=kids.len;simpa using this.symm
 refine⟨λga x w=>0<=x/\x<=ks.n/\∃L:J ax,aD u w 52 2 ga (L.flatMap cJ)/\L.map ax.bn=p.rows++bI.j2 (p.kids.take x.toNat)/\∀r∈L,Ints v r.s r.v,λ_ x _=>((ks.n:o)-x).toNat,
  ⟨by omega,by omega,rows,hT,by simpa[bI.j2] using bn,λr U=>at'.2 r U⟩,?_⟩
 rintro ga x w ⟨bK,dr,L,ac,cX,cv⟩
 refine⟨λM=>?_,λM=>?_⟩
 have eY:x.toNat<c9.length:=by omega
 obtain⟨k,hk⟩:∃k,p.kids[x.toNat]?=some k:=⟨_,dj (by omega)⟩
 have hm:c9[x.toNat]?=some c9[x.toNat]:=dj eY
 obtain⟨a,az,gf⟩:=bw.elem (enc:=λn:O=>[ha (some ⟨n,0,none⟩)]) (k:=1) (λ_=>rfl) (by decide) (xs:=c9) (by
  have e:c9.flatMap (λn:O=>[ha (some ⟨n,0,none⟩)])=c9.map λn=>ha (some ⟨n,0,none⟩):=by
   generalize c9=W;induction W with
   |nil=>rfl|cons y W aW=>grind
  rw[e];exact kids.mono (aB.trans ac.le)) hm
 have eL:=apC hk
 have hle:=apB p.kids (x.toNat+1)
 rw[eL,gG] at hle
 have ux:=eI iY cX
 rw[eb,gG] at ux
 have rr:ga.n=L.length:=hf fO (by decide) ac.own.cK
 refine⟨a,az,⟨bK,M⟩,_,gf 0 _ rfl,aW _ _ _ hm hk (aB.trans ac.le) (by omega) λjt apl lI dt as6 X2=>?_⟩
 have iR:=eI iY as6
 rw[eb] at iR
 have y8:=hf fO (by decide) dt.own.cK
 refine BJ ig (by decide) (ac.mono dt.le) dt.own.cK Xw (by omega) (by omega) λsG u16 jT _=>⟨⟨by omega,by omega⟩,⟨by omega,by omega,L++apl,by rw[hb];exact jT,?_,λr U=>?_⟩,by dsimp only;omega⟩
 grind
 rcases dT.1 U with h|h
 exact cv r h
 exact X2 r h
 rw[gC (by omega)] at cX
 exact au _ L w ac cX cv
def Qq(ub:H)(fv:ap)(p:ax->ay):Prop:=∀(r:ax) (v:H) (K:ay->H->Prop),ub.le v->K (p r) v->ua aH fv #[.agg #[.int .i64 r.id,.slice r.s.a r.s.n r.s.c]] [.one .bool] v K
theorem amT{ub:H}{fv:ap}{p:ax->ay}{K:o->H->Prop}(ae:bw u s 2 (l.flatMap cJ))(ad:Qq ub fv p)(cC:ub.le u)
  (au:∀(i:O) r,l[i]?=some r->(∀(k:O) cx,k<i->l[k]?=some cx->p cx=ao)->p r=ai->K i u) (eP:(∀r∈l,p r=ao)->K (-1) u):P2 s fv u K:=by
 have ag:s.n=l.length:=hf fO (by decide) ae
 have hm:s.n<=9223372036854775807:=jW (bw.cap ae) (bw.max ae)
 apply aF9
 refine⟨λ_ i v=>v=u/\0<=i/\i<=l.length/\∀(k:O) cx,k<i.toNat->l[k]?=some cx->p cx=ao,λ_ i _=>l.length-i.toNat,⟨rfl,by omega,by omega,λk cx hk=>by simp at hk⟩,?_⟩
 rintro _ i v ⟨rfl,i0,i1,hk⟩
 refine⟨λey=>?_,λhF=>eP λr U=>?_⟩
 have aq:i.toNat<l.length:=by omega
 have M:l[i.toNat]?=some l[i.toNat]:=dj aq
 obtain⟨q,aL,I⟩:=bw.elem fO (by decide) ae M
 have bA:=I 0 _ rfl
 rw[Addr.add_zero'] at bA
 refine⟨q,aL,⟨i0,ey⟩,_,bA,_,I 1 _ rfl,ad _ _ _ cC ⟨λaa=>?_,λaa=>⟨⟨by omega,by omega⟩,⟨rfl,by omega,by omega,λk cx dk cU=>?_⟩,by dsimp only;omega⟩⟩⟩
 have:=au i.toNat _ M hk aa
 rw[show((i.toNat:O):o)=i by omega] at this
 exact this
 grind
 obtain⟨k,dk,rfl⟩:=oX U
 grind
def xW:ax:=⟨0,⟨none,0,0⟩,[]⟩
theorem aH3{w w':ci}{b:O}{z cn:Obj}(hw:Sub u w)(aa:u b=some z)(k:sV b cn w w'):Step u [] w (u.ins b cn) [] w':=by refine⟨λx y h=>?_,k.os,k.tape,k.output,k.drawn,JT k.size.symm,λx _ M _=>k.rest x (λe=>by grind),λx _ M=>?_,[],by simp,by simp⟩;unfold H.ins at h;split at h;rename_i e;rw[e];cases h;exact k.at_;rename_i e;rw[k.rest x e];exact hw _ _ h;rw[bz _ _ (λe=>by grind)];exact M
def aA6{g n c:O}{cur:cA ap}{T:dC}(Z:u g=some (.cells cur T (0,0)))(ag:i+n*2<=cur.size){fq:dC}{K:H->Prop}(au:K (u.ins g (.cells (wr cur i ((fz n xW).flatMap cJ)) T (0,0)))):
  c7 aH (qc #[22] fq #[.slice (some ⟨g,i,none⟩) n c]) [] u K:=by
 intro w hw
 obtain⟨ht,_⟩:=uu ig
 have hlen:((fz n xW).flatMap cJ).length=n*2:=by rw[oc fO,Oy]
 rcases TK n with rfl|oi
 refine⟨.tuple #[],w,u,by simp[qc,ia ht],⟨[],.nil,rfl,?_⟩,Step.refl hw⟩
 have e:u.ins g (.cells (wr cur i ((fz 0 xW).flatMap cJ)) T (0,0))=u:=NC (by rw[Z];rfl)
 rw[e] at au
 exact au
 obtain⟨w',U,lj⟩:=adE (P:=aH) (b:=g) (off:=i) (T:=T) ((fz n xW).flatMap cJ) 0 cur w (hw _ _ Z) (by rw[hlen];omega) (λv aB=>by obtain⟨r,U,aB⟩:=eA.1 aB;rw[List.eq_of_mem_replicate U] at aB;simp[xW,cJ] at aB;rcases aB with rfl|rfl<;>rfl)
 have aB:∀w,(zeroValue 52).run aH w=.ok (.agg #[.int .i64 0,.slice none 0 0]) w:=λ_=>by kernel_rfl
 have aaU:(wy (cz #[.int .i64 0,.slice none 0 0]).cells n).toList=(fz n xW).flatMap cJ:=by have:=Dj (enc:=cJ) fO (by decide) xW n;rw[<-this];rfl
 obtain⟨m,rfl⟩:∃m,n=m+1:=⟨n-1,by omega⟩
 refine⟨.tuple #[],w',_,by simp[qc,ia ht,aB,aaU,U],⟨[],.nil,rfl,au⟩,aH3 hw Z lj⟩
theorem aD.aqP{ak:H}(h:aD ak u 52 2 s (l.flatMap cJ))(hi:i<=s.n){fq:dC}{K:H->Prop}
  (au:∀(u':H) (bH:J ax),aD ak u' 52 2 s (bH.flatMap cJ)->bH.take i=l.take i->bH.length=l.length->hc u u' s->K u'):c7 aH (qc #[22] fq #[.slice (s.part i s.n s.c 2).a (s.part i s.n s.c 2).n (s.part i s.n s.c 2).c]) [] u K:=by
 have dS:s.n=l.length:=hf fO (by decide) h.own.cK
 obtain⟨A7,_⟩:=uu ig
 rcases h.own.is with h0|⟨g,cur,az,Z,ag,I,ae,ht⟩
 subst h0
 have aq:l=[]:=qW dS.symm
 subst aq
 have E8:i=0:=by simpa using hi
 subst E8
 refine c7.pure [] (λw hw=>?_) .nil (au u [] h rfl rfl (hc.refl _ _))
 simp[N.part,qc,ia A7]
 rfl
 rcases Nat.eq_or_lt_of_le hi with rfl|bP
 have e:(s.part s.n s.n s.c 2).n=0:=by simp[N.part]
 refine c7.pure [] (λw hw=>?_) .nil (au u l h rfl rfl (hc.refl _ _))
 rw[e]
 cases(s.part s.n s.n s.c 2).a<;>simp[qc,ia A7]<;>rfl
 have tp:(s.part i s.n s.c 2).a=some ⟨g,i*2,none⟩:=by unfold N.part;simp only;rw[bF (by omega),az];simp[ib]
 rw[tp]
 have ZP:(s.part i s.n s.c 2).n=s.n-i:=rfl
 rw[ZP]
 have dm:i*2+(s.n-i)*2<=cur.size:=by rw[ae];omega
 refine aA6 Z dm ?_
 have lc:((fz (s.n-i) xW).flatMap cJ).length=(s.n-i)*2:=by rw[oc fO,Oy]
 have Dd:=Hc cur (i*2) ((fz (s.n-i) xW).flatMap cJ) (by rw[lc];omega)
 rw[lc] at Dd
 have C1:(l.take i++fz (s.n-i) xW).length=l.length:=by simp;omega
 refine au _ (l.take i++fz (s.n-i) xW) ⟨⟨by rw[oc fO,C1,dS],.inr ⟨g,_,az,bh _ _ _,ag,I,?_,?_⟩⟩,λb z aa=>?_,h.fresh⟩ ?_ C1 ?_
 rw[<-zE,Dd];simp[lc];omega
 rw[Dd,hb]
 have rz:cur.toList.take (s.n*2)=l.flatMap cJ:=ht
 have h1:cur.toList.take (i*2)=(l.take i).flatMap cJ:=by rw[<-yK fO,<-rz,aco,Oq (by omega)]
 have hX:((l.take i).flatMap cJ).length=i*2:=by grind
 rw[h1,ali (by rw[gG,hX,lc];omega),gC (by rw[gG,hX,lc];omega)]
 have:b≠g:=λe=>by
   have:=h.fresh g (by simp[N.al,az])
   grind
 rw[bz _ _ this];exact h.le b z aa
 grind
 intro b z aa an
 rw[bz _ _ (λe=>an (by simp[N.al,az,e]))];exact aa
theorem amS{ak ub:H}{fv:ap}{p:ax->ay}{K:N->H->Prop}(ac:aD ak u 52 2 s (l.flatMap cJ))(ad:Qq ub fv p)(cC:ub.le u)(lx:∀b,s.al=some b->ub b=none)
  (au:∀ar u',aD ak u' 52 2 ar ((l.filter λx=>!p x).flatMap cJ)->ar.al=s.al->hc u u' s->K ar u'):P1 s fv u K:=by
 have dS:s.n=l.length:=hf fO (by decide) ac.own.cK
 have tk:s.n<=9223372036854775807:=jW (bw.cap ac.own.cK) (bw.max ac.own.cK)
 apply aF6
 refine amT ac.own.cK ad cC (λi r Zc dR jD=>⟨λh=>by omega,λ_=>?_⟩) λdR=>⟨λ_=>?_,λh=>bf rfl h⟩
 have hi:i<l.length:=(hG.1 Zc).1
 have atW:(l.take i).filter (λx=>!p x)=l.take i:=by rw[qe];intro a az;obtain⟨k,hk,rfl⟩:=pv.1 az;simp only[iV] at hk;rw[JP,dR k _ (by omega) (dj (by omega))];rfl
 refine⟨⟨by omega,by omega⟩,?_⟩
 refine⟨λa j v=>0<=a/\a<j/\j<=l.length/\hc u v s/\∃m:J ax,m.length=l.length/\aD ak v 52 2 s (m.flatMap cJ)/\m.take a.toNat=(l.take j.toNat).filter (λx=>!p x)/\m.drop j.toNat=l.drop j.toNat,
  λ_ j _=>l.length-j.toNat,⟨by omega,by omega,by omega,hc.refl _ _,l,rfl,ac,?_,rfl⟩,?_⟩
 rw[show((i:o)+1).toNat=i+1 by omega,zL,fN,Zc]
 grind
 rintro a j v ⟨a0,cG,axY,eC,m,nf,oP,uW,L7⟩
 have aax:ub.le v:=λb z aa=>eC b z (cC b z aa) λe=>by grind
 refine⟨λkC=>?_,λhF=>?_⟩
 have Mn:j.toNat<l.length:=by omega
 have Mp:l[j.toNat]?=some l[j.toNat]:=dj Mn
 have R0:m[j.toNat]?=some l[j.toNat]:=by have:=eI (λW=>W[0]?) L7;simp only[Jx,Nat.add_zero] at this;rw[this,Mp]
 obtain⟨q,aL,I⟩:=bw.elem fO (by decide) oP.own.cK R0
 have bA:=I 0 _ rfl
 rw[Addr.add_zero'] at bA
 obtain⟨x,M⟩:∃x,x=l[j.toNat]:=⟨_,rfl⟩
 rw[<-M] at Mp R0 bA I
 have Ba:(l.take (j.toNat+1)).filter (λx=>!p x)=m.take a.toNat++(if p x=ai then[] else[x]):=by rw[fN,Mp,uW];simp only[Option.toList_some,BB,Oz,List.filter_nil];cases p x<;>simp
 have YL:∀qS:J ax,(∀k,a.toNat<k->qS[k]?=m[k]?)->qS.drop (j+1).toNat=l.drop (j+1).toNat:=λqS pX=>by
  have e:l.drop (j+1).toNat=m.drop (j+1).toNat:=by rw[show(j+1).toNat=j.toNat+1 by omega,<-Gp,<-Gp,L7]
  rw[e];apply sr;intro k
  grind
 refine⟨q,aL,⟨by omega,kC⟩,_,bA,_,I 1 _ rfl,ad x _ _ aax ⟨λaa=>?_,λaa=>?_⟩⟩
 have ZN:p x=ao:=by simpa using aa
 rw[ZN] at Ba
 refine⟨q,aL,⟨by omega,by omega⟩,?_⟩
 refine aD.store (enc:=cJ) fO oP (by decide) (i:=a.toNat) (by omega) (y:=x) (by simp[cJ,cI]) aL λcF dt jy _=>⟨⟨by omega,by omega⟩,⟨by omega,by omega⟩,⟨by omega,by omega,by omega,λb z aa an=>jy b z (eC b z aa an) an,_,by simpa using nf,dt,?_,?_⟩,by dsimp only;omega⟩
 rw[show(j+1).toNat=j.toNat+1 by omega,Ba,show(a+1).toNat=a.toNat+1 by omega,fN,DC (by omega),List.take_set_of_le (cw _)]
 simp
 grind
 rw[aa] at Ba
 refine⟨⟨by omega,by omega⟩,⟨by omega,by omega,by omega,eC,m,nf,oP,?_,YL m λ_ _=>rfl⟩,by dsimp only;omega⟩
 rw[show(j+1).toNat=j.toNat+1 by omega,Ba];simp
 have kC:j.toNat=l.length:=by omega
 have fQ:=bw.cap oP.own.cK
 rw[kC,pt] at uW
 refine kJ (P:=aH) ig (l:=a.toNat) (h:=s.n) (m:=s.c) (.inr (by grind)) (.inl ⟨rfl,rfl⟩) (.inl ⟨rfl,rfl⟩) (by omega) fQ (cw _) fQ ?_
 refine oP.aqP (i:=a.toNat) (by omega) λcF m2 dt h1 h2 jy=>?_
 refine kJ (P:=aH) ig (l:=0) (h:=a.toNat) (m:=s.c) (.inl ⟨rfl,rfl⟩) (.inr (by grind)) (.inl ⟨rfl,rfl⟩) (by omega) (by omega) (cw _) fQ ?_
 obtain⟨ab,AQ,_⟩:=dt.front (m:=a.toNat) (by omega)
 have e:(m2.flatMap cJ).take (a.toNat*2)=(l.filter λx=>!p x).flatMap cJ:=by rw[yK fO,h1,uW]
 rw[e] at ab
 exact au _ _ ab AQ λb z aa an=>jy b z (eC b z aa an) an
 have e:l.filter (λx=>!p x)=l:=qe.2 λa az=>by rw[dR a az];rfl
 exact au s u (by rw[e];exact ac) rfl (hc.refl _ _)
namespace bI
mutual
def del(id:o):bI->bI
 | .mk aC bm hi cD rows kids=>.mk aC bm hi cD (rows.filter λx=>x.1 !=id) (QR id kids)
def QR(id:o):J bI->J bI
 | []=>[]|p::c9=>p.del id::QR id c9
end
def afW(id:o):∀c9:J bI,QR id c9=c9.map (del id)
 | []=>rfl|p::c9=>by rw[QR,afW id c9,iw]
def ind{P:bI->Prop}(h:∀n,(∀k∈n.kids,P k)->P n):∀n,P n:=by intro n;exact bI.rec (motive_1:=P) (motive_2:=λkl=>∀k∈kl,P k) (λ_ _ _ _ _ _ aW=>h _ aW) (λk hk=>(by cases hk)) (λn kl h1 h2 k hk=>by rcases dM.1 hk with rfl|hk;exact h1;exact h2 k hk) n
def del_eq(id:o)(p:bI):p.del id=.mk p.aC p.bm p.hi p.cD (p.rows.filter λx=>x.1 !=id) (p.kids.map (del id)):=by cases p;rw[del,afW];rfl
theorem W6(id:o)(p:bI):(p.del id).all=p.all.filter λx=>x.1 !=id:=by
 induction p using ind with
 |h p aW=>
  rw[del_eq,all_eq,all_eq,BB];show(p.rows.filter λx=>x.1 !=id)++j2 (p.kids.map (del id))=_;congr 1;rw[yy,yy,BA];obtain⟨ks,pV⟩:∃ks,ks=p.kids:=⟨_,rfl⟩;rw[<-pV] at aW ⊢;clear pV;induction ks with
  |nil=>rfl|cons k ks I0=>
   grind
def afY{id d:o}(h:gr d p):gr d (p.del id):=by
 induction p using ind with
 |h p aW=>
  have h1:=h.kb;have h2:=h.ins;have h3:=h.kids;have U:(p.del id).hI []=p.hI []:=by rw[del_eq];rfl
  refine .mk ?_ (λx M=>?_) λk hk=>?_;rw[U];exact h1;rw[U];rw[W6] at M;exact h2 x (kZ.1 M).1;rw[del_eq] at hk;obtain⟨dY,dk,rfl⟩:=bQ.1 (show k∈p.kids.map (del id) from hk);exact aW dY dk (h3 dY dk)
def afZ(id:o)(p:bI):(p.del id).size=p.size:=by
 induction p using ind with
 |h p aW=>
  rw[del_eq,size_eq,size_eq];show 1+hB (p.kids.map (del id))=_;congr 1;obtain⟨ks,pV⟩:∃ks,ks=p.kids:=⟨_,rfl⟩;rw[<-pV] at aW ⊢;clear pV;induction ks with
  |nil=>rfl|cons k ks I0=>rw[iw,hB,hB,aW k (ik ..),I0 λj aP=>aW j (iX _ aP)]
end bI
inductive lM(s:o):bI->Prop where
 |mk {p:bI} (aC:p.aC=s) (kids:∀k∈p.kids,lM s k):lM s p
def lM.aC{s:o}(h:lM s p):p.aC=s:=by cases h;assumption
def lM.kids{s:o}(h:lM s p):∀k∈p.kids,lM s k:=by cases h;assumption
def lM.del{s id:o}(h:lM s p):lM s (p.del id):=by
 induction p using bI.ind with
 |h p aW=>rw[bI.del_eq];refine .mk h.aC λk hk=>?_;obtain⟨dY,dk,rfl⟩:=bQ.1 (show k∈p.kids.map (bI.del id) from hk);exact aW dY dk (h.kids dY dk)
theorem agA{α β:Type}{f:α->J β}:∀{ks:J α},(ks.flatMap f).Nodup->∀{i j:O} {a b:α} {c:β},ks[i]?=some a->ks[j]?=some b->i≠j->c∈f a->c∉f b:=by
 intro ks;induction ks with
 |nil=>grind|cons k ks aW=>
  intro ag i j a b c hi aP an az aa;rw[jr,hg] at ag
  grind
def Uu{h:ev}(I:u h.b=some (.cells (eT h).toArray 213 (0,0)))(s:N)(rows:J ax){f:H->Prop}
  (ab:f (u.ins h.b (.cells (eT {h with a6:=s,rows:=rows}).toArray 213 (0,0)))):H.aM u ((cp h.b 0 none).add 6) [.slice s.a s.n s.c] f:=by
 exact⟨_,_,I,rfl,by simp[eT,ib],by simp[cI],ab⟩
structure Hp(id:o)(n:aw)(u':H)(n':aw):Prop where
 one:∀x∈n'.bT,hL u' x
 own:n'.own=n.own
 b:n'.b=n.b
 bG:n'.bG=n.bG.del id
 rows:∀x∈n'.bT,∀r∈x.1.rows,∃y∈n.bT,r∈y.1.rows
def gD.mix{m:J ax}{d:o}(h:gD l d)(ad:m.Perm l):gD m d:=
 ⟨h.dim,by rw[ad.length_eq];exact h.len,λr U=>h.id r (ad.mem_iff.1 U),(ad.map _).nodup_iff.2 h.nodup,λr U=>h.v r (ad.mem_iff.1 U)⟩
def abQ{e k:O}{xs:J ap}(h:Own u e k s xs){g:O}(Z:s.al=some g):u g≠none:=dH h.f Z
end
section
open Go.Shelf Go.RowKit Go.Sort
theorem agz{α:Type}[lF α]{enc:α->J ap}{k:O}(rn:0<k)(hk:∀x,(enc x).length=k)(d:cA α):(flatK enc k d).toList=d.toList.flatMap enc:=by
 apply sr;intro i;rcases tK i (d.size*k) with hi|hi;have e:i=i/k*k+i%k:=by rw[Nat.mul_comm];exact(Nat.div_add_mod i k).symm
 have av:i/k<d.size:=Nat.div_lt_of_lt_mul (by grind);have U:i%k<k:=Gr _ rn;have ab:=EF hk d.toList (i/k) (i%k) U;rw[<-e] at ab;rw[ab];have:(flatK enc k d).toList[i]?=some ((flatK enc k d)[i]!):=by rw[Oi,JJ _ i (by simpa using hi),Og (by simpa using hi)]
 rw[this,get_flatK _ _ _ _ hi];simp[av]
 grind
 rw[wx (by simpa using hi),wx (by rw[oc hk];simpa using hi)]
def asn{P:dL}{f:j8}{args:cA ap}{W:o}{bJ:ci}(h:hD P f args [.one (.int .i64)] (λb=>bJ.heap[b]?) λfA u'=>fA=W/\u'=λb=>bJ.heap[b]?):
  Calls P f args bJ λe w'=>e=.returned (.int .i64 W)/\∃q N3,w'=grow (bJ.drewN q) N3:=by
 refine(h bJ (λb z e=>e)).mono ?_
 rintro e w' ⟨v,u',rfl,⟨vs,hk,rfl,I⟩,ae⟩
 cases hk with
 |cons x U=>cases U;have qG:=(aI.vx (.int .i64) x _).1 I;obtain⟨M,hu⟩:x=W/\u'=_:=qG;subst M;subst hu;exact⟨rfl,ae.agM⟩
def amx{α:Type}[lF α]{cf:α->α->o}{d:cA α}(ae:SortedIn (ltOf cf) 0 d.size d):d.toList.Pairwise λa b=>¬cf b a<0:=by refine lW.2 λi j hi aP jd=>?_;have:=ae i j (pu _) jd (by simpa using aP);simp only[zE] at hi aP;rw[JJ d j aP,JJ d i hi] at this;unfold ltOf at this;simpa using this
theorem aCq{α:Type}[lF α](val:α->ax){g:j8}{cf:α->α->o}(hO:SWO (ltOf cf))(oJ:∀args w,(qT g args).run aH w=.ok (.enter g args) w)
  (L4:∀a b (u:H),hD aH g #[.agg (cJ (val a)).toArray,.agg (cJ (val b)).toArray] [.one (.int .i64)] u λfA u'=>fA=cf a b/\u'=u)
  {ak u:H} {s:N} {l:J α} (ac:aD ak u 52 2 s ((l.map val).flatMap cJ)) (fX:l.length<4611686018427387904) {K:H->Prop}
  (au:∀(u':H) (bH:J α),bH.Perm l->(bH.Pairwise λa b=>¬cf b a<0)->aD ak u' 52 2 s ((bH.map val).flatMap cJ)->hc u u' s->K u'):aeL s (.func (.func g) #[] #[]) u K:=by
 intro w hw
 have dS:s.n=l.length:=by have:=hf fO (by decide) ac.own.cK;simpa using this
 rcases ac.own.is with h0|⟨b,cur,az,Z,hle,I,ae,ht⟩
 subst h0
 have aq:l=[]:=by grind
 subst aq
 refine(acg Tryz.amv none 0 _ w).mono ?_
 rintro e w' ⟨rfl,rfl⟩
 exact⟨_,u,rfl,⟨[],.nil,rfl,au u [] (JV _) mG ac (hc.refl _ _)⟩,Step.refl hw⟩
 have Mf:∀m:J α,(m.map val).flatMap cJ=m.flatMap λx=>cJ (val x):=λm=>by rw[BA]
 have hH:HoldsK (λx=>cJ (val x)) 2 w b 0 l.toArray:=by
  intro j aP;simp only[size_flatK,Bw] at aP;have aq:((l.map val).flatMap cJ)[j]?=some ((flatK (λx=>cJ (val x)) 2 l.toArray)[j]!):=by
   have:=agz (k:=2) (enc:=λx=>cJ (val x)) (by decide) (λx=>fO _) l.toArray;simp only[] at this
   grind
  constructor;rcases ac.own.cK.at' with h1|⟨p,ad,gf⟩;rw[h1] at aq;simp at aq;rw[az] at ad;cases ad;have:=hw.cell (gf j _ aq);rw[ib,kY] at this;simpa using this;simp[Gh,hw _ _ Z]
 have td:=AnyQ.slices_SortFunc Tryz.amv 2 (λw=>by kernel_rfl) (λw=>by kernel_rfl) (λx=>cJ (val x)) (λx=>fO _) (λx=>HQ _) cf hO g #[] b 0 s.c l.toArray w oJ
  (λm os Aw _ x y=>by have:=agN (L4 x y) (sortWorldK (λx=>cJ (val x)) 2 w b 0 m Aw os);simpa using this) hH (hw.lt Z) (by simpa using fX)
 simp only[Bw] at td
 change Calls aH 104 _ _ _ at td
 unfold vs
 rw[az,dS]
 refine td.mono ?_
 rintro e w' ⟨rfl,gO,n,os,⟨ft,_,rv⟩,mB,rfl⟩
 simp only[Bw] at ft
 have gF:gO.toList.Perm l:=by
  have aT:gO.extract 0 l.length=gO:=by rw[<-ft];simp
  have aN:l.toArray.extract 0 l.length=l.toArray:=by simp
  rw[aT,aN] at rv;simpa using rv
 obtain⟨bR,he⟩:=ac.TX az Z (F:=flatK (λx=>cJ (val x)) 2 gO) (by rw[size_flatK,ft,dS])
 rw[agz (by decide) (λx=>fO _),<-Mf] at bR
 exact⟨_,_,rfl,⟨[],.nil,rfl,au _ gO.toList gF (amx (by rw[ft];exact mB)) bR he⟩,Ux hw Z n _ os⟩
theorem aCp{α:Type}[lF α](val:α->o){g:j8}{l5:cA ap}{cf:α->α->o}(hO:SWO (ltOf cf))(oJ:∀args w,(qT g args).run aH w=.ok (.enter g args) w)
  {ub:H} (L4:∀a b (v:H),ub.le v->hD aH g (#[.int .i64 (val a),.int .i64 (val b)]++l5) [.one (.int .i64)] v λfA u'=>fA=cf a b/\u'=v)
  {ak u:H} {s:N} {l:J α} (cC:ub.le u) (lx:∀b,s.al=some b->ub b=none) (ac:aD ak u 3 1 s ((l.map val).flatMap encI)) (fX:l.length<4611686018427387904) {K:H->Prop}
  (au:∀(u':H) (bH:J α),bH.Perm l->(bH.Pairwise λa b=>¬cf b a<0)->aD ak u' 3 1 s ((bH.map val).flatMap encI)->hc u u' s->K u'):aeK s (.func (.func g) #[] l5) u K:=by
 intro w hw
 have dS:s.n=l.length:=by have:=ac.ints.len;simpa using this
 rcases ac.own.is with h0|⟨b,cur,az,Z,hle,I,ae,ht⟩
 subst h0
 have aq:l=[]:=by grind
 subst aq
 refine(acg {Tryz.amu with} none 0 _ w).mono ?_
 rintro e w' ⟨rfl,rfl⟩
 exact⟨_,u,rfl,⟨[],.nil,rfl,au u [] (JV _) mG ac (hc.refl _ _)⟩,Step.refl hw⟩
 have RD:ub b=none:=lx b (by simp[N.al,az])
 have hH:Holds (λx=>cN .i64 (val x)) w b 0 l.toArray:=by
  intro j aP;have kB:j<l.length:=by simpa using aP
  have aq:((l.map val).flatMap encI)[j]?=some (.int .i64 (val l[j])):=by rw[r3];simp[kB]
  constructor;rcases ac.own.cK.at' with h1|⟨p,ad,gf⟩;rw[h1] at aq;simp at aq;rw[az] at ad;cases ad;have:=hw.cell (gf j _ aq);rw[ib,kY] at this
  grind
  simp[Gh,hw _ _ Z]
 have td:=Any.slices_SortFunc Tryz.amu (λx:α=>cN .i64 (val x)) (λx=>rfl) cf hO g l5 b 0 s.c l.toArray w oJ
  (λm os Aw _ x y=>by
   refine asn (L4 x y _ λc z I=>?_);have kx:c≠b:=λe=>by grind
   have ajT:=hw _ _ (cC _ _ I);have bP:c<w.heap.size:=(x6.1 ajT).1;have Mi:(wB w m).heap[b]?=some (.cells cur 3 (0,0)):=hw _ _ Z;have h2:=(ah7 (putCells (λx:α=>cN .i64 (val x)) 0 Aw) Mi).2 c kx;show((mapBlock (wB w m) b (putCells (λx:α=>cN .i64 (val x)) 0 Aw)).heap++os)[c]?=_;have dm:(mapBlock (wB w m) b (putCells (λx:α=>cN .i64 (val x)) 0 Aw)).heap.size=w.heap.size:=by simp[mapBlock,wB]
   rw[alg (by rw[dm];exact bP),h2];exact ajT) hH (hw.lt Z) (by simpa using fX)
 simp only[Bw] at td
 change Calls aH 175 _ _ _ at td
 unfold vs
 rw[az,dS]
 refine td.mono ?_
 rintro e w' ⟨rfl,gO,n,os,⟨ft,_,rv⟩,mB,rfl⟩
 simp only[Bw] at ft
 have gF:gO.toList.Perm l:=by
  have aT:gO.extract 0 l.length=gO:=by rw[<-ft];simp
  have aN:l.toArray.extract 0 l.length=l.toArray:=by simp
  rw[aT,aN] at rv;simpa using rv
 have ZT:putCells (λx:α=>cN .i64 (val x)) 0 gO cur=putCells id 0 ((gO.toList.map val).map λx=>cN .i64 x).toArray cur:=by
  unfold putCells;apply Array.ext;simp
  grind
 obtain⟨bR,he⟩:=ac.TX az Z (F:=((gO.toList.map val).map λx=>cN .i64 x).toArray) (by simp[ft,dS])
 rw[<-ZT] at bR he
 simp only[] at bR
 rw[<-r3] at bR
 exact⟨_,_,rfl,⟨[],.nil,rfl,au _ gO.toList gF (amx (by rw[ft];exact mB)) bR he⟩,Ux hw Z n _ os⟩
end
section
variable{u ak ub v:H}{l:J ax}{s:N}{fv:ap}{K:H->Prop}{a b d:o}
def jM(ak u:H)(s:N)(l:J ax)(v:H):Prop:=hc u v s/\∃m:J ax,m.Perm l/\aD ak v 52 2 s (m.flatMap cJ)
def KM(ub:H)(l:J ax)(fv:ap):Prop:=∀(a b:ax) (v:H) (K:o->H->Prop),a∈l->b∈l->ub.le v->(∀W,K W v)->h6 aH fv #[.agg #[.int .i64 a.id,.slice a.s.a a.s.n a.s.c],.agg #[.int .i64 b.id,.slice b.s.a b.s.n b.s.c]] [.one (.int .i64)] v K
theorem jM.base(h:jM ak u s l v)(cC:ub.le u)(lx:∀b,s.al=some b->ub b=none):ub.le v:=λc z I=>h.1 c z (cC c z I) λe=>by grind
def jM.len(h:jM ak u s l v):s.n=l.length:=by obtain⟨_,m,ad,ac⟩:=h;have:=hf fO (by decide) ac.own.cK;rw[ad.length_eq] at this;exact this
theorem jM.El(h:jM ak u s l v){x y:o}(bK:0<=x)(dr:x<s.n)(hJ:0<=y)(ii:y<s.n):∃p,s.a=some p/\∃a b:ax,a∈l/\b∈l/\
  v.cell? (p.add (x.toNat*2))=some (.int .i64 a.id)/\v.cell? ((p.add (x.toNat*2)).add 1)=some (.slice a.s.a a.s.n a.s.c)/\v.cell? (p.add (y.toNat*2))=some (.int .i64 b.id)/\v.cell? ((p.add (y.toNat*2)).add 1)=some (.slice b.s.a b.s.n b.s.c)/\
  ∀f g:H->Prop,(∀b9,jM ak u s l b9->f b9)->(∀v1,H.aM v1 (p.add (y.toNat*2)) [.int .i64 a.id,.slice a.s.a a.s.n a.s.c] f->g v1)->H.aM v (p.add (x.toNat*2)) [.int .i64 b.id,.slice b.s.a b.s.n b.s.c] g:=by
 have dS:=h.len
 obtain⟨he,m,ad,ac⟩:=h
 have nf:=ad.length_eq
 have M:x.toNat<m.length:=by omega
 have aj:y.toNat<m.length:=by omega
 obtain⟨p,h8,I⟩:=bw.elem fO (by decide) ac.own.cK (dj M)
 obtain⟨jV,aJM,av⟩:=bw.elem fO (by decide) ac.own.cK (dj aj)
 obtain rfl:jV=p:=by grind
 have pd:=I 0 _ rfl
 have EY:=av 0 _ rfl
 rw[Addr.add_zero'] at pd EY
 refine⟨jV,h8,m[x.toNat],m[y.toNat],ad.mem_iff.1 (ln M),ad.mem_iff.1 (ln aj),pd,I 1 _ rfl,EY,av 1 _ rfl,λf g ab Z=>?_⟩
 refine aD.store (enc:=cJ) fO ac (by decide) (i:=x.toNat) M (y:=m[y.toNat]) (by simp[cJ,cI]) h8 λv1 jl yV _=>Z v1 ?_
 refine aD.store (enc:=cJ) fO jl (by decide) (i:=y.toNat) (by grind) (y:=m[x.toNat]) (by simp[cJ,cI]) h8 λv2 dt jy _=>ab v2 ⟨λc z I an=>jy c z (yV c z (he c z I an) an) an,_,?_,dt⟩
 refine JQ ?_ ad
 rw[<-GX M aj]
 exact DR M aj
def S4{x y:o}(M:0<=x)(aj:0<=y)(h:x+y<=4000000000):b2.wrap (et (bu.wrap (x+y)) (2 ^ 1))=(x+y)/2:=by
 have aT:bu.wrap (x+y)=x+y:=by show(x+y)%18446744073709551616=x+y;omega
 rw[aT,aca _ (by decide)];exact JI _ (by omega)
def adk{n:o}(h:jM ak u s l v)(fX:l.length<=1000000)(a0:0<=a)(fH:0<=b)(az:a+n<=s.n)(aa:b+n<=s.n)(au:∀b9,jM ak u s l b9->K b9):KA s a b n fv v K:=by have dS:=h.len;apply aGg;refine⟨λi w=>0<=i/\jM ak u s l w,λi _=>(n-i).toNat,⟨by omega,h⟩,?_⟩;rintro i w ⟨i0,hw⟩;refine⟨λhi=>?_,λ_=>au w hw⟩;obtain⟨p,ad,x,y,_,_,bA,c1,d0,d1,c6⟩:=hw.El (x:=a+i) (y:=b+i) (by omega) (by omega) (by omega) (by omega);refine⟨⟨by omega,by omega⟩,⟨by omega,by omega⟩,⟨by omega,by omega⟩,p,ad,⟨by omega,by omega⟩,⟨by omega,by omega⟩,p,ad,⟨by omega,by omega⟩,_,d0,_,d1,_,bA,_,c1,p,ad,⟨by omega,by omega⟩,?_⟩;exact c6 _ _ (λb9 gS=>⟨⟨by omega,by omega⟩,⟨by omega,gS⟩,by dsimp only;omega⟩) λv1 h1=>⟨p,ad,⟨by omega,by omega⟩,h1⟩
def aCg{m:o}(h:jM ak u s l v)(fX:l.length<=1000000)(a0:0<=a)(atL:a<m)(avy:m<b)(aa:b<=s.n)(au:∀b9,jM ak u s l b9->K b9):VH s a m b fv v K:=by have dS:=h.len;apply aGe;refine⟨⟨by omega,by omega⟩,⟨by omega,by omega⟩,λi j w=>0<i/\i<=m-a/\0<j/\j<=b-m/\jM ak u s l w,λi j _=>(i+j).toNat,⟨by omega,by omega,by omega,by omega,h⟩,?_⟩;rintro i j w ⟨i0,i1,e9,kU,hw⟩;refine⟨λan=>⟨λbP=>⟨⟨by omega,by omega⟩,?_⟩,λbP=>⟨⟨by omega,by omega⟩,⟨by omega,by omega⟩,⟨by omega,by omega⟩,?_⟩⟩,λhe=>⟨⟨by omega,by omega⟩,?_⟩⟩;exact adk hw fX (by omega) (by omega) (by omega) (by omega) λb9 gS=>⟨⟨by omega,by omega⟩,⟨by omega,by omega,by omega,by omega,gS⟩,by dsimp only;omega⟩;exact adk hw fX (by omega) (by omega) (by omega) (by omega) λb9 gS=>⟨⟨by omega,by omega⟩,⟨by omega,by omega,by omega,by omega,gS⟩,by dsimp only;omega⟩;exact adk hw fX (by omega) (by omega) (by omega) (by omega) au
def amM(cC:ub.le u)(lx:∀b,s.al=some b->ub b=none)(I:KM ub l fv)(h:jM ak u s l v)(fX:l.length<=1000000)(a0:0<=a)(AL:a<=2000000)(aa:b<=s.n)(au:∀b9,jM ak u s l b9->K b9):P4 s a b fv v K:=by have dS:=h.len;apply aGd;refine⟨⟨by omega,by omega⟩,λi w=>a<i/\jM ak u s l w,λi _=>(b-i).toNat,⟨by omega,h⟩,?_⟩;rintro i w ⟨i0,hw⟩;refine⟨λhi=>?_,λ_=>au w hw⟩;refine⟨λj w=>a<=j/\j<=i/\jM ak u s l w,λj _=>(j-a).toNat,⟨by omega,by omega,hw⟩,?_⟩;rintro j w ⟨e9,kU,hw⟩;intro Qn mx;have next:∀{W:H},jM ak u s l W->a7 (i+1)/\(a<i+1/\jM ak u s l W)/\(b-(i+1)).toNat<(b-i).toNat:=λaE=>⟨⟨by omega,by omega⟩,⟨by omega,aE⟩,by omega⟩;refine⟨λaP=>?_,λ_=>next hw⟩;obtain⟨p,ad,x,y,M,aj,bA,c1,d0,d1,c6⟩:=hw.El (x:=j) (y:=j-1) (by omega) (by omega) (by omega) (by omega);refine⟨p,ad,⟨by omega,by omega⟩,⟨by omega,by omega⟩,p,ad,⟨by omega,by omega⟩,_,bA,_,c1,_,d0,_,d1,?_⟩;refine I x y w _ M aj (hw.base cC lx) λW=>⟨λ_=>mx _ ?_,λ_=>next hw⟩;refine⟨⟨by omega,by omega⟩,⟨by omega,by omega⟩,p,ad,⟨by omega,by omega⟩,p,ad,⟨by omega,by omega⟩,_,d0,_,d1,_,bA,_,c1,p,ad,⟨by omega,by omega⟩,?_⟩;exact c6 _ _ (λb9 gS=>⟨⟨by omega,by omega⟩,⟨by omega,by omega,gS⟩,by dsimp only;omega⟩) λv1 h1=>⟨p,ad,⟨by omega,by omega⟩,h1⟩
def amW(cC:ub.le u)(lx:∀b,s.al=some b->ub b=none)(I:KM ub l fv)(fX:l.length<=1000000):∀(de:O) {a m b:o} {v:H} {K:H->Prop},b-a<=de->jM ak u s l v->0<=a->a<m->m<b->b<=s.n->(∀b9,jM ak u s l b9->K b9)->Hj s a m b fv v K:=by
 intro de;induction de with
 |zero=>omega|succ de aW=>
  intro a m b v K eP h a0 atL avy aa au;have dS:=h.len;apply aGh;refine⟨⟨by omega,by omega⟩,λh1=>?_,λh1=>⟨⟨by omega,by omega⟩,λh2=>?_,λh2=>?_⟩⟩;refine⟨λi j w=>m<=i/\i<=j/\j<=b/\jM ak u s l w,λi j _=>(j-i).toNat,⟨by omega,by omega,by omega,h⟩,?_⟩;rintro i j w ⟨i0,aj9,kU,hw⟩;refine⟨λjd=>⟨⟨by omega,by omega⟩,by decide,?_⟩,λjd=>?_⟩;rw[S4 (by omega) (by omega) (by omega)];obtain⟨c,l8⟩:∃c,c=(i+j)/2:=⟨_,rfl⟩;rw[<-l8];obtain⟨p,ad,x,y,M,aj,bA,c1,d0,d1,_⟩:=hw.El (x:=c) (y:=a) (by omega) (by omega) (by omega) (by omega);refine⟨p,ad,⟨by omega,by omega⟩,p,ad,⟨by omega,by omega⟩,_,bA,_,c1,_,d0,_,d1,?_⟩;refine I x y w _ M aj (hw.base cC lx) λW=>⟨λ_=>⟨⟨by omega,by omega⟩,⟨by omega,by omega,by omega,hw⟩,by dsimp only;omega⟩,λ_=>⟨⟨by omega,by omega,by omega,hw⟩,by dsimp only;omega⟩⟩;refine⟨λk w=>a<=k/\jM ak u s l w,λk _=>(i-k).toNat,⟨by omega,hw⟩,?_⟩;rintro k w ⟨iu,hw⟩;refine⟨⟨by omega,by omega⟩,λhk=>?_,λ_=>au w hw⟩;obtain⟨p,ad,x,y,M,aj,bA,c1,d0,d1,c6⟩:=hw.El (x:=k) (y:=k+1) (by omega) (by omega) (by omega) (by omega);refine⟨⟨by omega,by omega⟩,⟨by omega,by omega⟩,p,ad,⟨by omega,by omega⟩,p,ad,⟨by omega,by omega⟩,_,d0,_,d1,_,bA,_,c1,p,ad,⟨by omega,by omega⟩,?_⟩;exact c6 _ _ (λb9 gS=>⟨⟨by omega,by omega⟩,⟨by omega,gS⟩,by dsimp only;omega⟩) λv1 h1=>⟨p,ad,⟨by omega,by omega⟩,h1⟩;refine⟨λi j w=>a<=i/\i<=j/\j<=m/\jM ak u s l w,λi j _=>(j-i).toNat,⟨by omega,by omega,by omega,h⟩,?_⟩;rintro i j w ⟨i0,aj9,kU,hw⟩;refine⟨λjd=>⟨⟨by omega,by omega⟩,by decide,?_⟩,λjd=>?_⟩;rw[S4 (by omega) (by omega) (by omega)];obtain⟨c,l8⟩:∃c,c=(i+j)/2:=⟨_,rfl⟩;rw[<-l8];obtain⟨p,ad,x,y,M,aj,bA,c1,d0,d1,_⟩:=hw.El (x:=m) (y:=c) (by omega) (by omega) (by omega) (by omega);refine⟨p,ad,⟨by omega,by omega⟩,p,ad,⟨by omega,by omega⟩,_,bA,_,c1,_,d0,_,d1,?_⟩;refine I x y w _ M aj (hw.base cC lx) λW=>⟨λ_=>⟨⟨by omega,by omega⟩,⟨by omega,by omega,by omega,hw⟩,by dsimp only;omega⟩,λ_=>⟨⟨by omega,by omega,by omega,hw⟩,by dsimp only;omega⟩⟩;refine⟨λk w=>k<=m/\jM ak u s l w,λk _=>(k-i).toNat,⟨by omega,hw⟩,?_⟩;rintro k w ⟨iu,hw⟩;refine⟨λhk=>?_,λ_=>au w hw⟩;obtain⟨p,ad,x,y,M,aj,bA,c1,d0,d1,c6⟩:=hw.El (x:=k) (y:=k-1) (by omega) (by omega) (by omega) (by omega);refine⟨⟨by omega,by omega⟩,⟨by omega,by omega⟩,p,ad,⟨by omega,by omega⟩,p,ad,⟨by omega,by omega⟩,_,d0,_,d1,_,bA,_,c1,p,ad,⟨by omega,by omega⟩,?_⟩;exact c6 _ _ (λb9 gS=>⟨⟨by omega,by omega⟩,⟨by omega,gS⟩,by dsimp only;omega⟩) λv1 h1=>⟨p,ad,⟨by omega,by omega⟩,h1⟩;rw[S4 (by omega) (by omega) (by omega)];obtain⟨fa,y5⟩:∃fa,fa=(a+b)/2:=⟨_,rfl⟩;rw[<-y5];refine⟨⟨by omega,by omega⟩,by decide,⟨by omega,by omega⟩,?_⟩;intro apg asx;have body:∀s0 q2:o,a<=s0->s0<=q2->q2<=m->q2<=fa->fa+m-b<=s0->(m<=fa∨fa=q2)->apg s0 q2 v:=by
   intro s0 q2 di dv ef hl rJ Ge;refine asx s0 q2 v ⟨⟨by omega,by omega⟩,λi j w=>s0<=i/\i<=j/\j<=q2/\jM ak u s l w,λi j _=>(j-i).toNat,⟨by omega,by omega,by omega,h⟩,?_⟩;rintro i j w ⟨i0,aj9,kU,hw⟩;refine⟨λjd=>⟨⟨by omega,by omega⟩,by decide,?_⟩,λjd=>⟨⟨by omega,by omega⟩,?_⟩⟩;rw[S4 (by omega) (by omega) (by omega)];obtain⟨c,l8⟩:∃c,c=(i+j)/2:=⟨_,rfl⟩;rw[<-l8];obtain⟨p,ad,x,y,M,aj,bA,c1,d0,d1,_⟩:=hw.El (x:=fa+m-1-c) (y:=c) (by omega) (by omega) (by omega) (by omega);refine⟨⟨by omega,by omega⟩,p,ad,⟨by omega,by omega⟩,p,ad,⟨by omega,by omega⟩,_,bA,_,c1,_,d0,_,d1,?_⟩;refine I x y w _ M aj (hw.base cC lx) λW=>⟨λ_=>⟨⟨by omega,by omega⟩,⟨by omega,by omega,by omega,hw⟩,by dsimp only;omega⟩,λ_=>⟨⟨by omega,by omega,by omega,hw⟩,by dsimp only;omega⟩⟩;intro aph asB;have fin:∀W,jM ak u s l W->aph W:=by
    intro W aE;refine asB W ?_;intro Wt XS;have Xu:∀W,jM ak u s l W->Wt W:=by intro W aE;refine XS W ⟨λaT=>⟨λaN=>?_,λ_=>au W aE⟩,λ_=>au W aE⟩;exact aW (by omega) aE (by omega) (by omega) (by omega) (by omega) au
    refine⟨λaT=>⟨λaN=>?_,λ_=>Xu W aE⟩,λ_=>Xu W aE⟩;exact aW (by omega) aE (by omega) (by omega) (by omega) (by omega) Xu
   refine⟨λaT=>⟨λaN=>?_,λ_=>fin w hw⟩,λ_=>fin w hw⟩;exact aCg hw fX (by omega) (by omega) (by omega) (by omega) fin
  refine⟨λbP=>⟨⟨by omega,by omega⟩,body _ _ (by omega) (by omega) (by omega) (by omega) (by omega) (by omega)⟩,λhF=>body _ _ (by omega) (by omega) (by omega) (by omega) (by omega) (by omega)⟩
def amV(ac:aD ak u 52 2 s (l.flatMap cJ))(cC:ub.le u)(lx:∀b,s.al=some b->ub b=none)(I:KM ub l fv)(fX:l.length<=1000000)
  (au:∀(u':H) (m:J ax),m.Perm l->aD ak u' 52 2 s (m.flatMap cJ)->hc u u' s->K u'):P3 s fv u K:=by
 have h:jM ak u s l u:=⟨hc.refl _ _,l,.refl _,ac⟩
 have dS:=h.len
 have fin:∀v,jM ak u s l v->K v:=λv ⟨he,m,ad,ac⟩=>au v m ad ac he
 apply aGb
 apply aGf
 refine⟨λa b w=>0<=a/\a<=s.n/\b=a+20/\jM ak u s l w,λa _ _=>((s.n:o)-a).toNat,⟨by omega,by omega,by omega,h⟩,?_⟩
 rintro a b w ⟨a0,Y,aa,hw⟩
 refine⟨λhle=>?_,λvT=>?_⟩
 exact amM cC lx I hw fX (by omega) (by omega) (by omega) λb9 gS=>⟨⟨by omega,by omega⟩,⟨by omega,by omega,by omega,gS⟩,by dsimp only;omega⟩
 refine amM cC lx I hw fX (by omega) (by omega) (by omega) λb9 gS=>?_
 refine⟨λ_ _ k w=>20<=k/\k<=4000000/\jM ak u s l w,λ_ _ k _=>(4000000-k).toNat,⟨by omega,by omega,gS⟩,?_⟩
 rintro _ _ k w ⟨iu,cB,hw⟩
 refine⟨λhk=>⟨⟨by omega,by omega⟩,?_⟩,λ_=>fin w hw⟩
 refine⟨λx y w=>0<=x/\x<=s.n/\y=x+2*k/\jM ak u s l w,λx _ _=>((s.n:o)-x).toNat,⟨by omega,by omega,by omega,hw⟩,?_⟩
 rintro x y w ⟨bK,dr,aj,hw⟩
 refine⟨λhle=>⟨⟨by omega,by omega⟩,?_⟩,λvT=>⟨⟨by omega,by omega⟩,λhm=>?_,λ_=>⟨⟨by omega,by omega⟩,⟨by omega,by omega,hw⟩,by dsimp only;omega⟩⟩⟩
 exact amW cC lx I fX (y-x).toNat (by omega) hw (by omega) (by omega) (by omega) (by omega) λb9 gS=>⟨⟨by omega,by omega⟩,⟨by omega,by omega⟩,⟨by omega,by omega,by omega,gS⟩,by dsimp only;omega⟩
 exact amW cC lx I fX ((s.n:o)-x).toNat (by omega) hw (by omega) (by omega) (by omega) (by omega) λb9 gS=>⟨⟨by omega,by omega⟩,⟨by omega,by omega,gS⟩,by dsimp only;omega⟩
structure Ql(ub u:H)(s:N)(l:J ax)(d:o)(u':H)(n:aw):Prop where
 one:∀x∈n.bT,hL u' x
 nodup:n.own.Nodup
 out:∀c∈n.own,ub c=none/\u' c≠none
 all:n.bG.all.Perm (l.map ax.bn)
 ok:gr d n.bG
 rows:∀x∈n.bT,∀r∈x.1.rows,r∈l
 size:n.bT.length+1<=2*l.length
 uv:∀c z,u c=some z->s.al≠some c->u' c=some z
namespace k6
def K2:hy aH 122=ai:=by kernel_rfl
def WD:hy aH 125=ai:=by kernel_rfl
def WM(a b:O):kO aH 211 2 #[(0,.pointer (some ⟨a,0,none⟩)),(1,.pointer (some ⟨b,0,none⟩))]=some (167,[.pointer (some ⟨a,0,none⟩),.pointer (some ⟨b,0,none⟩)]):=by kernel_rfl
abbrev yE(n0 cj:O):ap:=.func (.func 122) #[] #[.pointer (some ⟨n0,0,none⟩),.pointer (some ⟨cj,0,none⟩)]
structure wX(ub:H)(n0 cj c3:O)(d leaf:o):Prop where
 bA:ub.cell? ⟨n0,0,none⟩=some (.pointer (some ⟨c3,0,none⟩))
 c1:ub.cell? ⟨cj,0,none⟩=some (yE n0 cj)
 Ki:ub.cell? ⟨c3,0,none⟩=some (.int .i64 d)
 q7:ub.cell? ((cp c3 0 none).add 1)=some (.int .i64 leaf)
def wX.mono{n0 cj c3:O}{leaf:o}(h:wX ub n0 cj c3 d leaf)(k:ub.le u):wX u n0 cj c3 d leaf:=⟨H.le.cell k h.bA,H.le.cell k h.c1,H.le.cell k h.Ki,H.le.cell k h.q7⟩
def W3{n11:O}{wd:o}(I:ub.cell? ⟨n11,0,none⟩=some (.int .i64 wd))(h0:0<=wd)(h1:wd<d)(aB:∀r∈l,Ints ub r.s r.v)(bM:gD l d):
  KM ub l (.func (.func 125) #[] #[.pointer (some ⟨n11,0,none⟩)]):=by
 intro a b v K az aa hle au
 refine⟨_,_,_,rfl,hs WD,aFB a.id a.s b.id b.s ⟨n11,0,none⟩ v K ?_⟩
 have z6:=(aB a az).mono hle
 have q9:=(aB b aa).mono hle
 obtain⟨Y,a2⟩:=bM.v a az
 obtain⟨e7,fy⟩:=bM.v b aa
 have aO:=z6.len
 have QD:=q9.len
 obtain⟨p,ad,M⟩:=z6.at (x:=wd) h0 (by omega)
 obtain⟨q,aL,aj⟩:=q9.at (x:=wd) h0 (by omega)
 have aT:=a2.2 wd.toNat (by omega)
 have aN:=fy.2 wd.toNat (by omega)
 have Cv:=H.le.cell hle I
 exact⟨wd,Cv,p,ad,⟨h0,by omega⟩,_,M,wd,Cv,q,aL,⟨h0,by omega⟩,_,aj,⟨by have:=aT.1;have:=aT.2;have:=aN.1;have:=aN.2;omega,by have:=aT.1;have:=aT.2;have:=aN.1;have:=aN.2;omega⟩,au _⟩
theorem ac5{n0 cj c3:O}{leaf:o}(AX:1<=leaf):∀(de:O) {ub u:H} {s:N} {l:J ax} {K:aA a8->H->Prop},l.length<=de->wX ub n0 cj c3 d leaf->aD ub u 52 2 s (l.flatMap cJ)->(∀r∈l,Ints ub r.s r.v)->gD l d->
  (l=[]->K none u)->(l≠[]->∀u' n,Ql ub u s l d u' n->lM 2 n.bG->K (some ⟨n.b,0,none⟩) u')->aeF s ⟨n0,0,none⟩ ⟨cj,0,none⟩ u K:=by
 intro de
 induction de with
 |zero=>intro ub u s l K eP ch ac aB bM h0 _;have aq:l=[]:=qW (by omega);have dS:s.n=l.length:=hf fO (by decide) ac.own.cK;apply aoh;refine⟨λ_=>h0 aq,λan=>bf (by rw[dS,aq];rfl) an⟩
 |succ de aW=>
  intro ub u s l K eP ch ac aB bM h0 au;have dS:s.n=l.length:=hf fO (by decide) ac.own.cK;have av:=bM.dim;have asw:=bM.len;apply aoh;refine⟨λaE=>h0 (qW (by omega)),λZA=>?_⟩;have an:l≠[]:=λe=>ZA (by rw[dS,e];rfl);have au:=au an;have cC:=ac.le;have b7:dU u s l:=⟨ac.own.cK,λr U=>(aB r U).mono cC⟩;refine⟨_,H.le.cell cC ch.bA,_,rfl,d,H.le.cell cC ch.Ki,?_⟩;refine am9 b7 bM an λbx aC kc hn h1 h2 h3 f1 f2 f3=>?_;obtain⟨e7,fy,mV,pJ,rh,pK⟩:=afv bM an;have abp:u.le hn:=h1.le;have avr:bx.n=(mZ l).length:=h1.ints.len;have uH:aC.n=(mY l).length:=h2.ints.len;intro n11 y7;refine lZ (zs:=[.int .i64 0]) rfl (by simp[cI]) ?_;have SQ:=bX (u:=hn) (b:=n11) (.cells [cN .i64 0].toArray 3 (0,0)) y7;have aJ5:ub n11=none:=cC.none (abp.none y7);refine⟨λx w=>0<=x/\hn.le w/\∃wd:o,0<=wd/\wd<d/\w n11=some (.cells #[.int .i64 wd] 3 (0,0)),λx _=>(d-x).toNat,⟨by omega,SQ,0,by omega,by omega,bh _ _ _⟩,?_⟩;rintro x w ⟨bK,lw,wd,wT,e5,hw⟩;have QP:w.cell? ⟨n11,0,none⟩=some (.int .i64 wd):=aZ hw 0;have y4:=(h1.mono lw).ints;have E6:=(h2.mono lw).ints;have j3:∀{v:J o} {i:O},cY v->i<v.length->-2147483647<=v.getD i 0/\v.getD i 0<=2147483647:=λaB hi=>aB.2 _ hi;obtain⟨dv,ZU,qG⟩:=E6.at (x:=wd) wT (by omega);obtain⟨di,xE,iO⟩:=y4.at (x:=wd) wT (by omega);have g3:=j3 mV (i:=wd.toNat) (by omega);have g4:=j3 pJ (i:=wd.toNat) (by omega);refine⟨λM=>?_,λM=>?_⟩;obtain⟨gU,ft,uA⟩:=y4.at (x:=x) bK M;obtain⟨du,eX,CS⟩:=E6.at (x:=x) bK (by omega);have g1:=j3 mV (i:=x.toNat) (by omega);have g2:=j3 pJ (i:=x.toNat) (by omega);refine⟨du,eX,⟨bK,by omega⟩,_,CS,gU,ft,⟨bK,M⟩,_,uA,⟨by omega,by omega⟩,wd,QP,dv,ZU,⟨wT,by omega⟩,_,qG,wd,QP,di,xE,⟨wT,by omega⟩,_,iO,⟨by omega,by omega⟩,λ_=>?_,λ_=>⟨⟨by omega,by omega⟩,⟨by omega,lw,wd,wT,e5,hw⟩,by dsimp only;omega⟩⟩;refine GV hw (by simp[cI]) ⟨⟨by omega,by omega⟩,⟨by omega,λc z I=>?_,x,bK,by omega,bh _ _ _⟩,by dsimp only;omega⟩;rw[bz _ _ (λe=>by grind)];exact lw c z I;have Jd:u.le w:=abp.trans lw;have lg:ub.le w:=cC.trans Jd;intro Ea HZ;have kb:∀kids:J bI,l3 ((bI.mk 2 (mZ l) (mY l) 0 (l.map ax.bn) kids).hI []) d/\∀rows:J ke,l3 ((bI.mk 2 (mZ l) (mY l) 0 rows kids).hI []) d:=λkids=>
   ⟨⟨av,mG,λx M=>(by cases M),.inr (.inl ⟨rfl,rfl,mV,pJ,e7,fy,rh⟩)⟩,λrows=>⟨av,mG,λx M=>(by cases M),.inr (.inl ⟨rfl,rfl,mV,pJ,e7,fy,rh⟩)⟩⟩
  have ins:∀rows kids,∀W∈l.map ax.bn,mq ((bI.mk 2 (mZ l) (mY l) 0 rows kids).hI []) W.2:=λrows kids W aE=>by obtain⟨r,U,rfl⟩:=bQ.1 aE;refine⟨λ_ i hi=>pK r U i ?_,λh=>(by cases h)⟩;have:=(bM.v r U).1;have qL:i<r.v.length:=hi;omega
  have NN:Ea ai w:=by
   refine HZ ai w ⟨λ_ n31 uN=>?_,λe=>(by cases e)⟩;obtain⟨qJ,iP⟩:∃cb:ev,cb=⟨n31,2,bx,aC,mZ l,mY l,0,s,l,⟨none,0,0⟩⟩:=⟨_,rfl⟩;have rD:=bX (u:=w) (b:=n31) (.cells (eT qJ).toArray 213 (0,0)) uN;have key:=au (w.ins n31 (.cells (eT qJ).toArray 213 (0,0))) (.mk qJ []);have dd:∀g,s.al=some g->u g≠none:=λg Z=>dH ac Z;have aJD:∀{t:N},(∀g,t.al=some g->w g≠none)->∀g,t.al=some g->g≠n31:=λht g Z e=>ht g Z (by rw[e];exact uN);have Dg:∀g,bx.al=some g->w g≠none:=λg Z=>dH (h1.mono lw) Z;have I6:∀g,aC.al=some g->w g≠none:=λg Z=>dH (h2.mono lw) Z;have ks:∀g,s.al=some g->w g≠none:=λg Z=>dH (ac.mono Jd) Z;have qO:(aw.mk qJ []).own=n31::(bx.al.toList++aC.al.toList++s.al.toList):=by rw[aw.rI,iP];simp[aw.h,aw.kids,ev.dE,N.al]
   refine(show K (some ⟨n31,0,none⟩) _ from ?_);have gf:(bt #[.int .i64 2,.slice bx.a bx.n bx.c,.slice aC.a aC.n aC.c,.int .u64 0,.int .u64 0,.slice none 0 0,.slice s.a s.n s.c,.slice none 0 0] 213 (0,0))=.cells (eT qJ).toArray 213 (0,0):=by rw[iP];rfl
   rw[gf];have Il:(aw.mk qJ []).b=n31:=by rw[iP];rfl
   rw[Il] at key;refine key ⟨λy aj=>?_,?_,λc I=>?_,?_,?_,λy aj r U=>?_,?_,λc z I kS=>rD c z (Jd c z I)⟩ (by rw[aw.hz,iP];exact .mk rfl λk hk=>(by cases hk));rw[aw.iD] at aj;obtain rfl:y=(qJ,[]):=by simpa[aw.h,aw.kids] using aj
   subst iP;exact⟨bh _ _ _,((h1.mono lw).mono rD).own,((h2.mono lw).mono rD).own,((ac.mono Jd).mono rD).own,λr U=>(aB r U).mono (lg.trans rD),⟨rfl,cw _,by grind,.inl rfl⟩⟩;rw[qO,ka];refine⟨λhm=>?_,?_⟩
   grind
   have e0:∀z:aA O,z.toList.Nodup:=λz=>by cases z<;>simp
   rw[hg,hg];refine⟨⟨e0 _,e0 _,λa az b aa e=>?_⟩,e0 _,λa az b aa e=>?_⟩
   grind
   rw[zM] at aa;simp only[dT,zM] at az;subst e;rcases az with az|az;exact dd a aa (h1.fresh a az);exact dd a aa (h2.fresh a az);rw[qO] at I;simp only[dM,dT,zM] at I;rcases I with rfl|(I|I)|I;exact⟨lg.none uN,by rw[bh];simp⟩;exact⟨cC.none (h1.fresh c I),λe=>Dg c I (rD.none e)⟩;exact⟨cC.none (h2.fresh c I),λe=>I6 c I (rD.none e)⟩;exact⟨ac.fresh c I,λe=>ks c I (rD.none e)⟩;rw[aw.tJ,aw.iD];subst iP;simp[aw.h,aw.kids];rw[aw.hz];subst iP;refine .mk (kb []).1 (λW aE=>ins _ _ W ?_) λk hk=>(by cases hk);rw[bI.all_eq] at aE;have FK:W∈l.map ax.bn++ []:=aE
   grind
   rw[aw.iD] at aj;obtain rfl:y=(qJ,[]):=by simpa[aw.h,aw.kids] using aj
   grind
   rw[aw.iD];have:=yb.2 an;simp[aw.kids];omega
  have inner:leaf<s.n->Ea ao w:=by
   intro bP;refine HZ ao w ⟨λe=>(by cases e),λ_=>?_⟩;obtain⟨sK,FG⟩:∃sK:H,sK=λc=>if c=n11 then w n11 else ub c:=⟨_,rfl⟩;have aD9:sK n11=w n11:=by grind
   have anX:∀{c},c≠n11->sK c=ub c:=λ{c} I=>by grind
   have bc:ub.le sK:=λc z I=>by grind
   have ayc:sK.le w:=λc z I=>by
    by_cases e:c=n11
    grind
    rw[anX e] at I;exact lg c z I
   have awL:∀b,s.al=some b->sK b=none:=λb aa=>by rw[anX (λe=>dH ac aa (by rw[e];exact abp.none y7))];exact ac.fresh b aa
   have aqA:sK.cell? ⟨n11,0,none⟩=some (.int .i64 wd):=aZ (aD9.trans hw) 0;refine amV (ac.mono Jd) ayc awL (W3 aqA wT e5 (λr U=>(aB r U).mono bc) bM) (by omega) λu32 m ad oP AP=>?_;have nf:=ad.length_eq;have nh:ub.le u32:=λc z I=>AP c z (lg c z I) λe=>by grind
   have Zs:gD m d:=bM.mix ad;have uM:∀r∈m,Ints ub r.s r.v:=λr U=>aB r (ad.mem_iff.1 U);have auV:=ch.mono nh;have Rt:dU u32 s m:=⟨oP.own.cK,λr U=>(uM r U).mono nh⟩;have fQ:=bw.cap oP.own.cK;obtain⟨fa,y5⟩:∃fa:O,fa=s.n/2:=⟨_,rfl⟩;have Xk:ff (s.n:o) 2=(fa:o):=by grind
   rw[Xk];have cX:dU u32 (s.part 0 fa s.c 2) (m.take fa):=by have:=Rt.part (l:=0) (h:=fa) (m:=s.c) (by omega) (by omega) (by omega) (cw _);simpa using this
   have Ru:dU u32 (s.part fa s.n s.c 2) (m.drop fa):=by have:=Rt.part (l:=fa) (h:=s.n) (m:=s.c) (by omega) (cw _) fQ (cw _);rwa[gC (by grind)] at this
   have O5:∀{W:H} {Q:N->H->Prop},Q (s.part 0 fa s.c 2) W->c7 aH (fZ 22 (.slice s.a s.n s.c) none (some (.int .i64 (fa:o))) none) [.one .slice] W Q:=λfj=>
    kJ (P:=aH) ig (l:=0) (h:=fa) (m:=s.c) (.inl ⟨rfl,rfl⟩) (.inr rfl) (.inl ⟨rfl,rfl⟩) (by omega) (by omega) (cw _) fQ fj
   have BL:∀{W:H} {Q:N->H->Prop},Q (s.part fa s.n s.c 2) W->c7 aH (fZ 22 (.slice s.a s.n s.c) (some (.int .i64 (fa:o))) none none) [.one .slice] W Q:=λfj=>
    kJ (P:=aH) ig (l:=fa) (h:=s.n) (m:=s.c) (.inr rfl) (.inl ⟨rfl,rfl⟩) (.inl ⟨rfl,rfl⟩) (by omega) fQ (cw _) fQ fj
   have hX:(m.take fa).length=fa:=by rw[iV];omega
   have iR:(m.drop fa).length=m.length-fa:=by rw[rO]
   have Fm:m.take fa≠[]:=λe=>by grind
   have y9:m.drop fa≠[]:=λe=>by rw[e] at iR;simp at iR;omega
   have DG:∀{W fA:H} {t:N} {k:J ax} {Q:aA a8->H->Prop},u32.le W->aD W fA 52 2 t (k.flatMap cJ)->k≠[]->k.length<=de->k.Sublist m->(∀u' n,Ql W fA t k d u' n->lM 2 n.bG->W.le u'->Q (some ⟨n.b,0,none⟩) u')->
     h6 aH (yE n0 cj) #[.slice t.a t.n t.c] [.one .ptr] fA Q:=λ{W fA t k Q} aE jm hk Zg vX fj=>
    ⟨_,_,_,rfl,hs K2,aW Zg (auV.mono aE) jm (λr U=>(uM r (vX.mem U)).mono (nh.trans aE)) (Zs.sub vX) (λe=>bf e hk) λ_ u' n I fM=>fj u' n I fM λc z bR=>I.uv c z (jm.le c z bR) λe=>by have:=jm.fresh c e;grind⟩
   have N5:Own u32 3 1 bx ((mZ l).flatMap encI):=(h1.mono lw).own.le λc z I bR=>AP c z bR λe=>dH ac e (h1.fresh c I);have akW:Own u32 3 1 aC ((mY l).flatMap encI):=(h2.mono lw).own.le λc z I bR=>AP c z bR λe=>dH ac e (h2.fresh c I);have second:∀{W jw:H} {t:N} {fb:aw},u32.le W->Ql u32 jw t (m.take fa) d W fb->lM 2 fb.bG->n4 (s.part fa s.n s.c 2) W (λ(sH:N) (DV:H)=>(H.le u32 DV)/\(h6 aH (yE n0 cj) #[.slice sH.a sH.n sH.c] [.one .ptr] DV (λ(abT:aA a8) (mN:H)=>(H.le u32 mN)/\(c7 aH (dA 211 2 #[(0,.pointer (some ⟨fb.b,0,none⟩)),(1,.pointer abT)]) [.one .slice] mN (λ(mJ:N) (ih:H)=>(H.le u32 ih)/\(∀n49:O,(ih n49=none)->K (some ⟨n49,0,none⟩) (ih.ins n49 (.cells #[.int .i64 2,.slice bx.a bx.n bx.c,.slice aC.a aC.n aC.c,.int .u64 0,.int .u64 0,.slice none 0 0,.slice none 0 0,.slice mJ.a mJ.n mJ.c] 213 (0,0))))))))):=by
    intro W jw t fb aE I uV;refine Pc (Ru.1.mono aE) (by show s.n-fa<=_;omega) λsH DV MU _=>⟨aE.trans MU.le,DG aE MU y9 (by omega) (Oo _ _) λmN ck aa ts wi=>⟨aE.trans wi,?_⟩⟩;refine mK (WM fb.b ck.b) λg Z=>?_;have tB:=bX (u:=mN) (b:=g) (.cells [ha (some ⟨fb.b,0,none⟩),.pointer (some ⟨ck.b,0,none⟩)].toArray 167 (0,0)) Z;have mk:=aD.make (k:=1) (H.le.refl mN) Z (cells:=[ha (some ⟨fb.b,0,none⟩),.pointer (some ⟨ck.b,0,none⟩)].toArray) (e:=167) (n:=2) (by omega) rfl;obtain⟨ih,Nl⟩:∃ih,ih=mN.ins g (.cells [ha (some ⟨fb.b,0,none⟩),.pointer (some ⟨ck.b,0,none⟩)].toArray 167 (0,0)):=⟨_,rfl⟩;have Y0:ih g≠none:=by rw[Nl,bh];simp
    rw[<-Nl] at tB mk ⊢;refine⟨(aE.trans wi).trans tB,λn49 C5=>?_⟩;obtain⟨ky,iP⟩:∃cb:ev,cb=⟨n49,2,bx,aC,mZ l,mY l,0,⟨none,0,0⟩,[],⟨some ⟨g,0,none⟩,2,2⟩⟩:=⟨_,rfl⟩;have gf:(bt #[.int .i64 2,.slice bx.a bx.n bx.c,.slice aC.a aC.n aC.c,.int .u64 0,.int .u64 0,.slice none 0 0,.slice none 0 0,.slice (some ⟨g,0,none⟩) 2 2] 213 (0,0))=.cells (eT ky).toArray 213 (0,0):=by rw[iP];rfl
    show K (some ⟨n49,0,none⟩) (ih.ins n49 (bt #[.int .i64 2,.slice bx.a bx.n bx.c,.slice aC.a aC.n aC.c,.int .u64 0,.int .u64 0,.slice none 0 0,.slice none 0 0,.slice (some ⟨g,0,none⟩) 2 2] 213 (0,0)));rw[gf];have zj:=bX (u:=ih) (b:=n49) (.cells (eT ky).toArray 213 (0,0)) C5;have key:=au (ih.ins n49 (.cells (eT ky).toArray 213 (0,0))) (.mk ky [fb,ck]);have EX:(aw.mk ky [fb,ck]).b=n49:=by rw[iP];rfl
    rw[EX] at key;have NI:u32.le (ih.ins n49 (.cells (eT ky).toArray 213 (0,0))):=((aE.trans wi).trans tB).trans zj;have Dg:∀c,bx.al=some c->u32 c≠none:=λc I=>abQ N5 I;have I6:∀c,aC.al=some c->u32 c≠none:=λc I=>abQ akW I;have I8:∀{c},u32 c≠none->W c≠none:=λI e=>I (aE.none e);have I4:∀{c},W c≠none->mN c≠none:=λI e=>I (wi.none e);have FQ:∀{c},mN c≠none->ih c≠none:=λI e=>I (tB.none e);have axZ:∀{c},ih c≠none->(ih.ins n49 (.cells (eT ky).toArray 213 (0,0))) c≠none:=λI e=>I (zj.none e);have qO:(aw.mk ky [fb,ck]).own=n49::((bx.al.toList++aC.al.toList++ [g])++(fb.own++ck.own)):=by rw[aw.rI,iP];simp[aw.h,aw.kids,ev.dE,N.al]
    have E5:(aw.mk ky [fb,ck]).bT=(ky,[fb.b,ck.b])::(fb.bT++ck.bT):=by rw[aw.iD];simp[aw.h,aw.kids]
    have abc:∀c∈(bx.al.toList++aC.al.toList++ [g])++(fb.own++ck.own),ub c=none/\ih c≠none:=λc c4=>by simp only[dT,zM,hZ] at c4;rcases c4 with((c4|c4)|rfl)|c4|c4;exact⟨cC.none (h1.fresh c c4),FQ (I4 (I8 (Dg c c4)))⟩;exact⟨cC.none (h2.fresh c c4),FQ (I4 (I8 (I6 c c4)))⟩;exact⟨nh.none (aE.none (wi.none Z)),Y0⟩;exact⟨nh.none (I.out c c4).1,FQ (I4 (I.out c c4).2)⟩;exact⟨nh.none (aE.none (aa.out c c4).1),FQ (aa.out c c4).2⟩
    refine key ⟨λy aj=>?_,?_,λc c4=>?_,?_,?_,λy aj r U=>?_,?_,λc z YH kS=>NI c z (AP c z (Jd c z YH) kS)⟩ (by rw[aw.hz,iP];refine .mk rfl λk hk=>?_;have dk:k∈[fb.bG,ck.bG]:=hk;simp only[dM,qX,qY] at dk;rcases dk with rfl|rfl;exact uV;exact ts)
    rw[E5] at aj;rcases dM.1 aj with rfl|aj;subst iP;exact⟨bh _ _ _,N5.le λc z _ bR=>NI c z bR,akW.le λc z _ bR=>NI c z bR,Own.nil _ _ _,λr U=>(by cases U),(mk.mono zj).own.cK⟩;rcases dT.1 aj with aj|aj;exact(I.one y aj).bO (λc z _ bR=>zj c z (tB c z (wi c z bR))) λr U=>(uM r (oW (I.rows y aj r U))).mono (nh.trans NI);exact(aa.one y aj).bO (λc z _ bR=>zj c z (tB c z bR)) λr U=>(uM r (tQ (aa.rows y aj r U))).mono (nh.trans NI);rw[qO,ka];refine⟨λhm=>(abc n49 hm).2 C5,?_⟩;have e0:∀z:aA O,z.toList.Nodup:=λz=>by cases z<;>simp
    rw[hg,hg,hg,hg];refine⟨⟨⟨e0 _,e0 _,λa az b eB e=>?_⟩,by simp,λa az b eB e=>?_⟩,⟨I.nodup,aa.nodup,λa az b eB e=>?_⟩,λa az b eB e=>?_⟩
    grind
    rw[hZ] at eB;simp only[dT,zM] at az;rw[<-e] at eB;subst eB;rcases az with az|az;exact I4 (I8 (Dg _ az)) Z;exact I4 (I8 (I6 _ az)) Z;subst e;exact(I.out a az).2 (aa.out a eB).1;subst e;simp only[dT,zM,hZ] at az eB;rcases az with(az|az)|rfl;rcases eB with eB|eB;exact Dg a az (I.out a eB).1;exact I8 (Dg a az) (aa.out a eB).1;rcases eB with eB|eB;exact I6 a az (I.out a eB).1;exact I8 (I6 a az) (aa.out a eB).1;rcases eB with eB|eB;exact I4 (I.out a eB).2 Z;exact(aa.out a eB).2 Z;rw[qO] at c4;rcases dM.1 c4 with rfl|c4;exact⟨nh.none (((aE.trans wi).trans tB).none C5),by rw[bh];simp⟩
    grind
    rw[aw.hz,bI.all_eq,iP];show([]++bI.j2 ([fb,ck].map aw.bG)).Perm _;rw[mm];show(fb.bG.all++(ck.bG.all++ [])).Perm _;rw[ml];refine(I.all.append aa.all).trans ?_;rw[<-en,px];exact ad.map _;rw[aw.hz];have eL:∀x,x∈(bI.mk ky.aC ky.bm ky.hi ky.cD (ky.rows.map ax.bn) ([fb,ck].map aw.bG)).all->x∈l.map ax.bn:=λx M=>by
     rw[bI.all_eq] at M;subst iP;have gn:x∈[]++(fb.bG.all++(ck.bG.all++ [])):=M;rw[mm,ml] at gn;refine(ad.map ax.bn).mem_iff.1 ?_;rcases dT.1 gn with gn|gn;obtain⟨r,U,rfl⟩:=bQ.1 (I.all.mem_iff.1 gn)
     grind
     obtain⟨r,U,rfl⟩:=bQ.1 (aa.all.mem_iff.1 gn)
     grind
    subst iP;refine .mk ((kb []).2 []) (λx M=>ins [] [] x (eL x M)) λk hk=>?_;have dk:k∈[fb.bG,ck.bG]:=hk;simp only[dM,qX,qY] at dk;rcases dk with rfl|rfl;exact I.ok;exact aa.ok;rw[E5] at aj;rcases dM.1 aj with rfl|aj;subst iP;cases U;rcases dT.1 aj with aj|aj;exact ad.mem_iff.1 (oW (I.rows y aj r U));exact ad.mem_iff.1 (tQ (aa.rows y aj r U));rw[E5,jq,gG];have aT:=I.size;have aN:=aa.size;omega
   have left:∀{W:H} {Q:N->H->Prop},u32.le W->(∀t fA,aD W fA 52 2 t ((m.take fa).flatMap cJ)->Q t fA)->n4 (s.part 0 fa s.c 2) W Q:=λ{W Q} aE fj=>
    Pc (cX.1.mono aE) (by show fa-0<=_;omega) λar u' bR _=>fj ar u' bR
   have v:=H.le.cell nh ch.c1;refine⟨by decide,⟨by omega,by omega⟩,_,v,_,v,?_,?_⟩;refine O5 ⟨H.le.refl _,left (H.le.refl _) λt fA jm=>⟨jm.le,?_,?_⟩,?_⟩;refine DG (H.le.refl _) jm Fm (by omega) (sz _ _) λu' fb I uV hle=>⟨hle,BL ⟨hle,second hle I uV⟩⟩;refine BL ⟨jm.le,DG (H.le.refl _) jm Fm (by omega) (sz _ _) λu' fb I uV hle=>⟨hle,second hle I uV⟩⟩;refine BL ⟨H.le.refl _,left (H.le.refl _) λt fA jm=>⟨jm.le,DG (H.le.refl _) jm Fm (by omega) (sz _ _) λu' fb I uV hle=>⟨hle,second hle I uV⟩⟩⟩;refine BL ⟨H.le.refl _,O5 ⟨H.le.refl _,left (H.le.refl _) λt fA jm=>⟨jm.le,DG (H.le.refl _) jm Fm (by omega) (sz _ _) λu' fb I uV hle=>⟨hle,second hle I uV⟩⟩⟩⟩
  refine⟨_,H.le.cell lg ch.bA,_,rfl,leaf,H.le.cell lg ch.q7,λhle=>NN,λvT=>⟨wd,QP,di,xE,⟨wT,by omega⟩,_,iO,wd,QP,dv,ZU,⟨wT,by omega⟩,_,qG,?_⟩⟩;by_cases e:(mZ l).getD wd.toNat 0=(mY l).getD wd.toNat 0;dsimp only;rw[jf e];exact NN;dsimp only;rw[q0 e];exact inner (by omega)
end k6
end
