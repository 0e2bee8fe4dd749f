/- Texts of mine, joined and packed by pack.py. -/
import Derived.Test.YtejdhbfjjgcljaaGreatDoorMrb6
import Derived.Lib.EndianBits
import Derived.Shelf.SlSortCmp.Whole1
set_option linter.all false
open Go renaming Program->dT,Value->ao,World->cg,TypeId->dF,FuncId->jQ,Addr->bc,callFunc->qW
open _root_ renaming Nat->N,List->M,Option->aA,Array->cv,Int->o,Bool->aD,absurd->aV,Inhabited->lM
open Bool renaming true->ak,false->ax
open Go.IntKind renaming i64->bY,wrap->bV,u64->bo
open Go.Made renaming depth->u3
open Go.Instr renaming typeAssert->tE
open Go.Builtin renaming clear_->qd,zeroCells->wv
open Go.World renaming frozen?->GI
open Go.Proofs.Tryz renaming prog->aH
open Go.Value renaming agg->cD,int->cJ,pointer->hn,slice->ea,oneCell'->cK
open Int renaming tdiv->ff,fdiv->ev
open List.Perm renaming cons->j3,trans->BY
open List.Pairwise renaming nil->oZ
open Go.Addr renaming mk->cw
open Go.Sort renaming ahead->vb
open List renaming replicate->gu,length->iC,flatMap->ye
set_option maxRecDepth 100000
noncomputable section
namespace Go.Proofs.YtejdhbfjjgcljaaGreatDoor
open H
section
variable{u aj:H}{n:N}{s:U}{l:M bP}{j:o}{K:H->Prop}
def ayi:oA aH 265 "Len" 171 ax=ak:=by kernel_rfl
def ayj:oA aH 265 "Less" 325 ax=ak:=by kernel_rfl
def nSwap:oA aH 265 "Swap" 326 ax=ak:=by kernel_rfl
def ayl:oA aH 265 "Push" 328 ak=ak:=by kernel_rfl
def ayk:oA aH 265 "Pop" 327 ak=ak:=by kernel_rfl
def aAv:q8 aH 263=some (.one .slice):=by kernel_rfl
def adS:aH.underlying 265=some (.pointer 263):=by kernel_rfl
def ant:kI aH 263=some (68,3,24,[.int .i64 0,.int .u64 0,.int .u64 0]):=by kernel_rfl
def afv(x y Y:o):kH aH 263 1 #[(0,.agg #[.int .i64 x,.int .u64 y,.int .u64 Y])]=some (68,[.int .i64 x,.int .u64 y,.int .u64 Y]):=by kernel_rfl
def ayn:hf aH 171=ak:=by kernel_rfl
def ayo:hf aH 325=ak:=by kernel_rfl
def ayr:hf aH 326=ak:=by kernel_rfl
def ayq:hf aH 328=ak:=by kernel_rfl
def ayp:hf aH 327=ak:=by kernel_rfl
def aK.front{e k:N}{xs:M ao}(h:aK aj u e k s xs){m:N}(hm:m<=s.n):aK aj u e k (s.part 0 m s.c k) (xs.take (m*k))/\(s.part 0 m s.c k).al=s.al/\(s.part 0 m s.c k).n=m:=by
 have ay:(s.part 0 m s.c k).a=s.a:=by unfold U.part;simp only;split;rfl;rw[J0];cases s.a<;>simp[Addr.add_zero']
 have aa:(s.part 0 m s.c k).al=s.al:=by unfold U.al;rw[ay]
 refine⟨⟨⟨?_,?_⟩,h.le,λg W=>h.fresh g (aa▸W)⟩,aa,rfl⟩;show _=(m-0)*k;rw[gq,h.own.len,DP,BR (tG _ hm)];rcases h.own.is with h0|⟨g,cur,aQ,aF,cW,fJ,gA,mc⟩;left;subst h0;have:m=0:=by simpa using hm
 subst this;simp[U.part];right;refine⟨g,cur,ay.trans aQ,aF,?_,?_,?_,?_⟩;show m-0<=s.c-0;omega;show s.c-0<=_;omega;show cur.size=(s.c-0)*k;rw[DP];exact gA;show cur.toList.take ((m-0)*k)=_;rw[DP,<-mc,GN,BR (tG _ hm)]
structure rh(aj:H)(n:N)(u:H)(l:M bP):Prop where
 ex:∃s:U,u n=some (.cells #[.slice s.a s.n s.c] 263 (0,0))/\aK aj u 68 3 s (l.flatMap fX)/\s.al≠some n
 out:aj n=none
 small:l.length<=1000000
def abB(n:N):ao:=.iface 265 (.pointer (some (cw n 0 none)))
def abC{name:String}{f:jQ}(hm:oA aH 265 name f ax=ak)(ae:u n=some (.cells #[.slice s.a s.n s.c] 263 (0,0)))(w:cg)(hw:Sub u w):
  (method (aH.types.size+u3) 265 (.pointer (some (cw n 0 none))) name).run aH w=.ok (f,.slice s.a s.n s.c) w:=by
 obtain⟨i,m,h1,h2,h3,a7⟩:=BB hm
 obtain⟨dV,dJ⟩:=AH
 rw[dJ]
 refine acM h1 h2 h3 a7 adS ?_
 have I:u.cell? (cw n 0 none)=some (.slice s.a s.n s.c):=a8 ae 0
 have y5:=hw.cell I
 exact Jw aAv (cw n 0 none) (vs:=[.slice s.a s.n s.c]) rfl (aci _ _ _ _ _ rfl (λj v aN=>by
  cases j with
  |zero=>simp at aN;subst aN;exact y5|succ j=>simp at aN)) (λc I=>⟨_,rfl,y5⟩)
def aBb{i:o}{K:aD->H->Prop}(ag:lP u s l)(i0:0<=i)(i1:i<l.length)(gF:0<=j)(kO:j<l.length)
  (h:K (bw (l.getD i.toNat default) (l.getD j.toNat default)) u):aeq s i j u K:=by
 have ae:=ag.len
 apply aDU
 obtain⟨p,ad,x,J,bM,c1,c2⟩:=ag.at gF (show j<(s.n:o) by omega)
 obtain⟨q,aL,y,ai,d0,d1,d2⟩:=ag.at i0 (show i<(s.n:o) by omega)
 rw[LZ J,LZ ai] at h
 exact⟨q,aL,⟨i0,by omega⟩,p,ad,⟨gF,by omega⟩,_,d0,_,d1,_,d2,_,bM,_,c1,_,c2,KA h⟩
def aBc{i:o}(ab:aK aj u 68 3 s (l.flatMap fX))(i0:0<=i)(i1:i<l.length)(gF:0<=j)(kO:j<l.length)
  (h:∀u',aK aj u' 68 3 s ((jU l i.toNat j.toNat).flatMap fX)->gS u u' s->K u'):aer s i j u K:=by
 have ag:=ab.fq
 have ae:=ag.len
 apply aDX
 obtain⟨p,ad,x,J,bM,c1,c2⟩:=ag.at gF (show j<(s.n:o) by omega)
 obtain⟨q,aL,y,ai,d0,d1,d2⟩:=ag.at i0 (show i<(s.n:o) by omega)
 refine⟨p,ad,⟨gF,by omega⟩,q,aL,⟨i0,by omega⟩,_,bM,_,c1,_,c2,_,d0,_,d1,_,d2,q,aL,⟨i0,by omega⟩,?_⟩
 refine aK.store (enc:=fX) se ab (by decide) (i:=i.toNat) (by omega) (y:=x) (EQ x) aL λaU j1 vN _=>⟨p,ad,⟨gF,by omega⟩,?_⟩
 refine aK.store (enc:=fX) se j1 (by decide) (i:=j.toNat) (by simp;omega) (y:=y) (EQ y) ad λcQ dP jk _=>h cQ ?_ (λb z aa an=>jk b z (vN b z aa an) an)
 have eU:i.toNat<l.length:=by omega
 have kM:j.toNat<l.length:=by omega
 have ex:l[j.toNat]=x:=by rw[cy kM] at J;exact cX J
 have tb:l[i.toNat]=y:=by rw[cy eU] at ai;exact cX ai
 rw[Hk eU kM,ex,tb]
 exact dP
def rh.set{u':H}{bE:M bP}(h:rh aj n u l)(ae:u n=some (.cells #[.slice s.a s.n s.c] 263 (0,0)))(ag:s.al≠some n)
  (ab:aK aj u' 68 3 s (bE.flatMap fX)) (he:gS u u' s) (ap:bE.length=l.length):rh aj n u' bE:=
 ⟨⟨s,he _ _ ae ag,ab,ag⟩,h.out,by rw[ap];exact h.small⟩
def akH(aj:H)(n:N):vr (abB n) (rh aj n) bw where
 len:=by intro u l K h av;obtain⟨s,ae,ab,_⟩:=h.ex;refine⟨_,_,_,_,rfl,λw hw=>abC ayi ae w hw,hd ayn,an8 s u K ?_⟩;rw[ab.fq.len];exact av
 less:=by intro u l i j K h i0 i1 gF kO av;obtain⟨s,ae,ab,_⟩:=h.ex;exact⟨_,_,_,_,rfl,λw hw=>abC ayj ae w hw,hd ayo,aBb ab.fq i0 i1 gF kO av⟩
 swap:=by intro u l i j K h i0 i1 gF kO av;obtain⟨s,ae,ab,an⟩:=h.ex;exact⟨_,_,_,_,rfl,λw hw=>abC nSwap ae w hw,hd ayr,aBc ab i0 i1 gF kO λu' bQ he=>av u' (h.set ae an bQ he (pK _ _ _))⟩
 small:=λh=>by have:=h.small;omega
def akI:pb bw where
 asymm:=λ_ _ h=>IM h
 trans:=λ_ _ _ h k=>FC h k
def apw(h:bP)(w:cg):(tE (.iface 68 (.agg #[.int .i64 h.1,.int .u64 (cZ h.2),.int .u64 (c5 h.2)])) 20 68 ax).run aH w=
  .ok (.agg #[.int .i64 h.1,.int .u64 (cZ h.2),.int .u64 (c5 h.2)]) w:=by kernel_rfl
def Da(h:bP):ao:=.iface 68 (.agg #[.int .i64 h.1,.int .u64 (cZ h.2),.int .u64 (c5 h.2)])
def al4{h:bP}{K:o->o->o->H->Prop}(av:K h.1 (cZ h.2) (c5 h.2) u):c9 aH (tE (Da h) 20 68 ax) [.agg [.int .i64,.int .u64,.int .u64]] u K:=
 c9.pure [.int .i64 h.1,.int .u64 (cZ h.2),.int .u64 (c5 h.2)] (λw _=>apw h w) (.cons (t:=.int .i64) _ (.cons (t:=.int .u64) _ (.cons (t:=.int .u64) _ .nil))) av
def ayz{x:bP}(h:rh aj n u l)(ap:l.length<1000000)(av:∀u',rh aj n u' (l++ [x])->K u'):
  nn aH (abB n) "Push" #[Da x] [] u K:=by
 obtain⟨s,ae,ab,an⟩:=h.ex
 obtain⟨i,m,h1,h2,h3,a7⟩:=BB ayl
 obtain⟨dV,dJ⟩:=AH
 refine⟨_,_,_,_,rfl,λw _=>by rw[dJ];exact Km h1 h2 h3 a7 adS,hd ayq,?_⟩
 refine aDW (some (cw n 0 none)) _ u K ?_
 refine⟨_,rfl,s,a8 ae 0,al4 ⟨H.le.refl u,?_⟩⟩
 have ad:=z1 (P:=aH) (K:=λgi pM=>∃Pc:bc,some (cw n 0 none)=some Pc/\H.aO pM Pc [.slice gi.a gi.n gi.c] K) ant (afv x.1 (cZ x.2) (c5 x.2)) (by decide) rfl (by simp[cK]) ab (by have:=ab.fq.len;omega) (by have:=ab.fq.len;omega) λau u' bQ h5 he hblk _=>⟨_,rfl,?_⟩
 exact ad
 have fK:=he _ _ ae an
 have kN:au.al≠some n:=λe=>by rcases hblk n e with h|h;exact an h;rw[ae] at h;cases h
 refine⟨_,_,fK,rfl,by simp,by simp[cK],av _ ⟨⟨au,bi _ _ _,⟨?_,?_,bQ.fresh⟩,kN⟩,h.out,by simp;omega⟩⟩
 rw[agy] at bQ
 exact bQ.own.le λb z aa ci=>by rw[bq _ _ (λe=>kN (by rw[aa,e]))];exact ci
 intro b z aa
 rw[bq _ _ (λe=>by rw[e,h.out] at aa;cases aa)]
 exact bQ.le b z aa
def ayy{K:ao->H->Prop}(h:rh aj n u l)(ap:0<l.length)(av:∀u',rh aj n u' l.dropLast->K (Da (l.getD (l.length-1) default)) u'):
  nn aH (abB n) "Pop" #[] [.one .val] u K:=by
 obtain⟨s,ae,ab,an⟩:=h.ex
 obtain⟨i,m,h1,h2,h3,a7⟩:=BB ayk
 obtain⟨dV,dJ⟩:=AH
 refine⟨_,_,_,_,rfl,λw _=>by rw[dJ];exact Km h1 h2 h3 a7 adS,hd ayp,?_⟩
 refine aDV (some (cw n 0 none)) u K ?_
 have dM:=ab.fq.len
 have I:u.cell? (cw n 0 none)=some (.slice s.a s.n s.c):=a8 ae 0
 have gf:=h.small
 obtain⟨p,ad,x,J,bM,c1,c2⟩:=ab.fq.at (x:=(s.n:o)-1) (by omega) (by omega)
 have fh:l.getD (l.length-1) default=x:=by rw[show((s.n:o)-1).toNat=l.length-1 by omega] at J;exact LZ J
 intro nr nE
 refine⟨_,rfl,_,rfl,s,I,s,I,⟨by omega,by omega⟩,p,ad,⟨by omega,by omega⟩,_,bM,_,c1,_,c2,λm hm=>⟨bZ _ hm,?_⟩⟩
 have rE:m≠n:=λe=>by rw[e,ae] at hm;cases hm
 refine⟨_,_,bi _ _ _,rfl,by simp,by simp[cK],nE _ _ ⟨_,rfl,_,rfl,s,?_,s,?_,⟨by omega,by omega⟩,?_⟩⟩
 simp only[H.cell?,bq _ _ (dG rE)];simpa[H.cell?] using I
 simp only[H.cell?,bq _ _ (dG rE)];simpa[H.cell?] using I
 have iH:s.n<=s.c:=(bz.cap ab.own.cI)
 obtain⟨ac,AX,sk⟩:=ab.front (m:=s.n-1) (by omega)
 refine o3 (P:=aH) ant (l:=0) (h:=s.n-1) (m:=s.c) (.inl ⟨rfl,rfl⟩) (.inr ?_) (.inl ⟨rfl,rfl⟩) (by omega) (by omega) (cC _) iH ⟨_,rfl,?_⟩
 rw[show((s.n:o)-1)=((s.n-1:N):o) by omega]
 refine⟨_,_,by simp only[];rw[bq _ _ (dG rE),bq _ _ (dG rE)];exact ae,rfl,by simp,by simp[cK],?_⟩
 have cL:∀(j:N) v,([.int .i64 x.1,.int .u64 (cZ x.2),.int .u64 (c5 x.2)]:M ao)[j]?=some v->H.cell? ((((u.ins m (.cells #[.int .i64 0,.int .u64 0,.int .u64 0] 68 (0,0))).ins m (.cells (wr #[.int .i64 0,.int .u64 0,.int .u64 0] 0 [.int .i64 x.1,.int .u64 (cZ x.2),.int .u64 (c5 x.2)]) 68 (0,0))).ins n
   (.cells (wr #[.slice s.a s.n s.c] 0 [.slice (s.part 0 (s.n-1) s.c 3).a (s.part 0 (s.n-1) s.c 3).n (s.part 0 (s.n-1) s.c 3).c]) 263 (0,0)))) ((cw m 0 none).add j)=some v:=by
  intro j v aN
  simp only[H.cell?,iP,ki,bq _ _ rE,bi]
  rcases j with _|_|_|j
  simpa[wr] using aN
  simpa[wr] using aN
  simpa[wr] using aN
  simp at aN
 have d0:=cL 0 _ rfl
 have d1:=cL 1 _ rfl
 have d2:=cL 2 _ rfl
 rw[Addr.add_zero'] at d0
 refine⟨_,d0,_,d1,_,d2,?_⟩
 have e:Da x=Da (l.getD (l.length-1) default):=by rw[fh]
 show K (Da x) _
 rw[e]
 have Du:(l.flatMap fX).take ((s.n-1)*3)=l.dropLast.flatMap fX:=by rw[yT se,dM,List.dropLast_eq_take]
 rw[Du] at ac
 have fo:(s.part 0 (s.n-1) s.c 3).al≠some n:=by rw[AX];exact an
 refine av _ ⟨⟨_,bi _ _ _,⟨?_,?_,ac.fresh⟩,fo⟩,h.out,by simp;omega⟩
 refine ac.own.le λb z aa ci=>?_
 rw[bq _ _ (λe=>fo (by rw[aa,e])),bq _ _ (λe=>by rw[e,hm] at ci;cases ci),bq _ _ (λe=>by rw[e,hm] at ci;cases ci)]
 exact ci
 intro b z aa
 have uq:=ac.le b z aa
 rw[bq _ _ (λe=>by rw[e,h.out] at aa;cases aa),bq _ _ (λe=>by rw[e,hm] at uq;cases uq),bq _ _ (λe=>by rw[e,hm] at uq;cases uq)]
 exact uq
def aA4{α:Type}[lM α]{recv:ao}{aO:H->M α->Prop}{lt:α->α->aD}(dt:vr recv aO lt)(L:pb lt){V:α->ao}{l:M α}{K:ao->H->Prop}(ag:aO u l)(b5:iR lt l.length l)(an:0<l.length)
  (ZI:∀{u':H} {bE:M α} {K:ao->H->Prop},aO u' bE->0<bE.length->(∀js,aO js bE.dropLast->K (V (bE.getD (bE.length-1) default)) js)->nn aH recv "Pop" #[] [.one .val] u' K)
  (av:∀u' bE x,aO u' bE->(x::bE).Perm l->iR lt bE.length bE->(∀y∈bE,lt y x=ax)->K (V x) u'):Ep recv u K:=by
 apply an3
 have gf:=dt.small ag
 refine dt.len ag ⟨⟨by omega,by omega⟩,dt.swap ag (by omega) (by omega) (by omega) (by omega) λaU dZ=>?_⟩
 obtain⟨n,ae⟩:∃n,l.length=n+1:=⟨l.length-1,by omega⟩
 have aQ:(((l.length:o)-1).toNat)=n:=by omega
 rw[aQ] at dZ
 have h0:(0:o).toNat=0:=rfl
 rw[h0] at dZ
 have gC:(jU l 0 n).length=n+1:=by rw[pK,ae]
 refine amw dt L dZ (by omega) (by omega) (by rw[aQ];refine⟨by omega,λi i0 i1 i2=>?_,λi i0 i1 i2 h=>by simp at h⟩;have aaL:dk i≠0:=i2;rw[Ea (by omega) (by omega) (by omega),Ea (by omega) (by omega) (by unfold dk;omega)];rw[aG (by omega),aG (by omega),aG (by unfold dk;omega),aG aaL];exact b5 i i0 (by omega)) (λb cQ eV dQ eJ y9 kd=>?_) (.inr (by omega))
 rw[aQ] at y9
 have ia:eV.length=n+1:=by rw[eJ.length_eq,gC]
 have J:eV.getD (eV.length-1) default=l.getD 0 default:=by have:=kd n (by omega);rw[dm,ia,Nat.add_sub_cancel,this,<-dm,Ea (by omega) (by omega) (by omega)];split;rfl;rename_i h;exact aV rfl h
 refine ZI dQ (by omega) λj5 uI=>?_
 rw[J]
 have IK:eV.dropLast++ [l.getD 0 default]=eV:=by
  rw[<-J];have zf:eV≠[]:=λe=>by rw[e] at ia;simp at ia
  have:=ale zf;rw[List.getLast_eq_getElem] at this;rw[dm,cy (by omega)];exact this
 have ib:(l.getD 0 default::eV.dropLast).Perm l:=by refine BY ?_ (eJ.trans (Eb (by omega) (by omega)));rw[<-IK,List.dropLast_concat];exact(nc _ _).symm
 refine av _ _ _ uI ib (λi i0 i1=>?_) λy ai=>?_
 have y7:eV.dropLast.length=n:=by simp[ia]
 have g:∀k,k<n->eV.dropLast.getD k default=eV.getD k default:=λk hk=>by rw[dm,dm,List.getElem?_dropLast,a1 (by omega)]
 rw[g i (by omega),g _ (by unfold dk;omega)]
 exact y9 i i0 (by omega)
 have F7:y∈l:=ib.mem_iff.1 (gh _ ai)
 obtain⟨i,hi,rfl⟩:=sE.1 F7
 have:=b5.root L i hi
 rw[dm,cy hi] at this
 exact this
section
variable {α:Type} [lM α] (lt:α->α->aD)
def r7(l:M α)(j:N):M α:=
 if _h:j=0 then l else if lt (l.getD j default) (l.getD (dk j) default) then r7 (jU l (dk j) j) (dk j) else l
termination_by j
decreasing_by unfold dk;omega
def oX(n:N)(l:M α)(i:N):N:=if 2*i+2<n/\lt (l.getD (2*i+2) default) (l.getD (2*i+1) default)=ak then 2*i+2 else 2*i+1
def mb(n:N)(l:M α)(i:N):M α:=
 if _h:2*i+1<n then(if lt (l.getD (oX lt n l i) default) (l.getD i default) then mb n (jU l i (oX lt n l i)) (oX lt n l i) else l) else l
termination_by n-i
decreasing_by unfold oX;split<;>omega
def zI(l:M α)(y:α):M α:=r7 lt (l++ [y]) l.length
def kg(l:M α):M α:=(mb lt (l.length-1) (jU l 0 (l.length-1)) 0).dropLast
end
section
variable {α:Type} [lM α] {lt:α->α->aD}
def anW:∀(j:N) (l:M α),j<l.length->(r7 lt l j).Perm l:=by
 intro j;induction j using Nat.strongRecOn with
 |ind j aM=>
  intro l aN;unfold r7;split;exact .refl _;split;have ad:dk j<j:=by unfold dk;omega
  exact(aM (dk j) ad _ (by rw[pK];omega)).trans (Eb (by omega) aN);exact .refl _
def aCV(L:pb lt):∀(j:N) (l:M α),Ar lt l j->iR lt (r7 lt l j).length (r7 lt l j):=by
 intro j;induction j using Nat.strongRecOn with
 |ind j aM=>intro l hu;unfold r7;split;rename_i h;exact hu.done (.inl h);split;rename_i h ap;exact aM (dk j) (by unfold dk;omega) _ (hu.step L (by omega) ap);rename_i h ap;exact hu.done (.inr (by simpa using ap))
def aa2{i:N}{l:M α}(h:2*i+1<n):0<oX lt n l i/\oX lt n l i<n/\dk (oX lt n l i)=i/\i<oX lt n l i:=by unfold oX dk;split<;>omega
def aj9(L:pb lt){i:N}{l:M α}(h:2*i+1<n):∀x,0<x->x<n->dk x=i->lt (l.getD x default) (l.getD (oX lt n l i) default)=ax:=by
 have Jm:∀a,lt a a=ax:=λa=>by
  cases e:lt a a with
  |false=>rfl|true=>have:=L.asymm _ _ e;rw[e] at this;cases this
 intro x bK dw x2;have two:x=2*i+1∨x=2*i+2:=by unfold dk at x2;omega
 unfold oX;split;rename_i I;rcases two with rfl|rfl;exact L.asymm _ _ I.2;exact Jm _;rename_i I;rcases two with rfl|rfl;exact Jm _;cases e:lt (l.getD (2*i+2) default) (l.getD (2*i+1) default) with
 |false=>rfl|true=>exact aV ⟨dw,e⟩ I
def aqU(n:N):∀(m:N) (i:N) (l:M α),n-i<=m->(mb lt n l i).length=l.length:=by
 intro m;induction m with
 |zero=>intro i l h;unfold mb;rw[yd (by omega)]
 |succ m aM=>intro i l h;unfold mb;split;rename_i I;split;obtain⟨_,_,_,hk⟩:=aa2 (lt:=lt) (l:=l) I;rw[aM _ _ (by omega),pK];rfl;rfl
def aqW(L:pb lt):∀(m:N) (i:N) (l:M α),n-i<=m->wX lt n l i->n<=l.length->(i<n∨i=0)->
  (mb lt n l i).Perm l/\iR lt n (mb lt n l i)/\∀k,n<=k->(mb lt n l i)[k]?=l[k]?:=by
 intro m
 induction m with
 |zero=>intro i l h ar ae hi;unfold mb;rw[yd (by omega)];exact⟨.refl _,ar.done (λx bK dw x2=>by unfold dk at x2;omega),λ_ _=>rfl⟩
 |succ m aM=>intro i l h ar ae hi;unfold mb;split;rename_i I;obtain⟨jz,cq,cH,kP⟩:=aa2 (lt:=lt) (l:=l) I;split;rename_i ap;obtain⟨h1,h2,h3⟩:=aM (oX lt n l i) (jU l i (oX lt n l i)) (by omega) (ar.step L jz cq cH ap (aj9 L I)) (by rw[pK];exact ae) (.inl cq);refine⟨h1.trans (Eb (by omega) (by omega)),h2,λk hk=>?_⟩;rw[h3 k hk,anq (by omega) (by omega)];rename_i ap;refine⟨.refl _,ar.done (λx bK dw x2=>?_),λ_ _=>rfl⟩;exact L.trans _ _ _ (by simpa using ap) (aj9 L I x bK dw x2);rename_i I;exact⟨.refl _,ar.done (λx bK dw x2=>by unfold dk at x2;omega),λ_ _=>rfl⟩
def azj{l:M α}{y:α}(b5:iR lt l.length l):Ar lt (l++ [y]) l.length:=by
 refine⟨by simp,λi i0 i1 i2=>?_,λi i0 i1 i2=>?_⟩;simp only[eD,r4] at i1;have hi:i<l.length:=by omega
 have g:∀k,k<l.length->(l++ [y]).getD k default=l.getD k default:=λk hk=>by rw[dm,qY hk,<-dm]
 rw[g i hi,g _ (by unfold dk;omega)];exact b5 i i0 hi;simp only[eD,r4] at i1;unfold dk at i2;omega
def azi(L:pb lt){l:M α}{y:α}(b5:iR lt l.length l):(zI lt l y).Perm (l++ [y])/\iR lt (zI lt l y).length (zI lt l y):=
 ⟨anW _ _ (by simp),aCV L _ _ (azj b5)⟩
def azb{l:M α}(b5:iR lt l.length l)(an:0<l.length):wX lt (l.length-1) (jU l 0 (l.length-1)) 0:=by refine⟨by rw[pK];omega,λi i0 i1 i2=>?_,λi i0 i1 i2 h=>by simp at h⟩;have aaL:dk i≠0:=i2;rw[Ea (by omega) (by omega) (by omega),Ea (by omega) (by omega) (by unfold dk;omega)];rw[aG (by omega),aG (by omega),aG (by unfold dk;omega),aG aaL];exact b5 i i0 (by omega)
def OP(L:pb lt){l:M α}(b5:iR lt l.length l)(an:0<l.length):(l.getD 0 default::kg lt l).Perm l/\iR lt (kg lt l).length (kg lt l)/\(∀y∈kg lt l,lt y (l.getD 0 default)=ax)/\
  mb lt (l.length-1) (jU l 0 (l.length-1)) 0=kg lt l++ [l.getD 0 default]:=by
 have ar:=azb b5 an
 obtain⟨h1,h2,h3⟩:=aqW L (l.length-1) 0 _ (by omega) ar (by rw[pK];omega) (.inr rfl)
 have hlen:=aqU (lt:=lt) (l.length-1) (l.length-1) 0 (jU l 0 (l.length-1)) (by omega)
 rw[pK] at hlen
 have e:mb lt (l.length-1) (jU l 0 (l.length-1)) 0=kg lt l++ [l.getD 0 default]:=by
  unfold kg;generalize eT:mb lt (l.length-1) (jU l 0 (l.length-1)) 0=D at*;have zf:D≠[]:=λe=>by rw[e] at hlen;simp at hlen;omega
  have IK:=ale zf;rw[List.getLast_eq_getElem] at IK;have J:D[D.length-1]'(by omega)=l.getD 0 default:=by
   have a7:=h3 (l.length-1) (cC _);rw[cy (by omega),cy (by rw[pK];omega)] at a7;have bO:D[l.length-1]'(by omega)=(jU l 0 (l.length-1)).getD (l.length-1) default:=by rw[dm,cy (by rw[pK];omega)];exact cX a7
   rw[Ea (by omega) (by omega) (by omega),a1 rfl] at bO;rw[<-bO];congr 1;omega
  rw[J] at IK;exact IK.symm
 have ad:(l.getD 0 default::kg lt l).Perm l:=by have:=h1.trans (Eb (by omega) (by omega));rw[e] at this;exact(nc _ _).symm.trans this
 have aHf:(kg lt l).length=l.length-1:=by have:=ad.length_eq;simp only[hX] at this;omega
 refine⟨ad,λi i0 i1=>?_,λy ai=>?_,e⟩
 have bO:=h2 i i0 (by omega)
 rw[e] at bO
 have g:∀k,k<(kg lt l).length->(kg lt l++ [l.getD 0 default]).getD k default=(kg lt l).getD k default:=λk hk=>by rw[dm,qY hk,<-dm]
 rw[g i i1,g _ (by unfold dk;omega)] at bO
 exact bO
 have F7:y∈l:=ad.mem_iff.1 (gh _ ai)
 obtain⟨i,hi,rfl⟩:=oG F7
 have:=b5.root L i hi
 rwa[dm,cy hi] at this
variable {recv:ao} {aO:H->M α->Prop}
def aA8(dt:vr recv aO lt){l:M α}(ag:aO u l)(h0:0<=j)(aN:j<l.length)(av:∀u',aO u' (r7 lt l j.toNat)->K u'):KW recv j u K:=by
 have gf:=dt.small ag;apply an6;refine⟨λx v=>0<=x/\∃bE,aO v bE/\bE.length=l.length/\x<l.length/\r7 lt bE x.toNat=r7 lt l j.toNat,λx _=>x.toNat,⟨h0,l,ag,rfl,aN,rfl⟩,?_⟩;rintro x v ⟨bK,bE,gy,hlen,cb,he⟩;refine⟨⟨by omega,by omega⟩,by decide,?_⟩;by_cases J:x=0;subst J;refine⟨⟨by decide,by decide⟩,λ_=>av _ ?_,λh=>aV (by decide) h⟩;rw[<-he];unfold r7;rw[BW (by rfl)];exact gy
 .have ht:ff (x-1) 2=(x-1)/2:=zP (by omega);have zh:((x-1)/2).toNat=dk x.toNat:=by unfold dk;omega
  rw[ht];refine⟨⟨by omega,by omega⟩,λh=>by omega,λ_=>dt.less gy bK (by omega) (by omega) (by omega) ?_⟩;rw[zh];refine⟨λaa=>av _ ?_,λaa=>dt.swap gy (by omega) (by omega) bK (by omega) λu' dQ=>⟨⟨by omega,_,dQ,by rw[pK];exact hlen,by omega,?_⟩,by dsimp only;omega⟩⟩;rw[<-he];unfold r7;rw[yd (by omega),aG aa];exact gy
  .rw[zh,<-he]
   conv=>rhs;unfold r7
   rw[yd (by omega),a1 aa]
def aA7(dt:vr recv aO lt){l:M α}{n:o}{K:aD->H->Prop}(ag:aO u l)(h0:0<=j)(ae:n<=l.length)(av:∀b u',aO u' (mb lt n.toNat l j.toNat)->K b u')(aN:j<n∨j<=0)(au9:j<l.length):KV recv j n u K:=by
 have gf:=dt.small ag;apply an5;intro nr nE;refine⟨λx v=>0<=x/\(x<n∨x<=0)/\x<l.length/\∃bE,aO v bE/\bE.length=l.length/\mb lt n.toNat bE x.toNat=mb lt n.toNat l j.toNat,λx _=>(n-x).toNat,⟨h0,aN,au9,l,ag,rfl,rfl⟩,?_⟩;rintro x v ⟨bK,S3,fh,bE,gy,hlen,he⟩;have done:mb lt n.toNat bE x.toNat=bE->nr x v:=λh=>nE _ _ (av _ _ (by rw[<-he,h];exact gy));refine⟨⟨by omega,by omega⟩,⟨by omega,by omega⟩,λWs Mg=>⟨λh=>done ?_,λh=>⟨λh2=>by omega,λ_=>Mg _ ?_⟩⟩⟩;unfold mb;rw[yd (by omega)];clear Mg Ws;intro Lf Mh;have eX:∀c:o,c.toNat=oX lt n.toNat bE x.toNat->0<c->c<n->x<c->Lf c v:=by
  intro c I bM c1 oP;refine Mh _ _ (dt.less gy (by omega) (by omega) bK (by omega) ⟨λaa=>done ?_,λaa=>dt.swap gy bK (by omega) (by omega) (by omega) λu' dQ=>⟨⟨by omega,.inl c1,by omega,_,dQ,by rw[pK];exact hlen,?_⟩,by dsimp only;omega⟩⟩);unfold mb;rw[BW (by omega),<-I,aG aa]
  .rw[<-he]
   conv=>rhs;unfold mb
   rw[BW (by omega),<-I,a1 aa]
 clear Mh;have aQ:(2*x+1).toNat=2*x.toNat+1:=by omega
 have aF:(2*x+1+1).toNat=2*x.toNat+2:=by omega
 refine⟨⟨by omega,by omega⟩,λh2=>dt.less gy (by omega) (by omega) (by omega) (by omega) ⟨λaa=>eX _ ?_ (by omega) h2 (by omega),λaa=>eX _ ?_ (by omega) (by omega) (by omega)⟩,λh2=>eX _ ?_ (by omega) (by omega) (by omega)⟩;rw[aQ,aF] at aa;unfold oX;rw[a1 ⟨by omega,aa⟩,aF];rw[aQ,aF] at aa;unfold oX;rw[aG (λI=>by rw[I.2] at aa;cases aa),aQ];unfold oX;rw[aG (λI=>by omega),aQ]
def aA6(dt:vr recv aO lt){l:M α}{x:ao}{y:α}
  (ZK:∀{K:H->Prop},(∀u',aO u' (l++ [y])->K u')->nn aH recv "Push" #[x] [] u K)
  (av:∀u',aO u' (zI lt l y)->K u'):Ah recv x u K:=by
 apply an4
 refine ZK λu' ag=>dt.len ag ?_
 have gf:=dt.small ag
 simp only[eD,r4] at gf ⊢
 refine⟨⟨by omega,by omega⟩,aA8 dt ag (by omega) (by simp only[eD,r4];omega) λcQ h2=>av cQ ?_⟩
 have e:(((l.length+1:N):o)-1).toNat=l.length:=by omega
 rw[e] at h2
 exact h2
def aA5(dt:vr recv aO lt)(L:pb lt){V:α->ao}{l:M α}{K:ao->H->Prop}(ag:aO u l)(b5:iR lt l.length l)(an:0<l.length)
  (ZI:∀{u':H} {bE:M α} {x:α} {K:ao->H->Prop},aO u' (bE++ [x])->(∀js,aO js bE->K (V x) js)->nn aH recv "Pop" #[] [.one .val] u' K)
  (av:∀u',aO u' (kg lt l)->K (V (l.getD 0 default)) u'):Ep recv u K:=by
 obtain⟨_,_,_,he⟩:=OP L b5 an
 apply an3
 have gf:=dt.small ag
 refine dt.len ag ⟨⟨by omega,by omega⟩,dt.swap ag (by omega) (by omega) (by omega) (by omega) λaU dZ=>?_⟩
 have aQ:(((l.length:o)-1).toNat)=l.length-1:=by omega
 rw[aQ,show(0:o).toNat=0 from rfl] at dZ
 refine aA7 dt dZ (by omega) (by rw[pK];omega) (λb cQ dQ=>?_) (.inr (by omega)) (by rw[pK];omega)
 rw[aQ,show(0:o).toNat=0 from rfl,he] at dQ
 exact ZI dQ av
end
end
section
variable{q:M o}{b k d:o}
abbrev j6:=o×M o
inductive bJ where
 |mk (aI:o) (bm hi:M o) (cA:o) (rows:M j6) (kids:M bJ)
instance:lM bJ:=⟨.mk 1 [] [] 0 [] []⟩
namespace bJ
def aI:bJ->o| .mk s _ _ _ _ _=>s
def bm:bJ->M o| .mk _ l _ _ _ _=>l
def hi:bJ->M o| .mk _ _ h _ _ _=>h
def cA:bJ->o| .mk _ _ _ r _ _=>r
def rows:bJ->M j6| .mk _ _ _ _ r _=>r
def kids:bJ->M bJ| .mk _ _ _ _ _ k=>k
mutual
def all:bJ->M j6
 | .mk _ _ _ _ rows kids=>rows++jY kids
def jY:M bJ->M j6
 | []=>[]|p::c7=>p.all++jY c7
end
mutual
def size:bJ->N
 | .mk _ _ _ _ _ kids=>1+hF kids
def hF:M bJ->N
 | []=>0|p::c7=>p.size+hF c7
end
def hE(p:bJ)(ids:M o):cn:=⟨p.aI,⟨none,0,0⟩,⟨none,0,0⟩,p.cA,⟨none,0,0⟩,p.bm,p.hi,ids⟩
def all_eq(p:bJ):p.all=p.rows++jY p.kids:=by cases p;rfl
def size_eq(p:bJ):p.size=1+hF p.kids:=by cases p;rfl
end bJ
def aH9(x:j6):az:=⟨x.1,⟨none,0,0⟩,x.2⟩
def Db(q:M o)(x:j6):bP:=(x.1,fG x.2 q x.2.length)
def aG6(q:M o)(r:az):Db q r.bL=hM q r:=rfl
inductive gx(d:o):bJ->Prop where
 |mk {p:bJ} (jD:nv (p.hE []) d) (ins:∀x∈p.all,mH (p.hE []) x.2) (kids:∀k∈p.kids,gx d k):gx d p
def gx.jD{p:bJ}(h:gx d p):nv (p.hE []) d:=by cases h;assumption
def gx.ins{p:bJ}(h:gx d p):∀x∈p.all,mH (p.hE []) x.2:=by cases h;assumption
def gx.kids{p:bJ}(h:gx d p):∀k∈p.kids,gx d k:=by cases h;assumption
abbrev lR:=o×bJ
def blt(a b:lR):aD:=decide (a.1<b.1)
def EG:pb blt where
 asymm a b h:=by simp[blt] at*;omega
 trans a b c h k:=by simp[blt] at*;omega
def pP(q:M o)(l:M lR)(p:bJ):M lR:=zI blt l (mm (p.hE []) q,p)
structure mK where
 heap:M lR
 seen:M j6
 rest:M (bJ×M j6)
def yn(q:M o)(k:o)(s:mK):M bP:=e6 k.toNat (s.seen.map (Db q))
def LW(q:M o)(k:o)(s:mK)(b:o):Prop:=k<=(s.seen.length:o)/\((yn q k s).getD (k.toNat-1) default).2<b
def yV(q:M o)(k b:o)(s:mK):Prop:=s.heap≠[]/\(s.seen.length:o)<b/\¬LW q k s (s.heap.getD 0 default).1
def ql(q:M o)(b:o)(s:mK):mK:=
 ⟨(s.heap.getD 0 default).2.kids.foldl (pP q) (kg blt s.heap),s.seen++(s.heap.getD 0 default).2.rows.take (b-s.seen.length).toNat,
  if((s.heap.getD 0 default).2.rows.length:o)<=b-s.seen.length then s.rest else s.rest++ [((s.heap.getD 0 default).2,(s.heap.getD 0 default).2.rows.drop (b-s.seen.length).toNat)]⟩
open Classical in
def uV(q:M o)(k b:o):N->mK->mK
 |0,s=>s|f+1,s=>if yV q k b s then uV q k b f (ql q b s) else s
def UT(q:M o)(c7:M bJ):mK:=⟨c7.foldl (pP q) [],[],[]⟩
def o6(q:M o)(k b:o)(c7:M bJ):mK:=uV q k b (bJ.hF c7) (UT q c7)
def oz(s:mK):M (bJ×M j6):=s.rest++(s.heap.map λx=>(x.2,x.2.all)).filter λx=>!x.2.isEmpty
structure sZ(q:M o)(b:o)(P:M j6)(s:mK):Prop where
 ad:iR blt s.heap.length s.heap
 tw:∀x∈s.heap,x.1=mm (x.2.hE []) q/\gx q.length x.2
 perm:(s.seen++(s.rest.flatMap (·.2)++s.heap.flatMap λx=>x.2.all)).Perm P
 vH:(s.seen.length:o)<=b
 cut:s.rest≠[]->(s.seen.length:o)=b
 left:∀x∈s.rest,gx q.length x.1/\x.2≠[]/\∀y∈x.2,y∈x.1.all
def foldl_add:∀(c7:M bJ) (l:M lR),iR blt l.length l->iR blt (c7.foldl (pP q) l).length (c7.foldl (pP q) l)/\(c7.foldl (pP q) l).Perm (l++c7.map λp=>(mm (p.hE []) q,p)):=by
 intro c7;induction c7 with
 |nil=>intro l h;exact⟨h,by simp⟩
 |cons p c7 aM=>intro l h;obtain⟨h1,h2⟩:=azi EG (y:=((mm (p.hE []) q,p):lR)) h;obtain⟨h3,a7⟩:=aM _ h2;refine⟨h3,a7.trans ?_⟩;rw[gR];refine(h1.append_right _).trans ?_;rw[mq];exact .refl _
def yF(c7:M bJ):bJ.jY c7=c7.flatMap λp=>p.all:=by
 induction c7 with
 |nil=>rfl|cons p c7 aM=>rw[gI,<-aM];rfl
def ani{c7:M bJ}(aa:0<=b)(h:∀p∈c7,gx q.length p):sZ q b (bJ.jY c7) (UT q c7):=by
 have h0:iR blt ([]:M lR).length []:=λi _ hi=>by simp at hi
 obtain⟨h1,h2⟩:=foldl_add (q:=q) c7 [] h0;rw[nQ] at h2;refine⟨h1,λx J=>?_,?_,by show((0:N):o)<=b;omega,λe=>aV rfl e,λx J=>by cases J⟩;obtain⟨p,ad,rfl⟩:=bk.1 (h2.mem_iff.1 J);exact⟨rfl,h p ad⟩;show([]++([]++_)).Perm _;rw[nQ,nQ,yF];refine(h2.flatMap_right _).trans (acp ?_);rw[BZ]
def ase{α:Type}[lM α]{l:M α}(h:l≠[]):l.getD 0 default∈l:=by
 cases l with
 |nil=>exact aV rfl h|cons x l=>exact gr ..
def ank{P:M j6}{s:mK}(h:sZ q b P s)(W:yV q k b s):sZ q b P (ql q b s):=by
 obtain⟨an,bw,_⟩:=W;have ap:0<s.heap.length:=vc.2 an;obtain⟨gX,dv,mo,_⟩:=OP EG h.ad ap;have ln:s.rest=[]:=by by_cases e:s.rest=[];exact e;have:=h.cut e;omega
 obtain⟨Oa,Je⟩:=h.tw _ (ase an);unfold ql;generalize J:s.heap.getD 0 default=x at*;obtain⟨f1,f2⟩:=foldl_add (q:=q) x.2.kids _ dv;refine⟨f1,λy ai=>?_,?_,?_,λe=>?_,λy ai=>?_⟩;rcases cM.1 (f2.mem_iff.1 ai) with h1|h1;exact h.tw y (gX.mem_iff.1 (gh _ h1));obtain⟨p,ad,rfl⟩:=bk.1 h1;exact⟨rfl,Je.kids p ad⟩;have ib:=h.perm;rw[ln,GZ,nQ] at ib;refine BY ?_ ib;show((s.seen++x.2.rows.take (b-s.seen.length).toNat)++(ye (λy:bJ×M j6=>y.2) (if(x.2.rows.length:o)<=b-s.seen.length then s.rest else s.rest++ [(x.2,x.2.rows.drop (b-s.seen.length).toNat)])++ye (λx=>x.2.all) (x.2.kids.foldl (pP q) (kg blt s.heap)))).Perm _;rw[mq];refine acq _ ?_;have auz:(ye (λx=>x.2.all) (x.2.kids.foldl (pP q) (kg blt s.heap))).Perm ((kg blt s.heap).flatMap (λx=>x.2.all)++bJ.jY x.2.kids):=by refine(f2.flatMap_right _).trans ?_;rw[gZ,BZ,yF]
 have hold:(s.heap.flatMap λx=>x.2.all).Perm (x.2.all++(kg blt s.heap).flatMap λx=>x.2.all):=by refine(gX.symm.flatMap_right _).trans ?_;rw[gI]
 refine BY ?_ hold.symm;rw[bJ.all_eq];have key:(x.2.rows.take (b-s.seen.length).toNat++ye (·.2) (if(x.2.rows.length:o)<=b-s.seen.length then s.rest else s.rest++ [(x.2,x.2.rows.drop (b-s.seen.length).toNat)]))=x.2.rows:=by rw[ln];split;rw[GZ,lB,gY (by omega)];simp
 rw[<-mq,key];refine(acq _ auz).trans ?_;rw[mq];exact acq _ List.perm_append_comm;show(((s.seen++x.2.rows.take _).length:N):o)<=b;rw[eD,gq];omega;show(((s.seen++x.2.rows.take _).length:N):o)=b;rw[eD,gq];by_cases I:(x.2.rows.length:o)<=b-s.seen.length;exact aV (by show(if _ then s.rest else _)=[];rw[a1 I];exact ln) e;omega;change y∈(if(x.2.rows.length:o)<=b-s.seen.length then s.rest else s.rest++ [(x.2,x.2.rows.drop (b-s.seen.length).toNat)]) at ai;rw[ln] at ai;split at ai;cases ai;rename_i I;rw[nQ] at ai;have:=gp.1 ai;subst this;refine⟨Je,λe=>?_,λY aC=>?_⟩;have:=eB iC e;rw[mv,oB] at this;omega;rw[bJ.all_eq];exact iA _ (sG aC)
def aAy(a b:M bJ):bJ.hF (a++b)=bJ.hF a+bJ.hF b:=by
 induction a with
 |nil=>simp[bJ.hF]|cons p a aM=>simp only[x7,bJ.hF,aM];omega
def UE{a b:M bJ}(h:a.Perm b):bJ.hF a=bJ.hF b:=by
 induction h with
 |nil=>rfl|cons x _ aM=>simp only[bJ.hF,aM]|swap x y l=>simp only[bJ.hF];omega|trans _ _ h1 h2=>exact h1.trans h2
def anm{P:M j6}{s:mK}(h:sZ q b P s)(W:yV q k b s):bJ.hF ((ql q b s).heap.map (·.2))+1=bJ.hF (s.heap.map (·.2)):=by
 have ap:0<s.heap.length:=vc.2 W.1;obtain⟨gX,dv,mo,_⟩:=OP EG h.ad ap;obtain⟨f1,f2⟩:=foldl_add (q:=q) (s.heap.getD 0 default).2.kids _ dv;have aQ:bJ.hF ((ql q b s).heap.map (·.2))=bJ.hF ((kg blt s.heap).map (·.2))+bJ.hF (s.heap.getD 0 default).2.kids:=by show bJ.hF (List.map (λx=>x.2) (List.foldl (pP q) (kg blt s.heap) (s.heap.getD 0 default).2.kids))=_;rw[UE (f2.map _),er,aAy,eh];congr 2;exact DU _
 have aF:bJ.hF (s.heap.map (·.2))=(s.heap.getD 0 default).2.size+bJ.hF ((kg blt s.heap).map (·.2)):=by rw[<-UE (gX.map _),gR];rfl
 rw[aQ,aF,bJ.size_eq];omega
def axK{P:M j6}:∀(f:N) (s:mK),sZ q b P s->bJ.hF (s.heap.map (·.2))<=f->sZ q b P (uV q k b f s)/\¬yV q k b (uV q k b f s):=by
 intro f;induction f with
 |zero=>
  intro s h ag;refine⟨h,λW=>?_⟩;have an:=W.1;cases e:s.heap with
  |nil=>exact an e|cons x l=>rw[e] at ag;simp only[gR,bJ.hF] at ag;have:=bJ.size_eq x.2;omega
 |succ f aM=>intro s h ag;unfold uV;split;rename_i W;have:=anm h W;exact aM _ (ank h W) (by omega);rename_i W;exact⟨h,W⟩
def aF5{c7:M bJ}(aa:0<=b)(h:∀p∈c7,gx q.length p):sZ q b (bJ.jY c7) (o6 q k b c7)/\¬yV q k b (o6 q k b c7):=by
 refine axK _ _ (ani aa h) ?_;have h0:iR blt ([]:M lR).length []:=λi _ hi=>by simp at hi
 obtain⟨h1,h2⟩:=foldl_add (q:=q) c7 [] h0;rw[nQ] at h2;show bJ.hF ((c7.foldl (pP q) []).map (·.2))<=_;rw[UE (h2.map _),eh];exact Kd (eB _ (DU _))
end
section
variable{u aj v:H}{s t:U}{n:N}{K:H->Prop}{r:cn}{q:M o}{p:bJ}
def azo:oA aH 332 "Len" 268 ax=ak:=by kernel_rfl
def azp:oA aH 332 "Less" 330 ax=ak:=by kernel_rfl
def azs:oA aH 332 "Swap" 331 ax=ak:=by kernel_rfl
def azr:oA aH 332 "Push" 333 ak=ak:=by kernel_rfl
def azq:oA aH 332 "Pop" 332 ak=ak:=by kernel_rfl
def aAw:q8 aH 331=some (.one .slice):=by kernel_rfl
def adT:aH.underlying 332=some (.pointer 331):=by kernel_rfl
def anu:kI aH 331=some (334,3,24,[.pointer none,.int .u64 0,.int .u64 0]):=by kernel_rfl
def aqc(x:aA bc)(y Y:o):kH aH 331 1 #[(0,.agg #[.pointer x,.int .u64 y,.int .u64 Y])]=some (334,[.pointer x,.int .u64 y,.int .u64 Y]):=by kernel_rfl
def azt:hf aH 268=ak:=by kernel_rfl
def azu:hf aH 330=ak:=by kernel_rfl
def azx:hf aH 331=ak:=by kernel_rfl
def azw:hf aH 333=ak:=by kernel_rfl
def azv:hf aH 332=ak:=by kernel_rfl
abbrev kX:=bc×lR
instance:lM kX:=⟨(⟨0,0,none⟩,default)⟩
def xY(a b:kX):aD:=blt a.2 b.2
def rq(e:kX):M ao:=[.pointer (some e.1),.int .u64 (cZ e.2.1),.int .u64 (c5 e.2.1)]
def LL(e:kX):(rq e).length=3:=rfl
def agb(e:kX):∀v∈rq e,v.oneCell'=ak:=by simp[rq,cK]
def HH(u:H)(s:U)(l:M kX):Prop:=bz u s 3 (l.flatMap rq)
def HH.len{l:M kX}(h:HH u s l):s.n=l.length:=gU LL (by decide) h
def aK.qs{e:N}{l:M kX}(h:aK aj u e 3 s (l.flatMap rq)):HH u s l:=h.own.cI
def HH.at{l:M kX}(h:HH u s l){x:o}(h0:0<=x)(h1:x<(s.n:o)):∃p,s.a=some p/\∃q:kX,l[x.toNat]?=some q/\
  u.cell? (p.add (x.toNat*3))=some (.pointer (some q.1))/\u.cell? ((p.add (x.toNat*3)).add 1)=some (.int .u64 (cZ q.2.1))/\u.cell? ((p.add (x.toNat*3)).add 2)=some (.int .u64 (c5 q.2.1)):=by
 have ae:=h.len
 have ap:x.toNat<l.length:=by omega
 obtain⟨p,ad,I⟩:=bz.elem LL (by decide) h (cy ap)
 exact⟨p,ad,_,cy ap,I 0 _ rfl,I 1 _ rfl,I 2 _ rfl⟩
def arY(l:M kX)(x:kX):l.flatMap rq++ [.pointer (some x.1),.int .u64 (cZ x.2.1),.int .u64 (c5 x.2.1)]=(l++ [x]).flatMap rq:=by simp[rq]
structure Ap(aj:H)(n:N)(u:H)(l:M kX):Prop where
 ex:∃s:U,u n=some (.cells #[.slice s.a s.n s.c] 331 (0,0))/\aK aj u 334 3 s (l.flatMap rq)/\s.al≠some n
 out:aj n=none
 small:l.length<=10000000
def G3(n:N):ao:=.iface 332 (.pointer (some (cw n 0 none)))
def acD{name:String}{f:jQ}(hm:oA aH 332 name f ax=ak)(ae:u n=some (.cells #[.slice s.a s.n s.c] 331 (0,0)))(w:cg)(hw:Sub u w):
  (method (aH.types.size+u3) 332 (.pointer (some (cw n 0 none))) name).run aH w=.ok (f,.slice s.a s.n s.c) w:=by
 obtain⟨i,m,h1,h2,h3,a7⟩:=BB hm
 obtain⟨dV,dJ⟩:=AH
 rw[dJ]
 refine acM h1 h2 h3 a7 adT ?_
 have I:u.cell? (cw n 0 none)=some (.slice s.a s.n s.c):=a8 ae 0
 have y5:=hw.cell I
 exact Jw aAw (cw n 0 none) (vs:=[.slice s.a s.n s.c]) rfl (aci _ _ _ _ _ rfl (λj v aN=>by
  cases j with
  |zero=>simp at aN;subst aN;exact y5|succ j=>simp at aN)) (λc I=>⟨_,rfl,y5⟩)
def aA0{l:M kX}{i j:o}{K:aD->H->Prop}(ag:HH u s l)(i0:0<=i)(i1:i<l.length)(gF:0<=j)(kO:j<l.length)
  (h:K (xY (l.getD i.toNat default) (l.getD j.toNat default)) u):aem s i j u K:=by
 have ae:=ag.len
 apply aDy
 obtain⟨p,ad,x,J,bM,c1,c2⟩:=ag.at gF (show j<(s.n:o) by omega)
 obtain⟨q,aL,y,ai,d0,d1,d2⟩:=ag.at i0 (show i<(s.n:o) by omega)
 rw[show l.getD i.toNat default=y by rw[dm,ai];rfl,show l.getD j.toNat default=x by rw[dm,J];rfl] at h
 refine⟨q,aL,⟨i0,by omega⟩,p,ad,⟨gF,by omega⟩,_,d1,_,by rw[Addr.w5];exact d2,_,c1,_,by rw[Addr.w5];exact c2,yl (rQ _) (rQ _) ?_⟩
 rw[mD,mD]
 have key:∀Y:o,(Y<0↔y.2.1<x.2.1)->K (decide (Y<0)) u:=λY aC=>by
  have:decide (Y<0)=xY y x:=by unfold xY blt;simp[aC]
  rw[this];exact h
 refine key _ ?_
 split
 omega
 split<;>omega
def aA1{l:M kX}{i j:o}(ab:aK aj u 334 3 s (l.flatMap rq))(i0:0<=i)(i1:i<l.length)(gF:0<=j)(kO:j<l.length)
  (h:∀u',aK aj u' 334 3 s ((jU l i.toNat j.toNat).flatMap rq)->gS u u' s->K u'):aen s i j u K:=by
 have ag:=ab.qs
 have ae:=ag.len
 apply aDB
 obtain⟨p,ad,x,J,bM,c1,c2⟩:=ag.at gF (show j<(s.n:o) by omega)
 obtain⟨q,aL,y,ai,d0,d1,d2⟩:=ag.at i0 (show i<(s.n:o) by omega)
 refine⟨p,ad,⟨gF,by omega⟩,q,aL,⟨i0,by omega⟩,_,bM,_,c1,_,c2,_,d0,_,d1,_,d2,q,aL,⟨i0,by omega⟩,?_⟩
 refine aK.store (enc:=rq) LL ab (by decide) (i:=i.toNat) (by omega) (y:=x) (agb x) aL λaU j1 vN _=>⟨p,ad,⟨gF,by omega⟩,?_⟩
 refine aK.store (enc:=rq) LL j1 (by decide) (i:=j.toNat) (by simp;omega) (y:=y) (agb y) ad λcQ dP jk _=>h cQ ?_ (λb z aa an=>jk b z (vN b z aa an) an)
 have eU:i.toNat<l.length:=by omega
 have kM:j.toNat<l.length:=by omega
 have ex:l[j.toNat]=x:=by rw[cy kM] at J;exact cX J
 have tb:l[i.toNat]=y:=by rw[cy eU] at ai;exact cX ai
 rw[Hk eU kM,ex,tb]
 exact dP
def Ap.set{u':H}{l bE:M kX}(h:Ap aj n u l)(ae:u n=some (.cells #[.slice s.a s.n s.c] 331 (0,0)))(ag:s.al≠some n)
  (ab:aK aj u' 334 3 s (bE.flatMap rq)) (he:gS u u' s) (ap:bE.length=l.length):Ap aj n u' bE:=
 ⟨⟨s,he _ _ ae ag,ab,ag⟩,h.out,by rw[ap];exact h.small⟩
def alg(aj:H)(n:N):vr (G3 n) (Ap aj n) xY where
 len:=by intro u l K h av;obtain⟨s,ae,ab,_⟩:=h.ex;refine⟨_,_,_,_,rfl,λw hw=>acD azo ae w hw,hd azt,an2 s u K ?_⟩;rw[ab.qs.len];exact av
 less:=by intro u l i j K h i0 i1 gF kO av;obtain⟨s,ae,ab,_⟩:=h.ex;exact⟨_,_,_,_,rfl,λw hw=>acD azp ae w hw,hd azu,aA0 ab.qs i0 i1 gF kO av⟩
 swap:=by intro u l i j K h i0 i1 gF kO av;obtain⟨s,ae,ab,an⟩:=h.ex;exact⟨_,_,_,_,rfl,λw hw=>acD azs ae w hw,hd azx,aA1 ab i0 i1 gF kO λu' bQ he=>av u' (h.set ae an bQ he (pK _ _ _))⟩
 small:=λh=>by have:=h.small;omega
def alh:pb xY where
 asymm:=λ_ _ h=>EG.asymm _ _ h
 trans:=λ_ _ _ h k=>EG.trans _ _ _ h k
def apx(h:kX)(w:cg):(tE (.iface 334 (.agg #[.pointer (some h.1),.int .u64 (cZ h.2.1),.int .u64 (c5 h.2.1)])) 20 334 ax).run aH w=
  .ok (.agg #[.pointer (some h.1),.int .u64 (cZ h.2.1),.int .u64 (c5 h.2.1)]) w:=by kernel_rfl
def wB(h:kX):ao:=.iface 334 (.agg #[.pointer (some h.1),.int .u64 (cZ h.2.1),.int .u64 (c5 h.2.1)])
def al5{h:kX}{K:aA bc->o->o->H->Prop}(av:K (some h.1) (cZ h.2.1) (c5 h.2.1) u):c9 aH (tE (wB h) 20 334 ax) [.agg [.ptr,.int .u64,.int .u64]] u K:=
 c9.pure [.pointer (some h.1),.int .u64 (cZ h.2.1),.int .u64 (c5 h.2.1)] (λw _=>apx h w) (.cons (t:=.ptr) (some h.1) (.cons (t:=.int .u64) _ (.cons (t:=.int .u64) _ .nil))) av
def azA{l:M kX}{x:kX}(h:Ap aj n u l)(ap:l.length<10000000)(av:∀u',Ap aj n u' (l++ [x])->K u'):
  nn aH (G3 n) "Push" #[wB x] [] u K:=by
 obtain⟨s,ae,ab,an⟩:=h.ex
 obtain⟨i,m,h1,h2,h3,a7⟩:=BB azr
 obtain⟨dV,dJ⟩:=AH
 refine⟨_,_,_,_,rfl,λw _=>by rw[dJ];exact Km h1 h2 h3 a7 adT,hd azw,?_⟩
 refine aDA (some (cw n 0 none)) _ u K ?_
 refine⟨_,rfl,s,a8 ae 0,al5 ⟨H.le.refl u,?_⟩⟩
 have ad:=z1 (P:=aH) (K:=λgi pM=>∃Pc:bc,some (cw n 0 none)=some Pc/\H.aO pM Pc [.slice gi.a gi.n gi.c] K) anu (aqc (some x.1) (cZ x.2.1) (c5 x.2.1)) (by decide) rfl (by simp[cK]) ab (by have:=ab.qs.len;omega) (by have:=ab.qs.len;omega) λau u' bQ h5 he hblk _=>⟨_,rfl,?_⟩
 exact ad
 have fK:=he _ _ ae an
 have kN:au.al≠some n:=λe=>by rcases hblk n e with h|h;exact an h;rw[ae] at h;cases h
 refine⟨_,_,fK,rfl,by simp,by simp[cK],av _ ⟨⟨au,bi _ _ _,⟨?_,?_,bQ.fresh⟩,kN⟩,h.out,by simp;omega⟩⟩
 rw[arY] at bQ
 exact bQ.own.le λb z aa ci=>by rw[bq _ _ (λe=>kN (by rw[aa,e]))];exact ci
 intro b z aa
 rw[bq _ _ (λe=>by rw[e,h.out] at aa;cases aa)]
 exact bQ.le b z aa
def azz{l:M kX}{K:ao->H->Prop}(h:Ap aj n u l)(ap:0<l.length)(av:∀u',Ap aj n u' l.dropLast->K (wB (l.getD (l.length-1) default)) u'):
  nn aH (G3 n) "Pop" #[] [.one .val] u K:=by
 obtain⟨s,ae,ab,an⟩:=h.ex
 obtain⟨i,m,h1,h2,h3,a7⟩:=BB azq
 obtain⟨dV,dJ⟩:=AH
 refine⟨_,_,_,_,rfl,λw _=>by rw[dJ];exact Km h1 h2 h3 a7 adT,hd azv,?_⟩
 refine aDz (some (cw n 0 none)) u K ?_
 have dM:=ab.qs.len
 have I:u.cell? (cw n 0 none)=some (.slice s.a s.n s.c):=a8 ae 0
 have gf:=h.small
 obtain⟨p,ad,x,J,bM,c1,c2⟩:=ab.qs.at (x:=(s.n:o)-1) (by omega) (by omega)
 have fh:l.getD (l.length-1) default=x:=by rw[show((s.n:o)-1).toNat=l.length-1 by omega] at J;rw[dm,J];rfl
 intro nr nE
 refine⟨_,rfl,_,rfl,s,I,s,I,⟨by omega,by omega⟩,p,ad,⟨by omega,by omega⟩,_,bM,_,c1,_,c2,λm hm=>⟨bZ _ hm,?_⟩⟩
 have rE:m≠n:=λe=>by rw[e,ae] at hm;cases hm
 refine⟨_,_,bi _ _ _,rfl,by simp,by simp[cK],nE _ _ ⟨_,rfl,_,rfl,s,?_,s,?_,⟨by omega,by omega⟩,?_⟩⟩
 simp only[H.cell?,bq _ _ (dG rE)];simpa[H.cell?] using I
 simp only[H.cell?,bq _ _ (dG rE)];simpa[H.cell?] using I
 have iH:s.n<=s.c:=(bz.cap ab.own.cI)
 obtain⟨ac,AX,sk⟩:=ab.front (m:=s.n-1) (by omega)
 refine o3 (P:=aH) anu (l:=0) (h:=s.n-1) (m:=s.c) (.inl ⟨rfl,rfl⟩) (.inr ?_) (.inl ⟨rfl,rfl⟩) (by omega) (by omega) (cC _) iH ⟨_,rfl,?_⟩
 rw[show((s.n:o)-1)=((s.n-1:N):o) by omega]
 refine⟨_,_,by simp only[];rw[bq _ _ (dG rE),bq _ _ (dG rE)];exact ae,rfl,by simp,by simp[cK],?_⟩
 have cL:∀(j:N) v,([.pointer (some x.1),.int .u64 (cZ x.2.1),.int .u64 (c5 x.2.1)]:M ao)[j]?=some v->H.cell? ((((u.ins m (.cells #[.pointer none,.int .u64 0,.int .u64 0] 334 (0,0))).ins m (.cells (wr #[.pointer none,.int .u64 0,.int .u64 0] 0 [.pointer (some x.1),.int .u64 (cZ x.2.1),.int .u64 (c5 x.2.1)]) 334 (0,0))).ins n
   (.cells (wr #[.slice s.a s.n s.c] 0 [.slice (s.part 0 (s.n-1) s.c 3).a (s.part 0 (s.n-1) s.c 3).n (s.part 0 (s.n-1) s.c 3).c]) 331 (0,0)))) ((cw m 0 none).add j)=some v:=by
  intro j v aN
  simp only[H.cell?,iP,ki,bq _ _ rE,bi]
  rcases j with _|_|_|j
  simpa[wr] using aN
  simpa[wr] using aN
  simpa[wr] using aN
  simp at aN
 have d0:=cL 0 _ rfl
 have d1:=cL 1 _ rfl
 have d2:=cL 2 _ rfl
 rw[Addr.add_zero'] at d0
 refine⟨_,d0,_,d1,_,d2,?_⟩
 have e:wB x=wB (l.getD (l.length-1) default):=by rw[fh]
 show K (wB x) _
 rw[e]
 have Du:(l.flatMap rq).take ((s.n-1)*3)=l.dropLast.flatMap rq:=by rw[yT LL,dM,List.dropLast_eq_take]
 rw[Du] at ac
 have fo:(s.part 0 (s.n-1) s.c 3).al≠some n:=by rw[AX];exact an
 refine av _ ⟨⟨_,bi _ _ _,⟨?_,?_,ac.fresh⟩,fo⟩,h.out,by simp;omega⟩
 refine ac.own.le λb z aa ci=>?_
 rw[bq _ _ (λe=>fo (by rw[aa,e])),bq _ _ (λe=>by rw[e,hm] at ci;cases ci),bq _ _ (λe=>by rw[e,hm] at ci;cases ci)]
 exact ci
 intro b z aa
 have uq:=ac.le b z aa
 rw[bq _ _ (λe=>by rw[e,h.out] at aa;cases aa),bq _ _ (λe=>by rw[e,hm] at uq;cases uq),bq _ _ (λe=>by rw[e,hm] at uq;cases uq)]
 exact uq
def dv(k:N):o:=((2 ^ k:N):o)
def abP(k:N):1<=dv k:=acf.2 (Nat.pow_pos (by decide))
def Tx(k:N):dv (k+1)=2*dv k:=by show((2 ^ (k+1):N):o)=2*((2 ^ k:N):o);rw[TU,BU];exact O6 _ _
def ayT{k:N}(h:k<=63):dv k<=9223372036854775808:=by
 have h1:(2 ^ k:N)<=2 ^ 63:=Nat.pow_le_pow_right (by decide) h;have h2:dv k<=((2 ^ 63:N):o):=Int.ofNat_le.2 h1;have h3:((2 ^ 63:N):o)=9223372036854775808:=by decide
 omega
def am7{a b:o}{K:o->H->Prop}(ay:cz a)(aa:cz b)(h:K (rt (dy a b)) u):QO a b u K:=by
 apply aFY;have ov:0<=dy a b:=by unfold dy;obtain⟨_,_⟩:=ay;obtain⟨_,_⟩:=aa;omega
 have aar:dy a b<340282366920938463463374607431768211456:=by unfold dy;obtain⟨_,_⟩:=ay;obtain⟨_,_⟩:=aa;omega
 refine⟨λr x v=>v=u/\∃(k:N) (c:o),k<=63/\x=dv k/\0<=c/\r=c*dv (k+1)/\r+dv (k+1)<=18446744073709551616/\r*r<=dy a b/\dy a b<(r+dv (k+1))*(r+dv (k+1)),λ_ x _=>x.toNat,
  ⟨rfl,63,0,by omega,by decide,by omega,by simp,by decide,by simpa using ov,?_⟩,?_⟩
 have e:dv (63+1)=18446744073709551616:=by decide
 rw[e];omega;rintro r x v ⟨rfl,k,c,hk,rfl,I,O,aHy,h1,h2⟩;have ad:=abP k;have jx:=Tx k;have lm:=ayT hk;have ln:0<=r:=by rw[O];exact r2 I (by omega)
 have avQ:bits .or .u64 r (dv k)=r+dv k:=by
  have aF:(2:o) ^ (k+1)=dv (k+1):=by simp[dv]
  have af5:(2:o) ^ 64=18446744073709551616:=by decide
  refine bits_join .u64 64 (by decide) (λn h0 h1=>wraps_u64 n h0 h1) (k+1) r (dv k) ln ?_ (by rw[af5];omega) (by omega) (by rw[aF];omega) (by rw[af5];omega);rw[aF,O];exact Int.mul_emod_left _ _
 rw[avQ];have ajq:cz (r+dv k):=⟨by omega,by omega⟩;refine UP ajq ajq λx y J ai iV=>⟨H.le.refl _,yl ai aa ?_⟩;rw[iV];have C9:k≠0->ev (dv k) (2 ^ 1)=dv (k-1):=λrD=>by obtain⟨m,rfl⟩:∃m,k=m+1:=⟨k-1,by omega⟩;rw[Tx,acb _ (by decide)];simp
 have IF:dv k=1->k=0:=λe=>by by_cases rD:k=0;exact rD;exfalso;obtain⟨m,rfl⟩:∃m,k=m+1:=⟨k-1,by omega⟩;rw[Tx] at e;have:=abP m;omega
 have eK:dv 0=1:=by decide
 have step:∀(de:o),0<=de->de*de<=dy a b->dy a b<(de+dv k)*(de+dv k)->(∃nC,0<=nC/\de=nC*dv k)->de+dv k<=18446744073709551616->
   ((dv k=1)->K de v)/\((¬(dv k=1))->((0:o)<=1)/\((v=v/\∃(dV:N) (c:o),dV<=63/\ev (dv k) (2 ^ 1)=dv dV/\0<=c/\de=c*dv (dV+1)/\de+dv (dV+1)<=18446744073709551616/\de*de<=dy a b/\dy a b<(de+dv (dV+1))*(de+dv (dV+1)))/\((ev (dv k) (2 ^ 1)).toNat<(dv k).toNat))):=by
  intro de pG kj my ⟨nC,dd,ps⟩ pH
  refine⟨λe=>?_,λan=>?_⟩
  rw[e] at my
  rw[rt_eq pG kj my]
  exact h
  have rD:k≠0:=λe=>an (by rw[e];exact eK)
  have AZ:k-1+1=k:=by omega
  have rH:=abP (k-1)
  have xH:=Tx (k-1)
  rw[AZ] at xH
  refine⟨by decide,⟨rfl,k-1,nC,by omega,C9 rD,dd,by rw[AZ];exact ps,by rw[AZ];exact pH,kj,by rw[AZ];exact my⟩,?_⟩
  rw[C9 rD]
  omega
 by_cases hle:(r+dv k)*(r+dv k)<=dy a b;have s:=step (r+dv k) (by omega) hle (by rw[show r+dv k+dv k=r+dv (k+1) by omega];exact h2) ⟨2*c+1,by omega,by rw[O,jx];grind⟩ (by omega);refine⟨λ_=>s,λJ=>aV ?_ J⟩;split;omega;rw[aG (by omega)];omega;have s:=step r ln h1 (by omega) ⟨2*c,by omega,by rw[O,jx];grind⟩ (by omega);refine⟨λJ=>aV J ?_,λ_=>s⟩;rw[aG (by omega),a1 (by omega)];omega
def Hs{l:M o}{d:o}(aB:c8 l)(ap:(l.length:o)=d)(ar:1<=d/\d<=64):hv l d=0:=by rw[<-ap];exact BF aB (by omega)
def HF(u:H)(t:U):Prop:=t.n=0∨∃L,Ints u t L/\CB L/\∀x∈L,1<=x/\x<=1000000000
def HF.get(h:HF u t):∃L:M o,(∀x:o,0<=x->x<(t.n:o)->(t.n:o)<=9223372036854775807/\∃p,t.a=some p/\∃y,L[x.toNat]?=some y/\u.cell? (p.add (x.toNat*1))=some (.int .i64 y))/\CB L/\∀x∈L,1<=x/\x<=1000000000:=by rcases h with h|⟨L,a,b,c⟩;exact⟨[],λx h0 h1=>by omega,.nil,λ_ h=>by cases h⟩;have:=a.max;exact⟨L,λx h0 h1=>⟨by omega,a.get h0 h1⟩,b,c⟩
def am1{d:o}{K:o->H->Prop}(h1:Ints u r.ls r.bm)(h2:Ints u r.ag r.hi)(O:nv r d)(ht:HF u t)(h:K 0 u):QI r.aI r.ls r.ag (cZ r.cA) (c5 r.cA) t d u K:=by
 refine hx.forget (ss:=[.one (.int .i64)]) ?_;have b8:=h1.len;have ek:=h2.len;have ar:=O.aq;have fin:∀{v:H},u.le v->u.le v/\K 0 u:=λaB=>⟨aB,h⟩;apply aFA;refine adq ?_;rw[l4 ar];obtain⟨L,c6,uH,cm⟩:=ht.get;refine⟨λJ=>aV rfl J,λ_=>⟨λ_ n1 tR v=>v=u/\0<=tR/\∀y,L[tR.toNat]?=some y->n1<y,λ_ _ tR _=>((t.n:o)-tR).toNat,⟨rfl,by omega,λy ai=>by have:=cm y (dB ai);omega⟩,λnm n1 tR v aB=>?_⟩⟩;obtain⟨rfl,ajP,bw⟩:=aB;refine⟨λJ=>?_,λ_=>?_⟩;obtain⟨hm,p,ad,y,ai,bM⟩:=c6 tR ajP J;have:=bw y ai;have:=cm y (dB ai);refine⟨p,ad,⟨ajP,J⟩,y,bM,λh=>by omega,λ_=>⟨λh=>by omega,λ_=>⟨⟨by omega,by omega⟩,⟨rfl,by omega,λY aC=>?_⟩,by dsimp only;omega⟩⟩⟩;obtain⟨g1,aQ⟩:=iB.1 ai;obtain⟨g2,aF⟩:=iB.1 aC;rw[<-aQ,<-aF];exact oF.1 uH _ _ g1 g2 (by omega);intro aGv L5 Wr EZ;rcases O.shape with⟨e,aQ,aF,cW⟩|⟨e,eK,v1,v2,ej,eV,hle⟩|⟨e,aF,v1,ej,uG⟩;have iY:r.bm.length=0:=by rw[aQ];rfl
 have z2:r.hi.length=0:=by rw[aF];rfl
 refine⟨λ_=>⟨⟨by omega,by omega⟩,λ_=>EZ _ _ ⟨λ_=>fin (H.le.refl _),λac=>aV ⟨by rw[cW];rfl,by rw[cW];rfl⟩ (GY ac)⟩,λae=>aV (by rw[b8,ek,aQ,aF];rfl) ae⟩,λae=>aV e ae⟩;refine⟨λJ=>aV J (by omega),λ_=>EZ _ _ ⟨λJ=>(by cases J),λ_=>?_⟩⟩;intro ao3 XM;refine⟨λJ=>aV J (by omega),λ_=>XM _ _ ⟨λJ=>(by cases J),λ_=>⟨λJ=>aV e J,λ_=>⟨λJ=>aV ⟨by rw[eK];rfl,by rw[eK];rfl⟩ J,λ_=>L5 _ _ ?_⟩⟩⟩⟩;refine mA (afx _ _) λg W=>?_;generalize k4:v.ins g _=u';have M3:v.le u':=by subst k4;exact bZ _ W
 have c:∀j w,(#[ea r.ls.a r.ls.n r.ls.c,ea r.ag.a r.ag.n r.ag.c]:cv ao)[j]?=some w->u'.cell? ⟨g,j,none⟩=some w:=by intro j w hw;subst k4;exact(a8 (bi _ _ _) j).trans hw
 clear k4 W;refine⟨λ_ i w=>w=u'/\0<=i/\i<=2,λ_ i _=>(2-i).toNat,⟨rfl,by omega,by omega⟩,?_⟩;rintro _ i w ⟨rfl,i0,i1⟩;refine⟨λhi=>⟨_,rfl,⟨i0,hi⟩,?_⟩,λhi=>?_⟩;have hi:i<2:=hi;have I:i=0∨i=1:=by omega
 rcases I with rfl|rfl;refine⟨r.ls,c 0 _ rfl,qj (h1.mono M3) ⟨λan=>aV (Hs v1 ej ar) an,λ_=>⟨⟨by omega,by omega⟩,⟨rfl,by omega,by omega⟩,by dsimp only;omega⟩⟩⟩;refine⟨r.ag,c 1 _ rfl,qj (h2.mono M3) ⟨λan=>aV (Hs v2 eV ar) an,λ_=>⟨⟨by omega,by omega⟩,⟨rfl,by omega,by omega⟩,by dsimp only;omega⟩⟩⟩;refine⟨λ_ i w'=>w'=w/\0<=i,λ_ i _=>((r.ls.n:o)-i).toNat,⟨rfl,by omega⟩,?_⟩;rintro _ i w' ⟨rfl,i0⟩;refine⟨λhi=>?_,λ_=>⟨M3,h⟩⟩;obtain⟨gX,gD,c1⟩:=(h1.mono M3).at i0 hi;obtain⟨dv,eJ,c2⟩:=(h2.mono M3).at i0 (show i<(r.ag.n:o) by omega);have:=hle i.toNat (by omega);exact⟨gX,gD,⟨i0,hi⟩,_,c1,dv,eJ,⟨i0,by omega⟩,_,c2,λJ=>by omega,λ_=>⟨⟨by omega,by omega⟩,⟨rfl,by omega⟩,by dsimp only;omega⟩⟩;refine⟨λJ=>aV J (by omega),λ_=>EZ _ _ ⟨λJ=>(by cases J),λ_=>?_⟩⟩;intro ao3 XM;refine⟨λ_=>XM _ _ ⟨λ_=>qj h1 ?_,λac=>?_⟩,λJ=>aV e J⟩;rw[Hs v1 ej ar];exact fin (H.le.refl _);exact aV (by rw[ek,aF];rfl) (GY ac)
def am2{K:o->H->Prop}(h1:Ints u r.ls r.bm)(h2:Ints u r.ag r.hi)(O:nv r q.length)(ht:HF u t)(ag:Ints u s q)(aL:c8 q)(h:K 0 u):QJ r.aI r.ls r.ag (cZ r.cA) (c5 r.cA) t s u K:=by have ae:=ag.len;apply aFE;rw[ae];refine am1 h1 h2 O ht ⟨λJ=>aV rfl J,λ_=>qj ag ?_⟩;rw[Hs aL rfl O.aq];exact h
def UN{K:o->o->o->H->Prop}(h1:Ints u r.ls r.bm)(h2:Ints u r.ag r.hi)(O:nv r q.length)(ht:HF u t)(ag:Ints u s q)(aL:c8 q)
  (h:K (cZ (mm r q)) (c5 (mm r q)) 0 u):Ct r.aI r.ls r.ag (cZ r.cA) (c5 r.cA) t s u K:=by
 have b8:=h1.len
 have ek:=h2.len
 have ayI:=ag.len
 have ar:=O.aq
 have Y:cz 0:=⟨by omega,by omega⟩
 unfold mm at h
 apply aFx
 refine am2 h1 h2 O ht ag aL ⟨λJ=>aV rfl J,λ_=>?_⟩
 intro o9 ph
 rcases O.shape with⟨e,_⟩|⟨e,_,v1,v2,ej,eV,hle⟩|⟨e,aF,v1,ej,uG⟩
 rw[aG (by omega),aG (by omega)] at h
 exact⟨λh=>by omega,λ_=>⟨λh=>by omega,λ_=>ph _ _ _ h⟩⟩
 rw[a1 e] at h
 refine⟨λ_=>?_,λan=>aV e an⟩
 refine⟨λi x y w=>w=u/\0<=i/\i<=s.n/\cz x/\cz y/\dy x y=qC r.bm r.hi q i.toNat,λi _ _ _=>((s.n:o)-i).toNat,⟨rfl,by omega,by omega,Y,Y,rfl⟩,?_⟩
 rintro i x y w ⟨rfl,i0,i1,J,ai,hw⟩
 refine⟨λhi=>?_,λhi=>?_⟩
 obtain⟨p,ad,bM⟩:=ag.at i0 hi
 obtain⟨gX,gD,c1⟩:=h1.at i0 (show i<(r.ls.n:o) by omega)
 obtain⟨dv,eJ,c2⟩:=h2.at i0 (show i<(r.ag.n:o) by omega)
 have jz:=aL.2 i.toNat (by omega)
 have cq:=v1.2 i.toNat (by omega)
 have cH:=v2.2 i.toNat (by omega)
 have aa:=WM v1 v2 aL (by omega) (by omega) i.toNat (by omega)
 have Ig:=aL.1
 have zd:=hle i.toNat (by omega)
 have CN:qC r.bm r.hi q (i+1).toNat=qC r.bm r.hi q i.toNat+(if q.getD i.toNat 0<r.bm.getD i.toNat 0 then lO (r.bm.getD i.toNat 0) (q.getD i.toNat 0) else 0)+(if r.hi.getD i.toNat 0<q.getD i.toNat 0 then lO (q.getD i.toNat 0) (r.hi.getD i.toNat 0) else 0):=by rw[show(i+1).toNat=i.toNat+1 by omega];rfl
 have qG:qC r.bm r.hi q i.toNat<=64*36893488113059364872:=by have:=DQ (show(i.toNat:o)<=64 by omega) (show(0:o)<=36893488113059364872 by omega);omega
 refine⟨p,ad,⟨i0,hi⟩,_,bM,gX,gD,⟨i0,by omega⟩,_,c1,dv,eJ,⟨i0,by omega⟩,_,c2,?_⟩
 generalize q.getD i.toNat 0=a at*
 generalize r.bm.getD i.toNat 0=b at*
 generalize r.hi.getD i.toNat 0=c at*
 have atY:ma (if c<(if b>a then b else a) then c else(if b>a then b else a)):=by unfold ma at*;split<;>split<;>omega
 refine am4 J ai jz atY (by omega) λkV kF fQ iM j2=>⟨⟨by omega,by omega⟩,⟨rfl,by omega,by omega,fQ,iM,?_⟩,by dsimp only;omega⟩
 rw[j2,hw,CN]
 unfold lO
 by_cases g1:b>a
 rw[a1 g1,a1 (show a<b from g1),aG (show¬c<b by omega),aG (show¬c<a by omega)]
 have:(a-b)*(a-b)=(b-a)*(b-a):=by grind
 omega
 rw[aG g1,aG (show¬a<b by omega)]
 by_cases g2:c<a
 rw[a1 g2,a1 g2];omega
 rw[aG g2,aG g2]
 have:(a-a)*(a-a)=0:=by simp
 omega
 have:i.toNat=q.length:=by omega
 rw[this] at hw
 obtain⟨g1,g2⟩:=Af J ai
 rw[hw] at g1 g2
 rw[g1,g2]
 exact ph _ _ _ h
 rw[aG (by omega),a1 e] at h
 refine⟨λh=>by omega,λ_=>⟨λ_=>?_,λan=>aV e an⟩⟩
 refine UO h1 ag v1 aL (by omega) λx y J ai hw=>⟨H.le.refl _,?_⟩
 have AT:=Hg v1 aL (show r.bm.length=q.length by omega)
 refine am7 J ai ⟨H.le.refl _,am7 (Fs uG) (rQ _) ?_⟩
 rw[mD,hw]
 have s0:=zW AT.1
 have s1:=Pm AT
 have t0:=zW uG.1
 have t1:=Pm uG
 unfold EE at h
 generalize v8:rt (fG r.bm q r.bm.length)=S at*
 generalize awt:rt r.cA=iD at*
 intro Ev Ib
 have fin:∀Y:o,0<=Y->Y<18446744073709551616->K (cZ (Y*Y)) (c5 (Y*Y)) 0 u->Es Y Y u λ(aGk:o) (aGl:o) (anK:H)=>o9 aGk aGl anK:=λY z0 iY aC=>UP ⟨z0,iY⟩ ⟨z0,iY⟩ λx y J ai iV=>by obtain⟨g1,g2⟩:=Af J ai;rw[iV] at g1 g2;rw[g1,g2];exact ph _ _ _ aC
 have go:∀T:o,0<=T->(K (cZ (if T<S then(S-T)*(S-T) else 0)) (c5 (if T<S then(S-T)*(S-T) else 0)) 0 u)->Ev T u:=λT aT AO=>by refine Ib _ _ ⟨λbw=>?_,λfO=>?_⟩;rw[a1 bw] at AO;have aQ:bV .u64 (S-T)=S-T:=oD _ (by omega);rw[aQ];exact fin _ (by omega) (by omega) AO;rw[aG fO] at AO;exact ph _ _ _ AO
 refine⟨λbw=>?_,λfO=>⟨H.le.refl _,?_⟩⟩
 refine UP ⟨t0.1,by omega⟩ ⟨t0.1,by omega⟩ λkV kF fQ iM iV=>⟨H.le.refl _,?_⟩
 obtain⟨g1,g2⟩:=Af fQ iM
 rw[iV] at g1 g2
 refine⟨λan=>?_,λhe=>?_⟩
 have kN:¬iD*iD=r.cA:=λXl=>an (by rw[g1,g2,Xl];exact⟨rfl,rfl⟩)
 rw[aG kN] at h
 have aQ:bV .u64 (iD+1)=iD+1:=oD _ (by omega)
 rw[aQ]
 exact go _ (by omega) h
 have gd:iD*iD=r.cA:=ait (by rw[<-g1];exact he.1) (by rw[<-g2];exact he.2)
 rw[a1 gd] at h
 exact go _ t0.1 h
 refine go _ t0.1 ?_
 rw[aG fO]
 rw[aG (by split<;>omega)] at h
 exact h
def H.le.cell(h:v.le u){a:bc}{x:ao}(I:v.cell? a=some x):u.cell? a=some x:=by unfold H.cell? at I ⊢;split at I;rename_i c t f J;rw[h _ _ J];exact I;cases I
section
variable {α β:Type} [lM α] [lM β] {lt:α->α->aD} {wh:β->β->aD} {f:α->β}
def getD_map'(ar:f default=default)(l:M α)(i:N):(l.map f).getD i default=f (l.getD i default):=by
 rw[dm,dm,jq];cases l[i]? with
 |none=>exact ar.symm|some x=>rfl
omit [lM α] [lM β] in
def adC(l:M α)(i j:N):(jU l i j).map f=jU (l.map f) i j:=by unfold jU;rw[jq,jq];cases l[i]?<;>cases l[j]?<;>simp[DO]
def aCW(ar:f default=default)(ap:∀a b,wh (f a) (f b)=lt a b):∀(j:N) (l:M α),(r7 lt l j).map f=r7 wh (l.map f) j:=by
 intro j;induction j using Nat.strongRecOn with
 |ind j aM=>intro l;unfold r7;by_cases h:j=0;rw[BW h,BW h];rw[yd h,yd h,getD_map' ar,getD_map' ar,ap];split;rw[aM (dk j) (by unfold dk;omega),adC];rfl
def axv(ar:f default=default)(ap:∀a b,wh (f a) (f b)=lt a b)(n:N)(l:M α)(i:N):oX wh n (l.map f) i=oX lt n l i:=by unfold oX;rw[getD_map' ar,getD_map' ar,ap]
def aqV(ar:f default=default)(ap:∀a b,wh (f a) (f b)=lt a b)(n:N):∀(m:N) (i:N) (l:M α),n-i<=m->(mb lt n l i).map f=mb wh n (l.map f) i:=by
 intro m;induction m with
 |zero=>intro i l h;unfold mb;rw[yd (by omega),yd (by omega)]
 |succ m aM=>intro i l h;unfold mb;by_cases I:2*i+1<n;rw[BW I,BW I,axv ar ap,getD_map' ar,getD_map' ar,ap];split;obtain⟨_,_,_,hk⟩:=aa2 (lt:=lt) (l:=l) I;rw[aM _ _ (by omega),adC];rfl;rw[yd I,yd I]
def azh(ar:f default=default)(ap:∀a b,wh (f a) (f b)=lt a b)(l:M α)(y:α):(zI lt l y).map f=zI wh (l.map f) (f y):=by unfold zI;rw[aCW ar ap,er,dj];rfl
def aza(ar:f default=default)(ap:∀a b,wh (f a) (f b)=lt a b)(l:M α):(kg lt l).map f=kg wh (l.map f):=by unfold kg;rw[List.map_dropLast,aqV ar ap _ _ _ _ (cC _),adC,dj]
end
inductive nu(u:H):N->bJ->Prop where
 |mk {n:N} {p:bJ} (ls ag is rs ks:U) (rows:M az) (c7:M N)
   (cell:u n=some (.cells #[.int .i64 p.aI,.slice ls.a ls.n ls.c,.slice ag.a ag.n ag.c,.int .u64 (cZ p.cA),.int .u64 (c5 p.cA),.slice is.a is.n is.c,.slice rs.a rs.n rs.c,.slice ks.a ks.n ks.c] 213 (0,0)))
   (Bv:is.n=0) (bm:Ints u ls p.bm) (hi:Ints u ag p.hi) (at':eF u rs rows) (bL:rows.map az.bL=p.rows)
   (kids:bz u ks 1 (c7.map λn=>.pointer (some ⟨n,0,none⟩))) (len:c7.length=p.kids.length) (each:∀(i:N) m k,c7[i]?=some m->p.kids[i]?=some k->nu u m k):nu u n p
def nu.mono{u':H}(h:nu u n p)(hu:u.le u'):nu u' n p:=by
 induction h with
 |mk ls ag is rs ks rows c7 cell Bv bm hi at' bL kids len each aM=>exact .mk ls ag is rs ks rows c7 (hu _ _ cell) Bv (bm.mono hu) (hi.mono hu) (at'.mono hu) bL (kids.mono hu) len aM
structure sV(v u:H)(n:N)(l:M lR):Prop where
 ex:∃L:M kX,Ap v n u L/\L.map (·.2)=l/\∀e∈L,∃m,e.1=⟨m,0,none⟩/\nu v m e.2.2
def aBi{m:N}{l:M lR}{b:o}(h:sV v u n l)(ap:l.length<10000000)(ad:nu v m p)(av:∀u',sV v u' n (zI blt l (b,p))->K u'):
  Ah (G3 n) (wB ((⟨m,0,none⟩:bc),(b,p))) u K:=by
 obtain⟨L,fm,c6,ef⟩:=h.ex
 have hlen:L.length=l.length:=by rw[<-c6,dj]
 refine aA6 (alg v n) (y:=((⟨m,0,none⟩:bc),((b,p):lR))) (λhk=>azA fm (by omega) hk) λu' ag=>av u' ⟨zI xY L ((⟨m,0,none⟩:bc),((b,p):lR)),ag,?_,λe he=>?_⟩
 have e:=azh (α:=kX) (β:=lR) (lt:=xY) (wh:=blt) (f:=λe:kX=>e.2) rfl (λ_ _=>rfl) L ((⟨m,0,none⟩:bc),((b,p):lR))
 rw[c6] at e
 exact e
 have ib:=anW (lt:=xY) L.length (L++ [((⟨m,0,none⟩:bc),((b,p):lR))]) (by simp)
 rcases cM.1 (ib.mem_iff.1 he) with h1|h1
 exact ef e h1
 have:=gp.1 h1
 subst this
 exact⟨m,rfl,ad⟩
def aAY{m n0:N}{l:M lR}(h:sV v u n l)(aB:v.le u)(ap:l.length<10000000)(ad:nu v m p)(bH:nv (p.hE []) q.length)(aL:c8 q)
  (e1:u.cell? ⟨n0,0,none⟩=some (.slice s.a s.n s.c)) (ag:Ints u s q) (av:∀u',sV v u' n (pP q l p)->K u'):Vy (some ⟨m,0,none⟩) ⟨n0,0,none⟩ ⟨n,0,none⟩ u K:=by
 cases ad with
 |mk ls gy is rs ks rows c7 cell Bv bm hi at' bL kids len each=>
 have I:=aB _ _ cell
 have I2:nv (⟨p.aI,ls,gy,p.cA,is,p.bm,p.hi,[]⟩:cn) q.length:=⟨bH.aq,bH.ids,bH.id,bH.shape⟩
 apply aDt
 have push:Ah (G3 n) (wB ((⟨m,0,none⟩:bc),(mm (p.hE []) q,p))) u K:=aBi h ap (.mk ls gy is rs ks rows c7 cell Bv bm hi at' bL kids len each) λu' k4=>av u' k4
 have Nj:mm (⟨p.aI,ls,gy,p.cA,is,p.bm,p.hi,[]⟩:cn) q=mm (p.hE []) q:=rfl
 refine⟨_,rfl,_,a8 I 0,ls,a8 I 1,gy,a8 I 2,_,a8 I 3,_,a8 I 4,is,a8 I 5,s,e1,?_,H.le.refl u,?_⟩
 exact UN (r:=⟨p.aI,ls,gy,p.cA,is,p.bm,p.hi,[]⟩) (bm.mono aB) (hi.mono aB) I2 (.inl Bv) ag aL ⟨H.le.refl u,push⟩
 exact UN (r:=⟨p.aI,ls,gy,p.cA,is,p.bm,p.hi,[]⟩) (bm.mono aB) (hi.mono aB) I2 (.inl Bv) ag aL push
end
section
variable{u u' aj:H}{b c:N}{D:N->Prop}{s:U}
def Cw:H:=λ_=>none
def aoY(u:H):Cw.le u:=λ_ _ h=>by cases h
def Own.f{e k:N}{xs:M ao}(h:Own u e k s xs):aK Cw u e k s xs:=⟨h,aoY u,λ_ _=>rfl⟩
def H.nT(u:H)(s:U):H:=λc=>open Classical in if s.al=some c then none else u c
def nU(h:s.al≠some c):H.nT u s c=u c:=aG h
def D3(u:H)(s:U):(H.nT u s).le u:=λc z h=>by unfold H.nT at h;split at h;cases h;exact h
def Kr{z:Obj}(h:H.nT u s c=some z):u c=some z/\s.al≠some c:=by unfold H.nT at h;split at h;cases h;rename_i e;exact⟨h,e⟩
section
variable {bx aS:Type}
structure yx(A:(N->aA bx)->H->N->aS->Prop):Prop where
 bS:∀{af aY:N->aA bx} {u u':H} {b:N} {T:aS},A af u b T->(∀c,af c≠none->aY c=af c)->(∀c z,u c=some z->af c≠none->u' c=some z)->A aY u' b T
structure mG(A:(N->aA bx)->H->N->aS->Prop)(aj u:H)(af:N->aA bx)(b:N)(T:aS):Prop where
 aJ:A af u b T
 le:aj.le u
 out:∀c,af c≠none->aj c=none
 known:∀c,af c≠none->u c≠none
structure hU(u:H)(af:N->aA bx)(u':H)(aY:N->aA bx):Prop where
 bS:∀c z,u c=some z->af c=none->u' c=some z
 grow:∀c,aY c≠none->af c≠none∨u c=none
variable {A:(N->aA bx)->H->N->aS->Prop}
omit A in
def hU.mono{af:N->aA bx}(h:u.le u'):hU u af u' af:=⟨λc z I _=>h c z I,λ_ h=>.inl h⟩
omit A in
def hU.off{af aY:N->aA bx}(h:hU u af u' aY){z:Obj}(I:u c=some z)(ac:af c=none):aY c=none:=by
 cases e:aY c with
 |none=>rfl|some t=>rcases h.grow c (by rw[e];simp) with h1|h1;exact aV ac h1;rw[I] at h1;cases h1
omit A in
def hU.trans{aU cQ:H}{af c4 im:N->aA bx}(h:hU u af aU c4)(k:hU aU c4 cQ im):hU u af cQ im where
 bS c z I ac:=k.bS c z (h.bS c z I ac) (h.off I ac)
 grow c I:=by
  rcases k.grow c I with h1|h1;exact h.grow c h1;cases e:af c with
  |some x=>exact .inl (by simp)|none=>
   cases aF:u c with
   |none=>exact .inr rfl|some z=>rw[h.bS c z aF e] at h1;cases h1
omit A in
def hU.tag{af aY im:N->aA bx}(h:hU u af u' aY)(k:∀c,im c=aY c∨af c≠none∨u c=none):hU u af u' im where
 bS:=h.bS
 grow c I:=by rcases k c with h1|h1;rw[h1] at I;exact h.grow c I;exact h1
def mG.same(hk:yx A){af:N->aA bx}{T:aS}(h:mG A aj u af b T)(hu:∀c z,u c=some z->af c≠none->u' c=some z)(hle:aj.le u'):mG A aj u' af b T:=
 ⟨hk.bS h.aJ (λ_ _=>rfl) hu,hle,h.out,λc I=>by obtain⟨z,ab⟩:=fj.1 (h.known c I);rw[hu c z ab I];simp⟩
def mG.mono(hk:yx A){af:N->aA bx}{T:aS}(h:mG A aj u af b T)(hu:u.le u'):mG A aj u' af b T:=h.same hk (λc z I _=>hu c z I) (h.le.trans hu)
def mG.fresh{af:N->aA bx}{T:aS}(h:mG A aj u af b T)(I:u c=none):af c=none:=by
 cases e:af c with
 |none=>rfl|some t=>exact aV I (h.known c (by rw[e];simp))
def mG.tag(hk:yx A){af:N->aA bx}{T:aS}(h:mG A aj u af b T)(S:N->aA bx)(ag:∀c,S c≠none->af c=none/\aj c=none/\u c≠none):
  ∃aY,mG A aj u aY b T/\(∀c t,S c=some t->aY c=some t)/\(∀c,S c=none->aY c=af c):=by
 let aY:N->aA bx:=λc=>match S c with|some t=>some t|none=>af c
 have aQ:∀c t,S c=some t->aY c=some t:=λc t I=>by simp only[aY,I]
 have aF:∀c,S c=none->aY c=af c:=λc I=>by simp only[aY,I]
 have cW:∀c,af c≠none->aY c=af c:=λc I=>by
  cases e:S c with
  |none=>exact aF c e|some t=>exact aV (ag c (by rw[e];simp)).1 I
 refine⟨aY,⟨hk.bS h.aJ cW λ_ _ ab _=>ab,h.le,λc I=>?_,λc I=>?_⟩,aQ,aF⟩
 cases e:S c with
 |none=>rw[aF c e] at I;exact h.out c I
 |some t=>exact(ag c (by rw[e];simp)).2.1
 cases e:S c with
 |none=>rw[aF c e] at I;exact h.known c I
 |some t=>exact(ag c (by rw[e];simp)).2.2
def U.wL(s:U)(t:bx):N->aA bx:=λc=>if s.al=some c then some t else none
omit A in
def U.aCp{t:bx}(h:s.al=some c):s.wL t c=some t:=a1 h
omit A in
def U.anx{t:bx}(h:s.al≠some c):s.wL t c=none:=aG h
omit A in
def U.aCq{t:bx}(h:s.wL t c≠none):s.al=some c:=by by_cases e:s.al=some c;exact e;exact aV (U.anx e) h
structure fa(A:(N->aA bx)->H->N->aS->Prop)(Ok:aS->Prop)(aj u:H)(D:N->Prop)(b:N)(X:aS):Prop where
 ex:∃af,(∀c,D c↔af c≠none)/\mG A aj u af b X/\Ok X
end
structure ik(u:H)(D:N->Prop)(u':H)(fy:N->Prop):Prop where
 bS:∀c z,u c=some z->¬D c->u' c=some z
 grow:∀c,fy c->D c∨u c=none
def ik.mono(h:u.le u'):ik u D u' D:=⟨λc z I _=>h c z I,λ_ h=>.inl h⟩
def ik.trans{aU cQ:H}{qx qy:N->Prop}(h:ik u D aU qx)(k:ik aU qx cQ qy):ik u D cQ qy where
 bS c z I ac:=k.bS c z (h.bS c z I ac) λar=>by rcases h.grow c ar with h1|h1;exact ac h1;rw[I] at h1;cases h1
 grow c I:=by
  rcases k.grow c I with h1|h1;exact h.grow c h1;by_cases e:D c;exact .inl e;right;cases aF:u c with
  |none=>rfl|some z=>rw[h.bS c z aF e] at h1;cases h1
def ik.apart{v:H}{fy:N->Prop}(h:ik u D u' fy)(aB:v.le u)(ar:∀c,D c->v c=none):v.le u'/\∀c,fy c->v c=none:=by refine⟨λc z I=>h.bS c z (aB c z I) λe=>?_,λc I=>?_⟩;have:=ar c e;rw[I] at this;cases this;rcases h.grow c I with h1|h1;exact ar c h1;exact aB.none h1
section
variable {bx aS:Type} {A:(N->aA bx)->H->N->aS->Prop} {Ok:aS->Prop}
def tr{af:N->aA bx}{T:aS}(h:mG A aj u af b T)(aT:Ok T):fa A Ok aj u (λc=>af c≠none) b T:=⟨af,λ_=>BJ,h,aT⟩
omit A Ok in
def Ac{af aY:N->aA bx}(eT:∀c,D c↔af c≠none)(h:hU u af u' aY):ik u D u' (λc=>aY c≠none) where
 bS c z I ac:=h.bS c z I (by
  cases e:af c with
  |none=>rfl|some t=>exact aV ((eT c).2 (by rw[e];simp)) ac)
 grow c I:=(h.grow c I).imp (eT c).2 λh=>h
def fa.base{X:aS}(h:fa A Ok aj u D b X):aj.le u/\(∀c,D c->aj c=none)/\∀c,D c->u c≠none:=by obtain⟨af,h1,h2,_⟩:=h.ex;exact⟨h2.le,λc I=>h2.out c ((h1 c).1 I),λc I=>h2.known c ((h1 c).1 I)⟩
def fa.same(hk:yx A){X:aS}(h:fa A Ok aj u D b X)(hu:∀c z,u c=some z->D c->u' c=some z)(hle:aj.le u'):fa A Ok aj u' D b X:=by obtain⟨af,h1,h2,h3⟩:=h.ex;exact⟨af,h1,h2.same hk (λc z I ac=>hu c z I ((h1 c).2 ac)) hle,h3⟩
def fa.mono(hk:yx A){X:aS}(h:fa A Ok aj u D b X)(hu:u.le u'):fa A Ok aj u' D b X:=h.same hk (λc z I _=>hu c z I) (h.base.1.trans hu)
def fa.nf{v:H}{X:aS}(h:fa A Ok aj u D b X)(aB:v.le aj):fa A Ok v u D b X:=by
 obtain⟨af,h1,h2,h3⟩:=h.ex;exact⟨af,h1,⟨h2.aJ,aB.trans h2.le,λc I=>by
  cases J:v c with
  |none=>rfl|some z=>have:=aB _ _ J;rw[h2.out c I] at this;exact(nomatch this),h2.known⟩,h3⟩
end
end
section
variable{u u':H}
structure ey where
 b:N
 aI:o
 bp:U
 fF:U
 bm:M o
 hi:M o
 cA:o
 bd:U
 rows:M az
 df:U
def ey.dC(h:ey):M N:=h.b::(h.bp.al.toList++h.fF.al.toList++h.bd.al.toList++h.df.al.toList)
inductive aw where
 |mk (h:ey) (kids:M aw)
namespace aw
def h:aw->ey| .mk h _=>h
def kids:aw->M aw| .mk _ k=>k
def b(n:aw):N:=n.h.b
mutual
def bF:aw->bJ
 | .mk h kids=>.mk h.aI h.bm h.hi h.cA (h.rows.map az.bL) (TC kids)
def TC:M aw->M bJ
 | []=>[]|n::kz=>n.bF::TC kz
end
mutual
def bR:aw->M (ey×M N)
 | .mk h kids=>(h,kids.map aw.b)::mQ kids
def mQ:M aw->M (ey×M N)
 | []=>[]|n::kz=>n.bR++mQ kz
end
def ak8:∀kz:M aw,TC kz=kz.map bF
 | []=>rfl|n::kz=>by rw[TC,ak8 kz,gR]
def Iy:∀kz:M aw,mQ kz=kz.flatMap bR
 | []=>rfl|n::kz=>by rw[mQ,Iy kz,gI]
def iI(n:aw):n.bR=(n.h,n.kids.map b)::n.kids.flatMap bR:=by cases n;rw[bR,Iy];rfl
def hD(n:aw):n.bF=.mk n.h.aI n.h.bm n.h.hi n.h.cA (n.h.rows.map az.bL) (n.kids.map bF):=by cases n;rw[bF,ak8];rfl
def Se(n:aw):0<n.bR.length:=by rw[iI];simp
def ind{P:aw->Prop}(h:∀n,(∀k∈n.kids,P k)->P n):∀n,P n:=by intro n;exact aw.rec (motive_1:=P) (motive_2:=λkz=>∀k∈kz,P k) (λ_ _ aM=>h _ aM) (λk hk=>(by cases hk)) (λn kz h1 h2 k hk=>by rcases cP.1 hk with rfl|hk;exact h1;exact h2 k hk) n
def tC(n:aw):n.bF.all=n.bR.flatMap λx=>x.1.rows.map az.bL:=by
 induction n using ind with
 |h n aM=>rw[hD,iI,gI,bJ.all];congr 1;rw[yF,BZ,List.flatMap_assoc];rw[Ke,Ke];exact eB List.flatten (zQ λk hk=>aM k hk)
def JJ(n:aw):n.bF.size=n.bR.length:=by
 induction n using ind with
 |h n aM=>
  rw[hD,iI,hX,bJ.size,Nat.add_comm];congr 1;obtain⟨ks,po⟩:∃ks,ks=n.kids:=⟨_,rfl⟩;rw[<-po] at aM ⊢;clear po;induction ks with
  |nil=>rfl|cons k ks Ga=>rw[gR,bJ.hF,gI,eD,aM k (gr ..),Ga λj aN=>aM j (gh _ aN)]
def own(n:aw):M N:=n.bR.flatMap λx=>x.1.dC
def rT(n:aw):n.own=n.h.dC++n.kids.flatMap own:=by unfold own;rw[iI,gI,List.flatMap_assoc]
end aw
def e2(h:ey):M ao:=[.int .i64 h.aI,.slice h.bp.a h.bp.n h.bp.c,.slice h.fF.a h.fF.n h.fF.c,.int .u64 (cZ h.cA),.int .u64 (c5 h.cA),.slice none 0 0,.slice h.bd.a h.bd.n h.bd.c,.slice h.df.a h.df.n h.df.c]
structure hT(u:H)(x:ey×M N):Prop where
 cell:u x.1.b=some (.cells (e2 x.1).toArray 213 (0,0))
 bm:Own u 3 1 x.1.bp (x.1.bm.flatMap encI)
 hi:Own u 3 1 x.1.fF (x.1.hi.flatMap encI)
 rws:Own u 52 2 x.1.bd (x.1.rows.flatMap cO)
 vec:∀r∈x.1.rows,Ints u r.s r.v
 lZ:bz u x.1.df 1 (x.2.map λn=>.pointer (some ⟨n,0,none⟩))
def hT.bS{x:ey×M N}(h:hT u x)(hu:∀c z,c∈x.1.dC->u c=some z->u' c=some z)(aB:∀r∈x.1.rows,Ints u' r.s r.v):hT u' x where
 cell:=hu _ _ (gr ..) h.cell
 bm:=h.bm.le λc z I ab=>hu c z (by simp[ey.dC,I]) ab
 hi:=h.hi.le λc z I ab=>hu c z (by simp[ey.dC,I]) ab
 rws:=h.rws.le λc z I ab=>hu c z (by simp[ey.dC,I]) ab
 vec:=aB
 lZ:=bz.else h.lZ λc z I ab=>hu c z (by simp[ey.dC,I]) ab
structure An(u:H)(n:aw):Prop where
 one:∀x∈n.bR,hT u x
 nodup:n.own.Nodup
def An.bS{n:aw}(h:An u n)(hu:∀c z,c∈n.own->u c=some z->u' c=some z)(aB:∀x∈n.bR,∀r∈x.1.rows,Ints u' r.s r.v):An u' n:=
 ⟨λx J=>(h.one x J).bS (λc z I ab=>hu c z (ep.2 ⟨x,J,I⟩) ab) (aB x J),h.nodup⟩
def An.mono{n:aw}(h:An u n)(hu:u.le u'):An u' n:=h.bS (λc z _ ab=>hu c z ab) λx J r O=>((h.one x J).vec r O).mono hu
def An.part{n:aw}(h:∀x∈n.bR,hT u x):nu u n.b n.bF:=by
 induction n using aw.ind with
 |h n aM=>
  have h0:=h (n.h,n.kids.map aw.b) (by rw[aw.iI];exact gr ..);rw[aw.hD];refine .mk n.h.bp n.h.fF ⟨none,0,0⟩ n.h.bd n.h.df n.h.rows (n.kids.map aw.b) h0.cell rfl h0.bm.f.ints h0.hi.f.ints ⟨h0.rws.cI,h0.vec⟩ rfl h0.lZ (by simp[bJ.kids]) λi m k hm hk=>?_;have dJ:(n.kids.map aw.bF)[i]?=some k:=hk;rw[jq] at hm dJ;cases e:n.kids[i]? with
  |none=>rw[e] at hm;cases hm
  |some Y=>rw[e] at hm dJ;obtain rfl:=cX hm;obtain rfl:=cX dJ;have aC:=dB e;exact aM Y aC λx J=>h x (by rw[aw.iI];exact gh _ (ep.2 ⟨Y,aC,J⟩))
structure ko where
 h:ey
 pre:M aw
 post:M aw
def ko.fill(f:ko)(n:aw):aw:=.mk f.h (f.pre++n::f.post)
def na:M ko->aw->aw
 | [],n=>n|f::aW,n=>na aW (f.fill n)
def ko.bR(f:ko)(b:N):M (ey×M N):=(f.h,f.pre.map aw.b++b::f.post.map aw.b)::(f.pre++f.post).flatMap aw.bR
def jL:M ko->N->M (ey×M N)
 | [],_=>[]|f::aW,b=>f.bR b++jL aW f.h.b
def agq(f:ko)(n:aw):(f.fill n).bR.Perm (n.bR++f.bR n.b):=by unfold ko.fill ko.bR;rw[aw.iI];show((f.h,(f.pre++n::f.post).map aw.b)::(f.pre++n::f.post).flatMap aw.bR).Perm _;rw[er,gR,gZ,gZ,gI];refine BY (j3 _ ?_) BX.symm;refine acr _ _ _|>.trans ?_;exact .refl _
def GC:∀(aW:M ko) (n:aw),(na aW n).bR.Perm (n.bR++jL aW n.b)
 | [],n=>by rw[jL,lB];exact .refl _|f::aW,n=>by show(na aW (f.fill n)).bR.Perm _;refine(GC aW (f.fill n)).trans ?_;rw[jL,<-mq];exact(agq f n).append_right _
def abV:∀(aW:M ko) {n n':aw},n.b=n'.b->(na aW n).b=(na aW n').b
 | [],_,_,h=>h|f::aW,n,n',_=>abV aW (n:=f.fill n) (n':=f.fill n') rfl
end
section
variable{u:H}{l:M az}{s:U}{p:bJ}{i:N}
def amu{aI hw lw:o}{ls ag is rs:U}{bm hi:M o}{rows:M az}{K:o->U->U->o->o->U->H->Prop}(h1:Ints u ls bm)(h2:Ints u ag hi)(O:eF u rs rows)(ga:bm.length<=64)(fu:hi.length<=64)(oa:rows.length<=1000000)
  (av:∀a b c u',aK u u' 3 1 a (bm.flatMap encI)->aK u u' 3 1 b (hi.flatMap encI)->aK u u' 3 1 c ((dS (rows.map (·.id))).flatMap encI)->dO a b->dO a c->dO b c->K aI a b hw lw c u'):Qk aI ls ag hw lw is rs u K:=by
 have b8:=h1.len
 have ek:=h2.len
 have lu:=O.len
 apply aDC
 refine sN h1 (by omega) λs0 aU en _=>⟨en.le,sN (h2.mono en.le) (by omega) λs2 j5 hW _=>?_⟩
 have Be:=O.mono (en.le.trans hW.le)
 refine⟨λi KN gi ha aon aoo G4 w=>0<=i/\i<=rs.n/\KN=aI/\gi=s0/\ha=s2/\aon=hw/\aoo=lw/\aK j5 w 3 1 G4 (((rows.take i.toNat).map (·.id)).flatMap encI),λi _ _ _ _ _ _ _=>((rs.n:o)-i).toNat,
  ⟨by omega,by omega,rfl,rfl,rfl,rfl,rfl,by simpa using aK.nil (H.le.refl j5) 3 1⟩,?_⟩
 rintro i KN gi ha aon aoo G4 w ⟨i0,i1,aQ,aF,cW,fJ,gA,ab⟩
 have aiM:=ab.ints.len
 rw[dj,gq] at aiM
 refine⟨λhi=>?_,λhi=>?_⟩
 obtain⟨p,ad,r,FU,bM,c1,_⟩:=(Be.mono ab.le).at i0 hi
 refine⟨p,ad,⟨i0,hi⟩,_,bM,_,c1,nV o4 (Aw _) (by decide) rfl (by simp[cK]) ab (by omega) (by omega) λau u' dP fK eL eA _=>⟨⟨by omega,by omega⟩,⟨by omega,by omega,aQ,aF,cW,fJ,gA,?_⟩,by dsimp only;omega⟩⟩
 have e:rows.take (i+1).toNat=rows.take i.toNat++ [r]:=by rw[show(i+1).toNat=i.toNat+1 by omega,gJ,FU];rfl
 rw[e,er,gZ]
 exact dP
 have ef:rows.take i.toNat=rows:=gY (by omega)
 rw[ef] at ab
 subst aQ aF cW fJ gA
 refine He ab (by simp;omega) λgj A9 aGY=>?_
 have ac:∀g,G4.al=some g->j5 g=none:=ab.fresh
 have f13:dO gi G4:=aK.eG (en.mono hW.le) (H.le.refl j5) ab
 have f23:dO ha G4:=aK.eG hW (H.le.refl j5) ab
 have f12:dO gi ha:=aK.eG en (H.le.refl aU) hW
 have Gh:j5.le gj:=A9.le
 exact av _ _ _ gj ((en.mono hW.le).mono Gh) ((hW.weaken en.le).mono Gh) (A9.weaken (en.le.trans hW.le)) f12 f13 f23
def aqd:kH aH 22 0 #[]=some (52,[]):=by kernel_rfl
def XA:∀y∈l.flatMap cO,y.oneCell'=ak:=by intro y ai;obtain⟨h,_,ai⟩:=ep.1 ai;exact Xp h y ai
def PK{K:U->H->Prop}(ag:bz u s 2 (l.flatMap cO))(aa:s.n<=1099511627776)(av:∀au u',aK u u' 52 2 au (l.flatMap cO)->au.n=s.n->K au u'):n2 s u K:=by
 apply aEG;refine⟨λae=>?_,λ_=>acW kk aqd (by decide) ag XA (by omega) av⟩;have ap:=acT ag ae;have ia:s.n=0:=by have:=bz.len ag;rw[ap] at this;simp at this;omega
 refine av _ _ ?_ ia.symm;rw[ap];exact aK.nil (H.le.refl u) _ _
def apr{c7:M bJ}{k:bJ}(h:c7[i]?=some k):bJ.jY (c7.take (i+1))=bJ.jY (c7.take i)++k.all:=by rw[gJ,h,yF,yF];simp
def apq(c7:M bJ)(i:N):(bJ.jY (c7.take i)).length<=(bJ.jY c7).length:=by
 conv=>rhs;rw[<-q2 i c7]
 rw[yF,yF,gZ,eD];omega
def aAW{v:H}{n:N}(ad:nu v n p):∀{u:H} {K:U->H->Prop},v.le u->p.all.length<=1000000->
  (∀(s:U) (L:M az) (u':H),aK u u' 52 2 s (L.flatMap cO)->L.map az.bL=p.all->(∀r∈L,Ints v r.s r.v)->K s u')->Qh (some ⟨n,0,none⟩) u K:=by
 induction ad with
 |@mk n p ls ag is rs ks rows c7 cell Bv bm hi at' bL kids len each aM=>
 intro u K aB aa av
 have I:=aB _ _ cell
 have k1:p.rows.length=rows.length:=by rw[<-bL,dj]
 rw[bJ.all_eq] at aa av
 rw[eD] at aa
 have I3:=at'.len
 apply aDp
 refine⟨_,rfl,rs,a8 I 6,PK (bz.mono at'.1 aB) (by omega) λs2 j5 hW _=>⟨_,rfl,ks,a8 (hW.le _ _ I) 7,?_⟩⟩
 have sm:=jo (bz.cap kids) (bz.max kids)
 have j0:ks.n=c7.length:=by have:=kids.len;simpa using this.symm
 refine⟨λgi x w=>0<=x/\x<=ks.n/\∃L:M az,aK u w 52 2 gi (L.flatMap cO)/\L.map az.bL=p.rows++bJ.jY (p.kids.take x.toNat)/\∀r∈L,Ints v r.s r.v,λ_ x _=>((ks.n:o)-x).toNat,
  ⟨by omega,by omega,rows,hW,by simpa[bJ.jY] using bL,λr O=>at'.2 r O⟩,?_⟩
 rintro gi x w ⟨bK,dw,L,ab,c6,cx⟩
 refine⟨λJ=>?_,λJ=>?_⟩
 have fh:x.toNat<c7.length:=by omega
 obtain⟨k,hk⟩:∃k,p.kids[x.toNat]?=some k:=⟨_,cy (by omega)⟩
 have hm:c7[x.toNat]?=some c7[x.toNat]:=cy fh
 obtain⟨a,ay,fP⟩:=bz.elem (enc:=λn:N=>[hn (some ⟨n,0,none⟩)]) (k:=1) (λ_=>rfl) (by decide) (xs:=c7) (by
  have e:c7.flatMap (λn:N=>[hn (some ⟨n,0,none⟩)])=c7.map λn=>hn (some ⟨n,0,none⟩):=by
   generalize c7=Y;induction Y with
   |nil=>rfl|cons y Y aM=>rw[gI,gR,aM];rfl
  rw[e];exact kids.mono (aB.trans ab.le)) hm
 have ef:=apr hk
 have hle:=apq p.kids (x.toNat+1)
 rw[ef,eD] at hle
 have xk:=eB iC c6
 rw[dj,eD] at xk
 have ot:gi.n=L.length:=gU fM (by decide) ab.own.cI
 refine⟨a,ay,⟨bK,J⟩,_,fP 0 _ rfl,aM _ _ _ hm hk (aB.trans ab.le) (by omega) λla Wx lc dP ahb asR=>?_⟩
 have ia:=eB iC ahb
 rw[dj] at ia
 have ze:=gU fM (by decide) dP.own.cI
 refine al3 kk (by decide) (ab.mono dP.le) dP.own.cI XA (by omega) (by omega) λq3 u16 ml _=>⟨⟨by omega,by omega⟩,⟨by omega,by omega,L++Wx,by rw[gZ];exact ml,?_,λr O=>?_⟩,by dsimp only;omega⟩
 rw[er,c6,ahb,show(x+1).toNat=x.toNat+1 by omega,ef,mq]
 rcases cM.1 O with h|h
 exact cx r h
 exact asR r h
 rw[gY (by omega)] at c6
 exact av _ L w ab c6 cx
def QV(ub:H)(fv:ao)(p:az->aD):Prop:=∀(r:az) (v:H) (K:aD->H->Prop),ub.le v->K (p r) v->sS aH fv #[.agg #[.int .i64 r.id,.slice r.s.a r.s.n r.s.c]] [.one .bool] v K
def amP{ub:H}{fv:ao}{p:az->aD}{K:o->H->Prop}(ag:bz u s 2 (l.flatMap cO))(ad:QV ub fv p)(ci:ub.le u)
  (av:∀(i:N) r,l[i]?=some r->(∀(k:N) de,k<i->l[k]?=some de->p de=ax)->p r=ak->K i u) (eP:(∀r∈l,p r=ax)->K (-1) u):Qz s fv u K:=by
 have ae:s.n=l.length:=gU fM (by decide) ag
 have hm:s.n<=9223372036854775807:=jo (bz.cap ag) (bz.max ag)
 apply aEP
 refine⟨λ_ i v=>v=u/\0<=i/\i<=l.length/\∀(k:N) de,k<i.toNat->l[k]?=some de->p de=ax,λ_ i _=>l.length-i.toNat,⟨rfl,by omega,by omega,λk de hk=>by simp at hk⟩,?_⟩
 rintro _ i v ⟨rfl,i0,i1,hk⟩
 refine⟨λeU=>?_,λfO=>eP λr O=>?_⟩
 have ap:i.toNat<l.length:=by omega
 have J:l[i.toNat]?=some l[i.toNat]:=cy ap
 obtain⟨q,aL,I⟩:=bz.elem fM (by decide) ag J
 have bM:=I 0 _ rfl
 rw[Addr.add_zero'] at bM
 refine⟨q,aL,⟨i0,eU⟩,_,bM,_,I 1 _ rfl,ad _ _ _ ci ⟨λaa=>?_,λaa=>⟨⟨by omega,by omega⟩,⟨rfl,by omega,by omega,λk de dJ dz=>?_⟩,by dsimp only;omega⟩⟩⟩
 have:=av i.toNat _ J hk aa
 rw[show((i.toNat:N):o)=i by omega] at this
 exact this
 by_cases e:k=i.toNat
 subst e
 rw[J] at dz;cases dz
 exact aa
 exact hk k de (by omega) dz
 obtain⟨k,dJ,rfl⟩:=oG O
 exact hk k _ (by omega) (cy dJ)
def xV:az:=⟨0,⟨none,0,0⟩,[]⟩
def aGf{w w':cg}{b:N}{z b7:Obj}(hw:Sub u w)(aa:u b=some z)(k:s3 b b7 w w'):Step u [] w (u.ins b b7) [] w':=by refine⟨λx y h=>?_,k.os,k.tape,k.output,k.drawn,Kd k.size.symm,λx _ J _=>k.rest x (λe=>by rw[e,aa] at J;cases J),λx _ J=>?_,[],by simp,by simp⟩;unfold H.ins at h;split at h;rename_i e;rw[e];cases h;exact k.at_;rename_i e;rw[k.rest x e];exact hw _ _ h;rw[bq _ _ (λe=>by rw[e,aa] at J;cases J)];exact J
def aAf{g n c:N}{cur:cv ao}{T:dF}(W:u g=some (.cells cur T (0,0)))(ae:i+n*2<=cur.size){fB:dF}{K:H->Prop}(av:K (u.ins g (.cells (wr cur i ((gu n xV).flatMap cO)) T (0,0)))):
  c9 aH (qd #[22] fB #[.slice (some ⟨g,i,none⟩) n c]) [] u K:=by
 intro w hw
 obtain⟨ht,_⟩:=vE kk
 have hlen:((gu n xV).flatMap cO).length=n*2:=by rw[og fM,T5]
 rcases T6 n with rfl|oT
 refine⟨.tuple #[],w,u,by simp[qd,ir ht],⟨[],.nil,rfl,?_⟩,Step.refl hw⟩
 have e:u.ins g (.cells (wr cur i ((gu 0 xV).flatMap cO)) T (0,0))=u:=aaN (by rw[W];rfl)
 rw[e] at av
 exact av
 obtain⟨w',O,k7⟩:=adz (P:=aH) (b:=g) (off:=i) (T:=T) ((gu n xV).flatMap cO) 0 cur w (hw _ _ W) (by rw[hlen];omega) (λv aB=>by obtain⟨r,O,aB⟩:=ep.1 aB;rw[List.eq_of_mem_replicate O] at aB;simp[xV,cO] at aB;rcases aB with rfl|rfl<;>rfl)
 have aB:∀w,(zeroValue 52).run aH w=.ok (.agg #[.int .i64 0,.slice none 0 0]) w:=λ_=>by kernel_rfl
 have aaI:(wv (cD #[.int .i64 0,.slice none 0 0]).cells n).toList=(gu n xV).flatMap cO:=by have:=Gp (enc:=cO) fM (by decide) xV n;rw[<-this];rfl
 obtain⟨m,rfl⟩:∃m,n=m+1:=⟨n-1,by omega⟩
 refine⟨.tuple #[],w',_,by simp[qd,ir ht,aB,aaI,O],⟨[],.nil,rfl,av⟩,aGf hw W k7⟩
def aK.aqF{aj:H}(h:aK aj u 52 2 s (l.flatMap cO))(hi:i<=s.n){fB:dF}{K:H->Prop}
  (av:∀(u':H) (bE:M az),aK aj u' 52 2 s (bE.flatMap cO)->bE.take i=l.take i->bE.length=l.length->gS u u' s->K u'):c9 aH (qd #[22] fB #[.slice (s.part i s.n s.c 2).a (s.part i s.n s.c 2).n (s.part i s.n s.c 2).c]) [] u K:=by
 have dM:s.n=l.length:=gU fM (by decide) h.own.cI
 obtain⟨Bg,_⟩:=vE kk
 rcases h.own.is with h0|⟨g,cur,ay,W,ae,I,ag,ht⟩
 subst h0
 have ap:l=[]:=kS dM.symm
 subst ap
 have MO:i=0:=by simpa using hi
 subst MO
 refine c9.pure [] (λw hw=>?_) .nil (av u [] h rfl rfl (gS.refl _ _))
 simp[U.part,qd,ir Bg]
 rfl
 rcases ab2 hi with rfl|bw
 have e:(s.part s.n s.n s.c 2).n=0:=by simp[U.part]
 refine c9.pure [] (λw hw=>?_) .nil (av u l h rfl rfl (gS.refl _ _))
 rw[e]
 cases(s.part s.n s.n s.c 2).a<;>simp[qd,ir Bg]<;>rfl
 have zh:(s.part i s.n s.c 2).a=some ⟨g,i*2,none⟩:=by unfold U.part;simp only;rw[aG (by omega),ay];simp[iP]
 rw[zh]
 have ZF:(s.part i s.n s.c 2).n=s.n-i:=rfl
 rw[ZF]
 have c0:i*2+(s.n-i)*2<=cur.size:=by rw[ag];omega
 refine aAf W c0 ?_
 have k1:((gu (s.n-i) xV).flatMap cO).length=(s.n-i)*2:=by rw[og fM,T5]
 have Ds:=KL cur (i*2) ((gu (s.n-i) xV).flatMap cO) (by rw[k1];omega)
 rw[k1] at Ds
 have Dd:(l.take i++gu (s.n-i) xV).length=l.length:=by simp;omega
 refine av _ (l.take i++gu (s.n-i) xV) ⟨⟨by rw[og fM,Dd,dM],.inr ⟨g,_,ay,bi _ _ _,ae,I,?_,?_⟩⟩,λb z aa=>?_,h.fresh⟩ ?_ Dd ?_
 rw[<-r0,Ds];simp[k1];omega
 rw[Ds,gZ]
 have rK:cur.toList.take (s.n*2)=l.flatMap cO:=ht
 have h1:cur.toList.take (i*2)=(l.take i).flatMap cO:=by rw[<-yT fM,<-rK,GN,BR (by omega)]
 have gC:((l.take i).flatMap cO).length=i*2:=by rw[og fM];simp;omega
 rw[h1,OW (by rw[eD,gC,k1];omega),gY (by rw[eD,gC,k1];omega)]
 have:b≠g:=λe=>by have:=h.fresh g (by simp[U.al,ay]);rw[e,this] at aa;cases aa
 rw[bq _ _ this];exact h.le b z aa
 rw[OW (by simp;omega),GN,T2]
 intro b z aa an
 rw[bq _ _ (λe=>an (by simp[U.al,ay,e]))];exact aa
def amO{aj ub:H}{fv:ao}{p:az->aD}{K:U->H->Prop}(ab:aK aj u 52 2 s (l.flatMap cO))(ad:QV ub fv p)(ci:ub.le u)(kq:∀b,s.al=some b->ub b=none)
  (av:∀au u',aK aj u' 52 2 au ((l.filter λx=>!p x).flatMap cO)->au.al=s.al->gS u u' s->K au u'):Qy s fv u K:=by
 have dM:s.n=l.length:=gU fM (by decide) ab.own.cI
 have xA:s.n<=9223372036854775807:=jo (bz.cap ab.own.cI) (bz.max ab.own.cI)
 apply aEL
 refine amP ab.own.cI ad ci (λi r Sr eg ky=>⟨λh=>by omega,λ_=>?_⟩) λeg=>⟨λ_=>?_,λh=>aV rfl h⟩
 have hi:i<l.length:=(iB.1 Sr).1
 have Yt:(l.take i).filter (λx=>!p x)=l.take i:=by rw[r6];intro a ay;obtain⟨k,hk,rfl⟩:=sE.1 ay;simp only[gq] at hk;rw[DR,eg k _ (by omega) (cy (by omega))];rfl
 refine⟨⟨by omega,by omega⟩,?_⟩
 refine⟨λa j v=>0<=a/\a<j/\j<=l.length/\gS u v s/\∃m:M az,m.length=l.length/\aK aj v 52 2 s (m.flatMap cO)/\m.take a.toNat=(l.take j.toNat).filter (λx=>!p x)/\m.drop j.toNat=l.drop j.toNat,
  λ_ j _=>l.length-j.toNat,⟨by omega,by omega,by omega,gS.refl _ _,l,rfl,ab,?_,rfl⟩,?_⟩
 rw[show((i:o)+1).toNat=i+1 by omega,zR,gJ,Sr]
 simp only[T7,zS,Yt,DV,ky]
 simp
 rintro a j v ⟨a0,cB,axm,eL,m,mT,oS,uM,MA⟩
 have aao:ub.le v:=λb z aa=>eL b z (ci b z aa) λe=>by rw[kq b e] at aa;cases aa
 refine⟨λkM=>?_,λfO=>?_⟩
 have MW:j.toNat<l.length:=by omega
 have MY:l[j.toNat]?=some l[j.toNat]:=cy MW
 have Ss:m[j.toNat]?=some l[j.toNat]:=by have:=eB (λY=>Y[0]?) MA;simp only[u5,T8] at this;rw[this,MY]
 obtain⟨q,aL,I⟩:=bz.elem fM (by decide) oS.own.cI Ss
 have bM:=I 0 _ rfl
 rw[Addr.add_zero'] at bM
 obtain⟨x,J⟩:∃x,x=l[j.toNat]:=⟨_,rfl⟩
 rw[<-J] at MY Ss bM I
 have Bi:(l.take (j.toNat+1)).filter (λx=>!p x)=m.take a.toNat++(if p x=ak then[] else[x]):=by rw[gJ,MY,uM];simp only[T7,zS,DV,List.filter_nil];cases p x<;>simp
 have MB:∀qU:M az,(∀k,a.toNat<k->qU[k]?=m[k]?)->qU.drop (j+1).toNat=l.drop (j+1).toNat:=λqU oQ=>by
  have e:l.drop (j+1).toNat=m.drop (j+1).toNat:=by rw[show(j+1).toNat=j.toNat+1 by omega,<-BQ,<-BQ,MA]
  rw[e];apply sB;intro k;rw[u5,u5,oQ _ (by omega)]
 refine⟨q,aL,⟨by omega,kM⟩,_,bM,_,I 1 _ rfl,ad x _ _ aao ⟨λaa=>?_,λaa=>?_⟩⟩
 have ZD:p x=ax:=by simpa using aa
 rw[ZD] at Bi
 refine⟨q,aL,⟨by omega,by omega⟩,?_⟩
 refine aK.store (enc:=cO) fM oS (by decide) (i:=a.toNat) (by omega) (y:=x) (by simp[cO,cK]) aL λcQ dP jk _=>⟨⟨by omega,by omega⟩,⟨by omega,by omega⟩,⟨by omega,by omega,by omega,λb z aa an=>jk b z (eL b z aa an) an,_,by simpa using mT,dP,?_,?_⟩,by dsimp only;omega⟩
 rw[show(j+1).toNat=j.toNat+1 by omega,Bi,show(a+1).toNat=a.toNat+1 by omega,gJ,zT (by omega),List.take_set_of_le (cC _)]
 simp
 exact MB _ λk hk=>va (by omega)
 rw[aa] at Bi
 refine⟨⟨by omega,by omega⟩,⟨by omega,by omega,by omega,eL,m,mT,oS,?_,MB m λ_ _=>rfl⟩,by dsimp only;omega⟩
 rw[show(j+1).toNat=j.toNat+1 by omega,Bi];simp
 have kM:j.toNat=l.length:=by have:¬j<(s.n:o):=fO;omega
 have iH:=bz.cap oS.own.cI
 rw[kM,oE] at uM
 refine o3 (P:=aH) kk (l:=a.toNat) (h:=s.n) (m:=s.c) (.inr (by rw[wz a0])) (.inl ⟨rfl,rfl⟩) (.inl ⟨rfl,rfl⟩) (by omega) iH (cC _) iH ?_
 refine oS.aqF (i:=a.toNat) (by omega) λcQ m2 dP h1 h2 jk=>?_
 refine o3 (P:=aH) kk (l:=0) (h:=a.toNat) (m:=s.c) (.inl ⟨rfl,rfl⟩) (.inr (by rw[wz a0])) (.inl ⟨rfl,rfl⟩) (by omega) (by omega) (cC _) iH ?_
 obtain⟨ac,AX,_⟩:=dP.front (m:=a.toNat) (by omega)
 have e:(m2.flatMap cO).take (a.toNat*2)=(l.filter λx=>!p x).flatMap cO:=by rw[yT fM,h1,uM]
 rw[e] at ac
 exact av _ _ ac AX λb z aa an=>jk b z (eL b z aa an) an
 have e:l.filter (λx=>!p x)=l:=r6.2 λa ay=>by rw[eg a ay];rfl
 exact av s u (by rw[e];exact ab) rfl (gS.refl _ _)
namespace bJ
mutual
def del(id:o):bJ->bJ
 | .mk aI bm hi cA rows kids=>.mk aI bm hi cA (rows.filter λx=>x.1 !=id) (Rk id kids)
def Rk(id:o):M bJ->M bJ
 | []=>[]|p::c7=>p.del id::Rk id c7
end
def afS(id:o):∀c7:M bJ,Rk id c7=c7.map (del id)
 | []=>rfl|p::c7=>by rw[Rk,afS id c7,gR]
def ind{P:bJ->Prop}(h:∀n,(∀k∈n.kids,P k)->P n):∀n,P n:=by intro n;exact bJ.rec (motive_1:=P) (motive_2:=λkz=>∀k∈kz,P k) (λ_ _ _ _ _ _ aM=>h _ aM) (λk hk=>(by cases hk)) (λn kz h1 h2 k hk=>by rcases cP.1 hk with rfl|hk;exact h1;exact h2 k hk) n
def del_eq(id:o)(p:bJ):p.del id=.mk p.aI p.bm p.hi p.cA (p.rows.filter λx=>x.1 !=id) (p.kids.map (del id)):=by cases p;rw[del,afS];rfl
def Xa(id:o)(p:bJ):(p.del id).all=p.all.filter λx=>x.1 !=id:=by
 induction p using ind with
 |h p aM=>
  rw[del_eq,all_eq,all_eq,zS];show(p.rows.filter λx=>x.1 !=id)++jY (p.kids.map (del id))=_;congr 1;rw[yF,yF,BZ];obtain⟨ks,po⟩:∃ks,ks=p.kids:=⟨_,rfl⟩;rw[<-po] at aM ⊢;clear po;induction ks with
  |nil=>rfl|cons k ks Ga=>rw[gI,gI,zS,aM k (gr ..),Ga λj aN=>aM j (gh _ aN)]
def afU{id d:o}(h:gx d p):gx d (p.del id):=by
 induction p using ind with
 |h p aM=>
  have h1:=h.jD;have h2:=h.ins;have h3:=h.kids;have O:(p.del id).hE []=p.hE []:=by rw[del_eq];rfl
  refine .mk ?_ (λx J=>?_) λk hk=>?_;rw[O];exact h1;rw[O];rw[Xa] at J;exact h2 x (iX.1 J).1;rw[del_eq] at hk;obtain⟨dV,dJ,rfl⟩:=bk.1 (show k∈p.kids.map (del id) from hk);exact aM dV dJ (h3 dV dJ)
def afV(id:o)(p:bJ):(p.del id).size=p.size:=by
 induction p using ind with
 |h p aM=>
  rw[del_eq,size_eq,size_eq];show 1+hF (p.kids.map (del id))=_;congr 1;obtain⟨ks,po⟩:∃ks,ks=p.kids:=⟨_,rfl⟩;rw[<-po] at aM ⊢;clear po;induction ks with
  |nil=>rfl|cons k ks Ga=>rw[gR,hF,hF,aM k (gr ..),Ga λj aN=>aM j (gh _ aN)]
end bJ
inductive lH(s:o):bJ->Prop where
 |mk {p:bJ} (aI:p.aI=s) (kids:∀k∈p.kids,lH s k):lH s p
def lH.aI{s:o}(h:lH s p):p.aI=s:=by cases h;assumption
def lH.kids{s:o}(h:lH s p):∀k∈p.kids,lH s k:=by cases h;assumption
def lH.del{s id:o}(h:lH s p):lH s (p.del id):=by
 induction p using bJ.ind with
 |h p aM=>rw[bJ.del_eq];refine .mk h.aI λk hk=>?_;obtain⟨dV,dJ,rfl⟩:=bk.1 (show k∈p.kids.map (bJ.del id) from hk);exact aM dV dJ (h.kids dV dJ)
def agv{α β:Type}{f:α->M β}:∀{ks:M α},(ks.flatMap f).Nodup->∀{i j:N} {a b:α} {c:β},ks[i]?=some a->ks[j]?=some b->i≠j->c∈f a->c∉f b:=by
 intro ks;induction ks with
 |nil=>intro _ i j a b c hi;simp at hi
 |cons k ks aM=>
  intro ae i j a b c hi aN an ay aa;rw[gI,fZ] at ae;obtain⟨_,h2,h3⟩:=ae;cases i with
  |zero=>
   cases j with
   |zero=>exact an rfl|succ j=>obtain rfl:=cX (show some k=some a from hi);exact h3 c ay c (ep.2 ⟨b,dB (show ks[j]?=some b from aN),aa⟩) rfl
  |succ i=>
   cases j with
   |zero=>obtain rfl:=cX (show some k=some b from aN);exact h3 c aa c (ep.2 ⟨a,dB (show ks[i]?=some a from hi),ay⟩) rfl
   |succ j=>exact aM h2 (show ks[i]?=some a from hi) (show ks[j]?=some b from aN) (by omega) ay aa
def US{h:ey}(I:u h.b=some (.cells (e2 h).toArray 213 (0,0)))(s:U)(rows:M az){f:H->Prop}
  (ac:f (u.ins h.b (.cells (e2 {h with bd:=s,rows:=rows}).toArray 213 (0,0)))):H.aO u ((cw h.b 0 none).add 6) [.slice s.a s.n s.c] f:=by
 exact⟨_,_,I,rfl,by simp[e2,iP],by simp[cK],ac⟩
structure HD(id:o)(n:aw)(u':H)(n':aw):Prop where
 one:∀x∈n'.bR,hT u' x
 own:n'.own=n.own
 b:n'.b=n.b
 bF:n'.bF=n.bF.del id
 rows:∀x∈n'.bR,∀r∈x.1.rows,∃y∈n.bR,r∈y.1.rows
def hp.mix{m:M az}{d:o}(h:hp l d)(ad:m.Perm l):hp m d:=
 ⟨h.aq,by rw[ad.length_eq];exact h.len,λr O=>h.id r (ad.mem_iff.1 O),(ad.map _).nodup_iff.2 h.nodup,λr O=>h.v r (ad.mem_iff.1 O)⟩
def abL{e k:N}{xs:M ao}(h:Own u e k s xs){g:N}(W:s.al=some g):u g≠none:=dL h.f W
end
section
open Go.Shelf Go.RowKit Go.Sort
def agu{α:Type}[lM α]{enc:α->M ao}{k:N}(rD:0<k)(hk:∀x,(enc x).length=k)(d:cv α):(flatK enc k d).toList=d.toList.flatMap enc:=by
 apply sB;intro i;rcases kB i (d.size*k) with hi|hi;have e:i=i/k*k+i%k:=by rw[T1];exact(Nat.div_add_mod i k).symm
 have ar:i/k<d.size:=Nat.div_lt_of_lt_mul (by rw[T1];exact hi);have O:i%k<k:=GV _ rD;have ac:=H5 hk d.toList (i/k) (i%k) O;rw[<-e] at ac;rw[ac];have:(flatK enc k d).toList[i]?=some ((flatK enc k d)[i]!):=by rw[BP,sD _ i (by simpa using hi),x3 (by simpa using hi)]
 rw[this,get_flatK _ _ _ _ hi];simp[ar];have h2:i%k<(enc d[i/k]).length:=by rw[hk];exact O
 rw[cy h2];rfl;rw[iO (by simpa using hi),iO (by rw[og hk];simpa using hi)]
def asj{P:dT}{f:jQ}{args:cv ao}{Y:o}{bD:cg}(h:hx P f args [.one (.int .i64)] (λb=>bD.heap[b]?) λfC u'=>fC=Y/\u'=λb=>bD.heap[b]?):
  Calls P f args bD λe w'=>e=.returned (.int .i64 Y)/\∃q OI,w'=grow (bD.drewN q) OI:=by
 refine(h bD (λb z e=>e)).mono ?_
 rintro e w' ⟨v,u',rfl,⟨vs,hk,rfl,I⟩,ag⟩
 cases hk with
 |cons x O=>cases O;have om:=(aE.ra (.int .i64) x _).1 I;obtain⟨J,hu⟩:x=Y/\u'=_:=om;subst J;subst hu;exact⟨rfl,ag.agH⟩
def amr{α:Type}[lM α]{cf:α->α->o}{d:cv α}(ag:SortedIn (ltOf cf) 0 d.size d):d.toList.Pairwise λa b=>¬cf b a<0:=by refine oF.2 λi j hi aN gV=>?_;have:=ag i j (q0 _) gV (by simpa using aN);simp only[r0] at hi aN;rw[sD d j aN,sD d i hi] at this;unfold ltOf at this;simpa using this
def aBy{α:Type}[lM α](val:α->az){g:jQ}{cf:α->α->o}(hO:SWO (ltOf cf))(mf:∀args w,(qW g args).run aH w=.ok (.enter g args) w)
  (Mx:∀a b (u:H),hx aH g #[.agg (cO (val a)).toArray,.agg (cO (val b)).toArray] [.one (.int .i64)] u λfC u'=>fC=cf a b/\u'=u)
  {aj u:H} {s:U} {l:M α} (ab:aK aj u 52 2 s ((l.map val).flatMap cO)) (gf:l.length<4611686018427387904) {K:H->Prop}
  (av:∀(u':H) (bE:M α),bE.Perm l->(bE.Pairwise λa b=>¬cf b a<0)->aK aj u' 52 2 s ((bE.map val).flatMap cO)->gS u u' s->K u'):aeH s (.func (.func g) #[] #[]) u K:=by
 intro w hw
 have dM:s.n=l.length:=by have:=gU fM (by decide) ab.own.cI;simpa using this
 rcases ab.own.is with h0|⟨b,cur,ay,W,hle,I,ag,ht⟩
 subst h0
 have ap:l=[]:=by have:l.length=0:=dM.symm;exact kS this
 subst ap
 refine(ach Tryz.amp none 0 _ w).mono ?_
 rintro e w' ⟨rfl,rfl⟩
 exact⟨_,u,rfl,⟨[],.nil,rfl,av u [] (Kf _) oZ ab (gS.refl _ _)⟩,Step.refl hw⟩
 have IA:∀m:M α,(m.map val).flatMap cO=m.flatMap λx=>cO (val x):=λm=>by rw[BZ]
 have hH:HoldsK (λx=>cO (val x)) 2 w b 0 l.toArray:=by
  intro j aN;simp only[size_flatK,ww] at aN;have ap:((l.map val).flatMap cO)[j]?=some ((flatK (λx=>cO (val x)) 2 l.toArray)[j]!):=by have:=agu (k:=2) (enc:=λx=>cO (val x)) (by decide) (λx=>fM _) l.toArray;simp only[] at this;rw[IA,<-this,BP,sD _ j (by simpa using aN),x3 (by simpa using aN)]
  constructor;rcases ab.own.cI.at' with h1|⟨p,ad,fP⟩;rw[h1] at ap;simp at ap;rw[ay] at ad;cases ad;have:=hw.cell (fP j _ ap);rw[iP,ki] at this;simpa using this;simp[GI,hw _ _ W]
 have tf:=AnyQ.slices_SortFunc Tryz.amp 2 (λw=>by kernel_rfl) (λw=>by kernel_rfl) (λx=>cO (val x)) (λx=>fM _) (λx=>Xp _) cf hO g #[] b 0 s.c l.toArray w mf
  (λm os AD _ x y=>by have:=agI (Mx x y) (sortWorldK (λx=>cO (val x)) 2 w b 0 m AD os);simpa using this) hH (hw.lt W) (by simpa using gf)
 simp only[ww] at tf
 change Calls aH 104 _ _ _ at tf
 unfold vs
 rw[ay,dM]
 refine tf.mono ?_
 rintro e w' ⟨rfl,gN,n,os,⟨gD,_,rH⟩,qO,rfl⟩
 simp only[ww] at gD
 have ib:gN.toList.Perm l:=by
  have aQ:gN.extract 0 l.length=gN:=by rw[<-gD];simp
  have aF:l.toArray.extract 0 l.length=l.toArray:=by simp
  rw[aQ,aF] at rH;simpa using rH
 obtain⟨bQ,he⟩:=ab.Ul ay W (F:=flatK (λx=>cO (val x)) 2 gN) (by rw[size_flatK,gD,dM])
 rw[agu (by decide) (λx=>fM _),<-IA] at bQ
 exact⟨_,_,rfl,⟨[],.nil,rfl,av _ gN.toList ib (amr (by rw[gD];exact qO)) bQ he⟩,UW hw W n _ os⟩
def aBx{α:Type}[lM α](val:α->o){g:jQ}{lT:cv ao}{cf:α->α->o}(hO:SWO (ltOf cf))(mf:∀args w,(qW g args).run aH w=.ok (.enter g args) w)
  {ub:H} (Mx:∀a b (v:H),ub.le v->hx aH g (#[.int .i64 (val a),.int .i64 (val b)]++lT) [.one (.int .i64)] v λfC u'=>fC=cf a b/\u'=v)
  {aj u:H} {s:U} {l:M α} (ci:ub.le u) (kq:∀b,s.al=some b->ub b=none) (ab:aK aj u 3 1 s ((l.map val).flatMap encI)) (gf:l.length<4611686018427387904) {K:H->Prop}
  (av:∀(u':H) (bE:M α),bE.Perm l->(bE.Pairwise λa b=>¬cf b a<0)->aK aj u' 3 1 s ((bE.map val).flatMap encI)->gS u u' s->K u'):aeG s (.func (.func g) #[] lT) u K:=by
 intro w hw
 have dM:s.n=l.length:=by have:=ab.ints.len;simpa using this
 rcases ab.own.is with h0|⟨b,cur,ay,W,hle,I,ag,ht⟩
 subst h0
 have ap:l=[]:=by have:l.length=0:=dM.symm;exact kS this
 subst ap
 refine(ach {Tryz.amo with} none 0 _ w).mono ?_
 rintro e w' ⟨rfl,rfl⟩
 exact⟨_,u,rfl,⟨[],.nil,rfl,av u [] (Kf _) oZ ab (gS.refl _ _)⟩,Step.refl hw⟩
 have uq:ub b=none:=kq b (by simp[U.al,ay])
 have hH:Holds (λx=>cJ .i64 (val x)) w b 0 l.toArray:=by
  intro j aN;have kL:j<l.length:=by simpa using aN
  have ap:((l.map val).flatMap encI)[j]?=some (.int .i64 (val l[j])):=by rw[yR];simp[kL]
  constructor;rcases ab.own.cI.at' with h1|⟨p,ad,fP⟩;rw[h1] at ap;simp at ap;rw[ay] at ad;cases ad;have:=hw.cell (fP j _ ap);rw[iP,ki] at this;rw[sD _ j (by simpa using kL)];simpa using this;simp[GI,hw _ _ W]
 have tf:=Any.slices_SortFunc Tryz.amo (λx:α=>cJ .i64 (val x)) (λx=>rfl) cf hO g lT b 0 s.c l.toArray w mf
  (λm os AD _ x y=>by
   refine asj (Mx x y _ λc z I=>?_);have kr:c≠b:=λe=>by rw[e,uq] at I;cases I
   have ajH:=hw _ _ (ci _ _ I);have bw:c<w.heap.size:=(x6.1 ajH).1;have MN:(vb w m).heap[b]?=some (.cells cur 3 (0,0)):=hw _ _ W;have h2:=(ahX (putCells (λx:α=>cJ .i64 (val x)) 0 AD) MN).2 c kr;show((mapBlock (vb w m) b (putCells (λx:α=>cJ .i64 (val x)) 0 AD)).heap++os)[c]?=_;have c0:(mapBlock (vb w m) b (putCells (λx:α=>cJ .i64 (val x)) 0 AD)).heap.size=w.heap.size:=by simp[mapBlock,vb]
   rw[ab7 (by rw[c0];exact bw),h2];exact ajH) hH (hw.lt W) (by simpa using gf)
 simp only[ww] at tf
 change Calls aH 175 _ _ _ at tf
 unfold vs
 rw[ay,dM]
 refine tf.mono ?_
 rintro e w' ⟨rfl,gN,n,os,⟨gD,_,rH⟩,qO,rfl⟩
 simp only[ww] at gD
 have ib:gN.toList.Perm l:=by
  have aQ:gN.extract 0 l.length=gN:=by rw[<-gD];simp
  have aF:l.toArray.extract 0 l.length=l.toArray:=by simp
  rw[aQ,aF] at rH;simpa using rH
 have ZL:putCells (λx:α=>cJ .i64 (val x)) 0 gN cur=putCells id 0 ((gN.toList.map val).map λx=>cJ .i64 x).toArray cur:=by unfold putCells;apply Array.ext;simp;intro i h1 h2;simp only[Array.getElem_mapIdx,ww,dj,r0,q0,true_and,ki,DP,id];split;rename_i hi;rw[sD _ i (by simpa using hi),sD _ i (by simpa using hi)];simp;rfl
 obtain⟨bQ,he⟩:=ab.Ul ay W (F:=((gN.toList.map val).map λx=>cJ .i64 x).toArray) (by simp[gD,dM])
 rw[<-ZL] at bQ he
 simp only[] at bQ
 rw[<-yR] at bQ
 exact⟨_,_,rfl,⟨[],.nil,rfl,av _ gN.toList ib (amr (by rw[gD];exact qO)) bQ he⟩,UW hw W n _ os⟩
end
section
variable{aj u v ub:H}{s:U}{l:M az}{fv:ao}{K:H->Prop}{a b:o}
def jI(aj u:H)(s:U)(l:M az)(v:H):Prop:=gS u v s/\∃m:M az,m.Perm l/\aK aj v 52 2 s (m.flatMap cO)
def K7(ub:H)(l:M az)(fv:ao):Prop:=∀(a b:az) (v:H) (K:o->H->Prop),a∈l->b∈l->ub.le v->(∀Y,K Y v)->h8 aH fv #[.agg #[.int .i64 a.id,.slice a.s.a a.s.n a.s.c],.agg #[.int .i64 b.id,.slice b.s.a b.s.n b.s.c]] [.one (.int .i64)] v K
def jI.base(h:jI aj u s l v)(ci:ub.le u)(kq:∀b,s.al=some b->ub b=none):ub.le v:=λc z I=>h.1 c z (ci c z I) λe=>by rw[kq c e] at I;cases I
def jI.len(h:jI aj u s l v):s.n=l.length:=by obtain⟨_,m,ad,ab⟩:=h;have:=gU fM (by decide) ab.own.cI;rw[ad.length_eq] at this;exact this
def jI.ED(h:jI aj u s l v){x y:o}(bK:0<=x)(dw:x<s.n)(hS:0<=y)(ij:y<s.n):∃p,s.a=some p/\∃a b:az,a∈l/\b∈l/\
  v.cell? (p.add (x.toNat*2))=some (.int .i64 a.id)/\v.cell? ((p.add (x.toNat*2)).add 1)=some (.slice a.s.a a.s.n a.s.c)/\v.cell? (p.add (y.toNat*2))=some (.int .i64 b.id)/\v.cell? ((p.add (y.toNat*2)).add 1)=some (.slice b.s.a b.s.n b.s.c)/\
  ∀f g:H->Prop,(∀b6,jI aj u s l b6->f b6)->(∀v1,H.aO v1 (p.add (y.toNat*2)) [.int .i64 a.id,.slice a.s.a a.s.n a.s.c] f->g v1)->H.aO v (p.add (x.toNat*2)) [.int .i64 b.id,.slice b.s.a b.s.n b.s.c] g:=by
 have dM:=h.len
 obtain⟨he,m,ad,ab⟩:=h
 have mT:=ad.length_eq
 have J:x.toNat<m.length:=by omega
 have ai:y.toNat<m.length:=by omega
 obtain⟨p,ke,I⟩:=bz.elem fM (by decide) ab.own.cI (cy J)
 obtain⟨rU,ai8,ar⟩:=bz.elem fM (by decide) ab.own.cI (cy ai)
 obtain rfl:rU=p:=by rw[ke] at ai8;exact(cX ai8).symm
 have pj:=I 0 _ rfl
 have C7:=ar 0 _ rfl
 rw[Addr.add_zero'] at pj C7
 refine⟨rU,ke,m[x.toNat],m[y.toNat],ad.mem_iff.1 (kD J),ad.mem_iff.1 (kD ai),pj,I 1 _ rfl,C7,ar 1 _ rfl,λf g ac W=>?_⟩
 refine aK.store (enc:=cO) fM ab (by decide) (i:=x.toNat) J (y:=m[y.toNat]) (by simp[cO,cK]) ke λv1 j1 vN _=>W v1 ?_
 refine aK.store (enc:=cO) fM j1 (by decide) (i:=y.toNat) (by rw[qZ];exact ai) (y:=m[x.toNat]) (by simp[cO,cK]) ke λv2 dP jk _=>ac v2 ⟨λc z I an=>jk c z (vN c z (he c z I an) an) an,_,?_,dP⟩
 refine BY ?_ ad
 rw[<-Hk J ai]
 exact Eb J ai
def Tp{x y:o}(J:0<=x)(ai:0<=y)(h:x+y<=4000000000):bY.wrap (ev (bo.wrap (x+y)) (2 ^ 1))=(x+y)/2:=by
 have aQ:bo.wrap (x+y)=x+y:=by show(x+y)%18446744073709551616=x+y;omega
 rw[aQ,acb _ (by decide)];exact J3 _ (by omega)
def adm{n:o}(h:jI aj u s l v)(gf:l.length<=1000000)(a0:0<=a)(fA:0<=b)(ay:a+n<=s.n)(aa:b+n<=s.n)(av:∀b6,jI aj u s l b6->K b6):K1 s a b n fv v K:=by have dM:=h.len;apply aEW;refine⟨λi w=>0<=i/\jI aj u s l w,λi _=>(n-i).toNat,⟨by omega,h⟩,?_⟩;rintro i w ⟨i0,hw⟩;refine⟨λhi=>?_,λ_=>av w hw⟩;obtain⟨p,ad,x,y,_,_,bM,c1,d0,d1,dY⟩:=hw.ED (x:=a+i) (y:=b+i) (by omega) (by omega) (by omega) (by omega);refine⟨⟨by omega,by omega⟩,⟨by omega,by omega⟩,⟨by omega,by omega⟩,p,ad,⟨by omega,by omega⟩,⟨by omega,by omega⟩,p,ad,⟨by omega,by omega⟩,_,d0,_,d1,_,bM,_,c1,p,ad,⟨by omega,by omega⟩,?_⟩;exact dY _ _ (λb6 gE=>⟨⟨by omega,by omega⟩,⟨by omega,gE⟩,by dsimp only;omega⟩) λv1 h1=>⟨p,ad,⟨by omega,by omega⟩,h1⟩
def aBn{m:o}(h:jI aj u s l v)(gf:l.length<=1000000)(a0:0<=a)(ahs:a<m)(aiF:m<b)(aa:b<=s.n)(av:∀b6,jI aj u s l b6->K b6):V2 s a m b fv v K:=by have dM:=h.len;apply aEU;refine⟨⟨by omega,by omega⟩,⟨by omega,by omega⟩,λi j w=>0<i/\i<=m-a/\0<j/\j<=b-m/\jI aj u s l w,λi j _=>(i+j).toNat,⟨by omega,by omega,by omega,by omega,h⟩,?_⟩;rintro i j w ⟨i0,i1,gF,kO,hw⟩;refine⟨λan=>⟨λbw=>⟨⟨by omega,by omega⟩,?_⟩,λbw=>⟨⟨by omega,by omega⟩,⟨by omega,by omega⟩,⟨by omega,by omega⟩,?_⟩⟩,λhe=>⟨⟨by omega,by omega⟩,?_⟩⟩;exact adm hw gf (by omega) (by omega) (by omega) (by omega) λb6 gE=>⟨⟨by omega,by omega⟩,⟨by omega,by omega,by omega,by omega,gE⟩,by dsimp only;omega⟩;exact adm hw gf (by omega) (by omega) (by omega) (by omega) λb6 gE=>⟨⟨by omega,by omega⟩,⟨by omega,by omega,by omega,by omega,gE⟩,by dsimp only;omega⟩;exact adm hw gf (by omega) (by omega) (by omega) (by omega) av
def amI(ci:ub.le u)(kq:∀b,s.al=some b->ub b=none)(I:K7 ub l fv)(h:jI aj u s l v)(gf:l.length<=1000000)(a0:0<=a)(um:a<=2000000)(aa:b<=s.n)(av:∀b6,jI aj u s l b6->K b6):QB s a b fv v K:=by have dM:=h.len;apply aET;refine⟨⟨by omega,by omega⟩,λi w=>a<i/\jI aj u s l w,λi _=>(b-i).toNat,⟨by omega,h⟩,?_⟩;rintro i w ⟨i0,hw⟩;refine⟨λhi=>?_,λ_=>av w hw⟩;refine⟨λj w=>a<=j/\j<=i/\jI aj u s l w,λj _=>(j-a).toNat,⟨by omega,by omega,hw⟩,?_⟩;rintro j w ⟨gF,kO,hw⟩;intro aeX mg;have next:∀{Y:H},jI aj u s l Y->bh (i+1)/\(a<i+1/\jI aj u s l Y)/\(b-(i+1)).toNat<(b-i).toNat:=λaC=>⟨⟨by omega,by omega⟩,⟨by omega,aC⟩,by omega⟩;refine⟨λaN=>?_,λ_=>next hw⟩;obtain⟨p,ad,x,y,J,ai,bM,c1,d0,d1,dY⟩:=hw.ED (x:=j) (y:=j-1) (by omega) (by omega) (by omega) (by omega);refine⟨p,ad,⟨by omega,by omega⟩,⟨by omega,by omega⟩,p,ad,⟨by omega,by omega⟩,_,bM,_,c1,_,d0,_,d1,?_⟩;refine I x y w _ J ai (hw.base ci kq) λY=>⟨λ_=>mg _ ?_,λ_=>next hw⟩;refine⟨⟨by omega,by omega⟩,⟨by omega,by omega⟩,p,ad,⟨by omega,by omega⟩,p,ad,⟨by omega,by omega⟩,_,d0,_,d1,_,bM,_,c1,p,ad,⟨by omega,by omega⟩,?_⟩;exact dY _ _ (λb6 gE=>⟨⟨by omega,by omega⟩,⟨by omega,by omega,gE⟩,by dsimp only;omega⟩) λv1 h1=>⟨p,ad,⟨by omega,by omega⟩,h1⟩
def amS(ci:ub.le u)(kq:∀b,s.al=some b->ub b=none)(I:K7 ub l fv)(gf:l.length<=1000000):∀(di:N) {a m b:o} {v:H} {K:H->Prop},b-a<=di->jI aj u s l v->0<=a->a<m->m<b->b<=s.n->(∀b6,jI aj u s l b6->K b6)->Hz s a m b fv v K:=by
 intro di;induction di with
 |zero=>intro a m b v K eP h a0 ahs aiF aa av;omega
 |succ di aM=>
  intro a m b v K eP h a0 ahs aiF aa av;have dM:=h.len;apply aEX;refine⟨⟨by omega,by omega⟩,λh1=>?_,λh1=>⟨⟨by omega,by omega⟩,λh2=>?_,λh2=>?_⟩⟩;refine⟨λi j w=>m<=i/\i<=j/\j<=b/\jI aj u s l w,λi j _=>(j-i).toNat,⟨by omega,by omega,by omega,h⟩,?_⟩;rintro i j w ⟨i0,aj1,kO,hw⟩;refine⟨λgV=>⟨⟨by omega,by omega⟩,by decide,?_⟩,λgV=>?_⟩;rw[Tp (by omega) (by omega) (by omega)];obtain⟨c,lX⟩:∃c,c=(i+j)/2:=⟨_,rfl⟩;rw[<-lX];obtain⟨p,ad,x,y,J,ai,bM,c1,d0,d1,_⟩:=hw.ED (x:=c) (y:=a) (by omega) (by omega) (by omega) (by omega);refine⟨p,ad,⟨by omega,by omega⟩,p,ad,⟨by omega,by omega⟩,_,bM,_,c1,_,d0,_,d1,?_⟩;refine I x y w _ J ai (hw.base ci kq) λY=>⟨λ_=>⟨⟨by omega,by omega⟩,⟨by omega,by omega,by omega,hw⟩,by dsimp only;omega⟩,λ_=>⟨⟨by omega,by omega,by omega,hw⟩,by dsimp only;omega⟩⟩;refine⟨λk w=>a<=k/\jI aj u s l w,λk _=>(i-k).toNat,⟨by omega,hw⟩,?_⟩;rintro k w ⟨jz,hw⟩;refine⟨⟨by omega,by omega⟩,λhk=>?_,λ_=>av w hw⟩;obtain⟨p,ad,x,y,J,ai,bM,c1,d0,d1,dY⟩:=hw.ED (x:=k) (y:=k+1) (by omega) (by omega) (by omega) (by omega);refine⟨⟨by omega,by omega⟩,⟨by omega,by omega⟩,p,ad,⟨by omega,by omega⟩,p,ad,⟨by omega,by omega⟩,_,d0,_,d1,_,bM,_,c1,p,ad,⟨by omega,by omega⟩,?_⟩;exact dY _ _ (λb6 gE=>⟨⟨by omega,by omega⟩,⟨by omega,gE⟩,by dsimp only;omega⟩) λv1 h1=>⟨p,ad,⟨by omega,by omega⟩,h1⟩;refine⟨λi j w=>a<=i/\i<=j/\j<=m/\jI aj u s l w,λi j _=>(j-i).toNat,⟨by omega,by omega,by omega,h⟩,?_⟩;rintro i j w ⟨i0,aj1,kO,hw⟩;refine⟨λgV=>⟨⟨by omega,by omega⟩,by decide,?_⟩,λgV=>?_⟩;rw[Tp (by omega) (by omega) (by omega)];obtain⟨c,lX⟩:∃c,c=(i+j)/2:=⟨_,rfl⟩;rw[<-lX];obtain⟨p,ad,x,y,J,ai,bM,c1,d0,d1,_⟩:=hw.ED (x:=m) (y:=c) (by omega) (by omega) (by omega) (by omega);refine⟨p,ad,⟨by omega,by omega⟩,p,ad,⟨by omega,by omega⟩,_,bM,_,c1,_,d0,_,d1,?_⟩;refine I x y w _ J ai (hw.base ci kq) λY=>⟨λ_=>⟨⟨by omega,by omega⟩,⟨by omega,by omega,by omega,hw⟩,by dsimp only;omega⟩,λ_=>⟨⟨by omega,by omega,by omega,hw⟩,by dsimp only;omega⟩⟩;refine⟨λk w=>k<=m/\jI aj u s l w,λk _=>(k-i).toNat,⟨by omega,hw⟩,?_⟩;rintro k w ⟨jz,hw⟩;refine⟨λhk=>?_,λ_=>av w hw⟩;obtain⟨p,ad,x,y,J,ai,bM,c1,d0,d1,dY⟩:=hw.ED (x:=k) (y:=k-1) (by omega) (by omega) (by omega) (by omega);refine⟨⟨by omega,by omega⟩,⟨by omega,by omega⟩,p,ad,⟨by omega,by omega⟩,p,ad,⟨by omega,by omega⟩,_,d0,_,d1,_,bM,_,c1,p,ad,⟨by omega,by omega⟩,?_⟩;exact dY _ _ (λb6 gE=>⟨⟨by omega,by omega⟩,⟨by omega,gE⟩,by dsimp only;omega⟩) λv1 h1=>⟨p,ad,⟨by omega,by omega⟩,h1⟩;rw[Tp (by omega) (by omega) (by omega)];obtain⟨fe,vV⟩:∃fe,fe=(a+b)/2:=⟨_,rfl⟩;rw[<-vV];refine⟨⟨by omega,by omega⟩,by decide,⟨by omega,by omega⟩,?_⟩;intro ao7 asx;have body:∀s0 pG:o,a<=s0->s0<=pG->pG<=m->pG<=fe->fe+m-b<=s0->(m<=fe∨fe=pG)->ao7 s0 pG v:=by
   intro s0 pG cV dc dh fL qb GD;refine asx s0 pG v ⟨⟨by omega,by omega⟩,λi j w=>s0<=i/\i<=j/\j<=pG/\jI aj u s l w,λi j _=>(j-i).toNat,⟨by omega,by omega,by omega,h⟩,?_⟩;rintro i j w ⟨i0,aj1,kO,hw⟩;refine⟨λgV=>⟨⟨by omega,by omega⟩,by decide,?_⟩,λgV=>⟨⟨by omega,by omega⟩,?_⟩⟩;rw[Tp (by omega) (by omega) (by omega)];obtain⟨c,lX⟩:∃c,c=(i+j)/2:=⟨_,rfl⟩;rw[<-lX];obtain⟨p,ad,x,y,J,ai,bM,c1,d0,d1,_⟩:=hw.ED (x:=fe+m-1-c) (y:=c) (by omega) (by omega) (by omega) (by omega);refine⟨⟨by omega,by omega⟩,p,ad,⟨by omega,by omega⟩,p,ad,⟨by omega,by omega⟩,_,bM,_,c1,_,d0,_,d1,?_⟩;refine I x y w _ J ai (hw.base ci kq) λY=>⟨λ_=>⟨⟨by omega,by omega⟩,⟨by omega,by omega,by omega,hw⟩,by dsimp only;omega⟩,λ_=>⟨⟨by omega,by omega,by omega,hw⟩,by dsimp only;omega⟩⟩;intro ao8 asC;have fin:∀Y,jI aj u s l Y->ao8 Y:=by
    intro Y aC;refine asC Y ?_;intro Wu CZ;have Xy:∀Y,jI aj u s l Y->Wu Y:=by intro Y aC;refine CZ Y ⟨λaQ=>⟨λaF=>?_,λ_=>av Y aC⟩,λ_=>av Y aC⟩;exact aM (by omega) aC (by omega) (by omega) (by omega) (by omega) av
    refine⟨λaQ=>⟨λaF=>?_,λ_=>Xy Y aC⟩,λ_=>Xy Y aC⟩;exact aM (by omega) aC (by omega) (by omega) (by omega) (by omega) Xy
   refine⟨λaQ=>⟨λaF=>?_,λ_=>fin w hw⟩,λ_=>fin w hw⟩;exact aBn hw gf (by omega) (by omega) (by omega) (by omega) fin
  refine⟨λbw=>⟨⟨by omega,by omega⟩,body _ _ (by omega) (by omega) (by omega) (by omega) (by omega) (by omega)⟩,λfO=>body _ _ (by omega) (by omega) (by omega) (by omega) (by omega) (by omega)⟩
def amR(ab:aK aj u 52 2 s (l.flatMap cO))(ci:ub.le u)(kq:∀b,s.al=some b->ub b=none)(I:K7 ub l fv)(gf:l.length<=1000000)
  (av:∀(u':H) (m:M az),m.Perm l->aK aj u' 52 2 s (m.flatMap cO)->gS u u' s->K u'):QA s fv u K:=by
 have h:jI aj u s l u:=⟨gS.refl _ _,l,.refl _,ab⟩
 have dM:=h.len
 have fin:∀v,jI aj u s l v->K v:=λv ⟨he,m,ad,ab⟩=>av v m ad ab he
 apply aER
 apply aEV
 refine⟨λa b w=>0<=a/\a<=s.n/\b=a+20/\jI aj u s l w,λa _ _=>((s.n:o)-a).toNat,⟨by omega,by omega,by omega,h⟩,?_⟩
 rintro a b w ⟨a0,Z,aa,hw⟩
 refine⟨λhle=>?_,λuy=>?_⟩
 exact amI ci kq I hw gf (by omega) (by omega) (by omega) λb6 gE=>⟨⟨by omega,by omega⟩,⟨by omega,by omega,by omega,gE⟩,by dsimp only;omega⟩
 refine amI ci kq I hw gf (by omega) (by omega) (by omega) λb6 gE=>?_
 refine⟨λ_ _ k w=>20<=k/\k<=4000000/\jI aj u s l w,λ_ _ k _=>(4000000-k).toNat,⟨by omega,by omega,gE⟩,?_⟩
 rintro _ _ k w ⟨jz,cq,hw⟩
 refine⟨λhk=>⟨⟨by omega,by omega⟩,?_⟩,λ_=>fin w hw⟩
 refine⟨λx y w=>0<=x/\x<=s.n/\y=x+2*k/\jI aj u s l w,λx _ _=>((s.n:o)-x).toNat,⟨by omega,by omega,by omega,hw⟩,?_⟩
 rintro x y w ⟨bK,dw,ai,hw⟩
 refine⟨λhle=>⟨⟨by omega,by omega⟩,?_⟩,λuy=>⟨⟨by omega,by omega⟩,λhm=>?_,λ_=>⟨⟨by omega,by omega⟩,⟨by omega,by omega,hw⟩,by dsimp only;omega⟩⟩⟩
 exact amS ci kq I gf (y-x).toNat (by omega) hw (by omega) (by omega) (by omega) (by omega) λb6 gE=>⟨⟨by omega,by omega⟩,⟨by omega,by omega⟩,⟨by omega,by omega,by omega,gE⟩,by dsimp only;omega⟩
 exact amS ci kq I gf ((s.n:o)-x).toNat (by omega) hw (by omega) (by omega) (by omega) (by omega) λb6 gE=>⟨⟨by omega,by omega⟩,⟨by omega,by omega,gE⟩,by dsimp only;omega⟩
end
