/- Texts of mine, joined and packed by pack.py. -/
import Derived.Test.YtejdhbfjjgcljaaGreatDoorMrb4
import Derived.Shelf.SlSortCmp.WholeK
import Derived.Shelf.SlSortCmp.Whole1
import Derived.Shelf.SortG.Plain
import Derived.Shelf.SortG.SortNone
import Derived.Shelf.SlGeneric
import Derived.Shelf.Spec.TrailingZeros
import Derived.Test.YtejdhbfjjgcljaaGreatDoorProg
import Derived.Shelf.SlSortCmp.NoneTotal
import Derived.RangeFuncIn
import Derived.OrdersIn
import Derived.SizedLaws
import Derived.Deep.Slices
import Derived.ChangeSame
import Derived.ChangeOld
import Derived.OpenShut
import Derived.ProofKit
import Derived.WalkKit
import Derived.JoinedOf
set_option linter.all false
open Go renaming Program->dT,Value->ao,World->cg,TypeId->dF,FuncId->jQ,Addr->bc,Act->eo,Oper->eN,callFunc->qW,Exit->kR,Code->jg,reachBytes->q1
open _root_ renaming Nat->N,List->M,Option->aA,Array->cv,Int->o,Bool->aD,False->ed,absurd->aV,Inhabited->lM
open Bool renaming true->ak,false->ax
open Nat renaming beq->jB
open Go.Obj renaming cells->bj,deferred->u9
open Go.Fence renaming wide->u2
open Go.Made renaming depth->u3
open Go.Instr renaming buildSlice->dI,typeAssert->tE
open Go.Builtin renaming append_->ee
open Go.World renaming frozen?->GI
open Go.Result renaming andThen->jf
open List renaming range->lz,zipWith->lA,drop->J9
open Array renaming replicate->DL
open Go.Exit renaming noConfusion->r1,normal->sF
open Go.Proofs.Tryz renaming prog->aH
open Go.Value renaming int->cJ,pointer->hn,slice->ea,oneCell'->cK
open Int renaming tmod->k8,tdiv->ff
open List.Perm renaming cons->j3
open Go.Addr renaming mk->cw
open Go.Sort renaming ahead->vb
open Go.LoopState renaming busy->TX
open Go.DataW renaming weightsAll->GW,trod->qg,weights->GX
set_option maxRecDepth 100000
noncomputable section
namespace Go.Proofs.YtejdhbfjjgcljaaGreatDoor
open H
def ach:=@Go.Proofs.AnyF.slices_SortFunc_none
def aci:=@Go.Proofs.run_loadCellsFrom_list
def ya:=@Go.wpIn_mono
def O3:=@Go.Code.wpIn_mono
def J6:=@Go.World.alloc_heap_new
def acj:=@Go.roundIn_of_wpIn
def ack:=@Go.run_enterLoop_outer
def yb:=@Go.Proofs.Tryz.underlying3
def J8:=@Go.Value.slice.injEq
def TZ:=@Go.Proofs.Tryz.underlying52
def yc:=@Go.DataW.trod_int
open _root_.Go.Proofs.Tryz
section
variable{j n i k:N}{u:H}
def ans:kI aH 38=some (68,3,24,[.int .i64 0,.int .u64 0,.int .u64 0]):=by kernel_rfl
def ap6(x y Y:o):kH aH 38 1 #[(0,.agg #[.int .i64 x,.int .u64 y,.int .u64 Y])]=some (68,[.int .i64 x,.int .u64 y,.int .u64 Y]):=by kernel_rfl
def aK.nf{aj:H}{e:N}{s:U}{xs:M ao}(h:aK aj u e k s xs)(ae:u n=none)(z:Obj):aK (aj.ins n z) (u.ins n z) e k s xs:=by
 refine⟨h.own.le λb x _ aa=>bZ _ ae _ _ aa,λb x aa=>?_,λg W=>?_⟩;unfold H.ins at aa ⊢;split at aa;rename_i fo;rw[a1 fo];exact aa;rename_i fo;rw[aG fo];exact h.le b x aa;rcases h.own.is with h0|⟨b2,cur,ay,ca,_⟩;rw[h0] at W;simp[U.al] at W;have:b2=g:=by simpa[U.al,ay] using W
 subst this;rw[bq _ _ (λp2=>by rw[p2,ae] at ca;cases ca)];exact h.fresh b2 W
def H.le.none{u':H}(h:u.le u')(ae:u' n=none):u n=none:=by
 cases J:u n with
 |none=>rfl|some z=>rw[h _ _ J] at ae;cases ae
def nh{zs vs:M ao}{T:dF}{f:H->Prop}(ap:zs.length=vs.length)(h1:∀v∈vs,v.oneCell'=ak)(ac:f (u.ins n (.cells vs.toArray T (0,0)))):
  H.aO (u.ins n (.cells zs.toArray T (0,0))) ⟨n,0,none⟩ vs f:=by
 refine⟨zs.toArray,T,bi _ _ _,rfl,by simp[ap],h1,?_⟩
 rw[S8]
 have:wr zs.toArray 0 vs=vs.toArray:=by have:=KL zs.toArray 0 vs (by simp[ap]);simp only[OZ,nQ,ki] at this;rw[sC (by simp[ap])] at this;apply JQ;rw[this];simp
 show f (u.ins n (.cells (wr zs.toArray 0 vs) T (0,0)))
 rw[this];exact ac
def amd{α:Type}(A:M α)(Y y:α)(B:M α):(A++Y::B).set A.length y=A++y::B:=by
 induction A with
 |nil=>rfl|cons a A aM=>simp[aM]
def aK.fq{aj:H}{e:N}{s:U}{l:M bP}(h:aK aj u e 3 s (l.flatMap fX)):lP u s l:=h.own.cI
def agy(l:M bP)(h:bP):l.flatMap fX++ [.int .i64 h.1,.int .u64 (cZ h.2),.int .u64 (c5 h.2)]=(l++ [h]).flatMap fX:=by simp[fX]
def jU{α:Type}(l:M α)(i j:N):M α:=
 match l[i]?,l[j]? with
 |some a,some b=>(l.set i b).set j a|_,_=>l
def Hk{α:Type}{l:M α}(hi:i<l.length)(aN:j<l.length):jU l i j=(l.set i l[j]).set j l[i]:=by simp[jU,hi,aN]
def pK{α:Type}(l:M α)(i j:N):(jU l i j).length=l.length:=by unfold jU;split<;>simp
def Eb{α:Type}{l:M α}(hi:i<l.length)(aN:j<l.length):(jU l i j).Perm l:=by rw[Hk hi aN];exact List.set_set_perm hi aN
def aCc{α:Type}{l:M α}(hi:i<l.length)(aN:j<l.length)(hk:k<l.length):
  (jU l i j)[k]?=if k=j then some l[i] else if k=i then some l[j] else some l[k]:=by
 rw[Hk hi aN]
 simp only[zK,qZ]
 by_cases h1:j=k
 subst h1;simp[aN]
 by_cases h2:i=k
 subst h2;simp[h1,hi,dG h1]
 simp[h1,h2,dG h1,dG h2,hk]
structure pb{α:Type}(lt:α->α->aD):Prop where
 asymm:∀a b,lt a b=ak->lt b a=ax
 trans:∀a b c,lt b a=ax->lt c b=ax->lt c a=ax
variable {α:Type} [lM α] {lt:α->α->aD}
abbrev dk(i:N):N:=(i-1)/2
def iR(lt:α->α->aD)(n:N)(l:M α):Prop:=∀i,0<i->i<n->lt (l.getD i default) (l.getD (dk i) default)=ax
structure Ar(lt:α->α->aD)(l:M α)(j:N):Prop where
 aj5:j<l.length
 others:∀i,0<i->i<l.length->i≠j->lt (l.getD i default) (l.getD (dk i) default)=ax
 over:∀i,0<i->i<l.length->dk i=j->0<j->lt (l.getD i default) (l.getD (dk j) default)=ax
def Ea{l:M α}(hi:i<l.length)(aN:j<l.length)(hk:k<l.length):
  (jU l i j).getD k default=if k=j then l.getD i default else if k=i then l.getD j default else l.getD k default:=by
 rw[dm,aCc hi aN hk]
 (repeat' split)<;>simp[hi,aN,hk]
def Ar.done{l:M α}(h:Ar lt l j)(ar:j=0∨lt (l.getD j default) (l.getD (dk j) default)=ax):iR lt l.length l:=by intro i h0 hi;by_cases gV:i=j;subst gV;rcases ar with h|h;omega;exact h;exact h.others i h0 hi gV
def Ar.step(c6:pb lt){l:M α}(h:Ar lt l j)(aN:0<j)(ap:lt (l.getD j default) (l.getD (dk j) default)=ak):Ar lt (jU l (dk j) j) (dk j):=by
 have kM:=h.aj5;have lm:dk j<j:=by unfold dk;omega
 have hlen:=pK l (dk j) j;have g:∀k,k<l.length->(jU l (dk j) j).getD k default=if k=j then l.getD (dk j) default else if k=dk j then l.getD j default else l.getD k default:=
  λk hk=>Ea (by omega) kM hk
 refine⟨by omega,?_,?_⟩;intro i h0 hi an;rw[hlen] at hi;have zi:dk i<i:=by unfold dk;omega
 rw[g i hi,g (dk i) (by omega)];by_cases gV:i=j;subst gV;rw[a1 rfl,aG (by omega),a1 rfl];exact c6.asymm _ _ ap;rw[aG gV,aG an];by_cases ZE:dk i=j;rw[a1 ZE];exact h.over i h0 hi ZE aN;rw[aG ZE];by_cases ke:dk i=dk j;rw[a1 ke];have:=h.others i h0 hi gV;rw[ke] at this;exact c6.trans _ _ _ (c6.asymm _ _ ap) this;rw[aG ke];exact h.others i h0 hi gV;intro i h0 hi zi IZ;rw[hlen] at hi;have aHw:dk (dk j)<dk j:=by unfold dk at*;omega
 have aG3:dk i<i:=by unfold dk;omega
 rw[g i hi,g (dk (dk j)) (by omega),aG (by omega:¬dk (dk j)=j),aG (by omega:¬dk (dk j)=dk j)];have ke:=h.others (dk j) IZ (by omega) (by omega);by_cases gV:i=j;rw[a1 gV];exact ke;rw[aG gV,aG (by omega)];have:=h.others i h0 hi gV;rw[zi] at this;exact c6.trans _ _ _ ke this
structure wX(lt:α->α->aD)(n:N)(l:M α)(j:N):Prop where
 le:n<=l.length
 others:∀i,0<i->i<n->dk i≠j->lt (l.getD i default) (l.getD (dk i) default)=ax
 over:∀i,0<i->i<n->dk i=j->0<j->lt (l.getD i default) (l.getD (dk j) default)=ax
def wX.done{l:M α}(h:wX lt n l j)(ar:∀i,0<i->i<n->dk i=j->lt (l.getD i default) (l.getD j default)=ax):iR lt n l:=by intro i h0 hi;by_cases gV:dk i=j;rw[gV];exact ar i h0 hi gV;exact h.others i h0 hi gV
def wX.step(c6:pb lt){l:M α}{c:N}(h:wX lt n l j)(pj:0<c)(I:c<n)(R6:dk c=j)(ap:lt (l.getD c default) (l.getD j default)=ak)
  (hm:∀i,0<i->i<n->dk i=j->lt (l.getD i default) (l.getD c default)=ax):wX lt n (jU l j c) c:=by
 have ae:=h.le
 have aG7:j<c:=by rw[<-R6];unfold dk;omega
 have hlen:=pK l j c
 have g:∀k,k<l.length->(jU l j c).getD k default=if k=c then l.getD j default else if k=j then l.getD c default else l.getD k default:=
  λk hk=>Ea (by omega) (by omega) hk
 refine⟨by omega,?_,?_⟩
 intro i h0 hi an
 have zi:dk i<i:=by unfold dk;omega
 rw[g i (by omega),g (dk i) (by omega),aG an]
 by_cases MQ:i=c
 subst MQ
 rw[a1 rfl,a1 R6]
 exact c6.asymm _ _ ap
 rw[aG MQ]
 by_cases gV:i=j
 subst gV
 rw[a1 rfl,aG (by omega)]
 have:=h.over c pj I R6 h0
 exact this
 rw[aG gV]
 by_cases IZ:dk i=j
 rw[a1 IZ];exact hm i h0 hi IZ
 rw[aG IZ];exact h.others i h0 hi IZ
 intro i h0 hi zi _
 have aHv:dk i<i:=by unfold dk;omega
 rw[g i (by omega),g (dk c) (by omega),aG (by omega:¬i=c),aG (by omega:¬i=j),R6,aG (by omega:¬j=c),a1 rfl]
 have:=h.others i h0 hi (by omega)
 rw[zi] at this
 exact this
def iR.root(c6:pb lt){l:M α}(h:iR lt n l):∀i,i<n->lt (l.getD i default) (l.getD 0 default)=ax:=by
 intro i;induction i using Nat.strongRecOn with
 |_ i aM=>
  intro hi;by_cases h0:i=0;subst h0;cases e:lt (l.getD 0 default) (l.getD 0 default) with
  |false=>rfl|true=>have:=c6.asymm _ _ e;rw[e] at this;cases this
  have ad:dk i<i:=by unfold dk;omega
  exact c6.trans _ _ _ (aM (dk i) ad (by omega)) (h i (by omega) hi)
end
section
variable{u:H}{K:H->Prop}
def aGc(cr:cv dF)(t:dF)(p:bc)(a b:ByteArray):Builtin.ssaWrapNilChk_ cr t #[.pointer (some p),.string a,.string b]=pure (.pointer (some p)):=rfl
def acM{P:dT}{gb:N}{t e:dF}{i:TypeInfo}{name:String}{m:Method}{f:jQ}(hi:P.info? t=some i)(hm:i.methods.find? (·.name==name)=some m)(ad:m.path=#[])
  (ac:m.func=some (f,ax)) (hu:P.underlying t=some (.pointer e)) {p:bc} {v:ao} {w:cg} (ap:(loadVar e p).run P w=.ok v w):
  (method (gb+1) t (.pointer (some p)) name).run P w=.ok (f,v) w:=by
 unfold method
 simp[eW,typeInfo,hi,jf,hm,ad,ac,follow,receiverAt,ir hu,Place.get,aGc,strVal,asAddr,ap]
def Km{P:dT}{gb:N}{t e:dF}{i:TypeInfo}{name:String}{m:Method}{f:jQ}(hi:P.info? t=some i)(hm:i.methods.find? (·.name==name)=some m)(ad:m.path=#[])
  (ac:m.func=some (f,ak)) (hu:P.underlying t=some (.pointer e)) {p:aA bc} {w:cg}:
  (method (gb+1) t (.pointer p) name).run P w=.ok (f,.pointer p) w:=by
 unfold method
 simp[eW,typeInfo,hi,jf,hm,ad,ac,follow,receiverAt,ir hu,Place.get]
def anq{α:Type}{l:M α}{i j k:N}(hi:i≠k)(aN:j≠k):(jU l i j)[k]?=l[k]?:=by unfold jU;split;rw[va aN,va hi];rfl
structure vr{α:Type}[lM α](recv:ao)(aO:H->M α->Prop)(lt:α->α->aD):Prop where
 len:∀{u l} {K:o->H->Prop},aO u l->K (l.length:o) u->nn aH recv "Len" #[] [.one (.int .i64)] u K
 less:∀{u l} {i j:o} {K:aD->H->Prop},aO u l->0<=i->i<l.length->0<=j->j<l.length->K (lt (l.getD i.toNat default) (l.getD j.toNat default)) u->
  nn aH recv "Less" #[.int .i64 i,.int .i64 j] [.one .bool] u K
 swap:∀{u l} {i j:o} {K:H->Prop},aO u l->0<=i->i<l.length->0<=j->j<l.length->(∀u',aO u' (jU l i.toNat j.toNat)->K u')->
  nn aH recv "Swap" #[.int .i64 i,.int .i64 j] [] u K
 small:∀{u l},aO u l->l.length<=1099511627776
section
variable {α:Type} [lM α] {recv:ao} {aO:H->M α->Prop} {lt:α->α->aD}
def amx(dt:vr recv aO lt)(L:pb lt){l:M α}{j:o}(ag:aO u l)(h0:0<=j)(hu:Ar lt l j.toNat)
  (av:∀u' bE,aO u' bE->bE.Perm l->iR lt bE.length bE->K u'):KW recv j u K:=by
 have gf:=dt.small ag
 apply an6
 refine⟨λx v=>0<=x/\∃bE,aO v bE/\bE.Perm l/\Ar lt bE x.toNat,λx _=>x.toNat,⟨h0,l,ag,.refl _,hu⟩,?_⟩
 rintro x v ⟨bK,bE,gy,ad,k4⟩
 have hlen:=ad.length_eq
 have cb:=k4.aj5
 refine⟨⟨by omega,by omega⟩,by decide,?_⟩
 by_cases J:x=0
 subst J
 refine⟨⟨by decide,by decide⟩,λ_=>av _ _ gy ad (k4.done (.inl rfl)),λh=>aV (by decide) h⟩
 have ht:ff (x-1) 2=(x-1)/2:=zP (by omega)
 have zh:((x-1)/2).toNat=dk x.toNat:=by unfold dk;omega
 rw[ht]
 refine⟨⟨by omega,by omega⟩,λh=>by omega,λ_=>dt.less gy bK (by omega) (by omega) (by omega) ?_⟩
 rw[zh]
 refine⟨λaa=>av _ _ gy ad (k4.done (.inr (by simpa using aa))),λaa=>dt.swap gy (by omega) (by omega) bK (by omega) λu' dQ=>⟨⟨by omega,_,dQ,?_,?_⟩,by dsimp only;omega⟩⟩
 rw[zh]
 exact(Eb (by unfold dk;omega) cb).trans ad
 rw[zh]
 exact k4.step L (by omega) aa
def amw(dt:vr recv aO lt)(L:pb lt){l:M α}{j n:o}{K:aD->H->Prop}(ag:aO u l)(h0:0<=j)(ae:n<=l.length)(hu:wX lt n.toNat l j.toNat)
  (av:∀b u' bE,aO u' bE->bE.Perm l->iR lt n.toNat bE->(∀k:N,n<=k->bE[k]?=l[k]?)->K b u') (aN:j<n∨j<=0):KV recv j n u K:=by
 have gf:=dt.small ag
 apply an5
 intro nr nE
 refine⟨λx v=>0<=x/\(x<n∨x<=0)/\∃bE,aO v bE/\bE.Perm l/\wX lt n.toNat bE x.toNat/\∀k:N,n<=k->bE[k]?=l[k]?,λx _=>(n-x).toNat,⟨h0,aN,l,ag,.refl _,hu,λ_ _=>rfl⟩,?_⟩
 rintro x v ⟨bK,S3,bE,gy,ad,ar,iq⟩
 have hlen:=ad.length_eq
 have done:∀{b6},aO b6 bE->(∀i,0<i->i<n.toNat->dk i=x.toNat->lt (bE.getD i default) (bE.getD x.toNat default)=ax)->nr x b6:=λdQ h=>
  nE _ _ (av _ _ _ dQ ad (ar.done h) iq)
 refine⟨⟨by omega,by omega⟩,⟨by omega,by omega⟩,λWs Mg=>⟨λh=>done gy λi i0 i1 i2=>by unfold dk at i2;omega,λh=>⟨λh2=>by omega,λ_=>Mg _ ?_⟩⟩⟩
 clear Mg Ws
 intro Lf Mh
 have eX:∀c:o,0<c->c<n->dk c.toNat=x.toNat->(∀i,0<i->i<n.toNat->dk i=x.toNat->lt (bE.getD i default) (bE.getD c.toNat default)=ax)->Lf c v:=by
  intro c bM c1 c2 hm;have oP:x<c:=by unfold dk at c2;omega
  refine Mh _ _ (dt.less gy (by omega) (by omega) bK (by omega) ⟨λaa=>done gy λi i0 i1 i2=>?_,λaa=>dt.swap gy bK (by omega) (by omega) (by omega) λu' dQ=>⟨⟨by omega,.inl c1,_,dQ,?_,?_,?_⟩,by dsimp only;omega⟩⟩);exact L.trans _ _ _ (by simpa using aa) (hm i i0 i1 i2);exact(Eb (by omega) (by omega)).trans ad;exact ar.step L (by omega) (by omega) c2 aa hm;intro k hk;rw[anq (by omega) (by omega)];exact iq k hk
 clear Mh
 have Jm:∀a,lt a a=ax:=λa=>by
  cases e:lt a a with
  |false=>rfl|true=>have:=L.asymm _ _ e;rw[e] at this;cases this
 have gX:dk (2*x+1).toNat=x.toNat:=by unfold dk;omega
 have dv:dk (2*x+1+1).toNat=x.toNat:=by unfold dk;omega
 have two:∀i,0<i->i<n.toNat->dk i=x.toNat->i=(2*x+1).toNat∨i=(2*x+1+1).toNat:=λi i0 _ i2=>by unfold dk at i2;omega
 refine⟨⟨by omega,by omega⟩,λh2=>dt.less gy (by omega) (by omega) (by omega) (by omega) ⟨λaa=>eX _ (by omega) h2 dv λi i0 i1 i2=>?_,λaa=>eX _ (by omega) (by omega) gX λi i0 i1 i2=>?_⟩,
  λh2=>eX _ (by omega) (by omega) gX λi i0 i1 i2=>?_⟩
 rcases two i i0 i1 i2 with rfl|rfl
 exact L.asymm _ _ aa
 exact Jm _
 rcases two i i0 i1 i2 with rfl|rfl
 exact Jm _
 exact aa
 rcases two i i0 i1 i2 with rfl|rfl
 exact Jm _
 omega
def iR.aqX{l:M α}{n:N}(h:iR lt n l)(ae:n<=l.length)(y:α):wX lt n (l.set 0 y) 0:=by
 refine⟨by simpa using ae,λi i0 i1 i2=>?_,λi i0 i1 i2 h0=>by omega⟩;have ad:dk i≠0:=i2;have g:∀k,k≠0->(l.set 0 y).getD k default=l.getD k default:=λk hk=>by rw[dm,va (dG hk),<-dm]
 rw[g i (by omega),g _ ad];exact h i i0 i1
def aA3(dt:vr recv aO lt)(L:pb lt){l:M α}(ag:aO u l)(an:0<l.length)(ar:wX lt l.length l 0)
  (av:∀u' bE,aO u' bE->bE.Perm l->iR lt bE.length bE->K u'):VA recv 0 u K:=by
 apply aDD
 refine dt.len ag (amw dt L ag (by omega) (by omega) (by simpa using ar) (λb u' bE gy ad b5 _=>?_) (.inl (by omega)))
 have hlen:=ad.length_eq
 have mi:iR lt bE.length bE:=by rw[hlen];simpa using b5
 refine⟨λ_=>amx dt L gy (by omega) ⟨by show 0<bE.length;omega,λi i0 i1 _=>mi i i0 i1,λi i0 i1 _ h=>aV h (by decide)⟩ λcQ eV dQ eJ y9=>av _ _ dQ (eJ.trans ad) y9,λ_=>av _ _ gy ad mi⟩
def amv(dt:vr recv aO lt)(L:pb lt){l:M α}{x:ao}{y:α}(b5:iR lt l.length l)
  (ZK:∀{K:H->Prop},(∀u',aO u' (l++ [y])->K u')->nn aH recv "Push" #[x] [] u K)
  (av:∀u' bE,aO u' bE->bE.Perm (l++ [y])->iR lt bE.length bE->K u'):Ah recv x u K:=by
 apply an4
 refine ZK λu' ag=>dt.len ag ?_
 have gf:=dt.small ag
 simp only[eD,r4] at gf ⊢
 refine⟨⟨by omega,by omega⟩,amx dt L ag (by omega) ⟨by simp,λi i0 i1 i2=>?_,λi i0 i1 i2=>?_⟩ av⟩
 simp only[eD,r4] at i1
 have hi:i<l.length:=by omega
 have g:∀k,k<l.length->(l++ [y]).getD k default=l.getD k default:=λk hk=>by rw[dm,qY hk,<-dm]
 rw[g i hi,g _ (by unfold dk;omega)]
 exact b5 i i0 hi
 simp only[eD,r4] at i1
 unfold dk at i2
 omega
end
end
end Go.Proofs.YtejdhbfjjgcljaaGreatDoor
namespace Go.Proofs
open Go.Shelf
def Tryz.aAA:Go.Shelf.Ren:=⟨fun|6=>81|15=>115|14=>114|28=>158|29=>159|20=>150|21=>151|22=>152|23=>153|24=>154|25=>155|26=>156|27=>157|46=>188|47=>189|48=>190|49=>191|50=>192|57=>202|n=>n,fun|22=>38|24=>68|25=>151|3=>3|39=>201|0=>0|53=>250|55=>26|4=>4|46=>243|45=>242|50=>247|5=>5|9=>9|66=>275|70=>278|76=>288|77=>289|n=>n,fun|n=>n⟩
def Tryz.aml:Go.Proofs.SlLaysF0.n6 Tryz.prog Tryz.aAA:={
 mixed:=by kernel_rfl
 f6:=⟨Tryz.f81.name,by decide,Tryz.func81.trans (congrArg some (by kernel_rfl))⟩
 f14:=⟨Tryz.f114.name,by decide,Tryz.func114.trans (congrArg some (by kernel_rfl))⟩
 f15:=Tryz.func115.trans (congrArg some (by kernel_rfl))
 f20:=⟨Tryz.f150.name,by decide,Tryz.func150.trans (congrArg some (by kernel_rfl))⟩
 f21:=⟨Tryz.f151.name,by decide,Tryz.func151.trans (congrArg some (by kernel_rfl))⟩
 f22:=⟨Tryz.f152.name,by decide,Tryz.func152.trans (congrArg some (by kernel_rfl))⟩
 f23:=⟨Tryz.f153.name,by decide,Tryz.func153.trans (congrArg some (by kernel_rfl))⟩
 f24:=⟨Tryz.f154.name,by decide,Tryz.func154.trans (congrArg some (by kernel_rfl))⟩
 f25:=⟨Tryz.f155.name,by decide,Tryz.func155.trans (congrArg some (by kernel_rfl))⟩
 f26:=⟨Tryz.f156.name,by decide,Tryz.func156.trans (congrArg some (by kernel_rfl))⟩
 f27:=⟨Tryz.f157.name,by decide,Tryz.func157.trans (congrArg some (by kernel_rfl))⟩
 f28:=Tryz.func158.trans (congrArg some (by kernel_rfl))
 f29:=Tryz.func159.trans (congrArg some (by kernel_rfl))
 f46:=⟨Tryz.f188.name,by decide,Tryz.func188.trans (congrArg some (by kernel_rfl))⟩
 f47:=Tryz.func189.trans (congrArg some (by kernel_rfl))
 f48:=Tryz.func190.trans (congrArg some (by kernel_rfl))
 f49:=⟨Tryz.f191.name,by decide,Tryz.func191.trans (congrArg some (by kernel_rfl))⟩
 f50:=⟨Tryz.f192.name,by decide,Tryz.func192.trans (congrArg some (by kernel_rfl))⟩
 f57:=⟨Tryz.f202.name,by decide,Tryz.func202.trans (congrArg some (by kernel_rfl))⟩
 t0:=Tryz.underlying0
 a0:=Tryz.isAgg0
 z0:=Tryz.sizeOf0
 v0:=Tryz.zeroValue0
 t3:=Tryz.underlying3
 a3:=Tryz.isAgg3
 z3:=Tryz.sizeOf3
 v3:=Tryz.zeroValue3
 t4:=Tryz.underlying4
 a4:=Tryz.isAgg4
 z4:=Tryz.sizeOf4
 v4:=Tryz.zeroValue4
 t5:=Tryz.underlying5
 a5:=Tryz.isAgg5
 z5:=Tryz.sizeOf5
 v5:=Tryz.zeroValue5
 t9:=Tryz.underlying9
 a9:=Tryz.isAgg9
 z9:=Tryz.sizeOf9
 v9:=Tryz.zeroValue9
 t22:=Tryz.underlying38
 a22:=Tryz.isAgg38
 z22:=Tryz.sizeOf38
 v22:=Tryz.zeroValue38
 t25:=Tryz.underlying151
 a25:=Tryz.isAgg151
 z25:=Tryz.sizeOf151
 v25:=Tryz.zeroValue151
 t39:=Tryz.underlying201
 a39:=Tryz.isAgg201
 z39:=Tryz.sizeOf201
 v39:=Tryz.zeroValue201
 t45:=Tryz.underlying242
 a45:=Tryz.isAgg242
 z45:=Tryz.sizeOf242
 v45:=Tryz.zeroValue242
 t46:=Tryz.underlying243
 a46:=Tryz.isAgg243
 z46:=Tryz.sizeOf243
 v46:=Tryz.zeroValue243
 t50:=Tryz.underlying247
 a50:=Tryz.isAgg247
 z50:=Tryz.sizeOf247
 v50:=Tryz.zeroValue247
 t53:=Tryz.underlying250
 a53:=Tryz.isAgg250
 z53:=Tryz.sizeOf250
 v53:=Tryz.zeroValue250
 t55:=Tryz.underlying26
 a55:=Tryz.isAgg26
 z55:=Tryz.sizeOf26
 v55:=Tryz.zeroValue26
 t66:=Tryz.underlying275
 a66:=Tryz.isAgg275
 z66:=Tryz.sizeOf275
 v66:=Tryz.zeroValue275
 t70:=Tryz.underlying278
 a70:=Tryz.isAgg278
 z70:=Tryz.sizeOf278
 v70:=Tryz.zeroValue278
 t76:=Tryz.underlying288
 a76:=Tryz.isAgg288
 z76:=Tryz.sizeOf288
 v76:=Tryz.zeroValue288
 t77:=Tryz.underlying289
 a77:=Tryz.isAgg289
 z77:=Tryz.sizeOf289
 v77:=Tryz.zeroValue289}
def Tryz.aAC:Go.Shelf.Ren:=⟨fun|53=>193|64=>115|63=>203|78=>158|79=>159|70=>214|71=>215|72=>216|73=>217|74=>218|75=>219|59=>220|76=>221|77=>222|88=>227|89=>189|90=>190|91=>228|92=>229|68=>160|96=>231|n=>n,fun|22=>30|23=>3|3=>3|51=>201|0=>0|67=>250|69=>26|4=>4|61=>243|60=>242|44=>247|5=>5|9=>9|75=>275|79=>278|83=>288|84=>289|n=>n,fun|n=>n⟩
def Tryz.amn:Go.Proofs.SlLaysN.n53 Tryz.prog Tryz.aAC:={
 mixed:=by kernel_rfl
 f53:=⟨Tryz.f193.name,by decide,Tryz.func193.trans (congrArg some (by kernel_rfl))⟩
 f59:=⟨Tryz.f220.name,by decide,Tryz.func220.trans (congrArg some (by kernel_rfl))⟩
 f63:=⟨Tryz.f203.name,by decide,Tryz.func203.trans (congrArg some (by kernel_rfl))⟩
 f64:=Tryz.func115.trans (congrArg some (by kernel_rfl))
 f68:=⟨Tryz.f160.name,by decide,Tryz.func160.trans (congrArg some (by kernel_rfl))⟩
 f70:=⟨Tryz.f214.name,by decide,Tryz.func214.trans (congrArg some (by kernel_rfl))⟩
 f71:=⟨Tryz.f215.name,by decide,Tryz.func215.trans (congrArg some (by kernel_rfl))⟩
 f72:=⟨Tryz.f216.name,by decide,Tryz.func216.trans (congrArg some (by kernel_rfl))⟩
 f73:=⟨Tryz.f217.name,by decide,Tryz.func217.trans (congrArg some (by kernel_rfl))⟩
 f74:=⟨Tryz.f218.name,by decide,Tryz.func218.trans (congrArg some (by kernel_rfl))⟩
 f75:=⟨Tryz.f219.name,by decide,Tryz.func219.trans (congrArg some (by kernel_rfl))⟩
 f76:=⟨Tryz.f221.name,by decide,Tryz.func221.trans (congrArg some (by kernel_rfl))⟩
 f77:=⟨Tryz.f222.name,by decide,Tryz.func222.trans (congrArg some (by kernel_rfl))⟩
 f78:=Tryz.func158.trans (congrArg some (by kernel_rfl))
 f79:=Tryz.func159.trans (congrArg some (by kernel_rfl))
 f88:=⟨Tryz.f227.name,by decide,Tryz.func227.trans (congrArg some (by kernel_rfl))⟩
 f89:=Tryz.func189.trans (congrArg some (by kernel_rfl))
 f90:=Tryz.func190.trans (congrArg some (by kernel_rfl))
 f91:=⟨Tryz.f228.name,by decide,Tryz.func228.trans (congrArg some (by kernel_rfl))⟩
 f92:=⟨Tryz.f229.name,by decide,Tryz.func229.trans (congrArg some (by kernel_rfl))⟩
 f96:=⟨Tryz.f231.name,by decide,Tryz.func231.trans (congrArg some (by kernel_rfl))⟩
 t0:=Tryz.underlying0
 a0:=Tryz.isAgg0
 z0:=Tryz.sizeOf0
 v0:=Tryz.zeroValue0
 t3:=Tryz.underlying3
 a3:=Tryz.isAgg3
 z3:=Tryz.sizeOf3
 v3:=Tryz.zeroValue3
 t4:=Tryz.underlying4
 a4:=Tryz.isAgg4
 z4:=Tryz.sizeOf4
 v4:=Tryz.zeroValue4
 t5:=Tryz.underlying5
 a5:=Tryz.isAgg5
 z5:=Tryz.sizeOf5
 v5:=Tryz.zeroValue5
 t9:=Tryz.underlying9
 a9:=Tryz.isAgg9
 z9:=Tryz.sizeOf9
 v9:=Tryz.zeroValue9
 t22:=Tryz.underlying30
 a22:=Tryz.isAgg30
 z22:=Tryz.sizeOf30
 v22:=Tryz.zeroValue30
 t23:=Tryz.underlying3
 a23:=Tryz.isAgg3
 z23:=Tryz.sizeOf3
 v23:=Tryz.zeroValue3
 t44:=Tryz.underlying247
 a44:=Tryz.isAgg247
 z44:=Tryz.sizeOf247
 v44:=Tryz.zeroValue247
 t51:=Tryz.underlying201
 a51:=Tryz.isAgg201
 z51:=Tryz.sizeOf201
 v51:=Tryz.zeroValue201
 t60:=Tryz.underlying242
 a60:=Tryz.isAgg242
 z60:=Tryz.sizeOf242
 v60:=Tryz.zeroValue242
 t61:=Tryz.underlying243
 a61:=Tryz.isAgg243
 z61:=Tryz.sizeOf243
 v61:=Tryz.zeroValue243
 t67:=Tryz.underlying250
 a67:=Tryz.isAgg250
 z67:=Tryz.sizeOf250
 v67:=Tryz.zeroValue250
 t69:=Tryz.underlying26
 a69:=Tryz.isAgg26
 z69:=Tryz.sizeOf26
 v69:=Tryz.zeroValue26
 t75:=Tryz.underlying275
 a75:=Tryz.isAgg275
 z75:=Tryz.sizeOf275
 v75:=Tryz.zeroValue275
 t79:=Tryz.underlying278
 a79:=Tryz.isAgg278
 z79:=Tryz.sizeOf278
 v79:=Tryz.zeroValue278
 t83:=Tryz.underlying288
 a83:=Tryz.isAgg288
 z83:=Tryz.sizeOf288
 v83:=Tryz.zeroValue288
 t84:=Tryz.underlying289
 a84:=Tryz.isAgg289
 z84:=Tryz.sizeOf289
 v84:=Tryz.zeroValue289}
def Tryz.aAE:Go.Shelf.Ren:=⟨fun|6=>104|15=>115|14=>143|28=>158|29=>159|20=>177|21=>178|22=>179|23=>180|24=>181|25=>182|26=>183|27=>184|46=>197|47=>189|48=>190|49=>198|50=>199|57=>213|n=>n,fun|22=>22|24=>52|25=>186|3=>3|39=>201|0=>0|53=>250|55=>26|4=>4|46=>243|45=>242|50=>247|5=>5|9=>9|66=>275|70=>278|76=>288|77=>289|n=>n,fun|n=>n⟩
def Tryz.amp:Go.Proofs.SlLaysF0.n6 Tryz.prog Tryz.aAE:={
 mixed:=by kernel_rfl
 f6:=⟨Tryz.f104.name,by decide,Tryz.func104.trans (congrArg some (by kernel_rfl))⟩
 f14:=⟨Tryz.f143.name,by decide,Tryz.func143.trans (congrArg some (by kernel_rfl))⟩
 f15:=Tryz.func115.trans (congrArg some (by kernel_rfl))
 f20:=⟨Tryz.f177.name,by decide,Tryz.func177.trans (congrArg some (by kernel_rfl))⟩
 f21:=⟨Tryz.f178.name,by decide,Tryz.func178.trans (congrArg some (by kernel_rfl))⟩
 f22:=⟨Tryz.f179.name,by decide,Tryz.func179.trans (congrArg some (by kernel_rfl))⟩
 f23:=⟨Tryz.f180.name,by decide,Tryz.func180.trans (congrArg some (by kernel_rfl))⟩
 f24:=⟨Tryz.f181.name,by decide,Tryz.func181.trans (congrArg some (by kernel_rfl))⟩
 f25:=⟨Tryz.f182.name,by decide,Tryz.func182.trans (congrArg some (by kernel_rfl))⟩
 f26:=⟨Tryz.f183.name,by decide,Tryz.func183.trans (congrArg some (by kernel_rfl))⟩
 f27:=⟨Tryz.f184.name,by decide,Tryz.func184.trans (congrArg some (by kernel_rfl))⟩
 f28:=Tryz.func158.trans (congrArg some (by kernel_rfl))
 f29:=Tryz.func159.trans (congrArg some (by kernel_rfl))
 f46:=⟨Tryz.f197.name,by decide,Tryz.func197.trans (congrArg some (by kernel_rfl))⟩
 f47:=Tryz.func189.trans (congrArg some (by kernel_rfl))
 f48:=Tryz.func190.trans (congrArg some (by kernel_rfl))
 f49:=⟨Tryz.f198.name,by decide,Tryz.func198.trans (congrArg some (by kernel_rfl))⟩
 f50:=⟨Tryz.f199.name,by decide,Tryz.func199.trans (congrArg some (by kernel_rfl))⟩
 f57:=⟨Tryz.f213.name,by decide,Tryz.func213.trans (congrArg some (by kernel_rfl))⟩
 t0:=Tryz.underlying0
 a0:=Tryz.isAgg0
 z0:=Tryz.sizeOf0
 v0:=Tryz.zeroValue0
 t3:=Tryz.underlying3
 a3:=Tryz.isAgg3
 z3:=Tryz.sizeOf3
 v3:=Tryz.zeroValue3
 t4:=Tryz.underlying4
 a4:=Tryz.isAgg4
 z4:=Tryz.sizeOf4
 v4:=Tryz.zeroValue4
 t5:=Tryz.underlying5
 a5:=Tryz.isAgg5
 z5:=Tryz.sizeOf5
 v5:=Tryz.zeroValue5
 t9:=Tryz.underlying9
 a9:=Tryz.isAgg9
 z9:=Tryz.sizeOf9
 v9:=Tryz.zeroValue9
 t22:=Tryz.underlying22
 a22:=Tryz.isAgg22
 z22:=Tryz.sizeOf22
 v22:=Tryz.zeroValue22
 t25:=Tryz.underlying186
 a25:=Tryz.isAgg186
 z25:=Tryz.sizeOf186
 v25:=Tryz.zeroValue186
 t39:=Tryz.underlying201
 a39:=Tryz.isAgg201
 z39:=Tryz.sizeOf201
 v39:=Tryz.zeroValue201
 t45:=Tryz.underlying242
 a45:=Tryz.isAgg242
 z45:=Tryz.sizeOf242
 v45:=Tryz.zeroValue242
 t46:=Tryz.underlying243
 a46:=Tryz.isAgg243
 z46:=Tryz.sizeOf243
 v46:=Tryz.zeroValue243
 t50:=Tryz.underlying247
 a50:=Tryz.isAgg247
 z50:=Tryz.sizeOf247
 v50:=Tryz.zeroValue247
 t53:=Tryz.underlying250
 a53:=Tryz.isAgg250
 z53:=Tryz.sizeOf250
 v53:=Tryz.zeroValue250
 t55:=Tryz.underlying26
 a55:=Tryz.isAgg26
 z55:=Tryz.sizeOf26
 v55:=Tryz.zeroValue26
 t66:=Tryz.underlying275
 a66:=Tryz.isAgg275
 z66:=Tryz.sizeOf275
 v66:=Tryz.zeroValue275
 t70:=Tryz.underlying278
 a70:=Tryz.isAgg278
 z70:=Tryz.sizeOf278
 v70:=Tryz.zeroValue278
 t76:=Tryz.underlying288
 a76:=Tryz.isAgg288
 z76:=Tryz.sizeOf288
 v76:=Tryz.zeroValue288
 t77:=Tryz.underlying289
 a77:=Tryz.isAgg289
 z77:=Tryz.sizeOf289
 v77:=Tryz.zeroValue289}
def Tryz.aAD:Go.Shelf.Ren:=⟨fun|6=>175|15=>115|14=>196|28=>158|29=>159|20=>205|21=>206|22=>207|23=>208|24=>209|25=>210|26=>211|27=>212|46=>224|47=>189|48=>190|49=>225|50=>226|57=>230|n=>n,fun|22=>30|24=>3|25=>203|3=>3|39=>201|0=>0|53=>250|55=>26|4=>4|46=>243|45=>242|50=>247|5=>5|9=>9|66=>275|70=>278|76=>288|77=>289|n=>n,fun|n=>n⟩
def Tryz.amo:Go.Proofs.SlLaysF.n6 Tryz.prog Tryz.aAD:={
 mixed:=by kernel_rfl
 f6:=⟨Tryz.f175.name,by decide,Tryz.func175.trans (congrArg some (by kernel_rfl))⟩
 f14:=⟨Tryz.f196.name,by decide,Tryz.func196.trans (congrArg some (by kernel_rfl))⟩
 f15:=Tryz.func115.trans (congrArg some (by kernel_rfl))
 f20:=⟨Tryz.f205.name,by decide,Tryz.func205.trans (congrArg some (by kernel_rfl))⟩
 f21:=⟨Tryz.f206.name,by decide,Tryz.func206.trans (congrArg some (by kernel_rfl))⟩
 f22:=⟨Tryz.f207.name,by decide,Tryz.func207.trans (congrArg some (by kernel_rfl))⟩
 f23:=⟨Tryz.f208.name,by decide,Tryz.func208.trans (congrArg some (by kernel_rfl))⟩
 f24:=⟨Tryz.f209.name,by decide,Tryz.func209.trans (congrArg some (by kernel_rfl))⟩
 f25:=⟨Tryz.f210.name,by decide,Tryz.func210.trans (congrArg some (by kernel_rfl))⟩
 f26:=⟨Tryz.f211.name,by decide,Tryz.func211.trans (congrArg some (by kernel_rfl))⟩
 f27:=⟨Tryz.f212.name,by decide,Tryz.func212.trans (congrArg some (by kernel_rfl))⟩
 f28:=Tryz.func158.trans (congrArg some (by kernel_rfl))
 f29:=Tryz.func159.trans (congrArg some (by kernel_rfl))
 f46:=⟨Tryz.f224.name,by decide,Tryz.func224.trans (congrArg some (by kernel_rfl))⟩
 f47:=Tryz.func189.trans (congrArg some (by kernel_rfl))
 f48:=Tryz.func190.trans (congrArg some (by kernel_rfl))
 f49:=⟨Tryz.f225.name,by decide,Tryz.func225.trans (congrArg some (by kernel_rfl))⟩
 f50:=⟨Tryz.f226.name,by decide,Tryz.func226.trans (congrArg some (by kernel_rfl))⟩
 f57:=⟨Tryz.f230.name,by decide,Tryz.func230.trans (congrArg some (by kernel_rfl))⟩
 t0:=Tryz.underlying0
 a0:=Tryz.isAgg0
 z0:=Tryz.sizeOf0
 v0:=Tryz.zeroValue0
 t3:=Tryz.underlying3
 a3:=Tryz.isAgg3
 z3:=Tryz.sizeOf3
 v3:=Tryz.zeroValue3
 t4:=Tryz.underlying4
 a4:=Tryz.isAgg4
 z4:=Tryz.sizeOf4
 v4:=Tryz.zeroValue4
 t5:=Tryz.underlying5
 a5:=Tryz.isAgg5
 z5:=Tryz.sizeOf5
 v5:=Tryz.zeroValue5
 t9:=Tryz.underlying9
 a9:=Tryz.isAgg9
 z9:=Tryz.sizeOf9
 v9:=Tryz.zeroValue9
 t22:=Tryz.underlying30
 a22:=Tryz.isAgg30
 z22:=Tryz.sizeOf30
 v22:=Tryz.zeroValue30
 a24:=Tryz.isAgg3
 z24:=Tryz.sizeOf3
 t25:=Tryz.underlying203
 a25:=Tryz.isAgg203
 z25:=Tryz.sizeOf203
 v25:=Tryz.zeroValue203
 t39:=Tryz.underlying201
 a39:=Tryz.isAgg201
 z39:=Tryz.sizeOf201
 v39:=Tryz.zeroValue201
 t45:=Tryz.underlying242
 a45:=Tryz.isAgg242
 z45:=Tryz.sizeOf242
 v45:=Tryz.zeroValue242
 t46:=Tryz.underlying243
 a46:=Tryz.isAgg243
 z46:=Tryz.sizeOf243
 v46:=Tryz.zeroValue243
 t50:=Tryz.underlying247
 a50:=Tryz.isAgg247
 z50:=Tryz.sizeOf247
 v50:=Tryz.zeroValue247
 t53:=Tryz.underlying250
 a53:=Tryz.isAgg250
 z53:=Tryz.sizeOf250
 v53:=Tryz.zeroValue250
 t55:=Tryz.underlying26
 a55:=Tryz.isAgg26
 z55:=Tryz.sizeOf26
 v55:=Tryz.zeroValue26
 t66:=Tryz.underlying275
 a66:=Tryz.isAgg275
 z66:=Tryz.sizeOf275
 v66:=Tryz.zeroValue275
 t70:=Tryz.underlying278
 a70:=Tryz.isAgg278
 z70:=Tryz.sizeOf278
 v70:=Tryz.zeroValue278
 t76:=Tryz.underlying288
 a76:=Tryz.isAgg288
 z76:=Tryz.sizeOf288
 v76:=Tryz.zeroValue288
 t77:=Tryz.underlying289
 a77:=Tryz.isAgg289
 z77:=Tryz.sizeOf289
 v77:=Tryz.zeroValue289}
def Tryz.aCH:Go.Shelf.Ren:=⟨fun|29=>169|n=>n,fun|22=>26|3=>3|4=>4|25=>201|54=>281|0=>0|5=>5|n=>n,fun|1=>0|n=>n⟩
def Tryz.aCG:Go.Proofs.Lays7.n29 Tryz.prog Tryz.aCH:={
 mixed:=by kernel_rfl
 f29:=Tryz.func169.trans (congrArg some (by kernel_rfl))
 t0:=Tryz.underlying0
 a0:=Tryz.isAgg0
 z0:=Tryz.sizeOf0
 v0:=Tryz.zeroValue0
 i0:=by kernel_rfl
 t3:=Tryz.underlying3
 a3:=Tryz.isAgg3
 z3:=Tryz.sizeOf3
 v3:=Tryz.zeroValue3
 i3:=by kernel_rfl
 t4:=Tryz.underlying4
 a4:=Tryz.isAgg4
 z4:=Tryz.sizeOf4
 v4:=Tryz.zeroValue4
 i4:=by kernel_rfl
 t5:=Tryz.underlying5
 a5:=Tryz.isAgg5
 z5:=Tryz.sizeOf5
 v5:=Tryz.zeroValue5
 i5:=by kernel_rfl
 t22:=Tryz.underlying26
 a22:=Tryz.isAgg26
 z22:=Tryz.sizeOf26
 v22:=Tryz.zeroValue26
 i22:=by kernel_rfl
 t25:=Tryz.underlying201
 a25:=Tryz.isAgg201
 z25:=Tryz.sizeOf201
 v25:=Tryz.zeroValue201
 i25:=by kernel_rfl
 t54:=Tryz.underlying281
 a54:=Tryz.isAgg281
 z54:=Tryz.sizeOf281
 g1:=by kernel_rfl}
end Go.Proofs
namespace Go.Proofs.YtejdhbfjjgcljaaGreatDoor
open _root_.Go.Proofs.Tryz
open H
section
variable{u aj:H}{g:N}{s:U}
open Go.Shelf Go.RowKit Go.Sort
def Step.agH{bD w':cg}(h:Step (λb=>bD.heap[b]?) [] bD (λb=>bD.heap[b]?) [] w'):∃q OI,w'=grow (bD.drewN q) OI:=by
 refine⟨w'.drawn-bD.drawn,w'.heap.extract bD.heap.size w'.heap.size,?_⟩;have ar:=h.drawn;have ag:=h.size;have b5:w'.heap=bD.heap++w'.heap.extract bD.heap.size w'.heap.size:=by apply Array.ext;simp;omega;intro i h1 h2;rcases kB i bD.heap.size with hi|hi;rw[Array.getElem_append_left hi];have:=h.sub i bD.heap[i] (by simp[hi]);rw[x3 h1] at this;exact cX this;rw[Array.getElem_append_right hi];simp only[Array.getElem_extract];congr 1;omega
 have aQ:=h.os;have aF:=h.tape;have cW:=h.output;cases w';cases bD;simp only[grow,World.drewN] at*;simp only[World.mk.injEq];refine⟨b5,aF,by omega,aQ,cW⟩
def agI{P:dT}{f:jQ}{args:cv ao}{Y:o}(h:∀u:H,hx P f args [.one (.int .i64)] u λfC u'=>fC=Y/\u'=u)(bD:cg):
  Calls P f args bD λe w'=>e=.returned (.int .i64 Y)/\∃q OI,w'=grow (bD.drewN q) OI:=by
 refine(h (λb=>bD.heap[b]?) bD (λb z e=>e)).mono ?_
 rintro e w' ⟨v,u',rfl,⟨vs,hk,rfl,I⟩,ag⟩
 cases hk with
 |cons x O=>cases O;have om:=(aE.ra (.int .i64) x _).1 I;obtain⟨J,hu⟩:x=Y/\u'=_:=om;subst J;subst hu;exact⟨rfl,ag.agH⟩
def HU(a b:bP):o:=if bw a b then -1 else if bw b a then 1 else 0
def aCd(cf:bP->bP->o)(h:∀a b,cf a b<0↔bw a b=ak):SWO (ltOf cf) where
 irrefl x:=by unfold ltOf;simp[h,IN]
 trans x y Y h1 h2:=by unfold ltOf at*;simp only[JP,h] at*;exact M6 h1 h2
 ntrans x y Y h1 h2:=by unfold ltOf at*;simp only[GU,h,ace] at*;exact FC h2 h1
instance:lM bP:=⟨(0,0)⟩
def agt(d:cv bP):(flatK fX 3 d).toList=d.toList.flatMap fX:=by
 apply sB;intro i;rcases kB i (d.size*3) with hi|hi;have e:i=i/3*3+i%3:=by omega
 have ar:i/3<d.size:=by omega
 have O:i%3<3:=GV _ (by decide);have ac:=H5 se d.toList (i/3) (i%3) O;rw[<-e] at ac;rw[ac];have:(flatK fX 3 d).toList[i]?=some ((flatK fX 3 d)[i]!):=by rw[BP,sD _ i (by simpa using hi),x3 (by simpa using hi)]
 rw[this,get_flatK _ _ _ _ hi];simp[ar];have h2:i%3<(fX d[i/3]).length:=by rw[se];exact O
 rw[cy h2];rfl;rw[iO (by simpa using hi),iO (by rw[og se];simpa using hi)]
def ahX{w:cg}{cur:cv ao}{T:dF}{H8:N×N}(f:cv ao->cv ao)(h:w.heap[g]?=some (.cells cur T H8)):
  (mapBlock w g f).heap[g]?=some (.cells (f cur) T H8)/\∀b,b≠g->(mapBlock w g f).heap[b]?=w.heap[b]?:=by
 unfold mapBlock
 constructor
 simp only[TF,qX,h,u4,onCells]
 intro b aa
 simp only[TF]
 rw[aG (dG aa)]
def UW{w:cg}(hw:Sub u w){cur:cv ao}{T:dF}(W:u g=some (.cells cur T (0,0)))(n:N)(f:cv ao->cv ao)(os:cv Obj):
  Step u [] w (u.ins g (.cells (f cur) T (0,0))) [] (grow (mapBlock (vb w n) g f) os):=by
 have MN:(vb w n).heap[g]?=some (.cells cur T (0,0)):=hw _ _ W
 obtain⟨h1,h2⟩:=ahX f MN
 have c0:(mapBlock (vb w n) g f).heap.size=w.heap.size:=by simp[mapBlock,vb]
 have mh:∀b,b<w.heap.size->(grow (mapBlock (vb w n) g f) os).heap[b]?=(mapBlock (vb w n) g f).heap[b]?:=by intro b aa;show((mapBlock (vb w n) g f).heap++os)[b]?=_;rw[ab7 (by rw[c0];exact aa)]
 refine⟨λb z h=>?_,rfl,rfl,rfl,Nat.le_add_right _ _,?_,λb aa fo _=>?_,λb aa fo=>?_,[],by simp,by simp⟩
 unfold H.ins at h
 split at h
 rename_i oj;subst oj;cases h
 rw[mh _ (hw.lt W)];exact h1
 rename_i oj
 rw[mh _ (hw.lt h),h2 b oj];exact hw b z h
 show w.heap.size<=((mapBlock (vb w n) g f).heap++os).size
 rw[ab9,c0];omega
 have:b≠g:=λh=>by rw[h,W] at fo;cases fo
 rw[mh b aa,h2 b this];rfl
 have:b≠g:=λh=>by rw[h,W] at fo;cases fo
 rw[bq _ _ this];exact fo
def azk{F cur:cv ao}(h:F.size<=cur.size):(putCells id 0 F cur).toList.take F.size=F.toList:=by
 apply sB;intro i;rw[JT];split;rename_i hi;have I:i<cur.size:=by omega
 simp only[putCells,BP,Array.getElem?_mapIdx];rw[x3 I,x3 hi];simp only[u4,q0,true_and,ki,hi,qX,DP,id];rw[sD F i hi];rename_i hi;rw[iO (by simpa using hi)]
def azl{F cur:cv ao}:(putCells id 0 F cur).size=cur.size:=by simp[putCells]
def aK.Ul{e k:N}{xs:M ao}(h:aK aj u e k s xs){cur:cv ao}(ay:s.a=some ⟨g,0,none⟩)(W:u g=some (.cells cur e (0,0))){F:cv ao}(ry:F.size=s.n*k):
  aK aj (u.ins g (.cells (putCells id 0 F cur) e (0,0))) e k s F.toList/\gS u (u.ins g (.cells (putCells id 0 F cur) e (0,0))) s:=by
 rcases h.own.is with h0|⟨b2,aGH,R2,ca,ae,I,ag,ht⟩
 rw[h0] at ay;cases ay
 rw[ay] at R2;cases R2
 rw[W] at ca;cases ca
 have hle:s.n*k<=s.c*k:=tG _ ae
 have hblk:s.al=some g:=by simp[U.al,ay]
 refine⟨⟨⟨by simpa using ry,.inr ⟨g,_,ay,bi _ _ _,ae,I,by rw[azl];exact ag,?_⟩⟩,λb z aa=>?_,h.fresh⟩,λb z aa an=>?_⟩
 rw[<-ry];exact azk (by rw[ry,ag];exact hle)
 have:b≠g:=λe=>by rw[e,h.fresh g hblk] at aa;cases aa
 rw[bq _ _ this];exact h.le b z aa
 have:b≠g:=λe=>an (by rw[hblk,e])
 rw[bq _ _ this];exact aa
def aBV{cf:bP->bP->o}(h:∀a b,cf a b<0↔bw a b=ak){d:cv bP}(ag:SortedIn (ltOf cf) 0 d.size d):qB d.toList:=by refine oF.2 λi j hi aN gV=>?_;have:=ag i j (q0 _) gV (by simpa using aN);simp only[r0] at hi aN;rw[sD d j aN,sD d i hi] at this;unfold ltOf at this;simp only[GU,h,ace] at this;simpa using this
def amQ{g:jQ}{cf:bP->bP->o}(h:∀a b,cf a b<0↔bw a b=ak)(mf:∀args w,(qW g args).run aH w=.ok (.enter g args) w)
  (Mx:∀a b (u:H),hx aH g #[.agg (fX a).toArray,.agg (fX b).toArray] [.one (.int .i64)] u λfC u'=>fC=cf a b/\u'=u)
  {aj u:H} {s:U} {l:M bP} (ab:aK aj u 68 3 s (l.flatMap fX)) (gf:l.length<4611686018427387904) {K:H->Prop}
  (av:∀u',aK aj u' 68 3 s ((ng l).flatMap fX)->gS u u' s->K u'):V1 s (.func (.func g) #[] #[]) u K:=by
 intro w hw
 have dM:=ab.fq.len
 rcases ab.own.is with h0|⟨b,cur,ay,W,hle,I,ag,ht⟩
 subst h0
 have ap:l=[]:=by have:l.length=0:=dM.symm;exact kS this
 subst ap
 refine(ach Tryz.aml none 0 _ w).mono ?_
 rintro e w' ⟨rfl,rfl⟩
 exact⟨_,u,rfl,⟨[],.nil,rfl,av u ab (gS.refl _ _)⟩,Step.refl hw⟩
 have hH:HoldsK fX 3 w b 0 l.toArray:=by
  intro j aN;simp only[size_flatK,ww] at aN;have uK:=ab.own.cI;have ap:(l.flatMap fX)[j]?=some ((flatK fX 3 l.toArray)[j]!):=by have:=agt l.toArray;simp only[] at this;rw[<-this,BP,sD _ j (by simpa using aN),x3 (by simpa using aN)]
  constructor;rcases uK.at' with h1|⟨p,ad,fP⟩;rw[h1] at ap;simp at ap;rw[ay] at ad;cases ad;have:=hw.cell (fP j _ ap);rw[iP,ki] at this;simpa using this;simp[GI,hw _ _ W]
 have tf:=AnyQ.slices_SortFunc Tryz.aml 3 (λw=>by kernel_rfl) (λw=>by kernel_rfl) fX se (λx=>EQ x) cf (aCd cf h) g #[] b 0 s.c l.toArray w mf
  (λm os AD _ x y=>by have:=agI (Mx x y) (sortWorldK fX 3 w b 0 m AD os);simpa using this) hH (hw.lt W) (by simpa using gf)
 simp only[ww] at tf
 change Calls aH 81 _ _ _ at tf
 unfold vs
 rw[ay,dM]
 refine tf.mono ?_
 rintro e w' ⟨rfl,gN,n,os,⟨gD,_,rH⟩,qO,rfl⟩
 simp only[ww] at gD
 have ib:gN.toList.Perm l:=by
  have aQ:gN.extract 0 l.length=gN:=by rw[<-gD];simp
  have aF:l.toArray.extract 0 l.length=l.toArray:=by simp
  rw[aQ,aF] at rH;simpa using rH
 have awo:qB gN.toList:=aBV h (by rw[gD];exact qO)
 have ap:gN.toList=ng l:=ac3 ib awo
 obtain⟨bQ,he⟩:=ab.Ul ay W (F:=flatK fX 3 gN) (by rw[size_flatK,gD,dM])
 rw[agt,ap] at bQ
 exact⟨_,_,rfl,⟨[],.nil,rfl,av _ bQ he⟩,UW hw W n _ os⟩
def encI(x:o):M ao:=[.int .i64 x]
def od(x:o):(encI x).length=1:=rfl
def Rn(x:o):∀v∈encI x,v.oneCell'=ak:=by simp[encI,cK]
def yR(l:M o):l.flatMap encI=l.map λx=>.int .i64 x:=by
 induction l with
 |nil=>rfl|cons x l aM=>simp[encI] at aM ⊢;exact aM
def aK.ints{e:N}{l:M o}(h:aK aj u e 1 s (l.flatMap encI)):Ints u s l:=by have:=h.own.cI;rw[yR] at this;exact this
def dS(l:M o):M o:=l.mergeSort λx y=>decide (x<=y)
def He{l:M o}(ab:aK aj u 3 1 s (l.flatMap encI))(gf:l.length<4611686018427387904){K:H->Prop}
  (av:∀u',aK aj u' 3 1 s ((dS l).flatMap encI)->gS u u' s->K u'):Cq s u K:=by
 intro w hw
 have dM:=ab.ints.len
 rcases ab.own.is with h0|⟨b,cur,ay,W,hle,I,ag,ht⟩
 subst h0
 have ap:l=[]:=by have:l.length=0:=dM.symm;exact kS this
 subst ap
 refine(AnyG.slices_Sort_int_none Tryz.amn none 0 w).mono ?_
 rintro e w' ⟨rfl,rfl⟩
 exact⟨_,u,rfl,⟨[],.nil,rfl,av u (by simpa[dS] using ab) (gS.refl _ _)⟩,Step.refl hw⟩
 have hH:Holds (cJ .i64) w b 0 l.toArray:=by
  intro j aN;have kL:j<l.length:=by simpa using aN
  have ap:(l.flatMap encI)[j]?=some (.int .i64 l[j]):=by rw[yR];simp[kL]
  constructor;rcases ab.own.cI.at' with h1|⟨p,ad,fP⟩;rw[h1] at ap;simp at ap;rw[ay] at ad;cases ad;have:=hw.cell (fP j _ ap);rw[iP,ki] at this;rw[sD _ j (by simpa using kL)];simpa using this;simp[GI,hw _ _ W]
 have tf:=AnyG.slices_Sort_int Tryz.amn b 0 s.c l w hH (hw.lt W) gf
 change Calls aH 193 _ _ _ at tf
 unfold vs
 rw[ay,dM]
 refine tf.mono ?_
 rintro e w' ⟨rfl,n,os,rfl⟩
 have hlen:(dS l).length=l.length:=by simp[dS]
 have ZL:putCells (cJ .i64) 0 (dS l).toArray cur=putCells id 0 ((dS l).map λx=>cJ .i64 x).toArray cur:=by unfold putCells;apply Array.ext;simp;intro i h1 h2;simp only[Array.getElem_mapIdx,ww,dj,q0,true_and,ki,DP,id];split;rename_i hi;rw[sD _ i (by simpa using hi),sD _ i (by simpa using hi)];simp;rfl
 obtain⟨bQ,he⟩:=ab.Ul ay W (F:=((dS l).map λx=>cJ .i64 x).toArray) (by simp[hlen,dM])
 rw[<-ZL] at bQ he
 simp only[] at bQ
 rw[<-yR] at bQ
 exact⟨_,_,rfl,⟨[],.nil,rfl,av _ bQ he⟩,UW hw W n _ os⟩
end
section
variable{u aj:H}{n:N}{k:o}{s:U}{P:dT}{l S:M bP}{f:jQ}{x:bP}{xs:M ao}{K:U->H->Prop}{env:M (N×ao)}
def aqK(a b:bP)(u:H):hx aH 82 #[.agg (fX a).toArray,.agg (fX b).toArray] [.one (.int .i64)] u λfC u'=>fC=HU a b/\u'=u:=by refine amY (a:=a) (b:=b) (K:=λfC u'=>fC=HU a b/\u'=u) λY h1 h2 h3 a7=>⟨?_,rfl⟩;unfold HU;by_cases ay:bw a b=ak;rw[a1 ay];have:=h1.2 ay;omega;rw[aG ay];by_cases aa:bw b a=ak;rw[a1 aa];have:=h2.2 aa;omega;rw[aG aa];have b8:¬Y<0:=λh=>ay (h1.1 h);have ek:¬0<Y:=λh=>aa (h2.1 h);omega
def aqG(a b:bP):HU a b<0↔bw a b=ak:=by unfold HU;by_cases ay:bw a b=ak;simp[ay];rw[aG ay];split<;>simp[ay]
def oA(P:dT)(t:dF)(name:String)(f:jQ)(ptr:aD):aD:=
 match P.info? t with
 |some i=>match i.methods.find? (·.name==name) with
  |some m=>match m.path.toList,m.func with
   | [],some (g,b)=>jB g f && (b==ptr)|_,_=>ax
  |none=>ax
 |none=>ax
def BB{t:dF}{name:String}{ptr:aD}(h:oA P t name f ptr=ak):
  ∃i m,P.info? t=some i/\i.methods.find? (·.name==name)=some m/\m.path=#[]/\m.func=some (f,ptr):=by
 unfold oA at h
 split at h
 rename_i i hi
 split at h
 rename_i m hm
 split at h
 rename_i g b ad ac
 simp only[pF,TV] at h
 refine⟨i,m,hi,hm,?_,?_⟩
 apply JQ;rw[ad]
 rw[ac,mr h.1,h.2]
 cases h
 cases h
 cases h
def axS:oA aH 146 "Len" 320 ax=ak:=by kernel_rfl
def axT:oA aH 146 "Less" 321 ax=ak:=by kernel_rfl
def axV:oA aH 146 "Swap" 322 ax=ak:=by kernel_rfl
def axU:oA aH 146 "Push" 324 ak=ak:=by kernel_rfl
def aAu:q8 aH 141=some (.one .slice):=by kernel_rfl
def anV:aH.underlying 146=some (.pointer 141):=by kernel_rfl
def aCg:kI aH 141=some (68,3,24,[.int .i64 0,.int .u64 0,.int .u64 0]):=by kernel_rfl
def ap7(x y Y:o):kH aH 141 1 #[(0,.agg #[.int .i64 x,.int .u64 y,.int .u64 Y])]=some (68,[.int .i64 x,.int .u64 y,.int .u64 Y]):=by kernel_rfl
def AH:∃k,aH.types.size+u3=k+1:=by
 have h:0<u3:=by decide
 generalize aH.types.size=a;exact⟨a+u3-1,by omega⟩
structure CE(aj:H)(n:N)(k:o)(u:H)(l:M bP):Prop where
 ex:∃s:U,u n=some (.cells #[.int .i64 k,.slice s.a s.n s.c] 143 (0,0))/\aK aj u 68 3 s (l.flatMap fX)/\s.al≠some n
 out:aj n=none
 small:l.length<=1000000
def ahV(n:N):ao:=.iface 146 (.pointer (some ((cw n 0 none).add 1)))
def Lk(n:N):(cw n 0 none).add 1=⟨n,1,none⟩:=by rw[iP]
def YI{name:String}(hm:oA aH 146 name f ax=ak)(ae:u n=some (.cells #[.int .i64 k,.slice s.a s.n s.c] 143 (0,0)))(w:cg)(hw:Sub u w):
  (method (aH.types.size+u3) 146 (.pointer (some ((cw n 0 none).add 1))) name).run aH w=.ok (f,.slice s.a s.n s.c) w:=by
 obtain⟨i,m,h1,h2,h3,a7⟩:=BB hm
 obtain⟨dV,dJ⟩:=AH
 rw[dJ]
 refine acM h1 h2 h3 a7 anV ?_
 have I:u.cell? ((cw n 0 none).add 1)=some (.slice s.a s.n s.c):=by rw[Lk];exact a8 ae 1
 have y5:=hw.cell I
 exact Jw aAu ((cw n 0 none).add 1) (vs:=[.slice s.a s.n s.c]) rfl (aci _ _ _ _ _ rfl (λj v aN=>by
  cases j with
  |zero=>simp at aN;subst aN;exact y5|succ j=>simp at aN)) (λc I=>⟨_,rfl,y5⟩)
def LZ{i:N}(h:l[i]?=some x):l.getD i default=x:=by rw[dm,h];rfl
def aBL{i j:o}{K:aD->H->Prop}(ag:lP u s l)(i0:0<=i)(i1:i<l.length)(gF:0<=j)(kO:j<l.length)
  (h:K (bw (l.getD j.toNat default) (l.getD i.toNat default)) u):aeM s i j u K:=by
 have ae:=ag.len
 apply aFt
 obtain⟨p,ad,x,J,bM,c1,c2⟩:=ag.at gF (show j<(s.n:o) by omega)
 obtain⟨q,aL,y,ai,d0,d1,d2⟩:=ag.at i0 (show i<(s.n:o) by omega)
 rw[LZ J,LZ ai] at h
 exact⟨p,ad,⟨gF,by omega⟩,q,aL,⟨i0,by omega⟩,_,bM,_,c1,_,c2,_,d0,_,d1,_,d2,KA h⟩
def aBM{i j:o}{K:H->Prop}(ab:aK aj u 68 3 s (l.flatMap fX))(i0:0<=i)(i1:i<l.length)(gF:0<=j)(kO:j<l.length)
  (h:∀u',aK aj u' 68 3 s ((jU l i.toNat j.toNat).flatMap fX)->gS u u' s->K u'):aeN s i j u K:=by
 have ag:=ab.fq
 have ae:=ag.len
 apply aFv
 obtain⟨p,ad,x,J,bM,c1,c2⟩:=ag.at gF (show j<(s.n:o) by omega)
 obtain⟨q,aL,y,ai,d0,d1,d2⟩:=ag.at i0 (show i<(s.n:o) by omega)
 refine⟨p,ad,⟨gF,by omega⟩,q,aL,⟨i0,by omega⟩,_,bM,_,c1,_,c2,_,d0,_,d1,_,d2,q,aL,⟨i0,by omega⟩,?_⟩
 refine aK.store (enc:=fX) se ab (by decide) (i:=i.toNat) (by omega) (y:=x) (EQ x) aL λaU j1 vN _=>⟨p,ad,⟨gF,by omega⟩,?_⟩
 refine aK.store (enc:=fX) se j1 (by decide) (i:=j.toNat) (by simp;omega) (y:=y) (EQ y) ad λcQ dP jk _=>h cQ ?_ (λb z aa an=>jk b z (vN b z aa an) an)
 have eU:i.toNat<l.length:=by omega
 have kM:j.toNat<l.length:=by omega
 have ex:l[j.toNat]=x:=by rw[cy kM] at J;exact cX J
 have tb:l[i.toNat]=y:=by rw[cy eU] at ai;exact cX ai
 rw[Hk eU kM,ex,tb]
 exact dP
def hd(h:hf P f=ak):∃fn,P.funcs[f]?=some fn/\fn.body.isSome=ak:=ahu h
def apL:hf aH 320=ak:=by kernel_rfl
def apM:hf aH 321=ak:=by kernel_rfl
def apQ:hf aH 322=ak:=by kernel_rfl
def apO:hf aH 324=ak:=by kernel_rfl
def CE.set{u':H}{bE:M bP}(h:CE aj n k u l)(ae:u n=some (.cells #[.int .i64 k,.slice s.a s.n s.c] 143 (0,0)))(ag:s.al≠some n)
  (ab:aK aj u' 68 3 s (bE.flatMap fX)) (he:gS u u' s) (ap:bE.length=l.length):CE aj n k u' bE:=
 ⟨⟨s,he _ _ ae ag,ab,ag⟩,h.out,by rw[ap];exact h.small⟩
def anD(aj:H)(n:N)(k:o):vr (ahV n) (CE aj n k) (λa b=>bw b a) where
 len:=by intro u l K h av;obtain⟨s,ae,ab,_⟩:=h.ex;refine⟨_,_,_,_,rfl,λw hw=>YI axS ae w hw,hd apL,aFs s u K ?_⟩;rw[ab.fq.len];exact av
 less:=by intro u l i j K h i0 i1 gF kO av;obtain⟨s,ae,ab,_⟩:=h.ex;exact⟨_,_,_,_,rfl,λw hw=>YI axT ae w hw,hd apM,aBL ab.fq i0 i1 gF kO av⟩
 swap:=by intro u l i j K h i0 i1 gF kO av;obtain⟨s,ae,ab,an⟩:=h.ex;exact⟨_,_,_,_,rfl,λw hw=>YI axV ae w hw,hd apQ,aBM ab i0 i1 gF kO λu' bQ he=>av u' (h.set ae an bQ he (pK _ _ _))⟩
 small:=λh=>by have:=h.small;omega
def YH:pb (λa b:bP=>bw b a) where
 asymm:=λa b h=>IM h
 trans:=λa b c h k=>FC k h
def apv(h:bP)(w:cg):(tE (.iface 68 (.agg #[.int .i64 h.1,.int .u64 (cZ h.2),.int .u64 (c5 h.2)])) 20 68 ak).run aH w=
  .ok (.tuple #[.agg #[.int .i64 h.1,.int .u64 (cZ h.2),.int .u64 (c5 h.2)],.bool ak]) w:=by kernel_rfl
def auj{K:H->Prop}(h:CE aj n k u l)(ap:l.length<1000000)(av:∀u',CE aj n k u' (l++ [x])->K u'):
  nn aH (ahV n) "Push" #[.iface 68 (.agg #[.int .i64 x.1,.int .u64 (cZ x.2),.int .u64 (c5 x.2)])] [] u K:=by
 obtain⟨s,ae,ab,an⟩:=h.ex
 obtain⟨i,m,h1,h2,h3,a7⟩:=BB axU
 obtain⟨dV,dJ⟩:=AH
 refine⟨_,_,_,_,rfl,λw _=>by rw[dJ];exact Km h1 h2 h3 a7 anV,hd apO,?_⟩
 refine aFu (some ((cw n 0 none).add 1)) _ u K ?_
 refine c9.pure [.int .i64 x.1,.int .u64 (cZ x.2),.int .u64 (c5 x.2),.bool ak] (λw _=>?_) (.cons (t:=.int .i64) _ (.cons (t:=.int .u64) _ (.cons (t:=.int .u64) _ (.cons (t:=.bool) _ .nil)))) ?_
 exact apv x w
 refine⟨λ_=>⟨_,rfl,s,by rw[Lk];exact a8 ae 1,?_⟩,λaa=>by cases aa⟩
 refine z1 aCg (ap7 _ _ _) (by decide) rfl (by simp[cK]) ab (by have:=ab.fq.len;omega) (by have:=ab.fq.len;omega) λau u' bQ h5 he hblk _=>⟨_,rfl,?_⟩
 have fK:=he _ _ ae an
 have kN:au.al≠some n:=λe=>by rcases hblk n e with h|h;exact an h;rw[ae] at h;cases h
 rw[Lk]
 refine⟨_,_,fK,rfl,by simp,by simp[cK],av _ ⟨⟨au,bi _ _ _,⟨?_,?_,bQ.fresh⟩,kN⟩,h.out,by simp;omega⟩⟩
 rw[agy] at bQ
 exact bQ.own.le λb z aa ci=>by rw[bq _ _ (λe=>kN (by rw[aa,e]))];exact ci
 intro b z aa
 rw[bq _ _ (λe=>by rw[e,h.out] at aa;cases aa)]
 exact bQ.le b z aa
def acW{t e:dF}{size bytes:N}{zs:M ao}(aT:kI P t=some (e,size,bytes,zs))(eH:kH P t 0 #[]=some (e,[]))(c0:0<size)
  (ag:bz u s size xs) (h1:∀y∈xs,y.oneCell'=ak) (aa:s.n*bytes<=140737488355328) {K:U->H->Prop} (av:∀au u',aK u u' e size au xs->au.n=s.n->K au u'):
  c9 P (dI t 0 #[]) [.one .slice] u λs0 aU=>c9 P (ee #[t,t] t #[.slice s0.a s0.n s0.c,.slice s.a s.n s.c]) [.one .slice] aU K:=by
 refine mA eH λg W=>?_
 have h0:=aK.make (k:=size) (H.le.refl u) W (cells:=#[]) (e:=e) (n:=0) (by omega) (by simp)
 have xA:=jo ag.cap ag.max
 refine acU aT c0 h0.own (ag.mono (bZ _ W)) h1 (by simp only[ki];exact xA) (by simpa using aa) λau u' ab ae mh _=>av au u' ⟨by simpa using ab,mh.le h0.le h0.fresh,λb2 ca=>mh.out h0.le h0.fresh b2 ca⟩ (by simpa using ae)
def acT{size:N}(h:bz u s size xs)(ae:s.a=none):xs=[]:=by rcases h.at' with h|⟨p,ad,_⟩;exact h;rw[ae] at ad;cases ad
def ap8:kH aH 38 0 #[]=some (68,[]):=by kernel_rfl
def aqa:kH aH 30 0 #[]=some (3,[]):=by kernel_rfl
def aBo(ag:lP u s l)(aa:s.n<=1099511627776)(av:∀au u',aK u u' 68 3 au (l.flatMap fX)->au.n=s.n->K au u'):VS s u K:=by
 apply aEF;refine⟨λae=>?_,λ_=>acW ans ap8 (by decide) ag ?_ (by omega) av⟩;have ap:=acT ag ae;have ia:s.n=0:=by have:=bz.len ag;rw[ap] at this;simp at this;omega
 refine av _ _ ?_ ia.symm;rw[ap];exact aK.nil (H.le.refl u) _ _;intro y ai;obtain⟨h,_,ai⟩:=ep.1 ai;exact EQ h y ai
def sN{l:M o}(ag:Ints u s l)(aa:s.n<=1099511627776)(av:∀au u',aK u u' 3 1 au (l.flatMap encI)->au.n=s.n->K au u'):o8 s u K:=by
 have gy:bz u s 1 (l.flatMap encI):=by rw[yR];exact ag
 apply aEE;refine⟨λae=>?_,λ_=>acW o4 aqa (by decide) gy ?_ (by omega) av⟩;have ap:=acT gy ae;have ia:s.n=0:=by have:=bz.len gy;rw[ap] at this;simp at this;omega
 refine av _ _ ?_ ia.symm;rw[ap];exact aK.nil (H.le.refl u) _ _;intro y ai;obtain⟨h,_,ai⟩:=ep.1 ai;exact Rn h y ai
def iZ(aj:H)(n:N)(k:o)(u:H)(S:M bP):Prop:=∃l,CE aj n k u l/\iR (λa b=>bw b a) l.length l/\l.Perm (e6 k.toNat S)
def iZ.le(h:iZ aj n k u S):aj.le u:=by obtain⟨l,h,_,_⟩:=h;obtain⟨s,_,ab,_⟩:=h.ex;exact ab.le
def iZ.mono{u':H}(h:iZ aj n k u S)(hu:u.le u'):iZ aj n k u' S:=by obtain⟨l,h,h2,h3⟩:=h;obtain⟨s,ae,ab,an⟩:=h.ex;exact⟨l,⟨⟨s,hu _ _ ae,ab.mono hu,an⟩,h.out,h.small⟩,h2,h3⟩
def iZ.nf(h:iZ aj n k u S){m:N}(hm:u m=none)(z:Obj):iZ (aj.ins m z) n k (u.ins m z) S:=by
 obtain⟨l,h,h2,h3⟩:=h;obtain⟨s,ae,ab,an⟩:=h.ex;have rE:n≠m:=λe=>by rw[e,hm] at ae;cases ae
 exact⟨l,⟨⟨s,by rw[bq _ _ rE];exact ae,ab.nf hm z,an⟩,by rw[bq _ _ rE];exact h.out,h.small⟩,h2,h3⟩
def aK.xO{e k:N}(h:aK aj u e k s xs){D:N}(eT:aj D=none)(aa:s.al≠some D)(z:Obj):aK aj (u.ins D z) e k s xs:=by refine⟨h.own.le λb x J oV=>?_,λb x J=>?_,h.fresh⟩;rw[bq _ _ (λe=>aa (by rw[J,e]))];exact oV;rw[bq _ _ (λe=>by rw[e,eT] at J;cases J)];exact h.le b x J
def iZ.perm{T:M bP}(h:iZ aj n k u S)(ad:S.Perm T):iZ aj n k u T:=by obtain⟨l,h1,h2,h3⟩:=h;exact⟨l,h1,h2,by rw[<-Ce ad];exact h3⟩
def PM{K:aA bc->o->H->Prop}(dq:k<1∨64<k->K none 1 u)(bH:1<=k->k<=64->∀n u',u.le u'->u n=none->iZ u n k u' []->K (some ⟨n,0,none⟩) 0 u'):Er k u K:=by apply aFq;refine⟨λh=>dq (.inl h),λh=>⟨λh2=>dq (.inr h2),λh2 n ae=>bH (by omega) (by omega) n _ (bZ _ ae) ae ?_⟩⟩;refine⟨[],⟨⟨⟨none,0,0⟩,bi _ _ _,aK.nil (bZ _ ae) _ _,by simp[U.al]⟩,ae,by simp⟩,λi _ hi=>by simp at hi,?_⟩;simp[e6,ng]
def PL{K:aD->H->Prop}(h:iZ aj n k u S)(cq:1<=k)(cH:k<=64)(av:∀b u',iZ aj n k u' (x::S)->K b u'):
  Ai (some ⟨n,0,none⟩) x.1 (cZ x.2) (c5 x.2) u K:=by
 obtain⟨l,dY,b5,ad⟩:=h
 obtain⟨s,ae,ab,an⟩:=dY.ex
 have hlen:=ad.length_eq
 rw[Ab] at hlen
 have dM:=ab.fq.len
 apply aFn
 have h9:u.cell? ((cw n 0 none).add 1)=some (.slice s.a s.n s.c):=by rw[Lk];exact a8 ae 1
 refine⟨λJ=>(by cases J),λ_=>⟨_,rfl,_,rfl,s,h9,k,a8 ae 0,λaHg=>⟨_,rfl,?_⟩,λfO=>?_⟩⟩
 refine amv (anD aj n k) YH (y:=x) b5 (λoi=>auj dY (by omega) oi) λu' bE gy jx mi=>av ak u' ⟨bE,gy,mi,?_⟩
 have bg:S.length<k.toNat:=by omega
 obtain⟨t1,t2⟩:=aCD (x:=x) bg
 exact jx.trans (nc _ _|>.trans ((j3 x (ad.trans t2)).trans t1.symm))
 have hk:l.length=k.toNat:=by omega
 have bg:k.toNat<=S.length:=by omega
 obtain⟨p,gD,r,O,bM,c1,c2⟩:=ab.fq.at (x:=0) (by omega) (by omega)
 obtain⟨t,rfl⟩:∃t,l=r::t:=by
  cases l with
  |nil=>simp at O|cons a t=>simp at O;subst O;exact⟨t,rfl⟩
 have k2:∀y∈r::t,bw r y=ax:=by intro y ai;obtain⟨i,hi,rfl⟩:=sE.1 ai;have:=iR.root YH b5 i hi;simpa[dm,cy hi] using this
 refine⟨_,rfl,s,h9,p,gD,⟨by omega,by omega⟩,_,bM,_,c1,_,c2,KA ⟨λaa=>av ax u ⟨r::t,dY,b5,?_⟩,λaa=>⟨_,rfl,s,h9,p,gD,⟨by omega,by omega⟩,?_⟩⟩⟩
 rw[adH bg λy ai=>FC (k2 y (ad.mem_iff.2 ai)) (by simpa using aa)]
 exact ad
 refine aK.store (enc:=fX) se ab (by decide) (i:=0) (by simp) (y:=x) (EQ x) gD λaU j1 vN _=>⟨_,rfl,?_⟩
 have awp:CE aj n k aU ((r::t).set 0 x):=dY.set ae an j1 vN (by simp)
 refine aA3 (anD aj n k) YH awp (by simp) (by simpa using b5.aqX (cC _) x) λu' bE gy jx mi=>av ak u' ⟨bE,gy,mi,?_⟩
 exact jx.trans (aCz ad k2 aa (by rw[Ab];omega))
def Kz(h:iZ aj n k u S)(av:∀au u',aK u u' 68 3 au ((e6 k.toNat S).flatMap fX)->K au u'):
  Cr (some ⟨n,0,none⟩) u K:=by
 obtain⟨l,dY,b5,ad⟩:=h
 obtain⟨s,ae,ab,an⟩:=dY.ex
 have gf:=dY.small
 have dM:=ab.fq.len
 apply aFm
 have h9:u.cell? ((cw n 0 none).add 1)=some (.slice s.a s.n s.c):=by rw[Lk];exact a8 ae 1
 refine⟨λJ=>(by cases J),λ_=>⟨_,rfl,s,h9,aBo ab.fq (by omega) λau u' bQ _=>?_⟩⟩
 refine amQ (cf:=HU) aqG (enters_of func82 (by kernel_rfl) rfl) aqK bQ (by omega) λcQ dP _=>av au cQ ?_
 rw[amk ad] at dP
 rw[<-ac3 (.refl _) (U4 _ _)] at dP
 exact dP
open Go.RowKit
def Oz(z:eN):aD:=match z.op with
 | .defer _=>ax|_=>ak
def mZ:jg->aD
 | .skip=>ak| .seq a b=>mZ a && mZ b| .cond _ a b=>mZ a && mZ b| .block _ b=>mZ b| .region _ ops _=>ops.toList.all Oz|_=>ax
def ayD{z:eN}(h:Oz z=ak):∀c,z.op≠.defer c:=λc I=>by unfold Oz at h;rw[I] at h;cases h
def aGa{ops:cv eN}{Q:kR->eo->cg->Prop}(ar:∀z∈ops.toList,Oz z=ak)(fm:¬LetsOut Q)(ro:aA N):∀(gb:N) (listed:cv aD) (a:eo) (w:cg),
  wpAny P .any ops Q gb listed a w->wpAnyIn (Fr ro) 0 P .any ops Q gb listed a w:=by
 intro gb
 induction gb with
 |zero=>intro listed a w h;exact h
 |succ gb aM=>
  intro listed a w h;refine⟨h.1,λi hi=>?_⟩;have h2:=h.2 i hi;unfold wpOp at h2;unfold wpOpIn;cases ab:ops[i]? with
  |none=>rw[ab] at h2;exact aM _ _ _ h2|some z=>rw[ab] at h2;simp only at h2 ⊢;split at h2;rename_i hw;rw[a1 hw];rcases h2 with h3|h3;exact Go.Oper.wpIn_mono (λa w h=>aM _ _ _ h) (wT ro (.inr (ayD (ar z (by rw[GF];exact TL ab)))) h3);exact aV h3.2 fm;rename_i hw;rw[aG hw];exact⟨λ_ _=>trivial,aM _ _ _ h2⟩
section
variable {C:lg} {bC:N->aD} {s:aO} {u:H} {bs:M N} {a:eo} {w:cg}
set_option maxHeartbeats 1000000 in
def Rf(fN:Good C)(ro:aA N):∀(c:jg),mZ c=ak->∀(p:N) (bC:N->aD) (Q:kR->aO->H->Prop) (s:aO) (u:H),hz C [] c p bC Q s u->
  ∀(bs:M N) (a:eo) (w:cg),Fits s bs u a w->c.wpIn (Fr ro) 0 C.P (mI bC s bs u a w (fI c) Q) a w:=by
 intro c
 induction c with
 |skip=>intro _ p bC Q s u h bs a w ac;exact wpIn_skip ⟨λ_=>r1,s,u,bs,h,ac,Step.refl ac.sub,Kept.refl _ _,λ_ _=>rfl⟩
 |region id ops br=>
  intro lm p bC Q s u h bs a w ac;cases br with
  |true=>
   simp only[mZ,OR] at lm;simp only[hz] at h;split at h;rename_i oU;have C9:Fits s bs u a {w with drawn:=w.drawn+1}:=⟨ac.toFitsE,ac.len,ac.loc,ac.nodup,ac.cm,ac.sub⟩;have hL:yv ops (DL ops.size ax):=by
    intro j z _ aN;have:(DL ops.size ax).getD j ax=ax:=by rw[BK,Array.getElem?_replicate];split<;>rfl
    rw[this] at aN;cases aN
   have tg:Cu bC s bs u a {w with drawn:=w.drawn+1} (gQ (fI (.region id ops ak))) (Q .normal) (λcT w'=>sF=.normal/\mI bC s bs u a w (fI (.region id ops ak)) Q .normal cT w'):=by intro au u' db cT w' hk cS ag jl ay;exact⟨rfl,λ_=>r1,au,u',db,hk,cS,(Step.Rm ac.sub (GL _)).trans ag,jl,ay⟩
   have cb:(Code.region id ops ak).wpIn (Fr ro) 0 C.P (λe cT w'=>e=.normal/\mI bC s bs u a w (fI (.region id ops ak)) Q .normal cT w') a w:=by refine wpIn_region_any fN.mixed (aGa lm (λap=>by obtain⟨_,_,h,_⟩:=ap;exact r1 h) ro _ _ _ _ ?_);split at h;refine ad6 (nd:=rR ops) (S:=jG s.loc bs u) _ _ _ _ ?_;exact af3 fN (ds:=gQ (fI (.region id ops ak))) (gH:=s.loc) (fV:=bs) oU (λc a w ad=>r1 ad.1) (λz ab d ar=>HY ab ar) _ _ _ s u h bs a _ _ C9 hL (by unfold left;simp) (λ_=>⟨H.le.refl u,rfl,rfl⟩) ⟨[],by simp⟩ tg;obtain⟨v0,zc,h⟩:=h;refine ad7 (R:=pc ops s.loc bs v0 u) _ _ _ _ ?_;exact af2 fN (ds:=gQ (fI (.region id ops ak))) (gH:=s.loc) (fV:=bs) zc oU (λc a w ad=>r1 ad.1) (λz ab d ar=>HY ab ar) _ _ _ s u h bs a _ _ C9 hL (by unfold left;simp) (λ_=>⟨H.le.refl u,rfl,rfl⟩) ⟨[],by simp⟩ tg
   exact ya cb λe cT w' ⟨h1,h2⟩=>by rw[h1];exact h2
   exact h.elim
  |false=>simp only[mZ,OR] at lm;simp only[hz] at h;refine wpIn_region_list (al9 fN ro (ds:=gQ (fI (.region id ops ax))) ops.toList s u bs a w h ac (.inr λz ab c I=>?_) (λz ab d ar=>HY ab ar) ?_);have:=lm z ab;unfold Oz at this;rw[I] at this;cases this;intro au u' db cT w' hk cS ag jl ay;exact⟨λ_=>r1,au,u',db,hk,cS,ag,jl,ay⟩
 |seq x y Dv Dw=>
  intro lm p bC Q s u h bs a w ac;have nF:∀d,gQ (fI (.seq x y)) d=ax->gQ (fI x) d=ax:=λd h=>by simp only[fI,DB,zL] at h;exact h.1
  have y8:∀d,gQ (fI (.seq x y)) d=ax->gQ (fI y) d=ax:=λd h=>by simp only[fI,DB,zL] at h;exact h.2
  simp only[mZ,pF] at lm;simp only[hz,Q1] at h;refine wpIn_seq (O3 ?_ (Dv lm.1 _ _ _ s u h bs a w ac));intro e cT w' ad;obtain⟨an,au,u',db,aL,cS,ag,hk,ay⟩:=ad;cases e with
  |normal=>refine O3 ?_ (Dw lm.2 _ _ _ au u' aL db cT w' cS);intro aF a2 ew eJ;exact mI.next ag hk (λd ar=>ay d (nF d ar)) (eJ.mono y8)
  |exit id=>exact⟨an,au,u',db,aL,cS,ag,hk,λd ar=>ay d (nF d ar)⟩|goto l=>exact⟨an,au,u',db,aL,cS,ag,hk,λd ar=>ay d (nF d ar)⟩|ret=>exact⟨an,au,u',db,aL,cS,ag,hk,λd ar=>ay d (nF d ar)⟩|panic c=>exact aV rfl (an c)|outgrown=>exact⟨an,au,u',db,aL,cS,ag,hk,λd ar=>ay d (nF d ar)⟩
 |cond c x y Dv Dw=>
  intro lm p bC Q s u h bs a w ac;simp only[mZ,pF] at lm;have nF:∀d,gQ (fI (.cond c x y)) d=ax->gQ (fI x) d=ax:=λd h=>by simp only[fI,DB,zL] at h;exact h.1
  have y8:∀d,gQ (fI (.cond c x y)) d=ax->gQ (fI y) d=ax:=λd h=>by simp only[fI,DB,zL] at h;exact h.2
  have J:∀(st:aO),a.eval c=.bool ak->Fits st bs u a w->(st.loc=s.loc/\st.n=s.n)->hz C [] x (2*p) bC Q st u->(Code.cond c x y).wpIn (Fr ro) 0 C.P (mI bC s bs u a w (fI (.cond c x y)) Q) a w:=by intro st I Fg dM hw;refine wpIn_cond_true I (O3 ?_ (Dv lm.1 _ _ _ st u hw bs a w Fg));intro e cT w' ad;exact mI.next (Step.refl ac.sub) ⟨dM.2,by rw[dM.1];exact cC _,λi cs e _=>by rw[dM.1];exact e⟩ (λ_ _=>rfl) (ad.mono nF)
  have ai:∀(st:aO),a.eval c=.bool ax->Fits st bs u a w->(st.loc=s.loc/\st.n=s.n)->hz C [] y (2*p+1) bC Q st u->(Code.cond c x y).wpIn (Fr ro) 0 C.P (mI bC s bs u a w (fI (.cond c x y)) Q) a w:=by intro st I Fg dM hw;refine wpIn_cond_false I (O3 ?_ (Dw lm.2 _ _ _ st u hw bs a w Fg));intro e cT w' ad;exact mI.next (Step.refl ac.sub) ⟨dM.2,by rw[dM.1];exact cC _,λi cs e _=>by rw[dM.1];exact e⟩ (λ_ _=>rfl) (ad.mono y8)
  have iU:∀v,s.sv c=some v->∀t,c=.tmp t->(look s.env t).isSome=ak:=λv aB t ht=>by subst ht;simp only[aO.sv] at aB;rw[aB];rfl
  simp only[hz] at h;split at h;rename_i I;exact J s (cX (ac.sv I)).symm ac ⟨rfl,rfl⟩ h;rename_i I;exact ai s (cX (ac.sv I)).symm ac ⟨rfl,rfl⟩ h;rename_i q d I;have fw:=(cX (ac.sv I)).symm;by_cases aL:q;have aQ:a.eval c=.bool ak:=by rw[fw];simp[aL]
  obtain⟨h1,h2⟩:=wM (x:=.iD) ac (by rw[aQ];rfl) (iU _ I);exact J _ aQ h1 h2 (h.1 aL);have aQ:a.eval c=.bool ax:=by rw[fw];simp[aL]
  obtain⟨h1,h2⟩:=wM (x:=.lU) ac (by rw[aQ];rfl) (iU _ I);exact ai _ aQ h1 h2 (h.2 aL);rename_i q d I;have fw:=(cX (ac.sv I)).symm;by_cases aL:q;have aQ:a.eval c=.bool ax:=by rw[fw];simp[aL]
  obtain⟨h1,h2⟩:=wM (x:=.lU) ac (by rw[aQ];rfl) (iU _ I);exact ai _ aQ h1 h2 (h.2 aL);have aQ:a.eval c=.bool ak:=by rw[fw];simp[aL]
  obtain⟨h1,h2⟩:=wM (x:=.iD) ac (by rw[aQ];rfl) (iU _ I);exact J _ aQ h1 h2 (h.1 aL);rename_i b I;have fw:=(cX (ac.sv I)).symm;cases b with
  |true=>obtain⟨h1,h2⟩:=wM (x:=.iD) ac (by rw[fw];rfl) (iU _ I);exact J _ fw h1 h2 (h.1 rfl)
  |false=>obtain⟨h1,h2⟩:=wM (x:=.lU) ac (by rw[fw];rfl) (iU _ I);exact ai _ fw h1 h2 (h.2 rfl)
  exact h.elim
 |block id b aM=>
  intro lm p bC Q s u h bs a w ac;simp only[mZ] at lm;simp only[hz] at h;refine wpIn_block (O3 ?_ (aM lm _ _ _ s u h bs a w ac));intro e cT w' ad;obtain⟨an,au,u',db,aL,cS,ag,hk,ay⟩:=ad;cases e with
  |exit j=>simp only at aL;simp only[Exit.inBlock];split at aL;rename_i aN;have:=mr aN;subst this;rw[a1 rfl];exact⟨λ_=>r1,au,u',db,aL,cS,ag,hk,ay⟩;rename_i aN;rw[aG (λe=>by subst e;rw[Nat.beq_refl] at aN;cases aN)];exact⟨an,au,u',db,aL,cS,ag,hk,ay⟩
  |normal=>exact⟨an,au,u',db,aL,cS,ag,hk,ay⟩|goto l=>exact⟨an,au,u',db,aL,cS,ag,hk,ay⟩|ret=>exact⟨an,au,u',db,aL,cS,ag,hk,ay⟩|panic c=>exact aV rfl (an c)|outgrown=>exact⟨an,au,u',db,aL,cS,ag,hk,ay⟩
 |label l=>intro h;simp[mZ] at h
 |ret=>intro h;simp[mZ] at h
 |exit id=>intro h;simp[mZ] at h
 |goto l=>intro h;simp[mZ] at h
 |refuse r=>intro h;simp[mZ] at h
 |rangeFunc f c7 x y=>intro h;simp[mZ] at h
 |scope b aM=>intro h;simp[mZ] at h
 |loop b aM=>intro h;simp[mZ] at h
end
def Iter{α:Type}(P:dT)(fv:ao)(enc:α->ao)(xs:M α)(u:H):Prop:=
 ∀(mE:ao) (cY:N->H->Prop),(∀i v,cY i v->u.le v)->
  (∀i y v (K:aD->H->Prop),xs[i]?=some y->cY i v->(∀b6,cY (i+1) b6->K ak b6)->Aj P mE #[enc y] [.one .bool] v K)->
  ∀v (K:H->Prop),cY 0 v->(∀b6,cY xs.length b6->K b6)->h8 P fv #[mE] [] v K
def CC(P:dT)(n:N)(assign body:jg)(env:M (N×ao))(x:N)(y:ao)(v:H)(cY:H->Prop):Prop:=
 ∀l a w,a.tmps.size=n->(∀p∈env,p.1≠x->a.tmps[p.1]?=some p.2)->a.tmps[x]?=some y->a.defers=[]->Sub v w->
  assign.wpIn (Fr (some l)) 0 P (Exit.then (λZ gk=>∃v1,Step v [] w v1 [] gk/\∀ew,Sub v1 ew->
   body.wpIn (Fr (some l)) 0 P (λe _ h7=>e=.normal/\∃v2,cY v2/\Step v1 [] ew v2 [] h7) Z ew) (λ_ _ _=>ed)) a w
def H.Jk{v:H}(h:u.le v)(b:N)(z:Obj):(u.ins b z).le (v.ins b z):=by intro x y e;unfold H.ins at e ⊢;split at e;rename_i J;rw[a1 J];exact e;rename_i J;rw[aG J];exact h x y e
def nw.intro{α:Type}{t x:N}{assign body:jg}{K:N->H->Prop}{enc:α->ao}{xs:M α}{fv:ao}{ub:H}(ci:ub.le u)
  (ac:∀f args w,(∃fn,P.funcs[f]?=some fn/\fn.body.isSome=ak)->(qW f args).run P w=.ok (.enter f args) w) (W:(t,fv)∈env) (J:x<n)
  (iK:∀aj,ub.le aj->Iter P fv enc xs aj) (cY:N->H->Prop) (h0:cY 0 u) (hle:∀i v,cY i v->ub.le v)
  (Mv:∀i y v,xs[i]?=some y->cY i v->CC P n assign body env x (enc y) v (cY (i+1)))
  (av:∀v D,cY xs.length v->v D=none->K D (v.ins D (.deferred (some [])))):nw P (.rangeFunc (.tmp t) #[x] assign body) n env u K:=by
 intro a w c0 ti Mz gW
 refine(OV (n:=0)).1 (wpIn_rangeFunc ?_)
 intro fn _
 have fw:a.eval (.tmp t)=fv:=by simp only[Act.eval];rw[BK,ti _ W];rfl
 obtain⟨rec,mV⟩:∃rec:LoopState->Loop,rec=λst=>{state:=st,pending:=none,fn,tmps:=a.tmps,params:=#[x],assign,body,defers:=w.heap.size}:=⟨_,rfl⟩
 obtain⟨jj,jZ⟩:∃jj,(w.alloc (.deferred (some []))).alloc (.loop (rec .ready))=jj:=⟨_,rfl⟩
 have ajo:jj.heap.size=w.heap.size+2:=by rw[<-jZ];simp
 have Mi:jj.heap[w.heap.size+1]?=some (.loop (rec .ready)):=by rw[<-jZ];have:=J6 (w.alloc (.deferred (some []))) (.loop (rec .ready));rwa[DK] at this
 have E1:jj.heap[w.heap.size]?=some (.deferred (some [])):=by rw[<-jZ];exact(Below.heap_alloc _ _ _ (by simp)).trans (J6 w _)
 have hold:∀b,b<w.heap.size->jj.heap[b]?=w.heap[b]?:=λb aa=>by rw[<-jZ];exact(Below.heap_alloc _ _ _ (by simp;omega)).trans (Below.heap_alloc _ _ _ aa)
 have xz:u (w.heap.size+1)=none:=gW.none (by omega)
 have C0:u w.heap.size=none:=gW.none (cC _)
 have M1:ub (w.heap.size+1)=none:=by
  cases J:ub (w.heap.size+1) with
  |none=>rfl|some z=>rw[ci _ _ J] at xz;cases xz
 have N3:ub.le (ub.ins (w.heap.size+1) (.loop (rec .ready))):=bZ _ M1
 have NS:Sub (u.ins (w.heap.size+1) (.loop (rec .ready))) jj:=by intro b z aa;unfold H.ins at aa;split at aa;rename_i eA;subst eA;cases aa;exact Mi;have:=gW b z aa;have bw:=gW.lt aa;rw[hold b bw];exact this
 have hL:=iK _ N3 (.func (.yield (w.heap.size+1)) #[] #[])
  (λi v=>∃v0,v=v0.ins (w.heap.size+1) (.loop (rec .ready))/\v0 (w.heap.size+1)=none/\v0 w.heap.size=none/\cY i v0)
  (λi v ⟨v0,aB,_,_,aN⟩=>by rw[aB];exact H.Jk (hle i v0 aN) _ _)
  (by
   rintro i y v gw ai ⟨v0,rfl,mS,ui,aN⟩ oi;refine⟨_,rfl,λbD hq=>?_⟩;have xw:bD.heap[w.heap.size+1]?=some (.loop (rec .ready)):=hq _ _ (bi _ _ _);have bw:w.heap.size+1<bD.heap.size:=(x6.1 xw).1;have nH:(Instr.yield (w.heap.size+1) #[enc y]).run P bD=.ok (.round (w.heap.size+1) fn (a.tmps.setIfInBounds x (enc y)) assign body) bD:=by have:=run_yield (P:=P) (args:=#[enc y]) xw (by rw[mV];rfl);rw[mV] at this;simpa using this
   have NT:Sub v0 bD:=hq.mono (bZ _ mS);refine⟨fn,_,assign,body,nH,acj trivial ?_⟩;refine ya (Mv i y v0 ai aN (w.heap.size+1) _ bD ?_ ?_ ?_ rfl NT) ?_;simpa using c0;intro p ad FP;show(a.tmps.setIfInBounds x (enc y))[p.1]?=_;rw[GR (dG FP)];exact ti p ad;show(a.tmps.setIfInBounds x (enc y))[x]?=_;rw[TW];simp[c0,J];intro e Z gk ad;cases e with
   |normal=>
    obtain⟨v1,dZ,aa⟩:=ad;have Dc:gk.heap[w.heap.size+1]?=some (.loop (rec .ready)):=(dZ.rest _ bw mS (by simp)).trans xw;have xy:w.heap.size+1<gk.heap.size:=(x6.1 Dc).1;have gC:v1 (w.heap.size+1)=none:=dZ.jw _ bw mS;have AN:v1 w.heap.size=none:=dZ.jw _ (by omega) ui;refine⟨_,run_beginRound Dc (by rw[mV]),ya (aa _ ?_) ?_⟩;intro b z hg;have an:b≠w.heap.size+1:=λe=>by rw[e,gC] at hg;cases hg
    exact(mu an).trans (dZ.sub b z hg);rintro e a2 h7 ⟨rfl,v2,rC,dQ⟩;have M0:(gk.putObj (w.heap.size+1) (.loop {rec .ready with state:=.busy})).heap[w.heap.size+1]?=some (.loop {rec .ready with state:=.busy}):=GM xy;have tk:h7.heap[w.heap.size+1]?=some (.loop {rec .ready with state:=.busy}):=(dQ.rest _ (by simpa using xy) gC (by simp)).trans M0;have M5:w.heap.size+1<h7.heap.size:=(x6.1 tk).1;have ia:v2 (w.heap.size+1)=none:=dQ.jw _ (by simpa using xy) gC;have pZ:=run_endRound (P:=P) none tk;have LR:({{rec .ready with state:=TX} with state:=if(none:aA jg).isNone then .ready else .done,pending:=none}:Loop)=rec .ready:=by rw[mV];rfl
    rw[LR] at pZ;refine⟨_,_,pZ,.bool ak,v2.ins (w.heap.size+1) (.loop (rec .ready)),rfl,⟨[.bool ak],.cons (t:=.bool) ak .nil,rfl,?_⟩,?_⟩;exact oi _ ⟨v2,rfl,ia,dQ.jw _ (by have:=dZ.size;simp;omega) AN,rC⟩;refine⟨λb z hg=>?_,dQ.os.trans dZ.os,dQ.tape.trans dZ.tape,dQ.output.trans dZ.output,jo dZ.drawn dQ.drawn,?_,λb aa fo _=>?_,λb aa fo=>?_,[],by simp,by simp⟩;unfold H.ins at hg;split at hg;rename_i eA;subst eA;cases hg;exact GM M5;rename_i eA;rw[mu eA];exact dQ.sub b z hg;have h1:=dZ.size;have h2:=dQ.size;simp at h2 ⊢;omega;have an:b≠w.heap.size+1:=λe=>by rw[e,bi] at fo;cases fo
    rw[bq _ _ an] at fo;have io:b<gk.heap.size:=JN aa dZ.size;rw[mu an,dQ.rest b (by simpa using io) (dZ.jw b aa fo) (by simp),mu an];exact dZ.rest b aa fo (by simp);have an:b≠w.heap.size+1:=λe=>by rw[e,bi] at fo;cases fo
    rw[bq _ _ an] at fo ⊢;exact dQ.jw b (by have:=dZ.size;simp;omega) (dZ.jw b aa fo)
   |_=>exact ad.elim)
  _ (λb6=>∃v0,b6=v0.ins (w.heap.size+1) (.loop (rec .ready))/\v0 (w.heap.size+1)=none/\v0 w.heap.size=none/\cY xs.length v0) ⟨u,rfl,xz,C0,h0⟩ (λ_ h=>h)
 obtain⟨xi,CY,cap,Fh,AR,hL⟩:=hL
 rw[Fh] at fw
 refine⟨w.heap.size+1,[{target:=.collected w.heap.size,args:=#[]}],jj,{target:=.fn (.func xi) cap,args:=CY++ #[.func (.yield (w.heap.size+1)) #[] #[]]},jj,xi,
  CY++ #[.func (.yield (w.heap.size+1)) #[] #[]]++cap,jj,?_,?_,λ_ _=>trivial,?_,λh=>by simp[u2] at h,?_⟩
 rw[<-jZ,mV];exact ack _ _ _ _ _
 simp only[resolve,fw]
 simp[go_sem]
 simp[invoke,go_sem,ac xi _ _ AR]
 refine OU.2 ((hL jj NS).mono ?_)
 rintro e h7 ⟨v,u',rfl,⟨vs,hk,rfl,I⟩,ag⟩
 cases hk
 obtain⟨v0,rfl,mS,ui,aN⟩:∃v0:H,u'=v0.ins (w.heap.size+1) (.loop (rec .ready))/\v0 (w.heap.size+1)=none/\v0 w.heap.size=none/\cY xs.length v0:=I
 have tk:h7.heap[w.heap.size+1]?=some (.loop (rec .ready)):=ag.sub _ _ (bi _ _ _)
 have Md:h7.heap[w.heap.size]?=some (.deferred (some [])):=by rw[ag.rest _ (by omega) (by rw[bq _ _ (by omega)];exact C0) (by simp)];exact E1
 have pZ:(Instr.endLoop (w.heap.size+1)).run P h7=.ok none (h7.putObj (w.heap.size+1) (.loop {rec .ready with state:=.exhausted})):=by have:=run_endLoop (P:=P) tk (by rw[mV];simp);rw[this];rw[mV]
 refine⟨none,_,pZ,rfl,rfl,w.heap.size,_,?_,av v0 w.heap.size aN ui,?_⟩
 simp[Mz,Ly]
 have uI:=ag.size
 refine⟨λb z hg=>?_,?_,?_,?_,?_,by simp;omega,λb aa fo _=>?_,λb aa fo=>?_,[],by simp,by simp⟩
 unfold H.ins at hg
 split at hg
 rename_i eA;subst eA;cases hg
 rw[mu (by omega)];exact Md
 have an:b≠w.heap.size+1:=λe=>by rw[e,mS] at hg;cases hg
 rw[mu an]
 exact ag.sub b z (by rw[bq _ _ an];exact hg)
 exact ag.os.trans (by rw[<-jZ];rfl)
 exact ag.tape.trans (by rw[<-jZ];rfl)
 exact ag.output.trans (by rw[<-jZ];rfl)
 exact jo (by rw[<-jZ];exact cC _) ag.drawn
 have an:b≠w.heap.size+1:=by omega
 rw[mu an,ag.rest b (by omega) (by rw[bq _ _ an];exact fo) (by simp)]
 exact hold b aa
 have an:b≠w.heap.size+1:=by omega
 have:=ag.jw b (by omega) (by rw[bq _ _ an];exact fo)
 rw[bq _ _ an] at this
 rw[bq _ _ (by omega)];exact this
def CC.of{C:lg}(fN:Good C){assign body:jg}{x:N}{y:ao}{v:H}{cY:H->Prop}(ay:mZ assign=ak)(aa:mZ body=ak)
  (ES:M (N×fU)) (ti:∀p∈ES,∃Y,hA [] p.2=some Y/\((p.1=x/\Y=y)∨p.1≠x/\(p.1,Y)∈env))
  (h:hz C [] assign 1 (λ_=>ak) (λe s u=>e=.normal/\s.loc=[]/\hz C [] body 1 (λ_=>ak) (λe _ u=>e=.normal/\cY u) s u) {n:=n,env:=ES,loc:=[]} v):
  CC C.P n assign body env x y v cY:=by
 intro l a w c0 he J ar ag
 have ac:Fits {n:=n,env:=ES,loc:=[]} [] v a w:=by refine⟨⟨ar,c0,λp ad=>?_⟩,rfl,λi cs e=>by simp at e,by simp,by simp,ag⟩;obtain⟨Y,h1,h2⟩:=ti p ad;refine⟨Y,h1,?_⟩;rcases h2 with⟨h3,rfl⟩|⟨h3,a7⟩;rw[h3];exact J;exact he _ a7 h3
 refine ya (Rf fN (some l) assign ay 1 _ _ _ v h [] a w ac) ?_
 rintro e Z gk ⟨_,au,u',db,⟨rfl,uA,eQ⟩,cS,dY,_,_⟩
 have kq:db=[]:=by have:=cS.len;rw[uA] at this;simpa using this
 subst kq
 refine⟨u',dY,λew Jd=>?_⟩
 have jb:Fits au [] u' Z ew:=⟨cS.toFitsE,cS.len,λi cs e=>by rw[uA] at e;simp at e,by simp,by simp,Jd⟩
 refine ya (Rf fN (some l) body aa 1 _ _ au u' eQ [] Z ew jb) ?_
 rintro e a2 h7 ⟨_,s2,cQ,HQ,⟨rfl,aN⟩,MI,Z6,_,_⟩
 exact⟨rfl,cQ,aN,Z6.forget⟩
def zU:jg->jg
 | .rangeFunc _ _ x _=>x|_=>.skip
def zV:jg->jg
 | .rangeFunc _ _ _ x=>x|_=>.skip
def nw.code{c:jg}{t x:N}{K:N->H->Prop}(I:c=.rangeFunc (.tmp t) #[x] (zU c) (zV c))(h:nw P (.rangeFunc (.tmp t) #[x] (zU c) (zV c)) n env u K):nw P c n env u K:=by rw[I];exact h
end
section
variable{u aj:H}{l:M az}{m e gb:N}{t:U}{bD:cg}{T:dF}{v:ao}{d:o}{f:o->o->o}
def Y0(h:bP):ao:=.agg #[.int .i64 h.1,.int .u64 (cZ h.2),.int .u64 (c5 h.2)]
def apF:hf aH 75=ak:=by kernel_rfl
def auS{s:U}{q:M o}(ag:eF u s l)(ht:Ints u t q)(bH:jt l q){n0 b8:N}(bM:u.cell? ⟨n0,0,none⟩=some (.slice s.a s.n s.c))(c1:u.cell? ⟨b8,0,none⟩=some (.slice t.a t.n t.c)):
  Iter aH (.func (.func 75) #[] #[.pointer (some ⟨n0,0,none⟩),.pointer (some ⟨b8,0,none⟩)]) Y0 (l.map (hM q)) u:=by
 intro mE cY k0 NH v K h0 av
 refine⟨_,_,_,rfl,hd apF,?_⟩
 have e:(#[]++ #[mE]++ #[hn (some ⟨n0,0,none⟩),.pointer (some ⟨b8,0,none⟩)]:cv ao)=#[mE,.pointer (some ⟨n0,0,none⟩),.pointer (some ⟨b8,0,none⟩)]:=by simp
 rw[e]
 have ae:=ag.len
 have AS:=bH.rows.aq
 refine aDx mE ⟨n0,0,none⟩ ⟨b8,0,none⟩ v K ⟨s,qE (k0 _ _ h0) bM,λi w=>0<=i/\i<=(s.n:o)/\cY i.toNat w,λi _=>s.n-i.toNat,⟨by omega,by omega,h0⟩,?_⟩
 rintro i w ⟨i0,i1,aN⟩
 have hle:=k0 _ _ aN
 refine⟨λhi=>?_,λhi=>av _ ?_⟩
 obtain⟨p,ad,r,O,d0,d1,aB⟩:=(ag.mono hle).at i0 hi
 have fp:=dB O
 obtain⟨ap,awN⟩:=bH.rows.v r fp
 refine⟨p,ad,⟨i0,hi⟩,_,d0,_,d1,t,qE hle c1,B6 aB (ht.mono hle) awN (by omega) bH.Ht (by omega) λx y J ai hw=>?_⟩
 have ex:x=cZ (hM q r).2:=by rw[<-show dy x y=(hM q r).2 from hw,YX ai]
 have tb:y=c5 (hM q r).2:=by rw[<-show dy x y=(hM q r).2 from hw,abj ai]
 subst ex;subst tb
 refine .inr (NH i.toNat (hM q r) w _ (by rw[jq,O];rfl) aN λb6 gE=>⟨λh=>aV rfl h,λ_=>⟨⟨by have:=ag.max;omega,by have:=ag.max;omega⟩,⟨by omega,by omega,?_⟩,by dsimp only;omega⟩⟩)
 rw[show(i+1).toNat=i.toNat+1 by omega]
 exact gE
 rw[dj]
 have:i.toNat=l.length:=by omega
 rw[<-this];exact aN
def WX:∀f args w,(∃fn,aH.funcs[f]?=some fn/\fn.body.isSome=ak)->(qW f args).run aH w=.ok (.enter f args) w:=
 λ_ args w h=>Rb (oh [] ax (oO:=[]) (oY:=[]) (part:=ax)) h args w
abbrev PQ:jg:=Kl (Tryz.f22.body.getD Go.Code.skip)
def aCy:PQ=.rangeFunc (.tmp 34) #[35] (zU PQ) (zV PQ):=by kernel_rfl
def aCE(n9:N)(y:bP)(v:H)(cY:H->Prop)(env:M (N×ao))(he:(9,hn (some ⟨n9,0,none⟩))∈env)
  (h:∀m,v m=none->H.aO (v.ins m (.cells #[.int .i64 0,.int .u64 0,.int .u64 0] 68 (0,0))) ⟨m,0,none⟩ [.int .i64 y.1,.int .u64 (cZ y.2),.int .u64 (c5 y.2)] λaU=>sF=sF/\([]:M (M ao))=[]/\
   ∃p:aA bc,aU.cell? ⟨n9,0,none⟩=some (.pointer p)/\∃dw:o,aU.cell? ⟨m,0,none⟩=some (.int .i64 dw)/\∃x2:o,aU.cell? ((cw m 0 none).add 1)=some (.int .u64 x2)/\∃jV:o,aU.cell? ((cw m 0 none).add 2)=some (.int .u64 jV)/\
    Ai p dw x2 jV aU λ_ cQ=>sF=sF/\cY cQ):
  CC aH 41 (zU PQ) (zV PQ) env 35 (Y0 y) v cY:=
 CC.of (C:={P:=aH,exp:=[11],wrap:=ax,iv:=iv}) (oh _ _) (by kernel_rfl) (by kernel_rfl) [(35,.v (Y0 y)),(9,.ptr ⟨n9,0,none⟩)] (by intro p ad;rcases cP.1 ad with rfl|ad;exact⟨_,rfl,.inl ⟨rfl,rfl⟩⟩;rcases cP.1 ad with rfl|ad;exact⟨_,rfl,.inr ⟨show(9:N)≠35 by decide,he⟩⟩;cases ad) (Eq.mp (by kernel_rfl) h)
def aBZ{y:bP}{f:H->Prop}(ac:f (u.ins m (.cells (fX y).toArray T (0,0)))):
  H.aO (u.ins m (.cells #[.int .i64 0,.int .u64 0,.int .u64 0] T (0,0))) ⟨m,0,none⟩ [.int .i64 y.1,.int .u64 (cZ y.2),.int .u64 (c5 y.2)] f:=
 nh (zs:=[.int .i64 0,.int .u64 0,.int .u64 0]) rfl (by simp[cK]) ac
def aqy{y:bP}:(u.ins m (.cells (fX y).toArray T (0,0))).cell? ⟨m,0,none⟩=some (.int .i64 y.1)/\(u.ins m (.cells (fX y).toArray T (0,0))).cell? ((cw m 0 none).add 1)=some (.int .u64 (cZ y.2))/\
  (u.ins m (.cells (fX y).toArray T (0,0))).cell? ((cw m 0 none).add 2)=some (.int .u64 (c5 y.2)):=by
 rw[iP,iP]
 refine⟨?_,?_,?_⟩<;>(rw[Lt];rfl)
def aqw{z:Obj}{a:bc}(h:u.cell? a=some v)(hm:u m=none):(u.ins m z).cell? a=some v:=qE (bZ _ hm) h
def aCr{α β:Type}(f:α->β)(l:M α)(i:N)(y:β)(h:(l.map f)[i]?=some y):(l.map f).take (i+1)=(l.map f).take i++ [y]:=by rw[gJ,h];rfl
def kT(l:M az)(q:M o)(k:o):o:=if asked l q≠0 then asked l q else if k<1∨64<k then 1 else 0
def PI{s:U}{q:M o}{k:o}{K:U->o->H->Prop}(ag:eF u s l)(ht:Ints u t q)
  (dq:kT l q k≠0->K ⟨none,0,0⟩ (kT l q k) u) (bH:jt l q->1<=k->k<=64->∀au u',aK u u' 68 3 au ((e6 k.toNat (l.map (hM q))).flatMap fX)->K au 0 u'):Em s t k u K:=by
 apply aDr
 refine amt ag ht ⟨λan=>?_,λhe=>?_⟩
 have:kT l q k=asked l q:=a1 an
 rw[this] at dq;exact dq an
 have Bd:=w7.1 he
 have p5:k<1∨64<k->kT l q k=1:=λh=>by unfold kT;rw[aG (by simpa using he),a1 h]
 intro o9 ph
 refine⟨λh1=>?_,λh1=>⟨λh2=>?_,λh2=>ph ⟨none,0,0⟩ _ _ ?_⟩⟩
 rw[p5 (.inl h1)] at dq;exact dq (by decide)
 rw[p5 (.inr h2)] at dq;exact dq (by decide)
 clear ph o9
 refine PM (λh=>by omega) λcq cH n aU hj gn NY n9 uE=>nh (zs:=[.pointer none]) rfl (by simp[cK]) ?_
 refine⟨λh=>aV rfl h,λ_=>?_⟩
 apply aDw
 intro n0 e1 b8 Nd
 have apB:aU.ins n9 (bj [hn (some ⟨n,0,none⟩)].toArray 90 (0,0))=aU.ins n9 (bj #[hn (some ⟨n,0,none⟩)] 90 (0,0)):=rfl
 rw[apB] at e1 Nd ⊢
 generalize avM:bj #[hn (some ⟨n,0,none⟩)] 90 (0,0)=wm at e1 Nd ⊢
 generalize avJ:bj #[ea s.a s.n s.c] 22 (0,0)=fi at Nd ⊢
 generalize avK:bj #[ea t.a t.n t.c] 30 (0,0)=en
 have FY:=((NY.nf uE wm).nf e1 fi).nf Nd en
 have aHU:aU.le (aU.ins n9 wm):=bZ _ uE
 have awD:u n9=none:=hj.none uE
 have rL:(u.ins n9 wm) n0=none:=(H.Jk hj n9 wm).none e1
 have aan:((u.ins n9 wm).ins n0 fi) b8=none:=(H.Jk (H.Jk hj n9 wm) n0 fi).none Nd
 have lub:u.le (((u.ins n9 wm).ins n0 fi).ins b8 en):=((bZ _ awD).trans (bZ _ rL)).trans (bZ _ aan)
 have ahB:(((u.ins n9 wm).ins n0 fi).ins b8 en) n9=some wm:=(bZ _ aan) _ _ ((bZ _ rL) _ _ (bi _ _ _))
 have bM:(((u.ins n9 wm).ins n0 fi).ins b8 en).cell? ⟨n0,0,none⟩=some (.slice s.a s.n s.c):=by refine aqw ?_ aan;rw[<-avJ];exact a8 (bi _ _ _) 0
 have c1:(((u.ins n9 wm).ins n0 fi).ins b8 en).cell? ⟨b8,0,none⟩=some (.slice t.a t.n t.c):=by rw[<-avK];exact a8 (bi _ _ _) 0
 generalize (((u.ins n9 wm).ins n0 fi).ins b8 en)=ub at FY lub ahB bM c1
 have ahI:∀w,ub.le w->w.cell? ⟨n9,0,none⟩=some (.pointer (some ⟨n,0,none⟩)):=λw hw=>by have:=hw _ _ ahB;rw[<-avM] at this;exact a8 this 0
 refine nw.code aCy (nw.intro (t:=34) FY.le WX (by simp) (by decide) (λw hw=>auS (ag.mono (lub.trans hw)) (ht.mono (lub.trans hw)) Bd (qE hw bM) (qE hw c1))
  (λi w=>iZ ub n k w ((l.map (hM q)).take i).reverse) FY (λi v aN=>aN.le) ?_ ?_)
 intro i y v ai aN
 refine aCE n9 y v _ _ (by simp) λm hm=>aBZ ⟨rfl,rfl,?_⟩
 obtain⟨d0,d1,d2⟩:=aqy (u:=v) (m:=m) (y:=y) (T:=68)
 have kL:=aN.mono (bZ (u:=v) (b:=m) (bj (fX y).toArray 68 (0,0)) hm)
 refine⟨_,ahI _ kL.le,_,d0,_,d1,_,d2,PL kL cq cH λb u' rC=>⟨rfl,?_⟩⟩
 rw[aCr _ _ _ _ ai,List.reverse_append]
 exact rC
 intro v D aN eT
 have hle:=bZ (u:=v) (b:=D) (u9 (some [])) eT
 have kL:=aN.mono hle
 refine⟨_,ahI _ kL.le,Kz kL λau u' ab=>⟨ab.le _ _ (bi _ _ _),bH Bd cq cH au _ ?_⟩⟩
 have aa:au.al≠some D:=λe=>by have:=ab.fresh D e;rw[bi] at this;cases this
 have dP:=ab.weaken (lub.trans kL.le)
 rw[dj,gY (by simp),Ce (List.reverse_perm _)] at dP
 exact dP.xO ((lub.trans aN.le).none eT) aa _
def within(R:o)(l:M bP):M bP:=ng (l.filter λh=>decide (h.2<=R))
def Hj{n:N}{mY:ao}{f:H->Prop}(ae:u n=some (.cells #[mY] T (0,0)))(h1:v.oneCell'=ak)(ac:f (u.ins n (.cells #[v] T (0,0)))):H.aO u ⟨n,0,none⟩ [v] f:=
 ⟨_,_,ae,rfl,by simp,by simp[h1],ac⟩
def Aw(x:o):kH aH 30 1 #[(0,.int .i64 x)]=some (3,[.int .i64 x]):=by kernel_rfl
def ayS{k:N}{s:U}{xs:M ao}{b:N}{l:M o}(h:aK aj u e k s xs)(aa:tV u b l):s.al≠some b:=by
 intro J;obtain⟨es,c,Yv,_⟩:=aa;rcases h.own.is with h0|⟨g,cur,ay,W,_⟩;rw[h0] at J;simp[U.al] at J;have:g=b:=by simpa[U.al,ay] using J
 rw[this,Yv] at W;cases W
def U3{i:N}{r:az}(h:l[i]?=some r):(l.take (i+1)).map (·.id)=(l.take i).map (·.id)++ [r.id]:=by rw[gJ,h];simp
def am3{s:U}{K:U->o->H->Prop}(ag:eF u s l)(bH:hp l d)(av:∀au u',aK u u' 3 1 au ((dS (l.map (·.id))).flatMap encI)->K au 0 u'):QK s d u K:=by
 have ae:=ag.len;have hlen:=bH.len;apply aFH;refine⟨λh=>by omega,λ_=>acY λb aa kx=>?_⟩;refine⟨λ_ _ oH i v=>0<=i/\i<=(s.n:o)/\tV v b ((l.take i.toNat).map (·.id))/\aK u v 3 1 oH (((l.take i.toNat).map (·.id)).flatMap encI),λ_ _ _ i _=>s.n-i.toNat,
  ⟨by omega,by omega,by simpa using kx,aK.nil (bZ _ aa) _ _⟩,?_⟩
 rintro q5 n1 oH i v ⟨i0,i1,kx,ab⟩;refine⟨λhi=>?_,λhi=>?_⟩;obtain⟨p,ad,r,O,bM,c1,aB⟩:=(ag.mono ab.le).at i0 hi;have fp:=dB O;have cm:=bH.id r fp;obtain⟨Bq,F5⟩:=bH.v r fp;have oR:r.id∉(l.take i.toNat).map (·.id):=by have b3:=bH.nodup;have gW:((l.take (i.toNat+1)).map (·.id)).Nodup:=List.Nodup.sublist (acm _ (r3 _ _)) b3;rw[U3 O] at gW;exact λhm=>(fZ.1 gW).2.2 _ hm _ (by simp) rfl
 have xL:hv r.v d=0:=by rw[<-Bq];exact BF F5 (by have:=bH.aq;omega)
 refine⟨p,ad,⟨i0,hi⟩,_,bM,_,c1,λaGw asW=>⟨λh=>by omega,λ_=>⟨λh=>by omega,λ_=>acX Ha kx ⟨λh=>aV (by simpa using h) oR,λ_=>asW _ _ _ ?_⟩⟩⟩⟩;refine qj aB ⟨λh=>aV xL h,λ_=>UB Ha kx oR λb6 NO pn j0=>?_⟩;have an:=ayS ab kx;have bQ:aK u b6 3 1 oH (((l.take i.toNat).map (·.id)).flatMap encI):=
  ⟨ab.own.le λg z W awL=>pn g z awL (λe=>an (by rw[W,e])),λg z W=>pn g z (ab.le g z W) (λe=>by rw[e,aa] at W;cases W),ab.fresh⟩
 have qK:=bQ.ints.len;simp only[dj,gq] at qK;refine nV o4 (Aw _) (by decide) rfl (by simp[cK]) bQ (by omega) (by omega) λau u' dP fK eL eA _=>⟨⟨by omega,by omega⟩,⟨by omega,by omega,?_,?_⟩,by dsimp only;omega⟩;rw[show(i+1).toNat=i.toNat+1 by omega,U3 O];obtain⟨es,c,h1,h2⟩:=NO;exact⟨es,c,eL _ _ h1 an,h2⟩;rw[show(i+1).toNat=i.toNat+1 by omega,U3 O,gZ];exact dP;have qI:i.toNat=l.length:=by omega
 rw[qI,oE] at ab;exact He ab (by simp;omega) λu' bQ _=>av oH u' bQ
def lq(acc v:M o):M o:=lA (λa x=>if x<a then x else a) acc v
def lr(acc v:M o):M o:=lA (λa x=>if x>a then x else a) acc v
def mN(l:M az):M o:=l.foldl (λacc r=>lq acc r.v) (l.headD ⟨0,⟨none,0,0⟩,[]⟩).v
def mM(l:M az):M o:=l.foldl (λacc r=>lr acc r.v) (l.headD ⟨0,⟨none,0,0⟩,[]⟩).v
def wU{a v:M o}(h:a.length=v.length):(lA f a v).length=a.length:=by simp[h]
def Vn{a v:M o}(h:a.length=v.length){j:N}(aN:j<a.length):
  ((lA f a v).take j++a.drop j).set j (f (a.getD j 0) (v.getD j 0))=(lA f a v).take (j+1)++a.drop (j+1):=by
 have aC:=wU (f:=f) h
 have asc:a.getD j 0=a[j]:=by rw[dm,cy aN];rfl
 have auU:j<v.length:=by omega
 have asm:v.getD j 0=v[j]:=by rw[dm,cy auU];rfl
 rw[asc,asm,List.set_append_right _ _ (by simp;omega)]
 have e:j-((lA f a v).take j).length=0:=by simp;omega
 rw[e,tF aN,OY,gJ,cy (by rw[aC];exact aN)]
 simp
def Vm{a v:M o}(h:a.length=v.length){j:N}(aN:j<a.length):((lA f a v).take j++a.drop j).getD j 0=a.getD j 0:=by
 have aC:=wU (f:=f) h;rw[dm,JS (by simp;omega)];have e:j-((lA f a v).take j).length=0:=by simp;omega
 rw[e,u5,dm];simp
def agB{f:M o->M o->M o}(ac:∀a v:M o,a.length=v.length->(f a v).length=a.length):∀(l:M az) (a:M o),(∀r∈l,r.v.length=a.length)->(l.foldl (λacc r=>f acc r.v) a).length=a.length:=by
 intro l;induction l with
 |nil=>intro a _;rfl
 |cons r l aM=>intro a h;have h1:=ac a r.v (h r (by simp)).symm;rw[J7,aM _ (λx J=>by rw[h1];exact h x (by simp[J])),h1]
def agC{f:M o->M o->M o}{i:N}{r:az}{a:M o}(h:l[i]?=some r):(l.take (i+1)).foldl (λacc r=>f acc r.v) a=f ((l.take i).foldl (λacc r=>f acc r.v) a) r.v:=by rw[gJ,h];simp
def aK.af8{s:U}{l:M o}(h:aK aj u e 1 s (l.flatMap encI)){x:o}(h0:0<=x)(h1:x<(s.n:o)):∃p,s.a=some p/\u.cell? (p.add (x.toNat*1))=some (.int .i64 (l.getD x.toNat 0)):=h.ints.at h0 h1
def am0{s:U}{K:o->U->U->o->o->U->o->H->Prop}(ag:eF u s l)(bH:hp l d)(an:l≠[])
  (av:∀bp aI j4 u',aK u u' 3 1 bp ((mN l).flatMap encI)->aK u u' 3 1 aI ((mM l).flatMap encI)->aK u u' 3 1 j4 ((dS (l.map (·.id))).flatMap encI)->
   bp.al≠aI.al->bp.al≠j4.al->aI.al≠j4.al->K 2 bp aI 0 0 j4 0 u'):QH s d u K:=by
 have ae:=ag.len
 have hlen:=bH.len
 have AS:=bH.aq
 have oT:0<l.length:=vc.2 an
 apply aFy
 refine adq ⟨λh=>aV (by simp;omega) h,λ_=>⟨λh=>by omega,λ_=>am3 ag bH λj4 nX FW=>⟨λh=>aV rfl h,λ_=>?_⟩⟩⟩
 obtain⟨p,ad,r,O,bM,c1,aB⟩:=(ag.mono FW.le).at (x:=0) (by omega) (by omega)
 have ln:l[0]?=some r:=O
 have fp:=dB O
 have aic:l.headD ⟨0,⟨none,0,0⟩,[]⟩=r:=by
  cases l with
  |nil=>simp at ln|cons a l=>simp at ln;simp[ln]
 have Bq:=(bH.v r fp).1
 have N6:=aB.len
 refine⟨p,ad,⟨by omega,by omega⟩,p,ad,⟨by omega,by omega⟩,r.s,c1,r.s,c1,?_⟩
 refine sN aB (by omega) λbp hQ sq _=>⟨sq.le,sN (aB.mono sq.le) (by omega) λaI gK fE _=>?_⟩
 have awl:=sq.mono fE.le
 have ZX:=fE.weaken sq.le
 have p1:∀g,bp.al=some g->aI.al≠some g:=by
  intro g W hh;have h1:=fE.fresh g hh;rcases sq.own.is with h0|⟨b2,cur,ay,ca,_⟩;rw[h0] at W;simp[U.al] at W;have:b2=g:=by simpa[U.al,ay] using W
  rw[this,h1] at ca;cases ca
 have ef:∀x∈l,x.v.length=r.v.length:=λx J=>by have:=(bH.v x J).1;omega
 have akk:∀i,((l.take i).foldl (λacc r=>lq acc r.v) r.v).length=r.v.length:=λi=>agB (λa v h=>wU h) _ _ λx J=>ef x (mx J)
 have akj:∀i,((l.take i).foldl (λacc r=>lr acc r.v) r.v).length=r.v.length:=λi=>agB (λa v h=>wU h) _ _ λx J=>ef x (mx J)
 refine⟨λi v=>0<=i/\i<=(s.n:o)/\aK nX v 3 1 bp (((l.take i.toNat).foldl (λacc r=>lq acc r.v) r.v).flatMap encI)/\aK nX v 3 1 aI (((l.take i.toNat).foldl (λacc r=>lr acc r.v) r.v).flatMap encI),
  λi _=>s.n-i.toNat,⟨by omega,by omega,by simpa using awl,by simpa using ZX⟩,?_⟩
 rintro i v ⟨i0,i1,gC,Fm⟩
 refine⟨λhi=>?_,λhi=>?_⟩
 obtain⟨q,aL,x,J,d0,d1,Oc⟩:=(ag.mono (FW.le.trans gC.le)).at i0 hi
 have F6:=dB J
 have fh:=ef x F6
 have S3:=Oc.len
 have KQ:=akk i.toNat
 have Vl:=akj i.toNat
 have PB:=agC (f:=lq) (a:=r.v) J
 have amf:=agC (f:=lr) (a:=r.v) J
 generalize (l.take i.toNat).foldl (λacc r=>lq acc r.v) r.v=A at gC KQ PB
 generalize (l.take i.toNat).foldl (λacc r=>lr acc r.v) r.v=B at Fm Vl amf
 refine⟨q,aL,⟨i0,hi⟩,_,d0,_,d1,λj w=>0<=j/\j<=(x.s.n:o)/\aK nX w 3 1 bp (((lq A x.v).take j.toNat++A.drop j.toNat).flatMap encI)/\aK nX w 3 1 aI (((lr B x.v).take j.toNat++B.drop j.toNat).flatMap encI),
  λj _=>x.s.n-j.toNat,⟨by omega,by omega,by simpa using gC,by simpa using Fm⟩,?_⟩
 rintro j w ⟨gF,kO,ia,y9⟩
 have akq:∀k,((lq A x.v).take k++A.drop k).length=A.length:=λk=>by simp[lq];omega
 have akp:∀k,((lr B x.v).take k++B.drop k).length=B.length:=λk=>by simp[lr];omega
 refine⟨λaN=>?_,λaN=>?_⟩
 have dM:=ia.ints.len
 have auA:=y9.ints.len
 rw[akq] at dM
 rw[akp] at auA
 obtain⟨azm,FP,HW⟩:=((ag.mono (FW.le.trans ia.le)).2 x F6).at gF aN
 obtain⟨pl,lm,cl⟩:=ia.af8 gF (by omega)
 obtain⟨ak6,jn,HT⟩:=y9.af8 gF (by omega)
 unfold lq at cl
 unfold lr at HT
 rw[Vm (a:=A) (v:=x.v) (by omega) (j:=j.toNat) (by omega)] at cl
 rw[Vm (a:=B) (v:=x.v) (by omega) (j:=j.toNat) (by omega)] at HT
 refine⟨azm,FP,⟨gF,aN⟩,_,HW,pl,lm,⟨gF,by omega⟩,ak6,jn,⟨gF,by omega⟩,_,cl,_,HT,pl,lm,⟨gF,by omega⟩,?_⟩
 refine aK.store (enc:=encI) od ia (by decide) (i:=j.toNat) (by rw[akq];omega) (y:=if x.v.getD j.toNat 0<A.getD j.toNat 0 then x.v.getD j.toNat 0 else A.getD j.toNat 0) (Rn _) lm λwQ A0 C8 _=>⟨ak6,jn,⟨gF,by omega⟩,?_⟩
 have aia:=y9.else C8 ia.fresh p1
 refine aK.store (enc:=encI) od aia (by decide) (i:=j.toNat) (by rw[akp];omega) (y:=if x.v.getD j.toNat 0>B.getD j.toNat 0 then x.v.getD j.toNat 0 else B.getD j.toNat 0) (Rn _) jn λanK YS auc _=>⟨⟨by omega,by omega⟩,⟨by omega,by omega,?_,?_⟩,by dsimp only;omega⟩
 have Y5:=A0.else auc aia.fresh (λg W hh=>p1 g hh W)
 rw[show(j+1).toNat=j.toNat+1 by omega]
 have:=Vn (f:=λa x=>if x<a then x else a) (a:=A) (v:=x.v) (by omega) (j:=j.toNat) (by omega)
 unfold lq at Y5 ⊢
 rw[this] at Y5
 exact Y5
 rw[show(j+1).toNat=j.toNat+1 by omega]
 have:=Vn (f:=λa x=>if x>a then x else a) (a:=B) (v:=x.v) (by omega) (j:=j.toNat) (by omega)
 unfold lr at YS ⊢
 rw[this] at YS
 exact YS
 have kL:j.toNat=x.v.length:=by omega
 refine⟨⟨by omega,by omega⟩,⟨by omega,by omega,?_,?_⟩,by dsimp only;omega⟩
 rw[show(i+1).toNat=i.toNat+1 by omega,PB]
 rw[kL,gY (by unfold lq;rw[wU (by omega)];omega),sC (by omega),lB] at ia
 exact ia
 rw[show(i+1).toNat=i.toNat+1 by omega,amf]
 rw[kL,gY (by unfold lr;rw[wU (by omega)];omega),sC (by omega),lB] at y9
 exact y9
 have qI:i.toNat=l.length:=by omega
 rw[qI,oE] at gC Fm
 have Xk:mN l=l.foldl (λacc r=>lq acc r.v) r.v:=by unfold mN;rw[aic]
 have arf:mM l=l.foldl (λacc r=>lr acc r.v) r.v:=by unfold mM;rw[aic]
 have ajj:∀g,j4.al=some g->nX g≠none:=by
  intro g W;rcases FW.own.is with h0|⟨b2,cur,ay,ca,_⟩;rw[h0] at W;simp[U.al] at W;have:b2=g:=by simpa[U.al,ay] using W
  rw[<-this,ca];simp
 have iU:∀(adD:U) (L:M o),aK nX v 3 1 adD (L.flatMap encI)->0<L.length->∃g,adD.al=some g:=by intro adD L J c6;rcases J.own.is with h0|⟨g,cur,ay,_⟩;have:=J.ints.len;rw[h0] at this;simp at this;omega;exact⟨g,by simp[U.al,ay]⟩
 have Jb:0<r.v.length:=by omega
 have KQ:=akk l.length
 have Vl:=akj l.length
 rw[oE] at KQ Vl
 obtain⟨L4,ux⟩:=iU bp _ gC (by rw[KQ];exact Jb)
 obtain⟨L3,ah5⟩:=iU aI _ Fm (by rw[Vl];exact Jb)
 refine av bp aI j4 v (by rw[Xk];exact gC.weaken FW.le) (by rw[arf];exact Fm.weaken FW.le) (FW.mono gC.le) ?_ ?_ ?_
 rw[ux];exact λe=>p1 L4 ux e.symm
 rw[ux];exact λe=>ajj L4 e.symm (gC.fresh L4 ux)
 rw[ah5];exact λe=>ajj L3 e.symm (Fm.fresh L3 ah5)
def kk:kI aH 22=some (52,2,32,[.int .i64 0,.slice none 0 0]):=by kernel_rfl
def eF.part{s:U}{L:M az}(ag:eF u s L){l h:N}(h1:l<=h)(h2:h<=s.n)(h3:h<=m)(a7:m<=s.c):eF u (s.part l h m 2) ((L.drop l).take (h-l)):=by refine⟨?_,λr O=>ag.2 r (sG (mx O))⟩;have:=bz.part ag.1 h1 h2 h3 a7;rw[XB fM,yT fM] at this;exact this
def hp.sub{bE:M az}(h:hp l d)(ag:bE.Sublist l):hp bE d:=
 ⟨h.aq,jo ag.length_le h.len,λr O=>h.id r (ag.mem O),h.nodup.sublist (ag.map _),λr O=>h.v r (ag.mem O)⟩
def jt.sub{bE:M az}{q:M o}(h:jt l q)(ag:bE.Sublist l):jt bE q:=⟨h.Ht,h.rows.sub ag⟩
def afw(a b c:U)(x y Y:o):kH aH 39 1 #[(0,.agg #[.int .i64 x,.slice a.a a.n a.c,.slice b.a b.n b.c,.int .u64 y,.int .u64 Y,.slice c.a c.n c.c])]=
  some (102,[.int .i64 x,.slice a.a a.n a.c,.slice b.a b.n b.c,.int .u64 y,.int .u64 Y,.slice c.a c.n c.c]):=by kernel_rfl
structure Vo(aj u:H)(aI ss bd:U)(e0:M bP)(seen:M o)(rest:M az):Prop where
 h:aK aj u 68 3 aI (e0.flatMap fX)
 s:aK aj u 3 1 ss (seen.flatMap encI)
 ag:∀g,aI.al=some g->ss.al≠some g
 r:(rest=[]/\bd=⟨none,0,0⟩)∨rest≠[]/\bd.n=1/\∃a b c:U,aK aj u 102 6 bd [.int .i64 2,.slice a.a a.n a.c,.slice b.a b.n b.c,.int .u64 0,.int .u64 0,.slice c.a c.n c.c]/\
  aK aj u 3 1 a ((mN rest).flatMap encI)/\aK aj u 3 1 b ((mM rest).flatMap encI)/\aK aj u 3 1 c ((dS (rest.map (·.id))).flatMap encI)/\
  a.al≠b.al/\a.al≠c.al/\b.al≠c.al/\(∀x∈[a,b,c],∀g,x.al=some g->aI.al≠some g/\ss.al≠some g/\bd.al≠some g)/\(∀g,bd.al=some g->aI.al≠some g/\ss.al≠some g)
def Aa(l:M az)(q:M o)(k b:o):o:=if asked l q≠0 then asked l q else if k<1∨64<k∨b<0∨1000000<b then 1 else 0
def dL{k:N}{s:U}{xs:M ao}(h:aK aj u e k s xs){g:N}(W:s.al=some g):u g≠none:=by
 rcases h.own.is with h0|⟨b2,cur,ay,ca,_⟩;rw[h0] at W;simp[U.al] at W;have:b2=g:=by simpa[U.al,ay] using W
 rw[<-this,ca];simp
def aAX{s:U}{q:M o}{k b:o}{K:U->U->U->o->H->Prop}(ag:eF u s l)(ht:Ints u t q)
  (dq:Aa l q k b≠0->K ⟨none,0,0⟩ ⟨none,0,0⟩ ⟨none,0,0⟩ (Aa l q k b) u)
  (bH:jt l q->1<=k->k<=64->0<=b->b<=1000000->∀aI ss bd u',u.le u'->Vo u u' aI ss bd (e6 k.toNat ((l.take b.toNat).map (hM q))) (dS ((l.take b.toNat).map (·.id))) (l.drop b.toNat)->K aI ss bd 0 u'):
  Qi s t k b u K:=by
 have ae:=ag.len
 apply aDq
 refine amt ag ht ⟨λan=>?_,λhe=>?_⟩
 have:Aa l q k b=asked l q:=a1 an
 rw[this] at dq;exact dq an
 have aL:=w7.1 he
 have hlen:=aL.rows.len
 have MF:k<1∨64<k∨b<0∨1000000<b->K ⟨none,0,0⟩ ⟨none,0,0⟩ ⟨none,0,0⟩ 1 u:=λh=>by
  have:Aa l q k b=1:=by unfold Aa;rw[aG (by simpa using he),a1 h]
  rw[this] at dq;exact dq (by decide)
 intro o9 ph
 have bad:(k<1∨64<k∨b<0∨1000000<b)->o9 ak u:=λh=>ph _ _ ⟨λ_=>MF h,λaa=>by cases aa⟩
 refine⟨λh1=>bad (.inl h1),λh1=>⟨λh2=>bad (.inr (.inl h2)),λh2=>⟨λh3=>bad (.inr (.inr (.inl h3))),λh3=>ph _ _ ⟨λaa=>?_,λaa=>?_⟩⟩⟩⟩
 have:1000000<b:=by simpa using aa
 exact MF (.inr (.inr (.inr this)))
 have a7:b<=1000000:=by
  have:¬1000000<b:=by simpa using aa
  omega
 clear bad MF ph o9
 have iH:s.n<=s.c:=bz.cap ag.1
 have Zf:(if(s.n:o)<b then(s.n:o) else b)=((min s.n b.toNat:N):o):=by split<;>omega
 have Bh:l.take (min s.n b.toNat)=l.take b.toNat:=by rw[ae,List.take_eq_take_iff];omega
 have MC:l.drop (min s.n b.toNat)=l.drop b.toNat:=by rw[ae];rcases Nat.le_total l.length b.toNat with h|h;rw[BR h,sC (cC _),sC h];rw[Nat.min_eq_right h]
 rw[Zf]
 refine o3 (l:=0) (h:=min s.n b.toNat) (m:=s.c) kk (.inl ⟨rfl,rfl⟩) (.inr rfl) (.inl ⟨rfl,rfl⟩) (q0 _) (by omega) (cC _) iH ?_
 have NK:=ag.part (l:=0) (h:=min s.n b.toNat) (m:=s.c) (q0 _) (by omega) (by omega) (cC _)
 rw[TY,DP,Bh] at NK
 generalize zg:s.part 0 (min s.n b.toNat) s.c 2=lE at NK
 have avs:lE.n=min s.n b.toNat:=by rw[<-zg];rfl
 have aHp:=NK.len
 have av2:jt (l.take b.toNat) q:=aL.sub (r3 _ _)
 have p5:kT (l.take b.toNat) q k=0:=by unfold kT;rw[aG (by simp[w7.2 av2]),aG (by omega)]
 refine PI NK ht (λh=>aV p5 h) λ_ cq cH Pp pM Ba=>?_
 refine⟨λi la Kn q3 v=>0<=i/\i<=(lE.n:o)/\la=Pp/\q3=⟨none,0,0⟩/\aK pM v 3 1 Kn ((((l.take b.toNat).take i.toNat).map (·.id)).flatMap encI),λi _ _ _ _=>lE.n-i.toNat,
  ⟨by omega,by omega,rfl,rfl,by simpa using aK.nil (H.le.refl pM) _ _⟩,?_⟩
 rintro i la Kn q3 v ⟨i0,i1,ara,arb,ab⟩
 obtain rfl:la=Pp:=ara
 obtain rfl:q3=⟨none,0,0⟩:=arb
 change aK pM v _ 1 Kn _ at ab
 refine⟨λhi=>?_,λhi=>?_⟩
 obtain⟨p,ad,r,O,bM,c1,aB⟩:=(NK.mono (Ba.le.trans ab.le)).at i0 hi
 have qK:=ab.ints.len
 simp only[dj,gq] at qK
 refine⟨p,ad,⟨i0,hi⟩,_,bM,_,c1,nV o4 (Aw _) (by decide) rfl (by simp[cK]) ab (by omega) (by omega) λau u' dP fK eL eA _=>⟨⟨by omega,by omega⟩,⟨by omega,by omega,rfl,rfl,?_⟩,by dsimp only;omega⟩⟩
 rw[show(i+1).toNat=i.toNat+1 by omega,U3 O,gZ]
 exact dP
 have qI:i.toNat=(l.take b.toNat).length:=by omega
 rw[qI,oE] at ab
 refine He ab (by simp;omega) λmB nG _=>?_
 have aiP:lE.n<=s.n:=by omega
 refine o3 (l:=lE.n) (h:=s.n) (m:=s.c) kk (.inr rfl) (.inl ⟨rfl,rfl⟩) (.inl ⟨rfl,rfl⟩) aiP iH (cC _) iH ?_
 have Fz:=Ba.le.trans nG.le
 have I4:=(ag.mono Fz).part (l:=lE.n) (h:=s.n) (m:=s.c) aiP (cC _) iH (cC _)
 have v7:(l.drop lE.n).take (s.n-lE.n)=l.drop b.toNat:=by rw[gY (by simp;omega),avs,MC]
 rw[v7] at I4
 have IQ:=I4.len
 generalize s.part lE.n s.n s.c 2=hr at I4 IQ
 have ajh:∀g,la.al=some g->Kn.al≠some g:=λg W hh=>dL Ba W (nG.fresh g hh)
 refine⟨λoT=>?_,λoT=>bH aL cq cH (by omega) a7 la Kn _ mB Fz ⟨Ba.mono nG.le,nG.weaken Ba.le,ajh,.inl ⟨kS (by omega),rfl⟩⟩⟩
 have an:l.drop b.toNat≠[]:=λe=>by rw[e] at IQ;simp at IQ;omega
 have AS:=aL.rows.aq
 have FU:hp (l.drop b.toNat) (t.n:o):=by rw[ht.len];exact aL.rows.sub (O4 _ _)
 refine am0 I4 FU an λbp aI j4 ni h1 h2 h3 b8 ek lu=>⟨λh=>aV rfl h,λ_=>?_⟩
 refine mA (afw bp aI j4 2 0 0) λg W=>?_
 have bO:=aK.make (k:=6) (H.le.refl ni) W (cells:=[cJ .i64 2,.slice bp.a bp.n bp.c,.slice aI.a aI.n aI.c,.int .u64 0,.int .u64 0,.slice j4.a j4.n j4.c].toArray) (e:=102) (n:=1) (by omega) (by simp)
 have Sv:=bZ (u:=ni) (b:=g) (bj [cJ .i64 2,.slice bp.a bp.n bp.c,.slice aI.a aI.n aI.c,.int .u64 0,.int .u64 0,.slice j4.a j4.n j4.c].toArray 102 (0,0)) W
 have ef:mB.le (ni.ins g (bj [cJ .i64 2,.slice bp.a bp.n bp.c,.slice aI.a aI.n aI.c,.int .u64 0,.int .u64 0,.slice j4.a j4.n j4.c].toArray 102 (0,0))):=h1.le.trans Sv
 refine bH aL cq cH (by omega) a7 la Kn _ _ (Fz.trans ef) ⟨(Ba.mono nG.le).mono ef,(nG.weaken Ba.le).mono ef,ajh,.inr ⟨an,rfl,bp,aI,j4,bO.weaken (Fz.trans h1.le),(h1.weaken Fz).mono Sv,(h2.weaken Fz).mono Sv,(h3.weaken Fz).mono Sv,b8,ek,lu,?_,?_⟩⟩
 intro x J b2 ca
 have Fi:mB b2=none/\ni b2≠none:=by simp only[cP,qe,qf] at J;rcases J with rfl|rfl|rfl;exact⟨h1.fresh b2 ca,dL h1 ca⟩;exact⟨h2.fresh b2 ca,dL h2 ca⟩;exact⟨h3.fresh b2 ca,dL h3 ca⟩
 refine⟨λe=>dL (Ba.mono nG.le) e Fi.1,λe=>dL nG e Fi.1,λe=>?_⟩
 have:g=b2:=by simpa[U.al] using e
 rw[<-this] at Fi
 exact Fi.2 W
 intro b2 ca
 have:g=b2:=by simpa[U.al] using ca
 subst this
 exact⟨λe=>dL ((Ba.mono nG.le).mono h1.le) e W,λe=>dL (nG.mono h1.le) e W⟩
structure Wj(u:H)(s t:U)(l:M az)(q:M o):Prop where
 rows:eF u s l
 q:Ints u t q
 small:∀r∈l,r.v.length<=17592186044416
 ac2:s.n<=17592186044416
def Wj.mono{u':H}{s:U}{q:M o}(h:Wj u s t l q)(k:u.le u'):Wj u' s t l q:=⟨h.rows.mono k,h.q.mono k,h.small,h.ac2⟩
def lP.part{s:U}{L:M bP}(ag:lP u s L){l h:N}(h1:l<=h)(h2:h<=s.n)(h3:h<=m)(a7:m<=s.c):lP u (s.part l h m 3) ((L.drop l).take (h-l)):=by have:=bz.part ag h1 h2 h3 a7;rw[XB se,yT se] at this;exact this
open Go.ChangeShapes Go.WideShapes Go.ChangeAt Go.RowKit
def whole(bD:cg):H:=λb=>bD.heap[b]?
def aoj(bD:cg):Sub (whole bD) bD:=λ_ _ e=>e
def Vk(bD:cg)(a:bc):(whole bD).cell? a=bD.cell? a:=rfl
def Step.below{yC:cg}{u':H}{bs:M N}(h:Step (whole bD) [] bD u' bs yC)(k:(whole bD).le u'):Below bD.heap.size bD yC:=
 ⟨h.os,h.tape,h.output,h.size,λb aa=>by have:bD.heap[b]?=some bD.heap[b]:=x3 aa;rw[this];exact h.sub b _ (k b _ this)⟩
def HS:aH.cellsOf 3=1:=by kernel_rfl
def W1:aH.cellsOf 30=1:=by kernel_rfl
def W2:aH.cellsOf 52=2:=by kernel_rfl
def aqx:aH.cellsOf 26=1:=by kernel_rfl
def aGF:aH.cellsOf 66=2:=by kernel_rfl
def aqh:aH.bytesOf 3=8:=by kernel_rfl
def aqi:aH.bytesOf 52=32:=by kernel_rfl
section
variable {mF:Type} {enc:dF×ao->mF}
def aoh{P:dT}{e:dF}{d:DataW mF}:∀{ds:M (DataW mF)} {i:N},ds[i]?=some d->∀n∈d.weights P e,n∈GW P e ds:=by
 intro ds;induction ds with
 |nil=>intro i h;simp at h
 |cons x ds aM=>
  intro i h n ae;simp only[GW,cM];cases i with
  |zero=>simp at h;subst h;exact .inl ae|succ i=>exact .inr (aM (by simpa using h) n ae)
def OH{a:aA bc}{len cap:N}{x:DataW mF×M MemPlace}(h:qg enc aH bD 0 (λ_=>ak) ak gb 30 [.slice a len cap]=some x)(hw:∀n∈x.1.weights aH 30,n<=q1):
  ∃q:M o,Ints (whole bD) ⟨a,len,cap⟩ q/\q.length<=17592186044416:=by
 have O:q1=140737488351232:=by decide
 rcases open_ints underlying30 yb HS h with⟨dK,_⟩|⟨p,l,c,zs,dK,_,ap,hm,aC,J,fP,aax⟩
 simp only[u7,J8,r5] at dK
 obtain⟨rfl,rfl,rfl⟩:=dK
 exact⟨[],⟨rfl,cC _,by simp,.inl rfl⟩,by simp⟩
 simp only[u7,J8,r5] at dK
 obtain⟨rfl,rfl,rfl⟩:=dK
 simp only[qX] at aC
 rw[Gq] at hm
 have bw:(zs.take len).length=len:=by simp;omega
 have aa:zs.length*8<=q1:=by have:=hw (zs.length*8) (by rw[J];simp only[GX,show aH.underlying 30=some (.slice 3) from underlying30,cP];left;rw[aqh];congr 1;simp[lits];omega);exact this
 refine⟨zs.take len,⟨by simp;omega,ap,hm,.inr ⟨p,rfl,λi v e=>?_⟩⟩,by omega⟩
 rw[jq] at e
 rw[Vk]
 have hi:i<len:=by rcases kB i len with k|k;exact k;rw[iO (by omega)] at e;simp at e
 rw[JT,a1 hi,cy (by omega)] at e
 simp only[u4,kC] at e
 subst e
 rw[fP i (by omega),dm,cy (by omega)]
 rfl
instance:lM az:=⟨⟨0,⟨none,0,0⟩,[]⟩⟩
def cells_one{x:DataW mF×M MemPlace}(h:qg enc aH bD 0 (λ_=>ak) ak gb 30 [v]=some x):∃s:U,v=.slice s.a s.n s.c:=by rcases open_ints underlying30 yb HS h with⟨dK,_⟩|⟨p,l,c,zs,dK,_⟩;exact⟨⟨none,0,0⟩,by simpa using dK⟩;exact⟨⟨some p,l,c⟩,by simpa using dK⟩
def akU{a:aA bc}{len cap:N}{x:DataW mF×M MemPlace}(h:qg enc aH bD 0 (λ_=>ak) ak gb 22 [.slice a len cap]=some x)(hw:∀n∈x.1.weights aH 22,n<=q1):
  ∃l:M az,eF (whole bD) ⟨a,len,cap⟩ l/\(∀r∈l,r.v.length<=17592186044416)/\len<=17592186044416:=by
 have O:q1=140737488351232:=by decide
 rcases Deep.open_slice underlying22 h with⟨dK,_⟩|⟨p,l,c,m,n,D,apg,dK,aa,ap,hm,uB,J,eL⟩
 simp only[u7,J8,r5] at dK
 obtain⟨rfl,rfl,rfl⟩:=dK
 exact⟨[],⟨⟨rfl,cC _,by simp,.inl rfl⟩,λ_ h=>(by cases h)⟩,λ_ h=>(by cases h),by omega⟩
 simp only[u7,J8,r5] at dK
 obtain⟨rfl,rfl,rfl⟩:=dK
 simp only[qX] at uB
 subst uB
 rw[Gq] at hm
 have N9:∀k,k∈(((lz len).map D).length+((lz (m-len)).map λj=>D (len+j)).length)*aH.bytesOf 52::(GW aH 52 ((lz len).map D)++GW aH 52 ((lz (m-len)).map λj=>D (len+j)))->k<=q1:=by intro k hk;refine hw k ?_;rw[J];simp only[GX,show aH.underlying 22=some (.slice 52) from underlying22];exact hk
 have kr:len*32<=q1:=by
  have:=N9 _ (gr ..);rw[aqi] at this;simp at this;have e:len+(m-len)=m:=by omega
  omega
 have each:∀i,i<len->∃r:az,bD.cell? (p.add (i*2))=some (.int .i64 r.id)/\bD.cell? ((p.add (i*2)).add 1)=some (.slice r.s.a r.s.n r.s.c)/\Ints (whole bD) r.s r.v/\r.v.length<=17592186044416:=by
  intro i hi;obtain⟨yL,h1,h2⟩:=eL i (by omega);rw[W2] at h1;obtain⟨_,hlen,fP⟩:=World.cells?_some h1;obtain⟨hS,ij,k,iV,_,aj,aU⟩:=trod_struct2 TZ h2
  match yL,hlen with
  | [v0,v1],_=>
   simp only[HS,W1,J9,List.take] at aj aU;obtain⟨q,eK,d0,_⟩:=yc yb aj;simp only[u7,r5] at eK;subst eK;obtain⟨s,rfl⟩:=cells_one aU;have aav:∀n∈ij.1.weights aH 30,n<=q1:=by intro n ae;refine N9 n (gh _ (iA _ (aoh (i:=i) (d:=D i) (by simp[hi]) n ?_)));have asM:D i=.agg [hS.1,ij.1]:=(Prod.mk.inj iV).1;rw[asM];simp only[GX,show aH.underlying 52=some _ from TZ];simp only[gR,BT,DataW.weightsEach,cM];exact .inr (.inl ae)
   obtain⟨zs,aC,xN⟩:=OH aU aav;have bM:=fP 0 (by omega);have c1:=fP 1 (by omega);exact⟨⟨q,s,zs⟩,bM,c1,aC,xN⟩
 obtain⟨f,ac⟩:=Deep.choose_lt each
 have mR:((lz len).map f).length=len:=by simp
 refine⟨(lz len).map f,⟨⟨?_,ap,hm,.inr ⟨p,rfl,λj v e=>?_⟩⟩,λr O=>?_⟩,λr O=>?_,by omega⟩
 rw[og fM,mR]
 have aN:j<len*2:=by have:=(iB.1 e).1;rw[og fM,mR] at this;exact this
 have aQ:j=j/2*2+j%2:=by omega
 have ar:j/2<len:=by omega
 rw[Vk]
 rw[aQ,H5 fM _ _ _ (GV _ (by decide))] at e
 rw[jq,O5 ar] at e
 simp only[u4,OT] at e
 obtain⟨g0,g1,_,_⟩:=ac (j/2) ar
 rw[aQ,<-Addr.w5]
 have vT:j%2=0∨j%2=1:=by omega
 rcases vT with vT|vT
 rw[vT] at e ⊢
 simp only[cO,BN,kC] at e
 subst e
 exact g0
 rw[vT] at e ⊢
 simp only[cO,x4,BN,kC] at e
 subst e
 exact g1
 obtain⟨i,hi,rfl⟩:=bk.1 O
 exact(ac i (by simpa using hi)).2.2.1
 obtain⟨i,hi,rfl⟩:=bk.1 O
 exact(ac i (by simpa using hi)).2.2.2
end
end
section
variable{d:M o}{u:H}{i n:N}{T:dF}
def eY:M o->o
 | []=>0|x::xs=>x+65536*eY xs
def et(i:N):o:=(65536 ^ i:N)
def ak0:et 0=1:=rfl
def Ty(i:N):et (i+1)=65536*et i:=by show((65536 ^ (i+1):N):o)=65536*((65536 ^ i:N):o);rw[TU,BU];exact O6 _ _
def tz(i:N):1<=et i:=acf.2 (Nat.pow_pos (by decide))
def ON(i j:N):et (i+j)=et i*et j:=by show((65536 ^ (i+j):N):o)=((65536 ^ i:N):o)*((65536 ^ j:N):o);rw[Nat.pow_add,BU]
def apf:∀(d:M o) (i:N) (x:o),i<d.length->eY (d.set i x)=eY d+(x-d.getD i 0)*et i:=by
 intro d;induction d with
 |nil=>intro i x h;simp at h
 |cons y d aM=>
  intro i x h;cases i with
  |zero=>simp[eY,ak0];omega|succ i=>
   simp only[GK,eY,List.getD_cons_succ,Ty];rw[aM i x (by simpa using h),Int.mul_add];have:65536*((x-d.getD i 0)*et i)=(x-d.getD i 0)*(65536*et i):=by rw[<-T0,O6 65536,T0]
   omega
def rf(d:M o):Prop:=d.length=8/\∀x∈d,0<=x/\x<65536
def Cy:∀{d:M o},(∀x∈d,0<=x/\x<65536)->0<=eY d:=by
 intro d;induction d with
 |nil=>intro _;exact mw _
 |cons y d aM=>intro h;have h1:=h y (gr ..);have h2:=aM λx J=>h x (gh _ J);simp only[eY];omega
def WA:∀{d:M o},(∀x∈d,0<=x/\x<65536)->eY d<et d.length:=by
 intro d;induction d with
 |nil=>intro _;decide
 |cons y d aM=>intro h;have h1:=h y (gr ..);have h2:=aM λx J=>h x (gh _ J);simp only[eY,hX,Ty];omega
def Wz:∀(a b:M o),eY (a++b)=eY a+et a.length*eY b:=by
 intro a;induction a with
 |nil=>intro b;simp[eY,ak0]
 |cons y a aM=>intro b;simp only[x7,eY,hX,Ty];rw[aM,Int.mul_add,<-T0];omega
def rf.set(h:rf d){x:o}(h0:0<=x)(h1:x<65536):rf (d.set i x):=
 ⟨by rw[qZ];exact h.1,λy ai=>by rcases ald ai with h2|h2;exact h.2 y h2;omega⟩
def rf.get(h:rf d)(hi:i<8):0<=d.getD i 0/\d.getD i 0<65536:=by
 have ap:i<d.length:=by rw[h.1];exact hi
 rw[dm,cy ap];exact h.2 _ (kD ap)
def zB(ar:d.length=8)(hi:i<8):(u.ins n (.cells (iN d) T (0,0))).cell? ⟨n,i,none⟩=some (.int .i64 (d.getD i 0)):=by
 rw[Lt];have ap:i<d.length:=by omega
 simp[iN,TH,ap,dm]
def Tw(ar:d.length=8){i:o}(h0:0<=i)(hi:i<8):(u.ins n (.cells (iN d) T (0,0))).cell? ((cw n 0 none).add (i.toNat*1))=some (.int .i64 (d.getD i.toNat 0)):=by rw[wu,iP,ki];exact zB ar (by omega)
def abF(ar:d.length=8):(u.ins n (.cells (iN d) T (0,0))).cell? ⟨n,8,none⟩=some (.bool ax):=by rw[Lt];simp[iN,ar]
def Lz(h:d.length=8):d=[d.getD 0 0,d.getD 1 0,d.getD 2 0,d.getD 3 0,d.getD 4 0,d.getD 5 0,d.getD 6 0,d.getD 7 0]:=by
 match d,h with
 | [a,b,c,e,f,g,i,j],_=>rfl
def aBG{at' v:o}{K:o->o->o->o->o->o->o->o->aD->H->Prop}(ar:rf d)(h0:0<=at')(lV:at'<=100)(aB:0<=v)(Jb:v<4611686018427387904)(ag:0<v->eY d+v*et at'.toNat<et 8)
  (h:∀gN:M o,rf gN->eY gN=eY d+v*et at'.toNat->K (gN.getD 0 0) (gN.getD 1 0) (gN.getD 2 0) (gN.getD 3 0) (gN.getD 4 0) (gN.getD 5 0) (gN.getD 6 0) (gN.getD 7 0) ax u):
  V9 (d.getD 0 0) (d.getD 1 0) (d.getD 2 0) (d.getD 3 0) (d.getD 4 0) (d.getD 5 0) (d.getD 6 0) (d.getD 7 0) ax at' v u K:=by
 refine hx.forget (ss:=[.agg [.int .i64,.int .i64,.int .i64,.int .i64,.int .i64,.int .i64,.int .i64,.int .i64,.bool]]) ?_
 apply aFc
 intro n ae
 have CM:(#[cJ .i64 (d.getD 0 0),.int .i64 (d.getD 1 0),.int .i64 (d.getD 2 0),.int .i64 (d.getD 3 0),.int .i64 (d.getD 4 0),.int .i64 (d.getD 5 0),.int .i64 (d.getD 6 0),.int .i64 (d.getD 7 0),.bool ax]:cv ao)=iN d:=by
  conv=>rhs;rw[Lz ar.1]
  rfl
 rw[CM]
 refine⟨λx a _ _ _ _ _ _ _ _ _ w=>0<=x/\x<4611686018427387904/\0<=a/\at'<=a/\(a<=8∨v=0)/\a<=100/\∃e,rf e/\w=u.ins n (.cells (iN e) 155 (0,0))/\eY e+x*et a.toNat=eY d+v*et at'.toNat/\(v=0->x=0),
  λ_ a _ _ _ _ _ _ _ _ _ _=>(9-a).toNat,⟨aB,Jb,h0,mw _,?_,lV,d,ar,rfl,rfl,λe=>e⟩,?_⟩
 by_cases e:v=0
 exact .inr e
 left
 have gy:=ag (by omega)
 by_cases hle:at'<=8
 exact hle
 exfalso
 have h1:=Cy ar.2
 have h2:et at'.toNat=et (at'.toNat-8)*et 8:=by rw[<-ON];congr 1;omega
 have h3:=tz (at'.toNat-8)
 have a7:=tz 8
 have bO:et 8<=et (at'.toNat-8)*et 8:=by have:=DQ h3 (by omega:0<=et 8);omega
 have e7:et at'.toNat<=v*et at'.toNat:=by have:=DQ (show 1<=v by omega) (show 0<=et at'.toNat by have:=tz at'.toNat;omega);omega
 omega
 rintro x a _ _ _ _ _ _ _ _ _ w ⟨bK,dw,a0,Z,a2,a3,e,he,rfl,nL,aC⟩
 refine⟨λJ=>⟨λmg=>?_,λmg=>?_⟩,λJ=>?_⟩
 exfalso
 have awM:0<v:=by by_cases e:v=0;have:=aC e;omega;omega
 have gy:=ag awM
 have atJ:a=8:=by omega
 subst atJ
 have h1:=Cy he.2
 have a7:=tz 8
 have e7:et 8<=x*et 8:=by have:=DQ (show 1<=x by omega) (show 0<=et 8 by omega);omega
 have CM:et (8:o).toNat=et 8:=rfl
 rw[CM] at nL
 omega
 have W:=he.get (i:=a.toNat) (by omega)
 have t1:k8 (x+e.getD a.toNat 0) 65536=(x+e.getD a.toNat 0)%65536:=O2 (by omega)
 have t2:ff (x+e.getD a.toNat 0) 65536=(x+e.getD a.toNat 0)/65536:=zP (by omega)
 refine⟨by decide,⟨a0,by omega⟩,_,Tw he.1 a0 (by omega),⟨by omega,by omega⟩,by decide,by decide,⟨a0,by omega⟩,?_⟩
 rw[t1,t2]
 refine adv he.1 (by omega) ⟨by decide,⟨by omega,by omega⟩,⟨by omega,by omega⟩,⟨by omega,by omega,by omega,by omega,by omega,by omega,_,he.set (by omega) (by omega),rfl,?_,λe=>by have:=aC e;omega⟩,by dsimp only;omega⟩
 rw[apf _ _ _ (by rw[he.1];omega),show(a+1).toNat=a.toNat+1 by omega,Ty,<-nL]
 have key:(x+e.getD a.toNat 0)%65536+65536*((x+e.getD a.toNat 0)/65536)=x+e.getD a.toNat 0:=Int.emod_add_mul_ediv _ _
 generalize (x+e.getD a.toNat 0)%65536=r at*
 generalize (x+e.getD a.toNat 0)/65536=s at*
 generalize et a.toNat=p at*
 have cq:s*(65536*p)=(65536*s)*p:=by rw[<-T0,O6 s]
 rw[cq,Int.add_assoc,<-Int.add_mul]
 congr 2
 omega
 have uQ:x=0:=by omega
 refine⟨_,zB he.1 (i:=0) (by omega),_,zB he.1 (i:=1) (by omega),_,zB he.1 (i:=2) (by omega),_,zB he.1 (i:=3) (by omega),_,zB he.1 (i:=4) (by omega),_,zB he.1 (i:=5) (by omega),_,zB he.1 (i:=6) (by omega),_,zB he.1 (i:=7) (by omega),_,abF he.1,bZ _ ae,h e he ?_⟩
 rw[<-nL,uQ]
 simp
end
