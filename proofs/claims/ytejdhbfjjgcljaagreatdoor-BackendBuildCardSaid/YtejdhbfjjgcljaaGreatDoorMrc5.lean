/- Texts of mine, joined and packed by pack.py. -/
import Derived.Test.YtejdhbfjjgcljaaGreatDoorMrc4
import Derived.Shelf.SlSortCmp.WholeK
import Derived.Shelf.SlSortCmp.Whole1
import Derived.Shelf.SortG.Plain
import Derived.Shelf.SortG.SortNone
import Derived.Shelf.SlGeneric
import Derived.Shelf.Spec.TrailingZeros
import Derived.Test.YtejdhbfjjgcljaaGreatDoorProg
import Derived.Shelf.SlSortCmp.NoneTotal
import Derived.RangeFuncIn
import Derived.OrdersIn
import Derived.SizedLaws
import Derived.Deep.Slices
import Derived.ChangeSame
import Derived.ChangeOld
import Derived.OpenShut
import Derived.ProofKit
import Derived.WalkKit
import Derived.JoinedOf
set_option linter.all false
open Go renaming Program->dR,Value->ao,World->b6,TypeId->dC,FuncId->ju,Addr->ba,Act->eo,Oper->eF,callFunc->qw,Exit->kz,Code->iK,reachBytes->Dg
open _root_ renaming Nat->N,List->J,Option->ay,Array->cu,Int->o,Bool->aI,False->ej,absurd->a6,Inhabited->lx
open Bool renaming true->ak,false->ax
open Nat renaming beq->ji
open Go.Obj renaming cells->bA,deferred->uD
open Go.Fence renaming wide->uy
open Go.Made renaming depth->uz
open Go.Instr renaming buildSlice->dA,typeAssert->s7
open Go.Builtin renaming append_->dW
open Go.World renaming frozen?->F6
open Go.Result renaming andThen->jy
open List renaming range->ox,zipWith->lc
open Array renaming replicate->Db
open Go.Exit renaming noConfusion->rv,normal->r5
open Go.Proofs.Tryz renaming prog->aH
open Go.Value renaming int->cG,pointer->gS,slice->dX,oneCell'->cF
open Int renaming tdiv->gw
open List.Perm renaming cons->iL
open Go.Sort renaming ahead->uF
open Go.Addr renaming mk->cr
open Go.LoopState renaming busy->S8
open Go.DataW renaming weightsAll->Ta,trod->Bc,weights->aaZ
set_option maxRecDepth 100000
noncomputable section
namespace Go.Proofs.YtejdhbfjjgcljaaGreatDoor
open H
def aaU:=@Go.Proofs.AnyF.slices_SortFunc_none
def aaV:=@Go.Proofs.run_loadCellsFrom_list
def xI:=@Go.wpIn_mono
def N5:=@Go.Code.wpIn_mono
def Jv:=@Go.World.alloc_heap_new
def aaW:=@Go.roundIn_of_wpIn
def aaX:=@Go.run_enterLoop_outer
def Jx:=@Go.Proofs.Tryz.underlying3
def Tb:=@Go.Value.slice.injEq
def Jy:=@Go.DataW.trod_int
open _root_.Go.Proofs.Tryz
section
variable{j n i k:N}{u:H}
def al1:j9 aH 38=some (68,3,24,[.int .i64 0,.int .u64 0,.int .u64 0]):=by kernel_rfl
def aoB(x y Y:o):kp aH 38 1 #[(0,.agg #[.int .i64 x,.int .u64 y,.int .u64 Y])]=some (68,[.int .i64 x,.int .u64 y,.int .u64 Y]):=by kernel_rfl
def aD.l6{ai:H}{e:N}{s:U}{xs:J ao}(h:aD ai u e k s xs)(ae:u n=none)(z:Obj):aD (ai.ins n z) (u.ins n z) e k s xs:=by
 refine⟨h.own.le λb x _ Z=>bW _ ae _ _ Z,λb x Z=>?_,λg W=>?_⟩;unfold H.ins at Z ⊢;split at Z;rename_i e7;rw[aV e7];exact Z;rename_i e7;rw[az e7];exact h.le b x Z;rcases h.own.is with h0|⟨bX,cur,aE,cb,_⟩;rw[h0] at W;simp[U.aj] at W;have:bX=g:=by simpa[U.aj,aE] using W
 subst this;rw[bm _ _ (λpE=>by rw[pE,ae] at cb;cases cb)];exact h.fresh bX W
def H.le.none{u':H}(h:u.le u')(ae:u' n=none):u n=none:=by
 cases M:u n with
 |none=>rfl|some z=>rw[h _ _ M] at ae;cases ae
def mG{zs vs:J ao}{T:dC}{f:H->Prop}(ar:zs.length=vs.length)(h1:∀v∈vs,v.oneCell'=ak)(ac:f (u.ins n (.cells vs.toArray T (0,0)))):
  H.aN (u.ins n (.cells zs.toArray T (0,0))) ⟨n,0,none⟩ vs f:=by
 refine⟨zs.toArray,T,bf _ _ _,rfl,by simp[ar],h1,?_⟩
 rw[IH]
 have:wr zs.toArray 0 vs=vs.toArray:=by have:=GX zs.toArray 0 vs (by simp[ar]);simp only[N2,lu,jI] at this;rw[ry (by simp[ar])] at this;apply C7;rw[this];simp
 show f (u.ins n (.cells (wr zs.toArray 0 vs) T (0,0)))
 rw[this];exact ac
def abG{α:Type}(A:J α)(Y y:α)(B:J α):(A++Y::B).set A.length y=A++y::B:=by
 induction A with
 |nil=>rfl|cons a A aL=>simp[aL]
def aqu{α:Type}(A:J α)(Y:α)(B:J α):(A++Y::B)[A.length]?=some Y:=by rw[C9 (cg _)];simp
def aD.fh{ai:H}{e:N}{s:U}{l:J bP}(h:aD ai u e 3 s (l.flatMap fD)):nw u s l:=h.own.cC
def afd(l:J bP)(h:bP):l.flatMap fD++ [.int .i64 h.1,.int .u64 (dk h.2),.int .u64 (dq h.2)]=(l++ [h]).flatMap fD:=by simp[fD]
def jA{α:Type}(l:J α)(i j:N):J α:=
 match l[i]?,l[j]? with
 |some a,some b=>(l.set i b).set j a|_,_=>l
def GL{α:Type}{l:J α}(hi:i<l.length)(aM:j<l.length):jA l i j=(l.set i l[j]).set j l[i]:=by simp[jA,hi,aM]
def pk{α:Type}(l:J α)(i j:N):(jA l i j).length=l.length:=by unfold jA;split<;>simp
def DA{α:Type}{l:J α}(hi:i<l.length)(aM:j<l.length):(jA l i j).Perm l:=by rw[GL hi aM];exact List.set_set_perm hi aM
def aAF{α:Type}{l:J α}(hi:i<l.length)(aM:j<l.length)(hk:k<l.length):
  (jA l i j)[k]?=if k=j then some l[i] else if k=i then some l[j] else some l[k]:=by
 rw[GL hi aM]
 simp only[A4,qz]
 by_cases h1:j=k
 subst h1;simp[aM]
 by_cases h2:i=k
 subst h2;simp[h1,hi,dv h1]
 simp[h1,h2,dv h1,dv h2,hk]
structure oE{α:Type}(lt:α->α->aI):Prop where
 asymm:∀a b,lt a b=ak->lt b a=ax
 trans:∀a b c,lt b a=ax->lt c b=ax->lt c a=ax
variable {α:Type} [lx α] {lt:α->α->aI}
abbrev df(i:N):N:=(i-1)/2
def iw(lt:α->α->aI)(n:N)(l:J α):Prop:=∀i,0<i->i<n->lt (l.getD i default) (l.getD (df i) default)=ax
structure zK(lt:α->α->aI)(l:J α)(j:N):Prop where
 aiK:j<l.length
 others:∀i,0<i->i<l.length->i≠j->lt (l.getD i default) (l.getD (df i) default)=ax
 over:∀i,0<i->i<l.length->df i=j->0<j->lt (l.getD i default) (l.getD (df j) default)=ax
def Dz{l:J α}(hi:i<l.length)(aM:j<l.length)(hk:k<l.length):
  (jA l i j).getD k default=if k=j then l.getD i default else if k=i then l.getD j default else l.getD k default:=by
 rw[dr,aAF hi aM hk]
 (repeat' split)<;>simp[hi,aM,hk]
def zK.done{l:J α}(h:zK lt l j)(aw:j=0∨lt (l.getD j default) (l.getD (df j) default)=ax):iw lt l.length l:=by intro i h0 hi;by_cases gE:i=j;subst gE;rcases aw with h|h;omega;exact h;exact h.others i h0 hi gE
def zK.step(cL:oE lt){l:J α}(h:zK lt l j)(aM:0<j)(ar:lt (l.getD j default) (l.getD (df j) default)=ak):zK lt (jA l (df j) j) (df j):=by
 have ku:=h.aiK;have k5:df j<j:=by unfold df;omega
 have hlen:=pk l (df j) j;have g:∀k,k<l.length->(jA l (df j) j).getD k default=if k=j then l.getD (df j) default else if k=df j then l.getD j default else l.getD k default:=
  λk hk=>Dz (by omega) ku hk
 refine⟨by omega,?_,?_⟩;intro i h0 hi al;rw[hlen] at hi;have CD:df i<i:=by unfold df;omega
 rw[g i hi,g (df i) (by omega)];by_cases gE:i=j;subst gE;rw[aV rfl,az (by omega),aV rfl];exact cL.asymm _ _ ar;rw[az gE,az al];by_cases YC:df i=j;rw[aV YC];exact h.over i h0 hi YC aM;rw[az YC];by_cases jV:df i=df j;rw[aV jV];have:=h.others i h0 hi gE;rw[jV] at this;exact cL.trans _ _ _ (cL.asymm _ _ ar) this;rw[az jV];exact h.others i h0 hi gE;intro i h0 hi CD Iq;rw[hlen] at hi;have aFW:df (df j)<df j:=by unfold df at*;omega
 have aFv:df i<i:=by unfold df;omega
 rw[g i hi,g (df (df j)) (by omega),az (by omega:¬df (df j)=j),az (by omega:¬df (df j)=df j)];have jV:=h.others (df j) Iq (by omega) (by omega);by_cases gE:i=j;rw[aV gE];exact jV;rw[az gE,az (by omega)];have:=h.others i h0 hi gE;rw[CD] at this;exact cL.trans _ _ _ jV this
structure wv(lt:α->α->aI)(n:N)(l:J α)(j:N):Prop where
 le:n<=l.length
 others:∀i,0<i->i<n->df i≠j->lt (l.getD i default) (l.getD (df i) default)=ax
 over:∀i,0<i->i<n->df i=j->0<j->lt (l.getD i default) (l.getD (df j) default)=ax
def wv.done{l:J α}(h:wv lt n l j)(aw:∀i,0<i->i<n->df i=j->lt (l.getD i default) (l.getD j default)=ax):iw lt n l:=by intro i h0 hi;by_cases gE:df i=j;rw[gE];exact aw i h0 hi gE;exact h.others i h0 hi gE
def wv.step(cL:oE lt){l:J α}{c:N}(h:wv lt n l j)(oQ:0<c)(I:c<n)(Rj:df c=j)(ar:lt (l.getD c default) (l.getD j default)=ak)
  (hm:∀i,0<i->i<n->df i=j->lt (l.getD i default) (l.getD c default)=ax):wv lt n (jA l j c) c:=by
 have ae:=h.le
 have aFz:j<c:=by rw[<-Rj];unfold df;omega
 have hlen:=pk l j c
 have g:∀k,k<l.length->(jA l j c).getD k default=if k=c then l.getD j default else if k=j then l.getD c default else l.getD k default:=
  λk hk=>Dz (by omega) (by omega) hk
 refine⟨by omega,?_,?_⟩
 intro i h0 hi al
 have CD:df i<i:=by unfold df;omega
 rw[g i (by omega),g (df i) (by omega),az al]
 by_cases LZ:i=c
 subst LZ
 rw[aV rfl,aV Rj]
 exact cL.asymm _ _ ar
 rw[az LZ]
 by_cases gE:i=j
 subst gE
 rw[aV rfl,az (by omega)]
 have:=h.over c oQ I Rj h0
 exact this
 rw[az gE]
 by_cases Iq:df i=j
 rw[aV Iq];exact hm i h0 hi Iq
 rw[az Iq];exact h.others i h0 hi Iq
 intro i h0 hi CD _
 have aFV:df i<i:=by unfold df;omega
 rw[g i (by omega),g (df c) (by omega),az (by omega:¬i=c),az (by omega:¬i=j),Rj,az (by omega:¬j=c),aV rfl]
 have:=h.others i h0 hi (by omega)
 rw[CD] at this
 exact this
def iw.root(cL:oE lt){l:J α}(h:iw lt n l):∀i,i<n->lt (l.getD i default) (l.getD 0 default)=ax:=by
 intro i;induction i using Nat.strongRecOn with
 |_ i aL=>
  intro hi;by_cases h0:i=0;subst h0;cases e:lt (l.getD 0 default) (l.getD 0 default) with
  |false=>rfl|true=>have:=cL.asymm _ _ e;rw[e] at this;cases this
  have ad:df i<i:=by unfold df;omega
  exact cL.trans _ _ _ (aL (df i) ad (by omega)) (h i (by omega) hi)
end
section
variable{u:H}{K:H->Prop}
def aEz(ca:cu dC)(t:dC)(p:ba)(a b:ByteArray):Builtin.ssaWrapNilChk_ ca t #[.pointer (some p),.string a,.string b]=pure (.pointer (some p)):=rfl
def abo{P:dR}{gg:N}{t e:dC}{i:TypeInfo}{name:String}{m:Method}{f:ju}(hi:P.info? t=some i)(hm:i.methods.find? (·.name==name)=some m)(ad:m.path=#[])
  (ac:m.func=some (f,ax)) (hu:P.underlying t=some (.pointer e)) {p:ba} {v:ao} {w:b6} (ar:(loadVar e p).run P w=.ok v w):
  (method (gg+1) t (.pointer (some p)) name).run P w=.ok (f,v) w:=by
 unfold method
 simp[eS,typeInfo,hi,jy,hm,ad,ac,follow,receiverAt,iq hu,Place.get,aEz,strVal,asAddr,ar]
def JK{P:dR}{gg:N}{t e:dC}{i:TypeInfo}{name:String}{m:Method}{f:ju}(hi:P.info? t=some i)(hm:i.methods.find? (·.name==name)=some m)(ad:m.path=#[])
  (ac:m.func=some (f,ak)) (hu:P.underlying t=some (.pointer e)) {p:ay ba} {w:b6}:
  (method (gg+1) t (.pointer p) name).run P w=.ok (f,.pointer p) w:=by
 unfold method
 simp[eS,typeInfo,hi,jy,hm,ad,ac,follow,receiverAt,iq hu,Place.get]
def alZ{α:Type}{l:J α}{i j k:N}(hi:i≠k)(aM:j≠k):(jA l i j)[k]?=l[k]?:=by unfold jA;split;rw[uE aM,uE hi];rfl
structure uX{α:Type}[lx α](recv:ao)(aN:H->J α->Prop)(lt:α->α->aI):Prop where
 len:∀{u l} {K:o->H->Prop},aN u l->K (l.length:o) u->mJ aH recv "Len" #[] [.one (.int .i64)] u K
 less:∀{u l} {i j:o} {K:aI->H->Prop},aN u l->0<=i->i<l.length->0<=j->j<l.length->K (lt (l.getD i.toNat default) (l.getD j.toNat default)) u->
  mJ aH recv "Less" #[.int .i64 i,.int .i64 j] [.one .bool] u K
 swap:∀{u l} {i j:o} {K:H->Prop},aN u l->0<=i->i<l.length->0<=j->j<l.length->(∀u',aN u' (jA l i.toNat j.toNat)->K u')->
  mJ aH recv "Swap" #[.int .i64 i,.int .i64 j] [] u K
 small:∀{u l},aN u l->l.length<=1099511627776
section
variable {α:Type} [lx α] {recv:ao} {aN:H->J α->Prop} {lt:α->α->aI}
def ak4(di:uX recv aN lt)(L:oE lt){l:J α}{j:o}(ag:aN u l)(h0:0<=j)(hu:zK lt l j.toNat)
  (aq:∀u' bw,aN u' bw->bw.Perm l->iw lt bw.length bw->K u'):Ke recv j u K:=by
 have fq:=di.small ag
 apply amB
 refine⟨λx v=>0<=x/\∃bw,aN v bw/\bw.Perm l/\zK lt bw x.toNat,λx _=>x.toNat,⟨h0,l,ag,.refl _,hu⟩,?_⟩
 rintro x v ⟨bG,bw,fY,ad,nL⟩
 have hlen:=ad.length_eq
 have b4:=nL.aiK
 refine⟨⟨by omega,by omega⟩,by decide,?_⟩
 by_cases M:x=0
 subst M
 refine⟨⟨by decide,by decide⟩,λ_=>aq _ _ fY ad (nL.done (.inl rfl)),λh=>a6 (by decide) h⟩
 have ht:gw (x-1) 2=(x-1)/2:=Jt (by omega)
 have yH:((x-1)/2).toNat=df x.toNat:=by unfold df;omega
 rw[ht]
 refine⟨⟨by omega,by omega⟩,λh=>by omega,λ_=>di.less fY bG (by omega) (by omega) (by omega) ?_⟩
 rw[yH]
 refine⟨λZ=>aq _ _ fY ad (nL.done (.inr (by simpa using Z))),λZ=>di.swap fY (by omega) (by omega) bG (by omega) λu' dE=>⟨⟨by omega,_,dE,?_,?_⟩,by dsimp only;omega⟩⟩
 rw[yH]
 exact(DA (by unfold df;omega) b4).trans ad
 rw[yH]
 exact nL.step L (by omega) Z
def ak3(di:uX recv aN lt)(L:oE lt){l:J α}{j n:o}{K:aI->H->Prop}(ag:aN u l)(h0:0<=j)(ae:n<=l.length)(hu:wv lt n.toNat l j.toNat)
  (aq:∀b u' bw,aN u' bw->bw.Perm l->iw lt n.toNat bw->(∀k:N,n<=k->bw[k]?=l[k]?)->K b u') (aM:j<n∨j<=0):Kd recv j n u K:=by
 have fq:=di.small ag
 apply amA
 intro lA mu
 refine⟨λx v=>0<=x/\(x<n∨x<=0)/\∃bw,aN v bw/\bw.Perm l/\wv lt n.toNat bw x.toNat/\∀k:N,n<=k->bw[k]?=l[k]?,λx _=>(n-x).toNat,⟨h0,aM,l,ag,.refl _,hu,λ_ _=>rfl⟩,?_⟩
 rintro x v ⟨bG,CP,bw,fY,ad,aw,hZ⟩
 have hlen:=ad.length_eq
 have done:∀{cm},aN cm bw->(∀i,0<i->i<n.toNat->df i=x.toNat->lt (bw.getD i default) (bw.getD x.toNat default)=ax)->lA x cm:=λdE h=>
  mu _ _ (aq _ _ _ dE ad (aw.done h) hZ)
 refine⟨⟨by omega,by omega⟩,⟨by omega,by omega⟩,λKw Lp=>⟨λh=>done fY λi i0 i1 i2=>by unfold df at i2;omega,λh=>⟨λh2=>by omega,λ_=>Lp _ ?_⟩⟩⟩
 clear Lp Kw
 intro BM Aa
 have eQ:∀c:o,0<c->c<n->df c.toNat=x.toNat->(∀i,0<i->i<n.toNat->df i=x.toNat->lt (bw.getD i default) (bw.getD c.toNat default)=ax)->BM c v:=by
  intro c bK c1 c2 hm;have og:x<c:=by unfold df at c2;omega
  refine Aa _ _ (di.less fY (by omega) (by omega) bG (by omega) ⟨λZ=>done fY λi i0 i1 i2=>?_,λZ=>di.swap fY bG (by omega) (by omega) (by omega) λu' dE=>⟨⟨by omega,.inl c1,_,dE,?_,?_,?_⟩,by dsimp only;omega⟩⟩);exact L.trans _ _ _ (by simpa using Z) (hm i i0 i1 i2);exact(DA (by omega) (by omega)).trans ad;exact aw.step L (by omega) (by omega) c2 Z hm;intro k hk;rw[alZ (by omega) (by omega)];exact hZ k hk
 clear Aa
 have IK:∀a,lt a a=ax:=λa=>by
  cases e:lt a a with
  |false=>rfl|true=>have:=L.asymm _ _ e;rw[e] at this;cases this
 have hF:df (2*x+1).toNat=x.toNat:=by unfold df;omega
 have dO:df (2*x+1+1).toNat=x.toNat:=by unfold df;omega
 have two:∀i,0<i->i<n.toNat->df i=x.toNat->i=(2*x+1).toNat∨i=(2*x+1+1).toNat:=λi i0 _ i2=>by unfold df at i2;omega
 refine⟨⟨by omega,by omega⟩,λh2=>di.less fY (by omega) (by omega) (by omega) (by omega) ⟨λZ=>eQ _ (by omega) h2 dO λi i0 i1 i2=>?_,λZ=>eQ _ (by omega) (by omega) hF λi i0 i1 i2=>?_⟩,
  λh2=>eQ _ (by omega) (by omega) hF λi i0 i1 i2=>?_⟩
 rcases two i i0 i1 i2 with rfl|rfl
 exact L.asymm _ _ Z
 exact IK _
 rcases two i i0 i1 i2 with rfl|rfl
 exact IK _
 exact Z
 rcases two i i0 i1 i2 with rfl|rfl
 exact IK _
 omega
def iw.apw{l:J α}{n:N}(h:iw lt n l)(ae:n<=l.length)(y:α):wv lt n (l.set 0 y) 0:=by
 refine⟨by simpa using ae,λi i0 i1 i2=>?_,λi i0 i1 i2 h0=>by omega⟩;have ad:df i≠0:=i2;have g:∀k,k≠0->(l.set 0 y).getD k default=l.getD k default:=λk hk=>by rw[dr,uE (dv hk),<-dr]
 rw[g i (by omega),g _ ad];exact h i i0 i1
def azl(di:uX recv aN lt)(L:oE lt){l:J α}(ag:aN u l)(al:0<l.length)(aw:wv lt l.length l 0)
  (aq:∀u' bw,aN u' bw->bw.Perm l->iw lt bw.length bw->K u'):UC recv 0 u K:=by
 apply aB4
 refine di.len ag (ak3 di L ag (by omega) (by omega) (by simpa using aw) (λb u' bw fY ad bV _=>?_) (.inl (by omega)))
 have hlen:=ad.length_eq
 have lX:iw lt bw.length bw:=by rw[hlen];simpa using bV
 refine⟨λ_=>ak4 di L fY (by omega) ⟨by show 0<bw.length;omega,λi i0 i1 _=>lX i i0 i1,λi i0 i1 _ h=>a6 h (by decide)⟩ λc9 fZ dE fg yx=>aq _ _ dE (fg.trans ad) yx,λ_=>aq _ _ fY ad lX⟩
def ak2(di:uX recv aN lt)(L:oE lt){l:J α}{x:ao}{y:α}(bV:iw lt l.length l)
  (YH:∀{K:H->Prop},(∀u',aN u' (l++ [y])->K u')->mJ aH recv "Push" #[x] [] u K)
  (aq:∀u' bw,aN u' bw->bw.Perm (l++ [y])->iw lt bw.length bw->K u'):zx recv x u K:=by
 apply amz
 refine YH λu' ag=>di.len ag ?_
 have fq:=di.small ag
 simp only[eC,rA] at fq ⊢
 refine⟨⟨by omega,by omega⟩,ak4 di L ag (by omega) ⟨by simp,λi i0 i1 i2=>?_,λi i0 i1 i2=>?_⟩ aq⟩
 simp only[eC,rA] at i1
 have hi:i<l.length:=by omega
 have g:∀k,k<l.length->(l++ [y]).getD k default=l.getD k default:=λk hk=>by rw[dr,qy hk,<-dr]
 rw[g i hi,g _ (by unfold df;omega)]
 exact bV i i0 hi
 simp only[eC,rA] at i1
 unfold df at i2
 omega
end
end
end Go.Proofs.YtejdhbfjjgcljaaGreatDoor
namespace Go.Proofs
open Go.Shelf
def Tryz.ayT:Go.Shelf.Ren:=⟨fun|6=>81|15=>115|14=>114|28=>158|29=>159|20=>150|21=>151|22=>152|23=>153|24=>154|25=>155|26=>156|27=>157|46=>188|47=>189|48=>190|49=>191|50=>192|57=>202|n=>n,fun|22=>38|24=>68|25=>151|3=>3|39=>201|0=>0|53=>250|55=>26|4=>4|46=>243|45=>242|50=>247|5=>5|9=>9|66=>275|70=>278|76=>288|77=>289|n=>n,fun|n=>n⟩
def Tryz.akT:Go.Proofs.SlLaysF0.n6 Tryz.prog Tryz.ayT:={
 mixed:=by kernel_rfl
 f6:=⟨Tryz.f81.name,by decide,Tryz.func81.trans (congrArg some (by kernel_rfl))⟩
 f14:=⟨Tryz.f114.name,by decide,Tryz.func114.trans (congrArg some (by kernel_rfl))⟩
 f15:=Tryz.func115.trans (congrArg some (by kernel_rfl))
 f20:=⟨Tryz.f150.name,by decide,Tryz.func150.trans (congrArg some (by kernel_rfl))⟩
 f21:=⟨Tryz.f151.name,by decide,Tryz.func151.trans (congrArg some (by kernel_rfl))⟩
 f22:=⟨Tryz.f152.name,by decide,Tryz.func152.trans (congrArg some (by kernel_rfl))⟩
 f23:=⟨Tryz.f153.name,by decide,Tryz.func153.trans (congrArg some (by kernel_rfl))⟩
 f24:=⟨Tryz.f154.name,by decide,Tryz.func154.trans (congrArg some (by kernel_rfl))⟩
 f25:=⟨Tryz.f155.name,by decide,Tryz.func155.trans (congrArg some (by kernel_rfl))⟩
 f26:=⟨Tryz.f156.name,by decide,Tryz.func156.trans (congrArg some (by kernel_rfl))⟩
 f27:=⟨Tryz.f157.name,by decide,Tryz.func157.trans (congrArg some (by kernel_rfl))⟩
 f28:=Tryz.func158.trans (congrArg some (by kernel_rfl))
 f29:=Tryz.func159.trans (congrArg some (by kernel_rfl))
 f46:=⟨Tryz.f188.name,by decide,Tryz.func188.trans (congrArg some (by kernel_rfl))⟩
 f47:=Tryz.func189.trans (congrArg some (by kernel_rfl))
 f48:=Tryz.func190.trans (congrArg some (by kernel_rfl))
 f49:=⟨Tryz.f191.name,by decide,Tryz.func191.trans (congrArg some (by kernel_rfl))⟩
 f50:=⟨Tryz.f192.name,by decide,Tryz.func192.trans (congrArg some (by kernel_rfl))⟩
 f57:=⟨Tryz.f202.name,by decide,Tryz.func202.trans (congrArg some (by kernel_rfl))⟩
 t0:=Tryz.underlying0
 a0:=Tryz.isAgg0
 z0:=Tryz.sizeOf0
 v0:=Tryz.zeroValue0
 t3:=Tryz.underlying3
 a3:=Tryz.isAgg3
 z3:=Tryz.sizeOf3
 v3:=Tryz.zeroValue3
 t4:=Tryz.underlying4
 a4:=Tryz.isAgg4
 z4:=Tryz.sizeOf4
 v4:=Tryz.zeroValue4
 t5:=Tryz.underlying5
 a5:=Tryz.isAgg5
 z5:=Tryz.sizeOf5
 v5:=Tryz.zeroValue5
 t9:=Tryz.underlying9
 a9:=Tryz.isAgg9
 z9:=Tryz.sizeOf9
 v9:=Tryz.zeroValue9
 t22:=Tryz.underlying38
 a22:=Tryz.isAgg38
 z22:=Tryz.sizeOf38
 v22:=Tryz.zeroValue38
 t25:=Tryz.underlying151
 a25:=Tryz.isAgg151
 z25:=Tryz.sizeOf151
 v25:=Tryz.zeroValue151
 t39:=Tryz.underlying201
 a39:=Tryz.isAgg201
 z39:=Tryz.sizeOf201
 v39:=Tryz.zeroValue201
 t45:=Tryz.underlying242
 a45:=Tryz.isAgg242
 z45:=Tryz.sizeOf242
 v45:=Tryz.zeroValue242
 t46:=Tryz.underlying243
 a46:=Tryz.isAgg243
 z46:=Tryz.sizeOf243
 v46:=Tryz.zeroValue243
 t50:=Tryz.underlying247
 a50:=Tryz.isAgg247
 z50:=Tryz.sizeOf247
 v50:=Tryz.zeroValue247
 t53:=Tryz.underlying250
 a53:=Tryz.isAgg250
 z53:=Tryz.sizeOf250
 v53:=Tryz.zeroValue250
 t55:=Tryz.underlying26
 a55:=Tryz.isAgg26
 z55:=Tryz.sizeOf26
 v55:=Tryz.zeroValue26
 t66:=Tryz.underlying275
 a66:=Tryz.isAgg275
 z66:=Tryz.sizeOf275
 v66:=Tryz.zeroValue275
 t70:=Tryz.underlying278
 a70:=Tryz.isAgg278
 z70:=Tryz.sizeOf278
 v70:=Tryz.zeroValue278
 t76:=Tryz.underlying288
 a76:=Tryz.isAgg288
 z76:=Tryz.sizeOf288
 v76:=Tryz.zeroValue288
 t77:=Tryz.underlying289
 a77:=Tryz.isAgg289
 z77:=Tryz.sizeOf289
 v77:=Tryz.zeroValue289}
def Tryz.ayV:Go.Shelf.Ren:=⟨fun|53=>193|64=>115|63=>203|78=>158|79=>159|70=>214|71=>215|72=>216|73=>217|74=>218|75=>219|59=>220|76=>221|77=>222|88=>227|89=>189|90=>190|91=>228|92=>229|68=>160|96=>231|n=>n,fun|22=>30|23=>3|3=>3|51=>201|0=>0|67=>250|69=>26|4=>4|61=>243|60=>242|44=>247|5=>5|9=>9|75=>275|79=>278|83=>288|84=>289|n=>n,fun|n=>n⟩
def Tryz.akV:Go.Proofs.SlLaysN.n53 Tryz.prog Tryz.ayV:={
 mixed:=by kernel_rfl
 f53:=⟨Tryz.f193.name,by decide,Tryz.func193.trans (congrArg some (by kernel_rfl))⟩
 f59:=⟨Tryz.f220.name,by decide,Tryz.func220.trans (congrArg some (by kernel_rfl))⟩
 f63:=⟨Tryz.f203.name,by decide,Tryz.func203.trans (congrArg some (by kernel_rfl))⟩
 f64:=Tryz.func115.trans (congrArg some (by kernel_rfl))
 f68:=⟨Tryz.f160.name,by decide,Tryz.func160.trans (congrArg some (by kernel_rfl))⟩
 f70:=⟨Tryz.f214.name,by decide,Tryz.func214.trans (congrArg some (by kernel_rfl))⟩
 f71:=⟨Tryz.f215.name,by decide,Tryz.func215.trans (congrArg some (by kernel_rfl))⟩
 f72:=⟨Tryz.f216.name,by decide,Tryz.func216.trans (congrArg some (by kernel_rfl))⟩
 f73:=⟨Tryz.f217.name,by decide,Tryz.func217.trans (congrArg some (by kernel_rfl))⟩
 f74:=⟨Tryz.f218.name,by decide,Tryz.func218.trans (congrArg some (by kernel_rfl))⟩
 f75:=⟨Tryz.f219.name,by decide,Tryz.func219.trans (congrArg some (by kernel_rfl))⟩
 f76:=⟨Tryz.f221.name,by decide,Tryz.func221.trans (congrArg some (by kernel_rfl))⟩
 f77:=⟨Tryz.f222.name,by decide,Tryz.func222.trans (congrArg some (by kernel_rfl))⟩
 f78:=Tryz.func158.trans (congrArg some (by kernel_rfl))
 f79:=Tryz.func159.trans (congrArg some (by kernel_rfl))
 f88:=⟨Tryz.f227.name,by decide,Tryz.func227.trans (congrArg some (by kernel_rfl))⟩
 f89:=Tryz.func189.trans (congrArg some (by kernel_rfl))
 f90:=Tryz.func190.trans (congrArg some (by kernel_rfl))
 f91:=⟨Tryz.f228.name,by decide,Tryz.func228.trans (congrArg some (by kernel_rfl))⟩
 f92:=⟨Tryz.f229.name,by decide,Tryz.func229.trans (congrArg some (by kernel_rfl))⟩
 f96:=⟨Tryz.f231.name,by decide,Tryz.func231.trans (congrArg some (by kernel_rfl))⟩
 t0:=Tryz.underlying0
 a0:=Tryz.isAgg0
 z0:=Tryz.sizeOf0
 v0:=Tryz.zeroValue0
 t3:=Tryz.underlying3
 a3:=Tryz.isAgg3
 z3:=Tryz.sizeOf3
 v3:=Tryz.zeroValue3
 t4:=Tryz.underlying4
 a4:=Tryz.isAgg4
 z4:=Tryz.sizeOf4
 v4:=Tryz.zeroValue4
 t5:=Tryz.underlying5
 a5:=Tryz.isAgg5
 z5:=Tryz.sizeOf5
 v5:=Tryz.zeroValue5
 t9:=Tryz.underlying9
 a9:=Tryz.isAgg9
 z9:=Tryz.sizeOf9
 v9:=Tryz.zeroValue9
 t22:=Tryz.underlying30
 a22:=Tryz.isAgg30
 z22:=Tryz.sizeOf30
 v22:=Tryz.zeroValue30
 t23:=Tryz.underlying3
 a23:=Tryz.isAgg3
 z23:=Tryz.sizeOf3
 v23:=Tryz.zeroValue3
 t44:=Tryz.underlying247
 a44:=Tryz.isAgg247
 z44:=Tryz.sizeOf247
 v44:=Tryz.zeroValue247
 t51:=Tryz.underlying201
 a51:=Tryz.isAgg201
 z51:=Tryz.sizeOf201
 v51:=Tryz.zeroValue201
 t60:=Tryz.underlying242
 a60:=Tryz.isAgg242
 z60:=Tryz.sizeOf242
 v60:=Tryz.zeroValue242
 t61:=Tryz.underlying243
 a61:=Tryz.isAgg243
 z61:=Tryz.sizeOf243
 v61:=Tryz.zeroValue243
 t67:=Tryz.underlying250
 a67:=Tryz.isAgg250
 z67:=Tryz.sizeOf250
 v67:=Tryz.zeroValue250
 t69:=Tryz.underlying26
 a69:=Tryz.isAgg26
 z69:=Tryz.sizeOf26
 v69:=Tryz.zeroValue26
 t75:=Tryz.underlying275
 a75:=Tryz.isAgg275
 z75:=Tryz.sizeOf275
 v75:=Tryz.zeroValue275
 t79:=Tryz.underlying278
 a79:=Tryz.isAgg278
 z79:=Tryz.sizeOf278
 v79:=Tryz.zeroValue278
 t83:=Tryz.underlying288
 a83:=Tryz.isAgg288
 z83:=Tryz.sizeOf288
 v83:=Tryz.zeroValue288
 t84:=Tryz.underlying289
 a84:=Tryz.isAgg289
 z84:=Tryz.sizeOf289
 v84:=Tryz.zeroValue289}
def Tryz.ayX:Go.Shelf.Ren:=⟨fun|6=>104|15=>115|14=>143|28=>158|29=>159|20=>177|21=>178|22=>179|23=>180|24=>181|25=>182|26=>183|27=>184|46=>197|47=>189|48=>190|49=>198|50=>199|57=>213|n=>n,fun|22=>22|24=>52|25=>186|3=>3|39=>201|0=>0|53=>250|55=>26|4=>4|46=>243|45=>242|50=>247|5=>5|9=>9|66=>275|70=>278|76=>288|77=>289|n=>n,fun|n=>n⟩
def Tryz.akX:Go.Proofs.SlLaysF0.n6 Tryz.prog Tryz.ayX:={
 mixed:=by kernel_rfl
 f6:=⟨Tryz.f104.name,by decide,Tryz.func104.trans (congrArg some (by kernel_rfl))⟩
 f14:=⟨Tryz.f143.name,by decide,Tryz.func143.trans (congrArg some (by kernel_rfl))⟩
 f15:=Tryz.func115.trans (congrArg some (by kernel_rfl))
 f20:=⟨Tryz.f177.name,by decide,Tryz.func177.trans (congrArg some (by kernel_rfl))⟩
 f21:=⟨Tryz.f178.name,by decide,Tryz.func178.trans (congrArg some (by kernel_rfl))⟩
 f22:=⟨Tryz.f179.name,by decide,Tryz.func179.trans (congrArg some (by kernel_rfl))⟩
 f23:=⟨Tryz.f180.name,by decide,Tryz.func180.trans (congrArg some (by kernel_rfl))⟩
 f24:=⟨Tryz.f181.name,by decide,Tryz.func181.trans (congrArg some (by kernel_rfl))⟩
 f25:=⟨Tryz.f182.name,by decide,Tryz.func182.trans (congrArg some (by kernel_rfl))⟩
 f26:=⟨Tryz.f183.name,by decide,Tryz.func183.trans (congrArg some (by kernel_rfl))⟩
 f27:=⟨Tryz.f184.name,by decide,Tryz.func184.trans (congrArg some (by kernel_rfl))⟩
 f28:=Tryz.func158.trans (congrArg some (by kernel_rfl))
 f29:=Tryz.func159.trans (congrArg some (by kernel_rfl))
 f46:=⟨Tryz.f197.name,by decide,Tryz.func197.trans (congrArg some (by kernel_rfl))⟩
 f47:=Tryz.func189.trans (congrArg some (by kernel_rfl))
 f48:=Tryz.func190.trans (congrArg some (by kernel_rfl))
 f49:=⟨Tryz.f198.name,by decide,Tryz.func198.trans (congrArg some (by kernel_rfl))⟩
 f50:=⟨Tryz.f199.name,by decide,Tryz.func199.trans (congrArg some (by kernel_rfl))⟩
 f57:=⟨Tryz.f213.name,by decide,Tryz.func213.trans (congrArg some (by kernel_rfl))⟩
 t0:=Tryz.underlying0
 a0:=Tryz.isAgg0
 z0:=Tryz.sizeOf0
 v0:=Tryz.zeroValue0
 t3:=Tryz.underlying3
 a3:=Tryz.isAgg3
 z3:=Tryz.sizeOf3
 v3:=Tryz.zeroValue3
 t4:=Tryz.underlying4
 a4:=Tryz.isAgg4
 z4:=Tryz.sizeOf4
 v4:=Tryz.zeroValue4
 t5:=Tryz.underlying5
 a5:=Tryz.isAgg5
 z5:=Tryz.sizeOf5
 v5:=Tryz.zeroValue5
 t9:=Tryz.underlying9
 a9:=Tryz.isAgg9
 z9:=Tryz.sizeOf9
 v9:=Tryz.zeroValue9
 t22:=Tryz.underlying22
 a22:=Tryz.isAgg22
 z22:=Tryz.sizeOf22
 v22:=Tryz.zeroValue22
 t25:=Tryz.underlying186
 a25:=Tryz.isAgg186
 z25:=Tryz.sizeOf186
 v25:=Tryz.zeroValue186
 t39:=Tryz.underlying201
 a39:=Tryz.isAgg201
 z39:=Tryz.sizeOf201
 v39:=Tryz.zeroValue201
 t45:=Tryz.underlying242
 a45:=Tryz.isAgg242
 z45:=Tryz.sizeOf242
 v45:=Tryz.zeroValue242
 t46:=Tryz.underlying243
 a46:=Tryz.isAgg243
 z46:=Tryz.sizeOf243
 v46:=Tryz.zeroValue243
 t50:=Tryz.underlying247
 a50:=Tryz.isAgg247
 z50:=Tryz.sizeOf247
 v50:=Tryz.zeroValue247
 t53:=Tryz.underlying250
 a53:=Tryz.isAgg250
 z53:=Tryz.sizeOf250
 v53:=Tryz.zeroValue250
 t55:=Tryz.underlying26
 a55:=Tryz.isAgg26
 z55:=Tryz.sizeOf26
 v55:=Tryz.zeroValue26
 t66:=Tryz.underlying275
 a66:=Tryz.isAgg275
 z66:=Tryz.sizeOf275
 v66:=Tryz.zeroValue275
 t70:=Tryz.underlying278
 a70:=Tryz.isAgg278
 z70:=Tryz.sizeOf278
 v70:=Tryz.zeroValue278
 t76:=Tryz.underlying288
 a76:=Tryz.isAgg288
 z76:=Tryz.sizeOf288
 v76:=Tryz.zeroValue288
 t77:=Tryz.underlying289
 a77:=Tryz.isAgg289
 z77:=Tryz.sizeOf289
 v77:=Tryz.zeroValue289}
def Tryz.ayW:Go.Shelf.Ren:=⟨fun|6=>175|15=>115|14=>196|28=>158|29=>159|20=>205|21=>206|22=>207|23=>208|24=>209|25=>210|26=>211|27=>212|46=>224|47=>189|48=>190|49=>225|50=>226|57=>230|n=>n,fun|22=>30|24=>3|25=>203|3=>3|39=>201|0=>0|53=>250|55=>26|4=>4|46=>243|45=>242|50=>247|5=>5|9=>9|66=>275|70=>278|76=>288|77=>289|n=>n,fun|n=>n⟩
def Tryz.akW:Go.Proofs.SlLaysF.n6 Tryz.prog Tryz.ayW:={
 mixed:=by kernel_rfl
 f6:=⟨Tryz.f175.name,by decide,Tryz.func175.trans (congrArg some (by kernel_rfl))⟩
 f14:=⟨Tryz.f196.name,by decide,Tryz.func196.trans (congrArg some (by kernel_rfl))⟩
 f15:=Tryz.func115.trans (congrArg some (by kernel_rfl))
 f20:=⟨Tryz.f205.name,by decide,Tryz.func205.trans (congrArg some (by kernel_rfl))⟩
 f21:=⟨Tryz.f206.name,by decide,Tryz.func206.trans (congrArg some (by kernel_rfl))⟩
 f22:=⟨Tryz.f207.name,by decide,Tryz.func207.trans (congrArg some (by kernel_rfl))⟩
 f23:=⟨Tryz.f208.name,by decide,Tryz.func208.trans (congrArg some (by kernel_rfl))⟩
 f24:=⟨Tryz.f209.name,by decide,Tryz.func209.trans (congrArg some (by kernel_rfl))⟩
 f25:=⟨Tryz.f210.name,by decide,Tryz.func210.trans (congrArg some (by kernel_rfl))⟩
 f26:=⟨Tryz.f211.name,by decide,Tryz.func211.trans (congrArg some (by kernel_rfl))⟩
 f27:=⟨Tryz.f212.name,by decide,Tryz.func212.trans (congrArg some (by kernel_rfl))⟩
 f28:=Tryz.func158.trans (congrArg some (by kernel_rfl))
 f29:=Tryz.func159.trans (congrArg some (by kernel_rfl))
 f46:=⟨Tryz.f224.name,by decide,Tryz.func224.trans (congrArg some (by kernel_rfl))⟩
 f47:=Tryz.func189.trans (congrArg some (by kernel_rfl))
 f48:=Tryz.func190.trans (congrArg some (by kernel_rfl))
 f49:=⟨Tryz.f225.name,by decide,Tryz.func225.trans (congrArg some (by kernel_rfl))⟩
 f50:=⟨Tryz.f226.name,by decide,Tryz.func226.trans (congrArg some (by kernel_rfl))⟩
 f57:=⟨Tryz.f230.name,by decide,Tryz.func230.trans (congrArg some (by kernel_rfl))⟩
 t0:=Tryz.underlying0
 a0:=Tryz.isAgg0
 z0:=Tryz.sizeOf0
 v0:=Tryz.zeroValue0
 t3:=Tryz.underlying3
 a3:=Tryz.isAgg3
 z3:=Tryz.sizeOf3
 v3:=Tryz.zeroValue3
 t4:=Tryz.underlying4
 a4:=Tryz.isAgg4
 z4:=Tryz.sizeOf4
 v4:=Tryz.zeroValue4
 t5:=Tryz.underlying5
 a5:=Tryz.isAgg5
 z5:=Tryz.sizeOf5
 v5:=Tryz.zeroValue5
 t9:=Tryz.underlying9
 a9:=Tryz.isAgg9
 z9:=Tryz.sizeOf9
 v9:=Tryz.zeroValue9
 t22:=Tryz.underlying30
 a22:=Tryz.isAgg30
 z22:=Tryz.sizeOf30
 v22:=Tryz.zeroValue30
 a24:=Tryz.isAgg3
 z24:=Tryz.sizeOf3
 t25:=Tryz.underlying203
 a25:=Tryz.isAgg203
 z25:=Tryz.sizeOf203
 v25:=Tryz.zeroValue203
 t39:=Tryz.underlying201
 a39:=Tryz.isAgg201
 z39:=Tryz.sizeOf201
 v39:=Tryz.zeroValue201
 t45:=Tryz.underlying242
 a45:=Tryz.isAgg242
 z45:=Tryz.sizeOf242
 v45:=Tryz.zeroValue242
 t46:=Tryz.underlying243
 a46:=Tryz.isAgg243
 z46:=Tryz.sizeOf243
 v46:=Tryz.zeroValue243
 t50:=Tryz.underlying247
 a50:=Tryz.isAgg247
 z50:=Tryz.sizeOf247
 v50:=Tryz.zeroValue247
 t53:=Tryz.underlying250
 a53:=Tryz.isAgg250
 z53:=Tryz.sizeOf250
 v53:=Tryz.zeroValue250
 t55:=Tryz.underlying26
 a55:=Tryz.isAgg26
 z55:=Tryz.sizeOf26
 v55:=Tryz.zeroValue26
 t66:=Tryz.underlying275
 a66:=Tryz.isAgg275
 z66:=Tryz.sizeOf275
 v66:=Tryz.zeroValue275
 t70:=Tryz.underlying278
 a70:=Tryz.isAgg278
 z70:=Tryz.sizeOf278
 v70:=Tryz.zeroValue278
 t76:=Tryz.underlying288
 a76:=Tryz.isAgg288
 z76:=Tryz.sizeOf288
 v76:=Tryz.zeroValue288
 t77:=Tryz.underlying289
 a77:=Tryz.isAgg289
 z77:=Tryz.sizeOf289
 v77:=Tryz.zeroValue289}
def Tryz.aBb:Go.Shelf.Ren:=⟨fun|29=>169|n=>n,fun|22=>26|3=>3|4=>4|25=>201|54=>281|0=>0|5=>5|n=>n,fun|1=>0|n=>n⟩
def Tryz.aBa:Go.Proofs.Lays7.n29 Tryz.prog Tryz.aBb:={
 mixed:=by kernel_rfl
 f29:=Tryz.func169.trans (congrArg some (by kernel_rfl))
 t0:=Tryz.underlying0
 a0:=Tryz.isAgg0
 z0:=Tryz.sizeOf0
 v0:=Tryz.zeroValue0
 i0:=by kernel_rfl
 t3:=Tryz.underlying3
 a3:=Tryz.isAgg3
 z3:=Tryz.sizeOf3
 v3:=Tryz.zeroValue3
 i3:=by kernel_rfl
 t4:=Tryz.underlying4
 a4:=Tryz.isAgg4
 z4:=Tryz.sizeOf4
 v4:=Tryz.zeroValue4
 i4:=by kernel_rfl
 t5:=Tryz.underlying5
 a5:=Tryz.isAgg5
 z5:=Tryz.sizeOf5
 v5:=Tryz.zeroValue5
 i5:=by kernel_rfl
 t22:=Tryz.underlying26
 a22:=Tryz.isAgg26
 z22:=Tryz.sizeOf26
 v22:=Tryz.zeroValue26
 i22:=by kernel_rfl
 t25:=Tryz.underlying201
 a25:=Tryz.isAgg201
 z25:=Tryz.sizeOf201
 v25:=Tryz.zeroValue201
 i25:=by kernel_rfl
 t54:=Tryz.underlying281
 a54:=Tryz.isAgg281
 z54:=Tryz.sizeOf281
 g1:=by kernel_rfl}
end Go.Proofs
namespace Go.Proofs.YtejdhbfjjgcljaaGreatDoor
open _root_.Go.Proofs.Tryz
open H
section
variable{u ai:H}{g:N}{s:U}
open Go.Shelf Go.RowKit Go.Sort
def Step.afo{bN w':b6}(h:Step (λb=>bN.heap[b]?) [] bN (λb=>bN.heap[b]?) [] w'):∃q NO,w'=grow (bN.drewN q) NO:=by
 refine⟨w'.drawn-bN.drawn,w'.heap.extract bN.heap.size w'.heap.size,?_⟩;have aw:=h.drawn;have ag:=h.size;have bV:w'.heap=bN.heap++w'.heap.extract bN.heap.size w'.heap.size:=by apply Array.ext;simp;omega;intro i h1 h2;rcases j1 i bN.heap.size with hi|hi;rw[Array.getElem_append_left hi];have:=h.sub i bN.heap[i] (by simp[hi]);rw[xz h1] at this;exact cO this;rw[Array.getElem_append_right hi];simp only[Array.getElem_extract];congr 1;omega
 have aP:=h.os;have aC:=h.tape;have c0:=h.output;cases w';cases bN;simp only[grow,World.drewN] at*;simp only[World.mk.injEq];refine⟨bV,aC,by omega,aP,c0⟩
def afp{P:dR}{f:ju}{args:cu ao}{Y:o}(h:∀u:H,ie P f args [.one (.int .i64)] u λfj u'=>fj=Y/\u'=u)(bN:b6):
  Calls P f args bN λe w'=>e=.returned (.int .i64 Y)/\∃q NO,w'=grow (bN.drewN q) NO:=by
 refine(h (λb=>bN.heap[b]?) bN (λb z e=>e)).mono ?_
 rintro e w' ⟨v,u',rfl,⟨vs,hk,rfl,I⟩,ag⟩
 cases hk with
 |cons x O=>cases O;have mv:=(aK.uT (.int .i64) x _).1 I;obtain⟨M,hu⟩:x=Y/\u'=_:=mv;subst M;subst hu;exact⟨rfl,ag.afo⟩
def Hm(a b:bP):o:=if bC a b then -1 else if bC b a then 1 else 0
def aAG(cf:bP->bP->o)(h:∀a b,cf a b<0↔bC a b=ak):SWO (ltOf cf) where
 irrefl x:=by unfold ltOf;simp[h,Ie]
 trans x y Y h1 h2:=by unfold ltOf at*;simp only[Jf,h] at*;exact Md h1 h2
 ntrans x y Y h1 h2:=by unfold ltOf at*;simp only[Ju,h,aaT] at*;exact E1 h2 h1
instance:lx bP:=⟨(0,0)⟩
def ae8(d:cu bP):(flatK fD 3 d).toList=d.toList.flatMap fD:=by
 apply r1;intro i;rcases j1 i (d.size*3) with hi|hi;have e:i=i/3*3+i%3:=by omega
 have aw:i/3<d.size:=by omega
 have O:i%3<3:=N4 _ (by decide);have ac:=Hu rI d.toList (i/3) (i%3) O;rw[<-e] at ac;rw[ac];have:(flatK fD 3 d).toList[i]?=some ((flatK fD 3 d)[i]!):=by rw[A6,r4 _ i (by simpa using hi),xz (by simpa using hi)]
 rw[this,get_flatK _ _ _ _ hi];simp[aw];have h2:i%3<(fD d[i/3]).length:=by rw[rI];exact O
 rw[cn h2];rfl;rw[io (by simpa using hi),io (by rw[od rI];simpa using hi)]
def agE{w:b6}{cur:cu ao}{T:dC}{Hx:N×N}(f:cu ao->cu ao)(h:w.heap[g]?=some (.cells cur T Hx)):
  (mapBlock w g f).heap[g]?=some (.cells (f cur) T Hx)/\∀b,b≠g->(mapBlock w g f).heap[b]?=w.heap[b]?:=by
 unfold mapBlock
 constructor
 simp only[SP,qx,h,uA,onCells]
 intro b Z
 simp only[SP]
 rw[az (dv Z)]
def TV{w:b6}(hw:Sub u w){cur:cu ao}{T:dC}(W:u g=some (.cells cur T (0,0)))(n:N)(f:cu ao->cu ao)(os:cu Obj):
  Step u [] w (u.ins g (.cells (f cur) T (0,0))) [] (grow (mapBlock (uF w n) g f) os):=by
 have LX:(uF w n).heap[g]?=some (.cells cur T (0,0)):=hw _ _ W
 obtain⟨h1,h2⟩:=agE f LX
 have cY:(mapBlock (uF w n) g f).heap.size=w.heap.size:=by simp[mapBlock,uF]
 have lW:∀b,b<w.heap.size->(grow (mapBlock (uF w n) g f) os).heap[b]?=(mapBlock (uF w n) g f).heap[b]?:=by intro b Z;show((mapBlock (uF w n) g f).heap++os)[b]?=_;rw[aaN (by rw[cY];exact Z)]
 refine⟨λb z h=>?_,rfl,rfl,rfl,Nat.le_add_right _ _,?_,λb Z e7 _=>?_,λb Z e7=>?_,[],by simp,by simp⟩
 unfold H.ins at h
 split at h
 rename_i lV;subst lV;cases h
 rw[lW _ (hw.lt W)];exact h1
 rename_i lV
 rw[lW _ (hw.lt h),h2 b lV];exact hw b z h
 show w.heap.size<=((mapBlock (uF w n) g f).heap++os).size
 rw[aaP,cY];omega
 have:b≠g:=λh=>by rw[h,W] at e7;cases e7
 rw[lW b Z,h2 b this];rfl
 have:b≠g:=λh=>by rw[h,W] at e7;cases e7
 rw[bm _ _ this];exact e7
def axA{F cur:cu ao}(h:F.size<=cur.size):(putCells id 0 F cur).toList.take F.size=F.toList:=by
 apply r1;intro i;rw[F7];split;rename_i hi;have I:i<cur.size:=by omega
 simp only[putCells,A6,Array.getElem?_mapIdx];rw[xz I,xz hi];simp only[uA,nU,true_and,jI,hi,qx,xH,id];rw[r4 F i hi];rename_i hi;rw[io (by simpa using hi)]
def axB{F cur:cu ao}:(putCells id 0 F cur).size=cur.size:=by simp[putCells]
def aD.Tu{e k:N}{xs:J ao}(h:aD ai u e k s xs){cur:cu ao}(aE:s.a=some ⟨g,0,none⟩)(W:u g=some (.cells cur e (0,0))){F:cu ao}(qY:F.size=s.n*k):
  aD ai (u.ins g (.cells (putCells id 0 F cur) e (0,0))) e k s F.toList/\gN u (u.ins g (.cells (putCells id 0 F cur) e (0,0))) s:=by
 rcases h.own.is with h0|⟨bX,aE2,Rg,cb,ae,I,ag,ht⟩
 rw[h0] at aE;cases aE
 rw[aE] at Rg;cases Rg
 rw[W] at cb;cases cb
 have hle:s.n*k<=s.c*k:=r2 _ ae
 have hblk:s.aj=some g:=by simp[U.aj,aE]
 refine⟨⟨⟨by simpa using qY,.inr ⟨g,_,aE,bf _ _ _,ae,I,by rw[axB];exact ag,?_⟩⟩,λb z Z=>?_,h.fresh⟩,λb z Z al=>?_⟩
 rw[<-qY];exact axA (by rw[qY,ag];exact hle)
 have:b≠g:=λe=>by rw[e,h.fresh g hblk] at Z;cases Z
 rw[bm _ _ this];exact h.le b z Z
 have:b≠g:=λe=>al (by rw[hblk,e])
 rw[bm _ _ this];exact Z
def aAm{cf:bP->bP->o}(h:∀a b,cf a b<0↔bC a b=ak){d:cu bP}(ag:SortedIn (ltOf cf) 0 d.size d):qa d.toList:=by refine nX.2 λi j hi aM gE=>?_;have:=ag i j (nU _) gE (by simpa using aM);simp only[ru] at hi aM;rw[r4 d j aM,r4 d i hi] at this;unfold ltOf at this;simp only[Ju,h,aaT] at this;simpa using this
def alo{g:ju}{cf:bP->bP->o}(h:∀a b,cf a b<0↔bC a b=ak)(pv:∀args w,(qw g args).run aH w=.ok (.enter g args) w)
  (LI:∀a b (u:H),ie aH g #[.agg (fD a).toArray,.agg (fD b).toArray] [.one (.int .i64)] u λfj u'=>fj=cf a b/\u'=u)
  {ai u:H} {s:U} {l:J bP} (ab:aD ai u 68 3 s (l.flatMap fD)) (fq:l.length<4611686018427387904) {K:H->Prop}
  (aq:∀u',aD ai u' 68 3 s ((mF l).flatMap fD)->gN u u' s->K u'):U3 s (.func (.func g) #[] #[]) u K:=by
 intro w hw
 have dw:=ab.fh.len
 rcases ab.own.is with h0|⟨b,cur,aE,W,hle,I,ag,ht⟩
 subst h0
 have ar:l=[]:=by have:l.length=0:=dw.symm;exact ly this
 subst ar
 refine(aaU Tryz.akT none 0 _ w).mono ?_
 rintro e w' ⟨rfl,rfl⟩
 exact⟨_,u,rfl,⟨[],.nil,rfl,aq u ab (gN.refl _ _)⟩,Step.refl hw⟩
 have hH:HoldsK fD 3 w b 0 l.toArray:=by
  intro j aM;simp only[size_flatK,vQ] at aM;have rV:=ab.own.cC;have ar:(l.flatMap fD)[j]?=some ((flatK fD 3 l.toArray)[j]!):=by have:=ae8 l.toArray;simp only[] at this;rw[<-this,A6,r4 _ j (by simpa using aM),xz (by simpa using aM)]
  constructor;rcases rV.at' with h1|⟨p,ad,fP⟩;rw[h1] at ar;simp at ar;rw[aE] at ad;cases ad;have:=hw.cell (fP j _ ar);rw[iC,jI] at this;simpa using this;simp[F6,hw _ _ W]
 have sG:=AnyQ.slices_SortFunc Tryz.akT 3 (λw=>by kernel_rfl) (λw=>by kernel_rfl) fD rI (λx=>Ei x) cf (aAG cf h) g #[] b 0 s.c l.toArray w pv
  (λm os zU _ x y=>by have:=afp (LI x y) (sortWorldK fD 3 w b 0 m zU os);simpa using this) hH (hw.lt W) (by simpa using fq)
 simp only[vQ] at sG
 change Calls aH 81 _ _ _ at sG
 unfold vs
 rw[aE,dw]
 refine sG.mono ?_
 rintro e w' ⟨rfl,lo,n,os,⟨gG,_,q9⟩,oZ,rfl⟩
 simp only[vQ] at gG
 have hP:lo.toList.Perm l:=by
  have aP:lo.extract 0 l.length=lo:=by rw[<-gG];simp
  have aC:l.toArray.extract 0 l.length=l.toArray:=by simp
  rw[aP,aC] at q9;simpa using q9
 have auH:qa lo.toList:=aAm h (by rw[gG];exact oZ)
 have ar:lo.toList=mF l:=abJ hP auH
 obtain⟨bQ,he⟩:=ab.Tu aE W (F:=flatK fD 3 lo) (by rw[size_flatK,gG,dw])
 rw[ae8,ar] at bQ
 exact⟨_,_,rfl,⟨[],.nil,rfl,aq _ bQ he⟩,TV hw W n _ os⟩
def encI(x:o):J ao:=[.int .i64 x]
def kK(x:o):(encI x).length=1:=rfl
def zW(x:o):∀v∈encI x,v.oneCell'=ak:=by simp[encI,cF]
def va(l:J o):l.flatMap encI=l.map λx=>.int .i64 x:=by
 induction l with
 |nil=>rfl|cons x l aL=>simp[encI] at aL ⊢;exact aL
def aD.ints{e:N}{l:J o}(h:aD ai u e 1 s (l.flatMap encI)):Ints u s l:=by have:=h.own.cC;rw[va] at this;exact this
def dM(l:J o):J o:=l.mergeSort λx y=>decide (x<=y)
def GI{l:J o}(ab:aD ai u 3 1 s (l.flatMap encI))(fq:l.length<4611686018427387904){K:H->Prop}
  (aq:∀u',aD ai u' 3 1 s ((dM l).flatMap encI)->gN u u' s->K u'):BF s u K:=by
 intro w hw
 have dw:=ab.ints.len
 rcases ab.own.is with h0|⟨b,cur,aE,W,hle,I,ag,ht⟩
 subst h0
 have ar:l=[]:=by have:l.length=0:=dw.symm;exact ly this
 subst ar
 refine(AnyG.slices_Sort_int_none Tryz.akV none 0 w).mono ?_
 rintro e w' ⟨rfl,rfl⟩
 exact⟨_,u,rfl,⟨[],.nil,rfl,aq u (by simpa[dM] using ab) (gN.refl _ _)⟩,Step.refl hw⟩
 have hH:Holds (cG .i64) w b 0 l.toArray:=by
  intro j aM;have kO:j<l.length:=by simpa using aM
  have ar:(l.flatMap encI)[j]?=some (.int .i64 l[j]):=by rw[va];simp[kO]
  constructor;rcases ab.own.cC.at' with h1|⟨p,ad,fP⟩;rw[h1] at ar;simp at ar;rw[aE] at ad;cases ad;have:=hw.cell (fP j _ ar);rw[iC,jI] at this;rw[r4 _ j (by simpa using kO)];simpa using this;simp[F6,hw _ _ W]
 have sG:=AnyG.slices_Sort_int Tryz.akV b 0 s.c l w hH (hw.lt W) fq
 change Calls aH 193 _ _ _ at sG
 unfold vs
 rw[aE,dw]
 refine sG.mono ?_
 rintro e w' ⟨rfl,n,os,rfl⟩
 have hlen:(dM l).length=l.length:=by simp[dM]
 have YI:putCells (cG .i64) 0 (dM l).toArray cur=putCells id 0 ((dM l).map λx=>cG .i64 x).toArray cur:=by unfold putCells;apply Array.ext;simp;intro i h1 h2;simp only[Array.getElem_mapIdx,vQ,dg,nU,true_and,jI,xH,id];split;rename_i hi;rw[r4 _ i (by simpa using hi),r4 _ i (by simpa using hi)];simp;rfl
 obtain⟨bQ,he⟩:=ab.Tu aE W (F:=((dM l).map λx=>cG .i64 x).toArray) (by simp[hlen,dw])
 rw[<-YI] at bQ he
 simp only[] at bQ
 rw[<-va] at bQ
 exact⟨_,_,rfl,⟨[],.nil,rfl,aq _ bQ he⟩,TV hw W n _ os⟩
end
section
variable{u ai:H}{n:N}{k:o}{s:U}{P:dR}{l S:J bP}{f:ju}{x:bP}{xs:J ao}{K:U->H->Prop}{env:J (N×ao)}
def apj(a b:bP)(u:H):ie aH 82 #[.agg (fD a).toArray,.agg (fD b).toArray] [.one (.int .i64)] u λfj u'=>fj=Hm a b/\u'=u:=by refine aly (a:=a) (b:=b) (K:=λfj u'=>fj=Hm a b/\u'=u) λY h1 h2 h3 a7=>⟨?_,rfl⟩;unfold Hm;by_cases aE:bC a b=ak;rw[aV aE];have:=h1.2 aE;omega;rw[az aE];by_cases Z:bC b a=ak;rw[aV Z];have:=h2.2 Z;omega;rw[az Z];have b3:¬Y<0:=λh=>aE (h1.1 h);have eN:¬0<Y:=λh=>Z (h2.1 h);omega
def apf(a b:bP):Hm a b<0↔bC a b=ak:=by unfold Hm;by_cases aE:bC a b=ak;simp[aE];rw[az aE];split<;>simp[aE]
def nS(P:dR)(t:dC)(name:String)(f:ju)(ptr:aI):aI:=
 match P.info? t with
 |some i=>match i.methods.find? (·.name==name) with
  |some m=>match m.path.toList,m.func with
   | [],some (g,b)=>ji g f && (b==ptr)|_,_=>ax
  |none=>ax
 |none=>ax
def AT{t:dC}{name:String}{ptr:aI}(h:nS P t name f ptr=ak):
  ∃i m,P.info? t=some i/\i.methods.find? (·.name==name)=some m/\m.path=#[]/\m.func=some (f,ptr):=by
 unfold nS at h
 split at h
 rename_i i hi
 split at h
 rename_i m hm
 split at h
 rename_i g b ad ac
 simp only[pb,S6] at h
 refine⟨i,m,hi,hm,?_,?_⟩
 apply C7;rw[ad]
 rw[ac,l1 h.1,h.2]
 cases h
 cases h
 cases h
def awe:nS aH 146 "Len" 320 ax=ak:=by kernel_rfl
def awf:nS aH 146 "Less" 321 ax=ak:=by kernel_rfl
def awh:nS aH 146 "Swap" 322 ax=ak:=by kernel_rfl
def awg:nS aH 146 "Push" 324 ak=ak:=by kernel_rfl
def ayN:qH aH 141=some (.one .slice):=by kernel_rfl
def amr:aH.underlying 146=some (.pointer 141):=by kernel_rfl
def aAJ:j9 aH 141=some (68,3,24,[.int .i64 0,.int .u64 0,.int .u64 0]):=by kernel_rfl
def aoC(x y Y:o):kp aH 141 1 #[(0,.agg #[.int .i64 x,.int .u64 y,.int .u64 Y])]=some (68,[.int .i64 x,.int .u64 y,.int .u64 Y]):=by kernel_rfl
def zZ:∃k,aH.types.size+uz=k+1:=by
 have h:0<uz:=by decide
 generalize aH.types.size=a;exact⟨a+uz-1,by omega⟩
structure BT(ai:H)(n:N)(k:o)(u:H)(l:J bP):Prop where
 ex:∃s:U,u n=some (.cells #[.int .i64 k,.slice s.a s.n s.c] 143 (0,0))/\aD ai u 68 3 s (l.flatMap fD)/\s.aj≠some n
 out:ai n=none
 small:l.length<=1000000
def agC(n:N):ao:=.iface 146 (.pointer (some ((cr n 0 none).add 1)))
def BW(n:N):(cr n 0 none).add 1=⟨n,1,none⟩:=by rw[iC]
def XF{name:String}(hm:nS aH 146 name f ax=ak)(ae:u n=some (.cells #[.int .i64 k,.slice s.a s.n s.c] 143 (0,0)))(w:b6)(hw:Sub u w):
  (method (aH.types.size+uz) 146 (.pointer (some ((cr n 0 none).add 1))) name).run aH w=.ok (f,.slice s.a s.n s.c) w:=by
 obtain⟨i,m,h1,h2,h3,a7⟩:=AT hm
 obtain⟨dQ,de⟩:=zZ
 rw[de]
 refine abo h1 h2 h3 a7 amr ?_
 have I:u.cell? ((cr n 0 none).add 1)=some (.slice s.a s.n s.c):=by rw[BW];exact a1 ae 1
 have ys:=hw.cell I
 exact IW ayN ((cr n 0 none).add 1) (vs:=[.slice s.a s.n s.c]) rfl (aaV _ _ _ _ _ rfl (λj v aM=>by
  cases j with
  |zero=>simp at aM;subst aM;exact ys|succ j=>simp at aM)) (λc I=>⟨_,rfl,ys⟩)
def K8{i:N}(h:l[i]?=some x):l.getD i default=x:=by rw[dr,h];rfl
def aAc{i j:o}{K:aI->H->Prop}(ag:nw u s l)(i0:0<=i)(i1:i<l.length)(gJ:0<=j)(jY:j<l.length)
  (h:K (bC (l.getD j.toNat default) (l.getD i.toNat default)) u):adu s i j u K:=by
 have ae:=ag.len
 apply aDV
 obtain⟨p,ad,x,M,bK,c1,c2⟩:=ag.at gJ (show j<(s.n:o) by omega)
 obtain⟨q,aO,y,ah,d0,d1,d2⟩:=ag.at i0 (show i<(s.n:o) by omega)
 rw[K8 M,K8 ah] at h
 exact⟨p,ad,⟨gJ,by omega⟩,q,aO,⟨i0,by omega⟩,_,bK,_,c1,_,c2,_,d0,_,d1,_,d2,JW h⟩
def aAd{i j:o}{K:H->Prop}(ab:aD ai u 68 3 s (l.flatMap fD))(i0:0<=i)(i1:i<l.length)(gJ:0<=j)(jY:j<l.length)
  (h:∀u',aD ai u' 68 3 s ((jA l i.toNat j.toNat).flatMap fD)->gN u u' s->K u'):adv s i j u K:=by
 have ag:=ab.fh
 have ae:=ag.len
 apply aDX
 obtain⟨p,ad,x,M,bK,c1,c2⟩:=ag.at gJ (show j<(s.n:o) by omega)
 obtain⟨q,aO,y,ah,d0,d1,d2⟩:=ag.at i0 (show i<(s.n:o) by omega)
 refine⟨p,ad,⟨gJ,by omega⟩,q,aO,⟨i0,by omega⟩,_,bK,_,c1,_,c2,_,d0,_,d1,_,d2,q,aO,⟨i0,by omega⟩,?_⟩
 refine aD.store (enc:=fD) rI ab (by decide) (i:=i.toNat) (by omega) (y:=x) (Ei x) aO λaS kf vh _=>⟨p,ad,⟨gJ,by omega⟩,?_⟩
 refine aD.store (enc:=fD) rI kf (by decide) (i:=j.toNat) (by simp;omega) (y:=y) (Ei y) ad λc9 dz iQ _=>h c9 ?_ (λb z Z al=>iQ b z (vh b z Z al) al)
 have ea:i.toNat<l.length:=by omega
 have ku:j.toNat<l.length:=by omega
 have ex:l[j.toNat]=x:=by rw[cn ku] at M;exact cO M
 have u7:l[i.toNat]=y:=by rw[cn ea] at ah;exact cO ah
 rw[GL ea ku,ex,u7]
 exact dz
def hh(h:hl P f=ak):∃fn,P.funcs[f]?=some fn/\fn.body.isSome=ak:=af8 h
def aoh:hl aH 320=ak:=by kernel_rfl
def aoi:hl aH 321=ak:=by kernel_rfl
def aom:hl aH 322=ak:=by kernel_rfl
def aok:hl aH 324=ak:=by kernel_rfl
def BT.set{u':H}{bw:J bP}(h:BT ai n k u l)(ae:u n=some (.cells #[.int .i64 k,.slice s.a s.n s.c] 143 (0,0)))(ag:s.aj≠some n)
  (ab:aD ai u' 68 3 s (bw.flatMap fD)) (he:gN u u' s) (ar:bw.length=l.length):BT ai n k u' bw:=
 ⟨⟨s,he _ _ ae ag,ab,ag⟩,h.out,by rw[ar];exact h.small⟩
def al7(ai:H)(n:N)(k:o):uX (agC n) (BT ai n k) (λa b=>bC b a) where
 len:=by intro u l K h aq;obtain⟨s,ae,ab,_⟩:=h.ex;refine⟨_,_,_,_,rfl,λw hw=>XF awe ae w hw,hh aoh,aDU s u K ?_⟩;rw[ab.fh.len];exact aq
 less:=by intro u l i j K h i0 i1 gJ jY aq;obtain⟨s,ae,ab,_⟩:=h.ex;exact⟨_,_,_,_,rfl,λw hw=>XF awf ae w hw,hh aoi,aAc ab.fh i0 i1 gJ jY aq⟩
 swap:=by intro u l i j K h i0 i1 gJ jY aq;obtain⟨s,ae,ab,al⟩:=h.ex;exact⟨_,_,_,_,rfl,λw hw=>XF awh ae w hw,hh aom,aAd ab i0 i1 gJ jY λu' bQ he=>aq u' (h.set ae al bQ he (pk _ _ _))⟩
 small:=λh=>by have:=h.small;omega
def XE:oE (λa b:bP=>bC b a) where
 asymm:=λa b h=>Ic h
 trans:=λa b c h k=>E1 k h
def an2(h:bP)(w:b6):(s7 (.iface 68 (.agg #[.int .i64 h.1,.int .u64 (dk h.2),.int .u64 (dq h.2)])) 20 68 ak).run aH w=
  .ok (.tuple #[.agg #[.int .i64 h.1,.int .u64 (dk h.2),.int .u64 (dq h.2)],.bool ak]) w:=by kernel_rfl
def asr{K:H->Prop}(h:BT ai n k u l)(ar:l.length<1000000)(aq:∀u',BT ai n k u' (l++ [x])->K u'):
  mJ aH (agC n) "Push" #[.iface 68 (.agg #[.int .i64 x.1,.int .u64 (dk x.2),.int .u64 (dq x.2)])] [] u K:=by
 obtain⟨s,ae,ab,al⟩:=h.ex
 obtain⟨i,m,h1,h2,h3,a7⟩:=AT awg
 obtain⟨dQ,de⟩:=zZ
 refine⟨_,_,_,_,rfl,λw _=>by rw[de];exact JK h1 h2 h3 a7 amr,hh aok,?_⟩
 refine aDW (some ((cr n 0 none).add 1)) _ u K ?_
 refine c4.pure [.int .i64 x.1,.int .u64 (dk x.2),.int .u64 (dq x.2),.bool ak] (λw _=>?_) (.cons (t:=.int .i64) _ (.cons (t:=.int .u64) _ (.cons (t:=.int .u64) _ (.cons (t:=.bool) _ .nil)))) ?_
 exact an2 x w
 refine⟨λ_=>⟨_,rfl,s,by rw[BW];exact a1 ae 1,?_⟩,λZ=>by cases Z⟩
 refine zl aAJ (aoC _ _ _) (by decide) rfl (by simp[cF]) ab (by have:=ab.fh.len;omega) (by have:=ab.fh.len;omega) λap u' bQ hJ he hblk _=>⟨_,rfl,?_⟩
 have fp:=he _ _ ae al
 have k4:ap.aj≠some n:=λe=>by rcases hblk n e with h|h;exact al h;rw[ae] at h;cases h
 rw[BW]
 refine⟨_,_,fp,rfl,by simp,by simp[cF],aq _ ⟨⟨ap,bf _ _ _,⟨?_,?_,bQ.fresh⟩,k4⟩,h.out,by simp;omega⟩⟩
 rw[afd] at bQ
 exact bQ.own.le λb z Z b9=>by rw[bm _ _ (λe=>k4 (by rw[Z,e]))];exact b9
 intro b z Z
 rw[bm _ _ (λe=>by rw[e,h.out] at Z;cases Z)]
 exact bQ.le b z Z
def abB{t e:dC}{size bytes:N}{zs:J ao}(aR:j9 P t=some (e,size,bytes,zs))(eg:kp P t 0 #[]=some (e,[]))(cY:0<size)
  (ag:bt u s size xs) (h1:∀y∈xs,y.oneCell'=ak) (Z:s.n*bytes<=140737488355328) {K:U->H->Prop} (aq:∀ap u',aD u u' e size ap xs->ap.n=s.n->K ap u'):
  c4 P (dA t 0 #[]) [.one .slice] u λs0 aS=>c4 P (dW #[t,t] t #[.slice s0.a s0.n s0.c,.slice s.a s.n s.c]) [.one .slice] aS K:=by
 refine l8 eg λg W=>?_
 have h0:=aD.make (k:=size) (H.le.refl u) W (cells:=#[]) (e:=e) (n:=0) (by omega) (by simp)
 have yD:=jv ag.cap ag.max
 refine abz aR cY h0.own (ag.mono (bW _ W)) h1 (by simp only[jI];exact yD) (by simpa using Z) λap u' ab ae lW _=>aq ap u' ⟨by simpa using ab,lW.le h0.le h0.fresh,λbX cb=>lW.out h0.le h0.fresh bX cb⟩ (by simpa using ae)
def aby{size:N}(h:bt u s size xs)(ae:s.a=none):xs=[]:=by rcases h.at' with h|⟨p,ad,_⟩;exact h;rw[ae] at ad;cases ad
def aoD:kp aH 38 0 #[]=some (68,[]):=by kernel_rfl
def aoF:kp aH 30 0 #[]=some (3,[]):=by kernel_rfl
def azJ(ag:nw u s l)(Z:s.n<=1099511627776)(aq:∀ap u',aD u u' 68 3 ap (l.flatMap fD)->ap.n=s.n->K ap u'):UU s u K:=by
 apply aC6;refine⟨λae=>?_,λ_=>abB al1 aoD (by decide) ag ?_ (by omega) aq⟩;have ar:=aby ag ae;have hN:s.n=0:=by have:=bt.len ag;rw[ar] at this;simp at this;omega
 refine aq _ _ ?_ hN.symm;rw[ar];exact aD.nil (H.le.refl u) _ _;intro y ah;obtain⟨h,_,ah⟩:=ee.1 ah;exact Ei h y ah
def sc{l:J o}(ag:Ints u s l)(Z:s.n<=1099511627776)(aq:∀ap u',aD u u' 3 1 ap (l.flatMap encI)->ap.n=s.n->K ap u'):oC s u K:=by
 have fY:bt u s 1 (l.flatMap encI):=by rw[va];exact ag
 apply aC5;refine⟨λae=>?_,λ_=>abB lQ aoF (by decide) fY ?_ (by omega) aq⟩;have ar:=aby fY ae;have hN:s.n=0:=by have:=bt.len fY;rw[ar] at this;simp at this;omega
 refine aq _ _ ?_ hN.symm;rw[ar];exact aD.nil (H.le.refl u) _ _;intro y ah;obtain⟨h,_,ah⟩:=ee.1 ah;exact zW h y ah
def iE(ai:H)(n:N)(k:o)(u:H)(S:J bP):Prop:=∃l,BT ai n k u l/\iw (λa b=>bC b a) l.length l/\l.Perm (eV k.toNat S)
def iE.le(h:iE ai n k u S):ai.le u:=by obtain⟨l,h,_,_⟩:=h;obtain⟨s,_,ab,_⟩:=h.ex;exact ab.le
def iE.mono{u':H}(h:iE ai n k u S)(hu:u.le u'):iE ai n k u' S:=by obtain⟨l,h,h2,h3⟩:=h;obtain⟨s,ae,ab,al⟩:=h.ex;exact⟨l,⟨⟨s,hu _ _ ae,ab.mono hu,al⟩,h.out,h.small⟩,h2,h3⟩
def iE.l6(h:iE ai n k u S){m:N}(hm:u m=none)(z:Obj):iE (ai.ins m z) n k (u.ins m z) S:=by
 obtain⟨l,h,h2,h3⟩:=h;obtain⟨s,ae,ab,al⟩:=h.ex;have q5:n≠m:=λe=>by rw[e,hm] at ae;cases ae
 exact⟨l,⟨⟨s,by rw[bm _ _ q5];exact ae,ab.l6 hm z,al⟩,by rw[bm _ _ q5];exact h.out,h.small⟩,h2,h3⟩
def aD.xj{e k:N}(h:aD ai u e k s xs){D:N}(eM:ai D=none)(Z:s.aj≠some D)(z:Obj):aD ai (u.ins D z) e k s xs:=by refine⟨h.own.le λb x M oq=>?_,λb x M=>?_,h.fresh⟩;rw[bm _ _ (λe=>Z (by rw[M,e]))];exact oq;rw[bm _ _ (λe=>by rw[e,eM] at M;cases M)];exact h.le b x M
def iE.perm{T:J bP}(h:iE ai n k u S)(ad:S.Perm T):iE ai n k u T:=by obtain⟨l,h1,h2,h3⟩:=h;exact⟨l,h1,h2,by rw[<-DB ad];exact h3⟩
def OT{K:ay ba->o->H->Prop}(dx:k<1∨64<k->K none 1 u)(bH:1<=k->k<=64->∀n u',u.le u'->u n=none->iE u n k u' []->K (some ⟨n,0,none⟩) 0 u'):DR k u K:=by apply aDS;refine⟨λh=>dx (.inl h),λh=>⟨λh2=>dx (.inr h2),λh2 n ae=>bH (by omega) (by omega) n _ (bW _ ae) ae ?_⟩⟩;refine⟨[],⟨⟨⟨none,0,0⟩,bf _ _ _,aD.nil (bW _ ae) _ _,by simp[U.aj]⟩,ae,by simp⟩,λi _ hi=>by simp at hi,?_⟩;simp[eV,mF]
def OS{K:aI->H->Prop}(h:iE ai n k u S)(cx:1<=k)(cS:k<=64)(aq:∀b u',iE ai n k u' (x::S)->K b u'):
  zz (some ⟨n,0,none⟩) x.1 (dk x.2) (dq x.2) u K:=by
 obtain⟨l,dI,bV,ad⟩:=h
 obtain⟨s,ae,ab,al⟩:=dI.ex
 have hlen:=ad.length_eq
 rw[zq] at hlen
 have dw:=ab.fh.len
 apply aDP
 have iy:u.cell? ((cr n 0 none).add 1)=some (.slice s.a s.n s.c):=by rw[BW];exact a1 ae 1
 refine⟨λM=>(by cases M),λ_=>⟨_,rfl,_,rfl,s,iy,k,a1 ae 0,λaFI=>⟨_,rfl,?_⟩,λgr=>?_⟩⟩
 refine ak2 (al7 ai n k) XE (y:=x) bV (λmr=>asr dI (by omega) mr) λu' bw fY iT lX=>aq ak u' ⟨bw,fY,lX,?_⟩
 have bh:S.length<k.toNat:=by omega
 obtain⟨t1,t2⟩:=aA6 (x:=x) bh
 exact iT.trans (l5 _ _|>.trans ((iL x (ad.trans t2)).trans t1.symm))
 have hk:l.length=k.toNat:=by omega
 have bh:k.toNat<=S.length:=by omega
 obtain⟨p,gG,r,O,bK,c1,c2⟩:=ab.fh.at (x:=0) (by omega) (by omega)
 obtain⟨t,rfl⟩:∃t,l=r::t:=by
  cases l with
  |nil=>simp at O|cons a t=>simp at O;subst O;exact⟨t,rfl⟩
 have kP:∀y∈r::t,bC r y=ax:=by intro y ah;obtain⟨i,hi,rfl⟩:=pc.1 ah;have:=iw.root XE bV i hi;simpa[dr,cn hi] using this
 refine⟨_,rfl,s,iy,p,gG,⟨by omega,by omega⟩,_,bK,_,c1,_,c2,JW ⟨λZ=>aq ax u ⟨r::t,dI,bV,?_⟩,λZ=>⟨_,rfl,s,iy,p,gG,⟨by omega,by omega⟩,?_⟩⟩⟩
 rw[ack bh λy ah=>E1 (kP y (ad.mem_iff.2 ah)) (by simpa using Z)]
 exact ad
 refine aD.store (enc:=fD) rI ab (by decide) (i:=0) (by simp) (y:=x) (Ei x) gG λaS kf vh _=>⟨_,rfl,?_⟩
 have auI:BT ai n k aS ((r::t).set 0 x):=dI.set ae al kf vh (by simp)
 refine azl (al7 ai n k) XE auI (by simp) (by simpa using bV.apw (cg _) x) λu' bw fY iT lX=>aq ak u' ⟨bw,fY,lX,?_⟩
 exact iT.trans (aA3 ad kP Z (by rw[zq];omega))
def JV(h:iE ai n k u S)(aq:∀ap u',aD u u' 68 3 ap ((eV k.toNat S).flatMap fD)->K ap u'):
  BG (some ⟨n,0,none⟩) u K:=by
 obtain⟨l,dI,bV,ad⟩:=h
 obtain⟨s,ae,ab,al⟩:=dI.ex
 have fq:=dI.small
 have dw:=ab.fh.len
 apply aDO
 have iy:u.cell? ((cr n 0 none).add 1)=some (.slice s.a s.n s.c):=by rw[BW];exact a1 ae 1
 refine⟨λM=>(by cases M),λ_=>⟨_,rfl,s,iy,azJ ab.fh (by omega) λap u' bQ _=>?_⟩⟩
 refine alo (cf:=Hm) apf (enters_of func82 (by kernel_rfl) rfl) apj bQ (by omega) λc9 dz _=>aq ap c9 ?_
 rw[akS ad] at dz
 rw[<-abJ (.refl _) (T3 _ _)] at dz
 exact dz
open Go.RowKit
def NG(z:eF):aI:=match z.op with
 | .defer _=>ax|_=>ak
def mB:iK->aI
 | .skip=>ak| .seq a b=>mB a && mB b| .cond _ a b=>mB a && mB b| .block _ b=>mB b| .region _ ops _=>ops.toList.all NG|_=>ax
def awS{z:eF}(h:NG z=ak):∀c,z.op≠.defer c:=λc I=>by unfold NG at h;rw[I] at h;cases h
def aEx{ops:cu eF}{Q:kz->eo->b6->Prop}(aw:∀z∈ops.toList,NG z=ak)(e6:¬LetsOut Q)(ro:ay N):∀(gg:N) (listed:cu aI) (a:eo) (w:b6),
  wpAny P .any ops Q gg listed a w->wpAnyIn (Fr ro) 0 P .any ops Q gg listed a w:=by
 intro gg
 induction gg with
 |zero=>intro listed a w h;exact h
 |succ gg aL=>
  intro listed a w h;refine⟨h.1,λi hi=>?_⟩;have h2:=h.2 i hi;unfold wpOp at h2;unfold wpOpIn;cases ab:ops[i]? with
  |none=>rw[ab] at h2;exact aL _ _ _ h2|some z=>rw[ab] at h2;simp only at h2 ⊢;split at h2;rename_i hw;rw[aV hw];rcases h2 with h3|h3;exact Go.Oper.wpIn_mono (λa w h=>aL _ _ _ h) (wm ro (.inr (awS (aw z (by rw[F3];exact SV ab)))) h3);exact a6 h3.2 e6;rename_i hw;rw[az hw];exact⟨λ_ _=>trivial,aL _ _ _ h2⟩
section
variable {C:kZ} {bz:N->aI} {s:aN} {u:H} {bs:J N} {a:eo} {w:b6}
set_option maxHeartbeats 1000000 in
def Qq(ft:Good C)(ro:ay N):∀(c:iK),mB c=ak->∀(p:N) (bz:N->aI) (Q:kz->aN->H->Prop) (s:aN) (u:H),hf C [] c p bz Q s u->
  ∀(bs:J N) (a:eo) (w:b6),Fits s bs u a w->c.wpIn (Fr ro) 0 C.P (mg bz s bs u a w (fo c) Q) a w:=by
 intro c
 induction c with
 |skip=>intro _ p bz Q s u h bs a w ac;exact wpIn_skip ⟨λ_=>rv,s,u,bs,h,ac,Step.refl ac.sub,Kept.refl _ _,λ_ _=>rfl⟩
 |region id ops bg=>
  intro k5 p bz Q s u h bs a w ac;cases bg with
  |true=>
   simp only[mB,NW] at k5;simp only[hf] at h;split at h;rename_i oo;have Ct:Fits s bs u a {w with drawn:=w.drawn+1}:=⟨ac.toFitsE,ac.len,ac.loc,ac.nodup,ac.b7,ac.sub⟩;have hv:x3 ops (Db ops.size ax):=by
    intro j z _ aM;have:(Db ops.size ax).getD j ax=ax:=by rw[A1,Array.getElem?_replicate];split<;>rfl
    rw[this] at aM;cases aM
   have sH:BI bz s bs u a {w with drawn:=w.drawn+1} (gA (fo (.region id ops ak))) (Q .normal) (λcM w'=>r5=.normal/\mg bz s bs u a w (fo (.region id ops ak)) Q .normal cM w'):=by intro ap u' c5 cM w' hk dd ag il aE;exact⟨rfl,λ_=>rv,ap,u',c5,hk,dd,(Step.Qy ac.sub (Jo _)).trans ag,il,aE⟩
   have b4:(Code.region id ops ak).wpIn (Fr ro) 0 C.P (λe cM w'=>e=.normal/\mg bz s bs u a w (fo (.region id ops ak)) Q .normal cM w') a w:=by refine wpIn_region_any ft.mixed (aEx k5 (λar=>by obtain⟨_,_,h,_⟩:=ar;exact rv h) ro _ _ _ _ ?_);split at h;refine acM (nd:=rk ops) (S:=jl s.loc bs u) _ _ _ _ ?_;exact aeJ ft (ds:=gA (fo (.region id ops ak))) (gv:=s.loc) (fC:=bs) oo (λc a w ad=>rv ad.1) (λz ab d aw=>Hp ab aw) _ _ _ s u h bs a _ _ Ct hv (by unfold left;simp) (λ_=>⟨H.le.refl u,rfl,rfl⟩) ⟨[],by simp⟩ sH;obtain⟨v0,yB,h⟩:=h;refine acN (R:=oG ops s.loc bs v0 u) _ _ _ _ ?_;exact aeI ft (ds:=gA (fo (.region id ops ak))) (gv:=s.loc) (fC:=bs) yB oo (λc a w ad=>rv ad.1) (λz ab d aw=>Hp ab aw) _ _ _ s u h bs a _ _ Ct hv (by unfold left;simp) (λ_=>⟨H.le.refl u,rfl,rfl⟩) ⟨[],by simp⟩ sH
   exact xI b4 λe cM w' ⟨h1,h2⟩=>by rw[h1];exact h2
   exact h.elim
  |false=>simp only[mB,NW] at k5;simp only[hf] at h;refine wpIn_region_list (akI ft ro (ds:=gA (fo (.region id ops ax))) ops.toList s u bs a w h ac (.inr λz ab c I=>?_) (λz ab d aw=>Hp ab aw) ?_);have:=k5 z ab;unfold NG at this;rw[I] at this;cases this;intro ap u' c5 cM w' hk dd ag il aE;exact⟨λ_=>rv,ap,u',c5,hk,dd,ag,il,aE⟩
 |seq x y CS CT=>
  intro k5 p bz Q s u h bs a w ac;have oh:∀d,gA (fo (.seq x y)) d=ax->gA (fo x) d=ax:=λd h=>by simp only[fo,CY,y6] at h;exact h.1
  have Cs:∀d,gA (fo (.seq x y)) d=ax->gA (fo y) d=ax:=λd h=>by simp only[fo,CY,y6] at h;exact h.2
  simp only[mB,pb] at k5;simp only[hf,Qa] at h;refine wpIn_seq (N5 ?_ (CS k5.1 _ _ _ s u h bs a w ac));intro e cM w' ad;obtain⟨al,ap,u',c5,aO,dd,ag,hk,aE⟩:=ad;cases e with
  |normal=>refine N5 ?_ (CT k5.2 _ _ _ ap u' aO c5 cM w' dd);intro aC a2 dK fg;exact mg.next ag hk (λd aw=>aE d (oh d aw)) (fg.mono Cs)
  |exit id=>exact⟨al,ap,u',c5,aO,dd,ag,hk,λd aw=>aE d (oh d aw)⟩|goto l=>exact⟨al,ap,u',c5,aO,dd,ag,hk,λd aw=>aE d (oh d aw)⟩|ret=>exact⟨al,ap,u',c5,aO,dd,ag,hk,λd aw=>aE d (oh d aw)⟩|panic c=>exact a6 rfl (al c)|outgrown=>exact⟨al,ap,u',c5,aO,dd,ag,hk,λd aw=>aE d (oh d aw)⟩
 |cond c x y CS CT=>
  intro k5 p bz Q s u h bs a w ac;simp only[mB,pb] at k5;have oh:∀d,gA (fo (.cond c x y)) d=ax->gA (fo x) d=ax:=λd h=>by simp only[fo,CY,y6] at h;exact h.1
  have Cs:∀d,gA (fo (.cond c x y)) d=ax->gA (fo y) d=ax:=λd h=>by simp only[fo,CY,y6] at h;exact h.2
  have M:∀(st:aN),a.eval c=.bool ak->Fits st bs u a w->(st.loc=s.loc/\st.n=s.n)->hf C [] x (2*p) bz Q st u->(Code.cond c x y).wpIn (Fr ro) 0 C.P (mg bz s bs u a w (fo (.cond c x y)) Q) a w:=by intro st I EK dw hw;refine wpIn_cond_true I (N5 ?_ (CS k5.1 _ _ _ st u hw bs a w EK));intro e cM w' ad;exact mg.next (Step.refl ac.sub) ⟨dw.2,by rw[dw.1];exact cg _,λi cs e _=>by rw[dw.1];exact e⟩ (λ_ _=>rfl) (ad.mono oh)
  have ah:∀(st:aN),a.eval c=.bool ax->Fits st bs u a w->(st.loc=s.loc/\st.n=s.n)->hf C [] y (2*p+1) bz Q st u->(Code.cond c x y).wpIn (Fr ro) 0 C.P (mg bz s bs u a w (fo (.cond c x y)) Q) a w:=by intro st I EK dw hw;refine wpIn_cond_false I (N5 ?_ (CT k5.2 _ _ _ st u hw bs a w EK));intro e cM w' ad;exact mg.next (Step.refl ac.sub) ⟨dw.2,by rw[dw.1];exact cg _,λi cs e _=>by rw[dw.1];exact e⟩ (λ_ _=>rfl) (ad.mono Cs)
  have iA:∀v,s.sv c=some v->∀t,c=.tmp t->(look s.env t).isSome=ak:=λv aA t ht=>by subst ht;simp only[aN.sv] at aA;rw[aA];rfl
  simp only[hf] at h;split at h;rename_i I;exact M s (cO (ac.sv I)).symm ac ⟨rfl,rfl⟩ h;rename_i I;exact ah s (cO (ac.sv I)).symm ac ⟨rfl,rfl⟩ h;rename_i q d I;have fc:=(cO (ac.sv I)).symm;by_cases aO:q;have aP:a.eval c=.bool ak:=by rw[fc];simp[aO]
  obtain⟨h1,h2⟩:=wh (x:=.jL) ac (by rw[aP];rfl) (iA _ I);exact M _ aP h1 h2 (h.1 aO);have aP:a.eval c=.bool ax:=by rw[fc];simp[aO]
  obtain⟨h1,h2⟩:=wh (x:=.jP) ac (by rw[aP];rfl) (iA _ I);exact ah _ aP h1 h2 (h.2 aO);rename_i q d I;have fc:=(cO (ac.sv I)).symm;by_cases aO:q;have aP:a.eval c=.bool ax:=by rw[fc];simp[aO]
  obtain⟨h1,h2⟩:=wh (x:=.jP) ac (by rw[aP];rfl) (iA _ I);exact ah _ aP h1 h2 (h.2 aO);have aP:a.eval c=.bool ak:=by rw[fc];simp[aO]
  obtain⟨h1,h2⟩:=wh (x:=.jL) ac (by rw[aP];rfl) (iA _ I);exact M _ aP h1 h2 (h.1 aO);rename_i b I;have fc:=(cO (ac.sv I)).symm;cases b with
  |true=>obtain⟨h1,h2⟩:=wh (x:=.jL) ac (by rw[fc];rfl) (iA _ I);exact M _ fc h1 h2 (h.1 rfl)
  |false=>obtain⟨h1,h2⟩:=wh (x:=.jP) ac (by rw[fc];rfl) (iA _ I);exact ah _ fc h1 h2 (h.2 rfl)
  exact h.elim
 |block id b aL=>
  intro k5 p bz Q s u h bs a w ac;simp only[mB] at k5;simp only[hf] at h;refine wpIn_block (N5 ?_ (aL k5 _ _ _ s u h bs a w ac));intro e cM w' ad;obtain⟨al,ap,u',c5,aO,dd,ag,hk,aE⟩:=ad;cases e with
  |exit j=>simp only at aO;simp only[Exit.inBlock];split at aO;rename_i aM;have:=l1 aM;subst this;rw[aV rfl];exact⟨λ_=>rv,ap,u',c5,aO,dd,ag,hk,aE⟩;rename_i aM;rw[az (λe=>by subst e;rw[Nat.beq_refl] at aM;cases aM)];exact⟨al,ap,u',c5,aO,dd,ag,hk,aE⟩
  |normal=>exact⟨al,ap,u',c5,aO,dd,ag,hk,aE⟩|goto l=>exact⟨al,ap,u',c5,aO,dd,ag,hk,aE⟩|ret=>exact⟨al,ap,u',c5,aO,dd,ag,hk,aE⟩|panic c=>exact a6 rfl (al c)|outgrown=>exact⟨al,ap,u',c5,aO,dd,ag,hk,aE⟩
 |label l=>intro h;simp[mB] at h
 |ret=>intro h;simp[mB] at h
 |exit id=>intro h;simp[mB] at h
 |goto l=>intro h;simp[mB] at h
 |refuse r=>intro h;simp[mB] at h
 |rangeFunc f c3 x y=>intro h;simp[mB] at h
 |scope b aL=>intro h;simp[mB] at h
 |loop b aL=>intro h;simp[mB] at h
end
def Iter{α:Type}(P:dR)(fv:ao)(enc:α->ao)(xs:J α)(u:H):Prop:=
 ∀(mb:ao) (cU:N->H->Prop),(∀i v,cU i v->u.le v)->
  (∀i y v (K:aI->H->Prop),xs[i]?=some y->cU i v->(∀cm,cU (i+1) cm->K ak cm)->zB P mb #[enc y] [.one .bool] v K)->
  ∀v (K:H->Prop),cU 0 v->(∀cm,cU xs.length cm->K cm)->hL P fv #[mb] [] v K
def BR(P:dR)(n:N)(assign body:iK)(env:J (N×ao))(x:N)(y:ao)(v:H)(cU:H->Prop):Prop:=
 ∀l a w,a.tmps.size=n->(∀p∈env,p.1≠x->a.tmps[p.1]?=some p.2)->a.tmps[x]?=some y->a.defers=[]->Sub v w->
  assign.wpIn (Fr (some l)) 0 P (Exit.then (λaa fu=>∃v1,Step v [] w v1 [] fu/\∀dK,Sub v1 dK->
   body.wpIn (Fr (some l)) 0 P (λe _ hy=>e=.normal/\∃v2,cU v2/\Step v1 [] dK v2 [] hy) aa dK) (λ_ _ _=>ej)) a w
def H.II{v:H}(h:u.le v)(b:N)(z:Obj):(u.ins b z).le (v.ins b z):=by intro x y e;unfold H.ins at e ⊢;split at e;rename_i M;rw[aV M];exact e;rename_i M;rw[az M];exact h x y e
def mP.intro{α:Type}{t x:N}{assign body:iK}{K:N->H->Prop}{enc:α->ao}{xs:J α}{fv:ao}{ub:H}(b9:ub.le u)
  (ac:∀f args w,(∃fn,P.funcs[f]?=some fn/\fn.body.isSome=ak)->(qw f args).run P w=.ok (.enter f args) w) (W:(t,fv)∈env) (M:x<n)
  (iI:∀ai,ub.le ai->Iter P fv enc xs ai) (cU:N->H->Prop) (h0:cU 0 u) (hle:∀i v,cU i v->ub.le v)
  (LF:∀i y v,xs[i]?=some y->cU i v->BR P n assign body env x (enc y) v (cU (i+1)))
  (aq:∀v D,cU xs.length v->v D=none->K D (v.ins D (.deferred (some [])))):mP P (.rangeFunc (.tmp t) #[x] assign body) n env u K:=by
 intro a w cY sL LL gH
 refine(NZ (n:=0)).1 (wpIn_rangeFunc ?_)
 intro fn _
 have fc:a.eval (.tmp t)=fv:=by simp only[Act.eval];rw[A1,sL _ W];rfl
 obtain⟨rec,mx⟩:∃rec:LoopState->Loop,rec=λst=>{state:=st,pending:=none,fn,tmps:=a.tmps,params:=#[x],assign,body,defers:=w.heap.size}:=⟨_,rfl⟩
 obtain⟨iO,jE⟩:∃iO,(w.alloc (.deferred (some []))).alloc (.loop (rec .ready))=iO:=⟨_,rfl⟩
 have ah0:iO.heap.size=w.heap.size+2:=by rw[<-jE];simp
 have Lr:iO.heap[w.heap.size+1]?=some (.loop (rec .ready)):=by rw[<-jE];have:=Jv (w.alloc (.deferred (some []))) (.loop (rec .ready));rwa[C8] at this
 have Ew:iO.heap[w.heap.size]?=some (.deferred (some [])):=by rw[<-jE];exact(Below.heap_alloc _ _ _ (by simp)).trans (Jv w _)
 have hold:∀b,b<w.heap.size->iO.heap[b]?=w.heap[b]?:=λb Z=>by rw[<-jE];exact(Below.heap_alloc _ _ _ (by simp;omega)).trans (Below.heap_alloc _ _ _ Z)
 have w3:u (w.heap.size+1)=none:=gH.none (by omega)
 have yo:u w.heap.size=none:=gH.none (cg _)
 have L9:ub (w.heap.size+1)=none:=by
  cases M:ub (w.heap.size+1) with
  |none=>rfl|some z=>rw[b9 _ _ M] at w3;cases w3
 have Na:ub.le (ub.ins (w.heap.size+1) (.loop (rec .ready))):=bW _ L9
 have MZ:Sub (u.ins (w.heap.size+1) (.loop (rec .ready))) iO:=by intro b z Z;unfold H.ins at Z;split at Z;rename_i ev;subst ev;cases Z;exact Lr;have:=gH b z Z;have bC:=gH.lt Z;rw[hold b bC];exact this
 have hv:=iI _ Na (.func (.yield (w.heap.size+1)) #[] #[])
  (λi v=>∃v0,v=v0.ins (w.heap.size+1) (.loop (rec .ready))/\v0 (w.heap.size+1)=none/\v0 w.heap.size=none/\cU i v0)
  (λi v ⟨v0,aA,_,_,aM⟩=>by rw[aA];exact H.II (hle i v0 aM) _ _)
  (by
   rintro i y v fA ah ⟨v0,rfl,nG,tE,aM⟩ mr;refine⟨_,rfl,λbN hB=>?_⟩;have w0:bN.heap[w.heap.size+1]?=some (.loop (rec .ready)):=hB _ _ (bf _ _ _);have bC:w.heap.size+1<bN.heap.size:=(xE.1 w0).1;have mV:(Instr.yield (w.heap.size+1) #[enc y]).run P bN=.ok (.round (w.heap.size+1) fn (a.tmps.setIfInBounds x (enc y)) assign body) bN:=by have:=run_yield (P:=P) (args:=#[enc y]) w0 (by rw[mx];rfl);rw[mx] at this;simpa using this
   have M0:Sub v0 bN:=hB.mono (bW _ nG);refine⟨fn,_,assign,body,mV,aaW trivial ?_⟩;refine xI (LF i y v0 ah aM (w.heap.size+1) _ bN ?_ ?_ ?_ rfl M0) ?_;simpa using cY;intro p ad Fa;show(a.tmps.setIfInBounds x (enc y))[p.1]?=_;rw[Ge (dv Fa)];exact sL p ad;show(a.tmps.setIfInBounds x (enc y))[x]?=_;rw[S7];simp[cY,M];intro e aa fu ad;cases e with
   |normal=>
    obtain⟨v1,eb,Z⟩:=ad;have Cw:fu.heap[w.heap.size+1]?=some (.loop (rec .ready)):=(eb.rest _ bC nG (by simp)).trans w0;have w2:w.heap.size+1<fu.heap.size:=(xE.1 Cw).1;have gi:v1 (w.heap.size+1)=none:=eb.jg _ bC nG;have z8:v1 w.heap.size=none:=eb.jg _ (by omega) tE;refine⟨_,run_beginRound Cw (by rw[mx]),xI (Z _ ?_) ?_⟩;intro b z gz;have al:b≠w.heap.size+1:=λe=>by rw[e,gi] at gz;cases gz
    exact(l2 al).trans (eb.sub b z gz);rintro e a2 hy ⟨rfl,v2,q2,dE⟩;have L8:(fu.putObj (w.heap.size+1) (.loop {rec .ready with state:=.busy})).heap[w.heap.size+1]?=some (.loop {rec .ready with state:=.busy}):=F9 w2;have sO:hy.heap[w.heap.size+1]?=some (.loop {rec .ready with state:=.busy}):=(dE.rest _ (by simpa using w2) gi (by simp)).trans L8;have Mc:w.heap.size+1<hy.heap.size:=(xE.1 sO).1;have hN:v2 (w.heap.size+1)=none:=dE.jg _ (by simpa using w2) gi;have pB:=run_endRound (P:=P) none sO;have K1:({{rec .ready with state:=S8} with state:=if(none:ay iK).isNone then .ready else .done,pending:=none}:Loop)=rec .ready:=by rw[mx];rfl
    rw[K1] at pB;refine⟨_,_,pB,.bool ak,v2.ins (w.heap.size+1) (.loop (rec .ready)),rfl,⟨[.bool ak],.cons (t:=.bool) ak .nil,rfl,?_⟩,?_⟩;exact mr _ ⟨v2,rfl,hN,dE.jg _ (by have:=eb.size;simp;omega) z8,q2⟩;refine⟨λb z gz=>?_,dE.os.trans eb.os,dE.tape.trans eb.tape,dE.output.trans eb.output,jv eb.drawn dE.drawn,?_,λb Z e7 _=>?_,λb Z e7=>?_,[],by simp,by simp⟩;unfold H.ins at gz;split at gz;rename_i ev;subst ev;cases gz;exact F9 Mc;rename_i ev;rw[l2 ev];exact dE.sub b z gz;have h1:=eb.size;have h2:=dE.size;simp at h2 ⊢;omega;have al:b≠w.heap.size+1:=λe=>by rw[e,bf] at e7;cases e7
    rw[bm _ _ al] at e7;have ii:b<fu.heap.size:=Jd Z eb.size;rw[l2 al,dE.rest b (by simpa using ii) (eb.jg b Z e7) (by simp),l2 al];exact eb.rest b Z e7 (by simp);have al:b≠w.heap.size+1:=λe=>by rw[e,bf] at e7;cases e7
    rw[bm _ _ al] at e7 ⊢;exact dE.jg b (by have:=eb.size;simp;omega) (eb.jg b Z e7)
   |_=>exact ad.elim)
  _ (λcm=>∃v0,cm=v0.ins (w.heap.size+1) (.loop (rec .ready))/\v0 (w.heap.size+1)=none/\v0 w.heap.size=none/\cU xs.length v0) ⟨u,rfl,w3,yo,h0⟩ (λ_ h=>h)
 obtain⟨wK,Ce,cap,EL,wO,hv⟩:=hv
 rw[EL] at fc
 refine⟨w.heap.size+1,[{target:=.collected w.heap.size,args:=#[]}],iO,{target:=.fn (.func wK) cap,args:=Ce++ #[.func (.yield (w.heap.size+1)) #[] #[]]},iO,wK,
  Ce++ #[.func (.yield (w.heap.size+1)) #[] #[]]++cap,iO,?_,?_,λ_ _=>trivial,?_,λh=>by simp[uy] at h,?_⟩
 rw[<-jE,mx];exact aaX _ _ _ _ _
 simp only[resolve,fc]
 simp[go_sem]
 simp[invoke,go_sem,ac wK _ _ wO]
 refine NY.2 ((hv iO MZ).mono ?_)
 rintro e hy ⟨v,u',rfl,⟨vs,hk,rfl,I⟩,ag⟩
 cases hk
 obtain⟨v0,rfl,nG,tE,aM⟩:∃v0:H,u'=v0.ins (w.heap.size+1) (.loop (rec .ready))/\v0 (w.heap.size+1)=none/\v0 w.heap.size=none/\cU xs.length v0:=I
 have sO:hy.heap[w.heap.size+1]?=some (.loop (rec .ready)):=ag.sub _ _ (bf _ _ _)
 have Lm:hy.heap[w.heap.size]?=some (.deferred (some [])):=by rw[ag.rest _ (by omega) (by rw[bm _ _ (by omega)];exact yo) (by simp)];exact Ew
 have pB:(Instr.endLoop (w.heap.size+1)).run P hy=.ok none (hy.putObj (w.heap.size+1) (.loop {rec .ready with state:=.exhausted})):=by have:=run_endLoop (P:=P) sO (by rw[mx];simp);rw[this];rw[mx]
 refine⟨none,_,pB,rfl,rfl,w.heap.size,_,?_,aq v0 w.heap.size aM tE,?_⟩
 simp[LL,KK]
 have tX:=ag.size
 refine⟨λb z gz=>?_,?_,?_,?_,?_,by simp;omega,λb Z e7 _=>?_,λb Z e7=>?_,[],by simp,by simp⟩
 unfold H.ins at gz
 split at gz
 rename_i ev;subst ev;cases gz
 rw[l2 (by omega)];exact Lm
 have al:b≠w.heap.size+1:=λe=>by rw[e,nG] at gz;cases gz
 rw[l2 al]
 exact ag.sub b z (by rw[bm _ _ al];exact gz)
 exact ag.os.trans (by rw[<-jE];rfl)
 exact ag.tape.trans (by rw[<-jE];rfl)
 exact ag.output.trans (by rw[<-jE];rfl)
 exact jv (by rw[<-jE];exact cg _) ag.drawn
 have al:b≠w.heap.size+1:=by omega
 rw[l2 al,ag.rest b (by omega) (by rw[bm _ _ al];exact e7) (by simp)]
 exact hold b Z
 have al:b≠w.heap.size+1:=by omega
 have:=ag.jg b (by omega) (by rw[bm _ _ al];exact e7)
 rw[bm _ _ al] at this
 rw[bm _ _ (by omega)];exact this
def BR.of{C:kZ}(ft:Good C){assign body:iK}{x:N}{y:ao}{v:H}{cU:H->Prop}(aE:mB assign=ak)(Z:mB body=ak)
  (Ek:J (N×fB)) (sL:∀p∈Ek,∃Y,hj [] p.2=some Y/\((p.1=x/\Y=y)∨p.1≠x/\(p.1,Y)∈env))
  (h:hf C [] assign 1 (λ_=>ak) (λe s u=>e=.normal/\s.loc=[]/\hf C [] body 1 (λ_=>ak) (λe _ u=>e=.normal/\cU u) s u) {n:=n,env:=Ek,loc:=[]} v):
  BR C.P n assign body env x y v cU:=by
 intro l a w cY he M aw ag
 have ac:Fits {n:=n,env:=Ek,loc:=[]} [] v a w:=by refine⟨⟨aw,cY,λp ad=>?_⟩,rfl,λi cs e=>by simp at e,by simp,by simp,ag⟩;obtain⟨Y,h1,h2⟩:=sL p ad;refine⟨Y,h1,?_⟩;rcases h2 with⟨h3,rfl⟩|⟨h3,a7⟩;rw[h3];exact M;exact he _ a7 h3
 refine xI (Qq ft (some l) assign aE 1 _ _ _ v h [] a w ac) ?_
 rintro e aa fu ⟨_,ap,u',c5,⟨rfl,tQ,eH⟩,dd,dI,_,_⟩
 have kb:c5=[]:=by have:=dd.len;rw[tQ] at this;simpa using this
 subst kb
 refine⟨u',dI,λdK CM=>?_⟩
 have je:Fits ap [] u' aa dK:=⟨dd.toFitsE,dd.len,λi cs e=>by rw[tQ] at e;simp at e,by simp,by simp,CM⟩
 refine xI (Qq ft (some l) body Z 1 _ _ ap u' eH [] aa dK je) ?_
 rintro e a2 hy ⟨_,s2,c9,Hj,⟨rfl,aM⟩,asw,Y1,_,_⟩
 exact⟨rfl,c9,aM,Y1.forget⟩
def zf:iK->iK
 | .rangeFunc _ _ x _=>x|_=>.skip
def zg:iK->iK
 | .rangeFunc _ _ _ x=>x|_=>.skip
def mP.code{c:iK}{t x:N}{K:N->H->Prop}(I:c=.rangeFunc (.tmp t) #[x] (zf c) (zg c))(h:mP P (.rangeFunc (.tmp t) #[x] (zf c) (zg c)) n env u K):mP P c n env u K:=by rw[I];exact h
end
section
variable{u ai:H}{l:J av}{m e gg:N}{t:U}{bN:b6}{T:dC}{v:ao}{d:o}{f:o->o->o}
def X0(h:bP):ao:=.agg #[.int .i64 h.1,.int .u64 (dk h.2),.int .u64 (dq h.2)]
def aoc:hl aH 75=ak:=by kernel_rfl
def asZ{s:U}{q:J o}(ag:dS u s l)(ht:Ints u t q)(bH:kH l q){n0 b3:N}(bK:u.cell? ⟨n0,0,none⟩=some (.slice s.a s.n s.c))(c1:u.cell? ⟨b3,0,none⟩=some (.slice t.a t.n t.c)):
  Iter aH (.func (.func 75) #[] #[.pointer (some ⟨n0,0,none⟩),.pointer (some ⟨b3,0,none⟩)]) X0 (l.map (ia q)) u:=by
 intro mb cU kM MO v K h0 aq
 refine⟨_,_,_,rfl,hh aoc,?_⟩
 have e:(#[]++ #[mb]++ #[gS (some ⟨n0,0,none⟩),.pointer (some ⟨b3,0,none⟩)]:cu ao)=#[mb,.pointer (some ⟨n0,0,none⟩),.pointer (some ⟨b3,0,none⟩)]:=by simp
 rw[e]
 have ae:=ag.len
 have Cq:=bH.rows.dim
 refine aBY mb ⟨n0,0,none⟩ ⟨b3,0,none⟩ v K ⟨s,qg (kM _ _ h0) bK,λi w=>0<=i/\i<=(s.n:o)/\cU i.toNat w,λi _=>s.n-i.toNat,⟨by omega,by omega,h0⟩,?_⟩
 rintro i w ⟨i0,i1,aM⟩
 have hle:=kM _ _ aM
 refine⟨λhi=>?_,λhi=>aq _ ?_⟩
 obtain⟨p,ad,r,O,d0,d1,aA⟩:=(ag.mono hle).at i0 hi
 have fQ:=du O
 obtain⟨ar,Nd⟩:=bH.rows.v r fQ
 refine⟨p,ad,⟨i0,hi⟩,_,d0,_,d1,t,qg hle c1,Bm aA (ht.mono hle) Nd (by omega) bH.Ug (by omega) λx y M ah hw=>?_⟩
 have ex:x=dk (ia q r).2:=by rw[<-show fi x y=(ia q r).2 from hw,XW ah]
 have u7:y=dq (ia q r).2:=by rw[<-show fi x y=(ia q r).2 from hw,Z6 ah]
 subst ex;subst u7
 refine .inr (MO i.toNat (ia q r) w _ (by rw[iD,O];rfl) aM λcm gR=>⟨λh=>a6 rfl h,λ_=>⟨⟨by have:=ag.max;omega,by have:=ag.max;omega⟩,⟨by omega,by omega,?_⟩,by dsimp only;omega⟩⟩)
 rw[show(i+1).toNat=i.toNat+1 by omega]
 exact gR
 rw[dg]
 have:i.toNat=l.length:=by omega
 rw[<-this];exact aM
def VX:∀f args w,(∃fn,aH.funcs[f]?=some fn/\fn.body.isSome=ak)->(qw f args).run aH w=.ok (.enter f args) w:=
 λ_ args w h=>Ql (nF [] ax (ob:=[]) (ov:=[]) (part:=ax)) h args w
abbrev OZ:iK:=JJ (Tryz.f22.body.getD Go.Code.skip)
def aA2:OZ=.rangeFunc (.tmp 34) #[35] (zf OZ) (zg OZ):=by kernel_rfl
def aA7(n9:N)(y:bP)(v:H)(cU:H->Prop)(env:J (N×ao))(he:(9,gS (some ⟨n9,0,none⟩))∈env)
  (h:∀m,v m=none->H.aN (v.ins m (.cells #[.int .i64 0,.int .u64 0,.int .u64 0] 68 (0,0))) ⟨m,0,none⟩ [.int .i64 y.1,.int .u64 (dk y.2),.int .u64 (dq y.2)] λaS=>r5=r5/\([]:J (J ao))=[]/\
   ∃p:ay ba,aS.cell? ⟨n9,0,none⟩=some (.pointer p)/\∃dy:o,aS.cell? ⟨m,0,none⟩=some (.int .i64 dy)/\∃x2:o,aS.cell? ((cr m 0 none).add 1)=some (.int .u64 x2)/\∃kD:o,aS.cell? ((cr m 0 none).add 2)=some (.int .u64 kD)/\
    zz p dy x2 kD aS λ_ c9=>r5=r5/\cU c9):
  BR aH 41 (zf OZ) (zg OZ) env 35 (X0 y) v cU:=
 BR.of (C:={P:=aH,exp:=[11],wrap:=ax,h9:=h9}) (nF _ _) (by kernel_rfl) (by kernel_rfl) [(35,.v (X0 y)),(9,.ptr ⟨n9,0,none⟩)] (by intro p ad;rcases cE.1 ad with rfl|ad;exact⟨_,rfl,.inl ⟨rfl,rfl⟩⟩;rcases cE.1 ad with rfl|ad;exact⟨_,rfl,.inr ⟨show(9:N)≠35 by decide,he⟩⟩;cases ad) (Eq.mp (by kernel_rfl) h)
def aAs{y:bP}{f:H->Prop}(ac:f (u.ins m (.cells (fD y).toArray T (0,0)))):
  H.aN (u.ins m (.cells #[.int .i64 0,.int .u64 0,.int .u64 0] T (0,0))) ⟨m,0,none⟩ [.int .i64 y.1,.int .u64 (dk y.2),.int .u64 (dq y.2)] f:=
 mG (zs:=[.int .i64 0,.int .u64 0,.int .u64 0]) rfl (by simp[cF]) ac
def ao5{y:bP}:(u.ins m (.cells (fD y).toArray T (0,0))).cell? ⟨m,0,none⟩=some (.int .i64 y.1)/\(u.ins m (.cells (fD y).toArray T (0,0))).cell? ((cr m 0 none).add 1)=some (.int .u64 (dk y.2))/\
  (u.ins m (.cells (fD y).toArray T (0,0))).cell? ((cr m 0 none).add 2)=some (.int .u64 (dq y.2)):=by
 rw[iC,iC]
 refine⟨?_,?_,?_⟩<;>(rw[ao1];rfl)
def ao2{z:Obj}{a:ba}(h:u.cell? a=some v)(hm:u m=none):(u.ins m z).cell? a=some v:=qg (bW _ hm) h
def aAW{α β:Type}(f:α->β)(l:J α)(i:N)(y:β)(h:(l.map f)[i]?=some y):(l.map f).take (i+1)=(l.map f).take i++ [y]:=by rw[gT,h];rfl
def Bu(l:J av)(q:J o)(k:o):o:=if asked l q≠0 then asked l q else if k<1∨64<k then 1 else 0
def azf{s:U}{q:J o}{k:o}{K:U->o->H->Prop}(ag:dS u s l)(ht:Ints u t q)
  (dx:Bu l q k≠0->K ⟨none,0,0⟩ (Bu l q k) u) (bH:kH l q->1<=k->k<=64->∀ap u',aD u u' 68 3 ap ((eV k.toNat (l.map (ia q))).flatMap fD)->K ap 0 u'):Uz s t k u K:=by
 apply aBS
 refine ak0 ag ht ⟨λal=>?_,λhe=>?_⟩
 have:Bu l q k=asked l q:=aV al
 rw[this] at dx;exact dx al
 have ML:=Hf.1 he
 have pJ:k<1∨64<k->Bu l q k=1:=λh=>by unfold Bu;rw[az (by simpa using he),aV h]
 intro nx oO
 refine⟨λh1=>?_,λh1=>⟨λh2=>?_,λh2=>oO ⟨none,0,0⟩ _ _ ?_⟩⟩
 rw[pJ (.inl h1)] at dx;exact dx (by decide)
 rw[pJ (.inr h2)] at dx;exact dx (by decide)
 clear oO nx
 refine OT (λh=>by omega) λcx cS n aS gI gj M5 n9 tT=>mG (zs:=[.pointer none]) rfl (by simp[cF]) ?_
 refine⟨λh=>a6 rfl h,λ_=>?_⟩
 apply aBX
 intro n0 eT b3 Mm
 have an8:aS.ins n9 (bA [gS (some ⟨n,0,none⟩)].toArray 90 (0,0))=aS.ins n9 (bA #[gS (some ⟨n,0,none⟩)] 90 (0,0)):=rfl
 rw[an8] at eT Mm ⊢
 generalize at1:bA #[gS (some ⟨n,0,none⟩)] 90 (0,0)=vH at eT Mm ⊢
 generalize atY:bA #[dX s.a s.n s.c] 22 (0,0)=fG at Mm ⊢
 generalize atZ:bA #[dX t.a t.n t.c] 30 (0,0)=eJ
 have Fk:=((M5.l6 tT vH).l6 eT fG).l6 Mm eJ
 have aGl:aS.le (aS.ins n9 vH):=bW _ tT
 have auW:u n9=none:=gI.none tT
 have rc:(u.ins n9 vH) n0=none:=(H.II gI n9 vH).none eT
 have Zg:((u.ins n9 vH).ins n0 fG) b3=none:=(H.II (H.II gI n9 vH) n0 fG).none Mm
 have lub:u.le (((u.ins n9 vH).ins n0 fG).ins b3 eJ):=((bW _ auW).trans (bW _ rc)).trans (bW _ Zg)
 have agh:(((u.ins n9 vH).ins n0 fG).ins b3 eJ) n9=some vH:=(bW _ Zg) _ _ ((bW _ rc) _ _ (bf _ _ _))
 have bK:(((u.ins n9 vH).ins n0 fG).ins b3 eJ).cell? ⟨n0,0,none⟩=some (.slice s.a s.n s.c):=by refine ao2 ?_ Zg;rw[<-atY];exact a1 (bf _ _ _) 0
 have c1:(((u.ins n9 vH).ins n0 fG).ins b3 eJ).cell? ⟨b3,0,none⟩=some (.slice t.a t.n t.c):=by rw[<-atZ];exact a1 (bf _ _ _) 0
 generalize (((u.ins n9 vH).ins n0 fG).ins b3 eJ)=ub at Fk lub agh bK c1
 have ago:∀w,ub.le w->w.cell? ⟨n9,0,none⟩=some (.pointer (some ⟨n,0,none⟩)):=λw hw=>by have:=hw _ _ agh;rw[<-at1] at this;exact a1 this 0
 refine mP.code aA2 (mP.intro (t:=34) Fk.le VX (by simp) (by decide) (λw hw=>asZ (ag.mono (lub.trans hw)) (ht.mono (lub.trans hw)) ML (qg hw bK) (qg hw c1))
  (λi w=>iE ub n k w ((l.map (ia q)).take i).reverse) Fk (λi v aM=>aM.le) ?_ ?_)
 intro i y v ah aM
 refine aA7 n9 y v _ _ (by simp) λm hm=>aAs ⟨rfl,rfl,?_⟩
 obtain⟨d0,d1,d2⟩:=ao5 (u:=v) (m:=m) (y:=y) (T:=68)
 have kO:=aM.mono (bW (u:=v) (b:=m) (bA (fD y).toArray 68 (0,0)) hm)
 refine⟨_,ago _ kO.le,_,d0,_,d1,_,d2,OS kO cx cS λb u' q2=>⟨rfl,?_⟩⟩
 rw[aAW _ _ _ _ ah,List.reverse_append]
 exact q2
 intro v D aM eM
 have hle:=bW (u:=v) (b:=D) (uD (some [])) eM
 have kO:=aM.mono hle
 refine⟨_,ago _ kO.le,JV kO λap u' ab=>⟨ab.le _ _ (bf _ _ _),bH ML cx cS ap _ ?_⟩⟩
 have Z:ap.aj≠some D:=λe=>by have:=ab.fresh D e;rw[bf] at this;cases this
 have dz:=ab.weaken (lub.trans kO.le)
 rw[dg,ho (by simp),DB (List.reverse_perm _)] at dz
 exact dz.xj ((lub.trans aM.le).none eM) Z _
def within(R:o)(l:J bP):J bP:=mF (l.filter λh=>decide (h.2<=R))
def GK{n:N}{mA:ao}{f:H->Prop}(ae:u n=some (.cells #[mA] T (0,0)))(h1:v.oneCell'=ak)(ac:f (u.ins n (.cells #[v] T (0,0)))):H.aN u ⟨n,0,none⟩ [v] f:=
 ⟨_,_,ae,rfl,by simp,by simp[h1],ac⟩
def zN(x:o):kp aH 30 1 #[(0,.int .i64 x)]=some (3,[.int .i64 x]):=by kernel_rfl
def aw6{k:N}{s:U}{xs:J ao}{b:N}{l:J o}(h:aD ai u e k s xs)(Z:tr u b l):s.aj≠some b:=by
 intro M;obtain⟨es,c,Xy,_⟩:=Z;rcases h.own.is with h0|⟨g,cur,aE,W,_⟩;rw[h0] at M;simp[U.aj] at M;have:g=b:=by simpa[U.aj,aE] using M
 rw[this,Xy] at W;cases W
def T2{i:N}{r:av}(h:l[i]?=some r):(l.take (i+1)).map (·.id)=(l.take i).map (·.id)++ [r.id]:=by rw[gT,h];simp
def alB{s:U}{K:U->o->H->Prop}(ag:dS u s l)(bH:gX l d)(aq:∀ap u',aD u u' 3 1 ap ((dM (l.map (·.id))).flatMap encI)->K ap 0 u'):PU s d u K:=by
 have ae:=ag.len;have hlen:=bH.len;apply aD7;refine⟨λh=>by omega,λ_=>abD λb Z jG=>?_⟩;refine⟨λ_ _ nZ i v=>0<=i/\i<=(s.n:o)/\tr v b ((l.take i.toNat).map (·.id))/\aD u v 3 1 nZ (((l.take i.toNat).map (·.id)).flatMap encI),λ_ _ _ i _=>s.n-i.toNat,
  ⟨by omega,by omega,by simpa using jG,aD.nil (bW _ Z) _ _⟩,?_⟩
 rintro qE tl nZ i v ⟨i0,i1,jG,ab⟩;refine⟨λhi=>?_,λhi=>?_⟩;obtain⟨p,ad,r,O,bK,c1,aA⟩:=(ag.mono ab.le).at i0 hi;have fQ:=du O;have b7:=bH.id r fQ;obtain⟨Fu,Fv⟩:=bH.v r fQ;have oj:r.id∉(l.take i.toNat).map (·.id):=by have bY:=bH.nodup;have gH:((l.take (i.toNat+1)).map (·.id)).Nodup:=List.Nodup.sublist (aaY _ (rz _ _)) bY;rw[T2 O] at gH;exact λhm=>(gb.1 gH).2.2 _ hm _ (by simp) rfl
 have xh:gn r.v d=0:=by rw[<-Fu];exact y3 Fv (by have:=bH.dim;omega)
 refine⟨p,ad,⟨i0,hi⟩,_,bK,_,c1,λadF WW=>⟨λh=>by omega,λ_=>⟨λh=>by omega,λ_=>abC GD jG ⟨λh=>a6 (by simpa using h) oj,λ_=>WW _ _ _ ?_⟩⟩⟩⟩;refine pX aA ⟨λh=>a6 xh h,λ_=>TG GD jG oj λcm MV oS jF=>?_⟩;have al:=aw6 ab jG;have bQ:aD u cm 3 1 nZ (((l.take i.toNat).map (·.id)).flatMap encI):=
  ⟨ab.own.le λg z W au4=>oS g z au4 (λe=>al (by rw[W,e])),λg z W=>oS g z (ab.le g z W) (λe=>by rw[e,Z] at W;cases W),ab.fresh⟩
 have qn:=bQ.ints.len;simp only[dg,gL] at qn;refine np lQ (zN _) (by decide) rfl (by simp[cF]) bQ (by omega) (by omega) λap u' dz fp eB ev _=>⟨⟨by omega,by omega⟩,⟨by omega,by omega,?_,?_⟩,by dsimp only;omega⟩;rw[show(i+1).toNat=i.toNat+1 by omega,T2 O];obtain⟨es,c,h1,h2⟩:=MV;exact⟨es,c,eB _ _ h1 al,h2⟩;rw[show(i+1).toNat=i.toNat+1 by omega,T2 O,gU];exact dz;have ql:i.toNat=l.length:=by omega
 rw[ql,ni] at ab;exact GI ab (by simp;omega) λu' bQ _=>aq nZ u' bQ
def k8(acc v:J o):J o:=lc (λa x=>if x<a then x else a) acc v
def k9(acc v:J o):J o:=lc (λa x=>if x>a then x else a) acc v
def mm(l:J av):J o:=l.foldl (λacc r=>k8 acc r.v) (l.headD ⟨0,⟨none,0,0⟩,[]⟩).v
def ml(l:J av):J o:=l.foldl (λacc r=>k9 acc r.v) (l.headD ⟨0,⟨none,0,0⟩,[]⟩).v
def wo{a v:J o}(h:a.length=v.length):(lc f a v).length=a.length:=by simp[h]
def Um{a v:J o}(h:a.length=v.length){j:N}(aM:j<a.length):
  ((lc f a v).take j++a.drop j).set j (f (a.getD j 0) (v.getD j 0))=(lc f a v).take (j+1)++a.drop (j+1):=by
 have aB:=wo (f:=f) h
 have Wy:a.getD j 0=a[j]:=by rw[dr,cn aM];rfl
 have as1:j<v.length:=by omega
 have aqz:v.getD j 0=v[j]:=by rw[dr,cn as1];rfl
 rw[Wy,aqz,N6 _ _ (by simp;omega)]
 have e:j-((lc f a v).take j).length=0:=by simp;omega
 rw[e,s9 aM,A8,gT,cn (by rw[aB];exact aM)]
 simp
def Ul{a v:J o}(h:a.length=v.length){j:N}(aM:j<a.length):((lc f a v).take j++a.drop j).getD j 0=a.getD j 0:=by
 have aB:=wo (f:=f) h;rw[dr,C9 (by simp;omega)];have e:j-((lc f a v).take j).length=0:=by simp;omega
 rw[e,uB,dr];simp
def afh{f:J o->J o->J o}(ac:∀a v:J o,a.length=v.length->(f a v).length=a.length):∀(l:J av) (a:J o),(∀r∈l,r.v.length=a.length)->(l.foldl (λacc r=>f acc r.v) a).length=a.length:=by
 intro l;induction l with
 |nil=>intro a _;rfl
 |cons r l aL=>intro a h;have h1:=ac a r.v (h r (by simp)).symm;rw[Jw,aL _ (λx M=>by rw[h1];exact h x (by simp[M])),h1]
def afi{f:J o->J o->J o}{i:N}{r:av}{a:J o}(h:l[i]?=some r):(l.take (i+1)).foldl (λacc r=>f acc r.v) a=f ((l.take i).foldl (λacc r=>f acc r.v) a) r.v:=by rw[gT,h];simp
def aD.aeO{s:U}{l:J o}(h:aD ai u e 1 s (l.flatMap encI)){x:o}(h0:0<=x)(h1:x<(s.n:o)):∃p,s.a=some p/\u.cell? (p.add (x.toNat*1))=some (.int .i64 (l.getD x.toNat 0)):=h.ints.at h0 h1
def alA{s:U}{K:o->U->U->o->o->U->o->H->Prop}(ag:dS u s l)(bH:gX l d)(al:l≠[])
  (aq:∀bo aG jK u',aD u u' 3 1 bo ((mm l).flatMap encI)->aD u u' 3 1 aG ((ml l).flatMap encI)->aD u u' 3 1 jK ((dM (l.map (·.id))).flatMap encI)->
   bo.aj≠aG.aj->bo.aj≠jK.aj->aG.aj≠jK.aj->K 2 bo aG 0 0 jK 0 u'):PT s d u K:=by
 have ae:=ag.len
 have hlen:=bH.len
 have Cq:=bH.dim
 have oW:0<l.length:=vR.2 al
 apply aD0
 refine ab1 ⟨λh=>a6 (by simp;omega) h,λ_=>⟨λh=>by omega,λ_=>alB ag bH λjK nr Fi=>⟨λh=>a6 rfl h,λ_=>?_⟩⟩⟩
 obtain⟨p,ad,r,O,bK,c1,aA⟩:=(ag.mono Fi.le).at (x:=0) (by omega) (by omega)
 have lY:l[0]?=some r:=O
 have fQ:=du O
 have agR:l.headD ⟨0,⟨none,0,0⟩,[]⟩=r:=by
  cases l with
  |nil=>simp at lY|cons a l=>simp at lY;simp[lY]
 have Fu:=(bH.v r fQ).1
 have yK:=aA.len
 refine⟨p,ad,⟨by omega,by omega⟩,p,ad,⟨by omega,by omega⟩,r.s,c1,r.s,c1,?_⟩
 refine sc aA (by omega) λbo gV qp _=>⟨qp.le,sc (aA.mono qp.le) (by omega) λaG gx fk _=>?_⟩
 have auD:=qp.mono fk.le
 have YT:=fk.weaken qp.le
 have pD:∀g,bo.aj=some g->aG.aj≠some g:=by
  intro g W gQ;have h1:=fk.fresh g gQ;rcases qp.own.is with h0|⟨bX,cur,aE,cb,_⟩;rw[h0] at W;simp[U.aj] at W;have:bX=g:=by simpa[U.aj,aE] using W
  rw[this,h1] at cb;cases cb
 have eh:∀x∈l,x.v.length=r.v.length:=λx M=>by have:=(bH.v x M).1;omega
 have aiZ:∀i,((l.take i).foldl (λacc r=>k8 acc r.v) r.v).length=r.v.length:=λi=>afh (λa v h=>wo h) _ _ λx M=>eh x (nW M)
 have aiY:∀i,((l.take i).foldl (λacc r=>k9 acc r.v) r.v).length=r.v.length:=λi=>afh (λa v h=>wo h) _ _ λx M=>eh x (nW M)
 refine⟨λi v=>0<=i/\i<=(s.n:o)/\aD nr v 3 1 bo (((l.take i.toNat).foldl (λacc r=>k8 acc r.v) r.v).flatMap encI)/\aD nr v 3 1 aG (((l.take i.toNat).foldl (λacc r=>k9 acc r.v) r.v).flatMap encI),
  λi _=>s.n-i.toNat,⟨by omega,by omega,by simpa using auD,by simpa using YT⟩,?_⟩
 rintro i v ⟨i0,i1,gi,EP⟩
 refine⟨λhi=>?_,λhi=>?_⟩
 obtain⟨q,aO,x,M,d0,d1,Ni⟩:=(ag.mono (Fi.le.trans gi.le)).at i0 hi
 have Fw:=du M
 have eO:=eh x Fw
 have CP:=Ni.len
 have J8:=aiZ i.toNat
 have Uk:=aiY i.toNat
 have OI:=afi (f:=k8) (a:=r.v) M
 have akN:=afi (f:=k9) (a:=r.v) M
 generalize (l.take i.toNat).foldl (λacc r=>k8 acc r.v) r.v=A at gi J8 OI
 generalize (l.take i.toNat).foldl (λacc r=>k9 acc r.v) r.v=B at EP Uk akN
 refine⟨q,aO,⟨i0,hi⟩,_,d0,_,d1,λj w=>0<=j/\j<=(x.s.n:o)/\aD nr w 3 1 bo (((k8 A x.v).take j.toNat++A.drop j.toNat).flatMap encI)/\aD nr w 3 1 aG (((k9 B x.v).take j.toNat++B.drop j.toNat).flatMap encI),
  λj _=>x.s.n-j.toNat,⟨by omega,by omega,by simpa using gi,by simpa using EP⟩,?_⟩
 rintro j w ⟨gJ,jY,hN,yx⟩
 have ai2:∀k,((k8 A x.v).take k++A.drop k).length=A.length:=λk=>by simp[k8];omega
 have ai1:∀k,((k9 B x.v).take k++B.drop k).length=B.length:=λk=>by simp[k9];omega
 refine⟨λaM=>?_,λaM=>?_⟩
 have dw:=hN.ints.len
 have asJ:=yx.ints.len
 rw[ai2] at dw
 rw[ai1] at asJ
 obtain⟨axC,Fa,V6⟩:=((ag.mono (Fi.le.trans hN.le)).2 x Fw).at gJ aM
 obtain⟨pl,k5,cl⟩:=hN.aeO gJ (by omega)
 obtain⟨ajE,iU,Hl⟩:=yx.aeO gJ (by omega)
 unfold k8 at cl
 unfold k9 at Hl
 rw[Ul (a:=A) (v:=x.v) (by omega) (j:=j.toNat) (by omega)] at cl
 rw[Ul (a:=B) (v:=x.v) (by omega) (j:=j.toNat) (by omega)] at Hl
 refine⟨axC,Fa,⟨gJ,aM⟩,_,V6,pl,k5,⟨gJ,by omega⟩,ajE,iU,⟨gJ,by omega⟩,_,cl,_,Hl,pl,k5,⟨gJ,by omega⟩,?_⟩
 refine aD.store (enc:=encI) kK hN (by decide) (i:=j.toNat) (by rw[ai2];omega) (y:=if x.v.getD j.toNat 0<A.getD j.toNat 0 then x.v.getD j.toNat 0 else A.getD j.toNat 0) (zW _) k5 λwj Ah rP _=>⟨ajE,iU,⟨gJ,by omega⟩,?_⟩
 have agP:=yx.else rP hN.fresh pD
 refine aD.store (enc:=encI) kK agP (by decide) (i:=j.toNat) (by rw[ai1];omega) (y:=if x.v.getD j.toNat 0>B.getD j.toNat 0 then x.v.getD j.toNat 0 else B.getD j.toNat 0) (zW _) iU λamf XP asj _=>⟨⟨by omega,by omega⟩,⟨by omega,by omega,?_,?_⟩,by dsimp only;omega⟩
 have X7:=Ah.else asj agP.fresh (λg W gQ=>pD g gQ W)
 rw[show(j+1).toNat=j.toNat+1 by omega]
 have:=Um (f:=λa x=>if x<a then x else a) (a:=A) (v:=x.v) (by omega) (j:=j.toNat) (by omega)
 unfold k8 at X7 ⊢
 rw[this] at X7
 exact X7
 rw[show(j+1).toNat=j.toNat+1 by omega]
 have:=Um (f:=λa x=>if x>a then x else a) (a:=B) (v:=x.v) (by omega) (j:=j.toNat) (by omega)
 unfold k9 at XP ⊢
 rw[this] at XP
 exact XP
 have kO:j.toNat=x.v.length:=by omega
 refine⟨⟨by omega,by omega⟩,⟨by omega,by omega,?_,?_⟩,by dsimp only;omega⟩
 rw[show(i+1).toNat=i.toNat+1 by omega,OI]
 rw[kO,ho (by unfold k8;rw[wo (by omega)];omega),ry (by omega),kA] at hN
 exact hN
 rw[show(i+1).toNat=i.toNat+1 by omega,akN]
 rw[kO,ho (by unfold k9;rw[wo (by omega)];omega),ry (by omega),kA] at yx
 exact yx
 have ql:i.toNat=l.length:=by omega
 rw[ql,ni] at gi EP
 have apJ:mm l=l.foldl (λacc r=>k8 acc r.v) r.v:=by unfold mm;rw[agR]
 have apH:ml l=l.foldl (λacc r=>k9 acc r.v) r.v:=by unfold ml;rw[agR]
 have ahV:∀g,jK.aj=some g->nr g≠none:=by
  intro g W;rcases Fi.own.is with h0|⟨bX,cur,aE,cb,_⟩;rw[h0] at W;simp[U.aj] at W;have:bX=g:=by simpa[U.aj,aE] using W
  rw[<-this,cb];simp
 have iA:∀(acg:U) (L:J o),aD nr v 3 1 acg (L.flatMap encI)->0<L.length->∃g,acg.aj=some g:=by intro acg L M cL;rcases M.own.is with h0|⟨g,cur,aE,_⟩;have:=M.ints.len;rw[h0] at this;simp at this;omega;exact⟨g,by simp[U.aj,aE]⟩
 have Sb:0<r.v.length:=by omega
 have J8:=aiZ l.length
 have Uk:=aiY l.length
 rw[ni] at J8 Uk
 obtain⟨Ld,tN⟩:=iA bo _ gi (by rw[J8];exact Sb)
 obtain⟨Lc,H4⟩:=iA aG _ EP (by rw[Uk];exact Sb)
 refine aq bo aG jK v (by rw[apJ];exact gi.weaken Fi.le) (by rw[apH];exact EP.weaken Fi.le) (Fi.mono gi.le) ?_ ?_ ?_
 rw[tN];exact λe=>pD Ld tN e.symm
 rw[tN];exact λe=>ahV Ld e.symm (gi.fresh Ld tN)
 rw[H4];exact λe=>ahV Lc e.symm (EP.fresh Lc H4)
def ic:j9 aH 22=some (52,2,32,[.int .i64 0,.slice none 0 0]):=by kernel_rfl
def dS.part{s:U}{L:J av}(ag:dS u s L){l h:N}(h1:l<=h)(h2:h<=s.n)(h3:h<=m)(a7:m<=s.c):dS u (s.part l h m 2) ((L.drop l).take (h-l)):=by refine⟨?_,λr O=>ag.2 r (uG (nW O))⟩;have:=bt.part ag.1 h1 h2 h3 a7;rw[QJ eY,yi eY] at this;exact this
def gX.sub{bw:J av}(h:gX l d)(ag:bw.Sublist l):gX bw d:=
 ⟨h.dim,jv ag.length_le h.len,λr O=>h.id r (ag.mem O),h.nodup.sublist (ag.map _),λr O=>h.v r (ag.mem O)⟩
def kH.sub{bw:J av}{q:J o}(h:kH l q)(ag:bw.Sublist l):kH bw q:=⟨h.Ug,h.rows.sub ag⟩
def aef(a b c:U)(x y Y:o):kp aH 39 1 #[(0,.agg #[.int .i64 x,.slice a.a a.n a.c,.slice b.a b.n b.c,.int .u64 y,.int .u64 Y,.slice c.a c.n c.c])]=
  some (102,[.int .i64 x,.slice a.a a.n a.c,.slice b.a b.n b.c,.int .u64 y,.int .u64 Y,.slice c.a c.n c.c]):=by kernel_rfl
structure Un(ai u:H)(aG ss bc:U)(gF:J bP)(seen:J o)(rest:J av):Prop where
 h:aD ai u 68 3 aG (gF.flatMap fD)
 s:aD ai u 3 1 ss (seen.flatMap encI)
 ag:∀g,aG.aj=some g->ss.aj≠some g
 r:(rest=[]/\bc=⟨none,0,0⟩)∨rest≠[]/\bc.n=1/\∃a b c:U,aD ai u 102 6 bc [.int .i64 2,.slice a.a a.n a.c,.slice b.a b.n b.c,.int .u64 0,.int .u64 0,.slice c.a c.n c.c]/\
  aD ai u 3 1 a ((mm rest).flatMap encI)/\aD ai u 3 1 b ((ml rest).flatMap encI)/\aD ai u 3 1 c ((dM (rest.map (·.id))).flatMap encI)/\
  a.aj≠b.aj/\a.aj≠c.aj/\b.aj≠c.aj/\(∀x∈[a,b,c],∀g,x.aj=some g->aG.aj≠some g/\ss.aj≠some g/\bc.aj≠some g)/\(∀g,bc.aj=some g->aG.aj≠some g/\ss.aj≠some g)
def zp(l:J av)(q:J o)(k b:o):o:=if asked l q≠0 then asked l q else if k<1∨64<k∨b<0∨1000000<b then 1 else 0
def dF{k:N}{s:U}{xs:J ao}(h:aD ai u e k s xs){g:N}(W:s.aj=some g):u g≠none:=by
 rcases h.own.is with h0|⟨bX,cur,aE,cb,_⟩;rw[h0] at W;simp[U.aj] at W;have:bX=g:=by simpa[U.aj,aE] using W
 rw[<-this,cb];simp
def aze{s:U}{q:J o}{k b:o}{K:U->U->U->o->H->Prop}(ag:dS u s l)(ht:Ints u t q)
  (dx:zp l q k b≠0->K ⟨none,0,0⟩ ⟨none,0,0⟩ ⟨none,0,0⟩ (zp l q k b) u)
  (bH:kH l q->1<=k->k<=64->0<=b->b<=1000000->∀aG ss bc u',u.le u'->Un u u' aG ss bc (eV k.toNat ((l.take b.toNat).map (ia q))) (dM ((l.take b.toNat).map (·.id))) (l.drop b.toNat)->K aG ss bc 0 u'):
  Ps s t k b u K:=by
 have ae:=ag.len
 apply aBR
 refine ak0 ag ht ⟨λal=>?_,λhe=>?_⟩
 have:zp l q k b=asked l q:=aV al
 rw[this] at dx;exact dx al
 have aO:=Hf.1 he
 have hlen:=aO.rows.len
 have LP:k<1∨64<k∨b<0∨1000000<b->K ⟨none,0,0⟩ ⟨none,0,0⟩ ⟨none,0,0⟩ 1 u:=λh=>by
  have:zp l q k b=1:=by unfold zp;rw[az (by simpa using he),aV h]
  rw[this] at dx;exact dx (by decide)
 intro nx oO
 have bad:(k<1∨64<k∨b<0∨1000000<b)->nx ak u:=λh=>oO _ _ ⟨λ_=>LP h,λZ=>by cases Z⟩
 refine⟨λh1=>bad (.inl h1),λh1=>⟨λh2=>bad (.inr (.inl h2)),λh2=>⟨λh3=>bad (.inr (.inr (.inl h3))),λh3=>oO _ _ ⟨λZ=>?_,λZ=>?_⟩⟩⟩⟩
 have:1000000<b:=by simpa using Z
 exact LP (.inr (.inr (.inr this)))
 have a7:b<=1000000:=by
  have:¬1000000<b:=by simpa using Z
  omega
 clear bad LP oO nx
 have gZ:s.n<=s.c:=bt.cap ag.1
 have Yf:(if(s.n:o)<b then(s.n:o) else b)=((min s.n b.toNat:N):o):=by split<;>omega
 have Ay:l.take (min s.n b.toNat)=l.take b.toNat:=by rw[ae,List.take_eq_take_iff];omega
 have pA:l.drop (min s.n b.toNat)=l.drop b.toNat:=by rw[ae];rcases Nat.le_total l.length b.toNat with h|h;rw[A9 h,ry (cg _),ry h];rw[Nat.min_eq_right h]
 rw[Yf]
 refine lj (l:=0) (h:=min s.n b.toNat) (m:=s.c) ic (.inl ⟨rfl,rfl⟩) (.inr rfl) (.inl ⟨rfl,rfl⟩) (nU _) (by omega) (cg _) gZ ?_
 have MR:=ag.part (l:=0) (h:=min s.n b.toNat) (m:=s.c) (nU _) (by omega) (by omega) (cg _)
 rw[S9,xH,Ay] at MR
 generalize yG:s.part 0 (min s.n b.toNat) s.c 2=lh at MR
 have atE:lh.n=min s.n b.toNat:=by rw[<-yG];rfl
 have aFQ:=MR.len
 have auj:kH (l.take b.toNat) q:=aO.sub (rz _ _)
 have pJ:Bu (l.take b.toNat) q k=0:=by unfold Bu;rw[az (by simp[Hf.2 auj]),az (by omega)]
 refine azf MR ht (λh=>a6 pJ h) λ_ cx cS Ov qJ Aq=>?_
 refine⟨λi kW JL qD v=>0<=i/\i<=(lh.n:o)/\kW=Ov/\qD=⟨none,0,0⟩/\aD qJ v 3 1 JL ((((l.take b.toNat).take i.toNat).map (·.id)).flatMap encI),λi _ _ _ _=>lh.n-i.toNat,
  ⟨by omega,by omega,rfl,rfl,by simpa using aD.nil (H.le.refl qJ) _ _⟩,?_⟩
 rintro i kW JL qD v ⟨i0,i1,apB,apC,ab⟩
 obtain rfl:kW=Ov:=apB
 obtain rfl:qD=⟨none,0,0⟩:=apC
 change aD qJ v _ 1 JL _ at ab
 refine⟨λhi=>?_,λhi=>?_⟩
 obtain⟨p,ad,r,O,bK,c1,aA⟩:=(MR.mono (Aq.le.trans ab.le)).at i0 hi
 have qn:=ab.ints.len
 simp only[dg,gL] at qn
 refine⟨p,ad,⟨i0,hi⟩,_,bK,_,c1,np lQ (zN _) (by decide) rfl (by simp[cF]) ab (by omega) (by omega) λap u' dz fp eB ev _=>⟨⟨by omega,by omega⟩,⟨by omega,by omega,rfl,rfl,?_⟩,by dsimp only;omega⟩⟩
 rw[show(i+1).toNat=i.toNat+1 by omega,T2 O,gU]
 exact dz
 have ql:i.toNat=(l.take b.toNat).length:=by omega
 rw[ql,ni] at ab
 refine GI ab (by simp;omega) λkC mU _=>?_
 have ahs:lh.n<=s.n:=by omega
 refine lj (l:=lh.n) (h:=s.n) (m:=s.c) ic (.inr rfl) (.inl ⟨rfl,rfl⟩) (.inl ⟨rfl,rfl⟩) ahs gZ (cg _) gZ ?_
 have EY:=Aq.le.trans mU.le
 have Iu:=(ag.mono EY).part (l:=lh.n) (h:=s.n) (m:=s.c) ahs (cg _) gZ (cg _)
 have vr:(l.drop lh.n).take (s.n-lh.n)=l.drop b.toNat:=by rw[ho (by simp;omega),atE,pA]
 rw[vr] at Iu
 have Ii:=Iu.len
 generalize s.part lh.n s.n s.c 2=hb at Iu Ii
 have ahT:∀g,kW.aj=some g->JL.aj≠some g:=λg W gQ=>dF Aq W (mU.fresh g gQ)
 refine⟨λoW=>?_,λoW=>bH aO cx cS (by omega) a7 kW JL _ kC EY ⟨Aq.mono mU.le,mU.weaken Aq.le,ahT,.inl ⟨ly (by omega),rfl⟩⟩⟩
 have al:l.drop b.toNat≠[]:=λe=>by rw[e] at Ii;simp at Ii;omega
 have Cq:=aO.rows.dim
 have Fg:gX (l.drop b.toNat) (t.n:o):=by rw[ht.len];exact aO.rows.sub (N7 _ _)
 refine alA Iu Fg al λbo aG jK lR h1 h2 h3 b3 eN mz=>⟨λh=>a6 rfl h,λ_=>?_⟩
 refine l8 (aef bo aG jK 2 0 0) λg W=>?_
 have bE:=aD.make (k:=6) (H.le.refl lR) W (cells:=[cG .i64 2,.slice bo.a bo.n bo.c,.slice aG.a aG.n aG.c,.int .u64 0,.int .u64 0,.slice jK.a jK.n jK.c].toArray) (e:=102) (n:=1) (by omega) (by simp)
 have RH:=bW (u:=lR) (b:=g) (bA [cG .i64 2,.slice bo.a bo.n bo.c,.slice aG.a aG.n aG.c,.int .u64 0,.int .u64 0,.slice jK.a jK.n jK.c].toArray 102 (0,0)) W
 have eh:kC.le (lR.ins g (bA [cG .i64 2,.slice bo.a bo.n bo.c,.slice aG.a aG.n aG.c,.int .u64 0,.int .u64 0,.slice jK.a jK.n jK.c].toArray 102 (0,0))):=h1.le.trans RH
 refine bH aO cx cS (by omega) a7 kW JL _ _ (EY.trans eh) ⟨(Aq.mono mU.le).mono eh,(mU.weaken Aq.le).mono eh,ahT,.inr ⟨al,rfl,bo,aG,jK,bE.weaken (EY.trans h1.le),(h1.weaken EY).mono RH,(h2.weaken EY).mono RH,(h3.weaken EY).mono RH,b3,eN,mz,?_,?_⟩⟩
 intro x M bX cb
 have EM:kC bX=none/\lR bX≠none:=by simp only[cE,qA,qB] at M;rcases M with rfl|rfl|rfl;exact⟨h1.fresh bX cb,dF h1 cb⟩;exact⟨h2.fresh bX cb,dF h2 cb⟩;exact⟨h3.fresh bX cb,dF h3 cb⟩
 refine⟨λe=>dF (Aq.mono mU.le) e EM.1,λe=>dF mU e EM.1,λe=>?_⟩
 have:g=bX:=by simpa[U.aj] using e
 rw[<-this] at EM
 exact EM.2 W
 intro bX cb
 have:g=bX:=by simpa[U.aj] using cb
 subst this
 exact⟨λe=>dF ((Aq.mono mU.le).mono h1.le) e W,λe=>dF (mU.mono h1.le) e W⟩
structure Vs(u:H)(s t:U)(l:J av)(q:J o):Prop where
 rows:dS u s l
 q:Ints u t q
 small:∀r∈l,r.v.length<=17592186044416
 abI:s.n<=17592186044416
def Vs.mono{u':H}{s:U}{q:J o}(h:Vs u s t l q)(k:u.le u'):Vs u' s t l q:=⟨h.rows.mono k,h.q.mono k,h.small,h.abI⟩
def nw.part{s:U}{L:J bP}(ag:nw u s L){l h:N}(h1:l<=h)(h2:h<=s.n)(h3:h<=m)(a7:m<=s.c):nw u (s.part l h m 3) ((L.drop l).take (h-l)):=by have:=bt.part ag h1 h2 h3 a7;rw[QJ rI,yi rI] at this;exact this
open Go.ChangeShapes Go.WideShapes Go.ChangeAt Go.RowKit
def whole(bN:b6):H:=λb=>bN.heap[b]?
def aEt(bN:b6):Sub (whole bN) bN:=λ_ _ e=>e
def acJ(bN:b6)(a:ba):(whole bN).cell? a=bN.cell? a:=rfl
def Step.below{BV:b6}{u':H}{bs:J N}(h:Step (whole bN) [] bN u' bs BV)(k:(whole bN).le u'):Below bN.heap.size bN BV:=
 ⟨h.os,h.tape,h.output,h.size,λb Z=>by have:bN.heap[b]?=some bN.heap[b]:=xz Z;rw[this];exact h.sub b _ (k b _ this)⟩
def Qn:aH.cellsOf 3=1:=by kernel_rfl
def ao3:aH.cellsOf 30=1:=by kernel_rfl
def ao6:aH.cellsOf 52=2:=by kernel_rfl
def ao4:aH.cellsOf 26=1:=by kernel_rfl
def aEZ:aH.cellsOf 66=2:=by kernel_rfl
def aoM:aH.bytesOf 3=8:=by kernel_rfl
def aoN:aH.bytesOf 52=32:=by kernel_rfl
section
variable {sj:Type} {enc:dC×ao->sj}
def aEr{P:dR}{e:dC}{d:DataW sj}:∀{ds:J (DataW sj)} {i:N},ds[i]?=some d->∀n∈d.weights P e,n∈Ta P e ds:=by
 intro ds;induction ds with
 |nil=>intro i h;simp at h
 |cons x ds aL=>
  intro i h n ae;simp only[Ta,cK];cases i with
  |zero=>simp at h;subst h;exact .inl ae|succ i=>exact .inr (aL (by simpa using h) n ae)
def aw3{a:ay ba}{len cap:N}{x:DataW sj×J MemPlace}(h:Bc enc aH bN 0 (λ_=>ak) ak gg 30 [.slice a len cap]=some x)(hw:∀n∈x.1.weights aH 30,n<=Dg):
  ∃q:J o,Ints (whole bN) ⟨a,len,cap⟩ q/\q.length<=17592186044416:=by
 have O:Dg=140737488351232:=by decide
 rcases open_ints underlying30 Jx Qn h with⟨dU,_⟩|⟨p,l,c,zs,dU,_,ar,hm,aB,M,fP,Zp⟩
 simp only[y9,Tb,vS] at dU
 obtain⟨rfl,rfl,rfl⟩:=dU
 exact⟨[],⟨rfl,cg _,by simp,.inl rfl⟩,by simp⟩
 simp only[y9,Tb,vS] at dU
 obtain⟨rfl,rfl,rfl⟩:=dU
 simp only[qx] at aB
 rw[IZ] at hm
 have bC:(zs.take len).length=len:=by simp;omega
 have Z:zs.length*8<=Dg:=by have:=hw (zs.length*8) (by rw[M];simp only[aaZ,show aH.underlying 30=some (.slice 3) from underlying30,cE];left;rw[aoM];congr 1;simp[lits];omega);exact this
 refine⟨zs.take len,⟨by simp;omega,ar,hm,.inr ⟨p,rfl,λi v e=>?_⟩⟩,by omega⟩
 rw[iD] at e
 rw[acJ]
 have hi:i<len:=by rcases j1 i len with k|k;exact k;rw[io (by omega)] at e;simp at e
 rw[F7,aV hi,cn (by omega)] at e
 simp only[uA,j2] at e
 subst e
 rw[fP i (by omega),dr,cn (by omega)]
 rfl
instance:lx av:=⟨⟨0,⟨none,0,0⟩,[]⟩⟩
def cells_one{x:DataW sj×J MemPlace}(h:Bc enc aH bN 0 (λ_=>ak) ak gg 30 [v]=some x):∃s:U,v=.slice s.a s.n s.c:=by rcases open_ints underlying30 Jx Qn h with⟨dU,_⟩|⟨p,l,c,zs,dU,_⟩;exact⟨⟨none,0,0⟩,by simpa using dU⟩;exact⟨⟨some p,l,c⟩,by simpa using dU⟩
def aw4{a:ay ba}{len cap:N}{x:DataW sj×J MemPlace}(h:Bc enc aH bN 0 (λ_=>ak) ak gg 22 [.slice a len cap]=some x)(hw:∀n∈x.1.weights aH 22,n<=Dg):
  ∃l:J av,dS (whole bN) ⟨a,len,cap⟩ l/\(∀r∈l,r.v.length<=17592186044416)/\len<=17592186044416:=by
 have O:Dg=140737488351232:=by decide
 rcases Deep.open_slice underlying22 h with⟨dU,_⟩|⟨p,l,c,m,n,D,aEW,dU,Z,ar,hm,Cz,M,eB⟩
 simp only[y9,Tb,vS] at dU
 obtain⟨rfl,rfl,rfl⟩:=dU
 exact⟨[],⟨⟨rfl,cg _,by simp,.inl rfl⟩,λ_ h=>(by cases h)⟩,λ_ h=>(by cases h),by omega⟩
 simp only[y9,Tb,vS] at dU
 obtain⟨rfl,rfl,rfl⟩:=dU
 simp only[qx] at Cz
 subst Cz
 rw[IZ] at hm
 have aio:∀k,k∈(((ox len).map D).length+((ox (m-len)).map λj=>D (len+j)).length)*aH.bytesOf 52::(Ta aH 52 ((ox len).map D)++Ta aH 52 ((ox (m-len)).map λj=>D (len+j)))->k<=Dg:=by intro k hk;refine hw k ?_;rw[M];simp only[aaZ,show aH.underlying 22=some (.slice 52) from underlying22];exact hk
 have kr:len*32<=Dg:=by
  have:=aio _ (gh ..);rw[aoN] at this;simp at this;have e:len+(m-len)=m:=by omega
  omega
 have each:∀i,i<len->∃r:av,bN.cell? (p.add (i*2))=some (.int .i64 r.id)/\bN.cell? ((p.add (i*2)).add 1)=some (.slice r.s.a r.s.n r.s.c)/\Ints (whole bN) r.s r.v/\r.v.length<=17592186044416:=by
  intro i hi;obtain⟨zT,h1,h2⟩:=eB i (by omega);rw[ao6] at h1;obtain⟨_,hlen,fP⟩:=World.cells?_some h1;obtain⟨jk,j6,k,iV,_,ai,aS⟩:=trod_struct2 underlying52 h2
  match zT,hlen with
  | [v0,v1],_=>
   simp only[Qn,ao3,List.drop,List.take] at ai aS;obtain⟨q,fW,d0,_⟩:=Jy Jx ai;simp only[y9,vS] at fW;subst fW;obtain⟨s,rfl⟩:=cells_one aS;have au8:∀n∈j6.1.weights aH 30,n<=Dg:=by intro n ae;refine aio n (gd _ (iY _ (aEr (i:=i) (d:=D i) (by simp[hi]) n ?_)));have aqU:D i=.agg [jk.1,j6.1]:=(Prod.mk.inj iV).1;rw[aqU];simp only[aaZ,show aH.underlying 52=some _ from underlying52];simp only[gl,Df,DataW.weightsEach,cK];exact .inr (.inl ae)
   obtain⟨zs,aB,CR⟩:=aw3 aS au8;have bK:=fP 0 (by omega);have c1:=fP 1 (by omega);exact⟨⟨q,s,zs⟩,bK,c1,aB,CR⟩
 obtain⟨f,ac⟩:=Deep.choose_lt each
 have mT:((ox len).map f).length=len:=by simp
 refine⟨(ox len).map f,⟨⟨?_,ar,hm,.inr ⟨p,rfl,λj v e=>?_⟩⟩,λr O=>?_⟩,λr O=>?_,by omega⟩
 rw[od eY,mT]
 have aM:j<len*2:=by have:=(ir.1 e).1;rw[od eY,mT] at this;exact this
 have aP:j=j/2*2+j%2:=by omega
 have aw:j/2<len:=by omega
 rw[acJ]
 rw[aP,Hu eY _ _ _ (N4 _ (by decide))] at e
 rw[iD,Tc aw] at e
 simp only[uA,SN] at e
 obtain⟨g0,g1,_,_⟩:=ac (j/2) aw
 rw[aP,<-Addr.zL]
 have rR:j%2=0∨j%2=1:=by omega
 rcases rR with rR|rR
 rw[rR] at e ⊢
 simp only[cB,A3,j2] at e
 subst e
 exact g0
 rw[rR] at e ⊢
 simp only[cB,xC,A3,j2] at e
 subst e
 exact g1
 obtain⟨i,hi,rfl⟩:=bk.1 O
 exact(ac i (by simpa using hi)).2.2.1
 obtain⟨i,hi,rfl⟩:=bk.1 O
 exact(ac i (by simpa using hi)).2.2.2
end
end
def Ko(d:J o):Prop:=d.length=8/\∀x∈d,0<=x/\x<65536
def Ko.set{d:J o}(h:Ko d){i:N}{x:o}(h0:0<=x)(h1:x<65536):Ko (d.set i x):=
 ⟨by rw[qz];exact h.1,λy ah=>by rcases ajN ah with h2|h2;exact h.2 y h2;omega⟩
def Ko.get{d:J o}(h:Ko d){i:N}(hi:i<8):0<=d.getD i 0/\d.getD i 0<65536:=by
 have ar:i<d.length:=by rw[h.1];exact hi
 rw[dr,cn ar];exact h.2 _ (kk ar)
