/- Texts of mine, joined and packed by pack.py. -/
import Derived.Test.YtejdhbfjjgcljaaGreatDoorMrd4
import Derived.Shelf.SlSortCmp.WholeK
import Derived.Shelf.SlSortCmp.Whole1
import Derived.Shelf.SortG.Plain
import Derived.Shelf.SortG.SortNone
import Derived.Shelf.SlGeneric
import Derived.Shelf.Spec.TrailingZeros
import Derived.Test.YtejdhbfjjgcljaaGreatDoorProg
import Derived.Shelf.SlSortCmp.NoneTotal
import Derived.RangeFuncIn
import Derived.OrdersIn
import Derived.SizedLaws
import Derived.Deep.Slices
import Derived.ChangeSame
import Derived.ChangeOld
import Derived.OpenShut
import Derived.ProofKit
import Derived.WalkKit
import Derived.JoinedOf
set_option linter.all false
open _root_ renaming List->J,Nat->O,Option->aA,Array->cA,Int->o,Bool->ay,False->eg,absurd->bf,Inhabited->lF
open Go renaming Program->dL,Value->ap,World->ci,Addr->a8,FuncId->j8,Act->ek,TypeId->dC,Oper->eH,callFunc->qT,Exit->kX,Code->iW,reachBytes->qZ
open Bool renaming true->ai,false->ao
open Nat renaming beq->km
open Go.Obj renaming cells->bt,deferred->vk
open Go.Fence renaming wide->vg
open Go.Made renaming depth->tM
open Go.Instr renaming buildSlice->dA,typeAssert->so
open Go.Builtin renaming append_->dO
open Go.World renaming frozen?->Gh
open Go.Result renaming andThen->jH
open List renaming range->lD,zipWith->lX,drop->JM,take->JN
open Array renaming replicate->Dv
open Go.Exit renaming noConfusion->rN,normal->sA
open Go.Proofs.Tryz renaming prog->aH
open Go.Value renaming int->cN,pointer->ha,slice->ed,oneCell'->cI
open Int renaming tmod->lE,tdiv->ff
open List.Pairwise renaming nil->mG
open Go.Addr renaming mk->cp
open Go.Sort renaming ahead->wB
open Go.LoopState renaming busy->TG
open Go.DataW renaming weightsAll->Gs,trod->qd,weights->Gt
set_option maxRecDepth 100000
noncomputable section
namespace Go.Proofs.YtejdhbfjjgcljaaGreatDoor
open H
def acg:=@Go.Proofs.AnyF.slices_SortFunc_none
def ach:=@Go.Proofs.run_loadCellsFrom_list
def ya:=@Go.wpIn_mono
def On:=@Go.Code.wpIn_mono
def JK:=@Go.World.alloc_heap_new
def aci:=@Go.roundIn_of_wpIn
def acj:=@Go.run_enterLoop_outer
def yc:=@Go.Proofs.Tryz.underlying3
def JL:=@Go.Value.slice.injEq
def TI:=@Go.Proofs.Tryz.underlying52
def yd:=@Go.DataW.trod_int
open _root_.Go.Proofs.Tryz
section
variable{j n i k:O}{u:H}{s:N}
def UB:ku aH 38=some (68,3,24,[.int .i64 0,.int .u64 0,.int .u64 0]):=by kernel_rfl
def afz(x y W:o):kO aH 38 1 #[(0,.agg #[.int .i64 x,.int .u64 y,.int .u64 W])]=some (68,[.int .i64 x,.int .u64 y,.int .u64 W]):=by kernel_rfl
theorem aD.mI{ak:H}{e:O}{xs:J ap}(h:aD ak u e k s xs)(ag:u n=none)(z:Obj):aD (ak.ins n z) (u.ins n z) e k s xs:=by
 refine⟨h.own.le λb x _ aa=>bX _ ag _ _ aa,λb x aa=>?_,λg Z=>?_⟩;unfold H.ins at aa ⊢;split at aa
 grind
 rename_i fV;rw[bF fV];exact h.le b x aa;rcases h.own.is with h0|⟨b5,cur,az,cu,_⟩;rw[h0] at Z;simp[N.al] at Z;have:b5=g:=by simpa[N.al,az] using Z
 subst this;rw[bz _ _ (λuH=>by grind)];exact h.fresh b5 Z
def H.le.none{u':H}(h:u.le u')(ag:u' n=none):u n=none:=by
 cases M:u n with
 |none=>rfl|some z=>rw[h _ _ M] at ag;cases ag
def lZ{zs vs:J ap}{T:dC}{f:H->Prop}(aq:zs.length=vs.length)(h1:∀v∈vs,v.oneCell'=ai)(ab:f (u.ins n (.cells vs.toArray T (0,0)))):
  H.aM (u.ins n (.cells zs.toArray T (0,0))) ⟨n,0,none⟩ vs f:=by
 refine⟨zs.toArray,T,bh _ _ _,rfl,by simp[aq],h1,?_⟩
 rw[FN]
 have:wr zs.toArray 0 vs=vs.toArray:=by have:=Hc zs.toArray 0 vs (by simp[aq]);simp only[TC,mm,kY] at this;rw[vi (by simp[aq])] at this;apply TD;rw[this];simp
 show f (u.ins n (.cells (wr zs.toArray 0 vs) T (0,0)))
 rw[this];exact ab
theorem O1{α:Type}(A:J α)(W y:α)(B:J α):(A++W::B).set A.length y=A++y::B:=by
 grind
theorem asf{α:Type}(A:J α)(W:α)(B:J α):(A++W::B)[A.length]?=some W:=by
 grind
def aD.fk{ak:H}{e:O}{l:J bN}(h:aD ak u e 3 s (l.flatMap eO)):lL u s l:=h.own.cK
def Xx(l:J bN)(h:bN):l.flatMap eO++ [.int .i64 h.1,.int .u64 (cQ h.2),.int .u64 (cS h.2)]=(l++ [h]).flatMap eO:=by simp[eO]
theorem aCU{t:N}{l:J ax}{q:J o}{K:N->H->Prop}(ae:dU u s l)(ht:Ints u t q)(aL:∀r∈l,cY r.v/\r.v.length=q.length)(xL:cY q)(hlen:l.length<=2000)
  (h:∀ar u',aD u u' 68 3 ar ((mL (l.map (hj q))).flatMap eO)->K ar u'):V9 s t u K:=by
 have ag:=ae.len
 have EZ:∀r∈l,jJ (hj q r).2:=λr U=>DP (aL r U).1 xL (aL r U).2
 apply aG1
 refine⟨λs2 i v=>0<=i/\i<=(s.n:o)/\∃L:J bN,aD u v 68 3 s2 (L.flatMap eO)/\o7 L/\L.Perm ((l.take i.toNat).map (hj q)),λ_ i _=>s.n-i.toNat,
  ⟨by omega,by omega,[],aD.nil (H.le.refl u) _ _,mG,by simp⟩,?_⟩
 rintro s2 i v ⟨h0,qM,L,cX,mB,gF⟩
 refine⟨λhi=>?_,λhi=>?_⟩
 .intro r0 tb;obtain⟨p,ft,r,U,bA,c1,RZ⟩:=(ae.mono cX.le).at h0 hi;have fR:r∈l:=dz U;obtain⟨SE,aiJ⟩:=aL r fR;have key:∀n x y,v n=none->cE x->cE y->dw x y=(hj q r).2->r0 ⟨n,0,none⟩ (v.ins n (.cells [.int .i64 r.id,.int .u64 x,.int .u64 y].toArray 68 (0,0))):=by
   intro n x y nN M aj hw;refine tb _ _ ?_;clear tb;generalize cb:hj q r=fs at hw;have AU:r.id=fs.1:=by rw[<-cb];rfl
   have iP:jJ fs.2:=by rw[<-cb];exact EZ r fR
   have ex:x=cQ fs.2:=by rw[<-hw,RX aj]
   have r2:y=cS fs.2:=by rw[<-hw,S2 aj]
   subst ex;subst r2;rw[AU];have cH:=cX.mI nN (.cells (eO fs).toArray 68 (0,0));show ∃aef:o,_;have xI:=cX.le.none nN;generalize gB:v.ins n (bt (eO fs).toArray 68 (0,0))=aR at cH;have aw0:v.ins n (bt [cN .i64 fs.1,.int .u64 (cQ fs.2),.int .u64 (cS fs.2)].toArray 68 (0,0))=aR:=gB;rw[aw0];generalize ph:u.ins n (bt (eO fs).toArray 68 (0,0))=ak at cH;have W2:∀j w,(eO fs)[j]?=some w->ak.cell? ((cp n 0 none).add j)=some w:=by intro j w aP;rw[ib,kY,<-ph,HE];simpa using aP
   have cell:∀w,ak.le w->w.cell? ⟨n,0,none⟩=some (.int .i64 fs.1)/\w.cell? ((cp n 0 none).add 1)=some (.int .u64 (cQ fs.2))/\w.cell? ((cp n 0 none).add 2)=some (.int .u64 (cS fs.2)):=
    λw hw=>⟨oH hw (W2 0 _ rfl),oH hw (W2 1 _ rfl),oH hw (W2 2 _ rfl)⟩
   have awZ:u.le ak:=by rw[<-ph];exact bX _ xI
   have X7:=cX.fk.len;have ux:L.length<=2000:=by have:=gF.length_eq;simp only[eb,iV] at this;omega
   obtain⟨d0,d1,d2⟩:=cell aR cH.le;refine⟨_,d0,_,d1,_,d2,mn UB (afz _ _ _) (by decide) rfl (by simp[cI]) cH (by omega) (by omega) ?_⟩;intro jt lI hO dS _ _ _;rw[Xx] at hO;refine⟨λk w=>0<=k/\∃(A B:J bN) (W:bN),k=(A.length:o)/\A++B=L/\(∀b∈B,bP fs b=ai)/\aD ak w 68 3 jt ((A++W::B).flatMap eO),λk _=>k.toNat,
    ⟨by omega,L,[],fs,by rw[X7],by simp,by simp,hO⟩,?_⟩
   clear hO;rintro k w ⟨iu,A,B,W,rfl,Rj,asJ,hO⟩;intro aIk as0;have aJS:jt.n=A.length+B.length+1:=by grind
   have aIN:A.length+B.length<=2000:=by omega
   obtain⟨fi,aT,aN⟩:=cell w hO.le;have place:∀pp,jt.a=some pp->(∀a∈A,bP fs a=ao)->
     H.aM w (pp.add ((A.length:o).toNat*3)) [.int .i64 fs.1,.int .u64 (cQ fs.2),.int .u64 (cS fs.2)] λanU=>a7 (i+1)/\
      (0<=i+1/\i+1<=(s.n:o)/\∃L:J bN,aD u anU 68 3 jt (L.flatMap eO)/\o7 L/\L.Perm ((l.take (i+1).toNat).map (hj q)))/\s.n-(i+1).toNat<s.n-i.toNat:=by
    intro pp h8 hx
    rw[show(A.length:o).toNat=A.length by omega]
    refine aD.store (enc:=eO) pO hO (by decide) (by simp) (y:=fs) (yH fs) h8 λu' LP _ _=>⟨⟨by omega,by omega⟩,⟨by omega,by omega,A++fs::B,?_,?_,?_⟩,by omega⟩
    rw[O1] at LP
    exact LP.weaken awZ
    rw[<-Rj] at mB
    obtain⟨s1,s2,k0⟩:=mB.append
    refine tP.2 ⟨s1,ix.2 ⟨λb aa=>Fh (asJ b aa),s2⟩,λa az b aa=>?_⟩
    grind
    rw[show(i+1).toNat=i.toNat+1 by omega,fN,U]
    grind
   refine⟨λhk=>?_,λhk=>?_⟩;obtain⟨Aa,a,rfl⟩:∃Aa a,A=Aa++ [a]:=⟨A.dropLast,A.getLast (by intro e;simp[e] at hk),(acf _).symm⟩;simp only[gG,jq,sw,kY] at*;have rp:(((Aa.length+1:O):o)-1).toNat=Aa.length:=by omega
   have j6:0<=((Aa.length+1:O):o)-1:=by omega
   have iN:((Aa.length+1:O):o)-1<(jt.n:o):=by omega
   obtain⟨pp,h8,x,M,f0,f1,f2⟩:=hO.fk.at j6 iN;have Bg:x=a:=by rw[rp] at M;simp only[wA,List.singleton_append,x7] at M;rw[asf] at M;cases M;rfl
   subst Bg;have Bh:jJ x.2:=by
    have:x∈L:=by rw[<-Rj];simp
    obtain⟨cx,cU,he⟩:=bQ.1 (gF.mem_iff.1 this);rw[<-he];exact EZ cx (oW cU)
   refine⟨⟨by omega,by omega⟩,pp,h8,⟨j6,iN⟩,_,fi,_,aT,_,aN,_,f0,_,f1,_,f2,aCQ iP Bh ⟨λaa=>as0 _ ?_,λaa=>⟨_,fi,_,aT,_,aN,pp,h8,⟨by omega,by omega⟩,?_⟩⟩⟩;refine⟨⟨by omega,by omega⟩,pp,h8,⟨j6,iN⟩,_,f0,_,f1,_,f2,pp,h8,⟨by omega,by omega⟩,?_⟩;unfold aG;rw[show((Aa.length+1:O):o).toNat=(Aa++ [x]).length by simp];refine aD.store (enc:=eO) pO hO (by decide) (by simp) (y:=x) (yH x) h8 λu' LP _ _=>⟨⟨by omega,by omega⟩,⟨by omega,Aa,x::B,x,by omega,by simpa using Rj,?_,?_⟩,?_⟩
   grind
   rw[O1] at LP;simpa using LP
   grind
   refine place pp h8 λy aj=>?_;rcases dT.1 aj with aj|aj;rw[<-Rj] at mB;have:=(tP.1 (mB.append).1).2.2 y aj x (by simp);exact C2 this aa
   grind
   have Ri:A=[]:=by grind
   obtain⟨pp,h8,_⟩:=hO.fk.at (x:=(A.length:o)) (by omega) (by omega);refine⟨_,fi,_,aT,_,aN,pp,h8,⟨by omega,by omega⟩,place pp h8 λa az=>by rw[Ri] at az;cases az⟩
  clear tb;refine⟨p,ft,⟨h0,hi⟩,p,ft,⟨h0,hi⟩,_,bA,_,c1,?_,λn nN=>⟨bX _ nN,?_⟩⟩;refine Uo RZ (ht.mono cX.le) SE xL aiJ λx y M aj hw=>⟨H.le.refl _,λn nN=>⟨bX _ nN,lZ (zs:=[.int .i64 0,.int .u64 0,.int .u64 0]) rfl (by simp[cI]) (key n x y nN M aj hw)⟩⟩;have hle:=bX (u:=v) (b:=n) (bt #[cN .i64 0,.int .u64 0,.int .u64 0] 68 (0,0)) nN;refine Uo (RZ.mono hle) ((ht.mono cX.le).mono hle) SE xL aiJ λx y M aj hw=>?_
  first
   |exact lZ (zs:=[.int .i64 0,.int .u64 0,.int .u64 0]) rfl (by simp[cI]) (key n x y nN M aj hw)
   |exact⟨hle,lZ (zs:=[.int .i64 0,.int .u64 0,.int .u64 0]) rfl (by simp[cI]) (key n x y nN M aj hw)⟩
 refine h _ _ ?_
 have qL:i.toNat=l.length:=by omega
 rw[qL,pt] at gF
 rw[<-Uc gF mB]
 exact cX
def jZ{α:Type}(l:J α)(i j:O):J α:=
 match l[i]?,l[j]? with
 |some a,some b=>(l.set i b).set j a|_,_=>l
def GX{α:Type}{l:J α}(hi:i<l.length)(aP:j<l.length):jZ l i j=(l.set i l[j]).set j l[i]:=by simp[jZ,hi,aP]
def qj{α:Type}(l:J α)(i j:O):(jZ l i j).length=l.length:=by unfold jZ;split<;>simp
def DR{α:Type}{l:J α}(hi:i<l.length)(aP:j<l.length):(jZ l i j).Perm l:=by rw[GX hi aP];exact List.set_set_perm hi aP
theorem aDu{α:Type}{l:J α}(hi:i<l.length)(aP:j<l.length)(hk:k<l.length):
  (jZ l i j)[k]?=if k=j then some l[i] else if k=i then some l[j] else some l[k]:=by
 rw[GX hi aP]
 grind
structure o5{α:Type}(lt:α->α->ay):Prop where
 asymm:∀a b,lt a b=ai->lt b a=ao
 trans:∀a b c,lt b a=ao->lt c b=ao->lt c a=ao
variable {α:Type} [lF α] {lt:α->α->ay}
abbrev dh(i:O):O:=(i-1)/2
def iJ(lt:α->α->ay)(n:O)(l:J α):Prop:=∀i,0<i->i<n->lt (l.getD i default) (l.getD (dh i) default)=ao
structure Am(lt:α->α->ay)(l:J α)(j:O):Prop where
 akd:j<l.length
 others:∀i,0<i->i<l.length->i≠j->lt (l.getD i default) (l.getD (dh i) default)=ao
 over:∀i,0<i->i<l.length->dh i=j->0<j->lt (l.getD i default) (l.getD (dh j) default)=ao
theorem DQ{l:J α}(hi:i<l.length)(aP:j<l.length)(hk:k<l.length):
  (jZ l i j).getD k default=if k=j then l.getD i default else if k=i then l.getD j default else l.getD k default:=by
 rw[jX,aDu hi aP hk]
 grind
theorem Am.done{l:J α}(h:Am lt l j)(av:j=0∨lt (l.getD j default) (l.getD (dh j) default)=ao):iJ lt l.length l:=by
 intro i h0 hi;by_cases jd:i=j
 grind
 exact h.others i h0 hi jd
theorem Am.step(cX:o5 lt){l:J α}(h:Am lt l j)(aP:0<j)(aq:lt (l.getD j default) (l.getD (dh j) default)=ai):Am lt (jZ l (dh j) j) (dh j):=by
 have kC:=h.akd;have lz:dh j<j:=by unfold dh;omega
 have hlen:=qj l (dh j) j;have g:∀k,k<l.length->(jZ l (dh j) j).getD k default=if k=j then l.getD (dh j) default else if k=dh j then l.getD j default else l.getD k default:=
  λk hk=>DQ (by omega) kC hk
 refine⟨by omega,?_,?_⟩;intro i h0 hi an;rw[hlen] at hi;have A5:dh i<i:=by unfold dh;omega
 rw[g i hi,g (dh i) (by omega)];by_cases jd:i=j;subst jd;rw[b3 rfl,bF (by omega),b3 rfl];exact cX.asymm _ _ aq;rw[bF jd,bF an];by_cases ZO:dh i=j;rw[b3 ZO];exact h.over i h0 hi ZO aP;rw[bF ZO];by_cases h8:dh i=dh j;rw[b3 h8];have:=h.others i h0 hi jd;rw[h8] at this;exact cX.trans _ _ _ (cX.asymm _ _ aq) this;rw[bF h8];exact h.others i h0 hi jd;intro i h0 hi A5 Sm;rw[hlen] at hi;have aJN:dh (dh j)<dh j:=by unfold dh at*;omega
 have aJc:dh i<i:=by unfold dh;omega
 rw[g i hi,g (dh (dh j)) (by omega),bF (by omega:¬dh (dh j)=j),bF (by omega:¬dh (dh j)=dh j)];have h8:=h.others (dh j) Sm (by omega) (by omega);by_cases jd:i=j
 grind
 rw[bF jd,bF (by omega)];have:=h.others i h0 hi jd;rw[A5] at this;exact cX.trans _ _ _ h8 this
structure wY(lt:α->α->ay)(n:O)(l:J α)(j:O):Prop where
 le:n<=l.length
 others:∀i,0<i->i<n->dh i≠j->lt (l.getD i default) (l.getD (dh i) default)=ao
 over:∀i,0<i->i<n->dh i=j->0<j->lt (l.getD i default) (l.getD (dh j) default)=ao
theorem wY.done{l:J α}(h:wY lt n l j)(av:∀i,0<i->i<n->dh i=j->lt (l.getD i default) (l.getD j default)=ao):iJ lt n l:=by
 intro i h0 hi;by_cases jd:dh i=j
 grind
 exact h.others i h0 hi jd
theorem wY.step(cX:o5 lt){l:J α}{c:O}(h:wY lt n l j)(pd:0<c)(I:c<n)(YF:dh c=j)(aq:lt (l.getD c default) (l.getD j default)=ai)
  (hm:∀i,0<i->i<n->dh i=j->lt (l.getD i default) (l.getD c default)=ao):wY lt n (jZ l j c) c:=by
 have ag:=h.le
 have aJh:j<c:=by grind
 have hlen:=qj l j c
 have g:∀k,k<l.length->(jZ l j c).getD k default=if k=c then l.getD j default else if k=j then l.getD c default else l.getD k default:=
  λk hk=>DQ (by omega) (by omega) hk
 refine⟨by omega,?_,?_⟩
 intro i h0 hi an
 have A5:dh i<i:=by unfold dh;omega
 rw[g i (by omega),g (dh i) (by omega),bF an]
 by_cases Mj:i=c
 subst Mj
 rw[b3 rfl,b3 YF]
 exact cX.asymm _ _ aq
 rw[bF Mj]
 by_cases jd:i=j
 subst jd
 rw[b3 rfl,bF (by omega)]
 have:=h.over c pd I YF h0
 exact this
 rw[bF jd]
 by_cases Sm:dh i=j
 grind
 rw[bF Sm];exact h.others i h0 hi Sm
 intro i h0 hi A5 _
 have aJL:dh i<i:=by unfold dh;omega
 rw[g i (by omega),g (dh c) (by omega),bF (by omega:¬i=c),bF (by omega:¬i=j),YF,bF (by omega:¬j=c),b3 rfl]
 have:=h.others i h0 hi (by omega)
 grind
theorem iJ.root(cX:o5 lt){l:J α}(h:iJ lt n l):∀i,i<n->lt (l.getD i default) (l.getD 0 default)=ao:=by
 intro i;induction i using Nat.strongRecOn with
 |_ i aW=>
  intro hi;by_cases h0:i=0;subst h0;cases e:lt (l.getD 0 default) (l.getD 0 default) with
  |false=>rfl|true=>have:=cX.asymm _ _ e;grind
  have ad:dh i<i:=by unfold dh;omega
  exact cX.trans _ _ _ (aW (dh i) ad (by omega)) (h i (by omega) hi)
end
section
variable{u:H}{K:H->Prop}
def aH0(cg:cA dC)(t:dC)(p:a8)(a b:ByteArray):Builtin.ssaWrapNilChk_ cg t #[.pointer (some p),.string a,.string b]=pure (.pointer (some p)):=rfl
def acI{P:dL}{gi:O}{t e:dC}{i:TypeInfo}{name:String}{m:Method}{f:j8}(hi:P.info? t=some i)(hm:i.methods.find? (·.name==name)=some m)(ad:m.path=#[])
  (ab:m.func=some (f,ao)) (hu:P.underlying t=some (.pointer e)) {p:a8} {v:ap} {w:ci} (aq:(loadVar e p).run P w=.ok v w):
  (method (gi+1) t (.pointer (some p)) name).run P w=.ok (f,v) w:=by
 unfold method
 simp[eN,typeInfo,hi,jH,hm,ad,ab,follow,receiverAt,ia hu,Place.get,aH0,strVal,asAddr,aq]
def J1{P:dL}{gi:O}{t e:dC}{i:TypeInfo}{name:String}{m:Method}{f:j8}(hi:P.info? t=some i)(hm:i.methods.find? (·.name==name)=some m)(ad:m.path=#[])
  (ab:m.func=some (f,ai)) (hu:P.underlying t=some (.pointer e)) {p:aA a8} {w:ci}:
  (method (gi+1) t (.pointer p) name).run P w=.ok (f,.pointer p) w:=by
 unfold method
 simp[eN,typeInfo,hi,jH,hm,ad,ab,follow,receiverAt,ia hu,Place.get]
theorem anC{α:Type}{l:J α}{i j k:O}(hi:i≠k)(aP:j≠k):(jZ l i j)[k]?=l[k]?:=by
 unfold jZ
 grind
structure vA{α:Type}[lF α](recv:ap)(aM:H->J α->Prop)(lt:α->α->ay):Prop where
 len:∀{u l} {K:o->H->Prop},aM u l->K (l.length:o) u->nv aH recv "Len" #[] [.one (.int .i64)] u K
 less:∀{u l} {i j:o} {K:ay->H->Prop},aM u l->0<=i->i<l.length->0<=j->j<l.length->K (lt (l.getD i.toNat default) (l.getD j.toNat default)) u->
  nv aH recv "Less" #[.int .i64 i,.int .i64 j] [.one .bool] u K
 swap:∀{u l} {i j:o} {K:H->Prop},aM u l->0<=i->i<l.length->0<=j->j<l.length->(∀u',aM u' (jZ l i.toNat j.toNat)->K u')->
  nv aH recv "Swap" #[.int .i64 i,.int .i64 j] [] u K
 small:∀{u l},aM u l->l.length<=1099511627776
section
variable {α:Type} [lF α] {recv:ap} {aM:H->J α->Prop} {lt:α->α->ay}
def amC(dn:vA recv aM lt)(L:o5 lt){l:J α}{j:o}(ae:aM u l)(h0:0<=j)(hu:Am lt l j.toNat)
  (au:∀u' bH,aM u' bH->bH.Perm l->iJ lt bH.length bH->K u'):Kw recv j u K:=by
 have fX:=dn.small ae
 apply aoe
 refine⟨λx v=>0<=x/\∃bH,aM v bH/\bH.Perm l/\Am lt bH x.toNat,λx _=>x.toNat,⟨h0,l,ae,.refl _,hu⟩,?_⟩
 rintro x v ⟨bK,bH,fS,ad,kE⟩
 have hlen:=ad.length_eq
 have ch:=kE.akd
 refine⟨⟨by omega,by omega⟩,by decide,?_⟩
 by_cases M:x=0
 subst M
 refine⟨⟨by decide,by decide⟩,λ_=>au _ _ fS ad (kE.done (.inl rfl)),λh=>bf (by decide) h⟩
 have ht:ff (x-1) 2=(x-1)/2:=Dz (by omega)
 have tp:((x-1)/2).toNat=dh x.toNat:=by unfold dh;omega
 rw[ht]
 refine⟨⟨by omega,by omega⟩,λh=>by omega,λ_=>dn.less fS bK (by omega) (by omega) (by omega) ?_⟩
 rw[tp]
 refine⟨λaa=>au _ _ fS ad (kE.done (.inr (by simpa using aa))),λaa=>dn.swap fS (by omega) (by omega) bK (by omega) λu' dJ=>⟨⟨by omega,_,dJ,?_,?_⟩,by dsimp only;omega⟩⟩
 rw[tp]
 exact(DR (by unfold dh;omega) ch).trans ad
 rw[tp]
 exact kE.step L (by omega) aa
theorem amB(dn:vA recv aM lt)(L:o5 lt){l:J α}{j n:o}{K:ay->H->Prop}(ae:aM u l)(h0:0<=j)(ag:n<=l.length)(hu:wY lt n.toNat l j.toNat)
  (au:∀b u' bH,aM u' bH->bH.Perm l->iJ lt n.toNat bH->(∀k:O,n<=k->bH[k]?=l[k]?)->K b u') (aP:j<n∨j<=0):Kv recv j n u K:=by
 have fX:=dn.small ae
 apply aod
 intro iK iM
 refine⟨λx v=>0<=x/\(x<n∨x<=0)/\∃bH,aM v bH/\bH.Perm l/\wY lt n.toNat bH x.toNat/\∀k:O,n<=k->bH[k]?=l[k]?,λx _=>(n-x).toNat,⟨h0,aP,l,ae,.refl _,hu,λ_ _=>rfl⟩,?_⟩
 rintro x v ⟨bK,SG,bH,fS,ad,av,lb⟩
 have hlen:=ad.length_eq
 have done:∀{b9},aM b9 bH->(∀i,0<i->i<n.toNat->dh i=x.toNat->lt (bH.getD i default) (bH.getD x.toNat default)=ao)->iK x b9:=λdJ h=>
  iM _ _ (au _ _ _ dJ ad (av.done h) lb)
 refine⟨⟨by omega,by omega⟩,⟨by omega,by omega⟩,λw0 AJ=>⟨λh=>done fS λi i0 i1 i2=>by unfold dh at i2;omega,λh=>⟨λh2=>by omega,λ_=>AJ _ ?_⟩⟩⟩
 clear AJ w0
 intro Ec EO
 have eJ:∀c:o,0<c->c<n->dh c.toNat=x.toNat->(∀i,0<i->i<n.toNat->dh i=x.toNat->lt (bH.getD i default) (bH.getD c.toNat default)=ao)->Ec c v:=by
  intro c bA c1 c2 hm;have pR:x<c:=by unfold dh at c2;omega
  refine EO _ _ (dn.less fS (by omega) (by omega) bK (by omega) ⟨λaa=>done fS λi i0 i1 i2=>?_,λaa=>dn.swap fS bK (by omega) (by omega) (by omega) λu' dJ=>⟨⟨by omega,.inl c1,_,dJ,?_,?_,?_⟩,by dsimp only;omega⟩⟩);exact L.trans _ _ _ (by simpa using aa) (hm i i0 i1 i2);exact(DR (by omega) (by omega)).trans ad;exact av.step L (by omega) (by omega) c2 aa hm;intro k hk;rw[anC (by omega) (by omega)];exact lb k hk
 clear EO
 have ND:∀a,lt a a=ao:=λa=>by
  cases e:lt a a with
  |false=>rfl|true=>have:=L.asymm _ _ e;grind
 have gU:dh (2*x+1).toNat=x.toNat:=by unfold dh;omega
 have du:dh (2*x+1+1).toNat=x.toNat:=by unfold dh;omega
 have two:∀i,0<i->i<n.toNat->dh i=x.toNat->i=(2*x+1).toNat∨i=(2*x+1+1).toNat:=λi i0 _ i2=>by unfold dh at i2;omega
 refine⟨⟨by omega,by omega⟩,λh2=>dn.less fS (by omega) (by omega) (by omega) (by omega) ⟨λaa=>eJ _ (by omega) h2 du λi i0 i1 i2=>?_,λaa=>eJ _ (by omega) (by omega) gU λi i0 i1 i2=>?_⟩,
  λh2=>eJ _ (by omega) (by omega) gU λi i0 i1 i2=>?_⟩
 rcases two i i0 i1 i2 with rfl|rfl
 exact L.asymm _ _ aa
 exact ND _
 rcases two i i0 i1 i2 with rfl|rfl
 exact ND _
 exact aa
 rcases two i i0 i1 i2 with rfl|rfl
 exact ND _
 omega
theorem iJ.aq6{l:J α}{n:O}(h:iJ lt n l)(ag:n<=l.length)(y:α):wY lt n (l.set 0 y) 0:=by
 refine⟨by simpa using ag,λi i0 i1 i2=>?_,λi i0 i1 i2 h0=>by omega⟩;have ad:dh i≠0:=i2;have g:∀k,k≠0->(l.set 0 y).getD k default=l.getD k default:=λk hk=>by
  grind
 rw[g i (by omega),g _ ad];exact h i i0 i1
def aBU(dn:vA recv aM lt)(L:o5 lt){l:J α}(ae:aM u l)(an:0<l.length)(av:wY lt l.length l 0)
  (au:∀u' bH,aM u' bH->bH.Perm l->iJ lt bH.length bH->K u'):Vg recv 0 u K:=by
 apply aEY
 refine dn.len ae (amB dn L ae (by omega) (by omega) (by simpa using av) (λb u' bH fS ad cb _=>?_) (.inl (by omega)))
 have hlen:=ad.length_eq
 have nI:iJ lt bH.length bH:=by rw[hlen];simpa using cb
 refine⟨λ_=>amC dn L fS (by omega) ⟨by show 0<bH.length;omega,λi i0 i1 _=>nI i i0 i1,λi i0 i1 _ h=>bf h (by decide)⟩ λcF eZ dJ eX yY=>au _ _ dJ (eX.trans ad) yY,λ_=>au _ _ fS ad nI⟩
theorem amA(dn:vA recv aM lt)(L:o5 lt){l:J α}{x:ap}{y:α}(cb:iJ lt l.length l)
  (ZS:∀{K:H->Prop},(∀u',aM u' (l++ [y])->K u')->nv aH recv "Push" #[x] [] u K)
  (au:∀u' bH,aM u' bH->bH.Perm (l++ [y])->iJ lt bH.length bH->K u'):Ab recv x u K:=by
 apply aoc
 refine ZS λu' ae=>dn.len ae ?_
 have fX:=dn.small ae
 simp only[gG,x9] at fX ⊢
 refine⟨⟨by omega,by omega⟩,amC dn L ae (by omega) ⟨by simp,λi i0 i1 i2=>?_,λi i0 i1 i2=>?_⟩ au⟩
 simp only[gG,x9] at i1
 have hi:i<l.length:=by omega
 have g:∀k,k<l.length->(l++ [y]).getD k default=l.getD k default:=λk hk=>by
  grind
 rw[g i hi,g _ (by unfold dh;omega)]
 exact cb i i0 hi
 grind
end
end
end Go.Proofs.YtejdhbfjjgcljaaGreatDoor
namespace Go.Proofs
open Go.Shelf
def Tryz.aBs:Go.Shelf.Ren:=⟨fun|6=>81|15=>115|14=>114|28=>158|29=>159|20=>150|21=>151|22=>152|23=>153|24=>154|25=>155|26=>156|27=>157|46=>188|47=>189|48=>190|49=>191|50=>192|57=>202|n=>n,fun|22=>38|24=>68|25=>151|3=>3|39=>201|0=>0|53=>250|55=>26|4=>4|46=>243|45=>242|50=>247|5=>5|9=>9|66=>275|70=>278|76=>288|77=>289|n=>n,fun|n=>n⟩
def Tryz.amr:Go.Proofs.SlLaysF0.n6 Tryz.prog Tryz.aBs:={
 mixed:=by kernel_rfl
 f6:=⟨Tryz.f81.name,by decide,Tryz.func81.trans (congrArg some (by kernel_rfl))⟩
 f14:=⟨Tryz.f114.name,by decide,Tryz.func114.trans (congrArg some (by kernel_rfl))⟩
 f15:=Tryz.func115.trans (congrArg some (by kernel_rfl))
 f20:=⟨Tryz.f150.name,by decide,Tryz.func150.trans (congrArg some (by kernel_rfl))⟩
 f21:=⟨Tryz.f151.name,by decide,Tryz.func151.trans (congrArg some (by kernel_rfl))⟩
 f22:=⟨Tryz.f152.name,by decide,Tryz.func152.trans (congrArg some (by kernel_rfl))⟩
 f23:=⟨Tryz.f153.name,by decide,Tryz.func153.trans (congrArg some (by kernel_rfl))⟩
 f24:=⟨Tryz.f154.name,by decide,Tryz.func154.trans (congrArg some (by kernel_rfl))⟩
 f25:=⟨Tryz.f155.name,by decide,Tryz.func155.trans (congrArg some (by kernel_rfl))⟩
 f26:=⟨Tryz.f156.name,by decide,Tryz.func156.trans (congrArg some (by kernel_rfl))⟩
 f27:=⟨Tryz.f157.name,by decide,Tryz.func157.trans (congrArg some (by kernel_rfl))⟩
 f28:=Tryz.func158.trans (congrArg some (by kernel_rfl))
 f29:=Tryz.func159.trans (congrArg some (by kernel_rfl))
 f46:=⟨Tryz.f188.name,by decide,Tryz.func188.trans (congrArg some (by kernel_rfl))⟩
 f47:=Tryz.func189.trans (congrArg some (by kernel_rfl))
 f48:=Tryz.func190.trans (congrArg some (by kernel_rfl))
 f49:=⟨Tryz.f191.name,by decide,Tryz.func191.trans (congrArg some (by kernel_rfl))⟩
 f50:=⟨Tryz.f192.name,by decide,Tryz.func192.trans (congrArg some (by kernel_rfl))⟩
 f57:=⟨Tryz.f202.name,by decide,Tryz.func202.trans (congrArg some (by kernel_rfl))⟩
 t0:=Tryz.underlying0
 a0:=Tryz.isAgg0
 z0:=Tryz.sizeOf0
 v0:=Tryz.zeroValue0
 t3:=Tryz.underlying3
 a3:=Tryz.isAgg3
 z3:=Tryz.sizeOf3
 v3:=Tryz.zeroValue3
 t4:=Tryz.underlying4
 a4:=Tryz.isAgg4
 z4:=Tryz.sizeOf4
 v4:=Tryz.zeroValue4
 t5:=Tryz.underlying5
 a5:=Tryz.isAgg5
 z5:=Tryz.sizeOf5
 v5:=Tryz.zeroValue5
 t9:=Tryz.underlying9
 a9:=Tryz.isAgg9
 z9:=Tryz.sizeOf9
 v9:=Tryz.zeroValue9
 t22:=Tryz.underlying38
 a22:=Tryz.isAgg38
 z22:=Tryz.sizeOf38
 v22:=Tryz.zeroValue38
 t25:=Tryz.underlying151
 a25:=Tryz.isAgg151
 z25:=Tryz.sizeOf151
 v25:=Tryz.zeroValue151
 t39:=Tryz.underlying201
 a39:=Tryz.isAgg201
 z39:=Tryz.sizeOf201
 v39:=Tryz.zeroValue201
 t45:=Tryz.underlying242
 a45:=Tryz.isAgg242
 z45:=Tryz.sizeOf242
 v45:=Tryz.zeroValue242
 t46:=Tryz.underlying243
 a46:=Tryz.isAgg243
 z46:=Tryz.sizeOf243
 v46:=Tryz.zeroValue243
 t50:=Tryz.underlying247
 a50:=Tryz.isAgg247
 z50:=Tryz.sizeOf247
 v50:=Tryz.zeroValue247
 t53:=Tryz.underlying250
 a53:=Tryz.isAgg250
 z53:=Tryz.sizeOf250
 v53:=Tryz.zeroValue250
 t55:=Tryz.underlying26
 a55:=Tryz.isAgg26
 z55:=Tryz.sizeOf26
 v55:=Tryz.zeroValue26
 t66:=Tryz.underlying275
 a66:=Tryz.isAgg275
 z66:=Tryz.sizeOf275
 v66:=Tryz.zeroValue275
 t70:=Tryz.underlying278
 a70:=Tryz.isAgg278
 z70:=Tryz.sizeOf278
 v70:=Tryz.zeroValue278
 t76:=Tryz.underlying288
 a76:=Tryz.isAgg288
 z76:=Tryz.sizeOf288
 v76:=Tryz.zeroValue288
 t77:=Tryz.underlying289
 a77:=Tryz.isAgg289
 z77:=Tryz.sizeOf289
 v77:=Tryz.zeroValue289}
def Tryz.aBu:Go.Shelf.Ren:=⟨fun|53=>193|64=>115|63=>203|78=>158|79=>159|70=>214|71=>215|72=>216|73=>217|74=>218|75=>219|59=>220|76=>221|77=>222|88=>227|89=>189|90=>190|91=>228|92=>229|68=>160|96=>231|n=>n,fun|22=>30|23=>3|3=>3|51=>201|0=>0|67=>250|69=>26|4=>4|61=>243|60=>242|44=>247|5=>5|9=>9|75=>275|79=>278|83=>288|84=>289|n=>n,fun|n=>n⟩
def Tryz.amt:Go.Proofs.SlLaysN.n53 Tryz.prog Tryz.aBu:={
 mixed:=by kernel_rfl
 f53:=⟨Tryz.f193.name,by decide,Tryz.func193.trans (congrArg some (by kernel_rfl))⟩
 f59:=⟨Tryz.f220.name,by decide,Tryz.func220.trans (congrArg some (by kernel_rfl))⟩
 f63:=⟨Tryz.f203.name,by decide,Tryz.func203.trans (congrArg some (by kernel_rfl))⟩
 f64:=Tryz.func115.trans (congrArg some (by kernel_rfl))
 f68:=⟨Tryz.f160.name,by decide,Tryz.func160.trans (congrArg some (by kernel_rfl))⟩
 f70:=⟨Tryz.f214.name,by decide,Tryz.func214.trans (congrArg some (by kernel_rfl))⟩
 f71:=⟨Tryz.f215.name,by decide,Tryz.func215.trans (congrArg some (by kernel_rfl))⟩
 f72:=⟨Tryz.f216.name,by decide,Tryz.func216.trans (congrArg some (by kernel_rfl))⟩
 f73:=⟨Tryz.f217.name,by decide,Tryz.func217.trans (congrArg some (by kernel_rfl))⟩
 f74:=⟨Tryz.f218.name,by decide,Tryz.func218.trans (congrArg some (by kernel_rfl))⟩
 f75:=⟨Tryz.f219.name,by decide,Tryz.func219.trans (congrArg some (by kernel_rfl))⟩
 f76:=⟨Tryz.f221.name,by decide,Tryz.func221.trans (congrArg some (by kernel_rfl))⟩
 f77:=⟨Tryz.f222.name,by decide,Tryz.func222.trans (congrArg some (by kernel_rfl))⟩
 f78:=Tryz.func158.trans (congrArg some (by kernel_rfl))
 f79:=Tryz.func159.trans (congrArg some (by kernel_rfl))
 f88:=⟨Tryz.f227.name,by decide,Tryz.func227.trans (congrArg some (by kernel_rfl))⟩
 f89:=Tryz.func189.trans (congrArg some (by kernel_rfl))
 f90:=Tryz.func190.trans (congrArg some (by kernel_rfl))
 f91:=⟨Tryz.f228.name,by decide,Tryz.func228.trans (congrArg some (by kernel_rfl))⟩
 f92:=⟨Tryz.f229.name,by decide,Tryz.func229.trans (congrArg some (by kernel_rfl))⟩
 f96:=⟨Tryz.f231.name,by decide,Tryz.func231.trans (congrArg some (by kernel_rfl))⟩
 t0:=Tryz.underlying0
 a0:=Tryz.isAgg0
 z0:=Tryz.sizeOf0
 v0:=Tryz.zeroValue0
 t3:=Tryz.underlying3
 a3:=Tryz.isAgg3
 z3:=Tryz.sizeOf3
 v3:=Tryz.zeroValue3
 t4:=Tryz.underlying4
 a4:=Tryz.isAgg4
 z4:=Tryz.sizeOf4
 v4:=Tryz.zeroValue4
 t5:=Tryz.underlying5
 a5:=Tryz.isAgg5
 z5:=Tryz.sizeOf5
 v5:=Tryz.zeroValue5
 t9:=Tryz.underlying9
 a9:=Tryz.isAgg9
 z9:=Tryz.sizeOf9
 v9:=Tryz.zeroValue9
 t22:=Tryz.underlying30
 a22:=Tryz.isAgg30
 z22:=Tryz.sizeOf30
 v22:=Tryz.zeroValue30
 t23:=Tryz.underlying3
 a23:=Tryz.isAgg3
 z23:=Tryz.sizeOf3
 v23:=Tryz.zeroValue3
 t44:=Tryz.underlying247
 a44:=Tryz.isAgg247
 z44:=Tryz.sizeOf247
 v44:=Tryz.zeroValue247
 t51:=Tryz.underlying201
 a51:=Tryz.isAgg201
 z51:=Tryz.sizeOf201
 v51:=Tryz.zeroValue201
 t60:=Tryz.underlying242
 a60:=Tryz.isAgg242
 z60:=Tryz.sizeOf242
 v60:=Tryz.zeroValue242
 t61:=Tryz.underlying243
 a61:=Tryz.isAgg243
 z61:=Tryz.sizeOf243
 v61:=Tryz.zeroValue243
 t67:=Tryz.underlying250
 a67:=Tryz.isAgg250
 z67:=Tryz.sizeOf250
 v67:=Tryz.zeroValue250
 t69:=Tryz.underlying26
 a69:=Tryz.isAgg26
 z69:=Tryz.sizeOf26
 v69:=Tryz.zeroValue26
 t75:=Tryz.underlying275
 a75:=Tryz.isAgg275
 z75:=Tryz.sizeOf275
 v75:=Tryz.zeroValue275
 t79:=Tryz.underlying278
 a79:=Tryz.isAgg278
 z79:=Tryz.sizeOf278
 v79:=Tryz.zeroValue278
 t83:=Tryz.underlying288
 a83:=Tryz.isAgg288
 z83:=Tryz.sizeOf288
 v83:=Tryz.zeroValue288
 t84:=Tryz.underlying289
 a84:=Tryz.isAgg289
 z84:=Tryz.sizeOf289
 v84:=Tryz.zeroValue289}
def Tryz.aBw:Go.Shelf.Ren:=⟨fun|6=>104|15=>115|14=>143|28=>158|29=>159|20=>177|21=>178|22=>179|23=>180|24=>181|25=>182|26=>183|27=>184|46=>197|47=>189|48=>190|49=>198|50=>199|57=>213|n=>n,fun|22=>22|24=>52|25=>186|3=>3|39=>201|0=>0|53=>250|55=>26|4=>4|46=>243|45=>242|50=>247|5=>5|9=>9|66=>275|70=>278|76=>288|77=>289|n=>n,fun|n=>n⟩
def Tryz.amv:Go.Proofs.SlLaysF0.n6 Tryz.prog Tryz.aBw:={
 mixed:=by kernel_rfl
 f6:=⟨Tryz.f104.name,by decide,Tryz.func104.trans (congrArg some (by kernel_rfl))⟩
 f14:=⟨Tryz.f143.name,by decide,Tryz.func143.trans (congrArg some (by kernel_rfl))⟩
 f15:=Tryz.func115.trans (congrArg some (by kernel_rfl))
 f20:=⟨Tryz.f177.name,by decide,Tryz.func177.trans (congrArg some (by kernel_rfl))⟩
 f21:=⟨Tryz.f178.name,by decide,Tryz.func178.trans (congrArg some (by kernel_rfl))⟩
 f22:=⟨Tryz.f179.name,by decide,Tryz.func179.trans (congrArg some (by kernel_rfl))⟩
 f23:=⟨Tryz.f180.name,by decide,Tryz.func180.trans (congrArg some (by kernel_rfl))⟩
 f24:=⟨Tryz.f181.name,by decide,Tryz.func181.trans (congrArg some (by kernel_rfl))⟩
 f25:=⟨Tryz.f182.name,by decide,Tryz.func182.trans (congrArg some (by kernel_rfl))⟩
 f26:=⟨Tryz.f183.name,by decide,Tryz.func183.trans (congrArg some (by kernel_rfl))⟩
 f27:=⟨Tryz.f184.name,by decide,Tryz.func184.trans (congrArg some (by kernel_rfl))⟩
 f28:=Tryz.func158.trans (congrArg some (by kernel_rfl))
 f29:=Tryz.func159.trans (congrArg some (by kernel_rfl))
 f46:=⟨Tryz.f197.name,by decide,Tryz.func197.trans (congrArg some (by kernel_rfl))⟩
 f47:=Tryz.func189.trans (congrArg some (by kernel_rfl))
 f48:=Tryz.func190.trans (congrArg some (by kernel_rfl))
 f49:=⟨Tryz.f198.name,by decide,Tryz.func198.trans (congrArg some (by kernel_rfl))⟩
 f50:=⟨Tryz.f199.name,by decide,Tryz.func199.trans (congrArg some (by kernel_rfl))⟩
 f57:=⟨Tryz.f213.name,by decide,Tryz.func213.trans (congrArg some (by kernel_rfl))⟩
 t0:=Tryz.underlying0
 a0:=Tryz.isAgg0
 z0:=Tryz.sizeOf0
 v0:=Tryz.zeroValue0
 t3:=Tryz.underlying3
 a3:=Tryz.isAgg3
 z3:=Tryz.sizeOf3
 v3:=Tryz.zeroValue3
 t4:=Tryz.underlying4
 a4:=Tryz.isAgg4
 z4:=Tryz.sizeOf4
 v4:=Tryz.zeroValue4
 t5:=Tryz.underlying5
 a5:=Tryz.isAgg5
 z5:=Tryz.sizeOf5
 v5:=Tryz.zeroValue5
 t9:=Tryz.underlying9
 a9:=Tryz.isAgg9
 z9:=Tryz.sizeOf9
 v9:=Tryz.zeroValue9
 t22:=Tryz.underlying22
 a22:=Tryz.isAgg22
 z22:=Tryz.sizeOf22
 v22:=Tryz.zeroValue22
 t25:=Tryz.underlying186
 a25:=Tryz.isAgg186
 z25:=Tryz.sizeOf186
 v25:=Tryz.zeroValue186
 t39:=Tryz.underlying201
 a39:=Tryz.isAgg201
 z39:=Tryz.sizeOf201
 v39:=Tryz.zeroValue201
 t45:=Tryz.underlying242
 a45:=Tryz.isAgg242
 z45:=Tryz.sizeOf242
 v45:=Tryz.zeroValue242
 t46:=Tryz.underlying243
 a46:=Tryz.isAgg243
 z46:=Tryz.sizeOf243
 v46:=Tryz.zeroValue243
 t50:=Tryz.underlying247
 a50:=Tryz.isAgg247
 z50:=Tryz.sizeOf247
 v50:=Tryz.zeroValue247
 t53:=Tryz.underlying250
 a53:=Tryz.isAgg250
 z53:=Tryz.sizeOf250
 v53:=Tryz.zeroValue250
 t55:=Tryz.underlying26
 a55:=Tryz.isAgg26
 z55:=Tryz.sizeOf26
 v55:=Tryz.zeroValue26
 t66:=Tryz.underlying275
 a66:=Tryz.isAgg275
 z66:=Tryz.sizeOf275
 v66:=Tryz.zeroValue275
 t70:=Tryz.underlying278
 a70:=Tryz.isAgg278
 z70:=Tryz.sizeOf278
 v70:=Tryz.zeroValue278
 t76:=Tryz.underlying288
 a76:=Tryz.isAgg288
 z76:=Tryz.sizeOf288
 v76:=Tryz.zeroValue288
 t77:=Tryz.underlying289
 a77:=Tryz.isAgg289
 z77:=Tryz.sizeOf289
 v77:=Tryz.zeroValue289}
def Tryz.aBv:Go.Shelf.Ren:=⟨fun|6=>175|15=>115|14=>196|28=>158|29=>159|20=>205|21=>206|22=>207|23=>208|24=>209|25=>210|26=>211|27=>212|46=>224|47=>189|48=>190|49=>225|50=>226|57=>230|n=>n,fun|22=>30|24=>3|25=>203|3=>3|39=>201|0=>0|53=>250|55=>26|4=>4|46=>243|45=>242|50=>247|5=>5|9=>9|66=>275|70=>278|76=>288|77=>289|n=>n,fun|n=>n⟩
def Tryz.amu:Go.Proofs.SlLaysF.n6 Tryz.prog Tryz.aBv:={
 mixed:=by kernel_rfl
 f6:=⟨Tryz.f175.name,by decide,Tryz.func175.trans (congrArg some (by kernel_rfl))⟩
 f14:=⟨Tryz.f196.name,by decide,Tryz.func196.trans (congrArg some (by kernel_rfl))⟩
 f15:=Tryz.func115.trans (congrArg some (by kernel_rfl))
 f20:=⟨Tryz.f205.name,by decide,Tryz.func205.trans (congrArg some (by kernel_rfl))⟩
 f21:=⟨Tryz.f206.name,by decide,Tryz.func206.trans (congrArg some (by kernel_rfl))⟩
 f22:=⟨Tryz.f207.name,by decide,Tryz.func207.trans (congrArg some (by kernel_rfl))⟩
 f23:=⟨Tryz.f208.name,by decide,Tryz.func208.trans (congrArg some (by kernel_rfl))⟩
 f24:=⟨Tryz.f209.name,by decide,Tryz.func209.trans (congrArg some (by kernel_rfl))⟩
 f25:=⟨Tryz.f210.name,by decide,Tryz.func210.trans (congrArg some (by kernel_rfl))⟩
 f26:=⟨Tryz.f211.name,by decide,Tryz.func211.trans (congrArg some (by kernel_rfl))⟩
 f27:=⟨Tryz.f212.name,by decide,Tryz.func212.trans (congrArg some (by kernel_rfl))⟩
 f28:=Tryz.func158.trans (congrArg some (by kernel_rfl))
 f29:=Tryz.func159.trans (congrArg some (by kernel_rfl))
 f46:=⟨Tryz.f224.name,by decide,Tryz.func224.trans (congrArg some (by kernel_rfl))⟩
 f47:=Tryz.func189.trans (congrArg some (by kernel_rfl))
 f48:=Tryz.func190.trans (congrArg some (by kernel_rfl))
 f49:=⟨Tryz.f225.name,by decide,Tryz.func225.trans (congrArg some (by kernel_rfl))⟩
 f50:=⟨Tryz.f226.name,by decide,Tryz.func226.trans (congrArg some (by kernel_rfl))⟩
 f57:=⟨Tryz.f230.name,by decide,Tryz.func230.trans (congrArg some (by kernel_rfl))⟩
 t0:=Tryz.underlying0
 a0:=Tryz.isAgg0
 z0:=Tryz.sizeOf0
 v0:=Tryz.zeroValue0
 t3:=Tryz.underlying3
 a3:=Tryz.isAgg3
 z3:=Tryz.sizeOf3
 v3:=Tryz.zeroValue3
 t4:=Tryz.underlying4
 a4:=Tryz.isAgg4
 z4:=Tryz.sizeOf4
 v4:=Tryz.zeroValue4
 t5:=Tryz.underlying5
 a5:=Tryz.isAgg5
 z5:=Tryz.sizeOf5
 v5:=Tryz.zeroValue5
 t9:=Tryz.underlying9
 a9:=Tryz.isAgg9
 z9:=Tryz.sizeOf9
 v9:=Tryz.zeroValue9
 t22:=Tryz.underlying30
 a22:=Tryz.isAgg30
 z22:=Tryz.sizeOf30
 v22:=Tryz.zeroValue30
 a24:=Tryz.isAgg3
 z24:=Tryz.sizeOf3
 t25:=Tryz.underlying203
 a25:=Tryz.isAgg203
 z25:=Tryz.sizeOf203
 v25:=Tryz.zeroValue203
 t39:=Tryz.underlying201
 a39:=Tryz.isAgg201
 z39:=Tryz.sizeOf201
 v39:=Tryz.zeroValue201
 t45:=Tryz.underlying242
 a45:=Tryz.isAgg242
 z45:=Tryz.sizeOf242
 v45:=Tryz.zeroValue242
 t46:=Tryz.underlying243
 a46:=Tryz.isAgg243
 z46:=Tryz.sizeOf243
 v46:=Tryz.zeroValue243
 t50:=Tryz.underlying247
 a50:=Tryz.isAgg247
 z50:=Tryz.sizeOf247
 v50:=Tryz.zeroValue247
 t53:=Tryz.underlying250
 a53:=Tryz.isAgg250
 z53:=Tryz.sizeOf250
 v53:=Tryz.zeroValue250
 t55:=Tryz.underlying26
 a55:=Tryz.isAgg26
 z55:=Tryz.sizeOf26
 v55:=Tryz.zeroValue26
 t66:=Tryz.underlying275
 a66:=Tryz.isAgg275
 z66:=Tryz.sizeOf275
 v66:=Tryz.zeroValue275
 t70:=Tryz.underlying278
 a70:=Tryz.isAgg278
 z70:=Tryz.sizeOf278
 v70:=Tryz.zeroValue278
 t76:=Tryz.underlying288
 a76:=Tryz.isAgg288
 z76:=Tryz.sizeOf288
 v76:=Tryz.zeroValue288
 t77:=Tryz.underlying289
 a77:=Tryz.isAgg289
 z77:=Tryz.sizeOf289
 v77:=Tryz.zeroValue289}
def Tryz.aD2:Go.Shelf.Ren:=⟨fun|29=>169|n=>n,fun|22=>26|3=>3|4=>4|25=>201|54=>281|0=>0|5=>5|n=>n,fun|1=>0|n=>n⟩
def Tryz.aD1:Go.Proofs.Lays7.n29 Tryz.prog Tryz.aD2:={
 mixed:=by kernel_rfl
 f29:=Tryz.func169.trans (congrArg some (by kernel_rfl))
 t0:=Tryz.underlying0
 a0:=Tryz.isAgg0
 z0:=Tryz.sizeOf0
 v0:=Tryz.zeroValue0
 i0:=by kernel_rfl
 t3:=Tryz.underlying3
 a3:=Tryz.isAgg3
 z3:=Tryz.sizeOf3
 v3:=Tryz.zeroValue3
 i3:=by kernel_rfl
 t4:=Tryz.underlying4
 a4:=Tryz.isAgg4
 z4:=Tryz.sizeOf4
 v4:=Tryz.zeroValue4
 i4:=by kernel_rfl
 t5:=Tryz.underlying5
 a5:=Tryz.isAgg5
 z5:=Tryz.sizeOf5
 v5:=Tryz.zeroValue5
 i5:=by kernel_rfl
 t22:=Tryz.underlying26
 a22:=Tryz.isAgg26
 z22:=Tryz.sizeOf26
 v22:=Tryz.zeroValue26
 i22:=by kernel_rfl
 t25:=Tryz.underlying201
 a25:=Tryz.isAgg201
 z25:=Tryz.sizeOf201
 v25:=Tryz.zeroValue201
 i25:=by kernel_rfl
 t54:=Tryz.underlying281
 a54:=Tryz.isAgg281
 z54:=Tryz.sizeOf281
 g1:=by kernel_rfl}
end Go.Proofs
namespace Go.Proofs.YtejdhbfjjgcljaaGreatDoor
open _root_.Go.Proofs.Tryz
open H
section
variable{u ak:H}{g:O}{s:N}
open Go.Shelf Go.RowKit Go.Sort
theorem Step.agM{bJ w':ci}(h:Step (λb=>bJ.heap[b]?) [] bJ (λb=>bJ.heap[b]?) [] w'):∃q N3,w'=grow (bJ.drewN q) N3:=by
 refine⟨w'.drawn-bJ.drawn,w'.heap.extract bJ.heap.size w'.heap.size,?_⟩;have av:=h.drawn;have ae:=h.size;have cb:w'.heap=bJ.heap++w'.heap.extract bJ.heap.size w'.heap.size:=by
  apply Array.ext;simp;omega;intro i h1 h2;rcases tK i bJ.heap.size with hi|hi;rw[Array.getElem_append_left hi];have:=h.sub i bJ.heap[i] (by simp[hi])
  grind
  grind
 have aT:=h.os;have aN:=h.tape;have dG:=h.output;cases w';cases bJ;simp only[grow,World.drewN] at*;simp only[World.mk.injEq]
 grind
def agN{P:dL}{f:j8}{args:cA ap}{W:o}(h:∀u:H,hD P f args [.one (.int .i64)] u λfA u'=>fA=W/\u'=u)(bJ:ci):
  Calls P f args bJ λe w'=>e=.returned (.int .i64 W)/\∃q N3,w'=grow (bJ.drewN q) N3:=by
 refine(h (λb=>bJ.heap[b]?) bJ (λb z e=>e)).mono ?_
 rintro e w' ⟨v,u',rfl,⟨vs,hk,rfl,I⟩,ae⟩
 cases hk with
 |cons x U=>cases U;have qG:=(aI.vx (.int .i64) x _).1 I;obtain⟨M,hu⟩:x=W/\u'=_:=qG;subst M;subst hu;exact⟨rfl,ae.agM⟩
def HH(a b:bN):o:=if bP a b then -1 else if bP b a then 1 else 0
def aDv(cf:bN->bN->o)(h:∀a b,cf a b<0↔bP a b=ai):SWO (ltOf cf) where
 irrefl x:=by unfold ltOf;simp[h,Mz]
 trans x y W h1 h2:=by unfold ltOf at*;simp only[TE,h] at*;exact MA h1 h2
 ntrans x y W h1 h2:=by unfold ltOf at*;simp only[TF,h,Bool.not_eq_true] at*;exact C2 h2 h1
instance:lF bN:=⟨(0,0)⟩
theorem agy(d:cA bN):(flatK eO 3 d).toList=d.toList.flatMap eO:=by
 apply sr;intro i;rcases tK i (d.size*3) with hi|hi;have e:i=i/3*3+i%3:=by omega
 have av:i/3<d.size:=by omega
 have U:i%3<3:=Gr _ (by decide);have ab:=EF pO d.toList (i/3) (i%3) U;rw[<-e] at ab;rw[ab];have:(flatK eO 3 d).toList[i]?=some ((flatK eO 3 d)[i]!):=by rw[Oi,JJ _ i (by simpa using hi),Og (by simpa using hi)]
 rw[this,get_flatK _ _ _ _ hi];simp[av];have h2:i%3<(eO d[i/3]).length:=by rw[pO];exact U
 grind
 rw[wx (by simpa using hi),wx (by rw[oc pO];simpa using hi)]
theorem ah7{w:ci}{cur:cA ap}{T:dC}{HW:O×O}(f:cA ap->cA ap)(h:w.heap[g]?=some (.cells cur T HW)):
  (mapBlock w g f).heap[g]?=some (.cells (f cur) T HW)/\∀b,b≠g->(mapBlock w g f).heap[b]?=w.heap[b]?:=by
 unfold mapBlock
 constructor
 simp only[ab5,x5,h,Dt,onCells]
 grind
theorem Ux{w:ci}(hw:Sub u w){cur:cA ap}{T:dC}(Z:u g=some (.cells cur T (0,0)))(n:O)(f:cA ap->cA ap)(os:cA Obj):
  Step u [] w (u.ins g (.cells (f cur) T (0,0))) [] (grow (mapBlock (wB w n) g f) os):=by
 have Mi:(wB w n).heap[g]?=some (.cells cur T (0,0)):=hw _ _ Z
 obtain⟨h1,h2⟩:=ah7 f Mi
 have dm:(mapBlock (wB w n) g f).heap.size=w.heap.size:=by simp[mapBlock,wB]
 have nc:∀b,b<w.heap.size->(grow (mapBlock (wB w n) g f) os).heap[b]?=(mapBlock (wB w n) g f).heap[b]?:=by
  intro b aa;show((mapBlock (wB w n) g f).heap++os)[b]?=_
  grind
 refine⟨λb z h=>?_,rfl,rfl,rfl,Nat.le_add_right _ _,?_,λb aa fV _=>?_,λb aa fV=>?_,[],by simp,by simp⟩
 unfold H.ins at h
 split at h
 grind
 rename_i sb
 rw[nc _ (hw.lt h),h2 b sb];exact hw b z h
 grind
 have:b≠g:=λh=>by grind
 rw[nc b aa,h2 b this];rfl
 have:b≠g:=λh=>by grind
 rw[bz _ _ this];exact fV
theorem az7{F cur:cA ap}(h:F.size<=cur.size):(putCells id 0 F cur).toList.take F.size=F.toList:=by
 apply sr;intro i;rw[Tq];split;rename_i hi;have I:i<cur.size:=by omega
 simp only[putCells,Oi,Array.getElem?_mapIdx]
 grind
 grind
def az8{F cur:cA ap}:(putCells id 0 F cur).size=cur.size:=by simp[putCells]
def aD.TX{e k:O}{xs:J ap}(h:aD ak u e k s xs){cur:cA ap}(az:s.a=some ⟨g,0,none⟩)(Z:u g=some (.cells cur e (0,0))){F:cA ap}(r6:F.size=s.n*k):
  aD ak (u.ins g (.cells (putCells id 0 F cur) e (0,0))) e k s F.toList/\hc u (u.ins g (.cells (putCells id 0 F cur) e (0,0))) s:=by
 rcases h.own.is with h0|⟨b5,aIt,Ry,cu,ag,I,ae,ht⟩
 rw[h0] at az;cases az
 rw[az] at Ry;cases Ry
 rw[Z] at cu;cases cu
 have hle:s.n*k<=s.c*k:=tO _ ag
 have hblk:s.al=some g:=by simp[N.al,az]
 refine⟨⟨⟨by simpa using r6,.inr ⟨g,_,az,bh _ _ _,ag,I,by rw[az8];exact ae,?_⟩⟩,λb z aa=>?_,h.fresh⟩,λb z aa an=>?_⟩
 rw[<-r6];exact az7 (by rw[r6,ae];exact hle)
 have:b≠g:=λe=>by rw[e,h.fresh g hblk] at aa;cases aa
 rw[bz _ _ this];exact h.le b z aa
 have:b≠g:=λe=>an (by rw[hblk,e])
 rw[bz _ _ this];exact aa
theorem aDd{cf:bN->bN->o}(h:∀a b,cf a b<0↔bP a b=ai){d:cA bN}(ae:SortedIn (ltOf cf) 0 d.size d):o7 d.toList:=by
 refine lW.2 λi j hi aP jd=>?_;have:=ae i j (pu _) jd (by simpa using aP);simp only[zE] at hi aP;rw[JJ d j aP,JJ d i hi] at this;unfold ltOf at this
 grind
theorem amU{g:j8}{cf:bN->bN->o}(h:∀a b,cf a b<0↔bP a b=ai)(oJ:∀args w,(qT g args).run aH w=.ok (.enter g args) w)
  (L4:∀a b (u:H),hD aH g #[.agg (eO a).toArray,.agg (eO b).toArray] [.one (.int .i64)] u λfA u'=>fA=cf a b/\u'=u)
  {ak u:H} {s:N} {l:J bN} (ac:aD ak u 68 3 s (l.flatMap eO)) (fX:l.length<4611686018427387904) {K:H->Prop}
  (au:∀u',aD ak u' 68 3 s ((mL l).flatMap eO)->hc u u' s->K u'):VG s (.func (.func g) #[] #[]) u K:=by
 intro w hw
 have dS:=ac.fk.len
 rcases ac.own.is with h0|⟨b,cur,az,Z,hle,I,ae,ht⟩
 subst h0
 have aq:l=[]:=by grind
 subst aq
 refine(acg Tryz.amr none 0 _ w).mono ?_
 rintro e w' ⟨rfl,rfl⟩
 exact⟨_,u,rfl,⟨[],.nil,rfl,au u ac (hc.refl _ _)⟩,Step.refl hw⟩
 have hH:HoldsK eO 3 w b 0 l.toArray:=by
  intro j aP;simp only[size_flatK,Bw] at aP;have sj:=ac.own.cK;have aq:(l.flatMap eO)[j]?=some ((flatK eO 3 l.toArray)[j]!):=by
   have:=agy l.toArray;simp only[] at this
   grind
  constructor;rcases sj.at' with h1|⟨p,ad,gf⟩;rw[h1] at aq;simp at aq;rw[az] at ad;cases ad;have:=hw.cell (gf j _ aq);rw[ib,kY] at this;simpa using this;simp[Gh,hw _ _ Z]
 have td:=AnyQ.slices_SortFunc Tryz.amr 3 (λw=>by kernel_rfl) (λw=>by kernel_rfl) eO pO (λx=>yH x) cf (aDv cf h) g #[] b 0 s.c l.toArray w oJ
  (λm os Aw _ x y=>by have:=agN (L4 x y) (sortWorldK eO 3 w b 0 m Aw os);simpa using this) hH (hw.lt Z) (by simpa using fX)
 simp only[Bw] at td
 change Calls aH 81 _ _ _ at td
 unfold vs
 rw[az,dS]
 refine td.mono ?_
 rintro e w' ⟨rfl,gO,n,os,⟨ft,_,rv⟩,mB,rfl⟩
 simp only[Bw] at ft
 have gF:gO.toList.Perm l:=by
  have aT:gO.extract 0 l.length=gO:=by rw[<-ft];simp
  have aN:l.toArray.extract 0 l.length=l.toArray:=by simp
  rw[aT,aN] at rv;simpa using rv
 have awT:o7 gO.toList:=aDd h (by rw[ft];exact mB)
 have aq:gO.toList=mL l:=Uc gF awT
 obtain⟨bR,he⟩:=ac.TX az Z (F:=flatK eO 3 gO) (by rw[size_flatK,ft,dS])
 rw[agy,aq] at bR
 exact⟨_,_,rfl,⟨[],.nil,rfl,au _ bR he⟩,Ux hw Z n _ os⟩
def encI(x:o):J ap:=[.int .i64 x]
def j4(x:o):(encI x).length=1:=rfl
def s4(x:o):∀v∈encI x,v.oneCell'=ai:=by simp[encI,cI]
def r3(l:J o):l.flatMap encI=l.map λx=>.int .i64 x:=by
 induction l with
 |nil=>rfl|cons x l aW=>simp[encI] at aW ⊢;exact aW
def aD.ints{e:O}{l:J o}(h:aD ak u e 1 s (l.flatMap encI)):Ints u s l:=by have:=h.own.cK;rw[r3] at this;exact this
def cR(l:J o):J o:=l.mergeSort λx y=>decide (x<=y)
theorem GQ{l:J o}(ac:aD ak u 3 1 s (l.flatMap encI))(fX:l.length<4611686018427387904){K:H->Prop}
  (au:∀u',aD ak u' 3 1 s ((cR l).flatMap encI)->hc u u' s->K u'):B7 s u K:=by
 intro w hw
 have dS:=ac.ints.len
 rcases ac.own.is with h0|⟨b,cur,az,Z,hle,I,ae,ht⟩
 subst h0
 have aq:l=[]:=by grind
 subst aq
 refine(AnyG.slices_Sort_int_none Tryz.amt none 0 w).mono ?_
 rintro e w' ⟨rfl,rfl⟩
 exact⟨_,u,rfl,⟨[],.nil,rfl,au u (by simpa[cR] using ac) (hc.refl _ _)⟩,Step.refl hw⟩
 have hH:Holds (cN .i64) w b 0 l.toArray:=by
  intro j aP;have kB:j<l.length:=by simpa using aP
  have aq:(l.flatMap encI)[j]?=some (.int .i64 l[j]):=by rw[r3];simp[kB]
  constructor;rcases ac.own.cK.at' with h1|⟨p,ad,gf⟩;rw[h1] at aq;simp at aq;rw[az] at ad;cases ad;have:=hw.cell (gf j _ aq);rw[ib,kY] at this
  grind
  simp[Gh,hw _ _ Z]
 have td:=AnyG.slices_Sort_int Tryz.amt b 0 s.c l w hH (hw.lt Z) fX
 change Calls aH 193 _ _ _ at td
 unfold vs
 rw[az,dS]
 refine td.mono ?_
 rintro e w' ⟨rfl,n,os,rfl⟩
 have hlen:(cR l).length=l.length:=by simp[cR]
 have ZT:putCells (cN .i64) 0 (cR l).toArray cur=putCells id 0 ((cR l).map λx=>cN .i64 x).toArray cur:=by
  unfold putCells;apply Array.ext;simp
  grind
 obtain⟨bR,he⟩:=ac.TX az Z (F:=((cR l).map λx=>cN .i64 x).toArray) (by simp[hlen,dS])
 rw[<-ZT] at bR he
 simp only[] at bR
 rw[<-r3] at bR
 exact⟨_,_,rfl,⟨[],.nil,rfl,au _ bR he⟩,Ux hw Z n _ os⟩
end
section
variable{u ak:H}{n:O}{k:o}{s:N}{P:dL}{l S:J bN}{f:j8}{x:bN}{xs:J ap}{K:N->H->Prop}{env:J (O×ap)}
theorem aqU(a b:bN)(u:H):hD aH 82 #[.agg (eO a).toArray,.agg (eO b).toArray] [.one (.int .i64)] u λfA u'=>fA=HH a b/\u'=u:=by
 refine am7 (a:=a) (b:=b) (K:=λfA u'=>fA=HH a b/\u'=u) λW h1 h2 h3 br=>⟨?_,rfl⟩;unfold HH
 grind
theorem aqQ(a b:bN):HH a b<0↔bP a b=ai:=by
 unfold HH
 grind
def ov(P:dL)(t:dC)(name:String)(f:j8)(ptr:ay):ay:=
 match P.info? t with
 |some i=>match i.methods.find? (·.name==name) with
  |some m=>match m.path.toList,m.func with
   | [],some (g,b)=>km g f && (b==ptr)|_,_=>ao
  |none=>ao
 |none=>ao
theorem Bn{t:dC}{name:String}{ptr:ay}(h:ov P t name f ptr=ai):
  ∃i m,P.info? t=some i/\i.methods.find? (·.name==name)=some m/\m.path=#[]/\m.func=some (f,ptr):=by
 unfold ov at h
 split at h
 rename_i i hi
 split at h
 rename_i m hm
 split at h
 simp_all
 cases h
 cases h
 cases h
def ayy:ov aH 146 "Len" 320 ao=ai:=by kernel_rfl
def ayz:ov aH 146 "Less" 321 ao=ai:=by kernel_rfl
def ayB:ov aH 146 "Swap" 322 ao=ai:=by kernel_rfl
def ayA:ov aH 146 "Push" 324 ai=ai:=by kernel_rfl
def aBm:q5 aH 141=some (.one .slice):=by kernel_rfl
def an4:aH.underlying 146=some (.pointer 141):=by kernel_rfl
def aDy:ku aH 141=some (68,3,24,[.int .i64 0,.int .u64 0,.int .u64 0]):=by kernel_rfl
def aqe(x y W:o):kO aH 141 1 #[(0,.agg #[.int .i64 x,.int .u64 y,.int .u64 W])]=some (68,[.int .i64 x,.int .u64 y,.int .u64 W]):=by kernel_rfl
def AD:∃k,aH.types.size+tM=k+1:=by
 have h:0<tM:=by decide
 generalize aH.types.size=a;exact⟨a+tM-1,by omega⟩
structure Cl(ak:H)(n:O)(k:o)(u:H)(l:J bN):Prop where
 ex:∃s:N,u n=some (.cells #[.int .i64 k,.slice s.a s.n s.c] 143 (0,0))/\aD ak u 68 3 s (l.flatMap eO)/\s.al≠some n
 out:ak n=none
 small:l.length<=1000000
def ah5(n:O):ap:=.iface 146 (.pointer (some ((cp n 0 none).add 1)))
def yx(n:O):(cp n 0 none).add 1=⟨n,1,none⟩:=by rw[ib]
def YP{name:String}(hm:ov aH 146 name f ao=ai)(ag:u n=some (.cells #[.int .i64 k,.slice s.a s.n s.c] 143 (0,0)))(w:ci)(hw:Sub u w):
  (method (aH.types.size+tM) 146 (.pointer (some ((cp n 0 none).add 1))) name).run aH w=.ok (f,.slice s.a s.n s.c) w:=by
 obtain⟨i,m,h1,h2,h3,br⟩:=Bn hm
 obtain⟨dY,dk⟩:=AD
 rw[dk]
 refine acI h1 h2 h3 br an4 ?_
 have I:u.cell? ((cp n 0 none).add 1)=some (.slice s.a s.n s.c):=by rw[yx];exact aZ ag 1
 have yT:=hw.cell I
 exact Jc aBm ((cp n 0 none).add 1) (vs:=[.slice s.a s.n s.c]) rfl (ach _ _ _ _ _ rfl (λj v aP=>by
  cases j with
  |zero=>simp at aP;subst aP;exact yT|succ j=>simp at aP)) (λc I=>⟨_,rfl,yT⟩)
theorem Q8{i:O}(h:l[i]?=some x):l.getD i default=x:=by grind
def aC2{i j:o}{K:ay->H->Prop}(ae:lL u s l)(i0:0<=i)(i1:i<l.length)(e9:0<=j)(kU:j<l.length)
  (h:K (bP (l.getD j.toNat default) (l.getD i.toNat default)) u):aeP s i j u K:=by
 have ag:=ae.len
 apply aHm
 obtain⟨p,ad,x,M,bA,c1,c2⟩:=ae.at e9 (show j<(s.n:o) by omega)
 obtain⟨q,aL,y,aj,d0,d1,d2⟩:=ae.at i0 (show i<(s.n:o) by omega)
 rw[Q8 M,Q8 aj] at h
 exact⟨p,ad,⟨e9,by omega⟩,q,aL,⟨i0,by omega⟩,_,bA,_,c1,_,c2,_,d0,_,d1,_,d2,Kg h⟩
theorem aC3{i j:o}{K:H->Prop}(ac:aD ak u 68 3 s (l.flatMap eO))(i0:0<=i)(i1:i<l.length)(e9:0<=j)(kU:j<l.length)
  (h:∀u',aD ak u' 68 3 s ((jZ l i.toNat j.toNat).flatMap eO)->hc u u' s->K u'):aeQ s i j u K:=by
 have ae:=ac.fk
 have ag:=ae.len
 apply aHo
 obtain⟨p,ad,x,M,bA,c1,c2⟩:=ae.at e9 (show j<(s.n:o) by omega)
 obtain⟨q,aL,y,aj,d0,d1,d2⟩:=ae.at i0 (show i<(s.n:o) by omega)
 refine⟨p,ad,⟨e9,by omega⟩,q,aL,⟨i0,by omega⟩,_,bA,_,c1,_,c2,_,d0,_,d1,_,d2,q,aL,⟨i0,by omega⟩,?_⟩
 refine aD.store (enc:=eO) pO ac (by decide) (i:=i.toNat) (by omega) (y:=x) (yH x) aL λaR jl yV _=>⟨p,ad,⟨e9,by omega⟩,?_⟩
 refine aD.store (enc:=eO) pO jl (by decide) (i:=j.toNat) (by simp;omega) (y:=y) (yH y) ad λcF dt jy _=>h cF ?_ (λb z aa an=>jy b z (yV b z aa an) an)
 have ey:i.toNat<l.length:=by omega
 have kC:j.toNat<l.length:=by omega
 have ex:l[j.toNat]=x:=by grind
 have r2:l[i.toNat]=y:=by grind
 rw[GX ey kC,ex,r2]
 exact dt
def hs(h:hy P f=ai):∃fn,P.funcs[f]?=some fn/\fn.body.isSome=ai:=ahB h
def apT:hy aH 320=ai:=by kernel_rfl
def apU:hy aH 321=ai:=by kernel_rfl
def apY:hy aH 322=ai:=by kernel_rfl
def apW:hy aH 324=ai:=by kernel_rfl
def Cl.set{u':H}{bH:J bN}(h:Cl ak n k u l)(ag:u n=some (.cells #[.int .i64 k,.slice s.a s.n s.c] 143 (0,0)))(ae:s.al≠some n)
  (ac:aD ak u' 68 3 s (bH.flatMap eO)) (he:hc u u' s) (aq:bH.length=l.length):Cl ak n k u' bH:=
 ⟨⟨s,he _ _ ag ae,ac,ae⟩,h.out,by rw[aq];exact h.small⟩
def anK(ak:H)(n:O)(k:o):vA (ah5 n) (Cl ak n k) (λa b=>bP b a) where
 len:=by intro u l K h au;obtain⟨s,ag,ac,_⟩:=h.ex;refine⟨_,_,_,_,rfl,λw hw=>YP ayy ag w hw,hs apT,aHl s u K ?_⟩;rw[ac.fk.len];exact au
 less:=by intro u l i j K h i0 i1 e9 kU au;obtain⟨s,ag,ac,_⟩:=h.ex;exact⟨_,_,_,_,rfl,λw hw=>YP ayz ag w hw,hs apU,aC2 ac.fk i0 i1 e9 kU au⟩
 swap:=by intro u l i j K h i0 i1 e9 kU au;obtain⟨s,ag,ac,an⟩:=h.ex;exact⟨_,_,_,_,rfl,λw hw=>YP ayB ag w hw,hs apY,aC3 ac i0 i1 e9 kU λu' bR he=>au u' (h.set ag an bR he (qj _ _ _))⟩
 small:=λh=>by have:=h.small;omega
def YO:o5 (λa b:bN=>bP b a) where
 asymm:=λa b h=>Fh h
 trans:=λa b c h k=>C2 k h
def apF(h:bN)(w:ci):(so (.iface 68 (.agg #[.int .i64 h.1,.int .u64 (cQ h.2),.int .u64 (cS h.2)])) 20 68 ai).run aH w=
  .ok (.tuple #[.agg #[.int .i64 h.1,.int .u64 (cQ h.2),.int .u64 (cS h.2)],.bool ai]) w:=by kernel_rfl
theorem aun{K:H->Prop}(h:Cl ak n k u l)(aq:l.length<1000000)(au:∀u',Cl ak n k u' (l++ [x])->K u'):
  nv aH (ah5 n) "Push" #[.iface 68 (.agg #[.int .i64 x.1,.int .u64 (cQ x.2),.int .u64 (cS x.2)])] [] u K:=by
 obtain⟨s,ag,ac,an⟩:=h.ex
 obtain⟨i,m,h1,h2,h3,br⟩:=Bn ayA
 obtain⟨dY,dk⟩:=AD
 refine⟨_,_,_,_,rfl,λw _=>by rw[dk];exact J1 h1 h2 h3 br an4,hs apW,?_⟩
 refine aHn (some ((cp n 0 none).add 1)) _ u K ?_
 refine c7.pure [.int .i64 x.1,.int .u64 (cQ x.2),.int .u64 (cS x.2),.bool ai] (λw _=>?_) (.cons (t:=.int .i64) _ (.cons (t:=.int .u64) _ (.cons (t:=.int .u64) _ (.cons (t:=.bool) _ .nil)))) ?_
 exact apF x w
 refine⟨λ_=>⟨_,rfl,s,by rw[yx];exact aZ ag 1,?_⟩,λaa=>by cases aa⟩
 refine zT aDy (aqe _ _ _) (by decide) rfl (by simp[cI]) ac (by have:=ac.fk.len;omega) (by have:=ac.fk.len;omega) λar u' bR hY he hblk _=>⟨_,rfl,?_⟩
 have fK:=he _ _ ag an
 have kS:ar.al≠some n:=λe=>by
  grind
 rw[yx]
 refine⟨_,_,fK,rfl,by simp,by simp[cI],au _ ⟨⟨ar,bh _ _ _,⟨?_,?_,bR.fresh⟩,kS⟩,h.out,by simp;omega⟩⟩
 rw[Xx] at bR
 exact bR.own.le λb z aa cC=>by rw[bz _ _ (λe=>kS (by rw[aa,e]))];exact cC
 intro b z aa
 rw[bz _ _ (λe=>by rw[e,h.out] at aa;cases aa)]
 exact bR.le b z aa
theorem acV{t e:dC}{size bytes:O}{zs:J ap}(aV:ku P t=some (e,size,bytes,zs))(cH:kO P t 0 #[]=some (e,[]))(dm:0<size)
  (ae:bw u s size xs) (h1:∀y∈xs,y.oneCell'=ai) (aa:s.n*bytes<=140737488355328) {K:N->H->Prop} (au:∀ar u',aD u u' e size ar xs->ar.n=s.n->K ar u'):
  c7 P (dA t 0 #[]) [.one .slice] u λs0 aR=>c7 P (dO #[t,t] t #[.slice s0.a s0.n s0.c,.slice s.a s.n s.c]) [.one .slice] aR K:=by
 refine mK cH λg Z=>?_
 have h0:=aD.make (k:=size) (H.le.refl u) Z (cells:=#[]) (e:=e) (n:=0) (by omega) (by simp)
 have tk:=jW ae.cap ae.max
 refine acT aV dm h0.own (ae.mono (bX _ Z)) h1 (by grind) (by simpa using aa) λar u' ac ag nc _=>au ar u' ⟨by simpa using ac,nc.le h0.le h0.fresh,λb5 cu=>nc.out h0.le h0.fresh b5 cu⟩ (by simpa using ag)
theorem acS{size:O}(h:bw u s size xs)(ag:s.a=none):xs=[]:=by
 rcases h.at' with h|⟨p,ad,_⟩;exact h
 grind
def aqf:kO aH 38 0 #[]=some (68,[]):=by kernel_rfl
def aqh:kO aH 30 0 #[]=some (3,[]):=by kernel_rfl
def aCh(ae:lL u s l)(aa:s.n<=1099511627776)(au:∀ar u',aD u u' 68 3 ar (l.flatMap eO)->ar.n=s.n->K ar u'):Vy s u K:=by
 apply aF0;refine⟨λag=>?_,λ_=>acV UB aqf (by decide) ae ?_ (by omega) au⟩;have aq:=acS ae ag;have iR:s.n=0:=by have:=bw.len ae;rw[aq] at this;simp at this;omega
 refine au _ _ ?_ iR.symm;rw[aq];exact aD.nil (H.le.refl u) _ _;intro y aj;obtain⟨h,_,aj⟩:=eA.1 aj;exact yH h y aj
def sI{l:J o}(ae:Ints u s l)(aa:s.n<=1099511627776)(au:∀ar u',aD u u' 3 1 ar (l.flatMap encI)->ar.n=s.n->K ar u'):o3 s u K:=by
 have fS:bw u s 1 (l.flatMap encI):=by rw[r3];exact ae
 apply aFZ;refine⟨λag=>?_,λ_=>acV kK aqh (by decide) fS ?_ (by omega) au⟩;have aq:=acS fS ag;have iR:s.n=0:=by have:=bw.len fS;rw[aq] at this;simp at this;omega
 refine au _ _ ?_ iR.symm;rw[aq];exact aD.nil (H.le.refl u) _ _;intro y aj;obtain⟨h,_,aj⟩:=eA.1 aj;exact s4 h y aj
def jb(ak:H)(n:O)(k:o)(u:H)(S:J bN):Prop:=∃l,Cl ak n k u l/\iJ (λa b=>bP b a) l.length l/\l.Perm (e1 k.toNat S)
def jb.le(h:jb ak n k u S):ak.le u:=by obtain⟨l,h,_,_⟩:=h;obtain⟨s,_,ac,_⟩:=h.ex;exact ac.le
def jb.mono{u':H}(h:jb ak n k u S)(hu:u.le u'):jb ak n k u' S:=by obtain⟨l,h,h2,h3⟩:=h;obtain⟨s,ag,ac,an⟩:=h.ex;exact⟨l,⟨⟨s,hu _ _ ag,ac.mono hu,an⟩,h.out,h.small⟩,h2,h3⟩
theorem jb.mI(h:jb ak n k u S){m:O}(hm:u m=none)(z:Obj):jb (ak.ins m z) n k (u.ins m z) S:=by
 obtain⟨l,h,h2,h3⟩:=h;obtain⟨s,ag,ac,an⟩:=h.ex;have rq:n≠m:=λe=>by grind
 exact⟨l,⟨⟨s,by rw[bz _ _ rq];exact ag,ac.mI hm z,an⟩,by rw[bz _ _ rq];exact h.out,h.small⟩,h2,h3⟩
theorem aD.xO{e k:O}(h:aD ak u e k s xs){D:O}(fe:ak D=none)(aa:s.al≠some D)(z:Obj):aD ak (u.ins D z) e k s xs:=by refine⟨h.own.le λb x M pj=>?_,λb x M=>?_,h.fresh⟩;rw[bz _ _ (λe=>aa (by rw[M,e]))];exact pj;rw[bz _ _ (λe=>by grind)];exact h.le b x M
def jb.perm{T:J bN}(h:jb ak n k u S)(ad:S.Perm T):jb ak n k u T:=by obtain⟨l,h1,h2,h3⟩:=h;exact⟨l,h1,h2,by rw[<-DS ad];exact h3⟩
def Pf{K:aA a8->o->H->Prop}(dq:k<1∨64<k->K none 1 u)(bM:1<=k->k<=64->∀n u',u.le u'->u n=none->jb u n k u' []->K (some ⟨n,0,none⟩) 0 u'):D6 k u K:=by apply aHj;refine⟨λh=>dq (.inl h),λh=>⟨λh2=>dq (.inr h2),λh2 n ag=>bM (by omega) (by omega) n _ (bX _ ag) ag ?_⟩⟩;refine⟨[],⟨⟨⟨none,0,0⟩,bh _ _ _,aD.nil (bX _ ag) _ _,by simp[N.al]⟩,ag,by simp⟩,λi _ hi=>by simp at hi,?_⟩;simp[e1,mL]
theorem Pe{K:ay->H->Prop}(h:jb ak n k u S)(cB:1<=k)(cW:k<=64)(au:∀b u',jb ak n k u' (x::S)->K b u'):
  Ad (some ⟨n,0,none⟩) x.1 (cQ x.2) (cS x.2) u K:=by
 obtain⟨l,c6,cb,ad⟩:=h
 obtain⟨s,ag,ac,an⟩:=c6.ex
 have hlen:=ad.length_eq
 rw[zX] at hlen
 have dS:=ac.fk.len
 apply aHg
 have iO:u.cell? ((cp n 0 none).add 1)=some (.slice s.a s.n s.c):=by rw[yx];exact aZ ag 1
 refine⟨λM=>(by cases M),λ_=>⟨_,rfl,_,rfl,s,iO,k,aZ ag 0,λMx=>⟨_,rfl,?_⟩,λhF=>?_⟩⟩
 refine amA (anK ak n k) YO (y:=x) cb (λl7=>aun c6 (by omega) l7) λu' bH fS fL nI=>au ai u' ⟨bH,fS,nI,?_⟩
 have bb:S.length<k.toNat:=by omega
 obtain⟨t1,t2⟩:=aDW (x:=x) bb
 grind
 have hk:l.length=k.toNat:=by omega
 have bb:k.toNat<=S.length:=by omega
 obtain⟨p,ft,r,U,bA,c1,c2⟩:=ac.fk.at (x:=0) (by omega) (by omega)
 obtain⟨t,rfl⟩:∃t,l=r::t:=by
  cases l with
  |nil=>simp at U|cons a t=>grind
 have lf:∀y∈r::t,bP r y=ao:=by intro y aj;obtain⟨i,hi,rfl⟩:=pv.1 aj;have:=iJ.root YO cb i hi;simpa[jX,dj hi] using this
 refine⟨_,rfl,s,iO,p,ft,⟨by omega,by omega⟩,_,bA,_,c1,_,c2,Kg ⟨λaa=>au ao u ⟨r::t,c6,cb,?_⟩,λaa=>⟨_,rfl,s,iO,p,ft,⟨by omega,by omega⟩,?_⟩⟩⟩
 rw[adM bb λy aj=>C2 (lf y (ad.mem_iff.2 aj)) (by simpa using aa)]
 exact ad
 refine aD.store (enc:=eO) pO ac (by decide) (i:=0) (by simp) (y:=x) (yH x) ft λaR jl yV _=>⟨_,rfl,?_⟩
 have awU:Cl ak n k aR ((r::t).set 0 x):=c6.set ag an jl yV (by simp)
 refine aBU (anK ak n k) YO awU (by simp) (by simpa using cb.aq6 (cw _) x) λu' bH fS fL nI=>au ai u' ⟨bH,fS,nI,?_⟩
 exact fL.trans (aDS ad lf aa (by rw[zX];omega))
def Kf(h:jb ak n k u S)(au:∀ar u',aD u u' 68 3 ar ((e1 k.toNat S).flatMap eO)->K ar u'):
  B9 (some ⟨n,0,none⟩) u K:=by
 obtain⟨l,c6,cb,ad⟩:=h
 obtain⟨s,ag,ac,an⟩:=c6.ex
 have fX:=c6.small
 have dS:=ac.fk.len
 apply aHf
 have iO:u.cell? ((cp n 0 none).add 1)=some (.slice s.a s.n s.c):=by rw[yx];exact aZ ag 1
 refine⟨λM=>(by cases M),λ_=>⟨_,rfl,s,iO,aCh ac.fk (by omega) λar u' bR _=>?_⟩⟩
 refine amU (cf:=HH) aqQ (enters_of func82 (by kernel_rfl) rfl) aqU bR (by omega) λcF dt _=>au ar cF ?_
 rw[amq ad] at dt
 rw[<-Uc (.refl _) (UG _ _)] at dt
 exact dt
open Go.RowKit
def NV(z:eH):ay:=match z.op with
 | .defer _=>ao|_=>ai
def nm:iW->ay
 | .skip=>ai| .seq a b=>nm a && nm b| .cond _ a b=>nm a && nm b| .block _ b=>nm b| .region _ ops _=>ops.toList.all NV|_=>ao
def azk{z:eH}(h:NV z=ai):∀c,z.op≠.defer c:=λc I=>by unfold NV at h;rw[I] at h;cases h
theorem aHY{ops:cA eH}{Q:kX->ek->ci->Prop}(av:∀z∈ops.toList,NV z=ai)(fj:¬LetsOut Q)(ro:aA O):∀(gi:O) (listed:cA ay) (a:ek) (w:ci),
  wpAny P .any ops Q gi listed a w->wpAnyIn (Fr ro) 0 P .any ops Q gi listed a w:=by
 intro gi
 induction gi with
 |zero=>intro listed a w h;exact h
 |succ gi aW=>
  intro listed a w h;refine⟨h.1,λi hi=>?_⟩;have h2:=h.2 i hi;unfold wpOp at h2;unfold wpOpIn;cases ac:ops[i]? with
  |none=>rw[ac] at h2;exact aW _ _ _ h2|some z=>rw[ac] at h2;simp only at h2 ⊢;split at h2;rename_i hw;rw[b3 hw];rcases h2 with h3|h3;exact Go.Oper.wpIn_mono (λa w h=>aW _ _ _ h) (wV ro (.inr (azk (av z (by grind)))) h3);exact bf h3.2 fj;rename_i hw;rw[bF hw];exact⟨λ_ _=>trivial,aW _ _ _ h2⟩
section
variable {C:lq} {bC:O->ay} {s:aM} {u:H} {bs:J O} {a:ek} {w:ci}
set_option maxHeartbeats 1000000 in
theorem QL(fP:Good C)(ro:aA O):∀(c:iW),nm c=ai->∀(p:O) (bC:O->ay) (Q:kX->aM->H->Prop) (s:aM) (u:H),hr C [] c p bC Q s u->
  ∀(bs:J O) (a:ek) (w:ci),Fits s bs u a w->c.wpIn (Fr ro) 0 C.P (mQ bC s bs u a w (fI c) Q) a w:=by
 intro c
 induction c with
 |skip=>intro _ p bC Q s u h bs a w ab;exact wpIn_skip ⟨λ_=>rN,s,u,bs,h,ab,Step.refl ab.sub,Kept.refl _ _,λ_ _=>rfl⟩
 |region id ops bl=>
  intro lz p bC Q s u h bs a w ab;cases bl with
  |true=>
   simp only[nm,Oc] at lz;simp only[hr] at h;split at h;rename_i oR;have CU:Fits s bs u a {w with drawn:=w.drawn+1}:=⟨ab.toFitsE,ab.len,ab.loc,ab.nodup,ab.cy,ab.sub⟩;have hR:yr ops (Dv ops.size ao):=by
    intro j z _ aP;have:(Dv ops.size ao).getD j ao=ao:=by rw[JB,Array.getElem?_replicate];split<;>rfl
    rw[this] at aP;cases aP
   have te:Cb bC s bs u a {w with drawn:=w.drawn+1} (gT (fI (.region id ops ai))) (Q .normal) (λcT w'=>sA=.normal/\mQ bC s bs u a w (fI (.region id ops ai)) Q .normal cT w'):=by intro ar u' da cT w' hk df ae iE az;exact⟨rfl,λ_=>rN,ar,u',da,hk,df,(Step.QT ab.sub (Bv _)).trans ae,iE,az⟩
   have ch:(Code.region id ops ai).wpIn (Fr ro) 0 C.P (λe cT w'=>e=.normal/\mQ bC s bs u a w (fI (.region id ops ai)) Q .normal cT w') a w:=by refine wpIn_region_any fP.mixed (aHY lz (λaq=>by obtain⟨_,_,h,_⟩:=aq;exact rN h) ro _ _ _ _ ?_);split at h;refine aea (nd:=rG ops) (S:=jK s.loc bs u) _ _ _ _ ?_;exact af7 fP (ds:=gT (fI (.region id ops ai))) (gJ:=s.loc) (gl:=bs) oR (λc a w ad=>rN ad.1) (λz ac d av=>HL ac av) _ _ _ s u h bs a _ _ CU hR (by unfold left;simp) (λ_=>⟨H.le.refl u,rfl,rfl⟩) ⟨[],by simp⟩ te;obtain⟨v0,y3,h⟩:=h;refine aeb (R:=o6 ops s.loc bs v0 u) _ _ _ _ ?_;exact af6 fP (ds:=gT (fI (.region id ops ai))) (gJ:=s.loc) (gl:=bs) y3 oR (λc a w ad=>rN ad.1) (λz ac d av=>HL ac av) _ _ _ s u h bs a _ _ CU hR (by unfold left;simp) (λ_=>⟨H.le.refl u,rfl,rfl⟩) ⟨[],by simp⟩ te
   exact ya ch λe cT w' ⟨h1,h2⟩=>by rw[h1];exact h2
   exact h.elim
  |false=>
   simp only[nm,Oc] at lz;simp only[hr] at h;refine wpIn_region_list (amg fP ro (ds:=gT (fI (.region id ops ao))) ops.toList s u bs a w h ab (.inr λz ac c I=>?_) (λz ac d av=>HL ac av) ?_);have:=lz z ac;unfold NV at this
   grind
   intro ar u' da cT w' hk df ae iE az;exact⟨λ_=>rN,ar,u',da,hk,df,ae,iE,az⟩
 |seq x y we wg=>
  intro lz p bC Q s u h bs a w ab;have nH:∀d,gT (fI (.seq x y)) d=ao->gT (fI x) d=ao:=λd h=>by simp only[fI,Dk,zD] at h;exact h.1
  have yU:∀d,gT (fI (.seq x y)) d=ao->gT (fI y) d=ao:=λd h=>by simp only[fI,Dk,zD] at h;exact h.2
  simp only[nm,oV] at lz;simp only[hr,Qv] at h;refine wpIn_seq (On ?_ (we lz.1 _ _ _ s u h bs a w ab));intro e cT w' ad;obtain⟨an,ar,u',da,aL,df,ae,hk,az⟩:=ad;cases e with
  |normal=>refine On ?_ (wg lz.2 _ _ _ ar u' aL da cT w' df);intro aN a2 dF eX;exact mQ.next ae hk (λd av=>az d (nH d av)) (eX.mono yU)
  |exit id=>exact⟨an,ar,u',da,aL,df,ae,hk,λd av=>az d (nH d av)⟩|goto l=>exact⟨an,ar,u',da,aL,df,ae,hk,λd av=>az d (nH d av)⟩|ret=>exact⟨an,ar,u',da,aL,df,ae,hk,λd av=>az d (nH d av)⟩|panic c=>exact bf rfl (an c)|outgrown=>exact⟨an,ar,u',da,aL,df,ae,hk,λd av=>az d (nH d av)⟩
 |cond c x y we wg=>
  intro lz p bC Q s u h bs a w ab;simp only[nm,oV] at lz;have nH:∀d,gT (fI (.cond c x y)) d=ao->gT (fI x) d=ao:=λd h=>by simp only[fI,Dk,zD] at h;exact h.1
  have yU:∀d,gT (fI (.cond c x y)) d=ao->gT (fI y) d=ao:=λd h=>by simp only[fI,Dk,zD] at h;exact h.2
  have M:∀(st:aM),a.eval c=.bool ai->Fits st bs u a w->(st.loc=s.loc/\st.n=s.n)->hr C [] x (2*p) bC Q st u->(Code.cond c x y).wpIn (Fr ro) 0 C.P (mQ bC s bs u a w (fI (.cond c x y)) Q) a w:=by intro st I E3 dS hw;refine wpIn_cond_true I (On ?_ (we lz.1 _ _ _ st u hw bs a w E3));intro e cT w' ad;exact mQ.next (Step.refl ab.sub) ⟨dS.2,by grind,λi cs e _=>by rw[dS.1];exact e⟩ (λ_ _=>rfl) (ad.mono nH)
  have aj:∀(st:aM),a.eval c=.bool ao->Fits st bs u a w->(st.loc=s.loc/\st.n=s.n)->hr C [] y (2*p+1) bC Q st u->(Code.cond c x y).wpIn (Fr ro) 0 C.P (mQ bC s bs u a w (fI (.cond c x y)) Q) a w:=by intro st I E3 dS hw;refine wpIn_cond_false I (On ?_ (wg lz.2 _ _ _ st u hw bs a w E3));intro e cT w' ad;exact mQ.next (Step.refl ab.sub) ⟨dS.2,by grind,λi cs e _=>by rw[dS.1];exact e⟩ (λ_ _=>rfl) (ad.mono yU)
  have iS:∀v,s.sv c=some v->∀t,c=.tmp t->(look s.env t).isSome=ai:=λv aB t ht=>by subst ht;simp only[aM.sv] at aB;rw[aB];rfl
  simp only[hr] at h;split at h;rename_i I;exact M s (eh (ab.sv I)).symm ab ⟨rfl,rfl⟩ h;rename_i I;exact aj s (eh (ab.sv I)).symm ab ⟨rfl,rfl⟩ h;rename_i q d I;have fr:=(eh (ab.sv I)).symm;by_cases aL:q;have aT:a.eval c=.bool ai:=by rw[fr];simp[aL]
  obtain⟨h1,h2⟩:=wR (x:=.iy) ab (by rw[aT];rfl) (iS _ I);exact M _ aT h1 h2 (h.1 aL);have aT:a.eval c=.bool ao:=by rw[fr];simp[aL]
  obtain⟨h1,h2⟩:=wR (x:=.kh) ab (by rw[aT];rfl) (iS _ I);exact aj _ aT h1 h2 (h.2 aL);rename_i q d I;have fr:=(eh (ab.sv I)).symm;by_cases aL:q;have aT:a.eval c=.bool ao:=by rw[fr];simp[aL]
  obtain⟨h1,h2⟩:=wR (x:=.kh) ab (by rw[aT];rfl) (iS _ I);exact aj _ aT h1 h2 (h.2 aL);have aT:a.eval c=.bool ai:=by rw[fr];simp[aL]
  obtain⟨h1,h2⟩:=wR (x:=.iy) ab (by rw[aT];rfl) (iS _ I);exact M _ aT h1 h2 (h.1 aL);rename_i b I;have fr:=(eh (ab.sv I)).symm;cases b with
  |true=>obtain⟨h1,h2⟩:=wR (x:=.iy) ab (by rw[fr];rfl) (iS _ I);exact M _ fr h1 h2 (h.1 rfl)
  |false=>obtain⟨h1,h2⟩:=wR (x:=.kh) ab (by rw[fr];rfl) (iS _ I);exact aj _ fr h1 h2 (h.2 rfl)
  exact h.elim
 |block id b aW=>
  intro lz p bC Q s u h bs a w ab;simp only[nm] at lz;simp only[hr] at h;refine wpIn_block (On ?_ (aW lz _ _ _ s u h bs a w ab));intro e cT w' ad;obtain⟨an,ar,u',da,aL,df,ae,hk,az⟩:=ad;cases e with
  |exit j=>simp only at aL;simp only[Exit.inBlock];split at aL;rename_i aP;have:=sq aP;subst this;rw[b3 rfl];exact⟨λ_=>rN,ar,u',da,aL,df,ae,hk,az⟩;rename_i aP;rw[bF (λe=>by simp_all)];exact⟨an,ar,u',da,aL,df,ae,hk,az⟩|normal=>exact⟨an,ar,u',da,aL,df,ae,hk,az⟩|goto l=>exact⟨an,ar,u',da,aL,df,ae,hk,az⟩|ret=>exact⟨an,ar,u',da,aL,df,ae,hk,az⟩|panic c=>exact bf rfl (an c)|outgrown=>exact⟨an,ar,u',da,aL,df,ae,hk,az⟩
 |label l=>intro h;simp[nm] at h
 |ret=>intro h;simp[nm] at h
 |exit id=>intro h;simp[nm] at h
 |goto l=>intro h;simp[nm] at h
 |refuse r=>intro h;simp[nm] at h
 |rangeFunc f c9 x y=>intro h;simp[nm] at h
 |scope b aW=>intro h;simp[nm] at h
 |loop b aW=>intro h;simp[nm] at h
end
def Iter{α:Type}(P:dL)(fv:ap)(enc:α->ap)(xs:J α)(u:H):Prop:=
 ∀(mO:ap) (cZ:O->H->Prop),(∀i v,cZ i v->u.le v)->
  (∀i y v (K:ay->H->Prop),xs[i]?=some y->cZ i v->(∀b9,cZ (i+1) b9->K ai b9)->Ae P mO #[enc y] [.one .bool] v K)->
  ∀v (K:H->Prop),cZ 0 v->(∀b9,cZ xs.length b9->K b9)->h6 P fv #[mO] [] v K
def Cj(P:dL)(n:O)(assign body:iW)(env:J (O×ap))(x:O)(y:ap)(v:H)(cZ:H->Prop):Prop:=
 ∀l a w,a.tmps.size=n->(∀p∈env,p.1≠x->a.tmps[p.1]?=some p.2)->a.tmps[x]?=some y->a.defers=[]->Sub v w->
  assign.wpIn (Fr (some l)) 0 P (Exit.then (λY e5=>∃v1,Step v [] w v1 [] e5/\∀dF,Sub v1 dF->
   body.wpIn (Fr (some l)) 0 P (λe _ hh=>e=.normal/\∃v2,cZ v2/\Step v1 [] dF v2 [] hh) Y dF) (λ_ _ _=>eg)) a w
theorem H.I2{v:H}(h:u.le v)(b:O)(z:Obj):(u.ins b z).le (v.ins b z):=by
 intro x y e;unfold H.ins at e ⊢;split at e
 grind
 rename_i M;rw[bF M];exact h x y e
theorem nB.intro{α:Type}{t x:O}{assign body:iW}{K:O->H->Prop}{enc:α->ap}{xs:J α}{fv:ap}{ub:H}(cC:ub.le u)
  (ab:∀f args w,(∃fn,P.funcs[f]?=some fn/\fn.body.isSome=ai)->(qT f args).run P w=.ok (.enter f args) w) (Z:(t,fv)∈env) (M:x<n)
  (fs:∀ak,ub.le ak->Iter P fv enc xs ak) (cZ:O->H->Prop) (h0:cZ 0 u) (hle:∀i v,cZ i v->ub.le v)
  (L1:∀i y v,xs[i]?=some y->cZ i v->Cj P n assign body env x (enc y) v (cZ (i+1)))
  (au:∀v D,cZ xs.length v->v D=none->K D (v.ins D (.deferred (some [])))):nB P (.rangeFunc (.tmp t) #[x] assign body) n env u K:=by
 intro a w dm xn L6 gR
 refine(Ol (n:=0)).1 (wpIn_rangeFunc ?_)
 intro fn _
 have fr:a.eval (.tmp t)=fv:=by simp only[Act.eval];rw[JB,xn _ Z];rfl
 obtain⟨rec,ng⟩:∃rec:LoopState->Loop,rec=λst=>{state:=st,pending:=none,fn,tmps:=a.tmps,params:=#[x],assign,body,defers:=w.heap.size}:=⟨_,rfl⟩
 obtain⟨jh,j5⟩:∃jh,(w.alloc (.deferred (some []))).alloc (.loop (rec .ready))=jh:=⟨_,rfl⟩
 have ajz:jh.heap.size=w.heap.size+2:=by rw[<-j5];simp
 have ahj:jh.heap[w.heap.size+1]?=some (.loop (rec .ready)):=by rw[<-j5];have:=JK (w.alloc (.deferred (some []))) (.loop (rec .ready));simp_all
 have EN:jh.heap[w.heap.size]?=some (.deferred (some [])):=by rw[<-j5];exact(Below.heap_alloc _ _ _ (by simp)).trans (JK w _)
 have hold:∀b,b<w.heap.size->jh.heap[b]?=w.heap[b]?:=λb aa=>by rw[<-j5];exact(Below.heap_alloc _ _ _ (by simp;omega)).trans (Below.heap_alloc _ _ _ aa)
 have xw:u (w.heap.size+1)=none:=gR.none (by omega)
 have xg:u w.heap.size=none:=gR.none (cw _)
 have Mt:ub (w.heap.size+1)=none:=by
  cases M:ub (w.heap.size+1) with
  |none=>rfl|some z=>rw[cC _ _ M] at xw;cases xw
 have Nq:ub.le (ub.ins (w.heap.size+1) (.loop (rec .ready))):=bX _ Mt
 have Nd:Sub (u.ins (w.heap.size+1) (.loop (rec .ready))) jh:=by
  intro b z aa;unfold H.ins at aa;split at aa
  grind
  have:=gR b z aa
  grind
 have hR:=fs _ Nq (.func (.yield (w.heap.size+1)) #[] #[])
  (λi v=>∃v0,v=v0.ins (w.heap.size+1) (.loop (rec .ready))/\v0 (w.heap.size+1)=none/\v0 w.heap.size=none/\cZ i v0)
  (λi v ⟨v0,aB,_,_,aP⟩=>by rw[aB];exact H.I2 (hle i v0 aP) _ _)
  (by
   rintro i y v fB aj ⟨v0,rfl,pW,uw,aP⟩ l7;refine⟨_,rfl,λbJ hQ=>?_⟩;have xt:bJ.heap[w.heap.size+1]?=some (.loop (rec .ready)):=hQ _ _ (bh _ _ _);have bP:w.heap.size+1<bJ.heap.size:=(x6.1 xt).1;have om:(Instr.yield (w.heap.size+1) #[enc y]).run P bJ=.ok (.round (w.heap.size+1) fn (a.tmps.setIfInBounds x (enc y)) assign body) bJ:=by have:=run_yield (P:=P) (args:=#[enc y]) xt (by rw[ng];rfl);rw[ng] at this;simpa using this
   have Nf:Sub v0 bJ:=hQ.mono (bX _ pW);refine⟨fn,_,assign,body,om,aci trivial ?_⟩;refine ya (L1 i y v0 aj aP (w.heap.size+1) _ bJ ?_ ?_ ?_ rfl Nf) ?_;simpa using dm
   grind
   grind
   intro e Y e5 ad;cases e with
   |normal=>
    obtain⟨v1,ea,aa⟩:=ad;have C0:e5.heap[w.heap.size+1]?=some (.loop (rec .ready)):=(ea.rest _ bP pW (by simp)).trans xt;have xv:w.heap.size+1<e5.heap.size:=(x6.1 C0).1;have hX:v1 (w.heap.size+1)=none:=ea.jB _ bP pW;have AI:v1 w.heap.size=none:=ea.jB _ (by omega) uw;refine⟨_,run_beginRound C0 (by rw[ng]),ya (aa _ ?_) ?_⟩;intro b z jj;have an:b≠w.heap.size+1:=λe=>by grind
    exact(mE an).trans (ea.sub b z jj);rintro e a2 hh ⟨rfl,v2,rm,dJ⟩;have Ms:(e5.putObj (w.heap.size+1) (.loop {rec .ready with state:=.busy})).heap[w.heap.size+1]?=some (.loop {rec .ready with state:=.busy}):=Gm xv;have ti:hh.heap[w.heap.size+1]?=some (.loop {rec .ready with state:=.busy}):=(dJ.rest _ (by simpa using xv) hX (by simp)).trans Ms;have My:w.heap.size+1<hh.heap.size:=(x6.1 ti).1;have iR:v2 (w.heap.size+1)=none:=dJ.jB _ (by simpa using xv) hX;have pS:=run_endRound (P:=P) none ti;have Lq:({{rec .ready with state:=TG} with state:=if(none:aA iW).isNone then .ready else .done,pending:=none}:Loop)=rec .ready:=by rw[ng];rfl
    rw[Lq] at pS;refine⟨_,_,pS,.bool ai,v2.ins (w.heap.size+1) (.loop (rec .ready)),rfl,⟨[.bool ai],.cons (t:=.bool) ai .nil,rfl,?_⟩,?_⟩;exact l7 _ ⟨v2,rfl,iR,dJ.jB _ (by grind) AI,rm⟩;refine⟨λb z jj=>?_,dJ.os.trans ea.os,dJ.tape.trans ea.tape,dJ.output.trans ea.output,jW ea.drawn dJ.drawn,?_,λb aa fV _=>?_,λb aa fV=>?_,[],by simp,by simp⟩;unfold H.ins at jj;split at jj;rename_i fC;subst fC;cases jj;exact Gm My;rename_i fC;rw[mE fC];exact dJ.sub b z jj;have h1:=ea.size;have h2:=dJ.size;simp at h2 ⊢;omega;have an:b≠w.heap.size+1:=λe=>by rw[e,bh] at fV;cases fV
    rw[bz _ _ an] at fV;have j6:b<e5.heap.size:=Ju aa ea.size;rw[mE an,dJ.rest b (by simpa using j6) (ea.jB b aa fV) (by simp),mE an];exact ea.rest b aa fV (by simp);have an:b≠w.heap.size+1:=λe=>by rw[e,bh] at fV;cases fV
    rw[bz _ _ an] at fV ⊢;exact dJ.jB b (by have:=ea.size;simp;omega) (ea.jB b aa fV)
   |_=>exact ad.elim)
  _ (λb9=>∃v0,b9=v0.ins (w.heap.size+1) (.loop (rec .ready))/\v0 (w.heap.size+1)=none/\v0 w.heap.size=none/\cZ xs.length v0) ⟨u,rfl,xw,xg,h0⟩ (λ_ h=>h)
 obtain⟨xc,CK,cap,E4,xi,hR⟩:=hR
 rw[E4] at fr
 refine⟨w.heap.size+1,[{target:=.collected w.heap.size,args:=#[]}],jh,{target:=.fn (.func xc) cap,args:=CK++ #[.func (.yield (w.heap.size+1)) #[] #[]]},jh,xc,
  CK++ #[.func (.yield (w.heap.size+1)) #[] #[]]++cap,jh,?_,?_,λ_ _=>trivial,?_,λh=>by simp[vg] at h,?_⟩
 rw[<-j5,ng];exact acj _ _ _ _ _
 simp only[resolve,fr]
 simp[go_sem]
 simp[invoke,go_sem,ab xc _ _ xi]
 refine Oj.2 ((hR jh Nd).mono ?_)
 rintro e hh ⟨v,u',rfl,⟨vs,hk,rfl,I⟩,ae⟩
 cases hk
 obtain⟨v0,rfl,pW,uw,aP⟩:∃v0:H,u'=v0.ins (w.heap.size+1) (.loop (rec .ready))/\v0 (w.heap.size+1)=none/\v0 w.heap.size=none/\cZ xs.length v0:=I
 have ti:hh.heap[w.heap.size+1]?=some (.loop (rec .ready)):=ae.sub _ _ (bh _ _ _)
 have LI:hh.heap[w.heap.size]?=some (.deferred (some [])):=by rw[ae.rest _ (by omega) (by rw[bz _ _ (by omega)];exact xg) (by simp)];exact EN
 have pS:(Instr.endLoop (w.heap.size+1)).run P hh=.ok none (hh.putObj (w.heap.size+1) (.loop {rec .ready with state:=.exhausted})):=by have:=run_endLoop (P:=P) ti (by rw[ng];simp);rw[this];rw[ng]
 refine⟨none,_,pS,rfl,rfl,w.heap.size,_,?_,au v0 w.heap.size aP uw,?_⟩
 simp[L6,La]
 have v8:=ae.size
 refine⟨λb z jj=>?_,?_,?_,?_,?_,by simp;omega,λb aa fV _=>?_,λb aa fV=>?_,[],by simp,by simp⟩
 unfold H.ins at jj
 split at jj
 rename_i fC;subst fC;cases jj
 rw[mE (by omega)];exact LI
 have an:b≠w.heap.size+1:=λe=>by grind
 rw[mE an]
 exact ae.sub b z (by rw[bz _ _ an];exact jj)
 exact ae.os.trans (by rw[<-j5];rfl)
 exact ae.tape.trans (by rw[<-j5];rfl)
 exact ae.output.trans (by rw[<-j5];rfl)
 exact jW (by rw[<-j5];exact cw _) ae.drawn
 have an:b≠w.heap.size+1:=by omega
 rw[mE an,ae.rest b (by omega) (by rw[bz _ _ an];exact fV) (by simp)]
 exact hold b aa
 have an:b≠w.heap.size+1:=by omega
 have:=ae.jB b (by omega) (by rw[bz _ _ an];exact fV)
 rw[bz _ _ an] at this
 rw[bz _ _ (by omega)];exact this
def Cj.of{C:lq}(fP:Good C){assign body:iW}{x:O}{y:ap}{v:H}{cZ:H->Prop}(az:nm assign=ai)(aa:nm body=ai)
  (EC:J (O×gd)) (xn:∀p∈EC,∃W,hv [] p.2=some W/\((p.1=x/\W=y)∨p.1≠x/\(p.1,W)∈env))
  (h:hr C [] assign 1 (λ_=>ai) (λe s u=>e=.normal/\s.loc=[]/\hr C [] body 1 (λ_=>ai) (λe _ u=>e=.normal/\cZ u) s u) {n:=n,env:=EC,loc:=[]} v):
  Cj C.P n assign body env x y v cZ:=by
 intro l a w dm he M av ae
 have ab:Fits {n:=n,env:=EC,loc:=[]} [] v a w:=by refine⟨⟨av,dm,λp ad=>?_⟩,rfl,λi cs e=>by simp at e,by simp,by simp,ae⟩;obtain⟨W,h1,h2⟩:=xn p ad;refine⟨W,h1,?_⟩;rcases h2 with⟨h3,rfl⟩|⟨h3,br⟩;rw[h3];exact M;exact he _ br h3
 refine ya (QL fP (some l) assign az 1 _ _ _ v h [] a w ab) ?_
 rintro e Y e5 ⟨_,ar,u',da,⟨rfl,uJ,eB⟩,df,c6,_,_⟩
 have lx:da=[]:=by have:=df.len;rw[uJ] at this;simpa using this
 subst lx
 refine⟨u',c6,λdF Dc=>?_⟩
 have jz:Fits ar [] u' Y dF:=⟨df.toFitsE,df.len,λi cs e=>by rw[uJ] at e;simp at e,by simp,by simp,Dc⟩
 refine ya (QL fP (some l) body aa 1 _ _ ar u' eB [] Y dF jz) ?_
 rintro e a2 hh ⟨_,s2,cF,HB,⟨rfl,aP⟩,YS,aad,_,_⟩
 exact⟨rfl,cF,aP,aad.forget⟩
def zN:iW->iW
 | .rangeFunc _ _ x _=>x|_=>.skip
def zO:iW->iW
 | .rangeFunc _ _ _ x=>x|_=>.skip
def nB.code{c:iW}{t x:O}{K:O->H->Prop}(I:c=.rangeFunc (.tmp t) #[x] (zN c) (zO c))(h:nB P (.rangeFunc (.tmp t) #[x] (zN c) (zO c)) n env u K):nB P c n env u K:=by rw[I];exact h
end
section
variable{u ak:H}{l:J ax}{m e gi:O}{t:N}{bJ:ci}{T:dC}{v:ap}{d:o}{f:o->o->o}
def Zd(h:bN):ap:=.agg #[.int .i64 h.1,.int .u64 (cQ h.2),.int .u64 (cS h.2)]
def apO:hy aH 75=ai:=by kernel_rfl
theorem au1{s:N}{q:J o}(ae:dU u s l)(ht:Ints u t q)(bM:jx l q){n0 cj:O}(bA:u.cell? ⟨n0,0,none⟩=some (.slice s.a s.n s.c))(c1:u.cell? ⟨cj,0,none⟩=some (.slice t.a t.n t.c)):
  Iter aH (.func (.func 75) #[] #[.pointer (some ⟨n0,0,none⟩),.pointer (some ⟨cj,0,none⟩)]) Zd (l.map (hj q)) u:=by
 intro mO cZ la M3 v K h0 au
 refine⟨_,_,_,rfl,hs apO,?_⟩
 have e:(#[]++ #[mO]++ #[ha (some ⟨n0,0,none⟩),.pointer (some ⟨cj,0,none⟩)]:cA ap)=#[mO,.pointer (some ⟨n0,0,none⟩),.pointer (some ⟨cj,0,none⟩)]:=by simp
 rw[e]
 have ag:=ae.len
 have rl:=bM.rows.dim
 refine aES mO ⟨n0,0,none⟩ ⟨cj,0,none⟩ v K ⟨s,oH (la _ _ h0) bA,λi w=>0<=i/\i<=(s.n:o)/\cZ i.toNat w,λi _=>s.n-i.toNat,⟨by omega,by omega,h0⟩,?_⟩
 rintro i w ⟨i0,i1,aP⟩
 have hle:=la _ _ aP
 refine⟨λhi=>?_,λhi=>au _ ?_⟩
 obtain⟨p,ad,r,U,d0,d1,aB⟩:=(ae.mono hle).at i0 hi
 have fR:=dz U
 obtain⟨aq,SE⟩:=bM.rows.v r fR
 refine⟨p,ad,⟨i0,hi⟩,_,d0,_,d1,t,oH hle c1,BN aB (ht.mono hle) SE (by omega) bM.Ha (by omega) λx y M aj hw=>?_⟩
 have ex:x=cQ (hj q r).2:=by rw[<-show dw x y=(hj q r).2 from hw,RX aj]
 have r2:y=cS (hj q r).2:=by rw[<-show dw x y=(hj q r).2 from hw,S2 aj]
 subst ex;subst r2
 refine .inr (M3 i.toNat (hj q r) w _ (by grind) aP λb9 gS=>⟨λh=>bf rfl h,λ_=>⟨⟨by have:=ae.max;omega,by have:=ae.max;omega⟩,⟨by omega,by omega,?_⟩,by dsimp only;omega⟩⟩)
 rw[show(i+1).toNat=i.toNat+1 by omega]
 exact gS
 rw[eb]
 have:i.toNat=l.length:=by omega
 rw[<-this];exact aP
def WU:∀f args w,(∃fn,aH.funcs[f]?=some fn/\fn.body.isSome=ai)->(qT f args).run aH w=.ok (.enter f args) w:=
 λ_ args w h=>QI (od [] ao (oK:=[]) (oU:=[]) (part:=ao)) h args w
abbrev Pk:iW:=J0 (Tryz.f22.body.getD Go.Code.skip)
def aDR:Pk=.rangeFunc (.tmp 34) #[35] (zN Pk) (zO Pk):=by kernel_rfl
def aDX(n9:O)(y:bN)(v:H)(cZ:H->Prop)(env:J (O×ap))(he:(9,ha (some ⟨n9,0,none⟩))∈env)
  (h:∀m,v m=none->H.aM (v.ins m (.cells #[.int .i64 0,.int .u64 0,.int .u64 0] 68 (0,0))) ⟨m,0,none⟩ [.int .i64 y.1,.int .u64 (cQ y.2),.int .u64 (cS y.2)] λaR=>sA=sA/\([]:J (J ap))=[]/\
   ∃p:aA a8,aR.cell? ⟨n9,0,none⟩=some (.pointer p)/\∃dr:o,aR.cell? ⟨m,0,none⟩=some (.int .i64 dr)/\∃x2:o,aR.cell? ((cp m 0 none).add 1)=some (.int .u64 x2)/\∃j0:o,aR.cell? ((cp m 0 none).add 2)=some (.int .u64 j0)/\
    Ad p dr x2 j0 aR λ_ cF=>sA=sA/\cZ cF):
  Cj aH 41 (zN Pk) (zO Pk) env 35 (Zd y) v cZ:=
 Cj.of (C:={P:=aH,exp:=[11],wrap:=ao,io:=io}) (od _ _) (by kernel_rfl) (by kernel_rfl) [(35,.v (Zd y)),(9,.ptr ⟨n9,0,none⟩)] (by intro p ad;rcases dM.1 ad with rfl|ad;exact⟨_,rfl,.inl ⟨rfl,rfl⟩⟩;rcases dM.1 ad with rfl|ad;exact⟨_,rfl,.inr ⟨show(9:O)≠35 by decide,he⟩⟩;cases ad) (Eq.mp (by kernel_rfl) h)
def aDi{y:bN}{f:H->Prop}(ab:f (u.ins m (.cells (eO y).toArray T (0,0)))):
  H.aM (u.ins m (.cells #[.int .i64 0,.int .u64 0,.int .u64 0] T (0,0))) ⟨m,0,none⟩ [.int .i64 y.1,.int .u64 (cQ y.2),.int .u64 (cS y.2)] f:=
 lZ (zs:=[.int .i64 0,.int .u64 0,.int .u64 0]) rfl (by simp[cI]) ab
def aqH{y:bN}:(u.ins m (.cells (eO y).toArray T (0,0))).cell? ⟨m,0,none⟩=some (.int .i64 y.1)/\(u.ins m (.cells (eO y).toArray T (0,0))).cell? ((cp m 0 none).add 1)=some (.int .u64 (cQ y.2))/\
  (u.ins m (.cells (eO y).toArray T (0,0))).cell? ((cp m 0 none).add 2)=some (.int .u64 (cS y.2)):=by
 rw[ib,ib]
 refine⟨?_,?_,?_⟩<;>(rw[HE];rfl)
def aqF{z:Obj}{a:a8}(h:u.cell? a=some v)(hm:u m=none):(u.ins m z).cell? a=some v:=oH (bX _ hm) h
def aDK{α β:Type}(f:α->β)(l:J α)(i:O)(y:β)(h:(l.map f)[i]?=some y):(l.map f).take (i+1)=(l.map f).take i++ [y]:=by rw[fN,h];rfl
def BV(l:J ax)(q:J o)(k:o):o:=if asked l q≠0 then asked l q else if k<1∨64<k then 1 else 0
def aBO{s:N}{q:J o}{k:o}{K:N->o->H->Prop}(ae:dU u s l)(ht:Ints u t q)
  (dq:BV l q k≠0->K ⟨none,0,0⟩ (BV l q k) u) (bM:jx l q->1<=k->k<=64->∀ar u',aD u u' 68 3 ar ((e1 k.toNat (l.map (hj q))).flatMap eO)->K ar 0 u'):Vd s t k u K:=by
 apply aEM
 refine amy ae ht ⟨λan=>?_,λhe=>?_⟩
 have:BV l q k=asked l q:=b3 an
 rw[this] at dq;exact dq an
 have uS:=Hz.1 he
 have p2:k<1∨64<k->BV l q k=1:=λh=>by unfold BV;omega
 intro ny oe
 refine⟨λh1=>?_,λh1=>⟨λh2=>?_,λh2=>oe ⟨none,0,0⟩ _ _ ?_⟩⟩
 rw[p2 (.inl h1)] at dq;exact dq (by decide)
 rw[p2 (.inr h2)] at dq;exact dq (by decide)
 clear oe ny
 refine Pf (λh=>by omega) λcB cW n aR gB gQ Nj n9 uO=>lZ (zs:=[.pointer none]) rfl (by simp[cI]) ?_
 refine⟨λh=>bf rfl h,λ_=>?_⟩
 apply aER
 intro n0 fJ cj MJ
 have apK:aR.ins n9 (bt [ha (some ⟨n,0,none⟩)].toArray 90 (0,0))=aR.ins n9 (bt #[ha (some ⟨n,0,none⟩)] 90 (0,0)):=rfl
 rw[apK] at fJ MJ ⊢
 generalize av9:bt #[ha (some ⟨n,0,none⟩)] 90 (0,0)=wo at fJ MJ ⊢
 generalize av6:bt #[ed s.a s.n s.c] 22 (0,0)=gh at MJ ⊢
 generalize av7:bt #[ed t.a t.n t.c] 30 (0,0)=e0
 have FB:=((Nj.mI uO wo).mI fJ gh).mI MJ e0
 have abn:aR.le (aR.ins n9 wo):=bX _ uO
 have axa:u n9=none:=gB.none uO
 have ph:(u.ins n9 wo) n0=none:=(H.I2 gB n9 wo).none fJ
 have aav:((u.ins n9 wo).ins n0 gh) cj=none:=(H.I2 (H.I2 gB n9 wo) n0 gh).none MJ
 have lub:u.le (((u.ins n9 wo).ins n0 gh).ins cj e0):=((bX _ axa).trans (bX _ ph)).trans (bX _ aav)
 have ahL:(((u.ins n9 wo).ins n0 gh).ins cj e0) n9=some wo:=(bX _ aav) _ _ ((bX _ ph) _ _ (bh _ _ _))
 have bA:(((u.ins n9 wo).ins n0 gh).ins cj e0).cell? ⟨n0,0,none⟩=some (.slice s.a s.n s.c):=by refine aqF ?_ aav;rw[<-av6];exact aZ (bh _ _ _) 0
 have c1:(((u.ins n9 wo).ins n0 gh).ins cj e0).cell? ⟨cj,0,none⟩=some (.slice t.a t.n t.c):=by rw[<-av7];exact aZ (bh _ _ _) 0
 generalize (((u.ins n9 wo).ins n0 gh).ins cj e0)=ub at FB lub ahL bA c1
 have ahS:∀w,ub.le w->w.cell? ⟨n9,0,none⟩=some (.pointer (some ⟨n,0,none⟩)):=λw hw=>by have:=hw _ _ ahL;rw[<-av9] at this;exact aZ this 0
 refine nB.code aDR (nB.intro (t:=34) FB.le WU (by simp) (by decide) (λw hw=>au1 (ae.mono (lub.trans hw)) (ht.mono (lub.trans hw)) uS (oH hw bA) (oH hw c1))
  (λi w=>jb ub n k w ((l.map (hj q)).take i).reverse) FB (λi v aP=>aP.le) ?_ ?_)
 intro i y v aj aP
 refine aDX n9 y v _ _ (by simp) λm hm=>aDi ⟨rfl,rfl,?_⟩
 obtain⟨d0,d1,d2⟩:=aqH (u:=v) (m:=m) (y:=y) (T:=68)
 have kB:=aP.mono (bX (u:=v) (b:=m) (bt (eO y).toArray 68 (0,0)) hm)
 refine⟨_,ahS _ kB.le,_,d0,_,d1,_,d2,Pe kB cB cW λb u' rm=>⟨rfl,?_⟩⟩
 rw[aDK _ _ _ _ aj,List.reverse_append]
 exact rm
 intro v D aP fe
 have hle:=bX (u:=v) (b:=D) (vk (some [])) fe
 have kB:=aP.mono hle
 refine⟨_,ahS _ kB.le,Kf kB λar u' ac=>⟨ac.le _ _ (bh _ _ _),bM uS cB cW ar _ ?_⟩⟩
 have aa:ar.al≠some D:=λe=>by have:=ac.fresh D e;rw[bh] at this;cases this
 have dt:=ac.weaken (lub.trans kB.le)
 rw[eb,gC (by simp),DS (List.reverse_perm _)] at dt
 exact dt.xO ((lub.trans aP.le).none fe) aa _
def within(R:o)(l:J bN):J bN:=mL (l.filter λh=>decide (h.2<=R))
def GV{n:O}{ow:ap}{f:H->Prop}(ag:u n=some (.cells #[ow] T (0,0)))(h1:v.oneCell'=ai)(ab:f (u.ins n (.cells #[v] T (0,0)))):H.aM u ⟨n,0,none⟩ [v] f:=
 ⟨_,_,ag,rfl,by simp,by simp[h1],ab⟩
def yA(x:o):kO aH 30 1 #[(0,.int .i64 x)]=some (3,[.int .i64 x]):=by kernel_rfl
theorem azB{k:O}{s:N}{xs:J ap}{b:O}{l:J o}(h:aD ak u e k s xs)(aa:ui u b l):s.al≠some b:=by
 intro M;obtain⟨es,c,ahJ,_⟩:=aa;rcases h.own.is with h0|⟨g,cur,az,Z,_⟩;rw[h0] at M;simp[N.al] at M;have:g=b:=by simpa[N.al,az] using M
 grind
def Pj{i:O}{r:ax}(h:l[i]?=some r):(l.take (i+1)).map (·.id)=(l.take i).map (·.id)++ [r.id]:=by rw[fN,h];simp
theorem ana{s:N}{K:N->o->H->Prop}(ae:dU u s l)(bM:gD l d)(au:∀ar u',aD u u' 3 1 ar ((cR (l.map (·.id))).flatMap encI)->K ar 0 u'):Qe s d u K:=by
 have ag:=ae.len;have hlen:=bM.len;apply aHy;refine⟨λh=>by omega,λ_=>acX λb aa j7=>?_⟩;refine⟨λ_ _ oz i v=>0<=i/\i<=(s.n:o)/\ui v b ((l.take i.toNat).map (·.id))/\aD u v 3 1 oz (((l.take i.toNat).map (·.id)).flatMap encI),λ_ _ _ i _=>s.n-i.toNat,
  ⟨by omega,by omega,by simpa using j7,aD.nil (bX _ aa) _ _⟩,?_⟩
 rintro oy qo oz i v ⟨i0,i1,j7,ac⟩;refine⟨λhi=>?_,λhi=>?_⟩;obtain⟨p,ad,r,U,bA,c1,aB⟩:=(ae.mono ac.le).at i0 hi;have fR:=dz U;have cy:=bM.id r fR;obtain⟨Bf,FH⟩:=bM.v r fR;have sh:r.id∉(l.take i.toNat).map (·.id):=by have b8:=bM.nodup;have gR:((l.take (i.toNat+1)).map (·.id)).Nodup:=List.Nodup.sublist (ack _ (sz _ _)) b8;rw[Pj U] at gR;exact λhm=>(hg.1 gR).2.2 _ hm _ (by simp) rfl
 have xK:gx r.v d=0:=by rw[<-Bf];exact xY FH (by have:=bM.dim;omega)
 refine⟨p,ad,⟨i0,hi⟩,_,bA,_,c1,λae1 X3=>⟨λh=>by omega,λ_=>⟨λh=>by omega,λ_=>acW GM j7 ⟨λh=>bf (by simpa using h) sh,λ_=>X3 _ _ _ ?_⟩⟩⟩⟩;refine qg aB ⟨λh=>bf xK h,λ_=>T8 GM j7 sh λb9 M9 mz kj=>?_⟩;have an:=azB ac j7;have bR:aD u b9 3 1 oz (((l.take i.toNat).map (·.id)).flatMap encI):=
  ⟨ac.own.le λg z Z axh=>mz g z axh (λe=>an (by rw[Z,e])),λg z Z=>mz g z (ac.le g z Z) (λe=>by grind),ac.fresh⟩
 have sg:=bR.ints.len;simp only[eb,iV] at sg;refine mn kK (yA _) (by decide) rfl (by simp[cI]) bR (by omega) (by omega) λar u' dt fK eC fC _=>⟨⟨by omega,by omega⟩,⟨by omega,by omega,?_,?_⟩,by dsimp only;omega⟩;rw[show(i+1).toNat=i.toNat+1 by omega,Pj U];obtain⟨es,c,h1,h2⟩:=M9;exact⟨es,c,eC _ _ h1 an,h2⟩;rw[show(i+1).toNat=i.toNat+1 by omega,Pj U,hb];exact dt;have qL:i.toNat=l.length:=by omega
 rw[qL,pt] at ac;exact GQ ac (by simp;omega) λu' bR _=>au oz u' bR
def lT(acc v:J o):J o:=lX (λa x=>if x<a then x else a) acc v
def lU(acc v:J o):J o:=lX (λa x=>if x>a then x else a) acc v
def mZ(l:J ax):J o:=l.foldl (λacc r=>lT acc r.v) (l.headD ⟨0,⟨none,0,0⟩,[]⟩).v
def mY(l:J ax):J o:=l.foldl (λacc r=>lU acc r.v) (l.headD ⟨0,⟨none,0,0⟩,[]⟩).v
def B4{a v:J o}(h:a.length=v.length):(lX f a v).length=a.length:=by simp[h]
theorem U2{a v:J o}(h:a.length=v.length){j:O}(aP:j<a.length):
  ((lX f a v).take j++a.drop j).set j (f (a.getD j 0) (v.getD j 0))=(lX f a v).take (j+1)++a.drop (j+1):=by
 have aE:=B4 (f:=f) h
 have XC:a.getD j 0=a[j]:=by grind
 have aJi:j<v.length:=by omega
 have asp:v.getD j 0=v[j]:=by grind
 rw[XC,asp,List.set_append_right _ _ (by simp;omega)]
 have e:j-((lX f a v).take j).length=0:=by simp;omega
 rw[e,qV aP,TH,fN,dj (by rw[aE];exact aP)]
 simp
theorem U1{a v:J o}(h:a.length=v.length){j:O}(aP:j<a.length):((lX f a v).take j++a.drop j).getD j 0=a.getD j 0:=by
 grind
theorem agG{f:J o->J o->J o}(ab:∀a v:J o,a.length=v.length->(f a v).length=a.length):∀(l:J ax) (a:J o),(∀r∈l,r.v.length=a.length)->(l.foldl (λacc r=>f acc r.v) a).length=a.length:=by
 intro l;induction l with
 |nil=>intro a _;rfl
 |cons r l aW=>
  simp_all
def agH{f:J o->J o->J o}{i:O}{r:ax}{a:J o}(h:l[i]?=some r):(l.take (i+1)).foldl (λacc r=>f acc r.v) a=f ((l.take i).foldl (λacc r=>f acc r.v) a) r.v:=by rw[fN,h];simp
def aD.age{s:N}{l:J o}(h:aD ak u e 1 s (l.flatMap encI)){x:o}(h0:0<=x)(h1:x<(s.n:o)):∃p,s.a=some p/\u.cell? (p.add (x.toNat*1))=some (.int .i64 (l.getD x.toNat 0)):=h.ints.at h0 h1
theorem am9{s:N}{K:o->N->N->o->o->N->o->H->Prop}(ae:dU u s l)(bM:gD l d)(an:l≠[])
  (au:∀bx aC kc u',aD u u' 3 1 bx ((mZ l).flatMap encI)->aD u u' 3 1 aC ((mY l).flatMap encI)->aD u u' 3 1 kc ((cR (l.map (·.id))).flatMap encI)->
   bx.al≠aC.al->bx.al≠kc.al->aC.al≠kc.al->K 2 bx aC 0 0 kc 0 u'):Qd s d u K:=by
 have ag:=ae.len
 have hlen:=bM.len
 have rl:=bM.dim
 have oi:0<l.length:=yb.2 an
 apply aHr
 refine ads ⟨λh=>bf (by simp;omega) h,λ_=>⟨λh=>by omega,λ_=>ana ae bM λkc nt Fz=>⟨λh=>bf rfl h,λ_=>?_⟩⟩⟩
 obtain⟨p,ad,r,U,bA,c1,aB⟩:=(ae.mono Fz.le).at (x:=0) (by omega) (by omega)
 have oj:l[0]?=some r:=U
 have fR:=dz U
 have aik:l.headD ⟨0,⟨none,0,0⟩,[]⟩=r:=by
  cases l with
  |nil=>simp at oj|cons a l=>simp at oj;simp[oj]
 have Bf:=(bM.v r fR).1
 have nN:=aB.len
 refine⟨p,ad,⟨by omega,by omega⟩,p,ad,⟨by omega,by omega⟩,r.s,c1,r.s,c1,?_⟩
 refine sI aB (by omega) λbx hn p0 _=>⟨p0.le,sI (aB.mono p0.le) (by omega) λaC gK fM _=>?_⟩
 have awP:=p0.mono fM.le
 have Z5:=fM.weaken p0.le
 have qK:∀g,bx.al=some g->aC.al≠some g:=by
  intro g Z gu;have h1:=fM.fresh g gu;rcases p0.own.is with h0|⟨b5,cur,az,cu,_⟩
  grind
  have:b5=g:=by simpa[N.al,az] using Z
  grind
 have eL:∀x∈l,x.v.length=r.v.length:=λx M=>by have:=(bM.v x M).1;omega
 have akr:∀i,((l.take i).foldl (λacc r=>lT acc r.v) r.v).length=r.v.length:=λi=>agG (λa v h=>B4 h) _ _ λx M=>eL x (oW M)
 have akq:∀i,((l.take i).foldl (λacc r=>lU acc r.v) r.v).length=r.v.length:=λi=>agG (λa v h=>B4 h) _ _ λx M=>eL x (oW M)
 refine⟨λi v=>0<=i/\i<=(s.n:o)/\aD nt v 3 1 bx (((l.take i.toNat).foldl (λacc r=>lT acc r.v) r.v).flatMap encI)/\aD nt v 3 1 aC (((l.take i.toNat).foldl (λacc r=>lU acc r.v) r.v).flatMap encI),
  λi _=>s.n-i.toNat,⟨by omega,by omega,by simpa using awP,by simpa using Z5⟩,?_⟩
 rintro i v ⟨i0,i1,hX,AU⟩
 refine⟨λhi=>?_,λhi=>?_⟩
 obtain⟨q,aL,x,M,d0,d1,Nz⟩:=(ae.mono (Fz.le.trans hX.le)).at i0 hi
 have Bh:=dz M
 have eY:=eL x Bh
 have SG:=Nz.len
 have Ks:=akr i.toNat
 have U0:=akq i.toNat
 have O4:=agH (f:=lT) (a:=r.v) M
 have aml:=agH (f:=lU) (a:=r.v) M
 generalize (l.take i.toNat).foldl (λacc r=>lT acc r.v) r.v=A at hX Ks O4
 generalize (l.take i.toNat).foldl (λacc r=>lU acc r.v) r.v=B at AU U0 aml
 refine⟨q,aL,⟨i0,hi⟩,_,d0,_,d1,λj w=>0<=j/\j<=(x.s.n:o)/\aD nt w 3 1 bx (((lT A x.v).take j.toNat++A.drop j.toNat).flatMap encI)/\aD nt w 3 1 aC (((lU B x.v).take j.toNat++B.drop j.toNat).flatMap encI),
  λj _=>x.s.n-j.toNat,⟨by omega,by omega,by simpa using hX,by simpa using AU⟩,?_⟩
 rintro j w ⟨e9,kU,iR,yY⟩
 have akt:∀k,((lT A x.v).take k++A.drop k).length=A.length:=λk=>by simp[lT];omega
 have aks:∀k,((lU B x.v).take k++B.drop k).length=B.length:=λk=>by simp[lU];omega
 refine⟨λaP=>?_,λaP=>?_⟩
 have dS:=iR.ints.len
 have auJ:=yY.ints.len
 rw[akt] at dS
 rw[aks] at auJ
 obtain⟨az9,awp,HJ⟩:=((ae.mono (Fz.le.trans iR.le)).2 x Bh).at e9 aP
 obtain⟨pl,lz,cl⟩:=iR.age e9 (by omega)
 obtain⟨ak4,jn,HG⟩:=yY.age e9 (by omega)
 unfold lT at cl
 unfold lU at HG
 rw[U1 (a:=A) (v:=x.v) (by omega) (j:=j.toNat) (by omega)] at cl
 rw[U1 (a:=B) (v:=x.v) (by omega) (j:=j.toNat) (by omega)] at HG
 refine⟨az9,awp,⟨e9,aP⟩,_,HJ,pl,lz,⟨e9,by omega⟩,ak4,jn,⟨e9,by omega⟩,_,cl,_,HG,pl,lz,⟨e9,by omega⟩,?_⟩
 refine aD.store (enc:=encI) j4 iR (by decide) (i:=j.toNat) (by rw[akt];omega) (y:=if x.v.getD j.toNat 0<A.getD j.toNat 0 then x.v.getD j.toNat 0 else A.getD j.toNat 0) (s4 _) lz λwS AW se _=>⟨ak4,jn,⟨e9,by omega⟩,?_⟩
 have aii:=yY.else se iR.fresh qK
 refine aD.store (enc:=encI) j4 aii (by decide) (i:=j.toNat) (by rw[aks];omega) (y:=if x.v.getD j.toNat 0>B.getD j.toNat 0 then x.v.getD j.toNat 0 else B.getD j.toNat 0) (s4 _) jn λanS Y6 aug _=>⟨⟨by omega,by omega⟩,⟨by omega,by omega,?_,?_⟩,by dsimp only;omega⟩
 have Zk:=AW.else aug aii.fresh (λg Z gu=>qK g gu Z)
 rw[show(j+1).toNat=j.toNat+1 by omega]
 have:=U2 (f:=λa x=>if x<a then x else a) (a:=A) (v:=x.v) (by omega) (j:=j.toNat) (by omega)
 unfold lT at Zk ⊢
 rw[this] at Zk
 exact Zk
 rw[show(j+1).toNat=j.toNat+1 by omega]
 have:=U2 (f:=λa x=>if x>a then x else a) (a:=B) (v:=x.v) (by omega) (j:=j.toNat) (by omega)
 unfold lU at Y6 ⊢
 rw[this] at Y6
 exact Y6
 have kB:j.toNat=x.v.length:=by omega
 refine⟨⟨by omega,by omega⟩,⟨by omega,by omega,?_,?_⟩,by dsimp only;omega⟩
 rw[show(i+1).toNat=i.toNat+1 by omega,O4]
 rw[kB,gC (by grind),vi (by omega),ml] at iR
 exact iR
 rw[show(i+1).toNat=i.toNat+1 by omega,aml]
 rw[kB,gC (by grind),vi (by omega),ml] at yY
 exact yY
 have qL:i.toNat=l.length:=by omega
 rw[qL,pt] at hX AU
 have arj:mZ l=l.foldl (λacc r=>lT acc r.v) r.v:=by unfold mZ;rw[aik]
 have arh:mY l=l.foldl (λacc r=>lU acc r.v) r.v:=by unfold mY;rw[aik]
 have ajr:∀g,kc.al=some g->nt g≠none:=by
  intro g Z;rcases Fz.own.is with h0|⟨b5,cur,az,cu,_⟩;rw[h0] at Z;simp[N.al] at Z;have:b5=g:=by simpa[N.al,az] using Z
  rw[<-this,cu];simp
 have iS:∀(adI:N) (L:J o),aD nt v 3 1 adI (L.flatMap encI)->0<L.length->∃g,adI.al=some g:=by
  intro adI L M cX;rcases M.own.is with h0|⟨g,cur,az,_⟩;have:=M.ints.len
  grind
  exact⟨g,by simp[N.al,az]⟩
 have IT:0<r.v.length:=by omega
 have Ks:=akr l.length
 have U0:=akq l.length
 rw[pt] at Ks U0
 obtain⟨vO,vS⟩:=iS bx _ hX (by rw[Ks];exact IT)
 obtain⟨vN,aif⟩:=iS aC _ AU (by rw[U0];exact IT)
 refine au bx aC kc v (by rw[arj];exact hX.weaken Fz.le) (by rw[arh];exact AU.weaken Fz.le) (Fz.mono hX.le) ?_ ?_ ?_
 grind
 rw[vS];exact λe=>ajr vO e.symm (hX.fresh vO vS)
 rw[aif];exact λe=>ajr vN e.symm (AU.fresh vN aif)
def ig:ku aH 22=some (52,2,32,[.int .i64 0,.slice none 0 0]):=by kernel_rfl
def dU.part{s:N}{L:J ax}(ae:dU u s L){l h:O}(h1:l<=h)(h2:h<=s.n)(h3:h<=m)(br:m<=s.c):dU u (s.part l h m 2) ((L.drop l).take (h-l)):=by refine⟨?_,λr U=>ae.2 r (tQ (oW U))⟩;have:=bw.part ae.1 h1 h2 h3 br;rw[Q5 fO,yK fO] at this;exact this
def gD.sub{bH:J ax}(h:gD l d)(ae:bH.Sublist l):gD bH d:=
 ⟨h.dim,jW ae.length_le h.len,λr U=>h.id r (ae.mem U),h.nodup.sublist (ae.map _),λr U=>h.v r (ae.mem U)⟩
def jx.sub{bH:J ax}{q:J o}(h:jx l q)(ae:bH.Sublist l):jx bH q:=⟨h.Ha,h.rows.sub ae⟩
def afB(a b c:N)(x y W:o):kO aH 39 1 #[(0,.agg #[.int .i64 x,.slice a.a a.n a.c,.slice b.a b.n b.c,.int .u64 y,.int .u64 W,.slice c.a c.n c.c])]=
  some (102,[.int .i64 x,.slice a.a a.n a.c,.slice b.a b.n b.c,.int .u64 y,.int .u64 W,.slice c.a c.n c.c]):=by kernel_rfl
structure U3(ak u:H)(aC ss a6:N)(eE:J bN)(seen:J o)(rest:J ax):Prop where
 h:aD ak u 68 3 aC (eE.flatMap eO)
 s:aD ak u 3 1 ss (seen.flatMap encI)
 ae:∀g,aC.al=some g->ss.al≠some g
 r:(rest=[]/\a6=⟨none,0,0⟩)∨rest≠[]/\a6.n=1/\∃a b c:N,aD ak u 102 6 a6 [.int .i64 2,.slice a.a a.n a.c,.slice b.a b.n b.c,.int .u64 0,.int .u64 0,.slice c.a c.n c.c]/\
  aD ak u 3 1 a ((mZ rest).flatMap encI)/\aD ak u 3 1 b ((mY rest).flatMap encI)/\aD ak u 3 1 c ((cR (rest.map (·.id))).flatMap encI)/\
  a.al≠b.al/\a.al≠c.al/\b.al≠c.al/\(∀x∈[a,b,c],∀g,x.al=some g->aC.al≠some g/\ss.al≠some g/\a6.al≠some g)/\(∀g,a6.al=some g->aC.al≠some g/\ss.al≠some g)
def zW(l:J ax)(q:J o)(k b:o):o:=if asked l q≠0 then asked l q else if k<1∨64<k∨b<0∨1000000<b then 1 else 0
def dH{k:O}{s:N}{xs:J ap}(h:aD ak u e k s xs){g:O}(Z:s.al=some g):u g≠none:=by
 rcases h.own.is with h0|⟨b5,cur,az,cu,_⟩;rw[h0] at Z;simp[N.al] at Z;have:b5=g:=by simpa[N.al,az] using Z
 rw[<-this,cu];simp
theorem aBN{s:N}{q:J o}{k b:o}{K:N->N->N->o->H->Prop}(ae:dU u s l)(ht:Ints u t q)
  (dq:zW l q k b≠0->K ⟨none,0,0⟩ ⟨none,0,0⟩ ⟨none,0,0⟩ (zW l q k b) u)
  (bM:jx l q->1<=k->k<=64->0<=b->b<=1000000->∀aC ss a6 u',u.le u'->U3 u u' aC ss a6 (e1 k.toNat ((l.take b.toNat).map (hj q))) (cR ((l.take b.toNat).map (·.id))) (l.drop b.toNat)->K aC ss a6 0 u'):
  PJ s t k b u K:=by
 have ag:=ae.len
 apply aEL
 refine amy ae ht ⟨λan=>?_,λhe=>?_⟩
 have:zW l q k b=asked l q:=b3 an
 rw[this] at dq;exact dq an
 have aL:=Hz.1 he
 have hlen:=aL.rows.len
 have Ma:k<1∨64<k∨b<0∨1000000<b->K ⟨none,0,0⟩ ⟨none,0,0⟩ ⟨none,0,0⟩ 1 u:=λh=>by
  have:zW l q k b=1:=by unfold zW;omega
  rw[this] at dq;exact dq (by decide)
 intro ny oe
 have bad:(k<1∨64<k∨b<0∨1000000<b)->ny ai u:=λh=>oe _ _ ⟨λ_=>Ma h,λaa=>by cases aa⟩
 refine⟨λh1=>bad (.inl h1),λh1=>⟨λh2=>bad (.inr (.inl h2)),λh2=>⟨λh3=>bad (.inr (.inr (.inl h3))),λh3=>oe _ _ ⟨λaa=>?_,λaa=>?_⟩⟩⟩⟩
 have:1000000<b:=by simpa using aa
 exact Ma (.inr (.inr (.inr this)))
 have br:b<=1000000:=by grind
 clear bad Ma oe ny
 have fQ:s.n<=s.c:=bw.cap ae.1
 have aiP:(if(s.n:o)<b then(s.n:o) else b)=((min s.n b.toNat:O):o):=by split<;>omega
 have A9:l.take (min s.n b.toNat)=l.take b.toNat:=by grind
 have uB:l.drop (min s.n b.toNat)=l.drop b.toNat:=by grind
 rw[aiP]
 refine kJ (l:=0) (h:=min s.n b.toNat) (m:=s.c) ig (.inl ⟨rfl,rfl⟩) (.inr rfl) (.inl ⟨rfl,rfl⟩) (pu _) (by omega) (cw _) fQ ?_
 have M6:=ae.part (l:=0) (h:=min s.n b.toNat) (m:=s.c) (pu _) (by omega) (by omega) (cw _)
 rw[DA,zI,A9] at M6
 generalize zc:s.part 0 (min s.n b.toNat) s.c 2=lH at M6
 have avM:lH.n=min s.n b.toNat:=by rw[<-zc];rfl
 have aJA:=M6.len
 have awv:jx (l.take b.toNat) q:=aL.sub (sz _ _)
 have p2:BV (l.take b.toNat) q k=0:=by unfold BV;rw[bF (by simp[Hz.2 awv]),bF (by omega)]
 refine aBO M6 ht (λh=>bf p2 h) λ_ cB cW OS o0 A3=>?_
 refine⟨λi jt GD sG v=>0<=i/\i<=(lH.n:o)/\jt=OS/\sG=⟨none,0,0⟩/\aD o0 v 3 1 GD ((((l.take b.toNat).take i.toNat).map (·.id)).flatMap encI),λi _ _ _ _=>lH.n-i.toNat,
  ⟨by omega,by omega,rfl,rfl,by simpa using aD.nil (H.le.refl o0) _ _⟩,?_⟩
 rintro i jt GD sG v ⟨i0,i1,arb,arc,ac⟩
 obtain rfl:jt=OS:=arb
 obtain rfl:sG=⟨none,0,0⟩:=arc
 change aD o0 v _ 1 GD _ at ac
 refine⟨λhi=>?_,λhi=>?_⟩
 obtain⟨p,ad,r,U,bA,c1,aB⟩:=(M6.mono (A3.le.trans ac.le)).at i0 hi
 have sg:=ac.ints.len
 simp only[eb,iV] at sg
 refine⟨p,ad,⟨i0,hi⟩,_,bA,_,c1,mn kK (yA _) (by decide) rfl (by simp[cI]) ac (by omega) (by omega) λar u' dt fK eC fC _=>⟨⟨by omega,by omega⟩,⟨by omega,by omega,rfl,rfl,?_⟩,by dsimp only;omega⟩⟩
 rw[show(i+1).toNat=i.toNat+1 by omega,Pj U,hb]
 exact dt
 have qL:i.toNat=(l.take b.toNat).length:=by omega
 rw[qL,pt] at ac
 refine GQ ac (by simp;omega) λkL nK _=>?_
 have aiW:lH.n<=s.n:=by omega
 refine kJ (l:=lH.n) (h:=s.n) (m:=s.c) ig (.inr rfl) (.inl ⟨rfl,rfl⟩) (.inl ⟨rfl,rfl⟩) aiW fQ (cw _) fQ ?_
 have Ff:=A3.le.trans nK.le
 have IK:=(ae.mono Ff).part (l:=lH.n) (h:=s.n) (m:=s.c) aiW (cw _) fQ (cw _)
 have v7:(l.drop lH.n).take (s.n-lH.n)=l.drop b.toNat:=by rw[gC (by simp;omega),avM,uB]
 rw[v7] at IK
 have Sa:=IK.len
 generalize s.part lH.n s.n s.c 2=hA at IK Sa
 have ajp:∀g,jt.al=some g->GD.al≠some g:=λg Z gu=>dH A3 Z (nK.fresh g gu)
 refine⟨λoi=>?_,λoi=>bM aL cB cW (by omega) br jt GD _ kL Ff ⟨A3.mono nK.le,nK.weaken A3.le,ajp,.inl ⟨qW (by omega),rfl⟩⟩⟩
 have an:l.drop b.toNat≠[]:=λe=>by grind
 have rl:=aL.rows.dim
 have Fx:gD (l.drop b.toNat) (t.n:o):=by rw[ht.len];exact aL.rows.sub (Oo _ _)
 refine am9 IK Fx an λbx aC kc mM h1 h2 h3 cj ez lV=>⟨λh=>bf rfl h,λ_=>?_⟩
 refine mK (afB bx aC kc 2 0 0) λg Z=>?_
 have bL:=aD.make (k:=6) (H.le.refl mM) Z (cells:=[cN .i64 2,.slice bx.a bx.n bx.c,.slice aC.a aC.n aC.c,.int .u64 0,.int .u64 0,.slice kc.a kc.n kc.c].toArray) (e:=102) (n:=1) (by omega) (by simp)
 have R3:=bX (u:=mM) (b:=g) (bt [cN .i64 2,.slice bx.a bx.n bx.c,.slice aC.a aC.n aC.c,.int .u64 0,.int .u64 0,.slice kc.a kc.n kc.c].toArray 102 (0,0)) Z
 have eL:kL.le (mM.ins g (bt [cN .i64 2,.slice bx.a bx.n bx.c,.slice aC.a aC.n aC.c,.int .u64 0,.int .u64 0,.slice kc.a kc.n kc.c].toArray 102 (0,0))):=h1.le.trans R3
 refine bM aL cB cW (by omega) br jt GD _ _ (Ff.trans eL) ⟨(A3.mono nK.le).mono eL,(nK.weaken A3.le).mono eL,ajp,.inr ⟨an,rfl,bx,aC,kc,bL.weaken (Ff.trans h1.le),(h1.weaken Ff).mono R3,(h2.weaken Ff).mono R3,(h3.weaken Ff).mono R3,cj,ez,lV,?_,?_⟩⟩
 intro x M b5 cu
 have YZ:kL b5=none/\mM b5≠none:=by simp only[dM,qX,qY] at M;rcases M with rfl|rfl|rfl;exact⟨h1.fresh b5 cu,dH h1 cu⟩;exact⟨h2.fresh b5 cu,dH h2 cu⟩;exact⟨h3.fresh b5 cu,dH h3 cu⟩
 refine⟨λe=>dH (A3.mono nK.le) e YZ.1,λe=>dH nK e YZ.1,λe=>?_⟩
 have:g=b5:=by simpa[N.al] using e
 grind
 intro b5 cu
 have:g=b5:=by simpa[N.al] using cu
 subst this
 exact⟨λe=>dH ((A3.mono nK.le).mono h1.le) e Z,λe=>dH (nK.mono h1.le) e Z⟩
structure Wl(u:H)(s t:N)(l:J ax)(q:J o):Prop where
 rows:dU u s l
 q:Ints u t q
 small:∀r∈l,r.v.length<=17592186044416
 ac1:s.n<=17592186044416
def Wl.mono{u':H}{s:N}{q:J o}(h:Wl u s t l q)(k:u.le u'):Wl u' s t l q:=⟨h.rows.mono k,h.q.mono k,h.small,h.ac1⟩
def lL.part{s:N}{L:J bN}(ae:lL u s L){l h:O}(h1:l<=h)(h2:h<=s.n)(h3:h<=m)(br:m<=s.c):lL u (s.part l h m 3) ((L.drop l).take (h-l)):=by have:=bw.part ae h1 h2 h3 br;rw[Q5 pO,yK pO] at this;exact this
open Go.ChangeShapes Go.WideShapes Go.ChangeAt Go.RowKit
def whole(bJ:ci):H:=λb=>bJ.heap[b]?
def aHU(bJ:ci):Sub (whole bJ) bJ:=λ_ _ e=>e
def UZ(bJ:ci)(a:a8):(whole bJ).cell? a=bJ.cell? a:=rfl
def Step.below{Cn:ci}{u':H}{bs:J O}(h:Step (whole bJ) [] bJ u' bs Cn)(k:(whole bJ).le u'):Below bJ.heap.size bJ Cn:=
 ⟨h.os,h.tape,h.output,h.size,λb aa=>by have:bJ.heap[b]?=some bJ.heap[b]:=Og aa;rw[this];exact h.sub b _ (k b _ this)⟩
def HF:aH.cellsOf 3=1:=by kernel_rfl
def WX:aH.cellsOf 30=1:=by kernel_rfl
def WY:aH.cellsOf 52=2:=by kernel_rfl
def aqG:aH.cellsOf 26=1:=by kernel_rfl
def aIq:aH.cellsOf 66=2:=by kernel_rfl
def aqo:aH.bytesOf 3=8:=by kernel_rfl
def aqp:aH.bytesOf 52=32:=by kernel_rfl
section
variable {pF:Type} {enc:dC×ap->pF}
theorem aop{P:dL}{e:dC}{d:DataW pF}:∀{ds:J (DataW pF)} {i:O},ds[i]?=some d->∀n∈d.weights P e,n∈Gs P e ds:=by
 intro ds;induction ds with
 |nil=>intro i h;simp at h
 |cons x ds aW=>
  intro i h n ag;simp only[Gs,dT]
  grind
theorem abO{a:aA a8}{len cap:O}{x:DataW pF×J MemPlace}(h:qd enc aH bJ 0 (λ_=>ai) ai gi 30 [.slice a len cap]=some x)(hw:∀n∈x.1.weights aH 30,n<=qZ):
  ∃q:J o,Ints (whole bJ) ⟨a,len,cap⟩ q/\q.length<=17592186044416:=by
 have U:qZ=140737488351232:=by decide
 rcases open_ints underlying30 yc HF h with⟨dV,_⟩|⟨p,l,c,zs,dV,_,aq,hm,aE,M,gf,aaI⟩
 simp only[vj,JL,rP] at dV
 obtain⟨rfl,rfl,rfl⟩:=dV
 exact⟨[],⟨rfl,cw _,by simp,.inl rfl⟩,by simp⟩
 simp only[vj,JL,rP] at dV
 obtain⟨rfl,rfl,rfl⟩:=dV
 simp only[x5] at aE
 rw[F3] at hm
 have bP:(zs.take len).length=len:=by simp;omega
 have aa:zs.length*8<=qZ:=by have:=hw (zs.length*8) (by rw[M];simp only[Gt,show aH.underlying 30=some (.slice 3) from underlying30,dM];left;rw[aqo];congr 1;simp[lits];omega);exact this
 refine⟨zs.take len,⟨by simp;omega,aq,hm,.inr ⟨p,rfl,λi v e=>?_⟩⟩,by omega⟩
 rw[pw] at e
 rw[UZ]
 have hi:i<len:=by grind
 rw[Tq,b3 hi,dj (by omega)] at e
 simp only[Dt,ll] at e
 grind
instance:lF ax:=⟨⟨0,⟨none,0,0⟩,[]⟩⟩
def cells_one{x:DataW pF×J MemPlace}(h:qd enc aH bJ 0 (λ_=>ai) ai gi 30 [v]=some x):∃s:N,v=.slice s.a s.n s.c:=by rcases open_ints underlying30 yc HF h with⟨dV,_⟩|⟨p,l,c,zs,dV,_⟩;exact⟨⟨none,0,0⟩,by simpa using dV⟩;exact⟨⟨some p,l,c⟩,by simpa using dV⟩
theorem azA{a:aA a8}{len cap:O}{x:DataW pF×J MemPlace}(h:qd enc aH bJ 0 (λ_=>ai) ai gi 22 [.slice a len cap]=some x)(hw:∀n∈x.1.weights aH 22,n<=qZ):
  ∃l:J ax,dU (whole bJ) ⟨a,len,cap⟩ l/\(∀r∈l,r.v.length<=17592186044416)/\len<=17592186044416:=by
 have U:qZ=140737488351232:=by decide
 rcases Deep.open_slice underlying22 h with⟨dV,_⟩|⟨p,l,c,m,n,D,aps,dV,aa,aq,hm,uL,M,eC⟩
 simp only[vj,JL,rP] at dV
 obtain⟨rfl,rfl,rfl⟩:=dV
 exact⟨[],⟨⟨rfl,cw _,by simp,.inl rfl⟩,λ_ h=>(by cases h)⟩,λ_ h=>(by cases h),by omega⟩
 simp only[vj,JL,rP] at dV
 obtain⟨rfl,rfl,rfl⟩:=dV
 simp only[x5] at uL
 subst uL
 rw[F3] at hm
 have Nv:∀k,k∈(((lD len).map D).length+((lD (m-len)).map λj=>D (len+j)).length)*aH.bytesOf 52::(Gs aH 52 ((lD len).map D)++Gs aH 52 ((lD (m-len)).map λj=>D (len+j)))->k<=qZ:=by intro k hk;refine hw k ?_;rw[M];simp only[Gt,show aH.underlying 22=some (.slice 52) from underlying22];exact hk
 have kx:len*32<=qZ:=by
  have:=Nv _ (ik ..);rw[aqp] at this;simp at this;have e:len+(m-len)=m:=by omega
  omega
 have each:∀i,i<len->∃r:ax,bJ.cell? (p.add (i*2))=some (.int .i64 r.id)/\bJ.cell? ((p.add (i*2)).add 1)=some (.slice r.s.a r.s.n r.s.c)/\Ints (whole bJ) r.s r.v/\r.v.length<=17592186044416:=by
  intro i hi;obtain⟨yD,h1,h2⟩:=eC i (by omega);rw[WY] at h1;obtain⟨_,hlen,gf⟩:=World.cells?_some h1;obtain⟨hJ,ii,k,ir,_,ak,aR⟩:=trod_struct2 TI h2
  match yD,hlen with
  | [v0,v1],_=>
   simp only[HF,WX,JM,JN] at ak aR;obtain⟨q,fi,d0,_⟩:=yd yc ak;simp only[vj,rP] at fi;subst fi;obtain⟨s,rfl⟩:=cells_one aR;have aaH:∀n∈ii.1.weights aH 30,n<=qZ:=by intro n ag;refine Nv n (iX _ (kG _ (aop (i:=i) (d:=D i) (by simp[hi]) n ?_)));have asP:D i=.agg [hJ.1,ii.1]:=(Prod.mk.inj ir).1;rw[asP];simp only[Gt,show aH.underlying 52=some _ from TI];simp only[iw,Bz,DataW.weightsEach,dT];exact .inr (.inl ag)
   obtain⟨zs,aE,xN⟩:=abO aR aaH;have bA:=gf 0 (by omega);have c1:=gf 1 (by omega);exact⟨⟨q,s,zs⟩,bA,c1,aE,xN⟩
 obtain⟨f,ab⟩:=Deep.choose_lt each
 have nb:((lD len).map f).length=len:=by simp
 refine⟨(lD len).map f,⟨⟨?_,aq,hm,.inr ⟨p,rfl,λj v e=>?_⟩⟩,λr U=>?_⟩,λr U=>?_,by omega⟩
 rw[oc fO,nb]
 have aP:j<len*2:=by have:=(hG.1 e).1;rw[oc fO,nb] at this;exact this
 have aT:j=j/2*2+j%2:=by omega
 have av:j/2<len:=by omega
 rw[UZ]
 rw[aT,EF fO _ _ _ (Gr _ (by decide))] at e
 rw[pw,acm av] at e
 simp only[Dt,Oe] at e
 obtain⟨g0,g1,_,_⟩:=ab (j/2) av
 rw[aT,<-Addr.w4]
 have tj:j%2=0∨j%2=1:=by omega
 rcases tj with tj|tj
 rw[tj] at e ⊢
 simp only[cJ,Du,ll] at e
 subst e
 exact g0
 rw[tj] at e ⊢
 simp only[cJ,Gj,Du,ll] at e
 subst e
 exact g1
 obtain⟨i,hi,rfl⟩:=bQ.1 U
 exact(ab i (by simpa using hi)).2.2.1
 grind
end
end
section
variable{d:J o}{u:H}{i n:O}{T:dC}
def eQ:J o->o
 | []=>0|x::xs=>x+65536*eQ xs
def eG(i:O):o:=(65536 ^ i:O)
def akY:eG 0=1:=rfl
def Tf(i:O):eG (i+1)=65536*eG i:=by show((65536 ^ (i+1):O):o)=65536*((65536 ^ i:O):o);omega
def wq(i:O):1<=eG i:=acd.2 (Nat.pow_pos (by decide))
theorem N8(i j:O):eG (i+j)=eG i*eG j:=by
 show((65536 ^ (i+j):O):o)=((65536 ^ i:O):o)*((65536 ^ j:O):o)
 grind
theorem apq:∀(d:J o) (i:O) (x:o),i<d.length->eQ (d.set i x)=eQ d+(x-d.getD i 0)*eG i:=by
 intro d;induction d with
 |nil=>intro i x h;simp at h
 |cons y d aW=>
  intro i x h;cases i with
  |zero=>simp[eQ,akY];omega|succ i=>
   simp only[JE,eQ,List.getD_cons_succ,Tf]
   grind
def ra(d:J o):Prop:=d.length=8/\∀x∈d,0<=x/\x<65536
def Cg:∀{d:J o},(∀x∈d,0<=x/\x<65536)->0<=eQ d:=by
 intro d;induction d with
 |nil=>intro _;exact ps _
 |cons y d aW=>intro h;have h1:=h y (ik ..);have h2:=aW λx M=>h x (iX _ M);simp only[eQ];omega
def Wy:∀{d:J o},(∀x∈d,0<=x/\x<65536)->eQ d<eG d.length:=by
 intro d;induction d with
 |nil=>intro _;decide
 |cons y d aW=>intro h;have h1:=h y (ik ..);have h2:=aW λx M=>h x (iX _ M);simp only[eQ,jq,Tf];omega
theorem Wx:∀(a b:J o),eQ (a++b)=eQ a+eG a.length*eQ b:=by
 intro a;induction a with
 |nil=>intro b;simp[eQ,akY]
 |cons y a aW=>
  intro b;simp only[x7,eQ,jq,Tf]
  grind
def ra.set(h:ra d){x:o}(h0:0<=x)(h1:x<65536):ra (d.set i x):=
 ⟨by rw[Gk];exact h.1,λy aj=>by rcases alh aj with h2|h2;exact h.2 y h2;omega⟩
def ra.get(h:ra d)(hi:i<8):0<=d.getD i 0/\d.getD i 0<65536:=by
 have aq:i<d.length:=by rw[h.1];exact hi
 rw[jX,dj aq];exact h.2 _ (ln aq)
def zv(av:d.length=8)(hi:i<8):(u.ins n (.cells (iH d) T (0,0))).cell? ⟨n,i,none⟩=some (.int .i64 (d.getD i 0)):=by
 rw[HE];have aq:i<d.length:=by omega
 simp[iH,Tp,aq,jX]
def Td(av:d.length=8){i:o}(h0:0<=i)(hi:i<8):(u.ins n (.cells (iH d) T (0,0))).cell? ((cp n 0 none).add (i.toNat*1))=some (.int .i64 (d.getD i.toNat 0)):=by rw[wz,ib,kY];exact zv av (by omega)
def abK(av:d.length=8):(u.ins n (.cells (iH d) T (0,0))).cell? ⟨n,8,none⟩=some (.bool ao):=by rw[HE];simp[iH,av]
def Lb(h:d.length=8):d=[d.getD 0 0,d.getD 1 0,d.getD 2 0,d.getD 3 0,d.getD 4 0,d.getD 5 0,d.getD 6 0,d.getD 7 0]:=by
 match d,h with
 | [a,b,c,e,f,g,i,j],_=>rfl
theorem aCH{at' v:o}{K:o->o->o->o->o->o->o->o->ay->H->Prop}(av:ra d)(h0:0<=at')(l6:at'<=100)(aB:0<=v)(IT:v<4611686018427387904)(ae:0<v->eQ d+v*eG at'.toNat<eG 8)
  (h:∀gO:J o,ra gO->eQ gO=eQ d+v*eG at'.toNat->K (gO.getD 0 0) (gO.getD 1 0) (gO.getD 2 0) (gO.getD 3 0) (gO.getD 4 0) (gO.getD 5 0) (gO.getD 6 0) (gO.getD 7 0) ao u):
  VW (d.getD 0 0) (d.getD 1 0) (d.getD 2 0) (d.getD 3 0) (d.getD 4 0) (d.getD 5 0) (d.getD 6 0) (d.getD 7 0) ao at' v u K:=by
 refine hD.forget (ss:=[.agg [.int .i64,.int .i64,.int .i64,.int .i64,.int .i64,.int .i64,.int .i64,.int .i64,.bool]]) ?_
 apply aGG
 intro n ag
 have HM:(#[cN .i64 (d.getD 0 0),.int .i64 (d.getD 1 0),.int .i64 (d.getD 2 0),.int .i64 (d.getD 3 0),.int .i64 (d.getD 4 0),.int .i64 (d.getD 5 0),.int .i64 (d.getD 6 0),.int .i64 (d.getD 7 0),.bool ao]:cA ap)=iH d:=by
  conv=>rhs;rw[Lb av.1]
  rfl
 rw[HM]
 refine⟨λx a _ _ _ _ _ _ _ _ _ w=>0<=x/\x<4611686018427387904/\0<=a/\at'<=a/\(a<=8∨v=0)/\a<=100/\∃e,ra e/\w=u.ins n (.cells (iH e) 155 (0,0))/\eQ e+x*eG a.toNat=eQ d+v*eG at'.toNat/\(v=0->x=0),
  λ_ a _ _ _ _ _ _ _ _ _ _=>(9-a).toNat,⟨aB,IT,h0,ps _,?_,l6,d,av,rfl,rfl,λe=>e⟩,?_⟩
 by_cases e:v=0
 exact .inr e
 left
 have fS:=ae (by omega)
 by_cases hle:at'<=8
 exact hle
 exfalso
 have h1:=Cg av.2
 have h2:eG at'.toNat=eG (at'.toNat-8)*eG 8:=by rw[<-N8];congr 1;omega
 have h3:=wq (at'.toNat-8)
 have br:=wq 8
 have bL:eG 8<=eG (at'.toNat-8)*eG 8:=by have:=JO h3 (by omega:0<=eG 8);omega
 have gA:eG at'.toNat<=v*eG at'.toNat:=by have:=JO (show 1<=v by omega) (show 0<=eG at'.toNat by omega);omega
 omega
 rintro x a _ _ _ _ _ _ _ _ _ w ⟨bK,dr,a0,Y,a2,a3,e,he,rfl,zf,aE⟩
 refine⟨λM=>⟨λmx=>?_,λmx=>?_⟩,λM=>?_⟩
 exfalso
 have axi:0<v:=by omega
 have fS:=ae axi
 have atK:a=8:=by omega
 subst atK
 have h1:=Cg he.2
 have br:=wq 8
 have gA:eG 8<=x*eG 8:=by have:=JO (show 1<=x by omega) (show 0<=eG 8 by omega);omega
 grind
 have Z:=he.get (i:=a.toNat) (by omega)
 have t1:lE (x+e.getD a.toNat 0) 65536=(x+e.getD a.toNat 0)%65536:=TB (by omega)
 have t2:ff (x+e.getD a.toNat 0) 65536=(x+e.getD a.toNat 0)/65536:=Dz (by omega)
 refine⟨by decide,⟨a0,by omega⟩,_,Td he.1 a0 (by omega),⟨by omega,by omega⟩,by decide,by decide,⟨a0,by omega⟩,?_⟩
 rw[t1,t2]
 refine adA he.1 (by omega) ⟨by decide,⟨by omega,by omega⟩,⟨by omega,by omega⟩,⟨by omega,by omega,by omega,by omega,by omega,by omega,_,he.set (by omega) (by omega),rfl,?_,λe=>by have:=aE e;omega⟩,by dsimp only;omega⟩
 rw[apq _ _ _ (by rw[he.1];omega),show(a+1).toNat=a.toNat+1 by omega,Tf,<-zf]
 have key:(x+e.getD a.toNat 0)%65536+65536*((x+e.getD a.toNat 0)/65536)=x+e.getD a.toNat 0:=Int.emod_add_mul_ediv _ _
 generalize (x+e.getD a.toNat 0)%65536=r at*
 generalize (x+e.getD a.toNat 0)/65536=s at*
 generalize eG a.toNat=p at*
 have cB:s*(65536*p)=(65536*s)*p:=by grind
 grind
 have tw:x=0:=by omega
 refine⟨_,zv he.1 (i:=0) (by omega),_,zv he.1 (i:=1) (by omega),_,zv he.1 (i:=2) (by omega),_,zv he.1 (i:=3) (by omega),_,zv he.1 (i:=4) (by omega),_,zv he.1 (i:=5) (by omega),_,zv he.1 (i:=6) (by omega),_,zv he.1 (i:=7) (by omega),_,abK he.1,bX _ ag,h e he ?_⟩
 grind
end
