/- Texts of mine, joined and packed by pack.py. -/
import Derived.Test.YtnaemgklhjkdhaaGreatDoorMna4
import Derived.Shelf.SlSortCmp.WholeK
import Derived.Shelf.SlSortCmp.Whole1
import Derived.Shelf.SortG.Plain
import Derived.Shelf.SortG.SortNone
import Derived.Shelf.SlGeneric
import Derived.Shelf.Spec.TrailingZeros
import Derived.Shelf.LaysM
import Derived.Shelf.Strconv.Itoa3
import Derived.Shelf.Strconv.AtoiAll
import Derived.Shelf.Strconv.ErrVarAll
import Derived.Test.YtnaemgklhjkdhaaGreatDoorProg
import Derived.Shelf.SlSortCmp.NoneTotal
import Derived.RangeFuncIn
import Derived.OrdersIn
import Derived.SizedLaws
import Derived.Deep.Slices
import Derived.ChangeSame
import Derived.ChangeOld
import Derived.OpenShut
import Derived.ProofKit
import Derived.WalkKit
import Derived.JoinedOf
set_option linter.all false
set_option maxRecDepth 100000
noncomputable section
namespace Go.Proofs.YtnaemgklhjkdhaaGreatDoor
open H
section
variable{j n i k:Nat}{u:H}{s:J}{l:List aT}{d:Int}{q:List Int}
def y9:xp Tryz.prog 235 3 4:=⟨by kernel_rfl,by kernel_rfl,λ_=>by kernel_rfl⟩
theorem Kp{K:Int->H->Prop}(hs:ev u s l)(h:K (nh l d) u):xe s d u K:=by
 have key:∀z,nh l d=z->K z u:=λz e=>e▸h;have ac:=hs.len;have uX:=hs.max;refine fW.forget (ss:=[.one (.int .i64)]) ?_;apply ar8;intro jF hv;have hle:=H.le.refl u;refine⟨λh1=>⟨hle,key _ (if_pos (.inl h1))⟩,λh1=>⟨λh2=>⟨hle,key _ (if_pos (.inr h2))⟩,λh2=>⟨λh3=>⟨hle,key _ ?_⟩,λh3=>hv _ _ ?_⟩⟩⟩;unfold nh;omega;have W:nh l d=sF d [] l:=by unfold nh;omega
 rw[W] at key;clear hv jF;refine Sc λb Z iL=>?_;refine⟨λ_ i v=>0<=i/\i<=(s.n:Int)/\u.le v/\pK v b ((l.take i.toNat).map (·.id))/\sF d ((l.take i.toNat).map (·.id)) (l.drop i.toNat)=sF d [] l,λ_ i _=>s.n-i.toNat,
  ⟨by omega,by omega,bN _ Z,by simpa using iL,by simp⟩,?_⟩
 rintro _ i v ⟨h0,uT,av,iL,aa⟩;refine⟨λhi=>?_,λhi=>⟨av,key _ ?_⟩⟩;obtain⟨p,gj,r,ek,c0,c1,ai8⟩:=(hs.mono av).at h0 hi;rw[anQ ek] at aa;refine⟨p,gj,⟨h0,hi⟩,_,c0,_,c1,λau9 ahw=>⟨λaZ=>⟨av,key _ ?_⟩,λaZ=>⟨λbJ=>⟨av,key _ ?_⟩,λbJ=>Sb y9 iL ⟨λe0=>⟨av,key _ ?_⟩,λe0=>ahw _ _ ?_⟩⟩⟩⟩;omega;omega
 grind
 have e0:r.id∉(l.take i.toNat).map (·.id):=by simpa using e0
 rw[if_neg (λh=>h.elim (λh=>by omega) λh=>h.elim (λh=>by omega) λh=>e0 h)] at aa;refine pA ai8 ⟨λah=>⟨av,key _ ?_⟩,λhe=>J8 y9 iL e0 λbH Ex pg _=>⟨⟨by omega,by omega⟩,⟨by omega,by omega,?_,?_,?_⟩,by dsimp only;omega⟩⟩;omega;exact λg o N=>pg g o (av g o N) (λe=>by grind);rw[show(i+1).toNat=i.toNat+1 by omega,List.take_add_one,ek];simpa using Ex
 grind
 rw[List.drop_eq_nil_of_le (by omega)] at aa;exact aa.symm
def asked(l:List aT)(q:List Int):Int:=if fV q q.length≠0 then fV q q.length else nh l q.length
def aps{t:J}{K:Int->H->Prop}(hs:ev u s l)(ht:Ints u t q)(h:K (asked l q) u):Ly s t u K:=by have key:∀z,asked l q=z->K z u:=λz e=>e▸h;apply ash;rw[show(t.n:Int)=(q.length:Int) by rw[ht.len]];refine pA ht ⟨λah=>key _ (if_pos ah),λhe=>Kp hs (key _ (if_neg (by simpa using he)))⟩
def rz{l:List Int}(h:fV l d=0):1<=d/\d<=64/\(l.length:Int)=d/\ej l:=by unfold fV at h;split at h;rename_i h1;split at h;rename_i h2;exact⟨h1.1,h1.2.1,h1.2.2,by omega,h2⟩;cases h;cases h
def BG{l:List Int}(h:ej l)(h1:1<=l.length):fV l l.length=0:=by unfold fV;rw[if_pos ⟨by omega,by have:=h.1;omega,rfl⟩,if_pos h.2]
structure hp(l:List aT)(d:Int):Prop where
 ao:1<=d/\d<=64
 len:l.length<=512
 id:∀r∈l,1<=r.id/\r.id<=1000000000
 nodup:(l.map (·.id)).Nodup
 v:∀r∈l,(r.v.length:Int)=d/\ej r.v
theorem aad:∀{l:List aT} {seen:List Int},sF d seen l=0↔((∀r∈l,1<=r.id/\r.id<=1000000000/\r.id∉seen/\fV r.v d=0)/\(l.map (·.id)).Nodup):=by
 intro l;induction l with
 |nil=>intro seen;simp[sF]
 |cons r l aG=>
  intro seen;simp only[sF]
  grind
def FD:nh l d=0↔hp l d:=by unfold nh;constructor;intro h;split at h;cases h;split at h;cases h;rename_i h1 h2;obtain⟨h3,aZ⟩:=aad.1 h;exact⟨by omega,by omega,λr W=>⟨(h3 r W).1,(h3 r W).2.1⟩,aZ,λr W=>⟨(rz (h3 r W).2.2.2).2.2.1,(rz (h3 r W).2.2.2).2.2.2⟩⟩;intro h;have:=h.ao;have:=h.len;rw[if_neg (by omega),if_neg (by omega)];refine aad.2 ⟨λr W=>⟨(h.id r W).1,(h.id r W).2,by simp,?_⟩,h.nodup⟩;obtain⟨h1,h2⟩:=h.v r W;rw[<-h1];exact BG h2 (by omega)
structure jH(l:List aT)(q:List Int):Prop where
 Cg:ej q
 rows:hp l q.length
def CS:asked l q=0↔jH l q:=by unfold asked;constructor;intro h;split at h;rename_i ah;exact absurd h ah;rename_i he;exact⟨(rz (by simpa using he)).2.2.2,FD.1 h⟩;intro⟨h1,h2⟩;have av:=BG h1 (by have:=h2.ao;omega);rw[if_neg (by simp[av])];exact FD.2 h2
def UT(s t:J):hF Tryz.prog 173 2 #[(0,.slice s.a s.n s.c),(1,.slice t.a t.n t.c)]=some (23,[.slice s.a s.n s.c,.slice t.a t.n t.c]):=by kernel_rfl
def Ky{t:J}{a b:List Int}{K:Int->Int->Int->H->Prop}(hs:Ints u s a)(ht:Ints u t b)(ap:ej a)(h1:1<=a.length)(Z:ej b)(ai:a.length=b.length)
  (h:∀x y,cS x->cS y->dY x y=gS a b a.length->K x y 0 u):zy s t u K:=by
 refine fW.forget (ss:=[.agg [.int .u64,.int .u64],.one (.int .i64)]) ?_
 apply at4
 refine nU (UT _ _) λg N=>?_
 generalize kq:u.ins g _=u'
 have hle:u.le u':=by subst kq;exact bN _ N
 have c:∀j v,(#[Value.slice s.a s.n s.c,Value.slice t.a t.n t.c]:Array Value)[j]?=some v->u'.cell? ⟨g,j,none⟩=some v:=by intro j v av;subst kq;exact(aV (aS _ _ _) j).trans av
 clear kq N
 refine⟨λ_ i _ _ v=>v=u'/\0<=i/\i<=2,λ_ i _ _ _=>(2-i).toNat,⟨rfl,by omega,by omega⟩,?_⟩
 rintro _ i _ _ v ⟨rfl,jN,b9⟩
 rw[show(s.n:Int)=(a.length:Int) by rw[hs.len]]
 have ui:=BG ap h1
 have oQ:fV b a.length=0:=by rw[ai];exact BG Z (by omega)
 refine⟨λhi=>⟨_,rfl,⟨jN,hi⟩,?_⟩,λhi=>Kz (hs.mono hle) (ht.mono hle) ap Z ai λx y I af hw=>⟨hle,h x y I af hw⟩⟩
 have hi:i<2:=hi
 have E:i=0∨i=1:=by omega
 rcases E with rfl|rfl
 refine⟨s,c 0 _ rfl,pA (hs.mono hle) ⟨λah=>absurd ui ah,λ_=>⟨⟨by omega,by omega⟩,⟨rfl,by omega,by omega⟩,by dsimp only;omega⟩⟩⟩
 refine⟨t,c 1 _ rfl,pA (ht.mono hle) ⟨λah=>absurd oQ ah,λ_=>⟨⟨by omega,by omega⟩,⟨rfl,by omega,by omega⟩,by dsimp only;omega⟩⟩⟩
def F5{a b:List Int}(ap:ej a)(Z:ej b)(ai:a.length=b.length):kC (gS a b a.length):=by have:=F4 ap Z a.length (by omega) (by omega);have:=ap.1;unfold kC;constructor<;>omega
def hh(q:List Int)(r:aT):bk:=(r.id,gS r.v q r.v.length)
def jH.gh(h:jH l q){r:aT}(W:r∈l):kC (hh q r).2:=
 F5 (h.rows.v r W).2 h.Cg (by have:=(h.rows.v r W).1;omega)
def aqO:iG Tryz.prog 35=some (83,3,24,[.int .i64 0,.int .u64 0,.int .u64 0]):=by kernel_rfl
def avo(x y z:Int):hF Tryz.prog 35 1 #[(0,.agg #[.int .i64 x,.int .u64 y,.int .u64 z])]=some (83,[.int .i64 x,.int .u64 y,.int .u64 z]):=by kernel_rfl
theorem aE.lx{Y:H}{e:Nat}{xs:List Value}(h:aE Y u e k s xs)(ac:u n=none)(o:Obj):aE (Y.ins n o) (u.ins n o) e k s xs:=by
 refine⟨h.own.le λb x _ Z=>bN _ ac _ _ Z,λb x Z=>?_,λg N=>?_⟩;unfold H.ins at Z ⊢;split at Z
 grind
 rename_i fL;rw[if_neg fL];exact h.le b x Z;rcases h.own.is with h0|⟨bS,cur,ap,cH,_⟩;rw[h0] at N;simp[J.ad] at N;have:bS=g:=by simpa[J.ad,ap] using N
 subst this;rw[aL _ _ (λIu=>by grind)];exact h.fresh bS N
def H.le.none{u':H}(h:u.le u')(ac:u' n=none):u n=none:=by
 cases I:u n with
 |none=>rfl|some o=>rw[h _ _ I] at ac;cases ac
def oN{zs vs:List Value}{T:TypeId}{f:H->Prop}(ai:zs.length=vs.length)(h1:∀v∈vs,v.oneCell'=true)(M:f (u.ins n (.cells vs.toArray T (0,0)))):
  H.an (u.ins n (.cells zs.toArray T (0,0))) ⟨n,0,none⟩ vs f:=by
 refine⟨zs.toArray,T,aS _ _ _,rfl,by simp[ai],h1,?_⟩
 rw[yJ]
 have:wr zs.toArray 0 vs=vs.toArray:=by have:=Ci zs.toArray 0 vs (by simp[ai]);simp only[List.take_zero,List.nil_append,Nat.zero_add] at this;rw[List.drop_eq_nil_of_le (by simp[ai])] at this;apply Array.ext';rw[this];simp
 show f (u.ins n (.cells (wr zs.toArray 0 vs) T (0,0)))
 rw[this];exact M
theorem aoJ{α:Type}(A:List α)(z y:α)(B:List α):(A++z::B).set A.length y=A++y::B:=by
 grind
def aE.fN{Y:H}{e:Nat}{l:List bk}(h:aE Y u e 3 s (l.flatMap ey)):iZ u s l:=h.own.bR
def VS(l:List bk)(h:bk):l.flatMap ey++ [.int .i64 h.1,.int .u64 (cK h.2),.int .u64 (cO h.2)]=(l++ [h]).flatMap ey:=by simp[ey]
def hN{α:Type}(l:List α)(i j:Nat):List α:=
 match l[i]?,l[j]? with
 |some a,some b=>(l.set i b).set j a|_,_=>l
def B7{α:Type}{l:List α}(hi:i<l.length)(aH:j<l.length):hN l i j=(l.set i l[j]).set j l[i]:=by simp[hN,hi,aH]
def nm{α:Type}(l:List α)(i j:Nat):(hN l i j).length=l.length:=by unfold hN;split<;>simp
def zf{α:Type}{l:List α}(hi:i<l.length)(aH:j<l.length):(hN l i j).Perm l:=by rw[B7 hi aH];exact List.set_set_perm hi aH
theorem aqI{α:Type}{l:List α}(hi:i<l.length)(aH:j<l.length)(hk:k<l.length):
  (hN l i j)[k]?=if k=j then some l[i] else if k=i then some l[j] else some l[k]:=by
 rw[B7 hi aH]
 grind
structure lE{α:Type}(lt:α->α->Bool):Prop where
 asymm:∀a b,lt a b=true->lt b a=false
 trans:∀a b c,lt b a=false->lt c b=false->lt c a=false
variable {α:Type} [Inhabited α] {lt:α->α->Bool}
abbrev cj(i:Nat):Nat:=(i-1)/2
def gb(lt:α->α->Bool)(n:Nat)(l:List α):Prop:=∀i,0<i->i<n->lt (l.getD i default) (l.getD (cj i) default)=false
structure uy(lt:α->α->Bool)(l:List α)(j:Nat):Prop where
 pq:j<l.length
 others:∀i,0<i->i<l.length->i≠j->lt (l.getD i default) (l.getD (cj i) default)=false
 over:∀i,0<i->i<l.length->cj i=j->0<j->lt (l.getD i default) (l.getD (cj j) default)=false
theorem w8{l:List α}(hi:i<l.length)(aH:j<l.length)(hk:k<l.length):
  (hN l i j).getD k default=if k=j then l.getD i default else if k=i then l.getD j default else l.getD k default:=by
 rw[List.getD_eq_getElem?_getD,aqI hi aH hk]
 grind
theorem uy.done{l:List α}(h:uy lt l j)(aj:j=0∨lt (l.getD j default) (l.getD (cj j) default)=false):gb lt l.length l:=by
 intro i h0 hi;by_cases hK:i=j
 grind
 exact h.others i h0 hi hK
theorem uy.step(cE:lE lt){l:List α}(h:uy lt l j)(aH:0<j)(ai:lt (l.getD j default) (l.getD (cj j) default)=true):uy lt (hN l (cj j) j) (cj j):=by
 have jK:=h.pq;have jk:cj j<j:=by unfold cj;omega
 have hlen:=nm l (cj j) j;have g:∀k,k<l.length->(hN l (cj j) j).getD k default=if k=j then l.getD (cj j) default else if k=cj j then l.getD j default else l.getD k default:=
  λk hk=>w8 (by omega) jK hk
 refine⟨by omega,?_,?_⟩;intro i h0 hi ah;rw[hlen] at hi;have u2:cj i<i:=by unfold cj;omega
 rw[g i hi,g (cj i) (by omega)];by_cases hK:i=j;subst hK;rw[if_pos rfl,if_neg (by omega),if_pos rfl];exact cE.asymm _ _ ai;rw[if_neg hK,if_neg ah];by_cases PH:cj i=j;rw[if_pos PH];exact h.over i h0 hi PH aH;rw[if_neg PH];by_cases lT:cj i=cj j;rw[if_pos lT];have:=h.others i h0 hi hK;rw[lT] at this;exact cE.trans _ _ _ (cE.asymm _ _ ai) this;rw[if_neg lT];exact h.others i h0 hi hK;intro i h0 hi u2 IN;rw[hlen] at hi;have awR:cj (cj j)<cj j:=by unfold cj at*;omega
 have awi:cj i<i:=by unfold cj;omega
 rw[g i hi,g (cj (cj j)) (by omega),if_neg (by omega:¬cj (cj j)=j),if_neg (by omega:¬cj (cj j)=cj j)];have lT:=h.others (cj j) IN (by omega) (by omega);by_cases hK:i=j
 grind
 rw[if_neg hK,if_neg (by omega)];have:=h.others i h0 hi hK;rw[u2] at this;exact cE.trans _ _ _ lT this
structure rF(lt:α->α->Bool)(n:Nat)(l:List α)(j:Nat):Prop where
 le:n<=l.length
 others:∀i,0<i->i<n->cj i≠j->lt (l.getD i default) (l.getD (cj i) default)=false
 over:∀i,0<i->i<n->cj i=j->0<j->lt (l.getD i default) (l.getD (cj j) default)=false
theorem rF.done{l:List α}(h:rF lt n l j)(aj:∀i,0<i->i<n->cj i=j->lt (l.getD i default) (l.getD j default)=false):gb lt n l:=by
 intro i h0 hi;by_cases hK:cj i=j
 grind
 exact h.others i h0 hi hK
theorem rF.step(cE:lE lt){l:List α}{c:Nat}(h:rF lt n l j)(km:0<c)(E:c<n)(Ol:cj c=j)(ai:lt (l.getD c default) (l.getD j default)=true)
  (hm:∀i,0<i->i<n->cj i=j->lt (l.getD i default) (l.getD c default)=false):rF lt n (hN l j c) c:=by
 have ac:=h.le
 have awn:j<c:=by grind
 have hlen:=nm l j c
 have g:∀k,k<l.length->(hN l j c).getD k default=if k=c then l.getD j default else if k=j then l.getD c default else l.getD k default:=
  λk hk=>w8 (by omega) (by omega) hk
 refine⟨by omega,?_,?_⟩
 intro i h0 hi ah
 have u2:cj i<i:=by unfold cj;omega
 rw[g i (by omega),g (cj i) (by omega),if_neg ah]
 by_cases Xf:i=c
 subst Xf
 rw[if_pos rfl,if_pos Ol]
 exact cE.asymm _ _ ai
 rw[if_neg Xf]
 by_cases hK:i=j
 subst hK
 rw[if_pos rfl,if_neg (by omega)]
 have:=h.over c km E Ol h0
 exact this
 rw[if_neg hK]
 by_cases IN:cj i=j
 grind
 rw[if_neg IN];exact h.others i h0 hi IN
 intro i h0 hi u2 _
 have awP:cj i<i:=by unfold cj;omega
 rw[g i (by omega),g (cj c) (by omega),if_neg (by omega:¬i=c),if_neg (by omega:¬i=j),Ol,if_neg (by omega:¬j=c),if_pos rfl]
 have:=h.others i h0 hi (by omega)
 grind
theorem gb.root(cE:lE lt){l:List α}(h:gb lt n l):∀i,i<n->lt (l.getD i default) (l.getD 0 default)=false:=by
 intro i;induction i using Nat.strongRecOn with
 |_ i aG=>
  intro hi;by_cases h0:i=0;subst h0;cases e:lt (l.getD 0 default) (l.getD 0 default) with
  |false=>rfl|true=>have:=cE.asymm _ _ e;grind
  have aa:cj i<i:=by unfold cj;omega
  exact cE.trans _ _ _ (aG (cj i) aa (by omega)) (h i (by omega) hi)
end
section
variable{u:H}{K:H->Prop}
def auQ(bY:Array TypeId)(t:TypeId)(p:Addr)(a b:ByteArray):Builtin.ssaWrapNilChk_ bY t #[.pointer (some p),.string a,.string b]=pure (.pointer (some p)):=rfl
def RU{P:Program}{eE:Nat}{t e:TypeId}{i:TypeInfo}{name:String}{m:Method}{f:FuncId}(hi:P.info? t=some i)(hm:i.methods.find? (·.name==name)=some m)(aa:m.path=#[])
  (M:m.func=some (f,false)) (hu:P.underlying t=some (.pointer e)) {p:Addr} {v:Value} {w:World} (ai:(loadVar e p).run P w=.ok v w):
  (method (eE+1) t (.pointer (some p)) name).run P w=.ok (f,v) w:=by
 unfold method
 simp[Sem.run_bind,typeInfo,hi,Result.andThen,hm,aa,M,follow,receiverAt,run_underlying hu,Place.get,auQ,strVal,asAddr,ai]
def BR{P:Program}{eE:Nat}{t e:TypeId}{i:TypeInfo}{name:String}{m:Method}{f:FuncId}(hi:P.info? t=some i)(hm:i.methods.find? (·.name==name)=some m)(aa:m.path=#[])
  (M:m.func=some (f,true)) (hu:P.underlying t=some (.pointer e)) {p:Option Addr} {w:World}:
  (method (eE+1) t (.pointer p) name).run P w=.ok (f,.pointer p) w:=by
 unfold method
 simp[Sem.run_bind,typeInfo,hi,Result.andThen,hm,aa,M,follow,receiverAt,run_underlying hu,Place.get]
theorem abM{α:Type}{l:List α}{i j k:Nat}(hi:i≠k)(aH:j≠k):(hN l i j)[k]?=l[k]?:=by
 unfold hN
 grind
structure qx{α:Type}[Inhabited α](recv:Value)(an:H->List α->Prop)(lt:α->α->Bool):Prop where
 len:∀{u l} {K:Int->H->Prop},an u l->K (l.length:Int) u->lB Tryz.prog recv "Len" #[] [.one (.int .i64)] u K
 less:∀{u l} {i j:Int} {K:Bool->H->Prop},an u l->0<=i->i<l.length->0<=j->j<l.length->K (lt (l.getD i.toNat default) (l.getD j.toNat default)) u->
  lB Tryz.prog recv "Less" #[.int .i64 i,.int .i64 j] [.one .bool] u K
 swap:∀{u l} {i j:Int} {K:H->Prop},an u l->0<=i->i<l.length->0<=j->j<l.length->(∀u',an u' (hN l i.toNat j.toNat)->K u')->
  lB Tryz.prog recv "Swap" #[.int .i64 i,.int .i64 j] [] u K
 small:∀{u l},an u l->l.length<=1099511627776
section
variable {α:Type} [Inhabited α] {recv:Value} {an:H->List α->Prop} {lt:α->α->Bool}
def abd(cu:qx recv an lt)(L:lE lt){l:List α}{j:Int}(hs:an u l)(h0:0<=j)(hu:uy lt l j.toNat)
  (ae:∀u' bi,an u' bi->bi.Perm l->gb lt bi.length bi->K u'):Cr recv j u K:=by
 have fc:=cu.small hs
 apply acz
 refine⟨λx v=>0<=x/\∃bi,an v bi/\bi.Perm l/\uy lt bi x.toNat,λx _=>x.toNat,⟨h0,l,hs,.refl _,hu⟩,?_⟩
 rintro x v ⟨b0,bi,eT,aa,kq⟩
 have hlen:=aa.length_eq
 have cr:=kq.pq
 refine⟨⟨by omega,by omega⟩,by decide,?_⟩
 by_cases I:x=0
 subst I
 refine⟨⟨by decide,by decide⟩,λ_=>ae _ _ eT aa (kq.done (.inl rfl)),λh=>absurd (by decide) h⟩
 have ht:Int.tdiv (x-1) 2=(x-1)/2:=Int.tdiv_eq_ediv_of_nonneg (by omega)
 have nH:((x-1)/2).toNat=cj x.toNat:=by unfold cj;omega
 rw[ht]
 refine⟨⟨by omega,by omega⟩,λh=>by omega,λ_=>cu.less eT b0 (by omega) (by omega) (by omega) ?_⟩
 rw[nH]
 refine⟨λZ=>ae _ _ eT aa (kq.done (.inr (by simpa using Z))),λZ=>cu.swap eT (by omega) (by omega) b0 (by omega) λu' dh=>⟨⟨by omega,_,dh,?_,?_⟩,by dsimp only;omega⟩⟩
 rw[nH]
 exact(zf (by unfold cj;omega) cr).trans aa
 rw[nH]
 exact kq.step L (by omega) Z
theorem abc(cu:qx recv an lt)(L:lE lt){l:List α}{j n:Int}{K:Bool->H->Prop}(hs:an u l)(h0:0<=j)(ac:n<=l.length)(hu:rF lt n.toNat l j.toNat)
  (ae:∀b u' bi,an u' bi->bi.Perm l->gb lt n.toNat bi->(∀k:Nat,n<=k->bi[k]?=l[k]?)->K b u') (aH:j<n∨j<=0):Cq recv j n u K:=by
 have fc:=cu.small hs
 apply acy
 intro jF hv
 refine⟨λx v=>0<=x/\(x<n∨x<=0)/\∃bi,an v bi/\bi.Perm l/\rF lt n.toNat bi x.toNat/\∀k:Nat,n<=k->bi[k]?=l[k]?,λx _=>(n-x).toNat,⟨h0,aH,l,hs,.refl _,hu,λ_ _=>rfl⟩,?_⟩
 rintro x v ⟨b0,Je,bi,eT,aa,aj,mr⟩
 have hlen:=aa.length_eq
 have done:∀{bH},an bH bi->(∀i,0<i->i<n.toNat->cj i=x.toNat->lt (bi.getD i default) (bi.getD x.toNat default)=false)->jF x bH:=λdh h=>
  hv _ _ (ae _ _ _ dh aa (aj.done h) mr)
 refine⟨⟨by omega,by omega⟩,⟨by omega,by omega⟩,λG2 xR=>⟨λh=>done eT λi i0 i1 i2=>by unfold cj at i2;omega,λh=>⟨λh2=>by omega,λ_=>xR _ ?_⟩⟩⟩
 clear xR G2
 intro CF Dw
 have cL:∀c:Int,0<c->c<n->cj c.toNat=x.toNat->(∀i,0<i->i<n.toNat->cj i=x.toNat->lt (bi.getD i default) (bi.getD c.toNat default)=false)->CF c v:=by
  intro c c0 c1 c2 hm;have xZ:x<c:=by unfold cj at c2;omega
  refine Dw _ _ (cu.less eT (by omega) (by omega) b0 (by omega) ⟨λZ=>done eT λi i0 i1 i2=>?_,λZ=>cu.swap eT b0 (by omega) (by omega) (by omega) λu' dh=>⟨⟨by omega,.inl c1,_,dh,?_,?_,?_⟩,by dsimp only;omega⟩⟩);exact L.trans _ _ _ (by simpa using Z) (hm i i0 i1 i2);exact(zf (by omega) (by omega)).trans aa;exact aj.step L (by omega) (by omega) c2 Z hm;intro k hk;rw[abM (by omega) (by omega)];exact mr k hk
 clear Dw
 have EU:∀a,lt a a=false:=λa=>by
  cases e:lt a a with
  |false=>rfl|true=>have:=L.asymm _ _ e;grind
 have fk:cj (2*x+1).toNat=x.toNat:=by unfold cj;omega
 have da:cj (2*x+1+1).toNat=x.toNat:=by unfold cj;omega
 have two:∀i,0<i->i<n.toNat->cj i=x.toNat->i=(2*x+1).toNat∨i=(2*x+1+1).toNat:=λi i0 _ i2=>by unfold cj at i2;omega
 refine⟨⟨by omega,by omega⟩,λh2=>cu.less eT (by omega) (by omega) (by omega) (by omega) ⟨λZ=>cL _ (by omega) h2 da λi i0 i1 i2=>?_,λZ=>cL _ (by omega) (by omega) fk λi i0 i1 i2=>?_⟩,
  λh2=>cL _ (by omega) (by omega) fk λi i0 i1 i2=>?_⟩
 rcases two i i0 i1 i2 with rfl|rfl
 exact L.asymm _ _ Z
 exact EU _
 rcases two i i0 i1 i2 with rfl|rfl
 exact EU _
 exact Z
 rcases two i i0 i1 i2 with rfl|rfl
 exact EU _
 omega
theorem gb.afY{l:List α}{n:Nat}(h:gb lt n l)(ac:n<=l.length)(y:α):rF lt n (l.set 0 y) 0:=by
 refine⟨by simpa using ac,λi i0 i1 i2=>?_,λi i0 i1 i2 h0=>by omega⟩;have aa:cj i≠0:=i2;have g:∀k,k≠0->(l.set 0 y).getD k default=l.getD k default:=λk hk=>by
  grind
 rw[g i (by omega),g _ aa];exact h i i0 i1
def apz(cu:qx recv an lt)(L:lE lt){l:List α}(hs:an u l)(ah:0<l.length)(aj:rF lt l.length l 0)
  (ae:∀u' bi,an u' bi->bi.Perm l->gb lt bi.length bi->K u'):Lz recv 0 u K:=by
 apply asq
 refine cu.len hs (abc cu L hs (by omega) (by omega) (by simpa using aj) (λb u' bi eT aa bW _=>?_) (.inl (by omega)))
 have hlen:=aa.length_eq
 have ko:gb lt bi.length bi:=by rw[hlen];simpa using bW
 refine⟨λ_=>abd cu L eT (by omega) ⟨by show 0<bi.length;omega,λi i0 i1 _=>ko i i0 i1,λi i0 i1 _ h=>absurd h (by decide)⟩ λbE cZ dh fD ty=>ae _ _ dh (fD.trans aa) ty,λ_=>ae _ _ eT aa ko⟩
theorem abb(cu:qx recv an lt)(L:lE lt){l:List α}{x:Value}{y:α}(bW:gb lt l.length l)
  (PK:∀{K:H->Prop},(∀u',an u' (l++ [y])->K u')->lB Tryz.prog recv "Push" #[x] [] u K)
  (ae:∀u' bi,an u' bi->bi.Perm (l++ [y])->gb lt bi.length bi->K u'):uo recv x u K:=by
 apply acx
 refine PK λu' hs=>cu.len hs ?_
 have fc:=cu.small hs
 simp only[List.length_append,List.length_singleton] at fc ⊢
 refine⟨⟨by omega,by omega⟩,abd cu L hs (by omega) ⟨by simp,λi i0 i1 i2=>?_,λi i0 i1 i2=>?_⟩ ae⟩
 simp only[List.length_append,List.length_singleton] at i1
 have hi:i<l.length:=by omega
 have g:∀k,k<l.length->(l++ [y]).getD k default=l.getD k default:=λk hk=>by
  grind
 rw[g i hi,g _ (by unfold cj;omega)]
 exact bW i i0 hi
 grind
end
end
end Go.Proofs.YtnaemgklhjkdhaaGreatDoor
namespace Go.Proofs
open Go.Shelf
def Tryz.aoR:Go.Shelf.Ren:=⟨fun|6=>103|15=>168|14=>167|28=>226|29=>227|20=>218|21=>219|22=>220|23=>221|24=>222|25=>223|26=>224|27=>225|46=>262|47=>263|48=>264|49=>265|50=>266|57=>280|n=>n,fun|22=>35|24=>83|25=>218|3=>3|39=>315|0=>0|53=>281|55=>24|4=>4|46=>373|45=>372|50=>289|5=>5|9=>9|66=>409|70=>412|76=>425|77=>426|n=>n,fun|n=>n⟩
def Tryz.aaU:Go.Proofs.SlLaysF0.n6 Tryz.prog Tryz.aoR:={
 mixed:=by kernel_rfl
 f6:=⟨Tryz.f103.name,by decide,Tryz.func103.trans (congrArg some (by kernel_rfl))⟩
 f14:=⟨Tryz.f167.name,by decide,Tryz.func167.trans (congrArg some (by kernel_rfl))⟩
 f15:=Tryz.func168.trans (congrArg some (by kernel_rfl))
 f20:=⟨Tryz.f218.name,by decide,Tryz.func218.trans (congrArg some (by kernel_rfl))⟩
 f21:=⟨Tryz.f219.name,by decide,Tryz.func219.trans (congrArg some (by kernel_rfl))⟩
 f22:=⟨Tryz.f220.name,by decide,Tryz.func220.trans (congrArg some (by kernel_rfl))⟩
 f23:=⟨Tryz.f221.name,by decide,Tryz.func221.trans (congrArg some (by kernel_rfl))⟩
 f24:=⟨Tryz.f222.name,by decide,Tryz.func222.trans (congrArg some (by kernel_rfl))⟩
 f25:=⟨Tryz.f223.name,by decide,Tryz.func223.trans (congrArg some (by kernel_rfl))⟩
 f26:=⟨Tryz.f224.name,by decide,Tryz.func224.trans (congrArg some (by kernel_rfl))⟩
 f27:=⟨Tryz.f225.name,by decide,Tryz.func225.trans (congrArg some (by kernel_rfl))⟩
 f28:=Tryz.func226.trans (congrArg some (by kernel_rfl))
 f29:=Tryz.func227.trans (congrArg some (by kernel_rfl))
 f46:=⟨Tryz.f262.name,by decide,Tryz.func262.trans (congrArg some (by kernel_rfl))⟩
 f47:=Tryz.func263.trans (congrArg some (by kernel_rfl))
 f48:=Tryz.func264.trans (congrArg some (by kernel_rfl))
 f49:=⟨Tryz.f265.name,by decide,Tryz.func265.trans (congrArg some (by kernel_rfl))⟩
 f50:=⟨Tryz.f266.name,by decide,Tryz.func266.trans (congrArg some (by kernel_rfl))⟩
 f57:=⟨Tryz.f280.name,by decide,Tryz.func280.trans (congrArg some (by kernel_rfl))⟩
 t0:=Tryz.underlying0
 a0:=Tryz.isAgg0
 z0:=Tryz.sizeOf0
 v0:=Tryz.zeroValue0
 t3:=Tryz.underlying3
 a3:=Tryz.isAgg3
 z3:=Tryz.sizeOf3
 v3:=Tryz.zeroValue3
 t4:=Tryz.underlying4
 a4:=Tryz.isAgg4
 z4:=Tryz.sizeOf4
 v4:=Tryz.zeroValue4
 t5:=Tryz.underlying5
 a5:=Tryz.isAgg5
 z5:=Tryz.sizeOf5
 v5:=Tryz.zeroValue5
 t9:=Tryz.underlying9
 a9:=Tryz.isAgg9
 z9:=Tryz.sizeOf9
 v9:=Tryz.zeroValue9
 t22:=Tryz.underlying35
 a22:=Tryz.isAgg35
 z22:=Tryz.sizeOf35
 v22:=Tryz.zeroValue35
 t25:=Tryz.underlying218
 a25:=Tryz.isAgg218
 z25:=Tryz.sizeOf218
 v25:=Tryz.zeroValue218
 t39:=Tryz.underlying315
 a39:=Tryz.isAgg315
 z39:=Tryz.sizeOf315
 v39:=Tryz.zeroValue315
 t45:=Tryz.underlying372
 a45:=Tryz.isAgg372
 z45:=Tryz.sizeOf372
 v45:=Tryz.zeroValue372
 t46:=Tryz.underlying373
 a46:=Tryz.isAgg373
 z46:=Tryz.sizeOf373
 v46:=Tryz.zeroValue373
 t50:=Tryz.underlying289
 a50:=Tryz.isAgg289
 z50:=Tryz.sizeOf289
 v50:=Tryz.zeroValue289
 t53:=Tryz.underlying281
 a53:=Tryz.isAgg281
 z53:=Tryz.sizeOf281
 v53:=Tryz.zeroValue281
 t55:=Tryz.underlying24
 a55:=Tryz.isAgg24
 z55:=Tryz.sizeOf24
 v55:=Tryz.zeroValue24
 t66:=Tryz.underlying409
 a66:=Tryz.isAgg409
 z66:=Tryz.sizeOf409
 v66:=Tryz.zeroValue409
 t70:=Tryz.underlying412
 a70:=Tryz.isAgg412
 z70:=Tryz.sizeOf412
 v70:=Tryz.zeroValue412
 t76:=Tryz.underlying425
 a76:=Tryz.isAgg425
 z76:=Tryz.sizeOf425
 v76:=Tryz.zeroValue425
 t77:=Tryz.underlying426
 a77:=Tryz.isAgg426
 z77:=Tryz.sizeOf426
 v77:=Tryz.zeroValue426}
def Tryz.aoT:Go.Shelf.Ren:=⟨fun|53=>272|64=>168|63=>290|78=>226|79=>227|70=>309|71=>310|72=>311|73=>312|74=>313|75=>314|59=>315|76=>316|77=>317|88=>327|89=>263|90=>264|91=>328|92=>329|68=>228|96=>332|n=>n,fun|22=>23|23=>3|3=>3|51=>315|0=>0|67=>281|69=>24|4=>4|61=>373|60=>372|44=>289|5=>5|9=>9|75=>409|79=>412|83=>425|84=>426|n=>n,fun|n=>n⟩
def Tryz.aaW:Go.Proofs.SlLaysN.n53 Tryz.prog Tryz.aoT:={
 mixed:=by kernel_rfl
 f53:=⟨Tryz.f272.name,by decide,Tryz.func272.trans (congrArg some (by kernel_rfl))⟩
 f59:=⟨Tryz.f315.name,by decide,Tryz.func315.trans (congrArg some (by kernel_rfl))⟩
 f63:=⟨Tryz.f290.name,by decide,Tryz.func290.trans (congrArg some (by kernel_rfl))⟩
 f64:=Tryz.func168.trans (congrArg some (by kernel_rfl))
 f68:=⟨Tryz.f228.name,by decide,Tryz.func228.trans (congrArg some (by kernel_rfl))⟩
 f70:=⟨Tryz.f309.name,by decide,Tryz.func309.trans (congrArg some (by kernel_rfl))⟩
 f71:=⟨Tryz.f310.name,by decide,Tryz.func310.trans (congrArg some (by kernel_rfl))⟩
 f72:=⟨Tryz.f311.name,by decide,Tryz.func311.trans (congrArg some (by kernel_rfl))⟩
 f73:=⟨Tryz.f312.name,by decide,Tryz.func312.trans (congrArg some (by kernel_rfl))⟩
 f74:=⟨Tryz.f313.name,by decide,Tryz.func313.trans (congrArg some (by kernel_rfl))⟩
 f75:=⟨Tryz.f314.name,by decide,Tryz.func314.trans (congrArg some (by kernel_rfl))⟩
 f76:=⟨Tryz.f316.name,by decide,Tryz.func316.trans (congrArg some (by kernel_rfl))⟩
 f77:=⟨Tryz.f317.name,by decide,Tryz.func317.trans (congrArg some (by kernel_rfl))⟩
 f78:=Tryz.func226.trans (congrArg some (by kernel_rfl))
 f79:=Tryz.func227.trans (congrArg some (by kernel_rfl))
 f88:=⟨Tryz.f327.name,by decide,Tryz.func327.trans (congrArg some (by kernel_rfl))⟩
 f89:=Tryz.func263.trans (congrArg some (by kernel_rfl))
 f90:=Tryz.func264.trans (congrArg some (by kernel_rfl))
 f91:=⟨Tryz.f328.name,by decide,Tryz.func328.trans (congrArg some (by kernel_rfl))⟩
 f92:=⟨Tryz.f329.name,by decide,Tryz.func329.trans (congrArg some (by kernel_rfl))⟩
 f96:=⟨Tryz.f332.name,by decide,Tryz.func332.trans (congrArg some (by kernel_rfl))⟩
 t0:=Tryz.underlying0
 a0:=Tryz.isAgg0
 z0:=Tryz.sizeOf0
 v0:=Tryz.zeroValue0
 t3:=Tryz.underlying3
 a3:=Tryz.isAgg3
 z3:=Tryz.sizeOf3
 v3:=Tryz.zeroValue3
 t4:=Tryz.underlying4
 a4:=Tryz.isAgg4
 z4:=Tryz.sizeOf4
 v4:=Tryz.zeroValue4
 t5:=Tryz.underlying5
 a5:=Tryz.isAgg5
 z5:=Tryz.sizeOf5
 v5:=Tryz.zeroValue5
 t9:=Tryz.underlying9
 a9:=Tryz.isAgg9
 z9:=Tryz.sizeOf9
 v9:=Tryz.zeroValue9
 t22:=Tryz.underlying23
 a22:=Tryz.isAgg23
 z22:=Tryz.sizeOf23
 v22:=Tryz.zeroValue23
 t23:=Tryz.underlying3
 a23:=Tryz.isAgg3
 z23:=Tryz.sizeOf3
 v23:=Tryz.zeroValue3
 t44:=Tryz.underlying289
 a44:=Tryz.isAgg289
 z44:=Tryz.sizeOf289
 v44:=Tryz.zeroValue289
 t51:=Tryz.underlying315
 a51:=Tryz.isAgg315
 z51:=Tryz.sizeOf315
 v51:=Tryz.zeroValue315
 t60:=Tryz.underlying372
 a60:=Tryz.isAgg372
 z60:=Tryz.sizeOf372
 v60:=Tryz.zeroValue372
 t61:=Tryz.underlying373
 a61:=Tryz.isAgg373
 z61:=Tryz.sizeOf373
 v61:=Tryz.zeroValue373
 t67:=Tryz.underlying281
 a67:=Tryz.isAgg281
 z67:=Tryz.sizeOf281
 v67:=Tryz.zeroValue281
 t69:=Tryz.underlying24
 a69:=Tryz.isAgg24
 z69:=Tryz.sizeOf24
 v69:=Tryz.zeroValue24
 t75:=Tryz.underlying409
 a75:=Tryz.isAgg409
 z75:=Tryz.sizeOf409
 v75:=Tryz.zeroValue409
 t79:=Tryz.underlying412
 a79:=Tryz.isAgg412
 z79:=Tryz.sizeOf412
 v79:=Tryz.zeroValue412
 t83:=Tryz.underlying425
 a83:=Tryz.isAgg425
 z83:=Tryz.sizeOf425
 v83:=Tryz.zeroValue425
 t84:=Tryz.underlying426
 a84:=Tryz.isAgg426
 z84:=Tryz.sizeOf426
 v84:=Tryz.zeroValue426}
def Tryz.aoV:Go.Shelf.Ren:=⟨fun|6=>131|15=>168|14=>205|28=>226|29=>227|20=>250|21=>251|22=>252|23=>253|24=>254|25=>255|26=>256|27=>257|46=>276|47=>263|48=>264|49=>277|50=>278|57=>300|n=>n,fun|22=>22|24=>34|25=>255|3=>3|39=>315|0=>0|53=>281|55=>24|4=>4|46=>373|45=>372|50=>289|5=>5|9=>9|66=>409|70=>412|76=>425|77=>426|n=>n,fun|n=>n⟩
def Tryz.aaY:Go.Proofs.SlLaysF0.n6 Tryz.prog Tryz.aoV:={
 mixed:=by kernel_rfl
 f6:=⟨Tryz.f131.name,by decide,Tryz.func131.trans (congrArg some (by kernel_rfl))⟩
 f14:=⟨Tryz.f205.name,by decide,Tryz.func205.trans (congrArg some (by kernel_rfl))⟩
 f15:=Tryz.func168.trans (congrArg some (by kernel_rfl))
 f20:=⟨Tryz.f250.name,by decide,Tryz.func250.trans (congrArg some (by kernel_rfl))⟩
 f21:=⟨Tryz.f251.name,by decide,Tryz.func251.trans (congrArg some (by kernel_rfl))⟩
 f22:=⟨Tryz.f252.name,by decide,Tryz.func252.trans (congrArg some (by kernel_rfl))⟩
 f23:=⟨Tryz.f253.name,by decide,Tryz.func253.trans (congrArg some (by kernel_rfl))⟩
 f24:=⟨Tryz.f254.name,by decide,Tryz.func254.trans (congrArg some (by kernel_rfl))⟩
 f25:=⟨Tryz.f255.name,by decide,Tryz.func255.trans (congrArg some (by kernel_rfl))⟩
 f26:=⟨Tryz.f256.name,by decide,Tryz.func256.trans (congrArg some (by kernel_rfl))⟩
 f27:=⟨Tryz.f257.name,by decide,Tryz.func257.trans (congrArg some (by kernel_rfl))⟩
 f28:=Tryz.func226.trans (congrArg some (by kernel_rfl))
 f29:=Tryz.func227.trans (congrArg some (by kernel_rfl))
 f46:=⟨Tryz.f276.name,by decide,Tryz.func276.trans (congrArg some (by kernel_rfl))⟩
 f47:=Tryz.func263.trans (congrArg some (by kernel_rfl))
 f48:=Tryz.func264.trans (congrArg some (by kernel_rfl))
 f49:=⟨Tryz.f277.name,by decide,Tryz.func277.trans (congrArg some (by kernel_rfl))⟩
 f50:=⟨Tryz.f278.name,by decide,Tryz.func278.trans (congrArg some (by kernel_rfl))⟩
 f57:=⟨Tryz.f300.name,by decide,Tryz.func300.trans (congrArg some (by kernel_rfl))⟩
 t0:=Tryz.underlying0
 a0:=Tryz.isAgg0
 z0:=Tryz.sizeOf0
 v0:=Tryz.zeroValue0
 t3:=Tryz.underlying3
 a3:=Tryz.isAgg3
 z3:=Tryz.sizeOf3
 v3:=Tryz.zeroValue3
 t4:=Tryz.underlying4
 a4:=Tryz.isAgg4
 z4:=Tryz.sizeOf4
 v4:=Tryz.zeroValue4
 t5:=Tryz.underlying5
 a5:=Tryz.isAgg5
 z5:=Tryz.sizeOf5
 v5:=Tryz.zeroValue5
 t9:=Tryz.underlying9
 a9:=Tryz.isAgg9
 z9:=Tryz.sizeOf9
 v9:=Tryz.zeroValue9
 t22:=Tryz.underlying22
 a22:=Tryz.isAgg22
 z22:=Tryz.sizeOf22
 v22:=Tryz.zeroValue22
 t25:=Tryz.underlying255
 a25:=Tryz.isAgg255
 z25:=Tryz.sizeOf255
 v25:=Tryz.zeroValue255
 t39:=Tryz.underlying315
 a39:=Tryz.isAgg315
 z39:=Tryz.sizeOf315
 v39:=Tryz.zeroValue315
 t45:=Tryz.underlying372
 a45:=Tryz.isAgg372
 z45:=Tryz.sizeOf372
 v45:=Tryz.zeroValue372
 t46:=Tryz.underlying373
 a46:=Tryz.isAgg373
 z46:=Tryz.sizeOf373
 v46:=Tryz.zeroValue373
 t50:=Tryz.underlying289
 a50:=Tryz.isAgg289
 z50:=Tryz.sizeOf289
 v50:=Tryz.zeroValue289
 t53:=Tryz.underlying281
 a53:=Tryz.isAgg281
 z53:=Tryz.sizeOf281
 v53:=Tryz.zeroValue281
 t55:=Tryz.underlying24
 a55:=Tryz.isAgg24
 z55:=Tryz.sizeOf24
 v55:=Tryz.zeroValue24
 t66:=Tryz.underlying409
 a66:=Tryz.isAgg409
 z66:=Tryz.sizeOf409
 v66:=Tryz.zeroValue409
 t70:=Tryz.underlying412
 a70:=Tryz.isAgg412
 z70:=Tryz.sizeOf412
 v70:=Tryz.zeroValue412
 t76:=Tryz.underlying425
 a76:=Tryz.isAgg425
 z76:=Tryz.sizeOf425
 v76:=Tryz.zeroValue425
 t77:=Tryz.underlying426
 a77:=Tryz.isAgg426
 z77:=Tryz.sizeOf426
 v77:=Tryz.zeroValue426}
def Tryz.aoU:Go.Shelf.Ren:=⟨fun|6=>248|15=>168|14=>275|28=>226|29=>227|20=>292|21=>293|22=>294|23=>295|24=>296|25=>297|26=>298|27=>299|46=>319|47=>263|48=>264|49=>320|50=>321|57=>330|n=>n,fun|22=>23|24=>3|25=>317|3=>3|39=>315|0=>0|53=>281|55=>24|4=>4|46=>373|45=>372|50=>289|5=>5|9=>9|66=>409|70=>412|76=>425|77=>426|n=>n,fun|n=>n⟩
def Tryz.aaX:Go.Proofs.SlLaysF.n6 Tryz.prog Tryz.aoU:={
 mixed:=by kernel_rfl
 f6:=⟨Tryz.f248.name,by decide,Tryz.func248.trans (congrArg some (by kernel_rfl))⟩
 f14:=⟨Tryz.f275.name,by decide,Tryz.func275.trans (congrArg some (by kernel_rfl))⟩
 f15:=Tryz.func168.trans (congrArg some (by kernel_rfl))
 f20:=⟨Tryz.f292.name,by decide,Tryz.func292.trans (congrArg some (by kernel_rfl))⟩
 f21:=⟨Tryz.f293.name,by decide,Tryz.func293.trans (congrArg some (by kernel_rfl))⟩
 f22:=⟨Tryz.f294.name,by decide,Tryz.func294.trans (congrArg some (by kernel_rfl))⟩
 f23:=⟨Tryz.f295.name,by decide,Tryz.func295.trans (congrArg some (by kernel_rfl))⟩
 f24:=⟨Tryz.f296.name,by decide,Tryz.func296.trans (congrArg some (by kernel_rfl))⟩
 f25:=⟨Tryz.f297.name,by decide,Tryz.func297.trans (congrArg some (by kernel_rfl))⟩
 f26:=⟨Tryz.f298.name,by decide,Tryz.func298.trans (congrArg some (by kernel_rfl))⟩
 f27:=⟨Tryz.f299.name,by decide,Tryz.func299.trans (congrArg some (by kernel_rfl))⟩
 f28:=Tryz.func226.trans (congrArg some (by kernel_rfl))
 f29:=Tryz.func227.trans (congrArg some (by kernel_rfl))
 f46:=⟨Tryz.f319.name,by decide,Tryz.func319.trans (congrArg some (by kernel_rfl))⟩
 f47:=Tryz.func263.trans (congrArg some (by kernel_rfl))
 f48:=Tryz.func264.trans (congrArg some (by kernel_rfl))
 f49:=⟨Tryz.f320.name,by decide,Tryz.func320.trans (congrArg some (by kernel_rfl))⟩
 f50:=⟨Tryz.f321.name,by decide,Tryz.func321.trans (congrArg some (by kernel_rfl))⟩
 f57:=⟨Tryz.f330.name,by decide,Tryz.func330.trans (congrArg some (by kernel_rfl))⟩
 t0:=Tryz.underlying0
 a0:=Tryz.isAgg0
 z0:=Tryz.sizeOf0
 v0:=Tryz.zeroValue0
 t3:=Tryz.underlying3
 a3:=Tryz.isAgg3
 z3:=Tryz.sizeOf3
 v3:=Tryz.zeroValue3
 t4:=Tryz.underlying4
 a4:=Tryz.isAgg4
 z4:=Tryz.sizeOf4
 v4:=Tryz.zeroValue4
 t5:=Tryz.underlying5
 a5:=Tryz.isAgg5
 z5:=Tryz.sizeOf5
 v5:=Tryz.zeroValue5
 t9:=Tryz.underlying9
 a9:=Tryz.isAgg9
 z9:=Tryz.sizeOf9
 v9:=Tryz.zeroValue9
 t22:=Tryz.underlying23
 a22:=Tryz.isAgg23
 z22:=Tryz.sizeOf23
 v22:=Tryz.zeroValue23
 a24:=Tryz.isAgg3
 z24:=Tryz.sizeOf3
 t25:=Tryz.underlying317
 a25:=Tryz.isAgg317
 z25:=Tryz.sizeOf317
 v25:=Tryz.zeroValue317
 t39:=Tryz.underlying315
 a39:=Tryz.isAgg315
 z39:=Tryz.sizeOf315
 v39:=Tryz.zeroValue315
 t45:=Tryz.underlying372
 a45:=Tryz.isAgg372
 z45:=Tryz.sizeOf372
 v45:=Tryz.zeroValue372
 t46:=Tryz.underlying373
 a46:=Tryz.isAgg373
 z46:=Tryz.sizeOf373
 v46:=Tryz.zeroValue373
 t50:=Tryz.underlying289
 a50:=Tryz.isAgg289
 z50:=Tryz.sizeOf289
 v50:=Tryz.zeroValue289
 t53:=Tryz.underlying281
 a53:=Tryz.isAgg281
 z53:=Tryz.sizeOf281
 v53:=Tryz.zeroValue281
 t55:=Tryz.underlying24
 a55:=Tryz.isAgg24
 z55:=Tryz.sizeOf24
 v55:=Tryz.zeroValue24
 t66:=Tryz.underlying409
 a66:=Tryz.isAgg409
 z66:=Tryz.sizeOf409
 v66:=Tryz.zeroValue409
 t70:=Tryz.underlying412
 a70:=Tryz.isAgg412
 z70:=Tryz.sizeOf412
 v70:=Tryz.zeroValue412
 t76:=Tryz.underlying425
 a76:=Tryz.isAgg425
 z76:=Tryz.sizeOf425
 v76:=Tryz.zeroValue425
 t77:=Tryz.underlying426
 a77:=Tryz.isAgg426
 z77:=Tryz.sizeOf426
 v77:=Tryz.zeroValue426}
def Tryz.aq7:Go.Shelf.Ren:=⟨fun|29=>242|n=>n,fun|22=>24|3=>3|4=>4|25=>315|54=>419|0=>0|5=>5|n=>n,fun|1=>2|n=>n⟩
def Tryz.aq6:Go.Proofs.Lays7.n29 Tryz.prog Tryz.aq7:={
 mixed:=by kernel_rfl
 f29:=Tryz.func242.trans (congrArg some (by kernel_rfl))
 t0:=Tryz.underlying0
 a0:=Tryz.isAgg0
 z0:=Tryz.sizeOf0
 v0:=Tryz.zeroValue0
 i0:=by kernel_rfl
 t3:=Tryz.underlying3
 a3:=Tryz.isAgg3
 z3:=Tryz.sizeOf3
 v3:=Tryz.zeroValue3
 i3:=by kernel_rfl
 t4:=Tryz.underlying4
 a4:=Tryz.isAgg4
 z4:=Tryz.sizeOf4
 v4:=Tryz.zeroValue4
 i4:=by kernel_rfl
 t5:=Tryz.underlying5
 a5:=Tryz.isAgg5
 z5:=Tryz.sizeOf5
 v5:=Tryz.zeroValue5
 i5:=by kernel_rfl
 t22:=Tryz.underlying24
 a22:=Tryz.isAgg24
 z22:=Tryz.sizeOf24
 v22:=Tryz.zeroValue24
 i22:=by kernel_rfl
 t25:=Tryz.underlying315
 a25:=Tryz.isAgg315
 z25:=Tryz.sizeOf315
 v25:=Tryz.zeroValue315
 i25:=by kernel_rfl
 t54:=Tryz.underlying419
 a54:=Tryz.isAgg419
 z54:=Tryz.sizeOf419
 g1:=by kernel_rfl}
def Tryz.aln:Go.Shelf.Ren:=⟨fun|171=>209|243=>260|246=>279|283=>301|284=>302|285=>303|286=>304|129=>227|317=>322|318=>323|319=>324|320=>325|337=>331|338=>242|n=>n,fun|3=>3|9=>9|2=>2|4=>4|171=>440|0=>0|53=>24|37=>183|5=>5|173=>442|212=>454|51=>281|20=>20|213=>455|46=>315|232=>461|233=>419|n=>n,fun|17=>3|18=>4|19=>2|n=>n⟩
def Tryz.itoa:Go.Proofs.LaysM.n171 Tryz.prog Tryz.aln:={
 mixed:=by kernel_rfl
 f129:=Tryz.func227.trans (congrArg some (by kernel_rfl))
 f171:=Tryz.func209.trans (congrArg some (by kernel_rfl))
 f243:=Tryz.func260.trans (congrArg some (by kernel_rfl))
 f246:=Tryz.func279.trans (congrArg some (by kernel_rfl))
 f283:=Tryz.func301.trans (congrArg some (by kernel_rfl))
 f284:=Tryz.func302.trans (congrArg some (by kernel_rfl))
 f285:=Tryz.func303.trans (congrArg some (by kernel_rfl))
 f286:=Tryz.func304.trans (congrArg some (by kernel_rfl))
 f317:=Tryz.func322.trans (congrArg some (by kernel_rfl))
 f318:=Tryz.func323.trans (congrArg some (by kernel_rfl))
 f319:=Tryz.func324.trans (congrArg some (by kernel_rfl))
 f320:=Tryz.func325.trans (congrArg some (by kernel_rfl))
 f337:=Tryz.func331.trans (congrArg some (by kernel_rfl))
 f338:=Tryz.func242.trans (congrArg some (by kernel_rfl))
 t0:=Tryz.underlying0
 a0:=Tryz.isAgg0
 z0:=Tryz.sizeOf0
 v0:=Tryz.zeroValue0
 t2:=Tryz.underlying2
 a2:=Tryz.isAgg2
 z2:=Tryz.sizeOf2
 v2:=Tryz.zeroValue2
 t3:=Tryz.underlying3
 a3:=Tryz.isAgg3
 z3:=Tryz.sizeOf3
 v3:=Tryz.zeroValue3
 t4:=Tryz.underlying4
 a4:=Tryz.isAgg4
 z4:=Tryz.sizeOf4
 v4:=Tryz.zeroValue4
 t5:=Tryz.underlying5
 a5:=Tryz.isAgg5
 z5:=Tryz.sizeOf5
 v5:=Tryz.zeroValue5
 t9:=Tryz.underlying9
 a9:=Tryz.isAgg9
 z9:=Tryz.sizeOf9
 v9:=Tryz.zeroValue9
 t20:=Tryz.underlying20
 a20:=Tryz.isAgg20
 z20:=Tryz.sizeOf20
 v20:=Tryz.zeroValue20
 t37:=Tryz.underlying183
 a37:=Tryz.isAgg183
 z37:=Tryz.sizeOf183
 v37:=Tryz.zeroValue183
 t46:=Tryz.underlying315
 a46:=Tryz.isAgg315
 z46:=Tryz.sizeOf315
 v46:=Tryz.zeroValue315
 t51:=Tryz.underlying281
 a51:=Tryz.isAgg281
 z51:=Tryz.sizeOf281
 v51:=Tryz.zeroValue281
 t53:=Tryz.underlying24
 a53:=Tryz.isAgg24
 z53:=Tryz.sizeOf24
 v53:=Tryz.zeroValue24
 t171:=Tryz.underlying440
 a171:=Tryz.isAgg440
 z171:=Tryz.sizeOf440
 v171:=Tryz.zeroValue440
 t173:=Tryz.underlying442
 a173:=Tryz.isAgg442
 z173:=Tryz.sizeOf442
 v173:=Tryz.zeroValue442
 t212:=Tryz.underlying454
 a212:=Tryz.isAgg454
 z212:=Tryz.sizeOf454
 v212:=Tryz.zeroValue454
 t213:=Tryz.underlying455
 a213:=Tryz.isAgg455
 z213:=Tryz.sizeOf455
 t232:=Tryz.underlying461
 a232:=Tryz.isAgg461
 z232:=Tryz.sizeOf461
 v232:=Tryz.zeroValue461
 t233:=Tryz.underlying419
 a233:=Tryz.isAgg419
 z233:=Tryz.sizeOf419
 v233:=Tryz.zeroValue419
 g17:=by kernel_rfl
 g18:=by kernel_rfl
 g19:=by kernel_rfl
 i0:=by kernel_rfl
 i2:=by kernel_rfl
 i3:=by kernel_rfl
 i4:=by kernel_rfl
 i5:=by kernel_rfl
 i9:=by kernel_rfl
 i20:=by kernel_rfl
 i37:=by kernel_rfl
 i46:=by kernel_rfl
 i51:=by kernel_rfl
 i53:=by kernel_rfl
 i171:=by kernel_rfl
 i173:=by kernel_rfl
 i212:=by kernel_rfl
 i232:=by kernel_rfl
 i233:=by kernel_rfl
 m17:=by kernel_rfl
 m18:=by kernel_rfl
 m19:=by kernel_rfl}
def Tryz.aej:Go.Shelf.Ren:=⟨fun|172=>45|244=>80|245=>81|247=>136|279=>137|280=>138|281=>139|282=>140|287=>206|316=>207|171=>209|205=>208|321=>258|322=>259|243=>260|246=>279|283=>301|284=>302|285=>303|286=>304|129=>227|317=>322|318=>323|319=>324|320=>325|337=>331|338=>242|n=>n,fun|9=>9|3=>3|75=>107|76=>108|4=>4|5=>5|167=>262|37=>183|0=>0|85=>263|2=>2|168=>265|53=>24|175=>354|46=>315|210=>358|127=>404|145=>407|143=>405|21=>21|171=>440|173=>442|212=>454|51=>281|20=>20|213=>455|232=>461|233=>419|80=>462|n=>n,fun|15=>0|16=>1|17=>3|18=>4|19=>2|n=>n⟩
def Tryz.atoi:Go.Proofs.LaysC.n172 Tryz.prog Tryz.aej:={
 mixed:=by kernel_rfl
 f129:=Tryz.func227.trans (congrArg some (by kernel_rfl))
 f171:=Tryz.func209.trans (congrArg some (by kernel_rfl))
 f172:=Tryz.func45.trans (congrArg some (by kernel_rfl))
 f205:=Tryz.func208.trans (congrArg some (by kernel_rfl))
 f243:=Tryz.func260.trans (congrArg some (by kernel_rfl))
 f244:=Tryz.func80.trans (congrArg some (by kernel_rfl))
 f245:=Tryz.func81.trans (congrArg some (by kernel_rfl))
 f246:=Tryz.func279.trans (congrArg some (by kernel_rfl))
 f247:=Tryz.func136.trans (congrArg some (by kernel_rfl))
 f279:=Tryz.func137.trans (congrArg some (by kernel_rfl))
 f280:=Tryz.func138.trans (congrArg some (by kernel_rfl))
 f281:=Tryz.func139.trans (congrArg some (by kernel_rfl))
 f282:=Tryz.func140.trans (congrArg some (by kernel_rfl))
 f283:=Tryz.func301.trans (congrArg some (by kernel_rfl))
 f284:=Tryz.func302.trans (congrArg some (by kernel_rfl))
 f285:=Tryz.func303.trans (congrArg some (by kernel_rfl))
 f286:=Tryz.func304.trans (congrArg some (by kernel_rfl))
 f287:=Tryz.func206.trans (congrArg some (by kernel_rfl))
 f316:=Tryz.func207.trans (congrArg some (by kernel_rfl))
 f317:=Tryz.func322.trans (congrArg some (by kernel_rfl))
 f318:=Tryz.func323.trans (congrArg some (by kernel_rfl))
 f319:=Tryz.func324.trans (congrArg some (by kernel_rfl))
 f320:=Tryz.func325.trans (congrArg some (by kernel_rfl))
 f321:=Tryz.func258.trans (congrArg some (by kernel_rfl))
 f322:=Tryz.func259.trans (congrArg some (by kernel_rfl))
 f337:=Tryz.func331.trans (congrArg some (by kernel_rfl))
 f338:=Tryz.func242.trans (congrArg some (by kernel_rfl))
 t0:=Tryz.underlying0
 a0:=Tryz.isAgg0
 z0:=Tryz.sizeOf0
 v0:=Tryz.zeroValue0
 t2:=Tryz.underlying2
 a2:=Tryz.isAgg2
 z2:=Tryz.sizeOf2
 v2:=Tryz.zeroValue2
 t3:=Tryz.underlying3
 a3:=Tryz.isAgg3
 z3:=Tryz.sizeOf3
 v3:=Tryz.zeroValue3
 t4:=Tryz.underlying4
 a4:=Tryz.isAgg4
 z4:=Tryz.sizeOf4
 v4:=Tryz.zeroValue4
 t5:=Tryz.underlying5
 a5:=Tryz.isAgg5
 z5:=Tryz.sizeOf5
 v5:=Tryz.zeroValue5
 t9:=Tryz.underlying9
 a9:=Tryz.isAgg9
 z9:=Tryz.sizeOf9
 v9:=Tryz.zeroValue9
 t20:=Tryz.underlying20
 a20:=Tryz.isAgg20
 z20:=Tryz.sizeOf20
 v20:=Tryz.zeroValue20
 t21:=Tryz.underlying21
 a21:=Tryz.isAgg21
 z21:=Tryz.sizeOf21
 v21:=Tryz.zeroValue21
 t37:=Tryz.underlying183
 a37:=Tryz.isAgg183
 z37:=Tryz.sizeOf183
 v37:=Tryz.zeroValue183
 t46:=Tryz.underlying315
 a46:=Tryz.isAgg315
 z46:=Tryz.sizeOf315
 v46:=Tryz.zeroValue315
 t51:=Tryz.underlying281
 a51:=Tryz.isAgg281
 z51:=Tryz.sizeOf281
 v51:=Tryz.zeroValue281
 t53:=Tryz.underlying24
 a53:=Tryz.isAgg24
 z53:=Tryz.sizeOf24
 v53:=Tryz.zeroValue24
 t75:=Tryz.underlying107
 a75:=Tryz.isAgg107
 z75:=Tryz.sizeOf107
 v75:=Tryz.zeroValue107
 t76:=Tryz.underlying108
 a76:=Tryz.isAgg108
 z76:=Tryz.sizeOf108
 v76:=Tryz.zeroValue108
 t85:=Tryz.underlying263
 a85:=Tryz.isAgg263
 z85:=Tryz.sizeOf263
 v85:=Tryz.zeroValue263
 t127:=Tryz.underlying404
 a127:=Tryz.isAgg404
 z127:=Tryz.sizeOf404
 v127:=Tryz.zeroValue404
 t143:=Tryz.underlying405
 a143:=Tryz.isAgg405
 z143:=Tryz.sizeOf405
 v143:=Tryz.zeroValue405
 t145:=Tryz.underlying407
 a145:=Tryz.isAgg407
 z145:=Tryz.sizeOf407
 v145:=Tryz.zeroValue407
 t167:=Tryz.underlying262
 a167:=Tryz.isAgg262
 z167:=Tryz.sizeOf262
 v167:=Tryz.zeroValue262
 t168:=Tryz.underlying265
 a168:=Tryz.isAgg265
 z168:=Tryz.sizeOf265
 v168:=Tryz.zeroValue265
 t171:=Tryz.underlying440
 a171:=Tryz.isAgg440
 z171:=Tryz.sizeOf440
 v171:=Tryz.zeroValue440
 t173:=Tryz.underlying442
 a173:=Tryz.isAgg442
 z173:=Tryz.sizeOf442
 v173:=Tryz.zeroValue442
 t175:=Tryz.underlying354
 a175:=Tryz.isAgg354
 z175:=Tryz.sizeOf354
 v175:=Tryz.zeroValue354
 t210:=Tryz.underlying358
 a210:=Tryz.isAgg358
 z210:=Tryz.sizeOf358
 v210:=Tryz.zeroValue358
 t212:=Tryz.underlying454
 a212:=Tryz.isAgg454
 z212:=Tryz.sizeOf454
 v212:=Tryz.zeroValue454
 t213:=Tryz.underlying455
 a213:=Tryz.isAgg455
 z213:=Tryz.sizeOf455
 t232:=Tryz.underlying461
 a232:=Tryz.isAgg461
 z232:=Tryz.sizeOf461
 v232:=Tryz.zeroValue461
 t233:=Tryz.underlying419
 a233:=Tryz.isAgg419
 z233:=Tryz.sizeOf419
 v233:=Tryz.zeroValue419
 g15:=by kernel_rfl
 g16:=by kernel_rfl
 g17:=by kernel_rfl
 g18:=by kernel_rfl
 g19:=by kernel_rfl
 t80:=Tryz.underlying462
 a80:=Tryz.isAgg462
 z80:=Tryz.sizeOf462
 v80:=Tryz.zeroValue462
 i0:=by kernel_rfl
 i2:=by kernel_rfl
 i3:=by kernel_rfl
 i4:=by kernel_rfl
 i5:=by kernel_rfl
 i9:=by kernel_rfl
 i20:=by kernel_rfl
 i21:=by kernel_rfl
 i37:=by kernel_rfl
 i46:=by kernel_rfl
 i51:=by kernel_rfl
 i53:=by kernel_rfl
 i75:=by kernel_rfl
 i76:=by kernel_rfl
 i80:=by kernel_rfl
 i85:=by kernel_rfl
 i127:=by kernel_rfl
 i143:=by kernel_rfl
 i145:=by kernel_rfl
 i167:=by kernel_rfl
 i168:=by kernel_rfl
 i171:=by kernel_rfl
 i173:=by kernel_rfl
 i175:=by kernel_rfl
 i210:=by kernel_rfl
 i212:=by kernel_rfl
 i232:=by kernel_rfl
 i233:=by kernel_rfl
 m15:=by kernel_rfl
 m16:=by kernel_rfl
 m17:=by kernel_rfl
 m18:=by kernel_rfl
 m19:=by kernel_rfl
 c0:=by kernel_rfl
 c2:=by kernel_rfl
 c3:=by kernel_rfl
 c4:=by kernel_rfl
 c5:=by kernel_rfl
 c9:=by kernel_rfl
 c20:=by kernel_rfl
 c21:=by kernel_rfl
 c37:=by kernel_rfl
 c46:=by kernel_rfl
 c51:=by kernel_rfl
 c53:=by kernel_rfl
 c75:=by kernel_rfl
 c76:=by kernel_rfl
 c80:=by kernel_rfl
 c85:=by kernel_rfl
 c127:=by kernel_rfl
 c143:=by kernel_rfl
 c145:=by kernel_rfl
 c167:=by kernel_rfl
 c168:=by kernel_rfl
 c171:=by kernel_rfl
 c173:=by kernel_rfl
 c175:=by kernel_rfl
 c210:=by kernel_rfl
 c212:=by kernel_rfl
 c213:=by kernel_rfl
 c232:=by kernel_rfl
 c233:=by kernel_rfl}
end Go.Proofs
namespace Go.Proofs.YtnaemgklhjkdhaaGreatDoor
open H
section
variable{u Y:H}{g:Nat}{s:J}
open Go.Shelf Go.RowKit Go.Sort
theorem Step.VZ{bm aw:World}(h:Step (λb=>bm.heap[b]?) [] bm (λb=>bm.heap[b]?) [] aw):∃q Ft,aw=grow (bm.drewN q) Ft:=by
 refine⟨aw.drawn-bm.drawn,aw.heap.extract bm.heap.size aw.heap.size,?_⟩;have aj:=h.drawn;have hs:=h.size;have bW:aw.heap=bm.heap++aw.heap.extract bm.heap.size aw.heap.size:=by
  apply Array.ext;simp;omega;intro i h1 h2;rcases Nat.lt_or_ge i bm.heap.size with hi|hi;rw[Array.getElem_append_left hi];have:=h.sub i bm.heap[i] (by simp[hi])
  grind
  grind
 have aO:=h.os;have ar:=h.tape;have cq:=h.output;cases aw;cases bm;simp only[grow,World.drewN] at*;simp only[World.mk.injEq]
 grind
def V0{P:Program}{f:FuncId}{args:Array Value}{z:Int}(h:∀u:H,fW P f args [.one (.int .i64)] u λeK u'=>eK=z/\u'=u)(bm:World):
  Calls P f args bm λe aw=>e=.returned (.int .i64 z)/\∃q Ft,aw=grow (bm.drewN q) Ft:=by
 refine(h (λb=>bm.heap[b]?) bm (λb o e=>e)).mono ?_
 rintro e aw ⟨v,u',rfl,⟨vs,hk,rfl,E⟩,hs⟩
 cases hk with
 |cons x W=>cases W;have mT:=(al.nX (.int .i64) x _).1 E;obtain⟨I,hu⟩:x=z/\u'=_:=mT;subst I;subst hu;exact⟨rfl,hs.VZ⟩
def zZ(a b:bk):Int:=if bh a b then -1 else if bh b a then 1 else 0
def aqJ(cf:bk->bk->Int)(h:∀a b,cf a b<0↔bh a b=true):SWO (ltOf cf) where
 irrefl x:=by unfold ltOf;simp[h,D8]
 trans x y z h1 h2:=by unfold ltOf at*;simp only[decide_eq_true_eq,h] at*;exact D9 h1 h2
 ntrans x y z h1 h2:=by unfold ltOf at*;simp only[decide_eq_false_iff_not,h,Bool.not_eq_true] at*;exact ye h2 h1
instance:Inhabited bk:=⟨(0,0)⟩
theorem VN(d:Array bk):(flatK ey 3 d).toList=d.toList.flatMap ey:=by
 apply List.ext_getElem?;intro i;rcases Nat.lt_or_ge i (d.size*3) with hi|hi;have e:i=i/3*3+i%3:=by omega
 have aj:i/3<d.size:=by omega
 have W:i%3<3:=Nat.mod_lt _ (by decide);have M:=HP oc d.toList (i/3) (i%3) W;rw[<-e] at M;rw[M];have:(flatK ey 3 d).toList[i]?=some ((flatK ey 3 d)[i]!):=by rw[Array.getElem?_toList,getElem!_pos _ i (by simpa using hi),Array.getElem?_eq_getElem (by simpa using hi)]
 rw[this,get_flatK _ _ _ _ hi];simp[aj];have h2:i%3<(ey d[i/3]).length:=by rw[oc];exact W
 grind
 rw[List.getElem?_eq_none (by simpa using hi),List.getElem?_eq_none (by rw[qM oc];simpa using hi)]
theorem WY{w:World}{cur:Array Value}{T:TypeId}{Ai:Nat×Nat}(f:Array Value->Array Value)(h:w.heap[g]?=some (.cells cur T Ai)):
  (mapBlock w g f).heap[g]?=some (.cells (f cur) T Ai)/\∀b,b≠g->(mapBlock w g f).heap[b]?=w.heap[b]?:=by
 unfold mapBlock
 constructor
 simp only[Array.getElem?_modify,if_true,h,Option.map_some,onCells]
 grind
theorem KE{w:World}(hw:Sub u w){cur:Array Value}{T:TypeId}(N:u g=some (.cells cur T (0,0)))(n:Nat)(f:Array Value->Array Value)(os:Array Obj):
  Step u [] w (u.ins g (.cells (f cur) T (0,0))) [] (grow (mapBlock (Sort.ahead w n) g f) os):=by
 have DW:(Sort.ahead w n).heap[g]?=some (.cells cur T (0,0)):=hw _ _ N
 obtain⟨h1,h2⟩:=WY f DW
 have cA:(mapBlock (Sort.ahead w n) g f).heap.size=w.heap.size:=by simp[mapBlock,Sort.ahead]
 have mX:∀b,b<w.heap.size->(grow (mapBlock (Sort.ahead w n) g f) os).heap[b]?=(mapBlock (Sort.ahead w n) g f).heap[b]?:=by
  intro b Z;show((mapBlock (Sort.ahead w n) g f).heap++os)[b]?=_
  grind
 refine⟨λb o h=>?_,rfl,rfl,rfl,Nat.le_add_right _ _,?_,λb Z fL _=>?_,λb Z fL=>?_,[],by simp,by simp⟩
 unfold H.ins at h
 split at h
 grind
 rename_i oi
 rw[mX _ (hw.lt h),h2 b oi];exact hw b o h
 grind
 have:b≠g:=λh=>by grind
 rw[mX b Z,h2 b this];rfl
 have:b≠g:=λh=>by grind
 rw[aL _ _ this];exact fL
theorem ant{F cur:Array Value}(h:F.size<=cur.size):(putCells id 0 F cur).toList.take F.size=F.toList:=by
 apply List.ext_getElem?;intro i;rw[List.getElem?_take];split;rename_i hi;have E:i<cur.size:=by omega
 simp only[putCells,Array.getElem?_toList,Array.getElem?_mapIdx]
 grind
 grind
def anu{F cur:Array Value}:(putCells id 0 F cur).size=cur.size:=by simp[putCells]
def aE.JY{e k:Nat}{xs:List Value}(h:aE Y u e k s xs){cur:Array Value}(ap:s.a=some ⟨g,0,none⟩)(N:u g=some (.cells cur e (0,0))){F:Array Value}(ij:F.size=s.n*k):
  aE Y (u.ins g (.cells (putCells id 0 F cur) e (0,0))) e k s F.toList/\e8 u (u.ins g (.cells (putCells id 0 F cur) e (0,0))) s:=by
 rcases h.own.is with h0|⟨bS,avy,Wx,cH,ac,E,hs,ht⟩
 rw[h0] at ap;cases ap
 rw[ap] at Wx;cases Wx
 rw[N] at cH;cases cH
 have hle:s.n*k<=s.c*k:=Nat.mul_le_mul_right _ ac
 have hblk:s.ad=some g:=by simp[J.ad,ap]
 refine⟨⟨⟨by simpa using ij,.inr ⟨g,_,ap,aS _ _ _,ac,E,by rw[anu];exact hs,?_⟩⟩,λb o Z=>?_,h.fresh⟩,λb o Z ah=>?_⟩
 rw[<-ij];exact ant (by rw[ij,hs];exact hle)
 have:b≠g:=λe=>by rw[e,h.fresh g hblk] at Z;cases Z
 rw[aL _ _ this];exact h.le b o Z
 have:b≠g:=λe=>ah (by rw[hblk,e])
 rw[aL _ _ this];exact Z
theorem aqu{cf:bk->bk->Int}(h:∀a b,cf a b<0↔bh a b=true){d:Array bk}(hs:SortedIn (ltOf cf) 0 d.size d):mO d.toList:=by
 refine List.pairwise_iff_getElem.2 λi j hi aH hK=>?_;have:=hs i j (Nat.zero_le _) hK (by simpa using aH);simp only[Array.length_toList] at hi aH;rw[getElem!_pos d j aH,getElem!_pos d i hi] at this;unfold ltOf at this
 grind
theorem ap9{g:FuncId}{cf:bk->bk->Int}(h:∀a b,cf a b<0↔bh a b=true)(kF:∀args w,(callFunc g args).run Tryz.prog w=.ok (.enter g args) w)
  (DJ:∀a b (u:H),fW Tryz.prog g #[.agg (ey a).toArray,.agg (ey b).toArray] [.one (.int .i64)] u λeK u'=>eK=cf a b/\u'=u)
  {Y u:H} {s:J} {l:List bk} (U:aE Y u 83 3 s (l.flatMap ey)) (fc:l.length<4611686018427387904) {K:H->Prop}
  (ae:∀u',aE Y u' 83 3 s ((kW l).flatMap ey)->e8 u u' s->K u'):TS s (.func (.func g) #[] #[]) u K:=by
 intro w hw
 have cY:=U.fN.len
 rcases U.own.is with h0|⟨b,cur,ap,N,hle,E,hs,ht⟩
 subst h0
 have ai:l=[]:=by grind
 subst ai
 refine(AnyF.slices_SortFunc_none Tryz.aaU none 0 _ w).mono ?_
 rintro e aw ⟨rfl,rfl⟩
 exact⟨_,u,rfl,⟨[],.nil,rfl,ae u U (e8.refl _ _)⟩,Step.refl hw⟩
 have hH:HoldsK ey 3 w b 0 l.toArray:=by
  intro j aH;simp only[size_flatK,List.size_toArray] at aH;have lW:=U.own.bR;have ai:(l.flatMap ey)[j]?=some ((flatK ey 3 l.toArray)[j]!):=by
   have:=VN l.toArray;simp only[] at this
   grind
  constructor;rcases lW.at' with h1|⟨p,aa,gO⟩;rw[h1] at ai;simp at ai;rw[ap] at aa;cases aa;have:=hw.cell (gO j _ ai);rw[Addr.add_lit,Nat.zero_add] at this;simpa using this;simp[World.frozen?,hw _ _ N]
 have mU:=AnyQ.slices_SortFunc Tryz.aaU 3 (λw=>by kernel_rfl) (λw=>by kernel_rfl) ey oc (λx=>xH x) cf (aqJ cf h) g #[] b 0 s.c l.toArray w kF
  (λm os xE _ x y=>by have:=V0 (DJ x y) (sortWorldK ey 3 w b 0 m xE os);simpa using this) hH (hw.lt N) (by simpa using fc)
 simp only[List.size_toArray] at mU
 change Calls Tryz.prog 103 _ _ _ at mU
 unfold vs
 rw[ap,cY]
 refine mU.mono ?_
 rintro e aw ⟨rfl,jc,n,os,⟨gj,_,qW⟩,p7,rfl⟩
 simp only[List.size_toArray] at gj
 have jj:jc.toList.Perm l:=by
  have aO:jc.extract 0 l.length=jc:=by rw[<-gj];simp
  have ar:l.toArray.extract 0 l.length=l.toArray:=by simp
  rw[aO,ar] at qW;simpa using qW
 have akq:mO jc.toList:=aqu h (by rw[gj];exact p7)
 have ai:jc.toList=kW l:=Sk jj akq
 obtain⟨bG,he⟩:=U.JY ap N (F:=flatK ey 3 jc) (by rw[size_flatK,gj,cY])
 rw[VN,ai] at bG
 exact⟨_,_,rfl,⟨[],.nil,rfl,ae _ bG he⟩,KE hw N n _ os⟩
def encI(x:Int):List Value:=[.int .i64 x]
def uH(x:Int):(encI x).length=1:=rfl
def HD(x:Int):∀v∈encI x,v.oneCell'=true:=by simp[encI,Value.oneCell']
def tk(l:List Int):l.flatMap encI=l.map λx=>.int .i64 x:=by
 induction l with
 |nil=>rfl|cons x l aG=>simp[encI] at aG ⊢;exact aG
def aE.ints{e:Nat}{l:List Int}(h:aE Y u e 1 s (l.flatMap encI)):Ints u s l:=by have:=h.own.bR;rw[tk] at this;exact this
def dM(l:List Int):List Int:=l.mergeSort λx y=>decide (x<=y)
theorem Ku{l:List Int}(U:aE Y u 3 1 s (l.flatMap encI))(fc:l.length<4611686018427387904){K:H->Prop}
  (ae:∀u',aE Y u' 3 1 s ((dM l).flatMap encI)->e8 u u' s->K u'):Cu s u K:=by
 intro w hw
 have cY:=U.ints.len
 rcases U.own.is with h0|⟨b,cur,ap,N,hle,E,hs,ht⟩
 subst h0
 have ai:l=[]:=by grind
 subst ai
 refine(AnyG.slices_Sort_int_none Tryz.aaW none 0 w).mono ?_
 rintro e aw ⟨rfl,rfl⟩
 exact⟨_,u,rfl,⟨[],.nil,rfl,ae u (by simpa[dM] using U) (e8.refl _ _)⟩,Step.refl hw⟩
 have hH:Holds (Value.int .i64) w b 0 l.toArray:=by
  intro j aH;have ik:j<l.length:=by simpa using aH
  have ai:(l.flatMap encI)[j]?=some (.int .i64 l[j]):=by rw[tk];simp[ik]
  constructor;rcases U.own.bR.at' with h1|⟨p,aa,gO⟩;rw[h1] at ai;simp at ai;rw[ap] at aa;cases aa;have:=hw.cell (gO j _ ai);rw[Addr.add_lit,Nat.zero_add] at this
  grind
  simp[World.frozen?,hw _ _ N]
 have mU:=AnyG.slices_Sort_int Tryz.aaW b 0 s.c l w hH (hw.lt N) fc
 change Calls Tryz.prog 272 _ _ _ at mU
 unfold vs
 rw[ap,cY]
 refine mU.mono ?_
 rintro e aw ⟨rfl,n,os,rfl⟩
 have hlen:(dM l).length=l.length:=by simp[dM]
 have PL:putCells (Value.int .i64) 0 (dM l).toArray cur=putCells id 0 ((dM l).map λx=>Value.int .i64 x).toArray cur:=by
  unfold putCells;apply Array.ext;simp
  grind
 obtain⟨bG,he⟩:=U.JY ap N (F:=((dM l).map λx=>Value.int .i64 x).toArray) (by simp[hlen,cY])
 rw[<-PL] at bG he
 simp only[] at bG
 rw[<-tk] at bG
 exact⟨_,_,rfl,⟨[],.nil,rfl,ae _ bG he⟩,KE hw N n _ os⟩
end
section
variable{u Y:H}{n:Nat}{k:Int}{s:J}{P:Program}{l S:List bk}{f:FuncId}{x:bk}{xs:List Value}{K:J->H->Prop}{env:List (Nat×Value)}
theorem afG(a b:bk)(u:H):fW Tryz.prog 104 #[.agg (ey a).toArray,.agg (ey b).toArray] [.one (.int .i64)] u λeK u'=>eK=zZ a b/\u'=u:=by
 refine abr (a:=a) (b:=b) (K:=λeK u'=>eK=zZ a b/\u'=u) λz h1 h2 h3 aZ=>⟨?_,rfl⟩;unfold zZ
 grind
theorem afE(a b:bk):zZ a b<0↔bh a b=true:=by
 unfold zZ
 grind
def kT(P:Program)(t:TypeId)(name:String)(f:FuncId)(ptr:Bool):Bool:=
 match P.info? t with
 |some i=>match i.methods.find? (·.name==name) with
  |some m=>match m.path.toList,m.func with
   | [],some (g,b)=>Nat.beq g f && (b==ptr)|_,_=>false
  |none=>false
 |none=>false
theorem vg{t:TypeId}{name:String}{ptr:Bool}(h:kT P t name f ptr=true):
  ∃i m,P.info? t=some i/\i.methods.find? (·.name==name)=some m/\m.path=#[]/\m.func=some (f,ptr):=by
 unfold kT at h
 split at h
 rename_i i hi
 split at h
 rename_i m hm
 split at h
 simp_all
 cases h
 cases h
 cases h
def al7:kT Tryz.prog 214 "Len" 420 false=true:=by kernel_rfl
def al8:kT Tryz.prog 214 "Less" 421 false=true:=by kernel_rfl
def ama:kT Tryz.prog 214 "Swap" 422 false=true:=by kernel_rfl
def al9:kT Tryz.prog 214 "Push" 424 true=true:=by kernel_rfl
def aoL:nj Tryz.prog 209=some (.one .slice):=by kernel_rfl
def ab9:Tryz.prog.underlying 214=some (.pointer 209):=by kernel_rfl
def aqN:iG Tryz.prog 209=some (83,3,24,[.int .i64 0,.int .u64 0,.int .u64 0]):=by kernel_rfl
def aeW(x y z:Int):hF Tryz.prog 209 1 #[(0,.agg #[.int .i64 x,.int .u64 y,.int .u64 z])]=some (83,[.int .i64 x,.int .u64 y,.int .u64 z]):=by kernel_rfl
def uJ:∃k,Tryz.prog.types.size+Made.depth=k+1:=by
 have h:0<Made.depth:=by decide
 generalize Tryz.prog.types.size=a;exact⟨a+Made.depth-1,by omega⟩
structure vO(Y:H)(n:Nat)(k:Int)(u:H)(l:List bk):Prop where
 ex:∃s:J,u n=some (.cells #[.int .i64 k,.slice s.a s.n s.c] 211 (0,0))/\aE Y u 83 3 s (l.flatMap ey)/\s.ad≠some n
 out:Y n=none
 small:l.length<=1000000
def WW(n:Nat):Value:=.iface 214 (.pointer (some ((Addr.mk n 0 none).add 1)))
def CP(n:Nat):(Addr.mk n 0 none).add 1=⟨n,1,none⟩:=by rw[Addr.add_lit]
def OB{name:String}(hm:kT Tryz.prog 214 name f false=true)(ac:u n=some (.cells #[.int .i64 k,.slice s.a s.n s.c] 211 (0,0)))(w:World)(hw:Sub u w):
  (method (Tryz.prog.types.size+Made.depth) 214 (.pointer (some ((Addr.mk n 0 none).add 1))) name).run Tryz.prog w=.ok (f,.slice s.a s.n s.c) w:=by
 obtain⟨i,m,h1,h2,h3,aZ⟩:=vg hm
 obtain⟨c7,cR⟩:=uJ
 rw[cR]
 refine RU h1 h2 h3 aZ ab9 ?_
 have E:u.cell? ((Addr.mk n 0 none).add 1)=some (.slice s.a s.n s.c):=by rw[CP];exact aV ac 1
 have ts:=hw.cell E
 exact Br aoL ((Addr.mk n 0 none).add 1) (vs:=[.slice s.a s.n s.c]) rfl (run_loadCellsFrom_list _ _ _ _ _ rfl (λj v aH=>by
  cases j with
  |zero=>simp at aH;subst aH;exact ts|succ j=>simp at aH)) (λc E=>⟨_,rfl,ts⟩)
theorem HU{i:Nat}(h:l[i]?=some x):l.getD i default=x:=by grind
def aqh{i j:Int}{K:Bool->H->Prop}(hs:iZ u s l)(i0:0<=i)(i1:i<l.length)(eL:0<=j)(gI:j<l.length)
  (h:K (bh (l.getD j.toNat default) (l.getD i.toNat default)) u):T5 s i j u K:=by
 have ac:=hs.len
 apply atW
 obtain⟨p,aa,x,I,c0,c1,c2⟩:=hs.at eL (show j<(s.n:Int) by omega)
 obtain⟨q,ay,y,af,d0,d1,d2⟩:=hs.at i0 (show i<(s.n:Int) by omega)
 rw[HU I,HU af] at h
 exact⟨p,aa,⟨eL,by omega⟩,q,ay,⟨i0,by omega⟩,_,c0,_,c1,_,c2,_,d0,_,d1,_,d2,F3 h⟩
theorem aqi{i j:Int}{K:H->Prop}(U:aE Y u 83 3 s (l.flatMap ey))(i0:0<=i)(i1:i<l.length)(eL:0<=j)(gI:j<l.length)
  (h:∀u',aE Y u' 83 3 s ((hN l i.toNat j.toNat).flatMap ey)->e8 u u' s->K u'):T6 s i j u K:=by
 have hs:=U.fN
 have ac:=hs.len
 apply atY
 obtain⟨p,aa,x,I,c0,c1,c2⟩:=hs.at eL (show j<(s.n:Int) by omega)
 obtain⟨q,ay,y,af,d0,d1,d2⟩:=hs.at i0 (show i<(s.n:Int) by omega)
 refine⟨p,aa,⟨eL,by omega⟩,q,ay,⟨i0,by omega⟩,_,c0,_,c1,_,c2,_,d0,_,d1,_,d2,q,ay,⟨i0,by omega⟩,?_⟩
 refine aE.store (enc:=ey) oc U (by decide) (i:=i.toNat) (by omega) (y:=x) (xH x) ay λaI hz tu _=>⟨p,aa,⟨eL,by omega⟩,?_⟩
 refine aE.store (enc:=ey) oc hz (by decide) (i:=j.toNat) (by simp;omega) (y:=y) (xH y) aa λbE dD h4 _=>h bE ?_ (λb o Z ah=>h4 b o (tu b o Z ah) ah)
 have dC:i.toNat<l.length:=by omega
 have jK:j.toNat<l.length:=by omega
 have ex:l[j.toNat]=x:=by grind
 have uI:l[i.toNat]=y:=by grind
 rw[B7 dC jK,ex,uI]
 exact dD
def fg(h:fi P f=true):∃fn,P.funcs[f]?=some fn/\fn.body.isSome=true:=WA h
def aev:fi Tryz.prog 420=true:=by kernel_rfl
def aew:fi Tryz.prog 421=true:=by kernel_rfl
def aeB:fi Tryz.prog 422=true:=by kernel_rfl
def aez:fi Tryz.prog 424=true:=by kernel_rfl
def vO.set{u':H}{bi:List bk}(h:vO Y n k u l)(ac:u n=some (.cells #[.int .i64 k,.slice s.a s.n s.c] 211 (0,0)))(hs:s.ad≠some n)
  (U:aE Y u' 83 3 s (bi.flatMap ey)) (he:e8 u u' s) (ai:bi.length=l.length):vO Y n k u' bi:=
 ⟨⟨s,he _ _ ac hs,U,hs⟩,h.out,by rw[ai];exact h.small⟩
def abW(Y:H)(n:Nat)(k:Int):qx (WW n) (vO Y n k) (λa b=>bh b a) where
 len:=by intro u l K h ae;obtain⟨s,ac,U,_⟩:=h.ex;refine⟨_,_,_,_,rfl,λw hw=>OB al7 ac w hw,fg aev,atV s u K ?_⟩;rw[U.fN.len];exact ae
 less:=by intro u l i j K h i0 i1 eL gI ae;obtain⟨s,ac,U,_⟩:=h.ex;exact⟨_,_,_,_,rfl,λw hw=>OB al8 ac w hw,fg aew,aqh U.fN i0 i1 eL gI ae⟩
 swap:=by intro u l i j K h i0 i1 eL gI ae;obtain⟨s,ac,U,ah⟩:=h.ex;exact⟨_,_,_,_,rfl,λw hw=>OB ama ac w hw,fg aeB,aqi U i0 i1 eL gI λu' bG he=>ae u' (h.set ac ah bG he (nm _ _ _))⟩
 small:=λh=>by have:=h.small;omega
def OA:lE (λa b:bk=>bh b a) where
 asymm:=λa b h=>AH h
 trans:=λa b c h k=>ye k h
def aef(h:bk)(w:World):(Instr.typeAssert (.iface 83 (.agg #[.int .i64 h.1,.int .u64 (cK h.2),.int .u64 (cO h.2)])) 20 83 true).run Tryz.prog w=
  .ok (.tuple #[.agg #[.int .i64 h.1,.int .u64 (cK h.2),.int .u64 (cO h.2)],.bool true]) w:=by kernel_rfl
theorem aiE{K:H->Prop}(h:vO Y n k u l)(ai:l.length<1000000)(ae:∀u',vO Y n k u' (l++ [x])->K u'):
  lB Tryz.prog (WW n) "Push" #[.iface 83 (.agg #[.int .i64 x.1,.int .u64 (cK x.2),.int .u64 (cO x.2)])] [] u K:=by
 obtain⟨s,ac,U,ah⟩:=h.ex
 obtain⟨i,m,h1,h2,h3,aZ⟩:=vg al9
 obtain⟨c7,cR⟩:=uJ
 refine⟨_,_,_,_,rfl,λw _=>by rw[cR];exact BR h1 h2 h3 aZ ab9,fg aez,?_⟩
 refine atX (some ((Addr.mk n 0 none).add 1)) _ u K ?_
 refine cx.pure [.int .i64 x.1,.int .u64 (cK x.2),.int .u64 (cO x.2),.bool true] (λw _=>?_) (.cons (t:=.int .i64) _ (.cons (t:=.int .u64) _ (.cons (t:=.int .u64) _ (.cons (t:=.bool) _ .nil)))) ?_
 exact aef x w
 refine⟨λ_=>⟨_,rfl,s,by rw[CP];exact aV ac 1,?_⟩,λZ=>by cases Z⟩
 refine vp aqN (aeW _ _ _) (by decide) rfl (by simp[Value.oneCell']) U (by have:=U.fN.len;omega) (by have:=U.fN.len;omega) λs' u' bG im he hblk _=>⟨_,rfl,?_⟩
 have ef:=he _ _ ac ah
 have jx:s'.ad≠some n:=λe=>by
  grind
 rw[CP]
 refine⟨_,_,ef,rfl,by simp,by simp[Value.oneCell'],ae _ ⟨⟨s',aS _ _ _,⟨?_,?_,bG.fresh⟩,jx⟩,h.out,by simp;omega⟩⟩
 rw[VS] at bG
 exact bG.own.le λb o Z cy=>by rw[aL _ _ (λe=>jx (by rw[Z,e]))];exact cy
 intro b o Z
 rw[aL _ _ (λe=>by rw[e,h.out] at Z;cases Z)]
 exact bG.le b o Z
theorem R9{t e:TypeId}{size bytes:Nat}{zs:List Value}(aJ:iG P t=some (e,size,bytes,zs))(b4:hF P t 0 #[]=some (e,[]))(cA:0<size)
  (hs:bb u s size xs) (h1:∀y∈xs,y.oneCell'=true) (Z:s.n*bytes<=140737488355328) {K:J->H->Prop} (ae:∀s' u',aE u u' e size s' xs->s'.n=s.n->K s' u'):
  cx P (Instr.buildSlice t 0 #[]) [.one .slice] u λs0 aI=>cx P (Builtin.append_ #[t,t] t #[.slice s0.a s0.n s0.c,.slice s.a s.n s.c]) [.one .slice] aI K:=by
 refine nU b4 λg N=>?_
 have h0:=aE.make (k:=size) (H.le.refl u) N (cells:=#[]) (e:=e) (n:=0) (by omega) (by simp)
 have uX:=Nat.le_trans hs.cap hs.max
 refine R6 aJ cA h0.own (hs.mono (bN _ N)) h1 (by grind) (by simpa using Z) λs' u' U ac mX _=>ae s' u' ⟨by simpa using U,mX.le h0.le h0.fresh,λbS cH=>mX.out h0.le h0.fresh bS cH⟩ (by simpa using ac)
theorem R5{size:Nat}(h:bb u s size xs)(ac:s.a=none):xs=[]:=by
 rcases h.at' with h|⟨p,aa,_⟩;exact h
 grind
def aeX:hF Tryz.prog 35 0 #[]=some (83,[]):=by kernel_rfl
def aeY:hF Tryz.prog 23 0 #[]=some (3,[]):=by kernel_rfl
def ap0(hs:iZ u s l)(Z:s.n<=1099511627776)(ae:∀s' u',aE u u' 83 3 s' (l.flatMap ey)->s'.n=s.n->K s' u'):LM s u K:=by
 apply as9;refine⟨λac=>?_,λ_=>R9 aqO aeX (by decide) hs ?_ (by omega) ae⟩;have ai:=R5 hs ac;have fX:s.n=0:=by have:=bb.len hs;rw[ai] at this;simp at this;omega
 refine ae _ _ ?_ fX.symm;rw[ai];exact aE.nil (H.le.refl u) _ _;intro y af;obtain⟨h,_,af⟩:=List.mem_flatMap.1 af;exact xH h y af
def rq{l:List Int}(hs:Ints u s l)(Z:s.n<=1099511627776)(ae:∀s' u',aE u u' 3 1 s' (l.flatMap encI)->s'.n=s.n->K s' u'):nZ s u K:=by
 have eT:bb u s 1 (l.flatMap encI):=by rw[tk];exact hs
 apply as8;refine⟨λac=>?_,λ_=>R9 pE aeY (by decide) eT ?_ (by omega) ae⟩;have ai:=R5 eT ac;have fX:s.n=0:=by have:=bb.len eT;rw[ai] at this;simp at this;omega
 refine ae _ _ ?_ fX.symm;rw[ai];exact aE.nil (H.le.refl u) _ _;intro y af;obtain⟨h,_,af⟩:=List.mem_flatMap.1 af;exact HD h y af
def gZ(Y:H)(n:Nat)(k:Int)(u:H)(S:List bk):Prop:=∃l,vO Y n k u l/\gb (λa b=>bh b a) l.length l/\l.Perm (dX k.toNat S)
def gZ.le(h:gZ Y n k u S):Y.le u:=by obtain⟨l,h,_,_⟩:=h;obtain⟨s,_,U,_⟩:=h.ex;exact U.le
def gZ.mono{u':H}(h:gZ Y n k u S)(hu:u.le u'):gZ Y n k u' S:=by obtain⟨l,h,h2,h3⟩:=h;obtain⟨s,ac,U,ah⟩:=h.ex;exact⟨l,⟨⟨s,hu _ _ ac,U.mono hu,ah⟩,h.out,h.small⟩,h2,h3⟩
theorem gZ.lx(h:gZ Y n k u S){m:Nat}(hm:u m=none)(o:Obj):gZ (Y.ins m o) n k (u.ins m o) S:=by
 obtain⟨l,h,h2,h3⟩:=h;obtain⟨s,ac,U,ah⟩:=h.ex;have nF:n≠m:=λe=>by grind
 exact⟨l,⟨⟨s,by rw[aL _ _ nF];exact ac,U.lx hm o,ah⟩,by rw[aL _ _ nF];exact h.out,h.small⟩,h2,h3⟩
theorem aE.ES{e k:Nat}(h:aE Y u e k s xs){D:Nat}(fb:Y D=none)(Z:s.ad≠some D)(o:Obj):aE Y (u.ins D o) e k s xs:=by refine⟨h.own.le λb x I qa=>?_,λb x I=>?_,h.fresh⟩;rw[aL _ _ (λe=>Z (by rw[I,e]))];exact qa;rw[aL _ _ (λe=>by grind)];exact h.le b x I
def gZ.perm{T:List bk}(h:gZ Y n k u S)(aa:S.Perm T):gZ Y n k u T:=by obtain⟨l,h1,h2,h3⟩:=h;exact⟨l,h1,h2,by rw[<-xa aa];exact h3⟩
def Kw{K:Option Addr->Int->H->Prop}(dT:k<1∨64<k->K none 1 u)(bL:1<=k->k<=64->∀n u',u.le u'->u n=none->gZ u n k u' []->K (some ⟨n,0,none⟩) 0 u'):zx k u K:=by apply atT;refine⟨λh=>dT (.inl h),λh=>⟨λh2=>dT (.inr h2),λh2 n ac=>bL (by omega) (by omega) n _ (bN _ ac) ac ?_⟩⟩;refine⟨[],⟨⟨⟨none,0,0⟩,aS _ _ _,aE.nil (bN _ ac) _ _,by simp[J.ad]⟩,ac,by simp⟩,λi _ hi=>by simp at hi,?_⟩;simp[dX,kW]
theorem Kv{K:Bool->H->Prop}(h:gZ Y n k u S)(cv:1<=k)(cI:k<=64)(ae:∀b u',gZ Y n k u' (x::S)->K b u'):
  xh (some ⟨n,0,none⟩) x.1 (cK x.2) (cO x.2) u K:=by
 obtain⟨l,dc,bW,aa⟩:=h
 obtain⟨s,ac,U,ah⟩:=dc.ex
 have hlen:=aa.length_eq
 rw[uf] at hlen
 have cY:=U.fN.len
 apply atP
 have iR:u.cell? ((Addr.mk n 0 none).add 1)=some (.slice s.a s.n s.c):=by rw[CP];exact aV ac 1
 refine⟨λI=>(by cases I),λ_=>⟨_,rfl,_,rfl,s,iR,k,aV ac 0,λawz=>⟨_,rfl,?_⟩,λhg=>?_⟩⟩
 refine abb (abW Y n k) OA (y:=x) bW (λmS=>aiE dc (by omega) mS) λu' bi eT ji ko=>ae true u' ⟨bi,eT,ko,?_⟩
 have aW:S.length<k.toNat:=by omega
 obtain⟨t1,t2⟩:=aq3 (x:=x) aW
 grind
 have hk:l.length=k.toNat:=by omega
 have aW:k.toNat<=S.length:=by omega
 obtain⟨p,gj,r,W,c0,c1,c2⟩:=U.fN.at (x:=0) (by omega) (by omega)
 obtain⟨t,rfl⟩:∃t,l=r::t:=by
  cases l with
  |nil=>simp at W|cons a t=>grind
 have nJ:∀y∈r::t,bh r y=false:=by intro y af;obtain⟨i,hi,rfl⟩:=List.mem_iff_getElem.1 af;have:=gb.root OA bW i hi;simpa[List.getD_eq_getElem?_getD,List.getElem?_eq_getElem hi] using this
 refine⟨_,rfl,s,iR,p,gj,⟨by omega,by omega⟩,_,c0,_,c1,_,c2,F3 ⟨λZ=>ae false u ⟨r::t,dc,bW,?_⟩,λZ=>⟨_,rfl,s,iR,p,gj,⟨by omega,by omega⟩,?_⟩⟩⟩
 rw[SO aW λy af=>ye (nJ y (aa.mem_iff.2 af)) (by simpa using Z)]
 exact aa
 refine aE.store (enc:=ey) oc U (by decide) (i:=0) (by simp) (y:=x) (xH x) gj λaI hz tu _=>⟨_,rfl,?_⟩
 have akr:vO Y n k aI ((r::t).set 0 x):=dc.set ac ah hz tu (by simp)
 refine apz (abW Y n k) OA akr (by simp) (by simpa using bW.afY (Nat.le_refl _) x) λu' bi eT ji ko=>ae true u' ⟨bi,eT,ko,?_⟩
 exact ji.trans (aqZ aa nJ Z (by rw[uf];omega))
def F2(h:gZ Y n k u S)(ae:∀s' u',aE u u' 83 3 s' ((dX k.toNat S).flatMap ey)->K s' u'):
  xg (some ⟨n,0,none⟩) u K:=by
 obtain⟨l,dc,bW,aa⟩:=h
 obtain⟨s,ac,U,ah⟩:=dc.ex
 have fc:=dc.small
 have cY:=U.fN.len
 apply atO
 have iR:u.cell? ((Addr.mk n 0 none).add 1)=some (.slice s.a s.n s.c):=by rw[CP];exact aV ac 1
 refine⟨λI=>(by cases I),λ_=>⟨_,rfl,s,iR,ap0 U.fN (by omega) λs' u' bG _=>?_⟩⟩
 refine ap9 (cf:=zZ) afE (enters_of Tryz.func104 (by kernel_rfl) rfl) afG bG (by omega) λbE dD _=>ae s' bE ?_
 rw[aaT aa] at dD
 rw[<-Sk (.refl _) (KK _ _)] at dD
 exact dD
open Go.RowKit
def Fi(o:Oper):Bool:=match o.op with
 | .defer _=>false|_=>true
def j5:Code->Bool
 | .skip=>true| .seq a b=>j5 a && j5 b| .cond _ a b=>j5 a && j5 b| .block _ b=>j5 b| .region _ ops _=>ops.toList.all Fi|_=>false
def amO{o:Oper}(h:Fi o=true):∀c,o.op≠.defer c:=λc E=>by unfold Fi at h;rw[E] at h;cases h
theorem auO{ops:Array Oper}{Q:Exit->Act->World->Prop}(aj:∀o∈ops.toList,Fi o=true)(ed:¬LetsOut Q)(ro:Option Nat):∀(eE:Nat) (listed:Array Bool) (a:Act) (w:World),
  wpAny P .any ops Q eE listed a w->wpAnyIn (Fr ro) 0 P .any ops Q eE listed a w:=by
 intro eE
 induction eE with
 |zero=>intro listed a w h;exact h
 |succ eE aG=>
  intro listed a w h;refine⟨h.1,λi hi=>?_⟩;have h2:=h.2 i hi;unfold wpOp at h2;unfold wpOpIn;cases U:ops[i]? with
  |none=>rw[U] at h2;exact aG _ _ _ h2|some o=>rw[U] at h2;simp only at h2 ⊢;split at h2;rename_i hw;rw[if_pos hw];rcases h2 with h3|h3;exact Go.Oper.wpIn_mono (λa w h=>aG _ _ _ h) (rB ro (.inr (amO (aj o (by grind)))) h3);exact absurd h3.2 ed;rename_i hw;rw[if_neg hw];exact⟨λ_ _=>trivial,aG _ _ _ h2⟩
section
variable {C:iB} {aY:Nat->Bool} {s:an} {u:H} {bs:List Nat} {a:Act} {w:World}
set_option maxHeartbeats 1000000 in
theorem Ht(dW:Good C)(ro:Option Nat):∀(c:Code),j5 c=true->∀(p:Nat) (aY:Nat->Bool) (Q:Exit->an->H->Prop) (s:an) (u:H),e9 C [] c p aY Q s u->
  ∀(bs:List Nat) (a:Act) (w:World),Fits s bs u a w->c.wpIn (Fr ro) 0 C.P (jV aY s bs u a w (dS c) Q) a w:=by
 intro c
 induction c with
 |skip=>intro _ p aY Q s u h bs a w M;exact wpIn_skip ⟨λ_=>Exit.noConfusion,s,u,bs,h,M,Step.refl M.sub,Kept.refl _ _,λ_ _=>rfl⟩
 |region id ops aD=>
  intro jk p aY Q s u h bs a w M;cases aD with
  |true=>
   simp only[j5,List.all_eq_true] at jk;simp only[e9] at h;split at h;rename_i lh;have wm:Fits s bs u a {w with drawn:=w.drawn+1}:=⟨M.toFitsE,M.len,M.loc,M.nodup,M.hid,M.sub⟩;have fT:sS ops (Array.replicate ops.size false):=by
    intro j o _ aH;have:(Array.replicate ops.size false).getD j false=false:=by rw[Array.getD_eq_getD_getElem?,Array.getElem?_replicate];split<;>rfl
    rw[this] at aH;cases aH
   have uO:vF aY s bs u a {w with drawn:=w.drawn+1} (eM (dS (.region id ops true))) (Q .normal) (λb3 aw=>Exit.normal=.normal/\jV aY s bs u a w (dS (.region id ops true)) Q .normal b3 aw):=by intro s' u' cd b3 aw hk b5 hs gE ap;exact⟨rfl,λ_=>Exit.noConfusion,s',u',cd,hk,b5,(Step.HA M.sub (Nat.le_succ _)).trans hs,gE,ap⟩
   have cr:(Code.region id ops true).wpIn (Fr ro) 0 C.P (λe b3 aw=>e=.normal/\jV aY s bs u a w (dS (.region id ops true)) Q .normal b3 aw) a w:=by refine wpIn_region_any dW.mixed (auO jk (λai=>by obtain⟨_,_,h,_⟩:=ai;exact Exit.noConfusion h) ro _ _ _ _ ?_);split at h;refine Tc (nd:=nQ ops) (S:=gV s.loc bs u) _ _ _ _ ?_;exact Vn dW (ds:=eM (dS (.region id ops true))) (eU:=s.loc) (ew:=bs) lh (λc a w aa=>Exit.noConfusion aa.1) (λo U d aj=>z8 U aj) _ _ _ s u h bs a _ _ wm fT (by unfold left;simp) (λ_=>⟨H.le.refl u,rfl,rfl⟩) ⟨[],by simp⟩ uO;obtain⟨v0,tB,h⟩:=h;refine Td (R:=lG ops s.loc bs v0 u) _ _ _ _ ?_;exact Vm dW (ds:=eM (dS (.region id ops true))) (eU:=s.loc) (ew:=bs) tB lh (λc a w aa=>Exit.noConfusion aa.1) (λo U d aj=>z8 U aj) _ _ _ s u h bs a _ _ wm fT (by unfold left;simp) (λ_=>⟨H.le.refl u,rfl,rfl⟩) ⟨[],by simp⟩ uO
   exact wpIn_mono cr λe b3 aw ⟨h1,h2⟩=>by rw[h1];exact h2
   exact h.elim
  |false=>
   simp only[j5,List.all_eq_true] at jk;simp only[e9] at h;refine wpIn_region_list (aaF dW ro (ds:=eM (dS (.region id ops false))) ops.toList s u bs a w h M (.inr λo U c E=>?_) (λo U d aj=>z8 U aj) ?_);have:=jk o U;unfold Fi at this
   grind
   intro s' u' cd b3 aw hk b5 hs gE ap;exact⟨λ_=>Exit.noConfusion,s',u',cd,hk,b5,hs,gE,ap⟩
 |seq x y q5 q6=>
  intro jk p aY Q s u h bs a w M;have k9:∀d,eM (dS (.seq x y)) d=false->eM (dS x) d=false:=λd h=>by simp only[dS,wR,Bool.or_eq_false_iff] at h;exact h.1
  have wk:∀d,eM (dS (.seq x y)) d=false->eM (dS y) d=false:=λd h=>by simp only[dS,wR,Bool.or_eq_false_iff] at h;exact h.2
  simp only[j5,Bool.and_eq_true] at jk;simp only[e9,Hg] at h;refine wpIn_seq (Code.wpIn_mono ?_ (q5 jk.1 _ _ _ s u h bs a w M));intro e b3 aw aa;obtain⟨ah,s',u',cd,ay,b5,hs,hk,ap⟩:=aa;cases e with
  |normal=>refine Code.wpIn_mono ?_ (q6 jk.2 _ _ _ s' u' ay cd b3 aw b5);intro ar a2 ea fD;exact jV.next hs hk (λd aj=>ap d (k9 d aj)) (fD.mono wk)
  |exit id=>exact⟨ah,s',u',cd,ay,b5,hs,hk,λd aj=>ap d (k9 d aj)⟩|goto l=>exact⟨ah,s',u',cd,ay,b5,hs,hk,λd aj=>ap d (k9 d aj)⟩|ret=>exact⟨ah,s',u',cd,ay,b5,hs,hk,λd aj=>ap d (k9 d aj)⟩|panic c=>exact absurd rfl (ah c)|outgrown=>exact⟨ah,s',u',cd,ay,b5,hs,hk,λd aj=>ap d (k9 d aj)⟩
 |cond c x y q5 q6=>
  intro jk p aY Q s u h bs a w M;simp only[j5,Bool.and_eq_true] at jk;have k9:∀d,eM (dS (.cond c x y)) d=false->eM (dS x) d=false:=λd h=>by simp only[dS,wR,Bool.or_eq_false_iff] at h;exact h.1
  have wk:∀d,eM (dS (.cond c x y)) d=false->eM (dS y) d=false:=λd h=>by simp only[dS,wR,Bool.or_eq_false_iff] at h;exact h.2
  have I:∀(bo:an),a.eval c=.bool true->Fits bo bs u a w->(bo.loc=s.loc/\bo.n=s.n)->e9 C [] x (2*p) aY Q bo u->(Code.cond c x y).wpIn (Fr ro) 0 C.P (jV aY s bs u a w (dS (.cond c x y)) Q) a w:=by intro bo E la cY hw;refine wpIn_cond_true E (Code.wpIn_mono ?_ (q5 jk.1 _ _ _ bo u hw bs a w la));intro e b3 aw aa;exact jV.next (Step.refl M.sub) ⟨cY.2,by grind,λi cs e _=>by rw[cY.1];exact e⟩ (λ_ _=>rfl) (aa.mono k9)
  have af:∀(bo:an),a.eval c=.bool false->Fits bo bs u a w->(bo.loc=s.loc/\bo.n=s.n)->e9 C [] y (2*p+1) aY Q bo u->(Code.cond c x y).wpIn (Fr ro) 0 C.P (jV aY s bs u a w (dS (.cond c x y)) Q) a w:=by intro bo E la cY hw;refine wpIn_cond_false E (Code.wpIn_mono ?_ (q6 jk.2 _ _ _ bo u hw bs a w la));intro e b3 aw aa;exact jV.next (Step.refl M.sub) ⟨cY.2,by grind,λi cs e _=>by rw[cY.1];exact e⟩ (λ_ _=>rfl) (aa.mono wk)
  have gk:∀v,s.sv c=some v->∀t,c=.tmp t->(look s.env t).isSome=true:=λv av t ht=>by subst ht;simp only[an.sv] at av;rw[av];rfl
  simp only[e9] at h;split at h;rename_i E;exact I s (Option.some.inj (M.sv E)).symm M ⟨rfl,rfl⟩ h;rename_i E;exact af s (Option.some.inj (M.sv E)).symm M ⟨rfl,rfl⟩ h;rename_i q d E;have er:=(Option.some.inj (M.sv E)).symm;by_cases ay:q;have aO:a.eval c=.bool true:=by rw[er];simp[ay]
  obtain⟨h1,h2⟩:=rv (x:=.hB) M (by rw[aO];rfl) (gk _ E);exact I _ aO h1 h2 (h.1 ay);have aO:a.eval c=.bool false:=by rw[er];simp[ay]
  obtain⟨h1,h2⟩:=rv (x:=.hr) M (by rw[aO];rfl) (gk _ E);exact af _ aO h1 h2 (h.2 ay);rename_i q d E;have er:=(Option.some.inj (M.sv E)).symm;by_cases ay:q;have aO:a.eval c=.bool false:=by rw[er];simp[ay]
  obtain⟨h1,h2⟩:=rv (x:=.hr) M (by rw[aO];rfl) (gk _ E);exact af _ aO h1 h2 (h.2 ay);have aO:a.eval c=.bool true:=by rw[er];simp[ay]
  obtain⟨h1,h2⟩:=rv (x:=.hB) M (by rw[aO];rfl) (gk _ E);exact I _ aO h1 h2 (h.1 ay);rename_i b E;have er:=(Option.some.inj (M.sv E)).symm;cases b with
  |true=>obtain⟨h1,h2⟩:=rv (x:=.hB) M (by rw[er];rfl) (gk _ E);exact I _ er h1 h2 (h.1 rfl)
  |false=>obtain⟨h1,h2⟩:=rv (x:=.hr) M (by rw[er];rfl) (gk _ E);exact af _ er h1 h2 (h.2 rfl)
  exact h.elim
 |block id b aG=>
  intro jk p aY Q s u h bs a w M;simp only[j5] at jk;simp only[e9] at h;refine wpIn_block (Code.wpIn_mono ?_ (aG jk _ _ _ s u h bs a w M));intro e b3 aw aa;obtain⟨ah,s',u',cd,ay,b5,hs,hk,ap⟩:=aa;cases e with
  |exit j=>simp only at ay;simp only[Exit.inBlock];split at ay;rename_i aH;have:=Nat.eq_of_beq_eq_true aH;subst this;rw[if_pos rfl];exact⟨λ_=>Exit.noConfusion,s',u',cd,ay,b5,hs,hk,ap⟩;rename_i aH;rw[if_neg (λe=>by simp_all)];exact⟨ah,s',u',cd,ay,b5,hs,hk,ap⟩|normal=>exact⟨ah,s',u',cd,ay,b5,hs,hk,ap⟩|goto l=>exact⟨ah,s',u',cd,ay,b5,hs,hk,ap⟩|ret=>exact⟨ah,s',u',cd,ay,b5,hs,hk,ap⟩|panic c=>exact absurd rfl (ah c)|outgrown=>exact⟨ah,s',u',cd,ay,b5,hs,hk,ap⟩
 |label l=>intro h;simp[j5] at h
 |ret=>intro h;simp[j5] at h
 |exit id=>intro h;simp[j5] at h
 |goto l=>intro h;simp[j5] at h
 |refuse r=>intro h;simp[j5] at h
 |rangeFunc f bZ x y=>intro h;simp[j5] at h
 |scope b aG=>intro h;simp[j5] at h
 |loop b aG=>intro h;simp[j5] at h
end
def Iter{α:Type}(P:Program)(fv:Value)(enc:α->Value)(xs:List α)(u:H):Prop:=
 ∀(ma:Value) (cN:Nat->H->Prop),(∀i v,cN i v->u.le v)->
  (∀i y v (K:Bool->H->Prop),xs[i]?=some y->cN i v->(∀bH,cN (i+1) bH->K true bH)->vE P ma #[enc y] [.one .bool] v K)->
  ∀v (K:H->Prop),cN 0 v->(∀bH,cN xs.length bH->K bH)->fQ P fv #[ma] [] v K
def vM(P:Program)(n:Nat)(assign body:Code)(env:List (Nat×Value))(x:Nat)(y:Value)(v:H)(cN:H->Prop):Prop:=
 ∀l a w,a.tmps.size=n->(∀p∈env,p.1≠x->a.tmps[p.1]?=some p.2)->a.tmps[x]?=some y->a.defers=[]->Sub v w->
  assign.wpIn (Fr (some l)) 0 P (Exit.then (λO gq=>∃v1,Step v [] w v1 [] gq/\∀ea,Sub v1 ea->
   body.wpIn (Fr (some l)) 0 P (λe _ hD=>e=.normal/\∃v2,cN v2/\Step v1 [] ea v2 [] hD) O ea) (λ_ _ _=>False)) a w
theorem H.ET{v:H}(h:u.le v)(b:Nat)(o:Obj):(u.ins b o).le (v.ins b o):=by
 intro x y e;unfold H.ins at e ⊢;split at e
 grind
 rename_i I;rw[if_neg I];exact h x y e
theorem mN.intro{α:Type}{t x:Nat}{assign body:Code}{K:Nat->H->Prop}{enc:α->Value}{xs:List α}{fv:Value}{ub:H}(cy:ub.le u)
  (M:∀f args w,(∃fn,P.funcs[f]?=some fn/\fn.body.isSome=true)->(callFunc f args).run P w=.ok (.enter f args) w) (N:(t,fv)∈env) (I:x<n)
  (gh:∀Y,ub.le Y->Iter P fv enc xs Y) (cN:Nat->H->Prop) (h0:cN 0 u) (hle:∀i v,cN i v->ub.le v)
  (Od:∀i y v,xs[i]?=some y->cN i v->vM P n assign body env x (enc y) v (cN (i+1)))
  (ae:∀v D,cN xs.length v->v D=none->K D (v.ins D (.deferred (some [])))):mN P (.rangeFunc (.tmp t) #[x] assign body) n env u K:=by
 intro a w cA r7 Oq gH
 refine(wpIn_wide (n:=0)).1 (wpIn_rangeFunc ?_)
 intro fn _
 have er:a.eval (.tmp t)=fv:=by simp only[Act.eval];rw[Array.getD_eq_getD_getElem?,r7 _ N];rfl
 obtain⟨rec,ox⟩:∃rec:LoopState->Loop,rec=λbo=>{state:=bo,pending:=none,fn,tmps:=a.tmps,params:=#[x],assign,body,defers:=w.heap.size}:=⟨_,rfl⟩
 obtain⟨jW,kl⟩:∃jW,(w.alloc (.deferred (some []))).alloc (.loop (rec .ready))=jW:=⟨_,rfl⟩
 have akw:jW.heap.size=w.heap.size+2:=by rw[<-kl];simp
 have hx:jW.heap[w.heap.size+1]?=some (.loop (rec .ready)):=by rw[<-kl];have:=World.alloc_heap_new (w.alloc (.deferred (some []))) (.loop (rec .ready));simp_all
 have Dv:jW.heap[w.heap.size]?=some (.deferred (some [])):=by rw[<-kl];exact(Below.heap_alloc _ _ _ (by simp)).trans (World.alloc_heap_new w _)
 have hold:∀b,b<w.heap.size->jW.heap[b]?=w.heap[b]?:=λb Z=>by rw[<-kl];exact(Below.heap_alloc _ _ _ (by simp;omega)).trans (Below.heap_alloc _ _ _ Z)
 have yf:u (w.heap.size+1)=none:=gH.none (by omega)
 have Dt:u w.heap.size=none:=gH.none (Nat.le_refl _)
 have O9:ub (w.heap.size+1)=none:=by
  cases I:ub (w.heap.size+1) with
  |none=>rfl|some o=>rw[cy _ _ I] at yf;cases yf
 have Ql:ub.le (ub.ins (w.heap.size+1) (.loop (rec .ready))):=bN _ O9
 have P4:Sub (u.ins (w.heap.size+1) (.loop (rec .ready))) jW:=by
  intro b o Z;unfold H.ins at Z;split at Z
  grind
  have:=gH b o Z
  grind
 have fT:=gh _ Ql (.func (.yield (w.heap.size+1)) #[] #[])
  (λi v=>∃v0,v=v0.ins (w.heap.size+1) (.loop (rec .ready))/\v0 (w.heap.size+1)=none/\v0 w.heap.size=none/\cN i v0)
  (λi v ⟨v0,av,_,_,aH⟩=>by rw[av];exact H.ET (hle i v0 aH) _ _)
  (by
   rintro i y v e5 af ⟨v0,rfl,uU,uL,aH⟩ mS;refine⟨_,rfl,λbm gv=>?_⟩;have ya:bm.heap[w.heap.size+1]?=some (.loop (rec .ready)):=gv _ _ (aS _ _ _);have bh:w.heap.size+1<bm.heap.size:=(Array.getElem?_eq_some_iff.1 ya).1;have lV:(Instr.yield (w.heap.size+1) #[enc y]).run P bm=.ok (.round (w.heap.size+1) fn (a.tmps.setIfInBounds x (enc y)) assign body) bm:=by have:=run_yield (P:=P) (args:=#[enc y]) ya (by rw[ox];rfl);rw[ox] at this;simpa using this
   have P6:Sub v0 bm:=gv.mono (bN _ uU);refine⟨fn,_,assign,body,lV,roundIn_of_wpIn trivial ?_⟩;refine wpIn_mono (Od i y v0 af aH (w.heap.size+1) _ bm ?_ ?_ ?_ rfl P6) ?_;simpa using cA
   grind
   grind
   intro e O gq aa;cases e with
   |normal=>
    obtain⟨v1,df,Z⟩:=aa;have D5:gq.heap[w.heap.size+1]?=some (.loop (rec .ready)):=(df.rest _ bh uU (by simp)).trans ya;have yc:w.heap.size+1<gq.heap.size:=(Array.getElem?_eq_some_iff.1 D5).1;have gi:v1 (w.heap.size+1)=none:=df.jg _ bh uU;have NN:v1 w.heap.size=none:=df.jg _ (by omega) uL;refine⟨_,run_beginRound D5 (by rw[ox]),wpIn_mono (Z _ ?_) ?_⟩;intro b o jZ;have ah:b≠w.heap.size+1:=λe=>by grind
    exact(World.putObj_heap_other ah).trans (df.sub b o jZ);rintro e a2 hD ⟨rfl,v2,pf,dh⟩;have O8:(gq.putObj (w.heap.size+1) (.loop {rec .ready with state:=.busy})).heap[w.heap.size+1]?=some (.loop {rec .ready with state:=.busy}):=World.putObj_heap_same yc;have uV:hD.heap[w.heap.size+1]?=some (.loop {rec .ready with state:=.busy}):=(dh.rest _ (by simpa using yc) gi (by simp)).trans O8;have Pd:w.heap.size+1<hD.heap.size:=(Array.getElem?_eq_some_iff.1 uV).1;have fX:v2 (w.heap.size+1)=none:=dh.jg _ (by simpa using yc) gi;have pU:=run_endRound (P:=P) none uV;have Nn:({{rec .ready with state:=LoopState.busy} with state:=if(none:Option Code).isNone then .ready else .done,pending:=none}:Loop)=rec .ready:=by rw[ox];rfl
    rw[Nn] at pU;refine⟨_,_,pU,.bool true,v2.ins (w.heap.size+1) (.loop (rec .ready)),rfl,⟨[.bool true],.cons (t:=.bool) true .nil,rfl,?_⟩,?_⟩;exact mS _ ⟨v2,rfl,fX,dh.jg _ (by grind) NN,pf⟩;refine⟨λb o jZ=>?_,dh.os.trans df.os,dh.tape.trans df.tape,dh.output.trans df.output,Nat.le_trans df.drawn dh.drawn,?_,λb Z fL _=>?_,λb Z fL=>?_,[],by simp,by simp⟩;unfold H.ins at jZ;split at jZ;rename_i ee;subst ee;cases jZ;exact World.putObj_heap_same Pd;rename_i ee;rw[World.putObj_heap_other ee];exact dh.sub b o jZ;have h1:=df.size;have h2:=dh.size;simp at h2 ⊢;omega;have ah:b≠w.heap.size+1:=λe=>by rw[e,aS] at fL;cases fL
    rw[aL _ _ ah] at fL;have kI:b<gq.heap.size:=Nat.lt_of_lt_of_le Z df.size;rw[World.putObj_heap_other ah,dh.rest b (by simpa using kI) (df.jg b Z fL) (by simp),World.putObj_heap_other ah];exact df.rest b Z fL (by simp);have ah:b≠w.heap.size+1:=λe=>by rw[e,aS] at fL;cases fL
    rw[aL _ _ ah] at fL ⊢;exact dh.jg b (by have:=df.size;simp;omega) (df.jg b Z fL)
   |_=>exact aa.elim)
  _ (λbH=>∃v0,bH=v0.ins (w.heap.size+1) (.loop (rec .ready))/\v0 (w.heap.size+1)=none/\v0 w.heap.size=none/\cN xs.length v0) ⟨u,rfl,yf,Dt,h0⟩ (λ_ h=>h)
 obtain⟨xO,Dm,cap,DV,xY,fT⟩:=fT
 rw[DV] at er
 refine⟨w.heap.size+1,[{target:=.collected w.heap.size,args:=#[]}],jW,{target:=.fn (.func xO) cap,args:=Dm++ #[.func (.yield (w.heap.size+1)) #[] #[]]},jW,xO,
  Dm++ #[.func (.yield (w.heap.size+1)) #[] #[]]++cap,jW,?_,?_,λ_ _=>trivial,?_,λh=>by simp[Fence.wide] at h,?_⟩
 rw[<-kl,ox];exact run_enterLoop_outer _ _ _ _ _
 simp only[resolve,er]
 simp[go_sem]
 simp[invoke,go_sem,M xO _ _ xY]
 refine callsIn_wide.2 ((fT jW P4).mono ?_)
 rintro e hD ⟨v,u',rfl,⟨vs,hk,rfl,E⟩,hs⟩
 cases hk
 obtain⟨v0,rfl,uU,uL,aH⟩:∃v0:H,u'=v0.ins (w.heap.size+1) (.loop (rec .ready))/\v0 (w.heap.size+1)=none/\v0 w.heap.size=none/\cN xs.length v0:=E
 have uV:hD.heap[w.heap.size+1]?=some (.loop (rec .ready)):=hs.sub _ _ (aS _ _ _)
 have NO:hD.heap[w.heap.size]?=some (.deferred (some [])):=by rw[hs.rest _ (by omega) (by rw[aL _ _ (by omega)];exact Dt) (by simp)];exact Dv
 have pU:(Instr.endLoop (w.heap.size+1)).run P hD=.ok none (hD.putObj (w.heap.size+1) (.loop {rec .ready with state:=.exhausted})):=by have:=run_endLoop (P:=P) uV (by rw[ox];simp);rw[this];rw[ox]
 refine⟨none,_,pU,rfl,rfl,w.heap.size,_,?_,ae v0 w.heap.size aH uL,?_⟩
 simp[Oq,Hz]
 have se:=hs.size
 refine⟨λb o jZ=>?_,?_,?_,?_,?_,by simp;omega,λb Z fL _=>?_,λb Z fL=>?_,[],by simp,by simp⟩
 unfold H.ins at jZ
 split at jZ
 rename_i ee;subst ee;cases jZ
 rw[World.putObj_heap_other (by omega)];exact NO
 have ah:b≠w.heap.size+1:=λe=>by grind
 rw[World.putObj_heap_other ah]
 exact hs.sub b o (by rw[aL _ _ ah];exact jZ)
 exact hs.os.trans (by rw[<-kl];rfl)
 exact hs.tape.trans (by rw[<-kl];rfl)
 exact hs.output.trans (by rw[<-kl];rfl)
 exact Nat.le_trans (by rw[<-kl];exact Nat.le_refl _) hs.drawn
 have ah:b≠w.heap.size+1:=by omega
 rw[World.putObj_heap_other ah,hs.rest b (by omega) (by rw[aL _ _ ah];exact fL) (by simp)]
 exact hold b Z
 have ah:b≠w.heap.size+1:=by omega
 have:=hs.jg b (by omega) (by rw[aL _ _ ah];exact fL)
 rw[aL _ _ ah] at this
 rw[aL _ _ (by omega)];exact this
def vM.of{C:iB}(dW:Good C){assign body:Code}{x:Nat}{y:Value}{v:H}{cN:H->Prop}(ap:j5 assign=true)(Z:j5 body=true)
  (xJ:List (Nat×eb)) (r7:∀p∈xJ,∃z,fa [] p.2=some z/\((p.1=x/\z=y)∨p.1≠x/\(p.1,z)∈env))
  (h:e9 C [] assign 1 (λ_=>true) (λe s u=>e=.normal/\s.loc=[]/\e9 C [] body 1 (λ_=>true) (λe _ u=>e=.normal/\cN u) s u) {n:=n,env:=xJ,loc:=[]} v):
  vM C.P n assign body env x y v cN:=by
 intro l a w cA he I aj hs
 have M:Fits {n:=n,env:=xJ,loc:=[]} [] v a w:=by refine⟨⟨aj,cA,λp aa=>?_⟩,rfl,λi cs e=>by simp at e,by simp,by simp,hs⟩;obtain⟨z,h1,h2⟩:=r7 p aa;refine⟨z,h1,?_⟩;rcases h2 with⟨h3,rfl⟩|⟨h3,aZ⟩;rw[h3];exact I;exact he _ aZ h3
 refine wpIn_mono (Ht dW (some l) assign ap 1 _ _ _ v h [] a w M) ?_
 rintro e O gq ⟨_,s',u',cd,⟨rfl,pY,dJ⟩,b5,dc,_,_⟩
 have iQ:cd=[]:=by have:=b5.len;rw[pY] at this;simpa using this
 subst iQ
 refine⟨u',dc,λea Qq=>?_⟩
 have gw:Fits s' [] u' O ea:=⟨b5.toFitsE,b5.len,λi cs e=>by rw[pY] at e;simp at e,by simp,by simp,Qq⟩
 refine wpIn_mono (Ht dW (some l) body Z 1 _ _ s' u' dJ [] O ea gw) ?_
 rintro e a2 hD ⟨_,s2,bE,zT,⟨rfl,aH⟩,aiI,P2,_,_⟩
 exact⟨rfl,bE,aH,P2.forget⟩
def y1:Code->Code
 | .rangeFunc _ _ x _=>x|_=>.skip
def y2:Code->Code
 | .rangeFunc _ _ _ x=>x|_=>.skip
def mN.code{c:Code}{t x:Nat}{K:Nat->H->Prop}(E:c=.rangeFunc (.tmp t) #[x] (y1 c) (y2 c))(h:mN P (.rangeFunc (.tmp t) #[x] (y1 c) (y2 c)) n env u K):mN P c n env u K:=by rw[E];exact h
end
section
variable{u Y:H}{l:List aT}{m e:Nat}{t:J}{T:TypeId}{v:Value}{d:Int}{f:Int->Int->Int}
def OZ(h:bk):Value:=.agg #[.int .i64 h.1,.int .u64 (cK h.2),.int .u64 (cO h.2)]
def aep:fi Tryz.prog 97=true:=by kernel_rfl
theorem ai6{s:J}{q:List Int}(hs:ev u s l)(ht:Ints u t q)(bL:jH l q){n0 cb:Nat}(c0:u.cell? ⟨n0,0,none⟩=some (.slice s.a s.n s.c))(c1:u.cell? ⟨cb,0,none⟩=some (.slice t.a t.n t.c)):
  Iter Tryz.prog (.func (.func 97) #[] #[.pointer (some ⟨n0,0,none⟩),.pointer (some ⟨cb,0,none⟩)]) OZ (l.map (hh q)) u:=by
 intro ma cN jv Eu v K h0 ae
 refine⟨_,_,_,rfl,fg aep,?_⟩
 have e:(#[]++ #[ma]++ #[Value.pointer (some ⟨n0,0,none⟩),.pointer (some ⟨cb,0,none⟩)]:Array Value)=#[ma,.pointer (some ⟨n0,0,none⟩),.pointer (some ⟨cb,0,none⟩)]:=by simp
 rw[e]
 have ac:=hs.len
 have Ot:=bL.rows.ao
 refine asj ma ⟨n0,0,none⟩ ⟨cb,0,none⟩ v K ⟨s,mQ (jv _ _ h0) c0,λi w=>0<=i/\i<=(s.n:Int)/\cN i.toNat w,λi _=>s.n-i.toNat,⟨by omega,by omega,h0⟩,?_⟩
 rintro i w ⟨i0,i1,aH⟩
 have hle:=jv _ _ aH
 refine⟨λhi=>?_,λhi=>ae _ ?_⟩
 obtain⟨p,aa,r,W,d0,d1,av⟩:=(hs.mono hle).at i0 hi
 have gx:=List.mem_of_getElem? W
 obtain⟨ai,akT⟩:=bL.rows.v r gx
 refine⟨p,aa,⟨i0,hi⟩,_,d0,_,d1,t,mQ hle c1,Ky av (ht.mono hle) akT (by omega) bL.Cg (by omega) λx y I af hw=>?_⟩
 have ex:x=cK (hh q r).2:=by rw[<-show dY x y=(hh q r).2 from hw,OW af]
 have uI:y=cO (hh q r).2:=by rw[<-show dY x y=(hh q r).2 from hw,Q5 af]
 subst ex;subst uI
 refine .inr (Eu i.toNat (hh q r) w _ (by grind) aH λbH eg=>⟨λh=>absurd rfl h,λ_=>⟨⟨by have:=hs.max;omega,by have:=hs.max;omega⟩,⟨by omega,by omega,?_⟩,by dsimp only;omega⟩⟩)
 rw[show(i+1).toNat=i.toNat+1 by omega]
 exact eg
 rw[List.length_map]
 have:i.toNat=l.length:=by omega
 rw[<-this];exact aH
def MS:∀f args w,(∃fn,Tryz.prog.funcs[f]?=some fn/\fn.body.isSome=true)->(callFunc f args).run Tryz.prog w=.ok (.enter f args) w:=
 λ_ args w h=>Hp (lP [] false (lN:=[]) (l2:=[]) (part:=false)) h args w
abbrev F8:Code:=BQ (Tryz.f26.body.getD Go.Code.skip)
def aqY:F8=.rangeFunc (.tmp 34) #[35] (y1 F8) (y2 F8):=by kernel_rfl
def aq4(n9:Nat)(y:bk)(v:H)(cN:H->Prop)(env:List (Nat×Value))(he:(9,Value.pointer (some ⟨n9,0,none⟩))∈env)
  (h:∀m,v m=none->H.an (v.ins m (.cells #[.int .i64 0,.int .u64 0,.int .u64 0] 83 (0,0))) ⟨m,0,none⟩ [.int .i64 y.1,.int .u64 (cK y.2),.int .u64 (cO y.2)] λaI=>Exit.normal=Exit.normal/\([]:List (List Value))=[]/\
   ∃p:Option Addr,aI.cell? ⟨n9,0,none⟩=some (.pointer p)/\∃cJ:Int,aI.cell? ⟨m,0,none⟩=some (.int .i64 cJ)/\∃c8:Int,aI.cell? ((Addr.mk m 0 none).add 1)=some (.int .u64 c8)/\∃eC:Int,aI.cell? ((Addr.mk m 0 none).add 2)=some (.int .u64 eC)/\
    xh p cJ c8 eC aI λ_ bE=>Exit.normal=Exit.normal/\cN bE):
  vM Tryz.prog 41 (y1 F8) (y2 F8) env 35 (OZ y) v cN:=
 vM.of (C:={P:=Tryz.prog,exp:=[11],wrap:=false,gB:=gB}) (lP _ _) (by kernel_rfl) (by kernel_rfl) [(35,.v (OZ y)),(9,.ptr ⟨n9,0,none⟩)] (by intro p aa;rcases List.mem_cons.1 aa with rfl|aa;exact⟨_,rfl,.inl ⟨rfl,rfl⟩⟩;rcases List.mem_cons.1 aa with rfl|aa;exact⟨_,rfl,.inr ⟨show(9:Nat)≠35 by decide,he⟩⟩;cases aa) (Eq.mp (by kernel_rfl) h)
def aqx{y:bk}{f:H->Prop}(M:f (u.ins m (.cells (ey y).toArray T (0,0)))):
  H.an (u.ins m (.cells #[.int .i64 0,.int .u64 0,.int .u64 0] T (0,0))) ⟨m,0,none⟩ [.int .i64 y.1,.int .u64 (cK y.2),.int .u64 (cO y.2)] f:=
 oN (zs:=[.int .i64 0,.int .u64 0,.int .u64 0]) rfl (by simp[Value.oneCell']) M
def afm{y:bk}:(u.ins m (.cells (ey y).toArray T (0,0))).cell? ⟨m,0,none⟩=some (.int .i64 y.1)/\(u.ins m (.cells (ey y).toArray T (0,0))).cell? ((Addr.mk m 0 none).add 1)=some (.int .u64 (cK y.2))/\
  (u.ins m (.cells (ey y).toArray T (0,0))).cell? ((Addr.mk m 0 none).add 2)=some (.int .u64 (cO y.2)):=by
 rw[Addr.add_lit,Addr.add_lit]
 refine⟨?_,?_,?_⟩<;>(rw[Hr];rfl)
def afk{o:Obj}{a:Addr}(h:u.cell? a=some v)(hm:u m=none):(u.ins m o).cell? a=some v:=mQ (bN _ hm) h
def aqU{α β:Type}(f:α->β)(l:List α)(i:Nat)(y:β)(h:(l.map f)[i]?=some y):(l.map f).take (i+1)=(l.map f).take i++ [y]:=by rw[List.take_add_one,h];rfl
def j9(l:List aT)(q:List Int)(k:Int):Int:=if asked l q≠0 then asked l q else if k<1∨64<k then 1 else 0
def Ks{s:J}{q:List Int}{k:Int}{K:J->Int->H->Prop}(hs:ev u s l)(ht:Ints u t q)
  (dT:j9 l q k≠0->K ⟨none,0,0⟩ (j9 l q k) u) (bL:jH l q->1<=k->k<=64->∀s' u',aE u u' 83 3 s' ((dX k.toNat (l.map (hh q))).flatMap ey)->K s' 0 u'):Cp s t k u K:=by
 apply asd
 refine aps hs ht ⟨λah=>?_,λhe=>?_⟩
 have:j9 l q k=asked l q:=if_pos ah
 rw[this] at dT;exact dT ah
 have XV:=CS.1 he
 have nb:k<1∨64<k->j9 l q k=1:=λh=>by unfold j9;omega
 intro js hc
 refine⟨λh1=>?_,λh1=>⟨λh2=>?_,λh2=>hc ⟨none,0,0⟩ _ _ ?_⟩⟩
 rw[nb (.inl h1)] at dT;exact dT (by decide)
 rw[nb (.inr h2)] at dT;exact dT (by decide)
 clear hc js
 refine Kw (λh=>by omega) λcv cI n aI gl gF EE n9 p0=>oN (zs:=[.pointer none]) rfl (by simp[Value.oneCell']) ?_
 refine⟨λh=>absurd rfl h,λ_=>?_⟩
 apply asi
 intro n0 et cb Ee
 have aem:aI.ins n9 (Obj.cells [Value.pointer (some ⟨n,0,none⟩)].toArray 129 (0,0))=aI.ins n9 (Obj.cells #[Value.pointer (some ⟨n,0,none⟩)] 129 (0,0)):=rfl
 rw[aem] at et Ee ⊢
 generalize ajP:Obj.cells #[Value.pointer (some ⟨n,0,none⟩)] 129 (0,0)=rc at et Ee ⊢
 generalize ajM:Obj.cells #[Value.slice s.a s.n s.c] 22 (0,0)=eV at Ee ⊢
 generalize ajN:Obj.cells #[Value.slice t.a t.n t.c] 23 (0,0)=dk
 have yy:=((EE.lx p0 rc).lx et eV).lx Ee dk
 have Jq:aI.le (aI.ins n9 rc):=bN _ p0
 have akH:u n9=none:=gl.none p0
 have p8:(u.ins n9 rc) n0=none:=(H.ET gl n9 rc).none et
 have Qj:((u.ins n9 rc).ins n0 eV) cb=none:=(H.ET (H.ET gl n9 rc) n0 eV).none Ee
 have lub:u.le (((u.ins n9 rc).ins n0 eV).ins cb dk):=((bN _ akH).trans (bN _ p8)).trans (bN _ Qj)
 have WG:(((u.ins n9 rc).ins n0 eV).ins cb dk) n9=some rc:=(bN _ Qj) _ _ ((bN _ p8) _ _ (aS _ _ _))
 have c0:(((u.ins n9 rc).ins n0 eV).ins cb dk).cell? ⟨n0,0,none⟩=some (.slice s.a s.n s.c):=by refine afk ?_ Qj;rw[<-ajM];exact aV (aS _ _ _) 0
 have c1:(((u.ins n9 rc).ins n0 eV).ins cb dk).cell? ⟨cb,0,none⟩=some (.slice t.a t.n t.c):=by rw[<-ajN];exact aV (aS _ _ _) 0
 generalize (((u.ins n9 rc).ins n0 eV).ins cb dk)=ub at yy lub WG c0 c1
 have WJ:∀w,ub.le w->w.cell? ⟨n9,0,none⟩=some (.pointer (some ⟨n,0,none⟩)):=λw hw=>by have:=hw _ _ WG;rw[<-ajP] at this;exact aV this 0
 refine mN.code aqY (mN.intro (t:=34) yy.le MS (by simp) (by decide) (λw hw=>ai6 (hs.mono (lub.trans hw)) (ht.mono (lub.trans hw)) XV (mQ hw c0) (mQ hw c1))
  (λi w=>gZ ub n k w ((l.map (hh q)).take i).reverse) yy (λi v aH=>aH.le) ?_ ?_)
 intro i y v af aH
 refine aq4 n9 y v _ _ (by simp) λm hm=>aqx ⟨rfl,rfl,?_⟩
 obtain⟨d0,d1,d2⟩:=afm (u:=v) (m:=m) (y:=y) (T:=83)
 have ik:=aH.mono (bN (u:=v) (b:=m) (Obj.cells (ey y).toArray 83 (0,0)) hm)
 refine⟨_,WJ _ ik.le,_,d0,_,d1,_,d2,Kv ik cv cI λb u' pf=>⟨rfl,?_⟩⟩
 rw[aqU _ _ _ _ af,List.reverse_append]
 exact pf
 intro v D aH fb
 have hle:=bN (u:=v) (b:=D) (Obj.deferred (some [])) fb
 have ik:=aH.mono hle
 refine⟨_,WJ _ ik.le,F2 ik λs' u' U=>⟨U.le _ _ (aS _ _ _),bL XV cv cI s' _ ?_⟩⟩
 have Z:s'.ad≠some D:=λe=>by have:=U.fresh D e;rw[aS] at this;cases this
 have dD:=U.weaken (lub.trans ik.le)
 rw[List.length_map,List.take_of_length_le (by simp),xa (List.reverse_perm _)] at dD
 exact dD.ES ((lub.trans aH.le).none fb) Z _
def within(R:Int)(l:List bk):List bk:=kW (l.filter λh=>decide (h.2<=R))
def ze{n:Nat}{kU:Value}{f:H->Prop}(ac:u n=some (.cells #[kU] T (0,0)))(h1:v.oneCell'=true)(M:f (u.ins n (.cells #[v] T (0,0)))):H.an u ⟨n,0,none⟩ [v] f:=
 ⟨_,_,ac,rfl,by simp,by simp[h1],M⟩
def xy(x:Int):hF Tryz.prog 23 1 #[(0,.int .i64 x)]=some (3,[.int .i64 x]):=by kernel_rfl
theorem am6{k:Nat}{s:J}{xs:List Value}{b:Nat}{l:List Int}(h:aE Y u e k s xs)(Z:pK u b l):s.ad≠some b:=by
 intro I;obtain⟨es,c,av2,_⟩:=Z;rcases h.own.is with h0|⟨g,cur,ap,N,_⟩;rw[h0] at I;simp[J.ad] at I;have:g=b:=by simpa[J.ad,ap] using I
 grind
def SM{i:Nat}{r:aT}(h:l[i]?=some r):(l.take (i+1)).map (·.id)=(l.take i).map (·.id)++ [r.id]:=by rw[List.take_add_one,h];simp
theorem abv{s:J}{K:J->Int->H->Prop}(hs:ev u s l)(bL:hp l d)(ae:∀s' u',aE u u' 3 1 s' ((dM (l.map (·.id))).flatMap encI)->K s' 0 u'):GR s d u K:=by
 have ac:=hs.len;have hlen:=bL.len;apply auc;refine⟨λh=>by omega,λ_=>Sc λb Z iL=>?_⟩;refine⟨λ_ _ BS i v=>0<=i/\i<=(s.n:Int)/\pK v b ((l.take i.toNat).map (·.id))/\aE u v 3 1 BS (((l.take i.toNat).map (·.id)).flatMap encI),λ_ _ _ i _=>s.n-i.toNat,
  ⟨by omega,by omega,by simpa using iL,aE.nil (bN _ Z) _ _⟩,?_⟩
 rintro FH eJ BS i v ⟨i0,i1,iL,U⟩;refine⟨λhi=>?_,λhi=>?_⟩;obtain⟨p,aa,r,W,c0,c1,av⟩:=(hs.mono U.le).at i0 hi;have gx:=List.mem_of_getElem? W;have hid:=bL.id r gx;obtain⟨wM,akS⟩:=bL.v r gx;have uZ:r.id∉(l.take i.toNat).map (·.id):=by have bX:=bL.nodup;have gH:((l.take (i.toNat+1)).map (·.id)).Nodup:=List.Nodup.sublist (List.Sublist.map _ (List.take_sublist _ _)) bX;rw[SM W] at gH;exact λhm=>(List.nodup_append.1 gH).2.2 _ hm _ (by simp) rfl
 have Qn:fV r.v d=0:=by rw[<-wM];exact BG akS (by have:=bL.ao;omega)
 refine⟨p,aa,⟨i0,hi⟩,_,c0,_,c1,λau8 ahv=>⟨λh=>by omega,λ_=>⟨λh=>by omega,λ_=>Sb y9 iL ⟨λh=>absurd (by simpa using h) uZ,λ_=>ahv _ _ _ ?_⟩⟩⟩⟩;refine pA av ⟨λh=>absurd Qn h,λ_=>J8 y9 iL uZ λbH Ex pg il=>?_⟩;have ah:=am6 U iL;have bG:aE u bH 3 1 BS (((l.take i.toNat).map (·.id)).flatMap encI):=
  ⟨U.own.le λg o N akR=>pg g o akR (λe=>ah (by rw[N,e])),λg o N=>pg g o (U.le g o N) (λe=>by grind),U.fresh⟩
 have na:=bG.ints.len;simp only[List.length_map,List.length_take] at na;refine rn pE (xy _) (by decide) rfl (by simp[Value.oneCell']) bG (by omega) (by omega) λs' u' dD ef cQ ee _=>⟨⟨by omega,by omega⟩,⟨by omega,by omega,?_,?_⟩,by dsimp only;omega⟩;rw[show(i+1).toNat=i.toNat+1 by omega,SM W];obtain⟨es,c,h1,h2⟩:=Ex;exact⟨es,c,cQ _ _ h1 ah,h2⟩;rw[show(i+1).toNat=i.toNat+1 by omega,SM W,List.flatMap_append];exact dD;have nC:i.toNat=l.length:=by omega
 rw[nC,List.take_length] at U;exact Ku U (by simp;omega) λu' bG _=>ae BS u' bG
def jO(acc v:List Int):List Int:=List.zipWith (λa x=>if x<a then x else a) acc v
def jP(acc v:List Int):List Int:=List.zipWith (λa x=>if x>a then x else a) acc v
def lL(l:List aT):List Int:=l.foldl (λacc r=>jO acc r.v) (l.headD ⟨0,⟨none,0,0⟩,[]⟩).v
def lK(l:List aT):List Int:=l.foldl (λacc r=>jP acc r.v) (l.headD ⟨0,⟨none,0,0⟩,[]⟩).v
def vz{a v:List Int}(h:a.length=v.length):(List.zipWith f a v).length=a.length:=by simp[h]
theorem K6{a v:List Int}(h:a.length=v.length){j:Nat}(aH:j<a.length):
  ((List.zipWith f a v).take j++a.drop j).set j (f (a.getD j 0) (v.getD j 0))=(List.zipWith f a v).take (j+1)++a.drop (j+1):=by
 have aP:=vz (f:=f) h
 have agX:a.getD j 0=a[j]:=by grind
 have awo:j<v.length:=by omega
 have ag5:v.getD j 0=v[j]:=by grind
 rw[agX,ag5,List.set_append_right _ _ (by simp;omega)]
 have e:j-((List.zipWith f a v).take j).length=0:=by simp;omega
 rw[e,List.drop_eq_getElem_cons aH,List.set_cons_zero,List.take_add_one,List.getElem?_eq_getElem (by rw[aP];exact aH)]
 simp
theorem K5{a v:List Int}(h:a.length=v.length){j:Nat}(aH:j<a.length):((List.zipWith f a v).take j++a.drop j).getD j 0=a.getD j 0:=by
 grind
theorem VV{f:List Int->List Int->List Int}(M:∀a v:List Int,a.length=v.length->(f a v).length=a.length):∀(l:List aT) (a:List Int),(∀r∈l,r.v.length=a.length)->(l.foldl (λacc r=>f acc r.v) a).length=a.length:=by
 intro l;induction l with
 |nil=>intro a _;rfl
 |cons r l aG=>
  simp_all
def VW{f:List Int->List Int->List Int}{i:Nat}{r:aT}{a:List Int}(h:l[i]?=some r):(l.take (i+1)).foldl (λacc r=>f acc r.v) a=f ((l.take i).foldl (λacc r=>f acc r.v) a) r.v:=by rw[List.take_add_one,h];simp
def aE.Vt{s:J}{l:List Int}(h:aE Y u e 1 s (l.flatMap encI)){x:Int}(h0:0<=x)(h1:x<(s.n:Int)):∃p,s.a=some p/\u.cell? (p.add (x.toNat*1))=some (.int .i64 (l.getD x.toNat 0)):=h.ints.at h0 h1
theorem aqk{s:J}{K:Int->J->J->Int->Int->J->Int->H->Prop}(hs:ev u s l)(bL:hp l d)(ah:l≠[])
  (ae:∀bD ax ly u',aE u u' 3 1 bD ((lL l).flatMap encI)->aE u u' 3 1 ax ((lK l).flatMap encI)->aE u u' 3 1 ly ((dM (l.map (·.id))).flatMap encI)->
   bD.ad≠ax.ad->bD.ad≠ly.ad->ax.ad≠ly.ad->K 2 bD ax 0 0 ly 0 u'):Mc s d u K:=by
 have ac:=hs.len
 have hlen:=bL.len
 have Ot:=bL.ao
 have mu:0<l.length:=List.length_pos_iff.2 ah
 apply at1
 refine Sy ⟨λh=>absurd (by simp;omega) h,λ_=>⟨λh=>by omega,λ_=>abv hs bL λly h6 yt=>⟨λh=>absurd rfl h,λ_=>?_⟩⟩⟩
 obtain⟨p,aa,r,W,c0,c1,av⟩:=(hs.mono yt.le).at (x:=0) (by omega) (by omega)
 have j1:l[0]?=some r:=W
 have gx:=List.mem_of_getElem? W
 have W9:l.headD ⟨0,⟨none,0,0⟩,[]⟩=r:=by
  cases l with
  |nil=>simp at j1|cons a l=>simp at j1;simp[j1]
 have wM:=(bL.v r gx).1
 have Qo:=av.len
 refine⟨p,aa,⟨by omega,by omega⟩,p,aa,⟨by omega,by omega⟩,r.s,c1,r.s,c1,?_⟩
 refine rq av (by omega) λbD hP mw _=>⟨mw.le,rq (av.mono mw.le) (by omega) λax hQ eG _=>?_⟩
 have akm:=mw.mono eG.le
 have PW:=eG.weaken mw.le
 have tv:∀g,bD.ad=some g->ax.ad≠some g:=by
  intro g N hJ;have h1:=eG.fresh g hJ;rcases mw.own.is with h0|⟨bS,cur,ap,cH,_⟩
  grind
  have:bS=g:=by simpa[J.ad,ap] using N
  grind
 have ep:∀x∈l,x.v.length=r.v.length:=λx I=>by have:=(bL.v x I).1;omega
 have Za:∀i,((l.take i).foldl (λacc r=>jO acc r.v) r.v).length=r.v.length:=λi=>VV (λa v h=>vz h) _ _ λx I=>ep x (List.mem_of_mem_take I)
 have Y9:∀i,((l.take i).foldl (λacc r=>jP acc r.v) r.v).length=r.v.length:=λi=>VV (λa v h=>vz h) _ _ λx I=>ep x (List.mem_of_mem_take I)
 refine⟨λi v=>0<=i/\i<=(s.n:Int)/\aE h6 v 3 1 bD (((l.take i.toNat).foldl (λacc r=>jO acc r.v) r.v).flatMap encI)/\aE h6 v 3 1 ax (((l.take i.toNat).foldl (λacc r=>jP acc r.v) r.v).flatMap encI),
  λi _=>s.n-i.toNat,⟨by omega,by omega,by simpa using akm,by simpa using PW⟩,?_⟩
 rintro i v ⟨i0,i1,gi,x2⟩
 refine⟨λhi=>?_,λhi=>?_⟩
 obtain⟨q,ay,x,I,d0,d1,EM⟩:=(hs.mono (yt.le.trans gi.le)).at i0 hi
 have A6:=List.mem_of_getElem? I
 have gm:=ep x A6
 have Je:=EM.len
 have K7:=Za i.toNat
 have K4:=Y9 i.toNat
 have aaR:=VW (f:=jO) (a:=r.v) I
 have aaO:=VW (f:=jP) (a:=r.v) I
 generalize (l.take i.toNat).foldl (λacc r=>jO acc r.v) r.v=A at gi K7 aaR
 generalize (l.take i.toNat).foldl (λacc r=>jP acc r.v) r.v=B at x2 K4 aaO
 refine⟨q,ay,⟨i0,hi⟩,_,d0,_,d1,λj w=>0<=j/\j<=(x.s.n:Int)/\aE h6 w 3 1 bD (((jO A x.v).take j.toNat++A.drop j.toNat).flatMap encI)/\aE h6 w 3 1 ax (((jP B x.v).take j.toNat++B.drop j.toNat).flatMap encI),
  λj _=>x.s.n-j.toNat,⟨by omega,by omega,by simpa using gi,by simpa using x2⟩,?_⟩
 rintro j w ⟨eL,gI,fX,ty⟩
 have Zg:∀k,((jO A x.v).take k++A.drop k).length=A.length:=λk=>by simp[jO];omega
 have Zf:∀k,((jP B x.v).take k++B.drop k).length=B.length:=λk=>by simp[jP];omega
 refine⟨λaH=>?_,λaH=>?_⟩
 have cY:=fX.ints.len
 have aiT:=ty.ints.len
 rw[Zg] at cY
 rw[Zf] at aiT
 obtain⟨FA,aj0,M1⟩:=((hs.mono (yt.le.trans fX.le)).2 x A6).at eL aH
 obtain⟨pl,jk,cl⟩:=fX.Vt eL (by omega)
 obtain⟨ZO,lS,zW⟩:=ty.Vt eL (by omega)
 unfold jO at cl
 unfold jP at zW
 rw[K5 (a:=A) (v:=x.v) (by omega) (j:=j.toNat) (by omega)] at cl
 rw[K5 (a:=B) (v:=x.v) (by omega) (j:=j.toNat) (by omega)] at zW
 refine⟨FA,aj0,⟨eL,aH⟩,_,M1,pl,jk,⟨eL,by omega⟩,ZO,lS,⟨eL,by omega⟩,_,cl,_,zW,pl,jk,⟨eL,by omega⟩,?_⟩
 refine aE.store (enc:=encI) uH fX (by decide) (i:=j.toNat) (by rw[Zg];omega) (y:=if x.v.getD j.toNat 0<A.getD j.toNat 0 then x.v.getD j.toNat 0 else A.getD j.toNat 0) (HD _) jk λaxC x9 aix _=>⟨ZO,lS,⟨eL,by omega⟩,?_⟩
 have W7:=ty.else aix fX.fresh tv
 refine aE.store (enc:=encI) uH W7 (by decide) (i:=j.toNat) (by rw[Zf];omega) (y:=if x.v.getD j.toNat 0>B.getD j.toNat 0 then x.v.getD j.toNat 0 else B.getD j.toNat 0) (HD _) lS λab2 OS aiy _=>⟨⟨by omega,by omega⟩,⟨by omega,by omega,?_,?_⟩,by dsimp only;omega⟩
 have O6:=x9.else aiy W7.fresh (λg N hJ=>tv g hJ N)
 rw[show(j+1).toNat=j.toNat+1 by omega]
 have:=K6 (f:=λa x=>if x<a then x else a) (a:=A) (v:=x.v) (by omega) (j:=j.toNat) (by omega)
 unfold jO at O6 ⊢
 rw[this] at O6
 exact O6
 rw[show(j+1).toNat=j.toNat+1 by omega]
 have:=K6 (f:=λa x=>if x>a then x else a) (a:=B) (v:=x.v) (by omega) (j:=j.toNat) (by omega)
 unfold jP at OS ⊢
 rw[this] at OS
 exact OS
 have ik:j.toNat=x.v.length:=by omega
 refine⟨⟨by omega,by omega⟩,⟨by omega,by omega,?_,?_⟩,by dsimp only;omega⟩
 rw[show(i+1).toNat=i.toNat+1 by omega,aaR]
 rw[ik,List.take_of_length_le (by grind),List.drop_eq_nil_of_le (by omega),List.append_nil] at fX
 exact fX
 rw[show(i+1).toNat=i.toNat+1 by omega,aaO]
 rw[ik,List.take_of_length_le (by grind),List.drop_eq_nil_of_le (by omega),List.append_nil] at ty
 exact ty
 have nC:i.toNat=l.length:=by omega
 rw[nC,List.take_length] at gi x2
 have af9:lL l=l.foldl (λacc r=>jO acc r.v) r.v:=by unfold lL;rw[W9]
 have af7:lK l=l.foldl (λacc r=>jP acc r.v) r.v:=by unfold lK;rw[W9]
 have X5:∀g,ly.ad=some g->h6 g≠none:=by
  intro g N;rcases yt.own.is with h0|⟨bS,cur,ap,cH,_⟩;rw[h0] at N;simp[J.ad] at N;have:bS=g:=by simpa[J.ad,ap] using N
  rw[<-this,cH];simp
 have gk:∀(SI:J) (L:List Int),aE h6 v 3 1 SI (L.flatMap encI)->0<L.length->∃g,SI.ad=some g:=by
  intro SI L I cE;rcases I.own.is with h0|⟨g,cur,ap,_⟩;have:=I.ints.len
  grind
  exact⟨g,by simp[J.ad,ap]⟩
 have Yl:0<r.v.length:=by omega
 have K7:=Za l.length
 have K4:=Y9 l.length
 rw[List.take_length] at K7 K4
 obtain⟨HX,tx⟩:=gk bD _ gi (by rw[K7];exact Yl)
 obtain⟨Dj,W5⟩:=gk ax _ x2 (by rw[K4];exact Yl)
 refine ae bD ax ly v (by rw[af9];exact gi.weaken yt.le) (by rw[af7];exact x2.weaken yt.le) (yt.mono gi.le) ?_ ?_ ?_
 grind
 rw[tx];exact λe=>X5 HX e.symm (gi.fresh HX tx)
 rw[W5];exact λe=>X5 Dj e.symm (x2.fresh Dj W5)
def nV:iG Tryz.prog 22=some (34,2,32,[.int .i64 0,.slice none 0 0]):=by kernel_rfl
def ev.part{s:J}{L:List aT}(hs:ev u s L){l h:Nat}(h1:l<=h)(h2:h<=s.n)(h3:h<=m)(aZ:m<=s.c):ev u (s.part l h m 2) ((L.drop l).take (h-l)):=by refine⟨?_,λr W=>hs.2 r (List.mem_of_mem_drop (List.mem_of_mem_take W))⟩;have:=bb.part hs.1 h1 h2 h3 aZ;rw[VR fh,vZ fh] at this;exact this
def hp.sub{bi:List aT}(h:hp l d)(hs:bi.Sublist l):hp bi d:=
 ⟨h.ao,Nat.le_trans hs.length_le h.len,λr W=>h.id r (hs.mem W),h.nodup.sublist (hs.map _),λr W=>h.v r (hs.mem W)⟩
def jH.sub{bi:List aT}{q:List Int}(h:jH l q)(hs:bi.Sublist l):jH bi q:=⟨h.Cg,h.rows.sub hs⟩
def ae2(a b c:J)(x y z:Int):hF Tryz.prog 122 1 #[(0,.agg #[.int .i64 x,.slice a.a a.n a.c,.slice b.a b.n b.c,.int .u64 y,.int .u64 z,.slice c.a c.n c.c])]=
  some (205,[.int .i64 x,.slice a.a a.n a.c,.slice b.a b.n b.c,.int .u64 y,.int .u64 z,.slice c.a c.n c.c]):=by kernel_rfl
structure To(Y u:H)(ax ss a7:J)(dF:List bk)(seen:List Int)(rest:List aT):Prop where
 h:aE Y u 83 3 ax (dF.flatMap ey)
 s:aE Y u 3 1 ss (seen.flatMap encI)
 hs:∀g,ax.ad=some g->ss.ad≠some g
 r:(rest=[]/\a7=⟨none,0,0⟩)∨rest≠[]/\a7.n=1/\∃a b c:J,aE Y u 205 6 a7 [.int .i64 2,.slice a.a a.n a.c,.slice b.a b.n b.c,.int .u64 0,.int .u64 0,.slice c.a c.n c.c]/\
  aE Y u 3 1 a ((lL rest).flatMap encI)/\aE Y u 3 1 b ((lK rest).flatMap encI)/\aE Y u 3 1 c ((dM (rest.map (·.id))).flatMap encI)/\
  a.ad≠b.ad/\a.ad≠c.ad/\b.ad≠c.ad/\(∀x∈[a,b,c],∀g,x.ad=some g->ax.ad≠some g/\ss.ad≠some g/\a7.ad≠some g)/\(∀g,a7.ad=some g->ax.ad≠some g/\ss.ad≠some g)
def fj{k:Nat}{s:J}{xs:List Value}(h:aE Y u e k s xs){g:Nat}(N:s.ad=some g):u g≠none:=by
 rcases h.own.is with h0|⟨bS,cur,ap,cH,_⟩;rw[h0] at N;simp[J.ad] at N;have:bS=g:=by simpa[J.ad,ap] using N
 rw[<-this,cH];simp
structure Mm(u:H)(s t:J)(l:List aT)(q:List Int):Prop where
 rows:ev u s l
 q:Ints u t q
 small:∀r∈l,r.v.length<=17592186044416
 aoQ:s.n<=17592186044416
def Mm.mono{u':H}{s:J}{q:List Int}(h:Mm u s t l q)(k:u.le u'):Mm u' s t l q:=⟨h.rows.mono k,h.q.mono k,h.small,h.aoQ⟩
def iZ.part{s:J}{L:List bk}(hs:iZ u s L){l h:Nat}(h1:l<=h)(h2:h<=s.n)(h3:h<=m)(aZ:m<=s.c):iZ u (s.part l h m 3) ((L.drop l).take (h-l)):=by have:=bb.part hs h1 h2 h3 aZ;rw[VR oc,vZ oc] at this;exact this
open Go.ChangeShapes Go.WideShapes Go.ChangeAt Go.RowKit
def whole(bm:World):H:=λb=>bm.heap[b]?
def auJ(bm:World):Sub (whole bm) bm:=λ_ _ e=>e
def auI(bm:World)(a:Addr):(whole bm).cell? a=bm.cell? a:=rfl
def Step.below{bm vP:World}{u':H}{bs:List Nat}(h:Step (whole bm) [] bm u' bs vP)(k:(whole bm).le u'):Below bm.heap.size bm vP:=
 ⟨h.os,h.tape,h.output,h.size,λb Z=>by have:bm.heap[b]?=some bm.heap[b]:=Array.getElem?_eq_getElem Z;rw[this];exact h.sub b _ (k b _ this)⟩
def zV:Tryz.prog.cellsOf 3=1:=by kernel_rfl
def MU:Tryz.prog.cellsOf 23=1:=by kernel_rfl
def afn:Tryz.prog.cellsOf 34=2:=by kernel_rfl
def afl:Tryz.prog.cellsOf 24=1:=by kernel_rfl
def avv:Tryz.prog.cellsOf 81=2:=by kernel_rfl
def avq:Tryz.prog.bytesOf 3=8:=by kernel_rfl
def avr:Tryz.prog.bytesOf 34=32:=by kernel_rfl
section
variable {pH:Type} {enc:TypeId×Value->pH}
instance:Inhabited aT:=⟨⟨0,⟨none,0,0⟩,[]⟩⟩
def cells_one{bm:World}{eE:Nat}{x:DataW pH×List MemPlace}(h:DataW.trod enc Tryz.prog bm 0 (λ_=>true) true eE 23 [v]=some x):∃s:J,v=.slice s.a s.n s.c:=by rcases open_ints Tryz.underlying23 Tryz.underlying3 zV h with⟨kJ,_⟩|⟨p,l,c,zs,kJ,_⟩;exact⟨⟨none,0,0⟩,by simpa using kJ⟩;exact⟨⟨some p,l,c⟩,by simpa using kJ⟩
end
end
section
variable{v0 v u u':H}{P:Program}{ss:List aF}{fv:Value}
structure sU(v0 v gU bH:H):Prop where
 le:gU.le bH
 out:∀b o,v0 b=none->v b=some o->gU b=none/\bH b=some o
 new:∀b,bH b≠none->gU b≠none∨(v0 b=none/\bH b=v b)
def H.frame(v v0 gU:H):H:=λb=>match gU b with
 |some o=>some o|none=>match v0 b with
  |some _=>none|none=>v b
theorem Step.frame{gU:H}{w aw:World}(k:Step v0 [] w gU [] aw)(hle:v0.le v)(hs:Sub v w):Step v [] w (v.frame v0 gU) [] aw/\sU v0 v gU (v.frame v0 gU):=by
 have h0:∀b,v b=none->v0 b=none:=λb Z=>by
  cases e:v0 b with
  |none=>rfl|some o=>rw[hle _ _ e] at Z;cases Z
 refine⟨⟨λb o Z=>?_,k.os,k.tape,k.output,k.drawn,k.size,λb Z hu _=>k.rest b Z (h0 b hu) (by simp),λb Z hu=>?_,[],by simp,by simp⟩,⟨λb o Z=>?_,λb o h1 h2=>?_,λb Z=>?_⟩⟩;unfold H.frame at Z;split at Z;rename_i e;cases Z;exact k.sub _ _ e;split at Z;cases Z;rename_i e;rw[k.rest b (hs.lt Z) e (by simp)];exact hs _ _ Z;unfold H.frame;rw[k.jg b Z (h0 b hu),h0 b hu];exact hu;unfold H.frame;rw[Z];have:=k.jg b (hs.lt h2) h1;exact⟨this,by unfold H.frame;rw[this,h1];exact h2⟩;cases e:gU b with
 |some o=>exact .inl (by simp)|none=>
  cases dH:v0 b with
  |some o=>unfold H.frame at Z;grind|none=>exact .inr ⟨rfl,by unfold H.frame;rw[e,dH]⟩
def bb.else{s:J}{size:Nat}{xs:List Value}(h:bb u s size xs)(hu:∀g o,s.ad=some g->u g=some o->u' g=some o):bb u' s size xs:=
 ⟨h.len,h.cap,h.max,h.at'.imp id λ⟨p,h1,h2⟩=>⟨p,h1,λi v e=>by
  have E:=h2 i v e;unfold H.cell? at E ⊢;have Z:(p.add i).block=p.block:=by unfold Addr.add;split<;>rfl
  split at E;rename_i c t f I;rw[hu _ _ (by simp[J.ad,h1,Z]) I];exact E;cases E⟩⟩
def Be(R:H->H->Prop):(bY:List al)->fo bY (H->Prop)->fo bY (H->Prop)->Prop
 | [],r,eB=>∀u u',R u u'->r u->eB u'|_::bY,K,e5=>∀x,Be R bY (K x) (e5 x)
def ab8{R:H->H->Prop}(b8:R u u'):∀(bY:List al) (K e5:fo bY (H->Prop)) (vs:List Value),Be R bY K e5->(fr bY K vs λr=>r u)->fr bY e5 vs λr=>r u':=by
 intro bY;induction bY with
 |nil=>intro K e5 vs h k;cases vs with
  |nil=>exact h _ _ b8 k|cons=>simp[fr] at k
 |cons t bY aG=>
  intro K e5 vs h k;cases vs with
  |nil=>simp[fr] at k|cons v vs=>simp only[fr] at k ⊢;obtain⟨x,rfl,I⟩:=al.KV k;exact(al.nX t x _).2 (aG (K x) (e5 x) vs (h x) I)
def fW.frame{f:FuncId}{args:Array Value}{K e5:fo (eW ss) (H->Prop)}(h:fW P f args ss v0 K)(hle:v0.le v)(hk:Be (sU v0 v) (eW ss) K e5):fW P f args ss v e5:=by intro w hw;refine(h w (hw.mono hle)).mono ?_;rintro e aw ⟨x,u',he,⟨vs,av,I,E⟩,hs⟩;obtain⟨h1,h2⟩:=hs.frame hle hw;exact⟨x,_,he,⟨vs,av,I,ab8 h2 _ _ _ _ hk E⟩,h1⟩
def vE.frame{args:Array Value}{K e5:fo (eW ss) (H->Prop)}(h:vE P fv args ss v0 K)(hle:v0.le v)(hk:Be (sU v0 v) (eW ss) K e5):vE P fv args ss v e5:=by obtain⟨l,M,h⟩:=h;refine⟨l,M,λw hw=>?_⟩;obtain⟨fn,tmps,assign,body,af,b8⟩:=h w (hw.mono hle);refine⟨fn,tmps,assign,body,af,b8.mono ?_⟩;rintro e aw ⟨x,u',he,⟨vs,av,I,E⟩,hs⟩;obtain⟨h1,h2⟩:=hs.frame hle hw;exact⟨x,_,he,⟨vs,av,I,ab8 h2 _ _ _ _ hk E⟩,h1⟩
def fQ.frame{args:Array Value}{K e5:fo (eW ss) (H->Prop)}(h:fQ P fv args ss v0 K)(hle:v0.le v)(hk:Be (sU v0 v) (eW ss) K e5):fQ P fv args ss v e5:=by obtain⟨f,pre,cap,M,Z,h⟩:=h;exact⟨f,pre,cap,M,Z,h.frame hle hk⟩
def mc.frame{args:Array Value}{K e5:fo (eW ss) (H->Prop)}(h:mc P fv args ss v0 K)(hle:v0.le v)(hk:Be (sU v0 v) (eW ss) K e5):mc P fv args ss v e5:=
 h.imp (λh=>h.frame hle hk) λh=>h.frame hle hk
def Step.less{gL:H}{bs cd:List Nat}{w aw:World}(h:Step u bs w u' cd aw)(k:gL.le u'):Step u bs w gL cd aw:=
 ⟨h.sub.mono k,h.os,h.tape,h.output,h.drawn,h.size,h.rest,λb Z hu=>(by
  cases e:gL b with
  |none=>rfl|some o=>have:=h.jg b Z hu;rw[k _ _ e] at this;cases this),h.more⟩
def QP:(bY:List al)->fo bY (H->Prop)->fo bY (H->Prop)
 | [],r=>λu'=>∃gL,gL.le u'/\r gL|_::bY,K=>λx=>QP bY (K x)
def ark:∀(bY:List al) (K:fo bY (H->Prop)) (vs:List Value),(fr bY (QP bY K) vs λr=>r u')->∃gL,gL.le u'/\fr bY K vs λr=>r gL:=by
 intro bY;induction bY with
 |nil=>intro K vs h;cases vs with
  |nil=>exact h|cons=>simp[fr] at h
 |cons t bY aG=>
  intro K vs h;cases vs with
  |nil=>simp[fr] at h|cons v vs=>simp only[fr] at h ⊢;obtain⟨x,rfl,I⟩:=al.KV h;obtain⟨gL,h1,h2⟩:=aG (K x) vs I;exact⟨gL,h1,(al.nX t x _).2 h2⟩
def fW.weaken{f:FuncId}{args:Array Value}{K:fo (eW ss) (H->Prop)}(h:fW P f args ss u (QP (eW ss) K)):fW P f args ss u K:=by intro w hw;refine(h w hw).mono ?_;rintro e aw ⟨v,u',he,⟨vs,hk,av,E⟩,hs⟩;obtain⟨gL,hle,e2⟩:=ark _ _ _ E;exact⟨v,gL,he,⟨vs,hk,av,e2⟩,hs.less hle⟩
theorem Y8{P:Nat->Prop}(h:∃n,P n):∃n,P n/\∀m,P m->n<=m:=by
 obtain⟨n,ac⟩:=h;induction n using Nat.strongRecOn with
 |ind n aG=>
  grind
open Classical in
def least(P:Nat->Prop):Nat:=if h:∃n,P n then Classical.choose (Y8 h) else 0
def Bp{P:Nat->Prop}(h:∃n,P n):P (least P):=by unfold least;rw[dif_pos h];exact(Classical.choose_spec (Y8 h)).1
theorem least_le{P:Nat->Prop}{n:Nat}(h:P n):least P<=n:=by unfold least;rw[dif_pos ⟨n,h⟩];grind
end
