/- Texts of mine, joined and packed by pack.py. -/
import Derived.Test.YtejdhbfjjgcljaaGreatDoorMra2
import Derived.Shelf.SlSortCmp.WholeK
import Derived.Shelf.SlSortCmp.Whole1
import Derived.Shelf.SortG.Plain
import Derived.Shelf.SortG.SortNone
import Derived.Shelf.SlGeneric
import Derived.Shelf.Spec.TrailingZeros
import Derived.Test.YtejdhbfjjgcljaaGreatDoorProg
import Derived.Shelf.SlSortCmp.NoneTotal
import Derived.RangeFuncIn
import Derived.OrdersIn
import Derived.SizedLaws
import Derived.Deep.Slices
import Derived.ChangeSame
import Derived.ChangeOld
import Derived.OpenShut
import Derived.ProofKit
import Derived.WalkKit
import Derived.JoinedOf
import Derived.Laws.IdiomCopy
set_option linter.all false
open Go renaming Program->dY,Value->ap,World->b7,TypeId->dJ,FuncId->kM,Addr->bc,Act->eo,Oper->eI,callFunc->p0,Exit->k4,Code->iP,madeCells->ny,reachBytes->qO
open _root_ renaming Nat->N,List->M,Option->ay,Array->cw,Int->o,Bool->aK,False->eh,absurd->aW,Inhabited->lN
open Bool renaming true->ak,false->ax
open Nat renaming beq->ju,strongRecOn->D9
open Go.Obj renaming cells->bC,deferred->yc
open Go.Fence renaming wide->uV
open Go.Made renaming depth->uW
open Go.Instr renaming buildSlice->dL,typeAssert->tp
open Go.Builtin renaming append_->ey
open Go.World renaming frozen?->Hw
open Go.Result renaming andThen->jL
open List renaming range->lM,zipWith->lO,drop->Lj,replicate->fX,length->iS
open Array renaming replicate->D8
open Go.Exit renaming noConfusion->rM,normal->tt
open Go.Proofs.Tryz renaming prog->aH
open Eq renaming mp->p3
open Go.Value renaming int->cY,pointer->hy,slice->ec,oneCell'->cT
open Int renaming tdiv->gR
open List.Perm renaming cons->kc
open Go.Sort renaming ahead->u1
open Go.Addr renaming mk->cB
open Go.DataW renaming weightsAll->HJ,trod->p5,weights->HK
set_option maxRecDepth 100000
noncomputable section
namespace Go.Proofs.YtejdhbfjjgcljaaGreatDoor
def acS:=@Go.Proofs.AnyF.slices_SortFunc_none
def acT:=@Go.Proofs.run_loadCellsFrom_list
def yd:=@Go.wpIn_mono
def P6:=@Go.Code.wpIn_mono
def Lg:=@Go.World.alloc_heap_new
def acU:=@Go.roundIn_of_wpIn
def acV:=@Go.run_enterLoop_outer
def yf:=@Go.Proofs.Tryz.underlying3
def Li:=@Go.Value.slice.injEq
def UR:=@Go.Proofs.Tryz.underlying52
def yg:=@Go.DataW.trod_int
section
variable{u u' ai:H}{j i n k:N}{d x y:o}{l:M bO}{K:o->H->Prop}{a b:bO}{t:U}
def Addr.add_zero'(p:bc):p.add 0=p:=rfl
def dk(d:o):o:=d/18446744073709551616
def dr(d:o):o:=d%18446744073709551616
def mw(d:o):Prop:=0<=d/\d<340282366920938463463374607431768211456
def q0(d:o):fl (dk d) (dr d)=d:=by unfold fl dk dr;omega
def BG(d:o):dh (dr d):=by unfold dh dr;omega
def Zj(h:mw d):dh (dk d):=by unfold mw at h;unfold dh dk;omega
def Zl(ah:dh y):dk (fl x y)=x:=by unfold dh at ah;unfold dk fl;omega
def abW(ah:dh y):dr (fl x y)=y:=by unfold dh at ah;unfold dr fl;omega
def aAO(J:dh x)(ah:dh y):mw (fl x y):=by unfold dh at J ah;unfold mw fl;omega
def fH(h:bO):M ap:=[.int .i64 h.1,.int .u64 (dk h.2),.int .u64 (dr h.2)]
def r0(h:bO):(fH h).length=3:=rfl
def Fm(h:bO):∀v∈fH h,v.oneCell'=ak:=by simp[fH,cT]
def ah2:(a.1=b.1/\dk a.2=dk b.2/\dr a.2=dr b.2)↔a=b:=by
 constructor;rintro⟨h1,h2,h3⟩;have:a.2=b.2:=by rw[<-q0 a.2,<-q0 b.2,h2,h3]
 exact Prod.ext h1 this;rintro rfl;exact⟨rfl,rfl,rfl⟩
def kQ(u:H)(s:U)(l:M bO):Prop:=br u s 3 (l.flatMap fH)
def kQ.len{s:U}(h:kQ u s l):s.n=l.length:=gW r0 (by decide) h
def kQ.max{s:U}(h:kQ u s l):s.n<=9223372036854775807:=jg (br.cap h) (br.max h)
def kQ.mono{s:U}(h:kQ u s l)(k:u.le u'):kQ u' s l:=br.mono h k
def kQ.at{s:U}(h:kQ u s l)(h0:0<=x)(h1:x<(s.n:o)):∃p,s.a=some p/\∃q:bO,l[x.toNat]?=some q/\
  u.cell? (p.add (x.toNat*3))=some (.int .i64 q.1)/\u.cell? ((p.add (x.toNat*3)).add 1)=some (.int .u64 (dk q.2))/\u.cell? ((p.add (x.toNat*3)).add 2)=some (.int .u64 (dr q.2)):=by
 have ae:=h.len
 have ar:x.toNat<l.length:=by omega
 obtain⟨p,ad,I⟩:=br.elem r0 (by decide) h (cr ar)
 exact⟨p,ad,_,cr ar,I 0 _ rfl,I 1 _ rfl,I 2 _ rfl⟩
structure az where
 id:o
 s:U
 v:M o
def cR(r:az):M ap:=[.int .i64 r.id,.slice r.s.a r.s.n r.s.c]
def fI(r:az):(cR r).length=2:=rfl
def Xz(r:az):∀v∈cR r,v.oneCell'=ak:=by simp[cR,cT]
def en(u:H)(s:U)(l:M az):Prop:=br u s 2 (l.flatMap cR)/\∀r∈l,Ints u r.s r.v
def en.len{s:U}{l:M az}(h:en u s l):s.n=l.length:=gW fI (by decide) h.1
def en.max{s:U}{l:M az}(h:en u s l):s.n<=9223372036854775807:=jg (br.cap h.1) (br.max h.1)
def en.mono{s:U}{l:M az}(h:en u s l)(k:u.le u'):en u' s l:=⟨br.mono h.1 k,λr O=>(h.2 r O).mono k⟩
def en.at{s:U}{l:M az}(h:en u s l)(h0:0<=x)(h1:x<(s.n:o)):∃p,s.a=some p/\∃q:az,l[x.toNat]?=some q/\
  u.cell? (p.add (x.toNat*2))=some (.int .i64 q.id)/\u.cell? ((p.add (x.toNat*2)).add 1)=some (.slice q.s.a q.s.n q.s.c)/\Ints u q.s q.v:=by
 have ae:=h.len
 have ar:x.toNat<l.length:=by omega
 obtain⟨p,ad,I⟩:=br.elem fI (by decide) h.1 (cr ar)
 exact⟨p,ad,_,cr ar,I 0 _ rfl,I 1 _ rfl,h.2 _ (kE ar)⟩
def spec.E6{a b:o}(h:K (if a<b then -1 else if b<a then 1 else 0) u):C.E6 a b u K:=by have key:∀Y,(if a<b then(-1:o) else if b<a then 1 else 0)=Y->K Y u:=λY e=>e▸h;apply aG.E6;apply aG.I2;apply aG.I2;simp only[decide_true,Bool.not_true];refine⟨λh=>by simp at h,λ_=>⟨λh=>by simp at h,λ_=>⟨λh1=>key _ (by simp[h1]),λh1=>⟨λh2=>key _ (by simp[h1,h2]),λh2=>key _ (by simp[h1,h2])⟩⟩⟩⟩
def spec.E7{s:U}{a b:o}(ag:Ints u s [a,b])(h:K (if a≠0 then a else b) u):C.E7 s u K:=by
 have ae:=ag.len;simp only[hX,mi,k5,Nat.reduceAdd] at ae;apply aG.E7;refine⟨λ_ i v=>v=u/\0<=i/\i<=2/\(0<i->a=0)/\(1<i->b=0),λ_ i _=>(2-i).toNat,⟨rfl,by omega,by omega,by omega,by omega⟩,?_⟩;rintro _ i v ⟨rfl,h0,h1,h2,h3⟩;refine⟨λhi=>?_,λhi=>?_⟩;obtain⟨p,ad,I⟩:=ag.at h0 hi;refine⟨p,ad,⟨h0,hi⟩,_,I,?_⟩;have I:i=0∨i=1:=by omega
 rcases I with rfl|rfl;refine⟨λal=>?_,λhe=>⟨⟨by omega,by omega⟩,⟨rfl,by omega,by omega,λ_=>he,by omega⟩,by dsimp only;omega⟩⟩;have al:a≠0:=al;rw[a1 al] at h;exact h;have aE:=h2 (by omega);rw[aF (by omega)] at h;refine⟨λal=>h,λhe=>⟨⟨by omega,by omega⟩,⟨rfl,by omega,by omega,λ_=>aE,λ_=>he⟩,by dsimp only;omega⟩⟩;have aE:=h2 (by omega);have ab:=h3 (by omega);rw[aF (by omega),ab] at h;exact h
def oN:kH aH 30=some (3,1,8,[.int .i64 0]):=by kernel_rfl
def CT(a b:o):kG aH 30 2 #[(0,.int .i64 a),(1,.int .i64 b)]=some (3,[.int .i64 a,.int .i64 b]):=by kernel_rfl
def Ku(h:ai.le u){g:N}(W:u g=none)(l:M o)(e:dJ)(ar:l.length<=9223372036854775807):
  Ints (u.ins g (.cells (l.map λx=>cY .i64 x).toArray e (0,0))) ⟨some ⟨g,0,none⟩,l.length,l.length⟩ l:=by
 have:=(aJ.make (k:=1) h W (cells:=(l.map λx=>cY .i64 x).toArray) (e:=e) (n:=l.length) ar (by simp)).own.cE
 simpa[Ints] using this
def spec.Ey(h:∀Y:o,(Y<0↔bD a b=ak)->(0<Y↔bD b a=ak)->-1<=Y->Y<=1->K Y u):C.Ey a.1 (dk a.2) (dr a.2) b.1 (dk b.2) (dr b.2) u K:=by
 refine io.forget (ss:=[.one (.int .i64)]) ?_;apply aG.Ey;refine spec.mr (BG _) (BG _) ⟨H.le.refl _,spec.E6 (mo (CT _ _) λg W=>?_)⟩;refine spec.E7 (Ku (H.le.refl u) W [_,_] 3 (by simp)) ⟨H.b1 _ W,h _ ?_ ?_ ?_ ?_⟩;rw[q0,q0,Gd]
 (repeat' split)<;>omega
 rw[q0,q0,Gd]
 (repeat' split)<;>omega
 (repeat' split)<;>omega
 (repeat' split)<;>omega
def spec.qX{K:aK->H->Prop}(h:K (bD a b) u):C.qX a.1 (dk a.2) (dr a.2) b.1 (dk b.2) (dr b.2) u K:=by
 apply aG.qX;refine spec.Ey λY aC _ _ _=>?_;have:decide (Y<0)=bD a b:=by cases ab:bD a b<;>simp[aC,ab]
 rw[this];exact h
def spec.wP{s:U}{a b:M bO}{K:aK->H->Prop}(ag:kQ u s a)(ht:kQ u t b)(h:K (decide (a=b)) u):C.wP s t u K:=by
 have key:∀Y,decide (a=b)=Y->K Y u:=λY e=>e▸h;have ae:=ag.len;have hm:=ht.len;have zd:=ag.max;apply aG.wP;refine⟨λal=>key _ ?_,λhe=>?_⟩;have:a≠b:=λe=>al (by rw[ae,hm,e]);simp[this];refine⟨λ_ i v=>v=u/\0<=i/\i<=(s.n:o)/\a.take i.toNat=b.take i.toNat,λ_ i _=>s.n-i.toNat,⟨rfl,by omega,by omega,by simp⟩,?_⟩;rintro _ i v ⟨rfl,h0,h1,ad⟩;refine⟨λhi=>?_,λhi=>key _ ?_⟩;obtain⟨p,gq,x,J,bJ,c1,c2⟩:=ag.at h0 hi;obtain⟨q,Gs,y,ah,d0,d1,d2⟩:=ht.at h0 (show i<(t.n:o) by omega);refine⟨p,gq,⟨h0,hi⟩,q,Gs,⟨h0,by omega⟩,_,bJ,_,c1,_,c2,_,d0,_,d1,_,d2,λal=>key _ ?_,λhv=>⟨⟨by omega,by omega⟩,⟨rfl,by omega,by omega,?_⟩,by dsimp only;omega⟩⟩;have hv:x≠y:=λe=>al (ah2.2 e);have:a≠b:=λe=>by rw[e,ah] at J;cases J;exact hv rfl
 simp[this];have:x=y:=ah2.1 hv;have aS:(i+1).toNat=i.toNat+1:=by omega
 rw[aS,gS,gS,ad,J,ah,this];have aS:i.toNat=a.length:=by omega
 rw[aS,mQ,<-ae,show s.n=b.length by omega,mQ] at ad;simp[ad]
def yk(d:o):M o->M az->o
 |_,[]=>0|seen,r::l=>if r.id<1∨1000000000<r.id∨r.id∈seen then 50 else if gV r.v d≠0 then gV r.v d else yk d (seen++ [r.id]) l
def oJ(l:M az)(d:o):o:=if d<1∨64<d then 30 else if 512<l.length then 2 else yk d [] l
def ax6{l:M az}{r:az}(h:l[i]?=some r):yk d ((l.take i).map (·.id)) (l.drop i)=
  if r.id<1∨1000000000<r.id∨r.id∈(l.take i).map (·.id) then 50 else if gV r.v d≠0 then gV r.v d else yk d ((l.take (i+1)).map (·.id)) (l.drop (i+1)):=by
 have hi:i<l.length:=(jM.1 h).1
 have O:l[i]=r:=(jM.1 h).2
 rw[wo hi,O]
 simp only[yk]
 rw[gS,h]
 simp
def L1(d:M o):Prop:=d.length=8/\∀x∈d,0<=x/\x<65536
def L1.set{d:M o}(h:L1 d)(h0:0<=x)(h1:x<65536):L1 (d.set i x):=
 ⟨by rw[qK];exact h.1,λy ah=>by rcases akM ah with h2|h2;exact h.2 y h2;omega⟩
def L1.get{d:M o}(h:L1 d)(hi:i<8):0<=d.getD i 0/\d.getD i 0<65536:=by
 have ar:i<d.length:=by rw[h.1];exact hi
 rw[du,cr ar];exact h.2 _ (kE ar)
def H7:ER aH 166 3 4:=⟨by kernel_rfl,by kernel_rfl,λ_=>by kernel_rfl⟩
def spec.qt{s:U}{l:M az}(ag:en u s l)(h:K (oJ l d) u):C.qt s d u K:=by
 have key:∀Y,oJ l d=Y->K Y u:=λY e=>e▸h;have ae:=ag.len;have zd:=ag.max;refine io.forget (ss:=[.one (.int .i64)]) ?_;apply aG.qt;intro my o1;have hle:=H.le.refl u;refine⟨λh1=>⟨hle,key _ (a1 (.inl h1))⟩,λh1=>⟨λh2=>⟨hle,key _ (a1 (.inr h2))⟩,λh2=>⟨λh3=>⟨hle,key _ ?_⟩,λh3=>o1 _ _ ?_⟩⟩⟩;unfold oJ;rw[aF (by omega),a1 (by omega)];have O:oJ l d=yk d [] l:=by unfold oJ;rw[aF (by omega),aF (by omega)]
 rw[O] at key;clear o1 my;refine adz λb ab ky=>?_;refine⟨λ_ i v=>0<=i/\i<=(s.n:o)/\u.le v/\tR v b ((l.take i.toNat).map (·.id))/\yk d ((l.take i.toNat).map (·.id)) (l.drop i.toNat)=yk d [] l,λ_ i _=>s.n-i.toNat,
  ⟨by omega,by omega,H.b1 _ ab,by simpa using ky,by simp⟩,?_⟩
 rintro _ i v ⟨h0,rh,aA,ky,ad⟩;refine⟨λhi=>?_,λhi=>⟨aA,key _ ?_⟩⟩;obtain⟨p,gq,r,dG,bJ,c1,atf⟩:=(ag.mono aA).at h0 hi;rw[ax6 dG] at ad;refine⟨p,gq,⟨h0,hi⟩,_,bJ,_,c1,λaAT arc=>⟨λa7=>⟨aA,key _ ?_⟩,λa7=>⟨λbK=>⟨aA,key _ ?_⟩,λbK=>ady H7 ky ⟨λfs=>⟨aA,key _ ?_⟩,λfs=>arc _ _ ?_⟩⟩⟩⟩;rw[a1 (.inl a7)] at ad;exact ad.symm;rw[a1 (.inr (.inl bK))] at ad;exact ad.symm;rw[a1 (.inr (.inr (by simpa using fs)))] at ad;exact ad.symm;have fs:r.id∉(l.take i.toNat).map (·.id):=by simpa using fs
 rw[aF (λh=>h.elim (λh=>by omega) λh=>h.elim (λh=>by omega) λh=>fs h)] at ad;refine spec.iA atf ⟨λal=>⟨aA,key _ ?_⟩,λhe=>Vw H7 ky fs λb8 OI o6 _=>⟨⟨by omega,by omega⟩,⟨by omega,by omega,?_,?_,?_⟩,by dsimp only;omega⟩⟩;rw[a1 al] at ad;exact ad.symm;exact λg z W=>o6 g z (aA g z W) (λe=>by rw[e,ab] at W;cases W);rw[show(i+1).toNat=i.toNat+1 by omega,gS,dG];simpa using OI;rw[aF (by simpa using he)] at ad;rw[show(i+1).toNat=i.toNat+1 by omega];exact ad;rw[sl (by omega)] at ad;exact ad.symm
def asked(l:M az)(q:M o):o:=if gV q q.length≠0 then gV q q.length else oJ l q.length
def spec.AM{s:U}{l:M az}{q:M o}(ag:en u s l)(ht:Ints u t q)(h:K (asked l q) u):C.AM s t u K:=by have key:∀Y,asked l q=Y->K Y u:=λY e=>e▸h;apply aG.AM;rw[show(t.n:o)=(q.length:o) by rw[ht.len]];refine spec.iA ht ⟨λal=>key _ (a1 al),λhe=>spec.qt ag (key _ (aF (by simpa using he)))⟩
def oh{l:M o}(h:gV l d=0):1<=d/\d<=64/\(l.length:o)=d/\dj l:=by unfold gV at h;split at h;rename_i h1;split at h;rename_i h2;exact⟨h1.1,h1.2.1,h1.2.2,by omega,h2⟩;cases h;cases h
def zG{l:M o}(h:dj l)(h1:1<=l.length):gV l l.length=0:=by unfold gV;rw[a1 ⟨by omega,by have:=h.1;omega,rfl⟩,a1 h.2]
structure hD(l:M az)(d:o):Prop where
 an:1<=d/\d<=64
 len:l.length<=512
 id:∀r∈l,1<=r.id/\r.id<=1000000000
 nodup:(l.map (·.id)).Nodup
 v:∀r∈l,(r.v.length:o)=d/\dj r.v
def alb:∀{l:M az} {seen:M o},yk d seen l=0↔((∀r∈l,1<=r.id/\r.id<=1000000000/\r.id∉seen/\gV r.v d=0)/\(l.map (·.id)).Nodup):=by
 intro l;induction l with
 |nil=>intro seen;simp[yk]
 |cons r l aM=>intro seen;simp only[yk];split;rename_i h;refine⟨λh=>(by cases h),λ⟨h1,_⟩=>?_⟩;have:=h1 r (by simp);exfalso;rcases h with h|h|h;omega;omega;exact this.2.2.1 h;rename_i h;split;rename_i aA;exact⟨λh=>aW h aA,λ⟨h1,_⟩=>aW (h1 r (by simp)).2.2.2 aA⟩;rename_i aA;rw[aM];simp only[cJ,Le,gm,hI,cN,qL,qM,not_or];constructor;rintro⟨h1,h2⟩;refine⟨⟨⟨by omega,by omega,λhm=>h (.inr (.inr hm)),by simpa using aA⟩,λx J=>⟨(h1 x J).1,(h1 x J).2.1,(h1 x J).2.2.1.1,(h1 x J).2.2.2⟩⟩,?_,h2⟩;intro hm;obtain⟨x,J,he⟩:=bf.1 hm;exact(h1 x J).2.2.1.2 he;rintro⟨⟨_,h1⟩,h2,h3⟩;refine⟨λx J=>⟨(h1 x J).1,(h1 x J).2.1,⟨(h1 x J).2.2.1,λhe=>h2 (bf.2 ⟨x,J,he⟩)⟩,(h1 x J).2.2.2⟩,h3⟩
def B9{l:M az}:oJ l d=0↔hD l d:=by unfold oJ;constructor;intro h;split at h;cases h;split at h;cases h;rename_i h1 h2;obtain⟨h3,a7⟩:=alb.1 h;exact⟨by omega,by omega,λr O=>⟨(h3 r O).1,(h3 r O).2.1⟩,a7,λr O=>⟨(oh (h3 r O).2.2.2).2.2.1,(oh (h3 r O).2.2.2).2.2.2⟩⟩;intro h;have:=h.an;have:=h.len;rw[aF (by omega),aF (by omega)];refine alb.2 ⟨λr O=>⟨(h.id r O).1,(h.id r O).2,by simp,?_⟩,h.nodup⟩;obtain⟨h1,h2⟩:=h.v r O;rw[<-h1];exact zG h2 (by omega)
structure kk(l:M az)(q:M o):Prop where
 Wk:dj q
 rows:hD l q.length
def CP{l:M az}{q:M o}:asked l q=0↔kk l q:=by unfold asked;constructor;intro h;split at h;rename_i al;exact aW h al;rename_i he;exact⟨(oh (by simpa using he)).2.2.2,B9.1 h⟩;intro⟨h1,h2⟩;have aA:=zG h1 (by have:=h2.an;omega);rw[aF (by simp[aA])];exact B9.2 h2
def afg(s t:U):kG aH 133 2 #[(0,.slice s.a s.n s.c),(1,.slice t.a t.n t.c)]=some (30,[.slice s.a s.n s.c,.slice t.a t.n t.c]):=by kernel_rfl
def spec.lD{s:U}{a b:M o}{K:o->o->o->H->Prop}(ag:Ints u s a)(ht:Ints u t b)(aE:dj a)(h1:1<=a.length)(ab:dj b)(ar:a.length=b.length)
  (h:∀x y,dh x->dh y->fl x y=fE a b a.length->K x y 0 u):C.lD s t u K:=by
 refine io.forget (ss:=[.agg [.int .u64,.int .u64],.one (.int .i64)]) ?_
 apply aG.lD
 refine mo (afg _ _) λg W=>?_
 generalize lm:u.ins g _=u'
 have hle:u.le u':=by subst lm;exact H.b1 _ W
 have c:∀j v,(#[ec s.a s.n s.c,ec t.a t.n t.c]:cw ap)[j]?=some v->u'.cell? ⟨g,j,none⟩=some v:=by intro j v aA;subst lm;exact(H.ba (H.bh _ _ _) j).trans aA
 clear lm W
 refine⟨λ_ i _ _ v=>v=u'/\0<=i/\i<=2,λ_ i _ _ _=>(2-i).toNat,⟨rfl,by omega,by omega⟩,?_⟩
 rintro _ i _ _ v ⟨rfl,jf,e3⟩
 rw[show(s.n:o)=(a.length:o) by rw[ag.len]]
 have Ah:=zG aE h1
 have qY:gV b a.length=0:=by rw[ar];exact zG ab (by omega)
 refine⟨λhi=>⟨_,rfl,⟨jf,hi⟩,?_⟩,λhi=>spec.yx (ag.mono hle) (ht.mono hle) aE ab ar λx y J ah hw=>⟨hle,h x y J ah hw⟩⟩
 have hi:i<2:=hi
 have I:i=0∨i=1:=by omega
 rcases I with rfl|rfl
 refine⟨s,c 0 _ rfl,spec.iA (ag.mono hle) ⟨λal=>aW Ah al,λ_=>⟨⟨by omega,by omega⟩,⟨rfl,by omega,by omega⟩,by dsimp only;omega⟩⟩⟩
 refine⟨t,c 1 _ rfl,spec.iA (ht.mono hle) ⟨λal=>aW qY al,λ_=>⟨⟨by omega,by omega⟩,⟨rfl,by omega,by omega⟩,by dsimp only;omega⟩⟩⟩
def QM{a b:M o}(aE:dj a)(ab:dj b)(ar:a.length=b.length):mw (fE a b a.length):=by have:=LG aE ab a.length (by omega) (by omega);have:=aE.1;unfold mw;constructor<;>omega
def hp(q:M o)(r:az):bO:=(r.id,fE r.v q r.v.length)
def amq:kH aH 38=some (68,3,24,[.int .i64 0,.int .u64 0,.int .u64 0]):=by kernel_rfl
def aoA(x y Y:o):kG aH 38 1 #[(0,.agg #[.int .i64 x,.int .u64 y,.int .u64 Y])]=some (68,[.int .i64 x,.int .u64 y,.int .u64 Y]):=by kernel_rfl
def aJ.l3{e:N}{s:U}{xs:M ap}(h:aJ ai u e k s xs)(ae:u n=none)(z:Obj):aJ (ai.ins n z) (u.ins n z) e k s xs:=by
 refine⟨h.own.le λb x _ ab=>H.b1 _ ae _ _ ab,λb x ab=>?_,λg W=>?_⟩;unfold H.ins at ab ⊢;split at ab;rename_i fc;rw[a1 fc];exact ab;rename_i fc;rw[aF fc];exact h.le b x ab;rcases h.own.is with h0|⟨b0,cur,aE,ca,_⟩;rw[h0] at W;simp[U.aj] at W;have:b0=g:=by simpa[U.aj,aE] using W
 subst this;rw[H.bq _ _ (λpN=>by rw[pN,ae] at ca;cases ca)];exact h.fresh b0 W
def H.le.none(h:u.le u')(ae:u' n=none):u n=none:=by
 cases J:u n with
 |none=>rfl|some z=>rw[h _ _ J] at ae;cases ae
def mT{zs vs:M ap}{T:dJ}{f:H->Prop}(ar:zs.length=vs.length)(h1:∀v∈vs,v.oneCell'=ak)(Z:f (u.ins n (.cells vs.toArray T (0,0)))):
  H.aO (u.ins n (.cells zs.toArray T (0,0))) ⟨n,0,none⟩ vs f:=by
 refine⟨zs.toArray,T,H.bh _ _ _,rfl,by simp[ar],h1,?_⟩
 rw[H.abf]
 have:wr zs.toArray 0 vs=vs.toArray:=by have:=LR zs.toArray 0 vs (by simp[ar]);simp only[UK,nz,k5] at this;rw[sl (by simp[ar])] at this;apply K0;rw[this];simp
 show f (u.ins n (.cells (wr zs.toArray 0 vs) T (0,0)))
 rw[this];exact Z
def alQ{α:Type}(A:M α)(Y y:α)(B:M α):(A++Y::B).set A.length y=A++y::B:=by
 induction A with
 |nil=>rfl|cons a A aM=>simp[aM]
def aJ.fi{e:N}{s:U}(h:aJ ai u e 3 s (l.flatMap fH)):kQ u s l:=h.own.cE
def agd(l:M bO)(h:bO):l.flatMap fH++ [.int .i64 h.1,.int .u64 (dk h.2),.int .u64 (dr h.2)]=(l++ [h]).flatMap fH:=by simp[fH]
def jO{α:Type}(l:M α)(i j:N):M α:=
 match l[i]?,l[j]? with
 |some a,some b=>(l.set i b).set j a|_,_=>l
def Im{α:Type}{l:M α}(hi:i<l.length)(aP:j<l.length):jO l i j=(l.set i l[j]).set j l[i]:=by simp[jO,hi,aP]
def pw{α:Type}(l:M α)(i j:N):(jO l i j).length=l.length:=by unfold jO;split<;>simp
def Ex{α:Type}{l:M α}(hi:i<l.length)(aP:j<l.length):(jO l i j).Perm l:=by rw[Im hi aP];exact List.set_set_perm hi aP
def azu{α:Type}{l:M α}(hi:i<l.length)(aP:j<l.length)(hk:k<l.length):
  (jO l i j)[k]?=if k=j then some l[i] else if k=i then some l[j] else some l[k]:=by
 rw[Im hi aP]
 simp only[BX,qK]
 by_cases h1:j=k
 subst h1;simp[aP]
 by_cases h2:i=k
 subst h2;simp[h1,hi,dz h1]
 simp[h1,h2,dz h1,dz h2,hk]
structure oQ{α:Type}(lt:α->α->aK):Prop where
 asymm:∀a b,lt a b=ak->lt b a=ax
 trans:∀a b c,lt b a=ax->lt c b=ax->lt c a=ax
variable {α:Type} [lN α] {lt:α->α->aK}
abbrev dm(i:N):N:=(i-1)/2
def iB(lt:α->α->aK)(n:N)(l:M α):Prop:=∀i,0<i->i<n->lt (l.getD i default) (l.getD (dm i) default)=ax
structure As(lt:α->α->aK)(l:M α)(j:N):Prop where
 ajK:j<l.length
 others:∀i,0<i->i<l.length->i≠j->lt (l.getD i default) (l.getD (dm i) default)=ax
 over:∀i,0<i->i<l.length->dm i=j->0<j->lt (l.getD i default) (l.getD (dm j) default)=ax
def Ew{l:M α}(hi:i<l.length)(aP:j<l.length)(hk:k<l.length):
  (jO l i j).getD k default=if k=j then l.getD i default else if k=i then l.getD j default else l.getD k default:=by
 rw[du,azu hi aP hk]
 (repeat' split)<;>simp[hi,aP,hk]
def As.done{l:M α}(h:As lt l j)(aw:j=0∨lt (l.getD j default) (l.getD (dm j) default)=ax):iB lt l.length l:=by intro i h0 hi;by_cases gH:i=j;subst gH;rcases aw with h|h;omega;exact h;exact h.others i h0 hi gH
def As.step(cX:oQ lt){l:M α}(h:As lt l j)(aP:0<j)(ar:lt (l.getD j default) (l.getD (dm j) default)=ak):As lt (jO l (dm j) j) (dm j):=by
 have kK:=h.ajK;have lk:dm j<j:=by unfold dm;omega
 have hlen:=pw l (dm j) j;have g:∀k,k<l.length->(jO l (dm j) j).getD k default=if k=j then l.getD (dm j) default else if k=dm j then l.getD j default else l.getD k default:=
  λk hk=>Ew (by omega) kK hk
 refine⟨by omega,?_,?_⟩;intro i h0 hi al;rw[hlen] at hi;have DC:dm i<i:=by unfold dm;omega
 rw[g i hi,g (dm i) (by omega)];by_cases gH:i=j;subst gH;rw[a1 rfl,aF (by omega),a1 rfl];exact cX.asymm _ _ ar;rw[aF gH,aF al];by_cases aaa:dm i=j;rw[a1 aaa];exact h.over i h0 hi aaa aP;rw[aF aaa];by_cases jd:dm i=dm j;rw[a1 jd];have:=h.others i h0 hi gH;rw[jd] at this;exact cX.trans _ _ _ (cX.asymm _ _ ar) this;rw[aF jd];exact h.others i h0 hi gH;intro i h0 hi DC Ka;rw[hlen] at hi;have aBR:dm (dm j)<dm j:=by unfold dm at*;omega
 have aBq:dm i<i:=by unfold dm;omega
 rw[g i hi,g (dm (dm j)) (by omega),aF (by omega:¬dm (dm j)=j),aF (by omega:¬dm (dm j)=dm j)];have jd:=h.others (dm j) Ka (by omega) (by omega);by_cases gH:i=j;rw[a1 gH];exact jd;rw[aF gH,aF (by omega)];have:=h.others i h0 hi gH;rw[DC] at this;exact cX.trans _ _ _ jd this
structure wY(lt:α->α->aK)(n:N)(l:M α)(j:N):Prop where
 le:n<=l.length
 others:∀i,0<i->i<n->dm i≠j->lt (l.getD i default) (l.getD (dm i) default)=ax
 over:∀i,0<i->i<n->dm i=j->0<j->lt (l.getD i default) (l.getD (dm j) default)=ax
def wY.done{l:M α}(h:wY lt n l j)(aw:∀i,0<i->i<n->dm i=j->lt (l.getD i default) (l.getD j default)=ax):iB lt n l:=by intro i h0 hi;by_cases gH:dm i=j;rw[gH];exact aw i h0 hi gH;exact h.others i h0 hi gH
def wY.step(cX:oQ lt){l:M α}{c:N}(h:wY lt n l j)(o2:0<c)(I:c<n)(SH:dm c=j)(ar:lt (l.getD c default) (l.getD j default)=ak)
  (hm:∀i,0<i->i<n->dm i=j->lt (l.getD i default) (l.getD c default)=ax):wY lt n (jO l j c) c:=by
 have ae:=h.le
 have aBu:j<c:=by rw[<-SH];unfold dm;omega
 have hlen:=pw l j c
 have g:∀k,k<l.length->(jO l j c).getD k default=if k=c then l.getD j default else if k=j then l.getD c default else l.getD k default:=
  λk hk=>Ew (by omega) (by omega) hk
 refine⟨by omega,?_,?_⟩
 intro i h0 hi al
 have DC:dm i<i:=by unfold dm;omega
 rw[g i (by omega),g (dm i) (by omega),aF al]
 by_cases NI:i=c
 subst NI
 rw[a1 rfl,a1 SH]
 exact cX.asymm _ _ ar
 rw[aF NI]
 by_cases gH:i=j
 subst gH
 rw[a1 rfl,aF (by omega)]
 have:=h.over c o2 I SH h0
 exact this
 rw[aF gH]
 by_cases Ka:dm i=j
 rw[a1 Ka];exact hm i h0 hi Ka
 rw[aF Ka];exact h.others i h0 hi Ka
 intro i h0 hi DC _
 have aBQ:dm i<i:=by unfold dm;omega
 rw[g i (by omega),g (dm c) (by omega),aF (by omega:¬i=c),aF (by omega:¬i=j),SH,aF (by omega:¬j=c),a1 rfl]
 have:=h.others i h0 hi (by omega)
 rw[DC] at this
 exact this
def iB.root(cX:oQ lt){l:M α}(h:iB lt n l):∀i,i<n->lt (l.getD i default) (l.getD 0 default)=ax:=by
 intro i;induction i using D9 with
 |_ i aM=>
  intro hi;by_cases h0:i=0;subst h0;cases e:lt (l.getD 0 default) (l.getD 0 default) with
  |false=>rfl|true=>have:=cX.asymm _ _ e;rw[e] at this;cases this
  have ad:dm i<i:=by unfold dm;omega
  exact cX.trans _ _ _ (aM (dm i) ad (by omega)) (h i (by omega) hi)
end
section
variable{u:H}{K:H->Prop}
def aAv(ck:cw dJ)(t:dJ)(p:bc)(a b:ByteArray):Builtin.ssaWrapNilChk_ ck t #[.pointer (some p),.string a,.string b]=pure (.pointer (some p)):=rfl
def adk{P:dY}{fO:N}{t e:dJ}{i:TypeInfo}{name:String}{m:Method}{f:kM}(hi:P.info? t=some i)(hm:i.methods.find? (·.name==name)=some m)(ad:m.path=#[])
  (Z:m.func=some (f,ax)) (hu:P.underlying t=some (.pointer e)) {p:bc} {v:ap} {w:b7} (ar:(loadVar e p).run P w=.ok v w):
  (method (fO+1) t (.pointer (some p)) name).run P w=.ok (f,v) w:=by
 unfold method
 simp[eW,typeInfo,hi,jL,hm,ad,Z,follow,receiverAt,iz hu,Place.get,aAv,strVal,asAddr,ar]
def Lw{P:dY}{fO:N}{t e:dJ}{i:TypeInfo}{name:String}{m:Method}{f:kM}(hi:P.info? t=some i)(hm:i.methods.find? (·.name==name)=some m)(ad:m.path=#[])
  (Z:m.func=some (f,ak)) (hu:P.underlying t=some (.pointer e)) {p:ay bc} {w:b7}:
  (method (fO+1) t (.pointer p) name).run P w=.ok (f,.pointer p) w:=by
 unfold method
 simp[eW,typeInfo,hi,jL,hm,ad,Z,follow,receiverAt,iz hu,Place.get]
def amn{α:Type}{l:M α}{i j k:N}(hi:i≠k)(aP:j≠k):(jO l i j)[k]?=l[k]?:=by unfold jO;split;rw[u0 aP,u0 hi];rfl
structure vl{α:Type}[lN α](recv:ap)(aO:H->M α->Prop)(lt:α->α->aK):Prop where
 len:∀{u l} {K:o->H->Prop},aO u l->K (l.length:o) u->mX aH recv "Len" #[] [.one (.int .i64)] u K
 less:∀{u l} {i j:o} {K:aK->H->Prop},aO u l->0<=i->i<l.length->0<=j->j<l.length->K (lt (l.getD i.toNat default) (l.getD j.toNat default)) u->
  mX aH recv "Less" #[.int .i64 i,.int .i64 j] [.one .bool] u K
 swap:∀{u l} {i j:o} {K:H->Prop},aO u l->0<=i->i<l.length->0<=j->j<l.length->(∀u',aO u' (jO l i.toNat j.toNat)->K u')->
  mX aH recv "Swap" #[.int .i64 i,.int .i64 j] [] u K
 small:∀{u l},aO u l->l.length<=1099511627776
section
variable {α:Type} [lN α] {recv:ap} {aO:H->M α->Prop} {lt:α->α->aK}
def spec.xr(dp:vl recv aO lt)(L:oQ lt){l:M α}{j:o}(ag:aO u l)(h0:0<=j)(hu:As lt l j.toNat)
  (au:∀u' bw,aO u' bw->bw.Perm l->iB lt bw.length bw->K u'):C.xr recv j u K:=by
 have fB:=dp.small ag
 apply aG.xr
 refine⟨λx v=>0<=x/\∃bw,aO v bw/\bw.Perm l/\As lt bw x.toNat,λx _=>x.toNat,⟨h0,l,ag,.refl _,hu⟩,?_⟩
 rintro x v ⟨bL,bw,gr,ad,lm⟩
 have hlen:=ad.length_eq
 have b6:=lm.ajK
 refine⟨⟨by omega,by omega⟩,by decide,?_⟩
 by_cases J:x=0
 subst J
 refine⟨⟨by decide,by decide⟩,λ_=>au _ _ gr ad (lm.done (.inl rfl)),λh=>aW (by decide) h⟩
 have ht:gR (x-1) 2=(x-1)/2:=Lf (by omega)
 have uA:((x-1)/2).toNat=dm x.toNat:=by unfold dm;omega
 rw[ht]
 refine⟨⟨by omega,by omega⟩,λh=>by omega,λ_=>dp.less gr bL (by omega) (by omega) (by omega) ?_⟩
 rw[uA]
 refine⟨λab=>au _ _ gr ad (lm.done (.inr (by simpa using ab))),λab=>dp.swap gr (by omega) (by omega) bL (by omega) λu' dB=>⟨⟨by omega,_,dB,?_,?_⟩,by dsimp only;omega⟩⟩
 rw[uA]
 exact(Ex (by unfold dm;omega) b6).trans ad
 rw[uA]
 exact lm.step L (by omega) ab
def spec.xq(dp:vl recv aO lt)(L:oQ lt){l:M α}{j n:o}{K:aK->H->Prop}(ag:aO u l)(h0:0<=j)(ae:n<=l.length)(hu:wY lt n.toNat l j.toNat)
  (au:∀b u' bw,aO u' bw->bw.Perm l->iB lt n.toNat bw->(∀k:N,n<=k->bw[k]?=l[k]?)->K b u') (aP:j<n∨j<=0):C.xq recv j n u K:=by
 have fB:=dp.small ag
 apply aG.xq
 intro my o1
 refine⟨λx v=>0<=x/\(x<n∨x<=0)/\∃bw,aO v bw/\bw.Perm l/\wY lt n.toNat bw x.toNat/\∀k:N,n<=k->bw[k]?=l[k]?,λx _=>(n-x).toNat,⟨h0,aP,l,ag,.refl _,hu,λ_ _=>rfl⟩,?_⟩
 rintro x v ⟨bL,TJ,bw,gr,ad,aw,ig⟩
 have hlen:=ad.length_eq
 have done:∀{b8},aO b8 bw->(∀i,0<i->i<n.toNat->dm i=x.toNat->lt (bw.getD i default) (bw.getD x.toNat default)=ax)->my x b8:=λdB h=>
  o1 _ _ (au _ _ _ dB ad (aw.done h) ig)
 refine⟨⟨by omega,by omega⟩,⟨by omega,by omega⟩,λWB Nc=>⟨λh=>done gr λi i0 i1 i2=>by unfold dm at i2;omega,λh=>⟨λh2=>by omega,λ_=>Nc _ ?_⟩⟩⟩
 clear Nc WB
 intro tN Nd
 have eP:∀c:o,0<c->c<n->dm c.toNat=x.toNat->(∀i,0<i->i<n.toNat->dm i=x.toNat->lt (bw.getD i default) (bw.getD c.toNat default)=ax)->tN c v:=by
  intro c bJ c1 c2 hm;have ow:x<c:=by unfold dm at c2;omega
  refine Nd _ _ (dp.less gr (by omega) (by omega) bL (by omega) ⟨λab=>done gr λi i0 i1 i2=>?_,λab=>dp.swap gr bL (by omega) (by omega) (by omega) λu' dB=>⟨⟨by omega,.inl c1,_,dB,?_,?_,?_⟩,by dsimp only;omega⟩⟩);exact L.trans _ _ _ (by simpa using ab) (hm i i0 i1 i2);exact(Ex (by omega) (by omega)).trans ad;exact aw.step L (by omega) (by omega) c2 ab hm;intro k hk;rw[amn (by omega) (by omega)];exact ig k hk
 clear Nd
 have Kv:∀a,lt a a=ax:=λa=>by
  cases e:lt a a with
  |false=>rfl|true=>have:=L.asymm _ _ e;rw[e] at this;cases this
 have gX:dm (2*x+1).toNat=x.toNat:=by unfold dm;omega
 have dy:dm (2*x+1+1).toNat=x.toNat:=by unfold dm;omega
 have two:∀i,0<i->i<n.toNat->dm i=x.toNat->i=(2*x+1).toNat∨i=(2*x+1+1).toNat:=λi i0 _ i2=>by unfold dm at i2;omega
 refine⟨⟨by omega,by omega⟩,λh2=>dp.less gr (by omega) (by omega) (by omega) (by omega) ⟨λab=>eP _ (by omega) h2 dy λi i0 i1 i2=>?_,λab=>eP _ (by omega) (by omega) gX λi i0 i1 i2=>?_⟩,
  λh2=>eP _ (by omega) (by omega) gX λi i0 i1 i2=>?_⟩
 rcases two i i0 i1 i2 with rfl|rfl
 exact L.asymm _ _ ab
 exact Kv _
 rcases two i i0 i1 i2 with rfl|rfl
 exact Kv _
 exact ab
 rcases two i i0 i1 i2 with rfl|rfl
 exact Kv _
 omega
def iB.apv{l:M α}{n:N}(h:iB lt n l)(ae:n<=l.length)(y:α):wY lt n (l.set 0 y) 0:=by
 refine⟨by simpa using ae,λi i0 i1 i2=>?_,λi i0 i1 i2 h0=>by omega⟩;have ad:dm i≠0:=i2;have g:∀k,k≠0->(l.set 0 y).getD k default=l.getD k default:=λk hk=>by rw[du,u0 (dz hk),<-du]
 rw[g i (by omega),g _ ad];exact h i i0 i1
def spec.FQ(dp:vl recv aO lt)(L:oQ lt){l:M α}(ag:aO u l)(al:0<l.length)(aw:wY lt l.length l 0)
  (au:∀u' bw,aO u' bw->bw.Perm l->iB lt bw.length bw->K u'):C.FQ recv 0 u K:=by
 apply aG.FQ
 refine dp.len ag (spec.xq dp L ag (by omega) (by omega) (by simpa using aw) (λb u' bw gr ad bU _=>?_) (.inl (by omega)))
 have hlen:=ad.length_eq
 have mc:iB lt bw.length bw:=by rw[hlen];simpa using bU
 refine⟨λ_=>spec.xr dp L gr (by omega) ⟨by show 0<bw.length;omega,λi i0 i1 _=>mc i i0 i1,λi i0 i1 _ h=>aW h (by decide)⟩ λdc gg dB eY y8=>au _ _ dB (eY.trans ad) y8,λ_=>au _ _ gr ad mc⟩
def spec.r7(dp:vl recv aO lt)(L:oQ lt){l:M α}{x:ap}{y:α}(bU:iB lt l.length l)
  (aaf:∀{K:H->Prop},(∀u',aO u' (l++ [y])->K u')->mX aH recv "Push" #[x] [] u K)
  (au:∀u' bw,aO u' bw->bw.Perm (l++ [y])->iB lt bw.length bw->K u'):C.r7 recv x u K:=by
 apply aG.r7
 refine aaf λu' ag=>dp.len ag ?_
 have fB:=dp.small ag
 simp only[ez,rO] at fB ⊢
 refine⟨⟨by omega,by omega⟩,spec.xr dp L ag (by omega) ⟨by simp,λi i0 i1 i2=>?_,λi i0 i1 i2=>?_⟩ au⟩
 simp only[ez,rO] at i1
 have hi:i<l.length:=by omega
 have g:∀k,k<l.length->(l++ [y]).getD k default=l.getD k default:=λk hk=>by rw[du,qJ hk,<-du]
 rw[g i hi,g _ (by unfold dm;omega)]
 exact bU i i0 hi
 simp only[ez,rO] at i1
 unfold dm at i2
 omega
end
end
end Go.Proofs.YtejdhbfjjgcljaaGreatDoor
namespace Go.Proofs
open Go.Shelf
def Tryz.ay1:Go.Shelf.Ren:=⟨fun|6=>81|15=>115|14=>114|28=>158|29=>159|20=>150|21=>151|22=>152|23=>153|24=>154|25=>155|26=>156|27=>157|46=>188|47=>189|48=>190|49=>191|50=>192|57=>202|n=>n,fun|22=>38|24=>68|25=>151|3=>3|39=>201|0=>0|53=>250|55=>26|4=>4|46=>243|45=>242|50=>247|5=>5|9=>9|66=>275|70=>278|76=>288|77=>289|n=>n,fun|n=>n⟩
def Tryz.alY:Go.Proofs.SlLaysF0.n6 Tryz.prog Tryz.ay1:={
 mixed:=by kernel_rfl
 f6:=⟨Tryz.f81.name,by decide,Tryz.func81.trans (congrArg some (by kernel_rfl))⟩
 f14:=⟨Tryz.f114.name,by decide,Tryz.func114.trans (congrArg some (by kernel_rfl))⟩
 f15:=Tryz.func115.trans (congrArg some (by kernel_rfl))
 f20:=⟨Tryz.f150.name,by decide,Tryz.func150.trans (congrArg some (by kernel_rfl))⟩
 f21:=⟨Tryz.f151.name,by decide,Tryz.func151.trans (congrArg some (by kernel_rfl))⟩
 f22:=⟨Tryz.f152.name,by decide,Tryz.func152.trans (congrArg some (by kernel_rfl))⟩
 f23:=⟨Tryz.f153.name,by decide,Tryz.func153.trans (congrArg some (by kernel_rfl))⟩
 f24:=⟨Tryz.f154.name,by decide,Tryz.func154.trans (congrArg some (by kernel_rfl))⟩
 f25:=⟨Tryz.f155.name,by decide,Tryz.func155.trans (congrArg some (by kernel_rfl))⟩
 f26:=⟨Tryz.f156.name,by decide,Tryz.func156.trans (congrArg some (by kernel_rfl))⟩
 f27:=⟨Tryz.f157.name,by decide,Tryz.func157.trans (congrArg some (by kernel_rfl))⟩
 f28:=Tryz.func158.trans (congrArg some (by kernel_rfl))
 f29:=Tryz.func159.trans (congrArg some (by kernel_rfl))
 f46:=⟨Tryz.f188.name,by decide,Tryz.func188.trans (congrArg some (by kernel_rfl))⟩
 f47:=Tryz.func189.trans (congrArg some (by kernel_rfl))
 f48:=Tryz.func190.trans (congrArg some (by kernel_rfl))
 f49:=⟨Tryz.f191.name,by decide,Tryz.func191.trans (congrArg some (by kernel_rfl))⟩
 f50:=⟨Tryz.f192.name,by decide,Tryz.func192.trans (congrArg some (by kernel_rfl))⟩
 f57:=⟨Tryz.f202.name,by decide,Tryz.func202.trans (congrArg some (by kernel_rfl))⟩
 t0:=Tryz.underlying0
 a0:=Tryz.isAgg0
 z0:=Tryz.sizeOf0
 v0:=Tryz.zeroValue0
 t3:=Tryz.underlying3
 a3:=Tryz.isAgg3
 z3:=Tryz.sizeOf3
 v3:=Tryz.zeroValue3
 t4:=Tryz.underlying4
 a4:=Tryz.isAgg4
 z4:=Tryz.sizeOf4
 v4:=Tryz.zeroValue4
 t5:=Tryz.underlying5
 a5:=Tryz.isAgg5
 z5:=Tryz.sizeOf5
 v5:=Tryz.zeroValue5
 t9:=Tryz.underlying9
 a9:=Tryz.isAgg9
 z9:=Tryz.sizeOf9
 v9:=Tryz.zeroValue9
 t22:=Tryz.underlying38
 a22:=Tryz.isAgg38
 z22:=Tryz.sizeOf38
 v22:=Tryz.zeroValue38
 t25:=Tryz.underlying151
 a25:=Tryz.isAgg151
 z25:=Tryz.sizeOf151
 v25:=Tryz.zeroValue151
 t39:=Tryz.underlying201
 a39:=Tryz.isAgg201
 z39:=Tryz.sizeOf201
 v39:=Tryz.zeroValue201
 t45:=Tryz.underlying242
 a45:=Tryz.isAgg242
 z45:=Tryz.sizeOf242
 v45:=Tryz.zeroValue242
 t46:=Tryz.underlying243
 a46:=Tryz.isAgg243
 z46:=Tryz.sizeOf243
 v46:=Tryz.zeroValue243
 t50:=Tryz.underlying247
 a50:=Tryz.isAgg247
 z50:=Tryz.sizeOf247
 v50:=Tryz.zeroValue247
 t53:=Tryz.underlying250
 a53:=Tryz.isAgg250
 z53:=Tryz.sizeOf250
 v53:=Tryz.zeroValue250
 t55:=Tryz.underlying26
 a55:=Tryz.isAgg26
 z55:=Tryz.sizeOf26
 v55:=Tryz.zeroValue26
 t66:=Tryz.underlying275
 a66:=Tryz.isAgg275
 z66:=Tryz.sizeOf275
 v66:=Tryz.zeroValue275
 t70:=Tryz.underlying278
 a70:=Tryz.isAgg278
 z70:=Tryz.sizeOf278
 v70:=Tryz.zeroValue278
 t76:=Tryz.underlying288
 a76:=Tryz.isAgg288
 z76:=Tryz.sizeOf288
 v76:=Tryz.zeroValue288
 t77:=Tryz.underlying289
 a77:=Tryz.isAgg289
 z77:=Tryz.sizeOf289
 v77:=Tryz.zeroValue289}
def Tryz.ay3:Go.Shelf.Ren:=⟨fun|53=>193|64=>115|63=>203|78=>158|79=>159|70=>214|71=>215|72=>216|73=>217|74=>218|75=>219|59=>220|76=>221|77=>222|88=>227|89=>189|90=>190|91=>228|92=>229|68=>160|96=>231|n=>n,fun|22=>30|23=>3|3=>3|51=>201|0=>0|67=>250|69=>26|4=>4|61=>243|60=>242|44=>247|5=>5|9=>9|75=>275|79=>278|83=>288|84=>289|n=>n,fun|n=>n⟩
def Tryz.al0:Go.Proofs.SlLaysN.n53 Tryz.prog Tryz.ay3:={
 mixed:=by kernel_rfl
 f53:=⟨Tryz.f193.name,by decide,Tryz.func193.trans (congrArg some (by kernel_rfl))⟩
 f59:=⟨Tryz.f220.name,by decide,Tryz.func220.trans (congrArg some (by kernel_rfl))⟩
 f63:=⟨Tryz.f203.name,by decide,Tryz.func203.trans (congrArg some (by kernel_rfl))⟩
 f64:=Tryz.func115.trans (congrArg some (by kernel_rfl))
 f68:=⟨Tryz.f160.name,by decide,Tryz.func160.trans (congrArg some (by kernel_rfl))⟩
 f70:=⟨Tryz.f214.name,by decide,Tryz.func214.trans (congrArg some (by kernel_rfl))⟩
 f71:=⟨Tryz.f215.name,by decide,Tryz.func215.trans (congrArg some (by kernel_rfl))⟩
 f72:=⟨Tryz.f216.name,by decide,Tryz.func216.trans (congrArg some (by kernel_rfl))⟩
 f73:=⟨Tryz.f217.name,by decide,Tryz.func217.trans (congrArg some (by kernel_rfl))⟩
 f74:=⟨Tryz.f218.name,by decide,Tryz.func218.trans (congrArg some (by kernel_rfl))⟩
 f75:=⟨Tryz.f219.name,by decide,Tryz.func219.trans (congrArg some (by kernel_rfl))⟩
 f76:=⟨Tryz.f221.name,by decide,Tryz.func221.trans (congrArg some (by kernel_rfl))⟩
 f77:=⟨Tryz.f222.name,by decide,Tryz.func222.trans (congrArg some (by kernel_rfl))⟩
 f78:=Tryz.func158.trans (congrArg some (by kernel_rfl))
 f79:=Tryz.func159.trans (congrArg some (by kernel_rfl))
 f88:=⟨Tryz.f227.name,by decide,Tryz.func227.trans (congrArg some (by kernel_rfl))⟩
 f89:=Tryz.func189.trans (congrArg some (by kernel_rfl))
 f90:=Tryz.func190.trans (congrArg some (by kernel_rfl))
 f91:=⟨Tryz.f228.name,by decide,Tryz.func228.trans (congrArg some (by kernel_rfl))⟩
 f92:=⟨Tryz.f229.name,by decide,Tryz.func229.trans (congrArg some (by kernel_rfl))⟩
 f96:=⟨Tryz.f231.name,by decide,Tryz.func231.trans (congrArg some (by kernel_rfl))⟩
 t0:=Tryz.underlying0
 a0:=Tryz.isAgg0
 z0:=Tryz.sizeOf0
 v0:=Tryz.zeroValue0
 t3:=Tryz.underlying3
 a3:=Tryz.isAgg3
 z3:=Tryz.sizeOf3
 v3:=Tryz.zeroValue3
 t4:=Tryz.underlying4
 a4:=Tryz.isAgg4
 z4:=Tryz.sizeOf4
 v4:=Tryz.zeroValue4
 t5:=Tryz.underlying5
 a5:=Tryz.isAgg5
 z5:=Tryz.sizeOf5
 v5:=Tryz.zeroValue5
 t9:=Tryz.underlying9
 a9:=Tryz.isAgg9
 z9:=Tryz.sizeOf9
 v9:=Tryz.zeroValue9
 t22:=Tryz.underlying30
 a22:=Tryz.isAgg30
 z22:=Tryz.sizeOf30
 v22:=Tryz.zeroValue30
 t23:=Tryz.underlying3
 a23:=Tryz.isAgg3
 z23:=Tryz.sizeOf3
 v23:=Tryz.zeroValue3
 t44:=Tryz.underlying247
 a44:=Tryz.isAgg247
 z44:=Tryz.sizeOf247
 v44:=Tryz.zeroValue247
 t51:=Tryz.underlying201
 a51:=Tryz.isAgg201
 z51:=Tryz.sizeOf201
 v51:=Tryz.zeroValue201
 t60:=Tryz.underlying242
 a60:=Tryz.isAgg242
 z60:=Tryz.sizeOf242
 v60:=Tryz.zeroValue242
 t61:=Tryz.underlying243
 a61:=Tryz.isAgg243
 z61:=Tryz.sizeOf243
 v61:=Tryz.zeroValue243
 t67:=Tryz.underlying250
 a67:=Tryz.isAgg250
 z67:=Tryz.sizeOf250
 v67:=Tryz.zeroValue250
 t69:=Tryz.underlying26
 a69:=Tryz.isAgg26
 z69:=Tryz.sizeOf26
 v69:=Tryz.zeroValue26
 t75:=Tryz.underlying275
 a75:=Tryz.isAgg275
 z75:=Tryz.sizeOf275
 v75:=Tryz.zeroValue275
 t79:=Tryz.underlying278
 a79:=Tryz.isAgg278
 z79:=Tryz.sizeOf278
 v79:=Tryz.zeroValue278
 t83:=Tryz.underlying288
 a83:=Tryz.isAgg288
 z83:=Tryz.sizeOf288
 v83:=Tryz.zeroValue288
 t84:=Tryz.underlying289
 a84:=Tryz.isAgg289
 z84:=Tryz.sizeOf289
 v84:=Tryz.zeroValue289}
def Tryz.ay5:Go.Shelf.Ren:=⟨fun|6=>104|15=>115|14=>143|28=>158|29=>159|20=>177|21=>178|22=>179|23=>180|24=>181|25=>182|26=>183|27=>184|46=>197|47=>189|48=>190|49=>198|50=>199|57=>213|n=>n,fun|22=>22|24=>52|25=>186|3=>3|39=>201|0=>0|53=>250|55=>26|4=>4|46=>243|45=>242|50=>247|5=>5|9=>9|66=>275|70=>278|76=>288|77=>289|n=>n,fun|n=>n⟩
def Tryz.al2:Go.Proofs.SlLaysF0.n6 Tryz.prog Tryz.ay5:={
 mixed:=by kernel_rfl
 f6:=⟨Tryz.f104.name,by decide,Tryz.func104.trans (congrArg some (by kernel_rfl))⟩
 f14:=⟨Tryz.f143.name,by decide,Tryz.func143.trans (congrArg some (by kernel_rfl))⟩
 f15:=Tryz.func115.trans (congrArg some (by kernel_rfl))
 f20:=⟨Tryz.f177.name,by decide,Tryz.func177.trans (congrArg some (by kernel_rfl))⟩
 f21:=⟨Tryz.f178.name,by decide,Tryz.func178.trans (congrArg some (by kernel_rfl))⟩
 f22:=⟨Tryz.f179.name,by decide,Tryz.func179.trans (congrArg some (by kernel_rfl))⟩
 f23:=⟨Tryz.f180.name,by decide,Tryz.func180.trans (congrArg some (by kernel_rfl))⟩
 f24:=⟨Tryz.f181.name,by decide,Tryz.func181.trans (congrArg some (by kernel_rfl))⟩
 f25:=⟨Tryz.f182.name,by decide,Tryz.func182.trans (congrArg some (by kernel_rfl))⟩
 f26:=⟨Tryz.f183.name,by decide,Tryz.func183.trans (congrArg some (by kernel_rfl))⟩
 f27:=⟨Tryz.f184.name,by decide,Tryz.func184.trans (congrArg some (by kernel_rfl))⟩
 f28:=Tryz.func158.trans (congrArg some (by kernel_rfl))
 f29:=Tryz.func159.trans (congrArg some (by kernel_rfl))
 f46:=⟨Tryz.f197.name,by decide,Tryz.func197.trans (congrArg some (by kernel_rfl))⟩
 f47:=Tryz.func189.trans (congrArg some (by kernel_rfl))
 f48:=Tryz.func190.trans (congrArg some (by kernel_rfl))
 f49:=⟨Tryz.f198.name,by decide,Tryz.func198.trans (congrArg some (by kernel_rfl))⟩
 f50:=⟨Tryz.f199.name,by decide,Tryz.func199.trans (congrArg some (by kernel_rfl))⟩
 f57:=⟨Tryz.f213.name,by decide,Tryz.func213.trans (congrArg some (by kernel_rfl))⟩
 t0:=Tryz.underlying0
 a0:=Tryz.isAgg0
 z0:=Tryz.sizeOf0
 v0:=Tryz.zeroValue0
 t3:=Tryz.underlying3
 a3:=Tryz.isAgg3
 z3:=Tryz.sizeOf3
 v3:=Tryz.zeroValue3
 t4:=Tryz.underlying4
 a4:=Tryz.isAgg4
 z4:=Tryz.sizeOf4
 v4:=Tryz.zeroValue4
 t5:=Tryz.underlying5
 a5:=Tryz.isAgg5
 z5:=Tryz.sizeOf5
 v5:=Tryz.zeroValue5
 t9:=Tryz.underlying9
 a9:=Tryz.isAgg9
 z9:=Tryz.sizeOf9
 v9:=Tryz.zeroValue9
 t22:=Tryz.underlying22
 a22:=Tryz.isAgg22
 z22:=Tryz.sizeOf22
 v22:=Tryz.zeroValue22
 t25:=Tryz.underlying186
 a25:=Tryz.isAgg186
 z25:=Tryz.sizeOf186
 v25:=Tryz.zeroValue186
 t39:=Tryz.underlying201
 a39:=Tryz.isAgg201
 z39:=Tryz.sizeOf201
 v39:=Tryz.zeroValue201
 t45:=Tryz.underlying242
 a45:=Tryz.isAgg242
 z45:=Tryz.sizeOf242
 v45:=Tryz.zeroValue242
 t46:=Tryz.underlying243
 a46:=Tryz.isAgg243
 z46:=Tryz.sizeOf243
 v46:=Tryz.zeroValue243
 t50:=Tryz.underlying247
 a50:=Tryz.isAgg247
 z50:=Tryz.sizeOf247
 v50:=Tryz.zeroValue247
 t53:=Tryz.underlying250
 a53:=Tryz.isAgg250
 z53:=Tryz.sizeOf250
 v53:=Tryz.zeroValue250
 t55:=Tryz.underlying26
 a55:=Tryz.isAgg26
 z55:=Tryz.sizeOf26
 v55:=Tryz.zeroValue26
 t66:=Tryz.underlying275
 a66:=Tryz.isAgg275
 z66:=Tryz.sizeOf275
 v66:=Tryz.zeroValue275
 t70:=Tryz.underlying278
 a70:=Tryz.isAgg278
 z70:=Tryz.sizeOf278
 v70:=Tryz.zeroValue278
 t76:=Tryz.underlying288
 a76:=Tryz.isAgg288
 z76:=Tryz.sizeOf288
 v76:=Tryz.zeroValue288
 t77:=Tryz.underlying289
 a77:=Tryz.isAgg289
 z77:=Tryz.sizeOf289
 v77:=Tryz.zeroValue289}
def Tryz.ay4:Go.Shelf.Ren:=⟨fun|6=>175|15=>115|14=>196|28=>158|29=>159|20=>205|21=>206|22=>207|23=>208|24=>209|25=>210|26=>211|27=>212|46=>224|47=>189|48=>190|49=>225|50=>226|57=>230|n=>n,fun|22=>30|24=>3|25=>203|3=>3|39=>201|0=>0|53=>250|55=>26|4=>4|46=>243|45=>242|50=>247|5=>5|9=>9|66=>275|70=>278|76=>288|77=>289|n=>n,fun|n=>n⟩
def Tryz.al1:Go.Proofs.SlLaysF.n6 Tryz.prog Tryz.ay4:={
 mixed:=by kernel_rfl
 f6:=⟨Tryz.f175.name,by decide,Tryz.func175.trans (congrArg some (by kernel_rfl))⟩
 f14:=⟨Tryz.f196.name,by decide,Tryz.func196.trans (congrArg some (by kernel_rfl))⟩
 f15:=Tryz.func115.trans (congrArg some (by kernel_rfl))
 f20:=⟨Tryz.f205.name,by decide,Tryz.func205.trans (congrArg some (by kernel_rfl))⟩
 f21:=⟨Tryz.f206.name,by decide,Tryz.func206.trans (congrArg some (by kernel_rfl))⟩
 f22:=⟨Tryz.f207.name,by decide,Tryz.func207.trans (congrArg some (by kernel_rfl))⟩
 f23:=⟨Tryz.f208.name,by decide,Tryz.func208.trans (congrArg some (by kernel_rfl))⟩
 f24:=⟨Tryz.f209.name,by decide,Tryz.func209.trans (congrArg some (by kernel_rfl))⟩
 f25:=⟨Tryz.f210.name,by decide,Tryz.func210.trans (congrArg some (by kernel_rfl))⟩
 f26:=⟨Tryz.f211.name,by decide,Tryz.func211.trans (congrArg some (by kernel_rfl))⟩
 f27:=⟨Tryz.f212.name,by decide,Tryz.func212.trans (congrArg some (by kernel_rfl))⟩
 f28:=Tryz.func158.trans (congrArg some (by kernel_rfl))
 f29:=Tryz.func159.trans (congrArg some (by kernel_rfl))
 f46:=⟨Tryz.f224.name,by decide,Tryz.func224.trans (congrArg some (by kernel_rfl))⟩
 f47:=Tryz.func189.trans (congrArg some (by kernel_rfl))
 f48:=Tryz.func190.trans (congrArg some (by kernel_rfl))
 f49:=⟨Tryz.f225.name,by decide,Tryz.func225.trans (congrArg some (by kernel_rfl))⟩
 f50:=⟨Tryz.f226.name,by decide,Tryz.func226.trans (congrArg some (by kernel_rfl))⟩
 f57:=⟨Tryz.f230.name,by decide,Tryz.func230.trans (congrArg some (by kernel_rfl))⟩
 t0:=Tryz.underlying0
 a0:=Tryz.isAgg0
 z0:=Tryz.sizeOf0
 v0:=Tryz.zeroValue0
 t3:=Tryz.underlying3
 a3:=Tryz.isAgg3
 z3:=Tryz.sizeOf3
 v3:=Tryz.zeroValue3
 t4:=Tryz.underlying4
 a4:=Tryz.isAgg4
 z4:=Tryz.sizeOf4
 v4:=Tryz.zeroValue4
 t5:=Tryz.underlying5
 a5:=Tryz.isAgg5
 z5:=Tryz.sizeOf5
 v5:=Tryz.zeroValue5
 t9:=Tryz.underlying9
 a9:=Tryz.isAgg9
 z9:=Tryz.sizeOf9
 v9:=Tryz.zeroValue9
 t22:=Tryz.underlying30
 a22:=Tryz.isAgg30
 z22:=Tryz.sizeOf30
 v22:=Tryz.zeroValue30
 a24:=Tryz.isAgg3
 z24:=Tryz.sizeOf3
 t25:=Tryz.underlying203
 a25:=Tryz.isAgg203
 z25:=Tryz.sizeOf203
 v25:=Tryz.zeroValue203
 t39:=Tryz.underlying201
 a39:=Tryz.isAgg201
 z39:=Tryz.sizeOf201
 v39:=Tryz.zeroValue201
 t45:=Tryz.underlying242
 a45:=Tryz.isAgg242
 z45:=Tryz.sizeOf242
 v45:=Tryz.zeroValue242
 t46:=Tryz.underlying243
 a46:=Tryz.isAgg243
 z46:=Tryz.sizeOf243
 v46:=Tryz.zeroValue243
 t50:=Tryz.underlying247
 a50:=Tryz.isAgg247
 z50:=Tryz.sizeOf247
 v50:=Tryz.zeroValue247
 t53:=Tryz.underlying250
 a53:=Tryz.isAgg250
 z53:=Tryz.sizeOf250
 v53:=Tryz.zeroValue250
 t55:=Tryz.underlying26
 a55:=Tryz.isAgg26
 z55:=Tryz.sizeOf26
 v55:=Tryz.zeroValue26
 t66:=Tryz.underlying275
 a66:=Tryz.isAgg275
 z66:=Tryz.sizeOf275
 v66:=Tryz.zeroValue275
 t70:=Tryz.underlying278
 a70:=Tryz.isAgg278
 z70:=Tryz.sizeOf278
 v70:=Tryz.zeroValue278
 t76:=Tryz.underlying288
 a76:=Tryz.isAgg288
 z76:=Tryz.sizeOf288
 v76:=Tryz.zeroValue288
 t77:=Tryz.underlying289
 a77:=Tryz.isAgg289
 z77:=Tryz.sizeOf289
 v77:=Tryz.zeroValue289}
def Tryz.az1:Go.Shelf.Ren:=⟨fun|29=>169|n=>n,fun|22=>26|3=>3|4=>4|25=>201|54=>281|0=>0|5=>5|n=>n,fun|1=>0|n=>n⟩
def Tryz.az0:Go.Proofs.Lays7.n29 Tryz.prog Tryz.az1:={
 mixed:=by kernel_rfl
 f29:=Tryz.func169.trans (congrArg some (by kernel_rfl))
 t0:=Tryz.underlying0
 a0:=Tryz.isAgg0
 z0:=Tryz.sizeOf0
 v0:=Tryz.zeroValue0
 i0:=by kernel_rfl
 t3:=Tryz.underlying3
 a3:=Tryz.isAgg3
 z3:=Tryz.sizeOf3
 v3:=Tryz.zeroValue3
 i3:=by kernel_rfl
 t4:=Tryz.underlying4
 a4:=Tryz.isAgg4
 z4:=Tryz.sizeOf4
 v4:=Tryz.zeroValue4
 i4:=by kernel_rfl
 t5:=Tryz.underlying5
 a5:=Tryz.isAgg5
 z5:=Tryz.sizeOf5
 v5:=Tryz.zeroValue5
 i5:=by kernel_rfl
 t22:=Tryz.underlying26
 a22:=Tryz.isAgg26
 z22:=Tryz.sizeOf26
 v22:=Tryz.zeroValue26
 i22:=by kernel_rfl
 t25:=Tryz.underlying201
 a25:=Tryz.isAgg201
 z25:=Tryz.sizeOf201
 v25:=Tryz.zeroValue201
 i25:=by kernel_rfl
 t54:=Tryz.underlying281
 a54:=Tryz.isAgg281
 z54:=Tryz.sizeOf281
 g1:=by kernel_rfl}
end Go.Proofs
namespace Go.Proofs.YtejdhbfjjgcljaaGreatDoor
section
variable{u ai:H}{g:N}{s:U}
open Go.Shelf Go.RowKit Go.Sort
def Step.agp{bd w':b7}(h:Step (λb=>bd.heap[b]?) [] bd (λb=>bd.heap[b]?) [] w'):∃q PI,w'=grow (bd.drewN q) PI:=by
 refine⟨w'.drawn-bd.drawn,w'.heap.extract bd.heap.size w'.heap.size,?_⟩;have aw:=h.drawn;have ag:=h.size;have bU:w'.heap=bd.heap++w'.heap.extract bd.heap.size w'.heap.size:=by apply Array.ext;simp;omega;intro i h1 h2;rcases kC i bd.heap.size with hi|hi;rw[Array.getElem_append_left hi];have:=h.sub i bd.heap[i] (by simp[hi]);rw[x8 h1] at this;exact cU this;rw[Array.getElem_append_right hi];simp only[Array.getElem_extract];congr 1;omega
 have aS:=h.os;have aB:=h.tape;have cW:=h.output;cases w';cases bd;simp only[grow,World.drewN] at*;simp only[World.mk.injEq];refine⟨bU,aB,by omega,aS,cW⟩
def agq{P:dY}{f:kM}{args:cw ap}{Y:o}(h:∀u:H,io P f args [.one (.int .i64)] u λfm u'=>fm=Y/\u'=u)(bd:b7):
  Calls P f args bd λe w'=>e=.returned (.int .i64 Y)/\∃q PI,w'=grow (bd.drewN q) PI:=by
 refine(h (λb=>bd.heap[b]?) bd (λb z e=>e)).mono ?_
 rintro e w' ⟨v,u',rfl,⟨vs,hk,rfl,I⟩,ag⟩
 cases hk with
 |cons x O=>cases O;have mG:=(aL.rR (.int .i64) x _).1 I;obtain⟨J,hu⟩:x=Y/\u'=_:=mG;subst J;subst hu;exact⟨rfl,ag.agp⟩
def I1(a b:bO):o:=if bD a b then -1 else if bD b a then 1 else 0
def azv(cf:bO->bO->o)(h:∀a b,cf a b<0↔bD a b=ak):SWO (ltOf cf) where
 irrefl x:=by unfold ltOf;simp[h,JW]
 trans x y Y h1 h2:=by unfold ltOf at*;simp only[KZ,h] at*;exact NW h1 h2
 ntrans x y Y h1 h2:=by unfold ltOf at*;simp only[HG,h,acR] at*;exact Ge h2 h1
instance:lN bO:=⟨(0,0)⟩
def af8(d:cw bO):(flatK fH 3 d).toList=d.toList.flatMap fH:=by
 apply sk;intro i;rcases kC i (d.size*3) with hi|hi;have e:i=i/3*3+i%3:=by omega
 have aw:i/3<d.size:=by omega
 have O:i%3<3:=HH _ (by decide);have Z:=Jc r0 d.toList (i/3) (i%3) O;rw[<-e] at Z;rw[Z];have:(flatK fH 3 d).toList[i]?=some ((flatK fH 3 d)[i]!):=by rw[BZ,sm _ i (by simpa using hi),x8 (by simpa using hi)]
 rw[this,get_flatK _ _ _ _ hi];simp[aw];have h2:i%3<(fH d[i/3]).length:=by rw[r0];exact O
 rw[cr h2];rfl;rw[iy (by simpa using hi),iy (by rw[nQ r0];simpa using hi)]
def ahH{w:b7}{cur:cw ap}{T:dJ}{Jh:N×N}(f:cw ap->cw ap)(h:w.heap[g]?=some (.cells cur T Jh)):
  (mapBlock w g f).heap[g]?=some (.cells (f cur) T Jh)/\∀b,b≠g->(mapBlock w g f).heap[b]?=w.heap[b]?:=by
 unfold mapBlock
 constructor
 simp only[Uy,qI,h,tr,onCells]
 intro b ab
 simp only[Uy]
 rw[aF (dz ab)]
def VM{w:b7}(hw:Sub u w){cur:cw ap}{T:dJ}(W:u g=some (.cells cur T (0,0)))(n:N)(f:cw ap->cw ap)(os:cw Obj):
  Step u [] w (u.ins g (.cells (f cur) T (0,0))) [] (grow (mapBlock (u1 w n) g f) os):=by
 have NG:(u1 w n).heap[g]?=some (.cells cur T (0,0)):=hw _ _ W
 obtain⟨h1,h2⟩:=ahH f NG
 have cI:(mapBlock (u1 w n) g f).heap.size=w.heap.size:=by simp[mapBlock,u1]
 have mb:∀b,b<w.heap.size->(grow (mapBlock (u1 w n) g f) os).heap[b]?=(mapBlock (u1 w n) g f).heap[b]?:=by intro b ab;show((mapBlock (u1 w n) g f).heap++os)[b]?=_;rw[acL (by rw[cI];exact ab)]
 refine⟨λb z h=>?_,rfl,rfl,rfl,Nat.le_add_right _ _,?_,λb ab fc _=>?_,λb ab fc=>?_,[],by simp,by simp⟩
 unfold H.ins at h
 split at h
 rename_i nT;subst nT;cases h
 rw[mb _ (hw.lt W)];exact h1
 rename_i nT
 rw[mb _ (hw.lt h),h2 b nT];exact hw b z h
 show w.heap.size<=((mapBlock (u1 w n) g f).heap++os).size
 rw[acN,cI];omega
 have:b≠g:=λh=>by rw[h,W] at fc;cases fc
 rw[mb b ab,h2 b this];rfl
 have:b≠g:=λh=>by rw[h,W] at fc;cases fc
 rw[H.bq _ _ this];exact fc
def axJ{F cur:cw ap}(h:F.size<=cur.size):(putCells id 0 F cur).toList.take F.size=F.toList:=by
 apply sk;intro i;rw[K3];split;rename_i hi;have I:i<cur.size:=by omega
 simp only[putCells,BZ,Array.getElem?_mapIdx];rw[x8 I,x8 hi];simp only[tr,p2,true_and,k5,hi,qI,Ed,id];rw[sm F i hi];rename_i hi;rw[iy (by simpa using hi)]
def axK{F cur:cw ap}:(putCells id 0 F cur).size=cur.size:=by simp[putCells]
def aJ.Vf{e k:N}{xs:M ap}(h:aJ ai u e k s xs){cur:cw ap}(aE:s.a=some ⟨g,0,none⟩)(W:u g=some (.cells cur e (0,0))){F:cw ap}(rc:F.size=s.n*k):
  aJ ai (u.ins g (.cells (putCells id 0 F cur) e (0,0))) e k s F.toList/\gO u (u.ins g (.cells (putCells id 0 F cur) e (0,0))) s:=by
 rcases h.own.is with h0|⟨b0,aA1,SE,ca,ae,I,ag,ht⟩
 rw[h0] at aE;cases aE
 rw[aE] at SE;cases SE
 rw[W] at ca;cases ca
 have hle:s.n*k<=s.c*k:=ts _ ae
 have hblk:s.aj=some g:=by simp[U.aj,aE]
 refine⟨⟨⟨by simpa using rc,.inr ⟨g,_,aE,H.bh _ _ _,ae,I,by rw[axK];exact ag,?_⟩⟩,λb z ab=>?_,h.fresh⟩,λb z ab al=>?_⟩
 rw[<-rc];exact axJ (by rw[rc,ag];exact hle)
 have:b≠g:=λe=>by rw[e,h.fresh g hblk] at ab;cases ab
 rw[H.bq _ _ this];exact h.le b z ab
 have:b≠g:=λe=>al (by rw[hblk,e])
 rw[H.bq _ _ this];exact ab
def azc{cf:bO->bO->o}(h:∀a b,cf a b<0↔bD a b=ak){d:cw bO}(ag:SortedIn (ltOf cf) 0 d.size d):qm d.toList:=by refine qN.2 λi j hi aP gH=>?_;have:=ag i j (p2 _) gH (by simpa using aP);simp only[rL] at hi aP;rw[sm d j aP,sm d i hi] at this;unfold ltOf at this;simp only[HG,h,acR] at this;simpa using this
def spec.LD{g:kM}{cf:bO->bO->o}(h:∀a b,cf a b<0↔bD a b=ak)(pF:∀args w,(p0 g args).run aH w=.ok (.enter g args) w)
  (Nt:∀a b (u:H),io aH g #[.agg (fH a).toArray,.agg (fH b).toArray] [.one (.int .i64)] u λfm u'=>fm=cf a b/\u'=u)
  {ai u:H} {s:U} {l:M bO} (aa:aJ ai u 68 3 s (l.flatMap fH)) (fB:l.length<4611686018427387904) {K:H->Prop}
  (au:∀u',aJ ai u' 68 3 s ((l4 l).flatMap fH)->gO u u' s->K u'):C.LD s (.func (.func g) #[] #[]) u K:=by
 intro w hw
 have dw:=aa.fi.len
 rcases aa.own.is with h0|⟨b,cur,aE,W,hle,I,ag,ht⟩
 subst h0
 have ar:l=[]:=by have:l.length=0:=dw.symm;exact kN this
 subst ar
 refine(acS Tryz.alY none 0 _ w).mono ?_
 rintro e w' ⟨rfl,rfl⟩
 exact⟨_,u,rfl,⟨[],.nil,rfl,au u aa (gO.refl _ _)⟩,Step.refl hw⟩
 have hH:HoldsK fH 3 w b 0 l.toArray:=by
  intro j aP;simp only[size_flatK,wv] at aP;have uD:=aa.own.cE;have ar:(l.flatMap fH)[j]?=some ((flatK fH 3 l.toArray)[j]!):=by have:=af8 l.toArray;simp only[] at this;rw[<-this,BZ,sm _ j (by simpa using aP),x8 (by simpa using aP)]
  constructor;rcases uD.at' with h1|⟨p,ad,fS⟩;rw[h1] at ar;simp at ar;rw[aE] at ad;cases ad;have:=hw.cell (fS j _ ar);rw[jh,k5] at this;simpa using this;simp[Hw,hw _ _ W]
 have sX:=AnyQ.slices_SortFunc Tryz.alY 3 (λw=>by kernel_rfl) (λw=>by kernel_rfl) fH r0 (λx=>Fm x) cf (azv cf h) g #[] b 0 s.c l.toArray w pF
  (λm os AI _ x y=>by have:=agq (Nt x y) (sortWorldK fH 3 w b 0 m AI os);simpa using this) hH (hw.lt W) (by simpa using fB)
 simp only[wv] at sX
 change Calls aH 81 _ _ _ at sX
 unfold vs
 rw[aE,dw]
 refine sX.mono ?_
 rintro e w' ⟨rfl,lI,n,os,⟨gq,_,rp⟩,qC,rfl⟩
 simp only[wv] at gq
 have h5:lI.toList.Perm l:=by
  have aS:lI.extract 0 l.length=lI:=by rw[<-gq];simp
  have aB:l.toArray.extract 0 l.length=l.toArray:=by simp
  rw[aS,aB] at rp;simpa using rp
 have auU:qm lI.toList:=azc h (by rw[gq];exact qC)
 have ar:lI.toList=l4 l:=adD h5 auU
 obtain⟨bP,he⟩:=aa.Vf aE W (F:=flatK fH 3 lI) (by rw[size_flatK,gq,dw])
 rw[af8,ar] at bP
 exact⟨_,_,rfl,⟨[],.nil,rfl,au _ bP he⟩,VM hw W n _ os⟩
def encI(x:o):M ap:=[.int .i64 x]
def nO(x:o):(encI x).length=1:=rfl
def RX(x:o):∀v∈encI x,v.oneCell'=ak:=by simp[encI,cT]
def yU(l:M o):l.flatMap encI=l.map λx=>.int .i64 x:=by
 induction l with
 |nil=>rfl|cons x l aM=>simp[encI] at aM ⊢;exact aM
def aJ.ints{e:N}{l:M o}(h:aJ ai u e 1 s (l.flatMap encI)):Ints u s l:=by have:=h.own.cE;rw[yU] at this;exact this
def dQ(l:M o):M o:=l.mergeSort λx y=>decide (x<=y)
def spec.rQ{l:M o}(aa:aJ ai u 3 1 s (l.flatMap encI))(fB:l.length<4611686018427387904){K:H->Prop}
  (au:∀u',aJ ai u' 3 1 s ((dQ l).flatMap encI)->gO u u' s->K u'):C.rQ s u K:=by
 intro w hw
 have dw:=aa.ints.len
 rcases aa.own.is with h0|⟨b,cur,aE,W,hle,I,ag,ht⟩
 subst h0
 have ar:l=[]:=by have:l.length=0:=dw.symm;exact kN this
 subst ar
 refine(AnyG.slices_Sort_int_none Tryz.al0 none 0 w).mono ?_
 rintro e w' ⟨rfl,rfl⟩
 exact⟨_,u,rfl,⟨[],.nil,rfl,au u (by simpa[dQ] using aa) (gO.refl _ _)⟩,Step.refl hw⟩
 have hH:Holds (cY .i64) w b 0 l.toArray:=by
  intro j aP;have lX:j<l.length:=by simpa using aP
  have ar:(l.flatMap encI)[j]?=some (.int .i64 l[j]):=by rw[yU];simp[lX]
  constructor;rcases aa.own.cE.at' with h1|⟨p,ad,fS⟩;rw[h1] at ar;simp at ar;rw[aE] at ad;cases ad;have:=hw.cell (fS j _ ar);rw[jh,k5] at this;rw[sm _ j (by simpa using lX)];simpa using this;simp[Hw,hw _ _ W]
 have sX:=AnyG.slices_Sort_int Tryz.al0 b 0 s.c l w hH (hw.lt W) fB
 change Calls aH 193 _ _ _ at sX
 unfold vs
 rw[aE,dw]
 refine sX.mono ?_
 rintro e w' ⟨rfl,n,os,rfl⟩
 have hlen:(dQ l).length=l.length:=by simp[dQ]
 have aag:putCells (cY .i64) 0 (dQ l).toArray cur=putCells id 0 ((dQ l).map λx=>cY .i64 x).toArray cur:=by unfold putCells;apply Array.ext;simp;intro i h1 h2;simp only[Array.getElem_mapIdx,wv,de,p2,true_and,k5,Ed,id];split;rename_i hi;rw[sm _ i (by simpa using hi),sm _ i (by simpa using hi)];simp;rfl
 obtain⟨bP,he⟩:=aa.Vf aE W (F:=((dQ l).map λx=>cY .i64 x).toArray) (by simp[hlen,dw])
 rw[<-aag] at bP he
 simp only[] at bP
 rw[<-yU] at bP
 exact⟨_,_,rfl,⟨[],.nil,rfl,au _ bP he⟩,VM hw W n _ os⟩
end
section
variable{u ai:H}{n:N}{k:o}{s:U}{P:dY}{l S:M bO}{f:kM}{x:bO}{xs:M ap}{K:U->H->Prop}{env:M (N×ap)}
def api(a b:bO)(u:H):io aH 82 #[.agg (fH a).toArray,.agg (fH b).toArray] [.one (.int .i64)] u λfm u'=>fm=I1 a b/\u'=u:=by refine spec.Ey (a:=a) (b:=b) (K:=λfm u'=>fm=I1 a b/\u'=u) λY h1 h2 h3 a7=>⟨?_,rfl⟩;unfold I1;by_cases aE:bD a b=ak;rw[a1 aE];have:=h1.2 aE;omega;rw[aF aE];by_cases ab:bD b a=ak;rw[a1 ab];have:=h2.2 ab;omega;rw[aF ab];have b4:¬Y<0:=λh=>aE (h1.1 h);have eb:¬0<Y:=λh=>ab (h2.1 h);omega
def ape(a b:bO):I1 a b<0↔bD a b=ak:=by unfold I1;by_cases aE:bD a b=ak;simp[aE];rw[aF aE];split<;>simp[aE]
def n4(P:dY)(t:dJ)(name:String)(f:kM)(ptr:aK):aK:=
 match P.info? t with
 |some i=>match i.methods.find? (·.name==name) with
  |some m=>match m.path.toList,m.func with
   | [],some (g,b)=>ju g f && (b==ptr)|_,_=>ax
  |none=>ax
 |none=>ax
def BK{t:dJ}{name:String}{ptr:aK}(h:n4 P t name f ptr=ak):
  ∃i m,P.info? t=some i/\i.methods.find? (·.name==name)=some m/\m.path=#[]/\m.func=some (f,ptr):=by
 unfold n4 at h
 split at h
 rename_i i hi
 split at h
 rename_i m hm
 split at h
 rename_i g b ad Z
 simp only[pr,UO] at h
 refine⟨i,m,hi,hm,?_,?_⟩
 apply K0;rw[ad]
 rw[Z,mh h.1,h.2]
 cases h
 cases h
 cases h
def awn:n4 aH 146 "Len" 320 ax=ak:=by kernel_rfl
def awo:n4 aH 146 "Less" 321 ax=ak:=by kernel_rfl
def awq:n4 aH 146 "Swap" 322 ax=ak:=by kernel_rfl
def awp:n4 aH 146 "Push" 324 ak=ak:=by kernel_rfl
def ayV:qT aH 141=some (.one .slice):=by kernel_rfl
def amQ:aH.underlying 146=some (.pointer 141):=by kernel_rfl
def azy:kH aH 141=some (68,3,24,[.int .i64 0,.int .u64 0,.int .u64 0]):=by kernel_rfl
def aoB(x y Y:o):kG aH 141 1 #[(0,.agg #[.int .i64 x,.int .u64 y,.int .u64 Y])]=some (68,[.int .i64 x,.int .u64 y,.int .u64 Y]):=by kernel_rfl
def AO:∃k,aH.types.size+uW=k+1:=by
 have h:0<uW:=by decide
 generalize aH.types.size=a;exact⟨a+uW-1,by omega⟩
structure CN(ai:H)(n:N)(k:o)(u:H)(l:M bO):Prop where
 ex:∃s:U,u n=some (.cells #[.int .i64 k,.slice s.a s.n s.c] 143 (0,0))/\aJ ai u 68 3 s (l.flatMap fH)/\s.aj≠some n
 out:ai n=none
 small:l.length<=1000000
def ahF(n:N):ap:=.iface 146 (.pointer (some ((cB n 0 none).add 1)))
def Md(n:N):(cB n 0 none).add 1=⟨n,1,none⟩:=by rw[jh]
def Y5{name:String}(hm:n4 aH 146 name f ax=ak)(ae:u n=some (.cells #[.int .i64 k,.slice s.a s.n s.c] 143 (0,0)))(w:b7)(hw:Sub u w):
  (method (aH.types.size+uW) 146 (.pointer (some ((cB n 0 none).add 1))) name).run aH w=.ok (f,.slice s.a s.n s.c) w:=by
 obtain⟨i,m,h1,h2,h3,a7⟩:=BK hm
 obtain⟨dT,dA⟩:=AO
 rw[dA]
 refine adk h1 h2 h3 a7 amQ ?_
 have I:u.cell? ((cB n 0 none).add 1)=some (.slice s.a s.n s.c):=by rw[Md];exact H.ba ae 1
 have y5:=hw.cell I
 exact KH ayV ((cB n 0 none).add 1) (vs:=[.slice s.a s.n s.c]) rfl (acT _ _ _ _ _ rfl (λj v aP=>by
  cases j with
  |zero=>simp at aP;subst aP;exact y5|succ j=>simp at aP)) (λc I=>⟨_,rfl,y5⟩)
def MR{i:N}(h:l[i]?=some x):l.getD i default=x:=by rw[du,h];rfl
def spec.LJ{i j:o}{K:aK->H->Prop}(ag:kQ u s l)(i0:0<=i)(i1:i<l.length)(gK:0<=j)(js:j<l.length)
  (h:K (bD (l.getD j.toNat default) (l.getD i.toNat default)) u):C.LJ s i j u K:=by
 have ae:=ag.len
 apply aG.LJ
 obtain⟨p,ad,x,J,bJ,c1,c2⟩:=ag.at gK (show j<(s.n:o) by omega)
 obtain⟨q,aN,y,ah,d0,d1,d2⟩:=ag.at i0 (show i<(s.n:o) by omega)
 rw[MR J,MR ah] at h
 exact⟨p,ad,⟨gK,by omega⟩,q,aN,⟨i0,by omega⟩,_,bJ,_,c1,_,c2,_,d0,_,d1,_,d2,spec.qX h⟩
def spec.LK{i j:o}{K:H->Prop}(aa:aJ ai u 68 3 s (l.flatMap fH))(i0:0<=i)(i1:i<l.length)(gK:0<=j)(js:j<l.length)
  (h:∀u',aJ ai u' 68 3 s ((jO l i.toNat j.toNat).flatMap fH)->gO u u' s->K u'):C.LK s i j u K:=by
 have ag:=aa.fi
 have ae:=ag.len
 apply aG.LK
 obtain⟨p,ad,x,J,bJ,c1,c2⟩:=ag.at gK (show j<(s.n:o) by omega)
 obtain⟨q,aN,y,ah,d0,d1,d2⟩:=ag.at i0 (show i<(s.n:o) by omega)
 refine⟨p,ad,⟨gK,by omega⟩,q,aN,⟨i0,by omega⟩,_,bJ,_,c1,_,c2,_,d0,_,d1,_,d2,q,aN,⟨i0,by omega⟩,?_⟩
 refine aJ.store (enc:=fH) r0 aa (by decide) (i:=i.toNat) (by omega) (y:=x) (Fm x) aN λaU kv vG _=>⟨p,ad,⟨gK,by omega⟩,?_⟩
 refine aJ.store (enc:=fH) r0 kv (by decide) (i:=j.toNat) (by simp;omega) (y:=y) (Fm y) ad λdc dI ic _=>h dc ?_ (λb z ab al=>ic b z (vG b z ab al) al)
 have eO:i.toNat<l.length:=by omega
 have kK:j.toNat<l.length:=by omega
 have ex:l[j.toNat]=x:=by rw[cr kK] at J;exact cU J
 have vy:l[i.toNat]=y:=by rw[cr eO] at ah;exact cU ah
 rw[Im eO kK,ex,vy]
 exact dI
def hh(h:hn P f=ak):∃fn,P.funcs[f]?=some fn/\fn.body.isSome=ak:=ahb h
def aog:hn aH 320=ak:=by kernel_rfl
def aoh:hn aH 321=ak:=by kernel_rfl
def aol:hn aH 322=ak:=by kernel_rfl
def aoj:hn aH 324=ak:=by kernel_rfl
def CN.set{u':H}{bw:M bO}(h:CN ai n k u l)(ae:u n=some (.cells #[.int .i64 k,.slice s.a s.n s.c] 143 (0,0)))(ag:s.aj≠some n)
  (aa:aJ ai u' 68 3 s (bw.flatMap fH)) (he:gO u u' s) (ar:bw.length=l.length):CN ai n k u' bw:=
 ⟨⟨s,he _ _ ae ag,aa,ag⟩,h.out,by rw[ar];exact h.small⟩
def amy(ai:H)(n:N)(k:o):vl (ahF n) (CN ai n k) (λa b=>bD b a) where
 len:=by intro u l K h au;obtain⟨s,ae,aa,_⟩:=h.ex;refine⟨_,_,_,_,rfl,λw hw=>Y5 awn ae w hw,hh aog,aG.adW s u K ?_⟩;rw[aa.fi.len];exact au
 less:=by intro u l i j K h i0 i1 gK js au;obtain⟨s,ae,aa,_⟩:=h.ex;exact⟨_,_,_,_,rfl,λw hw=>Y5 awo ae w hw,hh aoh,spec.LJ aa.fi i0 i1 gK js au⟩
 swap:=by intro u l i j K h i0 i1 gK js au;obtain⟨s,ae,aa,al⟩:=h.ex;exact⟨_,_,_,_,rfl,λw hw=>Y5 awq ae w hw,hh aol,spec.LK aa i0 i1 gK js λu' bP he=>au u' (h.set ae al bP he (pw _ _ _))⟩
 small:=λh=>by have:=h.small;omega
def Y4:oQ (λa b:bO=>bD b a) where
 asymm:=λa b h=>JV h
 trans:=λa b c h k=>Ge k h
def an1(h:bO)(w:b7):(tp (.iface 68 (.agg #[.int .i64 h.1,.int .u64 (dk h.2),.int .u64 (dr h.2)])) 20 68 ak).run aH w=
  .ok (.tuple #[.agg #[.int .i64 h.1,.int .u64 (dk h.2),.int .u64 (dr h.2)],.bool ak]) w:=by kernel_rfl
def asB{K:H->Prop}(h:CN ai n k u l)(ar:l.length<1000000)(au:∀u',CN ai n k u' (l++ [x])->K u'):
  mX aH (ahF n) "Push" #[.iface 68 (.agg #[.int .i64 x.1,.int .u64 (dk x.2),.int .u64 (dr x.2)])] [] u K:=by
 obtain⟨s,ae,aa,al⟩:=h.ex
 obtain⟨i,m,h1,h2,h3,a7⟩:=BK awp
 obtain⟨dT,dA⟩:=AO
 refine⟨_,_,_,_,rfl,λw _=>by rw[dA];exact Lw h1 h2 h3 a7 amQ,hh aoj,?_⟩
 refine aG.adX (some ((cB n 0 none).add 1)) _ u K ?_
 refine dd.pure [.int .i64 x.1,.int .u64 (dk x.2),.int .u64 (dr x.2),.bool ak] (λw _=>?_) (.cons (t:=.int .i64) _ (.cons (t:=.int .u64) _ (.cons (t:=.int .u64) _ (.cons (t:=.bool) _ .nil)))) ?_
 exact an1 x w
 refine⟨λ_=>⟨_,rfl,s,by rw[Md];exact H.ba ae 1,?_⟩,λab=>by cases ab⟩
 refine Aa azy (aoB _ _ _) (by decide) rfl (by simp[cT]) aa (by have:=aa.fi.len;omega) (by have:=aa.fi.len;omega) λaq u' bP hW he hblk _=>⟨_,rfl,?_⟩
 have ft:=he _ _ ae al
 have lj:aq.aj≠some n:=λe=>by rcases hblk n e with h|h;exact al h;rw[ae] at h;cases h
 rw[Md]
 refine⟨_,_,ft,rfl,by simp,by simp[cT],au _ ⟨⟨aq,H.bh _ _ _,⟨?_,?_,bP.fresh⟩,lj⟩,h.out,by simp;omega⟩⟩
 rw[agd] at bP
 exact bP.own.le λb z ab b9=>by rw[H.bq _ _ (λe=>lj (by rw[ab,e]))];exact b9
 intro b z ab
 rw[H.bq _ _ (λe=>by rw[e,h.out] at ab;cases ab)]
 exact bP.le b z ab
def adx{t e:dJ}{size bytes:N}{zs:M ap}(aT:kH P t=some (e,size,bytes,zs))(eM:kG P t 0 #[]=some (e,[]))(cI:0<size)
  (ag:br u s size xs) (h1:∀y∈xs,y.oneCell'=ak) (ab:s.n*bytes<=140737488355328) {K:U->H->Prop} (au:∀aq u',aJ u u' e size aq xs->aq.n=s.n->K aq u'):
  dd P (dL t 0 #[]) [.one .slice] u λs0 aU=>dd P (ey #[t,t] t #[.slice s0.a s0.n s0.c,.slice s.a s.n s.c]) [.one .slice] aU K:=by
 refine mo eM λg W=>?_
 have h0:=aJ.make (k:=size) (H.le.refl u) W (cells:=#[]) (e:=e) (n:=0) (by omega) (by simp)
 have zd:=jg ag.cap ag.max
 refine adv aT cI h0.own (ag.mono (H.b1 _ W)) h1 (by simp only[k5];exact zd) (by simpa using ab) λaq u' aa ae mb _=>au aq u' ⟨by simpa using aa,mb.le h0.le h0.fresh,λb0 ca=>mb.out h0.le h0.fresh b0 ca⟩ (by simpa using ae)
def adu{size:N}(h:br u s size xs)(ae:s.a=none):xs=[]:=by rcases h.at' with h|⟨p,ad,_⟩;exact h;rw[ae] at ad;cases ad
def aoC:kG aH 38 0 #[]=some (68,[]):=by kernel_rfl
def aoE:kG aH 30 0 #[]=some (3,[]):=by kernel_rfl
def spec.H8(ag:kQ u s l)(ab:s.n<=1099511627776)(au:∀aq u',aJ u u' 68 3 aq (l.flatMap fH)->aq.n=s.n->K aq u'):C.H8 s u K:=by
 apply aG.H8;refine⟨λae=>?_,λ_=>adx amq aoC (by decide) ag ?_ (by omega) au⟩;have ar:=adu ag ae;have h4:s.n=0:=by have:=br.len ag;rw[ar] at this;simp at this;omega
 refine au _ _ ?_ h4.symm;rw[ar];exact aJ.nil (H.le.refl u) _ _;intro y ah;obtain⟨h,_,ah⟩:=ej.1 ah;exact Fm h y ah
def spec.iH{l:M o}(ag:Ints u s l)(ab:s.n<=1099511627776)(au:∀aq u',aJ u u' 3 1 aq (l.flatMap encI)->aq.n=s.n->K aq u'):C.iH s u K:=by
 have gr:br u s 1 (l.flatMap encI):=by rw[yU];exact ag
 apply aG.iH;refine⟨λae=>?_,λ_=>adx oN aoE (by decide) gr ?_ (by omega) au⟩;have ar:=adu gr ae;have h4:s.n=0:=by have:=br.len gr;rw[ar] at this;simp at this;omega
 refine au _ _ ?_ h4.symm;rw[ar];exact aJ.nil (H.le.refl u) _ _;intro y ah;obtain⟨h,_,ah⟩:=ej.1 ah;exact RX h y ah
def iJ(ai:H)(n:N)(k:o)(u:H)(S:M bO):Prop:=∃l,CN ai n k u l/\iB (λa b=>bD b a) l.length l/\l.Perm (eT k.toNat S)
def iJ.le(h:iJ ai n k u S):ai.le u:=by obtain⟨l,h,_,_⟩:=h;obtain⟨s,_,aa,_⟩:=h.ex;exact aa.le
def iJ.mono{u':H}(h:iJ ai n k u S)(hu:u.le u'):iJ ai n k u' S:=by obtain⟨l,h,h2,h3⟩:=h;obtain⟨s,ae,aa,al⟩:=h.ex;exact⟨l,⟨⟨s,hu _ _ ae,aa.mono hu,al⟩,h.out,h.small⟩,h2,h3⟩
def iJ.l3(h:iJ ai n k u S){m:N}(hm:u m=none)(z:Obj):iJ (ai.ins m z) n k (u.ins m z) S:=by
 obtain⟨l,h,h2,h3⟩:=h;obtain⟨s,ae,aa,al⟩:=h.ex;have rk:n≠m:=λe=>by rw[e,hm] at ae;cases ae
 exact⟨l,⟨⟨s,by rw[H.bq _ _ rk];exact ae,aa.l3 hm z,al⟩,by rw[H.bq _ _ rk];exact h.out,h.small⟩,h2,h3⟩
def aJ.xU{e k:N}(h:aJ ai u e k s xs){D:N}(eN:ai D=none)(ab:s.aj≠some D)(z:Obj):aJ ai (u.ins D z) e k s xs:=by refine⟨h.own.le λb x J oC=>?_,λb x J=>?_,h.fresh⟩;rw[H.bq _ _ (λe=>ab (by rw[J,e]))];exact oC;rw[H.bq _ _ (λe=>by rw[e,eN] at J;cases J)];exact h.le b x J
def iJ.perm{T:M bO}(h:iJ ai n k u S)(ad:S.Perm T):iJ ai n k u T:=by obtain⟨l,h1,h2,h3⟩:=h;exact⟨l,h1,h2,by rw[<-Ad ad];exact h3⟩
def spec.sy{K:ay bc->o->H->Prop}(di:k<1∨64<k->K none 1 u)(bE:1<=k->k<=64->∀n u',u.le u'->u n=none->iJ u n k u' []->K (some ⟨n,0,none⟩) 0 u'):C.sy k u K:=by apply aG.sy;refine⟨λh=>di (.inl h),λh=>⟨λh2=>di (.inr h2),λh2 n ae=>bE (by omega) (by omega) n _ (H.b1 _ ae) ae ?_⟩⟩;refine⟨[],⟨⟨⟨none,0,0⟩,H.bh _ _ _,aJ.nil (H.b1 _ ae) _ _,by simp[U.aj]⟩,ae,by simp⟩,λi _ hi=>by simp at hi,?_⟩;simp[eT,l4]
def spec.qW{K:aK->H->Prop}(h:iJ ai n k u S)(b3:1<=k)(cu:k<=64)(au:∀b u',iJ ai n k u' (x::S)->K b u'):
  C.qW (some ⟨n,0,none⟩) x.1 (dk x.2) (dr x.2) u K:=by
 obtain⟨l,dW,bU,ad⟩:=h
 obtain⟨s,ae,aa,al⟩:=dW.ex
 have hlen:=ad.length_eq
 rw[ys] at hlen
 have dw:=aa.fi.len
 apply aG.qW
 have ho:u.cell? ((cB n 0 none).add 1)=some (.slice s.a s.n s.c):=by rw[Md];exact H.ba ae 1
 refine⟨λJ=>(by cases J),λ_=>⟨_,rfl,_,rfl,s,ho,k,H.ba ae 0,λaBD=>⟨_,rfl,?_⟩,λgG=>?_⟩⟩
 refine spec.r7 (amy ai n k) Y4 (y:=x) bU (λnS=>asB dW (by omega) nS) λu' bw gr kx mc=>au ak u' ⟨bw,gr,mc,?_⟩
 have bl:S.length<k.toNat:=by omega
 obtain⟨t1,t2⟩:=azX (x:=x) bl
 exact kx.trans (mR _ _|>.trans ((kc x (ad.trans t2)).trans t1.symm))
 have hk:l.length=k.toNat:=by omega
 have bl:k.toNat<=S.length:=by omega
 obtain⟨p,gq,r,O,bJ,c1,c2⟩:=aa.fi.at (x:=0) (by omega) (by omega)
 obtain⟨t,rfl⟩:∃t,l=r::t:=by
  cases l with
  |nil=>simp at O|cons a t=>simp at O;subst O;exact⟨t,rfl⟩
 have kY:∀y∈r::t,bD r y=ax:=by intro y ah;obtain⟨i,hi,rfl⟩:=sn.1 ah;have:=iB.root Y4 bU i hi;simpa[du,cr hi] using this
 refine⟨_,rfl,s,ho,p,gq,⟨by omega,by omega⟩,_,bJ,_,c1,_,c2,spec.qX ⟨λab=>au ax u ⟨r::t,dW,bU,?_⟩,λab=>⟨_,rfl,s,ho,p,gq,⟨by omega,by omega⟩,?_⟩⟩⟩
 rw[adY bl λy ah=>Ge (kY y (ad.mem_iff.2 ah)) (by simpa using ab)]
 exact ad
 refine aJ.store (enc:=fH) r0 aa (by decide) (i:=0) (by simp) (y:=x) (Fm x) gq λaU kv vG _=>⟨_,rfl,?_⟩
 have auV:CN ai n k aU ((r::t).set 0 x):=dW.set ae al kv vG (by simp)
 refine spec.FQ (amy ai n k) Y4 auV (by simp) (by simpa using bU.apv (cA _) x) λu' bw gr kx mc=>au ak u' ⟨bw,gr,mc,?_⟩
 exact kx.trans (azU ad kY ab (by rw[ys];omega))
def spec.qV(h:iJ ai n k u S)(au:∀aq u',aJ u u' 68 3 aq ((eT k.toNat S).flatMap fH)->K aq u'):
  C.qV (some ⟨n,0,none⟩) u K:=by
 obtain⟨l,dW,bU,ad⟩:=h
 obtain⟨s,ae,aa,al⟩:=dW.ex
 have fB:=dW.small
 have dw:=aa.fi.len
 apply aG.qV
 have ho:u.cell? ((cB n 0 none).add 1)=some (.slice s.a s.n s.c):=by rw[Md];exact H.ba ae 1
 refine⟨λJ=>(by cases J),λ_=>⟨_,rfl,s,ho,spec.H8 aa.fi (by omega) λaq u' bP _=>?_⟩⟩
 refine spec.LD (cf:=I1) ape (enters_of Tryz.func82 (by kernel_rfl) rfl) api bP (by omega) λdc dI _=>au aq dc ?_
 rw[alX ad] at dI
 rw[<-adD (.refl _) (V0 _ _)] at dI
 exact dI
open Go.RowKit
def Pz(z:eI):aK:=match z.op with
 | .defer _=>ax|_=>ak
def mM:iP->aK
 | .skip=>ak| .seq a b=>mM a && mM b| .cond _ a b=>mM a && mM b| .block _ b=>mM b| .region _ ops _=>ops.toList.all Pz|_=>ax
def aw3{z:eI}(h:Pz z=ak):∀c,z.op≠.defer c:=λc I=>by unfold Pz at h;rw[I] at h;cases h
def aAt{ops:cw eI}{Q:k4->eo->b7->Prop}(aw:∀z∈ops.toList,Pz z=ak)(fb:¬LetsOut Q)(ro:ay N):∀(fO:N) (listed:cw aK) (a:eo) (w:b7),
  wpAny P .any ops Q fO listed a w->wpAnyIn (Fr ro) 0 P .any ops Q fO listed a w:=by
 intro fO
 induction fO with
 |zero=>intro listed a w h;exact h
 |succ fO aM=>
  intro listed a w h;refine⟨h.1,λi hi=>?_⟩;have h2:=h.2 i hi;unfold wpOp at h2;unfold wpOpIn;cases aa:ops[i]? with
  |none=>rw[aa] at h2;exact aM _ _ _ h2|some z=>rw[aa] at h2;simp only at h2 ⊢;split at h2;rename_i hw;rw[a1 hw];rcases h2 with h3|h3;exact Go.Oper.wpIn_mono (λa w h=>aM _ _ _ h) (wU ro (.inr (aw3 (aw z (by rw[Ht];exact UD aa)))) h3);exact aW h3.2 fb;rename_i hw;rw[aF hw];exact⟨λ_ _=>trivial,aM _ _ _ h2⟩
section
variable {C:lb} {bx:N->aK} {s:aO} {u:H} {bs:M N} {a:eo} {w:b7}
set_option maxHeartbeats 1000000 in
def RP(fy:Good C)(ro:ay N):∀(c:iP),mM c=ak->∀(p:N) (bx:N->aK) (Q:k4->aO->H->Prop) (s:aO) (u:H),hf C [] c p bx Q s u->
  ∀(bs:M N) (a:eo) (w:b7),Fits s bs u a w->c.wpIn (Fr ro) 0 C.P (mz bx s bs u a w (fr c) Q) a w:=by
 intro c
 induction c with
 |skip=>intro _ p bx Q s u h bs a w Z;exact wpIn_skip ⟨λ_=>rM,s,u,bs,h,Z,Step.refl Z.sub,Kept.refl _ _,λ_ _=>rfl⟩
 |region id ops bk=>
  intro lk p bx Q s u h bs a w Z;cases bk with
  |true=>
   simp only[mM,PV] at lk;simp only[hf] at h;split at h;rename_i oB;have Dm:Fits s bs u a {w with drawn:=w.drawn+1}:=⟨Z.toFitsE,Z.len,Z.loc,Z.nodup,Z.ch,Z.sub⟩;have hG:yB ops (D8 ops.size ax):=by
    intro j z _ aP;have:(D8 ops.size ax).getD j ax=ax:=by rw[BT,Array.getElem?_replicate];split<;>rfl
    rw[this] at aP;cases aP
   have sY:CE bx s bs u a {w with drawn:=w.drawn+1} (gC (fr (.region id ops ak))) (Q .normal) (λcO w'=>tt=.normal/\mz bx s bs u a w (fr (.region id ops ak)) Q .normal cO w'):=by intro aq u' c8 cO w' hk cF ag ja aE;exact⟨rfl,λ_=>rM,aq,u',c8,hk,cF,(Step.RW Z.sub (zO _)).trans ag,ja,aE⟩
   have b6:(Code.region id ops ak).wpIn (Fr ro) 0 C.P (λe cO w'=>e=.normal/\mz bx s bs u a w (fr (.region id ops ak)) Q .normal cO w') a w:=by refine wpIn_region_any fy.mixed (aAt lk (λar=>by obtain⟨_,_,h,_⟩:=ar;exact rM h) ro _ _ _ _ ?_);split at h;refine aes (nd:=rE ops) (S:=jy s.loc bs u) _ _ _ _ ?_;exact afJ fy (ds:=gC (fr (.region id ops ak))) (gx:=s.loc) (fG:=bs) oB (λc a w ad=>rM ad.1) (λz aa d aw=>I5 aa aw) _ _ _ s u h bs a _ _ Dm hG (by unfold left;simp) (λ_=>⟨H.le.refl u,rfl,rfl⟩) ⟨[],by simp⟩ sY;obtain⟨v0,zb,h⟩:=h;refine aet (R:=oS ops s.loc bs v0 u) _ _ _ _ ?_;exact afI fy (ds:=gC (fr (.region id ops ak))) (gx:=s.loc) (fG:=bs) zb oB (λc a w ad=>rM ad.1) (λz aa d aw=>I5 aa aw) _ _ _ s u h bs a _ _ Dm hG (by unfold left;simp) (λ_=>⟨H.le.refl u,rfl,rfl⟩) ⟨[],by simp⟩ sY
   exact yd b6 λe cO w' ⟨h1,h2⟩=>by rw[h1];exact h2
   exact h.elim
  |false=>simp only[mM,PV] at lk;simp only[hf] at h;refine wpIn_region_list (alM fy ro (ds:=gC (fr (.region id ops ax))) ops.toList s u bs a w h Z (.inr λz aa c I=>?_) (λz aa d aw=>I5 aa aw) ?_);have:=lk z aa;unfold Pz at this;rw[I] at this;cases this;intro aq u' c8 cO w' hk cF ag ja aE;exact⟨λ_=>rM,aq,u',c8,hk,cF,ag,ja,aE⟩
 |seq x y DN DO=>
  intro lk p bx Q s u h bs a w Z;have ox:∀d,gC (fr (.seq x y)) d=ax->gC (fr x) d=ax:=λd h=>by simp only[fr,DY,zM] at h;exact h.1
  have Dk:∀d,gC (fr (.seq x y)) d=ax->gC (fr y) d=ax:=λd h=>by simp only[fr,DY,zM] at h;exact h.2
  simp only[mM,pr] at lk;simp only[hf,Rw] at h;refine wpIn_seq (P6 ?_ (DN lk.1 _ _ _ s u h bs a w Z));intro e cO w' ad;obtain⟨al,aq,u',c8,aN,cF,ag,hk,aE⟩:=ad;cases e with
  |normal=>refine P6 ?_ (DO lk.2 _ _ _ aq u' aN c8 cO w' cF);intro aB a2 eA eY;exact mz.next ag hk (λd aw=>aE d (ox d aw)) (eY.mono Dk)
  |exit id=>exact⟨al,aq,u',c8,aN,cF,ag,hk,λd aw=>aE d (ox d aw)⟩|goto l=>exact⟨al,aq,u',c8,aN,cF,ag,hk,λd aw=>aE d (ox d aw)⟩|ret=>exact⟨al,aq,u',c8,aN,cF,ag,hk,λd aw=>aE d (ox d aw)⟩|panic c=>exact aW rfl (al c)|outgrown=>exact⟨al,aq,u',c8,aN,cF,ag,hk,λd aw=>aE d (ox d aw)⟩
 |cond c x y DN DO=>
  intro lk p bx Q s u h bs a w Z;simp only[mM,pr] at lk;have ox:∀d,gC (fr (.cond c x y)) d=ax->gC (fr x) d=ax:=λd h=>by simp only[fr,DY,zM] at h;exact h.1
  have Dk:∀d,gC (fr (.cond c x y)) d=ax->gC (fr y) d=ax:=λd h=>by simp only[fr,DY,zM] at h;exact h.2
  have J:∀(st:aO),a.eval c=.bool ak->Fits st bs u a w->(st.loc=s.loc/\st.n=s.n)->hf C [] x (2*p) bx Q st u->(Code.cond c x y).wpIn (Fr ro) 0 C.P (mz bx s bs u a w (fr (.cond c x y)) Q) a w:=by intro st I FW dw hw;refine wpIn_cond_true I (P6 ?_ (DN lk.1 _ _ _ st u hw bs a w FW));intro e cO w' ad;exact mz.next (Step.refl Z.sub) ⟨dw.2,by rw[dw.1];exact cA _,λi cs e _=>by rw[dw.1];exact e⟩ (λ_ _=>rfl) (ad.mono ox)
  have ah:∀(st:aO),a.eval c=.bool ax->Fits st bs u a w->(st.loc=s.loc/\st.n=s.n)->hf C [] y (2*p+1) bx Q st u->(Code.cond c x y).wpIn (Fr ro) 0 C.P (mz bx s bs u a w (fr (.cond c x y)) Q) a w:=by intro st I FW dw hw;refine wpIn_cond_false I (P6 ?_ (DO lk.2 _ _ _ st u hw bs a w FW));intro e cO w' ad;exact mz.next (Step.refl Z.sub) ⟨dw.2,by rw[dw.1];exact cA _,λi cs e _=>by rw[dw.1];exact e⟩ (λ_ _=>rfl) (ad.mono Dk)
  have iE:∀v,s.sv c=some v->∀t,c=.tmp t->(look s.env t).isSome=ak:=λv aA t ht=>by subst ht;simp only[aO.sv] at aA;rw[aA];rfl
  simp only[hf] at h;split at h;rename_i I;exact J s (cU (Z.sv I)).symm Z ⟨rfl,rfl⟩ h;rename_i I;exact ah s (cU (Z.sv I)).symm Z ⟨rfl,rfl⟩ h;rename_i q d I;have fh:=(cU (Z.sv I)).symm;by_cases aN:q;have aS:a.eval c=.bool ak:=by rw[fh];simp[aN]
  obtain⟨h1,h2⟩:=wO (x:=.jZ) Z (by rw[aS];rfl) (iE _ I);exact J _ aS h1 h2 (h.1 aN);have aS:a.eval c=.bool ax:=by rw[fh];simp[aN]
  obtain⟨h1,h2⟩:=wO (x:=.lU) Z (by rw[aS];rfl) (iE _ I);exact ah _ aS h1 h2 (h.2 aN);rename_i q d I;have fh:=(cU (Z.sv I)).symm;by_cases aN:q;have aS:a.eval c=.bool ax:=by rw[fh];simp[aN]
  obtain⟨h1,h2⟩:=wO (x:=.lU) Z (by rw[aS];rfl) (iE _ I);exact ah _ aS h1 h2 (h.2 aN);have aS:a.eval c=.bool ak:=by rw[fh];simp[aN]
  obtain⟨h1,h2⟩:=wO (x:=.jZ) Z (by rw[aS];rfl) (iE _ I);exact J _ aS h1 h2 (h.1 aN);rename_i b I;have fh:=(cU (Z.sv I)).symm;cases b with
  |true=>obtain⟨h1,h2⟩:=wO (x:=.jZ) Z (by rw[fh];rfl) (iE _ I);exact J _ fh h1 h2 (h.1 rfl)
  |false=>obtain⟨h1,h2⟩:=wO (x:=.lU) Z (by rw[fh];rfl) (iE _ I);exact ah _ fh h1 h2 (h.2 rfl)
  exact h.elim
 |block id b aM=>
  intro lk p bx Q s u h bs a w Z;simp only[mM] at lk;simp only[hf] at h;refine wpIn_block (P6 ?_ (aM lk _ _ _ s u h bs a w Z));intro e cO w' ad;obtain⟨al,aq,u',c8,aN,cF,ag,hk,aE⟩:=ad;cases e with
  |exit j=>simp only at aN;simp only[Exit.inBlock];split at aN;rename_i aP;have:=mh aP;subst this;rw[a1 rfl];exact⟨λ_=>rM,aq,u',c8,aN,cF,ag,hk,aE⟩;rename_i aP;rw[aF (λe=>by subst e;rw[Nat.beq_refl] at aP;cases aP)];exact⟨al,aq,u',c8,aN,cF,ag,hk,aE⟩
  |normal=>exact⟨al,aq,u',c8,aN,cF,ag,hk,aE⟩|goto l=>exact⟨al,aq,u',c8,aN,cF,ag,hk,aE⟩|ret=>exact⟨al,aq,u',c8,aN,cF,ag,hk,aE⟩|panic c=>exact aW rfl (al c)|outgrown=>exact⟨al,aq,u',c8,aN,cF,ag,hk,aE⟩
 |label l=>intro h;simp[mM] at h
 |ret=>intro h;simp[mM] at h
 |exit id=>intro h;simp[mM] at h
 |goto l=>intro h;simp[mM] at h
 |refuse r=>intro h;simp[mM] at h
 |rangeFunc f c7 x y=>intro h;simp[mM] at h
 |scope b aM=>intro h;simp[mM] at h
 |loop b aM=>intro h;simp[mM] at h
end
def Iter{α:Type}(P:dY)(fv:ap)(enc:α->ap)(xs:M α)(u:H):Prop:=
 ∀(mu:ap) (cV:N->H->Prop),(∀i v,cV i v->u.le v)->
  (∀i y v (K:aK->H->Prop),xs[i]?=some y->cV i v->(∀b8,cV (i+1) b8->K ak b8)->Ak P mu #[enc y] [.one .bool] v K)->
  ∀v (K:H->Prop),cV 0 v->(∀b8,cV xs.length b8->K b8)->hY P fv #[mu] [] v K
def CL(P:dY)(n:N)(assign body:iP)(env:M (N×ap))(x:N)(y:ap)(v:H)(cV:H->Prop):Prop:=
 ∀l a w,a.tmps.size=n->(∀p∈env,p.1≠x->a.tmps[p.1]?=some p.2)->a.tmps[x]?=some y->a.defers=[]->Sub v w->
  assign.wpIn (Fr (some l)) 0 P (Exit.then (λac gj=>∃v1,Step v [] w v1 [] gj/\∀eA,Sub v1 eA->
   body.wpIn (Fr (some l)) 0 P (λe _ hL=>e=.normal/\∃v2,cV v2/\Step v1 [] eA v2 [] hL) ac eA) (λ_ _ _=>eh)) a w
def H.Kt{v:H}(h:u.le v)(b:N)(z:Obj):(u.ins b z).le (v.ins b z):=by intro x y e;unfold H.ins at e ⊢;split at e;rename_i J;rw[a1 J];exact e;rename_i J;rw[aF J];exact h x y e
def nf.intro{α:Type}{t x:N}{assign body:iP}{K:N->H->Prop}{enc:α->ap}{xs:M α}{fv:ap}{ub:H}(b9:ub.le u)
  (Z:∀f args w,(∃fn,P.funcs[f]?=some fn/\fn.body.isSome=ak)->(p0 f args).run P w=.ok (.enter f args) w) (W:(t,fv)∈env) (J:x<n)
  (iM:∀ai,ub.le ai->Iter P fv enc xs ai) (cV:N->H->Prop) (h0:cV 0 u) (hle:∀i v,cV i v->ub.le v)
  (Nr:∀i y v,xs[i]?=some y->cV i v->CL P n assign body env x (enc y) v (cV (i+1)))
  (au:∀v D,cV xs.length v->v D=none->K D (v.ins D (.deferred (some [])))):nf P (.rangeFunc (.tmp t) #[x] assign body) n env u K:=by
 intro a w cI s4 Nv gJ
 refine(PZ (n:=0)).1 (wpIn_rangeFunc ?_)
 intro fn _
 have fh:a.eval (.tmp t)=fv:=by simp only[Act.eval];rw[BT,s4 _ W];rfl
 obtain⟨rec,mJ⟩:∃rec:LoopState->Loop,rec=λst=>{state:=st,pending:=none,fn,tmps:=a.tmps,params:=#[x],assign,body,defers:=w.heap.size}:=⟨_,rfl⟩
 obtain⟨iW,jT⟩:∃iW,(w.alloc (.deferred (some []))).alloc (.loop (rec .ready))=iW:=⟨_,rfl⟩
 have ai3:iW.heap.size=w.heap.size+2:=by rw[<-jT];simp
 have Nf:iW.heap[w.heap.size+1]?=some (.loop (rec .ready)):=by rw[<-jT];have:=Lg (w.alloc (.deferred (some []))) (.loop (rec .ready));rwa[D7] at this
 have FC:iW.heap[w.heap.size]?=some (.deferred (some [])):=by rw[<-jT];exact(Below.heap_alloc _ _ _ (by simp)).trans (Lg w _)
 have hold:∀b,b<w.heap.size->iW.heap[b]?=w.heap[b]?:=λb ab=>by rw[<-jT];exact(Below.heap_alloc _ _ _ (by simp;omega)).trans (Below.heap_alloc _ _ _ ab)
 have xC:u (w.heap.size+1)=none:=gJ.none (by omega)
 have Db:u w.heap.size=none:=gJ.none (cA _)
 have NS:ub (w.heap.size+1)=none:=by
  cases J:ub (w.heap.size+1) with
  |none=>rfl|some z=>rw[b9 _ _ J] at xC;cases xC
 have OW:ub.le (ub.ins (w.heap.size+1) (.loop (rec .ready))):=H.b1 _ NS
 have OM:Sub (u.ins (w.heap.size+1) (.loop (rec .ready))) iW:=by intro b z ab;unfold H.ins at ab;split at ab;rename_i eu;subst eu;cases ab;exact Nf;have:=gJ b z ab;have bD:=gJ.lt ab;rw[hold b bD];exact this
 have hG:=iM _ OW (.func (.yield (w.heap.size+1)) #[] #[])
  (λi v=>∃v0,v=v0.ins (w.heap.size+1) (.loop (rec .ready))/\v0 (w.heap.size+1)=none/\v0 w.heap.size=none/\cV i v0)
  (λi v ⟨v0,aA,_,_,aP⟩=>by rw[aA];exact H.Kt (hle i v0 aP) _ _)
  (by
   rintro i y v fZ ah ⟨v0,rfl,lh,ue,aP⟩ nS;refine⟨_,rfl,λbd gl=>?_⟩;have xz:bd.heap[w.heap.size+1]?=some (.loop (rec .ready)):=gl _ _ (H.bh _ _ _);have bD:w.heap.size+1<bd.heap.size:=(ya.1 xz).1;have nq:(Instr.yield (w.heap.size+1) #[enc y]).run P bd=.ok (.round (w.heap.size+1) fn (a.tmps.setIfInBounds x (enc y)) assign body) bd:=by have:=run_yield (P:=P) (args:=#[enc y]) xz (by rw[mJ];rfl);rw[mJ] at this;simpa using this
   have ON:Sub v0 bd:=gl.mono (H.b1 _ lh);refine⟨fn,_,assign,body,nq,acU trivial ?_⟩;refine yd (Nr i y v0 ah aP (w.heap.size+1) _ bd ?_ ?_ ?_ rfl ON) ?_;simpa using cI;intro p ad Gr;show(a.tmps.setIfInBounds x (enc y))[p.1]?=_;rw[HD (dz Gr)];exact s4 p ad;show(a.tmps.setIfInBounds x (enc y))[x]?=_;rw[UP];simp[cI,J];intro e ac gj ad;cases e with
   |normal=>
    obtain⟨v1,dO,ab⟩:=ad;have Dr:gj.heap[w.heap.size+1]?=some (.loop (rec .ready)):=(dO.rest _ bD lh (by simp)).trans xz;have xB:w.heap.size+1<gj.heap.size:=(ya.1 Dr).1;have gn:v1 (w.heap.size+1)=none:=dO.jq _ bD lh;have AT:v1 w.heap.size=none:=dO.jq _ (by omega) ue;refine⟨_,run_beginRound Dr (by rw[mJ]),yd (ab _ ?_) ?_⟩;intro b z gP;have al:b≠w.heap.size+1:=λe=>by rw[e,gn] at gP;cases gP
    exact(ml al).trans (dO.sub b z gP);rintro e a2 hL ⟨rfl,v2,ri,dB⟩;have NR:(gj.putObj (w.heap.size+1) (.loop {rec .ready with state:=.busy})).heap[w.heap.size+1]?=some (.loop {rec .ready with state:=.busy}):=Hy xB;have s6:hL.heap[w.heap.size+1]?=some (.loop {rec .ready with state:=.busy}):=(dB.rest _ (by simpa using xB) gn (by simp)).trans NR;have NV:w.heap.size+1<hL.heap.size:=(ya.1 s6).1;have h4:v2 (w.heap.size+1)=none:=dB.jq _ (by simpa using xB) gn;have pK:=run_endRound (P:=P) none s6;have MJ:({{rec .ready with state:=LoopState.busy} with state:=if(none:ay iP).isNone then .ready else .done,pending:=none}:Loop)=rec .ready:=by rw[mJ];rfl
    rw[MJ] at pK;refine⟨_,_,pK,.bool ak,v2.ins (w.heap.size+1) (.loop (rec .ready)),rfl,⟨[.bool ak],.cons (t:=.bool) ak .nil,rfl,?_⟩,?_⟩;exact nS _ ⟨v2,rfl,h4,dB.jq _ (by have:=dO.size;simp;omega) AT,ri⟩;refine⟨λb z gP=>?_,dB.os.trans dO.os,dB.tape.trans dO.tape,dB.output.trans dO.output,jg dO.drawn dB.drawn,?_,λb ab fc _=>?_,λb ab fc=>?_,[],by simp,by simp⟩;unfold H.ins at gP;split at gP;rename_i eu;subst eu;cases gP;exact Hy NV;rename_i eu;rw[ml eu];exact dB.sub b z gP;have h1:=dO.size;have h2:=dB.size;simp at h2 ⊢;omega;have al:b≠w.heap.size+1:=λe=>by rw[e,H.bh] at fc;cases fc
    rw[H.bq _ _ al] at fc;have hU:b<gj.heap.size:=KX ab dO.size;rw[ml al,dB.rest b (by simpa using hU) (dO.jq b ab fc) (by simp),ml al];exact dO.rest b ab fc (by simp);have al:b≠w.heap.size+1:=λe=>by rw[e,H.bh] at fc;cases fc
    rw[H.bq _ _ al] at fc ⊢;exact dB.jq b (by have:=dO.size;simp;omega) (dO.jq b ab fc)
   |_=>exact ad.elim)
  _ (λb8=>∃v0,b8=v0.ins (w.heap.size+1) (.loop (rec .ready))/\v0 (w.heap.size+1)=none/\v0 w.heap.size=none/\cV xs.length v0) ⟨u,rfl,xC,Db,h0⟩ (λ_ h=>h)
 obtain⟨xe,Da,cap,FX,AW,hG⟩:=hG
 rw[FX] at fh
 refine⟨w.heap.size+1,[{target:=.collected w.heap.size,args:=#[]}],iW,{target:=.fn (.func xe) cap,args:=Da++ #[.func (.yield (w.heap.size+1)) #[] #[]]},iW,xe,
  Da++ #[.func (.yield (w.heap.size+1)) #[] #[]]++cap,iW,?_,?_,λ_ _=>trivial,?_,λh=>by simp[uV] at h,?_⟩
 rw[<-jT,mJ];exact acV _ _ _ _ _
 simp only[resolve,fh]
 simp[go_sem]
 simp[invoke,go_sem,Z xe _ _ AW]
 refine PY.2 ((hG iW OM).mono ?_)
 rintro e hL ⟨v,u',rfl,⟨vs,hk,rfl,I⟩,ag⟩
 cases hk
 obtain⟨v0,rfl,lh,ue,aP⟩:∃v0:H,u'=v0.ins (w.heap.size+1) (.loop (rec .ready))/\v0 (w.heap.size+1)=none/\v0 w.heap.size=none/\cV xs.length v0:=I
 have s6:hL.heap[w.heap.size+1]?=some (.loop (rec .ready)):=ag.sub _ _ (H.bh _ _ _)
 have M7:hL.heap[w.heap.size]?=some (.deferred (some [])):=by rw[ag.rest _ (by omega) (by rw[H.bq _ _ (by omega)];exact Db) (by simp)];exact FC
 have pK:(Instr.endLoop (w.heap.size+1)).run P hL=.ok none (hL.putObj (w.heap.size+1) (.loop {rec .ready with state:=.exhausted})):=by have:=run_endLoop (P:=P) s6 (by rw[mJ];simp);rw[this];rw[mJ]
 refine⟨none,_,pK,rfl,rfl,w.heap.size,_,?_,au v0 w.heap.size aP ue,?_⟩
 simp[Nv,Mq]
 have uB:=ag.size
 refine⟨λb z gP=>?_,?_,?_,?_,?_,by simp;omega,λb ab fc _=>?_,λb ab fc=>?_,[],by simp,by simp⟩
 unfold H.ins at gP
 split at gP
 rename_i eu;subst eu;cases gP
 rw[ml (by omega)];exact M7
 have al:b≠w.heap.size+1:=λe=>by rw[e,lh] at gP;cases gP
 rw[ml al]
 exact ag.sub b z (by rw[H.bq _ _ al];exact gP)
 exact ag.os.trans (by rw[<-jT];rfl)
 exact ag.tape.trans (by rw[<-jT];rfl)
 exact ag.output.trans (by rw[<-jT];rfl)
 exact jg (by rw[<-jT];exact cA _) ag.drawn
 have al:b≠w.heap.size+1:=by omega
 rw[ml al,ag.rest b (by omega) (by rw[H.bq _ _ al];exact fc) (by simp)]
 exact hold b ab
 have al:b≠w.heap.size+1:=by omega
 have:=ag.jq b (by omega) (by rw[H.bq _ _ al];exact fc)
 rw[H.bq _ _ al] at this
 rw[H.bq _ _ (by omega)];exact this
def CL.of{C:lb}(fy:Good C){assign body:iP}{x:N}{y:ap}{v:H}{cV:H->Prop}(aE:mM assign=ak)(ab:mM body=ak)
  (Fp:M (N×fF)) (s4:∀p∈Fp,∃Y,hj [] p.2=some Y/\((p.1=x/\Y=y)∨p.1≠x/\(p.1,Y)∈env))
  (h:hf C [] assign 1 (λ_=>ak) (λe s u=>e=.normal/\s.loc=[]/\hf C [] body 1 (λ_=>ak) (λe _ u=>e=.normal/\cV u) s u) {n:=n,env:=Fp,loc:=[]} v):
  CL C.P n assign body env x y v cV:=by
 intro l a w cI he J aw ag
 have Z:Fits {n:=n,env:=Fp,loc:=[]} [] v a w:=by refine⟨⟨aw,cI,λp ad=>?_⟩,rfl,λi cs e=>by simp at e,by simp,by simp,ag⟩;obtain⟨Y,h1,h2⟩:=s4 p ad;refine⟨Y,h1,?_⟩;rcases h2 with⟨h3,rfl⟩|⟨h3,a7⟩;rw[h3];exact J;exact he _ a7 h3
 refine yd (RP fy (some l) assign aE 1 _ _ _ v h [] a w Z) ?_
 rintro e ac gj ⟨_,aq,u',c8,⟨rfl,uv,eG⟩,cF,dW,_,_⟩
 have ko:c8=[]:=by have:=cF.len;rw[uv] at this;simpa using this
 subst ko
 refine⟨u',dW,λeA Km=>?_⟩
 have ie:Fits aq [] u' ac eA:=⟨cF.toFitsE,cF.len,λi cs e=>by rw[uv] at e;simp at e,by simp,by simp,Km⟩
 refine yd (RP fy (some l) body ab 1 _ _ aq u' eG [] ac eA ie) ?_
 rintro e a2 hL ⟨_,s2,dc,IW,⟨rfl,aP⟩,FT,aaB,_,_⟩
 exact⟨rfl,dc,aP,aaB.forget⟩
def zZ:iP->iP
 | .rangeFunc _ _ x _=>x|_=>.skip
def z1:iP->iP
 | .rangeFunc _ _ _ x=>x|_=>.skip
def nf.code{c:iP}{t x:N}{K:N->H->Prop}(I:c=.rangeFunc (.tmp t) #[x] (zZ c) (z1 c))(h:nf P (.rangeFunc (.tmp t) #[x] (zZ c) (z1 c)) n env u K):nf P c n env u K:=by rw[I];exact h
end
section
variable{u ai:H}{l:M az}{m e fO:N}{t:U}{bd:b7}{T:dJ}{v:ap}{d:o}{f:o->o->o}
def Zp(h:bO):ap:=.agg #[.int .i64 h.1,.int .u64 (dk h.2),.int .u64 (dr h.2)]
def aob:hn aH 75=ak:=by kernel_rfl
def ate{s:U}{q:M o}(ag:en u s l)(ht:Ints u t q)(bE:kk l q){n0 b4:N}(bJ:u.cell? ⟨n0,0,none⟩=some (.slice s.a s.n s.c))(c1:u.cell? ⟨b4,0,none⟩=some (.slice t.a t.n t.c)):
  Iter aH (.func (.func 75) #[] #[.pointer (some ⟨n0,0,none⟩),.pointer (some ⟨b4,0,none⟩)]) Zp (l.map (hp q)) u:=by
 intro mu cV kW OB v K h0 au
 refine⟨_,_,_,rfl,hh aob,?_⟩
 have e:(#[]++ #[mu]++ #[hy (some ⟨n0,0,none⟩),.pointer (some ⟨b4,0,none⟩)]:cw ap)=#[mu,.pointer (some ⟨n0,0,none⟩),.pointer (some ⟨b4,0,none⟩)]:=by simp
 rw[e]
 have ae:=ag.len
 have y6:=bE.rows.an
 refine aG.XN mu ⟨n0,0,none⟩ ⟨b4,0,none⟩ v K ⟨s,H.qo (kW _ _ h0) bJ,λi w=>0<=i/\i<=(s.n:o)/\cV i.toNat w,λi _=>s.n-i.toNat,⟨by omega,by omega,h0⟩,?_⟩
 rintro i w ⟨i0,i1,aP⟩
 have hle:=kW _ _ aP
 refine⟨λhi=>?_,λhi=>au _ ?_⟩
 obtain⟨p,ad,r,O,d0,d1,aA⟩:=(ag.mono hle).at i0 hi
 have hq:=dK O
 obtain⟨ar,avh⟩:=bE.rows.v r hq
 refine⟨p,ad,⟨i0,hi⟩,_,d0,_,d1,t,H.qo hle c1,spec.lD aA (ht.mono hle) avh (by omega) bE.Wk (by omega) λx y J ah hw=>?_⟩
 have ex:x=dk (hp q r).2:=by rw[<-show fl x y=(hp q r).2 from hw,Zl ah]
 have vy:y=dr (hp q r).2:=by rw[<-show fl x y=(hp q r).2 from hw,abW ah]
 subst ex;subst vy
 refine .inr (OB i.toNat (hp q r) w _ (by rw[iR,O];rfl) aP λb8 hs=>⟨λh=>aW rfl h,λ_=>⟨⟨by have:=ag.max;omega,by have:=ag.max;omega⟩,⟨by omega,by omega,?_⟩,by dsimp only;omega⟩⟩)
 rw[show(i+1).toNat=i.toNat+1 by omega]
 exact hs
 rw[de]
 have:i.toNat=l.length:=by omega
 rw[<-this];exact aP
def W4:∀f args w,(∃fn,aH.funcs[f]?=some fn/\fn.body.isSome=ak)->(p0 f args).run aH w=.ok (.enter f args) w:=
 λ_ args w h=>RM (nR [] ax (ou:=[]) (oG:=[]) (part:=ax)) h args w
abbrev QR:iP:=Lv (Tryz.f22.body.getD Go.Code.skip)
def azT:QR=.rangeFunc (.tmp 34) #[35] (zZ QR) (z1 QR):=by kernel_rfl
def azY(n9:N)(y:bO)(v:H)(cV:H->Prop)(env:M (N×ap))(he:(9,hy (some ⟨n9,0,none⟩))∈env)
  (h:∀m,v m=none->H.aO (v.ins m (.cells #[.int .i64 0,.int .u64 0,.int .u64 0] 68 (0,0))) ⟨m,0,none⟩ [.int .i64 y.1,.int .u64 (dk y.2),.int .u64 (dr y.2)] λaU=>tt=tt/\([]:M (M ap))=[]/\
   ∃p:ay bc,aU.cell? ⟨n9,0,none⟩=some (.pointer p)/\∃dC:o,aU.cell? ⟨m,0,none⟩=some (.int .i64 dC)/\∃x2:o,aU.cell? ((cB m 0 none).add 1)=some (.int .u64 x2)/\∃kh:o,aU.cell? ((cB m 0 none).add 2)=some (.int .u64 kh)/\
    C.qW p dC x2 kh aU λ_ dc=>tt=tt/\cV dc):
  CL aH 41 (zZ QR) (z1 QR) env 35 (Zp y) v cV:=
 CL.of (C:={P:=aH,exp:=[11],wrap:=ax,ik:=ik}) (nR _ _) (by kernel_rfl) (by kernel_rfl) [(35,.v (Zp y)),(9,.ptr ⟨n9,0,none⟩)] (by intro p ad;rcases cJ.1 ad with rfl|ad;exact⟨_,rfl,.inl ⟨rfl,rfl⟩⟩;rcases cJ.1 ad with rfl|ad;exact⟨_,rfl,.inr ⟨show(9:N)≠35 by decide,he⟩⟩;cases ad) (p3 (by kernel_rfl) h)
def azh{y:bO}{f:H->Prop}(Z:f (u.ins m (.cells (fH y).toArray T (0,0)))):
  H.aO (u.ins m (.cells #[.int .i64 0,.int .u64 0,.int .u64 0] T (0,0))) ⟨m,0,none⟩ [.int .i64 y.1,.int .u64 (dk y.2),.int .u64 (dr y.2)] f:=
 mT (zs:=[.int .i64 0,.int .u64 0,.int .u64 0]) rfl (by simp[cT]) Z
def ao5{y:bO}:(u.ins m (.cells (fH y).toArray T (0,0))).cell? ⟨m,0,none⟩=some (.int .i64 y.1)/\(u.ins m (.cells (fH y).toArray T (0,0))).cell? ((cB m 0 none).add 1)=some (.int .u64 (dk y.2))/\
  (u.ins m (.cells (fH y).toArray T (0,0))).cell? ((cB m 0 none).add 2)=some (.int .u64 (dr y.2)):=by
 rw[jh,jh]
 refine⟨?_,?_,?_⟩<;>(rw[H.ao2];rfl)
def ao3{z:Obj}{a:bc}(h:u.cell? a=some v)(hm:u m=none):(u.ins m z).cell? a=some v:=H.qo (H.b1 _ hm) h
def azK{α β:Type}(f:α->β)(l:M α)(i:N)(y:β)(h:(l.map f)[i]?=some y):(l.map f).take (i+1)=(l.map f).take i++ [y]:=by rw[gS,h];rfl
def tG(l:M az)(q:M o)(k:o):o:=if asked l q≠0 then asked l q else if k<1∨64<k then 1 else 0
def spec.xd{s:U}{q:M o}{k:o}{K:U->o->H->Prop}(ag:en u s l)(ht:Ints u t q)
  (di:tG l q k≠0->K ⟨none,0,0⟩ (tG l q k) u) (bE:kk l q->1<=k->k<=64->∀aq u',aJ u u' 68 3 aq ((eT k.toNat (l.map (hp q))).flatMap fH)->K aq 0 u'):C.xd s t k u K:=by
 apply aG.xd
 refine spec.AM ag ht ⟨λal=>?_,λhe=>?_⟩
 have:tG l q k=asked l q:=a1 al
 rw[this] at di;exact di al
 have Gu:=CP.1 he
 have pS:k<1∨64<k->tG l q k=1:=λh=>by unfold tG;rw[aF (by simpa using he),a1 h]
 intro pA qu
 refine⟨λh1=>?_,λh1=>⟨λh2=>?_,λh2=>qu ⟨none,0,0⟩ _ _ ?_⟩⟩
 rw[pS (.inl h1)] at di;exact di (by decide)
 rw[pS (.inr h2)] at di;exact di (by decide)
 clear qu pA
 refine spec.sy (λh=>by omega) λb3 cu n aU hr gp OR n9 uy=>mT (zs:=[.pointer none]) rfl (by simp[cT]) ?_
 refine⟨λh=>aW rfl h,λ_=>?_⟩
 apply aG.R7
 intro n0 eX b4 N5
 have an7:aU.ins n9 (bC [hy (some ⟨n,0,none⟩)].toArray 90 (0,0))=aU.ins n9 (bC #[hy (some ⟨n,0,none⟩)] 90 (0,0)):=rfl
 rw[an7] at eX N5 ⊢
 generalize auc:bC #[hy (some ⟨n,0,none⟩)] 90 (0,0)=wh at eX N5 ⊢
 generalize at7:bC #[ec s.a s.n s.c] 22 (0,0)=fK at N5 ⊢
 generalize aua:bC #[ec t.a t.n t.c] 30 (0,0)=eH
 have GC:=((OR.l3 uy wh).l3 eX fK).l3 N5 eH
 have aCi:aU.le (aU.ins n9 wh):=H.b1 _ uy
 have au8:u n9=none:=hr.none uy
 have rv:(u.ins n9 wh) n0=none:=(H.Kt hr n9 wh).none eX
 have aaQ:((u.ins n9 wh).ins n0 fK) b4=none:=(H.Kt (H.Kt hr n9 wh) n0 fK).none N5
 have lub:u.le (((u.ins n9 wh).ins n0 fK).ins b4 eH):=((H.b1 _ au8).trans (H.b1 _ rv)).trans (H.b1 _ aaQ)
 have ahj:(((u.ins n9 wh).ins n0 fK).ins b4 eH) n9=some wh:=(H.b1 _ aaQ) _ _ ((H.b1 _ rv) _ _ (H.bh _ _ _))
 have bJ:(((u.ins n9 wh).ins n0 fK).ins b4 eH).cell? ⟨n0,0,none⟩=some (.slice s.a s.n s.c):=by refine ao3 ?_ aaQ;rw[<-at7];exact H.ba (H.bh _ _ _) 0
 have c1:(((u.ins n9 wh).ins n0 fK).ins b4 eH).cell? ⟨b4,0,none⟩=some (.slice t.a t.n t.c):=by rw[<-aua];exact H.ba (H.bh _ _ _) 0
 generalize (((u.ins n9 wh).ins n0 fK).ins b4 eH)=ub at GC lub ahj bJ c1
 have ahq:∀w,ub.le w->w.cell? ⟨n9,0,none⟩=some (.pointer (some ⟨n,0,none⟩)):=λw hw=>by have:=hw _ _ ahj;rw[<-auc] at this;exact H.ba this 0
 refine nf.code azT (nf.intro (t:=34) GC.le W4 (by simp) (by decide) (λw hw=>ate (ag.mono (lub.trans hw)) (ht.mono (lub.trans hw)) Gu (H.qo hw bJ) (H.qo hw c1))
  (λi w=>iJ ub n k w ((l.map (hp q)).take i).reverse) GC (λi v aP=>aP.le) ?_ ?_)
 intro i y v ah aP
 refine azY n9 y v _ _ (by simp) λm hm=>azh ⟨rfl,rfl,?_⟩
 obtain⟨d0,d1,d2⟩:=ao5 (u:=v) (m:=m) (y:=y) (T:=68)
 have lX:=aP.mono (H.b1 (u:=v) (b:=m) (bC (fH y).toArray 68 (0,0)) hm)
 refine⟨_,ahq _ lX.le,_,d0,_,d1,_,d2,spec.qW lX b3 cu λb u' ri=>⟨rfl,?_⟩⟩
 rw[azK _ _ _ _ ah,List.reverse_append]
 exact ri
 intro v D aP eN
 have hle:=H.b1 (u:=v) (b:=D) (yc (some [])) eN
 have lX:=aP.mono hle
 refine⟨_,ahq _ lX.le,spec.qV lX λaq u' aa=>⟨aa.le _ _ (H.bh _ _ _),bE Gu b3 cu aq _ ?_⟩⟩
 have ab:aq.aj≠some D:=λe=>by have:=aa.fresh D e;rw[H.bh] at this;cases this
 have dI:=aa.weaken (lub.trans lX.le)
 rw[de,hR (by simp),Ad (List.reverse_perm _)] at dI
 exact dI.xU ((lub.trans aP.le).none eN) ab _
def within(R:o)(l:M bO):M bO:=l4 (l.filter λh=>decide (h.2<=R))
def Il{n:N}{mL:ap}{f:H->Prop}(ae:u n=some (.cells #[mL] T (0,0)))(h1:v.oneCell'=ak)(Z:f (u.ins n (.cells #[v] T (0,0)))):H.aO u ⟨n,0,none⟩ [v] f:=
 ⟨_,_,ae,rfl,by simp,by simp[h1],Z⟩
def AB(x:o):kG aH 30 1 #[(0,.int .i64 x)]=some (3,[.int .i64 x]):=by kernel_rfl
def axg{k:N}{s:U}{xs:M ap}{b:N}{l:M o}(h:aJ ai u e k s xs)(ab:tR u b l):s.aj≠some b:=by
 intro J;obtain⟨es,c,YQ,_⟩:=ab;rcases h.own.is with h0|⟨g,cur,aE,W,_⟩;rw[h0] at J;simp[U.aj] at J;have:g=b:=by simpa[U.aj,aE] using J
 rw[this,YQ] at W;cases W
def VU{i:N}{r:az}(h:l[i]?=some r):(l.take (i+1)).map (·.id)=(l.take i).map (·.id)++ [r.id]:=by rw[gS,h];simp
def spec.Ct{s:U}{K:U->o->H->Prop}(ag:en u s l)(bE:hD l d)(au:∀aq u',aJ u u' 3 1 aq ((dQ (l.map (·.id))).flatMap encI)->K aq 0 u'):C.Ct s d u K:=by
 have ae:=ag.len;have hlen:=bE.len;apply aG.Ct;refine⟨λh=>by omega,λ_=>adz λb ab ky=>?_⟩;refine⟨λ_ _ ob i v=>0<=i/\i<=(s.n:o)/\tR v b ((l.take i.toNat).map (·.id))/\aJ u v 3 1 ob (((l.take i.toNat).map (·.id)).flatMap encI),λ_ _ _ i _=>s.n-i.toNat,
  ⟨by omega,by omega,by simpa using ky,aJ.nil (H.b1 _ ab) _ _⟩,?_⟩
 rintro qQ tK ob i v ⟨i0,i1,ky,aa⟩;refine⟨λhi=>?_,λhi=>?_⟩;obtain⟨p,ad,r,O,bJ,c1,aA⟩:=(ag.mono aa.le).at i0 hi;have hq:=dK O;have ch:=bE.id r hq;obtain⟨zi,GK⟩:=bE.v r hq;have oz:r.id∉(l.take i.toNat).map (·.id):=by have bS:=bE.nodup;have gJ:((l.take (i.toNat+1)).map (·.id)).Nodup:=List.Nodup.sublist (acW _ (rN _ _)) bS;rw[VU O] at gJ;exact λhm=>(gh.1 gJ).2.2 _ hm _ (by simp) rfl
 have uI:gV r.v d=0:=by rw[<-zi];exact zG GK (by have:=bE.an;omega)
 refine⟨p,ad,⟨i0,hi⟩,_,bJ,_,c1,λaAS arb=>⟨λh=>by omega,λ_=>⟨λh=>by omega,λ_=>ady H7 ky ⟨λh=>aW (by simpa using h) oz,λ_=>arb _ _ _ ?_⟩⟩⟩⟩;refine spec.iA aA ⟨λh=>aW uI h,λ_=>Vw H7 ky oz λb8 OI o6 jU=>?_⟩;have al:=axg aa ky;have bP:aJ u b8 3 1 ob (((l.take i.toNat).map (·.id)).flatMap encI):=
  ⟨aa.own.le λg z W avg=>o6 g z avg (λe=>al (by rw[W,e])),λg z W=>o6 g z (aa.le g z W) (λe=>by rw[e,ab] at W;cases W),aa.fresh⟩
 have qy:=bP.ints.len;simp only[de,gZ] at qy;refine oc oN (AB _) (by decide) rfl (by simp[cT]) bP (by omega) (by omega) λaq u' dI ft eC eu _=>⟨⟨by omega,by omega⟩,⟨by omega,by omega,?_,?_⟩,by dsimp only;omega⟩;rw[show(i+1).toNat=i.toNat+1 by omega,VU O];obtain⟨es,c,h1,h2⟩:=OI;exact⟨es,c,eC _ _ h1 al,h2⟩;rw[show(i+1).toNat=i.toNat+1 by omega,VU O,hz];exact dI;have qw:i.toNat=l.length:=by omega
 rw[qw,mQ] at aa;exact spec.rQ aa (by simp;omega) λu' bP _=>au ob u' bP
def lp(acc v:M o):M o:=lO (λa x=>if x<a then x else a) acc v
def lq(acc v:M o):M o:=lO (λa x=>if x>a then x else a) acc v
def mD(l:M az):M o:=l.foldl (λacc r=>lp acc r.v) (l.headD ⟨0,⟨none,0,0⟩,[]⟩).v
def mC(l:M az):M o:=l.foldl (λacc r=>lq acc r.v) (l.headD ⟨0,⟨none,0,0⟩,[]⟩).v
def wV{a v:M o}(h:a.length=v.length):(lO f a v).length=a.length:=by simp[h]
def Wt{a v:M o}(h:a.length=v.length){j:N}(aP:j<a.length):
  ((lO f a v).take j++a.drop j).set j (f (a.getD j 0) (v.getD j 0))=(lO f a v).take (j+1)++a.drop (j+1):=by
 have aC:=wV (f:=f) h
 have XV:a.getD j 0=a[j]:=by rw[du,cr aP];rfl
 have atg:j<v.length:=by omega
 have aqF:v.getD j 0=v[j]:=by rw[du,cr atg];rfl
 rw[XV,aqF,List.set_append_right _ _ (by simp;omega)]
 have e:j-((lO f a v).take j).length=0:=by simp;omega
 rw[e,wo aP,P2,gS,cr (by rw[aC];exact aP)]
 simp
def Ws{a v:M o}(h:a.length=v.length){j:N}(aP:j<a.length):((lO f a v).take j++a.drop j).getD j 0=a.getD j 0:=by
 have aC:=wV (f:=f) h;rw[du,K2 (by simp;omega)];have e:j-((lO f a v).take j).length=0:=by simp;omega
 rw[e,uX,du];simp
def agh{f:M o->M o->M o}(Z:∀a v:M o,a.length=v.length->(f a v).length=a.length):∀(l:M az) (a:M o),(∀r∈l,r.v.length=a.length)->(l.foldl (λacc r=>f acc r.v) a).length=a.length:=by
 intro l;induction l with
 |nil=>intro a _;rfl
 |cons r l aM=>intro a h;have h1:=Z a r.v (h r (by simp)).symm;rw[Lh,aM _ (λx J=>by rw[h1];exact h x (by simp[J])),h1]
def agi{f:M o->M o->M o}{i:N}{r:az}{a:M o}(h:l[i]?=some r):(l.take (i+1)).foldl (λacc r=>f acc r.v) a=f ((l.take i).foldl (λacc r=>f acc r.v) a) r.v:=by rw[gS,h];simp
def aJ.afO{s:U}{l:M o}(h:aJ ai u e 1 s (l.flatMap encI)){x:o}(h0:0<=x)(h1:x<(s.n:o)):∃p,s.a=some p/\u.cell? (p.add (x.toNat*1))=some (.int .i64 (l.getD x.toNat 0)):=h.ints.at h0 h1
def spec.Cs{s:U}{K:o->U->U->o->o->U->o->H->Prop}(ag:en u s l)(bE:hD l d)(al:l≠[])
  (au:∀bi aD jY u',aJ u u' 3 1 bi ((mD l).flatMap encI)->aJ u u' 3 1 aD ((mC l).flatMap encI)->aJ u u' 3 1 jY ((dQ (l.map (·.id))).flatMap encI)->
   bi.aj≠aD.aj->bi.aj≠jY.aj->aD.aj≠jY.aj->K 2 bi aD 0 0 jY 0 u'):C.Cs s d u K:=by
 have ae:=ag.len
 have hlen:=bE.len
 have y6:=bE.an
 have pa:0<l.length:=wx.2 al
 apply aG.Cs
 refine spec.yw ⟨λh=>aW (by simp;omega) h,λ_=>⟨λh=>by omega,λ_=>spec.Ct ag bE λjY nF Gz=>⟨λh=>aW rfl h,λ_=>?_⟩⟩⟩
 obtain⟨p,ad,r,O,bJ,c1,aA⟩:=(ag.mono Gz.le).at (x:=0) (by omega) (by omega)
 have ll:l[0]?=some r:=O
 have hq:=dK O
 have ahV:l.headD ⟨0,⟨none,0,0⟩,[]⟩=r:=by
  cases l with
  |nil=>simp at ll|cons a l=>simp at ll;simp[ll]
 have zi:=(bE.v r hq).1
 have OY:=aA.len
 refine⟨p,ad,⟨by omega,by omega⟩,p,ad,⟨by omega,by omega⟩,r.s,c1,r.s,c1,?_⟩
 refine spec.iH aA (by omega) λbi hJ td _=>⟨td.le,spec.iH (aA.mono td.le) (by omega) λaD gz fo _=>?_⟩
 have auR:=td.mono fo.le
 have aat:=fo.weaken td.le
 have pM:∀g,bi.aj=some g->aD.aj≠some g:=by
  intro g W gQ;have h1:=fo.fresh g gQ;rcases td.own.is with h0|⟨b0,cur,aE,ca,_⟩;rw[h0] at W;simp[U.aj] at W;have:b0=g:=by simpa[U.aj,aE] using W
  rw[this,h1] at ca;cases ca
 have dX:∀x∈l,x.v.length=r.v.length:=λx J=>by have:=(bE.v x J).1;omega
 have aj1:∀i,((l.take i).foldl (λacc r=>lp acc r.v) r.v).length=r.v.length:=λi=>agh (λa v h=>wV h) _ _ λx J=>dX x (oa J)
 have aj0:∀i,((l.take i).foldl (λacc r=>lq acc r.v) r.v).length=r.v.length:=λi=>agh (λa v h=>wV h) _ _ λx J=>dX x (oa J)
 refine⟨λi v=>0<=i/\i<=(s.n:o)/\aJ nF v 3 1 bi (((l.take i.toNat).foldl (λacc r=>lp acc r.v) r.v).flatMap encI)/\aJ nF v 3 1 aD (((l.take i.toNat).foldl (λacc r=>lq acc r.v) r.v).flatMap encI),
  λi _=>s.n-i.toNat,⟨by omega,by omega,by simpa using auR,by simpa using aat⟩,?_⟩
 rintro i v ⟨i0,i1,gn,F1⟩
 refine⟨λhi=>?_,λhi=>?_⟩
 obtain⟨q,aN,x,J,d0,d1,O3⟩:=(ag.mono (Gz.le.trans gn.le)).at i0 hi
 have GL:=dK J
 have eR:=dX x GL
 have TJ:=O3.len
 have LW:=aj1 i.toNat
 have Wr:=aj0 i.toNat
 have QF:=agi (f:=lp) (a:=r.v) J
 have alS:=agi (f:=lq) (a:=r.v) J
 generalize (l.take i.toNat).foldl (λacc r=>lp acc r.v) r.v=A at gn LW QF
 generalize (l.take i.toNat).foldl (λacc r=>lq acc r.v) r.v=B at F1 Wr alS
 refine⟨q,aN,⟨i0,hi⟩,_,d0,_,d1,λj w=>0<=j/\j<=(x.s.n:o)/\aJ nF w 3 1 bi (((lp A x.v).take j.toNat++A.drop j.toNat).flatMap encI)/\aJ nF w 3 1 aD (((lq B x.v).take j.toNat++B.drop j.toNat).flatMap encI),
  λj _=>x.s.n-j.toNat,⟨by omega,by omega,by simpa using gn,by simpa using F1⟩,?_⟩
 rintro j w ⟨gK,js,h4,y8⟩
 have aj4:∀k,((lp A x.v).take k++A.drop k).length=A.length:=λk=>by simp[lp];omega
 have aj3:∀k,((lq B x.v).take k++B.drop k).length=B.length:=λk=>by simp[lq];omega
 refine⟨λaP=>?_,λaP=>?_⟩
 have dw:=h4.ints.len
 have asX:=y8.ints.len
 rw[aj4] at dw
 rw[aj3] at asX
 obtain⟨axL,Gr,Xg⟩:=((ag.mono (Gz.le.trans h4.le)).2 x GL).at gK aP
 obtain⟨pl,lk,cl⟩:=h4.afO gK (by omega)
 obtain⟨akE,jc,I0⟩:=y8.afO gK (by omega)
 unfold lp at cl
 unfold lq at I0
 rw[Ws (a:=A) (v:=x.v) (by omega) (j:=j.toNat) (by omega)] at cl
 rw[Ws (a:=B) (v:=x.v) (by omega) (j:=j.toNat) (by omega)] at I0
 refine⟨axL,Gr,⟨gK,aP⟩,_,Xg,pl,lk,⟨gK,by omega⟩,akE,jc,⟨gK,by omega⟩,_,cl,_,I0,pl,lk,⟨gK,by omega⟩,?_⟩
 refine aJ.store (enc:=encI) nO h4 (by decide) (i:=j.toNat) (by rw[aj4];omega) (y:=if x.v.getD j.toNat 0<A.getD j.toNat 0 then x.v.getD j.toNat 0 else A.getD j.toNat 0) (RX _) lk λwR A4 Dl _=>⟨akE,jc,⟨gK,by omega⟩,?_⟩
 have ahT:=y8.else Dl h4.fresh pM
 refine aJ.store (enc:=encI) nO ahT (by decide) (i:=j.toNat) (by rw[aj3];omega) (y:=if x.v.getD j.toNat 0>B.getD j.toNat 0 then x.v.getD j.toNat 0 else B.getD j.toNat 0) (RX _) jc λV2 Ze asr _=>⟨⟨by omega,by omega⟩,⟨by omega,by omega,?_,?_⟩,by dsimp only;omega⟩
 have Zw:=A4.else asr ahT.fresh (λg W gQ=>pM g gQ W)
 rw[show(j+1).toNat=j.toNat+1 by omega]
 have:=Wt (f:=λa x=>if x<a then x else a) (a:=A) (v:=x.v) (by omega) (j:=j.toNat) (by omega)
 unfold lp at Zw ⊢
 rw[this] at Zw
 exact Zw
 rw[show(j+1).toNat=j.toNat+1 by omega]
 have:=Wt (f:=λa x=>if x>a then x else a) (a:=B) (v:=x.v) (by omega) (j:=j.toNat) (by omega)
 unfold lq at Ze ⊢
 rw[this] at Ze
 exact Ze
 have lX:j.toNat=x.v.length:=by omega
 refine⟨⟨by omega,by omega⟩,⟨by omega,by omega,?_,?_⟩,by dsimp only;omega⟩
 rw[show(i+1).toNat=i.toNat+1 by omega,QF]
 rw[lX,hR (by unfold lp;rw[wV (by omega)];omega),sl (by omega),ly] at h4
 exact h4
 rw[show(i+1).toNat=i.toNat+1 by omega,alS]
 rw[lX,hR (by unfold lq;rw[wV (by omega)];omega),sl (by omega),ly] at y8
 exact y8
 have qw:i.toNat=l.length:=by omega
 rw[qw,mQ] at gn F1
 have Fj:mD l=l.foldl (λacc r=>lp acc r.v) r.v:=by unfold mD;rw[ahV]
 have apH:mC l=l.foldl (λacc r=>lq acc r.v) r.v:=by unfold mC;rw[ahV]
 have aiZ:∀g,jY.aj=some g->nF g≠none:=by
  intro g W;rcases Gz.own.is with h0|⟨b0,cur,aE,ca,_⟩;rw[h0] at W;simp[U.aj] at W;have:b0=g:=by simpa[U.aj,aE] using W
  rw[<-this,ca];simp
 have iE:∀(adS:U) (L:M o),aJ nF v 3 1 adS (L.flatMap encI)->0<L.length->∃g,adS.aj=some g:=by intro adS L J cX;rcases J.own.is with h0|⟨g,cur,aE,_⟩;have:=J.ints.len;rw[h0] at this;simp at this;omega;exact⟨g,by simp[U.aj,aE]⟩
 have TE:0<r.v.length:=by omega
 have LW:=aj1 l.length
 have Wr:=aj0 l.length
 rw[mQ] at LW Wr
 obtain⟨MW,uq⟩:=iE bi _ gn (by rw[LW];exact TE)
 obtain⟨MV,ahP⟩:=iE aD _ F1 (by rw[Wr];exact TE)
 refine au bi aD jY v (by rw[Fj];exact gn.weaken Gz.le) (by rw[apH];exact F1.weaken Gz.le) (Gz.mono gn.le) ?_ ?_ ?_
 rw[uq];exact λe=>pM MW uq e.symm
 rw[uq];exact λe=>aiZ MW e.symm (gn.fresh MW uq)
 rw[ahP];exact λe=>aiZ MV e.symm (F1.fresh MV ahP)
def kF:kH aH 22=some (52,2,32,[.int .i64 0,.slice none 0 0]):=by kernel_rfl
def en.part{s:U}{L:M az}(ag:en u s L){l h:N}(h1:l<=h)(h2:h<=s.n)(h3:h<=m)(a7:m<=s.c):en u (s.part l h m 2) ((L.drop l).take (h-l)):=by refine⟨?_,λr O=>ag.2 r (ye (oa O))⟩;have:=br.part ag.1 h1 h2 h3 a7;rw[XM fI,yW fI] at this;exact this
def hD.sub{bw:M az}(h:hD l d)(ag:bw.Sublist l):hD bw d:=
 ⟨h.an,jg ag.length_le h.len,λr O=>h.id r (ag.mem O),h.nodup.sublist (ag.map _),λr O=>h.v r (ag.mem O)⟩
def kk.sub{bw:M az}{q:M o}(h:kk l q)(ag:bw.Sublist l):kk bw q:=⟨h.Wk,h.rows.sub ag⟩
def aff(a b c:U)(x y Y:o):kG aH 39 1 #[(0,.agg #[.int .i64 x,.slice a.a a.n a.c,.slice b.a b.n b.c,.int .u64 y,.int .u64 Y,.slice c.a c.n c.c])]=
  some (102,[.int .i64 x,.slice a.a a.n a.c,.slice b.a b.n b.c,.int .u64 y,.int .u64 Y,.slice c.a c.n c.c]):=by kernel_rfl
structure Wu(ai u:H)(aD ss sr:U)(gI:M bO)(seen:M o)(rest:M az):Prop where
 h:aJ ai u 68 3 aD (gI.flatMap fH)
 s:aJ ai u 3 1 ss (seen.flatMap encI)
 ag:∀g,aD.aj=some g->ss.aj≠some g
 r:(rest=[]/\sr=⟨none,0,0⟩)∨rest≠[]/\sr.n=1/\∃a b c:U,aJ ai u 102 6 sr [.int .i64 2,.slice a.a a.n a.c,.slice b.a b.n b.c,.int .u64 0,.int .u64 0,.slice c.a c.n c.c]/\
  aJ ai u 3 1 a ((mD rest).flatMap encI)/\aJ ai u 3 1 b ((mC rest).flatMap encI)/\aJ ai u 3 1 c ((dQ (rest.map (·.id))).flatMap encI)/\
  a.aj≠b.aj/\a.aj≠c.aj/\b.aj≠c.aj/\(∀x∈[a,b,c],∀g,x.aj=some g->aD.aj≠some g/\ss.aj≠some g/\sr.aj≠some g)/\(∀g,sr.aj=some g->aD.aj≠some g/\ss.aj≠some g)
def Ac(l:M az)(q:M o)(k b:o):o:=if asked l q≠0 then asked l q else if k<1∨64<k∨b<0∨1000000<b then 1 else 0
def dE{k:N}{s:U}{xs:M ap}(h:aJ ai u e k s xs){g:N}(W:s.aj=some g):u g≠none:=by
 rcases h.own.is with h0|⟨b0,cur,aE,ca,_⟩;rw[h0] at W;simp[U.aj] at W;have:b0=g:=by simpa[U.aj,aE] using W
 rw[<-this,ca];simp
def spec.C8{s:U}{q:M o}{k b:o}{K:U->U->U->o->H->Prop}(ag:en u s l)(ht:Ints u t q)
  (di:Ac l q k b≠0->K ⟨none,0,0⟩ ⟨none,0,0⟩ ⟨none,0,0⟩ (Ac l q k b) u)
  (bE:kk l q->1<=k->k<=64->0<=b->b<=1000000->∀aD ss sr u',u.le u'->Wu u u' aD ss sr (eT k.toNat ((l.take b.toNat).map (hp q))) (dQ ((l.take b.toNat).map (·.id))) (l.drop b.toNat)->K aD ss sr 0 u'):
  C.C8 s t k b u K:=by
 have ae:=ag.len
 apply aG.C8
 refine spec.AM ag ht ⟨λal=>?_,λhe=>?_⟩
 have:Ac l q k b=asked l q:=a1 al
 rw[this] at di;exact di al
 have aN:=CP.1 he
 have hlen:=aN.rows.len
 have NA:k<1∨64<k∨b<0∨1000000<b->K ⟨none,0,0⟩ ⟨none,0,0⟩ ⟨none,0,0⟩ 1 u:=λh=>by
  have:Ac l q k b=1:=by unfold Ac;rw[aF (by simpa using he),a1 h]
  rw[this] at di;exact di (by decide)
 intro pA qu
 have bad:(k<1∨64<k∨b<0∨1000000<b)->pA ak u:=λh=>qu _ _ ⟨λ_=>NA h,λab=>by cases ab⟩
 refine⟨λh1=>bad (.inl h1),λh1=>⟨λh2=>bad (.inr (.inl h2)),λh2=>⟨λh3=>bad (.inr (.inr (.inl h3))),λh3=>qu _ _ ⟨λab=>?_,λab=>?_⟩⟩⟩⟩
 have:1000000<b:=by simpa using ab
 exact NA (.inr (.inr (.inr this)))
 have a7:b<=1000000:=by
  have:¬1000000<b:=by simpa using ab
  omega
 clear bad NA qu pA
 have ir:s.n<=s.c:=br.cap ag.1
 have ZH:(if(s.n:o)<b then(s.n:o) else b)=((min s.n b.toNat:N):o):=by split<;>omega
 have Bo:l.take (min s.n b.toNat)=l.take b.toNat:=by rw[ae,List.take_eq_take_iff];omega
 have xo:l.drop (min s.n b.toNat)=l.drop b.toNat:=by rw[ae];rcases Nat.le_total l.length b.toNat with h|h;rw[Eb h,sl (cA _),sl h];rw[Nat.min_eq_right h]
 rw[ZH]
 refine oM (l:=0) (h:=min s.n b.toNat) (m:=s.c) kF (.inl ⟨rfl,rfl⟩) (.inr rfl) (.inl ⟨rfl,rfl⟩) (p2 _) (by omega) (cA _) ir ?_
 have OE:=ag.part (l:=0) (h:=min s.n b.toNat) (m:=s.c) (p2 _) (by omega) (by omega) (cA _)
 rw[UQ,Ed,Bo] at OE
 generalize zg:s.part 0 (min s.n b.toNat) s.c 2=lB at OE
 have atO:lB.n=min s.n b.toNat:=by rw[<-zg];rfl
 have aBL:=OE.len
 have auy:kk (l.take b.toNat) q:=aN.sub (rN _ _)
 have pS:tG (l.take b.toNat) q k=0:=by unfold tG;rw[aF (by simp[CP.2 auy]),aF (by omega)]
 refine spec.xd OE ht (λh=>aW pS h) λ_ b3 cu Qs py Bi=>?_
 refine⟨λi k7 Lx oK v=>0<=i/\i<=(lB.n:o)/\k7=Qs/\oK=⟨none,0,0⟩/\aJ py v 3 1 Lx ((((l.take b.toNat).take i.toNat).map (·.id)).flatMap encI),λi _ _ _ _=>lB.n-i.toNat,
  ⟨by omega,by omega,rfl,rfl,by simpa using aJ.nil (H.le.refl py) _ _⟩,?_⟩
 rintro i k7 Lx oK v ⟨i0,i1,apB,apC,aa⟩
 obtain rfl:k7=Qs:=apB
 obtain rfl:oK=⟨none,0,0⟩:=apC
 change aJ py v _ 1 Lx _ at aa
 refine⟨λhi=>?_,λhi=>?_⟩
 obtain⟨p,ad,r,O,bJ,c1,aA⟩:=(OE.mono (Bi.le.trans aa.le)).at i0 hi
 have qy:=aa.ints.len
 simp only[de,gZ] at qy
 refine⟨p,ad,⟨i0,hi⟩,_,bJ,_,c1,oc oN (AB _) (by decide) rfl (by simp[cT]) aa (by omega) (by omega) λaq u' dI ft eC eu _=>⟨⟨by omega,by omega⟩,⟨by omega,by omega,rfl,rfl,?_⟩,by dsimp only;omega⟩⟩
 rw[show(i+1).toNat=i.toNat+1 by omega,VU O,hz]
 exact dI
 have qw:i.toNat=(l.take b.toNat).length:=by omega
 rw[qw,mQ] at aa
 refine spec.rQ aa (by simp;omega) λmU nn _=>?_
 have aiv:lB.n<=s.n:=by omega
 refine oM (l:=lB.n) (h:=s.n) (m:=s.c) kF (.inr rfl) (.inl ⟨rfl,rfl⟩) (.inl ⟨rfl,rfl⟩) aiv ir (cA _) ir ?_
 have Ga:=Bi.le.trans nn.le
 have Ke:=(ag.mono Ga).part (l:=lB.n) (h:=s.n) (m:=s.c) aiv (cA _) ir (cA _)
 have tc:(l.drop lB.n).take (s.n-lB.n)=l.drop b.toNat:=by rw[hR (by simp;omega),atO,xo]
 rw[tc] at Ke
 have JY:=Ke.len
 generalize s.part lB.n s.n s.c 2=ha at Ke JY
 have aiX:∀g,k7.aj=some g->Lx.aj≠some g:=λg W gQ=>dE Bi W (nn.fresh g gQ)
 refine⟨λpa=>?_,λpa=>bE aN b3 cu (by omega) a7 k7 Lx _ mU Ga ⟨Bi.mono nn.le,nn.weaken Bi.le,aiX,.inl ⟨kN (by omega),rfl⟩⟩⟩
 have al:l.drop b.toNat≠[]:=λe=>by rw[e] at JY;simp at JY;omega
 have y6:=aN.rows.an
 have Gx:hD (l.drop b.toNat) (t.n:o):=by rw[ht.len];exact aN.rows.sub (HI _ _)
 refine spec.Cs Ke Gx al λbi aD jY l5 h1 h2 h3 b4 eb jI=>⟨λh=>aW rfl h,λ_=>?_⟩
 refine mo (aff bi aD jY 2 0 0) λg W=>?_
 have bK:=aJ.make (k:=6) (H.le.refl l5) W (cells:=[cY .i64 2,.slice bi.a bi.n bi.c,.slice aD.a aD.n aD.c,.int .u64 0,.int .u64 0,.slice jY.a jY.n jY.c].toArray) (e:=102) (n:=1) (by omega) (by simp)
 have Ta:=H.b1 (u:=l5) (b:=g) (bC [cY .i64 2,.slice bi.a bi.n bi.c,.slice aD.a aD.n aD.c,.int .u64 0,.int .u64 0,.slice jY.a jY.n jY.c].toArray 102 (0,0)) W
 have dX:mU.le (l5.ins g (bC [cY .i64 2,.slice bi.a bi.n bi.c,.slice aD.a aD.n aD.c,.int .u64 0,.int .u64 0,.slice jY.a jY.n jY.c].toArray 102 (0,0))):=h1.le.trans Ta
 refine bE aN b3 cu (by omega) a7 k7 Lx _ _ (Ga.trans dX) ⟨(Bi.mono nn.le).mono dX,(nn.weaken Bi.le).mono dX,aiX,.inr ⟨al,rfl,bi,aD,jY,bK.weaken (Ga.trans h1.le),(h1.weaken Ga).mono Ta,(h2.weaken Ga).mono Ta,(h3.weaken Ga).mono Ta,b4,eb,jI,?_,?_⟩⟩
 intro x J b0 ca
 have FY:mU b0=none/\l5 b0≠none:=by simp only[cJ,qL,qM] at J;rcases J with rfl|rfl|rfl;exact⟨h1.fresh b0 ca,dE h1 ca⟩;exact⟨h2.fresh b0 ca,dE h2 ca⟩;exact⟨h3.fresh b0 ca,dE h3 ca⟩
 refine⟨λe=>dE (Bi.mono nn.le) e FY.1,λe=>dE nn e FY.1,λe=>?_⟩
 have:g=b0:=by simpa[U.aj] using e
 rw[<-this] at FY
 exact FY.2 W
 intro b0 ca
 have:g=b0:=by simpa[U.aj] using ca
 subst this
 exact⟨λe=>dE ((Bi.mono nn.le).mono h1.le) e W,λe=>dE (nn.mono h1.le) e W⟩
structure Wv(u:H)(s t:U)(l:M az)(q:M o):Prop where
 rows:en u s l
 q:Ints u t q
 small:∀r∈l,r.v.length<=17592186044416
 VE:s.n<=17592186044416
def Wv.mono{u':H}{s:U}{q:M o}(h:Wv u s t l q)(k:u.le u'):Wv u' s t l q:=⟨h.rows.mono k,h.q.mono k,h.small,h.VE⟩
def kQ.part{s:U}{L:M bO}(ag:kQ u s L){l h:N}(h1:l<=h)(h2:h<=s.n)(h3:h<=m)(a7:m<=s.c):kQ u (s.part l h m 3) ((L.drop l).take (h-l)):=by have:=br.part ag h1 h2 h3 a7;rw[XM r0,yW r0] at this;exact this
open Go.ChangeShapes Go.WideShapes Go.ChangeAt Go.RowKit
def whole(bd:b7):H:=λb=>bd.heap[b]?
def Wp(bd:b7):Sub (whole bd) bd:=λ_ _ e=>e
def Wo(bd:b7)(a:bc):(whole bd).cell? a=bd.cell? a:=rfl
def Step.below{sG:b7}{u':H}{bs:M N}(h:Step (whole bd) [] bd u' bs sG)(k:(whole bd).le u'):Below bd.heap.size bd sG:=
 ⟨h.os,h.tape,h.output,h.size,λb ab=>by have:bd.heap[b]?=some bd.heap[b]:=x8 ab;rw[this];exact h.sub b _ (k b _ this)⟩
def IZ:aH.cellsOf 3=1:=by kernel_rfl
def W7:aH.cellsOf 30=1:=by kernel_rfl
def W8:aH.cellsOf 52=2:=by kernel_rfl
def ao4:aH.cellsOf 26=1:=by kernel_rfl
def aAZ:aH.cellsOf 66=2:=by kernel_rfl
def aoL:aH.bytesOf 3=8:=by kernel_rfl
def aoM:aH.bytesOf 52=32:=by kernel_rfl
section
variable {jz:Type} {enc:dJ×ap->jz}
def amY{P:dY}{e:dJ}{d:DataW jz}:∀{ds:M (DataW jz)} {i:N},ds[i]?=some d->∀n∈d.weights P e,n∈HJ P e ds:=by
 intro ds;induction ds with
 |nil=>intro i h;simp at h
 |cons x ds aM=>
  intro i h n ae;simp only[HJ,cN];cases i with
  |zero=>simp at h;subst h;exact .inl ae|succ i=>exact .inr (aM (by simpa using h) n ae)
def Hl{a:ay bc}{len cap:N}{x:DataW jz×M MemPlace}(h:p5 enc aH bd 0 (λ_=>ak) ak fO 30 [.slice a len cap]=some x)(hw:∀n∈x.1.weights aH 30,n<=qO):
  ∃q:M o,Ints (whole bd) ⟨a,len,cap⟩ q/\q.length<=17592186044416:=by
 have O:qO=140737488351232:=by decide
 rcases open_ints Tryz.underlying30 yf IZ h with⟨dD,_⟩|⟨p,l,c,zs,dD,_,ar,hm,aC,J,fS,aaZ⟩
 simp only[uZ,Li,rP] at dD
 obtain⟨rfl,rfl,rfl⟩:=dD
 exact⟨[],⟨rfl,cA _,by simp,.inl rfl⟩,by simp⟩
 simp only[uZ,Li,rP] at dD
 obtain⟨rfl,rfl,rfl⟩:=dD
 simp only[qI] at aC
 rw[Hd] at hm
 have bD:(zs.take len).length=len:=by simp;omega
 have ab:zs.length*8<=qO:=by have:=hw (zs.length*8) (by rw[J];simp only[HK,show aH.underlying 30=some (.slice 3) from Tryz.underlying30,cJ];left;rw[aoL];congr 1;simp[lits];omega);exact this
 refine⟨zs.take len,⟨by simp;omega,ar,hm,.inr ⟨p,rfl,λi v e=>?_⟩⟩,by omega⟩
 rw[iR] at e
 rw[Wo]
 have hi:i<len:=by rcases kC i len with k|k;exact k;rw[iy (by omega)] at e;simp at e
 rw[K3,a1 hi,cr (by omega)] at e
 simp only[tr,kb] at e
 subst e
 rw[fS i (by omega),du,cr (by omega)]
 rfl
instance:lN az:=⟨⟨0,⟨none,0,0⟩,[]⟩⟩
def cells_one{x:DataW jz×M MemPlace}(h:p5 enc aH bd 0 (λ_=>ak) ak fO 30 [v]=some x):∃s:U,v=.slice s.a s.n s.c:=by rcases open_ints Tryz.underlying30 yf IZ h with⟨dD,_⟩|⟨p,l,c,zs,dD,_⟩;exact⟨⟨none,0,0⟩,by simpa using dD⟩;exact⟨⟨some p,l,c⟩,by simpa using dD⟩
def Uo{a:ay bc}{len cap:N}{x:DataW jz×M MemPlace}(h:p5 enc aH bd 0 (λ_=>ak) ak fO 22 [.slice a len cap]=some x)(hw:∀n∈x.1.weights aH 22,n<=qO):
  ∃l:M az,en (whole bd) ⟨a,len,cap⟩ l/\(∀r∈l,r.v.length<=17592186044416)/\len<=17592186044416:=by
 have O:qO=140737488351232:=by decide
 rcases Deep.open_slice Tryz.underlying22 h with⟨dD,_⟩|⟨p,l,c,m,n,D,anI,dD,ab,ar,hm,xD,J,eC⟩
 simp only[uZ,Li,rP] at dD
 obtain⟨rfl,rfl,rfl⟩:=dD
 exact⟨[],⟨⟨rfl,cA _,by simp,.inl rfl⟩,λ_ h=>(by cases h)⟩,λ_ h=>(by cases h),by omega⟩
 simp only[uZ,Li,rP] at dD
 obtain⟨rfl,rfl,rfl⟩:=dD
 simp only[qI] at xD
 subst xD
 rw[Hd] at hm
 have O1:∀k,k∈(((lM len).map D).length+((lM (m-len)).map λj=>D (len+j)).length)*aH.bytesOf 52::(HJ aH 52 ((lM len).map D)++HJ aH 52 ((lM (m-len)).map λj=>D (len+j)))->k<=qO:=by intro k hk;refine hw k ?_;rw[J];simp only[HK,show aH.underlying 22=some (.slice 52) from Tryz.underlying22];exact hk
 have kp:len*32<=qO:=by
  have:=O1 _ (fW ..);rw[aoM] at this;simp at this;have e:len+(m-len)=m:=by omega
  omega
 have each:∀i,i<len->∃r:az,bd.cell? (p.add (i*2))=some (.int .i64 r.id)/\bd.cell? ((p.add (i*2)).add 1)=some (.slice r.s.a r.s.n r.s.c)/\Ints (whole bd) r.s r.v/\r.v.length<=17592186044416:=by
  intro i hi;obtain⟨yP,h1,h2⟩:=eC i (by omega);rw[W8] at h1;obtain⟨_,hlen,fS⟩:=World.cells?_some h1;obtain⟨iI,jx,k,hv,_,ai,aU⟩:=trod_struct2 UR h2
  match yP,hlen with
  | [v0,v1],_=>
   simp only[IZ,W7,Lj,List.take] at ai aU;obtain⟨q,e7,d0,_⟩:=yg yf ai;simp only[uZ,rP] at e7;subst e7;obtain⟨s,rfl⟩:=cells_one aU;have aaX:∀n∈jx.1.weights aH 30,n<=qO:=by intro n ae;refine O1 n (gi _ (iQ _ (amY (i:=i) (d:=D i) (by simp[hi]) n ?_)));have aq2:D i=.agg [iI.1,jx.1]:=(Prod.mk.inj hv).1;rw[aq2];simp only[HK,show aH.underlying 52=some _ from UR];simp only[gm,zT,DataW.weightsEach,cN];exact .inr (.inl ae)
   obtain⟨zs,aC,xT⟩:=Hl aU aaX;have bJ:=fS 0 (by omega);have c1:=fS 1 (by omega);exact⟨⟨q,s,zs⟩,bJ,c1,aC,xT⟩
 obtain⟨f,Z⟩:=Deep.choose_lt each
 have mI:((lM len).map f).length=len:=by simp
 refine⟨(lM len).map f,⟨⟨?_,ar,hm,.inr ⟨p,rfl,λj v e=>?_⟩⟩,λr O=>?_⟩,λr O=>?_,by omega⟩
 rw[nQ fI,mI]
 have aP:j<len*2:=by have:=(jM.1 e).1;rw[nQ fI,mI] at this;exact this
 have aS:j=j/2*2+j%2:=by omega
 have aw:j/2<len:=by omega
 rw[Wo]
 rw[aS,Jc fI _ _ _ (HH _ (by decide))] at e
 rw[iR,P7 aw] at e
 simp only[tr,PX] at e
 obtain⟨g0,g1,_,_⟩:=Z (j/2) aw
 rw[aS,<-Addr.Az]
 have vL:j%2=0∨j%2=1:=by omega
 rcases vL with vL|vL
 rw[vL] at e ⊢
 simp only[cR,BW,kb] at e
 subst e
 exact g0
 rw[vL] at e ⊢
 simp only[cR,x9,BW,kb] at e
 subst e
 exact g1
 obtain⟨i,hi,rfl⟩:=bf.1 O
 exact(Z i (by simpa using hi)).2.2.1
 obtain⟨i,hi,rfl⟩:=bf.1 O
 exact(Z i (by simpa using hi)).2.2.2
end
end
section
variable{u:H}{g:N}
section
variable {α:Type} {enc:α->M ap} {k:N}
def Hc(hk:∀x,(enc x).length=k)(rj:0<k)(a:α)(m:N):(ny (enc a).toArray (m*k)).toList=(fX m a).flatMap enc:=by
 apply sk;intro i;by_cases hi:i<m*k
 .have e:i=i/k*k+i%k:=by rw[US];exact(Nat.div_add_mod i k).symm
  have hm:i%k<k:=HH _ rj;have aw:i/k<m:=Nat.div_lt_of_lt_mul (by rw[US];exact hi);have O:((fX m a).flatMap enc)[i]?=(enc a)[i%k]?:=by
   conv=>lhs;rw[e]
   rw[Jc hk _ _ _ hm,Lk,a1 aw];rfl
  rw[O];have oy:i%k<(enc a).length:=by rw[hk];exact hm
  simp[ny,hi,hk,hm]
 rw[iy (by simp[size_madeCells];omega),iy (by rw[nQ hk];simp;omega)]
def aci(enc:α->M ap)(xs:M α)(T:dJ):Obj:=.cells (xs.flatMap enc).toArray T (0,0)
def age(hk:∀x,(enc x).length=k){xs e0:M α}{T:dJ}(W:u g=some (aci enc (xs++e0) T)){c:N}(I:xs.length<=c)(hm:c<=9223372036854775807):
  br u ⟨some ⟨g,0,none⟩,xs.length,c⟩ k (xs.flatMap enc):=by
 refine⟨nQ hk xs,I,hm,.inr ⟨_,rfl,λi v e=>?_⟩⟩
 rw[jh,k5,H.ba W,List.getElem?_toArray,hz,qJ ((jM.1 e).1)]
 exact e
end
def H.abg{z:Obj}(h:u g=some z):u.ins g z=u:=by funext x;unfold H.ins;split;rename_i J;rw[J,h];rfl
abbrev aj2(q:M o):Obj:=aci encI (q++ [-77]) 3
def awc{q:M o}(h:u g=some (aj2 q))(ab:q.length<=1000000):Ints u ⟨some ⟨g,0,none⟩,q.length,q.length+1⟩ q:=by have:=age nO h (c:=q.length+1) (by omega) (by omega);rw[yU] at this;exact this
def spec.Io{s t:U}{a b:M o}{K:aK->H->Prop}(ag:Ints u s a)(ht:Ints u t b)(h:K (decide (a=b)) u):C.Io s t u K:=by
 have key:∀Y,decide (a=b)=Y->K Y u:=λY e=>e▸h;have ae:=ag.len;have hm:=ht.len;have zd:=ag.max;apply aG.Io;refine⟨λal=>key _ ?_,λhe=>?_⟩;have:a≠b:=λe=>al (by rw[ae,hm,e]);simp[this];refine⟨λ_ i v=>v=u/\0<=i/\i<=(s.n:o)/\a.take i.toNat=b.take i.toNat,λ_ i _=>s.n-i.toNat,⟨rfl,by omega,by omega,by simp⟩,?_⟩;rintro _ i v ⟨rfl,h0,h1,ad⟩;refine⟨λhi=>?_,λhi=>key _ ?_⟩;obtain⟨p,gq,bJ⟩:=ag.at h0 hi;obtain⟨q,Gs,d0⟩:=ht.at h0 (show i<(t.n:o) by omega);have ajC:i.toNat<a.length:=by omega
 have ajD:i.toNat<b.length:=by omega
 have XV:a.getD i.toNat 0=a[i.toNat]:=by simp[du,ajC]
 have XW:b.getD i.toNat 0=b[i.toNat]:=by simp[du,ajD]
 refine⟨p,gq,⟨h0,hi⟩,q,Gs,⟨h0,by omega⟩,_,bJ,_,d0,λal=>key _ ?_,λhv=>⟨⟨by omega,by omega⟩,⟨rfl,by omega,by omega,?_⟩,by dsimp only;omega⟩⟩;have:a≠b:=λe=>al (by rw[e]);simp[this];rw[XV,XW] at hv;have aS:(i+1).toNat=i.toNat+1:=by omega
 rw[aS,gS,gS,ad,cr ajC,cr ajD,hv];have aS:i.toNat=a.length:=by omega
 rw[aS,mQ,<-ae,show s.n=b.length by omega,mQ] at ad;simp[ad]
def az.bz(r:az):o×M o:=(r.id,r.v)
abbrev ayk(ls:M az):Obj:=aci cR ls 52
structure L8(ai u:H)(g:N)(ls:M az):Prop where
 inner:∀r∈ls,∃h,r.s=⟨some ⟨h,0,none⟩,r.v.length,r.v.length+1⟩/\u h=some (aj2 r.v)/\ai h=none/\h≠g/\r.v.length<=1000000
 apart:ls.Pairwise λa b=>a.s.aj≠b.s.aj
def L8.else{ai u':H}{ls:M az}(h:L8 ai u g ls)(he:∀b z,b≠g->u b=some z->u' b=some z):L8 ai u' g ls:=
 ⟨λr O=>by obtain⟨x,h1,h2,h3,a7,bK⟩:=h.inner r O;exact⟨x,h1,he _ _ a7 h2,h3,a7,bK⟩,h.apart⟩
def L8.rws{ai:H}{ls ms:M az}(h:L8 ai u g ls)(W:u g=some (ayk (ls++ms))){c:N}(I:ls.length<=c)(hm:c<=9223372036854775807):en u ⟨some ⟨g,0,none⟩,ls.length,c⟩ ls:=
 ⟨age fI W I hm,λr O=>by obtain⟨x,h1,h2,_,_,bK⟩:=h.inner r O;rw[h1];exact awc h2 bK⟩
end
section
variable{l:M az}{q a b:M o}{k e:o}{s:U}{u u':H}
def IN(l:M o):Prop:=l.Pairwise (· <=·)
def IJ(l:M o):Prop:=l.Pairwise (· < ·)
def nE(l:M o):(dQ l).Perm l:=List.mergeSort_perm l _
def adE(l:M o):IN (dQ l):=by have:=List.pairwise_mergeSort (le:=λx y:o=>decide (x<=y)) (λa b c h1 h2=>by simp at*;omega) (λa b=>by simp;omega) l;exact this.imp λh=>by simpa using h
def Ab(l:M o):(dQ l).length=l.length:=(nE l).length_eq
def IN.eq(aE:IN a)(ab:IN b)(h:a.Perm b):a=b:=by
 induction a generalizing b with
 |nil=>exact(List.Perm.nil_eq h)|cons x a aM=>
  cases b with
  |nil=>exact aW h.length_eq (by simp)|cons y b=>
   have DL:=k6.1 aE;have ajw:=k6.1 ab;have hv:x=y:=by have h1:x∈y::b:=h.mem_iff.1 (fW ..);have h2:y∈x::a:=h.mem_iff.2 (fW ..);rcases cJ.1 h1 with e|h1;exact e;rcases cJ.1 h2 with e|h2;exact e.symm;have:=ajw.1 x h1;have:=DL.1 y h2;omega
   subst hv;rw[aM DL.2 ajw.2 (List.Perm.cons_inv h)]
def alZ(h:a.Perm b)(aE:IN a):a=dQ b:=aE.eq (adE b) (h.trans (nE b).symm)
def ay2(h:a.Perm b):dQ a=dQ b:=alZ ((nE a).trans h) (adE a)
def aCE(h:IN a):dQ a=a:=(alZ (.refl a) h).symm
def Eu{l:M o}(h:l.Nodup):IJ (dQ l):=by have h1:=adE l;have h2:(dQ l).Nodup:=(nE l).nodup_iff.2 h;exact(h1.and h2).imp λ⟨a,b⟩=>by omega
def alo{a b:M az}(ar:(l.map (·.id)).Nodup)(aE:∀r∈a,r∈l)(ab:∀r∈b,r∈l)(h:(a.map (·.id)).Perm (b.map (·.id))):a.Perm b:=by
 have inj:∀{l:M az},(l.map (·.id)).Nodup->∀r∈l,∀df∈l,r.id=df.id->r=df:=by
  intro l;induction l with
  |nil=>intro _ r O;cases O
  |cons x l aM=>intro ae r O df dG e;have h2:=hI.1 ae;rcases cJ.1 O with h1|h1;rcases cJ.1 dG with h3|h3;rw[h1,h3];exact(h2.1 (bf.2 ⟨df,h3,by rw[<-e,h1]⟩)).elim;rcases cJ.1 dG with h3|h3;exact(h2.1 (bf.2 ⟨r,h1,by rw[e,h3]⟩)).elim;exact aM h2.2 r h1 df h3 e
 let f:o->az:=λx=>(l.find? λr=>r.id==x).getD ⟨0,⟨none,0,0⟩,[]⟩
 have Z:∀r∈l,f r.id=r:=by
  intro r O;show(l.find? λdf=>df.id==r.id).getD _=r;cases xt:l.find? λdf=>df.id==r.id with
  |none=>exact aW (Ll.1 xt r O) (by simp)|some df=>have h1:=K8 xt;have h2:=K7 xt;exact inj ar df h2 r O (by simpa using h1)
 have hm:∀{c:M az},(∀r∈c,r∈l)->(c.map (·.id)).map f=c:=by
  intro c I;rw[ep]
  conv=>rhs;rw[<-List.map_id c]
  exact zU λr O=>Z r (I r O)
 have:=h.map f;rw[hm aE,hm ab] at this;exact this
def aqt{f:o->o->o}(Z:∀a x,(f a x<=a/\f a x<=x/\(f a x=a∨f a x=x))):∀(l:M az) (a:M o) (n:N),a.length=n->(∀r∈l,r.v.length=n)->
  (l.foldl (λacc r=>lO f acc r.v) a).length=n/\(∀i,i<n->(l.foldl (λacc r=>lO f acc r.v) a).getD i 0<=a.getD i 0/\(∀r∈l,(l.foldl (λacc r=>lO f acc r.v) a).getD i 0<=r.v.getD i 0)/\
   ((l.foldl (λacc r=>lO f acc r.v) a).getD i 0=a.getD i 0∨∃r∈l,(l.foldl (λacc r=>lO f acc r.v) a).getD i 0=r.v.getD i 0)):=by
 intro l
 induction l with
 |nil=>intro a n aE _;exact⟨aE,λi _=>⟨nA _,λr O=>(by cases O),.inl rfl⟩⟩
 |cons r l aM=>
  intro a n aE ar;have O:=ar r (by simp);have aC:(lO f a r.v).length=n:=by rw[List.length_zipWith,aE,O,UT]
  obtain⟨h1,h2⟩:=aM (lO f a r.v) n aC λx J=>ar x (by simp[J]);rw[Lh];refine⟨h1,λi hi=>?_⟩;have uK:(lO f a r.v).getD i 0=f (a.getD i 0) (r.v.getD i 0):=by
   have h3:i<a.length:=by omega
   have a7:i<r.v.length:=by omega
   simp[du,UU,cr h3,cr a7]
  obtain⟨g1,g2,g3⟩:=h2 i hi;obtain⟨f1,f2,f3⟩:=Z (a.getD i 0) (r.v.getD i 0);rw[uK] at g1 g3;refine⟨by omega,λx J=>?_,?_⟩;rcases cJ.1 J with rfl|J;omega;exact g2 x J;rcases g3 with g3|⟨x,J,g3⟩;rcases f3 with f3|f3;exact .inl (by rw[g3,f3]);exact .inr ⟨r,by simp,by rw[g3,f3]⟩;exact .inr ⟨x,by simp[J],g3⟩
def aqu{f:o->o->o}(Z:∀a x,(a<=f a x/\x<=f a x/\(f a x=a∨f a x=x))):∀(l:M az) (a:M o) (n:N),a.length=n->(∀r∈l,r.v.length=n)->
  (l.foldl (λacc r=>lO f acc r.v) a).length=n/\(∀i,i<n->a.getD i 0<=(l.foldl (λacc r=>lO f acc r.v) a).getD i 0/\(∀r∈l,r.v.getD i 0<=(l.foldl (λacc r=>lO f acc r.v) a).getD i 0)/\
   ((l.foldl (λacc r=>lO f acc r.v) a).getD i 0=a.getD i 0∨∃r∈l,(l.foldl (λacc r=>lO f acc r.v) a).getD i 0=r.v.getD i 0)):=by
 intro l
 induction l with
 |nil=>intro a n aE _;exact⟨aE,λi _=>⟨nA _,λr O=>(by cases O),.inl rfl⟩⟩
 |cons r l aM=>
  intro a n aE ar;have O:=ar r (by simp);have aC:(lO f a r.v).length=n:=by rw[List.length_zipWith,aE,O,UT]
  obtain⟨h1,h2⟩:=aM (lO f a r.v) n aC λx J=>ar x (by simp[J]);rw[Lh];refine⟨h1,λi hi=>?_⟩;have uK:(lO f a r.v).getD i 0=f (a.getD i 0) (r.v.getD i 0):=by
   have h3:i<a.length:=by omega
   have a7:i<r.v.length:=by omega
   simp[du,UU,cr h3,cr a7]
  obtain⟨g1,g2,g3⟩:=h2 i hi;obtain⟨f1,f2,f3⟩:=Z (a.getD i 0) (r.v.getD i 0);rw[uK] at g1 g3;refine⟨by omega,λx J=>?_,?_⟩;rcases cJ.1 J with rfl|J;omega;exact g2 x J;rcases g3 with g3|⟨x,J,g3⟩;rcases f3 with f3|f3;exact .inl (by rw[g3,f3]);exact .inr ⟨r,by simp,by rw[g3,f3]⟩;exact .inr ⟨x,by simp[J],g3⟩
def afa{d:o}(h:hD l d)(al:l≠[]):((mD l).length:o)=d/\((mC l).length:o)=d/\dj (mD l)/\dj (mC l)/\(∀i:N,(i:o)<d->(mD l).getD i 0<=(mC l).getD i 0)/\
  ∀r∈l,∀i:N,(i:o)<d->(mD l).getD i 0<=r.v.getD i 0/\r.v.getD i 0<=(mC l).getD i 0:=by
 obtain⟨x,bw,rfl⟩:∃x bw,l=x::bw:=by
  cases l with
  |nil=>exact aW rfl al|cons x bw=>exact⟨x,bw,rfl⟩
 have aw:=h.an
 have J:=h.v x (by simp)
 have dX:∀r∈x::bw,r.v.length=d.toNat:=λr O=>by have:=(h.v r O).1;omega
 obtain⟨ac,a2⟩:=aqt (f:=λa x=>if x<a then x else a) (λa x=>by split<;>omega) (x::bw) x.v d.toNat (dX x (by simp)) dX
 obtain⟨hE,fM⟩:=aqu (f:=λa x=>if x>a then x else a) (λa x=>by split<;>omega) (x::bw) x.v d.toNat (dX x (by simp)) dX
 have apJ:mD (x::bw)=(x::bw).foldl (λacc r=>lO (λa x=>if x<a then x else a) acc r.v) x.v:=rfl
 have apI:mC (x::bw)=(x::bw).foldl (λacc r=>lO (λa x=>if x>a then x else a) acc r.v) x.v:=rfl
 rw[<-apJ] at ac a2
 rw[<-apI] at hE fM
 have RQ:∀r∈x::bw,∀i,i<d.toNat->nj (r.v.getD i 0):=λr O i hi=>(h.v r O).2.2 i (by rw[dX r O];exact hi)
 refine⟨by omega,by omega,⟨by omega,λi hi=>?_⟩,⟨by omega,λi hi=>?_⟩,λi hi=>?_,λr O i hi=>⟨(a2 i (by omega)).2.1 r O,(fM i (by omega)).2.1 r O⟩⟩
 rcases(a2 i (by omega)).2.2 with e|⟨r,O,e⟩
 rw[e];exact RQ x (by simp) i (by omega)
 rw[e];exact RQ r O i (by omega)
 rcases(fM i (by omega)).2.2 with e|⟨r,O,e⟩
 rw[e];exact RQ x (by simp) i (by omega)
 rw[e];exact RQ r O i (by omega)
 have h1:=(a2 i (by omega)).1
 have h2:=(fM i (by omega)).1
 omega
def yE(l:M bO):Prop:=(l.map (·.1)).Nodup
def yE.perm{a b:M bO}(h:yE a)(ad:a.Perm b):yE b:=(ad.map _).nodup h
def yE.eT{k:N}{l:M bO}(h:yE l):yE (eT k l):=
 List.Nodup.sublist (acW _ (rN _ _)) (h.perm (vc l).symm)
def yE.eq{l:M bO}(h:yE l){a b:bO}(aE:a∈l)(ab:b∈l)(e:a.1=b.1):a=b:=by
 induction l with
 |nil=>cases aE
 |cons x l aM=>have h2:=hI.1 h;rcases cJ.1 aE with SG|aE;rcases cJ.1 ab with JD|ab;rw[SG,JD];exact aW (bf.2 ⟨b,ab,by show b.1=x.1;rw[<-e,SG]⟩) h2.1;rcases cJ.1 ab with JD|ab;exact aW (bf.2 ⟨a,aE,by show a.1=x.1;rw[e,JD]⟩) h2.1;exact aM h2.2 aE ab
def EU(u u':H)(l:M az)(q:M o)(k:o)(s:U)(e:o):Prop:=
 u.le u'/\((e=tG l q k/\e≠0/\s=⟨none,0,0⟩)∨(e=0/\tG l q k=0/\kk l q/\1<=k/\k<=64/\aJ u u' 68 3 s ((eT k.toNat (l.map (hp q))).flatMap fH)))
def azR:tG l q k=0↔kk l q/\1<=k/\k<=64:=by unfold tG;constructor;intro h;split at h;rename_i al;exact aW h al;rename_i he;split at h;cases h;exact⟨CP.1 (by simpa using he),by omega,by omega⟩;rintro⟨h1,h2,h3⟩;rw[aF (by simp[CP.2 h1]),aF (by omega)]
def spec.anP{t:U}{K:U->o->H->Prop}(ag:en u s l)(ht:Ints u t q)(h:∀aq e u',EU u u' l q k aq e->K aq e u'):C.xd s t k u K:=
 spec.xd ag ht (λal=>h _ _ u ⟨H.le.refl u,.inl ⟨rfl,al,rfl⟩⟩) λaN b3 cu aq u' aa=>h aq 0 u' ⟨aa.le,.inr ⟨rfl,azR.2 ⟨aN,b3,cu⟩,aN,b3,cu,aa⟩⟩
def EU.fi(h:EU u u' l q k s e):∃L,kQ u' s L/\L.length<=64/\(e=0->L=eT k.toNat (l.map (hp q)))/\(e≠0->L=[]):=by rcases h.2 with⟨_,h1,rfl⟩|⟨h0,_,_,_,cu,aa⟩;exact⟨[],(aJ.nil (H.le.refl u') 0 3).own.cE,by simp,λh=>aW h h1,λ_=>rfl⟩;exact⟨_,aa.fi,by rw[ys];omega,λ_=>rfl,λh=>aW h0 h⟩
def kk.Hj(h:kk l q):yE (l.map (hp q)):=by unfold yE;rw[ep];exact h.rows.nodup
def spec.azO{m:o}{K:o->H->Prop}(ag:en u s l)(ab:∀r∈l,r.v.length<=17592186044416)(ar:s.n<=17592186044416)(hm:m<=1000000)(h:∀x,(x<=m->∀r∈l,(r.v.length:o)<=m)->K x u):C.QP s m u K:=by
 have ae:=ag.len;apply aG.QP;refine⟨λx i v=>v=u/\0<=i/\i<=(s.n:o)/\0<=x/\∀r∈l.take i.toNat,(r.v.length:o)<=x,λ_ i _=>s.n-i.toNat,⟨rfl,by omega,by omega,by omega,λr O=>by simp at O⟩,?_⟩;rintro x i v ⟨rfl,i0,i1,bL,DK⟩;intro IG Js;refine⟨λhi=>⟨λJ=>Js _ ?_,λJ=>h x λh=>aW h J⟩,λhi=>h x λGL r O=>?_⟩;obtain⟨p,ad,r,O,bJ,c1,aA⟩:=ag.at i0 hi;have hq:=dK O;have:=ab r hq;have OY:=aA.len;refine⟨p,ad,⟨i0,hi⟩,_,c1,⟨by omega,by omega⟩,⟨by omega,by omega⟩,⟨rfl,by omega,by omega,by omega,λdf dG=>?_⟩,by dsimp only;omega⟩;rw[show(i+1).toNat=i.toNat+1 by omega,gS,O] at dG;rcases cN.1 dG with bQ|bQ;have:=DK df bQ;omega;obtain rfl:df=r:=by simpa using bQ
 omega;have:=DK r (by rw[hR (by omega)];exact O);omega
def axB{bw:M az}(h:l.map az.bz=bw.map az.bz):l.length=bw.length:=by simpa using ei iS h
def ah3{bw:M az}(h:l.map az.bz=bw.map az.bz):l.map (hp q)=bw.map (hp q):=by have e:hp q=(λp:o×M o=>((p.1,fE p.2 q p.2.length):bO))∘az.bz:=rfl;rw[e,<-ep,<-ep,h]
def EU.err(h:EU u u' l q k s e):e=tG l q k:=by rcases h.2 with⟨h1,_⟩|⟨h1,h2,_⟩<;>omega
def EU.else{jj:H}(h:EU u u' l q k s e)(he:∀b z,u b=none->u' b=some z->jj b=some z):
  ∃L,kQ jj s L/\(e=0->L=eT k.toNat (l.map (hp q)))/\(e≠0->L=[]):=by
 rcases h.2 with⟨_,h1,rfl⟩|⟨h0,_,_,_,_,aa⟩
 exact⟨[],(aJ.nil (H.le.refl jj) 0 3).own.cE,λh=>aW h h1,λ_=>rfl⟩
 exact⟨_,(aa.own.le (u':=jj) λb z ab hu=>he b z (aa.fresh b ab) hu).cE,λ_=>rfl,λh=>aW h0 h⟩
end
