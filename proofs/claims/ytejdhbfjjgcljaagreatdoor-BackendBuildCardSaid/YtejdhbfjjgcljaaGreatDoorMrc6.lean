/- Texts of mine, joined and packed by pack.py. -/
import Derived.Test.YtejdhbfjjgcljaaGreatDoorMrc5
import Derived.Laws.IdiomCopy
set_option linter.all false
open Go renaming Program->dR,Value->ao,World->b6,TypeId->dC,FuncId->ju,Addr->ba,madeCells->lO
open _root_ renaming Nat->N,List->J,Array->cu,Int->o,Bool->aI,absurd->a6
open Bool renaming true->ak,false->ax
open Go.Obj renaming cells->bA
open Go.Instr renaming sliceAt->fR
open Go.Builtin renaming append_->dW
open Go.Addr renaming add->ep,mk->cr
open Go.Proofs.Tryz renaming prog->aH
open Go.Value renaming int->cG,oneCell'->cF
open List.Pairwise renaming nil->mE
open List renaming zipWith->lc,replicate->eU,length->hR
open Prod renaming fst->pd,snd->pR
set_option maxRecDepth 100000
noncomputable section
namespace Go.Proofs.YtejdhbfjjgcljaaGreatDoor
open H
section
variable{u ai:H}{g i c:N}{T:dC}{q:J o}{s t:U}{K:aI->H->Prop}{ls:J av}
section
variable {α:Type} {enc:α->J ao} {k:N}
def AS(hk:∀x,(enc x).length=k)(q3:0<k)(a:α)(m:N):(lO (enc a).toArray (m*k)).toList=(eU m a).flatMap enc:=by
 apply r1;intro i;by_cases hi:i<m*k
 .have e:i=i/k*k+i%k:=by rw[Td];exact(Nat.div_add_mod i k).symm
  have hm:i%k<k:=N4 _ q3;have aw:i/k<m:=Nat.div_lt_of_lt_mul (by rw[Td];exact hi);have O:((eU m a).flatMap enc)[i]?=(enc a)[i%k]?:=by
   conv=>lhs;rw[e]
   rw[Hu hk _ _ _ hm,Jz,aV aw];rfl
  rw[O];have oi:i%k<(enc a).length:=by rw[hk];exact hm
  simp[lO,hi,hk,hm]
 rw[io (by simp[size_madeCells];omega),io (by rw[od hk];simp;omega)]
def xt(enc:α->J ao)(xs:J α)(T:dC):Obj:=.cells (xs.flatMap enc).toArray T (0,0)
def aeo(hk:∀x,(enc x).length=k){xs:J α}(W:u g=some (xt enc xs T)){j:N}{x:α}{v:ao}(hi:xs[i]?=some x)(aM:(enc x)[j]?=some v):
  u.cell? (((cr g 0 none).add (i*k)).add j)=some v:=by
 have EV:j<k:=by rw[<-hk x];exact(ir.1 aM).1
 rw[Addr.zL,iC,jI,a1 W]
 rw[List.getElem?_toArray,Hu hk xs i j EV,hi]
 exact aM
def Qm(hk:∀x,(enc x).length=k){xs:J α}(W:u g=some (xt enc xs T)){x:α}{v:ao}(hi:xs[i]?=some x)(aM:(enc x)[0]?=some v):
  u.cell? ((cr g 0 none).add (i*k))=some v:=aeo hk W hi aM
def OW(hk:∀x,(enc x).length=k){xs:J α}(W:u g=some (xt enc xs T))(hi:i<xs.length){y:α}(h1:∀v∈enc y,v.oneCell'=ak){f:H->Prop}
  (ac:f (u.ins g (xt enc (xs.set i y) T))):H.aN u ((cr g 0 none).add (i*k)) (enc y) f:=by
 have Xr:(⟨g,0,none⟩:ba).add (i*k)=⟨g,i*k,none⟩:=by rw[iC,jI]
 rw[Xr]
 have hle:i*k+k<=xs.length*k:=by
  calc i*k+k=(i+1)*k:=by rw[xG]
   _<=xs.length*k:=r2 _ hi
 have cY:i*k+(enc y).length<=((xs.flatMap enc).toArray).size:=by rw[hk];simpa[od hk] using hle
 refine⟨_,T,W,rfl,cY,h1,?_⟩
 have:wr (xs.flatMap enc).toArray (i*k) (enc y)=((xs.set i y).flatMap enc).toArray:=by apply C7;rw[GX _ _ _ cY,aff hk xs i y hi,hk]
 show f (u.ins g (.cells (wr (xs.flatMap enc).toArray (i*k) (enc y)) T (0,0)))
 rw[this]
 exact ac
def afe(hk:∀x,(enc x).length=k){xs eD:J α}(W:u g=some (xt enc (xs++eD) T))(I:xs.length<=c)(hm:c<=9223372036854775807):
  bt u ⟨some ⟨g,0,none⟩,xs.length,c⟩ k (xs.flatMap enc):=by
 refine⟨od hk xs,I,hm,.inr ⟨_,rfl,λi v e=>?_⟩⟩
 rw[iC,jI,a1 W,List.getElem?_toArray,gU,qy ((ir.1 e).1)]
 exact e
end
def H.Nk{z:Obj}(h:u g=some z):u.ins g z=u:=by funext x;unfold H.ins;split;rename_i M;rw[M,h];rfl
def H.Sw{v:H}(h:u.le v)(W:u g=none)(z:Obj):u.le (v.ins g z):=λb x Z=>by rw[bm _ _ (λe=>by rw[e,W] at Z;cases Z)];exact h b x Z
def H.aaj{a b:N}{z:Obj}(aE:u a=some z)(Z:u b=none):a≠b:=λe=>by rw[e,Z] at aE;cases aE
def ayz{P:dR}{Qv abv fb e:dC}{bytes:N}{zs:J ao}(aR:j9 P Qv=some (e,1,bytes,zs)){n:N}{cur:cu ao}{x:U}{eD:J ao}
  (W:u g=some (.cells cur T (0,0))) (M:bt u x 1 eD) (h1:∀y∈eD,y.oneCell'=ak) (ae:x.n<=n) (I:n<=cur.size) {K:o->H->Prop}
  (aq:K x.n (u.ins g (.cells (eD++cur.toList.drop x.n).toArray T (0,0)))):
  c4 P (Builtin.copy_ #[Qv,abv] fb #[.slice (some ⟨g,0,none⟩) n c,.slice x.a x.n x.c]) [.one (.int .i64)] u K:=by
 obtain⟨ht,i,Y,hi,aB,oY,wP,yL,CR⟩:=tz aR
 have hlen:eD.length=x.n:=by have:=M.len;simpa using this
 have ag:(P.info? e).map (·.size)=some 1:=by rw[hi];simp[oY]
 rcases M.at' with h0|⟨p,ad,fP⟩
 subst h0
 have vw:x.n=0:=by simpa using hlen.symm
 have aP:u.ins g (.cells (([]:J ao)++cur.toList.drop x.n).toArray T (0,0))=u:=by rw[vw];exact H.Nk (by rw[W];simp)
 rw[aP] at aq
 refine .C3 (c:=.int .i64) (x.n:o) (λw hw=>?_) aq
 rw[run_copy_none w Qv abv fb e _ _ n c x.n x.c ht ag (by rw[vw];exact Nat.zero_min _),vw]
 rfl
 refine .one (c:=.int .i64) λw hw=>⟨(x.n:o),_,_,?_,aq,alU hw W _⟩
 rw[ad,run_copy_row P w Qv abv fb e g 0 n c p x.n x.c cur T eD ht ag (hw _ _ W) (by rw[hlen];exact(A9 ae).symm) (λj v aM=>hw.cell (fP j v aM)) (by omega) h1,hlen]
 simp only[jI,N2,lu]
 rfl
abbrev Sy(q:J o):Obj:=xt encI (q++ [-77]) 3
def ai0(h:u g=some (Sy q))(Z:q.length<=1000000):Ints u ⟨some ⟨g,0,none⟩,q.length,q.length+1⟩ q:=by have:=afe kK h (c:=q.length+1) (by omega) (by omega);rw[va] at this;exact this
def ajA(g n c:N)(size:N)(I:0<c):U.part ⟨some ⟨g,0,none⟩,c,c⟩ 0 n c size=⟨some ⟨g,0,none⟩,n,c⟩:=by simp only[U.part,xH,Dd];rw[az (by omega)];rfl
def ajy(g n c:N)(size:N)(I:0<c):U.part ⟨some ⟨g,0,none⟩,n,c⟩ 0 c c size=⟨some ⟨g,0,none⟩,c,c⟩:=by simp only[U.part,xH,Dd];rw[az (by omega)];rfl
def azW{K:U->H->Prop}(ag:Ints u s q)(Z:q.length<=1000000)
  (aq:∀g,u g=none->K ⟨some ⟨g,0,none⟩,q.length,q.length+1⟩ (u.ins g (Sy q))):U7 s u K:=by
 have ae:=ag.len
 have aP:((s.n:o)+1).toNat=q.length+1:=by omega
 apply aDr
 refine⟨⟨by omega,by omega⟩,GB lQ (by omega) (l4 _) (by omega) (by omega) λg W=>?_⟩
 rw[aP]
 have fY:bt (u.ins g (.cells (lO [cG .i64 0].toArray ((q.length+1)*1)) 3 (0,0))) s 1 (q.flatMap encI):=by rw[va];exact ag.mono (bW _ W)
 refine ayz lQ (bf _ _ _) fY (λy ah=>?_) (by show s.n<=q.length+1;omega) (by rw[size_madeCells];show q.length+1<=_;omega) ?_
 obtain⟨h,_,ah⟩:=ee.1 ah
 exact zW h y ah
 rw[IH]
 have q4:=AS kK (by decide) 0 (q.length+1)
 have atp:(lO [cG .i64 0].toArray ((q.length+1)*1)).toList=(eU (q.length+1) 0).flatMap encI:=q4
 have at2:bA (q.flatMap encI++(lO [cG .i64 0].toArray ((q.length+1)*1)).toList.drop s.n).toArray 3 (0,0)=xt encI (q++ [0]) 3:=by rw[atp,ae];have:=QJ kK (eU (q.length+1) 0) q.length;rw[y7] at this;rw[this,List.drop_replicate,<-gU];simp[xt,show q.length+1-q.length=1 by omega]
 rw[at2]
 refine⟨_,rfl,⟨by omega,by show(s.n:o)<((q.length+1:N):o);omega⟩,?_⟩
 unfold aW
 rw[show(s.n:o).toNat=q.length by omega]
 refine OW (y:= -77) kK (bf _ _ _) (by simp) (zW _) ?_
 rw[IH,N6 _ _ (cg _),Da,A8]
 refine lj (s:=⟨some ⟨g,0,none⟩,q.length+1,q.length+1⟩) (l:=0) (h:=q.length) (m:=q.length+1) lQ (.inl ⟨rfl,rfl⟩) (.inr (by rw[ae])) (.inl ⟨rfl,rfl⟩) (nU _) (by omega) (cg _) (cg _) ?_
 rw[ajA _ _ _ _ (by omega)]
 exact aq g W
def alu{a b:J o}(ag:Ints u s a)(ht:Ints u t b)(h:K (decide (a=b)) u):PN s t u K:=by
 have key:∀Y,decide (a=b)=Y->K Y u:=λY e=>e▸h;have ae:=ag.len;have hm:=ht.len;have yD:=ag.max;apply aDq;refine⟨λal=>key _ ?_,λhe=>?_⟩;have:a≠b:=λe=>al (by rw[ae,hm,e]);simp[this];refine⟨λ_ i v=>v=u/\0<=i/\i<=(s.n:o)/\a.take i.toNat=b.take i.toNat,λ_ i _=>s.n-i.toNat,⟨rfl,by omega,by omega,by simp⟩,?_⟩;rintro _ i v ⟨rfl,h0,h1,ad⟩;refine⟨λhi=>?_,λhi=>key _ ?_⟩;obtain⟨p,gG,bK⟩:=ag.at h0 hi;obtain⟨q,Fb,d0⟩:=ht.at h0 (show i<(t.n:o) by omega);have aiC:i.toNat<a.length:=by omega
 have aiD:i.toNat<b.length:=by omega
 have Wy:a.getD i.toNat 0=a[i.toNat]:=by simp[dr,aiC]
 have Wz:b.getD i.toNat 0=b[i.toNat]:=by simp[dr,aiD]
 refine⟨p,gG,⟨h0,hi⟩,q,Fb,⟨h0,by omega⟩,_,bK,_,d0,λal=>key _ ?_,λiV=>⟨⟨by omega,by omega⟩,⟨rfl,by omega,by omega,?_⟩,by dsimp only;omega⟩⟩;have:a≠b:=λe=>al (by rw[e]);simp[this];rw[Wy,Wz] at iV;have aP:(i+1).toNat=i.toNat+1:=by omega
 rw[aP,gT,gT,ad,cn aiC,cn aiD,iV];have aP:i.toNat=a.length:=by omega
 rw[aP,ni,<-ae,show s.n=b.length by omega,ni] at ad;simp[ad]
def azV(W:u g=some (Sy q))(ht:Ints u t q)(Z:q.length<=1000000)
  (aq:∀z,K ak (u.ins g z)):U5 ⟨some ⟨g,0,none⟩,q.length,q.length+1⟩ t u K:=by
 have ae:=ht.len
 have aP:(t.n:o)+1=((q.length+1:N):o):=by omega
 have qp:∀{fA:U->H->Prop},fA ⟨some ⟨g,0,none⟩,q.length+1,q.length+1⟩ u->c4 aH (fR 30 (.slice (some ⟨g,0,none⟩) q.length (q.length+1)) none (some (.int .i64 ((t.n:o)+1))) none) [.one .slice] u fA:=λmr=>by rw[aP];refine lj (s:=⟨some ⟨g,0,none⟩,q.length,q.length+1⟩) (l:=0) (h:=q.length+1) (m:=q.length+1) lQ (.inl ⟨rfl,rfl⟩) (.inr rfl) (.inl ⟨rfl,rfl⟩) (nU _) (cg _) (cg _) (Jo _) ?_;rw[ajy _ _ _ _ (by omega)];exact mr
 apply aDo
 intro lA mu
 refine alu (ai0 W Z) ht ?_
 rw[lP rfl]
 refine⟨λ_=>⟨⟨by omega,by omega⟩,qp ⟨_,rfl,⟨by omega,by dsimp only;omega⟩,-77,?_,mu _ _ ?_⟩⟩,λZ=>by cases Z⟩
 unfold aW
 rw[show(t.n:o).toNat=q.length by omega]
 exact Qm (x:= -77) kK W (by simp) rfl
 rw[lP rfl]
 refine⟨⟨by omega,by omega⟩,qp ?_⟩
 refine⟨λx v=>0<=x/\∃L:J o,L.length=q.length+1/\v=u.ins g (xt encI L 3),λx _=>q.length+1-x.toNat,⟨by omega,_,by simp,(H.Nk W).symm⟩,?_⟩
 rintro x v ⟨bG,L,cL,rfl⟩
 refine⟨λM=>?_,λ_=>aq _⟩
 have fF:x<((q.length+1:N):o):=M
 have eO:x.toNat<L.length:=by omega
 refine⟨_,rfl,⟨bG,M⟩,L[x.toNat],Qm kK (bf _ _ _) (cn eO) rfl,_,rfl,⟨bG,M⟩,OW (y:=Go.bits Go.BinOp.xor Go.IntKind.i64 L[x.toNat] 85) kK (bf _ _ _) eO (zW _) ⟨⟨by omega,by omega⟩,⟨by omega,_,?_,IH _ _ _ _⟩,by dsimp only;omega⟩⟩
 simpa using cL
def av.bi(r:av):o×J o:=(r.id,r.v)
def FP:av:=⟨-77,⟨none,0,0⟩,[]⟩
abbrev Gt(ls:J av):Obj:=xt cB ls 52
structure zE(ai u:H)(g:N)(ls:J av):Prop where
 inner:∀r∈ls,∃h,r.s=⟨some ⟨h,0,none⟩,r.v.length,r.v.length+1⟩/\u h=some (Sy r.v)/\ai h=none/\h≠g/\r.v.length<=1000000
 apart:ls.Pairwise λa b=>a.s.aj≠b.s.aj
def zE.else{u':H}(h:zE ai u g ls)(he:∀b z,b≠g->u b=some z->u' b=some z):zE ai u' g ls:=
 ⟨λr O=>by obtain⟨x,h1,h2,h3,a7,bE⟩:=h.inner r O;exact⟨x,h1,he _ _ a7 h2,h3,a7,bE⟩,h.apart⟩
def zE.rws{ms:J av}(h:zE ai u g ls)(W:u g=some (Gt (ls++ms)))(I:ls.length<=c)(hm:c<=9223372036854775807):dS u ⟨some ⟨g,0,none⟩,ls.length,c⟩ ls:=
 ⟨afe eY W I hm,λr O=>by obtain⟨x,h1,h2,_,_,bE⟩:=h.inner r O;rw[h1];exact ai0 h2 bE⟩
def azX{l:J av}{K:U->H->Prop}(ag:dS u s l)(Z:l.length<=1000000)(aA:∀r∈l,r.v.length<=1000000)
  (aq:∀g ls u',u.le u'->u g=none->u' g=some (Gt (ls++ [FP]))->zE u u' g ls->ls.map av.bi=l.map av.bi->K ⟨some ⟨g,0,none⟩,l.length,l.length+1⟩ u'):U8 s u K:=by
 have ae:=ag.len
 have aP:((s.n:o)+1).toNat=l.length+1:=by omega
 apply aDs
 refine⟨⟨by omega,by omega⟩,GB ic (by omega) (l4 _) (by omega) (by omega) λg W=>?_⟩
 rw[aP]
 have q4:bA (lO [cG .i64 0,.slice none 0 0].toArray ((l.length+1)*2)) 52 (0,0)=Gt (eU (l.length+1) ⟨0,⟨none,0,0⟩,[]⟩):=by have:=AS eY (by decide) (⟨0,⟨none,0,0⟩,[]⟩:av) (l.length+1);unfold Gt xt;congr 1;apply C7;exact this
 rw[q4]
 refine⟨λx v=>0<=x/\∃ls rest:J av,ls.length=x.toNat/\ls.length+rest.length=l.length+1/\u.le v/\v g=some (Gt (ls++rest))/\zE u v g ls/\ls.map av.bi=(l.take x.toNat).map av.bi,λx _=>s.n-x.toNat,
  ⟨by omega,[],_,rfl,by simp,bW _ W,bf _ _ _,⟨λ_ h=>(by cases h),mE⟩,by simp⟩,?_⟩
 rintro x v ⟨bG,ls,rest,Yb,hlen,hle,yw,cL,yI⟩
 refine⟨λM=>?_,λM=>?_⟩
 obtain⟨p,ad,r,O,bK,c1,Nd⟩:=(ag.mono hle).at bG M
 have fQ:=du O
 refine⟨p,ad,⟨bG,M⟩,p,ad,⟨bG,M⟩,_,bK,_,c1,azW Nd (aA r fQ) λh bV=>⟨bW _ bV,_,rfl,⟨bG,by dsimp only;omega⟩,?_⟩⟩
 have H4:g≠h:=H.aaj yw bV
 obtain⟨a,Gs,rfl⟩:∃a Gs,rest=a::Gs:=by
  cases rest with
  |nil=>simp at hlen;omega|cons a t=>exact⟨a,t,rfl⟩
 refine OW (y:=⟨r.id,⟨some ⟨h,0,none⟩,r.v.length,r.v.length+1⟩,r.v⟩) eY (xs:=ls++a::Gs) (by rw[bm _ _ H4];exact yw) (by simp;omega) (B4 _) ⟨⟨by omega,by omega⟩,⟨by omega,ls++ [⟨r.id,⟨some ⟨h,0,none⟩,r.v.length,r.v.length+1⟩,r.v⟩],Gs,?_,?_,?_,?_,⟨?_,?_⟩,?_⟩,by dsimp only;omega⟩
 simp;omega
 simp at hlen ⊢;omega
 exact H.Sw (hle.trans (bW _ bV)) W _
 rw[bf,<-Yb,N6 _ _ (cg _),Da,A8,nf]
 rfl
 intro ch cq
 rcases cK.1 cq with cq|cq
 obtain⟨bL,i1,i2,i3,i4,i5⟩:=cL.inner ch cq
 exact⟨bL,i1,by rw[bm _ _ i4,bm _ _ (H.aaj i2 bV)];exact i2,i3,i4,i5⟩
 obtain rfl:ch=_:=by simpa using cq
 exact⟨h,rfl,by rw[bm _ _ (dv H4),bf],hle.none bV,dv H4,aA r fQ⟩
 refine Bb.2 ⟨cL.apart,Jr _ _,λa aE b Z=>?_⟩
 obtain rfl:b=_:=by simpa using Z
 obtain⟨bL,i1,i2,_⟩:=cL.inner a aE
 rw[i1]
 intro e
 exact H.aaj i2 bV (by simpa[U.aj] using e)
 rw[show(x+1).toNat=x.toNat+1 by omega,gT,O,dY,dY,yI]
 rfl
 have fF:x.toNat=l.length∨l.length<x.toNat:=by omega
 have ahf:ls.length=l.length:=by have:=dV hR yI;simp at this;omega
 obtain⟨a,rfl⟩:∃a,rest=[a]:=by
  cases rest with
  |nil=>simp at hlen;omega|cons a t=>cases t with
   |nil=>exact⟨a,rfl⟩|cons b t=>simp at hlen;omega
 refine⟨_,rfl,⟨by omega,by rw[ae];dsimp only;omega⟩,?_⟩
 unfold aW
 rw[show(s.n:o).toNat=l.length by omega]
 refine OW (y:=FP) eY yw (by simp;omega) (B4 _) ?_
 rw[<-ahf,N6 _ _ (cg _),Da,A8,ahf]
 refine lj (s:=⟨some ⟨g,0,none⟩,l.length+1,l.length+1⟩) (l:=0) (h:=l.length) (m:=l.length+1) ic (.inl ⟨rfl,rfl⟩) (.inr (by rw[ae])) (.inl ⟨rfl,rfl⟩) (nU _) (by omega) (cg _) (cg _) ?_
 rw[ajA _ _ _ _ (by omega)]
 refine aq g ls _ (H.Sw hle W _) W (bf _ _ _) (cL.else λb z Z h=>by rw[bm _ _ Z];exact h) ?_
 rw[yI,ho (by omega)]
def als{l:J av}(W:u g=some (Gt (ls++ [FP])))(h0:ai g=none)(cL:zE ai u g ls)(hle:ai.le u)(ht:dS ai t l)
  (yI:ls.map av.bi=l.map av.bi) (Z:l.length<=1000000)
  (aq:∀u',ai.le u'->(∀b z,u b=some z->b≠g->(∀r∈ls,r.s.aj≠some b)->u' b=some z)->K ak u'):U6 ⟨some ⟨g,0,none⟩,l.length,l.length+1⟩ t u K:=by
 have ae:=ht.len
 have vm:ls.length=l.length:=by have:=dV hR yI;simpa using this
 have aP:(t.n:o)+1=((l.length+1:N):o):=by omega
 apply aDp
 refine⟨⟨by omega,by omega⟩,?_⟩
 rw[aP]
 refine lj (s:=⟨some ⟨g,0,none⟩,l.length,l.length+1⟩) (l:=0) (h:=l.length+1) (m:=l.length+1) ic (.inl ⟨rfl,rfl⟩) (.inr rfl) (.inl ⟨rfl,rfl⟩) (nU _) (cg _) (cg _) (Jo _) ?_
 rw[ajy _ _ _ _ (by omega)]
 refine⟨_,rfl,⟨by omega,by dsimp only;omega⟩,-77,?_,?_⟩
 unfold aW
 rw[show(t.n:o).toNat=l.length by omega]
 exact Qm (x:=FP) eY W (by rw[<-vm];simp) rfl
 dsimp only
 rw[lP rfl]
 refine⟨λb x v=>b=ak/\0<=x/\x.toNat<=l.length/\ai.le v/\(∃rH:J av,rH.length=x.toNat/\v g=some (Gt (rH++(ls.drop x.toNat++ [FP]))))/\zE ai v g (ls.drop x.toNat)/\(∀b z,u b=some z->b≠g->(∀r∈ls,r.s.aj≠some b)->v b=some z),λ_ x _=>l.length-x.toNat,
  ⟨rfl,by omega,by omega,hle,⟨[],rfl,by simpa using W⟩,by simpa using cL,λ_ _ h _ _=>h⟩,?_⟩
 rintro b x v ⟨rfl,bG,aG3,lI,⟨rH,Cr,yw⟩,Q6,eB⟩
 refine⟨λM=>?_,λ_=>aq v lI eB⟩
 intro BM Aa
 have eO:x.toNat<ls.length:=by omega
 obtain⟨R,b1,pA⟩:∃R,ls[x.toNat]?=some R/\ls.drop x.toNat=R::ls.drop (x.toNat+1):=⟨_,cn eO,s9 eO⟩
 obtain⟨p,ad,r,O,bK,c1,Nd⟩:=(ht.mono lI).at bG M
 have kx:R.bi=r.bi:=by
  have h1:(ls.map av.bi)[x.toNat]?=some R.bi:=by rw[iD,b1];rfl
  rw[yI,iD,O] at h1;exact(cO h1).symm
 have b7:R.id=r.id:=dV pd kx
 have CL:R.v=r.v:=dV pR kx
 have qZ:(rH++(ls.drop x.toNat++ [FP]))[x.toNat]?=some R:=by rw[C9 (by omega),Cr,Da,pA];rfl
 have CP:x<((l.length+1:N):o):=by omega
 obtain⟨h,i1,i2,i3,i4,i5⟩:=Q6.inner R (by rw[pA];exact gh ..)
 refine⟨λ_=>⟨_,rfl,⟨bG,CP⟩,p,ad,⟨bG,M⟩,_,Qm eY yw qZ rfl,_,bK,λ_=>⟨_,rfl,⟨bG,CP⟩,p,ad,⟨bG,M⟩,R.s,aeo (j:=1) eY yw qZ rfl,_,c1,?_⟩,λal=>a6 b7 al⟩,λZ=>by cases Z⟩
 rw[i1]
 refine azV i2 (by rw[CL];exact Nd) i5 λz=>Aa _ _ ⟨_,rfl,⟨bG,CP⟩,?_⟩
 refine OW (y:=⟨5,⟨none,0,0⟩,[]⟩) eY (xs:=rH++(ls.drop x.toNat++ [FP])) (by rw[bm _ _ (dv i4)];exact yw) (by simp;omega) (B4 _) ⟨⟨by omega,by omega⟩,⟨rfl,by omega,by omega,?_,⟨rH++ [⟨5,⟨none,0,0⟩,[]⟩],?_,?_⟩,⟨?_,?_⟩,?_⟩,by dsimp only;omega⟩
 exact H.Sw (H.Sw lI i3 _) h0 _
 simp;omega
 rw[bf,pA,<-Cr,N6 _ _ (cg _),Da,vO,A8,Cr,show(x+1).toNat=x.toNat+1 by omega]
 simp
 intro ch cq
 rw[show(x+1).toNat=x.toNat+1 by omega] at cq
 obtain⟨bL,jY,Nl,avF,aiO,avG⟩:=Q6.inner ch (by rw[pA];exact gd _ cq)
 have al:bL≠h:=λe=>by have ix:=Q6.apart;rw[pA] at ix;exact(jJ.1 ix).1 ch cq (by rw[i1,jY,e];rfl)
 exact⟨bL,jY,by rw[bm _ _ aiO,bm _ _ al];exact Nl,avF,aiO,avG⟩
 rw[show(x+1).toNat=x.toNat+1 by omega]
 have ix:=Q6.apart
 rw[pA] at ix
 exact(jJ.1 ix).2
 intro b z gz lV HT
 have ar2:b≠h:=λe=>HT R (du b1) (by rw[i1,e];rfl)
 rw[bm _ _ lV,bm _ _ ar2]
 exact eB b z gz lV HT
end
section
variable{u ai u' v v0:H}{q seen a b:J o}{gF:J bP}{ss bc t:U}{P:dR}{x d k y w:o}{xs:J ao}{D:J U}{bw L:J av}{e:N}{fv:ao}
def Hc(l:J o):Prop:=l.Pairwise (· <=·)
def BQ(l:J o):Prop:=l.Pairwise (· < ·)
def nq(l:J o):(dM l).Perm l:=List.mergeSort_perm l _
def abK(l:J o):Hc (dM l):=by have:=List.pairwise_mergeSort (le:=λx y:o=>decide (x<=y)) (λa b c h1 h2=>by simp at*;omega) (λa b=>by simp;omega) l;exact this.imp λh=>by simpa using h
def zm(l:J o):(dM l).length=l.length:=(nq l).length_eq
def Hc.eq(aE:Hc a)(Z:Hc b)(h:a.Perm b):a=b:=by
 induction a generalizing b with
 |nil=>exact(List.Perm.nil_eq h)|cons x a aL=>
  cases b with
  |nil=>exact a6 h.length_eq (by simp)|cons y b=>
   have CO:=jJ.1 aE;have aiw:=jJ.1 Z;have iV:x=y:=by have h1:x∈y::b:=h.mem_iff.1 (gh ..);have h2:y∈x::a:=h.mem_iff.2 (gh ..);rcases cE.1 h1 with e|h1;exact e;rcases cE.1 h2 with e|h2;exact e.symm;have:=aiw.1 x h1;have:=CO.1 y h2;omega
   subst iV;rw[aL CO.2 aiw.2 (List.Perm.cons_inv h)]
def akU(h:a.Perm b)(aE:Hc a):a=dM b:=aE.eq (abK b) (h.trans (nq b).symm)
def ayU(h:a.Perm b):dM a=dM b:=akU ((nq a).trans h) (abK a)
def aGD(h:Hc a):dM a=a:=(akU (.refl a) h).symm
def Dw{l:J o}(h:l.Nodup):BQ (dM l):=by have h1:=abK l;have h2:(dM l).Nodup:=(nq l).nodup_iff.2 h;exact(h1.and h2).imp λ⟨a,b⟩=>by omega
def akn{l a b:J av}(ar:(l.map (·.id)).Nodup)(aE:∀r∈a,r∈l)(Z:∀r∈b,r∈l)(h:(a.map (·.id)).Perm (b.map (·.id))):a.Perm b:=by
 have inj:∀{l:J av},(l.map (·.id)).Nodup->∀r∈l,∀ch∈l,r.id=ch.id->r=ch:=by
  intro l;induction l with
  |nil=>intro _ r O;cases O
  |cons x l aL=>intro ae r O ch cq e;have h2:=hK.1 ae;rcases cE.1 O with h1|h1;rcases cE.1 cq with h3|h3;rw[h1,h3];exact(h2.1 (bk.2 ⟨ch,h3,by rw[<-e,h1]⟩)).elim;rcases cE.1 cq with h3|h3;exact(h2.1 (bk.2 ⟨r,h1,by rw[e,h3]⟩)).elim;exact aL h2.2 r h1 ch h3 e
 let f:o->av:=λx=>(l.find? λr=>r.id==x).getD ⟨0,⟨none,0,0⟩,[]⟩
 have ac:∀r∈l,f r.id=r:=by
  intro r O;show(l.find? λch=>ch.id==r.id).getD _=r;cases wU:l.find? λch=>ch.id==r.id with
  |none=>exact a6 (JA.1 wU r O) (by simp)|some ch=>have h1:=Jl wU;have h2:=Jk wU;exact inj ar ch h2 r O (by simpa using h1)
 have hm:∀{c:J av},(∀r∈c,r∈l)->(c.map (·.id)).map f=c:=by
  intro c I;rw[ez]
  conv=>rhs;rw[<-List.map_id c]
  exact zd λr O=>ac r (I r O)
 have:=h.map f;rw[hm aE,hm Z] at this;exact this
def aqn{f:o->o->o}(ac:∀a x,(f a x<=a/\f a x<=x/\(f a x=a∨f a x=x))):∀(l:J av) (a:J o) (n:N),a.length=n->(∀r∈l,r.v.length=n)->
  (l.foldl (λacc r=>lc f acc r.v) a).length=n/\(∀i,i<n->(l.foldl (λacc r=>lc f acc r.v) a).getD i 0<=a.getD i 0/\(∀r∈l,(l.foldl (λacc r=>lc f acc r.v) a).getD i 0<=r.v.getD i 0)/\
   ((l.foldl (λacc r=>lc f acc r.v) a).getD i 0=a.getD i 0∨∃r∈l,(l.foldl (λacc r=>lc f acc r.v) a).getD i 0=r.v.getD i 0)):=by
 intro l
 induction l with
 |nil=>intro a n aE _;exact⟨aE,λi _=>⟨l4 _,λr O=>(by cases O),.inl rfl⟩⟩
 |cons r l aL=>
  intro a n aE ar;have O:=ar r (by simp);have aB:(lc f a r.v).length=n:=by rw[List.length_zipWith,aE,O,Te]
  obtain⟨h1,h2⟩:=aL (lc f a r.v) n aB λx M=>ar x (by simp[M]);rw[Jw];refine⟨h1,λi hi=>?_⟩;have uf:(lc f a r.v).getD i 0=f (a.getD i 0) (r.v.getD i 0):=by
   have h3:i<a.length:=by omega
   have a7:i<r.v.length:=by omega
   simp[dr,Tf,cn h3,cn a7]
  obtain⟨g1,g2,g3⟩:=h2 i hi;obtain⟨f1,f2,f3⟩:=ac (a.getD i 0) (r.v.getD i 0);rw[uf] at g1 g3;refine⟨by omega,λx M=>?_,?_⟩;rcases cE.1 M with rfl|M;omega;exact g2 x M;rcases g3 with g3|⟨x,M,g3⟩;rcases f3 with f3|f3;exact .inl (by rw[g3,f3]);exact .inr ⟨r,by simp,by rw[g3,f3]⟩;exact .inr ⟨x,by simp[M],g3⟩
def aqo{f:o->o->o}(ac:∀a x,(a<=f a x/\x<=f a x/\(f a x=a∨f a x=x))):∀(l:J av) (a:J o) (n:N),a.length=n->(∀r∈l,r.v.length=n)->
  (l.foldl (λacc r=>lc f acc r.v) a).length=n/\(∀i,i<n->a.getD i 0<=(l.foldl (λacc r=>lc f acc r.v) a).getD i 0/\(∀r∈l,r.v.getD i 0<=(l.foldl (λacc r=>lc f acc r.v) a).getD i 0)/\
   ((l.foldl (λacc r=>lc f acc r.v) a).getD i 0=a.getD i 0∨∃r∈l,(l.foldl (λacc r=>lc f acc r.v) a).getD i 0=r.v.getD i 0)):=by
 intro l
 induction l with
 |nil=>intro a n aE _;exact⟨aE,λi _=>⟨l4 _,λr O=>(by cases O),.inl rfl⟩⟩
 |cons r l aL=>
  intro a n aE ar;have O:=ar r (by simp);have aB:(lc f a r.v).length=n:=by rw[List.length_zipWith,aE,O,Te]
  obtain⟨h1,h2⟩:=aL (lc f a r.v) n aB λx M=>ar x (by simp[M]);rw[Jw];refine⟨h1,λi hi=>?_⟩;have uf:(lc f a r.v).getD i 0=f (a.getD i 0) (r.v.getD i 0):=by
   have h3:i<a.length:=by omega
   have a7:i<r.v.length:=by omega
   simp[dr,Tf,cn h3,cn a7]
  obtain⟨g1,g2,g3⟩:=h2 i hi;obtain⟨f1,f2,f3⟩:=ac (a.getD i 0) (r.v.getD i 0);rw[uf] at g1 g3;refine⟨by omega,λx M=>?_,?_⟩;rcases cE.1 M with rfl|M;omega;exact g2 x M;rcases g3 with g3|⟨x,M,g3⟩;rcases f3 with f3|f3;exact .inl (by rw[g3,f3]);exact .inr ⟨r,by simp,by rw[g3,f3]⟩;exact .inr ⟨x,by simp[M],g3⟩
def aea{l:J av}(h:gX l d)(al:l≠[]):((mm l).length:o)=d/\((ml l).length:o)=d/\db (mm l)/\db (ml l)/\(∀i:N,(i:o)<d->(mm l).getD i 0<=(ml l).getD i 0)/\
  ∀r∈l,∀i:N,(i:o)<d->(mm l).getD i 0<=r.v.getD i 0/\r.v.getD i 0<=(ml l).getD i 0:=by
 obtain⟨x,bw,rfl⟩:∃x bw,l=x::bw:=by
  cases l with
  |nil=>exact a6 rfl al|cons x bw=>exact⟨x,bw,rfl⟩
 have aw:=h.dim
 have M:=h.v x (by simp)
 have eh:∀r∈x::bw,r.v.length=d.toNat:=λr O=>by have:=(h.v r O).1;omega
 obtain⟨aa,a2⟩:=aqn (f:=λa x=>if x<a then x else a) (λa x=>by split<;>omega) (x::bw) x.v d.toNat (eh x (by simp)) eh
 obtain⟨gf,gP⟩:=aqo (f:=λa x=>if x>a then x else a) (λa x=>by split<;>omega) (x::bw) x.v d.toNat (eh x (by simp)) eh
 have apK:mm (x::bw)=(x::bw).foldl (λacc r=>lc (λa x=>if x<a then x else a) acc r.v) x.v:=rfl
 have apI:ml (x::bw)=(x::bw).foldl (λacc r=>lc (λa x=>if x>a then x else a) acc r.v) x.v:=rfl
 rw[<-apK] at aa a2
 rw[<-apI] at gf gP
 have Qr:∀r∈x::bw,∀i,i<d.toNat->k2 (r.v.getD i 0):=λr O i hi=>(h.v r O).2.2 i (by rw[eh r O];exact hi)
 refine⟨by omega,by omega,⟨by omega,λi hi=>?_⟩,⟨by omega,λi hi=>?_⟩,λi hi=>?_,λr O i hi=>⟨(a2 i (by omega)).2.1 r O,(gP i (by omega)).2.1 r O⟩⟩
 rcases(a2 i (by omega)).2.2 with e|⟨r,O,e⟩
 rw[e];exact Qr x (by simp) i (by omega)
 rw[e];exact Qr r O i (by omega)
 rcases(gP i (by omega)).2.2 with e|⟨r,O,e⟩
 rw[e];exact Qr x (by simp) i (by omega)
 rw[e];exact Qr r O i (by omega)
 have h1:=(a2 i (by omega)).1
 have h2:=(gP i (by omega)).1
 omega
def x6(l:J bP):Prop:=(l.map (·.1)).Nodup
def x6.perm{a b:J bP}(h:x6 a)(ad:a.Perm b):x6 b:=(ad.map _).nodup h
def x6.eV{k:N}{l:J bP}(h:x6 l):x6 (eV k l):=
 List.Nodup.sublist (aaY _ (rz _ _)) (h.perm (v8 l).symm)
def x6.eq{l:J bP}(h:x6 l){a b:bP}(aE:a∈l)(Z:b∈l)(e:a.1=b.1):a=b:=by
 induction l with
 |nil=>cases aE
 |cons x l aL=>have h2:=hK.1 h;rcases cE.1 aE with Ri|aE;rcases cE.1 Z with HU|Z;rw[Ri,HU];exact a6 (bk.2 ⟨b,Z,by show b.1=x.1;rw[<-e,Ri]⟩) h2.1;rcases cE.1 Z with HU|Z;exact a6 (bk.2 ⟨a,aE,by show a.1=x.1;rw[e,HU]⟩) h2.1;exact aL h2.2 aE Z
def P7(u u':H)(l:J av)(q:J o)(k:o)(s:U)(e:o):Prop:=
 u.le u'/\((e=Bu l q k/\e≠0/\s=⟨none,0,0⟩)∨(e=0/\Bu l q k=0/\kH l q/\1<=k/\k<=64/\aD u u' 68 3 s ((eV k.toNat (l.map (ia q))).flatMap fD)))
def P7.fh{l:J av}{s:U}{e:o}(h:P7 u u' l q k s e):∃L,nw u' s L/\L.length<=64/\(e=0->L=eV k.toNat (l.map (ia q)))/\(e≠0->L=[]):=by rcases h.2 with⟨_,h1,rfl⟩|⟨h0,_,_,_,cS,ab⟩;exact⟨[],(aD.nil (H.le.refl u') 0 3).own.cC,by simp,λh=>a6 h h1,λ_=>rfl⟩;exact⟨_,ab.fh,by rw[zq];omega,λ_=>rfl,λh=>a6 h0 h⟩
def kH.FW{l:J av}(h:kH l q):x6 (l.map (ia q)):=by unfold x6;rw[ez];exact h.rows.nodup
def az0{s:U}{l:J av}{m:o}{K:o->H->Prop}(ag:dS u s l)(Z:∀r∈l,r.v.length<=17592186044416)(ar:s.n<=17592186044416)(hm:m<=1000000)(h:∀x,(x<=m->∀r∈l,(r.v.length:o)<=m)->K x u):Vb s m u K:=by
 have ae:=ag.len;apply aDv;refine⟨λx i v=>v=u/\0<=i/\i<=(s.n:o)/\0<=x/\∀r∈l.take i.toNat,(r.v.length:o)<=x,λ_ i _=>s.n-i.toNat,⟨rfl,by omega,by omega,by omega,λr O=>by simp at O⟩,?_⟩;rintro x i v ⟨rfl,i0,i1,bG,vw⟩;intro BL HJ;refine⟨λhi=>⟨λM=>HJ _ ?_,λM=>h x λh=>a6 h M⟩,λhi=>h x λFw r O=>?_⟩;obtain⟨p,ad,r,O,bK,c1,aA⟩:=ag.at i0 hi;have fQ:=du O;have:=Z r fQ;have yK:=aA.len;refine⟨p,ad,⟨i0,hi⟩,_,c1,⟨by omega,by omega⟩,⟨by omega,by omega⟩,⟨rfl,by omega,by omega,by omega,λch cq=>?_⟩,by dsimp only;omega⟩;rw[show(i+1).toNat=i.toNat+1 by omega,gT,O] at cq;rcases cK.1 cq with bL|bL;have:=vw ch bL;omega;obtain rfl:ch=r:=by simpa using bL
 omega;have:=vw r (by rw[ho (by omega)];exact O);omega
def axW:∀{l bw:J av} {seen:J o},l.map av.bi=bw.map av.bi->pU d seen l=pU d seen bw:=by
 intro l;induction l with
 |nil=>
  intro bw seen h;have:bw=[]:=by simpa using h.symm
  rw[this]
 |cons r l aL=>
  intro bw seen h;cases bw with
  |nil=>simp at h|cons ch bw=>simp only[gl,y9] at h;have h1:r.id=ch.id:=dV pd h.1;have h2:r.v=ch.v:=dV pR h.1;simp only[pU,h1,h2,aL h.2]
def ajH{l:J av}(h:l.map av.bi=bw.map av.bi):l.length=bw.length:=by simpa using dV hR h
def axV{l:J av}(h:l.map av.bi=bw.map av.bi):lz l d=lz bw d:=by unfold lz;rw[ajH h,axW h]
def agZ{l:J av}(h:l.map av.bi=bw.map av.bi):l.map (ia q)=bw.map (ia q):=by have e:ia q=(λp:o×J o=>((p.1,fz p.2 q p.2.length):bP))∘av.bi:=rfl;rw[e,<-ez,<-ez,h]
def P7.else{jb:H}{l:J av}{s:U}{e:o}(h:P7 u u' l q k s e)(he:∀b z,u b=none->u' b=some z->jb b=some z):
  ∃L,nw jb s L/\(e=0->L=eV k.toNat (l.map (ia q)))/\(e≠0->L=[]):=by
 rcases h.2 with⟨_,h1,rfl⟩|⟨h0,_,_,_,_,ab⟩
 exact⟨[],(aD.nil (H.le.refl jb) 0 3).own.cC,λh=>a6 h h1,λ_=>rfl⟩
 exact⟨_,(ab.own.le (u':=jb) λb z Z hu=>he b z (ab.fresh b Z) hu).cC,λ_=>rfl,λh=>a6 h0 h⟩
def Oy{t fb e:dC}{size bytes:N}{zs:J ao}(aR:j9 P t=some (e,size,bytes,zs))(cY:0<size){s x:U}{eD:J ao}{K:U->H->Prop}
  (ab:aD ai u e size s xs) (M:bt u x size eD) (h1:∀y∈eD,y.oneCell'=ak) (hm:s.n+x.n<=9223372036854775807) (Z:(s.n+x.n)*bytes<=140737488355328)
  (aq:∀ap u',aD ai u' e size ap (xs++eD)->ap.n=s.n+x.n->K ap u'):
  c4 P (dW #[t,t] fb #[.slice s.a s.n s.c,.slice x.a x.n x.c]) [.one .slice] u K:=
 abz aR cY ab.own M h1 hm Z λap u' h2 h3 lW _=>aq ap u' ⟨h2,lW.le ab.le ab.fresh,λbX cb=>lW.out ab.le ab.fresh bX cb⟩ h3
def Ints.part{s:U}{L:J o}(ag:Ints u s L){l h m:N}(h1:l<=h)(h2:h<=s.n)(h3:h<=m)(a7:m<=s.c):Ints u (s.part l h m 1) ((L.drop l).take (h-l)):=by have:=bt.part ag h1 h2 h3 a7;rw[y7,y7,<-Dh,<-JB] at this;exact this
def Ints.nil(u:H):Ints u ⟨none,0,0⟩ []:=(aD.nil (H.le.refl u) 0 1).own.cC
def Ints.get{s:U}{L:J o}(ag:Ints u s L)(h0:0<=x)(h1:x<(s.n:o)):∃p,s.a=some p/\∃y,L[x.toNat]?=some y/\u.cell? (p.add (x.toNat*1))=some (.int .i64 y):=by
 obtain⟨p,ad,I⟩:=ag.at h0 h1;have ae:=ag.len;have ar:x.toNat<L.length:=by omega
 refine⟨p,ad,L[x.toNat],cn ar,?_⟩;rw[I];simp[dr,ar]
structure cp where
 aG:o
 ls:U
 ag:U
 cH:o
 is:U
 bJ:J o
 hi:J o
 ids:J o
def tB(r:cp):J ao:=[.int .i64 r.aG,.slice r.ls.a r.ls.n r.ls.c,.slice r.ag.a r.ag.n r.ag.c,.int .u64 (dk r.cH),.int .u64 (dq r.cH),.slice r.is.a r.is.n r.is.c]
def Wk(r:cp):(tB r).length=6:=rfl
def aE7(r:cp):∀v∈tB r,v.oneCell'=ak:=by simp[tB,cF]
def x8(u:H)(s:U)(l:J cp):Prop:=bt u s 6 (l.flatMap tB)/\∀r∈l,Ints u r.ls r.bJ/\Ints u r.ag r.hi/\Ints u r.is r.ids
def x8.len{s:U}{l:J cp}(h:x8 u s l):s.n=l.length:=gY Wk (by decide) h.1
def x8.max{s:U}{l:J cp}(h:x8 u s l):s.n<=9223372036854775807:=jv (bt.cap h.1) (bt.max h.1)
def x8.mono{s:U}{l:J cp}(h:x8 u s l)(k:u.le u'):x8 u' s l:=⟨bt.mono h.1 k,λr O=>⟨(h.2 r O).1.mono k,(h.2 r O).2.1.mono k,(h.2 r O).2.2.mono k⟩⟩
def x8.at{s:U}{l:J cp}(h:x8 u s l)(h0:0<=x)(h1:x<(s.n:o)):∃p,s.a=some p/\∃q:cp,l[x.toNat]?=some q/\
  u.cell? (p.add (x.toNat*6))=some (.int .i64 q.aG)/\u.cell? ((p.add (x.toNat*6)).add 1)=some (.slice q.ls.a q.ls.n q.ls.c)/\u.cell? ((p.add (x.toNat*6)).add 2)=some (.slice q.ag.a q.ag.n q.ag.c)/\
  u.cell? ((p.add (x.toNat*6)).add 3)=some (.int .u64 (dk q.cH))/\u.cell? ((p.add (x.toNat*6)).add 4)=some (.int .u64 (dq q.cH))/\u.cell? ((p.add (x.toNat*6)).add 5)=some (.slice q.is.a q.is.n q.is.c):=by
 have ae:=h.len
 have ar:x.toNat<l.length:=by omega
 obtain⟨p,ad,I⟩:=bt.elem Wk (by decide) h.1 (cn ar)
 exact⟨p,ad,_,cn ar,I 0 _ rfl,I 1 _ rfl,I 2 _ rfl,I 3 _ rfl,I 4 _ rfl,I 5 _ rfl⟩
structure oF(r:cp)(d:o):Prop where
 dim:1<=d/\d<=64
 ids:BQ r.ids
 id:∀x∈r.ids,1<=x/\x<=1000000000
 shape:(r.aG=1/\r.bJ=[]/\r.hi=[]/\r.cH=0)∨(r.aG=2/\r.cH=0/\db r.bJ/\db r.hi/\(r.bJ.length:o)=d/\(r.hi.length:o)=d/\∀i:N,(i:o)<d->r.bJ.getD i 0<=r.hi.getD i 0)∨
  (r.aG=3/\r.hi=[]/\db r.bJ/\(r.bJ.length:o)=d/\mc r.cH)
def mL(r:cp)(v:J o):Prop:=(r.aG=2->∀i:N,i<v.length->r.bJ.getD i 0<=v.getD i 0/\v.getD i 0<=r.hi.getD i 0)/\(r.aG=3->fz r.bJ v r.bJ.length<=r.cH)
def XV:dk 0=0:=by decide
def Z5:dq 0=0:=by decide
structure DJ(u:H)(aG ss bc:U)(gF:J bP)(seen:J o)(rest:J cp):Prop where
 h:nw u aG gF
 s:Ints u ss seen
 r:x8 u bc rest
def DJ.mono{aG:U}{rest:J cp}(h:DJ u aG ss bc gF seen rest)(k:u.le u'):DJ u' aG ss bc gF seen rest:=⟨h.h.mono k,h.s.mono k,h.r.mono k⟩
structure Sound(l:J av)(q:J o)(k:o)(gF:J bP)(seen:J o)(rest:J cp):Prop where
 Dm:BQ seen
 kl:∀r∈rest,oF r q.length/\r.ids≠[]/\∀x∈r.ids,∃w∈l,w.id=x/\mL r w.v
 all:(seen++rest.flatMap (·.ids)).Perm (l.map (·.id))
 first:∀m:J av,(∀r∈m,r∈l)->m.map (·.id)=seen->gF=eV k.toNat (m.map (ia q))
def wB(x:o)(s:U):kp aH 22 1 #[(0,.agg #[.int .i64 x,.slice s.a s.n s.c])]=some (52,[.int .i64 x,.slice s.a s.n s.c]):=by kernel_rfl
def aD.rws{s:U}{m l:J av}(h:aD ai u e 2 s (m.flatMap cB))(ar:dS u t l)(hm:∀r∈m,r∈l):dS u s m:=⟨h.own.cC,λr O=>ar.2 r (hm r O)⟩
structure x4(v0 v iu cm:H):Prop where
 le:iu.le cm
 out:∀b z,v0 b=none->v b=some z->iu b=none/\cm b=some z
 new:∀b,cm b≠none->iu b≠none∨(v0 b=none/\cm b=v b)
def H.frame(v v0 iu:H):H:=λb=>match iu b with
 |some z=>some z|none=>match v0 b with
  |some _=>none|none=>v b
def Step.frame{iu:H}{w w':b6}(k:Step v0 [] w iu [] w')(hle:v0.le v)(ag:Sub v w):Step v [] w (v.frame v0 iu) [] w'/\x4 v0 v iu (v.frame v0 iu):=by
 have h0:∀b,v b=none->v0 b=none:=λb Z=>by
  cases e:v0 b with
  |none=>rfl|some z=>rw[hle _ _ e] at Z;cases Z
 refine⟨⟨λb z Z=>?_,k.os,k.tape,k.output,k.drawn,k.size,λb Z hu _=>k.rest b Z (h0 b hu) (by simp),λb Z hu=>?_,[],by simp,by simp⟩,⟨λb z Z=>?_,λb z h1 h2=>?_,λb Z=>?_⟩⟩;unfold H.frame at Z;split at Z;rename_i e;cases Z;exact k.sub _ _ e;split at Z;cases Z;rename_i e;rw[k.rest b (ag.lt Z) e (by simp)];exact ag _ _ Z;unfold H.frame;rw[k.jg b Z (h0 b hu),h0 b hu];exact hu;unfold H.frame;rw[Z];have:=k.jg b (ag.lt h2) h1;exact⟨this,by unfold H.frame;rw[this,h1];exact h2⟩;cases e:iu b with
 |some z=>exact .inl (by simp)|none=>
  cases fW:v0 b with
  |some z=>unfold H.frame at Z;rw[e,fW] at Z;exact a6 rfl Z|none=>exact .inr ⟨rfl,by unfold H.frame;rw[e,fW]⟩
def bt.else{s:U}{size:N}(h:bt u s size xs)(hu:∀g z,s.aj=some g->u g=some z->u' g=some z):bt u' s size xs:=
 ⟨h.len,h.cap,h.max,h.at'.imp id λ⟨p,h1,h2⟩=>⟨p,h1,λi v e=>by
  have I:=h2 i v e;unfold H.cell? at I ⊢;have Z:(p.add i).block=p.block:=by unfold ep;split<;>rfl
  split at I;rename_i c t f M;rw[hu _ _ (by simp[U.aj,h1,Z]) M];exact I;cases I⟩⟩
def IM(R:H->H->Prop):(ca:J aK)->hd ca (H->Prop)->hd ca (H->Prop)->Prop
 | [],r,ch=>∀u u',R u u'->r u->ch u'|_::ca,K,fA=>∀x,IM R ca (K x) (fA x)
def amp{R:H->H->Prop}(b1:R u u'):∀(ca:J aK) (K fA:hd ca (H->Prop)) (vs:J ao),IM R ca K fA->(hG ca K vs λr=>r u)->hG ca fA vs λr=>r u':=by
 intro ca;induction ca with
 |nil=>intro K fA vs h k;cases vs with
  |nil=>exact h _ _ b1 k|cons=>simp[hG] at k
 |cons t ca aL=>
  intro K fA vs h k;cases vs with
  |nil=>simp[hG] at k|cons v vs=>simp only[hG] at k ⊢;obtain⟨x,rfl,M⟩:=aK.Ub k;exact(aK.uT t x _).2 (aL (K x) (fA x) vs (h x) M)
def ie.frame{f:ju}{args:cu ao}{ss:J bj}{K fA:hd (gD ss) (H->Prop)}(h:ie P f args ss v0 K)(hle:v0.le v)(hk:IM (x4 v0 v) (gD ss) K fA):ie P f args ss v fA:=by intro w hw;refine(h w (hw.mono hle)).mono ?_;rintro e w' ⟨x,u',he,⟨vs,aA,M,I⟩,ag⟩;obtain⟨h1,h2⟩:=ag.frame hle hw;exact⟨x,_,he,⟨vs,aA,M,amp h2 _ _ _ _ hk I⟩,h1⟩
def zB.frame{args:cu ao}{ss:J bj}{K fA:hd (gD ss) (H->Prop)}(h:zB P fv args ss v0 K)(hle:v0.le v)(hk:IM (x4 v0 v) (gD ss) K fA):zB P fv args ss v fA:=by obtain⟨l,ac,h⟩:=h;refine⟨l,ac,λw hw=>?_⟩;obtain⟨fn,tmps,assign,body,ah,b1⟩:=h w (hw.mono hle);refine⟨fn,tmps,assign,body,ah,b1.mono ?_⟩;rintro e w' ⟨x,u',he,⟨vs,aA,M,I⟩,ag⟩;obtain⟨h1,h2⟩:=ag.frame hle hw;exact⟨x,_,he,⟨vs,aA,M,amp h2 _ _ _ _ hk I⟩,h1⟩
def hL.frame{args:cu ao}{ss:J bj}{K fA:hd (gD ss) (H->Prop)}(h:hL P fv args ss v0 K)(hle:v0.le v)(hk:IM (x4 v0 v) (gD ss) K fA):hL P fv args ss v fA:=by obtain⟨f,pre,cap,ac,Z,h⟩:=h;exact⟨f,pre,cap,ac,Z,h.frame hle hk⟩
def tm.frame{args:cu ao}{ss:J bj}{K fA:hd (gD ss) (H->Prop)}(h:tm P fv args ss v0 K)(hle:v0.le v)(hk:IM (x4 v0 v) (gD ss) K fA):tm P fv args ss v fA:=
 h.imp (λh=>h.frame hle hk) λh=>h.frame hle hk
def Step.less{jb:H}{bs c5:J N}{w w':b6}(h:Step u bs w u' c5 w')(k:jb.le u'):Step u bs w jb c5 w':=
 ⟨h.sub.mono k,h.os,h.tape,h.output,h.drawn,h.size,h.rest,λb Z hu=>(by
  cases e:jb b with
  |none=>rfl|some z=>have:=h.jg b Z hu;rw[k _ _ e] at this;cases this),h.more⟩
def ZO:(ca:J aK)->hd ca (H->Prop)->hd ca (H->Prop)
 | [],r=>λu'=>∃jb,jb.le u'/\r jb|_::ca,K=>λx=>ZO ca (K x)
def aBl:∀(ca:J aK) (K:hd ca (H->Prop)) (vs:J ao),(hG ca (ZO ca K) vs λr=>r u')->∃jb,jb.le u'/\hG ca K vs λr=>r jb:=by
 intro ca;induction ca with
 |nil=>intro K vs h;cases vs with
  |nil=>exact h|cons=>simp[hG] at h
 |cons t ca aL=>
  intro K vs h;cases vs with
  |nil=>simp[hG] at h|cons v vs=>simp only[hG] at h ⊢;obtain⟨x,rfl,M⟩:=aK.Ub h;obtain⟨jb,h1,h2⟩:=aL (K x) vs M;exact⟨jb,h1,(aK.uT t x _).2 h2⟩
def ie.weaken{f:ju}{args:cu ao}{ss:J bj}{K:hd (gD ss) (H->Prop)}(h:ie P f args ss u (ZO (gD ss) K)):ie P f args ss u K:=by intro w hw;refine(h w hw).mono ?_;rintro e w' ⟨v,u',he,⟨vs,hk,aA,I⟩,ag⟩;obtain⟨jb,hle,c7⟩:=aBl _ _ _ I;exact⟨v,jb,he,⟨vs,hk,aA,c7⟩,ag.less hle⟩
def Z1{P:N->Prop}(h:∃n,P n):∃n,P n/\∀m,P m->n<=m:=by
 obtain⟨n,ae⟩:=h;induction n using Nat.strongRecOn with
 |ind n aL=>rcases Classical.em (∃m,m<n/\P m) with⟨m,hm,ad⟩|ed;exact aL m hm ad;exact⟨n,ae,λm ad=>Nat.le_of_not_lt λbC=>ed ⟨m,bC,ad⟩⟩
open Classical in
def least(P:N->Prop):N:=if h:∃n,P n then Classical.choose (Z1 h) else 0
def FL{P:N->Prop}(h:∃n,P n):P (least P):=by unfold least;rw[Bd h];exact(Classical.choose_spec (Z1 h)).1
def least_le{P:N->Prop}{n:N}(h:P n):least P<=n:=by unfold least;rw[Bd ⟨n,h⟩];exact(Classical.choose_spec (Z1 ⟨n,h⟩)).2 n h
def rt(w:o):o:=(least λn=>w<((n:o)+1)*((n:o)+1):N)
def aAk(h0:0<=x)(h:x<y):x*x<y*y:=by have h1:x*x<=x*y:=JC (by omega) h0;have h2:x*y<y*y:=Int.mul_lt_mul_of_pos_right h (by omega);omega
def JY(h0:0<=x)(h:x<=y):x*x<=y*y:=Gf h h h0 (by omega)
def Dp(h0:0<=w):0<=rt w/\rt w*rt w<=w/\w<(rt w+1)*(rt w+1):=by
 have hex:∃n:N,w<((n:o)+1)*((n:o)+1):=⟨w.toNat,by
  have e:((w.toNat:N):o)=w:=by omega
  rw[e];have:w*1<=(w+1)*(w+1):=Gf (by omega) (by omega) (by omega) (by omega);have h2:(w+1)*(w+1)=w*(w+1)+(w+1):=by grind
  have h3:0<=w*(w+1):=zc h0 (by omega);omega⟩
 have h1:=FL hex;unfold rt;generalize ae:(least λn=>w<((n:o)+1)*((n:o)+1))=n at*;refine⟨by omega,?_,h1⟩;cases n with
 |zero=>simpa using h0|succ m=>
  have hm:¬w<((m:o)+1)*((m:o)+1):=λbC=>by have:=least_le (P:=λn:N=>w<((n:o)+1)*((n:o)+1)) bC;omega
  have e:((m+1:N):o)=(m:o)+1:=by omega
  rw[e];omega
def rt_eq{s:o}(h0:0<=s)(h1:s*s<=w)(h2:w<(s+1)*(s+1)):s=rt w:=by
 have hw:0<=w:=by have:=zc h0 h0;omega
 obtain⟨qC,pf,tc⟩:=Dp hw;by_cases aE:s<rt w;have:=JY (show 0<=s+1 by omega) (show s+1<=rt w by omega);omega;by_cases Z:rt w<s;have:=JY (show 0<=rt w+1 by omega) (show rt w+1<=s by omega);omega;omega
def abn(h:mc w):rt w<18446744073709551616:=by obtain⟨qC,pf,tc⟩:=Dp h.1;by_cases Z:18446744073709551616<=rt w;have:=JY (show(0:o)<=18446744073709551616 by omega) Z;have:=h.2;omega;omega
def u2(bJ hi q:J o):N->o
 |0=>0|n+1=>u2 bJ hi q n+(if q.getD n 0<bJ.getD n 0 then ti (bJ.getD n 0) (q.getD n 0) else 0)+(if hi.getD n 0<q.getD n 0 then ti (q.getD n 0) (hi.getD n 0) else 0)
def ad9{bJ hi:J o}(ar:db bJ)(bV:db hi)(aO:db q)(aP:bJ.length=q.length)(aC:hi.length=q.length):∀n,n<=q.length->0<=u2 bJ hi q n/\u2 bJ hi q n<=n*36893488113059364872:=by
 intro n;induction n with
 |zero=>intro _;simp[u2]
 |succ n aL=>intro ae;obtain⟨i0,i1⟩:=aL (by omega);have aa:=ab3 (ar.2 n (by omega)) (aO.2 n (by omega));have a2:=ab3 (aO.2 n (by omega)) (bV.2 n (by omega));unfold u2;split<;>split<;>omega
def Hi(d cH:o):o:=if(if rt cH*rt cH=cH then rt cH else rt cH+1)<rt d then(rt d-(if rt cH*rt cH=cH then rt cH else rt cH+1))*(rt d-(if rt cH*rt cH=cH then rt cH else rt cH+1)) else 0
def o4(r:cp)(q:J o):o:=if r.aG=2 then u2 r.bJ r.hi q q.length else if r.aG=3 then Hi (fz r.bJ q r.bJ.length) r.cH else 0
def aoq{cH:o}(aw:mc d)(O:mc cH):mc (Hi d cH):=by
 unfold Hi;have h1:=abn aw;have h2:=(Dp aw.1).1;have h3:=(Dp O.1).1;generalize ht:(if rt cH*rt cH=cH then rt cH else rt cH+1)=t;have t0:0<=t:=by rw[<-ht];split<;>omega
 split;rename_i bC;refine⟨zc (by omega) (by omega),?_⟩;have:=JY (show 0<=rt d-t by omega) (show rt d-t<=18446744073709551615 by omega);omega;exact⟨by omega,by omega⟩
def awK{r:cp}(O:oF r q.length)(aO:db q):mc (o4 r q):=by unfold o4;rcases O.shape with⟨e,_⟩|⟨e,_,v1,v2,eZ,fZ,hle⟩|⟨e,aC,v1,eZ,CH⟩;rw[az (by omega),az (by omega)];exact⟨by omega,by omega⟩;rw[aV e];have:=ad9 v1 v2 aO (by omega) (by omega) q.length (cg _);have:=aO.1;exact⟨by omega,by omega⟩;rw[az (by omega),aV e];exact aoq (OU v1 aO (by omega)) CH
def BB(_hx:dn x)(ah:dn y):x=dk (fi x y)/\y=dq (fi x y):=by unfold dn at*;unfold dk dq fi;omega
def atc(h1:dk x=dk y)(h2:dq x=dq y):x=y:=by rw[<-sg x,<-sg y,h1,h2]
def zA(q:J o)(k:o)(gF:J bP)(rest:J cp):Prop:=rest=[]∨(k<=gF.length/\∀r∈rest,(gF.getD (k-1).toNat default).2<o4 r q)
def dH(a b:U):Prop:=∀g,a.aj=some g->b.aj≠some g
def dH.symm{a b:U}(h:dH a b):dH b a:=λg W gQ=>h g gQ W
def qM(D:J U)(u v:H):Prop:=∀b z,u b=some z->(∀s∈D,s.aj≠some b)->v b=some z
def qM.refl(D:J U)(u:H):qM D u u:=λ_ _ h _=>h
def qM.trans{w:H}(h:qM D u v)(k:qM D v w):qM D u w:=λb z Z aw=>k b z (h b z Z aw) aw
def gN.bM{s:U}(h:gN u v s)(ag:s∈D):qM D u v:=λb z Z aw=>h b z Z (aw s ag)
def qM.own{k:N}(hk:qM D u v)(h:aD ai u e k t xs)(ac:∀s∈D,∀g,s.aj=some g->ai g=none)(aw:∀s∈D,dH s t):aD ai v e k t xs:=
 ⟨h.own.le λb z Z hu=>hk b z hu λs ag W=>aw s ag b W Z,λb z Z=>hk b z (h.le b z Z) λs ag W=>(by rw[ac s ag b W] at Z;cases Z),h.fresh⟩
def aD.eu{aS:H}{k gq dQ:N}{s:U}{eD:J ao}(h:aD ai u e k s xs)(hu:u.le aS)(bL:aD aS v gq dQ t eD):dH s t:=λg W gQ=>by
 have h1:=bL.fresh g gQ;have h2:=dF h W;cases M:u g with
 |none=>exact h2 M|some z=>rw[hu _ _ M] at h1;cases h1
def cp.jj(r:cp):J U:=[r.ls,r.ag,r.is]
structure x7(ai u:H)(r:cp):Prop where
 l:aD ai u 3 1 r.ls (r.bJ.flatMap encI)
 h:aD ai u 3 1 r.ag (r.hi.flatMap encI)
 i:aD ai u 3 1 r.is (r.ids.flatMap encI)
def qM.aw5{r:cp}(hk:qM D u v)(h:x7 ai u r)(ac:∀s∈D,∀g,s.aj=some g->ai g=none)(aw:∀s∈D,∀t∈r.jj,dH s t):x7 ai v r:=
 ⟨hk.own h.l ac λs ag=>aw s ag _ (by simp[cp.jj]),hk.own h.h ac λs ag=>aw s ag _ (by simp[cp.jj]),hk.own h.i ac λs ag=>aw s ag _ (by simp[cp.jj])⟩
def qR(aG ss bc:U)(rest:J cp):J U:=aG::ss::bc::rest.flatMap cp.jj
structure jB(ai u:H)(aG ss bc:U)(gF:J bP)(seen:J o)(rest:J cp):Prop where
 h:aD ai u 68 3 aG (gF.flatMap fD)
 s:aD ai u 3 1 ss (seen.flatMap encI)
 r:aD ai u 102 6 bc (rest.flatMap tB)
 g:∀r∈rest,x7 ai u r
 eu:(qR aG ss bc rest).Pairwise dH
def jB.fresh{aG:U}{rest:J cp}(h:jB ai u aG ss bc gF seen rest):∀s∈qR aG ss bc rest,∀g,s.aj=some g->ai g=none:=by intro s ag;simp only[qR,cE,ee] at ag;rcases ag with rfl|rfl|rfl|⟨r,O,ag⟩;exact h.h.fresh;exact h.s.fresh;exact h.r.fresh;have:=h.g r O;simp only[cp.jj,cE,qA,qB] at ag;rcases ag with rfl|rfl|rfl;exact this.l.fresh;exact this.h.fresh;exact this.i.fresh
def jB.known{aG:U}{rest:J cp}(h:jB ai u aG ss bc gF seen rest):∀s∈qR aG ss bc rest,∀g,s.aj=some g->u g≠none:=by intro s ag g W;simp only[qR,cE,ee] at ag;rcases ag with rfl|rfl|rfl|⟨r,O,ag⟩;exact dF h.h W;exact dF h.s W;exact dF h.r W;have:=h.g r O;simp only[cp.jj,cE,qA,qB] at ag;rcases ag with rfl|rfl|rfl;exact dF this.l W;exact dF this.h W;exact dF this.i W
def jB.mono{aG:U}{rest:J cp}(h:jB ai u aG ss bc gF seen rest)(k:u.le u'):jB ai u' aG ss bc gF seen rest:=
 ⟨h.h.mono k,h.s.mono k,h.r.mono k,λr O=>⟨(h.g r O).l.mono k,(h.g r O).h.mono k,(h.g r O).i.mono k⟩,h.eu⟩
def jB.le{aG:U}{rest:J cp}(h:jB ai u aG ss bc gF seen rest):ai.le u:=h.h.le
def jB.read{aG:U}{rest:J cp}(h:jB ai u aG ss bc gF seen rest):DJ u aG ss bc gF seen rest:=
 ⟨h.h.fh,h.s.ints,h.r.own.cC,λr O=>⟨(h.g r O).l.ints,(h.g r O).h.ints,(h.g r O).i.ints⟩⟩
def jB.else{aG:U}{rest:J cp}(h:jB ai u aG ss bc gF seen rest)(he:∀b z,ai b=none->u b=some z->u' b=some z):DJ u' aG ss bc gF seen rest:=by
 have one:∀{e k:N} {s:U} {xs:J ao},aD ai u e k s xs->bt u' s k xs:=λab=>(ab.own.le (u':=u') λb z Z hu=>he b z (ab.fresh b Z) hu).cC;have ints:∀{e:N} {s:U} {l:J o},aD ai u e 1 s (l.flatMap encI)->Ints u' s l:=λab=>by have:=one ab;rw[va] at this;exact this
 exact⟨one h.h,ints h.s,one h.r,λr O=>⟨ints (h.g r O).l,ints (h.g r O).h,ints (h.g r O).i⟩⟩
def cp.core(r:cp):o×o×J o×J o×J o:=(r.aG,r.cH,r.bJ,r.hi,r.ids)
def mn(x y:N->o):N->o
 |0=>0|n+1=>mn x y n+x n*y n
def Wa(x:N->o)(n:N):0<=mn x x n:=by
 induction n with
 |zero=>exact l4 _|succ n aL=>
  have:0<=x n*x n:=by by_cases h:0<=x n;exact zc h h;exact aaS (by omega) (by omega)
  unfold mn;omega
def aps(a b:o)(x y:N->o)(n:N):mn (λi=>a*x i-b*y i) (λi=>a*x i-b*y i) n=a*a*mn x x n-2*(a*b)*mn x y n+b*b*mn y y n:=by
 induction n with
 |zero=>simp[mn]|succ n aL=>
  unfold mn;rw[aL];generalize mn x x n=p;generalize mn x y n=q;generalize mn y y n=r;generalize x n=u;generalize y n=v
  grind
def aoZ(x y:N->o)(n:N):mn x y n*mn x y n<=mn x x n*mn y y n:=by
 have M:=Wa x n;have ah:=Wa y n;have h:=λa b=>(aps a b x y n)▸Wa (λi=>a*x i-b*y i) n;generalize mn x x n=p at*;generalize mn y y n=r at*;generalize mn x y n=q at*;by_cases O:0<r;have h1:=h r q;have e:r*r*p-2*(r*q)*q+q*q*r=r*(p*r-q*q):=by grind
 rw[e] at h1;by_cases I:0<=p*r-q*q;omega;have:=Int.mul_neg_of_pos_of_neg O (show p*r-q*q<0 by omega);omega;have lY:r=0:=by omega
 subst lY;have h1:=h 1 (p+1);have h2:=h 1 (-(p+1));have aP:(1:o)*1*p-2*(1*(p+1))*q+(p+1)*(p+1)*0=p-2*((p+1)*q):=by grind
 have aC:(1:o)*1*p-2*(1*(-(p+1)))*q+(-(p+1))*(-(p+1))*0=p+2*((p+1)*q):=by grind
 rw[aP] at h1;rw[aC] at h2;have aO:q=0:=by by_cases h3:1<=q;have:(p+1)*1<=(p+1)*q:=JC h3 (by omega);omega;by_cases a7:q<=-1;have:(p+1)*q<=(p+1)*(-1):=JC a7 (by omega);omega;omega
 rw[aO];omega
def alI(a b:J o)(n:N):fz a b n=mn (λi=>a.getD i 0-b.getD i 0) (λi=>a.getD i 0-b.getD i 0) n:=by
 induction n with
 |zero=>rfl|succ n aL=>unfold fz mn;rw[aL];rfl
def aAj(c v q:J o)(n:N):fz c q n=fz c v n+fz v q n+2*mn (λi=>c.getD i 0-v.getD i 0) (λi=>v.getD i 0-q.getD i 0) n:=by
 induction n with
 |zero=>rfl|succ n aL=>
  unfold fz mn ti;rw[aL];generalize c.getD n 0=x;generalize v.getD n 0=y;generalize q.getD n 0=Y
  grind
def aor{D E F P cH:o}(eM:D=E+F+2*P)(px:0<=E)(qY:0<=F)(tE:0<=D)(vd:P*P<=E*F)(WV:E<=cH):Hi D cH<=F:=by
 obtain⟨s0,s1,_⟩:=Dp tE;obtain⟨t0,t1,t2⟩:=Dp (show 0<=cH by omega);unfold Hi;generalize aR:(if rt cH*rt cH=cH then rt cH else rt cH+1)=T;have nz:0<=T/\cH<=T*T:=by rw[<-aR];split;rename_i e;exact⟨t0,by omega⟩;exact⟨by omega,by omega⟩
 generalize rt D=s at*;split;rename_i bC;by_cases I:(s-T)*(s-T)<=F;exact I;exfalso;by_cases ad:P<=T*(s-T);have e:s*s=T*T+(s-T)*(s-T)+2*(T*(s-T)):=by grind
 omega;have aB:0<=T*(s-T):=zc nz.1 (by omega);have h1:=aAk aB (show T*(s-T)<P by omega);have h2:E*F<=(T*T)*((s-T)*(s-T)):=Gf (by omega) (by omega) qY (by omega);have e:T*(s-T)*(T*(s-T))=(T*T)*((s-T)*(s-T)):=by grind
 omega;exact qY
def aox{bJ hi v:J o}:∀n,(∀i,i<n->bJ.getD i 0<=v.getD i 0/\v.getD i 0<=hi.getD i 0)->u2 bJ hi q n<=fz v q n:=by
 intro n;induction n with
 |zero=>intro _;exact l4 _
 |succ n aL=>
  intro h;have h1:=aL λi hi=>h i (by omega);obtain⟨h2,h3⟩:=h n (by omega);unfold u2 fz ti;generalize bJ.getD n 0=a at*;generalize hi.getD n 0=b at*;generalize v.getD n 0=x at*;generalize q.getD n 0=y at*;have aB:0<=(x-y)*(x-y):=by by_cases h:0<=x-y;exact zc h h;exact aaS (by omega) (by omega)
  have aP:y<a->(a-y)*(a-y)<=(x-y)*(x-y):=λ_=>JY (by omega) (by omega);have aC:b<y->(y-b)*(y-b)<=(x-y)*(x-y):=λ_=>by
   have:=JY (show 0<=y-b by omega) (show y-b<=y-x by omega);have e:(y-x)*(y-x)=(x-y)*(x-y):=by grind
   omega
  split<;>split<;>omega
def awM{r:cp}{v:J o}(O:oF r q.length)(aA:v.length=q.length)(AI:db v)(aO:db q)(b4:mL r v):o4 r q<=fz v q v.length:=by
 unfold o4;have qY:=(JX AI aO v.length (cg _) (by omega)).1;rcases O.shape with⟨e,_⟩|⟨e,_,v1,v2,eZ,fZ,hle⟩|⟨e,aC,v1,eZ,CH⟩;rw[az (by omega),az (by omega)];exact qY;rw[aV e,<-aA];exact aox _ λi hi=>b4.1 e i hi;rw[az (by omega),aV e];have ar:r.bJ.length=v.length:=by omega
 have px:=(JX v1 AI r.bJ.length (cg _) (by omega)).1;have eM:=(JX v1 aO r.bJ.length (cg _) (by omega)).1;have h3:=aAj r.bJ v q r.bJ.length;have WV:=b4.2 e;rw[ar] at px eM h3 WV ⊢;refine aor h3 px qY eM ?_ WV;rw[alI r.bJ v,alI v q];exact aoZ _ _ _
def rowsOf:∀(S:J o) (L:J av),S.Perm (L.map (·.id))->∃m:J av,m.Perm L/\m.map (·.id)=S:=by
 intro S;induction S with
 |nil=>
  intro L h;cases L with
  |nil=>exact⟨[],.refl _,rfl⟩|cons r L=>have:=h.length_eq;simp at this
 |cons x S aL=>
  intro L h;obtain⟨r,O,M⟩:=bk.1 (h.mem_iff.1 (gh ..));obtain⟨A,B,rfl⟩:=aa0 O;have bE:S.Perm ((A++B).map (·.id)):=by
   have fO:(x::S).Perm (x::(A++B).map (·.id)):=by refine h.trans ?_;rw[dY,gl,dY,M];exact xJ
   exact(aa1 x).1 fO
  obtain⟨m,E2,rR⟩:=aL _ bE;exact⟨r::m,(E2.cons r).trans xJ.symm,by rw[gl,rR,M]⟩
def aA5{k:N}{a:J bP}(aE:k<=a.length):∀{b:J bP},(∀x∈b,∀y∈eV k a,bC x y=ax)->eV k (b++a)=eV k a:=by
 intro b;induction b with
 |nil=>intro _;rfl
 |cons x b aL=>intro h;have h1:=aL λY aB=>h Y (gd _ aB);rw[vO,ack (by rw[eC];omega) (by rw[h1];exact h x (gh ..)),h1]
def Sound.parts{rest:J cp}(h:Sound L q k gF seen rest):∃m1 m2:J av,(m1++m2).Perm L/\m1.map (·.id)=seen/\m2.map (·.id)=rest.flatMap (·.ids)/\gF=eV k.toNat (m1.map (ia q)):=by
 obtain⟨m,E2,rR⟩:=rowsOf _ L h.all;have ag:(m.take seen.length).map (·.id)=seen:=by rw[JB,rR,SZ]
 have aw:(m.drop seen.length).map (·.id)=rest.flatMap (·.ids):=by rw[Dh,rR,S0]
 refine⟨m.take seen.length,m.drop seen.length,by rw[r6];exact E2,ag,aw,?_⟩;exact h.first _ (λr O=>E2.mem_iff.1 (nW O)) ag
def Sound.co{rest:J cp}(h:Sound L q k gF seen rest):∀r∈rest,(∀x∈r.bJ,k2 x)/\∀x∈r.hi,k2 x:=by
 intro r O;have all:∀{v:J o},db v->∀x∈v,k2 x:=λaA x M=>by obtain⟨i,hi,rfl⟩:=pe M;have:=aA.2 i hi;rwa[dr,cn hi] at this
 rcases(h.kl r O).1.shape with⟨_,aP,aC,_⟩|⟨_,_,v1,v2,_,_,_⟩|⟨_,aC,v1,_,_⟩;rw[aP,aC];exact⟨λx M=>(by cases M),λx M=>(by cases M)⟩;exact⟨all v1,all v2⟩;rw[aC];exact⟨all v1,λx M=>(by cases M)⟩
def abi(Y:o×o×J o×J o×J o):cp:=⟨Y.1,⟨none,0,0⟩,⟨none,0,0⟩,Y.2.1,⟨none,0,0⟩,Y.2.2.1,Y.2.2.2.1,Y.2.2.2.2⟩
def ax2(l:J (o×o×J o×J o×J o)):(l.map abi).map cp.core=l:=by rw[ez];exact Gg _
def Sound.apa{rest:J cp}(h:Sound L q k gF seen rest)(aO:kH L q)(hk:1<=k)(I:zA q k gF rest):gF=eV k.toNat (L.map (ia q)):=by
 obtain⟨m1,m2,ad,ag,aw,e⟩:=h.parts;have CE:((m2++m1).map (ia q)).Perm (L.map (ia q)):=(List.perm_append_comm.trans ad).map _;rw[<-DB CE,dY];rcases I with I|⟨hlen,I⟩;have:m2=[]:=by have:=dV hR aw;rw[I] at this;exact ly (by simpa using this)
 rw[this,e];rfl;have ar:(eV k.toNat (m1.map (ia q))).length=k.toNat:=by rw[<-e];have:=zq k.toNat (m1.map (ia q));rw[<-e] at this;omega
 have pG:k.toNat<=(m1.map (ia q)).length:=by have:=zq k.toNat (m1.map (ia q));omega
 rw[aA5 pG λx M y ah=>?_,e];obtain⟨w,hw,rfl⟩:=bk.1 M;have au6:w∈L:=ad.mem_iff.1 (lf _ hw);have b7:w.id∈rest.flatMap (·.ids):=by rw[<-aw];exact hS hw
 obtain⟨r,O,tW⟩:=ee.1 b7;obtain⟨It,_,eh⟩:=h.kl r O;obtain⟨w',kT,he,b4⟩:=eh _ tW;have sB:w'=w:=by
  have bY:=aO.rows.nodup;rw[N8,ta,nX] at bY;obtain⟨i,hi,rfl⟩:=pe kT;obtain⟨j,aM,rfl⟩:=pe au6;by_cases h1:i<j;exact a6 he (bY i j hi aM h1);by_cases h2:j<i;exact a6 he.symm (bY j i aM hi h2);have:i=j:=by omega
  subst this;rfl
 subst sB;obtain⟨Fu,AI⟩:=aO.rows.v _ kT;have aFG:=awM It (by omega) AI aO.Ug b4;have pD:=I r O;have Ia:y.2<=(gF.getD (k-1).toNat default).2:=by
  have oZ:=T3 k.toNat (m1.map (ia q));rw[<-e] at oZ ah ar;obtain⟨i,hi,rfl⟩:=pe ah;have yA:(k-1).toNat<gF.length:=by omega
  rw[dr,cn yA];show gF[i].2<=gF[(k-1).toNat].2;by_cases gE:i=(k-1).toNat;subst gE;exact l4 _;have:=nX.1 oZ i (k-1).toNat hi yA (by omega);rw[Cx] at this;omega
 rw[Cx];left;show y.2<fz w'.v q w'.v.length;omega
def Dn{kF:J av}(aw:1<=d/\d<=64)(hlen:kF.length<=512)(bY:(kF.map (·.id)).Nodup)(h:∀p∈kF.map av.bi,1<=p.1/\p.1<=1000000000/\(p.2.length:o)=d/\db p.2):gX kF d:=
 ⟨aw,hlen,λr O=>⟨(h r.bi (hS O)).1,(h r.bi (hS O)).2.1⟩,bY,λr O=>(h r.bi (hS O)).2.2⟩
end
