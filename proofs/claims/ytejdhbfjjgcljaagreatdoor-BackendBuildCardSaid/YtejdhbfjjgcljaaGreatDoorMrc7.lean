/- Texts of mine, joined and packed by pack.py. -/
import Derived.Test.YtejdhbfjjgcljaaGreatDoorMrc6
import Derived.Lib.EndianBits
import Derived.Shelf.SlSortCmp.Whole1
set_option linter.all false
open Go renaming Program->dR,Value->ao,World->b6,TypeId->dC,FuncId->ju,Addr->ba,callFunc->qw
open _root_ renaming Nat->N,List->J,Option->ay,Array->cu,Int->o,Bool->aI,absurd->a6,Inhabited->lx
open Bool renaming true->ak,false->ax
open Go.IntKind renaming i64->ci,wrap->cw,u64->bR
open Go.Made renaming depth->uz
open Go.Instr renaming typeAssert->s7
open Go.Builtin renaming clear_->pQ,zeroCells->vP
open Go.World renaming frozen?->F6
open Go.Proofs.Tryz renaming prog->aH
open Go.Value renaming agg->cV,int->cG,pointer->gS,slice->dX,oneCell'->cF
open Int renaming fdiv->er,tdiv->gw
open List.Perm renaming cons->iL,trans->Be
open List.Pairwise renaming nil->mE
open Go.Sort renaming ahead->uF
open Go.Addr renaming mk->cr
open List renaming replicate->eU,length->hR,flatMap->xL
set_option maxRecDepth 100000
noncomputable section
namespace Go.Proofs.YtejdhbfjjgcljaaGreatDoor
open H
section
variable{u ai:H}{n:N}{s:U}{l:J bP}{j:o}{K:H->Prop}
def awx:nS aH 265 "Len" 171 ax=ak:=by kernel_rfl
def awy:nS aH 265 "Less" 325 ax=ak:=by kernel_rfl
def nSwap:nS aH 265 "Swap" 326 ax=ak:=by kernel_rfl
def awA:nS aH 265 "Push" 328 ak=ak:=by kernel_rfl
def awz:nS aH 265 "Pop" 327 ak=ak:=by kernel_rfl
def ayO:qH aH 263=some (.one .slice):=by kernel_rfl
def acx:aH.underlying 265=some (.pointer 263):=by kernel_rfl
def al2:j9 aH 263=some (68,3,24,[.int .i64 0,.int .u64 0,.int .u64 0]):=by kernel_rfl
def aee(x y Y:o):kp aH 263 1 #[(0,.agg #[.int .i64 x,.int .u64 y,.int .u64 Y])]=some (68,[.int .i64 x,.int .u64 y,.int .u64 Y]):=by kernel_rfl
def awB:hl aH 171=ak:=by kernel_rfl
def awC:hl aH 325=ak:=by kernel_rfl
def awF:hl aH 326=ak:=by kernel_rfl
def awE:hl aH 328=ak:=by kernel_rfl
def awD:hl aH 327=ak:=by kernel_rfl
def aD.front{e k:N}{xs:J ao}(h:aD ai u e k s xs){m:N}(hm:m<=s.n):aD ai u e k (s.part 0 m s.c k) (xs.take (m*k))/\(s.part 0 m s.c k).aj=s.aj/\(s.part 0 m s.c k).n=m:=by
 have aE:(s.part 0 m s.c k).a=s.a:=by unfold U.part;simp only;split;rfl;rw[Dd];cases s.a<;>simp[Addr.add_zero']
 have Z:(s.part 0 m s.c k).aj=s.aj:=by unfold U.aj;rw[aE]
 refine⟨⟨⟨?_,?_⟩,h.le,λg W=>h.fresh g (Z▸W)⟩,Z,rfl⟩;show _=(m-0)*k;rw[gL,h.own.len,xH,A9 (r2 _ hm)];rcases h.own.is with h0|⟨g,cur,aP,aC,c0,ff,eX,lp⟩;left;subst h0;have:m=0:=by simpa using hm
 subst this;simp[U.part];right;refine⟨g,cur,aE.trans aP,aC,?_,?_,?_,?_⟩;show m-0<=s.c-0;omega;show s.c-0<=_;omega;show cur.size=(s.c-0)*k;rw[xH];exact eX;show cur.toList.take ((m-0)*k)=_;rw[xH,<-lp,Ga,A9 (r2 _ hm)]
structure qN(ai:H)(n:N)(u:H)(l:J bP):Prop where
 ex:∃s:U,u n=some (.cells #[.slice s.a s.n s.c] 263 (0,0))/\aD ai u 68 3 s (l.flatMap fD)/\s.aj≠some n
 out:ai n=none
 small:l.length<=1000000
def aak(n:N):ao:=.iface 265 (.pointer (some (cr n 0 none)))
def aal{name:String}{f:ju}(hm:nS aH 265 name f ax=ak)(ae:u n=some (.cells #[.slice s.a s.n s.c] 263 (0,0)))(w:b6)(hw:Sub u w):
  (method (aH.types.size+uz) 265 (.pointer (some (cr n 0 none))) name).run aH w=.ok (f,.slice s.a s.n s.c) w:=by
 obtain⟨i,m,h1,h2,h3,a7⟩:=AT hm
 obtain⟨dQ,de⟩:=zZ
 rw[de]
 refine abo h1 h2 h3 a7 acx ?_
 have I:u.cell? (cr n 0 none)=some (.slice s.a s.n s.c):=a1 ae 0
 have ys:=hw.cell I
 exact IW ayO (cr n 0 none) (vs:=[.slice s.a s.n s.c]) rfl (aaV _ _ _ _ _ rfl (λj v aM=>by
  cases j with
  |zero=>simp at aM;subst aM;exact ys|succ j=>simp at aM)) (λc I=>⟨_,rfl,ys⟩)
def azu{i:o}{K:aI->H->Prop}(ag:nw u s l)(i0:0<=i)(i1:i<l.length)(gJ:0<=j)(jY:j<l.length)
  (h:K (bC (l.getD i.toNat default) (l.getD j.toNat default)) u):ac7 s i j u K:=by
 have ae:=ag.len
 apply aCl
 obtain⟨p,ad,x,M,bK,c1,c2⟩:=ag.at gJ (show j<(s.n:o) by omega)
 obtain⟨q,aO,y,ah,d0,d1,d2⟩:=ag.at i0 (show i<(s.n:o) by omega)
 rw[K8 M,K8 ah] at h
 exact⟨q,aO,⟨i0,by omega⟩,p,ad,⟨gJ,by omega⟩,_,d0,_,d1,_,d2,_,bK,_,c1,_,c2,JW h⟩
def azv{i:o}(ab:aD ai u 68 3 s (l.flatMap fD))(i0:0<=i)(i1:i<l.length)(gJ:0<=j)(jY:j<l.length)
  (h:∀u',aD ai u' 68 3 s ((jA l i.toNat j.toNat).flatMap fD)->gN u u' s->K u'):ac8 s i j u K:=by
 have ag:=ab.fh
 have ae:=ag.len
 apply aCo
 obtain⟨p,ad,x,M,bK,c1,c2⟩:=ag.at gJ (show j<(s.n:o) by omega)
 obtain⟨q,aO,y,ah,d0,d1,d2⟩:=ag.at i0 (show i<(s.n:o) by omega)
 refine⟨p,ad,⟨gJ,by omega⟩,q,aO,⟨i0,by omega⟩,_,bK,_,c1,_,c2,_,d0,_,d1,_,d2,q,aO,⟨i0,by omega⟩,?_⟩
 refine aD.store (enc:=fD) rI ab (by decide) (i:=i.toNat) (by omega) (y:=x) (Ei x) aO λaS kf vh _=>⟨p,ad,⟨gJ,by omega⟩,?_⟩
 refine aD.store (enc:=fD) rI kf (by decide) (i:=j.toNat) (by simp;omega) (y:=y) (Ei y) ad λc9 dz iQ _=>h c9 ?_ (λb z Z al=>iQ b z (vh b z Z al) al)
 have ea:i.toNat<l.length:=by omega
 have ku:j.toNat<l.length:=by omega
 have ex:l[j.toNat]=x:=by rw[cn ku] at M;exact cO M
 have u7:l[i.toNat]=y:=by rw[cn ea] at ah;exact cO ah
 rw[GL ea ku,ex,u7]
 exact dz
def qN.set{u':H}{bw:J bP}(h:qN ai n u l)(ae:u n=some (.cells #[.slice s.a s.n s.c] 263 (0,0)))(ag:s.aj≠some n)
  (ab:aD ai u' 68 3 s (bw.flatMap fD)) (he:gN u u' s) (ar:bw.length=l.length):qN ai n u' bw:=
 ⟨⟨s,he _ _ ae ag,ab,ag⟩,h.out,by rw[ar];exact h.small⟩
def aji(ai:H)(n:N):uX (aak n) (qN ai n) bC where
 len:=by intro u l K h aq;obtain⟨s,ae,ab,_⟩:=h.ex;refine⟨_,_,_,_,rfl,λw hw=>aal awx ae w hw,hh awB,amD s u K ?_⟩;rw[ab.fh.len];exact aq
 less:=by intro u l i j K h i0 i1 gJ jY aq;obtain⟨s,ae,ab,_⟩:=h.ex;exact⟨_,_,_,_,rfl,λw hw=>aal awy ae w hw,hh awC,azu ab.fh i0 i1 gJ jY aq⟩
 swap:=by intro u l i j K h i0 i1 gJ jY aq;obtain⟨s,ae,ab,al⟩:=h.ex;exact⟨_,_,_,_,rfl,λw hw=>aal nSwap ae w hw,hh awF,azv ab i0 i1 gJ jY λu' bQ he=>aq u' (h.set ae al bQ he (pk _ _ _))⟩
 small:=λh=>by have:=h.small;omega
def ajj:oE bC where
 asymm:=λ_ _ h=>Ic h
 trans:=λ_ _ _ h k=>E1 h k
def an3(h:bP)(w:b6):(s7 (.iface 68 (.agg #[.int .i64 h.1,.int .u64 (dk h.2),.int .u64 (dq h.2)])) 20 68 ax).run aH w=
  .ok (.agg #[.int .i64 h.1,.int .u64 (dk h.2),.int .u64 (dq h.2)]) w:=by kernel_rfl
def Cu(h:bP):ao:=.iface 68 (.agg #[.int .i64 h.1,.int .u64 (dk h.2),.int .u64 (dq h.2)])
def akD{h:bP}{K:o->o->o->H->Prop}(aq:K h.1 (dk h.2) (dq h.2) u):c4 aH (s7 (Cu h) 20 68 ax) [.agg [.int .i64,.int .u64,.int .u64]] u K:=
 c4.pure [.int .i64 h.1,.int .u64 (dk h.2),.int .u64 (dq h.2)] (λw _=>an3 h w) (.cons (t:=.int .i64) _ (.cons (t:=.int .u64) _ (.cons (t:=.int .u64) _ .nil))) aq
def awO{x:bP}(h:qN ai n u l)(ar:l.length<1000000)(aq:∀u',qN ai n u' (l++ [x])->K u'):
  mJ aH (aak n) "Push" #[Cu x] [] u K:=by
 obtain⟨s,ae,ab,al⟩:=h.ex
 obtain⟨i,m,h1,h2,h3,a7⟩:=AT awA
 obtain⟨dQ,de⟩:=zZ
 refine⟨_,_,_,_,rfl,λw _=>by rw[de];exact JK h1 h2 h3 a7 acx,hh awE,?_⟩
 refine aCn (some (cr n 0 none)) _ u K ?_
 refine⟨_,rfl,s,a1 ae 0,akD ⟨H.le.refl u,?_⟩⟩
 have ad:=zl (P:=aH) (K:=λfJ qJ=>∃Og:ba,some (cr n 0 none)=some Og/\H.aN qJ Og [.slice fJ.a fJ.n fJ.c] K) al2 (aee x.1 (dk x.2) (dq x.2)) (by decide) rfl (by simp[cF]) ab (by have:=ab.fh.len;omega) (by have:=ab.fh.len;omega) λap u' bQ hJ he hblk _=>⟨_,rfl,?_⟩
 exact ad
 have fp:=he _ _ ae al
 have k4:ap.aj≠some n:=λe=>by rcases hblk n e with h|h;exact al h;rw[ae] at h;cases h
 refine⟨_,_,fp,rfl,by simp,by simp[cF],aq _ ⟨⟨ap,bf _ _ _,⟨?_,?_,bQ.fresh⟩,k4⟩,h.out,by simp;omega⟩⟩
 rw[afd] at bQ
 exact bQ.own.le λb z Z b9=>by rw[bm _ _ (λe=>k4 (by rw[Z,e]))];exact b9
 intro b z Z
 rw[bm _ _ (λe=>by rw[e,h.out] at Z;cases Z)]
 exact bQ.le b z Z
def awN{K:ao->H->Prop}(h:qN ai n u l)(ar:0<l.length)(aq:∀u',qN ai n u' l.dropLast->K (Cu (l.getD (l.length-1) default)) u'):
  mJ aH (aak n) "Pop" #[] [.one .val] u K:=by
 obtain⟨s,ae,ab,al⟩:=h.ex
 obtain⟨i,m,h1,h2,h3,a7⟩:=AT awz
 obtain⟨dQ,de⟩:=zZ
 refine⟨_,_,_,_,rfl,λw _=>by rw[de];exact JK h1 h2 h3 a7 acx,hh awD,?_⟩
 refine aCm (some (cr n 0 none)) u K ?_
 have dw:=ab.fh.len
 have I:u.cell? (cr n 0 none)=some (.slice s.a s.n s.c):=a1 ae 0
 have fq:=h.small
 obtain⟨p,ad,x,M,bK,c1,c2⟩:=ab.fh.at (x:=(s.n:o)-1) (by omega) (by omega)
 have eO:l.getD (l.length-1) default=x:=by rw[show((s.n:o)-1).toNat=l.length-1 by omega] at M;exact K8 M
 intro lA mu
 refine⟨_,rfl,_,rfl,s,I,s,I,⟨by omega,by omega⟩,p,ad,⟨by omega,by omega⟩,_,bK,_,c1,_,c2,λm hm=>⟨bW _ hm,?_⟩⟩
 have q5:m≠n:=λe=>by rw[e,ae] at hm;cases hm
 refine⟨_,_,bf _ _ _,rfl,by simp,by simp[cF],mu _ _ ⟨_,rfl,_,rfl,s,?_,s,?_,⟨by omega,by omega⟩,?_⟩⟩
 simp only[H.cell?,bm _ _ (dv q5)];simpa[H.cell?] using I
 simp only[H.cell?,bm _ _ (dv q5)];simpa[H.cell?] using I
 have gZ:s.n<=s.c:=(bt.cap ab.own.cC)
 obtain⟨ac,Ae,tM⟩:=ab.front (m:=s.n-1) (by omega)
 refine lj (P:=aH) al2 (l:=0) (h:=s.n-1) (m:=s.c) (.inl ⟨rfl,rfl⟩) (.inr ?_) (.inl ⟨rfl,rfl⟩) (by omega) (by omega) (cg _) gZ ⟨_,rfl,?_⟩
 rw[show((s.n:o)-1)=((s.n-1:N):o) by omega]
 refine⟨_,_,by simp only[];rw[bm _ _ (dv q5),bm _ _ (dv q5)];exact ae,rfl,by simp,by simp[cF],?_⟩
 have cJ:∀(j:N) v,([.int .i64 x.1,.int .u64 (dk x.2),.int .u64 (dq x.2)]:J ao)[j]?=some v->H.cell? ((((u.ins m (.cells #[.int .i64 0,.int .u64 0,.int .u64 0] 68 (0,0))).ins m (.cells (wr #[.int .i64 0,.int .u64 0,.int .u64 0] 0 [.int .i64 x.1,.int .u64 (dk x.2),.int .u64 (dq x.2)]) 68 (0,0))).ins n
   (.cells (wr #[.slice s.a s.n s.c] 0 [.slice (s.part 0 (s.n-1) s.c 3).a (s.part 0 (s.n-1) s.c 3).n (s.part 0 (s.n-1) s.c 3).c]) 263 (0,0)))) ((cr m 0 none).add j)=some v:=by
  intro j v aM
  simp only[H.cell?,iC,jI,bm _ _ q5,bf]
  rcases j with _|_|_|j
  simpa[wr] using aM
  simpa[wr] using aM
  simpa[wr] using aM
  simp at aM
 have d0:=cJ 0 _ rfl
 have d1:=cJ 1 _ rfl
 have d2:=cJ 2 _ rfl
 rw[Addr.add_zero'] at d0
 refine⟨_,d0,_,d1,_,d2,?_⟩
 have e:Cu x=Cu (l.getD (l.length-1) default):=by rw[eO]
 show K (Cu x) _
 rw[e]
 have CQ:(l.flatMap fD).take ((s.n-1)*3)=l.dropLast.flatMap fD:=by rw[yi rI,dw,List.dropLast_eq_take]
 rw[CQ] at ac
 have e7:(s.part 0 (s.n-1) s.c 3).aj≠some n:=by rw[Ae];exact al
 refine aq _ ⟨⟨_,bf _ _ _,⟨?_,?_,ac.fresh⟩,e7⟩,h.out,by simp;omega⟩
 refine ac.own.le λb z Z b9=>?_
 rw[bm _ _ (λe=>e7 (by rw[Z,e])),bm _ _ (λe=>by rw[e,hm] at b9;cases b9),bm _ _ (λe=>by rw[e,hm] at b9;cases b9)]
 exact b9
 intro b z Z
 have tH:=ac.le b z Z
 rw[bm _ _ (λe=>by rw[e,h.out] at Z;cases Z),bm _ _ (λe=>by rw[e,hm] at tH;cases tH),bm _ _ (λe=>by rw[e,hm] at tH;cases tH)]
 exact tH
def azm{α:Type}[lx α]{recv:ao}{aN:H->J α->Prop}{lt:α->α->aI}(di:uX recv aN lt)(L:oE lt){V:α->ao}{l:J α}{K:ao->H->Prop}(ag:aN u l)(bV:iw lt l.length l)(al:0<l.length)
  (YG:∀{u':H} {bw:J α} {K:ao->H->Prop},aN u' bw->0<bw.length->(∀jb,aN jb bw.dropLast->K (V (bw.getD (bw.length-1) default)) jb)->mJ aH recv "Pop" #[] [.one .val] u' K)
  (aq:∀u' bw x,aN u' bw->(x::bw).Perm l->iw lt bw.length bw->(∀y∈bw,lt y x=ax)->K (V x) u'):DP recv u K:=by
 apply amy
 have fq:=di.small ag
 refine di.len ag ⟨⟨by omega,by omega⟩,di.swap ag (by omega) (by omega) (by omega) (by omega) λaS eb=>?_⟩
 obtain⟨n,ae⟩:∃n,l.length=n+1:=⟨l.length-1,by omega⟩
 have aP:(((l.length:o)-1).toNat)=n:=by omega
 rw[aP] at eb
 have h0:(0:o).toNat=0:=rfl
 rw[h0] at eb
 have gi:(jA l 0 n).length=n+1:=by rw[pk,ae]
 refine ak3 di L eb (by omega) (by omega) (by rw[aP];refine⟨by omega,λi i0 i1 i2=>?_,λi i0 i1 i2 h=>by simp at h⟩;have ZC:df i≠0:=i2;rw[Dz (by omega) (by omega) (by omega),Dz (by omega) (by omega) (by unfold df;omega)];rw[az (by omega),az (by omega),az (by unfold df;omega),az ZC];exact bV i i0 (by omega)) (λb c9 fZ dE fg yx jT=>?_) (.inr (by omega))
 rw[aP] at yx
 have hN:fZ.length=n+1:=by rw[fg.length_eq,gi]
 have M:fZ.getD (fZ.length-1) default=l.getD 0 default:=by have:=jT n (by omega);rw[dr,hN,Nat.add_sub_cancel,this,<-dr,Dz (by omega) (by omega) (by omega)];split;rfl;rename_i h;exact a6 rfl h
 refine YG dE (by omega) λjM tX=>?_
 rw[M]
 have Ia:fZ.dropLast++ [l.getD 0 default]=fZ:=by
  rw[<-M];have yF:fZ≠[]:=λe=>by rw[e] at hN;simp at hN
  have:=ajO yF;rw[List.getLast_eq_getElem] at this;rw[dr,cn (by omega)];exact this
 have hP:(l.getD 0 default::fZ.dropLast).Perm l:=by refine Be ?_ (fg.trans (DA (by omega) (by omega)));rw[<-Ia,List.dropLast_concat];exact(l5 _ _).symm
 refine aq _ _ _ tX hP (λi i0 i1=>?_) λy ah=>?_
 have yu:fZ.dropLast.length=n:=by simp[hN]
 have g:∀k,k<n->fZ.dropLast.getD k default=fZ.getD k default:=λk hk=>by rw[dr,dr,List.getElem?_dropLast,aV (by omega)]
 rw[g i (by omega),g _ (by unfold df;omega)]
 exact yx i i0 (by omega)
 have Fx:y∈l:=hP.mem_iff.1 (gd _ ah)
 obtain⟨i,hi,rfl⟩:=pc.1 Fx
 have:=bV.root L i hi
 rw[dr,cn hi] at this
 exact this
section
variable {α:Type} [lx α] (lt:α->α->aI)
def rC(l:J α)(j:N):J α:=
 if _h:j=0 then l else if lt (l.getD j default) (l.getD (df j) default) then rC (jA l (df j) j) (df j) else l
termination_by j
decreasing_by unfold df;omega
def ou(n:N)(l:J α)(i:N):N:=if 2*i+2<n/\lt (l.getD (2*i+2) default) (l.getD (2*i+1) default)=ak then 2*i+2 else 2*i+1
def lU(n:N)(l:J α)(i:N):J α:=
 if _h:2*i+1<n then(if lt (l.getD (ou lt n l i) default) (l.getD i default) then lU n (jA l i (ou lt n l i)) (ou lt n l i) else l) else l
termination_by n-i
decreasing_by unfold ou;split<;>omega
def y5(l:J α)(y:α):J α:=rC lt (l++ [y]) l.length
def j0(l:J α):J α:=(lU lt (l.length-1) (jA l 0 (l.length-1)) 0).dropLast
end
section
variable {α:Type} [lx α] {lt:α->α->aI}
def ams:∀(j:N) (l:J α),j<l.length->(rC lt l j).Perm l:=by
 intro j;induction j using Nat.strongRecOn with
 |ind j aL=>
  intro l aM;unfold rC;split;exact .refl _;split;have ad:df j<j:=by unfold df;omega
  exact(aL (df j) ad _ (by rw[pk];omega)).trans (DA (by omega) aM);exact .refl _
def aBn(L:oE lt):∀(j:N) (l:J α),zK lt l j->iw lt (rC lt l j).length (rC lt l j):=by
 intro j;induction j using Nat.strongRecOn with
 |ind j aL=>intro l hu;unfold rC;split;rename_i h;exact hu.done (.inl h);split;rename_i h ar;exact aL (df j) (by unfold df;omega) _ (hu.step L (by omega) ar);rename_i h ar;exact hu.done (.inr (by simpa using ar))
def ZR{i:N}{l:J α}(h:2*i+1<n):0<ou lt n l i/\ou lt n l i<n/\df (ou lt n l i)=i/\i<ou lt n l i:=by unfold ou df;split<;>omega
def aiQ(L:oE lt){i:N}{l:J α}(h:2*i+1<n):∀x,0<x->x<n->df x=i->lt (l.getD x default) (l.getD (ou lt n l i) default)=ax:=by
 have IK:∀a,lt a a=ax:=λa=>by
  cases e:lt a a with
  |false=>rfl|true=>have:=L.asymm _ _ e;rw[e] at this;cases this
 intro x bG dy x2;have two:x=2*i+1∨x=2*i+2:=by unfold df at x2;omega
 unfold ou;split;rename_i I;rcases two with rfl|rfl;exact L.asymm _ _ I.2;exact IK _;rename_i I;rcases two with rfl|rfl;exact IK _;cases e:lt (l.getD (2*i+2) default) (l.getD (2*i+1) default) with
 |false=>rfl|true=>exact a6 ⟨dy,e⟩ I
def apt(n:N):∀(m:N) (i:N) (l:J α),n-i<=m->(lU lt n l i).length=l.length:=by
 intro m;induction m with
 |zero=>intro i l h;unfold lU;rw[xK (by omega)]
 |succ m aL=>intro i l h;unfold lU;split;rename_i I;split;obtain⟨_,_,_,hk⟩:=ZR (lt:=lt) (l:=l) I;rw[aL _ _ (by omega),pk];rfl;rfl
def apv(L:oE lt):∀(m:N) (i:N) (l:J α),n-i<=m->wv lt n l i->n<=l.length->(i<n∨i=0)->
  (lU lt n l i).Perm l/\iw lt n (lU lt n l i)/\∀k,n<=k->(lU lt n l i)[k]?=l[k]?:=by
 intro m
 induction m with
 |zero=>intro i l h aw ae hi;unfold lU;rw[xK (by omega)];exact⟨.refl _,aw.done (λx bG dy x2=>by unfold df at x2;omega),λ_ _=>rfl⟩
 |succ m aL=>intro i l h aw ae hi;unfold lU;split;rename_i I;obtain⟨jZ,cx,cS,nM⟩:=ZR (lt:=lt) (l:=l) I;split;rename_i ar;obtain⟨h1,h2,h3⟩:=aL (ou lt n l i) (jA l i (ou lt n l i)) (by omega) (aw.step L jZ cx cS ar (aiQ L I)) (by rw[pk];exact ae) (.inl cx);refine⟨h1.trans (DA (by omega) (by omega)),h2,λk hk=>?_⟩;rw[h3 k hk,alZ (by omega) (by omega)];rename_i ar;refine⟨.refl _,aw.done (λx bG dy x2=>?_),λ_ _=>rfl⟩;exact L.trans _ _ _ (by simpa using ar) (aiQ L I x bG dy x2);rename_i I;exact⟨.refl _,aw.done (λx bG dy x2=>by unfold df at x2;omega),λ_ _=>rfl⟩
def axz{l:J α}{y:α}(bV:iw lt l.length l):zK lt (l++ [y]) l.length:=by
 refine⟨by simp,λi i0 i1 i2=>?_,λi i0 i1 i2=>?_⟩;simp only[eC,rA] at i1;have hi:i<l.length:=by omega
 have g:∀k,k<l.length->(l++ [y]).getD k default=l.getD k default:=λk hk=>by rw[dr,qy hk,<-dr]
 rw[g i hi,g _ (by unfold df;omega)];exact bV i i0 hi;simp only[eC,rA] at i1;unfold df at i2;omega
def axy(L:oE lt){l:J α}{y:α}(bV:iw lt l.length l):(y5 lt l y).Perm (l++ [y])/\iw lt (y5 lt l y).length (y5 lt l y):=
 ⟨ams _ _ (by simp),aBn L _ _ (axz bV)⟩
def axr{l:J α}(bV:iw lt l.length l)(al:0<l.length):wv lt (l.length-1) (jA l 0 (l.length-1)) 0:=by refine⟨by rw[pk];omega,λi i0 i1 i2=>?_,λi i0 i1 i2 h=>by simp at h⟩;have ZC:df i≠0:=i2;rw[Dz (by omega) (by omega) (by omega),Dz (by omega) (by omega) (by unfold df;omega)];rw[az (by omega),az (by omega),az (by unfold df;omega),az ZC];exact bV i i0 (by omega)
def NU(L:oE lt){l:J α}(bV:iw lt l.length l)(al:0<l.length):(l.getD 0 default::j0 lt l).Perm l/\iw lt (j0 lt l).length (j0 lt l)/\(∀y∈j0 lt l,lt y (l.getD 0 default)=ax)/\
  lU lt (l.length-1) (jA l 0 (l.length-1)) 0=j0 lt l++ [l.getD 0 default]:=by
 have aw:=axr bV al
 obtain⟨h1,h2,h3⟩:=apv L (l.length-1) 0 _ (by omega) aw (by rw[pk];omega) (.inr rfl)
 have hlen:=apt (lt:=lt) (l.length-1) (l.length-1) 0 (jA l 0 (l.length-1)) (by omega)
 rw[pk] at hlen
 have e:lU lt (l.length-1) (jA l 0 (l.length-1)) 0=j0 lt l++ [l.getD 0 default]:=by
  unfold j0;generalize eM:lU lt (l.length-1) (jA l 0 (l.length-1)) 0=D at*;have yF:D≠[]:=λe=>by rw[e] at hlen;simp at hlen;omega
  have Ia:=ajO yF;rw[List.getLast_eq_getElem] at Ia;have M:D[D.length-1]'(by omega)=l.getD 0 default:=by
   have a7:=h3 (l.length-1) (cg _);rw[cn (by omega),cn (by rw[pk];omega)] at a7;have bE:D[l.length-1]'(by omega)=(jA l 0 (l.length-1)).getD (l.length-1) default:=by rw[dr,cn (by rw[pk];omega)];exact cO a7
   rw[Dz (by omega) (by omega) (by omega),aV rfl] at bE;rw[<-bE];congr 1;omega
  rw[M] at Ia;exact Ia.symm
 have ad:(l.getD 0 default::j0 lt l).Perm l:=by have:=h1.trans (DA (by omega) (by omega));rw[e] at this;exact(l5 _ _).symm.trans this
 have aFH:(j0 lt l).length=l.length-1:=by have:=ad.length_eq;simp only[h5] at this;omega
 refine⟨ad,λi i0 i1=>?_,λy ah=>?_,e⟩
 have bE:=h2 i i0 (by omega)
 rw[e] at bE
 have g:∀k,k<(j0 lt l).length->(j0 lt l++ [l.getD 0 default]).getD k default=(j0 lt l).getD k default:=λk hk=>by rw[dr,qy hk,<-dr]
 rw[g i i1,g _ (by unfold df;omega)] at bE
 exact bE
 have Fx:y∈l:=ad.mem_iff.1 (gd _ ah)
 obtain⟨i,hi,rfl⟩:=pe Fx
 have:=bV.root L i hi
 rwa[dr,cn hi] at this
variable {recv:ao} {aN:H->J α->Prop}
def azq(di:uX recv aN lt){l:J α}(ag:aN u l)(h0:0<=j)(aM:j<l.length)(aq:∀u',aN u' (rC lt l j.toNat)->K u'):Ke recv j u K:=by
 have fq:=di.small ag;apply amB;refine⟨λx v=>0<=x/\∃bw,aN v bw/\bw.length=l.length/\x<l.length/\rC lt bw x.toNat=rC lt l j.toNat,λx _=>x.toNat,⟨h0,l,ag,rfl,aM,rfl⟩,?_⟩;rintro x v ⟨bG,bw,fY,hlen,b4,he⟩;refine⟨⟨by omega,by omega⟩,by decide,?_⟩;by_cases M:x=0;subst M;refine⟨⟨by decide,by decide⟩,λ_=>aq _ ?_,λh=>a6 (by decide) h⟩;rw[<-he];unfold rC;rw[Bd (by rfl)];exact fY
 .have ht:gw (x-1) 2=(x-1)/2:=Jt (by omega);have yH:((x-1)/2).toNat=df x.toNat:=by unfold df;omega
  rw[ht];refine⟨⟨by omega,by omega⟩,λh=>by omega,λ_=>di.less fY bG (by omega) (by omega) (by omega) ?_⟩;rw[yH];refine⟨λZ=>aq _ ?_,λZ=>di.swap fY (by omega) (by omega) bG (by omega) λu' dE=>⟨⟨by omega,_,dE,by rw[pk];exact hlen,by omega,?_⟩,by dsimp only;omega⟩⟩;rw[<-he];unfold rC;rw[xK (by omega),az Z];exact fY
  .rw[yH,<-he]
   conv=>rhs;unfold rC
   rw[xK (by omega),aV Z]
def azp(di:uX recv aN lt){l:J α}{n:o}{K:aI->H->Prop}(ag:aN u l)(h0:0<=j)(ae:n<=l.length)(aq:∀b u',aN u' (lU lt n.toNat l j.toNat)->K b u')(aM:j<n∨j<=0)(atk:j<l.length):Kd recv j n u K:=by
 have fq:=di.small ag;apply amA;intro lA mu;refine⟨λx v=>0<=x/\(x<n∨x<=0)/\x<l.length/\∃bw,aN v bw/\bw.length=l.length/\lU lt n.toNat bw x.toNat=lU lt n.toNat l j.toNat,λx _=>(n-x).toNat,⟨h0,aM,atk,l,ag,rfl,rfl⟩,?_⟩;rintro x v ⟨bG,CP,eO,bw,fY,hlen,he⟩;have done:lU lt n.toNat bw x.toNat=bw->lA x v:=λh=>mu _ _ (aq _ _ (by rw[<-he,h];exact fY));refine⟨⟨by omega,by omega⟩,⟨by omega,by omega⟩,λKw Lp=>⟨λh=>done ?_,λh=>⟨λh2=>by omega,λ_=>Lp _ ?_⟩⟩⟩;unfold lU;rw[xK (by omega)];clear Lp Kw;intro BM Aa;have eQ:∀c:o,c.toNat=ou lt n.toNat bw x.toNat->0<c->c<n->x<c->BM c v:=by
  intro c I bK c1 og;refine Aa _ _ (di.less fY (by omega) (by omega) bG (by omega) ⟨λZ=>done ?_,λZ=>di.swap fY bG (by omega) (by omega) (by omega) λu' dE=>⟨⟨by omega,.inl c1,by omega,_,dE,by rw[pk];exact hlen,?_⟩,by dsimp only;omega⟩⟩);unfold lU;rw[Bd (by omega),<-I,az Z]
  .rw[<-he]
   conv=>rhs;unfold lU
   rw[Bd (by omega),<-I,aV Z]
 clear Aa;have aP:(2*x+1).toNat=2*x.toNat+1:=by omega
 have aC:(2*x+1+1).toNat=2*x.toNat+2:=by omega
 refine⟨⟨by omega,by omega⟩,λh2=>di.less fY (by omega) (by omega) (by omega) (by omega) ⟨λZ=>eQ _ ?_ (by omega) h2 (by omega),λZ=>eQ _ ?_ (by omega) (by omega) (by omega)⟩,λh2=>eQ _ ?_ (by omega) (by omega) (by omega)⟩;rw[aP,aC] at Z;unfold ou;rw[aV ⟨by omega,Z⟩,aC];rw[aP,aC] at Z;unfold ou;rw[az (λI=>by rw[I.2] at Z;cases Z),aP];unfold ou;rw[az (λI=>by omega),aP]
def azo(di:uX recv aN lt){l:J α}{x:ao}{y:α}
  (YH:∀{K:H->Prop},(∀u',aN u' (l++ [y])->K u')->mJ aH recv "Push" #[x] [] u K)
  (aq:∀u',aN u' (y5 lt l y)->K u'):zx recv x u K:=by
 apply amz
 refine YH λu' ag=>di.len ag ?_
 have fq:=di.small ag
 simp only[eC,rA] at fq ⊢
 refine⟨⟨by omega,by omega⟩,azq di ag (by omega) (by simp only[eC,rA];omega) λc9 h2=>aq c9 ?_⟩
 have e:(((l.length+1:N):o)-1).toNat=l.length:=by omega
 rw[e] at h2
 exact h2
def azn(di:uX recv aN lt)(L:oE lt){V:α->ao}{l:J α}{K:ao->H->Prop}(ag:aN u l)(bV:iw lt l.length l)(al:0<l.length)
  (YG:∀{u':H} {bw:J α} {x:α} {K:ao->H->Prop},aN u' (bw++ [x])->(∀jb,aN jb bw->K (V x) jb)->mJ aH recv "Pop" #[] [.one .val] u' K)
  (aq:∀u',aN u' (j0 lt l)->K (V (l.getD 0 default)) u'):DP recv u K:=by
 obtain⟨_,_,_,he⟩:=NU L bV al
 apply amy
 have fq:=di.small ag
 refine di.len ag ⟨⟨by omega,by omega⟩,di.swap ag (by omega) (by omega) (by omega) (by omega) λaS eb=>?_⟩
 have aP:(((l.length:o)-1).toNat)=l.length-1:=by omega
 rw[aP,show(0:o).toNat=0 from rfl] at eb
 refine azp di eb (by omega) (by rw[pk];omega) (λb c9 dE=>?_) (.inr (by omega)) (by rw[pk];omega)
 rw[aP,show(0:o).toNat=0 from rfl,he] at dE
 exact YG dE aq
end
end
section
variable{q:J o}{b k d:o}
abbrev jN:=o×J o
inductive bF where
 |mk (aG:o) (bJ hi:J o) (cH:o) (rows:J jN) (kids:J bF)
instance:lx bF:=⟨.mk 1 [] [] 0 [] []⟩
namespace bF
def aG:bF->o| .mk s _ _ _ _ _=>s
def bJ:bF->J o| .mk _ l _ _ _ _=>l
def hi:bF->J o| .mk _ _ h _ _ _=>h
def cH:bF->o| .mk _ _ _ r _ _=>r
def rows:bF->J jN| .mk _ _ _ _ r _=>r
def kids:bF->J bF| .mk _ _ _ _ _ k=>k
mutual
def all:bF->J jN
 | .mk _ _ _ _ rows kids=>rows++jD kids
def jD:J bF->J jN
 | []=>[]|p::c3=>p.all++jD c3
end
mutual
def size:bF->N
 | .mk _ _ _ _ _ kids=>1+hq kids
def hq:J bF->N
 | []=>0|p::c3=>p.size+hq c3
end
def hp(p:bF)(ids:J o):cp:=⟨p.aG,⟨none,0,0⟩,⟨none,0,0⟩,p.cH,⟨none,0,0⟩,p.bJ,p.hi,ids⟩
def all_eq(p:bF):p.all=p.rows++jD p.kids:=by cases p;rfl
def size_eq(p:bF):p.size=1+hq p.kids:=by cases p;rfl
end bF
def aGw(x:jN):av:=⟨x.1,⟨none,0,0⟩,x.2⟩
def Cv(q:J o)(x:jN):bP:=(x.1,fz x.2 q x.2.length)
def aFy(q:J o)(r:av):Cv q r.bi=ia q r:=rfl
inductive fT(d:o):bF->Prop where
 |mk {p:bF} (kl:oF (p.hp []) d) (ins:∀x∈p.all,mL (p.hp []) x.2) (kids:∀k∈p.kids,fT d k):fT d p
def fT.kl{p:bF}(h:fT d p):oF (p.hp []) d:=by cases h;assumption
def fT.ins{p:bF}(h:fT d p):∀x∈p.all,mL (p.hp []) x.2:=by cases h;assumption
def fT.kids{p:bF}(h:fT d p):∀k∈p.kids,fT d k:=by cases h;assumption
abbrev lC:=o×bF
def blt(a b:lC):aI:=decide (a.1<b.1)
def D6:oE blt where
 asymm a b h:=by simp[blt] at*;omega
 trans a b c h k:=by simp[blt] at*;omega
def ps(q:J o)(l:J lC)(p:bF):J lC:=y5 blt l (o4 (p.hp []) q,p)
structure mi where
 heap:J lC
 seen:J jN
 rest:J (bF×J jN)
def xT(q:J o)(k:o)(s:mi):J bP:=eV k.toNat (s.seen.map (Cv q))
def K5(q:J o)(k:o)(s:mi)(b:o):Prop:=k<=(s.seen.length:o)/\((xT q k s).getD (k.toNat-1) default).2<b
def yl(q:J o)(k b:o)(s:mi):Prop:=s.heap≠[]/\(s.seen.length:o)<b/\¬K5 q k s (s.heap.getD 0 default).1
def pZ(q:J o)(b:o)(s:mi):mi:=
 ⟨(s.heap.getD 0 default).2.kids.foldl (ps q) (j0 blt s.heap),s.seen++(s.heap.getD 0 default).2.rows.take (b-s.seen.length).toNat,
  if((s.heap.getD 0 default).2.rows.length:o)<=b-s.seen.length then s.rest else s.rest++ [((s.heap.getD 0 default).2,(s.heap.getD 0 default).2.rows.drop (b-s.seen.length).toNat)]⟩
open Classical in
def uk(q:J o)(k b:o):N->mi->mi
 |0,s=>s|f+1,s=>if yl q k b s then uk q k b f (pZ q b s) else s
def TT(q:J o)(c3:J bF):mi:=⟨c3.foldl (ps q) [],[],[]⟩
def oB(q:J o)(k b:o)(c3:J bF):mi:=uk q k b (bF.hq c3) (TT q c3)
def nR(s:mi):J (bF×J jN):=s.rest++(s.heap.map λx=>(x.2,x.2.all)).filter λx=>!x.2.isEmpty
structure so(q:J o)(b:o)(P:J jN)(s:mi):Prop where
 ad:iw blt s.heap.length s.heap
 sY:∀x∈s.heap,x.1=o4 (x.2.hp []) q/\fT q.length x.2
 perm:(s.seen++(s.rest.flatMap (·.2)++s.heap.flatMap λx=>x.2.all)).Perm P
 u9:(s.seen.length:o)<=b
 cut:s.rest≠[]->(s.seen.length:o)=b
 left:∀x∈s.rest,fT q.length x.1/\x.2≠[]/\∀y∈x.2,y∈x.1.all
def foldl_add:∀(c3:J bF) (l:J lC),iw blt l.length l->iw blt (c3.foldl (ps q) l).length (c3.foldl (ps q) l)/\(c3.foldl (ps q) l).Perm (l++c3.map λp=>(o4 (p.hp []) q,p)):=by
 intro c3;induction c3 with
 |nil=>intro l h;exact⟨h,by simp⟩
 |cons p c3 aL=>intro l h;obtain⟨h1,h2⟩:=axy D6 (y:=((o4 (p.hp []) q,p):lC)) h;obtain⟨h3,a7⟩:=aL _ h2;refine⟨h3,a7.trans ?_⟩;rw[gl];refine(h1.append_right _).trans ?_;rw[nf];exact .refl _
def ya(c3:J bF):bF.jD c3=c3.flatMap λp=>p.all:=by
 induction c3 with
 |nil=>rfl|cons p c3 aL=>rw[gB,<-aL];rfl
def alQ{c3:J bF}(Z:0<=b)(h:∀p∈c3,fT q.length p):so q b (bF.jD c3) (TT q c3):=by
 have h0:iw blt ([]:J lC).length []:=λi _ hi=>by simp at hi
 obtain⟨h1,h2⟩:=foldl_add (q:=q) c3 [] h0;rw[lu] at h2;refine⟨h1,λx M=>?_,?_,by show((0:N):o)<=b;omega,λe=>a6 rfl e,λx M=>by cases M⟩;obtain⟨p,ad,rfl⟩:=bk.1 (h2.mem_iff.1 M);exact⟨rfl,h p ad⟩;show([]++([]++_)).Perm _;rw[lu,lu,ya];refine(h2.flatMap_right _).trans (aa2 ?_);rw[Bf]
def aqt{α:Type}[lx α]{l:J α}(h:l≠[]):l.getD 0 default∈l:=by
 cases l with
 |nil=>exact a6 rfl h|cons x l=>exact gh ..
def alS{P:J jN}{s:mi}(h:so q b P s)(W:yl q k b s):so q b P (pZ q b s):=by
 obtain⟨al,bC,_⟩:=W;have ar:0<s.heap.length:=vR.2 al;obtain⟨hF,dO,pa,_⟩:=NU D6 h.ad ar;have lY:s.rest=[]:=by by_cases e:s.rest=[];exact e;have:=h.cut e;omega
 obtain⟨aiq,IB⟩:=h.sY _ (aqt al);unfold pZ;generalize M:s.heap.getD 0 default=x at*;obtain⟨f1,f2⟩:=foldl_add (q:=q) x.2.kids _ dO;refine⟨f1,λy ah=>?_,?_,?_,λe=>?_,λy ah=>?_⟩;rcases cK.1 (f2.mem_iff.1 ah) with h1|h1;exact h.sY y (hF.mem_iff.1 (gd _ h1));obtain⟨p,ad,rfl⟩:=bk.1 h1;exact⟨rfl,IB.kids p ad⟩;have hP:=h.perm;rw[lY,Gh,lu] at hP;refine Be ?_ hP;show((s.seen++x.2.rows.take (b-s.seen.length).toNat)++(xL (λy:bF×J jN=>y.2) (if(x.2.rows.length:o)<=b-s.seen.length then s.rest else s.rest++ [(x.2,x.2.rows.drop (b-s.seen.length).toNat)])++xL (λx=>x.2.all) (x.2.kids.foldl (ps q) (j0 blt s.heap)))).Perm _;rw[nf];refine aa3 _ ?_;have asI:(xL (λx=>x.2.all) (x.2.kids.foldl (ps q) (j0 blt s.heap))).Perm ((j0 blt s.heap).flatMap (λx=>x.2.all)++bF.jD x.2.kids):=by refine(f2.flatMap_right _).trans ?_;rw[gU,Bf,ya]
 have hold:(s.heap.flatMap λx=>x.2.all).Perm (x.2.all++(j0 blt s.heap).flatMap λx=>x.2.all):=by refine(hF.symm.flatMap_right _).trans ?_;rw[gB]
 refine Be ?_ hold.symm;rw[bF.all_eq];have key:(x.2.rows.take (b-s.seen.length).toNat++xL (·.2) (if(x.2.rows.length:o)<=b-s.seen.length then s.rest else s.rest++ [(x.2,x.2.rows.drop (b-s.seen.length).toNat)]))=x.2.rows:=by rw[lY];split;rw[Gh,kA,ho (by omega)];simp
 rw[<-nf,key];refine(aa3 _ asI).trans ?_;rw[nf];exact aa3 _ List.perm_append_comm;show(((s.seen++x.2.rows.take _).length:N):o)<=b;rw[eC,gL];omega;show(((s.seen++x.2.rows.take _).length:N):o)=b;rw[eC,gL];by_cases I:(x.2.rows.length:o)<=b-s.seen.length;exact a6 (by show(if _ then s.rest else _)=[];rw[aV I];exact lY) e;omega;change y∈(if(x.2.rows.length:o)<=b-s.seen.length then s.rest else s.rest++ [(x.2,x.2.rows.drop (b-s.seen.length).toNat)]) at ah;rw[lY] at ah;split at ah;cases ah;rename_i I;rw[lu] at ah;have:=fI.1 ah;subst this;refine⟨IB,λe=>?_,λY aB=>?_⟩;have:=dV hR e;rw[nV,nT] at this;omega;rw[bF.all_eq];exact iY _ (uG aB)
def ayR(a b:J bF):bF.hq (a++b)=bF.hq a+bF.hq b:=by
 induction a with
 |nil=>simp[bF.hq]|cons p a aL=>simp only[vO,bF.hq,aL];omega
def TJ{a b:J bF}(h:a.Perm b):bF.hq a=bF.hq b:=by
 induction h with
 |nil=>rfl|cons x _ aL=>simp only[bF.hq,aL]|swap x y l=>simp only[bF.hq];omega|trans _ _ h1 h2=>exact h1.trans h2
def alV{P:J jN}{s:mi}(h:so q b P s)(W:yl q k b s):bF.hq ((pZ q b s).heap.map (·.2))+1=bF.hq (s.heap.map (·.2)):=by
 have ar:0<s.heap.length:=vR.2 W.1;obtain⟨hF,dO,pa,_⟩:=NU D6 h.ad ar;obtain⟨f1,f2⟩:=foldl_add (q:=q) (s.heap.getD 0 default).2.kids _ dO;have aP:bF.hq ((pZ q b s).heap.map (·.2))=bF.hq ((j0 blt s.heap).map (·.2))+bF.hq (s.heap.getD 0 default).2.kids:=by show bF.hq (List.map (λx=>x.2) (List.foldl (ps q) (j0 blt s.heap) (s.heap.getD 0 default).2.kids))=_;rw[TJ (f2.map _),dY,ayR,ez];congr 2;exact Gg _
 have aC:bF.hq (s.heap.map (·.2))=(s.heap.getD 0 default).2.size+bF.hq ((j0 blt s.heap).map (·.2)):=by rw[<-TJ (hF.map _),gl];rfl
 rw[aP,aC,bF.size_eq];omega
def av4{P:J jN}:∀(f:N) (s:mi),so q b P s->bF.hq (s.heap.map (·.2))<=f->so q b P (uk q k b f s)/\¬yl q k b (uk q k b f s):=by
 intro f;induction f with
 |zero=>
  intro s h ag;refine⟨h,λW=>?_⟩;have al:=W.1;cases e:s.heap with
  |nil=>exact al e|cons x l=>rw[e] at ag;simp only[gl,bF.hq] at ag;have:=bF.size_eq x.2;omega
 |succ f aL=>intro s h ag;unfold uk;split;rename_i W;have:=alV h W;exact aL _ (alS h W) (by omega);rename_i W;exact⟨h,W⟩
def aEq{c3:J bF}(Z:0<=b)(h:∀p∈c3,fT q.length p):so q b (bF.jD c3) (oB q k b c3)/\¬yl q k b (oB q k b c3):=by
 refine av4 _ _ (alQ Z h) ?_;have h0:iw blt ([]:J lC).length []:=λi _ hi=>by simp at hi
 obtain⟨h1,h2⟩:=foldl_add (q:=q) c3 [] h0;rw[lu] at h2;show bF.hq ((c3.foldl (ps q) []).map (·.2))<=_;rw[TJ (h2.map _),ez];exact JD (dV _ (Gg _))
end
section
variable{u ai v:H}{s t:U}{n:N}{K:H->Prop}{r:cp}{q:J o}{p:bF}
def axF:nS aH 332 "Len" 268 ax=ak:=by kernel_rfl
def axG:nS aH 332 "Less" 330 ax=ak:=by kernel_rfl
def axJ:nS aH 332 "Swap" 331 ax=ak:=by kernel_rfl
def axI:nS aH 332 "Push" 333 ak=ak:=by kernel_rfl
def axH:nS aH 332 "Pop" 332 ak=ak:=by kernel_rfl
def ayP:qH aH 331=some (.one .slice):=by kernel_rfl
def acy:aH.underlying 332=some (.pointer 331):=by kernel_rfl
def al3:j9 aH 331=some (334,3,24,[.pointer none,.int .u64 0,.int .u64 0]):=by kernel_rfl
def aoH(x:ay ba)(y Y:o):kp aH 331 1 #[(0,.agg #[.pointer x,.int .u64 y,.int .u64 Y])]=some (334,[.pointer x,.int .u64 y,.int .u64 Y]):=by kernel_rfl
def axK:hl aH 268=ak:=by kernel_rfl
def axL:hl aH 330=ak:=by kernel_rfl
def axO:hl aH 331=ak:=by kernel_rfl
def axN:hl aH 333=ak:=by kernel_rfl
def axM:hl aH 332=ak:=by kernel_rfl
abbrev kG:=ba×lC
instance:lx kG:=⟨(⟨0,0,none⟩,default)⟩
def xv(a b:kG):aI:=blt a.2 b.2
def qV(e:kG):J ao:=[.pointer (some e.1),.int .u64 (dk e.2.1),.int .u64 (dq e.2.1)]
def KV(e:kG):(qV e).length=3:=rfl
def aeS(e:kG):∀v∈qV e,v.oneCell'=ak:=by simp[qV,cF]
def G8(u:H)(s:U)(l:J kG):Prop:=bt u s 3 (l.flatMap qV)
def G8.len{l:J kG}(h:G8 u s l):s.n=l.length:=gY KV (by decide) h
def aD.pT{e:N}{l:J kG}(h:aD ai u e 3 s (l.flatMap qV)):G8 u s l:=h.own.cC
def G8.at{l:J kG}(h:G8 u s l){x:o}(h0:0<=x)(h1:x<(s.n:o)):∃p,s.a=some p/\∃q:kG,l[x.toNat]?=some q/\
  u.cell? (p.add (x.toNat*3))=some (.pointer (some q.1))/\u.cell? ((p.add (x.toNat*3)).add 1)=some (.int .u64 (dk q.2.1))/\u.cell? ((p.add (x.toNat*3)).add 2)=some (.int .u64 (dq q.2.1)):=by
 have ae:=h.len
 have ar:x.toNat<l.length:=by omega
 obtain⟨p,ad,I⟩:=bt.elem KV (by decide) h (cn ar)
 exact⟨p,ad,_,cn ar,I 0 _ rfl,I 1 _ rfl,I 2 _ rfl⟩
def aqk(l:J kG)(x:kG):l.flatMap qV++ [.pointer (some x.1),.int .u64 (dk x.2.1),.int .u64 (dq x.2.1)]=(l++ [x]).flatMap qV:=by simp[qV]
structure zI(ai:H)(n:N)(u:H)(l:J kG):Prop where
 ex:∃s:U,u n=some (.cells #[.slice s.a s.n s.c] 331 (0,0))/\aD ai u 334 3 s (l.flatMap qV)/\s.aj≠some n
 out:ai n=none
 small:l.length<=10000000
def Gr(n:N):ao:=.iface 332 (.pointer (some (cr n 0 none)))
def abd{name:String}{f:ju}(hm:nS aH 332 name f ax=ak)(ae:u n=some (.cells #[.slice s.a s.n s.c] 331 (0,0)))(w:b6)(hw:Sub u w):
  (method (aH.types.size+uz) 332 (.pointer (some (cr n 0 none))) name).run aH w=.ok (f,.slice s.a s.n s.c) w:=by
 obtain⟨i,m,h1,h2,h3,a7⟩:=AT hm
 obtain⟨dQ,de⟩:=zZ
 rw[de]
 refine abo h1 h2 h3 a7 acy ?_
 have I:u.cell? (cr n 0 none)=some (.slice s.a s.n s.c):=a1 ae 0
 have ys:=hw.cell I
 exact IW ayP (cr n 0 none) (vs:=[.slice s.a s.n s.c]) rfl (aaV _ _ _ _ _ rfl (λj v aM=>by
  cases j with
  |zero=>simp at aM;subst aM;exact ys|succ j=>simp at aM)) (λc I=>⟨_,rfl,ys⟩)
def azi{l:J kG}{i j:o}{K:aI->H->Prop}(ag:G8 u s l)(i0:0<=i)(i1:i<l.length)(gJ:0<=j)(jY:j<l.length)
  (h:K (xv (l.getD i.toNat default) (l.getD j.toNat default)) u):ac3 s i j u K:=by
 have ae:=ag.len
 apply aBZ
 obtain⟨p,ad,x,M,bK,c1,c2⟩:=ag.at gJ (show j<(s.n:o) by omega)
 obtain⟨q,aO,y,ah,d0,d1,d2⟩:=ag.at i0 (show i<(s.n:o) by omega)
 rw[show l.getD i.toNat default=y by rw[dr,ah];rfl,show l.getD j.toNat default=x by rw[dr,M];rfl] at h
 refine⟨q,aO,⟨i0,by omega⟩,p,ad,⟨gJ,by omega⟩,_,d1,_,by rw[Addr.zL];exact d2,_,c1,_,by rw[Addr.zL];exact c2,Bn (AO _) (AO _) ?_⟩
 rw[sg,sg]
 have key:∀Y:o,(Y<0↔y.2.1<x.2.1)->K (decide (Y<0)) u:=λY aB=>by
  have:decide (Y<0)=xv y x:=by unfold xv blt;simp[aB]
  rw[this];exact h
 refine key _ ?_
 split
 omega
 split<;>omega
def azj{l:J kG}{i j:o}(ab:aD ai u 334 3 s (l.flatMap qV))(i0:0<=i)(i1:i<l.length)(gJ:0<=j)(jY:j<l.length)
  (h:∀u',aD ai u' 334 3 s ((jA l i.toNat j.toNat).flatMap qV)->gN u u' s->K u'):ac4 s i j u K:=by
 have ag:=ab.pT
 have ae:=ag.len
 apply aB2
 obtain⟨p,ad,x,M,bK,c1,c2⟩:=ag.at gJ (show j<(s.n:o) by omega)
 obtain⟨q,aO,y,ah,d0,d1,d2⟩:=ag.at i0 (show i<(s.n:o) by omega)
 refine⟨p,ad,⟨gJ,by omega⟩,q,aO,⟨i0,by omega⟩,_,bK,_,c1,_,c2,_,d0,_,d1,_,d2,q,aO,⟨i0,by omega⟩,?_⟩
 refine aD.store (enc:=qV) KV ab (by decide) (i:=i.toNat) (by omega) (y:=x) (aeS x) aO λaS kf vh _=>⟨p,ad,⟨gJ,by omega⟩,?_⟩
 refine aD.store (enc:=qV) KV kf (by decide) (i:=j.toNat) (by simp;omega) (y:=y) (aeS y) ad λc9 dz iQ _=>h c9 ?_ (λb z Z al=>iQ b z (vh b z Z al) al)
 have ea:i.toNat<l.length:=by omega
 have ku:j.toNat<l.length:=by omega
 have ex:l[j.toNat]=x:=by rw[cn ku] at M;exact cO M
 have u7:l[i.toNat]=y:=by rw[cn ea] at ah;exact cO ah
 rw[GL ea ku,ex,u7]
 exact dz
def zI.set{u':H}{l bw:J kG}(h:zI ai n u l)(ae:u n=some (.cells #[.slice s.a s.n s.c] 331 (0,0)))(ag:s.aj≠some n)
  (ab:aD ai u' 334 3 s (bw.flatMap qV)) (he:gN u u' s) (ar:bw.length=l.length):zI ai n u' bw:=
 ⟨⟨s,he _ _ ae ag,ab,ag⟩,h.out,by rw[ar];exact h.small⟩
def ajS(ai:H)(n:N):uX (Gr n) (zI ai n) xv where
 len:=by intro u l K h aq;obtain⟨s,ae,ab,_⟩:=h.ex;refine⟨_,_,_,_,rfl,λw hw=>abd axF ae w hw,hh axK,amx s u K ?_⟩;rw[ab.pT.len];exact aq
 less:=by intro u l i j K h i0 i1 gJ jY aq;obtain⟨s,ae,ab,_⟩:=h.ex;exact⟨_,_,_,_,rfl,λw hw=>abd axG ae w hw,hh axL,azi ab.pT i0 i1 gJ jY aq⟩
 swap:=by intro u l i j K h i0 i1 gJ jY aq;obtain⟨s,ae,ab,al⟩:=h.ex;exact⟨_,_,_,_,rfl,λw hw=>abd axJ ae w hw,hh axO,azj ab i0 i1 gJ jY λu' bQ he=>aq u' (h.set ae al bQ he (pk _ _ _))⟩
 small:=λh=>by have:=h.small;omega
def ajT:oE xv where
 asymm:=λ_ _ h=>D6.asymm _ _ h
 trans:=λ_ _ _ h k=>D6.trans _ _ _ h k
def an4(h:kG)(w:b6):(s7 (.iface 334 (.agg #[.pointer (some h.1),.int .u64 (dk h.2.1),.int .u64 (dq h.2.1)])) 20 334 ax).run aH w=
  .ok (.agg #[.pointer (some h.1),.int .u64 (dk h.2.1),.int .u64 (dq h.2.1)]) w:=by kernel_rfl
def vV(h:kG):ao:=.iface 334 (.agg #[.pointer (some h.1),.int .u64 (dk h.2.1),.int .u64 (dq h.2.1)])
def akE{h:kG}{K:ay ba->o->o->H->Prop}(aq:K (some h.1) (dk h.2.1) (dq h.2.1) u):c4 aH (s7 (vV h) 20 334 ax) [.agg [.ptr,.int .u64,.int .u64]] u K:=
 c4.pure [.pointer (some h.1),.int .u64 (dk h.2.1),.int .u64 (dq h.2.1)] (λw _=>an4 h w) (.cons (t:=.ptr) (some h.1) (.cons (t:=.int .u64) _ (.cons (t:=.int .u64) _ .nil))) aq
def axR{l:J kG}{x:kG}(h:zI ai n u l)(ar:l.length<10000000)(aq:∀u',zI ai n u' (l++ [x])->K u'):
  mJ aH (Gr n) "Push" #[vV x] [] u K:=by
 obtain⟨s,ae,ab,al⟩:=h.ex
 obtain⟨i,m,h1,h2,h3,a7⟩:=AT axI
 obtain⟨dQ,de⟩:=zZ
 refine⟨_,_,_,_,rfl,λw _=>by rw[de];exact JK h1 h2 h3 a7 acy,hh axN,?_⟩
 refine aB1 (some (cr n 0 none)) _ u K ?_
 refine⟨_,rfl,s,a1 ae 0,akE ⟨H.le.refl u,?_⟩⟩
 have ad:=zl (P:=aH) (K:=λfJ qJ=>∃Og:ba,some (cr n 0 none)=some Og/\H.aN qJ Og [.slice fJ.a fJ.n fJ.c] K) al3 (aoH (some x.1) (dk x.2.1) (dq x.2.1)) (by decide) rfl (by simp[cF]) ab (by have:=ab.pT.len;omega) (by have:=ab.pT.len;omega) λap u' bQ hJ he hblk _=>⟨_,rfl,?_⟩
 exact ad
 have fp:=he _ _ ae al
 have k4:ap.aj≠some n:=λe=>by rcases hblk n e with h|h;exact al h;rw[ae] at h;cases h
 refine⟨_,_,fp,rfl,by simp,by simp[cF],aq _ ⟨⟨ap,bf _ _ _,⟨?_,?_,bQ.fresh⟩,k4⟩,h.out,by simp;omega⟩⟩
 rw[aqk] at bQ
 exact bQ.own.le λb z Z b9=>by rw[bm _ _ (λe=>k4 (by rw[Z,e]))];exact b9
 intro b z Z
 rw[bm _ _ (λe=>by rw[e,h.out] at Z;cases Z)]
 exact bQ.le b z Z
def axQ{l:J kG}{K:ao->H->Prop}(h:zI ai n u l)(ar:0<l.length)(aq:∀u',zI ai n u' l.dropLast->K (vV (l.getD (l.length-1) default)) u'):
  mJ aH (Gr n) "Pop" #[] [.one .val] u K:=by
 obtain⟨s,ae,ab,al⟩:=h.ex
 obtain⟨i,m,h1,h2,h3,a7⟩:=AT axH
 obtain⟨dQ,de⟩:=zZ
 refine⟨_,_,_,_,rfl,λw _=>by rw[de];exact JK h1 h2 h3 a7 acy,hh axM,?_⟩
 refine aB0 (some (cr n 0 none)) u K ?_
 have dw:=ab.pT.len
 have I:u.cell? (cr n 0 none)=some (.slice s.a s.n s.c):=a1 ae 0
 have fq:=h.small
 obtain⟨p,ad,x,M,bK,c1,c2⟩:=ab.pT.at (x:=(s.n:o)-1) (by omega) (by omega)
 have eO:l.getD (l.length-1) default=x:=by rw[show((s.n:o)-1).toNat=l.length-1 by omega] at M;rw[dr,M];rfl
 intro lA mu
 refine⟨_,rfl,_,rfl,s,I,s,I,⟨by omega,by omega⟩,p,ad,⟨by omega,by omega⟩,_,bK,_,c1,_,c2,λm hm=>⟨bW _ hm,?_⟩⟩
 have q5:m≠n:=λe=>by rw[e,ae] at hm;cases hm
 refine⟨_,_,bf _ _ _,rfl,by simp,by simp[cF],mu _ _ ⟨_,rfl,_,rfl,s,?_,s,?_,⟨by omega,by omega⟩,?_⟩⟩
 simp only[H.cell?,bm _ _ (dv q5)];simpa[H.cell?] using I
 simp only[H.cell?,bm _ _ (dv q5)];simpa[H.cell?] using I
 have gZ:s.n<=s.c:=(bt.cap ab.own.cC)
 obtain⟨ac,Ae,tM⟩:=ab.front (m:=s.n-1) (by omega)
 refine lj (P:=aH) al3 (l:=0) (h:=s.n-1) (m:=s.c) (.inl ⟨rfl,rfl⟩) (.inr ?_) (.inl ⟨rfl,rfl⟩) (by omega) (by omega) (cg _) gZ ⟨_,rfl,?_⟩
 rw[show((s.n:o)-1)=((s.n-1:N):o) by omega]
 refine⟨_,_,by simp only[];rw[bm _ _ (dv q5),bm _ _ (dv q5)];exact ae,rfl,by simp,by simp[cF],?_⟩
 have cJ:∀(j:N) v,([.pointer (some x.1),.int .u64 (dk x.2.1),.int .u64 (dq x.2.1)]:J ao)[j]?=some v->H.cell? ((((u.ins m (.cells #[.pointer none,.int .u64 0,.int .u64 0] 334 (0,0))).ins m (.cells (wr #[.pointer none,.int .u64 0,.int .u64 0] 0 [.pointer (some x.1),.int .u64 (dk x.2.1),.int .u64 (dq x.2.1)]) 334 (0,0))).ins n
   (.cells (wr #[.slice s.a s.n s.c] 0 [.slice (s.part 0 (s.n-1) s.c 3).a (s.part 0 (s.n-1) s.c 3).n (s.part 0 (s.n-1) s.c 3).c]) 331 (0,0)))) ((cr m 0 none).add j)=some v:=by
  intro j v aM
  simp only[H.cell?,iC,jI,bm _ _ q5,bf]
  rcases j with _|_|_|j
  simpa[wr] using aM
  simpa[wr] using aM
  simpa[wr] using aM
  simp at aM
 have d0:=cJ 0 _ rfl
 have d1:=cJ 1 _ rfl
 have d2:=cJ 2 _ rfl
 rw[Addr.add_zero'] at d0
 refine⟨_,d0,_,d1,_,d2,?_⟩
 have e:vV x=vV (l.getD (l.length-1) default):=by rw[eO]
 show K (vV x) _
 rw[e]
 have CQ:(l.flatMap qV).take ((s.n-1)*3)=l.dropLast.flatMap qV:=by rw[yi KV,dw,List.dropLast_eq_take]
 rw[CQ] at ac
 have e7:(s.part 0 (s.n-1) s.c 3).aj≠some n:=by rw[Ae];exact al
 refine aq _ ⟨⟨_,bf _ _ _,⟨?_,?_,ac.fresh⟩,e7⟩,h.out,by simp;omega⟩
 refine ac.own.le λb z Z b9=>?_
 rw[bm _ _ (λe=>e7 (by rw[Z,e])),bm _ _ (λe=>by rw[e,hm] at b9;cases b9),bm _ _ (λe=>by rw[e,hm] at b9;cases b9)]
 exact b9
 intro b z Z
 have tH:=ac.le b z Z
 rw[bm _ _ (λe=>by rw[e,h.out] at Z;cases Z),bm _ _ (λe=>by rw[e,hm] at tH;cases tH),bm _ _ (λe=>by rw[e,hm] at tH;cases tH)]
 exact tH
def dO(k:N):o:=((2 ^ k:N):o)
def aav(k:N):1<=dO k:=Int.natCast_pos.2 (Nat.pow_pos (by decide))
def SH(k:N):dO (k+1)=2*dO k:=by show((2 ^ (k+1):N):o)=2*((2 ^ k:N):o);rw[Nat.pow_succ,Gi];exact Int.mul_comm _ _
def aw9{k:N}(h:k<=63):dO k<=9223372036854775808:=by
 have h1:(2 ^ k:N)<=2 ^ 63:=Nat.pow_le_pow_right (by decide) h;have h2:dO k<=((2 ^ 63:N):o):=Int.ofNat_le.2 h1;have h3:((2 ^ 63:N):o)=9223372036854775808:=by decide
 omega
def alF{a b:o}{K:o->H->Prop}(aE:dn a)(Z:dn b)(h:K (rt (fi a b)) u):PY a b u K:=by
 apply aEo;have ot:0<=fi a b:=by unfold fi;obtain⟨_,_⟩:=aE;obtain⟨_,_⟩:=Z;omega
 have aii:fi a b<340282366920938463463374607431768211456:=by unfold fi;obtain⟨_,_⟩:=aE;obtain⟨_,_⟩:=Z;omega
 refine⟨λr x v=>v=u/\∃(k:N) (c:o),k<=63/\x=dO k/\0<=c/\r=c*dO (k+1)/\r+dO (k+1)<=18446744073709551616/\r*r<=fi a b/\fi a b<(r+dO (k+1))*(r+dO (k+1)),λ_ x _=>x.toNat,
  ⟨rfl,63,0,by omega,by decide,by omega,by simp,by decide,by simpa using ot,?_⟩,?_⟩
 have e:dO (63+1)=18446744073709551616:=by decide
 rw[e];omega;rintro r x v ⟨rfl,k,c,hk,rfl,I,O,aFZ,h1,h2⟩;have ad:=aav k;have iT:=SH k;have k5:=aw9 hk;have lY:0<=r:=by rw[O];exact zc I (by omega)
 have Yw:bits .or .u64 r (dO k)=r+dO k:=by
  have aC:(2:o) ^ (k+1)=dO (k+1):=by simp[dO]
  have aeL:(2:o) ^ 64=18446744073709551616:=by decide
  refine bits_join .u64 64 (by decide) (λn h0 h1=>wraps_u64 n h0 h1) (k+1) r (dO k) lY ?_ (by rw[aeL];omega) (by omega) (by rw[aC];omega) (by rw[aeL];omega);rw[aC,O];exact Int.mul_emod_left _ _
 rw[Yw];have ah2:dn (r+dO k):=⟨by omega,by omega⟩;refine TP ah2 ah2 λx y M ah iV=>⟨H.le.refl _,Bn ah Z ?_⟩;rw[iV];have Ct:k≠0->er (dO k) (2 ^ 1)=dO (k-1):=λq3=>by obtain⟨m,rfl⟩:∃m,k=m+1:=⟨k-1,by omega⟩;rw[SH,aaR _ (by decide)];simp
 have H6:dO k=1->k=0:=λe=>by by_cases q3:k=0;exact q3;exfalso;obtain⟨m,rfl⟩:∃m,k=m+1:=⟨k-1,by omega⟩;rw[SH] at e;have:=aav m;omega
 have fW:dO 0=1:=by decide
 have step:∀(ch:o),0<=ch->ch*ch<=fi a b->fi a b<(ch+dO k)*(ch+dO k)->(∃mS,0<=mS/\ch=mS*dO k)->ch+dO k<=18446744073709551616->
   ((dO k=1)->K ch v)/\((¬(dO k=1))->((0:o)<=1)/\((v=v/\∃(dQ:N) (c:o),dQ<=63/\er (dO k) (2 ^ 1)=dO dQ/\0<=c/\ch=c*dO (dQ+1)/\ch+dO (dQ+1)<=18446744073709551616/\ch*ch<=fi a b/\fi a b<(ch+dO (dQ+1))*(ch+dO (dQ+1)))/\((er (dO k) (2 ^ 1)).toNat<(dO k).toNat))):=by
  intro ch qC pf tc ⟨mS,c7,oX⟩ abe
  refine⟨λe=>?_,λal=>?_⟩
  rw[e] at tc
  rw[rt_eq qC pf tc]
  exact h
  have q3:k≠0:=λe=>al (by rw[e];exact fW)
  have Ag:k-1+1=k:=by omega
  have q9:=aav (k-1)
  have xb:=SH (k-1)
  rw[Ag] at xb
  refine⟨by decide,⟨rfl,k-1,mS,by omega,Ct q3,c7,by rw[Ag];exact oX,by rw[Ag];exact abe,pf,by rw[Ag];exact tc⟩,?_⟩
  rw[Ct q3]
  omega
 by_cases hle:(r+dO k)*(r+dO k)<=fi a b;have s:=step (r+dO k) (by omega) hle (by rw[show r+dO k+dO k=r+dO (k+1) by omega];exact h2) ⟨2*c+1,by omega,by rw[O,iT];grind⟩ (by omega);refine⟨λ_=>s,λM=>a6 ?_ M⟩;split;omega;rw[az (by omega)];omega;have s:=step r lY h1 (by omega) ⟨2*c,by omega,by rw[O,iT];grind⟩ (by omega);refine⟨λM=>a6 M ?_,λ_=>s⟩;rw[az (by omega),aV (by omega)];omega
def GV{l:J o}{d:o}(aA:db l)(ar:(l.length:o)=d)(aw:1<=d/\d<=64):gn l d=0:=by rw[<-ar];exact y3 aA (by omega)
def Kr(u:H)(t:U):Prop:=t.n=0∨∃L,Ints u t L/\BQ L/\∀x∈L,1<=x/\x<=1000000000
def Kr.get(h:Kr u t):∃L:J o,(∀x:o,0<=x->x<(t.n:o)->(t.n:o)<=9223372036854775807/\∃p,t.a=some p/\∃y,L[x.toNat]?=some y/\u.cell? (p.add (x.toNat*1))=some (.int .i64 y))/\BQ L/\∀x∈L,1<=x/\x<=1000000000:=by rcases h with h|⟨L,a,b,c⟩;exact⟨[],λx h0 h1=>by omega,.nil,λ_ h=>by cases h⟩;have:=a.max;exact⟨L,λx h0 h1=>⟨by omega,a.get h0 h1⟩,b,c⟩
def aAe{d:o}{K:o->H->Prop}(h1:Ints u r.ls r.bJ)(h2:Ints u r.ag r.hi)(O:oF r d)(ht:Kr u t)(h:K 0 u):Vo r.aG r.ls r.ag (dk r.cH) (dq r.cH) t d u K:=by
 refine ie.forget (ss:=[.one (.int .i64)]) ?_;have b3:=h1.len;have eN:=h2.len;have aw:=O.dim;have fin:∀{v:H},u.le v->u.le v/\K 0 u:=λaA=>⟨aA,h⟩;apply aD2;refine ab1 ?_;rw[lP aw];obtain⟨L,cL,tW,b7⟩:=ht.get;refine⟨λM=>a6 rfl M,λ_=>⟨λ_ tl zv v=>v=u/\0<=zv/\∀y,L[zv.toNat]?=some y->tl<y,λ_ _ zv _=>((t.n:o)-zv).toNat,⟨rfl,by omega,λy ah=>by have:=b7 y (du ah);omega⟩,λsh tl zv v aA=>?_⟩⟩;obtain⟨rfl,ait,bC⟩:=aA;refine⟨λM=>?_,λ_=>?_⟩;obtain⟨hm,p,ad,y,ah,bK⟩:=cL zv ait M;have:=bC y ah;have:=b7 y (du ah);refine⟨p,ad,⟨ait,M⟩,y,bK,λh=>by omega,λ_=>⟨λh=>by omega,λ_=>⟨⟨by omega,by omega⟩,⟨rfl,by omega,λY aB=>?_⟩,by dsimp only;omega⟩⟩⟩;obtain⟨g1,aP⟩:=ir.1 ah;obtain⟨g2,aC⟩:=ir.1 aB;rw[<-aP,<-aC];exact nX.1 tW _ _ g1 g2 (by omega);intro aER Lf Vx Eu;rcases O.shape with⟨e,aP,aC,c0⟩|⟨e,fW,v1,v2,eZ,fZ,hle⟩|⟨e,aC,v1,eZ,CH⟩;have jc:r.bJ.length=0:=by rw[aP];rfl
 have z2:r.hi.length=0:=by rw[aC];rfl
 refine⟨λ_=>⟨⟨by omega,by omega⟩,λ_=>Eu _ _ ⟨λ_=>fin (H.le.refl _),λac=>a6 ⟨by rw[c0];rfl,by rw[c0];rfl⟩ (Bg ac)⟩,λae=>a6 (by rw[b3,eN,aP,aC];rfl) ae⟩,λae=>a6 e ae⟩;refine⟨λM=>a6 M (by omega),λ_=>Eu _ _ ⟨λM=>(by cases M),λ_=>?_⟩⟩;intro anD WJ;refine⟨λM=>a6 M (by omega),λ_=>WJ _ _ ⟨λM=>(by cases M),λ_=>⟨λM=>a6 e M,λ_=>⟨λM=>a6 ⟨by rw[fW];rfl,by rw[fW];rfl⟩ M,λ_=>Lf _ _ ?_⟩⟩⟩⟩;refine l8 (aeg _ _) λg W=>?_;generalize nL:v.ins g _=u';have Ma:v.le u':=by subst nL;exact bW _ W
 have c:∀j w,(#[dX r.ls.a r.ls.n r.ls.c,dX r.ag.a r.ag.n r.ag.c]:cu ao)[j]?=some w->u'.cell? ⟨g,j,none⟩=some w:=by intro j w hw;subst nL;exact(a1 (bf _ _ _) j).trans hw
 clear nL W;refine⟨λ_ i w=>w=u'/\0<=i/\i<=2,λ_ i _=>(2-i).toNat,⟨rfl,by omega,by omega⟩,?_⟩;rintro _ i w ⟨rfl,i0,i1⟩;refine⟨λhi=>⟨_,rfl,⟨i0,hi⟩,?_⟩,λhi=>?_⟩;have hi:i<2:=hi;have I:i=0∨i=1:=by omega
 rcases I with rfl|rfl;refine⟨r.ls,c 0 _ rfl,pX (h1.mono Ma) ⟨λal=>a6 (GV v1 eZ aw) al,λ_=>⟨⟨by omega,by omega⟩,⟨rfl,by omega,by omega⟩,by dsimp only;omega⟩⟩⟩;refine⟨r.ag,c 1 _ rfl,pX (h2.mono Ma) ⟨λal=>a6 (GV v2 fZ aw) al,λ_=>⟨⟨by omega,by omega⟩,⟨rfl,by omega,by omega⟩,by dsimp only;omega⟩⟩⟩;refine⟨λ_ i w'=>w'=w/\0<=i,λ_ i _=>((r.ls.n:o)-i).toNat,⟨rfl,by omega⟩,?_⟩;rintro _ i w' ⟨rfl,i0⟩;refine⟨λhi=>?_,λ_=>⟨Ma,h⟩⟩;obtain⟨hF,gG,c1⟩:=(h1.mono Ma).at i0 hi;obtain⟨dO,fg,c2⟩:=(h2.mono Ma).at i0 (show i<(r.ag.n:o) by omega);have:=hle i.toNat (by omega);exact⟨hF,gG,⟨i0,hi⟩,_,c1,dO,fg,⟨i0,by omega⟩,_,c2,λM=>by omega,λ_=>⟨⟨by omega,by omega⟩,⟨rfl,by omega⟩,by dsimp only;omega⟩⟩;refine⟨λM=>a6 M (by omega),λ_=>Eu _ _ ⟨λM=>(by cases M),λ_=>?_⟩⟩;intro anD WJ;refine⟨λ_=>WJ _ _ ⟨λ_=>pX h1 ?_,λac=>?_⟩,λM=>a6 e M⟩;rw[GV v1 eZ aw];exact fin (H.le.refl _);exact a6 (by rw[eN,aC];rfl) (Bg ac)
def aAf{K:o->H->Prop}(h1:Ints u r.ls r.bJ)(h2:Ints u r.ag r.hi)(O:oF r q.length)(ht:Kr u t)(ag:Ints u s q)(aO:db q)(h:K 0 u):Vp r.aG r.ls r.ag (dk r.cH) (dq r.cH) t s u K:=by have ae:=ag.len;apply aD4;rw[ae];refine aAe h1 h2 O ht ⟨λM=>a6 rfl M,λ_=>pX ag ?_⟩;rw[GV aO rfl O.dim];exact h
def ab0{K:o->o->o->H->Prop}(h1:Ints u r.ls r.bJ)(h2:Ints u r.ag r.hi)(O:oF r q.length)(ht:Kr u t)(ag:Ints u s q)(aO:db q)
  (h:K (dk (o4 r q)) (dq (o4 r q)) 0 u):DS r.aG r.ls r.ag (dk r.cH) (dq r.cH) t s u K:=by
 have b3:=h1.len
 have eN:=h2.len
 have aGn:=ag.len
 have aw:=O.dim
 have Y:dn 0:=⟨by omega,by omega⟩
 unfold o4 at h
 apply aDZ
 refine aAf h1 h2 O ht ag aO ⟨λM=>a6 rfl M,λ_=>?_⟩
 intro nx oO
 rcases O.shape with⟨e,_⟩|⟨e,_,v1,v2,eZ,fZ,hle⟩|⟨e,aC,v1,eZ,CH⟩
 rw[az (by omega),az (by omega)] at h
 exact⟨λh=>by omega,λ_=>⟨λh=>by omega,λ_=>oO _ _ _ h⟩⟩
 rw[aV e] at h
 refine⟨λ_=>?_,λal=>a6 e al⟩
 refine⟨λi x y w=>w=u/\0<=i/\i<=s.n/\dn x/\dn y/\fi x y=u2 r.bJ r.hi q i.toNat,λi _ _ _=>((s.n:o)-i).toNat,⟨rfl,by omega,by omega,Y,Y,rfl⟩,?_⟩
 rintro i x y w ⟨rfl,i0,i1,M,ah,hw⟩
 refine⟨λhi=>?_,λhi=>?_⟩
 obtain⟨p,ad,bK⟩:=ag.at i0 hi
 obtain⟨hF,gG,c1⟩:=h1.at i0 (show i<(r.ls.n:o) by omega)
 obtain⟨dO,fg,c2⟩:=h2.at i0 (show i<(r.ag.n:o) by omega)
 have jZ:=aO.2 i.toNat (by omega)
 have cx:=v1.2 i.toNat (by omega)
 have cS:=v2.2 i.toNat (by omega)
 have Z:=ad9 v1 v2 aO (by omega) (by omega) i.toNat (by omega)
 have yn:=aO.1
 have yC:=hle i.toNat (by omega)
 have KS:u2 r.bJ r.hi q (i+1).toNat=u2 r.bJ r.hi q i.toNat+(if q.getD i.toNat 0<r.bJ.getD i.toNat 0 then ti (r.bJ.getD i.toNat 0) (q.getD i.toNat 0) else 0)+(if r.hi.getD i.toNat 0<q.getD i.toNat 0 then ti (q.getD i.toNat 0) (r.hi.getD i.toNat 0) else 0):=by rw[show(i+1).toNat=i.toNat+1 by omega];rfl
 have oP:u2 r.bJ r.hi q i.toNat<=64*36893488113059364872:=by have:=Int.mul_le_mul_of_nonneg_right (show(i.toNat:o)<=64 by omega) (show(0:o)<=36893488113059364872 by omega);omega
 refine⟨p,ad,⟨i0,hi⟩,_,bK,hF,gG,⟨i0,by omega⟩,_,c1,dO,fg,⟨i0,by omega⟩,_,c2,?_⟩
 generalize q.getD i.toNat 0=a at*
 generalize r.bJ.getD i.toNat 0=b at*
 generalize r.hi.getD i.toNat 0=c at*
 have ar8:k2 (if c<(if b>a then b else a) then c else(if b>a then b else a)):=by unfold k2 at*;split<;>split<;>omega
 refine alC M ah jZ ar8 (by omega) λnt mI fF jX kT=>⟨⟨by omega,by omega⟩,⟨rfl,by omega,by omega,fF,jX,?_⟩,by dsimp only;omega⟩
 rw[kT,hw,KS]
 unfold ti
 by_cases g1:b>a
 rw[aV g1,aV (show a<b from g1),az (show¬c<b by omega),az (show¬c<a by omega)]
 have:(a-b)*(a-b)=(b-a)*(b-a):=by grind
 omega
 rw[az g1,az (show¬a<b by omega)]
 by_cases g2:c<a
 rw[aV g2,aV g2];omega
 rw[az g2,az g2]
 have:(a-a)*(a-a)=0:=by simp
 omega
 have:i.toNat=q.length:=by omega
 rw[this] at hw
 obtain⟨g1,g2⟩:=BB M ah
 rw[hw] at g1 g2
 rw[g1,g2]
 exact oO _ _ _ h
 rw[az (by omega),aV e] at h
 refine⟨λh=>by omega,λ_=>⟨λ_=>?_,λal=>a6 e al⟩⟩
 refine ab2 h1 ag v1 aO (by omega) λx y M ah hw=>⟨H.le.refl _,?_⟩
 have ags:=OU v1 aO (show r.bJ.length=q.length by omega)
 refine alF M ah ⟨H.le.refl _,alF (XU CH) (AO _) ?_⟩
 rw[sg,hw]
 have s0:=Dp ags.1
 have s1:=abn ags
 have t0:=Dp CH.1
 have t1:=abn CH
 unfold Hi at h
 generalize vt:rt (fz r.bJ q r.bJ.length)=S at*
 generalize aGc:rt r.cH=jL at*
 intro DW HA
 have fin:∀Y:o,0<=Y->Y<18446744073709551616->K (dk (Y*Y)) (dq (Y*Y)) 0 u->DT Y Y u λ(aEG:o) (aEH:o) (amf:H)=>nx aEG aEH amf:=λY z0 jc aB=>TP ⟨z0,jc⟩ ⟨z0,jc⟩ λx y M ah iV=>by obtain⟨g1,g2⟩:=BB M ah;rw[iV] at g1 g2;rw[g1,g2];exact oO _ _ _ aB
 have go:∀T:o,0<=T->(K (dk (if T<S then(S-T)*(S-T) else 0)) (dq (if T<S then(S-T)*(S-T) else 0)) 0 u)->DW T u:=λT aR Q5=>by refine HA _ _ ⟨λbC=>?_,λgr=>?_⟩;rw[aV bC] at Q5;have aP:cw .u64 (S-T)=S-T:=S4 _ (by omega);rw[aP];exact fin _ (by omega) (by omega) Q5;rw[az gr] at Q5;exact oO _ _ _ Q5
 refine⟨λbC=>?_,λgr=>⟨H.le.refl _,?_⟩⟩
 refine TP ⟨t0.1,by omega⟩ ⟨t0.1,by omega⟩ λnt mI fF jX iV=>⟨H.le.refl _,?_⟩
 obtain⟨g1,g2⟩:=BB fF jX
 rw[iV] at g1 g2
 refine⟨λal=>?_,λhe=>?_⟩
 have k4:¬jL*jL=r.cH:=λWh=>al (by rw[g1,g2,Wh];exact⟨rfl,rfl⟩)
 rw[az k4] at h
 have aP:cw .u64 (jL+1)=jL+1:=S4 _ (by omega)
 rw[aP]
 exact go _ (by omega) h
 have fX:jL*jL=r.cH:=atc (by rw[<-g1];exact he.1) (by rw[<-g2];exact he.2)
 rw[aV fX] at h
 exact go _ t0.1 h
 refine go _ t0.1 ?_
 rw[az gr]
 rw[az (by split<;>omega)] at h
 exact h
def H.le.cell(h:v.le u){a:ba}{x:ao}(I:v.cell? a=some x):u.cell? a=some x:=by unfold H.cell? at I ⊢;split at I;rename_i c t f M;rw[h _ _ M];exact I;cases I
section
variable {α β:Type} [lx α] [lx β] {lt:α->α->aI} {vB:β->β->aI} {f:α->β}
def getD_map'(aw:f default=default)(l:J α)(i:N):(l.map f).getD i default=f (l.getD i default):=by
 rw[dr,dr,iD];cases l[i]? with
 |none=>exact aw.symm|some x=>rfl
omit [lx α] [lx β] in
def acf(l:J α)(i j:N):(jA l i j).map f=jA (l.map f) i j:=by unfold jA;rw[iD,iD];cases l[i]?<;>cases l[j]?<;>simp[Gj]
def aBo(aw:f default=default)(ar:∀a b,vB (f a) (f b)=lt a b):∀(j:N) (l:J α),(rC lt l j).map f=rC vB (l.map f) j:=by
 intro j;induction j using Nat.strongRecOn with
 |ind j aL=>intro l;unfold rC;by_cases h:j=0;rw[Bd h,Bd h];rw[xK h,xK h,getD_map' aw,getD_map' aw,ar];split;rw[aL (df j) (by unfold df;omega),acf];rfl
def avQ(aw:f default=default)(ar:∀a b,vB (f a) (f b)=lt a b)(n:N)(l:J α)(i:N):ou vB n (l.map f) i=ou lt n l i:=by unfold ou;rw[getD_map' aw,getD_map' aw,ar]
def apu(aw:f default=default)(ar:∀a b,vB (f a) (f b)=lt a b)(n:N):∀(m:N) (i:N) (l:J α),n-i<=m->(lU lt n l i).map f=lU vB n (l.map f) i:=by
 intro m;induction m with
 |zero=>intro i l h;unfold lU;rw[xK (by omega),xK (by omega)]
 |succ m aL=>intro i l h;unfold lU;by_cases I:2*i+1<n;rw[Bd I,Bd I,avQ aw ar,getD_map' aw,getD_map' aw,ar];split;obtain⟨_,_,_,hk⟩:=ZR (lt:=lt) (l:=l) I;rw[aL _ _ (by omega),acf];rfl;rw[xK I,xK I]
def axx(aw:f default=default)(ar:∀a b,vB (f a) (f b)=lt a b)(l:J α)(y:α):(y5 lt l y).map f=y5 vB (l.map f) (f y):=by unfold y5;rw[aBo aw ar,dY,dg];rfl
def axq(aw:f default=default)(ar:∀a b,vB (f a) (f b)=lt a b)(l:J α):(j0 lt l).map f=j0 vB (l.map f):=by unfold j0;rw[List.map_dropLast,apu aw ar _ _ _ _ (cg _),acf,dg]
end
inductive mO(u:H):N->bF->Prop where
 |mk {n:N} {p:bF} (ls ag is rs ks:U) (rows:J av) (c3:J N)
   (cell:u n=some (.cells #[.int .i64 p.aG,.slice ls.a ls.n ls.c,.slice ag.a ag.n ag.c,.int .u64 (dk p.cH),.int .u64 (dq p.cH),.slice is.a is.n is.c,.slice rs.a rs.n rs.c,.slice ks.a ks.n ks.c] 213 (0,0)))
   (AL:is.n=0) (bJ:Ints u ls p.bJ) (hi:Ints u ag p.hi) (at':dS u rs rows) (bi:rows.map av.bi=p.rows)
   (kids:bt u ks 1 (c3.map λn=>.pointer (some ⟨n,0,none⟩))) (len:c3.length=p.kids.length) (each:∀(i:N) m k,c3[i]?=some m->p.kids[i]?=some k->mO u m k):mO u n p
def mO.mono{u':H}(h:mO u n p)(hu:u.le u'):mO u' n p:=by
 induction h with
 |mk ls ag is rs ks rows c3 cell AL bJ hi at' bi kids len each aL=>exact .mk ls ag is rs ks rows c3 (hu _ _ cell) AL (bJ.mono hu) (hi.mono hu) (at'.mono hu) bi (kids.mono hu) len aL
structure sk(v u:H)(n:N)(l:J lC):Prop where
 ex:∃L:J kG,zI v n u L/\L.map (·.2)=l/\∀e∈L,∃m,e.1=⟨m,0,none⟩/\mO v m e.2.2
def azD{m:N}{l:J lC}{b:o}(h:sk v u n l)(ar:l.length<10000000)(ad:mO v m p)(aq:∀u',sk v u' n (y5 blt l (b,p))->K u'):
  zx (Gr n) (vV ((⟨m,0,none⟩:ba),(b,p))) u K:=by
 obtain⟨L,e6,cL,eh⟩:=h.ex
 have hlen:L.length=l.length:=by rw[<-cL,dg]
 refine azo (ajS v n) (y:=((⟨m,0,none⟩:ba),((b,p):lC))) (λhk=>axR e6 (by omega) hk) λu' ag=>aq u' ⟨y5 xv L ((⟨m,0,none⟩:ba),((b,p):lC)),ag,?_,λe he=>?_⟩
 have e:=axx (α:=kG) (β:=lC) (lt:=xv) (vB:=blt) (f:=λe:kG=>e.2) rfl (λ_ _=>rfl) L ((⟨m,0,none⟩:ba),((b,p):lC))
 rw[cL] at e
 exact e
 have hP:=ams (lt:=xv) L.length (L++ [((⟨m,0,none⟩:ba),((b,p):lC))]) (by simp)
 rcases cK.1 (hP.mem_iff.1 he) with h1|h1
 exact eh e h1
 have:=fI.1 h1
 subst this
 exact⟨m,rfl,ad⟩
def azg{m n0:N}{l:J lC}(h:sk v u n l)(aA:v.le u)(ar:l.length<10000000)(ad:mO v m p)(bH:oF (p.hp []) q.length)(aO:db q)
  (eT:u.cell? ⟨n0,0,none⟩=some (.slice s.a s.n s.c)) (ag:Ints u s q) (aq:∀u',sk v u' n (ps q l p)->K u'):UA (some ⟨m,0,none⟩) ⟨n0,0,none⟩ ⟨n,0,none⟩ u K:=by
 cases ad with
 |mk ls fY is rs ks rows c3 cell AL bJ hi at' bi kids len each=>
 have I:=aA _ _ cell
 have It:oF (⟨p.aG,ls,fY,p.cH,is,p.bJ,p.hi,[]⟩:cp) q.length:=⟨bH.dim,bH.ids,bH.id,bH.shape⟩
 apply aBU
 have push:zx (Gr n) (vV ((⟨m,0,none⟩:ba),(o4 (p.hp []) q,p))) u K:=azD h ar (.mk ls fY is rs ks rows c3 cell AL bJ hi at' bi kids len each) λu' nL=>aq u' nL
 have Ms:o4 (⟨p.aG,ls,fY,p.cH,is,p.bJ,p.hi,[]⟩:cp) q=o4 (p.hp []) q:=rfl
 refine⟨_,rfl,_,a1 I 0,ls,a1 I 1,fY,a1 I 2,_,a1 I 3,_,a1 I 4,is,a1 I 5,s,eT,?_,H.le.refl u,?_⟩
 exact ab0 (r:=⟨p.aG,ls,fY,p.cH,is,p.bJ,p.hi,[]⟩) (bJ.mono aA) (hi.mono aA) It (.inl AL) ag aO ⟨H.le.refl u,push⟩
 exact ab0 (r:=⟨p.aG,ls,fY,p.cH,is,p.bJ,p.hi,[]⟩) (bJ.mono aA) (hi.mono aA) It (.inl AL) ag aO push
end
section
variable{u u' ai:H}{b c:N}{D:N->Prop}{s:U}
def BK:H:=λ_=>none
def anu(u:H):BK.le u:=λ_ _ h=>by cases h
def Own.f{e k:N}{xs:J ao}(h:Own u e k s xs):aD BK u e k s xs:=⟨h,anu u,λ_ _=>rfl⟩
def H.nm(u:H)(s:U):H:=λc=>open Classical in if s.aj=some c then none else u c
def nn(h:s.aj≠some c):H.nm u s c=u c:=az h
def Ds(u:H)(s:U):(H.nm u s).le u:=λc z h=>by unfold H.nm at h;split at h;cases h;exact h
def JP{z:Obj}(h:H.nm u s c=some z):u c=some z/\s.aj≠some c:=by unfold H.nm at h;split at h;cases h;rename_i e;exact⟨h,e⟩
section
variable {bu aT:Type}
structure x5(A:(N->ay bu)->H->N->aT->Prop):Prop where
 bM:∀{af aY:N->ay bu} {u u':H} {b:N} {T:aT},A af u b T->(∀c,af c≠none->aY c=af c)->(∀c z,u c=some z->af c≠none->u' c=some z)->A aY u' b T
structure mf(A:(N->ay bu)->H->N->aT->Prop)(ai u:H)(af:N->ay bu)(b:N)(T:aT):Prop where
 aF:A af u b T
 le:ai.le u
 out:∀c,af c≠none->ai c=none
 known:∀c,af c≠none->u c≠none
structure hA(u:H)(af:N->ay bu)(u':H)(aY:N->ay bu):Prop where
 bM:∀c z,u c=some z->af c=none->u' c=some z
 grow:∀c,aY c≠none->af c≠none∨u c=none
variable {A:(N->ay bu)->H->N->aT->Prop}
omit A in
def hA.mono{af:N->ay bu}(h:u.le u'):hA u af u' af:=⟨λc z I _=>h c z I,λ_ h=>.inl h⟩
omit A in
def hA.off{af aY:N->ay bu}(h:hA u af u' aY){z:Obj}(I:u c=some z)(ac:af c=none):aY c=none:=by
 cases e:aY c with
 |none=>rfl|some t=>rcases h.grow c (by rw[e];simp) with h1|h1;exact a6 ac h1;rw[I] at h1;cases h1
omit A in
def hA.trans{aS c9:H}{af cZ hY:N->ay bu}(h:hA u af aS cZ)(k:hA aS cZ c9 hY):hA u af c9 hY where
 bM c z I ac:=k.bM c z (h.bM c z I ac) (h.off I ac)
 grow c I:=by
  rcases k.grow c I with h1|h1;exact h.grow c h1;cases e:af c with
  |some x=>exact .inl (by simp)|none=>
   cases aC:u c with
   |none=>exact .inr rfl|some z=>rw[h.bM c z aC e] at h1;cases h1
omit A in
def hA.tag{af aY hY:N->ay bu}(h:hA u af u' aY)(k:∀c,hY c=aY c∨af c≠none∨u c=none):hA u af u' hY where
 bM:=h.bM
 grow c I:=by rcases k c with h1|h1;rw[h1] at I;exact h.grow c I;exact h1
def mf.same(hk:x5 A){af:N->ay bu}{T:aT}(h:mf A ai u af b T)(hu:∀c z,u c=some z->af c≠none->u' c=some z)(hle:ai.le u'):mf A ai u' af b T:=
 ⟨hk.bM h.aF (λ_ _=>rfl) hu,hle,h.out,λc I=>by obtain⟨z,ab⟩:=e3.1 (h.known c I);rw[hu c z ab I];simp⟩
def mf.mono(hk:x5 A){af:N->ay bu}{T:aT}(h:mf A ai u af b T)(hu:u.le u'):mf A ai u' af b T:=h.same hk (λc z I _=>hu c z I) (h.le.trans hu)
def mf.fresh{af:N->ay bu}{T:aT}(h:mf A ai u af b T)(I:u c=none):af c=none:=by
 cases e:af c with
 |none=>rfl|some t=>exact a6 I (h.known c (by rw[e];simp))
def mf.tag(hk:x5 A){af:N->ay bu}{T:aT}(h:mf A ai u af b T)(S:N->ay bu)(ag:∀c,S c≠none->af c=none/\ai c=none/\u c≠none):
  ∃aY,mf A ai u aY b T/\(∀c t,S c=some t->aY c=some t)/\(∀c,S c=none->aY c=af c):=by
 let aY:N->ay bu:=λc=>match S c with|some t=>some t|none=>af c
 have aP:∀c t,S c=some t->aY c=some t:=λc t I=>by simp only[aY,I]
 have aC:∀c,S c=none->aY c=af c:=λc I=>by simp only[aY,I]
 have c0:∀c,af c≠none->aY c=af c:=λc I=>by
  cases e:S c with
  |none=>exact aC c e|some t=>exact a6 (ag c (by rw[e];simp)).1 I
 refine⟨aY,⟨hk.bM h.aF c0 λ_ _ ab _=>ab,h.le,λc I=>?_,λc I=>?_⟩,aP,aC⟩
 cases e:S c with
 |none=>rw[aC c e] at I;exact h.out c I
 |some t=>exact(ag c (by rw[e];simp)).2.1
 cases e:S c with
 |none=>rw[aC c e] at I;exact h.known c I
 |some t=>exact(ag c (by rw[e];simp)).2.2
def U.wg(s:U)(t:bu):N->ay bu:=λc=>if s.aj=some c then some t else none
omit A in
def U.aAU{t:bu}(h:s.aj=some c):s.wg t c=some t:=aV h
omit A in
def U.al4{t:bu}(h:s.aj≠some c):s.wg t c=none:=az h
omit A in
def U.aAV{t:bu}(h:s.wg t c≠none):s.aj=some c:=by by_cases e:s.aj=some c;exact e;exact a6 (U.al4 e) h
structure eW(A:(N->ay bu)->H->N->aT->Prop)(Ok:aT->Prop)(ai u:H)(D:N->Prop)(b:N)(X:aT):Prop where
 ex:∃af,(∀c,D c↔af c≠none)/\mf A ai u af b X/\Ok X
end
structure ko(u:H)(D:N->Prop)(u':H)(iv:N->Prop):Prop where
 bM:∀c z,u c=some z->¬D c->u' c=some z
 grow:∀c,iv c->D c∨u c=none
def ko.mono(h:u.le u'):ko u D u' D:=⟨λc z I _=>h c z I,λ_ h=>.inl h⟩
def ko.trans{aS c9:H}{p7 DV:N->Prop}(h:ko u D aS p7)(k:ko aS p7 c9 DV):ko u D c9 DV where
 bM c z I ac:=k.bM c z (h.bM c z I ac) λaw=>by rcases h.grow c aw with h1|h1;exact ac h1;rw[I] at h1;cases h1
 grow c I:=by
  rcases k.grow c I with h1|h1;exact h.grow c h1;by_cases e:D c;exact .inl e;right;cases aC:u c with
  |none=>rfl|some z=>rw[h.bM c z aC e] at h1;cases h1
def ko.apart{v:H}{iv:N->Prop}(h:ko u D u' iv)(aA:v.le u)(aw:∀c,D c->v c=none):v.le u'/\∀c,iv c->v c=none:=by refine⟨λc z I=>h.bM c z (aA c z I) λe=>?_,λc I=>?_⟩;have:=aw c e;rw[I] at this;cases this;rcases h.grow c I with h1|h1;exact aw c h1;exact aA.none h1
section
variable {bu aT:Type} {A:(N->ay bu)->H->N->aT->Prop} {Ok:aT->Prop}
def sV{af:N->ay bu}{T:aT}(h:mf A ai u af b T)(aR:Ok T):eW A Ok ai u (λc=>af c≠none) b T:=⟨af,λ_=>A0,h,aR⟩
omit A Ok in
def zr{af aY:N->ay bu}(eM:∀c,D c↔af c≠none)(h:hA u af u' aY):ko u D u' (λc=>aY c≠none) where
 bM c z I ac:=h.bM c z I (by
  cases e:af c with
  |none=>rfl|some t=>exact a6 ((eM c).2 (by rw[e];simp)) ac)
 grow c I:=(h.grow c I).imp (eM c).2 λh=>h
def eW.base{X:aT}(h:eW A Ok ai u D b X):ai.le u/\(∀c,D c->ai c=none)/\∀c,D c->u c≠none:=by obtain⟨af,h1,h2,_⟩:=h.ex;exact⟨h2.le,λc I=>h2.out c ((h1 c).1 I),λc I=>h2.known c ((h1 c).1 I)⟩
def eW.same(hk:x5 A){X:aT}(h:eW A Ok ai u D b X)(hu:∀c z,u c=some z->D c->u' c=some z)(hle:ai.le u'):eW A Ok ai u' D b X:=by obtain⟨af,h1,h2,h3⟩:=h.ex;exact⟨af,h1,h2.same hk (λc z I ac=>hu c z I ((h1 c).2 ac)) hle,h3⟩
def eW.mono(hk:x5 A){X:aT}(h:eW A Ok ai u D b X)(hu:u.le u'):eW A Ok ai u' D b X:=h.same hk (λc z I _=>hu c z I) (h.base.1.trans hu)
def eW.l6{v:H}{X:aT}(h:eW A Ok ai u D b X)(aA:v.le ai):eW A Ok v u D b X:=by
 obtain⟨af,h1,h2,h3⟩:=h.ex;exact⟨af,h1,⟨h2.aF,aA.trans h2.le,λc I=>by
  cases M:v c with
  |none=>rfl|some z=>have:=aA _ _ M;rw[h2.out c I] at this;exact(nomatch this),h2.known⟩,h3⟩
end
end
section
variable{u u':H}
structure et where
 b:N
 aG:o
 bo:U
 fl:U
 bJ:J o
 hi:J o
 cH:o
 bc:U
 rows:J av
 c8:U
def et.dt(h:et):J N:=h.b::(h.bo.aj.toList++h.fl.aj.toList++h.bc.aj.toList++h.c8.aj.toList)
inductive au where
 |mk (h:et) (kids:J au)
namespace au
def h:au->et| .mk h _=>h
def kids:au->J au| .mk _ k=>k
def b(n:au):N:=n.h.b
mutual
def bB:au->bF
 | .mk h kids=>.mk h.aG h.bJ h.hi h.cH (h.rows.map av.bi) (SL kids)
def SL:J au->J bF
 | []=>[]|n::ki=>n.bB::SL ki
end
mutual
def bO:au->J (et×J N)
 | .mk h kids=>(h,kids.map au.b)::mw kids
def mw:J au->J (et×J N)
 | []=>[]|n::ki=>n.bO++mw ki
end
def ajJ:∀ki:J au,SL ki=ki.map bB
 | []=>rfl|n::ki=>by rw[SL,ajJ ki,gl]
def HY:∀ki:J au,mw ki=ki.flatMap bO
 | []=>rfl|n::ki=>by rw[mw,HY ki,gB]
def ij(n:au):n.bO=(n.h,n.kids.map b)::n.kids.flatMap bO:=by cases n;rw[bO,HY];rfl
def hn(n:au):n.bB=.mk n.h.aG n.h.bJ n.h.hi n.h.cH (n.h.rows.map av.bi) (n.kids.map bB):=by cases n;rw[bB,ajJ];rfl
def Rq(n:au):0<n.bO.length:=by rw[ij];simp
def ind{P:au->Prop}(h:∀n,(∀k∈n.kids,P k)->P n):∀n,P n:=by intro n;exact au.rec (motive_1:=P) (motive_2:=λki=>∀k∈ki,P k) (λ_ _ aL=>h _ aL) (λk hk=>(by cases hk)) (λn ki h1 h2 k hk=>by rcases cE.1 hk with rfl|hk;exact h1;exact h2 k hk) n
def s5(n:au):n.bB.all=n.bO.flatMap λx=>x.1.rows.map av.bi:=by
 induction n using ind with
 |h n aL=>rw[hn,ij,gB,bF.all];congr 1;rw[ya,Bf,List.flatMap_assoc];rw[JE,JE];exact dV List.flatten (zd λk hk=>aL k hk)
def I9(n:au):n.bB.size=n.bO.length:=by
 induction n using ind with
 |h n aL=>
  rw[hn,ij,h5,bF.size,Nat.add_comm];congr 1;obtain⟨ks,oT⟩:∃ks,ks=n.kids:=⟨_,rfl⟩;rw[<-oT] at aL ⊢;clear oT;induction ks with
  |nil=>rfl|cons k ks FA=>rw[gl,bF.hq,gB,eC,aL k (gh ..),FA λj aM=>aL j (gd _ aM)]
def own(n:au):J N:=n.bO.flatMap λx=>x.1.dt
def rm(n:au):n.own=n.h.dt++n.kids.flatMap own:=by unfold own;rw[ij,gB,List.flatMap_assoc]
end au
def eP(h:et):J ao:=[.int .i64 h.aG,.slice h.bo.a h.bo.n h.bo.c,.slice h.fl.a h.fl.n h.fl.c,.int .u64 (dk h.cH),.int .u64 (dq h.cH),.slice none 0 0,.slice h.bc.a h.bc.n h.bc.c,.slice h.c8.a h.c8.n h.c8.c]
structure hz(u:H)(x:et×J N):Prop where
 cell:u x.1.b=some (.cells (eP x.1).toArray 213 (0,0))
 bJ:Own u 3 1 x.1.bo (x.1.bJ.flatMap encI)
 hi:Own u 3 1 x.1.fl (x.1.hi.flatMap encI)
 rws:Own u 52 2 x.1.bc (x.1.rows.flatMap cB)
 vec:∀r∈x.1.rows,Ints u r.s r.v
 lJ:bt u x.1.c8 1 (x.2.map λn=>.pointer (some ⟨n,0,none⟩))
def hz.bM{x:et×J N}(h:hz u x)(hu:∀c z,c∈x.1.dt->u c=some z->u' c=some z)(aA:∀r∈x.1.rows,Ints u' r.s r.v):hz u' x where
 cell:=hu _ _ (gh ..) h.cell
 bJ:=h.bJ.le λc z I ab=>hu c z (by simp[et.dt,I]) ab
 hi:=h.hi.le λc z I ab=>hu c z (by simp[et.dt,I]) ab
 rws:=h.rws.le λc z I ab=>hu c z (by simp[et.dt,I]) ab
 vec:=aA
 lJ:=bt.else h.lJ λc z I ab=>hu c z (by simp[et.dt,I]) ab
structure zG(u:H)(n:au):Prop where
 one:∀x∈n.bO,hz u x
 nodup:n.own.Nodup
def zG.bM{n:au}(h:zG u n)(hu:∀c z,c∈n.own->u c=some z->u' c=some z)(aA:∀x∈n.bO,∀r∈x.1.rows,Ints u' r.s r.v):zG u' n:=
 ⟨λx M=>(h.one x M).bM (λc z I ab=>hu c z (ee.2 ⟨x,M,I⟩) ab) (aA x M),h.nodup⟩
def zG.mono{n:au}(h:zG u n)(hu:u.le u'):zG u' n:=h.bM (λc z _ ab=>hu c z ab) λx M r O=>((h.one x M).vec r O).mono hu
def zG.part{n:au}(h:∀x∈n.bO,hz u x):mO u n.b n.bB:=by
 induction n using au.ind with
 |h n aL=>
  have h0:=h (n.h,n.kids.map au.b) (by rw[au.ij];exact gh ..);rw[au.hn];refine .mk n.h.bo n.h.fl ⟨none,0,0⟩ n.h.bc n.h.c8 n.h.rows (n.kids.map au.b) h0.cell rfl h0.bJ.f.ints h0.hi.f.ints ⟨h0.rws.cC,h0.vec⟩ rfl h0.lJ (by simp[bF.kids]) λi m k hm hk=>?_;have de:(n.kids.map au.bB)[i]?=some k:=hk;rw[iD] at hm de;cases e:n.kids[i]? with
  |none=>rw[e] at hm;cases hm
  |some Y=>rw[e] at hm de;obtain rfl:=cO hm;obtain rfl:=cO de;have aB:=du e;exact aL Y aB λx M=>h x (by rw[au.ij];exact gd _ (ee.2 ⟨Y,aB,M⟩))
structure j7 where
 h:et
 pre:J au
 post:J au
def j7.fill(f:j7)(n:au):au:=.mk f.h (f.pre++n::f.post)
def mC:J j7->au->au
 | [],n=>n|f::aU,n=>mC aU (f.fill n)
def j7.bO(f:j7)(b:N):J (et×J N):=(f.h,f.pre.map au.b++b::f.post.map au.b)::(f.pre++f.post).flatMap au.bO
def jq:J j7->N->J (et×J N)
 | [],_=>[]|f::aU,b=>f.bO b++jq aU f.h.b
def ae5(f:j7)(n:au):(f.fill n).bO.Perm (n.bO++f.bO n.b):=by unfold j7.fill j7.bO;rw[au.ij];show((f.h,(f.pre++n::f.post).map au.b)::(f.pre++n::f.post).flatMap au.bO).Perm _;rw[dY,gl,gU,gU,gB];refine Be (iL _ ?_) xJ.symm;refine aa4 _ _ _|>.trans ?_;exact .refl _
def F0:∀(aU:J j7) (n:au),(mC aU n).bO.Perm (n.bO++jq aU n.b)
 | [],n=>by rw[jq,kA];exact .refl _|f::aU,n=>by show(mC aU (f.fill n)).bO.Perm _;refine(F0 aU (f.fill n)).trans ?_;rw[jq,<-nf];exact(ae5 f n).append_right _
def aaB:∀(aU:J j7) {n n':au},n.b=n'.b->(mC aU n).b=(mC aU n').b
 | [],_,_,h=>h|f::aU,n,n',_=>aaB aU (n:=f.fill n) (n':=f.fill n') rfl
end
section
variable{u:H}{l:J av}{s:U}{p:bF}{i:N}
def ak1{aG hw lw:o}{ls ag is rs:U}{bJ hi:J o}{rows:J av}{K:o->U->U->o->o->U->H->Prop}(h1:Ints u ls bJ)(h2:Ints u ag hi)(O:dS u rs rows)(gf:bJ.length<=64)(gP:hi.length<=64)(wz:rows.length<=1000000)
  (aq:∀a b c u',aD u u' 3 1 a (bJ.flatMap encI)->aD u u' 3 1 b (hi.flatMap encI)->aD u u' 3 1 c ((dM (rows.map (·.id))).flatMap encI)->dH a b->dH a c->dH b c->K aG a b hw lw c u'):Pu aG ls ag hw lw is rs u K:=by
 have b3:=h1.len
 have eN:=h2.len
 have mz:=O.len
 apply aB3
 refine sc h1 (by omega) λs0 aS eJ _=>⟨eJ.le,sc (h2.mono eJ.le) (by omega) λs2 jM hE _=>?_⟩
 have Av:=O.mono (eJ.le.trans hE.le)
 refine⟨λi amV fJ gM amQ amR Gu w=>0<=i/\i<=rs.n/\amV=aG/\fJ=s0/\gM=s2/\amQ=hw/\amR=lw/\aD jM w 3 1 Gu (((rows.take i.toNat).map (·.id)).flatMap encI),λi _ _ _ _ _ _ _=>((rs.n:o)-i).toNat,
  ⟨by omega,by omega,rfl,rfl,rfl,rfl,rfl,by simpa using aD.nil (H.le.refl jM) 3 1⟩,?_⟩
 rintro i amV fJ gM amQ amR Gu w ⟨i0,i1,aP,aC,c0,ff,eX,ab⟩
 have ahq:=ab.ints.len
 rw[dg,gL] at ahq
 refine⟨λhi=>?_,λhi=>?_⟩
 obtain⟨p,ad,r,Fg,bK,c1,_⟩:=(Av.mono ab.le).at i0 hi
 refine⟨p,ad,⟨i0,hi⟩,_,bK,_,c1,np lQ (zN _) (by decide) rfl (by simp[cF]) ab (by omega) (by omega) λap u' dz fp eB ev _=>⟨⟨by omega,by omega⟩,⟨by omega,by omega,aP,aC,c0,ff,eX,?_⟩,by dsimp only;omega⟩⟩
 have e:rows.take (i+1).toNat=rows.take i.toNat++ [r]:=by rw[show(i+1).toNat=i.toNat+1 by omega,gT,Fg];rfl
 rw[e,dY,gU]
 exact dz
 have eh:rows.take i.toNat=rows:=ho (by omega)
 rw[eh] at ab
 subst aP aC c0 ff eX
 refine GI ab (by simp;omega) λfK Ap aFq=>?_
 have ac:∀g,Gu.aj=some g->jM g=none:=ab.fresh
 have f13:dH fJ Gu:=aD.eu (eJ.mono hE.le) (H.le.refl jM) ab
 have f23:dH gM Gu:=aD.eu hE (H.le.refl jM) ab
 have f12:dH fJ gM:=aD.eu eJ (H.le.refl aS) hE
 have vA:jM.le fK:=Ap.le
 exact aq _ _ _ fK ((eJ.mono hE.le).mono vA) ((hE.weaken eJ.le).mono vA) (Ap.weaken (eJ.le.trans hE.le)) f12 f13 f23
def aoI:kp aH 22 0 #[]=some (52,[]):=by kernel_rfl
def Wv:∀y∈l.flatMap cB,y.oneCell'=ak:=by intro y ah;obtain⟨h,_,ah⟩:=ee.1 ah;exact B4 h y ah
def OQ{K:U->H->Prop}(ag:bt u s 2 (l.flatMap cB))(Z:s.n<=1099511627776)(aq:∀ap u',aD u u' 52 2 ap (l.flatMap cB)->ap.n=s.n->K ap u'):nv s u K:=by
 apply aC7;refine⟨λae=>?_,λ_=>abB ic aoI (by decide) ag Wv (by omega) aq⟩;have ar:=aby ag ae;have hN:s.n=0:=by have:=bt.len ag;rw[ar] at this;simp at this;omega
 refine aq _ _ ?_ hN.symm;rw[ar];exact aD.nil (H.le.refl u) _ _
def anY{c3:J bF}{k:bF}(h:c3[i]?=some k):bF.jD (c3.take (i+1))=bF.jD (c3.take i)++k.all:=by rw[gT,h,ya,ya];simp
def anX(c3:J bF)(i:N):(bF.jD (c3.take i)).length<=(bF.jD c3).length:=by
 conv=>rhs;rw[<-r6 i c3]
 rw[ya,ya,gU,eC];omega
def azd{v:H}{n:N}(ad:mO v n p):∀{u:H} {K:U->H->Prop},v.le u->p.all.length<=1000000->
  (∀(s:U) (L:J av) (u':H),aD u u' 52 2 s (L.flatMap cB)->L.map av.bi=p.all->(∀r∈L,Ints v r.s r.v)->K s u')->Pr (some ⟨n,0,none⟩) u K:=by
 induction ad with
 |@mk n p ls ag is rs ks rows c3 cell AL bJ hi at' bi kids len each aL=>
 intro u K aA Z aq
 have I:=aA _ _ cell
 have lq:p.rows.length=rows.length:=by rw[<-bi,dg]
 rw[bF.all_eq] at Z aq
 rw[eC] at Z
 have ahP:=at'.len
 apply aBQ
 refine⟨_,rfl,rs,a1 I 6,OQ (bt.mono at'.1 aA) (by omega) λs2 jM hE _=>⟨_,rfl,ks,a1 (hE.le _ _ I) 7,?_⟩⟩
 have rQ:=jv (bt.cap kids) (bt.max kids)
 have jF:ks.n=c3.length:=by have:=kids.len;simpa using this.symm
 refine⟨λfJ x w=>0<=x/\x<=ks.n/\∃L:J av,aD u w 52 2 fJ (L.flatMap cB)/\L.map av.bi=p.rows++bF.jD (p.kids.take x.toNat)/\∀r∈L,Ints v r.s r.v,λ_ x _=>((ks.n:o)-x).toNat,
  ⟨by omega,by omega,rows,hE,by simpa[bF.jD] using bi,λr O=>at'.2 r O⟩,?_⟩
 rintro fJ x w ⟨bG,dy,L,ab,cL,cA⟩
 refine⟨λM=>?_,λM=>?_⟩
 have eO:x.toNat<c3.length:=by omega
 obtain⟨k,hk⟩:∃k,p.kids[x.toNat]?=some k:=⟨_,cn (by omega)⟩
 have hm:c3[x.toNat]?=some c3[x.toNat]:=cn eO
 obtain⟨a,aE,fP⟩:=bt.elem (enc:=λn:N=>[gS (some ⟨n,0,none⟩)]) (k:=1) (λ_=>rfl) (by decide) (xs:=c3) (by
  have e:c3.flatMap (λn:N=>[gS (some ⟨n,0,none⟩)])=c3.map λn=>gS (some ⟨n,0,none⟩):=by
   generalize c3=Y;induction Y with
   |nil=>rfl|cons y Y aL=>rw[gB,gl,aL];rfl
  rw[e];exact kids.mono (aA.trans ab.le)) hm
 have eh:=anY hk
 have hle:=anX p.kids (x.toNat+1)
 rw[eh,eC] at hle
 have ve:=dV hR cL
 rw[dg,eC] at ve
 have nH:fJ.n=L.length:=gY eY (by decide) ab.own.cC
 refine⟨a,aE,⟨bG,M⟩,_,fP 0 _ rfl,aL _ _ _ hm hk (aA.trans ab.le) (by omega) λkW anL l9 dz afQ aqY=>?_⟩
 have hN:=dV hR afQ
 rw[dg] at hN
 have yE:=gY eY (by decide) dz.own.cC
 refine Oy ic (by decide) (ab.mono dz.le) dz.own.cC Wv (by omega) (by omega) λqD u16 kv _=>⟨⟨by omega,by omega⟩,⟨by omega,by omega,L++anL,by rw[gU];exact kv,?_,λr O=>?_⟩,by dsimp only;omega⟩
 rw[dY,cL,afQ,show(x+1).toNat=x.toNat+1 by omega,eh,nf]
 rcases cK.1 O with h|h
 exact cA r h
 exact aqY r h
 rw[ho (by omega)] at cL
 exact aq _ L w ab cL cA
def P5(ub:H)(fv:ao)(p:av->aI):Prop:=∀(r:av) (v:H) (K:aI->H->Prop),ub.le v->K (p r) v->tm aH fv #[.agg #[.int .i64 r.id,.slice r.s.a r.s.n r.s.c]] [.one .bool] v K
def aln{ub:H}{fv:ao}{p:av->aI}{K:o->H->Prop}(ag:bt u s 2 (l.flatMap cB))(ad:P5 ub fv p)(b9:ub.le u)
  (aq:∀(i:N) r,l[i]?=some r->(∀(k:N) ch,k<i->l[k]?=some ch->p ch=ax)->p r=ak->K i u) (eG:(∀r∈l,p r=ax)->K (-1) u):PK s fv u K:=by
 have ae:s.n=l.length:=gY eY (by decide) ag
 have hm:s.n<=9223372036854775807:=jv (bt.cap ag) (bt.max ag)
 apply aDf
 refine⟨λ_ i v=>v=u/\0<=i/\i<=l.length/\∀(k:N) ch,k<i.toNat->l[k]?=some ch->p ch=ax,λ_ i _=>l.length-i.toNat,⟨rfl,by omega,by omega,λk ch hk=>by simp at hk⟩,?_⟩
 rintro _ i v ⟨rfl,i0,i1,hk⟩
 refine⟨λea=>?_,λgr=>eG λr O=>?_⟩
 have ar:i.toNat<l.length:=by omega
 have M:l[i.toNat]?=some l[i.toNat]:=cn ar
 obtain⟨q,aO,I⟩:=bt.elem eY (by decide) ag M
 have bK:=I 0 _ rfl
 rw[Addr.add_zero'] at bK
 refine⟨q,aO,⟨i0,ea⟩,_,bK,_,I 1 _ rfl,ad _ _ _ b9 ⟨λZ=>?_,λZ=>⟨⟨by omega,by omega⟩,⟨rfl,by omega,by omega,λk ch de cq=>?_⟩,by dsimp only;omega⟩⟩⟩
 have:=aq i.toNat _ M hk Z
 rw[show((i.toNat:N):o)=i by omega] at this
 exact this
 by_cases e:k=i.toNat
 subst e
 rw[M] at cq;cases cq
 exact Z
 exact hk k ch (by omega) cq
 obtain⟨k,de,rfl⟩:=pe O
 exact hk k _ (by omega) (cn de)
def xq:av:=⟨0,⟨none,0,0⟩,[]⟩
def aEC{w w':b6}{b:N}{z b5:Obj}(hw:Sub u w)(Z:u b=some z)(k:sq b b5 w w'):Step u [] w (u.ins b b5) [] w':=by refine⟨λx y h=>?_,k.os,k.tape,k.output,k.drawn,JD k.size.symm,λx _ M _=>k.rest x (λe=>by rw[e,Z] at M;cases M),λx _ M=>?_,[],by simp,by simp⟩;unfold H.ins at h;split at h;rename_i e;rw[e];cases h;exact k.at_;rename_i e;rw[k.rest x e];exact hw _ _ h;rw[bm _ _ (λe=>by rw[e,Z] at M;cases M)];exact M
def ayy{g n c:N}{cur:cu ao}{T:dC}(W:u g=some (.cells cur T (0,0)))(ae:i+n*2<=cur.size){fb:dC}{K:H->Prop}(aq:K (u.ins g (.cells (wr cur i ((eU n xq).flatMap cB)) T (0,0)))):
  c4 aH (pQ #[22] fb #[.slice (some ⟨g,i,none⟩) n c]) [] u K:=by
 intro w hw
 obtain⟨ht,_⟩:=tz ic
 have hlen:((eU n xq).flatMap cB).length=n*2:=by rw[od eY,N9]
 rcases Oa n with rfl|oW
 refine⟨.tuple #[],w,u,by simp[pQ,iq ht],⟨[],.nil,rfl,?_⟩,Step.refl hw⟩
 have e:u.ins g (.cells (wr cur i ((eU 0 xq).flatMap cB)) T (0,0))=u:=Nk (by rw[W];rfl)
 rw[e] at aq
 exact aq
 obtain⟨w',O,kU⟩:=acb (P:=aH) (b:=g) (off:=i) (T:=T) ((eU n xq).flatMap cB) 0 cur w (hw _ _ W) (by rw[hlen];omega) (λv aA=>by obtain⟨r,O,aA⟩:=ee.1 aA;rw[List.eq_of_mem_replicate O] at aA;simp[xq,cB] at aA;rcases aA with rfl|rfl<;>rfl)
 have aA:∀w,(zeroValue 52).run aH w=.ok (.agg #[.int .i64 0,.slice none 0 0]) w:=λ_=>by kernel_rfl
 have Zz:(vP (cV #[.int .i64 0,.slice none 0 0]).cells n).toList=(eU n xq).flatMap cB:=by have:=AS (enc:=cB) eY (by decide) xq n;rw[<-this];rfl
 obtain⟨m,rfl⟩:∃m,n=m+1:=⟨n-1,by omega⟩
 refine⟨.tuple #[],w',_,by simp[pQ,iq ht,aA,Zz,O],⟨[],.nil,rfl,aq⟩,aEC hw W kU⟩
def aD.ape{ai:H}(h:aD ai u 52 2 s (l.flatMap cB))(hi:i<=s.n){fb:dC}{K:H->Prop}
  (aq:∀(u':H) (bw:J av),aD ai u' 52 2 s (bw.flatMap cB)->bw.take i=l.take i->bw.length=l.length->gN u u' s->K u'):c4 aH (pQ #[22] fb #[.slice (s.part i s.n s.c 2).a (s.part i s.n s.c 2).n (s.part i s.n s.c 2).c]) [] u K:=by
 have dw:s.n=l.length:=gY eY (by decide) h.own.cC
 obtain⟨Ax,_⟩:=tz ic
 rcases h.own.is with h0|⟨g,cur,aE,W,ae,I,ag,ht⟩
 subst h0
 have ar:l=[]:=ly dw.symm
 subst ar
 have LY:i=0:=by simpa using hi
 subst LY
 refine c4.pure [] (λw hw=>?_) .nil (aq u [] h rfl rfl (gN.refl _ _))
 simp[U.part,pQ,iq Ax]
 rfl
 rcases aaI hi with rfl|bC
 have e:(s.part s.n s.n s.c 2).n=0:=by simp[U.part]
 refine c4.pure [] (λw hw=>?_) .nil (aq u l h rfl rfl (gN.refl _ _))
 rw[e]
 cases(s.part s.n s.n s.c 2).a<;>simp[pQ,iq Ax]<;>rfl
 have yH:(s.part i s.n s.c 2).a=some ⟨g,i*2,none⟩:=by unfold U.part;simp only;rw[az (by omega),aE];simp[iC]
 rw[yH]
 have YD:(s.part i s.n s.c 2).n=s.n-i:=rfl
 rw[YD]
 have cY:i*2+(s.n-i)*2<=cur.size:=by rw[ag];omega
 refine ayy W cY ?_
 have lq:((eU (s.n-i) xq).flatMap cB).length=(s.n-i)*2:=by rw[od eY,N9]
 have CN:=GX cur (i*2) ((eU (s.n-i) xq).flatMap cB) (by rw[lq];omega)
 rw[lq] at CN
 have vm:(l.take i++eU (s.n-i) xq).length=l.length:=by simp;omega
 refine aq _ (l.take i++eU (s.n-i) xq) ⟨⟨by rw[od eY,vm,dw],.inr ⟨g,_,aE,bf _ _ _,ae,I,?_,?_⟩⟩,λb z Z=>?_,h.fresh⟩ ?_ vm ?_
 rw[<-ru,CN];simp[lq];omega
 rw[CN,gU]
 have rb:cur.toList.take (s.n*2)=l.flatMap cB:=ht
 have h1:cur.toList.take (i*2)=(l.take i).flatMap cB:=by rw[<-yi eY,<-rb,Ga,A9 (by omega)]
 have gi:((l.take i).flatMap cB).length=i*2:=by rw[od eY];simp;omega
 rw[h1,N0 (by rw[eC,gi,lq];omega),ho (by rw[eC,gi,lq];omega)]
 have:b≠g:=λe=>by have:=h.fresh g (by simp[U.aj,aE]);rw[e,this] at Z;cases Z
 rw[bm _ _ this];exact h.le b z Z
 rw[N0 (by simp;omega),Ga,Te]
 intro b z Z al
 rw[bm _ _ (λe=>al (by simp[U.aj,aE,e]))];exact Z
def alm{ai ub:H}{fv:ao}{p:av->aI}{K:U->H->Prop}(ab:aD ai u 52 2 s (l.flatMap cB))(ad:P5 ub fv p)(b9:ub.le u)(kb:∀b,s.aj=some b->ub b=none)
  (aq:∀ap u',aD ai u' 52 2 ap ((l.filter λx=>!p x).flatMap cB)->ap.aj=s.aj->gN u u' s->K ap u'):PJ s fv u K:=by
 have dw:s.n=l.length:=gY eY (by decide) ab.own.cC
 have yD:s.n<=9223372036854775807:=jv (bt.cap ab.own.cC) (bt.max ab.own.cC)
 apply aDc
 refine aln ab.own.cC ad b9 (λi r RE ed kh=>⟨λh=>by omega,λ_=>?_⟩) λed=>⟨λ_=>?_,λh=>a6 rfl h⟩
 have hi:i<l.length:=(ir.1 RE).1
 have Xw:(l.take i).filter (λx=>!p x)=l.take i:=by rw[pS];intro a aE;obtain⟨k,hk,rfl⟩:=pc.1 aE;simp only[gL] at hk;rw[Gk,ed k _ (by omega) (cn (by omega))];rfl
 refine⟨⟨by omega,by omega⟩,?_⟩
 refine⟨λa j v=>0<=a/\a<j/\j<=l.length/\gN u v s/\∃m:J av,m.length=l.length/\aD ai v 52 2 s (m.flatMap cB)/\m.take a.toNat=(l.take j.toNat).filter (λx=>!p x)/\m.drop j.toNat=l.drop j.toNat,
  λ_ j _=>l.length-j.toNat,⟨by omega,by omega,by omega,gN.refl _ _,l,rfl,ab,?_,rfl⟩,?_⟩
 rw[show((i:o)+1).toNat=i+1 by omega,xM,gT,RE]
 simp only[Tg,vT,Xw,xN,kh]
 simp
 rintro a j v ⟨a0,cI,avH,eB,m,pG,om,ua,LM⟩
 have Zh:ub.le v:=λb z Z=>eB b z (b9 b z Z) λe=>by rw[kb b e] at Z;cases Z
 refine⟨λku=>?_,λgr=>?_⟩
 have L4:j.toNat<l.length:=by omega
 have L6:l[j.toNat]?=some l[j.toNat]:=cn L4
 have RF:m[j.toNat]?=some l[j.toNat]:=by have:=dV (λY=>Y[0]?) LM;simp only[uB,Th] at this;rw[this,L6]
 obtain⟨q,aO,I⟩:=bt.elem eY (by decide) om.own.cC RF
 have bK:=I 0 _ rfl
 rw[Addr.add_zero'] at bK
 obtain⟨x,M⟩:∃x,x=l[j.toNat]:=⟨_,rfl⟩
 rw[<-M] at L6 RF bK I
 have Az:(l.take (j.toNat+1)).filter (λx=>!p x)=m.take a.toNat++(if p x=ak then[] else[x]):=by rw[gT,L6,ua];simp only[Tg,vT,xN,List.filter_nil];cases p x<;>simp
 have LN:∀qu:J av,(∀k,a.toNat<k->qu[k]?=m[k]?)->qu.drop (j+1).toNat=l.drop (j+1).toNat:=λqu oi=>by
  have e:l.drop (j+1).toNat=m.drop (j+1).toNat:=by rw[show(j+1).toNat=j.toNat+1 by omega,<-A7,<-A7,LM]
  rw[e];apply r1;intro k;rw[uB,uB,oi _ (by omega)]
 refine⟨q,aO,⟨by omega,ku⟩,_,bK,_,I 1 _ rfl,ad x _ _ Zh ⟨λZ=>?_,λZ=>?_⟩⟩
 have YB:p x=ax:=by simpa using Z
 rw[YB] at Az
 refine⟨q,aO,⟨by omega,by omega⟩,?_⟩
 refine aD.store (enc:=cB) eY om (by decide) (i:=a.toNat) (by omega) (y:=x) (by simp[cB,cF]) aO λc9 dz iQ _=>⟨⟨by omega,by omega⟩,⟨by omega,by omega⟩,⟨by omega,by omega,by omega,λb z Z al=>iQ b z (eB b z Z al) al,_,by simpa using pG,dz,?_,?_⟩,by dsimp only;omega⟩
 rw[show(j+1).toNat=j.toNat+1 by omega,Az,show(a+1).toNat=a.toNat+1 by omega,gT,ze (by omega),List.take_set_of_le (cg _)]
 simp
 exact LN _ λk hk=>uE (by omega)
 rw[Z] at Az
 refine⟨⟨by omega,by omega⟩,⟨by omega,by omega,by omega,eB,m,pG,om,?_,LN m λ_ _=>rfl⟩,by dsimp only;omega⟩
 rw[show(j+1).toNat=j.toNat+1 by omega,Az];simp
 have ku:j.toNat=l.length:=by have:¬j<(s.n:o):=gr;omega
 have gZ:=bt.cap om.own.cC
 rw[ku,ni] at ua
 refine lj (P:=aH) ic (l:=a.toNat) (h:=s.n) (m:=s.c) (.inr (by rw[tb a0])) (.inl ⟨rfl,rfl⟩) (.inl ⟨rfl,rfl⟩) (by omega) gZ (cg _) gZ ?_
 refine om.ape (i:=a.toNat) (by omega) λc9 m2 dz h1 h2 iQ=>?_
 refine lj (P:=aH) ic (l:=0) (h:=a.toNat) (m:=s.c) (.inl ⟨rfl,rfl⟩) (.inr (by rw[tb a0])) (.inl ⟨rfl,rfl⟩) (by omega) (by omega) (cg _) gZ ?_
 obtain⟨ac,Ae,_⟩:=dz.front (m:=a.toNat) (by omega)
 have e:(m2.flatMap cB).take (a.toNat*2)=(l.filter λx=>!p x).flatMap cB:=by rw[yi eY,h1,ua]
 rw[e] at ac
 exact aq _ _ ac Ae λb z Z al=>iQ b z (eB b z Z al) al
 have e:l.filter (λx=>!p x)=l:=pS.2 λa aE=>by rw[ed a aE];rfl
 exact aq s u (by rw[e];exact ab) rfl (gN.refl _ _)
namespace bF
mutual
def del(id:o):bF->bF
 | .mk aG bJ hi cH rows kids=>.mk aG bJ hi cH (rows.filter λx=>x.1 !=id) (Qw id kids)
def Qw(id:o):J bF->J bF
 | []=>[]|p::c3=>p.del id::Qw id c3
end
def aez(id:o):∀c3:J bF,Qw id c3=c3.map (del id)
 | []=>rfl|p::c3=>by rw[Qw,aez id c3,gl]
def ind{P:bF->Prop}(h:∀n,(∀k∈n.kids,P k)->P n):∀n,P n:=by intro n;exact bF.rec (motive_1:=P) (motive_2:=λki=>∀k∈ki,P k) (λ_ _ _ _ _ _ aL=>h _ aL) (λk hk=>(by cases hk)) (λn ki h1 h2 k hk=>by rcases cE.1 hk with rfl|hk;exact h1;exact h2 k hk) n
def del_eq(id:o)(p:bF):p.del id=.mk p.aG p.bJ p.hi p.cH (p.rows.filter λx=>x.1 !=id) (p.kids.map (del id)):=by cases p;rw[del,aez];rfl
def V7(id:o)(p:bF):(p.del id).all=p.all.filter λx=>x.1 !=id:=by
 induction p using ind with
 |h p aL=>
  rw[del_eq,all_eq,all_eq,vT];show(p.rows.filter λx=>x.1 !=id)++jD (p.kids.map (del id))=_;congr 1;rw[ya,ya,Bf];obtain⟨ks,oT⟩:∃ks,ks=p.kids:=⟨_,rfl⟩;rw[<-oT] at aL ⊢;clear oT;induction ks with
  |nil=>rfl|cons k ks FA=>rw[gB,gB,vT,aL k (gh ..),FA λj aM=>aL j (gd _ aM)]
def aeB{id d:o}(h:fT d p):fT d (p.del id):=by
 induction p using ind with
 |h p aL=>
  have h1:=h.kl;have h2:=h.ins;have h3:=h.kids;have O:(p.del id).hp []=p.hp []:=by rw[del_eq];rfl
  refine .mk ?_ (λx M=>?_) λk hk=>?_;rw[O];exact h1;rw[O];rw[V7] at M;exact h2 x (hT.1 M).1;rw[del_eq] at hk;obtain⟨dQ,de,rfl⟩:=bk.1 (show k∈p.kids.map (del id) from hk);exact aL dQ de (h3 dQ de)
def aeC(id:o)(p:bF):(p.del id).size=p.size:=by
 induction p using ind with
 |h p aL=>
  rw[del_eq,size_eq,size_eq];show 1+hq (p.kids.map (del id))=_;congr 1;obtain⟨ks,oT⟩:∃ks,ks=p.kids:=⟨_,rfl⟩;rw[<-oT] at aL ⊢;clear oT;induction ks with
  |nil=>rfl|cons k ks FA=>rw[gl,hq,hq,aL k (gh ..),FA λj aM=>aL j (gd _ aM)]
end bF
inductive lm(s:o):bF->Prop where
 |mk {p:bF} (aG:p.aG=s) (kids:∀k∈p.kids,lm s k):lm s p
def lm.aG{s:o}(h:lm s p):p.aG=s:=by cases h;assumption
def lm.kids{s:o}(h:lm s p):∀k∈p.kids,lm s k:=by cases h;assumption
def lm.del{s id:o}(h:lm s p):lm s (p.del id):=by
 induction p using bF.ind with
 |h p aL=>rw[bF.del_eq];refine .mk h.aG λk hk=>?_;obtain⟨dQ,de,rfl⟩:=bk.1 (show k∈p.kids.map (bF.del id) from hk);exact aL dQ de (h.kids dQ de)
def afa{α β:Type}{f:α->J β}:∀{ks:J α},(ks.flatMap f).Nodup->∀{i j:N} {a b:α} {c:β},ks[i]?=some a->ks[j]?=some b->i≠j->c∈f a->c∉f b:=by
 intro ks;induction ks with
 |nil=>intro _ i j a b c hi;simp at hi
 |cons k ks aL=>
  intro ae i j a b c hi aM al aE Z;rw[gB,gb] at ae;obtain⟨_,h2,h3⟩:=ae;cases i with
  |zero=>
   cases j with
   |zero=>exact al rfl|succ j=>obtain rfl:=cO (show some k=some a from hi);exact h3 c aE c (ee.2 ⟨b,du (show ks[j]?=some b from aM),Z⟩) rfl
  |succ i=>
   cases j with
   |zero=>obtain rfl:=cO (show some k=some b from aM);exact h3 c Z c (ee.2 ⟨a,du (show ks[i]?=some a from hi),aE⟩) rfl
   |succ j=>exact aL h2 (show ks[i]?=some a from hi) (show ks[j]?=some b from aM) (by omega) aE Z
def TS{h:et}(I:u h.b=some (.cells (eP h).toArray 213 (0,0)))(s:U)(rows:J av){f:H->Prop}
  (ac:f (u.ins h.b (.cells (eP {h with bc:=s,rows:=rows}).toArray 213 (0,0)))):H.aN u ((cr h.b 0 none).add 6) [.slice s.a s.n s.c] f:=by
 exact⟨_,_,I,rfl,by simp[eP,iC],by simp[cF],ac⟩
structure G5(id:o)(n:au)(u':H)(n':au):Prop where
 one:∀x∈n'.bO,hz u' x
 own:n'.own=n.own
 b:n'.b=n.b
 bB:n'.bB=n.bB.del id
 rows:∀x∈n'.bO,∀r∈x.1.rows,∃y∈n.bO,r∈y.1.rows
def gX.mix{m:J av}{d:o}(h:gX l d)(ad:m.Perm l):gX m d:=
 ⟨h.dim,by rw[ad.length_eq];exact h.len,λr O=>h.id r (ad.mem_iff.1 O),(ad.map _).nodup_iff.2 h.nodup,λr O=>h.v r (ad.mem_iff.1 O)⟩
def aas{e k:N}{xs:J ao}(h:Own u e k s xs){g:N}(W:s.aj=some g):u g≠none:=dF h.f W
end
section
open Go.Shelf Go.RowKit Go.Sort
def ae9{α:Type}[lx α]{enc:α->J ao}{k:N}(q3:0<k)(hk:∀x,(enc x).length=k)(d:cu α):(flatK enc k d).toList=d.toList.flatMap enc:=by
 apply r1;intro i;rcases j1 i (d.size*k) with hi|hi;have e:i=i/k*k+i%k:=by rw[Td];exact(Nat.div_add_mod i k).symm
 have aw:i/k<d.size:=Nat.div_lt_of_lt_mul (by rw[Td];exact hi);have O:i%k<k:=N4 _ q3;have ac:=Hu hk d.toList (i/k) (i%k) O;rw[<-e] at ac;rw[ac];have:(flatK enc k d).toList[i]?=some ((flatK enc k d)[i]!):=by rw[A6,r4 _ i (by simpa using hi),xz (by simpa using hi)]
 rw[this,get_flatK _ _ _ _ hi];simp[aw];have h2:i%k<(enc d[i/k]).length:=by rw[hk];exact O
 rw[cn h2];rfl;rw[io (by simpa using hi),io (by rw[od hk];simpa using hi)]
def aqx{P:dR}{f:ju}{args:cu ao}{Y:o}{bN:b6}(h:ie P f args [.one (.int .i64)] (λb=>bN.heap[b]?) λfj u'=>fj=Y/\u'=λb=>bN.heap[b]?):
  Calls P f args bN λe w'=>e=.returned (.int .i64 Y)/\∃q NO,w'=grow (bN.drewN q) NO:=by
 refine(h bN (λb z e=>e)).mono ?_
 rintro e w' ⟨v,u',rfl,⟨vs,hk,rfl,I⟩,ag⟩
 cases hk with
 |cons x O=>cases O;have mv:=(aK.uT (.int .i64) x _).1 I;obtain⟨M,hu⟩:x=Y/\u'=_:=mv;subst M;subst hu;exact⟨rfl,ag.afo⟩
def akZ{α:Type}[lx α]{cf:α->α->o}{d:cu α}(ag:SortedIn (ltOf cf) 0 d.size d):d.toList.Pairwise λa b=>¬cf b a<0:=by refine nX.2 λi j hi aM gE=>?_;have:=ag i j (nU _) gE (by simpa using aM);simp only[ru] at hi aM;rw[r4 d j aM,r4 d i hi] at this;unfold ltOf at this;simpa using this
def azS{α:Type}[lx α](val:α->av){g:ju}{cf:α->α->o}(hO:SWO (ltOf cf))(pv:∀args w,(qw g args).run aH w=.ok (.enter g args) w)
  (LI:∀a b (u:H),ie aH g #[.agg (cB (val a)).toArray,.agg (cB (val b)).toArray] [.one (.int .i64)] u λfj u'=>fj=cf a b/\u'=u)
  {ai u:H} {s:U} {l:J α} (ab:aD ai u 52 2 s ((l.map val).flatMap cB)) (fq:l.length<4611686018427387904) {K:H->Prop}
  (aq:∀(u':H) (bw:J α),bw.Perm l->(bw.Pairwise λa b=>¬cf b a<0)->aD ai u' 52 2 s ((bw.map val).flatMap cB)->gN u u' s->K u'):adq s (.func (.func g) #[] #[]) u K:=by
 intro w hw
 have dw:s.n=l.length:=by have:=gY eY (by decide) ab.own.cC;simpa using this
 rcases ab.own.is with h0|⟨b,cur,aE,W,hle,I,ag,ht⟩
 subst h0
 have ar:l=[]:=by have:l.length=0:=dw.symm;exact ly this
 subst ar
 refine(aaU Tryz.akX none 0 _ w).mono ?_
 rintro e w' ⟨rfl,rfl⟩
 exact⟨_,u,rfl,⟨[],.nil,rfl,aq u [] (Gl _) mE ab (gN.refl _ _)⟩,Step.refl hw⟩
 have H0:∀m:J α,(m.map val).flatMap cB=m.flatMap λx=>cB (val x):=λm=>by rw[Bf]
 have hH:HoldsK (λx=>cB (val x)) 2 w b 0 l.toArray:=by
  intro j aM;simp only[size_flatK,vQ] at aM;have ar:((l.map val).flatMap cB)[j]?=some ((flatK (λx=>cB (val x)) 2 l.toArray)[j]!):=by have:=ae9 (k:=2) (enc:=λx=>cB (val x)) (by decide) (λx=>eY _) l.toArray;simp only[] at this;rw[H0,<-this,A6,r4 _ j (by simpa using aM),xz (by simpa using aM)]
  constructor;rcases ab.own.cC.at' with h1|⟨p,ad,fP⟩;rw[h1] at ar;simp at ar;rw[aE] at ad;cases ad;have:=hw.cell (fP j _ ar);rw[iC,jI] at this;simpa using this;simp[F6,hw _ _ W]
 have sG:=AnyQ.slices_SortFunc Tryz.akX 2 (λw=>by kernel_rfl) (λw=>by kernel_rfl) (λx=>cB (val x)) (λx=>eY _) (λx=>B4 _) cf hO g #[] b 0 s.c l.toArray w pv
  (λm os zU _ x y=>by have:=afp (LI x y) (sortWorldK (λx=>cB (val x)) 2 w b 0 m zU os);simpa using this) hH (hw.lt W) (by simpa using fq)
 simp only[vQ] at sG
 change Calls aH 104 _ _ _ at sG
 unfold vs
 rw[aE,dw]
 refine sG.mono ?_
 rintro e w' ⟨rfl,lo,n,os,⟨gG,_,q9⟩,oZ,rfl⟩
 simp only[vQ] at gG
 have hP:lo.toList.Perm l:=by
  have aP:lo.extract 0 l.length=lo:=by rw[<-gG];simp
  have aC:l.toArray.extract 0 l.length=l.toArray:=by simp
  rw[aP,aC] at q9;simpa using q9
 obtain⟨bQ,he⟩:=ab.Tu aE W (F:=flatK (λx=>cB (val x)) 2 lo) (by rw[size_flatK,gG,dw])
 rw[ae9 (by decide) (λx=>eY _),<-H0] at bQ
 exact⟨_,_,rfl,⟨[],.nil,rfl,aq _ lo.toList hP (akZ (by rw[gG];exact oZ)) bQ he⟩,TV hw W n _ os⟩
def azR{α:Type}[lx α](val:α->o){g:ju}{sw:cu ao}{cf:α->α->o}(hO:SWO (ltOf cf))(pv:∀args w,(qw g args).run aH w=.ok (.enter g args) w)
  {ub:H} (LI:∀a b (v:H),ub.le v->ie aH g (#[.int .i64 (val a),.int .i64 (val b)]++sw) [.one (.int .i64)] v λfj u'=>fj=cf a b/\u'=v)
  {ai u:H} {s:U} {l:J α} (b9:ub.le u) (kb:∀b,s.aj=some b->ub b=none) (ab:aD ai u 3 1 s ((l.map val).flatMap encI)) (fq:l.length<4611686018427387904) {K:H->Prop}
  (aq:∀(u':H) (bw:J α),bw.Perm l->(bw.Pairwise λa b=>¬cf b a<0)->aD ai u' 3 1 s ((bw.map val).flatMap encI)->gN u u' s->K u'):adp s (.func (.func g) #[] sw) u K:=by
 intro w hw
 have dw:s.n=l.length:=by have:=ab.ints.len;simpa using this
 rcases ab.own.is with h0|⟨b,cur,aE,W,hle,I,ag,ht⟩
 subst h0
 have ar:l=[]:=by have:l.length=0:=dw.symm;exact ly this
 subst ar
 refine(aaU {Tryz.akW with} none 0 _ w).mono ?_
 rintro e w' ⟨rfl,rfl⟩
 exact⟨_,u,rfl,⟨[],.nil,rfl,aq u [] (Gl _) mE ab (gN.refl _ _)⟩,Step.refl hw⟩
 have tH:ub b=none:=kb b (by simp[U.aj,aE])
 have hH:Holds (λx=>cG .i64 (val x)) w b 0 l.toArray:=by
  intro j aM;have kO:j<l.length:=by simpa using aM
  have ar:((l.map val).flatMap encI)[j]?=some (.int .i64 (val l[j])):=by rw[va];simp[kO]
  constructor;rcases ab.own.cC.at' with h1|⟨p,ad,fP⟩;rw[h1] at ar;simp at ar;rw[aE] at ad;cases ad;have:=hw.cell (fP j _ ar);rw[iC,jI] at this;rw[r4 _ j (by simpa using kO)];simpa using this;simp[F6,hw _ _ W]
 have sG:=Any.slices_SortFunc Tryz.akW (λx:α=>cG .i64 (val x)) (λx=>rfl) cf hO g sw b 0 s.c l.toArray w pv
  (λm os zU _ x y=>by
   refine aqx (LI x y _ λc z I=>?_);have kr:c≠b:=λe=>by rw[e,tH] at I;cases I
   have aim:=hw _ _ (b9 _ _ I);have bC:c<w.heap.size:=(xE.1 aim).1;have LX:(uF w m).heap[b]?=some (.cells cur 3 (0,0)):=hw _ _ W;have h2:=(agE (putCells (λx:α=>cG .i64 (val x)) 0 zU) LX).2 c kr;show((mapBlock (uF w m) b (putCells (λx:α=>cG .i64 (val x)) 0 zU)).heap++os)[c]?=_;have cY:(mapBlock (uF w m) b (putCells (λx:α=>cG .i64 (val x)) 0 zU)).heap.size=w.heap.size:=by simp[mapBlock,uF]
   rw[aaN (by rw[cY];exact bC),h2];exact aim) hH (hw.lt W) (by simpa using fq)
 simp only[vQ] at sG
 change Calls aH 175 _ _ _ at sG
 unfold vs
 rw[aE,dw]
 refine sG.mono ?_
 rintro e w' ⟨rfl,lo,n,os,⟨gG,_,q9⟩,oZ,rfl⟩
 simp only[vQ] at gG
 have hP:lo.toList.Perm l:=by
  have aP:lo.extract 0 l.length=lo:=by rw[<-gG];simp
  have aC:l.toArray.extract 0 l.length=l.toArray:=by simp
  rw[aP,aC] at q9;simpa using q9
 have YI:putCells (λx:α=>cG .i64 (val x)) 0 lo cur=putCells id 0 ((lo.toList.map val).map λx=>cG .i64 x).toArray cur:=by unfold putCells;apply Array.ext;simp;intro i h1 h2;simp only[Array.getElem_mapIdx,vQ,dg,ru,nU,true_and,jI,xH,id];split;rename_i hi;rw[r4 _ i (by simpa using hi),r4 _ i (by simpa using hi)];simp;rfl
 obtain⟨bQ,he⟩:=ab.Tu aE W (F:=((lo.toList.map val).map λx=>cG .i64 x).toArray) (by simp[gG,dw])
 rw[<-YI] at bQ he
 simp only[] at bQ
 rw[<-va] at bQ
 exact⟨_,_,rfl,⟨[],.nil,rfl,aq _ lo.toList hP (akZ (by rw[gG];exact oZ)) bQ he⟩,TV hw W n _ os⟩
end
section
variable{ai u v ub:H}{s:U}{l:J av}{fv:ao}{K:H->Prop}{a b:o}
def jn(ai u:H)(s:U)(l:J av)(v:H):Prop:=gN u v s/\∃m:J av,m.Perm l/\aD ai v 52 2 s (m.flatMap cB)
def Km(ub:H)(l:J av)(fv:ao):Prop:=∀(a b:av) (v:H) (K:o->H->Prop),a∈l->b∈l->ub.le v->(∀Y,K Y v)->hL aH fv #[.agg #[.int .i64 a.id,.slice a.s.a a.s.n a.s.c],.agg #[.int .i64 b.id,.slice b.s.a b.s.n b.s.c]] [.one (.int .i64)] v K
def jn.base(h:jn ai u s l v)(b9:ub.le u)(kb:∀b,s.aj=some b->ub b=none):ub.le v:=λc z I=>h.1 c z (b9 c z I) λe=>by rw[kb c e] at I;cases I
def jn.len(h:jn ai u s l v):s.n=l.length:=by obtain⟨_,m,ad,ab⟩:=h;have:=gY eY (by decide) ab.own.cC;rw[ad.length_eq] at this;exact this
def jn.D4(h:jn ai u s l v){x y:o}(bG:0<=x)(dy:x<s.n)(jk:0<=y)(j6:y<s.n):∃p,s.a=some p/\∃a b:av,a∈l/\b∈l/\
  v.cell? (p.add (x.toNat*2))=some (.int .i64 a.id)/\v.cell? ((p.add (x.toNat*2)).add 1)=some (.slice a.s.a a.s.n a.s.c)/\v.cell? (p.add (y.toNat*2))=some (.int .i64 b.id)/\v.cell? ((p.add (y.toNat*2)).add 1)=some (.slice b.s.a b.s.n b.s.c)/\
  ∀f g:H->Prop,(∀cm,jn ai u s l cm->f cm)->(∀v1,H.aN v1 (p.add (y.toNat*2)) [.int .i64 a.id,.slice a.s.a a.s.n a.s.c] f->g v1)->H.aN v (p.add (x.toNat*2)) [.int .i64 b.id,.slice b.s.a b.s.n b.s.c] g:=by
 have dw:=h.len
 obtain⟨he,m,ad,ab⟩:=h
 have pG:=ad.length_eq
 have M:x.toNat<m.length:=by omega
 have ah:y.toNat<m.length:=by omega
 obtain⟨p,jV,I⟩:=bt.elem eY (by decide) ab.own.cC (cn M)
 obtain⟨vK,ahL,aw⟩:=bt.elem eY (by decide) ab.own.cC (cn ah)
 obtain rfl:vK=p:=by rw[jV] at ahL;exact(cO ahL).symm
 have oQ:=I 0 _ rfl
 have Cp:=aw 0 _ rfl
 rw[Addr.add_zero'] at oQ Cp
 refine⟨vK,jV,m[x.toNat],m[y.toNat],ad.mem_iff.1 (kk M),ad.mem_iff.1 (kk ah),oQ,I 1 _ rfl,Cp,aw 1 _ rfl,λf g ac W=>?_⟩
 refine aD.store (enc:=cB) eY ab (by decide) (i:=x.toNat) M (y:=m[y.toNat]) (by simp[cB,cF]) jV λv1 kf vh _=>W v1 ?_
 refine aD.store (enc:=cB) eY kf (by decide) (i:=y.toNat) (by rw[qz];exact ah) (y:=m[x.toNat]) (by simp[cB,cF]) jV λv2 dz iQ _=>ac v2 ⟨λc z I al=>iQ c z (vh c z (he c z I al) al) al,_,?_,dz⟩
 refine Be ?_ ad
 rw[<-GL M ah]
 exact DA M ah
def SA{x y:o}(M:0<=x)(ah:0<=y)(h:x+y<=4000000000):ci.wrap (er (bR.wrap (x+y)) (2 ^ 1))=(x+y)/2:=by
 have aP:bR.wrap (x+y)=x+y:=by show(x+y)%18446744073709551616=x+y;omega
 rw[aP,aaR _ (by decide)];exact IntWalk.i64_in _ (by omega)
def abZ{n:o}(h:jn ai u s l v)(fq:l.length<=1000000)(a0:0<=a)(fV:0<=b)(aE:a+n<=s.n)(Z:b+n<=s.n)(aq:∀cm,jn ai u s l cm->K cm):Ki s a b n fv v K:=by have dw:=h.len;apply aDm;refine⟨λi w=>0<=i/\jn ai u s l w,λi _=>(n-i).toNat,⟨by omega,h⟩,?_⟩;rintro i w ⟨i0,hw⟩;refine⟨λhi=>?_,λ_=>aq w hw⟩;obtain⟨p,ad,x,y,_,_,bK,c1,d0,d1,dI⟩:=hw.D4 (x:=a+i) (y:=b+i) (by omega) (by omega) (by omega) (by omega);refine⟨⟨by omega,by omega⟩,⟨by omega,by omega⟩,⟨by omega,by omega⟩,p,ad,⟨by omega,by omega⟩,⟨by omega,by omega⟩,p,ad,⟨by omega,by omega⟩,_,d0,_,d1,_,bK,_,c1,p,ad,⟨by omega,by omega⟩,?_⟩;exact dI _ _ (λcm gR=>⟨⟨by omega,by omega⟩,⟨by omega,gR⟩,by dsimp only;omega⟩) λv1 h1=>⟨p,ad,⟨by omega,by omega⟩,h1⟩
def azI{m:o}(h:jn ai u s l v)(fq:l.length<=1000000)(a0:0<=a)(af6:a<m)(ahj:m<b)(Z:b<=s.n)(aq:∀cm,jn ai u s l cm->K cm):U4 s a m b fv v K:=by have dw:=h.len;apply aDk;refine⟨⟨by omega,by omega⟩,⟨by omega,by omega⟩,λi j w=>0<i/\i<=m-a/\0<j/\j<=b-m/\jn ai u s l w,λi j _=>(i+j).toNat,⟨by omega,by omega,by omega,by omega,h⟩,?_⟩;rintro i j w ⟨i0,i1,gJ,jY,hw⟩;refine⟨λal=>⟨λbC=>⟨⟨by omega,by omega⟩,?_⟩,λbC=>⟨⟨by omega,by omega⟩,⟨by omega,by omega⟩,⟨by omega,by omega⟩,?_⟩⟩,λhe=>⟨⟨by omega,by omega⟩,?_⟩⟩;exact abZ hw fq (by omega) (by omega) (by omega) (by omega) λcm gR=>⟨⟨by omega,by omega⟩,⟨by omega,by omega,by omega,by omega,gR⟩,by dsimp only;omega⟩;exact abZ hw fq (by omega) (by omega) (by omega) (by omega) λcm gR=>⟨⟨by omega,by omega⟩,⟨by omega,by omega,by omega,by omega,gR⟩,by dsimp only;omega⟩;exact abZ hw fq (by omega) (by omega) (by omega) (by omega) aq
def ale(b9:ub.le u)(kb:∀b,s.aj=some b->ub b=none)(I:Km ub l fv)(h:jn ai u s l v)(fq:l.length<=1000000)(a0:0<=a)(Cn:a<=2000000)(Z:b<=s.n)(aq:∀cm,jn ai u s l cm->K cm):PM s a b fv v K:=by have dw:=h.len;apply aDj;refine⟨⟨by omega,by omega⟩,λi w=>a<i/\jn ai u s l w,λi _=>(b-i).toNat,⟨by omega,h⟩,?_⟩;rintro i w ⟨i0,hw⟩;refine⟨λhi=>?_,λ_=>aq w hw⟩;refine⟨λj w=>a<=j/\j<=i/\jn ai u s l w,λj _=>(j-a).toNat,⟨by omega,by omega,hw⟩,?_⟩;rintro j w ⟨gJ,jY,hw⟩;intro adG mo;have next:∀{Y:H},jn ai u s l Y->br (i+1)/\(a<i+1/\jn ai u s l Y)/\(b-(i+1)).toNat<(b-i).toNat:=λaB=>⟨⟨by omega,by omega⟩,⟨by omega,aB⟩,by omega⟩;refine⟨λaM=>?_,λ_=>next hw⟩;obtain⟨p,ad,x,y,M,ah,bK,c1,d0,d1,dI⟩:=hw.D4 (x:=j) (y:=j-1) (by omega) (by omega) (by omega) (by omega);refine⟨p,ad,⟨by omega,by omega⟩,⟨by omega,by omega⟩,p,ad,⟨by omega,by omega⟩,_,bK,_,c1,_,d0,_,d1,?_⟩;refine I x y w _ M ah (hw.base b9 kb) λY=>⟨λ_=>mo _ ?_,λ_=>next hw⟩;refine⟨⟨by omega,by omega⟩,⟨by omega,by omega⟩,p,ad,⟨by omega,by omega⟩,p,ad,⟨by omega,by omega⟩,_,d0,_,d1,_,bK,_,c1,p,ad,⟨by omega,by omega⟩,?_⟩;exact dI _ _ (λcm gR=>⟨⟨by omega,by omega⟩,⟨by omega,by omega,gR⟩,by dsimp only;omega⟩) λv1 h1=>⟨p,ad,⟨by omega,by omega⟩,h1⟩
def alq(b9:ub.le u)(kb:∀b,s.aj=some b->ub b=none)(I:Km ub l fv)(fq:l.length<=1000000):∀(dc:N) {a m b:o} {v:H} {K:H->Prop},b-a<=dc->jn ai u s l v->0<=a->a<m->m<b->b<=s.n->(∀cm,jn ai u s l cm->K cm)->G3 s a m b fv v K:=by
 intro dc;induction dc with
 |zero=>intro a m b v K eG h a0 af6 ahj Z aq;omega
 |succ dc aL=>
  intro a m b v K eG h a0 af6 ahj Z aq;have dw:=h.len;apply aDn;refine⟨⟨by omega,by omega⟩,λh1=>?_,λh1=>⟨⟨by omega,by omega⟩,λh2=>?_,λh2=>?_⟩⟩;refine⟨λi j w=>m<=i/\i<=j/\j<=b/\jn ai u s l w,λi j _=>(j-i).toNat,⟨by omega,by omega,by omega,h⟩,?_⟩;rintro i j w ⟨i0,aiG,jY,hw⟩;refine⟨λgE=>⟨⟨by omega,by omega⟩,by decide,?_⟩,λgE=>?_⟩;rw[SA (by omega) (by omega) (by omega)];obtain⟨c,lG⟩:∃c,c=(i+j)/2:=⟨_,rfl⟩;rw[<-lG];obtain⟨p,ad,x,y,M,ah,bK,c1,d0,d1,_⟩:=hw.D4 (x:=c) (y:=a) (by omega) (by omega) (by omega) (by omega);refine⟨p,ad,⟨by omega,by omega⟩,p,ad,⟨by omega,by omega⟩,_,bK,_,c1,_,d0,_,d1,?_⟩;refine I x y w _ M ah (hw.base b9 kb) λY=>⟨λ_=>⟨⟨by omega,by omega⟩,⟨by omega,by omega,by omega,hw⟩,by dsimp only;omega⟩,λ_=>⟨⟨by omega,by omega,by omega,hw⟩,by dsimp only;omega⟩⟩;refine⟨λk w=>a<=k/\jn ai u s l w,λk _=>(i-k).toNat,⟨by omega,hw⟩,?_⟩;rintro k w ⟨jZ,hw⟩;refine⟨⟨by omega,by omega⟩,λhk=>?_,λ_=>aq w hw⟩;obtain⟨p,ad,x,y,M,ah,bK,c1,d0,d1,dI⟩:=hw.D4 (x:=k) (y:=k+1) (by omega) (by omega) (by omega) (by omega);refine⟨⟨by omega,by omega⟩,⟨by omega,by omega⟩,p,ad,⟨by omega,by omega⟩,p,ad,⟨by omega,by omega⟩,_,d0,_,d1,_,bK,_,c1,p,ad,⟨by omega,by omega⟩,?_⟩;exact dI _ _ (λcm gR=>⟨⟨by omega,by omega⟩,⟨by omega,gR⟩,by dsimp only;omega⟩) λv1 h1=>⟨p,ad,⟨by omega,by omega⟩,h1⟩;refine⟨λi j w=>a<=i/\i<=j/\j<=m/\jn ai u s l w,λi j _=>(j-i).toNat,⟨by omega,by omega,by omega,h⟩,?_⟩;rintro i j w ⟨i0,aiG,jY,hw⟩;refine⟨λgE=>⟨⟨by omega,by omega⟩,by decide,?_⟩,λgE=>?_⟩;rw[SA (by omega) (by omega) (by omega)];obtain⟨c,lG⟩:∃c,c=(i+j)/2:=⟨_,rfl⟩;rw[<-lG];obtain⟨p,ad,x,y,M,ah,bK,c1,d0,d1,_⟩:=hw.D4 (x:=m) (y:=c) (by omega) (by omega) (by omega) (by omega);refine⟨p,ad,⟨by omega,by omega⟩,p,ad,⟨by omega,by omega⟩,_,bK,_,c1,_,d0,_,d1,?_⟩;refine I x y w _ M ah (hw.base b9 kb) λY=>⟨λ_=>⟨⟨by omega,by omega⟩,⟨by omega,by omega,by omega,hw⟩,by dsimp only;omega⟩,λ_=>⟨⟨by omega,by omega,by omega,hw⟩,by dsimp only;omega⟩⟩;refine⟨λk w=>k<=m/\jn ai u s l w,λk _=>(k-i).toNat,⟨by omega,hw⟩,?_⟩;rintro k w ⟨jZ,hw⟩;refine⟨λhk=>?_,λ_=>aq w hw⟩;obtain⟨p,ad,x,y,M,ah,bK,c1,d0,d1,dI⟩:=hw.D4 (x:=k) (y:=k-1) (by omega) (by omega) (by omega) (by omega);refine⟨⟨by omega,by omega⟩,⟨by omega,by omega⟩,p,ad,⟨by omega,by omega⟩,p,ad,⟨by omega,by omega⟩,_,d0,_,d1,_,bK,_,c1,p,ad,⟨by omega,by omega⟩,?_⟩;exact dI _ _ (λcm gR=>⟨⟨by omega,by omega⟩,⟨by omega,gR⟩,by dsimp only;omega⟩) λv1 h1=>⟨p,ad,⟨by omega,by omega⟩,h1⟩;rw[SA (by omega) (by omega) (by omega)];obtain⟨e0,Mj⟩:∃e0,e0=(a+b)/2:=⟨_,rfl⟩;rw[<-Mj];refine⟨⟨by omega,by omega⟩,by decide,⟨by omega,by omega⟩,?_⟩;intro anF aqF;have body:∀s0 qC:o,a<=s0->s0<=qC->qC<=m->qC<=e0->e0+m-b<=s0->(m<=e0∨e0=qC)->anF s0 qC v:=by
   intro s0 qC cT da dm fx rn F2;refine aqF s0 qC v ⟨⟨by omega,by omega⟩,λi j w=>s0<=i/\i<=j/\j<=qC/\jn ai u s l w,λi j _=>(j-i).toNat,⟨by omega,by omega,by omega,h⟩,?_⟩;rintro i j w ⟨i0,aiG,jY,hw⟩;refine⟨λgE=>⟨⟨by omega,by omega⟩,by decide,?_⟩,λgE=>⟨⟨by omega,by omega⟩,?_⟩⟩;rw[SA (by omega) (by omega) (by omega)];obtain⟨c,lG⟩:∃c,c=(i+j)/2:=⟨_,rfl⟩;rw[<-lG];obtain⟨p,ad,x,y,M,ah,bK,c1,d0,d1,_⟩:=hw.D4 (x:=e0+m-1-c) (y:=c) (by omega) (by omega) (by omega) (by omega);refine⟨⟨by omega,by omega⟩,p,ad,⟨by omega,by omega⟩,p,ad,⟨by omega,by omega⟩,_,bK,_,c1,_,d0,_,d1,?_⟩;refine I x y w _ M ah (hw.base b9 kb) λY=>⟨λ_=>⟨⟨by omega,by omega⟩,⟨by omega,by omega,by omega,hw⟩,by dsimp only;omega⟩,λ_=>⟨⟨by omega,by omega,by omega,hw⟩,by dsimp only;omega⟩⟩;intro anH aqK;have fin:∀Y,jn ai u s l Y->anH Y:=by
    intro Y aB;refine aqK Y ?_;intro Vz WL;have Wt:∀Y,jn ai u s l Y->Vz Y:=by intro Y aB;refine WL Y ⟨λaP=>⟨λaC=>?_,λ_=>aq Y aB⟩,λ_=>aq Y aB⟩;exact aL (by omega) aB (by omega) (by omega) (by omega) (by omega) aq
    refine⟨λaP=>⟨λaC=>?_,λ_=>Wt Y aB⟩,λ_=>Wt Y aB⟩;exact aL (by omega) aB (by omega) (by omega) (by omega) (by omega) Wt
   refine⟨λaP=>⟨λaC=>?_,λ_=>fin w hw⟩,λ_=>fin w hw⟩;exact azI hw fq (by omega) (by omega) (by omega) (by omega) fin
  refine⟨λbC=>⟨⟨by omega,by omega⟩,body _ _ (by omega) (by omega) (by omega) (by omega) (by omega) (by omega)⟩,λgr=>body _ _ (by omega) (by omega) (by omega) (by omega) (by omega) (by omega)⟩
def alp(ab:aD ai u 52 2 s (l.flatMap cB))(b9:ub.le u)(kb:∀b,s.aj=some b->ub b=none)(I:Km ub l fv)(fq:l.length<=1000000)
  (aq:∀(u':H) (m:J av),m.Perm l->aD ai u' 52 2 s (m.flatMap cB)->gN u u' s->K u'):PL s fv u K:=by
 have h:jn ai u s l u:=⟨gN.refl _ _,l,.refl _,ab⟩
 have dw:=h.len
 have fin:∀v,jn ai u s l v->K v:=λv ⟨he,m,ad,ab⟩=>aq v m ad ab he
 apply aDh
 apply aDl
 refine⟨λa b w=>0<=a/\a<=s.n/\b=a+20/\jn ai u s l w,λa _ _=>((s.n:o)-a).toNat,⟨by omega,by omega,by omega,h⟩,?_⟩
 rintro a b w ⟨a0,aa,Z,hw⟩
 refine⟨λhle=>?_,λwW=>?_⟩
 exact ale b9 kb I hw fq (by omega) (by omega) (by omega) λcm gR=>⟨⟨by omega,by omega⟩,⟨by omega,by omega,by omega,gR⟩,by dsimp only;omega⟩
 refine ale b9 kb I hw fq (by omega) (by omega) (by omega) λcm gR=>?_
 refine⟨λ_ _ k w=>20<=k/\k<=4000000/\jn ai u s l w,λ_ _ k _=>(4000000-k).toNat,⟨by omega,by omega,gR⟩,?_⟩
 rintro _ _ k w ⟨jZ,cx,hw⟩
 refine⟨λhk=>⟨⟨by omega,by omega⟩,?_⟩,λ_=>fin w hw⟩
 refine⟨λx y w=>0<=x/\x<=s.n/\y=x+2*k/\jn ai u s l w,λx _ _=>((s.n:o)-x).toNat,⟨by omega,by omega,by omega,hw⟩,?_⟩
 rintro x y w ⟨bG,dy,ah,hw⟩
 refine⟨λhle=>⟨⟨by omega,by omega⟩,?_⟩,λwW=>⟨⟨by omega,by omega⟩,λhm=>?_,λ_=>⟨⟨by omega,by omega⟩,⟨by omega,by omega,hw⟩,by dsimp only;omega⟩⟩⟩
 exact alq b9 kb I fq (y-x).toNat (by omega) hw (by omega) (by omega) (by omega) (by omega) λcm gR=>⟨⟨by omega,by omega⟩,⟨by omega,by omega⟩,⟨by omega,by omega,by omega,gR⟩,by dsimp only;omega⟩
 exact alq b9 kb I fq ((s.n:o)-x).toNat (by omega) hw (by omega) (by omega) (by omega) (by omega) λcm gR=>⟨⟨by omega,by omega⟩,⟨by omega,by omega,gR⟩,by dsimp only;omega⟩
end
