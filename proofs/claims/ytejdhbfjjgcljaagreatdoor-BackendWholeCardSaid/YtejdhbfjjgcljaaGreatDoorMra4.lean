/- Texts of mine, joined and packed by pack.py. -/
import Derived.Test.YtejdhbfjjgcljaaGreatDoorMra3
import Derived.Lib.EndianBits
import Derived.Shelf.SlSortCmp.Whole1
set_option linter.all false
open Go renaming Program->dY,Value->ap,World->b7,TypeId->dJ,FuncId->kM,Addr->bc,callFunc->p0
open _root_ renaming Nat->N,List->M,Option->ay,Array->cw,Int->o,Bool->aK,absurd->aW,Inhabited->lN
open Bool renaming true->ak,false->ax
open Go.Obj renaming cells->bC
open Go.IntKind renaming i64->cq,wrap->cz,u64->bR
open Go.Made renaming depth->uW
open Go.Instr renaming sliceAt->h6,buildSlice->dL,typeAssert->tp
open Go.Builtin renaming append_->ey,clear_->p1,zeroCells->wu
open Go.Addr renaming add->ev,mk->cB
open Go.World renaming frozen?->Hw
open Nat renaming strongRecOn->D9
open Go.Proofs.Tryz renaming prog->aH
open Go.Value renaming agg->c3,int->cY,pointer->hy,slice->ec,oneCell'->cT
open Int renaming fdiv->ew,tdiv->gR
open List.Perm renaming cons->kc,trans->wy
open List.Pairwise renaming nil->p4
open Go.Sort renaming ahead->u1
open List renaming replicate->fX,length->iS,flatMap->wz
set_option maxRecDepth 100000
noncomputable section
namespace Go.Proofs.YtejdhbfjjgcljaaGreatDoor
section
variable{u ai v u' v0:H}{gI:M bO}{seen q:M o}{n e k:N}{ss sr t:U}{P:dY}{x y j w:o}{xs:M ap}{D:M U}{K:H->Prop}{f:kM}{fv:ap}{L:M az}
def alG{t fw e:dJ}{size bytes:N}{zs:M ap}(aT:kH P t=some (e,size,bytes,zs))(cI:0<size){s x:U}{e0:M ap}{K:U->H->Prop}
  (aa:aJ ai u e size s xs) (J:br u x size e0) (h1:∀y∈e0,y.oneCell'=ak) (hm:s.n+x.n<=9223372036854775807) (ab:(s.n+x.n)*bytes<=140737488355328)
  (au:∀aq u',aJ ai u' e size aq (xs++e0)->aq.n=s.n+x.n->K aq u'):
  dd P (ey #[t,t] fw #[.slice s.a s.n s.c,.slice x.a x.n x.c]) [.one .slice] u K:=
 adv aT cI aa.own J h1 hm ab λaq u' h2 h3 mb _=>au aq u' ⟨h2,mb.le aa.le aa.fresh,λb0 ca=>mb.out aa.le aa.fresh b0 ca⟩ h3
def Ints.part{s:U}{L:M o}(ag:Ints u s L){l h m:N}(h1:l<=h)(h2:h<=s.n)(h3:h<=m)(a7:m<=s.c):Ints u (s.part l h m 1) ((L.drop l).take (h-l)):=by have:=br.part ag h1 h2 h3 a7;rw[B1,B1,<-Ee,<-Lm] at this;exact this
def Ints.nil(u:H):Ints u ⟨none,0,0⟩ []:=(aJ.nil (H.le.refl u) 0 1).own.cE
def Ints.get{s:U}{L:M o}(ag:Ints u s L)(h0:0<=x)(h1:x<(s.n:o)):∃p,s.a=some p/\∃y,L[x.toNat]?=some y/\u.cell? (p.add (x.toNat*1))=some (.int .i64 y):=by
 obtain⟨p,ad,I⟩:=ag.at h0 h1;have ae:=ag.len;have ar:x.toNat<L.length:=by omega
 refine⟨p,ad,L[x.toNat],cr ar,?_⟩;rw[I];simp[du,ar]
structure cn where
 aD:o
 ls:U
 ag:U
 cG:o
 is:U
 bH:M o
 hi:M o
 ids:M o
def tZ(r:cn):M ap:=[.int .i64 r.aD,.slice r.ls.a r.ls.n r.ls.c,.slice r.ag.a r.ag.n r.ag.c,.int .u64 (dk r.cG),.int .u64 (dr r.cG),.slice r.is.a r.is.n r.is.c]
def Xy(r:cn):(tZ r).length=6:=rfl
def aA3(r:cn):∀v∈tZ r,v.oneCell'=ak:=by simp[tZ,cT]
def yG(u:H)(s:U)(l:M cn):Prop:=br u s 6 (l.flatMap tZ)/\∀r∈l,Ints u r.ls r.bH/\Ints u r.ag r.hi/\Ints u r.is r.ids
def yG.len{s:U}{l:M cn}(h:yG u s l):s.n=l.length:=gW Xy (by decide) h.1
def yG.max{s:U}{l:M cn}(h:yG u s l):s.n<=9223372036854775807:=jg (br.cap h.1) (br.max h.1)
def yG.mono{s:U}{l:M cn}(h:yG u s l)(k:u.le u'):yG u' s l:=⟨br.mono h.1 k,λr O=>⟨(h.2 r O).1.mono k,(h.2 r O).2.1.mono k,(h.2 r O).2.2.mono k⟩⟩
def yG.at{s:U}{l:M cn}(h:yG u s l)(h0:0<=x)(h1:x<(s.n:o)):∃p,s.a=some p/\∃q:cn,l[x.toNat]?=some q/\
  u.cell? (p.add (x.toNat*6))=some (.int .i64 q.aD)/\u.cell? ((p.add (x.toNat*6)).add 1)=some (.slice q.ls.a q.ls.n q.ls.c)/\u.cell? ((p.add (x.toNat*6)).add 2)=some (.slice q.ag.a q.ag.n q.ag.c)/\
  u.cell? ((p.add (x.toNat*6)).add 3)=some (.int .u64 (dk q.cG))/\u.cell? ((p.add (x.toNat*6)).add 4)=some (.int .u64 (dr q.cG))/\u.cell? ((p.add (x.toNat*6)).add 5)=some (.slice q.is.a q.is.n q.is.c):=by
 have ae:=h.len
 have ar:x.toNat<l.length:=by omega
 obtain⟨p,ad,I⟩:=br.elem Xy (by decide) h.1 (cr ar)
 exact⟨p,ad,_,cr ar,I 0 _ rfl,I 1 _ rfl,I 2 _ rfl,I 3 _ rfl,I 4 _ rfl,I 5 _ rfl⟩
structure oR(r:cn)(d:o):Prop where
 an:1<=d/\d<=64
 ids:IJ r.ids
 id:∀x∈r.ids,1<=x/\x<=1000000000
 shape:(r.aD=1/\r.bH=[]/\r.hi=[]/\r.cG=0)∨(r.aD=2/\r.cG=0/\dj r.bH/\dj r.hi/\(r.bH.length:o)=d/\(r.hi.length:o)=d/\∀i:N,(i:o)<d->r.bH.getD i 0<=r.hi.getD i 0)∨
  (r.aD=3/\r.hi=[]/\dj r.bH/\(r.bH.length:o)=d/\mw r.cG)
def mZ(r:cn)(v:M o):Prop:=(r.aD=2->∀i:N,i<v.length->r.bH.getD i 0<=v.getD i 0/\v.getD i 0<=r.hi.getD i 0)/\(r.aD=3->fE r.bH v r.bH.length<=r.cG)
def Zk:dk 0=0:=by decide
def abV:dr 0=0:=by decide
structure EI(u:H)(aD ss sr:U)(gI:M bO)(seen:M o)(rest:M cn):Prop where
 h:kQ u aD gI
 s:Ints u ss seen
 r:yG u sr rest
def EI.mono{aD:U}{rest:M cn}(h:EI u aD ss sr gI seen rest)(k:u.le u'):EI u' aD ss sr gI seen rest:=⟨h.h.mono k,h.s.mono k,h.r.mono k⟩
structure Sound(l:M az)(q:M o)(k:o)(gI:M bO)(seen:M o)(rest:M cn):Prop where
 HW:IJ seen
 kd:∀r∈rest,oR r q.length/\r.ids≠[]/\∀x∈r.ids,∃w∈l,w.id=x/\mZ r w.v
 all:(seen++rest.flatMap (·.ids)).Perm (l.map (·.id))
 first:∀m:M az,(∀r∈m,r∈l)->m.map (·.id)=seen->gI=eT k.toNat (m.map (hp q))
def yM(x:o)(s:U):kG aH 22 1 #[(0,.agg #[.int .i64 x,.slice s.a s.n s.c])]=some (52,[.int .i64 x,.slice s.a s.n s.c]):=by kernel_rfl
def aJ.rws{s:U}{m l:M az}(h:aJ ai u e 2 s (m.flatMap cR))(ar:en u t l)(hm:∀r∈m,r∈l):en u s m:=⟨h.own.cE,λr O=>ar.2 r (hm r O)⟩
structure yC(v0 v iV b8:H):Prop where
 le:iV.le b8
 out:∀b z,v0 b=none->v b=some z->iV b=none/\b8 b=some z
 new:∀b,b8 b≠none->iV b≠none∨(v0 b=none/\b8 b=v b)
def H.frame(v v0 iV:H):H:=λb=>match iV b with
 |some z=>some z|none=>match v0 b with
  |some _=>none|none=>v b
def Step.frame{iV:H}{w w':b7}(k:Step v0 [] w iV [] w')(hle:v0.le v)(ag:Sub v w):Step v [] w (v.frame v0 iV) [] w'/\yC v0 v iV (v.frame v0 iV):=by
 have h0:∀b,v b=none->v0 b=none:=λb ab=>by
  cases e:v0 b with
  |none=>rfl|some z=>rw[hle _ _ e] at ab;cases ab
 refine⟨⟨λb z ab=>?_,k.os,k.tape,k.output,k.drawn,k.size,λb ab hu _=>k.rest b ab (h0 b hu) (by simp),λb ab hu=>?_,[],by simp,by simp⟩,⟨λb z ab=>?_,λb z h1 h2=>?_,λb ab=>?_⟩⟩;unfold H.frame at ab;split at ab;rename_i e;cases ab;exact k.sub _ _ e;split at ab;cases ab;rename_i e;rw[k.rest b (ag.lt ab) e (by simp)];exact ag _ _ ab;unfold H.frame;rw[k.jq b ab (h0 b hu),h0 b hu];exact hu;unfold H.frame;rw[ab];have:=k.jq b (ag.lt h2) h1;exact⟨this,by unfold H.frame;rw[this,h1];exact h2⟩;cases e:iV b with
 |some z=>exact .inl (by simp)|none=>
  cases e7:v0 b with
  |some z=>unfold H.frame at ab;rw[e,e7] at ab;exact aW rfl ab|none=>exact .inr ⟨rfl,by unfold H.frame;rw[e,e7]⟩
def br.else{s:U}{size:N}(h:br u s size xs)(hu:∀g z,s.aj=some g->u g=some z->u' g=some z):br u' s size xs:=
 ⟨h.len,h.cap,h.max,h.at'.imp id λ⟨p,h1,h2⟩=>⟨p,h1,λi v e=>by
  have I:=h2 i v e;unfold H.cell? at I ⊢;have ab:(p.add i).block=p.block:=by unfold ev;split<;>rfl
  split at I;rename_i c t f J;rw[hu _ _ (by simp[U.aj,h1,ab]) J];exact I;cases I⟩⟩
def Ky(R:H->H->Prop):(ck:M aL)->hc ck (H->Prop)->hc ck (H->Prop)->Prop
 | [],r,df=>∀u u',R u u'->r u->df u'|_::ck,K,fZ=>∀x,Ky R ck (K x) (fZ x)
def amO{R:H->H->Prop}(bX:R u u'):∀(ck:M aL) (K fZ:hc ck (H->Prop)) (vs:M ap),Ky R ck K fZ->(hS ck K vs λr=>r u)->hS ck fZ vs λr=>r u':=by
 intro ck;induction ck with
 |nil=>intro K fZ vs h k;cases vs with
  |nil=>exact h _ _ bX k|cons=>simp[hS] at k
 |cons t ck aM=>
  intro K fZ vs h k;cases vs with
  |nil=>simp[hS] at k|cons v vs=>simp only[hS] at k ⊢;obtain⟨x,rfl,J⟩:=aL.Wa k;exact(aL.rR t x _).2 (aM (K x) (fZ x) vs (h x) J)
def io.frame{args:cw ap}{ss:M bg}{K fZ:hc (gF ss) (H->Prop)}(h:io P f args ss v0 K)(hle:v0.le v)(hk:Ky (yC v0 v) (gF ss) K fZ):io P f args ss v fZ:=by intro w hw;refine(h w (hw.mono hle)).mono ?_;rintro e w' ⟨x,u',he,⟨vs,aA,J,I⟩,ag⟩;obtain⟨h1,h2⟩:=ag.frame hle hw;exact⟨x,_,he,⟨vs,aA,J,amO h2 _ _ _ _ hk I⟩,h1⟩
def Ak.frame{args:cw ap}{ss:M bg}{K fZ:hc (gF ss) (H->Prop)}(h:Ak P fv args ss v0 K)(hle:v0.le v)(hk:Ky (yC v0 v) (gF ss) K fZ):Ak P fv args ss v fZ:=by obtain⟨l,Z,h⟩:=h;refine⟨l,Z,λw hw=>?_⟩;obtain⟨fn,tmps,assign,body,ah,bX⟩:=h w (hw.mono hle);refine⟨fn,tmps,assign,body,ah,bX.mono ?_⟩;rintro e w' ⟨x,u',he,⟨vs,aA,J,I⟩,ag⟩;obtain⟨h1,h2⟩:=ag.frame hle hw;exact⟨x,_,he,⟨vs,aA,J,amO h2 _ _ _ _ hk I⟩,h1⟩
def hY.frame{args:cw ap}{ss:M bg}{K fZ:hc (gF ss) (H->Prop)}(h:hY P fv args ss v0 K)(hle:v0.le v)(hk:Ky (yC v0 v) (gF ss) K fZ):hY P fv args ss v fZ:=by obtain⟨f,pre,cap,Z,ab,h⟩:=h;exact⟨f,pre,cap,Z,ab,h.frame hle hk⟩
def tL.frame{args:cw ap}{ss:M bg}{K fZ:hc (gF ss) (H->Prop)}(h:tL P fv args ss v0 K)(hle:v0.le v)(hk:Ky (yC v0 v) (gF ss) K fZ):tL P fv args ss v fZ:=
 h.imp (λh=>h.frame hle hk) λh=>h.frame hle hk
def Step.less{jj:H}{bs c8:M N}{w w':b7}(h:Step u bs w u' c8 w')(k:jj.le u'):Step u bs w jj c8 w':=
 ⟨h.sub.mono k,h.os,h.tape,h.output,h.drawn,h.size,h.rest,λb ab hu=>(by
  cases e:jj b with
  |none=>rfl|some z=>have:=h.jq b ab hu;rw[k _ _ e] at this;cases this),h.more⟩
def abw:(ck:M aL)->hc ck (H->Prop)->hc ck (H->Prop)
 | [],r=>λu'=>∃jj,jj.le u'/\r jj|_::ck,K=>λx=>abw ck (K x)
def aAc:∀(ck:M aL) (K:hc ck (H->Prop)) (vs:M ap),(hS ck (abw ck K) vs λr=>r u')->∃jj,jj.le u'/\hS ck K vs λr=>r jj:=by
 intro ck;induction ck with
 |nil=>intro K vs h;cases vs with
  |nil=>exact h|cons=>simp[hS] at h
 |cons t ck aM=>
  intro K vs h;cases vs with
  |nil=>simp[hS] at h|cons v vs=>simp only[hS] at h ⊢;obtain⟨x,rfl,J⟩:=aL.Wa h;obtain⟨jj,h1,h2⟩:=aM (K x) vs J;exact⟨jj,h1,(aL.rR t x _).2 h2⟩
def io.weaken{args:cw ap}{ss:M bg}{K:hc (gF ss) (H->Prop)}(h:io P f args ss u (abw (gF ss) K)):io P f args ss u K:=by intro w hw;refine(h w hw).mono ?_;rintro e w' ⟨v,u',he,⟨vs,hk,aA,I⟩,ag⟩;obtain⟨jj,hle,c9⟩:=aAc _ _ _ I;exact⟨v,jj,he,⟨vs,hk,aA,c9⟩,ag.less hle⟩
def abR{P:N->Prop}(h:∃n,P n):∃n,P n/\∀m,P m->n<=m:=by
 obtain⟨n,ae⟩:=h;induction n using D9 with
 |ind n aM=>rcases Classical.em (∃m,m<n/\P m) with⟨m,hm,ad⟩|dV;exact aM m hm ad;exact⟨n,ae,λm ad=>Nat.le_of_not_lt λbD=>dV ⟨m,bD,ad⟩⟩
open Classical in
def least(P:N->Prop):N:=if h:∃n,P n then Classical.choose (abR h) else 0
def G5{P:N->Prop}(h:∃n,P n):P (least P):=by unfold least;rw[B3 h];exact(Classical.choose_spec (abR h)).1
def least_le{P:N->Prop}(h:P n):least P<=n:=by unfold least;rw[B3 ⟨n,h⟩];exact(Classical.choose_spec (abR ⟨n,h⟩)).2 n h
def rt(w:o):o:=(least λn=>w<((n:o)+1)*((n:o)+1):N)
def ay9(h0:0<=x)(h:x<y):x*x<y*y:=by have h1:x*x<=x*y:=Ln (by omega) h0;have h2:x*y<y*y:=Int.mul_lt_mul_of_pos_right h (by omega);omega
def LH(h0:0<=x)(h:x<=y):x*x<=y*y:=HF h h h0 (by omega)
def El(h0:0<=w):0<=rt w/\rt w*rt w<=w/\w<(rt w+1)*(rt w+1):=by
 have hex:∃n:N,w<((n:o)+1)*((n:o)+1):=⟨w.toNat,by
  have e:((w.toNat:N):o)=w:=by omega
  rw[e];have:w*1<=(w+1)*(w+1):=HF (by omega) (by omega) (by omega) (by omega);have h2:(w+1)*(w+1)=w*(w+1)+(w+1):=by grind
  have h3:0<=w*(w+1):=zS h0 (by omega);omega⟩
 have h1:=G5 hex;unfold rt;generalize ae:(least λn=>w<((n:o)+1)*((n:o)+1))=n at*;refine⟨by omega,?_,h1⟩;cases n with
 |zero=>simpa using h0|succ m=>
  have hm:¬w<((m:o)+1)*((m:o)+1):=λbD=>by have:=least_le (P:=λn:N=>w<((n:o)+1)*((n:o)+1)) bD;omega
  have e:((m+1:N):o)=(m:o)+1:=by omega
  rw[e];omega
def rt_eq{s:o}(h0:0<=s)(h1:s*s<=w)(h2:w<(s+1)*(s+1)):s=rt w:=by
 have hw:0<=w:=by have:=zS h0 h0;omega
 obtain⟨mS,l2,p8⟩:=El hw;by_cases aE:s<rt w;have:=LH (show 0<=s+1 by omega) (show s+1<=rt w by omega);omega;by_cases ab:rt w<s;have:=LH (show 0<=rt w+1 by omega) (show rt w+1<=s by omega);omega;omega
def adj(h:mw w):rt w<18446744073709551616:=by obtain⟨mS,l2,p8⟩:=El h.1;by_cases ab:18446744073709551616<=rt w;have:=LH (show(0:o)<=18446744073709551616 by omega) ab;have:=h.2;omega;omega
def vr(bH hi q:M o):N->o
 |0=>0|n+1=>vr bH hi q n+(if q.getD n 0<bH.getD n 0 then tE (bH.getD n 0) (q.getD n 0) else 0)+(if hi.getD n 0<q.getD n 0 then tE (q.getD n 0) (hi.getD n 0) else 0)
def ae9{bH hi:M o}(ar:dj bH)(bU:dj hi)(aN:dj q)(aS:bH.length=q.length)(aB:hi.length=q.length):∀n,n<=q.length->0<=vr bH hi q n/\vr bH hi q n<=n*36893488113059364872:=by
 intro n;induction n with
 |zero=>intro _;simp[vr]
 |succ n aM=>intro ae;obtain⟨i0,i1⟩:=aM (by omega);have ac:=adF (ar.2 n (by omega)) (aN.2 n (by omega));have a2:=adF (aN.2 n (by omega)) (bU.2 n (by omega));unfold vr;split<;>split<;>omega
def IV(d cG:o):o:=if(if rt cG*rt cG=cG then rt cG else rt cG+1)<rt d then(rt d-(if rt cG*rt cG=cG then rt cG else rt cG+1))*(rt d-(if rt cG*rt cG=cG then rt cG else rt cG+1)) else 0
def ph(r:cn)(q:M o):o:=if r.aD=2 then vr r.bH r.hi q q.length else if r.aD=3 then IV (fE r.bH q r.bH.length) r.cG else 0
def aop{d cG:o}(aw:mw d)(O:mw cG):mw (IV d cG):=by
 unfold IV;have h1:=adj aw;have h2:=(El aw.1).1;have h3:=(El O.1).1;generalize ht:(if rt cG*rt cG=cG then rt cG else rt cG+1)=t;have t0:0<=t:=by rw[<-ht];split<;>omega
 split;rename_i bD;refine⟨zS (by omega) (by omega),?_⟩;have:=LH (show 0<=rt d-t by omega) (show rt d-t<=18446744073709551615 by omega);omega;exact⟨by omega,by omega⟩
def awV{r:cn}(O:oR r q.length)(aN:dj q):mw (ph r q):=by unfold ph;rcases O.shape with⟨e,_⟩|⟨e,_,v1,v2,e3,gg,hle⟩|⟨e,aB,v1,e3,DF⟩;rw[aF (by omega),aF (by omega)];exact⟨by omega,by omega⟩;rw[a1 e];have:=ae9 v1 v2 aN (by omega) (by omega) q.length (cA _);have:=aN.1;exact⟨by omega,by omega⟩;rw[aF (by omega),a1 e];exact aop (QM v1 aN (by omega)) DF
def CC(_hx:dh x)(ah:dh y):x=dk (fl x y)/\y=dr (fl x y):=by unfold dh at*;unfold dk dr fl;omega
def atr(h1:dk x=dk y)(h2:dr x=dr y):x=y:=by rw[<-q0 x,<-q0 y,h1,h2]
def Aj(q:M o)(k:o)(gI:M bO)(rest:M cn):Prop:=rest=[]∨(k<=gI.length/\∀r∈rest,(gI.getD (k-1).toNat default).2<ph r q)
def dH(a b:U):Prop:=∀g,a.aj=some g->b.aj≠some g
def dH.symm{a b:U}(h:dH a b):dH b a:=λg W gQ=>h g gQ W
def vm(D:M U)(u v:H):Prop:=∀b z,u b=some z->(∀s∈D,s.aj≠some b)->v b=some z
def vm.refl(D:M U)(u:H):vm D u u:=λ_ _ h _=>h
def vm.trans{w:H}(h:vm D u v)(k:vm D v w):vm D u w:=λb z ab aw=>k b z (h b z ab aw) aw
def gO.bN{s:U}(h:gO u v s)(ag:s∈D):vm D u v:=λb z ab aw=>h b z ab (aw s ag)
def vm.own(hk:vm D u v)(h:aJ ai u e k t xs)(Z:∀s∈D,∀g,s.aj=some g->ai g=none)(aw:∀s∈D,dH s t):aJ ai v e k t xs:=
 ⟨h.own.le λb z ab hu=>hk b z hu λs ag W=>aw s ag b W ab,λb z ab=>hk b z (h.le b z ab) λs ag W=>(by rw[Z s ag b W] at ab;cases ab),h.fresh⟩
def aJ.eB{aU:H}{gv dT:N}{s:U}{e0:M ap}(h:aJ ai u e k s xs)(hu:u.le aU)(bQ:aJ aU v gv dT t e0):dH s t:=λg W gQ=>by
 have h1:=bQ.fresh g gQ;have h2:=dE h W;cases J:u g with
 |none=>exact h2 J|some z=>rw[hu _ _ J] at h1;cases h1
def cn.jw(r:cn):M U:=[r.ls,r.ag,r.is]
structure yF(ai u:H)(r:cn):Prop where
 l:aJ ai u 3 1 r.ls (r.bH.flatMap encI)
 h:aJ ai u 3 1 r.ag (r.hi.flatMap encI)
 i:aJ ai u 3 1 r.is (r.ids.flatMap encI)
def vm.axf{r:cn}(hk:vm D u v)(h:yF ai u r)(Z:∀s∈D,∀g,s.aj=some g->ai g=none)(aw:∀s∈D,∀t∈r.jw,dH s t):yF ai v r:=
 ⟨hk.own h.l Z λs ag=>aw s ag _ (by simp[cn.jw]),hk.own h.h Z λs ag=>aw s ag _ (by simp[cn.jw]),hk.own h.i Z λs ag=>aw s ag _ (by simp[cn.jw])⟩
def q4(aD ss sr:U)(rest:M cn):M U:=aD::ss::sr::rest.flatMap cn.jw
structure jQ(ai u:H)(aD ss sr:U)(gI:M bO)(seen:M o)(rest:M cn):Prop where
 h:aJ ai u 68 3 aD (gI.flatMap fH)
 s:aJ ai u 3 1 ss (seen.flatMap encI)
 r:aJ ai u 102 6 sr (rest.flatMap tZ)
 g:∀r∈rest,yF ai u r
 eB:(q4 aD ss sr rest).Pairwise dH
def jQ.fresh{aD:U}{rest:M cn}(h:jQ ai u aD ss sr gI seen rest):∀s∈q4 aD ss sr rest,∀g,s.aj=some g->ai g=none:=by intro s ag;simp only[q4,cJ,ej] at ag;rcases ag with rfl|rfl|rfl|⟨r,O,ag⟩;exact h.h.fresh;exact h.s.fresh;exact h.r.fresh;have:=h.g r O;simp only[cn.jw,cJ,qL,qM] at ag;rcases ag with rfl|rfl|rfl;exact this.l.fresh;exact this.h.fresh;exact this.i.fresh
def jQ.known{aD:U}{rest:M cn}(h:jQ ai u aD ss sr gI seen rest):∀s∈q4 aD ss sr rest,∀g,s.aj=some g->u g≠none:=by intro s ag g W;simp only[q4,cJ,ej] at ag;rcases ag with rfl|rfl|rfl|⟨r,O,ag⟩;exact dE h.h W;exact dE h.s W;exact dE h.r W;have:=h.g r O;simp only[cn.jw,cJ,qL,qM] at ag;rcases ag with rfl|rfl|rfl;exact dE this.l W;exact dE this.h W;exact dE this.i W
def jQ.mono{aD:U}{rest:M cn}(h:jQ ai u aD ss sr gI seen rest)(k:u.le u'):jQ ai u' aD ss sr gI seen rest:=
 ⟨h.h.mono k,h.s.mono k,h.r.mono k,λr O=>⟨(h.g r O).l.mono k,(h.g r O).h.mono k,(h.g r O).i.mono k⟩,h.eB⟩
def jQ.le{aD:U}{rest:M cn}(h:jQ ai u aD ss sr gI seen rest):ai.le u:=h.h.le
def jQ.read{aD:U}{rest:M cn}(h:jQ ai u aD ss sr gI seen rest):EI u aD ss sr gI seen rest:=
 ⟨h.h.fi,h.s.ints,h.r.own.cE,λr O=>⟨(h.g r O).l.ints,(h.g r O).h.ints,(h.g r O).i.ints⟩⟩
def jQ.else{aD:U}{rest:M cn}(h:jQ ai u aD ss sr gI seen rest)(he:∀b z,ai b=none->u b=some z->u' b=some z):EI u' aD ss sr gI seen rest:=by
 have one:∀{e k:N} {s:U} {xs:M ap},aJ ai u e k s xs->br u' s k xs:=λaa=>(aa.own.le (u':=u') λb z ab hu=>he b z (aa.fresh b ab) hu).cE;have ints:∀{e:N} {s:U} {l:M o},aJ ai u e 1 s (l.flatMap encI)->Ints u' s l:=λaa=>by have:=one aa;rw[yU] at this;exact this
 exact⟨one h.h,ints h.s,one h.r,λr O=>⟨ints (h.g r O).l,ints (h.g r O).h,ints (h.g r O).i⟩⟩
def cn.core(r:cn):o×o×M o×M o×M o:=(r.aD,r.cG,r.bH,r.hi,r.ids)
def mE(x y:N->o):N->o
 |0=>0|n+1=>mE x y n+x n*y n
def Xk(x:N->o)(n:N):0<=mE x x n:=by
 induction n with
 |zero=>exact nA _|succ n aM=>
  have:0<=x n*x n:=by by_cases h:0<=x n;exact zS h h;exact acQ (by omega) (by omega)
  unfold mE;omega
def apr(a b:o)(x y:N->o)(n:N):mE (λi=>a*x i-b*y i) (λi=>a*x i-b*y i) n=a*a*mE x x n-2*(a*b)*mE x y n+b*b*mE y y n:=by
 induction n with
 |zero=>simp[mE]|succ n aM=>
  unfold mE;rw[aM];generalize mE x x n=p;generalize mE x y n=q;generalize mE y y n=r;generalize x n=u;generalize y n=v
  grind
def ao0(x y:N->o)(n:N):mE x y n*mE x y n<=mE x x n*mE y y n:=by
 have J:=Xk x n;have ah:=Xk y n;have h:=λa b=>(apr a b x y n)▸Xk (λi=>a*x i-b*y i) n;generalize mE x x n=p at*;generalize mE y y n=r at*;generalize mE x y n=q at*;by_cases O:0<r;have h1:=h r q;have e:r*r*p-2*(r*q)*q+q*q*r=r*(p*r-q*q):=by grind
 rw[e] at h1;by_cases I:0<=p*r-q*q;omega;have:=Int.mul_neg_of_pos_of_neg O (show p*r-q*q<0 by omega);omega;have ll:r=0:=by omega
 subst ll;have h1:=h 1 (p+1);have h2:=h 1 (-(p+1));have aS:(1:o)*1*p-2*(1*(p+1))*q+(p+1)*(p+1)*0=p-2*((p+1)*q):=by grind
 have aB:(1:o)*1*p-2*(1*(-(p+1)))*q+(-(p+1))*(-(p+1))*0=p+2*((p+1)*q):=by grind
 rw[aS] at h1;rw[aB] at h2;have aN:q=0:=by by_cases h3:1<=q;have:(p+1)*1<=(p+1)*q:=Ln h3 (by omega);omega;by_cases a7:q<=-1;have:(p+1)*q<=(p+1)*(-1):=Ln a7 (by omega);omega;omega
 rw[aN];omega
def al6(a b:M o)(n:N):fE a b n=mE (λi=>a.getD i 0-b.getD i 0) (λi=>a.getD i 0-b.getD i 0) n:=by
 induction n with
 |zero=>rfl|succ n aM=>unfold fE mE;rw[aM];rfl
def ay8(c v q:M o)(n:N):fE c q n=fE c v n+fE v q n+2*mE (λi=>c.getD i 0-v.getD i 0) (λi=>v.getD i 0-q.getD i 0) n:=by
 induction n with
 |zero=>rfl|succ n aM=>
  unfold fE mE tE;rw[aM];generalize c.getD n 0=x;generalize v.getD n 0=y;generalize q.getD n 0=Y
  grind
def aoq{D E F P cG:o}(eN:D=E+F+2*P)(pH:0<=E)(rc:0<=F)(ue:0<=D)(AS:P*P<=E*F)(Ye:E<=cG):IV D cG<=F:=by
 obtain⟨s0,s1,_⟩:=El ue;obtain⟨t0,t1,t2⟩:=El (show 0<=cG by omega);unfold IV;generalize aT:(if rt cG*rt cG=cG then rt cG else rt cG+1)=T;have nK:0<=T/\cG<=T*T:=by rw[<-aT];split;rename_i e;exact⟨t0,by omega⟩;exact⟨by omega,by omega⟩
 generalize rt D=s at*;split;rename_i bD;by_cases I:(s-T)*(s-T)<=F;exact I;exfalso;by_cases ad:P<=T*(s-T);have e:s*s=T*T+(s-T)*(s-T)+2*(T*(s-T)):=by grind
 omega;have aC:0<=T*(s-T):=zS nK.1 (by omega);have h1:=ay9 aC (show T*(s-T)<P by omega);have h2:E*F<=(T*T)*((s-T)*(s-T)):=HF (by omega) (by omega) rc (by omega);have e:T*(s-T)*(T*(s-T))=(T*T)*((s-T)*(s-T)):=by grind
 omega;exact rc
def aow{bH hi v:M o}:∀n,(∀i,i<n->bH.getD i 0<=v.getD i 0/\v.getD i 0<=hi.getD i 0)->vr bH hi q n<=fE v q n:=by
 intro n;induction n with
 |zero=>intro _;exact nA _
 |succ n aM=>
  intro h;have h1:=aM λi hi=>h i (by omega);obtain⟨h2,h3⟩:=h n (by omega);unfold vr fE tE;generalize bH.getD n 0=a at*;generalize hi.getD n 0=b at*;generalize v.getD n 0=x at*;generalize q.getD n 0=y at*;have aC:0<=(x-y)*(x-y):=by by_cases h:0<=x-y;exact zS h h;exact acQ (by omega) (by omega)
  have aS:y<a->(a-y)*(a-y)<=(x-y)*(x-y):=λ_=>LH (by omega) (by omega);have aB:b<y->(y-b)*(y-b)<=(x-y)*(x-y):=λ_=>by
   have:=LH (show 0<=y-b by omega) (show y-b<=y-x by omega);have e:(y-x)*(y-x)=(x-y)*(x-y):=by grind
   omega
  split<;>split<;>omega
def awX{r:cn}{v:M o}(O:oR r q.length)(aA:v.length=q.length)(xR:dj v)(aN:dj q)(b6:mZ r v):ph r q<=fE v q v.length:=by
 unfold ph;have rc:=(LG xR aN v.length (cA _) (by omega)).1;rcases O.shape with⟨e,_⟩|⟨e,_,v1,v2,e3,gg,hle⟩|⟨e,aB,v1,e3,DF⟩;rw[aF (by omega),aF (by omega)];exact rc;rw[a1 e,<-aA];exact aow _ λi hi=>b6.1 e i hi;rw[aF (by omega),a1 e];have ar:r.bH.length=v.length:=by omega
 have pH:=(LG v1 xR r.bH.length (cA _) (by omega)).1;have eN:=(LG v1 aN r.bH.length (cA _) (by omega)).1;have h3:=ay8 r.bH v q r.bH.length;have Ye:=b6.2 e;rw[ar] at pH eN h3 Ye ⊢;refine aoq h3 pH rc eN ?_ Ye;rw[al6 r.bH v,al6 v q];exact ao0 _ _ _
def rowsOf:∀(S:M o) (L:M az),S.Perm (L.map (·.id))->∃m:M az,m.Perm L/\m.map (·.id)=S:=by
 intro S;induction S with
 |nil=>
  intro L h;cases L with
  |nil=>exact⟨[],.refl _,rfl⟩|cons r L=>have:=h.length_eq;simp at this
 |cons x S aM=>
  intro L h;obtain⟨r,O,J⟩:=bf.1 (h.mem_iff.1 (fW ..));obtain⟨A,B,rfl⟩:=acX O;have bK:S.Perm ((A++B).map (·.id)):=by
   have fs:(x::S).Perm (x::(A++B).map (·.id)):=by refine h.trans ?_;rw[ek,gm,ek,J];exact B4
   exact(acY x).1 fs
  obtain⟨m,Gf,vL⟩:=aM _ bK;exact⟨r::m,(Gf.cons r).trans B4.symm,by rw[gm,vL,J]⟩
def azW{a:M bO}(aE:k<=a.length):∀{b:M bO},(∀x∈b,∀y∈eT k a,bD x y=ax)->eT k (b++a)=eT k a:=by
 intro b;induction b with
 |nil=>intro _;rfl
 |cons x b aM=>intro h;have h1:=aM λY aC=>h Y (gi _ aC);rw[zN,adY (by rw[ez];omega) (by rw[h1];exact h x (fW ..)),h1]
def Sound.parts{k:o}{rest:M cn}(h:Sound L q k gI seen rest):∃m1 m2:M az,(m1++m2).Perm L/\m1.map (·.id)=seen/\m2.map (·.id)=rest.flatMap (·.ids)/\gI=eT k.toNat (m1.map (hp q)):=by
 obtain⟨m,Gf,vL⟩:=rowsOf _ L h.all;have ag:(m.take seen.length).map (·.id)=seen:=by rw[Lm,vL,UG]
 have aw:(m.drop seen.length).map (·.id)=rest.flatMap (·.ids):=by rw[Ee,vL,UH]
 refine⟨m.take seen.length,m.drop seen.length,by rw[u2];exact Gf,ag,aw,?_⟩;exact h.first _ (λr O=>Gf.mem_iff.1 (oa O)) ag
def Sound.co{k:o}{rest:M cn}(h:Sound L q k gI seen rest):∀r∈rest,(∀x∈r.bH,nj x)/\∀x∈r.hi,nj x:=by
 intro r O;have all:∀{v:M o},dj v->∀x∈v,nj x:=λaA x J=>by obtain⟨i,hi,rfl⟩:=pt J;have:=aA.2 i hi;rwa[du,cr hi] at this
 rcases(h.kd r O).1.shape with⟨_,aS,aB,_⟩|⟨_,_,v1,v2,_,_,_⟩|⟨_,aB,v1,_,_⟩;rw[aS,aB];exact⟨λx J=>(by cases J),λx J=>(by cases J)⟩;exact⟨all v1,all v2⟩;rw[aB];exact⟨all v1,λx J=>(by cases J)⟩
def adf(Y:o×o×M o×M o×M o):cn:=⟨Y.1,⟨none,0,0⟩,⟨none,0,0⟩,Y.2.1,⟨none,0,0⟩,Y.2.2.1,Y.2.2.2.1,Y.2.2.2.2⟩
def ayc(l:M (o×o×M o×M o×M o)):(l.map adf).map cn.core=l:=by rw[ep];exact B5 _
def Sound.ao9{k:o}{rest:M cn}(h:Sound L q k gI seen rest)(aN:kk L q)(hk:1<=k)(I:Aj q k gI rest):gI=eT k.toNat (L.map (hp q)):=by
 obtain⟨m1,m2,ad,ag,aw,e⟩:=h.parts;have DD:((m2++m1).map (hp q)).Perm (L.map (hp q)):=(List.perm_append_comm.trans ad).map _;rw[<-Ad DD,ek];rcases I with I|⟨hlen,I⟩;have:m2=[]:=by have:=ei iS aw;rw[I] at this;exact kN (by simpa using this)
 rw[this,e];rfl;have ar:(eT k.toNat (m1.map (hp q))).length=k.toNat:=by rw[<-e];have:=ys k.toNat (m1.map (hp q));rw[<-e] at this;omega
 have pP:k.toNat<=(m1.map (hp q)).length:=by have:=ys k.toNat (m1.map (hp q));omega
 rw[azW pP λx J y ah=>?_,e];obtain⟨w,hw,rfl⟩:=bf.1 J;have avj:w∈L:=ad.mem_iff.1 (lz _ hw);have ch:w.id∈rest.flatMap (·.ids):=by rw[<-aw];exact h7 hw
 obtain⟨r,O,vU⟩:=ej.1 ch;obtain⟨Kd,_,dX⟩:=h.kd r O;obtain⟨w',k2,he,b6⟩:=dX _ vU;have sP:w'=w:=by
  have bS:=aN.rows.nodup;rw[P8,tu,qN] at bS;obtain⟨i,hi,rfl⟩:=pt k2;obtain⟨j,aP,rfl⟩:=pt avj;by_cases h1:i<j;exact aW he (bS i j hi aP h1);by_cases h2:j<i;exact aW he.symm (bS j i aP hi h2);have:i=j:=by omega
  subst this;rfl
 subst sP;obtain⟨zi,xR⟩:=aN.rows.v _ k2;have aBB:=awX Kd (by omega) xR aN.Wk b6;have pM:=I r O;have JT:y.2<=(gI.getD (k-1).toNat default).2:=by
  have qC:=V0 k.toNat (m1.map (hp q));rw[<-e] at qC ah ar;obtain⟨i,hi,rfl⟩:=pt ah;have JR:(k-1).toNat<gI.length:=by omega
  rw[du,cr JR];show gI[i].2<=gI[(k-1).toNat].2;by_cases gH:i=(k-1).toNat;subst gH;exact nA _;have:=qN.1 qC i (k-1).toNat hi JR (by omega);rw[Dt] at this;omega
 rw[Dt];left;show y.2<fE w'.v q w'.v.length;omega
def Ek{pC:M az}{d:o}(aw:1<=d/\d<=64)(hlen:pC.length<=512)(bS:(pC.map (·.id)).Nodup)(h:∀p∈pC.map az.bz,1<=p.1/\p.1<=1000000000/\(p.2.length:o)=d/\dj p.2):hD pC d:=
 ⟨aw,hlen,λr O=>⟨(h r.bz (h7 O)).1,(h r.bz (h7 O)).2.1⟩,bS,λr O=>(h r.bz (h7 O)).2.2⟩
def awI:n4 aH 265 "Len" 171 ax=ak:=by kernel_rfl
def awJ:n4 aH 265 "Less" 325 ax=ak:=by kernel_rfl
def nSwap:n4 aH 265 "Swap" 326 ax=ak:=by kernel_rfl
def awL:n4 aH 265 "Push" 328 ak=ak:=by kernel_rfl
def awK:n4 aH 265 "Pop" 327 ak=ak:=by kernel_rfl
def ayW:qT aH 263=some (.one .slice):=by kernel_rfl
def aea:aH.underlying 265=some (.pointer 263):=by kernel_rfl
def amr:kH aH 263=some (68,3,24,[.int .i64 0,.int .u64 0,.int .u64 0]):=by kernel_rfl
def afe(x y Y:o):kG aH 263 1 #[(0,.agg #[.int .i64 x,.int .u64 y,.int .u64 Y])]=some (68,[.int .i64 x,.int .u64 y,.int .u64 Y]):=by kernel_rfl
def awM:hn aH 171=ak:=by kernel_rfl
def awN:hn aH 325=ak:=by kernel_rfl
def awQ:hn aH 326=ak:=by kernel_rfl
def awP:hn aH 328=ak:=by kernel_rfl
def awO:hn aH 327=ak:=by kernel_rfl
def aJ.front{s:U}(h:aJ ai u e k s xs){m:N}(hm:m<=s.n):aJ ai u e k (s.part 0 m s.c k) (xs.take (m*k))/\(s.part 0 m s.c k).aj=s.aj/\(s.part 0 m s.c k).n=m:=by
 have aE:(s.part 0 m s.c k).a=s.a:=by unfold U.part;simp only;split;rfl;rw[Lb];cases s.a<;>simp[Addr.add_zero']
 have ab:(s.part 0 m s.c k).aj=s.aj:=by unfold U.aj;rw[aE]
 refine⟨⟨⟨?_,?_⟩,h.le,λg W=>h.fresh g (ab▸W)⟩,ab,rfl⟩;show _=(m-0)*k;rw[gZ,h.own.len,Ed,Eb (ts _ hm)];rcases h.own.is with h0|⟨g,cur,aS,aB,cW,fN,gw,nk⟩;left;subst h0;have:m=0:=by simpa using hm
 subst this;simp[U.part];right;refine⟨g,cur,aE.trans aS,aB,?_,?_,?_,?_⟩;show m-0<=s.c-0;omega;show s.c-0<=_;omega;show cur.size=(s.c-0)*k;rw[Ed];exact gw;show cur.toList.take ((m-0)*k)=_;rw[Ed,<-nk,Hz,Eb (ts _ hm)]
structure q1(ai:H)(n:N)(u:H)(l:M bO):Prop where
 ex:∃s:U,u n=some (.cells #[.slice s.a s.n s.c] 263 (0,0))/\aJ ai u 68 3 s (l.flatMap fH)/\s.aj≠some n
 out:ai n=none
 small:l.length<=1000000
def acd(n:N):ap:=.iface 265 (.pointer (some (cB n 0 none)))
def ace{s:U}{name:String}(hm:n4 aH 265 name f ax=ak)(ae:u n=some (.cells #[.slice s.a s.n s.c] 263 (0,0)))(w:b7)(hw:Sub u w):
  (method (aH.types.size+uW) 265 (.pointer (some (cB n 0 none))) name).run aH w=.ok (f,.slice s.a s.n s.c) w:=by
 obtain⟨i,m,h1,h2,h3,a7⟩:=BK hm
 obtain⟨dT,dA⟩:=AO
 rw[dA]
 refine adk h1 h2 h3 a7 aea ?_
 have I:u.cell? (cB n 0 none)=some (.slice s.a s.n s.c):=H.ba ae 0
 have y5:=hw.cell I
 exact KH ayW (cB n 0 none) (vs:=[.slice s.a s.n s.c]) rfl (acT _ _ _ _ _ rfl (λj v aP=>by
  cases j with
  |zero=>simp at aP;subst aP;exact y5|succ j=>simp at aP)) (λc I=>⟨_,rfl,y5⟩)
def spec.J2{s:U}{l:M bO}{i:o}{K:aK->H->Prop}(ag:kQ u s l)(i0:0<=i)(i1:i<l.length)(gK:0<=j)(js:j<l.length)
  (h:K (bD (l.getD i.toNat default) (l.getD j.toNat default)) u):C.J2 s i j u K:=by
 have ae:=ag.len
 apply aG.J2
 obtain⟨p,ad,x,J,bJ,c1,c2⟩:=ag.at gK (show j<(s.n:o) by omega)
 obtain⟨q,aN,y,ah,d0,d1,d2⟩:=ag.at i0 (show i<(s.n:o) by omega)
 rw[MR J,MR ah] at h
 exact⟨q,aN,⟨i0,by omega⟩,p,ad,⟨gK,by omega⟩,_,d0,_,d1,_,d2,_,bJ,_,c1,_,c2,spec.qX h⟩
def spec.J3{s:U}{l:M bO}{i:o}(aa:aJ ai u 68 3 s (l.flatMap fH))(i0:0<=i)(i1:i<l.length)(gK:0<=j)(js:j<l.length)
  (h:∀u',aJ ai u' 68 3 s ((jO l i.toNat j.toNat).flatMap fH)->gO u u' s->K u'):C.J3 s i j u K:=by
 have ag:=aa.fi
 have ae:=ag.len
 apply aG.J3
 obtain⟨p,ad,x,J,bJ,c1,c2⟩:=ag.at gK (show j<(s.n:o) by omega)
 obtain⟨q,aN,y,ah,d0,d1,d2⟩:=ag.at i0 (show i<(s.n:o) by omega)
 refine⟨p,ad,⟨gK,by omega⟩,q,aN,⟨i0,by omega⟩,_,bJ,_,c1,_,c2,_,d0,_,d1,_,d2,q,aN,⟨i0,by omega⟩,?_⟩
 refine aJ.store (enc:=fH) r0 aa (by decide) (i:=i.toNat) (by omega) (y:=x) (Fm x) aN λaU kv vG _=>⟨p,ad,⟨gK,by omega⟩,?_⟩
 refine aJ.store (enc:=fH) r0 kv (by decide) (i:=j.toNat) (by simp;omega) (y:=y) (Fm y) ad λdc dI ic _=>h dc ?_ (λb z ab al=>ic b z (vG b z ab al) al)
 have eO:i.toNat<l.length:=by omega
 have kK:j.toNat<l.length:=by omega
 have ex:l[j.toNat]=x:=by rw[cr kK] at J;exact cU J
 have vy:l[i.toNat]=y:=by rw[cr eO] at ah;exact cU ah
 rw[Im eO kK,ex,vy]
 exact dI
def q1.set{l bw:M bO}{s:U}(h:q1 ai n u l)(ae:u n=some (.cells #[.slice s.a s.n s.c] 263 (0,0)))(ag:s.aj≠some n)
  (aa:aJ ai u' 68 3 s (bw.flatMap fH)) (he:gO u u' s) (ar:bw.length=l.length):q1 ai n u' bw:=
 ⟨⟨s,he _ _ ae ag,aa,ag⟩,h.out,by rw[ar];exact h.small⟩
def akk(ai:H)(n:N):vl (acd n) (q1 ai n) bD where
 len:=by intro u l K h au;obtain⟨s,ae,aa,_⟩:=h.ex;refine⟨_,_,_,_,rfl,λw hw=>ace awI ae w hw,hh awM,aG.Od s u K ?_⟩;rw[aa.fi.len];exact au
 less:=by intro u l i j K h i0 i1 gK js au;obtain⟨s,ae,aa,_⟩:=h.ex;exact⟨_,_,_,_,rfl,λw hw=>ace awJ ae w hw,hh awN,spec.J2 aa.fi i0 i1 gK js au⟩
 swap:=by intro u l i j K h i0 i1 gK js au;obtain⟨s,ae,aa,al⟩:=h.ex;exact⟨_,_,_,_,rfl,λw hw=>ace nSwap ae w hw,hh awQ,spec.J3 aa i0 i1 gK js λu' bP he=>au u' (h.set ae al bP he (pw _ _ _))⟩
 small:=λh=>by have:=h.small;omega
def akl:oQ bD where
 asymm:=λ_ _ h=>JV h
 trans:=λ_ _ _ h k=>Ge h k
def an2(h:bO)(w:b7):(tp (.iface 68 (.agg #[.int .i64 h.1,.int .u64 (dk h.2),.int .u64 (dr h.2)])) 20 68 ax).run aH w=
  .ok (.agg #[.int .i64 h.1,.int .u64 (dk h.2),.int .u64 (dr h.2)]) w:=by kernel_rfl
def Dp(h:bO):ap:=.iface 68 (.agg #[.int .i64 h.1,.int .u64 (dk h.2),.int .u64 (dr h.2)])
def alH{h:bO}{K:o->o->o->H->Prop}(au:K h.1 (dk h.2) (dr h.2) u):dd aH (tp (Dp h) 20 68 ax) [.agg [.int .i64,.int .u64,.int .u64]] u K:=
 dd.pure [.int .i64 h.1,.int .u64 (dk h.2),.int .u64 (dr h.2)] (λw _=>an2 h w) (.cons (t:=.int .i64) _ (.cons (t:=.int .u64) _ (.cons (t:=.int .u64) _ .nil))) au
def awZ{l:M bO}{x:bO}(h:q1 ai n u l)(ar:l.length<1000000)(au:∀u',q1 ai n u' (l++ [x])->K u'):
  mX aH (acd n) "Push" #[Dp x] [] u K:=by
 obtain⟨s,ae,aa,al⟩:=h.ex
 obtain⟨i,m,h1,h2,h3,a7⟩:=BK awL
 obtain⟨dT,dA⟩:=AO
 refine⟨_,_,_,_,rfl,λw _=>by rw[dA];exact Lw h1 h2 h3 a7 aea,hh awP,?_⟩
 refine aG.ZV (some (cB n 0 none)) _ u K ?_
 refine⟨_,rfl,s,H.ba ae 0,alH ⟨H.le.refl u,?_⟩⟩
 have ad:=Aa (P:=aH) (K:=λfP py=>∃Qg:bc,some (cB n 0 none)=some Qg/\H.aO py Qg [.slice fP.a fP.n fP.c] K) amr (afe x.1 (dk x.2) (dr x.2)) (by decide) rfl (by simp[cT]) aa (by have:=aa.fi.len;omega) (by have:=aa.fi.len;omega) λaq u' bP hW he hblk _=>⟨_,rfl,?_⟩
 exact ad
 have ft:=he _ _ ae al
 have lj:aq.aj≠some n:=λe=>by rcases hblk n e with h|h;exact al h;rw[ae] at h;cases h
 refine⟨_,_,ft,rfl,by simp,by simp[cT],au _ ⟨⟨aq,H.bh _ _ _,⟨?_,?_,bP.fresh⟩,lj⟩,h.out,by simp;omega⟩⟩
 rw[agd] at bP
 exact bP.own.le λb z ab b9=>by rw[H.bq _ _ (λe=>lj (by rw[ab,e]))];exact b9
 intro b z ab
 rw[H.bq _ _ (λe=>by rw[e,h.out] at ab;cases ab)]
 exact bP.le b z ab
def awY{l:M bO}{K:ap->H->Prop}(h:q1 ai n u l)(ar:0<l.length)(au:∀u',q1 ai n u' l.dropLast->K (Dp (l.getD (l.length-1) default)) u'):
  mX aH (acd n) "Pop" #[] [.one .val] u K:=by
 obtain⟨s,ae,aa,al⟩:=h.ex
 obtain⟨i,m,h1,h2,h3,a7⟩:=BK awK
 obtain⟨dT,dA⟩:=AO
 refine⟨_,_,_,_,rfl,λw _=>by rw[dA];exact Lw h1 h2 h3 a7 aea,hh awO,?_⟩
 refine aG.ZU (some (cB n 0 none)) u K ?_
 have dw:=aa.fi.len
 have I:u.cell? (cB n 0 none)=some (.slice s.a s.n s.c):=H.ba ae 0
 have fB:=h.small
 obtain⟨p,ad,x,J,bJ,c1,c2⟩:=aa.fi.at (x:=(s.n:o)-1) (by omega) (by omega)
 have eR:l.getD (l.length-1) default=x:=by rw[show((s.n:o)-1).toNat=l.length-1 by omega] at J;exact MR J
 intro my o1
 refine⟨_,rfl,_,rfl,s,I,s,I,⟨by omega,by omega⟩,p,ad,⟨by omega,by omega⟩,_,bJ,_,c1,_,c2,λm hm=>⟨H.b1 _ hm,?_⟩⟩
 have rk:m≠n:=λe=>by rw[e,ae] at hm;cases hm
 refine⟨_,_,H.bh _ _ _,rfl,by simp,by simp[cT],o1 _ _ ⟨_,rfl,_,rfl,s,?_,s,?_,⟨by omega,by omega⟩,?_⟩⟩
 simp only[H.cell?,H.bq _ _ (dz rk)];simpa[H.cell?] using I
 simp only[H.cell?,H.bq _ _ (dz rk)];simpa[H.cell?] using I
 have ir:s.n<=s.c:=(br.cap aa.own.cE)
 obtain⟨Z,A0,o5⟩:=aa.front (m:=s.n-1) (by omega)
 refine oM (P:=aH) amr (l:=0) (h:=s.n-1) (m:=s.c) (.inl ⟨rfl,rfl⟩) (.inr ?_) (.inl ⟨rfl,rfl⟩) (by omega) (by omega) (cA _) ir ⟨_,rfl,?_⟩
 rw[show((s.n:o)-1)=((s.n-1:N):o) by omega]
 refine⟨_,_,by simp only[];rw[H.bq _ _ (dz rk),H.bq _ _ (dz rk)];exact ae,rfl,by simp,by simp[cT],?_⟩
 have cH:∀(j:N) v,([.int .i64 x.1,.int .u64 (dk x.2),.int .u64 (dr x.2)]:M ap)[j]?=some v->H.cell? ((((u.ins m (.cells #[.int .i64 0,.int .u64 0,.int .u64 0] 68 (0,0))).ins m (.cells (wr #[.int .i64 0,.int .u64 0,.int .u64 0] 0 [.int .i64 x.1,.int .u64 (dk x.2),.int .u64 (dr x.2)]) 68 (0,0))).ins n
   (.cells (wr #[.slice s.a s.n s.c] 0 [.slice (s.part 0 (s.n-1) s.c 3).a (s.part 0 (s.n-1) s.c 3).n (s.part 0 (s.n-1) s.c 3).c]) 263 (0,0)))) ((cB m 0 none).add j)=some v:=by
  intro j v aP
  simp only[H.cell?,jh,k5,H.bq _ _ rk,H.bh]
  rcases j with _|_|_|j
  simpa[wr] using aP
  simpa[wr] using aP
  simpa[wr] using aP
  simp at aP
 have d0:=cH 0 _ rfl
 have d1:=cH 1 _ rfl
 have d2:=cH 2 _ rfl
 rw[Addr.add_zero'] at d0
 refine⟨_,d0,_,d1,_,d2,?_⟩
 have e:Dp x=Dp (l.getD (l.length-1) default):=by rw[eR]
 show K (Dp x) _
 rw[e]
 have DM:(l.flatMap fH).take ((s.n-1)*3)=l.dropLast.flatMap fH:=by rw[yW r0,dw,List.dropLast_eq_take]
 rw[DM] at Z
 have fc:(s.part 0 (s.n-1) s.c 3).aj≠some n:=by rw[A0];exact al
 refine au _ ⟨⟨_,H.bh _ _ _,⟨?_,?_,Z.fresh⟩,fc⟩,h.out,by simp;omega⟩
 refine Z.own.le λb z ab b9=>?_
 rw[H.bq _ _ (λe=>fc (by rw[ab,e])),H.bq _ _ (λe=>by rw[e,hm] at b9;cases b9),H.bq _ _ (λe=>by rw[e,hm] at b9;cases b9)]
 exact b9
 intro b z ab
 have ui:=Z.le b z ab
 rw[H.bq _ _ (λe=>by rw[e,h.out] at ab;cases ab),H.bq _ _ (λe=>by rw[e,hm] at ui;cases ui),H.bq _ _ (λe=>by rw[e,hm] at ui;cases ui)]
 exact ui
def spec.vH{α:Type}[lN α]{recv:ap}{aO:H->M α->Prop}{lt:α->α->aK}(dp:vl recv aO lt)(L:oQ lt){V:α->ap}{l:M α}{K:ap->H->Prop}(ag:aO u l)(bU:iB lt l.length l)(al:0<l.length)
  (aae:∀{u':H} {bw:M α} {K:ap->H->Prop},aO u' bw->0<bw.length->(∀jj,aO jj bw.dropLast->K (V (bw.getD (bw.length-1) default)) jj)->mX aH recv "Pop" #[] [.one .val] u' K)
  (au:∀u' bw x,aO u' bw->(x::bw).Perm l->iB lt bw.length bw->(∀y∈bw,lt y x=ax)->K (V x) u'):C.vH recv u K:=by
 apply aG.vH
 have fB:=dp.small ag
 refine dp.len ag ⟨⟨by omega,by omega⟩,dp.swap ag (by omega) (by omega) (by omega) (by omega) λaU dO=>?_⟩
 obtain⟨n,ae⟩:∃n,l.length=n+1:=⟨l.length-1,by omega⟩
 have aS:(((l.length:o)-1).toNat)=n:=by omega
 rw[aS] at dO
 have h0:(0:o).toNat=0:=rfl
 rw[h0] at dO
 have gn:(jO l 0 n).length=n+1:=by rw[pw,ae]
 refine spec.xq dp L dO (by omega) (by omega) (by rw[aS];refine⟨by omega,λi i0 i1 i2=>?_,λi i0 i1 i2 h=>by simp at h⟩;have abd:dm i≠0:=i2;rw[Ew (by omega) (by omega) (by omega),Ew (by omega) (by omega) (by unfold dm;omega)];rw[aF (by omega),aF (by omega),aF (by unfold dm;omega),aF abd];exact bU i i0 (by omega)) (λb dc gg dB eY y8 j6=>?_) (.inr (by omega))
 rw[aS] at y8
 have h4:gg.length=n+1:=by rw[eY.length_eq,gn]
 have J:gg.getD (gg.length-1) default=l.getD 0 default:=by have:=j6 n (by omega);rw[du,h4,Nat.add_sub_cancel,this,<-du,Ew (by omega) (by omega) (by omega)];split;rfl;rename_i h;exact aW rfl h
 refine aae dB (by omega) λj0 uB=>?_
 rw[J]
 have JT:gg.dropLast++ [l.getD 0 default]=gg:=by
  rw[<-J];have rl:gg≠[]:=λe=>by rw[e] at h4;simp at h4
  have:=akN rl;rw[List.getLast_eq_getElem] at this;rw[du,cr (by omega)];exact this
 have h5:(l.getD 0 default::gg.dropLast).Perm l:=by refine wy ?_ (eY.trans (Ex (by omega) (by omega)));rw[<-JT,List.dropLast_concat];exact(mR _ _).symm
 refine au _ _ _ uB h5 (λi i0 i1=>?_) λy ah=>?_
 have y7:gg.dropLast.length=n:=by simp[h4]
 have g:∀k,k<n->gg.dropLast.getD k default=gg.getD k default:=λk hk=>by rw[du,du,List.getElem?_dropLast,a1 (by omega)]
 rw[g i (by omega),g _ (by unfold dm;omega)]
 exact y8 i i0 (by omega)
 have GM:y∈l:=h5.mem_iff.1 (gi _ ah)
 obtain⟨i,hi,rfl⟩:=sn.1 GM
 have:=bU.root L i hi
 rw[du,cr hi] at this
 exact this
section
variable {α:Type} [lN α] (lt:α->α->aK)
def rS(l:M α)(j:N):M α:=
 if _h:j=0 then l else if lt (l.getD j default) (l.getD (dm j) default) then rS (jO l (dm j) j) (dm j) else l
termination_by j
decreasing_by unfold dm;omega
def oF(n:N)(l:M α)(i:N):N:=if 2*i+2<n/\lt (l.getD (2*i+2) default) (l.getD (2*i+1) default)=ak then 2*i+2 else 2*i+1
def l9(n:N)(l:M α)(i:N):M α:=
 if _h:2*i+1<n then(if lt (l.getD (oF lt n l i) default) (l.getD i default) then l9 n (jO l i (oF lt n l i)) (oF lt n l i) else l) else l
termination_by n-i
decreasing_by unfold oF;split<;>omega
def zI(l:M α)(y:α):M α:=rS lt (l++ [y]) l.length
def ka(l:M α):M α:=(l9 lt (l.length-1) (jO l 0 (l.length-1)) 0).dropLast
end
section
variable {α:Type} [lN α] {lt:α->α->aK}
def amR:∀(j:N) (l:M α),j<l.length->(rS lt l j).Perm l:=by
 intro j;induction j using D9 with
 |ind j aM=>
  intro l aP;unfold rS;split;exact .refl _;split;have ad:dm j<j:=by unfold dm;omega
  exact(aM (dm j) ad _ (by rw[pw];omega)).trans (Ex (by omega) aP);exact .refl _
def aAe(L:oQ lt):∀(j:N) (l:M α),As lt l j->iB lt (rS lt l j).length (rS lt l j):=by
 intro j;induction j using D9 with
 |ind j aM=>intro l hu;unfold rS;split;rename_i h;exact hu.done (.inl h);split;rename_i h ar;exact aM (dm j) (by unfold dm;omega) _ (hu.step L (by omega) ar);rename_i h ar;exact hu.done (.inr (by simpa using ar))
def abD{i:N}{l:M α}(h:2*i+1<n):0<oF lt n l i/\oF lt n l i<n/\dm (oF lt n l i)=i/\i<oF lt n l i:=by unfold oF dm;split<;>omega
def ajR(L:oQ lt){i:N}{l:M α}(h:2*i+1<n):∀x,0<x->x<n->dm x=i->lt (l.getD x default) (l.getD (oF lt n l i) default)=ax:=by
 have Kv:∀a,lt a a=ax:=λa=>by
  cases e:lt a a with
  |false=>rfl|true=>have:=L.asymm _ _ e;rw[e] at this;cases this
 intro x bL dC x2;have two:x=2*i+1∨x=2*i+2:=by unfold dm at x2;omega
 unfold oF;split;rename_i I;rcases two with rfl|rfl;exact L.asymm _ _ I.2;exact Kv _;rename_i I;rcases two with rfl|rfl;exact Kv _;cases e:lt (l.getD (2*i+2) default) (l.getD (2*i+1) default) with
 |false=>rfl|true=>exact aW ⟨dC,e⟩ I
def aps(n:N):∀(m:N) (i:N) (l:M α),n-i<=m->(l9 lt n l i).length=l.length:=by
 intro m;induction m with
 |zero=>intro i l h;unfold l9;rw[yh (by omega)]
 |succ m aM=>intro i l h;unfold l9;split;rename_i I;split;obtain⟨_,_,_,hk⟩:=abD (lt:=lt) (l:=l) I;rw[aM _ _ (by omega),pw];rfl;rfl
def apu(L:oQ lt):∀(m:N) (i:N) (l:M α),n-i<=m->wY lt n l i->n<=l.length->(i<n∨i=0)->
  (l9 lt n l i).Perm l/\iB lt n (l9 lt n l i)/\∀k,n<=k->(l9 lt n l i)[k]?=l[k]?:=by
 intro m
 induction m with
 |zero=>intro i l h aw ae hi;unfold l9;rw[yh (by omega)];exact⟨.refl _,aw.done (λx bL dC x2=>by unfold dm at x2;omega),λ_ _=>rfl⟩
 |succ m aM=>intro i l h aw ae hi;unfold l9;split;rename_i I;obtain⟨jG,b3,cu,jW⟩:=abD (lt:=lt) (l:=l) I;split;rename_i ar;obtain⟨h1,h2,h3⟩:=aM (oF lt n l i) (jO l i (oF lt n l i)) (by omega) (aw.step L jG b3 cu ar (ajR L I)) (by rw[pw];exact ae) (.inl b3);refine⟨h1.trans (Ex (by omega) (by omega)),h2,λk hk=>?_⟩;rw[h3 k hk,amn (by omega) (by omega)];rename_i ar;refine⟨.refl _,aw.done (λx bL dC x2=>?_),λ_ _=>rfl⟩;exact L.trans _ _ _ (by simpa using ar) (ajR L I x bL dC x2);rename_i I;exact⟨.refl _,aw.done (λx bL dC x2=>by unfold dm at x2;omega),λ_ _=>rfl⟩
def axI{l:M α}{y:α}(bU:iB lt l.length l):As lt (l++ [y]) l.length:=by
 refine⟨by simp,λi i0 i1 i2=>?_,λi i0 i1 i2=>?_⟩;simp only[ez,rO] at i1;have hi:i<l.length:=by omega
 have g:∀k,k<l.length->(l++ [y]).getD k default=l.getD k default:=λk hk=>by rw[du,qJ hk,<-du]
 rw[g i hi,g _ (by unfold dm;omega)];exact bU i i0 hi;simp only[ez,rO] at i1;unfold dm at i2;omega
def axG(L:oQ lt){l:M α}{y:α}(bU:iB lt l.length l):(zI lt l y).Perm (l++ [y])/\iB lt (zI lt l y).length (zI lt l y):=
 ⟨amR _ _ (by simp),aAe L _ _ (axI bU)⟩
def axz{l:M α}(bU:iB lt l.length l)(al:0<l.length):wY lt (l.length-1) (jO l 0 (l.length-1)) 0:=by refine⟨by rw[pw];omega,λi i0 i1 i2=>?_,λi i0 i1 i2 h=>by simp at h⟩;have abd:dm i≠0:=i2;rw[Ew (by omega) (by omega) (by omega),Ew (by omega) (by omega) (by unfold dm;omega)];rw[aF (by omega),aF (by omega),aF (by unfold dm;omega),aF abd];exact bU i i0 (by omega)
def PO(L:oQ lt){l:M α}(bU:iB lt l.length l)(al:0<l.length):(l.getD 0 default::ka lt l).Perm l/\iB lt (ka lt l).length (ka lt l)/\(∀y∈ka lt l,lt y (l.getD 0 default)=ax)/\
  l9 lt (l.length-1) (jO l 0 (l.length-1)) 0=ka lt l++ [l.getD 0 default]:=by
 have aw:=axz bU al
 obtain⟨h1,h2,h3⟩:=apu L (l.length-1) 0 _ (by omega) aw (by rw[pw];omega) (.inr rfl)
 have hlen:=aps (lt:=lt) (l.length-1) (l.length-1) 0 (jO l 0 (l.length-1)) (by omega)
 rw[pw] at hlen
 have e:l9 lt (l.length-1) (jO l 0 (l.length-1)) 0=ka lt l++ [l.getD 0 default]:=by
  unfold ka;generalize eN:l9 lt (l.length-1) (jO l 0 (l.length-1)) 0=D at*;have rl:D≠[]:=λe=>by rw[e] at hlen;simp at hlen;omega
  have JT:=akN rl;rw[List.getLast_eq_getElem] at JT;have J:D[D.length-1]'(by omega)=l.getD 0 default:=by
   have a7:=h3 (l.length-1) (cA _);rw[cr (by omega),cr (by rw[pw];omega)] at a7;have bK:D[l.length-1]'(by omega)=(jO l 0 (l.length-1)).getD (l.length-1) default:=by rw[du,cr (by rw[pw];omega)];exact cU a7
   rw[Ew (by omega) (by omega) (by omega),a1 rfl] at bK;rw[<-bK];congr 1;omega
  rw[J] at JT;exact JT.symm
 have ad:(l.getD 0 default::ka lt l).Perm l:=by have:=h1.trans (Ex (by omega) (by omega));rw[e] at this;exact(mR _ _).symm.trans this
 have aBC:(ka lt l).length=l.length-1:=by have:=ad.length_eq;simp only[hX] at this;omega
 refine⟨ad,λi i0 i1=>?_,λy ah=>?_,e⟩
 have bK:=h2 i i0 (by omega)
 rw[e] at bK
 have g:∀k,k<(ka lt l).length->(ka lt l++ [l.getD 0 default]).getD k default=(ka lt l).getD k default:=λk hk=>by rw[du,qJ hk,<-du]
 rw[g i i1,g _ (by unfold dm;omega)] at bK
 exact bK
 have GM:y∈l:=ad.mem_iff.1 (gi _ ah)
 obtain⟨i,hi,rfl⟩:=pt GM
 have:=bU.root L i hi
 rwa[du,cr hi] at this
variable {recv:ap} {aO:H->M α->Prop}
def spec.asD(dp:vl recv aO lt){l:M α}(ag:aO u l)(h0:0<=j)(aP:j<l.length)(au:∀u',aO u' (rS lt l j.toNat)->K u'):C.xr recv j u K:=by
 have fB:=dp.small ag;apply aG.xr;refine⟨λx v=>0<=x/\∃bw,aO v bw/\bw.length=l.length/\x<l.length/\rS lt bw x.toNat=rS lt l j.toNat,λx _=>x.toNat,⟨h0,l,ag,rfl,aP,rfl⟩,?_⟩;rintro x v ⟨bL,bw,gr,hlen,b6,he⟩;refine⟨⟨by omega,by omega⟩,by decide,?_⟩;by_cases J:x=0;subst J;refine⟨⟨by decide,by decide⟩,λ_=>au _ ?_,λh=>aW (by decide) h⟩;rw[<-he];unfold rS;rw[B3 (by rfl)];exact gr
 .have ht:gR (x-1) 2=(x-1)/2:=Lf (by omega);have uA:((x-1)/2).toNat=dm x.toNat:=by unfold dm;omega
  rw[ht];refine⟨⟨by omega,by omega⟩,λh=>by omega,λ_=>dp.less gr bL (by omega) (by omega) (by omega) ?_⟩;rw[uA];refine⟨λab=>au _ ?_,λab=>dp.swap gr (by omega) (by omega) bL (by omega) λu' dB=>⟨⟨by omega,_,dB,by rw[pw];exact hlen,by omega,?_⟩,by dsimp only;omega⟩⟩;rw[<-he];unfold rS;rw[yh (by omega),aF ab];exact gr
  .rw[uA,<-he]
   conv=>rhs;unfold rS
   rw[yh (by omega),a1 ab]
def spec.asA(dp:vl recv aO lt){l:M α}{n:o}{K:aK->H->Prop}(ag:aO u l)(h0:0<=j)(ae:n<=l.length)(au:∀b u',aO u' (l9 lt n.toNat l j.toNat)->K b u')(aP:j<n∨j<=0)(atw:j<l.length):C.xq recv j n u K:=by
 have fB:=dp.small ag;apply aG.xq;intro my o1;refine⟨λx v=>0<=x/\(x<n∨x<=0)/\x<l.length/\∃bw,aO v bw/\bw.length=l.length/\l9 lt n.toNat bw x.toNat=l9 lt n.toNat l j.toNat,λx _=>(n-x).toNat,⟨h0,aP,atw,l,ag,rfl,rfl⟩,?_⟩;rintro x v ⟨bL,TJ,eR,bw,gr,hlen,he⟩;have done:l9 lt n.toNat bw x.toNat=bw->my x v:=λh=>o1 _ _ (au _ _ (by rw[<-he,h];exact gr));refine⟨⟨by omega,by omega⟩,⟨by omega,by omega⟩,λWB Nc=>⟨λh=>done ?_,λh=>⟨λh2=>by omega,λ_=>Nc _ ?_⟩⟩⟩;unfold l9;rw[yh (by omega)];clear Nc WB;intro tN Nd;have eP:∀c:o,c.toNat=oF lt n.toNat bw x.toNat->0<c->c<n->x<c->tN c v:=by
  intro c I bJ c1 ow;refine Nd _ _ (dp.less gr (by omega) (by omega) bL (by omega) ⟨λab=>done ?_,λab=>dp.swap gr bL (by omega) (by omega) (by omega) λu' dB=>⟨⟨by omega,.inl c1,by omega,_,dB,by rw[pw];exact hlen,?_⟩,by dsimp only;omega⟩⟩);unfold l9;rw[B3 (by omega),<-I,aF ab]
  .rw[<-he]
   conv=>rhs;unfold l9
   rw[B3 (by omega),<-I,a1 ab]
 clear Nd;have aS:(2*x+1).toNat=2*x.toNat+1:=by omega
 have aB:(2*x+1+1).toNat=2*x.toNat+2:=by omega
 refine⟨⟨by omega,by omega⟩,λh2=>dp.less gr (by omega) (by omega) (by omega) (by omega) ⟨λab=>eP _ ?_ (by omega) h2 (by omega),λab=>eP _ ?_ (by omega) (by omega) (by omega)⟩,λh2=>eP _ ?_ (by omega) (by omega) (by omega)⟩;rw[aS,aB] at ab;unfold oF;rw[a1 ⟨by omega,ab⟩,aB];rw[aS,aB] at ab;unfold oF;rw[aF (λI=>by rw[I.2] at ab;cases ab),aS];unfold oF;rw[aF (λI=>by omega),aS]
def spec.asz(dp:vl recv aO lt){l:M α}{x:ap}{y:α}
  (aaf:∀{K:H->Prop},(∀u',aO u' (l++ [y])->K u')->mX aH recv "Push" #[x] [] u K)
  (au:∀u',aO u' (zI lt l y)->K u'):C.r7 recv x u K:=by
 apply aG.r7
 refine aaf λu' ag=>dp.len ag ?_
 have fB:=dp.small ag
 simp only[ez,rO] at fB ⊢
 refine⟨⟨by omega,by omega⟩,spec.asD dp ag (by omega) (by simp only[ez,rO];omega) λdc h2=>au dc ?_⟩
 have e:(((l.length+1:N):o)-1).toNat=l.length:=by omega
 rw[e] at h2
 exact h2
def spec.asy(dp:vl recv aO lt)(L:oQ lt){V:α->ap}{l:M α}{K:ap->H->Prop}(ag:aO u l)(bU:iB lt l.length l)(al:0<l.length)
  (aae:∀{u':H} {bw:M α} {x:α} {K:ap->H->Prop},aO u' (bw++ [x])->(∀jj,aO jj bw->K (V x) jj)->mX aH recv "Pop" #[] [.one .val] u' K)
  (au:∀u',aO u' (ka lt l)->K (V (l.getD 0 default)) u'):C.vH recv u K:=by
 obtain⟨_,_,_,he⟩:=PO L bU al
 apply aG.vH
 have fB:=dp.small ag
 refine dp.len ag ⟨⟨by omega,by omega⟩,dp.swap ag (by omega) (by omega) (by omega) (by omega) λaU dO=>?_⟩
 have aS:(((l.length:o)-1).toNat)=l.length-1:=by omega
 rw[aS,show(0:o).toNat=0 from rfl] at dO
 refine spec.asA dp dO (by omega) (by rw[pw];omega) (λb dc dB=>?_) (.inr (by omega)) (by rw[pw];omega)
 rw[aS,show(0:o).toNat=0 from rfl,he] at dB
 exact aae dB au
end
end
section
variable{q:M o}{b k d:o}
abbrev j2:=o×M o
inductive bF where
 |mk (aD:o) (bH hi:M o) (cG:o) (rows:M j2) (kids:M bF)
instance:lN bF:=⟨.mk 1 [] [] 0 [] []⟩
namespace bF
def aD:bF->o| .mk s _ _ _ _ _=>s
def bH:bF->M o| .mk _ l _ _ _ _=>l
def hi:bF->M o| .mk _ _ h _ _ _=>h
def cG:bF->o| .mk _ _ _ r _ _=>r
def rows:bF->M j2| .mk _ _ _ _ r _=>r
def kids:bF->M bF| .mk _ _ _ _ _ k=>k
mutual
def all:bF->M j2
 | .mk _ _ _ _ rows kids=>rows++jS kids
def jS:M bF->M j2
 | []=>[]|p::c7=>p.all++jS c7
end
mutual
def size:bF->N
 | .mk _ _ _ _ _ kids=>1+hB kids
def hB:M bF->N
 | []=>0|p::c7=>p.size+hB c7
end
def hA(p:bF)(ids:M o):cn:=⟨p.aD,⟨none,0,0⟩,⟨none,0,0⟩,p.cG,⟨none,0,0⟩,p.bH,p.hi,ids⟩
def all_eq(p:bF):p.all=p.rows++jS p.kids:=by cases p;rfl
def size_eq(p:bF):p.size=1+hB p.kids:=by cases p;rfl
end bF
def aCx(x:j2):az:=⟨x.1,⟨none,0,0⟩,x.2⟩
def Dq(q:M o)(x:j2):bO:=(x.1,fE x.2 q x.2.length)
def aBt(q:M o)(r:az):Dq q r.bz=hp q r:=rfl
inductive ga(d:o):bF->Prop where
 |mk {p:bF} (kd:oR (p.hA []) d) (ins:∀x∈p.all,mZ (p.hA []) x.2) (kids:∀k∈p.kids,ga d k):ga d p
def ga.kd{p:bF}(h:ga d p):oR (p.hA []) d:=by cases h;assumption
def ga.ins{p:bF}(h:ga d p):∀x∈p.all,mZ (p.hA []) x.2:=by cases h;assumption
def ga.kids{p:bF}(h:ga d p):∀k∈p.kids,ga d k:=by cases h;assumption
abbrev lR:=o×bF
def blt(a b:lR):aK:=decide (a.1<b.1)
def E4:oQ blt where
 asymm a b h:=by simp[blt] at*;omega
 trans a b c h k:=by simp[blt] at*;omega
def pD(q:M o)(l:M lR)(p:bF):M lR:=zI blt l (ph (p.hA []) q,p)
structure mB where
 heap:M lR
 seen:M j2
 rest:M (bF×M j2)
def yr(q:M o)(k:o)(s:mB):M bO:=eT k.toNat (s.seen.map (Dq q))
def MO(q:M o)(k:o)(s:mB)(b:o):Prop:=k<=(s.seen.length:o)/\((yr q k s).getD (k.toNat-1) default).2<b
def yZ(q:M o)(k b:o)(s:mB):Prop:=s.heap≠[]/\(s.seen.length:o)<b/\¬MO q k s (s.heap.getD 0 default).1
def qc(q:M o)(b:o)(s:mB):mB:=
 ⟨(s.heap.getD 0 default).2.kids.foldl (pD q) (ka blt s.heap),s.seen++(s.heap.getD 0 default).2.rows.take (b-s.seen.length).toNat,
  if((s.heap.getD 0 default).2.rows.length:o)<=b-s.seen.length then s.rest else s.rest++ [((s.heap.getD 0 default).2,(s.heap.getD 0 default).2.rows.drop (b-s.seen.length).toNat)]⟩
open Classical in
def uO(q:M o)(k b:o):N->mB->mB
 |0,s=>s|f+1,s=>if yZ q k b s then uO q k b f (qc q b s) else s
def VK(q:M o)(c7:M bF):mB:=⟨c7.foldl (pD q) [],[],[]⟩
def oO(q:M o)(k b:o)(c7:M bF):mB:=uO q k b (bF.hB c7) (VK q c7)
def n3(s:mB):M (bF×M j2):=s.rest++(s.heap.map λx=>(x.2,x.2.all)).filter λx=>!x.2.isEmpty
structure sH(q:M o)(b:o)(P:M j2)(s:mB):Prop where
 ad:iB blt s.heap.length s.heap
 tj:∀x∈s.heap,x.1=ph (x.2.hA []) q/\ga q.length x.2
 perm:(s.seen++(s.rest.flatMap (·.2)++s.heap.flatMap λx=>x.2.all)).Perm P
 vz:(s.seen.length:o)<=b
 cut:s.rest≠[]->(s.seen.length:o)=b
 left:∀x∈s.rest,ga q.length x.1/\x.2≠[]/\∀y∈x.2,y∈x.1.all
def foldl_add:∀(c7:M bF) (l:M lR),iB blt l.length l->iB blt (c7.foldl (pD q) l).length (c7.foldl (pD q) l)/\(c7.foldl (pD q) l).Perm (l++c7.map λp=>(ph (p.hA []) q,p)):=by
 intro c7;induction c7 with
 |nil=>intro l h;exact⟨h,by simp⟩
 |cons p c7 aM=>intro l h;obtain⟨h1,h2⟩:=axG E4 (y:=((ph (p.hA []) q,p):lR)) h;obtain⟨h3,a7⟩:=aM _ h2;refine⟨h3,a7.trans ?_⟩;rw[gm];refine(h1.append_right _).trans ?_;rw[n5];exact .refl _
def yJ(c7:M bF):bF.jS c7=c7.flatMap λp=>p.all:=by
 induction c7 with
 |nil=>rfl|cons p c7 aM=>rw[gy,<-aM];rfl
def ame{c7:M bF}(ab:0<=b)(h:∀p∈c7,ga q.length p):sH q b (bF.jS c7) (VK q c7):=by
 have h0:iB blt ([]:M lR).length []:=λi _ hi=>by simp at hi
 obtain⟨h1,h2⟩:=foldl_add (q:=q) c7 [] h0;rw[nz] at h2;refine⟨h1,λx J=>?_,?_,by show((0:N):o)<=b;omega,λe=>aW rfl e,λx J=>by cases J⟩;obtain⟨p,ad,rfl⟩:=bf.1 (h2.mem_iff.1 J);exact⟨rfl,h p ad⟩;show([]++([]++_)).Perm _;rw[nz,nz,yJ];refine(h2.flatMap_right _).trans (HL ?_);rw[B6]
def aqA{α:Type}[lN α]{l:M α}(h:l≠[]):l.getD 0 default∈l:=by
 cases l with
 |nil=>exact aW rfl h|cons x l=>exact fW ..
def amh{P:M j2}{s:mB}(h:sH q b P s)(W:yZ q k b s):sH q b P (qc q b s):=by
 obtain⟨al,bD,_⟩:=W;have ar:0<s.heap.length:=wx.2 al;obtain⟨gX,dy,lL,_⟩:=PO E4 h.ad ar;have ll:s.rest=[]:=by by_cases e:s.rest=[];exact e;have:=h.cut e;omega
 obtain⟨ajr,Kn⟩:=h.tj _ (aqA al);unfold qc;generalize J:s.heap.getD 0 default=x at*;obtain⟨f1,f2⟩:=foldl_add (q:=q) x.2.kids _ dy;refine⟨f1,λy ah=>?_,?_,?_,λe=>?_,λy ah=>?_⟩;rcases cN.1 (f2.mem_iff.1 ah) with h1|h1;exact h.tj y (gX.mem_iff.1 (gi _ h1));obtain⟨p,ad,rfl⟩:=bf.1 h1;exact⟨rfl,Kn.kids p ad⟩;have h5:=h.perm;rw[ll,HM,nz] at h5;refine wy ?_ h5;show((s.seen++x.2.rows.take (b-s.seen.length).toNat)++(wz (λy:bF×M j2=>y.2) (if(x.2.rows.length:o)<=b-s.seen.length then s.rest else s.rest++ [(x.2,x.2.rows.drop (b-s.seen.length).toNat)])++wz (λx=>x.2.all) (x.2.kids.foldl (pD q) (ka blt s.heap)))).Perm _;rw[n5];refine acZ _ ?_;have asW:(wz (λx=>x.2.all) (x.2.kids.foldl (pD q) (ka blt s.heap))).Perm ((ka blt s.heap).flatMap (λx=>x.2.all)++bF.jS x.2.kids):=by refine(f2.flatMap_right _).trans ?_;rw[hz,B6,yJ]
 have hold:(s.heap.flatMap λx=>x.2.all).Perm (x.2.all++(ka blt s.heap).flatMap λx=>x.2.all):=by refine(gX.symm.flatMap_right _).trans ?_;rw[gy]
 refine wy ?_ hold.symm;rw[bF.all_eq];have key:(x.2.rows.take (b-s.seen.length).toNat++wz (·.2) (if(x.2.rows.length:o)<=b-s.seen.length then s.rest else s.rest++ [(x.2,x.2.rows.drop (b-s.seen.length).toNat)]))=x.2.rows:=by rw[ll];split;rw[HM,ly,hR (by omega)];simp
 rw[<-n5,key];refine(acZ _ asW).trans ?_;rw[n5];exact acZ _ List.perm_append_comm;show(((s.seen++x.2.rows.take _).length:N):o)<=b;rw[ez,gZ];omega;show(((s.seen++x.2.rows.take _).length:N):o)=b;rw[ez,gZ];by_cases I:(x.2.rows.length:o)<=b-s.seen.length;exact aW (by show(if _ then s.rest else _)=[];rw[a1 I];exact ll) e;omega;change y∈(if(x.2.rows.length:o)<=b-s.seen.length then s.rest else s.rest++ [(x.2,x.2.rows.drop (b-s.seen.length).toNat)]) at ah;rw[ll] at ah;split at ah;cases ah;rename_i I;rw[nz] at ah;have:=fV.1 ah;subst this;refine⟨Kn,λe=>?_,λY aC=>?_⟩;have:=ei iS e;rw[oH,mi] at this;omega;rw[bF.all_eq];exact iQ _ (ye aC)
def ayZ(a b:M bF):bF.hB (a++b)=bF.hB a+bF.hB b:=by
 induction a with
 |nil=>simp[bF.hB]|cons p a aM=>simp only[zN,bF.hB,aM];omega
def Vz{a b:M bF}(h:a.Perm b):bF.hB a=bF.hB b:=by
 induction h with
 |nil=>rfl|cons x _ aM=>simp only[bF.hB,aM]|swap x y l=>simp only[bF.hB];omega|trans _ _ h1 h2=>exact h1.trans h2
def amj{P:M j2}{s:mB}(h:sH q b P s)(W:yZ q k b s):bF.hB ((qc q b s).heap.map (·.2))+1=bF.hB (s.heap.map (·.2)):=by
 have ar:0<s.heap.length:=wx.2 W.1;obtain⟨gX,dy,lL,_⟩:=PO E4 h.ad ar;obtain⟨f1,f2⟩:=foldl_add (q:=q) (s.heap.getD 0 default).2.kids _ dy;have aS:bF.hB ((qc q b s).heap.map (·.2))=bF.hB ((ka blt s.heap).map (·.2))+bF.hB (s.heap.getD 0 default).2.kids:=by show bF.hB (List.map (λx=>x.2) (List.foldl (pD q) (ka blt s.heap) (s.heap.getD 0 default).2.kids))=_;rw[Vz (f2.map _),ek,ayZ,ep];congr 2;exact B5 _
 have aB:bF.hB (s.heap.map (·.2))=(s.heap.getD 0 default).2.size+bF.hB ((ka blt s.heap).map (·.2)):=by rw[<-Vz (gX.map _),gm];rfl
 rw[aS,aB,bF.size_eq];omega
def awd{P:M j2}:∀(f:N) (s:mB),sH q b P s->bF.hB (s.heap.map (·.2))<=f->sH q b P (uO q k b f s)/\¬yZ q k b (uO q k b f s):=by
 intro f;induction f with
 |zero=>
  intro s h ag;refine⟨h,λW=>?_⟩;have al:=W.1;cases e:s.heap with
  |nil=>exact al e|cons x l=>rw[e] at ag;simp only[gm,bF.hB] at ag;have:=bF.size_eq x.2;omega
 |succ f aM=>intro s h ag;unfold uO;split;rename_i W;have:=amj h W;exact aM _ (amh h W) (by omega);rename_i W;exact⟨h,W⟩
def aAl{c7:M bF}(ab:0<=b)(h:∀p∈c7,ga q.length p):sH q b (bF.jS c7) (oO q k b c7)/\¬yZ q k b (oO q k b c7):=by
 refine awd _ _ (ame ab h) ?_;have h0:iB blt ([]:M lR).length []:=λi _ hi=>by simp at hi
 obtain⟨h1,h2⟩:=foldl_add (q:=q) c7 [] h0;rw[nz] at h2;show bF.hB ((c7.foldl (pD q) []).map (·.2))<=_;rw[Vz (h2.map _),ep];exact Lo (ei _ (B5 _))
end
section
variable{u ai v:H}{s t:U}{n:N}{K:H->Prop}{r:cn}{q:M o}{p:bF}
def axO:n4 aH 332 "Len" 268 ax=ak:=by kernel_rfl
def axP:n4 aH 332 "Less" 330 ax=ak:=by kernel_rfl
def axS:n4 aH 332 "Swap" 331 ax=ak:=by kernel_rfl
def axR:n4 aH 332 "Push" 333 ak=ak:=by kernel_rfl
def axQ:n4 aH 332 "Pop" 332 ak=ak:=by kernel_rfl
def ayX:qT aH 331=some (.one .slice):=by kernel_rfl
def aeb:aH.underlying 332=some (.pointer 331):=by kernel_rfl
def amt:kH aH 331=some (334,3,24,[.pointer none,.int .u64 0,.int .u64 0]):=by kernel_rfl
def aoG(x:ay bc)(y Y:o):kG aH 331 1 #[(0,.agg #[.pointer x,.int .u64 y,.int .u64 Y])]=some (334,[.pointer x,.int .u64 y,.int .u64 Y]):=by kernel_rfl
def axT:hn aH 268=ak:=by kernel_rfl
def axU:hn aH 330=ak:=by kernel_rfl
def axX:hn aH 331=ak:=by kernel_rfl
def axW:hn aH 333=ak:=by kernel_rfl
def axV:hn aH 332=ak:=by kernel_rfl
abbrev kS:=bc×lR
instance:lN kS:=⟨(⟨0,0,none⟩,default)⟩
def x6(a b:kS):aK:=blt a.2 b.2
def q8(e:kS):M ap:=[.pointer (some e.1),.int .u64 (dk e.2.1),.int .u64 (dr e.2.1)]
def MD(e:kS):(q8 e).length=3:=rfl
def afR(e:kS):∀v∈q8 e,v.oneCell'=ak:=by simp[q8,cT]
def II(u:H)(s:U)(l:M kS):Prop:=br u s 3 (l.flatMap q8)
def II.len{l:M kS}(h:II u s l):s.n=l.length:=gW MD (by decide) h
def aJ.qs{e:N}{l:M kS}(h:aJ ai u e 3 s (l.flatMap q8)):II u s l:=h.own.cE
def II.at{l:M kS}(h:II u s l){x:o}(h0:0<=x)(h1:x<(s.n:o)):∃p,s.a=some p/\∃q:kS,l[x.toNat]?=some q/\
  u.cell? (p.add (x.toNat*3))=some (.pointer (some q.1))/\u.cell? ((p.add (x.toNat*3)).add 1)=some (.int .u64 (dk q.2.1))/\u.cell? ((p.add (x.toNat*3)).add 2)=some (.int .u64 (dr q.2.1)):=by
 have ae:=h.len
 have ar:x.toNat<l.length:=by omega
 obtain⟨p,ad,I⟩:=br.elem MD (by decide) h (cr ar)
 exact⟨p,ad,_,cr ar,I 0 _ rfl,I 1 _ rfl,I 2 _ rfl⟩
def aqp(l:M kS)(x:kS):l.flatMap q8++ [.pointer (some x.1),.int .u64 (dk x.2.1),.int .u64 (dr x.2.1)]=(l++ [x]).flatMap q8:=by simp[q8]
structure Aq(ai:H)(n:N)(u:H)(l:M kS):Prop where
 ex:∃s:U,u n=some (.cells #[.slice s.a s.n s.c] 331 (0,0))/\aJ ai u 334 3 s (l.flatMap q8)/\s.aj≠some n
 out:ai n=none
 small:l.length<=10000000
def HU(n:N):ap:=.iface 332 (.pointer (some (cB n 0 none)))
def ac7{name:String}{f:kM}(hm:n4 aH 332 name f ax=ak)(ae:u n=some (.cells #[.slice s.a s.n s.c] 331 (0,0)))(w:b7)(hw:Sub u w):
  (method (aH.types.size+uW) 332 (.pointer (some (cB n 0 none))) name).run aH w=.ok (f,.slice s.a s.n s.c) w:=by
 obtain⟨i,m,h1,h2,h3,a7⟩:=BK hm
 obtain⟨dT,dA⟩:=AO
 rw[dA]
 refine adk h1 h2 h3 a7 aeb ?_
 have I:u.cell? (cB n 0 none)=some (.slice s.a s.n s.c):=H.ba ae 0
 have y5:=hw.cell I
 exact KH ayX (cB n 0 none) (vs:=[.slice s.a s.n s.c]) rfl (acT _ _ _ _ _ rfl (λj v aP=>by
  cases j with
  |zero=>simp at aP;subst aP;exact y5|succ j=>simp at aP)) (λc I=>⟨_,rfl,y5⟩)
def spec.Jd{l:M kS}{i j:o}{K:aK->H->Prop}(ag:II u s l)(i0:0<=i)(i1:i<l.length)(gK:0<=j)(js:j<l.length)
  (h:K (x6 (l.getD i.toNat default) (l.getD j.toNat default)) u):C.Jd s i j u K:=by
 have ae:=ag.len
 apply aG.Jd
 obtain⟨p,ad,x,J,bJ,c1,c2⟩:=ag.at gK (show j<(s.n:o) by omega)
 obtain⟨q,aN,y,ah,d0,d1,d2⟩:=ag.at i0 (show i<(s.n:o) by omega)
 rw[show l.getD i.toNat default=y by rw[du,ah];rfl,show l.getD j.toNat default=x by rw[du,J];rfl] at h
 refine⟨q,aN,⟨i0,by omega⟩,p,ad,⟨gK,by omega⟩,_,d1,_,by rw[Addr.Az];exact d2,_,c1,_,by rw[Addr.Az];exact c2,spec.mr (BG _) (BG _) ?_⟩
 rw[q0,q0]
 have key:∀Y:o,(Y<0↔y.2.1<x.2.1)->K (decide (Y<0)) u:=λY aC=>by
  have:decide (Y<0)=x6 y x:=by unfold x6 blt;simp[aC]
  rw[this];exact h
 refine key _ ?_
 split
 omega
 split<;>omega
def spec.Je{l:M kS}{i j:o}(aa:aJ ai u 334 3 s (l.flatMap q8))(i0:0<=i)(i1:i<l.length)(gK:0<=j)(js:j<l.length)
  (h:∀u',aJ ai u' 334 3 s ((jO l i.toNat j.toNat).flatMap q8)->gO u u' s->K u'):C.Je s i j u K:=by
 have ag:=aa.qs
 have ae:=ag.len
 apply aG.Je
 obtain⟨p,ad,x,J,bJ,c1,c2⟩:=ag.at gK (show j<(s.n:o) by omega)
 obtain⟨q,aN,y,ah,d0,d1,d2⟩:=ag.at i0 (show i<(s.n:o) by omega)
 refine⟨p,ad,⟨gK,by omega⟩,q,aN,⟨i0,by omega⟩,_,bJ,_,c1,_,c2,_,d0,_,d1,_,d2,q,aN,⟨i0,by omega⟩,?_⟩
 refine aJ.store (enc:=q8) MD aa (by decide) (i:=i.toNat) (by omega) (y:=x) (afR x) aN λaU kv vG _=>⟨p,ad,⟨gK,by omega⟩,?_⟩
 refine aJ.store (enc:=q8) MD kv (by decide) (i:=j.toNat) (by simp;omega) (y:=y) (afR y) ad λdc dI ic _=>h dc ?_ (λb z ab al=>ic b z (vG b z ab al) al)
 have eO:i.toNat<l.length:=by omega
 have kK:j.toNat<l.length:=by omega
 have ex:l[j.toNat]=x:=by rw[cr kK] at J;exact cU J
 have vy:l[i.toNat]=y:=by rw[cr eO] at ah;exact cU ah
 rw[Im eO kK,ex,vy]
 exact dI
def Aq.set{u':H}{l bw:M kS}(h:Aq ai n u l)(ae:u n=some (.cells #[.slice s.a s.n s.c] 331 (0,0)))(ag:s.aj≠some n)
  (aa:aJ ai u' 334 3 s (bw.flatMap q8)) (he:gO u u' s) (ar:bw.length=l.length):Aq ai n u' bw:=
 ⟨⟨s,he _ _ ae ag,aa,ag⟩,h.out,by rw[ar];exact h.small⟩
def akR(ai:H)(n:N):vl (HU n) (Aq ai n) x6 where
 len:=by intro u l K h au;obtain⟨s,ae,aa,_⟩:=h.ex;refine⟨_,_,_,_,rfl,λw hw=>ac7 axO ae w hw,hh axT,aG.MM s u K ?_⟩;rw[aa.qs.len];exact au
 less:=by intro u l i j K h i0 i1 gK js au;obtain⟨s,ae,aa,_⟩:=h.ex;exact⟨_,_,_,_,rfl,λw hw=>ac7 axP ae w hw,hh axU,spec.Jd aa.qs i0 i1 gK js au⟩
 swap:=by intro u l i j K h i0 i1 gK js au;obtain⟨s,ae,aa,al⟩:=h.ex;exact⟨_,_,_,_,rfl,λw hw=>ac7 axS ae w hw,hh axX,spec.Je aa i0 i1 gK js λu' bP he=>au u' (h.set ae al bP he (pw _ _ _))⟩
 small:=λh=>by have:=h.small;omega
def akS:oQ x6 where
 asymm:=λ_ _ h=>E4.asymm _ _ h
 trans:=λ_ _ _ h k=>E4.trans _ _ _ h k
def an3(h:kS)(w:b7):(tp (.iface 334 (.agg #[.pointer (some h.1),.int .u64 (dk h.2.1),.int .u64 (dr h.2.1)])) 20 334 ax).run aH w=
  .ok (.agg #[.pointer (some h.1),.int .u64 (dk h.2.1),.int .u64 (dr h.2.1)]) w:=by kernel_rfl
def wD(h:kS):ap:=.iface 334 (.agg #[.pointer (some h.1),.int .u64 (dk h.2.1),.int .u64 (dr h.2.1)])
def alI{h:kS}{K:ay bc->o->o->H->Prop}(au:K (some h.1) (dk h.2.1) (dr h.2.1) u):dd aH (tp (wD h) 20 334 ax) [.agg [.ptr,.int .u64,.int .u64]] u K:=
 dd.pure [.pointer (some h.1),.int .u64 (dk h.2.1),.int .u64 (dr h.2.1)] (λw _=>an3 h w) (.cons (t:=.ptr) (some h.1) (.cons (t:=.int .u64) _ (.cons (t:=.int .u64) _ .nil))) au
def ax0{l:M kS}{x:kS}(h:Aq ai n u l)(ar:l.length<10000000)(au:∀u',Aq ai n u' (l++ [x])->K u'):
  mX aH (HU n) "Push" #[wD x] [] u K:=by
 obtain⟨s,ae,aa,al⟩:=h.ex
 obtain⟨i,m,h1,h2,h3,a7⟩:=BK axR
 obtain⟨dT,dA⟩:=AO
 refine⟨_,_,_,_,rfl,λw _=>by rw[dA];exact Lw h1 h2 h3 a7 aeb,hh axW,?_⟩
 refine aG.XP (some (cB n 0 none)) _ u K ?_
 refine⟨_,rfl,s,H.ba ae 0,alI ⟨H.le.refl u,?_⟩⟩
 have ad:=Aa (P:=aH) (K:=λfP py=>∃Qg:bc,some (cB n 0 none)=some Qg/\H.aO py Qg [.slice fP.a fP.n fP.c] K) amt (aoG (some x.1) (dk x.2.1) (dr x.2.1)) (by decide) rfl (by simp[cT]) aa (by have:=aa.qs.len;omega) (by have:=aa.qs.len;omega) λaq u' bP hW he hblk _=>⟨_,rfl,?_⟩
 exact ad
 have ft:=he _ _ ae al
 have lj:aq.aj≠some n:=λe=>by rcases hblk n e with h|h;exact al h;rw[ae] at h;cases h
 refine⟨_,_,ft,rfl,by simp,by simp[cT],au _ ⟨⟨aq,H.bh _ _ _,⟨?_,?_,bP.fresh⟩,lj⟩,h.out,by simp;omega⟩⟩
 rw[aqp] at bP
 exact bP.own.le λb z ab b9=>by rw[H.bq _ _ (λe=>lj (by rw[ab,e]))];exact b9
 intro b z ab
 rw[H.bq _ _ (λe=>by rw[e,h.out] at ab;cases ab)]
 exact bP.le b z ab
def axZ{l:M kS}{K:ap->H->Prop}(h:Aq ai n u l)(ar:0<l.length)(au:∀u',Aq ai n u' l.dropLast->K (wD (l.getD (l.length-1) default)) u'):
  mX aH (HU n) "Pop" #[] [.one .val] u K:=by
 obtain⟨s,ae,aa,al⟩:=h.ex
 obtain⟨i,m,h1,h2,h3,a7⟩:=BK axQ
 obtain⟨dT,dA⟩:=AO
 refine⟨_,_,_,_,rfl,λw _=>by rw[dA];exact Lw h1 h2 h3 a7 aeb,hh axV,?_⟩
 refine aG.XO (some (cB n 0 none)) u K ?_
 have dw:=aa.qs.len
 have I:u.cell? (cB n 0 none)=some (.slice s.a s.n s.c):=H.ba ae 0
 have fB:=h.small
 obtain⟨p,ad,x,J,bJ,c1,c2⟩:=aa.qs.at (x:=(s.n:o)-1) (by omega) (by omega)
 have eR:l.getD (l.length-1) default=x:=by rw[show((s.n:o)-1).toNat=l.length-1 by omega] at J;rw[du,J];rfl
 intro my o1
 refine⟨_,rfl,_,rfl,s,I,s,I,⟨by omega,by omega⟩,p,ad,⟨by omega,by omega⟩,_,bJ,_,c1,_,c2,λm hm=>⟨H.b1 _ hm,?_⟩⟩
 have rk:m≠n:=λe=>by rw[e,ae] at hm;cases hm
 refine⟨_,_,H.bh _ _ _,rfl,by simp,by simp[cT],o1 _ _ ⟨_,rfl,_,rfl,s,?_,s,?_,⟨by omega,by omega⟩,?_⟩⟩
 simp only[H.cell?,H.bq _ _ (dz rk)];simpa[H.cell?] using I
 simp only[H.cell?,H.bq _ _ (dz rk)];simpa[H.cell?] using I
 have ir:s.n<=s.c:=(br.cap aa.own.cE)
 obtain⟨Z,A0,o5⟩:=aa.front (m:=s.n-1) (by omega)
 refine oM (P:=aH) amt (l:=0) (h:=s.n-1) (m:=s.c) (.inl ⟨rfl,rfl⟩) (.inr ?_) (.inl ⟨rfl,rfl⟩) (by omega) (by omega) (cA _) ir ⟨_,rfl,?_⟩
 rw[show((s.n:o)-1)=((s.n-1:N):o) by omega]
 refine⟨_,_,by simp only[];rw[H.bq _ _ (dz rk),H.bq _ _ (dz rk)];exact ae,rfl,by simp,by simp[cT],?_⟩
 have cH:∀(j:N) v,([.pointer (some x.1),.int .u64 (dk x.2.1),.int .u64 (dr x.2.1)]:M ap)[j]?=some v->H.cell? ((((u.ins m (.cells #[.pointer none,.int .u64 0,.int .u64 0] 334 (0,0))).ins m (.cells (wr #[.pointer none,.int .u64 0,.int .u64 0] 0 [.pointer (some x.1),.int .u64 (dk x.2.1),.int .u64 (dr x.2.1)]) 334 (0,0))).ins n
   (.cells (wr #[.slice s.a s.n s.c] 0 [.slice (s.part 0 (s.n-1) s.c 3).a (s.part 0 (s.n-1) s.c 3).n (s.part 0 (s.n-1) s.c 3).c]) 331 (0,0)))) ((cB m 0 none).add j)=some v:=by
  intro j v aP
  simp only[H.cell?,jh,k5,H.bq _ _ rk,H.bh]
  rcases j with _|_|_|j
  simpa[wr] using aP
  simpa[wr] using aP
  simpa[wr] using aP
  simp at aP
 have d0:=cH 0 _ rfl
 have d1:=cH 1 _ rfl
 have d2:=cH 2 _ rfl
 rw[Addr.add_zero'] at d0
 refine⟨_,d0,_,d1,_,d2,?_⟩
 have e:wD x=wD (l.getD (l.length-1) default):=by rw[eR]
 show K (wD x) _
 rw[e]
 have DM:(l.flatMap q8).take ((s.n-1)*3)=l.dropLast.flatMap q8:=by rw[yW MD,dw,List.dropLast_eq_take]
 rw[DM] at Z
 have fc:(s.part 0 (s.n-1) s.c 3).aj≠some n:=by rw[A0];exact al
 refine au _ ⟨⟨_,H.bh _ _ _,⟨?_,?_,Z.fresh⟩,fc⟩,h.out,by simp;omega⟩
 refine Z.own.le λb z ab b9=>?_
 rw[H.bq _ _ (λe=>fc (by rw[ab,e])),H.bq _ _ (λe=>by rw[e,hm] at b9;cases b9),H.bq _ _ (λe=>by rw[e,hm] at b9;cases b9)]
 exact b9
 intro b z ab
 have ui:=Z.le b z ab
 rw[H.bq _ _ (λe=>by rw[e,h.out] at ab;cases ab),H.bq _ _ (λe=>by rw[e,hm] at ui;cases ui),H.bq _ _ (λe=>by rw[e,hm] at ui;cases ui)]
 exact ui
def dy(k:N):o:=((2 ^ k:N):o)
def acr(k:N):1<=dy k:=Int.natCast_pos.2 (Nat.pow_pos (by decide))
def Up(k:N):dy (k+1)=2*dy k:=by show((2 ^ (k+1):N):o)=2*((2 ^ k:N):o);rw[Nat.pow_succ,HN];exact Int.mul_comm _ _
def axh{k:N}(h:k<=63):dy k<=9223372036854775808:=by
 have h1:(2 ^ k:N)<=2 ^ 63:=Nat.pow_le_pow_right (by decide) h;have h2:dy k<=((2 ^ 63:N):o):=Int.ofNat_le.2 h1;have h3:((2 ^ 63:N):o)=9223372036854775808:=by decide
 omega
def spec.Cz{a b:o}{K:o->H->Prop}(aE:dh a)(ab:dh b)(h:K (rt (fl a b)) u):C.Cz a b u K:=by
 apply aG.Cz;have oD:0<=fl a b:=by unfold fl;obtain⟨_,_⟩:=aE;obtain⟨_,_⟩:=ab;omega
 have ajk:fl a b<340282366920938463463374607431768211456:=by unfold fl;obtain⟨_,_⟩:=aE;obtain⟨_,_⟩:=ab;omega
 refine⟨λr x v=>v=u/\∃(k:N) (c:o),k<=63/\x=dy k/\0<=c/\r=c*dy (k+1)/\r+dy (k+1)<=18446744073709551616/\r*r<=fl a b/\fl a b<(r+dy (k+1))*(r+dy (k+1)),λ_ x _=>x.toNat,
  ⟨rfl,63,0,by omega,by decide,by omega,by simp,by decide,by simpa using oD,?_⟩,?_⟩
 have e:dy (63+1)=18446744073709551616:=by decide
 rw[e];omega;rintro r x v ⟨rfl,k,c,hk,rfl,I,O,aBW,h1,h2⟩;have ad:=acr k;have kx:=Up k;have lk:=axh hk;have ll:0<=r:=by rw[O];exact zS I (by omega)
 have auj:bits .or .u64 r (dy k)=r+dy k:=by
  have aB:(2:o) ^ (k+1)=dy (k+1):=by simp[dy]
  have afL:(2:o) ^ 64=18446744073709551616:=by decide
  refine bits_join .u64 64 (by decide) (λn h0 h1=>wraps_u64 n h0 h1) (k+1) r (dy k) ll ?_ (by rw[afL];omega) (by omega) (by rw[aB];omega) (by rw[afL];omega);rw[aB,O];exact Int.mul_emod_left _ _
 rw[auj];have ai5:dh (r+dy k):=⟨by omega,by omega⟩;refine spec.tJ ai5 ai5 λx y J ah hv=>⟨H.le.refl _,spec.mr ah ab ?_⟩;rw[hv];have Dm:k≠0->ew (dy k) (2 ^ 1)=dy (k-1):=λrj=>by obtain⟨m,rfl⟩:∃m,k=m+1:=⟨k-1,by omega⟩;rw[Up,acP _ (by decide)];simp
 have JO:dy k=1->k=0:=λe=>by by_cases rj:k=0;exact rj;exfalso;obtain⟨m,rfl⟩:∃m,k=m+1:=⟨k-1,by omega⟩;rw[Up] at e;have:=acr m;omega
 have e7:dy 0=1:=by decide
 have step:∀(df:o),0<=df->df*df<=fl a b->fl a b<(df+dy k)*(df+dy k)->(∃ni,0<=ni/\df=ni*dy k)->df+dy k<=18446744073709551616->
   ((dy k=1)->K df v)/\((¬(dy k=1))->((0:o)<=1)/\((v=v/\∃(dT:N) (c:o),dT<=63/\ew (dy k) (2 ^ 1)=dy dT/\0<=c/\df=c*dy (dT+1)/\df+dy (dT+1)<=18446744073709551616/\df*df<=fl a b/\fl a b<(df+dy (dT+1))*(df+dy (dT+1)))/\((ew (dy k) (2 ^ 1)).toNat<(dy k).toNat))):=by
  intro df mS l2 p8 ⟨ni,c9,pb⟩ yi
  refine⟨λe=>?_,λal=>?_⟩
  rw[e] at p8
  rw[rt_eq mS l2 p8]
  exact h
  have rj:k≠0:=λe=>al (by rw[e];exact e7)
  have A3:k-1+1=k:=by omega
  have rp:=acr (k-1)
  have xL:=Up (k-1)
  rw[A3] at xL
  refine⟨by decide,⟨rfl,k-1,ni,by omega,Dm rj,c9,by rw[A3];exact pb,by rw[A3];exact yi,l2,by rw[A3];exact p8⟩,?_⟩
  rw[Dm rj]
  omega
 by_cases hle:(r+dy k)*(r+dy k)<=fl a b;have s:=step (r+dy k) (by omega) hle (by rw[show r+dy k+dy k=r+dy (k+1) by omega];exact h2) ⟨2*c+1,by omega,by rw[O,kx];grind⟩ (by omega);refine⟨λ_=>s,λJ=>aW ?_ J⟩;split;omega;rw[aF (by omega)];omega;have s:=step r ll h1 (by omega) ⟨2*c,by omega,by rw[O,kx];grind⟩ (by omega);refine⟨λJ=>aW J ?_,λ_=>s⟩;rw[aF (by omega),a1 (by omega)];omega
def IA{l:M o}{d:o}(aA:dj l)(ar:(l.length:o)=d)(aw:1<=d/\d<=64):gV l d=0:=by rw[<-ar];exact zG aA (by omega)
def spec.IB{d:o}{K:o->H->Prop}(h1:Ints u r.ls r.bH)(h2:Ints u r.ag r.hi)(O:oR r d)(ht:t.n=0)(h:K 0 u):C.IB r.aD r.ls r.ag (dk r.cG) (dr r.cG) t d u K:=by
 refine io.forget (ss:=[.one (.int .i64)]) ?_;have b4:=h1.len;have eb:=h2.len;have aw:=O.an;have fin:∀{v:H},u.le v->u.le v/\K 0 u:=λaA=>⟨aA,h⟩;apply aG.IB;refine spec.yw ?_;rw[mm aw];refine⟨λJ=>aW rfl J,λ_=>⟨λ_ _ LU v=>v=u/\0<=LU,λ_ _ _ _=>0,⟨rfl,by omega⟩,λoi tK LU v aA=>?_⟩⟩;obtain⟨rfl,aCc⟩:=aA;refine⟨λJ=>aW J (by omega),λ_=>?_⟩;intro aAR MY Wz FA;rcases O.shape with⟨e,aS,aB,cW⟩|⟨e,e7,v1,v2,e3,gg,hle⟩|⟨e,aB,v1,e3,DF⟩;have jk:r.bH.length=0:=by rw[aS];rfl
 have z2:r.hi.length=0:=by rw[aB];rfl
 refine⟨λ_=>⟨⟨by omega,by omega⟩,λ_=>FA _ _ ⟨λ_=>fin (H.le.refl _),λZ=>aW ⟨by rw[cW];rfl,by rw[cW];rfl⟩ (P9 Z)⟩,λae=>aW (by rw[b4,eb,aS,aB];rfl) ae⟩,λae=>aW e ae⟩;refine⟨λJ=>aW J (by omega),λ_=>FA _ _ ⟨λJ=>(by cases J),λ_=>?_⟩⟩;intro anx X3;refine⟨λJ=>aW J (by omega),λ_=>X3 _ _ ⟨λJ=>(by cases J),λ_=>⟨λJ=>aW e J,λ_=>⟨λJ=>aW ⟨by rw[e7];rfl,by rw[e7];rfl⟩ J,λ_=>MY _ _ ?_⟩⟩⟩⟩;refine mo (afg _ _) λg W=>?_;generalize lm:v.ins g _=u';have NT:v.le u':=by subst lm;exact H.b1 _ W
 have c:∀j w,(#[ec r.ls.a r.ls.n r.ls.c,ec r.ag.a r.ag.n r.ag.c]:cw ap)[j]?=some w->u'.cell? ⟨g,j,none⟩=some w:=by intro j w hw;subst lm;exact(H.ba (H.bh _ _ _) j).trans hw
 clear lm W;refine⟨λ_ i w=>w=u'/\0<=i/\i<=2,λ_ i _=>(2-i).toNat,⟨rfl,by omega,by omega⟩,?_⟩;rintro _ i w ⟨rfl,i0,i1⟩;refine⟨λhi=>⟨_,rfl,⟨i0,hi⟩,?_⟩,λhi=>?_⟩;have hi:i<2:=hi;have I:i=0∨i=1:=by omega
 rcases I with rfl|rfl;refine⟨r.ls,c 0 _ rfl,spec.iA (h1.mono NT) ⟨λal=>aW (IA v1 e3 aw) al,λ_=>⟨⟨by omega,by omega⟩,⟨rfl,by omega,by omega⟩,by dsimp only;omega⟩⟩⟩;refine⟨r.ag,c 1 _ rfl,spec.iA (h2.mono NT) ⟨λal=>aW (IA v2 gg aw) al,λ_=>⟨⟨by omega,by omega⟩,⟨rfl,by omega,by omega⟩,by dsimp only;omega⟩⟩⟩;refine⟨λ_ i w'=>w'=w/\0<=i,λ_ i _=>((r.ls.n:o)-i).toNat,⟨rfl,by omega⟩,?_⟩;rintro _ i w' ⟨rfl,i0⟩;refine⟨λhi=>?_,λ_=>⟨NT,h⟩⟩;obtain⟨gX,gq,c1⟩:=(h1.mono NT).at i0 hi;obtain⟨dy,eY,c2⟩:=(h2.mono NT).at i0 (show i<(r.ag.n:o) by omega);have:=hle i.toNat (by omega);exact⟨gX,gq,⟨i0,hi⟩,_,c1,dy,eY,⟨i0,by omega⟩,_,c2,λJ=>by omega,λ_=>⟨⟨by omega,by omega⟩,⟨rfl,by omega⟩,by dsimp only;omega⟩⟩;refine⟨λJ=>aW J (by omega),λ_=>FA _ _ ⟨λJ=>(by cases J),λ_=>?_⟩⟩;intro anx X3;refine⟨λ_=>X3 _ _ ⟨λ_=>spec.iA h1 ?_,λZ=>?_⟩,λJ=>aW e J⟩;rw[IA v1 e3 aw];exact fin (H.le.refl _);exact aW (by rw[eb,aB];rfl) (P9 Z)
def spec.IC{K:o->H->Prop}(h1:Ints u r.ls r.bH)(h2:Ints u r.ag r.hi)(O:oR r q.length)(ht:t.n=0)(ag:Ints u s q)(aN:dj q)(h:K 0 u):C.IC r.aD r.ls r.ag (dk r.cG) (dr r.cG) t s u K:=by have ae:=ag.len;apply aG.IC;rw[ae];refine spec.IB h1 h2 O ht ⟨λJ=>aW rfl J,λ_=>spec.iA ag ?_⟩;rw[IA aN rfl O.an];exact h
def spec.vi{K:o->o->o->H->Prop}(h1:Ints u r.ls r.bH)(h2:Ints u r.ag r.hi)(O:oR r q.length)(ht:t.n=0)(ag:Ints u s q)(aN:dj q)
  (h:K (dk (ph r q)) (dr (ph r q)) 0 u):C.vi r.aD r.ls r.ag (dk r.cG) (dr r.cG) t s u K:=by
 have b4:=h1.len
 have eb:=h2.len
 have aCl:=ag.len
 have aw:=O.an
 have Y:dh 0:=⟨by omega,by omega⟩
 unfold ph at h
 apply aG.vi
 refine spec.IC h1 h2 O ht ag aN ⟨λJ=>aW rfl J,λ_=>?_⟩
 intro pA qu
 rcases O.shape with⟨e,_⟩|⟨e,_,v1,v2,e3,gg,hle⟩|⟨e,aB,v1,e3,DF⟩
 rw[aF (by omega),aF (by omega)] at h
 exact⟨λh=>by omega,λ_=>⟨λh=>by omega,λ_=>qu _ _ _ h⟩⟩
 rw[a1 e] at h
 refine⟨λ_=>?_,λal=>aW e al⟩
 refine⟨λi x y w=>w=u/\0<=i/\i<=s.n/\dh x/\dh y/\fl x y=vr r.bH r.hi q i.toNat,λi _ _ _=>((s.n:o)-i).toNat,⟨rfl,by omega,by omega,Y,Y,rfl⟩,?_⟩
 rintro i x y w ⟨rfl,i0,i1,J,ah,hw⟩
 refine⟨λhi=>?_,λhi=>?_⟩
 obtain⟨p,ad,bJ⟩:=ag.at i0 hi
 obtain⟨gX,gq,c1⟩:=h1.at i0 (show i<(r.ls.n:o) by omega)
 obtain⟨dy,eY,c2⟩:=h2.at i0 (show i<(r.ag.n:o) by omega)
 have jG:=aN.2 i.toNat (by omega)
 have b3:=v1.2 i.toNat (by omega)
 have cu:=v2.2 i.toNat (by omega)
 have ab:=ae9 v1 v2 aN (by omega) (by omega) i.toNat (by omega)
 have Sl:=aN.1
 have zc:=hle i.toNat (by omega)
 have Mz:vr r.bH r.hi q (i+1).toNat=vr r.bH r.hi q i.toNat+(if q.getD i.toNat 0<r.bH.getD i.toNat 0 then tE (r.bH.getD i.toNat 0) (q.getD i.toNat 0) else 0)+(if r.hi.getD i.toNat 0<q.getD i.toNat 0 then tE (q.getD i.toNat 0) (r.hi.getD i.toNat 0) else 0):=by rw[show(i+1).toNat=i.toNat+1 by omega];rfl
 have sW:vr r.bH r.hi q i.toNat<=64*36893488113059364872:=by have:=Int.mul_le_mul_of_nonneg_right (show(i.toNat:o)<=64 by omega) (show(0:o)<=36893488113059364872 by omega);omega
 refine⟨p,ad,⟨i0,hi⟩,_,bJ,gX,gq,⟨i0,by omega⟩,_,c1,dy,eY,⟨i0,by omega⟩,_,c2,?_⟩
 generalize q.getD i.toNat 0=a at*
 generalize r.bH.getD i.toNat 0=b at*
 generalize r.hi.getD i.toNat 0=c at*
 have ase:nj (if c<(if b>a then b else a) then c else(if b>a then b else a)):=by unfold nj at*;split<;>split<;>omega
 refine spec.Cu J ah jG ase (by omega) λnH mW fT j9 k2=>⟨⟨by omega,by omega⟩,⟨rfl,by omega,by omega,fT,j9,?_⟩,by dsimp only;omega⟩
 rw[k2,hw,Mz]
 unfold tE
 by_cases g1:b>a
 rw[a1 g1,a1 (show a<b from g1),aF (show¬c<b by omega),aF (show¬c<a by omega)]
 have:(a-b)*(a-b)=(b-a)*(b-a):=by grind
 omega
 rw[aF g1,aF (show¬a<b by omega)]
 by_cases g2:c<a
 rw[a1 g2,a1 g2];omega
 rw[aF g2,aF g2]
 have:(a-a)*(a-a)=0:=by simp
 omega
 have:i.toNat=q.length:=by omega
 rw[this] at hw
 obtain⟨g1,g2⟩:=CC J ah
 rw[hw] at g1 g2
 rw[g1,g2]
 exact qu _ _ _ h
 rw[aF (by omega),a1 e] at h
 refine⟨λh=>by omega,λ_=>⟨λ_=>?_,λal=>aW e al⟩⟩
 refine spec.yx h1 ag v1 aN (by omega) λx y J ah hw=>⟨H.le.refl _,?_⟩
 have ahw:=QM v1 aN (show r.bH.length=q.length by omega)
 refine spec.Cz J ah ⟨H.le.refl _,spec.Cz (Zj DF) (BG _) ?_⟩
 rw[q0,hw]
 have s0:=El ahw.1
 have s1:=adj ahw
 have t0:=El DF.1
 have t1:=adj DF
 unfold IV at h
 generalize vV:rt (fE r.bH q r.bH.length)=S at*
 generalize aB8:rt r.cG=jZ at*
 intro EN Jk
 have fin:∀Y:o,0<=Y->Y<18446744073709551616->K (dk (Y*Y)) (dr (Y*Y)) 0 u->C.tJ Y Y u λ(aAF:o) (aAG:o) (V2:H)=>pA aAF aAG V2:=λY z0 jk aC=>spec.tJ ⟨z0,jk⟩ ⟨z0,jk⟩ λx y J ah hv=>by obtain⟨g1,g2⟩:=CC J ah;rw[hv] at g1 g2;rw[g1,g2];exact qu _ _ _ aC
 have go:∀T:o,0<=T->(K (dk (if T<S then(S-T)*(S-T) else 0)) (dr (if T<S then(S-T)*(S-T) else 0)) 0 u)->EN T u:=λT aT Sv=>by refine Jk _ _ ⟨λbD=>?_,λgG=>?_⟩;rw[a1 bD] at Sv;have aS:cz .u64 (S-T)=S-T:=UM _ (by omega);rw[aS];exact fin _ (by omega) (by omega) Sv;rw[aF gG] at Sv;exact qu _ _ _ Sv
 refine⟨λbD=>?_,λgG=>⟨H.le.refl _,?_⟩⟩
 refine spec.tJ ⟨t0.1,by omega⟩ ⟨t0.1,by omega⟩ λnH mW fT j9 hv=>⟨H.le.refl _,?_⟩
 obtain⟨g1,g2⟩:=CC fT j9
 rw[hv] at g1 g2
 refine⟨λal=>?_,λhe=>?_⟩
 have lj:¬jZ*jZ=r.cG:=λI6=>al (by rw[g1,g2,I6];exact⟨rfl,rfl⟩)
 rw[aF lj] at h
 have aS:cz .u64 (jZ+1)=jZ+1:=UM _ (by omega)
 rw[aS]
 exact go _ (by omega) h
 have gf:jZ*jZ=r.cG:=atr (by rw[<-g1];exact he.1) (by rw[<-g2];exact he.2)
 rw[a1 gf] at h
 exact go _ t0.1 h
 refine go _ t0.1 ?_
 rw[aF gG]
 rw[aF (by split<;>omega)] at h
 exact h
def H.le.cell(h:v.le u){a:bc}{x:ap}(I:v.cell? a=some x):u.cell? a=some x:=by unfold H.cell? at I ⊢;split at I;rename_i c t f J;rw[h _ _ J];exact I;cases I
section
variable {α β:Type} [lN α] [lN β] {lt:α->α->aK} {v8:β->β->aK} {f:α->β}
def getD_map'(aw:f default=default)(l:M α)(i:N):(l.map f).getD i default=f (l.getD i default):=by
 rw[du,du,iR];cases l[i]? with
 |none=>exact aw.symm|some x=>rfl
omit [lN α] [lN β] in
def adQ(l:M α)(i j:N):(jO l i j).map f=jO (l.map f) i j:=by unfold jO;rw[iR,iR];cases l[i]?<;>cases l[j]?<;>simp[HO]
def aAf(aw:f default=default)(ar:∀a b,v8 (f a) (f b)=lt a b):∀(j:N) (l:M α),(rS lt l j).map f=rS v8 (l.map f) j:=by
 intro j;induction j using D9 with
 |ind j aM=>intro l;unfold rS;by_cases h:j=0;rw[B3 h,B3 h];rw[yh h,yh h,getD_map' aw,getD_map' aw,ar];split;rw[aM (dm j) (by unfold dm;omega),adQ];rfl
def avZ(aw:f default=default)(ar:∀a b,v8 (f a) (f b)=lt a b)(n:N)(l:M α)(i:N):oF v8 n (l.map f) i=oF lt n l i:=by unfold oF;rw[getD_map' aw,getD_map' aw,ar]
def apt(aw:f default=default)(ar:∀a b,v8 (f a) (f b)=lt a b)(n:N):∀(m:N) (i:N) (l:M α),n-i<=m->(l9 lt n l i).map f=l9 v8 n (l.map f) i:=by
 intro m;induction m with
 |zero=>intro i l h;unfold l9;rw[yh (by omega),yh (by omega)]
 |succ m aM=>intro i l h;unfold l9;by_cases I:2*i+1<n;rw[B3 I,B3 I,avZ aw ar,getD_map' aw,getD_map' aw,ar];split;obtain⟨_,_,_,hk⟩:=abD (lt:=lt) (l:=l) I;rw[aM _ _ (by omega),adQ];rfl;rw[yh I,yh I]
def axF(aw:f default=default)(ar:∀a b,v8 (f a) (f b)=lt a b)(l:M α)(y:α):(zI lt l y).map f=zI v8 (l.map f) (f y):=by unfold zI;rw[aAf aw ar,ek,de];rfl
def axy(aw:f default=default)(ar:∀a b,v8 (f a) (f b)=lt a b)(l:M α):(ka lt l).map f=ka v8 (l.map f):=by unfold ka;rw[List.map_dropLast,apt aw ar _ _ _ _ (cA _),adQ,de]
end
inductive nc(u:H):N->bF->Prop where
 |mk {n:N} {p:bF} (ls ag is rs ks:U) (rows:M az) (c7:M N)
   (cell:u n=some (.cells #[.int .i64 p.aD,.slice ls.a ls.n ls.c,.slice ag.a ag.n ag.c,.int .u64 (dk p.cG),.int .u64 (dr p.cG),.slice is.a is.n is.c,.slice rs.a rs.n rs.c,.slice ks.a ks.n ks.c] 213 (0,0)))
   (BB:is.n=0) (bH:Ints u ls p.bH) (hi:Ints u ag p.hi) (at':en u rs rows) (bz:rows.map az.bz=p.rows)
   (kids:br u ks 1 (c7.map λn=>.pointer (some ⟨n,0,none⟩))) (len:c7.length=p.kids.length) (each:∀(i:N) m k,c7[i]?=some m->p.kids[i]?=some k->nc u m k):nc u n p
def nc.mono{u':H}(h:nc u n p)(hu:u.le u'):nc u' n p:=by
 induction h with
 |mk ls ag is rs ks rows c7 cell BB bH hi at' bz kids len each aM=>exact .mk ls ag is rs ks rows c7 (hu _ _ cell) BB (bH.mono hu) (hi.mono hu) (at'.mono hu) bz (kids.mono hu) len aM
structure sC(v u:H)(n:N)(l:M lR):Prop where
 ex:∃L:M kS,Aq v n u L/\L.map (·.2)=l/\∀e∈L,∃m,e.1=⟨m,0,none⟩/\nc v m e.2.2
def spec.axH{m:N}{l:M lR}{b:o}(h:sC v u n l)(ar:l.length<10000000)(ad:nc v m p)(au:∀u',sC v u' n (zI blt l (b,p))->K u'):
  C.r7 (HU n) (wD ((⟨m,0,none⟩:bc),(b,p))) u K:=by
 obtain⟨L,fb,cX,dX⟩:=h.ex
 have hlen:L.length=l.length:=by rw[<-cX,de]
 refine spec.asz (akR v n) (y:=((⟨m,0,none⟩:bc),((b,p):lR))) (λhk=>ax0 fb (by omega) hk) λu' ag=>au u' ⟨zI x6 L ((⟨m,0,none⟩:bc),((b,p):lR)),ag,?_,λe he=>?_⟩
 have e:=axF (α:=kS) (β:=lR) (lt:=x6) (v8:=blt) (f:=λe:kS=>e.2) rfl (λ_ _=>rfl) L ((⟨m,0,none⟩:bc),((b,p):lR))
 rw[cX] at e
 exact e
 have h5:=amR (lt:=x6) L.length (L++ [((⟨m,0,none⟩:bc),((b,p):lR))]) (by simp)
 rcases cN.1 (h5.mem_iff.1 he) with h1|h1
 exact dX e h1
 have:=fV.1 h1
 subst this
 exact⟨m,rfl,ad⟩
def spec.Fu{m n0:N}{l:M lR}(h:sC v u n l)(aA:v.le u)(ar:l.length<10000000)(ad:nc v m p)(bE:oR (p.hA []) q.length)(aN:dj q)
  (eX:u.cell? ⟨n0,0,none⟩=some (.slice s.a s.n s.c)) (ag:Ints u s q) (au:∀u',sC v u' n (pD q l p)->K u'):C.Fu (some ⟨m,0,none⟩) ⟨n0,0,none⟩ ⟨n,0,none⟩ u K:=by
 cases ad with
 |mk ls gr is rs ks rows c7 cell BB bH hi at' bz kids len each=>
 have I:=aA _ _ cell
 have Kd:oR (⟨p.aD,ls,gr,p.cG,is,p.bH,p.hi,[]⟩:cn) q.length:=⟨bE.an,bE.ids,bE.id,bE.shape⟩
 apply aG.Fu
 have push:C.r7 (HU n) (wD ((⟨m,0,none⟩:bc),(ph (p.hA []) q,p))) u K:=spec.axH h ar (.mk ls gr is rs ks rows c7 cell BB bH hi at' bz kids len each) λu' lm=>au u' lm
 have Oa:ph (⟨p.aD,ls,gr,p.cG,is,p.bH,p.hi,[]⟩:cn) q=ph (p.hA []) q:=rfl
 refine⟨_,rfl,_,H.ba I 0,ls,H.ba I 1,gr,H.ba I 2,_,H.ba I 3,_,H.ba I 4,is,H.ba I 5,s,eX,?_,H.le.refl u,?_⟩
 exact spec.vi (r:=⟨p.aD,ls,gr,p.cG,is,p.bH,p.hi,[]⟩) (bH.mono aA) (hi.mono aA) Kd BB ag aN ⟨H.le.refl u,push⟩
 exact spec.vi (r:=⟨p.aD,ls,gr,p.cG,is,p.bH,p.hi,[]⟩) (bH.mono aA) (hi.mono aA) Kd BB ag aN push
end
section
variable{u u' ai:H}{b c:N}{D:N->Prop}{s:U}
def CG:H:=λ_=>none
def anp(u:H):CG.le u:=λ_ _ h=>by cases h
def Own.f{e k:N}{xs:M ap}(h:Own u e k s xs):aJ CG u e k s xs:=⟨h,anp u,λ_ _=>rfl⟩
def H.nC(u:H)(s:U):H:=λc=>open Classical in if s.aj=some c then none else u c
def nD(h:s.aj≠some c):H.nC u s c=u c:=aF h
def Eo(u:H)(s:U):(H.nC u s).le u:=λc z h=>by unfold H.nC at h;split at h;cases h;exact h
def LA{z:Obj}(h:H.nC u s c=some z):u c=some z/\s.aj≠some c:=by unfold H.nC at h;split at h;cases h;rename_i e;exact⟨h,e⟩
section
variable {bp aQ:Type}
structure yD(A:(N->ay bp)->H->N->aQ->Prop):Prop where
 bN:∀{af aX:N->ay bp} {u u':H} {b:N} {T:aQ},A af u b T->(∀c,af c≠none->aX c=af c)->(∀c z,u c=some z->af c≠none->u' c=some z)->A aX u' b T
structure mx(A:(N->ay bp)->H->N->aQ->Prop)(ai u:H)(af:N->ay bp)(b:N)(T:aQ):Prop where
 aI:A af u b T
 le:ai.le u
 out:∀c,af c≠none->ai c=none
 known:∀c,af c≠none->u c≠none
structure hN(u:H)(af:N->ay bp)(u':H)(aX:N->ay bp):Prop where
 bN:∀c z,u c=some z->af c=none->u' c=some z
 grow:∀c,aX c≠none->af c≠none∨u c=none
variable {A:(N->ay bp)->H->N->aQ->Prop}
omit A in
def hN.mono{af:N->ay bp}(h:u.le u'):hN u af u' af:=⟨λc z I _=>h c z I,λ_ h=>.inl h⟩
omit A in
def hN.off{af aX:N->ay bp}(h:hN u af u' aX){z:Obj}(I:u c=some z)(Z:af c=none):aX c=none:=by
 cases e:aX c with
 |none=>rfl|some t=>rcases h.grow c (by rw[e];simp) with h1|h1;exact aW Z h1;rw[I] at h1;cases h1
omit A in
def hN.trans{aU dc:H}{af c5 ib:N->ay bp}(h:hN u af aU c5)(k:hN aU c5 dc ib):hN u af dc ib where
 bN c z I Z:=k.bN c z (h.bN c z I Z) (h.off I Z)
 grow c I:=by
  rcases k.grow c I with h1|h1;exact h.grow c h1;cases e:af c with
  |some x=>exact .inl (by simp)|none=>
   cases aB:u c with
   |none=>exact .inr rfl|some z=>rw[h.bN c z aB e] at h1;cases h1
omit A in
def hN.tag{af aX ib:N->ay bp}(h:hN u af u' aX)(k:∀c,ib c=aX c∨af c≠none∨u c=none):hN u af u' ib where
 bN:=h.bN
 grow c I:=by rcases k c with h1|h1;rw[h1] at I;exact h.grow c I;exact h1
def mx.same(hk:yD A){af:N->ay bp}{T:aQ}(h:mx A ai u af b T)(hu:∀c z,u c=some z->af c≠none->u' c=some z)(hle:ai.le u'):mx A ai u' af b T:=
 ⟨hk.bN h.aI (λ_ _=>rfl) hu,hle,h.out,λc I=>by obtain⟨z,aa⟩:=e9.1 (h.known c I);rw[hu c z aa I];simp⟩
def mx.mono(hk:yD A){af:N->ay bp}{T:aQ}(h:mx A ai u af b T)(hu:u.le u'):mx A ai u' af b T:=h.same hk (λc z I _=>hu c z I) (h.le.trans hu)
def mx.fresh{af:N->ay bp}{T:aQ}(h:mx A ai u af b T)(I:u c=none):af c=none:=by
 cases e:af c with
 |none=>rfl|some t=>exact aW I (h.known c (by rw[e];simp))
def mx.tag(hk:yD A){af:N->ay bp}{T:aQ}(h:mx A ai u af b T)(S:N->ay bp)(ag:∀c,S c≠none->af c=none/\ai c=none/\u c≠none):
  ∃aX,mx A ai u aX b T/\(∀c t,S c=some t->aX c=some t)/\(∀c,S c=none->aX c=af c):=by
 let aX:N->ay bp:=λc=>match S c with|some t=>some t|none=>af c
 have aS:∀c t,S c=some t->aX c=some t:=λc t I=>by simp only[aX,I]
 have aB:∀c,S c=none->aX c=af c:=λc I=>by simp only[aX,I]
 have cW:∀c,af c≠none->aX c=af c:=λc I=>by
  cases e:S c with
  |none=>exact aB c e|some t=>exact aW (ag c (by rw[e];simp)).1 I
 refine⟨aX,⟨hk.bN h.aI cW λ_ _ aa _=>aa,h.le,λc I=>?_,λc I=>?_⟩,aS,aB⟩
 cases e:S c with
 |none=>rw[aB c e] at I;exact h.out c I
 |some t=>exact(ag c (by rw[e];simp)).2.1
 cases e:S c with
 |none=>rw[aB c e] at I;exact h.known c I
 |some t=>exact(ag c (by rw[e];simp)).2.2
def U.wN(s:U)(t:bp):N->ay bp:=λc=>if s.aj=some c then some t else none
omit A in
def U.azI{t:bp}(h:s.aj=some c):s.wN t c=some t:=a1 h
omit A in
def U.amv{t:bp}(h:s.aj≠some c):s.wN t c=none:=aF h
omit A in
def U.azJ{t:bp}(h:s.wN t c≠none):s.aj=some c:=by by_cases e:s.aj=some c;exact e;exact aW (U.amv e) h
structure e1(A:(N->ay bp)->H->N->aQ->Prop)(Ok:aQ->Prop)(ai u:H)(D:N->Prop)(b:N)(X:aQ):Prop where
 ex:∃af,(∀c,D c↔af c≠none)/\mx A ai u af b X/\Ok X
end
structure gD(u:H)(D:N->Prop)(u':H)(dZ:N->Prop):Prop where
 bN:∀c z,u c=some z->¬D c->u' c=some z
 grow:∀c,dZ c->D c∨u c=none
def gD.mono(h:u.le u'):gD u D u' D:=⟨λc z I _=>h c z I,λ_ h=>.inl h⟩
def gD.trans{aU dc:H}{qj jl:N->Prop}(h:gD u D aU qj)(k:gD aU qj dc jl):gD u D dc jl where
 bN c z I Z:=k.bN c z (h.bN c z I Z) λaw=>by rcases h.grow c aw with h1|h1;exact Z h1;rw[I] at h1;cases h1
 grow c I:=by
  rcases k.grow c I with h1|h1;exact h.grow c h1;by_cases e:D c;exact .inl e;right;cases aB:u c with
  |none=>rfl|some z=>rw[h.bN c z aB e] at h1;cases h1
def gD.apart{v:H}{dZ:N->Prop}(h:gD u D u' dZ)(aA:v.le u)(aw:∀c,D c->v c=none):v.le u'/\∀c,dZ c->v c=none:=by refine⟨λc z I=>h.bN c z (aA c z I) λe=>?_,λc I=>?_⟩;have:=aw c e;rw[I] at this;cases this;rcases h.grow c I with h1|h1;exact aw c h1;exact aA.none h1
section
variable {bp aQ:Type} {A:(N->ay bp)->H->N->aQ->Prop} {Ok:aQ->Prop}
def tf{af:N->ay bp}{T:aQ}(h:mx A ai u af b T)(aT:Ok T):e1 A Ok ai u (λc=>af c≠none) b T:=⟨af,λ_=>BS,h,aT⟩
omit A Ok in
def Ae{af aX:N->ay bp}(eN:∀c,D c↔af c≠none)(h:hN u af u' aX):gD u D u' (λc=>aX c≠none) where
 bN c z I Z:=h.bN c z I (by
  cases e:af c with
  |none=>rfl|some t=>exact aW ((eN c).2 (by rw[e];simp)) Z)
 grow c I:=(h.grow c I).imp (eN c).2 λh=>h
def e1.base{X:aQ}(h:e1 A Ok ai u D b X):ai.le u/\(∀c,D c->ai c=none)/\∀c,D c->u c≠none:=by obtain⟨af,h1,h2,_⟩:=h.ex;exact⟨h2.le,λc I=>h2.out c ((h1 c).1 I),λc I=>h2.known c ((h1 c).1 I)⟩
def e1.same(hk:yD A){X:aQ}(h:e1 A Ok ai u D b X)(hu:∀c z,u c=some z->D c->u' c=some z)(hle:ai.le u'):e1 A Ok ai u' D b X:=by obtain⟨af,h1,h2,h3⟩:=h.ex;exact⟨af,h1,h2.same hk (λc z I Z=>hu c z I ((h1 c).2 Z)) hle,h3⟩
def e1.mono(hk:yD A){X:aQ}(h:e1 A Ok ai u D b X)(hu:u.le u'):e1 A Ok ai u' D b X:=h.same hk (λc z I _=>hu c z I) (h.base.1.trans hu)
def e1.l3{v:H}{X:aQ}(h:e1 A Ok ai u D b X)(aA:v.le ai):e1 A Ok v u D b X:=by
 obtain⟨af,h1,h2,h3⟩:=h.ex;exact⟨af,h1,⟨h2.aI,aA.trans h2.le,λc I=>by
  cases J:v c with
  |none=>rfl|some z=>have:=aA _ _ J;rw[h2.out c I] at this;exact(nomatch this),h2.known⟩,h3⟩
end
end
section
variable{u u':H}
structure er where
 b:N
 aD:o
 bi:U
 fp:U
 bH:M o
 hi:M o
 cG:o
 sr:U
 rows:M az
 db:U
def er.dv(h:er):M N:=h.b::(h.bi.aj.toList++h.fp.aj.toList++h.sr.aj.toList++h.db.aj.toList)
inductive av where
 |mk (h:er) (kids:M av)
namespace av
def h:av->er| .mk h _=>h
def kids:av->M av| .mk _ k=>k
def b(n:av):N:=n.h.b
mutual
def bA:av->bF
 | .mk h kids=>.mk h.aD h.bH h.hi h.cG (h.rows.map az.bz) (Uv kids)
def Uv:M av->M bF
 | []=>[]|n::kA=>n.bA::Uv kA
end
mutual
def bM:av->M (er×M N)
 | .mk h kids=>(h,kids.map av.b)::mH kids
def mH:M av->M (er×M N)
 | []=>[]|n::kA=>n.bM++mH kA
end
def akI:∀kA:M av,Uv kA=kA.map bA
 | []=>rfl|n::kA=>by rw[Uv,akI kA,gm]
def JH:∀kA:M av,mH kA=kA.flatMap bM
 | []=>rfl|n::kA=>by rw[mH,JH kA,gy]
def iu(n:av):n.bM=(n.h,n.kids.map b)::n.kids.flatMap bM:=by cases n;rw[bM,JH];rfl
def hx(n:av):n.bA=.mk n.h.aD n.h.bH n.h.hi n.h.cG (n.h.rows.map az.bz) (n.kids.map bA):=by cases n;rw[bA,akI];rfl
def SP(n:av):0<n.bM.length:=by rw[iu];simp
def ind{P:av->Prop}(h:∀n,(∀k∈n.kids,P k)->P n):∀n,P n:=by intro n;exact av.rec (motive_1:=P) (motive_2:=λkA=>∀k∈kA,P k) (λ_ _ aM=>h _ aM) (λk hk=>(by cases hk)) (λn kA h1 h2 k hk=>by rcases cJ.1 hk with rfl|hk;exact h1;exact h2 k hk) n
def tm(n:av):n.bA.all=n.bM.flatMap λx=>x.1.rows.map az.bz:=by
 induction n using ind with
 |h n aM=>rw[hx,iu,gy,bF.all];congr 1;rw[yJ,B6,List.flatMap_assoc];rw[Lp,Lp];exact ei List.flatten (zU λk hk=>aM k hk)
def KU(n:av):n.bA.size=n.bM.length:=by
 induction n using ind with
 |h n aM=>
  rw[hx,iu,hX,bF.size,Nat.add_comm];congr 1;obtain⟨ks,o7⟩:∃ks,ks=n.kids:=⟨_,rfl⟩;rw[<-o7] at aM ⊢;clear o7;induction ks with
  |nil=>rfl|cons k ks GP=>rw[gm,bF.hB,gy,ez,aM k (fW ..),GP λj aP=>aM j (gi _ aP)]
def own(n:av):M N:=n.bM.flatMap λx=>x.1.dv
def rG(n:av):n.own=n.h.dv++n.kids.flatMap own:=by unfold own;rw[iu,gy,List.flatMap_assoc]
end av
def eS(h:er):M ap:=[.int .i64 h.aD,.slice h.bi.a h.bi.n h.bi.c,.slice h.fp.a h.fp.n h.fp.c,.int .u64 (dk h.cG),.int .u64 (dr h.cG),.slice none 0 0,.slice h.sr.a h.sr.n h.sr.c,.slice h.db.a h.db.n h.db.c]
structure hM(u:H)(x:er×M N):Prop where
 cell:u x.1.b=some (.cells (eS x.1).toArray 213 (0,0))
 bH:Own u 3 1 x.1.bi (x.1.bH.flatMap encI)
 hi:Own u 3 1 x.1.fp (x.1.hi.flatMap encI)
 rws:Own u 52 2 x.1.sr (x.1.rows.flatMap cR)
 vec:∀r∈x.1.rows,Ints u r.s r.v
 lY:br u x.1.db 1 (x.2.map λn=>.pointer (some ⟨n,0,none⟩))
def hM.bN{x:er×M N}(h:hM u x)(hu:∀c z,c∈x.1.dv->u c=some z->u' c=some z)(aA:∀r∈x.1.rows,Ints u' r.s r.v):hM u' x where
 cell:=hu _ _ (fW ..) h.cell
 bH:=h.bH.le λc z I aa=>hu c z (by simp[er.dv,I]) aa
 hi:=h.hi.le λc z I aa=>hu c z (by simp[er.dv,I]) aa
 rws:=h.rws.le λc z I aa=>hu c z (by simp[er.dv,I]) aa
 vec:=aA
 lY:=br.else h.lY λc z I aa=>hu c z (by simp[er.dv,I]) aa
structure Ap(u:H)(n:av):Prop where
 one:∀x∈n.bM,hM u x
 nodup:n.own.Nodup
def Ap.bN{n:av}(h:Ap u n)(hu:∀c z,c∈n.own->u c=some z->u' c=some z)(aA:∀x∈n.bM,∀r∈x.1.rows,Ints u' r.s r.v):Ap u' n:=
 ⟨λx J=>(h.one x J).bN (λc z I aa=>hu c z (ej.2 ⟨x,J,I⟩) aa) (aA x J),h.nodup⟩
def Ap.mono{n:av}(h:Ap u n)(hu:u.le u'):Ap u' n:=h.bN (λc z _ aa=>hu c z aa) λx J r O=>((h.one x J).vec r O).mono hu
def Ap.part{n:av}(h:∀x∈n.bM,hM u x):nc u n.b n.bA:=by
 induction n using av.ind with
 |h n aM=>
  have h0:=h (n.h,n.kids.map av.b) (by rw[av.iu];exact fW ..);rw[av.hx];refine .mk n.h.bi n.h.fp ⟨none,0,0⟩ n.h.sr n.h.db n.h.rows (n.kids.map av.b) h0.cell rfl h0.bH.f.ints h0.hi.f.ints ⟨h0.rws.cE,h0.vec⟩ rfl h0.lY (by simp[bF.kids]) λi m k hm hk=>?_;have dA:(n.kids.map av.bA)[i]?=some k:=hk;rw[iR] at hm dA;cases e:n.kids[i]? with
  |none=>rw[e] at hm;cases hm
  |some Y=>rw[e] at hm dA;obtain rfl:=cU hm;obtain rfl:=cU dA;have aC:=dK e;exact aM Y aC λx J=>h x (by rw[av.iu];exact gi _ (ej.2 ⟨Y,aC,J⟩))
structure kj where
 h:er
 pre:M av
 post:M av
def kj.fill(f:kj)(n:av):av:=.mk f.h (f.pre++n::f.post)
def mN:M kj->av->av
 | [],n=>n|f::aY,n=>mN aY (f.fill n)
def kj.bM(f:kj)(b:N):M (er×M N):=(f.h,f.pre.map av.b++b::f.post.map av.b)::(f.pre++f.post).flatMap av.bM
def jD:M kj->N->M (er×M N)
 | [],_=>[]|f::aY,b=>f.bM b++jD aY f.h.b
def af5(f:kj)(n:av):(f.fill n).bM.Perm (n.bM++f.bM n.b):=by unfold kj.fill kj.bM;rw[av.iu];show((f.h,(f.pre++n::f.post).map av.b)::(f.pre++n::f.post).flatMap av.bM).Perm _;rw[ek,gm,hz,hz,gy];refine wy (kc _ ?_) B4.symm;refine ac0 _ _ _|>.trans ?_;exact .refl _
def Hq:∀(aY:M kj) (n:av),(mN aY n).bM.Perm (n.bM++jD aY n.b)
 | [],n=>by rw[jD,ly];exact .refl _|f::aY,n=>by show(mN aY (f.fill n)).bM.Perm _;refine(Hq aY (f.fill n)).trans ?_;rw[jD,<-n5];exact(af5 f n).append_right _
def acy:∀(aY:M kj) {n n':av},n.b=n'.b->(mN aY n).b=(mN aY n').b
 | [],_,_,h=>h|f::aY,n,n',_=>acy aY (n:=f.fill n) (n':=f.fill n') rfl
end
section
variable{u:H}{l:M az}{s:U}{p:bF}{i:N}
def spec.AN{aD hw lw:o}{ls ag is rs:U}{bH hi:M o}{rows:M az}{K:o->U->U->o->o->U->H->Prop}(h1:Ints u ls bH)(h2:Ints u ag hi)(O:en u rs rows)(hE:bH.length<=64)(fM:hi.length<=64)(w4:rows.length<=1000000)
  (au:∀a b c u',aJ u u' 3 1 a (bH.flatMap encI)->aJ u u' 3 1 b (hi.flatMap encI)->aJ u u' 3 1 c ((dQ (rows.map (·.id))).flatMap encI)->dH a b->dH a c->dH b c->K aD a b hw lw c u'):C.AN aD ls ag hw lw is rs u K:=by
 have b4:=h1.len
 have eb:=h2.len
 have jI:=O.len
 apply aG.AN
 refine spec.iH h1 (by omega) λs0 aU eH _=>⟨eH.le,spec.iH (h2.mono eH.le) (by omega) λs2 j0 hQ _=>?_⟩
 have Bl:=O.mono (eH.le.trans hQ.le)
 refine⟨λi am8 fP gM am4 am5 HX w=>0<=i/\i<=rs.n/\am8=aD/\fP=s0/\gM=s2/\am4=hw/\am5=lw/\aJ j0 w 3 1 HX (((rows.take i.toNat).map (·.id)).flatMap encI),λi _ _ _ _ _ _ _=>((rs.n:o)-i).toNat,
  ⟨by omega,by omega,rfl,rfl,rfl,rfl,rfl,by simpa using aJ.nil (H.le.refl j0) 3 1⟩,?_⟩
 rintro i am8 fP gM am4 am5 HX w ⟨i0,i1,aS,aB,cW,fN,gw,aa⟩
 have ais:=aa.ints.len
 rw[de,gZ] at ais
 refine⟨λhi=>?_,λhi=>?_⟩
 obtain⟨p,ad,r,Gx,bJ,c1,_⟩:=(Bl.mono aa.le).at i0 hi
 refine⟨p,ad,⟨i0,hi⟩,_,bJ,_,c1,oc oN (AB _) (by decide) rfl (by simp[cT]) aa (by omega) (by omega) λaq u' dI ft eC eu _=>⟨⟨by omega,by omega⟩,⟨by omega,by omega,aS,aB,cW,fN,gw,?_⟩,by dsimp only;omega⟩⟩
 have e:rows.take (i+1).toNat=rows.take i.toNat++ [r]:=by rw[show(i+1).toNat=i.toNat+1 by omega,gS,Gx];rfl
 rw[e,ek,hz]
 exact dI
 have dX:rows.take i.toNat=rows:=hR (by omega)
 rw[dX] at aa
 subst aS aB cW fN gw
 refine spec.rQ aa (by simp;omega) λfA Bh aBl=>?_
 have Z:∀g,HX.aj=some g->j0 g=none:=aa.fresh
 have f13:dH fP HX:=aJ.eB (eH.mono hQ.le) (H.le.refl j0) aa
 have f23:dH gM HX:=aJ.eB hQ (H.le.refl j0) aa
 have f12:dH fP gM:=aJ.eB eH (H.le.refl aU) hQ
 have rC:j0.le fA:=Bh.le
 exact au _ _ _ fA ((eH.mono hQ.le).mono rC) ((hQ.weaken eH.le).mono rC) (Bh.weaken (eH.le.trans hQ.le)) f12 f13 f23
def aoH:kG aH 22 0 #[]=some (52,[]):=by kernel_rfl
def XK:∀y∈l.flatMap cR,y.oneCell'=ak:=by intro y ah;obtain⟨h,_,ah⟩:=ej.1 ah;exact Xz h y ah
def spec.kO{K:U->H->Prop}(ag:br u s 2 (l.flatMap cR))(ab:s.n<=1099511627776)(au:∀aq u',aJ u u' 52 2 aq (l.flatMap cR)->aq.n=s.n->K aq u'):C.kO s u K:=by
 apply aG.kO;refine⟨λae=>?_,λ_=>adx kF aoH (by decide) ag XK (by omega) au⟩;have ar:=adu ag ae;have h4:s.n=0:=by have:=br.len ag;rw[ar] at this;simp at this;omega
 refine au _ _ ?_ h4.symm;rw[ar];exact aJ.nil (H.le.refl u) _ _
def anX{c7:M bF}{k:bF}(h:c7[i]?=some k):bF.jS (c7.take (i+1))=bF.jS (c7.take i)++k.all:=by rw[gS,h,yJ,yJ];simp
def anW(c7:M bF)(i:N):(bF.jS (c7.take i)).length<=(bF.jS c7).length:=by
 conv=>rhs;rw[<-u2 i c7]
 rw[yJ,yJ,hz,ez];omega
def spec.C7{v:H}{n:N}(ad:nc v n p):∀{u:H} {K:U->H->Prop},v.le u->p.all.length<=1000000->
  (∀(s:U) (L:M az) (u':H),aJ u u' 52 2 s (L.flatMap cR)->L.map az.bz=p.all->(∀r∈L,Ints v r.s r.v)->K s u')->C.C7 (some ⟨n,0,none⟩) u K:=by
 induction ad with
 |@mk n p ls ag is rs ks rows c7 cell BB bH hi at' bz kids len each aM=>
 intro u K aA ab au
 have I:=aA _ _ cell
 have kX:p.rows.length=rows.length:=by rw[<-bz,de]
 rw[bF.all_eq] at ab au
 rw[ez] at ab
 have aiT:=at'.len
 apply aG.C7
 refine⟨_,rfl,rs,H.ba I 6,spec.kO (br.mono at'.1 aA) (by omega) λs2 j0 hQ _=>⟨_,rfl,ks,H.ba (hQ.le _ _ I) 7,?_⟩⟩
 have sa:=jg (br.cap kids) (br.max kids)
 have jU:ks.n=c7.length:=by have:=kids.len;simpa using this.symm
 refine⟨λfP x w=>0<=x/\x<=ks.n/\∃L:M az,aJ u w 52 2 fP (L.flatMap cR)/\L.map az.bz=p.rows++bF.jS (p.kids.take x.toNat)/\∀r∈L,Ints v r.s r.v,λ_ x _=>((ks.n:o)-x).toNat,
  ⟨by omega,by omega,rows,hQ,by simpa[bF.jS] using bz,λr O=>at'.2 r O⟩,?_⟩
 rintro fP x w ⟨bL,dC,L,aa,cX,cv⟩
 refine⟨λJ=>?_,λJ=>?_⟩
 have eR:x.toNat<c7.length:=by omega
 obtain⟨k,hk⟩:∃k,p.kids[x.toNat]?=some k:=⟨_,cr (by omega)⟩
 have hm:c7[x.toNat]?=some c7[x.toNat]:=cr eR
 obtain⟨a,aE,fS⟩:=br.elem (enc:=λn:N=>[hy (some ⟨n,0,none⟩)]) (k:=1) (λ_=>rfl) (by decide) (xs:=c7) (by
  have e:c7.flatMap (λn:N=>[hy (some ⟨n,0,none⟩)])=c7.map λn=>hy (some ⟨n,0,none⟩):=by
   generalize c7=Y;induction Y with
   |nil=>rfl|cons y Y aM=>rw[gy,gm,aM];rfl
  rw[e];exact kids.mono (aA.trans aa.le)) hm
 have dX:=anX hk
 have hle:=anW p.kids (x.toNat+1)
 rw[dX,ez] at hle
 have xh:=ei iS cX
 rw[de,ez] at xh
 have nV:fP.n=L.length:=gW fI (by decide) aa.own.cE
 refine⟨a,aE,⟨bL,J⟩,_,fS 0 _ rfl,aM _ _ _ hm hk (aA.trans aa.le) (by omega) λk7 EP jP dI agS aq6=>?_⟩
 have h4:=ei iS agS
 rw[de] at h4
 have ze:=gW fI (by decide) dI.own.cE
 refine alG kF (by decide) (aa.mono dI.le) dI.own.cE XK (by omega) (by omega) λoK u16 mf _=>⟨⟨by omega,by omega⟩,⟨by omega,by omega,L++EP,by rw[hz];exact mf,?_,λr O=>?_⟩,by dsimp only;omega⟩
 rw[ek,cX,agS,show(x+1).toNat=x.toNat+1 by omega,dX,n5]
 rcases cN.1 O with h|h
 exact cv r h
 exact aq6 r h
 rw[hR (by omega)] at cX
 exact au _ L w aa cX cv
def Rs(ub:H)(fv:ap)(p:az->aK):Prop:=∀(r:az) (v:H) (K:aK->H->Prop),ub.le v->K (p r) v->tL aH fv #[.agg #[.int .i64 r.id,.slice r.s.a r.s.n r.s.c]] [.one .bool] v K
def spec.Ce{ub:H}{fv:ap}{p:az->aK}{K:o->H->Prop}(ag:br u s 2 (l.flatMap cR))(ad:Rs ub fv p)(b9:ub.le u)
  (au:∀(i:N) r,l[i]?=some r->(∀(k:N) df,k<i->l[k]?=some df->p df=ax)->p r=ak->K i u) (eF:(∀r∈l,p r=ax)->K (-1) u):C.Ce s fv u K:=by
 have ae:s.n=l.length:=gW fI (by decide) ag
 have hm:s.n<=9223372036854775807:=jg (br.cap ag) (br.max ag)
 apply aG.Ce
 refine⟨λ_ i v=>v=u/\0<=i/\i<=l.length/\∀(k:N) df,k<i.toNat->l[k]?=some df->p df=ax,λ_ i _=>l.length-i.toNat,⟨rfl,by omega,by omega,λk df hk=>by simp at hk⟩,?_⟩
 rintro _ i v ⟨rfl,i0,i1,hk⟩
 refine⟨λeO=>?_,λgG=>eF λr O=>?_⟩
 have ar:i.toNat<l.length:=by omega
 have J:l[i.toNat]?=some l[i.toNat]:=cr ar
 obtain⟨q,aN,I⟩:=br.elem fI (by decide) ag J
 have bJ:=I 0 _ rfl
 rw[Addr.add_zero'] at bJ
 refine⟨q,aN,⟨i0,eO⟩,_,bJ,_,I 1 _ rfl,ad _ _ _ b9 ⟨λab=>?_,λab=>⟨⟨by omega,by omega⟩,⟨rfl,by omega,by omega,λk df dA dG=>?_⟩,by dsimp only;omega⟩⟩⟩
 have:=au i.toNat _ J hk ab
 rw[show((i.toNat:N):o)=i by omega] at this
 exact this
 by_cases e:k=i.toNat
 subst e
 rw[J] at dG;cases dG
 exact ab
 exact hk k df (by omega) dG
 obtain⟨k,dA,rfl⟩:=pt O
 exact hk k _ (by omega) (cr dA)
def x1:az:=⟨0,⟨none,0,0⟩,[]⟩
def aAy{w w':b7}{b:N}{z b5:Obj}(hw:Sub u w)(ab:u b=some z)(k:sI b b5 w w'):Step u [] w (u.ins b b5) [] w':=by refine⟨λx y h=>?_,k.os,k.tape,k.output,k.drawn,Lo k.size.symm,λx _ J _=>k.rest x (λe=>by rw[e,ab] at J;cases J),λx _ J=>?_,[],by simp,by simp⟩;unfold H.ins at h;split at h;rename_i e;rw[e];cases h;exact k.at_;rename_i e;rw[k.rest x e];exact hw _ _ h;rw[H.bq _ _ (λe=>by rw[e,ab] at J;cases J)];exact J
def ayG{g n c:N}{cur:cw ap}{T:dJ}(W:u g=some (.cells cur T (0,0)))(ae:i+n*2<=cur.size){fw:dJ}{K:H->Prop}(au:K (u.ins g (.cells (wr cur i ((fX n x1).flatMap cR)) T (0,0)))):
  dd aH (p1 #[22] fw #[.slice (some ⟨g,i,none⟩) n c]) [] u K:=by
 intro w hw
 obtain⟨ht,_⟩:=vv kF
 have hlen:((fX n x1).flatMap cR).length=n*2:=by rw[nQ fI,UW]
 rcases UX n with rfl|pa
 refine⟨.tuple #[],w,u,by simp[p1,iz ht],⟨[],.nil,rfl,?_⟩,Step.refl hw⟩
 have e:u.ins g (.cells (wr cur i ((fX 0 x1).flatMap cR)) T (0,0))=u:=H.abg (by rw[W];rfl)
 rw[e] at au
 exact au
 obtain⟨w',O,k3⟩:=adN (P:=aH) (b:=g) (off:=i) (T:=T) ((fX n x1).flatMap cR) 0 cur w (hw _ _ W) (by rw[hlen];omega) (λv aA=>by obtain⟨r,O,aA⟩:=ej.1 aA;rw[List.eq_of_mem_replicate O] at aA;simp[x1,cR] at aA;rcases aA with rfl|rfl<;>rfl)
 have aA:∀w,(zeroValue 52).run aH w=.ok (.agg #[.int .i64 0,.slice none 0 0]) w:=λ_=>by kernel_rfl
 have aba:(wu (c3 #[.int .i64 0,.slice none 0 0]).cells n).toList=(fX n x1).flatMap cR:=by have:=Hc (enc:=cR) fI (by decide) x1 n;rw[<-this];rfl
 obtain⟨m,rfl⟩:∃m,n=m+1:=⟨n-1,by omega⟩
 refine⟨.tuple #[],w',_,by simp[p1,iz ht,aA,aba,O],⟨[],.nil,rfl,au⟩,aAy hw W k3⟩
def aJ.apd{ai:H}(h:aJ ai u 52 2 s (l.flatMap cR))(hi:i<=s.n){fw:dJ}{K:H->Prop}
  (au:∀(u':H) (bw:M az),aJ ai u' 52 2 s (bw.flatMap cR)->bw.take i=l.take i->bw.length=l.length->gO u u' s->K u'):dd aH (p1 #[22] fw #[.slice (s.part i s.n s.c 2).a (s.part i s.n s.c 2).n (s.part i s.n s.c 2).c]) [] u K:=by
 have dw:s.n=l.length:=gW fI (by decide) h.own.cE
 obtain⟨Bn,_⟩:=vv kF
 rcases h.own.is with h0|⟨g,cur,aE,W,ae,I,ag,ht⟩
 subst h0
 have ar:l=[]:=kN dw.symm
 subst ar
 have NH:i=0:=by simpa using hi
 subst NH
 refine dd.pure [] (λw hw=>?_) .nil (au u [] h rfl rfl (gO.refl _ _))
 simp[U.part,p1,iz Bn]
 rfl
 rcases acF hi with rfl|bD
 have e:(s.part s.n s.n s.c 2).n=0:=by simp[U.part]
 refine dd.pure [] (λw hw=>?_) .nil (au u l h rfl rfl (gO.refl _ _))
 rw[e]
 cases(s.part s.n s.n s.c 2).a<;>simp[p1,iz Bn]<;>rfl
 have uA:(s.part i s.n s.c 2).a=some ⟨g,i*2,none⟩:=by unfold U.part;simp only;rw[aF (by omega),aE];simp[jh]
 rw[uA]
 have aab:(s.part i s.n s.c 2).n=s.n-i:=rfl
 rw[aab]
 have cI:i*2+(s.n-i)*2<=cur.size:=by rw[ag];omega
 refine ayG W cI ?_
 have kX:((fX (s.n-i) x1).flatMap cR).length=(s.n-i)*2:=by rw[nQ fI,UW]
 have DJ:=LR cur (i*2) ((fX (s.n-i) x1).flatMap cR) (by rw[kX];omega)
 rw[kX] at DJ
 have Ds:(l.take i++fX (s.n-i) x1).length=l.length:=by simp;omega
 refine au _ (l.take i++fX (s.n-i) x1) ⟨⟨by rw[nQ fI,Ds,dw],.inr ⟨g,_,aE,H.bh _ _ _,ae,I,?_,?_⟩⟩,λb z ab=>?_,h.fresh⟩ ?_ Ds ?_
 rw[<-rL,DJ];simp[kX];omega
 rw[DJ,hz]
 have ru:cur.toList.take (s.n*2)=l.flatMap cR:=ht
 have h1:cur.toList.take (i*2)=(l.take i).flatMap cR:=by rw[<-yW fI,<-ru,Hz,Eb (by omega)]
 have gn:((l.take i).flatMap cR).length=i*2:=by rw[nQ fI];simp;omega
 rw[h1,P0 (by rw[ez,gn,kX];omega),hR (by rw[ez,gn,kX];omega)]
 have:b≠g:=λe=>by have:=h.fresh g (by simp[U.aj,aE]);rw[e,this] at ab;cases ab
 rw[H.bq _ _ this];exact h.le b z ab
 rw[P0 (by simp;omega),Hz,UT]
 intro b z ab al
 rw[H.bq _ _ (λe=>al (by simp[U.aj,aE,e]))];exact ab
def spec.Cd{ai ub:H}{fv:ap}{p:az->aK}{K:U->H->Prop}(aa:aJ ai u 52 2 s (l.flatMap cR))(ad:Rs ub fv p)(b9:ub.le u)(ko:∀b,s.aj=some b->ub b=none)
  (au:∀aq u',aJ ai u' 52 2 aq ((l.filter λx=>!p x).flatMap cR)->aq.aj=s.aj->gO u u' s->K aq u'):C.Cd s fv u K:=by
 have dw:s.n=l.length:=gW fI (by decide) aa.own.cE
 have zd:s.n<=9223372036854775807:=jg (br.cap aa.own.cE) (br.max aa.own.cE)
 apply aG.Cd
 refine spec.Ce aa.own.cE ad b9 (λi r S6 dV kz=>⟨λh=>by omega,λ_=>?_⟩) λdV=>⟨λ_=>?_,λh=>aW rfl h⟩
 have hi:i<l.length:=(jM.1 S6).1
 have YN:(l.take i).filter (λx=>!p x)=l.take i:=by rw[p6];intro a aE;obtain⟨k,hk,rfl⟩:=sn.1 aE;simp only[gZ] at hk;rw[Qa,dV k _ (by omega) (cr (by omega))];rfl
 refine⟨⟨by omega,by omega⟩,?_⟩
 refine⟨λa j v=>0<=a/\a<j/\j<=l.length/\gO u v s/\∃m:M az,m.length=l.length/\aJ ai v 52 2 s (m.flatMap cR)/\m.take a.toNat=(l.take j.toNat).filter (λx=>!p x)/\m.drop j.toNat=l.drop j.toNat,
  λ_ j _=>l.length-j.toNat,⟨by omega,by omega,by omega,gO.refl _ _,l,rfl,aa,?_,rfl⟩,?_⟩
 rw[show((i:o)+1).toNat=i+1 by omega,zV,gS,S6]
 simp only[UY,zW,YN,B7,kz]
 simp
 rintro a j v ⟨a0,cL,avQ,eC,m,pP,oA,uF,Nw⟩
 have aaR:ub.le v:=λb z ab=>eC b z (b9 b z ab) λe=>by rw[ko b e] at ab;cases ab
 refine⟨λkK=>?_,λgG=>?_⟩
 have NO:j.toNat<l.length:=by omega
 have NQ:l[j.toNat]?=some l[j.toNat]:=cr NO
 have S7:m[j.toNat]?=some l[j.toNat]:=by have:=ei (λY=>Y[0]?) Nw;simp only[uX,UZ] at this;rw[this,NQ]
 obtain⟨q,aN,I⟩:=br.elem fI (by decide) oA.own.cE S7
 have bJ:=I 0 _ rfl
 rw[Addr.add_zero'] at bJ
 obtain⟨x,J⟩:∃x,x=l[j.toNat]:=⟨_,rfl⟩
 rw[<-J] at NQ S7 bJ I
 have Bp:(l.take (j.toNat+1)).filter (λx=>!p x)=m.take a.toNat++(if p x=ak then[] else[x]):=by rw[gS,NQ,uF];simp only[UY,zW,B7,List.filter_nil];cases p x<;>simp
 have Ny:∀qG:M az,(∀k,a.toNat<k->qG[k]?=m[k]?)->qG.drop (j+1).toNat=l.drop (j+1).toNat:=λqG oy=>by
  have e:l.drop (j+1).toNat=m.drop (j+1).toNat:=by rw[show(j+1).toNat=j.toNat+1 by omega,<-B0,<-B0,Nw]
  rw[e];apply sk;intro k;rw[uX,uX,oy _ (by omega)]
 refine⟨q,aN,⟨by omega,kK⟩,_,bJ,_,I 1 _ rfl,ad x _ _ aaR ⟨λab=>?_,λab=>?_⟩⟩
 have Z9:p x=ax:=by simpa using ab
 rw[Z9] at Bp
 refine⟨q,aN,⟨by omega,by omega⟩,?_⟩
 refine aJ.store (enc:=cR) fI oA (by decide) (i:=a.toNat) (by omega) (y:=x) (by simp[cR,cT]) aN λdc dI ic _=>⟨⟨by omega,by omega⟩,⟨by omega,by omega⟩,⟨by omega,by omega,by omega,λb z ab al=>ic b z (eC b z ab al) al,_,by simpa using pP,dI,?_,?_⟩,by dsimp only;omega⟩
 rw[show(j+1).toNat=j.toNat+1 by omega,Bp,show(a+1).toNat=a.toNat+1 by omega,gS,zX (by omega),List.take_set_of_le (cA _)]
 simp
 exact Ny _ λk hk=>u0 (by omega)
 rw[ab] at Bp
 refine⟨⟨by omega,by omega⟩,⟨by omega,by omega,by omega,eC,m,pP,oA,?_,Ny m λ_ _=>rfl⟩,by dsimp only;omega⟩
 rw[show(j+1).toNat=j.toNat+1 by omega,Bp];simp
 have kK:j.toNat=l.length:=by have:¬j<(s.n:o):=gG;omega
 have ir:=br.cap oA.own.cE
 rw[kK,mQ] at uF
 refine oM (P:=aH) kF (l:=a.toNat) (h:=s.n) (m:=s.c) (.inr (by rw[wA a0])) (.inl ⟨rfl,rfl⟩) (.inl ⟨rfl,rfl⟩) (by omega) ir (cA _) ir ?_
 refine oA.apd (i:=a.toNat) (by omega) λdc m2 dI h1 h2 ic=>?_
 refine oM (P:=aH) kF (l:=0) (h:=a.toNat) (m:=s.c) (.inl ⟨rfl,rfl⟩) (.inr (by rw[wA a0])) (.inl ⟨rfl,rfl⟩) (by omega) (by omega) (cA _) ir ?_
 obtain⟨Z,A0,_⟩:=dI.front (m:=a.toNat) (by omega)
 have e:(m2.flatMap cR).take (a.toNat*2)=(l.filter λx=>!p x).flatMap cR:=by rw[yW fI,h1,uF]
 rw[e] at Z
 exact au _ _ Z A0 λb z ab al=>ic b z (eC b z ab al) al
 have e:l.filter (λx=>!p x)=l:=p6.2 λa aE=>by rw[dV a aE];rfl
 exact au s u (by rw[e];exact aa) rfl (gO.refl _ _)
namespace bF
mutual
def del(id:o):bF->bF
 | .mk aD bH hi cG rows kids=>.mk aD bH hi cG (rows.filter λx=>x.1 !=id) (RU id kids)
def RU(id:o):M bF->M bF
 | []=>[]|p::c7=>p.del id::RU id c7
end
def afz(id:o):∀c7:M bF,RU id c7=c7.map (del id)
 | []=>rfl|p::c7=>by rw[RU,afz id c7,gm]
def ind{P:bF->Prop}(h:∀n,(∀k∈n.kids,P k)->P n):∀n,P n:=by intro n;exact bF.rec (motive_1:=P) (motive_2:=λkA=>∀k∈kA,P k) (λ_ _ _ _ _ _ aM=>h _ aM) (λk hk=>(by cases hk)) (λn kA h1 h2 k hk=>by rcases cJ.1 hk with rfl|hk;exact h1;exact h2 k hk) n
def del_eq(id:o)(p:bF):p.del id=.mk p.aD p.bH p.hi p.cG (p.rows.filter λx=>x.1 !=id) (p.kids.map (del id)):=by cases p;rw[del,afz];rfl
def Xh(id:o)(p:bF):(p.del id).all=p.all.filter λx=>x.1 !=id:=by
 induction p using ind with
 |h p aM=>
  rw[del_eq,all_eq,all_eq,zW];show(p.rows.filter λx=>x.1 !=id)++jS (p.kids.map (del id))=_;congr 1;rw[yJ,yJ,B6];obtain⟨ks,o7⟩:∃ks,ks=p.kids:=⟨_,rfl⟩;rw[<-o7] at aM ⊢;clear o7;induction ks with
  |nil=>rfl|cons k ks GP=>rw[gy,gy,zW,aM k (fW ..),GP λj aP=>aM j (gi _ aP)]
def afB{id d:o}(h:ga d p):ga d (p.del id):=by
 induction p using ind with
 |h p aM=>
  have h1:=h.kd;have h2:=h.ins;have h3:=h.kids;have O:(p.del id).hA []=p.hA []:=by rw[del_eq];rfl
  refine .mk ?_ (λx J=>?_) λk hk=>?_;rw[O];exact h1;rw[O];rw[Xh] at J;exact h2 x (iT.1 J).1;rw[del_eq] at hk;obtain⟨dT,dA,rfl⟩:=bf.1 (show k∈p.kids.map (del id) from hk);exact aM dT dA (h3 dT dA)
def afC(id:o)(p:bF):(p.del id).size=p.size:=by
 induction p using ind with
 |h p aM=>
  rw[del_eq,size_eq,size_eq];show 1+hB (p.kids.map (del id))=_;congr 1;obtain⟨ks,o7⟩:∃ks,ks=p.kids:=⟨_,rfl⟩;rw[<-o7] at aM ⊢;clear o7;induction ks with
  |nil=>rfl|cons k ks GP=>rw[gm,hB,hB,aM k (fW ..),GP λj aP=>aM j (gi _ aP)]
end bF
inductive lG(s:o):bF->Prop where
 |mk {p:bF} (aD:p.aD=s) (kids:∀k∈p.kids,lG s k):lG s p
def lG.aD{s:o}(h:lG s p):p.aD=s:=by cases h;assumption
def lG.kids{s:o}(h:lG s p):∀k∈p.kids,lG s k:=by cases h;assumption
def lG.del{s id:o}(h:lG s p):lG s (p.del id):=by
 induction p using bF.ind with
 |h p aM=>rw[bF.del_eq];refine .mk h.aD λk hk=>?_;obtain⟨dT,dA,rfl⟩:=bf.1 (show k∈p.kids.map (bF.del id) from hk);exact aM dT dA (h.kids dT dA)
def aga{α β:Type}{f:α->M β}:∀{ks:M α},(ks.flatMap f).Nodup->∀{i j:N} {a b:α} {c:β},ks[i]?=some a->ks[j]?=some b->i≠j->c∈f a->c∉f b:=by
 intro ks;induction ks with
 |nil=>intro _ i j a b c hi;simp at hi
 |cons k ks aM=>
  intro ae i j a b c hi aP al aE ab;rw[gy,gh] at ae;obtain⟨_,h2,h3⟩:=ae;cases i with
  |zero=>
   cases j with
   |zero=>exact al rfl|succ j=>obtain rfl:=cU (show some k=some a from hi);exact h3 c aE c (ej.2 ⟨b,dK (show ks[j]?=some b from aP),ab⟩) rfl
  |succ i=>
   cases j with
   |zero=>obtain rfl:=cU (show some k=some b from aP);exact h3 c ab c (ej.2 ⟨a,dK (show ks[i]?=some a from hi),aE⟩) rfl
   |succ j=>exact aM h2 (show ks[i]?=some a from hi) (show ks[j]?=some b from aP) (by omega) aE ab
def VJ{h:er}(I:u h.b=some (.cells (eS h).toArray 213 (0,0)))(s:U)(rows:M az){f:H->Prop}
  (Z:f (u.ins h.b (.cells (eS {h with sr:=s,rows:=rows}).toArray 213 (0,0)))):H.aO u ((cB h.b 0 none).add 6) [.slice s.a s.n s.c] f:=by
 exact⟨_,_,I,rfl,by simp[eS,jh],by simp[cT],Z⟩
structure IE(id:o)(n:av)(u':H)(n':av):Prop where
 one:∀x∈n'.bM,hM u' x
 own:n'.own=n.own
 b:n'.b=n.b
 bA:n'.bA=n.bA.del id
 rows:∀x∈n'.bM,∀r∈x.1.rows,∃y∈n.bM,r∈y.1.rows
def hD.mix{m:M az}{d:o}(h:hD l d)(ad:m.Perm l):hD m d:=
 ⟨h.an,by rw[ad.length_eq];exact h.len,λr O=>h.id r (ad.mem_iff.1 O),(ad.map _).nodup_iff.2 h.nodup,λr O=>h.v r (ad.mem_iff.1 O)⟩
def aco{e k:N}{xs:M ap}(h:Own u e k s xs){g:N}(W:s.aj=some g):u g≠none:=dE h.f W
end
section
open Go.Shelf Go.RowKit Go.Sort
def af9{α:Type}[lN α]{enc:α->M ap}{k:N}(rj:0<k)(hk:∀x,(enc x).length=k)(d:cw α):(flatK enc k d).toList=d.toList.flatMap enc:=by
 apply sk;intro i;rcases kC i (d.size*k) with hi|hi;have e:i=i/k*k+i%k:=by rw[US];exact(Nat.div_add_mod i k).symm
 have aw:i/k<d.size:=Nat.div_lt_of_lt_mul (by rw[US];exact hi);have O:i%k<k:=HH _ rj;have Z:=Jc hk d.toList (i/k) (i%k) O;rw[<-e] at Z;rw[Z];have:(flatK enc k d).toList[i]?=some ((flatK enc k d)[i]!):=by rw[BZ,sm _ i (by simpa using hi),x8 (by simpa using hi)]
 rw[this,get_flatK _ _ _ _ hi];simp[aw];have h2:i%k<(enc d[i/k]).length:=by rw[hk];exact O
 rw[cr h2];rfl;rw[iy (by simpa using hi),iy (by rw[nQ hk];simpa using hi)]
def aqD{P:dY}{f:kM}{args:cw ap}{Y:o}{bd:b7}(h:io P f args [.one (.int .i64)] (λb=>bd.heap[b]?) λfm u'=>fm=Y/\u'=λb=>bd.heap[b]?):
  Calls P f args bd λe w'=>e=.returned (.int .i64 Y)/\∃q PI,w'=grow (bd.drewN q) PI:=by
 refine(h bd (λb z e=>e)).mono ?_
 rintro e w' ⟨v,u',rfl,⟨vs,hk,rfl,I⟩,ag⟩
 cases hk with
 |cons x O=>cases O;have mG:=(aL.rR (.int .i64) x _).1 I;obtain⟨J,hu⟩:x=Y/\u'=_:=mG;subst J;subst hu;exact⟨rfl,ag.agp⟩
def al4{α:Type}[lN α]{cf:α->α->o}{d:cw α}(ag:SortedIn (ltOf cf) 0 d.size d):d.toList.Pairwise λa b=>¬cf b a<0:=by refine qN.2 λi j hi aP gH=>?_;have:=ag i j (p2 _) gH (by simpa using aP);simp only[rL] at hi aP;rw[sm d j aP,sm d i hi] at this;unfold ltOf at this;simpa using this
def spec.VC{α:Type}[lN α](val:α->az){g:kM}{cf:α->α->o}(hO:SWO (ltOf cf))(pF:∀args w,(p0 g args).run aH w=.ok (.enter g args) w)
  (Nt:∀a b (u:H),io aH g #[.agg (cR (val a)).toArray,.agg (cR (val b)).toArray] [.one (.int .i64)] u λfm u'=>fm=cf a b/\u'=u)
  {ai u:H} {s:U} {l:M α} (aa:aJ ai u 52 2 s ((l.map val).flatMap cR)) (fB:l.length<4611686018427387904) {K:H->Prop}
  (au:∀(u':H) (bw:M α),bw.Perm l->(bw.Pairwise λa b=>¬cf b a<0)->aJ ai u' 52 2 s ((bw.map val).flatMap cR)->gO u u' s->K u'):C.VC s (.func (.func g) #[] #[]) u K:=by
 intro w hw
 have dw:s.n=l.length:=by have:=gW fI (by decide) aa.own.cE;simpa using this
 rcases aa.own.is with h0|⟨b,cur,aE,W,hle,I,ag,ht⟩
 subst h0
 have ar:l=[]:=by have:l.length=0:=dw.symm;exact kN this
 subst ar
 refine(acS Tryz.al2 none 0 _ w).mono ?_
 rintro e w' ⟨rfl,rfl⟩
 exact⟨_,u,rfl,⟨[],.nil,rfl,au u [] (Lq _) p4 aa (gO.refl _ _)⟩,Step.refl hw⟩
 have JJ:∀m:M α,(m.map val).flatMap cR=m.flatMap λx=>cR (val x):=λm=>by rw[B6]
 have hH:HoldsK (λx=>cR (val x)) 2 w b 0 l.toArray:=by
  intro j aP;simp only[size_flatK,wv] at aP;have ar:((l.map val).flatMap cR)[j]?=some ((flatK (λx=>cR (val x)) 2 l.toArray)[j]!):=by have:=af9 (k:=2) (enc:=λx=>cR (val x)) (by decide) (λx=>fI _) l.toArray;simp only[] at this;rw[JJ,<-this,BZ,sm _ j (by simpa using aP),x8 (by simpa using aP)]
  constructor;rcases aa.own.cE.at' with h1|⟨p,ad,fS⟩;rw[h1] at ar;simp at ar;rw[aE] at ad;cases ad;have:=hw.cell (fS j _ ar);rw[jh,k5] at this;simpa using this;simp[Hw,hw _ _ W]
 have sX:=AnyQ.slices_SortFunc Tryz.al2 2 (λw=>by kernel_rfl) (λw=>by kernel_rfl) (λx=>cR (val x)) (λx=>fI _) (λx=>Xz _) cf hO g #[] b 0 s.c l.toArray w pF
  (λm os AI _ x y=>by have:=agq (Nt x y) (sortWorldK (λx=>cR (val x)) 2 w b 0 m AI os);simpa using this) hH (hw.lt W) (by simpa using fB)
 simp only[wv] at sX
 change Calls aH 104 _ _ _ at sX
 unfold vs
 rw[aE,dw]
 refine sX.mono ?_
 rintro e w' ⟨rfl,lI,n,os,⟨gq,_,rp⟩,qC,rfl⟩
 simp only[wv] at gq
 have h5:lI.toList.Perm l:=by
  have aS:lI.extract 0 l.length=lI:=by rw[<-gq];simp
  have aB:l.toArray.extract 0 l.length=l.toArray:=by simp
  rw[aS,aB] at rp;simpa using rp
 obtain⟨bP,he⟩:=aa.Vf aE W (F:=flatK (λx=>cR (val x)) 2 lI) (by rw[size_flatK,gq,dw])
 rw[af9 (by decide) (λx=>fI _),<-JJ] at bP
 exact⟨_,_,rfl,⟨[],.nil,rfl,au _ lI.toList h5 (al4 (by rw[gq];exact qC)) bP he⟩,VM hw W n _ os⟩
def spec.VB{α:Type}[lN α](val:α->o){g:kM}{sK:cw ap}{cf:α->α->o}(hO:SWO (ltOf cf))(pF:∀args w,(p0 g args).run aH w=.ok (.enter g args) w)
  {ub:H} (Nt:∀a b (v:H),ub.le v->io aH g (#[.int .i64 (val a),.int .i64 (val b)]++sK) [.one (.int .i64)] v λfm u'=>fm=cf a b/\u'=v)
  {ai u:H} {s:U} {l:M α} (b9:ub.le u) (ko:∀b,s.aj=some b->ub b=none) (aa:aJ ai u 3 1 s ((l.map val).flatMap encI)) (fB:l.length<4611686018427387904) {K:H->Prop}
  (au:∀(u':H) (bw:M α),bw.Perm l->(bw.Pairwise λa b=>¬cf b a<0)->aJ ai u' 3 1 s ((bw.map val).flatMap encI)->gO u u' s->K u'):C.VB s (.func (.func g) #[] sK) u K:=by
 intro w hw
 have dw:s.n=l.length:=by have:=aa.ints.len;simpa using this
 rcases aa.own.is with h0|⟨b,cur,aE,W,hle,I,ag,ht⟩
 subst h0
 have ar:l=[]:=by have:l.length=0:=dw.symm;exact kN this
 subst ar
 refine(acS {Tryz.al1 with} none 0 _ w).mono ?_
 rintro e w' ⟨rfl,rfl⟩
 exact⟨_,u,rfl,⟨[],.nil,rfl,au u [] (Lq _) p4 aa (gO.refl _ _)⟩,Step.refl hw⟩
 have ui:ub b=none:=ko b (by simp[U.aj,aE])
 have hH:Holds (λx=>cY .i64 (val x)) w b 0 l.toArray:=by
  intro j aP;have lX:j<l.length:=by simpa using aP
  have ar:((l.map val).flatMap encI)[j]?=some (.int .i64 (val l[j])):=by rw[yU];simp[lX]
  constructor;rcases aa.own.cE.at' with h1|⟨p,ad,fS⟩;rw[h1] at ar;simp at ar;rw[aE] at ad;cases ad;have:=hw.cell (fS j _ ar);rw[jh,k5] at this;rw[sm _ j (by simpa using lX)];simpa using this;simp[Hw,hw _ _ W]
 have sX:=Any.slices_SortFunc Tryz.al1 (λx:α=>cY .i64 (val x)) (λx=>rfl) cf hO g sK b 0 s.c l.toArray w pF
  (λm os AI _ x y=>by
   refine aqD (Nt x y _ λc z I=>?_);have kp:c≠b:=λe=>by rw[e,ui] at I;cases I
   have ajo:=hw _ _ (b9 _ _ I);have bD:c<w.heap.size:=(ya.1 ajo).1;have NG:(u1 w m).heap[b]?=some (.cells cur 3 (0,0)):=hw _ _ W;have h2:=(ahH (putCells (λx:α=>cY .i64 (val x)) 0 AI) NG).2 c kp;show((mapBlock (u1 w m) b (putCells (λx:α=>cY .i64 (val x)) 0 AI)).heap++os)[c]?=_;have cI:(mapBlock (u1 w m) b (putCells (λx:α=>cY .i64 (val x)) 0 AI)).heap.size=w.heap.size:=by simp[mapBlock,u1]
   rw[acL (by rw[cI];exact bD),h2];exact ajo) hH (hw.lt W) (by simpa using fB)
 simp only[wv] at sX
 change Calls aH 175 _ _ _ at sX
 unfold vs
 rw[aE,dw]
 refine sX.mono ?_
 rintro e w' ⟨rfl,lI,n,os,⟨gq,_,rp⟩,qC,rfl⟩
 simp only[wv] at gq
 have h5:lI.toList.Perm l:=by
  have aS:lI.extract 0 l.length=lI:=by rw[<-gq];simp
  have aB:l.toArray.extract 0 l.length=l.toArray:=by simp
  rw[aS,aB] at rp;simpa using rp
 have aag:putCells (λx:α=>cY .i64 (val x)) 0 lI cur=putCells id 0 ((lI.toList.map val).map λx=>cY .i64 x).toArray cur:=by unfold putCells;apply Array.ext;simp;intro i h1 h2;simp only[Array.getElem_mapIdx,wv,de,rL,p2,true_and,k5,Ed,id];split;rename_i hi;rw[sm _ i (by simpa using hi),sm _ i (by simpa using hi)];simp;rfl
 obtain⟨bP,he⟩:=aa.Vf aE W (F:=((lI.toList.map val).map λx=>cY .i64 x).toArray) (by simp[gq,dw])
 rw[<-aag] at bP he
 simp only[] at bP
 rw[<-yU] at bP
 exact⟨_,_,rfl,⟨[],.nil,rfl,au _ lI.toList h5 (al4 (by rw[gq];exact qC)) bP he⟩,VM hw W n _ os⟩
end
section
variable{u ai ub v:H}{l:M az}{s:U}{fv:ap}{K:H->Prop}{a b d:o}
def jA(ai u:H)(s:U)(l:M az)(v:H):Prop:=gO u v s/\∃m:M az,m.Perm l/\aJ ai v 52 2 s (m.flatMap cR)
def LZ(ub:H)(l:M az)(fv:ap):Prop:=∀(a b:az) (v:H) (K:o->H->Prop),a∈l->b∈l->ub.le v->(∀Y,K Y v)->hY aH fv #[.agg #[.int .i64 a.id,.slice a.s.a a.s.n a.s.c],.agg #[.int .i64 b.id,.slice b.s.a b.s.n b.s.c]] [.one (.int .i64)] v K
def jA.base(h:jA ai u s l v)(b9:ub.le u)(ko:∀b,s.aj=some b->ub b=none):ub.le v:=λc z I=>h.1 c z (b9 c z I) λe=>by rw[ko c e] at I;cases I
def jA.len(h:jA ai u s l v):s.n=l.length:=by obtain⟨_,m,ad,aa⟩:=h;have:=gW fI (by decide) aa.own.cE;rw[ad.length_eq] at this;exact this
def jA.EZ(h:jA ai u s l v){x y:o}(bL:0<=x)(dC:x<s.n)(iI:0<=y)(jx:y<s.n):∃p,s.a=some p/\∃a b:az,a∈l/\b∈l/\
  v.cell? (p.add (x.toNat*2))=some (.int .i64 a.id)/\v.cell? ((p.add (x.toNat*2)).add 1)=some (.slice a.s.a a.s.n a.s.c)/\v.cell? (p.add (y.toNat*2))=some (.int .i64 b.id)/\v.cell? ((p.add (y.toNat*2)).add 1)=some (.slice b.s.a b.s.n b.s.c)/\
  ∀f g:H->Prop,(∀b8,jA ai u s l b8->f b8)->(∀v1,H.aO v1 (p.add (y.toNat*2)) [.int .i64 a.id,.slice a.s.a a.s.n a.s.c] f->g v1)->H.aO v (p.add (x.toNat*2)) [.int .i64 b.id,.slice b.s.a b.s.n b.s.c] g:=by
 have dw:=h.len
 obtain⟨he,m,ad,aa⟩:=h
 have pP:=ad.length_eq
 have J:x.toNat<m.length:=by omega
 have ah:y.toNat<m.length:=by omega
 obtain⟨p,jd,I⟩:=br.elem fI (by decide) aa.own.cE (cr J)
 obtain⟨wk,aiO,aw⟩:=br.elem fI (by decide) aa.own.cE (cr ah)
 obtain rfl:wk=p:=by rw[jd] at aiO;exact(cU aiO).symm
 have o2:=I 0 _ rfl
 have Di:=aw 0 _ rfl
 rw[Addr.add_zero'] at o2 Di
 refine⟨wk,jd,m[x.toNat],m[y.toNat],ad.mem_iff.1 (kE J),ad.mem_iff.1 (kE ah),o2,I 1 _ rfl,Di,aw 1 _ rfl,λf g Z W=>?_⟩
 refine aJ.store (enc:=cR) fI aa (by decide) (i:=x.toNat) J (y:=m[y.toNat]) (by simp[cR,cT]) jd λv1 kv vG _=>W v1 ?_
 refine aJ.store (enc:=cR) fI kv (by decide) (i:=y.toNat) (by rw[qK];exact ah) (y:=m[x.toNat]) (by simp[cR,cT]) jd λv2 dI ic _=>Z v2 ⟨λc z I al=>ic c z (vG c z (he c z I al) al) al,_,?_,dI⟩
 refine wy ?_ ad
 rw[<-Im J ah]
 exact Ex J ah
def Uh{x y:o}(J:0<=x)(ah:0<=y)(h:x+y<=4000000000):cq.wrap (ew (bR.wrap (x+y)) (2 ^ 1))=(x+y)/2:=by
 have aS:bR.wrap (x+y)=x+y:=by show(x+y)%18446744073709551616=x+y;omega
 rw[aS,acP _ (by decide)];exact IntWalk.i64_in _ (by omega)
def spec.adR{n:o}(h:jA ai u s l v)(fB:l.length<=1000000)(a0:0<=a)(gd:0<=b)(aE:a+n<=s.n)(ab:b+n<=s.n)(au:∀b8,jA ai u s l b8->K b8):C.Ii s a b n fv v K:=by have dw:=h.len;apply aG.Ii;refine⟨λi w=>0<=i/\jA ai u s l w,λi _=>(n-i).toNat,⟨by omega,h⟩,?_⟩;rintro i w ⟨i0,hw⟩;refine⟨λhi=>?_,λ_=>au w hw⟩;obtain⟨p,ad,x,y,_,_,bJ,c1,d0,d1,dW⟩:=hw.EZ (x:=a+i) (y:=b+i) (by omega) (by omega) (by omega) (by omega);refine⟨⟨by omega,by omega⟩,⟨by omega,by omega⟩,⟨by omega,by omega⟩,p,ad,⟨by omega,by omega⟩,⟨by omega,by omega⟩,p,ad,⟨by omega,by omega⟩,_,d0,_,d1,_,bJ,_,c1,p,ad,⟨by omega,by omega⟩,?_⟩;exact dW _ _ (λb8 hs=>⟨⟨by omega,by omega⟩,⟨by omega,hs⟩,by dsimp only;omega⟩) λv1 h1=>⟨p,ad,⟨by omega,by omega⟩,h1⟩
def spec.rotateR{m:o}(h:jA ai u s l v)(fB:l.length<=1000000)(a0:0<=a)(ag9:a<m)(ail:m<b)(ab:b<=s.n)(au:∀b8,jA ai u s l b8->K b8):C.QI s a m b fv v K:=by have dw:=h.len;apply aG.QI;refine⟨⟨by omega,by omega⟩,⟨by omega,by omega⟩,λi j w=>0<i/\i<=m-a/\0<j/\j<=b-m/\jA ai u s l w,λi j _=>(i+j).toNat,⟨by omega,by omega,by omega,by omega,h⟩,?_⟩;rintro i j w ⟨i0,i1,gK,js,hw⟩;refine⟨λal=>⟨λbD=>⟨⟨by omega,by omega⟩,?_⟩,λbD=>⟨⟨by omega,by omega⟩,⟨by omega,by omega⟩,⟨by omega,by omega⟩,?_⟩⟩,λhe=>⟨⟨by omega,by omega⟩,?_⟩⟩;exact spec.adR hw fB (by omega) (by omega) (by omega) (by omega) λb8 hs=>⟨⟨by omega,by omega⟩,⟨by omega,by omega,by omega,by omega,hs⟩,by dsimp only;omega⟩;exact spec.adR hw fB (by omega) (by omega) (by omega) (by omega) λb8 hs=>⟨⟨by omega,by omega⟩,⟨by omega,by omega,by omega,by omega,hs⟩,by dsimp only;omega⟩;exact spec.adR hw fB (by omega) (by omega) (by omega) (by omega) au
def spec.ajM(b9:ub.le u)(ko:∀b,s.aj=some b->ub b=none)(I:LZ ub l fv)(h:jA ai u s l v)(fB:l.length<=1000000)(a0:0<=a)(re:a<=2000000)(ab:b<=s.n)(au:∀b8,jA ai u s l b8->K b8):C.LF s a b fv v K:=by have dw:=h.len;apply aG.LF;refine⟨⟨by omega,by omega⟩,λi w=>a<i/\jA ai u s l w,λi _=>(b-i).toNat,⟨by omega,h⟩,?_⟩;rintro i w ⟨i0,hw⟩;refine⟨λhi=>?_,λ_=>au w hw⟩;refine⟨λj w=>a<=j/\j<=i/\jA ai u s l w,λj _=>(j-a).toNat,⟨by omega,by omega,hw⟩,?_⟩;rintro j w ⟨gK,js,hw⟩;intro aeC o0;have next:∀{Y:H},jA ai u s l Y->bo (i+1)/\(a<i+1/\jA ai u s l Y)/\(b-(i+1)).toNat<(b-i).toNat:=λaC=>⟨⟨by omega,by omega⟩,⟨by omega,aC⟩,by omega⟩;refine⟨λaP=>?_,λ_=>next hw⟩;obtain⟨p,ad,x,y,J,ah,bJ,c1,d0,d1,dW⟩:=hw.EZ (x:=j) (y:=j-1) (by omega) (by omega) (by omega) (by omega);refine⟨p,ad,⟨by omega,by omega⟩,⟨by omega,by omega⟩,p,ad,⟨by omega,by omega⟩,_,bJ,_,c1,_,d0,_,d1,?_⟩;refine I x y w _ J ah (hw.base b9 ko) λY=>⟨λ_=>o0 _ ?_,λ_=>next hw⟩;refine⟨⟨by omega,by omega⟩,⟨by omega,by omega⟩,p,ad,⟨by omega,by omega⟩,p,ad,⟨by omega,by omega⟩,_,d0,_,d1,_,bJ,_,c1,p,ad,⟨by omega,by omega⟩,?_⟩;exact dW _ _ (λb8 hs=>⟨⟨by omega,by omega⟩,⟨by omega,by omega,hs⟩,by dsimp only;omega⟩) λv1 h1=>⟨p,ad,⟨by omega,by omega⟩,h1⟩
def spec.amo(b9:ub.le u)(ko:∀b,s.aj=some b->ub b=none)(I:LZ ub l fv)(fB:l.length<=1000000):∀(dg:N) {a m b:o} {v:H} {K:H->Prop},b-a<=dg->jA ai u s l v->0<=a->a<m->m<b->b<=s.n->(∀b8,jA ai u s l b8->K b8)->C.Es s a m b fv v K:=by
 intro dg;induction dg with
 |zero=>intro a m b v K eF h a0 ag9 ail ab au;omega
 |succ dg aM=>
  intro a m b v K eF h a0 ag9 ail ab au;have dw:=h.len;apply aG.Es;refine⟨⟨by omega,by omega⟩,λh1=>?_,λh1=>⟨⟨by omega,by omega⟩,λh2=>?_,λh2=>?_⟩⟩;refine⟨λi j w=>m<=i/\i<=j/\j<=b/\jA ai u s l w,λi j _=>(j-i).toNat,⟨by omega,by omega,by omega,h⟩,?_⟩;rintro i j w ⟨i0,ajG,js,hw⟩;refine⟨λgH=>⟨⟨by omega,by omega⟩,by decide,?_⟩,λgH=>?_⟩;rw[Uh (by omega) (by omega) (by omega)];obtain⟨c,lV⟩:∃c,c=(i+j)/2:=⟨_,rfl⟩;rw[<-lV];obtain⟨p,ad,x,y,J,ah,bJ,c1,d0,d1,_⟩:=hw.EZ (x:=c) (y:=a) (by omega) (by omega) (by omega) (by omega);refine⟨p,ad,⟨by omega,by omega⟩,p,ad,⟨by omega,by omega⟩,_,bJ,_,c1,_,d0,_,d1,?_⟩;refine I x y w _ J ah (hw.base b9 ko) λY=>⟨λ_=>⟨⟨by omega,by omega⟩,⟨by omega,by omega,by omega,hw⟩,by dsimp only;omega⟩,λ_=>⟨⟨by omega,by omega,by omega,hw⟩,by dsimp only;omega⟩⟩;refine⟨λk w=>a<=k/\jA ai u s l w,λk _=>(i-k).toNat,⟨by omega,hw⟩,?_⟩;rintro k w ⟨jG,hw⟩;refine⟨⟨by omega,by omega⟩,λhk=>?_,λ_=>au w hw⟩;obtain⟨p,ad,x,y,J,ah,bJ,c1,d0,d1,dW⟩:=hw.EZ (x:=k) (y:=k+1) (by omega) (by omega) (by omega) (by omega);refine⟨⟨by omega,by omega⟩,⟨by omega,by omega⟩,p,ad,⟨by omega,by omega⟩,p,ad,⟨by omega,by omega⟩,_,d0,_,d1,_,bJ,_,c1,p,ad,⟨by omega,by omega⟩,?_⟩;exact dW _ _ (λb8 hs=>⟨⟨by omega,by omega⟩,⟨by omega,hs⟩,by dsimp only;omega⟩) λv1 h1=>⟨p,ad,⟨by omega,by omega⟩,h1⟩;refine⟨λi j w=>a<=i/\i<=j/\j<=m/\jA ai u s l w,λi j _=>(j-i).toNat,⟨by omega,by omega,by omega,h⟩,?_⟩;rintro i j w ⟨i0,ajG,js,hw⟩;refine⟨λgH=>⟨⟨by omega,by omega⟩,by decide,?_⟩,λgH=>?_⟩;rw[Uh (by omega) (by omega) (by omega)];obtain⟨c,lV⟩:∃c,c=(i+j)/2:=⟨_,rfl⟩;rw[<-lV];obtain⟨p,ad,x,y,J,ah,bJ,c1,d0,d1,_⟩:=hw.EZ (x:=m) (y:=c) (by omega) (by omega) (by omega) (by omega);refine⟨p,ad,⟨by omega,by omega⟩,p,ad,⟨by omega,by omega⟩,_,bJ,_,c1,_,d0,_,d1,?_⟩;refine I x y w _ J ah (hw.base b9 ko) λY=>⟨λ_=>⟨⟨by omega,by omega⟩,⟨by omega,by omega,by omega,hw⟩,by dsimp only;omega⟩,λ_=>⟨⟨by omega,by omega,by omega,hw⟩,by dsimp only;omega⟩⟩;refine⟨λk w=>k<=m/\jA ai u s l w,λk _=>(k-i).toNat,⟨by omega,hw⟩,?_⟩;rintro k w ⟨jG,hw⟩;refine⟨λhk=>?_,λ_=>au w hw⟩;obtain⟨p,ad,x,y,J,ah,bJ,c1,d0,d1,dW⟩:=hw.EZ (x:=k) (y:=k-1) (by omega) (by omega) (by omega) (by omega);refine⟨⟨by omega,by omega⟩,⟨by omega,by omega⟩,p,ad,⟨by omega,by omega⟩,p,ad,⟨by omega,by omega⟩,_,d0,_,d1,_,bJ,_,c1,p,ad,⟨by omega,by omega⟩,?_⟩;exact dW _ _ (λb8 hs=>⟨⟨by omega,by omega⟩,⟨by omega,hs⟩,by dsimp only;omega⟩) λv1 h1=>⟨p,ad,⟨by omega,by omega⟩,h1⟩;rw[Uh (by omega) (by omega) (by omega)];obtain⟨e4,N2⟩:∃e4,e4=(a+b)/2:=⟨_,rfl⟩;rw[<-N2];refine⟨⟨by omega,by omega⟩,by decide,⟨by omega,by omega⟩,?_⟩;intro anA aqN;have body:∀s0 mS:o,a<=s0->s0<=mS->mS<=m->mS<=e4->e4+m-b<=s0->(m<=e4∨e4=mS)->anA s0 mS v:=by
   intro s0 mS cM c6 da fk pZ Hs;refine aqN s0 mS v ⟨⟨by omega,by omega⟩,λi j w=>s0<=i/\i<=j/\j<=mS/\jA ai u s l w,λi j _=>(j-i).toNat,⟨by omega,by omega,by omega,h⟩,?_⟩;rintro i j w ⟨i0,ajG,js,hw⟩;refine⟨λgH=>⟨⟨by omega,by omega⟩,by decide,?_⟩,λgH=>⟨⟨by omega,by omega⟩,?_⟩⟩;rw[Uh (by omega) (by omega) (by omega)];obtain⟨c,lV⟩:∃c,c=(i+j)/2:=⟨_,rfl⟩;rw[<-lV];obtain⟨p,ad,x,y,J,ah,bJ,c1,d0,d1,_⟩:=hw.EZ (x:=e4+m-1-c) (y:=c) (by omega) (by omega) (by omega) (by omega);refine⟨⟨by omega,by omega⟩,p,ad,⟨by omega,by omega⟩,p,ad,⟨by omega,by omega⟩,_,bJ,_,c1,_,d0,_,d1,?_⟩;refine I x y w _ J ah (hw.base b9 ko) λY=>⟨λ_=>⟨⟨by omega,by omega⟩,⟨by omega,by omega,by omega,hw⟩,by dsimp only;omega⟩,λ_=>⟨⟨by omega,by omega,by omega,hw⟩,by dsimp only;omega⟩⟩;intro anB aqS;have fin:∀Y,jA ai u s l Y->anB Y:=by
    intro Y aC;refine aqS Y ?_;intro WD X5;have XI:∀Y,jA ai u s l Y->WD Y:=by intro Y aC;refine X5 Y ⟨λaS=>⟨λaB=>?_,λ_=>au Y aC⟩,λ_=>au Y aC⟩;exact aM (by omega) aC (by omega) (by omega) (by omega) (by omega) au
    refine⟨λaS=>⟨λaB=>?_,λ_=>XI Y aC⟩,λ_=>XI Y aC⟩;exact aM (by omega) aC (by omega) (by omega) (by omega) (by omega) XI
   refine⟨λaS=>⟨λaB=>?_,λ_=>fin w hw⟩,λ_=>fin w hw⟩;exact spec.rotateR hw fB (by omega) (by omega) (by omega) (by omega) fin
  refine⟨λbD=>⟨⟨by omega,by omega⟩,body _ _ (by omega) (by omega) (by omega) (by omega) (by omega) (by omega)⟩,λgG=>body _ _ (by omega) (by omega) (by omega) (by omega) (by omega) (by omega)⟩
def spec.Cf(aa:aJ ai u 52 2 s (l.flatMap cR))(b9:ub.le u)(ko:∀b,s.aj=some b->ub b=none)(I:LZ ub l fv)(fB:l.length<=1000000)
  (au:∀(u':H) (m:M az),m.Perm l->aJ ai u' 52 2 s (m.flatMap cR)->gO u u' s->K u'):C.Cf s fv u K:=by
 have h:jA ai u s l u:=⟨gO.refl _ _,l,.refl _,aa⟩
 have dw:=h.len
 have fin:∀v,jA ai u s l v->K v:=λv ⟨he,m,ad,aa⟩=>au v m ad aa he
 apply aG.Cf
 apply aG.VD
 refine⟨λa b w=>0<=a/\a<=s.n/\b=a+20/\jA ai u s l w,λa _ _=>((s.n:o)-a).toNat,⟨by omega,by omega,by omega,h⟩,?_⟩
 rintro a b w ⟨a0,ac,ab,hw⟩
 refine⟨λhle=>?_,λxv=>?_⟩
 exact spec.ajM b9 ko I hw fB (by omega) (by omega) (by omega) λb8 hs=>⟨⟨by omega,by omega⟩,⟨by omega,by omega,by omega,hs⟩,by dsimp only;omega⟩
 refine spec.ajM b9 ko I hw fB (by omega) (by omega) (by omega) λb8 hs=>?_
 refine⟨λ_ _ k w=>20<=k/\k<=4000000/\jA ai u s l w,λ_ _ k _=>(4000000-k).toNat,⟨by omega,by omega,hs⟩,?_⟩
 rintro _ _ k w ⟨jG,b3,hw⟩
 refine⟨λhk=>⟨⟨by omega,by omega⟩,?_⟩,λ_=>fin w hw⟩
 refine⟨λx y w=>0<=x/\x<=s.n/\y=x+2*k/\jA ai u s l w,λx _ _=>((s.n:o)-x).toNat,⟨by omega,by omega,by omega,hw⟩,?_⟩
 rintro x y w ⟨bL,dC,ah,hw⟩
 refine⟨λhle=>⟨⟨by omega,by omega⟩,?_⟩,λxv=>⟨⟨by omega,by omega⟩,λhm=>?_,λ_=>⟨⟨by omega,by omega⟩,⟨by omega,by omega,hw⟩,by dsimp only;omega⟩⟩⟩
 exact spec.amo b9 ko I fB (y-x).toNat (by omega) hw (by omega) (by omega) (by omega) (by omega) λb8 hs=>⟨⟨by omega,by omega⟩,⟨by omega,by omega⟩,⟨by omega,by omega,by omega,hs⟩,by dsimp only;omega⟩
 exact spec.amo b9 ko I fB ((s.n:o)-x).toNat (by omega) hw (by omega) (by omega) (by omega) (by omega) λb8 hs=>⟨⟨by omega,by omega⟩,⟨by omega,by omega,hs⟩,by dsimp only;omega⟩
structure Rn(ub u:H)(s:U)(l:M az)(d:o)(u':H)(n:av):Prop where
 one:∀x∈n.bM,hM u' x
 nodup:n.own.Nodup
 out:∀c∈n.own,ub c=none/\u' c≠none
 all:n.bA.all.Perm (l.map az.bz)
 ok:ga d n.bA
 rows:∀x∈n.bM,∀r∈x.1.rows,r∈l
 size:n.bM.length+1<=2*l.length
 tY:∀c z,u c=some z->s.aj≠some c->u' c=some z
namespace kR
def Mf:hn aH 122=ak:=by kernel_rfl
def WN:hn aH 125=ak:=by kernel_rfl
def WW(a b:N):kG aH 211 2 #[(0,.pointer (some ⟨a,0,none⟩)),(1,.pointer (some ⟨b,0,none⟩))]=some (167,[.pointer (some ⟨a,0,none⟩),.pointer (some ⟨b,0,none⟩)]):=by kernel_rfl
abbrev yQ(n0 b4:N):ap:=.func (.func 122) #[] #[.pointer (some ⟨n0,0,none⟩),.pointer (some ⟨b4,0,none⟩)]
structure wX(ub:H)(n0 b4 cZ:N)(d leaf:o):Prop where
 bJ:ub.cell? ⟨n0,0,none⟩=some (.pointer (some ⟨cZ,0,none⟩))
 c1:ub.cell? ⟨b4,0,none⟩=some (yQ n0 b4)
 LI:ub.cell? ⟨cZ,0,none⟩=some (.int .i64 d)
 qU:ub.cell? ((cB cZ 0 none).add 1)=some (.int .i64 leaf)
def wX.mono{n0 b4 cZ:N}{leaf:o}(h:wX ub n0 b4 cZ d leaf)(k:ub.le u):wX u n0 b4 cZ d leaf:=⟨H.le.cell k h.bJ,H.le.cell k h.c1,H.le.cell k h.LI,H.le.cell k h.qU⟩
def Xd{n11:N}{wd:o}(I:ub.cell? ⟨n11,0,none⟩=some (.int .i64 wd))(h0:0<=wd)(h1:wd<d)(aA:∀r∈l,Ints ub r.s r.v)(bE:hD l d):
  LZ ub l (.func (.func 125) #[] #[.pointer (some ⟨n11,0,none⟩)]):=by
 intro a b v K aE ab hle au
 refine⟨_,_,_,rfl,hh WN,aG.abz a.id a.s b.id b.s ⟨n11,0,none⟩ v K ?_⟩
 have Ah:=(aA a aE).mono hle
 have qY:=(aA b ab).mono hle
 obtain⟨ac,a2⟩:=bE.v a aE
 obtain⟨hE,fM⟩:=bE.v b ab
 have a6:=Ah.len
 have RI:=qY.len
 obtain⟨p,ad,J⟩:=Ah.at (x:=wd) h0 (by omega)
 obtain⟨q,aN,ah⟩:=qY.at (x:=wd) h0 (by omega)
 have aS:=a2.2 wd.toNat (by omega)
 have aB:=fM.2 wd.toNat (by omega)
 have CV:=H.le.cell hle I
 exact⟨wd,CV,p,ad,⟨h0,by omega⟩,_,J,wd,CV,q,aN,⟨h0,by omega⟩,_,ah,⟨by have:=aS.1;have:=aS.2;have:=aB.1;have:=aB.2;omega,by have:=aS.1;have:=aS.2;have:=aB.1;have:=aB.2;omega⟩,au _⟩
def spec.Xc{n0 b4 cZ:N}{leaf:o}(A5:1<=leaf):∀(dg:N) {ub u:H} {s:U} {l:M az} {K:ay bc->H->Prop},l.length<=dg->wX ub n0 b4 cZ d leaf->aJ ub u 52 2 s (l.flatMap cR)->(∀r∈l,Ints ub r.s r.v)->hD l d->
  (l=[]->K none u)->(l≠[]->∀u' n,Rn ub u s l d u' n->lG 2 n.bA->K (some ⟨n.b,0,none⟩) u')->C.Pe s ⟨n0,0,none⟩ ⟨b4,0,none⟩ u K:=by
 intro dg
 induction dg with
 |zero=>intro ub u s l K eF b6 aa aA bE h0 _;have ar:l=[]:=kN (by omega);have dw:s.n=l.length:=gW fI (by decide) aa.own.cE;apply aG.Pe;refine⟨λ_=>h0 ar,λal=>aW (by rw[dw,ar];rfl) al⟩
 |succ dg aM=>
  intro ub u s l K eF b6 aa aA bE h0 au;have dw:s.n=l.length:=gW fI (by decide) aa.own.cE;have aw:=bE.an;have aqM:=bE.len;apply aG.Pe;refine⟨λaC=>h0 (kN (by omega)),λZX=>?_⟩;have al:l≠[]:=λe=>ZX (by rw[dw,e];rfl);have au:=au al;have b9:=aa.le;have bX:en u s l:=⟨aa.own.cE,λr O=>(aA r O).mono b9⟩;refine⟨_,H.le.cell b9 b6.bJ,_,rfl,d,H.le.cell b9 b6.LI,?_⟩;refine spec.Cs bX bE al λbi aD jY hJ h1 h2 h3 f1 f2 f3=>?_;obtain⟨hE,fM,w4,CR,IT,CS⟩:=afa bE al;have abP:u.le hJ:=h1.le;have ZB:bi.n=(mD l).length:=h1.ints.len;have pN:aD.n=(mC l).length:=h2.ints.len;intro n11 ux;refine mT (zs:=[.int .i64 0]) rfl (by simp[cT]) ?_;have T5:=H.b1 (u:=hJ) (b:=n11) (.cells [cY .i64 0].toArray 3 (0,0)) ux;have ava:ub n11=none:=b9.none (abP.none ux);refine⟨λx w=>0<=x/\hJ.le w/\∃wd:o,0<=wd/\wd<d/\w n11=some (.cells #[.int .i64 wd] 3 (0,0)),λx _=>(d-x).toNat,⟨by omega,T5,0,by omega,by omega,H.bh _ _ _⟩,?_⟩;rintro x w ⟨bL,lw,wd,wS,gj,hw⟩;have RT:w.cell? ⟨n11,0,none⟩=some (.int .i64 wd):=H.ba hw 0;have zc:=(h1.mono lw).ints;have F3:=(h2.mono lw).ints;have km:∀{v:M o} {i:N},dj v->i<v.length->-2147483647<=v.getD i 0/\v.getD i 0<=2147483647:=λaA hi=>aA.2 _ hi;obtain⟨c6,Ow,mG⟩:=F3.at (x:=wd) wS (by omega);obtain⟨cM,Gs,ho⟩:=zc.at (x:=wd) wS (by omega);have g3:=km w4 (i:=wd.toNat) (by omega);have g4:=km CR (i:=wd.toNat) (by omega);refine⟨λJ=>?_,λJ=>?_⟩;obtain⟨gX,gq,nm⟩:=zc.at (x:=x) bL J;obtain⟨dy,eY,vF⟩:=F3.at (x:=x) bL (by omega);have g1:=km w4 (i:=x.toNat) (by omega);have g2:=km CR (i:=x.toNat) (by omega);refine⟨dy,eY,⟨bL,by omega⟩,_,vF,gX,gq,⟨bL,J⟩,_,nm,⟨by omega,by omega⟩,wd,RT,c6,Ow,⟨wS,by omega⟩,_,mG,wd,RT,cM,Gs,⟨wS,by omega⟩,_,ho,⟨by omega,by omega⟩,λ_=>?_,λ_=>⟨⟨by omega,by omega⟩,⟨by omega,lw,wd,wS,gj,hw⟩,by dsimp only;omega⟩⟩;refine Il hw (by simp[cT]) ⟨⟨by omega,by omega⟩,⟨by omega,λc z I=>?_,x,bL,by omega,H.bh _ _ _⟩,by dsimp only;omega⟩;rw[H.bq _ _ (λe=>by rw[e,ux] at I;cases I)];exact lw c z I;have KI:u.le w:=abP.trans lw;have k0:ub.le w:=b9.trans KI;intro EN Jk;have kd:∀kids:M bF,oR ((bF.mk 2 (mD l) (mC l) 0 (l.map az.bz) kids).hA []) d/\∀rows:M j2,oR ((bF.mk 2 (mD l) (mC l) 0 rows kids).hA []) d:=λkids=>
   ⟨⟨aw,p4,λx J=>(by cases J),.inr (.inl ⟨rfl,rfl,w4,CR,hE,fM,IT⟩)⟩,λrows=>⟨aw,p4,λx J=>(by cases J),.inr (.inl ⟨rfl,rfl,w4,CR,hE,fM,IT⟩)⟩⟩
  have ins:∀rows kids,∀Y∈l.map az.bz,mZ ((bF.mk 2 (mD l) (mC l) 0 rows kids).hA []) Y.2:=λrows kids Y aC=>by obtain⟨r,O,rfl⟩:=bf.1 aC;refine⟨λ_ i hi=>CS r O i ?_,λh=>(by cases h)⟩;have:=(bE.v r O).1;have qw:i<r.v.length:=hi;omega
  have Pn:EN ak w:=by
   refine Jk ak w ⟨λ_ n31 sb=>?_,λe=>(by cases e)⟩;obtain⟨qv,iD⟩:∃bU:er,bU=⟨n31,2,bi,aD,mD l,mC l,0,s,l,⟨none,0,0⟩⟩:=⟨_,rfl⟩;have rB:=H.b1 (u:=w) (b:=n31) (.cells (eS qv).toArray 213 (0,0)) sb;have key:=au (w.ins n31 (.cells (eS qv).toArray 213 (0,0))) (.mk qv []);have db:∀g,s.aj=some g->u g≠none:=λg W=>dE aa W;have ZP:∀{t:U},(∀g,t.aj=some g->w g≠none)->∀g,t.aj=some g->g≠n31:=λht g W e=>ht g W (by rw[e];exact sb);have zm:∀g,bi.aj=some g->w g≠none:=λg W=>dE (h1.mono lw) W;have GW:∀g,aD.aj=some g->w g≠none:=λg W=>dE (h2.mono lw) W;have ks:∀g,s.aj=some g->w g≠none:=λg W=>dE (aa.mono KI) W;have pR:(av.mk qv []).own=n31::(bi.aj.toList++aD.aj.toList++s.aj.toList):=by rw[av.rG,iD];simp[av.h,av.kids,er.dv,U.aj]
   refine(show K (some ⟨n31,0,none⟩) _ from ?_);have fS:(bC #[.int .i64 2,.slice bi.a bi.n bi.c,.slice aD.a aD.n aD.c,.int .u64 0,.int .u64 0,.slice none 0 0,.slice s.a s.n s.c,.slice none 0 0] 213 (0,0))=.cells (eS qv).toArray 213 (0,0):=by rw[iD];rfl
   rw[fS];have JB:(av.mk qv []).b=n31:=by rw[iD];rfl
   rw[JB] at key;refine key ⟨λy ah=>?_,?_,λc I=>?_,?_,?_,λy ah r O=>?_,?_,λc z I lj=>rB c z (KI c z I)⟩ (by rw[av.hx,iD];exact .mk rfl λk hk=>(by cases hk));rw[av.iu] at ah;obtain rfl:y=(qv,[]):=by simpa[av.h,av.kids] using ah
   subst iD;exact⟨H.bh _ _ _,((h1.mono lw).mono rB).own,((h2.mono lw).mono rB).own,((aa.mono KI).mono rB).own,λr O=>(aA r O).mono (k0.trans rB),⟨rfl,cA _,by show 0<=9223372036854775807;omega,.inl rfl⟩⟩;rw[pR,hI];refine⟨λhm=>?_,?_⟩;simp only[cN,so] at hm;rcases hm with(hm|hm)|hm;exact ZP zm n31 hm rfl;exact ZP GW n31 hm rfl;exact ZP ks n31 hm rfl;have eH:∀z:ay N,z.toList.Nodup:=λz=>by cases z<;>simp
   rw[gh,gh];refine⟨⟨eH _,eH _,λa aE b ab e=>?_⟩,eH _,λa aE b ab e=>?_⟩;rw[so] at aE ab;exact f1 (by rw[aE,ab,e]);rw[so] at ab;simp only[cN,so] at aE;subst e;rcases aE with aE|aE;exact db a ab (h1.fresh a aE);exact db a ab (h2.fresh a aE);rw[pR] at I;simp only[cJ,cN,so] at I;rcases I with rfl|(I|I)|I;exact⟨k0.none sb,by rw[H.bh];simp⟩;exact⟨b9.none (h1.fresh c I),λe=>zm c I (rB.none e)⟩;exact⟨b9.none (h2.fresh c I),λe=>GW c I (rB.none e)⟩;exact⟨aa.fresh c I,λe=>ks c I (rB.none e)⟩;rw[av.tm,av.iu];subst iD;simp[av.h,av.kids];rw[av.hx];subst iD;refine .mk (kd []).1 (λY aC=>ins _ _ Y ?_) λk hk=>(by cases hk);rw[bF.all_eq] at aC;have By:Y∈l.map az.bz++ []:=aC;rwa[ly] at By;rw[av.iu] at ah;obtain rfl:y=(qv,[]):=by simpa[av.h,av.kids] using ah
   subst iD;exact O;rw[av.iu];have:=wx.2 al;simp[av.kids];omega
  have inner:leaf<s.n->EN ax w:=by
   intro bD;refine Jk ax w ⟨λe=>(by cases e),λ_=>?_⟩;obtain⟨sz,Bu⟩:∃sz:H,sz=λc=>if c=n11 then w n11 else ub c:=⟨_,rfl⟩;have amI:sz n11=w n11:=by rw[Bu];exact a1 rfl
   have ad5:∀{c},c≠n11->sz c=ub c:=λ{c} I=>by rw[Bu];exact aF I
   have bu:ub.le sz:=λc z I=>by rw[ad5 (λe=>by rw[e,ava] at I;cases I)];exact I
   have av3:sz.le w:=λc z I=>by by_cases e:c=n11;rw[e,amI] at I;rw[e];exact I;rw[ad5 e] at I;exact k0 c z I
   have auN:∀b,s.aj=some b->sz b=none:=λb ab=>by rw[ad5 (λe=>dE aa ab (by rw[e];exact abP.none ux))];exact aa.fresh b ab
   have aoY:sz.cell? ⟨n11,0,none⟩=some (.int .i64 wd):=H.ba (amI.trans hw) 0;refine spec.Cf (aa.mono KI) av3 auN (Xd aoY wS gj (λr O=>(aA r O).mono bu) bE) (by omega) λu32 m ad oA AX=>?_;have pP:=ad.length_eq;have mK:ub.le u32:=λc z I=>AX c z (k0 c z I) λe=>by have:=aa.fresh c e;rw[I] at this;cases this
   have ZI:hD m d:=bE.mix ad;have s7:∀r∈m,Ints ub r.s r.v:=λr O=>aA r (ad.mem_iff.1 O);have as9:=b6.mono mK;have SA:en u32 s m:=⟨oA.own.cE,λr O=>(s7 r O).mono mK⟩;have ir:=br.cap oA.own.cE;obtain⟨e4,N2⟩:∃e4:N,e4=s.n/2:=⟨_,rfl⟩;have Xx:gR (s.n:o) 2=(e4:o):=by rw[Lf (by omega)];omega
   rw[Xx];have cX:en u32 (s.part 0 e4 s.c 2) (m.take e4):=by have:=SA.part (l:=0) (h:=e4) (m:=s.c) (by omega) (by omega) (by omega) (cA _);simpa using this
   have SB:en u32 (s.part e4 s.n s.c 2) (m.drop e4):=by have:=SA.part (l:=e4) (h:=s.n) (m:=s.c) (by omega) (cA _) ir (cA _);rwa[hR (by rw[oH];omega)] at this
   have QG:∀{Y:H} {Q:U->H->Prop},Q (s.part 0 e4 s.c 2) Y->dd aH (h6 22 (.slice s.a s.n s.c) none (some (.int .i64 (e4:o))) none) [.one .slice] Y Q:=λfb=>
    oM (P:=aH) kF (l:=0) (h:=e4) (m:=s.c) (.inl ⟨rfl,rfl⟩) (.inr rfl) (.inl ⟨rfl,rfl⟩) (by omega) (by omega) (cA _) ir fb
   have Cc:∀{Y:H} {Q:U->H->Prop},Q (s.part e4 s.n s.c 2) Y->dd aH (h6 22 (.slice s.a s.n s.c) (some (.int .i64 (e4:o))) none none) [.one .slice] Y Q:=λfb=>
    oM (P:=aH) kF (l:=e4) (h:=s.n) (m:=s.c) (.inr rfl) (.inl ⟨rfl,rfl⟩) (.inl ⟨rfl,rfl⟩) (by omega) ir (cA _) ir fb
   have gn:(m.take e4).length=e4:=by rw[gZ];omega
   have h4:(m.drop e4).length=m.length-e4:=by rw[oH]
   have Gk:m.take e4≠[]:=λe=>by rw[e] at gn;simp at gn;omega
   have rl:m.drop e4≠[]:=λe=>by rw[e] at h4;simp at h4;omega
   have Eh:∀{Y fm:H} {t:U} {k:M az} {Q:ay bc->H->Prop},u32.le Y->aJ Y fm 52 2 t (k.flatMap cR)->k≠[]->k.length<=dg->k.Sublist m->(∀u' n,Rn Y fm t k d u' n->lG 2 n.bA->Y.le u'->Q (some ⟨n.b,0,none⟩) u')->
     hY aH (yQ n0 b4) #[.slice t.a t.n t.c] [.one .ptr] fm Q:=λ{Y fm t k Q} aC jb hk Zt sa fb=>
    ⟨_,_,_,rfl,hh Mf,aM Zt (as9.mono aC) jb (λr O=>(s7 r (sa.mem O)).mono (mK.trans aC)) (ZI.sub sa) (λe=>aW e hk) λ_ u' n I fo=>fb u' n I fo λc z bP=>I.tY c z (jb.le c z bP) λe=>by have:=jb.fresh c e;rw[bP] at this;cases this⟩
   have PK:Own u32 3 1 bi ((mD l).flatMap encI):=(h1.mono lw).own.le λc z I bP=>AX c z bP λe=>dE aa e (h1.fresh c I);have aky:Own u32 3 1 aD ((mC l).flatMap encI):=(h2.mono lw).own.le λc z I bP=>AX c z bP λe=>dE aa e (h2.fresh c I);have second:∀{Y jk:H} {t:U} {ff:av},u32.le Y->Rn u32 jk t (m.take e4) d Y ff->lG 2 ff.bA->C.kO (s.part e4 s.n s.c 2) Y (λ(sx:U) (EA:H)=>(H.le u32 EA)/\(hY aH (yQ n0 b4) #[.slice sx.a sx.n sx.c] [.one .ptr] EA (λ(acs:ay bc) (mq:H)=>(H.le u32 mq)/\(dd aH (dL 211 2 #[(0,.pointer (some ⟨ff.b,0,none⟩)),(1,.pointer acs)]) [.one .slice] mq (λ(mn:U) (gT:H)=>(H.le u32 gT)/\(∀n49:N,(gT n49=none)->K (some ⟨n49,0,none⟩) (gT.ins n49 (.cells #[.int .i64 2,.slice bi.a bi.n bi.c,.slice aD.a aD.n aD.c,.int .u64 0,.int .u64 0,.slice none 0 0,.slice none 0 0,.slice mn.a mn.n mn.c] 213 (0,0))))))))):=by
    intro Y jk t ff aC I uC;refine spec.kO (SB.1.mono aC) (by show s.n-e4<=_;omega) λsx EA Oi _=>⟨aC.trans Oi.le,Eh aC Oi rl (by omega) (HI _ _) λmq cb ab sc v7=>⟨aC.trans v7,?_⟩⟩;refine mo (WW ff.b cb.b) λg W=>?_;have pU:=H.b1 (u:=mq) (b:=g) (.cells [hy (some ⟨ff.b,0,none⟩),.pointer (some ⟨cb.b,0,none⟩)].toArray 167 (0,0)) W;have mk:=aJ.make (k:=1) (H.le.refl mq) W (cells:=[hy (some ⟨ff.b,0,none⟩),.pointer (some ⟨cb.b,0,none⟩)].toArray) (e:=167) (n:=2) (by omega) rfl;obtain⟨gT,OT⟩:∃gT,gT=mq.ins g (.cells [hy (some ⟨ff.b,0,none⟩),.pointer (some ⟨cb.b,0,none⟩)].toArray 167 (0,0)):=⟨_,rfl⟩;have Zc:gT g≠none:=by rw[OT,H.bh];simp
    rw[<-OT] at pU mk ⊢;refine⟨(aC.trans v7).trans pU,λn49 Dv=>?_⟩;obtain⟨kq,iD⟩:∃bU:er,bU=⟨n49,2,bi,aD,mD l,mC l,0,⟨none,0,0⟩,[],⟨some ⟨g,0,none⟩,2,2⟩⟩:=⟨_,rfl⟩;have fS:(bC #[.int .i64 2,.slice bi.a bi.n bi.c,.slice aD.a aD.n aD.c,.int .u64 0,.int .u64 0,.slice none 0 0,.slice none 0 0,.slice (some ⟨g,0,none⟩) 2 2] 213 (0,0))=.cells (eS kq).toArray 213 (0,0):=by rw[iD];rfl
    show K (some ⟨n49,0,none⟩) (gT.ins n49 (bC #[.int .i64 2,.slice bi.a bi.n bi.c,.slice aD.a aD.n aD.c,.int .u64 0,.int .u64 0,.slice none 0 0,.slice none 0 0,.slice (some ⟨g,0,none⟩) 2 2] 213 (0,0)));rw[fS];have zq:=H.b1 (u:=gT) (b:=n49) (.cells (eS kq).toArray 213 (0,0)) Dv;have key:=au (gT.ins n49 (.cells (eS kq).toArray 213 (0,0))) (.mk kq [ff,cb]);have YM:(av.mk kq [ff,cb]).b=n49:=by rw[iD];rfl
    rw[YM] at key;have Ph:u32.le (gT.ins n49 (.cells (eS kq).toArray 213 (0,0))):=((aC.trans v7).trans pU).trans zq;have zm:∀c,bi.aj=some c->u32 c≠none:=λc I=>aco PK I;have GW:∀c,aD.aj=some c->u32 c≠none:=λc I=>aco aky I;have KC:∀{c},u32 c≠none->Y c≠none:=λI e=>I (aC.none e);have Kx:∀{c},Y c≠none->mq c≠none:=λI e=>I (v7.none e);have DQ:∀{c},mq c≠none->gT c≠none:=λI e=>I (pU.none e);have abr:∀{c},gT c≠none->(gT.ins n49 (.cells (eS kq).toArray 213 (0,0))) c≠none:=λI e=>I (zq.none e);have pR:(av.mk kq [ff,cb]).own=n49::((bi.aj.toList++aD.aj.toList++ [g])++(ff.own++cb.own)):=by rw[av.rG,iD];simp[av.h,av.kids,er.dv,U.aj]
    have F2:(av.mk kq [ff,cb]).bM=(kq,[ff.b,cb.b])::(ff.bM++cb.bM):=by rw[av.iu];simp[av.h,av.kids]
    have Kz:∀c∈(bi.aj.toList++aD.aj.toList++ [g])++(ff.own++cb.own),ub c=none/\gT c≠none:=λc cH=>by simp only[cN,so,fV] at cH;rcases cH with((cH|cH)|rfl)|cH|cH;exact⟨b9.none (h1.fresh c cH),DQ (Kx (KC (zm c cH)))⟩;exact⟨b9.none (h2.fresh c cH),DQ (Kx (KC (GW c cH)))⟩;exact⟨mK.none (aC.none (v7.none W)),Zc⟩;exact⟨mK.none (I.out c cH).1,DQ (Kx (I.out c cH).2)⟩;exact⟨mK.none (aC.none (ab.out c cH).1),DQ (ab.out c cH).2⟩
    refine key ⟨λy ah=>?_,?_,λc cH=>?_,?_,?_,λy ah r O=>?_,?_,λc z YY lj=>Ph c z (AX c z (KI c z YY) lj)⟩ (by rw[av.hx,iD];refine .mk rfl λk hk=>?_;have dA:k∈[ff.bA,cb.bA]:=hk;simp only[cJ,qL,qM] at dA;rcases dA with rfl|rfl;exact uC;exact sc)
    rw[F2] at ah;rcases cJ.1 ah with rfl|ah;subst iD;exact⟨H.bh _ _ _,PK.le λc z _ bP=>Ph c z bP,aky.le λc z _ bP=>Ph c z bP,Own.nil _ _ _,λr O=>(by cases O),(mk.mono zq).own.cE⟩;rcases cN.1 ah with ah|ah;exact(I.one y ah).bN (λc z _ bP=>zq c z (pU c z (v7 c z bP))) λr O=>(s7 r (oa (I.rows y ah r O))).mono (mK.trans Ph);exact(ab.one y ah).bN (λc z _ bP=>zq c z (pU c z bP)) λr O=>(s7 r (ye (ab.rows y ah r O))).mono (mK.trans Ph);rw[pR,hI];refine⟨λhm=>(Kz n49 hm).2 Dv,?_⟩;have eH:∀z:ay N,z.toList.Nodup:=λz=>by cases z<;>simp
    rw[gh,gh,gh,gh];refine⟨⟨⟨eH _,eH _,λa aE b eG e=>?_⟩,by simp,λa aE b eG e=>?_⟩,⟨I.nodup,ab.nodup,λa aE b eG e=>?_⟩,λa aE b eG e=>?_⟩;rw[so] at aE eG;exact f1 (by rw[aE,eG,e]);rw[fV] at eG;simp only[cN,so] at aE;rw[<-e] at eG;subst eG;rcases aE with aE|aE;exact Kx (KC (zm _ aE)) W;exact Kx (KC (GW _ aE)) W;subst e;exact(I.out a aE).2 (ab.out a eG).1;subst e;simp only[cN,so,fV] at aE eG;rcases aE with(aE|aE)|rfl;rcases eG with eG|eG;exact zm a aE (I.out a eG).1;exact KC (zm a aE) (ab.out a eG).1;rcases eG with eG|eG;exact GW a aE (I.out a eG).1;exact KC (GW a aE) (ab.out a eG).1;rcases eG with eG|eG;exact Kx (I.out a eG).2 W;exact(ab.out a eG).2 W;rw[pR] at cH;rcases cJ.1 cH with rfl|cH;exact⟨mK.none (((aC.trans v7).trans pU).none Dv),by rw[H.bh];simp⟩;exact⟨(Kz c cH).1,abr (Kz c cH).2⟩;rw[av.hx,bF.all_eq,iD];show([]++bF.jS ([ff,cb].map av.bA)).Perm _;rw[nz];show(ff.bA.all++(cb.bA.all++ [])).Perm _;rw[ly];refine(I.all.append ab.all).trans ?_;rw[<-ek,u2];exact ad.map _;rw[av.hx];have dX:∀x,x∈(bF.mk kq.aD kq.bH kq.hi kq.cG (kq.rows.map az.bz) ([ff,cb].map av.bA)).all->x∈l.map az.bz:=λx J=>by rw[bF.all_eq] at J;subst iD;have fT:x∈[]++(ff.bA.all++(cb.bA.all++ [])):=J;rw[nz,ly] at fT;refine(ad.map az.bz).mem_iff.1 ?_;rcases cN.1 fT with fT|fT;obtain⟨r,O,rfl⟩:=bf.1 (I.all.mem_iff.1 fT);exact h7 (oa O);obtain⟨r,O,rfl⟩:=bf.1 (ab.all.mem_iff.1 fT);exact h7 (ye O)
    subst iD;refine .mk ((kd []).2 []) (λx J=>ins [] [] x (dX x J)) λk hk=>?_;have dA:k∈[ff.bA,cb.bA]:=hk;simp only[cJ,qL,qM] at dA;rcases dA with rfl|rfl;exact I.ok;exact ab.ok;rw[F2] at ah;rcases cJ.1 ah with rfl|ah;subst iD;cases O;rcases cN.1 ah with ah|ah;exact ad.mem_iff.1 (oa (I.rows y ah r O));exact ad.mem_iff.1 (ye (ab.rows y ah r O));rw[F2,hX,ez];have aS:=I.size;have aB:=ab.size;omega
   have left:∀{Y:H} {Q:U->H->Prop},u32.le Y->(∀t fm,aJ Y fm 52 2 t ((m.take e4).flatMap cR)->Q t fm)->C.kO (s.part 0 e4 s.c 2) Y Q:=λ{Y Q} aC fb=>
    spec.kO (cX.1.mono aC) (by show e4-0<=_;omega) λaq u' bP _=>fb aq u' bP
   have v:=H.le.cell mK b6.c1;refine⟨by decide,⟨by omega,by omega⟩,_,v,_,v,?_,?_⟩;refine QG ⟨H.le.refl _,left (H.le.refl _) λt fm jb=>⟨jb.le,?_,?_⟩,?_⟩;refine Eh (H.le.refl _) jb Gk (by omega) (rN _ _) λu' ff I uC hle=>⟨hle,Cc ⟨hle,second hle I uC⟩⟩;refine Cc ⟨jb.le,Eh (H.le.refl _) jb Gk (by omega) (rN _ _) λu' ff I uC hle=>⟨hle,second hle I uC⟩⟩;refine Cc ⟨H.le.refl _,left (H.le.refl _) λt fm jb=>⟨jb.le,Eh (H.le.refl _) jb Gk (by omega) (rN _ _) λu' ff I uC hle=>⟨hle,second hle I uC⟩⟩⟩;refine Cc ⟨H.le.refl _,QG ⟨H.le.refl _,left (H.le.refl _) λt fm jb=>⟨jb.le,Eh (H.le.refl _) jb Gk (by omega) (rN _ _) λu' ff I uC hle=>⟨hle,second hle I uC⟩⟩⟩⟩
  refine⟨_,H.le.cell k0 b6.bJ,_,rfl,leaf,H.le.cell k0 b6.qU,λhle=>Pn,λxv=>⟨wd,RT,cM,Gs,⟨wS,by omega⟩,_,ho,wd,RT,c6,Ow,⟨wS,by omega⟩,_,mG,?_⟩⟩;by_cases e:(mD l).getD wd.toNat 0=(mC l).getD wd.toNat 0;dsimp only;rw[mm e];exact Pn;dsimp only;rw[p7 e];exact inner (by omega)
end kR
end
