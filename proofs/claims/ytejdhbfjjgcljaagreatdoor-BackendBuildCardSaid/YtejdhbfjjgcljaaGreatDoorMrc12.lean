/- Texts of mine, joined and packed by pack.py. -/
import Derived.Test.YtejdhbfjjgcljaaGreatDoorMrc11
import Derived.Shelf.Spec.TrailingZeros
import Derived.OpenShut
set_option linter.all false
open Go renaming Program->dR,Value->ao,World->b6,TypeId->dC,Addr->ba,Code->iK
open _root_ renaming Nat->N,List->J,Option->ay,Array->cu,Int->o,Bool->aI,absurd->a6,Inhabited->lx
open Bool renaming true->ak,false->ax
open Go.IntKind renaming signed->F4,bits->F5,u64->bR,min->Gn,max->Gp
open Go.Instr renaming lookup->gK,buildSlice->dA,range->rq
open Go.Builtin renaming append_->dW,clear_->pQ,zeroCells->vP
open Go.Addr renaming add->ep,mk->cr
open Go.Proofs.Tryz renaming prog->aH
open Go.Value renaming int->cG,pointer->gS,oneCell'->cF
open Go.Obj renaming deferred->uD
open Int renaming tdiv->gw
open List.Perm renaming cons->iL
open Go.Exit renaming normal->r5
open List renaming replicate->eU,length->hR
open Function renaming comp->Tm
set_option maxRecDepth 100000
noncomputable section
namespace Go.Proofs.YtejdhbfjjgcljaaGreatDoor
open H
open _root_.Go.Proofs.Tryz
namespace eA
section
variable{ids:J o}{b:bP}{i:o}{s:J o×J bP}
def ato{a:bP}(h:bC a b=ak):a≠b:=λe=>by rw[e,Ie] at h;cases h
section
variable (ht:o->bP) (cc:o->J o)
def uw(b:bP)(id:o):bP:=if bC (ht id) b=ak then ht id else b
def pass(b:bP):bP:=(cc b.1).foldl (uw ht) b
def xk:N->bP->bP
 |0,b=>b|n+1,b=>pass ht cc (xk n b)
def Ww(l:J o)(b:bP):l.foldl (uw ht) b=b∨(bC (l.foldl (uw ht) b) b=ak/\∃i∈l,l.foldl (uw ht) b=ht i):=by
 induction l generalizing b with
 |nil=>exact .inl rfl|cons x l aL=>
  simp only[Jw];by_cases M:bC (ht x) b=ak;have e:uw ht b x=ht x:=by simp[uw,M]
  rw[e];rcases aL (ht x) with h|⟨h,i,hi,aC⟩;rw[h];exact .inr ⟨M,x,.head _,rfl⟩;exact .inr ⟨Md h M,i,.tail _ hi,aC⟩;have e:uw ht b x=b:=by simp[uw,M]
  rw[e];rcases aL b with h|⟨h,i,hi,aC⟩;exact .inl h;exact .inr ⟨h,i,.tail _ hi,aC⟩
def JI(ids:J o)(b:bP):N:=ids.countP λi=>bC (ht i) b
def axT(ids:J o)(b:bP):JI ht ids b<=ids.length:=List.countP_le_length
def axU(hi:i∈ids)(h:bC (ht i) b=ak):JI ht ids (ht i)<JI ht ids b:=by
 unfold JI;have aho:∀j,bC (ht j) (ht i)=ak->bC (ht j) b=ak:=λj aM=>Md aM h;induction ids with
 |nil=>cases hi
 |cons x l aL=>
  rw[List.countP_cons,List.countP_cons];have hle:l.countP (λj=>bC (ht j) (ht i))<=l.countP (λj=>bC (ht j) b):=List.countP_mono_left λj _ aM=>aho j aM;by_cases M:x=i;subst M;rw[h,Ie];simp;omega;have ql:i∈l:=by
    cases hi with
    |head=>exact a6 rfl M|tail _ h=>exact h
  have:=aL ql;by_cases h1:bC (ht x) (ht i)=ak;rw[h1,aho x h1];simpa using this;have qX:bC (ht x) (ht i)=ax:=by simpa using h1
  rw[qX];by_cases h2:bC (ht x) b=ak;rw[h2];simp;omega;have vb:bC (ht x) b=ax:=by simpa using h2
  rw[vb];simpa using this
def avz{n:N}(h:pass ht cc (xk ht cc n b)=xk ht cc n b):∀k,xk ht cc (n+k) b=xk ht cc n b:=by
 intro k;induction k with
 |zero=>rfl|succ k aL=>show pass ht cc (xk ht cc (n+k) b)=_;rw[aL,h]
def KN(dc:N)(at':o):o:=(xk ht cc dc (ht at')).1
def axg(b7:∀i,(ht i).1=i)(Z:b.1∈ids/\b=ht b.1)(ae:∀i∈cc b.1,i∈ids):(pass ht cc b).1∈ids/\pass ht cc b=ht (pass ht cc b).1:=by rcases Ww ht (cc b.1) b with h|⟨_,i,hi,h⟩;unfold pass;rw[h];exact Z;unfold pass;rw[h,b7];exact⟨ae i hi,rfl⟩
def Sl(b7:∀i,(ht i).1=i)(Z:b.1∈ids/\b=ht b.1)(ae:∀k∈ids,∀i∈cc k,i∈ids):∀n,(xk ht cc n b).1∈ids/\xk ht cc n b=ht (xk ht cc n b).1
 |0=>Z|n+1=>axg ht cc b7 (Sl b7 Z ae n) (ae _ (Sl b7 Z ae n).1)
def aeH{dc:N}{at':o}(b7:∀i,(ht i).1=i)(Z:at'∈ids)(ae:∀k∈ids,∀i∈cc k,i∈ids):KN ht cc dc at'∈ids:=
 (Sl ht cc b7 (by rw[b7];exact⟨Z,rfl⟩) ae dc).1
def iB(s:J o×J bP)(id:o):J o×J bP:=if id∈s.1 then s else(s.1++ [id],pK (ht id) s.2)
def u6:N->J o->J bP->J o
 |0,_,_=>[]|_+1,_,[]=>[]|n+1,met,x::l=>x.1::u6 n ((cc x.1).foldl (iB ht) (met,l)).1 ((cc x.1).foldl (iB ht) (met,l)).2
structure Met(ids:J o)(s:J o×J bP):Prop where
 nodup:s.1.Nodup
 sub:∀i∈s.1,i∈ids
 wait:∀h∈s.2,h.1∈s.1/\h=ht h.1
 FW:(s.2.map (·.1)).Nodup
 xR:qa s.2
def Met.one{at':o}(b7:∀i,(ht i).1=i)(h:at'∈ids):Met ht ids ([at'],[ht at']) where
 nodup:=by simp
 sub i hi:=by simp at hi;rw[hi];exact h
 wait bL bV:=by simp at bV;subst bV;rw[b7];exact⟨.head _,rfl⟩
 FW:=by simp
 xR:=by simp[qa]
def Met.step(b7:∀i,(ht i).1=i)(h:Met ht ids s)(hi:i∈ids):Met ht ids (iB ht s i):=by unfold iB;split;exact h;rename_i ae;refine⟨?_,?_,?_,?_,aiL h.xR⟩;refine gb.2 ⟨h.nodup,by simp,λa aE b Z=>?_⟩;simp at Z;subst Z;exact λe=>ae (e▸aE);intro j aM;rcases cK.1 aM with aM|aM;exact h.sub j aM;simp at aM;rw[aM];exact hi;intro x M;rcases cE.1 ((FB (ht i) s.2).mem_iff.1 M) with rfl|M;rw[b7];exact⟨by simp,rfl⟩;exact⟨iY _ (h.wait x M).1,(h.wait x M).2⟩;have ad:=(FB (ht i) s.2).map (·.1);refine ad.nodup_iff.2 ?_;rw[gl,b7];refine hK.2 ⟨λhm=>?_,h.FW⟩;obtain⟨x,M,e⟩:=bk.1 hm;exact ae (e▸(h.wait x M).1)
def Met.fold(b7:∀i,(ht i).1=i):∀{l:J o} {s:J o×J bP},Met ht ids s->(∀i∈l,i∈ids)->Met ht ids (l.foldl (iB ht) s):=by
 intro l;induction l with
 |nil=>intro s h _;exact h
 |cons x l aL=>intro s h ar;exact aL (h.step ht b7 (ar x (.head _))) λi hi=>ar i (.tail _ hi)
def Met.tail{met:J o}{x:bP}{l:J bP}(h:Met ht ids (met,x::l)):Met ht ids (met,l) where
 nodup:=h.nodup
 sub:=h.sub
 wait y ah:=h.wait y (.tail _ ah)
 FW:=(hK.1 (by simpa using h.FW)).2
 xR:=(jJ.1 h.xR).2
def o5{l:J o}(ae:l.Nodup)(ag:∀i∈l,i∈ids):l.length<=ids.length:=by
 induction l generalizing ids with
 |nil=>simp|cons x l aL=>
  have M:=ag x (.head _);have h2:∀i∈l,i∈ids.erase x:=λi hi=>by refine(List.mem_erase_of_ne ?_).2 (ag i (.tail _ hi));exact λe=>(hK.1 ae).1 (e▸hi)
  have:=aL (hK.1 ae).2 h2;rw[List.length_erase_of_mem M] at this;have:0<ids.length:=Tk M;simp only[h5];omega
def Met.len(h:Met ht ids s):s.1.length<=ids.length:=o5 h.nodup h.sub
def due(dc:N)(s:J o×J bP):N:=s.2.length+(dc-s.1.length)
def apz(b7:∀i,(ht i).1=i)(h:Met ht ids s)(hi:i∈ids):due ids.length (iB ht s i)=due ids.length s:=by
 have h2:=(h.step ht b7 hi).len;unfold due;unfold iB at h2 ⊢;split;rfl;rename_i ae;rw[az ae] at h2;have e:(pK (ht i) s.2).length=s.2.length+1:=by rw[(FB (ht i) s.2).length_eq];simp
 simp only[e,eC,rA] at h2 ⊢;omega
def apy(b7:∀i,(ht i).1=i):∀{l:J o} {s:J o×J bP},Met ht ids s->(∀i∈l,i∈ids)->due ids.length (l.foldl (iB ht) s)=due ids.length s:=by
 intro l;induction l with
 |nil=>intro s _ _;rfl
 |cons x l aL=>intro s h ar;rw[Jw,aL (h.step ht b7 (ar x (.head _))) λi hi=>ar i (.tail _ hi),apz ht b7 h (ar x (.head _))]
def aqp(l:J o)(s:J o×J bP):(∀i∈s.1,i∈(l.foldl (iB ht) s).1)/\(∀i∈l,i∈(l.foldl (iB ht) s).1):=by
 induction l generalizing s with
 |nil=>exact⟨λi hi=>hi,λi hi=>by cases hi⟩
 |cons x l aL=>
  simp only[Jw];have h1:∀i∈s.1,i∈(iB ht s x).1:=λi hi=>by unfold iB;split;exact hi;exact iY _ hi
  have h2:x∈(iB ht s x).1:=by unfold iB;split;assumption;simp
  refine⟨λi hi=>(aL _).1 i (h1 i hi),λi hi=>?_⟩;cases hi with
  |head=>exact(aL _).1 x h2|tail _ hi=>exact(aL _).2 i hi
def aqq(b7:∀i,(ht i).1=i)(l:J o)(s:J o×J bP):∀h∈(l.foldl (iB ht) s).2,h∈s.2∨h.1∉s.1:=by
 induction l generalizing s with
 |nil=>exact λh bV=>.inl bV|cons x l aL=>intro h bV;rcases aL (iB ht s x) h bV with h1|h1;unfold iB at h1;split at h1;exact .inl h1;rename_i ae;rcases cE.1 ((FB (ht x) s.2).mem_iff.1 h1) with rfl|h1;rw[b7];exact .inr ae;exact .inl h1;refine .inr λhm=>h1 ?_;unfold iB;split;exact hm;exact iY _ hm
def aeY(b7:∀i,(ht i).1=i)(ae:∀k∈ids,∀i∈cc k,i∈ids):∀(n:N) (met:J o) (l:J bP),Met ht ids (met,l)->∀i∈u6 ht cc n met l,i∈ids:=by
 intro n;induction n with
 |zero=>intro met l _ i hi;cases hi
 |succ n aL=>
  intro met l h i hi;cases l with
  |nil=>cases hi
  |cons x l=>
   have M:=h.sub _ (h.wait x (.head _)).1;simp only[u6] at hi;cases hi with
   |head=>exact M|tail _ hi=>exact aL _ _ (Met.fold ht b7 (h.tail ht) (ae _ M)) i hi
def aeZ(b7:∀i,(ht i).1=i)(ae:∀k∈ids,∀i∈cc k,i∈ids):∀(n:N) (met:J o) (l:J bP),Met ht ids (met,l)->
  (u6 ht cc n met l).Nodup/\∀i∈u6 ht cc n met l,i∈l.map (·.1)∨i∉met:=by
 intro n
 induction n with
 |zero=>intro met l _;exact⟨JG,λi hi=>by cases hi⟩
 |succ n aL=>
  intro met l h;cases l with
  |nil=>exact⟨JG,λi hi=>by cases hi⟩
  |cons x l=>
   have M:=h.sub _ (h.wait x (.head _)).1;have ac:=Met.fold ht b7 (h.tail ht) (ae _ M);obtain⟨h1,h2⟩:=aL _ _ ac;have hk:∀i∈u6 ht cc n ((cc x.1).foldl (iB ht) (met,l)).1 ((cc x.1).foldl (iB ht) (met,l)).2,i∈l.map (·.1)∨i∉met:=by intro i hi;rcases h2 i hi with h3|h3;obtain⟨y,ah,rfl⟩:=bk.1 h3;rcases aqq ht b7 (cc x.1) (met,l) y ah with a7|a7;exact .inl (bk.2 ⟨y,a7,rfl⟩);exact .inr a7;exact .inr λhm=>h3 ((aqp ht (cc x.1) (met,l)).1 i hm)
   simp only[u6];refine⟨hK.2 ⟨λhm=>?_,h1⟩,λi hi=>?_⟩;have at4:=hK.1 (show(x.1::l.map (·.1)).Nodup by simpa using h.FW);rcases hk _ hm with h3|h3;exact at4.1 h3;exact h3 (h.wait x (.head _)).1;cases hi with
   |head=>exact .inl (by simp)|tail _ hi=>rcases hk i hi with h3|h3;exact .inl (by simp at h3 ⊢;exact .inr h3);exact .inr h3
end
def Ec(ht:o->bP)(NE:N->o->J o)(dc lv:N):N->o->o
 |0,at'=>at'|c+1,at'=>Ec ht NE dc lv c (KN ht (NE (lv+c+1)) dc at')
def aeD{ht:o->bP}{NE:N->o->J o}{dc lv:N}(b7:∀i,(ht i).1=i)(ae:∀lv,∀k∈ids,∀i∈NE lv k,i∈ids):∀(c:N) (at':o),at'∈ids->Ec ht NE dc lv c at'∈ids
 |0,_,h=>h|c+1,at',h=>aeD b7 ae c _ (aeH ht _ b7 h (ae _))
end
section
variable{u ai u' ub:H}{b lv c n:N}{s t:U}{q l:J o}{K:o->H->Prop}
def uu{e k:N}{xs:J ao}(h:aD ai u e k s xs){g:N}(W:s.aj=some g):u g≠none:=by
 rcases h.own.is with h0|⟨bX,cur,aE,cb,_⟩;rw[h0] at W;simp[U.aj] at W;have:bX=g:=by simpa[U.aj,aE] using W
 rw[<-this,cb];simp
inductive bu where
 |tree
 |src
 |map
 |node (id:o)
 |vec (id:o)
 |arr (id:o) (lv:N)
structure dj where
 p:N
 sv:U
 v:J o
 ks:J U
 kn:J (J o)
 top:N
def jt(n:dj):J ao:=(.slice n.sv.a n.sv.n n.sv.c::n.ks.map λs=>.slice s.a s.n s.c)++ [.int .i64 n.top]
def jh(g:J (o×dj)):J (o×ao):=g.map λx=>(x.1,.pointer (some ⟨x.2.p,0,none⟩))
def eL(g:J (o×dj))(id:o):ay dj:=(g.find? λx=>x.1==id).map (·.2)
def Cd(g:J (o×dj))(id:o):fN (jh g) id=(eL g id).map λn=>gS (some ⟨n.p,0,none⟩):=by
 induction g with
 |nil=>rfl|cons x g aL=>
  unfold fN eL jh at*;simp only[gl,Gm];cases M:x.1==id with
  |true=>rfl|false=>exact aL
def ih{g:J (o×dj)}{id:o}{n:dj}(h:eL g id=some n):(id,n)∈g:=by
 unfold eL at h;cases ac:g.find? (λx=>x.1==id) with
 |none=>rw[ac] at h;cases h
 |some x=>
  rw[ac] at h;cases h;have h1:=Jk ac;have h2:=Jl ac;have:x.1=id:=by simpa using h2
  rw[<-this];exact h1
def z6{g:J (o×dj)}{id:o}:eL g id=none↔id∉g.map (·.1):=by unfold eL;rw[aa5,JA];simp only[bk,not_exists,not_and,S6]
def yk{g:J (o×dj)}{id:o}(h:id∈g.map (·.1)):∃n,eL g id=some n:=by
 cases M:eL g id with
 |some n=>exact⟨n,rfl⟩|none=>exact a6 h (z6.1 M)
def z1{g:J (o×dj)}(ae:(g.map (·.1)).Nodup){id:o}{n:dj}(h:(id,n)∈g):eL g id=some n:=by
 obtain⟨m,hm⟩:=yk (g:=g) (id:=id) (bk.2 ⟨_,h,rfl⟩);have h2:=ih hm;obtain⟨i,hi,sz⟩:=pc.1 h;obtain⟨j,aM,qU⟩:=pc.1 h2;have al:∀{i j:N} (hi:i<g.length) (aM:j<g.length),i<j->(g[i]).1≠(g[j]).1:=λhi aM gE=>by have:=nX.1 ae _ _ (by simpa using hi) (by simpa using aM) gE;simpa using this
 rcases SR i j with gE|gE|gE;exact a6 (by rw[sz,qU]) (al hi aM gE);subst gE;rw[sz] at qU;cases qU;exact hm;exact a6 (by rw[sz,qU]) (al aM hi gE)
structure mN(af:N->ay bu)(u:H)(id:o)(n:dj):Prop where
 cell:u n.p=some (.cells (jt n).toArray 230 (0,0))
 tag:af n.p=some (.node id)
 vec:Ints u n.sv n.v
 Bx:∀g,n.sv.aj=some g->af g=some (.vec id)
 uh:n.ks.length=31
 FF:n.kn.length=31
 arr:∀(lv:N) (s:U) (l:J o),n.ks[lv]?=some s->n.kn[lv]?=some l->aD BK u 3 1 s (l.flatMap encI)/\∀g,s.aj=some g->af g=some (.arr id lv)
def ny(af:N->ay bu)(id:o)(c:N):Prop:=af c=some (.node id)∨af c=some (.vec id)∨∃lv,af c=some (.arr id lv)
def ny.some{af:N->ay bu}{id:o}(h:ny af id c):af c≠none:=by rcases h with e|e|⟨lv,e⟩<;>rw[e]<;>simp
def mN.bM{af aY:N->ay bu}{id:o}{n:dj}(h:mN af u id n)(ac:∀c,ny af id c->aY c=af c)(hu:∀c z,u c=some z->ny af id c->u' c=some z):mN aY u' id n where
 cell:=hu _ _ h.cell (.inl h.tag)
 tag:=by rw[ac _ (.inl h.tag)];exact h.tag
 vec:=bt.else h.vec λg z W ab=>hu g z ab (.inr (.inl (h.Bx g W)))
 Bx g W:=by rw[ac _ (.inr (.inl (h.Bx g W)))];exact h.Bx g W
 uh:=h.uh
 FF:=h.FF
 arr lv s l h1 h2:=by obtain⟨h3,a7⟩:=h.arr lv s l h1 h2;exact⟨(h3.own.le λb z Z b9=>hu b z b9 (.inr (.inr ⟨lv,a7 b Z⟩))).f,λg W=>by rw[ac _ (.inr (.inr ⟨lv,a7 g W⟩))];exact a7 g W⟩
structure aT where
 dim:o
 cj:o
 src:N
 m:N
 st:o
 g:J (o×dj)
 entry:o
def fe(T:aT):J ao:=[.int .i64 T.dim,.int .i64 T.cj,.pointer (some ⟨T.src,0,none⟩),.map (some T.m),.int .i64 T.entry]
structure ef(af:N->ay bu)(u:H)(b:N)(T:aT):Prop where
 cell:u b=some (.cells (fe T).toArray 184 (0,0))
 src:u T.src=some (.cells #[.int .u64 T.st] 215 (0,0))
 GJ:dn T.st
 map:fs u T.m (jh T.g)
 dL:af b=some .tree
 hV:af T.src=some .src
 dh:af T.m=some .map
 nodes:∀x∈T.g,mN af u x.1 x.2
def ef.nodup{af:N->ay bu}{T:aT}(h:ef af u b T):(T.g.map (·.1)).Nodup:=by obtain⟨es,c,_,he⟩:=h.map;have:=he.nodup;unfold jh at this;rw[ez] at this;exact this
def ef.bM{af aY:N->ay bu}{T:aT}(h:ef af u b T)(ac:∀c,af c≠none->aY c=af c)(hu:∀c z,u c=some z->af c≠none->u' c=some z):ef aY u' b T where
 cell:=hu _ _ h.cell (by rw[h.dL];simp)
 src:=hu _ _ h.src (by rw[h.hV];simp)
 GJ:=h.GJ
 map:=h.map.else λz ab=>hu _ _ ab (by rw[h.dh];simp)
 dL:=by rw[ac _ (by rw[h.dL];simp)];exact h.dL
 hV:=by rw[ac _ (by rw[h.hV];simp)];exact h.hV
 dh:=by rw[ac _ (by rw[h.dh];simp)];exact h.dh
 nodes x M:=(h.nodes x M).bM (λc I=>ac c I.some) λc z ab ht=>hu c z ab ht.some
def ef.mono{af:N->ay bu}{T:aT}(h:ef af u b T)(hu:u.le u'):ef af u' b T:=h.bM (λ_ _=>rfl) λc z ab _=>hu c z ab
def ef.node{af:N->ay bu}{T:aT}(h:ef af u b T){id:o}{n:dj}(ae:eL T.g id=some n):mN af u id n:=h.nodes _ (ih ae)
def kB{af:N->ay bu}{T:aT}(h:ef af u b T):u.cell? ⟨b,0,none⟩=some (.int .i64 T.dim)/\u.cell? ((cr b 0 none).add 1)=some (.int .i64 T.cj)/\
  u.cell? ((cr b 0 none).add 2)=some (.pointer (some ⟨T.src,0,none⟩))/\u.cell? ((cr b 0 none).add 3)=some (.map (some T.m))/\u.cell? ((cr b 0 none).add 4)=some (.int .i64 T.entry):=by
 have Z:=h.cell
 refine⟨?_,?_,?_,?_,?_⟩<;>simp[H.cell?,ep,Z,fe]
def aan{n:dj}(h:n.ks.length=31):(jt n).length=33:=by simp[jt,h]
def awW(n:dj):(jt n)[0]?=some (.slice n.sv.a n.sv.n n.sv.c):=by simp[jt]
def awU{n:dj}(h:n.ks[lv]?=some s):(jt n)[1+lv]?=some (.slice s.a s.n s.c):=by obtain⟨ar,he⟩:=ir.1 h;unfold jt;rw[qy (by simp;omega),Nat.add_comm,xC,iD,h];rfl
def SF{n:dj}(h:n.ks.length=31):(jt n)[32]?=some (.int .i64 n.top):=by unfold jt;rw[C9 (by simp[h])];simp[h]
def FU{af:N->ay bu}{id:o}{n:dj}(h:mN af u id n)(i:N):u.cell? ⟨n.p,i,none⟩=(jt n)[i]?:=by simp[H.cell?,h.cell]
def dj.jz(n:dj)(lv:N)(s:U)(l:J o):dj:={n with ks:=n.ks.set lv s,kn:=n.kn.set lv l}
def awV{n:dj}(h:lv<n.ks.length)(s:U)(l:J o):jt (n.jz lv s l)=(jt n).set (1+lv) (.slice s.a s.n s.c):=by unfold jt dj.jz;simp only;rw[List.set_append_left _ _ (by simp;omega),Nat.add_comm,Jj,Gj]
def ab7{n:dj}(I:u n.p=some (.cells (jt n).toArray 230 (0,0)))(hk:n.ks.length=31)(ar:lv<31)(l:J o){f:H->Prop}
  (ac:f (u.ins n.p (.cells (jt (n.jz lv s l)).toArray 230 (0,0)))):H.aN u ⟨n.p,1+lv,none⟩ [.slice s.a s.n s.c] f:=by
 refine⟨_,_,I,rfl,by simp[aan hk];omega,by simp[cF],?_⟩
 have e:wr (jt n).toArray (1+lv) [.slice s.a s.n s.c]=(jt (n.jz lv s l)).toArray:=by rw[awV (by rw[hk];exact ar)];apply C7;rw[GX _ _ _ (by simp[aan hk];omega)];simp only[rA];rw[List.set_eq_take_append_cons_drop,aV (by rw[aan hk];omega)];simp
 simp only[e]
 exact ac
def qG(g:J (o×dj))(id:o)(n:dj):J (o×dj):=g.map λx=>if x.1=id then(x.1,n) else x
def ayG(g:J (o×dj))(id:o)(n:dj):(qG g id n).map (·.1)=g.map (·.1):=by unfold qG;rw[ez];refine zd λx _=>?_;simp only[Tm];split<;>rfl
def ayH{g:J (o×dj)}{id:o}{n n':dj}(bY:(g.map (·.1)).Nodup)(h:eL g id=some n)(ad:n'.p=n.p):jh (qG g id n')=jh g:=by unfold qG jh;rw[ez];refine zd λx M=>?_;simp only[Tm];split;rename_i e;have:eL g id=some x.2:=z1 bY (by rw[<-e];exact M);rw[h] at this;cases this;simp[ad];rfl
def Lb{g:J (o×dj)}{id:o}{n:dj}(i:o):eL (qG g id n) i=if i=id then(eL g i).map λ_=>n else eL g i:=by
 induction g with
 |nil=>simp[qG,eL]|cons x g aL=>unfold qG eL at*;simp only[gl,Gm];by_cases M:x.1=id;simp only[M,qx];by_cases hi:id=i;subst hi;simp;simp only[Of hi];exact aL;simp only[az M];by_cases hi:x.1=i;subst hi;simp[M];simp only[Of hi];exact aL
def awm{g:J (o×dj)}{id:o}{n:dj}{x:o×dj}(h:x∈qG g id n):(x.1≠id/\x∈g)∨(x=(id,n)/\id∈g.map (·.1)):=by obtain⟨y,ah,rfl⟩:=bk.1 h;split;rename_i e;exact .inr ⟨by rw[e],bk.2 ⟨y,ah,e⟩⟩;rename_i e;exact .inl ⟨e,ah⟩
def ef.set{af aY:N->ay bu}{T:aT}{id:o}{n n':dj}(h:ef af u b T)(ae:eL T.g id=some n)(ad:n'.p=n.p)(hJ:mN aY u' id n')(ac:∀c,af c≠none->¬ny af id c->aY c=af c)
  (hu:∀c z,u c=some z->af c≠none->¬ny af id c->u' c=some z):ef aY u' b {T with g:=qG T.g id n'}:=by
 have no:∀{c:N} {t:bu},af c=some t->(∀i,t≠.node i)->(∀i,t≠.vec i)->(∀i lv,t≠.arr i lv)->af c≠none/\¬ny af id c:=λe h1 h2 h3=>⟨by rw[e];simp,by rintro(aC|aC|⟨lv,aC⟩)<;>rw[e] at aC<;>cases aC;exact h1 _ rfl;exact h2 _ rfl;exact h3 _ _ rfl⟩
 have cc:=no h.dL (by simp) (by simp) (by simp)
 have ki:=no h.hV (by simp) (by simp) (by simp)
 have yW:=no h.dh (by simp) (by simp) (by simp)
 refine⟨hu _ _ h.cell cc.1 cc.2,hu _ _ h.src ki.1 ki.2,h.GJ,?_,by rw[ac _ cc.1 cc.2];exact h.dL,by simp only;rw[ac _ ki.1 ki.2];exact h.hV,by simp only;rw[ac _ yW.1 yW.2];exact h.dh,λx M=>?_⟩
 simp only
 rw[ayH h.nodup ae ad]
 exact h.map.else λz ab=>hu _ _ ab yW.1 yW.2
 rcases awm M with⟨al,M⟩|⟨rfl,_⟩
 have nJ:∀c,ny af x.1 c->¬ny af id c:=by rintro c (e|e|⟨lv,e⟩) (aC|aC|⟨vC,aC⟩)<;>rw[e] at aC<;>cases aC<;>exact al rfl
 exact(h.nodes x M).bM (λc I=>ac c I.some (nJ c I)) λc z ab I=>hu c z ab I.some (nJ c I)
 exact hJ
structure In(ai u:H)(af:N->ay bu)(b:N)(T:aT):Prop where
 aF:ef af u b T
 le:ai.le u
 out:∀c,af c≠none->ai c=none
 known:∀c,af c≠none->u c≠none
structure gy(u:H)(af:N->ay bu)(u':H)(aY:N->ay bu):Prop where
 bM:∀c z,u c=some z->af c=none->u' c=some z
 grow:∀c,aY c≠none->af c≠none∨u c=none
def gy.refl(u:H)(af:N->ay bu):gy u af u af:=⟨λ_ _ h _=>h,λ_ h=>.inl h⟩
def gy.trans{aS c9:H}{af cZ hY:N->ay bu}(h:gy u af aS cZ)(k:gy aS cZ c9 hY):gy u af c9 hY where
 bM c z I ac:=k.bM c z (h.bM c z I ac) (by
  cases e:cZ c with
  |none=>rfl|some t=>rcases h.grow c (by rw[e];simp) with h1|h1;exact a6 ac h1;rw[I] at h1;cases h1)
 grow c I:=by
  rcases k.grow c I with h1|h1;exact h.grow c h1;cases e:af c with
  |some t=>exact .inl (by simp)|none=>
   right;cases aC:u c with
   |none=>rfl|some z=>rw[h.bM c z aC e] at h1;cases h1
def gy.mono{aS:H}{af:N->ay bu}(h:u.le aS):gy u af aS af:=⟨λc z I _=>h c z I,λ_ h=>.inl h⟩
def gy.apart{v:H}{af aY:N->ay bu}(h:gy u af u' aY)(aA:v.le u)(aw:∀c,af c≠none->v c=none):v.le u'/\∀c,aY c≠none->v c=none:=by
 refine⟨λc z I=>h.bM c z (aA c z I) ?_,λc I=>?_⟩;cases e:af c with
 |none=>rfl|some t=>have:=aw c (by rw[e];simp);rw[I] at this;cases this
 rcases h.grow c I with h1|h1;exact aw c h1;exact aA.none h1
def In.mono{af:N->ay bu}{T:aT}(h:In ai u af b T)(hu:u.le u'):In ai u' af b T:=
 ⟨h.aF.mono hu,h.le.trans hu,h.out,λc I=>by obtain⟨z,ab⟩:=e3.1 (h.known c I);rw[hu c z ab];simp⟩
structure Ky(af:N->ay bu)(u:H)(id:o)(aY:N->ay bu)(u':H):Prop where
 wg:∀c,af c≠none->¬ny af id c->aY c=af c
 bM:∀c z,u c=some z->¬ny af id c->u' c=some z
 grow:∀c,aY c≠none->af c≠none∨u c=none
 known:∀c,aY c≠none->u' c≠none
def Ky.eQ{af aY:N->ay bu}{id:o}(h:Ky af u id aY u'):gy u af u' aY:=
 ⟨λc z I ac=>h.bM c z I λhm=>hm.some ac,h.grow⟩
def mN.level{gC:H}{af:N->ay bu}{id:o}{n:dj}(eG:mN af u id n)(vp:∀c,af c≠none->u c≠none){ap:U}{bw:J o}(ag:n.ks[lv]?=some s)(ab:aD BK gC 3 1 ap (bw.flatMap encI))
  (he:∀c z,u c=some z->s.aj≠some c->gC c=some z) (Z:∀c,ap.aj=some c->s.aj=some c∨u c=none):
  ∃aY,mN aY (gC.ins n.p (.cells (jt (n.jz lv ap bw)).toArray 230 (0,0))) id (n.jz lv ap bw)/\Ky af u id aY (gC.ins n.p (.cells (jt (n.jz lv ap bw)).toArray 230 (0,0))):=by
 have lI:lv<31:=by rw[<-eG.uh];exact(ir.1 ag).1
 obtain⟨l,ar⟩:∃l,n.kn[lv]?=some l:=⟨n.kn[lv]'(by rw[eG.FF];exact lI),cn _⟩
 have dI:∀g,s.aj=some g->af g=some (.arr id lv):=(eG.arr lv s l ag ar).2
 have tZ:s.aj≠some n.p:=λe=>by have:=dI _ e;rw[eG.tag] at this;cases this
 have YQ:ap.aj≠some n.p:=λe=>by rcases Z _ e with h1|h1;exact tZ h1;exact vp n.p (by rw[eG.tag];simp) h1
 let aY:N->ay bu:=λc=>open Classical in if ap.aj=some c then some (.arr id lv) else if s.aj=some c then none else af c
 have aP:∀c,ap.aj=some c->aY c=some (.arr id lv):=λc I=>aV I
 have aC:∀c,ap.aj≠some c->s.aj≠some c->aY c=af c:=λc h1 h2=>(az h1).trans (az h2)
 have c0:∀c,ap.aj≠some c->s.aj=some c->aY c=none:=λc h1 h2=>(az h1).trans (aV h2)
 have ff:∀c,af c≠none->s.aj≠some c->aY c=af c:=λc h1 h2=>aC c (λe=>(Z c e).elim h2 (vp c h1)) h2
 have XZ:∀c,c≠n.p->(gC.ins n.p (.cells (jt (n.jz lv ap bw)).toArray 230 (0,0))) c=gC c:=λc I=>bm _ _ I
 have oS:∀c z,u c=some z->c≠n.p->s.aj≠some c->(gC.ins n.p (.cells (jt (n.jz lv ap bw)).toArray 230 (0,0))) c=some z:=λc z h1 h2 h3=>by rw[XZ c h2];exact he c z h1 h3
 refine⟨aY,?_,⟨λc h1 h2=>ff c h1 λe=>h2 (.inr (.inr ⟨lv,dI c e⟩)),λc z h1 h3=>oS c z h1 (λe=>h3 (.inl (by rw[e];exact eG.tag))) λe=>h3 (.inr (.inr ⟨lv,dI c e⟩)),λc I=>?_,λc I=>?_⟩⟩
 refine⟨bf _ _ _,?_,?_,λg W=>?_,by simp[dj.jz,eG.uh],by simp[dj.jz,eG.FF],λvC s2 fZ h1 h2=>?_⟩
 show aY n.p=_;rw[aC _ YQ tZ];exact eG.tag
 refine bt.else eG.vec λg z W q0=>oS g z q0 (λe=>?_) λe=>?_
 have:=eG.Bx g W;rw[e,eG.tag] at this;cases this
 have:=eG.Bx g W;rw[dI g e] at this;cases this
 have aA:=eG.Bx g W
 rw[ff g (by rw[aA];simp) (λe=>by rw[dI g e] at aA;cases aA)];exact aA
 by_cases e:vC=lv
 subst e
 simp only[dj.jz] at h1 h2
 rw[ze (by rw[eG.uh];exact lI)] at h1
 rw[ze (by rw[eG.FF];exact lI)] at h2
 cases h1;cases h2
 exact⟨(ab.own.le λc z I sH=>by rw[XZ c (λe=>YQ (e▸I))];exact sH).f,λg W=>aP g W⟩
 simp only[dj.jz] at h1 h2
 rw[uE (dv e)] at h1 h2
 obtain⟨h3,a7⟩:=eG.arr vC s2 fZ h1 h2
 have ne:∀g,s2.aj=some g->s.aj≠some g:=λg W eX=>by have:=a7 g W;rw[dI g eX] at this;cases this;exact e rfl
 refine⟨(h3.own.le λc z I sH=>oS c z sH (λlp=>?_) (ne c I)).f,λg W=>?_⟩
 have:=a7 c I;rw[lp,eG.tag] at this;cases this
 rw[ff g (by rw[a7 g W];simp) (ne g W)];exact a7 g W
 by_cases h1:ap.aj=some c
 rcases Z c h1 with h2|h2
 exact .inl (by rw[dI c h2];simp)
 exact .inr h2
 by_cases h2:s.aj=some c
 exact a6 (c0 c h1 h2) I
 rw[aC c h1 h2] at I;exact .inl I
 by_cases h1:ap.aj=some c
 have:=uu ab h1
 rw[XZ c (λe=>YQ (e▸h1))];exact this
 by_cases h2:s.aj=some c
 exact a6 (c0 c h1 h2) I
 rw[aC c h1 h2] at I
 obtain⟨z,sH⟩:=e3.1 (vp c I)
 by_cases h3:c=n.p
 rw[h3,bf];simp
 rw[oS c z sH h3 h2];simp
def In.base{af aY:N->ay bu}{T:aT}(h:In ai u af b T)(ht:gy u af u' aY):ai.le u'/\∀c,aY c≠none->ai c=none:=ht.apart h.le h.out
def In.shift{af aY:N->ay bu}{T:aT}(h:In ai u af b T){id:o}{n n':dj}(ae:eL T.g id=some n)(ad:n'.p=n.p)(hJ:mN aY u' id n')(aG:Ky af u id aY u'):
  In ai u' aY b {T with g:=qG T.g id n'}:=
 ⟨h.aF.set ae ad hJ aG.wg λc z h1 _ h3=>aG.bM c z h1 h3,(h.base aG.eQ).1,(h.base aG.eQ).2,aG.known⟩
def In.ayQ{af aY:N->ay bu}{T:aT}(h:In ai u af b T){id:o}(b7:id∉T.g.map (·.1))(aG:Ky af u id aY u'):In ai u' aY b T:=by
 have no:∀{c:N} {t:bu},af c=some t->(∀i,t≠.node i)->(∀i,t≠.vec i)->(∀i lv,t≠.arr i lv)->af c≠none/\¬ny af id c:=λe h1 h2 h3=>⟨by rw[e];simp,by rintro(aC|aC|⟨lv,aC⟩)<;>rw[e] at aC<;>cases aC;exact h1 _ rfl;exact h2 _ rfl;exact h3 _ _ rfl⟩
 have cc:=no h.aF.dL (by simp) (by simp) (by simp);have ki:=no h.aF.hV (by simp) (by simp) (by simp);have yW:=no h.aF.dh (by simp) (by simp) (by simp);refine⟨⟨aG.bM _ _ h.aF.cell cc.2,aG.bM _ _ h.aF.src ki.2,h.aF.GJ,h.aF.map.else λz ab=>aG.bM _ _ ab yW.2,by rw[aG.wg _ cc.1 cc.2];exact h.aF.dL,by rw[aG.wg _ ki.1 ki.2];exact h.aF.hV,
  by rw[aG.wg _ yW.1 yW.2];exact h.aF.dh,λx M=>?_⟩,(h.base aG.eQ).1,(h.base aG.eQ).2,aG.known⟩
 have al:x.1≠id:=λe=>b7 (bk.2 ⟨x,M,e⟩);have nJ:∀c,ny af x.1 c->¬ny af id c:=by rintro c (e|e|⟨lv,e⟩) (aC|aC|⟨vC,aC⟩)<;>rw[e] at aC<;>cases aC<;>exact al rfl
 exact(h.aF.nodes x M).bM (λc I=>aG.wg c I.some (nJ c I)) λc z ab I=>aG.bM c z ab (nJ c I)
def In.level{gC:H}{af:N->ay bu}{T:aT}(h:In ai u af b T){id:o}{n:dj}(ae:eL T.g id=some n){ap:U}{bw:J o}(ag:n.ks[lv]?=some s)(ab:aD BK gC 3 1 ap (bw.flatMap encI))
  (he:∀c z,u c=some z->s.aj≠some c->gC c=some z) (Z:∀c,ap.aj=some c->s.aj=some c∨u c=none):
  ∃aY,In ai (gC.ins n.p (.cells (jt (n.jz lv ap bw)).toArray 230 (0,0))) aY b {T with g:=qG T.g id (n.jz lv ap bw)}/\gy u af (gC.ins n.p (.cells (jt (n.jz lv ap bw)).toArray 230 (0,0))) aY:=by
 obtain⟨aY,h1,h2⟩:=(h.aF.node ae).level h.known ag ab he Z
 exact⟨aY,h.shift ae rfl h1 h2,h2.eQ⟩
def In.I0{af:N->ay bu}{T:aT}(h:In ai u af b T):T.src≠b/\T.m≠b/\T.src≠T.m/\∀i c,ny af i c->c≠b/\c≠T.m/\c≠T.src:=by refine⟨λe=>?_,λe=>?_,λe=>?_,λi c hm=>⟨λe=>?_,λe=>?_,λe=>?_⟩⟩;have:=h.aF.hV;rw[e,h.aF.dL] at this;cases this;have:=h.aF.dh;rw[e,h.aF.dL] at this;cases this;have:=h.aF.dh;rw[<-e,h.aF.hV] at this;cases this;rw[e] at hm;rcases hm with aC|aC|⟨_,aC⟩<;>rw[h.aF.dL] at aC<;>cases aC;rw[e] at hm;rcases hm with aC|aC|⟨_,aC⟩<;>rw[h.aF.dh] at aC<;>cases aC;rw[e] at hm;rcases hm with aC|aC|⟨_,aC⟩<;>rw[h.aF.hV] at aC<;>cases aC
def In.write{af:N->ay bu}{T:aT}(h:In ai u af b T)(I:af c≠none)(z:Obj):gy u af (u.ins c z) af/\ai.le (u.ins c z)/\∀x,af x≠none->(u.ins c z) x≠none:=by have ht:gy u af (u.ins c z) af:=⟨λx y M ac=>by have al:x≠c:=λe=>I (by rw[<-e];exact ac);rw[bm _ _ al];exact M,λx M=>.inl M⟩;refine⟨ht,(h.base ht).1,λx M=>?_⟩;unfold H.ins;split;simp;exact h.known x M
def In.OD{af:N->ay bu}{T:aT}(h:In ai u af b T)(e:o):In ai (u.ins b (.cells (fe {T with entry:=e}).toArray 184 (0,0))) af b {T with entry:=e}/\
  gy u af (u.ins b (.cells (fe {T with entry:=e}).toArray 184 (0,0))) af:=by
 obtain⟨h1,h2,h3⟩:=h.write (c:=b) (by rw[h.aF.dL];simp) (.cells (fe {T with entry:=e}).toArray 184 (0,0))
 obtain⟨b3,eN,_,e9⟩:=h.I0
 exact⟨⟨⟨bf _ _ _,by rw[bm _ _ b3];exact h.aF.src,h.aF.GJ,h.aF.map.else λz ab=>by rw[bm _ _ eN];exact ab,h.aF.dL,h.aF.hV,h.aF.dh,
  λx M=>(h.aF.nodes x M).bM (λ_ _=>rfl) λc z ab hm=>by rw[bm _ _ (e9 _ c hm).1];exact ab⟩,h2,h.out,h3⟩,h1⟩
def TR{af:N->ay bu}{T:aT}(h:ef af u b T){e:o}{f:H->Prop}(ac:f (u.ins b (.cells (fe {T with entry:=e}).toArray 184 (0,0)))):H.aN u ((cr b 0 none).add 4) [.int .i64 e] f:=by
 rw[iC];refine⟨_,_,h.cell,rfl,by simp[fe],by simp[cF],?_⟩;have:wr (fe T).toArray (0+4) [.int .i64 e]=(fe {T with entry:=e}).toArray:=by simp[wr,fe]
 simp only[this];exact ac
def In.ayI{af:N->ay bu}{T:aT}(h:In ai u af b T){st:o}(dI:dn st):In ai (u.ins T.src (.cells #[.int .u64 st] 215 (0,0))) af b {T with st:=st}/\gy u af (u.ins T.src (.cells #[.int .u64 st] 215 (0,0))) af:=by
 obtain⟨h1,h2,h3⟩:=h.write (c:=T.src) (by rw[h.aF.hV];simp) (.cells #[.int .u64 st] 215 (0,0));obtain⟨b3,eN,mz,e9⟩:=h.I0;exact⟨⟨⟨by rw[bm _ _ (dv b3)];exact h.aF.cell,bf _ _ _,dI,h.aF.map.else λz ab=>by rw[bm _ _ (dv mz)];exact ab,h.aF.dL,h.aF.hV,h.aF.dh,
  λx M=>(h.aF.nodes x M).bM (λ_ _=>rfl) λc z ab hm=>by rw[bm _ _ (e9 _ c hm).2.2];exact ab⟩,h2,h.out,h3⟩,h1⟩
def In.akK{af:N->ay bu}{T:aT}(h:In ai u af b T){z:Obj}{bX:J (o×dj)}(hm:fs (u.ins T.m z) T.m (jh bX))(W:∀x∈bX,mN af u x.1 x.2):In ai (u.ins T.m z) af b {T with g:=bX}/\gy u af (u.ins T.m z) af:=by
 obtain⟨h1,h2,h3⟩:=h.write (c:=T.m) (by rw[h.aF.dh];simp) z;obtain⟨b3,eN,mz,e9⟩:=h.I0;exact⟨⟨⟨by rw[bm _ _ (dv eN)];exact h.aF.cell,by rw[bm _ _ mz];exact h.aF.src,h.aF.GJ,hm,h.aF.dL,h.aF.hV,h.aF.dh,
  λx M=>(W x M).bM (λ_ _=>rfl) λc z ab Cz=>by rw[bm _ _ (e9 _ c Cz).2.1];exact ab⟩,h2,h.out,h3⟩,h1⟩
def cN(g:J (o×dj))(q:J o)(id:o):bP:=(id,match eL g id with
 |some n=>fz n.v q n.v.length|none=>0)
def lL(g:J (o×dj))(lv:N)(id:o):J o:=match eL g id with
 |some n=>n.kn.getD lv []|none=>[]
def tP(g:J (o×dj))(q:J o)(id:o):(cN g q id).1=id:=rfl
structure p8(dim:o)(g:J (o×dj)):Prop where
 hs:1<=dim/\dim<=64
 vec:∀x∈g,(x.2.v.length:o)=dim/\db x.2.v
 top:∀x∈g,x.2.top<=30
 known:∀x∈g,∀l∈x.2.kn,∀i∈l,i∈g.map (·.1)
 ids:∀x∈g,1<=x.1/\x.1<=1000000000
 small:g.length<=513
def p8.cc{dim:o}{g:J (o×dj)}(h:p8 dim g)(lv:N):∀k∈g.map (·.1),∀i∈lL g lv k,i∈g.map (·.1):=by intro k hk i hi;obtain⟨n,ae⟩:=yk hk;unfold lL at hi;rw[ae] at hi;simp only at hi;rcases j1 lv n.kn.length with ar|ar;rw[dr,cn ar] at hi;exact h.known _ (ih ae) _ (kk ar) i hi;rw[dr,io ar] at hi;cases hi
def vF:n5 aH 182 3 227 (.pointer none):=⟨by kernel_rfl,by kernel_rfl,λ_=>by kernel_rfl⟩
def I4(p lv:N):((cr p 0 none).add 1).add (lv*1)=⟨p,1+lv,none⟩:=by rw[Addr.zL,iC,y7,jI]
structure ts(u:H)(b:N)(T:aT):Prop where
 cell:u b=some (.cells (fe T).toArray 184 (0,0))
 map:fs u T.m (jh T.g)
 nodes:∀x∈T.g,u x.2.p=some (.cells (jt x.2).toArray 230 (0,0))/\Ints u x.2.sv x.2.v
def ef.Ts{af:N->ay bu}{T:aT}(h:ef af u b T)(hu:∀c z,u c=some z->af c≠none->(∀i lv,af c≠some (.arr i lv))->u' c=some z):ts u' b T where
 cell:=hu _ _ h.cell (by rw[h.dL];simp) (by rw[h.dL];simp)
 map:=h.map.else λz ab=>hu _ _ ab (by rw[h.dh];simp) (by rw[h.dh];simp)
 nodes x M:=by have eG:=h.nodes x M;exact⟨hu _ _ eG.cell (by rw[eG.tag];simp) (by rw[eG.tag];simp),bt.else eG.vec λg z W ab=>hu g z ab (by rw[eG.Bx g W];simp) (by rw[eG.Bx g W];simp)⟩
def ef.rd{af:N->ay bu}{T:aT}(h:ef af u b T):ts u b T:=h.Ts λ_ _ ab _ _=>ab
def ts.mono{T:aT}(h:ts u b T)(hu:u.le u'):ts u' b T:=
 ⟨hu _ _ h.cell,h.map.mono hu,λx M=>⟨hu _ _ (h.nodes x M).1,(h.nodes x M).2.mono hu⟩⟩
def ake{T:aT}(h:ts u b T):u.cell? ⟨b,0,none⟩=some (.int .i64 T.dim)/\u.cell? ((cr b 0 none).add 1)=some (.int .i64 T.cj)/\
  u.cell? ((cr b 0 none).add 3)=some (.map (some T.m))/\u.cell? ((cr b 0 none).add 4)=some (.int .i64 T.entry):=by
 have Z:=h.cell
 refine⟨?_,?_,?_,?_⟩<;>simp[H.cell?,ep,Z,fe]
def akG{T:aT}(h:ts u b T){id:o}(b7:id∈T.g.map (·.1)){K:ay ba->H->Prop}
  (aq:∀n,eL T.g id=some n->K (some ⟨n.p,0,none⟩) u):c4 aH (gK 182 (.map (some T.m)) (.int .i64 id) ax) [.one .ptr] u K:=by
 obtain⟨n,ae⟩:=yk b7
 refine OA vF h.map (ct:=.ptr) (some ⟨n.p,0,none⟩) ?_ (aq n ae)
 rw[Cd,ae];rfl
def uQ{af:N->ay bu}{T:aT}(h:ef af u b T){id:o}(b7:id∈T.g.map (·.1)){K:ay ba->H->Prop}
  (aq:∀n,eL T.g id=some n->mN af u id n->K (some ⟨n.p,0,none⟩) u):c4 aH (gK 182 (.map (some T.m)) (.int .i64 id) ax) [.one .ptr] u K:=
 akG h.rd b7 λn ae=>aq n ae (h.node ae)
structure sl(u:H)(dim:o)(t:U)(q:J o):Prop where
 is:Ints u t q
 ok:db q
 len:(q.length:o)=dim
def sl.mono{dim:o}(h:sl u dim t q)(k:u.le u'):sl u' dim t q:=⟨h.is.mono k,h.ok,h.len⟩
def abQ{T:aT}{id:o}{K:o->o->o->H->Prop}(h:ts u b T)(W:p8 T.dim T.g)(b7:id∈T.g.map (·.1))(ht:sl u T.dim t q)
  (aq:K id (dk (cN T.g q id).2) (dq (cN T.g q id).2) u):x1 (some ⟨b,0,none⟩) id t u K:=by
 obtain⟨_,_,fM,_⟩:=ake h
 apply aCe
 refine⟨_,rfl,_,fM,akG h b7 λn ae=>⟨_,rfl,n.sv,?_,?_⟩⟩
 have:=(h.nodes _ (ih ae)).1
 simp only at this
 simp[H.cell?,this,jt]
 have aA:=W.vec _ (ih ae)
 refine Bm (h.nodes _ (ih ae)).2 ht.is aA.2 ?_ ht.ok ?_ λx y M ah he=>?_
 have:=W.hs;have:=aA.1;simp only at this ⊢;omega
 have:=aA.1;have:=ht.len;simp only at*;omega
 have e:(cN T.g q id).2=fi x y:=by rw[he];simp[cN,ae]
 rw[e,XW ah,Z6 ah] at aq
 exact aq
def OP{af:N->ay bu}{T:aT}{id:o}{K:o->o->o->H->Prop}(h:ef af u b T)(W:p8 T.dim T.g)(b7:id∈T.g.map (·.1))(ht:sl u T.dim t q)
  (aq:K id (dk (cN T.g q id).2) (dq (cN T.g q id).2) u):x1 (some ⟨b,0,none⟩) id t u K:=abQ h.rd W b7 ht aq
def vE(cj lv:o):o:=if lv=0 then 2*cj else cj
def alc{T:aT}{lv:o}(h:ts u b T)(ar:1<=T.cj/\T.cj<=16)(aq:K (vE T.cj lv) u):Pz (some ⟨b,0,none⟩) lv u K:=by obtain⟨_,c1,_⟩:=ake h;apply aCj;unfold vE at aq;refine⟨λh0=>⟨_,rfl,_,c1,⟨by omega,by omega⟩,?_⟩,λh0=>⟨_,rfl,_,c1,?_⟩⟩;rw[aV h0] at aq;exact aq;rw[az h0] at aq;exact aq
def xm{af:N->ay bu}{id:o}{n:dj}(h:mN af u id n)(ar:lv<31):∃s l,n.ks[lv]?=some s/\n.kn[lv]?=some l/\u.cell? (((cr n.p 0 none).add 1).add (lv*1))=some (.slice s.a s.n s.c)/\
  aD BK u 3 1 s (l.flatMap encI)/\∀g,s.aj=some g->af g=some (.arr id lv):=by
 have h1:lv<n.ks.length:=by rw[h.uh];exact ar
 have h2:lv<n.kn.length:=by rw[h.FF];exact ar
 refine⟨n.ks[lv],n.kn[lv],cn h1,cn h2,?_,h.arr lv _ _ (cn h1) (cn h2)⟩
 rw[I4,FU h]
 exact awU (cn h1)
def aai{g:J (o×dj)}{id:o}{n:dj}(ae:eL g id=some n)(ar:n.kn[lv]?=some l):lL g lv id=l:=by unfold lL;rw[ae];simp only;rw[dr,ar];rfl
def acj{α β:Type}(f:β->α->β)(l:J α){i:N}{x:α}(h:l[i]?=some x)(b:β):(l.take (i+1)).foldl f b=f ((l.take i).foldl f b) x:=by obtain⟨ar,rfl⟩:=ir.1 h;rw[List.take_succ_eq_append_getElem ar,aa9];rfl
def azs{af:N->ay bu}{T:aT}{at' lv:o}(h:ef af u b T)(W:p8 T.dim T.g)(b7:at'∈T.g.map (·.1))(ht:sl u T.dim t q)
  (jH:0<=lv) (eZ:lv<31) (aq:K (KN (cN T.g q) (lL T.g lv.toNat) T.g.length at') u):UG (some ⟨b,0,none⟩) at' t lv u K:=by
 obtain⟨_,_,_,fM,_⟩:=kB h
 have hlen:(T.g.map (·.1)).length=T.g.length:=by simp
 apply aCc
 refine OP h W b7 ht ?_
 refine⟨λm x y Y v=>v=u/\∃(n:N) (ln:bP),x=ln.1/\y=dk ln.2/\Y=dq ln.2/\ln=xk (cN T.g q) (lL T.g lv.toNat) n (cN T.g q at')/\n+JI (cN T.g q) (T.g.map (·.1)) ln<=T.g.length/\
   (m=ax->pass (cN T.g q) (lL T.g lv.toNat) ln=ln),
  λm x y Y _=>JI (cN T.g q) (T.g.map (·.1)) (x,fi y Y)+(if m=ak then 1 else 0),
  ⟨rfl,0,cN T.g q at',rfl,rfl,rfl,rfl,by have:=axT (cN T.g q) (T.g.map (·.1)) (cN T.g q at');omega,λhm=>by cases hm⟩,?_⟩
 rintro m x y Y v ⟨rfl,n,ln,rfl,rfl,rfl,LC,ae,hm⟩
 have b4:=Sl (cN T.g q) (lL T.g lv.toNat) (tP T.g q) (b:=cN T.g q at') ⟨b7,rfl⟩ (W.cc lv.toNat) n
 rw[<-LC] at b4
 refine⟨λMl=>⟨_,rfl,_,fM,uQ h b4.1 λnd bY eG=>⟨_,rfl,by decide,⟨jH,eZ⟩,?_⟩⟩,λatt=>?_⟩
 obtain⟨s,l,eb,dE,I,ab,_⟩:=xm eG (lv:=lv.toNat) (by omega)
 refine⟨s,I,?_⟩
 have vo:lL T.g lv.toNat ln.1=l:=aai bY dE
 have dw:=ab.ints.len
 refine⟨λqu i x y Y cm=>cm=v/\0<=i/\i<=l.length/\∃qS:bP,x=qS.1/\y=dk qS.2/\Y=dq qS.2/\qS=(l.take i.toNat).foldl (uw (cN T.g q)) ln/\qu=decide (qS≠ln),
  λ_ i _ _ _ _=>l.length-i.toNat,⟨rfl,by omega,by omega,ln,rfl,rfl,rfl,rfl,by simp⟩,?_⟩
 rintro qu i x y Y cm ⟨rfl,i0,i1,qS,rfl,rfl,rfl,eH,rfl⟩
 refine⟨λea=>?_,λgr=>?_⟩
 have fq:=ab.ints.max
 obtain⟨p,ad,mv⟩:=ab.ints.at i0 ea
 refine⟨p,ad,⟨i0,ea⟩,_,mv,?_⟩
 have atl:i.toNat<l.length:=by omega
 have M:l[i.toNat]?=some (l.getD i.toNat 0):=by simp[atl]
 have Fw:l.getD i.toNat 0∈T.g.map (·.1):=W.cc lv.toNat ln.1 b4.1 _ (by rw[vo];exact du M)
 refine OP h W Fw ht ?_
 have ac:=acj (uw (cN T.g q)) l M ln
 rw[<-eH] at ac
 refine JW (a:=cN T.g q (l.getD i.toNat 0)) (b:=qS) ?_
 have oP:qS=ln∨bC qS ln=ak:=by rcases Ww (cN T.g q) (l.take i.toNat) ln with h1|⟨h1,_⟩;exact .inl (eH.trans h1);exact .inr (eH▸h1)
 refine⟨λZ=>⟨⟨by omega,by omega⟩,⟨rfl,by omega,by omega,cN T.g q (l.getD i.toNat 0),rfl,rfl,rfl,?_,?_⟩,by dsimp only;omega⟩,
  λZ=>⟨⟨by omega,by omega⟩,⟨rfl,by omega,by omega,qS,rfl,rfl,rfl,?_,rfl⟩,by dsimp only;omega⟩⟩
 rw[show(i+1).toNat=i.toNat+1 by omega,ac,uw,aV Z]
 have:bC (cN T.g q (l.getD i.toNat 0)) ln=ak:=by rcases oP with h1|h1;rw[<-h1];exact Z;exact Md Z h1
 exact(lP (ato this)).symm
 rw[show(i+1).toNat=i.toNat+1 by omega,ac,uw,az (by simpa using Z)]
 have ea:i.toNat=l.length:=by have:¬i<(s.n:o):=gr;omega
 have age:qS=pass (cN T.g q) (lL T.g lv.toNat) ln:=by rw[eH,ea,ni,pass,vo]
 have hI:=Ww (cN T.g q) l ln
 have ar0:qS=l.foldl (uw (cN T.g q)) ln:=by rw[eH,ea,ni]
 rw[<-ar0] at hI
 rw[Ml]
 by_cases al:qS=ln
 refine⟨⟨rfl,n,qS,rfl,rfl,rfl,by rw[al];exact LC,by rw[al];exact ae,λ_=>by rw[al,<-age];exact al⟩,?_⟩
 rw[al];simp
 obtain⟨h1,k7,ql,e⟩:=hI.resolve_left al
 have asT:k7∈T.g.map (·.1):=W.cc lv.toNat ln.1 b4.1 _ (by rw[vo];exact ql)
 have O:=axU (cN T.g q) asT (b:=ln) (by rw[<-e];exact h1)
 rw[<-e] at O
 refine⟨⟨rfl,n+1,qS,rfl,rfl,rfl,by rw[age,LC];rfl,by omega,λac=>?_⟩,?_⟩
 simp[al] at ac
 simp only[sg]
 have:decide (qS≠ln)=ak:=by simp[al]
 rw[this]
 simpa using O
 have ad:=hm att
 have asA:=avz (cN T.g q) (lL T.g lv.toNat) (n:=n) (b:=cN T.g q at') (by rw[<-LC];exact ad) (T.g.length-n)
 have e:KN (cN T.g q) (lL T.g lv.toNat) T.g.length at'=ln.1:=by unfold KN;rw[show T.g.length=n+(T.g.length-n) by omega,asA,LC]
 rw[e] at aq
 exact aq
def uR(g:J (o×dj))(q:J o)(entry:o)(lv:N):o:=
 Ec (cN g q) (λl=>lL g l) g.length lv ((match eL g entry with|some n=>n.top|none=>0)-lv) entry
def aca{dim:o}{g:J (o×dj)}(W:p8 dim g){entry:o}(he:entry∈g.map (·.1))(lv:N):uR g q entry lv∈g.map (·.1):=
 aeD (tP g q) (λl=>W.cc l) _ _ he
def ald{af:N->ay bu}{T:aT}{lv:o}(h:ef af u b T)(W:p8 T.dim T.g)(b7:T.entry∈T.g.map (·.1))(ht:sl u T.dim t q)
  (jH:0<=lv) (aq:K (uR T.g q T.entry lv.toNat) u):PA (some ⟨b,0,none⟩) t lv u K:=by
 obtain⟨_,_,_,fM,tw⟩:=kB h
 apply aCk
 refine⟨_,rfl,_,tw,_,rfl,_,fM,uQ h b7 λn ae eG=>⟨_,rfl,n.top,?_,?_⟩⟩
 rw[iC,jI,FU eG];exact SF eG.uh
 have pJ:=W.top _ (ih ae)
 simp only at pJ
 unfold uR at aq
 rw[ae] at aq
 simp only at aq
 refine⟨λx l v=>v=u/\x∈T.g.map (·.1)/\∃c:N,(lv<l->l=lv+c)/\l<=30/\(¬lv<l->c=0)/\Ec (cN T.g q) (λl=>lL T.g l) T.g.length lv.toNat c x=Ec (cN T.g q) (λl=>lL T.g l) T.g.length lv.toNat (n.top-lv.toNat) T.entry,
  λ_ l _=>(l-lv).toNat,⟨rfl,b7,n.top-lv.toNat,by omega,by omega,by omega,rfl⟩,?_⟩
 rintro x l v ⟨rfl,M,c,iy,mv,ar6,aw⟩
 refine⟨λgi=>?_,λgr=>?_⟩
 have ar:=iy gi
 refine azs h W M ht (by omega) (by omega) ⟨⟨by omega,by omega⟩,⟨rfl,aeH (cN T.g q) _ (tP T.g q) M (W.cc _),c-1,by omega,by omega,by omega,?_⟩,by dsimp only;omega⟩
 rw[<-aw]
 obtain⟨mS,rfl⟩:∃mS,c=mS+1:=⟨c-1,by omega⟩
 simp only[Ec,Nat.add_sub_cancel]
 rw[show l.toNat=lv.toNat+mS+1 by omega]
 rw[ar6 gr] at aw
 simp only[Ec] at aw
 rw[<-aw] at aq
 exact aq
def _root_.Go.Proofs.YtejdhbfjjgcljaaGreatDoor.qN.Tt{v0 v cm:H}{ck:N}{z b5:Obj}{L:J bP}(h:qN (v0.ins ck z) n v L)(h0:v0 ck=none)(ab:cm ck=some b5)(he:∀g x,v g=some x->g≠ck->cm g=some x):qN (v0.ins ck b5) n cm L:=by
 obtain⟨s,h1,h2,h3⟩:=h.ex;have E6:n≠ck:=λe=>by have:=h.out;rw[e,bf] at this;cases this
 have ac:∀g,(v0.ins ck z) g=none->(v0.ins ck b5) g=none:=λg W=>by
  have:g≠ck:=λe=>by rw[e,bf] at W;cases W
  rw[bm _ _ this] at W ⊢;exact W
 refine⟨⟨s,he _ _ h1 E6,⟨h2.own.le λb x Z hu=>he b x hu λe=>?_,λb x Z=>?_,λg W=>ac g (h2.fresh g W)⟩,h3⟩,ac n h.out,h.small⟩;have:=h2.fresh b Z;rw[e,bf] at this;cases this;unfold H.ins at Z;split at Z;rename_i e;rw[e];cases Z;exact ab;rename_i e;have:=h2.le b x (by rw[bm _ _ e];exact Z);exact he b x this e
def _root_.Go.Proofs.YtejdhbfjjgcljaaGreatDoor.qN.Hw{v0 v iu cm:H}{ck:N}{z:Obj}{L:J bP}(h:qN (v0.ins ck z) n v L)(h0:v0 ck=none)(ac:x4 v0 v iu cm):qN (iu.ins ck z) n cm L/\iu ck=none:=by
 obtain⟨s,h1,h2,h3⟩:=h.ex;have iH:=h2.le ck z (bf _ _ _);obtain⟨rJ,arl⟩:=ac.out ck z h0 iH;have E6:n≠ck:=λe=>by have:=h.out;rw[e,bf] at this;cases this
 have eT:v0 n=none:=by have:=h.out;rw[bm _ _ E6] at this;exact this
 obtain⟨gj,fp⟩:=ac.out n _ eT h1;have Z:∀g,s.aj=some g->∀x,v g=some x->iu g=none/\cm g=some x/\g≠ck:=λg W x M=>by
  have eI:=h2.fresh g W;have Rx:g≠ck:=λe=>by rw[e,bf] at eI;cases eI
  rw[bm _ _ Rx] at eI;exact⟨(ac.out g x eI M).1,(ac.out g x eI M).2,Rx⟩
 refine⟨⟨⟨s,fp,⟨h2.own.le λb x ev hu=>(Z b ev x hu).2.1,λb x M=>?_,λg W=>?_⟩,h3⟩,by rw[bm _ _ E6];exact gj,h.small⟩,rJ⟩;unfold H.ins at M;split at M;rename_i e;rw[e];cases M;exact arl;exact ac.le b x M;have hk:=dF h2 W;obtain⟨x,M⟩:=e3.1 hk;obtain⟨bE,_,fO⟩:=Z g W x M;rw[bm _ _ fO];exact bE
def awk{ht:o->bP}{s:J o×J bP}{i:o}(h:i∉s.1):iB ht s i=(s.1++ [i],pK (ht i) s.2):=az h
def awl{ht:o->bP}{s:J o×J bP}{i:o}(h:i∈s.1):iB ht s i=s:=aV h
def ll(g:J (o×dj))(q:J o)(lv:N)(at':o):J o:=u6 (cN g q) (lL g lv) g.length [at'] [cN g q at']
def L2(h:bP):ao:=.agg #[.int .i64 h.1,.int .u64 (dk h.2),.int .u64 (dq h.2)]
structure G6(T:aT)(q:J o)(lv:N)(bN:J o)(cU:N->H->Prop)(ck n9:N)(n:N)(v:H):Prop where
 ex:∃(v0:H) (z:Obj) (i:N) (met:J o) (zF L:J bP),cU i v0/\v0 ck=none/\tr (v0.ins ck z) ck met/\qN (v0.ins ck z) n9 v L/\iw bC L.length L/\L.Perm zF/\Met (cN T.g q) (T.g.map (·.1)) (met,zF)/\
  due T.g.length (met,zF)<=n/\bN.drop i=u6 (cN T.g q) (lL T.g lv) n met zF/\i<=bN.length
def ala{af:N->ay bu}{T:aT}{at' lv:o}{Ox:ao}{K:H->Prop}(b9:ub.le u)(h:ef af ub b T)(W:p8 T.dim T.g)(b7:at'∈T.g.map (·.1))(ht:sl ub T.dim t q)
  (jH:0<=lv) (eZ:lv<31) (cU:N->H->Prop) (E:H->Prop) (kM:∀i v,cU i v->ub.le v)
  (YR:∀i x v (K:aI->H->Prop),(ll T.g q lv.toNat at')[i]?=some x->cU i v->(∀cm,cU (i+1) cm->K ak cm)->(∀cm,E cm->K ax cm)->tm aH Ox #[L2 (cN T.g q x)] [.one .bool] v K)
  (h0:cU 0 u) (Ew:∀v,cU (ll T.g q lv.toNat at').length v->K v) (oO:∀v,E v->K v):Kf (some ⟨b,0,none⟩) at' t lv Ox u K:=by
 have aF6:=W.small
 have hlen:(T.g.map (·.1)).length=T.g.length:=by simp
 refine ie.weaken (ss:=[]) ?_
 apply aCd
 refine abD λck iH jG=>?_
 refine TG GD jG (by simp) λc9 YS H8 aFT=>?_
 have rW:u.le c9:=λc z I=>H8 c z (bW _ iH c z I) λe=>by rw[e,iH] at I;cases I
 obtain⟨hE,V1,vf,_⟩:=YS
 refine OP (h.mono (b9.trans rW)) W b7 (ht.mono (b9.trans rW)) ?_
 refine l8 (aee at' _ _) λg7 Rw n9 tT=>?_
 have RR:n9≠g7:=λe=>by rw[e,bf] at tT;cases tT
 have Mq:c9 n9=none:=by rw[bm _ _ RR] at tT;exact tT
 have afT:ck≠g7:=λe=>by rw[<-e,vf] at Rw;cases Rw
 have HK:ck≠n9:=λe=>by rw[<-e,vf] at Mq;cases Mq
 refine GK (bf _ _ _) (by simp[cF]) ?_
 have R4:∀v,v ck=some (.map hE V1)->(∀c x,u c=some x->v c=some x)->v g7=some (.cells #[.int .i64 at',.int .u64 (dk (cN T.g q at').2),.int .u64 (dq (cN T.g q at').2)] 68 (0,0))->
   v n9=some (.cells #[.slice (some ⟨g7,0,none⟩) 1 1] 263 (0,0))->u n9=none->u g7=none->u ck=none->G6 T q lv.toNat (ll T.g q lv.toNat at') cU ck n9 T.g.length v:=by
  intro v aP aC c0 ff eX lp apG
  refine⟨u,.map hE V1,0,[at'],[cN T.g q at'],[cN T.g q at'],h0,apG,?_,?_,λi i0 i1=>by simp at i1;omega,Gl _,Met.one _ (tP T.g q) b7,?_,rfl,nU _⟩
  exact⟨hE,V1,bf _ _ _,by assumption⟩
  refine⟨⟨⟨some ⟨g7,0,none⟩,1,1⟩,ff,⟨⟨(by simp[rI]),.inr ⟨g7,_,rfl,c0,cg _,(by show(1:N)<=9223372036854775807;decide),(by simp),(by simp[fD,tP])⟩⟩,λc x I=>?_,λg W=>?_⟩,by simp[U.aj];exact λe=>RR e.symm⟩,by rw[bm _ _ (dv HK)];exact eX,by simp⟩
  unfold H.ins at I
  split at I
  rename_i e;rw[e];cases I;exact aP
  exact aC c x I
  simp[U.aj] at W
  rw[<-W,bm _ _ (dv afT)];exact lp
  simp[due]
  have:0<T.g.length:=by have:=Tk b7;simpa using this
  omega
 have hw:∀n v,G6 T q lv.toNat (ll T.g q lv.toNat at') cU ck n9 n v->∃v0,ub.le v0/\v0.le v:=by rintro n v ⟨v0,z,i,met,zF,L,aM,rJ,_,ae,_⟩;obtain⟨s,_,ab,_⟩:=ae.ex;exact⟨v0,kM i v0 aM,(bW _ rJ).trans ab.le⟩
 refine⟨λv=>∃n,G6 T q lv.toNat (ll T.g q lv.toNat at') cU ck n9 n v,λv=>least λn=>G6 T q lv.toNat (ll T.g q lv.toNat at') cU ck n9 n v,⟨T.g.length,R4 _ ?_ ?_ ?_ ?_ ?_ ?_ iH⟩,?_⟩
 rw[bm _ _ HK,bm _ _ HK,bm _ _ afT];exact vf
 intro c x I
 have mv:=rW c x I
 rw[bm _ _ (λe=>by rw[e,Mq] at mv;cases mv),bm _ _ (λe=>by rw[e,Mq] at mv;cases mv),bm _ _ (λe=>by rw[e,Rw] at mv;cases mv)]
 exact mv
 rw[bm _ _ (dv RR),bm _ _ (dv RR),bf]
 rw[bf]
 exact rW.none Mq
 exact rW.none Rw
 intro v aA
 have cA:=FL aA
 obtain⟨dc,eG⟩:∃dc,(least λn=>G6 T q lv.toNat (ll T.g q lv.toNat at') cU ck n9 n v)=dc:=⟨_,rfl⟩
 dsimp only
 rw[eG] at cA ⊢
 obtain⟨v0,z,i,met,zF,L,aM,rJ,jG,Ms,asK,hP,Ih,agu,pA,hi⟩:=cA
 have aGe:=kM i v0 aM
 obtain⟨s,auF,ahX,aF9⟩:=Ms.ex
 have au2:v0.le v:=(bW _ rJ).trans ahX.le
 refine⟨s,a1 auF 0,amD s v _ ?_⟩
 have qp:=ahX.fh.len
 refine⟨λoW=>?_,λq6=>?_⟩
 have arh:0<L.length:=by omega
 refine azm (aji (v0.ins ck z) n9) ajj (V:=Cu) Ms asK arh (λdI ar aq=>awN dI ar aq) λaS VB x ahw YA asL Yf=>?_
 obtain⟨y,oD,rfl⟩:∃y oD,zF=y::oD:=by
  cases zF with
  |nil=>have:=hP.length_eq;rw[nT] at this;omega|cons y l=>exact⟨y,l,rfl⟩
 have iV:x=y:=by
  have M:x∈y::oD:=(YA.trans hP).mem_iff.1 (.head _);have ah:y∈x::VB:=(YA.trans hP).mem_iff.2 (.head _);have cx:bC x y=ax:=by
   cases M with
   |head=>exact Ie _|tail _ M=>exact(jJ.1 Ih.xR).1 x M
  have cS:bC y x=ax:=by
   cases ah with
   |head=>exact Ie _|tail _ ah=>exact Yf y ah
  exact Yc cS cx
 subst iV
 have aua:VB.Perm oD:=(aa1 x).1 (YA.trans hP)
 have vx:=Ih.sub _ (Ih.wait x (.head _)).1
 have Sf:=(Ih.wait x (.head _)).2
 obtain⟨n,rfl⟩:∃n,dc=n+1:=⟨dc-1,by simp[due] at agu;omega⟩
 have af2:(ll T.g q lv.toNat at')[i]?=some x.1:=by
  have:((ll T.g q lv.toNat at').drop i)[0]?=some x.1:=by rw[pA];simp[u6]
  rw[uB] at this;simpa using this
 have agt:(ll T.g q lv.toNat at').drop (i+1)=u6 (cN T.g q) (lL T.g lv.toNat) n ((lL T.g lv.toNat x.1).foldl (iB (cN T.g q)) (met,oD)).1 ((lL T.g lv.toNat x.1).foldl (iB (cN T.g q)) (met,oD)).2:=by rw[<-A7,pA];simp[u6]
 have aFt:i<(ll T.g q lv.toNat at').length:=(ir.1 af2).1
 refine akD ?_
 have au1:v0.le aS:=by obtain⟨_,_,kf,_⟩:=ahw.ex;exact(bW _ rJ).trans kf.le
 refine(YR i x.1 v0 (λb cm=>(b=ak->cU (i+1) cm)/\(b=ax->E cm)) af2 aM (λcm gR=>⟨λ_=>gR,λe=>(by cases e)⟩) (λcm gR=>⟨λe=>(by cases e),λ_=>gR⟩)).frame au1 ?_|>(λY=>(by
  have e:L2 (cN T.g q x.1)=.agg #[.int .i64 x.1,.int .u64 (dk x.2),.int .u64 (dq x.2)]:=by rw[<-Sf];rfl
  rw[e] at Y;exact Y))
 rintro dD iu aBf eI ⟨LG,wO⟩
 refine⟨λal=>⟨iu,eI.le,oO _ (wO (Bool.eq_false_iff.2 al))⟩,λZ=>?_⟩
 have q2:=LG Z
 obtain⟨atL,Q7⟩:=ahw.Hw rJ eI
 have Sa:=kM _ _ q2
 have auS:iu.le aBf:=eI.le
 have afY:=h.mono (Sa.trans auS)
 obtain⟨_,_,_,fM,_⟩:=kB afY
 refine⟨_,rfl,_,fM,uQ afY vx λnd bY py=>⟨_,rfl,by decide,⟨jH,eZ⟩,?_⟩⟩
 obtain⟨c8,ky,eb,dE,I,ab,_⟩:=xm py (lv:=lv.toNat) (by omega)
 have vo:lL T.g lv.toNat x.1=ky:=aai bY dE
 have jF:=ab.ints.len
 have rQ:=ab.ints.max
 refine⟨c8,I,?_⟩
 rw[vo] at agt
 have X9:∀y∈ky,y∈T.g.map (·.1):=λy ah=>W.cc lv.toNat x.1 vx y (by rw[vo];exact ah)
 have MV:tr (iu.ins ck z) ck met:=by obtain⟨es,KH,h1,h2⟩:=jG;rw[bf] at h1;exact⟨es,KH,by rw[bf];exact h1,h2⟩
 refine⟨λk w=>0<=k/\k<=ky.length/\∃(b5:Obj) (kF:J bP),tr (iu.ins ck b5) ck ((ky.take k.toNat).foldl (iB (cN T.g q)) (met,oD)).1/\qN (iu.ins ck b5) n9 w kF/\iw bC kF.length kF/\
  kF.Perm ((ky.take k.toNat).foldl (iB (cN T.g q)) (met,oD)).2,λk _=>ky.length-k.toNat,⟨by omega,by omega,z,VB,MV,atL,asL,aua⟩,?_⟩
 rintro k w ⟨jZ,cx,b5,kF,MW,RS,XR,MI⟩
 obtain⟨aGB,aF3,YX,_⟩:=RS.ex
 have sU:iu.le w:=(bW _ Q7).trans YX.le
 have kR:=Sa.trans sU
 have Mi:=Met.fold (cN T.g q) (ids:=T.g.map (·.1)) (tP T.g q) (l:=ky.take k.toNat) (Ih.tail _) λy ah=>X9 y (nW ah)
 refine⟨λbC=>?_,λgr=>?_⟩
 have hC:k.toNat<ky.length:=by omega
 have ot:mN af ub x.1 nd:=h.node bY
 obtain⟨aGC,aGm,aP,aC,_,dz,_⟩:=xm ot (lv:=lv.toNat) (by omega)
 rw[eb] at aP;cases aP
 rw[dE] at aC;cases aC
 obtain⟨p,ad,lG⟩:=dz.ints.at jZ bC
 refine⟨p,ad,⟨jZ,bC⟩,_,qg kR lG,?_⟩
 have M:ky[k.toNat]?=some (ky.getD k.toNat 0):=by simp[hC]
 have Fw:=X9 _ (du M)
 have ac:=acj (iB (cN T.g q)) ky M (met,oD)
 rw[show k.toNat+1=(k+1).toNat by omega] at ac
 refine abC GD (MW.mono YX.le) ?_
 refine⟨λZ=>?_,λZ=>?_⟩
 have q6:ky.getD k.toNat 0∉((ky.take k.toNat).foldl (iB (cN T.g q)) (met,oD)).1:=by simpa using Z
 have je:(ky.take (k+1).toNat).foldl (iB (cN T.g q)) (met,oD)=(((ky.take k.toNat).foldl (iB (cN T.g q)) (met,oD)).1++ [ky.getD k.toNat 0],pK (cN T.g q (ky.getD k.toNat 0)) ((ky.take k.toNat).foldl (iB (cN T.g q)) (met,oD)).2):=by rw[ac,awk q6]
 refine TG GD (MW.mono YX.le) q6 λdK YS jT _=>?_
 obtain⟨aeV,aeq,au7,atb⟩:=YS
 have ahx:=RS.Tt Q7 au7 jT
 obtain⟨_,_,auG,_⟩:=ahx.ex
 have aia:iu.le dK:=(bW _ Q7).trans auG.le
 refine OP (h.mono (Sa.trans aia)) W Fw (ht.mono (Sa.trans aia)) ?_
 have ag9:kF.length<=1000:=by rw[MI.length_eq];have:=o5 Mi.FW (λy ah=>by obtain⟨Y,aB,rfl⟩:=bk.1 ah;exact Mi.sub _ (Mi.wait Y aB).1);simp at this;omega
 refine ak2 (aji (iu.ins ck (.map aeV aeq)) n9) ajj (x:=Cu (cN T.g q (ky.getD k.toNat 0))) XR (λaq=>awO ahx (by omega) aq) λhy anM atM aub asM=>⟨⟨by omega,by omega⟩,⟨by omega,by omega,_,anM,?_,atM,asM,?_⟩,by dsimp only;omega⟩
 rw[je];exact⟨aeV,aeq,bf _ _ _,atb⟩
 rw[je]
 refine aub.trans ?_
 refine(l5 _ _).trans ?_
 exact(iL _ MI).trans (FB _ _).symm
 have b4:ky.getD k.toNat 0∈((ky.take k.toNat).foldl (iB (cN T.g q)) (met,oD)).1:=by simpa using Z
 have je:(ky.take (k+1).toNat).foldl (iB (cN T.g q)) (met,oD)=(ky.take k.toNat).foldl (iB (cN T.g q)) (met,oD):=by rw[ac,awl b4]
 exact⟨⟨by omega,by omega⟩,⟨by omega,by omega,b5,kF,by rw[je];exact MW,RS,XR,by rw[je];exact MI⟩,by dsimp only;omega⟩
 have X5:ky.take k.toNat=ky:=ho (by omega)
 rw[X5] at MW MI Mi
 have tL:G6 T q lv.toNat (ll T.g q lv.toNat at') cU ck n9 n w:=by refine⟨iu,b5,i+1,_,_,kF,q2,Q7,MW,RS,XR,MI,Mi,?_,agt,by omega⟩;have:=apy (cN T.g q) (tP T.g q) (l:=ky) (Ih.tail _) X9;rw[hlen] at this;have e:((ky.foldl (iB (cN T.g q)) (met,oD)).1,(ky.foldl (iB (cN T.g q)) (met,oD)).2)=ky.foldl (iB (cN T.g q)) (met,oD):=rfl;rw[e,this];simp[due] at agu ⊢;omega
 exact⟨⟨n,tL⟩,Nat.lt_succ_of_le (least_le tL)⟩
 have WY:L=[]:=ly (by omega)
 subst WY
 have arj:zF=[]:=by have:=hP.length_eq;simpa using this.symm
 subst arj
 have he:(ll T.g q lv.toNat at').drop i=[]:=by rw[pA];cases dc<;>rfl
 have XY:i=(ll T.g q lv.toNat at').length:=by have:=List.drop_eq_nil_iff.1 he;omega
 subst XY
 exact⟨v0,au2,Ew _ aM⟩
open Go.Sort Go.Shelf
def _root_.Go.Proofs.YtejdhbfjjgcljaaGreatDoor.sq.aAy{w w':b6}{z b5:Obj}(hw:Sub u w)(Z:u b=some z)(k:sq b b5 w w'):Step u [] w (u.ins b b5) [] w':=by refine⟨λx y h=>?_,k.os,k.tape,k.output,k.drawn,JD k.size.symm,λx _ M _=>k.rest x (λe=>by rw[e,Z] at M;cases M),λx _ M=>?_,[],by simp,by simp⟩;unfold H.ins at h;split at h;rename_i e;rw[e];cases h;exact k.at_;rename_i e;rw[k.rest x e];exact hw _ _ h;rw[bm _ _ (λe=>by rw[e,Z] at M;cases M)];exact M
def ayx{g off:N}{cur:cu ao}{T:dC}(W:u g=some (.cells cur T (0,0)))(ae:off+n<=cur.size){fb:dC}{K:H->Prop}(aq:K (u.ins g (.cells (wr cur off (eU n (.int .i64 0))) T (0,0)))):
  c4 aH (pQ #[30] fb #[.slice (some ⟨g,off,none⟩) n c]) [] u K:=by
 intro w hw
 obtain⟨ht,i,Y,hi,aB,oY,wP,yL,CR⟩:=tz lQ
 rcases Oa n with rfl|oW
 refine⟨.tuple #[],w,u,by simp[pQ,iq ht],⟨[],.nil,rfl,?_⟩,Step.refl hw⟩
 have e:u.ins g (.cells (wr cur off (eU 0 (.int .i64 0))) T (0,0))=u:=Nk (by rw[W];rfl)
 rw[e] at aq
 exact aq
 obtain⟨w',O,kU⟩:=acb (P:=aH) (b:=g) (off:=off) (T:=T) (eU n (.int .i64 0)) 0 cur w (hw _ _ W) (by simp;omega) (λv aA=>by rw[List.eq_of_mem_replicate aA];rfl)
 have aA:∀w,(zeroValue 3).run aH w=.ok (.int .i64 0) w:=λ_=>by kernel_rfl
 have Zz:(vP (cG .i64 0).cells n).toList=eU n (.int .i64 0):=by simp[vP,Value.cells];apply abc;simp;intro i h1 h2;simp[Nat.mod_one]
 obtain⟨m,rfl⟩:∃m,n=m+1:=⟨n-1,by omega⟩
 refine⟨.tuple #[],w',_,by simp[pQ,iq ht,aA,Zz,O],⟨[],.nil,rfl,aq⟩,kU.aAy hw W⟩
def VD(ub:H)(fv:ao)(p:o->aI):Prop:=∀x (v:H) (K:aI->H->Prop),ub.le v->K (p x) v->tm aH fv #[.int .i64 x] [.one .bool] v K
def azP{fv:ao}{p:o->aI}(ag:Ints u s l)(ad:VD ub fv p)(b9:ub.le u)
  (aq:∀i:N,i<l.length->(∀k,k<i->p (l.getD k 0)=ax)->p (l.getD i 0)=ak->K i u) (eG:(∀k,k<l.length->p (l.getD k 0)=ax)->K (-1) u):U1 s fv u K:=by
 have ae:=ag.len
 have hm:=ag.max
 apply aDe
 refine⟨λ_ i v=>v=u/\0<=i/\i<=l.length/\∀k:N,k<i.toNat->p (l.getD k 0)=ax,λ_ i _=>l.length-i.toNat,⟨rfl,by omega,by omega,λk hk=>by simp at hk⟩,?_⟩
 rintro _ i v ⟨rfl,i0,i1,hk⟩
 refine⟨λea=>?_,λgr=>eG λk de=>hk k (by omega)⟩
 obtain⟨q,aO,I⟩:=ag.at i0 ea
 refine⟨q,aO,⟨i0,ea⟩,_,I,ad _ _ _ b9 ⟨λZ=>?_,λZ=>⟨⟨by omega,by omega⟩,⟨rfl,by omega,by omega,λk de=>?_⟩,by dsimp only;omega⟩⟩⟩
 have:=aq i.toNat (by omega) hk Z
 rw[show((i.toNat:N):o)=i by omega] at this
 exact this
 by_cases e:k=i.toNat
 rw[e];exact Z
 exact hk k (by omega)
def azQ{x:o}(ag:Ints u s l)(aq:∀i:o,(0<=i↔x∈l)->K i u):U2 s x u K:=by
 have ae:=ag.len;have hm:=ag.max;apply aDg;refine⟨λ_ i v=>v=u/\0<=i/\i<=l.length/\∀k:N,k<i.toNat->l.getD k 0≠x,λ_ i _=>l.length-i.toNat,⟨rfl,by omega,by omega,λk hk=>by simp at hk⟩,?_⟩;rintro _ i v ⟨rfl,i0,i1,hk⟩;refine⟨λea=>?_,λgr=>aq _ ⟨λh=>by omega,λh=>?_⟩⟩;obtain⟨q,aO,I⟩:=ag.at i0 ea;have M:l[i.toNat]?=some (l.getD i.toNat 0):=by
  have:i.toNat<l.length:=by omega
  simp[this]
 refine⟨q,aO,⟨i0,ea⟩,_,I,⟨λZ=>aq i ⟨λ_=>by rw[Z];exact du M,λ_=>i0⟩,λZ=>⟨⟨by omega,by omega⟩,⟨rfl,by omega,by omega,λk de=>?_⟩,by dsimp only;omega⟩⟩⟩;by_cases e:k=i.toNat;rw[e];exact λh=>Z h.symm;exact hk k (by omega);exfalso;obtain⟨k,hC,rfl⟩:=pc.1 h;exact hk k (by omega) (by simp[hC])
def azM{x:o}{K:aI->H->Prop}(ag:Ints u s l)(aq:K (decide (x∈l)) u):UY s x u K:=by apply aDa;refine azQ ag λi hi=>?_;have:decide (0<=i)=decide (x∈l):=Gq.2 hi;rw[<-this] at aq;exact aq
def _root_.Go.Proofs.YtejdhbfjjgcljaaGreatDoor.aD.clear{e:N}(h:aD ai u e 1 s (l.flatMap encI)){i:N}(hi:i<=s.n){fb:dC}{K:H->Prop}
  (aq:∀(u':H) (bw:J o),aD ai u' e 1 s (bw.flatMap encI)->bw.take i=l.take i->bw.length=l.length->gN u u' s->K u'):c4 aH (pQ #[30] fb #[.slice (s.part i s.n s.c 1).a (s.part i s.n s.c 1).n (s.part i s.n s.c 1).c]) [] u K:=by
 have dw:=h.ints.len
 rcases h.own.is with h0|⟨g,cur,aE,W,ae,I,ag,ht⟩
 subst h0
 have ar:l=[]:=ly dw.symm
 subst ar
 have LY:i=0:=by simpa using hi
 subst LY
 refine c4.pure [] (λw hw=>?_) .nil (aq u [] h rfl rfl (gN.refl _ _))
 obtain⟨ht,_⟩:=tz lQ
 simp[U.part,pQ,iq ht]
 rfl
 rcases aaI hi with rfl|bC
 have e:(s.part s.n s.n s.c 1).n=0:=by simp[U.part]
 refine c4.pure [] (λw hw=>?_) .nil (aq u l h rfl rfl (gN.refl _ _))
 obtain⟨ht,_⟩:=tz lQ
 rw[e]
 cases(s.part s.n s.n s.c 1).a<;>simp[pQ,iq ht]<;>rfl
 have yH:(s.part i s.n s.c 1).a=some ⟨g,i,none⟩:=by unfold U.part;simp only;rw[az (by omega),aE];simp[iC]
 rw[yH]
 have YD:(s.part i s.n s.c 1).n=s.n-i:=rfl
 rw[YD]
 have cY:i+(s.n-i)<=cur.size:=by rw[ag];omega
 refine ayx W cY ?_
 have CN:=GX cur i (eU (s.n-i) (.int .i64 0)) (by simpa using cY)
 simp only[N9] at CN
 refine aq _ (l.take i++eU (s.n-i) 0) ⟨⟨by rw[od kK];simp;omega,.inr ⟨g,_,aE,bf _ _ _,ae,I,?_,?_⟩⟩,λb z Z=>?_,h.fresh⟩ ?_ ?_ ?_
 rw[<-ru,CN];simp;omega
 rw[CN,va,dY,List.map_replicate]
 have rb:cur.toList.take s.n=l.map λx=>.int .i64 x:=by rw[<-va,<-ht,y7]
 have h1:cur.toList.take i=(l.take i).map λx=>.int .i64 x:=by rw[JB,<-rb,Ga,A9 (by omega)]
 rw[h1,N0 (by simp;omega),ho (by simp;omega)]
 have:b≠g:=λe=>by have:=h.fresh g (by simp[U.aj,aE]);rw[e,this] at Z;cases Z
 rw[bm _ _ this];exact h.le b z Z
 rw[N0 (by simp;omega),Ga,Te]
 simp;omega
 intro b z Z al
 rw[bm _ _ (λe=>al (by simp[U.aj,aE,e]))];exact Z
def azN{fv:ao}{p:o->aI}{K:U->H->Prop}(ab:aD ai u 3 1 s (l.flatMap encI))(ad:VD ub fv p)(b9:ub.le u)(kb:∀b,s.aj=some b->ub b=none)
  (aq:∀ap u',aD ai u' 3 1 ap ((l.filter λx=>!p x).flatMap encI)->ap.aj=s.aj->gN u u' s->K ap u'):UZ s fv u K:=by
 have dw:=ab.ints.len
 have yD:=ab.ints.max
 apply aDb
 refine azP ab.ints ad b9 (λi hi ed kh=>⟨λh=>by omega,λ_=>⟨⟨by omega,by omega⟩,?_⟩⟩) λed=>⟨λ_=>?_,λh=>a6 rfl h⟩
 have Xw:(l.take i).filter (λx=>!p x)=l.take i:=by rw[pS];intro a aE;obtain⟨k,hk,rfl⟩:=pc.1 aE;simp only[gL] at hk;have:=ed k (by omega);rw[dr,cn (by omega)] at this;simp only[Gk,Jg] at this ⊢;rw[this];rfl
 have M:l[i]?=some (l.getD i 0):=by simp[hi]
 refine⟨λa j v=>0<=a/\a<j/\j<=l.length/\gN u v s/\∃m:J o,m.length=l.length/\aD ai v 3 1 s (m.flatMap encI)/\m.take a.toNat=(l.take j.toNat).filter (λx=>!p x)/\m.drop j.toNat=l.drop j.toNat,
  λ_ j _=>l.length-j.toNat,⟨by omega,by omega,by omega,gN.refl _ _,l,rfl,ab,?_,rfl⟩,?_⟩
 rw[show((i:o)+1).toNat=i+1 by omega,xM,gT,M]
 simp only[Tg,vT,Xw,xN,kh]
 simp
 rintro a j v ⟨a0,cI,avH,eB,m,pG,om,ua,LM⟩
 have Zh:ub.le v:=λb z Z=>eB b z (b9 b z Z) λe=>by rw[kb b e] at Z;cases Z
 refine⟨λku=>?_,λgr=>?_⟩
 obtain⟨q,aO,I⟩:=om.ints.at (x:=j) (by omega) ku
 have RF:m.getD j.toNat 0=l.getD j.toNat 0:=by have:=dV (λY=>Y[0]?) LM;simp only[uB,Th] at this;rw[dr,dr,this]
 have L6:l[j.toNat]?=some (l.getD j.toNat 0):=by
  have:j.toNat<l.length:=by omega
  simp[this]
 rw[RF] at I
 have Az:(l.take (j.toNat+1)).filter (λx=>!p x)=m.take a.toNat++(if p (l.getD j.toNat 0)=ak then[] else[l.getD j.toNat 0]):=by rw[gT,L6,ua];simp only[Tg,vT,xN,List.filter_nil];cases p (l.getD j.toNat 0)<;>simp
 have LN:∀qu:J o,(∀k,a.toNat<k->qu[k]?=m[k]?)->qu.drop (j+1).toNat=l.drop (j+1).toNat:=λqu oi=>by
  have e:l.drop (j+1).toNat=m.drop (j+1).toNat:=by rw[show(j+1).toNat=j.toNat+1 by omega,<-A7,<-A7,LM]
  rw[e];apply r1;intro k;rw[uB,uB,oi _ (by omega)]
 refine⟨q,aO,⟨by omega,ku⟩,_,I,ad _ _ _ Zh ⟨λZ=>?_,λZ=>?_⟩⟩
 have YB:p (l.getD j.toNat 0)=ax:=by simpa using Z
 rw[YB] at Az
 refine⟨q,aO,⟨by omega,by omega⟩,?_⟩
 refine aD.store (enc:=encI) kK om (by decide) (i:=a.toNat) (by omega) (y:=l.getD j.toNat 0) (zW _) aO λc9 dz iQ _=>⟨⟨by omega,by omega⟩,⟨by omega,by omega⟩,⟨by omega,by omega,by omega,λb z Z al=>iQ b z (eB b z Z al) al,_,by simpa using pG,dz,?_,?_⟩,by dsimp only;omega⟩
 rw[show(j+1).toNat=j.toNat+1 by omega,Az,show(a+1).toNat=a.toNat+1 by omega,gT,ze (by omega),List.take_set_of_le (cg _)]
 simp
 exact LN _ λk hk=>uE (by omega)
 rw[Z] at Az
 refine⟨⟨by omega,by omega⟩,⟨by omega,by omega,by omega,eB,m,pG,om,?_,LN m λ_ _=>rfl⟩,by dsimp only;omega⟩
 rw[show(j+1).toNat=j.toNat+1 by omega,Az];simp
 have ku:j.toNat=l.length:=by have:¬j<(s.n:o):=gr;omega
 have gZ:=bt.cap om.own.cC
 rw[ku,ni] at ua
 refine lj (P:=aH) lQ (l:=a.toNat) (h:=s.n) (m:=s.c) (.inr (by rw[tb a0])) (.inl ⟨rfl,rfl⟩) (.inl ⟨rfl,rfl⟩) (by omega) gZ (cg _) gZ ?_
 refine om.clear (i:=a.toNat) (by omega) λc9 m2 dz h1 h2 iQ=>?_
 refine lj (P:=aH) lQ (l:=0) (h:=a.toNat) (m:=s.c) (.inl ⟨rfl,rfl⟩) (.inr (by rw[tb a0])) (.inl ⟨rfl,rfl⟩) (by omega) (by omega) (cg _) gZ ?_
 obtain⟨ac,Ae,_⟩:=dz.front (m:=a.toNat) (by omega)
 have e:(m2.flatMap encI).take (a.toNat*1)=(l.filter λx=>!p x).flatMap encI:=by rw[yi kK,h1,ua]
 rw[e] at ac
 exact aq _ _ ac Ae λb z Z al=>iQ b z (eB b z Z al) al
 have e:l.filter (λx=>!p x)=l:=by rw[pS];intro a aE;obtain⟨k,hk,rfl⟩:=pc.1 aE;have:=ed k hk;rw[dr,cn hk] at this;simp only[Jg] at this;rw[this];rfl
 exact aq s u (by rw[e];exact ab) rfl (gN.refl _ _)
end
section
open Go.Sort Go.Shelf
def azt{u:H}{b n0 n6 p:N}{T:aT}{q:J o}{sv:U}{x y:o}{K:o->H->Prop}(h:ts u b T)(W:p8 T.dim T.g)(M:x∈T.g.map (·.1))(ah:y∈T.g.map (·.1))(aO:sl u T.dim sv q)
  (bK:u.cell? ⟨n0,0,none⟩=some (.pointer (some ⟨b,0,none⟩))) (Qk:u.cell? ⟨n6,0,none⟩=some (.pointer (some ⟨p,0,none⟩))) (aes:u.cell? ⟨p,0,none⟩=some (.slice sv.a sv.n sv.c))
  (aq:K (if bC (cN T.g q x) (cN T.g q y)=ak then -1 else 1) u):ac5 x y ⟨n0,0,none⟩ ⟨n6,0,none⟩ u K:=by
 apply aCg
 refine⟨_,bK,_,Qk,_,rfl,sv,aes,_,bK,_,Qk,_,rfl,sv,aes,abQ h W M aO ⟨H.le.refl u,abQ h W ah aO (JW (a:=cN T.g q x) (b:=cN T.g q y) ⟨λZ=>?_,λZ=>?_⟩)⟩⟩
 rw[aV Z] at aq;exact aq
 rw[az (by rw[Z];simp)] at aq;exact aq
structure VA(cj lv:o)(l:J o)(x:o)(bw:J o):Prop where
 sub:∀y∈bw,y∈l∨y=x
 nodup:(l++ [x]).Nodup->bw.Nodup
 len:(bw.length:o)<=vE cj lv
def aac{cj lv:o}(h:1<=cj/\cj<=16):1<=vE cj lv/\vE cj lv<=32:=by unfold vE;split<;>omega
def asY(g:J (o×dj))(q:J o)(ids:J o):SWO (ltOf λx y:{i//i∈ids}=>if bC (cN g q x.1) (cN g q y.1)=ak then(-1:o) else 1) where
 irrefl x:=by unfold ltOf;simp[Ie]
 trans x y Y h1 h2:=by
  unfold ltOf at*;simp only[Jf] at*;have cx:bC (cN g q x.1) (cN g q y.1)=ak:=by revert h1;split;intro _;assumption;intro h;omega
  have cS:bC (cN g q y.1) (cN g q Y.1)=ak:=by revert h2;split;intro _;assumption;intro h;omega
  rw[aV (Md cx cS)];decide
 ntrans x y Y h1 h2:=by
  unfold ltOf at*;simp only[Ju] at*;have cx:bC (cN g q x.1) (cN g q y.1)=ax:=by revert h1;split;intro h;exact a6 (by decide) h;intro _;simp_all
  have cS:bC (cN g q y.1) (cN g q Y.1)=ax:=by revert h2;split;intro h;exact a6 (by decide) h;intro _;simp_all
  rw[az (by rw[E1 cS cx];simp)];decide
def _root_.Go.Proofs.YtejdhbfjjgcljaaGreatDoor.H.Bz(u:H)(s:U):H:=λc=>open Classical in if s.aj=some c then none else u c
def _root_.Go.Proofs.YtejdhbfjjgcljaaGreatDoor.H.aEw(u:H)(s:U):(u.Bz s).le u:=λc z h=>by unfold H.Bz at h;split at h;cases h;exact h
def _root_.Go.Proofs.YtejdhbfjjgcljaaGreatDoor.H.acL{u:H}{s:U}{c:N}(h:s.aj≠some c):u.Bz s c=u c:=az h
def alb{ai u:H}{af:N->ay bu}{b:N}{T:aT}{a x lv:o}{n:dj}{l:J o}{K:H->Prop}(h:In ai u af b T)(W:p8 T.dim T.g)(ar:1<=T.cj/\T.cj<=16)
  (ae:eL T.g a=some n) (M:x∈T.g.map (·.1)) (jH:0<=lv) (eZ:lv<31) (jF:n.kn[lv.toNat]?=some l) (vm:l.length<=1000000)
  (aq:∀u' aY ap bw,In ai u' aY b {T with g:=qG T.g a (n.jz lv.toNat ap bw)}->gy u af u' aY->VA T.cj lv l x bw->K u'):Py (some ⟨b,0,none⟩) a x lv u K:=by
 have aE:a∈T.g.map (·.1):=bk.2 ⟨_,ih ae,rfl⟩
 have eG:=h.aF.node ae
 obtain⟨s,fZ,eb,dE,I,ab,xe⟩:=xm eG (lv:=lv.toNat) (by omega)
 rw[jF] at dE;cases dE
 have aFL:=aac (lv:=lv) ar
 apply aCf
 intro n0 eT
 have nQ:=bW (u:=u) (b:=n0) (.cells #[.pointer (some ⟨b,0,none⟩)] 122 (0,0)) eT
 obtain⟨_,_,_,fM,_⟩:=kB (h.aF.mono nQ)
 refine⟨_,a1 (bf _ _ _) 0,_,rfl,_,fM,uQ (h.aF.mono nQ) aE λnd bY _=>?_⟩
 rw[ae] at bY;cases bY
 intro n6 qn
 have atF:u n6=none:=nQ.none qn
 have atx:n0≠n6:=λe=>by rw[<-e,bf] at qn;cases qn
 refine mG (zs:=[.pointer none]) rfl (by simp[cF]) ?_
 obtain⟨iN,rX⟩:∃iN,(u.ins n0 (.cells #[.pointer (some ⟨b,0,none⟩)] 122 (0,0))).ins n6 (.cells [.pointer (some ⟨n.p,0,none⟩)].toArray 227 (0,0))=iN:=⟨_,rfl⟩
 rw[rX]
 have FK:u.le iN:=by rw[<-rX];exact nQ.trans (bW _ qn)
 have fV:iN n0=some (.cells #[.pointer (some ⟨b,0,none⟩)] 122 (0,0)):=by rw[<-rX,bm _ _ atx,bf]
 have BZ:iN n6=some (.cells #[.pointer (some ⟨n.p,0,none⟩)] 227 (0,0)):=by rw[<-rX,bf]
 refine⟨_,a1 BZ 0,_,rfl,by decide,⟨jH,eZ⟩,s,qg FK I,?_⟩
 have qp:=ab.ints.len
 have dI:∀c,s.aj=some c->af c≠none:=λc e=>by rw[xe c e];simp
 have YZ:s.aj≠some n0:=λe=>h.known n0 (dI _ e) eT
 have Y0:s.aj≠some n6:=λe=>h.known n6 (dI _ e) atF
 refine np lQ (zN x) (by decide) rfl (by simp[cF]) (ab.mono FK) (by omega) (by omega) λkW l9 Mx aFM XD agc iA=>?_
 have H0:l.flatMap encI++ [.int .i64 x]=(l++ [x]).flatMap encI:=by simp[encI]
 rw[H0] at Mx
 have Nr:∀c z,u c=some z->s.aj≠some c->l9 c=some z:=λc z h1 h2=>XD c z (FK c z h1) h2
 have ad7:∀c,kW.aj=some c->s.aj=some c∨u c=none:=λc e=>(agc c e).imp id λh1=>FK.none h1
 have aag:∀c,af c≠none->(∀i lv,af c≠some (.arr i lv))->s.aj≠some c:=λc _ h2 e=>h2 _ _ (xe c e)
 have abf:ts l9 b T:=h.aF.Ts λc z h1 h2 h3=>Nr c z h1 (aag c h2 h3)
 have VT:l9 n0=some (.cells #[.pointer (some ⟨b,0,none⟩)] 122 (0,0)):=XD _ _ fV YZ
 have VV:l9 n6=some (.cells #[.pointer (some ⟨n.p,0,none⟩)] 227 (0,0)):=XD _ _ BZ Y0
 intro Kt WX
 have join:∀(dp:U) (gC:H) (bw:J o),aD BK gC 3 1 dp (bw.flatMap encI)->VA T.cj lv l x bw->(∀c z,u c=some z->s.aj≠some c->gC c=some z)->(∀c,dp.aj=some c->s.aj=some c∨u c=none)->
   gC n6=some (.cells #[.pointer (some ⟨n.p,0,none⟩)] 227 (0,0))->Kt dp gC:=by
  intro dp gC bw h1 h2 h3 a7 bE
  refine WX _ _ ⟨_,a1 bE 0,_,rfl,by decide,⟨jH,eZ⟩,?_⟩
  unfold aW
  rw[I4]
  have tZ:s.aj≠some n.p:=λe=>by have:=xe _ e;rw[eG.tag] at this;cases this
  refine ab7 (h3 _ _ eG.cell tZ) eG.uh (by omega) bw ?_
  obtain⟨aY,fO,kL⟩:=h.level ae eb h1 h3 a7
  exact aq _ _ _ _ fO kL h2
 have aFD:kW.n=l.length+1:=by have:=Mx.ints.len;simpa using this
 have aFX:sl l9 T.dim n.sv n.v:=⟨(abf.nodes _ (ih ae)).2,(W.vec _ (ih ae)).2,(W.vec _ (ih ae)).1⟩
 have aE1:l9.cell? ⟨n.p,0,none⟩=some (.slice n.sv.a n.sv.n n.sv.c):=by have:=(abf.nodes _ (ih ae)).1;simp only at this;simp[H.cell?,this,jt]
 refine⟨_,a1 VT 0,alc abf ar ⟨λRL=>?_,λgr=>?_⟩⟩
 have as8:∀y∈l++ [x],y∈T.g.map (·.1):=λy ah=>by rcases cK.1 ah with ah|ah;exact W.cc lv.toNat a aE y (by rw[aai ae jF];exact ah);simp at ah;rw[ah];exact M
 obtain⟨L,cL⟩:∃L:J {i//i∈T.g.map (·.1)},L.map (·.1)=l++ [x]:=⟨(l++ [x]).attachWith _ as8,by simp⟩
 haveI:lx {i//i∈T.g.map (·.1)}:=⟨⟨x,M⟩⟩
 have ot:∀{c:N},s.aj≠some c->(iN c≠none)->kW.aj≠some c:=λh1 h2 e=>(agc _ e).elim h1 h2
 have abg:ts (l9.Bz kW) b T:=h.aF.Ts λc z h1 h2 h3=>by have a7:=aag c h2 h3;rw[H.acL (ot a7 (by rw[FK c z h1];simp))];exact Nr c z h1 a7
 have d0:(l9.Bz kW) n0=some (.cells #[.pointer (some ⟨b,0,none⟩)] 122 (0,0)):=by rw[H.acL (ot YZ (by rw[fV];simp))];exact VT
 have d6:(l9.Bz kW) n6=some (.cells #[.pointer (some ⟨n.p,0,none⟩)] 227 (0,0)):=by rw[H.acL (ot Y0 (by rw[BZ];simp))];exact VV
 have auk:sl (l9.Bz kW) T.dim n.sv n.v:=⟨(abg.nodes _ (ih ae)).2,(W.vec _ (ih ae)).2,(W.vec _ (ih ae)).1⟩
 have apk:(l9.Bz kW).cell? ⟨n.p,0,none⟩=some (.slice n.sv.a n.sv.n n.sv.c):=by have:=(abg.nodes _ (ih ae)).1;simp only at this;simp[H.cell?,this,jt]
 rw[<-cL] at Mx
 refine azR (val:=λi:{i//i∈T.g.map (·.1)}=>i.1) (asY T.g n.v (T.g.map (·.1))) (enters_of func176 (by kernel_rfl) rfl) (ub:=l9.Bz kW)
  (λy Y v aA=>?_) (H.aEw _ _) (λc I=>aV I) Mx ?_ λkC kF iT _ mU Ro=>?_
 exact azt (K:=λfj c9=>fj=(if bC (cN T.g n.v y.1) (cN T.g n.v Y.1)=ak then -1 else 1)/\c9=v) (abg.mono aA) W y.2 Y.2 (auk.mono aA) (qg aA (a1 d0 0)) (qg aA (a1 d6 0)) (qg aA apk) ⟨rfl,rfl⟩
 have:=dV hR cL
 simp at this;omega
 have axX:ts kC b T:=h.aF.Ts λc z h1 h2 h3=>by have a7:=aag c h2 h3;exact Ro c z (Nr c z h1 a7) (ot a7 (by rw[FK c z h1];simp))
 have aoO:=Ro _ _ VT (ot YZ (by rw[fV];simp))
 have aoU:=Ro _ _ VV (ot Y0 (by rw[BZ];simp))
 have gZ:=bt.cap mU.own.cC
 refine⟨_,a1 aoO 0,alc axX ar ?_⟩
 refine lj (P:=aH) lQ (l:=0) (h:=(vE T.cj lv).toNat) (m:=kW.c) (.inl ⟨rfl,rfl⟩) (.inr (by rw[tb (by omega)])) (.inl ⟨rfl,rfl⟩) (by omega) (by omega) (cg _) gZ ?_
 obtain⟨ac,Ae,_⟩:=mU.front (m:=(vE T.cj lv).toNat) (by omega)
 rw[yi kK] at ac
 refine join _ _ _ ac ⟨λy ah=>?_,λbY=>?_,?_⟩ (λc z h1 h2=>Ro c z (Nr c z h1 h2) (ot h2 (by rw[FK c z h1];simp))) (λc e=>ad7 c (by rw[<-Ae];exact e)) aoU
 have Zt:=nW ah
 have:=((iT.map (·.1)).mem_iff (a:=y)).1 Zt
 rw[cL] at this
 simpa using this
 rw[<-cL] at bY
 exact((iT.map (·.1)).nodup_iff.2 bY).sublist (rz _ _)
 simp;omega
 refine join kW l9 (l++ [x]) Mx ⟨λy ah=>by simpa using ah,λh=>h,?_⟩ Nr ad7 VV
 simp;omega
end
section
variable{u ai u':H}{g bX:J (o×dj)}{b c n0:N}{l:J (o×ao)}{n:dj}{i a:o}{D bw:J o}{K:U->H->Prop}
def e4(g:J (o×dj)):J (o×J o):=g.map λx=>(x.1,x.2.v)
structure Alike(g bX:J (o×dj)):Prop where
 ids:bX.map (·.1)=g.map (·.1)
 at':∀i n,eL g i=some n->∃n',eL bX i=some n'/\n'.p=n.p/\n'.v=n.v/\n'.top=n.top
def Alike.refl(g:J (o×dj)):Alike g g:=⟨rfl,λ_ n h=>⟨n,h,rfl,rfl,rfl⟩⟩
def Alike.trans{afj:J (o×dj)}(h:Alike g bX)(k:Alike bX afj):Alike g afj:=
 ⟨k.ids.trans h.ids,λi n ae=>by obtain⟨n',h1,h2,h3,a7⟩:=h.at' i n ae;obtain⟨awq,cx,cS,nM,ZJ⟩:=k.at' i n' h1;exact⟨awq,cx,cS.trans h2,nM.trans h3,ZJ.trans a7⟩⟩
def Alike.jz(ae:eL g a=some n)(lv:N)(s:U)(l:J o):Alike g (qG g a (n.jz lv s l)):=
 ⟨ayG _ _ _,λi m hm=>by rw[Lb];by_cases e:i=a;subst e;rw[aV rfl,hm];rw[ae] at hm;cases hm;exact⟨_,rfl,rfl,rfl,rfl⟩;rw[az e];exact⟨m,hm,rfl,rfl,rfl⟩⟩
def Alike.map{β:Type}(h:Alike g bX)(bY:(g.map (·.1)).Nodup)(f:o×dj->β)(ac:∀i n n',n'.p=n.p->n'.v=n.v->n'.top=n.top->f (i,n')=f (i,n)):bX.map f=g.map f:=by
 have hlen:bX.length=g.length:=by have:=dV hR h.ids;simpa using this
 apply abc (by simp[hlen]);intro k h1 h2;simp only[dg] at h1 h2;simp only[Di];have b7:(bX[k]).1=(g[k]).1:=by have:=dV (λl=>l[k]?) h.ids;simpa[h1,h2] using this
 have W:=z1 bY (id:=(g[k]).1) (n:=(g[k]).2) (kk h2);obtain⟨n',aP,aC,c0,ff⟩:=h.at' _ _ W;have w4:(bX.map (·.1)).Nodup:=by rw[h.ids];exact bY
 have cb:=z1 w4 (id:=(bX[k]).1) (n:=(bX[k]).2) (kk h1);rw[b7,aP] at cb;have eX:(bX[k]).2=n':=(cO cb).symm;have lp:bX[k]=((g[k]).1,n'):=by rw[<-b7,<-eX]
 rw[lp];exact ac _ _ _ aC c0 ff
def Alike.rows(h:Alike g bX)(bY:(g.map (·.1)).Nodup):e4 bX=e4 g:=h.map bY _ λ_ _ _ _ h2 _=>by rw[h2]
def Alike.jh(h:Alike g bX)(bY:(g.map (·.1)).Nodup):jh bX=jh g:=h.map bY _ λ_ _ _ h1 _ _=>by rw[h1]
structure p9(dim cj:o)(g:J (o×dj)):Prop where
 ok:p8 dim g
 many:∀i n (lv:N) l,eL g i=some n->n.kn[lv]?=some l->(l.length:o)<=vE cj lv/\l.Nodup/\i∉l
def p8.alike{dim:o}(h:p8 dim g)(aE:Alike g bX)(bY:(g.map (·.1)).Nodup)(hk:∀i n l,eL bX i=some n->l∈n.kn->∀x∈l,x∈g.map (·.1)):p8 dim bX:=by
 have w4:(bX.map (·.1)).Nodup:=by rw[aE.ids];exact bY
 have mA:∀x∈bX,∃n,eL g x.1=some n/\x.2.v=n.v/\x.2.top=n.top:=λx M=>by
  have b7:x.1∈g.map (·.1):=by rw[<-aE.ids];exact bk.2 ⟨x,M,rfl⟩
  obtain⟨n,ae⟩:=yk b7;obtain⟨n',aP,_,c0,ff⟩:=aE.at' _ _ ae;have:=z1 w4 (id:=x.1) (n:=x.2) M;rw[aP] at this;cases this;exact⟨n,ae,c0,ff⟩
 refine⟨h.hs,λx M=>?_,λx M=>?_,λx M l ar i hi=>?_,λx M=>?_,?_⟩;obtain⟨n,ae,aP,_⟩:=mA x M;have:=h.vec _ (ih ae);rw[aP];exact this;obtain⟨n,ae,_,aC⟩:=mA x M;have:=h.top _ (ih ae);rw[aC];exact this;rw[aE.ids];exact hk x.1 x.2 l (z1 w4 M) ar i hi;obtain⟨n,ae,_⟩:=mA x M;exact h.ids (x.1,n) (ih ae);have:=dV hR aE.ids;simp only[dg] at this;rw[this];exact h.small
def OE{lv:N}{s:U}{l fZ:J o}{vC:N}(h:(n.jz lv s l).kn[vC]?=some fZ):(vC=lv/\fZ=l)∨(vC≠lv/\n.kn[vC]?=some fZ):=by unfold dj.jz at h;simp only at h;by_cases e:vC=lv;subst e;rw[A4] at h;simp only[qx] at h;split at h;cases h;exact .inl ⟨rfl,rfl⟩;cases h;rw[uE (dv e)] at h;exact .inr ⟨e,h⟩
def p9.jz{dim cj:o}(h:p9 dim cj g)(bY:(g.map (·.1)).Nodup)(ae:eL g a=some n){lv:N}(s:U)(h1:∀x∈bw,x∈g.map (·.1))(h2:(bw.length:o)<=vE cj lv)(h3:bw.Nodup)(a7:a∉bw):
  p9 dim cj (qG g a (n.jz lv s bw)):=by
 have qk:∀i m,eL (qG g a (n.jz lv s bw)) i=some m->(i=a/\m=n.jz lv s bw)∨(i≠a/\eL g i=some m):=λi m hm=>by rw[Lb] at hm;by_cases e:i=a;subst e;rw[aV rfl,ae] at hm;cases hm;exact .inl ⟨rfl,rfl⟩;rw[az e] at hm;exact .inr ⟨e,hm⟩
 refine⟨h.ok.alike (Alike.jz ae lv s bw) bY λi m l hm ar x M=>?_,λi m vC l hm ar=>?_⟩
 rcases qk i m hm with⟨rfl,rfl⟩|⟨_,hm⟩
 obtain⟨k,hk⟩:=Tn.1 ar
 rcases OE hk with⟨_,rfl⟩|⟨_,hk⟩
 exact h1 x M
 exact h.ok.known _ (ih ae) l (du hk) x M
 exact h.ok.known _ (ih hm) l ar x M
 rcases qk i m hm with⟨rfl,rfl⟩|⟨_,hm⟩
 rcases OE ar with⟨rfl,rfl⟩|⟨_,hk⟩
 exact⟨h2,h3,a7⟩
 exact h.many _ _ _ _ ae hk
 exact h.many _ _ _ _ hm ar
def p9.aiS{dim cj:o}(h:p9 dim cj g)(bY:(g.map (·.1)).Nodup){x lv:o}(ae:eL g a=some n)(jH:0<=lv)(s:U){l:J o}(ar:n.kn[lv.toNat]?=some l)(hk:VA cj lv l x bw)
  (M:x∈g.map (·.1)) (CO:x≠a) (eO:x∉l):p9 dim cj (qG g a (n.jz lv.toNat s bw)):=by
 obtain⟨m1,m2,m3⟩:=h.many a n _ l ae ar
 refine h.jz bY ae s (λy ah=>?_) (by rw[tb jH];exact hk.len) (hk.nodup ?_) λhm=>?_
 rcases hk.sub y ah with ah|rfl
 exact h.ok.known _ (ih ae) l (du ar) y ah
 exact M
 refine gb.2 ⟨m2,by simp,λc I d aw=>?_⟩
 simp at aw;subst aw;exact λe=>eO (e▸I)
 rcases hk.sub a hm with bE|bE
 exact m3 bE
 exact CO bE.symm
structure dP(T:aT):Prop where
 k:p9 T.dim T.cj T.g
 cj:1<=T.cj/\T.cj<=16
 entry:(T.g=[]/\T.entry=0)∨T.entry∈T.g.map (·.1)
def In.same{af:N->ay bu}{T:aT}(h:In ai u af b T)(hu:∀c z,u c=some z->af c≠none->u' c=some z)(hle:ai.le u'):In ai u' af b T:=
 ⟨h.aF.bM (λ_ _=>rfl) hu,hle,h.out,λc I=>by obtain⟨z,ab⟩:=e3.1 (h.known c I);rw[hu c z ab I];simp⟩
def In.aside{af:N->ay bu}{T:aT}(h:In ai u af b T)(ac:af c=none)(h0:ai c=none)(z:Obj):In ai (u.ins c z) af b T:=
 h.same (λx y M EM=>by rw[bm _ _ (λe=>by rw[e] at EM;exact EM ac)];exact M) λx y M=>by rw[bm _ _ (λe=>by rw[e,h0] at M;cases M)];exact h.le x y M
def In.fresh{af:N->ay bu}{T:aT}(h:In ai u af b T)(I:u c=none):af c=none:=by
 cases e:af c with
 |none=>rfl|some t=>exact a6 I (h.known c (by rw[e];simp))
def gy.none{af aY:N->ay bu}(h:gy u af u' aY){z:Obj}(I:u c=some z)(ac:af c=none):aY c=none:=by
 cases e:aY c with
 |none=>rfl|some t=>rcases h.grow c (by rw[e];simp) with h1|h1;exact a6 ac h1;rw[I] at h1;cases h1
abbrev OB:iK:=JJ (Tryz.f304.body.getD Go.Code.skip)
def ayD:OB=.rangeFunc (.tmp 6) #[7] (zf OB) (zg OB):=by kernel_rfl
def B3(x:o):ao:=.int .i64 x
def ayE(n0:N)(y:o)(v:H)(cU:H->Prop)(env:J (N×ao))(he:(2,gS (some ⟨n0,0,none⟩))∈env)
  (h:r5=r5/\([]:J (J ao))=[]/\∃s:U,v.cell? ⟨n0,0,none⟩=some (.slice s.a s.n s.c)/\
     c4 aH (dA 30 1 #[(0,.int .i64 y)]) [.one .slice] v λ(s1:U) jM=>
      c4 aH (dW #[30,30] 30 #[.slice s.a s.n s.c,.slice s1.a s1.n s1.c]) [.one .slice] jM λ(s2:U) nr=>
       H.aN nr ⟨n0,0,none⟩ [.slice s2.a s2.n s2.c] λfK=>r5=r5/\cU fK):
  BR aH 13 (zf OB) (zg OB) env 7 (B3 y) v cU:=
 BR.of (C:={P:=aH,exp:=[2],wrap:=ax,h9:=h9}) (nF _ _) (by kernel_rfl) (by kernel_rfl) [(7,.v (B3 y)),(2,.ptr ⟨n0,0,none⟩)] (by intro p ad;rcases cE.1 ad with rfl|ad;exact⟨_,rfl,.inl ⟨rfl,rfl⟩⟩;rcases cE.1 ad with rfl|ad;exact⟨_,rfl,.inr ⟨show(2:N)≠7 by decide,he⟩⟩;cases ad) (Eq.mp (by kernel_rfl) h)
def G7(l:J (o×ao))(dl:J (o×ao))(x:o)(aeE:J (o×ao)):Prop:=∃v,(x,v)∈l/\x∉dl.map (·.1)/\aeE=dl++ [(x,v)]
def collected{dl:J (o×ao)}(h:dl.Perm l):dM (dl.map (·.1))=dM (l.map (·.1)):=ayU (h.map _)
def azK{fv:ao}(ar:l.length<=1000000)(bY:(l.map (·.1)).Nodup)(iI:∀ai,u.le ai->Ks aH fv B3 (G7 l) [] (λdl=>dl.Perm l) ai)
  (aq:∀(s:U) (dl:J (o×ao)) (u':H),dl.Perm l->aD u u' 3 1 s ((dl.map (·.1)).flatMap encI)->K s u'):UW fv u K:=by
 apply aC8
 apply aC4
 intro n0 eT
 have hle:=bW (u:=u) (b:=n0) (.cells #[.slice none 0 0] 30 (0,0)) eT
 refine mP.code ayD (mP.avx (σ:=J (o×ao)) (t:=6) (enc:=B3) (fv:=fv) (Nx:=G7 l) (s0:=[]) (En:=λdl=>dl.Perm l) hle VX (by simp) (by decide) iI
  (λdl w=>(dl.map (·.1)).Nodup/\(∀p∈dl,p∈l)/\∃s0:U,w n0=some (.cells #[.slice s0.a s0.n s0.c] 30 (0,0))/\aD u w 3 1 s0 ((dl.map (·.1)).flatMap encI)/\s0.aj≠some n0)
  ⟨JG,λp ad=>(by cases ad),⟨none,0,0⟩,bf _ _ _,aD.nil hle _ _,by simp[U.aj]⟩ (λi v ⟨_,_,_,_,ab,_⟩=>ab.le) ?_ ?_)
 rintro dl y aeE v ⟨Y,aB,atU,rfl⟩ ⟨sI,yt,s0,HP,jU,Mr⟩
 refine ayE n0 y v _ _ (by simp) ⟨rfl,rfl,s0,a1 HP 0,?_⟩
 have atw:=jU.ints.len
 have yu:dl.length<=l.length:=by
  have h1:(dl.map (·.1)).Nodup:=sI;have h2:∀i∈dl.map (·.1),i∈l.map (·.1):=λi hi=>by obtain⟨p,ad,rfl⟩:=bk.1 hi;exact bk.2 ⟨p,yt p ad,rfl⟩
  have:=o5 h1 h2;simpa using this
 simp only[dg] at atw
 refine np lQ (zN y) (by decide) rfl (by simp[cF]) jU (by omega) (by omega) λs2 nr dz fp eB ev _=>GK (eB _ _ HP Mr) rfl ⟨rfl,?_,?_,s2,bf _ _ _,?_,?_⟩
 rw[dY]
 refine gb.2 ⟨sI,by simp,λa aE b Z=>?_⟩
 simp at Z;subst Z;exact λe=>atU (e▸aE)
 intro p ad
 rcases cK.1 ad with ad|ad
 exact yt p ad
 simp at ad;rw[ad];exact aB
 have yF:s2.aj≠some n0:=λe=>by rcases ev n0 e with h|h;exact Mr h;rw[HP] at h;cases h
 have:=dz.xj eT yF (.cells #[.slice s2.a s2.n s2.c] 30 (0,0))
 rw[dY,gU]
 exact this
 exact λe=>by rcases ev n0 e with h|h;exact Mr h;rw[HP] at h;cases h
 rintro dl v D pB ⟨sI,yt,s0,HP,jU,Mr⟩ eM
 have w1:=bW (u:=v) (b:=D) (uD (some [])) eM
 have kf:=jU.mono w1
 have ii:=w1 _ _ HP
 refine⟨s0,a1 ii 0,bf _ _ _,aq _ dl _ pB ?_⟩
 refine kf.xj (jU.le.none eM) (λe=>?_) _
 have:=dF jU e
 exact this eM
def abY{fv:ao}(ar:l.length<=1000000)(bY:(l.map (·.1)).Nodup)(iI:∀ai,u.le ai->Ks aH fv B3 (G7 l) [] (λdl=>dl.Perm l) ai)
  (aq:∀s u',aD u u' 3 1 s ((dM (l.map (·.1))).flatMap encI)->K s u'):uU fv u K:=by
 apply aDi
 refine azK ar bY iI λs dl aS ad ab=>?_
 have hlen:=ad.length_eq
 refine GI ab (by simp;omega) λc9 dz _=>aq _ _ ?_
 rw[collected ad] at dz
 exact dz
def aoe:hl aH 302=ak:=by kernel_rfl
def aod:hl aH 303=ak:=by kernel_rfl
structure anK(cU:J (o×ao)->H->Prop)(l:J (o×ao))(r b:N)(dl:J (o×ao))(w:H):Prop where
 ex:∃v0,cU dl v0/\v0 r=none/\v0.le w/\mM w r b l dl
def ZF{w:H}{r:N}{dl:J (o×ao)}(h:mM w r b l dl):dl.length<=l.length:=by
 have h2:∀i∈dl.map (·.1),i∈l.map (·.1):=λi hi=>by obtain⟨p,ad,rfl⟩:=bk.1 hi;exact bk.2 ⟨p,h.sub p ad,rfl⟩
 have:=o5 h.rH h2;simpa using this
def ZQ{P:dR}{v:H}{mb:ao}{t k e:dC}{Y:ao}(T:n5 P t k e Y)(h:fs u b l)
  (cU:J (o×ao)->H->Prop) (kM:∀s v,cU s v->u.le v)
  (ah:∀s y ap v (K:aI->H->Prop),G7 l s y ap->cU s v->(∀cm,cU ap cm->K ak cm)->zB P mb #[B3 y] [.one .bool] v K) (h0:cU [] v) {K:H->Prop} (aq:∀s cm,s.Perm l->cU s cm->K cm):
  c4 P (rq t (.map (some b))) [.one .ptr] v λ(hF:ay ba) (c9:H)=>∃Vv:H->Prop,∃adE:H->N,Vv c9/\∀fK,Vv fK->wx P (.pointer hF) fK (λtj=>∃jb,jb.le tj/\K jb)
   (λ_ _ qJ=>ww P (.pointer hF) qJ λv10 _ gx=>sn (.int .i64) v10 λ(aEF:o)=>tm P mb #[.int .i64 aEF] [.one .bool] gx λ(adY:aI) (sd:H)=>
    ((¬(adY=ak))->∃jb,jb.le sd/\K jb)/\(adY=ak->Vv sd/\adE sd<adE fK)):=by
 refine JQ T (h.mono (kM _ _ h0)) λr z O wX=>?_
 obtain⟨vJ,MB⟩:∃vJ,u b=some vJ:=by obtain⟨es,c,Z,_⟩:=h;exact⟨_,Z⟩
 let dc:N->H->Prop:=λn w=>∃dl,anK cU l r b dl w/\l.length-dl.length<=n
 refine⟨λw=>∃n,dc n w,λw=>least λn=>dc n w,⟨_,[],⟨v,h0,O,bW _ O,wX⟩,cg _⟩,?_⟩
 intro w hw
 have cA:=FL hw
 obtain⟨n,ae⟩:∃n,(least λn=>dc n w)=n:=⟨_,rfl⟩
 dsimp only
 rw[ae] at cA ⊢
 obtain⟨dl,⟨v0,aM,lY,hle,iI⟩,hlen⟩:=cA
 refine I2 iI (λad=>⟨v0,hle,aq _ _ ad aM⟩) λp z ad Ao pF=>?_
 refine Hr pF ?_
 have kU:∃x,w r=some x:=by obtain⟨es,c,seen,_,_,h3,_⟩:=iI;exact⟨_,h3⟩
 have w1:v0.le (w.ins r z):=λc x I=>by rw[bm _ _ (λe=>by rw[e,lY] at I;cases I)];exact hle c x I
 show tm P mb #[.int .i64 p.1] [.one .bool] (w.ins r z) _
 refine .inr ((ah dl p.1 (dl++ [p]) v0 (λb cm=>b=ak/\cU (dl++ [p]) cm) ⟨p.2,ad,Ao,rfl⟩ aM λcm gR=>⟨rfl,gR⟩).frame w1 ?_)
 rintro dD iu w' eI ⟨rfl,q2⟩
 refine⟨λal=>a6 rfl al,λ_=>?_⟩
 obtain⟨aum,cq⟩:=eI.out r z lY (bf _ _ _)
 have ii:∀x,(w.ins r z) b=some x->w' b=some x:=λx M=>by have aP:=w1 b vJ (kM _ _ aM b vJ MB);rw[aP] at M;cases M;exact eI.le b vJ (kM _ _ q2 b vJ MB)
 have ET:mM w' r b l (dl++ [p]):=pF.else ii λx M=>by rw[bf] at M;cases M;exact cq
 have EZ:=ZF ET
 simp only[eC,rA] at EZ
 have eG:dc (n-1) w':=⟨dl++ [p],⟨iu,q2,aum,eI.le,ET⟩,by simp only[eC,rA];omega⟩
 refine⟨⟨_,eG⟩,?_⟩
 have:=least_le (P:=λn=>dc n w') eG
 omega
def avN(T:n5 aH 166 3 4 (.bool ax))(h:fs u b l)(I:u.cell? ⟨n0,0,none⟩=some (.map (some b))):
  Ks aH (.func (.func 303) #[] #[.pointer (some ⟨n0,0,none⟩)]) B3 (G7 l) [] (λdl=>dl.Perm l) u:=by
 intro mb cU kM ah v K h0 aq
 refine⟨_,_,_,rfl,hh aod,ie.weaken (ss:=[]) ?_⟩
 exact aCS mb ⟨n0,0,none⟩ v _ ⟨_,qg (kM _ _ h0) I,ZQ T h cU kM ah h0 aq⟩
def avO(T:n5 aH 182 3 227 (.pointer none))(h:fs u b l)(I:u.cell? ⟨n0,0,none⟩=some (.map (some b))):
  Ks aH (.func (.func 302) #[] #[.pointer (some ⟨n0,0,none⟩)]) B3 (G7 l) [] (λdl=>dl.Perm l) u:=by
 intro mb cU kM ah v K h0 aq
 refine⟨_,_,_,rfl,hh aoe,ie.weaken (ss:=[]) ?_⟩
 exact aCP mb ⟨n0,0,none⟩ v _ ⟨_,qg (kM _ _ h0) I,ZQ T h cU kM ah h0 aq⟩
def KD:n5 aH 166 3 4 (.bool ax):=⟨by kernel_rfl,by kernel_rfl,λ_=>by kernel_rfl⟩
def Ea(id:o)(l:J o):J o:=l.filter λx=>!decide (x=id)
structure mK(id:o)(g bX:J (o×dj))(D:J o)(i:o)(j:N):Prop where
 bU:Alike g bX
 kn:∀a n n',eL g a=some n->eL bX a=some n'->∀(lv:N) bw,n'.kn[lv]?=some bw->∃l,n.kn[lv]?=some l/\bw=if a∈D∨(a=i/\lv<j) then Ea id l else l
def mK.refl(id:o)(g:J (o×dj))(i:o):mK id g g [] i 0:=
 ⟨Alike.refl g,λa n n' h bL lv bw ar=>by rw[h] at bL;cases bL;exact⟨bw,ar,by simp⟩⟩
def mK.step{id:o}{j:N}(h:mK id g bX D i j)(hi:i∉D){n':dj}(ae:eL bX i=some n')(ar:n'.kn[j]?=some bw)(s:U):
  mK id g (qG bX i (n'.jz j s (Ea id bw))) D i (j+1):=by
 refine⟨h.bU.trans (Alike.jz ae j s _),λa n m W hm lv fZ hN=>?_⟩
 rw[Lb] at hm
 by_cases e:a=i
 subst e
 rw[aV rfl,ae] at hm;cases hm
 rcases OE hN with⟨rfl,rfl⟩|⟨al,hk⟩
 obtain⟨l,cx,cS⟩:=h.kn a n n' W ae lv bw ar
 refine⟨l,cx,?_⟩
 rw[az (by rintro(h1|⟨_,h1⟩);exact hi h1;omega)] at cS
 rw[aV (.inr ⟨rfl,by omega⟩),cS]
 obtain⟨l,cx,cS⟩:=h.kn a n n' W ae lv fZ hk
 refine⟨l,cx,?_⟩
 rw[cS]
 by_cases I:lv<j
 rw[aV (.inr ⟨rfl,I⟩),aV (.inr ⟨rfl,by omega⟩)]
 rw[az (by rintro(h1|⟨_,h1⟩);exact hi h1;omega),az (by rintro(h1|⟨_,h1⟩);exact hi h1;omega)]
 rw[az e] at hm
 obtain⟨l,cx,cS⟩:=h.kn a n m W hm lv fZ hN
 refine⟨l,cx,?_⟩
 rw[cS]
 simp[e]
def mK.next{id:o}(h:mK id g bX D i 31)(hlen:∀n',eL bX i=some n'->n'.kn.length=31)(k7:o):mK id g bX (D++ [i]) k7 0:=
 ⟨h.bU,λa n n' W cb lv bw ar=>by
  obtain⟨l,cx,cS⟩:=h.kn a n n' W cb lv bw ar;refine⟨l,cx,?_⟩;rw[cS];by_cases e:a=i;subst e;have:=hlen n' cb;have h2:lv<31:=by rw[<-this];exact(ir.1 ar).1
  simp[h2];simp[e]⟩
def mK.eQ{id:o}(h:mK id g bX D i 0)(k7:o):mK id g bX D k7 0:=
 ⟨h.bU,λa n n' W cb lv bw ar=>by obtain⟨l,cx,cS⟩:=h.kn a n n' W cb lv bw ar;exact⟨l,cx,by rw[cS];simp⟩⟩
def QM{id:o}(i:o):eL (g.filter λx=>x.1 !=id) i=if i=id then none else eL g i:=by
 induction g with
 |nil=>simp[eL]|cons x g aL=>
  unfold eL at*;rw[xN];by_cases M:x.1=id;have aP:(x.1 !=id)=ax:=by simp[M]
  rw[aP];simp only[xA,xB];rw[aL];by_cases hi:i=id;rw[aV hi,aV hi];rw[az hi,az hi,Gm,Of (show x.1≠i from λe=>hi (by rw[<-e];exact M))];have aP:(x.1 !=id)=ak:=by simp[M]
  rw[aP];simp only[qx,Gm];by_cases hi:x.1=i;subst hi;simp[M];rw[Of hi];exact aL
def Ws{id:o}:i∈(g.filter λx=>x.1 !=id).map (·.1)↔i∈g.map (·.1)/\i≠id:=by simp only[bk,hT,bne_iff_ne,ne_eq];constructor;rintro⟨x,⟨h1,h2⟩,rfl⟩;exact⟨⟨x,h1,rfl⟩,h2⟩;rintro⟨⟨x,h1,rfl⟩,h2⟩;exact⟨x,⟨h1,h2⟩,rfl⟩
def axv(g:J (o×dj))(id:o):(jh g).filter (λp=>p.1 !=id)=jh (g.filter λx=>x.1 !=id):=by unfold jh;rw[r8];rfl
def mK.ok{id dim cj:o}(aq:p9 dim cj g)(bY:(g.map (·.1)).Nodup)(h:mK id (g.filter λx=>x.1 !=id) bX D i 0)(eM:∀a∈(g.filter λx=>x.1 !=id).map (·.1),a∈D):p9 dim cj bX:=by
 have Ij:((g.filter λx=>x.1 !=id).map (·.1)).Nodup:=bY.sublist (JF.map _);have ik:p8 dim (g.filter λx=>x.1 !=id)->p8 dim bX:=λW=>W.alike h.bU Ij λa n' bw hJ wZ x M=>by
  have aE:a∈(g.filter λx=>x.1 !=id).map (·.1):=by rw[<-h.bU.ids];exact bk.2 ⟨_,ih hJ,rfl⟩
  obtain⟨n,ae⟩:=yk aE;obtain⟨k,hk⟩:=Tn.1 wZ;obtain⟨l,cx,cS⟩:=h.kn a n n' ae hJ k bw hk;rw[aV (.inl (eM a aE))] at cS;rw[cS] at M;simp only[Ea,hT,Jn,Ju] at M;rw[QM] at ae;split at ae;cases ae;exact Ws.2 ⟨aq.ok.known _ (ih ae) l (du cx) x M.1,M.2⟩
 have many:∀a n' (lv:N) bw,eL bX a=some n'->n'.kn[lv]?=some bw->(bw.length:o)<=vE cj lv/\bw.Nodup/\a∉bw:=by
  intro a n' lv bw hJ wZ;have aE:a∈(g.filter λx=>x.1 !=id).map (·.1):=by rw[<-h.bU.ids];exact bk.2 ⟨_,ih hJ,rfl⟩
  obtain⟨n,ae⟩:=yk aE;obtain⟨l,cx,cS⟩:=h.kn a n n' ae hJ lv bw wZ;rw[aV (.inl (eM a aE))] at cS;rw[QM] at ae;split at ae;cases ae;obtain⟨m1,m2,m3⟩:=aq.many a n lv l ae cx;rw[cS];refine⟨?_,m2.sublist JF,λhm=>m3 (hT.1 hm).1⟩;have:=Bh (λx=>!decide (x=id)) l;unfold Ea;omega
 refine⟨?_,many⟩;have mA:∀x∈bX,∃n,eL g x.1=some n/\x.2.v=n.v/\x.2.top=n.top/\x.1≠id:=λx M=>by
  have b7:x.1∈(g.filter λx=>x.1 !=id).map (·.1):=by rw[<-h.bU.ids];exact bk.2 ⟨x,M,rfl⟩
  obtain⟨n,ae⟩:=yk b7;obtain⟨n',aP,_,c0,ff⟩:=h.bU.at' _ _ ae;have w4:(bX.map (·.1)).Nodup:=by rw[h.bU.ids];exact Ij
  have:=z1 w4 (id:=x.1) (n:=x.2) M;rw[aP] at this;cases this;rw[QM] at ae;split at ae;cases ae;rename_i al;exact⟨n,ae,c0,ff,al⟩
 have hlen:bX.length<=g.length:=by have:=dV hR h.bU.ids;simp only[dg] at this;rw[this];exact Bh _ _
 refine⟨aq.ok.hs,λx M=>?_,λx M=>?_,λx M bw wZ y ah=>?_,λx M=>?_,jv hlen aq.ok.small⟩;obtain⟨n,ae,aP,_⟩:=mA x M;have:=aq.ok.vec _ (ih ae);rw[aP];exact this;obtain⟨n,ae,_,aC,_⟩:=mA x M;have:=aq.ok.top _ (ih ae);rw[aC];exact this;rw[h.bU.ids];have w4:(bX.map (·.1)).Nodup:=by rw[h.bU.ids];exact Ij
 have hJ:=z1 w4 (id:=x.1) (n:=x.2) M;have aE:x.1∈(g.filter λx=>x.1 !=id).map (·.1):=by rw[<-h.bU.ids];exact bk.2 ⟨x,M,rfl⟩
 obtain⟨n,ae⟩:=yk aE;obtain⟨k,hk⟩:=Tn.1 wZ;obtain⟨l,cx,cS⟩:=h.kn x.1 n x.2 ae hJ k bw hk;rw[aV (.inl (eM x.1 aE))] at cS;rw[cS] at ah;simp only[Ea,hT,Jn,Ju] at ah;rw[QM] at ae;split at ae;cases ae;exact Ws.2 ⟨aq.ok.known _ (ih ae) l (du cx) y ah.1,ah.2⟩;obtain⟨n,ae,_⟩:=mA x M;exact aq.ok.ids (x.1,n) (ih ae)
def In.remove{af:N->ay bu}{T:aT}(h:In ai u af b T){id:o}{z:Obj}(hm:fs (u.ins T.m z) T.m ((jh T.g).filter λp=>p.1 !=id))(ae:eL T.g id=some n):
  ∃cZ,In ai (u.ins T.m z) cZ b {T with g:=T.g.filter λx=>x.1 !=id}/\gy u af (u.ins T.m z) cZ/\(∀c,ny af id c->cZ c=none)/\mN af (u.ins T.m z) id n:=by
 rw[axv] at hm
 obtain⟨h1,h2⟩:=h.akK hm λx M=>h.aF.nodes x (hT.1 M).1
 obtain⟨_,_,_,e9⟩:=h.I0
 have eG:mN af (u.ins T.m z) id n:=(h.aF.node ae).bM (λ_ _=>rfl) λc y ah Cz=>by rw[bm _ _ (e9 _ c Cz).2.1];exact ah
 let cZ:N->ay bu:=λc=>open Classical in if ny af id c then none else af c
 have aP:∀c,ny af id c->cZ c=none:=λc I=>aV I
 have aC:∀c,¬ny af id c->cZ c=af c:=λc I=>az I
 have c0:∀c,cZ c≠none->af c≠none:=λc I=>by by_cases hm:ny af id c;exact a6 (aP c hm) I;rw[aC c hm] at I;exact I
 have no:∀{c:N} {t:bu},af c=some t->(∀i,t≠.node i)->(∀i,t≠.vec i)->(∀i lv,t≠.arr i lv)->cZ c=af c:=λe h1 h2 h3=>aC _ (by rintro(aC|aC|⟨lv,aC⟩)<;>rw[e] at aC<;>cases aC;exact h1 _ rfl;exact h2 _ rfl;exact h3 _ _ rfl)
 have cc:=no h.aF.dL (by simp) (by simp) (by simp)
 have ki:=no h.aF.hV (by simp) (by simp) (by simp)
 have yW:=no h.aF.dh (by simp) (by simp) (by simp)
 refine⟨cZ,⟨⟨h1.aF.cell,h1.aF.src,h1.aF.GJ,h1.aF.map,by rw[cc];exact h.aF.dL,by simp only;rw[ki];exact h.aF.hV,by simp only;rw[yW];exact h.aF.dh,λx M=>?_⟩,h1.le,λc I=>h.out c (c0 c I),λc I=>h1.known c (c0 c I)⟩,
  ⟨h2.bM,λc I=>h2.grow c (c0 c I)⟩,aP,eG⟩
 have al:x.1≠id:=by simpa using(hT.1 M).2
 refine(h1.aF.nodes x M).bM (λc I=>aC c ?_) λ_ _ ah _=>ah
 rintro(e|e|⟨lv,e⟩)<;>rcases I with k|k|⟨vC,k⟩<;>rw[e] at k<;>cases k<;>exact al rfl
def VI:hl aH 293=ak:=by kernel_rfl
def apr{id:o}{T:dC}:VD (BK.ins n0 (.cells #[.int .i64 id] T (0,0))) (.func (.func 293) #[] #[.pointer (some ⟨n0,0,none⟩)]) (λx=>decide (x=id)):=
 λx v _ aA aq=>.inl ⟨_,_,_,rfl,hh VI,aB7 x ⟨n0,0,none⟩ v _ ⟨id,a1 (aA _ _ (bf _ _ _)) 0,aq⟩⟩
structure zD(ai u:H)(af:N->ay bu)(b:N)(T:aT)(id:o)(u':H)(aY:N->ay bu)(bx:aT):Prop where
 is:In ai u' aY b bx
 eQ:gy u af u' aY
 ok:dP bx
 rows:e4 bx.g=(e4 T.g).filter λx=>x.1 !=id
 dim:bx.dim=T.dim
 cj:bx.cj=T.cj
structure P4(ai lk:H)(cZ:N->ay bu)(b:N)(T:aT)(g1:J (o×dj))(v:H):Prop where
 ex:∃aY bX,In ai v aY b {T with g:=bX}/\gy lk cZ v aY/\Alike g1 bX/\p9 T.dim T.cj bX
structure Kn(ai lk:H)(cZ:N->ay bu)(b:N)(T:aT)(g1:J (o×dj))(id:o)(r:N)(k:N)(v:H):Prop where
 ex:∃dl aY bX,In ai v aY b {T with g:=bX}/\(∀c z,lk c=some z->cZ c=none->v c=some z)/\(∀c,aY c≠none->cZ c≠none∨lk c=none)/\aY r=none/\mK id g1 bX (dl.map (·.1)) id 0/\
  mM v r T.m (jh g1) dl/\(jh g1).length-dl.length<=k
def ayb(g:J (o×dj))(id:o):e4 (g.filter λx=>x.1 !=id)=(e4 g).filter λx=>x.1 !=id:=by unfold e4;rw[r8];rfl
def getD_some{l:J o}{i:N}(h:i<l.length):l[i]?=some (l.getD i 0):=by rw[dr,cn h];rfl
def akY(h:fs u b l)(ar:l.length<=1000000)(aq:∀s u',aD u u' 3 1 s ((dM (l.map (·.1))).flatMap encI)->K s u'):
  PF (some b) u λfv aS=>uU fv aS K:=by
 have bY:(l.map (·.1)).Nodup:=by obtain⟨_,_,_,he⟩:=h;exact he.nodup
 refine aCO (some b) u _ λn0 eT=>?_
 have hle:=bW (u:=u) (b:=n0) (.cells #[.map (some b)] 182 (0,0)) eT
 exact abY ar bY (λai rc=>avO vF (h.mono (hle.trans rc)) (a1 (rc _ _ (bf _ _ _)) 0)) λs u' ab=>aq s u' (ab.weaken hle)
def SM(g:J (o×dj)):(jh g).map (·.1)=g.map (·.1):=by unfold jh;rw[ez];rfl
def TM{af:N->ay bu}{T:aT}{id:o}{K:aI->o->H->Prop}(h:In ai u af b T)(aR:dP T)
  (ed:eL T.g id=none->∀u',u.le u'->K ax 0 u') (kh:∀n,eL T.g id=some n->∀u' aY bx,zD ai u af b T id u' aY bx->K ak 0 u'):Pw (some ⟨b,0,none⟩) id u K:=by
 have bY:=h.aF.nodup
 apply aB6
 intro n0 eT
 refine⟨λe=>(by cases e),λ_=>?_⟩
 have nQ:=bW (u:=u) (b:=n0) (.cells #[.int .i64 id] 3 (0,0)) eT
 have h0:=h.mono nQ
 have fV:(u.ins n0 (.cells #[.int .i64 id] 3 (0,0))) n0=some (.cells #[.int .i64 id] 3 (0,0)):=bf _ _ _
 have EI:af n0=none:=h.fresh eT
 obtain⟨aS,gI⟩:∃aS,u.ins n0 (.cells #[.int .i64 id] 3 (0,0))=aS:=⟨_,rfl⟩
 rw[gI] at h0 fV nQ ⊢
 obtain⟨_,_,_,fM,_⟩:=kB h0.aF
 refine⟨_,rfl,_,fM,_,a1 fV 0,?_⟩
 refine tf vF h0.aF.map (ct:=.ptr) ((eL T.g id).map λn=>(⟨n.p,0,none⟩:ba)) ?_ ?_
 rw[Cd];cases eL T.g id<;>rfl
 have iA:(fN (jh T.g) id).isSome=(eL T.g id).isSome:=by rw[Cd];cases eL T.g id<;>rfl
 rw[iA]
 refine⟨λac=>ed (by simpa using ac) _ nQ,λht=>?_⟩
 obtain⟨gone,H5⟩:=Je.1 ht
 have kh:=kh gone H5
 rw[H5]
 refine⟨_,rfl,_,fM,_,a1 fV 0,Oz vF h0.aF.map λz E3=>?_⟩
 obtain⟨cZ,eM,WU,ahm,Lu⟩:=h0.remove E3 H5
 obtain⟨_,_,_,e9⟩:=h0.I0
 have yv:(aS.ins T.m z) n0=some (.cells #[.int .i64 id] 3 (0,0)):=by
  have:n0≠T.m:=λe=>by have:=h.aF.dh;rw[<-e,EI] at this;cases this
  rw[bm _ _ this];exact fV
 have Rt:cZ n0=none:=WU.none fV EI
 have ahi:fs (aS.ins T.m z) T.m (jh (T.g.filter λx=>x.1 !=id)):=eM.aF.map
 obtain⟨lk,Zf⟩:∃lk,aS.ins T.m z=lk:=⟨_,rfl⟩
 obtain⟨g1,ik⟩:∃g1,(T.g.filter λx=>x.1 !=id)=g1:=⟨_,rfl⟩
 rw[Zf,ik] at eM
 rw[Zf] at WU Lu yv ⊢
 rw[Zf,ik] at ahi
 have Ij:(g1.map (·.1)).Nodup:=eM.aF.nodup
 have R8:gy u af lk cZ:=(gy.mono nQ).trans WU
 obtain⟨_,_,_,d3,_⟩:=kB eM.aF
 refine⟨_,rfl,_,d3,JQ vF ahi λr or O wX=>?_⟩
 have eI:cZ r=none:=eM.fresh O
 have lY:ai r=none:=eM.le.none O
 have ahP:r≠n0:=λe=>by rw[e,yv] at O;cases O
 have tN:∀lv:N,lv<31->∃s l,gone.kn[lv]?=some l/\∀v:H,(∀c z,lk c=some z->cZ c=none->v c=some z)->v.cell? (((cr gone.p 0 none).add 1).add (lv*1))=some (.slice s.a s.n s.c)/\Ints v s l:=by intro lv lI;obtain⟨s,l,h1,h2,h3,a7,bE⟩:=xm Lu lI;refine⟨s,l,h2,λv aA=>⟨?_,?_⟩⟩;have:=aA _ _ Lu.cell (ahm _ (.inl Lu.tag));rw[I4];rw[I4,FU Lu] at h3;simp only[H.cell?,this];simpa using h3;exact bt.else a7.ints λg x W M=>aA g x M (ahm g (.inr (.inr ⟨lv,bE g W⟩)))
 refine⟨λv=>∃k,Kn ai lk cZ b T g1 id r k v,λv=>least λk=>Kn ai lk cZ b T g1 id r k v,
  ⟨_,[],cZ,g1,eM.aside eI lY or,λc y I _=>bW _ O c y I,λc I=>.inl I,eI,mK.refl id g1 id,wX,cg _⟩,?_⟩
 intro v aA
 have cA:=FL aA
 obtain⟨k,hk⟩:∃k,(least λk=>Kn ai lk cZ b T g1 id r k v)=k:=⟨_,rfl⟩
 dsimp only
 rw[hk] at cA ⊢
 obtain⟨dl,aY,bX,b4,oS,XO,agI,wR,iI,hlen⟩:=cA
 clear aA
 refine I2 iI (λhP=>?_) λp hE ad Ao pF=>?_
 have wM:∀a∈g1.map (·.1),a∈dl.map (·.1):=λa aE=>by rw[<-SM] at aE;exact((hP.map (·.1)).mem_iff (a:=a)).2 aE
 have mu:p9 T.dim T.cj bX:=by rw[<-ik] at wR wM;exact wR.ok aR.k bY wM
 have rJ:P4 ai lk cZ b T g1 v:=⟨aY,bX,b4,⟨oS,XO⟩,wR.bU,mu⟩
 have agN:id∈T.g.map (·.1):=bk.2 ⟨_,ih H5,rfl⟩
 have ke:∀a,a∈g1.map (·.1)↔a∈T.g.map (·.1)/\a≠id:=λa=>by rw[<-ik];exact Ws
 clear wR iI b4 oS XO hlen wM mu
 refine⟨λlv w=>0<=lv/\lv<=31/\P4 ai lk cZ b T g1 w,λlv _=>(31-lv).toNat,⟨by omega,by omega,rJ⟩,?_⟩
 rintro lv w ⟨NA,ai8,iH⟩
 refine⟨λbC=>?_,λgr=>?_⟩
 obtain⟨s,l,jF,ahN⟩:=tN lv.toNat (by omega)
 obtain⟨m1,m2,m3⟩:=aR.k.many id gone lv.toNat l H5 jF
 have aha:∀y∈l,y∈g1.map (·.1):=λy ah=>(ke y).2 ⟨aR.k.ok.known _ (ih H5) l (du jF) y ah,λe=>m3 (e▸ah)⟩
 have oU:∀{dK:H},P4 ai lk cZ b T g1 dK->∀c z,lk c=some z->cZ c=none->dK c=some z:=λ⟨_,_,_,ht,_⟩=>ht.bM
 obtain⟨dU,hints⟩:=ahN w (oU iH)
 have dw:=hints.len
 have fq:=hints.max
 refine⟨_,rfl,by decide,⟨by omega,by omega⟩,s,dU,?_⟩
 refine⟨λi dK=>1<=i/\P4 ai lk cZ b T g1 dK,λi _=>l.length-i.toNat,⟨by omega,iH⟩,?_⟩
 rintro i dK ⟨i1,vf⟩
 obtain⟨_,agX⟩:=ahN dK (oU vf)
 have RN:=oU vf n0 _ yv Rt
 refine⟨λea=>?_,λaFu=>⟨⟨by omega,by omega⟩,⟨by omega,by omega,vf⟩,by dsimp only;omega⟩⟩
 intro anC afO
 obtain⟨q,aO,iy⟩:=agX.at (x:=i-1) (by omega) (by omega)
 obtain⟨AZ,Is,mv⟩:=agX.at (x:=i) (by omega) (by omega)
 have aui:AZ=q:=by rw[aO] at Is;exact(cO Is).symm
 subst aui
 have aiq:l[(i-1).toNat]?=some (l.getD (i-1).toNat 0):=getD_some (by omega)
 have IB:l[i.toNat]?=some (l.getD i.toNat 0):=getD_some (by omega)
 have al:l.getD i.toNat 0≠l.getD (i-1).toNat 0:=λe=>by
  have h1:(i-1).toNat<l.length:=by omega
  have h2:i.toNat<l.length:=by omega
  have:=nX.1 m2 (i-1).toNat i.toNat h1 h2 (by omega);rw[dr,dr,cn h1,cn h2] at e;exact this (by simpa using e.symm)
 have skip:anC ax dK:=afO _ _ ⟨λe=>(by cases e),λ_=>⟨⟨by omega,by omega⟩,⟨by omega,vf⟩,by dsimp only;omega⟩⟩
 refine⟨⟨by omega,by omega⟩,_,aO,⟨by omega,by omega⟩,_,iy,_,a1 RN 0,λE7=>⟨_,aO,⟨by omega,by omega⟩,_,mv,_,a1 RN 0,λyF=>?_,λ_=>⟨H.le.refl _,H.le.refl _,skip⟩⟩,λ_=>⟨H.le.refl _,H.le.refl _,skip⟩⟩
 obtain⟨hY,g2,kt,o0,vg,jT⟩:=vf
 have aFx:=kt
 obtain⟨_,_,_,c0,_⟩:=kB kt.aF
 have nI:(g2.map (·.1)).Nodup:=kt.aF.nodup
 have aE:l.getD (i-1).toNat 0∈g2.map (·.1):=by rw[vg.ids];exact aha _ (du aiq)
 have Z:l.getD i.toNat 0∈g2.map (·.1):=by rw[vg.ids];exact aha _ (du IB)
 refine⟨_,rfl,⟨by omega,by omega⟩,_,aO,⟨by omega,by omega⟩,_,aO,⟨by omega,by omega⟩,_,c0,_,iy,_,mv,uQ kt.aF aE λfa tU W3=>⟨H.le.refl _,_,rfl,by decide,⟨by omega,by omega⟩,?_⟩⟩
 obtain⟨JO,Nu,Cn,Ly,arS,arT,_⟩:=xm W3 (lv:=lv.toNat) (by omega)
 refine⟨JO,arS,H.le.refl _,azM arT.ints (afO _ _ ⟨λq6=>?_,λ_=>⟨⟨by omega,by omega⟩,⟨by omega,hY,g2,kt,o0,vg,jT⟩,by dsimp only;omega⟩⟩)⟩
 have w5:l.getD i.toNat 0∉Nu:=λhm=>by rw[lP hm] at q6;cases q6
 refine⟨⟨by omega,by omega⟩,_,aO,⟨by omega,by omega⟩,_,aO,⟨by omega,by omega⟩,_,iy,_,mv,?_⟩
 have Ya:Nu.length<=1000000:=by have h1:=(jT.many _ _ _ _ tU Ly).1;have:=(aac (lv:=((lv.toNat:N):o)) aR.cj).2;omega
 refine alb kt jT.ok aR.cj tU Z NA (by omega) Ly Ya λhy oN nk uj vj mY hC=>⟨⟨by omega,by omega⟩,⟨by omega,oN,_,vj,o0.trans mY,vg.trans (Alike.jz tU _ _ _),?_⟩,by dsimp only;omega⟩
 exact jT.aiS nI tU NA nk Ly hC Z al w5
 obtain⟨hY,g2,kt,o0,vg,jT⟩:=iH
 have RN:=o0.bM n0 _ yv Rt
 obtain⟨_,_,_,c0,ff⟩:=kB kt.aF
 have nI:(g2.map (·.1)).Nodup:=kt.aF.nodup
 have fin:∀w' oN e,In ai w' oN b {T with g:=g2,entry:=e}->gy lk cZ w' oN->((g2=[]/\e=0)∨e∈g2.map (·.1))->K ak 0 w':=λw' oN e h1 h2 h3=>
  kh w' oN {T with g:=g2,entry:=e} ⟨h1,R8.trans h2,⟨jT,aR.cj,h3⟩,by show e4 g2=_;rw[vg.rows Ij,<-ik,ayb],rfl,rfl⟩
 refine⟨_,rfl,_,ff,_,a1 RN 0,λtK=>⟨_,rfl,?_⟩,λtK=>?_⟩
 refine TR kt.aF (e:=0) ?_
 obtain⟨vj,mY⟩:=kt.OD 0
 obtain⟨hy,au5⟩:∃hy,w.ins b (.cells (fe {{T with g:=g2} with entry:=0}).toArray 184 (0,0))=hy:=⟨_,rfl⟩
 rw[au5] at vj mY ⊢
 obtain⟨_,_,_,f3,_⟩:=kB vj.aF
 have EZ:(jh g2).length<=1000000:=by have:=jT.ok.small;unfold jh;simp;omega
 refine⟨_,rfl,_,f3,akY vj.aF.map EZ λTz aBh Im=>?_⟩
 rw[SM] at Im
 change aD _ _ _ 1 Tz ((dM (g2.map (·.1))).flatMap encI) at Im
 have asW:=vj.mono Im.le
 have rU:Tz.aj≠some b:=λe=>by have:=Im.fresh b e;exact vj.known b (by rw[vj.aF.dL];simp) this
 have cL:=Im.ints
 have are:=cL.len
 have aFi:=cL.max
 have WZ:∀y,y∈dM (g2.map (·.1))↔y∈g2.map (·.1):=λy=>(nq _).mem_iff
 refine⟨λk po=>0<=k/\k<=(dM (g2.map (·.1))).length/\(∀c z,aBh c=some z->c≠b->po c=some z)/\∃e,In ai po hY b {T with g:=g2,entry:=e}/\gy lk cZ po hY/\(k=0->e=0)/\(0<k->e∈g2.map (·.1)),
  λk _=>(dM (g2.map (·.1))).length-k.toNat,⟨by omega,by omega,λc z I _=>I,0,asW,(o0.trans mY).trans (gy.mono Im.le),λ_=>rfl,λh=>by omega⟩,?_⟩
 rintro k po ⟨jZ,cx,il,e,vk,Y3,aB,ad⟩
 refine⟨λhC=>?_,λL7=>fin po hY e vk Y3 ?_⟩
 have arc:Ints po Tz (dM (g2.map (·.1))):=bt.else cL λg z W ab=>il g z ab λe=>rU (e▸W)
 obtain⟨q,aO,LJ⟩:=arc.at jZ hC
 have IC:(dM (g2.map (·.1)))[k.toNat]?=some ((dM (g2.map (·.1))).getD k.toNat 0):=by
  have:k.toNat<(dM (g2.map (·.1))).length:=by omega
  simp only[dr,cn this,Jg]
 have vx:=(WZ _).1 (du IC)
 refine⟨q,aO,⟨jZ,hC⟩,_,LJ,λVy afP=>?_⟩
 obtain⟨_,_,_,ae1,ae2⟩:=kB vk.aF
 have yes:Vy ak po:=afP _ _ ⟨λ_=>⟨_,rfl,TR vk.aF ⟨⟨by omega,by omega⟩,⟨by omega,by omega,λc z I kr=>?_,_,(vk.OD _).1,Y3.trans (vk.OD _).2,λh=>by omega,λ_=>vx⟩,by dsimp only;omega⟩⟩,λe=>(by cases e)⟩
 have no:0<k->Vy ax po:=λwY=>afP _ _ ⟨λe=>(by cases e),λ_=>⟨⟨by omega,by omega⟩,⟨by omega,by omega,il,e,vk,Y3,λh=>by omega,λ_=>ad wY⟩,by dsimp only;omega⟩⟩
 have any:∀dD:aI,0<k->Vy dD po:=λdD wY=>by cases dD;exact no wY;exact yes
 refine⟨_,rfl,_,ae2,λsJ=>?_,λsJ=>?_⟩
 have r:=H.le.refl po
 simp only[r,yes,and_self]
 have wY:0<k:=by rcases Int.lt_or_eq_of_le jZ with h1|h1;exact h1;exact a6 (aB h1.symm) sJ
 have XG:=ad wY
 have r:=H.le.refl po
 have top:∀{i:o} {n:dj},mN hY po i n->po.cell? ((cr n.p 0 none).add 32)=some (.int .i64 n.top):=λeG=>by rw[iC,jI,FU eG];exact SF eG.uh
 refine⟨_,rfl,_,rfl,_,rfl,_,ae1,_,ae1,_,ae2,?_,?_⟩
 refine uQ vk.aF vx λb3 _ Cg=>⟨r,_,rfl,⟨_,top Cg,r,?_⟩,?_⟩
 exact uQ vk.aF XG λeN _ py=>⟨r,_,rfl,_,top py,r,any _ wY⟩
 exact uQ vk.aF XG λeN _ py=>⟨r,_,rfl,⟨_,top Cg,r,_,top py,r,any _ wY⟩,⟨_,top py,r,_,top Cg,r,any _ wY⟩⟩
 refine uQ vk.aF XG λeN _ py=>⟨r,_,rfl,?_,⟨_,top py,r,?_⟩⟩
 exact uQ vk.aF vx λb3 _ Cg=>⟨r,_,rfl,⟨_,top Cg,r,_,top py,r,any _ wY⟩,⟨_,top py,r,_,top Cg,r,any _ wY⟩⟩
 exact uQ vk.aF vx λb3 _ Cg=>⟨r,_,rfl,_,top Cg,r,any _ wY⟩
 rw[bm _ _ kr];exact il c z I kr
 have hC:k.toNat=(dM (g2.map (·.1))).length:=by have:¬k<(Tz.n:o):=L7;omega
 rcases Oa k.toNat with h0|h0
 left
 have:g2.map (·.1)=[]:=by
  have h2:(dM (g2.map (·.1))).length=0:=by omega
  rw[zm] at h2;exact ly h2
 exact⟨by simpa using this,aB (by omega)⟩
 exact .inr (ad (by omega))
 refine fin w hY T.entry kt o0 (.inr ?_)
 rw[vg.ids,ke]
 rcases aR.entry with⟨h1,_⟩|h1
 rw[h1] at agN;simp at agN
 exact⟨h1,tK⟩
 refine Hr pF ?_
 obtain⟨x,M,rfl⟩:=bk.1 ad
 have gj:eL g1 x.1=some x.2:=z1 Ij M
 have agH:∀hY:N->ay bu,(∀c,hY c≠none->cZ c≠none∨lk c=none)->∀c z,lk c=some z->cZ c=none->hY c=none:=λhY h2 c z h3 a7=>by
  cases e:hY c with
  |none=>rfl|some t=>rcases h2 c (by rw[e];simp) with bE|bE;exact a6 a7 bE;rw[h3] at bE;cases bE
 have aun:∀c z,lk c=some z->c≠r:=λc z I e=>by rw[e,O] at I;cases I
 show ∃aEP:o->H->Prop,∃aEQ:o->H->N,_
 refine⟨λlv w=>0<=lv/\lv<=31/\∃hY g2,In ai w hY b {T with g:=g2}/\(∀c z,lk c=some z->cZ c=none->w c=some z)/\(∀c,hY c≠none->cZ c≠none∨lk c=none)/\hY r=none/\mK id g1 g2 (dl.map (·.1)) x.1 lv.toNat/\
   mM w r T.m (jh g1) (dl++ [(x.1,.pointer (some ⟨x.2.p,0,none⟩))]),λlv _=>(31-lv).toNat,
  ⟨by omega,by omega,aY,bX,b4.aside agI lY hE,λc y I ac=>by rw[bm _ _ (aun c y I)];exact oS c y I ac,XO,agI,wR.eQ x.1,pF⟩,?_⟩
 rintro lv w ⟨NA,ai8,hY,g2,kt,H8,RA,XK,Rl,ET⟩
 obtain⟨eN,fp,fg,_,_⟩:=Rl.bU.at' _ _ gj
 refine⟨λbC=>?_,λgr=>?_⟩
 have py:=kt.aF.node fp
 obtain⟨s,l,eb,dE,I,ab,xe⟩:=xm py (lv:=lv.toNat) (by omega)
 rw[fg] at I
 have ot:=H8 n0 _ yv Rt
 have asv:=agH hY RA n0 _ yv Rt
 refine⟨_,rfl,by decide,⟨by omega,by omega⟩,_,rfl,s,I,?_⟩
 refine azN ab (apr (n0:=n0) (id:=id) (T:=3)) (λc y I=>?_) (λc I=>?_) λap dK bQ hblk he=>?_
 unfold H.ins at I
 split at I
 rename_i e;rw[e];cases I;exact ot
 cases I
 exact bm _ _ (λe=>by have:=xe c I;rw[e,asv] at this;cases this)
 refine⟨by decide,⟨by omega,by omega⟩,?_⟩
 unfold aW
 rw[I4,<-fg]
 have tZ:s.aj≠some eN.p:=λe=>by have:=xe _ e;rw[py.tag] at this;cases this
 refine ab7 (he _ _ py.cell tZ) py.uh (by omega) (Ea id l) ?_
 obtain⟨oN,W1,aG⟩:=py.level kt.known eb bQ he λc e=>.inl (by rw[<-hblk];exact e)
 have vj:=kt.shift (n':=eN.jz lv.toNat ap (Ea id l)) fp rfl W1 aG
 have nJ:∀c,hY c=none->¬ny hY x.1 c:=λc I hm=>hm.some I
 obtain⟨_,_,_,ajf⟩:=kt.I0
 refine⟨⟨by omega,by omega⟩,⟨by omega,by omega,oN,_,vj,λc y I ac=>aG.bM c y (H8 c y I ac) (nJ c (agH hY RA c y I ac)),λc I=>?_,?_,?_,?_⟩,by dsimp only;omega⟩
 rcases aG.grow c I with h1|h1
 exact RA c h1
 cases aP:cZ c with
 |some t=>exact .inl (by simp)
 |none=>
  cases aC:lk c with
  |none=>exact .inr rfl|some y=>rw[H8 c y aC aP] at h1;cases h1
 cases e:oN r with
 |none=>rfl
 |some t=>rcases aG.grow r (by rw[e];simp) with h1|h1;exact a6 XK h1;obtain⟨_,_,_,_,_,h2,_⟩:=ET;rw[h2] at h1;cases h1
 have:=Rl.step Ao fp dE ap
 rw[show(lv+1).toNat=lv.toNat+1 by omega]
 exact this
 have agY:=ET
 rw[<-fg] at agY
 exact agY.else (λy ah=>aG.bM _ _ ah λhm=>(ajf _ _ hm).2.1 rfl) λy ah=>aG.bM _ _ ah (nJ r XK)
 have lI:lv.toNat=31:=by omega
 rw[lI] at Rl
 have asc:=Rl.next (λn' hJ=>(kt.aF.node hJ).FF) id
 have ag9:=ZF ET
 simp only[eC,rA] at ag9
 have tL:Kn ai lk cZ b T g1 id r (k-1) w:=⟨_,hY,g2,kt,H8,RA,XK,by simpa using asc,ET,by simp only[eC,rA];omega⟩
 refine⟨⟨_,tL⟩,?_⟩
 have:=least_le (P:=λk=>Kn ai lk cZ b T g1 id r k w) tL
 omega
open Go.Shelf
def lD(u:H):Prop:=∀w,Sub u w->Go.Proofs.TabAt 0 Lib.deBruijn64tab w
def lD.mono(h:lD u)(hu:u.le u'):lD u':=λw hw=>h w (hw.mono hu)
def apn(x:N)(M:x<18446744073709551616):Lib.ctz 64 x<=64:=by unfold Lib.ctz;split;exact cg _;rename_i h;obtain⟨_,_,h2⟩:=Lib.ctzFrom_spec 64 x (Nat.pos_of_ne_zero h) (by simpa using M);omega
def aot(op:BinOp)(x y:o):dn (bits op .u64 x y):=by have:=wf_bits op .u64 x y;simp[Lit.wf,Gn,Gp,F4,F5] at this;unfold dn;omega
def wrap_u64(x:o):dn (bR.wrap x):=by have:=wf_wrap .u64 x;simp[Lit.wf,Gn,Gp,F4,F5] at this;unfold dn;omega
def ay7{x:o}{K:o->H->Prop}(M:dn x)(aR:lD u)(aq:∀n:o,0<=n->n<=64->K n u):ac0 x u K:=by
 intro w hw;obtain⟨n,rfl⟩:=Int.eq_ofNat_of_zero_le M.1;have ae:n<18446744073709551616:=by have:=M.2;omega
 have I:=Any7.bits_TrailingZeros64 Tryz.aBa n ae w λ_=>aR w hw;change Calls aH 169 _ _ _ at I;refine I.mono ?_;rintro e w' ⟨rfl,rfl⟩;have:=apn n ae;exact⟨_,u,rfl,⟨[.int .i64 (Lib.ctz 64 n:N)],.cons (t:=.int .i64) _ .nil,rfl,aq _ (by omega) (by omega)⟩,Step.refl hw⟩
def azH{src:N}{st:o}{K:o->H->Prop}(h:u src=some (.cells #[.int .u64 st] 215 (0,0)))
  (aq:∀n2 Y,dn n2->dn Y->K Y (u.ins src (.cells #[.int .u64 n2] 215 (0,0)))):G2 (some ⟨src,0,none⟩) u K:=by
 apply amH
 refine⟨λh=>(by cases h),λ_=>⟨_,rfl,st,a1 h 0,_,rfl,GK h (by simp[cF]) ⟨_,rfl,_,a1 (bf _ _ _) 0,by omega,by omega,by omega,?_⟩⟩⟩
 exact aq _ _ (wrap_u64 _) (aot _ _ _)
def azG{src:N}{st:o}{ub:H}{K:o->o->H->Prop}(h:u src=some (.cells #[.int .u64 st] 215 (0,0)))(aR:lD ub)(b9:ub.le u)(ag:ub src=none)
  (aq:∀n2 lv,dn n2->0<=lv->lv<=30->K lv 0 (u.ins src (.cells #[.int .u64 n2] 215 (0,0)))):US (some ⟨src,0,none⟩) 30 u K:=by
 apply aC0
 apply acB
 refine⟨λh=>(by cases h),λ_=>⟨λh=>by omega,λ_=>⟨λh=>by omega,λ_=>⟨λh=>a6 rfl h,λ_=>?_⟩⟩⟩⟩
 refine azH h λn2 Y h1 h2=>?_
 have hle:ub.le (u.ins src (.cells #[.int .u64 n2] 215 (0,0))):=λc z I=>by rw[bm _ _ (λe=>by rw[e,ag] at I;cases I)];exact b9 c z I
 refine ay7 h2 (aR.mono hle) λn n0 b3=>⟨by omega,?_,?_⟩
 have:gw n 2=n/2:=Jt n0
 rw[this];exact⟨by omega,by omega⟩
 have:gw n 2=n/2:=Jt n0
 rw[this]
 refine aq _ _ h1 ?_ ?_<;>split<;>omega
end
def WC{g:J (o×dj)}{id:o}{nd:dj}(b7:id∉g.map (·.1))(i:o):eL (g++ [(id,nd)]) i=if i=id then some nd else eL g i:=by
 unfold eL;rw[List.find?_append];by_cases hi:i=id;subst hi;have:g.find? (λx=>x.1==i)=none:=by have:=z6.2 b7;unfold eL at this;simpa using this
 rw[this,aV rfl];simp;rw[az hi];have:[(id,nd)].find? (λx=>x.1==i)=none:=by simp[dv hi]
 rw[this,Option.or_none]
def axu(g:J (o×dj))(id:o)(nd:dj):jh (g++ [(id,nd)])=jh g++ [(id,.pointer (some ⟨nd.p,0,none⟩))]:=by simp[jh]
structure BJ(cj:o)(ids l:J o):Prop where
 sub:∀x∈l,x∈ids
 nodup:l.Nodup
 len:(l.length:o)<=cj
def BJ.nil{cj:o}(h:1<=cj)(ids:J o):BJ cj ids []:=⟨λx M=>(by cases M),JG,by simp only[nT];omega⟩
def p9.add{dim cj:o}{g:J (o×dj)}(h:p9 dim cj g)(ar:1<=cj/\cj<=16){id:o}{nd:dj}(b7:id∉g.map (·.1))(hi:1<=id/\id<=1000000000)(aA:(nd.v.length:o)=dim/\db nd.v)(ht:nd.top<=30)(fq:g.length<=512)
  (hk:∀(j:N) l,nd.kn[j]?=some l->BJ cj (g.map (·.1)) l):p9 dim cj (g++ [(id,nd)]):=by
 have ke:(g++ [(id,nd)]).map (·.1)=g.map (·.1)++ [id]:=by simp
 refine⟨⟨h.ok.hs,λx M=>?_,λx M=>?_,λx M l wZ i ql=>?_,λx M=>?_,by simp;omega⟩,λi n lv l ae wZ=>?_⟩
 rcases cK.1 M with M|M
 exact h.ok.vec x M
 simp at M;subst M;exact aA
 rcases cK.1 M with M|M
 exact h.ok.top x M
 simp at M;subst M;exact ht
 rw[ke]
 rcases cK.1 M with M|M
 exact iY _ (h.ok.known x M l wZ i ql)
 simp at M;subst M
 obtain⟨k,de⟩:=Tn.1 wZ
 exact iY _ ((hk k l de).sub i ql)
 rcases cK.1 M with M|M
 exact h.ok.ids x M
 simp at M;subst M;exact hi
 rw[WC b7] at ae
 by_cases e:i=id
 rw[aV e] at ae;cases ae
 subst e
 have:=hk lv l wZ
 refine⟨?_,this.nodup,λhm=>b7 (this.sub i hm)⟩
 have:=this.len
 unfold vE;split<;>omega
 rw[az e] at ae
 exact h.many i n lv l ae wZ
def um(p:N)(sv:U)(v:J o)(top:N):dj:=⟨p,sv,v,eU 31 ⟨none,0,0⟩,eU 31 [],top⟩
def In.awQ{ai u:H}{af:N->ay bu}{b:N}{T:aT}(h:In ai u af b T){id:o}(b7:id∉T.g.map (·.1)){p:N}(ad:u p=none){sv:U}{v:J o}(aA:Ints u sv v)(Nf:∀g,sv.aj=some g->af g=some (.vec id))(top:N):
  ∃aY,In ai (u.ins p (.cells (jt (um p sv v top)).toArray 230 (0,0))) aY b T/\mN aY (u.ins p (.cells (jt (um p sv v top)).toArray 230 (0,0))) id (um p sv v top)/\
   gy u af (u.ins p (.cells (jt (um p sv v top)).toArray 230 (0,0))) aY:=by
 have hI:af p=none:=h.fresh ad
 let aY:N->ay bu:=λc=>if c=p then some (.node id) else af c
 have aP:aY p=some (.node id):=aV rfl
 have aC:∀c,c≠p->aY c=af c:=λc I=>az I
 have c0:∀c,af c≠none->aY c=af c:=λc I=>aC c λe=>I (by rw[e];exact hI)
 have hle:=bW (u:=u) (b:=p) (.cells (jt (um p sv v top)).toArray 230 (0,0)) ad
 refine⟨aY,⟨h.aF.bM c0 λc z I _=>hle c z I,h.le.trans hle,λc I=>?_,λc I=>?_⟩,?_,⟨λc z I _=>hle c z I,λc I=>?_⟩⟩
 by_cases e:c=p
 rw[e];exact h.le.none ad
 rw[aC c e] at I;exact h.out c I
 by_cases e:c=p
 rw[e,bf];simp
 rw[aC c e] at I;rw[bm _ _ e];exact h.known c I
 refine⟨bf _ _ _,aP,aA.mono hle,λg W=>?_,by simp[um],by simp[um],λlv s l h1 h2=>?_⟩
 have:=Nf g W
 rw[c0 g (by rw[this];simp)];exact this
 simp only[um,Jz] at h1 h2
 split at h1
 cases h1
 rw[aV (by assumption)] at h2
 cases h2
 exact⟨(Own.nil _ _ _).f,λg W=>by simp[U.aj] at W⟩
 cases h1
 by_cases e:c=p
 rw[e];exact .inr ad
 rw[aC c e] at I;exact .inl I
def ajh{p:N}{sv:U}{v:J o}{top j:N}{l:J o}(h:(um p sv v top).kn[j]?=some l):l=[]:=by simp only[um,Jz] at h;split at h;exact(cO h).symm;cases h
def _root_.Go.Proofs.YtejdhbfjjgcljaaGreatDoor.iE.Tt{B v:H}{ck n:N}{k:o}{z:Obj}{S:J bP}(h:iE (B.ins ck z) n k v S)(b5:Obj):iE (B.ins ck b5) n k (v.ins ck b5) S:=by
 obtain⟨l,⟨⟨s,h1,h2,h3⟩,a7,bE⟩,fO,kL⟩:=h;have E6:n≠ck:=λe=>by rw[e,bf] at a7;cases a7
 have ahS:s.aj≠some ck:=λe=>by have:=h2.fresh ck e;rw[bf] at this;cases this
 refine⟨l,⟨⟨s,by rw[bm _ _ E6];exact h1,⟨h2.own.le λc y I ah=>?_,λc y I=>?_,λg W=>?_⟩,h3⟩,by rw[bm _ _ E6] at a7 ⊢;exact a7,bE⟩,fO,kL⟩;rw[bm _ _ (λe=>ahS (by rw[I,e]))];exact ah;unfold H.ins at I ⊢;split;rename_i e;rw[aV e] at I;exact I;rename_i e;rw[az e] at I;have:=h2.le c y (by rw[bm _ _ e];exact I);exact this;have:=h2.fresh g W;have Rx:g≠ck:=λe=>ahS (by rw[W,e]);rw[bm _ _ Rx] at this ⊢;exact this
def aog:hl aH 141=ak:=by kernel_rfl
def Kx(B:H)(n31 n33 n:N)(cj:o)(g:J (o×dj))(q:J o)(bN:J o)(i:N)(v:H):Prop:=
 iE ((B.ins n31 (.cells #[.pointer (some ⟨n,0,none⟩)] 90 (0,0))).ins n33 (.cells #[.int .i64 i] 3 (0,0))) n cj v ((bN.take i).map (cN g q))
def avX{B:H}{af:N->ay bu}{b n0 n31 n33 n:N}{T:aT}{q bN:J o}(h:ef af B b T)(ar:1<=T.cj/\T.cj<=16)(HD:B n0=some (.cells #[.pointer (some ⟨b,0,none⟩)] 122 (0,0)))(WI:B n31=none)(Eu:B n33=none)(al:n31≠n33)
  (hB:bN.length<=1000000) {i:N} {x:o} {v:H} {K:aI->H->Prop} (M:bN[i]?=some x) (aM:Kx B n31 n33 n T.cj T.g q bN i v)
  (aq:∀dD cm,Kx B n31 n33 n T.cj T.g q bN (i+1) cm->K dD cm):
  tm aH (.func (.func 141) #[] #[.pointer (some ⟨n31,0,none⟩),.pointer (some ⟨n33,0,none⟩),.pointer (some ⟨n0,0,none⟩)]) #[L2 (cN T.g q x)] [.one .bool] v K:=by
 have ea:i<bN.length:=(ir.1 M).1
 refine .inl ⟨_,_,_,rfl,hh aog,?_⟩
 refine aCi (cN T.g q x).1 (dk (cN T.g q x).2) (dq (cN T.g q x).2) ⟨n31,0,none⟩ ⟨n33,0,none⟩ ⟨n0,0,none⟩ v K ?_
 have yq:∀(Y:o) {w:H} {S:J bP},iE ((B.ins n31 (.cells #[.pointer (some ⟨n,0,none⟩)] 90 (0,0))).ins n33 (.cells #[.int .i64 Y] 3 (0,0))) n T.cj w S->
   B.le w/\w n31=some (.cells #[.pointer (some ⟨n,0,none⟩)] 90 (0,0))/\w n33=some (.cells #[.int .i64 Y] 3 (0,0)):=λY w S ht=>by
  have hle:=ht.le
  refine⟨λc y I=>hle c y ?_,hle _ _ ?_,hle _ _ (bf _ _ _)⟩
  rw[bm _ _ (λe=>by rw[e,Eu] at I;cases I),bm _ _ (λe=>by rw[e,WI] at I;cases I)];exact I
  rw[bm _ _ al,bf]
 obtain⟨_,aoR,_⟩:=yq _ aM
 refine⟨_,a1 aoR 0,OS aM ar.1 (by omega) λdD w hw=>?_⟩
 obtain⟨_,_,ael⟩:=yq _ hw
 refine⟨_,a1 ael 0,⟨by omega,by omega⟩,GK ael (by simp[cF]) ?_⟩
 have O:=hw.Tt (.cells #[.int .i64 ((i:o)+1)] 3 (0,0))
 obtain⟨afB,_,aoS⟩:=yq _ O
 have aR:=h.mono afB
 obtain⟨_,t1,_⟩:=kB aR
 refine⟨_,a1 aoS 0,_,a1 (afB _ _ HD) 0,_,rfl,_,t1,⟨by omega,by omega⟩,aq _ _ ?_⟩
 unfold Kx
 have e:(bN.take (i+1)).map (cN T.g q)=(bN.take i).map (cN T.g q)++ [cN T.g q x]:=by rw[gT,M];simp
 rw[e]
 have aC:((i+1:N):o)=(i:o)+1:=by omega
 rw[aC]
 exact O.perm (l5 _ _).symm
def azk{af:N->ay bu}{ub u:H}{b:N}{T:aT}{q:J o}{t:U}{at' lv:o}{Ox:ao}{K:H->Prop}(b9:ub.le u)(h:ef af ub b T)(W:p8 T.dim T.g)(b7:at'∈T.g.map (·.1))(ht:sl ub T.dim t q)
  (jH:0<=lv) (eZ:lv<31) (cU:N->H->Prop) (kM:∀i v,cU i v->ub.le v)
  (YR:∀i x v (K:aI->H->Prop),(ll T.g q lv.toNat at')[i]?=some x->cU i v->(∀dD cm,cU (i+1) cm->K dD cm)->tm aH Ox #[L2 (cN T.g q x)] [.one .bool] v K)
  (h0:cU 0 u) (aq:∀i v,i<=(ll T.g q lv.toNat at').length->cU i v->K v):Kf (some ⟨b,0,none⟩) at' t lv Ox u K:=
 ala b9 h W b7 ht jH eZ cU (λv=>∃i,i<=(ll T.g q lv.toNat at').length/\cU i v) kM
  (λi x v fA M aM h1 h2=>YR i x v fA M aM λdD cm kO=>by cases dD;exact h2 cm ⟨i+1,(ir.1 M).1,kO⟩;exact h1 cm kO)
  h0 (λv aA=>aq _ v (cg _) aA) λv ⟨i,hi,aA⟩=>aq i v hi aA
end eA
