/- Texts of mine, joined and packed by pack.py. -/
import Derived.Test.YtejdhbfjjgcljaaGreatDoorMrb11
import Derived.Shelf.Spec.TrailingZeros
import Derived.OpenShut
set_option linter.all false
open Go renaming Program->dT,Value->ao,World->cg,TypeId->dF,Addr->bc,Code->jg
open _root_ renaming Nat->N,List->M,Option->aA,Array->cv,Int->o,Bool->aD,absurd->aV,Inhabited->lM
open Bool renaming true->ak,false->ax
open Go.IntKind renaming signed->GG,bits->GH,u64->bo,min->G1,max->G2
open Go.Instr renaming lookup->gz,buildSlice->dI,range->rY
open Go.Builtin renaming append_->ee,clear_->qd,zeroCells->wv
open Go.Addr renaming add->eu,mk->cw
open Go.Proofs.Tryz renaming prog->aH
open Go.Value renaming int->cJ,pointer->hn,oneCell'->cK
open Go.Obj renaming deferred->u9
open Int renaming tdiv->ff
open List.Perm renaming cons->j3
open Go.Exit renaming normal->sF
open List renaming replicate->gu,length->iC
open Function renaming comp->Ud
set_option maxRecDepth 100000
noncomputable section
namespace Go.Proofs.YtejdhbfjjgcljaaGreatDoor
open H
open _root_.Go.Proofs.Tryz
namespace eE
section
variable{ids:M o}{b:bP}{i:o}{s:M o×M bP}
def avd{a:bP}(h:bw a b=ak):a≠b:=λe=>by rw[e,IN] at h;cases h
section
variable (ht:o->bP) (ck:o->M o)
def u0(b:bP)(id:o):bP:=if bw (ht id) b=ak then ht id else b
def pass(b:bP):bP:=(ck b.1).foldl (u0 ht) b
def xP:N->bP->bP
 |0,b=>b|n+1,b=>pass ht ck (xP n b)
def XC(l:M o)(b:bP):l.foldl (u0 ht) b=b∨(bw (l.foldl (u0 ht) b) b=ak/\∃i∈l,l.foldl (u0 ht) b=ht i):=by
 induction l generalizing b with
 |nil=>exact .inl rfl|cons x l aM=>
  simp only[J7];by_cases J:bw (ht x) b=ak;have e:u0 ht b x=ht x:=by simp[u0,J]
  rw[e];rcases aM (ht x) with h|⟨h,i,hi,aF⟩;rw[h];exact .inr ⟨J,x,.head _,rfl⟩;exact .inr ⟨M6 h J,i,.tail _ hi,aF⟩;have e:u0 ht b x=b:=by simp[u0,J]
  rw[e];rcases aM b with h|⟨h,i,hi,aF⟩;exact .inl h;exact .inr ⟨h,i,.tail _ hi,aF⟩
def Kk(ids:M o)(b:bP):N:=ids.countP λi=>bw (ht i) b
def azC(ids:M o)(b:bP):Kk ht ids b<=ids.length:=List.countP_le_length
def azD(hi:i∈ids)(h:bw (ht i) b=ak):Kk ht ids (ht i)<Kk ht ids b:=by
 unfold Kk;have aiK:∀j,bw (ht j) (ht i)=ak->bw (ht j) b=ak:=λj aN=>M6 aN h;induction ids with
 |nil=>cases hi
 |cons x l aM=>
  rw[List.countP_cons,List.countP_cons];have hle:l.countP (λj=>bw (ht j) (ht i))<=l.countP (λj=>bw (ht j) b):=List.countP_mono_left λj _ aN=>aiK j aN;by_cases J:x=i;subst J;rw[h,IN];simp;omega;have qI:i∈l:=by
    cases hi with
    |head=>exact aV rfl J|tail _ h=>exact h
  have:=aM qI;by_cases h1:bw (ht x) (ht i)=ak;rw[h1,aiK x h1];simpa using this;have rv:bw (ht x) (ht i)=ax:=by simpa using h1
  rw[rv];by_cases h2:bw (ht x) b=ak;rw[h2];simp;omega;have vI:bw (ht x) b=ax:=by simpa using h2
  rw[vI];simpa using this
def axh{n:N}(h:pass ht ck (xP ht ck n b)=xP ht ck n b):∀k,xP ht ck (n+k) b=xP ht ck n b:=by
 intro k;induction k with
 |zero=>rfl|succ k aM=>show pass ht ck (xP ht ck (n+k) b)=_;rw[aM,h]
def LC(di:N)(at':o):o:=(xP ht ck di (ht at')).1
def ay0(cm:∀i,(ht i).1=i)(aa:b.1∈ids/\b=ht b.1)(ae:∀i∈ck b.1,i∈ids):(pass ht ck b).1∈ids/\pass ht ck b=ht (pass ht ck b).1:=by rcases XC ht (ck b.1) b with h|⟨_,i,hi,h⟩;unfold pass;rw[h];exact aa;unfold pass;rw[h,cm];exact⟨ae i hi,rfl⟩
def Ta(cm:∀i,(ht i).1=i)(aa:b.1∈ids/\b=ht b.1)(ae:∀k∈ids,∀i∈ck k,i∈ids):∀n,(xP ht ck n b).1∈ids/\xP ht ck n b=ht (xP ht ck n b).1
 |0=>aa|n+1=>ay0 ht ck cm (Ta cm aa ae n) (ae _ (Ta cm aa ae n).1)
def af1{di:N}{at':o}(cm:∀i,(ht i).1=i)(aa:at'∈ids)(ae:∀k∈ids,∀i∈ck k,i∈ids):LC ht ck di at'∈ids:=
 (Ta ht ck cm (by rw[cm];exact⟨aa,rfl⟩) ae di).1
def iW(s:M o×M bP)(id:o):M o×M bP:=if id∈s.1 then s else(s.1++ [id],p7 (ht id) s.2)
def vG:N->M o->M bP->M o
 |0,_,_=>[]|_+1,_,[]=>[]|n+1,met,x::l=>x.1::vG n ((ck x.1).foldl (iW ht) (met,l)).1 ((ck x.1).foldl (iW ht) (met,l)).2
structure Met(ids:M o)(s:M o×M bP):Prop where
 nodup:s.1.Nodup
 sub:∀i∈s.1,i∈ids
 wait:∀h∈s.2,h.1∈s.1/\h=ht h.1
 Gx:(s.2.map (·.1)).Nodup
 B8:qB s.2
def Met.one{at':o}(cm:∀i,(ht i).1=i)(h:at'∈ids):Met ht ids ([at'],[ht at']) where
 nodup:=by simp
 sub i hi:=by simp at hi;rw[hi];exact h
 wait bW b5:=by simp at b5;subst b5;rw[cm];exact⟨.head _,rfl⟩
 Gx:=by simp
 B8:=by simp[qB]
def Met.step(cm:∀i,(ht i).1=i)(h:Met ht ids s)(hi:i∈ids):Met ht ids (iW ht s i):=by unfold iW;split;exact h;rename_i ae;refine⟨?_,?_,?_,?_,aj6 h.B8⟩;refine fZ.2 ⟨h.nodup,by simp,λa ay b aa=>?_⟩;simp at aa;subst aa;exact λe=>ae (e▸ay);intro j aN;rcases cM.1 aN with aN|aN;exact h.sub j aN;simp at aN;rw[aN];exact hi;intro x J;rcases cP.1 ((Gb (ht i) s.2).mem_iff.1 J) with rfl|J;rw[cm];exact⟨by simp,rfl⟩;exact⟨iA _ (h.wait x J).1,(h.wait x J).2⟩;have ad:=(Gb (ht i) s.2).map (·.1);refine ad.nodup_iff.2 ?_;rw[gR,cm];refine h6.2 ⟨λhm=>?_,h.Gx⟩;obtain⟨x,J,e⟩:=bk.1 hm;exact ae (e▸(h.wait x J).1)
def Met.fold(cm:∀i,(ht i).1=i):∀{l:M o} {s:M o×M bP},Met ht ids s->(∀i∈l,i∈ids)->Met ht ids (l.foldl (iW ht) s):=by
 intro l;induction l with
 |nil=>intro s h _;exact h
 |cons x l aM=>intro s h ap;exact aM (h.step ht cm (ap x (.head _))) λi hi=>ap i (.tail _ hi)
def Met.tail{met:M o}{x:bP}{l:M bP}(h:Met ht ids (met,x::l)):Met ht ids (met,l) where
 nodup:=h.nodup
 sub:=h.sub
 wait y ai:=h.wait y (.tail _ ai)
 Gx:=(h6.1 (by simpa using h.Gx)).2
 B8:=(k9.1 h.B8).2
def py{l:M o}(ae:l.Nodup)(ag:∀i∈l,i∈ids):l.length<=ids.length:=by
 induction l generalizing ids with
 |nil=>simp|cons x l aM=>
  have J:=ag x (.head _);have h2:∀i∈l,i∈ids.erase x:=λi hi=>by refine(List.mem_erase_of_ne ?_).2 (ag i (.tail _ hi));exact λe=>(h6.1 ae).1 (e▸hi)
  have:=aM (h6.1 ae).2 h2;rw[List.length_erase_of_mem J] at this;have:0<ids.length:=Ub J;simp only[hX];omega
def Met.len(h:Met ht ids s):s.1.length<=ids.length:=py h.nodup h.sub
def due(di:N)(s:M o×M bP):N:=s.2.length+(di-s.1.length)
def aq6(cm:∀i,(ht i).1=i)(h:Met ht ids s)(hi:i∈ids):due ids.length (iW ht s i)=due ids.length s:=by
 have h2:=(h.step ht cm hi).len;unfold due;unfold iW at h2 ⊢;split;rfl;rename_i ae;rw[aG ae] at h2;have e:(p7 (ht i) s.2).length=s.2.length+1:=by rw[(Gb (ht i) s.2).length_eq];simp
 simp only[e,eD,r4] at h2 ⊢;omega
def aq5(cm:∀i,(ht i).1=i):∀{l:M o} {s:M o×M bP},Met ht ids s->(∀i∈l,i∈ids)->due ids.length (l.foldl (iW ht) s)=due ids.length s:=by
 intro l;induction l with
 |nil=>intro s _ _;rfl
 |cons x l aM=>intro s h ap;rw[J7,aM (h.step ht cm (ap x (.head _))) λi hi=>ap i (.tail _ hi),aq6 ht cm h (ap x (.head _))]
def ar4(l:M o)(s:M o×M bP):(∀i∈s.1,i∈(l.foldl (iW ht) s).1)/\(∀i∈l,i∈(l.foldl (iW ht) s).1):=by
 induction l generalizing s with
 |nil=>exact⟨λi hi=>hi,λi hi=>by cases hi⟩
 |cons x l aM=>
  simp only[J7];have h1:∀i∈s.1,i∈(iW ht s x).1:=λi hi=>by unfold iW;split;exact hi;exact iA _ hi
  have h2:x∈(iW ht s x).1:=by unfold iW;split;assumption;simp
  refine⟨λi hi=>(aM _).1 i (h1 i hi),λi hi=>?_⟩;cases hi with
  |head=>exact(aM _).1 x h2|tail _ hi=>exact(aM _).2 i hi
def ar5(cm:∀i,(ht i).1=i)(l:M o)(s:M o×M bP):∀h∈(l.foldl (iW ht) s).2,h∈s.2∨h.1∉s.1:=by
 induction l generalizing s with
 |nil=>exact λh b5=>.inl b5|cons x l aM=>intro h b5;rcases aM (iW ht s x) h b5 with h1|h1;unfold iW at h1;split at h1;exact .inl h1;rename_i ae;rcases cP.1 ((Gb (ht x) s.2).mem_iff.1 h1) with rfl|h1;rw[cm];exact .inr ae;exact .inl h1;refine .inr λhm=>h1 ?_;unfold iW;split;exact hm;exact iA _ hm
def agj(cm:∀i,(ht i).1=i)(ae:∀k∈ids,∀i∈ck k,i∈ids):∀(n:N) (met:M o) (l:M bP),Met ht ids (met,l)->∀i∈vG ht ck n met l,i∈ids:=by
 intro n;induction n with
 |zero=>intro met l _ i hi;cases hi
 |succ n aM=>
  intro met l h i hi;cases l with
  |nil=>cases hi
  |cons x l=>
   have J:=h.sub _ (h.wait x (.head _)).1;simp only[vG] at hi;cases hi with
   |head=>exact J|tail _ hi=>exact aM _ _ (Met.fold ht cm (h.tail ht) (ae _ J)) i hi
def agk(cm:∀i,(ht i).1=i)(ae:∀k∈ids,∀i∈ck k,i∈ids):∀(n:N) (met:M o) (l:M bP),Met ht ids (met,l)->
  (vG ht ck n met l).Nodup/\∀i∈vG ht ck n met l,i∈l.map (·.1)∨i∉met:=by
 intro n
 induction n with
 |zero=>intro met l _;exact⟨Kh,λi hi=>by cases hi⟩
 |succ n aM=>
  intro met l h;cases l with
  |nil=>exact⟨Kh,λi hi=>by cases hi⟩
  |cons x l=>
   have J:=h.sub _ (h.wait x (.head _)).1;have ac:=Met.fold ht cm (h.tail ht) (ae _ J);obtain⟨h1,h2⟩:=aM _ _ ac;have hk:∀i∈vG ht ck n ((ck x.1).foldl (iW ht) (met,l)).1 ((ck x.1).foldl (iW ht) (met,l)).2,i∈l.map (·.1)∨i∉met:=by intro i hi;rcases h2 i hi with h3|h3;obtain⟨y,ai,rfl⟩:=bk.1 h3;rcases ar5 ht cm (ck x.1) (met,l) y ai with a7|a7;exact .inl (bk.2 ⟨y,a7,rfl⟩);exact .inr a7;exact .inr λhm=>h3 ((ar4 ht (ck x.1) (met,l)).1 i hm)
   simp only[vG];refine⟨h6.2 ⟨λhm=>?_,h1⟩,λi hi=>?_⟩;have avO:=h6.1 (show(x.1::l.map (·.1)).Nodup by simpa using h.Gx);rcases hk _ hm with h3|h3;exact avO.1 h3;exact h3 (h.wait x (.head _)).1;cases hi with
   |head=>exact .inl (by simp)|tail _ hi=>rcases hk i hi with h3|h3;exact .inl (by simp at h3 ⊢;exact .inr h3);exact .inr h3
end
def EK(ht:o->bP)(Ox:N->o->M o)(di lv:N):N->o->o
 |0,at'=>at'|c+1,at'=>EK ht Ox di lv c (LC ht (Ox (lv+c+1)) di at')
def afW{ht:o->bP}{Ox:N->o->M o}{di lv:N}(cm:∀i,(ht i).1=i)(ae:∀lv,∀k∈ids,∀i∈Ox lv k,i∈ids):∀(c:N) (at':o),at'∈ids->EK ht Ox di lv c at'∈ids
 |0,_,h=>h|c+1,at',h=>afW cm ae c _ (af1 ht _ cm h (ae _))
end
section
variable{u aj u' ub:H}{b lv c n:N}{s t:U}{q l:M o}{K:o->H->Prop}
def uZ{e k:N}{xs:M ao}(h:aK aj u e k s xs){g:N}(W:s.al=some g):u g≠none:=by
 rcases h.own.is with h0|⟨b2,cur,ay,ca,_⟩;rw[h0] at W;simp[U.al] at W;have:b2=g:=by simpa[U.al,ay] using W
 rw[<-this,ca];simp
inductive bx where
 |tree
 |src
 |map
 |node (id:o)
 |vec (id:o)
 |arr (id:o) (lv:N)
structure du where
 p:N
 sv:U
 v:M o
 ks:M U
 kn:M (M o)
 top:N
def jP(n:du):M ao:=(.slice n.sv.a n.sv.n n.sv.c::n.ks.map λs=>.slice s.a s.n s.c)++ [.int .i64 n.top]
def jA(g:M (o×du)):M (o×ao):=g.map λx=>(x.1,.pointer (some ⟨x.2.p,0,none⟩))
def eS(g:M (o×du))(id:o):aA du:=(g.find? λx=>x.1==id).map (·.2)
def CX(g:M (o×du))(id:o):fD (jA g) id=(eS g id).map λn=>hn (some ⟨n.p,0,none⟩):=by
 induction g with
 |nil=>rfl|cons x g aM=>
  unfold fD eS jA at*;simp only[gR,G0];cases J:x.1==id with
  |true=>rfl|false=>exact aM
def iG{g:M (o×du)}{id:o}{n:du}(h:eS g id=some n):(id,n)∈g:=by
 unfold eS at h;cases ac:g.find? (λx=>x.1==id) with
 |none=>rw[ac] at h;cases h
 |some x=>
  rw[ac] at h;cases h;have h1:=JW ac;have h2:=JX ac;have:x.1=id:=by simpa using h2
  rw[<-this];exact h1
def AJ{g:M (o×du)}{id:o}:eS g id=none↔id∉g.map (·.1):=by unfold eS;rw[acs,Kb];simp only[bk,not_exists,not_and,TV]
def yU{g:M (o×du)}{id:o}(h:id∈g.map (·.1)):∃n,eS g id=some n:=by
 cases J:eS g id with
 |some n=>exact⟨n,rfl⟩|none=>exact aV h (AJ.1 J)
def AI{g:M (o×du)}(ae:(g.map (·.1)).Nodup){id:o}{n:du}(h:(id,n)∈g):eS g id=some n:=by
 obtain⟨m,hm⟩:=yU (g:=g) (id:=id) (bk.2 ⟨_,h,rfl⟩);have h2:=iG hm;obtain⟨i,hi,s7⟩:=sE.1 h;obtain⟨j,aN,rp⟩:=sE.1 h2;have an:∀{i j:N} (hi:i<g.length) (aN:j<g.length),i<j->(g[i]).1≠(g[j]).1:=λhi aN gV=>by have:=oF.1 ae _ _ (by simpa using hi) (by simpa using aN) gV;simpa using this
 rcases TI i j with gV|gV|gV;exact aV (by rw[s7,rp]) (an hi aN gV);subst gV;rw[s7] at rp;cases rp;exact hm;exact aV (by rw[s7,rp]) (an aN hi gV)
structure nt(af:N->aA bx)(u:H)(id:o)(n:du):Prop where
 cell:u n.p=some (.cells (jP n).toArray 230 (0,0))
 tag:af n.p=some (.node id)
 vec:Ints u n.sv n.v
 Ci:∀g,n.sv.al=some g->af g=some (.vec id)
 uS:n.ks.length=31
 Ge:n.kn.length=31
 arr:∀(lv:N) (s:U) (l:M o),n.ks[lv]?=some s->n.kn[lv]?=some l->aK Cw u 3 1 s (l.flatMap encI)/\∀g,s.al=some g->af g=some (.arr id lv)
def n4(af:N->aA bx)(id:o)(c:N):Prop:=af c=some (.node id)∨af c=some (.vec id)∨∃lv,af c=some (.arr id lv)
def n4.some{af:N->aA bx}{id:o}(h:n4 af id c):af c≠none:=by rcases h with e|e|⟨lv,e⟩<;>rw[e]<;>simp
def nt.bS{af aY:N->aA bx}{id:o}{n:du}(h:nt af u id n)(ac:∀c,n4 af id c->aY c=af c)(hu:∀c z,u c=some z->n4 af id c->u' c=some z):nt aY u' id n where
 cell:=hu _ _ h.cell (.inl h.tag)
 tag:=by rw[ac _ (.inl h.tag)];exact h.tag
 vec:=bz.else h.vec λg z W ab=>hu g z ab (.inr (.inl (h.Ci g W)))
 Ci g W:=by rw[ac _ (.inr (.inl (h.Ci g W)))];exact h.Ci g W
 uS:=h.uS
 Ge:=h.Ge
 arr lv s l h1 h2:=by obtain⟨h3,a7⟩:=h.arr lv s l h1 h2;exact⟨(h3.own.le λb z aa ci=>hu b z ci (.inr (.inr ⟨lv,a7 b aa⟩))).f,λg W=>by rw[ac _ (.inr (.inr ⟨lv,a7 g W⟩))];exact a7 g W⟩
structure aS where
 aq:o
 b9:o
 src:N
 m:N
 st:o
 g:M (o×du)
 entry:o
def fx(T:aS):M ao:=[.int .i64 T.aq,.int .i64 T.b9,.pointer (some ⟨T.src,0,none⟩),.map (some T.m),.int .i64 T.entry]
structure ec(af:N->aA bx)(u:H)(b:N)(T:aS):Prop where
 cell:u b=some (.cells (fx T).toArray 184 (0,0))
 src:u T.src=some (.cells #[.int .u64 T.st] 215 (0,0))
 Hi:cz T.st
 map:fz u T.m (jA T.g)
 dR:af b=some .tree
 ih:af T.src=some .src
 dr:af T.m=some .map
 nodes:∀x∈T.g,nt af u x.1 x.2
def ec.nodup{af:N->aA bx}{T:aS}(h:ec af u b T):(T.g.map (·.1)).Nodup:=by obtain⟨es,c,_,he⟩:=h.map;have:=he.nodup;unfold jA at this;rw[eh] at this;exact this
def ec.bS{af aY:N->aA bx}{T:aS}(h:ec af u b T)(ac:∀c,af c≠none->aY c=af c)(hu:∀c z,u c=some z->af c≠none->u' c=some z):ec aY u' b T where
 cell:=hu _ _ h.cell (by rw[h.dR];simp)
 src:=hu _ _ h.src (by rw[h.ih];simp)
 Hi:=h.Hi
 map:=h.map.else λz ab=>hu _ _ ab (by rw[h.dr];simp)
 dR:=by rw[ac _ (by rw[h.dR];simp)];exact h.dR
 ih:=by rw[ac _ (by rw[h.ih];simp)];exact h.ih
 dr:=by rw[ac _ (by rw[h.dr];simp)];exact h.dr
 nodes x J:=(h.nodes x J).bS (λc I=>ac c I.some) λc z ab ht=>hu c z ab ht.some
def ec.mono{af:N->aA bx}{T:aS}(h:ec af u b T)(hu:u.le u'):ec af u' b T:=h.bS (λ_ _=>rfl) λc z ab _=>hu c z ab
def ec.node{af:N->aA bx}{T:aS}(h:ec af u b T){id:o}{n:du}(ae:eS T.g id=some n):nt af u id n:=h.nodes _ (iG ae)
def kU{af:N->aA bx}{T:aS}(h:ec af u b T):u.cell? ⟨b,0,none⟩=some (.int .i64 T.aq)/\u.cell? ((cw b 0 none).add 1)=some (.int .i64 T.b9)/\
  u.cell? ((cw b 0 none).add 2)=some (.pointer (some ⟨T.src,0,none⟩))/\u.cell? ((cw b 0 none).add 3)=some (.map (some T.m))/\u.cell? ((cw b 0 none).add 4)=some (.int .i64 T.entry):=by
 have aa:=h.cell
 refine⟨?_,?_,?_,?_,?_⟩<;>simp[H.cell?,eu,aa,fx]
def abE{n:du}(h:n.ks.length=31):(jP n).length=33:=by simp[jP,h]
def ayH(n:du):(jP n)[0]?=some (.slice n.sv.a n.sv.n n.sv.c):=by simp[jP]
def ayF{n:du}(h:n.ks[lv]?=some s):(jP n)[1+lv]?=some (.slice s.a s.n s.c):=by obtain⟨ap,he⟩:=iB.1 h;unfold jP;rw[qY (by simp;omega),Nat.add_comm,x4,jq,h];rfl
def Tu{n:du}(h:n.ks.length=31):(jP n)[32]?=some (.int .i64 n.top):=by unfold jP;rw[JS (by simp[h])];simp[h]
def Gv{af:N->aA bx}{id:o}{n:du}(h:nt af u id n)(i:N):u.cell? ⟨n.p,i,none⟩=(jP n)[i]?:=by simp[H.cell?,h.cell]
def du.jT(n:du)(lv:N)(s:U)(l:M o):du:={n with ks:=n.ks.set lv s,kn:=n.kn.set lv l}
def ayG{n:du}(h:lv<n.ks.length)(s:U)(l:M o):jP (n.jT lv s l)=(jP n).set (1+lv) (.slice s.a s.n s.c):=by unfold jP du.jT;simp only;rw[List.set_append_left _ _ (by simp;omega),Nat.add_comm,GK,DO]
def adu{n:du}(I:u n.p=some (.cells (jP n).toArray 230 (0,0)))(hk:n.ks.length=31)(ap:lv<31)(l:M o){f:H->Prop}
  (ac:f (u.ins n.p (.cells (jP (n.jT lv s l)).toArray 230 (0,0)))):H.aO u ⟨n.p,1+lv,none⟩ [.slice s.a s.n s.c] f:=by
 refine⟨_,_,I,rfl,by simp[abE hk];omega,by simp[cK],?_⟩
 have e:wr (jP n).toArray (1+lv) [.slice s.a s.n s.c]=(jP (n.jT lv s l)).toArray:=by rw[ayG (by rw[hk];exact ap)];apply JQ;rw[KL _ _ _ (by simp[abE hk];omega)];simp only[r4];rw[List.set_eq_take_append_cons_drop,a1 (by rw[abE hk];omega)];simp
 simp only[e]
 exact ac
def q7(g:M (o×du))(id:o)(n:du):M (o×du):=g.map λx=>if x.1=id then(x.1,n) else x
def aAn(g:M (o×du))(id:o)(n:du):(q7 g id n).map (·.1)=g.map (·.1):=by unfold q7;rw[eh];refine zQ λx _=>?_;simp only[Ud];split<;>rfl
def aAo{g:M (o×du)}{id:o}{n n':du}(b3:(g.map (·.1)).Nodup)(h:eS g id=some n)(ad:n'.p=n.p):jA (q7 g id n')=jA g:=by unfold q7 jA;rw[eh];refine zQ λx J=>?_;simp only[Ud];split;rename_i e;have:eS g id=some x.2:=AI b3 (by rw[<-e];exact J);rw[h] at this;cases this;simp[ad];rfl
def L2{g:M (o×du)}{id:o}{n:du}(i:o):eS (q7 g id n) i=if i=id then(eS g i).map λ_=>n else eS g i:=by
 induction g with
 |nil=>simp[q7,eS]|cons x g aM=>unfold q7 eS at*;simp only[gR,G0];by_cases J:x.1=id;simp only[J,qX];by_cases hi:id=i;subst hi;simp;simp only[Pb hi];exact aM;simp only[aG J];by_cases hi:x.1=i;subst hi;simp[J];simp only[Pb hi];exact aM
def ax1{g:M (o×du)}{id:o}{n:du}{x:o×du}(h:x∈q7 g id n):(x.1≠id/\x∈g)∨(x=(id,n)/\id∈g.map (·.1)):=by obtain⟨y,ai,rfl⟩:=bk.1 h;split;rename_i e;exact .inr ⟨by rw[e],bk.2 ⟨y,ai,e⟩⟩;rename_i e;exact .inl ⟨e,ai⟩
def ec.set{af aY:N->aA bx}{T:aS}{id:o}{n n':du}(h:ec af u b T)(ae:eS T.g id=some n)(ad:n'.p=n.p)(h5:nt aY u' id n')(ac:∀c,af c≠none->¬n4 af id c->aY c=af c)
  (hu:∀c z,u c=some z->af c≠none->¬n4 af id c->u' c=some z):ec aY u' b {T with g:=q7 T.g id n'}:=by
 have no:∀{c:N} {t:bx},af c=some t->(∀i,t≠.node i)->(∀i,t≠.vec i)->(∀i lv,t≠.arr i lv)->af c≠none/\¬n4 af id c:=λe h1 h2 h3=>⟨by rw[e];simp,by rintro(aF|aF|⟨lv,aF⟩)<;>rw[e] at aF<;>cases aF;exact h1 _ rfl;exact h2 _ rfl;exact h3 _ _ rfl⟩
 have ck:=no h.dR (by simp) (by simp) (by simp)
 have kz:=no h.ih (by simp) (by simp) (by simp)
 have zy:=no h.dr (by simp) (by simp) (by simp)
 refine⟨hu _ _ h.cell ck.1 ck.2,hu _ _ h.src kz.1 kz.2,h.Hi,?_,by rw[ac _ ck.1 ck.2];exact h.dR,by simp only;rw[ac _ kz.1 kz.2];exact h.ih,by simp only;rw[ac _ zy.1 zy.2];exact h.dr,λx J=>?_⟩
 simp only
 rw[aAo h.nodup ae ad]
 exact h.map.else λz ab=>hu _ _ ab zy.1 zy.2
 rcases ax1 J with⟨an,J⟩|⟨rfl,_⟩
 have lY:∀c,n4 af x.1 c->¬n4 af id c:=by rintro c (e|e|⟨lv,e⟩) (aF|aF|⟨wi,aF⟩)<;>rw[e] at aF<;>cases aF<;>exact an rfl
 exact(h.nodes x J).bS (λc I=>ac c I.some (lY c I)) λc z ab I=>hu c z ab I.some (lY c I)
 exact h5
structure In(aj u:H)(af:N->aA bx)(b:N)(T:aS):Prop where
 aJ:ec af u b T
 le:aj.le u
 out:∀c,af c≠none->aj c=none
 known:∀c,af c≠none->u c≠none
structure gL(u:H)(af:N->aA bx)(u':H)(aY:N->aA bx):Prop where
 bS:∀c z,u c=some z->af c=none->u' c=some z
 grow:∀c,aY c≠none->af c≠none∨u c=none
def gL.refl(u:H)(af:N->aA bx):gL u af u af:=⟨λ_ _ h _=>h,λ_ h=>.inl h⟩
def gL.trans{aU cQ:H}{af c4 im:N->aA bx}(h:gL u af aU c4)(k:gL aU c4 cQ im):gL u af cQ im where
 bS c z I ac:=k.bS c z (h.bS c z I ac) (by
  cases e:c4 c with
  |none=>rfl|some t=>rcases h.grow c (by rw[e];simp) with h1|h1;exact aV ac h1;rw[I] at h1;cases h1)
 grow c I:=by
  rcases k.grow c I with h1|h1;exact h.grow c h1;cases e:af c with
  |some t=>exact .inl (by simp)|none=>
   right;cases aF:u c with
   |none=>rfl|some z=>rw[h.bS c z aF e] at h1;cases h1
def gL.mono{aU:H}{af:N->aA bx}(h:u.le aU):gL u af aU af:=⟨λc z I _=>h c z I,λ_ h=>.inl h⟩
def gL.apart{v:H}{af aY:N->aA bx}(h:gL u af u' aY)(aB:v.le u)(ar:∀c,af c≠none->v c=none):v.le u'/\∀c,aY c≠none->v c=none:=by
 refine⟨λc z I=>h.bS c z (aB c z I) ?_,λc I=>?_⟩;cases e:af c with
 |none=>rfl|some t=>have:=ar c (by rw[e];simp);rw[I] at this;cases this
 rcases h.grow c I with h1|h1;exact ar c h1;exact aB.none h1
def In.mono{af:N->aA bx}{T:aS}(h:In aj u af b T)(hu:u.le u'):In aj u' af b T:=
 ⟨h.aJ.mono hu,h.le.trans hu,h.out,λc I=>by obtain⟨z,ab⟩:=fj.1 (h.known c I);rw[hu c z ab];simp⟩
structure Li(af:N->aA bx)(u:H)(id:o)(aY:N->aA bx)(u':H):Prop where
 wL:∀c,af c≠none->¬n4 af id c->aY c=af c
 bS:∀c z,u c=some z->¬n4 af id c->u' c=some z
 grow:∀c,aY c≠none->af c≠none∨u c=none
 known:∀c,aY c≠none->u' c≠none
def Li.eX{af aY:N->aA bx}{id:o}(h:Li af u id aY u'):gL u af u' aY:=
 ⟨λc z I ac=>h.bS c z I λhm=>hm.some ac,h.grow⟩
def nt.level{hb:H}{af:N->aA bx}{id:o}{n:du}(eP:nt af u id n)(vY:∀c,af c≠none->u c≠none){au:U}{bE:M o}(ag:n.ks[lv]?=some s)(ab:aK Cw hb 3 1 au (bE.flatMap encI))
  (he:∀c z,u c=some z->s.al≠some c->hb c=some z) (aa:∀c,au.al=some c->s.al=some c∨u c=none):
  ∃aY,nt aY (hb.ins n.p (.cells (jP (n.jT lv au bE)).toArray 230 (0,0))) id (n.jT lv au bE)/\Li af u id aY (hb.ins n.p (.cells (jP (n.jT lv au bE)).toArray 230 (0,0))):=by
 have oq:lv<31:=by rw[<-eP.uS];exact(iB.1 ag).1
 obtain⟨l,ap⟩:∃l,n.kn[lv]?=some l:=⟨n.kn[lv]'(by rw[eP.Ge];exact oq),cy _⟩
 have dY:∀g,s.al=some g->af g=some (.arr id lv):=(eP.arr lv s l ag ap).2
 have uL:s.al≠some n.p:=λe=>by have:=dY _ e;rw[eP.tag] at this;cases this
 have ZU:au.al≠some n.p:=λe=>by rcases aa _ e with h1|h1;exact uL h1;exact vY n.p (by rw[eP.tag];simp) h1
 let aY:N->aA bx:=λc=>open Classical in if au.al=some c then some (.arr id lv) else if s.al=some c then none else af c
 have aQ:∀c,au.al=some c->aY c=some (.arr id lv):=λc I=>a1 I
 have aF:∀c,au.al≠some c->s.al≠some c->aY c=af c:=λc h1 h2=>(aG h1).trans (aG h2)
 have cW:∀c,au.al≠some c->s.al=some c->aY c=none:=λc h1 h2=>(aG h1).trans (a1 h2)
 have fJ:∀c,af c≠none->s.al≠some c->aY c=af c:=λc h1 h2=>aF c (λe=>(aa c e).elim h2 (vY c h1)) h2
 have YZ:∀c,c≠n.p->(hb.ins n.p (.cells (jP (n.jT lv au bE)).toArray 230 (0,0))) c=hb c:=λc I=>bq _ _ I
 have pn:∀c z,u c=some z->c≠n.p->s.al≠some c->(hb.ins n.p (.cells (jP (n.jT lv au bE)).toArray 230 (0,0))) c=some z:=λc z h1 h2 h3=>by rw[YZ c h2];exact he c z h1 h3
 refine⟨aY,?_,⟨λc h1 h2=>fJ c h1 λe=>h2 (.inr (.inr ⟨lv,dY c e⟩)),λc z h1 h3=>pn c z h1 (λe=>h3 (.inl (by rw[e];exact eP.tag))) λe=>h3 (.inr (.inr ⟨lv,dY c e⟩)),λc I=>?_,λc I=>?_⟩⟩
 refine⟨bi _ _ _,?_,?_,λg W=>?_,by simp[du.jT,eP.uS],by simp[du.jT,eP.Ge],λwi s2 eV h1 h2=>?_⟩
 show aY n.p=_;rw[aF _ ZU uL];exact eP.tag
 refine bz.else eP.vec λg z W rA=>pn g z rA (λe=>?_) λe=>?_
 have:=eP.Ci g W;rw[e,eP.tag] at this;cases this
 have:=eP.Ci g W;rw[dY g e] at this;cases this
 have aB:=eP.Ci g W
 rw[fJ g (by rw[aB];simp) (λe=>by rw[dY g e] at aB;cases aB)];exact aB
 by_cases e:wi=lv
 subst e
 simp only[du.jT] at h1 h2
 rw[zT (by rw[eP.uS];exact oq)] at h1
 rw[zT (by rw[eP.Ge];exact oq)] at h2
 cases h1;cases h2
 exact⟨(ab.own.le λc z I tg=>by rw[YZ c (λe=>ZU (e▸I))];exact tg).f,λg W=>aQ g W⟩
 simp only[du.jT] at h1 h2
 rw[va (dG e)] at h1 h2
 obtain⟨h3,a7⟩:=eP.arr wi s2 eV h1 h2
 have ne:∀g,s2.al=some g->s.al≠some g:=λg W gA=>by have:=a7 g W;rw[dY g gA] at this;cases this;exact e rfl
 refine⟨(h3.own.le λc z I tg=>pn c z tg (λmc=>?_) (ne c I)).f,λg W=>?_⟩
 have:=a7 c I;rw[mc,eP.tag] at this;cases this
 rw[fJ g (by rw[a7 g W];simp) (ne g W)];exact a7 g W
 by_cases h1:au.al=some c
 rcases aa c h1 with h2|h2
 exact .inl (by rw[dY c h2];simp)
 exact .inr h2
 by_cases h2:s.al=some c
 exact aV (cW c h1 h2) I
 rw[aF c h1 h2] at I;exact .inl I
 by_cases h1:au.al=some c
 have:=uZ ab h1
 rw[YZ c (λe=>ZU (e▸h1))];exact this
 by_cases h2:s.al=some c
 exact aV (cW c h1 h2) I
 rw[aF c h1 h2] at I
 obtain⟨z,tg⟩:=fj.1 (vY c I)
 by_cases h3:c=n.p
 rw[h3,bi];simp
 rw[pn c z tg h3 h2];simp
def In.base{af aY:N->aA bx}{T:aS}(h:In aj u af b T)(ht:gL u af u' aY):aj.le u'/\∀c,aY c≠none->aj c=none:=ht.apart h.le h.out
def In.shift{af aY:N->aA bx}{T:aS}(h:In aj u af b T){id:o}{n n':du}(ae:eS T.g id=some n)(ad:n'.p=n.p)(h5:nt aY u' id n')(aI:Li af u id aY u'):
  In aj u' aY b {T with g:=q7 T.g id n'}:=
 ⟨h.aJ.set ae ad h5 aI.wL λc z h1 _ h3=>aI.bS c z h1 h3,(h.base aI.eX).1,(h.base aI.eX).2,aI.known⟩
def In.aAx{af aY:N->aA bx}{T:aS}(h:In aj u af b T){id:o}(cm:id∉T.g.map (·.1))(aI:Li af u id aY u'):In aj u' aY b T:=by
 have no:∀{c:N} {t:bx},af c=some t->(∀i,t≠.node i)->(∀i,t≠.vec i)->(∀i lv,t≠.arr i lv)->af c≠none/\¬n4 af id c:=λe h1 h2 h3=>⟨by rw[e];simp,by rintro(aF|aF|⟨lv,aF⟩)<;>rw[e] at aF<;>cases aF;exact h1 _ rfl;exact h2 _ rfl;exact h3 _ _ rfl⟩
 have ck:=no h.aJ.dR (by simp) (by simp) (by simp);have kz:=no h.aJ.ih (by simp) (by simp) (by simp);have zy:=no h.aJ.dr (by simp) (by simp) (by simp);refine⟨⟨aI.bS _ _ h.aJ.cell ck.2,aI.bS _ _ h.aJ.src kz.2,h.aJ.Hi,h.aJ.map.else λz ab=>aI.bS _ _ ab zy.2,by rw[aI.wL _ ck.1 ck.2];exact h.aJ.dR,by rw[aI.wL _ kz.1 kz.2];exact h.aJ.ih,
  by rw[aI.wL _ zy.1 zy.2];exact h.aJ.dr,λx J=>?_⟩,(h.base aI.eX).1,(h.base aI.eX).2,aI.known⟩
 have an:x.1≠id:=λe=>cm (bk.2 ⟨x,J,e⟩);have lY:∀c,n4 af x.1 c->¬n4 af id c:=by rintro c (e|e|⟨lv,e⟩) (aF|aF|⟨wi,aF⟩)<;>rw[e] at aF<;>cases aF<;>exact an rfl
 exact(h.aJ.nodes x J).bS (λc I=>aI.wL c I.some (lY c I)) λc z ab I=>aI.bS c z ab (lY c I)
def In.level{hb:H}{af:N->aA bx}{T:aS}(h:In aj u af b T){id:o}{n:du}(ae:eS T.g id=some n){au:U}{bE:M o}(ag:n.ks[lv]?=some s)(ab:aK Cw hb 3 1 au (bE.flatMap encI))
  (he:∀c z,u c=some z->s.al≠some c->hb c=some z) (aa:∀c,au.al=some c->s.al=some c∨u c=none):
  ∃aY,In aj (hb.ins n.p (.cells (jP (n.jT lv au bE)).toArray 230 (0,0))) aY b {T with g:=q7 T.g id (n.jT lv au bE)}/\gL u af (hb.ins n.p (.cells (jP (n.jT lv au bE)).toArray 230 (0,0))) aY:=by
 obtain⟨aY,h1,h2⟩:=(h.aJ.node ae).level h.known ag ab he aa
 exact⟨aY,h.shift ae rfl h1 h2,h2.eX⟩
def In.JA{af:N->aA bx}{T:aS}(h:In aj u af b T):T.src≠b/\T.m≠b/\T.src≠T.m/\∀i c,n4 af i c->c≠b/\c≠T.m/\c≠T.src:=by refine⟨λe=>?_,λe=>?_,λe=>?_,λi c hm=>⟨λe=>?_,λe=>?_,λe=>?_⟩⟩;have:=h.aJ.ih;rw[e,h.aJ.dR] at this;cases this;have:=h.aJ.dr;rw[e,h.aJ.dR] at this;cases this;have:=h.aJ.dr;rw[<-e,h.aJ.ih] at this;cases this;rw[e] at hm;rcases hm with aF|aF|⟨_,aF⟩<;>rw[h.aJ.dR] at aF<;>cases aF;rw[e] at hm;rcases hm with aF|aF|⟨_,aF⟩<;>rw[h.aJ.dr] at aF<;>cases aF;rw[e] at hm;rcases hm with aF|aF|⟨_,aF⟩<;>rw[h.aJ.ih] at aF<;>cases aF
def In.write{af:N->aA bx}{T:aS}(h:In aj u af b T)(I:af c≠none)(z:Obj):gL u af (u.ins c z) af/\aj.le (u.ins c z)/\∀x,af x≠none->(u.ins c z) x≠none:=by have ht:gL u af (u.ins c z) af:=⟨λx y J ac=>by have an:x≠c:=λe=>I (by rw[<-e];exact ac);rw[bq _ _ an];exact J,λx J=>.inl J⟩;refine⟨ht,(h.base ht).1,λx J=>?_⟩;unfold H.ins;split;simp;exact h.known x J
def In.Pw{af:N->aA bx}{T:aS}(h:In aj u af b T)(e:o):In aj (u.ins b (.cells (fx {T with entry:=e}).toArray 184 (0,0))) af b {T with entry:=e}/\
  gL u af (u.ins b (.cells (fx {T with entry:=e}).toArray 184 (0,0))) af:=by
 obtain⟨h1,h2,h3⟩:=h.write (c:=b) (by rw[h.aJ.dR];simp) (.cells (fx {T with entry:=e}).toArray 184 (0,0))
 obtain⟨b8,ek,_,fr⟩:=h.JA
 exact⟨⟨⟨bi _ _ _,by rw[bq _ _ b8];exact h.aJ.src,h.aJ.Hi,h.aJ.map.else λz ab=>by rw[bq _ _ ek];exact ab,h.aJ.dR,h.aJ.ih,h.aJ.dr,
  λx J=>(h.aJ.nodes x J).bS (λ_ _=>rfl) λc z ab hm=>by rw[bq _ _ (fr _ c hm).1];exact ab⟩,h2,h.out,h3⟩,h1⟩
def UR{af:N->aA bx}{T:aS}(h:ec af u b T){e:o}{f:H->Prop}(ac:f (u.ins b (.cells (fx {T with entry:=e}).toArray 184 (0,0)))):H.aO u ((cw b 0 none).add 4) [.int .i64 e] f:=by
 rw[iP];refine⟨_,_,h.cell,rfl,by simp[fx],by simp[cK],?_⟩;have:wr (fx T).toArray (0+4) [.int .i64 e]=(fx {T with entry:=e}).toArray:=by simp[wr,fx]
 simp only[this];exact ac
def In.aAp{af:N->aA bx}{T:aS}(h:In aj u af b T){st:o}(dY:cz st):In aj (u.ins T.src (.cells #[.int .u64 st] 215 (0,0))) af b {T with st:=st}/\gL u af (u.ins T.src (.cells #[.int .u64 st] 215 (0,0))) af:=by
 obtain⟨h1,h2,h3⟩:=h.write (c:=T.src) (by rw[h.aJ.ih];simp) (.cells #[.int .u64 st] 215 (0,0));obtain⟨b8,ek,lu,fr⟩:=h.JA;exact⟨⟨⟨by rw[bq _ _ (dG b8)];exact h.aJ.cell,bi _ _ _,dY,h.aJ.map.else λz ab=>by rw[bq _ _ (dG lu)];exact ab,h.aJ.dR,h.aJ.ih,h.aJ.dr,
  λx J=>(h.aJ.nodes x J).bS (λ_ _=>rfl) λc z ab hm=>by rw[bq _ _ (fr _ c hm).2.2];exact ab⟩,h2,h.out,h3⟩,h1⟩
def In.amb{af:N->aA bx}{T:aS}(h:In aj u af b T){z:Obj}{b2:M (o×du)}(hm:fz (u.ins T.m z) T.m (jA b2))(W:∀x∈b2,nt af u x.1 x.2):In aj (u.ins T.m z) af b {T with g:=b2}/\gL u af (u.ins T.m z) af:=by
 obtain⟨h1,h2,h3⟩:=h.write (c:=T.m) (by rw[h.aJ.dr];simp) z;obtain⟨b8,ek,lu,fr⟩:=h.JA;exact⟨⟨⟨by rw[bq _ _ (dG ek)];exact h.aJ.cell,by rw[bq _ _ lu];exact h.aJ.src,h.aJ.Hi,hm,h.aJ.dR,h.aJ.ih,h.aJ.dr,
  λx J=>(W x J).bS (λ_ _=>rfl) λc z ab uB=>by rw[bq _ _ (fr _ c uB).2.1];exact ab⟩,h2,h.out,h3⟩,h1⟩
def cU(g:M (o×du))(q:M o)(id:o):bP:=(id,match eS g id with
 |some n=>fG n.v q n.v.length|none=>0)
def l1(g:M (o×du))(lv:N)(id:o):M o:=match eS g id with
 |some n=>n.kn.getD lv []|none=>[]
def uz(g:M (o×du))(q:M o)(id:o):(cU g q id).1=id:=rfl
structure qz(aq:o)(g:M (o×du)):Prop where
 hB:1<=aq/\aq<=64
 vec:∀x∈g,(x.2.v.length:o)=aq/\c8 x.2.v
 top:∀x∈g,x.2.top<=30
 known:∀x∈g,∀l∈x.2.kn,∀i∈l,i∈g.map (·.1)
 ids:∀x∈g,1<=x.1/\x.1<=1000000000
 small:g.length<=513
def qz.ck{aq:o}{g:M (o×du)}(h:qz aq g)(lv:N):∀k∈g.map (·.1),∀i∈l1 g lv k,i∈g.map (·.1):=by intro k hk i hi;obtain⟨n,ae⟩:=yU hk;unfold l1 at hi;rw[ae] at hi;simp only at hi;rcases kB lv n.kn.length with ap|ap;rw[dm,cy ap] at hi;exact h.known _ (iG ae) _ (kD ap) i hi;rw[dm,iO ap] at hi;cases hi
def wl:ns aH 182 3 227 (.pointer none):=⟨by kernel_rfl,by kernel_rfl,λ_=>by kernel_rfl⟩
def JE(p lv:N):((cw p 0 none).add 1).add (lv*1)=⟨p,1+lv,none⟩:=by rw[Addr.w5,iP,wu,ki]
structure tW(u:H)(b:N)(T:aS):Prop where
 cell:u b=some (.cells (fx T).toArray 184 (0,0))
 map:fz u T.m (jA T.g)
 nodes:∀x∈T.g,u x.2.p=some (.cells (jP x.2).toArray 230 (0,0))/\Ints u x.2.sv x.2.v
def ec.Uj{af:N->aA bx}{T:aS}(h:ec af u b T)(hu:∀c z,u c=some z->af c≠none->(∀i lv,af c≠some (.arr i lv))->u' c=some z):tW u' b T where
 cell:=hu _ _ h.cell (by rw[h.dR];simp) (by rw[h.dR];simp)
 map:=h.map.else λz ab=>hu _ _ ab (by rw[h.dr];simp) (by rw[h.dr];simp)
 nodes x J:=by have eP:=h.nodes x J;exact⟨hu _ _ eP.cell (by rw[eP.tag];simp) (by rw[eP.tag];simp),bz.else eP.vec λg z W ab=>hu g z ab (by rw[eP.Ci g W];simp) (by rw[eP.Ci g W];simp)⟩
def ec.rd{af:N->aA bx}{T:aS}(h:ec af u b T):tW u b T:=h.Uj λ_ _ ab _ _=>ab
def tW.mono{T:aS}(h:tW u b T)(hu:u.le u'):tW u' b T:=
 ⟨hu _ _ h.cell,h.map.mono hu,λx J=>⟨hu _ _ (h.nodes x J).1,(h.nodes x J).2.mono hu⟩⟩
def alC{T:aS}(h:tW u b T):u.cell? ⟨b,0,none⟩=some (.int .i64 T.aq)/\u.cell? ((cw b 0 none).add 1)=some (.int .i64 T.b9)/\
  u.cell? ((cw b 0 none).add 3)=some (.map (some T.m))/\u.cell? ((cw b 0 none).add 4)=some (.int .i64 T.entry):=by
 have aa:=h.cell
 refine⟨?_,?_,?_,?_⟩<;>simp[H.cell?,eu,aa,fx]
def al7{T:aS}(h:tW u b T){id:o}(cm:id∈T.g.map (·.1)){K:aA bc->H->Prop}
  (av:∀n,eS T.g id=some n->K (some ⟨n.p,0,none⟩) u):c9 aH (gz 182 (.map (some T.m)) (.int .i64 id) ax) [.one .ptr] u K:=by
 obtain⟨n,ae⟩:=yU cm
 refine Ps wl h.map (ct:=.ptr) (some ⟨n.p,0,none⟩) ?_ (av n ae)
 rw[CX,ae];rfl
def vl{af:N->aA bx}{T:aS}(h:ec af u b T){id:o}(cm:id∈T.g.map (·.1)){K:aA bc->H->Prop}
  (av:∀n,eS T.g id=some n->nt af u id n->K (some ⟨n.p,0,none⟩) u):c9 aH (gz 182 (.map (some T.m)) (.int .i64 id) ax) [.one .ptr] u K:=
 al7 h.rd cm λn ae=>av n ae (h.node ae)
structure sW(u:H)(aq:o)(t:U)(q:M o):Prop where
 is:Ints u t q
 ok:c8 q
 len:(q.length:o)=aq
def sW.mono{aq:o}(h:sW u aq t q)(k:u.le u'):sW u' aq t q:=⟨h.is.mono k,h.ok,h.len⟩
def ada{T:aS}{id:o}{K:o->o->o->H->Prop}(h:tW u b T)(W:qz T.aq T.g)(cm:id∈T.g.map (·.1))(ht:sW u T.aq t q)
  (av:K id (cZ (cU T.g q id).2) (c5 (cU T.g q id).2) u):yu (some ⟨b,0,none⟩) id t u K:=by
 obtain⟨_,_,fc,_⟩:=alC h
 apply aDN
 refine⟨_,rfl,_,fc,al7 h cm λn ae=>⟨_,rfl,n.sv,?_,?_⟩⟩
 have:=(h.nodes _ (iG ae)).1
 simp only at this
 simp[H.cell?,this,jP]
 have aB:=W.vec _ (iG ae)
 refine B6 (h.nodes _ (iG ae)).2 ht.is aB.2 ?_ ht.ok ?_ λx y J ai he=>?_
 have:=W.hB;have:=aB.1;simp only at this ⊢;omega
 have:=aB.1;have:=ht.len;simp only at*;omega
 have e:(cU T.g q id).2=dy x y:=by rw[he];simp[cU,ae]
 rw[e,YX ai,abj ai] at av
 exact av
def PJ{af:N->aA bx}{T:aS}{id:o}{K:o->o->o->H->Prop}(h:ec af u b T)(W:qz T.aq T.g)(cm:id∈T.g.map (·.1))(ht:sW u T.aq t q)
  (av:K id (cZ (cU T.g q id).2) (c5 (cU T.g q id).2) u):yu (some ⟨b,0,none⟩) id t u K:=ada h.rd W cm ht av
def wk(b9 lv:o):o:=if lv=0 then 2*b9 else b9
def amG{T:aS}{lv:o}(h:tW u b T)(ap:1<=T.b9/\T.b9<=16)(av:K (wk T.b9 lv) u):Qo (some ⟨b,0,none⟩) lv u K:=by obtain⟨_,c1,_⟩:=alC h;apply aDS;unfold wk at av;refine⟨λh0=>⟨_,rfl,_,c1,⟨by omega,by omega⟩,?_⟩,λh0=>⟨_,rfl,_,c1,?_⟩⟩;rw[a1 h0] at av;exact av;rw[aG h0] at av;exact av
def xQ{af:N->aA bx}{id:o}{n:du}(h:nt af u id n)(ap:lv<31):∃s l,n.ks[lv]?=some s/\n.kn[lv]?=some l/\u.cell? (((cw n.p 0 none).add 1).add (lv*1))=some (.slice s.a s.n s.c)/\
  aK Cw u 3 1 s (l.flatMap encI)/\∀g,s.al=some g->af g=some (.arr id lv):=by
 have h1:lv<n.ks.length:=by rw[h.uS];exact ap
 have h2:lv<n.kn.length:=by rw[h.Ge];exact ap
 refine⟨n.ks[lv],n.kn[lv],cy h1,cy h2,?_,h.arr lv _ _ (cy h1) (cy h2)⟩
 rw[JE,Gv h]
 exact ayF (cy h1)
def abA{g:M (o×du)}{id:o}{n:du}(ae:eS g id=some n)(ap:n.kn[lv]?=some l):l1 g lv id=l:=by unfold l1;rw[ae];simp only;rw[dm,ap];rfl
def adG{α β:Type}(f:β->α->β)(l:M α){i:N}{x:α}(h:l[i]?=some x)(b:β):(l.take (i+1)).foldl f b=f ((l.take i).foldl f b) x:=by obtain⟨ap,rfl⟩:=iB.1 h;rw[List.take_succ_eq_append_getElem ap,acz];rfl
def aA9{af:N->aA bx}{T:aS}{at' lv:o}(h:ec af u b T)(W:qz T.aq T.g)(cm:at'∈T.g.map (·.1))(ht:sW u T.aq t q)
  (iy:0<=lv) (ej:lv<31) (av:K (LC (cU T.g q) (l1 T.g lv.toNat) T.g.length at') u):VE (some ⟨b,0,none⟩) at' t lv u K:=by
 obtain⟨_,_,_,fc,_⟩:=kU h
 have hlen:(T.g.map (·.1)).length=T.g.length:=by simp
 apply aDL
 refine PJ h W cm ht ?_
 refine⟨λm x y Y v=>v=u/\∃(n:N) (lI:bP),x=lI.1/\y=cZ lI.2/\Y=c5 lI.2/\lI=xP (cU T.g q) (l1 T.g lv.toNat) n (cU T.g q at')/\n+Kk (cU T.g q) (T.g.map (·.1)) lI<=T.g.length/\
   (m=ax->pass (cU T.g q) (l1 T.g lv.toNat) lI=lI),
  λm x y Y _=>Kk (cU T.g q) (T.g.map (·.1)) (x,dy y Y)+(if m=ak then 1 else 0),
  ⟨rfl,0,cU T.g q at',rfl,rfl,rfl,rfl,by have:=azC (cU T.g q) (T.g.map (·.1)) (cU T.g q at');omega,λhm=>by cases hm⟩,?_⟩
 rintro m x y Y v ⟨rfl,n,lI,rfl,rfl,rfl,Ms,ae,hm⟩
 have cb:=Ta (cU T.g q) (l1 T.g lv.toNat) (uz T.g q) (b:=cU T.g q at') ⟨cm,rfl⟩ (W.ck lv.toNat) n
 rw[<-Ms] at cb
 refine⟨λNc=>⟨_,rfl,_,fc,vl h cb.1 λnd b3 eP=>⟨_,rfl,by decide,⟨iy,ej⟩,?_⟩⟩,λavh=>?_⟩
 obtain⟨s,l,dZ,dQ,I,ab,_⟩:=xQ eP (lv:=lv.toNat) (by omega)
 refine⟨s,I,?_⟩
 have vX:l1 T.g lv.toNat lI.1=l:=abA b3 dQ
 have dM:=ab.ints.len
 refine⟨λqU i x y Y b6=>b6=v/\0<=i/\i<=l.length/\∃rl:bP,x=rl.1/\y=cZ rl.2/\Y=c5 rl.2/\rl=(l.take i.toNat).foldl (u0 (cU T.g q)) lI/\qU=decide (rl≠lI),
  λ_ i _ _ _ _=>l.length-i.toNat,⟨rfl,by omega,by omega,lI,rfl,rfl,rfl,rfl,by simp⟩,?_⟩
 rintro qU i x y Y b6 ⟨rfl,i0,i1,rl,rfl,rfl,rfl,eQ,rfl⟩
 refine⟨λeU=>?_,λfO=>?_⟩
 have gf:=ab.ints.max
 obtain⟨p,ad,om⟩:=ab.ints.at i0 eU
 refine⟨p,ad,⟨i0,eU⟩,_,om,?_⟩
 have ava:i.toNat<l.length:=by omega
 have J:l[i.toNat]?=some (l.getD i.toNat 0):=by simp[ava]
 have F6:l.getD i.toNat 0∈T.g.map (·.1):=W.ck lv.toNat lI.1 cb.1 _ (by rw[vX];exact dB J)
 refine PJ h W F6 ht ?_
 have ac:=adG (u0 (cU T.g q)) l J lI
 rw[<-eQ] at ac
 refine KA (a:=cU T.g q (l.getD i.toNat 0)) (b:=rl) ?_
 have qG:rl=lI∨bw rl lI=ak:=by rcases XC (cU T.g q) (l.take i.toNat) lI with h1|⟨h1,_⟩;exact .inl (eQ.trans h1);exact .inr (eQ▸h1)
 refine⟨λaa=>⟨⟨by omega,by omega⟩,⟨rfl,by omega,by omega,cU T.g q (l.getD i.toNat 0),rfl,rfl,rfl,?_,?_⟩,by dsimp only;omega⟩,
  λaa=>⟨⟨by omega,by omega⟩,⟨rfl,by omega,by omega,rl,rfl,rfl,rfl,?_,rfl⟩,by dsimp only;omega⟩⟩
 rw[show(i+1).toNat=i.toNat+1 by omega,ac,u0,a1 aa]
 have:bw (cU T.g q (l.getD i.toNat 0)) lI=ak:=by rcases qG with h1|h1;rw[<-h1];exact aa;exact M6 aa h1
 exact(l4 (avd this)).symm
 rw[show(i+1).toNat=i.toNat+1 by omega,ac,u0,aG (by simpa using aa)]
 have eU:i.toNat=l.length:=by have:¬i<(s.n:o):=fO;omega
 have ahz:rl=pass (cU T.g q) (l1 T.g lv.toNat) lI:=by rw[eQ,eU,oE,pass,vX]
 have h4:=XC (cU T.g q) l lI
 have atS:rl=l.foldl (u0 (cU T.g q)) lI:=by rw[eQ,eU,oE]
 rw[<-atS] at h4
 rw[Nc]
 by_cases an:rl=lI
 refine⟨⟨rfl,n,rl,rfl,rfl,rfl,by rw[an];exact Ms,by rw[an];exact ae,λ_=>by rw[an,<-ahz];exact an⟩,?_⟩
 rw[an];simp
 obtain⟨h1,lp,qI,e⟩:=h4.resolve_left an
 have auM:lp∈T.g.map (·.1):=W.ck lv.toNat lI.1 cb.1 _ (by rw[vX];exact qI)
 have O:=azD (cU T.g q) auM (b:=lI) (by rw[<-e];exact h1)
 rw[<-e] at O
 refine⟨⟨rfl,n+1,rl,rfl,rfl,rfl,by rw[ahz,Ms];rfl,by omega,λac=>?_⟩,?_⟩
 simp[an] at ac
 simp only[mD]
 have:decide (rl≠lI)=ak:=by simp[an]
 rw[this]
 simpa using O
 have ad:=hm avh
 have aur:=axh (cU T.g q) (l1 T.g lv.toNat) (n:=n) (b:=cU T.g q at') (by rw[<-Ms];exact ad) (T.g.length-n)
 have e:LC (cU T.g q) (l1 T.g lv.toNat) T.g.length at'=lI.1:=by unfold LC;rw[show T.g.length=n+(T.g.length-n) by omega,aur,Ms]
 rw[e] at av
 exact av
def vn(g:M (o×du))(q:M o)(entry:o)(lv:N):o:=
 EK (cU g q) (λl=>l1 g l) g.length lv ((match eS g entry with|some n=>n.top|none=>0)-lv) entry
def ady{aq:o}{g:M (o×du)}(W:qz aq g){entry:o}(he:entry∈g.map (·.1))(lv:N):vn g q entry lv∈g.map (·.1):=
 afW (uz g q) (λl=>W.ck l) _ _ he
def amH{af:N->aA bx}{T:aS}{lv:o}(h:ec af u b T)(W:qz T.aq T.g)(cm:T.entry∈T.g.map (·.1))(ht:sW u T.aq t q)
  (iy:0<=lv) (av:K (vn T.g q T.entry lv.toNat) u):Qp (some ⟨b,0,none⟩) t lv u K:=by
 obtain⟨_,_,_,fc,pS⟩:=kU h
 apply aDT
 refine⟨_,rfl,_,pS,_,rfl,_,fc,vl h cm λn ae eP=>⟨_,rfl,n.top,?_,?_⟩⟩
 rw[iP,ki,Gv eP];exact Tu eP.uS
 have p5:=W.top _ (iG ae)
 simp only at p5
 unfold vn at av
 rw[ae] at av
 simp only at av
 refine⟨λx l v=>v=u/\x∈T.g.map (·.1)/\∃c:N,(lv<l->l=lv+c)/\l<=30/\(¬lv<l->c=0)/\EK (cU T.g q) (λl=>l1 T.g l) T.g.length lv.toNat c x=EK (cU T.g q) (λl=>l1 T.g l) T.g.length lv.toNat (n.top-lv.toNat) T.entry,
  λ_ l _=>(l-lv).toNat,⟨rfl,cm,n.top-lv.toNat,by omega,by omega,by omega,rfl⟩,?_⟩
 rintro x l v ⟨rfl,J,c,h9,om,atW,ar⟩
 refine⟨λgC=>?_,λfO=>?_⟩
 have ap:=h9 gC
 refine aA9 h W J ht (by omega) (by omega) ⟨⟨by omega,by omega⟩,⟨rfl,af1 (cU T.g q) _ (uz T.g q) J (W.ck _),c-1,by omega,by omega,by omega,?_⟩,by dsimp only;omega⟩
 rw[<-ar]
 obtain⟨nC,rfl⟩:∃nC,c=nC+1:=⟨c-1,by omega⟩
 simp only[EK,Nat.add_sub_cancel]
 rw[show l.toNat=lv.toNat+nC+1 by omega]
 rw[atW fO] at ar
 simp only[EK] at ar
 rw[<-ar] at av
 exact av
def _root_.Go.Proofs.YtejdhbfjjgcljaaGreatDoor.rh.Uk{v0 v b6:H}{cu:N}{z b7:Obj}{L:M bP}(h:rh (v0.ins cu z) n v L)(h0:v0 cu=none)(ab:b6 cu=some b7)(he:∀g x,v g=some x->g≠cu->b6 g=some x):rh (v0.ins cu b7) n b6 L:=by
 obtain⟨s,h1,h2,h3⟩:=h.ex;have FJ:n≠cu:=λe=>by have:=h.out;rw[e,bi] at this;cases this
 have ac:∀g,(v0.ins cu z) g=none->(v0.ins cu b7) g=none:=λg W=>by
  have:g≠cu:=λe=>by rw[e,bi] at W;cases W
  rw[bq _ _ this] at W ⊢;exact W
 refine⟨⟨s,he _ _ h1 FJ,⟨h2.own.le λb x aa hu=>he b x hu λe=>?_,λb x aa=>?_,λg W=>ac g (h2.fresh g W)⟩,h3⟩,ac n h.out,h.small⟩;have:=h2.fresh b aa;rw[e,bi] at this;cases this;unfold H.ins at aa;split at aa;rename_i e;rw[e];cases aa;exact ab;rename_i e;have:=h2.le b x (by rw[bq _ _ e];exact aa);exact he b x this e
def _root_.Go.Proofs.YtejdhbfjjgcljaaGreatDoor.rh.H7{v0 v ji b6:H}{cu:N}{z:Obj}{L:M bP}(h:rh (v0.ins cu z) n v L)(h0:v0 cu=none)(ac:yw v0 v ji b6):rh (ji.ins cu z) n b6 L/\ji cu=none:=by
 obtain⟨s,h1,h2,h3⟩:=h.ex;have iw:=h2.le cu z (bi _ _ _);obtain⟨sf,atc⟩:=ac.out cu z h0 iw;have FJ:n≠cu:=λe=>by have:=h.out;rw[e,bi] at this;cases this
 have e1:v0 n=none:=by have:=h.out;rw[bq _ _ FJ] at this;exact this
 obtain⟨gn,fK⟩:=ac.out n _ e1 h1;have aa:∀g,s.al=some g->∀x,v g=some x->ji g=none/\b6 g=some x/\g≠cu:=λg W x J=>by
  have eZ:=h2.fresh g W;have Sj:g≠cu:=λe=>by rw[e,bi] at eZ;cases eZ
  rw[bq _ _ Sj] at eZ;exact⟨(ac.out g x eZ J).1,(ac.out g x eZ J).2,Sj⟩
 refine⟨⟨⟨s,fK,⟨h2.own.le λb x eA hu=>(aa b eA x hu).2.1,λb x J=>?_,λg W=>?_⟩,h3⟩,by rw[bq _ _ FJ];exact gn,h.small⟩,sf⟩;unfold H.ins at J;split at J;rename_i e;rw[e];cases J;exact atc;exact ac.le b x J;have hk:=dL h2 W;obtain⟨x,J⟩:=fj.1 hk;obtain⟨bO,_,e7⟩:=aa g W x J;rw[bq _ _ e7];exact bO
def axZ{ht:o->bP}{s:M o×M bP}{i:o}(h:i∉s.1):iW ht s i=(s.1++ [i],p7 (ht i) s.2):=aG h
def ax0{ht:o->bP}{s:M o×M bP}{i:o}(h:i∈s.1):iW ht s i=s:=a1 h
def lG(g:M (o×du))(q:M o)(lv:N)(at':o):M o:=vG (cU g q) (l1 g lv) g.length [at'] [cU g q at']
def MT(h:bP):ao:=.agg #[.int .i64 h.1,.int .u64 (cZ h.2),.int .u64 (c5 h.2)]
structure HE(T:aS)(q:M o)(lv:N)(bD:M o)(cY:N->H->Prop)(cu n9:N)(n:N)(v:H):Prop where
 ex:∃(v0:H) (z:Obj) (i:N) (met:M o) (Am L:M bP),cY i v0/\v0 cu=none/\tV (v0.ins cu z) cu met/\rh (v0.ins cu z) n9 v L/\iR bw L.length L/\L.Perm Am/\Met (cU T.g q) (T.g.map (·.1)) (met,Am)/\
  due T.g.length (met,Am)<=n/\bD.drop i=vG (cU T.g q) (l1 T.g lv) n met Am/\i<=bD.length
def amE{af:N->aA bx}{T:aS}{at' lv:o}{Pr:ao}{K:H->Prop}(ci:ub.le u)(h:ec af ub b T)(W:qz T.aq T.g)(cm:at'∈T.g.map (·.1))(ht:sW ub T.aq t q)
  (iy:0<=lv) (ej:lv<31) (cY:N->H->Prop) (E:H->Prop) (k0:∀i v,cY i v->ub.le v)
  (ZV:∀i x v (K:aD->H->Prop),(lG T.g q lv.toNat at')[i]?=some x->cY i v->(∀b6,cY (i+1) b6->K ak b6)->(∀b6,E b6->K ax b6)->sS aH Pr #[MT (cU T.g q x)] [.one .bool] v K)
  (h0:cY 0 u) (E1:∀v,cY (lG T.g q lv.toNat at').length v->K v) (ph:∀v,E v->K v):KY (some ⟨b,0,none⟩) at' t lv Pr u K:=by
 have aHE:=W.small
 have hlen:(T.g.map (·.1)).length=T.g.length:=by simp
 refine hx.weaken (ss:=[]) ?_
 apply aDM
 refine acY λcu iw kx=>?_
 refine UB Ha kx (by simp) λcQ ZW IH aHs=>?_
 have qP:u.le cQ:=λc z I=>IH c z (bZ _ iw c z I) λe=>by rw[e,iw] at I;cases I
 obtain⟨hW,W4,vK,_⟩:=ZW
 refine PJ (h.mono (ci.trans qP)) W cm (ht.mono (ci.trans qP)) ?_
 refine mA (afv at' _ _) λg7 Si n9 uE=>?_
 have SD:n9≠g7:=λe=>by rw[e,bi] at uE;cases uE
 have Nh:cQ n9=none:=by rw[bq _ _ SD] at uE;exact uE
 have ahe:cu≠g7:=λe=>by rw[<-e,vK] at Si;cases Si
 have Im:cu≠n9:=λe=>by rw[<-e,vK] at Nh;cases Nh
 refine Hj (bi _ _ _) (by simp[cK]) ?_
 have SQ:∀v,v cu=some (.map hW W4)->(∀c x,u c=some x->v c=some x)->v g7=some (.cells #[.int .i64 at',.int .u64 (cZ (cU T.g q at').2),.int .u64 (c5 (cU T.g q at').2)] 68 (0,0))->
   v n9=some (.cells #[.slice (some ⟨g7,0,none⟩) 1 1] 263 (0,0))->u n9=none->u g7=none->u cu=none->HE T q lv.toNat (lG T.g q lv.toNat at') cY cu n9 T.g.length v:=by
  intro v aQ aF cW fJ gA mc Xj
  refine⟨u,.map hW W4,0,[at'],[cU T.g q at'],[cU T.g q at'],h0,Xj,?_,?_,λi i0 i1=>by simp at i1;omega,Kf _,Met.one _ (uz T.g q) cm,?_,rfl,q0 _⟩
  exact⟨hW,W4,bi _ _ _,by assumption⟩
  refine⟨⟨⟨some ⟨g7,0,none⟩,1,1⟩,fJ,⟨⟨(by simp[se]),.inr ⟨g7,_,rfl,cW,cC _,(by show(1:N)<=9223372036854775807;decide),(by simp),(by simp[fX,uz])⟩⟩,λc x I=>?_,λg W=>?_⟩,by simp[U.al];exact λe=>SD e.symm⟩,by rw[bq _ _ (dG Im)];exact gA,by simp⟩
  unfold H.ins at I
  split at I
  rename_i e;rw[e];cases I;exact aQ
  exact aF c x I
  simp[U.al] at W
  rw[<-W,bq _ _ (dG ahe)];exact mc
  simp[due]
  have:0<T.g.length:=by have:=Ub cm;simpa using this
  omega
 have hw:∀n v,HE T q lv.toNat (lG T.g q lv.toNat at') cY cu n9 n v->∃v0,ub.le v0/\v0.le v:=by rintro n v ⟨v0,z,i,met,Am,L,aN,sf,_,ae,_⟩;obtain⟨s,_,ab,_⟩:=ae.ex;exact⟨v0,k0 i v0 aN,(bZ _ sf).trans ab.le⟩
 refine⟨λv=>∃n,HE T q lv.toNat (lG T.g q lv.toNat at') cY cu n9 n v,λv=>least λn=>HE T q lv.toNat (lG T.g q lv.toNat at') cY cu n9 n v,⟨T.g.length,SQ _ ?_ ?_ ?_ ?_ ?_ ?_ iw⟩,?_⟩
 rw[bq _ _ Im,bq _ _ Im,bq _ _ ahe];exact vK
 intro c x I
 have om:=qP c x I
 rw[bq _ _ (λe=>by rw[e,Nh] at om;cases om),bq _ _ (λe=>by rw[e,Nh] at om;cases om),bq _ _ (λe=>by rw[e,Si] at om;cases om)]
 exact om
 rw[bq _ _ (dG SD),bq _ _ (dG SD),bi]
 rw[bi]
 exact qP.none Nh
 exact qP.none Si
 intro v aB
 have cx:=Gl aB
 obtain⟨di,eP⟩:∃di,(least λn=>HE T q lv.toNat (lG T.g q lv.toNat at') cY cu n9 n v)=di:=⟨_,rfl⟩
 dsimp only
 rw[eP] at cx ⊢
 obtain⟨v0,z,i,met,Am,L,aN,sf,kx,Nj,auB,ib,IP,ahN,MC,hi⟩:=cx
 have aHK:=k0 i v0 aN
 obtain⟨s,awm,ajl,aHH⟩:=Nj.ex
 have awJ:v0.le v:=(bZ _ sf).trans ajl.le
 refine⟨s,a8 awm 0,an8 s v _ ?_⟩
 have sq:=ajl.fq.len
 refine⟨λoT=>?_,λrF=>?_⟩
 have as8:0<L.length:=by omega
 refine aA4 (akH (v0.ins cu z) n9) akI (V:=Da) Nj auB as8 (λdY ap av=>ayy dY ap av) λaU Ww x aiT ZC auC Zf=>?_
 obtain⟨y,pa,rfl⟩:∃y pa,Am=y::pa:=by
  cases Am with
  |nil=>have:=ib.length_eq;rw[oB] at this;omega|cons y l=>exact⟨y,l,rfl⟩
 have iV:x=y:=by
  have J:x∈y::pa:=(ZC.trans ib).mem_iff.1 (.head _);have ai:y∈x::Ww:=(ZC.trans ib).mem_iff.2 (.head _);have cq:bw x y=ax:=by
   cases J with
   |head=>exact IN _|tail _ J=>exact(k9.1 IP.B8).1 x J
  have cH:bw y x=ax:=by
   cases ai with
   |head=>exact IN _|tail _ ai=>exact Zf y ai
  exact Zb cH cq
 subst iV
 have avT:Ww.Perm pa:=(aco x).1 (ZC.trans ib)
 have wc:=IP.sub _ (IP.wait x (.head _)).1
 have S2:=(IP.wait x (.head _)).2
 obtain⟨n,rfl⟩:∃n,di=n+1:=⟨di-1,by simp[due] at ahN;omega⟩
 have ahn:(lG T.g q lv.toNat at')[i]?=some x.1:=by
  have:((lG T.g q lv.toNat at').drop i)[0]?=some x.1:=by rw[MC];simp[vG]
  rw[u5] at this;simpa using this
 have ahM:(lG T.g q lv.toNat at').drop (i+1)=vG (cU T.g q) (l1 T.g lv.toNat) n ((l1 T.g lv.toNat x.1).foldl (iW (cU T.g q)) (met,pa)).1 ((l1 T.g lv.toNat x.1).foldl (iW (cU T.g q)) (met,pa)).2:=by rw[<-BQ,MC];simp[vG]
 have aG1:i<(lG T.g q lv.toNat at').length:=(iB.1 ahn).1
 refine al4 ?_
 have awI:v0.le aU:=by obtain⟨_,_,j1,_⟩:=aiT.ex;exact(bZ _ sf).trans j1.le
 refine(ZV i x.1 v0 (λb b6=>(b=ak->cY (i+1) b6)/\(b=ax->E b6)) ahn aN (λb6 gE=>⟨λ_=>gE,λe=>(by cases e)⟩) (λb6 gE=>⟨λe=>(by cases e),λ_=>gE⟩)).frame awI ?_|>(λY=>(by
  have e:MT (cU T.g q x.1)=.agg #[.int .i64 x.1,.int .u64 (cZ x.2),.int .u64 (c5 x.2)]:=by rw[<-S2];rfl
  rw[e] at Y;exact Y))
 rintro dp ji aCL eZ ⟨Yx,AR⟩
 refine⟨λan=>⟨ji,eZ.le,ph _ (AR (Bool.eq_false_iff.2 an))⟩,λaa=>?_⟩
 have rC:=Yx aa
 obtain⟨avx,RT⟩:=aiT.H7 sf eZ
 have SY:=k0 _ _ rC
 have awz:ji.le aCL:=eZ.le
 have ahj:=h.mono (SY.trans awz)
 obtain⟨_,_,_,fc,_⟩:=kU ahj
 refine⟨_,rfl,_,fc,vl ahj wc λnd b3 pW=>⟨_,rfl,by decide,⟨iy,ej⟩,?_⟩⟩
 obtain⟨df,kQ,dZ,dQ,I,ab,_⟩:=xQ pW (lv:=lv.toNat) (by omega)
 have vX:l1 T.g lv.toNat x.1=kQ:=abA b3 dQ
 have j0:=ab.ints.len
 have sm:=ab.ints.max
 refine⟨df,I,?_⟩
 rw[vX] at ahM
 have Y8:∀y∈kQ,y∈T.g.map (·.1):=λy ai=>W.ck lv.toNat x.1 wc y (by rw[vX];exact ai)
 have NO:tV (ji.ins cu z) cu met:=by obtain⟨es,Lu,h1,h2⟩:=kx;rw[bi] at h1;exact⟨es,Lu,by rw[bi];exact h1,h2⟩
 refine⟨λk w=>0<=k/\k<=kQ.length/\∃(b7:Obj) (L':M bP),tV (ji.ins cu b7) cu ((kQ.take k.toNat).foldl (iW (cU T.g q)) (met,pa)).1/\rh (ji.ins cu b7) n9 w L'/\iR bw L'.length L'/\
  L'.Perm ((kQ.take k.toNat).foldl (iW (cU T.g q)) (met,pa)).2,λk _=>kQ.length-k.toNat,⟨by omega,by omega,z,Ww,NO,avx,auC,avT⟩,?_⟩
 rintro k w ⟨jz,cq,b7,L',NP,SE,YU,NB⟩
 obtain⟨aIg,aHB,Z1,_⟩:=SE.ex
 have tq:ji.le w:=(bZ _ RT).trans Z1.le
 have k5:=SY.trans tq
 have Nb:=Met.fold (cU T.g q) (ids:=T.g.map (·.1)) (uz T.g q) (l:=kQ.take k.toNat) (IP.tail _) λy ai=>Y8 y (mx ai)
 refine⟨λbw=>?_,λfO=>?_⟩
 have ju:k.toNat<kQ.length:=by omega
 have ov:nt af ub x.1 nd:=h.node b3
 obtain⟨aIh,aHV,aQ,aF,_,dP,_⟩:=xQ ov (lv:=lv.toNat) (by omega)
 rw[dZ] at aQ;cases aQ
 rw[dQ] at aF;cases aF
 obtain⟨p,ad,lX⟩:=dP.ints.at jz bw
 refine⟨p,ad,⟨jz,bw⟩,_,qE k5 lX,?_⟩
 have J:kQ[k.toNat]?=some (kQ.getD k.toNat 0):=by simp[ju]
 have F6:=Y8 _ (dB J)
 have ac:=adG (iW (cU T.g q)) kQ J (met,pa)
 rw[show k.toNat+1=(k+1).toNat by omega] at ac
 refine acX Ha (NP.mono Z1.le) ?_
 refine⟨λaa=>?_,λaa=>?_⟩
 have rF:kQ.getD k.toNat 0∉((kQ.take k.toNat).foldl (iW (cU T.g q)) (met,pa)).1:=by simpa using aa
 have jb:(kQ.take (k+1).toNat).foldl (iW (cU T.g q)) (met,pa)=(((kQ.take k.toNat).foldl (iW (cU T.g q)) (met,pa)).1++ [kQ.getD k.toNat 0],p7 (cU T.g q (kQ.getD k.toNat 0)) ((kQ.take k.toNat).foldl (iW (cU T.g q)) (met,pa)).2):=by rw[ac,axZ rF]
 refine UB Ha (NP.mono Z1.le) rF λew ZW kd _=>?_
 obtain⟨agf,afK,awQ,au4⟩:=ZW
 have aiU:=SE.Uk RT awQ kd
 obtain⟨_,_,awn,_⟩:=aiU.ex
 have ajx:ji.le ew:=(bZ _ RT).trans awn.le
 refine PJ (h.mono (SY.trans ajx)) W F6 (ht.mono (SY.trans ajx)) ?_
 have aiv:L'.length<=1000:=by rw[NB.length_eq];have:=py Nb.Gx (λy ai=>by obtain⟨Y,aC,rfl⟩:=bk.1 ai;exact Nb.sub _ (Nb.wait Y aC).1);simp at this;omega
 refine amv (akH (ji.ins cu (.map agf afK)) n9) akI (x:=Da (cU T.g q (kQ.getD k.toNat 0))) YU (λav=>ayz aiU (by omega) av) λh7 apc avy avU auD=>⟨⟨by omega,by omega⟩,⟨by omega,by omega,_,apc,?_,avy,auD,?_⟩,by dsimp only;omega⟩
 rw[jb];exact⟨agf,afK,bi _ _ _,au4⟩
 rw[jb]
 refine avU.trans ?_
 refine(nc _ _).trans ?_
 exact(j3 _ NB).trans (Gb _ _).symm
 have cb:kQ.getD k.toNat 0∈((kQ.take k.toNat).foldl (iW (cU T.g q)) (met,pa)).1:=by simpa using aa
 have jb:(kQ.take (k+1).toNat).foldl (iW (cU T.g q)) (met,pa)=(kQ.take k.toNat).foldl (iW (cU T.g q)) (met,pa):=by rw[ac,ax0 cb]
 exact⟨⟨by omega,by omega⟩,⟨by omega,by omega,b7,L',by rw[jb];exact NP,SE,YU,by rw[jb];exact NB⟩,by dsimp only;omega⟩
 have auY:kQ.take k.toNat=kQ:=gY (by omega)
 rw[auY] at NP NB Nb
 have uw:HE T q lv.toNat (lG T.g q lv.toNat at') cY cu n9 n w:=by refine⟨ji,b7,i+1,_,_,L',rC,RT,NP,SE,YU,NB,Nb,?_,ahM,by omega⟩;have:=aq5 (cU T.g q) (uz T.g q) (l:=kQ) (IP.tail _) Y8;rw[hlen] at this;have e:((kQ.foldl (iW (cU T.g q)) (met,pa)).1,(kQ.foldl (iW (cU T.g q)) (met,pa)).2)=kQ.foldl (iW (cU T.g q)) (met,pa):=rfl;rw[e,this];simp[due] at ahN ⊢;omega
 exact⟨⟨n,uw⟩,Nat.lt_succ_of_le (least_le uw)⟩
 have XY:L=[]:=kS (by omega)
 subst XY
 have ata:Am=[]:=by have:=ib.length_eq;simpa using this.symm
 subst ata
 have he:(lG T.g q lv.toNat at').drop i=[]:=by rw[MC];cases di<;>rfl
 have Ft:i=(lG T.g q lv.toNat at').length:=by have:=List.drop_eq_nil_iff.1 he;omega
 subst Ft
 exact⟨v0,awJ,E1 _ aN⟩
open Go.Sort Go.Shelf
def _root_.Go.Proofs.YtejdhbfjjgcljaaGreatDoor.s3.aB4{w w':cg}{z b7:Obj}(hw:Sub u w)(aa:u b=some z)(k:s3 b b7 w w'):Step u [] w (u.ins b b7) [] w':=by refine⟨λx y h=>?_,k.os,k.tape,k.output,k.drawn,Kd k.size.symm,λx _ J _=>k.rest x (λe=>by rw[e,aa] at J;cases J),λx _ J=>?_,[],by simp,by simp⟩;unfold H.ins at h;split at h;rename_i e;rw[e];cases h;exact k.at_;rename_i e;rw[k.rest x e];exact hw _ _ h;rw[bq _ _ (λe=>by rw[e,aa] at J;cases J)];exact J
def aAe{g off:N}{cur:cv ao}{T:dF}(W:u g=some (.cells cur T (0,0)))(ae:off+n<=cur.size){fB:dF}{K:H->Prop}(av:K (u.ins g (.cells (wr cur off (gu n (.int .i64 0))) T (0,0)))):
  c9 aH (qd #[30] fB #[.slice (some ⟨g,off,none⟩) n c]) [] u K:=by
 intro w hw
 obtain⟨ht,i,Y,hi,aC,qN,y3,Bt,xN⟩:=vE o4
 rcases T6 n with rfl|oT
 refine⟨.tuple #[],w,u,by simp[qd,ir ht],⟨[],.nil,rfl,?_⟩,Step.refl hw⟩
 have e:u.ins g (.cells (wr cur off (gu 0 (.int .i64 0))) T (0,0))=u:=aaN (by rw[W];rfl)
 rw[e] at av
 exact av
 obtain⟨w',O,k7⟩:=adz (P:=aH) (b:=g) (off:=off) (T:=T) (gu n (.int .i64 0)) 0 cur w (hw _ _ W) (by simp;omega) (λv aB=>by rw[List.eq_of_mem_replicate aB];rfl)
 have aB:∀w,(zeroValue 3).run aH w=.ok (.int .i64 0) w:=λ_=>by kernel_rfl
 have aaI:(wv (cJ .i64 0).cells n).toList=gu n (.int .i64 0):=by simp[wv,Value.cells];apply acB;simp;intro i h1 h2;simp[Nat.mod_one]
 obtain⟨m,rfl⟩:∃m,n=m+1:=⟨n-1,by omega⟩
 refine⟨.tuple #[],w',_,by simp[qd,ir ht,aB,aaI,O],⟨[],.nil,rfl,av⟩,k7.aB4 hw W⟩
def WB(ub:H)(fv:ao)(p:o->aD):Prop:=∀x (v:H) (K:aD->H->Prop),ub.le v->K (p x) v->sS aH fv #[.int .i64 x] [.one .bool] v K
def aBv{fv:ao}{p:o->aD}(ag:Ints u s l)(ad:WB ub fv p)(ci:ub.le u)
  (av:∀i:N,i<l.length->(∀k,k<i->p (l.getD k 0)=ax)->p (l.getD i 0)=ak->K i u) (eP:(∀k,k<l.length->p (l.getD k 0)=ax)->K (-1) u):VZ s fv u K:=by
 have ae:=ag.len
 have hm:=ag.max
 apply aEO
 refine⟨λ_ i v=>v=u/\0<=i/\i<=l.length/\∀k:N,k<i.toNat->p (l.getD k 0)=ax,λ_ i _=>l.length-i.toNat,⟨rfl,by omega,by omega,λk hk=>by simp at hk⟩,?_⟩
 rintro _ i v ⟨rfl,i0,i1,hk⟩
 refine⟨λeU=>?_,λfO=>eP λk dJ=>hk k (by omega)⟩
 obtain⟨q,aL,I⟩:=ag.at i0 eU
 refine⟨q,aL,⟨i0,eU⟩,_,I,ad _ _ _ ci ⟨λaa=>?_,λaa=>⟨⟨by omega,by omega⟩,⟨rfl,by omega,by omega,λk dJ=>?_⟩,by dsimp only;omega⟩⟩⟩
 have:=av i.toNat (by omega) hk aa
 rw[show((i.toNat:N):o)=i by omega] at this
 exact this
 by_cases e:k=i.toNat
 rw[e];exact aa
 exact hk k (by omega)
def aBw{x:o}(ag:Ints u s l)(av:∀i:o,(0<=i↔x∈l)->K i u):V0 s x u K:=by
 have ae:=ag.len;have hm:=ag.max;apply aEQ;refine⟨λ_ i v=>v=u/\0<=i/\i<=l.length/\∀k:N,k<i.toNat->l.getD k 0≠x,λ_ i _=>l.length-i.toNat,⟨rfl,by omega,by omega,λk hk=>by simp at hk⟩,?_⟩;rintro _ i v ⟨rfl,i0,i1,hk⟩;refine⟨λeU=>?_,λfO=>av _ ⟨λh=>by omega,λh=>?_⟩⟩;obtain⟨q,aL,I⟩:=ag.at i0 eU;have J:l[i.toNat]?=some (l.getD i.toNat 0):=by
  have:i.toNat<l.length:=by omega
  simp[this]
 refine⟨q,aL,⟨i0,eU⟩,_,I,⟨λaa=>av i ⟨λ_=>by rw[aa];exact dB J,λ_=>i0⟩,λaa=>⟨⟨by omega,by omega⟩,⟨rfl,by omega,by omega,λk dJ=>?_⟩,by dsimp only;omega⟩⟩⟩;by_cases e:k=i.toNat;rw[e];exact λh=>aa h.symm;exact hk k (by omega);exfalso;obtain⟨k,ju,rfl⟩:=sE.1 h;exact hk k (by omega) (by simp[ju])
def aBr{x:o}{K:aD->H->Prop}(ag:Ints u s l)(av:K (decide (x∈l)) u):VV s x u K:=by apply aEJ;refine aBw ag λi hi=>?_;have:decide (0<=i)=decide (x∈l):=DX.2 hi;rw[<-this] at av;exact av
def _root_.Go.Proofs.YtejdhbfjjgcljaaGreatDoor.aK.clear{e:N}(h:aK aj u e 1 s (l.flatMap encI)){i:N}(hi:i<=s.n){fB:dF}{K:H->Prop}
  (av:∀(u':H) (bE:M o),aK aj u' e 1 s (bE.flatMap encI)->bE.take i=l.take i->bE.length=l.length->gS u u' s->K u'):c9 aH (qd #[30] fB #[.slice (s.part i s.n s.c 1).a (s.part i s.n s.c 1).n (s.part i s.n s.c 1).c]) [] u K:=by
 have dM:=h.ints.len
 rcases h.own.is with h0|⟨g,cur,ay,W,ae,I,ag,ht⟩
 subst h0
 have ap:l=[]:=kS dM.symm
 subst ap
 have MO:i=0:=by simpa using hi
 subst MO
 refine c9.pure [] (λw hw=>?_) .nil (av u [] h rfl rfl (gS.refl _ _))
 obtain⟨ht,_⟩:=vE o4
 simp[U.part,qd,ir ht]
 rfl
 rcases ab2 hi with rfl|bw
 have e:(s.part s.n s.n s.c 1).n=0:=by simp[U.part]
 refine c9.pure [] (λw hw=>?_) .nil (av u l h rfl rfl (gS.refl _ _))
 obtain⟨ht,_⟩:=vE o4
 rw[e]
 cases(s.part s.n s.n s.c 1).a<;>simp[qd,ir ht]<;>rfl
 have zh:(s.part i s.n s.c 1).a=some ⟨g,i,none⟩:=by unfold U.part;simp only;rw[aG (by omega),ay];simp[iP]
 rw[zh]
 have ZF:(s.part i s.n s.c 1).n=s.n-i:=rfl
 rw[ZF]
 have c0:i+(s.n-i)<=cur.size:=by rw[ag];omega
 refine aAe W c0 ?_
 have Ds:=KL cur i (gu (s.n-i) (.int .i64 0)) (by simpa using c0)
 simp only[T5] at Ds
 refine av _ (l.take i++gu (s.n-i) 0) ⟨⟨by rw[og od];simp;omega,.inr ⟨g,_,ay,bi _ _ _,ae,I,?_,?_⟩⟩,λb z aa=>?_,h.fresh⟩ ?_ ?_ ?_
 rw[<-r0,Ds];simp;omega
 rw[Ds,yR,er,List.map_replicate]
 have rK:cur.toList.take s.n=l.map λx=>.int .i64 x:=by rw[<-yR,<-ht,wu]
 have h1:cur.toList.take i=(l.take i).map λx=>.int .i64 x:=by rw[Kc,<-rK,GN,BR (by omega)]
 rw[h1,OW (by simp;omega),gY (by simp;omega)]
 have:b≠g:=λe=>by have:=h.fresh g (by simp[U.al,ay]);rw[e,this] at aa;cases aa
 rw[bq _ _ this];exact h.le b z aa
 rw[OW (by simp;omega),GN,T2]
 simp;omega
 intro b z aa an
 rw[bq _ _ (λe=>an (by simp[U.al,ay,e]))];exact aa
def aBs{fv:ao}{p:o->aD}{K:U->H->Prop}(ab:aK aj u 3 1 s (l.flatMap encI))(ad:WB ub fv p)(ci:ub.le u)(kq:∀b,s.al=some b->ub b=none)
  (av:∀au u',aK aj u' 3 1 au ((l.filter λx=>!p x).flatMap encI)->au.al=s.al->gS u u' s->K au u'):VW s fv u K:=by
 have dM:=ab.ints.len
 have xA:=ab.ints.max
 apply aEK
 refine aBv ab.ints ad ci (λi hi eg ky=>⟨λh=>by omega,λ_=>⟨⟨by omega,by omega⟩,?_⟩⟩) λeg=>⟨λ_=>?_,λh=>aV rfl h⟩
 have Yt:(l.take i).filter (λx=>!p x)=l.take i:=by rw[r6];intro a ay;obtain⟨k,hk,rfl⟩:=sE.1 ay;simp only[gq] at hk;have:=eg k (by omega);rw[dm,cy (by omega)] at this;simp only[DR,JR] at this ⊢;rw[this];rfl
 have J:l[i]?=some (l.getD i 0):=by simp[hi]
 refine⟨λa j v=>0<=a/\a<j/\j<=l.length/\gS u v s/\∃m:M o,m.length=l.length/\aK aj v 3 1 s (m.flatMap encI)/\m.take a.toNat=(l.take j.toNat).filter (λx=>!p x)/\m.drop j.toNat=l.drop j.toNat,
  λ_ j _=>l.length-j.toNat,⟨by omega,by omega,by omega,gS.refl _ _,l,rfl,ab,?_,rfl⟩,?_⟩
 rw[show((i:o)+1).toNat=i+1 by omega,zR,gJ,J]
 simp only[T7,zS,Yt,DV,ky]
 simp
 rintro a j v ⟨a0,cB,axm,eL,m,mT,oS,uM,MA⟩
 have aao:ub.le v:=λb z aa=>eL b z (ci b z aa) λe=>by rw[kq b e] at aa;cases aa
 refine⟨λkM=>?_,λfO=>?_⟩
 obtain⟨q,aL,I⟩:=oS.ints.at (x:=j) (by omega) kM
 have Ss:m.getD j.toNat 0=l.getD j.toNat 0:=by have:=eB (λY=>Y[0]?) MA;simp only[u5,T8] at this;rw[dm,dm,this]
 have MY:l[j.toNat]?=some (l.getD j.toNat 0):=by
  have:j.toNat<l.length:=by omega
  simp[this]
 rw[Ss] at I
 have Bi:(l.take (j.toNat+1)).filter (λx=>!p x)=m.take a.toNat++(if p (l.getD j.toNat 0)=ak then[] else[l.getD j.toNat 0]):=by rw[gJ,MY,uM];simp only[T7,zS,DV,List.filter_nil];cases p (l.getD j.toNat 0)<;>simp
 have MB:∀qU:M o,(∀k,a.toNat<k->qU[k]?=m[k]?)->qU.drop (j+1).toNat=l.drop (j+1).toNat:=λqU oQ=>by
  have e:l.drop (j+1).toNat=m.drop (j+1).toNat:=by rw[show(j+1).toNat=j.toNat+1 by omega,<-BQ,<-BQ,MA]
  rw[e];apply sB;intro k;rw[u5,u5,oQ _ (by omega)]
 refine⟨q,aL,⟨by omega,kM⟩,_,I,ad _ _ _ aao ⟨λaa=>?_,λaa=>?_⟩⟩
 have ZD:p (l.getD j.toNat 0)=ax:=by simpa using aa
 rw[ZD] at Bi
 refine⟨q,aL,⟨by omega,by omega⟩,?_⟩
 refine aK.store (enc:=encI) od oS (by decide) (i:=a.toNat) (by omega) (y:=l.getD j.toNat 0) (Rn _) aL λcQ dP jk _=>⟨⟨by omega,by omega⟩,⟨by omega,by omega⟩,⟨by omega,by omega,by omega,λb z aa an=>jk b z (eL b z aa an) an,_,by simpa using mT,dP,?_,?_⟩,by dsimp only;omega⟩
 rw[show(j+1).toNat=j.toNat+1 by omega,Bi,show(a+1).toNat=a.toNat+1 by omega,gJ,zT (by omega),List.take_set_of_le (cC _)]
 simp
 exact MB _ λk hk=>va (by omega)
 rw[aa] at Bi
 refine⟨⟨by omega,by omega⟩,⟨by omega,by omega,by omega,eL,m,mT,oS,?_,MB m λ_ _=>rfl⟩,by dsimp only;omega⟩
 rw[show(j+1).toNat=j.toNat+1 by omega,Bi];simp
 have kM:j.toNat=l.length:=by have:¬j<(s.n:o):=fO;omega
 have iH:=bz.cap oS.own.cI
 rw[kM,oE] at uM
 refine o3 (P:=aH) o4 (l:=a.toNat) (h:=s.n) (m:=s.c) (.inr (by rw[wz a0])) (.inl ⟨rfl,rfl⟩) (.inl ⟨rfl,rfl⟩) (by omega) iH (cC _) iH ?_
 refine oS.clear (i:=a.toNat) (by omega) λcQ m2 dP h1 h2 jk=>?_
 refine o3 (P:=aH) o4 (l:=0) (h:=a.toNat) (m:=s.c) (.inl ⟨rfl,rfl⟩) (.inr (by rw[wz a0])) (.inl ⟨rfl,rfl⟩) (by omega) (by omega) (cC _) iH ?_
 obtain⟨ac,AX,_⟩:=dP.front (m:=a.toNat) (by omega)
 have e:(m2.flatMap encI).take (a.toNat*1)=(l.filter λx=>!p x).flatMap encI:=by rw[yT od,h1,uM]
 rw[e] at ac
 exact av _ _ ac AX λb z aa an=>jk b z (eL b z aa an) an
 have e:l.filter (λx=>!p x)=l:=by rw[r6];intro a ay;obtain⟨k,hk,rfl⟩:=sE.1 ay;have:=eg k hk;rw[dm,cy hk] at this;simp only[JR] at this;rw[this];rfl
 exact av s u (by rw[e];exact ab) rfl (gS.refl _ _)
end
section
open Go.Sort Go.Shelf
def aBa{u:H}{b n0 n6 p:N}{T:aS}{q:M o}{sv:U}{x y:o}{K:o->H->Prop}(h:tW u b T)(W:qz T.aq T.g)(J:x∈T.g.map (·.1))(ai:y∈T.g.map (·.1))(aL:sW u T.aq sv q)
  (bM:u.cell? ⟨n0,0,none⟩=some (.pointer (some ⟨b,0,none⟩))) (Lr:u.cell? ⟨n6,0,none⟩=some (.pointer (some ⟨p,0,none⟩))) (afM:u.cell? ⟨p,0,none⟩=some (.slice sv.a sv.n sv.c))
  (av:K (if bw (cU T.g q x) (cU T.g q y)=ak then -1 else 1) u):aeo x y ⟨n0,0,none⟩ ⟨n6,0,none⟩ u K:=by
 apply aDP
 refine⟨_,bM,_,Lr,_,rfl,sv,afM,_,bM,_,Lr,_,rfl,sv,afM,ada h W J aL ⟨H.le.refl u,ada h W ai aL (KA (a:=cU T.g q x) (b:=cU T.g q y) ⟨λaa=>?_,λaa=>?_⟩)⟩⟩
 rw[a1 aa] at av;exact av
 rw[aG (by rw[aa];simp)] at av;exact av
structure Wv(b9 lv:o)(l:M o)(x:o)(bE:M o):Prop where
 sub:∀y∈bE,y∈l∨y=x
 nodup:(l++ [x]).Nodup->bE.Nodup
 len:(bE.length:o)<=wk b9 lv
def abu{b9 lv:o}(h:1<=b9/\b9<=16):1<=wk b9 lv/\wk b9 lv<=32:=by unfold wk;split<;>omega
def auR(g:M (o×du))(q:M o)(ids:M o):SWO (ltOf λx y:{i//i∈ids}=>if bw (cU g q x.1) (cU g q y.1)=ak then(-1:o) else 1) where
 irrefl x:=by unfold ltOf;simp[IN]
 trans x y Y h1 h2:=by
  unfold ltOf at*;simp only[JP] at*;have cq:bw (cU g q x.1) (cU g q y.1)=ak:=by revert h1;split;intro _;assumption;intro h;omega
  have cH:bw (cU g q y.1) (cU g q Y.1)=ak:=by revert h2;split;intro _;assumption;intro h;omega
  rw[a1 (M6 cq cH)];decide
 ntrans x y Y h1 h2:=by
  unfold ltOf at*;simp only[GU] at*;have cq:bw (cU g q x.1) (cU g q y.1)=ax:=by revert h1;split;intro h;exact aV (by decide) h;intro _;simp_all
  have cH:bw (cU g q y.1) (cU g q Y.1)=ax:=by revert h2;split;intro h;exact aV (by decide) h;intro _;simp_all
  rw[aG (by rw[FC cH cq];simp)];decide
def _root_.Go.Proofs.YtejdhbfjjgcljaaGreatDoor.H.Ck(u:H)(s:U):H:=λc=>open Classical in if s.al=some c then none else u c
def _root_.Go.Proofs.YtejdhbfjjgcljaaGreatDoor.H.aF9(u:H)(s:U):(u.Ck s).le u:=λc z h=>by unfold H.Ck at h;split at h;cases h;exact h
def _root_.Go.Proofs.YtejdhbfjjgcljaaGreatDoor.H.ad5{u:H}{s:U}{c:N}(h:s.al≠some c):u.Ck s c=u c:=aG h
def amF{aj u:H}{af:N->aA bx}{b:N}{T:aS}{a x lv:o}{n:du}{l:M o}{K:H->Prop}(h:In aj u af b T)(W:qz T.aq T.g)(ap:1<=T.b9/\T.b9<=16)
  (ae:eS T.g a=some n) (J:x∈T.g.map (·.1)) (iy:0<=lv) (ej:lv<31) (j0:n.kn[lv.toNat]?=some l) (Dd:l.length<=1000000)
  (av:∀u' aY au bE,In aj u' aY b {T with g:=q7 T.g a (n.jT lv.toNat au bE)}->gL u af u' aY->Wv T.b9 lv l x bE->K u'):Qn (some ⟨b,0,none⟩) a x lv u K:=by
 have ay:a∈T.g.map (·.1):=bk.2 ⟨_,iG ae,rfl⟩
 have eP:=h.aJ.node ae
 obtain⟨s,eV,dZ,dQ,I,ab,xI⟩:=xQ eP (lv:=lv.toNat) (by omega)
 rw[j0] at dQ;cases dQ
 have aHk:=abu (lv:=lv) ap
 apply aDO
 intro n0 e1
 have oy:=bZ (u:=u) (b:=n0) (.cells #[.pointer (some ⟨b,0,none⟩)] 122 (0,0)) e1
 obtain⟨_,_,_,fc,_⟩:=kU (h.aJ.mono oy)
 refine⟨_,a8 (bi _ _ _) 0,_,rfl,_,fc,vl (h.aJ.mono oy) ay λnd b3 _=>?_⟩
 rw[ae] at b3;cases b3
 intro n6 qK
 have avt:u n6=none:=oy.none qK
 have avl:n0≠n6:=λe=>by rw[<-e,bi] at qK;cases qK
 refine nh (zs:=[.pointer none]) rfl (by simp[cK]) ?_
 obtain⟨jh,sr⟩:∃jh,(u.ins n0 (.cells #[.pointer (some ⟨b,0,none⟩)] 122 (0,0))).ins n6 (.cells [.pointer (some ⟨n.p,0,none⟩)].toArray 227 (0,0))=jh:=⟨_,rfl⟩
 rw[sr]
 have Gk:u.le jh:=by rw[<-sr];exact oy.trans (bZ _ qK)
 have fA:jh n0=some (.cells #[.pointer (some ⟨b,0,none⟩)] 122 (0,0)):=by rw[<-sr,bq _ _ avl,bi]
 have pR:jh n6=some (.cells #[.pointer (some ⟨n.p,0,none⟩)] 227 (0,0)):=by rw[<-sr,bi]
 refine⟨_,a8 pR 0,_,rfl,by decide,⟨iy,ej⟩,s,qE Gk I,?_⟩
 have sq:=ab.ints.len
 have dY:∀c,s.al=some c->af c≠none:=λc e=>by rw[xI c e];simp
 have Z4:s.al≠some n0:=λe=>h.known n0 (dY _ e) e1
 have Z5:s.al≠some n6:=λe=>h.known n6 (dY _ e) avt
 refine nV o4 (Aw x) (by decide) rfl (by simp[cK]) (ab.mono Gk) (by omega) (by omega) λla lc Np aHl AU ahx iU=>?_
 have IA:l.flatMap encI++ [.int .i64 x]=(l++ [x]).flatMap encI:=by simp[encI]
 rw[IA] at Np
 have Oi:∀c z,u c=some z->s.al≠some c->lc c=some z:=λc z h1 h2=>AU c z (Gk c z h1) h2
 have afp:∀c,la.al=some c->s.al=some c∨u c=none:=λc e=>(ahx c e).imp id λh1=>Gk.none h1
 have aby:∀c,af c≠none->(∀i lv,af c≠some (.arr i lv))->s.al≠some c:=λc _ h2 e=>h2 _ _ (xI c e)
 have acF:tW lc b T:=h.aJ.Uj λc z h1 h2 h3=>Oi c z h1 (aby c h2 h3)
 have WT:lc n0=some (.cells #[.pointer (some ⟨b,0,none⟩)] 122 (0,0)):=AU _ _ fA Z4
 have WV:lc n6=some (.cells #[.pointer (some ⟨n.p,0,none⟩)] 227 (0,0)):=AU _ _ pR Z5
 intro Eu XX
 have join:∀(dx:U) (hb:H) (bE:M o),aK Cw hb 3 1 dx (bE.flatMap encI)->Wv T.b9 lv l x bE->(∀c z,u c=some z->s.al≠some c->hb c=some z)->(∀c,dx.al=some c->s.al=some c∨u c=none)->
   hb n6=some (.cells #[.pointer (some ⟨n.p,0,none⟩)] 227 (0,0))->Eu dx hb:=by
  intro dx hb bE h1 h2 h3 a7 bO
  refine XX _ _ ⟨_,a8 bO 0,_,rfl,by decide,⟨iy,ej⟩,?_⟩
  unfold aR
  rw[JE]
  have uL:s.al≠some n.p:=λe=>by have:=xI _ e;rw[eP.tag] at this;cases this
  refine adu (h3 _ _ eP.cell uL) eP.uS (by omega) bE ?_
  obtain⟨aY,e7,mP⟩:=h.level ae dZ h1 h3 a7
  exact av _ _ _ _ e7 mP h2
 have aHb:la.n=l.length+1:=by have:=Np.ints.len;simpa using this
 have aHx:sW lc T.aq n.sv n.v:=⟨(acF.nodes _ (iG ae)).2,(W.vec _ (iG ae)).2,(W.vec _ (iG ae)).1⟩
 have aGG:lc.cell? ⟨n.p,0,none⟩=some (.slice n.sv.a n.sv.n n.sv.c):=by have:=(acF.nodes _ (iG ae)).1;simp only at this;simp[H.cell?,this,jP]
 refine⟨_,a8 WT 0,amG acF ap ⟨λZd=>?_,λfO=>?_⟩⟩
 have au1:∀y∈l++ [x],y∈T.g.map (·.1):=λy ai=>by rcases cM.1 ai with ai|ai;exact W.ck lv.toNat a ay y (by rw[abA ae j0];exact ai);simp at ai;rw[ai];exact J
 obtain⟨L,c6⟩:∃L:M {i//i∈T.g.map (·.1)},L.map (·.1)=l++ [x]:=⟨(l++ [x]).attachWith _ au1,by simp⟩
 haveI:lM {i//i∈T.g.map (·.1)}:=⟨⟨x,J⟩⟩
 have ov:∀{c:N},s.al≠some c->(jh c≠none)->la.al≠some c:=λh1 h2 e=>(ahx _ e).elim h1 h2
 have acG:tW (lc.Ck la) b T:=h.aJ.Uj λc z h1 h2 h3=>by have a7:=aby c h2 h3;rw[H.ad5 (ov a7 (by rw[Gk c z h1];simp))];exact Oi c z h1 a7
 have d0:(lc.Ck la) n0=some (.cells #[.pointer (some ⟨b,0,none⟩)] 122 (0,0)):=by rw[H.ad5 (ov Z4 (by rw[fA];simp))];exact WT
 have d6:(lc.Ck la) n6=some (.cells #[.pointer (some ⟨n.p,0,none⟩)] 227 (0,0)):=by rw[H.ad5 (ov Z5 (by rw[pR];simp))];exact WV
 have av3:sW (lc.Ck la) T.aq n.sv n.v:=⟨(acG.nodes _ (iG ae)).2,(W.vec _ (iG ae)).2,(W.vec _ (iG ae)).1⟩
 have aqL:(lc.Ck la).cell? ⟨n.p,0,none⟩=some (.slice n.sv.a n.sv.n n.sv.c):=by have:=(acG.nodes _ (iG ae)).1;simp only at this;simp[H.cell?,this,jP]
 rw[<-c6] at Np
 refine aBx (val:=λi:{i//i∈T.g.map (·.1)}=>i.1) (auR T.g n.v (T.g.map (·.1))) (enters_of func176 (by kernel_rfl) rfl) (ub:=lc.Ck la)
  (λy Y v aB=>?_) (H.aF9 _ _) (λc I=>a1 I) Np ?_ λmB L' jx _ nG Sc=>?_
 exact aBa (K:=λfC cQ=>fC=(if bw (cU T.g n.v y.1) (cU T.g n.v Y.1)=ak then -1 else 1)/\cQ=v) (acG.mono aB) W y.2 Y.2 (av3.mono aB) (qE aB (a8 d0 0)) (qE aB (a8 d6 0)) (qE aB aqL) ⟨rfl,rfl⟩
 have:=eB iC c6
 simp at this;omega
 have azF:tW mB b T:=h.aJ.Uj λc z h1 h2 h3=>by have a7:=aby c h2 h3;exact Sc c z (Oi c z h1 a7) (ov a7 (by rw[Gk c z h1];simp))
 have aqk:=Sc _ _ WT (ov Z4 (by rw[fA];simp))
 have aqq:=Sc _ _ WV (ov Z5 (by rw[pR];simp))
 have iH:=bz.cap nG.own.cI
 refine⟨_,a8 aqk 0,amG azF ap ?_⟩
 refine o3 (P:=aH) o4 (l:=0) (h:=(wk T.b9 lv).toNat) (m:=la.c) (.inl ⟨rfl,rfl⟩) (.inr (by rw[wz (by omega)])) (.inl ⟨rfl,rfl⟩) (by omega) (by omega) (cC _) iH ?_
 obtain⟨ac,AX,_⟩:=nG.front (m:=(wk T.b9 lv).toNat) (by omega)
 rw[yT od] at ac
 refine join _ _ _ ac ⟨λy ai=>?_,λb3=>?_,?_⟩ (λc z h1 h2=>Sc c z (Oi c z h1 h2) (ov h2 (by rw[Gk c z h1];simp))) (λc e=>afp c (by rw[<-AX];exact e)) aqq
 have aaC:=mx ai
 have:=((jx.map (·.1)).mem_iff (a:=y)).1 aaC
 rw[c6] at this
 simpa using this
 rw[<-c6] at b3
 exact((jx.map (·.1)).nodup_iff.2 b3).sublist (r3 _ _)
 simp;omega
 refine join la lc (l++ [x]) Np ⟨λy ai=>by simpa using ai,λh=>h,?_⟩ Oi afp WV
 simp;omega
end
section
variable{u aj u':H}{g b2:M (o×du)}{b c n0:N}{l:M (o×ao)}{n:du}{i a:o}{D bE:M o}{K:U->H->Prop}
def fg(g:M (o×du)):M (o×M o):=g.map λx=>(x.1,x.2.v)
structure Alike(g b2:M (o×du)):Prop where
 ids:b2.map (·.1)=g.map (·.1)
 at':∀i n,eS g i=some n->∃n',eS b2 i=some n'/\n'.p=n.p/\n'.v=n.v/\n'.top=n.top
def Alike.refl(g:M (o×du)):Alike g g:=⟨rfl,λ_ n h=>⟨n,h,rfl,rfl,rfl⟩⟩
def Alike.trans{agD:M (o×du)}(h:Alike g b2)(k:Alike b2 agD):Alike g agD:=
 ⟨k.ids.trans h.ids,λi n ae=>by obtain⟨n',h1,h2,h3,a7⟩:=h.at' i n ae;obtain⟨ayb,cq,cH,kP,aaU⟩:=k.at' i n' h1;exact⟨ayb,cq,cH.trans h2,kP.trans h3,aaU.trans a7⟩⟩
def Alike.jT(ae:eS g a=some n)(lv:N)(s:U)(l:M o):Alike g (q7 g a (n.jT lv s l)):=
 ⟨aAn _ _ _,λi m hm=>by rw[L2];by_cases e:i=a;subst e;rw[a1 rfl,hm];rw[ae] at hm;cases hm;exact⟨_,rfl,rfl,rfl,rfl⟩;rw[aG e];exact⟨m,hm,rfl,rfl,rfl⟩⟩
def Alike.map{β:Type}(h:Alike g b2)(b3:(g.map (·.1)).Nodup)(f:o×du->β)(ac:∀i n n',n'.p=n.p->n'.v=n.v->n'.top=n.top->f (i,n')=f (i,n)):b2.map f=g.map f:=by
 have hlen:b2.length=g.length:=by have:=eB iC h.ids;simpa using this
 apply acB (by simp[hlen]);intro k h1 h2;simp only[dj] at h1 h2;simp only[DW];have cm:(b2[k]).1=(g[k]).1:=by have:=eB (λl=>l[k]?) h.ids;simpa[h1,h2] using this
 have W:=AI b3 (id:=(g[k]).1) (n:=(g[k]).2) (kD h2);obtain⟨n',aQ,aF,cW,fJ⟩:=h.at' _ _ W;have xB:(b2.map (·.1)).Nodup:=by rw[h.ids];exact b3
 have ca:=AI xB (id:=(b2[k]).1) (n:=(b2[k]).2) (kD h1);rw[cm,aQ] at ca;have gA:(b2[k]).2=n':=(cX ca).symm;have mc:b2[k]=((g[k]).1,n'):=by rw[<-cm,<-gA]
 rw[mc];exact ac _ _ _ aF cW fJ
def Alike.rows(h:Alike g b2)(b3:(g.map (·.1)).Nodup):fg b2=fg g:=h.map b3 _ λ_ _ _ _ h2 _=>by rw[h2]
def Alike.jA(h:Alike g b2)(b3:(g.map (·.1)).Nodup):jA b2=jA g:=h.map b3 _ λ_ _ _ h1 _ _=>by rw[h1]
structure qA(aq b9:o)(g:M (o×du)):Prop where
 ok:qz aq g
 many:∀i n (lv:N) l,eS g i=some n->n.kn[lv]?=some l->(l.length:o)<=wk b9 lv/\l.Nodup/\i∉l
def qz.alike{aq:o}(h:qz aq g)(ay:Alike g b2)(b3:(g.map (·.1)).Nodup)(hk:∀i n l,eS b2 i=some n->l∈n.kn->∀x∈l,x∈g.map (·.1)):qz aq b2:=by
 have xB:(b2.map (·.1)).Nodup:=by rw[ay.ids];exact b3
 have mY:∀x∈b2,∃n,eS g x.1=some n/\x.2.v=n.v/\x.2.top=n.top:=λx J=>by
  have cm:x.1∈g.map (·.1):=by rw[<-ay.ids];exact bk.2 ⟨x,J,rfl⟩
  obtain⟨n,ae⟩:=yU cm;obtain⟨n',aQ,_,cW,fJ⟩:=ay.at' _ _ ae;have:=AI xB (id:=x.1) (n:=x.2) J;rw[aQ] at this;cases this;exact⟨n,ae,cW,fJ⟩
 refine⟨h.hB,λx J=>?_,λx J=>?_,λx J l ap i hi=>?_,λx J=>?_,?_⟩;obtain⟨n,ae,aQ,_⟩:=mY x J;have:=h.vec _ (iG ae);rw[aQ];exact this;obtain⟨n,ae,_,aF⟩:=mY x J;have:=h.top _ (iG ae);rw[aF];exact this;rw[ay.ids];exact hk x.1 x.2 l (AI xB J) ap i hi;obtain⟨n,ae,_⟩:=mY x J;exact h.ids (x.1,n) (iG ae);have:=eB iC ay.ids;simp only[dj] at this;rw[this];exact h.small
def Px{lv:N}{s:U}{l eV:M o}{wi:N}(h:(n.jT lv s l).kn[wi]?=some eV):(wi=lv/\eV=l)∨(wi≠lv/\n.kn[wi]?=some eV):=by unfold du.jT at h;simp only at h;by_cases e:wi=lv;subst e;rw[zK] at h;simp only[qX] at h;split at h;cases h;exact .inl ⟨rfl,rfl⟩;cases h;rw[va (dG e)] at h;exact .inr ⟨e,h⟩
def qA.jT{aq b9:o}(h:qA aq b9 g)(b3:(g.map (·.1)).Nodup)(ae:eS g a=some n){lv:N}(s:U)(h1:∀x∈bE,x∈g.map (·.1))(h2:(bE.length:o)<=wk b9 lv)(h3:bE.Nodup)(a7:a∉bE):
  qA aq b9 (q7 g a (n.jT lv s bE)):=by
 have sl:∀i m,eS (q7 g a (n.jT lv s bE)) i=some m->(i=a/\m=n.jT lv s bE)∨(i≠a/\eS g i=some m):=λi m hm=>by rw[L2] at hm;by_cases e:i=a;subst e;rw[a1 rfl,ae] at hm;cases hm;exact .inl ⟨rfl,rfl⟩;rw[aG e] at hm;exact .inr ⟨e,hm⟩
 refine⟨h.ok.alike (Alike.jT ae lv s bE) b3 λi m l hm ap x J=>?_,λi m wi l hm ap=>?_⟩
 rcases sl i m hm with⟨rfl,rfl⟩|⟨_,hm⟩
 obtain⟨k,hk⟩:=Ue.1 ap
 rcases Px hk with⟨_,rfl⟩|⟨_,hk⟩
 exact h1 x J
 exact h.ok.known _ (iG ae) l (dB hk) x J
 exact h.ok.known _ (iG hm) l ap x J
 rcases sl i m hm with⟨rfl,rfl⟩|⟨_,hm⟩
 rcases Px ap with⟨rfl,rfl⟩|⟨_,hk⟩
 exact⟨h2,h3,a7⟩
 exact h.many _ _ _ _ ae hk
 exact h.many _ _ _ _ hm ap
def qA.akb{aq b9:o}(h:qA aq b9 g)(b3:(g.map (·.1)).Nodup){x lv:o}(ae:eS g a=some n)(iy:0<=lv)(s:U){l:M o}(ap:n.kn[lv.toNat]?=some l)(hk:Wv b9 lv l x bE)
  (J:x∈g.map (·.1)) (Dt:x≠a) (fh:x∉l):qA aq b9 (q7 g a (n.jT lv.toNat s bE)):=by
 obtain⟨m1,m2,m3⟩:=h.many a n _ l ae ap
 refine h.jT b3 ae s (λy ai=>?_) (by rw[wz iy];exact hk.len) (hk.nodup ?_) λhm=>?_
 rcases hk.sub y ai with ai|rfl
 exact h.ok.known _ (iG ae) l (dB ap) y ai
 exact J
 refine fZ.2 ⟨m2,by simp,λc I d ar=>?_⟩
 simp at ar;subst ar;exact λe=>fh (e▸I)
 rcases hk.sub a hm with bO|bO
 exact m3 bO
 exact Dt bO.symm
structure dU(T:aS):Prop where
 k:qA T.aq T.b9 T.g
 b9:1<=T.b9/\T.b9<=16
 entry:(T.g=[]/\T.entry=0)∨T.entry∈T.g.map (·.1)
def In.same{af:N->aA bx}{T:aS}(h:In aj u af b T)(hu:∀c z,u c=some z->af c≠none->u' c=some z)(hle:aj.le u'):In aj u' af b T:=
 ⟨h.aJ.bS (λ_ _=>rfl) hu,hle,h.out,λc I=>by obtain⟨z,ab⟩:=fj.1 (h.known c I);rw[hu c z ab I];simp⟩
def In.aside{af:N->aA bx}{T:aS}(h:In aj u af b T)(ac:af c=none)(h0:aj c=none)(z:Obj):In aj (u.ins c z) af b T:=
 h.same (λx y J Fi=>by rw[bq _ _ (λe=>by rw[e] at Fi;exact Fi ac)];exact J) λx y J=>by rw[bq _ _ (λe=>by rw[e,h0] at J;cases J)];exact h.le x y J
def In.fresh{af:N->aA bx}{T:aS}(h:In aj u af b T)(I:u c=none):af c=none:=by
 cases e:af c with
 |none=>rfl|some t=>exact aV I (h.known c (by rw[e];simp))
def gL.none{af aY:N->aA bx}(h:gL u af u' aY){z:Obj}(I:u c=some z)(ac:af c=none):aY c=none:=by
 cases e:aY c with
 |none=>rfl|some t=>rcases h.grow c (by rw[e];simp) with h1|h1;exact aV ac h1;rw[I] at h1;cases h1
abbrev Pu:jg:=Kl (Tryz.f304.body.getD Go.Code.skip)
def aAk:Pu=.rangeFunc (.tmp 6) #[7] (zU Pu) (zV Pu):=by kernel_rfl
def CO(x:o):ao:=.int .i64 x
def aAl(n0:N)(y:o)(v:H)(cY:H->Prop)(env:M (N×ao))(he:(2,hn (some ⟨n0,0,none⟩))∈env)
  (h:sF=sF/\([]:M (M ao))=[]/\∃s:U,v.cell? ⟨n0,0,none⟩=some (.slice s.a s.n s.c)/\
     c9 aH (dI 30 1 #[(0,.int .i64 y)]) [.one .slice] v λ(s1:U) j5=>
      c9 aH (ee #[30,30] 30 #[.slice s.a s.n s.c,.slice s1.a s1.n s1.c]) [.one .slice] j5 λ(s2:U) nX=>
       H.aO nX ⟨n0,0,none⟩ [.slice s2.a s2.n s2.c] λgj=>sF=sF/\cY gj):
  CC aH 13 (zU Pu) (zV Pu) env 7 (CO y) v cY:=
 CC.of (C:={P:=aH,exp:=[2],wrap:=ax,iv:=iv}) (oh _ _) (by kernel_rfl) (by kernel_rfl) [(7,.v (CO y)),(2,.ptr ⟨n0,0,none⟩)] (by intro p ad;rcases cP.1 ad with rfl|ad;exact⟨_,rfl,.inl ⟨rfl,rfl⟩⟩;rcases cP.1 ad with rfl|ad;exact⟨_,rfl,.inr ⟨show(2:N)≠7 by decide,he⟩⟩;cases ad) (Eq.mp (by kernel_rfl) h)
def HG(l:M (o×ao))(dl:M (o×ao))(x:o)(afX:M (o×ao)):Prop:=∃v,(x,v)∈l/\x∉dl.map (·.1)/\afX=dl++ [(x,v)]
def collected{dl:M (o×ao)}(h:dl.Perm l):dS (dl.map (·.1))=dS (l.map (·.1)):=aAB (h.map _)
def aBp{fv:ao}(ap:l.length<=1000000)(b3:(l.map (·.1)).Nodup)(iK:∀aj,u.le aj->Lb aH fv CO (HG l) [] (λdl=>dl.Perm l) aj)
  (av:∀(s:U) (dl:M (o×ao)) (u':H),dl.Perm l->aK u u' 3 1 s ((dl.map (·.1)).flatMap encI)->K s u'):VT fv u K:=by
 apply aEH
 apply aED
 intro n0 e1
 have hle:=bZ (u:=u) (b:=n0) (.cells #[.slice none 0 0] 30 (0,0)) e1
 refine nw.code aAk (nw.axf (σ:=M (o×ao)) (t:=6) (enc:=CO) (fv:=fv) (Nx:=HG l) (s0:=[]) (En:=λdl=>dl.Perm l) hle WX (by simp) (by decide) iK
  (λdl w=>(dl.map (·.1)).Nodup/\(∀p∈dl,p∈l)/\∃s0:U,w n0=some (.cells #[.slice s0.a s0.n s0.c] 30 (0,0))/\aK u w 3 1 s0 ((dl.map (·.1)).flatMap encI)/\s0.al≠some n0)
  ⟨Kh,λp ad=>(by cases ad),⟨none,0,0⟩,bi _ _ _,aK.nil hle _ _,by simp[U.al]⟩ (λi v ⟨_,_,_,_,ab,_⟩=>ab.le) ?_ ?_)
 rintro dl y afX v ⟨Y,aC,avE,rfl⟩ ⟨pY,y6,s0,AP,jM,Ni⟩
 refine aAl n0 y v _ _ (by simp) ⟨rfl,rfl,s0,a8 AP 0,?_⟩
 have avk:=jM.ints.len
 have y7:dl.length<=l.length:=by
  have h1:(dl.map (·.1)).Nodup:=pY;have h2:∀i∈dl.map (·.1),i∈l.map (·.1):=λi hi=>by obtain⟨p,ad,rfl⟩:=bk.1 hi;exact bk.2 ⟨p,y6 p ad,rfl⟩
  have:=py h1 h2;simpa using this
 simp only[dj] at avk
 refine nV o4 (Aw y) (by decide) rfl (by simp[cK]) jM (by omega) (by omega) λs2 nX dP fK eL eA _=>Hj (eL _ _ AP Ni) rfl ⟨rfl,?_,?_,s2,bi _ _ _,?_,?_⟩
 rw[er]
 refine fZ.2 ⟨pY,by simp,λa ay b aa=>?_⟩
 simp at aa;subst aa;exact λe=>avE (e▸ay)
 intro p ad
 rcases cM.1 ad with ad|ad
 exact y6 p ad
 simp at ad;rw[ad];exact aC
 have zf:s2.al≠some n0:=λe=>by rcases eA n0 e with h|h;exact Ni h;rw[AP] at h;cases h
 have:=dP.xO e1 zf (.cells #[.slice s2.a s2.n s2.c] 30 (0,0))
 rw[er,gZ]
 exact this
 exact λe=>by rcases eA n0 e with h|h;exact Ni h;rw[AP] at h;cases h
 rintro dl v D pZ ⟨pY,y6,s0,AP,jM,Ni⟩ eT
 have xx:=bZ (u:=v) (b:=D) (u9 (some [])) eT
 have j1:=jM.mono xx
 have io:=xx _ _ AP
 refine⟨s0,a8 io 0,bi _ _ _,av _ dl _ pZ ?_⟩
 refine j1.xO (jM.le.none eT) (λe=>?_) _
 have:=dL jM e
 exact this eT
def adl{fv:ao}(ap:l.length<=1000000)(b3:(l.map (·.1)).Nodup)(iK:∀aj,u.le aj->Lb aH fv CO (HG l) [] (λdl=>dl.Perm l) aj)
  (av:∀s u',aK u u' 3 1 s ((dS (l.map (·.1))).flatMap encI)->K s u'):vp fv u K:=by
 apply aES
 refine aBp ap b3 iK λs dl aU ad ab=>?_
 have hlen:=ad.length_eq
 refine He ab (by simp;omega) λcQ dP _=>av _ _ ?_
 rw[collected ad] at dP
 exact dP
def apI:hf aH 302=ak:=by kernel_rfl
def apH:hf aH 303=ak:=by kernel_rfl
structure apb(cY:M (o×ao)->H->Prop)(l:M (o×ao))(r b:N)(dl:M (o×ao))(w:H):Prop where
 ex:∃v0,cY dl v0/\v0 r=none/\v0.le w/\nq w r b l dl
def aaP{w:H}{r:N}{dl:M (o×ao)}(h:nq w r b l dl):dl.length<=l.length:=by
 have h2:∀i∈dl.map (·.1),i∈l.map (·.1):=λi hi=>by obtain⟨p,ad,rfl⟩:=bk.1 hi;exact bk.2 ⟨p,h.sub p ad,rfl⟩
 have:=py h.CL h2;simpa using this
def aa1{P:dT}{v:H}{mE:ao}{t k e:dF}{Y:ao}(T:ns P t k e Y)(h:fz u b l)
  (cY:M (o×ao)->H->Prop) (k0:∀s v,cY s v->u.le v)
  (ai:∀s y au v (K:aD->H->Prop),HG l s y au->cY s v->(∀b6,cY au b6->K ak b6)->Aj P mE #[CO y] [.one .bool] v K) (h0:cY [] v) {K:H->Prop} (av:∀s b6,s.Perm l->cY s b6->K b6):
  c9 P (rY t (.map (some b))) [.one .ptr] v λ(gX:aA bc) (cQ:H)=>∃Wn:H->Prop,∃aeW:H->N,Wn cQ/\∀gj,Wn gj->wZ P (.pointer gX) gj (λtP=>∃js,js.le tP/\K js)
   (λ_ _ pM=>wY P (.pointer gX) pM λv10 _ gK=>sY (.int .i64) v10 λ(aGi:o)=>sS P mE #[.int .i64 aGi] [.one .bool] gK λ(afg:aD) (Cf:H)=>
    ((¬(afg=ak))->∃js,js.le Cf/\K js)/\(afg=ak->Wn Cf/\aeW Cf<aeW gj)):=by
 refine Kt T (h.mono (k0 _ _ h0)) λr z O xt=>?_
 obtain⟨ty,Nt⟩:∃ty,u b=some ty:=by obtain⟨es,c,aa,_⟩:=h;exact⟨_,aa⟩
 let di:N->H->Prop:=λn w=>∃dl,apb cY l r b dl w/\l.length-dl.length<=n
 refine⟨λw=>∃n,di n w,λw=>least λn=>di n w,⟨_,[],⟨v,h0,O,bZ _ O,xt⟩,cC _⟩,?_⟩
 intro w hw
 have cx:=Gl hw
 obtain⟨n,ae⟩:∃n,(least λn=>di n w)=n:=⟨_,rfl⟩
 dsimp only
 rw[ae] at cx ⊢
 obtain⟨dl,⟨v0,aN,ln,hle,iK⟩,hlen⟩:=cx
 refine JC iK (λad=>⟨v0,hle,av _ _ ad aN⟩) λp z ad A8 p3=>?_
 refine H2 p3 ?_
 have k7:∃x,w r=some x:=by obtain⟨es,c,seen,_,_,h3,_⟩:=iK;exact⟨_,h3⟩
 have xx:v0.le (w.ins r z):=λc x I=>by rw[bq _ _ (λe=>by rw[e,ln] at I;cases I)];exact hle c x I
 show sS P mE #[.int .i64 p.1] [.one .bool] (w.ins r z) _
 refine .inr ((ai dl p.1 (dl++ [p]) v0 (λb b6=>b=ak/\cY (dl++ [p]) b6) ⟨p.2,ad,A8,rfl⟩ aN λb6 gE=>⟨rfl,gE⟩).frame xx ?_)
 rintro dp ji w' eZ ⟨rfl,rC⟩
 refine⟨λan=>aV rfl an,λ_=>?_⟩
 obtain⟨av5,dz⟩:=eZ.out r z ln (bi _ _ _)
 have io:∀x,(w.ins r z) b=some x->w' b=some x:=λx J=>by have aQ:=xx b ty (k0 _ _ aN b ty Nt);rw[aQ] at J;cases J;exact eZ.le b ty (k0 _ _ rC b ty Nt)
 have Fv:nq w' r b l (dl++ [p]):=p3.else io λx J=>by rw[bi] at J;cases J;exact dz
 have FA:=aaP Fv
 simp only[eD,r4] at FA
 have eP:di (n-1) w':=⟨dl++ [p],⟨ji,rC,av5,eZ.le,Fv⟩,by simp only[eD,r4];omega⟩
 refine⟨⟨_,eP⟩,?_⟩
 have:=least_le (P:=λn=>di n w') eP
 omega
def axt(T:ns aH 166 3 4 (.bool ax))(h:fz u b l)(I:u.cell? ⟨n0,0,none⟩=some (.map (some b))):
  Lb aH (.func (.func 303) #[] #[.pointer (some ⟨n0,0,none⟩)]) CO (HG l) [] (λdl=>dl.Perm l) u:=by
 intro mE cY k0 ai v K h0 av
 refine⟨_,_,_,rfl,hd apH,hx.weaken (ss:=[]) ?_⟩
 exact aEr mE ⟨n0,0,none⟩ v _ ⟨_,qE (k0 _ _ h0) I,aa1 T h cY k0 ai h0 av⟩
def axu(T:ns aH 182 3 227 (.pointer none))(h:fz u b l)(I:u.cell? ⟨n0,0,none⟩=some (.map (some b))):
  Lb aH (.func (.func 302) #[] #[.pointer (some ⟨n0,0,none⟩)]) CO (HG l) [] (λdl=>dl.Perm l) u:=by
 intro mE cY k0 ai v K h0 av
 refine⟨_,_,_,rfl,hd apI,hx.weaken (ss:=[]) ?_⟩
 exact aEo mE ⟨n0,0,none⟩ v _ ⟨_,qE (k0 _ _ h0) I,aa1 T h cY k0 ai h0 av⟩
def Lo:ns aH 166 3 4 (.bool ax):=⟨by kernel_rfl,by kernel_rfl,λ_=>by kernel_rfl⟩
def EJ(id:o)(l:M o):M o:=l.filter λx=>!decide (x=id)
structure np(id:o)(g b2:M (o×du))(D:M o)(i:o)(j:N):Prop where
 bU:Alike g b2
 kn:∀a n n',eS g a=some n->eS b2 a=some n'->∀(lv:N) bE,n'.kn[lv]?=some bE->∃l,n.kn[lv]?=some l/\bE=if a∈D∨(a=i/\lv<j) then EJ id l else l
def np.refl(id:o)(g:M (o×du))(i:o):np id g g [] i 0:=
 ⟨Alike.refl g,λa n n' h bW lv bE ap=>by rw[h] at bW;cases bW;exact⟨bE,ap,by simp⟩⟩
def np.step{id:o}{j:N}(h:np id g b2 D i j)(hi:i∉D){n':du}(ae:eS b2 i=some n')(ap:n'.kn[j]?=some bE)(s:U):
  np id g (q7 b2 i (n'.jT j s (EJ id bE))) D i (j+1):=by
 refine⟨h.bU.trans (Alike.jT ae j s _),λa n m W hm lv eV ia=>?_⟩
 rw[L2] at hm
 by_cases e:a=i
 subst e
 rw[a1 rfl,ae] at hm;cases hm
 rcases Px ia with⟨rfl,rfl⟩|⟨an,hk⟩
 obtain⟨l,cq,cH⟩:=h.kn a n n' W ae lv bE ap
 refine⟨l,cq,?_⟩
 rw[aG (by rintro(h1|⟨_,h1⟩);exact hi h1;omega)] at cH
 rw[a1 (.inr ⟨rfl,by omega⟩),cH]
 obtain⟨l,cq,cH⟩:=h.kn a n n' W ae lv eV hk
 refine⟨l,cq,?_⟩
 rw[cH]
 by_cases I:lv<j
 rw[a1 (.inr ⟨rfl,I⟩),a1 (.inr ⟨rfl,by omega⟩)]
 rw[aG (by rintro(h1|⟨_,h1⟩);exact hi h1;omega),aG (by rintro(h1|⟨_,h1⟩);exact hi h1;omega)]
 rw[aG e] at hm
 obtain⟨l,cq,cH⟩:=h.kn a n m W hm lv eV ia
 refine⟨l,cq,?_⟩
 rw[cH]
 simp[e]
def np.next{id:o}(h:np id g b2 D i 31)(hlen:∀n',eS b2 i=some n'->n'.kn.length=31)(lp:o):np id g b2 (D++ [i]) lp 0:=
 ⟨h.bU,λa n n' W ca lv bE ap=>by
  obtain⟨l,cq,cH⟩:=h.kn a n n' W ca lv bE ap;refine⟨l,cq,?_⟩;rw[cH];by_cases e:a=i;subst e;have:=hlen n' ca;have h2:lv<31:=by rw[<-this];exact(iB.1 ap).1
  simp[h2];simp[e]⟩
def np.eX{id:o}(h:np id g b2 D i 0)(lp:o):np id g b2 D lp 0:=
 ⟨h.bU,λa n n' W ca lv bE ap=>by obtain⟨l,cq,cH⟩:=h.kn a n n' W ca lv bE ap;exact⟨l,cq,by rw[cH];simp⟩⟩
def RA{id:o}(i:o):eS (g.filter λx=>x.1 !=id) i=if i=id then none else eS g i:=by
 induction g with
 |nil=>simp[eS]|cons x g aM=>
  unfold eS at*;rw[DV];by_cases J:x.1=id;have aQ:(x.1 !=id)=ax:=by simp[J]
  rw[aQ];simp only[DJ,BL];rw[aM];by_cases hi:i=id;rw[a1 hi,a1 hi];rw[aG hi,aG hi,G0,Pb (show x.1≠i from λe=>hi (by rw[<-e];exact J))];have aQ:(x.1 !=id)=ak:=by simp[J]
  rw[aQ];simp only[qX,G0];by_cases hi:x.1=i;subst hi;simp[J];rw[Pb hi];exact aM
def Xx{id:o}:i∈(g.filter λx=>x.1 !=id).map (·.1)↔i∈g.map (·.1)/\i≠id:=by simp only[bk,iX,bne_iff_ne,ne_eq];constructor;rintro⟨x,⟨h1,h2⟩,rfl⟩;exact⟨⟨x,h1,rfl⟩,h2⟩;rintro⟨⟨x,h1,rfl⟩,h2⟩;exact⟨x,⟨h1,h2⟩,rfl⟩
def azf(g:M (o×du))(id:o):(jA g).filter (λp=>p.1 !=id)=jA (g.filter λx=>x.1 !=id):=by unfold jA;rw[sJ];rfl
def np.ok{id aq b9:o}(av:qA aq b9 g)(b3:(g.map (·.1)).Nodup)(h:np id (g.filter λx=>x.1 !=id) b2 D i 0)(eT:∀a∈(g.filter λx=>x.1 !=id).map (·.1),a∈D):qA aq b9 b2:=by
 have IS:((g.filter λx=>x.1 !=id).map (·.1)).Nodup:=b3.sublist (O7.map _);have iJ:qz aq (g.filter λx=>x.1 !=id)->qz aq b2:=λW=>W.alike h.bU IS λa n' bE h5 xv x J=>by
  have ay:a∈(g.filter λx=>x.1 !=id).map (·.1):=by rw[<-h.bU.ids];exact bk.2 ⟨_,iG h5,rfl⟩
  obtain⟨n,ae⟩:=yU ay;obtain⟨k,hk⟩:=Ue.1 xv;obtain⟨l,cq,cH⟩:=h.kn a n n' ae h5 k bE hk;rw[a1 (.inl (eT a ay))] at cH;rw[cH] at J;simp only[EJ,iX,JZ,GU] at J;rw[RA] at ae;split at ae;cases ae;exact Xx.2 ⟨av.ok.known _ (iG ae) l (dB cq) x J.1,J.2⟩
 have many:∀a n' (lv:N) bE,eS b2 a=some n'->n'.kn[lv]?=some bE->(bE.length:o)<=wk b9 lv/\bE.Nodup/\a∉bE:=by
  intro a n' lv bE h5 xv;have ay:a∈(g.filter λx=>x.1 !=id).map (·.1):=by rw[<-h.bU.ids];exact bk.2 ⟨_,iG h5,rfl⟩
  obtain⟨n,ae⟩:=yU ay;obtain⟨l,cq,cH⟩:=h.kn a n n' ae h5 lv bE xv;rw[a1 (.inl (eT a ay))] at cH;rw[RA] at ae;split at ae;cases ae;obtain⟨m1,m2,m3⟩:=av.many a n lv l ae cq;rw[cH];refine⟨?_,m2.sublist O7,λhm=>m3 (iX.1 hm).1⟩;have:=yf (λx=>!decide (x=id)) l;unfold EJ;omega
 refine⟨?_,many⟩;have mY:∀x∈b2,∃n,eS g x.1=some n/\x.2.v=n.v/\x.2.top=n.top/\x.1≠id:=λx J=>by
  have cm:x.1∈(g.filter λx=>x.1 !=id).map (·.1):=by rw[<-h.bU.ids];exact bk.2 ⟨x,J,rfl⟩
  obtain⟨n,ae⟩:=yU cm;obtain⟨n',aQ,_,cW,fJ⟩:=h.bU.at' _ _ ae;have xB:(b2.map (·.1)).Nodup:=by rw[h.bU.ids];exact IS
  have:=AI xB (id:=x.1) (n:=x.2) J;rw[aQ] at this;cases this;rw[RA] at ae;split at ae;cases ae;rename_i an;exact⟨n,ae,cW,fJ,an⟩
 have hlen:b2.length<=g.length:=by have:=eB iC h.bU.ids;simp only[dj] at this;rw[this];exact yf _ _
 refine⟨av.ok.hB,λx J=>?_,λx J=>?_,λx J bE xv y ai=>?_,λx J=>?_,jo hlen av.ok.small⟩;obtain⟨n,ae,aQ,_⟩:=mY x J;have:=av.ok.vec _ (iG ae);rw[aQ];exact this;obtain⟨n,ae,_,aF,_⟩:=mY x J;have:=av.ok.top _ (iG ae);rw[aF];exact this;rw[h.bU.ids];have xB:(b2.map (·.1)).Nodup:=by rw[h.bU.ids];exact IS
 have h5:=AI xB (id:=x.1) (n:=x.2) J;have ay:x.1∈(g.filter λx=>x.1 !=id).map (·.1):=by rw[<-h.bU.ids];exact bk.2 ⟨x,J,rfl⟩
 obtain⟨n,ae⟩:=yU ay;obtain⟨k,hk⟩:=Ue.1 xv;obtain⟨l,cq,cH⟩:=h.kn x.1 n x.2 ae h5 k bE hk;rw[a1 (.inl (eT x.1 ay))] at cH;rw[cH] at ai;simp only[EJ,iX,JZ,GU] at ai;rw[RA] at ae;split at ae;cases ae;exact Xx.2 ⟨av.ok.known _ (iG ae) l (dB cq) y ai.1,ai.2⟩;obtain⟨n,ae,_⟩:=mY x J;exact av.ok.ids (x.1,n) (iG ae)
def In.remove{af:N->aA bx}{T:aS}(h:In aj u af b T){id:o}{z:Obj}(hm:fz (u.ins T.m z) T.m ((jA T.g).filter λp=>p.1 !=id))(ae:eS T.g id=some n):
  ∃c4,In aj (u.ins T.m z) c4 b {T with g:=T.g.filter λx=>x.1 !=id}/\gL u af (u.ins T.m z) c4/\(∀c,n4 af id c->c4 c=none)/\nt af (u.ins T.m z) id n:=by
 rw[azf] at hm
 obtain⟨h1,h2⟩:=h.amb hm λx J=>h.aJ.nodes x (iX.1 J).1
 obtain⟨_,_,_,fr⟩:=h.JA
 have eP:nt af (u.ins T.m z) id n:=(h.aJ.node ae).bS (λ_ _=>rfl) λc y ai uB=>by rw[bq _ _ (fr _ c uB).2.1];exact ai
 let c4:N->aA bx:=λc=>open Classical in if n4 af id c then none else af c
 have aQ:∀c,n4 af id c->c4 c=none:=λc I=>a1 I
 have aF:∀c,¬n4 af id c->c4 c=af c:=λc I=>aG I
 have cW:∀c,c4 c≠none->af c≠none:=λc I=>by by_cases hm:n4 af id c;exact aV (aQ c hm) I;rw[aF c hm] at I;exact I
 have no:∀{c:N} {t:bx},af c=some t->(∀i,t≠.node i)->(∀i,t≠.vec i)->(∀i lv,t≠.arr i lv)->c4 c=af c:=λe h1 h2 h3=>aF _ (by rintro(aF|aF|⟨lv,aF⟩)<;>rw[e] at aF<;>cases aF;exact h1 _ rfl;exact h2 _ rfl;exact h3 _ _ rfl)
 have ck:=no h.aJ.dR (by simp) (by simp) (by simp)
 have kz:=no h.aJ.ih (by simp) (by simp) (by simp)
 have zy:=no h.aJ.dr (by simp) (by simp) (by simp)
 refine⟨c4,⟨⟨h1.aJ.cell,h1.aJ.src,h1.aJ.Hi,h1.aJ.map,by rw[ck];exact h.aJ.dR,by simp only;rw[kz];exact h.aJ.ih,by simp only;rw[zy];exact h.aJ.dr,λx J=>?_⟩,h1.le,λc I=>h.out c (cW c I),λc I=>h1.known c (cW c I)⟩,
  ⟨h2.bS,λc I=>h2.grow c (cW c I)⟩,aQ,eP⟩
 have an:x.1≠id:=by simpa using(iX.1 J).2
 refine(h1.aJ.nodes x J).bS (λc I=>aF c ?_) λ_ _ ai _=>ai
 rintro(e|e|⟨lv,e⟩)<;>rcases I with k|k|⟨wi,k⟩<;>rw[e] at k<;>cases k<;>exact an rfl
def WH:hf aH 293=ak:=by kernel_rfl
def aqR{id:o}{T:dF}:WB (Cw.ins n0 (.cells #[.int .i64 id] T (0,0))) (.func (.func 293) #[] #[.pointer (some ⟨n0,0,none⟩)]) (λx=>decide (x=id)):=
 λx v _ aB av=>.inl ⟨_,_,_,rfl,hd WH,aDG x ⟨n0,0,none⟩ v _ ⟨id,a8 (aB _ _ (bi _ _ _)) 0,av⟩⟩
structure Al(aj u:H)(af:N->aA bx)(b:N)(T:aS)(id:o)(u':H)(aY:N->aA bx)(bB:aS):Prop where
 is:In aj u' aY b bB
 eX:gL u af u' aY
 ok:dU bB
 rows:fg bB.g=(fg T.g).filter λx=>x.1 !=id
 aq:bB.aq=T.aq
 b9:bB.b9=T.b9
structure QU(aj lF:H)(c4:N->aA bx)(b:N)(T:aS)(g1:M (o×du))(v:H):Prop where
 ex:∃aY b2,In aj v aY b {T with g:=b2}/\gL lF c4 v aY/\Alike g1 b2/\qA T.aq T.b9 b2
structure K8(aj lF:H)(c4:N->aA bx)(b:N)(T:aS)(g1:M (o×du))(id:o)(r:N)(k:N)(v:H):Prop where
 ex:∃dl aY b2,In aj v aY b {T with g:=b2}/\(∀c z,lF c=some z->c4 c=none->v c=some z)/\(∀c,aY c≠none->c4 c≠none∨lF c=none)/\aY r=none/\np id g1 b2 (dl.map (·.1)) id 0/\
  nq v r T.m (jA g1) dl/\(jA g1).length-dl.length<=k
def azR(g:M (o×du))(id:o):fg (g.filter λx=>x.1 !=id)=(fg g).filter λx=>x.1 !=id:=by unfold fg;rw[sJ];rfl
def getD_some{l:M o}{i:N}(h:i<l.length):l[i]?=some (l.getD i 0):=by rw[dm,cy h];rfl
def amq(h:fz u b l)(ap:l.length<=1000000)(av:∀s u',aK u u' 3 1 s ((dS (l.map (·.1))).flatMap encI)->K s u'):
  Qu (some b) u λfv aU=>vp fv aU K:=by
 have b3:(l.map (·.1)).Nodup:=by obtain⟨_,_,_,he⟩:=h;exact he.nodup
 refine aEn (some b) u _ λn0 e1=>?_
 have hle:=bZ (u:=u) (b:=n0) (.cells #[.map (some b)] 182 (0,0)) e1
 exact adl ap b3 (λaj rL=>axu wl (h.mono (hle.trans rL)) (a8 (rL _ _ (bi _ _ _)) 0)) λs u' ab=>av s u' (ab.weaken hle)
def TD(g:M (o×du)):(jA g).map (·.1)=g.map (·.1):=by unfold jA;rw[eh];rfl
def UH{af:N->aA bx}{T:aS}{id:o}{K:aD->o->H->Prop}(h:In aj u af b T)(aT:dU T)
  (eg:eS T.g id=none->∀u',u.le u'->K ax 0 u') (ky:∀n,eS T.g id=some n->∀u' aY bB,Al aj u af b T id u' aY bB->K ak 0 u'):Qm (some ⟨b,0,none⟩) id u K:=by
 have b3:=h.aJ.nodup
 apply aDF
 intro n0 e1
 refine⟨λe=>(by cases e),λ_=>?_⟩
 have oy:=bZ (u:=u) (b:=n0) (.cells #[.int .i64 id] 3 (0,0)) e1
 have h0:=h.mono oy
 have fA:(u.ins n0 (.cells #[.int .i64 id] 3 (0,0))) n0=some (.cells #[.int .i64 id] 3 (0,0)):=bi _ _ _
 have Fe:af n0=none:=h.fresh e1
 obtain⟨aU,hj⟩:∃aU,u.ins n0 (.cells #[.int .i64 id] 3 (0,0))=aU:=⟨_,rfl⟩
 rw[hj] at h0 fA oy ⊢
 obtain⟨_,_,_,fc,_⟩:=kU h0.aJ
 refine⟨_,rfl,_,fc,_,a8 fA 0,?_⟩
 refine tM wl h0.aJ.map (ct:=.ptr) ((eS T.g id).map λn=>(⟨n.p,0,none⟩:bc)) ?_ ?_
 rw[CX];cases eS T.g id<;>rfl
 have iU:(fD (jA T.g) id).isSome=(eS T.g id).isSome:=by rw[CX];cases eS T.g id<;>rfl
 rw[iU]
 refine⟨λac=>eg (by simpa using ac) _ oy,λht=>?_⟩
 obtain⟨gone,IE⟩:=JO.1 ht
 have ky:=ky gone IE
 rw[IE]
 refine⟨_,rfl,_,fc,_,a8 fA 0,Ks wl h0.aJ.map λz FE=>?_⟩
 obtain⟨c4,eT,XV,aiI,Ml⟩:=h0.remove FE IE
 obtain⟨_,_,_,fr⟩:=h0.JA
 have vP:(aU.ins T.m z) n0=some (.cells #[.int .i64 id] 3 (0,0)):=by
  have:n0≠T.m:=λe=>by have:=h.aJ.dr;rw[<-e,Fe] at this;cases this
  rw[bq _ _ this];exact fA
 have Sg:c4 n0=none:=XV.none fA Fe
 have aiD:fz (aU.ins T.m z) T.m (jA (T.g.filter λx=>x.1 !=id)):=eT.aJ.map
 obtain⟨lF,aam⟩:∃lF,aU.ins T.m z=lF:=⟨_,rfl⟩
 obtain⟨g1,iJ⟩:∃g1,(T.g.filter λx=>x.1 !=id)=g1:=⟨_,rfl⟩
 rw[aam,iJ] at eT
 rw[aam] at XV Ml vP ⊢
 rw[aam,iJ] at aiD
 have IS:(g1.map (·.1)).Nodup:=eT.aJ.nodup
 have SV:gL u af lF c4:=(gL.mono oy).trans XV
 obtain⟨_,_,_,d3,_⟩:=kU eT.aJ
 refine⟨_,rfl,_,d3,Kt wl aiD λr or O xt=>?_⟩
 have eZ:c4 r=none:=eT.fresh O
 have ln:aj r=none:=eT.le.none O
 have I3:r≠n0:=λe=>by rw[e,vP] at O;cases O
 have ux:∀lv:N,lv<31->∃s l,gone.kn[lv]?=some l/\∀v:H,(∀c z,lF c=some z->c4 c=none->v c=some z)->v.cell? (((cw gone.p 0 none).add 1).add (lv*1))=some (.slice s.a s.n s.c)/\Ints v s l:=by intro lv oq;obtain⟨s,l,h1,h2,h3,a7,bO⟩:=xQ Ml oq;refine⟨s,l,h2,λv aB=>⟨?_,?_⟩⟩;have:=aB _ _ Ml.cell (aiI _ (.inl Ml.tag));rw[JE];rw[JE,Gv Ml] at h3;simp only[H.cell?,this];simpa using h3;exact bz.else a7.ints λg x W J=>aB g x J (aiI g (.inr (.inr ⟨lv,bO g W⟩)))
 refine⟨λv=>∃k,K8 aj lF c4 b T g1 id r k v,λv=>least λk=>K8 aj lF c4 b T g1 id r k v,
  ⟨_,[],c4,g1,eT.aside eZ ln or,λc y I _=>bZ _ O c y I,λc I=>.inl I,eZ,np.refl id g1 id,xt,cC _⟩,?_⟩
 intro v aB
 have cx:=Gl aB
 obtain⟨k,hk⟩:∃k,(least λk=>K8 aj lF c4 b T g1 id r k v)=k:=⟨_,rfl⟩
 dsimp only
 rw[hk] at cx ⊢
 obtain⟨dl,aY,b2,cb,pn,YQ,ah1,xo,iK,hlen⟩:=cx
 clear aB
 refine JC iK (λib=>?_) λp hW ad A8 p3=>?_
 have xl:∀a∈g1.map (·.1),a∈dl.map (·.1):=λa ay=>by rw[<-TD] at ay;exact((ib.map (·.1)).mem_iff (a:=a)).2 ay
 have nE:qA T.aq T.b9 b2:=by rw[<-iJ] at xo xl;exact xo.ok aT.k b3 xl
 have sf:QU aj lF c4 b T g1 v:=⟨aY,b2,cb,⟨pn,YQ⟩,xo.bU,nE⟩
 have ah7:id∈T.g.map (·.1):=bk.2 ⟨_,iG IE,rfl⟩
 have kv:∀a,a∈g1.map (·.1)↔a∈T.g.map (·.1)/\a≠id:=λa=>by rw[<-iJ];exact Xx
 clear xo iK cb pn YQ hlen xl nE
 refine⟨λlv w=>0<=lv/\lv<=31/\QU aj lF c4 b T g1 w,λlv _=>(31-lv).toNat,⟨by omega,by omega,sf⟩,?_⟩
 rintro lv w ⟨Ou,akx,iw⟩
 refine⟨λbw=>?_,λfO=>?_⟩
 obtain⟨s,l,j0,ajb⟩:=ux lv.toNat (by omega)
 obtain⟨m1,m2,m3⟩:=aT.k.many id gone lv.toNat l IE j0
 have aiw:∀y∈l,y∈g1.map (·.1):=λy ai=>(kv y).2 ⟨aT.k.ok.known _ (iG IE) l (dB j0) y ai,λe=>m3 (e▸ai)⟩
 have pq:∀{ew:H},QU aj lF c4 b T g1 ew->∀c z,lF c=some z->c4 c=none->ew c=some z:=λ⟨_,_,_,ht,_⟩=>ht.bS
 obtain⟨dK,hints⟩:=ajb w (pq iw)
 have dM:=hints.len
 have gf:=hints.max
 refine⟨_,rfl,by decide,⟨by omega,by omega⟩,s,dK,?_⟩
 refine⟨λi ew=>1<=i/\QU aj lF c4 b T g1 ew,λi _=>l.length-i.toNat,⟨by omega,iw⟩,?_⟩
 rintro i ew ⟨i1,vK⟩
 obtain⟨_,aii⟩:=ajb ew (pq vK)
 have SA:=pq vK n0 _ vP Sg
 refine⟨λeU=>?_,λaG2=>⟨⟨by omega,by omega⟩,⟨by omega,by omega,vK⟩,by dsimp only;omega⟩⟩
 intro Wp ag9
 obtain⟨q,aL,h9⟩:=aii.at (x:=i-1) (by omega) (by omega)
 obtain⟨BI,Dl,om⟩:=aii.at (x:=i) (by omega) (by omega)
 have av1:BI=q:=by rw[aL] at Dl;exact(cX Dl).symm
 subst av1
 have Oa:l[(i-1).toNat]?=some (l.getD (i-1).toNat 0):=getD_some (by omega)
 have Je:l[i.toNat]?=some (l.getD i.toNat 0):=getD_some (by omega)
 have an:l.getD i.toNat 0≠l.getD (i-1).toNat 0:=λe=>by
  have h1:(i-1).toNat<l.length:=by omega
  have h2:i.toNat<l.length:=by omega
  have:=oF.1 m2 (i-1).toNat i.toNat h1 h2 (by omega);rw[dm,dm,cy h1,cy h2] at e;exact this (by simpa using e.symm)
 have skip:Wp ax ew:=ag9 _ _ ⟨λe=>(by cases e),λ_=>⟨⟨by omega,by omega⟩,⟨by omega,vK⟩,by dsimp only;omega⟩⟩
 refine⟨⟨by omega,by omega⟩,_,aL,⟨by omega,by omega⟩,_,h9,_,a8 SA 0,λFK=>⟨_,aL,⟨by omega,by omega⟩,_,om,_,a8 SA 0,λzf=>?_,λ_=>⟨H.le.refl _,H.le.refl _,skip⟩⟩,λ_=>⟨H.le.refl _,H.le.refl _,skip⟩⟩
 obtain⟨im,g2,lJ,pu,vM,kd⟩:=vK
 have aG5:=lJ
 obtain⟨_,_,_,cW,_⟩:=kU lJ.aJ
 have ou:(g2.map (·.1)).Nodup:=lJ.aJ.nodup
 have ay:l.getD (i-1).toNat 0∈g2.map (·.1):=by rw[vM.ids];exact aiw _ (dB Oa)
 have aa:l.getD i.toNat 0∈g2.map (·.1):=by rw[vM.ids];exact aiw _ (dB Je)
 refine⟨_,rfl,⟨by omega,by omega⟩,_,aL,⟨by omega,by omega⟩,_,aL,⟨by omega,by omega⟩,_,cW,_,h9,_,om,vl lJ.aJ ay λfs uF X3=>⟨H.le.refl _,_,rfl,by decide,⟨by omega,by omega⟩,?_⟩⟩
 obtain⟨Kq,Om,um,Yn,atH,atI,_⟩:=xQ X3 (lv:=lv.toNat) (by omega)
 refine⟨Kq,atH,H.le.refl _,aBr atI.ints (ag9 _ _ ⟨λrF=>?_,λ_=>⟨⟨by omega,by omega⟩,⟨by omega,im,g2,lJ,pu,vM,kd⟩,by dsimp only;omega⟩⟩)⟩
 have A7:l.getD i.toNat 0∉Om:=λhm=>by rw[l4 hm] at rF;cases rF
 refine⟨⟨by omega,by omega⟩,_,aL,⟨by omega,by omega⟩,_,aL,⟨by omega,by omega⟩,_,h9,_,om,?_⟩
 have Y9:Om.length<=1000000:=by have h1:=(kd.many _ _ _ _ uF Yn).1;have:=(abu (lv:=((lv.toNat:N):o)) aT.b9).2;omega
 refine amF lJ kd.ok aT.b9 uF aa Ou (by omega) Yn Y9 λh7 pg nS qQ vQ nK ju=>⟨⟨by omega,by omega⟩,⟨by omega,pg,_,vQ,pu.trans nK,vM.trans (Alike.jT uF _ _ _),?_⟩,by dsimp only;omega⟩
 exact kd.akb ou uF Ou nS Yn ju aa an A7
 obtain⟨im,g2,lJ,pu,vM,kd⟩:=iw
 have SA:=pu.bS n0 _ vP Sg
 obtain⟨_,_,_,cW,fJ⟩:=kU lJ.aJ
 have ou:(g2.map (·.1)).Nodup:=lJ.aJ.nodup
 have fin:∀w' pg e,In aj w' pg b {T with g:=g2,entry:=e}->gL lF c4 w' pg->((g2=[]/\e=0)∨e∈g2.map (·.1))->K ak 0 w':=λw' pg e h1 h2 h3=>
  ky w' pg {T with g:=g2,entry:=e} ⟨h1,SV.trans h2,⟨kd,aT.b9,h3⟩,by show fg g2=_;rw[vM.rows IS,<-iJ,azR],rfl,rfl⟩
 refine⟨_,rfl,_,fJ,_,a8 SA 0,λuu=>⟨_,rfl,?_⟩,λuu=>?_⟩
 refine UR lJ.aJ (e:=0) ?_
 obtain⟨vQ,nK⟩:=lJ.Pw 0
 obtain⟨h7,awO⟩:∃h7,w.ins b (.cells (fx {{T with g:=g2} with entry:=0}).toArray 184 (0,0))=h7:=⟨_,rfl⟩
 rw[awO] at vQ nK ⊢
 obtain⟨_,_,_,f3,_⟩:=kU vQ.aJ
 have FA:(jA g2).length<=1000000:=by have:=kd.ok.small;unfold jA;simp;omega
 refine⟨_,rfl,_,f3,amq vQ.aJ.map FA λUu aCP IW=>?_⟩
 rw[TD] at IW
 change aK _ _ _ 1 Uu ((dS (g2.map (·.1))).flatMap encI) at IW
 have auP:=vQ.mono IW.le
 have so:Uu.al≠some b:=λe=>by have:=IW.fresh b e;exact vQ.known b (by rw[vQ.aJ.dR];simp) this
 have c6:=IW.ints
 have as6:=c6.len
 have aGS:=c6.max
 have XZ:∀y,y∈dS (g2.map (·.1))↔y∈g2.map (·.1):=λy=>(nW _).mem_iff
 refine⟨λk nk=>0<=k/\k<=(dS (g2.map (·.1))).length/\(∀c z,aCP c=some z->c≠b->nk c=some z)/\∃e,In aj nk im b {T with g:=g2,entry:=e}/\gL lF c4 nk im/\(k=0->e=0)/\(0<k->e∈g2.map (·.1)),
  λk _=>(dS (g2.map (·.1))).length-k.toNat,⟨by omega,by omega,λc z I _=>I,0,auP,(pu.trans nK).trans (gL.mono IW.le),λ_=>rfl,λh=>by omega⟩,?_⟩
 rintro k nk ⟨jz,cq,jl,e,vR,Z9,aC,ad⟩
 refine⟨λju=>?_,λSt=>fin nk im e vR Z9 ?_⟩
 have as4:Ints nk Uu (dS (g2.map (·.1))):=bz.else c6 λg z W ab=>jl g z ab λe=>so (e▸W)
 obtain⟨q,aL,YB⟩:=as4.at jz ju
 have Jf:(dS (g2.map (·.1)))[k.toNat]?=some ((dS (g2.map (·.1))).getD k.toNat 0):=by
  have:k.toNat<(dS (g2.map (·.1))).length:=by omega
  simp only[dm,cy this,JR]
 have wc:=(XZ _).1 (dB Jf)
 refine⟨q,aL,⟨jz,ju⟩,_,YB,λWt aha=>?_⟩
 obtain⟨_,_,_,agm,agn⟩:=kU vR.aJ
 have yes:Wt ak nk:=aha _ _ ⟨λ_=>⟨_,rfl,UR vR.aJ ⟨⟨by omega,by omega⟩,⟨by omega,by omega,λc z I kr=>?_,_,(vR.Pw _).1,Z9.trans (vR.Pw _).2,λh=>by omega,λ_=>wc⟩,by dsimp only;omega⟩⟩,λe=>(by cases e)⟩
 have no:0<k->Wt ax nk:=λxu=>aha _ _ ⟨λe=>(by cases e),λ_=>⟨⟨by omega,by omega⟩,⟨by omega,by omega,jl,e,vR,Z9,λh=>by omega,λ_=>ad xu⟩,by dsimp only;omega⟩⟩
 have any:∀dp:aD,0<k->Wt dp nk:=λdp xu=>by cases dp;exact no xu;exact yes
 refine⟨_,rfl,_,agn,λrz=>?_,λrz=>?_⟩
 have r:=H.le.refl nk
 simp only[r,yes,and_self]
 have xu:0<k:=by rcases Int.lt_or_eq_of_le jz with h1|h1;exact h1;exact aV (aC h1.symm) rz
 have YJ:=ad xu
 have r:=H.le.refl nk
 have top:∀{i:o} {n:du},nt im nk i n->nk.cell? ((cw n.p 0 none).add 32)=some (.int .i64 n.top):=λeP=>by rw[iP,ki,Gv eP];exact Tu eP.uS
 refine⟨_,rfl,_,rfl,_,rfl,_,agm,_,agm,_,agn,?_,?_⟩
 refine vl vR.aJ wc λb8 _ C1=>⟨r,_,rfl,⟨_,top C1,r,?_⟩,?_⟩
 exact vl vR.aJ YJ λek _ pW=>⟨r,_,rfl,_,top pW,r,any _ xu⟩
 exact vl vR.aJ YJ λek _ pW=>⟨r,_,rfl,⟨_,top C1,r,_,top pW,r,any _ xu⟩,⟨_,top pW,r,_,top C1,r,any _ xu⟩⟩
 refine vl vR.aJ YJ λek _ pW=>⟨r,_,rfl,?_,⟨_,top pW,r,?_⟩⟩
 exact vl vR.aJ wc λb8 _ C1=>⟨r,_,rfl,⟨_,top C1,r,_,top pW,r,any _ xu⟩,⟨_,top pW,r,_,top C1,r,any _ xu⟩⟩
 exact vl vR.aJ wc λb8 _ C1=>⟨r,_,rfl,_,top C1,r,any _ xu⟩
 rw[bq _ _ kr];exact jl c z I kr
 have ju:k.toNat=(dS (g2.map (·.1))).length:=by have:¬k<(Uu.n:o):=St;omega
 rcases T6 k.toNat with h0|h0
 left
 have:g2.map (·.1)=[]:=by
  have h2:(dS (g2.map (·.1))).length=0:=by omega
  rw[z6] at h2;exact kS h2
 exact⟨by simpa using this,aC (by omega)⟩
 exact .inr (ad (by omega))
 refine fin w im T.entry lJ pu (.inr ?_)
 rw[vM.ids,kv]
 rcases aT.entry with⟨h1,_⟩|h1
 rw[h1] at ah7;simp at ah7
 exact⟨h1,uu⟩
 refine H2 p3 ?_
 obtain⟨x,J,rfl⟩:=bk.1 ad
 have gn:eS g1 x.1=some x.2:=AI IS J
 have ah0:∀im:N->aA bx,(∀c,im c≠none->c4 c≠none∨lF c=none)->∀c z,lF c=some z->c4 c=none->im c=none:=λim h2 c z h3 a7=>by
  cases e:im c with
  |none=>rfl|some t=>rcases h2 c (by rw[e];simp) with bO|bO;exact aV a7 bO;rw[h3] at bO;cases bO
 have av6:∀c z,lF c=some z->c≠r:=λc z I e=>by rw[e,O] at I;cases I
 show ∃aGt:o->H->Prop,∃aGu:o->H->N,_
 refine⟨λlv w=>0<=lv/\lv<=31/\∃im g2,In aj w im b {T with g:=g2}/\(∀c z,lF c=some z->c4 c=none->w c=some z)/\(∀c,im c≠none->c4 c≠none∨lF c=none)/\im r=none/\np id g1 g2 (dl.map (·.1)) x.1 lv.toNat/\
   nq w r T.m (jA g1) (dl++ [(x.1,.pointer (some ⟨x.2.p,0,none⟩))]),λlv _=>(31-lv).toNat,
  ⟨by omega,by omega,aY,b2,cb.aside ah1 ln hW,λc y I ac=>by rw[bq _ _ (av6 c y I)];exact pn c y I ac,YQ,ah1,xo.eX x.1,p3⟩,?_⟩
 rintro lv w ⟨Ou,akx,im,g2,lJ,IH,Sm,YM,R8,Fv⟩
 obtain⟨ek,fK,eJ,_,_⟩:=R8.bU.at' _ _ gn
 refine⟨λbw=>?_,λfO=>?_⟩
 have pW:=lJ.aJ.node fK
 obtain⟨s,l,dZ,dQ,I,ab,xI⟩:=xQ pW (lv:=lv.toNat) (by omega)
 rw[eJ] at I
 have ov:=IH n0 _ vP Sg
 have aun:=ah0 im Sm n0 _ vP Sg
 refine⟨_,rfl,by decide,⟨by omega,by omega⟩,_,rfl,s,I,?_⟩
 refine aBs ab (aqR (n0:=n0) (id:=id) (T:=3)) (λc y I=>?_) (λc I=>?_) λau ew bQ hblk he=>?_
 unfold H.ins at I
 split at I
 rename_i e;rw[e];cases I;exact ov
 cases I
 exact bq _ _ (λe=>by have:=xI c I;rw[e,aun] at this;cases this)
 refine⟨by decide,⟨by omega,by omega⟩,?_⟩
 unfold aR
 rw[JE,<-eJ]
 have uL:s.al≠some ek.p:=λe=>by have:=xI _ e;rw[pW.tag] at this;cases this
 refine adu (he _ _ pW.cell uL) pW.uS (by omega) (EJ id l) ?_
 obtain⟨pg,X1,aI⟩:=pW.level lJ.known dZ bQ he λc e=>.inl (by rw[<-hblk];exact e)
 have vQ:=lJ.shift (n':=ek.jT lv.toNat au (EJ id l)) fK rfl X1 aI
 have lY:∀c,im c=none->¬n4 im x.1 c:=λc I hm=>hm.some I
 obtain⟨_,_,_,akE⟩:=lJ.JA
 refine⟨⟨by omega,by omega⟩,⟨by omega,by omega,pg,_,vQ,λc y I ac=>aI.bS c y (IH c y I ac) (lY c (ah0 im Sm c y I ac)),λc I=>?_,?_,?_,?_⟩,by dsimp only;omega⟩
 rcases aI.grow c I with h1|h1
 exact Sm c h1
 cases aQ:c4 c with
 |some t=>exact .inl (by simp)
 |none=>
  cases aF:lF c with
  |none=>exact .inr rfl|some y=>rw[IH c y aF aQ] at h1;cases h1
 cases e:pg r with
 |none=>rfl
 |some t=>rcases aI.grow r (by rw[e];simp) with h1|h1;exact aV YM h1;obtain⟨_,_,_,_,_,h2,_⟩:=Fv;rw[h2] at h1;cases h1
 have:=R8.step A8 fK dQ au
 rw[show(lv+1).toNat=lv.toNat+1 by omega]
 exact this
 have aij:=Fv
 rw[<-eJ] at aij
 exact aij.else (λy ai=>aI.bS _ _ ai λhm=>(akE _ _ hm).2.1 rfl) λy ai=>aI.bS _ _ ai (lY r YM)
 have oq:lv.toNat=31:=by omega
 rw[oq] at R8
 have at4:=R8.next (λn' h5=>(lJ.aJ.node h5).Ge) id
 have aiv:=aaP Fv
 simp only[eD,r4] at aiv
 have uw:K8 aj lF c4 b T g1 id r (k-1) w:=⟨_,im,g2,lJ,IH,Sm,YM,by simpa using at4,Fv,by simp only[eD,r4];omega⟩
 refine⟨⟨_,uw⟩,?_⟩
 have:=least_le (P:=λk=>K8 aj lF c4 b T g1 id r k w) uw
 omega
open Go.Shelf
def kG(u:H):Prop:=∀w,Sub u w->Go.Proofs.TabAt 0 Lib.deBruijn64tab w
def kG.mono(h:kG u)(hu:u.le u'):kG u':=λw hw=>h w (hw.mono hu)
def aqO(x:N)(J:x<18446744073709551616):Lib.ctz 64 x<=64:=by unfold Lib.ctz;split;exact cC _;rename_i h;obtain⟨_,_,h2⟩:=Lib.ctzFrom_spec 64 x (Nat.pos_of_ne_zero h) (by simpa using J);omega
def apY(op:BinOp)(x y:o):cz (bits op .u64 x y):=by have:=wf_bits op .u64 x y;simp[Lit.wf,G1,G2,GG,GH] at this;unfold cz;omega
def wrap_u64(x:o):cz (bo.wrap x):=by have:=wf_wrap .u64 x;simp[Lit.wf,G1,G2,GG,GH] at this;unfold cz;omega
def aAP{x:o}{K:o->H->Prop}(J:cz x)(aT:kG u)(av:∀n:o,0<=n->n<=64->K n u):aej x u K:=by
 intro w hw;obtain⟨n,rfl⟩:=Int.eq_ofNat_of_zero_le J.1;have ae:n<18446744073709551616:=by have:=J.2;omega
 have I:=Any7.bits_TrailingZeros64 Tryz.aCG n ae w λ_=>aT w hw;change Calls aH 169 _ _ _ at I;refine I.mono ?_;rintro e w' ⟨rfl,rfl⟩;have:=aqO n ae;exact⟨_,u,rfl,⟨[.int .i64 (Lib.ctz 64 n:N)],.cons (t:=.int .i64) _ .nil,rfl,av _ (by omega) (by omega)⟩,Step.refl hw⟩
def aBm{src:N}{st:o}{K:o->H->Prop}(h:u src=some (.cells #[.int .u64 st] 215 (0,0)))
  (av:∀oJ Y,cz oJ->cz Y->K Y (u.ins src (.cells #[.int .u64 oJ] 215 (0,0)))):Hy (some ⟨src,0,none⟩) u K:=by
 apply aoc
 refine⟨λh=>(by cases h),λ_=>⟨_,rfl,st,a8 h 0,_,rfl,Hj h (by simp[cK]) ⟨_,rfl,_,a8 (bi _ _ _) 0,by omega,by omega,by omega,?_⟩⟩⟩
 exact av _ _ (wrap_u64 _) (apY _ _ _)
def aBl{src:N}{st:o}{ub:H}{K:o->o->H->Prop}(h:u src=some (.cells #[.int .u64 st] 215 (0,0)))(aT:kG ub)(ci:ub.le u)(ag:ub src=none)
  (av:∀oJ lv,cz oJ->0<=lv->lv<=30->K lv 0 (u.ins src (.cells #[.int .u64 oJ] 215 (0,0)))):VQ (some ⟨src,0,none⟩) 30 u K:=by
 apply aEz
 apply adW
 refine⟨λh=>(by cases h),λ_=>⟨λh=>by omega,λ_=>⟨λh=>by omega,λ_=>⟨λh=>aV rfl h,λ_=>?_⟩⟩⟩⟩
 refine aBm h λoJ Y h1 h2=>?_
 have hle:ub.le (u.ins src (.cells #[.int .u64 oJ] 215 (0,0))):=λc z I=>by rw[bq _ _ (λe=>by rw[e,ag] at I;cases I)];exact ci c z I
 refine aAP h2 (aT.mono hle) λn n0 b8=>⟨by omega,?_,?_⟩
 have:ff n 2=n/2:=zP n0
 rw[this];exact⟨by omega,by omega⟩
 have:ff n 2=n/2:=zP n0
 rw[this]
 refine av _ _ h1 ?_ ?_<;>split<;>omega
end
def XH{g:M (o×du)}{id:o}{nd:du}(cm:id∉g.map (·.1))(i:o):eS (g++ [(id,nd)]) i=if i=id then some nd else eS g i:=by
 unfold eS;rw[List.find?_append];by_cases hi:i=id;subst hi;have:g.find? (λx=>x.1==i)=none:=by have:=AJ.2 cm;unfold eS at this;simpa using this
 rw[this,a1 rfl];simp;rw[aG hi];have:[(id,nd)].find? (λx=>x.1==i)=none:=by simp[dG hi]
 rw[this,Option.or_none]
def aze(g:M (o×du))(id:o)(nd:du):jA (g++ [(id,nd)])=jA g++ [(id,.pointer (some ⟨nd.p,0,none⟩))]:=by simp[jA]
structure Cv(b9:o)(ids l:M o):Prop where
 sub:∀x∈l,x∈ids
 nodup:l.Nodup
 len:(l.length:o)<=b9
def Cv.nil{b9:o}(h:1<=b9)(ids:M o):Cv b9 ids []:=⟨λx J=>(by cases J),Kh,by simp only[oB];omega⟩
def qA.add{aq b9:o}{g:M (o×du)}(h:qA aq b9 g)(ap:1<=b9/\b9<=16){id:o}{nd:du}(cm:id∉g.map (·.1))(hi:1<=id/\id<=1000000000)(aB:(nd.v.length:o)=aq/\c8 nd.v)(ht:nd.top<=30)(gf:g.length<=512)
  (hk:∀(j:N) l,nd.kn[j]?=some l->Cv b9 (g.map (·.1)) l):qA aq b9 (g++ [(id,nd)]):=by
 have kv:(g++ [(id,nd)]).map (·.1)=g.map (·.1)++ [id]:=by simp
 refine⟨⟨h.ok.hB,λx J=>?_,λx J=>?_,λx J l xv i qI=>?_,λx J=>?_,by simp;omega⟩,λi n lv l ae xv=>?_⟩
 rcases cM.1 J with J|J
 exact h.ok.vec x J
 simp at J;subst J;exact aB
 rcases cM.1 J with J|J
 exact h.ok.top x J
 simp at J;subst J;exact ht
 rw[kv]
 rcases cM.1 J with J|J
 exact iA _ (h.ok.known x J l xv i qI)
 simp at J;subst J
 obtain⟨k,dJ⟩:=Ue.1 xv
 exact iA _ ((hk k l dJ).sub i qI)
 rcases cM.1 J with J|J
 exact h.ok.ids x J
 simp at J;subst J;exact hi
 rw[XH cm] at ae
 by_cases e:i=id
 rw[a1 e] at ae;cases ae
 subst e
 have:=hk lv l xv
 refine⟨?_,this.nodup,λhm=>cm (this.sub i hm)⟩
 have:=this.len
 unfold wk;split<;>omega
 rw[aG e] at ae
 exact h.many i n lv l ae xv
def uW(p:N)(sv:U)(v:M o)(top:N):du:=⟨p,sv,v,gu 31 ⟨none,0,0⟩,gu 31 [],top⟩
def In.ayB{aj u:H}{af:N->aA bx}{b:N}{T:aS}(h:In aj u af b T){id:o}(cm:id∉T.g.map (·.1)){p:N}(ad:u p=none){sv:U}{v:M o}(aB:Ints u sv v)(N7:∀g,sv.al=some g->af g=some (.vec id))(top:N):
  ∃aY,In aj (u.ins p (.cells (jP (uW p sv v top)).toArray 230 (0,0))) aY b T/\nt aY (u.ins p (.cells (jP (uW p sv v top)).toArray 230 (0,0))) id (uW p sv v top)/\
   gL u af (u.ins p (.cells (jP (uW p sv v top)).toArray 230 (0,0))) aY:=by
 have h4:af p=none:=h.fresh ad
 let aY:N->aA bx:=λc=>if c=p then some (.node id) else af c
 have aQ:aY p=some (.node id):=a1 rfl
 have aF:∀c,c≠p->aY c=af c:=λc I=>aG I
 have cW:∀c,af c≠none->aY c=af c:=λc I=>aF c λe=>I (by rw[e];exact h4)
 have hle:=bZ (u:=u) (b:=p) (.cells (jP (uW p sv v top)).toArray 230 (0,0)) ad
 refine⟨aY,⟨h.aJ.bS cW λc z I _=>hle c z I,h.le.trans hle,λc I=>?_,λc I=>?_⟩,?_,⟨λc z I _=>hle c z I,λc I=>?_⟩⟩
 by_cases e:c=p
 rw[e];exact h.le.none ad
 rw[aF c e] at I;exact h.out c I
 by_cases e:c=p
 rw[e,bi];simp
 rw[aF c e] at I;rw[bq _ _ e];exact h.known c I
 refine⟨bi _ _ _,aQ,aB.mono hle,λg W=>?_,by simp[uW],by simp[uW],λlv s l h1 h2=>?_⟩
 have:=N7 g W
 rw[cW g (by rw[this];simp)];exact this
 simp only[uW,Ka] at h1 h2
 split at h1
 cases h1
 rw[a1 (by assumption)] at h2
 cases h2
 exact⟨(Own.nil _ _ _).f,λg W=>by simp[U.al] at W⟩
 cases h1
 by_cases e:c=p
 rw[e];exact .inr ad
 rw[aF c e] at I;exact .inl I
def akG{p:N}{sv:U}{v:M o}{top j:N}{l:M o}(h:(uW p sv v top).kn[j]?=some l):l=[]:=by simp only[uW,Ka] at h;split at h;exact(cX h).symm;cases h
def _root_.Go.Proofs.YtejdhbfjjgcljaaGreatDoor.iZ.Uk{B v:H}{cu n:N}{k:o}{z:Obj}{S:M bP}(h:iZ (B.ins cu z) n k v S)(b7:Obj):iZ (B.ins cu b7) n k (v.ins cu b7) S:=by
 obtain⟨l,⟨⟨s,h1,h2,h3⟩,a7,bO⟩,e7,mP⟩:=h;have FJ:n≠cu:=λe=>by rw[e,bi] at a7;cases a7
 have ajg:s.al≠some cu:=λe=>by have:=h2.fresh cu e;rw[bi] at this;cases this
 refine⟨l,⟨⟨s,by rw[bq _ _ FJ];exact h1,⟨h2.own.le λc y I ai=>?_,λc y I=>?_,λg W=>?_⟩,h3⟩,by rw[bq _ _ FJ] at a7 ⊢;exact a7,bO⟩,e7,mP⟩;rw[bq _ _ (λe=>ajg (by rw[I,e]))];exact ai;unfold H.ins at I ⊢;split;rename_i e;rw[a1 e] at I;exact I;rename_i e;rw[aG e] at I;have:=h2.le c y (by rw[bq _ _ e];exact I);exact this;have:=h2.fresh g W;have Sj:g≠cu:=λe=>ajg (by rw[W,e]);rw[bq _ _ Sj] at this ⊢;exact this
def apK:hf aH 141=ak:=by kernel_rfl
def Lg(B:H)(n31 n33 n:N)(b9:o)(g:M (o×du))(q:M o)(bD:M o)(i:N)(v:H):Prop:=
 iZ ((B.ins n31 (.cells #[.pointer (some ⟨n,0,none⟩)] 90 (0,0))).ins n33 (.cells #[.int .i64 i] 3 (0,0))) n b9 v ((bD.take i).map (cU g q))
def axC{B:H}{af:N->aA bx}{b n0 n31 n33 n:N}{T:aS}{q bD:M o}(h:ec af B b T)(ap:1<=T.b9/\T.b9<=16)(Ih:B n0=some (.cells #[.pointer (some ⟨b,0,none⟩)] 122 (0,0)))(XL:B n31=none)(EZ:B n33=none)(an:n31≠n33)
  (hq:bD.length<=1000000) {i:N} {x:o} {v:H} {K:aD->H->Prop} (J:bD[i]?=some x) (aN:Lg B n31 n33 n T.b9 T.g q bD i v)
  (av:∀dp b6,Lg B n31 n33 n T.b9 T.g q bD (i+1) b6->K dp b6):
  sS aH (.func (.func 141) #[] #[.pointer (some ⟨n31,0,none⟩),.pointer (some ⟨n33,0,none⟩),.pointer (some ⟨n0,0,none⟩)]) #[MT (cU T.g q x)] [.one .bool] v K:=by
 have eU:i<bD.length:=(iB.1 J).1
 refine .inl ⟨_,_,_,rfl,hd apK,?_⟩
 refine aDR (cU T.g q x).1 (cZ (cU T.g q x).2) (c5 (cU T.g q x).2) ⟨n31,0,none⟩ ⟨n33,0,none⟩ ⟨n0,0,none⟩ v K ?_
 have y2:∀(Y:o) {w:H} {S:M bP},iZ ((B.ins n31 (.cells #[.pointer (some ⟨n,0,none⟩)] 90 (0,0))).ins n33 (.cells #[.int .i64 Y] 3 (0,0))) n T.b9 w S->
   B.le w/\w n31=some (.cells #[.pointer (some ⟨n,0,none⟩)] 90 (0,0))/\w n33=some (.cells #[.int .i64 Y] 3 (0,0)):=λY w S ht=>by
  have hle:=ht.le
  refine⟨λc y I=>hle c y ?_,hle _ _ ?_,hle _ _ (bi _ _ _)⟩
  rw[bq _ _ (λe=>by rw[e,EZ] at I;cases I),bq _ _ (λe=>by rw[e,XL] at I;cases I)];exact I
  rw[bq _ _ an,bi]
 obtain⟨_,aqn,_⟩:=y2 _ aN
 refine⟨_,a8 aqn 0,PL aN ap.1 (by omega) λdp w hw=>?_⟩
 obtain⟨_,_,afC⟩:=y2 _ hw
 refine⟨_,a8 afC 0,⟨by omega,by omega⟩,Hj afC (by simp[cK]) ?_⟩
 have O:=hw.Uk (.cells #[.int .i64 ((i:o)+1)] 3 (0,0))
 obtain⟨agW,_,aqo⟩:=y2 _ O
 have aT:=h.mono agW
 obtain⟨_,t1,_⟩:=kU aT
 refine⟨_,a8 aqo 0,_,a8 (agW _ _ Ih) 0,_,rfl,_,t1,⟨by omega,by omega⟩,av _ _ ?_⟩
 unfold Lg
 have e:(bD.take (i+1)).map (cU T.g q)=(bD.take i).map (cU T.g q)++ [cU T.g q x]:=by rw[gJ,J];simp
 rw[e]
 have aF:((i+1:N):o)=(i:o)+1:=by omega
 rw[aF]
 exact O.perm (nc _ _).symm
def aA2{af:N->aA bx}{ub u:H}{b:N}{T:aS}{q:M o}{t:U}{at' lv:o}{Pr:ao}{K:H->Prop}(ci:ub.le u)(h:ec af ub b T)(W:qz T.aq T.g)(cm:at'∈T.g.map (·.1))(ht:sW ub T.aq t q)
  (iy:0<=lv) (ej:lv<31) (cY:N->H->Prop) (k0:∀i v,cY i v->ub.le v)
  (ZV:∀i x v (K:aD->H->Prop),(lG T.g q lv.toNat at')[i]?=some x->cY i v->(∀dp b6,cY (i+1) b6->K dp b6)->sS aH Pr #[MT (cU T.g q x)] [.one .bool] v K)
  (h0:cY 0 u) (av:∀i v,i<=(lG T.g q lv.toNat at').length->cY i v->K v):KY (some ⟨b,0,none⟩) at' t lv Pr u K:=
 amE ci h W cm ht iy ej cY (λv=>∃i,i<=(lG T.g q lv.toNat at').length/\cY i v) k0
  (λi x v gw J aN h1 h2=>ZV i x v gw J aN λdp b6 kL=>by cases dp;exact h2 b6 ⟨i+1,(iB.1 J).1,kL⟩;exact h1 b6 kL)
  h0 (λv aB=>av _ v (cC _) aB) λv ⟨i,hi,aB⟩=>av i v hi aB
end eE
