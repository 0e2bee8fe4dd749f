/- Texts of mine, joined and packed by pack.py. -/
import Derived.Test.YtnaemgklhjkdhaaGreatDoorMna7
import Derived.Shelf.SlSortCmp.Whole1
import Derived.OpenShut
set_option linter.all false
set_option maxRecDepth 100000
noncomputable section
namespace Go.Proofs.YtnaemgklhjkdhaaGreatDoor
open H
section
variable{u:H}{p:bf}{s:J}{l:List aT}
def sx:aT:=⟨0,⟨none,0,0⟩,[]⟩
theorem auT{w aw:World}{b:Nat}{o bn:Obj}(hw:Sub u w)(Z:u b=some o)(k:o2 b bn w aw):Step u [] w (u.ins b bn) [] aw:=by refine⟨λx y h=>?_,k.os,k.tape,k.output,k.drawn,Nat.le_of_eq k.size.symm,λx _ I _=>k.rest x (λe=>by grind),λx _ I=>?_,[],by simp,by simp⟩;unfold H.ins at h;split at h;rename_i e;rw[e];cases h;exact k.at_;rename_i e;rw[k.rest x e];exact hw _ _ h;rw[aL _ _ (λe=>by grind)];exact I
def aou{g i n c:Nat}{cur:Array Value}{T:TypeId}(N:u g=some (.cells cur T (0,0)))(ac:i+n*2<=cur.size){eO:TypeId}{K:H->Prop}(ae:K (u.ins g (.cells (wr cur i ((List.replicate n sx).flatMap cG)) T (0,0)))):
  cx Tryz.prog (Builtin.clear_ #[22] eO #[.slice (some ⟨g,i,none⟩) n c]) [] u K:=by
 intro w hw
 obtain⟨ht,_⟩:=qH nV
 have hlen:((List.replicate n sx).flatMap cG).length=n*2:=by rw[qM fh,List.length_replicate]
 rcases Nat.eq_zero_or_pos n with rfl|mu
 refine⟨.tuple #[],w,u,by simp[Builtin.clear_,run_underlying ht],⟨[],.nil,rfl,?_⟩,Step.refl hw⟩
 have e:u.ins g (.cells (wr cur i ((List.replicate 0 sx).flatMap cG)) T (0,0))=u:=QF (by rw[N];rfl)
 rw[e] at ae
 exact ae
 obtain⟨aw,W,iU⟩:=SF (P:=Tryz.prog) (b:=g) (off:=i) (T:=T) ((List.replicate n sx).flatMap cG) 0 cur w (hw _ _ N) (by rw[hlen];omega) (λv av=>by obtain⟨r,W,av⟩:=List.mem_flatMap.1 av;rw[List.eq_of_mem_replicate W] at av;simp[sx,cG] at av;rcases av with rfl|rfl<;>rfl)
 have av:∀w,(zeroValue 34).run Tryz.prog w=.ok (.agg #[.int .i64 0,.slice none 0 0]) w:=λ_=>by kernel_rfl
 have QC:(Builtin.zeroCells (Value.agg #[.int .i64 0,.slice none 0 0]).cells n).toList=(List.replicate n sx).flatMap cG:=by have:=Zn (enc:=cG) fh (by decide) sx n;rw[<-this];rfl
 obtain⟨m,rfl⟩:∃m,n=m+1:=⟨n-1,by omega⟩
 refine⟨.tuple #[],aw,_,by simp[Builtin.clear_,run_underlying ht,av,QC,W],⟨[],.nil,rfl,ae⟩,auT hw N iU⟩
theorem aE.afD{Y:H}(h:aE Y u 34 2 s (l.flatMap cG)){i:Nat}(hi:i<=s.n){eO:TypeId}{K:H->Prop}
  (ae:∀(u':H) (bi:List aT),aE Y u' 34 2 s (bi.flatMap cG)->bi.take i=l.take i->bi.length=l.length->e8 u u' s->K u'):cx Tryz.prog (Builtin.clear_ #[22] eO #[.slice (s.part i s.n s.c 2).a (s.part i s.n s.c 2).n (s.part i s.n s.c 2).c]) [] u K:=by
 have cY:s.n=l.length:=fx fh (by decide) h.own.bR
 obtain⟨u4,_⟩:=qH nV
 rcases h.own.is with h0|⟨g,cur,ap,N,ac,E,hs,ht⟩
 subst h0
 have ai:l=[]:=List.eq_nil_of_length_eq_zero cY.symm
 subst ai
 have OU:i=0:=by simpa using hi
 subst OU
 refine cx.pure [] (λw hw=>?_) .nil (ae u [] h rfl rfl (e8.refl _ _))
 simp[J.part,Builtin.clear_,run_underlying u4]
 rfl
 rcases Nat.eq_or_lt_of_le hi with rfl|bh
 have e:(s.part s.n s.n s.c 2).n=0:=by simp[J.part]
 refine cx.pure [] (λw hw=>?_) .nil (ae u l h rfl rfl (e8.refl _ _))
 rw[e]
 cases(s.part s.n s.n s.c 2).a<;>simp[Builtin.clear_,run_underlying u4]<;>rfl
 have nH:(s.part i s.n s.c 2).a=some ⟨g,i*2,none⟩:=by unfold J.part;simp only;rw[if_neg (by omega),ap];simp[Addr.add_lit]
 rw[nH]
 have wF:(s.part i s.n s.c 2).n=s.n-i:=rfl
 rw[wF]
 have cA:i*2+(s.n-i)*2<=cur.size:=by rw[hs];omega
 refine aou N cA ?_
 have qY:((List.replicate (s.n-i) sx).flatMap cG).length=(s.n-i)*2:=by rw[qM fh,List.length_replicate]
 have yF:=Ci cur (i*2) ((List.replicate (s.n-i) sx).flatMap cG) (by rw[qY];omega)
 rw[qY] at yF
 have jf:(l.take i++List.replicate (s.n-i) sx).length=l.length:=by simp;omega
 refine ae _ (l.take i++List.replicate (s.n-i) sx) ⟨⟨by rw[qM fh,jf,cY],.inr ⟨g,_,ap,aS _ _ _,ac,E,?_,?_⟩⟩,λb o Z=>?_,h.fresh⟩ ?_ jf ?_
 rw[<-Array.length_toList,yF];simp[qY];omega
 rw[yF,List.flatMap_append]
 have q1:cur.toList.take (s.n*2)=l.flatMap cG:=ht
 have h1:cur.toList.take (i*2)=(l.take i).flatMap cG:=by rw[<-vZ fh,<-q1,List.take_take,Nat.min_eq_left (by omega)]
 have gi:((l.take i).flatMap cG).length=i*2:=by grind
 rw[h1,List.take_append_of_le_length (by rw[List.length_append,gi,qY];omega),List.take_of_length_le (by rw[List.length_append,gi,qY];omega)]
 have:b≠g:=λe=>by
   have:=h.fresh g (by simp[J.ad,ap])
   grind
 rw[aL _ _ this];exact h.le b o Z
 grind
 intro b o Z ah
 rw[aL _ _ (λe=>ah (by simp[J.ad,ap,e]))];exact Z
theorem abn{Y ub:H}{fv:Value}{p:aT->Bool}{K:J->H->Prop}(U:aE Y u 34 2 s (l.flatMap cG))(aa:G8 ub fv p)(cy:ub.le u)(iQ:∀b,s.ad=some b->ub b=none)
  (ae:∀s' u',aE Y u' 34 2 s' ((l.filter λx=>!p x).flatMap cG)->s'.ad=s.ad->e8 u u' s->K s' u'):GJ s fv u K:=by
 have cY:s.n=l.length:=fx fh (by decide) U.own.bR
 have uX:s.n<=9223372036854775807:=Nat.le_trans (bb.cap U.own.bR) (bb.max U.own.bR)
 apply atf
 refine ap6 U.own.bR aa cy (λi r OY dp jM=>⟨λh=>by omega,λ_=>?_⟩) λdp=>⟨λ_=>?_,λh=>absurd rfl h⟩
 have hi:i<l.length:=(List.getElem?_eq_some_iff.1 OY).1
 have aif:(l.take i).filter (λx=>!p x)=l.take i:=by rw[List.filter_eq_self];intro a ap;obtain⟨k,hk,rfl⟩:=List.mem_iff_getElem.1 ap;simp only[List.length_take] at hk;rw[List.getElem_take,dp k _ (by omega) (List.getElem?_eq_getElem (by omega))];rfl
 refine⟨⟨by omega,by omega⟩,?_⟩
 refine⟨λa j v=>0<=a/\a<j/\j<=l.length/\e8 u v s/\∃m:List aT,m.length=l.length/\aE Y v 34 2 s (m.flatMap cG)/\m.take a.toNat=(l.take j.toNat).filter (λx=>!p x)/\m.drop j.toNat=l.drop j.toNat,
  λ_ j _=>l.length-j.toNat,⟨by omega,by omega,by omega,e8.refl _ _,l,rfl,U,?_,rfl⟩,?_⟩
 rw[show((i:Int)+1).toNat=i+1 by omega,Int.toNat_natCast,List.take_add_one,OY]
 grind
 rintro a j v ⟨a0,cg,alo,cQ,m,mY,mq,nK,tt⟩
 have Qk:ub.le v:=λb o Z=>cQ b o (cy b o Z) λe=>by grind
 refine⟨λjK=>?_,λhg=>?_⟩
 have D1:j.toNat<l.length:=by omega
 have D3:l[j.toNat]?=some l[j.toNat]:=List.getElem?_eq_getElem D1
 have Ix:m[j.toNat]?=some l[j.toNat]:=by have:=congrArg (λz=>z[0]?) tt;simp only[List.getElem?_drop,Nat.add_zero] at this;rw[this,D3]
 obtain⟨q,ay,E⟩:=bb.elem fh (by decide) mq.own.bR Ix
 have c0:=E 0 _ rfl
 rw[Addr.add_zero'] at c0
 obtain⟨x,I⟩:∃x,x=l[j.toNat]:=⟨_,rfl⟩
 rw[<-I] at D3 Ix c0 E
 have u5:(l.take (j.toNat+1)).filter (λx=>!p x)=m.take a.toNat++(if p x=true then[] else[x]):=by rw[List.take_add_one,D3,nK];simp only[Option.toList_some,List.filter_append,List.filter_cons,List.filter_nil];cases p x<;>simp
 have Ov:∀tP:List aT,(∀k,a.toNat<k->tP[k]?=m[k]?)->tP.drop (j+1).toNat=l.drop (j+1).toNat:=λtP ov=>by
  have e:l.drop (j+1).toNat=m.drop (j+1).toNat:=by rw[show(j+1).toNat=j.toNat+1 by omega,<-List.drop_drop,<-List.drop_drop,tt]
  rw[e];apply List.ext_getElem?;intro k
  grind
 refine⟨q,ay,⟨by omega,jK⟩,_,c0,_,E 1 _ rfl,aa x _ _ Qk ⟨λZ=>?_,λZ=>?_⟩⟩
 have PF:p x=false:=by simpa using Z
 rw[PF] at u5
 refine⟨q,ay,⟨by omega,by omega⟩,?_⟩
 refine aE.store (enc:=cG) fh mq (by decide) (i:=a.toNat) (by omega) (y:=x) (by simp[cG,Value.oneCell']) ay λbE dD h4 _=>⟨⟨by omega,by omega⟩,⟨by omega,by omega⟩,⟨by omega,by omega,by omega,λb o Z ah=>h4 b o (cQ b o Z ah) ah,_,by simpa using mY,dD,?_,?_⟩,by dsimp only;omega⟩
 rw[show(j+1).toNat=j.toNat+1 by omega,u5,show(a+1).toNat=a.toNat+1 by omega,List.take_add_one,List.getElem?_set_self (by omega),List.take_set_of_le (Nat.le_refl _)]
 simp
 grind
 rw[Z] at u5
 refine⟨⟨by omega,by omega⟩,⟨by omega,by omega,by omega,cQ,m,mY,mq,?_,Ov m λ_ _=>rfl⟩,by dsimp only;omega⟩
 rw[show(j+1).toNat=j.toNat+1 by omega,u5];simp
 have jK:j.toNat=l.length:=by omega
 have hI:=bb.cap mq.own.bR
 rw[jK,List.take_length] at nK
 refine oM (P:=Tryz.prog) nV (l:=a.toNat) (h:=s.n) (m:=s.c) (.inr (by grind)) (.inl ⟨rfl,rfl⟩) (.inl ⟨rfl,rfl⟩) (by omega) hI (Nat.le_refl _) hI ?_
 refine mq.afD (i:=a.toNat) (by omega) λbE m2 dD h1 h2 h4=>?_
 refine oM (P:=Tryz.prog) nV (l:=0) (h:=a.toNat) (m:=s.c) (.inl ⟨rfl,rfl⟩) (.inr (by grind)) (.inl ⟨rfl,rfl⟩) (by omega) (by omega) (Nat.le_refl _) hI ?_
 obtain⟨M,uQ,_⟩:=dD.front (m:=a.toNat) (by omega)
 have e:(m2.flatMap cG).take (a.toNat*2)=(l.filter λx=>!p x).flatMap cG:=by rw[vZ fh,h1,nK]
 rw[e] at M
 exact ae _ _ M uQ λb o Z ah=>h4 b o (cQ b o Z ah) ah
 have e:l.filter (λx=>!p x)=l:=List.filter_eq_self.2 λa ap=>by rw[dp a ap];rfl
 exact ae s u (by rw[e];exact U) rfl (e8.refl _ _)
namespace bf
mutual
def del(id:Int):bf->bf
 | .mk ax bz hi ch rows kids=>.mk ax bz hi ch (rows.filter λx=>x.1 !=id) (Hy id kids)
def Hy(id:Int):List bf->List bf
 | []=>[]|p::bZ=>p.del id::Hy id bZ
end
def Vd(id:Int):∀bZ:List bf,Hy id bZ=bZ.map (del id)
 | []=>rfl|p::bZ=>by rw[Hy,Vd id bZ,List.map_cons]
def ind{P:bf->Prop}(h:∀n,(∀k∈n.kids,P k)->P n):∀n,P n:=by intro n;exact bf.rec (motive_1:=P) (motive_2:=λfY=>∀k∈fY,P k) (λ_ _ _ _ _ _ aG=>h _ aG) (λk hk=>(by cases hk)) (λn fY h1 h2 k hk=>by rcases List.mem_cons.1 hk with rfl|hk;exact h1;exact h2 k hk) n
def del_eq(id:Int)(p:bf):p.del id=.mk p.ax p.bz p.hi p.ch (p.rows.filter λx=>x.1 !=id) (p.kids.map (del id)):=by cases p;rw[del,Vd];rfl
theorem M4(id:Int)(p:bf):(p.del id).all=p.all.filter λx=>x.1 !=id:=by
 induction p using ind with
 |h p aG=>
  rw[del_eq,all_eq,all_eq,List.filter_append];show(p.rows.filter λx=>x.1 !=id)++hV (p.kids.map (del id))=_;congr 1;rw[s5,s5,List.flatMap_map];obtain⟨ks,ou⟩:∃ks,ks=p.kids:=⟨_,rfl⟩;rw[<-ou] at aG ⊢;clear ou;induction ks with
  |nil=>rfl|cons k ks A8=>
   grind
def Vf{id d:Int}(h:fp d p):fp d (p.del id):=by
 induction p using ind with
 |h p aG=>
  have h1:=h.jC;have h2:=h.ins;have h3:=h.kids;have W:(p.del id).fP []=p.fP []:=by rw[del_eq];rfl
  refine .mk ?_ (λx I=>?_) λk hk=>?_;rw[W];exact h1;rw[W];rw[M4] at I;exact h2 x (List.mem_filter.1 I).1;rw[del_eq] at hk;obtain⟨c7,cR,rfl⟩:=List.mem_map.1 (show k∈p.kids.map (del id) from hk);exact aG c7 cR (h3 c7 cR)
def Vg(id:Int)(p:bf):(p.del id).size=p.size:=by
 induction p using ind with
 |h p aG=>
  rw[del_eq,size_eq,size_eq];show 1+fu (p.kids.map (del id))=_;congr 1;obtain⟨ks,ou⟩:∃ks,ks=p.kids:=⟨_,rfl⟩;rw[<-ou] at aG ⊢;clear ou;induction ks with
  |nil=>rfl|cons k ks A8=>rw[List.map_cons,fu,fu,aG k (List.mem_cons_self ..),A8 λj aH=>aG j (List.mem_cons_of_mem _ aH)]
end bf
inductive jG(s:Int):bf->Prop where
 |mk {p:bf} (ax:p.ax=s) (kids:∀k∈p.kids,jG s k):jG s p
def jG.ax{s:Int}(h:jG s p):p.ax=s:=by cases h;assumption
def jG.kids{s:Int}(h:jG s p):∀k∈p.kids,jG s k:=by cases h;assumption
def jG.del{s id:Int}(h:jG s p):jG s (p.del id):=by
 induction p using bf.ind with
 |h p aG=>rw[bf.del_eq];refine .mk h.ax λk hk=>?_;obtain⟨c7,cR,rfl⟩:=List.mem_map.1 (show k∈p.kids.map (bf.del id) from hk);exact aG c7 cR (h.kids c7 cR)
theorem VQ{α β:Type}{f:α->List β}:∀{ks:List α},(ks.flatMap f).Nodup->∀{i j:Nat} {a b:α} {c:β},ks[i]?=some a->ks[j]?=some b->i≠j->c∈f a->c∉f b:=by
 intro ks;induction ks with
 |nil=>grind|cons k ks aG=>
  intro ac i j a b c hi aH ah ap Z;rw[List.flatMap_cons,List.nodup_append] at ac
  grind
def SC{h:en}(E:u h.b=some (.cells (fl h).toArray 336 (0,0)))(s:J)(rows:List aT){f:H->Prop}
  (M:f (u.ins h.b (.cells (fl {h with a7:=s,rows:=rows}).toArray 336 (0,0)))):H.an u ((Addr.mk h.b 0 none).add 6) [.slice s.a s.n s.c] f:=by
 exact⟨_,_,E,rfl,by simp[fl,Addr.add_lit],by simp[Value.oneCell'],M⟩
structure zC(id:Int)(n:aq)(u':H)(n':aq):Prop where
 one:∀x∈n'.bC,gY u' x
 own:n'.own=n.own
 b:n'.b=n.b
 br:n'.br=n.br.del id
 rows:∀x∈n'.bC,∀r∈x.1.rows,∃y∈n.bC,r∈y.1.rows
def hp.mix{m:List aT}{d:Int}(h:hp l d)(aa:m.Perm l):hp m d:=
 ⟨h.ao,by rw[aa.length_eq];exact h.len,λr W=>h.id r (aa.mem_iff.1 W),(aa.map _).nodup_iff.2 h.nodup,λr W=>h.v r (aa.mem_iff.1 W)⟩
def Ru{e k:Nat}{xs:List Value}(h:Own u e k s xs){g:Nat}(N:s.ad=some g):u g≠none:=fj h.f N
end
section
variable{d ax:Int}{ub u u':H}{v:List Int}{gW bm:Nat->Prop}{n0 n:aq}{aB:List jr}{h:en}{ks:List aq}{p:bf}
def Fy(aB:List jr)(n:aq):(oG aB n).br.all.Perm (n.br.all++(hG aB n.b).flatMap λx=>x.1.rows.map aT.bV):=by rw[aq.tW,aq.tW,<-List.flatMap_append];exact(yZ aB n).flatMap_right _
def ani(aB:List jr)(n:aq):(oG aB n).own.Perm (n.own++(hG aB n.b).flatMap λx=>x.1.cT):=by unfold aq.own;rw[<-List.flatMap_append];exact(yZ aB n).flatMap_right _
def jr.fP(f:jr):cc:=(bf.mk f.h.ax f.h.bz f.h.hi f.h.ch [] []).fP []
def Nt(f:jr)(n:aq):(f.fill n).br.fP []=f.fP:=by rw[aq.gR];rfl
def HN(f:jr)(n:aq):(f.fill n).br.kids=(f.pre++n::f.post).map aq.br:=by rw[aq.gR];rfl
theorem vX(f:jr)(n:aq)(x:iC):x∈(f.fill n).br.all↔x∈f.h.rows.map aT.bV∨(∃k∈f.pre++f.post,x∈k.br.all)∨x∈n.br.all:=by
 rw[bf.all_eq,HN,List.mem_append,s5,List.mem_flatMap];have avG:(f.fill n).br.rows=f.h.rows.map aT.bV:=by rw[aq.gR];rfl
 grind
def agB{f:jr}{n':aq}(h:fp d (f.fill n).br)(bx:fp d n'.br)(ep:∀x∈n'.br.all,x∈n.br.all∨mf f.fP x.2):fp d (f.fill n').br:=by have h1:=h.jC;have h2:=h.ins;have h3:=h.kids;rw[Nt] at h1 h2;rw[HN] at h3;refine .mk (by rw[Nt];exact h1) (λx I=>?_) λk hk=>?_;rw[Nt];rcases(vX f n' x).1 I with I|I|I;exact h2 x ((vX f n x).2 (.inl I));exact h2 x ((vX f n x).2 (.inr (.inl I)));rcases ep x I with I|I;exact h2 x ((vX f n x).2 (.inr (.inr I)));exact I;rw[HN] at hk;obtain⟨z,aP,rfl⟩:=List.mem_map.1 hk;rw[List.mem_append,List.mem_cons] at aP;rcases aP with aP|rfl|aP;exact h3 _ (List.mem_map_of_mem (List.mem_append_left _ aP));exact bx;exact h3 _ (List.mem_map_of_mem (List.mem_append_right _ (List.mem_cons_of_mem _ aP)))
def JQ:∀(aB:List jr) {n:aq},fp d (oG aB n).br->fp d n.br
 | [],_,h=>h|f::aB,n,h=>by have:=JQ aB (n:=f.fill n) h;have h3:=this.kids;rw[HN] at h3;exact h3 _ (List.mem_map_of_mem (by simp))
theorem RE:∀(aB:List jr) {n n':aq},fp d (oG aB n).br->fp d n'.br->(∀x∈n'.br.all,x∈n.br.all∨∀f∈aB,mf f.fP x.2)->fp d (oG aB n').br
 | [],_,_,_,bx,_=>bx|f::aB,n,n',h,bx,ep=>by
  refine RE aB (n:=f.fill n) (n':=f.fill n') h (agB (JQ aB h) bx λx I=>(ep x I).imp id λI=>I f (List.mem_cons_self ..)) λx I=>?_;rcases(vX f n' x).1 I with I|I|I;exact .inl ((vX f n x).2 (.inl I));exact .inl ((vX f n x).2 (.inr (.inl I)));rcases ep x I with I|I;exact .inl ((vX f n x).2 (.inr (.inr I)))
  grind
theorem aq.py{s:Int}(n:aq)(h:∀x∈n.bC,x.1.ax=s):jG s n.br:=by
 induction n using aq.ind with
 |h n aG=>rw[aq.gR];refine .mk (h (n.h,n.kids.map aq.b) (by rw[aq.gg];grind)) λk hk=>?_;obtain⟨z,aP,rfl⟩:=List.mem_map.1 (show k∈n.kids.map aq.br from hk);exact aG z aP λx I=>h x (by rw[aq.gg];grind)
def aq.aaP{s:Int}(n:aq)(h:jG s n.br):∀x∈n.bC,x.1.ax=s:=by
 induction n using aq.ind with
 |h n aG=>rw[aq.gR] at h;intro x I;rw[aq.gg] at I;rcases List.mem_cons.1 I with rfl|I;exact h.ax;obtain⟨z,aP,I⟩:=List.mem_flatMap.1 I;exact aG z aP (h.kids _ (List.mem_map_of_mem aP)) x I
structure Way(ax:Int)(ub u:H)(d:Int)(v:List Int)(gW bm:Nat->Prop)(n0:aq)(aB:List jr)(n:aq):Prop where
 base:ub.le u
 one:∀x∈n.bC++hG aB n.b,gY u x
 nodup:((n.bC++hG aB n.b).flatMap λx=>x.1.cT).Nodup
 out:∀c∈(n.bC++hG aB n.b).flatMap (λx=>x.1.cT),ub c=none/\u c≠none/\gW c
 known:∀c,ub c≠none->gW c
 vec:∀x∈n.bC++hG aB n.b,∀r∈x.1.rows,Ints ub r.s r.v/\∀g,r.s.ad=some g->bm g
 ok:fp d (oG aB n).br
 ins:∀f∈aB,mf f.fP v
 box:∀x∈n.bC++hG aB n.b,x.1.ax=ax
 all:(oG aB n).br.all.Perm n0.br.all
 len:(oG aB n).bC.length=n0.bC.length
 b:(oG aB n).b=n0.b
def Way.start(base:ub.le u)(known:∀c,ub c≠none->gW c)(one:∀x∈n.bC,gY u x)(nodup:n.own.Nodup)(out:∀c∈n.own,ub c=none/\u c≠none/\gW c)
  (vec:∀x∈n.bC,∀r∈x.1.rows,Ints ub r.s r.v/\∀g,r.s.ad=some g->bm g) (ok:fp d n.br) (eG:jG ax n.br):Way ax ub u d v gW bm n [] n:=by
 have e:n.bC++hG [] n.b=n.bC:=by rw[hG,List.append_nil]
 exact⟨base,by rw[e];exact one,by rw[e];exact nodup,by rw[e];exact out,known,by rw[e];exact vec,ok,λf M=>(by cases M),by rw[e];exact n.aaP eG,.refl _,rfl,rfl⟩
def Way.nf{pre post:List aq}{k:aq}(w:Way ax ub u d v gW bm n0 aB (.mk h (pre++k::post)))(hi:mf (jr.fP ⟨h,pre,post⟩) v):Way ax ub u d v gW bm n0 (⟨h,pre,post⟩::aB) k:=by
 have aa:((aq.mk h (pre++k::post)).bC++hG aB h.b).Perm (k.bC++hG (⟨h,pre,post⟩::aB) k.b):=by rw[hG,<-List.append_assoc];exact(VK ⟨h,pre,post⟩ k).append_right _
 exact⟨w.base,λx I=>w.one x (aa.mem_iff.2 I),(aa.flatMap_right _).nodup_iff.1 w.nodup,λc E=>w.out c ((aa.flatMap_right _).mem_iff.2 E),w.known,λx I=>w.vec x (aa.mem_iff.2 I),w.ok,λf M=>by rcases List.mem_cons.1 M with rfl|M;exact hi;exact w.ins f M,λx I=>w.box x (aa.mem_iff.2 I),w.all,w.len,w.b⟩
def Way.head(w:Way ax ub u d v gW bm n0 aB (.mk h ks)):
  gY u (h,ks.map aq.b)/\h.cT.Nodup/\(∀c∈h.cT,ub c=none/\u c≠none/\gW c)/\(∀r∈h.rows,Ints ub r.s r.v/\∀g,r.s.ad=some g->bm g)/\h.ax=ax:=by
 have hm:(h,ks.map aq.b)∈(aq.mk h ks).bC++hG aB (aq.mk h ks).b:=by rw[aq.bC];exact List.mem_append_left _ (List.mem_cons_self ..)
 have ac:=w.nodup
 rw[aq.bC,List.cons_append,List.flatMap_cons,List.nodup_append] at ac
 exact⟨w.one _ hm,ac.1,λc E=>w.out c (List.mem_flatMap.2 ⟨_,hm,E⟩),w.vec _ hm,w.box _ hm⟩
theorem Way.else(w:Way ax ub u d v gW bm n0 aB n)(cQ:∀c o,u c=some o->gW c->c∉n.own->u' c=some o):
  ub.le u'/\(∀x∈hG aB n.b,gY u' x)/\(∀c∈(hG aB n.b).flatMap (λx=>x.1.cT),(ub c=none/\gW c)/\u' c≠none/\c∉n.own)/\((hG aB n.b).flatMap λx=>x.1.cT).Nodup:=by
 have ac:=w.nodup
 rw[List.flatMap_append,List.nodup_append] at ac
 obtain⟨_,h2,h3⟩:=ac
 have U:∀c∈n.own,ub c=none:=λc E=>(w.out c (by rw[List.flatMap_append];exact List.mem_append_left _ E)).1
 have Z:ub.le u':=λc o E=>cQ c o (w.base c o E) (w.known c (by rw[E];simp)) λhm=>by grind
 have M:∀c∈(hG aB n.b).flatMap (λx=>x.1.cT),c∉n.own:=λc E hm=>h3 c hm c E rfl
 refine⟨Z,λx I=>(w.one x (List.mem_append_right _ I)).bd (λc o E U=>cQ c o U (w.out c (by grind)).2.2 (M c (List.mem_flatMap.2 ⟨x,I,E⟩))) λr W=>((w.vec x (List.mem_append_right _ I) r W).1).mono Z,λc E=>?_,h2⟩
 obtain⟨cz,ff,jn⟩:=w.out c (by grind)
 obtain⟨o,bG⟩:=Option.ne_none_iff_exists'.1 ff
 grind
theorem Way.cL{bx:en}(w:Way ax ub u d v gW bm n0 aB (.mk h ks))(Z:bx.cT=h.cT)(W:bx.rows=h.rows)(hs:bx.ax=h.ax)
  (lS:gY u' (bx,ks.map aq.b)) (cQ:∀c o,u c=some o->c∉h.cT->u' c=some o) (il:∀c,u c≠none->u' c≠none) (bL:fp d (aq.mk bx ks).br):Way ax ub u' d v gW bm n0 aB (.mk bx ks):=by
 have pc:bx.b=h.b:=(List.cons.inj Z).1
 have ac:=w.nodup
 rw[aq.bC,List.cons_append,List.flatMap_cons] at ac
 have ef:=(List.nodup_append.1 ac).2.2
 have sub:∀x∈aq.om ks++hG aB h.b,x∈(aq.mk h ks).bC++hG aB (aq.mk h ks).b:=λx I=>by rw[aq.bC,List.cons_append];exact List.mem_cons_of_mem _ I
 have eR:∀x∈aq.om ks++hG aB h.b,∀c∈x.1.cT,c∉h.cT:=λx I c E hm=>ef c hm c (List.mem_flatMap.2 ⟨x,I,E⟩) rfl
 have U:∀c∈h.cT,ub c=none:=λc E=>(w.head.2.2.1 c E).1
 have tq:ub.le u':=λc o E=>cQ c o (w.base c o E) λhm=>by grind
 have Rb:∀x,x∈(aq.mk bx ks).bC++hG aB (aq.mk bx ks).b->x=(bx,ks.map aq.b)∨x∈aq.om ks++hG aB h.b:=λx I=>by rw[aq.bC,List.cons_append,show(aq.mk bx ks).b=h.b from pc] at I;exact List.mem_cons.1 I
 have VM:((aq.mk bx ks).bC++hG aB (aq.mk bx ks).b).flatMap (λx=>x.1.cT)=((aq.mk h ks).bC++hG aB (aq.mk h ks).b).flatMap (λx=>x.1.cT):=by rw[aq.bC,aq.bC,List.cons_append,List.cons_append,List.flatMap_cons,List.flatMap_cons,show(aq.mk bx ks).b=h.b from pc,show(aq.mk h ks).b=h.b from rfl];show bx.cT++_=h.cT++_;rw[Z]
 have ep:(aq.mk bx ks).br.all=(aq.mk h ks).br.all:=by rw[aq.tW,aq.tW,aq.bC,aq.bC,List.flatMap_cons,List.flatMap_cons];show bx.rows.map aT.bV++_=h.rows.map aT.bV++_;rw[W]
 refine⟨tq,λx I=>?_,by rw[VM];exact w.nodup,λc E=>?_,w.known,λx I=>?_,RE aB w.ok bL λx I=>.inl (by rw[<-ep];exact I),w.ins,λx I=>?_,?_,?_,?_⟩
 rcases Rb x I with rfl|I
 exact lS
 exact(w.one x (sub x I)).bd (λc o E bG=>cQ c o bG (eR x I c E)) λr ek=>((w.vec x (sub x I) r ek).1).mono tq
 rw[VM] at E
 obtain⟨cz,ff,jn⟩:=w.out c E
 grind
 rcases Rb x I with rfl|I
 intro r ek
 exact w.head.2.2.2.1 r (by rw[<-W];exact ek)
 exact w.vec x (sub x I)
 rcases Rb x I with rfl|I
 exact hs.trans w.head.2.2.2.2
 exact w.box x (sub x I)
 refine(Fy aB _).trans (.trans ?_ ((Fy aB (.mk h ks)).symm.trans w.all))
 rw[ep,show(aq.mk bx ks).b=h.b from pc,show(aq.mk h ks).b=h.b from rfl]
 rw[(yZ aB _).length_eq,<-w.len,(yZ aB (.mk h ks)).length_eq,show(aq.mk bx ks).b=h.b from pc,show(aq.mk h ks).b=h.b from rfl]
 simp[aq.bC]
 rw[<-w.b]
 exact RD aB pc
structure Down(ax:Int)(ub u':H)(d:Int)(e:iC)(gW:Nat->Prop)(bm:aT->Prop)(n0 r:aq)(more:Nat):Prop where
 one:∀x∈r.bC,gY u' x
 nodup:r.own.Nodup
 own:∀c∈r.own,(ub c=none/\gW c)/\u' c≠none
 rws:∀x∈r.bC,∀y∈x.1.rows,bm y
 all:r.br.all.Perm (e::n0.br.all)
 ok:fp d r.br
 py:jG ax r.br
 size:r.bC.length<=n0.bC.length+more
 b:r.b=n0.b
 le:ub.le u'
theorem Way.down{n':aq}{id:Int}{more:Nat}{vP:aT->Prop}(w:Way ax ub u d v gW bm n0 aB n)(Z:n'.b=n.b)(p5:∀x∈n'.bC,gY u' x)(bX:n'.own.Nodup)
  (cQ:∀c o,u c=some o->gW c->c∉n.own->u' c=some o) (uZ:∀c∈n'.own,(c∈n.own∨(u c=none/\gW c))/\u' c≠none) (gv:∀x∈n'.bC,∀y∈x.1.rows,vP y) (N6:∀y:aT,(∀g,y.s.ad=some g->bm g)->vP y)
  (ep:n'.br.all.Perm ((id,v)::n.br.all)) (bL:fp d n'.br) (eG:jG ax n'.br) (hm:n'.bC.length<=n.bC.length+more):Down ax ub u' d (id,v) gW vP n0 (oG aB n') more:=by
 obtain⟨h1,h2,h3,aZ⟩:=w.else cQ
 have aa:=yZ aB n'
 have ajT:=yZ aB n
 have XS:=ani aB n'
 rw[Z] at aa XS
 have alf:∀c∈n.own,ub c=none/\gW c:=λc E=>(λz=>⟨z.1,z.2.2⟩) (w.out c (by rw[List.flatMap_append];exact List.mem_append_left _ E))
 have avx:∀c∈(hG aB n.b).flatMap (λx=>x.1.cT),u c≠none:=λc E=>(w.out c (by grind)).2.1
 refine⟨λx I=>?_,?_,λc E=>?_,λx I=>?_,?_,RE aB w.ok bL λx I=>?_,aq.py _ λx I=>?_,?_,(RD aB Z).trans w.b,h1⟩
 rcases List.mem_append.1 (aa.mem_iff.1 I) with I|I
 exact p5 x I
 exact h2 x I
 grind
 rcases List.mem_append.1 (XS.mem_iff.1 E) with E|E
 obtain⟨cC,cz⟩:=uZ c E
 exact⟨cC.elim (alf c) λh=>⟨w.base.none h.1,h.2⟩,cz⟩
 grind
 rcases List.mem_append.1 (aa.mem_iff.1 I) with I|I
 exact gv x I
 exact λy af=>N6 y (w.vec x (List.mem_append_right _ I) y af).2
 have aO:=Fy aB n'
 have ar:=(Fy aB n).symm.trans w.all
 grind
 rcases List.mem_cons.1 (ep.mem_iff.1 I) with rfl|I
 exact .inr w.ins
 exact .inl I
 rcases List.mem_append.1 (aa.mem_iff.1 I) with I|I
 exact n'.aaP eG x I
 exact w.box x (List.mem_append_right _ I)
 rw[<-w.len,aa.length_eq,ajT.length_eq,List.length_append,List.length_append]
 omega
inductive oY:bf->Prop where
 |mk {p:bf} (two:p.kids.length=0∨p.kids.length=2) (kids:∀k∈p.kids,oY k):oY p
def oY.two(h:oY p):p.kids.length=0∨p.kids.length=2:=by cases h;assumption
def oY.kids(h:oY p):∀k∈p.kids,oY k:=by cases h;assumption
def oY.del{id:Int}(h:oY p):oY (p.del id):=by
 induction p using bf.ind with
 |h p aG=>
  rw[bf.del_eq];have h1:(p.kids.map (bf.del id)).length=0∨(p.kids.map (bf.del id)).length=2:=by rw[List.length_map];exact h.two
  refine .mk h1 λk hk=>?_;obtain⟨c7,cR,rfl⟩:=List.mem_map.1 (show k∈p.kids.map (bf.del id) from hk);exact aG c7 cR (h.kids c7 cR)
theorem UK(h1:ks.length=0∨ks.length=2)(h2:∀k∈ks,oY k.br):oY (aq.mk h ks).br:=by rw[aq.gR];refine .mk (by show(ks.map aq.br).length=0∨(ks.map aq.br).length=2;grind) λk hk=>?_;obtain⟨z,aP,rfl⟩:=List.mem_map.1 (show k∈ks.map aq.br from hk);exact h2 z aP
open Go.Shelf Go.RowKit Go.Sort
theorem VO{α:Type}[Inhabited α]{enc:α->List Value}{k:Nat}(nE:0<k)(hk:∀x,(enc x).length=k)(d:Array α):(flatK enc k d).toList=d.toList.flatMap enc:=by
 apply List.ext_getElem?;intro i;rcases Nat.lt_or_ge i (d.size*k) with hi|hi;have e:i=i/k*k+i%k:=by rw[Nat.mul_comm];exact(Nat.div_add_mod i k).symm
 have aj:i/k<d.size:=Nat.div_lt_of_lt_mul (by grind);have W:i%k<k:=Nat.mod_lt _ nE;have M:=HP hk d.toList (i/k) (i%k) W;rw[<-e] at M;rw[M];have:(flatK enc k d).toList[i]?=some ((flatK enc k d)[i]!):=by rw[Array.getElem?_toList,getElem!_pos _ i (by simpa using hi),Array.getElem?_eq_getElem (by simpa using hi)]
 rw[this,get_flatK _ _ _ _ hi];simp[aj]
 grind
 rw[List.getElem?_eq_none (by simpa using hi),List.getElem?_eq_none (by rw[qM hk];simpa using hi)]
def ag4{P:Program}{f:FuncId}{args:Array Value}{z:Int}{bm:World}(h:fW P f args [.one (.int .i64)] (λb=>bm.heap[b]?) λeK u'=>eK=z/\u'=λb=>bm.heap[b]?):
  Calls P f args bm λe aw=>e=.returned (.int .i64 z)/\∃q Ft,aw=grow (bm.drewN q) Ft:=by
 refine(h bm (λb o e=>e)).mono ?_
 rintro e aw ⟨v,u',rfl,⟨vs,hk,rfl,E⟩,hs⟩
 cases hk with
 |cons x W=>cases W;have mT:=(al.nX (.int .i64) x _).1 E;obtain⟨I,hu⟩:x=z/\u'=_:=mT;subst I;subst hu;exact⟨rfl,hs.VZ⟩
def aa0{α:Type}[Inhabited α]{cf:α->α->Int}{d:Array α}(hs:SortedIn (ltOf cf) 0 d.size d):d.toList.Pairwise λa b=>¬cf b a<0:=by refine List.pairwise_iff_getElem.2 λi j hi aH hK=>?_;have:=hs i j (Nat.zero_le _) hK (by simpa using aH);simp only[Array.length_toList] at hi aH;rw[getElem!_pos d j aH,getElem!_pos d i hi] at this;unfold ltOf at this;simpa using this
theorem aqa{α:Type}[Inhabited α](val:α->aT){g:FuncId}{cf:α->α->Int}(hO:SWO (ltOf cf))(kF:∀args w,(callFunc g args).run Tryz.prog w=.ok (.enter g args) w)
  (DJ:∀a b (u:H),fW Tryz.prog g #[.agg (cG (val a)).toArray,.agg (cG (val b)).toArray] [.one (.int .i64)] u λeK u'=>eK=cf a b/\u'=u)
  {Y u:H} {s:J} {l:List α} (U:aE Y u 34 2 s ((l.map val).flatMap cG)) (fc:l.length<4611686018427387904) {K:H->Prop}
  (ae:∀(u':H) (bi:List α),bi.Perm l->(bi.Pairwise λa b=>¬cf b a<0)->aE Y u' 34 2 s ((bi.map val).flatMap cG)->e8 u u' s->K u'):TT s (.func (.func g) #[] #[]) u K:=by
 intro w hw
 have cY:s.n=l.length:=by have:=fx fh (by decide) U.own.bR;simpa using this
 rcases U.own.is with h0|⟨b,cur,ap,N,hle,E,hs,ht⟩
 subst h0
 have ai:l=[]:=by grind
 subst ai
 refine(AnyF.slices_SortFunc_none Tryz.aaY none 0 _ w).mono ?_
 rintro e aw ⟨rfl,rfl⟩
 exact⟨_,u,rfl,⟨[],.nil,rfl,ae u [] (List.Perm.refl _) List.Pairwise.nil U (e8.refl _ _)⟩,Step.refl hw⟩
 have DT:∀m:List α,(m.map val).flatMap cG=m.flatMap λx=>cG (val x):=λm=>by rw[List.flatMap_map]
 have hH:HoldsK (λx=>cG (val x)) 2 w b 0 l.toArray:=by
  intro j aH;simp only[size_flatK,List.size_toArray] at aH;have ai:((l.map val).flatMap cG)[j]?=some ((flatK (λx=>cG (val x)) 2 l.toArray)[j]!):=by
   have:=VO (k:=2) (enc:=λx=>cG (val x)) (by decide) (λx=>fh _) l.toArray;simp only[] at this
   grind
  constructor;rcases U.own.bR.at' with h1|⟨p,aa,gO⟩;rw[h1] at ai;simp at ai;rw[ap] at aa;cases aa;have:=hw.cell (gO j _ ai);rw[Addr.add_lit,Nat.zero_add] at this;simpa using this;simp[World.frozen?,hw _ _ N]
 have mU:=AnyQ.slices_SortFunc Tryz.aaY 2 (λw=>by kernel_rfl) (λw=>by kernel_rfl) (λx=>cG (val x)) (λx=>fh _) (λx=>Nh _) cf hO g #[] b 0 s.c l.toArray w kF
  (λm os xE _ x y=>by have:=V0 (DJ x y) (sortWorldK (λx=>cG (val x)) 2 w b 0 m xE os);simpa using this) hH (hw.lt N) (by simpa using fc)
 simp only[List.size_toArray] at mU
 change Calls Tryz.prog 131 _ _ _ at mU
 unfold vs
 rw[ap,cY]
 refine mU.mono ?_
 rintro e aw ⟨rfl,jc,n,os,⟨gj,_,qW⟩,p7,rfl⟩
 simp only[List.size_toArray] at gj
 have jj:jc.toList.Perm l:=by
  have aO:jc.extract 0 l.length=jc:=by rw[<-gj];simp
  have ar:l.toArray.extract 0 l.length=l.toArray:=by simp
  rw[aO,ar] at qW;simpa using qW
 obtain⟨bG,he⟩:=U.JY ap N (F:=flatK (λx=>cG (val x)) 2 jc) (by rw[size_flatK,gj,cY])
 rw[VO (by decide) (λx=>fh _),<-DT] at bG
 exact⟨_,_,rfl,⟨[],.nil,rfl,ae _ jc.toList jj (aa0 (by rw[gj];exact p7)) bG he⟩,KE hw N n _ os⟩
theorem ap8{α:Type}[Inhabited α](val:α->Int){g:FuncId}{uC:Array Value}{cf:α->α->Int}(hO:SWO (ltOf cf))(kF:∀args w,(callFunc g args).run Tryz.prog w=.ok (.enter g args) w)
  {ub:H} (DJ:∀a b (v:H),ub.le v->fW Tryz.prog g (#[.int .i64 (val a),.int .i64 (val b)]++uC) [.one (.int .i64)] v λeK u'=>eK=cf a b/\u'=v)
  {Y u:H} {s:J} {l:List α} (cy:ub.le u) (iQ:∀b,s.ad=some b->ub b=none) (U:aE Y u 3 1 s ((l.map val).flatMap encI)) (fc:l.length<4611686018427387904) {K:H->Prop}
  (ae:∀(u':H) (bi:List α),bi.Perm l->(bi.Pairwise λa b=>¬cf b a<0)->aE Y u' 3 1 s ((bi.map val).flatMap encI)->e8 u u' s->K u'):TR s (.func (.func g) #[] uC) u K:=by
 intro w hw
 have cY:s.n=l.length:=by have:=U.ints.len;simpa using this
 rcases U.own.is with h0|⟨b,cur,ap,N,hle,E,hs,ht⟩
 subst h0
 have ai:l=[]:=by grind
 subst ai
 refine(AnyF.slices_SortFunc_none {Tryz.aaX with} none 0 _ w).mono ?_
 rintro e aw ⟨rfl,rfl⟩
 exact⟨_,u,rfl,⟨[],.nil,rfl,ae u [] (List.Perm.refl _) List.Pairwise.nil U (e8.refl _ _)⟩,Step.refl hw⟩
 have Ii:ub b=none:=iQ b (by simp[J.ad,ap])
 have hH:Holds (λx=>Value.int .i64 (val x)) w b 0 l.toArray:=by
  intro j aH;have ik:j<l.length:=by simpa using aH
  have ai:((l.map val).flatMap encI)[j]?=some (.int .i64 (val l[j])):=by rw[tk];simp[ik]
  constructor;rcases U.own.bR.at' with h1|⟨p,aa,gO⟩;rw[h1] at ai;simp at ai;rw[ap] at aa;cases aa;have:=hw.cell (gO j _ ai);rw[Addr.add_lit,Nat.zero_add] at this
  grind
  simp[World.frozen?,hw _ _ N]
 have mU:=Any.slices_SortFunc Tryz.aaX (λx:α=>Value.int .i64 (val x)) (λx=>rfl) cf hO g uC b 0 s.c l.toArray w kF
  (λm os xE _ x y=>by
   refine ag4 (DJ x y _ λc o E=>?_);have qQ:c≠b:=λe=>by grind
   have Yu:=hw _ _ (cy _ _ E);have bh:c<w.heap.size:=(Array.getElem?_eq_some_iff.1 Yu).1;have DW:(Sort.ahead w m).heap[b]?=some (.cells cur 3 (0,0)):=hw _ _ N;have h2:=(WY (putCells (λx:α=>Value.int .i64 (val x)) 0 xE) DW).2 c qQ;show((mapBlock (Sort.ahead w m) b (putCells (λx:α=>Value.int .i64 (val x)) 0 xE)).heap++os)[c]?=_;have cA:(mapBlock (Sort.ahead w m) b (putCells (λx:α=>Value.int .i64 (val x)) 0 xE)).heap.size=w.heap.size:=by simp[mapBlock,Sort.ahead]
   rw[Array.getElem?_append_left (by rw[cA];exact bh),h2];exact Yu) hH (hw.lt N) (by simpa using fc)
 simp only[List.size_toArray] at mU
 change Calls Tryz.prog 248 _ _ _ at mU
 unfold vs
 rw[ap,cY]
 refine mU.mono ?_
 rintro e aw ⟨rfl,jc,n,os,⟨gj,_,qW⟩,p7,rfl⟩
 simp only[List.size_toArray] at gj
 have jj:jc.toList.Perm l:=by
  have aO:jc.extract 0 l.length=jc:=by rw[<-gj];simp
  have ar:l.toArray.extract 0 l.length=l.toArray:=by simp
  rw[aO,ar] at qW;simpa using qW
 have PL:putCells (λx:α=>Value.int .i64 (val x)) 0 jc cur=putCells id 0 ((jc.toList.map val).map λx=>Value.int .i64 x).toArray cur:=by
  unfold putCells;apply Array.ext;simp
  grind
 obtain⟨bG,he⟩:=U.JY ap N (F:=((jc.toList.map val).map λx=>Value.int .i64 x).toArray) (by simp[gj,cY])
 rw[<-PL] at bG he
 simp only[] at bG
 rw[<-tk] at bG
 exact⟨_,_,rfl,⟨[],.nil,rfl,ae _ jc.toList jj (aa0 (by rw[gj];exact p7)) bG he⟩,KE hw N n _ os⟩
end
section
variable{u Y v ub:H}{s:J}{l:List aT}{fv:Value}{K:H->Prop}{x a b:Int}
def gX(Y u:H)(s:J)(l:List aT)(v:H):Prop:=e8 u v s/\∃m:List aT,m.Perm l/\aE Y v 34 2 s (m.flatMap cG)
def Cz(ub:H)(l:List aT)(fv:Value):Prop:=∀(a b:aT) (v:H) (K:Int->H->Prop),a∈l->b∈l->ub.le v->(∀z,K z v)->fQ Tryz.prog fv #[.agg #[.int .i64 a.id,.slice a.s.a a.s.n a.s.c],.agg #[.int .i64 b.id,.slice b.s.a b.s.n b.s.c]] [.one (.int .i64)] v K
theorem gX.base(h:gX Y u s l v)(cy:ub.le u)(iQ:∀b,s.ad=some b->ub b=none):ub.le v:=λc o E=>h.1 c o (cy c o E) λe=>by grind
def gX.len(h:gX Y u s l v):s.n=l.length:=by obtain⟨_,m,aa,U⟩:=h;have:=fx fh (by decide) U.own.bR;rw[aa.length_eq] at this;exact this
theorem gX.xt(h:gX Y u s l v){y:Int}(b0:0<=x)(cJ:x<s.n)(iA:0<=y)(e4:y<s.n):∃p,s.a=some p/\∃a b:aT,a∈l/\b∈l/\
  v.cell? (p.add (x.toNat*2))=some (.int .i64 a.id)/\v.cell? ((p.add (x.toNat*2)).add 1)=some (.slice a.s.a a.s.n a.s.c)/\v.cell? (p.add (y.toNat*2))=some (.int .i64 b.id)/\v.cell? ((p.add (y.toNat*2)).add 1)=some (.slice b.s.a b.s.n b.s.c)/\
  ∀f g:H->Prop,(∀bH,gX Y u s l bH->f bH)->(∀v1,H.an v1 (p.add (y.toNat*2)) [.int .i64 a.id,.slice a.s.a a.s.n a.s.c] f->g v1)->H.an v (p.add (x.toNat*2)) [.int .i64 b.id,.slice b.s.a b.s.n b.s.c] g:=by
 have cY:=h.len
 obtain⟨he,m,aa,U⟩:=h
 have mY:=aa.length_eq
 have I:x.toNat<m.length:=by omega
 have af:y.toNat<m.length:=by omega
 obtain⟨p,lT,E⟩:=bb.elem fh (by decide) U.own.bR (List.getElem?_eq_getElem I)
 obtain⟨iu,awQ,aj⟩:=bb.elem fh (by decide) U.own.bR (List.getElem?_eq_getElem af)
 obtain rfl:iu=p:=by grind
 have km:=E 0 _ rfl
 have DL:=aj 0 _ rfl
 rw[Addr.add_zero'] at km DL
 refine⟨iu,lT,m[x.toNat],m[y.toNat],aa.mem_iff.1 (List.getElem_mem I),aa.mem_iff.1 (List.getElem_mem af),km,E 1 _ rfl,DL,aj 1 _ rfl,λf g M N=>?_⟩
 refine aE.store (enc:=cG) fh U (by decide) (i:=x.toNat) I (y:=m[y.toNat]) (by simp[cG,Value.oneCell']) lT λv1 hz tu _=>N v1 ?_
 refine aE.store (enc:=cG) fh hz (by decide) (i:=y.toNat) (by grind) (y:=m[x.toNat]) (by simp[cG,Value.oneCell']) lT λv2 dD h4 _=>M v2 ⟨λc o E ah=>h4 c o (tu c o (he c o E ah) ah) ah,_,?_,dD⟩
 refine List.Perm.trans ?_ aa
 rw[<-B7 I af]
 exact zf I af
def JC{y:Int}(I:0<=x)(af:0<=y)(h:x+y<=4000000000):IntKind.i64.wrap (Int.fdiv (IntKind.u64.wrap (x+y)) (2 ^ 1))=(x+y)/2:=by
 have aO:IntKind.u64.wrap (x+y)=x+y:=by show(x+y)%18446744073709551616=x+y;omega
 rw[aO,Int.fdiv_eq_ediv_of_nonneg _ (by decide)];exact IntWalk.i64_in _ (by omega)
def Sw{n:Int}(h:gX Y u s l v)(fc:l.length<=1000000)(a0:0<=a)(fJ:0<=b)(ap:a+n<=s.n)(Z:b+n<=s.n)(ae:∀bH,gX Y u s l bH->K bH):Cv s a b n fv v K:=by have cY:=h.len;apply atq;refine⟨λi w=>0<=i/\gX Y u s l w,λi _=>(n-i).toNat,⟨by omega,h⟩,?_⟩;rintro i w ⟨i0,hw⟩;refine⟨λhi=>?_,λ_=>ae w hw⟩;obtain⟨p,aa,x,y,_,_,c0,c1,d0,d1,dc⟩:=hw.xt (x:=a+i) (y:=b+i) (by omega) (by omega) (by omega) (by omega);refine⟨⟨by omega,by omega⟩,⟨by omega,by omega⟩,⟨by omega,by omega⟩,p,aa,⟨by omega,by omega⟩,⟨by omega,by omega⟩,p,aa,⟨by omega,by omega⟩,_,d0,_,d1,_,c0,_,c1,p,aa,⟨by omega,by omega⟩,?_⟩;exact dc _ _ (λbH eg=>⟨⟨by omega,by omega⟩,⟨by omega,eg⟩,by dsimp only;omega⟩) λv1 h1=>⟨p,aa,⟨by omega,by omega⟩,h1⟩
def apX{m:Int}(h:gX Y u s l v)(fc:l.length<=1000000)(a0:0<=a)(aia:a<m)(ajt:m<b)(Z:b<=s.n)(ae:∀bH,gX Y u s l bH->K bH):LV s a m b fv v K:=by have cY:=h.len;apply ato;refine⟨⟨by omega,by omega⟩,⟨by omega,by omega⟩,λi j w=>0<i/\i<=m-a/\0<j/\j<=b-m/\gX Y u s l w,λi j _=>(i+j).toNat,⟨by omega,by omega,by omega,by omega,h⟩,?_⟩;rintro i j w ⟨i0,i1,eL,gI,hw⟩;refine⟨λah=>⟨λbh=>⟨⟨by omega,by omega⟩,?_⟩,λbh=>⟨⟨by omega,by omega⟩,⟨by omega,by omega⟩,⟨by omega,by omega⟩,?_⟩⟩,λhe=>⟨⟨by omega,by omega⟩,?_⟩⟩;exact Sw hw fc (by omega) (by omega) (by omega) (by omega) λbH eg=>⟨⟨by omega,by omega⟩,⟨by omega,by omega,by omega,by omega,eg⟩,by dsimp only;omega⟩;exact Sw hw fc (by omega) (by omega) (by omega) (by omega) λbH eg=>⟨⟨by omega,by omega⟩,⟨by omega,by omega,by omega,by omega,eg⟩,by dsimp only;omega⟩;exact Sw hw fc (by omega) (by omega) (by omega) (by omega) ae
def abj(cy:ub.le u)(iQ:∀b,s.ad=some b->ub b=none)(E:Cz ub l fv)(h:gX Y u s l v)(fc:l.length<=1000000)(a0:0<=a)(DC:a<=2000000)(Z:b<=s.n)(ae:∀bH,gX Y u s l bH->K bH):GL s a b fv v K:=by have cY:=h.len;apply atn;refine⟨⟨by omega,by omega⟩,λi w=>a<i/\gX Y u s l w,λi _=>(b-i).toNat,⟨by omega,h⟩,?_⟩;rintro i w ⟨i0,hw⟩;refine⟨λhi=>?_,λ_=>ae w hw⟩;refine⟨λj w=>a<=j/\j<=i/\gX Y u s l w,λj _=>(j-a).toNat,⟨by omega,by omega,hw⟩,?_⟩;rintro j w ⟨eL,gI,hw⟩;intro avh k8;have next:∀{z:H},gX Y u s l z->ba (i+1)/\(a<i+1/\gX Y u s l z)/\(b-(i+1)).toNat<(b-i).toNat:=λaP=>⟨⟨by omega,by omega⟩,⟨by omega,aP⟩,by omega⟩;refine⟨λaH=>?_,λ_=>next hw⟩;obtain⟨p,aa,x,y,I,af,c0,c1,d0,d1,dc⟩:=hw.xt (x:=j) (y:=j-1) (by omega) (by omega) (by omega) (by omega);refine⟨p,aa,⟨by omega,by omega⟩,⟨by omega,by omega⟩,p,aa,⟨by omega,by omega⟩,_,c0,_,c1,_,d0,_,d1,?_⟩;refine E x y w _ I af (hw.base cy iQ) λz=>⟨λ_=>k8 _ ?_,λ_=>next hw⟩;refine⟨⟨by omega,by omega⟩,⟨by omega,by omega⟩,p,aa,⟨by omega,by omega⟩,p,aa,⟨by omega,by omega⟩,_,d0,_,d1,_,c0,_,c1,p,aa,⟨by omega,by omega⟩,?_⟩;exact dc _ _ (λbH eg=>⟨⟨by omega,by omega⟩,⟨by omega,by omega,eg⟩,by dsimp only;omega⟩) λv1 h1=>⟨p,aa,⟨by omega,by omega⟩,h1⟩
def abq(cy:ub.le u)(iQ:∀b,s.ad=some b->ub b=none)(E:Cz ub l fv)(fc:l.length<=1000000):∀(ck:Nat) {a m b:Int} {v:H} {K:H->Prop},b-a<=ck->gX Y u s l v->0<=a->a<m->m<b->b<=s.n->(∀bH,gX Y u s l bH->K bH)->zw s a m b fv v K:=by
 intro ck;induction ck with
 |zero=>omega|succ ck aG=>
  intro a m b v K de h a0 aia ajt Z ae;have cY:=h.len;apply atr;refine⟨⟨by omega,by omega⟩,λh1=>?_,λh1=>⟨⟨by omega,by omega⟩,λh2=>?_,λh2=>?_⟩⟩;refine⟨λi j w=>m<=i/\i<=j/\j<=b/\gX Y u s l w,λi j _=>(j-i).toNat,⟨by omega,by omega,by omega,h⟩,?_⟩;rintro i j w ⟨i0,YF,gI,hw⟩;refine⟨λhK=>⟨⟨by omega,by omega⟩,by decide,?_⟩,λhK=>?_⟩;rw[JC (by omega) (by omega) (by omega)];obtain⟨c,nB⟩:∃c,c=(i+j)/2:=⟨_,rfl⟩;rw[<-nB];obtain⟨p,aa,x,y,I,af,c0,c1,d0,d1,_⟩:=hw.xt (x:=c) (y:=a) (by omega) (by omega) (by omega) (by omega);refine⟨p,aa,⟨by omega,by omega⟩,p,aa,⟨by omega,by omega⟩,_,c0,_,c1,_,d0,_,d1,?_⟩;refine E x y w _ I af (hw.base cy iQ) λz=>⟨λ_=>⟨⟨by omega,by omega⟩,⟨by omega,by omega,by omega,hw⟩,by dsimp only;omega⟩,λ_=>⟨⟨by omega,by omega,by omega,hw⟩,by dsimp only;omega⟩⟩;refine⟨λk w=>a<=k/\gX Y u s l w,λk _=>(i-k).toNat,⟨by omega,hw⟩,?_⟩;rintro k w ⟨iq,hw⟩;refine⟨⟨by omega,by omega⟩,λhk=>?_,λ_=>ae w hw⟩;obtain⟨p,aa,x,y,I,af,c0,c1,d0,d1,dc⟩:=hw.xt (x:=k) (y:=k+1) (by omega) (by omega) (by omega) (by omega);refine⟨⟨by omega,by omega⟩,⟨by omega,by omega⟩,p,aa,⟨by omega,by omega⟩,p,aa,⟨by omega,by omega⟩,_,d0,_,d1,_,c0,_,c1,p,aa,⟨by omega,by omega⟩,?_⟩;exact dc _ _ (λbH eg=>⟨⟨by omega,by omega⟩,⟨by omega,eg⟩,by dsimp only;omega⟩) λv1 h1=>⟨p,aa,⟨by omega,by omega⟩,h1⟩;refine⟨λi j w=>a<=i/\i<=j/\j<=m/\gX Y u s l w,λi j _=>(j-i).toNat,⟨by omega,by omega,by omega,h⟩,?_⟩;rintro i j w ⟨i0,YF,gI,hw⟩;refine⟨λhK=>⟨⟨by omega,by omega⟩,by decide,?_⟩,λhK=>?_⟩;rw[JC (by omega) (by omega) (by omega)];obtain⟨c,nB⟩:∃c,c=(i+j)/2:=⟨_,rfl⟩;rw[<-nB];obtain⟨p,aa,x,y,I,af,c0,c1,d0,d1,_⟩:=hw.xt (x:=m) (y:=c) (by omega) (by omega) (by omega) (by omega);refine⟨p,aa,⟨by omega,by omega⟩,p,aa,⟨by omega,by omega⟩,_,c0,_,c1,_,d0,_,d1,?_⟩;refine E x y w _ I af (hw.base cy iQ) λz=>⟨λ_=>⟨⟨by omega,by omega⟩,⟨by omega,by omega,by omega,hw⟩,by dsimp only;omega⟩,λ_=>⟨⟨by omega,by omega,by omega,hw⟩,by dsimp only;omega⟩⟩;refine⟨λk w=>k<=m/\gX Y u s l w,λk _=>(k-i).toNat,⟨by omega,hw⟩,?_⟩;rintro k w ⟨iq,hw⟩;refine⟨λhk=>?_,λ_=>ae w hw⟩;obtain⟨p,aa,x,y,I,af,c0,c1,d0,d1,dc⟩:=hw.xt (x:=k) (y:=k-1) (by omega) (by omega) (by omega) (by omega);refine⟨⟨by omega,by omega⟩,⟨by omega,by omega⟩,p,aa,⟨by omega,by omega⟩,p,aa,⟨by omega,by omega⟩,_,d0,_,d1,_,c0,_,c1,p,aa,⟨by omega,by omega⟩,?_⟩;exact dc _ _ (λbH eg=>⟨⟨by omega,by omega⟩,⟨by omega,eg⟩,by dsimp only;omega⟩) λv1 h1=>⟨p,aa,⟨by omega,by omega⟩,h1⟩;rw[JC (by omega) (by omega) (by omega)];obtain⟨dG,tC⟩:∃dG,dG=(a+b)/2:=⟨_,rfl⟩;rw[<-tC];refine⟨⟨by omega,by omega⟩,by decide,⟨by omega,by omega⟩,?_⟩;intro adX ahf;have body:∀s0 lu:Int,a<=s0->s0<=lu->lu<=m->lu<=dG->dG+m-b<=s0->(m<=dG∨dG=lu)->adX s0 lu v:=by
   intro s0 lu cC cz ff jn iv axn;refine ahf s0 lu v ⟨⟨by omega,by omega⟩,λi j w=>s0<=i/\i<=j/\j<=lu/\gX Y u s l w,λi j _=>(j-i).toNat,⟨by omega,by omega,by omega,h⟩,?_⟩;rintro i j w ⟨i0,YF,gI,hw⟩;refine⟨λhK=>⟨⟨by omega,by omega⟩,by decide,?_⟩,λhK=>⟨⟨by omega,by omega⟩,?_⟩⟩;rw[JC (by omega) (by omega) (by omega)];obtain⟨c,nB⟩:∃c,c=(i+j)/2:=⟨_,rfl⟩;rw[<-nB];obtain⟨p,aa,x,y,I,af,c0,c1,d0,d1,_⟩:=hw.xt (x:=dG+m-1-c) (y:=c) (by omega) (by omega) (by omega) (by omega);refine⟨⟨by omega,by omega⟩,p,aa,⟨by omega,by omega⟩,p,aa,⟨by omega,by omega⟩,_,c0,_,c1,_,d0,_,d1,?_⟩;refine E x y w _ I af (hw.base cy iQ) λz=>⟨λ_=>⟨⟨by omega,by omega⟩,⟨by omega,by omega,by omega,hw⟩,by dsimp only;omega⟩,λ_=>⟨⟨by omega,by omega,by omega,hw⟩,by dsimp only;omega⟩⟩;intro adY ahj;have fin:∀z,gX Y u s l z->adY z:=by
    intro z aP;refine ahj z ?_;intro adZ An;have Nv:∀z,gX Y u s l z->adZ z:=by intro z aP;refine An z ⟨λaO=>⟨λar=>?_,λ_=>ae z aP⟩,λ_=>ae z aP⟩;exact aG (by omega) aP (by omega) (by omega) (by omega) (by omega) ae
    refine⟨λaO=>⟨λar=>?_,λ_=>Nv z aP⟩,λ_=>Nv z aP⟩;exact aG (by omega) aP (by omega) (by omega) (by omega) (by omega) Nv
   refine⟨λaO=>⟨λar=>?_,λ_=>fin w hw⟩,λ_=>fin w hw⟩;exact apX hw fc (by omega) (by omega) (by omega) (by omega) fin
  refine⟨λbh=>⟨⟨by omega,by omega⟩,body _ _ (by omega) (by omega) (by omega) (by omega) (by omega) (by omega)⟩,λhg=>body _ _ (by omega) (by omega) (by omega) (by omega) (by omega) (by omega)⟩
def abo(U:aE Y u 34 2 s (l.flatMap cG))(cy:ub.le u)(iQ:∀b,s.ad=some b->ub b=none)(E:Cz ub l fv)(fc:l.length<=1000000)
  (ae:∀(u':H) (m:List aT),m.Perm l->aE Y u' 34 2 s (m.flatMap cG)->e8 u u' s->K u'):GK s fv u K:=by
 have h:gX Y u s l u:=⟨e8.refl _ _,l,.refl _,U⟩
 have cY:=h.len
 have fin:∀v,gX Y u s l v->K v:=λv ⟨he,m,aa,U⟩=>ae v m aa U he
 apply atk
 apply atp
 refine⟨λa b w=>0<=a/\a<=s.n/\b=a+20/\gX Y u s l w,λa _ _=>((s.n:Int)-a).toNat,⟨by omega,by omega,by omega,h⟩,?_⟩
 rintro a b w ⟨a0,O,Z,hw⟩
 refine⟨λhle=>?_,λuS=>?_⟩
 exact abj cy iQ E hw fc (by omega) (by omega) (by omega) λbH eg=>⟨⟨by omega,by omega⟩,⟨by omega,by omega,by omega,eg⟩,by dsimp only;omega⟩
 refine abj cy iQ E hw fc (by omega) (by omega) (by omega) λbH eg=>?_
 refine⟨λ_ _ k w=>20<=k/\k<=4000000/\gX Y u s l w,λ_ _ k _=>(4000000-k).toNat,⟨by omega,by omega,eg⟩,?_⟩
 rintro _ _ k w ⟨iq,cv,hw⟩
 refine⟨λhk=>⟨⟨by omega,by omega⟩,?_⟩,λ_=>fin w hw⟩
 refine⟨λx y w=>0<=x/\x<=s.n/\y=x+2*k/\gX Y u s l w,λx _ _=>((s.n:Int)-x).toNat,⟨by omega,by omega,by omega,hw⟩,?_⟩
 rintro x y w ⟨b0,cJ,af,hw⟩
 refine⟨λhle=>⟨⟨by omega,by omega⟩,?_⟩,λuS=>⟨⟨by omega,by omega⟩,λhm=>?_,λ_=>⟨⟨by omega,by omega⟩,⟨by omega,by omega,hw⟩,by dsimp only;omega⟩⟩⟩
 exact abq cy iQ E fc (y-x).toNat (by omega) hw (by omega) (by omega) (by omega) (by omega) λbH eg=>⟨⟨by omega,by omega⟩,⟨by omega,by omega⟩,⟨by omega,by omega,by omega,eg⟩,by dsimp only;omega⟩
 exact abq cy iQ E fc ((s.n:Int)-x).toNat (by omega) hw (by omega) (by omega) (by omega) (by omega) λbH eg=>⟨⟨by omega,by omega⟩,⟨by omega,by omega,eg⟩,by dsimp only;omega⟩
def aqg{n:Nat}{k:Int}{K:Int->H->Prop}(ac:u n=some (.cells #[.int .i64 k,.slice s.a s.n s.c] 211 (0,0)))(ae:K s.n u):L9 (some ⟨n,0,none⟩) u K:=by apply atN;exact⟨λe=>(by cases e),λ_=>⟨_,rfl,s,aV ac 1,ae⟩⟩
def aqt{l:List bk}(hs:mO l){x:bk}(I:x∈l)(hm:∀y∈l,bh x y=false):l.getD (l.length-1) default=x:=by
 have ai:0<l.length:=List.length_pos_iff.2 λe=>by rw[e] at I;cases I
 obtain⟨i,hi,rfl⟩:=List.getElem_of_mem I;have gi:l.length-1<l.length:=by omega
 rw[List.getD_eq_getElem?_getD,List.getElem?_eq_getElem gi];show l[l.length-1]=l[i];by_cases e:i=l.length-1;subst e;rfl;have h1:=List.pairwise_iff_getElem.1 hs i (l.length-1) hi gi (by omega);exact Pe (hm _ (List.getElem_mem gi)) h1
theorem apr{ck dr:Nat}{k hi bz:Int}{S:List bk}{K:Bool->H->Prop}(h:gZ Y ck k u S)(cv:1<=k)(aj:∀g∈S,kC g.2)(mZ:u.cell? ⟨dr,0,none⟩=some (.pointer (some ⟨ck,0,none⟩)))(_h1:cS hi)(h2:cS bz)
  (ae:∀cF:Bool,(cF=true↔k<=(S.length:Int)/\((dX k.toNat S).getD (k.toNat-1) default).2<dY hi bz)->K cF u):Lx hi bz ⟨dr,0,none⟩ u K:=by
 obtain⟨l,dc,bW,aa⟩:=h
 obtain⟨s,ac,U,ah⟩:=dc.ex
 have cY:=U.fN.len
 have hlen:=aa.length_eq
 rw[uf] at hlen
 apply asg
 refine⟨_,mZ,?_⟩
 apply atQ
 have full:∀{c8 eC:Int},cS eC->((s.n:Int)=k->dY c8 eC=((dX k.toNat S).getD (k.toNat-1) default).2)->L8 (some ⟨ck,0,none⟩) u (λ(Hl:Bool) (u8:H)=>((Hl=Bool.true)->rC hi bz c8 eC u8 (λ(Gm:Int) (hP:H)=>K (decide ((0:Int)<Gm)) hP))/\((Hl=Bool.false)->K Bool.false u8)):=by
  intro c8 eC Yx hw;apply atM;refine⟨λ_=>⟨_,rfl,_,rfl,s,aV ac 1,_,aV ac 0,λZ=>?_,λZ=>?_⟩,λe=>(by cases e)⟩;have he:=of_decide_eq_true Z;refine w7 h2 Yx ?_;rw[hw he];have ou:k<=(S.length:Int):=by omega
  have key:∀z:Int,(0<z↔((dX k.toNat S).getD (k.toNat-1) default).2<dY hi bz)->K (decide (0<z)) u:=λz aP=>ae _ (by grind);refine key _ ?_;omega;have he:=of_decide_eq_false Z;exact ae _ ⟨λe=>(by cases e),λE=>by omega⟩
 refine aqg ac ⟨λh0=>⟨_,mZ,full ⟨by omega,by omega⟩ λe=>by omega⟩,λPr=>?_⟩
 obtain⟨p,lT,g,N,c0,c1,c2⟩:=U.fN.at (x:=0) (by omega) (by omega)
 have oq:l.getD 0 default=g:=by grind
 have tx:g∈l:=List.mem_of_getElem? N
 have uS:g∈dX k.toNat S:=aa.mem_iff.1 tx
 have ait:kC g.2:=aj g ((rp _).mem_iff.1 (List.mem_of_mem_take uS))
 have dH:p.add ((0:Int).toNat*3)=p.add 0:=rfl
 rw[dH] at c0 c1 c2
 refine⟨_,rfl,s,aV ac 1,p,lT,⟨by omega,by omega⟩,_,c0,_,c1,_,c2,_,mZ,full (tN _) λe=>?_⟩
 rw[oR]
 have cE:lE (λa b:bk=>bh b a):=⟨λa b h=>AH h,λa b c h k=>ye k h⟩
 have ajs:∀y∈dX k.toNat S,bh g y=false:=λy af=>by
  have yG:=aa.mem_iff.2 af;obtain⟨i,hi,rfl⟩:=List.getElem_of_mem yG;have h3:bh (l.getD 0 default) (l.getD i default)=false:=bW.root cE i hi
  grind
 have ai:=aqt (KK k.toNat S) uS ajs
 rw[uf] at ai
 grind
def encS(s:J):List Value:=[.slice s.a s.n s.c]
def Ni(c:J×List Int):(encS c.1).length=1:=rfl
structure uz(u:H)(s:J)(l:List (J×List Int)):Prop where
 bR:bb u s 1 (l.flatMap λc=>encS c.1)
 ints:∀c∈l,Ints u c.1 c.2
def uz.mono{u':H}{l:List (J×List Int)}(h:uz u s l)(k:u.le u'):uz u' s l:=⟨h.bR.mono k,λc E=>(h.ints c E).mono k⟩
def uz.len{l:List (J×List Int)}(h:uz u s l):s.n=l.length:=fx Ni (by decide) h.bR
def uz.at{l:List (J×List Int)}(h:uz u s l)(h0:0<=x)(h1:x<(s.n:Int)):∃p,s.a=some p/\∃c,l[x.toNat]?=some c/\c∈l/\u.cell? (p.add (x.toNat*1))=some (.slice c.1.a c.1.n c.1.c)/\Ints u c.1 c.2:=by
 have ac:=h.len;have ai:x.toNat<l.length:=by omega
 have I:l[x.toNat]?=some l[x.toNat]:=List.getElem?_eq_getElem ai;obtain⟨p,aa,E⟩:=bb.elem Ni (by decide) h.bR I;exact⟨p,aa,_,I,List.getElem_mem ai,E 0 _ rfl,h.ints _ (List.getElem_mem ai)⟩
structure adJ(l:List (J×List Int))(d:Int):Prop where
 ao:1<=d/\d<=64
 many:0<l.length/\l.length<=64
 each:∀c∈l,(c.2.length:Int)=d/\ej c.2
def oI(c:List Int)(l:List aT):Nat->Int
 |0=>0|n+1=>if oI c l n<gS c (l.getD n ⟨0,⟨none,0,0⟩,[]⟩).v c.length then gS c (l.getD n ⟨0,⟨none,0,0⟩,[]⟩).v c.length else oI c l n
theorem anM(c:List Int)(l:List aT):∀n,0<=oI c l n/\∀i r,i<n->l[i]?=some r->gS c r.v c.length<=oI c l n:=by
 intro n;induction n with
 |zero=>exact⟨Int.le_refl _,λi r h=>by omega⟩|succ n aG=>
  obtain⟨h0,h1⟩:=aG;unfold oI;have last:∀r,l[n]?=some r->l.getD n ⟨0,⟨none,0,0⟩,[]⟩=r:=λr W=>by grind
  split;rename_i bh;refine⟨by omega,λi r hi W=>?_⟩;by_cases e:i=n
  grind
  have:=h1 i r (by omega) W;omega
  grind
theorem anN{c:List Int}(E:ej c)(ai:hp l c.length):∀n,n<=l.length->kC (oI c l n):=by
 intro n;induction n with
 |zero=>intro _;exact⟨Int.le_refl _,(by decide:(0:Int)<340282366920938463463374607431768211456)⟩
 |succ n aG=>
  intro ac;unfold oI;have N:l.getD n ⟨0,⟨none,0,0⟩,[]⟩∈l:=by grind
  obtain⟨aO,ar⟩:=ai.v _ N;split;exact F5 E ar (by omega);exact aG (by omega)
theorem aqj{t:J}{c:List Int}{K:Int->J->J->Int->Int->J->Int->H->Prop}(hs:Ints u s c)(E:ej c)(ht:ev u t l)(ai:hp l c.length)
  (ae:∀s' nL u',aE u u' 3 1 s' (c.flatMap encI)->K 3 s' ⟨none,0,0⟩ (cK (oI c l l.length)) (cO (oI c l l.length)) nL 0 u'):Mb s t u K:=by
 have cY:=hs.len
 have akz:=ht.len
 have I0:=ht.max
 have aj:=ai.ao
 have NJ:=E.1
 have z:cS 0:=⟨by omega,by omega⟩
 apply atZ
 refine pA hs ?_
 rw[cY,Cf E rfl aj]
 refine⟨λI=>absurd rfl I,λ_=>abv ht ai λnL h6 vj=>⟨λI=>absurd rfl I,λ_=>?_⟩⟩
 refine⟨λi x y w=>w=h6/\0<=i/\i<=t.n/\cS x/\cS y/\dY x y=oI c l i.toNat,λi _ _ _=>((t.n:Int)-i).toNat,⟨rfl,by omega,by omega,z,z,rfl⟩,?_⟩
 rintro i x y w ⟨rfl,i0,i1,I,af,hw⟩
 refine⟨λhi=>?_,λhi=>?_⟩
 obtain⟨p,aa,r,W,c0,c1,mv⟩:=(ht.mono vj.le).at i0 hi
 have gx:=List.mem_of_getElem? W
 obtain⟨aO,ar⟩:=ai.v r gx
 have kF:l.getD i.toNat ⟨0,⟨none,0,0⟩,[]⟩=r:=by grind
 have step:oI c l (i+1).toNat=if oI c l i.toNat<gS c r.v c.length then gS c r.v c.length else oI c l i.toNat:=by rw[show(i+1).toNat=i.toNat+1 by omega];show(if _ then _ else _)=_;rw[kF]
 refine⟨p,aa,⟨i0,hi⟩,_,c0,_,c1,Kz (hs.mono vj.le) mv E ar (by omega) λx' qu dV jL jm=>w7 jL af ?_⟩
 rw[hw,jm]
 by_cases bh:oI c l i.toNat<gS c r.v c.length
 refine⟨λ_=>⟨⟨by omega,by omega⟩,⟨rfl,by omega,by omega,dV,jL,by omega⟩,by dsimp only;omega⟩,λI=>absurd ?_ I⟩
 omega
 refine⟨λI=>absurd I ?_,λ_=>⟨⟨by omega,by omega⟩,⟨rfl,by omega,by omega,I,af,by omega⟩,by dsimp only;omega⟩⟩
 omega
 have:i.toNat=l.length:=by omega
 rw[this] at hw
 obtain⟨g1,g2⟩:=K1 I af
 rw[hw] at g1 g2
 refine rq (hs.mono vj.le) (by omega) λs' u' U _=>⟨U.le,?_⟩
 rw[g1,g2]
 exact ae _ _ _ (U.weaken vj.le)
open Go.RowKit
def Un(P:Program)(n:Nat)(assign body:Code)(env:List (Nat×Value))(x c8:Nat)(y fm:Value)(v:H)(cN:H->Prop):Prop:=
 ∀l a w,a.tmps.size=n->(∀p∈env,p.1≠x->p.1≠c8->a.tmps[p.1]?=some p.2)->a.tmps[x]?=some y->a.tmps[c8]?=some fm->a.defers=[]->Sub v w->
  assign.wpIn (Fr (some l)) 0 P (Exit.then (λO gq=>∃v1,Step v [] w v1 [] gq/\∀ea,Sub v1 ea->
   body.wpIn (Fr (some l)) 0 P (λe _ hD=>e=.normal/\∃v2,cN v2/\Step v1 [] ea v2 [] hD) O ea) (λ_ _ _=>False)) a w
def Un.of{C:iB}(dW:Good C){n:Nat}{assign body:Code}{env:List (Nat×Value)}{x c8:Nat}{y fm:Value}{cN:H->Prop}(ap:j5 assign=true)(Z:j5 body=true)
  (xJ:List (Nat×eb)) (r7:∀p∈xJ,∃z,fa [] p.2=some z/\((p.1=x/\z=y)∨(p.1=c8/\z=fm)∨p.1≠x/\p.1≠c8/\(p.1,z)∈env))
  (h:e9 C [] assign 1 (λ_=>true) (λe s u=>e=.normal/\s.loc=[]/\e9 C [] body 1 (λ_=>true) (λe _ u=>e=.normal/\cN u) s u) {n:=n,env:=xJ,loc:=[]} v):
  Un C.P n assign body env x c8 y fm v cN:=by
 intro l a w cA he I ak2 aj hs
 have M:Fits {n:=n,env:=xJ,loc:=[]} [] v a w:=by refine⟨⟨aj,cA,λp aa=>?_⟩,rfl,λi cs e=>by simp at e,by simp,by simp,hs⟩;obtain⟨z,h1,h2⟩:=r7 p aa;refine⟨z,h1,?_⟩;rcases h2 with⟨h3,rfl⟩|⟨h3,rfl⟩|⟨h3,bJ,aZ⟩;rw[h3];exact I;rw[h3];exact ak2;exact he _ aZ h3 bJ
 refine wpIn_mono (Ht dW (some l) assign ap 1 _ _ _ v h [] a w M) ?_
 rintro e O gq ⟨_,s',u',cd,⟨rfl,pY,dJ⟩,b5,dc,_,_⟩
 have iQ:cd=[]:=by have:=b5.len;rw[pY] at this;simpa using this
 subst iQ
 refine⟨u',dc,λea Qq=>?_⟩
 have gw:Fits s' [] u' O ea:=⟨b5.toFitsE,b5.len,λi cs e=>by rw[pY] at e;simp at e,by simp,by simp,Qq⟩
 refine wpIn_mono (Ht dW (some l) body Z 1 _ _ s' u' dJ [] O ea gw) ?_
 rintro e a2 hD ⟨_,s2,bE,zT,⟨rfl,aH⟩,aiI,P2,_,_⟩
 exact⟨rfl,bE,aH,P2.forget⟩
end
section
variable{u:H}
def tS(bo:Int):Int:=IntKind.u64.wrap (bo+11400714819323198485)
def JO(x:Int):Int:=
 bits .xor .u64 (IntKind.u64.wrap (bits .xor .u64 (IntKind.u64.wrap (bits .xor .u64 x (Int.fdiv x (2 ^ 30))*13787848793156543929)) (Int.fdiv (IntKind.u64.wrap (bits .xor .u64 x (Int.fdiv x (2 ^ 30))*13787848793156543929)) (2 ^ 27))*10723151780598845931))
  (Int.fdiv (IntKind.u64.wrap (bits .xor .u64 (IntKind.u64.wrap (bits .xor .u64 x (Int.fdiv x (2 ^ 30))*13787848793156543929)) (Int.fdiv (IntKind.u64.wrap (bits .xor .u64 x (Int.fdiv x (2 ^ 30))*13787848793156543929)) (2 ^ 27))*10723151780598845931)) (2 ^ 31))
def aeI(op:BinOp)(x y:Int):cS (bits op .u64 x y):=by have:=wf_bits op .u64 x y;simp[Lit.wf,IntKind.min,IntKind.max,IntKind.signed,IntKind.bits] at this;unfold cS;omega
def auS(x:Int):cS (IntKind.u64.wrap x):=by have:=wf_wrap .u64 x;simp[Lit.wf,IntKind.min,IntKind.max,IntKind.signed,IntKind.bits] at this;unfold cS;omega
def am3(x:Int):cS (JO x):=aeI _ _ _
def axi(x:Int):cS (tS x):=auS _
def aeH{x n:Int}(I:cS x)(h1:1<=n)(h2:n<=1000000000):IntKind.u64.wrap n≠0/\IntKind.i64.wrap (Int.tmod x (IntKind.u64.wrap n))=x%n:=by have aO:IntKind.u64.wrap n=n:=IntWalk.u64_in n (by omega);have ar:Int.tmod x n=x%n:=Int.tmod_eq_emod_of_nonneg I.1;have h3:=Int.emod_nonneg x (show n≠0 by omega);have aZ:=Int.emod_lt_of_pos x (show 0<n by omega);rw[aO,ar];exact⟨by omega,IntWalk.i64_in _ (by omega)⟩
def apU{src:Nat}{bo:Int}{K:Int->H->Prop}(h:u src=some (.cells #[.int .u64 bo] 338 (0,0)))
  (ae:K (JO (tS bo)) (u.ins src (.cells #[.int .u64 (tS bo)] 338 (0,0)))):Ct (some ⟨src,0,none⟩) u K:=by
 apply acD
 exact⟨λh=>(by cases h),λ_=>⟨_,rfl,bo,aV h 0,_,rfl,ze h (by simp[Value.oneCell']) ⟨_,rfl,_,aV (aS _ _ _) 0,by omega,by omega,by omega,ae⟩⟩⟩
def apT{src:Nat}{bo n:Int}{K:Int->Int->H->Prop}(h:u src=some (.cells #[.int .u64 bo] 338 (0,0)))(h1:1<=n)(h2:n<=1000000000)
  (ae:K (JO (tS bo)%n) 0 (u.ins src (.cells #[.int .u64 (tS bo)] 338 (0,0)))):LI (some ⟨src,0,none⟩) n u K:=by
 obtain⟨aO,ar⟩:=aeH (am3 (tS bo)) h1 h2
 apply as1
 apply acE
 refine⟨λh=>(by cases h),λ_=>⟨λh=>by omega,λ_=>⟨λh=>by omega,λ_=>⟨λh=>absurd rfl h,λ_=>apU h ⟨aO,?_⟩⟩⟩⟩⟩
 rw[ar]
 exact ae
def zM(u:H)(src:Nat):Prop:=∃bo,u src=some (.cells #[.int .u64 bo] 338 (0,0))
def H.no(u:H)(b:Nat):H:=λc=>if c=b then none else u c
def JJ{b c:Nat}(h:c≠b):H.no u b c=u c:=if_neg h
def ZB(u:H)(b:Nat):H.no u b b=none:=if_pos rfl
def ZA(u:H)(b:Nat):(H.no u b).le u:=λc o h=>by by_cases e:c=b;rw[e,ZB] at h;cases h;rw[JJ e] at h;exact h
theorem alS{v:H}{b:Nat}(h:v.le u)(Z:v b=none):v.le (H.no u b):=λc o E=>by rw[JJ (λe=>by grind)];exact h c o E
structure kc(ub u:H)(src:Nat)(s:J)(l:List aT)(d:Int)(u':H)(n:aq):Prop where
 one:∀x∈n.bC,gY u' x
 nodup:n.own.Nodup
 out:∀c∈n.own,ub c=none/\u' c≠none/\c≠src
 all:n.br.all.Perm (l.map aT.bV)
 ok:fp d n.br
 rows:∀x∈n.bC,∀r∈x.1.rows,r∈l
 size:n.bC.length+1<=2*l.length
 uG:∀c o,u c=some o->s.ad≠some c->c≠src->u' c=some o
 src:zM u' src
 py:jG 3 n.br
 bin:oY n.br
namespace pO
def CT:fi Tryz.prog 189=true:=by kernel_rfl
def aeo:fi Tryz.prog 192=true:=by kernel_rfl
def MD:fi Tryz.prog 193=true:=by kernel_rfl
def MJ(a b:Nat):hF Tryz.prog 334 2 #[(0,.pointer (some ⟨a,0,none⟩)),(1,.pointer (some ⟨b,0,none⟩))]=some (236,[.pointer (some ⟨a,0,none⟩),.pointer (some ⟨b,0,none⟩)]):=by kernel_rfl
abbrev s9(n0 cb:Nat):Value:=.func (.func 189) #[] #[.pointer (some ⟨n0,0,none⟩),.pointer (some ⟨cb,0,none⟩)]
abbrev HM(n10:Nat):Value:=.func (.func 192) #[] #[.pointer (some ⟨n10,0,none⟩)]
structure rE(ub:H)(n0 cb iz src:Nat)(leaf:Int):Prop where
 c0:ub.cell? ⟨n0,0,none⟩=some (.pointer (some ⟨iz,0,none⟩))
 c1:ub.cell? ⟨cb,0,none⟩=some (s9 n0 cb)
 ry:ub.cell? ((Addr.mk iz 0 none).add 1)=some (.int .i64 leaf)
 bY:ub.cell? ((Addr.mk iz 0 none).add 2)=some (.pointer (some ⟨src,0,none⟩))
def rE.mono{ub:H}{n0 cb iz src:Nat}{leaf:Int}(h:rE ub n0 cb iz src leaf)(k:ub.le u):rE u n0 cb iz src leaf:=⟨H.le.cell k h.c0,H.le.cell k h.c1,H.le.cell k h.ry,H.le.cell k h.bY⟩
def M0{ub:H}{n10 n24:Nat}{ft:J}{c:List Int}{l:List aT}{d:Int}(NG:ub.cell? ⟨n24,0,none⟩=some (HM n10))(Dn:ub.cell? ⟨n10,0,none⟩=some (.slice ft.a ft.n ft.c))(k8:Ints ub ft c)(E:ej c)(Ij:(c.length:Int)=d)(aj:1<=d)(av:∀r∈l,Ints ub r.s r.v)(bL:hp l d):
  Cz ub l (.func (.func 193) #[] #[.pointer (some ⟨n24,0,none⟩)]):=by
 intro a b v K ap Z hle ae
 refine⟨_,_,_,rfl,fg MD,aul a.id a.s b.id b.s ⟨n24,0,none⟩ v K ?_⟩
 have c24:=H.le.cell hle NG
 have ae6:=H.le.cell hle Dn
 have pG:=k8.mono hle
 have eR:∀{r:aT} {Q:Int->Int->H->Prop},r∈l->(∀x y,cS x->cS y->Q x y v)->fQ Tryz.prog (HM n10) #[.agg #[.int .i64 r.id,.slice r.s.a r.s.n r.s.c]] [.agg [.int .u64,.int .u64]] v Q:=λ{r Q} W ed=>by obtain⟨jS,iw⟩:=bL.v r W;exact⟨_,_,_,rfl,fg aeo,auk r.id r.s ⟨n10,0,none⟩ v Q ⟨ft,ae6,Ky pG ((av r W).mono hle) E (by omega) iw (by omega) λx y I af _=>ed x y I af⟩⟩
 exact⟨_,c24,_,c24,eR ap λx y I af=>⟨H.le.refl _,eR Z λx' qu dV jL=>w7 af jL (ae _)⟩⟩
theorem Sp{n0 cb iz src:Nat}{d leaf:Int}(qU:1<=leaf):∀(ck:Nat) {ub u:H} {s:J} {l:List aT} {K:Option Addr->H->Prop},l.length<=ck->rE ub n0 cb iz src leaf->ub src=none->zM u src->s.ad≠some src->aE ub u 34 2 s (l.flatMap cG)->(∀r∈l,Ints ub r.s r.v)->hp l d->
  (l=[]->K none u)->(l≠[]->∀u' n,kc ub u src s l d u' n->K (some ⟨n.b,0,none⟩) u')->Uc s ⟨n0,0,none⟩ ⟨cb,0,none⟩ u K:=by
 intro ck
 induction ck with
 |zero=>intro ub u s l K de cr _ _ _ U av bL h0 _;have ai:l=[]:=List.eq_nil_of_length_eq_zero (by omega);have cY:s.n=l.length:=fx fh (by decide) U.own.bR;apply acF;refine⟨λ_=>h0 ai,λah=>absurd (by rw[cY,ai];rfl) ah⟩
 |succ ck aG=>
  intro ub u s l K de cr sg akp q0 U av bL h0 ae;have cY:s.n=l.length:=fx fh (by decide) U.own.bR;have aj:=bL.ao;have Wa:=bL.len;apply acF;refine⟨λaP=>h0 (List.eq_nil_of_length_eq_zero (by omega)),λPw=>?_⟩;have ah:l≠[]:=λe=>Pw (by rw[cY,e];rfl);have ae:=ae ah;have cy:=U.le;obtain⟨bo,dc⟩:=akp;refine⟨_,H.le.cell cy cr.c0,_,rfl,_,H.le.cell cy cr.bY,apT dc (by omega) (by omega) ?_⟩;obtain⟨dN,q2⟩:∃dN,dN=u.ins src (.cells #[.int .u64 (tS bo)] 338 (0,0)):=⟨_,rfl⟩;rw[<-q2];have qm:dN src=some (.cells #[.int .u64 (tS bo)] 338 (0,0)):=by rw[q2];exact aS _ _ _
  have e6:∀c o,u c=some o->c≠src->dN c=some o:=λc o E ah=>by rw[q2,aL _ _ ah];exact E
  have e3:∀{c},dN c=none->u c=none:=λ{c} E=>by
   by_cases e:c=src
   grind
   rw[q2,aL _ _ e] at E;exact E
  have q3:ub.le dN:=λc o E=>e6 c o (cy c o E) λe=>by grind
  have p4:aE ub dN 34 2 s (l.flatMap cG):=⟨U.own.le λc o E I=>e6 c o I λe=>q0 (by rw[E,e]),q3,U.fresh⟩;have Wv:ev dN s l:=⟨p4.own.bR,λr W=>(av r W).mono q3⟩;obtain⟨UC,Oa⟩:∃x,x=JO (tS bo)%(s.n:Int):=⟨_,rfl⟩;have O:0<=UC:=by rw[Oa];exact Int.emod_nonneg _ (by omega)
  have a2:UC<s.n:=by rw[Oa];exact Int.emod_lt_of_pos _ (by omega)
  rw[<-Oa];obtain⟨am9,ajU,oJ,qX,_,c1,c2⟩:=Wv.at O a2;have akc:oJ∈l:=List.mem_of_getElem? qX;obtain⟨cv,cI⟩:=bL.v oJ akc;have aw6:=c2.len;refine⟨am9,ajU,⟨O,a2⟩,oJ.s,c1,rq c2 (by omega) λft qs wD _=>?_⟩;have Y7:=wD.le;intro n10 XB;refine oN (zs:=[.slice none 0 0]) rfl (by simp[Value.oneCell']) ?_;obtain⟨pF,Qd⟩:∃pF,pF=qs.ins n10 (.cells [Value.slice ft.a ft.n ft.c].toArray 23 (0,0)):=⟨_,rfl⟩;rw[<-Qd];have Jm:qs.le pF:=by rw[Qd];exact bN _ XB
  have d10:pF n10=some (.cells [Value.slice ft.a ft.n ft.c].toArray 23 (0,0)):=by rw[Qd];exact aS _ _ _
  have E4:dN.le pF:=Y7.trans Jm;have ahM:ev pF s l:=Wv.mono E4;have k8:Ints pF ft oJ.v:=wD.ints.mono Jm;refine⟨ft,aV d10 0,aqj k8 cI ahM (by rw[cv];exact bL) λbD i18 gp h1=>?_⟩;have Jt:pF.le gp:=h1.le;obtain⟨R,b8⟩:∃R,R=oI oJ.v l l.length:=⟨_,rfl⟩;rw[<-b8];have ad6:kC R:=by rw[b8];exact anN cI (by rw[cv];exact bL) _ (Nat.le_refl _)
  have yO:dN.le gp:=E4.trans Jt;have jl:ub.le gp:=q3.trans yO;have w2:gp src=some (.cells #[.int .u64 (tS bo)] 338 (0,0)):=yO _ _ qm;have fresh:∀{c},pF c=none->ub c=none/\c≠src/\s.ad≠some c:=λ{c} E=>⟨q3.none (E4.none E),(λe=>by
   have kH:=E4.none E
   grind),λe=>fj p4 e (E4.none E)⟩
  have jC:∀rows kids,k5 ((bf.mk 3 oJ.v [] R rows kids).fP []) d:=λrows kids=>⟨aj,List.Pairwise.nil,λx I=>(by cases I),.inr (.inr ⟨rfl,rfl,cI,cv,ad6⟩)⟩;have ins:∀rows kids,∀z∈l.map aT.bV,mf ((bf.mk 3 oJ.v [] R rows kids).fP []) z.2:=λrows kids z aP=>by obtain⟨r,W,rfl⟩:=List.mem_map.1 aP;refine⟨λh=>(by cases h),λ_=>?_⟩;obtain⟨i,hi,OY⟩:=List.getElem_of_mem W;show gS oJ.v r.v oJ.v.length<=R;rw[b8];exact(anM oJ.v l l.length).2 i r hi (by grind)
  have wP:∀g,bD.ad=some g->gp g≠none:=λg N=>fj h1 N;have ci:∀g,bD.ad=some g->pF g=none:=λg N=>h1.fresh g N;have alG:∀g,s.ad=some g->gp g≠none:=λg N=>fj (p4.mono yO) N;intro avb Am;have E9:∀n31,gp n31=none->K (some ⟨n31,0,none⟩) (gp.ins n31 (.cells #[.int .i64 3,.slice bD.a bD.n bD.c,.slice none 0 0,.int .u64 (cK R),.int .u64 (cO R),.slice none 0 0,.slice s.a s.n s.c,.slice none 0 0] 336 (0,0))):=by
   intro n31 pZ;obtain⟨mV,gD⟩:∃bW:en,bW=⟨n31,3,bD,⟨none,0,0⟩,oJ.v,[],R,s,l,⟨none,0,0⟩⟩:=⟨_,rfl⟩;have nN:=bN (u:=gp) (b:=n31) (.cells (fl mV).toArray 336 (0,0)) pZ;have key:=ae (gp.ins n31 (.cells (fl mV).toArray 336 (0,0))) (.mk mV []);have jh:(aq.mk mV []).own=n31::(bD.ad.toList++s.ad.toList):=by rw[aq.pu,gD];simp[aq.h,aq.kids,en.cT,J.ad]
   have gO:(Obj.cells #[.int .i64 3,.slice bD.a bD.n bD.c,.slice none 0 0,.int .u64 (cK R),.int .u64 (cO R),.slice none 0 0,.slice s.a s.n s.c,.slice none 0 0] 336 (0,0))=.cells (fl mV).toArray 336 (0,0):=by rw[gD];rfl
   rw[gO];have Ob:(aq.mk mV []).b=n31:=by rw[gD];rfl
   rw[Ob] at key;have f31:=fresh (Jt.none pZ);refine key ⟨λy af=>?_,?_,λc E=>?_,?_,?_,λy af r W=>?_,?_,λc o E jx kJ=>nN c o (yO c o (e6 c o E kJ)),⟨_,nN _ _ w2⟩,by rw[aq.gR,gD];exact .mk rfl λk hk=>(by cases hk),UK (.inl rfl) λk hk=>(by cases hk)⟩;rw[aq.gg] at af;obtain rfl:y=(mV,[]):=by simpa[aq.h,aq.kids] using af
   subst gD;exact⟨aS _ _ _,(h1.mono nN).own,Own.nil _ _ _,((p4.mono yO).mono nN).own,λr W=>(av r W).mono (jl.trans nN),⟨rfl,Nat.le_refl _,by grind,.inl rfl⟩⟩
   grind
   rw[jh] at E;simp only[List.mem_cons,List.mem_append,Option.mem_toList] at E;rcases E with rfl|E|E;exact⟨f31.1,by rw[aS];simp,f31.2.1⟩;have:=fresh (ci c E);exact⟨this.1,λe=>wP c E (nN.none e),this.2.1⟩;exact⟨U.fresh c E,λe=>alG c E (nN.none e),λe=>q0 (by rw[<-e];exact E)⟩;rw[aq.tW,aq.gg];subst gD;simp[aq.h,aq.kids];rw[aq.gR];subst gD;refine .mk (jC _ _) (λz aP=>ins _ _ z ?_) λk hk=>(by cases hk);rw[bf.all_eq] at aP;have Qz:z∈l.map aT.bV++ []:=aP
   grind
   rw[aq.gg] at af;obtain rfl:y=(mV,[]):=by simpa[aq.h,aq.kids] using af
   grind
   rw[aq.gg];have:=List.length_pos_iff.2 ah;simp[aq.kids];omega
  refine⟨_,H.le.cell jl cr.c0,_,rfl,leaf,H.le.cell jl cr.ry,λ_=>E9,λuS=>⟨λ_=>E9,λ_=>Am none gp λn24 XC=>?_⟩⟩;refine oN (zs:=[.nilFunc]) rfl (by simp[Value.oneCell']) ?_;obtain⟨w,hw⟩:∃w,w=gp.ins n24 (.cells [HM n10].toArray 340 (0,0)):=⟨_,rfl⟩;rw[<-hw];have Bj:gp.le w:=by rw[hw];exact bN _ XC
  have d24:w n24=some (.cells [HM n10].toArray 340 (0,0)):=by rw[hw];exact aS _ _ _
  have afN:w n10=some (.cells [Value.slice ft.a ft.n ft.c].toArray 23 (0,0)):=Bj _ _ (Jt _ _ d10);have Y4:dN.le w:=yO.trans Bj;have ab7:ub.le w:=jl.trans Bj;have PB:aE ub w 34 2 s (l.flatMap cG):=p4.mono Y4;have PX:∀c,s.ad=some c->dN c≠none:=λc E=>fj p4 E;obtain⟨oP,yB⟩:∃oP:H,oP=vo w s:=⟨_,rfl⟩;have bg:ub.le oP:=λc o E=>by rw[yB,rm (λe=>by rw[U.fresh c e] at E;cases E)];exact ab7 c o E
  have Up:oP n24=w n24:=by rw[yB];exact rm λe=>PX _ e (yO.none XC)
  have Uo:oP n10=w n10:=by rw[yB];exact rm λe=>PX _ e (Y7.none XB)
  have ad7:Ints oP ft oJ.v:=bb.else (k8.mono (Jt.trans Bj)) λg o N I=>by rw[yB,rm (λe=>PX _ e (wD.fresh g N))];exact I
  refine abo PB (by rw[yB];exact R3 _ _) (λb Z=>by rw[yB];exact if_pos Z) (M0 (n10:=n10) (by rw[d24] at Up;exact aV Up 0) (by rw[afN] at Uo;exact aV Uo 0) ad7 cI cv aj.1 (λr W=>(av r W).mono bg) bL) (by omega) λu32 m aa mq uP=>?_;have mY:=aa.length_eq;have j2:ub.le u32:=λc o E=>uP c o (ab7 c o E) λe=>by have:=U.fresh c e;grind
  have aof:zM u32 src:=⟨_,uP _ _ (Bj _ _ w2) q0⟩;have Pk:hp m d:=bL.mix aa;have tD:∀r∈m,Ints ub r.s r.v:=λr W=>av r (aa.mem_iff.1 W);have Ic:ev u32 s m:=⟨mq.own.bR,λr W=>(tD r W).mono j2⟩;have hI:=bb.cap mq.own.bR;obtain⟨dG,tC⟩:∃dG:Nat,dG=s.n/2:=⟨_,rfl⟩;have Nc:Int.tdiv (s.n:Int) 2=(dG:Int):=by grind
  rw[Nc];have FX:∀{z:H} {Q:J->H->Prop},Q (s.part 0 dG s.c 2) z->cx Tryz.prog (Instr.sliceAt 22 (.slice s.a s.n s.c) none (some (.int .i64 (dG:Int))) none) [.one .slice] z Q:=λed=>
   oM (P:=Tryz.prog) nV (l:=0) (h:=dG) (m:=s.c) (.inl ⟨rfl,rfl⟩) (.inr rfl) (.inl ⟨rfl,rfl⟩) (by omega) (by omega) (Nat.le_refl _) hI ed
  have vr:∀{z:H} {Q:J->H->Prop},Q (s.part dG s.n s.c 2) z->cx Tryz.prog (Instr.sliceAt 22 (.slice s.a s.n s.c) (some (.int .i64 (dG:Int))) none none) [.one .slice] z Q:=λed=>
   oM (P:=Tryz.prog) nV (l:=dG) (h:=s.n) (m:=s.c) (.inr rfl) (.inl ⟨rfl,rfl⟩) (.inl ⟨rfl,rfl⟩) (by omega) hI (Nat.le_refl _) hI ed
  have gi:(m.take dG).length=dG:=by grind
  have fX:(m.drop dG).length=m.length-dG:=by rw[List.length_drop]
  have yk:m.take dG≠[]:=λe=>by grind
  have tG:m.drop dG≠[]:=λe=>by grind
  have aoo:∀{z:H},(∀c o,u32 c=some o->c≠src->z c=some o)->ev z s m:=λ{z} aP=>⟨bb.else mq.own.bR λc o E I=>aP c o I λe=>q0 (by rw[E,e]),λr W=>(tD r W).mono λc o E=>aP c o (j2 c o E) λe=>by grind⟩;have ZM:∀{z:H},ev z s m->ev z (s.part 0 dG s.c 2) (m.take dG):=λaP=>by have:=aP.part (l:=0) (h:=dG) (m:=s.c) (by omega) (by omega) (by omega) (Nat.le_refl _);simpa using this
  have ane:∀{z:H},ev z s m->ev z (s.part dG s.n s.c 2) (m.drop dG):=λaP=>by have:=aP.part (l:=dG) (h:=s.n) (m:=s.c) (by omega) (Nat.le_refl _) hI (Nat.le_refl _);rwa[List.take_of_length_le (by omega)] at this
  have lub:∀{z:H},(∀c o,u32 c=some o->c≠src->z c=some o)->ub.le z:=λaP c o E=>aP c o (j2 c o E) λe=>by grind
  have wZ:∀{z eK:H} {t:J} {k:List aT} {Q:Option Addr->H->Prop},(∀c o,u32 c=some o->c≠src->z c=some o)->zM z src->aE z eK 34 2 t (k.flatMap cG)->k≠[]->k.length<=ck->k.Sublist m->(∀u' n,kc (H.no z src) eK src t k d u' n->(∀c o,z c=some o->c≠src->u' c=some o)->Q (some ⟨n.b,0,none⟩) u')->
    fQ Tryz.prog (s9 n0 cb) #[.slice t.a t.n t.c] [.one .ptr] eK Q:=λ{z eK t k Q} aP hs gG hk O3 ot ed=>by
   have Zm:ub.le (H.no z src):=alS (lub aP) sg
   obtain⟨nk,IV⟩:=hs
   have fN:t.ad≠some src:=λe=>by have:=gG.fresh src e;grind
   exact⟨_,_,_,rfl,fg CT,aG O3 (cr.mono Zm) (ZB _ _) ⟨nk,gG.le _ _ IV⟩ fN ⟨gG.own,(ZA _ _).trans gG.le,λg N=>(ZA z src).none (gG.fresh g N)⟩ (λr W=>(tD r (ot.mem W)).mono Zm) (Pk.sub ot) (λe=>absurd e hk) λ_ u' n E=>ed u' n E λc o bG kJ=>E.uG c o (gG.le c o bG) (λe=>by have:=gG.fresh c e;grind) kJ⟩
  have Fw:Own u32 3 1 bD (oJ.v.flatMap encI):=(h1.mono Bj).own.le λc o E bG=>uP c o bG λe=>(fresh (ci c E)).2.2 e;have second:∀{z Cl fz:H} {t:J} {dL:aq},(∀c o,u32 c=some o->c≠src->Cl c=some o)->(∀c o,Cl c=some o->c≠src->z c=some o)->kc (H.no Cl src) fz src t (m.take dG) d z dL->kA (s.part dG s.n s.c 2) z (λ(oL:J) (zg:H)=>(H.le ub zg)/\(fQ Tryz.prog (s9 n0 cb) #[.slice oL.a oL.n oL.c] [.one .ptr] zg (λ(Rx:Option Addr) (kZ:H)=>(H.le ub kZ)/\(cx Tryz.prog (Instr.buildSlice 334 2 #[(0,.pointer (some ⟨dL.b,0,none⟩)),(1,.pointer Rx)]) [.one .slice] kZ (λ(y4:J) (fH:H)=>(H.le ub fH)/\(∀n49:Nat,(fH n49=none)->K (some ⟨n49,0,none⟩) (fH.ins n49 (.cells #[.int .i64 3,.slice bD.a bD.n bD.c,.slice none 0 0,.int .u64 (cK R),.int .u64 (cO R),.slice none 0 0,.slice none 0 0,.slice y4.a y4.n y4.c] 336 (0,0))))))))):=by
   intro z Cl fz t dL QB YD E;have aP:∀c o,u32 c=some o->c≠src->z c=some o:=λc o h1 h2=>YD c o (QB c o h1 h2) h2;have al6:=lub aP;refine F1 (ane (aoo aP)).1 (by show s.n-dG<=_;omega) λoL zg El _=>⟨al6.trans El.le,wZ aP E.src El tG (by omega) (List.drop_sublist _ _) λkZ bO Z q7=>?_⟩;have yH:∀c o,u32 c=some o->c≠src->kZ c=some o:=λc o h1 h2=>q7 c o (aP c o h1 h2) h2;refine⟨lub yH,?_⟩;refine nU (MJ dL.b bO.b) λg N=>?_;have ps:=bN (u:=kZ) (b:=g) (.cells [Value.pointer (some ⟨dL.b,0,none⟩),.pointer (some ⟨bO.b,0,none⟩)].toArray 236 (0,0)) N;have mk:=aE.make (k:=1) (H.le.refl kZ) N (cells:=[Value.pointer (some ⟨dL.b,0,none⟩),.pointer (some ⟨bO.b,0,none⟩)].toArray) (e:=236) (n:=2) (by omega) rfl;obtain⟨fH,EG⟩:∃fH,fH=kZ.ins g (.cells [Value.pointer (some ⟨dL.b,0,none⟩),.pointer (some ⟨bO.b,0,none⟩)].toArray 236 (0,0)):=⟨_,rfl⟩;have OO:fH g≠none:=by rw[EG,aS];simp
   rw[<-EG] at ps mk ⊢;refine⟨(lub yH).trans ps,λn49 wA=>?_⟩;obtain⟨hZ,gD⟩:∃bW:en,bW=⟨n49,3,bD,⟨none,0,0⟩,oJ.v,[],R,⟨none,0,0⟩,[],⟨some ⟨g,0,none⟩,2,2⟩⟩:=⟨_,rfl⟩;have gO:(Obj.cells #[.int .i64 3,.slice bD.a bD.n bD.c,.slice none 0 0,.int .u64 (cK R),.int .u64 (cO R),.slice none 0 0,.slice none 0 0,.slice (some ⟨g,0,none⟩) 2 2] 336 (0,0))=.cells (fl hZ).toArray 336 (0,0):=by rw[gD];rfl
   show K (some ⟨n49,0,none⟩) (fH.ins n49 (Obj.cells #[.int .i64 3,.slice bD.a bD.n bD.c,.slice none 0 0,.int .u64 (cK R),.int .u64 (cO R),.slice none 0 0,.slice none 0 0,.slice (some ⟨g,0,none⟩) 2 2] 336 (0,0)));rw[gO];have tM:=bN (u:=fH) (b:=n49) (.cells (fl hZ).toArray 336 (0,0)) wA;obtain⟨zh,Yh⟩:∃zh,zh=fH.ins n49 (.cells (fl hZ).toArray 336 (0,0)):=⟨_,rfl⟩;have key:=ae zh (.mk hZ [dL,bO]);have d49:zh n49=some (.cells (fl hZ).toArray 336 (0,0)):=by rw[Yh];exact aS _ _ _
   rw[<-Yh] at tM ⊢;have Oc:(aq.mk hZ [dL,bO]).b=n49:=by rw[gD];rfl
   rw[Oc] at key;have Jn:kZ.le zh:=ps.trans tM;have Tf:∀c o,u32 c=some o->c≠src->zh c=some o:=λc o h1 h2=>Jn c o (yH c o h1 h2);have ab6:=lub Tf;have Jl:∀c,bD.ad=some c->u32 c≠none/\c≠src:=λc E=>⟨Ru Fw E,(fresh (ci c E)).2.1⟩;have Bh:∀{a b:H},(∀c o,a c=some o->c≠src->b c=some o)->∀{c},a c≠none->c≠src->b c≠none:=λ{a b} h {c} E hs=>by obtain⟨o,bG⟩:=Option.ne_none_iff_exists'.1 E;rw[h c o bG hs];simp
   have yK:∀{c},kZ c≠none->fH c≠none:=λE e=>E (ps.none e);have alr:∀{c},fH c≠none->zh c≠none:=λE e=>E (tM.none e);have abB:∀{c},kZ c=none->c≠src:=λE e=>by
    obtain⟨nk,IV⟩:=Z.src
    grind
   have ac3:∀{c},H.no Cl src c=none->c≠src->Cl c=none:=λh hs=>by rw[JJ hs] at h;exact h
   have ac4:∀{c},H.no z src c=none->c≠src->z c=none:=λh hs=>by rw[JJ hs] at h;exact h
   have ari:∀{z:H},ub.le z->∀{c},z c=none->ub c=none:=λ{_} h {_} E=>H.le.none h E;have jh:(aq.mk hZ [dL,bO]).own=n49::((bD.ad.toList++ [g])++(dL.own++bO.own)):=by rw[aq.pu,gD];simp[aq.h,aq.kids,en.cT,J.ad]
   have x3:(aq.mk hZ [dL,bO]).bC=(hZ,[dL.b,bO.b])::(dL.bC++bO.bC):=by rw[aq.gg];simp[aq.h,aq.kids]
   have QQ:∀c∈(bD.ad.toList++ [g])++(dL.own++bO.own),ub c=none/\fH c≠none/\c≠src:=λc dU=>by
    simp only[List.mem_append,Option.mem_toList,List.mem_singleton] at dU;rcases dU with(dU|rfl)|dU|dU;obtain⟨cC,cz⟩:=Jl c dU;exact⟨(fresh (ci c dU)).1,yK (Bh yH cC cz),cz⟩;exact⟨(lub yH).none N,OO,abB N⟩;obtain⟨cC,cz,ff⟩:=E.out c dU;exact⟨ari (lub QB) (ac3 cC ff),yK (Bh q7 cz ff),ff⟩;obtain⟨cC,cz,ff⟩:=Z.out c dU
    grind
   refine key ⟨λy af=>?_,?_,λc dU=>?_,?_,?_,λy af r W=>?_,?_,λc o On jx kJ=>Tf c o (uP c o (Y4 c o (e6 c o On kJ)) jx) kJ,?_,?_,?_⟩;rw[x3] at af;rcases List.mem_cons.1 af with rfl|af;subst gD;exact⟨d49,Fw.le λc o e2 bG=>Tf c o bG (Jl c e2).2,Own.nil _ _ _,Own.nil _ _ _,λr W=>(by cases W),(mk.mono tM).own.bR⟩;rcases List.mem_append.1 af with af|af;exact(E.one y af).bd (λc o dU bG=>Jn c o (q7 c o bG (E.out c (List.mem_flatMap.2 ⟨y,af,dU⟩)).2.2)) λr W=>(tD r (List.mem_of_mem_take (E.rows y af r W))).mono ab6;exact(Z.one y af).bd (λc o _ bG=>Jn c o bG) λr W=>(tD r (List.mem_of_mem_drop (Z.rows y af r W))).mono ab6;rw[jh,List.nodup_cons];refine⟨λhm=>(QQ n49 hm).2.1 wA,?_⟩;have dk:∀o:Option Nat,o.toList.Nodup:=λo=>by cases o<;>simp
   rw[List.nodup_append,List.nodup_append,List.nodup_append];refine⟨⟨dk _,by simp,λa ap b dJ e=>?_⟩,⟨E.nodup,Z.nodup,λa ap b dJ e=>?_⟩,λa ap b dJ e=>?_⟩;rw[List.mem_singleton] at dJ;rw[Option.mem_toList] at ap;rw[<-e] at dJ;subst dJ;obtain⟨cC,cz⟩:=Jl a ap;exact Bh yH cC cz N;subst e;obtain⟨_,cz,ff⟩:=E.out a ap;exact cz (ac4 (Z.out a dJ).1 ff);subst e;simp only[List.mem_append,Option.mem_toList,List.mem_singleton] at ap dJ;rcases ap with ap|rfl;obtain⟨cC,cz⟩:=Jl a ap;rcases dJ with dJ|dJ;exact Bh QB cC cz (ac3 (E.out a dJ).1 cz);exact Bh aP cC cz (ac4 (Z.out a dJ).1 cz);rcases dJ with dJ|dJ;obtain⟨_,cz,ff⟩:=E.out a dJ;exact Bh q7 cz ff N;exact(Z.out a dJ).2.1 N;rw[jh] at dU;rcases List.mem_cons.1 dU with rfl|dU;exact⟨(lub yH).none (ps.none wA),by rw[d49];simp,abB (ps.none wA)⟩
   grind
   rw[aq.gR,bf.all_eq,gD];show([]++bf.hV ([dL,bO].map aq.br)).Perm _;rw[List.nil_append];show(dL.br.all++(bO.br.all++ [])).Perm _;rw[List.append_nil];refine(E.all.append Z.all).trans ?_;rw[<-List.map_append,List.take_append_drop];exact aa.map _;rw[aq.gR];have ep:∀x,x∈(bf.mk hZ.ax hZ.bz hZ.hi hZ.ch (hZ.rows.map aT.bV) ([dL,bO].map aq.br)).all->x∈l.map aT.bV:=λx I=>by
    rw[bf.all_eq] at I;subst gD;have dV:x∈[]++(dL.br.all++(bO.br.all++ [])):=I;rw[List.nil_append,List.append_nil] at dV;refine(aa.map aT.bV).mem_iff.1 ?_;rcases List.mem_append.1 dV with dV|dV;obtain⟨r,W,rfl⟩:=List.mem_map.1 (E.all.mem_iff.1 dV)
    grind
    obtain⟨r,W,rfl⟩:=List.mem_map.1 (Z.all.mem_iff.1 dV)
    grind
   subst gD;refine .mk (jC [] []) (λx I=>ins [] [] x (ep x I)) λk hk=>?_;have cR:k∈[dL.br,bO.br]:=hk;simp only[List.mem_cons,List.not_mem_nil,or_false] at cR;rcases cR with rfl|rfl;exact E.ok;exact Z.ok;rw[x3] at af;rcases List.mem_cons.1 af with rfl|af;subst gD;cases W;rcases List.mem_append.1 af with af|af;exact aa.mem_iff.1 (List.mem_of_mem_take (E.rows y af r W));exact aa.mem_iff.1 (List.mem_of_mem_drop (Z.rows y af r W));rw[x3,List.length_cons,List.length_append];have aO:=E.size;have ar:=Z.size;omega;obtain⟨nk,IV⟩:=Z.src;exact⟨nk,Jn _ _ IV⟩;rw[aq.gR,gD];refine .mk rfl λk hk=>?_;have cR:k∈[dL.br,bO.br]:=hk;simp only[List.mem_cons,List.not_mem_nil,or_false] at cR;rcases cR with rfl|rfl;exact E.py;exact Z.py;refine UK (.inr rfl) λk hk=>?_;simp only[List.mem_cons,List.not_mem_nil,or_false] at hk;rcases hk with rfl|rfl;exact E.bin;exact Z.bin
  have z0:∀c o,u32 c=some o->c≠src->u32 c=some o:=λ_ _ h _=>h;have left:∀{Q:J->H->Prop},(∀t eK,aE u32 eK 34 2 t ((m.take dG).flatMap cG)->Q t eK)->kA (s.part 0 dG s.c 2) u32 Q:=λ{Q} ed=>
   F1 (ZM Ic).1 (by show dG-0<=_;omega) λs' u' bG _=>ed s' u' bG
  have first:∀{t eK} {Q:Option Addr->H->Prop},aE u32 eK 34 2 t ((m.take dG).flatMap cG)->(∀z dL,kc (H.no u32 src) eK src t (m.take dG) d z dL->(∀c o,u32 c=some o->c≠src->z c=some o)->Q (some ⟨dL.b,0,none⟩) z)->fQ Tryz.prog (s9 n0 cb) #[.slice t.a t.n t.c] [.one .ptr] eK Q:=λgG ed=>
   wZ z0 aof gG yk (by omega) (List.take_sublist _ _) λu' n E aP=>ed u' n E aP
  refine⟨by decide,⟨by omega,by omega⟩,ub,j2,_,cr.c1,_,cr.c1,?_,?_⟩;refine FX ⟨j2,left λt eK gG=>⟨j2.trans gG.le,?_,?_⟩,?_⟩;exact first gG λz dL E aP=>⟨lub aP,vr ⟨lub aP,second z0 aP E⟩⟩
  exact vr ⟨j2.trans gG.le,first gG λz dL E aP=>⟨lub aP,second z0 aP E⟩⟩;exact vr ⟨j2,left λt eK gG=>⟨j2.trans gG.le,first gG λz dL E aP=>⟨lub aP,second z0 aP E⟩⟩⟩;exact vr ⟨j2,FX ⟨j2,left λt eK gG=>⟨j2.trans gG.le,first gG λz dL E aP=>⟨lub aP,second z0 aP E⟩⟩⟩⟩
end pO
end
namespace pO
def CU:fi Tryz.prog 378=true:=by kernel_rfl
def ME:fi Tryz.prog 379=true:=by kernel_rfl
def M9{ub:H}{n0:Nat}{id:Int}(c0:ub.cell? ⟨n0,0,none⟩=some (.int .i64 id)):G8 ub (.func (.func 379) #[] #[.pointer (some ⟨n0,0,none⟩)]) λr=>decide (r.id=id):=λr v K av ae=>
 .inl ⟨_,_,_,rfl,fg ME,aug r.id r.s ⟨n0,0,none⟩ v K ⟨_,H.le.cell (show ub.le v from av) c0,ae⟩⟩
theorem Sq{ub:H}{n0 cb:Nat}{id:Int}(c0:ub.cell? ⟨n0,0,none⟩=some (.int .i64 id))(c1:ub.cell? ⟨cb,0,none⟩=some (.func (.func 378) #[] #[.pointer (some ⟨n0,0,none⟩),.pointer (some ⟨cb,0,none⟩)])):
  ∀(n:aq) {u:H} {K:H->Prop},ub.le u->(∀x∈n.bC,gY u x)->n.own.Nodup->(∀c∈n.own,ub c=none)->(∀x∈n.bC,∀r∈x.1.rows,Ints ub r.s r.v)->n.bC.length<=10000000->(∀u' n',zC id n u' n'->(∀c o,u c=some o->c∉n.own->u' c=some o)->(∀c,u c≠none->u' c≠none)->K u')->
   T8 (some ⟨n.b,0,none⟩) ⟨n0,0,none⟩ ⟨cb,0,none⟩ u K:=by
 intro n
 induction n using aq.ind with
 |h n aG=>
  intro u K cy p5 bX mr lk cA ae;have bW:(n.h,n.kids.map aq.b)∈n.bC:=by rw[aq.gg];exact List.mem_cons_self ..
  have h0:=p5 _ bW;have Z:n.b=n.h.b:=rfl;rw[aq.pu] at bX mr;have p2:=bX;rw[List.nodup_append] at p2;obtain⟨gF,ef,pj⟩:=p2;have EA:∀g,n.h.a7.ad=some g->g∈n.h.cT:=λg N=>by simp[en.cT,N]
  have EB:n.h.a7.ad≠some n.h.b:=λe=>by
   unfold en.cT at gF
   grind
  have alD:n.kids.length<=10000000:=by
   have h1:n.bC.length=1+(n.kids.flatMap aq.bC).length:=by rw[aq.gg,List.length_cons];omega
   have h2:∀ks:List aq,ks.length<=(ks.flatMap aq.bC).length:=λks=>by
    induction ks with
    |nil=>simp|cons k ks A8=>rw[List.flatMap_cons,List.length_append,List.length_cons];have:=k.WV;omega
   have:=h2 n.kids;omega
  apply auf;refine⟨_,rfl,n.h.a7,aV h0.cell 6,?_⟩;refine abn h0.rws.f (M9 c0) cy (λg N=>mr g (List.mem_append_left _ (EA g N))) λs2 dm dD jd h4=>?_;have uR:(n.h.rows.filter λr=>!decide (r.id=id))=n.h.rows.filter λr=>r.id !=id:=List.filter_congr λr _=>by grind
  rw[uR] at dD;refine⟨_,rfl,?_⟩;have Oi:dm n.h.b=some (.cells (fl n.h).toArray 336 (0,0)):=h4 _ _ h0.cell EB;refine SC Oi s2 (n.h.rows.filter λr=>r.id !=id) ?_;obtain⟨bx,ko⟩:∃bx:en,bx={n.h with a7:=s2,rows:=n.h.rows.filter λr=>r.id !=id}:=⟨_,rfl⟩;rw[<-ko];have dJ:bx.b=n.h.b:=by rw[ko]
  have DI:bx.cT=n.h.cT:=by rw[ko];unfold en.cT;simp[jd]
  obtain⟨dN,q2⟩:∃dN,dN=dm.ins n.h.b (.cells (fl bx).toArray 336 (0,0)):=⟨_,rfl⟩;rw[<-q2];have qm:dN n.h.b=some (.cells (fl bx).toArray 336 (0,0)):=by rw[q2];exact aS _ _ _
  have pQ:∀c o,dm c=some o->c≠n.h.b->dN c=some o:=λc o E ah=>by rw[q2,aL _ _ ah];exact E
  have e6:∀c o,u c=some o->c∉n.h.cT->dN c=some o:=λc o E ah=>pQ c o (h4 c o E λe=>ah (EA c e)) λe=>ah (by rw[e];exact List.mem_cons_self ..);have QS:∀c,u c≠none->dN c≠none:=λc E=>by by_cases e:c=n.h.b;rw[e,qm];simp;obtain⟨o,U⟩:=Option.ne_none_iff_exists'.1 E;by_cases ar:n.h.a7.ad=some c;obtain⟨wV,nG⟩:=Option.ne_none_iff_exists'.1 (fj dD (g:=c) (by rw[jd];exact ar));rw[pQ c wV nG e];simp;rw[pQ c o (h4 c o U ar) e];simp
  have q3:ub.le dN:=λc o E=>e6 c o (cy c o E) λhm=>by grind
  have Fx:∀{e k:Nat} {s:J} {xs:List Value},Own u e k s xs->(∀g,s.ad=some g->g≠n.h.b/\n.h.a7.ad≠some g)->Own dN e k s xs:=λU ah=>U.le λc o E hu=>pQ c o (h4 c o hu λe=>(ah c E).2 e) (ah c E).1;have hy:(∀g,n.h.bD.ad=some g->g≠n.h.b/\n.h.a7.ad≠some g)/\(∀g,n.h.e7.ad=some g->g≠n.h.b/\n.h.a7.ad≠some g)/\(∀g,n.h.dw.ad=some g->g≠n.h.b/\n.h.a7.ad≠some g):=by unfold en.cT at gF;rw[List.nodup_cons] at gF;obtain⟨cC,cz⟩:=gF;have ay:∀g,g∈n.h.bD.ad.toList++n.h.e7.ad.toList++n.h.a7.ad.toList++n.h.dw.ad.toList->g≠n.h.b:=λg N e=>cC (by rw[<-e];exact N);rw[List.nodup_append,List.nodup_append,List.nodup_append] at cz;obtain⟨⟨⟨_,_,ff⟩,_,jn⟩,_,iv⟩:=cz;refine⟨λg N=>⟨ay g (by simp[N]),λe=>jn g (by simp[N]) g (by simp[e]) rfl⟩,λg N=>⟨ay g (by simp[N]),λe=>jn g (by simp[N]) g (by simp[e]) rfl⟩,λg N=>⟨ay g (by simp[N]),λe=>iv g (by simp[e]) g (by simp[N]) rfl⟩⟩
  have Dz:∀sl,sl=n.kids.map aq.b->gY dN (bx,sl):=λsl O4=>by subst O4;subst ko;refine⟨qm,Fx h0.bz hy.1,Fx h0.hi hy.2.1,dD.own.le λc o E hu=>pQ c o hu λe=>EB (by rw[<-jd,E,e]),λr W=>(lk _ bW r (List.mem_filter.1 W).1).mono q3,bb.else h0.nf λg o N U=>pQ g o (h4 g o U λe=>(hy.2.2 g N).2 e) (hy.2.2 g N).1⟩
  have yu:bx.dw=n.h.dw:=by rw[ko]
  refine⟨_,rfl,bx.dw,by rw[Z];exact aV qm 7,?_⟩;refine⟨λx w=>0<=x/\x<=n.kids.length/\(∀c o,dN c=some o->c∉n.kids.flatMap aq.own->w c=some o)/\(∀c,dN c≠none->w c≠none)/\∃ds:List aq,ds.length=x.toNat/\(∀(i:Nat) d k,ds[i]?=some d->n.kids[i]?=some k->zC id k w d)/\(∀(i:Nat) k,x.toNat<=i->n.kids[i]?=some k->∀y∈k.bC,gY w y),
   λx _=>((n.kids.length:Int)-x).toNat,⟨by omega,by omega,λc o E _=>E,λc E=>E,[],rfl,λi d k aj=>by simp at aj,λi k _ hk y af=>?_⟩,?_⟩
  obtain⟨fz,z2⟩:k.own ⊆ n.kids.flatMap aq.own/\True:=⟨λc E=>List.mem_flatMap.2 ⟨k,List.mem_of_getElem? hk,E⟩,trivial⟩;have EN:y∈n.bC:=by rw[aq.gg];exact List.mem_cons_of_mem _ (List.mem_flatMap.2 ⟨k,List.mem_of_getElem? hk,af⟩)
  refine(p5 y EN).bd (λc o E U=>e6 c o U λhm=>pj c hm c (fz (List.mem_flatMap.2 ⟨y,af,E⟩)) rfl) λr W=>(lk y EN r W).mono q3;rintro x w ⟨b0,cJ,ow,lR,ds,Ou,r4,tJ⟩;have jl:ub.le w:=λc o E=>ow c o (q3 c o E) λhm=>by grind
  have X7:bx.dw.n=n.kids.length:=by rw[yu];have:=h0.nf.len;simp at this;omega
  have x8:∀{z:Nat} {k:aq},n.kids[z]?=some k->(∀y∈k.bC,y∈n.bC)/\(∀c∈k.own,c∈n.kids.flatMap aq.own):=λhk=>⟨λy af=>by rw[aq.gg];grind,λc E=>List.mem_flatMap.2 ⟨_,List.mem_of_getElem? hk,E⟩⟩;refine⟨λI=>?_,λI=>?_⟩;have gm:x.toNat<n.kids.length:=by omega
  obtain⟨k,hk⟩:∃k,n.kids[x.toNat]?=some k:=⟨_,List.getElem?_eq_getElem gm⟩;have PY:bb dN n.h.dw 1 ((n.kids.map aq.b).map λn=>.pointer (some ⟨n,0,none⟩)):=(Dz _ rfl).nf|>λh=>by rw[yu] at h;exact h
  have P0:bb w n.h.dw 1 ((n.kids.map aq.b).map λn=>.pointer (some ⟨n,0,none⟩)):=bb.else PY λg o N U=>ow g o U λhm=>pj g (by simp[en.cT,N]) g hm rfl;have r8:((n.kids.map aq.b).map λn=>Value.pointer (some ⟨n,0,none⟩))[x.toNat]?=some (.pointer (some ⟨k.b,0,none⟩)):=by simp[hk]
  obtain⟨p,aa,gO⟩:=P0.at'|>.resolve_left (λe=>by grind);have xZ:=gO _ _ r8;obtain⟨cv,cI⟩:=x8 hk;have il:k.own.Nodup:=ef.sublist (List.sublist_flatten_of_mem (List.mem_map_of_mem (f:=aq.own) (List.mem_of_getElem? hk)));have EC:k.bC.length<=10000000:=by
   have h1:n.bC.length=1+(n.kids.flatMap aq.bC).length:=by rw[aq.gg,List.length_cons];omega
   have h2:k.bC.length<=(n.kids.flatMap aq.bC).length:=(List.sublist_flatten_of_mem (List.mem_map_of_mem (f:=aq.bC) (List.mem_of_getElem? hk))).length_le;omega
  refine⟨p,by rw[yu];exact aa,⟨b0,by omega⟩,_,by unfold aR;rw[Nat.mul_one];exact xZ,_,jl.cell c1,.inl ⟨_,_,_,rfl,fg CU,?_⟩⟩;refine aG k (List.mem_of_getElem? hk) jl (tJ x.toNat k (Nat.le_refl _) hk) il (λc E=>mr c (List.mem_append_right _ (cI c E))) (λy af=>lk y (cv y af)) EC λaw d aj cQ AE=>?_;have EH:ub.le aw:=λc o E=>cQ c o (jl c o E) λe=>by grind
  have other:∀{i:Nat} {c7:aq},n.kids[i]?=some c7->i≠x.toNat->∀c∈c7.own,c∉k.own:=λcR ah c E=>VQ ef cR hk ah E;refine⟨⟨by omega,by omega⟩,⟨by omega,by omega,λc o E hm=>cQ c o (ow c o E hm) λe=>hm (cI c e),λc E=>AE c (lR c E),ds++ [d],by grind,λi jc c7 hd cR=>?_,λi c7 hi cR y af=>?_⟩,by dsimp only;omega⟩;by_cases e:i<ds.length;rw[List.getElem?_append_left e] at hd;have hold:=r4 i jc c7 hd cR;have ah:=other cR (by omega);refine⟨λy af=>(hold.one y af).bd (λc o E U=>cQ c o U (ah c (by rw[<-hold.own];exact List.mem_flatMap.2 ⟨y,af,E⟩))) λr W=>?_,hold.own,hold.b,hold.br,hold.rows⟩;obtain⟨z,aP,qZ⟩:=hold.rows y af r W;exact(lk z ((x8 cR).1 z aP) r qZ).mono EH;have dC:i<(ds++ [d]).length:=(List.getElem?_eq_some_iff.1 hd).1;rw[List.length_append,List.length_singleton] at dC;have HC:i=x.toNat:=by omega
  rw[List.getElem?_append_right (by omega),show i-ds.length=0 by omega] at hd;obtain rfl:=Option.some.inj (show some d=some jc from hd);rw[HC,hk] at cR;obtain rfl:=Option.some.inj cR;exact aj;refine(tJ i c7 (by omega) cR y af).bd (λc o E U=>cQ c o U (other cR (by omega) c (List.mem_flatMap.2 ⟨y,af,E⟩))) λr W=>(lk y ((x8 cR).1 y af) r W).mono EH;have gm:x.toNat=n.kids.length:=by omega
  have aiu:ds.length=n.kids.length:=by omega
  have xG:∀{γ:Type} (f g:aq->γ),(∀(i:Nat) d k,ds[i]?=some d->n.kids[i]?=some k->f d=g k)->ds.map f=n.kids.map g:=λf g OJ=>by
   apply List.ext_getElem?
   grind
  have nv:ds.map aq.b=n.kids.map aq.b:=xG _ _ λi d k h1 h2=>(r4 i d k h1 h2).b;have Nl:ds.flatMap aq.own=n.kids.flatMap aq.own:=by rw[List.flatMap_def,List.flatMap_def,xG aq.own aq.own λi d k h1 h2=>(r4 i d k h1 h2).own]
  have xK:ds.map aq.br=n.kids.map λk=>k.br.del id:=xG _ _ λi d k h1 h2=>(r4 i d k h1 h2).br;have mem:∀d∈ds,∃k∈n.kids,zC id k w d:=λd aj=>by obtain⟨i,hi,rfl⟩:=List.getElem_of_mem aj;exact⟨_,List.getElem_mem (show i<n.kids.length by omega),r4 i _ _ (List.getElem?_eq_getElem hi) (List.getElem?_eq_getElem (by omega))⟩
  refine ae w (.mk bx ds) ⟨λy af=>?_,?_,dJ,?_,λy af r W=>?_⟩ (λc o E hm=>?_) λc E=>lR c (QS c E);rw[aq.gg] at af;rcases List.mem_cons.1 af with rfl|af;refine(Dz _ nv).bd (λc o E U=>ow c o U λhm=>pj c (by rw[<-DI];exact E) c hm rfl) λr W=>?_;have ek:r∈n.h.rows:=by grind
  exact(lk _ bW r ek).mono jl;obtain⟨d,aj,af⟩:=List.mem_flatMap.1 af;obtain⟨k,_,hk⟩:=mem d aj;exact hk.one y af;rw[aq.pu,aq.pu];show bx.cT++ds.flatMap aq.own=_;rw[DI,Nl];rw[aq.gR,aq.gR,bf.del_eq];show bf.mk bx.ax bx.bz bx.hi bx.ch (bx.rows.map aT.bV) (ds.map aq.br)=bf.mk n.h.ax n.h.bz n.h.hi n.h.ch ((n.h.rows.map aT.bV).filter λx=>x.1 !=id) ((n.kids.map aq.br).map (bf.del id));rw[xK,List.map_map,List.filter_map,ko];rfl;rw[aq.gg] at af;rcases List.mem_cons.1 af with rfl|af;have ek:r∈n.h.rows:=by have:r∈bx.rows:=W;rw[ko] at this;exact(List.mem_filter.1 this).1
  exact⟨_,bW,ek⟩;obtain⟨d,aj,af⟩:=List.mem_flatMap.1 af;obtain⟨k,ot,hk⟩:=mem d aj;obtain⟨z,aP,qZ⟩:=hk.rows y af r W;exact⟨z,by rw[aq.gg];grind,qZ⟩;rw[aq.pu] at hm
  grind
end pO
section
variable{u:H}{s:J}{d:Int}
open Go.Sort Go.Shelf
structure rJ(Y u:H)(s:J)(ls:List aT):Prop where
 own:aE Y u 34 2 s (ls.flatMap cG)
 inner:∀r∈ls,aE Y u 3 1 r.s (r.v.flatMap encI)
 eR:∀r∈ls,eP s r.s
 apart:ls.Pairwise λa b=>eP a.s b.s
def rJ.rws{Y:H}{ls:List aT}(h:rJ Y u s ls):ev u s ls:=⟨h.own.own.bR,λr W=>(h.inner r W).ints⟩
def rJ.mono{Y u':H}{ls:List aT}(h:rJ Y u s ls)(k:u.le u'):rJ Y u' s ls:=
 ⟨h.own.mono k,λr W=>(h.inner r W).mono k,h.eR,h.apart⟩
def vN(r:aT):Prop:=1<=r.id/\r.id<=1000000000
theorem an1:SWO (ltOf λa b:{r//vN r}=>a.1.id-b.1.id) where
 irrefl x:=by unfold ltOf;simp
 trans x y z h1 h2:=by unfold ltOf at*;grind
 ntrans x y z h1 h2:=by unfold ltOf at*;grind
instance:Inhabited {r//vN r}:=⟨⟨⟨1,⟨none,0,0⟩,[]⟩,by unfold vN;decide⟩⟩
theorem Kr{l:List aT}{K:J->H->Prop}(hs:ev u s l)(hid:∀r∈l,1<=r.id/\r.id<=1000000000)(ac:l.length<=1000000)(av:∀r∈l,r.v.length<=1000000)
  (ae:∀s' ls u',rJ u u' s' ls->(ls.map aT.bV).Perm (l.map aT.bV)->(ls.Pairwise λa b=>a.id<=b.id)->K s' u'):vB s u K:=by
 have cY:=hs.len
 apply asa
 refine aoy nV (by omega) (Int.le_refl _) (by omega) (by omega) λg N=>?_
 have awC:∀(n:Nat),(madeCells [Value.int .i64 0,.slice none 0 0].toArray (n*2)).toList=(List.replicate n (⟨0,⟨none,0,0⟩,[]⟩:aT)).flatMap cG:=λn=>Zn (enc:=cG) fh (by decide) ⟨0,⟨none,0,0⟩,[]⟩ n
 obtain⟨cs,kJ⟩:∃cs,madeCells [Value.int .i64 0,.slice none 0 0].toArray ((s.n:Int).toNat*2)=cs:=⟨_,rfl⟩
 have fT:cs.toList=(List.replicate l.length (⟨0,⟨none,0,0⟩,[]⟩:aT)).flatMap cG:=by grind
 rw[kJ]
 have aiq:cs.size=l.length*2:=by rw[<-Array.length_toList,fT,qM fh];simp
 have iT:aE u (u.ins g (.cells cs 34 (0,0))) 34 2 ⟨some ⟨g,0,none⟩,l.length,l.length⟩ ((List.replicate l.length (⟨0,⟨none,0,0⟩,[]⟩:aT)).flatMap cG):=by have:=aE.make (k:=2) (H.le.refl u) N (cells:=cs) (e:=34) (n:=l.length) (by omega) aiq;rw[fT] at this;exact this
 rw[show(s.n:Int).toNat=l.length by omega]
 have hblk:(⟨some ⟨g,0,none⟩,l.length,l.length⟩:J).ad=some g:=rfl
 refine⟨λi w=>0<=i/\i<=l.length/\∃D:List aT,D.map aT.bV=(l.take i.toNat).map aT.bV/\rJ u w ⟨some ⟨g,0,none⟩,l.length,l.length⟩ (D++List.replicate (l.length-i.toNat) ⟨0,⟨none,0,0⟩,[]⟩),
  λi _=>l.length-i.toNat,⟨by omega,by omega,[],by simp,?_⟩,?_⟩
 refine⟨by simpa using iT,λr W=>?_,λr W=>?_,?_⟩
 simp at W
 rw[W.2]
 exact aE.nil (bN _ N) _ _
 simp at W
 rw[W.2]
 intro x _ I;simp[J.ad] at I
 simp only[List.nil_append]
 rw[List.pairwise_replicate]
 exact .inr λx I=>by simp[J.ad] at I
 rintro i w ⟨i0,i1,D,fb,b8⟩
 have ahn:D.length=i.toNat:=by have:=congrArg List.length fb;simp at this;omega
 refine⟨λdC=>?_,λOX=>?_⟩
 obtain⟨p,aa,r,W,c0,c1,c2⟩:=(hs.mono b8.own.le).at i0 dC
 have gx:r∈l:=List.mem_of_getElem? W
 have XZ:=c2.len
 have:=av r gx
 refine⟨p,aa,⟨i0,dC⟩,_,c0,_,c1,rq c2 (by omega) λj8 hP AT p0=>⟨AT.le,_,rfl,⟨i0,by grind⟩,?_⟩⟩
 have ahL:=b8.mono AT.le
 refine aE.store (enc:=cG) fh ahL.own (by decide) (i:=i.toNat) (by simp;omega) (y:=⟨r.id,j8,r.v⟩) (Nh _) rfl λhQ Px WT _=>⟨⟨by omega,by omega⟩,⟨by omega,by omega,D++ [⟨r.id,j8,r.v⟩],?_,?_⟩,by dsimp only;omega⟩
 rw[show(i+1).toNat=i.toNat+1 by omega,List.take_add_one,W,List.map_append,fb]
 simp[aT.bV]
 have iL:(D++List.replicate (l.length-i.toNat) (⟨0,⟨none,0,0⟩,[]⟩:aT)).set i.toNat ⟨r.id,j8,r.v⟩=D++ [⟨r.id,j8,r.v⟩]++List.replicate (l.length-(i+1).toNat) ⟨0,⟨none,0,0⟩,[]⟩:=by rw[show l.length-i.toNat=(l.length-(i+1).toNat)+1 by omega,List.replicate_succ,<-ahn,aoJ];simp
 rw[iL] at Px
 have hold:∀x∈D,aE u w 3 1 x.s (x.v.flatMap encI):=λx I=>b8.inner x (List.mem_append_left _ I)
 have aiR:w g≠none:=fj b8.own hblk
 have awU:j8.ad≠some g:=λe=>aiR (AT.fresh g e)
 have aiK:∀x∈D,eP x.s j8:=λx I c E e2=>fj (hold x I) E (AT.fresh c e2)
 have Wi:∀x∈D,eP ⟨some ⟨g,0,none⟩,l.length,l.length⟩ x.s:=λx I=>b8.eR x (List.mem_append_left _ I)
 refine⟨Px,λx I=>?_,λx I=>?_,?_⟩
 rcases List.mem_append.1 I with I|I
 rcases List.mem_append.1 I with I|I
 exact aE.else ((hold x I).mono AT.le) WT (λc E=>b8.own.fresh c E) λc E=>Wi x I c E
 simp at I
 subst I
 exact aE.else (AT.weaken b8.own.le) WT (λc E=>b8.own.fresh c E) λc E=>by
  grind
 rw[(List.mem_replicate.1 I).2]
 exact aE.nil (Px.le) _ _
 rcases List.mem_append.1 I with I|I
 rcases List.mem_append.1 I with I|I
 exact Wi x I
 simp at I
 subst I
 intro c E
 grind
 rw[(List.mem_replicate.1 I).2]
 intro c _ E;simp[J.ad] at E
 have hy:=(List.pairwise_append.1 b8.apart).1
 refine List.pairwise_append.2 ⟨List.pairwise_append.2 ⟨hy,by simp,λx I y af=>?_⟩,?_,λx I y af=>?_⟩
 simp at af;subst af;exact aiK x I
 rw[List.pairwise_replicate]
 exact .inr λc E=>by simp[J.ad] at E
 rw[(List.mem_replicate.1 af).2]
 intro c _ E;simp[J.ad] at E
 have dC:i.toNat=l.length:=by omega
 rw[dC,Nat.sub_self,List.replicate_zero,List.append_nil] at b8
 rw[dC,List.take_length] at fb
 have cr:∀r∈D,vN r:=λr W=>by
  have:r.bV∈l.map aT.bV:=by grind
  obtain⟨eB,ek,e⟩:=List.mem_map.1 this;have h1:=hid eB ek;have:eB.id=r.id:=congrArg Prod.fst e;unfold vN;rw[<-this];exact h1
 obtain⟨au,hY⟩:∃au:List {r//vN r},au.map (·.1)=D:=⟨D.attachWith _ cr,by simp⟩
 have jh:=b8.own
 rw[<-hY] at jh
 refine aqa (val:=λr:{r//vN r}=>r.1) an1 (enters_of Tryz.func132 (by kernel_rfl) rfl) (λa b v=>?_) jh (by grind) λbE E' aa p7 dD h4=>ae _ (E'.map (·.1)) _ ?_ ?_ ?_
 have ap:=a.2
 have Z:=b.2
 unfold vN at ap Z
 exact asb a.1.id a.1.s b.1.id b.1.s v (λeK bE=>eK=a.1.id-b.1.id/\bE=v) ⟨⟨by omega,by omega⟩,rfl,rfl⟩
 have tI:(E'.map (·.1)).Perm D:=by grind
 have Ea:∀x∈E'.map (·.1),x∈D:=λx I=>tI.mem_iff.1 I
 exact⟨dD,λr W=>aE.else (b8.inner r (Ea r W)) h4 (λc E=>b8.own.fresh c E) λc E=>b8.eR r (Ea r W) c E,λr W=>b8.eR r (Ea r W),b8.apart.perm tI.symm λh=>h.symm⟩
 grind
 grind
def hA(id:Int)(v:List Int)(d:Int)(there:Bool)(many:Int):Int:=
 if id<1∨1000000000<id then 50 else if fV v d≠0 then fV v d else if there=false/\512<=many then 2 else 0
theorem Kq{id:Int}{v:List Int}{there:Bool}{many:Int}{K:Int->H->Prop}(hs:Ints u s v)(h:K (hA id v d there many) u):Co id s d there many u K:=by
 apply ar9;refine pA hs ?_;intro js hc;have go:∀cF:Bool,(cF=true↔(id<1∨1000000000<id))->js cF u:=λcF Z=>hc cF u ⟨λe=>?_,λe=>⟨λah=>?_,λhe=>⟨λht=>⟨λhm=>?_,λhm=>?_⟩,λht=>?_⟩⟩⟩;exact⟨λh1=>go true ⟨λ_=>.inl h1,λ_=>rfl⟩,λh1=>go _ ⟨λe=>.inr (by simpa using e),λe=>by simp;omega⟩⟩;unfold hA at h;rw[if_pos (Z.1 e)] at h;exact h
 all_goals
  have uY:¬(id<1∨1000000000<id):=λar=>by grind
  unfold hA at h;rw[if_neg uY] at h
 rw[if_pos ah] at h;exact h;rw[if_neg (by simpa using he),if_pos ⟨by simpa using ht,hm⟩] at h;exact h;rw[if_neg (by simpa using he),if_neg (λh2=>hm h2.2)] at h;exact h;rw[if_neg (by simpa using he),if_neg (λh2=>by rw[ht] at h2;cases h2.1)] at h;exact h
def iE(q:List Int)(d k b:Int):Int:=if fV q d≠0 then fV q d else if k<1∨64<k∨b<0∨1000000<b then 1 else 0
def Sr{t:J}{q:List Int}{k b:Int}{K:Int->H->Prop}(ht:Ints u t q)(h:K (iE q d k b) u):Cn t d k b u K:=by unfold iE at h;apply ar7;refine pA ht ⟨λah=>by rw[if_pos ah] at h;exact h,λhe=>?_⟩;rw[if_neg (by simpa using he)] at h;by_cases dT:k<1∨64<k∨b<0∨1000000<b;rw[if_pos dT] at h;exact⟨λ_=>h,λcv=>⟨λ_=>h,λcI=>⟨λ_=>h,λeQ=>⟨λ_=>h,λeI=>by omega⟩⟩⟩⟩;rw[if_neg dT] at h;exact⟨λcv=>by omega,λ_=>⟨λcI=>by omega,λ_=>⟨λeQ=>by omega,λ_=>⟨λeI=>by omega,λ_=>h⟩⟩⟩⟩
def CR{q:List Int}{k b:Int}:iE q d k b=0↔fV q d=0/\1<=k/\k<=64/\0<=b/\b<=1000000:=by unfold iE;omega
end
namespace pO
section
variable{u:H}{b:Nat}
theorem Kl{ub:H}{iz src:Nat}{d leaf:Int}{s:J}{l:List aT}{K:Option Addr->H->Prop}(qU:1<=leaf)(ry:ub.cell? ((Addr.mk iz 0 none).add 1)=some (.int .i64 leaf))(bY:ub.cell? ((Addr.mk iz 0 none).add 2)=some (.pointer (some ⟨src,0,none⟩)))(sg:ub src=none)(dc:zM u src)(q0:s.ad≠some src)
  (U:aE ub u 34 2 s (l.flatMap cG)) (av:∀r∈l,Ints ub r.s r.v) (bL:hp l d) (h0:l=[]->∀u',u.le u'->K none u') (ae:l≠[]->∀u' n,kc ub u src s l d u' n->K (some ⟨n.b,0,none⟩) u'):Ub (some ⟨iz,0,none⟩) s u K:=by
 have cy:=U.le
 apply auj
 intro n0 et cb gF
 obtain⟨eV,iT⟩:∃eV,eV=(Obj.cells #[Value.pointer (some ⟨iz,0,none⟩)] 157 (0,0)):=⟨_,rfl⟩
 rw[<-iT] at gF ⊢
 have Ed:n0≠cb:=λe=>by rw[<-e,aS] at gF;cases gF
 have Ef:u cb=none:=by rw[aL _ _ (Ne.symm Ed)] at gF;exact gF
 refine oN (zs:=[.nilFunc]) rfl (by simp[Value.oneCell']) ?_
 obtain⟨dk,hz⟩:∃dk,dk=(Obj.cells [s9 n0 cb].toArray 239 (0,0)):=⟨_,rfl⟩
 rw[<-hz]
 obtain⟨bE,oB⟩:∃bE,bE=(u.ins n0 eV).ins cb dk:=⟨_,rfl⟩
 rw[<-oB]
 have tO:u.le bE:=by rw[oB];exact(bN _ et).trans (bN _ gF)
 have d0:bE n0=some eV:=by rw[oB,aL _ _ Ed,aS]
 have d1:bE cb=some dk:=by rw[oB,aS]
 obtain⟨jq,akI⟩:∃jq:H,jq=λc=>if c=n0 then some eV else if c=cb then some dk else ub c:=⟨_,rfl⟩
 have fJ:jq n0=some eV:=by grind
 have eQ:jq cb=some dk:=by grind
 have eI:∀{c},c≠n0->c≠cb->jq c=ub c:=λ{c} h1 h2=>by
  grind
 have lY:ub.le jq:=λc o E=>by rw[eI (λe=>by rw[e,cy.none et] at E;cases E) (λe=>by rw[e,cy.none Ef] at E;cases E)];exact E
 have E7:jq.le bE:=λc o E=>by
  by_cases dH:c=n0
  grind
  by_cases aO:c=cb
  grind
  rw[eI dH aO] at E;exact tO c o (cy c o E)
 have dD:aE jq bE 34 2 s (l.flatMap cG):=⟨(U.mono tO).own,E7,λg N=>by rw[eI (λe=>fj U N (by rw[e];exact et)) (λe=>fj U N (by rw[e];exact Ef))];exact U.fresh g N⟩
 have cr:rE jq n0 cb iz src leaf:=⟨by rw[iT] at fJ;exact aV fJ 0,by rw[hz] at eQ;exact aV eQ 0,H.le.cell lY ry,H.le.cell lY bY⟩
 obtain⟨bo,dc⟩:=dc
 have aro:jq src=none:=by grind
 refine⟨_,H.le.cell E7 cr.c1,.inl ⟨_,_,_,rfl,fg CT,?_⟩⟩
 exact Sp qU l.length (Nat.le_refl _) cr aro ⟨bo,tO _ _ dc⟩ q0 dD (λr W=>(av r W).mono lY) bL (λe=>h0 e bE tO) λah u' n E=>ae ah u' n ⟨E.one,E.nodup,λc hm=>⟨lY.none (E.out c hm).1,(E.out c hm).2⟩,E.all,E.ok,E.rows,E.size,λc o h1 h2 h3=>E.uG c o (tO c o h1) h2 h3,E.src,E.py,E.bin⟩
inductive aN where
 |tree|map|node|vec|src
structure ak where
 ao:Int
 leaf:Int
 src:Nat
 root:Option aq
 m:Nat
 w:List (Int×(J×List Int))
 ez:Nat
def ak.bU(T:ak):Int:=T.leaf
def fw(T:ak):List Value:=[.int .i64 T.ao,.int .i64 T.leaf,.pointer (some ⟨T.src,0,none⟩),.pointer (T.root.map λn=>⟨n.b,0,none⟩),.map (some T.m)]
def du(w:List (Int×(J×List Int))):List (Int×Value):=w.map λe=>(e.1,.slice e.2.1.a e.2.1.n e.2.1.c)
structure cP(ab:Nat->Option aN)(u:H)(b:Nat)(T:ak):Prop where
 cell:u b=some (.cells (fw T).toArray 243 (0,0))
 eh:ab b=some .tree
 map:dI u T.m (du T.w)
 dq:ab T.m=some .map
 src:zM u T.src
 dZ:ab T.src=some .src
 vec:∀e∈T.w,Ints u e.2.1 e.2.2/\∀g,e.2.1.ad=some g->ab g=some .vec
 one:∀n,T.root=some n->(∀x∈n.bC,gY u x)/\n.own.Nodup/\(∀c∈n.own,ab c=some .node)/\∀x∈n.bC,∀r∈x.1.rows,∀g,r.s.ad=some g->ab g=some .vec
theorem cP.bd{ab aM:Nat->Option aN}{u':H}{T:ak}(h:cP ab u b T)(M:∀c,ab c≠none->aM c=ab c)(hu:∀c o,u c=some o->ab c≠none->u' c=some o):cP aM u' b T where
 cell:=hu _ _ h.cell (by rw[h.eh];simp)
 eh:=by rw[M _ (by rw[h.eh];simp)];exact h.eh
 map:=h.map.else λo U=>hu _ _ U (by rw[h.dq];simp)
 dq:=by rw[M _ (by rw[h.dq];simp)];exact h.dq
 src:=h.src.elim λbo hs=>⟨bo,hu _ _ hs (by rw[h.dZ];simp)⟩
 dZ:=by rw[M _ (by rw[h.dZ];simp)];exact h.dZ
 vec e he:=by obtain⟨h1,h2⟩:=h.vec e he;exact⟨bb.else h1 λg o N U=>hu g o U (by rw[h2 g N];simp),λg N=>by grind⟩
 one n ac:=by obtain⟨h1,h2,h3,aZ⟩:=h.one n ac;refine⟨λx I=>(h1 x I).bd (λc o E U=>hu c o U (by rw[h3 c (List.mem_flatMap.2 ⟨x,I,E⟩)];simp)) λr W=>bb.else ((h1 x I).vec r W) λg o N U=>hu g o U (by grind),h2,λc E=>by grind,λx I r W g N=>by grind⟩
def bd:rG cP:=⟨λh M hu=>h.bd M hu⟩
abbrev In:=jT cP
def l4(T:ak):List iC:=match T.root with
 |none=>[]|some n=>n.br.all
def b7(X:ak):List (Int×List Int):=X.w.map λe=>(e.1,e.2.2)
structure dj(T:ak):Prop where
 ii:1<=T.ao/\T.ao<=64
 lf:1<=T.leaf/\T.leaf<=64
 ids:∀e∈T.w,1<=e.1/\e.1<=1000000000
 vec:∀e∈T.w,(e.2.2.length:Int)=T.ao/\ej e.2.2
 small:T.w.length<=512
 rows:(l4 T).Perm (b7 T)
 ok:∀n,T.root=some n->fp T.ao n.br
 py:∀n,T.root=some n->jG 3 n.br
 bin:∀n,T.root=some n->oY n.br
 size:∀n,T.root=some n->n.bC.length<=1100*T.ez+2000
def gJ:vI Tryz.prog 141 3 23 (.slice none 0 0):=⟨by kernel_rfl,by kernel_rfl,λ_=>by kernel_rfl⟩
def HH(T:ak):(du T.w).length=(b7 T).length:=by simp[du,b7]
theorem cP.zk{ab:Nat->Option aN}{T:ak}(h:cP ab u b T):((b7 T).map (·.1)).Nodup:=by
 obtain⟨es,cl,_,he⟩:=h.map;have:=he.nodup;unfold du at this;rw[List.map_map] at this;unfold b7
 grind
def Ki{Y:H}{ab:Nat->Option aN}{T:ak}{K:Int->H->Prop}(h:In Y u ab b T)(ae:K (b7 T).length u):T9 (some ⟨b,0,none⟩) u K:=by apply auh;refine⟨λe=>(by cases e),λ_=>⟨_,rfl,_,aV h.az.cell 4,sH gJ h.az.map ?_⟩⟩;rw[HH];exact ae
structure xl(Y u:H)(ab:Nat->Option aN)(b:Nat)(T:ak)(id:Int)(u':H)(aM:Nat->Option aN)(T':ak):Prop where
 is:In Y u' aM b T'
 cL:gu u ab u' aM
 ok:dj T'
 rows:b7 T'=(b7 T).filter λx=>x.1 !=id
 ao:T'.ao=T.ao
 leaf:T'.leaf=T.leaf
 ez:T'.ez=T.ez
theorem od(w:List (Int×(J×List Int)))(x:Int):(eF (du w) x=none/\x∉w.map (·.1))∨∃e,e∈w/\e.1=x/\eF (du w) x=some (.slice e.2.1.a e.2.1.n e.2.1.c):=by
 cases h:eF (du w) x with
 |none=>
  left;have:=tm.1 h;unfold du at this
  grind|some v=>
  right;have:=Dh h;obtain⟨e,he,ar⟩:=List.mem_map.1 this
  grind
def vd(T:ak):(b7 T).map (·.1)=T.w.map (·.1):=by unfold b7;rw[List.map_map];rfl
def rZ(w:List (Int×(J×List Int)))(id:Int):(du w).filter (λp=>p.1 !=id)=du (w.filter λe=>e.1 !=id):=by unfold du;rw[List.filter_map];rfl
theorem vt{Y:H}{ab:Nat->Option aN}{T:ak}{id:Int}{K:Bool->Int->H->Prop}(h:In Y u ab b T)(aJ:dj T)(kL:T.ez<=4000)(dp:id∉T.w.map (·.1)->∀u',u.le u'->K false 0 u')
  (jM:id∈T.w.map (·.1)->∀u' aM T',xl Y u ab b T id u' aM T'->K true 0 u'):T7 (some ⟨b,0,none⟩) id u K:=by
 apply aue
 intro n0 et
 obtain⟨aI,gl⟩:∃aI,aI=u.ins n0 (.cells #[.int .i64 id] 3 (0,0)):=⟨_,rfl⟩
 have b9:u.le aI:=by rw[gl];exact bN _ et
 have d0:aI n0=some (.cells #[.int .i64 id] 3 (0,0)):=by rw[gl];exact aS _ _ _
 rw[<-gl]
 have i1:=jT.mono bd h b9
 have az:=i1.az
 refine⟨λe=>(by cases e),λ_=>⟨_,rfl,_,aV az.cell 4,id,aV d0 0,?_⟩⟩
 rcases od T.w id with⟨N,hm⟩|⟨e,he,hid,N⟩
 refine mE gJ az.map (ct:=.slice) (⟨none,0,0⟩:J) (by rw[N];rfl) ⟨λ_=>dp hm aI b9,λI=>?_⟩
 rw[N] at I;cases I
 have cr:id∈T.w.map (·.1):=List.mem_map.2 ⟨e,he,hid⟩
 refine mE gJ az.map (ct:=.slice) e.2.1 (by rw[N];rfl) ⟨λI=>?_,λ_=>?_⟩
 rw[N] at I;exact absurd rfl I
 refine⟨_,rfl,_,aV az.cell 4,id,aV d0 0,?_⟩
 refine B0 gJ az.map λo kp=>?_
 obtain⟨hP,p9⟩:∃hP,hP=aI.ins T.m o:=⟨_,rfl⟩
 rw[<-p9] at kp ⊢
 have lp:∀{c},ab c≠some .map->c≠T.m:=λE e=>E (by rw[e];exact az.dq)
 have C4:∀c o,aI c=some o->c≠T.m->hP c=some o:=λc bn E ah=>by rw[p9,aL _ _ ah];exact E
 have m10:hP T.m=some o:=by rw[p9];exact aS _ _ _
 have amm:n0≠T.m:=λe=>by
  have:=h.known T.m (by rw[h.az.dq];simp)
  grind
 intro n11 yg
 refine oN (zs:=[.nilFunc]) rfl (by simp[Value.oneCell']) ?_
 obtain⟨sA,yn⟩:∃sA,sA=(Obj.cells [Value.func (.func 378) #[] #[.pointer (some ⟨n0,0,none⟩),.pointer (some ⟨n11,0,none⟩)]].toArray 475 (0,0)):=⟨_,rfl⟩
 rw[<-yn]
 obtain⟨hQ,yA⟩:∃hQ,hQ=hP.ins n11 sA:=⟨_,rfl⟩
 rw[<-yA]
 have so:hP.le hQ:=by rw[yA];exact bN _ yg
 have d11:hQ n11=some sA:=by rw[yA];exact aS _ _ _
 have uF:∀c bn,aI c=some bn->c≠T.m->hQ c=some bn:=λc bn E ah=>so c bn (C4 c bn E ah)
 have c12:hQ b=some (.cells (fw T).toArray 243 (0,0)):=uF b _ az.cell (lp (by rw[az.eh];simp))
 obtain⟨n,ac⟩:∃n,T.root=some n:=by
  cases W:T.root with
  |some n=>exact⟨n,rfl⟩|none=>have h1:=aJ.rows.length_eq;unfold l4 at h1;rw[W] at h1;have h2:=List.length_pos_of_mem he;simp[b7] at h1;omega
 obtain⟨cC,cz,ff,jn⟩:=az.one n ac
 have wj:hQ.cell? ((Addr.mk b 0 none).add 3)=some (.pointer (some ⟨n.b,0,none⟩)):=by
  have I:fw T=[.int .i64 T.ao,.int .i64 T.leaf,.pointer (some ⟨T.src,0,none⟩),.pointer (some ⟨n.b,0,none⟩),.map (some T.m)]:=by simp[fw,ac]
  rw[I] at c12;exact aV c12 3
 refine⟨_,rfl,_,by rw[yn] at d11;exact aV d11 0,_,wj,_,_,_,rfl,fg CU,?_⟩
 obtain⟨ub,cy⟩:∃ub:H,ub=λc=>open Classical in if c∈n.own then none else hQ c:=⟨_,rfl⟩
 have Gb:∀{c},c∈n.own->ub c=none:=λE=>by rw[cy];exact if_pos E
 have jq:∀{c},c∉n.own->ub c=hQ c:=λE=>by rw[cy];exact if_neg E
 have lub:ub.le hQ:=λc bn E=>by
  grind
 have nR:∀{c},ab c≠some .node->c∉n.own:=λE e=>E (ff _ e)
 have amn:n0∉n.own:=λe=>h.known n0 (by rw[ff n0 e];simp) et
 have amo:n11∉n.own:=λe=>by
  have h1:=i1.known n11 (by rw[ff n11 e];simp);obtain⟨bn,bG⟩:=Option.ne_none_iff_exists'.1 h1
  grind
 have km:ub.cell? ⟨n0,0,none⟩=some (.int .i64 id):=by
  have z0:ub n0=some (.cells #[.int .i64 id] 3 (0,0)):=by grind
  exact aV z0 0
 have iR:ub.cell? ⟨n11,0,none⟩=some (.func (.func 378) #[] #[.pointer (some ⟨n0,0,none⟩),.pointer (some ⟨n11,0,none⟩)]):=by
  have fz:ub n11=some sA:=by grind
  rw[yn] at fz;exact aV fz 0
 have lS:∀x∈n.bC,gY hQ x:=λx I=>(cC x I).bd (λc bn E bG=>uF c bn bG (lp (by rw[ff c (List.mem_flatMap.2 ⟨x,I,E⟩)];simp))) λr W=>bb.else ((cC x I).vec r W) λg bn N bG=>uF g bn bG (lp (by grind))
 have lk:∀x∈n.bC,∀r∈x.1.rows,Ints ub r.s r.v:=λx I r W=>bb.else ((cC x I).vec r W) λg bn N bG=>by
  grind
 have cA:=aJ.size n ac
 refine Sq km iR n lub lS cz (λc E=>Gb E) lk (by omega) λu16 n' aj cQ il=>?_
 have tb:∀c bn,aI c=some bn->c≠T.m->c∉n.own->u16 c=some bn:=λc bn E ah Pu=>cQ c bn (uF c bn E ah) Pu
 have MC:u16 b=some (.cells (fw T).toArray 243 (0,0)):=tb b _ az.cell (lp (by rw[az.eh];simp)) (nR (by rw[az.eh];simp))
 have Ph:dI u16 T.m (du (T.w.filter λe=>e.1 !=id)):=by rw[<-rZ];exact kp.else λbn bG=>cQ _ _ (so _ _ bG) (nR (by rw[az.dq];simp))
 have auE:∀{s:J} {v:List Int},Ints aI s v->(∀g,s.ad=some g->ab g=some .vec)->Ints u16 s v:=λhi N=>bb.else hi λg bn cH bG=>tb g bn bG (lp (by rw[N g cH];simp)) (nR (by rw[N g cH];simp))
 obtain⟨T',eS⟩:∃T':ak,T'={T with root:=some n',w:=T.w.filter λe=>e.1 !=id}:=⟨_,rfl⟩
 have uR:b7 T'=(b7 T).filter λx=>x.1 !=id:=by rw[eS];unfold b7;rw[List.filter_map];rfl
 have QL:∀c,aI c≠none->u16 c≠none:=λc E=>il c λe=>by
  by_cases ar:c=T.m;rw[ar,so _ _ m10] at e;cases e;obtain⟨bn,bG⟩:=Option.ne_none_iff_exists'.1 E
  grind
 refine jM cr u16 ab T' ⟨⟨?_,λc bn E=>?_,h.out,λc E=>QL c (i1.known c E)⟩,⟨λc bn E M=>tb c bn (b9 c bn E) (lp (by rw[M];simp)) (nR (by rw[M];simp)),λc E=>.inl E⟩,?_,uR,by rw[eS],by rw[eS],by rw[eS]⟩
 subst eS
 refine⟨?_,az.eh,Ph,az.dq,az.src.elim λbo hs=>⟨bo,tb _ _ hs (lp (by rw[az.dZ];simp)) (nR (by rw[az.dZ];simp))⟩,az.dZ,λdz eY=>?_,λdi ef=>?_⟩
 rw[MC]
 simp[fw,ac,aj.b]
 obtain⟨v1,v2⟩:=az.vec dz (List.mem_filter.1 eY).1
 grind
 obtain rfl:=Option.some.inj (show some n'=some di from ef)
 exact⟨aj.one,by rw[aj.own];exact cz,λc E=>ff c (by rw[<-aj.own];exact E),λx I r W g N=>by obtain⟨y,af,PR⟩:=aj.rows x I r W;exact jn y af r PR g N⟩
 have OH:=h.out
 have h1:=h.le c bn E
 have M:ab c=none:=by grind
 exact tb c bn (b9 c bn h1) (lp (by rw[M];simp)) (nR (by rw[M];simp))
 have AU:=aJ.ok n ac
 refine⟨by rw[eS];exact aJ.ii,by rw[eS];exact aJ.lf,λdz eY=>?_,λdz eY=>?_,?_,?_,λdi ef=>?_,λdi ef=>?_,λdi ef=>?_,λdi ef=>?_⟩
 rw[eS] at eY;exact aJ.ids dz (List.mem_filter.1 eY).1
 rw[eS] at eY ⊢;exact aJ.vec dz (List.mem_filter.1 eY).1
 rw[eS];exact Nat.le_trans (List.length_filter_le _ _) aJ.small
 rw[uR]
 have W:=aJ.rows
 rw[eS]
 unfold l4 at W ⊢
 rw[ac] at W
 show n'.br.all.Perm _
 rw[aj.br,bf.M4]
 exact W.filter _
 rw[eS] at ef ⊢
 obtain rfl:=Option.some.inj (show some n'=some di from ef)
 rw[aj.br]
 exact bf.Vf AU
 rw[eS] at ef
 obtain rfl:=Option.some.inj (show some n'=some di from ef)
 rw[aj.br]
 exact(aJ.py n ac).del
 rw[eS] at ef
 obtain rfl:=Option.some.inj (show some n'=some di from ef)
 rw[aj.br]
 exact(aJ.bin n ac).del
 rw[eS] at ef ⊢
 obtain rfl:=Option.some.inj (show some n'=some di from ef)
 rw[<-aq.BJ,aj.br,bf.Vg,aq.BJ]
 exact cA
end
end pO
theorem apR{v u:H}{n:Nat}{l:List ja}{K:Value->H->Prop}(h:oX v u n l)(bW:gb blt l.length l)(ah:0<l.length)
  (ae:∀u' m,oX v u' n (iN blt l)->k4 v m (l.getD 0 default).2->K (rh ((⟨m,0,none⟩:Addr),l.getD 0 default)) u'):xf (y0 n) u K:=by
 obtain⟨L,ed,cE,ep⟩:=h.ex
 have hlen:L.length=l.length:=by grind
 have r8:∀i,l.getD i default=(L.getD i default).2:=λi=>by rw[<-cE];exact getD_map' (f:=λe:iD=>e.2) rfl L i
 have W8:gb sE L.length L:=λi i0 i1=>by have:=bW i i0 (by omega);rw[r8,r8] at this;exact this
 obtain⟨fk,_,_,_⟩:=Fz ZV W8 (by omega)
 refine apB (ZU v n) ZV (V:=rh) ed W8 (by omega) (λ{u' bi x e5} hs hk=>?_) λu' hs=>?_
 refine anK hs (by simp) λgL X0=>?_
 rw[List.dropLast_concat] at X0
 have e:(bi++ [x]).getD ((bi++ [x]).length-1) default=x:=by grind
 rw[e]
 exact hk gL X0
 have h0:L.getD 0 default∈L:=by grind
 obtain⟨m,hm,aa⟩:=ep _ h0
 have e:L.getD 0 default=((⟨m,0,none⟩:Addr),l.getD 0 default):=by rw[r8,<-hm]
 rw[e]
 refine ae u' m ⟨iN sE L,hs,?_,λy af=>ep y (fk.mem_iff.1 (List.mem_cons_of_mem _ af))⟩ (by rw[r8];exact aa)
 have ar:=anj (α:=iD) (β:=ja) (lt:=sE) (q8:=blt) (f:=λe:iD=>e.2) rfl (λ_ _=>rfl) L
 grind
