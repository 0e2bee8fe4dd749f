/- Texts of mine, joined and packed by pack.py. -/
import Derived.Test.YtnaemgklhjkdhaaGreatDoorMna10
import Derived.Shelf.Spec.TrailingZeros
import Derived.OpenShut
set_option linter.all false
set_option maxRecDepth 100000
noncomputable section
namespace Go.Proofs.YtnaemgklhjkdhaaGreatDoor
open H
namespace dE
section
open Go.Sort Go.Shelf
def apJ{u:H}{b n0 n6 p:Nat}{T:ak}{q:List Int}{sv:J}{x y:Int}{K:Int->H->Prop}(h:pM u b T)(N:mK T.ao T.g)(I:x∈T.g.map (·.1))(af:y∈T.g.map (·.1))(ay:oZ u T.ao sv q)
  (c0:u.cell? ⟨n0,0,none⟩=some (.pointer (some ⟨b,0,none⟩))) (UX:u.cell? ⟨n6,0,none⟩=some (.pointer (some ⟨p,0,none⟩))) (U8:u.cell? ⟨p,0,none⟩=some (.slice sv.a sv.n sv.c))
  (ae:K (if bh (b6 T.g q x) (b6 T.g q y)=true then -1 else 1) u):TC x y ⟨n0,0,none⟩ ⟨n6,0,none⟩ u K:=by
 apply asA
 refine⟨_,c0,_,UX,_,rfl,sv,U8,_,c0,_,UX,_,rfl,sv,U8,Ss h N I ay ⟨H.le.refl u,Ss h N af ay (F3 (a:=b6 T.g q x) (b:=b6 T.g q y) ⟨λZ=>?_,λZ=>?_⟩)⟩⟩
 rw[if_pos Z] at ae;exact ae
 rw[if_neg (by rw[Z];simp)] at ae;exact ae
structure Mu(bU lv:Int)(l:List Int)(x:Int)(bi:List Int):Prop where
 sub:∀y∈bi,y∈l∨y=x
 nodup:(l++ [x]).Nodup->bi.Nodup
 len:(bi.length:Int)<=q9 bU lv
def Rc{bU lv:Int}(h:1<=bU/\bU<=16):1<=q9 bU lv/\q9 bU lv<=32:=by unfold q9;split<;>omega
theorem ai5(g:List (Int×cw))(q:List Int)(ids:List Int):SWO (ltOf λx y:{i//i∈ids}=>if bh (b6 g q x.1) (b6 g q y.1)=true then(-1:Int) else 1) where
 irrefl x:=by unfold ltOf;simp[D8]
 trans x y z h1 h2:=by
  unfold ltOf at*;simp only[decide_eq_true_eq] at*;have cv:bh (b6 g q x.1) (b6 g q y.1)=true:=by grind
  have cI:bh (b6 g q y.1) (b6 g q z.1)=true:=by grind
  rw[if_pos (D9 cv cI)];decide
 ntrans x y z h1 h2:=by
  unfold ltOf at*;simp only[decide_eq_false_iff_not] at*;have cv:bh (b6 g q x.1) (b6 g q y.1)=false:=by grind
  have cI:bh (b6 g q y.1) (b6 g q z.1)=false:=by grind
  rw[if_neg (by rw[ye cI cv];simp)];decide
def _root_.Go.Proofs.YtnaemgklhjkdhaaGreatDoor.H.vx(u:H)(s:J):H:=λc=>open Classical in if s.ad=some c then none else u c
theorem _root_.Go.Proofs.YtnaemgklhjkdhaaGreatDoor.H.auM(u:H)(s:J):(u.vx s).le u:=λc o h=>by
 unfold H.vx at h
 grind
def _root_.Go.Proofs.YtnaemgklhjkdhaaGreatDoor.H.Tb{u:H}{s:J}{c:Nat}(h:s.ad≠some c):u.vx s c=u c:=if_neg h
theorem abg{Y u:H}{ab:Nat->Option aN}{b:Nat}{T:ak}{a x lv:Int}{n:cw}{l:List Int}{K:H->Prop}(h:In Y u ab b T)(N:mK T.ao T.g)(ai:1<=T.bU/\T.bU<=16)
  (ac:dx T.g a=some n) (I:x∈T.g.map (·.1)) (jN:0<=lv) (b9:lv<31) (il:n.kn[lv.toNat]?=some l) (jf:l.length<=1000000)
  (ae:∀u' aM s' bi,In Y u' aM b {T with g:=ni T.g a (n.hn lv.toNat s' bi)}->eZ u ab u' aM->Mu T.bU lv l x bi->K u'):GB (some ⟨b,0,none⟩) a x lv u K:=by
 have ap:a∈T.g.map (·.1):=List.mem_map.2 ⟨_,gf ac,rfl⟩
 have de:=h.az.node ac
 obtain⟨s,cZ,df,dh,E,U,wL⟩:=sn de (lv:=lv.toNat) (by omega)
 rw[il] at dh;cases dh
 have awF:=Rc (lv:=lv) ai
 apply asz
 intro n0 et
 have kS:=bN (u:=u) (b:=n0) (.cells #[.pointer (some ⟨b,0,none⟩)] 163 (0,0)) et
 obtain⟨_,_,_,c3,_⟩:=lz (h.az.mono kS)
 refine⟨_,aV (aS _ _ _) 0,_,rfl,_,c3,qo (h.az.mono kS) ap λnd bX _=>?_⟩
 rw[ac] at bX;cases bX
 intro n6 na
 have ajC:u n6=none:=kS.none na
 have ajA:n0≠n6:=λe=>by rw[<-e,aS] at na;cases na
 refine oN (zs:=[.pointer none]) rfl (by simp[Value.oneCell']) ?_
 obtain⟨hC,tK⟩:∃hC,(u.ins n0 (.cells #[.pointer (some ⟨b,0,none⟩)] 163 (0,0))).ins n6 (.cells [.pointer (some ⟨n.p,0,none⟩)].toArray 346 (0,0))=hC:=⟨_,rfl⟩
 rw[tK]
 have yR:u.le hC:=by rw[<-tK];exact kS.trans (bN _ na)
 have fJ:hC n0=some (.cells #[.pointer (some ⟨b,0,none⟩)] 163 (0,0)):=by rw[<-tK,aL _ _ ajA,aS]
 have vS:hC n6=some (.cells #[.pointer (some ⟨n.p,0,none⟩)] 346 (0,0)):=by rw[<-tK,aS]
 refine⟨_,aV vS 0,_,rfl,by decide,⟨jN,b9⟩,s,mQ yR E,?_⟩
 have mw:=U.ints.len
 have dc:∀c,s.ad=some c->ab c≠none:=λc e=>by rw[wL c e];simp
 have P1:s.ad≠some n0:=λe=>h.known n0 (dc _ e) et
 have Ez:s.ad≠some n6:=λe=>h.known n6 (dc _ e) ajC
 refine rn pE (xy x) (by decide) rfl (by simp[Value.oneCell']) (U.mono yR) (by omega) (by omega) λnT l7 IK awH Ox WD gk=>?_
 have DT:l.flatMap encI++ [.int .i64 x]=(l++ [x]).flatMap encI:=by simp[encI]
 rw[DT] at IK
 have E0:∀c o,u c=some o->s.ad≠some c->l7 c=some o:=λc o h1 h2=>Ox c o (yR c o h1) h2
 have UL:∀c,nT.ad=some c->s.ad=some c∨u c=none:=λc e=>(WD c e).imp id λh1=>yR.none h1
 have Re:∀c,ab c≠none->(∀i lv,ab c≠some (.arr i lv))->s.ad≠some c:=λc _ h2 e=>h2 _ _ (wL c e)
 have RN:pM l7 b T:=h.az.JW λc o h1 h2 h3=>E0 c o h1 (Re c h2 h3)
 have MM:l7 n0=some (.cells #[.pointer (some ⟨b,0,none⟩)] 163 (0,0)):=Ox _ _ fJ P1
 have MP:l7 n6=some (.cells #[.pointer (some ⟨n.p,0,none⟩)] 346 (0,0)):=Ox _ _ vS Ez
 intro CE NS
 have join:∀(fZ:J) (hR:H) (bi:List Int),aE sV hR 3 1 fZ (bi.flatMap encI)->Mu T.bU lv l x bi->(∀c o,u c=some o->s.ad≠some c->hR c=some o)->(∀c,fZ.ad=some c->s.ad=some c∨u c=none)->
   hR n6=some (.cells #[.pointer (some ⟨n.p,0,none⟩)] 346 (0,0))->CE fZ hR:=by
  intro fZ hR bi h1 h2 h3 aZ bJ
  refine NS _ _ ⟨_,aV bJ 0,_,rfl,by decide,⟨jN,b9⟩,?_⟩
  unfold aR
  rw[BD]
  have p6:s.ad≠some n.p:=λe=>by have:=wL _ e;rw[de.tag] at this;cases this
  refine SB (h3 _ _ de.cell p6) de.qd (by omega) bi ?_
  obtain⟨aM,e0,gC⟩:=h.level ac df h1 h3 aZ
  exact ae _ _ _ _ e0 gC h2
 have aws:nT.n=l.length+1:=by omega
 have awS:oZ l7 T.ao n.sv n.v:=⟨(RN.nodes _ (gf ac)).2,(N.vec _ (gf ac)).2,(N.vec _ (gf ac)).1⟩
 have avw:l7.cell? ⟨n.p,0,none⟩=some (.slice n.sv.a n.sv.n n.sv.c):=by have:=(RN.nodes _ (gf ac)).1;simp only at this;simp[H.cell?,this,hM]
 refine⟨_,aV MM 0,abh RN ai ⟨λXv=>?_,λhg=>?_⟩⟩
 have ajd:∀y∈l++ [x],y∈T.g.map (·.1):=λy af=>by
   rcases List.mem_append.1 af with af|af;exact N.bO lv.toNat a ap y (by rw[Rg ac il];exact af)
   grind
 obtain⟨L,cE⟩:∃L:List {i//i∈T.g.map (·.1)},L.map (·.1)=l++ [x]:=⟨(l++ [x]).attachWith _ ajd,by simp⟩
 haveI:Inhabited {i//i∈T.g.map (·.1)}:=⟨⟨x,I⟩⟩
 have lX:∀{c:Nat},s.ad≠some c->(hC c≠none)->nT.ad≠some c:=λh1 h2 e=>(WD _ e).elim h1 h2
 have RO:pM (l7.vx nT) b T:=h.az.JW λc o h1 h2 h3=>by have aZ:=Re c h2 h3;rw[H.Tb (lX aZ (by rw[yR c o h1];simp))];exact E0 c o h1 aZ
 have d0:(l7.vx nT) n0=some (.cells #[.pointer (some ⟨b,0,none⟩)] 163 (0,0)):=by rw[H.Tb (lX P1 (by rw[fJ];simp))];exact MM
 have d6:(l7.vx nT) n6=some (.cells #[.pointer (some ⟨n.p,0,none⟩)] 346 (0,0)):=by rw[H.Tb (lX Ez (by rw[vS];simp))];exact MP
 have aj4:oZ (l7.vx nT) T.ao n.sv n.v:=⟨(RO.nodes _ (gf ac)).2,(N.vec _ (gf ac)).2,(N.vec _ (gf ac)).1⟩
 have afH:(l7.vx nT).cell? ⟨n.p,0,none⟩=some (.slice n.sv.a n.sv.n n.sv.c):=by have:=(RO.nodes _ (gf ac)).1;simp only at this;simp[H.cell?,this,hM]
 rw[<-cE] at IK
 refine ap8 (val:=λi:{i//i∈T.g.map (·.1)}=>i.1) (ai5 T.g n.v (T.g.map (·.1))) (enters_of Tryz.func249 (by kernel_rfl) rfl) (ub:=l7.vx nT)
  (λy z v av=>?_) (H.auM _ _) (λc E=>if_pos E) IK ?_ λaq9 L' ji _ IL Im=>?_
 exact apJ (K:=λeK bE=>eK=(if bh (b6 T.g n.v y.1) (b6 T.g n.v z.1)=true then -1 else 1)/\bE=v) (RO.mono av) N y.2 z.2 (aj4.mono av) (mQ av (aV d0 0)) (mQ av (aV d6 0)) (mQ av afH) ⟨rfl,rfl⟩
 have:=congrArg List.length cE
 simp at this;omega
 have anR:pM aq9 b T:=h.az.JW λc o h1 h2 h3=>by have aZ:=Re c h2 h3;exact Im c o (E0 c o h1 aZ) (lX aZ (by rw[yR c o h1];simp))
 have ae5:=Im _ _ MM (lX P1 (by rw[fJ];simp))
 have afa:=Im _ _ MP (lX Ez (by rw[vS];simp))
 have hI:=bb.cap IL.own.bR
 refine⟨_,aV ae5 0,abh anR ai ?_⟩
 refine oM (P:=Tryz.prog) pE (l:=0) (h:=(q9 T.bU lv).toNat) (m:=nT.c) (.inl ⟨rfl,rfl⟩) (.inr (by grind)) (.inl ⟨rfl,rfl⟩) (by omega) (by omega) (Nat.le_refl _) hI ?_
 obtain⟨M,uQ,_⟩:=IL.front (m:=(q9 T.bU lv).toNat) (by omega)
 rw[vZ uH] at M
 refine join _ _ _ M ⟨λy af=>?_,λbX=>?_,?_⟩ (λc o h1 h2=>Im c o (E0 c o h1 h2) (lX h2 (by rw[yR c o h1];simp))) (λc e=>UL c (by rw[<-uQ];exact e)) afa
 grind
 grind
 simp;omega
 refine join nT l7 (l++ [x]) IK ⟨λy af=>by simpa using af,λh=>h,?_⟩ E0 UL MP
 simp;omega
end
section
variable{g bS:List (Int×cw)}{u Y u':H}{b c:Nat}{n:cw}{i a:Int}{D l bi:List Int}
def eN(g:List (Int×cw)):List (Int×List Int):=g.map λx=>(x.1,x.2.v)
structure Alike(g bS:List (Int×cw)):Prop where
 ids:bS.map (·.1)=g.map (·.1)
 at':∀i n,dx g i=some n->∃n',dx bS i=some n'/\n'.p=n.p/\n'.v=n.v/\n'.top=n.top
def Alike.refl(g:List (Int×cw)):Alike g g:=⟨rfl,λ_ n h=>⟨n,h,rfl,rfl,rfl⟩⟩
theorem Alike.trans{VX:List (Int×cw)}(h:Alike g bS)(k:Alike bS VX):Alike g VX:=
 ⟨k.ids.trans h.ids,λi n ac=>by
  obtain⟨n',h1,h2,h3,aZ⟩:=h.at' i n ac;obtain⟨axd,cv,cI,pr,vc⟩:=k.at' i n' h1
  grind⟩
theorem Alike.hn(ac:dx g a=some n)(lv:Nat)(s:J)(l:List Int):Alike g (ni g a (n.hn lv s l)):=
 ⟨aoF _ _ _,λi m hm=>by
  rw[Di];by_cases e:i=a;subst e;rw[if_pos rfl,hm];rw[ac] at hm;cases hm;exact⟨_,rfl,rfl,rfl,rfl⟩
  grind⟩
theorem Alike.map{β:Type}(h:Alike g bS)(bX:(g.map (·.1)).Nodup)(f:Int×cw->β)(M:∀i n n',n'.p=n.p->n'.v=n.v->n'.top=n.top->f (i,n')=f (i,n)):bS.map f=g.map f:=by
 have hlen:bS.length=g.length:=by have:=congrArg List.length h.ids;simpa using this
 apply List.ext_getElem (by simp[hlen]);intro k h1 h2;simp only[List.length_map] at h1 h2;simp only[List.getElem_map];have hid:(bS[k]).1=(g[k]).1:=by have:=congrArg (λl=>l[k]?) h.ids;simpa[h1,h2] using this
 have N:=uK bX (id:=(g[k]).1) (n:=(g[k]).2) (List.getElem_mem h2);obtain⟨n',aO,ar,cq,eD⟩:=h.at' _ _ N;have wB:(bS.map (·.1)).Nodup:=by rw[h.ids];exact bX
 have cH:=uK wB (id:=(bS[k]).1) (n:=(bS[k]).2) (List.getElem_mem h1);rw[hid,aO] at cH;have e6:(bS[k]).2=n':=(Option.some.inj cH).symm
 grind
def Alike.rows(h:Alike g bS)(bX:(g.map (·.1)).Nodup):eN bS=eN g:=h.map bX _ λ_ _ _ _ h2 _=>by rw[h2]
def Alike.hj(h:Alike g bS)(bX:(g.map (·.1)).Nodup):hj bS=hj g:=h.map bX _ λ_ _ _ h1 _ _=>by rw[h1]
structure mL(ao bU:Int)(g:List (Int×cw)):Prop where
 ok:mK ao g
 many:∀i n (lv:Nat) l,dx g i=some n->n.kn[lv]?=some l->(l.length:Int)<=q9 bU lv/\l.Nodup/\i∉l
theorem mK.alike{ao:Int}(h:mK ao g)(ap:Alike g bS)(bX:(g.map (·.1)).Nodup)(hk:∀i n l,dx bS i=some n->l∈n.kn->∀x∈l,x∈g.map (·.1)):mK ao bS:=by
 have wB:(bS.map (·.1)).Nodup:=by rw[ap.ids];exact bX
 have kU:∀x∈bS,∃n,dx g x.1=some n/\x.2.v=n.v/\x.2.top=n.top:=λx I=>by
  have hid:x.1∈g.map (·.1):=by rw[<-ap.ids];exact List.mem_map.2 ⟨x,I,rfl⟩
  obtain⟨n,ac⟩:=tn hid;obtain⟨n',aO,_,cq,eD⟩:=ap.at' _ _ ac;have:=uK wB (id:=x.1) (n:=x.2) I
  grind
 refine⟨h.ii,λx I=>?_,λx I=>?_,λx I l ai i hi=>?_,λx I=>?_,?_⟩;obtain⟨n,ac,aO,_⟩:=kU x I;have:=h.vec _ (gf ac);rw[aO];exact this;obtain⟨n,ac,_,ar⟩:=kU x I;have:=h.top _ (gf ac);rw[ar];exact this;rw[ap.ids];exact hk x.1 x.2 l (uK wB I) ai i hi;obtain⟨n,ac,_⟩:=kU x I;exact h.ids (x.1,n) (gf ac);have:=congrArg List.length ap.ids;simp only[List.length_map] at this;rw[this];exact h.small
theorem FU{lv:Nat}{s:J}{cZ:List Int}{su:Nat}(h:(n.hn lv s l).kn[su]?=some cZ):(su=lv/\cZ=l)∨(su≠lv/\n.kn[su]?=some cZ):=by
 unfold cw.hn at h
 grind
theorem mL.hn{ao bU:Int}(h:mL ao bU g)(bX:(g.map (·.1)).Nodup)(ac:dx g a=some n){lv:Nat}(s:J)(h1:∀x∈bi,x∈g.map (·.1))(h2:(bi.length:Int)<=q9 bU lv)(h3:bi.Nodup)(aZ:a∉bi):
  mL ao bU (ni g a (n.hn lv s bi)):=by
 have r8:∀i m,dx (ni g a (n.hn lv s bi)) i=some m->(i=a/\m=n.hn lv s bi)∨(i≠a/\dx g i=some m):=λi m hm=>by
  rw[Di] at hm
  grind
 refine⟨h.ok.alike (Alike.hn ac lv s bi) bX λi m l hm ai x I=>?_,λi m su l hm ai=>?_⟩
 rcases r8 i m hm with⟨rfl,rfl⟩|⟨_,hm⟩
 obtain⟨k,hk⟩:=List.mem_iff_getElem?.1 ai
 rcases FU hk with⟨_,rfl⟩|⟨_,hk⟩
 exact h1 x I
 exact h.ok.known _ (gf ac) l (List.mem_of_getElem? hk) x I
 exact h.ok.known _ (gf hm) l ai x I
 rcases r8 i m hm with⟨rfl,rfl⟩|⟨_,hm⟩
 rcases FU ai with⟨rfl,rfl⟩|⟨_,hk⟩
 exact⟨h2,h3,aZ⟩
 exact h.many _ _ _ _ ac hk
 exact h.many _ _ _ _ hm ai
theorem mL.YX{ao bU:Int}(h:mL ao bU g)(bX:(g.map (·.1)).Nodup){x lv:Int}(ac:dx g a=some n)(jN:0<=lv)(s:J)(ai:n.kn[lv.toNat]?=some l)(hk:Mu bU lv l x bi)
  (I:x∈g.map (·.1)) (A5:x≠a) (gm:x∉l):mL ao bU (ni g a (n.hn lv.toNat s bi)):=by
 obtain⟨m1,m2,m3⟩:=h.many a n _ l ac ai
 refine h.hn bX ac s (λy af=>?_) (by rw[Int.toNat_of_nonneg jN];exact hk.len) (hk.nodup ?_) λhm=>?_
 rcases hk.sub y af with af|rfl
 exact h.ok.known _ (gf ac) l (List.mem_of_getElem? ai) y af
 exact I
 grind
 rcases hk.sub a hm with bJ|bJ
 exact m3 bJ
 exact A5 bJ.symm
structure dj(T:ak):Prop where
 k:mL T.ao T.bU T.g
 bU:1<=T.bU/\T.bU<=16
 entry:(T.g=[]/\T.entry=0)∨T.entry∈T.g.map (·.1)
def In.same{ab:Nat->Option aN}{T:ak}(h:In Y u ab b T)(hu:∀c o,u c=some o->ab c≠none->u' c=some o)(hle:Y.le u'):In Y u' ab b T:=
 ⟨h.az.bd (λ_ _=>rfl) hu,hle,h.out,λc E=>by obtain⟨o,U⟩:=Option.ne_none_iff_exists'.1 (h.known c E);rw[hu c o U E];simp⟩
theorem In.aside{ab:Nat->Option aN}{T:ak}(h:In Y u ab b T)(M:ab c=none)(h0:Y c=none)(o:Obj):In Y (u.ins c o) ab b T:=
 h.same (λx y I ON=>by rw[aL _ _ (λe=>by grind)];exact I) λx y I=>by rw[aL _ _ (λe=>by grind)];exact h.le x y I
def In.fresh{ab:Nat->Option aN}{T:ak}(h:In Y u ab b T)(E:u c=none):ab c=none:=by
 cases e:ab c with
 |none=>rfl|some t=>exact absurd E (h.known c (by rw[e];simp))
theorem eZ.none{ab aM:Nat->Option aN}(h:eZ u ab u' aM){o:Obj}(E:u c=some o)(M:ab c=none):aM c=none:=by
 cases e:aM c with
 |none=>rfl|some t=>
  rcases h.grow c (by rw[e];simp) with h1|h1;exact absurd M h1
  grind
def xC(id:Int)(l:List Int):List Int:=l.filter λx=>!decide (x=id)
structure kc(id:Int)(g bS:List (Int×cw))(D:List Int)(i:Int)(j:Nat):Prop where
 bq:Alike g bS
 kn:∀a n n',dx g a=some n->dx bS a=some n'->∀(lv:Nat) bi,n'.kn[lv]?=some bi->∃l,n.kn[lv]?=some l/\bi=if a∈D∨(a=i/\lv<j) then xC id l else l
theorem kc.refl(id:Int)(g:List (Int×cw))(i:Int):kc id g g [] i 0:=
 ⟨Alike.refl g,λa n n' h bx lv bi ai=>by
  grind⟩
theorem kc.step{id:Int}{j:Nat}(h:kc id g bS D i j)(hi:i∉D){n':cw}(ac:dx bS i=some n')(ai:n'.kn[j]?=some bi)(s:J):
  kc id g (ni bS i (n'.hn j s (xC id bi))) D i (j+1):=by
 refine⟨h.bq.trans (Alike.hn ac j s _),λa n m N hm lv cZ fX=>?_⟩
 rw[Di] at hm
 by_cases e:a=i
 subst e
 rw[if_pos rfl,ac] at hm;cases hm
 rcases FU fX with⟨rfl,rfl⟩|⟨ah,hk⟩
 obtain⟨l,cv,cI⟩:=h.kn a n n' N ac lv bi ai
 grind
 obtain⟨l,cv,cI⟩:=h.kn a n n' N ac lv cZ hk
 grind
 rw[if_neg e] at hm
 obtain⟨l,cv,cI⟩:=h.kn a n m N hm lv cZ fX
 grind
theorem kc.next{id:Int}(h:kc id g bS D i 31)(hlen:∀n',dx bS i=some n'->n'.kn.length=31)(nL:Int):kc id g bS (D++ [i]) nL 0:=
 ⟨h.bq,λa n n' N cH lv bi ai=>by
  obtain⟨l,cv,cI⟩:=h.kn a n n' N cH lv bi ai
  grind⟩
theorem kc.cL{id:Int}(h:kc id g bS D i 0)(nL:Int):kc id g bS D nL 0:=
 ⟨h.bq,λa n n' N cH lv bi ai=>by
  obtain⟨l,cv,cI⟩:=h.kn a n n' N cH lv bi ai
  grind⟩
theorem HW{id:Int}(i:Int):dx (g.filter λx=>x.1 !=id) i=if i=id then none else dx g i:=by
 induction g with
 |nil=>simp[dx]|cons x g aG=>
  unfold dx at*
  grind
theorem Nu{id:Int}:i∈(g.filter λx=>x.1 !=id).map (·.1)↔i∈g.map (·.1)/\i≠id:=by
 simp_all
def ano(g:List (Int×cw))(id:Int):(hj g).filter (λp=>p.1 !=id)=hj (g.filter λx=>x.1 !=id):=by unfold hj;rw[List.filter_map];rfl
theorem kc.ok{id ao bU:Int}(ae:mL ao bU g)(bX:(g.map (·.1)).Nodup)(h:kc id (g.filter λx=>x.1 !=id) bS D i 0)(fb:∀a∈(g.filter λx=>x.1 !=id).map (·.1),a∈D):mL ao bU bS:=by
 have AN:((g.filter λx=>x.1 !=id).map (·.1)).Nodup:=bX.sublist (List.filter_sublist.map _);have j0:mK ao (g.filter λx=>x.1 !=id)->mK ao bS:=λN=>N.alike h.bq AN λa n' bi im sb x I=>by
  have ap:a∈(g.filter λx=>x.1 !=id).map (·.1):=by rw[<-h.bq.ids];exact List.mem_map.2 ⟨_,gf im,rfl⟩
  obtain⟨n,ac⟩:=tn ap;obtain⟨k,hk⟩:=List.mem_iff_getElem?.1 sb;obtain⟨l,cv,cI⟩:=h.kn a n n' ac im k bi hk;rw[if_pos (.inl (fb a ap))] at cI;rw[cI] at I;simp only[xC,List.mem_filter,Bool.not_eq_true',decide_eq_false_iff_not] at I;rw[HW] at ac;split at ac;cases ac;exact Nu.2 ⟨ae.ok.known _ (gf ac) l (List.mem_of_getElem? cv) x I.1,I.2⟩
 have many:∀a n' (lv:Nat) bi,dx bS a=some n'->n'.kn[lv]?=some bi->(bi.length:Int)<=q9 bU lv/\bi.Nodup/\a∉bi:=by
  intro a n' lv bi im sb;have ap:a∈(g.filter λx=>x.1 !=id).map (·.1):=by rw[<-h.bq.ids];exact List.mem_map.2 ⟨_,gf im,rfl⟩
  obtain⟨n,ac⟩:=tn ap;obtain⟨l,cv,cI⟩:=h.kn a n n' ac im lv bi sb;rw[if_pos (.inl (fb a ap))] at cI;rw[HW] at ac;split at ac;cases ac;obtain⟨m1,m2,m3⟩:=ae.many a n lv l ac cv;rw[cI];refine⟨?_,m2.sublist List.filter_sublist,λhm=>m3 (List.mem_filter.1 hm).1⟩;have:=List.length_filter_le (λx=>!decide (x=id)) l;unfold xC;omega
 refine⟨?_,many⟩;have kU:∀x∈bS,∃n,dx g x.1=some n/\x.2.v=n.v/\x.2.top=n.top/\x.1≠id:=λx I=>by
  have hid:x.1∈(g.filter λx=>x.1 !=id).map (·.1):=by rw[<-h.bq.ids];exact List.mem_map.2 ⟨x,I,rfl⟩
  obtain⟨n,ac⟩:=tn hid;obtain⟨n',aO,_,cq,eD⟩:=h.bq.at' _ _ ac;have wB:(bS.map (·.1)).Nodup:=by rw[h.bq.ids];exact AN
  have:=uK wB (id:=x.1) (n:=x.2) I;rw[aO] at this;cases this;rw[HW] at ac
  grind
 have hlen:bS.length<=g.length:=by have:=congrArg List.length h.bq.ids;simp only[List.length_map] at this;rw[this];exact List.length_filter_le _ _
 refine⟨ae.ok.ii,λx I=>?_,λx I=>?_,λx I bi sb y af=>?_,λx I=>?_,Nat.le_trans hlen ae.ok.small⟩;obtain⟨n,ac,aO,_⟩:=kU x I;have:=ae.ok.vec _ (gf ac);rw[aO];exact this;obtain⟨n,ac,_,ar,_⟩:=kU x I;have:=ae.ok.top _ (gf ac);rw[ar];exact this;rw[h.bq.ids];have wB:(bS.map (·.1)).Nodup:=by rw[h.bq.ids];exact AN
 have im:=uK wB (id:=x.1) (n:=x.2) I;have ap:x.1∈(g.filter λx=>x.1 !=id).map (·.1):=by rw[<-h.bq.ids];exact List.mem_map.2 ⟨x,I,rfl⟩
 obtain⟨n,ac⟩:=tn ap;obtain⟨k,hk⟩:=List.mem_iff_getElem?.1 sb;obtain⟨l,cv,cI⟩:=h.kn x.1 n x.2 ac im k bi hk;rw[if_pos (.inl (fb x.1 ap))] at cI;rw[cI] at af;simp only[xC,List.mem_filter,Bool.not_eq_true',decide_eq_false_iff_not] at af;rw[HW] at ac;split at ac;cases ac;exact Nu.2 ⟨ae.ok.known _ (gf ac) l (List.mem_of_getElem? cv) y af.1,af.2⟩;obtain⟨n,ac,_⟩:=kU x I;exact ae.ok.ids (x.1,n) (gf ac)
theorem In.remove{ab:Nat->Option aN}{T:ak}(h:In Y u ab b T){id:Int}{o:Obj}(hm:dI (u.ins T.m o) T.m ((hj T.g).filter λp=>p.1 !=id))(ac:dx T.g id=some n):
  ∃cX,In Y (u.ins T.m o) cX b {T with g:=T.g.filter λx=>x.1 !=id}/\eZ u ab (u.ins T.m o) cX/\(∀c,k3 ab id c->cX c=none)/\kd ab (u.ins T.m o) id n:=by
 rw[ano] at hm
 obtain⟨h1,h2⟩:=h.aaL hm λx I=>h.az.nodes x (List.mem_filter.1 I).1
 obtain⟨_,_,_,dr⟩:=h.BB
 have de:kd ab (u.ins T.m o) id n:=(h.az.node ac).bd (λ_ _=>rfl) λc y af Pj=>by rw[aL _ _ (dr _ c Pj).2.1];exact af
 let cX:Nat->Option aN:=λc=>open Classical in if k3 ab id c then none else ab c
 have aO:∀c,k3 ab id c->cX c=none:=λc E=>if_pos E
 have ar:∀c,¬k3 ab id c->cX c=ab c:=λc E=>if_neg E
 have cq:∀c,cX c≠none->ab c≠none:=λc E=>by
  grind
 have no:∀{c:Nat} {t:aN},ab c=some t->(∀i,t≠.node i)->(∀i,t≠.vec i)->(∀i lv,t≠.arr i lv)->cX c=ab c:=λe h1 h2 h3=>ar _ (by rintro(ar|ar|⟨lv,ar⟩)<;>rw[e] at ar<;>cases ar;exact h1 _ rfl;exact h2 _ rfl;exact h3 _ _ rfl)
 have bO:=no h.az.eh (by simp) (by simp) (by simp)
 have fY:=no h.az.dZ (by simp) (by simp) (by simp)
 have fe:=no h.az.dq (by simp) (by simp) (by simp)
 refine⟨cX,⟨⟨h1.az.cell,h1.az.src,h1.az.zd,h1.az.map,by rw[bO];exact h.az.eh,by simp only;rw[fY];exact h.az.dZ,by simp only;rw[fe];exact h.az.dq,λx I=>?_⟩,h1.le,λc E=>h.out c (cq c E),λc E=>h1.known c (cq c E)⟩,
  ⟨h2.bd,λc E=>h2.grow c (cq c E)⟩,aO,de⟩
 have ah:x.1≠id:=by grind
 refine(h1.az.nodes x I).bd (λc E=>ar c ?_) λ_ _ af _=>af
 rintro(e|e|⟨lv,e⟩)<;>rcases E with k|k|⟨su,k⟩<;>rw[e] at k<;>cases k<;>exact ah rfl
def aen:fi Tryz.prog 393=true:=by kernel_rfl
def afQ{n0:Nat}{id:Int}{T:TypeId}:Mx (sV.ins n0 (.cells #[.int .i64 id] T (0,0))) (.func (.func 393) #[] #[.pointer (some ⟨n0,0,none⟩)]) (λx=>decide (x=id)):=
 λx v _ av ae=>.inl ⟨_,_,_,rfl,fg aen,ast x ⟨n0,0,none⟩ v _ ⟨id,aV (av _ _ (aS _ _ _)) 0,ae⟩⟩
structure xl(Y u:H)(ab:Nat->Option aN)(b:Nat)(T:ak)(id:Int)(u':H)(aM:Nat->Option aN)(T':ak):Prop where
 is:In Y u' aM b T'
 cL:eZ u ab u' aM
 ok:dj T'
 rows:eN T'.g=(eN T.g).filter λx=>x.1 !=id
 ao:T'.ao=T.ao
 bU:T'.bU=T.bU
structure G5(Y iX:H)(cX:Nat->Option aN)(b:Nat)(T:ak)(g1:List (Int×cw))(v:H):Prop where
 ex:∃aM bS,In Y v aM b {T with g:=bS}/\eZ iX cX v aM/\Alike g1 bS/\mL T.ao T.bU bS
structure CB(Y iX:H)(cX:Nat->Option aN)(b:Nat)(T:ak)(g1:List (Int×cw))(id:Int)(r:Nat)(k:Nat)(v:H):Prop where
 ex:∃dl aM bS,In Y v aM b {T with g:=bS}/\(∀c o,iX c=some o->cX c=none->v c=some o)/\(∀c,aM c≠none->cX c≠none∨iX c=none)/\aM r=none/\kc id g1 bS (dl.map (·.1)) id 0/\
  jU v r T.m (hj g1) dl/\(hj g1).length-dl.length<=k
def an2(g:List (Int×cw))(id:Int):eN (g.filter λx=>x.1 !=id)=(eN g).filter λx=>x.1 !=id:=by unfold eN;rw[List.filter_map];rfl
theorem getD_some{i:Nat}(h:i<l.length):l[i]?=some (l.getD i 0):=by grind
def aaZ{l:List (Int×Value)}{K:J->H->Prop}(h:dI u b l)(ai:l.length<=1000000)(ae:∀s u',aE u u' 3 1 s ((dM (l.map (·.1))).flatMap encI)->K s u'):
  GG (some b) u λfv aI=>sR fv aI K:=by
 have bX:(l.map (·.1)).Nodup:=by obtain⟨_,_,_,he⟩:=h;exact he.nodup
 refine asX (some b) u _ λn0 et=>?_
 have hle:=bN (u:=u) (b:=n0) (.cells #[.map (some b)] 251 (0,0)) et
 exact abp ai bX (λY p8=>aly tQ (h.mono (hle.trans p8)) (aV (p8 _ _ (aS _ _ _)) 0)) λs u' U=>ae s u' (U.weaken hle)
def RG(g:List (Int×cw)):(hj g).map (·.1)=g.map (·.1):=by unfold hj;rw[List.map_map];rfl
theorem St{ab:Nat->Option aN}{T:ak}{id:Int}{K:Bool->Int->H->Prop}(h:In Y u ab b T)(aJ:dj T)
  (dp:dx T.g id=none->∀u',u.le u'->K false 0 u') (jM:∀n,dx T.g id=some n->∀u' aM T',xl Y u ab b T id u' aM T'->K true 0 u'):LB (some ⟨b,0,none⟩) id u K:=by
 have bX:=h.az.nodup
 apply ass
 intro n0 et
 refine⟨λe=>(by cases e),λ_=>?_⟩
 have kS:=bN (u:=u) (b:=n0) (.cells #[.int .i64 id] 3 (0,0)) et
 have h0:=h.mono kS
 have fJ:(u.ins n0 (.cells #[.int .i64 id] 3 (0,0))) n0=some (.cells #[.int .i64 id] 3 (0,0)):=aS _ _ _
 have AB:ab n0=none:=h.fresh et
 obtain⟨aI,gl⟩:∃aI,u.ins n0 (.cells #[.int .i64 id] 3 (0,0))=aI:=⟨_,rfl⟩
 rw[gl] at h0 fJ kS ⊢
 obtain⟨_,_,_,c3,_⟩:=lz h0.az
 refine⟨_,rfl,_,c3,_,aV fJ 0,?_⟩
 refine mE tQ h0.az.map (ct:=.ptr) ((dx T.g id).map λn=>(⟨n.p,0,none⟩:Addr)) ?_ ?_
 rw[v7];cases dx T.g id<;>rfl
 have gk:(eF (hj T.g) id).isSome=(dx T.g id).isSome:=by rw[v7];cases dx T.g id<;>rfl
 rw[gk]
 refine⟨λM=>dp (by simpa using M) _ kS,λht=>?_⟩
 obtain⟨gone,AD⟩:=Option.isSome_iff_exists.1 ht
 have jM:=jM gone AD
 rw[AD]
 refine⟨_,rfl,_,c3,_,aV fJ 0,B0 tQ h0.az.map λo ID=>?_⟩
 obtain⟨cX,fb,NQ,XA,Dy⟩:=h0.remove ID AD
 obtain⟨_,_,_,dr⟩:=h0.BB
 have oq:(aI.ins T.m o) n0=some (.cells #[.int .i64 id] 3 (0,0)):=by
  have:n0≠T.m:=λe=>by have:=h.az.dq;grind
  rw[aL _ _ this];exact fJ
 have Ip:cX n0=none:=NQ.none fJ AB
 have Xx:dI (aI.ins T.m o) T.m (hj (T.g.filter λx=>x.1 !=id)):=fb.az.map
 obtain⟨iX,Qi⟩:∃iX,aI.ins T.m o=iX:=⟨_,rfl⟩
 obtain⟨g1,j0⟩:∃g1,(T.g.filter λx=>x.1 !=id)=g1:=⟨_,rfl⟩
 rw[Qi,j0] at fb
 rw[Qi] at NQ Dy oq ⊢
 rw[Qi,j0] at Xx
 have AN:(g1.map (·.1)).Nodup:=fb.az.nodup
 have A1:eZ u ab iX cX:=(eZ.mono kS).trans NQ
 obtain⟨_,_,_,d3,_⟩:=lz fb.az
 refine⟨_,rfl,_,d3,B1 tQ Xx λr or W r9=>?_⟩
 have dK:cX r=none:=fb.fresh W
 have j1:Y r=none:=fb.le.none W
 have AX:r≠n0:=λe=>by grind
 have tx:∀lv:Nat,lv<31->∃s l,gone.kn[lv]?=some l/\∀v:H,(∀c o,iX c=some o->cX c=none->v c=some o)->v.cell? (((Addr.mk gone.p 0 none).add 1).add (lv*1))=some (.slice s.a s.n s.c)/\Ints v s l:=by intro lv kM;obtain⟨s,l,h1,h2,h3,aZ,bJ⟩:=sn Dy kM;refine⟨s,l,h2,λv av=>⟨?_,?_⟩⟩;have:=av _ _ Dy.cell (XA _ (.inl Dy.tag));rw[BD];rw[BD,BE Dy] at h3;simp only[H.cell?,this];simpa using h3;exact bb.else aZ.ints λg x N I=>av g x I (XA g (.inr (.inr ⟨lv,bJ g N⟩)))
 refine⟨λv=>∃k,CB Y iX cX b T g1 id r k v,λv=>least λk=>CB Y iX cX b T g1 id r k v,
  ⟨_,[],cX,g1,fb.aside dK j1 or,λc y E _=>bN _ W c y E,λc E=>.inl E,dK,kc.refl id g1 id,r9,Nat.le_refl _⟩,?_⟩
 intro v av
 have bQ:=Bp av
 obtain⟨k,hk⟩:∃k,(least λk=>CB Y iX cX b T g1 id r k v)=k:=⟨_,rfl⟩
 dsimp only
 rw[hk] at bQ ⊢
 obtain⟨dl,aM,bS,cr,pg,OR,W4,r2,gh,hlen⟩:=bQ
 clear av
 refine BC gh (λjj=>?_) λp fq aa pk nD=>?_
 have wg:∀a∈g1.map (·.1),a∈dl.map (·.1):=λa ap=>by
  rw[<-RG] at ap
  grind
 have hv:mL T.ao T.bU bS:=by rw[<-j0] at r2 wg;exact r2.ok aJ.k bX wg
 have uN:G5 Y iX cX b T g1 v:=⟨aM,bS,cr,⟨pg,OR⟩,r2.bq,hv⟩
 have awc:id∈T.g.map (·.1):=List.mem_map.2 ⟨_,gf AD,rfl⟩
 have iS:∀a,a∈g1.map (·.1)↔a∈T.g.map (·.1)/\a≠id:=λa=>by rw[<-j0];exact Nu
 clear r2 gh cr pg OR hlen wg hv
 refine⟨λlv w=>0<=lv/\lv<=31/\G5 Y iX cX b T g1 w,λlv _=>(31-lv).toNat,⟨by omega,by omega,uN⟩,?_⟩
 rintro lv w ⟨Fc,Zl,iP⟩
 refine⟨λbh=>?_,λhg=>?_⟩
 obtain⟨s,l,il,XW⟩:=tx lv.toNat (by omega)
 obtain⟨m1,m2,m3⟩:=aJ.k.many id gone lv.toNat l AD il
 have Xm:∀y∈l,y∈g1.map (·.1):=λy af=>(iS y).2 ⟨aJ.k.ok.known _ (gf AD) l (List.mem_of_getElem? il) y af,λe=>m3 (e▸af)⟩
 have lR:∀{ea:H},G5 Y iX cX b T g1 ea->∀c o,iX c=some o->cX c=none->ea c=some o:=λ⟨_,_,_,ht,_⟩=>ht.bd
 obtain⟨kJ,hints⟩:=XW w (lR iP)
 have cY:=hints.len
 have fc:=hints.max
 refine⟨_,rfl,by decide,⟨by omega,by omega⟩,s,kJ,?_⟩
 refine⟨λi ea=>1<=i/\G5 Y iX cX b T g1 ea,λi _=>l.length-i.toNat,⟨by omega,iP⟩,?_⟩
 rintro i ea ⟨i1,xS⟩
 obtain⟨_,Xh⟩:=XW ea (lR xS)
 have IE:=lR xS n0 _ oq Ip
 refine⟨λdC=>?_,λawh=>⟨⟨by omega,by omega⟩,⟨by omega,by omega,xS⟩,by dsimp only;omega⟩⟩
 intro Mr Wp
 obtain⟨q,ay,iR⟩:=Xh.at (x:=i-1) (by omega) (by omega)
 obtain⟨anw,AV,mT⟩:=Xh.at (x:=i) (by omega) (by omega)
 have aj3:anw=q:=by grind
 subst aj3
 have Ja:l[(i-1).toNat]?=some (l.getD (i-1).toNat 0):=getD_some (by omega)
 have Jb:l[i.toNat]?=some (l.getD i.toNat 0):=getD_some (by omega)
 have ah:l.getD i.toNat 0≠l.getD (i-1).toNat 0:=λe=>by
  have h1:(i-1).toNat<l.length:=by omega
  have h2:i.toNat<l.length:=by omega
  have:=List.pairwise_iff_getElem.1 m2 (i-1).toNat i.toNat h1 h2 (by omega);rw[List.getD_eq_getElem?_getD,List.getD_eq_getElem?_getD,List.getElem?_eq_getElem h1,List.getElem?_eq_getElem h2] at e;exact this (by simpa using e.symm)
 have skip:Mr false ea:=Wp _ _ ⟨λe=>(by cases e),λ_=>⟨⟨by omega,by omega⟩,⟨by omega,xS⟩,by dsimp only;omega⟩⟩
 refine⟨⟨by omega,by omega⟩,_,ay,⟨by omega,by omega⟩,_,iR,_,aV IE 0,λyk=>⟨_,ay,⟨by omega,by omega⟩,_,mT,_,aV IE 0,λtG=>?_,λ_=>⟨H.le.refl _,H.le.refl _,skip⟩⟩,λ_=>⟨H.le.refl _,H.le.refl _,skip⟩⟩
 obtain⟨gd,g2,je,iM,qP,gP⟩:=xS
 have awk:=je
 obtain⟨_,_,_,cq,_⟩:=lz je.az
 have p2:(g2.map (·.1)).Nodup:=je.az.nodup
 have ap:l.getD (i-1).toNat 0∈g2.map (·.1):=by rw[qP.ids];exact Xm _ (List.mem_of_getElem? Ja)
 have Z:l.getD i.toNat 0∈g2.map (·.1):=by rw[qP.ids];exact Xm _ (List.mem_of_getElem? Jb)
 refine⟨_,rfl,⟨by omega,by omega⟩,_,ay,⟨by omega,by omega⟩,_,ay,⟨by omega,by omega⟩,_,cq,_,iR,_,mT,qo je.az ap λdL p1 NZ=>⟨H.le.refl _,_,rfl,by decide,⟨by omega,by omega⟩,?_⟩⟩
 obtain⟨BZ,E5,DC,N8,ah7,ah8,_⟩:=sn NZ (lv:=lv.toNat) (by omega)
 refine⟨BZ,ah7,H.le.refl _,ap2 ah8.ints (Wp _ _ ⟨λp3=>?_,λ_=>⟨⟨by omega,by omega⟩,⟨by omega,gd,g2,je,iM,qP,gP⟩,by dsimp only;omega⟩⟩)⟩
 have ym:l.getD i.toNat 0∉E5:=λhm=>by grind
 refine⟨⟨by omega,by omega⟩,_,ay,⟨by omega,by omega⟩,_,ay,⟨by omega,by omega⟩,_,iR,_,mT,?_⟩
 have Pc:E5.length<=1000000:=by have h1:=(gP.many _ _ _ _ p1 N8).1;have:=(Rc (lv:=((lv.toNat:Nat):Int)) aJ.bU).2;omega
 refine abg je gP.ok aJ.bU p1 Z Fc (by omega) N8 Pc λhD mj j7 qe qS lj lb=>⟨⟨by omega,by omega⟩,⟨by omega,mj,_,qS,iM.trans lj,qP.trans (Alike.hn p1 _ _ _),?_⟩,by dsimp only;omega⟩
 exact gP.YX p2 p1 Fc j7 N8 lb Z ah ym
 obtain⟨gd,g2,je,iM,qP,gP⟩:=iP
 have IE:=iM.bd n0 _ oq Ip
 obtain⟨_,_,_,cq,eD⟩:=lz je.az
 have p2:(g2.map (·.1)).Nodup:=je.az.nodup
 have fin:∀aw mj e,In Y aw mj b {T with g:=g2,entry:=e}->eZ iX cX aw mj->((g2=[]/\e=0)∨e∈g2.map (·.1))->K true 0 aw:=λaw mj e h1 h2 h3=>
  jM aw mj {T with g:=g2,entry:=e} ⟨h1,A1.trans h2,⟨gP,aJ.bU,h3⟩,by show eN g2=_;rw[qP.rows AN,<-j0,an2],rfl,rfl⟩
 refine⟨_,rfl,_,eD,_,aV IE 0,λpV=>⟨_,rfl,?_⟩,λpV=>?_⟩
 refine KB je.az (e:=0) ?_
 obtain⟨qS,lj⟩:=je.FT 0
 obtain⟨hD,akU⟩:∃hD,w.ins b (.cells (fw {{T with g:=g2} with entry:=0}).toArray 253 (0,0))=hD:=⟨_,rfl⟩
 rw[akU] at qS lj ⊢
 obtain⟨_,_,_,f3,_⟩:=lz qS.az
 have yb:(hj g2).length<=1000000:=by have:=gP.ok.small;unfold hj;simp;omega
 refine⟨_,rfl,_,f3,aaZ qS.az.map yb λRZ ard AP=>?_⟩
 rw[RG] at AP
 change aE _ _ _ 1 RZ ((dM (g2.map (·.1))).flatMap encI) at AP
 have ai3:=qS.mono AP.le
 have kN:RZ.ad≠some b:=λe=>by have:=AP.fresh b e;exact qS.known b (by rw[qS.az.eh];simp) this
 have cE:=AP.ints
 have NV:=cE.len
 have H9:=cE.max
 have NU:∀y,y∈dM (g2.map (·.1))↔y∈g2.map (·.1):=λy=>(pz _).mem_iff
 refine⟨λk lA=>0<=k/\k<=(dM (g2.map (·.1))).length/\(∀c o,ard c=some o->c≠b->lA c=some o)/\∃e,In Y lA gd b {T with g:=g2,entry:=e}/\eZ iX cX lA gd/\(k=0->e=0)/\(0<k->e∈g2.map (·.1)),
  λk _=>(dM (g2.map (·.1))).length-k.toNat,⟨by omega,by omega,λc o E _=>E,0,ai3,(iM.trans lj).trans (eZ.mono AP.le),λ_=>rfl,λh=>by omega⟩,?_⟩
 rintro k lA ⟨iq,cv,gE,e,qT,P7,aP,aa⟩
 refine⟨λlb=>?_,λXj=>fin lA gd e qT P7 ?_⟩
 have ahD:Ints lA RZ (dM (g2.map (·.1))):=bb.else cE λg o N U=>gE g o U λe=>kN (e▸N)
 obtain⟨q,ay,Om⟩:=ahD.at iq lb
 have Jd:(dM (g2.map (·.1)))[k.toNat]?=some ((dM (g2.map (·.1))).getD k.toNat 0):=by grind
 have q4:=(NU _).1 (List.mem_of_getElem? Jd)
 refine⟨q,ay,⟨iq,lb⟩,_,Om,λMt Wq=>?_⟩
 obtain⟨_,_,_,VG,VH⟩:=lz qT.az
 have yes:Mt true lA:=Wq _ _ ⟨λ_=>⟨_,rfl,KB qT.az ⟨⟨by omega,by omega⟩,⟨by omega,by omega,λc o E qQ=>?_,_,(qT.FT _).1,P7.trans (qT.FT _).2,λh=>by omega,λ_=>q4⟩,by dsimp only;omega⟩⟩,λe=>(by cases e)⟩
 have no:0<k->Mt false lA:=λsa=>Wq _ _ ⟨λe=>(by cases e),λ_=>⟨⟨by omega,by omega⟩,⟨by omega,by omega,gE,e,qT,P7,λh=>by omega,λ_=>aa sa⟩,by dsimp only;omega⟩⟩
 have any:∀cF:Bool,0<k->Mt cF lA:=λcF sa=>by cases cF;exact no sa;exact yes
 refine⟨_,rfl,_,VH,λmn=>?_,λmn=>?_⟩
 have r:=H.le.refl lA
 grind
 have sa:0<k:=by grind
 have OC:=aa sa
 have r:=H.le.refl lA
 have top:∀{i:Int} {n:cw},kd gd lA i n->lA.cell? ((Addr.mk n.p 0 none).add 32)=some (.int .i64 n.top):=λde=>by rw[Addr.add_lit,Nat.zero_add,BE de];exact JK de.qd
 refine⟨_,rfl,_,rfl,_,rfl,_,VG,_,VG,_,VH,?_,?_⟩
 refine qo qT.az q4 λcb _ wb=>⟨r,_,rfl,⟨_,top wb,r,?_⟩,?_⟩
 exact qo qT.az OC λdi _ ml=>⟨r,_,rfl,_,top ml,r,any _ sa⟩
 exact qo qT.az OC λdi _ ml=>⟨r,_,rfl,⟨_,top wb,r,_,top ml,r,any _ sa⟩,⟨_,top ml,r,_,top wb,r,any _ sa⟩⟩
 refine qo qT.az OC λdi _ ml=>⟨r,_,rfl,?_,⟨_,top ml,r,?_⟩⟩
 exact qo qT.az q4 λcb _ wb=>⟨r,_,rfl,⟨_,top wb,r,_,top ml,r,any _ sa⟩,⟨_,top ml,r,_,top wb,r,any _ sa⟩⟩
 exact qo qT.az q4 λcb _ wb=>⟨r,_,rfl,_,top wb,r,any _ sa⟩
 rw[aL _ _ qQ];exact gE c o E qQ
 have lb:k.toNat=(dM (g2.map (·.1))).length:=by omega
 rcases Nat.eq_zero_or_pos k.toNat with h0|h0
 left
 have:g2.map (·.1)=[]:=by
  have h2:(dM (g2.map (·.1))).length=0:=by omega
  rw[B3] at h2;exact List.eq_nil_of_length_eq_zero h2
 grind
 grind
 refine fin w gd T.entry je iM (.inr ?_)
 rw[qP.ids,iS]
 rcases aJ.entry with⟨h1,_⟩|h1
 grind
 exact⟨h1,pV⟩
 refine C9 nD ?_
 obtain⟨x,I,rfl⟩:=List.mem_map.1 aa
 have gF:dx g1 x.1=some x.2:=uK AN I
 have W3:∀gd:Nat->Option aN,(∀c,gd c≠none->cX c≠none∨iX c=none)->∀c o,iX c=some o->cX c=none->gd c=none:=λgd h2 c o h3 aZ=>by
  grind
 have aj9:∀c o,iX c=some o->c≠r:=λc o E e=>by grind
 show ∃au6:Int->H->Prop,∃au7:Int->H->Nat,_
 refine⟨λlv w=>0<=lv/\lv<=31/\∃gd g2,In Y w gd b {T with g:=g2}/\(∀c o,iX c=some o->cX c=none->w c=some o)/\(∀c,gd c≠none->cX c≠none∨iX c=none)/\gd r=none/\kc id g1 g2 (dl.map (·.1)) x.1 lv.toNat/\
   jU w r T.m (hj g1) (dl++ [(x.1,.pointer (some ⟨x.2.p,0,none⟩))]),λlv _=>(31-lv).toNat,
  ⟨by omega,by omega,aM,bS,cr.aside W4 j1 fq,λc y E M=>by rw[aL _ _ (aj9 c y E)];exact pg c y E M,OR,W4,r2.cL x.1,nD⟩,?_⟩
 rintro lv w ⟨Fc,Zl,gd,g2,je,D4,Iv,OK,Il,x6⟩
 obtain⟨di,ef,fD,_,_⟩:=Il.bq.at' _ _ gF
 refine⟨λbh=>?_,λhg=>?_⟩
 have ml:=je.az.node ef
 obtain⟨s,l,df,dh,E,U,wL⟩:=sn ml (lv:=lv.toNat) (by omega)
 rw[fD] at E
 have lX:=D4 n0 _ oq Ip
 have awa:=W3 gd Iv n0 _ oq Ip
 refine⟨_,rfl,by decide,⟨by omega,by omega⟩,_,rfl,s,E,?_⟩
 refine ap3 U (afQ (n0:=n0) (id:=id) (T:=3)) (λc y E=>?_) (λc E=>?_) λs' ea bG hblk he=>?_
 unfold H.ins at E
 split at E
 grind
 cases E
 exact aL _ _ (λe=>by grind)
 refine⟨by decide,⟨by omega,by omega⟩,?_⟩
 unfold aR
 rw[BD,<-fD]
 have p6:s.ad≠some di.p:=λe=>by have:=wL _ e;rw[ml.tag] at this;cases this
 refine SB (he _ _ ml.cell p6) ml.qd (by omega) (xC id l) ?_
 obtain⟨mj,NX,ax⟩:=ml.level je.known df bG he λc e=>.inl (by rw[<-hblk];exact e)
 have qS:=je.shift (n':=di.hn lv.toNat s' (xC id l)) ef rfl NX ax
 have sc:∀c,gd c=none->¬k3 gd x.1 c:=λc E hm=>hm.some E
 obtain⟨_,_,_,e3⟩:=je.BB
 refine⟨⟨by omega,by omega⟩,⟨by omega,by omega,mj,_,qS,λc y E M=>ax.bd c y (D4 c y E M) (sc c (W3 gd Iv c y E M)),λc E=>?_,?_,?_,?_⟩,by dsimp only;omega⟩
 rcases ax.grow c E with h1|h1
 exact Iv c h1
 cases aO:cX c with
 |some t=>exact .inl (by simp)
 |none=>
  cases ar:iX c with
  |none=>exact .inr rfl|some y=>grind
 cases e:mj r with
 |none=>rfl
 |some t=>rcases ax.grow r (by rw[e];simp) with h1|h1;exact absurd OK h1;obtain⟨_,_,_,_,_,h2,_⟩:=x6;rw[h2] at h1;cases h1
 have:=Il.step pk ef dh s'
 rw[show(lv+1).toNat=lv.toNat+1 by omega]
 exact this
 have Xi:=x6
 rw[<-fD] at Xi
 exact Xi.else (λy af=>ax.bd _ _ af λhm=>(e3 _ _ hm).2.1 rfl) λy af=>ax.bd _ _ af (sc r OK)
 have kM:lv.toNat=31:=by omega
 rw[kM] at Il
 have aip:=Il.next (λn' im=>(je.az.node im).yL) id
 have Xl:=YK x6
 simp only[List.length_append,List.length_singleton] at Xl
 have fM:CB Y iX cX b T g1 id r (k-1) w:=⟨_,gd,g2,je,D4,Iv,OK,by simpa using aip,x6,by grind⟩
 refine⟨⟨_,fM⟩,?_⟩
 have:=least_le (P:=λk=>CB Y iX cX b T g1 id r k w) fM
 omega
open Go.Shelf
def ib(u:H):Prop:=∀w,Sub u w->Go.Proofs.TabAt 2 Lib.deBruijn64tab w
def ib.mono(h:ib u)(hu:u.le u'):ib u':=λw hw=>h w (hw.mono hu)
def afL(x:Nat)(I:x<18446744073709551616):Lib.ctz 64 x<=64:=by unfold Lib.ctz;split;exact Nat.le_refl _;rename_i h;obtain⟨_,_,h2⟩:=Lib.ctzFrom_spec 64 x (Nat.pos_of_ne_zero h) (by simpa using I);omega
def aeJ(op:BinOp)(x y:Int):cS (bits op .u64 x y):=by have:=wf_bits op .u64 x y;simp[Lit.wf,IntKind.min,IntKind.max,IntKind.signed,IntKind.bits] at this;unfold cS;omega
def wrap_u64(x:Int):cS (IntKind.u64.wrap x):=by have:=wf_wrap .u64 x;simp[Lit.wf,IntKind.min,IntKind.max,IntKind.signed,IntKind.bits] at this;unfold cS;omega
def aph{x:Int}{K:Int->H->Prop}(I:cS x)(aJ:ib u)(ae:∀n:Int,0<=n->n<=64->K n u):Tu x u K:=by
 intro w hw;obtain⟨n,rfl⟩:=Int.eq_ofNat_of_zero_le I.1;have ac:n<18446744073709551616:=by have:=I.2;omega
 have E:=Any7.bits_TrailingZeros64 Tryz.aq6 n ac w λ_=>aJ w hw;change Calls Tryz.prog 242 _ _ _ at E;refine E.mono ?_;rintro e aw ⟨rfl,rfl⟩;have:=afL n ac;exact⟨_,u,rfl,⟨[.int .i64 (Lib.ctz 64 n:Nat)],.cons (t:=.int .i64) _ .nil,rfl,ae _ (by omega) (by omega)⟩,Step.refl hw⟩
def apW{src:Nat}{bo:Int}{K:Int->H->Prop}(h:u src=some (.cells #[.int .u64 bo] 338 (0,0)))
  (ae:∀nk z,cS nk->cS z->K z (u.ins src (.cells #[.int .u64 nk] 338 (0,0)))):Ct (some ⟨src,0,none⟩) u K:=by
 apply acD
 refine⟨λh=>(by cases h),λ_=>⟨_,rfl,bo,aV h 0,_,rfl,ze h (by simp[Value.oneCell']) ⟨_,rfl,_,aV (aS _ _ _) 0,by omega,by omega,by omega,?_⟩⟩⟩
 exact ae _ _ (wrap_u64 _) (aeJ _ _ _)
theorem apV{src:Nat}{bo:Int}{ub:H}{K:Int->Int->H->Prop}(h:u src=some (.cells #[.int .u64 bo] 338 (0,0)))(aJ:ib ub)(cy:ub.le u)(hs:ub src=none)
  (ae:∀nk lv,cS nk->0<=lv->lv<=30->K lv 0 (u.ins src (.cells #[.int .u64 nk] 338 (0,0)))):LJ (some ⟨src,0,none⟩) 30 u K:=by
 apply as2
 apply acE
 refine⟨λh=>(by cases h),λ_=>⟨λh=>by omega,λ_=>⟨λh=>by omega,λ_=>⟨λh=>absurd rfl h,λ_=>?_⟩⟩⟩⟩
 refine apW h λnk z h1 h2=>?_
 have hle:ub.le (u.ins src (.cells #[.int .u64 nk] 338 (0,0))):=λc o E=>by rw[aL _ _ (λe=>by grind)];exact cy c o E
 refine aph h2 (aJ.mono hle) λn n0 cb=>⟨by omega,?_,?_⟩
 have:Int.tdiv n 2=n/2:=Int.tdiv_eq_ediv_of_nonneg n0
 rw[this];exact⟨by omega,by omega⟩
 have:Int.tdiv n 2=n/2:=Int.tdiv_eq_ediv_of_nonneg n0
 rw[this]
 refine ae _ _ h1 ?_ ?_<;>split<;>omega
end
section
variable{b:Nat}{u:H}{sv:J}{v:List Int}
theorem NC{g:List (Int×cw)}{id:Int}{nd:cw}(hid:id∉g.map (·.1))(i:Int):dx (g++ [(id,nd)]) i=if i=id then some nd else dx g i:=by
 unfold dx
 grind
def ann(g:List (Int×cw))(id:Int)(nd:cw):hj (g++ [(id,nd)])=hj g++ [(id,.pointer (some ⟨nd.p,0,none⟩))]:=by simp[hj]
structure vG(bU:Int)(ids l:List Int):Prop where
 sub:∀x∈l,x∈ids
 nodup:l.Nodup
 len:(l.length:Int)<=bU
theorem vG.nil{bU:Int}(h:1<=bU)(ids:List Int):vG bU ids []:=⟨λx I=>(by cases I),List.nodup_nil,by grind⟩
theorem mL.add{ao bU:Int}{g:List (Int×cw)}(h:mL ao bU g)(ai:1<=bU/\bU<=16){id:Int}{nd:cw}(hid:id∉g.map (·.1))(hi:1<=id/\id<=1000000000)(av:(nd.v.length:Int)=ao/\ej nd.v)(ht:nd.top<=30)(fc:g.length<=512)
  (hk:∀(j:Nat) l,nd.kn[j]?=some l->vG bU (g.map (·.1)) l):mL ao bU (g++ [(id,nd)]):=by
 have iS:(g++ [(id,nd)]).map (·.1)=g.map (·.1)++ [id]:=by simp
 refine⟨⟨h.ok.ii,λx I=>?_,λx I=>?_,λx I l sb i nC=>?_,λx I=>?_,by simp;omega⟩,λi n lv l ac sb=>?_⟩
 rcases List.mem_append.1 I with I|I
 exact h.ok.vec x I
 grind
 rcases List.mem_append.1 I with I|I
 exact h.ok.top x I
 grind
 rw[iS]
 rcases List.mem_append.1 I with I|I
 exact List.mem_append_left _ (h.ok.known x I l sb i nC)
 simp at I;subst I
 obtain⟨k,cR⟩:=List.mem_iff_getElem?.1 sb
 exact List.mem_append_left _ ((hk k l cR).sub i nC)
 rcases List.mem_append.1 I with I|I
 exact h.ok.ids x I
 grind
 rw[NC hid] at ac
 by_cases e:i=id
 rw[if_pos e] at ac;cases ac
 subst e
 have:=hk lv l sb
 refine⟨?_,this.nodup,λhm=>hid (this.sub i hm)⟩
 have:=this.len
 unfold q9;split<;>omega
 rw[if_neg e] at ac
 exact h.many i n lv l ac sb
def qh(p:Nat)(sv:J)(v:List Int)(top:Nat):cw:=⟨p,sv,v,List.replicate 31 ⟨none,0,0⟩,List.replicate 31 [],top⟩
theorem In.amF{Y:H}{ab:Nat->Option aN}{T:ak}(h:In Y u ab b T){id:Int}(hid:id∉T.g.map (·.1)){p:Nat}(aa:u p=none)(av:Ints u sv v)(EI:∀g,sv.ad=some g->ab g=some (.vec id))(top:Nat):
  ∃aM,In Y (u.ins p (.cells (hM (qh p sv v top)).toArray 349 (0,0))) aM b T/\kd aM (u.ins p (.cells (hM (qh p sv v top)).toArray 349 (0,0))) id (qh p sv v top)/\
   eZ u ab (u.ins p (.cells (hM (qh p sv v top)).toArray 349 (0,0))) aM:=by
 have mW:ab p=none:=h.fresh aa
 let aM:Nat->Option aN:=λc=>if c=p then some (.node id) else ab c
 have aO:aM p=some (.node id):=if_pos rfl
 have ar:∀c,c≠p->aM c=ab c:=λc E=>if_neg E
 have cq:∀c,ab c≠none->aM c=ab c:=λc E=>ar c λe=>E (by rw[e];exact mW)
 have hle:=bN (u:=u) (b:=p) (.cells (hM (qh p sv v top)).toArray 349 (0,0)) aa
 refine⟨aM,⟨h.az.bd cq λc o E _=>hle c o E,h.le.trans hle,λc E=>?_,λc E=>?_⟩,?_,⟨λc o E _=>hle c o E,λc E=>?_⟩⟩
 by_cases e:c=p
 rw[e];exact h.le.none aa
 rw[ar c e] at E;exact h.out c E
 by_cases e:c=p
 rw[e,aS];simp
 rw[ar c e] at E;rw[aL _ _ e];exact h.known c E
 refine⟨aS _ _ _,aO,av.mono hle,λg N=>?_,by simp[qh],by simp[qh],λlv s l h1 h2=>?_⟩
 have:=EI g N
 grind
 simp only[qh,List.getElem?_replicate] at h1 h2
 split at h1
 cases h1
 rw[if_pos (by assumption)] at h2
 cases h2
 exact⟨(Own.nil _ _ _).f,λg N=>by simp[J.ad] at N⟩
 cases h1
 grind
theorem Zs{p:Nat}{top j:Nat}{l:List Int}(h:(qh p sv v top).kn[j]?=some l):l=[]:=by
 simp only[qh,List.getElem?_replicate] at h
 grind
theorem _root_.Go.Proofs.YtnaemgklhjkdhaaGreatDoor.gZ.JX{B v:H}{bT n:Nat}{k:Int}{o:Obj}{S:List bk}(h:gZ (B.ins bT o) n k v S)(bn:Obj):gZ (B.ins bT bn) n k (v.ins bT bn) S:=by
 obtain⟨l,⟨⟨s,h1,h2,h3⟩,aZ,bJ⟩,e0,gC⟩:=h;have yj:n≠bT:=λe=>by rw[e,aS] at aZ;cases aZ
 have X3:s.ad≠some bT:=λe=>by have:=h2.fresh bT e;rw[aS] at this;cases this
 refine⟨l,⟨⟨s,by rw[aL _ _ yj];exact h1,⟨h2.own.le λc y E af=>?_,λc y E=>?_,λg N=>?_⟩,h3⟩,by rw[aL _ _ yj] at aZ ⊢;exact aZ,bJ⟩,e0,gC⟩;rw[aL _ _ (λe=>X3 (by rw[E,e]))];exact af;unfold H.ins at E ⊢;split
 grind
 rename_i e;rw[if_neg e] at E;have:=h2.le c y (by rw[aL _ _ e];exact E);exact this;have:=h2.fresh g N;have Ir:g≠bT:=λe=>X3 (by rw[N,e]);rw[aL _ _ Ir] at this ⊢;exact this
def aeu:fi Tryz.prog 203=true:=by kernel_rfl
def CH(B:H)(n31 n33 n:Nat)(bU:Int)(g:List (Int×cw))(q:List Int)(bm:List Int)(i:Nat)(v:H):Prop:=
 gZ ((B.ins n31 (.cells #[.pointer (some ⟨n,0,none⟩)] 129 (0,0))).ins n33 (.cells #[.int .i64 i] 3 (0,0))) n bU v ((bm.take i).map (b6 g q))
theorem alP{B:H}{ab:Nat->Option aN}{n0 n31 n33 n:Nat}{T:ak}{q bm:List Int}(h:cP ab B b T)(ai:1<=T.bU/\T.bU<=16)(Ao:B n0=some (.cells #[.pointer (some ⟨b,0,none⟩)] 163 (0,0)))(V8:B n31=none)(H2:B n33=none)(ah:n31≠n33)
  (gv:bm.length<=1000000) {i:Nat} {x:Int} {v:H} {K:Bool->H->Prop} (I:bm[i]?=some x) (aH:CH B n31 n33 n T.bU T.g q bm i v)
  (ae:∀cF bH,CH B n31 n33 n T.bU T.g q bm (i+1) bH->K cF bH):
  mc Tryz.prog (.func (.func 203) #[] #[.pointer (some ⟨n31,0,none⟩),.pointer (some ⟨n33,0,none⟩),.pointer (some ⟨n0,0,none⟩)]) #[DY (b6 T.g q x)] [.one .bool] v K:=by
 have dC:i<bm.length:=(List.getElem?_eq_some_iff.1 I).1
 refine .inl ⟨_,_,_,rfl,fg aeu,?_⟩
 refine asC (b6 T.g q x).1 (cK (b6 T.g q x).2) (cO (b6 T.g q x).2) ⟨n31,0,none⟩ ⟨n33,0,none⟩ ⟨n0,0,none⟩ v K ?_
 have tq:∀(z:Int) {w:H} {S:List bk},gZ ((B.ins n31 (.cells #[.pointer (some ⟨n,0,none⟩)] 129 (0,0))).ins n33 (.cells #[.int .i64 z] 3 (0,0))) n T.bU w S->
   B.le w/\w n31=some (.cells #[.pointer (some ⟨n,0,none⟩)] 129 (0,0))/\w n33=some (.cells #[.int .i64 z] 3 (0,0)):=λz w S ht=>by
  have hle:=ht.le
  refine⟨λc y E=>hle c y ?_,hle _ _ ?_,hle _ _ (aS _ _ _)⟩
  rw[aL _ _ (λe=>by grind),aL _ _ (λe=>by grind)];exact E
  rw[aL _ _ ah,aS]
 obtain⟨_,c31,_⟩:=tq _ aH
 refine⟨_,aV c31 0,Kv aH ai.1 (by omega) λcF w hw=>?_⟩
 obtain⟨_,_,UW⟩:=tq _ hw
 refine⟨_,aV UW 0,⟨by omega,by omega⟩,ze UW (by simp[Value.oneCell']) ?_⟩
 have W:=hw.JX (.cells #[.int .i64 ((i:Int)+1)] 3 (0,0))
 obtain⟨Wg,_,ae8⟩:=tq _ W
 have aJ:=h.mono Wg
 obtain⟨_,t1,_⟩:=lz aJ
 refine⟨_,aV ae8 0,_,aV (Wg _ _ Ao) 0,_,rfl,_,t1,⟨by omega,by omega⟩,ae _ _ ?_⟩
 unfold CH
 have e:(bm.take (i+1)).map (b6 T.g q)=(bm.take i).map (b6 T.g q)++ [b6 T.g q x]:=by rw[List.take_add_one,I];simp
 rw[e]
 have ar:((i+1:Nat):Int)=(i:Int)+1:=by omega
 rw[ar]
 exact W.perm (List.perm_append_singleton _ _).symm
def apv{ab:Nat->Option aN}{ub:H}{T:ak}{q:List Int}{t:J}{at' lv:Int}{FP:Value}{K:H->Prop}(cy:ub.le u)(h:cP ab ub b T)(N:mK T.ao T.g)(hid:at'∈T.g.map (·.1))(ht:oZ ub T.ao t q)
  (jN:0<=lv) (b9:lv<31) (cN:Nat->H->Prop) (jv:∀i v,cN i v->ub.le v)
  (PS:∀i x v (K:Bool->H->Prop),(iY T.g q lv.toNat at')[i]?=some x->cN i v->(∀cF bH,cN (i+1) bH->K cF bH)->mc Tryz.prog FP #[DY (b6 T.g q x)] [.one .bool] v K)
  (h0:cN 0 u) (ae:∀i v,i<=(iY T.g q lv.toNat at').length->cN i v->K v):Cs (some ⟨b,0,none⟩) at' t lv FP u K:=
 abf cy h N hid ht jN b9 cN (λv=>∃i,i<=(iY T.g q lv.toNat at').length/\cN i v) jv
  (λi x v e5 I aH h1 h2=>PS i x v e5 I aH λcF bH ik=>by cases cF;exact h2 bH ⟨i+1,(List.getElem?_eq_some_iff.1 I).1,ik⟩;exact h1 bH ik)
  h0 (λv av=>ae _ v (Nat.le_refl _) av) λv ⟨i,hi,av⟩=>ae i v hi av
structure ad1(Y hC:H)(Ah:Nat->Option aN)(b:Nat)(T:ak)(id:Int)(p:Nat)(sv:J)(v:List Int)(top:Nat)(lv:Int)(w:H)(aM:Nat->Option aN)(nd:cw):Prop where
 is:In Y w aM b T
 node:kd aM w id nd
 cL:eZ hC Ah w aM
 xK:nd.p=p
 es:nd.sv=sv
 HJ:nd.v=v
 Ae:nd.top=top
 lP:∀(j:Nat) l,nd.kn[j]?=some l->vG T.bU (T.g.map (·.1)) l/\((j:Int)<=lv->l=[])
structure Mw(Y arf:H)(agS:Nat->Option aN)(b:Nat)(T:ak)(g2:List (Int×cw))(id:Int)(nd:cw)(P:Nat->Int->Prop)(w:H):Prop where
 ex:∃aM bS,In Y w aM b {T with g:=bS}/\eZ arf agS w aM/\Alike g2 bS/\mL T.ao T.bU bS/\dx bS id=some nd/\
  ∀a n (j:Nat) l,a≠id->dx bS a=some n->n.kn[j]?=some l->P j a->id∉l
theorem Su{Y:H}{ab:Nat->Option aN}{T:ak}{id:Int}{K:H->Prop}(h:In Y u ab b T)(aJ:dj T)(fC:ib Y)(hid:id∉T.g.map (·.1))(aiX:1<=id/\id<=1000000000)
  (av:Ints u sv v) (EI:∀g,sv.ad=some g->ab g=some (.vec id)) (u7:(v.length:Int)=T.ao/\ej v) (fc:T.g.length<=512)
  (ae:∀u' aM T',In Y u' aM b T'->eZ u ab u' aM->dj T'->eN T'.g=eN T.g++ [(id,v)]->T'.ao=T.ao->T'.bU=T.bU->K u'):zu (some ⟨b,0,none⟩) id sv u K:=by
 have bX:=h.az.nodup
 apply asB
 intro n0 et
 have kS:=bN (u:=u) (b:=n0) (.cells #[.pointer (some ⟨b,0,none⟩)] 163 (0,0)) et
 have AB:ab n0=none:=h.fresh et
 have h1:=h.mono kS
 have fJ:(u.ins n0 (.cells #[.pointer (some ⟨b,0,none⟩)] 163 (0,0))) n0=some (.cells #[.pointer (some ⟨b,0,none⟩)] 163 (0,0)):=aS _ _ _
 obtain⟨aI,gl⟩:∃aI,u.ins n0 (.cells #[.pointer (some ⟨b,0,none⟩)] 163 (0,0))=aI:=⟨_,rfl⟩
 rw[gl] at kS h1 fJ ⊢
 obtain⟨_,_,c2,_,_⟩:=lz h1.az
 refine⟨_,aV fJ 0,_,rfl,_,c2,apV h1.az.src fC h1.le (h1.out _ (by rw[h1.az.dZ];simp)) λnk Fc dc jN b9=>?_⟩
 obtain⟨top,rfl⟩:=Int.eq_ofNat_of_zero_le jN
 obtain⟨e0,yw⟩:=h1.aoH dc
 have Hk:=yw.bd _ _ fJ AB
 have Qm:Ints (aI.ins T.src (.cells #[.int .u64 nk] 338 (0,0))) sv v:=bb.else (av.mono kS) λg o N U=>by rw[aL _ _ (λe=>by have:=EI g N;rw[e,h1.az.dZ] at this;cases this)];exact U
 obtain⟨h7,Yi⟩:∃h7,aI.ins T.src (.cells #[.int .u64 nk] 338 (0,0))=h7:=⟨_,rfl⟩
 rw[Yi] at e0 yw Hk Qm ⊢
 intro n7 AL
 generalize Em:Obj.cells _ 349 (0,0)=re
 have ajO:re=.cells (hM (qh n7 sv v top)).toArray 349 (0,0):=by rw[<-Em];rfl
 subst ajO
 clear Em
 have Wb:In Y h7 ab b {T with bo:=nk}:=e0
 obtain⟨Ah,gC,NY,ED⟩:=Wb.amF hid AL Qm EI top
 have vQ:=ED.bd _ _ Hk AB
 have OI:=ED.none Hk AB
 have abZ:=((eZ.mono kS).trans yw).trans ED
 obtain⟨hC,tK⟩:∃hC,h7.ins n7 (.cells (hM (qh n7 sv v top)).toArray 349 (0,0))=hC:=⟨_,rfl⟩
 rw[tK] at gC NY ED vQ abZ ⊢
 obtain⟨a6,jY⟩:∃a6,{T with bo:=nk}=a6:=⟨_,rfl⟩
 rw[jY] at gC
 have kF:a6.g=T.g:=by rw[<-jY]
 have C6:a6.ao=T.ao:=by rw[<-jY]
 have el:a6.bU=T.bU:=by rw[<-jY]
 have Vr:a6.entry=T.entry:=by rw[<-jY]
 have oe:dj a6:=⟨by rw[C6,el,kF];exact aJ.k,by rw[el];exact aJ.bU,by rw[kF,Vr];exact aJ.entry⟩
 rw[<-kF] at hid fc bX
 rw[<-C6] at u7
 have fin:∀u' aM T',In Y u' aM b T'->eZ hC Ah u' aM->dj T'->eN T'.g=eN a6.g++ [(id,v)]->T'.ao=a6.ao->T'.bU=a6.bU->K u':=λu' aM T' cv cI pr vc wO nM=>
  ae u' aM T' cv (abZ.trans cI) pr (by rw[vc,kF]) (wO.trans C6) (nM.trans el)
 clear ae aJ h1 e0 Wb yw Qm AL gl Yi tK c2 jN av EI kS Hk ED AB et fJ
 obtain⟨_,_,_,d3,d4⟩:=lz gC.az
 have tx:∀x∈a6.g,1<=x.1:=λx I=>(oe.k.ok.ids x I).1
 have uW:=oe.bU
 have put:∀{w:H} {aM:Nat->Option aN} {nd:cw} {e5:H->Prop},In Y w aM b a6->kd aM w id nd->nd.p=n7->(∀aw,In Y aw aM b {a6 with g:=a6.g++ [(id,nd)]}->eZ w aM aw aM->e5 aw)->
   cx Tryz.prog (unit (Instr.mapUpdate 251 (.map (some a6.m)) (.int .i64 id) (.pointer (some ⟨n7,0,none⟩)))) [] w e5:=λ{w aM nd e5} cr de aa hk=>by
  refine y8 tQ cr.az.map (by rw[v7,xN.2 hid];rfl) λo hm=>?_
  have ov:dI (w.ins a6.m o) a6.m (hj (a6.g++ [(id,nd)])):=by rw[ann,aa];exact hm
  obtain⟨cv,cI⟩:=cr.aaL ov λx I=>by rcases List.mem_append.1 I with I|I;exact cr.az.nodes x I;simp at I;subst I;exact de
  exact hk _ cv cI
 have Uv:∀{nd:cw},nd.v=v->nd.top=top->(∀(j:Nat) l,nd.kn[j]?=some l->vG a6.bU (a6.g.map (·.1)) l)->mL a6.ao a6.bU (a6.g++ [(id,nd)]):=λ{nd} h1 h2 h3=>
  oe.k.add uW hid aiX (by rw[h1];exact u7) (by omega) fc h3
 refine⟨_,aV vQ 0,_,rfl,_,d4,λhe=>?_,λhe=>?_⟩
 have oq:a6.g=[]:=by
  rcases oe.entry with⟨h1,_⟩|h1;exact h1
  grind
 refine⟨_,aV vQ 0,_,rfl,_,d3,put gC NY rfl λw hw EF=>?_⟩
 refine⟨_,aV (EF.bd _ _ vQ OI) 0,_,rfl,KB hw.az (e:=id) ?_⟩
 obtain⟨cv,cI⟩:=hw.FT id
 refine fin _ _ _ cv (EF.trans cI) ⟨Uv rfl rfl λj l ai=>by rw[Zs ai];exact vG.nil uW.1 _,uW,.inr (by simp)⟩ ?_ rfl rfl
 simp[eN,qh]
 have pV:a6.entry∈a6.g.map (·.1):=by rcases oe.entry with⟨_,h1⟩|h1;exact absurd h1 he;exact h1
 intro adS ahy
 have start:∀x:Int,x<=30->-1<=x->adS x hC:=λx cJ b0=>ahy x hC (by
  refine⟨λlv w=>-1<=lv/\lv<=30/\∃aM nd,ad1 Y hC Ah b a6 id n7 sv v top lv w aM nd,λlv _=>(lv+1).toNat,
   ⟨b0,cJ,Ah,_,gC,NY,eZ.refl _ _,rfl,rfl,rfl,rfl,λj l ai=>by rw[Zs ai];exact⟨vG.nil uW.1 _,λ_=>rfl⟩⟩,?_⟩
  rintro lv w ⟨Fc,Zl,xM,nd,dv⟩;have cr:=dv.is;have N0:=dv.node;have lX:=dv.cL.bd _ _ vQ OI;have OM:=dv.cL.none vQ OI;obtain⟨_,gq,_,hD,lA⟩:=lz cr.az;have ay:oZ w a6.ao sv v:=⟨by have:=N0.vec;rw[dv.es,dv.HJ] at this;exact this,u7.2,u7.1⟩;refine⟨λkM=>?_,λkM=>?_⟩;refine⟨_,aV lX 0,_,rfl,_,gq,Kw (λdT=>by omega) λ_ _ mD arb akF u1 nb=>?_⟩;intro n31 pZ;refine oN (zs:=[.pointer none]) rfl (by simp[Value.oneCell']) ?_;have Ys:w n31=none:=akF.none pZ;have EE:=nb.lx pZ (.cells [.pointer (some ⟨mD,0,none⟩)].toArray 129 (0,0));obtain⟨u32,Yg⟩:∃u32,arb.ins n31 (.cells [.pointer (some ⟨mD,0,none⟩)].toArray 129 (0,0))=u32:=⟨_,rfl⟩;rw[Yg] at EE ⊢;intro n33 Pm;refine oN (zs:=[.int .i64 0]) rfl (by simp[Value.oneCell']) ?_;have yy:=EE.lx Pm (.cells [.int .i64 0].toArray 3 (0,0));have V8:u32 n31≠none:=by rw[<-Yg,aS];simp
  have Ps:n31≠n33:=λe=>V8 (by rw[e];exact Pm);have Yt:w n33=none:=by have:=EE.le.none Pm;rw[aL _ _ (Ne.symm Ps)] at this;exact this
  obtain⟨Cb,akG⟩:∃Cb,u32.ins n33 (.cells [.int .i64 0].toArray 3 (0,0))=Cb:=⟨_,rfl⟩;rw[akG] at yy ⊢;have tq:∀{dk fq:Obj} {z:H},((w.ins n31 dk).ins n33 fq).le z->w.le z:=λhle c y E=>hle c y (by rw[aL _ _ (λe=>by rw[e,Yt] at E;cases E),aL _ _ (λe=>by rw[e,Ys] at E;cases E)];exact E)
  have EJ:w.le Cb:=tq yy.le;obtain⟨at',pb⟩:∃at',qp a6.g v a6.entry lv.toNat=at':=⟨_,rfl⟩;have WB:at'∈a6.g.map (·.1):=by rw[<-pb];exact SD oe.k.ok pV _
  refine⟨_,aV (EJ _ _ lX) 0,_,aV (EJ _ _ lX) 0,abi (cr.az.mono EJ) oe.k.ok pV (ay.mono EJ) kM ⟨H.le.refl _,?_⟩⟩;rw[pb];obtain⟨bm,gv⟩:∃bm,iY a6.g v lv.toNat at'=bm:=⟨_,rfl⟩;have Dx:=Met.one (b6 a6.g v) (ids:=a6.g.map (·.1)) (pX a6.g v) WB;have xW:bm.Nodup/\(∀x∈bm,x∈a6.g.map (·.1)):=by rw[<-gv];exact⟨(VF (b6 a6.g v) (jA a6.g lv.toNat) (pX a6.g v) (oe.k.ok.bO _) _ _ _ Dx).1,VE (b6 a6.g v) (jA a6.g lv.toNat) (pX a6.g v) (oe.k.ok.bO _) _ _ _ Dx⟩
  have ah2:bm.length<=1000000:=by have:=l1 xW.1 xW.2;simp at this;omega
  have ajj:CH w n31 n33 mD a6.bU a6.g v bm 0 Cb:=yy;refine apv EJ cr.az oe.k.ok WB ay kM (by omega) (λi z=>CH w n31 n33 mD a6.bU a6.g v bm i z) (λi z aP=>tq (gZ.le aP))
   (λi x z e5 I aH hk=>alP cr.az uW lX Ys Yt Ps ah2 (by rw[<-gv];exact I) aH hk) ajj λi z cK jv=>?_
  rw[gv] at cK;have Yw:w.le z:=tq (gZ.le jv);have ak5:z n31=some (.cells #[.pointer (some ⟨mD,0,none⟩)] 129 (0,0)):=(gZ.le jv) _ _ (by rw[aL _ _ Ps,aS]);refine⟨_,aV ak5 0,F2 jv λRW KR AO=>?_⟩;obtain⟨L,cE⟩:∃L,dX a6.bU.toNat ((bm.take i).map (b6 a6.g v))=L:=⟨_,rfl⟩;rw[cE] at AO;have avX:∃bT:List bk,(kW ((bm.take i).map (b6 a6.g v))).take a6.bU.toNat=L:=⟨[],cE⟩;have Wr:(L.map (·.1)).Sublist ((kW ((bm.take i).map (b6 a6.g v))).map (·.1)):=by rw[<-cE];exact(List.take_sublist _ _).map _
  have jj:=(rp ((bm.take i).map (b6 a6.g v))).map (·.1);have ah3:((bm.take i).map (b6 a6.g v)).map (·.1)=bm.take i:=by
   rw[List.map_map];have:((λx:bk=>x.1)∘b6 a6.g v)=λx=>x:=by funext x;rfl
   rw[this];exact List.map_id' _
  rw[ah3] at jj;have aiS:∀m,vG a6.bU (a6.g.map (·.1)) ((L.take m).map (·.1)):=λm=>by
   have gH:((L.take m).map (·.1)).Sublist (L.map (·.1)):=(List.take_sublist _ _).map _;refine⟨λx I=>xW.2 x (List.mem_of_mem_take ((jj.mem_iff (a:=x)).1 (Wr.mem (gH.mem I)))),(jj.nodup_iff.2 (xW.1.sublist (List.take_sublist _ _))).sublist (gH.trans Wr),?_⟩;have:L.length<=a6.bU.toNat:=by rw[<-cE,uf];exact Nat.min_le_left _ _
   simp only[List.length_map,List.length_take];omega
  have wa:L.length<=16:=by
   have:L.length<=a6.bU.toNat:=by rw[<-cE,uf];exact Nat.min_le_left _ _
   omega
  have Qr:w.le KR:=Yw.trans AO.le;have aki:∀g,RW.ad=some g->xM g=none/\∃o,KR g=some o:=λg N=>by have h1:=AO.fresh g N;exact⟨cr.fresh (Yw.none h1),Option.ne_none_iff_exists'.1 (qj AO N)⟩
  have awX:=AO.fN.len;refine⟨λk x=>0<=k/\k<=L.length/\∃aM vh,In Y x aM b a6/\kd aM x id vh/\eZ KR xM x aM/\vh.p=n7/\vh.sv=sv/\vh.v=v/\vh.top=top/\
    ∀(j:Nat) l,vh.kn[j]?=some l->(j=lv.toNat/\l=(L.take k.toNat).map (·.1))∨(j≠lv.toNat/\nd.kn[j]?=some l),λk _=>L.length-k.toNat,
   ⟨by omega,by omega,xM,nd,cr.mono Qr,N0.bd (λ_ _=>rfl) λc o U _=>Qr c o U,eZ.refl _ _,dv.xK,dv.es,dv.HJ,dv.Ae,λj l ai=>?_⟩,?_⟩
  by_cases e:j=lv.toNat;have:=(dv.lP j l ai).2 (by omega);exact .inl ⟨e,by simpa using this⟩;exact .inr ⟨e,ai⟩;rintro k x ⟨iq,cv,aM,vh,pe,As,q1,aO,ar,cq,eD,il⟩;refine⟨λlb=>?_,λXj=>?_⟩;have akZ:iZ x RW L:=bb.else AO.fN λg o N U=>q1.bd g o U (aki g N).1;obtain⟨anx,aj1,y,af,iA,e4,fm⟩:=akZ.at iq lb;obtain⟨s,l,df,dh,E,U,wL⟩:=sn As (lv:=lv.toNat) (by omega);have ai:l=(L.take k.toNat).map (·.1):=by rcases il _ l dh with⟨_,h1⟩|⟨h1,_⟩;exact h1;exact absurd rfl h1
  rw[aO] at E;refine⟨anx,aj1,⟨iq,lb⟩,_,iA,_,e4,_,fm,by decide,⟨kM,by omega⟩,s,E,?_⟩;have jf:=U.ints.len;have awt:l.length<=16:=by rw[ai];simp;omega
  refine vp pE (xy y.1) (by decide) rfl (by simp[Value.oneCell']) U (by omega) (by omega) λs' c8 bG im eY dJ _=>⟨by decide,⟨kM,by omega⟩,?_⟩;have oo:l.flatMap encI++ [.int .i64 y.1]=(l++ [y.1]).flatMap encI:=by simp[encI]
  rw[oo] at bG;unfold aR;rw[BD,<-aO];have p6:s.ad≠some vh.p:=λe=>by have:=wL _ e;rw[As.tag] at this;cases this
  refine SB (eY _ _ As.cell p6) As.qd (by omega) (l++ [y.1]) ?_;obtain⟨mj,NX,ax⟩:=As.level pe.known df bG eY dJ;have qS:=pe.aoO hid ax;refine⟨⟨by omega,by omega⟩,⟨by omega,by omega,mj,_,qS,NX,q1.trans ax.cL,rfl,ar,cq,eD,λj cZ fX=>?_⟩,by dsimp only;omega⟩;rcases FU fX with⟨h1,h2⟩|⟨h1,h2⟩;refine .inl ⟨h1,?_⟩;rw[h2,ai,show(k+1).toNat=k.toNat+1 by omega,List.take_add_one,af];simp;rcases il j cZ h2 with⟨h3,_⟩|⟨_,h3⟩;exact absurd h3 h1;exact .inr ⟨h1,h3⟩;have awp:k.toNat=L.length:=by omega
  refine⟨⟨by omega,by omega⟩,⟨by omega,by omega,aM,vh,⟨pe,As,(dv.cL.trans (eZ.mono Qr)).trans q1,aO,ar,cq,eD,λj l ai=>?_⟩⟩,by dsimp only;omega⟩;rcases il j l ai with⟨h1,h2⟩|⟨h1,h2⟩;rw[h2];exact⟨aiS _,λaH=>by omega⟩;obtain⟨h3,aZ⟩:=dv.lP j l h2;exact⟨h3,λaH=>aZ (by omega)⟩;refine⟨_,aV lX 0,_,rfl,_,hD,put cr N0 dv.xK λK0 iP Ya=>?_⟩;have hJ:mL a6.ao a6.bU (a6.g++ [(id,nd)]):=Uv dv.HJ dv.Ae λj l ai=>(dv.lP j l ai).1;have Xt:=Ya.bd _ _ lX OM;have aiQ:dx (a6.g++ [(id,nd)]) id=some nd:=by rw[NC hid,if_pos rfl]
  have p2:((a6.g++ [(id,nd)]).map (·.1)).Nodup:=iP.az.nodup;have akf:eN (a6.g++ [(id,nd)])=eN a6.g++ [(id,v)]:=by simp[eN,dv.HJ]
  have Ao:Mw Y K0 xM b a6 (a6.g++ [(id,nd)]) id nd (λj _=>0<=j) K0:=⟨xM,_,iP,eZ.refl _ _,Alike.refl _,hJ,aiQ,λa n j l ah ac ai _=>by rw[NC hid,if_neg ah] at ac;exact λhm=>hid (oe.k.ok.known _ (gf ac) l (List.mem_of_getElem? ai) id hm)⟩
  refine⟨λj z=>0<=j/\j<=31/\Mw Y K0 xM b a6 (a6.g++ [(id,nd)]) id nd (λi _=>j.toNat<=i) z,λj _=>(31-j).toNat,⟨by omega,by omega,Ao⟩,?_⟩;rintro j z ⟨eL,gI,b4⟩;refine⟨λaH=>?_,λaH=>?_⟩;obtain⟨aM,bS,pe,q1,Ih,cR,Is,x0⟩:=b4;obtain⟨s,l,df,dh,E,U,wL⟩:=sn (pe.az.node Is) (lv:=j.toNat) (by omega);have aiH:=dv.xK;rw[aiH] at E;have tx:=(dv.lP _ l dh).1;have jf:=U.ints.len;have Xn:=U.ints.max;refine⟨by decide,⟨eL,aH⟩,s,E,?_⟩;refine⟨λk y=>0<=k/\k<=l.length/\Mw Y K0 xM b a6 (a6.g++ [(id,nd)]) id nd (λi a=>j.toNat<i∨(i=j.toNat/\a∉l.take k.toNat)) y,λk _=>l.length-k.toNat,
   ⟨by omega,by omega,aM,bS,pe,q1,Ih,cR,Is,λa n i cZ h1 h2 h3 aZ=>x0 a n i cZ h1 h2 h3 (by omega)⟩,?_⟩
  rintro k y ⟨iq,cv,H5⟩;refine⟨λlb=>?_,λXj=>?_⟩;obtain⟨gd,g3,je,iM,qP,gP,It,DU⟩:=H5;have ml:=je.az.node It;obtain⟨s2,cZ,aO,ar,_,dD,_⟩:=sn ml (lv:=j.toNat) (by omega);rw[df] at aO;cases aO;rw[dh] at ar;cases ar;obtain⟨q,AV,Om⟩:=dD.ints.at iq lb;have Jd:l[k.toNat]?=some (l.getD k.toNat 0):=getD_some (by omega);have q4:=tx.sub _ (List.mem_of_getElem? Jd);have Qx:l.getD k.toNat 0≠id:=λe=>hid (e▸q4);have Xg:g3.map (·.1)=a6.g.map (·.1)++ [id]:=by rw[qP.ids];simp
  obtain⟨dL,p1⟩:=tn (g:=g3) (id:=l.getD k.toNat 0) (by rw[Xg];exact List.mem_append_left _ q4);have NZ:=je.az.node p1;obtain⟨BZ,E5,O,a2,_,_,_⟩:=sn NZ (lv:=j.toNat) (by omega);have Pc:E5.length<=1000000:=by have h1:=(gP.many _ _ _ _ p1 a2).1;have:=(Rc (lv:=((j.toNat:Nat):Int)) uW).2;omega
  have ajK:l.getD k.toNat 0∉l.take k.toNat:=λhm=>by
   obtain⟨i,hi,e⟩:=List.mem_iff_getElem.1 hm;simp only[List.length_take] at hi;have wu:i<l.length:=by omega
   have AE:k.toNat<l.length:=by omega
   have:=List.pairwise_iff_getElem.1 tx.nodup i k.toNat wu AE (by omega);rw[List.getElem_take,List.getD_eq_getElem?_getD,List.getElem?_eq_getElem AE] at e;exact this e
  have dK:=DU _ dL j.toNat E5 Qx p1 a2 (.inr ⟨rfl,ajK⟩);have Iw:id∈g3.map (·.1):=by rw[Xg];simp
  refine⟨q,AV,⟨iq,lb⟩,_,Om,_,aV (iM.bd _ _ Xt OM) 0,?_⟩;refine abg je gP.ok uW p1 Iw eL (by omega) a2 Pc λacJ agR qm yN ai2 aky ajf=>⟨⟨by omega,by omega⟩,⟨by omega,by omega,agR,_,ai2,iM.trans aky,qP.trans (Alike.hn p1 _ _ _),?_,?_,?_⟩,by dsimp only;omega⟩;exact gP.YX je.az.nodup p1 eL qm a2 ajf Iw (Ne.symm Qx) dK;rw[Di,if_neg (Ne.symm Qx)];exact It;intro a n i wQ h1 h2 h3 aZ;rw[Di] at h2;by_cases e:a=l.getD k.toNat 0;rw[if_pos e] at h2;rw[e,p1] at h2;cases h2;have bh:j.toNat<i:=by rcases aZ with aZ|⟨_,aZ⟩;exact aZ;exfalso;apply aZ;rw[e,show(k+1).toNat=k.toNat+1 by omega,List.take_add_one,Jd];simp
  rcases FU h3 with⟨bJ,_⟩|⟨_,bJ⟩;omega;exact DU _ dL i wQ (by rw[<-e];exact h1) p1 bJ (.inl bh);rw[if_neg e] at h2;refine DU a n i wQ h1 h2 h3 ?_;rcases aZ with aZ|⟨aZ,bJ⟩;exact .inl aZ;refine .inr ⟨aZ,λhm=>bJ ?_⟩;rw[show(k+1).toNat=k.toNat+1 by omega,List.take_add_one];exact List.mem_append_left _ hm;obtain⟨gd,g3,je,iM,qP,gP,It,DU⟩:=H5;exact⟨⟨by omega,by omega⟩,⟨by omega,by omega,gd,g3,je,iM,qP,gP,It,λa n i wQ h1 h2 h3 aZ=>DU a n i wQ h1 h2 h3 (.inl (by omega))⟩,by dsimp only;omega⟩;obtain⟨aM,bS,pe,q1,Ih,cR,Is,_⟩:=b4;have QA:=q1.bd _ _ Xt OM;obtain⟨_,_,_,z3,z4⟩:=lz pe.az;have WZ:a6.entry∈bS.map (·.1):=by rw[Ih.ids];simp only[List.map_append];exact List.mem_append_left _ pV
  have Iw:id∈bS.map (·.1):=List.mem_map.2 ⟨_,gf Is,rfl⟩;have oz:eN bS=eN a6.g++ [(id,v)]:=by rw[Ih.rows p2];exact akf
  have A1:eZ hC Ah z aM:=(dv.cL.trans Ya).trans q1;refine⟨_,aV QA 0,_,rfl,_,z3,_,aV QA 0,_,rfl,_,z4,qo pe.az WZ λn _ de=>⟨_,rfl,n.top,?_,λ_=>⟨_,aV QA 0,_,rfl,KB pe.az (e:=id) ?_⟩,λ_=>?_⟩⟩;rw[Addr.add_lit,Nat.zero_add,BE de];exact JK de.qd;obtain⟨cv,cI⟩:=pe.FT id;exact fin _ _ _ cv (A1.trans cI) ⟨cR,uW,.inr Iw⟩ oz rfl rfl;exact fin _ _ _ pe A1 ⟨cR,uW,.inr WZ⟩ oz rfl rfl)
 obtain⟨ne,ah⟩:=tn pV
 refine⟨_,aV vQ 0,_,rfl,_,d3,_,aV vQ 0,_,rfl,_,d4,qo gC.az pV λn ac de=>⟨_,rfl,n.top,?_,?_⟩⟩
 rw[Addr.add_lit,Nat.zero_add,BE de];exact JK de.qd
 have:=oe.k.ok.top _ (gf ac)
 simp only at this
 exact start _ (by split<;>omega) (by split<;>omega)
end
end dE
def Jg(L:List aT):L.map (·.id)=(L.map aT.bV).map (·.1):=by rw[List.map_map];rfl
namespace dE
section
variable{u Y v B:H}{q S:List Int}{s:J}{bT b aQ bO n:Nat}{k:Int}{g:List (Int×cw)}
def RH(g:List (Int×cw)):(hj g).length=g.length:=by simp[hj]
def In.SK{ab:Nat->Option aN}{T:ak}(h:In Y u ab b T)(hs:∀g,s.ad=some g->ab g=none/\Y g=none/\u g≠none)(id:Int):
  ∃aM,In Y u aM b T/\(∀g,s.ad=some g->aM g=some (.vec id))/\(∀c,s.ad≠some c->aM c=ab c):=by
 let aM:Nat->Option aN:=λc=>open Classical in if s.ad=some c then some (.vec id) else ab c
 have aO:∀c,s.ad=some c->aM c=some (.vec id):=λc E=>if_pos E
 have ar:∀c,s.ad≠some c->aM c=ab c:=λc E=>if_neg E
 have cq:∀c,ab c≠none->aM c=ab c:=λc E=>ar c λe=>E (hs c e).1
 refine⟨aM,⟨h.az.bd cq λ_ _ U _=>U,h.le,λc E=>?_,λc E=>?_⟩,aO,ar⟩
 by_cases e:s.ad=some c
 exact(hs c e).2.1
 rw[ar c e] at E;exact h.out c E
 by_cases e:s.ad=some c
 exact(hs c e).2.2
 rw[ar c e] at E;exact h.known c E
structure zJ(Y u:H)(ab:Nat->Option aN)(b:Nat)(T:ak)(id:Int)(v:List Int)(u':H)(aM:Nat->Option aN)(T':ak):Prop where
 is:In Y u' aM b T'
 cL:eZ u ab u' aM
 ok:dj T'
 rows:(eN T'.g).Perm ((id,v)::(eN T.g).filter λx=>x.1 !=id)
 ao:T'.ao=T.ao
 bU:T'.bU=T.bU
def rj(g:List (Int×cw)):(eN g).map (·.1)=g.map (·.1):=by unfold eN;rw[List.map_map];rfl
theorem apG{ab:Nat->Option aN}{T:ak}{id:Int}{t:J}{K:Bool->Int->H->Prop}(h:In Y u ab b T)(aJ:dj T)(fC:ib Y)(ht:Ints u t q)(fN:∀g,t.ad=some g->ab g=none)
  (dT:hA id q T.ao (decide (id∈T.g.map (·.1))) T.g.length≠0->K false (hA id q T.ao (decide (id∈T.g.map (·.1))) T.g.length) u)
  (bL:hA id q T.ao (decide (id∈T.g.map (·.1))) T.g.length=0->∀u' aM T',zJ Y u ab b T id q u' aM T'->K (decide (id∉T.g.map (·.1))) 0 u'):LC (some ⟨b,0,none⟩) id t u K:=by
 obtain⟨c0,_,_,c3,_⟩:=lz h.az
 apply acA
 refine⟨λe=>(by cases e),λ_=>⟨_,rfl,_,c3,?_⟩⟩
 refine mE tQ h.az.map (ct:=.ptr) ((dx T.g id).map λn=>(⟨n.p,0,none⟩:Addr)) (by rw[v7];cases dx T.g id<;>rfl) ?_
 have gk:(eF (hj T.g) id).isSome=decide (id∈T.g.map (·.1)):=by
  rw[v7,Option.isSome_map];cases e:dx T.g id with
  |none=>rw[decide_eq_false (xN.1 e)];rfl|some n=>rw[decide_eq_true (List.mem_map.2 ⟨_,gf e,rfl⟩)];rfl
 rw[gk]
 refine⟨_,rfl,_,rfl,_,c0,_,c3,sH tQ h.az.map ⟨H.le.refl u,Kq ht ?_⟩⟩
 rw[RH]
 refine⟨λah=>dT ah,λhe=>?_⟩
 have bL:=bL he
 have iS:¬(id<1∨1000000000<id)/\fV q T.ao=0/\¬(decide (id∈T.g.map (·.1))=false/\512<=(T.g.length:Int)):=by
  unfold hA at he;by_cases h1:id<1∨1000000000<id;omega
  grind
 obtain⟨d1,d2,d3,d4⟩:=rz iS.2.1
 have lay:∀(aI:H) (cX:Nat->Option aN) (a6:ak),In Y aI cX b a6->eZ u ab aI cX->dj a6->eN a6.g=(eN T.g).filter (λx=>x.1 !=id)->a6.ao=T.ao->a6.bU=T.bU->
   nZ t aI λfZ hR=>H.le aI hR/\zu (some ⟨b,0,none⟩) id fZ hR λqq=>K (!decide (decide (id∈T.g.map (·.1))=true)) 0 qq:=by
  intro aI cX a6 h1 jz jY wJ r3 gi
  have uT:Ints aI t q:=bb.else ht λg o N U=>jz.bd g o U (fN g N)
  refine rq uT (by have:=uT.len;omega) λfZ hR io _=>⟨io.le,?_⟩
  have Al:=h1.mono io.le
  obtain⟨gd,h2,yC,gP⟩:=Al.SK (s:=fZ) (λg N=>⟨h1.fresh (io.fresh g N),h1.le.none (io.fresh g N),qj io N⟩) id
  have ym:id∉a6.g.map (·.1):=λhm=>by
   rw[<-rj,wJ] at hm
   grind
  have hlen:a6.g.length<=512:=by
   have aO:a6.g.length=((eN T.g).filter λx=>x.1 !=id).length:=by rw[<-wJ];simp[eN]
   by_cases cr:id∈T.g.map (·.1);have:((eN T.g).filter λx=>x.1 !=id).length<(eN T.g).length:=by rw[List.length_filter_lt_length_iff_exists];rw[<-rj] at cr;obtain⟨x,I,e⟩:=List.mem_map.1 cr;exact⟨x,I,by simp[e]⟩
   have bJ:(eN T.g).length=T.g.length:=by simp[eN]
   have:=aJ.k.ok.small;omega;have aZ:¬512<=(T.g.length:Int):=λbJ=>iS.2.2 ⟨decide_eq_false cr,bJ⟩;have bJ:(eN T.g).length=T.g.length:=by simp[eN]
   grind
  refine Su h2 jY fC ym (by omega) io.ints yC ⟨by rw[r3];exact d3,d4⟩ hlen λqq mj s3 h3 lj N4 Et DN x9=>?_
  have Z:(!decide (decide (id∈T.g.map (·.1))=true))=decide (id∉T.g.map (·.1)):=by grind
  rw[Z]
  refine bL qq mj s3 ⟨h3,?_,N4,?_,DN.trans r3,x9.trans gi⟩
  have gone:∀c,aI c=none->ab c≠none∨u c=none:=λc E=>by
    cases e:ab c with
    |some x=>exact .inl (by simp)|none=>
     cases ar:u c with
     |none=>exact .inr rfl|some o=>rw[jz.bd c o ar e] at E;cases E
  refine⟨λc o E M=>?_,λc E=>?_⟩
  have bJ:=jz.bd c o E M
  have e:fZ.ad≠some c:=λe=>by have:=io.fresh c e;grind
  exact lj.bd c o (io.le c o bJ) (by rw[gP c e];exact jz.none E M)
  rcases lj.grow c E with bJ|bJ
  by_cases e:fZ.ad=some c
  exact gone c (io.fresh c e)
  rw[gP c e] at bJ;exact jz.grow c bJ
  exact gone c (io.le.none bJ)
  grind
 refine St h aJ (λdp aI gl=>?_) λn ac aI cX a6 nI=>?_
 refine lay aI ab T (h.mono gl) (eZ.mono gl) aJ ?_ rfl rfl
 refine(List.filter_eq_self.2 λx I=>?_).symm
 have:x.1≠id:=λe=>xN.1 dp (by rw[<-rj];grind)
 simpa using this
 exact lay aI cX a6 nI.is nI.cL nI.ok nI.rows nI.ao nI.bU
structure K8(u u':H)(l:List aT)(ao bU:Int)(b:Nat)(ab:Nat->Option aN)(T:ak):Prop where
 is:In u u' ab b T
 ok:dj T
 rows:(eN T.g).Perm (l.map aT.bV)
 ao:T.ao=ao
 bU:T.bU=bU
def vT(l:List aT)(ao bU:Int):Int:=if nh l ao≠0 then nh l ao else if bU<1∨16<bU then 1 else 0
theorem apF{l:List aT}{ao bU ku:Int}{K:Option Addr->Int->H->Prop}(hs:ev u s l)(fC:ib u)(PT:cS ku)
  (dT:vT l ao bU≠0->K none (vT l ao bU) u) (bL:vT l ao bU=0->∀b ab T u',K8 u u' l ao bU b ab T->K (some ⟨b,0,none⟩) 0 u'):LA s ao bU ku u K:=by
 have bad:∀z,vT l ao bU=z->z≠0->K none z u:=λz e aP=>by subst e;exact dT aP
 apply asr
 refine Kp hs ⟨λah=>bad _ (if_pos ah) ah,λhe=>?_⟩
 intro js hc
 refine⟨λh1=>bad 1 (by unfold vT;omega) (by decide),λh1=>⟨λh2=>bad 1 (by unfold vT;omega) (by decide),λh2=>hc _ _ _ ?_⟩⟩
 have bL:=bL (by unfold vT;omega)
 have b8:=FD.1 he
 have hlen:=b8.len
 apply as0
 intro rb ajJ
 have alR:=bN (u:=u) (b:=rb) (.cells #[.int .u64 ku] 338 (0,0)) ajJ
 refine J9 λm l3 hm kp=>?_
 intro mD u1
 have Pl:m≠rb:=λe=>by rw[e,aS] at hm;cases hm
 have I0:mD≠m:=λe=>by rw[e,aS] at u1;cases u1
 have IJ:(u.ins rb (.cells #[.int .u64 ku] 338 (0,0))) mD=none:=by rw[aL _ _ I0] at u1;exact u1
 have Qa:mD≠rb:=λe=>by rw[e,aS] at IJ;cases IJ
 have awM:u mD=none:=by rw[aL _ _ Qa] at IJ;exact IJ
 have awG:u m=none:=by rw[aL _ _ Pl] at hm;exact hm
 obtain⟨pL,oh⟩:∃pL:ak,pL=⟨ao,bU,rb,m,ku,[],0⟩:=⟨_,rfl⟩
 let Ag:Nat->Option aN:=λc=>if c=mD then some .tree else if c=rb then some .src else if c=m then some .map else none
 have f1:Ag mD=some .tree:=if_pos rfl
 have f2:Ag rb=some .src:=(if_neg (Ne.symm Qa)).trans (if_pos rfl)
 have f3:Ag m=some .map:=(if_neg (Ne.symm I0)).trans ((if_neg Pl).trans (if_pos rfl))
 have f4:∀c,Ag c≠none->c=mD∨c=rb∨c=m:=λc E=>by
  grind
 have gO:(fw pL).toArray=#[.int .i64 ao,.int .i64 bU,.pointer (some ⟨rb,0,none⟩),.map (some m),.int .i64 0]:=by rw[oh];rfl
 rw[<-gO]
 obtain⟨w,hw⟩:∃w,((u.ins rb (.cells #[.int .u64 ku] 338 (0,0))).ins m l3).ins mD (.cells (fw pL).toArray 253 (0,0))=w:=⟨_,rfl⟩
 have Pa:u.le w:=by rw[<-hw];exact(alR.trans (bN _ hm)).trans (bN _ u1)
 have gq:w mD=some (.cells (fw pL).toArray 253 (0,0)):=by rw[<-hw,aS]
 have ea:w rb=some (.cells #[.int .u64 ku] 338 (0,0)):=by rw[<-hw,aL _ _ (Ne.symm Qa),aL _ _ (Ne.symm Pl),aS]
 have hD:dI w m []:=kp.else λo U=>by rw[<-hw,aL _ _ (Ne.symm I0)];exact U
 have Wn:In u w Ag mD pL:=by
  refine⟨⟨gq,by rw[oh];exact ea,by rw[oh];exact PT,by rw[oh];exact hD,f1,by rw[oh];exact f2,by rw[oh];exact f3,λx I=>by rw[oh] at I;cases I⟩,Pa,λc E=>?_,λc E=>?_⟩
  grind
  rcases f4 c E with rfl|rfl|rfl;rw[gq];simp;rw[ea];simp;obtain⟨_,_,h3,_⟩:=hD;rw[h3];simp
 have ahI:dj pL:=by rw[oh];exact⟨⟨⟨b8.ao,λx I=>(by cases I),λx I=>(by cases I),λx I=>(by cases I),λx I=>(by cases I),by simp⟩,λi n lv l ac=>(by cases ac)⟩,⟨by show 1<=bU;omega,by show bU<=16;omega⟩,.inl ⟨rfl,rfl⟩⟩
 have C6:pL.ao=ao:=by rw[oh]
 have el:pL.bU=bU:=by rw[oh]
 have kF:pL.g=[]:=by rw[oh]
 rw[hw]
 clear hw kp gO oh gq ea hD
 refine Kr (hs.mono Pa) (λr W=>b8.id r W) (by omega) (λr W=>by have:=(b8.v r W).1;have:=b8.ao;omega) λvn ls hQ wc wG p7=>?_
 have Xr:ls.length=l.length:=by have:=wG.length_eq;simpa using this
 have ajp:(ls.map (·.id)).Nodup:=by have h1:=b8.nodup;rw[Jg] at h1 ⊢;exact(wG.map (·.1)).nodup_iff.2 h1
 have kM:∀r∈ls,(1<=r.id/\r.id<=1000000000)/\(r.v.length:Int)=ao/\ej r.v:=λr W=>by have:r.bV∈l.map aT.bV:=wG.mem_iff.1 (List.mem_map.2 ⟨r,W,rfl⟩);obtain⟨eB,ek,e⟩:=List.mem_map.1 this;have h1:eB.id=r.id:=congrArg Prod.fst e;have h2:eB.v=r.v:=congrArg Prod.snd e;rw[<-h1,<-h2];exact⟨b8.id eB ek,b8.v eB ek⟩
 have ahq:=Wn.mono wc.own.le
 have cY:vn.n=ls.length:=wc.rws.len
 refine⟨λi z=>0<=i/\i<=ls.length/\∃ab T,In u z ab mD T/\dj T/\T.ao=ao/\T.bU=bU/\eN T.g=(ls.take i.toNat).map aT.bV/\(∀c o,hQ c=some o->vn.ad=some c∨(∃r∈ls.drop i.toNat,r.s.ad=some c)->z c=some o/\ab c=none),
  λi _=>ls.length-i.toNat,⟨by omega,by omega,Ag,pL,ahq,ahI,C6,el,by rw[kF];simp[eN],λc o E hm=>⟨E,?_⟩⟩,?_⟩
 have ts:w c=none:=by rcases hm with hm|⟨r,W,hm⟩;exact wc.own.fresh c hm;exact(wc.inner r (List.mem_of_mem_drop W)).fresh c hm
 exact Wn.fresh ts
 rintro i z ⟨i0,i1,ab,T,Wm,oe,aj,ai,oz,gE⟩
 refine⟨λdC=>?_,λOX=>?_⟩
 have hi:i.toNat<ls.length:=by omega
 have aw3:ev z vn (ls.take 0)∨True:=.inr trivial
 have lW:bb z vn 2 (ls.flatMap cG):=bb.else wc.own.own.bR λg o N U=>(gE g o U (.inl N)).1
 obtain⟨r,W⟩:∃r,ls[i.toNat]?=some r:=⟨_,List.getElem?_eq_getElem hi⟩
 obtain⟨p,aa,E⟩:=bb.elem fh (by decide) lW W
 have DL:ls.drop i.toNat=r::ls.drop (i.toNat+1):=by rw[List.drop_eq_getElem_cons hi];rw[List.getElem?_eq_getElem hi] at W;rw[Option.some.inj W]
 have gx:r∈ls:=List.mem_of_getElem? W
 have mv:aE w hQ 3 1 r.s (r.v.flatMap encI):=wc.inner r gx
 have qZ:∀g,r.s.ad=some g->∀o,hQ g=some o->z g=some o/\ab g=none:=λg N o U=>gE g o U (.inr ⟨r,by rw[DL];exact .head _,N⟩)
 obtain⟨gd,ahr,yC,gP⟩:=Wm.SK (s:=r.s) (λg N=>by obtain⟨o,U⟩:=Option.ne_none_iff_exists'.1 (qj mv N);obtain⟨bJ,e0⟩:=qZ g N o U;exact⟨e0,Pa.none (mv.fresh g N),by rw[bJ];simp⟩) r.id
 have ym:r.id∉T.g.map (·.1):=λhm=>by
  rw[<-rj,oz,<-Jg] at hm;obtain⟨eB,ek,e⟩:=List.mem_map.1 hm;obtain⟨j,aH,rfl⟩:=List.mem_iff_getElem.1 ek;simp only[List.length_take] at aH;rw[List.getElem_take] at e;have:=List.pairwise_iff_getElem.1 ajp j i.toNat (by simp;omega) (by simp;omega) (by omega);simp only[List.getElem_map] at this
  grind
 have ah0:T.g.length<=512:=by have:=congrArg List.length oz;simp[eN] at this;omega
 have km:=E 0 _ rfl
 have iR:=E 1 _ rfl
 rw[Addr.add_zero'] at km
 refine⟨p,aa,⟨i0,dC⟩,_,km,_,iR,Su ahr oe fC ym (kM r gx).1 (bb.else mv.ints λg o N U=>(qZ g N o U).1) yC (by grind) ah0 λz2 mj s3 h3 lj ahJ Et DN x9=>⟨⟨by omega,by omega⟩,⟨by omega,by omega,mj,s3,h3,ahJ,DN.trans aj,x9.trans ai,?_,λc o Oh hm=>?_⟩,by dsimp only;omega⟩⟩
 rw[Et,oz,show(i+1).toNat=i.toNat+1 by omega,List.take_add_one,W]
 simp[aT.bV]
 have ah:r.s.ad≠some c:=by rcases hm with hm|⟨eB,ek,hm⟩;exact wc.eR r gx c hm;rw[show(i+1).toNat=i.toNat+1 by omega] at ek;have Er:=wc.apart;rw[<-List.take_append_drop i.toNat ls,DL] at Er;have h2:=(List.pairwise_cons.1 (List.pairwise_append.1 Er).2.1).1 eB ek;exact λe=>h2 c e hm
 have ov:vn.ad=some c∨∃r∈ls.drop i.toNat,r.s.ad=some c:=by grind
 obtain⟨bJ,e0⟩:=gE c o Oh ov
 have gC:gd c=none:=by grind
 exact⟨lj.bd c o bJ gC,lj.none bJ gC⟩
 have hi:i.toNat=ls.length:=by omega
 rw[hi,List.take_length] at oz
 exact bL mD ab T z ⟨Wm,oe,by rw[oz];exact wG,aj,ai⟩
def kv(aQ:Nat)(s:List Int×List Int)(id:Int):List Int×List Int:=
 if id∈s.1 then s else if s.1.length=aQ then(s.1,s.2++ [id]) else(s.1++ [id],s.2)
structure pN(aQ:Nat)(xr P S R:List Int):Prop where
 nodup:S.Nodup
 sub:R.Sublist P
 all:∀x,(x∈S∨x∈R)↔(x∈xr∨x∈P)
 M5:∀x∈R,x∉S
 len:S.length<=aQ
 full:R≠[]->S.length=aQ
theorem pN.step{xr P R:List Int}(h:pN aQ xr P S R)(id:Int):pN aQ xr (P++ [id]) (kv aQ (S,R) id).1 (kv aQ (S,R) id).2:=by
 unfold kv;by_cases h1:id∈S;rw[if_pos h1];refine⟨h.nodup,h.sub.trans (List.sublist_append_left _ _),λx=>?_,h.M5,h.len,h.full⟩;rw[h.all x,List.mem_append,List.mem_singleton];constructor
 grind
 rintro(h2|h2|rfl);exact .inl h2;exact .inr h2;exact(h.all x).1 (.inl h1);rw[if_neg h1];by_cases h2:S.length=aQ;simp only[h2,if_true];refine⟨h.nodup,h.sub.append (List.Sublist.refl _),λx=>?_,λx I=>?_,h.len,λ_=>h2⟩;rw[List.mem_append,List.mem_append,<-or_assoc,h.all x,or_assoc];rcases List.mem_append.1 I with I|I;exact h.M5 x I
 grind
 simp only[h2,if_false];have b8:R=[]:=by by_cases e:R=[];exact e;exact absurd (h.full e) h2
 refine⟨?_,h.sub.trans (List.sublist_append_left _ _),λx=>?_,λx I=>(by rw[b8] at I;cases I),?_,λah=>absurd b8 ah⟩;refine List.nodup_append.2 ⟨h.nodup,by simp,λa ap c E=>?_⟩
 grind
 rw[List.mem_append,List.mem_append,or_right_comm,h.all x,or_assoc];have:=h.len;simp;omega
theorem pN.fold{xr:List Int}:∀(l P S R:List Int),pN aQ xr P S R->pN aQ xr (P++l) (l.foldl (kv aQ) (S,R)).1 (l.foldl (kv aQ) (S,R)).2:=by
 intro l;induction l with
 |nil=>grind|cons x l aG=>intro P S R h;have:=aG (P++ [x]) _ _ (h.step x);rw[List.append_assoc,List.singleton_append] at this;exact this
theorem pN.start{bm:List Int}(gv:bm.Nodup):pN aQ (bm.take aQ) [] (bm.take aQ) []:=
 ⟨gv.sublist (List.take_sublist _ _),List.Sublist.refl _,λx=>(by simp),λx I=>(by cases I),(by grind),λh=>absurd rfl h⟩
def kG(g:List (Int×cw))(q:List Int)(entry:Int):List Int:=if entry=0 then[] else iY g q 0 (qp g q entry 0)
def l5(g:List (Int×cw))(q:List Int)(entry:Int)(aQ:Nat):List Int×List Int:=(dM (g.map (·.1))).foldl (kv aQ) ((kG g q entry).take aQ,[])
theorem Nk{T:ak}(aJ:dj T)(q:List Int):(kG T.g q T.entry).Nodup/\∀x∈kG T.g q T.entry,x∈T.g.map (·.1):=by
 unfold kG;split
 grind
 rename_i he;have pV:T.entry∈T.g.map (·.1):=by rcases aJ.entry with⟨_,h2⟩|h2;exact absurd h2 he;exact h2
 have Dx:=Met.one (b6 T.g q) (ids:=T.g.map (·.1)) (pX T.g q) (SD aJ.k.ok (q:=q) pV 0);exact⟨(VF (b6 T.g q) (jA T.g 0) (pX T.g q) (aJ.k.ok.bO _) _ _ _ Dx).1,VE (b6 T.g q) (jA T.g 0) (pX T.g q) (aJ.k.ok.bO _) _ _ _ Dx⟩
theorem abC{T:ak}(aJ:dj T)(bX:(T.g.map (·.1)).Nodup)(q:List Int)(aQ:Nat):
  ((l5 T.g q T.entry aQ).1++(l5 T.g q T.entry aQ).2).Perm (T.g.map (·.1))/\(l5 T.g q T.entry aQ).1.length<=aQ/\((l5 T.g q T.entry aQ).2≠[]->(l5 T.g q T.entry aQ).1.length=aQ)/\vL (l5 T.g q T.entry aQ).2:=by
 obtain⟨h1,h2⟩:=Nk aJ q
 have h:=pN.fold (dM (T.g.map (·.1))) [] _ _ (pN.start (aQ:=aQ) h1)
 rw[List.nil_append] at h
 have cE:∀x,x∈dM (T.g.map (·.1))↔x∈T.g.map (·.1):=λx=>(pz _).mem_iff
 have NW:=Kf bX
 have xU:vL (l5 T.g q T.entry aQ).2:=NW.sublist h.sub
 have ahO:(l5 T.g q T.entry aQ).2.Nodup:=xU.imp λh=>by omega
 refine⟨(List.perm_ext_iff_of_nodup (List.nodup_append.2 ⟨h.nodup,ahO,λa ap c E e=>h.M5 c E (e▸ap)⟩) bX).2 λx=>?_,h.len,h.full,xU⟩
 rw[List.mem_append]
 refine(h.all x).trans ?_
 grind
def o0(B:H)(bT bO:Nat)(k:Int)(g:List (Int×cw))(q:List Int)(S:List Int)(v:H):Prop:=
 ∃o,dI (B.ins bT o) bT (S.map λx=>(x,Value.bool true))/\gZ (B.ins bT o) bO k v (S.map (b6 g q))
def o0.le(h:o0 B bT bO k g q S v)(iP:B bT=none):B.le v:=by obtain⟨o,_,ht⟩:=h;exact(bN _ iP).trans ht.le
def o0.map(h:o0 B bT bO k g q S v):dI v bT (S.map λx=>(x,Value.bool true)):=by obtain⟨o,hm,ht⟩:=h;exact hm.mono ht.le
def aeA:fi Tryz.prog 397=true:=by kernel_rfl
theorem NB(S:List Int)(x:Int):eF (S.map λx=>(x,Value.bool true)) x=if x∈S then some (.bool true) else none:=by
 induction S with
 |nil=>rfl|cons y S aG=>
  unfold eF at*
  grind
def abD{n0 n9 n13:Nat}{aQ:Int}{x:Int}{K:Bool->H->Prop}(iP:B bT=none)(cv:1<=k)(cI:k<=64)(fJ:0<=aQ)
  (h0:B n0=some (.cells #[.int .i64 aQ] 3 (0,0))) (kH:B n9=some (.cells #[.pointer (some ⟨bO,0,none⟩)] 129 (0,0))) (Dp:B n13=some (.cells #[.map (some bT)] 235 (0,0))) (aH:o0 B bT bO k g q S v)
  (tw:S.length=aQ.toNat->K false v) (hold:S.length≠aQ.toNat->x∈S->K true v) (uZ:S.length≠aQ.toNat->x∉S->∀bH,o0 B bT bO k g q (S++ [x]) bH->K true bH):
  mc Tryz.prog (.func (.func 397) #[] #[.pointer (some ⟨n13,0,none⟩),.pointer (some ⟨n0,0,none⟩),.pointer (some ⟨n9,0,none⟩)]) #[DY (b6 g q x)] [.one .bool] v K:=by
 have xQ:=aH.le iP
 refine .inl ⟨_,_,_,rfl,fg aeA,?_⟩
 refine asv (b6 g q x).1 (cK (b6 g q x).2) (cO (b6 g q x).2) ⟨n13,0,none⟩ ⟨n0,0,none⟩ ⟨n9,0,none⟩ v K ?_
 refine⟨_,aV (xQ _ _ Dp) 0,sH CX aH.map ?_⟩
 have hlen:(S.map λx=>(x,Value.bool true)).length=S.length:=by simp
 rw[hlen]
 refine⟨aQ,aV (xQ _ _ h0) 0,λhe=>tw (by omega),λhe=>⟨_,aV (xQ _ _ Dp) 0,?_⟩⟩
 have ah:S.length≠aQ.toNat:=by omega
 refine Sa CX aH.map (ct:=.bool) (decide (x∈S)) ?_ ⟨λZ=>?_,λZ=>hold ah (by simpa using Z)⟩
 show(eF _ x).getD _=_
 rw[NB]
 by_cases e:x∈S<;>simp[e,al.enc]
 have I:x∉S:=by simpa using Z
 refine⟨_,aV (xQ _ _ Dp) 0,y8 CX aH.map (x:=x) (by rw[NB,if_neg I]) λbn ov=>?_⟩
 obtain⟨o,hm,ht⟩:=aH
 have W:=ht.JX bn
 have H5:B.le (v.ins bT bn):=(bN _ iP).trans W.le
 refine⟨_,aV (H5 _ _ kH) 0,Kv (x:=b6 g q x) W cv cI λcF w hw=>uZ ah I w ⟨bn,?_,?_⟩⟩
 obtain⟨es,C1,h1,h2⟩:=ov
 rw[aS] at h1
 refine⟨es,C1,by rw[aS];exact h1,?_⟩
 rw[List.map_append]
 exact h2
 rw[List.map_append]
 exact hw.perm (List.perm_append_singleton _ _).symm
def _root_.Go.Proofs.YtnaemgklhjkdhaaGreatDoor.aE.HR{v0 gU bH:H}{e k:Nat}{xs:List Value}(h:aE v0 v e k s xs)(M:sU v0 v gU bH):aE gU bH e k s xs:=by have Z:∀g,s.ad=some g->∃o,v g=some o:=λg N=>Option.ne_none_iff_exists'.1 (qj h N);refine⟨h.own.le λb o ee hu=>(M.out b o (h.fresh b ee) hu).2,M.le,λg N=>?_⟩;obtain⟨o,U⟩:=Z g N;exact(M.out g o (h.fresh g N) U).1
def Hf(ly:J)(R:List Int):cc:=⟨1,⟨none,0,0⟩,⟨none,0,0⟩,0,ly,[],[],R⟩
def FE(ly:J)(R:List Int):List cc:=if R=[] then[] else[Hf ly R]
def aeU(s:J):hF Tryz.prog 122 1 #[(0,.agg #[.int .i64 1,.slice none 0 0,.slice none 0 0,.int .u64 0,.int .u64 0,.slice s.a s.n s.c])]=
  some (205,[.int .i64 1,.slice none 0 0,.slice none 0 0,.int .u64 0,.int .u64 0,.slice s.a s.n s.c]):=by kernel_rfl
def U3{z:H}{a c d:J}(h:z n=some (.cells #[.slice a.a a.n a.c,.slice c.a c.n c.c,.slice d.a d.n d.c] 124 (0,0))):
  z.cell? ⟨n,0,none⟩=some (.slice a.a a.n a.c)/\z.cell? ((Addr.mk n 0 none).add 1)=some (.slice c.a c.n c.c)/\z.cell? ((Addr.mk n 0 none).add 2)=some (.slice d.a d.n d.c):=by
 refine⟨aV h 0,?_,?_⟩
 rw[Addr.add_lit,Nat.zero_add];exact aV h 1
 rw[Addr.add_lit,Nat.zero_add];exact aV h 2
theorem _root_.Go.Proofs.YtnaemgklhjkdhaaGreatDoor.aE.skip{z eK:H}{e k:Nat}{xs:List Value}(h:aE Y z e k s xs)(hk:∀c o,z c=some o->c≠n->eK c=some o)(hs:s.ad≠some n)(h0:Y n=none):aE Y eK e k s xs:=
 ⟨h.own.le λc o E U=>hk c o U λe=>hs (by rw[E,e]),λc o E=>hk c o (h.le c o E) λe=>(by grind),h.fresh⟩
def aqz{x y z a c d:Value}{T:TypeId}{f:H->Prop}(ac:u n=some (.cells #[x,y,z] T (0,0)))(h1:∀v∈[a,c,d],v.oneCell'=true)(M:f (u.ins n (.cells #[a,c,d] T (0,0)))):H.an u ⟨n,0,none⟩ [a,c,d] f:=by
 refine⟨_,_,ac,rfl,by simp,h1,?_⟩;have:wr #[x,y,z] 0 [a,c,d]=#[a,c,d]:=by simp[wr]
 simp only[this];exact M
def Kg{sw:Nat}{K:J->H->Prop}(h:dI u bT (S.map λx=>(x,Value.bool true)))(E:u.cell? ⟨sw,0,none⟩=some (.map (some bT)))(aW:S.length<=1000000)(ae:∀s u',aE u u' 3 1 s ((dM S).flatMap encI)->K s u'):
  sR (.func (.func 403) #[] #[.pointer (some ⟨sw,0,none⟩)]) u K:=by
 have bX:((S.map λx=>(x,Value.bool true)).map (·.1)).Nodup:=by obtain⟨_,_,_,he⟩:=h;exact he.nodup
 refine abp (by simpa using aW) bX (λY p8=>alx CX (h.mono p8) (mQ p8 E)) λs u' U=>ae s u' ?_
 have e:(S.map λx=>(x,Value.bool true)).map (·.1)=S:=by rw[List.map_map];exact List.map_id' S
 rw[e] at U
 exact U
theorem abe{ab:Nat->Option aN}{T:ak}{t:J}{aQ:Int}{K:J->J->J->Int->H->Prop}(h:In Y u ab b T)(aJ:dj T)(ht:Ints u t q)
  (dT:iE q T.ao k aQ≠0->∀u',u.le u'->K ⟨none,0,0⟩ ⟨none,0,0⟩ ⟨none,0,0⟩ (iE q T.ao k aQ) u')
  (bL:iE q T.ao k aQ=0->∀ax ss a7 ly u',kb u u' ax ss a7 (dX k.toNat ((l5 T.g q T.entry aQ.toNat).1.map (b6 T.g q))) (dM (l5 T.g q T.entry aQ.toNat).1) (FE ly (l5 T.g q T.entry aQ.toNat).2)->K ax ss a7 0 u'):
  LD (some ⟨b,0,none⟩) t k aQ u K:=by
 have bX:=h.az.nodup
 apply asu
 intro n0 et
 refine⟨λe=>(by cases e),λ_=>?_⟩
 have kS:=bN (u:=u) (b:=n0) (.cells #[.int .i64 aQ] 3 (0,0)) et
 obtain⟨aI,gl⟩:∃aI,u.ins n0 (.cells #[.int .i64 aQ] 3 (0,0))=aI:=⟨_,rfl⟩
 have fJ:aI n0=some (.cells #[.int .i64 aQ] 3 (0,0)):=by rw[<-gl,aS]
 rw[gl] at kS ⊢
 obtain⟨c0,_,_,_,_⟩:=lz (h.az.mono kS)
 refine⟨_,rfl,_,c0,_,aV fJ 0,Sr (ht.mono kS) ⟨λah=>dT ah _ kS,λhe=>?_⟩⟩
 have bL:=bL he
 obtain⟨av,cv,cI,UJ,avl⟩:fV q T.ao=0/\1<=k/\k<=64/\0<=aQ/\aQ<=1000000:=by unfold iE at he;omega
 obtain⟨_,_,ff,jn⟩:=rz av
 refine Kw (λZ=>by omega) λ_ _ bO u8 oC uY nb=>?_
 intro n9 p0
 refine oN (zs:=[.pointer none]) rfl (by simp[Value.oneCell']) ?_
 have jz:=nb.lx p0 (.cells [.pointer (some ⟨bO,0,none⟩)].toArray 129 (0,0))
 obtain⟨hP,p9⟩:∃hP,u8.ins n9 (.cells [.pointer (some ⟨bO,0,none⟩)].toArray 129 (0,0))=hP:=⟨_,rfl⟩
 rw[p9] at jz ⊢
 refine J9 λbT Fo iP kp=>?_
 have iM:=jz.lx iP Fo
 intro n13 yh
 refine oN (zs:=[.map none]) rfl (by simp[Value.oneCell']) ?_
 have lj:=iM.lx yh (.cells [.map (some bT)].toArray 235 (0,0))
 have akD:aI n9=none:=oC.none p0
 have avS:hP n9=some (.cells [.pointer (some ⟨bO,0,none⟩)].toArray 129 (0,0)):=by rw[<-p9,aS]
 have Ar:bT≠n9:=λe=>by grind
 have akB:aI bT=none:=oC.none (by rw[<-p9,aL _ _ Ar] at iP;exact iP)
 have Wt:bT≠n13:=λe=>by rw[<-e,aS] at yh;cases yh
 have ND:hP n13=none:=by rw[aL _ _ (Ne.symm Wt)] at yh;exact yh
 have NK:n9≠n13:=λe=>by grind
 have akC:aI n13=none:=oC.none (by rw[<-p9,aL _ _ (Ne.symm NK)] at ND;exact ND)
 obtain⟨B,b4⟩:∃B,(aI.ins n9 (.cells [.pointer (some ⟨bO,0,none⟩)].toArray 129 (0,0))).ins n13 (.cells [.map (some bT)].toArray 235 (0,0))=B:=⟨_,rfl⟩
 have Ap:B bT=none:=by rw[<-b4,aL _ _ Wt,aL _ _ Ar];exact akB
 have WL:((aI.ins n9 (.cells [.pointer (some ⟨bO,0,none⟩)].toArray 129 (0,0))).ins bT Fo).ins n13 (.cells [.map (some bT)].toArray 235 (0,0))=B.ins bT Fo:=by
  rw[<-b4];funext c;unfold H.ins;by_cases aO:c=n13
  grind
  simp[aO]
 rw[WL] at lj
 obtain⟨l7,Yf⟩:∃l7,(hP.ins bT Fo).ins n13 (.cells [.map (some bT)].toArray 235 (0,0))=l7:=⟨_,rfl⟩
 rw[Yf] at lj ⊢
 have Wf:aI.le B:=by rw[<-b4];exact(bN _ akD).trans (bN _ (by rw[aL _ _ (Ne.symm NK)];exact akC))
 have Ao:B n0=some (.cells #[.int .i64 aQ] 3 (0,0)):=Wf _ _ fJ
 have NM:B n9=some (.cells #[.pointer (some ⟨bO,0,none⟩)] 129 (0,0)):=by rw[<-b4,aL _ _ NK,aS]
 have H4:B n13=some (.cells #[.map (some bT)] 235 (0,0)):=by rw[<-b4,aS]
 have O0:o0 B bT bO k T.g q [] l7:=⟨Fo,by obtain⟨es,C1,h1,h2⟩:=kp;rw[aS] at h1;exact⟨es,C1,by rw[aS];exact h1,h2⟩,lj⟩
 have Qh:u.le B:=kS.trans Wf
 have Du:=h.mono Qh
 have PM:oZ B T.ao t q:=⟨ht.mono Qh,jn,ff⟩
 clear jz iM lj kp WL iP yh ND p0 nb oC p9 Yf b4
 intro CE NS
 have behind:∀v,o0 B bT bO k T.g q ((kG T.g q T.entry).take aQ.toNat) v->CE v:=by
  intro v aH;refine NS v ?_;have xQ:=aH.le Ap;obtain⟨_,_,_,c3,_⟩:=lz (Du.mono xQ).az;have fc:=aJ.k.ok.small;refine⟨_,rfl,_,c3,aaZ (Du.mono xQ).az.map (by rw[RH];omega) λaak ug Ek=>?_⟩;rw[RG] at Ek;obtain⟨L,cE⟩:∃L,dM (T.g.map (·.1))=L:=⟨_,rfl⟩;rw[cE] at Ek;have ahF:∀x∈L,x∈T.g.map (·.1):=λx I=>by rw[<-cE] at I;exact(pz _).mem_iff.1 I
  have wa:L.length<=513:=by rw[<-cE,B3];simp;omega
  have NV:=Ek.ints.len;refine⟨λhl i w=>0<=i/\i<=L.length/\∃v0,o0 B bT bO k T.g q ((L.take i.toNat).foldl (kv aQ.toNat) ((kG T.g q T.entry).take aQ.toNat,[])).1 v0/\aE v0 w 3 1 aak (L.flatMap encI)/\
    aE v0 w 3 1 hl ((((L.take i.toNat).foldl (kv aQ.toNat) ((kG T.g q T.entry).take aQ.toNat,[])).2).flatMap encI)/\eP aak hl,λ_ i _=>L.length-i.toNat,
   ⟨by omega,by omega,v,by simpa using aH,Ek,by simpa using aE.nil Ek.le 3 1,λg _ N=>by simp[J.ad] at N⟩,?_⟩
  rintro hl i w ⟨i0,i1,v0,tA,Am,qO,tv⟩;have Aq:=tA.le Ap;have po:v0.le w:=Am.le;have ahs:=Du.mono (Aq.trans po);have ahK:pN aQ.toNat ((kG T.g q T.entry).take aQ.toNat) (L.take i.toNat) ((L.take i.toNat).foldl (kv aQ.toNat) ((kG T.g q T.entry).take aQ.toNat,[])).1 ((L.take i.toNat).foldl (kv aQ.toNat) ((kG T.g q T.entry).take aQ.toNat,[])).2:=by have:=pN.fold (L.take i.toNat) [] _ _ (pN.start (aQ:=aQ.toNat) (Nk aJ q).1);rw[List.nil_append] at this;exact this
  have Ib:((L.take i.toNat).foldl (kv aQ.toNat) ((kG T.g q T.entry).take aQ.toNat,[])).2.length<=513:=by have:=ahK.sub.length_le;simp at this;omega
  have avQ:=qO.ints.len;refine⟨λdC=>?_,λOX=>?_⟩;obtain⟨p,aa,E⟩:=Am.ints.at i0 dC;have I:L[i.toNat]?=some (L.getD i.toNat 0):=getD_some (by omega);have q4:=ahF _ (List.mem_of_getElem? I);have M:=SL (kv aQ.toNat) L I ((kG T.g q T.entry).take aQ.toNat,[]);rw[show i.toNat+1=(i+1).toNat by omega] at M;obtain⟨S,aW⟩:∃S,((L.take i.toNat).foldl (kv aQ.toNat) ((kG T.g q T.entry).take aQ.toNat,[])).1=S:=⟨_,rfl⟩;obtain⟨R,b8⟩:∃R,((L.take i.toNat).foldl (kv aQ.toNat) ((kG T.g q T.entry).take aQ.toNat,[])).2=R:=⟨_,rfl⟩;have ahT:(L.take i.toNat).foldl (kv aQ.toNat) ((kG T.g q T.entry).take aQ.toNat,[])=(S,R):=by rw[<-aW,<-b8]
  rw[ahT] at tA qO M Ib;refine⟨p,aa,⟨i0,dC⟩,_,E,_,aV (po _ _ (Aq _ _ H4)) 0,?_⟩;refine Sa CX (tA.map.mono po) (ct:=.bool) (decide (L.getD i.toNat 0∈S)) ?_ ⟨λZ=>?_,λZ=>?_⟩;show(eF _ _).getD _=_;rw[NB];by_cases e:L.getD i.toNat 0∈S<;>simp only[e,if_true,if_false,decide_true,decide_false]<;>rfl;have Qv:L.getD i.toNat 0∉S:=by simpa using Z
  refine FZ ahs.az aJ.k.ok q4 (PM.mono (Aq.trans po)) ?_;refine(abD (n0:=n0) (n9:=n9) (n13:=n13) (x:=L.getD i.toNat 0) (K:=λcF bH=>(cF=false->S.length=aQ.toNat/\o0 B bT bO k T.g q S bH)/\(cF=true->S.length≠aQ.toNat/\o0 B bT bO k T.g q (S++ [L.getD i.toNat 0]) bH))
   Ap cv cI UJ Ao NM H4 tA (λtw=>⟨λ_=>⟨tw,tA⟩,λe=>(by cases e)⟩) (λ_ cr=>absurd cr Qv) λah _ bH eg=>⟨λe=>(by cases e),λ_=>⟨ah,eg⟩⟩).frame po ?_
  rintro cF gU aw dK ⟨xY,Oe⟩;have NF:=Am.HR dK;have HZ:=qO.HR dK;refine⟨λjd=>?_,λjd=>?_⟩;obtain⟨tw,ik⟩:=xY (Bool.eq_false_iff.2 jd);have gw:(L.take (i+1).toNat).foldl (kv aQ.toNat) ((kG T.g q T.entry).take aQ.toNat,[])=(S,R++ [L.getD i.toNat 0]):=by rw[M];unfold kv;simp only;grind
  have avR:=HZ.ints.len;refine rn pE (xy _) (by decide) rfl (by simp[Value.oneCell']) HZ (by omega) (by omega) λRW KR ajL _ aiz aic _=>⟨⟨by omega,by omega⟩,⟨by omega,by omega,gU,by rw[gw];exact ik,?_,?_,λg N cH=>?_⟩,by dsimp only;omega⟩;exact aE.else NF aiz (λg N=>HZ.fresh g N) λg N e=>tv g e N;rw[gw];simp only[List.flatMap_append];exact ajL;rcases aic g cH with bJ|bJ;exact tv g N bJ;exact qj NF N bJ;obtain⟨ah,ik⟩:=Oe jd;have gw:(L.take (i+1).toNat).foldl (kv aQ.toNat) ((kG T.g q T.entry).take aQ.toNat,[])=(S++ [L.getD i.toNat 0],R):=by rw[M];unfold kv;simp only;grind
  exact⟨⟨by omega,by omega⟩,⟨by omega,by omega,gU,by rw[gw];exact ik,NF,by rw[gw];exact HZ,tv⟩,by dsimp only;omega⟩;have Qv:L.getD i.toNat 0∈S:=by simpa using Z
  have gw:(L.take (i+1).toNat).foldl (kv aQ.toNat) ((kG T.g q T.entry).take aQ.toNat,[])=(S,R):=by rw[M];unfold kv;simp only;rw[if_pos Qv]
  exact⟨⟨by omega,by omega⟩,⟨by omega,by omega,v0,by rw[gw];exact tA,Am,by rw[gw];exact qO,tv⟩,by dsimp only;omega⟩
  ·
   have x5:i.toNat=L.length:=by omega
   rw[x5,List.take_length] at tA qO Ib;have ahS:L.foldl (kv aQ.toNat) ((kG T.g q T.entry).take aQ.toNat,[])=l5 T.g q T.entry aQ.toNat:=by rw[<-cE];rfl
   rw[ahS] at tA qO Ib;obtain⟨S,aW⟩:∃S,(l5 T.g q T.entry aQ.toNat).1=S:=⟨_,rfl⟩;obtain⟨R,b8⟩:∃R,(l5 T.g q T.entry aQ.toNat).2=R:=⟨_,rfl⟩;rw[aW] at tA;rw[b8] at qO Ib;rw[aW,b8] at bL;have Av:S.length<=1000000:=by rw[<-aW];have:=(abC aJ bX q aQ.toNat).2.1;omega
   have I7:u.le v0:=Qh.trans Aq;intro adW ahB;have avP:=qO.ints.len;have last:∀(mC:Nat) (ax ss:J) (y:H) (cJ c8 eC:Value),w.le y->aE w y 83 3 ax ((dX k.toNat (S.map (b6 T.g q))).flatMap ey)->aE w y 3 1 ss ((dM S).flatMap encI)->eP ax ss->w mC=none->ax.ad≠some mC->ss.ad≠some mC->
     y mC=some (.cells #[cJ,c8,eC] 124 (0,0))->H.an y ⟨mC,0,none⟩ [.slice ax.a ax.n ax.c,.slice ss.a ss.n ss.c,.slice none 0 0] λz=>adW ⟨mC,0,none⟩ z:=by
    intro mC ax ss y cJ c8 eC akY bW hs M yi X4 X8 af
    refine aqz af (by simp[Value.oneCell']) ?_
    have Jf:∀c o,y c=some o->c≠mC->(y.ins mC (.cells #[.slice ax.a ax.n ax.c,.slice ss.a ss.n ss.c,.slice none 0 0] 124 (0,0))) c=some o:=λc o h1 h2=>by rw[aL _ _ h2];exact h1
    obtain⟨z,aP⟩:∃z,y.ins mC (.cells #[.slice ax.a ax.n ax.c,.slice ss.a ss.n ss.c,.slice none 0 0] 124 (0,0))=z:=⟨_,rfl⟩
    have YB:z mC=some (.cells #[.slice ax.a ax.n ax.c,.slice ss.a ss.n ss.c,.slice none 0 0] 124 (0,0)):=by rw[<-aP,aS]
    rw[aP] at Jf ⊢
    have A2:u mC=none:=(I7.trans po).none yi
    have V5:hl.ad≠some mC:=λe=>qj qO e yi
    have x4:=((bW.weaken (I7.trans po)).skip Jf X4 A2)
    have cA:=((hs.weaken (I7.trans po)).skip Jf X8 A2)
    have V6:=(((qO.mono akY).weaken I7).skip Jf V5 A2)
    have kK:eP ax hl:=λg N cH=>qj qO cH (bW.fresh g N)
    have gw:eP ss hl:=λg N cH=>qj qO cH (hs.fresh g N)
    have yl:∀(x:J),eP x ⟨none,0,0⟩:=λx g _ N=>by simp[J.ad] at N
    have Wl:∀(x:J),eP ⟨none,0,0⟩ x:=λx g N=>by simp[J.ad] at N
    refine ahB _ _ ⟨λmu=>?_,λp3=>?_⟩
    refine nU (aeU hl) λiJ mX=>?_
    have x1:=bN (u:=z) (b:=iJ) (.cells [Value.int .i64 1,.slice none 0 0,.slice none 0 0,.int .u64 0,.int .u64 0,.slice hl.a hl.n hl.c].toArray 205 (0,0)) mX
    have aiO:iJ≠mC:=λe=>by grind
    have W6:(z.ins iJ (.cells [Value.int .i64 1,.slice none 0 0,.slice none 0 0,.int .u64 0,.int .u64 0,.slice hl.a hl.n hl.c].toArray 205 (0,0))) iJ=some (.cells [Value.int .i64 1,.slice none 0 0,.slice none 0 0,.int .u64 0,.int .u64 0,.slice hl.a hl.n hl.c].toArray 205 (0,0)):=aS _ _ _
    obtain⟨z2,qc⟩:∃z2,z.ins iJ (.cells [Value.int .i64 1,.slice none 0 0,.slice none 0 0,.int .u64 0,.int .u64 0,.slice hl.a hl.n hl.c].toArray 205 (0,0))=z2:=⟨_,rfl⟩
    rw[qc] at x1 W6 ⊢
    rw[Addr.add_lit,Nat.zero_add]
    refine⟨_,_,x1 _ _ YB,rfl,by simp,by simp[Value.oneCell'],?_⟩
    have alc:wr #[.slice ax.a ax.n ax.c,.slice ss.a ss.n ss.c,.slice none 0 0] 2 [.slice (some ⟨iJ,0,none⟩) 1 1]=#[.slice ax.a ax.n ax.c,.slice ss.a ss.n ss.c,.slice (⟨some ⟨iJ,0,none⟩,1,1⟩:J).a (⟨some ⟨iJ,0,none⟩,1,1⟩:J).n (⟨some ⟨iJ,0,none⟩,1,1⟩:J).c]:=by simp[wr]
    simp only[alc]
    have A7:∀c o,z2 c=some o->c≠mC->(z2.ins mC (.cells #[.slice ax.a ax.n ax.c,.slice ss.a ss.n ss.c,.slice (⟨some ⟨iJ,0,none⟩,1,1⟩:J).a (⟨some ⟨iJ,0,none⟩,1,1⟩:J).n (⟨some ⟨iJ,0,none⟩,1,1⟩:J).c] 124 (0,0))) c=some o:=λc o h1 h2=>by rw[aL _ _ h2];exact h1
    obtain⟨a0,O,a2⟩:=U3 (aS z2 mC (.cells #[.slice ax.a ax.n ax.c,.slice ss.a ss.n ss.c,.slice (⟨some ⟨iJ,0,none⟩,1,1⟩:J).a (⟨some ⟨iJ,0,none⟩,1,1⟩:J).n (⟨some ⟨iJ,0,none⟩,1,1⟩:J).c] 124 (0,0)))
    have ahP:R≠[]:=λe=>by grind
    have akK:u iJ=none:=by have:u.le z:=x4.le;exact this.none mX
    have OP:∀{e k:Nat} {x:J} {xs:List Value},aE u z e k x xs->eP x ⟨some ⟨iJ,0,none⟩,1,1⟩:=λI g N cH=>by
     have:iJ=g:=by simpa[J.ad] using cH
     exact qj I N (by rw[<-this];exact mX)
    have lU:FE hl R=[Hf hl R]:=if_neg ahP
    refine⟨ax,a0,ss,O,⟨some ⟨iJ,0,none⟩,1,1⟩,a2,bL ax ss _ hl _ ⟨(x4.mono x1).skip A7 X4 A2,(cA.mono x1).skip A7 X8 A2,?_,λr W=>?_,?_⟩⟩
    rw[lU]
    have aO:([Hf hl R]:List cc).flatMap tf=[Value.int .i64 1,.slice none 0 0,.slice none 0 0,.int .u64 0,.int .u64 0,.slice hl.a hl.n hl.c]:=by simp[tf,Hf,Xe,Zh]
    rw[aO]
    refine⟨⟨rfl,.inr ⟨iJ,_,rfl,A7 _ _ W6 aiO,Nat.le_refl _,by grind,by simp,by simp⟩⟩,λc o E=>A7 c o (x1 c o (x4.le c o E)) λe=>(by grind),λg N=>?_⟩
    have:iJ=g:=by simpa[J.ad] using N
    rw[<-this];exact akK
    rw[lU] at W
    simp at W
    subst W
    have YC:u.le (z2.ins mC (.cells #[.slice ax.a ax.n ax.c,.slice ss.a ss.n ss.c,.slice (⟨some ⟨iJ,0,none⟩,1,1⟩:J).a (⟨some ⟨iJ,0,none⟩,1,1⟩:J).n (⟨some ⟨iJ,0,none⟩,1,1⟩:J).c] 124 (0,0))):=λc o E=>A7 c o (x1 c o (x4.le c o E)) λe=>(by grind)
    exact⟨aE.nil YC _ _,aE.nil YC _ _,(V6.mono x1).skip A7 V5 A2⟩
    rw[lU]
    show([ax,ss,⟨some ⟨iJ,0,none⟩,1,1⟩,⟨none,0,0⟩,⟨none,0,0⟩,hl]:List J).Pairwise eP
    simp only[List.pairwise_cons,List.mem_cons,List.not_mem_nil,or_false,forall_eq_or_imp,forall_eq,List.Pairwise.nil,and_true,false_implies,implies_true]
    exact⟨⟨M,OP x4,yl _,yl _,kK⟩,⟨OP cA,yl _,yl _,gw⟩,⟨yl _,yl _,(OP V6).symm⟩,⟨yl _,Wl _⟩,Wl _⟩
    have ahN:R=[]:=by grind
    obtain⟨a0,O,a2⟩:=U3 (d:=⟨none,0,0⟩) YB
    have lU:FE hl R=[]:=if_pos ahN
    refine⟨ax,a0,ss,O,⟨none,0,0⟩,a2,bL ax ss _ hl _ ⟨x4,cA,by rw[lU];exact aE.nil x4.le _ _,λr W=>(by rw[lU] at W;cases W),?_⟩⟩
    rw[lU]
    show([ax,ss,⟨none,0,0⟩]:List J).Pairwise eP
    simp only[List.pairwise_cons,List.mem_cons,List.not_mem_nil,or_false,forall_eq_or_imp,forall_eq,List.Pairwise.nil,and_true,false_implies,implies_true]
    grind
   obtain⟨iW,ajw,Yc⟩:=tA;have EF:=Yc.mono po;have tE:dI w bT (S.map λx=>(x,Value.bool true)):=(ajw.mono Yc.le).mono po;have c9:=aV (po _ _ (Aq _ _ NM)) 0;have Ho:=aV (po _ _ (Aq _ _ H4)) 0;have HL:∀{x y:J} {fz z2 z3:H} {aO cv ar cI:Nat} {xs cM:List Value},aE w fz aO cv x xs->fz.le z2->aE z2 z3 ar cI y cM->eP x y:=λI hle af g N cH=>by obtain⟨o,U⟩:=Option.ne_none_iff_exists'.1 (qj I N);have:=af.fresh g cH;rw[hle _ _ U] at this;cases this
   have JL:∀{x:J} {fz z2:H} {e k n:Nat} {xs:List Value},aE w fz e k x xs->fz.le z2->z2 n=none->x.ad≠some n:=λI hle ac N=>by obtain⟨o,U⟩:=Option.ne_none_iff_exists'.1 (qj I N);rw[hle _ _ U] at ac;cases ac
   refine⟨_,c9,_,Ho,⟨F2 EF λua Cd pn=>⟨pn.le,?_,?_⟩,λn75 XD=>?_⟩⟩;refine S1 (some bT) Cd _ λsw Ei=>?_;have lZ:=bN (u:=Cd) (b:=sw) (.cells #[.map (some bT)] 235 (0,0)) Ei;have WK:(Cd.ins sw (.cells #[.map (some bT)] 235 (0,0))).cell? ⟨sw,0,none⟩=some (.map (some bT)):=aV (aS _ _ _) 0;have sh:=pn.le.trans lZ;refine⟨Kg (tE.mono sh) WK Av λFL KT wC n63 Eg=>⟨(sh.trans wC.le).trans (bN _ Eg),?_⟩,λn65 IF=>⟨sh.trans (bN _ IF),?_⟩⟩;have QW:=bN (u:=KT) (b:=n63) (.cells #[.slice none 0 0,.slice none 0 0,.slice none 0 0] 124 (0,0)) Eg;exact last n63 ua FL _ _ _ _ ((sh.trans wC.le).trans QW) (pn.mono ((lZ.trans wC.le).trans QW)) ((wC.weaken sh).mono QW) (HL pn lZ wC) ((sh.trans wC.le).none Eg) (JL pn (lZ.trans wC.le) Eg) (JL (wC.weaken sh) (H.le.refl _) Eg) (aS _ _ _);have Bl:=bN (u:=Cd.ins sw (.cells #[.map (some bT)] 235 (0,0))) (b:=n65) (.cells #[.slice none 0 0,.slice none 0 0,.slice none 0 0] 124 (0,0)) IF;exact Kg (tE.mono (sh.trans Bl)) (mQ Bl WK) Av λaog axE AQ=>last n65 ua aog _ _ _ _ ((sh.trans Bl).trans AQ.le) (pn.mono ((lZ.trans Bl).trans AQ.le)) (AQ.weaken (sh.trans Bl)) (HL pn (lZ.trans Bl) AQ) (sh.none IF) (JL pn lZ IF)
    (λe=>by have:=AQ.fresh n65 e;rw[aS] at this;cases this) (AQ.le _ _ (aS _ _ _))
   intro n69 Pn;have Jo:=bN (u:=Cd) (b:=n69) (.cells #[.slice none 0 0,.slice none 0 0,.slice none 0 0] 124 (0,0)) Pn;refine⟨pn.le.trans Jo,S1 (some bT) _ _ λsw Ei=>?_⟩;have lZ:=bN (b:=sw) (.cells #[.map (some bT)] 235 (0,0)) Ei;have Qs:=(pn.le.trans Jo).trans lZ;exact Kg (tE.mono Qs) (aV (aS _ _ _) 0) Av λBU axF AR=>last n69 ua BU _ _ _ _ (Qs.trans AR.le) (pn.mono ((Jo.trans lZ).trans AR.le)) (AR.weaken Qs) (HL pn (Jo.trans lZ) AR) (pn.le.none Pn) (JL pn (H.le.refl _) Pn)
    (λe=>by have:=lZ _ _ (aS Cd n69 (.cells #[.slice none 0 0,.slice none 0 0,.slice none 0 0] 124 (0,0)));rw[AR.fresh n69 e] at this;cases this) (AR.le _ _ (lZ _ _ (aS _ _ _)))
   have Bm:=bN (u:=w) (b:=n75) (.cells #[.slice none 0 0,.slice none 0 0,.slice none 0 0] 124 (0,0)) XD;refine⟨Bm,F2 (EF.mono Bm) λaoh axH yo=>⟨Bm.trans yo.le,S1 (some bT) _ _ λsw Ei=>?_⟩⟩;have lZ:=bN (b:=sw) (.cells #[.map (some bT)] 235 (0,0)) Ei;have Qt:=(Bm.trans yo.le).trans lZ;exact Kg (tE.mono Qt) (aV (aS _ _ _) 0) Av λaoi axI AS=>last n75 aoh aoi _ _ _ _ (Qt.trans AS.le) ((yo.weaken Bm).mono (lZ.trans AS.le)) (AS.weaken Qt) (HL (yo.weaken Bm) lZ AS) XD
    (λe=>by have:=yo.fresh n75 e;rw[aS] at this;cases this)
    (λe=>by have:=(yo.le.trans lZ) _ _ (aS w n75 (.cells #[.slice none 0 0,.slice none 0 0,.slice none 0 0] 124 (0,0)));rw[AS.fresh n75 e] at this;cases this)
    (AS.le _ _ (lZ _ _ (yo.le _ _ (aS _ _ _))))
 have NL:=O0.le Ap
 have Wo:=Du.mono NL
 obtain⟨_,_,_,_,eD⟩:=lz Wo.az
 refine⟨_,rfl,_,eD,λah=>?_,λmn=>behind l7 ?_⟩
 have pV:T.entry∈T.g.map (·.1):=by rcases aJ.entry with⟨_,h2⟩|h2;exact absurd h2 ah;exact h2
 have gv:kG T.g q T.entry=iY T.g q 0 (qp T.g q T.entry 0):=if_neg ah
 have xW:=(Nk aJ q).1
 refine abi Wo.az aJ.k.ok pV (PM.mono NL) (by omega) ?_
 rw[gv] at xW behind
 refine abf NL Du.az aJ.k.ok (SD aJ.k.ok pV 0) PM (by omega) (by omega)
  (λi z=>i<=aQ.toNat/\o0 B bT bO k T.g q ((iY T.g q 0 (qp T.g q T.entry 0)).take i) z) (λz=>o0 B bT bO k T.g q ((iY T.g q 0 (qp T.g q T.entry 0)).take aQ.toNat) z) (λi z aP=>aP.2.le Ap)
  (λi x z e5 I aH alH alA=>?_) ⟨by omega,by simpa using O0⟩ (λz aP=>?_) λz aP=>behind z aP
 have dV:(iY T.g q 0 (qp T.g q T.entry 0))[i]?=some x:=I
 have dC:=(List.getElem?_eq_some_iff.1 dV).1
 have hlen:((iY T.g q 0 (qp T.g q T.entry 0)).take i).length=i:=by grind
 refine abD Ap cv cI UJ Ao NM H4 aH.2 (λM=>alA z ?_) (λ_ cr=>?_) λjx _ eK Qz=>alH eK ⟨by have:=aH.1;omega,?_⟩
 rw[hlen] at M
 rw[<-M];exact aH.2
 exfalso
 obtain⟨j,pf,e⟩:=List.mem_iff_getElem.1 cr
 rw[hlen] at pf
 have:=List.pairwise_iff_getElem.1 xW j i (by omega) dC pf
 grind
 rw[List.take_add_one,dV]
 exact Qz
 refine behind z ?_
 obtain⟨h1,h2⟩:=aP
 have o9:(iY T.g q 0 (qp T.g q T.entry 0)).length<=aQ.toNat:=h1
 have tp:o0 B bT bO k T.g q ((iY T.g q 0 (qp T.g q T.entry 0)).take (iY T.g q 0 (qp T.g q T.entry 0)).length) z:=h2
 rw[List.take_of_length_le (Nat.le_refl _)] at tp
 rw[List.take_of_length_le o9]
 exact tp
 have gv:kG T.g q T.entry=[]:=if_pos mn
 rw[gv]
 simpa using O0
end
end dE
section
variable{u Y:H}{b:Nat}{D:Nat->Prop}
def dE.bd:rG dE.cP:=⟨λh M hu=>h.bd M hu⟩
def dE.toG{ab:Nat->Option dE.aN}{T:dE.ak}(h:dE.In Y u ab b T):jT dE.cP Y u ab b T:=⟨h.az,h.le,h.out,h.known⟩
def dE.BF{ab:Nat->Option dE.aN}{T:dE.ak}(h:jT dE.cP Y u ab b T):dE.In Y u ab b T:=⟨h.az,h.le,h.out,h.known⟩
inductive dO where
 |mA (X:k2.ak)|ac (X:dE.ak)
def dO.dA(Y u:H)(D:Nat->Prop)(b:Nat):dO->Prop
 | .mA X=>hT k2.cP k2.dj Y u D b X| .ac X=>hT dE.cP dE.dj Y u D b X
def dO.rows:dO->List (Int×List Int)
 | .mA X=>k2.b7 X| .ac X=>dE.eN X.g
def dO.ao:dO->Int
 | .mA X=>X.ao| .ac X=>X.ao
def dO.ez:dO->Nat
 | .mA X=>X.ez|_=>0
def dO.eO:dO->TypeId
 | .mA _=>154| .ac _=>163
def dO.iface(X:dO)(b:Nat):Value:=.iface X.eO (.pointer (some ⟨b,0,none⟩))
def dO.base{X:dO}(h:X.dA Y u D b):Y.le u/\(∀c,D c->Y c=none)/\∀c,D c->u c≠none:=by cases X<;>exact hT.base h
def dO.same{u':H}{X:dO}(h:X.dA Y u D b)(hu:∀c o,u c=some o->D c->u' c=some o)(hle:Y.le u'):X.dA Y u' D b:=by cases X;exact hT.same k2.bd h hu hle;exact hT.same dE.bd h hu hle
def dO.mono{u':H}{X:dO}(h:X.dA Y u D b)(hu:u.le u'):X.dA Y u' D b:=dO.same h (λc o E _=>hu c o E) ((dO.base h).1.trans hu)
def dO.lx{v:H}{X:dO}(h:X.dA Y u D b)(av:v.le Y):X.dA v u D b:=by cases X<;>exact hT.lx h av
def amh{t e:TypeId}{name:String}{f:FuncId}(hm:kT Tryz.prog t name f true=true)(hu:Tryz.prog.underlying t=some (.pointer e))(p:Option Addr)(w:World):(method (Tryz.prog.types.size+Made.depth) t (.pointer p) name).run Tryz.prog w=.ok (f,.pointer p) w:=by obtain⟨i,m,h1,h2,h3,aZ⟩:=vg hm;obtain⟨c7,cR⟩:=uJ;rw[cR];exact BR h1 h2 h3 aZ hu
def SY:Tryz.prog.underlying 154=some (.pointer 238):=by kernel_rfl
def SX:Tryz.prog.underlying 163=some (.pointer 253):=by kernel_rfl
def zY{t e:TypeId}{name:String}{f:FuncId}{args:Array Value}{ss:List aF}{K:fo (eW ss) (H->Prop)}(hm:kT Tryz.prog t name f true=true)(hu:Tryz.prog.underlying t=some (.pointer e))(Z:fi Tryz.prog f=true)
  (h:fW Tryz.prog f (#[.pointer (some ⟨b,0,none⟩)]++args) ss u K):lB Tryz.prog (.iface t (.pointer (some ⟨b,0,none⟩))) name args ss u K:=
 ⟨_,_,f,_,rfl,λw _=>amh hm hu _ w,fg Z,h⟩
def RQ(a b c:J)(rest:List aT):List cc:=if rest=[] then[] else[⟨2,a,b,0,c,lL rest,lK rest,dM (rest.map (·.id))⟩]
def To.own{ax ss a7:J}{dF:List bk}{seen:List Int}{rest:List aT}(h:To Y u ax ss a7 dF seen rest):∃a b c:J,kb Y u ax ss a7 dF seen (RQ a b c rest):=by
 rcases h.r with⟨he,rfl⟩|⟨ah,_,a,b,c,h1,h2,h3,aZ,cb,di,nP,f1,f2⟩;refine⟨⟨none,0,0⟩,⟨none,0,0⟩,⟨none,0,0⟩,?_⟩;rw[RQ,if_pos he];refine⟨h.h,h.s,aE.nil h.h.le _ _,λr W=>(by cases W),?_⟩;simp only[n5,List.flatMap_nil];refine List.pairwise_cons.2 ⟨λt ht=>?_,List.pairwise_cons.2 ⟨λt ht=>?_,List.pairwise_singleton _ _⟩⟩;rcases List.mem_cons.1 ht with rfl|ht;exact h.hs;obtain rfl:t=_:=by simpa using ht
 intro g _ N;simp[J.ad] at N;obtain rfl:t=_:=by simpa using ht
 intro g _ N;simp[J.ad] at N;refine⟨a,b,c,?_⟩;rw[RQ,if_neg ah];have e:([⟨2,a,b,0,c,lL rest,lK rest,dM (rest.map (·.id))⟩]:List cc).flatMap tf=[.int .i64 2,.slice a.a a.n a.c,.slice b.a b.n b.c,.int .u64 0,.int .u64 0,.slice c.a c.n c.c]:=by simp[tf,Xe,Zh]
 refine⟨h.h,h.s,by rw[e];exact h1,λr W=>?_,?_⟩;obtain rfl:r=_:=by simpa using W
 exact⟨h2,h3,aZ⟩;have No:∀x∈[a,b,c],eP ax x/\eP ss x/\eP a7 x:=λx I=>⟨λg o9 tp=>(f1 x I g tp).1 o9,λg o9 tp=>(f1 x I g tp).2.1 o9,λg o9 tp=>(f1 x I g tp).2.2 o9⟩;have ne:∀{x y:J},x.ad≠y.ad->eP x y:=λac g I af=>ac (by rw[I,af]);simp only[n5,List.flatMap_cons,List.flatMap_nil,List.append_nil,cc.ho];refine List.pairwise_cons.2 ⟨λt ht=>?_,List.pairwise_cons.2 ⟨λt ht=>?_,List.pairwise_cons.2 ⟨λt ht=>(No t ht).2.2,List.pairwise_cons.2 ⟨λt ht=>?_,List.pairwise_cons.2 ⟨λt ht=>?_,List.pairwise_singleton _ _⟩⟩⟩⟩⟩;rcases List.mem_cons.1 ht with rfl|ht;exact h.hs;rcases List.mem_cons.1 ht with rfl|ht;exact λg N hJ=>(f2 g hJ).1 N;exact(No t ht).1;rcases List.mem_cons.1 ht with rfl|ht;exact λg N hJ=>(f2 g hJ).2 N;exact(No t ht).2.1;rcases List.mem_cons.1 ht with rfl|ht;exact ne cb;obtain rfl:t=c:=by simpa using ht
 exact ne di;obtain rfl:t=c:=by simpa using ht
 exact ne nP
def sP.nil(u:H):sP u ⟨none,0,0⟩ ⟨none,0,0⟩ ⟨none,0,0⟩ [] [] []:=
 ⟨(aE.nil (H.le.refl u) 0 3).own.bR,Ints.nil u,(aE.nil (H.le.refl u) 0 6).own.bR,λr W=>by cases W⟩
theorem aqq{P:List (Int×List Int)}{L:List aT}{q S R:List Int}{k aQ:Int}{gh:Int->bk}{rest:List cc}(bX:(P.map (·.1)).Nodup)(cE:(L.map aT.bV).Perm P)(ay:jH L q)(fJ:0<=aQ)(aa:(S++R).Perm (P.map (·.1)))(ai:S.length<=aQ.toNat)
  (M:R≠[]->S.length=aQ.toNat) (mv:vL R) (ai4:∀r∈L,gh r.id=hh q r) (W:rest.map cc.core=if R=[] then[] else[(1,0,[],[],R)]):
  Sound L q k (dX k.toNat (S.map gh)) (dM S) rest/\((dM S).length:Int)<=aQ/\(((dM S).length:Int)=aQ∨(dM S).length=L.length):=by
 have iS:(P.map (·.1)).Perm (L.map (·.id)):=by rw[show L.map (·.id)=(L.map aT.bV).map (·.1) by rw[List.map_map];rfl];exact(cE.map _).symm
 have ahU:S.Nodup:=(List.nodup_append.1 (aa.nodup_iff.2 bX)).1
 have tJ:rest.flatMap (·.ids)=R/\∀r∈rest,r.core=(1,0,[],[],R)/\R≠[]:=by
  by_cases e:R=[]
  simp_all
  rw[if_neg e] at W;cases rest with
  |nil=>simp at W|cons r rs=>
   cases rs with
   |cons iw axp=>simp at W|nil=>
    simp only[List.map_cons,List.map_nil,List.cons.injEq,and_true] at W;refine⟨?_,λeB ek=>?_⟩;have:r.ids=R:=congrArg (λz=>z.2.2.2.2) W;simp[this]
    grind
 refine⟨⟨Kf ahU,λr ek=>?_,?_,λm hm Ec=>?_⟩,?_,?_⟩
 obtain⟨E,ah⟩:=tJ.2 r ek
 have c1:r.ax=1:=congrArg (λz=>z.1) E
 have c2:r.ch=0:=congrArg (λz=>z.2.1) E
 have c3:r.bz=[]:=congrArg (λz=>z.2.2.1) E
 have c4:r.hi=[]:=congrArg (λz=>z.2.2.2.1) E
 have c5:r.ids=R:=congrArg (λz=>z.2.2.2.2) E
 have cr:∀x∈R,x∈L.map (·.id):=λx I=>iS.mem_iff.1 (aa.mem_iff.1 (List.mem_append_right _ I))
 refine⟨⟨ay.rows.ao,by rw[c5];exact mv,λx I=>?_,.inl ⟨c1,c3,c4,c2⟩⟩,by rw[c5];exact ah,λx I=>?_⟩
 rw[c5] at I
 obtain⟨w,hw,rfl⟩:=List.mem_map.1 (cr x I)
 exact ay.rows.id w hw
 rw[c5] at I
 obtain⟨w,hw,rfl⟩:=List.mem_map.1 (cr x I)
 exact⟨w,hw,rfl,λh=>(by rw[c1] at h;cases h),λh=>(by rw[c1] at h;cases h)⟩
 rw[tJ.1]
 exact(((pz S).append_right R).trans aa).trans iS
 refine xa ?_
 have bJ:(m.map (·.id)).Perm S:=by rw[Ec];exact pz S
 have e0:m.map (hh q)=(m.map (·.id)).map gh:=by rw[List.map_map];exact List.map_congr_left λr gx=>(ai4 r (hm r gx)).symm
 grind
 rw[B3];omega
 rw[B3]
 by_cases e:R=[]
 right
 rw[e,List.append_nil] at aa
 have:=(aa.trans iS).length_eq
 simpa using this
 grind
end
namespace dE
section
variable{u Y u':H}{D:Nat->Prop}{b:Nat}{q:List Int}{k aQ:Int}{L:List aT}
def b7(X:ak):List kD:=eN X.g
structure dA(Y u:H)(D:Nat->Prop)(b:Nat)(X:ak):Prop where
 ex:∃ab,(∀c,D c↔ab c≠none)/\In Y u ab b X/\dj X
structure cD(u:H)(D:Nat->Prop)(u':H)(D':Nat->Prop):Prop where
 bd:∀c o,u c=some o->¬D c->u' c=some o
 grow:∀c,D' c->D c∨u c=none
def cD.mono(h:u.le u'):cD u D u' D:=⟨λc o E _=>h c o E,λ_ h=>.inl h⟩
theorem cD.trans{aI bE:H}{oU CA:Nat->Prop}(h:cD u D aI oU)(k:cD aI oU bE CA):cD u D bE CA where
 bd c o E M:=k.bd c o (h.bd c o E M) λaj=>by
  rcases h.grow c aj with h1|h1;exact M h1
  grind
 grow c E:=by
  rcases k.grow c E with h1|h1;exact h.grow c h1;by_cases e:D c;exact .inl e;right;cases ar:u c with
  |none=>rfl|some o=>rw[h.bd c o ar e] at h1;cases h1
theorem cD.apart{v:H}{D':Nat->Prop}(h:cD u D u' D')(av:v.le u)(aj:∀c,D c->v c=none):v.le u'/\∀c,D' c->v c=none:=by
 refine⟨λc o E=>h.bd c o (av c o E) λe=>?_,λc E=>?_⟩
 grind
 rcases h.grow c E with h1|h1;exact aj c h1;exact av.none h1
def dA.base{X:ak}(h:dA Y u D b X):Y.le u/\(∀c,D c->Y c=none)/\∀c,D c->u c≠none:=by obtain⟨ab,h1,h2,_⟩:=h.ex;exact⟨h2.le,λc E=>h2.out c ((h1 c).1 E),λc E=>h2.known c ((h1 c).1 E)⟩
def dA.same{X:ak}(h:dA Y u D b X)(hu:∀c o,u c=some o->D c->u' c=some o)(hle:Y.le u'):dA Y u' D b X:=by obtain⟨ab,h1,h2,h3⟩:=h.ex;exact⟨ab,h1,h2.same (λc o E M=>hu c o E ((h1 c).2 M)) hle,h3⟩
def dA.mono{X:ak}(h:dA Y u D b X)(hu:u.le u'):dA Y u' D b X:=h.same (λc o E _=>hu c o E) (h.base.1.trans hu)
def dA.aai{X:ak}(h:dA Y u D b X):((b7 X).map (·.1)).Nodup:=by obtain⟨ab,_,h2,_⟩:=h.ex;unfold b7;rw[rj];exact h2.az.nodup
def QJ(X:ak)(id:Int):(id∈X.g.map (·.1))↔id∈(b7 X).map (·.1):=by unfold b7;rw[rj]
def kO(X:ak)(q:List Int)(k aQ:Int):List bk:=dX k.toNat ((l5 X.g q X.entry aQ.toNat).1.map (b6 X.g q))
def h5(X:ak)(q:List Int)(aQ:Int):List Int:=dM (l5 X.g q X.entry aQ.toNat).1
def nc(X:ak)(q:List Int)(aQ:Int):List (Int×Int×List Int×List Int×List Int):=if(l5 X.g q X.entry aQ.toNat).2=[] then[] else[(1,0,[],[],(l5 X.g q X.entry aQ.toNat).2)]
def aah(ly:J)(X:ak)(q:List Int)(aQ:Int):(FE ly (l5 X.g q X.entry aQ.toNat).2).map cc.core=nc X q aQ:=by unfold FE nc;split<;>rfl
def Sv{X:ak}{t:J}{K:J->J->J->Int->H->Prop}(h:dA Y u D b X)(ht:Ints u t q)
  (dT:iE q X.ao k aQ≠0->∀u',u.le u'->K ⟨none,0,0⟩ ⟨none,0,0⟩ ⟨none,0,0⟩ (iE q X.ao k aQ) u')
  (bL:iE q X.ao k aQ=0->∀ax ss a7 rest u',kb u u' ax ss a7 (kO X q k aQ) (h5 X q aQ) rest->rest.map cc.core=nc X q aQ->K ax ss a7 0 u'):LD (some ⟨b,0,none⟩) t k aQ u K:=by
 obtain⟨ab,_,h2,h3⟩:=h.ex
 exact abe h2 h3 ht dT λhe ax ss a7 ly u' ap=>bL he ax ss a7 _ u' ap (aah ly X q aQ)
def YM{X:ak}(h:dA Y u D b X)(he:iE q X.ao k aQ=0)(cE:(L.map aT.bV).Perm (b7 X))(ay:jH L q){rest:List cc}(W:rest.map cc.core=nc X q aQ):
  Sound L q k (kO X q k aQ) (h5 X q aQ) rest/\((h5 X q aQ).length:Int)<=aQ/\(((h5 X q aQ).length:Int)=aQ∨(h5 X q aQ).length=L.length):=by
 obtain⟨ab,_,h2,h3⟩:=h.ex
 obtain⟨av,cv,cI,fJ,eQ⟩:=CR.1 he
 have bX:=h2.az.nodup
 obtain⟨aa,ai,M,mv⟩:=abC h3 bX q aQ.toNat
 rw[<-rj] at aa
 refine aqq (by rw[show b7 X=eN X.g from rfl,rj];exact bX) cE ay fJ aa ai M mv (λr aka=>?_) W
 have bJ:r.bV∈b7 X:=cE.mem_iff.1 (List.mem_map.2 ⟨r,aka,rfl⟩)
 obtain⟨x,I,e⟩:=List.mem_map.1 bJ
 have aO:x.1=r.id:=congrArg Prod.fst e
 have ar:x.2.v=r.v:=congrArg Prod.snd e
 have e0:dx X.g r.id=some x.2:=uK bX (by rw[<-aO];exact I)
 unfold b6 hh
 rw[e0]
 simp only[ar]
theorem YN{X:ak}(h:dA Y u D b X)(he:iE q X.ao k aQ=0)(cE:(L.map aT.bV).Perm (b7 X))(ay:jH L q){rest:List cc}(W:rest.map cc.core=nc X q aQ):
  Sound L q k (kO X q k aQ) (h5 X q aQ) rest/\((h5 X q aQ).length:Int)<=aQ/\(((h5 X q aQ).length:Int)=aQ∨(h5 X q aQ).length=L.length∨oT q k (kO X q k aQ) rest):=by
 obtain⟨s1,s2,j7⟩:=YM h he cE ay W
 grind
def dA.lx{v:H}{X:ak}(h:dA Y u D b X)(av:v.le Y):dA v u D b X:=by
 obtain⟨ab,h1,h2,h3⟩:=h.ex;exact⟨ab,h1,⟨h2.az,av.trans h2.le,λc E=>by
  cases I:v c with
  |none=>rfl|some o=>have:=av _ _ I;rw[h2.out c E] at this;exact(nomatch this),h2.known⟩,h3⟩
theorem apH{ab:Nat->Option aN}{T:ak}{id:Int}{t:J}{K:Bool->Int->H->Prop}(h:In Y u ab b T)(aJ:dj T)(fC:ib Y)(u4:Ints Y t q)
  (dT:hA id q T.ao (decide (id∈T.g.map (·.1))) T.g.length≠0->K false (hA id q T.ao (decide (id∈T.g.map (·.1))) T.g.length) u)
  (bL:hA id q T.ao (decide (id∈T.g.map (·.1))) T.g.length=0->∀u' aM T',zJ Y u ab b T id q u' aM T'->K (decide (id∉T.g.map (·.1))) 0 u'):LC (some ⟨b,0,none⟩) id t u K:=by
 have ht:=u4.mono h.le
 obtain⟨c0,_,_,c3,_⟩:=lz h.az
 apply acA
 refine⟨λe=>(by cases e),λ_=>⟨_,rfl,_,c3,?_⟩⟩
 refine mE tQ h.az.map (ct:=.ptr) ((dx T.g id).map λn=>(⟨n.p,0,none⟩:Addr)) (by rw[v7];cases dx T.g id<;>rfl) ?_
 have gk:(eF (hj T.g) id).isSome=decide (id∈T.g.map (·.1)):=by
  rw[v7,Option.isSome_map];cases e:dx T.g id with
  |none=>rw[decide_eq_false (xN.1 e)];rfl|some n=>rw[decide_eq_true (List.mem_map.2 ⟨_,gf e,rfl⟩)];rfl
 rw[gk]
 refine⟨_,rfl,_,rfl,_,c0,_,c3,sH tQ h.az.map ⟨H.le.refl u,Kq ht ?_⟩⟩
 rw[RH]
 refine⟨λah=>dT ah,λhe=>?_⟩
 have bL:=bL he
 have iS:¬(id<1∨1000000000<id)/\fV q T.ao=0/\¬(decide (id∈T.g.map (·.1))=false/\512<=(T.g.length:Int)):=by
  unfold hA at he;by_cases h1:id<1∨1000000000<id;omega
  grind
 obtain⟨d1,d2,d3,d4⟩:=rz iS.2.1
 have lay:∀(aI:H) (cX:Nat->Option aN) (a6:ak),In Y aI cX b a6->eZ u ab aI cX->dj a6->eN a6.g=(eN T.g).filter (λx=>x.1 !=id)->a6.ao=T.ao->a6.bU=T.bU->
   nZ t aI λfZ hR=>H.le aI hR/\zu (some ⟨b,0,none⟩) id fZ hR λqq=>K (!decide (decide (id∈T.g.map (·.1))=true)) 0 qq:=by
  intro aI cX a6 h1 jz jY wJ r3 gi
  have uT:Ints aI t q:=u4.mono h1.le
  refine rq uT (by have:=uT.len;omega) λfZ hR io _=>⟨io.le,?_⟩
  have Al:=h1.mono io.le
  obtain⟨gd,h2,yC,gP⟩:=Al.SK (s:=fZ) (λg N=>⟨h1.fresh (io.fresh g N),h1.le.none (io.fresh g N),qj io N⟩) id
  have ym:id∉a6.g.map (·.1):=λhm=>by
   rw[<-rj,wJ] at hm
   grind
  have hlen:a6.g.length<=512:=by
   have aO:a6.g.length=((eN T.g).filter λx=>x.1 !=id).length:=by rw[<-wJ];simp[eN]
   by_cases cr:id∈T.g.map (·.1);have:((eN T.g).filter λx=>x.1 !=id).length<(eN T.g).length:=by rw[List.length_filter_lt_length_iff_exists];rw[<-rj] at cr;obtain⟨x,I,e⟩:=List.mem_map.1 cr;exact⟨x,I,by simp[e]⟩
   have bJ:(eN T.g).length=T.g.length:=by simp[eN]
   have:=aJ.k.ok.small;omega;have aZ:¬512<=(T.g.length:Int):=λbJ=>iS.2.2 ⟨decide_eq_false cr,bJ⟩;have bJ:(eN T.g).length=T.g.length:=by simp[eN]
   grind
  refine Su h2 jY fC ym (by omega) io.ints yC ⟨by rw[r3];exact d3,d4⟩ hlen λqq mj s3 h3 lj N4 Et DN x9=>?_
  have Z:(!decide (decide (id∈T.g.map (·.1))=true))=decide (id∉T.g.map (·.1)):=by grind
  rw[Z]
  refine bL qq mj s3 ⟨h3,?_,N4,?_,DN.trans r3,x9.trans gi⟩
  have gone:∀c,aI c=none->ab c≠none∨u c=none:=λc E=>by
    cases e:ab c with
    |some x=>exact .inl (by simp)|none=>
     cases ar:u c with
     |none=>exact .inr rfl|some o=>rw[jz.bd c o ar e] at E;cases E
  refine⟨λc o E M=>?_,λc E=>?_⟩
  have bJ:=jz.bd c o E M
  have e:fZ.ad≠some c:=λe=>by have:=io.fresh c e;grind
  exact lj.bd c o (io.le c o bJ) (by rw[gP c e];exact jz.none E M)
  rcases lj.grow c E with bJ|bJ
  by_cases e:fZ.ad=some c
  exact gone c (io.fresh c e)
  rw[gP c e] at bJ;exact jz.grow c bJ
  exact gone c (io.le.none bJ)
  grind
 refine St h aJ (λdp aI gl=>?_) λn ac aI cX a6 nI=>?_
 refine lay aI ab T (h.mono gl) (eZ.mono gl) aJ ?_ rfl rfl
 refine(List.filter_eq_self.2 λx I=>?_).symm
 have:x.1≠id:=λe=>xN.1 dp (by rw[<-rj];grind)
 simpa using this
 exact lay aI cX a6 nI.is nI.cL nI.ok nI.rows nI.ao nI.bU
def YL{X:ak}(h:dA Y u D b X)(M:(b7 X).length<=512)(aa:(L.map aT.bV).Perm (b7 X)):hp L X.ao:=by obtain⟨ab,_,h2,h3⟩:=h.ex;have ac:=aa.length_eq;rw[List.length_map] at ac;refine JZ h3.k.ok.ii (by omega) ?_ λp ji=>?_;rw[Jg,(aa.map (·.1)).nodup_iff];exact h.aai;obtain⟨x,I,rfl⟩:=List.mem_map.1 (aa.mem_iff.1 ji);exact⟨(h3.k.ok.ids x I).1,(h3.k.ok.ids x I).2,h3.k.ok.vec x I⟩
end
end dE
