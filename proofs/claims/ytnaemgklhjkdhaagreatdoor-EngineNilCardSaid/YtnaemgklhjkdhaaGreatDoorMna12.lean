/- Texts of mine, joined and packed by pack.py. -/
import Derived.Test.YtnaemgklhjkdhaaGreatDoorMna11
import Derived.Lib.AppendStr
import Derived.Shelf.Strconv.Itoa3
import Derived.Sort.Grow
import Derived.DefersIn
import Derived.RecoverIn
import Derived.Tactics2
import Derived.StillTactics
import Derived.RegionTactic
import Derived.Recover
import Derived.Laws.ResultCell
set_option linter.all false
set_option maxRecDepth 100000
noncomputable section
namespace Go.Proofs.YtnaemgklhjkdhaaGreatDoor
open H
section
variable{u Y u':H}{D:Nat->Prop}{b n:Nat}{q:List Int}{X:dO}{t:J}{L:List aT}{aQ a:Int}{f:H->Prop}
theorem auF{aN:Type}{ab:Nat->Option aN}(fb:∀c,D c↔ab c≠none)(ht:Ints u t q)(fN:(∀g,t.ad=some g->¬D g)∨Ints Y t q)(aI:H)(cX:Nat->Option aN)(hle:Y.le aI)(hk:gu u ab aI cX):Ints aI t q:=by
 rcases fN with fN|u4;exact bb.else ht λg o N U=>hk.bd g o U (by
   grind)
 exact u4.mono hle
def dE.ab0{ab aM:Nat->Option dE.aN}(h:dE.eZ u ab u' aM):gu u ab u' aM:=⟨h.bd,h.grow⟩
theorem dO.zb{id:Int}{K:Bool->Int->H->Prop}(h:X.dA Y u D b)(kL:X.ez<=2700)(fC:dE.ib Y)(ht:Ints u t q)(fN:(∀g,t.ad=some g->¬D g)∨Ints Y t q)
  (dT:hA id q X.ao (decide (id∈X.rows.map (·.1))) X.rows.length≠0->K false (hA id q X.ao (decide (id∈X.rows.map (·.1))) X.rows.length) u)
  (bL:hA id q X.ao (decide (id∈X.rows.map (·.1))) X.rows.length=0->∀u' D' (rL:dO),rL.dA Y u' D' b->cD u D u' D'->rL.rows.Perm ((id,q)::X.rows.filter λx=>x.1 !=id)->rL.ao=X.ao->rL.eO=X.eO->rL.ez<=X.ez+1->K (decide (id∉X.rows.map (·.1))) 0 u'):
  lB Tryz.prog (X.iface b) "Put" #[.agg #[.int .i64 id,.slice t.a t.n t.c]] [.one .bool,.one (.int .i64)] u K:=by
 cases X with
 |mA X=>obtain⟨ab,h1,h2,h3⟩:=hT.ex h;exact zY (f:=356) (by kernel_rfl) SY (by kernel_rfl) (k2.zb h2 h3 (Nat.le_trans kL (by decide)) ht (auF h1 ht fN) dT λhe u' aM T' W=>bL he u' _ (.mA T') (Bc W.is W.ok) (KN h1 W.cL) W.rows W.ao rfl W.ez)
 |ac X=>
  obtain⟨ab,h1,h2,h3⟩:=hT.ex h;have ai:(dO.ac X).rows.length=X.g.length:=by simp[dO.rows,dE.eN]
  have hm:(id∈X.g.map (·.1))↔id∈(dO.ac X).rows.map (·.1):=dE.QJ X id;rw[ai,<-decide_eq_decide.2 hm] at dT bL;rw[<-decide_eq_decide.2 (not_congr hm)] at bL;refine zY (f:=389) (by kernel_rfl) SX (by kernel_rfl) ?_;have fin:=λhe u' aM T' (W:dE.zJ Y u ab b X id q u' aM T')=>bL he u' _ (.ac T') (Bc (dE.toG W.is) W.ok) (KN h1 (dE.ab0 W.cL)) W.rows W.ao rfl (Nat.zero_le _);rcases fN with fN|u4;refine dE.apG (dE.BF h2) h3 fC ht (λg N=>?_) dT fin
  grind
  exact dE.apH (dE.BF h2) h3 fC u4 dT fin
def dO.vt{id:Int}{K:Bool->Int->H->Prop}(h:X.dA Y u D b)(kL:X.ez<=2700)(dp:id∉X.rows.map (·.1)->∀u',u.le u'->K false 0 u')
  (jM:id∈X.rows.map (·.1)->∀u' D' (rL:dO),rL.dA Y u' D' b->cD u D u' D'->rL.rows=X.rows.filter (λx=>x.1 !=id)->rL.ao=X.ao->rL.eO=X.eO->rL.ez<=X.ez->K true 0 u'):
  lB Tryz.prog (X.iface b) "Delete" #[.int .i64 id] [.one .bool,.one (.int .i64)] u K:=by
 cases X with
 |mA X=>obtain⟨ab,h1,h2,h3⟩:=hT.ex h;have hk:(dO.mA X).rows.map (·.1)=X.w.map (·.1):=k2.vd X;rw[hk] at dp jM;exact zY (f:=354) (by kernel_rfl) SY (by kernel_rfl) (k2.vt h2 h3 (Nat.le_trans kL (by decide)) dp λac u' aM T' W=>jM ac u' _ (.mA T') (Bc W.is W.ok) (KN h1 W.cL) W.rows W.ao rfl (Nat.le_of_eq W.ez))
 |ac X=>obtain⟨ab,h1,h2,h3⟩:=hT.ex h;exact zY (f:=387) (by kernel_rfl) SX (by kernel_rfl) (dE.St (dE.BF h2) h3 (λac=>dp λhm=>dE.xN.1 ac ((dE.QJ X id).2 hm)) λn ac u' aM T' W=>jM ((dE.QJ X id).1 (List.mem_map.2 ⟨_,dE.gf ac,rfl⟩)) u' _ (.ac T') (Bc (dE.toG W.is) W.ok) (KN h1 (dE.ab0 W.cL)) W.rows W.ao rfl (Nat.le_refl _))
def s6(k:Int):Option (Int×Int×Int):=if k=1 then some (0,0,0) else if k=2∨k=3∨k=4 then some (64,0,0) else if k=5 then some (64,8,16) else if k=6 then some (16,0,0) else none
abbrev tU(n m:Int):Prop:=n<=m/\(if m<1 then m else 1)<=n
def kY(k s p c:Int):Int:=match s6 k with
 |none=>120|some x=>if tU s x.1/\tU p x.2.1/\tU c x.2.2 then 0 else 121
def aox{b c x:Int}{K:Int->H->Prop}(b0:0<=x)(cJ:x<3)(h0:x=0->K a u)(h1:x=1->K b u)(h2:x=2->K c u):cx Tryz.prog (Instr.index 179 (.agg #[.int .i64 a,.int .i64 b,.int .i64 c]) (.int .i64 x)) [.one (.int .i64)] u K:=by
 have h:∀(y:Int),(∀w:World,(Instr.index 179 (.agg #[.int .i64 a,.int .i64 b,.int .i64 c]) (.int .i64 x)).run Tryz.prog w=.ok (.int .i64 y) w)->K y u->cx Tryz.prog (Instr.index 179 (.agg #[.int .i64 a,.int .i64 b,.int .i64 c]) (.int .i64 x)) [.one (.int .i64)] u K:=λy W ae=>cx.rf (c:=.int .i64) y (λw _=>W w) ae;obtain rfl|rfl|rfl:x=0∨x=1∨x=2:=by omega
 exact h a (λw=>by kernel_rfl) (h0 rfl);exact h b (λw=>by kernel_rfl) (h1 rfl);exact h c (λw=>by kernel_rfl) (h2 rfl)
def SA{b c y:Int}(h:u n=some (.cells #[.int .i64 a,.int .i64 b,.int .i64 c] 179 (0,0)))(M:f (u.ins n (.cells #[.int .i64 y,.int .i64 b,.int .i64 c] 179 (0,0)))):H.an u (Addr.add (Addr.mk n 0 none) 0) [.int .i64 y] f:=
 ⟨_,_,h,rfl,by simp[Addr.add_lit],by simp[Value.oneCell'],M⟩
def aqv{b c x y z:Int}(h:u n=some (.cells #[.int .i64 a,.int .i64 b,.int .i64 c] 179 (0,0)))(M:f (u.ins n (.cells #[.int .i64 x,.int .i64 y,.int .i64 z] 179 (0,0)))):H.an u (Addr.mk n 0 none) [.int .i64 x,.int .i64 y,.int .i64 z] f:=
 ⟨_,_,h,rfl,by simp,by simp[Value.oneCell'],by
  have e:wr #[Value.int .i64 a,.int .i64 b,.int .i64 c] 0 [.int .i64 x,.int .i64 y,.int .i64 z]=#[.int .i64 x,.int .i64 y,.int .i64 z]:=by simp[wr]
  rw[e];exact M⟩
theorem Ko{k s p c:Int}{K:Int->H->Prop}(h:∀u',u.le u'->K (kY k s p c) u'):zr k s p c u K:=by
 apply ar3;intro n0 et;refine oN (zs:=[.int .i64 0,.int .i64 0,.int .i64 0]) rfl (by simp[Value.oneCell']) ?_;obtain⟨aI,gl⟩:∃aI,aI=u.ins n0 (.cells [Value.int .i64 64,.int .i64 0,.int .i64 0].toArray 179 (0,0)):=⟨_,rfl⟩;rw[<-gl];have d0:aI n0=some (.cells #[.int .i64 64,.int .i64 0,.int .i64 0] 179 (0,0)):=by rw[gl];exact aS _ _ _
 have b9:u.le aI:=by rw[gl];exact bN _ et
 have JA:∀o,u.le (aI.ins n0 o):=λo c x E=>by rw[aL _ _ (λe=>by grind)];exact b9 c x E
 intro js h2;have fin:∀(a b d:Int) (w:H),u.le w->w n0=some (.cells #[.int .i64 a,.int .i64 b,.int .i64 d] 179 (0,0))->s6 k=some (a,b,d)->∀y,js y w:=by intro a b d w hw E Z y;have key:∀z,kY k s p c=z->K z w:=λz e=>e▸h w hw;have bad:¬(tU s a/\tU p b/\tU c d)->K 121 w:=λac=>key 121 (by unfold kY;rw[Z];exact if_neg ac);apply h2;refine⟨λ_ x v=>v=w/\0<=x/\x<=3/\(0<x->tU s a)/\(1<x->tU p b)/\(2<x->tU c d),λ_ x _=>(3-x).toNat,⟨rfl,by omega,by omega,λe=>absurd e (by omega),λe=>absurd e (by omega),λe=>absurd e (by omega)⟩,?_⟩;rintro z x v ⟨rfl,b0,cJ,g0,g1,g2⟩;refine⟨λI=>aox b0 I (λe=>?_) (λe=>?_) (λe=>?_),λI=>key 0 (by unfold kY;grind)⟩;subst e;refine⟨by decide,⟨by omega,by omega⟩,a,aV E 0,λe=>bad λhk=>by have:=hk.1.1;omega,λe=>⟨by decide,⟨by omega,by omega⟩,a,aV E 0,λar=>bad λhk=>absurd hk.1.2 (by omega),λar=>⟨⟨by omega,by omega⟩,⟨rfl,by omega,by omega,λ_=>⟨by omega,by omega⟩,λe=>absurd e (by omega),λe=>absurd e (by omega)⟩,by dsimp only;omega⟩⟩⟩;subst e;refine⟨by decide,⟨by omega,by omega⟩,b,aV E 1,λe=>bad λhk=>by have:=hk.2.1.1;omega,λe=>⟨by decide,⟨by omega,by omega⟩,b,aV E 1,λar=>bad λhk=>absurd hk.2.1.2 (by omega),λar=>⟨⟨by omega,by omega⟩,⟨rfl,by omega,by omega,λ_=>g0 (by omega),λ_=>⟨by omega,by omega⟩,λe=>absurd e (by omega)⟩,by dsimp only;omega⟩⟩⟩;subst e;refine⟨by decide,⟨by omega,by omega⟩,d,aV E 2,λe=>bad λhk=>by have:=hk.2.2.1;omega,λe=>⟨by decide,⟨by omega,by omega⟩,d,aV E 2,λar=>bad λhk=>absurd hk.2.2.2 (by omega),λar=>⟨⟨by omega,by omega⟩,⟨rfl,by omega,by omega,λ_=>g0 (by omega),λ_=>g1 (by omega),λ_=>⟨by omega,by omega⟩⟩,by dsimp only;omega⟩⟩⟩
 have eQ:k=1->s6 k=some (0,0,0):=λe=>by unfold s6;rw[if_pos e]
 have eI:k=2∨k=3∨k=4->s6 k=some (64,0,0):=λe=>by unfold s6;grind
 refine⟨λe=>⟨by decide,⟨by omega,by omega⟩,SA d0 (fin 0 0 0 _ (JA _) (aS _ _ _) (eQ e) _)⟩,λaO CE V3=>?_⟩;have go:∀cF:Bool,(cF=true↔(k=2∨k=3))->CE cF aI:=λcF pc=>V3 _ _ ⟨λe=>fin 64 0 0 _ b9 d0 (eI (by have:=pc.1 e;omega)) _,λe=>?_⟩;exact⟨λe=>go true ⟨λ_=>.inl e,λ_=>rfl⟩,λe=>go _ ⟨λh3=>.inr (of_decide_eq_true h3),λh3=>decide_eq_true (by omega)⟩⟩;have ac:¬(k=2∨k=3):=λh3=>by grind
 refine⟨λeD=>⟨by decide,⟨by omega,by omega⟩,SA d0 (fin 64 0 0 _ (JA _) (aS _ _ _) (eI (by omega)) _)⟩,λeD=>⟨λe6=>aqv d0 (fin 64 8 16 _ (JA _) (aS _ _ _) ?_ _),λe6=>⟨λob=>⟨by decide,⟨by omega,by omega⟩,SA d0 (fin 16 0 0 _ (JA _) (aS _ _ _) ?_ _)⟩,λob=>?_⟩⟩⟩;unfold s6;grind;unfold s6;grind;have:kY k s p c=120:=by unfold kY s6;grind
 exact this▸h aI b9
structure ak where
 k:Int
 s:Int
 p:Int
 c:Int
 cW:Nat
 X:dO
abbrev zS(k s p c:Int)(v:Value):Obj:=.cells #[.int .i64 k,.int .i64 s,.int .i64 p,.int .i64 c,v] 153 (0,0)
def ak.obj(T:ak):Obj:=zS T.k T.s T.p T.c (T.X.iface T.cW)
structure dA(Y u:H)(D:Nat->Prop)(b:Nat)(X:ak):Prop where
 ex:∃D0,(∀c,D c↔c=b∨D0 c)/\¬D0 b/\Y b=none/\u b=some X.obj/\X.X.dA Y u D0 X.cW
def rR(l:List aT)(ao k s p c:Int):Int:=if kY k s p c≠0 then kY k s p c else if nh l ao≠0 then nh l ao else if k=5/\Int.tmod ao p≠0 then 100 else 0
theorem abz{k s p c:Int}(h:kY k s p c=0):k=1∨((k=2∨k=3∨k=4)/\1<=s/\s<=64)∨(k=5/\1<=p/\p<=8/\1<=c/\c<=16)∨(k=6/\1<=s/\s<=16):=by
 unfold kY s6 at h;by_cases h1:k=1;exact .inl h1;rw[if_neg h1] at h;have one:∀{n m:Int},1<=m->tU n m->1<=n/\n<=m:=λ{n m} hm hk=>by omega
 by_cases h2:k=2∨k=3∨k=4
 grind
 rw[if_neg h2] at h;by_cases bJ:k=5
 grind
 rw[if_neg bJ] at h
 grind
def aqw{k s p c:Int}{v w:Value}(h:u n=some (zS k s p c v))(av:w.oneCell'=true)(M:f (u.ins n (zS k s p c w))):H.an u (Addr.add (Addr.mk n 0 none) 4) [w] f:=
 ⟨_,_,h,rfl,by simp[Addr.add_lit],by simp[av],M⟩
theorem aa3{s:J}{l:List aT}{ao k fG p c ku:Int}{K:Option Addr->Int->H->Prop}(AF:k=2∨k=6)(hs:ev u s l)(fC:dE.ib u)(PT:cS ku)
  (dT:rR l ao k fG p c≠0->∀u',u.le u'->K none (rR l ao k fG p c) u')
  (bL:rR l ao k fG p c=0->∀b D X u',dA u u' D b X->X.X.rows.Perm (l.map aT.bV)->X.X.ao=ao->X.k=k->X.s=fG->X.p=p->X.c=c->X.X.ez=0->K (some ⟨b,0,none⟩) 0 u'):Gp k fG p c ao s ku u K:=by
 have bad:∀z u',u.le u'->rR l ao k fG p c=z->z≠0->K none z u':=λz u' hu e aP=>by subst e;exact dT aP u' hu
 apply arx
 refine Ko λaI b9=>⟨λah=>bad _ aI b9 (by unfold rR;rw[if_pos ah]) ah,λlg=>?_⟩
 have df:=hs.mono b9
 have ahY:=fC.mono b9
 refine Kp df ⟨λah=>bad _ aI b9 (by unfold rR;omega) ah,λqX=>?_⟩
 have b8:=FD.1 qX
 have cY:=hs.len
 have N2:=b8.len
 have avZ:=b8.ao
 intro adV aZ
 have awN:=abz lg
 have base:rR l ao k fG p c=if k=5/\Int.tmod ao p≠0 then 100 else 0:=by unfold rR;omega
 have main:(k=5->Int.tmod ao p=0)->∀y z,adV y z aI:=by
  intro hdiv y z;have bL:=bL (by omega);apply aZ;intro n8 AM CF kH;obtain⟨B,b4⟩:∃B,B=aI.ins n8 (zS k fG p c .nilIface):=⟨_,rfl⟩;rw[<-b4];have oE:aI.le B:=by rw[b4];exact bN _ AM
  have ac5:B n8=some (zS k fG p c .nilIface):=by rw[b4];exact aS _ _ _
  have oC:u n8=none:=b9.none AM;have X2:=df.mono oE;have axo:¬nh l ao≠0:=by simpa using qX
  have fin:∀(X:dO) (cW:Nat) (D0:Nat->Prop) (v:H),X.dA B v D0 cW->X.rows.Perm (l.map aT.bV)->X.ao=ao->X.ez=0->H.an v (Addr.add (Addr.mk n8 0 none) 4) [X.iface cW] λw=>CF 0 w:=by
   intro X cW D0 v lQ W aj N;have pG:=(dO.base lQ).1 _ _ ac5;have Wh:¬D0 n8:=λe=>by have:=(dO.base lQ).2.1 n8 e;grind
   refine aqw pG (by simp[dO.iface,Value.oneCell']) (kH 0 _ ⟨λI=>absurd rfl I,λ_=>?_⟩);obtain⟨w,hw⟩:∃w,w=v.ins n8 (zS k fG p c (X.iface cW)):=⟨_,rfl⟩;rw[<-hw];have kw:∀x o,v x=some o->x≠n8->w x=some o:=λx o I ah=>by rw[hw,aL _ _ ah];exact I
   have lw:u.le w:=λx o I=>kw x o ((dO.base lQ).1 x o (oE x o (b9 x o I))) λe=>by grind
   exact bL n8 _ ⟨k,fG,p,c,cW,X⟩ w ⟨D0,λ_=>Iff.rfl,Wh,oC,by rw[hw];exact aS _ _ _,dO.same (dO.lx lQ (b9.trans oE)) (λx o I aj=>kw x o I λe=>Wh (by rw[<-e];exact aj)) lw⟩ W aj rfl rfl rfl rfl N
  refine⟨λe=>k2.aoY X2 (λah=>absurd (by unfold k2.vb;omega) ah) λ_ v cW ab T W=>fin (.mA T) cW _ v (Bc W.is W.ok) W.rows W.ao W.ez,λdi=>?_⟩;refine⟨λe=>by exfalso;omega,λnP=>?_⟩;refine⟨λe=>by exfalso;omega,λdr=>?_⟩;refine⟨λe=>dE.apF X2 (ahY.mono oE) PT (λah=>absurd (by unfold dE.vT;omega) ah) λ_ cW ab T v W=>fin (.ac T) cW _ v (Bc (dE.toG W.is) W.ok) W.rows W.ao rfl,λn6=>?_⟩;exfalso;omega
 exact⟨λe6=>⟨by omega,λah=>bad 100 aI b9 (by omega) (by decide),λhe=>main (λ_=>he) _ _⟩,λe6=>main (λe=>absurd e e6) _ _⟩
def dO.Hh:dO->List Int->Int->Int->List bk
 | .mA X=>k2.kO X| .ac X=>dE.kO X
def dO.n5:dO->List Int->Int->Int->List Int
 | .mA X=>k2.h5 X| .ac X=>λq _ aQ=>dE.h5 X q aQ
def dO.MB:dO->List Int->Int->Int->List (Int×Int×List Int×List Int×List Int)
 | .mA X=>k2.nc X| .ac X=>λq _ aQ=>dE.nc X q aQ
def dO.ids(h:X.dA Y u D b):(X.rows.map (·.1)).Nodup:=by
 cases X with
 |mA X=>obtain⟨ab,h1,h2,h3⟩:=hT.ex h;exact h2.az.zk
 |ac X=>obtain⟨ab,h1,h2,h3⟩:=hT.ex h;rw[show(dO.ac X).rows=dE.eN X.g from rfl,dE.rj];exact(dE.BF h2).az.nodup
def dO.an0(h:X.dA Y u D b)(M:X.rows.length<=512)(aa:(L.map aT.bV).Perm X.rows):hp L X.ao:=by
 have ac:=aa.length_eq;rw[List.length_map] at ac;have aj:(L.map (·.id)).Nodup:=by rw[Jg,(aa.map (·.1)).nodup_iff];exact dO.ids h
 have fin:(1<=X.ao/\X.ao<=64)->(∀p∈X.rows,1<=p.1/\p.1<=1000000000/\(p.2.length:Int)=X.ao/\ej p.2)->hp L X.ao:=λh1 h2=>JZ h1 (by omega) aj λp hm=>h2 p (aa.mem_iff.1 hm);cases X with
 |mA X=>obtain⟨ab,h1,h2,h3⟩:=hT.ex h;exact fin h3.ii λp hm=>by obtain⟨e,he,rfl⟩:=List.mem_map.1 hm;exact⟨(h3.ids e he).1,(h3.ids e he).2,h3.vec e he⟩
 |ac X=>obtain⟨ab,h1,h2,h3⟩:=hT.ex h;exact fin h3.k.ok.ii λp hm=>by obtain⟨e,he,rfl⟩:=List.mem_map.1 hm;exact⟨(h3.k.ok.ids e he).1,(h3.k.ok.ids e he).2,h3.k.ok.vec e he⟩
def dO.sound(h:X.dA Y u D b){k:Int}(he:iE q X.ao k aQ=0)(cE:(L.map aT.bV).Perm X.rows)(ay:jH L q){rest:List cc}(W:rest.map cc.core=X.MB q k aQ):
  Sound L q k (X.Hh q k aQ) (X.n5 q k aQ) rest/\((X.n5 q k aQ).length:Int)<=aQ/\(((X.n5 q k aQ).length:Int)=aQ∨(X.n5 q k aQ).length=L.length∨oT q k (X.Hh q k aQ) rest):=by
 obtain⟨av,cv,_,fJ,_⟩:=CR.1 he
 have aj:=(rz av).2.2.1
 cases X with
 |mA X=>obtain⟨ab,h1,h2,h3⟩:=hT.ex h;exact k2.abY h3 cv fJ aj cE ay W
 |ac X=>obtain⟨ab,h1,h2,h3⟩:=hT.ex h;obtain⟨s1,s2,j7⟩:=dE.YM (D:=D) (b:=b) ⟨ab,h1,dE.BF h2,h3⟩ he cE ay W;exact⟨s1,s2,j7.imp id .inl⟩
def dO.Kk{k:Int}{K:J->J->J->Int->H->Prop}(h:X.dA Y u D b)(kL:X.ez<=2700)(ht:Ints u t q)
  (dT:iE q X.ao k aQ≠0->∀u',u.le u'->K ⟨none,0,0⟩ ⟨none,0,0⟩ ⟨none,0,0⟩ (iE q X.ao k aQ) u')
  (bL:iE q X.ao k aQ=0->∀ax ss a7 rest u',kb u u' ax ss a7 (X.Hh q k aQ) (X.n5 q k aQ) rest->rest.map cc.core=X.MB q k aQ->K ax ss a7 0 u'):
  lB Tryz.prog (X.iface b) "Search" #[.slice t.a t.n t.c,.int .i64 k,.int .i64 aQ] [.agg [.slice,.slice,.slice],.one (.int .i64)] u K:=by
 cases X with
 |mA X=>obtain⟨ab,h1,h2,h3⟩:=hT.ex h;exact zY (f:=358) (by kernel_rfl) SY (by kernel_rfl) (k2.Kk h2 h3 kL ht (λah=>dT ah u (H.le.refl u)) bL)
 |ac X=>obtain⟨ab,h1,h2,h3⟩:=hT.ex h;exact zY (f:=391) (by kernel_rfl) SX (by kernel_rfl) (dE.abe (dE.BF h2) h3 ht dT λhe ax ss a7 ly u' ap=>bL he ax ss a7 _ u' ap (dE.aah ly X q aQ))
def ak.ao(X:ak):Int:=X.X.ao
def ak.bU(_:ak):Int:=0
def b7(X:ak):List kD:=X.X.rows
def kO(X:ak)(q:List Int)(k aQ:Int):List bk:=X.X.Hh q k aQ
def h5(X:ak)(q:List Int)(k aQ:Int):List Int:=X.X.n5 q k aQ
def nc(X:ak)(q:List Int)(k aQ:Int):List (Int×Int×List Int×List Int×List Int):=X.X.MB q k aQ
abbrev vb(l:List aT)(ao A B au F:Int):Int:=rR l ao A B au F
def sk(X:ak):Nat:=X.X.ez
abbrev ib(u:H):Prop:=dE.ib u
def ib.mono(h:ib u)(hu:u.le u'):ib u':=dE.ib.mono h hu
theorem dA.base{X:ak}(h:dA Y u D b X):Y.le u/\(∀c,D c->Y c=none)/\∀c,D c->u c≠none:=by
 obtain⟨D0,h1,_,h3,aZ,bJ⟩:=h.ex;obtain⟨cv,cI,pr⟩:=dO.base bJ
 grind
def dA.same{X:ak}(h:dA Y u D b X)(hu:∀c o,u c=some o->D c->u' c=some o)(hle:Y.le u'):dA Y u' D b X:=by obtain⟨D0,h1,h2,h3,aZ,bJ⟩:=h.ex;exact⟨D0,h1,h2,h3,hu _ _ aZ ((h1 b).2 (.inl rfl)),dO.same bJ (λc o E aj=>hu c o E ((h1 c).2 (.inr aj))) hle⟩
def dA.mono{X:ak}(h:dA Y u D b X)(hu:u.le u'):dA Y u' D b X:=h.same (λc o E _=>hu c o E) (h.base.1.trans hu)
def dA.lx{v:H}{X:ak}(h:dA Y u D b X)(av:v.le Y):dA v u D b X:=by obtain⟨D0,h1,h2,h3,aZ,bJ⟩:=h.ex;exact⟨D0,h1,h2,av.none h3,aZ,dO.lx bJ av⟩
def dA.aai{X:ak}(h:dA Y u D b X):((b7 X).map (·.1)).Nodup:=by obtain⟨D0,_,_,_,_,bJ⟩:=h.ex;exact dO.ids bJ
theorem dA.cL{oU D0:Nat->Prop}{X:ak}{ic:dO}(h1:∀c,D c↔c=b∨D0 c)(h2:¬D0 b)(h3:Y b=none)(aZ:u b=some X.obj)(is:ic.dA Y u' oU X.cW)(t:cD u D0 u' oU)(ht:ic.eO=X.X.eO):
  dA Y u' (λc=>c=b∨oU c) b {X with X:=ic}/\cD u D u' λc=>c=b∨oU c:=by
 have Z:¬oU b:=λaj=>by rcases t.grow b aj with h|h;exact h2 h;rw[aZ] at h;cases h
 refine⟨⟨oU,λ_=>Iff.rfl,Z,h3,?_,is⟩,λc o E aj=>t.bd c o E λh=>aj ((h1 c).2 (.inr h)),λc E=>?_⟩
 rw[t.bd _ _ aZ h2]
 unfold ak.obj dO.iface
 simp only[ht]
 rcases E with rfl|E
 grind
 exact(t.grow c E).imp (λh=>(h1 c).2 (.inr h)) id
def Kt{X:ak}{K:Int->Int->Int->Int->H->Prop}(h:dA Y u D b X)(ae:K X.k X.s X.p X.c u):xc (some ⟨b,0,none⟩) u K:=by obtain⟨D0,_,_,_,aZ,_⟩:=h.ex;apply ace;exact⟨λe=>(by cases e),λ_=>⟨_,rfl,_,aV aZ 0,_,aV aZ 1,_,aV aZ 2,_,aV aZ 3,ae⟩⟩
def Sv{X:ak}{k:Int}{K:J->J->J->Int->H->Prop}(h:dA Y u D b X)(kL:sk X<=2700)(ht:Ints u t q)
  (dT:iE q X.ao k aQ≠0->∀u',u.le u'->K ⟨none,0,0⟩ ⟨none,0,0⟩ ⟨none,0,0⟩ (iE q X.ao k aQ) u')
  (bL:iE q X.ao k aQ=0->∀ax ss a7 rest u',kb u u' ax ss a7 (kO X q k aQ) (h5 X q k aQ) rest->rest.map cc.core=nc X q k aQ->K ax ss a7 0 u'):Gn (some ⟨b,0,none⟩) t k aQ u K:=by
 obtain⟨D0,_,_,_,aZ,bJ⟩:=h.ex
 apply arw
 exact⟨λe=>(by cases e),λ_=>⟨_,rfl,_,aV aZ 4,dO.Kk bJ kL ht dT bL⟩⟩
def YN{X:ak}(h:dA Y u D b X){k:Int}(he:iE q X.ao k aQ=0)(cE:(L.map aT.bV).Perm (b7 X))(ay:jH L q){rest:List cc}(W:rest.map cc.core=nc X q k aQ):
  Sound L q k (kO X q k aQ) (h5 X q k aQ) rest/\((h5 X q k aQ).length:Int)<=aQ/\(((h5 X q k aQ).length:Int)=aQ∨(h5 X q k aQ).length=L.length∨oT q k (kO X q k aQ) rest):=by
 obtain⟨D0,_,_,_,_,bJ⟩:=h.ex
 exact dO.sound bJ he cE ay W
def YL{X:ak}(h:dA Y u D b X)(M:(b7 X).length<=512)(aa:(L.map aT.bV).Perm (b7 X)):hp L X.ao:=by obtain⟨D0,_,_,_,_,bJ⟩:=h.ex;exact dO.an0 bJ M aa
end
namespace n2
section
variable{u Y u':H}{g:Nat}
inductive aN where
 |xI|bo|bc|nx|lf
structure ak where
 ga:Nat
 ao:Int
 ku:Int
 b:Nat
 X:Go.Proofs.YtnaemgklhjkdhaaGreatDoor.ak
 nx:Option (Nat×Go.Proofs.YtnaemgklhjkdhaaGreatDoor.ak)
 lf:J
 left:List np
 S:an.ak
 L:dn.dy
 c:Int
def ak.lq(au:ak):Option Addr:=au.nx.map λp=>⟨p.1,0,none⟩
def ak.obj(au:ak):Obj:=.cells #[.pointer (some ⟨au.ga,0,none⟩),.int .i64 au.ao,.int .u64 au.ku,.pointer (some ⟨au.b,0,none⟩),.pointer au.lq,.slice au.lf.a au.lf.n au.lf.c] 94 (0,0)
def ak.cell{au:ak}(h:u g=some au.obj)(i:Nat):u.cell? ⟨g,i,none⟩=(#[Value.pointer (some ⟨au.ga,0,none⟩),.int .i64 au.ao,.int .u64 au.ku,.pointer (some ⟨au.b,0,none⟩),.pointer au.lq,.slice au.lf.a au.lf.n au.lf.c]:Array Value)[i]?:=aV h i
def xq(Y u:H)(D:Nat->Prop)(b:Nat)(S:an.ak)(L:dn.dy)(c:Int):Prop:=∃f,(D=λx=>f x≠none)/\an.At Y u f b S L c/\an.Ok S c
def xq.same{D:Nat->Prop}{b:Nat}{S:an.ak}{L:dn.dy}{c:Int}(h:xq Y u D b S L c)(hu:∀x o,u x=some o->D x->u' x=some o)(hle:Y.le u'):xq Y u' D b S L c:=by obtain⟨f,rfl,h2,h3⟩:=h;have kQ:∀{x o j},u x=some o->f x=some j->u' x=some o:=λU I=>hu _ _ U (by show f _≠none;rw[I];simp);obtain⟨vs,av⟩:=h2.db;refine⟨f,rfl,⟨⟨hle,h2.own.out,λx I=>?_⟩,kQ h2.cell h2.fU,h2.fU,h2.map.else λo U=>kQ U h2.dq,h2.dq,λe he=>⟨bb.else (h2.vec e he).1 λg o N U=>kQ U ((h2.vec e he).2 g N),(h2.vec e he).2⟩,⟨vs,av.le λg o N U=>kQ U (h2.gM g N)⟩,h2.gM,h2.log.same (λx o U I=>kQ U I) hle⟩,h3⟩;obtain⟨o,U⟩:=Option.ne_none_iff_exists'.1 (h2.own.known x I);rw[hu x o U I];simp
structure At(Y u:H)(f:Nat->Option aN)(g:Nat)(au:ak):Prop where
 own:pI Y u f
 cell:u g=some au.obj
 lO:f g=some .xI
 bo:xq Y u (part f .bo) au.ga au.S au.L au.c
 bc:dA Y u (part f .bc) au.b au.X
 nx:∀p,au.nx=some p->dA Y u (part f .nx) p.1 p.2
 lf:oV u 98 3 au.lf (au.left.flatMap te)
 iV:∀x,au.lf.ad=some x->f x=some .lf
 Bt:∀c∈au.left,Ints u c.s c.v/\∀x,c.s.ad=some x->f x=some .lf/\au.lf.ad≠some x
def At.mono{f:Nat->Option aN}{au:ak}(h:At Y u f g au)(ai:u.le u'):At Y u' f g au:=
 ⟨h.own.mono ai,ai _ _ h.cell,h.lO,h.bo.same (λ_ _ U _=>ai _ _ U) (h.own.le.trans ai),h.bc.same (λ_ _ U _=>ai _ _ U) (h.own.le.trans ai),λp aa=>(h.nx p aa).same (λ_ _ U _=>ai _ _ U) (h.own.le.trans ai),h.lf.same λ_ _ _ U=>ai _ _ U,h.iV,λc E=>⟨(h.Bt c E).1.mono ai,(h.Bt c E).2⟩⟩
def At.cL{f bl:Nat->Option aN}{au E':ak}{i:aN}{D':Nat->Prop}(h:At Y u f g au)(p:Ul Y u f i u' D' bl)(hi:i=.bo∨i=.bc∨i=.nx)(aO:E'.obj=au.obj)(ar:E'.lf=au.lf)(cq:E'.left=au.left)
  (bo:(i≠.bo/\E'.S=au.S/\E'.L=au.L/\E'.c=au.c/\E'.ga=au.ga)∨xq Y u' (part bl .bo) E'.ga E'.S E'.L E'.c) (bc:(i≠.bc/\E'.X=au.X/\E'.b=au.b)∨dA Y u' (part bl .bc) E'.b E'.X) (nx:(i≠.nx/\E'.nx=au.nx)∨∀q,E'.nx=some q->dA Y u' (part bl .nx) q.1 q.2):At Y u' bl g E':=by
 have w9:∀{x j},j≠i->f x=some j->bl x=some j:=λ{x j} aH I=>(congrFun (p.eA j aH) x).mpr I
 have kQ:∀{x o j},j≠i->u x=some o->f x=some j->u' x=some o:=λaH U I=>p.bd _ _ U (by rw[I];exact λe=>aH (Option.some.inj e))
 have ne:aN.xI≠i:=by rcases hi with rfl|rfl|rfl<;>simp
 have nl:aN.lf≠i:=by rcases hi with rfl|rfl|rfl<;>simp
 refine⟨p.own,by rw[aO];exact kQ ne h.cell h.lO,w9 ne h.lO,?_,?_,λq ay=>?_,?_,?_,?_⟩
 rcases bo with⟨h1,h2,h3,aZ,bJ⟩|h1
 rw[h2,h3,aZ,bJ,p.eA _ (Ne.symm h1)];exact h.bo.same (λx o U I=>kQ (Ne.symm h1) U I) p.own.le
 exact h1
 rcases bc with⟨h1,h2,h3⟩|h1
 rw[h2,h3,p.eA _ (Ne.symm h1)];exact h.bc.same (λx o U I=>kQ (Ne.symm h1) U I) p.own.le
 exact h1
 rcases nx with⟨h1,h2⟩|h1
 rw[p.eA _ (Ne.symm h1)];exact(h.nx q (by rw[<-h2];exact ay)).same (λx o U I=>kQ (Ne.symm h1) U I) p.own.le
 exact h1 q ay
 rw[ar,cq];exact h.lf.same λx o I U=>kQ nl U (h.iV x I)
 rw[ar];exact λx I=>w9 nl (h.iV x I)
 rw[ar,cq]
 intro c E
 obtain⟨h1,h2⟩:=h.Bt c E
 exact⟨bb.else h1 λx o I U=>kQ nl U (h2 x I).1,λx I=>⟨w9 nl (h2 x I).1,(h2 x I).2⟩⟩
def At.left{v z:H}{D0:Nat->Prop}{f:Nat->Option aN}{au E':ak}(h:At Y u f g au)(ay:oV z 98 3 E'.lf (E'.left.flatMap te))(cQ:∀x o,u x=some o->au.lf.ad≠some x->z x=some o)(ee:∀x,E'.lf.ad=some x->au.lf.ad=some x∨u x=none)
  (ai:∀c∈E'.left,c∈au.left∨(Ints u c.s c.v/\∀x,c.s.ad=some x->f x=none/\Y x=none/\u x≠none/\(D0 x∨v x=none))) (h0:cD v D0 u λx=>f x≠none)
  (aO:E'.ga=au.ga/\E'.S=au.S/\E'.L=au.L/\E'.c=au.c) (ar:E'.b=au.b/\E'.X=au.X) (cq:∀p,E'.nx=some p->au.nx=some p):
  ∃bl,At Y (z.ins g E'.obj) bl g E'/\(cD v D0 (z.ins g E'.obj) λx=>bl x≠none)/\(∀x,bl x≠none->f x≠none∨u x=none∨∃c∈E'.left,c.s.ad=some x/\c∉au.left)/\∀x o,u x=some o->f x=none->(z.ins g E'.obj) x=some o:=by
 classical
 let c6 (x:Nat):Prop:=∃c∈E'.left,c.s.ad=some x/\c∉au.left
 let bl:Nat->Option aN:=λx=>if E'.lf.ad=some x then some .lf else if au.lf.ad=some x then none else if c6 x then some .lf else f x
 have JM:∀{x},c6 x->f x=none/\Y x=none/\u x≠none/\(D0 x∨v x=none):=λ{x} ⟨c,E,I,ac⟩=>((ai c E).resolve_left ac).2 x I
 have lr:∀x,E'.lf.ad=some x->f x=some .lf∨u x=none:=λx I=>(ee x I).imp (h.iV x) id
 have iI:∀x,E'.lf.ad=some x->bl x=some .lf:=λx I=>if_pos I
 have wU:∀{x j},f x=some j->j≠.lf->E'.lf.ad≠some x/\au.lf.ad≠some x/\¬c6 x:=λ{x j} I aH=>⟨λe=>by rcases lr x e with e|e;rw[I] at e;exact aH (Option.some.inj e);exact h.own.known x (by rw[I];simp) e,λe=>by have:=h.iV x e;rw[I] at this;exact aH (Option.some.inj this),λe=>by rw[(JM e).1] at I;cases I⟩
 have ny:∀{x j},f x=some j->j≠.lf->bl x=some j:=λI aH=>by obtain⟨cb,di,nP⟩:=wU I aH;simp only[bl,if_neg cb,if_neg di,if_neg nP,I]
 have ci:∀{x},f x=some .lf->au.lf.ad≠some x->bl x=some .lf:=λ{x} I ac=>by by_cases a:E'.lf.ad=some x;exact iI x a;by_cases b:c6 x;simp only[bl,if_neg a,if_neg ac,if_pos b];simp only[bl,if_neg a,if_neg ac,if_neg b,I]
 have fn:∀x,bl x≠none->E'.lf.ad=some x∨(au.lf.ad≠some x/\(c6 x∨f x≠none)):=λx I=>by by_cases a:E'.lf.ad=some x;exact .inl a;by_cases b:au.lf.ad=some x;exact absurd (by simp only[bl,if_neg a,if_pos b]) I;by_cases c:c6 x;exact .inr ⟨b,.inl c⟩;refine .inr ⟨b,.inr λe=>I ?_⟩;simp only[bl,if_neg a,if_neg b,if_neg c,e]
 have br:∀j,j≠.lf->part bl j=part f j:=λj aH=>funext λx=>propext ⟨λI=>by have dV:bl x=some j:=I;by_cases a:E'.lf.ad=some x;rw[iI x a] at dV;exact absurd (Option.some.inj dV).symm aH;by_cases b:au.lf.ad=some x;simp only[bl,if_neg a,if_pos b] at dV;cases dV;by_cases c:c6 x;simp only[bl,if_neg a,if_neg b,if_pos c] at dV;exact absurd (Option.some.inj dV).symm aH;simp only[bl,if_neg a,if_neg b,if_neg c] at dV;exact dV,λI=>ny I aH⟩
 obtain⟨gW,hO⟩:∃gW,gW=E'.obj:=⟨_,rfl⟩
 rw[<-hO]
 have cur:∀{x o j},u x=some o->f x=some j->j≠.lf->j≠.xI->(z.ins g gW) x=some o:=λU I a b=>by rw[aL _ _ λe=>by rw[e,h.lO] at I;exact b (Option.some.inj I).symm];exact cQ _ _ U (wU I a).2.1
 have C2:∀{x o},u x=some o->au.lf.ad≠some x->x≠g->(z.ins g gW) x=some o:=λU a b=>by rw[aL _ _ b];exact cQ _ _ U a
 have anJ:∀x,E'.lf.ad=some x->x≠g:=λx I e=>(wU h.lO (by simp)).1 (e▸I)
 have mB:Y.le (z.ins g gW):=λx o I=>by
  have M:f x=none:=by
   cases e:f x with
   |none=>rfl|some j=>have:=h.own.out x (by rw[e];simp);rw[this] at I;cases I
  exact C2 (h.own.le x o I) (λe=>by rw[h.iV x e] at M;cases M) λe=>by rw[e,h.lO] at M;cases M
 obtain⟨O,a2,a3,a4⟩:=aO
 refine⟨bl,⟨⟨mB,λx I=>?_,λx I=>?_⟩,by rw[hO];exact aS _ _ _,ny h.lO (by simp),?_,?_,λp aa=>?_,ay.same λx o I U=>by rw[aL _ _ (anJ x I)];exact U,iI,λc E=>?_⟩,⟨λx o I aj=>?_,λx I=>?_⟩,λx I=>?_,λx o U M=>?_⟩
 rcases fn x I with e|⟨_,e|e⟩
 rcases lr x e with e|e
 exact h.own.out x (by rw[e];simp)
 exact h.own.le.none e
 exact(JM e).2.1
 exact h.own.out x e
 by_cases nv:x=g
 rw[nv,aS];simp
 rcases fn x I with e|⟨b,e⟩
 rw[aL _ _ nv]
 rcases ay.is with h0|⟨y,o,s8,ap,N,_⟩
 rw[h0] at e;cases e
 have ar:some y=some x:=by unfold J.ad at e;rw[ap] at e;exact e
 rw[<-Option.some.inj ar,N];simp
 have hk:u x≠none:=e.elim (λe=>(JM e).2.2.1) (h.own.known x)
 obtain⟨o,U⟩:=Option.ne_none_iff_exists'.1 hk
 rw[C2 U b nv];simp
 rw[O,a2,a3,a4,br _ (by simp)];exact h.bo.same (λx o U I=>cur U I (by simp) (by simp)) mB
 rw[ar.1,ar.2,br _ (by simp)];exact h.bc.same (λx o U I=>cur U I (by simp) (by simp)) mB
 rw[br _ (by simp)];exact(h.nx p (cq p aa)).same (λx o U I=>cur U I (by simp) (by simp)) mB
 have aj:∀x,c.s.ad=some x->E'.lf.ad≠some x/\au.lf.ad≠some x/\x≠g/\bl x=some .lf:=λx I=>by
   by_cases hm:c∈au.left;obtain⟨eQ,eI⟩:=(h.Bt c hm).2 x I;have mi:E'.lf.ad≠some x:=λe=>by rcases ee x e with e|e;exact eI e;exact h.own.known x (by rw[eQ];simp) e
   exact⟨mi,eI,λe=>(by rw[e,h.lO] at eQ;cases eQ),ci eQ eI⟩;obtain⟨eQ,eI,mi,qD⟩:=((ai c E).resolve_left hm).2 x I;have c1:au.lf.ad≠some x:=λe=>by rw[h.iV x e] at eQ;cases eQ
   have c2:E'.lf.ad≠some x:=λe=>by rcases ee x e with e|e;exact c1 e;exact mi e
   refine⟨c2,c1,λe=>(by rw[e,h.lO] at eQ;cases eQ),?_⟩;have:c6 x:=⟨c,E,I,hm⟩;simp only[bl,if_neg c2,if_neg c1,if_pos this]
 have hi:Ints u c.s c.v:=by by_cases hm:c∈au.left;exact(h.Bt c hm).1;exact((ai c E).resolve_left hm).1
 exact⟨bb.else hi λx o I U=>C2 U (aj x I).2.1 (aj x I).2.2.1,λx I=>⟨(aj x I).2.2.2,(aj x I).1⟩⟩
 have h1:=h0.bd x o I aj
 have M:f x=none:=Classical.byContradiction λe=>by rcases h0.grow x e with e|e;exact aj e;rw[e] at I;cases I
 exact C2 h1 (λe=>by rw[h.iV x e] at M;cases M) λe=>by rw[e,h.lO] at M;cases M
 rcases fn x I with e|⟨_,e|e⟩
 rcases lr x e with e|e
 exact h0.grow x (by rw[e];simp)
 by_cases aj:D0 x
 exact .inl aj
 refine .inr ?_
 cases ar:v x with
 |none=>rfl
 |some o=>rw[h0.bd x o ar aj] at e;cases e
 exact(JM e).2.2.2
 exact h0.grow x e
 rcases fn x I with e|⟨_,e|e⟩
 exact(lr x e).elim (λe=>.inl (by rw[e];simp)) λe=>.inr (.inl e)
 exact .inr (.inr e)
 exact .inl e
 exact C2 U (λe=>by rw[h.iV x e] at M;cases M) λe=>by rw[e,h.lO] at M;cases M
def At.swap{f:Nat->Option aN}{au E':ak}{p:Nat×Go.Proofs.YtnaemgklhjkdhaaGreatDoor.ak}(h:At Y u f g au)(aa:au.nx=some p)(aO:E'.ga=au.ga/\E'.S=au.S/\E'.L=au.L/\E'.c=au.c)(ar:E'.b=p.1/\E'.X=p.2)(cq:E'.nx=none)(eD:E'.lf=⟨none,0,0⟩)(e6:E'.left=[]):
  ∃bl,At Y (u.ins g E'.obj) bl g E'/\cD u (λx=>f x≠none) (u.ins g E'.obj) λx=>bl x≠none:=by
 let bl:Nat->Option aN:=λx=>match f x with
  |some .nx=>some .bc|some .bc=>none|o=>o
 have f1:∀{x},f x=some .nx->bl x=some .bc:=λI=>by simp only[bl,I]
 have f2:∀{x j},f x=some j->j≠.nx->j≠.bc->bl x=some j:=λ{x j} I a b=>by simp only[bl,I];cases j<;>first|rfl|exact absurd rfl a|exact absurd rfl b
 have fn:∀x,bl x≠none->f x≠none:=λx I e=>I (by simp only[bl,e])
 have FA:part bl .bc=part f .nx:=funext λx=>propext ⟨λI=>by
  have dV:bl x=some .bc:=I;show f x=some .nx;cases e:f x with
  |none=>simp only[bl,e] at dV;cases dV
  |some j=>cases j<;>first|rfl|(simp only[bl,e] at dV;cases dV),f1⟩
 have bZ:part bl .bo=part f .bo:=funext λx=>propext ⟨λI=>by
  have dV:bl x=some .bo:=I;show f x=some .bo;cases e:f x with
  |none=>simp only[bl,e] at dV;cases dV
  |some j=>cases j<;>first|rfl|(simp only[bl,e] at dV;cases dV),λI=>f2 I (by simp) (by simp)⟩
 obtain⟨cC,cz⟩:=an.pI.put h.own (m:=g) (by rw[h.lO];simp) E'.obj
 have cur:∀{x o j},u x=some o->f x=some j->j≠.xI->(u.ins g E'.obj) x=some o:=λU I b=>by rw[aL _ _ λe=>by rw[e,h.lO] at I;exact b (Option.some.inj I).symm];exact U
 obtain⟨O,a2,a3,a4⟩:=aO
 refine⟨bl,⟨⟨cC.le,λx I=>h.own.out x (fn x I),λx I=>cC.known x (fn x I)⟩,aS _ _ _,f2 h.lO (by simp) (by simp),?_,?_,λq ay=>(by rw[cq] at ay;cases ay),?_,λx I=>(by rw[eD] at I;cases I),λc E=>(by rw[e6] at E;cases E)⟩,cz.bd,λx I=>.inl (fn x I)⟩
 rw[O,a2,a3,a4,bZ];exact h.bo.same (λx o U I=>cur U I (by simp)) cC.le
 rw[ar.1,ar.2,FA];exact(h.nx p aa).same (λx o U I=>cur U I (by simp)) cC.le
 rw[eD,e6];exact(Own.nil _ _ _).off
end
end n2
section
variable{u:H}{n:Int}
def aqF(x:ByteArray):Lib.strCells x=(ju x).flatMap gN:=by rw[rX];unfold ju Lib.strCells;rw[List.map_map];rfl
def aor{P:Program}{t ut eO e:TypeId}{zs:List Value}(aJ:iG P t=some (e,1,1,zs))(Ig:P.underlying ut=some .string){s:J}{x:ByteArray}{xs:List Value}{Y:H}{K:J->H->Prop}
  (U:aE Y u e 1 s xs) (h0:0<s.n) (Z:s.n+x.size<=140737488355328) (ae:∀s' u',aE Y u' e 1 s' (xs++(ju x).flatMap gN)->s'.n=s.n+x.size->K s' u'):
  cx P (Builtin.append_ #[t,ut] eO #[.slice s.a s.n s.c,.string x]) [.one .slice] u K:=by
 obtain⟨ht,i,z,hi,aP,jy,tr,u9,_⟩:=qH aJ
 have gm:=zU x
 have oo:((ju x).flatMap gN).length=x.size:=by rw[rX,List.length_map,gm]
 have mw:=aqF x
 have ai:=U.own.len
 rcases U.own.is with h|⟨g,cur,ap,N,ac,E,hs,nK⟩
 rw[h] at h0;exact absurd h0 (by simp)
 refine .one (c:=.slice) λw hw=>?_
 by_cases lc:s.n+x.size<=s.c
 have W:=Lib.run_append_room_string (P:=P) (w:=w) t ut eO e i ht Ig hi jy g s.n s.c cur (hw _ _ N) x lc (by omega)
 rw[mw] at W
 rw[ap,W]
 have jh:Own (u.ins g (.cells (cur.toList.take s.n++(ju x).flatMap gN++cur.toList.drop (s.n+x.size)).toArray e (0,0))) e 1 ⟨some ⟨g,0,none⟩,s.n+x.size,s.c⟩ (xs++(ju x).flatMap gN):=by refine⟨by rw[List.length_append,ai,oo];dsimp only;omega,.inr ⟨g,_,rfl,aS _ _ _,lc,E,?_,?_⟩⟩;simp only[List.size_toArray,List.length_append,List.length_take,List.length_drop,Array.length_toList,oo];omega;rw[Nat.mul_one] at nK;rw[nK];refine List.take_left' (l₁:=xs++(ju x).flatMap gN) ?_;rw[List.length_append,ai,oo];dsimp only;omega
 refine⟨⟨some ⟨g,0,none⟩,s.n+x.size,s.c⟩,_,_,rfl,ae _ _ ⟨jh,?_,?_⟩ rfl,SE hw N _⟩
 intro b o Z
 rw[aL _ _ λh=>by rw[h,U.fresh g (by simp[J.ad,ap])] at Z;cases Z]
 exact U.le b o Z
 intro bS cH
 obtain rfl:g=bS:=by simpa[J.ad] using cH
 exact U.fresh g (by simp[J.ad,ap])
 have hold:∀(j:Nat) (v:Value),xs[j]?=some v->w.cell? ((Addr.mk g 0 none).add j)=some v:=U.own.bR.world hw ap
 have W:=Lib.run_append_grow_string (P:=P) (w:=w) t ut eO e i z ht Ig hi aP ⟨g,0,none⟩ s.n s.c xs (by rw[ai,jy]) hold x (by omega) (by omega) (growslice_fits (by omega) (by rw[tr];omega))
 rw[mw] at W
 have hg:=grownCap_ge w (s.n+x.size) s.c e
 have dU:=grownCap_le_maxLen w (s.n+x.size) s.c e (by rw[Bv];omega)
 rw[Bv] at dU
 rw[ap,W]
 obtain⟨o,IM⟩:∃o:Array Value,o=xs.toArray++((ju x).flatMap gN).toArray++Builtin.zeroCells z.cells (grownCap w (s.n+x.size) s.c e-(s.n+x.size)):=⟨_,rfl⟩
 rw[<-IM]
 have dc:=abI hw (.cells o e)
 have hlen:(xs++(ju x).flatMap gN).length=(s.n+x.size)*i.size:=by rw[List.length_append,ai,oo,jy];omega
 have XL:o=(xs++(ju x).flatMap gN).toArray++Builtin.zeroCells z.cells (grownCap w (s.n+x.size) s.c e-(s.n+x.size)):=by rw[IM];simp
 refine⟨⟨some ⟨w.heap.size,0,none⟩,s.n+x.size,grownCap w (s.n+x.size) s.c e⟩,_,_,rfl,ae _ _ ⟨⟨by rw[hlen,jy],.inr ⟨w.heap.size,o,rfl,aS _ _ _,hg,dU,?_,?_⟩⟩,?_,?_⟩ rfl,dc.1⟩
 rw[XL];exact V1 z.cells u9 hg (by rw[hlen,jy])
 rw[jy] at hlen
 rw[XL]
 rw[Array.toList_append]
 exact List.take_left' hlen
 exact U.le.trans (bN _ dc.2)
 intro bS cH
 obtain rfl:w.heap.size=bS:=by simpa[J.ad] using cH
 exact U.le.none dc.2
def lF(u:H):Prop:=∀w,Sub u w->Lib.TabIs Tryz.prog w "internal/strconv.uint64pow10" .u64 Lib.pow10Tab
def lF.mono{u':H}(h:lF u)(hu:u.le u'):lF u':=λw hw=>h w (hw.mono hu)
def aqE{w:World}(hw:Sub u w)(n:Nat)(os:Array Obj):Step u [] w u [] (Go.Sort.grow (w.drewN n) os):=by refine⟨λb o h=>?_,rfl,rfl,rfl,Nat.le_add_right _ _,?_,λb Z _ _=>?_,λ_ _ e=>e,[],by simp,by simp⟩;show(w.heap++os)[b]?=some o;rw[Array.getElem?_append_left (hw.lt h)];exact hw b o h;show w.heap.size<=(w.heap++os).size;rw[Array.size_append];omega;show(w.heap++os)[b]?=_;rw[Array.getElem?_append_left Z]
def aqd{K:ByteArray->H->Prop}(h0:-9223372036854775808<=n)(h1:n<=9223372036854775807)(aJ:lF u)(ae:K ⟨(Lib.itoa n).toArray⟩ u):TZ n u K:=by intro w hw;have E:=Any.strconv_Itoa Tryz.itoa n h0 h1 w (aJ w hw);change Calls Tryz.prog 209 _ _ _ at E;refine E.mono ?_;rintro e aw ⟨rfl,k,os,rfl⟩;exact⟨_,u,rfl,⟨[.string _],.cons (t:=.str) _ .nil,rfl,ae⟩,aqE hw k os⟩
def Sd{P:Program}{t:TypeId}(aJ:P.underlying t=some .string){s:ByteArray}{l:Int}(h0:0<=l)(h1:l<=s.size){K:ByteArray->H->Prop}(ae:K (s.extract l.toNat s.size) u):
  cx P (Instr.sliceAt t (.string s) (some (.int .i64 l)) none none) [.one .str] u K:=
 .rf (c:=.str) _ (λw _=>by rw[run_sliceAt_string (w:=w) (h:=aJ),run_slice_string_l (w:=w) (ht:=aJ) (h0:=h0) (h1:=h1)];rfl) ae
namespace dn
open b1 (pC)
def BP(n:Int)(x:ByteArray):List Int:=((qf (IntKind.wrap .u32 x.size)++Bo (IntKind.wrap .u64 n))++ju x)++qf (Hw ((qf (IntKind.wrap .u32 x.size)++Bo (IntKind.wrap .u64 n))++ju x))
def anS(n:Int)(x:ByteArray):(BP n x).length=16+x.size:=by unfold BP;simp only[List.length_append,yQ,Ju,zU];omega
def apM{x:ByteArray}{K:J->H->Prop}(I:x.size<=100000)(ae:∀s u',aE u u' 5 1 s ((BP n x).flatMap gN)->K s u'):Mi n x u K:=by have ai:=zU x;apply auu;refine F0 (xs:=[]) (aE.nil (H.le.refl u) _ _) (by simp) λs1 aI h1=>⟨h1.le,abk h1 (by simp[yQ]) λs2 bE h2=>?_⟩;have ac:=kz.len h2.own.bR;simp only[List.length_append,List.length_nil,yQ,Ju] at ac;refine aor CZ pC h2 (by omega) (by omega) λj7 dm h3 _=>?_;rw[<-List.flatMap_append] at h3;refine abm h3 (by simp only[List.length_append,List.length_nil,yQ,Ju];omega) λFH h6 aZ=>ae _ _ ?_;exact aZ
def w6{Y:H}{ab:Nat->Option aN}{fd:Nat->Option b1.aN}{b:Nat}{L:dy}{T:b1.ak}{c:Int}{s:fI}{x:ByteArray}{K:Int->H->Prop}(h:gr Y u ab fd b L T)(hk:Ok L T c)(hs:L.bj.getLast?=some s)(E:c<=900000)(I:x.size<=300)
  (ae:∀u' hq L' T',gr Y u' ab hq b L' T'->cD u (own ab fd) u' (own ab hq)->Ok L' T' (c+(16+x.size)+1)->L'={L with bj:=L.bj.set (L.bj.length-1) {s with len:=s.len+(16+x.size),next:=s.next+1,qG:=true}}->K 0 u'):Cy (some ⟨b,0,none⟩) n x u K:=by
 have t:=h.log.az.is
 have ap:=Jr hs
 have hm:=List.mem_of_getLast? hs
 have ac:L.bD.n=L.bj.length:=fx th (by decide) t.kV.bR
 have eG:=hk.short (by omega)
 have mu:0<L.bj.length:=List.length_pos_of_mem hm
 obtain⟨p,aa,fT⟩:=bb.elem th (by decide) t.kV.bR (i:=((L.bD.n:Int)-1).toNat) (x:=s) (by rw[<-ap];congr 1;omega)
 apply auq
 refine⟨_,rfl,_,rfl,L.bD,dy.c t.cell 1,L.bD,dy.c t.cell 1,⟨by omega,by omega⟩,p,aa,⟨by omega,by omega⟩,_,fT 0 _ rfl,apM (by omega) λsG hC gC=>?_⟩
 have bx:=h.mono gC.le
 have iy:=bx.log.az.is
 obtain⟨⟨Rk,bO⟩,he,OD⟩:=List.mem_map.1 (show s.name∈T.now.map (·.1) by rw[hk.now];exact List.mem_map.2 ⟨s,hm,rfl⟩)
 have OE:Rk=s.name:=OD
 subst OE
 have IS:=anS n x
 have dc:=hk.steps
 have sg:=hk.used
 have lc:=hk.room
 have ah:BP n x≠[]:=λe=>by rw[e] at IS;simp at IS;omega
 have lW:kz hC sG (BP n x):=gC.own.bR
 generalize b8:BP n x=R at*
 refine⟨_,rfl,_,rfl,_,dy.c iy.cell 0,_,fI.c (iy.each s hm) 0,?_⟩
 refine b1.Kh (e:=(s.name,bO)) (xs:=R) bx.ki hk.ki (by omega) he lW ah (by rw[IS];omega) λCa aM f q M hf r=>⟨λe=>absurd rfl e,λ_=>?_⟩
 obtain⟨h1,t1⟩:=bx.cL r
 have ai:=hk.lay (n:=16+x.size) hs (by omega) r.ok rfl rfl rfl (by have e:=b1.KW hk.ki he M hf (g:={f with b:=q,xs:=f.xs++R}) rfl;have ar:(b1.ak.used {T with ci:=b1.ix T.ci {f with b:=q,xs:=f.xs++R},steps:=T.steps+1})=b1.ak.used {T with ci:=b1.ix T.ci {f with b:=q,xs:=f.xs++R}}:=rfl;rw[ar,e];simp only[List.length_append,IS];omega) rfl
 have cY:=kz.len gC.own.bR
 have lg:=hk.each s hm
 have qR:=hk.iH
 have jf:ln L.bj=s.len:=by unfold ln;rw[hs]
 obtain⟨s1,aO⟩:∃s1:fI,s1={s with len:=s.len+sG.n}:=⟨_,rfl⟩
 obtain⟨s2,ar⟩:∃s2:fI,s2={s1 with next:=s1.next+1}:=⟨_,rfl⟩
 obtain⟨j7,cq⟩:∃j7:fI,j7={s2 with qG:=true}:=⟨_,rfl⟩
 have eQ:s1.ad=s.ad:=by rw[aO]
 have eI:s2.ad=s.ad:=by rw[ar,aO]
 have mi:j7.ad=s.ad:=by rw[cq,ar,aO]
 obtain⟨h2,t2⟩:=h1.e7 hk.nd ap eQ
 have a2:(L.bj.set (L.bj.length-1) s1)[L.bj.length-1]?=some s1:=by rw[List.getElem?_set,if_pos rfl,if_pos (by omega)]
 have di:((L.bj.set (L.bj.length-1) s1).map (·.ad)).Nodup:=by rw[w4 _ ap eQ];exact hk.nd
 obtain⟨h3,t3⟩:=h2.e7 di a2 (eI.trans eQ.symm)
 have a3:((L.bj.set (L.bj.length-1) s1).set (L.bj.length-1) s2)[L.bj.length-1]?=some s2:=by rw[List.set_set,List.getElem?_set,if_pos rfl,if_pos (by omega)]
 have nP:(((L.bj.set (L.bj.length-1) s1).set (L.bj.length-1) s2).map (·.ad)).Nodup:=by rw[List.set_set,w4 _ ap eI];exact hk.nd
 obtain⟨aZ,t4⟩:=h3.e7 nP a3 (mi.trans eI.symm)
 have aJ:=((cD.mono gC.le).trans t1).trans ((t2.trans t3).trans t4)
 have Ho:=h1.log.az.is.each s hm
 have c1:(Ca.ins s.ad s1.obj) s.ad=some s1.obj:=aS _ _ _
 have c2:((Ca.ins s.ad s1.obj).ins s1.ad s2.obj) s.ad=some s2.obj:=by rw[eQ];exact aS _ _ _
 have tc:(sG.n:Int)=16+x.size:=by omega
 obtain⟨CG,eD⟩:∃CG:dy,CG={L with bj:=L.bj.set (L.bj.length-1) {s with len:=s.len+(16+x.size),next:=s.next+1,qG:=true}}:=⟨_,rfl⟩
 have Na:({L with bj:=((L.bj.set (L.bj.length-1) s1).set (L.bj.length-1) s2).set (L.bj.length-1) j7}:dy)=CG:=by rw[eD,List.set_set,List.set_set,cq,ar,aO,tc]
 have ahc:=Na▸aZ
 rw[<-eD] at ai
 have fM:=ae _ _ CG _ ahc aJ ai eD
 have cJ:s1.next=s.next:=by rw[aO]
 rw[eI,eQ] at fM
 rw[eQ] at c2
 refine⟨_,rfl,_,fI.c Ho 3,⟨by omega,by omega⟩,_,rfl,_,_,Ho,rfl,by first|(show(4:Nat)<=5;decide)|simp[Addr.add],by simp[Value.oneCell'],?_⟩
 generalize kr:H.ins Ca _ _=v1
 obtain rfl:v1=Ca.ins s.ad s1.obj:=kr.symm.trans (by subst aO;rfl)
 refine⟨_,rfl,_,by have:=fI.c (s:=s1) (u:=Ca.ins s.ad s1.obj) (by rw[eQ];exact c1) 2;rw[eQ] at this;exact this,⟨by omega,by omega⟩,_,rfl,_,_,c1,rfl,by first|(show(3:Nat)<=5;decide)|simp[Addr.add],by simp[Value.oneCell'],?_⟩
 generalize qc:H.ins _ _ _=v2
 obtain rfl:v2=(Ca.ins s.ad s1.obj).ins s.ad s2.obj:=qc.symm.trans (by subst ar;rfl)
 refine⟨_,rfl,_,_,c2,rfl,by first|(show(5:Nat)<=5;decide)|simp[Addr.add],by simp[Value.oneCell'],?_⟩
 rw[cq] at fM
 exact fM
end dn
end
namespace dn
section
variable{L:dy}{c:Int}{Y u:H}{b:Nat}{K:Int->H->Prop}{l:List fI}{s:fI}
def aqQ:iG Tryz.prog 285=some (293,1,8,[.pointer none]):=by kernel_rfl
def ae4(n:Nat):hF Tryz.prog 285 1 #[(0,.pointer (some ⟨n,0,none⟩))]=some (293,[.pointer (some ⟨n,0,none⟩)]):=by kernel_rfl
def aa4{ab:Nat->Option aN}{fd:Nat->Option b1.aN}{T:b1.ak}{first:Int}(h:gr Y u ab fd b L T)(hk:Ok L T c)(cB:lF Y)(E:0<=c/\c<=900000)(ai:L.bj=[]∨16384<ln L.bj)(M:0<first/\first<=c+20)
  (ae:∀u' aM hq L' T' s,gr Y u' aM hq b L' T'->cD u (own ab fd) u' (own aM hq)->Ok L' T' (c+20)->L'.bj=L.bj++ [s]->s.next=first->s.len=16->L'.pD=L.pD->L'.d=L.d->K 0 u'):GU (some ⟨b,0,none⟩) first u K:=by
 have eG:=hk.short (by omega)
 have IU:=hk.seq
 have t:=h.log.az.is
 apply aup
 refine⟨_,rfl,L.seq,dy.c t.cell 4,⟨by omega,by omega⟩,aqd (by omega) (by omega) (cB.mono h.log.le) ?_⟩
 have gh:=amJ (i:=L.bj.length) (by omega)
 rw[<-IU] at gh
 have cA:((⟨(Lib.itoa (1000001+L.seq)).toArray⟩:ByteArray).size:Int)=7:=by rw[IU];unfold Lib.itoa;rw[if_neg (by omega),show(1000001+(L.bj.length:Int)).toNat=1000001+L.bj.length by omega,Vc (by omega)];rfl
 generalize ait:(⟨(Lib.itoa (1000001+L.seq)).toArray⟩:ByteArray)=dg at gh cA ⊢
 refine Sd b1.pC (by decide) (by omega) ⟨?_,λn6 na=>?_⟩
 have:(dg.extract (1:Int).toNat dg.size).size=dg.size-1:=by rw[ByteArray.size_extract];omega
 omega
 generalize av:cat _ _=v
 have eg:v=fe L.bj.length:=by rw[<-av];exact gh
 rw[eg]
 clear av eg gh
 intro G2 xR
 obtain⟨s,hs⟩:∃s:fI,s=⟨n6,fe L.bj.length,first,first,16,true⟩:=⟨_,rfl⟩
 rw[show Obj.cells #[Value.string (fe L.bj.length),.int .i64 first,.int .i64 first,.int .i64 16,.bool true] 295 (0,0)=s.obj by rw[hs];rfl]
 have b9:u.le (u.ins n6 s.obj):=bN _ na
 have df:(u.ins n6 s.obj) n6=some s.obj:=aS _ _ _
 have kN:s.ad=n6:=by rw[hs]
 have cY:s.name=fe L.bj.length:=by rw[hs]
 obtain⟨w,hw⟩:∃w,w=u.ins n6 s.obj:=⟨_,rfl⟩
 rw[<-hw] at b9 df ⊢
 have h1:=h.mono b9
 have ajI:fe L.bj.length∉T.now.map (·.1):=by rw[hk.now,hk.names];intro hm;obtain⟨i,hi,e⟩:=List.mem_map.1 hm;have nC:=List.mem_range.1 hi;have:=amL (by omega) (by omega) e;omega
 have II:T.now.length=L.bj.length:=by have:=congrArg List.length hk.now;rw[List.length_map,List.length_map] at this;exact this
 have cv:=hk.steps;have cI:=hk.db;have pr:=hk.used
 have km:w.cell? ⟨n6,0,none⟩=some (.string (fe L.bj.length)):=by have:=fI.c (s:=s) (u:=w) (by rw[kN];exact df) 0;rw[kN,cY] at this;exact this
 refine⟨_,rfl,_,dy.c h1.log.az.is.cell 0,_,km,b1.aoZ h1.ki hk.ki (by omega) (amM _) (by rw[amN];omega) (amK (by omega)) ajI (by omega) (by omega) λbE Nr n q r=>⟨λe=>absurd rfl e,λ_=>xR 0 bE ?_⟩⟩
 obtain⟨h2,t2⟩:=h1.cL r
 have f6:ab n6=none:=h.log.fresh na
 have d6:fd n6=none:=h.ki.fresh na
 have d62:Nr n6=none:=r.cL.off df d6
 have s2:bE n6=some s.obj:=r.cL.bd _ _ df d6
 have bO:n6≠b:=λe=>by rw[e,h.log.az.iV] at f6;cases f6
 obtain⟨eu,hx⟩:∃eu:dy,eu={L with dir:=true}:=⟨_,rfl⟩
 obtain⟨h3,t3⟩:=h2.obj (L':=eu) (by rw[hx]) (by rw[hx]) (by rw[hx])
 have j7:(bE.ins b eu.obj) n6=some s.obj:=by rw[aL _ _ bO];exact s2
 have r3:eu.d=L.d:=by rw[hx]
 have c2:=h2.log.az.is.cell
 have c3:=h3.log.az.is.cell
 refine⟨_,rfl,_,_,c2,rfl,by first|(show(4:Nat)<=5;decide)|simp[Addr.add],by simp[Value.oneCell'],?_⟩
 generalize kr:H.ins bE _ _=pF
 obtain rfl:pF=bE.ins b eu.obj:=kr.symm.trans (by subst hx;rfl)
 refine⟨_,rfl,_,dy.c c3 0,_,by have:=fI.c (s:=s) (u:=bE.ins b eu.obj) (by rw[kN];exact j7) 0;rw[kN] at this;exact this,apy λaod u16 Ak=>⟨Ak.le,?_⟩⟩
 have V7:=h3.mono Ak.le
 rw[cY]
 have hu:=b1.arp r.ok
 refine b1.Kh (e:=(fe L.bj.length,n)) V7.ki r.ok (by show T.steps+1<=_;omega) (List.mem_append_right _ (.head _)) Ak.own.bR (λe=>by have:=Oz first;rw[e] at this;cases this) (by rw[hu,Oz];show _<=T.room;rw[hk.room];omega) λqq Ns f JV W1 hf iw=>⟨λe=>absurd rfl e,λ_=>?_⟩
 obtain⟨aZ,t4⟩:=V7.cL iw
 have d64:Ns n6=none:=iw.cL.off (Ak.le _ _ j7) d62
 have FH:qq n6=some s.obj:=iw.cL.bd _ _ (Ak.le _ _ j7) d62
 obtain⟨ia,kj⟩:∃ia:dy,ia={eu with seq:=L.seq+1}:=⟨_,rfl⟩
 obtain⟨bJ,t5⟩:=aZ.obj (L':=ia) (by rw[kj]) (by rw[kj]) (by rw[kj])
 have qm:(qq.ins b ia.obj) n6=some s.obj:=by rw[aL _ _ bO];exact FH
 have c4:=aZ.log.az.is.cell
 have c5:=bJ.log.az.is.cell
 have mw:ia.bD=L.bD:=by rw[kj,hx]
 have PV:ia.bj=L.bj:=by rw[kj,hx]
 have ac:L.bD.n=L.bj.length:=fx th (by decide) t.kV.bR
 have g4:=dy.c c4 4
 rw[hx] at g4 c4
 refine⟨_,rfl,L.seq,g4,⟨by omega,by omega⟩,_,rfl,_,_,c4,rfl,by first|(show(5:Nat)<=5;decide)|simp[Addr.add],by simp[Value.oneCell'],?_⟩
 generalize qc:H.ins qq _ _=ara
 obtain rfl:ara=qq.ins b ia.obj:=qc.symm.trans (by subst kj;subst hx;rfl)
 have lW:=bJ.log.az.is.kV
 rw[mw,PV] at lW
 refine⟨_,rfl,L.bD,by rw[<-mw];exact dy.c c5 1,rn aqQ (ae4 n6) (by decide) rfl (by simp[Value.oneCell']) lW.f (by omega) (by omega) λcz z ay wI cQ ee XU=>?_⟩
 have aP:z b=some ia.obj:=cQ _ _ c5 λe=>by have:=bJ.log.az.dZ b (by rw[mw];exact e);rw[bJ.log.az.iV] at this;cases this
 have A1:cD u (own ab fd) (qq.ins b ia.obj) (own ab Ns):=((((cD.mono b9).trans t2).trans t3).trans (cD.mono Ak.le)).trans (t4.trans t5)
 have AV:aE sV z 293 1 cz ((ia.bj++ [s]).flatMap tg):=by
  rw[PV,List.flatMap_append];have:[s].flatMap tg=[Value.pointer (some ⟨n6,0,none⟩)]:=by simp[tg,kN]
  rw[this];exact ay
 obtain⟨xo,v8⟩:∃xo:dy,xo={ia with bD:=cz,bj:=L.bj++ [s]}:=⟨_,rfl⟩
 obtain⟨o8,e0,t6⟩:=bJ.push (L':=xo) A1 (s:=s) (by rw[kN];exact na) (by rw[kN];exact qm) (by rw[kN];exact f6) (by rw[kN];exact d64) (by rw[kN];exact h.log.le.none na) AV (λx o I ah=>cQ x o I (by rw[<-mw];exact ah)) (λg N=>by rw[mw];exact ee g N) (by rw[v8]) (by rw[v8]) (by rw[v8,PV])
 have Ez:s.ad∉L.bj.map (·.ad):=λhm=>by obtain⟨y,af,e⟩:=List.mem_map.1 hm;have:=t.each y af;have dz:y.ad=s.ad:=e;rw[dz,kN,na] at this;cases this
 have bL:Ok xo {T.new (fe L.bj.length) n q with ci:=b1.ix (T.new (fe L.bj.length) n q).ci {f with b:=JV,xs:=f.xs++r5 first},steps:=(T.new (fe L.bj.length) n q).steps+1} (c+20):=by have:=hk.begin (q:=cz) (d:=true) (s:=s) (m:=n) (T':={T.new (fe L.bj.length) n q with ci:=b1.ix (T.new (fe L.bj.length) n q).ci {f with b:=JV,xs:=f.xs++r5 first},steps:=(T.new (fe L.bj.length) n q).steps+1}) E.1 ai (by rw[hs];exact⟨rfl,M.1,M.2⟩) Ez cY iw.ok rfl (by show T.steps+1+1=_;omega) (by show(T.db++ [_]).length=_;simp) (by have e:=b1.KW r.ok (e:=(fe L.bj.length,n)) (List.mem_append_right _ (.head _)) W1 hf (g:={f with b:=JV,xs:=f.xs++r5 first}) rfl;show b1.ak.used {T.new (fe L.bj.length) n q with ci:=b1.ix (T.new (fe L.bj.length) n q).ci {f with b:=JV,xs:=f.xs++r5 first}}=_;rw[e,hu];simp only[List.length_append,Oz];omega) (by rw[cY];rfl);rw[v8,kj,hx];exact this
 have W2:=ae _ _ _ _ _ s e0 t6 bL (by rw[v8]) (by rw[hs]) (by rw[hs]) (by rw[v8,kj,hx]) (by rw[v8,kj,hx])
 have Vb:=aP
 rw[kj,hx] at Vb
 refine⟨_,rfl,_,_,Vb,rfl,by first|(show(2:Nat)<=5;decide)|simp[Addr.add],by simp[Value.oneCell'],?_⟩
 rw[v8,kj,hx] at W2
 exact W2
def Ok.le{T:b1.ak}{c':Int}(h:Ok L T c)(E:c<=c'):Ok L T c':=
 ⟨h.ki,h.room,by have:=h.steps;omega,by have:=h.db;omega,by have:=h.used;omega,h.nd,by have:=h.iH;omega,λs hs=>by have:=h.each s hs;omega,h.names,h.seq,h.now⟩
def QX(h:l.getLast?=some s):j3 l=s.next-1:=by unfold j3;rw[h]
def alN(h:l.getLast?=some s):ln l=s.len:=by unfold ln;rw[h]
def gr.last{ab:Nat->Option aN}{fd:Nat->Option b1.aN}{T:b1.ak}(h:gr Y u ab fd b L T)(hk:Ok L T c)(E:c<=1000000)(ae:K (j3 L.bj) u):vD (some ⟨b,0,none⟩) u K:=
 ao1 h.log.az.is (λs hs=>by have:=hk.each s hs;omega) (by have:=hk.short E;omega) ae
def Kh{ab:Nat->Option aN}{fd:Nat->Option b1.aN}{T:b1.ak}{x:ByteArray}{K:Int->Int->H->Prop}(h:gr Y u ab fd b L T)(hk:Ok L T c)(cB:lF Y)(E:0<=c/\c<=800000)(ah:L.bj≠[])(I:x.size<=300)
  (ae:∀u' aM hq L' T',gr Y u' aM hq b L' T'->cD u (own ab fd) u' (own aM hq)->Ok L' T' (c+340)->L'.bj≠[]->j3 L'.bj=j3 L.bj+1->L'.pD=L.pD->L'.d=L.d->K (j3 L.bj+1) 0 u'):Me (some ⟨b,0,none⟩) x u K:=by
 obtain⟨s,hs⟩:∃s,L.bj.getLast?=some s:=⟨_,List.getLast?_eq_some_getLast ah⟩
 have t:=h.log.az.is
 have ap:=Jr hs
 have hm:=List.mem_of_getLast? hs
 have ac:L.bD.n=L.bj.length:=fx th (by decide) t.kV.bR
 have eG:=hk.short (by omega)
 have mu:0<L.bj.length:=List.length_pos_of_mem hm
 have lg:=hk.each s hm
 have qV:=QX hs
 obtain⟨p,aa,fT⟩:=bb.elem th (by decide) t.kV.bR (i:=((L.bD.n:Int)-1).toNat) (x:=s) (by rw[<-ap];congr 1;omega)
 apply aum
 refine⟨λe=>(by cases e),λ_=>⟨λbh=>absurd bh (by omega),λ_=>h.last hk (by omega) ⟨⟨by omega,by omega⟩,λjs hc=>?_⟩⟩⟩
 have fin:∀{aI:H} {cX:Nat->Option aN} {qL:Nat->Option b1.aN} {eu:dy} {a6:b1.ak} {s1:fI} {c1:Int},gr Y aI cX qL b eu a6->cD u (own ab fd) aI (own cX qL)->Ok eu a6 c1->c1<=c+20->eu.bj.getLast?=some s1->s1.next=s.next->eu.pD=L.pD->eu.d=L.d->
   Cy (some ⟨b,0,none⟩) (j3 L.bj+1) x aI λky hC=>(¬ky=0->K 0 ky hC)/\(ky=0->K (j3 L.bj+1) 0 hC):=by
  intro aI cX qL eu a6 s1 c1 i1 t1 cv iR df Pv akv aj
  refine w6 i1 cv df (by omega) I λbE Nr ia fB i2 t2 cI ar=>⟨λe=>absurd rfl e,λ_=>ae _ _ _ _ _ i2 (t1.trans t2) (cI.le (by omega)) ?_ ?_ (by rw[ar];exact akv) (by rw[ar];exact aj)⟩
  .rw[ar];intro e;have:=QY (s':={s1 with len:=s1.len+(16+x.size),next:=s1.next+1,qG:=true}) df;have dz:eu.bj.set (eu.bj.length-1) {s1 with len:=s1.len+(16+x.size),next:=s1.next+1,qG:=true}=[]:=e;rw[dz] at this;cases this
  .have:=QX (QY (s':={s1 with len:=s1.len+(16+x.size),next:=s1.next+1,qG:=true}) df);rw[ar];show j3 (eu.bj.set _ _)=_;rw[this,qV];dsimp only;omega
 refine⟨_,rfl,_,rfl,L.bD,dy.c t.cell 1,L.bD,dy.c t.cell 1,⟨by omega,by omega⟩,p,aa,⟨by omega,by omega⟩,_,fT 0 _ rfl,_,rfl,_,fI.c (t.each s hm) 3,λuS=>?_,λ_=>hc 0 0 u (fin h (cD.mono (H.le.refl u)) hk (by omega) hs rfl rfl rfl)⟩
 refine aa4 h hk cB (by omega) (.inr (by rw[alN hs];exact uS)) (by omega) λaI cX qL eu a6 s1 i1 t1 cv aO ar _ eD e6=>⟨λe=>absurd rfl e,λ_=>hc 0 0 aI (fin i1 t1 cv (by omega) (by rw[aO];exact List.getLast?_concat) (by omega) eD e6)⟩
def hX(s:fI):fI:={s with qG:=false}
def MV(l:List fI):j3 (l.map hX)=j3 l/\ln (l.map hX)=ln l:=by unfold j3 ln;rw[List.getLast?_map];cases l.getLast?<;>exact⟨rfl,rfl⟩
def afB{β:Type}(f:fI->β)(M:∀s,f (hX s)=f s)(l:List fI)(i:Nat):((l.take i).map hX++l.drop i).map f=l.map f:=by rw[List.map_append,List.map_map,show f∘hX=f from funext M,<-List.map_append,List.take_append_drop]
def afC{i:Nat}(h:l[i]?=some s):((l.take i).map hX++l.drop i).set i (hX s)=(l.take (i+1)).map hX++l.drop (i+1)/\((l.take i).map hX++l.drop i)[i]?=some s:=by
 obtain⟨hi,hs⟩:=List.getElem?_eq_some_iff.1 h;have ai:((l.take i).map hX).length=i:=by rw[List.length_map,List.length_take];omega
 have aj:l.drop i=s::l.drop (i+1):=by rw[List.drop_eq_getElem_cons hi,hs]
 constructor;rw[List.set_append_right _ _ (by omega),ai,Nat.sub_self,aj,List.set_cons_zero,List.take_succ_eq_append_getElem hi,hs,List.map_append];simp;rw[List.getElem?_append_right (by omega),ai,Nat.sub_self,aj];rfl
def Ok.hX{L':dy}{T T':b1.ak}(h:Ok L T c)(aO:L'.bj=L.bj.map hX)(ar:L'.seq=L.seq)(t1:b1.dj T')(t2:T'.room=T.room)(t3:T'.steps<=T.steps+64)(t4:T'.db.length<=T.db.length)(t5:T'.used=T.used)(t6:T'.now=T.now):Ok L' T' (c+100):=by
 have h1:=h.steps;have h2:=h.db;have h3:=h.used;have aZ:=h.iH;have hm:∀{β:Type} (f:fI->β),(∀s,f (dn.hX s)=f s)->(L.bj.map dn.hX).map f=L.bj.map f:=λf M=>by rw[List.map_map,show f∘dn.hX=f from funext M]
 refine⟨t1,t2.trans h.room,by omega,by omega,by omega,?_,?_,λx I=>?_,?_,?_,?_⟩;rw[aO,hm _ λ_=>rfl];exact h.nd;rw[aO,(MV _).2,List.length_map];omega;rw[aO] at I;obtain⟨y,af,rfl⟩:=List.mem_map.1 I;have:=h.each y af;unfold dn.hX;dsimp only;omega;rw[aO,hm _ λ_=>rfl,List.length_map];exact h.names;rw[aO,ar,List.length_map];exact h.seq;rw[aO,hm _ λ_=>rfl,t6];exact h.now
def zc{ab:Nat->Option aN}{fd:Nat->Option b1.aN}{T:b1.ak}(h:gr Y u ab fd b L T)(hk:Ok L T c)(E:0<=c/\c<=900000)
  (ae:∀u' hq L' T',gr Y u' ab hq b L' T'->cD u (own ab fd) u' (own ab hq)->Ok L' T' (c+100)->L'.bj=L.bj.map hX->L'.pD=j3 L.bj->L'.d=L.d->K 0 u'):zA (some ⟨b,0,none⟩) u K:=by
 have t:=h.log.az.is
 have ac:L.bD.n=L.bj.length:=fx th (by decide) t.kV.bR
 have eG:=hk.short (by omega)
 have ks:=hk.steps
 let an (i:Nat) (w:H) (hq:Nat->Option b1.aN) (T':b1.ak):Prop:=gr Y w ab hq b {L with bj:=(L.bj.take i).map hX++L.bj.drop i} T'/\cD u (own ab fd) w (own ab hq)/\b1.dj T'/\T'.room=T.room/\T'.steps<=T.steps+i/\T'.db=T.db/\T'.used=T.used/\T'.now=T.now
 apply auo
 refine⟨λe=>(by cases e),λ_=>⟨_,rfl,L.bD,dy.c t.cell 1,λ_ i w=>0<=i/\i<=L.bj.length/\∃hq T',an i.toNat w hq T',λ_ i _=>((L.bj.length:Int)-i).toNat,⟨by omega,by omega,fd,T,?_⟩,?_⟩⟩
 exact⟨h,cD.mono (H.le.refl u),hk.ki,rfl,by simp,rfl,rfl,rfl⟩
 rintro fy i w ⟨i0,i1,hq,T',bQ,aJ,U,W,dc,wi,sg,dp⟩
 have iy:=bQ.log.az.is
 refine⟨λbh=>?_,λhg=>?_⟩
 have dC:i.toNat<L.bj.length:=by omega
 have lg:=List.getElem?_eq_getElem dC
 generalize L.bj[i.toNat]=s at lg
 have hm:=List.mem_of_getElem? lg
 obtain⟨cC,cz⟩:=afC lg
 have ov:s∈(L.bj.take i.toNat).map hX++L.bj.drop i.toNat:=List.mem_of_getElem? cz
 obtain⟨p,aa,fT⟩:=bb.elem th (by decide) iy.kV.bR (i:=i.toNat) (x:=s) cz
 have cs:=iy.each s ov
 have nx:(i+1).toNat=i.toNat+1:=by omega
 refine⟨p,aa,⟨i0,bh⟩,_,fT 0 _ rfl,_,rfl,_,fI.c cs 4,λaj=>⟨⟨by omega,by omega⟩,⟨by omega,by omega,hq,T',?_⟩,by dsimp only;omega⟩,λaj=>?_⟩
 have e:hX s=s:=by
   have:s.qG=false:=by simpa using aj
   unfold hX;cases s;simp only at this;rw[this]
 have ar:(L.bj.take i.toNat).map hX++L.bj.drop i.toNat=(L.bj.take (i+1).toNat).map hX++L.bj.drop (i+1).toNat:=by rw[nx,<-cC,e];refine List.ext_getElem? λj=>?_;rw[List.getElem?_set];by_cases td:i.toNat=j;subst td;rw[if_pos rfl,cz,if_pos (List.getElem?_eq_some_iff.1 cz).1];rw[if_neg td]
 refine⟨by rw[<-ar];exact bQ,aJ,U,W,by omega,wi,sg,dp⟩
 obtain⟨⟨Rk,bO⟩,he,OD⟩:=List.mem_map.1 (show s.name∈T'.now.map (·.1) by rw[dp,hk.now];exact List.mem_map.2 ⟨s,hm,rfl⟩)
 have OE:Rk=s.name:=OD
 subst OE
 refine⟨_,rfl,_,rfl,_,dy.c iy.cell 0,_,fI.c cs 0,?_⟩
 refine b1.zc (e:=(s.name,bO)) bQ.ki U (by omega) he λaI f M hf r=>⟨λe=>absurd rfl e,λ_=>?_⟩
 obtain⟨h1,t1⟩:=bQ.cL r
 have bX:(((L.bj.take i.toNat).map hX++L.bj.drop i.toNat).map (·.ad)).Nodup:=by rw[afB _ λ_=>rfl];exact hk.nd
 obtain⟨h2,t2⟩:=h1.e7 (s':=hX s) bX cz rfl
 have c1:=h1.log.az.is.each s ov
 refine⟨_,rfl,_,_,c1,rfl,by first|(show(5:Nat)<=5;decide)|simp[Addr.add],by simp[Value.oneCell'],⟨by omega,by omega⟩,⟨by omega,by omega,hq,{T' with ci:=b1.ix T'.ci {f with safe:=f.b.n},steps:=T'.steps+1},?_⟩,by dsimp only;omega⟩
 have akL:=b1.KW U he M hf (g:={f with safe:=f.b.n}) rfl
 refine⟨?_,(aJ.trans t1).trans t2,r.ok,W,?_,wi,?_,dp⟩
 rw[nx,<-cC];exact h2
 show T'.steps+1<=_;omega
 show b1.ak.used {T' with ci:=b1.ix T'.ci {f with safe:=f.b.n}}=_
 rw[akL,sg]
 show T.used+((f.xs.length:Int)-f.xs.length)=_
 omega
 have ep:(L.bj.take i.toNat).map hX++L.bj.drop i.toNat=L.bj.map hX:=by rw[List.take_of_length_le (by omega),List.drop_eq_nil_of_le (by omega),List.append_nil]
 rw[ep] at bQ iy
 intro adT ahz
 have fin:∀{aI:H} {qL:Nat->Option b1.aN} {eu:dy} {a6:b1.ak},gr Y aI ab qL b eu a6->cD u (own ab fd) aI (own ab qL)->eu.bj=L.bj.map hX->eu.seq=L.seq->eu.d=L.d->b1.dj a6->a6.room=T.room->a6.steps<=T.steps+64->a6.db.length<=T.db.length->a6.used=T.used->a6.now=T.now->adT fy aI:=by
  intro aI qL eu a6 i1 t1 aO ar cq O a2 a3 a4 a5 n4;refine ahz fy aI ?_;have jB:Ok eu a6 (c+100):=hk.hX aO ar O a2 a3 a4 a5 n4;refine i1.last jB (by omega) ?_;have qV:j3 eu.bj=j3 L.bj:=by rw[aO];exact(MV _).1
  obtain⟨ia,kj⟩:∃ia:dy,ia={eu with pD:=j3 eu.bj}:=⟨_,rfl⟩;obtain⟨i2,t2⟩:=i1.obj (L':=ia) (by rw[kj]) (by rw[kj]) (by rw[kj]);have fM:=ae _ _ _ _ i2 (t1.trans t2) (by rw[kj];exact⟨jB.ki,jB.room,jB.steps,jB.db,jB.used,jB.nd,jB.iH,jB.each,jB.names,jB.seq,jB.now⟩) (by rw[kj];exact aO) (by rw[kj];exact qV) (by rw[kj];exact cq);refine⟨_,rfl,_,_,i1.log.az.is.cell,rfl,by first|(show(3:Nat)<=5;decide)|simp[Addr.add],by simp[Value.oneCell'],?_⟩;rw[kj] at fM;exact fM
 refine⟨_,rfl,L.dir,dy.c iy.cell 3,λaj=>⟨_,rfl,_,dy.c iy.cell 0,b1.apd bQ.ki U (by omega) λaI qL m r=>⟨λe=>absurd rfl e,λ_=>?_⟩⟩,λaj=>fin bQ aJ rfl rfl rfl U W (by omega) (by rw[wi];exact Nat.le_refl _) sg dp⟩
 obtain⟨h1,t1⟩:=bQ.cL r
 obtain⟨eu,hx⟩:∃eu:dy,eu={L with bj:=L.bj.map hX,dir:=false}:=⟨_,rfl⟩
 obtain⟨h2,t2⟩:=h1.obj (L':=eu) (by rw[hx]) (by rw[hx]) (by rw[hx])
 have c1:=h1.log.az.is.cell
 refine⟨_,rfl,_,_,c1,rfl,by first|(show(4:Nat)<=5;decide)|simp[Addr.add],by simp[Value.oneCell'],?_⟩
 generalize kr:H.ins aI _ _=v1
 obtain rfl:v1=aI.ins b eu.obj:=kr.symm.trans (by subst hx;rfl)
 exact fin h2 ((aJ.trans t1).trans t2) (by rw[hx]) (by rw[hx]) (by rw[hx]) r.ok W (by show T'.steps+1<=_;omega) (by show(0:Nat)<=_;omega) sg dp
def apZ{ab:Nat->Option aN}{fd:Nat->Option b1.aN}{T:b1.ak}(h:gr Y u ab fd b L T)(hk:Ok L T c)(cB:lF Y)(E:0<=c/\c<=800000)(h0:L.bj=[])
  (ae:∀u' aM hq L' T',gr Y u' aM hq b L' T'->cD u (own ab fd) u' (own aM hq)->Ok L' T' (c+300)->L'.bj≠[]->j3 L'.bj=0->L'.d=L.d->K 0 u'):Mf (some ⟨b,0,none⟩) ⟨none,0,0⟩ ⟨none,0,0⟩ false u K:=by
 have t:=h.log.az.is
 apply aur
 obtain⟨eu,hx⟩:∃eu:dy,eu={L with dir:=true}:=⟨_,rfl⟩
 obtain⟨h1,t1⟩:=h.obj (L':=eu) (by rw[hx]) (by rw[hx]) (by rw[hx])
 have cv:Ok eu T c:=by rw[hx];exact⟨hk.ki,hk.room,hk.steps,hk.db,hk.used,hk.nd,hk.iH,hk.each,hk.names,hk.seq,hk.now⟩
 have d1:eu.d=L.d:=by rw[hx]
 have g1:eu.bj=[]:=by rw[hx];exact h0
 refine⟨_,rfl,_,_,t.cell,rfl,by first|(show(4:Nat)<=5;decide)|simp[Addr.add],by simp[Value.oneCell'],?_⟩
 generalize kr:H.ins u _ _=v1
 obtain rfl:v1=u.ins b eu.obj:=kr.symm.trans (by subst hx;rfl)
 refine⟨λ_ i w=>i=0/\w=u.ins b eu.obj,λ_ _ _=>0,⟨rfl,rfl⟩,?_⟩
 rintro fy _ _ ⟨rfl,rfl⟩
 refine⟨λe=>absurd e (by decide),λ_=>zc h1 cv (by omega) λbE Nr ia fB h2 t2 cI aO ar cq=>⟨λe=>absurd rfl e,λ_=>⟨λe=>(by cases e),λ_=>?_⟩⟩⟩
 have g2:ia.bj=[]:=by rw[aO,g1];rfl
 have bz:j3 ia.bj=0:=by rw[g2];rfl
 refine h2.last cI (by omega) ?_
 rw[bz]
 refine⟨⟨by decide,by decide⟩,λava ahx=>?_⟩
 have di:ia.bD.n=0:=by have:=fx th (by decide) h2.log.az.is.kV.bR;rw[this,g2];rfl
 refine⟨_,rfl,ia.bD,dy.c h2.log.az.is.cell 1,λave ahC=>⟨λaa=>absurd aa (by omega),λ_=>ahC false bE ⟨λe=>(by cases e),λ_=>ahx none 1 ⟨none,0,0⟩ bE ?_⟩⟩⟩
 refine aa4 h2 cI cB (by omega) (.inl g2) (by omega) λdm mj avH xo s3 s h3 t3 pr eD e6 ob tc rW=>⟨λe=>absurd rfl e,λ_=>?_⟩
 refine⟨λ_ i w=>i=0/\w=dm,λ_ _ _=>0,⟨rfl,rfl⟩,?_⟩
 rintro _ _ _ ⟨rfl,rfl⟩
 refine⟨λe=>absurd e (by decide),λ_ avd _=>zc h3 pr (by omega) λh6 Ns CG avi aZ t4 vc f1 f2 f3=>⟨λe=>absurd rfl e,λ_=>⟨λ_=>?_,λe=>absurd rfl e⟩⟩⟩
 refine ae _ _ _ _ _ aZ (((t1.trans t2).trans t3).trans t4) (vc.le (by omega)) ?_ ?_ (by rw[f3,rW,cq,d1])
 rw[f1,eD,g2];simp
 rw[f1,(MV _).1,eD,g2]
 show j3 [s]=0
 rw[QX (s:=s) rfl];omega
def FY{fd:Nat->Option b1.aN}{d:Nat}{T:b1.ak}{K:Option Addr->J->Int->H->Prop}(h:b1.In Y u fd d T)(aJ:b1.dj T)(cB:lF Y)(h1:T.now=[])(h2:T.db=[])(h3:T.steps=0)(aZ:T.room=4194304)
  (ae:∀u' aM hq b L' T',gr Y u' aM hq b L' T'->cD u (λc=>fd c≠none) u' (own aM hq)->Ok L' T' 400->L'.bj≠[]->j3 L'.bj=0->L'.pD=0->L'.d=d->K (some ⟨b,0,none⟩) ⟨none,0,0⟩ 0 u'):Mg (some ⟨d,0,none⟩) u K:=by
 apply aus
 refine⟨λe=>(by cases e),λ_=>b1.aa1 h.az.cell ⟨λe=>(by cases e),λ_ di ef nP pj=>?_⟩⟩
 obtain⟨L,cE⟩:∃L:dy,L=⟨d,⟨none,0,0⟩,[],0,false,0⟩:=⟨_,rfl⟩
 have dH:Obj.cells #[Value.pointer (some ⟨d,0,none⟩),.slice none 0 0,.int .i64 0,.bool false,.int .i64 0] 287 (0,0)=L.obj:=by rw[cE];rfl
 rw[dH] at pj ⊢
 have b9:=bN (u:=u) (b:=di) L.obj ef
 obtain⟨wV,nG⟩:∃wV,wV=Obj.cells #[Value.slice none 0 0] 228 (0,0):=⟨_,rfl⟩
 have cZ:=bN (u:=u.ins di L.obj) (b:=nP) wV pj
 rw[<-nG]
 have hw:=h.mono b1.bd (b9.trans cZ)
 refine b1.ao2 hw.az h1 λFH dN yN AY=>?_
 have c2:dN di=some L.obj:=yN _ _ (cZ _ _ (aS _ _ _))
 have c3:dN nP=some wV:=yN _ _ (aS _ _ _)
 have Q0:u.le dN:=(b9.trans cZ).trans yN
 have f2:fd di=none:=h.fresh ef
 have bQ:gr Y dN (λc=>if c=di then some .log else none) fd di L T:=by
  refine⟨⟨⟨⟨c2,?_,λs hs=>?_⟩,if_pos rfl,λg N=>?_,λs hs=>?_⟩,h.le.trans Q0,λc E=>?_,λc E=>?_⟩,by rw[cE];exact h.mono b1.bd Q0,λc E=>?_⟩;rw[cE];exact .nil _ _ _;rw[cE] at hs;cases hs;rw[cE] at N;cases N;rw[cE] at hs;cases hs
  all_goals
   obtain rfl:c=di:=by by_cases e:c=di;exact e;exact absurd (if_neg e) E
  exact h.le.none ef;rw[c2];simp;exact f2
 have hk:Ok L T 100:=by
  have hu:T.used=0:=by unfold b1.ak.used;rw[h1];rfl
  rw[cE];refine⟨aJ,aZ,by omega,by rw[h2];decide,by omega,.nil,by show(0:Int)*16384+0<=_;omega,λs hs=>(by cases hs),rfl,rfl,by rw[h1];rfl⟩
 have t5:cD u (λc=>fd c≠none) dN (own (λc=>if c=di then some .log else none) fd):=by
  refine⟨λc o E _=>Q0 c o E,λc E=>?_⟩;rcases E with E|E;obtain rfl:c=di:=by by_cases e:c=di;exact e;exact absurd (if_neg e) E
  exact .inr ef;exact .inl E
 refine⟨λ_ _ _ vn UD nT i w=>i=0/\w=dN/\vn=⟨none,0,0⟩/\UD=false/\nT=⟨none,0,0⟩,λ_ _ _ _ _ _ _ _=>0,⟨rfl,rfl,rfl,rfl,rfl⟩,?_⟩
 rintro axl j8 Te vn UD nT _ _ ⟨rfl,rfl,af2,rfl,af4⟩
 refine⟨λe=>absurd e (by omega),λ_=>⟨⟨none,0,0⟩,by rw[nG] at c3;exact aV c3 0,?_⟩⟩
 have af3:vn=⟨none,0,0⟩:=af2
 have af5:nT=⟨none,0,0⟩:=af4
 subst af3 af5
 refine apZ bQ hk cB (by decide) (by rw[cE]) λh7 o8 pR G3 Ur e0 t6 nM g1 g2 g3=>⟨λe=>absurd rfl e,λ_=>e0.last nM (by decide) ?_⟩
 rw[g2]
 obtain⟨Mv,uM⟩:∃Mv:dy,Mv={G3 with pD:=0}:=⟨_,rfl⟩
 obtain⟨gC,t7⟩:=e0.obj (L':=Mv) (by rw[uM]) (by rw[uM]) (by rw[uM])
 have fM:=ae _ _ _ _ _ _ gC ((t5.trans t6).trans t7) (by rw[uM];exact⟨nM.ki,nM.room,nM.steps,nM.db,nM.used,nM.nd,nM.iH,nM.each,nM.names,nM.seq,nM.now⟩) (by rw[uM];exact g1) (by rw[uM];exact g2) (by rw[uM]) (by rw[uM,g3,cE])
 refine⟨_,_,e0.log.az.is.cell,rfl,by first|(show(3:Nat)<=5;decide)|simp[Addr.add],by simp[Value.oneCell'],?_⟩
 rw[uM] at fM
 exact fM
end
end dn
namespace qv
section
variable{u:H}{s:J}
def aeS(x:Int):hF Tryz.prog 183 1 #[(0,.int .u8 x)]=some (5,[.int .u8 x]):=by kernel_rfl
def kR:Int->Nat->List Int
 |_,0=>[]|v,n+1=>IntKind.wrap .u8 v::kR (Int.fdiv v (2 ^ 8)) n
def ve:∀(n:Nat) (v:Int),(kR v n).length=n
 |0,_=>rfl|n+1,v=>by show(kR _ n).length+1=_;rw[ve n]
def w6{Y:H}{xs:List Int}{v n:Int}{K:J->H->Prop}(h:aE Y u 5 1 s (xs.flatMap gN))(ai:xs.length<=100000)(ac:0<=n/\n<=8)(ae:∀s' u',aE Y u' 5 1 s' ((xs++kR v n.toNat).flatMap gN)->K s' u'):zm s v n u K:=by
 apply arI;refine⟨λs2 x i w=>0<=i/\i<=n/\∃cM,aE Y w 5 1 s2 ((xs++cM).flatMap gN)/\(cM.length:Int)=i/\cM++kR x (n-i).toNat=kR v n.toNat,λ_ _ i _=>(n-i).toNat,⟨by omega,ac.1,[],by rw[List.append_nil];exact h,rfl,by simp⟩,?_⟩;rintro s2 x i w ⟨i0,i1,cM,U,af,he⟩;have cY:=kz.len U.own.bR;rw[List.length_append] at cY;refine⟨λbh=>?_,λhg=>ae _ _ ?_⟩;refine rn CZ (aeS _) (by decide) rfl (by simp[Value.oneCell']) U (by omega) (by omega) λq z ay _ _ _ _=>⟨by decide,⟨by omega,by omega⟩,⟨by omega,by omega,cM++ [IntKind.wrap .u8 x],?_,by simp;omega,?_⟩,by dsimp only;omega⟩;rw[<-List.append_assoc,List.flatMap_append];exact ay;rw[<-he,List.append_assoc];congr 1;rw[show(n-i).toNat=(n-(i+1)).toNat+1 by omega];rfl;rw[show(n-i).toNat=0 by omega] at he;have eY:cM=kR v n.toNat:=by rw[<-he];simp[kR]
 rw[<-eY];exact U
def apP{k id:Int}{v:List Int}{K:Int->H->Prop}(hs:Ints u s v)(hk:(k=1/\fV v v.length=0)∨(k=2/\v=[]))(hid:1<=id/\id<=1000000000)(h:K 0 u):Lh k id s u K:=by have ac:=hs.len;apply arJ;have inner:∀{jF:Bool->H->Prop},(jF false u)->(∀sW:Bool->H->Prop,sW false u->(id<1->sW true u)/\(¬id<1->sW (decide ((1000000000:Int)<id)) u)):=λ_ sW h3=>⟨λe=>absurd e (by omega),λ_=>by rw[decide_eq_false (by omega)];exact h3⟩;intro jF hv;have fin:jF false u:=hv false u ⟨λe=>(by cases e),λ_ sW H7=>⟨λe=>absurd e (by omega),λ_=>by rw[decide_eq_false (by omega)];refine H7 false u ⟨λe=>(by cases e),λ_=>⟨λh1=>?_,λh1=>?_⟩⟩;rcases hk with⟨_,av⟩|⟨h2,_⟩;refine pA hs ?_;rw[ac,av];exact h;omega;rcases hk with⟨h2,_⟩|⟨_,av⟩;exact absurd h2 h1;rw[av] at ac;exact⟨λbh=>absurd bh (by rw[ac];simp),λ_=>h⟩⟩⟩;refine⟨λh1=>?_,λ_=>fin⟩;rcases hk with⟨h2,_⟩|⟨h2,_⟩;exact absurd h2 h1;rw[h2];exact fin
def zX(k id:Int)(v:List Int):List Int:=(kR k 1++kR id 4++if k=1 then kR v.length 1 else[])++v.flatMap λx=>kR x 4
def Y6(v:List Int):(v.flatMap λx=>kR x 4).length=v.length*4:=by
 induction v with
 |nil=>rfl|cons x v aG=>rw[List.flatMap_cons,List.length_append,aG,ve,List.length_cons];omega
def U4(k id:Int)(v:List Int):(zX k id v).length<=6+v.length*4:=by unfold zX;simp only[List.length_append,Y6,ve];split<;>simp[ve]<;>omega
def ao5{k id:Int}{v:List Int}{K:ByteArray->Int->H->Prop}(hs:Ints u s v)(hk:(k=1/\fV v v.length=0)∨(k=2/\v=[]))(hid:1<=id/\id<=1000000000)(ai:v.length<=64)(h:∀u',u.le u'->K (ru (zX k id v)) 0 u'):Lf k id s u K:=by
 have ac:=hs.len;apply arG;refine apP hs hk hid ⟨λe=>absurd rfl e,λ_=>?_⟩;refine w6 (xs:=[]) (aE.nil (H.le.refl u) _ _) (by simp) (by decide) λs1 aI h1=>⟨h1.le,w6 h1 (by rw[List.length_append,ve];simp) (by decide) λs2 bE h2=>?_⟩;intro js hc;obtain⟨B,b4⟩:∃B:List Int,B=kR k 1++kR id 4++if k=1 then kR v.length 1 else[]:=⟨_,rfl⟩;have avU:B.length<=6:=by rw[b4];simp only[List.length_append,ve];split<;>simp[ve]
 have go:∀{j7:J} {dm:H},aE u dm 5 1 j7 (B.flatMap gN)->js j7 dm:=by
  intro j7 dm h3;refine hc j7 dm ⟨λg i w=>0<=i/\i<=v.length/\aE u w 5 1 g ((B++(v.take i.toNat).flatMap λx=>kR x 4).flatMap gN),λ_ i _=>((v.length:Int)-i).toNat,⟨by omega,by omega,by simpa using h3⟩,?_⟩;rintro g i w ⟨i0,i1,hw⟩;refine⟨λbh=>?_,λhg=>?_⟩;obtain⟨p,aa,E⟩:=(hs.mono hw.le).at i0 bh;have dC:i.toNat<v.length:=by omega
  have I:v.getD i.toNat 0=v[i.toNat]:=by rw[List.getD_eq_getElem?_getD,List.getElem?_eq_getElem dC];rfl
  refine⟨p,aa,⟨i0,bh⟩,_,E,w6 hw ?_ (by decide) λFH h6 aZ=>⟨⟨by omega,by omega⟩,⟨by omega,by omega,?_⟩,by dsimp only;omega⟩⟩;rw[List.length_append,Y6,List.length_take];omega;have e:B++((v.take (i+1).toNat).flatMap λx=>kR x 4)=(B++(v.take i.toNat).flatMap λx=>kR x 4)++kR (v.getD i.toNat 0) 4:=by rw[show(i+1).toNat=i.toNat+1 by omega,List.take_succ_eq_append_getElem dC,List.flatMap_append,I];simp
  rw[e];exact aZ;rw[List.take_of_length_le (by omega)] at hw;refine aaB b1.SS b1.pC b1.SR hw.own.bR ?_;have e:B++(v.flatMap λx=>kR x 4)=zX k id v:=by rw[b4];rfl
  rw[e];exact h _ hw.le
 refine⟨λh1=>w6 h2 (by rw[List.length_append,List.length_append,ve,ve];simp) (by decide) λj7 dm h3=>go ?_,λh1=>go ?_⟩;rw[b4,if_pos h1,<-ac];exact h3;rw[b4,if_neg h1,List.append_nil];exact h2
end
end qv
namespace ns
section
variable{d:Int}{u:H}
open pO (du od l1 sy gJ rZ)
def ZM(v:List Int)(n i:Nat):List Int:=(v.drop (i*n)).take n
def avp(x:Int):hF Tryz.prog 23 1 #[(0,.int .i64 x)]=some (3,[.int .i64 x]):=by kernel_rfl
def Vx(c:J×List (J×List Int)):(encS c.1).length=1:=rfl
def rD.len{ab:Nat->Option aN}{k:zB}(h:rD ab u d k):k.ga.n=k.jt.length:=fx Vx (by decide) h.bD
def rD.at{ab:Nat->Option aN}{k:zB}(h:rD ab u d k){x:Int}(h0:0<=x)(h1:x<(k.ga.n:Int)):∃p,k.ga.a=some p/\∃c,k.jt[x.toNat]?=some c/\c∈k.jt/\u.cell? (p.add (x.toNat*1))=some (.slice c.1.a c.1.n c.1.c):=by
 have ac:=h.len;have ai:x.toNat<k.jt.length:=by omega
 have I:k.jt[x.toNat]?=some k.jt[x.toNat]:=List.getElem?_eq_getElem ai;obtain⟨p,aa,E⟩:=bb.elem Vx (by decide) h.bD I;exact⟨p,aa,_,I,List.getElem_mem ai,E 0 _ rfl⟩
def rD.mono{ab:Nat->Option aN}{u':H}{k:zB}(h:rD ab u d k)(hu:u.le u'):rD ab u' d k:=h.bd (λ_ h=>h) λc o E _=>hu c o E
theorem amb{id:Int}{v:List Int}{there:Bool}{many:Int}(h:hA id v d there many=0):1<=id/\id<=1000000000/\fV v d=0/\(there=false->many<512):=by
 unfold hA at h
 grind
structure zJ(Y u:H)(ab:Nat->Option aN)(b:Nat)(T:ak)(id:Int)(v:List Int)(u':H)(aM:Nat->Option aN)(T':ak):Prop where
 is:In Y u' aM b T'
 cL:gu u ab u' aM
 ok:dj T'
 rows:(b7 T').Perm ((id,v)::(b7 T).filter λx=>x.1 !=id)
 ao:T'.ao=T.ao
 avu:T'.s7.isSome=T.s7.isSome
end
end ns
namespace an
section
variable{u Y:H}{b:Nat}{c:Int}{K:Int->H->Prop}
open pO (du od l1 sy gJ rZ)
def abQ:iG Tryz.prog 92=some (98,3,40,[.int .i64 0,.int .i64 0,.slice none 0 0]):=by kernel_rfl
def MI(k id:Int)(s:J):hF Tryz.prog 92 1 #[(0,.agg #[.int .i64 k,.int .i64 id,.slice s.a s.n s.c])]=some (98,[.int .i64 k,.int .i64 id,.slice s.a s.n s.c]):=by kernel_rfl
def Sn{f:Nat->Option aN}{T:ak}{L:dn.dy}(h:At Y u f b T L c)(hk:Ok T c)(E:c<=1000000)(ae:K (T.first+T.cs.n) u):Cw (some ⟨b,0,none⟩) u K:=by have:=hk.first;apply atz;exact⟨λe=>(by cases e),λ_=>⟨_,rfl,_,rfl,_,ak.c h.cell 4,T.cs,ak.c h.cell 6,⟨by omega,by omega⟩,ae⟩⟩
def Ki{f:Nat->Option aN}{T:ak}{L:dn.dy}(h:At Y u f b T L c)(ae:K (rowsOf T).length u):LY (some ⟨b,0,none⟩) u K:=by apply atv;refine⟨λe=>(by cases e),λ_=>⟨_,rfl,_,ak.c h.cell 3,sH gJ h.map ?_⟩⟩;rw[show(du T.w).length=(rowsOf T).length by simp[du,rowsOf]];exact ae
def ao9{f:Nat->Option aN}{T:ak}{L:dn.dy}(h:At Y u f b T L c)(ae:K T.safe u):L1 (some ⟨b,0,none⟩) u K:=by apply aty;exact⟨λe=>(by cases e),λ_=>⟨_,rfl,_,ak.c h.cell 5,ae⟩⟩
def Sm{f:Nat->Option aN}{T:ak}{L:dn.dy}{id:Int}{K:J->Int->H->Prop}(h:At Y u f b T L c)(hk:Ok T c)(dp:id∉(rowsOf T).map (·.1)->K ⟨none,0,0⟩ 190 u)
  (jM:∀v,(id,v)∈rowsOf T->∀s u',aE u u' 3 1 s (v.flatMap encI)->K s 0 u'):GM (some ⟨b,0,none⟩) id u K:=by
 apply atu
 refine⟨λe=>(by cases e),λ_=>⟨_,rfl,_,ak.c h.cell 3,?_⟩⟩
 rcases od T.w id with⟨N,hm⟩|⟨e,he,hid,N⟩
 refine mE gJ h.map (ct:=.slice) (⟨none,0,0⟩:J) (by rw[N];rfl) ?_
 rw[N]
 exact⟨λ_=>dp (by rw[E1];exact hm),λe=>(by cases e)⟩
 refine mE gJ h.map (ct:=.slice) e.2.1 (by rw[N];rfl) ?_
 rw[N]
 obtain⟨h1,h2⟩:=h.vec e he
 have ac:=h1.len
 have h3:=(hk.vec e he).1
 have:=hk.ii
 refine⟨λar=>absurd rfl ar,λ_=>rq h1 (by omega) λs u' U _=>jM e.2.2 (List.mem_map.2 ⟨e,he,by rw[hid]⟩) s u' U⟩
def aos{n:Nat}{K:J->H->Prop}(ae:K ⟨some ⟨n,0,none⟩,8,8⟩ u):cx Tryz.prog (Instr.sliceAt 319 (.pointer (some ⟨n,0,none⟩)) none none none) [.one .slice] u K:=
 .rf (c:=.slice) ⟨some ⟨n,0,none⟩,8,8⟩ (λw _=>by kernel_rfl) ae
def w6{n:Int}{K:ByteArray->H->Prop}(ae:∀t u',u.le u'->t.size=8->K t u'):L3 n u K:=by
 apply atD;intro g N;refine⟨λc d=>0<=c/\c<=8/\∃xs:List Int,xs.length=8/\d=u.ins g (.cells (xs.map (Value.int .u8)).toArray 319 (0,0)),λc _=>(8-c).toNat,⟨by omega,by omega,[0,0,0,0,0,0,0,0],rfl,rfl⟩,?_⟩;rintro c d ⟨c0,avs,xs,I,rfl⟩;refine⟨λbh=>⟨⟨by omega,by omega⟩,by omega,by decide,⟨c0,bh⟩,?_⟩,λhg=>?_⟩;rw[show aR (am g) c 1=⟨g,c.toNat,none⟩ by simp[Addr.add_lit]];refine⟨_,_,aS _ _ _,rfl,by simp[I];omega,by simp[Value.oneCell'],⟨by omega,by omega⟩,⟨by omega,by omega,?_⟩,by dsimp only;omega⟩;generalize aP:IntKind.wrap .u8 _=z;refine⟨xs.set c.toNat z,by rw[List.length_set];exact I,?_⟩;rw[yJ];congr 2;show(List.toArray _).setIfInBounds _ _=_;rw[List.map_set];simp;refine aos ?_;have Z:kz (u.ins g (.cells (xs.map (Value.int .u8)).toArray 319 (0,0))) ⟨some ⟨g,0,none⟩,8,8⟩ xs:=by refine⟨by rw[rX,List.length_map,I];rfl,Nat.le_refl _,by show(8:Nat)<=_;omega,.inr ⟨_,rfl,λi v hi=>?_⟩⟩;rw[rX] at hi;rw[Addr.add_lit,Nat.zero_add,Hr];simpa using hi
 exact aaB b1.SS b1.pC b1.SR Z (ae _ _ (bN _ N) (by rw[SG,I]))
def aa6{sN:H}{f:Nat->Option aN}{D0:Nat->Prop}{T:ak}{L:dn.dy}{k id:Int}{s:J}{v:List Int}{K:Int->Int->H->Prop}(h:At Y u f b T L c)(hk:Ok T c)(cB:lF Y)(E:0<=c/\c<=700000)(h0:cD sN D0 u λx=>f x≠none)(hs:Ints u s v)
  (av:∀g,s.ad=some g->f g=none/\Y g=none/\u g≠none/\sN g=none) (wi:(k=1/\fV v v.length=0)∨(k=2/\v=[])) (hid:1<=id/\id<=1000000000) (ai:v.length<=64)
  (ae:∀u' bl L' q aw,At Y u' bl b {T with w:=aw,cs:=q} L' (c+340)->(cD sN D0 u' λx=>bl x≠none)->q.n=T.cs.n+1->aw=(if k=2 then T.w.filter (λe=>e.1 !=id) else ns.sI T.w id (s,v))->L'.pD=L.pD->K (T.first+T.cs.n+1) 0 u'):GO (some ⟨b,0,none⟩) k id s u K:=by
 have M:=hk.first
 apply atB
 refine qv.ao5 hs wi hid ai λaI b9=>⟨λe=>absurd rfl e,λ_=>?_⟩
 have O:=h.mono b9
 refine Sn O hk (by omega) ⟨⟨by omega,by omega⟩,_,rfl,_,ak.c O.cell 2,w6 λt bE cZ ht=>⟨cZ,?_,?_⟩⟩
 have:=SG (qv.zX k id v)
 have:=qv.U4 k id v
 omega
 have a2:=O.mono cZ
 obtain⟨ab,fd,ad9,fb,bQ,hO,aj,ah⟩:=a2.log.ex
 have cA:(cat t (ru (qv.zX k id v))).size<=300:=by unfold cat;rw[ByteArray.size_append,ht,SG];have:=qv.U4 k id v;omega
 refine dn.Kh bQ hO cB (by omega) ah cA λdm aM hq L' T' i3 t3 pr nP aw8 aqK d3=>⟨λe=>absurd rfl e,λ_=>?_⟩
 have NP:part f .log=dn.own ab fd:=funext λx=>propext (fb x)
 obtain⟨f3,a3,abO⟩:=a2.cL (D':=dn.own aM hq) (L':=L') (c':=c+340) (by rw[NP];exact t3) ⟨aM,hq,T',λ_=>Iff.rfl,i3,pr,d3.trans aj,nP⟩
 have II:∀g,s.ad=some g->¬dn.own ab fd g:=λg N I=>by have:f g=some .log:=(fb g).2 I;rw[(av g N).1] at this;cases this
 have so:=b9.trans cZ
 have j7:Ints dm s v:=bb.else (hs.mono so) λg o N U=>t3.bd g o U (II g N)
 have v3:∀g,s.ad=some g->f3 g=none/\Y g=none/\dm g≠none:=λg N=>by obtain⟨cJ,c8,eC,fy⟩:=av g N;obtain⟨o,U⟩:=Option.ne_none_iff_exists'.1 eC;have dD:=so _ _ U;refine⟨Classical.byContradiction λe=>?_,c8,by rw[t3.bd g o dD (II g N)];simp⟩;rcases abO.grow g e with ar|ar;exact ar cJ;rw[ar] at dD;cases dD
 have s3:cD sN D0 dm λx=>f3 x≠none:=(h0.trans (cD.mono so)).trans abO
 obtain⟨aw,jm⟩:∃aw,aw=if k=2 then T.w.filter (λe=>e.1 !=id) else ns.sI T.w id (s,v):=⟨_,rfl⟩
 have go:∀o,dI (dm.ins T.m o) T.m (du aw)->aD (some (⟨b,0,none⟩:Addr)) λn=>bg (dm.ins T.m o) (n.add 6) λbn=>sm (Instr.buildSlice 92 1 #[(0,Value.agg #[ag k,ag id,vs s])]) aW (dm.ins T.m o) λ(p:J) q=>H.le (dm.ins T.m o) q/\sm (Builtin.append_ #[92,92] 92 #[vs bn,vs p]) aW q λ(r:J) s=>aD (some (⟨b,0,none⟩:Addr)) λt=>H.an s (t.add 6) [vs r] λv=>K (T.first+T.cs.n+1) 0 v:=by
  intro o hm;obtain⟨f4,a4,t4⟩:=a3.put hm v3 (s:=s) (by intro e he;rw[jm] at he;split at he;exact .inl (List.mem_filter.1 he).1;rcases ns.Sh he with rfl|⟨he,_⟩;exact .inr ⟨rfl,j7⟩;exact .inl he) s3 λg N=>(av g N).2.2.2
  obtain⟨nn,ll⟩:=a4.db;have Az:T.cs.n<=1000000:=by omega
  refine⟨_,rfl,T.cs,ak.c a4.cell 6,vp abQ (MI k id s) (by decide) rfl (by simp[Value.oneCell']) ll.f (by show T.cs.n<_;omega) (by show(T.cs.n+1)*40<=_;omega) λq z ay wI cQ ee XU=>?_⟩;obtain⟨f5,a5,t5⟩:=a4.afA (T:={T with w:=aw}) ay.own cQ ee;have aP:z b=some (ak.obj {T with w:=aw}):=cQ _ _ a4.cell λe=>by have:=a4.gM b e;rw[a4.fU] at this;cases this
  have fM:=ae _ _ _ q aw a5 (t4.trans t5) wI jm aqK;refine⟨_,rfl,_,_,aP,rfl,by first|(show(7:Nat)<=7;decide)|simp[Addr.add],by simp[Value.oneCell'],?_⟩;exact fM
 apply atC
 refine⟨λh2=>⟨_,rfl,_,ak.c a3.cell 3,B0 gJ a3.map λo hm=>?_⟩,λh2=>⟨_,rfl,_,ak.c a3.cell 3,aoA gJ a3.map λo hm=>?_⟩⟩
 exact go o (by rw[jm,if_pos h2];rw[rZ] at hm;exact hm)
 exact go o (by rw[jm,if_neg h2];rw[ns.agj _ _ _ v] at hm;exact hm)
end
section
variable{Y u:H}{b:Nat}{c:Int}
open pO (du od l1 sy gJ rZ)
structure rI(Y u:H)(f:Nat->Option aN)(b:Nat)(T:ak)(c:Int)(P:List (Int×List Int))(u':H)(bl:Nat->Option aN)(T':ak)(L':dn.dy):Prop where
 is:At Y u' bl b T' L' (c+340)
 cL:cD u (λx=>f x≠none) u' λx=>bl x≠none
 ok:Ok T' (c+340)
 rows:(rowsOf T').Perm P
 ao:T'.ao=T.ao
 seq:T'.first+T'.cs.n=T.first+T.cs.n+1
def JU(e:Int):Int:=if e=2 then 191 else e
theorem zb{f:Nat->Option aN}{T:ak}{L:dn.dy}{id:Int}{s:J}{q:List Int}{K:Int->Int->H->Prop}(h:At Y u f b T L c)(hk:Ok T c)(cB:lF Y)(E:0<=c/\c<=700000)(hs:Ints u s q)
  (dT:hA id q T.ao (decide (id∈(rowsOf T).map (·.1))) (rowsOf T).length≠0->K 0 (JU (hA id q T.ao (decide (id∈(rowsOf T).map (·.1))) (rowsOf T).length)) u)
  (bL:hA id q T.ao (decide (id∈(rowsOf T).map (·.1))) (rowsOf T).length=0->∀u' bl T' L',rI Y u f b T c ((id,q)::(rowsOf T).filter λx=>x.1 !=id) u' bl T' L'->K (T.first+T.cs.n+1) 0 u'):LZ (some ⟨b,0,none⟩) id s u K:=by
 have ai:(du T.w).length=(rowsOf T).length:=by simp[du,rowsOf]
 have gk:(eF (du T.w) id).isSome=decide (id∈(rowsOf T).map (·.1)):=by
  rw[E1];rcases od T.w id with⟨N,hm⟩|⟨e,he,hid,N⟩
  grind
  grind
 obtain⟨y,af⟩:∃y:J,(eF (du T.w) id).getD (.slice none 0 0)=al.slice.enc y:=by rcases od T.w id with⟨N,hm⟩|⟨e,he,hid,N⟩;exact⟨⟨none,0,0⟩,by rw[N];rfl⟩;exact⟨e.2.1,by rw[N];rfl⟩
 apply atw
 refine⟨λe=>(by cases e),λ_=>⟨_,rfl,_,ak.c h.cell 3,mE gJ h.map (ct:=.slice) y af ?_⟩⟩
 rw[gk]
 refine⟨_,rfl,_,rfl,_,ak.c h.cell 0,_,ak.c h.cell 3,sH gJ h.map ⟨H.le.refl u,Kq hs ?_⟩⟩
 rw[ai]
 refine⟨λhe=>?_,λah=>⟨λh2=>(by have:=dT ah;rw[h2] at this;exact this),λh2=>(by have:=dT ah;unfold JU at this;rw[if_neg h2] at this;exact this)⟩⟩
 have bL:=bL he
 obtain⟨i1,i2,av,Xv⟩:=ns.amb he
 obtain⟨d1,d2,d3,d4⟩:=rz av
 have wI:=hs.len
 refine rq hs (by omega) λs' u' U _=>⟨U.le,?_⟩
 have wM:fV q q.length=0:=by rw[d3];exact av
 refine aa6 (h.mono U.le) hk cB E (cD.mono U.le) U.ints (λg N=>?_) (.inl ⟨rfl,wM⟩) ⟨i1,i2⟩ (by omega) λbE f2 ia rU ea a2 t2 di ar _=>bL bE f2 _ ia ⟨a2,t2,⟨hk.ii,λe he=>?_,λe he=>?_,?_,?_⟩,?_,rfl,?_⟩
 have oq:=U.fresh g N
 refine⟨Classical.byContradiction λe=>h.own.known g e oq,h.own.le.none oq,?_,oq⟩
 rcases U.own.is with h0|⟨bS,s8,ap,cH,_⟩
 rw[h0] at N;cases N
 have ar:some bS=some g:=by unfold J.ad at N;rw[ap] at N;exact N
 rw[<-Option.some.inj ar,cH];simp
 all_goals rw[if_neg (by decide)] at ar
 rw[ar] at he
 rcases ns.Sh he with rfl|⟨he,_⟩
 exact⟨i1,i2⟩
 exact hk.ids e he
 rw[ar] at he
 rcases ns.Sh he with rfl|⟨he,_⟩
 exact⟨d3,d4⟩
 exact hk.vec e he
 have fc:=hk.small
 show ea.length<=512
 rw[ar]
 by_cases e:id∈T.w.map (·.1)
 rw[(ns.aaM _ _ _).1 e];exact fc
 have:=Xv (decide_eq_false (by rw[E1];exact e))
 rw[(ns.aaM _ _ _).2 e]
 unfold rowsOf at this
 rw[List.length_map] at this
 omega
 have:=hk.first
 show 0<=T.first/\T.first+(rU.n:Int)<=_
 omega
 show(ea.map λe=>(e.1,e.2.2)).Perm _
 rw[ar]
 refine((ns.aoI h.zk).map _).trans ?_
 rw[List.map_cons]
 unfold rowsOf
 rw[List.filter_map]
 exact List.Perm.refl _
 show T.first+(rU.n:Int)=_
 omega
def vt{f:Nat->Option aN}{T:ak}{L:dn.dy}{id:Int}{K:Int->Int->H->Prop}(h:At Y u f b T L c)(hk:Ok T c)(cB:lF Y)(E:0<=c/\c<=700000)
  (dp:id∉(rowsOf T).map (·.1)->K 0 190 u) (jM:id∈(rowsOf T).map (·.1)->∀u' bl T' L',rI Y u f b T c ((rowsOf T).filter λx=>x.1 !=id) u' bl T' L'->K (T.first+T.cs.n+1) 0 u'):LX (some ⟨b,0,none⟩) id u K:=by
 apply att
 rw[E1] at dp jM
 rcases od T.w id with⟨N,hm⟩|⟨e,he,hid,N⟩
 refine⟨λe=>(by cases e),λ_=>⟨_,rfl,_,ak.c h.cell 3,mE gJ h.map (ct:=.slice) (⟨none,0,0⟩:J) (by rw[N];rfl) ?_⟩⟩
 rw[N]
 exact⟨λ_=>dp hm,λe=>(by cases e)⟩
 .refine⟨λe=>(by cases e),λ_=>⟨_,rfl,_,ak.c h.cell 3,mE gJ h.map (ct:=.slice) e.2.1 (by rw[N];rfl) ?_⟩⟩;rw[N];refine⟨λar=>absurd rfl ar,λ_=>?_⟩;have cr:id∈T.w.map (·.1):=List.mem_map.2 ⟨e,he,hid⟩;have iS:=hk.ids e he;rw[hid] at iS;refine aa6 h hk cB E (cD.mono (H.le.refl u)) (Ints.nil u) (λg N=>by cases N) (.inr ⟨rfl,rfl⟩) iS (by simp) λbE f2 ia rU ea a2 t2 di ar _=>jM cr bE f2 _ ia ⟨a2,t2,⟨hk.ii,λe he=>?_,λe he=>?_,?_,?_⟩,?_,rfl,?_⟩
  all_goals rw[if_pos rfl] at ar
  rw[ar] at he;exact hk.ids e (List.mem_filter.1 he).1;rw[ar] at he;exact hk.vec e (List.mem_filter.1 he).1;show ea.length<=512;rw[ar];exact Nat.le_trans (List.length_filter_le _ _) hk.small;have:=hk.first;show 0<=T.first/\T.first+(rU.n:Int)<=_;omega;show(ea.map λe=>(e.1,e.2.2)).Perm ((T.w.map _).filter _);rw[ar,List.filter_map];exact List.Perm.refl _;show T.first+(rU.n:Int)=_;omega
def zc{f:Nat->Option aN}{T:ak}{L:dn.dy}{K:Int->H->Prop}(h:At Y u f b T L c)(hk:Ok T c)(E:0<=c/\c<=900000)
  (ae:∀u' bl L',At Y u' bl b {T with safe:=T.first+T.cs.n} L' (c+100)->(cD u (λx=>f x≠none) u' λx=>bl x≠none)->Ok {T with safe:=T.first+T.cs.n} (c+100)->K 0 u'):GN (some ⟨b,0,none⟩) u K:=by
 obtain⟨ab,fd,ad9,fb,bQ,hO,aj,ah⟩:=h.log.ex
 have M:=hk.first
 have cR:Ok T (c+100):=⟨hk.ii,hk.ids,hk.vec,hk.small,by omega⟩
 apply atA
 refine⟨λe=>(by cases e),λ_=>⟨_,rfl,_,ak.c h.cell 2,?_⟩⟩
 refine dn.zc bQ hO E λaI qL eu a6 i1 t1 cv g1 g2 g3=>⟨λe=>absurd rfl e,λ_=>?_⟩
 have NP:part f .log=dn.own ab fd:=funext λx=>propext (fb x)
 obtain⟨f1,O,aqL⟩:=h.cL (D':=dn.own ab qL) (L':=eu) (c':=c+100) (by rw[NP];exact t1) ⟨ab,qL,a6,λ_=>Iff.rfl,i1,cv,g3.trans aj,by rw[g1];simpa using ah⟩
 refine Sn O cR (by omega) ?_
 obtain⟨a2,t2⟩:=O.obj (T':={T with safe:=T.first+T.cs.n}) rfl rfl rfl rfl rfl
 refine⟨_,rfl,_,_,O.cell,rfl,by first|(show(6:Nat)<=7;decide)|simp[Addr.add],by simp[Value.oneCell'],?_⟩
 exact ae _ _ _ a2 (aqL.trans t2) ⟨hk.ii,hk.ids,hk.vec,hk.small,by show 0<=T.first/\T.first+(T.cs.n:Int)<=c+100;omega⟩
def Kj{f:Nat->Option aN}{T:ak}{L:dn.dy}{K:J->H->Prop}(h:At Y u f b T L c)(aJ:Ok T c)(ae:∀s ls u',rJ u u' s ls->(ls.map aT.bV).Perm (rowsOf T)->(ls.Pairwise λa b=>a.id<=b.id)->K s u'):
  L0 (some ⟨b,0,none⟩) u K:=by
 have fc:=aJ.small
 apply atx
 refine⟨λe=>(by cases e),λ_=>⟨_,rfl,_,ak.c h.cell 3,B1 gJ h.map λr o W r9=>?_⟩⟩
 have jN:=bN (u:=u) (b:=r) o W
 refine⟨λs w=>∃rw:List aT,jU w r T.m (du T.w) (rw.map λx=>(x.id,.slice x.s.a x.s.n x.s.c))/\aE u w 34 2 s (rw.flatMap cG)/\s.ad≠some r/\∀x∈rw,(x.id,(x.s,x.v))∈T.w,λs _=>1000000-s.n,
  ⟨[],r9,aE.nil jN _ _,by simp[J.ad],λx I=>(by cases I)⟩,?_⟩
 rintro s w ⟨rw,gh,U,yv,oA⟩
 have cY:s.n=rw.length:=fx fh (by decide) U.own.bR
 have qY:rw.length<=512:=by have h2:=gh.z7;rw[List.map_map] at h2;have h3:(rw.map (·.id)).length<=(T.w.map (·.1)).length:=(l1 h2 λx I=>by obtain⟨y,af,rfl⟩:=List.mem_map.1 I;exact List.mem_map.2 ⟨_,oA y af,rfl⟩).1;rw[List.length_map,List.length_map] at h3;omega
 refine BC gh (λjj=>?_) λp fq aa pk nD=>?_
 have b8:ev w s rw:=⟨U.own.bR,λx I=>((h.vec _ (oA x I)).1).mono U.le⟩
 have wG:(rw.map aT.bV).Perm (rowsOf T):=by
  have bX:=gh.z7;rw[List.map_map] at bX;have hlen:=jj.length_eq;simp only[List.length_map,du] at hlen;have gH:∀x∈rw.map aT.bV,x∈rowsOf T:=λx I=>by obtain⟨y,af,rfl⟩:=List.mem_map.1 I;exact List.mem_map.2 ⟨_,oA y af,rfl⟩
  have pj:(rw.map aT.bV).Nodup:=by have:(rw.map (·.id)).Nodup:=bX;rw[show rw.map (·.id)=(rw.map aT.bV).map (·.1) by rw[List.map_map];rfl] at this;exact sy this
  exact(l1 pj gH).2 (by simp[rowsOf];omega)
 refine Kr b8 (λx I=>aJ.ids _ (oA x I)) (by omega) (λx I=>?_) λs2 ls bE og fD dh=>?_
 have k8:(x.v.length:Int)=T.ao:=(aJ.vec _ (oA x I)).1
 have:=aJ.ii
 omega
 exact ae s2 ls bE ⟨og.own.weaken U.le,λr W=>(og.inner r W).weaken U.le,og.eR,og.apart⟩ (fD.trans wG) dh
 obtain⟨e,he,PD⟩:=List.mem_map.1 aa
 subst PD
 refine C9 nD ?_
 have dD:aE u (w.ins r fq) 34 2 s (rw.flatMap cG):=U.ES W yv fq
 refine rn nV (CY e.1 e.2.1) (by decide) rfl (by simp[Value.oneCell']) dD (by show s.n<_;omega) (by show(s.n+1)*_<=_;omega) λs' u' bG im eY ee _=>⟨⟨rw++ [⟨e.1,e.2.1,e.2.2⟩],?_,?_,λar=>?_,λx I=>?_⟩,?_⟩
 rw[List.map_append]
 refine nD.else (λbn nG=>eY _ _ nG λcq=>?_) λbn nG=>eY _ _ nG yv
 have:=U.fresh _ cq
 exact h.own.known T.m (by rw[h.dq];simp) this
 rw[List.flatMap_append];exact bG
 rcases ee r ar with aZ|aZ
 exact yv aZ
 rw[aS] at aZ;cases aZ
 rcases List.mem_append.1 I with I|I
 exact oA x I
 obtain rfl:=List.mem_singleton.1 I
 exact he
 show 1000000-s'.n<1000000-s.n
 omega
end
end an
def DE:Code->Bool
 | .seq a b| .cond _ a b=>DE a ||DE b| .block _ b| .loop b| .scope b=>DE b| .region _ ops _=>ops.any λo=>match o.op with| .defer _=>true|_=>false
 |_=>false
def RP:Code->Code
 | .seq a b=>match DE b with
  |true=>RP b|false=>match DE a with
   |true=>b|false=>.seq a b
 |c=>c
def agh(K:H->Prop):Exit->an->H->Prop
 | .normal,s,u=>match s.ta with
  |none=>K u|some _=>False
 | .ret,s,u=>match s.ta with
  |none=>K u|some _=>False
 |_,_,_=>False
def Um[k1](P:Program)(c:Code)(n:Nat)(env:List (Nat×eb))(u:H)(K:H->Prop):Prop:=
 ∀a w,a.tmps.size=n->(∀p∈env,∃v,fa [] p.2=some v/\a.tmps[p.1]?=some v)->a.defers=k1.ds->Sub u w->
  c.wp P (λe b3 aw=>(e=.normal∨e=.ret)/\b3.defers=k1.ds/\(∀d,eM (dS c) d=false->b3.tmps[d]?=a.tmps[d]?)/\∃u',K u'/\Step u [] w u' [] aw) a w
def anW[k1]{C:iB}(dW:Good C)(fs:List (Nat×mb)){c:Code}(E:FF c=true){n:Nat}{env:List (Nat×eb)}{u:H}{K:H->Prop}
  (h:e9 C fs c 1 (λ_=>true) (agh K) {n:=n,env:=env,loc:=[]} u):Um C.P c n env u K:=by
 intro a w ac r7 aj hw
 have M:Fits {n:=n,env:=env,loc:=[]} [] u a w:=⟨⟨aj,ac,r7⟩,rfl,by simp,by simp,by simp,hw⟩
 refine Code.wp_mono ?_ (U6 dW fs c (.inl E) 1 _ _ _ u h [] a w M)
 rintro e b3 aw ⟨ah,s',u',cd,ay,b5,hs,hk,ap⟩
 have fin:(match s'.ta with
  |none=>K u'|some _=>False)->b3.defers=k1.ds/\K u':=λay=>by
  split at ay;rename_i e;exact⟨by rw[b5.defers,e];rfl,ay⟩;exact ay.elim
 cases e with
 |normal=>obtain⟨h1,h2⟩:=fin ay;exact⟨.inl rfl,h1,ap,u',h2,hs.forget⟩
 |ret=>obtain⟨h1,h2⟩:=fin ay;exact⟨.inr rfl,h1,ap,u',h2,hs.forget⟩
 |exit id=>exact ay.elim
 |goto l=>exact ay.elim
 |panic c=>exact absurd rfl (ah c)
 |outgrown=>exact ay.elim
def atE(a0:Int)(u:H)(K:Q)(h:bt (a0=0) False (K u)):uq a0 u K:=aB [] Tryz.func86 [] h
def TX(a0:aX)(O:Int)(a2 a3:Addr)(u:H)(K:Q):Prop:=∀B:k1,@Um B Tryz.prog (RP (Tryz.f51.body.getD .skip)) 162 [(0,.v (aC a0)),(1,.v (ag O)),(4,.ptr a2),(5,.ptr a3)] u K
def ats(a0:aX)(O:Int)(a2 a3:Addr)(u:H)(K:Q)(h:mz (λa=>sm (Instr.makeMap 141 none) [aF.one al.map] a λ(b:Option Nat)c=>c6 c λd=>H.an (c.ins d (Obj.cells #[ag O,aC a0,aC none,Value.map b,ag 0,ag 0,vs a8] 143 (0,0))) a2 [aC (some (am d))] λe=>Gs a0 (ByteArray.mk #[UInt8.ofBitVec (BitVec.ofFin (Fin.mk 115 (Nat.mod_lt 115 (BitVec.ofNat._proof_1 8)))),UInt8.ofBitVec (BitVec.ofFin (Fin.mk 110 (Nat.mod_lt 110 (BitVec.ofNat._proof_1 8)))),UInt8.ofBitVec (BitVec.ofFin (Fin.mk 97 (Nat.mod_lt 97 (BitVec.ofNat._proof_1 8)))),UInt8.ofBitVec (BitVec.ofFin (Fin.mk 112 (Nat.mod_lt 112 (BitVec.ofNat._proof_1 8)))),UInt8.ofBitVec (BitVec.ofFin (Fin.mk 46 (Nat.mod_lt 46 (BitVec.ofNat._proof_1 8)))),UInt8.ofBitVec (BitVec.ofFin (Fin.mk 110 (Nat.mod_lt 110 (BitVec.ofNat._proof_1 8)))),UInt8.ofBitVec (BitVec.ofFin (Fin.mk 111 (Nat.mod_lt 111 (BitVec.ofNat._proof_1 8)))),UInt8.ofBitVec (BitVec.ofFin (Fin.mk 119 (Nat.mod_lt 119 (BitVec.ofNat._proof_1 8))))]) e λf g i=>H.an i a3 [ag g] λj=>mz (λk=>Mg a0 k λl m n o=>H.an o a3 [ag n] λp=>a1 p a3 λq=>uq q p λr=>ca r a2 λs=>aD s λt=>H.an r (t.add 2) [aC l] λv=>fO Int 0 v λw x y=>aA (x<(m.n:Int)) (bc m x λz=>a1 y (aR z x 2) λ_=>∃bw:ByteArray,H.cell? y ((aR z x 2).add 1)=some (Value.string bw)/\TY bw y λbM bI bP=>ca bP a2 λb2=>aD b2 λcm=>a1 bP (cm.add 4) λcp=>aA (bM<=cp) (ba (x+1)/\w (x+1) bP) (ac9 bI bP λcU cg cV bq aK=>mz (λdR=>ca dR a2 λdB=>L2 dB cU cg cV dR λeo=>ca eo a2 λeH=>aD eH λgA=>H.an eo (gA.add 4) [ag bM] λiF=>ba (x+1)/\w (x+1) iF) λdR=>bt (bq=0) (uq 192 aK λdB=>dR dB) (ca aK a2 λdB=>aD dB λeo=>a1 aK (eo.add 4) λeH=>ba (eH+1)/\bt (bM=eH+1) (uq 192 aK λgA=>dR gA) (dR aK)))) (ca y a2 λz=>ca y a2 λbw=>aD bw λbM=>a1 y (bM.add 4) λbI=>aD z λbP=>H.an y (bP.add 5) [ag bI] λb2=>ca b2 a2 λcm=>H.an b2 a2 [aC cm] λcp=>H.an cp a3 [ag 0] λcU=>K cU)) λk=>a1 j a3 λl=>aA (l=0) (ac8 f j λ_ m _ n o=>mz (λp=>TY m p λq r s=>ada r s λt v w=>mz (λx=>ca x a2 λy=>aD y λz=>H.an x (z.add 4) [ag q] λbw=>fO Int 0 bw λbM bI bP=>aA (bI<(t.n:Int)) (bc t bI λb2=>a1 bP (aR b2 bI 2) λcm=>bg bP ((aR b2 bI 2).add 1) λcp=>ca bP a2 λcU=>aD cU λcg=>dQ bP (cg.add 3) λcV=>sm (unit (Instr.mapUpdate 141 (Value.map cV) (ag cm) (vs cp))) [] bP λbq=>ba (bI+1)/\bM (bI+1) bq) (k bP)) λx=>bt (v=0) (uq 192 w λy=>x y) (xe t O w λy z=>bt (y=0) (uq 192 z λbw=>x bw) (x z))) λp=>bt (n=0) (uq 192 o λq=>p q) (p o)) (a1 j a3 λm=>bt (m=172) (a1 j a3 λn=>uq n j λo=>k o) (k j))) λa=>aA (a0=none) (H.an u a2 [aC none] λb=>H.an b a3 [ag 3] λc=>K c) (aA (O<1) (H.an u a2 [aC none] λb=>H.an b a3 [ag 30] λc=>K c) (aA ((64:Int)<O) (H.an u a2 [aC none] λb=>H.an b a3 [ag 30] λc=>K c) (a u)))):TX a0 O a2 a3 u K:=λ_=>anW (C:={P:=Tryz.prog,exp:=[39],wrap:=false,gB:=gB,lN:=[],l2:=[]}) (lP _ _) [aK 1 [],aK 15 [],aK 2042 [(113,bA)],aK 1045711 [],aK 245 [],aK 1967 [],aK 31486 [(82,bA)]] (by kernel_rfl) (Eq.mp (by kernel_rfl) h)
namespace an
section
theorem afg(p:Addr)(w:World):CallsD Tryz.prog 83 #[.pointer (some p)] .returning w λe u' aw=>e=.returned (.tuple #[])/\u'=.returning/\aw=w:=by
 refine callsD_of_wpS Tryz.func83 rfl λafM cs hu=>?_;apply wpS_seq;apply wpS_region;simp[wpOpsS,go_sem,recoverD,hu,Tryz.ntmps83,Exit.thenS];apply wpS_seq;apply wpS_region;simp[wpOpsS,go_sem];refine wpS_cond (t:=false) (by simp[Act.eval,Array.replicate]) ?_;simp only[Bool.false_eq_true,if_false];refine wpS_of_wp (wp_skip ?_);cases afM
 simp_all [bodyPostS,results,Tryz.results83]
def alw(p q:Addr)(w:World)(E:w.cell? p=some (.int .i64 0)):CallsD Tryz.prog 82 #[.pointer (some p),.pointer (some q)] .returning w λe u' aw=>u'=.returning/\(e=.returned (.tuple #[])/\aw=w):=by
 go_enter_d Tryz.func82,Tryz.ntmps82
 go_wp2
 go_end0
 exact⟨rfl,rfl⟩
def afd{P:Program}{f:FuncId}{fn:Func}{args:Array Value}{w:World}{R:Ending->World->Prop}{A B C D:Code}(M:P.funcs[f]?=some fn)(Z:fn.body=some (.seq A (.seq B (.seq C D))))
  (h:∀X,X=D->(Code.seq A (.seq B (.seq C X))).wp P (bodyPostD P fn R) {tmps:=args++Array.replicate (fn.ntmps-args.size) undef,defers:=[]} w):Calls P f args w R:=calls_of_wp_defers M Z (h D rfl)
def am2{d:Nat}{ao:Int}{u:H}{K:Option Addr->Int->H->Prop}
  (h:∀dr e3,u dr=none->e3≠dr->u e3=none->TX (some ⟨d,0,none⟩) ao ⟨dr,0,none⟩ ⟨e3,0,none⟩ ((u.ins dr (.cells #[.pointer none] 88 (0,0))).ins e3 (.cells #[.int .i64 0] 30 (0,0))) λv=>
   ∃p,v dr=some (.cells #[.pointer p] 88 (0,0))/\v e3=some (.cells #[.int .i64 0] 30 (0,0))/\K p 0 v):LW (some ⟨d,0,none⟩) ao u K:=by
 intro w hw
 refine afd (A:=.region 0 _ false) (B:=.region 1 _ false) (C:=.region 2 _ false) Tryz.func51 rfl λX lQ=>?_
 have b8:RP (Tryz.f51.body.getD .skip)=X:=by rw[lQ];kernel_rfl
 have iP:∀d:Nat,d=4∨d=5->eM (dS X) d=false:=by rw[lQ];rintro d (rfl|rfl)<;>kernel_rfl
 clear lQ
 simp only[Tryz.ntmps51,List.size_toArray,List.length_cons,List.length_nil,Nat.reduceAdd,Nat.reduceSub,Array.replicate_succ,Array.replicate_zero,List.push_toArray,List.append_toArray,List.nil_append,List.cons_append]
 go_wp2
 have s1:=Step.ra hw (Obj.cells #[.pointer none] 88 (0,0))
 have s2:=Step.ra s1.sub (Obj.cells #[.int .i64 0] 30 (0,0))
 have ac:u w.heap.size=none:=hw.none (Nat.le_refl _)
 have gF:u (w.heap.size+1)=none:=hw.none (by omega)
 have cA:(w.alloc (Obj.cells #[.pointer none] 88 (0,0))).heap.size=w.heap.size+1:=Array.size_push _
 rw[cA] at s2
 have W:=h w.heap.size (w.heap.size+1) ac (by omega) gF ⟨[{target:=.fn (.func 83) #[],args:=#[.pointer (some ⟨w.heap.size+1,0,none⟩)]},{target:=.fn (.func 82) #[.pointer (some ⟨w.heap.size+1,0,none⟩),.pointer (some ⟨w.heap.size,0,none⟩)],args:=#[]}]⟩
 rw[b8] at W
 refine Code.wp_mono ?_ (W _ _ rfl ?_ rfl s2.sub)
 rintro e b3 aw ⟨he,aj,ht,u',⟨p,aa,tH,ae⟩,hs⟩
 have t4:=(ht 4 (iP 4 (.inl rfl))).trans rfl
 have t5:=(ht 5 (iP 5 (.inr rfl))).trans rfl
 have c4:aw.cell? ⟨w.heap.size,0,none⟩=some (.pointer p):=hs.sub.cell (aV aa 0)
 have c5:aw.cell? ⟨w.heap.size+1,0,none⟩=some (.int .i64 0):=hs.sub.cell (aV tH 0)
 have ai:Leaves Tryz.prog Tryz.f51 b3.tmps (λe aw=>∃v u',e=Ending.returned v/\(∃vs,lC (eW [aF.one al.ptr,aF.one (al.int IntKind.i64)]) vs/\v=qI [aF.one al.ptr,aF.one (al.int IntKind.i64)] vs/\fr (eW [aF.one al.ptr,aF.one (al.int IntKind.i64)]) K vs λr=>r u')/\Step u [] w u' [] aw) b3.defers .returning aw:=by rw[aj];refine leaves_cons (f:=83) (args:=#[.pointer (some ⟨w.heap.size+1,0,none⟩)]) (by simp) (by simp[go_sem]) ?_;refine(afg _ _).mono ?_;rintro aO aI gq ⟨rfl,rfl,rfl⟩;refine leaves_cons (f:=82) (args:=#[.pointer (some ⟨w.heap.size+1,0,none⟩),.pointer (some ⟨w.heap.size,0,none⟩)]) (by simp[settle]) (by simp[go_sem]) ?_;refine(alw _ _ _ c5).mono ?_;rintro aO aI gq ⟨rfl,rfl,rfl⟩;refine⟨.tuple #[.pointer p,.int .i64 0],?_,_,u',rfl,⟨[.pointer p,.int .i64 0],.cons (t:=.ptr) p (.cons (t:=.int .i64) (0:Int) .nil),rfl,ae⟩,?_⟩;simp[results,Tryz.results51,t4,t5,go_sem,Result.andThen,c4,c5];exact(s1.trans s2).trans hs
 rcases he with rfl|rfl
 exact ai
 exact ai
 intro p aa
 simp only[List.mem_cons,List.not_mem_nil,or_false] at aa
 rcases aa with rfl|rfl|rfl|rfl<;>exact⟨_,rfl,rfl⟩
open pO (du od l1 sy gJ rZ)
def apQ{u:H}{K:H->Prop}(ae:K u):uq 0 u K:=by apply atE;exact⟨λe=>absurd rfl e,λ_=>ae⟩
def FY{Y u:H}{fd:Nat->Option b1.aN}{d:Nat}{T:b1.ak}{ao:Int}{K:Option Addr->Int->H->Prop}(h:b1.In Y u fd d T)(aJ:b1.dj T)(cB:lF Y)(aj:1<=ao/\ao<=64)(aO:T.now=[])(ar:T.db=[])(cq:T.steps=0)(eD:T.room=4194304)
  (ae:∀u' f b S L,At Y u' f b S L 400->(cD u (λc=>fd c≠none) u' λc=>f c≠none)->Ok S 400->rowsOf S=[]->S.ao=ao->S.first+S.cs.n=0->S.safe=0->K (some ⟨b,0,none⟩) 0 u'):LW (some ⟨d,0,none⟩) ao u K:=by
 refine am2 λdr e3 mZ wz tF=>?_
 refine ats _ _ _ _ _ _ ?_
 obtain⟨vj,XI⟩:∃vj,vj=Obj.cells #[Value.pointer none] 88 (0,0):=⟨_,rfl⟩
 obtain⟨Fl,p4⟩:∃Fl,Fl=Obj.cells #[Value.int .i64 0] 30 (0,0):=⟨_,rfl⟩
 rw[<-XI,<-p4]
 obtain⟨aI,gl⟩:∃aI,aI=(u.ins dr vj).ins e3 Fl:=⟨_,rfl⟩
 rw[<-gl]
 have b9:u.le aI:=by rw[gl];exact(bN _ mZ).trans (bN _ (by rw[aL _ _ wz];exact tF))
 have vc:aI dr=some vj:=by rw[gl,aL _ _ wz.symm,aS]
 have wO:aI e3=some Fl:=by rw[gl,aS]
 have f4:fd dr=none:=h.fresh mZ
 have f5:fd e3=none:=h.fresh tF
 intro jF hv
 refine⟨λe=>(by cases e),λ_=>⟨λI=>absurd I (by omega),λ_=>⟨λI=>absurd I (by omega),λ_=>hv aI ?_⟩⟩⟩
 refine Ka Int λm l3 hm Bw n ac=>?_
 have cZ:=bN (u:=aI) (b:=m) l3 hm
 obtain⟨on,XO⟩:∃on,on=Obj.cells #[Value.int .i64 ao,.pointer (some ⟨d,0,none⟩),.pointer none,.map (some m),.int .i64 0,.int .i64 0,.slice none 0 0] 143 (0,0):=⟨_,rfl⟩
 rw[<-XO]
 have qe:=bN (u:=aI.ins m l3) (b:=n) on ac
 obtain⟨dm,I3⟩:∃dm,dm=(aI.ins m l3).ins n on:=⟨_,rfl⟩
 have YW:dm n=some on:=by rw[I3];exact aS _ _ _
 have QU:aI.le dm:=by rw[I3];exact cZ.trans qe
 have Zq:dI dm m (du []):=by rw[I3];exact Bw.mono qe
 show H.an ((aI.ins m l3).ins n on) _ _ _
 rw[<-I3]
 have un:u n=none:=(b9.trans cZ).none ac
 have KU:u m=none:=b9.none hm
 have Ff:dr≠n:=λe=>by have:=cZ _ _ vc;rw[e,ac] at this;cases this
 have By:e3≠n:=λe=>by have:=cZ _ _ wO;rw[e,ac] at this;cases this
 have JF:dr≠m:=λe=>by rw[e,hm] at vc;cases vc
 have JG:e3≠m:=λe=>by rw[e,hm] at wO;cases wO
 have fe:n≠m:=λe=>by rw[e,aS] at ac;cases ac
 have YP:=QU _ _ vc
 rw[XI] at YP
 refine⟨_,_,YP,rfl,by first|(show(1:Nat)<=1;decide)|simp[Addr.add],by simp[Value.oneCell'],?_⟩
 obtain⟨jQ,yq⟩:∃jQ,jQ=Obj.cells #[Value.pointer (some ⟨n,0,none⟩)] 88 (0,0):=⟨_,rfl⟩
 generalize kr:H.ins dm _ _=dN
 obtain rfl:dN=dm.ins dr jQ:=kr.symm.trans (by rw[yq];rfl)
 have Bn:u.le dm:=b9.trans QU
 have WM:∀{v:H},(∀c o,dm c=some o->fd c≠none->v c=some o)->Y.le v->b1.In Y v fd d T:=λav ai=>(h.mono b1.bd Bn).same b1.bd av ai
 have fy:∀{c},fd c≠none->c≠dr:=λE e=>E (by rw[e];exact f4)
 have eJ:∀{c},fd c≠none->c≠e3:=λE e=>E (by rw[e];exact f5)
 have z4:Y dr=none:=h.le.none mZ
 have z5:Y e3=none:=h.le.none tF
 have Y3:∀{v:H},(∀c o,u c=some o->v c=some o)->Y.le v:=λav c o E=>av c o (h.le c o E)
 have v5:∀c o,u c=some o->(dm.ins dr jQ) c=some o:=λc o E=>by rw[aL _ _ λe=>by rw[e,mZ] at E;cases E];exact Bn c o E
 have d5:=WM (v:=dm.ins dr jQ) (λc o E M=>by rw[aL _ _ (fy M)];exact E) (Y3 v5)
 refine b1.ao7 d5.az (by rw[aO];simp) ?_
 have YQ:(dm.ins dr jQ) e3=some Fl:=by rw[aL _ _ wz];exact QU _ _ wO
 rw[p4] at YQ
 refine⟨_,_,YQ,rfl,by first|(show(1:Nat)<=1;decide)|simp[Addr.add],by simp[Value.oneCell'],?_⟩
 obtain⟨iv,wH⟩:∃iv:Int->Obj,iv=λx=>Obj.cells #[Value.int .i64 x] 30 (0,0):=⟨_,rfl⟩
 generalize qc:H.ins (dm.ins dr jQ) _ _=qs
 obtain rfl:qs=(dm.ins dr jQ).ins e3 (iv 172):=qc.symm.trans (by rw[wH];rfl)
 have c5:((dm.ins dr jQ).ins e3 (iv 172)).cell? ⟨e3,0,none⟩=some (.int .i64 172):=by
  have:((dm.ins dr jQ).ins e3 (iv 172)) e3=some (Obj.cells #[Value.int .i64 172] 30 (0,0)):=by rw[aS,wH]
  exact aV this 0
 have v9:∀c o,u c=some o->((dm.ins dr jQ).ins e3 (iv 172)) c=some o:=λc o E=>by rw[aL _ _ λe=>by rw[e,tF] at E;cases E];exact v5 c o E
 have d9:=WM (v:=(dm.ins dr jQ).ins e3 (iv 172)) (λc o E M=>by rw[aL _ _ (eJ M),aL _ _ (fy M)];exact E) (Y3 v9)
 intro adP ahu
 refine⟨_,c5,λe=>absurd e (by decide),λ_=>⟨_,c5,λe=>absurd rfl e,λ_=>ahu _ ?_⟩⟩
 refine dn.FY d9 aJ cB aO ar cq eD λh7 o8 pR lY G3 Ur i6 t6 nM g1 g2 g3 g4=>?_
 have stay:∀{c o},((dm.ins dr jQ).ins e3 (iv 172)) c=some o->fd c=none->h7 c=some o:=λE M=>t6.bd _ _ E λe=>e M
 have acJ:h7 e3=some (iv 172):=stay (aS _ _ _) f5
 have lA:h7 dr=some jQ:=stay (by rw[aL _ _ wz.symm,aS]) f4
 have wn:h7 n=some on:=stay (by rw[aL _ _ By.symm,aL _ _ Ff.symm];exact YW) (h.fresh un)
 have acP:dI h7 m (du []):=Zq.else λo U=>stay (by rw[aL _ _ JG.symm,aL _ _ JF.symm];exact U) (h.fresh KU)
 have alF:h7 m≠none:=by obtain⟨es,cl,bW,_⟩:=acP;rw[bW];simp
 have no:∀{c o},((dm.ins dr jQ).ins e3 (iv 172)) c=some o->fd c=none->¬dn.own o8 pR c:=λE M U=>by rcases t6.grow _ U with e|e;exact e M;rw[e] at E;cases E
 have amY:=no (c:=e3) (aS _ _ _) f5
 have amX:=no (c:=dr) (by rw[aL _ _ wz.symm,aS]) f4
 have ZG:=no (c:=n) (by rw[aL _ _ By.symm,aL _ _ Ff.symm];exact YW) (h.fresh un)
 have am0:¬dn.own o8 pR m:=by obtain⟨es,cl,bW,_⟩:=Zq;exact no (c:=m) (by rw[aL _ _ JG.symm,aL _ _ JF.symm];exact bW) (h.fresh KU)
 have acK:=acJ
 rw[wH] at acK
 refine⟨_,_,acK,rfl,by first|(show(1:Nat)<=1;decide)|simp[Addr.add],by simp[Value.oneCell'],?_⟩
 generalize EO:H.ins h7 _ _=hC
 obtain rfl:hC=h7.ins e3 (iv 0):=EO.symm.trans (by rw[wH];rfl)
 have c70:(h7.ins e3 (iv 0)).cell? ⟨e3,0,none⟩=some (.int .i64 0):=by
  have:(h7.ins e3 (iv 0)) e3=some (Obj.cells #[Value.int .i64 0] 30 (0,0)):=by rw[aS,wH]
  exact aV this 0
 have S2:(h7.ins e3 (iv 0)) dr=some jQ:=by rw[aL _ _ wz.symm];exact lA
 have auN:(h7.ins e3 (iv 0)) n=some on:=by rw[aL _ _ By.symm];exact wn
 have MR:(h7.ins e3 (iv 0)).cell? ⟨dr,0,none⟩=some (.pointer (some ⟨n,0,none⟩)):=by rw[yq] at S2;exact aV S2 0
 refine⟨_,c70,apQ ⟨_,MR,_,rfl,?_⟩⟩
 have acQ:=auN
 rw[XO] at acQ
 refine⟨_,_,acQ,rfl,by first|(show(3:Nat)<=7;decide)|simp[Addr.add],by simp[Value.oneCell'],?_⟩
 obtain⟨S,aW⟩:∃S:ak,S=⟨ao,d,lY,m,[],0,0,⟨none,0,0⟩⟩:=⟨_,rfl⟩
 generalize ak6:H.ins (h7.ins e3 (iv 0)) _ _=u8
 obtain rfl:u8=(h7.ins e3 (iv 0)).ins n S.obj:=ak6.symm.trans (by rw[aW];rfl)
 obtain⟨u8,oC⟩:∃u8,u8=(h7.ins e3 (iv 0)).ins n S.obj:=⟨_,rfl⟩
 rw[<-oC]
 have Us:u8 n=some S.obj:=by rw[oC,aS]
 have a84:u8 dr=some (Obj.cells #[Value.pointer (some ⟨n,0,none⟩)] 88 (0,0)):=by rw[oC,aL _ _ Ff,S2,yq]
 have a85:u8 e3=some (Obj.cells #[Value.int .i64 0] 30 (0,0)):=by rw[oC,aL _ _ By,aS,wH]
 have UY:u8.cell? ⟨dr,0,none⟩=some (.pointer (some ⟨n,0,none⟩)):=aV a84 0
 refine⟨λx w=>x=0/\w=u8,λ_ _=>0,⟨rfl,rfl⟩,?_⟩
 rintro b0 w ⟨rfl,rW⟩
 rw[rW]
 clear rW w
 refine⟨λe=>absurd e (by decide),λ_=>?_⟩
 have UZ:=ak.c Us 4
 have aoK:S.first=0:=by rw[aW]
 rw[aoK] at UZ
 refine⟨_,UY,_,UY,_,rfl,_,UZ,_,rfl,_,_,Us,rfl,by first|(show(6:Nat)<=7;decide)|simp[Addr.add],by simp[Value.oneCell'],?_⟩
 generalize ak7:H.ins u8 _ _=hP
 obtain rfl:hP=u8.ins n S.obj:=ak7.symm.trans (by subst aW;rfl)
 have qD:(u8.ins n S.obj) dr=some (Obj.cells #[Value.pointer (some ⟨n,0,none⟩)] 88 (0,0)):=by rw[aL _ _ Ff];exact a84
 refine⟨_,aV qD 0,_,_,qD,rfl,by first|(show(1:Nat)<=1;decide)|simp[Addr.add],by simp[Value.oneCell'],?_⟩
 generalize ak8:H.ins (u8.ins n S.obj) _ _=pF
 obtain rfl:pF=(u8.ins n S.obj).ins dr jQ:=ak8.symm.trans (by rw[yq];rfl)
 have vR:((u8.ins n S.obj).ins dr jQ) e3=some (Obj.cells #[Value.int .i64 0] 30 (0,0)):=by rw[aL _ _ wz,aL _ _ By];exact a85
 refine⟨_,_,vR,rfl,by first|(show(1:Nat)<=1;decide)|simp[Addr.add],by simp[Value.oneCell'],?_⟩
 generalize ak9:H.ins ((u8.ins n S.obj).ins dr jQ) _ _=v
 obtain rfl:v=((u8.ins n S.obj).ins dr jQ).ins e3 (iv 0):=ak9.symm.trans (by rw[wH];rfl)
 obtain⟨v,av⟩:∃v,v=((u8.ins n S.obj).ins dr jQ).ins e3 (iv 0):=⟨_,rfl⟩
 rw[<-av]
 have Gg:∀c,c≠n->c≠dr->c≠e3->v c=h7 c:=λc cJ c8 eC=>by rw[av,aL _ _ eC,aL _ _ c8,aL _ _ cJ,oC,aL _ _ cJ,aL _ _ eC]
 have acH:v n=some S.obj:=by rw[av,aL _ _ By.symm,aL _ _ Ff.symm,aS]
 have v4:v dr=some (Obj.cells #[Value.pointer (some ⟨n,0,none⟩)] 88 (0,0)):=by rw[av,aL _ _ wz.symm,aS,yq]
 have art:v e3=some (Obj.cells #[Value.int .i64 0] 30 (0,0)):=by rw[av,aS,wH]
 have acI:∀c o,h7 c=some o->dn.own o8 pR c->v c=some o:=λc o E U=>by rw[Gg c (λe=>ZG (e▸U)) (λe=>amX (e▸U)) (λe=>amY (e▸U))];exact E
 have mB:Y.le v:=λc o E=>by have:=h.le c o E;rw[Gg c (λe=>by rw[e,un] at this;cases this) (λe=>by rw[e,mZ] at this;cases this) (λe=>by rw[e,tF] at this;cases this)];exact i6.log.le c o E
 have wQ:dn.vH Y h7 (dn.own o8 pR) lY d G3 400:=⟨o8,pR,Ur,λ_=>Iff.rfl,i6,nM,g4,g1⟩
 classical
 let f:Nat->Option aN:=λc=>if c=n then some .obj else if c=m then some .map else if dn.own o8 pR c then some .log else none
 have fn:f n=some .obj:=if_pos rfl
 have HQ:f m=some .map:=by simp only[f,if_neg fe.symm,if_pos]
 have agK:∀c,dn.own o8 pR c->f c=some .log:=λc E=>by have O:c≠n:=λe=>ZG (e▸E);have a2:c≠m:=λe=>am0 (e▸E);simp only[f,if_neg O,if_neg a2,if_pos E]
 have agJ:∀c,f c=some .log->dn.own o8 pR c:=λc E=>by by_cases O:c=n;rw[O,fn] at E;cases E;by_cases a2:c=m;rw[a2,HQ] at E;cases E;by_cases a3:dn.own o8 pR c;exact a3;simp only[f,if_neg O,if_neg a2,if_neg a3] at E;cases E
 have ci:part f .log=dn.own o8 pR:=funext λc=>propext ⟨agJ c,agK c⟩
 have hr:∀c,f c≠none->c=n∨c=m∨dn.own o8 pR c:=λc E=>by by_cases O:c=n;exact .inl O;by_cases a2:c=m;exact .inr (.inl a2);by_cases a3:dn.own o8 pR c;exact .inr (.inr a3);exact absurd (by simp only[f,if_neg O,if_neg a2,if_neg a3]) E
 have auG:dI v m (du []):=acP.else λo U=>by rw[Gg m fe.symm JF.symm JG.symm];exact U
 refine⟨_,v4,by rw[p4];exact art,ae v f n S G3 ⟨⟨mB,λc E=>?_,λc E=>?_⟩,acH,fn,by rw[aW];exact auG,by rw[aW];exact HQ,λe he=>(by rw[aW] at he;cases he),⟨[],by rw[aW];exact .nil _ _ _⟩,λg N=>(by rw[aW] at N;cases N),?_⟩ ⟨λc o E M=>?_,λc E=>?_⟩ ⟨by rw[aW];exact aj,λe he=>(by rw[aW] at he;cases he),λe he=>(by rw[aW] at he;cases he),by rw[aW];exact Nat.zero_le _,by rw[aW];exact⟨Int.le_refl _,by show(0:Int)+((0:Nat):Int)<=400;decide⟩⟩ (by rw[aW];rfl) (by rw[aW]) (by rw[aW];rfl) (by rw[aW])⟩
 rcases hr c E with e|e|e
 rw[e];exact h.le.none un
 rw[e];exact h.le.none KU
 exact wQ.base.2.1 c e
 rcases hr c E with e|e|e
 rw[e,acH];simp
 rw[e,Gg m fe.symm JF.symm JG.symm];exact alF
 obtain⟨o,U⟩:=Option.ne_none_iff_exists'.1 (wQ.base.2.2 c e)
 rw[acI c o U e];simp
 rw[ci]
 have:=wQ.same acI mB
 rw[aW];exact this
 have b5:fd c=none:=Classical.byContradiction M
 rw[Gg c (λe=>by rw[e,un] at E;cases E) (λe=>by rw[e,mZ] at E;cases E) (λe=>by rw[e,tF] at E;cases E)]
 exact stay (v9 c o E) b5
 rcases hr c E with e|e|e
 rw[e];exact .inr un
 rw[e];exact .inr KU
 refine(t6.grow c e).imp id λI=>?_
 cases ar:u c with
 |none=>rfl
 |some o=>rw[v9 c o ar] at I;cases I
end
end an
