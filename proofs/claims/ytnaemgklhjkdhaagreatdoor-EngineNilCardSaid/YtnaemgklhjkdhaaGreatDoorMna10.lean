/- Texts of mine, joined and packed by pack.py. -/
import Derived.Test.YtnaemgklhjkdhaaGreatDoorMna9
set_option linter.all false
set_option maxRecDepth 100000
noncomputable section
namespace Go.Proofs.YtnaemgklhjkdhaaGreatDoor
open H
namespace k2
section
variable{u Y:H}{v a q:List Int}{h:en}{b i:Nat}{d:Int}{s:J}{K:Bool->Int->H->Prop}{ks:List aq}
structure xl(Y u:H)(ab:Nat->Option aN)(b:Nat)(T:ak)(id:Int)(u':H)(aM:Nat->Option aN)(T':ak):Prop where
 is:In Y u' aM b T'
 cL:gu u ab u' aM
 ok:dj T'
 rows:b7 T'=(b7 T).filter λx=>x.1 !=id
 ao:T'.ao=T.ao
 leaf:T'.leaf=T.leaf
 ez:T'.ez=T.ez
theorem od(w:List (Int×(J×List Int)))(x:Int):(eF (du w) x=none/\x∉w.map (·.1))∨∃e,e∈w/\e.1=x/\eF (du w) x=some (.slice e.2.1.a e.2.1.n e.2.1.c):=by
 cases h:eF (du w) x with
 |none=>
  left;have:=tm.1 h;unfold du at this
  grind|some v=>
  right;have:=Dh h;obtain⟨e,he,ar⟩:=List.mem_map.1 this
  grind
def vd(T:ak):(b7 T).map (·.1)=T.w.map (·.1):=by unfold b7;rw[List.map_map];rfl
def rZ(w:List (Int×(J×List Int)))(id:Int):(du w).filter (λp=>p.1 !=id)=du (w.filter λe=>e.1 !=id):=by unfold du;rw[List.filter_map];rfl
theorem vt{ab:Nat->Option aN}{T:ak}{id:Int}(h:In Y u ab b T)(aJ:dj T)(kL:T.ez<=4000)(dp:id∉T.w.map (·.1)->∀u',u.le u'->K false 0 u')
  (jM:id∈T.w.map (·.1)->∀u' aM T',xl Y u ab b T id u' aM T'->K true 0 u'):GF (some ⟨b,0,none⟩) id u K:=by
 apply asK
 intro n0 et
 obtain⟨aI,gl⟩:∃aI,aI=u.ins n0 (.cells #[.int .i64 id] 3 (0,0)):=⟨_,rfl⟩
 have b9:u.le aI:=by rw[gl];exact bN _ et
 have d0:aI n0=some (.cells #[.int .i64 id] 3 (0,0)):=by rw[gl];exact aS _ _ _
 rw[<-gl]
 have i1:=jT.mono bd h b9
 have az:=i1.az
 refine⟨λe=>(by cases e),λ_=>⟨_,rfl,_,aV az.cell 3,id,aV d0 0,?_⟩⟩
 rcases od T.w id with⟨N,hm⟩|⟨e,he,hid,N⟩
 refine mE gJ az.map (ct:=.slice) (⟨none,0,0⟩:J) (by rw[N];rfl) ⟨λ_=>dp hm aI b9,λI=>?_⟩
 rw[N] at I;cases I
 have cr:id∈T.w.map (·.1):=List.mem_map.2 ⟨e,he,hid⟩
 refine mE gJ az.map (ct:=.slice) e.2.1 (by rw[N];rfl) ⟨λI=>?_,λ_=>?_⟩
 rw[N] at I;exact absurd rfl I
 refine⟨_,rfl,_,aV az.cell 3,id,aV d0 0,?_⟩
 refine B0 gJ az.map λo kp=>?_
 obtain⟨hP,p9⟩:∃hP,hP=aI.ins T.m o:=⟨_,rfl⟩
 rw[<-p9] at kp ⊢
 have lp:∀{c},ab c≠some .map->c≠T.m:=λE e=>E (by rw[e];exact az.dq)
 have C4:∀c o,aI c=some o->c≠T.m->hP c=some o:=λc bn E ah=>by rw[p9,aL _ _ ah];exact E
 have m10:hP T.m=some o:=by rw[p9];exact aS _ _ _
 have amm:n0≠T.m:=λe=>by
  have:=h.known T.m (by rw[h.az.dq];simp)
  grind
 intro n11 yg
 refine oN (zs:=[.nilFunc]) rfl (by simp[Value.oneCell']) ?_
 obtain⟨sA,yn⟩:∃sA,sA=(Obj.cells [Value.func (.func 359) #[] #[.pointer (some ⟨n0,0,none⟩),.pointer (some ⟨n11,0,none⟩)]].toArray 475 (0,0)):=⟨_,rfl⟩
 rw[<-yn]
 obtain⟨hQ,yA⟩:∃hQ,hQ=hP.ins n11 sA:=⟨_,rfl⟩
 rw[<-yA]
 have so:hP.le hQ:=by rw[yA];exact bN _ yg
 have d11:hQ n11=some sA:=by rw[yA];exact aS _ _ _
 have uF:∀c bn,aI c=some bn->c≠T.m->hQ c=some bn:=λc bn E ah=>so c bn (C4 c bn E ah)
 have c12:hQ b=some (.cells (fw T).toArray 238 (0,0)):=uF b _ az.cell (lp (by rw[az.eh];simp))
 obtain⟨n,ac⟩:∃n,T.root=some n:=by
  cases W:T.root with
  |some n=>exact⟨n,rfl⟩|none=>have h1:=aJ.rows.length_eq;unfold l4 at h1;rw[W] at h1;have h2:=List.length_pos_of_mem he;simp[b7] at h1;omega
 obtain⟨cC,cz,ff,jn⟩:=az.one n ac
 have wj:hQ.cell? ((Addr.mk b 0 none).add 2)=some (.pointer (some ⟨n.b,0,none⟩)):=by
  have I:fw T=[.int .i64 T.ao,.int .i64 T.leaf,.pointer (some ⟨n.b,0,none⟩),.map (some T.m)]:=by simp[fw,ac]
  rw[I] at c12;exact aV c12 2
 refine⟨_,rfl,_,by rw[yn] at d11;exact aV d11 0,_,wj,_,_,_,rfl,fg CU,?_⟩
 obtain⟨ub,cy⟩:∃ub:H,ub=λc=>open Classical in if c∈n.own then none else hQ c:=⟨_,rfl⟩
 have Gb:∀{c},c∈n.own->ub c=none:=λE=>by rw[cy];exact if_pos E
 have jq:∀{c},c∉n.own->ub c=hQ c:=λE=>by rw[cy];exact if_neg E
 have lub:ub.le hQ:=λc bn E=>by
  grind
 have nR:∀{c},ab c≠some .node->c∉n.own:=λE e=>E (ff _ e)
 have amn:n0∉n.own:=λe=>h.known n0 (by rw[ff n0 e];simp) et
 have amo:n11∉n.own:=λe=>by
  have h1:=i1.known n11 (by rw[ff n11 e];simp);obtain⟨bn,bG⟩:=Option.ne_none_iff_exists'.1 h1
  grind
 have km:ub.cell? ⟨n0,0,none⟩=some (.int .i64 id):=by
  have z0:ub n0=some (.cells #[.int .i64 id] 3 (0,0)):=by grind
  exact aV z0 0
 have iR:ub.cell? ⟨n11,0,none⟩=some (.func (.func 359) #[] #[.pointer (some ⟨n0,0,none⟩),.pointer (some ⟨n11,0,none⟩)]):=by
  have fz:ub n11=some sA:=by grind
  rw[yn] at fz;exact aV fz 0
 have lS:∀x∈n.bC,gY hQ x:=λx I=>(cC x I).bd (λc bn E bG=>uF c bn bG (lp (by rw[ff c (List.mem_flatMap.2 ⟨x,I,E⟩)];simp))) λr W=>bb.else ((cC x I).vec r W) λg bn N bG=>uF g bn bG (lp (by grind))
 have lk:∀x∈n.bC,∀r∈x.1.rows,Ints ub r.s r.v:=λx I r W=>bb.else ((cC x I).vec r W) λg bn N bG=>by
  grind
 have cA:=aJ.size n ac
 refine Sq km iR n lub lS cz (λc E=>Gb E) lk (by omega) λu16 n' aj cQ il=>?_
 have tb:∀c bn,aI c=some bn->c≠T.m->c∉n.own->u16 c=some bn:=λc bn E ah Pu=>cQ c bn (uF c bn E ah) Pu
 have MC:u16 b=some (.cells (fw T).toArray 238 (0,0)):=tb b _ az.cell (lp (by rw[az.eh];simp)) (nR (by rw[az.eh];simp))
 have Ph:dI u16 T.m (du (T.w.filter λe=>e.1 !=id)):=by rw[<-rZ];exact kp.else λbn bG=>cQ _ _ (so _ _ bG) (nR (by rw[az.dq];simp))
 have auE:∀{s:J} {v:List Int},Ints aI s v->(∀g,s.ad=some g->ab g=some .vec)->Ints u16 s v:=λhi N=>bb.else hi λg bn cH bG=>tb g bn bG (lp (by rw[N g cH];simp)) (nR (by rw[N g cH];simp))
 obtain⟨T',eS⟩:∃T':ak,T'={T with root:=some n',w:=T.w.filter λe=>e.1 !=id}:=⟨_,rfl⟩
 have uR:b7 T'=(b7 T).filter λx=>x.1 !=id:=by rw[eS];unfold b7;rw[List.filter_map];rfl
 have QL:∀c,aI c≠none->u16 c≠none:=λc E=>il c λe=>by
  by_cases ar:c=T.m;rw[ar,so _ _ m10] at e;cases e;obtain⟨bn,bG⟩:=Option.ne_none_iff_exists'.1 E
  grind
 refine jM cr u16 ab T' ⟨⟨?_,λc bn E=>?_,h.out,λc E=>QL c (i1.known c E)⟩,⟨λc bn E M=>tb c bn (b9 c bn E) (lp (by rw[M];simp)) (nR (by rw[M];simp)),λc E=>.inl E⟩,?_,uR,by rw[eS],by rw[eS],by rw[eS]⟩
 subst eS
 refine⟨?_,az.eh,Ph,az.dq,λdz eY=>?_,λdi ef=>?_⟩
 rw[MC]
 simp[fw,ac,aj.b]
 obtain⟨v1,v2⟩:=az.vec dz (List.mem_filter.1 eY).1
 grind
 obtain rfl:=Option.some.inj (show some n'=some di from ef)
 exact⟨aj.one,by rw[aj.own];exact cz,λc E=>ff c (by rw[<-aj.own];exact E),λx I r W g N=>by obtain⟨y,af,PR⟩:=aj.rows x I r W;exact jn y af r PR g N⟩
 have OH:=h.out
 have h1:=h.le c bn E
 have M:ab c=none:=by grind
 exact tb c bn (b9 c bn h1) (lp (by rw[M];simp)) (nR (by rw[M];simp))
 have AU:=aJ.ok n ac
 refine⟨by rw[eS];exact aJ.ii,by rw[eS];exact aJ.lf,λdz eY=>?_,λdz eY=>?_,?_,?_,λdi ef=>?_,λdi ef=>?_,λdi ef=>?_⟩
 rw[eS] at eY;exact aJ.ids dz (List.mem_filter.1 eY).1
 rw[eS] at eY ⊢;exact aJ.vec dz (List.mem_filter.1 eY).1
 rw[eS];exact Nat.le_trans (List.length_filter_le _ _) aJ.small
 rw[uR]
 have W:=aJ.rows
 rw[eS]
 unfold l4 at W ⊢
 rw[ac] at W
 show n'.br.all.Perm _
 rw[aj.br,bf.M4]
 exact W.filter _
 rw[eS] at ef ⊢
 obtain rfl:=Option.some.inj (show some n'=some di from ef)
 rw[aj.br]
 exact bf.Vf AU
 rw[eS] at ef
 obtain rfl:=Option.some.inj (show some n'=some di from ef)
 rw[aj.br]
 exact(aJ.py n ac).del
 rw[eS] at ef ⊢
 obtain rfl:=Option.some.inj (show some n'=some di from ef)
 rw[<-aq.BJ,aj.br,bf.Vg,aq.BJ]
 exact cA
theorem l1{α:Type}:∀{a b:List α},a.Nodup->(∀x∈a,x∈b)->a.length<=b.length/\(b.length<=a.length->a.Perm b)
 | [],b,_,_=>⟨Nat.zero_le _,λh=>by
  simp_all⟩|x::a,b,ac,hs=>by
  obtain⟨s,t,rfl⟩:=List.append_of_mem (hs x (List.mem_cons_self ..));rw[List.nodup_cons] at ac;have eT:∀y∈a,y∈s++t:=λy af=>by
   grind
  obtain⟨h1,h2⟩:=l1 ac.2 eT;rw[List.length_append] at h1 h2;refine⟨by simp;omega,λai=>?_⟩;have:=h2 (by simp at ai;omega);exact(List.Perm.cons x this).trans List.perm_middle.symm
def sy{α β:Type}{f:α->β}:∀{l:List α},(l.map f).Nodup->l.Nodup
 | [],_=>.nil|x::l,h=>by rw[List.map_cons,List.nodup_cons] at h;rw[List.nodup_cons];exact⟨λI=>h.1 (List.mem_map_of_mem I),sy h.2⟩
def parts(X:ak):List bf:=(X.root.map aq.br).toList
def S9(X:ak)(q:List Int)(k aQ:Int):ke:=l9 q k aQ (parts X)
def kO(X:ak)(q:List Int)(k aQ:Int):List bk:=ue q k (S9 X q k aQ)
def h5(X:ak)(q:List Int)(k aQ:Int):List Int:=dM ((S9 X q k aQ).seen.map (·.1))
def nc(X:ak)(q:List Int)(k aQ:Int):List (Int×Int×List Int×List Int×List Int):=(lo (S9 X q k aQ)).map mR
def yY(X:ak):bf.hV (parts X)=l4 X:=by
 unfold parts l4;cases X.root with
 |none=>rfl|some n=>show n.br.all++ []=_;rw[List.append_nil]
def aeC:fi Tryz.prog 364=true:=by kernel_rfl
def aex:fi Tryz.prog 363=true:=by kernel_rfl
def SJ:iG Tryz.prog 334=some (236,1,8,[.pointer none]):=by kernel_rfl
def MK(n:Nat):hF Tryz.prog 334 1 #[(0,.pointer (some ⟨n,0,none⟩))]=some (236,[.pointer (some ⟨n,0,none⟩)]):=by kernel_rfl
theorem Kk{ab:Nat->Option aN}{T:ak}{t:J}{k aQ:Int}{K:J->J->J->Int->H->Prop}(h:In Y u ab b T)(aJ:dj T)(kL:T.ez<=2700)(ht:Ints u t q)
  (dT:iE q T.ao k aQ≠0->K ⟨none,0,0⟩ ⟨none,0,0⟩ ⟨none,0,0⟩ (iE q T.ao k aQ) u)
  (bL:iE q T.ao k aQ=0->∀ax ss a7 rest u',kb u u' ax ss a7 (kO T q k aQ) (h5 T q k aQ) rest->rest.map cc.core=nc T q k aQ->K ax ss a7 0 u'):TJ (some ⟨b,0,none⟩) t k aQ u K:=by
 apply asP
 refine⟨λe=>(by cases e),λ_=>⟨_,rfl,_,aV h.az.cell 0,Sr ht ⟨λah=>dT ah,λhe=>?_⟩⟩⟩
 obtain⟨av,cv,cI,fJ,eQ⟩:=CR.1 he
 obtain⟨_,_,Es,Qp⟩:=rz av
 have bL:=bL he
 intro dr mZ
 obtain⟨h6,Qf⟩:∃h6,h6=u.ins dr (.cells #[.slice none 0 0] 334 (0,0)):=⟨_,rfl⟩
 have QV:u.le h6:=by rw[Qf];exact bN _ mZ
 have d4:h6 dr=some (.cells #[.slice none 0 0] 334 (0,0)):=by rw[Qf];exact aS _ _ _
 rw[<-Qf]
 intro Ms bJ
 have wg:(bf.hV (parts T)).length<=100000:=by rw[yY,aJ.rows.length_eq];have:=aJ.small;simp[b7];omega
 have oz:∀x∈bf.hV (parts T),(x.2.length:Int)=q.length/\ej x.2:=λx I=>by
  rw[yY] at I;obtain⟨e,eY,rfl⟩:=List.mem_map.1 (aJ.rows.mem_iff.1 I);obtain⟨v1,v2⟩:=aJ.vec e eY
  grind
 have cA:bf.fu (parts T)<=4000000:=by
  unfold parts;cases W:T.root with
  |none=>show 0<=_;omega|some n=>have:=aJ.size n W;show n.br.size+0<=_;rw[aq.BJ];omega
 have PI:∀p∈parts T,fp q.length p:=λp aa=>by
  unfold parts at aa;cases W:T.root with
  |none=>rw[W] at aa;cases aa
  |some n=>
   rw[W] at aa;obtain rfl:p=n.br:=by simpa using aa
   rw[Es];exact aJ.ok n W
 have walk:∀(s:J) (ms:List Nat) (z:H),u.le z->z.cell? ⟨dr,0,none⟩=some (.slice s.a s.n s.c)->bb z s 1 (ms.map λn=>.pointer (some ⟨n,0,none⟩))->ms.length=(parts T).length->(∀(i:Nat) m p,ms[i]?=some m->(parts T)[i]?=some p->k4 z m p)->Ms z:=by intro s ms z aP E hs hlen aa;refine bJ z ⟨s,E,.inl ⟨_,_,_,rfl,fg aeC,?_⟩⟩;refine asT (some ⟨b,0,none⟩) s t k aQ z _ ?_;refine aa9 hs hlen aa PI (ht.mono aP) Qp cv cI fJ eQ cA wg oz λax ss a7 R u' ap DK=>bL ax ss a7 R u' ?_ DK;exact⟨ap.h.weaken aP,ap.s.weaken aP,ap.r.weaken aP,λr W=>⟨(ap.g r W).l.weaken aP,(ap.g r W).h.weaken aP,(ap.g r W).i.weaken aP⟩,ap.eR⟩
 obtain⟨BH,wE⟩:∃BH:Option Addr,BH=T.root.map λn=>⟨n.b,0,none⟩:=⟨_,rfl⟩
 have s8:h6.cell? ((Addr.mk b 0 none).add 2)=some (.pointer BH):=by rw[wE];exact H.le.cell QV (aV h.az.cell 2)
 refine⟨_,rfl,BH,s8,λah=>⟨_,rfl,BH,s8,.inl ⟨_,_,_,rfl,fg aex,?_⟩⟩,λmn=>?_⟩
 cases W:T.root with
 |none=>rw[W] at wE;exact absurd wE ah
 |some n=>
  rw[W] at wE;rw[show BH=some ⟨n.b,0,none⟩ from wE];refine asQ (some ⟨n.b,0,none⟩) ⟨dr,0,none⟩ h6 _ ⟨⟨none,0,0⟩,aV d4 0,?_⟩;refine rn SJ (MK n.b) (by decide) rfl (by simp[Value.oneCell']) (aE.nil (H.le.refl h6) 236 1) (by show 0<_;omega) (by grind) λs' u' bG im eY _ _=>?_;have afO:u' dr=some (.cells #[.slice none 0 0] 334 (0,0)):=bG.le _ _ d4;refine ze afO (by simp[Value.oneCell']) ?_;obtain⟨z,aP⟩:∃z,z=u'.ins dr (.cells #[.slice s'.a s'.n s'.c] 334 (0,0)):=⟨_,rfl⟩;rw[<-aP];have AY:s'.ad≠some dr:=λe=>by have:=bG.fresh dr e;grind
  have Iq:∀c o,u' c=some o->c≠dr->z c=some o:=λc o E ah=>by rw[aP,aL _ _ ah];exact E
  have acb:u.le z:=λc o E=>Iq c o (bG.le c o (QV c o E)) λe=>by grind
  have af1:z dr=some (.cells #[.slice s'.a s'.n s'.c] 334 (0,0)):=by rw[aP];exact aS _ _ _
  obtain⟨cC,_⟩:=h.az.one n W;refine walk s' [n.b] z acb (aV af1 0) (bb.else bG.own.bR λg o N U=>Iq g o U λe=>AY (by rw[N,e])) (by unfold parts;rw[W];rfl) λi m p hm aa=>?_;have hi:i=0:=by grind
  subst hi;obtain rfl:n.b=m:=Option.some.inj hm;have ji:p=n.br:=by unfold parts at aa;rw[W] at aa;exact(Option.some.inj aa).symm
  rw[ji];exact(uv.part cC).mono acb
 cases W:T.root with
 |some n=>rw[W] at wE;rw[mn] at wE;cases wE
 |none=>exact walk ⟨none,0,0⟩ [] h6 QV (aV d4 0) ⟨rfl,Nat.le_refl _,by decide,.inl rfl⟩ (by unfold parts;rw[W];rfl) λi m p hm=>by simp at hm
def abY{X:ak}(h:dj X){k aQ:Int}(hk:1<=k)(Z:0<=aQ)(aj:(q.length:Int)=X.ao){L:List aT}(cE:(L.map aT.bV).Perm (b7 X))(ay:jH L q){rest:List cc}(W:rest.map cc.core=nc X q k aQ):
  Sound L q k (kO X q k aQ) (h5 X q k aQ) rest/\((h5 X q k aQ).length:Int)<=aQ/\(((h5 X q k aQ).length:Int)=aQ∨(h5 X q k aQ).length=L.length∨oT q k (kO X q k aQ) rest):=by
 refine acM Z hk (λp aa=>?_) ay ?_ W
 unfold parts at aa
 cases ek:X.root with
 |none=>rw[ek] at aa;cases aa
 |some n=>
  rw[ek] at aa;obtain rfl:p=n.br:=by simpa using aa
  rw[aj];exact h.ok n ek
 rw[yY]
 exact cE.trans h.rows.symm
def vb(l:List aT)(ao a:Int):Int:=if nh l ao≠0 then nh l ao else if a<1∨64<a then 1 else 0
structure K8(u:H)(l:List aT)(ii a:Int)(u':H)(cW:Nat)(ab:Nat->Option aN)(T:ak):Prop where
 is:In u u' ab cW T
 ok:dj T
 rows:(b7 T).Perm (l.map aT.bV)
 ao:T.ao=ii
 leaf:T.leaf=a
 ez:T.ez=0
def qJ(r:aT):Int×(J×List Int):=(r.id,(r.s,r.v))
def abE{n:Nat}{a:Int}{p iu:Option Addr}{m:Option Nat}{f:H->Prop}(h:u n=some (.cells #[.int .i64 d,.int .i64 a,.pointer p,.map m] 238 (0,0)))
  (M:f (u.ins n (.cells #[.int .i64 d,.int .i64 a,.pointer iu,.map m] 238 (0,0)))):H.an u (Addr.add (Addr.mk n 0 none) 2) [.pointer iu] f:=
 ⟨_,_,h,rfl,by simp[Addr.add_lit],by simp[Value.oneCell'],M⟩
theorem aoY{l:List aT}{ao a:Int}{K:Option Addr->Int->H->Prop}(hs:ev u s l)(dT:vb l ao a≠0->K none (vb l ao a) u)
  (bL:vb l ao a=0->∀u' cW ab T,K8 u l ao a u' cW ab T->K (some ⟨cW,0,none⟩) 0 u'):LG s ao a u K:=by
 have bad:∀z,vb l ao a=z->z≠0->K none z u:=λz e aP=>by subst e;exact dT aP
 apply asJ
 refine Kp hs ⟨λah=>bad _ (by unfold vb;rw[if_pos ah]) ah,λhe=>?_⟩
 have one:(a<1∨64<a)->K none 1 u:=λE=>bad 1 (by unfold vb;omega) (by decide)
 intro js h2
 refine⟨λh=>one (.inl h),λO=>⟨λh=>one (.inr h),λa2=>h2 _ _ _ ?_⟩⟩
 have bL:=bL (by unfold vb;omega)
 clear bad one dT h2 js
 have oy:=FD.1 he
 obtain⟨avA,M6⟩:=oy.ao
 have awq:=oy.len
 refine J9 λm l3 hm kp=>?_
 have Q3:=bN (u:=u) (b:=m) l3 hm
 obtain⟨hC,tK⟩:∃hC,hC=u.ins m l3:=⟨_,rfl⟩
 have ajr:hC m≠none:=by rw[tK,aS];simp
 rw[<-tK] at kp Q3 ⊢
 intro n8 AM
 have sc:n8≠m:=λe=>by grind
 have Ej:u n8=none:=Q3.none AM
 obtain⟨wW,wD⟩:∃wW,wW=(Obj.cells #[.int .i64 ao,.int .i64 a,.pointer none,.map (some m)] 238 (0,0)):=⟨_,rfl⟩
 show vB s (hC.ins n8 (Obj.cells #[.int .i64 ao,.int .i64 a,.pointer none,.map (some m)] 238 (0,0))) _
 rw[<-wD]
 have yP:=bN (u:=hC) (b:=n8) wW AM
 obtain⟨u8,oC⟩:∃u8,u8=hC.ins n8 wW:=⟨_,rfl⟩
 have ahm:u8 n8=some wW:=by rw[oC];exact aS _ _ _
 rw[<-oC] at yP ⊢
 have Pg:u8 m≠none:=λe=>ajr (yP.none e)
 have Jy:u.le u8:=Q3.trans yP
 refine Kr (hs.mono Jy) oy.id (by omega) (λr W=>by have:=(oy.v r W).1;omega) λj8 ls hP b8 aa p7=>?_
 have N2:ls.length=l.length:=by simpa using aa.length_eq
 have IC:hp ls ao:=by refine JZ oy.ao (by omega) ?_ λp ji=>?_;rw[show ls.map (·.id)=(ls.map aT.bV).map (·.1) by rw[List.map_map];rfl,(aa.map (·.1)).nodup_iff,List.map_map];exact oy.nodup;obtain⟨r,W,rfl⟩:=List.mem_map.1 (aa.mem_iff.1 ji);exact⟨(oy.id r W).1,(oy.id r W).2,(oy.v r W).1,(oy.v r W).2⟩
 have l10:=b8.own.le
 have avT:j8.n=ls.length:=b8.rws.len
 have IT:j8.ad≠some m:=λe=>Pg (b8.own.fresh m e)
 have X1:j8.ad≠some n8:=λe=>by have:=b8.own.fresh n8 e;grind
 have gx:∀r∈ls,r.s.ad≠some m:=λr W e=>Pg ((b8.inner r W).fresh m e)
 have aj7:∀r∈ls,r.s.ad≠some n8:=λr W e=>by have:=(b8.inner r W).fresh n8 e;grind
 refine⟨λx w=>0<=x/\x<=j8.n/\dI w m (du ((ls.take x.toNat).map qJ))/\(∀c o,hP c=some o->c≠m->w c=some o)/\w m≠none,λx _=>((j8.n:Int)-x).toNat,⟨by omega,by omega,(kp.mono yP).mono l10,λc o E _=>E,λe=>Pg (l10.none e)⟩,?_⟩
 rintro x w ⟨b0,cJ,tE,wl,ot⟩
 have H3:w n8=some wW:=wl _ _ (l10 _ _ ahm) sc
 have xV:ev w j8 ls:=⟨bb.else b8.own.own.bR λg o N U=>wl g o U λe=>IT (by rw[N,e]),λr W=>bb.else (b8.inner r W).ints λg o N U=>wl g o U λe=>gx r W (by rw[N,e])⟩
 refine⟨λI=>?_,λI=>?_⟩
 obtain⟨p,lT,r,W,c0,c1,_⟩:=xV.at b0 I
 have gm:x.toNat<ls.length:=by omega
 refine⟨p,lT,⟨b0,I⟩,_,c0,_,c1,_,by rw[wD] at H3;exact aV H3 3,?_⟩
 have ah:eF (du ((ls.take x.toNat).map qJ)) r.id=none:=tm.2 λov=>by unfold du at ov;rw[List.map_map,List.map_map] at ov;obtain⟨z,aP,EP⟩:=List.mem_map.1 ov;have ala:z.id=r.id:=EP;have bX:=IC.nodup;rw[<-List.take_append_drop x.toNat ls,List.map_append,List.nodup_append] at bX;refine bX.2.2 z.id (List.mem_map_of_mem aP) r.id (List.mem_map_of_mem ?_) ala;exact List.mem_of_getElem? (i:=0) (by grind)
 refine y8 gJ tE ah λo ID=>⟨⟨by omega,by omega⟩,⟨by omega,by omega,?_,λc bn E jx=>?_,by rw[aS];simp⟩,by dsimp only;omega⟩
 rw[show(x+1).toNat=x.toNat+1 by omega,List.take_add_one,W,List.map_append]
 unfold du at ID ⊢
 rw[List.map_append]
 exact ID
 rw[aL _ _ jx];exact wl c bn E jx
 .rw[List.take_of_length_le (by omega)] at tE;obtain⟨ub,cy⟩:∃ub,ub=vo w j8:=⟨_,rfl⟩;have lub:ub.le w:=by rw[cy];exact R3 _ _
  have PB:aE ub w 34 2 j8 (ls.flatMap cG):=⟨b8.own.own.le λc o E U=>wl c o U λe=>IT (by rw[E,e]),lub,λg N=>by rw[cy];unfold vo;exact if_pos N⟩
  have SU:ub n8=some wW:=by rw[cy,rm X1];exact H3
  have yD:∀r∈ls,Ints ub r.s r.v:=λr W=>bb.else (xV.2 r W) λg o N U=>by rw[cy,rm ((b8.eR r W).symm g N)];exact U
  have yE:∀r∈ls,∀g,r.s.ad=some g->ub g≠none/\g≠n8/\g≠m:=λr W g N=>by have aO:g≠m:=λe=>gx r W (by rw[N,e]);refine⟨λe=>?_,λe=>aj7 r W (by rw[N,e]),aO⟩;obtain⟨o,U⟩:=Option.ne_none_iff_exists'.1 (fj (b8.inner r W) N);rw[cy,rm ((b8.eR r W).symm g N),wl g o U aO] at e;cases e
  have ars:∀c o,u c=some o->w c=some o/\j8.ad≠some c:=λc o E=>⟨wl c o (l10 c o (Jy c o E)) (λe=>(by grind)),λe=>(by have:=b8.own.fresh c e;rw[Jy c o E] at this;cases this)⟩;have arq:u.le ub:=λc o E=>by obtain⟨h1,h2⟩:=ars c o E;rw[cy,rm h2];exact h1
  have axJ:ub m≠none:=by rw[cy,rm IT];exact ot
  have fin:∀(root:Option aq) (xb:H),(∀c o,w c=some o->j8.ad≠some c->xb c=some o)->(∀n,root=some n->(∀x∈n.bC,gY xb x)/\n.own.Nodup/\(∀c∈n.own,ub c=none/\xb c≠none)/\(∀x∈n.bC,∀r∈x.1.rows,r∈ls)/\fp ao n.br/\jG 2 n.br/\n.bC.length+1<=2*ls.length)->
    (match root with|none=>([]:List iC)|some n=>n.br.all).Perm (ls.map aT.bV)->H.an xb (Addr.add (Addr.mk n8 0 none) 2) [.pointer (root.map λn=>⟨n.b,0,none⟩)] λug=>K (some ⟨n8,0,none⟩) 0 ug:=by
   intro root xb f1 f2 f3
   have Wd:xb n8=some wW:=f1 _ _ H3 X1
   rw[wD] at Wd
   refine abE Wd ?_
   obtain⟨T,aJ⟩:∃T:ak,T=⟨ao,a,root,m,ls.map qJ,0⟩:=⟨_,rfl⟩
   obtain⟨ug,Qe⟩:∃ug,ug=xb.ins n8 (.cells #[.int .i64 ao,.int .i64 a,.pointer (root.map λn=>⟨n.b,0,none⟩),.map (some m)] 238 (0,0)):=⟨_,rfl⟩
   rw[<-Qe]
   have g1:∀c o,xb c=some o->c≠n8->ug c=some o:=λc o E ah=>by rw[Qe,aL _ _ ah];exact E
   have Rt:∀n,root=some n->n8∉n.own/\m∉n.own/\∀r∈ls,∀g,r.s.ad=some g->g∉n.own:=λn ac=>by
    grind
   obtain⟨ab,mW⟩:∃ab:Nat->Option aN,ab=λc=>open Classical in if c=n8 then some .tree else if c=m then some .map else if ∃n,root=some n/\c∈n.own then some .node else if ∃r∈ls,r.s.ad=some c then some .vec else none:=⟨_,rfl⟩
   have fk:ab n8=some .tree:=by grind
   have da:ab m=some .map:=by grind
   have vk:∀n c,root=some n->c∈n.own->ab c=some .node:=λn c ac E=>by obtain⟨aO,ar,_⟩:=Rt n ac;rw[mW];show(if c=n8 then _ else _)=_;rw[if_neg (λe=>aO (by rw[<-e];exact E)),if_neg (λe=>ar (by rw[<-e];exact E)),if_pos ⟨n,ac,E⟩]
   have jQ:∀r∈ls,∀g,r.s.ad=some g->ab g=some .vec:=λr W g N=>by obtain⟨_,aO,ar⟩:=yE r W g N;rw[mW];show(if g=n8 then _ else _)=_;rw[if_neg aO,if_neg ar,if_neg (λ⟨n,ac,E⟩=>(Rt n ac).2.2 r W g N E),if_pos ⟨r,W,N⟩]
   have vl:∀c,ab c≠none->c=n8∨c=m∨(∃n,root=some n/\c∈n.own)∨∃r∈ls,r.s.ad=some c:=λc E=>by
    grind
   have acG:∀r∈ls,Ints ug r.s r.v:=λr W=>bb.else (xV.2 r W) λg o N U=>g1 g o (f1 g o U ((b8.eR r W).symm g N)) (yE r W g N).2.1
   have DZ:b7 T=ls.map aT.bV:=by rw[aJ];unfold b7;rw[List.map_map];rfl
   have V4:ug n8=some (.cells (fw T).toArray 238 (0,0)):=by rw[Qe,aS,aJ];rfl
   have Xu:dI ug m (du (ls.map qJ)):=tE.else λo U=>g1 m o (f1 m o U IT) (Ne.symm sc)
   refine bL ug n8 ab T ⟨⟨⟨V4,fk,by rw[aJ];exact Xu,by rw[aJ];exact da,λe mo=>?_,λn ac=>?_⟩,λc o E=>?_,λc E=>?_,λc E=>?_⟩,⟨by grind,by grind,λe mo=>?_,λe mo=>?_,by grind,?_,λn ac=>?_,λn ac=>(by rw[aJ] at ac;exact(f2 n ac).2.2.2.2.2.1),λn ac=>?_⟩,by rw[DZ];exact aa,by rw[aJ],by rw[aJ],by rw[aJ]⟩
   rw[aJ] at mo
   obtain⟨r,W,rfl⟩:=List.mem_map.1 mo
   exact⟨acG r W,jQ r W⟩
   rw[aJ] at ac
   obtain⟨cC,cz,ff,jn,_⟩:=f2 n ac
   obtain⟨aO,_,_⟩:=Rt n ac
   refine⟨λx I=>(cC x I).bd (λc o E U=>g1 c o U λe=>aO (by rw[<-e];exact List.mem_flatMap.2 ⟨x,I,E⟩)) λr W=>acG r (jn x I r W),cz,λc E=>vk n c ac E,λx I r W g N=>jQ r (jn x I r W) g N⟩
   grind
   rcases vl c E with rfl|rfl|⟨n,ac,Az⟩|⟨r,W,qX⟩
   exact Ej
   exact hm
   exact arq.none ((f2 n ac).2.2.1 c Az).1
   exact Jy.none ((b8.inner r W).fresh c qX)
   rcases vl c E with rfl|rfl|⟨n,ac,Az⟩|⟨r,W,qX⟩
   rw[V4];simp
   obtain⟨_,_,aZ,_⟩:=Xu
   rw[aZ];simp
   obtain⟨o,U⟩:=Option.ne_none_iff_exists'.1 ((f2 n ac).2.2.1 c Az).2
   grind
   obtain⟨o,U⟩:=Option.ne_none_iff_exists'.1 (fj (b8.inner r W) qX)
   obtain⟨_,aO,ar⟩:=yE r W c qX
   rw[g1 c o (f1 c o (wl c o U ar) ((b8.eR r W).symm c qX)) aO];simp
   rw[aJ] at mo
   obtain⟨r,W,rfl⟩:=List.mem_map.1 mo
   exact IC.id r W
   rw[aJ] at mo ⊢
   obtain⟨r,W,rfl⟩:=List.mem_map.1 mo
   exact IC.v r W
   rw[DZ,aJ]
   exact f3
   rw[aJ] at ac ⊢
   exact(f2 n ac).2.2.2.2.1
   grind
  rw[wD] at SU;refine Kl (by omega) (aV SU 0) (aV SU 1) PB yD IC (λdH u' kq=>?_) λah u' n E eG=>?_;exact fin none u' (λc o E _=>kq c o E) (λn ac=>by cases ac) (by rw[dH];exact .refl _);exact fin (some n) u' (λc o e2 jx=>E.uG c o e2 jx) (λn' im=>by obtain rfl:=Option.some.inj im;exact⟨E.one,E.nodup,E.out,E.rows,E.ok,eG,E.size⟩) E.all
def qN(h:en)(v:List Int):en:={h with bz:=jO h.bz v,hi:=jP h.hi v}
theorem JD(h:a.length=v.length)(hi:i<a.length):(jO a v).getD i 0=min (a.getD i 0) (v.getD i 0):=by
 unfold jO
 grind
theorem JE(h:a.length=v.length)(hi:i<a.length):(jP a v).getD i 0=max (a.getD i 0) (v.getD i 0):=by
 unfold jP
 grind
theorem amk(h:a.length=v.length)(i:Nat):(jO a v).getD i 0<=a.getD i 0:=by
 by_cases hi:i<a.length;rw[JD h hi];omega;have:(jO a v).length=a.length:=vz h
 grind
theorem aml(h:a.length=v.length)(i:Nat):a.getD i 0<=(jP a v).getD i 0:=by
 by_cases hi:i<a.length;rw[JE h hi];omega;have:(jP a v).length=a.length:=vz h
 grind
def ag3(eG:h.ax=2)(aa:fp d (aq.mk h ks).br)(av:ej v)(aw2:(v.length:Int)=d):fp d (aq.mk (qN h v) ks).br/\mf ((aq.mk (qN h v) ks).br.fP []) v:=by
 have h1:=aa.jC;have h2:=aa.ins;have h3:=aa.kids;rw[aq.gR] at h1 h2 h3;obtain⟨aj,_,_,hs⟩:=h1;have eT:h.ch=0/\ej h.bz/\ej h.hi/\(h.bz.length:Int)=d/\(h.hi.length:Int)=d/\∀i:Nat,(i:Int)<d->h.bz.getD i 0<=h.hi.getD i 0:=by rcases hs with⟨e,_⟩|⟨_,e⟩|⟨e,_⟩;have:h.ax=1:=e;omega;exact e;have:h.ax=3:=e;omega
 obtain⟨lu,mi,qD,eQ,eI,vR⟩:=eT;have b9:(jO h.bz v).length=h.bz.length:=vz (by omega);have cZ:(jP h.hi v).length=h.hi.length:=vz (by omega);have dk:ej (jO h.bz v):=⟨by omega,λi hi=>by rw[JD (by omega) (by omega)];have aO:=mi.2 i (by omega);have ar:=av.2 i (by omega);unfold kh at*;omega⟩
 have fq:ej (jP h.hi v):=⟨by omega,λi hi=>by rw[JE (by omega) (by omega)];have aO:=qD.2 i (by omega);have ar:=av.2 i (by omega);unfold kh at*;omega⟩
 have alj:mf ((aq.mk (qN h v) ks).br.fP []) v:=by rw[aq.gR];refine⟨λ_ i dC=>?_,λe=>?_⟩;show(jO h.bz v).getD i 0<=v.getD i 0/\v.getD i 0<=(jP h.hi v).getD i 0;have awj:i<v.length:=dC;rw[JD (by omega) (by omega),JE (by omega) (by omega)];omega;have:h.ax=3:=e;omega
 refine⟨?_,alj⟩;rw[aq.gR];refine .mk ⟨aj,List.Pairwise.nil,λx I=>(by cases I),.inr (.inl ⟨eG,lu,dk,fq,by show((jO h.bz v).length:Int)=d;omega,by show((jP h.hi v).length:Int)=d;omega,λi hi=>?_⟩)⟩ (λx I=>?_) h3;show(jO h.bz v).getD i 0<=(jP h.hi v).getD i 0;rw[JD (by omega) (by omega),JE (by omega) (by omega)];have:=vR i hi;omega;have dV:x∈(bf.mk h.ax h.bz h.hi h.ch (h.rows.map aT.bV) (ks.map aq.br)).all:=I;obtain⟨g1,_⟩:=h2 x dV;refine⟨λ_ i dC=>?_,λe=>?_⟩;obtain⟨fz,z2⟩:=g1 eG i dC;have e4:=amk (a:=h.bz) (v:=v) (by omega) i;have fm:=aml (a:=h.hi) (v:=v) (by omega) i;exact⟨Int.le_trans e4 fz,Int.le_trans z2 fm⟩;have:h.ax=3:=e;omega
def nz(h:en)(v:List Int)(x:Nat):en:={h with bz:=(jO h.bz v).take x++h.bz.drop x,hi:=(jP h.hi v).take x++h.hi.drop x}
theorem apx{ub:H}{sl:List Nat}{Rest:H->Prop}(av:Ints ub s v)(cy:ub.le u)(lS:gY u (h,sl))(bX:h.cT.Nodup)(mr:∀c∈h.cT,ub c=none)(XZ:∀r∈h.rows,Ints ub r.s r.v)(h1:h.bz.length=v.length)(h2:h.hi.length=v.length)(NJ:v.length<=64)
  (b8:∀u',gY u' (qN h v,sl)->(∀c o,u c=some o->c∉h.cT->u' c=some o)->(∀c,u c≠none->u' c≠none)->Rest u'):
  ∃Mq:(Int->(H->Prop)),∃Ug:(Int->(H->Nat)),(Mq 0 u)/\(∀kx:Int,∀jD:H,(Mq kx jD)->((kx<(s.n:Int))->∃ZW:Addr,(s.a=(some ZW))/\((((0:Int)<=kx)/\(kx<(s.n:Int)))/\(∃Gl:Int,((H.cell? jD (Addr.add ZW ((Int.toNat kx)*1)))=(some (Value.int .i64 Gl)))/\(∃ZY:Addr,((some (Addr.mk h.b 0 none))=(some ZY))/\(∃ZZ:Addr,((some (Addr.mk h.b 0 none))=(some ZZ))/\(∃oL:J,((H.cell? jD (Addr.add ZY 1))=(some (Value.slice oL.a oL.n oL.c)))/\(∃FI:J,((H.cell? jD (Addr.add ZZ 1))=(some (Value.slice FI.a FI.n FI.c)))/\(∃Z0:Addr,(FI.a=(some Z0))/\((((0:Int)<=kx)/\(kx<(FI.n:Int)))/\(∃Tg:Int,((H.cell? jD (Addr.add Z0 ((Int.toNat kx)*1)))=(some (Value.int .i64 Tg)))/\(∃Z1:Addr,(oL.a=(some Z1))/\((((0:Int)<=kx)/\(kx<(oL.n:Int)))/\(H.an jD (Addr.add Z1 ((Int.toNat kx)*1)) [(Value.int .i64 (ite (Gl<Tg) Gl Tg))] (λ(fH:H)=>∃Z2:Addr,((some (Addr.mk h.b 0 none))=(some Z2))/\(∃Z4:Addr,((some (Addr.mk h.b 0 none))=(some Z4))/\(∃FJ:J,((H.cell? fH (Addr.add Z2 2))=(some (Value.slice FJ.a FJ.n FJ.c)))/\(∃FK:J,((H.cell? fH (Addr.add Z4 2))=(some (Value.slice FK.a FK.n FK.c)))/\(∃Z5:Addr,(FK.a=(some Z5))/\((((0:Int)<=kx)/\(kx<(FK.n:Int)))/\(∃Th:Int,((H.cell? fH (Addr.add Z5 ((Int.toNat kx)*1)))=(some (Value.int .i64 Th)))/\(∃Z6:Addr,(FJ.a=(some Z6))/\((((0:Int)<=kx)/\(kx<(FJ.n:Int)))/\(H.an fH (Addr.add Z6 ((Int.toNat kx)*1)) [(Value.int .i64 (ite (Gl>Th) Gl Th))] (λ(Cc:H)=>(ba (kx+1))/\((Mq (kx+1) Cc)/\((Ug (kx+1) Cc)<(Ug kx jD)))))))))))))))))))))))))))/\((¬(kx<(s.n:Int)))->Rest jD)):=by
 have cY:=av.len
 have ay:∀g,(h.bD.ad=some g->g∈h.cT/\g≠h.b/\h.e7.ad≠some g/\h.a7.ad≠some g/\h.dw.ad≠some g)/\(h.e7.ad=some g->g∈h.cT/\g≠h.b/\h.bD.ad≠some g/\h.a7.ad≠some g/\h.dw.ad≠some g):=by
  intro g;unfold en.cT at bX ⊢;rw[List.nodup_cons] at bX;obtain⟨cC,cz⟩:=bX;rw[List.nodup_append,List.nodup_append,List.nodup_append] at cz;obtain⟨⟨⟨_,_,ff⟩,_,jn⟩,_,iv⟩:=cz;refine⟨λN=>⟨by simp[N],λe=>cC (by rw[<-e];simp[N]),λe=>ff g (by simp[N]) g (by simp[e]) rfl,λe=>jn g (by simp[N]) g (by simp[e]) rfl,λe=>iv g (by simp[N]) g (by simp[e]) rfl⟩,
   λN=>⟨by simp[N],λe=>cC (by rw[<-e];simp[N]),λe=>ff g (by simp[e]) g (by simp[N]) rfl,λe=>jn g (by simp[N]) g (by simp[e]) rfl,λe=>iv g (by simp[N]) g (by simp[e]) rfl⟩⟩
 have b9:(jO h.bz v).length=h.bz.length:=vz h1
 have cZ:(jP h.hi v).length=h.hi.length:=vz h2
 refine⟨λx w=>0<=x/\x<=v.length/\gY w (nz h v x.toNat,sl)/\(∀c o,u c=some o->c∉h.cT->w c=some o)/\(∀c,u c≠none->w c≠none),λx _=>((v.length:Int)-x).toNat,⟨by omega,by omega,?_,λc o E _=>E,λc E=>E⟩,?_⟩
 have:nz h v (0:Int).toNat=h:=by unfold nz;simp
 rw[this];exact lS
 rintro x w ⟨b0,cJ,hw,cQ,il⟩
 have jl:ub.le w:=λc o E=>cQ c o (cy c o E) λe=>by grind
 refine⟨λI=>?_,λI=>?_⟩
 have gm:x.toNat<v.length:=by omega
 obtain⟨p,aa,M1⟩:=(av.mono jl).at (x:=x) b0 I
 have qV:=hw.bz.f.ints
 have tz:=hw.hi.f.ints
 have Xo:(nz h v x.toNat).bz.length=v.length:=by show((jO h.bz v).take x.toNat++h.bz.drop x.toNat).length=_;rw[List.length_append,List.length_take,List.length_drop];omega
 have Xa:(nz h v x.toNat).hi.length=v.length:=by show((jP h.hi v).take x.toNat++h.hi.drop x.toNat).length=_;rw[List.length_append,List.length_take,List.length_drop];omega
 have HX:(nz h v x.toNat).bz.getD x.toNat 0=h.bz.getD x.toNat 0:=K5 h1 (by omega)
 have Dj:(nz h v x.toNat).hi.getD x.toNat 0=h.hi.getD x.toNat 0:=K5 h2 (by omega)
 have nl:h.bD.n=v.length:=by have kH:h.bD.n=_:=qV.len;rw[kH];exact Xo
 have gK:h.e7.n=v.length:=by have kH:h.e7.n=_:=tz.len;rw[kH];exact Xa
 obtain⟨fk,gj,cl⟩:=qV.at (x:=x) b0 (by show x<(h.bD.n:Int);omega)
 obtain⟨da,fD,zW⟩:=tz.at (x:=x) b0 (by show x<(h.e7.n:Int);omega)
 have gj:h.bD.a=some fk:=gj
 have fD:h.e7.a=some da:=fD
 rw[HX] at cl
 rw[Dj] at zW
 have gO:w h.b=some (.cells (fl (nz h v x.toNat)).toArray 336 (0,0)):=hw.cell
 have c1:w.cell? ((Addr.mk h.b 0 none).add 1)=some (.slice h.bD.a h.bD.n h.bD.c):=aV gO 1
 refine⟨p,aa,⟨b0,I⟩,_,M1,_,rfl,_,rfl,h.bD,c1,h.bD,c1,fk,gj,⟨b0,by omega⟩,_,cl,fk,gj,⟨b0,by omega⟩,?_⟩
 refine aE.store (enc:=encI) uH hw.bz.f (by decide) (i:=x.toNat) (by rw[Xo];exact gm) (y:=if v.getD x.toNat 0<h.bz.getD x.toNat 0 then v.getD x.toNat 0 else h.bz.getD x.toNat 0) (by simp[encI,Value.oneCell']) gj λfH Py DO _=>?_
 have DO:∀c o,w c=some o->h.bD.ad≠some c->fH c=some o:=DO
 have WI:fH h.b=some (.cells (fl (nz h v x.toNat)).toArray 336 (0,0)):=DO _ _ gO λe=>((ay h.b).1 e).2.1 rfl
 have c2:fH.cell? ((Addr.mk h.b 0 none).add 2)=some (.slice h.e7.a h.e7.n h.e7.c):=aV WI 2
 have Xc:Own fH 3 1 h.e7 ((nz h v x.toNat).hi.flatMap encI):=hw.hi.le λc o E U=>DO c o U λe=>((ay c).1 e).2.2.1 E
 have afz:fH.cell? (Addr.add da (x.toNat*1))=some (.int .i64 (h.hi.getD x.toNat 0)):=by obtain⟨vk,qW,c3⟩:=Xc.f.ints.at (x:=x) b0 (by omega);rw[fD] at qW;obtain rfl:=Option.some.inj qW;rw[Dj] at c3;exact c3
 refine⟨_,rfl,_,rfl,h.e7,c2,h.e7,c2,da,fD,⟨b0,by omega⟩,_,afz,da,fD,⟨b0,by omega⟩,?_⟩
 refine aE.store (enc:=encI) uH Xc.f (by decide) (i:=x.toNat) (by rw[Xa];exact gm) (y:=if v.getD x.toNat 0>h.hi.getD x.toNat 0 then v.getD x.toNat 0 else h.hi.getD x.toNat 0) (by simp[encI,Value.oneCell']) fD λCc Pz DP _=>?_
 have DP:∀c o,fH c=some o->h.e7.ad≠some c->Cc c=some o:=DP
 have ar:∀c o,w c=some o->h.bD.ad≠some c->h.e7.ad≠some c->Cc c=some o:=λc o E a b=>DP c o (DO c o E a) b
 have el:(nz h v x.toNat).bz.set x.toNat (if v.getD x.toNat 0<h.bz.getD x.toNat 0 then v.getD x.toNat 0 else h.bz.getD x.toNat 0)=(nz h v (x+1).toNat).bz:=by rw[show(x+1).toNat=x.toNat+1 by omega];exact K6 (f:=λa x=>if x<a then x else a) h1 (by omega)
 have agc:(nz h v x.toNat).hi.set x.toNat (if v.getD x.toNat 0>h.hi.getD x.toNat 0 then v.getD x.toNat 0 else h.hi.getD x.toNat 0)=(nz h v (x+1).toNat).hi:=by rw[show(x+1).toNat=x.toNat+1 by omega];exact K6 (f:=λa x=>if x>a then x else a) h2 (by omega)
 rw[el] at Py
 rw[agc] at Pz
 have akJ:ub.le Cc:=λc o E=>ar c o (jl c o E) (λe=>by grind) (λe=>by grind)
 refine⟨⟨by omega,by omega⟩,⟨by omega,by omega,⟨?_,Py.own.le λc o E U=>DP c o U λe=>((ay c).1 E).2.2.1 e,Pz.own,hw.rws.le λc o E U=>ar c o U (λe=>((ay c).1 e).2.2.2.1 E) (λe=>((ay c).2 e).2.2.2.1 E),λr W=>(XZ r W).mono akJ,bb.else hw.nf λg o N U=>ar g o U (λe=>((ay g).1 e).2.2.2.2 N) (λe=>((ay g).2 e).2.2.2.2 N)⟩,λc o E hm=>ar c o (cQ c o E hm) (λe=>hm ((ay c).1 e).1) (λe=>hm ((ay c).2 e).1),λc E=>?_⟩,by dsimp only;omega⟩
 exact DP _ _ WI λe=>((ay h.b).2 e).2.1 rfl
 obtain⟨o,U⟩:=Option.ne_none_iff_exists'.1 (il c E)
 by_cases a:h.e7.ad=some c
 exact fj Pz a
 by_cases b:h.bD.ad=some c
 obtain⟨bn,bG⟩:=Option.ne_none_iff_exists'.1 (fj Py b)
 grind
 grind
 have:nz h v x.toNat=qN h v:=by unfold nz qN;rw[List.take_of_length_le (by omega),List.take_of_length_le (by omega),List.drop_of_length_le (by omega),List.drop_of_length_le (by omega),List.append_nil,List.append_nil]
 rw[this] at hw
 exact b8 w hw cQ il
structure zJ(Y u:H)(ab:Nat->Option aN)(b:Nat)(T:ak)(id:Int)(v:List Int)(u':H)(aM:Nat->Option aN)(T':ak):Prop where
 is:In Y u' aM b T'
 cL:gu u ab u' aM
 ok:dj T'
 rows:(b7 T').Perm ((id,v)::(b7 T).filter λx=>x.1 !=id)
 ao:T'.ao=T.ao
 leaf:T'.leaf=T.leaf
 ez:T'.ez<=T.ez+1
structure My(aI:H)(ab:Nat->Option aN)(b:Nat)(T:ak)(id:Int)(s:J)(v:List Int)(u':H)(r:aq):Prop where
 cell:u' b=some (.cells (fw {T with root:=some r}).toArray 238 (0,0))
 map:dI u' T.m (du (T.w++ [(id,(s,v))]))
 sv:Ints u' s v
 dw:∀g,s.ad=some g->aI g=none/\u' g≠none
 bd:∀c o,aI c=some o->ab c=none∨ab c=some .vec->u' c=some o
 kn:∀c,aI c≠none->ab c≠some .node->u' c≠none
 one:∀x∈r.bC,gY u' x
 nodup:r.own.Nodup
 own:∀c∈r.own,(ab c=some .node∨(aI c=none/\s.ad≠some c))/\u' c≠none
 rws:∀x∈r.bC,∀y∈x.1.rows,∀g,y.s.ad=some g->ab g=some .vec∨s.ad=some g
 all:r.br.all.Perm ((id,v)::l4 T)
 ok:fp T.ao r.br
 py:jG 2 r.br
 size:r.bC.length<=1100*(T.ez+1)+2000
theorem My.anU{aI u':H}{ab:Nat->Option aN}{T:ak}{id:Int}{r:aq}(f:My aI ab b T id s v u' r)(h:In Y aI ab b T)(aJ:dj T)(hid:1<=id/\id<=1000000000)(av:(v.length:Int)=T.ao/\ej v)(ai:T.w.length<512):
  ∃aM T',In Y u' aM b T'/\gu aI ab u' aM/\dj T'/\(b7 T').Perm ((id,v)::b7 T)/\T'.ao=T.ao/\T'.leaf=T.leaf/\T'.ez<=T.ez+1:=by
 obtain⟨T',eS⟩:∃T':ak,T'={T with root:=some r,w:=T.w++ [(id,(s,v))],ez:=T.ez+1}:=⟨_,rfl⟩
 obtain⟨aM,mW⟩:∃aM:Nat->Option aN,aM=λc=>open Classical in if c∈r.own then some .node else if s.ad=some c then some .vec else if ab c=some .node then none else ab c:=⟨_,rfl⟩
 have cC:∀c∈r.own,aM c=some .node:=λc E=>by rw[mW];exact if_pos E
 have cz:∀c,s.ad=some c->aM c=some .vec:=λc E=>by
  have dp:c∉r.own:=λhm=>by rcases(f.own c hm).1 with e|e;exact h.known c (by rw[e];simp) (f.dw c E).1;exact e.2 E
  grind
 have ff:∀c t,ab c=some t->t≠.node->aM c=some t:=λc t E ht=>by
  have hk:=h.known c (by rw[E];simp);have dp:c∉r.own:=λhm=>by
   rcases(f.own c hm).1 with e|e
   grind
   exact hk e.1
  have XH:s.ad≠some c:=λe=>hk (f.dw c e).1
  grind
 have jn:∀c,aM c≠none->c∈r.own∨s.ad=some c∨(ab c≠none/\ab c≠some .node):=λc E=>by
  grind
 have az:=h.az
 refine⟨aM,T',⟨⟨by rw[eS];exact f.cell,ff _ _ az.eh (by simp),by rw[eS];exact f.map,by rw[eS];exact ff _ _ az.dq (by simp),λe he=>?_,λn ac=>?_⟩,λc o E=>?_,λc E=>?_,λc E=>?_⟩,⟨λc o E M=>f.bd c o E (.inl M),λc E=>?_⟩,
  ⟨by rw[eS];exact aJ.ii,by rw[eS];exact aJ.lf,λe he=>?_,λe he=>?_,?_,?_,λn ac=>?_,λn ac=>?_,λn ac=>?_⟩,?_,by rw[eS],by rw[eS],by grind⟩
 rw[eS] at he
 rcases List.mem_append.1 he with he|he
 obtain⟨v1,v2⟩:=az.vec e he
 exact⟨bb.else v1 λg o N U=>f.bd g o U (.inr (v2 g N)),λg N=>ff g _ (v2 g N) (by simp)⟩
 rw[List.mem_singleton.1 he]
 exact⟨f.sv,cz⟩
 rw[eS] at ac
 obtain rfl:=Option.some.inj ac
 exact⟨f.one,f.nodup,cC,λx I y af g N=>(f.rws x I y af g N).elim (λe=>ff g _ e (by simp)) λe=>cz g e⟩
 refine f.bd c o (h.le c o E) (.inl ?_)
 cases e:ab c with
 |none=>rfl
 |some t=>have:=h.out c (by rw[e];simp);grind
 rcases jn c E with e|e|e
 rcases(f.own c e).1 with e|e
 exact h.out c (by rw[e];simp)
 exact h.le.none e.1
 exact h.le.none (f.dw c e).1
 exact h.out c e.1
 rcases jn c E with e|e|e
 exact(f.own c e).2
 exact(f.dw c e).2
 exact f.kn c (h.known c e.1) e.2
 rcases jn c E with e|e|e
 rcases(f.own c e).1 with e|e
 grind
 exact .inr e.1
 exact .inr (f.dw c e).1
 exact .inl e.1
 rw[eS] at he
 rcases List.mem_append.1 he with he|he
 exact aJ.ids e he
 grind
 rw[eS] at he ⊢
 rcases List.mem_append.1 he with he|he
 exact aJ.vec e he
 grind
 grind
 rw[eS]
 show r.br.all.Perm ((T.w++ [(id,(s,v))]).map λe=>(e.1,e.2.2))
 rw[List.map_append]
 exact f.all.trans ((List.Perm.cons _ aJ.rows).trans (List.perm_append_singleton _ _).symm)
 rw[eS] at ac ⊢
 obtain rfl:=Option.some.inj ac
 exact f.ok
 rw[eS] at ac
 obtain rfl:=Option.some.inj ac
 exact f.py
 rw[eS] at ac ⊢
 obtain rfl:=Option.some.inj ac
 exact f.size
 rw[eS]
 show((T.w++ [(id,(s,v))]).map λe=>(e.1,e.2.2)).Perm _
 rw[List.map_append]
 exact List.perm_append_singleton _ _
theorem xw(h:en):h.cT.Perm (h.a7.ad.toList++(h.b::(h.bD.ad.toList++h.e7.ad.toList++h.dw.ad.toList))):=by
 unfold en.cT
 grind
theorem aeK(ac:h.cT.Nodup)(rows:List aT)(hs:∀g,s.ad=some g->h.a7.ad=some g∨g∉h.cT):({h with a7:=s,rows:=rows}:en).cT.Nodup:=by
 have h1:=(xw h).nodup_iff.1 ac;rw[(xw _).nodup_iff];rw[List.nodup_append] at h1 ⊢;obtain⟨_,h3,aZ⟩:=h1;refine⟨?_,h3,λc E c' e2 e=>?_⟩
 grind
 subst e;have E:s.ad=some c:=by simpa using E
 rcases hs c E with bJ|bJ
 grind
 exact bJ ((xw h).mem_iff.2 (List.mem_append_right _ e2))
def alT(aa:fp d (aq.mk h []).br){id:Int}{sv:J}(cr:mf ((aq.mk h []).br.fP []) v):fp d (aq.mk {h with a7:=s,rows:=h.rows++ [⟨id,sv,v⟩]} []).br/\(aq.mk {h with a7:=s,rows:=h.rows++ [⟨id,sv,v⟩]} []).br.all.Perm ((id,v)::(aq.mk h []).br.all):=by
 have aO:(aq.mk {h with a7:=s,rows:=h.rows++ [⟨id,sv,v⟩]} []).br.all=(aq.mk h []).br.all++ [(id,v)]:=by rw[aq.tW,aq.tW,aq.bC,aq.bC,aq.om];simp[aT.bV]
 have h1:=aa.jC;have h2:=aa.ins;refine⟨.mk h1 (λx I=>?_) λk hk=>(by rw[aq.gR] at hk;cases hk),by rw[aO];exact List.perm_append_singleton _ _⟩;rw[aO] at I;rcases List.mem_append.1 I with I|I;exact h2 x I;rw[List.mem_singleton.1 I];exact cr
def aqy{h1 h2:en}{p:Nat}(E:u p=some (.cells (fl h1).toArray 336 (0,0))){f:H->Prop}(M:f (u.ins p (.cells (fl h2).toArray 336 (0,0)))):
  H.an u (Addr.mk p 0 none) [.int .i64 h2.ax,.slice h2.bD.a h2.bD.n h2.bD.c,.slice h2.e7.a h2.e7.n h2.e7.c,.int .u64 (cK h2.ch),.int .u64 (cO h2.ch),.slice none 0 0,.slice h2.a7.a h2.a7.n h2.a7.c,.slice h2.dw.a h2.dw.n h2.dw.c] f:=
 ⟨_,_,E,rfl,by simp[fl],by simp[Value.oneCell'],by
  have e:wr (fl h1).toArray 0 [.int .i64 h2.ax,.slice h2.bD.a h2.bD.n h2.bD.c,.slice h2.e7.a h2.e7.n h2.e7.c,.int .u64 (cK h2.ch),.int .u64 (cO h2.ch),.slice none 0 0,.slice h2.a7.a h2.a7.n h2.a7.c,.slice h2.dw.a h2.dw.n h2.dw.c]=(fl h2).toArray:=by simp[wr,fl]
  show f (u.ins p (.cells (wr (fl h1).toArray 0 _) _ (0,0)));rw[e];exact M⟩
theorem apO{ub:H}{leaf:Int}{bm:Nat->Prop}{n0:aq}{aB:List jr}{id:Int}{sv:J}{Fin:H->Prop}(w:Way 2 ub u d v (λ_=>True) bm n0 aB (.mk h []))(qU:1<=leaf)(B8:ub.cell? ⟨b,0,none⟩=some (.int .i64 d))(ry:ub.cell? ((Addr.mk b 0 none).add 1)=some (.int .i64 leaf))
  (P5:Ints ub sv v) (oy:hp (h.rows++ [⟨id,sv,v⟩]) d) (cr:mf ((aq.mk h []).br.fP []) v) (fM:∀u' r,Down 2 ub u' d (id,v) (λ_=>True) (λy=>∀g,y.s.ad=some g->bm g∨sv.ad=some g) n0 r 1100->Fin u'):
  ∃Z7:Addr,((some (Addr.mk h.b 0 none))=(some Z7))/\(∃BT:J,((H.cell? u (Addr.add Z7 6))=(some (Value.slice BT.a BT.n BT.c)))/\(cx Tryz.prog (Instr.buildSlice 22 1 #[(0,(Value.agg #[(Value.int IntKind.i64 id),(Value.slice sv.a sv.n sv.c)]))]) [(aF.one al.slice)] u (λ(FL:J) (KT:H)=>(H.le u KT)/\(cx Tryz.prog (Builtin.append_ #[22,22] 22 #[(Value.slice BT.a BT.n BT.c),(Value.slice FL.a FL.n FL.c)]) [(aF.one al.slice)] KT (λ(RY:J) (u64:H)=>∃Z8:Addr,((some (Addr.mk h.b 0 none))=(some Z8))/\(H.an u64 (Addr.add Z8 6) [(Value.slice RY.a RY.n RY.c)] (λ(l8:H)=>∃Z9:Addr,((some (Addr.mk h.b 0 none))=(some Z9))/\(∃aaa:Addr,((some (Addr.mk b 0 none))=(some aaa))/\(∃FM:J,((H.cell? l8 (Addr.add Z9 6))=(some (Value.slice FM.a FM.n FM.c)))/\(∃Ti:Int,((H.cell? l8 (Addr.add aaa 1))=(some (Value.int IntKind.i64 Ti)))/\(((Ti<(FM.n:Int))->∃aab:Addr,((some (Addr.mk h.b 0 none))=(some aab))/\(∃BU:J,((H.cell? l8 (Addr.add aab 6))=(some (Value.slice BU.a BU.n BU.c)))/\(zv (some (Addr.mk b 0 none)) BU l8 (λ(ana:(Option Addr)) (oO:H)=>∃vm:Addr,(ana=(some vm))/\(∃acW:Int,((H.cell? oO vm)=(some (Value.int IntKind.i64 acW)))/\(∃BV:J,((H.cell? oO (Addr.add vm 1))=(some (Value.slice BV.a BV.n BV.c)))/\(∃BW:J,((H.cell? oO (Addr.add vm 2))=(some (Value.slice BW.a BW.n BW.c)))/\(∃acX:Int,((H.cell? oO (Addr.add vm 3))=(some (Value.int IntKind.u64 acX)))/\(∃acY:Int,((H.cell? oO (Addr.add vm 4))=(some (Value.int IntKind.u64 acY)))/\(∃BX:J,((H.cell? oO (Addr.add vm 5))=(some (Value.slice BX.a BX.n BX.c)))/\(∃BY:J,((H.cell? oO (Addr.add vm 6))=(some (Value.slice BY.a BY.n BY.c)))/\(∃uc:J,((H.cell? oO (Addr.add vm 7))=(some (Value.slice uc.a uc.n uc.c)))/\(∃aac:Addr,((some (Addr.mk h.b 0 none))=(some aac))/\(H.an oO aac [(Value.int IntKind.i64 acW),(Value.slice BV.a BV.n BV.c),(Value.slice BW.a BW.n BW.c),(Value.int IntKind.u64 acX),(Value.int IntKind.u64 acY),(Value.slice BX.a BX.n BX.c),(Value.slice BY.a BY.n BY.c),(Value.slice uc.a uc.n uc.c)] (λ(uh:H)=>Fin uh)))))))))))))))/\((¬(Ti<(FM.n:Int)))->Fin l8)))))))))))):=by
 obtain⟨lS,bX,mr,lk,eG⟩:=w.head
 obtain⟨h1,x2⟩:∃h1:en,h1=h:=⟨_,rfl⟩
 have gO:u h.b=some (.cells (fl h).toArray 336 (0,0)):=lS.cell
 have hO:aE ub u 34 2 h.a7 (h.rows.flatMap cG):=⟨lS.rws,w.base,λg N=>(mr g (by simp[en.cT,N])).1⟩
 have cY:h.a7.n=h.rows.length:=fx fh (by decide) hO.own.bR
 have qY:=oy.len
 rw[List.length_append] at qY
 simp only[List.length_cons,List.length_nil] at qY
 have ay:h.a7.ad≠some h.b:=λe=>by
  have h1:=(xw h).nodup_iff.1 bX
  grind
 have PN:∀g,(h.bD.ad=some g∨h.e7.ad=some g∨h.dw.ad=some g)->g∈h.cT/\g≠h.b/\h.a7.ad≠some g:=λg N=>by
  have h1:=(xw h).nodup_iff.1 bX;rw[List.nodup_append] at h1;have h2:g∈h.bD.ad.toList++h.e7.ad.toList++h.dw.ad.toList:=by grind
  exact⟨(xw h).mem_iff.2 (List.mem_append_right _ (List.mem_cons_of_mem _ h2)),λe=>(List.nodup_cons.1 h1.2.1).1 (by rw[<-e];exact h2),λe=>h1.2.2 g (by rw[e];simp) g (List.mem_cons_of_mem _ h2) rfl⟩
 refine⟨_,rfl,h.a7,aV gO 6,?_⟩
 refine vp nV (CY id sv) (by decide) rfl (by simp[Value.oneCell']) hO (by omega) (by omega) λs' u64 bG im eY ee _=>?_
 have bG:aE ub u64 34 2 s' ((h.rows++ [(⟨id,sv,v⟩:aT)]).flatMap cG):=by rw[List.flatMap_append];exact bG
 have kN:s'.ad≠some h.b:=λe=>by
  grind
 have aij:u64 h.b=some (.cells (fl h).toArray 336 (0,0)):=eY _ _ gO ay
 refine⟨_,rfl,SC aij s' (h.rows++ [⟨id,sv,v⟩]) ?_⟩
 obtain⟨g1,j0⟩:∃g1:en,g1={h with a7:=s',rows:=h.rows++ [⟨id,sv,v⟩]}:=⟨_,rfl⟩
 have agV:g1.b=h.b:=by rw[j0]
 rw[<-j0]
 obtain⟨l8,Qg⟩:∃l8,l8=u64.ins h.b (.cells (fl g1).toArray 336 (0,0)):=⟨_,rfl⟩
 rw[<-Qg]
 have MQ:l8 h.b=some (.cells (fl g1).toArray 336 (0,0)):=by rw[Qg];exact aS _ _ _
 have f66:∀c o,u64 c=some o->c≠h.b->l8 c=some o:=λc o E ah=>by rw[Qg,aL _ _ ah];exact E
 have Vq:∀c o,u c=some o->c≠h.b->h.a7.ad≠some c->l8 c=some o:=λc o E h2 h3=>f66 c o (eY c o E h3) h2
 have Q8:h.b∈h.cT:=List.mem_cons_self ..
 have Ra:∀{g},h.a7.ad=some g->g∈h.cT:=λ{g} e=>by simp[en.cT,e]
 have Nb:∀c o,u c=some o->c∉h.cT->l8 c=some o:=λc o E hm=>Vq c o E (λe=>hm (by rw[e];exact Q8)) λe=>hm (Ra e)
 have I5:ub.le l8:=λc o E=>Nb c o (w.base c o E) λhm=>by grind
 have Rs:aE ub l8 34 2 s' ((h.rows++ [(⟨id,sv,v⟩:aT)]).flatMap cG):=⟨bG.own.le λc o E U=>f66 c o U λe=>kN (by rw[<-e];exact E),I5,bG.fresh⟩
 have U0:l8.cell? ((Addr.mk h.b 0 none).add 6)=some (.slice s'.a s'.n s'.c):=by
  have:g1.a7=s':=by rw[j0]
  have kH:l8.cell? ((Addr.mk h.b 0 none).add 6)=some (.slice g1.a7.a g1.a7.n g1.a7.c):=aV MQ 6;rw[this] at kH;exact kH
 have Fj:(aq.mk h []).own=h.cT:=by unfold aq.own;rw[aq.bC,aq.om];simp
 have A3:∀r∈h.rows++ [(⟨id,sv,v⟩:aT)],Ints ub r.s r.v/\∀g,r.s.ad=some g->bm g∨sv.ad=some g:=λr W=>by
  grind
 refine⟨_,rfl,_,rfl,s',U0,leaf,H.le.cell I5 ry,λ_=>?_,λ_=>?_⟩
 obtain⟨KX,qa⟩:∃KX,KX=vo l8 s':=⟨_,rfl⟩
 have Q7:ub.le KX:=λc o E=>by rw[qa,rm (λe=>by rw[bG.fresh c e] at E;cases E)];exact I5 c o E
 refine⟨_,rfl,s',U0,Kl (ub:=KX) qU (H.le.cell Q7 B8) (H.le.cell Q7 ry) ⟨Rs.own,by rw[qa];exact R3 _ _,λg N=>by rw[qa];exact if_pos N⟩ (λr W=>((A3 r W).1).mono Q7) oy (λe=>absurd e (by simp)) λ_ oO di E PW=>?_⟩
 obtain⟨bW,kP⟩:=di
 have p5:=E.one (bW,kP.map aq.b) (by rw[aq.bC];grind)
 have nB:oO bW.b=some (.cells (fl bW).toArray 336 (0,0)):=p5.cell
 refine⟨_,rfl,_,aV nB 0,bW.bD,aV nB 1,bW.e7,aV nB 2,_,aV nB 3,_,aV nB 4,⟨none,0,0⟩,aV nB 5,bW.a7,aV nB 6,bW.dw,aV nB 7,_,rfl,?_⟩
 have MR:oO h.b=some (.cells (fl g1).toArray 336 (0,0)):=E.uG _ _ MQ kN
 refine aqy (h2:=bW) MR ?_
 obtain⟨g2,hJ⟩:∃g2:en,g2={bW with b:=h.b}:=⟨_,rfl⟩
 have agb:fl bW=fl g2:=by rw[hJ];rfl
 rw[agb]
 obtain⟨uh,I4⟩:∃uh,uh=oO.ins h.b (.cells (fl g2).toArray 336 (0,0)):=⟨_,rfl⟩
 rw[<-I4]
 have Aa:∀c o,oO c=some o->c≠h.b->uh c=some o:=λc o e2 ah=>by rw[I4,aL _ _ ah];exact e2
 have Pp:h.b∉(aq.mk bW kP).own:=λhm=>by have:=(E.out _ hm).1;rw[qa,rm kN,MQ] at this;cases this
 have Rr:(aq.mk bW kP).own=bW.b::((bW.bD.ad.toList++bW.e7.ad.toList++bW.a7.ad.toList++bW.dw.ad.toList)++kP.flatMap aq.own):=by rw[aq.pu];rfl
 have am4:(aq.mk g2 kP).own=h.b::((bW.bD.ad.toList++bW.e7.ad.toList++bW.a7.ad.toList++bW.dw.ad.toList)++kP.flatMap aq.own):=by rw[aq.pu,hJ];rfl
 have Oy:(aq.mk g2 kP).bC=(g2,kP.map aq.b)::aq.om kP:=by rw[aq.bC]
 have aiA:(aq.mk bW kP).bC=(bW,kP.map aq.b)::aq.om kP:=by rw[aq.bC]
 have RF:(aq.mk g2 kP).br=(aq.mk bW kP).br:=by rw[aq.gR,aq.gR,hJ];rfl
 have p2:=E.nodup
 have aqG:∀c∈(aq.mk g2 kP).own,c=h.b∨c∈(aq.mk bW kP).own:=λc dU=>by
  grind
 have Vs:∀c o,u c=some o->c∉(aq.mk h []).own->uh c=some o:=λc o e2 hm=>by
  rw[Fj] at hm;refine Aa c o (E.uG c o (Nb c o e2 hm) λe=>?_) λe=>hm (by rw[e];exact Q8)
  grind
 have Yj:ub.le uh:=λc o e2=>Vs c o (w.base c o e2) λhm=>by rw[Fj] at hm;rw[(mr c hm).1] at e2;cases e2
 have alv:∀{x:en×List Nat},gY oO x->(∀c∈x.1.cT,c≠h.b)->(∀r∈x.1.rows,r∈h.rows++ [(⟨id,sv,v⟩:aT)])->gY uh x:=λI Z W=>I.bd (λc o dU U=>Aa c o U (Z c dU)) λr gx=>((A3 r (W r gx)).1).mono Yj
 refine fM uh _ (Way.down w (n':=.mk g2 kP) (by rw[show(aq.mk g2 kP).b=g2.b from rfl,hJ];rfl) (λx I=>?_) ?_ (λc o e2 _ hm=>Vs c o e2 hm) (λc dU=>?_) (λx I y af=>?_) (λy af g N=>.inl (af g N)) ?_ (by rw[RF];exact E.ok) (by rw[RF];exact PW) ?_)
 rw[Oy] at I
 rcases List.mem_cons.1 I with rfl|I
 have aP:∀g,(bW.bD.ad=some g∨bW.e7.ad=some g∨bW.a7.ad=some g∨bW.dw.ad=some g)->g≠h.b:=λg N e=>Pp (by
   rw[Rr,<-e];refine List.mem_cons_of_mem _ (List.mem_append_left _ ?_);rw[List.mem_append,List.mem_append,List.mem_append]
   grind)
 have ake:∀r∈bW.rows,r∈h.rows++ [(⟨id,sv,v⟩:aT)]:=λr W=>E.rows (bW,kP.map aq.b) (by grind) r W
 rw[hJ]
 refine⟨?_,p5.bz.le λc o qQ U=>Aa c o U (aP c (.inl qQ)),p5.hi.le λc o qQ U=>Aa c o U (aP c (.inr (.inl qQ))),p5.rws.le λc o qQ U=>Aa c o U (aP c (.inr (.inr (.inl qQ)))),λr W=>((A3 r (ake r W)).1).mono Yj,bb.else p5.nf λc o qQ U=>Aa c o U (aP c (.inr (.inr (.inr qQ))))⟩
 show uh h.b=_
 rw[I4,aS,hJ]
 have dV:x∈(aq.mk bW kP).bC:=by grind
 exact alv (E.one x dV) (λc dU e=>Pp (by rw[<-e];exact List.mem_flatMap.2 ⟨x,dV,dU⟩)) (E.rows x dV)
 rw[am4,List.nodup_cons]
 rw[Rr,List.nodup_cons] at p2
 exact⟨λhm=>Pp (by rw[Rr];exact List.mem_cons_of_mem _ hm),p2.2⟩
 rcases aqG c dU with rfl|dU
 exact⟨.inl (by rw[Fj];exact Q8),by rw[I4,aS];simp⟩
 obtain⟨cC,cz⟩:=E.out c dU
 refine⟨?_,?_⟩
 by_cases e:s'.ad=some c
 grind
 rw[qa,rm e] at cC
 cases I:u c with
 |none=>grind
 |some o=>
  grind
 obtain⟨o,U⟩:=Option.ne_none_iff_exists'.1 cz
 grind
 rw[Oy] at I
 rcases List.mem_cons.1 I with rfl|I
 exact(A3 y (E.rows (bW,kP.map aq.b) (by grind) y (by rw[hJ] at af;exact af))).2
 exact(A3 y (E.rows x (by grind) y af)).2
 rw[RF]
 refine E.all.trans ?_
 rw[List.map_append,aq.tW,aq.bC,aq.om]
 simp only[List.flatMap_cons,List.flatMap_nil,List.append_nil]
 exact List.perm_append_singleton _ _
 have:=E.size
 rw[aiA] at this
 rw[Oy]
 rw[List.length_append] at this
 simp only[List.length_cons,List.length_nil] at this ⊢
 omega
 have ai:=alT (id:=id) (sv:=sv) (s:=s') (JQ aB w.ok) cr
 rw[<-j0] at ai
 have ZD:(aq.mk g1 []).own=g1.cT:=by unfold aq.own;rw[aq.bC,aq.om];simp
 have amG:(aq.mk g1 []).bC=[(g1,[])]:=by rw[aq.bC,aq.om];rfl
 have amf:∀c∈g1.cT,c=h.b∨(h.bD.ad=some c∨h.e7.ad=some c∨h.dw.ad=some c)∨s'.ad=some c:=λc E=>by
  rw[j0] at E;have E:=(xw _).mem_iff.1 E
  grind
 refine fM l8 _ (Way.down w (n':=.mk g1 []) agV (λx I=>?_) ?_ (λc o E _ hm=>Nb c o E (by rw[<-Fj];exact hm)) (λc E=>?_) (λx I y af=>?_) (λy af g N=>.inl (af g N)) ai.2 ai.1 ?_ (by grind))
 rw[amG,List.mem_singleton] at I
 subst I
 have cv:∀{s:J} {c:Nat} {o:Obj},(h.bD.ad=some c∨h.e7.ad=some c∨h.dw.ad=some c)->u c=some o->l8 c=some o:=λ{s c o} E U=>Vq c o U (PN c E).2.1 (PN c E).2.2
 refine⟨by grind,?_,?_,?_,λr W=>?_,?_⟩
 rw[j0];exact lS.bz.le λc o E U=>cv (s:=h.bD) (.inl E) U
 rw[j0];exact lS.hi.le λc o E U=>cv (s:=h.bD) (.inr (.inl E)) U
 rw[j0];exact Rs.own
 rw[j0] at W;exact((A3 r W).1).mono I5
 rw[j0];exact bb.else lS.nf λc o E U=>cv (s:=h.bD) (.inr (.inr E)) U
 rw[ZD,j0]
 refine aeK bX _ λg N=>(ee g N).imp (λe=>e) λe hm=>(mr g hm).2.1 e
 rw[ZD] at E
 rw[Fj]
 rcases amf c E with rfl|E|E
 grind
 obtain⟨cC,cz,ff⟩:=PN c E
 obtain⟨o,U⟩:=Option.ne_none_iff_exists'.1 (mr c cC).2.1
 grind
 exact⟨(ee c E).imp Ra (λe=>⟨e,trivial⟩),fj Rs E⟩
 grind
 rw[aq.gR]
 refine .mk ?_ λk hk=>(by cases hk)
 show g1.ax=2
 rw[j0]
 exact eG
structure adN(Y u:H)(ab:Nat->Option aN)(b:Nat)(T:ak)(id:Int)(u':H)(aM:Nat->Option aN)(T':ak):Prop where
 is:In Y u' aM b T'
 cL:gu u ab u' aM
 ok:dj T'
 rows:b7 T'=(b7 T).filter λx=>x.1 !=id
 ao:T'.ao=T.ao
 leaf:T'.leaf=T.leaf
 ez:T'.ez=T.ez
 no:id∉T'.w.map (·.1)
 iH:T'.w.length<512
theorem ao0{ab:Nat->Option aN}{T:ak}{id:Int}(h:In Y u ab b T)(aJ:dj T)(kL:T.ez<=4000)(qR:id∉T.w.map (·.1)->T.w.length<512)
  (ae:∀cF u' aM T',adN Y u ab b T id u' aM T'->K cF 0 u'):GF (some ⟨b,0,none⟩) id u K:=by
 refine vt h aJ kL (λdp aI gl=>ae _ aI ab T ⟨h.mono bd gl,gu.mono gl,aJ,?_,rfl,rfl,rfl,dp,qR dp⟩) λcr aI cX a6 W=>ae _ aI cX a6 ⟨W.is,W.cL,W.ok,W.rows,W.ao,W.leaf,W.ez,?_,?_⟩
 refine(List.filter_eq_self.2 λx I=>?_).symm
 have:x.1≠id:=λe=>dp (by rw[<-vd];grind)
 simpa using this
 rw[<-vd,W.rows]
 grind
 have hs:=aJ.small
 have aO:a6.w.length=(b7 a6).length:=by simp[b7]
 have ar:T.w.length=(b7 T).length:=by simp[b7]
 rw[<-vd] at cr
 obtain⟨p,aa,e⟩:=List.mem_map.1 cr
 have:((b7 T).filter λp=>p.1 !=id).length<(b7 T).length:=List.length_filter_lt_length_iff_exists.2 ⟨p,aa,by simp[e]⟩
 rw[W.rows] at aO
 omega
def aeN(aa:fp d (aq.mk h ks).br)(eG:h.ax=2):(h.bz.length:Int)=d/\(h.hi.length:Int)=d:=by have h1:=aa.jC;rw[aq.gR] at h1;obtain⟨_,_,_,hs⟩:=h1;rcases hs with⟨e,_⟩|⟨_,e⟩|⟨e,_⟩;have:h.ax=1:=e;omega;exact⟨e.2.2.2.1,e.2.2.2.2.1⟩;have:h.ax=3:=e;omega
def Zp:∀{l:List Nat} {x:Nat},x∈l->x<=l.sum
 |y::l,x,h=>by rw[List.sum_cons];rcases List.mem_cons.1 h with rfl|h;omega;have:=Zp h;omega
def alC(hi:i<ks.length):ks[i].bC.length<(aq.mk h ks).bC.length:=by rw[aq.bC,aq.Io,List.length_cons,List.length_flatMap];have:ks[i].bC.length<=(ks.map λk=>k.bC.length).sum:=Zp (List.mem_map.2 ⟨ks[i],List.getElem_mem hi,rfl⟩);omega
theorem zb{ab:Nat->Option aN}{T:ak}{id:Int}{t:J}(h:In Y u ab b T)(aJ:dj T)(kL:T.ez<=4000)(ht:Ints u t q)(pg:∀aI cX,Y.le aI->gu u ab aI cX->Ints aI t q)
  (dT:hA id q T.ao (decide (id∈(b7 T).map (·.1))) (b7 T).length≠0->K false (hA id q T.ao (decide (id∈(b7 T).map (·.1))) (b7 T).length) u)
  (bL:hA id q T.ao (decide (id∈(b7 T).map (·.1))) (b7 T).length=0->∀u' aM T',zJ Y u ab b T id q u' aM T'->K (decide (id∉(b7 T).map (·.1))) 0 u'):TI (some ⟨b,0,none⟩) id t u K:=by
 apply asO
 refine⟨λe=>(by cases e),λ_=>⟨_,rfl,_,aV h.az.cell 3,?_⟩⟩
 obtain⟨y,af,gk⟩:∃y:J,(eF (du T.w) id).getD (.slice none 0 0)=al.slice.enc y/\(eF (du T.w) id).isSome=decide (id∈(b7 T).map (·.1)):=by rw[vd];rcases od T.w id with⟨N,hm⟩|⟨e,he,hid,N⟩;exact⟨⟨none,0,0⟩,by rw[N];rfl,by grind⟩;exact⟨e.2.1,by rw[N];rfl,by grind⟩
 refine mE gJ h.az.map (ct:=.slice) y af ?_
 rw[gk]
 refine⟨_,rfl,_,rfl,_,aV h.az.cell 0,_,aV h.az.cell 3,sH gJ h.az.map ⟨H.le.refl u,Kq ht ?_⟩⟩
 rw[HH]
 refine⟨λah=>dT ah,λhe=>?_⟩
 have bL:=bL he
 obtain⟨d1,d2,Qn,d4⟩:1<=id/\id<=1000000000/\fV q T.ao=0/\(decide (id∈(b7 T).map (·.1))=false->((b7 T).length:Int)<512):=by
  unfold hA at he
  grind
 obtain⟨aO,ar,cq,eD⟩:=rz Qn
 have Z:(!decide (decide (id∈(b7 T).map (·.1))=true))=decide (id∉(b7 T).map (·.1)):=by grind
 have dJ:∀z:H,K (decide (id∉(b7 T).map (·.1))) 0 z->K (!decide (decide (id∈(b7 T).map (·.1))=true)) 0 z:=λz aP=>by rw[Z];exact aP
 refine ao0 h aJ kL (λdp=>?_) λ_ aI cX a6 N=>?_
 have:=d4 (decide_eq_false (by rw[vd];exact dp))
 have e6:T.w.length=(b7 T).length:=by simp[b7]
 omega
 have i1:=N.is
 have jB:=N.ok
 have uT:=pg aI cX i1.le N.cL
 refine rq uT (by have:=uT.len;omega) λfZ hR io _=>?_
 have E2:=io.le
 have az:=(jT.mono bd i1 E2).az
 refine⟨_,rfl,_,aV az.cell 3,y8 gJ az.map (tm.2 (by unfold du;rw[List.map_map];exact N.no)) λl3 kp=>?_⟩
 obtain⟨gp,I1⟩:∃gp,gp=hR.ins a6.m l3:=⟨_,rfl⟩
 rw[<-I1] at kp ⊢
 have m20:gp a6.m=some l3:=by rw[I1];exact aS _ _ _
 have C5:∀c o,hR c=some o->c≠a6.m->gp c=some o:=λc o E ah=>by rw[I1,aL _ _ ah];exact E
 have lp:∀{c},cX c≠some .map->c≠a6.m:=λE e=>E (by rw[e];exact az.dq)
 have n20:∀{c},gp c=none->aI c=none/\fZ.ad≠some c:=λ{c} E=>by
  have ah:c≠a6.m:=λe=>by grind
  have Al:hR c=none:=by rw[I1,aL _ _ ah] at E;exact E
  exact⟨E2.none Al,λe=>fj io e Al⟩
 have smap:∀g,fZ.ad=some g->aI g=none/\g≠a6.m:=λg cH=>⟨io.fresh g cH,λe=>by have:=i1.known a6.m (by rw[az.dq];simp);rw[<-e] at this;exact this (io.fresh g cH)⟩
 have Xw:dI gp a6.m (du (a6.w++ [(id,(fZ,q))])):=by
  have:du (a6.w++ [(id,(fZ,q))])=du a6.w++ [(id,.slice fZ.a fZ.n fZ.c)]:=by simp[du]
  rw[this];exact kp
 have KH:Ints gp fZ q:=bb.else io.ints λg o cH U=>C5 g o U (smap g cH).2
 have c20:gp b=some (.cells (fw a6).toArray 238 (0,0)):=C5 _ _ az.cell (lp (by rw[az.eh];simp))
 have aqV:gp.cell? ⟨b,0,none⟩=some (.int .i64 a6.ao):=aV c20 0
 have aqX:gp.cell? ((Addr.mk b 0 none).add 1)=some (.int .i64 a6.leaf):=aV c20 1
 have ys:(q.length:Int)=a6.ao:=by rw[N.ao];exact cq
 have fin:∀u' r,My aI cX b a6 id fZ q u' r->K (!decide (decide (id∈(b7 T).map (·.1))=true)) 0 u':=λu' r M=>by obtain⟨aM,T',f1,f2,f3,f4,f5,f6,f7⟩:=M.anU i1 jB ⟨d1,d2⟩ ⟨ys,eD⟩ N.iH;refine dJ _ (bL u' aM T' ⟨f1,N.cL.trans f2,f3,by rw[<-N.rows];exact f4,f5.trans N.ao,f6.trans N.leaf,by rw[<-N.ez];exact f7⟩)
 have XY:∀l:List aT,((l.map aT.bV).Perm ((id,q)::l4 a6)∨∃m:List iC,((l.map aT.bV)++m).Perm ((id,q)::l4 a6))->hp l a6.ao:=λl ai=>by
  obtain⟨m,hm⟩:∃m:List iC,((l.map aT.bV)++m).Perm ((id,q)::l4 a6):=ai.elim (λh=>⟨[],by grind⟩) λh=>h;have fD:((l.map aT.bV)++m).Perm ((id,q)::b7 a6):=hm.trans (List.Perm.cons _ jB.rows);have bX:(((id,q)::b7 a6).map (·.1)).Nodup:=by rw[List.map_cons,List.nodup_cons];exact⟨by rw[vd];exact N.no,i1.az.zk⟩
  have hlen:=fD.length_eq;have qR:=N.iH;simp only[List.length_append,List.length_map,List.length_cons,b7] at hlen;refine JZ jB.ii (by omega) ?_ λp aa=>?_;have:=(fD.map (·.1)).nodup_iff.2 bX;rw[List.map_append,List.nodup_append] at this;rw[show l.map (·.id)=(l.map aT.bV).map (·.1) by rw[List.map_map];rfl];exact this.1;rcases List.mem_cons.1 (fD.mem_iff.1 (List.mem_append_left _ aa)) with rfl|aa
  grind
  obtain⟨e,eY,rfl⟩:=List.mem_map.1 aa;exact⟨(jB.ids e eY).1,(jB.ids e eY).2,jB.vec e eY⟩
 cases nJ:a6.root with
 |none=>
  have wj:gp.cell? ((Addr.mk b 0 none).add 2)=some (.pointer none):=by
   have I:fw a6=[.int .i64 a6.ao,.int .i64 a6.leaf,.pointer none,.map (some a6.m)]:=by simp[fw,nJ]
   rw[I] at c20;exact aV c20 2
  have DD:l4 a6=[]:=by unfold l4;rw[nJ]
  refine⟨_,rfl,none,wj,λ_=>?_,λah=>absurd rfl ah⟩;refine nU (CY id fZ) λg Iu=>?_;obtain⟨JN,XM⟩:∃JN,JN=(Obj.cells [Value.int .i64 id,.slice fZ.a fZ.n fZ.c].toArray 34 (0,0)):=⟨_,rfl⟩;rw[<-XM];have alI:gp.le (gp.ins g JN):=bN _ Iu;have IL:aE gp (gp.ins g JN) 34 2 ⟨some ⟨g,0,none⟩,1,1⟩ (([⟨id,fZ,q⟩]:List aT).flatMap cG):=by rw[XM];exact aE.make (H.le.refl gp) Iu (cells:=[Value.int .i64 id,.slice fZ.a fZ.n fZ.c].toArray) (n:=1) (by omega) rfl
  refine Kl (ub:=gp) (by have:=jB.lf;omega) aqV aqX IL (λr W=>by rw[List.mem_singleton.1 W];exact KH) (XY _ (.inl (by rw[DD];exact .refl _))) (λe=>by cases e) λ_ KQ di E eG=>?_;have avL:g≠b:=λe=>by grind
  have EW:∀c o,gp c=some o->KQ c=some o:=λc o e2=>E.uG c o (alI c o e2) λe=>by
   have:g=c:=by simpa[J.ad] using e
   grind
  have ae7:KQ b=some (.cells #[.int .i64 a6.ao,.int .i64 a6.leaf,.pointer none,.map (some a6.m)] 238 (0,0)):=by have:=EW _ _ c20;rw[show fw a6=[.int .i64 a6.ao,.int .i64 a6.leaf,.pointer none,.map (some a6.m)] by simp[fw,nJ]] at this;exact this
  refine⟨_,rfl,abE ae7 ?_⟩;obtain⟨Ga,I2⟩:∃Ga,Ga=KQ.ins b (.cells #[.int .i64 a6.ao,.int .i64 a6.leaf,.pointer (some ⟨di.b,0,none⟩),.map (some a6.m)] 238 (0,0)):=⟨_,rfl⟩;rw[<-I2];have EX:∀c o,KQ c=some o->c≠b->Ga c=some o:=λc o e2 ah=>by rw[I2,aL _ _ ah];exact e2
  have aeM:b∉di.own:=λe=>by have:=(E.out b e).1;grind
  have CW:a6.m≠b:=λe=>by have h1:=az.dq;rw[e,az.eh] at h1;cases h1
  have ga:∀bS,fZ.ad=some bS->bS≠b:=λbS cH e=>by
   have:=i1.known b (by rw[az.eh];simp)
   grind
  have alq:∀c o,aI c=some o->c≠a6.m->c≠b->Ga c=some o:=λc o e2 h1 h2=>EX c o (EW c o (C5 c o (E2 c o e2) h1)) h2;refine fin Ga di ⟨?_,Xw.else λo U=>EX _ o (EW _ o U) CW,bb.else KH λbS o cH U=>EX bS o (EW bS o U) (ga bS cH),λbS cH=>⟨(smap bS cH).1,?_⟩,λc o e2 M=>?_,λc e2 M=>?_,λx I=>?_,E.nodup,λc e2=>?_,λx I r W bS cH=>?_,?_,E.ok,eG,?_⟩;rw[I2,aS];rfl;obtain⟨o,U⟩:=Option.ne_none_iff_exists'.1 (fj io cH)
  grind
  refine alq c o e2 (lp ?_) λe=>?_
  grind
  rw[e,az.eh] at M
  grind
  by_cases h1:c=a6.m
  grind
  by_cases h2:c=b;rw[h2,I2,aS];simp;obtain⟨o,U⟩:=Option.ne_none_iff_exists'.1 e2
  grind
  refine(E.one x I).bd (λc o dU U=>EX c o U λe=>aeM (by rw[<-e];exact List.mem_flatMap.2 ⟨x,I,dU⟩)) λr W=>?_;rw[List.mem_singleton.1 (E.rows x I r W)];exact bb.else KH λbS o cH U=>EX bS o (EW bS o U) (ga bS cH);obtain⟨cC,cz⟩:=E.out c e2;obtain⟨o,U⟩:=Option.ne_none_iff_exists'.1 cz
  grind
  rw[List.mem_singleton.1 (E.rows x I r W)] at cH;exact .inr cH;rw[DD];exact E.all;have:=E.size
  grind
 |some n0=>
  obtain⟨cC,cz,ff,jn⟩:=az.one n0 nJ;have wj:gp.cell? ((Addr.mk b 0 none).add 2)=some (.pointer (some ⟨n0.b,0,none⟩)):=by
   have I:fw a6=[.int .i64 a6.ao,.int .i64 a6.leaf,.pointer (some ⟨n0.b,0,none⟩),.map (some a6.m)]:=by simp[fw,nJ]
   rw[I] at c20;exact aV c20 2
  have DD:l4 a6=n0.br.all:=by unfold l4;rw[nJ]
  obtain⟨ub,cy⟩:∃ub:H,ub=λc=>open Classical in if c∈n0.own then none else gp c:=⟨_,rfl⟩;have Gb:∀{c},c∈n0.own->ub c=none:=λE=>by rw[cy];exact if_pos E
  have jq:∀{c},c∉n0.own->ub c=gp c:=λE=>by rw[cy];exact if_neg E
  have lub:ub.le gp:=λc bn E=>by
   grind
  have nR:∀{c},cX c≠some .node->c∉n0.own:=λE e=>E (ff _ e);have axz:∀g,fZ.ad=some g->g∉n0.own:=λg cH e=>i1.known g (by rw[ff g e];simp) (smap g cH).1;have uC:ub b=some (.cells (fw a6).toArray 238 (0,0)):=by rw[jq (nR (by rw[az.eh];simp))];exact c20
  have KJ:Ints ub fZ q:=bb.else KH λg o cH U=>by grind
  have Vo:∀c o,hR c=some o->cX c≠some .map->cX c≠some .node->ub c=some o:=λc o E h1 h2=>by grind
  have Yo:∀x∈n0.bC,∀r∈x.1.rows,Ints ub r.s r.v:=λx I r W=>bb.else ((cC x I).vec r W) λg o cH U=>Vo g o U (by grind) (by grind);have mG:Way 2 ub gp a6.ao q (λ_=>True) (λg=>cX g=some .vec) n0 [] n0:=by
   refine Way.start lub (λ_ _=>trivial) (λx I=>(cC x I).bd (λc o E U=>C5 c o U (lp ?_)) λr W=>(Yo x I r W).mono lub) cz (λc E=>⟨Gb E,?_,trivial⟩) (λx I r W=>⟨Yo x I r W,λg cH=>jn x I r W g cH⟩) (jB.ok n0 nJ) (jB.py n0 nJ);rw[ff c (List.mem_flatMap.2 ⟨x,I,E⟩)];simp;have hk:=i1.known c (by rw[ff c E];simp)
   grind
  refine⟨_,rfl,_,wj,λe=>(by cases e),λ_=>⟨_,rfl,_,wj,?_⟩⟩
  let At:Option Addr->H->Nat->Prop:=λp w f=>∃aB n,p=some ⟨n.b,0,none⟩/\Way 2 ub w a6.ao q (λ_=>True) (λg=>cX g=some .vec) n0 aB n/\n.bC.length=f
  refine⟨λp w=>∃f,At p w f,λp w=>least (At p w),⟨_,[],n0,rfl,mG,rfl⟩,λZL Cb bQ=>?_⟩;have oo:=Bp bQ;generalize hf:least (At ZL Cb)=f at oo;obtain⟨aB,n,aa,w,XG⟩:=oo;obtain⟨gK,ks⟩:=n;obtain rfl:ZL=some ⟨gK.b,0,none⟩:=aa;obtain⟨lS,bX,mr,lk,eG⟩:=w.head;have sd:=JQ aB w.ok;obtain⟨avm,avn⟩:=aeN sd eG;refine apx KJ w.base lS bX (λc E=>(mr c E).1) (λr W=>(lk r W).1) (by omega) (by omega) (by have:=jB.ii;omega) λjD PG cQ il=>?_;obtain⟨pS,Dk⟩:=ag3 (ks:=ks) eG sd eD ys;have KZ:Way 2 ub jD a6.ao q (λ_=>True) (λg=>cX g=some .vec) n0 aB (.mk (qN gK q) ks):=w.cL rfl rfl rfl PG cQ il pS;have ae9:jD gK.b=some (.cells (fl (qN gK q)).toArray 336 (0,0)):=PG.cell;have C0:jD.cell? ((Addr.mk gK.b 0 none).add 7)=some (.slice gK.dw.a gK.dw.n gK.dw.c):=aV ae9 7;have lW:bb jD gK.dw 1 ((ks.map aq.b).map λn=>.pointer (some ⟨n,0,none⟩)):=PG.nf;have X7:gK.dw.n=ks.length:=by have:=lW.len;simpa using this.symm
  have hI:=bb.cap lW;have uX:=bb.max lW;refine⟨_,rfl,gK.dw,C0,λh0=>?_,λh0=>?_⟩;obtain rfl:ks=[]:=List.eq_nil_of_length_eq_zero (by omega);refine apO (h:=qN gK q) KZ (by have:=jB.lf;omega) (aV uC 0) (aV uC 1) KJ (XY _ (.inr ?_)) Dk λu' r aj=>fin u' r ?_;refine⟨(hG aB gK.b).flatMap λx=>x.1.rows.map aT.bV,?_⟩;have e6:=(Fy aB (.mk gK [])).symm.trans w.all;rw[DD];have ob:(aq.mk gK []).br.all=gK.rows.map aT.bV:=by rw[aq.tW,aq.bC,aq.om];simp
  rw[ob] at e6;rw[List.map_append];refine(List.Perm.append_right _ (List.perm_append_singleton _ _)).trans ?_;exact List.Perm.cons _ e6;have bt:fw {a6 with root:=some r}=fw a6:=by simp[fw,nJ,aj.b]
  refine⟨by rw[bt];exact aj.le _ _ uC,?_,KJ.mono aj.le,λg cH=>⟨(smap g cH).1,?_⟩,λc o E M=>?_,λc E M=>?_,aj.one,aj.nodup,λc E=>⟨?_,(aj.own c E).2⟩,λx I y af g cH=>aj.rws x I y af g cH,by rw[DD];exact aj.all,aj.ok,aj.py,?_⟩;exact Xw.else λo U=>aj.le _ _ (by grind);obtain⟨o,U⟩:=Option.ne_none_iff_exists'.1 (fj io cH);rw[aj.le g o (by grind)];simp;exact aj.le c o (Vo c o (E2 c o E) (by grind) (by grind));by_cases h1:c=a6.m;rw[h1,aj.le _ _ (by rw[jq (nR (by rw[az.dq];simp))];exact m20)];simp;obtain⟨o,U⟩:=Option.ne_none_iff_exists'.1 E;rw[aj.le c o (by rw[jq (nR M)];exact C5 c o (E2 c o U) h1)];simp;have h1:=(aj.own c E).1.1
  grind
  have h1:=aj.size;have h2:=jB.size n0 nJ;omega;have lb:0<ks.length:=by omega
  have nf:∀(i:Nat) (hi:i<ks.length),gY jD (ks[i].h,ks[i].kids.map aq.b)/\k5 (ks[i].br.fP []) q.length:=λi hi=>by
   have Ea:(ks[i].h,ks[i].kids.map aq.b)∈(aq.mk (qN gK q) ks).bC++hG aB (aq.mk (qN gK q) ks).b:=by rw[aq.bC,aq.Io];refine List.mem_append_left _ (List.mem_cons_of_mem _ (List.mem_flatMap.2 ⟨ks[i],List.getElem_mem hi,?_⟩));rw[aq.gg];exact List.mem_cons_self ..
   refine⟨KZ.one _ Ea,?_⟩;have h3:=pS.kids ks[i].br (by rw[aq.gR];exact List.mem_map_of_mem (List.getElem_mem hi));rw[ys];exact h3.jC
  have vi:∀(i:Nat) (hi:i<ks.length) {Q:Int->Int->Int->H->Prop},(∀x y,Q x y 0 jD)->∃acZ:Int,((H.cell? jD ⟨ks[i].b,0,none⟩)=(some (Value.int IntKind.i64 acZ)))/\(∃J2:J,((H.cell? jD (Addr.add ⟨ks[i].b,0,none⟩ 1))=(some (Value.slice J2.a J2.n J2.c)))/\(∃J3:J,((H.cell? jD (Addr.add ⟨ks[i].b,0,none⟩ 2))=(some (Value.slice J3.a J3.n J3.c)))/\(∃ac0:Int,((H.cell? jD (Addr.add ⟨ks[i].b,0,none⟩ 3))=(some (Value.int IntKind.u64 ac0)))/\(∃ac1:Int,((H.cell? jD (Addr.add ⟨ks[i].b,0,none⟩ 4))=(some (Value.int IntKind.u64 ac1)))/\(∃J4:J,((H.cell? jD (Addr.add ⟨ks[i].b,0,none⟩ 5))=(some (Value.slice J4.a J4.n J4.c)))/\(vC acZ J2 J3 ac0 ac1 J4 fZ jD Q)))))):=λi hi Q ed=>by
   obtain⟨kQ,yM⟩:=nf i hi;have Bf:jD ks[i].b=some (.cells (fl ks[i].h).toArray 336 (0,0)):=kQ.cell;have W:(ks[i].br.fP [])=⟨ks[i].h.ax,⟨none,0,0⟩,⟨none,0,0⟩,ks[i].h.ch,⟨none,0,0⟩,ks[i].h.bz,ks[i].h.hi,[]⟩:=by rw[aq.gR];rfl
   rw[W] at yM;exact⟨_,aV Bf 0,ks[i].h.bD,aV Bf 1,ks[i].h.e7,aV Bf 2,_,aV Bf 3,_,aV Bf 4,⟨none,0,0⟩,aV Bf 5,
    Kx (r:=⟨ks[i].h.ax,ks[i].h.bD,ks[i].h.e7,ks[i].h.ch,⟨none,0,0⟩,ks[i].h.bz,ks[i].h.hi,[]⟩) kQ.bz.f.ints kQ.hi.f.ints ⟨yM.ao,yM.ids,yM.id,yM.shape⟩ (.inl rfl) (KJ.mono KZ.base) eD (ed _ _)⟩
  obtain⟨a0,ah6,km⟩:=JS lW (i:=0) (by simpa using lb);rw[List.getElem_map] at km;refine⟨_,rfl,gK.dw,C0,a0,ah6,⟨by omega,by omega⟩,_,by simpa using km,_,rfl,vi 0 lb λaxS axT=>⟨_,rfl,gK.dw,C0,?_⟩⟩;refine oM SJ (l:=1) (h:=gK.dw.n) (m:=gK.dw.c) (.inr rfl) (.inl ⟨rfl,rfl⟩) (.inl ⟨rfl,rfl⟩) (by omega) hI (Nat.le_refl _) hI ?_;have akk:bb jD (gK.dw.part 1 gK.dw.n gK.dw.c 1) 1 (((ks.drop 1).map aq.b).map λn=>.pointer (some ⟨n,0,none⟩)):=by have:=bb.part lW (l:=1) (h:=gK.dw.n) (m:=gK.dw.c) (by omega) (Nat.le_refl _) hI (Nat.le_refl _);rw[List.take_of_length_le (by simp;omega)] at this;rw[List.map_drop,List.map_drop];exact this
  have ef:(gK.dw.part 1 gK.dw.n gK.dw.c 1).n=ks.length-1:=by show gK.dw.n-1=_;omega
  refine⟨λp x _ _ w=>0<=x/\w=jD/\∃(i:Nat) (hi:i<ks.length),p=some ⟨ks[i].b,0,none⟩,λ_ x _ _ _=>((ks.length:Int)-x).toNat,⟨by omega,rfl,0,lb,rfl⟩,?_⟩;rintro axj vy axL axM sM ⟨b0,rfl,i,hi,rfl⟩;refine⟨λI=>?_,λI=>?_⟩;have gm:vy.toNat+1<ks.length:=by omega
  obtain⟨O,DC,iR⟩:=JS akk (i:=vy.toNat) (by grind);rw[List.getElem_map,List.getElem_drop] at iR;have ex:1+vy.toNat=vy.toNat+1:=by omega
  simp only[ex] at iR;have bo:∀(p:Option Addr),(∃(i:Nat) (hi:i<ks.length),p=some ⟨ks[i].b,0,none⟩)->(ba (vy+1))/\((0<=vy+1/\sM=sM/\∃(i:Nat) (hi:i<ks.length),p=some ⟨ks[i].b,0,none⟩)/\((ks.length:Int)-(vy+1)).toNat<((ks.length:Int)-vy).toNat):=λp ji=>⟨⟨by omega,by omega⟩,⟨by omega,rfl,ji⟩,by omega⟩;refine⟨O,DC,⟨b0,I⟩,_,iR,_,rfl,vi (vy.toNat+1) gm λaxN axO adQ ae=>?_⟩;have mS:∀cF,adQ cF sM:=λcF=>ae cF sM ⟨λ_=>bo _ ⟨_,gm,rfl⟩,λ_=>bo _ ⟨i,hi,rfl⟩⟩;exact⟨λ_=>mS _,λ_=>⟨λ_=>mS _,λ_=>mS _⟩⟩;have ou:ks=ks.take i++ks[i]::ks.drop (i+1):=by rw[<-List.drop_eq_getElem_cons hi,List.take_append_drop]
  have hw:Way 2 ub sM a6.ao q (λ_=>True) (λg=>cX g=some .vec) n0 (⟨qN gK q,ks.take i,ks.drop (i+1)⟩::aB) ks[i]:=by refine Way.nf (by rw[<-ou];exact KZ) ?_;rw[aq.gR] at Dk;exact Dk
  have bh:=alC (h:=gK) hi;have pb:At (some ⟨ks[i].b,0,none⟩) sM ks[i].bC.length:=⟨_,_,rfl,hw,rfl⟩;refine⟨⟨_,pb⟩,?_⟩;have:=least_le pb
  grind
end
end k2
namespace dE
section
variable{u Y u' ub:H}{b lv c n:Nat}{s t:J}{q l:List Int}{K:Int->H->Prop}
def qj{e k:Nat}{xs:List Value}(h:aE Y u e k s xs){g:Nat}(N:s.ad=some g):u g≠none:=by
 rcases h.own.is with h0|⟨bS,cur,ap,cH,_⟩;rw[h0] at N;simp[J.ad] at N;have:bS=g:=by simpa[J.ad,ap] using N
 rw[<-this,cH];simp
inductive aN where
 |tree
 |src
 |map
 |node (id:Int)
 |vec (id:Int)
 |arr (id:Int) (lv:Nat)
structure cw where
 p:Nat
 sv:J
 v:List Int
 ks:List J
 kn:List (List Int)
 top:Nat
def hM(n:cw):List Value:=(.slice n.sv.a n.sv.n n.sv.c::n.ks.map λs=>.slice s.a s.n s.c)++ [.int .i64 n.top]
def hj(g:List (Int×cw)):List (Int×Value):=g.map λx=>(x.1,.pointer (some ⟨x.2.p,0,none⟩))
def dx(g:List (Int×cw))(id:Int):Option cw:=(g.find? λx=>x.1==id).map (·.2)
theorem v7(g:List (Int×cw))(id:Int):eF (hj g) id=(dx g id).map λn=>Value.pointer (some ⟨n.p,0,none⟩):=by
 induction g with
 |nil=>rfl|cons x g aG=>
  unfold eF dx hj at*
  grind
theorem gf{g:List (Int×cw)}{id:Int}{n:cw}(h:dx g id=some n):(id,n)∈g:=by
 unfold dx at h;cases M:g.find? (λx=>x.1==id) with
 |none=>rw[M] at h;cases h
 |some x=>
  grind
theorem xN{g:List (Int×cw)}{id:Int}:dx g id=none↔id∉g.map (·.1):=by
 unfold dx;rw[Option.map_eq_none_iff,List.find?_eq_none]
 grind
def tn{g:List (Int×cw)}{id:Int}(h:id∈g.map (·.1)):∃n,dx g id=some n:=by
 cases I:dx g id with
 |some n=>exact⟨n,rfl⟩|none=>exact absurd h (xN.1 I)
theorem uK{g:List (Int×cw)}(ac:(g.map (·.1)).Nodup){id:Int}{n:cw}(h:(id,n)∈g):dx g id=some n:=by
 obtain⟨m,hm⟩:=tn (g:=g) (id:=id) (List.mem_map.2 ⟨_,h,rfl⟩);have h2:=gf hm;obtain⟨i,hi,HC⟩:=List.mem_iff_getElem.1 h;obtain⟨j,aH,td⟩:=List.mem_iff_getElem.1 h2;have ah:∀{i j:Nat} (hi:i<g.length) (aH:j<g.length),i<j->(g[i]).1≠(g[j]).1:=λhi aH hK=>by have:=List.pairwise_iff_getElem.1 ac _ _ (by simpa using hi) (by simpa using aH) hK;simpa using this
 rcases Nat.lt_trichotomy i j with hK|hK|hK
 grind
 grind
 grind
structure kd(ab:Nat->Option aN)(u:H)(id:Int)(n:cw):Prop where
 cell:u n.p=some (.cells (hM n).toArray 349 (0,0))
 tag:ab n.p=some (.node id)
 vec:Ints u n.sv n.v
 vw:∀g,n.sv.ad=some g->ab g=some (.vec id)
 qd:n.ks.length=31
 yL:n.kn.length=31
 arr:∀(lv:Nat) (s:J) (l:List Int),n.ks[lv]?=some s->n.kn[lv]?=some l->aE sV u 3 1 s (l.flatMap encI)/\∀g,s.ad=some g->ab g=some (.arr id lv)
def k3(ab:Nat->Option aN)(id:Int)(c:Nat):Prop:=ab c=some (.node id)∨ab c=some (.vec id)∨∃lv,ab c=some (.arr id lv)
def k3.some{ab:Nat->Option aN}{id:Int}(h:k3 ab id c):ab c≠none:=by rcases h with e|e|⟨lv,e⟩<;>rw[e]<;>simp
def kd.bd{ab aM:Nat->Option aN}{id:Int}{n:cw}(h:kd ab u id n)(M:∀c,k3 ab id c->aM c=ab c)(hu:∀c o,u c=some o->k3 ab id c->u' c=some o):kd aM u' id n where
 cell:=hu _ _ h.cell (.inl h.tag)
 tag:=by rw[M _ (.inl h.tag)];exact h.tag
 vec:=bb.else h.vec λg o N U=>hu g o U (.inr (.inl (h.vw g N)))
 vw g N:=by rw[M _ (.inr (.inl (h.vw g N)))];exact h.vw g N
 qd:=h.qd
 yL:=h.yL
 arr lv s l h1 h2:=by obtain⟨h3,aZ⟩:=h.arr lv s l h1 h2;exact⟨(h3.own.le λb o Z cy=>hu b o cy (.inr (.inr ⟨lv,aZ b Z⟩))).f,λg N=>by rw[M _ (.inr (.inr ⟨lv,aZ g N⟩))];exact aZ g N⟩
structure ak where
 ao:Int
 bU:Int
 src:Nat
 m:Nat
 bo:Int
 g:List (Int×cw)
 entry:Int
def fw(T:ak):List Value:=[.int .i64 T.ao,.int .i64 T.bU,.pointer (some ⟨T.src,0,none⟩),.map (some T.m),.int .i64 T.entry]
structure cP(ab:Nat->Option aN)(u:H)(b:Nat)(T:ak):Prop where
 cell:u b=some (.cells (fw T).toArray 253 (0,0))
 src:u T.src=some (.cells #[.int .u64 T.bo] 338 (0,0))
 zd:cS T.bo
 map:dI u T.m (hj T.g)
 eh:ab b=some .tree
 dZ:ab T.src=some .src
 dq:ab T.m=some .map
 nodes:∀x∈T.g,kd ab u x.1 x.2
theorem cP.nodup{ab:Nat->Option aN}{T:ak}(h:cP ab u b T):(T.g.map (·.1)).Nodup:=by
 obtain⟨es,c,_,he⟩:=h.map;have:=he.nodup;unfold hj at this
 grind
def cP.bd{ab aM:Nat->Option aN}{T:ak}(h:cP ab u b T)(M:∀c,ab c≠none->aM c=ab c)(hu:∀c o,u c=some o->ab c≠none->u' c=some o):cP aM u' b T where
 cell:=hu _ _ h.cell (by rw[h.eh];simp)
 src:=hu _ _ h.src (by rw[h.dZ];simp)
 zd:=h.zd
 map:=h.map.else λo U=>hu _ _ U (by rw[h.dq];simp)
 eh:=by rw[M _ (by rw[h.eh];simp)];exact h.eh
 dZ:=by rw[M _ (by rw[h.dZ];simp)];exact h.dZ
 dq:=by rw[M _ (by rw[h.dq];simp)];exact h.dq
 nodes x I:=(h.nodes x I).bd (λc E=>M c E.some) λc o U ht=>hu c o U ht.some
def cP.mono{ab:Nat->Option aN}{T:ak}(h:cP ab u b T)(hu:u.le u'):cP ab u' b T:=h.bd (λ_ _=>rfl) λc o U _=>hu c o U
def cP.node{ab:Nat->Option aN}{T:ak}(h:cP ab u b T){id:Int}{n:cw}(ac:dx T.g id=some n):kd ab u id n:=h.nodes _ (gf ac)
def lz{ab:Nat->Option aN}{T:ak}(h:cP ab u b T):u.cell? ⟨b,0,none⟩=some (.int .i64 T.ao)/\u.cell? ((Addr.mk b 0 none).add 1)=some (.int .i64 T.bU)/\
  u.cell? ((Addr.mk b 0 none).add 2)=some (.pointer (some ⟨T.src,0,none⟩))/\u.cell? ((Addr.mk b 0 none).add 3)=some (.map (some T.m))/\u.cell? ((Addr.mk b 0 none).add 4)=some (.int .i64 T.entry):=by
 have Z:=h.cell
 refine⟨?_,?_,?_,?_,?_⟩<;>simp[H.cell?,Addr.add,Z,fw]
def Rl{n:cw}(h:n.ks.length=31):(hM n).length=33:=by simp[hM,h]
theorem amQ{n:cw}(h:n.ks[lv]?=some s):(hM n)[1+lv]?=some (.slice s.a s.n s.c):=by
 obtain⟨ai,he⟩:=List.getElem?_eq_some_iff.1 h;unfold hM
 grind
theorem JK{n:cw}(h:n.ks.length=31):(hM n)[32]?=some (.int .i64 n.top):=by
 unfold hM
 grind
def BE{ab:Nat->Option aN}{id:Int}{n:cw}(h:kd ab u id n)(i:Nat):u.cell? ⟨n.p,i,none⟩=(hM n)[i]?:=by simp[H.cell?,h.cell]
def cw.hn(n:cw)(lv:Nat)(s:J)(l:List Int):cw:={n with ks:=n.ks.set lv s,kn:=n.kn.set lv l}
def amR{n:cw}(h:lv<n.ks.length)(s:J)(l:List Int):hM (n.hn lv s l)=(hM n).set (1+lv) (.slice s.a s.n s.c):=by unfold hM cw.hn;simp only;rw[List.set_append_left _ _ (by simp;omega),Nat.add_comm,List.set_cons_succ,List.map_set]
def SB{n:cw}(E:u n.p=some (.cells (hM n).toArray 349 (0,0)))(hk:n.ks.length=31)(ai:lv<31)(l:List Int){f:H->Prop}
  (M:f (u.ins n.p (.cells (hM (n.hn lv s l)).toArray 349 (0,0)))):H.an u ⟨n.p,1+lv,none⟩ [.slice s.a s.n s.c] f:=by
 refine⟨_,_,E,rfl,by simp[Rl hk];omega,by simp[Value.oneCell'],?_⟩
 have e:wr (hM n).toArray (1+lv) [.slice s.a s.n s.c]=(hM (n.hn lv s l)).toArray:=by rw[amR (by rw[hk];exact ai)];apply Array.ext';rw[Ci _ _ _ (by simp[Rl hk];omega)];simp only[List.length_singleton];rw[List.set_eq_take_append_cons_drop,if_pos (by rw[Rl hk];omega)];simp
 simp only[e]
 exact M
def ni(g:List (Int×cw))(id:Int)(n:cw):List (Int×cw):=g.map λx=>if x.1=id then(x.1,n) else x
theorem aoF(g:List (Int×cw))(id:Int)(n:cw):(ni g id n).map (·.1)=g.map (·.1):=by
 unfold ni;rw[List.map_map];refine List.map_congr_left λx _=>?_
 grind
theorem aoG{g:List (Int×cw)}{id:Int}{n n':cw}(bX:(g.map (·.1)).Nodup)(h:dx g id=some n)(aa:n'.p=n.p):hj (ni g id n')=hj g:=by
 unfold ni hj;rw[List.map_map];refine List.map_congr_left λx I=>?_;simp only[Function.comp];split;rename_i e;have:dx g id=some x.2:=uK bX (by rw[<-e];exact I)
 grind
 rfl
theorem Di{g:List (Int×cw)}{id:Int}{n:cw}(i:Int):dx (ni g id n) i=if i=id then(dx g i).map λ_=>n else dx g i:=by
 induction g with
 |nil=>simp[ni,dx]|cons x g aG=>
  unfold ni dx at*
  grind
theorem amg{g:List (Int×cw)}{id:Int}{n:cw}{x:Int×cw}(h:x∈ni g id n):(x.1≠id/\x∈g)∨(x=(id,n)/\id∈g.map (·.1)):=by
 obtain⟨y,af,rfl⟩:=List.mem_map.1 h
 grind
def cP.set{ab aM:Nat->Option aN}{T:ak}{id:Int}{n n':cw}(h:cP ab u b T)(ac:dx T.g id=some n)(aa:n'.p=n.p)(im:kd aM u' id n')(M:∀c,ab c≠none->¬k3 ab id c->aM c=ab c)
  (hu:∀c o,u c=some o->ab c≠none->¬k3 ab id c->u' c=some o):cP aM u' b {T with g:=ni T.g id n'}:=by
 have no:∀{c:Nat} {t:aN},ab c=some t->(∀i,t≠.node i)->(∀i,t≠.vec i)->(∀i lv,t≠.arr i lv)->ab c≠none/\¬k3 ab id c:=λe h1 h2 h3=>⟨by rw[e];simp,by rintro(ar|ar|⟨lv,ar⟩)<;>rw[e] at ar<;>cases ar;exact h1 _ rfl;exact h2 _ rfl;exact h3 _ _ rfl⟩
 have bO:=no h.eh (by simp) (by simp) (by simp)
 have fY:=no h.dZ (by simp) (by simp) (by simp)
 have fe:=no h.dq (by simp) (by simp) (by simp)
 refine⟨hu _ _ h.cell bO.1 bO.2,hu _ _ h.src fY.1 fY.2,h.zd,?_,by rw[M _ bO.1 bO.2];exact h.eh,by simp only;rw[M _ fY.1 fY.2];exact h.dZ,by simp only;rw[M _ fe.1 fe.2];exact h.dq,λx I=>?_⟩
 simp only
 rw[aoG h.nodup ac aa]
 exact h.map.else λo U=>hu _ _ U fe.1 fe.2
 rcases amg I with⟨ah,I⟩|⟨rfl,_⟩
 have sc:∀c,k3 ab x.1 c->¬k3 ab id c:=by rintro c (e|e|⟨lv,e⟩) (ar|ar|⟨su,ar⟩)<;>rw[e] at ar<;>cases ar<;>exact ah rfl
 exact(h.nodes x I).bd (λc E=>M c E.some (sc c E)) λc o U E=>hu c o U E.some (sc c E)
 exact im
structure In(Y u:H)(ab:Nat->Option aN)(b:Nat)(T:ak):Prop where
 az:cP ab u b T
 le:Y.le u
 out:∀c,ab c≠none->Y c=none
 known:∀c,ab c≠none->u c≠none
structure eZ(u:H)(ab:Nat->Option aN)(u':H)(aM:Nat->Option aN):Prop where
 bd:∀c o,u c=some o->ab c=none->u' c=some o
 grow:∀c,aM c≠none->ab c≠none∨u c=none
def eZ.refl(u:H)(ab:Nat->Option aN):eZ u ab u ab:=⟨λ_ _ h _=>h,λ_ h=>.inl h⟩
theorem eZ.trans{aI bE:H}{ab cX gd:Nat->Option aN}(h:eZ u ab aI cX)(k:eZ aI cX bE gd):eZ u ab bE gd where
 bd c o E M:=k.bd c o (h.bd c o E M) (by
  cases e:cX c with
  |none=>rfl|some t=>
   rcases h.grow c (by rw[e];simp) with h1|h1;exact absurd M h1
   grind)
 grow c E:=by
  rcases k.grow c E with h1|h1;exact h.grow c h1;cases e:ab c with
  |some t=>exact .inl (by simp)|none=>
   right;cases ar:u c with
   |none=>rfl|some o=>rw[h.bd c o ar e] at h1;cases h1
def eZ.mono{aI:H}{ab:Nat->Option aN}(h:u.le aI):eZ u ab aI ab:=⟨λc o E _=>h c o E,λ_ h=>.inl h⟩
theorem eZ.apart{v:H}{ab aM:Nat->Option aN}(h:eZ u ab u' aM)(av:v.le u)(aj:∀c,ab c≠none->v c=none):v.le u'/\∀c,aM c≠none->v c=none:=by
 refine⟨λc o E=>h.bd c o (av c o E) ?_,λc E=>?_⟩
 grind
 rcases h.grow c E with h1|h1;exact aj c h1;exact av.none h1
def In.mono{ab:Nat->Option aN}{T:ak}(h:In Y u ab b T)(hu:u.le u'):In Y u' ab b T:=
 ⟨h.az.mono hu,h.le.trans hu,h.out,λc E=>by obtain⟨o,U⟩:=Option.ne_none_iff_exists'.1 (h.known c E);rw[hu c o U];simp⟩
structure CK(ab:Nat->Option aN)(u:H)(id:Int)(aM:Nat->Option aN)(u':H):Prop where
 sL:∀c,ab c≠none->¬k3 ab id c->aM c=ab c
 bd:∀c o,u c=some o->¬k3 ab id c->u' c=some o
 grow:∀c,aM c≠none->ab c≠none∨u c=none
 known:∀c,aM c≠none->u' c≠none
def CK.cL{ab aM:Nat->Option aN}{id:Int}(h:CK ab u id aM u'):eZ u ab u' aM:=
 ⟨λc o E M=>h.bd c o E λhm=>hm.some M,h.grow⟩
theorem kd.level{hR:H}{ab:Nat->Option aN}{id:Int}{n:cw}(de:kd ab u id n)(Ej:∀c,ab c≠none->u c≠none){s':J}{bi:List Int}(hs:n.ks[lv]?=some s)(U:aE sV hR 3 1 s' (bi.flatMap encI))
  (he:∀c o,u c=some o->s.ad≠some c->hR c=some o) (Z:∀c,s'.ad=some c->s.ad=some c∨u c=none):
  ∃aM,kd aM (hR.ins n.p (.cells (hM (n.hn lv s' bi)).toArray 349 (0,0))) id (n.hn lv s' bi)/\CK ab u id aM (hR.ins n.p (.cells (hM (n.hn lv s' bi)).toArray 349 (0,0))):=by
 have kM:lv<31:=by rw[<-de.qd];exact(List.getElem?_eq_some_iff.1 hs).1
 obtain⟨l,ai⟩:∃l,n.kn[lv]?=some l:=⟨n.kn[lv]'(by rw[de.yL];exact kM),List.getElem?_eq_getElem _⟩
 have dc:∀g,s.ad=some g->ab g=some (.arr id lv):=(de.arr lv s l hs ai).2
 have p6:s.ad≠some n.p:=λe=>by have:=dc _ e;rw[de.tag] at this;cases this
 have akg:s'.ad≠some n.p:=λe=>by rcases Z _ e with h1|h1;exact p6 h1;exact Ej n.p (by rw[de.tag];simp) h1
 let aM:Nat->Option aN:=λc=>open Classical in if s'.ad=some c then some (.arr id lv) else if s.ad=some c then none else ab c
 have aO:∀c,s'.ad=some c->aM c=some (.arr id lv):=λc E=>if_pos E
 have ar:∀c,s'.ad≠some c->s.ad≠some c->aM c=ab c:=λc h1 h2=>(if_neg h1).trans (if_neg h2)
 have cq:∀c,s'.ad≠some c->s.ad=some c->aM c=none:=λc h1 h2=>(if_neg h1).trans (if_pos h2)
 have eD:∀c,ab c≠none->s.ad≠some c->aM c=ab c:=λc h1 h2=>ar c (λe=>(Z c e).elim h2 (Ej c h1)) h2
 have awl:∀c,c≠n.p->(hR.ins n.p (.cells (hM (n.hn lv s' bi)).toArray 349 (0,0))) c=hR c:=λc E=>aL _ _ E
 have pg:∀c o,u c=some o->c≠n.p->s.ad≠some c->(hR.ins n.p (.cells (hM (n.hn lv s' bi)).toArray 349 (0,0))) c=some o:=λc o h1 h2 h3=>by grind
 refine⟨aM,?_,⟨λc h1 h2=>eD c h1 λe=>h2 (.inr (.inr ⟨lv,dc c e⟩)),λc o h1 h3=>pg c o h1 (λe=>h3 (.inl (by rw[e];exact de.tag))) λe=>h3 (.inr (.inr ⟨lv,dc c e⟩)),λc E=>?_,λc E=>?_⟩⟩
 refine⟨aS _ _ _,?_,?_,λg N=>?_,by simp[cw.hn,de.qd],by simp[cw.hn,de.yL],λsu s2 cZ h1 h2=>?_⟩
 show aM n.p=_;rw[ar _ akg p6];exact de.tag
 refine bb.else de.vec λg o N pd=>pg g o pd (λe=>?_) λe=>?_
 have:=de.vw g N;rw[e,de.tag] at this;cases this
 have:=de.vw g N;grind
 have av:=de.vw g N
 grind
 by_cases e:su=lv
 subst e
 simp only[cw.hn] at h1 h2
 rw[List.getElem?_set_self (by rw[de.qd];exact kM)] at h1
 rw[List.getElem?_set_self (by rw[de.yL];exact kM)] at h2
 cases h1;cases h2
 exact⟨(U.own.le λc o E uO=>by grind).f,λg N=>aO g N⟩
 simp only[cw.hn] at h1 h2
 rw[List.getElem?_set_ne (Ne.symm e)] at h1 h2
 obtain⟨h3,aZ⟩:=de.arr su s2 cZ h1 h2
 have ne:∀g,s2.ad=some g->s.ad≠some g:=λg N e6=>by
  grind
 refine⟨(h3.own.le λc o E uO=>pg c o uO (λob=>?_) (ne c E)).f,λg N=>?_⟩
 have:=aZ c E;rw[ob,de.tag] at this;cases this
 grind
 grind
 by_cases h1:s'.ad=some c
 have:=qj U h1
 grind
 by_cases h2:s.ad=some c
 grind
 rw[ar c h1 h2] at E
 obtain⟨o,uO⟩:=Option.ne_none_iff_exists'.1 (Ej c E)
 by_cases h3:c=n.p
 rw[h3,aS];simp
 grind
def In.base{ab aM:Nat->Option aN}{T:ak}(h:In Y u ab b T)(ht:eZ u ab u' aM):Y.le u'/\∀c,aM c≠none->Y c=none:=ht.apart h.le h.out
def In.shift{ab aM:Nat->Option aN}{T:ak}(h:In Y u ab b T){id:Int}{n n':cw}(ac:dx T.g id=some n)(aa:n'.p=n.p)(im:kd aM u' id n')(ax:CK ab u id aM u'):
  In Y u' aM b {T with g:=ni T.g id n'}:=
 ⟨h.az.set ac aa im ax.sL λc o h1 _ h3=>ax.bd c o h1 h3,(h.base ax.cL).1,(h.base ax.cL).2,ax.known⟩
def In.aoO{ab aM:Nat->Option aN}{T:ak}(h:In Y u ab b T){id:Int}(hid:id∉T.g.map (·.1))(ax:CK ab u id aM u'):In Y u' aM b T:=by
 have no:∀{c:Nat} {t:aN},ab c=some t->(∀i,t≠.node i)->(∀i,t≠.vec i)->(∀i lv,t≠.arr i lv)->ab c≠none/\¬k3 ab id c:=λe h1 h2 h3=>⟨by rw[e];simp,by rintro(ar|ar|⟨lv,ar⟩)<;>rw[e] at ar<;>cases ar;exact h1 _ rfl;exact h2 _ rfl;exact h3 _ _ rfl⟩
 have bO:=no h.az.eh (by simp) (by simp) (by simp);have fY:=no h.az.dZ (by simp) (by simp) (by simp);have fe:=no h.az.dq (by simp) (by simp) (by simp);refine⟨⟨ax.bd _ _ h.az.cell bO.2,ax.bd _ _ h.az.src fY.2,h.az.zd,h.az.map.else λo U=>ax.bd _ _ U fe.2,by rw[ax.sL _ bO.1 bO.2];exact h.az.eh,by rw[ax.sL _ fY.1 fY.2];exact h.az.dZ,
  by rw[ax.sL _ fe.1 fe.2];exact h.az.dq,λx I=>?_⟩,(h.base ax.cL).1,(h.base ax.cL).2,ax.known⟩
 have ah:x.1≠id:=λe=>hid (List.mem_map.2 ⟨x,I,e⟩);have sc:∀c,k3 ab x.1 c->¬k3 ab id c:=by rintro c (e|e|⟨lv,e⟩) (ar|ar|⟨su,ar⟩)<;>rw[e] at ar<;>cases ar<;>exact ah rfl
 exact(h.az.nodes x I).bd (λc E=>ax.sL c E.some (sc c E)) λc o U E=>ax.bd c o U (sc c E)
def In.level{hR:H}{ab:Nat->Option aN}{T:ak}(h:In Y u ab b T){id:Int}{n:cw}(ac:dx T.g id=some n){s':J}{bi:List Int}(hs:n.ks[lv]?=some s)(U:aE sV hR 3 1 s' (bi.flatMap encI))
  (he:∀c o,u c=some o->s.ad≠some c->hR c=some o) (Z:∀c,s'.ad=some c->s.ad=some c∨u c=none):
  ∃aM,In Y (hR.ins n.p (.cells (hM (n.hn lv s' bi)).toArray 349 (0,0))) aM b {T with g:=ni T.g id (n.hn lv s' bi)}/\eZ u ab (hR.ins n.p (.cells (hM (n.hn lv s' bi)).toArray 349 (0,0))) aM:=by
 obtain⟨aM,h1,h2⟩:=(h.az.node ac).level h.known hs U he Z
 exact⟨aM,h.shift ac rfl h1 h2,h2.cL⟩
def In.BB{ab:Nat->Option aN}{T:ak}(h:In Y u ab b T):T.src≠b/\T.m≠b/\T.src≠T.m/\∀i c,k3 ab i c->c≠b/\c≠T.m/\c≠T.src:=by refine⟨λe=>?_,λe=>?_,λe=>?_,λi c hm=>⟨λe=>?_,λe=>?_,λe=>?_⟩⟩;have:=h.az.dZ;rw[e,h.az.eh] at this;cases this;have:=h.az.dq;rw[e,h.az.eh] at this;cases this;have:=h.az.dq;rw[<-e,h.az.dZ] at this;cases this;rw[e] at hm;rcases hm with ar|ar|⟨_,ar⟩<;>rw[h.az.eh] at ar<;>cases ar;rw[e] at hm;rcases hm with ar|ar|⟨_,ar⟩<;>rw[h.az.dq] at ar<;>cases ar;rw[e] at hm;rcases hm with ar|ar|⟨_,ar⟩<;>rw[h.az.dZ] at ar<;>cases ar
def In.write{ab:Nat->Option aN}{T:ak}(h:In Y u ab b T)(E:ab c≠none)(o:Obj):eZ u ab (u.ins c o) ab/\Y.le (u.ins c o)/\∀x,ab x≠none->(u.ins c o) x≠none:=by have ht:eZ u ab (u.ins c o) ab:=⟨λx y I M=>by have ah:x≠c:=λe=>E (by rw[<-e];exact M);rw[aL _ _ ah];exact I,λx I=>.inl I⟩;refine⟨ht,(h.base ht).1,λx I=>?_⟩;unfold H.ins;split;simp;exact h.known x I
def In.FT{ab:Nat->Option aN}{T:ak}(h:In Y u ab b T)(e:Int):In Y (u.ins b (.cells (fw {T with entry:=e}).toArray 253 (0,0))) ab b {T with entry:=e}/\
  eZ u ab (u.ins b (.cells (fw {T with entry:=e}).toArray 253 (0,0))) ab:=by
 obtain⟨h1,h2,h3⟩:=h.write (c:=b) (by rw[h.az.eh];simp) (.cells (fw {T with entry:=e}).toArray 253 (0,0))
 obtain⟨cb,di,_,dr⟩:=h.BB
 exact⟨⟨⟨aS _ _ _,by rw[aL _ _ cb];exact h.az.src,h.az.zd,h.az.map.else λo U=>by rw[aL _ _ di];exact U,h.az.eh,h.az.dZ,h.az.dq,
  λx I=>(h.az.nodes x I).bd (λ_ _=>rfl) λc o U hm=>by rw[aL _ _ (dr _ c hm).1];exact U⟩,h2,h.out,h3⟩,h1⟩
def KB{ab:Nat->Option aN}{T:ak}(h:cP ab u b T){e:Int}{f:H->Prop}(M:f (u.ins b (.cells (fw {T with entry:=e}).toArray 253 (0,0)))):H.an u ((Addr.mk b 0 none).add 4) [.int .i64 e] f:=by
 rw[Addr.add_lit];refine⟨_,_,h.cell,rfl,by simp[fw],by simp[Value.oneCell'],?_⟩;have:wr (fw T).toArray (0+4) [.int .i64 e]=(fw {T with entry:=e}).toArray:=by simp[wr,fw]
 simp only[this];exact M
def In.aoH{ab:Nat->Option aN}{T:ak}(h:In Y u ab b T){bo:Int}(dc:cS bo):In Y (u.ins T.src (.cells #[.int .u64 bo] 338 (0,0))) ab b {T with bo:=bo}/\eZ u ab (u.ins T.src (.cells #[.int .u64 bo] 338 (0,0))) ab:=by
 obtain⟨h1,h2,h3⟩:=h.write (c:=T.src) (by rw[h.az.dZ];simp) (.cells #[.int .u64 bo] 338 (0,0));obtain⟨cb,di,nP,dr⟩:=h.BB;exact⟨⟨⟨by rw[aL _ _ (Ne.symm cb)];exact h.az.cell,aS _ _ _,dc,h.az.map.else λo U=>by rw[aL _ _ (Ne.symm nP)];exact U,h.az.eh,h.az.dZ,h.az.dq,
  λx I=>(h.az.nodes x I).bd (λ_ _=>rfl) λc o U hm=>by rw[aL _ _ (dr _ c hm).2.2];exact U⟩,h2,h.out,h3⟩,h1⟩
def In.aaL{ab:Nat->Option aN}{T:ak}(h:In Y u ab b T){o:Obj}{bS:List (Int×cw)}(hm:dI (u.ins T.m o) T.m (hj bS))(N:∀x∈bS,kd ab u x.1 x.2):In Y (u.ins T.m o) ab b {T with g:=bS}/\eZ u ab (u.ins T.m o) ab:=by
 obtain⟨h1,h2,h3⟩:=h.write (c:=T.m) (by rw[h.az.dq];simp) o;obtain⟨cb,di,nP,dr⟩:=h.BB;exact⟨⟨⟨by rw[aL _ _ (Ne.symm di)];exact h.az.cell,by rw[aL _ _ nP];exact h.az.src,h.az.zd,hm,h.az.eh,h.az.dZ,h.az.dq,
  λx I=>(N x I).bd (λ_ _=>rfl) λc o U Pj=>by rw[aL _ _ (dr _ c Pj).2.1];exact U⟩,h2,h.out,h3⟩,h1⟩
def b6(g:List (Int×cw))(q:List Int)(id:Int):bk:=(id,match dx g id with
 |some n=>gS n.v q n.v.length|none=>0)
def jA(g:List (Int×cw))(lv:Nat)(id:Int):List Int:=match dx g id with
 |some n=>n.kn.getD lv []|none=>[]
def pX(g:List (Int×cw))(q:List Int)(id:Int):(b6 g q id).1=id:=rfl
structure mK(ao:Int)(g:List (Int×cw)):Prop where
 ii:1<=ao/\ao<=64
 vec:∀x∈g,(x.2.v.length:Int)=ao/\ej x.2.v
 top:∀x∈g,x.2.top<=30
 known:∀x∈g,∀l∈x.2.kn,∀i∈l,i∈g.map (·.1)
 ids:∀x∈g,1<=x.1/\x.1<=1000000000
 small:g.length<=513
theorem mK.bO{ao:Int}{g:List (Int×cw)}(h:mK ao g)(lv:Nat):∀k∈g.map (·.1),∀i∈jA g lv k,i∈g.map (·.1):=by
 intro k hk i hi;obtain⟨n,ac⟩:=tn hk;unfold jA at hi;rw[ac] at hi;simp only at hi;rcases Nat.lt_or_ge lv n.kn.length with ai|ai;rw[List.getD_eq_getElem?_getD,List.getElem?_eq_getElem ai] at hi;exact h.known _ (gf ac) _ (List.getElem_mem ai) i hi
 grind
def tQ:vI Tryz.prog 251 3 346 (.pointer none):=⟨by kernel_rfl,by kernel_rfl,λ_=>by kernel_rfl⟩
def BD(p lv:Nat):((Addr.mk p 0 none).add 1).add (lv*1)=⟨p,1+lv,none⟩:=by rw[Addr.uB,Addr.add_lit,Nat.mul_one,Nat.zero_add]
structure pM(u:H)(b:Nat)(T:ak):Prop where
 cell:u b=some (.cells (fw T).toArray 253 (0,0))
 map:dI u T.m (hj T.g)
 nodes:∀x∈T.g,u x.2.p=some (.cells (hM x.2).toArray 349 (0,0))/\Ints u x.2.sv x.2.v
def cP.JW{ab:Nat->Option aN}{T:ak}(h:cP ab u b T)(hu:∀c o,u c=some o->ab c≠none->(∀i lv,ab c≠some (.arr i lv))->u' c=some o):pM u' b T where
 cell:=hu _ _ h.cell (by rw[h.eh];simp) (by rw[h.eh];simp)
 map:=h.map.else λo U=>hu _ _ U (by rw[h.dq];simp) (by rw[h.dq];simp)
 nodes x I:=by have de:=h.nodes x I;exact⟨hu _ _ de.cell (by rw[de.tag];simp) (by rw[de.tag];simp),bb.else de.vec λg o N U=>hu g o U (by rw[de.vw g N];simp) (by rw[de.vw g N];simp)⟩
def cP.rd{ab:Nat->Option aN}{T:ak}(h:cP ab u b T):pM u b T:=h.JW λ_ _ U _ _=>U
def pM.mono{T:ak}(h:pM u b T)(hu:u.le u'):pM u' b T:=
 ⟨hu _ _ h.cell,h.map.mono hu,λx I=>⟨hu _ _ (h.nodes x I).1,(h.nodes x I).2.mono hu⟩⟩
def aae{T:ak}(h:pM u b T):u.cell? ⟨b,0,none⟩=some (.int .i64 T.ao)/\u.cell? ((Addr.mk b 0 none).add 1)=some (.int .i64 T.bU)/\
  u.cell? ((Addr.mk b 0 none).add 3)=some (.map (some T.m))/\u.cell? ((Addr.mk b 0 none).add 4)=some (.int .i64 T.entry):=by
 have Z:=h.cell
 refine⟨?_,?_,?_,?_⟩<;>simp[H.cell?,Addr.add,Z,fw]
def aaD{T:ak}(h:pM u b T){id:Int}(hid:id∈T.g.map (·.1)){K:Option Addr->H->Prop}
  (ae:∀n,dx T.g id=some n->K (some ⟨n.p,0,none⟩) u):cx Tryz.prog (Instr.lookup 251 (.map (some T.m)) (.int .i64 id) false) [.one .ptr] u K:=by
 obtain⟨n,ac⟩:=tn hid
 refine Sa tQ h.map (ct:=.ptr) (some ⟨n.p,0,none⟩) ?_ (ae n ac)
 rw[v7,ac];rfl
def qo{ab:Nat->Option aN}{T:ak}(h:cP ab u b T){id:Int}(hid:id∈T.g.map (·.1)){K:Option Addr->H->Prop}
  (ae:∀n,dx T.g id=some n->kd ab u id n->K (some ⟨n.p,0,none⟩) u):cx Tryz.prog (Instr.lookup 251 (.map (some T.m)) (.int .i64 id) false) [.one .ptr] u K:=
 aaD h.rd hid λn ac=>ae n ac (h.node ac)
structure oZ(u:H)(ao:Int)(t:J)(q:List Int):Prop where
 is:Ints u t q
 ok:ej q
 len:(q.length:Int)=ao
def oZ.mono{ao:Int}(h:oZ u ao t q)(k:u.le u'):oZ u' ao t q:=⟨h.is.mono k,h.ok,h.len⟩
def Ss{T:ak}{id:Int}{K:Int->Int->Int->H->Prop}(h:pM u b T)(N:mK T.ao T.g)(hid:id∈T.g.map (·.1))(ht:oZ u T.ao t q)
  (ae:K id (cK (b6 T.g q id).2) (cO (b6 T.g q id).2) u):sQ (some ⟨b,0,none⟩) id t u K:=by
 obtain⟨_,_,c3,_⟩:=aae h
 apply asy
 refine⟨_,rfl,_,c3,aaD h hid λn ac=>⟨_,rfl,n.sv,?_,?_⟩⟩
 have:=(h.nodes _ (gf ac)).1
 simp only at this
 simp[H.cell?,this,hM]
 have av:=N.vec _ (gf ac)
 refine Ky (h.nodes _ (gf ac)).2 ht.is av.2 ?_ ht.ok ?_ λx y I af he=>?_
 have:=N.ii;have:=av.1;simp only at this ⊢;omega
 have:=av.1;have:=ht.len;simp only at*;omega
 have e:(b6 T.g q id).2=dY x y:=by rw[he];simp[b6,ac]
 rw[e,OW af,Q5 af] at ae
 exact ae
def FZ{ab:Nat->Option aN}{T:ak}{id:Int}{K:Int->Int->Int->H->Prop}(h:cP ab u b T)(N:mK T.ao T.g)(hid:id∈T.g.map (·.1))(ht:oZ u T.ao t q)
  (ae:K id (cK (b6 T.g q id).2) (cO (b6 T.g q id).2) u):sQ (some ⟨b,0,none⟩) id t u K:=Ss h.rd N hid ht ae
def q9(bU lv:Int):Int:=if lv=0 then 2*bU else bU
def abh{T:ak}{lv:Int}(h:pM u b T)(ai:1<=T.bU/\T.bU<=16)(ae:K (q9 T.bU lv) u):GC (some ⟨b,0,none⟩) lv u K:=by obtain⟨_,c1,_⟩:=aae h;apply asD;unfold q9 at ae;refine⟨λh0=>⟨_,rfl,_,c1,⟨by omega,by omega⟩,?_⟩,λh0=>⟨_,rfl,_,c1,?_⟩⟩;rw[if_pos h0] at ae;exact ae;rw[if_neg h0] at ae;exact ae
def sn{ab:Nat->Option aN}{id:Int}{n:cw}(h:kd ab u id n)(ai:lv<31):∃s l,n.ks[lv]?=some s/\n.kn[lv]?=some l/\u.cell? (((Addr.mk n.p 0 none).add 1).add (lv*1))=some (.slice s.a s.n s.c)/\
  aE sV u 3 1 s (l.flatMap encI)/\∀g,s.ad=some g->ab g=some (.arr id lv):=by
 have h1:lv<n.ks.length:=by rw[h.qd];exact ai
 have h2:lv<n.kn.length:=by rw[h.yL];exact ai
 refine⟨n.ks[lv],n.kn[lv],List.getElem?_eq_getElem h1,List.getElem?_eq_getElem h2,?_,h.arr lv _ _ (List.getElem?_eq_getElem h1) (List.getElem?_eq_getElem h2)⟩
 rw[BD,BE h]
 exact amQ (List.getElem?_eq_getElem h1)
def Rg{g:List (Int×cw)}{id:Int}{n:cw}(ac:dx g id=some n)(ai:n.kn[lv]?=some l):jA g lv id=l:=by unfold jA;rw[ac];simp only;rw[List.getD_eq_getElem?_getD,ai];rfl
def SL{α β:Type}(f:β->α->β)(l:List α){i:Nat}{x:α}(h:l[i]?=some x)(b:β):(l.take (i+1)).foldl f b=f ((l.take i).foldl f b) x:=by obtain⟨ai,rfl⟩:=List.getElem?_eq_some_iff.1 h;rw[List.take_succ_eq_append_getElem ai,List.foldl_append];rfl
def apI{ab:Nat->Option aN}{T:ak}{at' lv:Int}(h:cP ab u b T)(N:mK T.ao T.g)(hid:at'∈T.g.map (·.1))(ht:oZ u T.ao t q)
  (jN:0<=lv) (b9:lv<31) (ae:K (C3 (b6 T.g q) (jA T.g lv.toNat) T.g.length at') u):LF (some ⟨b,0,none⟩) at' t lv u K:=by
 obtain⟨_,_,_,c3,_⟩:=lz h
 have hlen:(T.g.map (·.1)).length=T.g.length:=by simp
 apply asw
 refine FZ h N hid ht ?_
 refine⟨λm x y z v=>v=u/\∃(n:Nat) (jb:bk),x=jb.1/\y=cK jb.2/\z=cO jb.2/\jb=sj (b6 T.g q) (jA T.g lv.toNat) n (b6 T.g q at')/\n+BO (b6 T.g q) (T.g.map (·.1)) jb<=T.g.length/\
   (m=false->pass (b6 T.g q) (jA T.g lv.toNat) jb=jb),
  λm x y z _=>BO (b6 T.g q) (T.g.map (·.1)) (x,dY y z)+(if m=true then 1 else 0),
  ⟨rfl,0,b6 T.g q at',rfl,rfl,rfl,rfl,by have:=anO (b6 T.g q) (T.g.map (·.1)) (b6 T.g q at');omega,λhm=>by cases hm⟩,?_⟩
 rintro m x y z v ⟨rfl,n,jb,rfl,rfl,rfl,DH,ac,hm⟩
 have cr:=Jj (b6 T.g q) (jA T.g lv.toNat) (pX T.g q) (b:=b6 T.g q at') ⟨hid,rfl⟩ (N.bO lv.toNat) n
 rw[<-DH] at cr
 refine⟨λAK=>⟨_,rfl,_,c3,qo h cr.1 λnd bX de=>⟨_,rfl,by decide,⟨jN,b9⟩,?_⟩⟩,λajv=>?_⟩
 obtain⟨s,l,df,dh,E,U,_⟩:=sn de (lv:=lv.toNat) (by omega)
 refine⟨s,E,?_⟩
 have uY:jA T.g lv.toNat jb.1=l:=Rg bX dh
 have cY:=U.ints.len
 refine⟨λtP i x y z bH=>bH=v/\0<=i/\i<=l.length/\∃nu:bk,x=nu.1/\y=cK nu.2/\z=cO nu.2/\nu=(l.take i.toNat).foldl (qk (b6 T.g q)) jb/\tP=decide (nu≠jb),
  λ_ i _ _ _ _=>l.length-i.toNat,⟨rfl,by omega,by omega,jb,rfl,rfl,rfl,rfl,by simp⟩,?_⟩
 rintro tP i x y z bH ⟨rfl,i0,i1,nu,rfl,rfl,rfl,dJ,rfl⟩
 refine⟨λdC=>?_,λhg=>?_⟩
 have fc:=U.ints.max
 obtain⟨p,aa,mT⟩:=U.ints.at i0 dC
 refine⟨p,aa,⟨i0,dC⟩,_,mT,?_⟩
 have ajo:i.toNat<l.length:=by omega
 have I:l[i.toNat]?=some (l.getD i.toNat 0):=by simp[ajo]
 have A6:l.getD i.toNat 0∈T.g.map (·.1):=N.bO lv.toNat jb.1 cr.1 _ (by rw[uY];exact List.mem_of_getElem? I)
 refine FZ h N A6 ht ?_
 have M:=SL (qk (b6 T.g q)) l I jb
 rw[<-dJ] at M
 refine F3 (a:=b6 T.g q (l.getD i.toNat 0)) (b:=nu) ?_
 have pc:nu=jb∨bh nu jb=true:=by rcases Ny (b6 T.g q) (l.take i.toNat) jb with h1|⟨h1,_⟩;exact .inl (dJ.trans h1);exact .inr (dJ▸h1)
 refine⟨λZ=>⟨⟨by omega,by omega⟩,⟨rfl,by omega,by omega,b6 T.g q (l.getD i.toNat 0),rfl,rfl,rfl,?_,?_⟩,by dsimp only;omega⟩,
  λZ=>⟨⟨by omega,by omega⟩,⟨rfl,by omega,by omega,nu,rfl,rfl,rfl,?_,rfl⟩,by dsimp only;omega⟩⟩
 rw[show(i+1).toNat=i.toNat+1 by omega,M,qk,if_pos Z]
 have:bh (b6 T.g q (l.getD i.toNat 0)) jb=true:=by rcases pc with h1|h1;rw[<-h1];exact Z;exact D9 Z h1
 exact(decide_eq_true (ajq this)).symm
 rw[show(i+1).toNat=i.toNat+1 by omega,M,qk,if_neg (by simpa using Z)]
 have dC:i.toNat=l.length:=by have:¬i<(s.n:Int):=hg;omega
 have WE:nu=pass (b6 T.g q) (jA T.g lv.toNat) jb:=by rw[dJ,dC,List.take_length,pass,uY]
 have mW:=Ny (b6 T.g q) l jb
 have aie:nu=l.foldl (qk (b6 T.g q)) jb:=by rw[dJ,dC,List.take_length]
 rw[<-aie] at mW
 rw[AK]
 by_cases ah:nu=jb
 refine⟨⟨rfl,n,nu,rfl,rfl,rfl,by rw[ah];exact DH,by rw[ah];exact ac,λ_=>by rw[ah,<-WE];exact ah⟩,?_⟩
 rw[ah];simp
 obtain⟨h1,nL,nC,e⟩:=mW.resolve_left ah
 have ai0:nL∈T.g.map (·.1):=N.bO lv.toNat jb.1 cr.1 _ (by rw[uY];exact nC)
 have W:=anP (b6 T.g q) ai0 (b:=jb) (by rw[<-e];exact h1)
 rw[<-e] at W
 refine⟨⟨rfl,n+1,nu,rfl,rfl,rfl,by rw[WE,DH];rfl,by omega,λM=>?_⟩,?_⟩
 simp[ah] at M
 simp only[oR]
 have:decide (nu≠jb)=true:=by simp[ah]
 rw[this]
 simpa using W
 have aa:=hm ajv
 have aiL:=alm (b6 T.g q) (jA T.g lv.toNat) (n:=n) (b:=b6 T.g q at') (by rw[<-DH];exact aa) (T.g.length-n)
 have e:C3 (b6 T.g q) (jA T.g lv.toNat) T.g.length at'=jb.1:=by unfold C3;rw[show T.g.length=n+(T.g.length-n) by omega,aiL,DH]
 rw[e] at ae
 exact ae
def qp(g:List (Int×cw))(q:List Int)(entry:Int)(lv:Nat):Int:=
 xD (b6 g q) (λl=>jA g l) g.length lv ((match dx g entry with|some n=>n.top|none=>0)-lv) entry
def SD{ao:Int}{g:List (Int×cw)}(N:mK ao g){entry:Int}(he:entry∈g.map (·.1))(lv:Nat):qp g q entry lv∈g.map (·.1):=
 Vh (pX g q) (λl=>N.bO l) _ _ he
def abi{ab:Nat->Option aN}{T:ak}{lv:Int}(h:cP ab u b T)(N:mK T.ao T.g)(hid:T.entry∈T.g.map (·.1))(ht:oZ u T.ao t q)
  (jN:0<=lv) (ae:K (qp T.g q T.entry lv.toNat) u):GD (some ⟨b,0,none⟩) t lv u K:=by
 obtain⟨_,_,_,c3,c4⟩:=lz h
 apply asE
 refine⟨_,rfl,_,c4,_,rfl,_,c3,qo h hid λn ac de=>⟨_,rfl,n.top,?_,?_⟩⟩
 rw[Addr.add_lit,Nat.zero_add,BE de];exact JK de.qd
 have nb:=N.top _ (gf ac)
 simp only at nb
 unfold qp at ae
 rw[ac] at ae
 simp only at ae
 refine⟨λx l v=>v=u/\x∈T.g.map (·.1)/\∃c:Nat,(lv<l->l=lv+c)/\l<=30/\(¬lv<l->c=0)/\xD (b6 T.g q) (λl=>jA T.g l) T.g.length lv.toNat c x=xD (b6 T.g q) (λl=>jA T.g l) T.g.length lv.toNat (n.top-lv.toNat) T.entry,
  λ_ l _=>(l-lv).toNat,⟨rfl,hid,n.top-lv.toNat,by omega,by omega,by omega,rfl⟩,?_⟩
 rintro x l v ⟨rfl,I,c,iR,mT,Og,aj⟩
 refine⟨λgi=>?_,λhg=>?_⟩
 have ai:=iR gi
 refine apI h N I ht (by omega) (by omega) ⟨⟨by omega,by omega⟩,⟨rfl,Vk (b6 T.g q) _ (pX T.g q) I (N.bO _),c-1,by omega,by omega,by omega,?_⟩,by dsimp only;omega⟩
 rw[<-aj]
 obtain⟨c',rfl⟩:∃c',c=c'+1:=⟨c-1,by omega⟩
 simp only[xD,Nat.add_sub_cancel]
 rw[show l.toNat=lv.toNat+c'+1 by omega]
 rw[Og hg] at aj
 simp only[xD] at aj
 rw[<-aj] at ae
 exact ae
theorem _root_.Go.Proofs.YtnaemgklhjkdhaaGreatDoor.nq.JX{v0 v bH:H}{bT:Nat}{o bn:Obj}{L:List bk}(h:nq (v0.ins bT o) n v L)(h0:v0 bT=none)(U:bH bT=some bn)(he:∀g x,v g=some x->g≠bT->bH g=some x):nq (v0.ins bT bn) n bH L:=by
 obtain⟨s,h1,h2,h3⟩:=h.ex;have yj:n≠bT:=λe=>by have:=h.out;rw[e,aS] at this;cases this
 have M:∀g,(v0.ins bT o) g=none->(v0.ins bT bn) g=none:=λg N=>by
  have:g≠bT:=λe=>by rw[e,aS] at N;cases N
  rw[aL _ _ this] at N ⊢;exact N
 refine⟨⟨s,he _ _ h1 yj,⟨h2.own.le λb x Z hu=>he b x hu λe=>?_,λb x Z=>?_,λg N=>M g (h2.fresh g N)⟩,h3⟩,M n h.out,h.small⟩;have:=h2.fresh b Z;rw[e,aS] at this;cases this;unfold H.ins at Z;split at Z
 grind
 rename_i e;have:=h2.le b x (by rw[aL _ _ e];exact Z);exact he b x this e
theorem _root_.Go.Proofs.YtnaemgklhjkdhaaGreatDoor.nq.HR{v0 v gU bH:H}{bT:Nat}{o:Obj}{L:List bk}(h:nq (v0.ins bT o) n v L)(h0:v0 bT=none)(M:sU v0 v gU bH):nq (gU.ins bT o) n bH L/\gU bT=none:=by
 obtain⟨s,h1,h2,h3⟩:=h.ex;have iP:=h2.le bT o (aS _ _ _);obtain⟨uN,avY⟩:=M.out bT o h0 iP;have yj:n≠bT:=λe=>by have:=h.out;rw[e,aS] at this;cases this
 have et:v0 n=none:=by have:=h.out;rw[aL _ _ yj] at this;exact this
 obtain⟨gF,ef⟩:=M.out n _ et h1;have Z:∀g,s.ad=some g->∀x,v g=some x->gU g=none/\bH g=some x/\g≠bT:=λg N x I=>by
  have dK:=h2.fresh g N;have Ir:g≠bT:=λe=>by rw[e,aS] at dK;cases dK
  rw[aL _ _ Ir] at dK;exact⟨(M.out g x dK I).1,(M.out g x dK I).2,Ir⟩
 refine⟨⟨⟨s,ef,⟨h2.own.le λb x ee hu=>(Z b ee x hu).2.1,λb x I=>?_,λg N=>?_⟩,h3⟩,by rw[aL _ _ yj];exact gF,h.small⟩,uN⟩;unfold H.ins at I;split at I
 grind
 exact M.le b x I;have hk:=fj h2 N;obtain⟨x,I⟩:=Option.ne_none_iff_exists'.1 hk;obtain⟨bJ,_,e0⟩:=Z g N x I;rw[aL _ _ e0];exact bJ
def amd{ht:Int->bk}{s:List Int×List bk}{i:Int}(h:i∉s.1):gn ht s i=(s.1++ [i],my (ht i) s.2):=if_neg h
def ame{ht:Int->bk}{s:List Int×List bk}{i:Int}(h:i∈s.1):gn ht s i=s:=if_pos h
def iY(g:List (Int×cw))(q:List Int)(lv:Nat)(at':Int):List Int:=qK (b6 g q) (jA g lv) g.length [at'] [b6 g q at']
def DY(h:bk):Value:=.agg #[.int .i64 h.1,.int .u64 (cK h.2),.int .u64 (cO h.2)]
structure zD(T:ak)(q:List Int)(lv:Nat)(bm:List Int)(cN:Nat->H->Prop)(bT n9:Nat)(n:Nat)(v:H):Prop where
 ex:∃(v0:H) (o:Obj) (i:Nat) (met:List Int) (ur L:List bk),cN i v0/\v0 bT=none/\pK (v0.ins bT o) bT met/\nq (v0.ins bT o) n9 v L/\gb bh L.length L/\L.Perm ur/\Met (b6 T.g q) (T.g.map (·.1)) (met,ur)/\
  due T.g.length (met,ur)<=n/\bm.drop i=qK (b6 T.g q) (jA T.g lv) n met ur/\i<=bm.length
theorem abf{ab:Nat->Option aN}{T:ak}{at' lv:Int}{FP:Value}{K:H->Prop}(cy:ub.le u)(h:cP ab ub b T)(N:mK T.ao T.g)(hid:at'∈T.g.map (·.1))(ht:oZ ub T.ao t q)
  (jN:0<=lv) (b9:lv<31) (cN:Nat->H->Prop) (au:H->Prop) (jv:∀i v,cN i v->ub.le v)
  (PS:∀i x v (K:Bool->H->Prop),(iY T.g q lv.toNat at')[i]?=some x->cN i v->(∀bH,cN (i+1) bH->K true bH)->(∀bH,au bH->K false bH)->mc Tryz.prog FP #[DY (b6 T.g q x)] [.one .bool] v K)
  (h0:cN 0 u) (Dv:∀v,cN (iY T.g q lv.toNat at').length v->K v) (hc:∀v,au v->K v):Cs (some ⟨b,0,none⟩) at' t lv FP u K:=by
 have awW:=N.small
 have hlen:(T.g.map (·.1)).length=T.g.length:=by simp
 refine fW.weaken (ss:=[]) ?_
 apply asx
 refine Sc λbT iP iL=>?_
 refine J8 y9 iL (by simp) λbE PU D4 awL=>?_
 have oB:u.le bE:=λc o E=>D4 c o (bN _ iP c o E) λe=>by grind
 obtain⟨fq,MW,xS,_⟩:=PU
 refine FZ (h.mono (cy.trans oB)) N hid (ht.mono (cy.trans oB)) ?_
 refine nU (US at' _ _) λg7 aiN n9 p0=>?_
 have Po:n9≠g7:=λe=>by rw[e,aS] at p0;cases p0
 have ajD:bE n9=none:=by rw[aL _ _ Po] at p0;exact p0
 have Wu:bT≠g7:=λe=>by grind
 have Ar:bT≠n9:=λe=>by grind
 refine ze (aS _ _ _) (by simp[Value.oneCell']) ?_
 have aks:∀v,v bT=some (.map fq MW)->(∀c x,u c=some x->v c=some x)->v g7=some (.cells #[.int .i64 at',.int .u64 (cK (b6 T.g q at').2),.int .u64 (cO (b6 T.g q at').2)] 83 (0,0))->
   v n9=some (.cells #[.slice (some ⟨g7,0,none⟩) 1 1] 393 (0,0))->u n9=none->u g7=none->u bT=none->zD T q lv.toNat (iY T.g q lv.toNat at') cN bT n9 T.g.length v:=by
  intro v aO ar cq eD e6 ob tc
  refine⟨u,.map fq MW,0,[at'],[b6 T.g q at'],[b6 T.g q at'],h0,tc,?_,?_,λi i0 i1=>by simp at i1;omega,List.Perm.refl _,Met.one _ (pX T.g q) hid,?_,rfl,Nat.zero_le _⟩
  exact⟨fq,MW,aS _ _ _,by assumption⟩
  refine⟨⟨⟨some ⟨g7,0,none⟩,1,1⟩,eD,⟨⟨(by simp[oc]),.inr ⟨g7,_,rfl,cq,Nat.le_refl _,(by grind),(by simp),(by simp[ey,pX])⟩⟩,λc x E=>?_,λg N=>?_⟩,by simp[J.ad];omega⟩,by rw[aL _ _ (Ne.symm Ar)];exact e6,by simp⟩
  unfold H.ins at E
  grind
  simp[J.ad] at N
  rw[<-N,aL _ _ (Ne.symm Wu)];exact ob
  simp[due]
  grind
 have hw:∀n v,zD T q lv.toNat (iY T.g q lv.toNat at') cN bT n9 n v->∃v0,ub.le v0/\v0.le v:=by rintro n v ⟨v0,o,i,met,ur,L,aH,uN,_,ac,_⟩;obtain⟨s,_,U,_⟩:=ac.ex;exact⟨v0,jv i v0 aH,(bN _ uN).trans U.le⟩
 refine⟨λv=>∃n,zD T q lv.toNat (iY T.g q lv.toNat at') cN bT n9 n v,λv=>least λn=>zD T q lv.toNat (iY T.g q lv.toNat at') cN bT n9 n v,⟨T.g.length,aks _ ?_ ?_ ?_ ?_ ?_ ?_ iP⟩,?_⟩
 rw[aL _ _ Ar,aL _ _ Ar,aL _ _ Wu];exact xS
 intro c x E
 have mT:=oB c x E
 rw[aL _ _ (λe=>by grind),aL _ _ (λe=>by grind),aL _ _ (λe=>by grind)]
 exact mT
 rw[aL _ _ (Ne.symm Po),aL _ _ (Ne.symm Po),aS]
 rw[aS]
 exact oB.none ajD
 exact oB.none aiN
 intro v av
 have bQ:=Bp av
 obtain⟨ck,de⟩:∃ck,(least λn=>zD T q lv.toNat (iY T.g q lv.toNat at') cN bT n9 n v)=ck:=⟨_,rfl⟩
 dsimp only
 rw[de] at bQ ⊢
 obtain⟨v0,o,i,met,ur,L,aH,uN,iL,Pt,aiU,jj,AJ,WS,Ow,hi⟩:=bQ
 have aw1:=jv i v0 aH
 obtain⟨s,akn,AZ,awY⟩:=Pt.ex
 have akP:v0.le v:=(bN _ uN).trans AZ.le
 refine⟨s,aV akn 0,acB s v _ ?_⟩
 have mw:=AZ.fN.len
 refine⟨λmu=>?_,λp3=>?_⟩
 have ahH:0<L.length:=by omega
 refine apA (Zt (v0.ins bT o) n9) Zu (V:=wv) Pt aiU ahH (λdc ai ae=>amC dc ai ae) λaI eu x XE PE aiV awD=>?_
 obtain⟨y,lD,rfl⟩:∃y lD,ur=y::lD:=by
  cases ur with
  |nil=>simp_all|cons y l=>exact⟨y,l,rfl⟩
 have mx:x=y:=by
  have I:x∈y::lD:=(PE.trans jj).mem_iff.1 (.head _);have af:y∈x::eu:=(PE.trans jj).mem_iff.2 (.head _);have cv:bh x y=false:=by
   cases I with
   |head=>exact D8 _|tail _ I=>exact(List.pairwise_cons.1 AJ.F6).1 x I
  have cI:bh y x=false:=by grind
  exact Pe cI cv
 subst mx
 have ajW:eu.Perm lD:=(List.perm_cons x).1 (PE.trans jj)
 have q4:=AJ.sub _ (AJ.wait x (.head _)).1
 have Jc:=(AJ.wait x (.head _)).2
 obtain⟨n,rfl⟩:∃n,ck=n+1:=⟨ck-1,by simp[due] at WS;omega⟩
 have Ww:(iY T.g q lv.toNat at')[i]?=some x.1:=by
  have:((iY T.g q lv.toNat at').drop i)[0]?=some x.1:=by rw[Ow];simp[qK]
  rw[List.getElem?_drop] at this;simpa using this
 have WR:(iY T.g q lv.toNat at').drop (i+1)=qK (b6 T.g q) (jA T.g lv.toNat) n ((jA T.g lv.toNat x.1).foldl (gn (b6 T.g q)) (met,lD)).1 ((jA T.g lv.toNat x.1).foldl (gn (b6 T.g q)) (met,lD)).2:=by rw[<-List.drop_drop,Ow];simp[qK]
 have awf:i<(iY T.g q lv.toNat at').length:=(List.getElem?_eq_some_iff.1 Ww).1
 refine aaz ?_
 have akO:v0.le aI:=by obtain⟨_,_,hz,_⟩:=XE.ex;exact(bN _ uN).trans hz.le
 refine(PS i x.1 v0 (λb bH=>(b=true->cN (i+1) bH)/\(b=false->au bH)) Ww aH (λbH eg=>⟨λ_=>eg,λe=>(by cases e)⟩) (λbH eg=>⟨λe=>(by cases e),λ_=>eg⟩)).frame akO ?_|>(λz=>(by
  have e:DY (b6 T.g q x.1)=.agg #[.int .i64 x.1,.int .u64 (cK x.2),.int .u64 (cO x.2)]:=by rw[<-Jc];rfl
  rw[e] at z;exact z))
 rintro cF gU aq8 dK ⟨Oe,xY⟩
 refine⟨λah=>⟨gU,dK.le,hc _ (xY (Bool.eq_false_iff.2 ah))⟩,λZ=>?_⟩
 have pf:=Oe Z
 obtain⟨ajF,Ia⟩:=XE.HR uN dK
 have I6:=jv _ _ pf
 have akE:gU.le aq8:=dK.le
 have kk:=h.mono (I6.trans akE)
 obtain⟨_,_,_,c3,_⟩:=lz kk
 refine⟨_,rfl,_,c3,qo kk q4 λnd bX ml=>⟨_,rfl,by decide,⟨jN,b9⟩,?_⟩⟩
 obtain⟨dw,ir,df,dh,E,U,_⟩:=sn ml (lv:=lv.toNat) (by omega)
 have uY:jA T.g lv.toNat x.1=ir:=Rg bX dh
 have il:=U.ints.len
 have ot:=U.ints.max
 refine⟨dw,E,?_⟩
 rw[uY] at WR
 have Pb:∀y∈ir,y∈T.g.map (·.1):=λy af=>N.bO lv.toNat x.1 q4 y (by rw[uY];exact af)
 have Ex:pK (gU.ins bT o) bT met:=by obtain⟨es,C1,h1,h2⟩:=iL;rw[aS] at h1;exact⟨es,C1,by rw[aS];exact h1,h2⟩
 refine⟨λk w=>0<=k/\k<=ir.length/\∃(bn:Obj) (L':List bk),pK (gU.ins bT bn) bT ((ir.take k.toNat).foldl (gn (b6 T.g q)) (met,lD)).1/\nq (gU.ins bT bn) n9 w L'/\gb bh L'.length L'/\
  L'.Perm ((ir.take k.toNat).foldl (gn (b6 T.g q)) (met,lD)).2,λk _=>ir.length-k.toNat,⟨by omega,by omega,o,eu,Ex,ajF,aiV,ajW⟩,?_⟩
 rintro k w ⟨iq,cv,bn,L',Ey,IG,OT,Eo⟩
 obtain⟨axw,awV,PZ,_⟩:=IG.ex
 have po:gU.le w:=(bN _ Ia).trans PZ.le
 have jl:=I6.trans po
 have Eb:=Met.fold (b6 T.g q) (ids:=T.g.map (·.1)) (pX T.g q) (l:=ir.take k.toNat) (AJ.tail _) λy af=>Pb y (List.mem_of_mem_take af)
 refine⟨λbh=>?_,λhg=>?_⟩
 have lb:k.toNat<ir.length:=by omega
 have lX:kd ab ub x.1 nd:=h.node bX
 obtain⟨axx,aw7,aO,ar,_,dD,_⟩:=sn lX (lv:=lv.toNat) (by omega)
 rw[df] at aO;cases aO
 rw[dh] at ar;cases ar
 obtain⟨p,aa,nB⟩:=dD.ints.at iq bh
 refine⟨p,aa,⟨iq,bh⟩,_,mQ jl nB,?_⟩
 have I:ir[k.toNat]?=some (ir.getD k.toNat 0):=by simp[lb]
 have A6:=Pb _ (List.mem_of_getElem? I)
 have M:=SL (gn (b6 T.g q)) ir I (met,lD)
 rw[show k.toNat+1=(k+1).toNat by omega] at M
 refine Sb y9 (Ey.mono PZ.le) ?_
 refine⟨λZ=>?_,λZ=>?_⟩
 have p3:ir.getD k.toNat 0∉((ir.take k.toNat).foldl (gn (b6 T.g q)) (met,lD)).1:=by simpa using Z
 have gw:(ir.take (k+1).toNat).foldl (gn (b6 T.g q)) (met,lD)=(((ir.take k.toNat).foldl (gn (b6 T.g q)) (met,lD)).1++ [ir.getD k.toNat 0],my (b6 T.g q (ir.getD k.toNat 0)) ((ir.take k.toNat).foldl (gn (b6 T.g q)) (met,lD)).2):=by rw[M,amd p3]
 refine J8 y9 (Ey.mono PZ.le) p3 λea PU gP _=>?_
 obtain⟨VB,U5,akW,ajg⟩:=PU
 have XF:=IG.JX Ia akW gP
 obtain⟨_,_,ako,_⟩:=XF.ex
 have Yk:gU.le ea:=(bN _ Ia).trans ako.le
 refine FZ (h.mono (I6.trans Yk)) N A6 (ht.mono (I6.trans Yk)) ?_
 have Xl:L'.length<=1000:=by rw[Eo.length_eq];have:=l1 Eb.yW (λy af=>by obtain⟨z,aP,rfl⟩:=List.mem_map.1 af;exact Eb.sub _ (Eb.wait z aP).1);simp at this;omega
 refine abb (Zt (gU.ins bT (.map VB U5)) n9) Zu (x:=wv (b6 T.g q (ir.getD k.toNat 0))) OT (λae=>amD XF (by omega) ae) λhD xo ajG ajX aiW=>⟨⟨by omega,by omega⟩,⟨by omega,by omega,_,xo,?_,ajG,aiW,?_⟩,by dsimp only;omega⟩
 rw[gw];exact⟨VB,U5,aS _ _ _,ajg⟩
 rw[gw]
 refine ajX.trans ?_
 refine(List.perm_append_singleton _ _).trans ?_
 exact(List.Perm.cons _ Eo).trans (yI _ _).symm
 have cr:ir.getD k.toNat 0∈((ir.take k.toNat).foldl (gn (b6 T.g q)) (met,lD)).1:=by simpa using Z
 have gw:(ir.take (k+1).toNat).foldl (gn (b6 T.g q)) (met,lD)=(ir.take k.toNat).foldl (gn (b6 T.g q)) (met,lD):=by rw[M,ame cr]
 exact⟨⟨by omega,by omega⟩,⟨by omega,by omega,bn,L',by rw[gw];exact Ey,IG,OT,by rw[gw];exact Eo⟩,by dsimp only;omega⟩
 have aja:ir.take k.toNat=ir:=List.take_of_length_le (by omega)
 rw[aja] at Ey Eo Eb
 have fM:zD T q lv.toNat (iY T.g q lv.toNat at') cN bT n9 n w:=by refine⟨gU,bn,i+1,_,_,L',pf,Ia,Ey,IG,OT,Eo,Eb,?_,WR,by omega⟩;have:=afZ (b6 T.g q) (pX T.g q) (l:=ir) (AJ.tail _) Pb;rw[hlen] at this;have e:((ir.foldl (gn (b6 T.g q)) (met,lD)).1,(ir.foldl (gn (b6 T.g q)) (met,lD)).2)=ir.foldl (gn (b6 T.g q)) (met,lD):=rfl;rw[e,this];simp[due] at WS ⊢;omega
 exact⟨⟨n,fM⟩,Nat.lt_succ_of_le (least_le fM)⟩
 have NT:L=[]:=List.eq_nil_of_length_eq_zero (by omega)
 subst NT
 have Ws:ur=[]:=by simp_all
 subst Ws
 have he:(iY T.g q lv.toNat at').drop i=[]:=by rw[Ow];cases ck<;>rfl
 have x5:i=(iY T.g q lv.toNat at').length:=by have:=List.drop_eq_nil_iff.1 he;omega
 subst x5
 exact⟨v0,akP,Dv _ aH⟩
open Go.Sort Go.Shelf
theorem _root_.Go.Proofs.YtnaemgklhjkdhaaGreatDoor.o2.aqB{w aw:World}{o bn:Obj}(hw:Sub u w)(Z:u b=some o)(k:o2 b bn w aw):Step u [] w (u.ins b bn) [] aw:=by refine⟨λx y h=>?_,k.os,k.tape,k.output,k.drawn,Nat.le_of_eq k.size.symm,λx _ I _=>k.rest x (λe=>by grind),λx _ I=>?_,[],by simp,by simp⟩;unfold H.ins at h;split at h;rename_i e;rw[e];cases h;exact k.at_;rename_i e;rw[k.rest x e];exact hw _ _ h;rw[aL _ _ (λe=>by grind)];exact I
theorem aot{g off:Nat}{cur:Array Value}{T:TypeId}(N:u g=some (.cells cur T (0,0)))(ac:off+n<=cur.size){eO:TypeId}{K:H->Prop}(ae:K (u.ins g (.cells (wr cur off (List.replicate n (.int .i64 0))) T (0,0)))):
  cx Tryz.prog (Builtin.clear_ #[23] eO #[.slice (some ⟨g,off,none⟩) n c]) [] u K:=by
 intro w hw
 obtain⟨ht,i,z,hi,aP,jy,tr,u9,EQ⟩:=qH pE
 rcases Nat.eq_zero_or_pos n with rfl|mu
 refine⟨.tuple #[],w,u,by simp[Builtin.clear_,run_underlying ht],⟨[],.nil,rfl,?_⟩,Step.refl hw⟩
 have e:u.ins g (.cells (wr cur off (List.replicate 0 (.int .i64 0))) T (0,0))=u:=QF (by rw[N];rfl)
 rw[e] at ae
 exact ae
 obtain⟨aw,W,iU⟩:=SF (P:=Tryz.prog) (b:=g) (off:=off) (T:=T) (List.replicate n (.int .i64 0)) 0 cur w (hw _ _ N) (by simp;omega) (λv av=>by rw[List.eq_of_mem_replicate av];rfl)
 have av:∀w,(zeroValue 3).run Tryz.prog w=.ok (.int .i64 0) w:=λ_=>by kernel_rfl
 have QC:(Builtin.zeroCells (Value.int .i64 0).cells n).toList=List.replicate n (.int .i64 0):=by
  simp[Builtin.zeroCells,Value.cells];apply List.ext_getElem;simp
  grind
 obtain⟨m,rfl⟩:∃m,n=m+1:=⟨n-1,by omega⟩
 refine⟨.tuple #[],aw,_,by simp[Builtin.clear_,run_underlying ht,av,QC,W],⟨[],.nil,rfl,ae⟩,iU.aqB hw N⟩
def Mx(ub:H)(fv:Value)(p:Int->Bool):Prop:=∀x (v:H) (K:Bool->H->Prop),ub.le v->K (p x) v->mc Tryz.prog fv #[.int .i64 x] [.one .bool] v K
theorem ap5{fv:Value}{p:Int->Bool}(hs:Ints u s l)(aa:Mx ub fv p)(cy:ub.le u)
  (ae:∀i:Nat,i<l.length->(∀k,k<i->p (l.getD k 0)=false)->p (l.getD i 0)=true->K i u) (de:(∀k,k<l.length->p (l.getD k 0)=false)->K (-1) u):LR s fv u K:=by
 have ac:=hs.len
 have hm:=hs.max
 apply ath
 refine⟨λ_ i v=>v=u/\0<=i/\i<=l.length/\∀k:Nat,k<i.toNat->p (l.getD k 0)=false,λ_ i _=>l.length-i.toNat,⟨rfl,by omega,by omega,λk hk=>by simp at hk⟩,?_⟩
 rintro _ i v ⟨rfl,i0,i1,hk⟩
 refine⟨λdC=>?_,λhg=>de λk cR=>hk k (by omega)⟩
 obtain⟨q,ay,E⟩:=hs.at i0 dC
 refine⟨q,ay,⟨i0,dC⟩,_,E,aa _ _ _ cy ⟨λZ=>?_,λZ=>⟨⟨by omega,by omega⟩,⟨rfl,by omega,by omega,λk cR=>?_⟩,by dsimp only;omega⟩⟩⟩
 have:=ae i.toNat (by omega) hk Z
 rw[show((i.toNat:Nat):Int)=i by omega] at this
 exact this
 grind
theorem ap7{x:Int}(hs:Ints u s l)(ae:∀i:Int,(0<=i↔x∈l)->K i u):LU s x u K:=by
 have ac:=hs.len;have hm:=hs.max;apply atj;refine⟨λ_ i v=>v=u/\0<=i/\i<=l.length/\∀k:Nat,k<i.toNat->l.getD k 0≠x,λ_ i _=>l.length-i.toNat,⟨rfl,by omega,by omega,λk hk=>by simp at hk⟩,?_⟩;rintro _ i v ⟨rfl,i0,i1,hk⟩;refine⟨λdC=>?_,λhg=>ae _ ⟨λh=>by omega,λh=>?_⟩⟩;obtain⟨q,ay,E⟩:=hs.at i0 dC;have I:l[i.toNat]?=some (l.getD i.toNat 0):=by grind
 refine⟨q,ay,⟨i0,dC⟩,_,E,⟨λZ=>ae i ⟨λ_=>by grind,λ_=>i0⟩,λZ=>⟨⟨by omega,by omega⟩,⟨rfl,by omega,by omega,λk cR=>?_⟩,by dsimp only;omega⟩⟩⟩
 grind
 exfalso;obtain⟨k,lb,rfl⟩:=List.mem_iff_getElem.1 h;exact hk k (by omega) (by simp[lb])
def ap2{x:Int}{K:Bool->H->Prop}(hs:Ints u s l)(ae:K (decide (x∈l)) u):LO s x u K:=by apply atd;refine ap7 hs λi hi=>?_;have:decide (0<=i)=decide (x∈l):=decide_eq_decide.2 hi;rw[<-this] at ae;exact ae
theorem _root_.Go.Proofs.YtnaemgklhjkdhaaGreatDoor.aE.clear{e:Nat}(h:aE Y u e 1 s (l.flatMap encI)){i:Nat}(hi:i<=s.n){eO:TypeId}{K:H->Prop}
  (ae:∀(u':H) (bi:List Int),aE Y u' e 1 s (bi.flatMap encI)->bi.take i=l.take i->bi.length=l.length->e8 u u' s->K u'):cx Tryz.prog (Builtin.clear_ #[23] eO #[.slice (s.part i s.n s.c 1).a (s.part i s.n s.c 1).n (s.part i s.n s.c 1).c]) [] u K:=by
 have cY:=h.ints.len
 rcases h.own.is with h0|⟨g,cur,ap,N,ac,E,hs,ht⟩
 subst h0
 have ai:l=[]:=List.eq_nil_of_length_eq_zero cY.symm
 subst ai
 have OU:i=0:=by simpa using hi
 subst OU
 refine cx.pure [] (λw hw=>?_) .nil (ae u [] h rfl rfl (e8.refl _ _))
 obtain⟨ht,_⟩:=qH pE
 simp[J.part,Builtin.clear_,run_underlying ht]
 rfl
 rcases Nat.eq_or_lt_of_le hi with rfl|bh
 have e:(s.part s.n s.n s.c 1).n=0:=by simp[J.part]
 refine cx.pure [] (λw hw=>?_) .nil (ae u l h rfl rfl (e8.refl _ _))
 obtain⟨ht,_⟩:=qH pE
 rw[e]
 cases(s.part s.n s.n s.c 1).a<;>simp[Builtin.clear_,run_underlying ht]<;>rfl
 have nH:(s.part i s.n s.c 1).a=some ⟨g,i,none⟩:=by unfold J.part;simp only;rw[if_neg (by omega),ap];simp[Addr.add_lit]
 rw[nH]
 have wF:(s.part i s.n s.c 1).n=s.n-i:=rfl
 rw[wF]
 have cA:i+(s.n-i)<=cur.size:=by rw[hs];omega
 refine aot N cA ?_
 have yF:=Ci cur i (List.replicate (s.n-i) (.int .i64 0)) (by simpa using cA)
 simp only[List.length_replicate] at yF
 refine ae _ (l.take i++List.replicate (s.n-i) 0) ⟨⟨by rw[qM uH];simp;omega,.inr ⟨g,_,ap,aS _ _ _,ac,E,?_,?_⟩⟩,λb o Z=>?_,h.fresh⟩ ?_ ?_ ?_
 rw[<-Array.length_toList,yF];simp;omega
 rw[yF,tk,List.map_append,List.map_replicate]
 have q1:cur.toList.take s.n=l.map λx=>.int .i64 x:=by rw[<-tk,<-ht,Nat.mul_one]
 have h1:cur.toList.take i=(l.take i).map λx=>.int .i64 x:=by rw[List.map_take,<-q1,List.take_take,Nat.min_eq_left (by omega)]
 rw[h1,List.take_append_of_le_length (by simp;omega),List.take_of_length_le (by simp;omega)]
 have:b≠g:=λe=>by
   have:=h.fresh g (by simp[J.ad,ap])
   grind
 rw[aL _ _ this];exact h.le b o Z
 grind
 simp;omega
 intro b o Z ah
 rw[aL _ _ (λe=>ah (by simp[J.ad,ap,e]))];exact Z
theorem ap3{fv:Value}{p:Int->Bool}{K:J->H->Prop}(U:aE Y u 3 1 s (l.flatMap encI))(aa:Mx ub fv p)(cy:ub.le u)(iQ:∀b,s.ad=some b->ub b=none)
  (ae:∀s' u',aE Y u' 3 1 s' ((l.filter λx=>!p x).flatMap encI)->s'.ad=s.ad->e8 u u' s->K s' u'):LP s fv u K:=by
 have cY:=U.ints.len
 have uX:=U.ints.max
 apply ate
 refine ap5 U.ints aa cy (λi hi dp jM=>⟨λh=>by omega,λ_=>⟨⟨by omega,by omega⟩,?_⟩⟩) λdp=>⟨λ_=>?_,λh=>absurd rfl h⟩
 have aif:(l.take i).filter (λx=>!p x)=l.take i:=by rw[List.filter_eq_self];intro a ap;obtain⟨k,hk,rfl⟩:=List.mem_iff_getElem.1 ap;simp only[List.length_take] at hk;have:=dp k (by omega);rw[List.getD_eq_getElem?_getD,List.getElem?_eq_getElem (by omega)] at this;simp only[List.getElem_take,Option.getD_some] at this ⊢;rw[this];rfl
 have I:l[i]?=some (l.getD i 0):=by simp[hi]
 refine⟨λa j v=>0<=a/\a<j/\j<=l.length/\e8 u v s/\∃m:List Int,m.length=l.length/\aE Y v 3 1 s (m.flatMap encI)/\m.take a.toNat=(l.take j.toNat).filter (λx=>!p x)/\m.drop j.toNat=l.drop j.toNat,
  λ_ j _=>l.length-j.toNat,⟨by omega,by omega,by omega,e8.refl _ _,l,rfl,U,?_,rfl⟩,?_⟩
 rw[show((i:Int)+1).toNat=i+1 by omega,Int.toNat_natCast,List.take_add_one,I]
 grind
 rintro a j v ⟨a0,cg,alo,cQ,m,mY,mq,nK,tt⟩
 have Qk:ub.le v:=λb o Z=>cQ b o (cy b o Z) λe=>by grind
 refine⟨λjK=>?_,λhg=>?_⟩
 obtain⟨q,ay,E⟩:=mq.ints.at (x:=j) (by omega) jK
 have Ix:m.getD j.toNat 0=l.getD j.toNat 0:=by
  have:=congrArg (λz=>z[0]?) tt;simp only[List.getElem?_drop,Nat.add_zero] at this
  grind
 have D3:l[j.toNat]?=some (l.getD j.toNat 0):=by grind
 rw[Ix] at E
 have u5:(l.take (j.toNat+1)).filter (λx=>!p x)=m.take a.toNat++(if p (l.getD j.toNat 0)=true then[] else[l.getD j.toNat 0]):=by
  rw[List.take_add_one,D3,nK];simp only[Option.toList_some,List.filter_append,List.filter_cons,List.filter_nil]
  grind
 have Ov:∀tP:List Int,(∀k,a.toNat<k->tP[k]?=m[k]?)->tP.drop (j+1).toNat=l.drop (j+1).toNat:=λtP ov=>by
  have e:l.drop (j+1).toNat=m.drop (j+1).toNat:=by rw[show(j+1).toNat=j.toNat+1 by omega,<-List.drop_drop,<-List.drop_drop,tt]
  rw[e];apply List.ext_getElem?;intro k
  grind
 refine⟨q,ay,⟨by omega,jK⟩,_,E,aa _ _ _ Qk ⟨λZ=>?_,λZ=>?_⟩⟩
 have PF:p (l.getD j.toNat 0)=false:=by simpa using Z
 rw[PF] at u5
 refine⟨q,ay,⟨by omega,by omega⟩,?_⟩
 refine aE.store (enc:=encI) uH mq (by decide) (i:=a.toNat) (by omega) (y:=l.getD j.toNat 0) (HD _) ay λbE dD h4 _=>⟨⟨by omega,by omega⟩,⟨by omega,by omega⟩,⟨by omega,by omega,by omega,λb o Z ah=>h4 b o (cQ b o Z ah) ah,_,by simpa using mY,dD,?_,?_⟩,by dsimp only;omega⟩
 rw[show(j+1).toNat=j.toNat+1 by omega,u5,show(a+1).toNat=a.toNat+1 by omega,List.take_add_one,List.getElem?_set_self (by omega),List.take_set_of_le (Nat.le_refl _)]
 simp
 grind
 rw[Z] at u5
 refine⟨⟨by omega,by omega⟩,⟨by omega,by omega,by omega,cQ,m,mY,mq,?_,Ov m λ_ _=>rfl⟩,by dsimp only;omega⟩
 rw[show(j+1).toNat=j.toNat+1 by omega,u5];simp
 have jK:j.toNat=l.length:=by omega
 have hI:=bb.cap mq.own.bR
 rw[jK,List.take_length] at nK
 refine oM (P:=Tryz.prog) pE (l:=a.toNat) (h:=s.n) (m:=s.c) (.inr (by grind)) (.inl ⟨rfl,rfl⟩) (.inl ⟨rfl,rfl⟩) (by omega) hI (Nat.le_refl _) hI ?_
 refine mq.clear (i:=a.toNat) (by omega) λbE m2 dD h1 h2 h4=>?_
 refine oM (P:=Tryz.prog) pE (l:=0) (h:=a.toNat) (m:=s.c) (.inl ⟨rfl,rfl⟩) (.inr (by grind)) (.inl ⟨rfl,rfl⟩) (by omega) (by omega) (Nat.le_refl _) hI ?_
 obtain⟨M,uQ,_⟩:=dD.front (m:=a.toNat) (by omega)
 have e:(m2.flatMap encI).take (a.toNat*1)=(l.filter λx=>!p x).flatMap encI:=by rw[vZ uH,h1,nK]
 rw[e] at M
 exact ae _ _ M uQ λb o Z ah=>h4 b o (cQ b o Z ah) ah
 have e:l.filter (λx=>!p x)=l:=by rw[List.filter_eq_self];intro a ap;obtain⟨k,hk,rfl⟩:=List.mem_iff_getElem.1 ap;have:=dp k hk;rw[List.getD_eq_getElem?_getD,List.getElem?_eq_getElem hk] at this;simp only[Option.getD_some] at this;rw[this];rfl
 exact ae s u (by rw[e];exact U) rfl (e8.refl _ _)
end
end dE
