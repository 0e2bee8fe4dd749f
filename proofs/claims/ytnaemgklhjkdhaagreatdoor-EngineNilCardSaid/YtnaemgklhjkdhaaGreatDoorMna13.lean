/- Texts of mine, joined and packed by pack.py. -/
import Derived.Test.YtnaemgklhjkdhaaGreatDoorMna12
import Derived.Shelf.Strconv.AtoiAll
import Derived.Laws.Strings
import Derived.Test.YtnaemgklhjkdhaaGreatDoorRows
import Derived.Deep.Strs
import Derived.Lib.LaidTab
import Derived.LaidMore
import Derived.LaidSub
import Derived.Lay
import Derived.SevenTiedAt
set_option linter.all false
set_option maxRecDepth 100000
noncomputable section
namespace Go.Proofs.YtnaemgklhjkdhaaGreatDoor
open H
namespace n2
section
variable{u Y:H}{g:Nat}{n:Int}{K:Int->Int->H->Prop}
def Km{D:Nat->Prop}{b:Nat}{X:Go.Proofs.YtnaemgklhjkdhaaGreatDoor.ak}{c:np}{K:H->Prop}(h:dA Y u D b X)(kL:sk X<=2700)(fC:ib Y)(E:wX X.ao (b7 X) c)(hi:Ints u c.s c.v)(fN:∀x,c.s.ad=some x->¬D x)
  (ae:∀u' D' ic,dA Y u' D' b {X with X:=ic}->cD u D u' D'->(b7 {X with X:=ic}).Perm (o3 (b7 X) c)->ic.ao=X.X.ao->ic.ez<=X.X.ez+1->K u'):Gx (some ⟨b,0,none⟩) c.kind c.id c.s u K:=by
 obtain⟨D0,h1,h2,h3,aZ,bJ⟩:=h.ex
 unfold o3 at ae
 apply ar1
 refine⟨λaj=>?_,λaj=>?_⟩
 rw[if_pos aj] at ae
 apply aru
 refine⟨λe=>(by cases e),λ_=>⟨_,rfl,_,aV aZ 4,dO.vt bJ kL (λac u' hu=>?_) λhm u' D' ic i1 i2 i3 i4 i5 i6=>?_⟩⟩
 refine ae u' D X.X (h.mono hu) (cD.mono hu) ?_ rfl (Nat.le_succ _)
 rw[filter_none (P:=b7 X) ac]
 obtain⟨gI,QK⟩:=dA.cL h1 h2 h3 aZ i1 i2 i5
 exact ae u' _ _ gI QK (by rw[show b7 {X with X:=ic}=_ from i3];exact List.Perm.refl _) i4 (Nat.le_succ_of_le i6)
 rw[if_neg aj] at ae
 have he:=(E.resolve_left aj).2
 apply arv
 refine⟨λe=>(by cases e),λ_=>⟨_,rfl,_,aV aZ 4,dO.zb bJ kL fC hi (.inl λx I aj=>fN x I ((h1 x).2 (.inr aj))) (λah=>absurd he ah) λhe u' D' ic i1 i2 i3 i4 i5 i6=>?_⟩⟩
 obtain⟨gI,QK⟩:=dA.cL h1 h2 h3 aZ i1 i2 i5
 exact ae u' _ _ gI QK i3 i4 i6
def jo(au:ak):Int:=au.S.first+au.S.cs.n
def kX(X:Go.Proofs.YtnaemgklhjkdhaaGreatDoor.ak):Int×Int×Int×Int:=(X.k,X.s,X.p,X.c)
structure Ok(au:ak)(n:Int):Prop where
 rows:(b7 au.X).Perm (an.rowsOf au.S)
 ao:au.S.ao=au.ao/\au.X.ao=au.ao
 sp:kY au.X.k au.X.s au.X.p au.X.c=0
 ez:(sk au.X:Int)<=600+n
 nx:∀p,au.nx=some p->n1 au.ao (b7 p.2) au.left (an.rowsOf au.S)/\p.2.ao=au.ao/\(sk p.2:Int)+au.left.length<=600+n/\kY p.2.k p.2.s p.2.p p.2.c=0
 no:au.nx=none->au.left=[]
 iH:(au.left.length:Int)<=600+n
 c:0<=au.c/\au.c<=400+500*n
 n0:0<=n
structure Mk(au E':ak)(c:np):Prop where
 rows:(an.rowsOf E'.S).Perm (o3 (an.rowsOf au.S) c)
 ao:E'.ao=au.ao
 seq:jo E'=jo au+1
 safe:E'.S.safe=jo E'
 sp:kX E'.X=kX au.X
 nx:E'.nx.map (λp=>kX p.2)=au.nx.map λp=>kX p.2
 left:E'.left.length=au.left.length+(if au.nx.isSome then 1 else 0)
def F7:iG Tryz.prog 92=some (98,3,40,[.int .i64 0,.int .i64 0,.slice none 0 0]):=an.abQ
def aa7{sN:H}{D0:Nat->Prop}{f:Nat->Option aN}{fR au:ak}{num:Int}{c:np}(hk:Ok fR n)(h:At Y u f g au)(fC:ib Y)(ac:n<=1000)(h0:cD sN D0 u λx=>f x≠none)
  (aO:au.obj=fR.obj/\au.ga=fR.ga/\au.b=fR.b/\au.X=fR.X/\au.nx=fR.nx/\au.lf=fR.lf/\au.left=fR.left/\au.ao=fR.ao/\au.c=fR.c+340) (aW:(an.rowsOf au.S).Perm (o3 (an.rowsOf fR.S) c)) (Ot:au.S.ao=fR.S.ao) (IU:jo au=jo fR+1) (E:wX fR.ao (an.rowsOf fR.S) c)
  (hi:Ints u c.s c.v) (av:∀x,c.s.ad=some x->f x=none/\Y x=none/\u x≠none/\(D0 x∨sN x=none))
  (ae:∀u' bl E',At Y u' bl g E'->(cD sN D0 u' λx=>bl x≠none)->Ok E' (n+1)->Mk fR E' c->K num 0 u'):Gv (some ⟨g,0,none⟩) num c.kind c.id c.s u K:=by
 obtain⟨a0,O,a2,a3,a4,a5,n4,uA,CO⟩:=aO
 have kL:=hk.ez
 have km:=hk.c
 have qR:=hk.iH
 have xZ:wX fR.X.ao (b7 fR.X) c:=by rw[hk.ao.2];exact Rq hk.rows.symm E
 apply arZ
 refine⟨_,rfl,_,ak.cell h.cell 3,?_⟩
 have DZ:=h.bc
 rw[a3] at DZ
 refine Km DZ (by omega) fC xZ hi (λx I aj=>?_) λaI oU ic gI t1 jS M3 NA=>?_
 have hd:f x=some .bc:=aj
 rw[(av x I).1] at hd;cases hd
 obtain⟨f1,fk⟩:=BI h.own t1 gI.base.2.2
 obtain⟨qw,eX⟩:∃qw:ak,qw={au with X:={fR.X with X:=ic}}:=⟨_,rfl⟩
 have gz:At Y aI f1 g qw:=by refine h.cL fk (.inr (.inl rfl)) (by rw[eX];rfl) (by rw[eX]) (by rw[eX]) (.inl ⟨by simp,by rw[eX],by rw[eX],by rw[eX],by rw[eX]⟩) (.inr ?_) (.inl ⟨by simp,by rw[eX]⟩);rw[fk.is,eX];exact gI
 have a6:=h0.trans fk.cL
 have v1:∀x,c.s.ad=some x->f1 x=none/\Y x=none/\aI x≠none/\(D0 x∨sN x=none):=λx I=>by obtain⟨e4,fm,h8,mH⟩:=av x I;obtain⟨o,U⟩:=Option.ne_none_iff_exists'.1 h8;refine⟨Classical.byContradiction λe=>?_,fm,by rw[fk.bd x o U (by rw[e4];simp)];simp,mH⟩;rcases fk.cL.grow x e with ar|ar;exact ar e4;exact h8 ar
 have i1:Ints aI c.s c.v:=bb.else hi λx o I U=>fk.bd x o U (by rw[(av x I).1];simp)
 have sync:∀{w:H} {HT:Nat->Option aN} {mJ:ak},At Y w HT g mJ->(cD sN D0 w λx=>HT x≠none)->mJ.ga=au.ga->mJ.S=au.S->mJ.c=au.c->mJ.b=au.b->mJ.X={fR.X with X:=ic}->mJ.nx=au.nx->mJ.ao=au.ao->mJ.left=(if fR.nx.isSome then fR.left++ [c] else fR.left)->
   aD (some (⟨g,0,none⟩:Addr)) λe=>ca w e λf=>GN f w λg i=>bt (g=0) (K 0 g i) (K num 0 i):=by
  intro w HT mJ dv aJ eQ eI mi qD vR vS Hl ael
  obtain⟨aB,la,nA,mm⟩:=dv.bo
  refine⟨_,rfl,_,ak.cell dv.cell 0,an.zc nA mm (by rw[mi,CO];omega) λbE f2 ia s2 t2 cI=>⟨λe=>absurd rfl e,λ_=>?_⟩⟩
  have aqM:cD w (part HT .bo) bE λx=>f2 x≠none:=by rw[la];exact t2
  obtain⟨f3,vk⟩:=BI dv.own aqM s2.own.known
  obtain⟨hS,iK⟩:∃hS:ak,hS={mJ with S:={mJ.S with safe:=mJ.S.first+mJ.S.cs.n},L:=ia,c:=mJ.c+100}:=⟨_,rfl⟩
  have uk:At Y bE f3 g hS:=by refine dv.cL vk (.inl rfl) (by rw[iK];rfl) (by rw[iK]) (by rw[iK]) (.inr ?_) (.inl ⟨by simp,by rw[iK],by rw[iK]⟩) (.inl ⟨by simp,by rw[iK]⟩);rw[vk.is,iK];exact⟨f2,rfl,s2,cI⟩
  have cJ:hS.S={au.S with safe:=jo au}:=by rw[iK];show({mJ.S with safe:=_}:an.ak)=_;rw[eI];rfl
  have c8:hS.X={fR.X with X:=ic}:=by rw[iK];exact vR
  have eC:hS.nx=fR.nx:=by rw[iK];exact vS.trans a4
  have fy:hS.left=(if fR.nx.isSome then fR.left++ [c] else fR.left):=by rw[iK];exact ael
  have eJ:hS.ao=fR.ao:=by rw[iK];exact Hl.trans uA
  have ky:hS.c=fR.c+440:=by rw[iK];show mJ.c+100=_;rw[mi,CO];omega
  have jf:hS.left.length=fR.left.length+(if fR.nx.isSome then 1 else 0):=by rw[fy];split<;>simp
  have awu:hS.left.length<=fR.left.length+1:=by rw[jf];split<;>omega
  have RM:an.rowsOf hS.S=an.rowsOf au.S:=by rw[cJ];rfl
  refine ae _ _ hS uk (aJ.trans vk.cL) ⟨?_,⟨?_,?_⟩,?_,?_,λq ay=>?_,λay=>?_,by omega,by rw[ky];omega,by have:=hk.n0;omega⟩ ⟨by rw[RM];exact aW,eJ,?_,?_,?_,by rw[eC],jf⟩
  rw[c8,RM]
  exact(jS.trans (Hi hk.rows c)).trans aW.symm
  rw[cJ,eJ];exact Ot.trans hk.ao.1
  rw[c8,eJ]
  exact M3.trans hk.ao.2
  rw[c8];exact hk.sp
  rw[c8]
  have:sk {fR.X with X:=ic}<=sk fR.X+1:=NA
  omega
  rw[eC] at ay
  obtain⟨e4,fm,h8,mH⟩:=hk.nx q ay
  rw[eJ,RM,fy,ay]
  refine⟨(e4.snoc E).perm (.refl _) aW.symm,fm,?_,mH⟩
  simp only[Option.isSome_some,if_true,List.length_append,List.length_cons,List.length_nil]
  omega
  rw[eC] at ay
  rw[fy,ay]
  exact hk.no ay
  show hS.S.first+hS.S.cs.n=_
  rw[cJ];exact IU
  show hS.S.safe=hS.S.first+hS.S.cs.n
  rw[cJ];rfl
  rw[c8];rfl
 intro js hc
 refine⟨_,rfl,au.lq,by have:=ak.cell gz.cell 4;rw[eX] at this;exact this,λah=>?_,λhe=>hc aI (sync gz a6 (by rw[eX]) (by rw[eX]) (by rw[eX]) (by rw[eX]) (by rw[eX]) (by rw[eX]) (by rw[eX]) ?_)⟩
 have AZ:fR.nx.isSome=true:=by
   cases e:fR.nx with
   |none=>exact absurd (by unfold ak.lq;rw[a4,e];rfl) ah|some q=>rfl
 have qU:=gz.lf
 have b9:qw.lf=au.lf:=by rw[eX]
 have cZ:qw.left=au.left:=by rw[eX]
 have jf:au.lf.n=au.left.length:=by have:=fx Ac (by decide) qU.bR;rw[b9,cZ] at this;exact this
 refine⟨_,rfl,au.lf,by have:=ak.cell gz.cell 5;rw[eX] at this;exact this,aaE F7 (an.MI c.kind c.id c.s) (by decide) rfl (by simp[Value.oneCell']) (by rw[<-b9];exact qU) (by rw[jf,n4];omega) (by rw[jf,n4];omega) λq z ay wI cQ ee=>?_⟩
 obtain⟨mI,e1⟩:∃mI:ak,mI={qw with lf:=q,left:=au.left++ [c]}:=⟨_,rfl⟩
 obtain⟨f2,k0,fB,_⟩:=gz.left (E':=mI) (z:=z) (v:=sN) (D0:=D0) (by rw[e1,List.flatMap_append,<-cZ];simpa[te] using ay) (λx o I ah=>cQ x o I (by rw[<-b9];exact ah)) (λx I=>by rw[b9];rw[e1] at I;exact ee x I) (λd aj=>by rw[e1] at aj;rcases List.mem_append.1 aj with aj|aj;exact .inl (by rw[cZ];exact aj);rw[List.mem_singleton.1 aj];exact .inr ⟨i1,v1⟩) a6 ⟨by rw[e1],by rw[e1],by rw[e1],by rw[e1]⟩ ⟨by rw[e1],by rw[e1]⟩ (λp aa=>by rw[e1] at aa;exact aa)
 have aP:z g=some qw.obj:=cQ _ _ gz.cell λe=>by have:=gz.iV g (by rw[b9];exact e);rw[gz.lO] at this;cases this
 refine⟨_,rfl,_,_,aP,rfl,by first|(show(6:Nat)<=6;decide)|simp[Addr.add],by simp[Value.oneCell'],?_⟩
 generalize kr:H.ins z _ _=w
 obtain rfl:w=z.ins g mI.obj:=kr.symm.trans (by rw[e1];rfl)
 exact hc _ (sync k0 fB (by rw[e1,eX]) (by rw[e1,eX]) (by rw[e1,eX]) (by rw[e1,eX]) (by rw[e1,eX]) (by rw[e1,eX]) (by rw[e1,eX]) (by rw[e1,if_pos AZ,n4]))
 have dp:fR.nx=none:=by
   cases e:fR.nx with
   |none=>rfl|some q=>unfold ak.lq at he;rw[a4,e] at he;cases he
 rw[dp,eX]
 exact n4
def stored{aI:H}{f:Nat->Option aN}{au:ak}{P:List (Int×List Int)}{aB f1:Nat->Option an.aN}{ux:an.ak}{eu:dn.dy}(h:At Y u f g au)(la:part f .bo=λx=>aB x≠none)(r:an.rI Y u aB au.ga au.S au.c P aI f1 ux eu):
  ∃f2,At Y aI f2 g {au with S:=ux,L:=eu,c:=au.c+340}/\(cD u (λx=>f x≠none) aI λx=>f2 x≠none)/\∀x,aI x=none->f2 x=none/\(f x≠none∨u x=none):=by
 have t:cD u (part f .bo) aI λx=>f1 x≠none:=by rw[la];exact r.cL
 obtain⟨f2,p⟩:=BI h.own t r.is.own.known
 refine⟨f2,h.cL p (.inl rfl) rfl rfl rfl (.inr ?_) (.inl ⟨by simp,rfl,rfl⟩) (.inl ⟨by simp,rfl⟩),p.cL,λx I=>⟨Classical.byContradiction λe=>p.own.known x e I,?_⟩⟩
 rw[p.is];exact⟨f1,rfl,r.is,r.ok⟩
 by_cases M:f x=none
 refine .inr ?_
 cases e:u x with
 |none=>rfl
 |some o=>rw[p.bd x o e (by rw[M];simp)] at I;cases I
 exact .inl M
def wY{aI bE:H}{e k:Nat}{s:J}{xs:List Value}(U:aE aI bE e k s xs){x:Nat}(I:s.ad=some x):aI x=none/\bE x≠none:=by
 refine⟨U.fresh x I,?_⟩;rcases U.own.is with h0|⟨bS,s8,ap,cH,_⟩;rw[h0] at I;cases I;have ar:some bS=some x:=by unfold J.ad at I;rw[ap] at I;exact I
 rw[<-Option.some.inj ar,cH];simp
def zb{f:Nat->Option aN}{au:ak}{id:Int}{s:J}{q:List Int}(h:At Y u f g au)(hk:Ok au n)(fC:ib Y)(cB:lF Y)(ac:n<=1000)(hs:Ints u s q)
  (dT:hA id q au.ao (decide (id∈(an.rowsOf au.S).map (·.1))) (an.rowsOf au.S).length≠0->K 0 (an.JU (hA id q au.ao (decide (id∈(an.rowsOf au.S).map (·.1))) (an.rowsOf au.S).length)) u)
  (bL:hA id q au.ao (decide (id∈(an.rowsOf au.S).map (·.1))) (an.rowsOf au.S).length=0->∀u' bl E' s',At Y u' bl g E'->(cD u (λx=>f x≠none) u' λx=>bl x≠none)->Ok E' (n+1)->Mk au E' ⟨1,id,s',q⟩->K (jo au+1) 0 u'):vA (some ⟨g,0,none⟩) id s u K:=by
 obtain⟨aB,la,nA,mm⟩:=h.bo
 have km:=hk.c
 apply acm
 refine⟨λe=>(by cases e),λ_=>⟨_,rfl,_,ak.cell h.cell 0,?_⟩⟩
 refine an.zb nA mm cB (by omega) hs (λah=>?_) λhe aI f1 ux eu r=>⟨λe=>absurd rfl e,λ_=>?_⟩
 rw[hk.ao.1] at ah ⊢
 have Z:=dT ah
 refine⟨λ_=>Z,λe=>absurd e ?_⟩
 unfold an.JU
 split
 decide
 exact ah
 rw[hk.ao.1] at he
 have bL:=bL he
 obtain⟨f2,gz,a6,Mo⟩:=stored h la r
 have hm:∀v,(id,v)∈an.rowsOf ux->v=q:=λv av=>by rcases List.mem_cons.1 (r.rows.mem_iff.1 av) with e|e;exact congrArg Prod.snd e;have:=(List.mem_filter.1 e).2;simp at this
 refine⟨_,rfl,_,ak.cell gz.cell 0,an.Sm r.is r.ok (λdp=>absurd ?_ dp) λv av s2 bE U=>?_⟩
 exact List.mem_map.2 ⟨(id,q),r.rows.mem_iff.2 (.head _),rfl⟩
 rw[hm v av] at U
 have k0:=gz.mono U.le
 have:=aa7 (num:=jo au+1) (c:=⟨1,id,s2,q⟩) (K:=K) hk k0 fC ac (a6.trans (cD.mono U.le)) ⟨rfl,rfl,rfl,rfl,rfl,rfl,rfl,rfl,rfl⟩ (by
  unfold o3;rw[if_neg (by decide:¬(1:Int)=2)];exact r.rows) r.ao (by show ux.first+(ux.cs.n:Int)=_;rw[r.seq];rfl) (.inr ⟨rfl,he⟩) U.ints (λx I=>by
  obtain⟨e4,fm⟩:=wY U I;exact⟨(Mo x e4).1,gz.own.le.none e4,fm,(Mo x e4).2⟩) λu' bl E' a t k c=>bL u' bl E' s2 a t k c
 exact this
def vt{f:Nat->Option aN}{au:ak}{id:Int}(h:At Y u f g au)(hk:Ok au n)(fC:ib Y)(cB:lF Y)(ac:n<=1000)
  (dp:id∉(an.rowsOf au.S).map (·.1)->K 0 190 u) (jM:id∈(an.rowsOf au.S).map (·.1)->∀u' bl E',At Y u' bl g E'->(cD u (λx=>f x≠none) u' λx=>bl x≠none)->Ok E' (n+1)->Mk au E' ⟨2,id,⟨none,0,0⟩,[]⟩->K (jo au+1) 0 u'):Lr (some ⟨g,0,none⟩) id u K:=by
 obtain⟨aB,la,nA,mm⟩:=h.bo
 have km:=hk.c
 apply aci
 refine⟨λe=>(by cases e),λ_=>⟨_,rfl,_,ak.cell h.cell 0,?_⟩⟩
 refine an.vt nA mm cB (by omega) (λhm=>⟨λ_=>dp hm,λe=>absurd e (by decide)⟩) λhm aI f1 ux eu r=>⟨λe=>absurd rfl e,λ_=>?_⟩
 obtain⟨f2,gz,a6,Mo⟩:=stored h la r
 have:=aa7 (num:=jo au+1) (c:=⟨2,id,⟨none,0,0⟩,[]⟩) (K:=K) hk gz fC ac a6 ⟨rfl,rfl,rfl,rfl,rfl,rfl,rfl,rfl,rfl⟩ (by unfold o3;rw[if_pos rfl];exact r.rows) r.ao (by show ux.first+(ux.cs.n:Int)=_;rw[r.seq];rfl) (.inl rfl) (Ints.nil aI) (λx I=>by cases I) λu' bl E' a t k c=>jM hm u' bl E' a t k c
 exact this
def Sm{f:Nat->Option aN}{au:ak}{id:Int}{K:J->Int->H->Prop}(h:At Y u f g au)(dp:id∉(an.rowsOf au.S).map (·.1)->K ⟨none,0,0⟩ 190 u)(jM:∀v,(id,v)∈an.rowsOf au.S->∀s u',aE u u' 3 1 s (v.flatMap encI)->K s 0 u'):Lt (some ⟨g,0,none⟩) id u K:=by obtain⟨aB,la,nA,mm⟩:=h.bo;apply ack;exact⟨λe=>(by cases e),λ_=>⟨_,rfl,_,ak.cell h.cell 0,an.Sm nA mm dp jM⟩⟩
def Sx{f:Nat->Option aN}{au:ak}{K:J->H->Prop}(h:At Y u f g au)(ae:∀s ls u',rJ u u' s ls->(ls.map aT.bV).Perm (an.rowsOf au.S)->(ls.Pairwise λa b=>a.id<=b.id)->K s u'):zq (some ⟨g,0,none⟩) u K:=by obtain⟨aB,la,nA,mm⟩:=h.bo;apply acu;exact⟨_,rfl,_,ak.cell h.cell 0,an.Kj nA mm ae⟩
def Kj{f:Nat->Option aN}{au:ak}{K:J->H->Prop}(h:At Y u f g au)(ae:∀s ls u',rJ u u' s ls->(ls.map aT.bV).Perm (an.rowsOf au.S)->(ls.Pairwise λa b=>a.id<=b.id)->K s u'):Lu (some ⟨g,0,none⟩) u K:=by apply acp;exact⟨λe=>(by cases e),λ_=>⟨_,rfl,Sx h ae⟩⟩
def aqf{f:Nat->Option aN}{au:ak}{p:Nat×Go.Proofs.YtnaemgklhjkdhaaGreatDoor.ak}{K:Bool->H->Prop}(h:At Y u f g au)(hk:Ok au n)(fC:ib Y)(ac:n<=1000)(aa:au.nx=some p)(u0:au.left=[]->K false u)
  (aio:∀c l,au.left=c::l->∀u' bl q ic,At Y u' bl g {au with nx:=some (p.1,{p.2 with X:=ic}),lf:=q,left:=l}->(cD u (λx=>f x≠none) u' λx=>bl x≠none)->Ok {au with nx:=some (p.1,{p.2 with X:=ic}),lf:=q,left:=l} n->K true u'):Tx (some ⟨g,0,none⟩) u K:=by
 have kL:=hk.ez
 obtain⟨e4,fm,h8,mH⟩:=hk.nx p aa
 have jf:au.lf.n=au.left.length:=fx Ac (by decide) h.lf.bR
 apply ar0
 refine⟨_,rfl,au.lf,ak.cell h.cell 5,λh0=>u0 (List.eq_nil_of_length_eq_zero (by omega)),λmu=>?_⟩
 cases ai:au.left with
 |nil=>rw[ai] at jf;exact absurd (by rw[jf];rfl) mu
 |cons c l=>
 have lW:=h.lf.bR
 have qU:=h.lf
 have kM:=h.Bt
 rw[ai] at lW qU kM jf e4 h8
 obtain⟨cj,nH,fT⟩:=bb.elem Ac (by decide) lW (i:=0) (x:=c) rfl
 obtain⟨v1,v2⟩:=kM c (.head _)
 have pk:au.lq=some ⟨p.1,0,none⟩:=by unfold ak.lq;rw[aa];rfl
 have c4:=ak.cell h.cell 4
 rw[pk] at c4
 have dH:cj.add (0*3)=cj.add 0:=rfl
 rw[dH] at fT
 have I:=h.nx p aa
 refine⟨_,rfl,_,rfl,_,c4,au.lf,ak.cell h.cell 5,cj,nH,⟨by omega,by omega⟩,_,by have:=fT 0 _ rfl;rw[Addr.uB] at this;exact this,_,fT 1 _ rfl,c.s,fT 2 _ rfl,?_⟩
 refine Km I (by omega) fC (by rw[fm];exact e4.1) v1 (λx I aj=>?_) λaI oU ic gI t1 jS M3 NA=>?_
 have hd:f x=some .nx:=aj
 rw[(v2 x I).1] at hd;cases hd
 obtain⟨f1,fk⟩:=BI h.own t1 gI.base.2.2
 obtain⟨qw,eX⟩:∃qw:ak,qw={au with nx:=some (p.1,{p.2 with X:=ic})}:=⟨_,rfl⟩
 have U:qw.obj=au.obj:=by rw[eX];unfold ak.obj ak.lq;simp only[aa,Option.map_some]
 have gz:At Y aI f1 g qw:=by refine h.cL fk (.inr (.inr rfl)) U (by rw[eX]) (by rw[eX]) (.inl ⟨by simp,by rw[eX],by rw[eX],by rw[eX],by rw[eX]⟩) (.inl ⟨by simp,by rw[eX],by rw[eX]⟩) (.inr λq ay=>?_);rw[eX] at ay;cases ay;rw[fk.is];exact gI
 have MT:=gz.cell
 rw[U] at MT
 refine⟨_,rfl,au.lf,ak.cell MT 5,oM F7 (l:=1) (h:=au.lf.n) (m:=au.lf.c) (.inr rfl) (.inl ⟨rfl,rfl⟩) (.inl ⟨rfl,rfl⟩) (by omega) (bb.cap lW) (Nat.le_refl _) (bb.cap lW) ?_⟩
 obtain⟨q,ay⟩:∃q,q=au.lf.part 1 au.lf.n au.lf.c 3:=⟨_,rfl⟩
 rw[<-ay]
 obtain⟨mI,e1⟩:∃mI:ak,mI={au with nx:=some (p.1,{p.2 with X:=ic}),lf:=q,left:=l}:=⟨_,rfl⟩
 have ajn:oV aI 98 3 au.lf (te c++l.flatMap te):=by have:=gz.lf;rw[eX] at this;simpa[ai] using this
 have IQ:∀x,q.ad=some x->au.lf.ad=some x:=λx I=>by
  rw[ay] at I;unfold J.ad J.part at I;dsimp only at I;rw[nH] at I;have cq:cj.block=x:=by split at I;simpa using I;simpa[Addr.add] using I
  unfold J.ad;rw[nH,<-cq];rfl
 obtain⟨f2,k0,fB,_⟩:=gz.left (E':=mI) (z:=aI) (v:=u) (by rw[e1,ay];exact ajn.cut rfl (by omega)) (λx o I _=>I) (λx I=>.inl (by rw[e1] at I;rw[eX];exact IQ x I)) (λd aj=>by rw[e1] at aj;refine .inl ?_;rw[eX];show d∈au.left;rw[ai];exact .tail _ aj) fk.cL ⟨by rw[e1,eX],by rw[e1,eX],by rw[e1,eX],by rw[e1,eX]⟩ ⟨by rw[e1,eX],by rw[e1,eX]⟩ (λd aj=>by rw[e1] at aj;rw[eX];exact aj)
 have qR:=hk.iH
 rw[ai] at qR
 have gP:Ok {au with nx:=some (p.1,{p.2 with X:=ic}),lf:=q,left:=l} n:=by refine⟨hk.rows,hk.ao,hk.sp,hk.ez,λd aj=>?_,λaj=>(by cases aj),by simp at qR ⊢;omega,hk.c,hk.n0⟩;cases aj;refine⟨e4.2.perm jS.symm (.refl _),M3.trans fm,?_,mH⟩;have:sk {p.2 with X:=ic}<=sk p.2+1:=NA;rw[List.length_cons] at h8;show(sk {p.2 with X:=ic}:Int)+l.length<=_;omega
 have fM:=aio c l ai _ f2 q ic (by rw[e1] at k0;exact k0) (by rw[e1] at fB;exact fB) gP
 refine⟨_,rfl,_,_,MT,rfl,by first|(show(6:Nat)<=6;decide)|simp[Addr.add],by simp[Value.oneCell'],?_⟩
 have dD:ak.obj {au with nx:=some (p.1,{p.2 with X:=ic}),lf:=q,left:=l}=ak.obj {au with lf:=q}:=by unfold ak.obj ak.lq;simp only[aa,Option.map_some]
 rw[dD] at fM
 exact fM
def MF:fi Tryz.prog 41=true:=by kernel_rfl
structure G9(au E':ak):Prop where
 S:E'.S=au.S
 ao:E'.ao=au.ao
def aa2{f:Nat->Option aN}{au:ak}{x:Int}{K:Bool->Int->H->Prop}(h:At Y u f g au)(hk:Ok au n)(fC:ib Y)(ac:n<=1000)
  (dT:x<1∨1000<x->K false 1 u) (aiY:1<=x/\x<=1000->au.nx=none->K false 212 u)
  (gk:1<=x/\x<=1000->∀p,au.nx=some p->x.toNat<au.left.length->∀u' bl E',At Y u' bl g E'->(cD u (λx=>f x≠none) u' λx=>bl x≠none)->Ok E' n->G9 au E'->E'.left=au.left.drop x.toNat->kX E'.X=kX au.X->E'.nx.map (λp=>kX p.2)=au.nx.map (λp=>kX p.2)->K false 0 u')
  (ep:1<=x/\x<=1000->∀p,au.nx=some p->au.left.length<=x.toNat->∀u' bl E',At Y u' bl g E'->(cD u (λx=>f x≠none) u' λx=>bl x≠none)->Ok E' n->G9 au E'->E'.nx=none->kX E'.X=kX p.2->K true 0 u'):Cm (some ⟨g,0,none⟩) x u K:=by
 apply acr
 refine⟨λe=>(by cases e),λ_=>?_⟩
 intro jF hv
 have go:∀cF:Bool,(cF=true↔(x<1∨1000<x))->jF cF u:=λcF Z=>hv cF u ⟨λe=>dT (Z.1 e),λe=>?_⟩
 exact⟨λh1=>go true ⟨λ_=>.inl h1,λ_=>rfl⟩,λh1=>go _ ⟨λe=>.inr (of_decide_eq_true e),λe=>decide_eq_true (by omega)⟩⟩
 have I:1<=x/\x<=1000:=by
  have:¬(x<1∨1000<x):=λE=>by rw[Z.2 E] at e;cases e
  omega
 refine⟨_,rfl,_,ak.cell h.cell 4,λhe=>aiY I ?_,λah=>?_⟩
 cases e:au.nx with
 |none=>rfl
 |some q=>unfold ak.lq at he;rw[e] at he;cases he
 obtain⟨p,aa⟩:∃p,au.nx=some p:=Option.ne_none_iff_exists'.1 λe=>ah (by unfold ak.lq;rw[e];rfl)
 intro js hc
 let an (j:Nat) (w:H) (bl:Nat->Option aN) (E':ak) (iu:Nat×Go.Proofs.YtnaemgklhjkdhaaGreatDoor.ak):Prop:=At Y w bl g E'/\(cD u (λx=>f x≠none) w λx=>bl x≠none)/\Ok E' n/\G9 au E'/\E'.X=au.X/\E'.nx=some iu/\kX iu.2=kX p.2/\E'.left=au.left.drop j
 have exit:∀(i:Int) (w:H) bl E' iu,an (x-i).toNat w bl E' iu->0<=i->i<=x->(i=0∨E'.left=[])->js i w:=by
  rintro i w bl E' iu ⟨dv,aJ,hO,aW,lQ,de,cB,cE⟩ i0 i1 hi;refine hc i w ⟨_,rfl,E'.lf,ak.cell dv.cell 5,?_⟩;have jf:E'.lf.n=E'.left.length:=fx Ac (by decide) dv.lf.bR;refine⟨λmu=>?_,λaP=>?_⟩;have jx:E'.left≠[]:=λe=>by rw[e] at jf;rw[jf] at mu;exact absurd mu (by decide)
  have ald:i=0:=hi.resolve_right jx;rw[ald,Int.sub_zero] at cE;have bh:x.toNat<au.left.length:=by
   have:0<(au.left.drop x.toNat).length:=by rw[<-cE];exact List.length_pos_iff.2 jx
   rw[List.length_drop] at this;omega
  exact gk I p aa bh w bl E' dv aJ hO aW cE (by rw[lQ]) (by rw[de,aa];simp[cB]);have u0:E'.left=[]:=List.eq_nil_of_length_eq_zero (by omega);have hle:au.left.length<=x.toNat:=by
   have:(au.left.drop (x-i).toNat).length=0:=by rw[<-cE,u0];rfl
   rw[List.length_drop] at this;omega
  obtain⟨e4,fm,h8,mH⟩:=hO.nx iu de;rw[u0] at e4 h8;obtain⟨mI,e1⟩:∃mI:ak,mI={E' with b:=iu.1,X:=iu.2,nx:=none,lf:=⟨none,0,0⟩,left:=[]}:=⟨_,rfl⟩;obtain⟨f2,k0,fB⟩:=dv.swap de (E':=mI) ⟨by rw[e1],by rw[e1],by rw[e1],by rw[e1]⟩ ⟨by rw[e1],by rw[e1]⟩ (by rw[e1]) (by rw[e1]) (by rw[e1]);have et:=hO.n0;have gP:Ok mI n:=by rw[e1];exact⟨e4,⟨hO.ao.1,fm⟩,mH,by simp at h8;exact h8,λq ay=>(by cases ay),λ_=>rfl,by simp;omega,hO.c,hO.n0⟩
  have fM:=ep I p aa hle _ f2 mI k0 (aJ.trans fB) gP ⟨by rw[e1];exact aW.S,by rw[e1];exact aW.ao⟩ (by rw[e1]) (by rw[e1];exact cB);have pk:E'.lq=some ⟨iu.1,0,none⟩:=by unfold ak.lq;rw[de];rfl
  have c4:=ak.cell dv.cell 4;rw[pk] at c4;refine⟨_,rfl,_,c4,_,rfl,_,_,dv.cell,rfl,by first|(show(4:Nat)<=6;decide)|simp[Addr.add],by simp[Value.oneCell'],?_⟩;obtain⟨dk,hz⟩:∃dk,dk=Obj.cells #[.pointer (some ⟨E'.ga,0,none⟩),.int .i64 E'.ao,.int .u64 E'.ku,.pointer (some ⟨iu.1,0,none⟩),.pointer (some ⟨iu.1,0,none⟩),.slice E'.lf.a E'.lf.n E'.lf.c] 94 (0,0):=⟨_,rfl⟩;generalize kr:H.ins w _ _=v1;obtain rfl:v1=w.ins g dk:=kr.symm.trans (by subst hz;unfold ak.lq;rw[de];rfl);have cv:=(aS w g dk).trans (congrArg some hz);apply acj;refine⟨λe=>(by cases e),λ_=>⟨_,rfl,_,aV cv 4,λe=>(by cases e),λ_=>⟨_,rfl,_,_,cv,rfl,by first|(show(5:Nat)<=6;decide)|simp[Addr.add],by simp[Value.oneCell'],?_⟩⟩⟩;obtain⟨fq,dD⟩:∃fq,fq=Obj.cells #[.pointer (some ⟨E'.ga,0,none⟩),.int .i64 E'.ao,.int .u64 E'.ku,.pointer (some ⟨iu.1,0,none⟩),.pointer none,.slice E'.lf.a E'.lf.n E'.lf.c] 94 (0,0):=⟨_,rfl⟩;generalize qc:H.ins (w.ins g dk) _ _=v2;obtain rfl:v2=(w.ins g dk).ins g fq:=qc.symm.trans (by subst dD;rfl);have cI:=(aS (w.ins g dk) g fq).trans (congrArg some dD);refine⟨_,rfl,_,_,cI,rfl,by first|(show(6:Nat)<=6;decide)|simp[Addr.add],by simp[Value.oneCell'],?_⟩;generalize EO:H.ins ((w.ins g dk).ins g fq) _ _=v3;obtain rfl:v3=((w.ins g dk).ins g fq).ins g mI.obj:=EO.symm.trans (by subst e1;rfl);rw[yJ,yJ];exact fM
 refine⟨λi w=>0<=i/\i<=x/\∃bl E' iu,an (x-i).toNat w bl E' iu,λi _=>i.toNat,⟨by omega,by omega,f,au,p,?_⟩,?_⟩
 rw[Int.sub_self]
 exact⟨h,cD.mono (H.le.refl u),hk,⟨rfl,rfl⟩,rfl,aa,rfl,rfl⟩
 rintro i w ⟨i0,i1,bl,E',iu,dc⟩
 refine⟨λmu=>?_,λaP=>exit i w bl E' iu dc i0 i1 (.inl (by omega))⟩
 obtain⟨dv,aJ,hO,aW,lQ,de,cB,cE⟩:=dc
 refine .inl ⟨_,_,_,rfl,fg MF,?_⟩
 refine aqf dv hO fC ac de (λu0=>⟨λe=>(by cases e),λ_=>exit i w bl E' iu ⟨dv,aJ,hO,aW,lQ,de,cB,cE⟩ i0 i1 (.inr u0)⟩) λc l ai u' f2 q ic k0 fB ad4=>⟨λ_=>⟨⟨by omega,by omega⟩,⟨by omega,by omega,f2,_,(iu.1,{iu.2 with X:=ic}),k0,aJ.trans fB,ad4,⟨aW.S,aW.ao⟩,lQ,rfl,cB,?_⟩,by dsimp only;omega⟩,λe=>(by cases e)⟩
 show l=_
 have:(x-(i-1)).toNat=(x-i).toNat+1:=by omega
 rw[this,<-List.drop_drop,<-cE,ai]
 rfl
def apa{K:Int->Int->Int->Int->H->Prop}(ae:K 0 0 0 0 u):xc none u K:=by apply ace;exact⟨λ_=>ae,λe=>absurd rfl e⟩
def B4(au:ak):Int×Int×Int×Int:=match au.nx with
 |some p=>kX p.2|none=>(0,0,0,0)
def apb{f:Nat->Option aN}{au:ak}{K:Int->Int->Int->Int->Int->Int->Int->Int->Int->Int->Int->Int->H->Prop}(h:At Y u f g au)(hk:Ok au n)(ac:n<=1000)
  (ae:K (an.rowsOf au.S).length (jo au) au.S.safe au.X.k au.X.s au.X.p au.X.c (B4 au).1 (B4 au).2.1 (B4 au).2.2.1 (B4 au).2.2.2 au.left.length u):Gu (some ⟨g,0,none⟩) u K:=by
 obtain⟨aB,la,nA,mm⟩:=h.bo
 have km:=hk.c
 have c0:=ak.cell h.cell 0
 have jf:au.lf.n=au.left.length:=fx Ac (by decide) h.lf.bR
 apply acq
 refine⟨λe=>(by cases e),λ_=>⟨_,rfl,_,rfl,_,rfl,_,rfl,_,rfl,_,rfl,_,c0,_,c0,_,c0,_,ak.cell h.cell 3,_,ak.cell h.cell 4,au.lf,ak.cell h.cell 5,an.Ki nA ⟨H.le.refl u,an.Sn nA mm (by omega) ⟨H.le.refl u,an.ao9 nA ⟨H.le.refl u,Kt h.bc ⟨H.le.refl u,?_⟩⟩⟩⟩⟩⟩
 rw[jf]
 cases e:au.nx with
 |none=>
  have:au.lq=none:=by unfold ak.lq;rw[e];rfl
  rw[this];unfold B4 at ae;rw[e] at ae;exact apa ⟨H.le.refl u,ae⟩
 |some p=>
  have:au.lq=some ⟨p.1,0,none⟩:=by unfold ak.lq;rw[e];rfl
  rw[this];unfold B4 at ae;rw[e] at ae;exact Kt (h.nx p e) ⟨H.le.refl u,ae⟩
end
end n2
section
variable{u:H}
open Go.Shelf
def aaC{P:Program}{t:TypeId}(aJ:P.underlying t=some .string){s:ByteArray}{h:Int}(h0:0<=h)(h1:h<=s.size){K:ByteArray->H->Prop}(ae:K (s.extract 0 h.toNat) u):
  cx P (Instr.sliceAt t (.string s) none (some (.int .i64 h)) none) [.one .str] u K:=
 .rf (c:=.str) _ (λw _=>by rw[run_sliceAt_string (w:=w) (h:=aJ),run_slice_string_h (w:=w) (ht:=aJ) (h0:=h0) (h2:=h1)];rfl) ae
def R8{P:Program}{t:TypeId}(aJ:P.underlying t=some .string){s:ByteArray}{i:Int}(h0:0<=i){b:UInt8}(Z:s.data.toList[i.toNat]?=some b){K:Int->H->Prop}(ae:K b.toNat u):
  cx P (Instr.index t (.string s) (.int .i64 i)) [.one (.int .u8)] u K:=by
 refine .rf (c:=.int .u8) (b.toNat:Int) (λw _=>?_) ae
 obtain⟨hi,av⟩:=List.getElem?_eq_some_iff.1 Z
 have nC:i.toNat<s.size:=by rw[Array.length_toList] at hi;exact hi
 rw[run_index_string (w:=w) (h:=aJ),dif_pos ⟨h0,by omega⟩]
 have e:s[i.toNat]'nC=b:=by rw[<-av];rfl
 rw[e]
 rfl
def aqD{w:World}(hw:Sub u w)(e:TypeId)(s:ByteArray):Step u [] w u [] (Lib.bytesWorld w e s):=by
 refine⟨λb o h=>?_,?_,?_,?_,?_,by rw[Lib.bytesWorld_size];omega,λb Z _ _=>Lib.bytesWorld_at_old w e s b Z,λ_ _ h=>h,[],by simp,by simp⟩;rw[Lib.bytesWorld_at_old w e s b (hw.lt h)];exact hw b o h
 all_goals simp[Lib.bytesWorld,World.freeze,World.alloc,World.drew,-World.alloc_eq,-World.drew_eq]
def aqc{s:ByteArray}{n:Int}{K:Int->Value->H->Prop}(hs:s.size<=1000000)(ac:Lib.atoiAll s.data.toList=.ok n)(ae:K n .nilIface u):L4 s u K:=by intro w hw;have E:=Any.strconv_Atoi_ok Tryz.atoi s (by omega) n ac w;change Calls Tryz.prog 45 _ _ _ at E;refine E.mono ?_;rintro e aw ⟨rfl,jm⟩;refine⟨_,u,rfl,⟨[.int .i64 n,.nilIface],.cons (t:=.int .i64) n (.cons (t:=.val) Value.nilIface .nil),rfl,ae⟩,?_⟩;rcases jm with rfl|⟨t,rfl⟩;exact Step.refl hw;exact aqD hw _ t
def ih(s w:ByteArray):ByteArray×Bool:=if w.size<=s.size/\(s.extract 0 w.size).toList=w.toList then(s.extract w.size s.size,true) else(s,false)
def aqe{s w:ByteArray}{K:ByteArray->Bool->H->Prop}(ae:K (ih s w).1 (ih s w).2 u):L5 s w u K:=by apply atF;apply atG;apply atH;unfold ih at ae;refine⟨λh=>aaC b1.pC (by omega) h ?_,λh=>⟨λ_=>?_,λe=>(by cases e)⟩⟩;rw[Int.toNat_natCast];by_cases e:(s.extract 0 w.size).toList=w.toList;rw[if_pos ⟨by omega,e⟩] at ae;refine⟨λar=>absurd (decide_eq_true e) ar,λ_=>Sd b1.pC (by omega) h ?_⟩;rw[Int.toNat_natCast];exact ae;rw[if_neg λh=>e h.2] at ae;exact⟨λ_=>ae,λar=>absurd (of_decide_eq_true ar) e⟩;rw[if_neg λh2=>h (by omega)] at ae;exact ae
end
namespace G7
section
variable{u v:H}{a b:Nat}{ok:Bool}
open b1 (pC)
def aeE:fi Tryz.prog 42=true:=by kernel_rfl
def aey:fi Tryz.prog 44=true:=by kernel_rfl
def z6(b:UInt8):Bool:=decide (48<=b.toNat) && decide (b.toNat<=57)
def pP(l:List UInt8):Nat:=(l.takeWhile z6).length
def afS(l:List UInt8):pP l<=l.length:=(List.takeWhile_prefix _).length_le
def afR{b:UInt8}{l:List UInt8}(h:z6 b=true):pP (b::l)=pP l+1:=by unfold pP;rw[List.takeWhile_cons,h];rfl
def Vi{b:UInt8}{l:List UInt8}(h:z6 b=false):pP (b::l)=0:=by unfold pP;rw[List.takeWhile_cons,h];rfl
def aiC(l:List UInt8):Int:=match l with
 | []=>0|b::_=>b.toNat
def sz(s:ByteArray):Option (Int×Bool×ByteArray):=
 match Lib.atoiAll (s.extract 0 (pP s.data.toList)).data.toList with
 | .ok n=>some (n,decide (pP s.data.toList<=9) && (decide (pP s.data.toList=1) ||!decide (aiC s.data.toList=48)),s.extract (pP s.data.toList) s.size)|_=>none
structure mM(u v:H)(a b:Nat)(s:ByteArray)(ok:Bool):Prop where
 le:u.le v
 nW:v a=some (.cells #[.string s] 9 (0,0))
 pt:v b=some (.cells #[.bool ok] 4 (0,0))
 ne:a≠b
 dL:u a=none
 bO:u b=none
 fG:s.size<=100000
def mM.aaG{s s':ByteArray}(h:mM u v a b s ok)(aP:s'.size<=100000):mM u (v.ins a (.cells #[.string s'] 9 (0,0))) a b s' ok:=
 ⟨λc o E=>by rw[aL _ _ λe=>by rw[e,h.dL] at E;cases E];exact h.le c o E,aS _ _ _,by rw[aL _ _ h.ne.symm];exact h.pt,h.ne,h.dL,h.bO,aP⟩
def mM.vq{s:ByteArray}{sD:Bool}(h:mM u v a b s ok):mM u (v.ins b (.cells #[.bool sD] 4 (0,0))) a b s sD:=
 ⟨λc o E=>by rw[aL _ _ λe=>by rw[e,h.bO] at E;cases E];exact h.le c o E,by rw[aL _ _ h.ne];exact h.nW,aS _ _ _,h.ne,h.dL,h.bO,h.fG⟩
def extract_size(s:ByteArray)(i:Nat):(s.extract i s.size).size<=s.size:=by rw[ByteArray.size_extract];omega
def word{s w:ByteArray}{K:Bool->H->Prop}(h:mM u v a b s ok)(ae:∀bH,mM u bH a b (ih s w).1 ok->K (ih s w).2 bH):
  mc Tryz.prog (.func (.func 42) #[] #[.pointer (some ⟨a,0,none⟩)]) #[.string w] [.one .bool] v K:=by
 refine .inl ⟨_,_,_,rfl,fg aeE,ar5 w ⟨a,0,none⟩ v _ ⟨s,aV h.nW 0,aqe ?_⟩⟩
 have aP:(ih s w).1.size<=100000:=by unfold ih;split;exact Nat.le_trans (extract_size _ _) h.fG;exact h.fG
 have:=ae _ (h.aaG aP)
 exact⟨_,_,h.nW,rfl,by simp,by simp[Value.oneCell'],this⟩
def num{s r:ByteArray}{g:Bool}{n:Int}{K:Int->H->Prop}(h:mM u v a b s ok)(ac:sz s=some (n,g,r))(ae:∀bH,mM u bH a b r (ok && g)->K n bH):
  mc Tryz.prog (.func (.func 44) #[] #[.pointer (some ⟨a,0,none⟩),.pointer (some ⟨b,0,none⟩)]) #[] [.one (.int .i64)] v K:=by
 obtain⟨l,ai⟩:∃l,l=s.data.toList:=⟨_,rfl⟩
 have jf:l.length=s.size:=by rw[ai];exact Array.length_toList
 have hle:=afS l
 have cA:=h.fG
 obtain⟨e,he⟩:∃e,e=pP l:=⟨_,rfl⟩
 unfold sz at ac
 rw[<-ai,<-he] at ac
 obtain⟨n',pb⟩:∃n',Lib.atoiAll (s.extract 0 e).data.toList=.ok n':=by cases pb:Lib.atoiAll (s.extract 0 e).data.toList<;>rw[pb] at ac<;>first|exact⟨_,rfl⟩|cases ac
 ·
  rw[pb] at ac;simp only[Option.some.injEq,Prod.mk.injEq] at ac;obtain⟨rfl,N,W⟩:=ac;refine .inl ⟨_,_,_,rfl,fg aey,ar6 ⟨a,0,none⟩ ⟨b,0,none⟩ v _ ?_⟩;intro js hc;have fin:js (e:Int) v:=by
   refine hc _ _ ⟨s,aV h.nW 0,aaC pC (by omega) (by omega) ⟨s,aV h.nW 0,Sd pC (by omega) (by omega) ?_⟩⟩;have aO:(e:Int).toNat=e:=Int.toNat_natCast e;rw[aO,W];have qZ:r.size<=100000:=by rw[<-W];exact Nat.le_trans (extract_size _ _) cA
   have h2:=h.aaG qZ;refine⟨_,_,h.nW,rfl,by simp,by simp[Value.oneCell'],?_⟩;generalize kr:H.ins v _ _=v1;obtain rfl:v1=v.ins a (.cells #[.string r] 9 (0,0)):=kr.symm.trans rfl;refine aqc (by rw[ByteArray.size_extract];omega) pb λjF hv=>⟨ok,aV h2.pt 0,λht=>?_,λM=>?_⟩;subst ht;refine⟨true,.inl ⟨rfl,rfl⟩,λ_=>⟨λkH=>⟨λh1=>?_,λh1=>?_⟩,λkH=>?_⟩,λar=>(by cases ar)⟩;have g1:g=true:=by rw[<-N,decide_eq_true (by omega:e<=9),decide_eq_true (by omega:e=1)];rfl
   have:=h2.vq (sD:=true);exact⟨_,_,h2.pt,rfl,by simp,by simp[Value.oneCell'],hv _ (ae _ (by rw[g1];exact this))⟩;have ah:l≠[]:=λar=>by
     have:e=0:=by rw[he,ar];rfl
     have h3:(s.extract 0 e).data.toList=[]:=by rw[this];exact List.eq_nil_of_length_eq_zero (by rw[Array.length_toList];show(s.extract 0 0).size=0;rw[ByteArray.size_extract];omega)
     rw[h3] at pb;cases pb
   have mn:e≠0:=λar=>by
    have h3:(s.extract 0 e).data.toList=[]:=by rw[ar];exact List.eq_nil_of_length_eq_zero (by rw[Array.length_toList];show(s.extract 0 0).size=0;rw[ByteArray.size_extract];omega)
    rw[h3] at pb;cases pb
   obtain⟨fJ,bi,ee⟩:=List.exists_cons_of_ne_nil ah;have Ay:(s.extract 0 e).data.toList[(0:Int).toNat]?=some fJ:=by rw[Lib.extract_data,<-ai,ee];obtain⟨dz,rfl⟩:=Nat.exists_eq_succ_of_ne_zero mn;rfl
   refine R8 pC (by decide) Ay ?_;have g1:g=!decide ((fJ.toNat:Int)=48):=by rw[<-N,decide_eq_true (by omega:e<=9),decide_eq_false (by omega:¬e=1),ee];rfl
   have:=h2.vq (sD:=!decide ((fJ.toNat:Int)=48));exact⟨_,_,h2.pt,rfl,by simp,by simp[Value.oneCell'],hv _ (ae _ (by rw[g1,Bool.true_and];exact this))⟩;have g1:g=false:=by rw[<-N,decide_eq_false (by omega:¬e<=9)];rfl
   have:=h2.vq (sD:=false);exact⟨_,_,h2.pt,rfl,by simp,by simp[Value.oneCell'],hv _ (ae _ (by rw[g1];exact this))⟩;subst M;have:=h2.vq (sD:=false);exact⟨_,_,h2.pt,rfl,by simp,by simp[Value.oneCell'],hv _ (ae _ (by rw[Bool.false_and];exact this))⟩
  refine⟨λc d=>d=v/\0<=c/\c<=l.length/\(e:Int)=c+pP (l.drop c.toNat),λc _=>((l.length:Int)-c).toNat,⟨rfl,by omega,by omega,by rw[he];simp⟩,?_⟩;rintro c d ⟨rfl,c0,c1,E⟩;have stop:pP (l.drop c.toNat)=0->js c d:=λaP=>by
   have:c=e:=by omega
   rw[this];exact fin
  refine⟨s,aV h.nW 0,λbh=>?_,λhg=>stop (by rw[List.drop_eq_nil_of_le (by omega)];rfl)⟩;have dC:c.toNat<l.length:=by omega
  have Z:s.data.toList[c.toNat]?=some l[c.toNat]:=by rw[<-ai,List.getElem?_eq_getElem dC]
  have aj:l.drop c.toNat=l[c.toNat]::l.drop (c.toNat+1):=List.drop_eq_getElem_cons dC;generalize pc:l[c.toNat]=cF at Z aj;refine⟨s,aV h.nW 0,R8 pC c0 Z ⟨λahd=>⟨s,aV h.nW 0,R8 pC c0 Z ⟨λNI=>⟨⟨by omega,by omega⟩,⟨rfl,by omega,by omega,?_⟩,by dsimp only;omega⟩,λNI=>stop ?_⟩⟩,λahd=>stop ?_⟩⟩;rw[aj,afR (by unfold z6;rw[decide_eq_true (by omega),decide_eq_true (by omega)];rfl)] at E;rw[show(c+1).toNat=c.toNat+1 by omega];omega;rw[aj];exact Vi (by unfold z6;rw[decide_eq_false (by omega:¬cF.toNat<=57),Bool.and_false]);rw[aj];exact Vi (by unfold z6;rw[decide_eq_false (by omega:¬48<=cF.toNat)];rfl)
end
def S3:ByteArray:=⟨#[70,108,97,116]⟩
def S6:ByteArray:=⟨#[75,68]⟩
def S8:ByteArray:=⟨#[86,80]⟩
def S4:ByteArray:=⟨#[72,78,83,87]⟩
def S5:ByteArray:=⟨#[73,86,70]⟩
def S7:ByteArray:=⟨#[44,80,81]⟩
def Cj:ByteArray:=⟨#[120]⟩
def Ch:ByteArray:=⟨#[44,70,108,97,116]⟩
abbrev qz:=Int×Int×Int×Int×Int
def tj(k s p c:Int)(ok:Bool)(t:ByteArray):qz:=if ok=true/\t.toList=[] then(if kY k s p c=0 then(k,s,p,c,0) else(0,0,0,0,kY k s p c)) else(0,0,0,0,120)
def Fk(k:Int)(t:ByteArray):Option qz:=(sz t).map λx=>tj k x.1 0 0 x.2.1 x.2.2
def Bb(n p:Int)(ok:Bool)(t:ByteArray):Option qz:=(sz t).map λx=>tj 5 n p x.1 (ok && x.2.1) x.2.2
def QI(n:Int)(ok:Bool)(t:ByteArray):Option qz:=(sz t).bind λx=>Bb n x.1 ((ok && x.2.1) && (ih x.2.2 Cj).2) (ih x.2.2 Cj).1
def Jk(n:Int)(ok:Bool)(t:ByteArray):Option qz:=match ih t S7 with
 |(r,true)=>QI n ok r|(r,false)=>some (tj 4 n 0 0 (ok && (ih r Ch).2) (ih r Ch).1)
def Rz(t:ByteArray):Option qz:=match ih t S5 with
 |(r,true)=>(sz r).bind λx=>Jk x.1 x.2.1 x.2.2|(r,false)=>some (tj 0 0 0 0 false r)
def Ry(t:ByteArray):Option qz:=match ih t S4 with
 |(r,true)=>Fk 6 r|(r,false)=>Rz r
def RB(t:ByteArray):Option qz:=match ih t S8 with
 |(r,true)=>Fk 3 r|(r,false)=>Ry r
def RA(t:ByteArray):Option qz:=match ih t S6 with
 |(r,true)=>Fk 2 r|(r,false)=>RB r
def RC(t:ByteArray):Option qz:=match ih t S3 with
 |(r,true)=>some (tj 1 0 0 0 true r)|(r,false)=>RA r
def ao4{t:ByteArray}{u:H}{R:qz}{K:Int->Int->Int->Int->Int->H->Prop}(aP:t.size<=100000)(aa:RC t=some R)(ae:∀u',u.le u'->(R.2.2.2.2=0->kY R.1 R.2.1 R.2.2.1 R.2.2.2.1=0)->K R.1 R.2.1 R.2.2.1 R.2.2.2.1 R.2.2.2.2 u'):Lv t u K:=by
 apply ar4;intro a ap b Z;obtain⟨ng,PA⟩:∃ng,ng=Obj.cells #[Value.string t] 9 (0,0):=⟨_,rfl⟩;rw[<-PA] at Z ⊢;have Aw:a≠b:=λe=>by rw[<-e,aS] at Z;cases Z
 have ub:u b=none:=by rw[aL _ _ Aw.symm] at Z;exact Z
 refine⟨_,_,aS _ _ _,rfl,by simp,by simp[Value.oneCell'],?_⟩;generalize kr:H.ins ((u.ins a ng).ins b (Obj.cells #[Value.bool false] 4 (0,0))) _ _=v;have av:v=((u.ins a ng).ins b (Obj.cells #[Value.bool false] 4 (0,0))).ins b (Obj.cells #[Value.bool true] 4 (0,0)):=kr.symm;have h0:mM u v a b t true:=by
  rw[av];refine⟨λc o E=>?_,by rw[aL _ _ Aw,aL _ _ Aw,aS,PA],aS _ _ _,Aw,ap,ub,aP⟩;have cb:c≠b:=λe=>by rw[e,ub] at E;cases E
  have di:c≠a:=λe=>by rw[e,ap] at E;cases E
  rw[aL _ _ cb,aL _ _ cb,aL _ _ di];exact E
 clear kr av Z PA;intro d aj;have fin:∀{k s p c:Int} {ok:Bool} {r:ByteArray} {w:H},mM u w a b r ok->R=tj k s p c ok r->d k s p c w:=by intro k s p c ok r w h he;unfold tj at he;refine aj _ _ _ _ _ λj aH=>⟨ok,aV h.pt 0,λM=>?_,λht=>⟨r,aV h.nW 0,λW=>?_,λW=>aH _ _ _ _ _ _ (Ko λaw jm=>⟨λah=>?_,λmn=>?_⟩)⟩⟩;rw[if_neg λx=>M x.1] at he;have:=ae w h.le;rw[he] at this;exact this λe=>absurd e (by decide:¬(120:Int)=0);rw[if_neg λx=>W x.2] at he;have:=ae w h.le;rw[he] at this;exact this λe=>absurd e (by decide:¬(120:Int)=0);rw[if_pos ⟨ht,W⟩,if_neg ah] at he;have:=ae aw (h.le.trans jm);rw[he] at this;exact this λe=>absurd e ah;rw[if_pos ⟨ht,W⟩,if_pos mn] at he;have:=ae aw (h.le.trans jm);rw[he] at this;exact this λ_=>mn
 have one:∀{k:Int} {ok:Bool} {r:ByteArray} {w:H},ok=true->mM u w a b r ok->Fk k r=some R->mc Tryz.prog (.func (.func 44) #[] #[.pointer (some ⟨a,0,none⟩),.pointer (some ⟨b,0,none⟩)]) #[] [.one (.int .i64)] w λn aw=>d k n 0 0 aw:=by
  rintro k _ r w rfl h he;unfold Fk at he;cases ac:sz r with
  |none=>rw[ac] at he;cases he
  |some x=>rw[ac] at he;exact num h ac λaw bx=>fin bx (Option.some.inj he).symm
 unfold RC at aa;refine word (w:=S3) h0 λv1 h1=>?_;rcases iR:ih t S3 with⟨jS,aO⟩;rw[iR] at aa h1;cases aO with
 |true=>exact⟨λ_=>fin h1 (Option.some.inj aa).symm,λe=>(by cases e)⟩
 |false=>
 refine⟨λe=>(by cases e),λ_=>word (w:=S6) h1 λv2 h2=>?_⟩;replace aa:RA jS=some R:=aa;unfold RA at aa;rcases mT:ih jS S6 with⟨iw,ar⟩;rw[mT] at aa h2;cases ar with
 |true=>exact⟨λ_=>one rfl h2 aa,λe=>(by cases e)⟩
 |false=>
 refine⟨λe=>(by cases e),λ_=>word (w:=S8) h2 λv3 h3=>?_⟩;replace aa:RB iw=some R:=aa;unfold RB at aa;rcases Og:ih iw S8 with⟨oH,cq⟩;rw[Og] at aa h3;cases cq with
 |true=>exact⟨λ_=>one rfl h3 aa,λe=>(by cases e)⟩
 |false=>
 refine⟨λe=>(by cases e),λ_=>word (w:=S4) h3 λv4 aZ=>?_⟩;replace aa:Ry oH=some R:=aa;unfold Ry at aa;rcases aii:ih oH S4 with⟨ZX,eD⟩;rw[aii] at aa aZ;cases eD with
 |true=>exact⟨λ_=>one rfl aZ aa,λe=>(by cases e)⟩
 |false=>
 refine⟨λe=>(by cases e),λ_=>word (w:=S5) aZ λv5 bJ=>?_⟩;replace aa:Rz ZX=some R:=aa;unfold Rz at aa;rcases Oh:ih ZX S5 with⟨Z3,e6⟩;rw[Oh] at aa bJ;cases e6 with
 |false=>refine⟨λe=>(by cases e),λ_=>?_⟩;have:=fin (bJ.vq (sD:=false)) (Option.some.inj aa).symm;exact⟨_,_,bJ.pt,rfl,by simp,by simp[Value.oneCell'],this⟩
 |true=>
 replace aa:((sz Z3).bind λx=>Jk x.1 x.2.1 x.2.2)=some R:=aa;cases tF:sz Z3 with
 |none=>rw[tF] at aa;cases aa
 |some eJ=>
 rw[tF] at aa;replace aa:Jk eJ.1 eJ.2.1 eJ.2.2=some R:=aa;refine⟨λ_=>num bJ tF λv6 e0=>word (w:=S7) e0 λvv gC=>?_,λe=>(by cases e)⟩;rw[Bool.true_and] at gC;unfold Jk at aa;rcases aik:ih eJ.2.2 S7 with⟨BM,tc⟩;rw[aik] at aa gC;cases tc with
 |false=>
  refine⟨λe=>(by cases e),λ_=>word (w:=Ch) gC λpG k8=>?_⟩;replace aa:some (tj 4 eJ.1 0 0 (eJ.2.1 && (ih BM Ch).2) (ih BM Ch).1)=some R:=aa;rcases ail:ih BM Ch with⟨RL,rW⟩;rw[ail] at aa k8;have Dq:mM u pG a b RL eJ.2.1:=k8;cases rW with
  |true=>
   have ay:R=tj 4 eJ.1 0 0 eJ.2.1 RL:=by rw[<-Option.some.inj aa,Bool.and_true]
   have:=fin (Dq.vq (sD:=eJ.2.1)) ay;exact⟨λ_=>⟨_,aV Dq.pt 0,_,_,Dq.pt,rfl,by simp,by simp[Value.oneCell'],this⟩,λe=>(by cases e)⟩
  |false=>
   have ay:R=tj 4 eJ.1 0 0 false RL:=by rw[<-Option.some.inj aa,Bool.and_false]
   have:=fin (Dq.vq (sD:=false)) ay;exact⟨λe=>(by cases e),λ_=>⟨_,_,Dq.pt,rfl,by simp,by simp[Value.oneCell'],this⟩⟩
 |true=>
 replace aa:QI eJ.1 eJ.2.1 BM=some R:=aa;have ahi:mM u vv a b BM eJ.2.1:=gC;unfold QI at aa;cases AL:sz BM with
 |none=>rw[AL] at aa;cases aa
 |some ka=>
 rw[AL] at aa;replace aa:Bb eJ.1 ka.1 ((eJ.2.1 && ka.2.1) && (ih ka.2.2 Cj).2) (ih ka.2.2 Cj).1=some R:=aa;refine⟨λ_=>num ahi AL λpG k8=>word (w:=Cj) k8 λv9 kH=>?_,λe=>(by cases e)⟩;rcases aim:ih ka.2.2 Cj with⟨BN,HB⟩;rw[aim] at aa kH;have Dr:mM u v9 a b BN (eJ.2.1 && ka.2.1):=kH;have last:∀{ok:Bool} {w:H},mM u w a b BN ok->Bb eJ.1 ka.1 ok BN=some R->mc Tryz.prog (.func (.func 44) #[] #[.pointer (some ⟨a,0,none⟩),.pointer (some ⟨b,0,none⟩)]) #[] [.one (.int .i64)] w λn aw=>d 5 eJ.1 ka.1 n aw:=by
  intro ok w h he;unfold Bb at he;cases ac:sz BN with
  |none=>rw[ac] at he;cases he
  |some x=>rw[ac] at he;exact num h ac λaw bx=>fin bx (Option.some.inj he).symm
 cases HB with
 |true=>
  have ay:Bb eJ.1 ka.1 (eJ.2.1 && ka.2.1) BN=some R:=by rw[<-aa];simp
  have:=last (Dr.vq (sD:=eJ.2.1 && ka.2.1)) ay;exact⟨λ_=>⟨_,aV Dr.pt 0,_,_,Dr.pt,rfl,by simp,by simp[Value.oneCell'],this⟩,λe=>(by cases e)⟩
 |false=>
  have ay:Bb eJ.1 ka.1 false BN=some R:=by rw[<-aa];simp
  have:=last (Dr.vq (sD:=false)) ay;exact⟨λe=>(by cases e),λ_=>⟨_,_,Dr.pt,rfl,by simp,by simp[Value.oneCell'],this⟩⟩
end G7
namespace n2
section
variable{u Y:H}{g:Nat}{k s p c:Int}
def aa5{cs:Array Value}{d:Int}{K:Int->H->Prop}(N:u g=some (.cells cs 94 (0,0)))(aj:cs[1]?=some (.int .i64 d))(hs:kY k s p c=0)(ae:K (if k=5/\Int.tmod d p≠0 then 100 else 0) u):Gy (some ⟨g,0,none⟩) k s p c u K:=by apply ar2;refine⟨λbJ=>⟨_,rfl,d,?_,?_,λah=>?_,λhe=>?_⟩,λbJ=>?_⟩;exact(aV N 1).trans aj;rcases abz hs with h|⟨h,_⟩|⟨_,h,_⟩|⟨h,_⟩<;>omega;rw[if_pos ⟨bJ,ah⟩] at ae;exact ae;rw[if_neg λh=>h.2 he] at ae;exact ae;rw[if_neg λh=>bJ h.1] at ae;exact ae
def sC(d k s p c:Int):Int:=if kY k s p c≠0 then kY k s p c else if d<1∨64<d then 30 else if k=5/\Int.tmod d p≠0 then 100 else 0
def UG{d:Int}(hs:kY k s p c=0)(aj:1<=d/\d<=64)(bJ:¬(k=5/\Int.tmod d p≠0)):rR [] d k s p c=0:=by
 unfold rR;have W:nh [] d=0:=by unfold nh;rw[if_neg (by omega),if_neg (by simp)];rfl
 rw[if_neg (by simpa using hs),if_neg (by simpa using W),if_neg bJ]
def FY{fd:Nat->Option b1.aN}{d:Nat}{T:b1.ak}{RS ao ku:Int}{K:Option Addr->Int->H->Prop}(AF:k=2∨k=6)(h:b1.In Y u fd d T)(aJ:b1.dj T)(fC:ib Y)(cB:lF Y)(Ig:cS ku)(aO:T.now=[])(ar:T.db=[])(cq:T.steps=0)(eD:T.room=4194304)
  (dT:sC ao k s p c≠0->∀u',u.le u'->K none (sC ao k s p c) u')
  (bL:sC ao k s p c=0->∀u' f g au,At Y u' f g au->(cD u (λc=>fd c≠none) u' λc=>f c≠none)->Ok au 0->an.rowsOf au.S=[]->au.ao=ao->jo au=0->au.S.safe=0->kX au.X=(k,s,p,c)->au.nx=none->K (some ⟨g,0,none⟩) 0 u'):Gw (some ⟨d,0,none⟩) RS ao k s p c ku u K:=by
 apply acs
 refine⟨λe=>(by cases e),λ_=>Ko λaI b9=>⟨λah=>?_,λlg=>?_⟩⟩
 have:=dT (by unfold sC;rw[if_pos ah];exact ah) aI b9
 unfold sC at this
 rw[if_pos ah] at this;exact this
 have UF:(ao<1∨64<ao)->K none 30 aI:=λaj=>by
  have e:sC ao k s p c=30:=by unfold sC;rw[if_neg (by simpa using lg),if_pos aj]
  have:=dT (by rw[e];decide) aI b9;rw[e] at this;exact this
 intro js hc
 refine⟨λh1=>UF (.inl h1),λh1=>⟨λh2=>UF (.inr h2),λh2=>hc none 0 aI ?_⟩⟩
 have aj:1<=ao/\ao<=64:=by omega
 intro g N
 obtain⟨eV,iT⟩:∃eV,eV=Obj.cells #[.pointer none,.int .i64 ao,.int .u64 ku,.pointer none,.pointer none,.slice none 0 0] 94 (0,0):=⟨_,rfl⟩
 have iq:=(aS aI g eV).trans (congrArg some iT)
 have cZ:=bN (u:=aI) (b:=g) eV N
 have Fa:u.le (aI.ins g eV):=b9.trans cZ
 have Gc:u g=none:=b9.none N
 refine aa5 (cs:=#[.pointer none,.int .i64 ao,.int .u64 ku,.pointer none,.pointer none,.slice none 0 0]) (by rw[<-iT];exact aS _ _ _) rfl lg ?_
 rw[<-iT]
 by_cases bJ:k=5/\Int.tmod ao p≠0
 rw[if_pos bJ]
 have e:sC ao k s p c=100:=by unfold sC;rw[if_neg (by simpa using lg),if_neg (by omega),if_pos bJ]
 have:=dT (by rw[e];decide) _ Fa
 rw[e] at this
 exact⟨λ_=>this,λar=>absurd ar (by decide)⟩
 rw[if_neg bJ]
 have IM:sC ao k s p c=0:=by unfold sC;rw[if_neg (by simpa using lg),if_neg (by omega),if_neg bJ]
 have bL:=bL IM
 refine⟨λe=>absurd rfl e,λ_=>?_⟩
 have hw:=h.mono b1.bd Fa
 have VJ:fd g=none:=h.fresh Gc
 refine an.FY hw aJ cB aj aO ar cq eD λbE aB ga S L a2 t2 cI lu afP aoj agy=>⟨λe=>absurd rfl e,λ_=>?_⟩
 have g2:bE g=some eV:=t2.bd _ _ (aS _ _ _) λe=>e VJ
 have agW:=g2.trans (congrArg some iT)
 have HS:aB g=none:=Classical.byContradiction λe=>by rcases t2.grow g e with e|e;exact e VJ;rw[aS] at e;cases e
 refine⟨_,_,agW,rfl,by first|(show(1:Nat)<=6;decide)|simp[Addr.add],by simp[Value.oneCell'],?_⟩
 obtain⟨dk,hz⟩:∃dk,dk=Obj.cells #[.pointer (some ⟨ga,0,none⟩),.int .i64 ao,.int .u64 ku,.pointer none,.pointer none,.slice none 0 0] 94 (0,0):=⟨_,rfl⟩
 generalize kr:H.ins bE _ _=dm
 obtain rfl:dm=bE.ins g dk:=kr.symm.trans (by subst hz;rfl)
 have pr:=(aS bE g dk).trans (congrArg some hz)
 have Uk:xq Y bE (λx=>aB x≠none) ga S L 400:=⟨aB,rfl,a2,cI⟩
 have z0:Y g=none:=h.le.none Gc
 have Bn:Y.le (bE.ins g dk):=λx o I=>by rw[aL _ _ λe=>by rw[e,z0] at I;cases I];exact a2.own.le x o I
 have G6:xq Y (bE.ins g dk) (λx=>aB x≠none) ga S L 400:=Uk.same (λx o U I=>by rw[aL _ _ λe=>I (by rw[e];exact HS)];exact U) Bn
 obtain⟨avI,awb,a3,amW⟩:=G6
 apply acu
 refine⟨_,rfl,_,aV pr 0,an.Kj a3 amW λbD ls h6 b8 aa _=>⟨b8.own.le,?_⟩⟩
 have Xr:ls=[]:=by rw[lu] at aa;exact List.map_eq_nil_iff.1 aa.eq_nil
 rw[Xr] at b8
 refine aa3 AF b8.rws ((fC.mono Bn).mono b8.own.le) Ig (λah=>absurd (UG lg aj bJ) ah) λ_ b D X dN lQ cJ c8 eC fy eJ ky ka=>?_
 have Bk:(bE.ins g dk).le h6:=b8.own.le
 obtain⟨e4,fm,h8⟩:=lQ.base
 have wO:=e4 _ _ (Bk _ _ (aS bE g dk))
 have als:=wO.trans (congrArg some hz)
 refine⟨_,_,als,rfl,by first|(show(4:Nat)<=6;decide)|simp[Addr.add],by simp[Value.oneCell'],?_⟩
 obtain⟨au,hY⟩:∃au:ak,au=⟨ga,ao,ku,b,X,none,⟨none,0,0⟩,[],S,L,400⟩:=⟨_,rfl⟩
 generalize qc:H.ins dN _ _=h7
 obtain rfl:h7=dN.ins g au.obj:=qc.symm.trans (by subst hY;rfl)
 refine⟨λe=>absurd rfl e,λ_=>?_⟩
 have Ue:¬D g:=λe=>by have:=fm g e;rw[Bk _ _ (aS bE g dk)] at this;cases this
 have adK:∀x,D x->aB x=none:=λx I=>Classical.byContradiction λe=>by
  have aZ:=fm x I;obtain⟨o,U⟩:=Option.ne_none_iff_exists'.1 (a2.own.known x e);have:(bE.ins g dk) x=some o:=by rw[aL _ _ λar=>e (by rw[ar];exact HS)];exact U
  rw[Bk _ _ this] at aZ;cases aZ
 classical
 let f:Nat->Option aN:=λx=>if x=g then some .xI else if aB x≠none then some .bo else if D x then some .bc else none
 have f1:f g=some .xI:=if_pos rfl
 have f2:∀x,aB x≠none->f x=some .bo:=λx I=>by have:x≠g:=λe=>I (by rw[e];exact HS);simp only[f,if_neg this,if_pos I]
 have f3:∀x,D x->f x=some .bc:=λx I=>by have a:x≠g:=λe=>Ue (e▸I);have b:¬aB x≠none:=λe=>e (adK x I);simp only[f,if_neg a,if_neg b,if_pos I]
 have f4:∀x,f x≠none->x=g∨aB x≠none∨D x:=λx I=>by by_cases a:x=g;exact .inl a;by_cases b:aB x≠none;exact .inr (.inl b);by_cases e:D x;exact .inr (.inr e);exact absurd (by simp only[f,if_neg a,if_neg b,if_neg e]) I
 have anl:∀x,f x=some .bo->aB x≠none:=λx I=>by rcases f4 x (by rw[I];simp) with e|e|e;rw[e,f1] at I;cases I;exact e;rw[f3 x e] at I;cases I
 have anv:∀x,f x=some .bc->D x:=λx I=>by rcases f4 x (by rw[I];simp) with e|e|e;rw[e,f1] at I;cases I;rw[f2 x e] at I;cases I;exact e
 have bZ:part f .bo=λx=>aB x≠none:=funext λx=>propext ⟨anl x,f2 x⟩
 have FA:part f .bc=D:=funext λx=>propext ⟨anv x,f3 x⟩
 have cur:∀{x o},bE x=some o->x≠g->(dN.ins g au.obj) x=some o:=λU I=>by rw[aL _ _ I];exact e4 _ _ (Bk _ _ (by rw[aL _ _ I];exact U))
 have E8:Y.le (dN.ins g au.obj):=λx o I=>cur (a2.own.le x o I) λe=>by rw[e,z0] at I;cases I
 have ab1:Y.le h6:=Bn.trans Bk
 have fM:=bL (dN.ins g au.obj) f g au ⟨⟨E8,λx I=>?_,λx I=>?_⟩,aS _ _ _,f1,?_,?_,λq ay=>(by rw[hY] at ay;cases ay),by rw[hY];exact(Own.nil _ _ _).off,λx I=>(by rw[hY] at I;cases I),λq ay=>(by rw[hY] at ay;cases ay)⟩ ⟨λx o I M=>?_,λx I=>?_⟩ ?_ (by rw[hY];exact lu) (by rw[hY]) (by rw[hY];exact aoj) (by rw[hY];exact agy) (by rw[hY];unfold kX;rw[eC,fy,eJ,ky]) (by rw[hY])
 exact fM
 rcases f4 x I with e|e|e
 rw[e];exact z0
 exact a2.own.out x e
 exact ab1.none (fm x e)
 by_cases kF:x=g
 rw[kF,aS];simp
 rcases f4 x I with e|e|e
 exact absurd e kF
 obtain⟨o,U⟩:=Option.ne_none_iff_exists'.1 (a2.own.known x e)
 rw[cur U kF];simp
 rw[aL _ _ kF];exact h8 x e
 rw[bZ,hY]
 rw[hY] at E8
 exact Uk.same (λx o U I=>by have:=cur U (λe=>I (by rw[e];exact HS));rw[hY] at this;exact this) E8
 rw[FA,hY]
 rw[hY] at E8
 exact(lQ.lx ab1).same (λx o U I=>by rw[aL _ _ λe=>Ue (by rw[<-e];exact I)];exact U) E8
 have b5:fd x=none:=Classical.byContradiction M
 have Fh:x≠g:=λe=>by rw[e,Gc] at I;cases I
 exact cur (t2.bd x o (Fa _ _ I) λe=>e b5) Fh
 rcases f4 x I with e|e|e
 rw[e];exact .inr Gc
 exact(t2.grow x e).imp id λac=>Fa.none ac
 by_cases ON:fd x=none
 refine .inr ?_
 cases ar:u x with
 |none=>rfl
 |some o=>
  have Fh:x≠g:=λe=>by rw[e,Gc] at ar;cases ar
  have aZ:=fm x e;rw[Bk _ _ (by rw[aL _ _ Fh];exact t2.bd x o (Fa _ _ ar) λe=>e ON)] at aZ;cases aZ
 exact .inl ON
 rw[hY]
 refine⟨?_,⟨afP,c8⟩,by rw[eC,fy,eJ,ky];exact lg,by show((X.X.ez:Nat):Int)<=_;rw[ka];decide,λq ay=>(by cases ay),λ_=>rfl,by simp,⟨by show(0:Int)<=400;decide,by show(400:Int)<=_;decide⟩,Int.le_refl _⟩
 rw[lu]
 exact cJ
def At.start{f:Nat->Option aN}{au E':ak}{q:Nat×Go.Proofs.YtnaemgklhjkdhaaGreatDoor.ak}(h:At Y u f g au)(ay:dA Y u (part f .nx) q.1 q.2)(hY:E'={au with nx:=some q,lf:=⟨none,0,0⟩,left:=[]}):
  At Y (u.ins g E'.obj) f g E'/\cD u (λx=>f x≠none) (u.ins g E'.obj) λx=>f x≠none:=by
 obtain⟨cC,cz⟩:=an.pI.put h.own (m:=g) (by rw[h.lO];simp) E'.obj
 have cur:∀{x o j},u x=some o->f x=some j->j≠.xI->(u.ins g E'.obj) x=some o:=λU I b=>by rw[aL _ _ λe=>by rw[e,h.lO] at I;exact b (Option.some.inj I).symm];exact U
 refine⟨⟨cC,aS _ _ _,h.lO,?_,?_,λp aa=>?_,?_,λx I=>(by rw[hY] at I;cases I),λc E=>(by rw[hY] at E;cases E)⟩,cz⟩
 have:=h.bo.same (u':=u.ins g E'.obj) (λx o U I=>cur U I (by simp)) cC.le
 rw[hY] at this ⊢;exact this
 have:=h.bc.same (u':=u.ins g E'.obj) (λx o U I=>cur U I (by simp)) cC.le
 rw[hY] at this ⊢;exact this
 have:=ay.same (u':=u.ins g E'.obj) (λx o U I=>cur U I (by simp)) cC.le
 have e:p=q:=by rw[hY] at aa;exact(Option.some.inj aa).symm
 rw[e];exact this
 rw[hY];exact(Own.nil _ _ _).off
def ev.amH(u:H):ev u ⟨none,0,0⟩ []:=⟨(aE.nil (H.le.refl u) 34 2).own.bR,λr W=>(by cases W)⟩
def ao8{f:Nat->Option aN}{au:ak}{n:Int}{t:ByteArray}{R:G7.qz}{K:Int->H->Prop}(AF:R.1=2∨R.1=6)(h:At Y u f g au)(hk:Ok au n)(fC:ib Y)(ac:n<=1000)(aP:t.size<=100000)(aa:G7.RC t=some R)
  (ajY:R.2.2.2.2≠0->∀u',u.le u'->K R.2.2.2.2 u') (ag8:R.2.2.2.2=0->(R.1=5/\Int.tmod au.ao R.2.2.1≠0)->∀u',u.le u'->K 100 u') (aih:R.2.2.2.2=0->¬(R.1=5/\Int.tmod au.ao R.2.2.1≠0)->au.nx≠none->∀u',u.le u'->K 211 u')
  (bL:R.2.2.2.2=0->¬(R.1=5/\Int.tmod au.ao R.2.2.1≠0)->au.nx=none->∀u' bl E',At Y u' bl g E'->(cD u (λx=>f x≠none) u' λx=>bl x≠none)->Ok E' n->G9 au E'->kX E'.X=kX au.X->E'.nx.map (λp=>kX p.2)=some (R.1,R.2.1,R.2.2.1,R.2.2.2.1)->E'.left.length=(an.rowsOf au.S).length->K 0 u'):Gt (some ⟨g,0,none⟩) t u K:=by
 apply aco
 refine⟨λe=>(by cases e),λ_=>G7.ao4 aP aa λaI b9 p6=>⟨λah=>ajY ah aI b9,λhe=>⟨_,rfl,?_⟩⟩⟩
 have gz:=h.mono b9
 have lg:=p6 he
 obtain⟨aB,la,nA,mm⟩:=h.bo
 have WO:1<=au.ao/\au.ao<=64:=by rw[<-hk.ao.1];exact mm.ii
 refine aa5 gz.cell rfl lg ?_
 by_cases bJ:R.1=5/\Int.tmod au.ao R.2.2.1≠0
 rw[if_pos bJ]
 exact⟨λ_=>ag8 he bJ aI b9,λe=>absurd e (by decide)⟩
 rw[if_neg bJ]
 refine⟨λe=>absurd rfl e,λ_=>⟨_,rfl,_,ak.cell gz.cell 4,λZ=>aih he bJ (λe=>Z (by unfold ak.lq;rw[e];rfl)) aI b9,λpk=>?_⟩⟩
 have dp:au.nx=none:=by
  cases e:au.nx with
  |none=>rfl|some q=>unfold ak.lq at pk;rw[e] at pk;cases pk
 refine⟨_,rfl,_,rfl,_,ak.cell gz.cell 1,_,ak.cell gz.cell 2,?_⟩
 refine aa3 AF (ev.amH aI) (fC.mono gz.own.le) (dE.wrap_u64 _) (λah=>absurd (UG lg WO bJ) ah) λ_ b D X bE lQ cJ c8 eC fy eJ ky ka=>⟨λe=>absurd rfl e,λ_=>?_⟩
 obtain⟨e4,fm,h8⟩:=lQ.base
 obtain⟨f2,da⟩:=BI (i:=aN.nx) gz.own (u':=bE) (D':=D) ⟨λc o E _=>e4 c o E,λc E=>.inr (fm c E)⟩ h8
 have k0:At Y bE f2 g au:=gz.cL da (.inr (.inr rfl)) rfl rfl rfl (.inl ⟨by simp,rfl,rfl,rfl,rfl⟩) (.inl ⟨by simp,rfl,rfl⟩) (.inr λq ay=>by rw[dp] at ay;cases ay)
 obtain⟨hS,iK⟩:∃hS:ak,hS={au with nx:=some (b,X),lf:=⟨none,0,0⟩,left:=[]}:=⟨_,rfl⟩
 obtain⟨uk,s3⟩:=k0.start (q:=(b,X)) (by rw[da.is];exact lQ.lx gz.own.le) iK
 refine⟨_,rfl,_,_,k0.cell,rfl,by first|(show(5:Nat)<=6;decide)|simp[Addr.add],by simp[Value.oneCell'],?_⟩
 generalize kr:H.ins bE _ _=v
 obtain rfl:v=bE.ins g (ak.obj {au with nx:=some (b,X)}):=kr.symm.trans rfl
 have E:(bE.ins g (ak.obj {au with nx:=some (b,X)})) g=some (ak.obj {au with nx:=some (b,X)}):=aS _ _ _
 refine⟨_,rfl,_,_,E,rfl,by first|(show(6:Nat)<=6;decide)|simp[Addr.add],by simp[Value.oneCell'],?_⟩
 generalize qc:H.ins (bE.ins g _) _ _=v
 obtain rfl:v=bE.ins g hS.obj:=qc.symm.trans (by show(bE.ins g _).ins g _=_;rw[yJ];subst iK;rfl)
 have Uq:cD u (λx=>f x≠none) (bE.ins g hS.obj) λx=>f2 x≠none:=((cD.mono b9).trans da.cL).trans s3
 refine⟨_,rfl,Sx uk λs ls h6 b8 tI _=>?_⟩
 have Mz:hS.S=au.S:=by rw[iK]
 have Ud:hS.ao=au.ao:=by rw[iK]
 rw[Mz] at tI
 have Tj:=uk.mono b8.own.le
 have cY:s.n=ls.length:=fx fh (by decide) b8.own.own.bR
 have jf:ls.length=(an.rowsOf au.S).length:=by have:=tI.length_eq;rw[List.length_map] at this;exact this
 have fc:ls.length<=512:=by have:=mm.small;rw[jf];unfold an.rowsOf;rw[List.length_map];exact this
 have Nz:∀{e k:Nat} {x:J} {xs:List Value},aE (bE.ins g hS.obj) h6 e k x xs->∀y,x.ad=some y->f2 y=none/\Y y=none/\h6 y≠none/\(f y≠none∨u y=none):=λU y af=>by
  obtain⟨fz,z2⟩:=wY U af;refine⟨Classical.byContradiction λe=>uk.own.known y e fz,uk.own.le.none fz,z2,?_⟩;by_cases M:f y=none;refine .inr ?_;cases e:u y with
  |none=>rfl|some o=>rw[Uq.bd y o e λar=>ar M] at fz;cases fz
  exact .inl M
 refine⟨λi w=>0<=i/\i<=ls.length/\∃bl q,At Y w bl g {hS with lf:=q,left:=(ls.take i.toNat).map nS}/\(cD u (λx=>f x≠none) w λx=>bl x≠none)/\bb w s 2 (ls.flatMap cG)/\(∀y,s.ad=some y->bl y=none/\w y≠none)/\∀r∈ls.drop i.toNat,Ints w r.s r.v/\∀y,r.s.ad=some y->bl y=none/\Y y=none/\w y≠none/\(f y≠none∨u y=none),λi _=>((ls.length:Int)-i).toNat,⟨by omega,by omega,f2,⟨none,0,0⟩,?_,Uq.trans (cD.mono b8.own.le),b8.own.own.bR,λy af=>⟨(Nz b8.own y af).1,(Nz b8.own y af).2.2.1⟩,λr W=>⟨(b8.inner r (List.mem_of_mem_drop W)).ints,Nz (b8.inner r (List.mem_of_mem_drop W))⟩⟩,?_⟩
 rw[iK] at Tj ⊢;exact Tj
 rintro i w ⟨i0,i1,bl,q,dv,aJ,aW,DB,xU⟩
 refine⟨λbh=>?_,λhg=>?_⟩
 have dC:i.toNat<ls.length:=by omega
 have mv:=List.getElem?_eq_getElem dC
 have tt:ls.drop i.toNat=ls[i.toNat]::ls.drop (i.toNat+1):=List.drop_eq_getElem_cons dC
 generalize ls[i.toNat]=r at mv tt
 obtain⟨cj,nH,fT⟩:=bb.elem fh (by decide) aW mv
 obtain⟨jS,iw⟩:=xU r (by rw[tt];exact .head _)
 have gx:=List.mem_of_getElem? mv
 have awy:q.n=i.toNat:=by have:=fx Ac (by decide) dv.lf.bR;rw[this,List.length_map,List.length_take];omega
 have c5:=ak.cell dv.cell 5
 refine⟨cj,nH,⟨i0,bh⟩,_,by have:=fT 0 _ rfl;rw[Addr.uB] at this;exact this,r.s,fT 1 _ rfl,_,rfl,q,c5,aaE F7 (an.MI 1 r.id r.s) (by decide) rfl (by simp[Value.oneCell']) dv.lf (by show q.n<_;omega) (by show(q.n+1)*40<=_;omega) λcz z IP wI cQ ee=>?_⟩
 obtain⟨xm,pa⟩:∃xm:ak,xm={hS with lf:=cz,left:=(ls.take (i+1).toNat).map nS}:=⟨_,rfl⟩
 have O7:(ls.take (i+1).toNat).map nS=(ls.take i.toNat).map nS++ [nS r]:=by obtain⟨nC,ek⟩:=List.getElem?_eq_some_iff.1 mv;rw[show(i+1).toNat=i.toNat+1 by omega,List.take_succ_eq_append_getElem dC,ek,List.map_append];rfl
 obtain⟨f5,Tk,ad8,ad2,Ms⟩:=dv.left (E':=xm) (z:=z) (v:=u) (D0:=λx=>f x≠none) (by rw[pa];show oV z _ 3 cz (((ls.take (i+1).toNat).map nS).flatMap te);rw[O7,List.flatMap_append];simpa[te,nS] using IP) (λx o I ah=>cQ x o I ah) (λx I=>by rw[pa] at I;exact ee x I) (λd aj=>by rw[pa] at aj;have hd:d∈(ls.take (i+1).toNat).map nS:=aj;rw[O7] at hd;rcases List.mem_append.1 hd with hd|hd;exact .inl hd;rw[List.mem_singleton.1 hd];exact .inr ⟨jS,iw⟩) aJ ⟨by rw[pa],by rw[pa],by rw[pa],by rw[pa]⟩ ⟨by rw[pa],by rw[pa]⟩ (λp aa=>by rw[pa] at aa;exact aa)
 have aP:z g=some (ak.obj {hS with lf:=q,left:=(ls.take i.toNat).map nS}):=cQ _ _ dv.cell λe=>by have:=dv.iV g e;rw[dv.lO] at this;cases this
 refine⟨_,rfl,_,_,aP,rfl,by first|(show(6:Nat)<=6;decide)|simp[Addr.add],by simp[Value.oneCell'],?_⟩
 generalize EO:H.ins z _ _=v
 obtain rfl:v=z.ins g xm.obj:=EO.symm.trans (by subst pa;rfl)
 have Zx:∀y,bl y=none->w y≠none->(∀qu,r.s.ad=some qu->qu≠y)->f5 y=none:=λy a b c=>Classical.byContradiction λe=>by rcases ad2 y e with e|e|⟨d,aj,e,DM⟩;exact e a;exact b e;rw[pa] at aj;have hd:d∈(ls.take (i+1).toNat).map nS:=aj;rw[O7] at hd;rcases List.mem_append.1 hd with hd|hd;exact DM hd;rw[List.mem_singleton.1 hd] at e;exact c y e rfl
 have stay:∀y o,w y=some o->bl y=none->(z.ins g xm.obj) y=some o:=Ms
 refine⟨⟨by omega,by omega⟩,⟨by omega,by omega,f5,cz,by rw[pa] at Tk;rw[pa];exact Tk,ad8,bb.else aW λy o af U=>stay y o U (DB y af).1,λy af=>⟨Zx y (DB y af).1 (DB y af).2 λqu jL e=>?_,?_⟩,λeB ek=>?_⟩,by dsimp only;omega⟩
 exact b8.eR r gx y af (by rw[<-e];exact jL)
 obtain⟨o,U⟩:=Option.ne_none_iff_exists'.1 (DB y af).2
 rw[stay y o U (DB y af).1];simp
 rw[show(i+1).toNat=i.toNat+1 by omega] at ek
 obtain⟨t1,t2⟩:=xU eB (by rw[tt];exact .tail _ ek)
 have hy:eP r.s eB.s:=by have Er:=b8.apart.sublist (List.drop_sublist i.toNat ls);rw[tt] at Er;exact(List.pairwise_cons.1 Er).1 eB ek
 refine⟨bb.else t1 λy o af U=>stay y o U (t2 y af).1,λy af=>?_⟩
 obtain⟨fz,z2,z3,z4⟩:=t2 y af
 refine⟨Zx y fz z3 λqu jL e=>hy qu jL (by rw[e];exact af),z2,?_,z4⟩
 obtain⟨o,U⟩:=Option.ne_none_iff_exists'.1 z3
 rw[stay y o U fz];simp
 have gh:ls.take i.toNat=ls:=List.take_of_length_le (by omega)
 rw[gh] at dv
 have et:=hk.n0
 have iS:∀r∈ls,1<=r.id/\r.id<=1000000000/\fV r.v au.ao=0:=λr W=>by have hm:r.bV∈an.rowsOf au.S:=tI.mem_iff.1 (List.mem_map.2 ⟨r,W,rfl⟩);obtain⟨e,he,aa⟩:=List.mem_map.1 hm;have h1:=mm.ids e he;have h2:=mm.vec e he;have fk:e.1=r.id:=congrArg Prod.fst aa;have da:e.2.2=r.v:=congrArg Prod.snd aa;rw[fk] at h1;rw[da,hk.ao.1] at h2;exact⟨h1.1,h1.2,Cf h2.2 h2.1 WO⟩
 have bX:(ls.map (·.id)).Nodup:=by have h1:=nA.zk;rw[<-an.E1] at h1;have h2:=(tI.map (·.1)).nodup_iff.2 h1;rw[List.map_map] at h2;exact h2
 have wi:=n1.table (d:=au.ao) (L:=ls) (A:=[]) iS (by simpa using bX) (by simp;omega)
 rw[List.append_nil] at wi
 refine bL he bJ dp w bl _ dv aJ ⟨?_,?_,?_,?_,λp aa=>?_,λaa=>(by rw[iK] at aa;cases aa),by simp;omega,?_,hk.n0⟩ ⟨Mz,Ud⟩ (by rw[iK]) (by rw[iK];simp[kX,eC,fy,eJ,ky]) (by simpa using jf)
 rw[iK];exact hk.rows
 rw[iK];exact hk.ao
 rw[iK];exact hk.sp
 rw[iK];exact hk.ez
 rw[iK] at aa
 cases aa
 rw[Ud,Mz]
 have YA:(b7 X)=[]:=cJ.eq_nil
 refine⟨?_,c8,?_,by show kY X.k X.s X.p X.c=0;rw[eC,fy,eJ,ky];exact lg⟩
 show n1 au.ao (b7 X) (ls.map nS) _
 rw[YA]
 exact wi.perm (.refl _) tI
 have:sk X=0:=ka
 show((sk X:Nat):Int)+((ls.map nS).length:Nat)<=_
 rw[this,List.length_map];omega
 rw[iK];exact hk.c
end
end n2
section
variable{s t:J}{L l:List aT}{u Y v bH:H}{m n:Nat}{q S:List Int}{k:Int}{r:aT}{K:Bool->Int->H->Prop}
def ql(q:List Int)(d k m b:Int):Int:=if fV q d≠0 then fV q d else if k<1∨64<k then 1 else if¬(m=1∨m=2) then 210 else if b<0∨1000000<b∨(m=1/\b≠0) then 1 else 0
def abl{d m b:Int}{K:Int->H->Prop}(hs:Ints u s q)(ae:K (ql q d k m b) u):GI s k m b d u K:=by
 have key:∀z,ql q d k m b=z->K z u:=λz e=>e▸ae;apply as4;refine pA hs ⟨λah=>key _ (by unfold ql;rw[if_pos ah]),λhe=>?_⟩;intro js hc;have go:∀cF:Bool,(cF=true↔(k<1∨64<k))->js cF u:=λcF Z=>hc cF u ⟨λe=>key _ (by unfold ql;rw[if_neg (by simpa using he),if_pos (Z.1 e)]),λe=>?_⟩;exact⟨λh1=>go true ⟨λ_=>.inl h1,λ_=>rfl⟩,λh1=>go _ ⟨λe=>.inr (of_decide_eq_true e),λe=>decide_eq_true (by omega)⟩⟩;have ac:¬(k<1∨64<k):=λh=>by rw[Z.2 h] at e;cases e
 have iq:∀z,(if¬(m=1∨m=2) then(210:Int) else if b<0∨1000000<b∨(m=1/\b≠0) then 1 else 0)=z->K z u:=λz ar=>key z (by unfold ql;rw[if_neg (by simpa using he),if_neg ac];exact ar);have rest:(m=1∨m=2)->_:=λhm=>(⟨λh1=>iq _ (by rw[if_neg (λE=>E hm),if_pos (.inl h1)]),λh1=>⟨λh2=>iq _ (by rw[if_neg (λE=>E hm),if_pos (.inr (.inl h2))]),λh2=>⟨λh3=>⟨λaZ=>iq _ (by rw[if_neg (λE=>E hm),if_pos (.inr (.inr ⟨h3,aZ⟩))]),λaZ=>iq _ (by rw[if_neg (λE=>E hm),if_neg (by rintro(h|h|⟨_,h⟩)<;>first|omega|exact h aZ)])⟩,λh3=>iq _ (by rw[if_neg (λE=>E hm),if_neg (by rintro(h|h|⟨h,_⟩)<;>first|omega|exact h3 h)])⟩⟩⟩:
  aA (b<0) (K 1 u) (aA ((1000000:Int)<b) (K 1 u) (aA (m=1) (bt (b=0) (K 1 u) (K 0 u)) (K 0 u))))
 apply as5;refine⟨λh1=>⟨λar=>absurd rfl ar,λ_=>rest (.inl h1)⟩,λh1=>⟨λar=>?_,λar=>rest (.inr (of_decide_eq_true ar))⟩⟩;exact iq _ (by rw[if_pos λh=>h.elim h1 λh2=>ar (decide_eq_true h2)])
def apY{A B au F rows:Int}{m b:Int}{K:Int->Int->H->Prop}(dv:kY A B au F=0)(W:0<=rows/\rows<=512)(hs:Ints u s q)(ay:ql q q.length k m b=0)(ae:∀u',u.le u'->K (if m=1 then rows else if b<rows then b else rows) 0 u'):LL A B au F rows s k m b u K:=by apply as3;refine Ko λaI b9=>⟨λe=>absurd dv e,λ_=>?_⟩;intro js hc;have ac:=hs.len;refine⟨λe=>absurd e (by omega),λ_=>⟨λe=>absurd e (by omega),λ_=>hc 0 0 aI (abl (hs.mono b9) ?_)⟩⟩;rw[ac,ay];refine⟨λe=>absurd rfl e,λ_=>⟨λh1=>?_,λh1=>?_⟩⟩;have:=ae aI b9;rw[if_pos h1] at this;exact this;have:=ae aI b9;rw[if_neg h1] at this;exact this
def aeq:fi Tryz.prog 215=true:=by kernel_rfl
def MF:fi Tryz.prog 156=true:=by kernel_rfl
def aql{r:cc}{v:List Int}(h1:Ints u r.ls r.bz)(h2:Ints u r.hs r.hi)(W:k5 r v.length)(ht:zE u t)(hs:Ints u s v)(av:ej v)(cr:mf r v)(h:K true 0 u):
  Md r.ax r.ls r.hs (cK r.ch) (cO r.ch) t s u K:=by
 have cb:=h1.len
 have di:=h2.len
 have axh:=hs.len
 have uX:=hs.max
 refine fW.forget (ss:=[.one .bool,.one (.int .i64)]) ?_
 apply at5
 intro n0 et yV gF
 generalize iT:Obj.cells _ _ _=eV at gF ⊢
 generalize hz:Obj.cells _ _ _=dk at ⊢
 have b9:u.le (u.ins n0 eV):=bN _ et
 have cZ:(u.ins n0 eV).le ((u.ins n0 eV).ins yV dk):=bN _ gF
 have d0:((u.ins n0 eV).ins yV dk) n0=some eV:=cZ _ _ (aS _ _ _)
 have d1:((u.ins n0 eV).ins yV dk) yV=some dk:=aS _ _ _
 generalize hw:(u.ins n0 eV).ins yV dk=w at*
 have lw:u.le w:=b9.trans cZ
 subst iT hz
 have c:∀i,w.cell? ⟨n0,i,none⟩=_:=λi=>aV d0 i
 have dH:w.cell? ⟨yV,0,none⟩=some (.slice s.a s.n s.c):=aV d1 0
 refine⟨_,c 0,r.ls,c 1,r.hs,c 2,_,c 3,_,c 4,t,c 5,s,dH,abu (h1.mono lw) (h2.mono lw) W ?_ (hs.mono lw) av ⟨λI=>absurd rfl I,λ_=>⟨_,c 0,?_⟩⟩⟩
 rcases ht with h|⟨L,a,b⟩
 exact .inl h
 exact .inr ⟨L,a.mono lw,b⟩
 rcases W.shape with⟨e,_⟩|⟨e,_,v1,v2,b9,cZ,hle⟩|⟨e,ar,v1,b9,wK⟩
 exact⟨λh=>by omega,λ_=>⟨λh=>by omega,λ_=>⟨lw,h⟩⟩⟩
 refine⟨λ_=>⟨s,dH,λ_ _ i aw=>aw=w/\0<=i,λ_ _ i _=>((s.n:Int)-i).toNat,⟨rfl,by omega⟩,?_⟩,λh=>absurd e h⟩
 rintro _ _ i aw ⟨rfl,i0⟩
 refine⟨λhi=>.inl ⟨_,_,_,rfl,fg aeq,at6 i ⟨n0,0,none⟩ ⟨yV,0,none⟩ _ _ ?_⟩,λ_=>⟨lw,h⟩⟩
 obtain⟨p,aa,b0⟩:=(hs.mono lw).at i0 hi
 obtain⟨fk,gj,cJ⟩:=(h1.mono lw).at i0 (show i<(r.ls.n:Int) by omega)
 obtain⟨da,fD,c8⟩:=(h2.mono lw).at i0 (show i<(r.hs.n:Int) by omega)
 have g:=cr.1 e i.toNat (by omega)
 refine⟨r.ls,c 1,fk,gj,⟨i0,by omega⟩,_,cJ,s,dH,p,aa,⟨i0,hi⟩,_,b0,λ_=>⟨s,dH,p,aa,⟨i0,hi⟩,_,b0,r.hs,c 2,da,fD,⟨i0,by omega⟩,_,c8,?_⟩,λh=>absurd g.1 h⟩
 exact⟨λh=>absurd (decide_eq_true g.2) h,λ_=>⟨⟨by omega,by omega⟩,⟨rfl,by omega⟩,by dsimp only;omega⟩⟩
 refine⟨λh=>by omega,λ_=>⟨λ_=>⟨r.ls,c 1,s,dH,_,c 3,_,c 4,?_⟩,λh=>absurd e h⟩⟩
 refine Kz (h1.mono lw) (hs.mono lw) v1 av (by omega) λx y I af hw=>⟨H.le.refl _,w7 af (tN _) ?_⟩
 have:=cr.2 e
 have aP:(if dY x y<dY (cK r.ch) (cO r.ch) then(-1:Int) else if dY (cK r.ch) (cO r.ch)<dY x y then 1 else 0)<=0:=by rw[oR,hw];split;decide;omega
 rw[decide_eq_true aP]
 exact⟨lw,h⟩
def J0:vI Tryz.prog 299 3 34 (.agg #[.int .i64 0,.slice none 0 0]):=⟨by kernel_rfl,by kernel_rfl,λ_=>by kernel_rfl⟩
def aow{κ:Type}[DecidableEq κ][fA κ]{P:Program}{t k e:TypeId}{z:Value}(T:n3 κ P t k e z){b:Nat}{l:List (κ×Value)}(h:dI u b l){x:κ}{i:Int}(af:(eF l x).getD z=.agg #[.int .i64 i,.slice s.a s.n s.c]){K:Int->J->Bool->H->Prop}(ae:K i s (eF l x).isSome u):
  cx P (Instr.lookup t (.map (some b)) (fA.enc x) true) [.agg [.int .i64,.slice],.one .bool] u K:=by
 obtain⟨es,c,Z,ai⟩:=h
 intro w hw
 refine⟨.tuple #[.agg #[.int .i64 i,.slice s.a s.n s.c],.bool (eF l x).isSome],w,u,?_,⟨_,.cons (t:=.int .i64) i (.cons (t:=.slice) s (.cons (t:=.bool) (eF l x).isSome .nil)),rfl,(al.nX (.int .i64) i _).2 ((al.nX .slice s _).2 ((al.nX .bool _ _).2 ae))⟩,Step.refl hw⟩
 have N:=MapKept.run_getObj_map (P:=P) (hw _ _ Z)
 have E:=T.check es.isEmpty x w
 obtain⟨f1,f2⟩:=T.find ai.gy x w
 cases I:eF l x with
 |none=>rw[I] at af;have jL:z=.agg #[.int .i64 i,.slice s.a s.n s.c]:=af;simp[Instr.lookup,Sem.run_bind,run_underlying T.eO,N,E,f1 I,Result.andThen,T.zero,jL]
 |some v=>rw[I] at af;have jL:v=.agg #[.int .i64 i,.slice s.a s.n s.c]:=af;obtain⟨j,aH,_⟩:=f2 v I;simp[Instr.lookup,Sem.run_bind,run_underlying T.eO,N,E,aH,Result.andThen,jL]
def qJ(r:aT):Int×Value:=(r.id,.agg #[.int .i64 r.id,.slice r.s.a r.s.n r.s.c])
def Vz(l:List aT):(l.map qJ).map (·.1)=l.map (·.id):=by rw[List.map_map];rfl
def agi(l:List aT)(x:Int):(l.map qJ).filter (λp=>p.1 !=x)=(l.filter λr=>r.id !=x).map qJ:=by rw[List.filter_map];rfl
structure kB(Y v:H)(m n:Nat)(L:List aT):Prop where
 le:Y.le v
 c:v n=some (.cells #[.map (some m)] 299 (0,0))
 map:dI v m (L.map qJ)
 m0:Y m=none
 n0:Y n=none
 ne:m≠n
def kB.mono(h:kB Y v m n L)(av:v.le bH):kB Y bH m n L:=⟨h.le.trans av,av _ _ h.c,h.map.mono av,h.m0,h.n0,h.ne⟩
theorem kB.else{xs:List Value}(h:kB Y v m n L)(U:aE Y v 34 2 s xs)(he:e8 v bH s):kB Y bH m n L:=by
 have Z:∀g,s.ad=some g->Y g=none/\g≠m/\g≠n:=λg N=>by
  refine⟨U.fresh g N,?_⟩;rcases U.own.is with h0|⟨bS,cur,ap,cH,_⟩;rw[h0] at N;cases N;obtain rfl:bS=g:=by simpa[J.ad,ap] using N
  obtain⟨es,C0,hm,_⟩:=h.map;refine⟨λe=>?_,λe=>?_⟩
  grind
  rw[e,h.c] at cH;cases cH
 refine⟨λc o E=>he c o (h.le c o E) λe=>?_,he _ _ h.c λe=>(Z _ e).2.2 rfl,h.map.else λo hm=>he _ _ hm λe=>(Z _ e).2.1 rfl,h.m0,h.n0,h.ne⟩
 grind
def kB.set{L':List aT}{o:Obj}(h:kB Y v m n L)(hm:dI (v.ins m o) m (L'.map qJ)):kB Y (v.ins m o) m n L':=by
 refine⟨λc bn E=>?_,by rw[aL _ _ h.ne.symm];exact h.c,hm,h.m0,h.n0,h.ne⟩;have:c≠m:=λe=>by rw[e,h.m0] at E;cases E
 rw[aL _ _ this];exact h.le c bn E
def kB.cell(h:kB Y v m n L):v.cell? ⟨n,0,none⟩=some (.map (some m)):=aV h.c 0
def agZ(ac:(L.map (·.id)).Nodup)(W:r∈L):eF (L.map qJ) r.id=some (qJ r).2:=(HV (by rw[Vz];exact ac)).2 (List.mem_map.2 ⟨r,W,rfl⟩)
def abV{K:Int->J->Bool->H->Prop}(h:kB Y v m n L)(ac:(L.map (·.id)).Nodup)(W:r∈L)(ae:∀bH,kB Y bH m n (L.filter λx=>x.id !=r.id)->(∀c o,v c=some o->c≠m->bH c=some o)->K r.id r.s true bH):
  mc Tryz.prog (.func (.func 156) #[] #[.pointer (some ⟨n,0,none⟩)]) #[.int .i64 r.id] [.agg [.int .i64,.slice],.one .bool] v K:=by
 refine .inl ⟨_,_,_,rfl,fg MF,arD r.id ⟨n,0,none⟩ v _ ⟨_,h.cell,?_⟩⟩
 have N:=agZ ac W
 refine aow J0 h.map (i:=r.id) (s:=r.s) (by rw[N];rfl) ⟨_,h.cell,B0 J0 h.map λo hm=>?_⟩
 rw[N]
 rw[agi] at hm
 exact ae _ (h.set hm) λc bn E dU=>by rw[aL _ _ dU];exact E
theorem agC{x:Int}:(L.filter λr=>decide (r.id∉S)).filter (λr=>r.id !=x)=L.filter λr=>decide (r.id∉S++ [x]):=by
 rw[List.filter_filter]
 grind
theorem ZJ{xs:List Value}(h:kB Y v m n L)(U:aE Y v 34 2 s xs)(hle:Y.le bH)(av:∀c o,v c=some o->c≠m->bH c=some o):aE Y bH 34 2 s xs:=by
 refine⟨U.own.le λb o Z hu=>av b o hu λe=>?_,hle,U.fresh⟩;obtain⟨es,C0,hm,_⟩:=h.map;rcases U.own.is with h0|⟨bS,cur,ap,cH,_⟩;rw[h0] at Z;cases Z;obtain rfl:bS=b:=by simpa[J.ad,ap] using Z
 grind
def ap4{l:List bk}{K:Bool->H->Prop}(hs:iZ u s l)(ht:iZ u t l)(h:K true u):LQ s t u K:=by have cb:=hs.len;have di:=ht.len;have Bx:=hs.max;apply atg;refine⟨λac=>absurd (by omega) ac,λ_=>⟨λ_ i v=>v=u/\0<=i,λ_ i _=>((s.n:Int)-i).toNat,⟨rfl,by omega⟩,?_⟩⟩;rintro _ i v ⟨rfl,i0⟩;refine⟨λhi=>?_,λ_=>h⟩;obtain⟨p,aa,x,I,c0,c1,c2⟩:=hs.at i0 hi;obtain⟨iu,ji,y,af,d0,d1,d2⟩:=ht.at i0 (show i<(t.n:Int) by omega);rw[I] at af;cases af;exact⟨p,aa,⟨i0,hi⟩,iu,ji,⟨i0,by omega⟩,_,c0,_,c1,_,c2,_,d0,_,d1,_,d2,λah=>absurd ⟨rfl,rfl,rfl⟩ ah,λ_=>⟨⟨by omega,by omega⟩,⟨rfl,by omega⟩,by dsimp only;omega⟩⟩
def an5{m:List aT}{d:Int}(h:hp l d)(hm:∀r∈m,r∈l)(ac:(m.map (·.id)).Nodup)(ai:m.length<=l.length):hp m d:=⟨h.ao,Nat.le_trans ai h.len,λr W=>h.id r (hm r W),ac,λr W=>h.v r (hm r W)⟩
def vf(l:List aT)(S:List Int):List aT:=l.filter λr=>decide (r.id∉S)
def Ze(l:List aT)(S:List Int)(x:Int):(vf l S).filter (λr=>r.id !=x)=vf l (S++ [x]):=agC
def Zc(W:r∈l)(h:r.id∉S):r∈vf l S:=List.mem_filter.2 ⟨W,decide_eq_true h⟩
def Zd(h:(l.map (·.id)).Nodup):((vf l S).map (·.id)).Nodup:=h.sublist (List.filter_sublist.map _)
theorem amj{i:Nat}{K:H->Prop}(h:kB Y v m n (l.take i))(W:l[i]?=some r)(ac:(l.map (·.id)).Nodup)(ae:∀bH,kB Y bH m n (l.take (i+1))->K bH):
  cx Tryz.prog (unit (Instr.mapUpdate 299 (.map (some m)) (.int .i64 r.id) (.agg #[.int .i64 r.id,.slice r.s.a r.s.n r.s.c]))) [] v K:=by
 refine y8 J0 h.map (tm.2 λI=>?_) λo hm=>ae _ (h.set (L':=l.take (i+1)) ?_)
 rw[Vz] at I
 obtain⟨hi,e⟩:=List.getElem?_eq_some_iff.1 W
 obtain⟨eB,ek,he⟩:=List.mem_map.1 I
 obtain⟨j,aH,dz⟩:=List.getElem_of_mem ek
 rw[List.getElem_take] at dz
 have ik:j<i:=by grind
 have:=List.pairwise_iff_getElem.1 ac j i (by simp;omega) (by simpa using hi) ik
 grind
 rw[List.take_add_one,W,List.map_append]
 exact hm
theorem apj{ax ss a7:J}{dF:List bk}{seen:List Int}{rest:List cc}(hs:ev u s l)(ht:Ints u t q)(ap:sP u ax ss a7 dF seen rest)
  (dT:j9 l q k≠0->∀u',u.le u'->K false (j9 l q k) u') (aW:j9 l q k=0->Sound l q k dF seen rest) (bL:j9 l q k=0->K true 0 u):Lb s t k ax ss a7 u K:=by
 have ac:=hs.len
 have wI:=ht.len
 have axf:=ap.s.len
 have axe:=ap.r.len
 have Ra:=ap.r.max
 have axa:=ap.s.max
 have uX:=hs.max
 by_cases he:j9 l q k=0
 case neg=>apply acf;exact Ks hs ht (λ_=>⟨λ_=>dT he _ (H.le.refl _),λh=>absurd h he⟩) λay cv cI=>absurd (by unfold j9;rw[CS.2 ay,if_neg (by decide),if_neg (by omega)]) he
 have aW:=aW he
 have bL:=bL he
 refine fW.forget (ss:=[.one .bool,.one (.int .i64)]) ?_
 have fin:∀{v:H},u.le v->u.le v/\K true 0 u:=λav=>⟨av,bL⟩
 apply acf
 refine Ks hs ht (λh=>absurd he h) λay cv cI s0 bE akh=>⟨λh=>absurd rfl h,λ_=>?_⟩
 have cZ:=akh.le
 have bX:=ay.rows.nodup
 refine J9 λm o hm iP n ac=>?_
 refine⟨#[.map none],299,aS _ _ _,rfl,Nat.le_refl _,by simp[Value.oneCell'],?_⟩
 have ah:m≠n:=λe=>by rw[<-e,aS] at ac;cases ac
 have Hq:kB bE (((bE.ins m o).ins n (.cells #[.map none] 299 (0,0))).ins n (.cells (wr #[.map none] 0 [.map (some m)]) 299 (0,0))) m n (l.take 0):=by
  refine⟨λc bn E=>?_,aS _ _ _,?_,hm,?_,ah⟩;have h1:c≠m:=λe=>by grind
  have h2:c≠n:=λe=>by rw[<-e,aL _ _ h1,E] at ac;cases ac
  rw[aL _ _ h2,aL _ _ h2,aL _ _ h1];exact E;exact iP.else λbn bG=>by rw[aL _ _ ah,aL _ _ ah];exact bG
  rw[aL _ _ ah.symm] at ac;exact ac
 refine⟨λi v=>0<=i/\kB bE v m n (l.take i.toNat),λi _=>((s.n:Int)-i).toNat,⟨by omega,Hq⟩,?_⟩
 rintro i v ⟨i0,ce⟩
 have lv:=cZ.trans ce.le
 refine⟨λhi=>?_,λhi=>?_⟩
 obtain⟨p,aa,r,W,c0,c1,_⟩:=(hs.mono lv).at i0 hi
 refine⟨p,aa,⟨i0,hi⟩,_,c0,_,c1,_,ce.cell,amj ce W bX λbH rT=>⟨⟨by omega,by omega⟩,⟨by omega,?_⟩,by dsimp only;omega⟩⟩
 rw[show(i+1).toNat=i.toNat+1 by omega]
 exact rT
 rw[List.take_of_length_le (by omega)] at ce
 have ep:∀x,x∈seen++rest.flatMap (·.ids)->∃r∈l,r.id=x:=λx I=>by obtain⟨r,W,e⟩:=List.mem_map.1 (aW.all.mem_iff.1 I);exact⟨r,W,e⟩
 have yi:(seen++rest.flatMap (·.ids)).Nodup:=aW.all.nodup_iff.2 bX
 have dH:vf l []=l:=List.filter_eq_self.2 λr _=>by simp
 refine⟨λ_ _ w2 i v=>0<=i/\i<=(ss.n:Int)/\kB bE v m n (vf l (seen.take i.toNat))/\∃ms:List aT,aE bE v 34 2 w2 (ms.flatMap cG)/\(∀r∈ms,r∈l)/\ms.map (·.id)=seen.take i.toNat,λ_ _ _ i _=>((ss.n:Int)-i).toNat,
  ⟨by omega,by omega,by rw[show(0:Int).toNat=0 from rfl,List.take_zero,dH];exact ce,[],aE.mono (aE.nil (H.le.refl bE) _ _) ce.le,λ_ h=>(by cases h),by simp⟩,?_⟩
 clear ce i0 hi lv i v Hq iP ac ah
 rintro b axP w2 i v ⟨i0,i1,ce,ms,U,mY,tC⟩
 change aE bE v _ 2 w2 _ at U
 have lv:=cZ.trans ce.le
 have awE:ms.length=i.toNat:=by have:=congrArg List.length tC;simp at this;omega
 have Wa:=ay.rows.len
 have mw:seen.length<=512:=by have:=aW.all.length_eq;simp at this;omega
 refine⟨λhi=>?_,λhi=>?_⟩
 .obtain⟨p,aa,x,I,c0⟩:=(ap.s.mono lv).get i0 hi;obtain⟨r,W,rfl⟩:=ep x (List.mem_append_left _ (List.mem_of_getElem? I));obtain⟨dC,x5⟩:=List.getElem?_eq_some_iff.1 I;have Pq:=(List.nodup_append.1 yi).1;have AX:r.id∉seen.take i.toNat:=λh=>by
   obtain⟨j,aH,dz⟩:=List.getElem_of_mem h;rw[List.getElem_take] at dz;have ik:j<i.toNat:=by grind
   exact List.pairwise_iff_getElem.1 Pq j i.toNat (by omega) dC ik (by rw[dz,x5])
  refine⟨p,aa,⟨i0,hi⟩,_,c0,abV ce (Zd bX) (Zc W AX) λbH rT eg=>?_⟩;have bG:=ZJ ce U rT.le eg;intro Mr ahb;have go:∀b x,Mr b x bH:=λb x=>ahb b x _ (rn nV (CY _ _) (by decide) rfl (by simp[Value.oneCell']) bG (by have:=fx fh (by decide) bG.own.bR;omega) (by have:=fx fh (by decide) bG.own.bR;omega) λs' u' h1 h2 h3 _ _=>⟨⟨by omega,by omega⟩,⟨by omega,by omega,?_,ms++ [r],by rw[List.flatMap_append];simpa[cG] using h1,λeB ek=>?_,?_⟩,by dsimp only;omega⟩)
  rotate_left
  rw[Ze] at rT;have:=rT.else bG h3;rw[show(i+1).toNat=i.toNat+1 by omega,List.take_add_one,I];exact this;rcases List.mem_append.1 ek with h|h;exact mY eB h;obtain rfl:eB=r:=by simpa using h
  exact W;rw[show(i+1).toNat=i.toNat+1 by omega,List.take_add_one,I,List.map_append,tC];rfl;refine⟨λh=>absurd rfl h,λ_=>⟨λh0=>?_,λ_=>go _ _⟩⟩;obtain⟨iu,ji,y,af,d0⟩:=(ap.s.mono (cZ.trans rT.le)).get (x:=i-1) (by omega) (by omega);obtain⟨g1,aO⟩:=List.getElem?_eq_some_iff.1 af;have:=List.pairwise_iff_getElem.1 aW.anZ _ _ g1 dC (by omega);exact⟨⟨by omega,by omega⟩,iu,ji,⟨by omega,by omega⟩,y,d0,λh=>by omega,λ_=>go _ _⟩
 rw[List.take_of_length_le (by omega)] at ce tC
 refine⟨λ_ _ j w=>0<=j/\j<=(a7.n:Int)/\kB bE w m n (vf l (seen++(rest.take j.toNat).flatMap (·.ids)))/\aE bE w 34 2 w2 (ms.flatMap cG),λ_ _ j _=>((a7.n:Int)-j).toNat,⟨by omega,by omega,by simpa using ce,U⟩,?_⟩
 clear ce U lv
 rintro avj axQ j w ⟨eL,gI,ce,U⟩
 have lv:=cZ.trans ce.le
 refine⟨λaH=>?_,λaH=>?_⟩
 .obtain⟨p,aa,g,N,c0,c1,c2,c3,c4,c5⟩:=(ap.r.mono lv).at eL aH;have wq:=List.mem_of_getElem? N;obtain⟨jS,iw,oH⟩:=(ap.r.mono lv).2 g wq;obtain⟨pS,ag0,Dk⟩:=aW.jC g wq;have axg:=oH.len;have avM:=oH.max;refine⟨p,aa,⟨eL,aH⟩,_,c0,_,c1,_,c2,_,c3,_,c4,_,c5,λavf ahe=>⟨λh0=>absurd (List.eq_nil_of_length_eq_zero (by omega)) ag0,λ_=>?_⟩⟩;rw[wI];refine abt jS iw pS (.inr ⟨_,oH,pS.ids,pS.id⟩) ⟨λh=>absurd rfl h,λ_=>ahe _ _ _ ?_⟩;have ais:rest=rest.take j.toNat++g::rest.drop (j.toNat+1):=by obtain⟨ai,e⟩:=List.getElem?_eq_some_iff.1 N;rw[<-e,<-List.drop_eq_getElem_cons ai,List.take_append_drop]
  refine⟨λ_ _ i w=>0<=i/\i<=(g.is.n:Int)/\kB bE w m n (vf l (seen++(rest.take j.toNat).flatMap (·.ids)++g.ids.take i.toNat))/\aE bE w 34 2 w2 (ms.flatMap cG),λ_ _ i _=>((g.is.n:Int)-i).toNat,⟨by omega,by omega,by simpa using ce,U⟩,?_⟩;clear ce U lv jS iw oH c0 c1 c2 c3 c4 c5;rintro avk axR i v ⟨i0,i1,ce,U⟩;have lv:=cZ.trans ce.le;obtain⟨jS,iw,oH⟩:=(ap.r.mono lv).2 g wq;refine⟨λhi=>?_,λhi=>⟨⟨by omega,by omega⟩,⟨by omega,by omega,?_,U⟩,by dsimp only;omega⟩⟩
  .obtain⟨pi,u2,x,I,dH⟩:=oH.get i0 hi;obtain⟨r,W,rfl,cr⟩:=Dk x (List.mem_of_getElem? I);obtain⟨dC,x5⟩:=List.getElem?_eq_some_iff.1 I;have AX:r.id∉seen++(rest.take j.toNat).flatMap (·.ids)++g.ids.take i.toNat:=λh=>by
    have e:seen++rest.flatMap (·.ids)=(seen++(rest.take j.toNat).flatMap (·.ids)++g.ids.take i.toNat)++(g.ids.drop i.toNat++(rest.drop (j.toNat+1)).flatMap (·.ids)):=by
     conv=>lhs;rw[ais]
     simp only[List.flatMap_append,List.flatMap_cons,List.append_assoc];rw[<-List.append_assoc (g.ids.take i.toNat),List.take_append_drop]
    rw[e] at yi;exact(List.nodup_append.1 yi).2.2 _ h _ (List.mem_append_left _ (by rw[List.drop_eq_getElem_cons dC,x5];exact .head _)) rfl
   refine⟨pi,u2,⟨i0,hi⟩,_,dH,abV ce (Zd bX) (Zc W AX) λbH rT eg=>⟨λh=>absurd rfl h,λ_=>?_⟩⟩;have Jz:=cZ.trans rT.le;have av:=ay.rows.v r W;obtain⟨jS,iw,oH⟩:=(ap.r.mono Jz).2 g wq;refine aql jS iw (by rw[av.1];exact pS) (.inr ⟨_,oH,pS.ids,pS.id⟩) ((hs.mono Jz).2 r W) av.2 cr ⟨λh=>absurd rfl h,λ_=>⟨⟨by omega,by omega⟩,⟨by omega,by omega,?_,ZJ ce U rT.le eg⟩,by dsimp only;omega⟩⟩;rw[Ze,List.append_assoc] at rT;rw[show(i+1).toNat=i.toNat+1 by omega,List.take_add_one,I];exact rT
  rw[List.take_of_length_le (l:=g.ids) (by omega)] at ce;rw[show(j+1).toNat=j.toNat+1 by omega,List.take_add_one,N,List.flatMap_append];simpa using ce
 rw[List.take_of_length_le (by omega)] at ce
 have b8:=U.rws (hs.mono lv) mY
 have Pq:=(List.nodup_append.1 yi).1
 have Ec:ms.length<=l.length:=by have h1:=congrArg List.length tC;have h2:=aW.all.length_eq;simp at h1 h2;omega
 have AV:jH ms q:=⟨ay.Cg,an5 ay.rows mY (by rw[tC];exact Pq) Ec⟩
 have OF:j9 ms q k=0:=by unfold j9;rw[CS.2 AV,if_neg (by decide),if_neg (by omega)]
 refine Ks b8 (ht.mono lv) (λh=>absurd OF h) λ_ _ _ axt axG An=>?_
 have U2:=ce.mono An.le
 refine⟨_,U2.cell,sH J0 U2.map ⟨λ_=>?_,λah=>absurd ?_ ah⟩⟩
 have Wc:=An.fN
 rw[<-aW.first ms mY tC] at Wc
 exact ap4 Wc (ap.h.mono (lv.trans An.le)) (fin (lv.trans An.le))
 have:vf l (seen++rest.flatMap (·.ids))=[]:=List.filter_eq_nil_iff.2 λr W=>by
   have:=aW.all.mem_iff.2 (List.mem_map.2 ⟨r,W,rfl⟩)
   grind
 rw[this]
 rfl
open Classical in
theorem api{ax ss a7:J}{dF:List bk}{seen:List Int}{rest:List cc}(hs:ev u s l)(ht:Ints u t q)(ap:sP u ax ss a7 dF seen rest)
  (dT:j9 l q k≠0->∀u',u.le u'->K false (j9 l q k) u') (aW:j9 l q k=0->Sound l q k dF seen rest) (bL:j9 l q k=0->K (decide (oT q k dF rest)) 0 u):La s t k ax ss a7 u K:=by
 have rb:=ap.r.len
 have gK:=ap.h.len
 have axc:=ap.r.max
 have axb:=ap.h.max
 apply arC
 refine apj hs ht ap (λhe u' hu=>?_) aW λhe=>?_
 intro sW _
 exact⟨λ_=>dT he u' hu,λh=>absurd h he⟩
 intro sW h3
 refine⟨λh=>absurd rfl h,λ_=>⟨λh=>absurd rfl h,λ_=>h3 _ _ _ ?_⟩⟩
 have aW:=aW he
 have bL:=bL he
 have DF:asked l q=0:=by by_cases h:asked l q=0;exact h;unfold j9 at he;omega
 have ay:=CS.1 DF
 have hk:1<=k/\k<=64:=by unfold j9 at he;rw[if_neg (by omega)] at he;split at he<;>omega
 have aj:=aW.afT ay
 have key:∀cF:Bool,(cF=true↔oT q k dF rest)->K cF 0 u:=λcF Z=>by
  have:cF=decide (oT q k dF rest):=by grind
  rw[this];exact bL
 refine⟨λ_ _ x v=>v=u/\0<=x/\(∀r∈rest.take x.toNat,(dF.getD (k-1).toNat default).2<l0 r q)/\(0<x->k<=dF.length),λ_ _ x _=>((a7.n:Int)-x).toNat,⟨rfl,by omega,λr W=>(by simp at W),λh=>by omega⟩,?_⟩
 rintro _ _ x v ⟨rfl,b0,bQ,Ja⟩
 refine⟨λI=>?_,λI=>?_⟩
 obtain⟨da,fD,r,ek,d0,d1,d2,d3,d4,d5⟩:=ap.r.at b0 I
 have gx:=List.mem_of_getElem? ek
 have ah:rest≠[]:=λe=>by rw[e] at gx;cases gx
 obtain⟨jS,iw,oH⟩:=ap.r.2 r gx
 have pS:=(aW.jC r gx).1
 refine⟨da,fD,⟨b0,I⟩,_,d0,_,d1,_,d2,_,d3,_,d4,_,d5,λbh=>key _ ⟨λe=>(by cases e),λE=>?_⟩,λhg=>?_⟩
 rcases E with E|⟨E,_⟩
 exact absurd E ah
 omega
 obtain⟨p,aa,g,N,c0,c1,c2⟩:=ap.h.at (x:=k-1) (by omega) (by omega)
 have kF:dF.getD (k-1).toNat default=g:=by rw[List.getD_eq_getElem?_getD,N];rfl
 have wq:=List.mem_of_getElem? N
 refine Kx jS iw pS (.inr ⟨_,oH,pS.ids,pS.id⟩) ht ay.Cg ⟨⟨by omega,by omega⟩,p,aa,⟨by omega,by omega⟩,_,c1,_,by rw[Addr.uB];exact c2,?_⟩
 refine w7 (tN _) (tN _) ?_
 rw[oR,oR]
 refine⟨λhle=>key _ ⟨λe=>(by cases e),λE=>?_⟩,λuS=>⟨⟨by omega,by omega⟩,⟨rfl,by omega,λy af=>?_,λ_=>by omega⟩,by dsimp only;omega⟩⟩
 rcases E with E|⟨_,E⟩
 exact absurd E ah
 have:=E r gx
 grind
 rw[show(x+1).toNat=x.toNat+1 by omega,List.take_add_one,ek] at af
 rcases List.mem_append.1 af with h1|h1
 exact bQ y h1
 simp at h1
 rw[h1,kF]
 omega
 rw[List.take_of_length_le (by omega)] at bQ
 refine key _ ⟨λ_=>?_,λ_=>rfl⟩
 by_cases j1:rest=[]
 exact .inl j1
 have:0<rest.length:=List.length_pos_iff.2 j1
 exact .inr ⟨Ja (by omega),bQ⟩
end
namespace n2
section
variable{u Y:H}{g:Nat}{n m:Int}{s:J}{P:List kD}
structure Told(L:List aT)(q:List Int)(k m aQ:Int)(dF:List bk)(ex:Bool):Prop where
 one:m=1->ex=true
 all:ex=true->dF=dX k.toNat (L.map (hh q))
 snd:m≠1->∃seen rest,Sound L q k dF seen rest/\(seen.length:Int)<=aQ/\((seen.length:Int)=aQ∨seen.length=L.length∨oT q k dF rest)/\(ex=true↔oT q k dF rest)
def ao6{f:Nat->Option aN}{au:ak}{k b:Int}{q:List Int}{K:J->Bool->Int->Int->Int->Int->Int->H->Prop}(h:At Y u f g au)(hk:Ok au n)(ac:n<=1000)(hs:Ints u s q)
  (dT:ql q au.ao k m b≠0->K ⟨none,0,0⟩ false 0 0 0 0 (ql q au.ao k m b) u)
  (bL:ql q au.ao k m b=0->∀L ax ex O a2 a3 a4 dF u',(L.map aT.bV).Perm (an.rowsOf au.S)->(L.Pairwise λa b=>a.id<=b.id)->jH L q->u.le u'->iZ u' ax dF->(∀x,ax.ad=some x->u x=none/\u' x≠none)->Told L q k m (if m=1 then L.length else if b<L.length then b else L.length) dF ex->K ax ex O a2 a3 a4 0 u'):zp (some ⟨g,0,none⟩) s k m b u K:=by
 classical
 have kL:=hk.ez
 obtain⟨aB,la,nA,mm⟩:=h.bo
 apply acn
 refine⟨λe=>(by cases e),λ_=>⟨_,rfl,_,ak.cell h.cell 1,abl hs ⟨dT,λhe=>⟨_,rfl,?_⟩⟩⟩⟩
 have bL:=bL he
 have ys:fV q au.ao=0:=Classical.byContradiction λe=>by unfold ql at he;rw[if_pos e] at he;exact e he
 obtain⟨d1,d2,d3,d4⟩:=rz ys
 have ot:1<=k/\k<=64/\(m=1∨m=2)/\0<=b/\b<=1000000:=by unfold ql at he;rw[if_neg (by simpa using ys)] at he;split at he;cases he;split at he;cases he;rename_i cJ c8;split at he;cases he;rename_i eC;have auW:m=1∨m=2:=Classical.byContradiction c8;exact⟨by omega,by omega,auW,by omega,by omega⟩
 refine Sx h λagU L aI b8 aa p7=>?_
 have gz:=h.mono b8.own.le
 have xV:=b8.rws
 have NV:agU.n=L.length:=xV.len
 have NW:L.length=(an.rowsOf au.S).length:=by have:=aa.length_eq;rw[List.length_map] at this;exact this
 have Ws:L.length<=512:=by have:=mm.small;rw[NW];unfold an.rowsOf;rw[List.length_map];exact this
 have H9:(L.map aT.bV).Perm (b7 au.X):=aa.trans hk.rows.symm
 have oy:hp L au.X.ao:=YL h.bc (by have:=H9.length_eq;rw[List.length_map] at this;omega) H9
 have ay:jH L q:=⟨d4,by rw[d3,<-hk.ao.2];exact oy⟩
 have jz:=hs.mono b8.own.le
 refine⟨_,rfl,_,ak.cell gz.cell 3,Kt gz.bc ⟨H.le.refl _,?_⟩⟩
 rw[NV]
 refine apY hk.sp (by omega) jz (by rw[d3];exact he) λbE cZ=>⟨λe=>absurd rfl e,λ_=>?_⟩
 have k0:=gz.mono cZ
 have iM:=jz.mono cZ
 obtain⟨aQ,WH⟩:∃aQ:Int,aQ=if m=1 then(L.length:Int) else if b<L.length then b else L.length:=⟨_,rfl⟩
 have XN:=bL L
 rw[<-WH] at XN ⊢
 have Z:0<=aQ/\aQ<=1000000:=by rw[WH];split<;>(try split)<;>omega
 have DF:iE q au.X.ao k aQ=0:=CR.2 ⟨by rw[hk.ao.2];exact ys,ot.1,ot.2.1,Z.1,Z.2⟩
 have nb:j9 L q k=0:=by unfold j9;rw[if_neg (by have:=CS.2 ay;simpa using this),if_neg (by omega)]
 intro js hc
 have fin:∀{v:H} {c:Nat} {ax ss a7:J} {rest:List cc},bE.le v->(∀x,ax.ad=some x->bE x=none/\v x≠none)->v c=some (.cells #[.slice ax.a ax.n ax.c,.slice ss.a ss.n ss.c,.slice a7.a a7.n a7.c] 124 (0,0))->sP v ax ss a7 (kO au.X q k aQ) (h5 au.X q k aQ) rest->rest.map cc.core=nc au.X q k aQ->js ⟨c,0,none⟩ 0 v:=by intro v c ax ss a7 rest lv dK E dv W;obtain⟨aW,ahQ,ahR⟩:=YN h.bc DF H9 ay W;have Q6:u.le v:=(b8.own.le.trans cZ).trans lv;have uk:=k0.mono lv;refine hc _ _ _ ⟨λe=>absurd rfl e,λ_=>⟨ax,aV E 0,ss,aV E 1,a7,aV E 2,?_⟩⟩;refine api ((xV.mono cZ).mono lv) (iM.mono lv) dv (λah=>absurd nb ah) (λ_=>aW) λ_=>?_;intro sW H7;have out:∀bH,v.le bH->∀sJ dF ex O a2 a3 a4,iZ bH sJ dF->(∀x,sJ.ad=some x->bE x=none/\bH x≠none)->Told L q k m aQ dF ex->K sJ ex O a2 a3 a4 0 bH:=λbH Jz sJ dF ex O a2 a3 a4 bW M aJ=>XN sJ ex O a2 a3 a4 dF bH aa p7 ay (Q6.trans Jz) bW (λx I=>⟨(b8.own.le.trans cZ).none (M x I).1,(M x I).2⟩) aJ;have take:m=1->sW true v:=λh1=>H7 true v ⟨λ_=>Ks ((xV.mono cZ).mono lv) (iM.mono lv) (λah=>absurd nb ah) λ_ _ _ s' u' U=>?_,λe=>(by cases e)⟩;have VY:(m=1->oT q k (kO au.X q k aQ) rest)->sW false v:=λhm=>H7 false v ⟨λe=>(by cases e),λ_=>⟨_,rfl,ax,aV E 0,_,ak.cell uk.cell 3,Kt uk.bc ⟨H.le.refl _,out v (H.le.refl _) ax _ _ _ _ _ _ dv.h dK ⟨λh1=>decide_eq_true (hm h1),λe=>aW.afy ay ot.1 (of_decide_eq_true e),λ_=>⟨_,_,aW,ahQ,ahR,⟨of_decide_eq_true,decide_eq_true⟩⟩⟩⟩⟩⟩;refine⟨λh1=>?_,λh1=>VY λe=>absurd e h1⟩;by_cases Oj:oT q k (kO au.X q k aQ) rest;rw[decide_eq_true Oj];exact VY λ_=>Oj;rw[decide_eq_false Oj];exact take h1;exact out u' U.le s' _ true 1 0 0 0 U.fN (λx I=>⟨lv.none (wY U I).1,(wY U I).2⟩) ⟨λ_=>rfl,λ_=>rfl,λe=>absurd h1 e⟩
 refine⟨_,rfl,_,ak.cell k0.cell 3,?_,λw hw=>⟨bN _ hw,?_⟩⟩
 refine Sv k0.bc (by omega) iM (λah=>absurd DF ah) λ_ ax ss a7 rest dm dv W c E=>?_
 have qe:bE.le dm:=dv.le
 refine⟨qe.trans (bN _ E),_,_,aS _ _ _,rfl,by simp,by simp[Value.oneCell'],?_⟩
 generalize aP:H.ins (dm.ins c _) _ _=v
 have av:v=dm.ins c (.cells #[.slice ax.a ax.n ax.c,.slice ss.a ss.n ss.c,.slice a7.a a7.n a7.c] 124 (0,0)):=by rw[<-aP,yJ];rfl
 rw[av]
 exact fin (qe.trans (bN _ E)) (λx I=>⟨(wY dv.h I).1,by obtain⟨o,U⟩:=Option.ne_none_iff_exists'.1 (wY dv.h I).2;rw[bN _ E _ _ U];simp⟩) (aS _ _ _) ((dv.mono (bN _ E)).read) W
 obtain⟨eV,iT⟩:∃eV,eV=Obj.cells #[.slice none 0 0,.slice none 0 0,.slice none 0 0] 124 (0,0):=⟨_,rfl⟩
 rw[<-iT]
 have lw:=bN (u:=bE) (b:=w) eV hw
 refine Sv (k0.mono lw).bc (by omega) (iM.mono lw) (λah=>absurd DF ah) λ_ ax ss a7 rest dm dv W=>?_
 have E:dm w=some eV:=dv.le _ _ (aS _ _ _)
 have e2:=E.trans (congrArg some iT)
 refine⟨_,_,e2,rfl,by simp,by simp[Value.oneCell'],?_⟩
 generalize aP:H.ins dm _ _=v
 have av:v=dm.ins w (.cells #[.slice ax.a ax.n ax.c,.slice ss.a ss.n ss.c,.slice a7.a a7.n a7.c] 124 (0,0)):=aP.symm
 rw[av]
 refine fin (λx o I=>?_) (λx I=>⟨lw.none (wY dv.h I).1,?_⟩) (aS _ _ _) (dv.else λx o h0 I=>?_) W
 rw[aL _ _ λe=>by rw[e,hw] at I;cases I];exact dv.le _ _ (lw _ _ I)
 obtain⟨fz,z2⟩:=wY dv.h I
 rw[aL _ _ λe=>by rw[e,aS] at fz;cases fz];exact z2
 rw[aL _ _ λe=>by rw[e,aS] at h0;cases h0];exact I
def UR(a:Int):hF Tryz.prog 23 1 #[(0,.int .i64 a)]=some (3,[.int .i64 a]):=by kernel_rfl
def Fe(P:List kD):List aT:=P.map λp=>⟨p.1,⟨none,0,0⟩,p.2⟩
def ami(P:List kD):(Fe P).map aT.bV=P:=by unfold Fe;rw[List.map_map];exact List.map_id' _
structure um(Y u:H)(f:Nat->Option aN)(g:Nat)(au:ak)(n:Int)(P:List kD)(m:Int):Prop where
 is:At Y u f g au
 ok:Ok au n
 rows:(an.rowsOf au.S).Perm P
 ao:au.ao=1
 seq:jo au=m
 safe:au.S.safe=m
def xn(mG:H)(s:J)(u:H)(f:Nat->Option aN):Prop:=∀x o,s.ad=some x->mG x=some o->u x=some o/\f x=none
def xn.cL{mG u':H}{f bl:Nat->Option aN}(h:xn mG s u f)(t:cD u (λx=>f x≠none) u' λx=>bl x≠none):xn mG s u' bl:=λx o I U=>by obtain⟨h1,h2⟩:=h x o I U;refine⟨t.bd x o h1 λe=>e h2,Classical.byContradiction λe=>?_⟩;rcases t.grow x e with e|e;exact e h2;rw[h1] at e;cases e
def xn.mono{mG u':H}{f:Nat->Option aN}(h:xn mG s u f)(l:u.le u'):xn mG s u' f:=λx o I U=>⟨l _ _ (h x o I U).1,(h x o I U).2⟩
def amc{id d:Int}{q:List Int}{oW:List kD}(h:P.Perm oW):hA id q d (decide (id∈P.map (·.1))) P.length=hA id q d (decide (id∈oW.map (·.1))) oW.length:=by have aO:(id∈P.map (·.1))↔(id∈oW.map (·.1)):=(h.map _).mem_iff;simp only[aO,h.length_eq]
def JT{f:Nat->Option aN}{au:ak}{id x:Int}{K:Int->Int->H->Prop}(h:um Y u f g au n P m)(fC:ib Y)(cB:lF Y)(ac:n<=1000)(he:hA id [x] 1 (decide (id∈P.map (·.1))) P.length=0)
  (ae:∀u' bl E',um Y u' bl g E' (n+1) ((id,[x])::P.filter λy=>y.1 !=id) (m+1)->(cD u (λx=>f x≠none) u' λx=>bl x≠none)->E'.nx.map (λp=>kX p.2)=au.nx.map (λp=>kX p.2)->E'.left.length=au.left.length+(if au.nx.isSome then 1 else 0)->K (m+1) 0 u'):
  sm (Instr.buildSlice 23 1 #[(0,ag x)]) aW u λ(q:J) r=>vA (some ⟨g,0,none⟩) id q r K:=by
 refine nU (UR _) λg1 h1=>?_
 have b9:=bN (u:=u) (b:=g1) (.cells [Value.int .i64 x].toArray 3 (0,0)) h1
 have cC:Ints (u.ins g1 (.cells [Value.int .i64 x].toArray 3 (0,0))) ⟨some ⟨g1,0,none⟩,1,1⟩ [x]:=QG (H.le.refl u) h1 [x] 3 (by simp)
 have hm:hA id [x] au.ao (decide (id∈(an.rowsOf au.S).map (·.1))) (an.rowsOf au.S).length=0:=by rw[h.ao,amc h.rows];exact he
 refine zb (h.is.mono b9) h.ok fC cB ac cC (λah=>absurd hm ah) λ_ u' bl E' s' a t o c=>?_
 rw[h.seq]
 refine ae u' bl E' ⟨a,o,?_,by rw[c.ao];exact h.ao,by rw[c.seq,h.seq],by rw[c.safe,c.seq,h.seq]⟩ ((cD.mono b9).trans t) c.nx c.left
 refine c.rows.trans ((Hi h.rows _).trans ?_)
 unfold o3
 rw[if_neg (show¬(1:Int)=2 by decide)]
def UA{f:Nat->Option aN}{au:ak}{x k:Int}{hs:List bk}{K:J->Bool->Int->Int->Int->Int->Int->H->Prop}(h:um Y u f g au n P m)(ac:n<=1000)(he:ql [x] 1 k 1 0=0)(bW:dX k.toNat ((Fe P).map (hh [x]))=hs)
  (ae:∀ax u' O a2 a3 a4,um Y u' f g au n P m->u.le u'->iZ u' ax hs->xn u' ax u' f->K ax true O a2 a3 a4 0 u'):
  sm (Instr.buildSlice 23 1 #[(0,ag x)]) aW u λ(q:J) r=>zp (some ⟨g,0,none⟩) q k 1 0 r K:=by
 refine nU (UR _) λg1 h1=>?_
 have b9:=bN (u:=u) (b:=g1) (.cells [Value.int .i64 x].toArray 3 (0,0)) h1
 have cC:Ints (u.ins g1 (.cells [Value.int .i64 x].toArray 3 (0,0))) ⟨some ⟨g1,0,none⟩,1,1⟩ [x]:=QG (H.le.refl u) h1 [x] 3 (by simp)
 have gz:=h.is.mono b9
 have ay:ql [x] au.ao k 1 0=0:=by rw[h.ao];exact he
 refine ao6 gz h.ok ac cC (λah=>absurd ay ah) λ_ L ax ex O a2 a3 a4 dF u' cE _ _ ai ht M aJ=>?_
 have hex:=aJ.one rfl
 have tz:=aJ.all hex
 rw[hex]
 have ahE:(L.map (hh [x])).Perm ((Fe P).map (hh [x])):=by
  have aa:(L.map aT.bV).Perm ((Fe P).map aT.bV):=by rw[ami];exact cE.trans h.rows
  have:=aa.map λp=>hh [x] ⟨p.1,⟨none,0,0⟩,p.2⟩;rw[List.map_map,List.map_map] at this;exact this
 rw[xa ahE,bW] at tz
 rw[tz] at ht
 refine ae ax u' O a2 a3 a4 ⟨gz.mono ai,h.ok,h.rows,h.ao,h.seq,h.safe⟩ (b9.trans ai) ht λy o af U=>⟨U,Classical.byContradiction λe=>gz.own.known y e (M y af).1⟩
def G6:List kD:=[(3,[9]),(2,[5]),(1,[0])]
def ad5:List kD:=[(4,[1]),(3,[9]),(2,[5]),(1,[0])]
def apf{K:Bool->H->Prop}(fC:ib u)(cB:lF u)(h:∀u',u.le u'->K true u'):L6 u K:=by
 apply atJ;refine b1.ao3 (by omega) (by omega) λaI ab avz T bQ aJ d1 d2 d3 d4 d5 d6=>?_;apply atK;refine FY (.inl rfl) bQ aJ fC cB (by unfold cS;omega) d1 d3 d5 d6 (λah=>absurd (by decide) ah) λ_ bE f2 g mI k0 _ cI iw M6 s2 aaN _ amT=>?_;have a0:um u bE f2 g mI 0 [] 0:=⟨k0,cI,by rw[iw],M6,s2,aaN⟩;have Q6:∀{v:H} {f:Nat->Option aN} {au:ak} {n m:Int} {P:List kD},um u v f g au n P m->u.le v:=λa=>a.is.own.le;clear cI iw M6 s2 aaN;intro jF hv;refine⟨λe=>(by cases e),λ_=>⟨λe=>(by cases e),λ_=>⟨λe=>absurd rfl e,λ_=>⟨λe=>absurd rfl e,λ_=>hv _ _ ?_⟩⟩⟩⟩;refine JT a0 fC cB (by omega) (by decide) λdm f3 hS a3 _ eC _=>?_;refine JT a3 fC cB (by omega) (by decide) λh6 f4 au4 a4 _ fy _=>?_;refine JT a4 fC cB (by omega) (by decide) λdN f5 xm a5 _ eJ _=>?_;have e3:xm.nx=none:=by rw[fy,eC,amT] at eJ;exact Option.map_eq_none_iff.1 eJ
 clear eC fy eJ a0 a3 a4;refine UA (hs:=[(1,1),(2,16)]) a5 (by omega) (by decide) (by kernel_rfl) λax h7 _ _ _ _ n4 _ yw YY=>?_;refine ao8 (R:=(6,2,0,0,0)) (.inr rfl) n4.is n4.ok fC (by omega) (by decide) (by kernel_rfl) (λah=>absurd rfl ah) (λ_ I=>absurd I.1 (by decide)) (λ_ _ I=>absurd e3 I) λ_ _ _ hC f7 adL Tl t7 YR sG _ ka Jp=>?_;have uA:um u hC f7 g adL 3 G6 3:=⟨Tl,YR,by rw[sG.S];exact n4.rows,by rw[sG.ao];exact n4.ao,by have:=n4.seq;unfold jo at this ⊢;rw[sG.S];exact this,by rw[sG.S];exact n4.safe⟩;have YZ:=YY.cL t7;rw[n4.rows.length_eq] at Jp;clear t7 Tl YR sG n4 e3 YY;obtain⟨axk,XP,_⟩:=Option.map_eq_some_iff.1 ka;refine aa2 uA.is uA.ok fC (by omega) (λI=>absurd I (by decide)) (λ_ I=>by rw[XP] at I;cases I) (λ_ p aa _ u8 f8 Mn Tm t8 YS ft yP _ K2=>?_) (λ_ p aa I=>absurd I (by rw[Jp];decide));have CO:um u u8 f8 g Mn 3 G6 3:=⟨Tm,YS,by rw[ft.S];exact uA.rows,by rw[ft.ao];exact uA.ao,by have:=uA.seq;unfold jo at this ⊢;rw[ft.S];exact this,by rw[ft.S];exact uA.safe⟩;have Y0:=YZ.cL t8;have rW:Mn.left.length=1:=by rw[yP,List.length_drop,Jp];rfl
 rw[ka] at K2;clear t8 Tm YS ft uA YZ yP Jp XP ka;refine JT CO fC cB (by omega) (by decide) λqs f9 au5 a9 t9 Gm Jq=>?_;have Y1:=Y0.cL t9;rw[K2] at Gm;have i8:Mn.nx.isSome=true:=by obtain⟨q,ay,_⟩:=Option.map_eq_some_iff.1 K2;rw[ay];rfl
 rw[rW,i8] at Jq;clear CO t9 Y0 K2 i8 rW;obtain⟨axm,XQ,_⟩:=Option.map_eq_some_iff.1 Gm;refine aa2 a9.is a9.ok fC (by omega) (λI=>absurd I (by decide)) (λ_ I=>by rw[XQ] at I;cases I) (λ_ p aa I=>absurd I (by rw[Jq];decide)) (λ_ p aa _ are agx adM Tn abP YT FO _ _=>?_);have Ut:um u are agx g adM 4 ad5 4:=⟨Tn,YT,by rw[FO.S];exact a9.rows,by rw[FO.ao];exact a9.ao,by have:=a9.seq;unfold jo at this ⊢;rw[FO.S];exact this,by rw[FO.S];exact a9.safe⟩;have Y2:=Y1.cL abP;clear Tn YT abP FO a9 Y1 Jq XQ Gm;refine UA (hs:=[(4,0)]) Ut (by omega) (by decide) (by kernel_rfl) λaxu ab3 _ _ _ _ He oE IZ _=>?_;have IY:iZ ab3 ax [((1:Int),(1:Int)),(2,16)]:=bb.else yw λx o I U=>((Y2.mono oE) x o I U).1;clear yw Y2 Ut;intro zG ahA;have fin:∀cF:Bool,cF=true->zG cF ab3:=λcF Z=>by
  rw[Z];refine ahA _ _ ⟨λ_=>⟨λ_=>⟨λ_=>⟨λ_=>⟨λ_=>⟨λ_=>⟨λ_=>⟨λ_=>⟨λ_=>?_,λah=>absurd (by rw[IZ.len];rfl) ah⟩,λe=>(by cases e)⟩,λe=>absurd rfl e⟩,λe=>(by cases e)⟩,λe=>absurd rfl e⟩,λe=>(by cases e)⟩,λe=>absurd rfl e⟩,λe=>absurd rfl e⟩,λe=>(by cases e)⟩;obtain⟨p,aa,x,I,c0,c1,c2⟩:=IZ.at (x:=0) (by omega) (by rw[IZ.len];decide);obtain rfl:x=(4,0):=by simpa using I.symm
  refine⟨_,aa,⟨by omega,by rw[IZ.len];decide⟩,_,c0,_,c1,_,c2,λ_=>?_,λah=>absurd ⟨rfl,rfl,rfl⟩ ah⟩;refine apb He.is He.ok (by omega) ?_;rw[He.safe];exact h _ (Q6 He)
 refine⟨λ_=>⟨λ_=>⟨λ_=>⟨λ_=>⟨λ_=>?_,λah=>absurd (by rw[IY.len];rfl) ah⟩,λe=>(by cases e)⟩,λe=>absurd rfl e⟩,λe=>absurd rfl e⟩,λe=>absurd rfl e⟩;obtain⟨p,aa,x,I,c0,c1,c2⟩:=IY.at (x:=1) (by omega) (by rw[IY.len];decide);obtain rfl:x=(2,16):=by simpa using I.symm
 refine⟨_,aa,⟨by omega,by rw[IY.len];decide⟩,_,c0,_,c1,_,c2,fin _ ?_⟩;exact decide_eq_true ⟨rfl,rfl,rfl⟩
end
end n2
def atI(bp bu cn dP hb hU Hc bF bK dt kf:Int)(qA qB:J)(rM CL CM:Int)(CN:ByteArray)(Hd:J)(u:H)(K:Bool->Q)(h:sm (Instr.buildSlice 56 1 #[(0,Value.agg #[ag bF,ag bK,ag dt,ag kf,vs qA,vs qB,ag rM,ag CL,ag CM,Value.string CN,vs Hd])]) aW u λ(a:J)b=>L7 a b λc d=>cW c (K true d) (Gw none bp bu cn dP hb hU Hc d λe f g=>fE Bool (λ_ i=>vA e kf qA i λ_ j k=>Lr e bK k λ_ l m=>Lt e bK m λ_ n o=>zp e qB rM CL CM o λp _ _ _ _ _ q r=>Cm e dt r λ_ s t=>L6 t λv w=>cW v (aA (j=3) (aA (l=3) (aA (n=3) (aA (q=3) (aA ((p.n:Int)=0) (aA (s=3) (Gt e CN w λx y=>aA (x=3) (Ls e y λz bw=>aA (z=3) (Tw e bw λbM bI=>aA (bM=3) (Gu e bI λbP b2 cm cp cU cg cV bq aK dR dB eo eH=>aA (bP=0/\b2=0/\cm=0/\cp=0/\cU=0/\cg=0/\cV=0/\bq=0/\aK=0/\dR=0/\dB=0/\eo=0) (Lu e eH λgA iF=>K (decide ((gA.n:Int)=0)) iF) (K false eH)) (K false bI)) (K false bw)) (K false y)) (K false w)) (K false w)) (K false w)) (K false w)) (K false w)) (K false w)) (K false w)) λi=>bt (e=none) (K false g) (bt (f=3) (K false g) (i false g)))):T2 bp bu cn dP hb hU Hc bF bK dt kf qA qB rM CL CM CN Hd u K:=aB [] Tryz.func7 [aK 15 [(4,.bool)]] h
namespace n2
section
variable{bm:World}{eE:Nat}{u:H}
structure vJ where
 kind:Int
 id:Int
 n:Int
 RR:Int
 tZ:J
 jR:J
 k:Int
 m:Int
 aQ:Int
 nW:ByteArray
 rs:J
def rY(o:vJ):List Value:=[.int .i64 o.kind,.int .i64 o.id,.int .i64 o.n,.int .i64 o.RR,.slice o.tZ.a o.tZ.n o.tZ.c,.slice o.jR.a o.jR.n o.jR.c,.int .i64 o.k,.int .i64 o.m,.int .i64 o.aQ,.string o.nW,.slice o.rs.a o.rs.n o.rs.c]
def HE(o:vJ):(rY o).length=11:=rfl
def Op.at{s:J}{l:List vJ}(h:bb u s 11 (l.flatMap rY)){x:Int}(h0:0<=x)(h1:x<(s.n:Int)):∃p,s.a=some p/\∃o,l[x.toNat]?=some o/\∀j v,(rY o)[j]?=some v->u.cell? ((p.add (x.toNat*11)).add j)=some v:=by
 have ac:=fx HE (by decide) h;have bh:x.toNat<l.length:=by omega
 obtain⟨p,aa,E⟩:=bb.elem HE (by decide) h (List.getElem?_eq_getElem bh);exact⟨p,aa,_,List.getElem?_eq_getElem bh,E⟩
def apN{s:J}{l:List vJ}{K:Bool->H->Prop}(h:bb u s 11 (l.flatMap rY))(h1:K true u)
  (h2:l.length<=200->(∀o∈l,o.tZ.n<=16384/\o.jR.n<=16384/\o.rs.n<=200/\o.nW.size<=16384)->K false u):L7 s u K:=by
 have ac:=fx HE (by decide) h
 apply atL
 refine⟨λ_=>h1,λhs=>?_⟩
 refine⟨λ_ i w=>w=u/\0<=i/\i<=l.length/\∀o∈l.take i.toNat,o.tZ.n<=16384/\o.jR.n<=16384/\o.rs.n<=200/\o.nW.size<=16384,λ_ i _=>l.length-i.toNat,⟨rfl,by omega,by omega,λo U=>by simp at U⟩,?_⟩
 rintro n i w ⟨rfl,i0,i1,N9⟩
 refine⟨λdC=>?_,λOX=>h2 (by omega) ?_⟩
 obtain⟨p,aa,o,U,E⟩:=Op.at h i0 dC
 have c0:=E 0 _ rfl
 rw[Addr.add_zero'] at c0
 intro jF hv
 refine⟨p,aa,⟨i0,dC⟩,_,c0,_,E 1 _ rfl,_,E 2 _ rfl,_,E 3 _ rfl,o.tZ,E 4 _ rfl,o.jR,E 5 _ rfl,_,E 6 _ rfl,_,E 7 _ rfl,_,E 8 _ rfl,_,E 9 _ rfl,o.rs,E 10 _ rfl,λ_=>h1,λg1=>⟨λ_=>h1,λg2=>⟨λ_=>h1,λg3=>⟨λ_=>h1,λg4=>hv _ _ ⟨?_,?_⟩⟩⟩⟩⟩
 have:=fx HE (by decide) h
 exact⟨by omega,by omega⟩
 refine⟨⟨rfl,by omega,by omega,λbn bG=>?_⟩,by dsimp only;omega⟩
 rw[show(i+1).toNat=i.toNat+1 by omega,List.take_add_one,U] at bG
 rcases List.mem_append.1 bG with bx|bx
 exact N9 bn bx
 simp at bx;subst bx;exact⟨by omega,by omega,by omega,by omega⟩
 rw[List.take_of_length_le (by omega)] at N9
 exact N9
def ae0(o:vJ):hF Tryz.prog 56 1 #[(0,.agg #[.int .i64 o.kind,.int .i64 o.id,.int .i64 o.n,.int .i64 o.RR,.slice o.tZ.a o.tZ.n o.tZ.c,.slice o.jR.a o.jR.n o.jR.c,.int .i64 o.k,.int .i64 o.m,.int .i64 o.aQ,.string o.nW,.slice o.rs.a o.rs.n o.rs.c])]=
  some (74,rY o):=by kernel_rfl
def alO{a b c d e f g:Int}{o:vJ}{K:Bool->H->Prop}(fC:ib u)(cB:lF u)(h:∀u',u.le u'->K true u'):
  T2 a b c d e f g o.kind o.id o.n o.RR o.tZ o.jR o.k o.m o.aQ o.nW o.rs u K:=by
 apply atI
 refine nU (ae0 o) λg N=>?_
 have b9:=bN (u:=u) (b:=g) (.cells (rY o).toArray 74 (0,0)) N
 have hO:bb (u.ins g (.cells (rY o).toArray 74 (0,0))) ⟨some ⟨g,0,none⟩,1,1⟩ 11 (([o]:List vJ).flatMap rY):=by have m:=aE.make (k:=11) (H.le.refl u) N (cells:=(rY o).toArray) (e:=74) (n:=1) (by omega) rfl;have:=m.own.bR;simpa using this
 refine apN hO ⟨λ_=>h _ b9,λe=>(by cases e)⟩ λ_ _=>⟨λe=>(by cases e),λ_=>?_⟩
 have nl:∀{A B:Prop},A->aA ((none:Option Addr)=none) A B:=λdv=>⟨λ_=>dv,λe=>absurd rfl e⟩
 have yes:∀{c A B:Prop},c->A->aA c A B:=λE dv=>⟨λ_=>dv,λe=>absurd E e⟩
 refine acs _ _ _ _ _ _ _ _ _ _ (nl λjF hv=>⟨λe=>absurd rfl e,λ_=>⟨λe=>absurd rfl e,λ_=>hv _ _ ?_⟩⟩)
 refine acm _ _ _ _ _ (nl (aci _ _ _ _ (nl (ack _ _ _ _ (nl (acn _ _ _ _ _ _ _ (nl (acr _ _ _ _ (nl ?_)))))))))
 refine apf (fC.mono b9) (cB.mono b9) λu' cZ=>⟨λ_=>yes rfl (yes rfl (yes rfl (yes rfl (yes rfl (yes rfl ?_))))),λe=>(by cases e)⟩
 refine aco _ _ _ _ (nl (yes rfl (acj _ _ _ (nl (yes rfl (arY _ _ _ (nl (yes rfl (acq _ _ _ (nl (yes ⟨rfl,rfl,rfl,rfl,rfl,rfl,rfl,rfl,rfl,rfl,rfl,rfl⟩ (acp _ _ _ (nl ?_)))))))))))))
 exact(show ∀cF:Bool,cF=true->K cF u' from λcF Z=>by rw[Z];exact h u' (b9.trans cZ)) _ (decide_eq_true rfl)
open Go.ChangeShapes Go.WideShapes Go.ChangeAt Go.RowKit
def afr:Tryz.prog.cellsOf 74=11:=by kernel_rfl
def afo:Tryz.prog.cellsOf 55=7:=by kernel_rfl
def afp:Tryz.prog.cellsOf 44=1:=by kernel_rfl
def afq:Tryz.prog.cellsOf 67=1:=by kernel_rfl
def afu:Tryz.prog.cellsOf 9=1:=by kernel_rfl
def aft:Tryz.prog.cellsOf 46=4:=by kernel_rfl
def afs:Tryz.prog.cellsOf 69=4:=by kernel_rfl
section
variable {pH:Type} {enc:TypeId×Value->pH}
def am1{cs:Array Value}{x:DataW pH×List MemPlace}(h:DataW.trod enc Tryz.prog bm 0 (λ_=>true) true eE 55 cs.toList=some x):
  ∃RS ii a b c d s:Int,cS s/\cs=#[.int .i64 RS,.int .i64 ii,.int .i64 a,.int .i64 b,.int .i64 c,.int .i64 d,.int .u64 s]:=by
 obtain⟨cM,k,_,mx,hlen,yG,N⟩:=DataW.trod_struct Tryz.underlying55 h
 rw[afo] at hlen
 obtain⟨cl⟩:=cs
 change cl.length=7 at hlen
 match cM,yG,cl,hlen with
 | [iA,e4,fm,h8],_,[v0,v1,v2,v3,v4,v5,v6],_=>
  have Y:DataW.trod enc Tryz.prog bm 0 (λ_=>true) true k 3 (([v0,v1,v2,v3,v4,v5,v6].drop 0).take (Tryz.prog.cellsOf 3))=some iA:=N 0 _ rfl;have aI:DataW.trod enc Tryz.prog bm 0 (λ_=>true) true k 3 (([v0,v1,v2,v3,v4,v5,v6].drop 1).take (Tryz.prog.cellsOf 3))=some e4:=N 1 _ rfl;have bE:DataW.trod enc Tryz.prog bm 0 (λ_=>true) true k 46 (([v0,v1,v2,v3,v4,v5,v6].drop 2).take (Tryz.prog.cellsOf 46))=some fm:=N 2 _ rfl;have dm:DataW.trod enc Tryz.prog bm 0 (λ_=>true) true k 24 (([v0,v1,v2,v3,v4,v5,v6].drop 6).take (Tryz.prog.cellsOf 24))=some h8:=N 3 _ rfl;simp only[aft,afl,zV,List.drop,List.take] at Y aI bE dm;obtain⟨n0,d0,_,_⟩:=DataW.trod_int Tryz.underlying3 Y;obtain⟨cb,d1,_,_⟩:=DataW.trod_int Tryz.underlying3 aI;obtain⟨xs,n,_,_,_,gm,M⟩:=DataW.trod_struct Tryz.underlying46 bE
  match xs,gm with
  | [z0,fz,z2,z3],_=>
   have f0:DataW.trod enc Tryz.prog bm 0 (λ_=>true) true n 44 (([v2,v3,v4,v5].drop 0).take (Tryz.prog.cellsOf 44))=some z0:=M 0 _ rfl;have f1:DataW.trod enc Tryz.prog bm 0 (λ_=>true) true n 3 (([v2,v3,v4,v5].drop 1).take (Tryz.prog.cellsOf 3))=some fz:=M 1 _ rfl;have f2:DataW.trod enc Tryz.prog bm 0 (λ_=>true) true n 3 (([v2,v3,v4,v5].drop 2).take (Tryz.prog.cellsOf 3))=some z2:=M 2 _ rfl;have f3:DataW.trod enc Tryz.prog bm 0 (λ_=>true) true n 3 (([v2,v3,v4,v5].drop 3).take (Tryz.prog.cellsOf 3))=some z3:=M 3 _ rfl;simp only[afp,zV,List.drop,List.take] at f0 f1 f2 f3;obtain⟨m0,dH,_,_⟩:=DataW.trod_int Tryz.underlying44 f0;obtain⟨m1,aO,_,_⟩:=DataW.trod_int Tryz.underlying3 f1;obtain⟨m2,ar,_,_⟩:=DataW.trod_int Tryz.underlying3 f2;obtain⟨m3,cq,_,_⟩:=DataW.trod_int Tryz.underlying3 f3;obtain⟨m4,eD,_,lA⟩:=DataW.trod_int Tryz.underlying24 dm;simp only[List.cons.injEq,and_true] at d0 d1 dH aO ar cq eD;subst d0 d1 dH aO ar cq eD;refine⟨n0,cb,m0,m1,m2,m3,m4,?_,rfl⟩;simp only[Lit.wf,Bool.and_eq_true,decide_eq_true_eq] at lA;have g1:IntKind.min .u64=0:=by decide
   have g2:IntKind.max .u64=18446744073709551615:=by decide
   rw[g1,g2] at lA;exact⟨lA.1,by omega⟩
def afx{v w:Value}{x:DataW pH×List MemPlace}(h:DataW.trod enc Tryz.prog bm 0 (λ_=>true) true eE 34 [v,w]=some x):∃(i:Int) (s:J),v=.int .i64 i/\w=.slice s.a s.n s.c:=by obtain⟨iA,e4,k,mx,hlen,Y,aI⟩:=trod_struct2 Tryz.underlying34 h;simp only[zV,MU,List.drop,List.take] at Y aI;obtain⟨q,dH,_,_⟩:=DataW.trod_int Tryz.underlying3 Y;simp only[List.cons.injEq,and_true] at dH;obtain⟨s,aO⟩:=cells_one aI;exact⟨q,s,dH,aO⟩
def afw{v0 v1 v2 v3:Value}{x:DataW pH×List MemPlace}(h:DataW.trod enc Tryz.prog bm 0 (λ_=>true) true eE 69 [v0,v1,v2,v3]=some x):∃(s:J) (k m b:Int),v0=.slice s.a s.n s.c/\v1=.int .i64 k/\v2=.int .i64 m/\v3=.int .i64 b:=by
 obtain⟨xs,n,_,_,_,gm,M⟩:=DataW.trod_struct Tryz.underlying69 h
 match xs,gm with
 | [z0,fz,z2,z3],_=>have f0:DataW.trod enc Tryz.prog bm 0 (λ_=>true) true n 23 (([v0,v1,v2,v3].drop 0).take (Tryz.prog.cellsOf 23))=some z0:=M 0 _ rfl;have f1:DataW.trod enc Tryz.prog bm 0 (λ_=>true) true n 3 (([v0,v1,v2,v3].drop 1).take (Tryz.prog.cellsOf 3))=some fz:=M 1 _ rfl;have f2:DataW.trod enc Tryz.prog bm 0 (λ_=>true) true n 67 (([v0,v1,v2,v3].drop 2).take (Tryz.prog.cellsOf 67))=some z2:=M 2 _ rfl;have f3:DataW.trod enc Tryz.prog bm 0 (λ_=>true) true n 3 (([v0,v1,v2,v3].drop 3).take (Tryz.prog.cellsOf 3))=some z3:=M 3 _ rfl;simp only[afq,zV,MU,List.drop,List.take] at f0 f1 f2 f3;obtain⟨s,dH⟩:=cells_one f0;obtain⟨m1,aO,_,_⟩:=DataW.trod_int Tryz.underlying3 f1;obtain⟨m2,ar,_,_⟩:=DataW.trod_int Tryz.underlying67 f2;obtain⟨m3,cq,_,_⟩:=DataW.trod_int Tryz.underlying3 f3;simp only[List.cons.injEq,and_true] at aO ar cq;exact⟨s,m1,m2,m3,dH,aO,ar,cq⟩
def afv{cs:List Value}{x:DataW pH×List MemPlace}(h:DataW.trod enc Tryz.prog bm 0 (λ_=>true) true eE 74 cs=some x):∃o:vJ,cs=rY o:=by
 obtain⟨xs,n,_,mx,hlen,gm,M⟩:=DataW.trod_struct Tryz.underlying74 h;rw[afr] at hlen
 match xs,gm,cs,hlen with
 | [iA,e4,fm,h8,mH,zl,K3],_,[v0,v1,v2,v3,v4,v5,v6,vv,pG,v9,v10],_=>have f0:DataW.trod enc Tryz.prog bm 0 (λ_=>true) true n 3 (([v0,v1,v2,v3,v4,v5,v6,vv,pG,v9,v10].drop 0).take (Tryz.prog.cellsOf 3))=some iA:=M 0 _ rfl;have f1:DataW.trod enc Tryz.prog bm 0 (λ_=>true) true n 3 (([v0,v1,v2,v3,v4,v5,v6,vv,pG,v9,v10].drop 1).take (Tryz.prog.cellsOf 3))=some e4:=M 1 _ rfl;have f2:DataW.trod enc Tryz.prog bm 0 (λ_=>true) true n 3 (([v0,v1,v2,v3,v4,v5,v6,vv,pG,v9,v10].drop 2).take (Tryz.prog.cellsOf 3))=some fm:=M 2 _ rfl;have f3:DataW.trod enc Tryz.prog bm 0 (λ_=>true) true n 34 (([v0,v1,v2,v3,v4,v5,v6,vv,pG,v9,v10].drop 3).take (Tryz.prog.cellsOf 34))=some h8:=M 3 _ rfl;have f4:DataW.trod enc Tryz.prog bm 0 (λ_=>true) true n 69 (([v0,v1,v2,v3,v4,v5,v6,vv,pG,v9,v10].drop 5).take (Tryz.prog.cellsOf 69))=some mH:=M 4 _ rfl;have f5:DataW.trod enc Tryz.prog bm 0 (λ_=>true) true n 9 (([v0,v1,v2,v3,v4,v5,v6,vv,pG,v9,v10].drop 9).take (Tryz.prog.cellsOf 9))=some zl:=M 5 _ rfl;have f6:DataW.trod enc Tryz.prog bm 0 (λ_=>true) true n 23 (([v0,v1,v2,v3,v4,v5,v6,vv,pG,v9,v10].drop 10).take (Tryz.prog.cellsOf 23))=some K3:=M 6 _ rfl;simp only[zV,MU,afn,afs,afu,List.drop,List.take] at f0 f1 f2 f3 f4 f5 f6;obtain⟨ZT,dH,_,_⟩:=DataW.trod_int Tryz.underlying3 f0;obtain⟨cC,aO,_,_⟩:=DataW.trod_int Tryz.underlying3 f1;obtain⟨cz,ar,_,_⟩:=DataW.trod_int Tryz.underlying3 f2;obtain⟨anY,rs,cq,eD⟩:=afx f3;obtain⟨jR,k,m,b,e6,ob,tc,rW⟩:=afw f4;obtain⟨t,HB,_,_⟩:=DataW.trod_string Tryz.underlying9 f5;obtain⟨bZ,C4⟩:=cells_one f6;simp only[List.cons.injEq,and_true] at dH aO ar HB;subst dH aO ar cq eD e6 ob tc rW HB C4;exact⟨⟨ZT,cC,cz,anY,rs,jR,k,m,b,t,bZ⟩,rfl⟩
end
def alM:(Rows.laid_math_bits_deBruijn64tab:DataW Unit)=Lib.tabData .u8 (Lib.deBruijn64tab.map Int.ofNat):=by kernel_rfl
def alL:(Rows.laid_internal_strconv_uint64pow10:DataW Unit)=Lib.tabData .u64 Lib.pow10Tab:=by kernel_rfl
abbrev alK:List (String×DataW Unit):=[("math/bits.deBruijn32tab",Rows.laid_math_bits_deBruijn32tab),("math/bits.deBruijn64tab",Rows.laid_math_bits_deBruijn64tab),("internal/strconv.uint64pow10",Rows.laid_internal_strconv_uint64pow10),("strconv.ErrRange",Rows.laid_strconv_ErrRange),("strconv.ErrSyntax",Rows.laid_strconv_ErrSyntax)]
theorem abT(h:laidMetH Tryz.prog alK bm):ib (whole bm)/\lF (whole bm):=by
 rw[MakeChecks.laidMetH_plain _ _ _ (by kernel_rfl)] at h;have h1:laidMet Tryz.prog [("math/bits.deBruijn64tab",Rows.laid_math_bits_deBruijn64tab)] bm:=h.filter λx=>x.1== "math/bits.deBruijn64tab";have h2:laidMet Tryz.prog [("internal/strconv.uint64pow10",Rows.laid_internal_strconv_uint64pow10)] bm:=h.filter λx=>x.1== "internal/strconv.uint64pow10";rw[alM] at h1;rw[alL] at h2;have t1:=Lib.tabIs_of_head (g:=2) (by kernel_rfl) (by kernel_rfl) Tryz.underlying419 Tryz.underlying5 (by kernel_rfl) (by kernel_rfl) h1;have t2:=Lib.tabIs_of_head (g:=3) (by kernel_rfl) (by kernel_rfl) Tryz.underlying454 Tryz.underlying24 (by kernel_rfl) (by kernel_rfl) h2;refine⟨λw hw j aH=>?_,λw hw=>?_⟩;have E:=Lib.TabIs.cell t1 (g:=2) (by kernel_rfl) j (by grind);rw[<-auI] at E;have:=hw.cell E
 grind
 unfold Lib.TabIs World.var? at t2 ⊢;obtain⟨g,N,h3⟩:=Option.bind_eq_some_iff.1 t2;rw[N];show(match w.heap[g]? with|some (.cells cs _ _)=>some cs|_=>none)=_;cases U:bm.heap[g]? with
 |none=>rw[U] at h3;cases h3
 |some o=>rw[U] at h3;rw[hw g o U];exact h3
end
end n2
