/- Texts of mine, joined and packed by pack.py. -/
import Derived.Test.YtejdhbfjjgcljaaGreatDoorMra8
import Derived.Test.YtejdhbfjjgcljaaGreatDoorRows
import Derived.Deep.Strs
import Derived.Lib.LaidTab
import Derived.LaidMore
import Derived.Lay
import Derived.SevenTiedAt
set_option linter.all false
open _root_ renaming Nat->N,List->M,Option->ay,Array->cw,Int->o,Bool->aK,absurd->aW,Inhabited->lN
open Go renaming Value->ap,World->b7,TypeId->dJ,Addr->bc,reachBytes->qO
open Bool renaming true->ak,false->ax,false->tx
open List renaming range->lM,drop->Lj
open Go.Proofs.Tryz renaming prog->aH
open Go.Value renaming int->cY,oneCell'->cT
open List.Perm renaming cons->kc,trans->wy
open Go.DataW renaming weightsAll->HJ,trod->p5,weights->HK
open Int renaming toNat->wC
open Go.IntKind renaming min->HS,max->HT
open Go.Proofs.YtejdhbfjjgcljaaGreatDoor.Rows renaming laid_math_bits_deBruijn64tab->akQ
set_option maxRecDepth 100000
noncomputable section
namespace Go.Proofs.YtejdhbfjjgcljaaGreatDoor
section
variable{u ai ub u':H}{D:N->Prop}{b n fO:N}{L l:M az}{t s:U}{d A B E F eJ:o}{K:aK->H->Prop}{P:M tO}{bd:b7}{X:cD}
def cD.Rx:cD->M o->o->o->M bO
 | .nY X=>kR.il X| .aZ X=>lS.il X| .nu X=>j1.il X| .ae X=>eE.il X| .cZ X=>hd.il X
def cD.q4:cD->M o->o->o->M o
 | .nY X=>kR.fU X| .aZ X=>lS.fU X| .nu X=>j1.fU X| .ae X=>λq _ bud=>eE.fU X q bud| .cZ X=>hd.fU X
def cD.WJ:cD->M o->o->o->M (o×o×M o×M o×M o)
 | .nY X=>kR.jF X| .aZ X=>lS.jF X| .nu X=>j1.jF X| .ae X=>λq _ bud=>eE.jF X q bud| .cZ X=>hd.jF X
def cD.ids(h:X.c4 ai u D b):(X.rows.map (·.1)).Nodup:=by
 cases X with
 |nY X=>obtain⟨af,h1,h2,h3⟩:=e1.ex h;exact h2.aI.rT
 |aZ X=>obtain⟨af,h1,h2,h3⟩:=e1.ex h;exact h2.aI.rT
 |nu X=>obtain⟨af,h1,h2,h3⟩:=e1.ex h;rw[show(cD.nu X).rows=j1.aR X from rfl,j1.abl];exact h3.nodup
 |ae X=>obtain⟨af,h1,h2,h3⟩:=e1.ex h;rw[show(cD.ae X).rows=eE.e5 X.g from rfl,eE.ty];exact(eE.Hi h2).aI.nodup
 |cZ X=>obtain⟨af,h1,h2,h3⟩:=e1.ex h;rw[show(cD.cZ X).rows=hd.aR X from rfl,hd.nv];exact h2.aI.rT
def cD.Vg(h:X.c4 ai u D b)(Z:X.rows.length<=512)(ad:(L.map az.bz).Perm X.rows):hD L X.an:=by
 have ae:=ad.length_eq;rw[de] at ae;have aw:(L.map (·.id)).Nodup:=by rw[oE,(ad.map (·.1)).nodup_iff];exact cD.ids h
 have fin:(1<=X.an/\X.an<=64)->(∀p∈X.rows,1<=p.1/\p.1<=1000000000/\(p.2.length:o)=X.an/\dj p.2)->hD L X.an:=λh1 h2=>Ek h1 (by omega) aw λp hm=>h2 p (ad.mem_iff.1 hm);cases X with
 |nY X=>obtain⟨af,h1,h2,h3⟩:=e1.ex h;exact fin h3.hl λp hm=>by obtain⟨e,he,rfl⟩:=bf.1 hm;exact⟨(h3.ids e he).1,(h3.ids e he).2,h3.vec e he⟩
 |aZ X=>obtain⟨af,h1,h2,h3⟩:=e1.ex h;exact fin h3.hl λp hm=>by obtain⟨e,he,rfl⟩:=bf.1 hm;exact⟨(h3.ids e he).1,(h3.ids e he).2,h3.vec e he⟩
 |nu X=>obtain⟨af,h1,h2,h3⟩:=e1.ex h;exact fin h3.hl λp hm=>by obtain⟨r,O,rfl⟩:=bf.1 hm;obtain⟨l,ar,dG⟩:=ej.1 O;exact⟨(h3.ids l ar r dG).1,(h3.ids l ar r dG).2,h3.vec l ar r dG⟩
 |ae X=>obtain⟨af,h1,h2,h3⟩:=e1.ex h;exact fin h3.k.ok.hl λp hm=>by obtain⟨e,he,rfl⟩:=bf.1 hm;exact⟨(h3.k.ok.ids e he).1,(h3.k.ok.ids e he).2,h3.k.ok.vec e he⟩
 |cZ X=>obtain⟨af,h1,h2,h3⟩:=e1.ex h;exact fin h3.hl λp hm=>by obtain⟨e,he,rfl⟩:=bf.1 hm;exact⟨(h3.ids e he).1,(h3.ids e he).2,h3.vec e he⟩
def cD.sound(h:X.c4 ai u D b){q:M o}{k bud:o}(he:gE q X.an k bud=0)(cX:(L.map az.bz).Perm X.rows)(aN:kk L q){rest:M cn}(O:rest.map cn.core=X.WJ q k bud):
  Sound L q k (X.Rx q k bud) (X.q4 q k bud) rest/\((X.q4 q k bud).length:o)<=bud/\(((X.q4 q k bud).length:o)=bud∨(X.q4 q k bud).length=L.length∨Aj q k (X.Rx q k bud) rest):=by
 obtain⟨aA,b3,_,gd,_⟩:=w3.1 he
 have aw:=(oh aA).2.2.1
 cases X with
 |nY X=>obtain⟨af,h1,h2,h3⟩:=e1.ex h;exact kR.QT h3 b3 gd aw cX aN O
 |aZ X=>obtain⟨af,h1,h2,h3⟩:=e1.ex h;exact lS.QT h3 b3 gd aw cX aN O
 |nu X=>obtain⟨af,h1,h2,h3⟩:=e1.ex h;exact j1.QT h3 b3 gd aw cX aN O
 |ae X=>obtain⟨af,h1,h2,h3⟩:=e1.ex h;obtain⟨s1,s2,k8⟩:=eE.ajP (D:=D) (b:=b) ⟨af,h1,eE.Hi h2,h3⟩ he cX aN O;exact⟨s1,s2,k8.imp id .inl⟩
 |cZ X=>obtain⟨af,h1,h2,h3⟩:=e1.ex h;obtain⟨s1,s2,k8⟩:=hd.sound h2.aI.rT gd cX aN O;exact⟨s1,s2,k8.imp id .inl⟩
def cD.spec.Search{q:M o}{k bud:o}{K:U->U->U->o->H->Prop}(h:X.c4 ai u D b)(iC:X.eV<=2700)(ht:Ints u t q)
  (di:gE q X.an k bud≠0->∀u',u.le u'->K ⟨none,0,0⟩ ⟨none,0,0⟩ ⟨none,0,0⟩ (gE q X.an k bud) u')
  (bE:gE q X.an k bud=0->∀aD ss sr rest u',jQ u u' aD ss sr (X.Rx q k bud) (X.q4 q k bud) rest->rest.map cn.core=X.WJ q k bud->K aD ss sr 0 u'):
  mX aH (X.iface b) "Search" #[.slice t.a t.n t.c,.int .i64 k,.int .i64 bud] [.agg [.slice,.slice,.slice],.one (.int .i64)] u K:=by
 cases X with
 |nY X=>obtain⟨af,h1,h2,h3⟩:=e1.ex h;exact lg (f:=255) (by kernel_rfl) Q0 (by kernel_rfl) (kR.spec.Search h2 h3 iC ht (λal=>di al u (H.le.refl u)) bE)
 |aZ X=>obtain⟨af,h1,h2,h3⟩:=e1.ex h;exact lg (f:=275) (by kernel_rfl) Q2 (by kernel_rfl) (lS.spec.Search h2 h3 iC ht (λal=>di al u (H.le.refl u)) bE)
 |nu X=>obtain⟨af,h1,h2,h3⟩:=e1.ex h;exact lg (f:=283) (by kernel_rfl) QZ (by kernel_rfl) (j1.spec.Search h2 h3 ht (λal=>di al u (H.le.refl u)) bE)
 |ae X=>obtain⟨af,h1,h2,h3⟩:=e1.ex h;exact lg (f:=291) (by kernel_rfl) QY (by kernel_rfl) (eE.spec.Dy (eE.Hi h2) h3 ht di λhe aD ss sr jY u' aE=>bE he aD ss sr _ u' aE (eE.alh jY X q bud))
 |cZ X=>
  obtain⟨af,h1,h2,h3⟩:=e1.ex h;cases e:X.cd with
  |none=>rw[cD.Kr e];exact lg (f:=309) (by kernel_rfl) Q1 (by kernel_rfl) (hd.spec.azD h2 h3 e ht di bE)|some c=>rw[cD.Kq e];exact lg (f:=312) (by kernel_rfl) amP (by kernel_rfl) (hd.spec.aoZ h2 h3 e ht di bE)
def aQ.an(X:aQ):o:=X.X.an
def aQ.bY(_:aQ):o:=0
def aR(X:aQ):M tO:=X.X.rows
def il(X:aQ)(q:M o)(k bud:o):M bO:=X.X.Rx q k bud
def fU(X:aQ)(q:M o)(k bud:o):M o:=X.X.q4 q k bud
def jF(X:aQ)(q:M o)(k bud:o):M (o×o×M o×M o×M o):=X.X.WJ q k bud
abbrev jr(l:M az)(an A B E F:o):o:=yK l an A B E F
def iF(X:aQ):N:=X.X.eV
abbrev jB(u:H):Prop:=eE.jB u
def jB.mono(h:jB u)(hu:u.le u'):jB u':=eE.jB.mono h hu
def c4.base{X:aQ}(h:c4 ai u D b X):ai.le u/\(∀c,D c->ai c=none)/\∀c,D c->u c≠none:=by obtain⟨ki,h1,_,h3,a7,bK⟩:=h.ex;obtain⟨b3,cu,jW⟩:=cD.base bK;refine⟨b3,λc I=>?_,λc I=>?_⟩;rcases(h1 c).1 I with rfl|I;exact h3;exact cu c I;rcases(h1 c).1 I with rfl|I;rw[a7];simp;exact jW c I
def c4.same{X:aQ}(h:c4 ai u D b X)(hu:∀c z,u c=some z->D c->u' c=some z)(hle:ai.le u'):c4 ai u' D b X:=by obtain⟨ki,h1,h2,h3,a7,bK⟩:=h.ex;exact⟨ki,h1,h2,h3,hu _ _ a7 ((h1 b).2 (.inl rfl)),cD.same bK (λc z I aw=>hu c z I ((h1 c).2 (.inr aw))) hle⟩
def c4.mono{X:aQ}(h:c4 ai u D b X)(hu:u.le u'):c4 ai u' D b X:=h.same (λc z I _=>hu c z I) (h.base.1.trans hu)
def c4.l3{v:H}{X:aQ}(h:c4 ai u D b X)(aA:v.le ai):c4 v u D b X:=by obtain⟨ki,h1,h2,h3,a7,bK⟩:=h.ex;exact⟨ki,h1,h2,aA.none h3,a7,cD.l3 bK aA⟩
def c4.Vj{X:aQ}(h:c4 ai u D b X):((aR X).map (·.1)).Nodup:=by obtain⟨ki,_,_,_,_,bK⟩:=h.ex;exact cD.ids bK
def c4.eP{qj ki:N->Prop}{X:aQ}{kl:cD}(h1:∀c,D c↔c=b∨ki c)(h2:¬ki b)(h3:ai b=none)(a7:u b=some X.obj)(is:kl.c4 ai u' qj X.dR)(t:gD u ki u' qj)(ht:kl.fw=X.X.fw):
  c4 ai u' (λc=>c=b∨qj c) b {X with X:=kl}/\gD u D u' λc=>c=b∨qj c:=by
 have ab:¬qj b:=λaw=>by rcases t.grow b aw with h|h;exact h2 h;rw[a7] at h;cases h
 refine⟨⟨qj,λ_=>BS,ab,h3,?_,is⟩,λc z I aw=>t.bN c z I λh=>aw ((h1 c).2 (.inr h)),λc I=>?_⟩
 rw[t.bN _ _ a7 h2]
 unfold aQ.obj cD.iface
 simp only[ht]
 rcases I with rfl|I
 exact .inl ((h1 c).2 (.inl rfl))
 exact(t.grow c I).imp (λh=>(h1 c).2 (.inr h)) id
def spec.DP{X:aQ}{K:o->H->Prop}(h:c4 ai u D b X)(au:K (aR X).length u):C.rW (some ⟨b,0,none⟩) u K:=by obtain⟨ki,_,_,_,a7,bK⟩:=h.ex;apply aG.rW;exact⟨λe=>(by cases e),λ_=>⟨_,rfl,_,H.ba a7 4,cD.spec.An bK au⟩⟩
def spec.O9{X:aQ}{K:U->H->Prop}(h:c4 ai u D b X)(au:∀s ls u',rU u u' s ls->(ls.map az.bz).Perm (aR X)->(ls.Pairwise λa b=>a.id<=b.id)->K s u'):C.AA (some ⟨b,0,none⟩) u K:=by obtain⟨ki,_,_,_,a7,bK⟩:=h.ex;apply aG.AA;exact⟨λe=>(by cases e),λ_=>⟨_,rfl,_,H.ba a7 4,cD.spec.Rows bK au⟩⟩
def spec.ajN{X:aQ}{id:o}{q:M o}{K:aK->o->H->Prop}(h:c4 ai u D b X)(iC:iF X<=2700)(e2:jB ai)(ht:Ints u t q)(fi:(∀g,t.aj=some g->¬D g)∨Ints ai t q)
  (di:fu id q X.an (decide (id∈(aR X).map (·.1))) (aR X).length≠0->K ax (fu id q X.an (decide (id∈(aR X).map (·.1))) (aR X).length) u)
  (bE:fu id q X.an (decide (id∈(aR X).map (·.1))) (aR X).length=0->∀u' dZ cC,c4 ai u' dZ b cC->gD u D u' dZ->(aR cC).Perm ((id,q)::(aR X).filter λx=>x.1 !=id)->cC.an=X.an->cC.bY=X.bY->iF cC<=iF X+1->K (decide (id∉(aR X).map (·.1))) 0 u'):
  C.vp (some ⟨b,0,none⟩) id t u K:=by
 obtain⟨ki,h1,h2,h3,a7,bK⟩:=h.ex
 apply aG.vp
 refine⟨λe=>(by cases e),λ_=>⟨_,rfl,_,H.ba a7 4,cD.spec.CJ bK iC e2 ht (fi.imp (λh g W aw=>h g W ((h1 g).2 (.inr aw))) λh=>h) di λhe u' dZ kl i1 i2 i3 i4 i5 i6=>?_⟩⟩
 obtain⟨js,GV⟩:=c4.eP h1 h2 h3 a7 i1 i2 i5
 exact bE he u' _ _ js GV i3 i4 rfl i6
def spec.abm{X:aQ}{id:o}{q:M o}{K:aK->o->H->Prop}(h:c4 ai u D b X)(iC:iF X<=2700)(e2:jB ai)(ht:Ints u t q)(fi:∀g,t.aj=some g->¬D g)
  (di:fu id q X.an (decide (id∈(aR X).map (·.1))) (aR X).length≠0->K ax (fu id q X.an (decide (id∈(aR X).map (·.1))) (aR X).length) u)
  (bE:fu id q X.an (decide (id∈(aR X).map (·.1))) (aR X).length=0->∀u' dZ cC,c4 ai u' dZ b cC->gD u D u' dZ->(aR cC).Perm ((id,q)::(aR X).filter λx=>x.1 !=id)->cC.an=X.an->cC.bY=X.bY->iF cC<=iF X+1->K (decide (id∉(aR X).map (·.1))) 0 u'):
  C.vp (some ⟨b,0,none⟩) id t u K:=spec.ajN h iC e2 ht (.inl fi) di bE
def spec.O8{X:aQ}{id:o}{q:M o}{K:aK->o->H->Prop}(h:c4 ai u D b X)(iC:iF X<=2700)(e2:jB ai)(ht:Ints ai t q)
  (di:fu id q X.an (decide (id∈(aR X).map (·.1))) (aR X).length≠0->K ax (fu id q X.an (decide (id∈(aR X).map (·.1))) (aR X).length) u)
  (bE:fu id q X.an (decide (id∈(aR X).map (·.1))) (aR X).length=0->∀u' dZ cC,c4 ai u' dZ b cC->gD u D u' dZ->(aR cC).Perm ((id,q)::(aR X).filter λx=>x.1 !=id)->cC.an=X.an->cC.bY=X.bY->iF cC<=iF X+1->K (decide (id∉(aR X).map (·.1))) 0 u'):
  C.vp (some ⟨b,0,none⟩) id t u K:=spec.ajN h iC e2 (ht.mono h.base.1) (.inr ht) di bE
def spec.O7{X:aQ}{id:o}{K:aK->o->H->Prop}(h:c4 ai u D b X)(iC:iF X<=2700)(dV:id∉(aR X).map (·.1)->∀u',u.le u'->K ax 0 u')
  (kz:id∈(aR X).map (·.1)->∀u' dZ cC,c4 ai u' dZ b cC->gD u D u' dZ->aR cC=(aR X).filter (λx=>x.1 !=id)->cC.an=X.an->cC.bY=X.bY->iF cC<=iF X->K ak 0 u'):C.E0 (some ⟨b,0,none⟩) id u K:=by
 obtain⟨ki,h1,h2,h3,a7,bK⟩:=h.ex
 apply aG.E0
 refine⟨λe=>(by cases e),λ_=>⟨_,rfl,_,H.ba a7 4,cD.spec.vk bK iC dV λhm u' dZ kl i1 i2 i3 i4 i5 i6=>?_⟩⟩
 obtain⟨js,GV⟩:=c4.eP h1 h2 h3 a7 i1 i2 i5
 exact kz hm u' _ _ js GV i3 i4 rfl i6
def spec.GU{X:aQ}{q:M o}{k bud:o}{K:U->U->U->o->H->Prop}(h:c4 ai u D b X)(iC:iF X<=2700)(ht:Ints u t q)
  (di:gE q X.an k bud≠0->∀u',u.le u'->K ⟨none,0,0⟩ ⟨none,0,0⟩ ⟨none,0,0⟩ (gE q X.an k bud) u')
  (bE:gE q X.an k bud=0->∀aD ss sr rest u',jQ u u' aD ss sr (il X q k bud) (fU X q k bud) rest->rest.map cn.core=jF X q k bud->K aD ss sr 0 u'):C.rX (some ⟨b,0,none⟩) t k bud u K:=by
 obtain⟨ki,_,_,_,a7,bK⟩:=h.ex
 apply aG.rX
 exact⟨λe=>(by cases e),λ_=>⟨_,rfl,_,H.ba a7 4,cD.spec.Search bK iC ht di bE⟩⟩
def spec.zj{an:o}{K:ay bc->o->H->Prop}(ag:en u s l)(e2:jB u)(xi:dh eJ)
  (di:jr l an A B E F≠0->K none (jr l an A B E F) u) (bE:jr l an A B E F=0->∀b D X u',c4 u u' D b X->(aR X).Perm (l.map az.bz)->X.an=an->(X.k=A/\X.s=B/\X.p=E/\X.c=F)->iF X=0->K (some ⟨b,0,none⟩) 0 u'):C.yq s an A B E F eJ u K:=by
 refine io.weaken (ss:=[.one .ptr,.one (.int .i64)]) ?_
 apply aG.yq
 exact spec.E1 ag e2 xi (λal _ l=>⟨u,l,di al⟩) λhe b D X u' hF O aw h1 h2 h3 a7 W=>⟨u',H.le.refl u',bE he b D X u' hF O aw ⟨h1,h2,h3,a7⟩ W⟩
def abn{X:aQ}(h:c4 ai u D b X){q:M o}{k bud:o}(he:gE q X.an k bud=0)(cX:(L.map az.bz).Perm (aR X))(aN:kk L q){rest:M cn}(O:rest.map cn.core=jF X q k bud):
  Sound L q k (il X q k bud) (fU X q k bud) rest/\((fU X q k bud).length:o)<=bud/\(((fU X q k bud).length:o)=bud∨(fU X q k bud).length=L.length∨Aj q k (il X q k bud) rest):=by
 obtain⟨ki,_,_,_,_,bK⟩:=h.ex
 exact cD.sound bK he cX aN O
def TX{X:aQ}(h:c4 ai u D b X)(Z:(aR X).length<=512)(ad:(L.map az.bz).Perm (aR X)):hD L X.an:=by obtain⟨ki,_,_,_,_,bK⟩:=h.ex;exact cD.Vg bK Z ad
def abk(h:jr l d A B E F=0):hD l d:=by unfold jr yK at h;by_cases h1:yo A B E F≠0;rw[a1 h1] at h;exact aW h h1;rw[aF h1] at h;by_cases h2:oJ l d≠0;rw[a1 h2] at h;exact aW h h2;exact B9.1 (by simpa using h2)
structure mv where
 kind:o
 id:o
 k:o
 bud:o
 Ej:o
 wG:U
 v:M o
 qs:U
 q:M o
def I8(z:mv):M ap:=[.int .i64 z.kind,.int .i64 z.id,.int .i64 z.k,.int .i64 z.bud,.int .i64 z.Ej,.slice z.wG.a z.wG.n z.wG.c,.slice z.qs.a z.qs.n z.qs.c]
def MC(z:mv):(I8 z).length=7:=rfl
def aA4(z:mv):∀v∈I8 z,v.oneCell'=ak:=by simp[I8,cT]
def q2(u:H)(s:U)(l:M mv):Prop:=br u s 7 (l.flatMap I8)/\∀z∈l,Ints u z.wG z.v/\Ints u z.qs z.q
def q2.len{l:M mv}(h:q2 u s l):s.n=l.length:=gW MC (by decide) h.1
def q2.max{l:M mv}(h:q2 u s l):s.n<=9223372036854775807:=jg (br.cap h.1) (br.max h.1)
def q2.mono{l:M mv}(h:q2 u s l)(k:u.le u'):q2 u' s l:=⟨h.1.mono k,λz aa=>⟨(h.2 z aa).1.mono k,(h.2 z aa).2.mono k⟩⟩
def q2.nil(u:H):q2 u ⟨none,0,0⟩ []:=⟨⟨rfl,cA _,by decide,.inl rfl⟩,λ_ h=>by cases h⟩
def q2.at{l:M mv}(h:q2 u s l){x:o}(h0:0<=x)(h1:x<(s.n:o)):∃p,s.a=some p/\∃z:mv,l[x.toNat]?=some z/\z∈l/\u.cell? (p.add (x.toNat*7))=some (.int .i64 z.kind)/\u.cell? ((p.add (x.toNat*7)).add 1)=some (.int .i64 z.id)/\
  u.cell? ((p.add (x.toNat*7)).add 2)=some (.int .i64 z.k)/\u.cell? ((p.add (x.toNat*7)).add 3)=some (.int .i64 z.bud)/\u.cell? ((p.add (x.toNat*7)).add 4)=some (.int .i64 z.Ej)/\
  u.cell? ((p.add (x.toNat*7)).add 5)=some (.slice z.wG.a z.wG.n z.wG.c)/\u.cell? ((p.add (x.toNat*7)).add 6)=some (.slice z.qs.a z.qs.n z.qs.c)/\Ints u z.wG z.v/\Ints u z.qs z.q:=by
 have ae:=h.len
 have bD:x.toNat<l.length:=by omega
 have J:l[x.toNat]?=some l[x.toNat]:=cr bD
 obtain⟨p,ad,I⟩:=br.elem MC (by decide) h.1 J
 have Se:=I 0 _ rfl
 rw[Addr.add_zero'] at Se
 have hm:=kE bD
 exact⟨p,ad,_,J,hm,Se,I 1 _ rfl,I 2 _ rfl,I 3 _ rfl,I 4 _ rfl,I 5 _ rfl,I 6 _ rfl,(h.2 _ hm).1,(h.2 _ hm).2⟩
structure Rm(u:H)(s t:U)(l:M az)(ops:M mv):Prop where
 rows:en u s l
 calls:q2 u t ops
 small:∀r∈l,r.v.length<=17592186044416
 VE:s.n<=17592186044416
 ay0:∀z∈ops,z.v.length<=17592186044416/\z.q.length<=17592186044416
 QQ:t.n<=17592186044416
def spec.vf{ops:M mv}(I:Rm u s t l ops)(h1:K ak u)
  (h2:l.length<=2000->ops.length<=2000->(∀r∈l,r.v.length<=32768)->(∀z∈ops,z.v.length<=32768/\z.q.length<=32768)->K ax u):C.vf s t u K:=by
 have dw:=I.rows.len
 have TA:=I.calls.len
 apply aG.vf
 intro my o1
 refine⟨λ_=>h1,λht=>⟨λ_=>h1,λag=>spec.azO I.rows I.small I.VE (by omega) λx J=>⟨λ_=>h1,λfT=>o1 _ _ ?_⟩⟩⟩
 have aA:∀r∈l,r.v.length<=32768:=λr O=>by have:=J (by omega) r O;omega
 have fin:∀n:o,(n<=32768->∀z∈ops,z.v.length<=32768/\z.q.length<=32768)->∀dM:aK,(dM=ak↔32768<n)->K dM u:=λn ae dM ab=>by
  cases dM with
  |true=>exact h1|false=>exact h2 (by omega) (by omega) aA (ae (by by_cases e:32768<n;have:=ab.2 e;cases this;omega))
 refine⟨λn i w=>w=u/\0<=i/\i<=ops.length/\0<=n/\∀z∈ops.take i.toNat,(z.v.length:o)<=n/\(z.q.length:o)<=n,λ_ i _=>ops.length-i.toNat,⟨rfl,by omega,by omega,by omega,λz aa=>by simp at aa⟩,?_⟩
 rintro n i w ⟨rfl,i0,i1,n0,YJ⟩
 intro aeC arh
 refine⟨λeO=>⟨λae=>arh _ ?_,λae=>fin n (λh=>aW h ae) _ (by simp)⟩,λA2=>fin n (λae z aa=>?_) _ (by simp)⟩
 obtain⟨p,ad,z,aa,oA,bJ,c1,c2,fg,oX,rZ,IY,TE,xP⟩:=I.calls.at i0 eO
 have e3:=TE.len
 have gg:=xP.len
 obtain⟨s1,s2⟩:=I.ay0 z oA
 refine⟨p,ad,⟨i0,eO⟩,p,ad,⟨i0,eO⟩,_,by rw[Addr.Az];exact rZ,⟨by omega,by omega⟩,_,IY,⟨by omega,by omega⟩,⟨by omega,by omega⟩,⟨rfl,by omega,by omega,by omega,λb5 bP=>?_⟩,by dsimp only;omega⟩
 rw[show(i+1).toNat=i.toNat+1 by omega,gS,aa] at bP
 rcases cN.1 bP with bQ|bQ
 have:=YJ b5 bQ;omega
 simp at bQ;subst bQ;omega
 have hi:i.toNat=ops.length:=by have:¬i<(t.n:o):=A2;omega
 rw[hi,mQ] at YJ
 have:=YJ z aa
 omega
def aoI(a b c d:U):kG aH 22 4 #[(0,.agg #[.int .i64 1,.slice a.a a.n a.c]),(1,.agg #[.int .i64 2,.slice b.a b.n b.c]),(2,.agg #[.int .i64 3,.slice c.a c.n c.c]),(3,.agg #[.int .i64 4,.slice d.a d.n d.c])]=
  some (52,[.int .i64 1,.slice a.a a.n a.c,.int .i64 2,.slice b.a b.n b.c,.int .i64 3,.slice c.a c.n c.c,.int .i64 4,.slice d.a d.n d.c]):=by kernel_rfl
def C3(a b c d:U):M az:=[⟨1,a,[0,0]⟩,⟨2,b,[3,4]⟩,⟨3,c,[0,1]⟩,⟨4,d,[30,40]⟩]
def spec.Iq{K:U->H->Prop}(h:∀s u' a b c d,u.le u'->en u' s (C3 a b c d)->K s u'):C.Iq u K:=by apply aG.Iq;refine mo (CT _ _) λg1 h1=>mo (CT _ _) λg2 h2=>mo (CT _ _) λg3 h3=>mo (CT _ _) λg4 a7=>mo (aoI _ _ _ _) λg5 bK=>?_;have i1:=Ku (H.le.refl u) h1 [0,0] 3 (by simp);have i2:=Ku (H.le.refl _) h2 [3,4] 3 (by simp);have i3:=Ku (H.le.refl _) h3 [0,1] 3 (by simp);have i4:=Ku (H.le.refl _) a7 [30,40] 3 (by simp);have e3:=H.b1 (u:=u) (b:=g1) (.cells [cY .i64 0,.int .i64 0].toArray 3 (0,0)) h1;have gg:=H.b1 (b:=g2) (.cells [cY .i64 3,.int .i64 4].toArray 3 (0,0)) h2;have uN:=H.b1 (b:=g3) (.cells [cY .i64 0,.int .i64 1].toArray 3 (0,0)) h3;have nZ:=H.b1 (b:=g4) (.cells [cY .i64 30,.int .i64 40].toArray 3 (0,0)) a7;have m:=aJ.make (k:=2) (H.le.refl _) bK (cells:=[cY .i64 1,.slice (some ⟨g1,0,none⟩) 2 2,.int .i64 2,.slice (some ⟨g2,0,none⟩) 2 2,.int .i64 3,.slice (some ⟨g3,0,none⟩) 2 2,.int .i64 4,.slice (some ⟨g4,0,none⟩) 2 2].toArray) (e:=52) (n:=4) (by omega) rfl;refine h _ _ ⟨some ⟨g1,0,none⟩,2,2⟩ ⟨some ⟨g2,0,none⟩,2,2⟩ ⟨some ⟨g3,0,none⟩,2,2⟩ ⟨some ⟨g4,0,none⟩,2,2⟩ ?_ ⟨m.own.cE,?_⟩;exact(((e3.trans gg).trans uN).trans nZ).trans m.le;intro r O;simp only[C3,cJ,qL,qM] at O;rcases O with rfl|rfl|rfl|rfl;exact i1.mono (((gg.trans uN).trans nZ).trans m.le);exact i2.mono ((uN.trans nZ).trans m.le);exact i3.mono (nZ.trans m.le);exact i4.mono m.le
def ap9(a b c d:U):kk (C3 a b c d) [0,0]:=CP.1 (by kernel_rfl)
def aqa(a b c d:U):eT 2 ((C3 a b c d).map (hp [0,0]))=[(1,0),(3,1)]:=by kernel_rfl
def ap8(a b c d:U):jr (C3 a b c d) 2 3 2 0 0=0:=by kernel_rfl
def Pu(P:M tO):M az:=P.map λp=>⟨p.1,⟨none,0,0⟩,p.2⟩
def awy(P:M tO):(Pu P).map az.bz=P:=by unfold Pu;rw[ep];exact B5 _
def ajO{X:aQ}(h:c4 ai u D b X){q:M o}{k bud:o}(he:gE q X.an k bud=0)(cX:(L.map az.bz).Perm (aR X))(Gu:kk L q)(ab:(L.length:o)<=bud):
  il X q k bud=eT k.toNat (L.map (hp q))/\(fU X q k bud).length<=(aR X).length:=by
 obtain⟨aA,b3,cu,_,_⟩:=w3.1 he
 have hlen:=cX.length_eq
 rw[de] at hlen
 obtain⟨bl,h1,h2⟩:=abn h he cX Gu (ayc (jF X q k bud))
 have xk:=bl.all.length_eq
 rw[ez,de] at xk
 refine⟨bl.ao9 Gu b3 ?_,by omega⟩
 have alD:(fU X q k bud).length=L.length->Aj q k (il X q k bud) ((jF X q k bud).map adf):=λh2=>by
  left;generalize (jF X q k bud).map adf=rest at*;cases rest with
  |nil=>rfl|cons r rs=>have h3:=(bl.kd r (fW ..)).2.1;have a7:=wx.2 h3;rw[gy,ez] at xk;omega
 rcases h2 with h2|h2|h2
 exact alD (by omega)
 exact alD h2
 exact h2
def spec.im(e2:jB u)(h:∀u',u.le u'->K ak u'):C.im u K:=by
 apply aG.im;have wl:∀{w:H} {g:N} (W:w g=none) (x y:o),Ints (w.ins g (.cells [cY .i64 x,.int .i64 y].toArray 3 (0,0))) ⟨some ⟨g,0,none⟩,2,2⟩ [x,y]:=λ{w g} W x y=>Ku (H.le.refl w) W [x,y] 3 (by simp);refine spec.Iq λs0 aU a b c d e3 l2=>?_;refine spec.zj l2 (e2.mono e3) ⟨by decide,by decide⟩ (λal=>aW (ap8 a b c d) al) λ_ dR D X nF hF j8 y6 uu r8=>?_;have hlen:(aR X).length=4:=by have:=j8.length_eq;simpa[C3] using this
 intro IG Js;refine⟨λe=>(by cases e),λ_=>⟨λe=>aW rfl e,λ_=>spec.DP hF ⟨λal=>aW (by rw[hlen];rfl) al,λ_=>Js _ _ ?_⟩⟩⟩;clear Js IG;refine mo (CT 0 0) λg1 h1=>?_;have m1:=H.b1 (u:=nF) (b:=g1) (.cells [cY .i64 0,.int .i64 0].toArray 3 (0,0)) h1;have ahc:gE [0,0] X.an 2 4=0:=by rw[y6];decide
 refine spec.GU (hF.mono m1) (by omega) (wl h1 0 0) (λal=>aW ahc al) λ_ Qq p9 HX rest jP aE FN=>?_;have Zf:=(ajO hF ahc (L:=C3 a b c d) j8.symm (ap9 a b c d) (nA _)).1;have aB:eT (wC 2) ((C3 a b c d).map (hp [0,0]))=[(1,0),(3,1)]:=aqa a b c d;rw[aB] at Zf;have Om:=aE.h;rw[Zf] at Om;have ag6:=hF.mono (m1.trans aE.le);have agH:∀g,Qq.aj=some g->¬D g:=λg W aw=>by have:=aE.h.fresh g W;obtain⟨z,aa⟩:=e9.1 (hF.base.2.2 g aw);rw[m1 _ _ aa] at this;cases this
 have aBv:∀g,Qq.aj=some g->∃z,jP g=some z:=λg W=>e9.1 (dE aE.h W);clear Zf FN aE;refine mo (CT 9 9) λg2 h2=>?_;have m2:=H.b1 (u:=jP) (b:=g2) (.cells [cY .i64 9,.int .i64 9].toArray 3 (0,0)) h2;have ch:∀x,x∈(aR X).map (·.1)↔x∈([1,2,3,4]:M o):=λx=>(j8.map (·.1)).mem_iff;have t3:decide ((3:o)∈(aR X).map (·.1))=ak:=mm ((ch 3).2 (by decide));have azw:decide ((3:o)∉(aR X).map (·.1))=ax:=p7 λh=>h ((ch 3).2 (by decide));have Td:fu 3 [9,9] X.an (decide ((3:o)∈(aR X).map (·.1))) (aR X).length=0:=by rw[t3,y6,hlen];decide
 have agL:∀{Y:H} {g:N},(∀c,D c->Y c≠none)->Y g=none->∀b0,(⟨some ⟨g,0,none⟩,2,2⟩:U).aj=some b0->¬D b0:=λ{Y g} aC W b0 ca aw=>by
  have:g=b0:=by simpa[U.aj] using ca
  exact aC b0 aw (by rw[<-this];exact W)
 refine spec.abm (ag6.mono m2) (by omega) (e2.mono e3) (wl h2 9 9) (agL ag6.base.2.2 h2) (λal=>aW Td al) λ_ It jl lc arV pd Oy vF _ gQ=>?_;rw[azw];have ath:∀g,Qq.aj=some g->∀z,jP g=some z->It g=some z/\¬jl g:=λg W z aa=>by refine⟨pd.bN g z (m2 _ _ aa) (agH g W),λaw=>?_⟩;rcases pd.grow g aw with bK|bK;exact agH g W bK;rw[m2 _ _ aa] at bK;cases bK
 have eY:(aR lc).Perm [(3,[9,9]),(1,[0,0]),(2,[3,4]),(4,[30,40])]:=by refine Oy.trans (kc _ ?_);exact(j8.filter _).trans (Lq _)
 have as3:(1:o)∈(aR lc).map (·.1):=(eY.map (·.1)).mem_iff.2 (by decide);refine spec.O7 arV (by omega) (λdV=>aW as3 dV) λ_ kf Ww Rv Jz nt Bl Dj _ ahO=>?_;have A4:(aR Rv).length=3:=by rw[Bl];have:=(eY.filter λx=>x.1 !=1).length_eq;exact this
 have ati:∀g,Qq.aj=some g->∀z,jP g=some z->kf g=some z:=λg W z aa=>by obtain⟨bK,fs⟩:=ath g W z aa;exact nt.bN g z bK fs
 refine mo (CT 1 1) λg3 h3=>?_;have m3:=H.b1 (u:=kf) (b:=g3) (.cells [cY .i64 1,.int .i64 1].toArray 3 (0,0)) h3;have NX:fu 0 [1,1] Rv.an (decide ((0:o)∈(aR Rv).map (·.1))) (aR Rv).length=50:=by unfold fu;rw[a1 (by omega)]
 have aq3:∀b0,(⟨some ⟨g3,0,none⟩,2,2⟩:U).aj=some b0->¬Ww b0:=λb0 ca aw=>by
  have:g3=b0:=by simpa[U.aj] using ca
  exact Jz.base.2.2 b0 aw (by rw[<-this];exact h3)
 refine spec.abm (Jz.mono m3) (by omega) (e2.mono e3) (wl h3 1 1) aq3 (λ_=>?_) λhe=>by rw[NX] at he;cases he
 rw[NX];have uo:=h _ ((e3.trans (Jz.base.1)).trans m3);have fi:kQ _ Qq [((1:o),(0:o)),(3,1)]:=br.else Om.fi λg z W aa=>m3 _ _ (ati g W z aa);intro EN are;refine⟨λ_=>⟨λ_=>⟨λ_=>⟨λ_=>⟨λ_=>⟨λ_=>spec.DP (Jz.mono m3) ?_,λe=>(by cases e)⟩,λe=>(by cases e)⟩,λe=>aW rfl e⟩,λe=>aW rfl e⟩,λe=>aW rfl e⟩,λe=>aW rfl e⟩;have abH:∀dM:aK,dM=ak->K dM (kf.ins g3 (.cells [cY .i64 1,.int .i64 1].toArray 3 (0,0))):=λdM ab=>by rw[ab];exact uo
 refine are _ _ ⟨λ_=>?_,λab=>?_⟩;have ft:=fi.len;refine⟨λ_=>?_,λal=>aW (by rw[ft];rfl) al⟩;obtain⟨p,ad,x,J,bJ,c1,c2⟩:=fi.at (x:=0) (by omega) (by rw[ft];decide);obtain⟨wk,kx,y,ah,d0,d1,d2⟩:=fi.at (x:=1) (by omega) (by rw[ft];decide);have jd:wk=p:=by rw[ad] at kx;exact(cU kx).symm
 subst jd;have fT:x=(1,0):=by simpa using J.symm
 have j9:y=(3,1):=by simpa using ah.symm
 subst fT;subst j9;refine⟨_,ad,⟨by omega,by rw[ft];decide⟩,_,bJ,_,c1,_,c2,λ_=>⟨_,ad,⟨by omega,by rw[ft];decide⟩,_,d0,_,d1,_,d2,abH _ ?_⟩,λal=>aW ⟨rfl,rfl,rfl⟩ al⟩;exact mm ⟨rfl,rfl,rfl⟩;rw[A4] at ab;simp at ab
structure rV(ub u:H)(D:N->Prop)(n:N)(d:o)(L:M az):Prop where
 ex:∃gU,gU.le u/\(∀c,D c->gU c=none)/\TabAt gU n d L/\ub.le gU/\ub n=none
def rV.le(h:rV ub u D n d L):ub.le u:=by obtain⟨gU,h1,_,_,a7,_⟩:=h.ex;exact a7.trans h1
def rV.mono(h:rV ub u D n d L)(hu:u.le u'):rV ub u' D n d L:=by obtain⟨gU,h1,h2,h3,a7,bK⟩:=h.ex;exact⟨gU,h1.trans hu,h2,h3,a7,bK⟩
def rV.rows(h:rV ub u D n d L):∃s:U,u n=some (.cells #[.int .i64 d,.slice s.a s.n s.c] 84 (0,0))/\en u s L:=by obtain⟨gU,h1,_,h3,_,_⟩:=h.ex;obtain⟨s,v,ae,aA,_,bX⟩:=h3.ex;exact⟨s,h1 _ _ ae,bX.mono (aA.trans h1)⟩
def rV.HW(h:rV ub u D n d L):(L.map az.bz).Pairwise λa b=>a.1<b.1:=by obtain⟨gU,_,_,h3,_,_⟩:=h.ex;exact h3.HW
def rV.nodup(h:rV ub u D n d L):(L.map (·.id)).Nodup:=by obtain⟨gU,_,_,h3,_,_⟩:=h.ex;rw[P8,tu];exact h3.Ch.imp λh=>Int.ne_of_lt h
def rV.eP{dZ:N->Prop}(h:rV ub u D n d L)(k:gD u D u' dZ):rV ub u' dZ n d L:=by obtain⟨gU,h1,h2,h3,a7,bK⟩:=h.ex;obtain⟨b3,cu⟩:=k.apart h1 h2;exact⟨gU,b3,cu,h3,a7,bK⟩
structure w1(ub u:H)(D:N->Prop)(b:N)(X:aQ)(n:N)(L:M az):Prop where
 bB:c4 ub u D b X
 amu:rV ub u D n X.an L
 perm:(aR X).Perm (L.map az.bz)
 ok:hD L X.an
def w1.mono{X:aQ}(h:w1 ub u D b X n L)(hu:u.le u'):w1 ub u' D b X n L:=⟨h.bB.mono hu,h.amu.mono hu,h.perm,h.ok⟩
def w1.le{X:aQ}(h:w1 ub u D b X n L):ub.le u:=h.amu.le
def w1.ids{X:aQ}(h:w1 ub u D b X n L)(id:o):id∈(aR X).map (·.1)↔id∈L.map (·.id):=by rw[oE];exact(h.perm.map _).mem_iff
def w1.len{X:aQ}(h:w1 ub u D b X n L):(aR X).length=L.length:=by have:=h.perm.length_eq;simpa using this
def awr{id:o}{v:M o}{there:aK}{many:o}(h:fu id v d there many=0):1<=id/\id<=1000000000/\gV v d=0/\(there=ax->many<512):=by unfold fu at h;split at h;omega;split at h;rename_i h1 h2;exact aW h h2;split at h;omega;rename_i h1 h2 h3;refine⟨by omega,by omega,by omega,λht=>?_⟩;by_cases hm:many<512;exact hm;exact aW ⟨ht,by omega⟩ h3
def aqk{id:o}(h:id∈P.map (·.1)):(P.filter λp=>p.1 !=id).length<P.length:=by obtain⟨p,gq,eY⟩:=bf.1 h;exact Lr.2 ⟨p,gq,by simp[eY]⟩
def w1.known{X:aQ}(h:w1 ub u D b X n L):∀c,D c->u c≠none:=h.bB.base.2.2
def af4{aeE:M tO}{id:o}{q:M o}(Z:P.length<=512)(he:fu id q d (decide (id∈P.map (·.1))) P.length=0)(ad:aeE.Perm ((id,q)::P.filter λx=>x.1 !=id)):aeE.length<=512:=by obtain⟨_,_,_,a7⟩:=awr he;have e:=ad.length_eq;simp only[hX] at e;by_cases hm:id∈P.map (·.1);have:=aqk hm;omega;have:=a7 (by simp only[HG];exact hm);have mF:=wB (λp:tO=>p.1 !=id) P;omega
def spec.vg{X:aQ}{ops:M mv}{K:H->Prop}(h:c4 ub u D b X)(Z:(aR X).length<=512)(iC:iF X+ops.length<=2700)(e2:jB ub)(hO:q2 ub t ops)(TA:t.n<=17592186044416)
  (au:∀u' dZ cC,c4 ub u' dZ b cC->(aR cC).length<=512->cC.an=X.an->cC.bY=X.bY->gD u D u' dZ->iF cC<=iF X+ops.length->K u'):C.vg (some ⟨b,0,none⟩) t u K:=by
 have auf:=hO.len
 apply aG.vg
 refine⟨λx v=>0<=x/\∃dZ cC,c4 ub v dZ b cC/\(aR cC).length<=512/\cC.an=X.an/\cC.bY=X.bY/\gD u D v dZ/\(iF cC:o)<=iF X+x/\x<=t.n,λx _=>((t.n:o)-x).toNat,⟨by omega,D,X,h,Z,rfl,rfl,gD.mono (H.le.refl u),by omega,by omega⟩,λx v cv=>⟨λJ=>?_,λJ=>?_⟩⟩
 .obtain⟨h0,dZ,cC,hF,cF,aw,ar,ht,JN,aa3⟩:=cv;obtain⟨p,ad,z,_,ku,bJ,c1,c2,fg,oX,rZ,IY,aA,aN⟩:=(hO.mono hF.base.1).at h0 J;have next:∀{b8:H} {jl:N->Prop} {lc:aQ},c4 ub b8 jl b lc->(aR lc).length<=512->lc.an=cC.an->lc.bY=cC.bY->gD v dZ b8 jl->iF lc<=iF cC+1->
    bo (x+1)/\(0<=x+1/\∃dZ cC,c4 ub b8 dZ b cC/\(aR cC).length<=512/\cC.an=X.an/\cC.bY=X.bY/\gD u D b8 dZ/\(iF cC:o)<=iF X+(x+1)/\x+1<=t.n)/\((t.n:o)-(x+1)).toNat<((t.n:o)-x).toNat:=λi1 i2 i3 i4 i5 i6=>
   ⟨⟨by omega,by omega⟩,⟨by omega,_,_,i1,i2,i3.trans aw,i4.trans ar,ht.trans i5,by omega,by omega⟩,by omega⟩
  refine⟨p,ad,⟨h0,J⟩,_,bJ,λ_=>⟨p,ad,⟨h0,J⟩,_,oX,_,rZ,?_⟩,λ_=>⟨λ_=>⟨p,ad,⟨h0,J⟩,_,c1,?_⟩,λ_=>next hF cF rfl rfl (gD.mono (H.le.refl v)) (zO _)⟩⟩
  .refine spec.O8 hF (by omega) e2 (hO.2 z ku).1 (λ_=>next hF cF rfl rfl (gD.mono (H.le.refl v)) (zO _)) λhe b8 jl lc i1 i2 i3 i4 i5 i6=>next i1 (af4 cF he i3) i4 i5 i2 i6
  .refine spec.O7 hF (by omega) (λ_ b8 lv=>next (hF.mono lv) cF rfl rfl (gD.mono lv) (zO _)) λ_ b8 jl lc i1 i2 i3 i4 i5 i6=>next i1 ?_ i4 i5 i2 (Nat.le_succ_of_le i6);rw[i3];exact jg (wB _ _) cF
 obtain⟨h0,dZ,cC,hF,cF,aw,ar,ht,JN,aa3⟩:=cv
 exact au v dZ cC hF cF aw ar ht (by omega)
def TU(h:jr l d A B E F=0)(ad:P.Perm (l.map az.bz)):P.length<=512:=by have h1:=(abk h).len;have h2:=ad.length_eq;rw[de] at h2;omega
def azS{ls:M az}{q:M o}{k:o}(aw:d=q.length)(h:hD ls d):tG ls q k=gE q d k 1000000:=by subst aw;unfold tG gE asked;rw[B9.2 h];by_cases aA:gV q q.length=0;simp only[aA,ne_eq,not_true_eq_false,BU];by_cases hk:k<1∨64<k;rw[a1 hk,a1 (by omega)];rw[aF hk,aF (by omega)];simp only[ne_eq,aA,not_false_eq_true,qI]
def TV{X:aQ}(h:c4 ai u D b X)(Z:(aR X).length<=512){q:M o}{k:o}(he:gE q X.an k 1000000=0)(cX:(L.map az.bz).Perm (aR X)):
  il X q k 1000000=eT k.toNat (L.map (hp q))/\(fU X q k 1000000).length<=(aR X).length:=by
 obtain⟨aA,b3,cu,_,_⟩:=w3.1 he
 obtain⟨_,_,qA,Bx⟩:=oh aA
 have fz:=TX h Z cX
 have Gu:kk L q:=⟨Bx,by rw[qA];exact fz⟩
 have hlen:=cX.length_eq
 rw[de] at hlen
 exact ajO h he cX Gu (by omega)
def law.anl{qs:U}{ops:M mv}{q:M o}{k:o}(e2:jB u)(I:Rm u s t l ops)(xi:dh eJ)(aN:Ints u qs q)(h:∀u',u.le u'->K ak u'):
  C.VY s A B E F eJ t qs k u K:=by
 have Ox:=aN.len
 apply aG.VY
 intro my h0
 refine spec.vf I ⟨λ_=>h u (H.le.refl u),λe=>(by cases e)⟩ λ_ vR _ _=>⟨λe=>(by cases e),λ_=>⟨λ_=>h u (H.le.refl u),λ_=>h0 _ _ ?_⟩⟩
 refine spec.zj I.rows e2 xi (λal=>?_) (λhe b D X fA hF ad y6 uu r8=>?_)
 intro WA fs
 exact⟨λ_=>spec.im e2 h,λe=>aW e al⟩
 .intro WA fs;refine⟨λJ=>aW rfl J,λ_=>⟨λe=>(by cases e),λ_=>fs _ _ ?_⟩⟩;refine spec.vg hF (TU he ad) (by omega) e2 I.calls I.QQ λpy dZ cC xj cF r5 _ _ JN=>?_;have aw:cC.an=q.length:=by rw[r5,y6,Ox]
  have ajc:=xj.base.1;have fin:∀{dM:aK} {v:H},dM=ak->u.le v->K dM v:=λab aA=>by rw[ab];exact h _ aA
  have rest:∀{aD ss sr:U} {e:o} {jP:H} {H1:M bO} {n:N},e=gE q cC.an k 1000000->py.le jP->kQ jP aD H1->ss.n=n->n<=(aR cC).length->(e≠0->H1=[])->(e=0->H1=il cC q k 1000000)->
    C.AA (some ⟨b,0,none⟩) jP (λ(oK:U) (u16:H)=>C.xd oK qs k u16 (λ(alr:U) (Wq:o) (It:H)=>C.im It (λ(aeU:aK) (ke:H)=>((aeU=Bool.true)->((e=Wq)->C.wP aD alr ke (λ(aeV:aK) (Ez:H)=>((aeV=Bool.true)->(C.rW (some ⟨b,0,none⟩) Ez (λ(aAC:o) (amE:H)=>K (decide ((ss.n:o)<=aAC)) amE))/\(C.rW (some ⟨b,0,none⟩) Ez (λ(aAD:o) (Co:H)=>K (decide ((ss.n:o)<=aAD)) Co)))/\((aeV=tx)->((K tx Ez)/\(K tx Ez))/\(K tx Ez))))/\((¬(e=Wq))->((K tx ke)/\(K tx ke))/\(K tx ke)))/\((aeU=tx)->((K tx ke)/\(K tx ke))/\(K tx ke))))):=by
   intro aD ss sr e jP H1 n I6 T7 M9 dw J0 di bE
   have i14:=xj.mono T7
   refine spec.O9 i14 λoK ls u16 bX np _=>?_
   have ajW:u.le u16:=(ajc.trans T7).trans bX.own.le
   refine spec.anP bX.rws (aN.mono ajW) λalr Wq It iN=>?_
   have fz:=TX i14 cF np
   have ex:Wq=e:=by rw[iN.err,azS aw fz,I6]
   obtain⟨EP,Na,_,g1,g2⟩:=iN.fi
   have Fj:H1=EP:=by by_cases h0:e=0;rw[bE h0,g1 (ex.trans h0)];exact(TV i14 cF (I6▸h0) np).1;rw[di h0,g2 (by rw[ex];exact h0)]
   refine spec.im (e2.mono (ajW.trans iN.1)) λke abK=>⟨λ_=>⟨λ_=>?_,λJ=>aW ex.symm J⟩,λe=>(by cases e)⟩
   refine spec.wP (M9.mono ((bX.own.le.trans iN.1).trans abK)) (Na.mono abK) ?_
   have i21:=i14.mono ((bX.own.le.trans iN.1).trans abK)
   have len:∀{A:o->H->Prop},A ((aR cC).length:o) ke->C.rW (some ⟨b,0,none⟩) ke A:=λiY=>spec.DP i21 iY
   refine⟨λ_=>⟨len (fin (mm (by omega)) i21.base.1),len (fin (mm (by omega)) i21.base.1)⟩,λab=>?_⟩
   rw[mm Fj] at ab
   cases ab
  refine spec.GU xj (by omega) (aN.mono ajc) (λal jP T7=>?_) (λFO aD ss sr aCu jP aE _=>?_);exact rest (sr:=⟨none,0,0⟩) (n:=0) rfl T7 (show kQ jP ⟨none,0,0⟩ [] from(aJ.nil (H.le.refl jP) 0 3).own.cE) rfl (p2 _) (λ_=>rfl) (λe=>aW e al);have hk:=(w3.1 FO);refine rest (sr:=sr) (n:=(fU cC q k 1000000).length) FO.symm aE.le aE.read.h (by have:=aE.read.s.len;omega) ?_ (λe=>aW rfl e) (λ_=>rfl);obtain⟨s1,ls,ZC⟩:∃(Y:N) (ls:M az),(ls.map az.bz).Perm (aR cC):=⟨0,(aR cC).map λp=>⟨p.1,⟨none,0,0⟩,p.2⟩,by rw[ep];exact HL (B5 _)⟩;have:=(TV xj cF FO ZC).2;omega
def spec.apP{X:aQ}{q:M o}{k bud:o}{K:U->U->U->o->H->Prop}(h:c4 ai u D b X)(iC:iF X<=2700)(h0:aR X=[])(ht:Ints u t q)
  (au:∀(aD ss sr:U) e u',u.le u'->aD.n=0->ss.n=0->sr.n=0->K aD ss sr e u'):C.rX (some ⟨b,0,none⟩) t k bud u K:=by
 refine spec.GU h iC ht (λal u' l=>au _ _ _ _ u' l rfl rfl rfl) λhe aD ss sr rest u' aE O=>?_
 have cX:(([]:M az).map az.bz).Perm (aR X):=by rw[h0];exact .refl _
 have fz:=TX h (by rw[h0];simp) cX
 obtain⟨_,_,qA,Bx⟩:=oh (w3.1 he).1
 obtain⟨bl,_,_⟩:=abn h he cX ⟨Bx,by rw[qA];exact fz⟩ O
 have dX:=bl.all.length_eq
 simp only[ez,zT,mi] at dX
 have aap:(fU X q k bud)=[]:=kN (by omega)
 have ll:rest.flatMap (·.ids)=[]:=kN (by omega)
 have tc:rest=[]:=by
  cases rest with
  |nil=>rfl|cons r rs=>have h1:=(bl.kd r (fW ..)).2.1;rw[gy] at ll;exact aW (List.append_eq_nil_iff.1 ll).1 h1
 have asV:il X q k bud=[]:=by rw[bl.first [] (λ_ J=>(by cases J)) aap.symm];exact kN (by rw[ys];simp)
 have b4:=aE.read.h.len
 have eb:=aE.read.s.len
 have jI:=aE.read.r.len
 rw[asV] at b4
 rw[aap] at eb
 rw[tc] at jI
 exact au aD ss sr 0 u' aE.le b4 eb jI
def spec.apQ{X:aQ}{ms:U}{q BL:M o}{k id:o}{Q:aK->o->U->U->U->o->H->Prop}(h:c4 ub u D b X)(iC:iF X<=2600)(h0:aR X=[])(e2:jB ub)(ht:Ints ub t q)(hm:Ints ub ms BL)
  (di:∀vo x s1 s2 k8 y u',ub.le u'->(x≠0∨y≠0)->Q vo x s1 s2 k8 y u')
  (bE:∀s1 s2 k8 u' dZ cC (d:o),c4 ub u' dZ b cC->(aR cC).length=1->kQ u' s1 [⟨id,d⟩]->Q ak 0 s1 s2 k8 0 u'):
  C.vp (some ⟨b,0,none⟩) id ms u λ(an6:aK) (aAE:o) (amF:H)=>C.rX (some ⟨b,0,none⟩) t k 1000000 amF λ(ayt:U) (adm:U) (oL:U) (aAH:o) (l5:H)=>Q an6 aAE ayt adm oL aAH l5:=by
 refine spec.O8 h (by omega) e2 hm (λal=>?_) λhe dc jl lc i1 i2 i3 i4 i5 i6=>?_
 refine spec.GU h (by omega) (ht.mono h.base.1) (λ_ u' l=>di _ _ _ _ _ _ u' (h.base.1.trans l) (.inl al)) λ_ aD ss sr rest u' aE _=>di _ _ _ _ _ _ u' (h.base.1.trans aE.le) (.inl al)
 rw[h0] at i3
 have aB:aR lc=[(id,BL)]:=List.perm_singleton.1 i3
 have ab:decide (id∉(aR X).map (·.1))=ak:=by rw[h0];simp
 rw[ab]
 refine spec.GU i1 (by omega) (ht.mono i1.base.1) (λal u' l=>di _ _ _ _ _ _ u' (i1.base.1.trans l) (.inr al)) λhe aD ss sr rest u' aE _=>?_
 have cX:([(⟨id,⟨none,0,0⟩,BL⟩:az)].map az.bz).Perm (aR lc):=by rw[aB];exact .refl _
 have bU:=(TV i1 (by rw[aB];simp) he cX).1
 have hk:=w3.1 he
 have cW:il lc q k 1000000=[hp q ⟨id,⟨none,0,0⟩,BL⟩]:=by rw[bU];obtain⟨m,hm⟩:∃m,k.toNat=m+1:=⟨k.toNat-1,by omega⟩;have ad:=vc [hp q ⟨id,⟨none,0,0⟩,BL⟩];show(l4 _).take k.toNat=_;rw[show l4 ([(⟨id,⟨none,0,0⟩,BL⟩:az)].map (hp q))=[hp q ⟨id,⟨none,0,0⟩,BL⟩] from List.perm_singleton.1 ad,hm];simp
 have hH:=aE.read.h
 rw[cW] at hH
 exact bE _ _ _ u' jl lc _ (i1.mono aE.le) (by rw[aB];rfl) hH
def law.ank{qs ms:U}{q BL:M o}{k bud id:o}(e2:jB u)(ag:en u s l)(fB:∀r∈l,r.v.length<=17592186044416)(dw:s.n<=17592186044416)(xi:dh eJ)
  (aN:Ints u qs q) (hm:Ints u ms BL) (h:∀u',u.le u'->K ak u'):C.VX s A B E F eJ qs k bud id ms u K:=by
 have Ox:=aN.len
 have ZB:=ag.len
 apply aG.VX
 intro my h0
 refine spec.vf (ops:=[]) ⟨ag,q2.nil u,fB,dw,λz aa=>(by cases aa),by show 0<=17592186044416;omega⟩ ⟨λ_=>h u (H.le.refl u),λe=>(by cases e)⟩ λar _ _ _=>⟨λe=>(by cases e),λ_=>⟨λ_=>h u (H.le.refl u),λ_=>⟨λ_=>h u (H.le.refl u),λ_=>h0 _ _ ?_⟩⟩⟩
 refine spec.zj ag e2 xi (λal=>?_) (λhe b D X fA hF ad y6 uu r8=>?_)
 intro WA fs
 exact⟨λ_=>spec.im e2 h,λe=>aW e al⟩
 intro WA fs
 refine⟨λJ=>aW rfl J,λ_=>⟨λe=>(by cases e),λ_=>fs _ _ ?_⟩⟩
 have fz:=abk he
 have fin:∀{dM:aK} {v:H},dM=ak->u.le v->K dM v:=λab aA=>by rw[ab];exact h _ aA
 refine⟨λ_ x v=>0<=x/\∃dZ cC,c4 u v dZ b cC/\(aR cC).Perm ((l.drop x.toNat).map az.bz)/\iF cC=0,λ_ x _=>((s.n:o)-x).toNat,⟨by omega,D,X,hF,ad,r8⟩,λaAX x v cv=>⟨λJ=>?_,λJ=>?_⟩⟩
 obtain⟨h0,dZ,cC,xj,Oq,JN⟩:=cv
 have eR:x.toNat<l.length:=by omega
 obtain⟨p,jd,r,O,bJ,_,_⟩:=(ag.mono xj.base.1).at h0 J
 have C2:l[x.toNat]=r:=(jM.1 O).2
 have xo:l.drop x.toNat=r::l.drop (x.toNat+1):=by rw[wo eR,C2]
 have b6:r.id∈(aR cC).map (·.1):=by rw[(Oq.map (·.1)).mem_iff,xo];exact fW ..
 refine⟨p,jd,⟨h0,J⟩,_,bJ,?_⟩
 refine spec.O7 xj (by omega) (λdV=>aW b6 dV) λ_ u' jl lc i1 i2 i3 _ _ i6=>⟨λJ=>aW rfl J,λ_=>⟨λJ=>aW rfl J,λ_=>⟨⟨by omega,by omega⟩,⟨by omega,jl,lc,i1,?_,by omega⟩,by dsimp only;omega⟩⟩⟩
 rw[i3,show(x+1).toNat=x.toNat+1 by omega]
 refine(Oq.filter _).trans (HL ?_)
 have bS:((l.drop x.toNat).map (·.id)).Nodup:=fz.nodup.sublist ((HI _ _).map _)
 rw[xo] at bS ⊢
 rw[gm,hI] at bS
 rw[gm,B7,aF (by simp[az.bz])]
 refine p6.2 λy ah=>?_
 obtain⟨Y,aC,rfl⟩:=bf.1 ah
 simp only[az.bz,Qe,ne_eq]
 exact λe=>bS.1 (bf.2 ⟨Y,aC,e⟩)
 obtain⟨h0,dZ,cC,xj,Oq,JN⟩:=cv
 have e7:aR cC=[]:=by rw[sl (by omega)] at Oq;exact List.perm_nil.1 Oq
 refine spec.apP xj (by omega) e7 (aN.mono xj.base.1) λaD ss sr aCV Ez xX b4 eb jI=>?_
 intro aAV M3
 have i23:=xj.mono xX
 refine spec.DP i23 ?_
 rw[e7]
 refine⟨λJ=>aW rfl J,λ_=>spec.O9 i23 λH0 ls Iv bX np _=>?_⟩
 have eZ:=bX.rws.len
 have Pw:=np.length_eq
 rw[e7] at Pw
 simp only[de,mi] at Pw
 refine⟨λJ=>aW J (by omega),λ_=>⟨⟨by omega,by omega⟩,⟨by omega,by omega⟩,λJ=>aW J (by omega),λ_=>M3 _ _ ?_⟩⟩
 refine spec.apQ (i23.mono bX.own.le) (by omega) e7 e2 aN hm (λvo x s1 s2 k8 y u' bw hv=>?_) (λs1 s2 k8 u' jl lc d i2 hlen hH=>?_)
 intro anw agw
 have gk:C.im u' (λ(WM:aK) (gT:H)=>K WM gT):=spec.im (e2.mono bw) λgT pU=>h _ (bw.trans pU)
 refine⟨λ_=>gk,λ_=>⟨λ_=>gk,λJ=>⟨λ_=>gk,λah=>?_⟩⟩⟩
 rcases hv with ae|ae
 exact aW J ae
 exact aW ah ae
 intro anw agw
 have Uf:=i2.base.1
 have gk:C.im u' (λ(WM:aK) (gT:H)=>K WM gT):=spec.im (e2.mono Uf) λgT pU=>h _ (Uf.trans pU)
 refine⟨λ_=>gk,λ_=>⟨λJ=>aW rfl J,λ_=>⟨λJ=>aW rfl J,λ_=>agw _ _ ?_⟩⟩⟩
 refine spec.im (e2.mono Uf) λad3 abM=>⟨λ_=>⟨λ_=>?_,λe=>(by cases e)⟩,λe=>(by cases e)⟩
 refine spec.DP (i2.mono abM) ?_
 rw[hlen]
 have ae:=hH.len
 simp only[hX,mi] at ae
 obtain⟨p,uA,g,W,bJ,_⟩:=(hH.mono abM).at (x:=0) (by omega) (by omega)
 simp at W
 subst W
 have WZ:H.cell? ad3 (p.add 0)=some (.int .i64 id):=by simpa using bJ
 have dx:K (decide (id=id)) ad3:=fin (mm rfl) (Uf.trans abM)
 refine⟨λ_=>⟨λ_=>?_,λJ=>aW (by omega) J⟩,λJ=>aW rfl J⟩
 exact⟨⟨p,uA,⟨by omega,by omega⟩,⟨_,WZ,dx⟩,⟨_,WZ,dx⟩⟩,⟨p,uA,⟨by omega,by omega⟩,_,WZ,dx⟩⟩
def tF(d:o)(P:M tO)(z:mv):M tO:=
 if z.kind=1 then(if fu z.Ej z.v d (decide (z.Ej∈P.map (·.1))) P.length=0 then(z.Ej,z.v)::P.filter (λx=>x.1 !=z.Ej) else P)
 else if z.kind=2 then P.filter (λx=>x.1 !=z.id) else P
def amg{Q:M tO}{z:mv}(h:P.Perm Q):(tF d P z).Perm (tF d Q z):=by unfold tF;by_cases h1:z.kind=1;rw[a1 h1,a1 h1];have aS:decide (z.Ej∈P.map (·.1))=decide (z.Ej∈Q.map (·.1)):=B8.2 (h.map _).mem_iff;rw[aS,h.length_eq];split;exact kc _ (h.filter _);exact h;rw[aF h1,aF h1];split;exact h.filter _;exact h
def akG:∀{ops:M mv} {P Q:M tO},P.Perm Q->(ops.foldl (tF d) P).Perm (ops.foldl (tF d) Q):=by
 intro ops;induction ops with
 |nil=>intro P Q h;exact h
 |cons z ops aM=>intro P Q h;exact aM (amg h)
def spec.Us{X:aQ}{ops:M mv}{K:H->Prop}(h:c4 ub u D b X)(Z:(aR X).length<=512)(iC:iF X+ops.length<=2700)(e2:jB ub)(hO:q2 ub t ops)(TA:t.n<=17592186044416)
  (au:∀u' dZ cC,c4 ub u' dZ b cC->(aR cC).length<=512->cC.an=X.an->cC.bY=X.bY->gD u D u' dZ->(aR cC).Perm (ops.foldl (tF X.an) (aR X))->iF cC<=iF X+ops.length->K u'):C.vg (some ⟨b,0,none⟩) t u K:=by
 have auf:=hO.len
 apply aG.vg
 refine⟨λx v=>0<=x/\∃dZ cC,c4 ub v dZ b cC/\(aR cC).length<=512/\cC.an=X.an/\cC.bY=X.bY/\gD u D v dZ/\(aR cC).Perm ((ops.take x.toNat).foldl (tF X.an) (aR X))/\(iF cC:o)<=iF X+x/\x<=t.n,λx _=>((t.n:o)-x).toNat,⟨by omega,D,X,h,Z,rfl,rfl,gD.mono (H.le.refl u),.refl _,by omega,by omega⟩,λx v cv=>⟨λJ=>?_,λJ=>?_⟩⟩
 .obtain⟨h0,dZ,cC,hF,cF,aw,ar,ht,ee,JN,aa3⟩:=cv;obtain⟨p,ad,z,aa,ku,bJ,c1,c2,fg,oX,rZ,IY,aA,aN⟩:=(hO.mono hF.base.1).at h0 J;have ap6:ops.take (x+1).toNat=ops.take x.toNat++ [z]:=by rw[show(x+1).toNat=x.toNat+1 by omega,gS,aa];rfl
  have next:∀{b8:H} {jl:N->Prop} {lc:aQ},c4 ub b8 jl b lc->(aR lc).length<=512->lc.an=cC.an->lc.bY=cC.bY->gD v dZ b8 jl->(aR lc).Perm (tF X.an (aR cC) z)->iF lc<=iF cC+1->
    bo (x+1)/\(0<=x+1/\∃dZ cC,c4 ub b8 dZ b cC/\(aR cC).length<=512/\cC.an=X.an/\cC.bY=X.bY/\gD u D b8 dZ/\(aR cC).Perm ((ops.take (x+1).toNat).foldl (tF X.an) (aR X))/\(iF cC:o)<=iF X+(x+1)/\x+1<=t.n)/\((t.n:o)-(x+1)).toNat<((t.n:o)-x).toNat:=λi1 i2 i3 i4 i5 i6 i7=>
   ⟨⟨by omega,by omega⟩,⟨by omega,_,_,i1,i2,i3.trans aw,i4.trans ar,ht.trans i5,by rw[ap6,U4];exact i6.trans (amg ee),by omega,by omega⟩,by omega⟩
  refine⟨p,ad,⟨h0,J⟩,_,bJ,λb3=>⟨p,ad,⟨h0,J⟩,_,oX,_,rZ,?_⟩,λb3=>⟨λcu=>⟨p,ad,⟨h0,J⟩,_,c1,?_⟩,λcu=>next hF cF rfl rfl (gD.mono (H.le.refl v)) (by unfold tF;rw[aF b3,aF cu]) (zO _)⟩⟩
  .refine spec.O8 hF (by omega) e2 (hO.2 z ku).1 (λal=>next hF cF rfl rfl (gD.mono (H.le.refl v)) (by
    unfold tF;rw[a1 b3,aF (by rw[<-aw];exact al)]) (zO _)) λhe b8 jl lc i1 i2 i3 i4 i5 i6=>next i1 (af4 cF he i3) i4 i5 i2 (by
    unfold tF;rw[a1 b3,a1 (by rw[<-aw];exact he)];exact i3) i6
  .refine spec.O7 hF (by omega) (λdV b8 lv=>next (hF.mono lv) cF rfl rfl (gD.mono lv) (by
    unfold tF
    rw[aF b3,a1 cu]
    refine HL (p6.2 λy ah=>?_).symm
    simp only[Qe,ne_eq]
    exact λe=>dV (bf.2 ⟨y,ah,e⟩)) (zO _)) λ_ b8 jl lc i1 i2 i3 i4 i5 i6=>next i1 ?_ i4 i5 i2 (by
    unfold tF
    rw[aF b3,a1 cu,i3]) (Nat.le_succ_of_le i6)
   rw[i3]
   exact jg (wB _ _) cF
 obtain⟨h0,dZ,cC,hF,cF,aw,ar,ht,ee,JN,aa3⟩:=cv
 rw[hR (by omega)] at ee
 exact au v dZ cC hF cF aw ar ht ee (by omega)
def c4.beside{dZ jl:N->Prop}{fM:N}{kl:aQ}(h:c4 ub u jl fM kl)(ht:gD u D u' dZ)(aw:∀c,D c->¬jl c)(hle:ub.le u'):c4 ub u' jl fM kl/\∀c,dZ c->¬jl c:=
 ⟨h.same (λc z I h2=>ht.bN c z I λh1=>aw c h1 h2) hle,λc h1 h2=>by rcases ht.grow c h1 with h3|h3;exact aw c h3 h2;exact h.base.2.2 c h2 h3⟩
def akg{Q:M tO}(h:P.Perm Q):(Pu P).Perm (Pu Q):=h.map _
def alj{ls:M az}(ad:(ls.map az.bz).Perm P)(ae:(P.map (·.1)).Nodup)(ag:ls.Pairwise λa b=>a.id<=b.id):(ls.map az.bz).Pairwise λa b=>a.1<b.1:=by
 rw[tu];have bS:(ls.map (·.id)).Nodup:=by rw[oE];exact((ad.map (·.1)).nodup_iff).2 ae
 rw[P8,tu] at bS;refine(ag.and bS).imp λ{x y} hv=>?_;have:=hv.1;have:=hv.2;show x.id<y.id;omega
def spec.Vv{X:aQ}{q:M o}{k:o}{K:U->U->U->o->H->Prop}(h:c4 ai u D b X)(Z:(aR X).length<=512)(iC:iF X<=2700)(ht:Ints u t q)
  (au:∀aD ss sr u' L,u.le u'->kQ u' aD L->(gE q X.an k 1000000=0->L=eT k.toNat ((Pu (aR X)).map (hp q)))->(gE q X.an k 1000000≠0->L=[])->K aD ss sr (gE q X.an k 1000000) u'):C.rX (some ⟨b,0,none⟩) t k 1000000 u K:=by
 refine spec.GU h iC ht (λal u' l=>au _ _ _ u' [] l (show kQ u' ⟨none,0,0⟩ [] from(aJ.nil (H.le.refl u') 0 3).own.cE) (λe=>aW e al) λ_=>rfl) λhe aD ss sr rest u' aE _=>?_
 have h2:=au aD ss sr u' _ aE.le aE.read.h (λ_=>(TV h Z he (by rw[awy])).1) λal=>aW he al
 rwa[he] at h2
def law.anj{qs:U}{ops:M mv}{q:M o}{k:o}(e2:jB u)(I:Rm u s t l ops)(xi:dh eJ)(aN:Ints u qs q)(h:∀u',u.le u'->K ak u'):
  C.VW s A B E F eJ t qs k u K:=by
 have Ox:=aN.len
 have ZB:=I.rows.len
 have dw:=I.VE
 apply aG.VW
 intro my h0
 refine spec.vf I ⟨λ_=>h u (H.le.refl u),λe=>(by cases e)⟩ λ_ vR _ _=>⟨λe=>(by cases e),λ_=>⟨λ_=>h u (H.le.refl u),λ_=>h0 _ _ ?_⟩⟩
 have fin:∀{dM:aK} {v:H},dM=ak->u.le v->K dM v:=λab aA=>by rw[ab];exact h _ aA
 have gk:∀{v:H},u.le v->C.im v (λ(WL:aK) (ad4:H)=>K WL ad4):=λlv=>spec.im (e2.mono lv) λu' bw=>h _ (lv.trans bw)
 refine spec.zj I.rows e2 xi (λal=>?_) (λhe b D X fA hF ad y6 uu r8=>?_)
 refine spec.zj (en.nil u) e2 xi (λrl=>?_) (λic fM jl kl u8 r3 _ _ _ _=>?_)
 intro tN jE
 exact⟨λ_=>gk (H.le.refl u),λe=>aW e al⟩
 intro tN jE
 exact⟨λ_=>gk r3.base.1,λe=>aW e al⟩
 have rC:=hF.base.1
 refine spec.zj (en.nil fA) (e2.mono rC) xi (λrl=>?_) (λic fM jl kl u8 r3 Tp ahv _ asR=>?_)
 intro tN jE
 exact⟨λJ=>aW rfl J,λ_=>⟨λ_=>gk rC,λe=>aW e rl⟩⟩
 intro tN jE
 refine⟨λJ=>aW rfl J,λ_=>⟨λJ=>aW rfl J,λ_=>⟨λe=>(by cases e),λ_=>⟨λe=>(by cases e),λ_=>jE _ _ ?_⟩⟩⟩⟩
 have YB:=hF.mono r3.base.1
 have Y0:∀c,jl c->¬D c:=λc h2 h1=>hF.base.2.2 c h1 (r3.base.2.1 c h2)
 have YD:=r3.l3 rC
 have SV:=TU he ad
 have fz:=abk he
 refine⟨⟨by omega,by omega⟩,λx v=>-1<=x/\x<s.n/\∃Ro yI,c4 u v D b X/\c4 u v Ro fM yI/\(∀c,Ro c->¬D c)/\yI.an=s.n*0+kl.an/\(aR yI).Perm ((l.drop (x+1).toNat).map az.bz)/\(iF yI:o)<=s.n-1-x,λx _=>(x+1).toNat,⟨by omega,by omega,jl,kl,YB,YD,Y0,by omega,?_,by omega⟩,λx v cv=>⟨λJ=>?_,λJ=>?_⟩⟩
 rw[sl (by omega)]
 exact Tp
 obtain⟨_,h1,Ro,yI,SC,YG,JF,ahu,vS,S4⟩:=cv
 have eR:x.toNat<l.length:=by omega
 obtain⟨p,jd,r,O,bJ,c1,_⟩:=(I.rows.mono SC.base.1).at J h1
 have C2:l[x.toNat]=r:=(jM.1 O).2
 have ku:r∈l:=dK O
 have xo:l.drop x.toNat=r::l.drop (x+1).toNat:=by rw[show(x+1).toNat=x.toNat+1 by omega,wo eR,C2]
 have bS:((l.drop x.toNat).map (·.id)).Nodup:=fz.nodup.sublist ((HI _ _).map _)
 rw[xo,gm,hI] at bS
 have dV:r.id∉(aR yI).map (·.1):=by rw[(vS.map (·.1)).mem_iff,<-oE];exact bS.1
 have atx:=vS.length_eq
 rw[de,oH] at atx
 have hlen:=fz.len
 refine⟨p,jd,⟨J,h1⟩,_,bJ,_,c1,?_⟩
 refine spec.O8 YG (by omega) e2 (I.rows.2 r ku) (λal=>aW ?_ al) λ_ b8 Ww anU i1 i2 i3 i4 i5 i6=>?_
 have vU:=fz.id r ku
 obtain⟨zi,xR⟩:=fz.v r ku
 have uI:gV r.v yI.an=0:=by rw[ahu,ahv,show(s.n:o)*0+(qs.n:o)=r.v.length by omega];exact zG xR (by have:=fz.an;omega)
 unfold fu
 rw[aF (by omega),aF (by rw[uI];simp),aF (by omega)]
 obtain⟨Jz,Dj⟩:=SC.beside i2 JF i1.base.1
 refine⟨⟨by omega,by omega⟩,⟨by omega,by omega,Ww,anU,Jz,i1,Dj,by omega,?_,by omega⟩,by dsimp only;omega⟩
 rw[show(x-1+1).toNat=x.toNat by omega,xo]
 refine i3.trans (kc _ ?_)
 refine(HL (p6.2 λy ah=>?_)).trans vS
 simp only[Qe,ne_eq]
 exact λe=>dV (bf.2 ⟨y,ah,e⟩)
 obtain⟨_,h1,Ro,yI,SC,YG,JF,ahu,vS,S4⟩:=cv
 rw[show(x+1).toNat=0 by omega,UQ] at vS
 have To:(aR X).Perm (aR yI):=ad.trans vS.symm
 have Y1:yI.an=X.an:=by omega
 have Zx:=fz.len
 refine spec.Us SC SV (by omega) e2 I.calls I.QQ λkf anm EW js GV avO _ abo abp avP=>?_
 obtain⟨YC,YZ⟩:=YG.beside abo (λc h1 h2=>JF c h2 h1) js.base.1
 refine spec.Us YC (by rw[<-To.length_eq];exact SV) (by omega) e2 I.calls I.QQ λEz ann Mb b3 cu jW _ DR Pb avR=>?_
 obtain⟨Jy,asl⟩:=js.beside DR (λc h1 h2=>YZ c h2 h1) b3.base.1
 have bX:(aR EW).Perm (aR Mb):=by refine abp.trans (wy ?_ Pb.symm);rw[Y1];exact akG To
 have Y2:Mb.an=EW.an:=by omega
 have xX:=b3.base.1
 refine spec.Vv Jy GV (by omega) (aN.mono xX) λaD ss sr vh EO BE M9 aS Xs=>?_
 refine spec.Vv (b3.mono BE) cu (by omega) (aN.mono (xX.trans BE)) λayU azd aza V2 EP G0 Na aB Mx=>?_
 rw[Y2] at aB Mx ⊢
 have Fj:EO=EP:=by by_cases he:gE q EW.an k 1000000=0;rw[aS he,aB he];exact Ad ((akg bX).map _);rw[Xs he,Mx he]
 have abL:=(xX.trans BE).trans G0
 refine spec.im (e2.mono abL) λAg sh=>⟨λ_=>⟨λ_=>?_,λJ=>aW rfl J⟩,λe=>(by cases e)⟩
 refine spec.wP (M9.mono (G0.trans sh)) (Na.mono sh) ⟨λ_=>?_,λab=>(by rw[mm Fj] at ab;cases ab)⟩
 have G1:=(BE.trans G0).trans sh
 refine spec.O9 (Jy.mono G1) λadn ls ad3 FE gq dO=>?_
 refine spec.O9 ((b3.mono G1).mono FE.own.le) λaCA aCk V3 ma eY dB=>?_
 refine spec.Ip (FE.rws.mono ma.own.le) ma.rws (fin (mm ?_) ?_)
 exact akH (alj gq Jy.Vj dO) (alj eY b3.Vj dB) (gq.trans (bX.trans eY.symm))
 exact((xX.trans G1).trans FE.own.le).trans ma.own.le
def law.ani{qs:U}{ops:M mv}{q:M o}{A' B' E' F' alC k:o}(e2:jB u)(I:Rm u s t l ops)(xi:dh eJ)(ag4:dh alC)(aN:Ints u qs q)(h:∀u',u.le u'->K ak u'):
  C.VV s A B E F eJ A' B' E' F' alC t qs k u K:=by
 have Ox:=aN.len
 apply aG.VV
 intro my h0
 refine spec.vf I ⟨λ_=>h u (H.le.refl u),λe=>(by cases e)⟩ λ_ vR _ _=>⟨λe=>(by cases e),λ_=>⟨λ_=>h u (H.le.refl u),λ_=>h0 _ _ ?_⟩⟩
 have fin:∀{dM:aK} {v:H},dM=ak->u.le v->K dM v:=λab aA=>by rw[ab];exact h _ aA
 have gk:∀{v:H},u.le v->C.im v (λ(WL:aK) (ad4:H)=>K WL ad4):=λlv=>spec.im (e2.mono lv) λu' bw=>h _ (lv.trans bw)
 refine spec.zj I.rows e2 xi (λal=>?_) (λhe b D X fA hF ad y6 _ r8=>?_)
 refine spec.zj I.rows e2 ag4 (λrl=>?_) (λic fM jl kl u8 r3 _ _ _ _=>?_)
 intro tN jE
 exact⟨λ_=>gk (H.le.refl u),λe=>aW e al⟩
 intro tN jE
 exact⟨λ_=>gk r3.base.1,λe=>aW e al⟩
 have rC:=hF.base.1
 refine spec.zj (I.rows.mono rC) (e2.mono rC) ag4 (λrl=>?_) (λic fM jl kl u8 r3 Tp ahv _ asR=>?_)
 intro tN jE
 exact⟨λJ=>aW rfl J,λ_=>⟨λ_=>gk rC,λe=>aW e rl⟩⟩
 intro tN jE
 refine⟨λJ=>aW rfl J,λ_=>⟨λJ=>aW rfl J,λ_=>⟨λe=>(by cases e),λ_=>⟨λe=>(by cases e),λ_=>jE _ _ ?_⟩⟩⟩⟩
 have YB:=hF.mono r3.base.1
 have Y0:∀c,jl c->¬D c:=λc h2 h1=>hF.base.2.2 c h1 (r3.base.2.1 c h2)
 have YD:=r3.l3 rC
 have SV:=TU he ad
 have asK:=TU ic Tp
 have To:(aR X).Perm (aR kl):=ad.trans Tp.symm
 have Y1:kl.an=X.an:=by omega
 refine spec.Us YB SV (by omega) e2 I.calls I.QQ λkf anm EW js GV avO _ abo abp avP=>?_
 obtain⟨YC,YZ⟩:=YD.beside abo (λc h1 h2=>Y0 c h2 h1) js.base.1
 refine spec.Us YC asK (by omega) e2 I.calls I.QQ λEz ann Mb b3 cu jW _ DR Pb avR=>?_
 obtain⟨Jy,asl⟩:=js.beside DR (λc h1 h2=>YZ c h2 h1) b3.base.1
 have bX:(aR EW).Perm (aR Mb):=by refine abp.trans (wy ?_ Pb.symm);rw[Y1];exact akG To
 have Y2:Mb.an=EW.an:=by omega
 have xX:=b3.base.1
 refine spec.Vv Jy GV (by omega) (aN.mono xX) λaD ss sr vh EO BE M9 aS Xs=>?_
 refine spec.Vv (b3.mono BE) cu (by omega) (aN.mono (xX.trans BE)) λayU azd aza V2 EP G0 Na aB Mx=>?_
 rw[Y2] at aB Mx ⊢
 have Fj:EO=EP:=by by_cases he:gE q EW.an k 1000000=0;rw[aS he,aB he];exact Ad ((akg bX).map _);rw[Xs he,Mx he]
 have abL:=(xX.trans BE).trans G0
 refine spec.im (e2.mono abL) λAg sh=>⟨λ_=>⟨λ_=>?_,λJ=>aW rfl J⟩,λe=>(by cases e)⟩
 refine spec.wP (M9.mono (G0.trans sh)) (Na.mono sh) ⟨λ_=>?_,λab=>(by rw[mm Fj] at ab;cases ab)⟩
 have G1:=(BE.trans G0).trans sh
 exact spec.DP (Jy.mono G1) (spec.DP (b3.mono G1) (fin (mm (by rw[bX.length_eq])) (xX.trans G1)))
open Go.ChangeShapes Go.WideShapes Go.ChangeAt Go.RowKit
def afo:aH.cellsOf 54=7:=by kernel_rfl
def ao6:aH.cellsOf 28=5:=by kernel_rfl
def ao7:aH.cellsOf 23=1:=by kernel_rfl
def ao8:aH.cellsOf 25=4:=by kernel_rfl
def aoN:aH.bytesOf 54=88:=by kernel_rfl
section
variable {jz:Type} {enc:dJ×ap->jz}
def aku{cs:M ap}{x:DataW jz×M MemPlace}(h:p5 enc aH bd 0 (λ_=>ak) ak fO 52 cs=some x)(hw:∀n∈x.1.weights aH 52,n<=qO):
  ∃(i:o) (s:U) (v:M o),cs=[.int .i64 i,.slice s.a s.n s.c]/\Ints (whole bd) s v/\v.length<=17592186044416:=by
 obtain⟨iI,jx,k,hv,hlen,ai,aU⟩:=trod_struct2 UR h
 rw[W8] at hlen
 match cs,hlen with
 | [v0,v1],_=>simp only[IZ,W7,Lj,List.take] at ai aU;obtain⟨q,e7,_,_⟩:=yg yf ai;simp only[uZ,rP] at e7;subst e7;obtain⟨s,rfl⟩:=cells_one aU;obtain⟨zs,aC,xT⟩:=Hl aU (λn ae=>hw n (by rw[hv];simp only[HK,show aH.underlying 52=some _ from UR];simp only[gm,zT,DataW.weightsEach,cN];exact .inr (.inl ae)));exact⟨q,s,zs,rfl,aC,xT⟩
def axe{cs:M ap}{x:DataW jz×M MemPlace}(h:p5 enc aH bd 0 (λ_=>ak) ak fO 54 cs=some x)(hw:∀n∈x.1.weights aH 54,n<=qO):
  ∃z:mv,cs=I8 z/\Ints (whole bd) z.wG z.v/\Ints (whole bd) z.qs z.q/\z.v.length<=17592186044416/\z.q.length<=17592186044416:=by
 obtain⟨xs,n,_,hv,hlen,eR,Z⟩:=DataW.trod_struct Tryz.underlying54 h
 rw[afo] at hlen
 match xs,eR,cs,hlen with
 | [iI,jx,lF,vj,yA,EH],_,[v0,v1,v2,v3,v4,v5,v6],_=>have f0:p5 enc aH bd 0 (λ_=>ak) ak n 3 (([v0,v1,v2,v3,v4,v5,v6].drop 0).take (aH.cellsOf 3))=some iI:=Z 0 _ rfl;have f1:p5 enc aH bd 0 (λ_=>ak) ak n 3 (([v0,v1,v2,v3,v4,v5,v6].drop 1).take (aH.cellsOf 3))=some jx:=Z 1 _ rfl;have f2:p5 enc aH bd 0 (λ_=>ak) ak n 3 (([v0,v1,v2,v3,v4,v5,v6].drop 2).take (aH.cellsOf 3))=some lF:=Z 2 _ rfl;have f3:p5 enc aH bd 0 (λ_=>ak) ak n 3 (([v0,v1,v2,v3,v4,v5,v6].drop 3).take (aH.cellsOf 3))=some vj:=Z 3 _ rfl;have f4:p5 enc aH bd 0 (λ_=>ak) ak n 52 (([v0,v1,v2,v3,v4,v5,v6].drop 4).take (aH.cellsOf 52))=some yA:=Z 4 _ rfl;have f5:p5 enc aH bd 0 (λ_=>ak) ak n 30 (([v0,v1,v2,v3,v4,v5,v6].drop 6).take (aH.cellsOf 30))=some EH:=Z 5 _ rfl;simp only[IZ,W7,W8,Lj,List.take] at f0 f1 f2 f3 f4 f5;obtain⟨wl,e7,_,_⟩:=yg yf f0;obtain⟨cM,aS,_,_⟩:=yg yf f1;obtain⟨c6,aB,_,_⟩:=yg yf f2;obtain⟨da,cW,_,_⟩:=yg yf f3;have b6:∀{t:dJ} {y:DataW jz×M MemPlace},∀m:N,m∈y.1.weights aH t->(t=52/\y=yA∨t=30/\y=EH)->m<=qO:=λm hm I=>hw m (by rw[hv];simp only[HK,show aH.underlying 54=some _ from Tryz.underlying54];simp only[gm,zT,DataW.weightsEach,cN];rcases I with⟨rfl,rfl⟩|⟨rfl,rfl⟩;exact .inr (.inr (.inr (.inr (.inl hm))));exact .inr (.inr (.inr (.inr (.inr (.inl hm))))));obtain⟨ayd,rs,wG,C2,O,kX⟩:=aku f4 (λm hm=>b6 m hm (.inl ⟨rfl,rfl⟩));obtain⟨qs,eq⟩:=cells_one f5;subst eq;obtain⟨zs,aC,xT⟩:=Hl f5 (λm hm=>b6 m hm (.inr ⟨rfl,rfl⟩));simp only[uZ,rP] at e7 aS aB cW C2;obtain⟨ap3,ap4⟩:=C2;subst e7 aS aB cW ap3 ap4;exact⟨⟨wl,cM,c6,da,ayd,rs,wG,qs,zs⟩,rfl,O,aC,kX,xT⟩
def PH{cs:cw ap}{x:DataW jz×M MemPlace}(h:p5 enc aH bd 0 (λ_=>ak) ak fO 28 cs.toList=some x):
  ∃a b c d s:o,dh s/\cs=#[.int .i64 a,.int .i64 b,.int .i64 c,.int .i64 d,.int .u64 s]:=by
 obtain⟨iI,jx,k,_,hlen,ai,aU⟩:=trod_struct2 Tryz.underlying28 h
 rw[ao6] at hlen
 obtain⟨cl⟩:=cs
 change cl.length=5 at hlen
 match cl,hlen with
 | [v0,v1,v2,v3,v4],_=>
  simp only[ao8,ao4,Lj,List.take] at ai aU;obtain⟨xs,n,_,_,_,eR,Z⟩:=DataW.trod_struct Tryz.underlying25 ai
  match xs,eR with
  | [z0,jk,z2,z3],_=>
   have f0:p5 enc aH bd 0 (λ_=>ak) ak n 23 (([v0,v1,v2,v3].drop 0).take (aH.cellsOf 23))=some z0:=Z 0 _ rfl;have f1:p5 enc aH bd 0 (λ_=>ak) ak n 3 (([v0,v1,v2,v3].drop 1).take (aH.cellsOf 3))=some jk:=Z 1 _ rfl;have f2:p5 enc aH bd 0 (λ_=>ak) ak n 3 (([v0,v1,v2,v3].drop 2).take (aH.cellsOf 3))=some z2:=Z 2 _ rfl;have f3:p5 enc aH bd 0 (λ_=>ak) ak n 3 (([v0,v1,v2,v3].drop 3).take (aH.cellsOf 3))=some z3:=Z 3 _ rfl;simp only[ao7,IZ,Lj,List.take] at f0 f1 f2 f3;obtain⟨m0,e7,_,_⟩:=yg Tryz.underlying23 f0;obtain⟨m1,aS,_,_⟩:=yg yf f1;obtain⟨m2,aB,_,_⟩:=yg yf f2;obtain⟨m3,cW,_,_⟩:=yg yf f3;obtain⟨m4,fN,_,l6⟩:=yg Tryz.underlying26 aU;simp only[uZ,rP] at e7 aS aB cW fN;subst e7 aS aB cW fN;refine⟨m0,m1,m2,m3,m4,?_,rfl⟩;simp only[Lit.wf,pr,KZ] at l6;have g1:HS .u64=0:=by decide
   have g2:HT .u64=18446744073709551615:=by decide
   rw[g1,g2] at l6;exact⟨l6.1,by omega⟩
instance:lN mv:=⟨⟨0,0,0,0,0,⟨none,0,0⟩,[],⟨none,0,0⟩,[]⟩⟩
def acm{a:ay bc}{len cap:N}{x:DataW jz×M MemPlace}(h:p5 enc aH bd 0 (λ_=>ak) ak fO 29 [.slice a len cap]=some x)(hw:∀n∈x.1.weights aH 29,n<=qO):
  ∃l:M mv,q2 (whole bd) ⟨a,len,cap⟩ l/\(∀z∈l,z.v.length<=17592186044416/\z.q.length<=17592186044416)/\len<=17592186044416:=by
 have O:qO=140737488351232:=by decide
 rcases Deep.open_slice Tryz.underlying29 h with⟨dD,_⟩|⟨p,l,c,m,n,D,anI,dD,ab,ar,hm,xD,J,eC⟩
 simp only[uZ,Li,rP] at dD
 obtain⟨rfl,rfl,rfl⟩:=dD
 exact⟨[],⟨⟨rfl,cA _,by simp,.inl rfl⟩,λ_ h=>(by cases h)⟩,λ_ h=>(by cases h),by omega⟩
 simp only[uZ,Li,rP] at dD
 obtain⟨rfl,rfl,rfl⟩:=dD
 simp only[qI] at xD
 subst xD
 rw[Hd] at hm
 have O1:∀k,k∈(((lM len).map D).length+((lM (m-len)).map λj=>D (len+j)).length)*aH.bytesOf 54::(HJ aH 54 ((lM len).map D)++HJ aH 54 ((lM (m-len)).map λj=>D (len+j)))->k<=qO:=by intro k hk;refine hw k ?_;rw[J];simp only[HK,show aH.underlying 29=some (.slice 54) from Tryz.underlying29];exact hk
 have kp:len*32<=qO:=by
  have:=O1 _ (fW ..);rw[aoN] at this;simp at this;have e:len+(m-len)=m:=by omega
  omega
 have each:∀i,i<len->∃z:mv,(∀j,j<7->bd.cell? ((p.add (i*7)).add j)=(I8 z)[j]?)/\(Ints (whole bd) z.wG z.v/\Ints (whole bd) z.qs z.q)/\z.v.length<=17592186044416/\z.q.length<=17592186044416:=by intro i hi;obtain⟨yP,h1,h2⟩:=eC i (by omega);rw[afo] at h1;obtain⟨_,hlen,fS⟩:=World.cells?_some h1;have aaX:∀n∈(D i).weights aH 54,n<=qO:=λn ae=>O1 n (gi _ (iQ _ (amY (i:=i) (d:=D i) (by simp[hi]) n ae)));obtain⟨z,rfl,aA,aN,zi,qA⟩:=axe h2 aaX;exact⟨z,fS,⟨aA,aN⟩,zi,qA⟩
 obtain⟨f,Z⟩:=Deep.choose_lt each
 have mI:((lM len).map f).length=len:=by simp
 refine⟨(lM len).map f,⟨⟨?_,ar,hm,.inr ⟨p,rfl,λj v e=>?_⟩⟩,λr O=>?_⟩,λr O=>?_,by omega⟩
 rw[nQ MC,mI]
 have aP:j<len*7:=by have:=(jM.1 e).1;rw[nQ MC,mI] at this;exact this
 have aS:j=j/7*7+j%7:=by omega
 have aw:j/7<len:=by omega
 rw[Wo]
 rw[aS,Jc MC _ _ _ (HH _ (by decide))] at e
 rw[iR,P7 aw] at e
 simp only[tr,PX] at e
 obtain⟨g0,_⟩:=Z (j/7) aw
 rw[aS,<-Addr.Az,g0 _ (HH _ (by decide)),e]
 obtain⟨i,hi,rfl⟩:=bf.1 O
 exact(Z i (by simpa using hi)).2.1
 obtain⟨i,hi,rfl⟩:=bf.1 O
 exact(Z i (by simpa using hi)).2.2
end
def av4:(akQ:DataW Unit)=Lib.tabData .u8 (Lib.deBruijn64tab.map Int.ofNat):=by kernel_rfl
def VR(h:laidMetH aH [("math/bits.deBruijn64tab",akQ)] bd):jB (whole bd):=by rw[MakeChecks.laidMetH_plain _ _ _ (by kernel_rfl),av4] at h;have ht:=Lib.tabIs_of_head (g:=0) (by kernel_rfl) (by kernel_rfl) Tryz.underlying281 Tryz.underlying5 (by kernel_rfl) (by kernel_rfl) h;intro w hw j aP;have I:=Lib.TabIs.cell ht (g:=0) (by kernel_rfl) j (by rw[de];exact aP);rw[<-Wo] at I;have:=hw.cell I;rw[this];simp[List.getD,cr aP]
end
