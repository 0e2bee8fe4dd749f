/- Texts of mine, joined and packed by pack.py. -/
import Derived.Test.YtejdhbfjjgcljaaGreatDoorMrd1
import Derived.Scope
import Derived.RangeFuncLeaves
import Derived.RangeFuncRecord
import Derived.Test.YtejdhbfjjgcljaaGreatDoorProg
import Derived.Laws.StructEq
import Derived.ChangeKeysEq
import Derived.KernelRfl
import Derived.Laws.MathBits
import Derived.Laws.Externs
import Derived.IntWalk
import Derived.DataElems
import Derived.Laws.AppendOwn
import Derived.Laws.MakeOwn
import Derived.Laws.Slices
import Derived.Laws.CopyRow
import Derived.MapKept
import Derived.ChangeMaps5
import Derived.Carry
set_option linter.all false
open _root_ renaming List->J,Nat->O,Option->aA,Array->cA,Int->o,Bool->ay,False->eg,absurd->bf
open Go renaming Program->dL,Value->ap,World->ci,Addr->a8,FuncId->j8,Operand->iv,Act->ek,TypeId->dC,undef->h9,Oper->eH,Exit->kX,Code->iW,madeCells->mF,MapEntry->zF
open Go.World renaming cell?->Jt
open Bool renaming true->ai,false->ao
open Nat renaming beq->km,blt->x3,ble->wv
open Go.IntKind renaming i64->b2,u64->bu
open Go.Fence renaming wide->vg
open Go.Instr renaming lookup->gY,mapUpdate->kW,makeMap->pr,makeSlice->qU,sliceAt->fZ,buildSlice->dA,findNow->Gq,findKey->Bx,checkKey->Dx
open Go.Builtin renaming append_->dO,zeroCells->wy
open Go.Result renaming ok->x4,andThen->jH
open Go.Op renaming equalIn->su,eqFields->ab9
open Array renaming replicate->Dv
open Go.Exit renaming noConfusion->rN
open Go.Proofs.Tryz renaming prog->aH
open Go.Value renaming agg->cz,bool->gZ,map->dP,int->cN
set_option maxRecDepth 100000
noncomputable section
namespace Go.Proofs.YtejdhbfjjgcljaaGreatDoor
open H
def x8:=@Go.Code.wp_mono
def Ol:=@Go.wpIn_wide
def Gm:=@Go.World.putObj_heap_same
def mE:=@Go.World.putObj_heap_other
def ib:=@Go.Addr.add_lit
def zG:=@Go.MapKept.run_getObj_map
def JG:=@Go.MapKept.run_setObj_map
section
variable{vs args:J ap}{ds bs da:J O}{u:H}{w':ci}{ss:J bk}{C:lq}{f:j8}{l:J (O×aI)}{p:O×gd}{ar:aM}
variable [sN]
structure qq where
 DM:J (O×aI)
 boxes:J (O×J aI)
def qq.pB(a:qq):J aI:=a.DM.map (·.2)++a.boxes.flatMap (·.2)
def Qv:J (O×qq)->O->aA qq
 | [],_=>none|(i,x)::r,j=>match km i j with
  |true=>some x|false=>Qv r j
def fI:iW->J O
 | .seq a b=>fI a++fI b| .cond _ a b=>fI a++fI b| .block _ b=>fI b| .loop b=>fI b| .scope b=>fI b| .region _ ops _=>ops.toList.filterMap λz=>z.dst|_=>[]
def GN(s:aM):J (O×aI)->aA (J ap)
 | []=>some []|(d,_)::r=>match(look s.env d).bind gd.val,GN s r with
  |some v,some vs=>some (v::vs)|_,_=>none
def QG(s:aM):J (O×J aI)->aA (J ap)
 | []=>some []|(i,cg)::r=>match s.loc[i]?,QG s r with
  |some cs,some vs=>match km cs.length cg.length with
   |true=>some (cs++vs)|false=>none
  |_,_=>none
def G8(s:aM)(aO:qq):aA (J ap):=
 match s.Ex with
 |none=>match GN s aO.DM,QG s aO.boxes with
  |some a,some b=>some (a++b)|_,_=>none
 |some _=>none
def HS:J (O×gd)->J (O×ap)
 | []=>[]|(d,x)::r=>match x.val with
  |some v=>(d,v)::HS r|none=>HS r
def DH:iW->aA iW
 | .rangeFunc g p x y=>some (.rangeFunc g p x y)| .seq a b=>match DH a with
  |some c=>some c|none=>DH b
 | .cond _ a b=>match DH a with
  |some c=>some c|none=>DH b
 | .block _ b=>DH b| .scope b=>DH b| .loop b=>DH b|_=>none
def J0(c:iW):iW:=(DH c).getD .skip
def nB(P:dL)(c:iW)(n:O)(env:J (O×ap))(u:H)(K:O->H->Prop):Prop:=
 ∀a w,a.tmps.size=n->(∀p∈env,a.tmps[p.1]?=some p.2)->a.defers=[]->Sub u w->
  c.wp P (λe cT w'=>e=.normal/\cT.tmps=a.tmps/\∃D u',cT.defers=La (some D)/\K D u'/\Step u [] w u' [] w') a w
def Uz:aI->ap->gd
 | .addr,.pointer (some p)=>.ptr p|_,v=>.v v
def anB(t:aI)(v:ap)(bs:J O):hv bs (Uz t v)=some v:=by unfold Uz;split<;>rfl
def z8:J (O×aI)->J ap->J (O×gd)
 |(d,t)::r,v::vs=>(d,Uz t v)::z8 r vs|_,_=>[]
def DL:J (J ap)->J (O×J aI)->J ap->J (J ap)
 |loc,[],_=>loc|loc,(i,cg)::r,vs=>DL (tV loc i (vs.take cg.length)) r (vs.drop cg.length)
def NG(ds:J O):J (O×gd)->J (O×gd)
 | []=>[]|(d,x)::r=>match gT ds d with
  |true=>NG ds r|false=>(d,x)::NG ds r
def o9(s:aM)(ds:J O)(aO:qq)(vs:J ap):aM:=
 {n:=s.n,env:=z8 aO.DM vs++NG ds s.env,loc:=DL s.loc aO.boxes (vs.drop aO.DM.length)}
def narrow(bC:O->ay)(Au:O)(oG:J (O×J aI))(i:O):ay:=
 match x3 i Au with
 |true=>gT (oG.map (·.1)) i && bC i|false=>ai
def BU(s:aM)(c:iv)(x:gd):aM:=
 match c with
 | .tmp t=>s.put (some t) x|_=>s
def hr(C:lq)(ij:J (O×qq)):iW->O->(O->ay)->(kX->aM->H->Prop)->aM->H->Prop
 | .skip,_,_,Q,s,u=>Q .normal s u| .label _,_,_,Q,s,u=>Q .normal s u| .ret,_,_,Q,s,u=>Q .ret s u| .exit id,_,_,Q,s,u=>Q (.exit id) s u| .seq x y,p,bC,Q,s,u=>match Qv ij p with
  |none=>hr C ij x (2*p) bC (λe ar u'=>match e with
   | .normal=>hr C ij y (2*p+1) bC Q ar u'|e=>Q e ar u') s u
  |some aO=>∀K:hp aO.pB (H->Prop),
    K1 aO.pB (λvs=>∀aR,hr C ij y (2*p+1) bC Q (o9 s (fI x) aO vs) aR->hU aO.pB K vs λr=>r aR)->
    hr C ij x (2*p) (narrow bC s.loc.length aO.boxes) (λe ar u'=>match e with
     | .normal=>match G8 ar aO with
      |some vs=>hU aO.pB K vs λr=>r u'|none=>eg
     |e=>Q e ar u') s u
 | .cond c x y,p,bC,Q,s,u=>match s.sv c with
  |some .iy=>hr C ij x (2*p) bC Q s u|some .kh=>hr C ij y (2*p+1) bC Q s u|some (.dec q _)=>(q->hr C ij x (2*p) bC Q (BU s c .iy) u)/\(¬q->hr C ij y (2*p+1) bC Q (BU s c .kh) u)|some (.va q _)=>(¬q->hr C ij x (2*p) bC Q (BU s c .iy) u)/\(q->hr C ij y (2*p+1) bC Q (BU s c .kh) u)|some (.v (.bool b))=>(b=ai->hr C ij x (2*p) bC Q (BU s c .iy) u)/\(b=ao->hr C ij y (2*p+1) bC Q (BU s c .kh) u)|_=>eg
 | .block id b,p,bC,Q,s,u=>hr C ij b (2*p) bC (λe ar u'=>match e with
  | .exit j=>match km j id with
   |true=>Q .normal ar u'|false=>Q (.exit j) ar u'
  |e=>Q e ar u') s u
 | .scope b,p,bC,Q,s,u=>hr C ij b (2*p) bC (λe ar u'=>match e with
  | .goto _=>eg|e=>Q e ar u') s u
 | .loop b,p,bC,Q,s,u=>match Qv ij p with
  |none=>eg|some aO=>match G8 s aO with
   |none=>eg|some Py=>∃dn:hp aO.pB (H->Prop),∃μ:hp aO.pB (H->O),(hU aO.pB dn Py λr=>r u)/\
     K1 aO.pB λvs=>∀aR,(hU aO.pB dn vs λr=>r aR)->
      hr C ij b (2*p) (narrow bC s.loc.length aO.boxes) (λe ar u'=>match e with
       | .normal=>match G8 ar aO with
        |some rV=>hU aO.pB dn rV λr=>hU aO.pB μ rV λm=>hU aO.pB μ vs λm0=>r u'/\m u'<m0 aR|none=>eg
       |e=>Q e ar u') (o9 s (fI b) aO vs) aR
 | .region _ ops ao,_,bC,Q,s,u=>J9 C bC ops ops.toList s u (Q .normal)| .rangeFunc g c9 x y,_,_,Q,s,u=>match s.Ex with
  |none=>nB C.P (.rangeFunc g c9 x y) s.n (HS s.env) u λD u'=>Q .normal {s with Ex:=some D} u'
  |some _=>eg
 | .region _ ops ai,_,bC,Q,s,u=>match Region.noSelect ops with
  |true=>match C.part with
   |false=>Ax C bC ops u (ops.size+1) (Dv ops.size ao) ai s u (Q .normal)|true=>∃v0:H,v0.le u/\w8 C bC ops v0 u (ops.size+1) (Dv ops.size ao) ai s u (Q .normal)
  |false=>eg
 |_,_,_,_,_,_=>eg
section
variable {C:lq} {bC:O->ay} {s:aM} {u:H} {bs:J O} {a:ek} {w:ci}
def mQ(bC:O->ay)(s:aM)(bs:J O)(u:H)(a:ek)(w:ci)(ds:J O)(Q:kX->aM->H->Prop)(e:kX)(cT:ek)(w':ci):Prop:=
 (∀c,e≠.panic c)/\∃ar u' da,Q e ar u'/\Fits ar da u' cT w'/\Step u bs w u' da w'/\Kept bC s ar/\∀d,gT ds d=ao->cT.tmps[d]?=a.tmps[d]?
def Dk(a b:J O)(d:O):gT (a++b) d=(gT a d ||gT b d):=by simp[gT]
def mQ.mono{Ey:J O}{Q:kX->aM->H->Prop}{e:kX}{cT:ek}(h:mQ bC s bs u a w ds Q e cT w')(av:∀d,gT Ey d=ao->gT ds d=ao):
  mQ bC s bs u a w Ey Q e cT w':=by
 obtain⟨h1,ar,u',da,h2,h3,br,bL,gA⟩:=h
 exact⟨h1,ar,u',da,h2,h3,br,bL,λd h=>gA d (av d h)⟩
def mQ.next{s1:aM}{aR:H}{afx:J O}{Y:ek}{e5:ci}{Q:kX->aM->H->Prop}{e:kX}{cT:ek}(ae:Step u bs w aR afx e5)(hk:Kept bC s s1)
  (az:∀d,gT ds d=ao->Y.tmps[d]?=a.tmps[d]?) (h:mQ bC s1 afx aR Y e5 ds Q e cT w'):mQ bC s bs u a w ds Q e cT w':=by
 obtain⟨h1,ar,u',da,h2,h3,br,bL,gA⟩:=h
 exact⟨h1,ar,u',da,h2,h3,ae.trans br,hk.trans bL,λd h=>(gA d h).trans (az d h)⟩
def Step.forget{u':H}{w:ci}(h:Step u bs w u' da w'):Step u bs w u' bs w':=
 ⟨h.sub,h.os,h.tape,h.output,h.drawn,h.size,h.rest,h.jB,[],by simp,by simp⟩
theorem amp(h:GN s l=some vs):vs.length=l.length:=by
 induction l generalizing vs with
 |nil=>simp[GN] at h;subst h;rfl|cons p r aW=>
  simp only[GN] at h
  grind
theorem aId{ws:J ap}(h:vs.length=l.length):z8 l (vs++ws)=z8 l vs:=by
 induction l generalizing vs with
 |nil=>
  cases vs with
  |nil=>cases ws<;>rfl
  |cons=>simp at h
 |cons p r aW=>
  cases vs with
  |nil=>simp at h|cons v vs=>simp only[x7,z8];grind
def aIe(ab:FitsE s bs a)(h:GN s l=some vs):
  ∀p∈z8 l vs,∃v,hv da p.2=some v/\a.tmps[p.1]?=some v:=by
 induction l generalizing vs with
 |nil=>intro p ad;simp[z8] at ad
 |cons q r aW=>
  simp only[GN] at h;split at h;rename_i v rV aB nj;cases h;intro p ad;simp only[z8] at ad;cases ad with
  |head=>simp only[ab3] at aB;obtain⟨x,M,Nz⟩:=aB;obtain⟨b9,h1,h2⟩:=ab.env _ (F2 M);simp only at h1 h2;rw[gd.US Nz bs] at h1;cases h1;exact⟨v,anB _ _ _,h2⟩
  |tail _ ad=>exact aW nj p ad
  cases h
theorem ax2{l:J (O×gd)}(h:p∈NG ds l):p∈l/\gT ds p.1=ao:=by
 induction l with
 |nil=>cases h
 |cons q r aW=>
  obtain⟨d,x⟩:=q;simp only[NG] at h
  grind
def OY:∀(oG:J (O×J aI)) (loc:J (J ap)) (vs:J ap),(DL loc oG vs).length=loc.length:=by
 intro oG;induction oG with
 |nil=>intro loc vs;rfl
 |cons p r aW=>intro loc vs;simp only[DL];rw[aW,T9]
theorem amh{Au:O}(aIZ:Au<=ar.loc.length):∀(oG:J (O×J aI)) (loc:J (J ap)) (vs:J ap),QG ar oG=some vs->loc.length=Au->
  (∀(i:O) (cs:J ap),loc[i]?=some cs->gT (oG.map (·.1)) i=ao->ar.loc[i]?=some cs)->∀(i:O) (cs:J ap),(DL loc oG vs)[i]?=some cs->ar.loc[i]?=some cs:=by
 intro oG
 induction oG with
 |nil=>intro loc vs _ _ h i cs e;exact h i cs e rfl
 |cons p r aW=>
  obtain⟨j,cg⟩:=p;intro loc vs h aq hk i cs e;simp only[QG] at h;split at h;rename_i yD rV aP nj;split at h;rename_i hlen;cases h;have avo:=sq hlen;simp only[DL] at e;rw[<-avo,List.take_left,List.drop_left] at e;refine aW (tV loc j yD) rV nj (by rw[T9];exact aq) ?_ i cs e;intro mc Eu aN hm;rw[acZ] at aN;split at aN
  grind
  rename_i l9;refine hk mc Eu aN ?_;simp only[iw,gT,List.any_cons,zD];refine⟨?_,hm⟩;cases aa:km mc j with
  |false=>rfl|true=>
   simp_all
  cases h;cases h
theorem Fits.o9{u':H}{cT:ek}{aO:qq}(ab:Fits s bs u a w)(df:Fits ar da u' cT w')(ae:Step u bs w u' da w')
  (hk:Kept (narrow bC s.loc.length aO.boxes) s ar) (az:∀d,gT ds d=ao->cT.tmps[d]?=a.tmps[d]?) (aB:G8 ar aO=some vs):
  Fits (o9 s ds aO vs) bs u' cT w':=by
 unfold G8 at aB
 split at aB
 rotate_left
 cases aB
 rename_i RH
 split at aB
 rename_i z6 q9 SC tv
 cases aB
 have R1:=amp SC
 obtain⟨ext,Mc,_⟩:=ae.more
 have aE:z8 aO.DM (z6++q9)=z8 aO.DM z6:=aId R1
 have av:(z6++q9).drop aO.DM.length=q9:=by grind
 refine⟨⟨by rw[df.defers,RH];rfl,by rw[df.n,hk.n];rfl,?_⟩,?_,?_,ab.nodup,?_,df.sub⟩
 intro p ad
 simp only[Go.Proofs.YtejdhbfjjgcljaaGreatDoor.o9,aE] at ad
 rcases dT.1 ad with ad|ad
 exact aIe df.toFitsE SC p ad
 obtain⟨h1,h2⟩:=ax2 ad
 obtain⟨v,h3,br⟩:=ab.env p h1
 grind
 simp only[Go.Proofs.YtejdhbfjjgcljaaGreatDoor.o9,OY];exact ab.len
 intro i cs e
 simp only[Go.Proofs.YtejdhbfjjgcljaaGreatDoor.o9,av] at e
 have bP:i<s.loc.length:=by rcases tK i s.loc.length with k|k;exact k;rw[wx (by rw[OY];exact k)] at e;cases e
 have h1:=amh hk.len aO.boxes s.loc q9 tv rfl (λj Eu aN hm=>by
  refine hk.same j Eu aN ?_;have Mn:j<s.loc.length:=by grind
  unfold narrow;have:x3 j s.loc.length=ai:=by simpa using Mn
  grind) i cs e
 obtain⟨b,T,h2,h3⟩:=df.loc i cs h1
 refine⟨b,T,?_,h3⟩
 rw[Mc,Gi (by rw[ab.len];exact bP)] at h2
 exact h2
 intro b aa
 exact df.cy b (by grind)
 cases aB
theorem WB{aO:qq}(hk:Kept (narrow bC s.loc.length aO.boxes) s ar)(aB:G8 ar aO=some vs):
  Kept (narrow bC s.loc.length aO.boxes) s (o9 s ds aO vs):=by
 unfold G8 at aB
 split at aB
 rotate_left
 cases aB
 rename_i RH
 split at aB
 rename_i z6 q9 SC tv
 cases aB
 have R1:=amp SC
 have av:(z6++q9).drop aO.DM.length=q9:=by grind
 refine⟨rfl,by simp only[o9,OY];exact cw _,λi cs e hw=>?_⟩
 simp only[o9,av]
 have bP:i<s.loc.length:=by grind
 have h1:=amh hk.len aO.boxes s.loc q9 tv rfl (λj Eu aN hm=>by
   refine hk.same j Eu aN ?_;have Mn:j<s.loc.length:=by grind
   unfold narrow;have:x3 j s.loc.length=ai:=by simpa using Mn
   grind) i
 have h2:=hk.same i cs e hw
 cases h3:(DL s.loc aO.boxes q9)[i]? with
 |none=>
  have:i<(DL s.loc aO.boxes q9).length:=by rw[OY];exact bP
  grind
 |some x=>
  grind
 cases aB
theorem abD{Au:O}{oG:J (O×J aI)}{s1 s2:aM}(I:s1.loc.length=Au)(k:Kept (narrow bC Au oG) s1 s2):Kept bC s1 s2:=by
 refine⟨k.n,k.len,λi cs e hw=>k.same i cs e ?_⟩;have bP:i<Au:=by grind
 unfold narrow;have:x3 i Au=ai:=by simpa using bP
 rw[this];simp[hw]
def aHZ{P:dL}{c:iW}{Q:kX->ek->ci->Prop}{G:Type}(dn:G->ek->ci->Prop)(μ:G->O)
  (round:∀g a w,dn g a w->c.wp P (Exit.then (λcT w'=>∃b5,dn b5 cT w'/\μ b5<μ g) Q) a w) {a:ek} {w:ci} (g:G) (h:dn g a w):(Code.loop c).wp P Q a w:=by
 intro b k cs
 have key:∀n g a w,μ g=n->dn g a w->
   ∃e cT w',Q e cT w'/\Arrives P (lone (b.at a (.code c:: .inLoop c::k)) cs w) b k cs e cT w':=by
  intro n
  induction n using Nat.strongRecOn with
  |_ n aW=>
   intro g a w ag cv;obtain⟨e,HA,Ko,aL,CR⟩:=round g a w cv b (.inLoop c::k) cs;cases e with
   |normal=>obtain⟨agO,asW,bP⟩:=aL;obtain⟨arO,apJ,aH5,awx,atM⟩:=aW (μ agO) (ag▸bP) agO HA Ko rfl asW;exact⟨arO,apJ,aH5,awx,.of_steps (Steps.trans CR (.one step_inLoop)) atM⟩
   |exit id=>exact⟨_,HA,Ko,aL,.pass (x:=.inLoop c) rfl (λ_ _=>.inl (by simp)) CR⟩|goto l=>exact⟨_,HA,Ko,aL,.pass (x:=.inLoop c) rfl (λ_ _=>.inl (by simp)) CR⟩|ret=>exact⟨_,HA,Ko,aL,.pass (x:=.inLoop c) rfl (λ_ _=>.inl (by simp)) CR⟩|panic HG=>exact⟨_,HA,Ko,aL,.pass (x:=.inLoop c) rfl (λ_ _=>.inl (by simp)) CR⟩|outgrown=>exact⟨_,HA,Ko,aL,.pass (x:=.inLoop c) rfl (λ_ _=>.inl (by simp)) CR⟩
 obtain⟨e,cT,w',aL,CR⟩:=key _ g a w rfl h
 exact⟨e,cT,w',aL,.of_steps (.one step_loop) CR⟩
def aEg{R:Type}{cg:J aI}{dn:hp cg R}{f g:R->Prop}(h:hU cg dn vs f)(YU:∀r,f r->g r):hU cg dn vs g:=by obtain⟨r,U⟩:=adW dn (Kl h);exact(U _).2 (YU _ ((U _).1 h))
def HL{id:O}{ops:cA eH}{bl:ay}{z:eH}(ac:z∈ops.toList){d:O}(av:z.dst=some d):gT (fI (.region id ops bl)) d=ai:=by simp only[fI,gT,List.any_eq_true];exact⟨d,List.mem_filterMap.2 ⟨z,ac,av⟩,Nat.beq_refl d⟩
def wR{c:iv}{x:gd}(ab:Fits s bs u a w)(M:hv bs x=some (a.eval c))(ag:∀t,c=.tmp t->(look s.env t).isSome=ai):Fits (BU s c x) bs u a w/\(BU s c x).loc=s.loc/\(BU s c x).n=s.n:=by
 cases c with
 |tmp t=>
  obtain⟨y,aj⟩:=Jv.1 (ag t rfl);obtain⟨v,h1,h2⟩:=ab.env _ (F2 aj);simp only at h1 h2;have fr:a.eval (.tmp t)=v:=by simp only[Act.eval];rw[JB,h2];rfl
  rw[fr] at M;have he:=ab.toFitsE.tell (d:=t) M h2;exact⟨ab.told ⟨he,(np _ _ _).1,(np _ _ _).2⟩,(np _ _ _).1,(np _ _ _).2⟩
 |const v=>exact⟨ab,rfl,rfl⟩|global g=>exact⟨ab,rfl,rfl⟩|func f=>exact⟨ab,rfl,rfl⟩
theorem arw{s:aM}{a:ek}(ab:FitsE s bs a):∀p∈HS s.env,a.tmps[p.1]?=some p.2:=by
 have key:∀l:J (O×gd),(∀p∈l,p∈s.env)->∀p∈HS l,a.tmps[p.1]?=some p.2:=by
  intro l;induction l with
  |nil=>intro _ p ad;cases ad
  |cons q r aW=>
   obtain⟨d,x⟩:=q;intro aq p ad;simp only[HS] at ad;split at ad;rename_i v aB;cases ad with
   |head=>obtain⟨b9,h1,h2⟩:=ab.env _ (aq _ (.head _));simp only at h1 h2;rw[gd.US aB bs] at h1;cases h1;exact h2
   |tail _ ad=>exact aW (λp ad=>aq p (.tail _ ad)) p ad
   grind
 grind
set_option maxHeartbeats 1000000 in
def TY:iW->ay
 | .seq a b| .cond _ a b=>TY a && TY b| .block _ b| .loop b| .scope b=>TY b| .rangeFunc ..=>ao|_=>ai
def aqT(fP:Good C)(ij:J (O×qq)):∀(c:iW),(TY c=ai∨sN.ds=[])->∀(p:O) (bC:O->ay) (Q:kX->aM->H->Prop) (s:aM) (u:H),hr C ij c p bC Q s u->
  ∀(bs:J O) (a:ek) (w:ci),Fits s bs u a w->c.wp C.P (mQ bC s bs u a w (fI c) Q) a w:=by
 intro c
 have base:∀(e:kX),(∀c,e≠.panic c)->∀(ds:J O) (bC:O->ay) (Q:kX->aM->H->Prop) (s:aM) (u:H) (bs:J O) (a:ek) (w:ci),Q e s u->Fits s bs u a w->
   mQ bC s bs u a w ds Q e a w:=λe he ds bC Q s u bs a w h ab=>⟨he,s,u,bs,h,ab,Step.refl ab.sub,Kept.refl _ _,λ_ _=>rfl⟩
 induction c with
 |skip=>intro cH p bC Q s u h bs a w ab;exact wp_skip (base _ (λ_=>rN) _ _ _ _ _ _ _ _ h ab)
 |label l=>intro cH p bC Q s u h bs a w ab;exact wp_label (base _ (λ_=>rN) _ _ _ _ _ _ _ _ h ab)
 |ret=>intro cH p bC Q s u h bs a w ab;exact wp_ret (base _ (λ_=>rN) _ _ _ _ _ _ _ _ h ab)
 |exit id=>intro cH p bC Q s u h bs a w ab;exact wp_exit (base _ (λ_=>rN) _ _ _ _ _ _ _ _ h ab)
 |goto l=>intro cH p bC Q s u h;exact h.elim
 |refuse r=>intro cH p bC Q s u h;exact h.elim
 |rangeFunc f c9 x y=>
  intro cH p bC Q s u h bs a w ab;simp only[hr] at h;split at h;rename_i av;have cH:=cH.resolve_left λe=>by cases e
  have aub:a.defers=[]:=by rw[ab.defers,av,cH];rfl
  refine x8 ?_ (h a w ab.n (arw ab.toFitsE) aub ab.sub);rintro e cT w' ⟨rfl,ht,D,u',qI,au,ae⟩;refine⟨λ_=>rN,_,u',bs,au,?_,ae.Mk bs,⟨rfl,cw _,λ_ _ h _=>h⟩,λ_ _=>by rw[ht]⟩;have jz:=ab.step ae;exact⟨⟨by rw[cH,ml];exact qI,by rw[ht];exact jz.n,λq aL=>by rw[ht];exact jz.env q aL⟩,jz.len,jz.loc,jz.nodup,jz.cy,jz.sub⟩;exact h.elim
 |region id ops bl=>
  intro cH p bC Q s u h bs a w ab;cases bl with
  |false=>simp only[hr] at h;refine Ol.1 (wpIn_region_list (amg fP none (ds:=gT (fI (.region id ops ao))) ops.toList s u bs a w h ab (.inl rfl) (λz ac d av=>HL ac av) ?_));intro ar u' da cT w' hk df ae iE az;exact⟨λ_=>rN,ar,u',da,hk,df,ae,iE,az⟩
  |true=>
   simp only[hr] at h;split at h;rename_i oR;have CU:Fits s bs u a {w with drawn:=w.drawn+1}:=⟨ab.toFitsE,ab.len,ab.loc,ab.nodup,ab.cy,ab.sub⟩;have hR:yr ops (Dv ops.size ao):=by
    intro j z _ aP;have:(Dv ops.size ao).getD j ao=ao:=by rw[JB,Array.getElem?_replicate];split<;>rfl
    rw[this] at aP;cases aP
   have te:Cb bC s bs u a {w with drawn:=w.drawn+1} (gT (fI (.region id ops ai))) (Q .normal) (mQ bC s bs u a w (fI (.region id ops ai)) Q .normal):=by intro ar u' da cT w' hk df ae iE az;exact⟨λ_=>rN,ar,u',da,hk,df,(Step.QT ab.sub (Bv _)).trans ae,iE,az⟩
   split at h;refine wp_region_any fP.mixed (aea (nd:=rG ops) (S:=jK s.loc bs u) _ _ _ _ ?_);exact af7 fP (ds:=gT (fI (.region id ops ai))) (gJ:=s.loc) (gl:=bs) oR (λc a w ad=>ad.1 c rfl) (λz ac d av=>HL ac av) _ _ _ s u h bs a _ _ CU hR (by unfold left;simp) (λ_=>⟨H.le.refl u,rfl,rfl⟩) ⟨[],by simp⟩ te;obtain⟨v0,y3,h⟩:=h;refine wp_region_any fP.mixed (aeb (R:=o6 ops s.loc bs v0 u) _ _ _ _ ?_);exact af6 fP (ds:=gT (fI (.region id ops ai))) (gJ:=s.loc) (gl:=bs) y3 oR (λc a w ad=>ad.1 c rfl) (λz ac d av=>HL ac av) _ _ _ s u h bs a _ _ CU hR (by unfold left;simp) (λ_=>⟨H.le.refl u,rfl,rfl⟩) ⟨[],by simp⟩ te;exact h.elim
 |seq x y we wg=>
  intro cH p bC Q s u h bs a w ab;have we:=we (cH.imp (λe=>((oV _ _).mp e).1) id);have wg:=wg (cH.imp (λe=>((oV _ _).mp e).2) id);have nH:∀d,gT (fI (.seq x y)) d=ao->gT (fI x) d=ao:=λd h=>by simp only[fI,Dk,zD] at h;exact h.1
  have yU:∀d,gT (fI (.seq x y)) d=ao->gT (fI y) d=ao:=λd h=>by simp only[fI,Dk,zD] at h;exact h.2
  simp only[hr] at h;split at h;refine wp_seq (x8 ?_ (we _ _ _ s u h bs a w ab));intro e cT w' ad;obtain⟨an,ar,u',da,aL,df,ae,hk,az⟩:=ad;cases e with
  |normal=>refine x8 ?_ (wg _ _ _ ar u' aL da cT w' df);intro aN a2 dF eX;exact mQ.next ae hk (λd av=>az d (nH d av)) (eX.mono yU)
  |exit id=>exact⟨an,ar,u',da,aL,df,ae,hk,λd av=>az d (nH d av)⟩|goto l=>exact⟨an,ar,u',da,aL,df,ae,hk,λd av=>az d (nH d av)⟩|ret=>exact⟨an,ar,u',da,aL,df,ae,hk,λd av=>az d (nH d av)⟩|panic c=>exact bf rfl (an c)|outgrown=>exact⟨an,ar,u',da,aL,df,ae,hk,λd av=>az d (nH d av)⟩
  rename_i aO _;have bZ:=h (NL aO.pB λvs aR=>hr C ij y (2*p+1) bC Q (o9 s (fI x) aO vs) aR) (by
   have all:∀(cg:J aI) (f:J ap->Prop),(∀vs,pG cg vs->f vs)->K1 cg f:=by
    intro cg;induction cg with
    |nil=>intro f ab;exact ab [] .nil
    |cons t cg aW=>intro f ab x;exact aW _ λvs nj=>ab _ (.cons x nj)
   refine all _ _ λvs nj aR h1=>?_;exact(Pn nj _).2 h1)
  refine wp_seq (x8 ?_ (we _ _ _ s u bZ bs a w ab));intro e cT w' ad;obtain⟨an,ar,u',da,aL,df,ae,hk,az⟩:=ad;have ma:Kept bC s ar:=abD rfl hk;cases e with
  |normal=>simp only at aL;split at aL;rename_i vs nj;have avc:=Kl aL;have aj:=(Pn avc _).1 aL;have aus:=ab.o9 df ae hk az nj;refine x8 ?_ (wg _ _ _ _ u' aj bs cT w' aus);intro aN a2 dF eX;exact mQ.next ae.forget (abD rfl (WB hk nj)) (λd av=>az d (nH d av)) (eX.mono yU);exact aL.elim
  |exit id=>exact⟨an,ar,u',da,aL,df,ae,ma,λd av=>az d (nH d av)⟩|goto l=>exact⟨an,ar,u',da,aL,df,ae,ma,λd av=>az d (nH d av)⟩|ret=>exact⟨an,ar,u',da,aL,df,ae,ma,λd av=>az d (nH d av)⟩|panic c=>exact bf rfl (an c)|outgrown=>exact⟨an,ar,u',da,aL,df,ae,ma,λd av=>az d (nH d av)⟩
 |cond c x y we wg=>
  intro cH p bC Q s u h bs a w ab;have we:=we (cH.imp (λe=>((oV _ _).mp e).1) id);have wg:=wg (cH.imp (λe=>((oV _ _).mp e).2) id);have nH:∀d,gT (fI (.cond c x y)) d=ao->gT (fI x) d=ao:=λd h=>by simp only[fI,Dk,zD] at h;exact h.1
  have yU:∀d,gT (fI (.cond c x y)) d=ao->gT (fI y) d=ao:=λd h=>by simp only[fI,Dk,zD] at h;exact h.2
  have M:∀(st:aM),a.eval c=.bool ai->Fits st bs u a w->(st.loc=s.loc/\st.n=s.n)->hr C ij x (2*p) bC Q st u->(Code.cond c x y).wp C.P (mQ bC s bs u a w (fI (.cond c x y)) Q) a w:=by intro st I E3 dS hw;refine wp_cond_true I (x8 ?_ (we _ _ _ st u hw bs a w E3));intro e cT w' ad;exact mQ.next (Step.refl ab.sub) ⟨dS.2,by rw[dS.1];exact cw _,λi cs e _=>by rw[dS.1];exact e⟩ (λ_ _=>rfl) (ad.mono nH)
  have aj:∀(st:aM),a.eval c=.bool ao->Fits st bs u a w->(st.loc=s.loc/\st.n=s.n)->hr C ij y (2*p+1) bC Q st u->(Code.cond c x y).wp C.P (mQ bC s bs u a w (fI (.cond c x y)) Q) a w:=by intro st I E3 dS hw;refine wp_cond_false I (x8 ?_ (wg _ _ _ st u hw bs a w E3));intro e cT w' ad;exact mQ.next (Step.refl ab.sub) ⟨dS.2,by rw[dS.1];exact cw _,λi cs e _=>by rw[dS.1];exact e⟩ (λ_ _=>rfl) (ad.mono yU)
  have iS:∀v,s.sv c=some v->∀t,c=.tmp t->(look s.env t).isSome=ai:=λv aB t ht=>by subst ht;simp only[aM.sv] at aB;rw[aB];rfl
  simp only[hr] at h;split at h;rename_i I;exact M s (eh (ab.sv I)).symm ab ⟨rfl,rfl⟩ h;rename_i I;exact aj s (eh (ab.sv I)).symm ab ⟨rfl,rfl⟩ h;rename_i q d I;have fr:=(eh (ab.sv I)).symm;by_cases aL:q;have aT:a.eval c=.bool ai:=by rw[fr];simp[aL]
  obtain⟨h1,h2⟩:=wR (x:=.iy) ab (by rw[aT];rfl) (iS _ I);exact M _ aT h1 h2 (h.1 aL);have aT:a.eval c=.bool ao:=by rw[fr];simp[aL]
  obtain⟨h1,h2⟩:=wR (x:=.kh) ab (by rw[aT];rfl) (iS _ I);exact aj _ aT h1 h2 (h.2 aL);rename_i q d I;have fr:=(eh (ab.sv I)).symm;by_cases aL:q;have aT:a.eval c=.bool ao:=by rw[fr];simp[aL]
  obtain⟨h1,h2⟩:=wR (x:=.kh) ab (by rw[aT];rfl) (iS _ I);exact aj _ aT h1 h2 (h.2 aL);have aT:a.eval c=.bool ai:=by rw[fr];simp[aL]
  obtain⟨h1,h2⟩:=wR (x:=.iy) ab (by rw[aT];rfl) (iS _ I);exact M _ aT h1 h2 (h.1 aL);rename_i b I;have fr:=(eh (ab.sv I)).symm;cases b with
  |true=>obtain⟨h1,h2⟩:=wR (x:=.iy) ab (by rw[fr];rfl) (iS _ I);exact M _ fr h1 h2 (h.1 rfl)
  |false=>obtain⟨h1,h2⟩:=wR (x:=.kh) ab (by rw[fr];rfl) (iS _ I);exact aj _ fr h1 h2 (h.2 rfl)
  exact h.elim
 |block id b aW=>
  intro cH p bC Q s u h bs a w ab;have aW:=aW cH;simp only[hr] at h;refine wp_block (x8 ?_ (aW _ _ _ s u h bs a w ab));intro e cT w' ad;obtain⟨an,ar,u',da,aL,df,ae,hk,az⟩:=ad;cases e with
  |exit j=>simp only at aL;simp only[Exit.inBlock];split at aL;rename_i aP;have:=sq aP;subst this;rw[b3 rfl];exact⟨λ_=>rN,ar,u',da,aL,df,ae,hk,az⟩;rename_i aP;rw[bF (λe=>by subst e;rw[Nat.beq_refl] at aP;cases aP)];exact⟨an,ar,u',da,aL,df,ae,hk,az⟩
  |normal=>exact⟨an,ar,u',da,aL,df,ae,hk,az⟩|goto l=>exact⟨an,ar,u',da,aL,df,ae,hk,az⟩|ret=>exact⟨an,ar,u',da,aL,df,ae,hk,az⟩|panic c=>exact bf rfl (an c)|outgrown=>exact⟨an,ar,u',da,aL,df,ae,hk,az⟩
 |scope b aW=>
  intro cH p bC Q s u h bs a w ab;have aW:=aW cH;simp only[hr] at h;refine wp_scope_straight (x8 ?_ (aW _ _ _ s u h bs a w ab));intro e cT w' ad;obtain⟨an,ar,u',da,aL,df,ae,hk,az⟩:=ad;cases e with
  |goto l=>exact aL.elim|exit j=>exact⟨an,ar,u',da,aL,df,ae,hk,az⟩|normal=>exact⟨an,ar,u',da,aL,df,ae,hk,az⟩|ret=>exact⟨an,ar,u',da,aL,df,ae,hk,az⟩|panic c=>exact bf rfl (an c)|outgrown=>exact⟨an,ar,u',da,aL,df,ae,hk,az⟩
 |loop b aW=>
  intro cH p bC Q s u h bs a w ab;have aW:=aW cH;simp only[hr] at h;split at h;exact h.elim;rename_i aO _;split at h;exact h.elim;rename_i Py ajP;obtain⟨dn,μ,h0,M3⟩:=h
  let Inv:(J ap×H)->ek->ci->Prop:=λg cT w'=>pG aO.pB g.1/\(hU aO.pB dn g.1 λr=>r g.2)/\Fits (o9 s (fI b) aO g.1) bs g.2 cT w'/\Step u bs w g.2 bs w'/\
   (∀d,gT (fI b) d=ao->cT.tmps[d]?=a.tmps[d]?)/\Kept (narrow bC s.loc.length aO.boxes) s (o9 s (fI b) aO g.1)
  let m:(J ap×H)->O:=λg=>(Classical.epsilon λn=>hU aO.pB μ g.1 λm=>n=m g.2)
  have hm:∀g,pG aO.pB g.1->∀f:(H->O)->Prop,hU aO.pB μ g.1 f->∃r,f r/\m g=r g.2:=by intro g Z f auw;obtain⟨r,U⟩:=adW μ Z;refine⟨r,(U _).1 auw,?_⟩;have:=Classical.epsilon_spec (p:=λn=>hU aO.pB μ g.1 λm=>n=m g.2) ⟨r g.2,(U _).2 rfl⟩;exact(U _).1 this
  have rn:=Kl h0;have au9:Kept (narrow bC s.loc.length aO.boxes) s (o9 s (fI b) aO Py):=WB (Kept.refl _ _) ajP;refine aHZ Inv m ?_ (Py,u) ⟨rn,h0,ab.o9 (bC:=bC) ab (Step.refl ab.sub) (Kept.refl _ _) (λ_ _=>rfl) ajP,Step.refl ab.sub,λ_ _=>rfl,au9⟩;rintro⟨vs,aR⟩ Y e5 ⟨p4,cv,xo,ea,AL,kj⟩;have aa:=apA M3 p4 aR cv;have aJl:(o9 s (fI b) aO vs).loc.length=s.loc.length:=by simp only[o9,OY]
  refine x8 ?_ (aW _ _ _ _ aR aa bs Y e5 xo);intro e cT w' ad;obtain⟨an,ar,u',da,aL,df,fS,hk,az⟩:=ad;have pV:Kept (narrow bC s.loc.length aO.boxes) s ar:=kj.trans hk;have ma:Kept bC s ar:=abD rfl pV;have c6:=ea.trans fS;have e8:∀d,gT (fI b) d=ao->cT.tmps[d]?=a.tmps[d]?:=λd av=>(az d av).trans (AL d av);cases e with
  |normal=>simp only at aL;split at aL;rename_i rV ajO;have SD:=Kl aL;refine⟨(rV,u'),⟨SD,aEg aL λr U=>?_,ab.o9 df c6 pV e8 ajO,c6.forget,e8,WB pV ajO⟩,?_⟩;obtain⟨m1,h1,_⟩:=hm (rV,u') SD _ U;obtain⟨m0,h2,_⟩:=hm (vs,aR) p4 _ h1;exact h2.1;obtain⟨r,U⟩:=adW dn SD;obtain⟨m1,h1,aT⟩:=hm (rV,u') SD _ ((U _).1 aL);obtain⟨m0,h2,fi⟩:=hm (vs,aR) p4 _ h1;rw[aT,fi];exact h2.2;exact aL.elim
  |exit id=>exact⟨an,ar,u',da,aL,df,c6,ma,e8⟩|goto l=>exact⟨an,ar,u',da,aL,df,c6,ma,e8⟩|ret=>exact⟨an,ar,u',da,aL,df,c6,ma,e8⟩|panic c=>exact bf rfl (an c)|outgrown=>exact⟨an,ar,u',da,aL,df,c6,ma,e8⟩
def sE(s:aM):J ResultVar->J bk->aA (J ap)
 | [],[]=>some []| .tmp d::rs,.one _::ss=>match(look s.env d).bind gd.val,sE s rs ss with
  |some v,some vs=>some (v::vs)|_,_=>none
 | .cell d _::rs,aC::ss=>match look s.env d,sE s rs ss with
  |some (.loc i off),some vs=>match s.loc[i]? with
   |some cs=>match wv (off+aC.im.length) cs.length with
    |true=>some ((cs.drop off).take aC.im.length++vs)|false=>none
   |none=>none
  |_,_=>none
 |_,_=>none
def wG(P:dL):J ResultVar->J bk->ay
 | [],[]=>ai| .tmp _::rs,.one _::ss=>wG P rs ss| .cell _ t::rs,aC::ss=>(match q5 P t,aC with
  |some (.one c),.one d=>(match c,d with
   | .int k,.int dY=>zh k dY| .bool,.bool=>ai| .str,.str=>ai| .ptr,.ptr=>ai| .slice,.slice=>ai| .map,.map=>ai| .val,.val=>ai|_,_=>ao)
  |some (.agg c),.agg d=>km c.length d.length|_,_=>ao) && wG P rs ss
 |_,_=>ao
def aru{t:aI}{v:ap}:CA (.one t::ss) (v::vs)=v::CA ss vs:=rfl
theorem aAw{P:dL}{s:aM}{a:ek}{w:ci}(ab:Fits s bs u a w):∀(rs:J ResultVar) (ss:J bk) (vs:J ap),sE s rs ss=some vs->wG P rs ss=ai->
  (rs.mapM (λ(r:ResultVar)=>match r with
   | .tmp t=>(pure (a.tmps.getD t h9):Sem ap)| .cell x t=>do loadVar t (<-asAddr (a.tmps.getD x h9)))).run P w=x4 (CA ss vs) w:=by
 intro rs
 induction rs with
 |nil=>
  intro ss vs h ac;cases ss with
  |nil=>simp[sE] at h;subst h;rfl|cons=>simp[sE] at h
 |cons r rs aW=>
  intro ss vs h ac;cases r with
  |tmp d=>
   cases ss with
   |nil=>simp[sE] at h|cons aC ss=>
    cases aC with
    |agg=>simp[sE] at h|one t=>
     simp only[sE] at h;split at h;rename_i v rV aB nj;cases h;have bR:wG P rs ss=ai:=ac;have h1:=aW ss rV nj bR;simp only[ab3] at aB;obtain⟨x,M,Nz⟩:=aB;obtain⟨b9,h2,h3⟩:=ab.env _ (F2 M);simp only at h2 h3;rw[gd.US Nz bs] at h2;cases h2;have Z:a.tmps.getD d h9=v:=by simp_all
     simp only[ab2,Z,pure_bind,eN,aru];rw[h1];rfl;cases h
  |cell d t=>
   cases ss with
   |nil=>simp[sE] at h|cons aC ss=>
    have U:sE s (.cell d t::rs) (aC::ss)=some vs:=h;simp only[sE] at U;split at U;rename_i i off rV av nj;split at U;rename_i cs aq;split at U;rename_i aa;cases U;have aa:=Gl aa;have jl:wG P (.cell d t::rs) (aC::ss)=ai:=ac;simp only[wG,oV] at jl;have h1:=aW ss rV nj jl.2;obtain⟨b9,h2,h3⟩:=ab.env _ (F2 av);simp only at h2 h3;obtain⟨b,T,j6,iN⟩:=ab.loc i cs aq;simp only[hv,j6,ll] at h2;subst h2;have Z:a.tmps.getD d h9=.pointer (some ⟨b,off,none⟩):=by simp_all
    have zf:(loadVar t ⟨b,off,none⟩).run P w=.ok (aC.take ((cs.drop off).take aC.im.length++rV)).1 w/\(aC.take ((cs.drop off).take aC.im.length++rV)).2=rV:=by
     have br:=jl.1;cases fM:q5 P t with
     |none=>grind|some BK=>
      rw[fM] at br;have hlen:BK.im.length=aC.im.length:=by cases BK<;>cases aC<;>simp only[bk.im] at br ⊢ <;>first|rfl|(exact sq br)|cases br
      have Mw:=aku (P:=P) (off:=off) iN BK.im.length 0 #[] (by rw[hlen];simpa using aa);have oN:=Jc fM ⟨b,off,none⟩ (vs:=(cs.drop off).take BK.im.length) (by simp;rw[hlen];omega) (by simpa using Mw) (by
       intro c I;subst I;have hX:aC.im.length=1:=by rw[<-hlen];rfl
       have bP:off<cs.length:=by omega
       simp only[bk.im,jq,sw] at hlen ⊢;refine⟨cs[off],?_,?_⟩;rw[qV bP];rfl;simp only[Jt,iN];simp[bP])
      rw[hlen] at oN;have ag:((cs.drop off).take aC.im.length).length=aC.im.length:=by simp;omega
      rw[oN];cases BK with
      |one pL=>
       cases aC with
       |agg _=>simp at br|one c=>
        simp only[bk.im,jq,sw] at ag ⊢
        match M:(cs.drop off).take 1,ag with
        | [x],_=>exact⟨rfl,rfl⟩
      |agg pL=>
       cases aC with
       |one _=>simp at br|agg c=>
        simp only[bk.im] at ag ⊢;refine⟨?_,?_⟩;simp only[bk.mk,bk.take]
        grind
        simp only[bk.take]
        grind
    have aE:asAddr (.pointer (some ⟨b,off,none⟩))=pure ⟨b,off,none⟩:=rfl;simp only[ab2,Z,aE,pure_bind,eN,zf.1,lm];rw[h1];simp only[CA,zf.2];rfl;cases U;cases U;cases U
def QX(d:aA O)(u:H)(f:H->Prop):Prop:=
 match d with
 |none=>f u|some D=>u D=some (.deferred (some []))/\f (u.ins D (.deferred none))
def CB(rs:J ResultVar)(ss:J bk)(K:hp (gW ss) (H->Prop)):kX->aM->H->Prop
 | .normal,s,u=>match sE s rs ss with
  |some vs=>QX s.Ex u λu=>hU (gW ss) K vs λr=>r u|none=>eg
 | .ret,s,u=>match sE s rs ss with
  |some vs=>QX s.Ex u λu=>hU (gW ss) K vs λr=>r u|none=>eg
 |_,_,_=>eg
def I1:O->J ap->J (O×gd)
 |_,[]=>[]|i,v::vs=>(i,.v v)::I1 (i+1) vs
theorem axO{i:O}(h:p∈I1 i vs):∃j v,vs[j]?=some v/\p=(i+j,.v v):=by
 induction vs generalizing i with
 |nil=>cases h
 |cons v vs aW=>
  simp only[I1] at h;cases h with
  |head=>simp_all|tail _ h=>obtain⟨j,b9,h1,h2⟩:=aW h;exact⟨j+1,b9,h1,by rw[h2];congr 1;omega⟩
omit [sN] in
theorem agF(fP:Good C){fn:Func}{c:iW}(uF:C.P.funcs[f]?=some fn)(aa:fn.body=some c)(ij:J (O×qq)){env:J (O×gd)}
  (xn:∀p∈env,∃v,args[p.1]?=some v/\hv [] p.2=some v) {ss:J bk} {u:H}
  {K:hp (gW ss) (H->Prop)} (ag:wv args.length fn.ntmps=ai) (U:wG C.P fn.results.toList ss=ai)
  (h:hr C ij c 1 (λ_=>ai) (CB fn.results.toList ss K) {n:=fn.ntmps,env:=env,loc:=[]} u):hD C.P f args.toArray ss u K:=by
 intro w hw
 refine Oj.1 (callsIn_of_wp_marks (F:=vg) (n:=0) uF aa trivial (Ol.2 ?_))
 have hle:=Gl ag
 have ab:Fits {n:=fn.ntmps,env:=env,loc:=[]} [] u {tmps:=args.toArray++Dv (fn.ntmps-args.toArray.size) h9,defers:=[]} w:=by
  refine⟨⟨rfl,by simp;omega,?_⟩,rfl,by simp,by simp,by simp,hw⟩;intro p ad;obtain⟨v,h1,h2⟩:=xn p ad;refine⟨v,h2,?_⟩;have bP:p.1<args.length:=by rcases tK p.1 args.length with k|k;exact k;rw[wx k] at h1;cases h1
  rw[alg (by simpa using bP)];simpa using h1
 have ae:=aqT fP ij c (.inr rfl) 1 _ _ _ u h [] _ w ab
 refine x8 ?_ ae
 intro e cT w' ad
 obtain⟨an,ar,u',da,aL,df,c6,_,_⟩:=ad
 have fin:∀vs,sE ar fn.results.toList ss=some vs->(QX ar.Ex u' λu'=>hU (gW ss) K vs λr=>r u')->
   LeavesInM vg 0 C.P fn cT.tmps (λe w'=>∃v1 aR,e=.returned v1/\(∃vs,pG (gW ss) vs/\v1=xb ss vs/\hU (gW ss) K vs λr=>r aR)/\Step u [] w aR [] w') cT.defers .returning w':=by
  intro vs aB au
  have kD:∀s2 cF HB a2 dF,Fits s2 HB cF a2 dF->a2.tmps=cT.tmps->sE s2 fn.results.toList ss=some vs->(results fn cT.tmps).run C.P dF=.ok (xb ss vs) dF:=by
   intro s2 cF HB a2 dF jz ht xJ;have om:=aAw (P:=C.P) jz fn.results.toList ss vs xJ U;rw[<-ht];unfold results;rw[eN];have aT:(fn.results.mapM (λ(r:ResultVar)=>match r with
     | .tmp t=>(pure (a2.tmps.getD t h9):Sem ap)
     | .cell x t=>do loadVar t (<-asAddr (a2.tmps.getD x h9)))).run C.P dF=x4 (CA ss vs).toArray dF:=by
    rw[Array.mapM_eq_mapM_toList,Sem.run_map,om]
    rfl
   refine(eI (λr=>jH r _) aT).trans ?_;simp only[lm];unfold xb;cases M:CA ss vs with
   |nil=>rfl|cons v l=>
    cases l with
    |nil=>rfl|cons v2 l=>rfl
  rw[df.defers]
  unfold QX at au
  split at au
  rename_i av
  rw[av]
  exact⟨_,kD ar u' da cT w' df rfl aB,_,u',rfl,⟨vs,Kl au,rfl,au⟩,c6.forget⟩
  rename_i D av
  rw[av]
  obtain⟨fe,au⟩:=au
  have ahc:=df.sub _ _ fe
  have uW:=run_takeDeferred (P:=C.P) ahc
  have aae:Step u' da w' (u'.ins D (.deferred none)) da (w'.putObj D (.deferred none)):=by
   have bP:=df.sub.lt fe;refine⟨λb x h=>?_,rfl,rfl,rfl,cw _,by simp,λb _ aa _=>?_,λb _ aa=>?_,[],by simp,by simp⟩;unfold H.ins at h;split at h;rename_i sb;subst sb;cases h;exact Gm bP;rename_i sb;rw[mE sb];exact df.sub b x h;exact mE λe=>by rw[e,fe] at aa;cases aa
   rw[bz _ _ λe=>by rw[e,fe] at aa;cases aa];exact aa
  have jz:Fits ar da (u'.ins D (.deferred none)) cT (w'.putObj D (.deferred none)):=by refine⟨df.toFitsE,df.len,λi cs e=>?_,df.nodup,λb aa=>?_,aae.sub⟩;obtain⟨b,T,h1,h2⟩:=df.loc i cs e;exact⟨b,T,h1,(mE λe=>by rw[e,ahc] at h2;cases h2).trans h2⟩;exact⟨aae.jB b (df.cy b aa).2 (df.cy b aa).1,by simpa using(df.cy b aa).2⟩
  refine⟨by simp,.inl ⟨D,_,rfl,uW,?_⟩⟩
  exact⟨_,kD ar _ da cT _ jz rfl aB,_,_,rfl,⟨vs,Kl au,rfl,au⟩,(c6.trans aae).forget⟩
 cases e with
 |normal=>simp only[CB] at aL;split at aL;rename_i vs aB;exact fin vs aB aL;exact aL.elim
 |ret=>simp only[CB] at aL;split at aL;rename_i vs aB;exact fin vs aB aL;exact aL.elim
 |exit id=>exact aL.elim
 |goto l=>exact aL.elim
 |panic c=>exact bf rfl (an c)
 |outgrown=>exact aL.elim
omit [sN] in
theorem ar4(fP:Good C){fn:Func}{c:iW}(uF:C.P.funcs[f]?=some fn)(aa:fn.body=some c)(ij:J (O×qq))
  {K:hp (gW ss) (H->Prop)} (ag:wv args.length fn.ntmps=ai) (U:wG C.P fn.results.toList ss=ai)
  (h:hr C ij c 1 (λ_=>ai) (CB fn.results.toList ss K) {n:=fn.ntmps,env:=I1 0 args,loc:=[]} u):hD C.P f args.toArray ss u K:=
 agF fP uF aa ij (λp ad=>by obtain⟨j,v,h1,rfl⟩:=axO ad;exact⟨v,by simpa using h1,rfl⟩) ag U h
def NB(zu:O):O->J ap->J (O×gd)
 |_,[]=>[]|i,v::vs=>(i,match x3 i zu with
  |true=>.v v|false=>Uz .addr v)::NB zu (i+1) vs
def axN{zu:O}{i:O}(h:p∈NB zu i vs):∃j v,vs[j]?=some v/\p.1=i+j/\hv [] p.2=some v:=by
 induction vs generalizing i with
 |nil=>cases h
 |cons v vs aW=>
  simp only[NB] at h;cases h with
  |head=>
   refine⟨0,v,rfl,rfl,?_⟩;cases x3 i zu with
   |true=>rfl|false=>exact anB _ _ _
  |tail _ h=>obtain⟨j,b9,h1,h2,h3⟩:=aW h;exact⟨j+1,b9,h1,by rw[h2];omega,h3⟩
omit [sN] in
theorem Lt(zu:O)(fP:Good C){fn:Func}(uF:C.P.funcs[f]?=some fn)(aa:fn.body.isSome=ai)(ij:J (O×qq))
  {K:hp (gW ss) (H->Prop)} (ag:wv args.length fn.ntmps=ai) (U:wG C.P fn.results.toList ss=ai)
  (h:hr C ij (fn.body.getD .skip) 1 (λ_=>ai) (CB fn.results.toList ss K) {n:=fn.ntmps,env:=NB zu 0 args,loc:=[]} u):hD C.P f args.toArray ss u K:=by
 cases I:fn.body with
 |none=>rw[I] at aa;cases aa
 |some c=>rw[I] at h;exact agF fP uF I ij (λp ad=>by obtain⟨j,v,h1,h2,h3⟩:=axN ad;exact⟨v,by rw[h2];simpa using h1,h3⟩) ag U h
omit [sN] in
theorem EG(fP:Good C){fn:Func}(uF:C.P.funcs[f]?=some fn)(aa:fn.body.isSome=ai)(ij:J (O×qq))
  {K:hp (gW ss) (H->Prop)} (ag:wv args.length fn.ntmps=ai) (U:wG C.P fn.results.toList ss=ai)
  (h:hr C ij (fn.body.getD .skip) 1 (λ_=>ai) (CB fn.results.toList ss K) {n:=fn.ntmps,env:=I1 0 args,loc:=[]} u):hD C.P f args.toArray ss u K:=by
 cases I:fn.body with
 |none=>rw[I] at aa;cases aa
 |some c=>rw[I] at h;exact ar4 fP uF I ij ag U h
end
end
section
variable{P:dL}{n:O}
def Dl(P:dL)(t:dC)(l:J ap):ap:=
 match rf P t with
 |true=>.agg l.toArray|false=>l.headD h9
def CH(P:dL)(k:dC->aA O):O->J Field->aA O
 |i,[]=>some i|i,f::r=>match f.name != "_",km f.offset i,k f.type,yh P f.type with
  |true,ai,some w,some w'=>match km w w' with
   |true=>CH P k (i+w) r|false=>none
  |_,_,_,_=>none
def yJ(P:dL):O->dC->aA O
 |0,_=>none|d+1,t=>match P.underlying t with
  |some (.int _)=>some 1|some (.struct aQ)=>match P.stoodInHeld t with
   |true=>none|false=>CH P (yJ P d) 0 aQ.toList
  |_=>none
def QZ:ap->ap->ay
 | .int _ a,.int _ b=>decide (a=b)|_,_=>ao
def s5:J ap->J ap->ay
 | [],[]=>ai|x::xs,y::eK=>QZ x y && s5 xs eK|_,_=>ao
def tI:J ap->J ap->ay
 | [],[]=>ai| .int k _::xs,.int dY _::eK=>zh k dY && tI xs eK|_,_=>ao
theorem arx:∀(l m:J ap) (W:Ch),yI l m=some W->tI l m=ai/\@decide W.p W.d=s5 l m:=by
 have one:∀x y W,Lm x y=some W->∃k a b,x=.int k a/\y=.int k b/\@decide W.p W.d=decide (a=b):=by
  intro x y W h;unfold Lm at h;split at h;rename_i k a dY b;split at h;rename_i hk;have:=NF hk;subst this
  grind
  cases h;cases h
 intro l;induction l with
 |nil=>
  intro m W h;cases m with
  |nil=>simp only[yI,ll] at h;subst h;exact⟨rfl,rfl⟩|cons=>simp[yI] at h
 |cons x l aW=>
  intro m W h;cases m with
  |nil=>cases l<;>simp[yI] at h
  |cons y m=>
   by_cases Mv:l=[]/\m=[];obtain⟨rfl,rfl⟩:=Mv;simp only[yI] at h;obtain⟨k,a,b,rfl,rfl,av⟩:=one _ _ _ h;refine⟨by simp[tI,aa8],?_⟩;rw[av];simp[s5,QZ]
   .have bZ:(match Lm x y,yI l m with
      |some a,some b=>some ⟨a.p/\b.p,@instDecidableAnd a.p b.p a.d b.d⟩
      |_,_=>(none:aA Ch))=some W:=by
     cases l with
     |nil=>cases m with
      |nil=>grind|cons=>exact h
     |cons=>exact h
    split at bZ
    rename_i a b az aa
    obtain⟨k,Y,e7,rfl,rfl,av⟩:=one _ _ _ az
    obtain⟨h1,h2⟩:=aW m b aa
    cases bZ
    refine⟨by simp[tI,aa8,h1],?_⟩
    simp only[s5,QZ,<-h2,<-av]
    grind
    cases bZ
def azG:∀(n:O) (l m:J ap),tI l m=ai->tI (l.take n) (m.take n)=ai/\tI (l.drop n) (m.drop n)=ai/\s5 l m=(s5 (l.take n) (m.take n) && s5 (l.drop n) (m.drop n)):=by
 intro n;induction n with
 |zero=>intro l m h;exact⟨rfl,h,by simp[s5]⟩
 |succ n aW=>
  intro l m h;cases l with
  |nil=>cases m with
   |nil=>exact⟨rfl,rfl,rfl⟩|cons=>simp[tI] at h
  |cons x l=>cases m with
   |nil=>cases x<;>simp[tI] at h
   |cons y m=>cases x<;>cases y<;>simp only[tI,Dw] at h;rw[oV] at h;obtain⟨h1,h2,h3⟩:=aW l m h.2;refine⟨by simp[tI,h.1,h1],h2,?_⟩;simp only[Jw,ab8,s5,h3,Bool.and_assoc]
theorem ak0{t:dC}{w:O}{xs:cA ap}{off:O}(ae:yh P t=some w)(hu:(P.underlying t).isSome=ai)(aq:rf P t=ao->1=w)(aa:off+w<=xs.size)(bJ:ci):
  (part t xs off).run P bJ=.ok (Dl P t ((xs.toList.drop off).take w)) bJ:=by
 obtain⟨d,av⟩:=Jv.1 hu
 unfold yh at ae
 cases hi:P.info? t with
 |none=>rw[hi] at ae;cases ae
 |some i=>
  rw[hi] at ae;cases ae;have dm:(sizeOf t).run P bJ=.ok i.size bJ:=by simp[sizeOf,run_typeInfo bJ hi]
  cases Z:rf P t with
  |true=>
   have:(isAgg t).run P bJ=.ok ai bJ:=by unfold rf at Z;rw[av] at Z;cases d<;>simp only[Dw] at Z<;>simp[isAgg,ia av]
   simp only[part,eN,this,lm,x5,dm,Dl,Z];simp only[Sem.run_pure];congr 2
   grind
  |false=>
   have h1:1=i.size:=aq Z;have bP:off<xs.size:=by grind
   have:(isAgg t).run P bJ=.ok ao bJ:=by unfold rf at Z;rw[av] at Z;cases d<;>simp only[Bool.true_eq_false] at Z<;>simp[isAgg,ia av]
   simp only[part,eN,this,lm,Dw,Gn,Dl,Z];rw[Og bP];simp only[Sem.run_pure];congr 1;rw[<-h1,qV (by simpa using bP)];simp
theorem ar0{d:O}{t:dC}(h:yJ P d t=some n):(P.underlying t).isSome=ai/\(rf P t=ao->1=n):=by
 cases d with
 |zero=>simp[yJ] at h|succ d=>
  simp only[yJ] at h;split at h
  grind
  rename_i hu;exact⟨by rw[hu];rfl,λe=>by simp[rf,hu] at e⟩;cases h
theorem arE(bJ:ci):∀(d:O) (t:dC) (n e:O) (l m:J ap),yJ P d t=some n->l.length=n->m.length=n->tI l m=ai->
  (su (d+e) t (Dl P t l) (Dl P t m)).run P bJ=.ok (s5 l m) bJ:=by
 intro d
 induction d with
 |zero=>intro t n e l m h;simp[yJ] at h
 |succ d aW=>
  intro t n e l m h aq hm ad;rw[show d+1+e=(d+e)+1 by omega];simp only[yJ] at h;split at h;rename_i k hu;cases h;have Z:rf P t=ao:=by simp[rf,hu]
  match l,m,aq,hm with
  | [x],[y],_,_=>cases x<;>cases y<;>simp only[tI,Dw] at ad;rw[oV] at ad;have:=NF ad.1;subst this;simp only[Dl,Z,List.headD_cons];rw[run_equalIn_int bJ (d+e) t _ k _ _ hu];simp[s5,QZ,BEq.beq]
  .rename_i aQ hu;split at h;cases h
   .rename_i ae;have Z:rf P t=ai:=by simp[rf,hu]
    have r6:P.fieldsOf t=aQ:=by simp[Program.fieldsOf,hu]
    simp only[Dl,Z];rw[run_equalIn_struct bJ (d+e) t _ _ (by rw[r6];exact hu) ae,r6];have key:∀(pb:J Field) (i:O),CH P (yJ P d) i pb=some n->i<=n->tI (l.drop i) (m.drop i)=ai->
      (ab9 (d+e) l.toArray m.toArray pb).run P bJ=.ok (s5 (l.drop i) (m.drop i)) bJ:=by
     intro pb
     induction pb with
     |nil=>intro i hi hle A5;simp only[CH,ll] at hi;subst hi;rw[Tx (by omega),Tx (by omega)];simp[ab9,s5]
     |cons f pb axK=>
      intro i hi hle A5;simp only[CH] at hi;split at hi;rename_i w w' ag ac hk dm;split at hi;rename_i Nw;have Nw:=sq Nw;subst Nw;have ac:=sq ac;have an:f.name≠ "_" :=by simpa using ag
      have avC:∀(pb:J Field) (j:O),CH P (yJ P d) j pb=some n->j<=n:=by
       intro pb;induction pb with
       |nil=>intro j aP;simp only[CH,ll] at aP;omega
       |cons g pb aKf=>
        intro j aP;simp only[CH] at aP
        grind
      have xu:=avC pb _ hi;obtain⟨Nr,ahy⟩:=ar0 hk;have ft:=ak0 (xs:=l.toArray) (off:=f.offset) dm Nr ahy (by simp;omega) bJ;have eX:=ak0 (xs:=m.toArray) (off:=f.offset) dm Nr ahy (by simp;omega) bJ;obtain⟨nL,p1,nM⟩:=azG w _ _ A5;have aL:=aW f.type w e ((l.drop i).take w) ((m.drop i).take w) hk (by simp;omega) (by simp;omega) nL;rw[ac] at ft eX;simp only[ab9,b3 an,ac,eN,ft,eX,lm,aL];rw[nM];have U:=axK (i+w) hi xu (by simp_all);rw[<-Gp,<-Gp] at U;cases s5 ((l.drop i).take w) ((m.drop i).take w) with
      |true=>simpa using U|false=>simp
      cases hi;cases hi
    grind
  cases h
def Xv(P:dL)(t n:O):ay:=
 match yJ P 10 t with
 |some k=>km k n && !P.eqGuardType P.depth t && rf P t|none=>ao
def arD{t:O}(h:Xv P t n=ai)(xs eK:cA ap)(W:Ch)(h1:xs.toList.length=n)(h2:eK.toList.length=n)(he:yI xs.toList eK.toList=some W)(x y:iv)(w:ci):
  (eqGuard .eql t x y (.agg xs) (.agg eK)).run P w=.ok () w/\(eqGuard .neq t x y (.agg xs) (.agg eK)).run P w=.ok () w/\
  (Op.equal t (.agg xs) (.agg eK)).run P w=.ok (@decide W.p W.d) w:=by
 unfold Xv at h
 split at h
 rename_i k hk
 simp only[oV,Tw] at h
 obtain⟨⟨aq,Z⟩,az⟩:=h
 have aq:=sq aq
 subst aq
 obtain⟨ad,av⟩:=arx _ _ _ he
 refine⟨run_eqGuard_agg w .eql t x y xs eK Z,run_eqGuard_agg w .neq t x y xs eK Z,?_⟩
 have:=arE w 10 t k 9990 _ _ hk h1 h2 ad
 simp only[Dl,az] at this
 rw[av]
 exact this
 cases h
def akP(P:dL):ay:=P.funcs.toList.all λfn=>(fn.name== "runtime.NumGoroutine")==ao
def azl(h:akP P=ai)(f:j8)(fn:Func)(e:P.funcs[f]?=some fn):(fn.name== "runtime.NumGoroutine")=ao:=by have:=Oc.1 h fn (Tl.2 (Array.mem_of_getElem? e));simpa using this
theorem arB{l:J (O×O)}{t:O}(h:Ln l t=some n):(t,n)∈l:=by
 induction l with
 |nil=>cases h
 |cons p r aW=>
  obtain⟨a,b⟩:=p;simp only[Ln] at h;split at h
  simp_all
  exact .tail _ (aW h)
def asl{io:J (O×O)}(h1:akP P=ai)(h2:P.follows .mixedOrders=ai)(h3:(io.all λp=>Xv P p.1 p.2)=ai)(exp:J O)(wrap:ay){oK oU:J O}{part:ay}:
  Good {P:=P,exp:=exp,wrap:=wrap,io:=io,oK:=oK,oU:=oU,part:=part}:=
 ⟨azl h1,h2,λ_ _ h xs eK W dN eZ he x y w=>arD (Oc.1 h3 _ (arB h)) xs eK W dN eZ he x y w⟩
end
section
variable{u u' ak:H}{s:N}{P:dL}{size bytes g i b:O}{e t k:dC}{xs zs eK:J ap}{l:J o}{x:o}{w:ci}{K:N->H->Prop}{ss:J bk}
def io:J (O×O):=[(66,2),(68,3),(25,4)]
def od(exp:J O)(wrap:ay){oK oU:J O}{part:ay}:Good {P:=aH,exp:=exp,wrap:=wrap,io:=io,oK:=oK,oU:=oU,part:=part}:=asl (by kernel_rfl) (by kernel_rfl) (by kernel_rfl) exp wrap
abbrev bU:=aA a8
abbrev bp:N:=⟨none,0,0⟩
abbrev vs(s:N):ap:=.slice s.a s.n s.c
abbrev af(x:o):ap:=.int .i64 x
abbrev bj(x:o):ap:=.int .u64 x
abbrev aX(x:bU):ap:=.pointer x
abbrev aG(r:a8)(x:o)(k:O):a8:=r.add (x.toNat*k)
abbrev am(n:O):a8:=⟨n,0,none⟩
abbrev bb:J bk:=[.one .slice]
abbrev cv:J bk:=[.one (.int .i64)]
abbrev cH:J bk:=[.one .bool]
abbrev ep:J bk:=[.one .ptr]
abbrev Q:=H->Prop
abbrev bq(f:j8)(a:cA ap)(ss:J bk)(u:H)(K:hp (gW ss) Q):Prop:=hD aH f a ss u K
abbrev lt(u:H)(k:Q):Prop:=k u
abbrev bd(m:Sem ap)(ss:J bk)(u:H)(K:hp (gW ss) (H->Prop)):Prop:=c7 aH m ss u K
abbrev oa(v:ap)(a:cA ap)(ss:J bk)(u:H)(K:hp (gW ss) (H->Prop)):Prop:=ua aH v a ss u K
abbrev qB(v:ap)(n:String)(a:cA ap)(ss:J bk)(u:H)(K:hp (gW ss) (H->Prop)):Prop:=nv aH v n a ss u K
abbrev a1(s:N)(x:o)(k:a8->Prop):Prop:=∃r,s.a=some r/\((0:o)<=x/\x<(s.n:o))/\k r
abbrev bl(p:bU)(k:a8->Prop):Prop:=∃r,p=some r/\k r
abbrev aS(u:H)(a:a8)(k:o->Prop):Prop:=∃x,u.cell? a=some (af x)/\k x
abbrev c8(u:H)(a:a8)(k:o->Prop):Prop:=∃x,u.cell? a=some (bj x)/\k x
abbrev bc(u:H)(a:a8)(k:N->Prop):Prop:=∃x:N,u.cell? a=some (vs x)/\k x
abbrev eF(u:H)(a:a8)(k:bU->Prop):Prop:=∃x,u.cell? a=some (aX x)/\k x
abbrev fm(u:H)(a:a8)(k:aA O->Prop):Prop:=∃x,u.cell? a=some (.map x)/\k x
abbrev u6(u:H)(a:a8)(k:ay->Prop):Prop:=∃x,u.cell? a=some (.bool x)/\k x
abbrev p7(u:H)(a:a8)(k:ap->Prop):Prop:=∃x,u.cell? a=some x/\k x
abbrev aF(c A B:Prop):Prop:=(c->A)/\(¬c->B)
abbrev b4(c A B:Prop):Prop:=(¬c->A)/\(c->B)
abbrev dx(b:ay)(A B:Prop):Prop:=(b=ai->A)/\(b=ao->B)
abbrev dW(u:H)(k:O->Prop):Prop:=∀n,u n=none->k n
abbrev NO(u:H)(f:(H->Prop)->H->Prop):Prop:=∃dn:H->Prop,∃cq:H->O,dn u/\∀v,dn v->f (λw=>dn w/\cq w<cq v) v
abbrev ty(g:H->Prop)(f:(H->Prop)->Prop):Prop:=∀K:H->Prop,(∀u,g u->K u)->f K
abbrev fD(α:Type)(i0:α)(u:H)(f:(α->H->Prop)->α->H->Prop):Prop:=∃dn:α->H->Prop,∃cq:α->H->O,dn i0 u/\∀bK v,dn bK v->f (λhJ w=>dn hJ w/\cq hJ w<cq bK v) bK v
abbrev fl(α:Type)(g:α->H->Prop)(f:(α->H->Prop)->Prop):Prop:=∀K:α->H->Prop,(∀bK u,g bK u->K bK u)->f K
abbrev gj(α:Type)(β:Type)(i0:α)(i1:β)(u:H)(f:(α->β->H->Prop)->α->β->H->Prop):Prop:=∃dn:α->β->H->Prop,∃cq:α->β->H->O,dn i0 i1 u/\∀bK dr v,dn bK dr v->f (λhJ ii w=>dn hJ ii w/\cq hJ ii w<cq bK dr v) bK dr v
abbrev u2(α:Type)(β:Type)(g:α->β->H->Prop)(f:(α->β->H->Prop)->Prop):Prop:=∀K:α->β->H->Prop,(∀bK dr u,g bK dr u->K bK dr u)->f K
abbrev wj(α:Type)(β:Type)(γ:Type)(i0:α)(i1:β)(i2:γ)(u:H)(f:(α->β->γ->H->Prop)->α->β->γ->H->Prop):Prop:=∃dn:α->β->γ->H->Prop,∃cq:α->β->γ->H->O,dn i0 i1 i2 u/\∀bK dr x2 v,dn bK dr x2 v->f (λhJ ii jI w=>dn hJ ii jI w/\cq hJ ii jI w<cq bK dr x2 v) bK dr x2 v
abbrev aa4(α:Type)(β:Type)(γ:Type)(g:α->β->γ->H->Prop)(f:(α->β->γ->H->Prop)->Prop):Prop:=∀K:α->β->γ->H->Prop,(∀bK dr x2 u,g bK dr x2 u->K bK dr x2 u)->f K
abbrev zl(α:Type)(β:Type)(γ:Type)(δ:Type)(i0:α)(i1:β)(i2:γ)(i3:δ)(u:H)(f:(α->β->γ->δ->H->Prop)->α->β->γ->δ->H->Prop):Prop:=∃dn:α->β->γ->δ->H->Prop,∃cq:α->β->γ->δ->H->O,dn i0 i1 i2 i3 u/\∀bK dr x2 j0 v,dn bK dr x2 j0 v->f (λhJ ii jI o2 w=>dn hJ ii jI o2 w/\cq hJ ii jI o2 w<cq bK dr x2 j0 v) bK dr x2 j0 v
abbrev aKg(α:Type)(β:Type)(γ:Type)(δ:Type)(g:α->β->γ->δ->H->Prop)(f:(α->β->γ->δ->H->Prop)->Prop):Prop:=∀K:α->β->γ->δ->H->Prop,(∀bK dr x2 j0 u,g bK dr x2 j0 u->K bK dr x2 j0 u)->f K
abbrev akw(α:Type)(β:Type)(γ:Type)(δ:Type)(ε:Type)(i0:α)(i1:β)(i2:γ)(i3:δ)(i4:ε)(u:H)(f:(α->β->γ->δ->ε->H->Prop)->α->β->γ->δ->ε->H->Prop):Prop:=∃dn:α->β->γ->δ->ε->H->Prop,∃cq:α->β->γ->δ->ε->H->O,dn i0 i1 i2 i3 i4 u/\∀bK dr x2 j0 pD v,dn bK dr x2 j0 pD v->f (λhJ ii jI o2 qp w=>dn hJ ii jI o2 qp w/\cq hJ ii jI o2 qp w<cq bK dr x2 j0 pD v) bK dr x2 j0 pD v
abbrev ayp(α:Type)(β:Type)(γ:Type)(δ:Type)(ε:Type)(ζ:Type)(i0:α)(i1:β)(i2:γ)(i3:δ)(i4:ε)(i5:ζ)(u:H)(f:(α->β->γ->δ->ε->ζ->H->Prop)->α->β->γ->δ->ε->ζ->H->Prop):Prop:=∃dn:α->β->γ->δ->ε->ζ->H->Prop,∃cq:α->β->γ->δ->ε->ζ->H->O,dn i0 i1 i2 i3 i4 i5 u/\∀bK dr x2 j0 pD qo v,dn bK dr x2 j0 pD qo v->f (λhJ ii jI o2 qp sM w=>dn hJ ii jI o2 qp sM w/\cq hJ ii jI o2 qp sM w<cq bK dr x2 j0 pD qo v) bK dr x2 j0 pD qo v
abbrev ayq(α:Type)(β:Type)(γ:Type)(δ:Type)(ε:Type)(ζ:Type)(η:Type)(i0:α)(i1:β)(i2:γ)(i3:δ)(i4:ε)(i5:ζ)(i6:η)(u:H)(f:(α->β->γ->δ->ε->ζ->η->H->Prop)->α->β->γ->δ->ε->ζ->η->H->Prop):Prop:=∃dn:α->β->γ->δ->ε->ζ->η->H->Prop,∃cq:α->β->γ->δ->ε->ζ->η->H->O,dn i0 i1 i2 i3 i4 i5 i6 u/\∀bK dr x2 j0 pD qo tZ v,dn bK dr x2 j0 pD qo tZ v->f (λhJ ii jI o2 qp sM B3 w=>dn hJ ii jI o2 qp sM B3 w/\cq hJ ii jI o2 qp sM B3 w<cq bK dr x2 j0 pD qo tZ v) bK dr x2 j0 pD qo tZ v
def aQ(e:J O){args:J ap}{f:j8}{fn:Func}(ab:aH.funcs[f]?=some fn)(ij:J (O×qq)){K:hp (gW ss) (H->Prop)}{P:Prop}(h:P)(aa:fn.body.isSome=ai:=by kernel_rfl)(ag:wv args.length fn.ntmps=ai:=by kernel_rfl)(U:wG aH fn.results.toList ss=ai:=by kernel_rfl)(ep:P=hr {P:=aH,exp:=e,wrap:=ao,io:=io,oK:=[],oU:=[]} ij (fn.body.getD .skip) 1 (λ_=>ai) (CB fn.results.toList ss K) {n:=fn.ntmps,env:=I1 0 args,loc:=[]} u:=by kernel_rfl):hD aH f args.toArray ss u K:=EG (od _ _) ab aa ij ag U (Eq.mp ep h)
abbrev bE:aI:=.int .i64
abbrev aO(n:O)(l:J (O×aI)):O×qq:=(n,⟨l,[]⟩)
def oL(zu:O)(e:J O){args:J ap}{f:j8}{fn:Func}(ab:aH.funcs[f]?=some fn)(ij:J (O×qq)){K:hp (gW ss) (H->Prop)}{P:Prop}(h:P)(aa:fn.body.isSome=ai:=by kernel_rfl)(ag:wv args.length fn.ntmps=ai:=by kernel_rfl)(U:wG aH fn.results.toList ss=ai:=by kernel_rfl)(ep:P=hr {P:=aH,exp:=e,wrap:=ao,io:=io,oK:=[],oU:=[]} ij (fn.body.getD .skip) 1 (λ_=>ai) (CB fn.results.toList ss K) {n:=fn.ntmps,env:=NB zu 0 args,loc:=[]} u:=by kernel_rfl):hD aH f args.toArray ss u K:=Lt zu (od _ _) ab aa ij ag U (Eq.mp ep h)
def aeN(a0:N)(Y jO kr fF gy l4:o)(a3:N)(u:H)(K:ay->Q):=bq 4 #[vs a0,af Y,cz #[af jO,af kr,af fF,af gy,bj l4],vs a3] cH u K
def VO(a0 Y:N)(u:H)(K:ay->Q):=bq 11 #[vs a0,vs Y] cH u K
def P9(a0:N)(Y jO kr fF gy l4:o)(u:H)(K:bU->o->Q):=bq 12 #[vs a0,af Y,cz #[af jO,af kr,af fF,af gy,bj l4]] [bk.one aI.ptr,bk.one (aI.int b2)] u K
def P8(u:H)(K:ay->Q):=bq 13 #[] cH u K
def Ku(a0:bU)(Y:N)(a2 a3:o)(u:H)(K:N->N->N->o->Q):=bq 15 #[aX a0,vs Y,af a2,af a3] [bk.agg [aI.slice,aI.slice,aI.slice],bk.one (aI.int b2)] u K
def VI(a0 Y:N)(u:H)(K:ay->Q):=bq 16 #[vs a0,vs Y] cH u K
def D1(a0:bU)(u:H)(K:o->Q):=bq 17 #[aX a0] cv u K
def VS(a0:N)(Y jO kr fF gy l4:o)(u:H)(K:o->Q):=bq 18 #[vs a0,af Y,cz #[af jO,af kr,af fF,af gy,bj l4]] cv u K
def KH(a0:N)(Y:o)(u:H)(K:bU->Q):=bq 19 #[vs a0,af Y] ep u K
def VR(a0 Y:bU)(jO kr fF gy l4:o)(w3 iL:N)(u:H)(K:ay->Q):=bq 20 #[aX a0,aX Y,cz #[af jO,af kr,af fF,af gy,af l4,vs w3,vs iL]] cH u K
def Qa(a0 Y:bU)(u:H)(K:ay->Q):=bq 21 #[aX a0,aX Y] cH u K
def Vd(a0 Y:N)(a2:o)(u:H)(K:N->o->Q):=bq 22 #[vs a0,vs Y,af a2] [bk.one aI.slice,bk.one (aI.int b2)] u K
def U4(a0:bU)(u:H)(K:N->Q):=bq 23 #[aX a0] bb u K
def He(a0:bU)(bY:o)(b6:N)(u:H)(K:ay->o->Q):=bq 24 #[aX a0,cz #[af bY,vs b6]] [bk.one aI.bool,bk.one (aI.int b2)] u K
def VK(a0 Y:N)(u:H)(K:ay->Q):=bq 25 #[vs a0,vs Y] cH u K
def PH(a0:bU)(Y:o)(u:H)(K:ay->o->Q):=bq 26 #[aX a0,af Y] [bk.one aI.bool,bk.one (aI.int b2)] u K
def V6(a0:N)(Y:o)(jO kr fF:N)(u:H)(K:ay->Q):=bq 27 #[vs a0,af Y,cz #[vs jO,vs kr,vs fF]] cH u K
def VN(a0:N)(Y:o)(u:H)(K:o->Q):=bq 33 #[vs a0,af Y] cv u K
def U5(bg bo ca dc Y:o)(a2:N)(a3:o)(u:H)(K:bU->o->Q):=bq 34 #[cz #[af bg,af bo,af ca,af dc],af Y,vs a2,bj a3] [bk.one aI.ptr,bk.one (aI.int b2)] u K
def VP(u:H)(K:N->Q):=bq 35 #[] bb u K
def Wd(bg bo ca dc Y:o)(a2:N)(u:H)(K:o->Q):=bq 36 #[cz #[af bg,af bo,af ca,af dc],af Y,vs a2] cv u K
def Hn(a0:bU)(bY:o)(b6:N)(u:H)(K:ay->o->Q):=bq 37 #[aX a0,cz #[af bY,vs b6]] [bk.one aI.bool,bk.one (aI.int b2)] u K
def P7(a0:N)(u:H)(K:N->Q):=bq 38 #[vs a0] bb u K
def P6(a0 Y:N)(u:H)(K:ay->Q):=bq 39 #[vs a0,vs Y] cH u K
def KI(a0:bU)(Y:o)(u:H)(K:ay->Q):=bq 40 #[aX a0,af Y] cH u K
def VQ(a0 Y:bU)(jO kr fF gy l4:o)(w3 iL:N)(u:H)(K:ay->Q):=bq 41 #[aX a0,aX Y,cz #[af jO,af kr,af fF,af gy,af l4,vs w3,vs iL]] cH u K
def VM(a0:N)(u:H)(K:Q):=bq 42 #[vs a0] [] u K
def PK(a0 Y:N)(u:H)(K:o->Q):=bq 43 #[vs a0,vs Y] cv u K
def D6(a0:o)(u:H)(K:bU->o->Q):=bq 44 #[af a0] [bk.one aI.ptr,bk.one (aI.int b2)] u K
def aeo(a0 Y:N)(u:H)(K:ap->Q):=bq 45 #[vs a0,vs Y] [bk.one aI.val] u K
def Ad(a0:bU)(bY b6 fU:o)(u:H)(K:ay->Q):=bq 46 #[aX a0,cz #[af bY,bj b6,bj fU]] cH u K
def B9(a0:bU)(u:H)(K:N->Q):=bq 47 #[aX a0] bb u K
def B8(a0 Y:N)(u:H)(K:ay->Q):=bq 48 #[vs a0,vs Y] cH u K
def Hk(bg bo bY b6:o)(u:H)(K:ay->Q):=bq 49 #[cz #[bj bg,bj bo],cz #[bj bY,bj b6]] cH u K
def V1(bg:o)(bo ca:N)(dc ew:o)(eU Y:N)(u:H)(K:o->o->Q):=bq 50 #[cz #[af bg,vs bo,vs ca,bj dc,bj ew,vs eU],vs Y] [bk.agg [aI.int bu,aI.int bu]] u K
def Wh(bg:o)(bo ca:N)(dc ew:o)(eU:N)(Y:o)(u:H)(K:o->Q):=bq 52 #[cz #[af bg,vs bo,vs ca,bj dc,bj ew,vs eU],af Y] cv u K
def D7(bg:o)(bo ca:N)(dc ew:o)(eU Y:N)(u:H)(K:o->o->o->Q):=bq 55 #[cz #[af bg,vs bo,vs ca,bj dc,bj ew,vs eU],vs Y] [bk.agg [aI.int bu,aI.int bu],bk.one (aI.int b2)] u K
def vz(bg bo bY b6:o)(u:H)(K:o->Q):=bq 56 #[cz #[bj bg,bj bo],cz #[bj bY,bj b6]] cv u K
def Vc(bg bo ca dc:o)(u:H)(K:o->Q):=bq 57 #[cz #[af bg,af bo,af ca,af dc]] cv u K
def B6(a0:N)(Y:o)(u:H)(K:o->Q):=bq 58 #[vs a0,af Y] cv u K
def Vn(a0:N)(Y a2:o)(u:H)(K:bU->o->Q):=bq 59 #[vs a0,af Y,af a2] [bk.one aI.ptr,bk.one (aI.int b2)] u K
def Wj(a0:N)(Y a2 a3:o)(u:H)(K:bU->o->Q):=bq 60 #[vs a0,af Y,af a2,bj a3] [bk.one aI.ptr,bk.one (aI.int b2)] u K
def Vl(a0:N)(Y a2 a3 a4:o)(u:H)(K:bU->o->Q):=bq 61 #[vs a0,af Y,af a2,af a3,bj a4] [bk.one aI.ptr,bk.one (aI.int b2)] u K
def PM(a0:N)(Y a2 a3:o)(u:H)(K:bU->o->Q):=bq 62 #[vs a0,af Y,af a2,bj a3] [bk.one aI.ptr,bk.one (aI.int b2)] u K
def rY(a0:N)(u:H)(K:N->Q):=bq 63 #[vs a0] bb u K
def Vu(a0:N)(Y a2 a3 a4 a5:o)(u:H)(K:bU->o->Q):=bq 64 #[vs a0,af Y,af a2,af a3,af a4,bj a5] [bk.one aI.ptr,bk.one (aI.int b2)] u K
def Wc(bg bo ca dc:o)(u:H)(K:o->Q):=bq 65 #[cz #[af bg,af bo,af ca,af dc]] cv u K
def V7(a0:N)(Y:o)(u:H)(K:o->Q):=bq 66 #[vs a0,af Y] cv u K
def KC(a0:o)(u:H)(K:ay->Q):=bq 67 #[af a0] cH u K
def D5(a0:N)(Y:o)(u:H)(K:o->Q):=bq 68 #[vs a0,af Y] cv u K
def KJ(a0:N)(Y:o)(u:H)(K:o->Q):=bq 69 #[vs a0,af Y] cv u K
def k4(a0:N)(Y a2 a3:o)(u:H)(K:o->Q):=bq 70 #[vs a0,af Y,af a2,af a3] cv u K
def P5(bg bo ca bY b6 fU:N)(u:H)(K:ay->Q):=bq 71 #[cz #[vs bg,vs bo,vs ca],cz #[vs bY,vs b6,vs fU]] cH u K
def KG(a0 Y:N)(a2 a3:o)(KZ Cq K0:N)(u:H)(K:ay->Q):=bq 72 #[vs a0,vs Y,af a2,af a3,cz #[vs KZ,vs Cq,vs K0]] cH u K
def VL(bg bo ca:N)(u:H)(K:Q):=bq 73 #[cz #[vs bg,vs bo,vs ca]] [] u K
def qs(a0:N)(Y:o)(u:H)(K:o->Q):=bq 74 #[vs a0,af Y] cv u K
def aoH(a0:ap)(Y a2:a8)(u:H)(K:Q):=bq 75 #[a0,aX (some Y),aX (some a2)] [] u K
def rZ(a0 Y:N)(u:H)(K:o->o->o->Q):=bq 76 #[vs a0,vs Y] [bk.agg [aI.int bu,aI.int bu],bk.one (aI.int b2)] u K
def Ab(a0 Y:ap)(u:H)(K:Q):=bq 77 #[a0,Y] [] u K
def Ca(bg bo ca bY b6 fU:o)(u:H)(K:ay->Q):=bq 78 #[cz #[af bg,bj bo,bj ca],cz #[af bY,bj b6,bj fU]] cH u K
def Vg(a0:ap)(Y:o)(u:H)(K:Q):=bq 79 #[a0,af Y] [] u K
def Vy(a0:N)(u:H)(K:N->Q):=bq 80 #[vs a0] bb u K
def VG(a0:N)(Y:ap)(u:H)(K:Q):=bq 81 #[vs a0,Y] [] u K
def Wg(bg bo ca bY b6 fU:o)(u:H)(K:o->Q):=bq 82 #[cz #[af bg,bj bo,bj ca],cz #[af bY,bj b6,bj fU]] cv u K
def VT(bg bo ca dc ew eU mr mu:o)(mv:ay)(bY b6 fU mT mU lP vC vD:o)(vE:ay)(u:H)(K:o->Q):=bq 83 #[cz #[af bg,af bo,af ca,af dc,af ew,af eU,af mr,af mu,gZ mv],cz #[af bY,af b6,af fU,af mT,af mU,af lP,af vC,af vD,gZ vE]] cv u K
def Hl(bg bo:o)(u:H)(K:o->o->o->o->o->o->o->o->ay->Q):=bq 84 #[cz #[bj bg,bj bo]] [bk.agg [aI.int b2,aI.int b2,aI.int b2,aI.int b2,aI.int b2,aI.int b2,aI.int b2,aI.int b2,aI.bool]] u K
def KE(bg bo bY b6:o)(u:H)(K:o->o->Q):=bq 85 #[cz #[bj bg,bj bo],cz #[bj bY,bj b6]] [bk.agg [aI.int bu,aI.int bu]] u K
def KD(a0:o)(u:H)(K:o->o->Q):=bq 86 #[af a0] [bk.agg [aI.int bu,aI.int bu]] u K
def Qb(bg bo:o)(u:H)(K:o->Q):=bq 87 #[cz #[bj bg,bj bo]] [bk.one (aI.int bu)] u K
def Hm(a0 Y:N)(u:H)(K:o->o->Q):=bq 88 #[vs a0,vs Y] [bk.agg [aI.int bu,aI.int bu]] u K
def KB(a0 Y:o)(u:H)(K:o->o->Q):=bq 89 #[bj a0,bj Y] [bk.agg [aI.int bu,aI.int bu]] u K
def KK(a0:o)(u:H)(K:ay->Q):=bq 90 #[af a0] cH u K
def Wi(bg:o)(bo ca:N)(dc ew:o)(eU Y:N)(u:H)(K:o->Q):=bq 91 #[cz #[af bg,vs bo,vs ca,bj dc,bj ew,vs eU],vs Y] cv u K
def KL(a0 Y:N)(u:H)(K:o->o->Q):=bq 93 #[vs a0,vs Y] [bk.agg [aI.int bu,aI.int bu]] u K
def Qf(bg bo Y a2:o)(u:H)(K:o->o->Q):=bq 94 #[cz #[bj bg,bj bo],af Y,af a2] [bk.agg [aI.int bu,aI.int bu]] u K
def Qi(bg bo:o)(u:H)(K:o->Q):=bq 95 #[cz #[bj bg,bj bo]] [bk.one (aI.int bu)] u K
def D8(a0 Y:o)(u:H)(K:o->o->Q):=bq 96 #[bj a0,bj Y] [bk.agg [aI.int bu,aI.int bu]] u K
def Hg(a0:bU)(Y:N)(u:H)(K:bU->Q):=bq 97 #[aX a0,vs Y] ep u K
def PZ(a0:o)(u:H)(K:bU->Q):=bq 98 #[bj a0] ep u K
def Ho(a0:bU)(Y:N)(u:H)(K:bU->Q):=bq 99 #[aX a0,vs Y] ep u K
def PU(a0:N)(Y a2 a3:o)(u:H)(K:N->o->Q):=bq 100 #[vs a0,af Y,af a2,bj a3] [bk.one aI.slice,bk.one (aI.int b2)] u K
def Ky(a0:bU)(bY:o)(b6:N)(u:H)(K:Q):=bq 101 #[aX a0,cz #[af bY,vs b6]] [] u K
def Hf(a0:bU)(bY:o)(b6:N)(u:H)(K:Q):=bq 102 #[aX a0,cz #[af bY,vs b6]] [] u K
def o3(a0:N)(u:H)(K:N->Q):=bq 103 #[vs a0] bb u K
def aeL(a0:N)(Y:ap)(u:H)(K:Q):=bq 104 #[vs a0,Y] [] u K
def aoG(bg:o)(bo:N)(bY:o)(b6:N)(u:H)(K:o->Q):=bq 105 #[cz #[af bg,vs bo],cz #[af bY,vs b6]] cv u K
def aeH(a0:o)(Y a2 a3 a4 a5:a8)(u:H)(K:N->Q):=bq 106 #[af a0,aX (some Y),aX (some a2),aX (some a3),aX (some a4),aX (some a5)] bb u K
def Kz(a0:N)(Y a2:o)(u:H)(K:N->Q):=bq 107 #[vs a0,af Y,af a2] bb u K
def Ac(a0 Y:o)(u:H)(K:ay->Q):=bq 108 #[af a0,af Y] cH u K
def V2(a0:N)(Y:o)(u:H)(K:o->Q):=bq 109 #[vs a0,af Y] cv u K
def VJ(bg:o)(bo ca:N)(dc ew:o)(eU:N)(bY:o)(b6 fU:N)(mT mU:o)(lP:N)(u:H)(K:ay->Q):=bq 110 #[cz #[af bg,vs bo,vs ca,bj dc,bj ew,vs eU],cz #[af bY,vs b6,vs fU,bj mT,bj mU,vs lP]] cH u K
def Wa(a0 Y:N)(a2:o)(KY Cp Ej:N)(u:H)(K:ay->Q):=bq 111 #[vs a0,vs Y,af a2,cz #[vs KY,vs Cp,vs Ej]] cH u K
def Kw(a0:ap)(Y:o)(u:H)(K:Q):=bq 112 #[a0,af Y] [] u K
def Kv(a0:ap)(Y a2:o)(u:H)(K:ay->Q):=bq 113 #[a0,af Y,af a2] cH u K
def Va(a0:N)(u:H)(K:o->Q):=bq 116 #[vs a0] cv u K
def U9(a0 Y:o)(u:H)(K:o->Q):=bq 117 #[af a0,af Y] cv u K
def VU(bg bo ca dc ew eU mr mu:o)(mv:ay)(bY b6 fU mT mU lP vC vD:o)(vE:ay)(u:H)(K:o->o->o->o->o->o->o->o->ay->Q):=bq 118 #[cz #[af bg,af bo,af ca,af dc,af ew,af eU,af mr,af mu,gZ mv],cz #[af bY,af b6,af fU,af mT,af mU,af lP,af vC,af vD,gZ vE]] [bk.agg [aI.int b2,aI.int b2,aI.int b2,aI.int b2,aI.int b2,aI.int b2,aI.int b2,aI.int b2,aI.bool]] u K
def VV(bg bo ca dc ew eU mr mu:o)(mv:ay)(u:H)(K:o->o->Q):=bq 119 #[cz #[af bg,af bo,af ca,af dc,af ew,af eU,af mr,af mu,gZ mv]] [bk.agg [aI.int bu,aI.int bu]] u K
def Qh(bg bo bY b6:o)(u:H)(K:o->o->o->Q):=bq 120 #[cz #[bj bg,bj bo],cz #[bj bY,bj b6]] [bk.agg [aI.int bu,aI.int bu],bk.one (aI.int b2)] u K
def U8(a0 Y:o)(u:H)(K:o->o->Q):=bq 121 #[bj a0,bj Y] [bk.one (aI.int bu),bk.one (aI.int bu)] u K
def aeF(a0:N)(Y a2:a8)(u:H)(K:bU->Q):=bq 122 #[vs a0,aX (some Y),aX (some a2)] ep u K
def Qd(a0:N)(Y:o)(u:H)(K:o->N->N->o->o->N->o->Q):=bq 123 #[vs a0,af Y] [bk.agg [aI.int b2,aI.slice,aI.slice,aI.int bu,aI.int bu,aI.slice],bk.one (aI.int b2)] u K
def P3(a0:N)(Y:ap)(u:H)(K:Q):=bq 124 #[vs a0,Y] [] u K
def aoS(bg:o)(bo:N)(bY:o)(b6:N)(a2:a8)(u:H)(K:o->Q):=bq 125 #[cz #[af bg,vs bo],cz #[af bY,vs b6],aX (some a2)] cv u K
def n4(a0:N)(u:H)(K:N->Q):=bq 126 #[vs a0] bb u K
def aeW(a0:N)(Y a2:a8)(u:H)(K:bU->Q):=bq 127 #[vs a0,aX (some Y),aX (some a2)] ep u K
def Vv(a0:bU)(Y:o)(u:H)(K:o->o->Q):=bq 128 #[aX a0,af Y] [bk.one (aI.int b2),bk.one (aI.int b2)] u K
def Qc(a0 Y:N)(u:H)(K:o->N->N->o->o->N->o->Q):=bq 129 #[vs a0,vs Y] [bk.agg [aI.int b2,aI.slice,aI.slice,aI.int bu,aI.int bu,aI.slice],bk.one (aI.int b2)] u K
def ao1(bg:o)(bo:N)(Y:a8)(u:H)(K:o->o->Q):=bq 130 #[cz #[af bg,vs bo],aX (some Y)] [bk.agg [aI.int bu,aI.int bu]] u K
def ao2(bg:o)(bo:N)(bY:o)(b6:N)(a2:a8)(u:H)(K:o->Q):=bq 131 #[cz #[af bg,vs bo],cz #[af bY,vs b6],aX (some a2)] cv u K
def PV(a0:N)(Y:o)(u:H)(K:o->Q):=bq 132 #[vs a0,af Y] cv u K
def Vx(a0:bU)(Y:o)(u:H)(K:N->o->Q):=bq 133 #[aX a0,af Y] [bk.one aI.slice,bk.one (aI.int b2)] u K
def aeG(a0 Y a2 a3:a8)(u:H)(K:Q):=bq 134 #[aX (some a0),aX (some Y),aX (some a2),aX (some a3)] [] u K
def PW(a0 Y:N)(u:H)(K:o->o->o->Q):=bq 135 #[vs a0,vs Y] [bk.one (aI.int b2),bk.agg [aI.int bu,aI.int bu]] u K
def Vo(a0 Y:o)(u:H)(K:o->Q):=bq 136 #[af a0,af Y] cv u K
def Hh(a0 Y:N)(u:H)(K:o->o->o->o->Q):=bq 137 #[vs a0,vs Y] [bk.one (aI.int b2),bk.agg [aI.int bu,aI.int bu],bk.one (aI.int b2)] u K
def Vw(a0:bU)(Y:o)(u:H)(K:o->o->Q):=bq 138 #[aX a0,af Y] [bk.one (aI.int b2),bk.one (aI.int b2)] u K
def Kx(a0:bU)(Y:o)(a2:N)(a3:o)(a4:ap)(u:H)(K:Q):=bq 139 #[aX a0,af Y,vs a2,af a3,a4] [] u K
def PS(a0:bU)(Y:N)(a2:o)(u:H)(K:o->Q):=bq 140 #[aX a0,vs Y,af a2] cv u K
def aoM(bg bo ca:o)(Y a2 a3:a8)(u:H)(K:ay->Q):=bq 141 #[cz #[af bg,bj bo,bj ca],aX (some Y),aX (some a2),aX (some a3)] cH u K
def PQ(a0:bU)(Y a2 a3:o)(u:H)(K:Q):=bq 142 #[aX a0,af Y,af a2,af a3] [] u K
def KF(a0:N)(Y:o)(u:H)(K:N->Q):=bq 144 #[vs a0,af Y] bb u K
def Wb(a0:N)(bY:o)(b6 fU:N)(mT mU:o)(lP:N)(a2:o)(u:H)(K:ay->Q):=bq 145 #[vs a0,cz #[af bY,vs b6,vs fU,bj mT,bj mU,vs lP],af a2] cH u K
def V8(a0:N)(Y:o)(u:H)(K:N->Q):=bq 146 #[vs a0,af Y] bb u K
def V9(a0 Y:N)(u:H)(K:N->Q):=bq 147 #[vs a0,vs Y] bb u K
def V0(a0 Y:N)(u:H)(K:ay->Q):=bq 148 #[vs a0,vs Y] cH u K
def VY(a0:N)(u:H)(K:N->Q):=bq 149 #[vs a0] bb u K
def Vb(a0:o)(u:H)(K:ay->Q):=bq 160 #[af a0] cH u K
def VW(bg bo ca dc ew eU mr mu:o)(mv:ay)(Y a2:o)(u:H)(K:o->o->o->o->o->o->o->o->ay->Q):=bq 161 #[cz #[af bg,af bo,af ca,af dc,af ew,af eU,af mr,af mu,gZ mv],af Y,af a2] [bk.agg [aI.int b2,aI.int b2,aI.int b2,aI.int b2,aI.int b2,aI.int b2,aI.int b2,aI.int b2,aI.bool]] u K
def Qe(a0:N)(Y:o)(u:H)(K:N->o->Q):=bq 163 #[vs a0,af Y] [bk.one aI.slice,bk.one (aI.int b2)] u K
def aeM(a0:N)(Y:o)(a2:ap)(u:H)(K:Q):=bq 164 #[vs a0,af Y,a2] [] u K
def P0(a0:bU)(Y a2 a3:o)(u:H)(K:o->Q):=bq 165 #[aX a0,af Y,af a2,af a3] cv u K
def Hi(a0:bU)(u:H)(K:o->Q):=bq 166 #[aX a0] [bk.one (aI.int bu)] u K
def aeI(a0:bU)(Y:o)(u:H)(K:ap->Q):=bq 167 #[aX a0,af Y] [bk.one aI.val] u K
def Vp(a0:N)(u:H)(K:o->Q):=bq 168 #[vs a0] cv u K
def aen(a0:o)(u:H)(K:o->Q):=bq 169 #[bj a0] cv u K
def yq(a0:bU)(Y:o)(a2:N)(u:H)(K:o->o->o->Q):=bq 170 #[aX a0,af Y,vs a2] [bk.agg [aI.int b2,aI.int bu,aI.int bu]] u K
def aet(a0:N)(u:H)(K:o->Q):=bq 171 #[vs a0] cv u K
def D4(a0:ap)(u:H)(K:ap->Q):=bq 172 #[a0] [bk.one aI.val] u K
def Vk(a0:bU)(Y:o)(a2:N)(a3:o)(u:H)(K:o->Q):=bq 173 #[aX a0,af Y,vs a2,af a3] cv u K
def PR(a0:bU)(Y:o)(u:H)(K:o->Q):=bq 174 #[aX a0,af Y] cv u K
def aeK(a0:N)(Y:ap)(u:H)(K:Q):=bq 175 #[vs a0,Y] [] u K
def aes(a0 Y:o)(a2 a3:a8)(u:H)(K:o->Q):=bq 176 #[af a0,af Y,aX (some a2),aX (some a3)] cv u K
def P4(a0:N)(Y a2:o)(a3:ap)(u:H)(K:Q):=bq 177 #[vs a0,af Y,af a2,a3] [] u K
def VX(bg:o)(bo ca:N)(dc ew:o)(eU:N)(Y:o)(u:H)(K:o->Q):=bq 185 #[cz #[af bg,vs bo,vs ca,bj dc,bj ew,vs eU],af Y] cv u K
def VZ(bg:o)(bo ca:N)(dc ew:o)(eU Y:N)(u:H)(K:ay->Q):=bq 186 #[cz #[af bg,vs bo,vs ca,bj dc,bj ew,vs eU],vs Y] cH u K
def V5(bg bo ca bY b6 fU:o)(u:H)(K:ay->Q):=bq 187 #[cz #[af bg,bj bo,bj ca],cz #[af bY,bj b6,bj fU]] cH u K
def B7(a0:N)(u:H)(K:Q):=bq 193 #[vs a0] [] u K
def Hj(a0:N)(Y a2 a3:o)(a4:ap)(u:H)(K:Q):=bq 194 #[vs a0,af Y,af a2,af a3,a4] [] u K
def aoX(a0:ap)(Y a2:a8)(u:H)(K:Q):=bq 195 #[a0,aX (some Y),aX (some a2)] [] u K
def V3(bg:o)(bo ca:N)(dc ew:o)(eU:N)(u:H)(K:ay->Q):=bq 200 #[cz #[af bg,vs bo,vs ca,bj dc,bj ew,vs eU]] cH u K
def V4(a0:N)(u:H)(K:ay->Q):=bq 201 #[vs a0] cH u K
def VH(a0:N)(Y a2 a3:o)(a4:ap)(u:H)(K:Q):=bq 204 #[vs a0,af Y,af a2,af a3,a4] [] u K
def KA(a0:N)(Y a2 a3:o)(a4:ap)(u:H)(K:Q):=bq 223 #[vs a0,af Y,af a2,af a3,a4] [] u K
def We(a0:bU)(u:H)(K:ay->Q):=bq 249 #[aX a0] cH u K
def Wf(a0:bU)(u:H)(K:o->Q):=bq 250 #[aX a0] cv u K
def PT(a0:bU)(Y:o)(u:H)(K:ay->o->Q):=bq 251 #[aX a0,af Y] [bk.one aI.bool,bk.one (aI.int b2)] u K
def aeB(a0:bU)(u:H)(K:o->Q):=bq 252 #[aX a0] cv u K
def aeC(a0:bU)(bY:o)(b6:N)(u:H)(K:ay->o->Q):=bq 253 #[aX a0,cz #[af bY,vs b6]] [bk.one aI.bool,bk.one (aI.int b2)] u K
def aeD(a0:bU)(u:H)(K:N->Q):=bq 254 #[aX a0] bb u K
def aeE(a0:bU)(Y:N)(a2 a3:o)(u:H)(K:N->N->N->o->Q):=bq 255 #[aX a0,vs Y,af a2,af a3] [bk.agg [aI.slice,aI.slice,aI.slice],bk.one (aI.int b2)] u K
def aeA(a0:bU)(Y a2:a8)(u:H)(K:Q):=bq 256 #[aX a0,aX (some Y),aX (some a2)] [] u K
def P1(a0:N)(Y:ap)(u:H)(K:N->Q):=bq 257 #[vs a0,Y] bb u K
def aoQ(bg:o)(bo:N)(Y:a8)(u:H)(K:ay->Q):=bq 258 #[cz #[af bg,vs bo],aX (some Y)] cH u K
def D2(bg:o)(bo:N)(Y:o)(a2:ay)(a3:o)(u:H)(K:o->Q):=bq 259 #[cz #[af bg,vs bo],af Y,gZ a2,af a3] cv u K
def B5(a0:N)(Y a2 a3:o)(u:H)(K:o->Q):=bq 260 #[vs a0,af Y,af a2,af a3] cv u K
def aoR(a0:bU)(Y:a8)(u:H)(K:Q):=bq 261 #[aX a0,aX (some Y)] [] u K
def aoT(a0:bU)(Y a2:N)(a3 a4:o)(u:H)(K:N->N->N->Q):=bq 262 #[aX a0,vs Y,vs a2,af a3,af a4] [bk.agg [aI.slice,aI.slice,aI.slice]] u K
def P2(a0:N)(Y:ap)(u:H)(K:o->Q):=bq 263 #[vs a0,Y] cv u K
def D3(a0 Y:N)(a2 a3:o)(u:H)(K:N->N->N->Q):=bq 264 #[vs a0,vs Y,af a2,af a3] [bk.agg [aI.slice,aI.slice,aI.slice]] u K
def Ve(a0:bU)(Y a2:a8)(u:H)(K:Q):=bq 265 #[aX a0,aX (some Y),aX (some a2)] [] u K
def Vf(bg bo:o)(Y:a8)(u:H)(K:ay->Q):=bq 266 #[cz #[bj bg,bj bo],aX (some Y)] cH u K
def aeO(a0:bU)(u:H)(K:o->o->o->ay->Q):=bq 267 #[aX a0] [bk.agg [aI.int b2,aI.int bu,aI.int bu],bk.one aI.bool] u K
def aep(a0:N)(u:H)(K:o->Q):=bq 268 #[vs a0] cv u K
def PL(bg:o)(bo ca:N)(dc ew:o)(eU Y:N)(u:H)(K:o->N->N->o->o->N->Q):=bq 269 #[cz #[af bg,vs bo,vs ca,bj dc,bj ew,vs eU],vs Y] [bk.agg [aI.int b2,aI.slice,aI.slice,aI.int bu,aI.int bu,aI.slice]] u K
def PI(a0:bU)(u:H)(K:N->Q):=bq 270 #[aX a0] bb u K
def Qg(a0:bU)(Y:o)(u:H)(K:ay->o->Q):=bq 271 #[aX a0,af Y] [bk.one aI.bool,bk.one (aI.int b2)] u K
def aeS(a0:bU)(u:H)(K:o->Q):=bq 272 #[aX a0] cv u K
def aeT(a0:bU)(bY:o)(b6:N)(u:H)(K:ay->o->Q):=bq 273 #[aX a0,cz #[af bY,vs b6]] [bk.one aI.bool,bk.one (aI.int b2)] u K
def aeU(a0:bU)(u:H)(K:N->Q):=bq 274 #[aX a0] bb u K
def aeV(a0:bU)(Y:N)(a2 a3:o)(u:H)(K:N->N->N->o->Q):=bq 275 #[aX a0,vs Y,af a2,af a3] [bk.agg [aI.slice,aI.slice,aI.slice],bk.one (aI.int b2)] u K
def aeR(a0:bU)(Y a2:a8)(u:H)(K:Q):=bq 276 #[aX a0,aX (some Y),aX (some a2)] [] u K
def ao0(bg:o)(bo:N)(Y:a8)(u:H)(K:ay->Q):=bq 277 #[cz #[af bg,vs bo],aX (some Y)] cH u K
def Wk(a0:bU)(Y:N)(u:H)(K:o->o->Q):=bq 278 #[aX a0,vs Y] [bk.agg [aI.int bu,aI.int bu]] u K
def Vm(a0:bU)(Y:o)(u:H)(K:ay->o->Q):=bq 279 #[aX a0,af Y] [bk.one aI.bool,bk.one (aI.int b2)] u K
def aew(a0:bU)(u:H)(K:o->Q):=bq 280 #[aX a0] cv u K
def aex(a0:bU)(bY:o)(b6:N)(u:H)(K:ay->o->Q):=bq 281 #[aX a0,cz #[af bY,vs b6]] [bk.one aI.bool,bk.one (aI.int b2)] u K
def aey(a0:bU)(u:H)(K:N->Q):=bq 282 #[aX a0] bb u K
def aez(a0:bU)(Y:N)(a2 a3:o)(u:H)(K:N->N->N->o->Q):=bq 283 #[aX a0,vs Y,af a2,af a3] [bk.agg [aI.slice,aI.slice,aI.slice],bk.one (aI.int b2)] u K
def aoP(bg:o)(bo:N)(Y:a8)(u:H)(K:ay->Q):=bq 284 #[cz #[af bg,vs bo],aX (some Y)] cH u K
def VA(a0:N)(u:H)(K:N->Q):=bq 285 #[vs a0] bb u K
def VD(a0:N)(Y:o)(u:H)(K:N->Q):=bq 286 #[vs a0,af Y] bb u K
def PN(a0:bU)(Y:o)(u:H)(K:ay->o->Q):=bq 287 #[aX a0,af Y] [bk.one aI.bool,bk.one (aI.int b2)] u K
def Vh(a0:bU)(u:H)(K:o->Q):=bq 288 #[aX a0] cv u K
def PO(a0:bU)(bY:o)(b6:N)(u:H)(K:ay->o->Q):=bq 289 #[aX a0,cz #[af bY,vs b6]] [bk.one aI.bool,bk.one (aI.int b2)] u K
def Vi(a0:bU)(u:H)(K:N->Q):=bq 290 #[aX a0] bb u K
def Vj(a0:bU)(Y:N)(a2 a3:o)(u:H)(K:N->N->N->o->Q):=bq 291 #[aX a0,vs Y,af a2,af a3] [bk.agg [aI.slice,aI.slice,aI.slice],bk.one (aI.int b2)] u K
def VC(a0:N)(Y:ap)(u:H)(K:N->Q):=bq 292 #[vs a0,Y] bb u K
def aoK(a0:o)(Y:a8)(u:H)(K:ay->Q):=bq 293 #[af a0,aX (some Y)] cH u K
def VB(a0:N)(Y:o)(u:H)(K:ay->Q):=bq 294 #[vs a0,af Y] cH u K
def vy(a0:ap)(u:H)(K:N->Q):=bq 295 #[a0] bb u K
def PX(a0:aA O)(u:H)(K:ap->Q):=bq 296 #[dP a0] [bk.one aI.val] u K
def aoL(bg bo ca:o)(Y a2 a3:a8)(u:H)(K:ay->Q):=bq 297 #[cz #[af bg,bj bo,bj ca],aX (some Y),aX (some a2),aX (some a3)] cH u K
def PY(a0:aA O)(u:H)(K:ap->Q):=bq 298 #[dP a0] [bk.one aI.val] u K
def VE(a0:N)(Y:ap)(u:H)(K:o->Q):=bq 299 #[vs a0,Y] cv u K
def VF(a0:N)(Y:o)(u:H)(K:o->Q):=bq 300 #[vs a0,af Y] cv u K
def Vz(a0:ap)(u:H)(K:N->Q):=bq 301 #[a0] bb u K
def aoU(a0:ap)(Y:a8)(u:H)(K:Q):=bq 302 #[a0,aX (some Y)] [] u K
def aoW(a0:ap)(Y:a8)(u:H)(K:Q):=bq 303 #[a0,aX (some Y)] [] u K
def aeJ(a0:N)(Y:ap)(u:H)(K:N->Q):=bq 304 #[vs a0,Y] bb u K
def aek(a0:bU)(Y:o)(u:H)(K:ay->o->Q):=bq 305 #[aX a0,af Y] [bk.one aI.bool,bk.one (aI.int b2)] u K
def ael(a0:bU)(u:H)(K:o->Q):=bq 306 #[aX a0] cv u K
def U6(a0:bU)(bY:o)(b6:N)(u:H)(K:ay->o->Q):=bq 307 #[aX a0,cz #[af bY,vs b6]] [bk.one aI.bool,bk.one (aI.int b2)] u K
def U7(a0:bU)(u:H)(K:N->Q):=bq 308 #[aX a0] bb u K
def aem(a0:bU)(Y:N)(a2 a3:o)(u:H)(K:N->N->N->o->Q):=bq 309 #[aX a0,vs Y,af a2,af a3] [bk.agg [aI.slice,aI.slice,aI.slice],bk.one (aI.int b2)] u K
def PJ(a0 Y:N)(a2 a3:o)(u:H)(K:N->N->N->o->Q):=bq 310 #[vs a0,vs Y,af a2,af a3] [bk.agg [aI.slice,aI.slice,aI.slice],bk.one (aI.int b2)] u K
def aeh(a0:bU)(bY:o)(b6:N)(u:H)(K:ay->o->Q):=bq 311 #[aX a0,cz #[af bY,vs b6]] [bk.one aI.bool,bk.one (aI.int b2)] u K
def aei(a0:bU)(Y:N)(a2 a3:o)(u:H)(K:N->N->N->o->Q):=bq 312 #[aX a0,vs Y,af a2,af a3] [bk.agg [aI.slice,aI.slice,aI.slice],bk.one (aI.int b2)] u K
def Vr(a0:bU)(Y:N)(u:H)(K:N->o->Q):=bq 313 #[aX a0,vs Y] [bk.one aI.slice,bk.one (aI.int b2)] u K
def Vs(a0:bU)(Y:N)(u:H)(K:N->o->Q):=bq 314 #[aX a0,vs Y] [bk.one aI.slice,bk.one (aI.int b2)] u K
def Vq(a0:aA O)(u:H)(K:ap->Q):=bq 315 #[dP a0] [bk.one aI.val] u K
def Vt(a0 Y:N)(u:H)(K:o->o->o->Q):=bq 316 #[vs a0,vs Y] [bk.agg [aI.int bu,aI.int bu],bk.one (aI.int b2)] u K
def aej(bg bo ca bY b6 fU:o)(u:H)(K:o->Q):=bq 317 #[cz #[af bg,bj bo,bj ca],cz #[af bY,bj b6,bj fU]] cv u K
def aoV(a0:ap)(Y:a8)(u:H)(K:Q):=bq 318 #[a0,aX (some Y)] [] u K
def aoY(a0:N)(u:H)(K:o->Q):=bq 320 #[vs a0] cv u K
def aeP(a0:N)(Y a2:o)(u:H)(K:ay->Q):=bq 321 #[vs a0,af Y,af a2] cH u K
def aeQ(a0:N)(Y a2:o)(u:H)(K:Q):=bq 322 #[vs a0,af Y,af a2] [] u K
def aoZ(a0:bU)(Y:ap)(u:H)(K:Q):=bq 324 #[aX a0,Y] [] u K
def aeu(a0:N)(Y a2:o)(u:H)(K:ay->Q):=bq 325 #[vs a0,af Y,af a2] cH u K
def aev(a0:N)(Y a2:o)(u:H)(K:Q):=bq 326 #[vs a0,af Y,af a2] [] u K
def aoN(a0:bU)(u:H)(K:ap->Q):=bq 327 #[aX a0] [bk.one aI.val] u K
def aoO(a0:bU)(Y:ap)(u:H)(K:Q):=bq 328 #[aX a0,Y] [] u K
def aeq(a0:N)(Y a2:o)(u:H)(K:ay->Q):=bq 330 #[vs a0,af Y,af a2] cH u K
def aer(a0:N)(Y a2:o)(u:H)(K:Q):=bq 331 #[vs a0,af Y,af a2] [] u K
def aoI(a0:bU)(u:H)(K:ap->Q):=bq 332 #[aX a0] [bk.one aI.val] u K
def aoJ(a0:bU)(Y:ap)(u:H)(K:Q):=bq 333 #[aX a0,Y] [] u K
def a7.of(h1:-9223372036854775808<=x)(h2:x<=9223372036854775807):a7 x:=⟨h1,h2⟩
def H.oH(h:u.le u'){a:a8}{v:ap}(e:u.cell? a=some v):u'.cell? a=some v:=by unfold H.cell? at e ⊢;split at e;rename_i c t f aa;rw[h _ _ aa];exact e;cases e
def c7.pure{m:Sem ap}{K:hp (gW ss) (H->Prop)}(vs:J ap)(h:∀w,Sub u w->m.run P w=.ok (xb ss vs) w)
  (hk:pG (gW ss) vs) (au:hU (gW ss) K vs λr=>r u):c7 P m ss u K:=
 λw hw=>⟨_,w,u,h w hw,⟨vs,hk,rfl,au⟩,Step.refl hw⟩
structure bw(u:H)(s:N)(size:O)(xs:J ap):Prop where
 len:xs.length=s.n*size
 cap:s.n<=s.c
 max:s.c<=9223372036854775807
 at':xs=[]∨∃p,s.a=some p/\∀i v,xs[i]?=some v->u.cell? (p.add i)=some v
def bw.mono(h:bw u s size xs)(k:u.le u'):bw u' s size xs:=
 ⟨h.len,h.cap,h.max,h.at'.imp id λ⟨p,h1,h2⟩=>⟨p,h1,λi v e=>H.oH k (h2 i v e)⟩⟩
def bw.get(h:bw u s size xs)(hi:i<xs.length):∃p,s.a=some p/\∀i v,xs[i]?=some v->u.cell? (p.add i)=some v:=by rcases h.at' with h|h;subst h;simp at hi;exact h
def Ints(u:H)(s:N)(l:J o):Prop:=bw u s 1 (l.map λx=>.int .i64 x)
def Ints.mono(h:Ints u s l)(k:u.le u'):Ints u' s l:=bw.mono h k
theorem Ints.len(h:Ints u s l):s.n=l.length:=by have:=bw.len h;grind
def Ints.max(h:Ints u s l):s.n<=9223372036854775807:=jW (bw.cap h) (bw.max h)
theorem Ints.read(h:Ints u s l)(h0:0<=x)(h1:x<(s.n:o)):
  ∃p,s.a=some p/\∃(aq:x.toNat<l.length),u.cell? (p.add (x.toNat*1))=some (.int .i64 l[x.toNat]):=by
 have ag:=h.len
 have bP:x.toNat<l.length:=by omega
 obtain⟨p,ad,I⟩:=bw.get h (i:=x.toNat) (by simpa using bP)
 grind
theorem Ints.at(h:Ints u s l)(h0:0<=x)(h1:x<(s.n:o)):∃p,s.a=some p/\u.cell? (p.add (x.toNat*1))=some (.int .i64 (l.getD x.toNat 0)):=by
 obtain⟨p,ad,aq,I⟩:=h.read h0 h1
 grind
def Step.Bp(hw:Sub u w)(z:Obj):Step u [] w (u.ins w.heap.size z) [] (w.alloc z):=
 (Fits.Bp (s:={n:=0,env:=[],loc:=[]}) (a:={tmps:=#[],defers:=[]}) (bs:=[]) (w:=w) ⟨⟨rfl,rfl,λ_ h=>by cases h⟩,rfl,λ_ _ h=>by simp at h,by simp,by simp,hw⟩ z).2
def c7.one{m:Sem ap}{c:aI}{K:c.den->H->Prop}
  (h:∀w,Sub u w->∃x w' u',m.run P w=.ok (c.enc x) w'/\K x u'/\Step u [] w u' [] w'):c7 P m [.one c] u K:=by
 intro w hw
 obtain⟨x,w',u',h1,h2,h3⟩:=h w hw
 exact⟨_,w',u',h1,⟨[c.enc x],.cons x .nil,rfl,(aI.vx c x _).2 h2⟩,h3⟩
def c7.Dq{m:Sem ap}{c:aI}{K:c.den->H->Prop}(x:c.den)(h:∀w,Sub u w->m.run P w=.ok (c.enc x) w)(au:K x u):c7 P m [.one c] u K:=
 .one λw hw=>⟨x,w,u,h w hw,au,Step.refl hw⟩
def ku(P:dL)(t:dC):aA (dC×O×O×J ap):=
 match P.underlying t with
 |some (.slice e)=>match P.info? e with
  |some i=>match i.zero with
   |some W=>match km W.cells.size i.size with
    |true=>some (e,i.size,i.bytes,W.cells.toList)|false=>none
   |none=>none
  |none=>none
 |_=>none
theorem uu(h:ku P t=some (e,size,bytes,zs)):
  P.underlying t=some (.slice e)/\∃i W,P.info? e=some i/\i.zero=some W/\i.size=size/\i.bytes=bytes/\W.cells.size=size/\W.cells.toList=zs:=by
 unfold ku at h
 split at h
 rename_i hd hu
 split at h
 rename_i i hi
 split at h
 rename_i W aE
 split at h
 simp_all
 cases h
 cases h
 cases h
 cases h
def N.al(s:N):aA O:=s.a.map (·.block)
structure Own(u:H)(e size:O)(s:N)(xs:J ap):Prop where
 len:xs.length=s.n*size
 is:(s=⟨none,0,0⟩)∨∃g cur,s.a=some ⟨g,0,none⟩/\u g=some (.cells cur e (0,0))/\s.n<=s.c/\s.c<=9223372036854775807/\cur.size=s.c*size/\cur.toList.take (s.n*size)=xs
def F3:maxLen=9223372036854775807:=by decide
def H.HE(u:H)(g:O)(c:cA ap)(e:dC)(HW:O×O)(i:O):(u.ins g (.cells c e HW)).cell? ⟨g,i,none⟩=c[i]?:=by simp[H.cell?,H.ins]
def H.aZ{c:cA ap}{HW:O×O}(h:u g=some (.cells c e HW))(i:O):u.cell? ⟨g,i,none⟩=c[i]?:=by simp[H.cell?,h]
theorem Own.cK{e:O}(h:Own u e size s xs):bw u s size xs:=by
 rcases h.is with h1|⟨g,cur,az,Z,ag,I,ae,ht⟩;subst h1;refine⟨h.len,by simp,by simp,.inl ?_⟩;have:=h.len;simpa using this;refine⟨h.len,ag,I,.inr ⟨_,az,λi v e=>?_⟩⟩;rw[ib,kY,H.aZ Z]
 grind
def Own.le{e:O}(h:Own u e size s xs)(k:∀b z,s.al=some b->u b=some z->u' b=some z):Own u' e size s xs:=
 ⟨h.len,h.is.imp id λ⟨g,cur,az,Z,r⟩=>⟨g,cur,az,k g _ (by simp[N.al,az]) Z,r⟩⟩
def Own.nil(u:H)(e size:O):Own u e size ⟨none,0,0⟩ []:=⟨by simp,.inl rfl⟩
structure KO(u u':H)(s ar:N):Prop where
 rest:∀b z,u b=some z->s.al≠some b->u' b=some z
 al:ar.al=s.al∨∃g,ar.al=some g/\u g=none
theorem KO.le{ar:N}(h:KO u u' s ar)(k:ak.le u)(ae:∀g,s.al=some g->ak g=none):ak.le u':=by
 intro b z e;refine h.rest b z (k b z e) λaa=>?_
 grind
theorem KO.out{ar:N}(h:KO u u' s ar)(k:ak.le u)(ae:∀g,s.al=some g->ak g=none):∀g,ar.al=some g->ak g=none:=by
 intro g Z;rcases h.al with e|⟨b5,e,ag⟩
 grind
 rw[e] at Z;cases Z;cases M:ak g with
 |none=>rfl|some z=>rw[k _ _ M] at ag;cases ag
def anv(hw:Sub u w)(z:Obj):Step u [] w (u.ins w.heap.size z) [] (w.drew.alloc z)/\u w.heap.size=none:=
 ⟨(Step.QT hw (Bv w.drawn)).trans (Step.Bp (w:=w.drew) hw z),hw.none (cw _)⟩
theorem anw(hw:Sub u w){cur:cA ap}(Z:u g=some (.cells cur e (0,0)))(cs:cA ap):
  Step u [] w (u.ins g (.cells cs e (0,0))) [] (w.setRow g cs):=by
 have Mi:=hw _ _ Z
 have ae:(w.setRow g cs).heap.size=w.heap.size:=by simp[World.setRow]
 refine⟨λb z h=>?_,rfl,rfl,rfl,cw _,by omega,λb _ aa _=>?_,λb _ aa=>?_,[],by simp,by simp⟩
 unfold H.ins at h
 split at h
 rename_i sb;subst sb;cases h;exact setRow_heap w b cur cs e (0,0) Mi
 rename_i sb;rw[setRow_other w g b cs sb];exact hw b z h
 have:b≠g:=λh=>by grind
 exact setRow_other w g b cs this
 have:b≠g:=λh=>by grind
 rw[bz u _ this];exact aa
def bw.world(hw:Sub u w)(h:bw u s size xs){p:a8}(ad:s.a=some p):∀j v,xs[j]?=some v->w.cell? (p.add j)=some v:=by intro j v e;rcases h.at' with h|⟨q,aL,I⟩;subst h;simp at e;rw[ad] at aL;cases aL;exact hw.cell (I j v e)
def aso(W:cA ap){abH cap:O}(aE:W.size=size)(h:abH<=cap)(M:xs.length=abH*size):
  (xs.toArray++wy W (cap-abH)).size=cap*size:=by
 simp only[Array.size_append,Bw,size_zeroCells,aE,M,<-JC]
 congr 1
 omega
theorem acU{fq:dC}(aV:ku P t=some (e,size,bytes,zs)){x:N}
  (ae:bw u s size xs) (M:bw u x size eK) (II:s.c<s.n+x.n) (iS:s=⟨none,0,0⟩∨s.a≠none) (De:x.a≠none) (hm:s.n+x.n<=9223372036854775807) (aa:(s.n+x.n)*bytes<=140737488355328)
  (au:∀g c cur,u g=none->Own (u.ins g (.cells cur e (0,0))) e size ⟨some ⟨g,0,none⟩,s.n+x.n,c⟩ (xs++eK)->K ⟨some ⟨g,0,none⟩,s.n+x.n,c⟩ (u.ins g (.cells cur e (0,0)))):
  c7 P (dO #[t,t] fq #[.slice s.a s.n s.c,.slice x.a x.n x.c]) [.one .slice] u K:=by
 obtain⟨ht,i,W,hi,aE,pg,xj,zg,_⟩:=uu aV
 subst pg
 subst xj
 refine .one (c:=.slice) λw hw=>?_
 obtain⟨q,aL⟩:=fp.1 De
 have ai2:=M.world hw aL
 have hlen:(xs++eK).length=(s.n+x.n)*i.size:=by rw[gG,ae.len,M.len,JC]
 have fin:∀ow (z:cA ap),(dO #[t,t] fq #[.slice s.a s.n s.c,.slice x.a x.n x.c]).run P w=.ok (.slice (some ⟨w.heap.size,0,none⟩) (s.n+x.n) (grownCap w (s.n+x.n) ow e)) (w.drew.alloc (.cells z e))->
   z=((xs++eK).toArray++wy W.cells (grownCap w (s.n+x.n) ow e-(s.n+x.n)))->
   ∃aoC w' u',(dO #[t,t] fq #[.slice s.a s.n s.c,.slice x.a x.n x.c]).run P w=.ok (aI.slice.enc aoC) w'/\K aoC u'/\Step u [] w u' [] w':=by
  intro ow z U ac
  have hF:=grownCap_ge w (s.n+x.n) ow e
  have c4:=grownCap_le_maxLen w (s.n+x.n) ow e (by rw[F3];exact hm)
  rw[F3] at c4
  have c6:=anv hw (.cells z e)
  refine⟨⟨some ⟨w.heap.size,0,none⟩,s.n+x.n,grownCap w (s.n+x.n) ow e⟩,_,_,U,au _ _ _ c6.2 ⟨hlen,.inr ⟨w.heap.size,z,rfl,bh _ _ _,hF,c4,?_,?_⟩⟩,c6.1⟩
  rw[ac];exact aso W.cells zg hF hlen
  grind
 rcases iS with h0|h0
 subst h0
 have axv:xs=[]:=by simpa using ae.len
 subst axv
 simp only[kY] at*
 have U:=run_append_nil (P:=P) w t fq e i W ht hi aE q x.n x.c eK M.len ai2 (by omega) (by omega) (by omega)
 grind
 obtain⟨p,ad⟩:=fp.1 h0
 have U:=run_append_grow (P:=P) w t fq e i W ht hi aE p s.n s.c xs ae.len (ae.world hw ad) q x.n x.c eK M.len ai2 II (by omega) (growslice_fits II aa)
 grind
theorem acT{fq:dC}(aV:ku P t=some (e,size,bytes,zs))(dm:0<size){x:N}
  (ac:Own u e size s xs) (M:bw u x size eK) (h1:∀y∈eK,y.oneCell'=ai) (hm:s.n+x.n<=9223372036854775807) (aa:(s.n+x.n)*bytes<=140737488355328)
  (au:∀ar u',Own u' e size ar (xs++eK)->ar.n=s.n+x.n->KO u u' s ar->(ar=⟨none,0,0⟩↔s=⟨none,0,0⟩/\x.n=0)->K ar u'):
  c7 P (dO #[t,t] fq #[.slice s.a s.n s.c,.slice x.a x.n x.c]) [.one .slice] u K:=by
 obtain⟨ht,i,W,hi,aE,pg,xj,zg,_⟩:=uu aV
 have avS:s.n<=s.c:=ac.cK.cap
 by_cases tw:x.n=0
 have aaQ:eK=[]:=by simpa[tw] using M.len
 subst aaQ
 refine .Dq (c:=.slice) s (λw hw=>?_) (au s u (by simpa using ac) (by omega) ⟨λ_ _ h _=>h,.inl rfl⟩ (by simp[tw]))
 have aq:∀(y:a8),(loadCells y 0).run P w=.ok #[] w:=λy=>by simpa using run_loadCells_list (P:=P) w y [] (by simp)
 rw[tw]
 cases uV:s.a<;>cases Bg:x.a<;>simp[dO,ia ht,sizeOf,typeInfo,hi,Builtin.lenOf,Builtin.firstCells,avS,aI.enc,uV,aq,storeCells]
 have De:x.a≠none:=by intro h;rcases M.at' with bZ|⟨p,ad,_⟩;have:=M.len;rw[bZ] at this;simp only[sw] at this;rcases Ty.1 this.symm with h|h<;>omega;rw[h] at ad;cases ad
 by_cases II:s.n+x.n<=s.c
 rcases ac.is with h0|⟨g,cur,az,Z,ag,I,ae,uW⟩
 exfalso;grind
 obtain⟨q,aL⟩:=fp.1 De
 refine .one (c:=.slice) λw hw=>?_
 have YV:s.n*i.size+eK.length<=cur.size:=by rw[M.len,ae,pg,<-JC];exact tO _ II
 have U:=run_append_room (P:=P) w t fq e i ht hi g s.n s.c cur (hw _ _ Z) q x.n x.c eK (by rw[pg];exact M.len) (M.world hw aL) h1 II YV
 rw[az,aL,U]
 refine⟨⟨some ⟨g,0,none⟩,s.n+x.n,s.c⟩,_,_,rfl,au _ _ ⟨by rw[gG,ac.len,M.len,JC],.inr ⟨g,_,rfl,bh _ _ _,II,I,?_,?_⟩⟩ rfl
  ⟨λb z e aa=>?_,.inl (by simp[N.al,az])⟩ ⟨λh=>by simp at h,λh=>bf h.2 tw⟩,anw hw Z _⟩
 grind
 rw[pg,uW]
 have:(xs++eK).length=(s.n+x.n)*size:=by rw[gG,ac.len,M.len,JC]
 grind
 rw[bz u _ (λh=>aa (by simp[N.al,az,h]))];exact e
 have iS:s=⟨none,0,0⟩∨s.a≠none:=by
   rcases ac.is with h|⟨g,cur,az,_⟩;exact .inl h
   grind
 refine acU aV ac.cK M (by omega) iS De hm aa λg c cur Z qO=>au _ _ qO rfl ⟨λb z e _=>?_,.inr ⟨g,rfl,Z⟩⟩ ⟨λh=>by simp at h,λh=>bf h.2 tw⟩
 rw[bz u _ (λh=>by rw[h,Z] at e;cases e)]
 exact e
def kO(P:dL)(t n:O)(c9:cA (O×ap)):aA (dC×J ap):=
 match ku P t with
 |some (e,size,_,zs)=>match wv (n*size) 16777216,wv 1 size,
   Instr.fill (λi=>some (i*size,size)) ((Array.range (n*size)).map (zs.toArray[· %zs.toArray.size]!)) c9.toList with
  |true,ai,some cells=>some (e,cells.toList)
  |_,_,_=>none
 |none=>none
def mK{t n e:O}{c9:cA (O×ap)}{cells:J ap}(h:kO P t n c9=some (e,cells))
  (au:∀g,u g=none->K ⟨some ⟨g,0,none⟩,n,n⟩ (u.ins g (.cells cells.toArray e (0,0)))):c7 P (dA t n c9) [.one .slice] u K:=by
 unfold kO at h
 split at h
 rename_i hd size bytes zs aV
 obtain⟨ht,i,W,hi,aE,pg,xj,zg,xN⟩:=uu aV
 subst pg
 split at h
 rename_i cs hle oi ab
 cases h
 have hle:=Gl hle
 have oi:=Gl oi
 refine .one (c:=.slice) λw hw=>?_
 refine⟨⟨some ⟨w.heap.size,0,none⟩,n,n⟩,w.alloc (.cells cs e (0,0)),_,?_,au w.heap.size (hw.none (cw _)),by simpa using Step.Bp hw (.cells cs e (0,0))⟩
 have aaW:zs.toArray=W.cells:=by rw[<-xN]
 rw[aaW] at ab
 have ag:¬(16777216<n*i.size):=by omega
 by_cases fJ:n=0
 subst fJ
 simp only[JD,Array.range_zero',Array.map_empty] at ab
 simp[dA,ia ht,sizeOf,typeInfo,hi,Array.range_zero',ab,newRow,aI.enc]
 have ad:¬(n*i.size=0):=by intro h;rcases Ty.1 h with h|h<;>omega
 simp[dA,ia ht,sizeOf,typeInfo,hi,ag,ad,zeroValue,aE,ab,newRow,aI.enc]
 cases h
 cases h
def J7(aV:ku P t=some (e,size,bytes,zs)){l c:o}(h0:0<=l)(avl:l<=c)(aa:(bytes:o)*c<=281474976710656)(Rh:c<=9223372036854775807)
  {u:H} {K:N->H->Prop}
  (au:∀g,u g=none->K ⟨some ⟨g,0,none⟩,l.toNat,c.toNat⟩ (u.ins g (.cells (mF zs.toArray (c.toNat*size)) e (0,0)))):
  c7 P (qU t (.int .i64 l) (.int .i64 c)) [.one .slice] u K:=by
 obtain⟨ht,i,W,hi,aE,pg,xj,zg,xN⟩:=uu aV
 refine .one (c:=.slice) λw hw=>?_
 have U:=run_make (P:=P) w t e i W ht hi aE .i64 .i64 l c h0 avl (by rw[xj];exact aa) Rh
 have aaW:zs.toArray=W.cells:=by rw[<-xN]
 rw[pg,<-aaW] at U
 exact⟨⟨some ⟨w.heap.size,0,none⟩,l.toNat,c.toNat⟩,_,_,U,au _ (hw.none (cw _)),Step.Bp hw _⟩
def aAL(aV:ku P t=some (e,size,bytes,zs))(w:ci):P.underlying t=some (.slice (P.elem t))/\(sizeOf (P.elem t)).run P w=.ok size w:=by
 obtain⟨ht,i,W,hi,aE,pg,xj,zg,xN⟩:=uu aV;have he:P.elem t=e:=by simp[Program.elem,ht]
 rw[he];exact⟨ht,by simp[sizeOf,typeInfo,hi,pg]⟩
def N.part(s:N)(l h m size:O):N:=⟨if m=l then s.a else s.a.map (·.add (l*size)),h-l,m-l⟩
def kJ(aV:ku P t=some (e,size,bytes,zs)){bm hi NS:aA ap}{l h m:O}
  (y4:bm=none/\l=0∨bm=some (.int .i64 l)) (E6:hi=none/\h=s.n∨hi=some (.int .i64 h)) (tk:NS=none/\m=s.c∨NS=some (.int .i64 m)/\hi≠none)
  (h1:l<=h) (h2:h<=m) (h3:m<=s.c) (br:s.n<=s.c) (au:K (s.part l h m size) u):
  c7 P (fZ t (.slice s.a s.n s.c) bm hi NS) [.one .slice] u K:=by
 refine .Dq (c:=.slice) (s.part l h m size) (λw _=>?_) au
 obtain⟨ht,ae⟩:=aAL aV w
 rw[run_sliceAt_slice (w:=w) (h:=ht)]
 rcases y4 with⟨rfl,rfl⟩|rfl<;>rcases E6 with⟨rfl,rfl⟩|rfl<;>rcases tk with⟨rfl,rfl⟩|⟨rfl,hm⟩
 rw[run_slice_all (w:=w) (ht:=ht),ae];rfl
 exact bf rfl hm
 rw[run_slice_h (w:=w) (ht:=ht) (h0:=by omega) (h2:=by omega),ae];simp[jH,sliced,N.part,aI.enc]
 rw[run_slice_hm (w:=w) (ht:=ht) (h0:=by omega) (h2:=by omega) (h3:=by omega),ae];simp[jH,sliced,N.part,aI.enc]
 rw[run_slice_l (w:=w) (ht:=ht) (h0:=by omega) (h1:=by omega),ae];simp[jH,sliced,N.part,aI.enc]
 exact bf rfl hm
 rw[run_slice_lh (w:=w) (ht:=ht) (h0:=by omega) (h1:=by omega) (h2:=by omega),ae];simp[jH,sliced,N.part,aI.enc]
 rw[run_slice_lhm (w:=w) (ht:=ht) (h0:=by omega) (h1:=by omega) (h2:=by omega) (h3:=by omega),ae];simp[jH,sliced,N.part,aI.enc]
def Addr.w4(a:a8)(i j:O):(a.add i).add j=a.add (i+j):=Addr.add_add a i j
theorem bw.part(ae:bw u s size xs){l h m:O}(h1:l<=h)(h2:h<=s.n)(h3:h<=m)(br:m<=s.c):
  bw u (s.part l h m size) size ((xs.drop (l*size)).take ((h-l)*size)):=by
 have aq:=ae.len
 have hle:h*size<=s.n*size:=tO _ h2
 have C1:l*size<=h*size:=tO _ h1
 have gR:(h-l)*size=h*size-l*size:=Nat.sub_mul _ _ _
 refine⟨?_,?_,?_,?_⟩
 simp only[iV,rO,N.part];omega
 simp only[N.part];omega
 simp only[N.part];have:=ae.max;omega
 rcases ae.at' with h0|⟨p,ad,I⟩
 grind
 by_cases nf:m=l
 refine .inl ?_
 have:h=l:=by omega
 simp[this]
 refine .inr ⟨p.add (l*size),by simp[N.part,nf,ad],λi v e=>?_⟩
 rw[Addr.w4]
 grind
section
variable {α:Type} {enc:α->J ap} {k:O}
theorem oc(hk:∀x,(enc x).length=k)(xs:J α):(xs.flatMap enc).length=xs.length*k:=by
 induction xs with
 |nil=>simp|cons x xs aW=>grind
theorem EF(hk:∀x,(enc x).length=k):∀(xs:J α) (i j:O),j<k->(xs.flatMap enc)[i*k+j]?=(xs[i]?).bind λx=>(enc x)[j]?:=by
 intro xs;induction xs with
 |nil=>intro i j _;simp
 |cons x xs aW=>
  intro i j aP;rw[jr];cases i with
  |zero=>grind|succ i=>
   rw[Tn (by grind),hk];have:(i+1)*k+j-k=i*k+j:=by grind
   grind
theorem agE(hk:∀x,(enc x).length=k):∀(xs:J α) (i:O) (y:α),i<xs.length->
  (xs.set i y).flatMap enc=(xs.flatMap enc).take (i*k)++enc y++(xs.flatMap enc).drop (i*k+k):=by
 intro xs
 induction xs with
 |nil=>intro i y h;simp at h
 |cons x xs aW=>
  intro i y h;cases i with
  |zero=>
   grind|succ i=>
   rw[JE,jr,jr,aW i y (by simpa using h)];have h1:(i+1)*k=(enc x).length+i*k:=by grind
   have h3:∀r:J ap,(enc x++r).take ((enc x).length+i*k)=enc x++r.take (i*k):=λr=>by
    grind
   have br:∀r:J ap,(enc x++r).drop ((enc x).length+(i*k+k))=r.drop (i*k+k):=λr=>by rw[List.drop_append,vi (by omega),mm,Nat.add_sub_cancel_left]
   rw[h1,Nat.add_assoc,h3,br]
   grind
theorem yK(hk:∀x,(enc x).length=k)(xs:J α)(n:O):(xs.flatMap enc).take (n*k)=(xs.take n).flatMap enc:=by
 induction xs generalizing n with
 |nil=>simp|cons x xs aW=>
  cases n with
  |zero=>simp|succ n=>
   rw[jr,Jw,jr,List.take_append,gC (by grind),hk]
   grind
theorem Q5(hk:∀x,(enc x).length=k)(xs:J α)(n:O):(xs.flatMap enc).drop (n*k)=(xs.drop n).flatMap enc:=by
 induction xs generalizing n with
 |nil=>simp|cons x xs aW=>
  cases n with
  |zero=>simp|succ n=>
   rw[jr,ab8,List.drop_append,vi (by grind),mm,hk]
   grind
def hf{xs:J α}(hk:∀x,(enc x).length=k)(rn:0<k)(h:bw u s k (xs.flatMap enc)):s.n=xs.length:=by have:=h.len;rw[oc hk] at this;exact(Nat.eq_of_mul_eq_mul_right rn this).symm
theorem bw.elem{xs:J α}(hk:∀x,(enc x).length=k)(rn:0<k)(h:bw u s k (xs.flatMap enc)){x:α}(hi:xs[i]?=some x):
  ∃p,s.a=some p/\∀j v,(enc x)[j]?=some v->u.cell? ((p.add (i*k)).add j)=some v:=by
 have aq:i<xs.length:=(hG.1 hi).1
 have h0:i*k+0<(xs.flatMap enc).length:=by
  rw[oc hk]
  calc i*k+0<i*k+k:=by omega
   _=(i+1)*k:=by rw[Nat.succ_mul]
   _<=xs.length*k:=tO _ aq
 obtain⟨p,ad,I⟩:=h.get h0
 refine⟨p,ad,λj v aB=>?_⟩
 rw[Addr.w4]
 refine I _ _ ?_
 have aP:j<k:=by grind
 rw[EF hk xs i j aP,hi]
 exact aB
structure aD(ak u:H)(e k:O)(s:N)(xs:J ap):Prop where
 own:Own u e k s xs
 le:ak.le u
 fresh:∀g,s.al=some g->ak g=none
def aD.nil(h:ak.le u)(e k:O):aD ak u e k ⟨none,0,0⟩ []:=⟨.nil u e k,h,λg Z=>by simp[N.al] at Z⟩
def aD.mono{e:O}(h:aD ak u e k s xs)(hu:u.le u'):aD ak u' e k s xs:=
 ⟨h.own.le λ_ _ _ aa=>hu _ _ aa,h.le.trans hu,h.fresh⟩
def aD.weaken{aR:H}{e:O}(h:aD aR u e k s xs)(h0:ak.le aR):aD ak u e k s xs:=
 ⟨h.own,h0.trans h.le,λg Z=>by
  cases M:ak g with
  |none=>rfl|some z=>have:=h.fresh g Z;rw[h0 _ _ M] at this;cases this⟩
def hc(u u':H)(s:N):Prop:=∀b z,u b=some z->s.al≠some b->u' b=some z
def hc.refl(u:H)(s:N):hc u u s:=λ_ _ h _=>h
theorem aD.else{hd dY:O}{t:N}(h:aD ak u hd dY t xs)(he:hc u u' s)(ae:∀g,s.al=some g->ak g=none)(an:∀g,s.al=some g->t.al≠some g):aD ak u' hd dY t xs:=
 ⟨h.own.le λb z aa hu=>he b z hu λZ=>an b Z aa,λb z aa=>he b z (h.le b z aa) λZ=>(by grind),h.fresh⟩
def aD.make(h:ak.le u)(Z:u g=none){cells:cA ap}{e n:O}(ag:n<=9223372036854775807)(ae:cells.size=n*k):
  aD ak (u.ins g (.cells cells e (0,0))) e k ⟨some ⟨g,0,none⟩,n,n⟩ cells.toList:=by
 refine⟨⟨by simp[ae],.inr ⟨g,cells,rfl,bh _ _ _,cw _,ag,ae,?_⟩⟩,h.trans (bX _ Z),λb5 cu=>?_⟩
 rw[gC (by simp[ae])]
 simp[N.al] at cu
 subst cu
 cases M:ak g with
 |none=>rfl
 |some z=>rw[h _ _ M] at Z;cases Z
def Hc(c:cA ap)(z:O)(vs:J ap)(h:z+vs.length<=c.size):(wr c z vs).toList=c.toList.take z++vs++c.toList.drop (z+vs.length):=by have:=aot vs c.toList z (by simpa using h);rw[Array.toArray_toList] at this;rw[this];rfl
theorem aD.store{e:O}{xs:J α}(hk:∀x,(enc x).length=k)(h:aD ak u e k s (xs.flatMap enc))(rn:0<k)(hi:i<xs.length){y:α}(h1:∀v∈enc y,v.oneCell'=ai)
  {p:a8} (ad:s.a=some p) {f:H->Prop} (ab:∀u',aD ak u' e k s ((xs.set i y).flatMap enc)->hc u u' s->(∀b,u b=none->u' b=none)->f u'):H.aM u (p.add (i*k)) (enc y) f:=by
 rcases h.own.is with h0|⟨g,cur,az,Z,ag,I,ae,ht⟩
 rw[h0] at ad;cases ad
 .rw[az] at ad;cases ad;have Yv:(⟨g,0,none⟩:a8).add (i*k)=⟨g,i*k,none⟩:=by rw[ib,kY]
  have dS:=hf hk rn h.own.cK;have hle:i*k+k<=s.n*k:=by
   calc i*k+k=(i+1)*k:=by rw[Nat.succ_mul]
    _<=s.n*k:=tO _ (by omega)
  have xu:s.n*k<=s.c*k:=tO _ ag;rw[Yv];have dm:i*k+(enc y).length<=cur.size:=by rw[hk,ae];omega
  refine⟨cur,e,Z,rfl,dm,h1,ab _ ?_ ?_ ?_⟩;refine⟨⟨by rw[oc hk,Gk,dS],.inr ⟨g,_,az,bh _ _ _,ag,I,?_,?_⟩⟩,?_,h.fresh⟩;rw[<-zE,Hc _ _ _ dm]
  grind
  rw[Hc _ _ _ dm,agE hk xs i y hi,<-ht,hk];have hX:(cur.toList.take (i*k)++enc y).length=i*k+k:=by grind
  rw[List.take_append,gC (by omega),hX];congr 1
  grind
  rw[<-List.drop_take];exact λb z aa=>by
    have:b≠g:=λsb=>by
     have:=h.fresh g (by simp[N.al,az])
     grind
    rw[bz _ _ this];exact h.le b z aa
  intro b z aa an;rw[bz _ _ (λsb=>an (by simp[N.al,az,sb]))];exact aa;intro b aa;rw[bz _ _ (λsb=>by grind)];exact aa
end
def c7.O6{m:Sem ap}{fB:N->H->Prop}(h:c7 P m [.one .slice] u K)(hk:∀s u',K s u'->fB s u'):c7 P m [.one .slice] u fB:=by
 intro w hw;obtain⟨v,w',u',h1,⟨vs,h2,h3,br⟩,bL⟩:=h w hw;refine⟨v,w',u',h1,⟨vs,h2,h3,?_⟩,bL⟩;cases h2 with
 |cons x U=>cases U;exact(aI.vx .slice x _).2 (hk _ _ ((aI.vx .slice x _).1 br))
theorem zT{c9:cA (O×ap)}(aV:ku P t=some (e,size,bytes,zs))(cH:kO P t 1 c9=some (e,eK))(dm:0<size)
  (aj:eK.length=size) (h1:∀y∈eK,y.oneCell'=ai) {ak u:H} {s:N} {xs:J ap} (h:aD ak u e size s xs) (hm:s.n<9223372036854775807) (aa:(s.n+1)*bytes<=140737488355328) {K:N->H->Prop}
  (au:∀ar u',aD ak u' e size ar (xs++eK)->ar.n=s.n+1->hc u u' s->(∀g,ar.al=some g->s.al=some g∨u g=none)->ar.a≠none->K ar u'):
  c7 P (dA t 1 c9) [.one .slice] u λs1 aR=>u.le aR/\c7 P (dO #[t,t] t #[.slice s.a s.n s.c,.slice s1.a s1.n s1.c]) [.one .slice] aR K:=by
 refine mK cH λg Z=>⟨bX _ Z,?_⟩
 have M:bw (u.ins g (.cells eK.toArray e (0,0))) ⟨some ⟨g,0,none⟩,1,1⟩ size eK:=by have:=(aD.make (k:=size) (H.le.refl u) Z (cells:=eK.toArray) (e:=e) (n:=1) (by omega) (by simp[aj])).own.cK;simpa using this
 have bZ:=h.mono (bX (u:=u) (b:=g) (.cells eK.toArray e (0,0)) Z)
 refine acT aV dm bZ.own M h1 (by simp only;omega) (by simpa using aa) λar u' ac ag nc C6=>au ar u' ⟨ac,nc.le bZ.le h.fresh,λb5 cu=>nc.out bZ.le h.fresh b5 cu⟩ (by simpa using ag) ?_ ?_ ?_
 intro b z aa an
 exact nc.rest b z (bX _ Z _ _ aa) an
 intro b5 cu
 rcases nc.al with aa|⟨g2,aa,fK⟩
 grind
 rw[aa] at cu;cases cu
 refine .inr ?_
 cases M:u b5 with
 |none=>rfl
 |some z=>rw[bX _ Z _ _ M] at fK;cases fK
 intro aJF
 rcases ac.is with h0|⟨g2,_,az,_⟩
 grind
 grind
def mn{c9:cA (O×ap)}(aV:ku P t=some (e,size,bytes,zs))(cH:kO P t 1 c9=some (e,eK))(dm:0<size)
  (aj:eK.length=size) (h1:∀y∈eK,y.oneCell'=ai) {ak u:H} {s:N} {xs:J ap} (h:aD ak u e size s xs) (hm:s.n<9223372036854775807) (aa:(s.n+1)*bytes<=140737488355328) {K:N->H->Prop}
  (au:∀ar u',aD ak u' e size ar (xs++eK)->ar.n=s.n+1->hc u u' s->(∀g,ar.al=some g->s.al=some g∨u g=none)->ar.a≠none->K ar u'):
  c7 P (dA t 1 c9) [.one .slice] u λs1 aR=>c7 P (dO #[t,t] t #[.slice s.a s.n s.c,.slice s1.a s1.n s1.c]) [.one .slice] aR K:=by
 exact c7.O6 (zT aV cH dm aj h1 h hm aa au) λ_ _ h=>h.2
def ui(u:H)(b:O)(l:J o):Prop:=∃es clock,u b=some (.map es clock)/\es.toList.map (λe=>(e.key,e.val))=l.map λx=>(cN .i64 x,gZ ai)
def ui.mono(h:ui u b l)(hu:u.le u'):ui u' b l:=by obtain⟨es,c,h1,h2⟩:=h;exact⟨es,c,hu _ _ h1,h2⟩
theorem arZ(x:o):∀(es:J zF) (l:J o) (i:O),es.map (λe=>(e.key,e.val))=l.map (λx=>(cN .i64 x,gZ ai))->
  (x∈l->∃j,Gq (.int .i64) (.int .i64 x) es i=some (some (j,.bool ai)))/\(x∉l->Gq (.int .i64) (.int .i64 x) es i=some none):=by
 intro es
 induction es with
 |nil=>
  intro l i h;have:l=[]:=by simpa using h.symm
  subst this;exact⟨λh=>(by cases h),λ_=>rfl⟩
 |cons e es aW=>
  intro l i h;cases l with
  |nil=>simp at h|cons y l=>
   simp only[iw,vj,JF] at h;obtain⟨⟨hk,aB⟩,U⟩:=h;obtain⟨i1,i2⟩:=aW l (i+1) U;unfold Gq;rw[hk,aB];simp only[Instr.sameNow,x5]
   grind
def acX{K:aA O->H->Prop}(au:∀b,u b=none->ui (u.ins b (.map #[] 0)) b []->K (some b) (u.ins b (.map #[] 0))):
  c7 P (pr t none) [.one .map] u K:=
 .one (c:=.map) λw hw=>⟨some w.heap.size,_,_,Go.RowKit.run_makeMap t w,au _ (hw.none (cw _)) ⟨#[],0,bh _ _ _,rfl⟩,Step.Bp hw _⟩
structure Ee(P:dL)(t k e:dC):Prop where
 fq:P.underlying t=some (.map k e)
 key:P.underlying k=some (.int .i64)
 zero:∀w,(zeroValue e).run P w=.ok (.bool ao) w
def Ee.find(T:Ee P t k e){es:cA zF}(h:es.toList.map (λe=>(e.key,e.val))=l.map λx=>(cN .i64 x,gZ ai))(x:o)(w:ci):
  (x∈l->∃j,(Bx k (.int .i64 x) es.toList).run P w=.ok (some (j,.bool ai)) w)/\(x∉l->(Bx k (.int .i64 x) es.toList).run P w=.ok none w):=by
 obtain⟨h1,h2⟩:=arZ x es.toList l 0 h
 constructor
 intro M
 obtain⟨j,aP⟩:=h1 M
 exact⟨j,by simp[Bx,eN,ia T.key,jH,aP]⟩
 intro M
 simp[Bx,eN,ia T.key,jH,h2 M]
def Ee.check(T:Ee P t k e)(b:ay)(x:o)(w:ci):(Dx b 10000 k (.int .i64 x)).run P w=.ok () w:=by show(Dx b (9999+1) k (.int .i64 x)).run P w=.ok () w;unfold Dx;simp[eN,ia T.key,jH]
def acW(T:Ee P t k e)(h:ui u b l){K:ay->H->Prop}(au:K (decide (x∈l)) u):
  c7 P (gY t (.map (some b)) (.int .i64 x) ao) [.one .bool] u K:=by
 obtain⟨es,c,aa,aq⟩:=h
 refine .Dq (c:=.bool) (decide (x∈l)) (λw hw=>?_) au
 have Z:=zG (P:=P) (hw _ _ aa)
 have ab:=T.find aq x w
 have I:=T.check es.isEmpty x w
 by_cases M:x∈l
 obtain⟨j,aP⟩:=ab.1 M
 simp[gY,eN,ia T.fq,Z,I,aP,jH,M,aI.enc]
 have aP:=ab.2 M
 simp[gY,eN,ia T.fq,Z,I,aP,jH,M,aI.enc,T.zero]
theorem step_block(hw:Sub u w){z:Obj}(Z:u g=some z)(cn:Obj):Step u [] w (u.ins g cn) [] {w with heap:=w.heap.setIfInBounds g cn}:=by
 have bP:=hw.lt Z;refine⟨λb x h=>?_,rfl,rfl,rfl,cw _,by simp,λb _ aa _=>?_,λb _ aa=>?_,[],by simp,by simp⟩;unfold H.ins at h;split at h
 grind
 rename_i sb;show(w.heap.setIfInBounds g cn)[b]?=some x;rw[Array.getElem?_setIfInBounds_ne (e3 sb)];exact hw b x h
 grind
 have:b≠g:=λh=>by grind
 rw[bz u _ this];exact aa
theorem T8(T:Ee P t k e)(h:ui u b l)(M:x∉l){K:H->Prop}
  (au:∀u',ui u' b (l++ [x])->(∀g z,u g=some z->g≠b->u' g=some z)->(∀g,u g=none->u' g=none)->K u'):
  c7 P (unit (kW t (.map (some b)) (.int .i64 x) (.bool ai))) [] u K:=by
 obtain⟨es,c,aa,aq⟩:=h
 intro w hw
 have Z:=zG (P:=P) (hw _ _ aa)
 have aP:=(T.find aq x w).2 M
 have I:=T.check ao x w
 have j7:=JG (P:=P) (.map (es.push {key:=.int .i64 x,val:=.bool ai,born:=c}) (c+1)) (hw _ _ aa)
 refine⟨_,_,u.ins b (.map (es.push {key:=.int .i64 x,val:=.bool ai,born:=c}) (c+1)),?_,⟨[],.nil,rfl,au _ ⟨_,_,bh _ _ _,?_⟩ ?_ ?_⟩,step_block hw aa _⟩
 simp[unit,kW,eN,ia T.fq,Z,I,aP,jH,j7]
 rfl
 simp[aq]
 intro g z tg an;rw[bz _ _ an];exact tg
 intro g tg;rw[bz _ _ (λh=>by grind)];exact tg
end
