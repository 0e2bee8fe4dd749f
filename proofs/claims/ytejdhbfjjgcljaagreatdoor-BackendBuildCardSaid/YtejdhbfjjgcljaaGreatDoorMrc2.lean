/- Texts of mine, joined and packed by pack.py. -/
import Derived.Test.YtejdhbfjjgcljaaGreatDoorMrc1
import Derived.Scope
import Derived.RangeFuncLeaves
import Derived.RangeFuncRecord
import Derived.Test.YtejdhbfjjgcljaaGreatDoorProg
import Derived.Laws.StructEq
import Derived.ChangeKeysEq
import Derived.KernelRfl
import Derived.Laws.MathBits
import Derived.Laws.Externs
import Derived.IntWalk
import Derived.DataElems
import Derived.Laws.AppendOwn
import Derived.Laws.MakeOwn
import Derived.Laws.Slices
import Derived.Laws.CopyRow
import Derived.MapKept
import Derived.ChangeMaps5
import Derived.Carry
set_option linter.all false
open Go renaming Program->dR,Value->ao,World->b6,TypeId->dC,FuncId->ju,Addr->ba,Operand->jw,Act->eo,undef->hQ,Oper->eF,Exit->kz,Code->iK,madeCells->lO,MapEntry->y8
open _root_ renaming Nat->N,List->J,Option->ay,Array->cu,Int->o,Bool->aI,False->ej,absurd->a6
open Go.World renaming cell?->Jc
open Bool renaming true->ak,false->ax
open Nat renaming beq->ji,blt->xx,ble->vM
open Go.IntKind renaming i64->ci,u64->bR
open Go.Fence renaming wide->uy
open Go.Instr renaming lookup->gK,mapUpdate->kV,makeMap->pO,makeSlice->pP,sliceAt->fR,buildSlice->dA,findNow->Gb,findKey->Ba,checkKey->Gd
open Go.Builtin renaming append_->dW,zeroCells->vP
open Go.Result renaming ok->xy,andThen->jy
open Go.Op renaming equalIn->xD,eqFields->aaO
open Array renaming replicate->Db
open Go.Exit renaming noConfusion->rv
open Go.Proofs.Tryz renaming prog->aH
open Go.Value renaming agg->cV,bool->l3,map->dJ,int->cG
set_option maxRecDepth 100000
noncomputable section
namespace Go.Proofs.YtejdhbfjjgcljaaGreatDoor
open H
def xF:=@Go.Code.wp_mono
def NZ:=@Go.wpIn_wide
def F9:=@Go.World.putObj_heap_same
def l2:=@Go.World.putObj_heap_other
def iq:=@Go.run_underlying
def iC:=@Go.Addr.add_lit
def za:=@Go.MapKept.run_getObj_map
def Jp:=@Go.MapKept.run_setObj_map
section
variable{vs args:J ao}{ds bs c5:J N}{u:H}{w':b6}{ss:J bj}{C:kZ}{f:ju}{l:J (N×aK)}{p:N×fB}{ap:aN}
structure p5 where
 Dv:J (N×aK)
 boxes:J (N×J aK)
def p5.pn(a:p5):J aK:=a.Dv.map (·.2)++a.boxes.flatMap (·.2)
def Qa:J (N×p5)->N->ay p5
 | [],_=>none|(i,x)::r,j=>match ji i j with
  |true=>some x|false=>Qa r j
def fo:iK->J N
 | .seq a b=>fo a++fo b| .cond _ a b=>fo a++fo b| .block _ b=>fo b| .loop b=>fo b| .scope b=>fo b| .region _ ops _=>ops.toList.filterMap λz=>z.dst|_=>[]
def GF(s:aN):J (N×aK)->ay (J ao)
 | []=>some []|(d,_)::r=>match(look s.env d).bind fB.val,GF s r with
  |some v,some vs=>some (v::vs)|_,_=>none
def Qi(s:aN):J (N×J aK)->ay (J ao)
 | []=>some []|(i,ca)::r=>match s.loc[i]?,Qi s r with
  |some cs,some vs=>match ji cs.length ca.length with
   |true=>some (cs++vs)|false=>none
  |_,_=>none
def GU(s:aN)(aX:p5):ay (J ao):=
 match s.Ed with
 |none=>match GF s aX.Dv,Qi s aX.boxes with
  |some a,some b=>some (a++b)|_,_=>none
 |some _=>none
def Hs:J (N×fB)->J (N×ao)
 | []=>[]|(d,x)::r=>match x.val with
  |some v=>(d,v)::Hs r|none=>Hs r
def Dl:iK->ay iK
 | .rangeFunc g p x y=>some (.rangeFunc g p x y)| .seq a b=>match Dl a with
  |some c=>some c|none=>Dl b
 | .cond _ a b=>match Dl a with
  |some c=>some c|none=>Dl b
 | .block _ b=>Dl b| .scope b=>Dl b| .loop b=>Dl b|_=>none
def JJ(c:iK):iK:=(Dl c).getD .skip
def mP(P:dR)(c:iK)(n:N)(env:J (N×ao))(u:H)(K:N->H->Prop):Prop:=
 ∀a w,a.tmps.size=n->(∀p∈env,a.tmps[p.1]?=some p.2)->a.defers=[]->Sub u w->
  c.wp P (λe cM w'=>e=.normal/\cM.tmps=a.tmps/\∃D u',cM.defers=KK (some D)/\K D u'/\Step u [] w u' [] w') a w
def TX:aK->ao->fB
 | .addr,.pointer (some p)=>.ptr p|_,v=>.v v
def alY(t:aK)(v:ao)(bs:J N):hj bs (TX t v)=some v:=by unfold TX;split<;>rfl
def zw:J (N×aK)->J ao->J (N×fB)
 |(d,t)::r,v::vs=>(d,TX t v)::zw r vs|_,_=>[]
def Du:J (J ao)->J (N×J aK)->J ao->J (J ao)
 |loc,[],_=>loc|loc,(i,ca)::r,vs=>Du (tg loc i (vs.take ca.length)) r (vs.drop ca.length)
def Nq(ds:J N):J (N×fB)->J (N×fB)
 | []=>[]|(d,x)::r=>match gA ds d with
  |true=>Nq ds r|false=>(d,x)::Nq ds r
def oJ(s:aN)(ds:J N)(aX:p5)(vs:J ao):aN:=
 {n:=s.n,env:=zw aX.Dv vs++Nq ds s.env,loc:=Du s.loc aX.boxes (vs.drop aX.Dv.length)}
def narrow(bz:N->aI)(zR:N)(oL:J (N×J aK))(i:N):aI:=
 match xx i zR with
 |true=>gA (oL.map (·.1)) i && bz i|false=>ak
def Bt(s:aN)(c:jw)(x:fB):aN:=
 match c with
 | .tmp t=>s.put (some t) x|_=>s
def hf(C:kZ)(hX:J (N×p5)):iK->N->(N->aI)->(kz->aN->H->Prop)->aN->H->Prop
 | .skip,_,_,Q,s,u=>Q .normal s u| .label _,_,_,Q,s,u=>Q .normal s u| .ret,_,_,Q,s,u=>Q .ret s u| .exit id,_,_,Q,s,u=>Q (.exit id) s u| .seq x y,p,bz,Q,s,u=>match Qa hX p with
  |none=>hf C hX x (2*p) bz (λe ap u'=>match e with
   | .normal=>hf C hX y (2*p+1) bz Q ap u'|e=>Q e ap u') s u
  |some aX=>∀K:hd aX.pn (H->Prop),
    KA aX.pn (λvs=>∀aS,hf C hX y (2*p+1) bz Q (oJ s (fo x) aX vs) aS->hG aX.pn K vs λr=>r aS)->
    hf C hX x (2*p) (narrow bz s.loc.length aX.boxes) (λe ap u'=>match e with
     | .normal=>match GU ap aX with
      |some vs=>hG aX.pn K vs λr=>r u'|none=>ej
     |e=>Q e ap u') s u
 | .cond c x y,p,bz,Q,s,u=>match s.sv c with
  |some .jL=>hf C hX x (2*p) bz Q s u|some .jP=>hf C hX y (2*p+1) bz Q s u|some (.dec q _)=>(q->hf C hX x (2*p) bz Q (Bt s c .jL) u)/\(¬q->hf C hX y (2*p+1) bz Q (Bt s c .jP) u)|some (.uo q _)=>(¬q->hf C hX x (2*p) bz Q (Bt s c .jL) u)/\(q->hf C hX y (2*p+1) bz Q (Bt s c .jP) u)|some (.v (.bool b))=>(b=ak->hf C hX x (2*p) bz Q (Bt s c .jL) u)/\(b=ax->hf C hX y (2*p+1) bz Q (Bt s c .jP) u)|_=>ej
 | .block id b,p,bz,Q,s,u=>hf C hX b (2*p) bz (λe ap u'=>match e with
  | .exit j=>match ji j id with
   |true=>Q .normal ap u'|false=>Q (.exit j) ap u'
  |e=>Q e ap u') s u
 | .scope b,p,bz,Q,s,u=>hf C hX b (2*p) bz (λe ap u'=>match e with
  | .goto _=>ej|e=>Q e ap u') s u
 | .loop b,p,bz,Q,s,u=>match Qa hX p with
  |none=>ej|some aX=>match GU s aX with
   |none=>ej|some Ph=>∃di:hd aX.pn (H->Prop),∃μ:hd aX.pn (H->N),(hG aX.pn di Ph λr=>r u)/\
     KA aX.pn λvs=>∀aS,(hG aX.pn di vs λr=>r aS)->
      hf C hX b (2*p) (narrow bz s.loc.length aX.boxes) (λe ap u'=>match e with
       | .normal=>match GU ap aX with
        |some qL=>hG aX.pn di qL λr=>hG aX.pn μ qL λm=>hG aX.pn μ vs λm0=>r u'/\m u'<m0 aS|none=>ej
       |e=>Q e ap u') (oJ s (fo b) aX vs) aS
 | .region _ ops ax,_,bz,Q,s,u=>JR C bz ops ops.toList s u (Q .normal)| .rangeFunc g c3 x y,_,_,Q,s,u=>match s.Ed with
  |none=>mP C.P (.rangeFunc g c3 x y) s.n (Hs s.env) u λD u'=>Q .normal {s with Ed:=some D} u'
  |some _=>ej
 | .region _ ops ak,_,bz,Q,s,u=>match Region.noSelect ops with
  |true=>match C.part with
   |false=>zV C bz ops u (ops.size+1) (Db ops.size ax) ak s u (Q .normal)|true=>∃v0:H,v0.le u/\wF C bz ops v0 u (ops.size+1) (Db ops.size ax) ak s u (Q .normal)
  |false=>ej
 |_,_,_,_,_,_=>ej
section
variable {C:kZ} {bz:N->aI} {s:aN} {u:H} {bs:J N} {a:eo} {w:b6}
def mg(bz:N->aI)(s:aN)(bs:J N)(u:H)(a:eo)(w:b6)(ds:J N)(Q:kz->aN->H->Prop)(e:kz)(cM:eo)(w':b6):Prop:=
 (∀c,e≠.panic c)/\∃ap u' c5,Q e ap u'/\Fits ap c5 u' cM w'/\Step u bs w u' c5 w'/\Kept bz s ap/\∀d,gA ds d=ax->cM.tmps[d]?=a.tmps[d]?
def CY(a b:J N)(d:N):gA (a++b) d=(gA a d ||gA b d):=by simp[gA]
def mg.mono{Ee:J N}{Q:kz->aN->H->Prop}{e:kz}{cM:eo}(h:mg bz s bs u a w ds Q e cM w')(aw:∀d,gA Ee d=ax->gA ds d=ax):
  mg bz s bs u a w Ee Q e cM w':=by
 obtain⟨h1,ap,u',c5,h2,h3,a7,bE,fO⟩:=h
 exact⟨h1,ap,u',c5,h2,h3,a7,bE,λd h=>fO d (aw d h)⟩
def mg.next{s1:aN}{aS:H}{aec:J N}{aa:eo}{fu:b6}{Q:kz->aN->H->Prop}{e:kz}{cM:eo}(ag:Step u bs w aS aec fu)(hk:Kept bz s s1)
  (aE:∀d,gA ds d=ax->aa.tmps[d]?=a.tmps[d]?) (h:mg bz s1 aec aS aa fu ds Q e cM w'):mg bz s bs u a w ds Q e cM w':=by
 obtain⟨h1,ap,u',c5,h2,h3,a7,bE,fO⟩:=h
 exact⟨h1,ap,u',c5,h2,h3,ag.trans a7,hk.trans bE,λd h=>(fO d h).trans (aE d h)⟩
def Step.forget{u':H}{w:b6}(h:Step u bs w u' c5 w'):Step u bs w u' bs w':=
 ⟨h.sub,h.os,h.tape,h.output,h.drawn,h.size,h.rest,h.jg,[],by simp,by simp⟩
def akR(h:GF s l=some vs):vs.length=l.length:=by
 induction l generalizing vs with
 |nil=>simp[GF] at h;subst h;rfl|cons p r aL=>simp only[GF] at h;split at h;rename_i v qL aA kS;cases h;simp[aL kS];cases h
def aEM{ws:J ao}(h:vs.length=l.length):zw l (vs++ws)=zw l vs:=by
 induction l generalizing vs with
 |nil=>
  cases vs with
  |nil=>cases ws<;>rfl
  |cons=>simp at h
 |cons p r aL=>
  cases vs with
  |nil=>simp at h|cons v vs=>simp only[vO,zw];rw[aL (by simpa using h)]
def aEN(ac:FitsE s bs a)(h:GF s l=some vs):
  ∀p∈zw l vs,∃v,hj c5 p.2=some v/\a.tmps[p.1]?=some v:=by
 induction l generalizing vs with
 |nil=>intro p ad;simp[zw] at ad
 |cons q r aL=>
  simp only[GF] at h;split at h;rename_i v qL aA kS;cases h;intro p ad;simp only[zw] at ad;cases ad with
  |head=>simp only[aaG] at aA;obtain⟨x,M,Ni⟩:=aA;obtain⟨cm,h1,h2⟩:=ac.env _ (FN M);simp only at h1 h2;rw[fB.Ud Ni bs] at h1;cases h1;exact⟨v,alY _ _ _,h2⟩
  |tail _ ad=>exact aL kS p ad
  cases h
def avK{l:J (N×fB)}(h:p∈Nq ds l):p∈l/\gA ds p.1=ax:=by
 induction l with
 |nil=>cases h
 |cons q r aL=>
  obtain⟨d,x⟩:=q;simp only[Nq] at h;split at h;exact⟨.tail _ (aL h).1,(aL h).2⟩;rename_i e;cases h with
  |head=>exact⟨.head _,e⟩|tail _ h=>exact⟨.tail _ (aL h).1,(aL h).2⟩
def OC:∀(oL:J (N×J aK)) (loc:J (J ao)) (vs:J ao),(Du loc oL vs).length=loc.length:=by
 intro oL;induction oL with
 |nil=>intro loc vs;rfl
 |cons p r aL=>intro loc vs;simp only[Du];rw[aL,TH]
def akJ{zR:N}(aFm:zR<=ap.loc.length):∀(oL:J (N×J aK)) (loc:J (J ao)) (vs:J ao),Qi ap oL=some vs->loc.length=zR->
  (∀(i:N) (cs:J ao),loc[i]?=some cs->gA (oL.map (·.1)) i=ax->ap.loc[i]?=some cs)->∀(i:N) (cs:J ao),(Du loc oL vs)[i]?=some cs->ap.loc[i]?=some cs:=by
 intro oL
 induction oL with
 |nil=>intro loc vs _ _ h i cs e;exact h i cs e rfl
 |cons p r aL=>
  obtain⟨j,ca⟩:=p;intro loc vs h ar hk i cs e;simp only[Qi] at h;split at h;rename_i zT qL aM kS;split at h;rename_i hlen;cases h;have atj:=l1 hlen;simp only[Du] at e;rw[<-atj,SZ,S0] at e;refine aL (tg loc j zT) qL kS (by rw[TH];exact ar) ?_ i cs e;intro k7 D9 aC hm;rw[abF] at aC;split at aC;rename_i iR;cases aC;rw[<-iR.1];exact aM;rename_i iR;refine hk k7 D9 aC ?_;simp only[gl,gA,List.any_cons,y6];refine⟨?_,hm⟩;cases Z:ji k7 j with
  |false=>rfl|true=>
   have:=l1 Z;subst this;have bC:k7<loc.length:=by rcases j1 k7 loc.length with k|k;exact k;rw[io k] at aC;cases aC
   exact a6 ⟨rfl,bC⟩ iR
  cases h;cases h
def Fits.oJ{u':H}{cM:eo}{aX:p5}(ac:Fits s bs u a w)(dd:Fits ap c5 u' cM w')(ag:Step u bs w u' c5 w')
  (hk:Kept (narrow bz s.loc.length aX.boxes) s ap) (aE:∀d,gA ds d=ax->cM.tmps[d]?=a.tmps[d]?) (aA:GU ap aX=some vs):
  Fits (oJ s ds aX vs) bs u' cM w':=by
 unfold GU at aA
 split at aA
 rotate_left
 cases aA
 rename_i Cr
 split at aA
 rename_i zu qK Sc AH
 cases aA
 have H9:=akR Sc
 obtain⟨ext,vi,_⟩:=ag.more
 have aB:zw aX.Dv (zu++qK)=zw aX.Dv zu:=aEM H9
 have aw:(zu++qK).drop aX.Dv.length=qK:=by rw[<-H9,S0]
 refine⟨⟨by rw[dd.defers,Cr];rfl,by rw[dd.n,hk.n];rfl,?_⟩,?_,?_,ac.nodup,?_,dd.sub⟩
 intro p ad
 simp only[Go.Proofs.YtejdhbfjjgcljaaGreatDoor.oJ,aB] at ad
 rcases cK.1 ad with ad|ad
 exact aEN dd.toFitsE Sc p ad
 obtain⟨h1,h2⟩:=avK ad
 obtain⟨v,h3,a7⟩:=ac.env p h1
 exact⟨v,h3,(aE p.1 h2).trans a7⟩
 simp only[Go.Proofs.YtejdhbfjjgcljaaGreatDoor.oJ,OC];exact ac.len
 intro i cs e
 simp only[Go.Proofs.YtejdhbfjjgcljaaGreatDoor.oJ,aw] at e
 have bC:i<s.loc.length:=by rcases j1 i s.loc.length with k|k;exact k;rw[io (by rw[OC];exact k)] at e;cases e
 have h1:=akJ hk.len aX.boxes s.loc qK AH rfl (λj D9 aC hm=>by
  refine hk.same j D9 aC ?_;have L4:j<s.loc.length:=by rcases j1 j s.loc.length with k|k;exact k;rw[io k] at aC;cases aC
  unfold narrow;have:xx j s.loc.length=ak:=by simpa using L4
  rw[this];simp[hm]) i cs e
 obtain⟨b,T,h2,h3⟩:=dd.loc i cs h1
 refine⟨b,T,?_,h3⟩
 rw[vi,qy (by rw[ac.len];exact bC)] at h2
 exact h2
 intro b Z
 exact dd.b7 b (by rw[vi];exact iY _ Z)
 cases aA
def VE{aX:p5}(hk:Kept (narrow bz s.loc.length aX.boxes) s ap)(aA:GU ap aX=some vs):
  Kept (narrow bz s.loc.length aX.boxes) s (oJ s ds aX vs):=by
 unfold GU at aA
 split at aA
 rotate_left
 cases aA
 rename_i Cr
 split at aA
 rename_i zu qK Sc AH
 cases aA
 have H9:=akR Sc
 have aw:(zu++qK).drop aX.Dv.length=qK:=by rw[<-H9,S0]
 refine⟨rfl,by simp only[oJ,OC];exact cg _,λi cs e hw=>?_⟩
 simp only[oJ,aw]
 have bC:i<s.loc.length:=by rcases j1 i s.loc.length with k|k;exact k;rw[io k] at e;cases e
 have h1:=akJ hk.len aX.boxes s.loc qK AH rfl (λj D9 aC hm=>by
   refine hk.same j D9 aC ?_;have L4:j<s.loc.length:=by rcases j1 j s.loc.length with k|k;exact k;rw[io k] at aC;cases aC
   unfold narrow;have:xx j s.loc.length=ak:=by simpa using L4
   rw[this];simp[hm]) i
 have h2:=hk.same i cs e hw
 cases h3:(Du s.loc aX.boxes qK)[i]? with
 |none=>
  have:i<(Du s.loc aX.boxes qK).length:=by rw[OC];exact bC
  rw[cn this] at h3;cases h3
 |some x=>have a7:=h1 _ h3;rw[h2] at a7;exact a7.symm
 cases aA
def aah{zR:N}{oL:J (N×J aK)}{s1 s2:aN}(I:s1.loc.length=zR)(k:Kept (narrow bz zR oL) s1 s2):Kept bz s1 s2:=by
 refine⟨k.n,k.len,λi cs e hw=>k.same i cs e ?_⟩;have bC:i<zR:=by rw[<-I];rcases j1 i s1.loc.length with h|h;exact h;rw[io h] at e;cases e
 unfold narrow;have:xx i zR=ak:=by simpa using bC
 rw[this];simp[hw]
def aEy{P:dR}{c:iK}{Q:kz->eo->b6->Prop}{G:Type}(di:G->eo->b6->Prop)(μ:G->N)
  (round:∀g a w,di g a w->c.wp P (Exit.then (λcM w'=>∃bX,di bX cM w'/\μ bX<μ g) Q) a w) {a:eo} {w:b6} (g:G) (h:di g a w):(Code.loop c).wp P Q a w:=by
 intro b k cs
 have key:∀n g a w,μ g=n->di g a w->
   ∃e cM w',Q e cM w'/\Arrives P (lone (b.at a (.code c:: .inLoop c::k)) cs w) b k cs e cM w':=by
  intro n
  induction n using Nat.strongRecOn with
  |_ n aL=>
   intro g a w ae cA;obtain⟨e,Hg,J6,aO,Co⟩:=round g a w cA b (.inLoop c::k) cs;cases e with
   |normal=>obtain⟨afq,aq2,bC⟩:=aO;obtain⟨ap9,an6,aEE,aul,arU⟩:=aL (μ afq) (ae▸bC) afq Hg J6 rfl aq2;exact⟨ap9,an6,aEE,aul,.of_steps (Steps.trans Co (.one step_inLoop)) arU⟩
   |exit id=>exact⟨_,Hg,J6,aO,.pass (x:=.inLoop c) rfl (λ_ _=>.inl (by simp)) Co⟩|goto l=>exact⟨_,Hg,J6,aO,.pass (x:=.inLoop c) rfl (λ_ _=>.inl (by simp)) Co⟩|ret=>exact⟨_,Hg,J6,aO,.pass (x:=.inLoop c) rfl (λ_ _=>.inl (by simp)) Co⟩|panic Hl=>exact⟨_,Hg,J6,aO,.pass (x:=.inLoop c) rfl (λ_ _=>.inl (by simp)) Co⟩|outgrown=>exact⟨_,Hg,J6,aO,.pass (x:=.inLoop c) rfl (λ_ _=>.inl (by simp)) Co⟩
 obtain⟨e,cM,w',aO,Co⟩:=key _ g a w rfl h
 exact⟨e,cM,w',aO,.of_steps (.one step_loop) Co⟩
def aBm{R:Type}{ca:J aK}{di:hd ca R}{f g:R->Prop}(h:hG ca di vs f)(LS:∀r,f r->g r):hG ca di vs g:=by obtain⟨r,O⟩:=acw di (J3 h);exact(O _).2 (LS _ ((O _).1 h))
def Hp{id:N}{ops:cu eF}{bg:aI}{z:eF}(ab:z∈ops.toList){d:N}(aw:z.dst=some d):gA (fo (.region id ops bg)) d=ak:=by simp only[fo,gA,List.any_eq_true];exact⟨d,List.mem_filterMap.2 ⟨z,ab,aw⟩,Nat.beq_refl d⟩
def wh{c:jw}{x:fB}(ac:Fits s bs u a w)(M:hj bs x=some (a.eval c))(ae:∀t,c=.tmp t->(look s.env t).isSome=ak):Fits (Bt s c x) bs u a w/\(Bt s c x).loc=s.loc/\(Bt s c x).n=s.n:=by
 cases c with
 |tmp t=>
  obtain⟨y,ah⟩:=Je.1 (ae t rfl);obtain⟨v,h1,h2⟩:=ac.env _ (FN ah);simp only at h1 h2;have fc:a.eval (.tmp t)=v:=by simp only[Act.eval];rw[A1,h2];rfl
  rw[fc] at M;have he:=ac.toFitsE.tell (d:=t) M h2;exact⟨ac.told ⟨he,(mD _ _ _).1,(mD _ _ _).2⟩,(mD _ _ _).1,(mD _ _ _).2⟩
 |const v=>exact⟨ac,rfl,rfl⟩|global g=>exact⟨ac,rfl,rfl⟩|func f=>exact⟨ac,rfl,rfl⟩
def apS{s:aN}{a:eo}(ac:FitsE s bs a):∀p∈Hs s.env,a.tmps[p.1]?=some p.2:=by
 have key:∀l:J (N×fB),(∀p∈l,p∈s.env)->∀p∈Hs l,a.tmps[p.1]?=some p.2:=by
  intro l;induction l with
  |nil=>intro _ p ad;cases ad
  |cons q r aL=>
   obtain⟨d,x⟩:=q;intro ar p ad;simp only[Hs] at ad;split at ad;rename_i v aA;cases ad with
   |head=>obtain⟨cm,h1,h2⟩:=ac.env _ (ar _ (.head _));simp only at h1 h2;rw[fB.Ud aA bs] at h1;cases h1;exact h2
   |tail _ ad=>exact aL (λp ad=>ar p (.tail _ ad)) p ad
   exact aL (λp ad=>ar p (.tail _ ad)) p ad
 exact key s.env λ_ h=>h
set_option maxHeartbeats 1000000 in
def api(ft:Good C)(hX:J (N×p5)):∀(c:iK) (p:N) (bz:N->aI) (Q:kz->aN->H->Prop) (s:aN) (u:H),hf C hX c p bz Q s u->
  ∀(bs:J N) (a:eo) (w:b6),Fits s bs u a w->c.wp C.P (mg bz s bs u a w (fo c) Q) a w:=by
 intro c
 have base:∀(e:kz),(∀c,e≠.panic c)->∀(ds:J N) (bz:N->aI) (Q:kz->aN->H->Prop) (s:aN) (u:H) (bs:J N) (a:eo) (w:b6),Q e s u->Fits s bs u a w->
   mg bz s bs u a w ds Q e a w:=λe he ds bz Q s u bs a w h ac=>⟨he,s,u,bs,h,ac,Step.refl ac.sub,Kept.refl _ _,λ_ _=>rfl⟩
 induction c with
 |skip=>intro p bz Q s u h bs a w ac;exact wp_skip (base _ (λ_=>rv) _ _ _ _ _ _ _ _ h ac)
 |label l=>intro p bz Q s u h bs a w ac;exact wp_label (base _ (λ_=>rv) _ _ _ _ _ _ _ _ h ac)
 |ret=>intro p bz Q s u h bs a w ac;exact wp_ret (base _ (λ_=>rv) _ _ _ _ _ _ _ _ h ac)
 |exit id=>intro p bz Q s u h bs a w ac;exact wp_exit (base _ (λ_=>rv) _ _ _ _ _ _ _ _ h ac)
 |goto l=>intro p bz Q s u h;exact h.elim
 |refuse r=>intro p bz Q s u h;exact h.elim
 |rangeFunc f c3 x y=>
  intro p bz Q s u h bs a w ac;simp only[hf] at h;split at h;rename_i aw;have ase:a.defers=[]:=by rw[ac.defers,aw];rfl
  refine xF ?_ (h a w ac.n (apS ac.toFitsE) ase ac.sub);rintro e cM w' ⟨rfl,ht,D,u',tJ,aq,ag⟩;refine⟨λ_=>rv,_,u',bs,aq,?_,ag.L0 bs,⟨rfl,cg _,λ_ _ h _=>h⟩,λ_ _=>by rw[ht]⟩;have je:=ac.step ag;exact⟨⟨tJ,by rw[ht];exact je.n,λq aO=>by rw[ht];exact je.env q aO⟩,je.len,je.loc,je.nodup,je.b7,je.sub⟩;exact h.elim
 |region id ops bg=>
  intro p bz Q s u h bs a w ac;cases bg with
  |false=>simp only[hf] at h;refine NZ.1 (wpIn_region_list (akI ft none (ds:=gA (fo (.region id ops ax))) ops.toList s u bs a w h ac (.inl rfl) (λz ab d aw=>Hp ab aw) ?_));intro ap u' c5 cM w' hk dd ag il aE;exact⟨λ_=>rv,ap,u',c5,hk,dd,ag,il,aE⟩
  |true=>
   simp only[hf] at h;split at h;rename_i oo;have Ct:Fits s bs u a {w with drawn:=w.drawn+1}:=⟨ac.toFitsE,ac.len,ac.loc,ac.nodup,ac.b7,ac.sub⟩;have hv:x3 ops (Db ops.size ax):=by
    intro j z _ aM;have:(Db ops.size ax).getD j ax=ax:=by rw[A1,Array.getElem?_replicate];split<;>rfl
    rw[this] at aM;cases aM
   have sH:BI bz s bs u a {w with drawn:=w.drawn+1} (gA (fo (.region id ops ak))) (Q .normal) (mg bz s bs u a w (fo (.region id ops ak)) Q .normal):=by intro ap u' c5 cM w' hk dd ag il aE;exact⟨λ_=>rv,ap,u',c5,hk,dd,(Step.Qy ac.sub (Jo _)).trans ag,il,aE⟩
   split at h;refine wp_region_any ft.mixed (acM (nd:=rk ops) (S:=jl s.loc bs u) _ _ _ _ ?_);exact aeJ ft (ds:=gA (fo (.region id ops ak))) (gv:=s.loc) (fC:=bs) oo (λc a w ad=>ad.1 c rfl) (λz ab d aw=>Hp ab aw) _ _ _ s u h bs a _ _ Ct hv (by unfold left;simp) (λ_=>⟨H.le.refl u,rfl,rfl⟩) ⟨[],by simp⟩ sH;obtain⟨v0,yB,h⟩:=h;refine wp_region_any ft.mixed (acN (R:=oG ops s.loc bs v0 u) _ _ _ _ ?_);exact aeI ft (ds:=gA (fo (.region id ops ak))) (gv:=s.loc) (fC:=bs) yB oo (λc a w ad=>ad.1 c rfl) (λz ab d aw=>Hp ab aw) _ _ _ s u h bs a _ _ Ct hv (by unfold left;simp) (λ_=>⟨H.le.refl u,rfl,rfl⟩) ⟨[],by simp⟩ sH;exact h.elim
 |seq x y CS CT=>
  intro p bz Q s u h bs a w ac;have oh:∀d,gA (fo (.seq x y)) d=ax->gA (fo x) d=ax:=λd h=>by simp only[fo,CY,y6] at h;exact h.1
  have Cs:∀d,gA (fo (.seq x y)) d=ax->gA (fo y) d=ax:=λd h=>by simp only[fo,CY,y6] at h;exact h.2
  simp only[hf] at h;split at h;refine wp_seq (xF ?_ (CS _ _ _ s u h bs a w ac));intro e cM w' ad;obtain⟨al,ap,u',c5,aO,dd,ag,hk,aE⟩:=ad;cases e with
  |normal=>refine xF ?_ (CT _ _ _ ap u' aO c5 cM w' dd);intro aC a2 dK fg;exact mg.next ag hk (λd aw=>aE d (oh d aw)) (fg.mono Cs)
  |exit id=>exact⟨al,ap,u',c5,aO,dd,ag,hk,λd aw=>aE d (oh d aw)⟩|goto l=>exact⟨al,ap,u',c5,aO,dd,ag,hk,λd aw=>aE d (oh d aw)⟩|ret=>exact⟨al,ap,u',c5,aO,dd,ag,hk,λd aw=>aE d (oh d aw)⟩|panic c=>exact a6 rfl (al c)|outgrown=>exact⟨al,ap,u',c5,aO,dd,ag,hk,λd aw=>aE d (oh d aw)⟩
  rename_i aX _;have bL:=h (Nv aX.pn λvs aS=>hf C hX y (2*p+1) bz Q (oJ s (fo x) aX vs) aS) (by
   have all:∀(ca:J aK) (f:J ao->Prop),(∀vs,pr ca vs->f vs)->KA ca f:=by
    intro ca;induction ca with
    |nil=>intro f ac;exact ac [] .nil
    |cons t ca aL=>intro f ac x;exact aL _ λvs kS=>ac _ (.cons x kS)
   refine all _ _ λvs kS aS h1=>?_;exact(O5 kS _).2 h1)
  refine wp_seq (xF ?_ (CS _ _ _ s u bL bs a w ac));intro e cM w' ad;obtain⟨al,ap,u',c5,aO,dd,ag,hk,aE⟩:=ad;have oU:Kept bz s ap:=aah rfl hk;cases e with
  |normal=>simp only at aO;split at aO;rename_i vs kS;have as9:=J3 aO;have ah:=(O5 as9 _).1 aO;have asy:=ac.oJ dd ag hk aE kS;refine xF ?_ (CT _ _ _ _ u' ah bs cM w' asy);intro aC a2 dK fg;exact mg.next ag.forget (aah rfl (VE hk kS)) (λd aw=>aE d (oh d aw)) (fg.mono Cs);exact aO.elim
  |exit id=>exact⟨al,ap,u',c5,aO,dd,ag,oU,λd aw=>aE d (oh d aw)⟩|goto l=>exact⟨al,ap,u',c5,aO,dd,ag,oU,λd aw=>aE d (oh d aw)⟩|ret=>exact⟨al,ap,u',c5,aO,dd,ag,oU,λd aw=>aE d (oh d aw)⟩|panic c=>exact a6 rfl (al c)|outgrown=>exact⟨al,ap,u',c5,aO,dd,ag,oU,λd aw=>aE d (oh d aw)⟩
 |cond c x y CS CT=>
  intro p bz Q s u h bs a w ac;have oh:∀d,gA (fo (.cond c x y)) d=ax->gA (fo x) d=ax:=λd h=>by simp only[fo,CY,y6] at h;exact h.1
  have Cs:∀d,gA (fo (.cond c x y)) d=ax->gA (fo y) d=ax:=λd h=>by simp only[fo,CY,y6] at h;exact h.2
  have M:∀(st:aN),a.eval c=.bool ak->Fits st bs u a w->(st.loc=s.loc/\st.n=s.n)->hf C hX x (2*p) bz Q st u->(Code.cond c x y).wp C.P (mg bz s bs u a w (fo (.cond c x y)) Q) a w:=by intro st I EK dw hw;refine wp_cond_true I (xF ?_ (CS _ _ _ st u hw bs a w EK));intro e cM w' ad;exact mg.next (Step.refl ac.sub) ⟨dw.2,by rw[dw.1];exact cg _,λi cs e _=>by rw[dw.1];exact e⟩ (λ_ _=>rfl) (ad.mono oh)
  have ah:∀(st:aN),a.eval c=.bool ax->Fits st bs u a w->(st.loc=s.loc/\st.n=s.n)->hf C hX y (2*p+1) bz Q st u->(Code.cond c x y).wp C.P (mg bz s bs u a w (fo (.cond c x y)) Q) a w:=by intro st I EK dw hw;refine wp_cond_false I (xF ?_ (CT _ _ _ st u hw bs a w EK));intro e cM w' ad;exact mg.next (Step.refl ac.sub) ⟨dw.2,by rw[dw.1];exact cg _,λi cs e _=>by rw[dw.1];exact e⟩ (λ_ _=>rfl) (ad.mono Cs)
  have iA:∀v,s.sv c=some v->∀t,c=.tmp t->(look s.env t).isSome=ak:=λv aA t ht=>by subst ht;simp only[aN.sv] at aA;rw[aA];rfl
  simp only[hf] at h;split at h;rename_i I;exact M s (cO (ac.sv I)).symm ac ⟨rfl,rfl⟩ h;rename_i I;exact ah s (cO (ac.sv I)).symm ac ⟨rfl,rfl⟩ h;rename_i q d I;have fc:=(cO (ac.sv I)).symm;by_cases aO:q;have aP:a.eval c=.bool ak:=by rw[fc];simp[aO]
  obtain⟨h1,h2⟩:=wh (x:=.jL) ac (by rw[aP];rfl) (iA _ I);exact M _ aP h1 h2 (h.1 aO);have aP:a.eval c=.bool ax:=by rw[fc];simp[aO]
  obtain⟨h1,h2⟩:=wh (x:=.jP) ac (by rw[aP];rfl) (iA _ I);exact ah _ aP h1 h2 (h.2 aO);rename_i q d I;have fc:=(cO (ac.sv I)).symm;by_cases aO:q;have aP:a.eval c=.bool ax:=by rw[fc];simp[aO]
  obtain⟨h1,h2⟩:=wh (x:=.jP) ac (by rw[aP];rfl) (iA _ I);exact ah _ aP h1 h2 (h.2 aO);have aP:a.eval c=.bool ak:=by rw[fc];simp[aO]
  obtain⟨h1,h2⟩:=wh (x:=.jL) ac (by rw[aP];rfl) (iA _ I);exact M _ aP h1 h2 (h.1 aO);rename_i b I;have fc:=(cO (ac.sv I)).symm;cases b with
  |true=>obtain⟨h1,h2⟩:=wh (x:=.jL) ac (by rw[fc];rfl) (iA _ I);exact M _ fc h1 h2 (h.1 rfl)
  |false=>obtain⟨h1,h2⟩:=wh (x:=.jP) ac (by rw[fc];rfl) (iA _ I);exact ah _ fc h1 h2 (h.2 rfl)
  exact h.elim
 |block id b aL=>
  intro p bz Q s u h bs a w ac;simp only[hf] at h;refine wp_block (xF ?_ (aL _ _ _ s u h bs a w ac));intro e cM w' ad;obtain⟨al,ap,u',c5,aO,dd,ag,hk,aE⟩:=ad;cases e with
  |exit j=>simp only at aO;simp only[Exit.inBlock];split at aO;rename_i aM;have:=l1 aM;subst this;rw[aV rfl];exact⟨λ_=>rv,ap,u',c5,aO,dd,ag,hk,aE⟩;rename_i aM;rw[az (λe=>by subst e;rw[Nat.beq_refl] at aM;cases aM)];exact⟨al,ap,u',c5,aO,dd,ag,hk,aE⟩
  |normal=>exact⟨al,ap,u',c5,aO,dd,ag,hk,aE⟩|goto l=>exact⟨al,ap,u',c5,aO,dd,ag,hk,aE⟩|ret=>exact⟨al,ap,u',c5,aO,dd,ag,hk,aE⟩|panic c=>exact a6 rfl (al c)|outgrown=>exact⟨al,ap,u',c5,aO,dd,ag,hk,aE⟩
 |scope b aL=>
  intro p bz Q s u h bs a w ac;simp only[hf] at h;refine wp_scope_straight (xF ?_ (aL _ _ _ s u h bs a w ac));intro e cM w' ad;obtain⟨al,ap,u',c5,aO,dd,ag,hk,aE⟩:=ad;cases e with
  |goto l=>exact aO.elim|exit j=>exact⟨al,ap,u',c5,aO,dd,ag,hk,aE⟩|normal=>exact⟨al,ap,u',c5,aO,dd,ag,hk,aE⟩|ret=>exact⟨al,ap,u',c5,aO,dd,ag,hk,aE⟩|panic c=>exact a6 rfl (al c)|outgrown=>exact⟨al,ap,u',c5,aO,dd,ag,hk,aE⟩
 |loop b aL=>
  intro p bz Q s u h bs a w ac;simp only[hf] at h;split at h;exact h.elim;rename_i aX _;split at h;exact h.elim;rename_i Ph aih;obtain⟨di,μ,h0,MO⟩:=h
  let Inv:(J ao×H)->eo->b6->Prop:=λg cM w'=>pr aX.pn g.1/\(hG aX.pn di g.1 λr=>r g.2)/\Fits (oJ s (fo b) aX g.1) bs g.2 cM w'/\Step u bs w g.2 bs w'/\
   (∀d,gA (fo b) d=ax->cM.tmps[d]?=a.tmps[d]?)/\Kept (narrow bz s.loc.length aX.boxes) s (oJ s (fo b) aX g.1)
  let m:(J ao×H)->N:=λg=>(Classical.epsilon λn=>hG aX.pn μ g.1 λm=>n=m g.2)
  have hm:∀g,pr aX.pn g.1->∀f:(H->N)->Prop,hG aX.pn μ g.1 f->∃r,f r/\m g=r g.2:=by intro g W f asB;obtain⟨r,O⟩:=acw μ W;refine⟨r,(O _).1 asB,?_⟩;have:=Classical.epsilon_spec (p:=λn=>hG aX.pn μ g.1 λm=>n=m g.2) ⟨r g.2,(O _).2 rfl⟩;exact(O _).1 this
  have q3:=J3 h0;have as6:Kept (narrow bz s.loc.length aX.boxes) s (oJ s (fo b) aX Ph):=VE (Kept.refl _ _) aih;refine aEy Inv m ?_ (Ph,u) ⟨q3,h0,ac.oJ (bz:=bz) ac (Step.refl ac.sub) (Kept.refl _ _) (λ_ _=>rfl) aih,Step.refl ac.sub,λ_ _=>rfl,as6⟩;rintro⟨vs,aS⟩ aa fu ⟨rf,cA,wT,eb,Cn,jF⟩;have Z:=anW MO rf aS cA;have aFC:(oJ s (fo b) aX vs).loc.length=s.loc.length:=by simp only[oJ,OC]
  refine xF ?_ (aL _ _ _ _ aS Z bs aa fu wT);intro e cM w' ad;obtain⟨al,ap,u',c5,aO,dd,fY,hk,aE⟩:=ad;have oT:Kept (narrow bz s.loc.length aX.boxes) s ap:=jF.trans hk;have oU:Kept bz s ap:=aah rfl oT;have dI:=eb.trans fY;have eI:∀d,gA (fo b) d=ax->cM.tmps[d]?=a.tmps[d]?:=λd aw=>(aE d aw).trans (Cn d aw);cases e with
  |normal=>simp only at aO;split at aO;rename_i qL aif;have Sd:=J3 aO;refine⟨(qL,u'),⟨Sd,aBm aO λr O=>?_,ac.oJ dd dI oT eI aif,dI.forget,eI,VE oT aif⟩,?_⟩;obtain⟨m1,h1,_⟩:=hm (qL,u') Sd _ O;obtain⟨m0,h2,_⟩:=hm (vs,aS) rf _ h1;exact h2.1;obtain⟨r,O⟩:=acw di Sd;obtain⟨m1,h1,aP⟩:=hm (qL,u') Sd _ ((O _).1 aO);obtain⟨m0,h2,fW⟩:=hm (vs,aS) rf _ h1;rw[aP,fW];exact h2.2;exact aO.elim
  |exit id=>exact⟨al,ap,u',c5,aO,dd,dI,oU,eI⟩|goto l=>exact⟨al,ap,u',c5,aO,dd,dI,oU,eI⟩|ret=>exact⟨al,ap,u',c5,aO,dd,dI,oU,eI⟩|panic c=>exact a6 rfl (al c)|outgrown=>exact⟨al,ap,u',c5,aO,dd,dI,oU,eI⟩
def sa(s:aN):J ResultVar->J bj->ay (J ao)
 | [],[]=>some []| .tmp d::rs,.one _::ss=>match(look s.env d).bind fB.val,sa s rs ss with
  |some v,some vs=>some (v::vs)|_,_=>none
 | .cell d _::rs,aG::ss=>match look s.env d,sa s rs ss with
  |some (.loc i off),some vs=>match s.loc[i]? with
   |some cs=>match vM (off+aG.h8.length) cs.length with
    |true=>some ((cs.drop off).take aG.h8.length++vs)|false=>none
   |none=>none
  |_,_=>none
 |_,_=>none
def vW(P:dR):J ResultVar->J bj->aI
 | [],[]=>ak| .tmp _::rs,.one _::ss=>vW P rs ss| .cell _ t::rs,aG::ss=>(match qH P t,aG with
  |some (.one c),.one d=>(match c,d with
   | .int k,.int dQ=>yM k dQ| .bool,.bool=>ak| .str,.str=>ak| .ptr,.ptr=>ak| .slice,.slice=>ak| .map,.map=>ak| .val,.val=>ak|_,_=>ax)
  |some (.agg c),.agg d=>ji c.length d.length|_,_=>ax) && vW P rs ss
 |_,_=>ax
def apQ{t:aK}{v:ao}:B6 (.one t::ss) (v::vs)=v::B6 ss vs:=rfl
def ax1{P:dR}{s:aN}{a:eo}{w:b6}(ac:Fits s bs u a w):∀(rs:J ResultVar) (ss:J bj) (vs:J ao),sa s rs ss=some vs->vW P rs ss=ak->
  (rs.mapM (λ(r:ResultVar)=>match r with
   | .tmp t=>(pure (a.tmps.getD t hQ):Sem ao)| .cell x t=>do loadVar t (<-asAddr (a.tmps.getD x hQ)))).run P w=xy (B6 ss vs) w:=by
 intro rs
 induction rs with
 |nil=>
  intro ss vs h ab;cases ss with
  |nil=>simp[sa] at h;subst h;rfl|cons=>simp[sa] at h
 |cons r rs aL=>
  intro ss vs h ab;cases r with
  |tmp d=>
   cases ss with
   |nil=>simp[sa] at h|cons aG ss=>
    cases aG with
    |agg=>simp[sa] at h|one t=>
     simp only[sa] at h;split at h;rename_i v qL aA kS;cases h;have bQ:vW P rs ss=ak:=ab;have h1:=aL ss qL kS bQ;simp only[aaG] at aA;obtain⟨x,M,Ni⟩:=aA;obtain⟨cm,h2,h3⟩:=ac.env _ (FN M);simp only at h2 h3;rw[fB.Ud Ni bs] at h2;cases h2;have W:a.tmps.getD d hQ=v:=by rw[A1,h3];rfl
     simp only[aaF,W,pure_bind,eS,apQ];rw[h1];rfl;cases h
  |cell d t=>
   cases ss with
   |nil=>simp[sa] at h|cons aG ss=>
    have O:sa s (.cell d t::rs) (aG::ss)=some vs:=h;simp only[sa] at O;split at O;rename_i i off qL aw kS;split at O;rename_i cs ar;split at O;rename_i Z;cases O;have Z:=F8 Z;have kf:vW P (.cell d t::rs) (aG::ss)=ak:=ab;simp only[vW,pb] at kf;have h1:=aL ss qL kS kf.2;obtain⟨cm,h2,h3⟩:=ac.env _ (FN aw);simp only at h2 h3;obtain⟨b,T,ii,jS⟩:=ac.loc i cs ar;simp only[hj,ii,j2] at h2;subst h2;have W:a.tmps.getD d hQ=.pointer (some ⟨b,off,none⟩):=by rw[A1,h3];rfl
    have Ft:(loadVar t ⟨b,off,none⟩).run P w=.ok (aG.take ((cs.drop off).take aG.h8.length++qL)).1 w/\(aG.take ((cs.drop off).take aG.h8.length++qL)).2=qL:=by
     have a7:=kf.1;cases fk:qH P t with
     |none=>rw[fk] at a7;simp at a7|some OF=>
      rw[fk] at a7;have hlen:OF.h8.length=aG.h8.length:=by cases OF<;>cases aG<;>simp only[bj.h8] at a7 ⊢ <;>first|rfl|(exact l1 a7)|cases a7
      have Mb:=ai3 (P:=P) (off:=off) jS OF.h8.length 0 #[] (by rw[hlen];simpa using Z);have lI:=IW fk ⟨b,off,none⟩ (vs:=(cs.drop off).take OF.h8.length) (by simp;rw[hlen];omega) (by simpa using Mb) (by
       intro c I;subst I;have gi:aG.h8.length=1:=by rw[<-hlen];rfl
       have bC:off<cs.length:=by omega
       simp only[bj.h8,h5,nT] at hlen ⊢;refine⟨cs[off],?_,?_⟩;rw[s9 bC];rfl;simp only[Jc,jS];simp[bC])
      rw[hlen] at lI;have ae:((cs.drop off).take aG.h8.length).length=aG.h8.length:=by simp;omega
      rw[lI];cases OF with
      |one mS=>
       cases aG with
       |agg _=>simp at a7|one c=>
        simp only[bj.h8,h5,nT] at ae ⊢
        match M:(cs.drop off).take 1,ae with
        | [x],_=>exact⟨rfl,rfl⟩
      |agg mS=>
       cases aG with
       |one _=>simp at a7|agg c=>simp only[bj.h8] at ae ⊢;refine⟨?_,?_⟩;simp only[bj.mk,bj.take];rw[N0 (by omega),ho (l:=List.take _ _) (by omega)];simp only[bj.take];rw[aaM (by omega),N1 (by omega)];rfl
    have aB:asAddr (.pointer (some ⟨b,off,none⟩))=pure ⟨b,off,none⟩:=rfl;simp only[aaF,W,aB,pure_bind,eS,Ft.1,jx];rw[h1];simp only[B6,Ft.2];rfl;cases O;cases O;cases O
def QB(d:ay N)(u:H)(f:H->Prop):Prop:=
 match d with
 |none=>f u|some D=>u D=some (.deferred (some []))/\f (u.ins D (.deferred none))
def B7(rs:J ResultVar)(ss:J bj)(K:hd (gD ss) (H->Prop)):kz->aN->H->Prop
 | .normal,s,u=>match sa s rs ss with
  |some vs=>QB s.Ed u λu=>hG (gD ss) K vs λr=>r u|none=>ej
 | .ret,s,u=>match sa s rs ss with
  |some vs=>QB s.Ed u λu=>hG (gD ss) K vs λr=>r u|none=>ej
 |_,_,_=>ej
def IG:N->J ao->J (N×fB)
 |_,[]=>[]|i,v::vs=>(i,.v v)::IG (i+1) vs
def avu{i:N}(h:p∈IG i vs):∃j v,vs[j]?=some v/\p=(i+j,.v v):=by
 induction vs generalizing i with
 |nil=>cases h
 |cons v vs aL=>
  simp only[IG] at h;cases h with
  |head=>exact⟨0,v,rfl,rfl⟩|tail _ h=>obtain⟨j,cm,h1,h2⟩:=aL h;exact⟨j+1,cm,h1,by rw[h2];congr 1;omega⟩
def afg(ft:Good C){fn:Func}{c:iK}(tM:C.P.funcs[f]?=some fn)(Z:fn.body=some c)(hX:J (N×p5)){env:J (N×fB)}
  (sL:∀p∈env,∃v,args[p.1]?=some v/\hj [] p.2=some v) {ss:J bj} {u:H}
  {K:hd (gD ss) (H->Prop)} (ae:vM args.length fn.ntmps=ak) (O:vW C.P fn.results.toList ss=ak)
  (h:hf C hX c 1 (λ_=>ak) (B7 fn.results.toList ss K) {n:=fn.ntmps,env:=env,loc:=[]} u):ie C.P f args.toArray ss u K:=by
 intro w hw
 refine NY.1 (callsIn_of_wp_marks (F:=uy) (n:=0) tM Z trivial (NZ.2 ?_))
 have hle:=F8 ae
 have ac:Fits {n:=fn.ntmps,env:=env,loc:=[]} [] u {tmps:=args.toArray++Db (fn.ntmps-args.toArray.size) hQ,defers:=[]} w:=by
  refine⟨⟨rfl,by simp;omega,?_⟩,rfl,by simp,by simp,by simp,hw⟩;intro p ad;obtain⟨v,h1,h2⟩:=sL p ad;refine⟨v,h2,?_⟩;have bC:p.1<args.length:=by rcases j1 p.1 args.length with k|k;exact k;rw[io k] at h1;cases h1
  rw[aaN (by simpa using bC)];simpa using h1
 have ag:=api ft hX c 1 _ _ _ u h [] _ w ac
 refine xF ?_ ag
 intro e cM w' ad
 obtain⟨al,ap,u',c5,aO,dd,dI,_,_⟩:=ad
 have fin:∀vs,sa ap fn.results.toList ss=some vs->(QB ap.Ed u' λu'=>hG (gD ss) K vs λr=>r u')->
   LeavesInM uy 0 C.P fn cM.tmps (λe w'=>∃v1 aS,e=.returned v1/\(∃vs,pr (gD ss) vs/\v1=wI ss vs/\hG (gD ss) K vs λr=>r aS)/\Step u [] w aS [] w') cM.defers .returning w':=by
  intro vs aA aq
  have kg:∀s2 c9 Hj a2 dK,Fits s2 Hj c9 a2 dK->a2.tmps=cM.tmps->sa s2 fn.results.toList ss=some vs->(results fn cM.tmps).run C.P dK=.ok (wI ss vs) dK:=by
   intro s2 c9 Hj a2 dK je ht xg;have mV:=ax1 (P:=C.P) je fn.results.toList ss vs xg O;rw[<-ht];unfold results;rw[eS];have aP:(fn.results.mapM (λ(r:ResultVar)=>match r with
     | .tmp t=>(pure (a2.tmps.getD t hQ):Sem ao)
     | .cell x t=>do loadVar t (<-asAddr (a2.tmps.getD x hQ)))).run C.P dK=xy (B6 ss vs).toArray dK:=by
    rw[Array.mapM_eq_mapM_toList,Sem.run_map,mV]
    rfl
   refine(dV (λr=>jy r _) aP).trans ?_;simp only[jx];unfold wI;cases M:B6 ss vs with
   |nil=>rfl|cons v l=>
    cases l with
    |nil=>rfl|cons v2 l=>rfl
  rw[dd.defers]
  unfold QB at aq
  split at aq
  rename_i aw
  rw[aw]
  exact⟨_,kg ap u' c5 cM w' dd rfl aA,_,u',rfl,⟨vs,J3 aq,rfl,aq⟩,dI.forget⟩
  rename_i D aw
  rw[aw]
  obtain⟨eM,aq⟩:=aq
  have afK:=dd.sub _ _ eM
  have ua:=run_takeDeferred (P:=C.P) afK
  have Y2:Step u' c5 w' (u'.ins D (.deferred none)) c5 (w'.putObj D (.deferred none)):=by
   have bC:=dd.sub.lt eM;refine⟨λb x h=>?_,rfl,rfl,rfl,cg _,by simp,λb _ Z _=>?_,λb _ Z=>?_,[],by simp,by simp⟩;unfold H.ins at h;split at h;rename_i lV;subst lV;cases h;exact F9 bC;rename_i lV;rw[l2 lV];exact dd.sub b x h;exact l2 λe=>by rw[e,eM] at Z;cases Z
   rw[bm _ _ λe=>by rw[e,eM] at Z;cases Z];exact Z
  have je:Fits ap c5 (u'.ins D (.deferred none)) cM (w'.putObj D (.deferred none)):=by refine⟨dd.toFitsE,dd.len,λi cs e=>?_,dd.nodup,λb Z=>?_,Y2.sub⟩;obtain⟨b,T,h1,h2⟩:=dd.loc i cs e;exact⟨b,T,h1,(l2 λe=>by rw[e,afK] at h2;cases h2).trans h2⟩;exact⟨Y2.jg b (dd.b7 b Z).2 (dd.b7 b Z).1,by simpa using(dd.b7 b Z).2⟩
  refine⟨by simp,.inl ⟨D,_,rfl,ua,?_⟩⟩
  exact⟨_,kg ap _ c5 cM _ je rfl aA,_,_,rfl,⟨vs,J3 aq,rfl,aq⟩,(dI.trans Y2).forget⟩
 cases e with
 |normal=>simp only[B7] at aO;split at aO;rename_i vs aA;exact fin vs aA aO;exact aO.elim
 |ret=>simp only[B7] at aO;split at aO;rename_i vs aA;exact fin vs aA aO;exact aO.elim
 |exit id=>exact aO.elim
 |goto l=>exact aO.elim
 |panic c=>exact a6 rfl (al c)
 |outgrown=>exact aO.elim
def aqm(ft:Good C){fn:Func}{c:iK}(tM:C.P.funcs[f]?=some fn)(Z:fn.body=some c)(hX:J (N×p5))
  {K:hd (gD ss) (H->Prop)} (ae:vM args.length fn.ntmps=ak) (O:vW C.P fn.results.toList ss=ak)
  (h:hf C hX c 1 (λ_=>ak) (B7 fn.results.toList ss K) {n:=fn.ntmps,env:=IG 0 args,loc:=[]} u):ie C.P f args.toArray ss u K:=
 afg ft tM Z hX (λp ad=>by obtain⟨j,v,h1,rfl⟩:=avu ad;exact⟨v,by simpa using h1,rfl⟩) ae O h
def Nj(yY:N):N->J ao->J (N×fB)
 |_,[]=>[]|i,v::vs=>(i,match xx i yY with
  |true=>.v v|false=>TX .addr v)::Nj yY (i+1) vs
def avt{yY:N}{i:N}(h:p∈Nj yY i vs):∃j v,vs[j]?=some v/\p.1=i+j/\hj [] p.2=some v:=by
 induction vs generalizing i with
 |nil=>cases h
 |cons v vs aL=>
  simp only[Nj] at h;cases h with
  |head=>
   refine⟨0,v,rfl,rfl,?_⟩;cases xx i yY with
   |true=>rfl|false=>exact alY _ _ _
  |tail _ h=>obtain⟨j,cm,h1,h2,h3⟩:=aL h;exact⟨j+1,cm,h1,by rw[h2];omega,h3⟩
def K4(yY:N)(ft:Good C){fn:Func}(tM:C.P.funcs[f]?=some fn)(Z:fn.body.isSome=ak)(hX:J (N×p5))
  {K:hd (gD ss) (H->Prop)} (ae:vM args.length fn.ntmps=ak) (O:vW C.P fn.results.toList ss=ak)
  (h:hf C hX (fn.body.getD .skip) 1 (λ_=>ak) (B7 fn.results.toList ss K) {n:=fn.ntmps,env:=Nj yY 0 args,loc:=[]} u):ie C.P f args.toArray ss u K:=by
 cases I:fn.body with
 |none=>rw[I] at Z;cases Z
 |some c=>rw[I] at h;exact afg ft tM I hX (λp ad=>by obtain⟨j,v,h1,h2,h3⟩:=avt ad;exact⟨v,by rw[h2];simpa using h1,h3⟩) ae O h
def Eo(ft:Good C){fn:Func}(tM:C.P.funcs[f]?=some fn)(Z:fn.body.isSome=ak)(hX:J (N×p5))
  {K:hd (gD ss) (H->Prop)} (ae:vM args.length fn.ntmps=ak) (O:vW C.P fn.results.toList ss=ak)
  (h:hf C hX (fn.body.getD .skip) 1 (λ_=>ak) (B7 fn.results.toList ss K) {n:=fn.ntmps,env:=IG 0 args,loc:=[]} u):ie C.P f args.toArray ss u K:=by
 cases I:fn.body with
 |none=>rw[I] at Z;cases Z
 |some c=>rw[I] at h;exact aqm ft tM I hX ae O h
end
end
section
variable{P:dR}{n:N}
def CZ(P:dR)(t:dC)(l:J ao):ao:=
 match qQ P t with
 |true=>.agg l.toArray|false=>l.headD hQ
def Cc(P:dR)(k:dC->ay N):N->J Field->ay N
 |i,[]=>some i|i,f::r=>match f.name != "_",ji f.offset i,k f.type,xQ P f.type with
  |true,ak,some w,some w'=>match ji w w' with
   |true=>Cc P k (i+w) r|false=>none
  |_,_,_,_=>none
def yh(P:dR):N->dC->ay N
 |0,_=>none|d+1,t=>match P.underlying t with
  |some (.int _)=>some 1|some (.struct aU)=>match P.stoodInHeld t with
   |true=>none|false=>Cc P (yh P d) 0 aU.toList
  |_=>none
def QD:ao->ao->aI
 | .int _ a,.int _ b=>decide (a=b)|_,_=>ax
def sA:J ao->J ao->aI
 | [],[]=>ak|x::xs,y::eD=>QD x y && sA xs eD|_,_=>ax
def s3:J ao->J ao->aI
 | [],[]=>ak| .int k _::xs,.int dQ _::eD=>yM k dQ && s3 xs eD|_,_=>ax
def apT:∀(l m:J ao) (Y:BO),yf l m=some Y->s3 l m=ak/\@decide Y.p Y.d=sA l m:=by
 have one:∀x y Y,KX x y=some Y->∃k a b,x=.int k a/\y=.int k b/\@decide Y.p Y.d=decide (a=b):=by intro x y Y h;unfold KX at h;split at h;rename_i k a dQ b;split at h;rename_i hk;have:=Np hk;subst this;cases h;exact⟨_,_,_,rfl,rfl,rfl⟩;cases h;cases h
 intro l;induction l with
 |nil=>
  intro m Y h;cases m with
  |nil=>simp only[yf,j2] at h;subst h;exact⟨rfl,rfl⟩|cons=>simp[yf] at h
 |cons x l aL=>
  intro m Y h;cases m with
  |nil=>cases l<;>simp[yf] at h
  |cons y m=>
   by_cases Ib:l=[]/\m=[];obtain⟨rfl,rfl⟩:=Ib;simp only[yf] at h;obtain⟨k,a,b,rfl,rfl,aw⟩:=one _ _ _ h;refine⟨by simp[s3,ZL],?_⟩;rw[aw];simp[sA,QD]
   .have bL:(match KX x y,yf l m with
      |some a,some b=>some ⟨a.p/\b.p,@instDecidableAnd a.p b.p a.d b.d⟩
      |_,_=>(none:ay BO))=some Y:=by
     cases l with
     |nil=>cases m with
      |nil=>exact a6 ⟨rfl,rfl⟩ Ib|cons=>exact h
     |cons=>exact h
    split at bL
    rename_i a b aE Z
    obtain⟨k,aa,gf,rfl,rfl,aw⟩:=one _ _ _ aE
    obtain⟨h1,h2⟩:=aL m b Z
    cases bL
    refine⟨by simp[s3,ZL,h1],?_⟩
    simp only[sA,QD,<-h2,<-aw]
    obtain⟨an0,aW⟩:=a
    obtain⟨VO,j8⟩:=b
    by_cases aP:an0<;>by_cases aC:VO<;>simp[aP,aC]
    cases bL
def axa:∀(n:N) (l m:J ao),s3 l m=ak->s3 (l.take n) (m.take n)=ak/\s3 (l.drop n) (m.drop n)=ak/\sA l m=(sA (l.take n) (m.take n) && sA (l.drop n) (m.drop n)):=by
 intro n;induction n with
 |zero=>intro l m h;exact⟨rfl,h,by simp[sA]⟩
 |succ n aL=>
  intro l m h;cases l with
  |nil=>cases m with
   |nil=>exact⟨rfl,rfl,rfl⟩|cons=>simp[s3] at h
  |cons x l=>cases m with
   |nil=>cases x<;>simp[s3] at h
   |cons y m=>cases x<;>cases y<;>simp only[s3,xA] at h;rw[pb] at h;obtain⟨h1,h2,h3⟩:=aL l m h.2;refine⟨by simp[s3,h.1,h1],h2,?_⟩;simp only[A2,S1,sA,h3,Bool.and_assoc]
def ajz{t:dC}{w:N}{xs:cu ao}{off:N}(ag:xQ P t=some w)(hu:(P.underlying t).isSome=ak)(ar:qQ P t=ax->1=w)(Z:off+w<=xs.size)(bN:b6):
  (part t xs off).run P bN=.ok (CZ P t ((xs.toList.drop off).take w)) bN:=by
 obtain⟨d,aw⟩:=Je.1 hu
 unfold xQ at ag
 cases hi:P.info? t with
 |none=>rw[hi] at ag;cases ag
 |some i=>
  rw[hi] at ag;cases ag;have cY:(sizeOf t).run P bN=.ok i.size bN:=by simp[sizeOf,run_typeInfo bN hi]
  cases W:qQ P t with
  |true=>
   have:(isAgg t).run P bN=.ok ak bN:=by unfold qQ at W;rw[aw] at W;cases d<;>simp only[xA] at W<;>simp[isAgg,iq aw]
   simp only[part,eS,this,jx,qx,cY,CZ,W];simp only[Sem.run_pure];congr 2;apply Array.toList_inj.1;simp[Array.toList_extract,List.extract_eq_take_drop]
  |false=>
   have h1:1=i.size:=ar W;have bC:off<xs.size:=by have:off+i.size<=xs.size:=Z;omega
   have:(isAgg t).run P bN=.ok ax bN:=by unfold qQ at W;rw[aw] at W;cases d<;>simp only[Bool.true_eq_false] at W<;>simp[isAgg,iq aw]
   simp only[part,eS,this,jx,xA,xB,CZ,W];rw[xz bC];simp only[Sem.run_pure];congr 1;rw[<-h1,s9 (by simpa using bC)];simp
def aqi{d:N}{t:dC}(h:yh P d t=some n):(P.underlying t).isSome=ak/\(qQ P t=ax->1=n):=by
 cases d with
 |zero=>simp[yh] at h|succ d=>simp only[yh] at h;split at h;rename_i hu;cases h;exact⟨by rw[hu];rfl,λ_=>rfl⟩;rename_i hu;exact⟨by rw[hu];rfl,λe=>by simp[qQ,hu] at e⟩;cases h
def ap0(bN:b6):∀(d:N) (t:dC) (n e:N) (l m:J ao),yh P d t=some n->l.length=n->m.length=n->s3 l m=ak->
  (xD (d+e) t (CZ P t l) (CZ P t m)).run P bN=.ok (sA l m) bN:=by
 intro d
 induction d with
 |zero=>intro t n e l m h;simp[yh] at h
 |succ d aL=>
  intro t n e l m h ar hm ad;rw[show d+1+e=(d+e)+1 by omega];simp only[yh] at h;split at h;rename_i k hu;cases h;have W:qQ P t=ax:=by simp[qQ,hu]
  match l,m,ar,hm with
  | [x],[y],_,_=>cases x<;>cases y<;>simp only[s3,xA] at ad;rw[pb] at ad;have:=Np ad.1;subst this;simp only[CZ,W,List.headD_cons];rw[run_equalIn_int bN (d+e) t _ k _ _ hu];simp[sA,QD,BEq.beq]
  .rename_i aU hu;split at h;cases h
   .rename_i ag;have W:qQ P t=ak:=by simp[qQ,hu]
    have qY:P.fieldsOf t=aU:=by simp[Program.fieldsOf,hu]
    simp only[CZ,W];rw[run_equalIn_struct bN (d+e) t _ _ (by rw[qY];exact hu) ag,qY];have key:∀(qh:J Field) (i:N),Cc P (yh P d) i qh=some n->i<=n->s3 (l.drop i) (m.drop i)=ak->
      (aaO (d+e) l.toArray m.toArray qh).run P bN=.ok (sA (l.drop i) (m.drop i)) bN:=by
     intro qh
     induction qh with
     |nil=>intro i hi hle CD;simp only[Cc,j2] at hi;subst hi;rw[N1 (by omega),N1 (by omega)];simp[aaO,sA]
     |cons f qh avp=>
      intro i hi hle CD;simp only[Cc] at hi;split at hi;rename_i w w' ae ab hk cY;split at hi;rename_i Zo;have Zo:=l1 Zo;subst Zo;have ab:=l1 ab;have al:f.name≠ "_" :=by simpa using ae
      have atv:∀(qh:J Field) (j:N),Cc P (yh P d) j qh=some n->j<=n:=by
       intro qh;induction qh with
       |nil=>intro j aM;simp only[Cc,j2] at aM;omega
       |cons g qh avq=>intro j aM;simp only[Cc] at aM;split at aM;split at aM;have:=avq _ aM;omega;cases aM;cases aM
      have w1:=atv qh _ hi;obtain⟨AG,af5⟩:=aqi hk;have gG:=ajz (xs:=l.toArray) (off:=f.offset) cY AG af5 (by simp;omega) bN;have fg:=ajz (xs:=m.toArray) (off:=f.offset) cY AG af5 (by simp;omega) bN;obtain⟨mX,o0,mY⟩:=axa w _ _ CD;have aO:=aL f.type w e ((l.drop i).take w) ((m.drop i).take w) hk (by simp;omega) (by simp;omega) mX;rw[ab] at gG fg;simp only[aaO,aV al,ab,eS,gG,fg,jx,aO];rw[mY];have O:=avp (i+w) hi w1 (by rw[<-A7,<-A7];exact o0);rw[<-A7,<-A7] at O;cases sA ((l.drop i).take w) ((m.drop i).take w) with
      |true=>simpa using O|false=>simp
      cases hi;cases hi
    exact key aU.toList 0 h (nU _) ad
  cases h
def Wu(P:dR)(t n:N):aI:=
 match yh P 10 t with
 |some k=>ji k n && !P.eqGuardType P.depth t && qQ P t|none=>ax
def apZ{t:N}(h:Wu P t n=ak)(xs eD:cu ao)(Y:BO)(h1:xs.toList.length=n)(h2:eD.toList.length=n)(he:yf xs.toList eD.toList=some Y)(x y:jw)(w:b6):
  (eqGuard .eql t x y (.agg xs) (.agg eD)).run P w=.ok () w/\(eqGuard .neq t x y (.agg xs) (.agg eD)).run P w=.ok () w/\
  (Op.equal t (.agg xs) (.agg eD)).run P w=.ok (@decide Y.p Y.d) w:=by
 unfold Wu at h
 split at h
 rename_i k hk
 simp only[pb,Jn] at h
 obtain⟨⟨ar,W⟩,aE⟩:=h
 have ar:=l1 ar
 subst ar
 obtain⟨ad,aw⟩:=apT _ _ _ he
 refine⟨run_eqGuard_agg w .eql t x y xs eD W,run_eqGuard_agg w .neq t x y xs eD W,?_⟩
 have:=ap0 w 10 t k 9990 _ _ hk h1 h2 ad
 simp only[CZ,aE] at this
 rw[aw]
 exact this
 cases h
def ajp(P:dR):aI:=P.funcs.toList.all λfn=>(fn.name== "runtime.NumGoroutine")==ax
def awT(h:ajp P=ak)(f:ju)(fn:Func)(e:P.funcs[f]?=some fn):(fn.name== "runtime.NumGoroutine")=ax:=by have:=NW.1 h fn (F3.2 (SV e));simpa using this
def apX{l:J (N×N)}{t:N}(h:KY l t=some n):(t,n)∈l:=by
 induction l with
 |nil=>cases h
 |cons p r aL=>obtain⟨a,b⟩:=p;simp only[KY] at h;split at h;rename_i e;have:=l1 e;subst this;cases h;exact .head _;exact .tail _ (aL h)
def aqv{h9:J (N×N)}(h1:ajp P=ak)(h2:P.follows .mixedOrders=ak)(h3:(h9.all λp=>Wu P p.1 p.2)=ak)(exp:J N)(wrap:aI){ob ov:J N}{part:aI}:
  Good {P:=P,exp:=exp,wrap:=wrap,h9:=h9,ob:=ob,ov:=ov,part:=part}:=
 ⟨awT h1,h2,λ_ _ h xs eD Y eZ fZ he x y w=>apZ (NW.1 h3 _ (apX h)) xs eD Y eZ fZ he x y w⟩
end
section
variable{u u' ai:H}{s:U}{P:dR}{size bytes g i b:N}{e t k:dC}{xs zs eD:J ao}{l:J o}{x:o}{w:b6}{K:U->H->Prop}{ss:J bj}
def h9:J (N×N):=[(66,2),(68,3),(25,4)]
def nF(exp:J N)(wrap:aI){ob ov:J N}{part:aI}:Good {P:=aH,exp:=exp,wrap:=wrap,h9:=h9,ob:=ob,ov:=ov,part:=part}:=aqv (by kernel_rfl) (by kernel_rfl) (by kernel_rfl) exp wrap
abbrev bT:=ay ba
abbrev bq:U:=⟨none,0,0⟩
abbrev vs(s:U):ao:=.slice s.a s.n s.c
abbrev an(x:o):ao:=.int .i64 x
abbrev bI(x:o):ao:=.int .u64 x
abbrev aZ(x:bT):ao:=.pointer x
abbrev aW(r:ba)(x:o)(k:N):ba:=r.add (x.toNat*k)
abbrev am(n:N):ba:=⟨n,0,none⟩
abbrev bh:J bj:=[.one .slice]
abbrev cA:J bj:=[.one (.int .i64)]
abbrev eg:J bj:=[.one .bool]
abbrev ew:J bj:=[.one .ptr]
abbrev Q:=H->Prop
abbrev bD(f:ju)(a:cu ao)(ss:J bj)(u:H)(K:hd (gD ss) Q):Prop:=ie aH f a ss u K
abbrev lt(u:H)(k:Q):Prop:=k u
abbrev bd(m:Sem ao)(ss:J bj)(u:H)(K:hd (gD ss) (H->Prop)):Prop:=c4 aH m ss u K
abbrev nC(v:ao)(a:cu ao)(ss:J bj)(u:H)(K:hd (gD ss) (H->Prop)):Prop:=tm aH v a ss u K
abbrev qf(v:ao)(n:String)(a:cu ao)(ss:J bj)(u:H)(K:hd (gD ss) (H->Prop)):Prop:=mJ aH v n a ss u K
abbrev bp(s:U)(x:o)(k:ba->Prop):Prop:=∃r,s.a=some r/\((0:o)<=x/\x<(s.n:o))/\k r
abbrev bg(p:bT)(k:ba->Prop):Prop:=∃r,p=some r/\k r
abbrev bn(u:H)(a:ba)(k:o->Prop):Prop:=∃x,u.cell? a=some (an x)/\k x
abbrev ey(u:H)(a:ba)(k:o->Prop):Prop:=∃x,u.cell? a=some (bI x)/\k x
abbrev bl(u:H)(a:ba)(k:U->Prop):Prop:=∃x:U,u.cell? a=some (vs x)/\k x
abbrev eE(u:H)(a:ba)(k:bT->Prop):Prop:=∃x,u.cell? a=some (aZ x)/\k x
abbrev e8(u:H)(a:ba)(k:ay N->Prop):Prop:=∃x,u.cell? a=some (.map x)/\k x
abbrev CW(u:H)(a:ba)(k:aI->Prop):Prop:=∃x,u.cell? a=some (.bool x)/\k x
abbrev pL(u:H)(a:ba)(k:ao->Prop):Prop:=∃x,u.cell? a=some x/\k x
abbrev aQ(c A B:Prop):Prop:=(c->A)/\(¬c->B)
abbrev cP(c A B:Prop):Prop:=(¬c->A)/\(c->B)
abbrev dN(b:aI)(A B:Prop):Prop:=(b=ak->A)/\(b=ax->B)
abbrev ei(u:H)(k:N->Prop):Prop:=∀n,u n=none->k n
abbrev Nz(u:H)(f:(H->Prop)->H->Prop):Prop:=∃di:H->Prop,∃ck:H->N,di u/\∀v,di v->f (λw=>di w/\ck w<ck v) v
abbrev ug(g:H->Prop)(f:(H->Prop)->Prop):Prop:=∀K:H->Prop,(∀u,g u->K u)->f K
abbrev ga(α:Type)(i0:α)(u:H)(f:(α->H->Prop)->α->H->Prop):Prop:=∃di:α->H->Prop,∃ck:α->H->N,di i0 u/\∀bG v,di bG v->f (λjk w=>di jk w/\ck jk w<ck bG v) bG v
abbrev gu(α:Type)(g:α->H->Prop)(f:(α->H->Prop)->Prop):Prop:=∀K:α->H->Prop,(∀bG u,g bG u->K bG u)->f K
abbrev h4(α:Type)(β:Type)(i0:α)(i1:β)(u:H)(f:(α->β->H->Prop)->α->β->H->Prop):Prop:=∃di:α->β->H->Prop,∃ck:α->β->H->N,di i0 i1 u/\∀bG dy v,di bG dy v->f (λjk j6 w=>di jk j6 w/\ck jk j6 w<ck bG dy v) bG dy v
abbrev vy(α:Type)(β:Type)(g:α->β->H->Prop)(f:(α->β->H->Prop)->Prop):Prop:=∀K:α->β->H->Prop,(∀bG dy u,g bG dy u->K bG dy u)->f K
abbrev FO(α:Type)(β:Type)(γ:Type)(i0:α)(i1:β)(i2:γ)(u:H)(f:(α->β->γ->H->Prop)->α->β->γ->H->Prop):Prop:=∃di:α->β->γ->H->Prop,∃ck:α->β->γ->H->N,di i0 i1 i2 u/\∀bG dy x2 v,di bG dy x2 v->f (λjk j6 lS w=>di jk j6 lS w/\ck jk j6 lS w<ck bG dy x2 v) bG dy x2 v
abbrev aiP(α:Type)(β:Type)(γ:Type)(g:α->β->γ->H->Prop)(f:(α->β->γ->H->Prop)->Prop):Prop:=∀K:α->β->γ->H->Prop,(∀bG dy x2 u,g bG dy x2 u->K bG dy x2 u)->f K
abbrev AP(α:Type)(β:Type)(γ:Type)(δ:Type)(i0:α)(i1:β)(i2:γ)(i3:δ)(u:H)(f:(α->β->γ->δ->H->Prop)->α->β->γ->δ->H->Prop):Prop:=∃di:α->β->γ->δ->H->Prop,∃ck:α->β->γ->δ->H->N,di i0 i1 i2 i3 u/\∀bG dy x2 kD v,di bG dy x2 kD v->f (λjk j6 lS x0 w=>di jk j6 lS x0 w/\ck jk j6 lS x0 w<ck bG dy x2 kD v) bG dy x2 kD v
abbrev aGi(α:Type)(β:Type)(γ:Type)(δ:Type)(g:α->β->γ->δ->H->Prop)(f:(α->β->γ->δ->H->Prop)->Prop):Prop:=∀K:α->β->γ->δ->H->Prop,(∀bG dy x2 kD u,g bG dy x2 kD u->K bG dy x2 kD u)->f K
abbrev ai5(α:Type)(β:Type)(γ:Type)(δ:Type)(ε:Type)(i0:α)(i1:β)(i2:γ)(i3:δ)(i4:ε)(u:H)(f:(α->β->γ->δ->ε->H->Prop)->α->β->γ->δ->ε->H->Prop):Prop:=∃di:α->β->γ->δ->ε->H->Prop,∃ck:α->β->γ->δ->ε->H->N,di i0 i1 i2 i3 i4 u/\∀bG dy x2 kD sh v,di bG dy x2 kD sh v->f (λjk j6 lS x0 DI w=>di jk j6 lS x0 DI w/\ck jk j6 lS x0 DI w<ck bG dy x2 kD sh v) bG dy x2 kD sh v
abbrev av7(α:Type)(β:Type)(γ:Type)(δ:Type)(ε:Type)(ζ:Type)(i0:α)(i1:β)(i2:γ)(i3:δ)(i4:ε)(i5:ζ)(u:H)(f:(α->β->γ->δ->ε->ζ->H->Prop)->α->β->γ->δ->ε->ζ->H->Prop):Prop:=∃di:α->β->γ->δ->ε->ζ->H->Prop,∃ck:α->β->γ->δ->ε->ζ->H->N,di i0 i1 i2 i3 i4 i5 u/\∀bG dy x2 kD sh tl v,di bG dy x2 kD sh tl v->f (λjk j6 lS x0 DI Pq w=>di jk j6 lS x0 DI Pq w/\ck jk j6 lS x0 DI Pq w<ck bG dy x2 kD sh tl v) bG dy x2 kD sh tl v
abbrev av8(α:Type)(β:Type)(γ:Type)(δ:Type)(ε:Type)(ζ:Type)(η:Type)(i0:α)(i1:β)(i2:γ)(i3:δ)(i4:ε)(i5:ζ)(i6:η)(u:H)(f:(α->β->γ->δ->ε->ζ->η->H->Prop)->α->β->γ->δ->ε->ζ->η->H->Prop):Prop:=∃di:α->β->γ->δ->ε->ζ->η->H->Prop,∃ck:α->β->γ->δ->ε->ζ->η->H->N,di i0 i1 i2 i3 i4 i5 i6 u/\∀bG dy x2 kD sh tl zv v,di bG dy x2 kD sh tl zv v->f (λjk j6 lS x0 DI Pq am1 w=>di jk j6 lS x0 DI Pq am1 w/\ck jk j6 lS x0 DI Pq am1 w<ck bG dy x2 kD sh tl zv v) bG dy x2 kD sh tl zv v
def aU(e:J N){args:J ao}{f:ju}{fn:Func}(ac:aH.funcs[f]?=some fn)(hX:J (N×p5)){K:hd (gD ss) (H->Prop)}{P:Prop}(h:P)(Z:fn.body.isSome=ak:=by kernel_rfl)(ae:vM args.length fn.ntmps=ak:=by kernel_rfl)(O:vW aH fn.results.toList ss=ak:=by kernel_rfl)(ew:P=hf {P:=aH,exp:=e,wrap:=ax,h9:=h9,ob:=[],ov:=[]} hX (fn.body.getD .skip) 1 (λ_=>ak) (B7 fn.results.toList ss K) {n:=fn.ntmps,env:=IG 0 args,loc:=[]} u:=by kernel_rfl):ie aH f args.toArray ss u K:=Eo (nF _ _) ac Z hX ae O (Eq.mp ew h)
abbrev bS:aK:=.int .i64
abbrev aX(n:N)(l:J (N×aK)):N×p5:=(n,⟨l,[]⟩)
def oc(yY:N)(e:J N){args:J ao}{f:ju}{fn:Func}(ac:aH.funcs[f]?=some fn)(hX:J (N×p5)){K:hd (gD ss) (H->Prop)}{P:Prop}(h:P)(Z:fn.body.isSome=ak:=by kernel_rfl)(ae:vM args.length fn.ntmps=ak:=by kernel_rfl)(O:vW aH fn.results.toList ss=ak:=by kernel_rfl)(ew:P=hf {P:=aH,exp:=e,wrap:=ax,h9:=h9,ob:=[],ov:=[]} hX (fn.body.getD .skip) 1 (λ_=>ak) (B7 fn.results.toList ss K) {n:=fn.ntmps,env:=Nj yY 0 args,loc:=[]} u:=by kernel_rfl):ie aH f args.toArray ss u K:=K4 yY (nF _ _) ac Z hX ae O (Eq.mp ew h)
def ads(a0:U)(aa qb qc qd qe sr:o)(u:H)(K:aI->Q):=bD 9 #[vs a0,an aa,cV #[an qb,an qc,an qd,an qe,bI sr]] eg u K
def Vd(a0 aa:U)(u:H)(K:aI->Q):=bD 11 #[vs a0,vs aa] eg u K
def PO(a0:U)(aa qb qc qd qe sr:o)(u:H)(K:bT->o->Q):=bD 12 #[vs a0,an aa,cV #[an qb,an qc,an qd,an qe,bI sr]] [bj.one aK.ptr,bj.one (aK.int ci)] u K
def Vc(u:H)(K:aI->Q):=bD 13 #[] eg u K
def Uq(a0:bT)(aa:U)(a2 a3:o)(u:H)(K:U->U->U->o->Q):=bD 15 #[aZ a0,vs aa,an a2,an a3] [bj.agg [aK.slice,aK.slice,aK.slice],bj.one (aK.int ci)] u K
def DM(a0:bT)(u:H)(K:o->Q):=bD 17 #[aZ a0] cA u K
def Vf(a0:U)(aa qb qc qd qe sr:o)(u:H)(K:o->Q):=bD 18 #[vs a0,an aa,cV #[an qb,an qc,an qd,an qe,bI sr]] cA u K
def DQ(a0:U)(aa:o)(u:H)(K:bT->Q):=bD 19 #[vs a0,an aa] ew u K
def Kj(a0 aa:bT)(u:H)(K:aI->Q):=bD 21 #[aZ a0,aZ aa] eg u K
def Uz(a0 aa:U)(a2:o)(u:H)(K:U->o->Q):=bD 22 #[vs a0,vs aa,an a2] [bj.one aK.slice,bj.one (aK.int ci)] u K
def Up(a0:bT)(u:H)(K:U->Q):=bD 23 #[aZ a0] bh u K
def Kb(a0:bT)(cy:o)(cQ:U)(u:H)(K:aI->o->Q):=bD 24 #[aZ a0,cV #[an cy,vs cQ]] [bj.one aK.bool,bj.one (aK.int ci)] u K
def U9(a0 aa:U)(u:H)(K:aI->Q):=bD 25 #[vs a0,vs aa] eg u K
def Uo(a0:bT)(aa:o)(u:H)(K:aI->o->Q):=bD 26 #[aZ a0,an aa] [bj.one aK.bool,bj.one (aK.int ci)] u K
def U8(a0:U)(u:H)(K:U->Q):=bD 28 #[vs a0] bh u K
def U6(a0 aa:U)(u:H)(K:aI->Q):=bD 29 #[vs a0,vs aa] eg u K
def Kc(a0:bT)(u:H)(K:o->o->o->o->Q):=bD 30 #[aZ a0] [bj.agg [aK.int ci,aK.int ci,aK.int ci,aK.int ci]] u K
def Vb(a0:U)(aa:o)(u:H)(K:o->Q):=bD 33 #[vs a0,an aa] cA u K
def Ur(bZ b8 dZ gp aa:o)(a2:U)(a3:o)(u:H)(K:bT->o->Q):=bD 34 #[cV #[an bZ,an b8,an dZ,an gp],an aa,vs a2,bI a3] [bj.one aK.ptr,bj.one (aK.int ci)] u K
def Ve(u:H)(K:U->Q):=bD 35 #[] bh u K
def Vk(bZ b8 dZ gp aa:o)(a2:U)(u:H)(K:o->Q):=bD 36 #[cV #[an bZ,an b8,an dZ,an gp],an aa,vs a2] cA u K
def Vi(a0:bT)(cy:o)(cQ:U)(u:H)(K:aI->o->Q):=bD 37 #[aZ a0,cV #[an cy,vs cQ]] [bj.one aK.bool,bj.one (aK.int ci)] u K
def U7(a0:U)(u:H)(K:U->Q):=bD 38 #[vs a0] bh u K
def U5(a0 aa:U)(u:H)(K:aI->Q):=bD 39 #[vs a0,vs aa] eg u K
def Va(a0:U)(u:H)(K:Q):=bD 42 #[vs a0] [] u K
def Pt(a0 aa:U)(u:H)(K:o->Q):=bD 43 #[vs a0,vs aa] cA u K
def DR(a0:o)(u:H)(K:bT->o->Q):=bD 44 #[an a0] [bj.one aK.ptr,bj.one (aK.int ci)] u K
def ac1(a0 aa:U)(u:H)(K:ao->Q):=bD 45 #[vs a0,vs aa] [bj.one aK.val] u K
def zz(a0:bT)(cy cQ nA:o)(u:H)(K:aI->Q):=bD 46 #[aZ a0,cV #[an cy,bI cQ,bI nA]] eg u K
def BG(a0:bT)(u:H)(K:U->Q):=bD 47 #[aZ a0] bh u K
def PN(a0 aa:U)(u:H)(K:aI->Q):=bD 48 #[vs a0,vs aa] eg u K
def Vo(bZ:o)(b8 dZ:U)(gp mR:o)(oI:U)(aa:o)(u:H)(K:o->Q):=bD 52 #[cV #[an bZ,vs b8,vs dZ,bI gp,bI mR,vs oI],an aa] cA u K
def DS(bZ:o)(b8 dZ:U)(gp mR:o)(oI aa:U)(u:H)(K:o->o->o->Q):=bD 55 #[cV #[an bZ,vs b8,vs dZ,bI gp,bI mR,vs oI],vs aa] [bj.agg [aK.int bR,aK.int bR],bj.one (aK.int ci)] u K
def uV(bZ b8 cy cQ:o)(u:H)(K:o->Q):=bD 56 #[cV #[bI bZ,bI b8],cV #[bI cy,bI cQ]] cA u K
def Uy(bZ b8 dZ gp:o)(u:H)(K:o->Q):=bD 57 #[cV #[an bZ,an b8,an dZ,an gp]] cA u K
def BE(a0:U)(aa:o)(u:H)(K:o->Q):=bD 58 #[vs a0,an aa] cA u K
def UJ(a0:U)(aa a2:o)(u:H)(K:bT->o->Q):=bD 59 #[vs a0,an aa,an a2] [bj.one aK.ptr,bj.one (aK.int ci)] u K
def Vq(a0:U)(aa a2 a3:o)(u:H)(K:bT->o->Q):=bD 60 #[vs a0,an aa,an a2,bI a3] [bj.one aK.ptr,bj.one (aK.int ci)] u K
def UH(a0:U)(aa a2 a3 a4:o)(u:H)(K:bT->o->Q):=bD 61 #[vs a0,an aa,an a2,an a3,bI a4] [bj.one aK.ptr,bj.one (aK.int ci)] u K
def Pv(a0:U)(aa a2 a3:o)(u:H)(K:bT->o->Q):=bD 62 #[vs a0,an aa,an a2,bI a3] [bj.one aK.ptr,bj.one (aK.int ci)] u K
def rE(a0:U)(u:H)(K:U->Q):=bD 63 #[vs a0] bh u K
def UQ(a0:U)(aa a2 a3 a4 a5:o)(u:H)(K:bT->o->Q):=bD 64 #[vs a0,an aa,an a2,an a3,an a4,bI a5] [bj.one aK.ptr,bj.one (aK.int ci)] u K
def Vj(bZ b8 dZ gp:o)(u:H)(K:o->Q):=bD 65 #[cV #[an bZ,an b8,an dZ,an gp]] cA u K
def Vh(a0:U)(aa:o)(u:H)(K:o->Q):=bD 66 #[vs a0,an aa] cA u K
def PR(a0:o)(u:H)(K:aI->Q):=bD 67 #[an a0] eg u K
def PQ(a0:U)(aa:o)(u:H)(K:o->Q):=bD 68 #[vs a0,an aa] cA u K
def p6(a0:U)(aa:o)(u:H)(K:o->Q):=bD 74 #[vs a0,an aa] cA u K
def am5(a0:ao)(aa a2:ba)(u:H)(K:Q):=bD 75 #[a0,aZ (some aa),aZ (some a2)] [] u K
def rF(a0 aa:U)(u:H)(K:o->o->o->Q):=bD 76 #[vs a0,vs aa] [bj.agg [aK.int bR,aK.int bR],bj.one (aK.int ci)] u K
def zx(a0 aa:ao)(u:H)(K:Q):=bD 77 #[a0,aa] [] u K
def BH(bZ b8 dZ cy cQ nA:o)(u:H)(K:aI->Q):=bD 78 #[cV #[an bZ,bI b8,bI dZ],cV #[an cy,bI cQ,bI nA]] eg u K
def UC(a0:ao)(aa:o)(u:H)(K:Q):=bD 79 #[a0,an aa] [] u K
def UU(a0:U)(u:H)(K:U->Q):=bD 80 #[vs a0] bh u K
def U3(a0:U)(aa:ao)(u:H)(K:Q):=bD 81 #[vs a0,aa] [] u K
def Vn(bZ b8 dZ cy cQ nA:o)(u:H)(K:o->Q):=bD 82 #[cV #[an bZ,bI b8,bI dZ],cV #[an cy,bI cQ,bI nA]] cA u K
def Kk(a0:o)(u:H)(K:aI->Q):=bD 90 #[an a0] eg u K
def Vp(bZ:o)(b8 dZ:U)(gp mR:o)(oI aa:U)(u:H)(K:o->Q):=bD 91 #[cV #[an bZ,vs b8,vs dZ,bI gp,bI mR,vs oI],vs aa] cA u K
def Kl(a0 aa:U)(u:H)(K:o->o->Q):=bD 93 #[vs a0,vs aa] [bj.agg [aK.int bR,aK.int bR]] u K
def PV(bZ b8 aa a2:o)(u:H)(K:o->o->Q):=bD 94 #[cV #[bI bZ,bI b8],an aa,an a2] [bj.agg [aK.int bR,aK.int bR]] u K
def PY(bZ b8:o)(u:H)(K:o->Q):=bD 95 #[cV #[bI bZ,bI b8]] [bj.one (aK.int bR)] u K
def DT(a0 aa:o)(u:H)(K:o->o->Q):=bD 96 #[bI a0,bI aa] [bj.agg [aK.int bR,aK.int bR]] u K
def G0(a0:bT)(aa:U)(u:H)(K:bT->Q):=bD 97 #[aZ a0,vs aa] ew u K
def PH(a0:o)(u:H)(K:bT->Q):=bD 98 #[bI a0] ew u K
def G4(a0:bT)(aa:U)(u:H)(K:bT->Q):=bD 99 #[aZ a0,vs aa] ew u K
def PC(a0:U)(aa a2 a3:o)(u:H)(K:U->o->Q):=bD 100 #[vs a0,an aa,an a2,bI a3] [bj.one aK.slice,bj.one (aK.int ci)] u K
def Kg(a0:bT)(cy:o)(cQ:U)(u:H)(K:Q):=bD 101 #[aZ a0,cV #[an cy,vs cQ]] [] u K
def GZ(a0:bT)(cy:o)(cQ:U)(u:H)(K:Q):=bD 102 #[aZ a0,cV #[an cy,vs cQ]] [] u K
def oC(a0:U)(u:H)(K:U->Q):=bD 103 #[vs a0] bh u K
def adq(a0:U)(aa:ao)(u:H)(K:Q):=bD 104 #[vs a0,aa] [] u K
def am4(bZ:o)(b8:U)(cy:o)(cQ:U)(u:H)(K:o->Q):=bD 105 #[cV #[an bZ,vs b8],cV #[an cy,vs cQ]] cA u K
def adm(a0:o)(aa a2 a3 a4 a5:ba)(u:H)(K:U->Q):=bD 106 #[an a0,aZ (some aa),aZ (some a2),aZ (some a3),aZ (some a4),aZ (some a5)] bh u K
def Kh(a0:U)(aa a2:o)(u:H)(K:U->Q):=bD 107 #[vs a0,an aa,an a2] bh u K
def zy(a0 aa:o)(u:H)(K:aI->Q):=bD 108 #[an a0,an aa] eg u K
def Vg(a0:U)(aa:o)(u:H)(K:o->Q):=bD 109 #[vs a0,an aa] cA u K
def Ke(a0:ao)(aa:o)(u:H)(K:Q):=bD 112 #[a0,an aa] [] u K
def Kd(a0:ao)(aa a2:o)(u:H)(K:aI->Q):=bD 113 #[a0,an aa,an a2] eg u K
def Uw(a0:U)(u:H)(K:o->Q):=bD 116 #[vs a0] cA u K
def Uv(a0 aa:o)(u:H)(K:o->Q):=bD 117 #[an a0,an aa] cA u K
def PX(bZ b8 cy cQ:o)(u:H)(K:o->o->o->Q):=bD 120 #[cV #[bI bZ,bI b8],cV #[bI cy,bI cQ]] [bj.agg [aK.int bR,aK.int bR],bj.one (aK.int ci)] u K
def Uu(a0 aa:o)(u:H)(K:o->o->Q):=bD 121 #[bI a0,bI aa] [bj.one (aK.int bR),bj.one (aK.int bR)] u K
def adk(a0:U)(aa a2:ba)(u:H)(K:bT->Q):=bD 122 #[vs a0,aZ (some aa),aZ (some a2)] ew u K
def PT(a0:U)(aa:o)(u:H)(K:o->U->U->o->o->U->o->Q):=bD 123 #[vs a0,an aa] [bj.agg [aK.int ci,aK.slice,aK.slice,aK.int bR,aK.int bR,aK.slice],bj.one (aK.int ci)] u K
def PL(a0:U)(aa:ao)(u:H)(K:Q):=bD 124 #[vs a0,aa] [] u K
def anh(bZ:o)(b8:U)(cy:o)(cQ:U)(a2:ba)(u:H)(K:o->Q):=bD 125 #[cV #[an bZ,vs b8],cV #[an cy,vs cQ],aZ (some a2)] cA u K
def nv(a0:U)(u:H)(K:U->Q):=bD 126 #[vs a0] bh u K
def adB(a0:U)(aa a2:ba)(u:H)(K:bT->Q):=bD 127 #[vs a0,aZ (some aa),aZ (some a2)] ew u K
def UR(a0:bT)(aa:o)(u:H)(K:o->o->Q):=bD 128 #[aZ a0,an aa] [bj.one (aK.int ci),bj.one (aK.int ci)] u K
def PS(a0 aa:U)(u:H)(K:o->U->U->o->o->U->o->Q):=bD 129 #[vs a0,vs aa] [bj.agg [aK.int ci,aK.slice,aK.slice,aK.int bR,aK.int bR,aK.slice],bj.one (aK.int ci)] u K
def anq(bZ:o)(b8:U)(aa:ba)(u:H)(K:o->o->Q):=bD 130 #[cV #[an bZ,vs b8],aZ (some aa)] [bj.agg [aK.int bR,aK.int bR]] u K
def anr(bZ:o)(b8:U)(cy:o)(cQ:U)(a2:ba)(u:H)(K:o->Q):=bD 131 #[cV #[an bZ,vs b8],cV #[an cy,vs cQ],aZ (some a2)] cA u K
def PD(a0:U)(aa:o)(u:H)(K:o->Q):=bD 132 #[vs a0,an aa] cA u K
def UT(a0:bT)(aa:o)(u:H)(K:U->o->Q):=bD 133 #[aZ a0,an aa] [bj.one aK.slice,bj.one (aK.int ci)] u K
def adl(a0 aa a2 a3:ba)(u:H)(K:Q):=bD 134 #[aZ (some a0),aZ (some aa),aZ (some a2),aZ (some a3)] [] u K
def PE(a0 aa:U)(u:H)(K:o->o->o->Q):=bD 135 #[vs a0,vs aa] [bj.one (aK.int ci),bj.agg [aK.int bR,aK.int bR]] u K
def UK(a0 aa:o)(u:H)(K:o->Q):=bD 136 #[an a0,an aa] cA u K
def G1(a0 aa:U)(u:H)(K:o->o->o->o->Q):=bD 137 #[vs a0,vs aa] [bj.one (aK.int ci),bj.agg [aK.int bR,aK.int bR],bj.one (aK.int ci)] u K
def US(a0:bT)(aa:o)(u:H)(K:o->o->Q):=bD 138 #[aZ a0,an aa] [bj.one (aK.int ci),bj.one (aK.int ci)] u K
def Kf(a0:bT)(aa:o)(a2:U)(a3:o)(a4:ao)(u:H)(K:Q):=bD 139 #[aZ a0,an aa,vs a2,an a3,a4] [] u K
def PA(a0:bT)(aa:U)(a2:o)(u:H)(K:o->Q):=bD 140 #[aZ a0,vs aa,an a2] cA u K
def ana(bZ b8 dZ:o)(aa a2 a3:ba)(u:H)(K:aI->Q):=bD 141 #[cV #[an bZ,bI b8,bI dZ],aZ (some aa),aZ (some a2),aZ (some a3)] eg u K
def Py(a0:bT)(aa a2 a3:o)(u:H)(K:Q):=bD 142 #[aZ a0,an aa,an a2,an a3] [] u K
def Ux(a0:o)(u:H)(K:aI->Q):=bD 160 #[an a0] eg u K
def PU(a0:U)(aa:o)(u:H)(K:U->o->Q):=bD 163 #[vs a0,an aa] [bj.one aK.slice,bj.one (aK.int ci)] u K
def adr(a0:U)(aa:o)(a2:ao)(u:H)(K:Q):=bD 164 #[vs a0,an aa,a2] [] u K
def PI(a0:bT)(aa a2 a3:o)(u:H)(K:o->Q):=bD 165 #[aZ a0,an aa,an a2,an a3] cA u K
def G2(a0:bT)(u:H)(K:o->Q):=bD 166 #[aZ a0] [bj.one (aK.int bR)] u K
def adn(a0:bT)(aa:o)(u:H)(K:ao->Q):=bD 167 #[aZ a0,an aa] [bj.one aK.val] u K
def UL(a0:U)(u:H)(K:o->Q):=bD 168 #[vs a0] cA u K
def ac0(a0:o)(u:H)(K:o->Q):=bD 169 #[bI a0] cA u K
def x1(a0:bT)(aa:o)(a2:U)(u:H)(K:o->o->o->Q):=bD 170 #[aZ a0,an aa,vs a2] [bj.agg [aK.int ci,aK.int bR,aK.int bR]] u K
def ac6(a0:U)(u:H)(K:o->Q):=bD 171 #[vs a0] cA u K
def DP(a0:ao)(u:H)(K:ao->Q):=bD 172 #[a0] [bj.one aK.val] u K
def UG(a0:bT)(aa:o)(a2:U)(a3:o)(u:H)(K:o->Q):=bD 173 #[aZ a0,an aa,vs a2,an a3] cA u K
def Pz(a0:bT)(aa:o)(u:H)(K:o->Q):=bD 174 #[aZ a0,an aa] cA u K
def adp(a0:U)(aa:ao)(u:H)(K:Q):=bD 175 #[vs a0,aa] [] u K
def ac5(a0 aa:o)(a2 a3:ba)(u:H)(K:o->Q):=bD 176 #[an a0,an aa,aZ (some a2),aZ (some a3)] cA u K
def PM(a0:U)(aa a2:o)(a3:ao)(u:H)(K:Q):=bD 177 #[vs a0,an aa,an a2,a3] [] u K
def BF(a0:U)(u:H)(K:Q):=bD 193 #[vs a0] [] u K
def G3(a0:U)(aa a2 a3:o)(a4:ao)(u:H)(K:Q):=bD 194 #[vs a0,an aa,an a2,an a3,a4] [] u K
def anm(a0:ao)(aa a2:ba)(u:H)(K:Q):=bD 195 #[a0,aZ (some aa),aZ (some a2)] [] u K
def U4(a0:U)(aa a2 a3:o)(a4:ao)(u:H)(K:Q):=bD 204 #[vs a0,an aa,an a2,an a3,a4] [] u K
def Ki(a0:U)(aa a2 a3:o)(a4:ao)(u:H)(K:Q):=bD 223 #[vs a0,an aa,an a2,an a3,a4] [] u K
def Vl(a0:bT)(u:H)(K:aI->Q):=bD 249 #[aZ a0] eg u K
def Vm(a0:bT)(u:H)(K:o->Q):=bD 250 #[aZ a0] cA u K
def PB(a0:bT)(aa:o)(u:H)(K:aI->o->Q):=bD 251 #[aZ a0,an aa] [bj.one aK.bool,bj.one (aK.int ci)] u K
def adg(a0:bT)(u:H)(K:o->Q):=bD 252 #[aZ a0] cA u K
def adh(a0:bT)(cy:o)(cQ:U)(u:H)(K:aI->o->Q):=bD 253 #[aZ a0,cV #[an cy,vs cQ]] [bj.one aK.bool,bj.one (aK.int ci)] u K
def adi(a0:bT)(u:H)(K:U->Q):=bD 254 #[aZ a0] bh u K
def adj(a0:bT)(aa:U)(a2 a3:o)(u:H)(K:U->U->U->o->Q):=bD 255 #[aZ a0,vs aa,an a2,an a3] [bj.agg [aK.slice,aK.slice,aK.slice],bj.one (aK.int ci)] u K
def adf(a0:bT)(aa a2:ba)(u:H)(K:Q):=bD 256 #[aZ a0,aZ (some aa),aZ (some a2)] [] u K
def PJ(a0:U)(aa:ao)(u:H)(K:U->Q):=bD 257 #[vs a0,aa] bh u K
def anf(bZ:o)(b8:U)(aa:ba)(u:H)(K:aI->Q):=bD 258 #[cV #[an bZ,vs b8],aZ (some aa)] eg u K
def DN(bZ:o)(b8:U)(aa:o)(a2:aI)(a3:o)(u:H)(K:o->Q):=bD 259 #[cV #[an bZ,vs b8],an aa,l3 a2,an a3] cA u K
def BD(a0:U)(aa a2 a3:o)(u:H)(K:o->Q):=bD 260 #[vs a0,an aa,an a2,an a3] cA u K
def ang(a0:bT)(aa:ba)(u:H)(K:Q):=bD 261 #[aZ a0,aZ (some aa)] [] u K
def ani(a0:bT)(aa a2:U)(a3 a4:o)(u:H)(K:U->U->U->Q):=bD 262 #[aZ a0,vs aa,vs a2,an a3,an a4] [bj.agg [aK.slice,aK.slice,aK.slice]] u K
def PK(a0:U)(aa:ao)(u:H)(K:o->Q):=bD 263 #[vs a0,aa] cA u K
def DO(a0 aa:U)(a2 a3:o)(u:H)(K:U->U->U->Q):=bD 264 #[vs a0,vs aa,an a2,an a3] [bj.agg [aK.slice,aK.slice,aK.slice]] u K
def UA(a0:bT)(aa a2:ba)(u:H)(K:Q):=bD 265 #[aZ a0,aZ (some aa),aZ (some a2)] [] u K
def UB(bZ b8:o)(aa:ba)(u:H)(K:aI->Q):=bD 266 #[cV #[bI bZ,bI b8],aZ (some aa)] eg u K
def adt(a0:bT)(u:H)(K:o->o->o->aI->Q):=bD 267 #[aZ a0] [bj.agg [aK.int ci,aK.int bR,aK.int bR],bj.one aK.bool] u K
def ac2(a0:U)(u:H)(K:o->Q):=bD 268 #[vs a0] cA u K
def Pu(bZ:o)(b8 dZ:U)(gp mR:o)(oI aa:U)(u:H)(K:o->U->U->o->o->U->Q):=bD 269 #[cV #[an bZ,vs b8,vs dZ,bI gp,bI mR,vs oI],vs aa] [bj.agg [aK.int ci,aK.slice,aK.slice,aK.int bR,aK.int bR,aK.slice]] u K
def Pr(a0:bT)(u:H)(K:U->Q):=bD 270 #[aZ a0] bh u K
def PW(a0:bT)(aa:o)(u:H)(K:aI->o->Q):=bD 271 #[aZ a0,an aa] [bj.one aK.bool,bj.one (aK.int ci)] u K
def adx(a0:bT)(u:H)(K:o->Q):=bD 272 #[aZ a0] cA u K
def ady(a0:bT)(cy:o)(cQ:U)(u:H)(K:aI->o->Q):=bD 273 #[aZ a0,cV #[an cy,vs cQ]] [bj.one aK.bool,bj.one (aK.int ci)] u K
def adz(a0:bT)(u:H)(K:U->Q):=bD 274 #[aZ a0] bh u K
def adA(a0:bT)(aa:U)(a2 a3:o)(u:H)(K:U->U->U->o->Q):=bD 275 #[aZ a0,vs aa,an a2,an a3] [bj.agg [aK.slice,aK.slice,aK.slice],bj.one (aK.int ci)] u K
def adw(a0:bT)(aa a2:ba)(u:H)(K:Q):=bD 276 #[aZ a0,aZ (some aa),aZ (some a2)] [] u K
def anp(bZ:o)(b8:U)(aa:ba)(u:H)(K:aI->Q):=bD 277 #[cV #[an bZ,vs b8],aZ (some aa)] eg u K
def Vr(a0:bT)(aa:U)(u:H)(K:o->o->Q):=bD 278 #[aZ a0,vs aa] [bj.agg [aK.int bR,aK.int bR]] u K
def UI(a0:bT)(aa:o)(u:H)(K:aI->o->Q):=bD 279 #[aZ a0,an aa] [bj.one aK.bool,bj.one (aK.int ci)] u K
def ac9(a0:bT)(u:H)(K:o->Q):=bD 280 #[aZ a0] cA u K
def ada(a0:bT)(cy:o)(cQ:U)(u:H)(K:aI->o->Q):=bD 281 #[aZ a0,cV #[an cy,vs cQ]] [bj.one aK.bool,bj.one (aK.int ci)] u K
def adb(a0:bT)(u:H)(K:U->Q):=bD 282 #[aZ a0] bh u K
def ade(a0:bT)(aa:U)(a2 a3:o)(u:H)(K:U->U->U->o->Q):=bD 283 #[aZ a0,vs aa,an a2,an a3] [bj.agg [aK.slice,aK.slice,aK.slice],bj.one (aK.int ci)] u K
def ane(bZ:o)(b8:U)(aa:ba)(u:H)(K:aI->Q):=bD 284 #[cV #[an bZ,vs b8],aZ (some aa)] eg u K
def UX(a0:U)(u:H)(K:U->Q):=bD 285 #[vs a0] bh u K
def U0(a0:U)(aa:o)(u:H)(K:U->Q):=bD 286 #[vs a0,an aa] bh u K
def Pw(a0:bT)(aa:o)(u:H)(K:aI->o->Q):=bD 287 #[aZ a0,an aa] [bj.one aK.bool,bj.one (aK.int ci)] u K
def UD(a0:bT)(u:H)(K:o->Q):=bD 288 #[aZ a0] cA u K
def Px(a0:bT)(cy:o)(cQ:U)(u:H)(K:aI->o->Q):=bD 289 #[aZ a0,cV #[an cy,vs cQ]] [bj.one aK.bool,bj.one (aK.int ci)] u K
def UE(a0:bT)(u:H)(K:U->Q):=bD 290 #[aZ a0] bh u K
def UF(a0:bT)(aa:U)(a2 a3:o)(u:H)(K:U->U->U->o->Q):=bD 291 #[aZ a0,vs aa,an a2,an a3] [bj.agg [aK.slice,aK.slice,aK.slice],bj.one (aK.int ci)] u K
def UZ(a0:U)(aa:ao)(u:H)(K:U->Q):=bD 292 #[vs a0,aa] bh u K
def am8(a0:o)(aa:ba)(u:H)(K:aI->Q):=bD 293 #[an a0,aZ (some aa)] eg u K
def UY(a0:U)(aa:o)(u:H)(K:aI->Q):=bD 294 #[vs a0,an aa] eg u K
def uU(a0:ao)(u:H)(K:U->Q):=bD 295 #[a0] bh u K
def PF(a0:ay N)(u:H)(K:ao->Q):=bD 296 #[dJ a0] [bj.one aK.val] u K
def am9(bZ b8 dZ:o)(aa a2 a3:ba)(u:H)(K:aI->Q):=bD 297 #[cV #[an bZ,bI b8,bI dZ],aZ (some aa),aZ (some a2),aZ (some a3)] eg u K
def PG(a0:ay N)(u:H)(K:ao->Q):=bD 298 #[dJ a0] [bj.one aK.val] u K
def U1(a0:U)(aa:ao)(u:H)(K:o->Q):=bD 299 #[vs a0,aa] cA u K
def U2(a0:U)(aa:o)(u:H)(K:o->Q):=bD 300 #[vs a0,an aa] cA u K
def UW(a0:ao)(u:H)(K:U->Q):=bD 301 #[a0] bh u K
def anj(a0:ao)(aa:ba)(u:H)(K:Q):=bD 302 #[a0,aZ (some aa)] [] u K
def anl(a0:ao)(aa:ba)(u:H)(K:Q):=bD 303 #[a0,aZ (some aa)] [] u K
def ado(a0:U)(aa:ao)(u:H)(K:U->Q):=bD 304 #[vs a0,aa] bh u K
def acX(a0:bT)(aa:o)(u:H)(K:aI->o->Q):=bD 305 #[aZ a0,an aa] [bj.one aK.bool,bj.one (aK.int ci)] u K
def acY(a0:bT)(u:H)(K:o->Q):=bD 306 #[aZ a0] cA u K
def Us(a0:bT)(cy:o)(cQ:U)(u:H)(K:aI->o->Q):=bD 307 #[aZ a0,cV #[an cy,vs cQ]] [bj.one aK.bool,bj.one (aK.int ci)] u K
def Ut(a0:bT)(u:H)(K:U->Q):=bD 308 #[aZ a0] bh u K
def acZ(a0:bT)(aa:U)(a2 a3:o)(u:H)(K:U->U->U->o->Q):=bD 309 #[aZ a0,vs aa,an a2,an a3] [bj.agg [aK.slice,aK.slice,aK.slice],bj.one (aK.int ci)] u K
def Ps(a0 aa:U)(a2 a3:o)(u:H)(K:U->U->U->o->Q):=bD 310 #[vs a0,vs aa,an a2,an a3] [bj.agg [aK.slice,aK.slice,aK.slice],bj.one (aK.int ci)] u K
def acU(a0:bT)(cy:o)(cQ:U)(u:H)(K:aI->o->Q):=bD 311 #[aZ a0,cV #[an cy,vs cQ]] [bj.one aK.bool,bj.one (aK.int ci)] u K
def acV(a0:bT)(aa:U)(a2 a3:o)(u:H)(K:U->U->U->o->Q):=bD 312 #[aZ a0,vs aa,an a2,an a3] [bj.agg [aK.slice,aK.slice,aK.slice],bj.one (aK.int ci)] u K
def UN(a0:bT)(aa:U)(u:H)(K:U->o->Q):=bD 313 #[aZ a0,vs aa] [bj.one aK.slice,bj.one (aK.int ci)] u K
def UO(a0:bT)(aa:U)(u:H)(K:U->o->Q):=bD 314 #[aZ a0,vs aa] [bj.one aK.slice,bj.one (aK.int ci)] u K
def UM(a0:ay N)(u:H)(K:ao->Q):=bD 315 #[dJ a0] [bj.one aK.val] u K
def UP(a0 aa:U)(u:H)(K:o->o->o->Q):=bD 316 #[vs a0,vs aa] [bj.agg [aK.int bR,aK.int bR],bj.one (aK.int ci)] u K
def acW(bZ b8 dZ cy cQ nA:o)(u:H)(K:o->Q):=bD 317 #[cV #[an bZ,bI b8,bI dZ],cV #[an cy,bI cQ,bI nA]] cA u K
def ank(a0:ao)(aa:ba)(u:H)(K:Q):=bD 318 #[a0,aZ (some aa)] [] u K
def ann(a0:U)(u:H)(K:o->Q):=bD 320 #[vs a0] cA u K
def adu(a0:U)(aa a2:o)(u:H)(K:aI->Q):=bD 321 #[vs a0,an aa,an a2] eg u K
def adv(a0:U)(aa a2:o)(u:H)(K:Q):=bD 322 #[vs a0,an aa,an a2] [] u K
def ano(a0:bT)(aa:ao)(u:H)(K:Q):=bD 324 #[aZ a0,aa] [] u K
def ac7(a0:U)(aa a2:o)(u:H)(K:aI->Q):=bD 325 #[vs a0,an aa,an a2] eg u K
def ac8(a0:U)(aa a2:o)(u:H)(K:Q):=bD 326 #[vs a0,an aa,an a2] [] u K
def anb(a0:bT)(u:H)(K:ao->Q):=bD 327 #[aZ a0] [bj.one aK.val] u K
def anc(a0:bT)(aa:ao)(u:H)(K:Q):=bD 328 #[aZ a0,aa] [] u K
def ac3(a0:U)(aa a2:o)(u:H)(K:aI->Q):=bD 330 #[vs a0,an aa,an a2] eg u K
def ac4(a0:U)(aa a2:o)(u:H)(K:Q):=bD 331 #[vs a0,an aa,an a2] [] u K
def am6(a0:bT)(u:H)(K:ao->Q):=bD 332 #[aZ a0] [bj.one aK.val] u K
def am7(a0:bT)(aa:ao)(u:H)(K:Q):=bD 333 #[aZ a0,aa] [] u K
def br.of(h1:-9223372036854775808<=x)(h2:x<=9223372036854775807):br x:=⟨h1,h2⟩
def H.qg(h:u.le u'){a:ba}{v:ao}(e:u.cell? a=some v):u'.cell? a=some v:=by unfold H.cell? at e ⊢;split at e;rename_i c t f Z;rw[h _ _ Z];exact e;cases e
def c4.pure{m:Sem ao}{K:hd (gD ss) (H->Prop)}(vs:J ao)(h:∀w,Sub u w->m.run P w=.ok (wI ss vs) w)
  (hk:pr (gD ss) vs) (aq:hG (gD ss) K vs λr=>r u):c4 P m ss u K:=
 λw hw=>⟨_,w,u,h w hw,⟨vs,hk,rfl,aq⟩,Step.refl hw⟩
structure bt(u:H)(s:U)(size:N)(xs:J ao):Prop where
 len:xs.length=s.n*size
 cap:s.n<=s.c
 max:s.c<=9223372036854775807
 at':xs=[]∨∃p,s.a=some p/\∀i v,xs[i]?=some v->u.cell? (p.add i)=some v
def bt.mono(h:bt u s size xs)(k:u.le u'):bt u' s size xs:=
 ⟨h.len,h.cap,h.max,h.at'.imp id λ⟨p,h1,h2⟩=>⟨p,h1,λi v e=>H.qg k (h2 i v e)⟩⟩
def bt.get(h:bt u s size xs)(hi:i<xs.length):∃p,s.a=some p/\∀i v,xs[i]?=some v->u.cell? (p.add i)=some v:=by rcases h.at' with h|h;subst h;simp at hi;exact h
def Ints(u:H)(s:U)(l:J o):Prop:=bt u s 1 (l.map λx=>.int .i64 x)
def Ints.mono(h:Ints u s l)(k:u.le u'):Ints u' s l:=bt.mono h k
def Ints.len(h:Ints u s l):s.n=l.length:=by have:=bt.len h;simp at this;exact this.symm
def Ints.max(h:Ints u s l):s.n<=9223372036854775807:=jv (bt.cap h) (bt.max h)
def Ints.read(h:Ints u s l)(h0:0<=x)(h1:x<(s.n:o)):
  ∃p,s.a=some p/\∃(ar:x.toNat<l.length),u.cell? (p.add (x.toNat*1))=some (.int .i64 l[x.toNat]):=by
 have ae:=h.len
 have bC:x.toNat<l.length:=by omega
 obtain⟨p,ad,I⟩:=bt.get h (i:=x.toNat) (by simpa using bC)
 refine⟨p,ad,bC,?_⟩
 rw[y7]
 exact I _ _ (by simp[bC])
def Ints.at(h:Ints u s l)(h0:0<=x)(h1:x<(s.n:o)):∃p,s.a=some p/\u.cell? (p.add (x.toNat*1))=some (.int .i64 (l.getD x.toNat 0)):=by obtain⟨p,ad,ar,I⟩:=h.read h0 h1;exact⟨p,ad,by rw[I];simp[ar]⟩
def Step.AV(hw:Sub u w)(z:Obj):Step u [] w (u.ins w.heap.size z) [] (w.alloc z):=
 (Fits.AV (s:={n:=0,env:=[],loc:=[]}) (a:={tmps:=#[],defers:=[]}) (bs:=[]) (w:=w) ⟨⟨rfl,rfl,λ_ h=>by cases h⟩,rfl,λ_ _ h=>by simp at h,by simp,by simp,hw⟩ z).2
def c4.one{m:Sem ao}{c:aK}{K:c.den->H->Prop}
  (h:∀w,Sub u w->∃x w' u',m.run P w=.ok (c.enc x) w'/\K x u'/\Step u [] w u' [] w'):c4 P m [.one c] u K:=by
 intro w hw
 obtain⟨x,w',u',h1,h2,h3⟩:=h w hw
 exact⟨_,w',u',h1,⟨[c.enc x],.cons x .nil,rfl,(aK.uT c x _).2 h2⟩,h3⟩
def c4.C3{m:Sem ao}{c:aK}{K:c.den->H->Prop}(x:c.den)(h:∀w,Sub u w->m.run P w=.ok (c.enc x) w)(aq:K x u):c4 P m [.one c] u K:=
 .one λw hw=>⟨x,w,u,h w hw,aq,Step.refl hw⟩
def j9(P:dR)(t:dC):ay (dC×N×N×J ao):=
 match P.underlying t with
 |some (.slice e)=>match P.info? e with
  |some i=>match i.zero with
   |some Y=>match ji Y.cells.size i.size with
    |true=>some (e,i.size,i.bytes,Y.cells.toList)|false=>none
   |none=>none
  |none=>none
 |_=>none
def tz(h:j9 P t=some (e,size,bytes,zs)):
  P.underlying t=some (.slice e)/\∃i Y,P.info? e=some i/\i.zero=some Y/\i.size=size/\i.bytes=bytes/\Y.cells.size=size/\Y.cells.toList=zs:=by
 unfold j9 at h
 split at h
 rename_i gq hu
 split at h
 rename_i i hi
 split at h
 rename_i Y aB
 split at h
 rename_i Z
 cases h
 exact⟨hu,i,Y,hi,aB,rfl,rfl,l1 Z,rfl⟩
 cases h
 cases h
 cases h
 cases h
def U.aj(s:U):ay N:=s.a.map (·.block)
structure Own(u:H)(e size:N)(s:U)(xs:J ao):Prop where
 len:xs.length=s.n*size
 is:(s=⟨none,0,0⟩)∨∃g cur,s.a=some ⟨g,0,none⟩/\u g=some (.cells cur e (0,0))/\s.n<=s.c/\s.c<=9223372036854775807/\cur.size=s.c*size/\cur.toList.take (s.n*size)=xs
def IZ:maxLen=9223372036854775807:=by decide
def H.ao1(u:H)(g:N)(c:cu ao)(e:dC)(Hx:N×N)(i:N):(u.ins g (.cells c e Hx)).cell? ⟨g,i,none⟩=c[i]?:=by simp[H.cell?,H.ins]
def H.a1{c:cu ao}{Hx:N×N}(h:u g=some (.cells c e Hx))(i:N):u.cell? ⟨g,i,none⟩=c[i]?:=by simp[H.cell?,h]
def Own.cC{e:N}(h:Own u e size s xs):bt u s size xs:=by rcases h.is with h1|⟨g,cur,aE,W,ae,I,ag,ht⟩;subst h1;refine⟨h.len,by simp,by simp,.inl ?_⟩;have:=h.len;simpa using this;refine⟨h.len,ae,I,.inr ⟨_,aE,λi v e=>?_⟩⟩;rw[iC,jI,H.a1 W];rw[<-ht] at e;rw[F7] at e;split at e;simpa using e;cases e
def Own.le{e:N}(h:Own u e size s xs)(k:∀b z,s.aj=some b->u b=some z->u' b=some z):Own u' e size s xs:=
 ⟨h.len,h.is.imp id λ⟨g,cur,aE,W,r⟩=>⟨g,cur,aE,k g _ (by simp[U.aj,aE]) W,r⟩⟩
def Own.nil(u:H)(e size:N):Own u e size ⟨none,0,0⟩ []:=⟨by simp,.inl rfl⟩
structure Kp(u u':H)(s ap:U):Prop where
 rest:∀b z,u b=some z->s.aj≠some b->u' b=some z
 aj:ap.aj=s.aj∨∃g,ap.aj=some g/\u g=none
def Kp.le{ap:U}(h:Kp u u' s ap)(k:ai.le u)(ag:∀g,s.aj=some g->ai g=none):ai.le u':=by intro b z e;refine h.rest b z (k b z e) λZ=>?_;rw[ag b Z] at e;cases e
def Kp.out{ap:U}(h:Kp u u' s ap)(k:ai.le u)(ag:∀g,s.aj=some g->ai g=none):∀g,ap.aj=some g->ai g=none:=by
 intro g W;rcases h.aj with e|⟨bX,e,ae⟩;exact ag g (by rw[<-e];exact W);rw[e] at W;cases W;cases M:ai g with
 |none=>rfl|some z=>rw[k _ _ M] at ae;cases ae
def alT(hw:Sub u w)(z:Obj):Step u [] w (u.ins w.heap.size z) [] (w.drew.alloc z)/\u w.heap.size=none:=
 ⟨(Step.Qy hw (Jo w.drawn)).trans (Step.AV (w:=w.drew) hw z),hw.none (cg _)⟩
def alU(hw:Sub u w){cur:cu ao}(W:u g=some (.cells cur e (0,0)))(cs:cu ao):
  Step u [] w (u.ins g (.cells cs e (0,0))) [] (w.setRow g cs):=by
 have LX:=hw _ _ W
 have ag:(w.setRow g cs).heap.size=w.heap.size:=by simp[World.setRow]
 refine⟨λb z h=>?_,rfl,rfl,rfl,cg _,by rw[ag];exact cg _,λb _ Z _=>?_,λb _ Z=>?_,[],by simp,by simp⟩
 unfold H.ins at h
 split at h
 rename_i lV;subst lV;cases h;exact setRow_heap w b cur cs e (0,0) LX
 rename_i lV;rw[setRow_other w g b cs lV];exact hw b z h
 have:b≠g:=λh=>by rw[h,W] at Z;cases Z
 exact setRow_other w g b cs this
 have:b≠g:=λh=>by rw[h,W] at Z;cases Z
 rw[bm u _ this];exact Z
def bt.world(hw:Sub u w)(h:bt u s size xs){p:ba}(ad:s.a=some p):∀j v,xs[j]?=some v->w.cell? (p.add j)=some v:=by intro j v e;rcases h.at' with h|⟨q,aO,I⟩;subst h;simp at e;rw[ad] at aO;cases aO;exact hw.cell (I j v e)
def aqy(Y:cu ao){aam cap:N}(aB:Y.size=size)(h:aam<=cap)(M:xs.length=aam*size):
  (xs.toArray++vP Y (cap-aam)).size=cap*size:=by
 simp only[aaP,vQ,size_zeroCells,aB,M,<-Dc]
 congr 1
 omega
def abA{fb:dC}(aR:j9 P t=some (e,size,bytes,zs)){x:U}
  (ag:bt u s size xs) (M:bt u x size eD) (Fe:s.c<s.n+x.n) (iA:s=⟨none,0,0⟩∨s.a≠none) (CQ:x.a≠none) (hm:s.n+x.n<=9223372036854775807) (Z:(s.n+x.n)*bytes<=140737488355328)
  (aq:∀g c cur,u g=none->Own (u.ins g (.cells cur e (0,0))) e size ⟨some ⟨g,0,none⟩,s.n+x.n,c⟩ (xs++eD)->K ⟨some ⟨g,0,none⟩,s.n+x.n,c⟩ (u.ins g (.cells cur e (0,0)))):
  c4 P (dW #[t,t] fb #[.slice s.a s.n s.c,.slice x.a x.n x.c]) [.one .slice] u K:=by
 obtain⟨ht,i,Y,hi,aB,oY,wP,yL,_⟩:=tz aR
 subst oY
 subst wP
 refine .one (c:=.slice) λw hw=>?_
 obtain⟨q,aO⟩:=e3.1 CQ
 have ahy:=M.world hw aO
 have hlen:(xs++eD).length=(s.n+x.n)*i.size:=by rw[eC,ag.len,M.len,Dc]
 have fin:∀mA (z:cu ao),(dW #[t,t] fb #[.slice s.a s.n s.c,.slice x.a x.n x.c]).run P w=.ok (.slice (some ⟨w.heap.size,0,none⟩) (s.n+x.n) (grownCap w (s.n+x.n) mA e)) (w.drew.alloc (.cells z e))->
   z=((xs++eD).toArray++vP Y.cells (grownCap w (s.n+x.n) mA e-(s.n+x.n)))->
   ∃am0 w' u',(dW #[t,t] fb #[.slice s.a s.n s.c,.slice x.a x.n x.c]).run P w=.ok (aK.slice.enc am0) w'/\K am0 u'/\Step u [] w u' [] w':=by
  intro mA z O ab
  have gr:=grownCap_ge w (s.n+x.n) mA e
  have cJ:=grownCap_le_maxLen w (s.n+x.n) mA e (by rw[IZ];exact hm)
  rw[IZ] at cJ
  have dI:=alT hw (.cells z e)
  refine⟨⟨some ⟨w.heap.size,0,none⟩,s.n+x.n,grownCap w (s.n+x.n) mA e⟩,_,_,O,aq _ _ _ dI.2 ⟨hlen,.inr ⟨w.heap.size,z,rfl,bf _ _ _,gr,cJ,?_,?_⟩⟩,dI.1⟩
  rw[ab];exact aqy Y.cells yL gr hlen
  rw[ab]
  simp only[Array.toList_append]
  rw[<-hlen]
  exact SZ
 rcases iA with h0|h0
 subst h0
 have avd:xs=[]:=by simpa using ag.len
 subst avd
 simp only[jI] at*
 have O:=run_append_nil (P:=P) w t fb e i Y ht hi aB q x.n x.c eD M.len ahy (by omega) (by omega) (by omega)
 rw[aO]
 rw[aO] at fin
 exact fin 0 _ O (by simp)
 obtain⟨p,ad⟩:=e3.1 h0
 have O:=run_append_grow (P:=P) w t fb e i Y ht hi aB p s.n s.c xs ag.len (ag.world hw ad) q x.n x.c eD M.len ahy Fe (by omega) (growslice_fits Fe Z)
 rw[ad,aO]
 rw[ad,aO] at fin
 exact fin s.c _ O (by simp)
def abz{fb:dC}(aR:j9 P t=some (e,size,bytes,zs))(cY:0<size){x:U}
  (ab:Own u e size s xs) (M:bt u x size eD) (h1:∀y∈eD,y.oneCell'=ak) (hm:s.n+x.n<=9223372036854775807) (Z:(s.n+x.n)*bytes<=140737488355328)
  (aq:∀ap u',Own u' e size ap (xs++eD)->ap.n=s.n+x.n->Kp u u' s ap->(ap=⟨none,0,0⟩↔s=⟨none,0,0⟩/\x.n=0)->K ap u'):
  c4 P (dW #[t,t] fb #[.slice s.a s.n s.c,.slice x.a x.n x.c]) [.one .slice] u K:=by
 obtain⟨ht,i,Y,hi,aB,oY,wP,yL,_⟩:=tz aR
 have atJ:s.n<=s.c:=ab.cC.cap
 by_cases vw:x.n=0
 have Zu:eD=[]:=by simpa[vw] using M.len
 subst Zu
 refine .C3 (c:=.slice) s (λw hw=>?_) (aq s u (by simpa using ab) (by omega) ⟨λ_ _ h _=>h,.inl rfl⟩ (by simp[vw]))
 have ar:∀(y:ba),(loadCells y 0).run P w=.ok #[] w:=λy=>by simpa using run_loadCells_list (P:=P) w y [] (by simp)
 rw[vw]
 cases tY:s.a<;>cases CO:x.a<;>simp[dW,iq ht,sizeOf,typeInfo,hi,Builtin.lenOf,Builtin.firstCells,atJ,aK.enc,tY,ar,storeCells]
 have CQ:x.a≠none:=by intro h;rcases M.at' with bL|⟨p,ad,_⟩;have:=M.len;rw[bL] at this;simp only[nT] at this;rcases S2.1 this.symm with h|h<;>omega;rw[h] at ad;cases ad
 by_cases Fe:s.n+x.n<=s.c
 rcases ab.is with h0|⟨g,cur,aE,W,ae,I,ag,ua⟩
 exfalso;subst h0;simp only[jI] at Fe;omega
 obtain⟨q,aO⟩:=e3.1 CQ
 refine .one (c:=.slice) λw hw=>?_
 have XJ:s.n*i.size+eD.length<=cur.size:=by rw[M.len,ag,oY,<-Dc];exact r2 _ Fe
 have O:=run_append_room (P:=P) w t fb e i ht hi g s.n s.c cur (hw _ _ W) q x.n x.c eD (by rw[oY];exact M.len) (M.world hw aO) h1 Fe XJ
 rw[aE,aO,O]
 refine⟨⟨some ⟨g,0,none⟩,s.n+x.n,s.c⟩,_,_,rfl,aq _ _ ⟨by rw[eC,ab.len,M.len,Dc],.inr ⟨g,_,rfl,bf _ _ _,Fe,I,?_,?_⟩⟩ rfl
  ⟨λb z e Z=>?_,.inl (by simp[U.aj,aE])⟩ ⟨λh=>by simp at h,λh=>a6 h.2 vw⟩,alU hw W _⟩
 simp only[vQ,eC,gL,nV,ru]
 omega
 rw[oY,ua]
 have:(xs++eD).length=(s.n+x.n)*size:=by rw[eC,ab.len,M.len,Dc]
 simp only[<-this]
 exact SZ
 rw[bm u _ (λh=>Z (by simp[U.aj,aE,h]))];exact e
 have iA:s=⟨none,0,0⟩∨s.a≠none:=by rcases ab.is with h|⟨g,cur,aE,_⟩;exact .inl h;exact .inr (by rw[aE];simp)
 refine abA aR ab.cC M (by omega) iA CQ hm Z λg c cur W pH=>aq _ _ pH rfl ⟨λb z e _=>?_,.inr ⟨g,rfl,W⟩⟩ ⟨λh=>by simp at h,λh=>a6 h.2 vw⟩
 rw[bm u _ (λh=>by rw[h,W] at e;cases e)]
 exact e
def kp(P:dR)(t n:N)(c3:cu (N×ao)):ay (dC×J ao):=
 match j9 P t with
 |some (e,size,_,zs)=>match vM (n*size) 16777216,vM 1 size,
   Instr.fill (λi=>some (i*size,size)) ((Array.range (n*size)).map (zs.toArray[· %zs.toArray.size]!)) c3.toList with
  |true,ak,some cells=>some (e,cells.toList)
  |_,_,_=>none
 |none=>none
def l8{t n e:N}{c3:cu (N×ao)}{cells:J ao}(h:kp P t n c3=some (e,cells))
  (aq:∀g,u g=none->K ⟨some ⟨g,0,none⟩,n,n⟩ (u.ins g (.cells cells.toArray e (0,0)))):c4 P (dA t n c3) [.one .slice] u K:=by
 unfold kp at h
 split at h
 rename_i gq size bytes zs aR
 obtain⟨ht,i,Y,hi,aB,oY,wP,yL,CR⟩:=tz aR
 subst oY
 split at h
 rename_i cs hle oW ac
 cases h
 have hle:=F8 hle
 have oW:=F8 oW
 refine .one (c:=.slice) λw hw=>?_
 refine⟨⟨some ⟨w.heap.size,0,none⟩,n,n⟩,w.alloc (.cells cs e (0,0)),_,?_,aq w.heap.size (hw.none (cg _)),by simpa using Step.AV hw (.cells cs e (0,0))⟩
 have ZB:zs.toArray=Y.cells:=by rw[<-CR]
 rw[ZB] at ac
 have ae:¬(16777216<n*i.size):=by omega
 by_cases eT:n=0
 subst eT
 simp only[Dd,Array.range_zero',Array.map_empty] at ac
 simp[dA,iq ht,sizeOf,typeInfo,hi,Array.range_zero',ac,newRow,aK.enc]
 have ad:¬(n*i.size=0):=by intro h;rcases S2.1 h with h|h<;>omega
 simp[dA,iq ht,sizeOf,typeInfo,hi,ae,ad,zeroValue,aB,ac,newRow,aK.enc]
 cases h
 cases h
def GB(aR:j9 P t=some (e,size,bytes,zs)){l c:o}(h0:0<=l)(atg:l<=c)(Z:(bytes:o)*c<=281474976710656)(QW:c<=9223372036854775807)
  {u:H} {K:U->H->Prop}
  (aq:∀g,u g=none->K ⟨some ⟨g,0,none⟩,l.toNat,c.toNat⟩ (u.ins g (.cells (lO zs.toArray (c.toNat*size)) e (0,0)))):
  c4 P (pP t (.int .i64 l) (.int .i64 c)) [.one .slice] u K:=by
 obtain⟨ht,i,Y,hi,aB,oY,wP,yL,CR⟩:=tz aR
 refine .one (c:=.slice) λw hw=>?_
 have O:=run_make (P:=P) w t e i Y ht hi aB .i64 .i64 l c h0 atg (by rw[wP];exact Z) QW
 have ZB:zs.toArray=Y.cells:=by rw[<-CR]
 rw[oY,<-ZB] at O
 exact⟨⟨some ⟨w.heap.size,0,none⟩,l.toNat,c.toNat⟩,_,_,O,aq _ (hw.none (cg _)),Step.AV hw _⟩
def ayd(aR:j9 P t=some (e,size,bytes,zs))(w:b6):P.underlying t=some (.slice (P.elem t))/\(sizeOf (P.elem t)).run P w=.ok size w:=by
 obtain⟨ht,i,Y,hi,aB,oY,wP,yL,CR⟩:=tz aR;have he:P.elem t=e:=by simp[Program.elem,ht]
 rw[he];exact⟨ht,by simp[sizeOf,typeInfo,hi,oY]⟩
def U.part(s:U)(l h m size:N):U:=⟨if m=l then s.a else s.a.map (·.add (l*size)),h-l,m-l⟩
def lj(aR:j9 P t=some (e,size,bytes,zs)){bJ hi ND:ay ao}{l h m:N}
  (yC:bJ=none/\l=0∨bJ=some (.int .i64 l)) (ER:hi=none/\h=s.n∨hi=some (.int .i64 h)) (yD:ND=none/\m=s.c∨ND=some (.int .i64 m)/\hi≠none)
  (h1:l<=h) (h2:h<=m) (h3:m<=s.c) (a7:s.n<=s.c) (aq:K (s.part l h m size) u):
  c4 P (fR t (.slice s.a s.n s.c) bJ hi ND) [.one .slice] u K:=by
 refine .C3 (c:=.slice) (s.part l h m size) (λw _=>?_) aq
 obtain⟨ht,ag⟩:=ayd aR w
 rw[run_sliceAt_slice (w:=w) (h:=ht)]
 rcases yC with⟨rfl,rfl⟩|rfl<;>rcases ER with⟨rfl,rfl⟩|rfl<;>rcases yD with⟨rfl,rfl⟩|⟨rfl,hm⟩
 rw[run_slice_all (w:=w) (ht:=ht),ag];rfl
 exact a6 rfl hm
 rw[run_slice_h (w:=w) (ht:=ht) (h0:=by omega) (h2:=by omega),ag];simp[jy,sliced,U.part,aK.enc]
 rw[run_slice_hm (w:=w) (ht:=ht) (h0:=by omega) (h2:=by omega) (h3:=by omega),ag];simp[jy,sliced,U.part,aK.enc]
 rw[run_slice_l (w:=w) (ht:=ht) (h0:=by omega) (h1:=by omega),ag];simp[jy,sliced,U.part,aK.enc]
 exact a6 rfl hm
 rw[run_slice_lh (w:=w) (ht:=ht) (h0:=by omega) (h1:=by omega) (h2:=by omega),ag];simp[jy,sliced,U.part,aK.enc]
 rw[run_slice_lhm (w:=w) (ht:=ht) (h0:=by omega) (h1:=by omega) (h2:=by omega) (h3:=by omega),ag];simp[jy,sliced,U.part,aK.enc]
def Addr.zL(a:ba)(i j:N):(a.add i).add j=a.add (i+j):=Addr.add_add a i j
def bt.part(ag:bt u s size xs){l h m:N}(h1:l<=h)(h2:h<=s.n)(h3:h<=m)(a7:m<=s.c):
  bt u (s.part l h m size) size ((xs.drop (l*size)).take ((h-l)*size)):=by
 have ar:=ag.len
 have hle:h*size<=s.n*size:=r2 _ h2
 have vm:l*size<=h*size:=r2 _ h1
 have gH:(h-l)*size=h*size-l*size:=Nat.sub_mul _ _ _
 refine⟨?_,?_,?_,?_⟩
 simp only[gL,nV,U.part];omega
 simp only[U.part];omega
 simp only[U.part];have:=ag.max;omega
 rcases ag.at' with h0|⟨p,ad,I⟩
 subst h0;exact .inl (by simp)
 by_cases pG:m=l
 refine .inl ?_
 have:h=l:=by omega
 simp[this]
 refine .inr ⟨p.add (l*size),by simp[U.part,pG,ad],λi v e=>?_⟩
 rw[Addr.zL]
 refine I _ _ ?_
 rw[F7] at e
 split at e
 simpa[uB] using e
 cases e
section
variable {α:Type} {enc:α->J ao} {k:N}
def od(hk:∀x,(enc x).length=k)(xs:J α):(xs.flatMap enc).length=xs.length*k:=by
 induction xs with
 |nil=>simp|cons x xs aL=>rw[gB,eC,aL,hk,h5,xG];omega
def Hu(hk:∀x,(enc x).length=k):∀(xs:J α) (i j:N),j<k->(xs.flatMap enc)[i*k+j]?=(xs[i]?).bind λx=>(enc x)[j]?:=by
 intro xs;induction xs with
 |nil=>intro i j _;simp
 |cons x xs aL=>
  intro i j aM;rw[gB];cases i with
  |zero=>rw[Dd,jI,qy (by rw[hk];exact aM)];simp|succ i=>
   rw[C9 (by rw[hk,xG];omega),hk];have:(i+1)*k+j-k=i*k+j:=by rw[xG];omega
   rw[this,aL i j aM];simp
def aff(hk:∀x,(enc x).length=k):∀(xs:J α) (i:N) (y:α),i<xs.length->
  (xs.set i y).flatMap enc=(xs.flatMap enc).take (i*k)++enc y++(xs.flatMap enc).drop (i*k+k):=by
 intro xs
 induction xs with
 |nil=>intro i y h;simp at h
 |cons x xs aL=>
  intro i y h;cases i with
  |zero=>rw[Dd,jI,A8,gB,gB,N2,lu,aaM (by rw[hk];exact cg _)];have:(enc x).drop k=[]:=ry (by rw[hk];exact cg _);rw[this,lu]|succ i=>
   rw[Jj,gB,gB,aL i y (by simpa using h)];have h1:(i+1)*k=(enc x).length+i*k:=by rw[hk,xG];omega
   have h3:∀r:J ao,(enc x++r).take ((enc x).length+i*k)=enc x++r.take (i*k):=λr=>by rw[aaQ,ho (by omega),Nat.add_sub_cancel_left]
   have a7:∀r:J ao,(enc x++r).drop ((enc x).length+(i*k+k))=r.drop (i*k+k):=λr=>by rw[List.drop_append,ry (by omega),lu,Nat.add_sub_cancel_left]
   rw[h1,Nat.add_assoc,h3,a7];simp only[nf]
def yi(hk:∀x,(enc x).length=k)(xs:J α)(n:N):(xs.flatMap enc).take (n*k)=(xs.take n).flatMap enc:=by
 induction xs generalizing n with
 |nil=>simp|cons x xs aL=>
  cases n with
  |zero=>simp|succ n=>
   rw[gB,A2,gB,aaQ,ho (by rw[hk,xG];omega),hk];have:(n+1)*k-k=n*k:=by rw[xG];omega
   rw[this,aL]
def QJ(hk:∀x,(enc x).length=k)(xs:J α)(n:N):(xs.flatMap enc).drop (n*k)=(xs.drop n).flatMap enc:=by
 induction xs generalizing n with
 |nil=>simp|cons x xs aL=>
  cases n with
  |zero=>simp|succ n=>
   rw[gB,S1,List.drop_append,ry (by rw[hk,xG];omega),lu,hk];have:(n+1)*k-k=n*k:=by rw[xG];omega
   rw[this,aL]
def gY{xs:J α}(hk:∀x,(enc x).length=k)(q3:0<k)(h:bt u s k (xs.flatMap enc)):s.n=xs.length:=by have:=h.len;rw[od hk] at this;exact(Nat.eq_of_mul_eq_mul_right q3 this).symm
def bt.elem{xs:J α}(hk:∀x,(enc x).length=k)(q3:0<k)(h:bt u s k (xs.flatMap enc)){x:α}(hi:xs[i]?=some x):
  ∃p,s.a=some p/\∀j v,(enc x)[j]?=some v->u.cell? ((p.add (i*k)).add j)=some v:=by
 have ar:i<xs.length:=(ir.1 hi).1
 have h0:i*k+0<(xs.flatMap enc).length:=by
  rw[od hk]
  calc i*k+0<i*k+k:=by omega
   _=(i+1)*k:=by rw[xG]
   _<=xs.length*k:=r2 _ ar
 obtain⟨p,ad,I⟩:=h.get h0
 refine⟨p,ad,λj v aA=>?_⟩
 rw[Addr.zL]
 refine I _ _ ?_
 have aM:j<k:=by rw[<-hk x];exact(ir.1 aA).1
 rw[Hu hk xs i j aM,hi]
 exact aA
structure aD(ai u:H)(e k:N)(s:U)(xs:J ao):Prop where
 own:Own u e k s xs
 le:ai.le u
 fresh:∀g,s.aj=some g->ai g=none
def aD.nil(h:ai.le u)(e k:N):aD ai u e k ⟨none,0,0⟩ []:=⟨.nil u e k,h,λg W=>by simp[U.aj] at W⟩
def aD.mono{e:N}(h:aD ai u e k s xs)(hu:u.le u'):aD ai u' e k s xs:=
 ⟨h.own.le λ_ _ _ Z=>hu _ _ Z,h.le.trans hu,h.fresh⟩
def aD.weaken{aS:H}{e:N}(h:aD aS u e k s xs)(h0:ai.le aS):aD ai u e k s xs:=
 ⟨h.own,h0.trans h.le,λg W=>by
  cases M:ai g with
  |none=>rfl|some z=>have:=h.fresh g W;rw[h0 _ _ M] at this;cases this⟩
def gN(u u':H)(s:U):Prop:=∀b z,u b=some z->s.aj≠some b->u' b=some z
def gN.refl(u:H)(s:U):gN u u s:=λ_ _ h _=>h
def aD.else{gq dQ:N}{t:U}(h:aD ai u gq dQ t xs)(he:gN u u' s)(ag:∀g,s.aj=some g->ai g=none)(al:∀g,s.aj=some g->t.aj≠some g):aD ai u' gq dQ t xs:=
 ⟨h.own.le λb z Z hu=>he b z hu λW=>al b W Z,λb z Z=>he b z (h.le b z Z) λW=>(by rw[ag b W] at Z;cases Z),h.fresh⟩
def aD.make(h:ai.le u)(W:u g=none){cells:cu ao}{e n:N}(ae:n<=9223372036854775807)(ag:cells.size=n*k):
  aD ai (u.ins g (.cells cells e (0,0))) e k ⟨some ⟨g,0,none⟩,n,n⟩ cells.toList:=by
 refine⟨⟨by simp[ag],.inr ⟨g,cells,rfl,bf _ _ _,cg _,ae,ag,?_⟩⟩,h.trans (bW _ W),λbX cb=>?_⟩
 rw[ho (by simp[ag])]
 simp[U.aj] at cb
 subst cb
 cases M:ai g with
 |none=>rfl
 |some z=>rw[h _ _ M] at W;cases W
def GX(c:cu ao)(z:N)(vs:J ao)(h:z+vs.length<=c.size):(wr c z vs).toList=c.toList.take z++vs++c.toList.drop (z+vs.length):=by have:=amP vs c.toList z (by simpa using h);rw[Array.toArray_toList] at this;rw[this];rfl
def aD.store{e:N}{xs:J α}(hk:∀x,(enc x).length=k)(h:aD ai u e k s (xs.flatMap enc))(q3:0<k)(hi:i<xs.length){y:α}(h1:∀v∈enc y,v.oneCell'=ak)
  {p:ba} (ad:s.a=some p) {f:H->Prop} (ac:∀u',aD ai u' e k s ((xs.set i y).flatMap enc)->gN u u' s->(∀b,u b=none->u' b=none)->f u'):H.aN u (p.add (i*k)) (enc y) f:=by
 rcases h.own.is with h0|⟨g,cur,aE,W,ae,I,ag,ht⟩
 rw[h0] at ad;cases ad
 .rw[aE] at ad;cases ad;have Xr:(⟨g,0,none⟩:ba).add (i*k)=⟨g,i*k,none⟩:=by rw[iC,jI]
  have dw:=gY hk q3 h.own.cC;have hle:i*k+k<=s.n*k:=by
   calc i*k+k=(i+1)*k:=by rw[xG]
    _<=s.n*k:=r2 _ (by omega)
  have w1:s.n*k<=s.c*k:=r2 _ ae;rw[Xr];have cY:i*k+(enc y).length<=cur.size:=by rw[hk,ag];omega
  refine⟨cur,e,W,rfl,cY,h1,ac _ ?_ ?_ ?_⟩;refine⟨⟨by rw[od hk,qz,dw],.inr ⟨g,_,aE,bf _ _ _,ae,I,?_,?_⟩⟩,?_,h.fresh⟩;rw[<-ru,GX _ _ _ cY];simp only[eC,gL,nV,ru];omega;rw[GX _ _ _ cY,aff hk xs i y hi,<-ht,hk];have gi:(cur.toList.take (i*k)++enc y).length=i*k+k:=by simp only[eC,gL,ru,hk];omega
  rw[aaQ,ho (by omega),gi];congr 1;congr 1;rw[Ga,A9 (by omega)];rw[<-List.drop_take];exact λb z Z=>by
    have:b≠g:=λlV=>by have:=h.fresh g (by simp[U.aj,aE]);rw[lV,this] at Z;cases Z
    rw[bm _ _ this];exact h.le b z Z
  intro b z Z al;rw[bm _ _ (λlV=>al (by simp[U.aj,aE,lV]))];exact Z;intro b Z;rw[bm _ _ (λlV=>by rw[lV,W] at Z;cases Z)];exact Z
end
def c4.OK{m:Sem ao}{fA:U->H->Prop}(h:c4 P m [.one .slice] u K)(hk:∀s u',K s u'->fA s u'):c4 P m [.one .slice] u fA:=by
 intro w hw;obtain⟨v,w',u',h1,⟨vs,h2,h3,a7⟩,bE⟩:=h w hw;refine⟨v,w',u',h1,⟨vs,h2,h3,?_⟩,bE⟩;cases h2 with
 |cons x O=>cases O;exact(aK.uT .slice x _).2 (hk _ _ ((aK.uT .slice x _).1 a7))
def zl{c3:cu (N×ao)}(aR:j9 P t=some (e,size,bytes,zs))(eg:kp P t 1 c3=some (e,eD))(cY:0<size)
  (ah:eD.length=size) (h1:∀y∈eD,y.oneCell'=ak) {ai u:H} {s:U} {xs:J ao} (h:aD ai u e size s xs) (hm:s.n<9223372036854775807) (Z:(s.n+1)*bytes<=140737488355328) {K:U->H->Prop}
  (aq:∀ap u',aD ai u' e size ap (xs++eD)->ap.n=s.n+1->gN u u' s->(∀g,ap.aj=some g->s.aj=some g∨u g=none)->ap.a≠none->K ap u'):
  c4 P (dA t 1 c3) [.one .slice] u λs1 aS=>u.le aS/\c4 P (dW #[t,t] t #[.slice s.a s.n s.c,.slice s1.a s1.n s1.c]) [.one .slice] aS K:=by
 refine l8 eg λg W=>⟨bW _ W,?_⟩
 have M:bt (u.ins g (.cells eD.toArray e (0,0))) ⟨some ⟨g,0,none⟩,1,1⟩ size eD:=by have:=(aD.make (k:=size) (H.le.refl u) W (cells:=eD.toArray) (e:=e) (n:=1) (by omega) (by simp[ah])).own.cC;simpa using this
 have bL:=h.mono (bW (u:=u) (b:=g) (.cells eD.toArray e (0,0)) W)
 refine abz aR cY bL.own M h1 (by simp only;omega) (by simpa using Z) λap u' ab ae lW Am=>aq ap u' ⟨ab,lW.le bL.le h.fresh,λbX cb=>lW.out bL.le h.fresh bX cb⟩ (by simpa using ae) ?_ ?_ ?_
 intro b z Z al
 exact lW.rest b z (bW _ W _ _ Z) al
 intro bX cb
 rcases lW.aj with Z|⟨g2,Z,fp⟩
 exact .inl (by rw[<-Z];exact cb)
 rw[Z] at cb;cases cb
 refine .inr ?_
 cases M:u bX with
 |none=>rfl
 |some z=>rw[bW _ W _ _ M] at fp;cases fp
 intro atQ
 rcases ab.is with h0|⟨g2,_,aE,_⟩
 have:=(Am.1 h0).2
 simp at this
 rw[atQ] at aE;cases aE
def np{c3:cu (N×ao)}(aR:j9 P t=some (e,size,bytes,zs))(eg:kp P t 1 c3=some (e,eD))(cY:0<size)
  (ah:eD.length=size) (h1:∀y∈eD,y.oneCell'=ak) {ai u:H} {s:U} {xs:J ao} (h:aD ai u e size s xs) (hm:s.n<9223372036854775807) (Z:(s.n+1)*bytes<=140737488355328) {K:U->H->Prop}
  (aq:∀ap u',aD ai u' e size ap (xs++eD)->ap.n=s.n+1->gN u u' s->(∀g,ap.aj=some g->s.aj=some g∨u g=none)->ap.a≠none->K ap u'):
  c4 P (dA t 1 c3) [.one .slice] u λs1 aS=>c4 P (dW #[t,t] t #[.slice s.a s.n s.c,.slice s1.a s1.n s1.c]) [.one .slice] aS K:=by
 exact c4.OK (zl aR eg cY ah h1 h hm Z aq) λ_ _ h=>h.2
def tr(u:H)(b:N)(l:J o):Prop:=∃es clock,u b=some (.map es clock)/\es.toList.map (λe=>(e.key,e.val))=l.map λx=>(cG .i64 x,l3 ak)
def tr.mono(h:tr u b l)(hu:u.le u'):tr u' b l:=by obtain⟨es,c,h1,h2⟩:=h;exact⟨es,c,hu _ _ h1,h2⟩
def aqh(x:o):∀(es:J y8) (l:J o) (i:N),es.map (λe=>(e.key,e.val))=l.map (λx=>(cG .i64 x,l3 ak))->
  (x∈l->∃j,Gb (.int .i64) (.int .i64 x) es i=some (some (j,.bool ak)))/\(x∉l->Gb (.int .i64) (.int .i64 x) es i=some none):=by
 intro es
 induction es with
 |nil=>
  intro l i h;have:l=[]:=by simpa using h.symm
  subst this;exact⟨λh=>(by cases h),λ_=>rfl⟩
 |cons e es aL=>
  intro l i h;cases l with
  |nil=>simp at h|cons y l=>
   simp only[gl,y9,Gc] at h;obtain⟨⟨hk,aA⟩,O⟩:=h;obtain⟨i1,i2⟩:=aL l (i+1) O;unfold Gb;rw[hk,aA];simp only[Instr.sameNow,qx];by_cases iV:x=y;subst iV;simp;have Z:(x==y)=ax:=by simpa using iV
   rw[Z];refine⟨λhm=>?_,λhm=>?_⟩;rcases cE.1 hm with h|h;exact a6 h iV;exact i1 h;exact i2 λh=>hm (gd _ h)
def abD{K:ay N->H->Prop}(aq:∀b,u b=none->tr (u.ins b (.map #[] 0)) b []->K (some b) (u.ins b (.map #[] 0))):
  c4 P (pO t none) [.one .map] u K:=
 .one (c:=.map) λw hw=>⟨some w.heap.size,_,_,Go.RowKit.run_makeMap t w,aq _ (hw.none (cg _)) ⟨#[],0,bf _ _ _,rfl⟩,Step.AV hw _⟩
structure DY(P:dR)(t k e:dC):Prop where
 fb:P.underlying t=some (.map k e)
 key:P.underlying k=some (.int .i64)
 zero:∀w,(zeroValue e).run P w=.ok (.bool ax) w
def DY.find(T:DY P t k e){es:cu y8}(h:es.toList.map (λe=>(e.key,e.val))=l.map λx=>(cG .i64 x,l3 ak))(x:o)(w:b6):
  (x∈l->∃j,(Ba k (.int .i64 x) es.toList).run P w=.ok (some (j,.bool ak)) w)/\(x∉l->(Ba k (.int .i64 x) es.toList).run P w=.ok none w):=by
 obtain⟨h1,h2⟩:=aqh x es.toList l 0 h
 constructor
 intro M
 obtain⟨j,aM⟩:=h1 M
 exact⟨j,by simp[Ba,eS,iq T.key,jy,aM]⟩
 intro M
 simp[Ba,eS,iq T.key,jy,h2 M]
def DY.check(T:DY P t k e)(b:aI)(x:o)(w:b6):(Gd b 10000 k (.int .i64 x)).run P w=.ok () w:=by show(Gd b (9999+1) k (.int .i64 x)).run P w=.ok () w;unfold Gd;simp[eS,iq T.key,jy]
def abC(T:DY P t k e)(h:tr u b l){K:aI->H->Prop}(aq:K (decide (x∈l)) u):
  c4 P (gK t (.map (some b)) (.int .i64 x) ax) [.one .bool] u K:=by
 obtain⟨es,c,Z,ar⟩:=h
 refine .C3 (c:=.bool) (decide (x∈l)) (λw hw=>?_) aq
 have W:=za (P:=P) (hw _ _ Z)
 have ac:=T.find ar x w
 have I:=T.check es.isEmpty x w
 by_cases M:x∈l
 obtain⟨j,aM⟩:=ac.1 M
 simp[gK,eS,iq T.fb,W,I,aM,jy,M,aK.enc]
 have aM:=ac.2 M
 simp[gK,eS,iq T.fb,W,I,aM,jy,M,aK.enc,T.zero]
def step_block(hw:Sub u w){z:Obj}(W:u g=some z)(b5:Obj):Step u [] w (u.ins g b5) [] {w with heap:=w.heap.setIfInBounds g b5}:=by
 have bC:=hw.lt W;refine⟨λb x h=>?_,rfl,rfl,rfl,cg _,by simp,λb _ Z _=>?_,λb _ Z=>?_,[],by simp,by simp⟩;unfold H.ins at h;split at h;rename_i lV;subst lV;cases h;simp[bC];rename_i lV;show(w.heap.setIfInBounds g b5)[b]?=some x;rw[Ge (dv lV)];exact hw b x h;have:g≠b:=λh=>by rw[<-h,W] at Z;cases Z
 show(w.heap.setIfInBounds g b5)[b]?=w.heap[b]?;rw[Ge this];have:b≠g:=λh=>by rw[h,W] at Z;cases Z
 rw[bm u _ this];exact Z
def TG(T:DY P t k e)(h:tr u b l)(M:x∉l){K:H->Prop}
  (aq:∀u',tr u' b (l++ [x])->(∀g z,u g=some z->g≠b->u' g=some z)->(∀g,u g=none->u' g=none)->K u'):
  c4 P (unit (kV t (.map (some b)) (.int .i64 x) (.bool ak))) [] u K:=by
 obtain⟨es,c,Z,ar⟩:=h
 intro w hw
 have W:=za (P:=P) (hw _ _ Z)
 have aM:=(T.find ar x w).2 M
 have I:=T.check ax x w
 have jG:=Jp (P:=P) (.map (es.push {key:=.int .i64 x,val:=.bool ak,born:=c}) (c+1)) (hw _ _ Z)
 refine⟨_,_,u.ins b (.map (es.push {key:=.int .i64 x,val:=.bool ak,born:=c}) (c+1)),?_,⟨[],.nil,rfl,aq _ ⟨_,_,bf _ _ _,?_⟩ ?_ ?_⟩,step_block hw Z _⟩
 simp[unit,kV,eS,iq T.fb,W,I,aM,jy,jG]
 rfl
 simp[ar]
 intro g z q0 al;rw[bm _ _ al];exact q0
 intro g q0;rw[bm _ _ (λh=>by rw[h,Z] at q0;cases q0)];exact q0
end
