/- Texts of mine, joined and packed by pack.py. -/
import Derived.Test.YtejdhbfjjgcljaaGreatDoorMrb1
import Derived.Scope
import Derived.RangeFuncLeaves
import Derived.RangeFuncRecord
import Derived.Test.YtejdhbfjjgcljaaGreatDoorProg
import Derived.Laws.StructEq
import Derived.ChangeKeysEq
import Derived.KernelRfl
import Derived.Laws.MathBits
import Derived.Laws.Externs
import Derived.IntWalk
import Derived.DataElems
import Derived.Laws.AppendOwn
import Derived.Laws.MakeOwn
import Derived.Laws.Slices
import Derived.Laws.CopyRow
import Derived.MapKept
import Derived.ChangeMaps5
import Derived.Carry
set_option linter.all false
open Go renaming Program->dT,Value->ao,World->cg,TypeId->dF,FuncId->jQ,Addr->bc,Operand->jR,Act->eo,undef->ic,Oper->eN,Exit->kR,Code->jg,madeCells->oC,MapEntry->zN
open _root_ renaming Nat->N,List->M,Option->aA,Array->cv,Int->o,Bool->aD,False->ed,absurd->aV
open Go.World renaming cell?->JM
open Bool renaming true->ak,false->ax
open Nat renaming beq->jB,blt->x0,ble->wo
open Go.IntKind renaming i64->bY,u64->bo
open Go.Fence renaming wide->u2
open Go.Instr renaming lookup->gz,mapUpdate->kh,makeMap->pE,makeSlice->rX,sliceAt->hP,buildSlice->dI,findNow->GO,findKey->BS,checkKey->GQ
open Go.Builtin renaming append_->ee,zeroCells->wv
open Go.Result renaming ok->x1,andThen->jf
open Go.Op renaming equalIn->x5,eqFields->ab8
open Array renaming replicate->DL
open Go.Exit renaming noConfusion->r1
open Go.Proofs.Tryz renaming prog->aH
open Go.Value renaming agg->cD,bool->hl,map->dH,int->cJ
set_option maxRecDepth 100000
noncomputable section
namespace Go.Proofs.YtejdhbfjjgcljaaGreatDoor
open H
def x8:=@Go.Code.wp_mono
def OV:=@Go.wpIn_wide
def GM:=@Go.World.putObj_heap_same
def mu:=@Go.World.putObj_heap_other
def ir:=@Go.run_underlying
def iP:=@Go.Addr.add_lit
def x9:=@Go.MapKept.run_getObj_map
def J1:=@Go.MapKept.run_setObj_map
section
variable{vs args:M ao}{ds bs db:M N}{u:H}{w':cg}{ss:M bf}{C:lg}{f:jQ}{l:M (N×aE)}{p:N×fU}{au:aO}
structure qu where
 D6:M (N×aE)
 boxes:M (N×M aE)
def qu.pL(a:qu):M aE:=a.D6.map (·.2)++a.boxes.flatMap (·.2)
def Q1:M (N×qu)->N->aA qu
 | [],_=>none|(i,x)::r,j=>match jB i j with
  |true=>some x|false=>Q1 r j
def fI:jg->M N
 | .seq a b=>fI a++fI b| .cond _ a b=>fI a++fI b| .block _ b=>fI b| .loop b=>fI b| .scope b=>fI b| .region _ ops _=>ops.toList.filterMap λz=>z.dst|_=>[]
def Hb(s:aO):M (N×aE)->aA (M ao)
 | []=>some []|(d,_)::r=>match(look s.env d).bind fU.val,Hb s r with
  |some v,some vs=>some (v::vs)|_,_=>none
def Q9(s:aO):M (N×M aE)->aA (M ao)
 | []=>some []|(i,cr)::r=>match s.loc[i]?,Q9 s r with
  |some cs,some vs=>match jB cs.length cr.length with
   |true=>some (cs++vs)|false=>none
  |_,_=>none
def Hr(s:aO)(aX:qu):aA (M ao):=
 match s.EL with
 |none=>match Hb s aX.D6,Q9 s aX.boxes with
  |some a,some b=>some (a++b)|_,_=>none
 |some _=>none
def H3:M (N×fU)->M (N×ao)
 | []=>[]|(d,x)::r=>match x.val with
  |some v=>(d,v)::H3 r|none=>H3 r
def DZ:jg->aA jg
 | .rangeFunc g p x y=>some (.rangeFunc g p x y)| .seq a b=>match DZ a with
  |some c=>some c|none=>DZ b
 | .cond _ a b=>match DZ a with
  |some c=>some c|none=>DZ b
 | .block _ b=>DZ b| .scope b=>DZ b| .loop b=>DZ b|_=>none
def Kl(c:jg):jg:=(DZ c).getD .skip
def nw(P:dT)(c:jg)(n:N)(env:M (N×ao))(u:H)(K:N->H->Prop):Prop:=
 ∀a w,a.tmps.size=n->(∀p∈env,a.tmps[p.1]?=some p.2)->a.defers=[]->Sub u w->
  c.wp P (λe cT w'=>e=.normal/\cT.tmps=a.tmps/\∃D u',cT.defers=Ly (some D)/\K D u'/\Step u [] w u' [] w') a w
def UY:aE->ao->fU
 | .addr,.pointer (some p)=>.ptr p|_,v=>.v v
def anp(t:aE)(v:ao)(bs:M N):hA bs (UY t v)=some v:=by unfold UY;split<;>rfl
def Ag:M (N×aE)->M ao->M (N×fU)
 |(d,t)::r,v::vs=>(d,UY t v)::Ag r vs|_,_=>[]
def D5:M (M ao)->M (N×M aE)->M ao->M (M ao)
 |loc,[],_=>loc|loc,(i,cr)::r,vs=>D5 (tN loc i (vs.take cr.length)) r (vs.drop cr.length)
def Oh(ds:M N):M (N×fU)->M (N×fU)
 | []=>[]|(d,x)::r=>match gQ ds d with
  |true=>Oh ds r|false=>(d,x)::Oh ds r
def pd(s:aO)(ds:M N)(aX:qu)(vs:M ao):aO:=
 {n:=s.n,env:=Ag aX.D6 vs++Oh ds s.env,loc:=D5 s.loc aX.boxes (vs.drop aX.D6.length)}
def narrow(bC:N->aD)(AA:N)(oN:M (N×M aE))(i:N):aD:=
 match x0 i AA with
 |true=>gQ (oN.map (·.1)) i && bC i|false=>ak
def Cd(s:aO)(c:jR)(x:fU):aO:=
 match c with
 | .tmp t=>s.put (some t) x|_=>s
def hz(C:lg)(il:M (N×qu)):jg->N->(N->aD)->(kR->aO->H->Prop)->aO->H->Prop
 | .skip,_,_,Q,s,u=>Q .normal s u| .label _,_,_,Q,s,u=>Q .normal s u| .ret,_,_,Q,s,u=>Q .ret s u| .exit id,_,_,Q,s,u=>Q (.exit id) s u| .seq x y,p,bC,Q,s,u=>match Q1 il p with
  |none=>hz C il x (2*p) bC (λe au u'=>match e with
   | .normal=>hz C il y (2*p+1) bC Q au u'|e=>Q e au u') s u
  |some aX=>∀K:hy aX.pL (H->Prop),
    Ll aX.pL (λvs=>∀aU,hz C il y (2*p+1) bC Q (pd s (fI x) aX vs) aU->hY aX.pL K vs λr=>r aU)->
    hz C il x (2*p) (narrow bC s.loc.length aX.boxes) (λe au u'=>match e with
     | .normal=>match Hr au aX with
      |some vs=>hY aX.pL K vs λr=>r u'|none=>ed
     |e=>Q e au u') s u
 | .cond c x y,p,bC,Q,s,u=>match s.sv c with
  |some .iD=>hz C il x (2*p) bC Q s u|some .lU=>hz C il y (2*p+1) bC Q s u|some (.dec q _)=>(q->hz C il x (2*p) bC Q (Cd s c .iD) u)/\(¬q->hz C il y (2*p+1) bC Q (Cd s c .lU) u)|some (.uX q _)=>(¬q->hz C il x (2*p) bC Q (Cd s c .iD) u)/\(q->hz C il y (2*p+1) bC Q (Cd s c .lU) u)|some (.v (.bool b))=>(b=ak->hz C il x (2*p) bC Q (Cd s c .iD) u)/\(b=ax->hz C il y (2*p+1) bC Q (Cd s c .lU) u)|_=>ed
 | .block id b,p,bC,Q,s,u=>hz C il b (2*p) bC (λe au u'=>match e with
  | .exit j=>match jB j id with
   |true=>Q .normal au u'|false=>Q (.exit j) au u'
  |e=>Q e au u') s u
 | .scope b,p,bC,Q,s,u=>hz C il b (2*p) bC (λe au u'=>match e with
  | .goto _=>ed|e=>Q e au u') s u
 | .loop b,p,bC,Q,s,u=>match Q1 il p with
  |none=>ed|some aX=>match Hr s aX with
   |none=>ed|some KJ=>∃dt:hy aX.pL (H->Prop),∃μ:hy aX.pL (H->N),(hY aX.pL dt KJ λr=>r u)/\
     Ll aX.pL λvs=>∀aU,(hY aX.pL dt vs λr=>r aU)->
      hz C il b (2*p) (narrow bC s.loc.length aX.boxes) (λe au u'=>match e with
       | .normal=>match Hr au aX with
        |some rc=>hY aX.pL dt rc λr=>hY aX.pL μ rc λm=>hY aX.pL μ vs λm0=>r u'/\m u'<m0 aU|none=>ed
       |e=>Q e au u') (pd s (fI b) aX vs) aU
 | .region _ ops ax,_,bC,Q,s,u=>Ku C bC ops ops.toList s u (Q .normal)| .rangeFunc g c7 x y,_,_,Q,s,u=>match s.EL with
  |none=>nw C.P (.rangeFunc g c7 x y) s.n (H3 s.env) u λD u'=>Q .normal {s with EL:=some D} u'
  |some _=>ed
 | .region _ ops ak,_,bC,Q,s,u=>match Region.noSelect ops with
  |true=>match C.part with
   |false=>AE C bC ops u (ops.size+1) (DL ops.size ax) ak s u (Q .normal)|true=>∃v0:H,v0.le u/\xd C bC ops v0 u (ops.size+1) (DL ops.size ax) ak s u (Q .normal)
  |false=>ed
 |_,_,_,_,_,_=>ed
section
variable {C:lg} {bC:N->aD} {s:aO} {u:H} {bs:M N} {a:eo} {w:cg}
def mI(bC:N->aD)(s:aO)(bs:M N)(u:H)(a:eo)(w:cg)(ds:M N)(Q:kR->aO->H->Prop)(e:kR)(cT:eo)(w':cg):Prop:=
 (∀c,e≠.panic c)/\∃au u' db,Q e au u'/\Fits au db u' cT w'/\Step u bs w u' db w'/\Kept bC s au/\∀d,gQ ds d=ax->cT.tmps[d]?=a.tmps[d]?
def DB(a b:M N)(d:N):gQ (a++b) d=(gQ a d ||gQ b d):=by simp[gQ]
def mI.mono{EM:M N}{Q:kR->aO->H->Prop}{e:kR}{cT:eo}(h:mI bC s bs u a w ds Q e cT w')(ar:∀d,gQ EM d=ax->gQ ds d=ax):
  mI bC s bs u a w EM Q e cT w':=by
 obtain⟨h1,au,u',db,h2,h3,a7,bO,e7⟩:=h
 exact⟨h1,au,u',db,h2,h3,a7,bO,λd h=>e7 d (ar d h)⟩
def mI.next{s1:aO}{aU:H}{aft:M N}{Z:eo}{gk:cg}{Q:kR->aO->H->Prop}{e:kR}{cT:eo}(ag:Step u bs w aU aft gk)(hk:Kept bC s s1)
  (ay:∀d,gQ ds d=ax->Z.tmps[d]?=a.tmps[d]?) (h:mI bC s1 aft aU Z gk ds Q e cT w'):mI bC s bs u a w ds Q e cT w':=by
 obtain⟨h1,au,u',db,h2,h3,a7,bO,e7⟩:=h
 exact⟨h1,au,u',db,h2,h3,ag.trans a7,hk.trans bO,λd h=>(e7 d h).trans (ay d h)⟩
def Step.forget{u':H}{w:cg}(h:Step u bs w u' db w'):Step u bs w u' bs w':=
 ⟨h.sub,h.os,h.tape,h.output,h.drawn,h.size,h.rest,h.jw,[],by simp,by simp⟩
def amj(h:Hb s l=some vs):vs.length=l.length:=by
 induction l generalizing vs with
 |nil=>simp[Hb] at h;subst h;rfl|cons p r aM=>simp only[Hb] at h;split at h;rename_i v rc aB k6;cases h;simp[aM k6];cases h
def aGq{ws:M ao}(h:vs.length=l.length):Ag l (vs++ws)=Ag l vs:=by
 induction l generalizing vs with
 |nil=>
  cases vs with
  |nil=>cases ws<;>rfl
  |cons=>simp at h
 |cons p r aM=>
  cases vs with
  |nil=>simp at h|cons v vs=>simp only[x7,Ag];rw[aM (by simpa using h)]
def aGr(ac:FitsE s bs a)(h:Hb s l=some vs):
  ∀p∈Ag l vs,∃v,hA db p.2=some v/\a.tmps[p.1]?=some v:=by
 induction l generalizing vs with
 |nil=>intro p ad;simp[Ag] at ad
 |cons q r aM=>
  simp only[Hb] at h;split at h;rename_i v rc aB k6;cases h;intro p ad;simp only[Ag] at ad;cases ad with
  |head=>simp only[ab0] at aB;obtain⟨x,J,Oc⟩:=aB;obtain⟨b6,h1,h2⟩:=ac.env _ (Gn J);simp only at h1 h2;rw[fU.Ve Oc bs] at h1;cases h1;exact⟨v,anp _ _ _,h2⟩
  |tail _ ad=>exact aM k6 p ad
  cases h
def axq{l:M (N×fU)}(h:p∈Oh ds l):p∈l/\gQ ds p.1=ax:=by
 induction l with
 |nil=>cases h
 |cons q r aM=>
  obtain⟨d,x⟩:=q;simp only[Oh] at h;split at h;exact⟨.tail _ (aM h).1,(aM h).2⟩;rename_i e;cases h with
  |head=>exact⟨.head _,e⟩|tail _ h=>exact⟨.tail _ (aM h).1,(aM h).2⟩
def Pv:∀(oN:M (N×M aE)) (loc:M (M ao)) (vs:M ao),(D5 loc oN vs).length=loc.length:=by
 intro oN;induction oN with
 |nil=>intro loc vs;rfl
 |cons p r aM=>intro loc vs;simp only[D5];rw[aM,UC]
def ama{AA:N}(aGW:AA<=au.loc.length):∀(oN:M (N×M aE)) (loc:M (M ao)) (vs:M ao),Q9 au oN=some vs->loc.length=AA->
  (∀(i:N) (cs:M ao),loc[i]?=some cs->gQ (oN.map (·.1)) i=ax->au.loc[i]?=some cs)->∀(i:N) (cs:M ao),(D5 loc oN vs)[i]?=some cs->au.loc[i]?=some cs:=by
 intro oN
 induction oN with
 |nil=>intro loc vs _ _ h i cs e;exact h i cs e rfl
 |cons p r aM=>
  obtain⟨j,cr⟩:=p;intro loc vs h ap hk i cs e;simp only[Q9] at h;split at h;rename_i yL rc aN k6;split at h;rename_i hlen;cases h;have au8:=mr hlen;simp only[D5] at e;rw[<-au8,TO,TP] at e;refine aM (tN loc j yL) rc k6 (by rw[UC];exact ap) ?_ i cs e;intro lp Lw aF hm;rw[ac0] at aF;split at aF;rename_i iT;cases aF;rw[<-iT.1];exact aN;rename_i iT;refine hk lp Lw aF ?_;simp only[gR,gQ,List.any_cons,zL];refine⟨?_,hm⟩;cases aa:jB lp j with
  |false=>rfl|true=>
   have:=mr aa;subst this;have bw:lp<loc.length:=by rcases kB lp loc.length with k|k;exact k;rw[iO k] at aF;cases aF
   exact aV ⟨rfl,bw⟩ iT
  cases h;cases h
def Fits.pd{u':H}{cT:eo}{aX:qu}(ac:Fits s bs u a w)(cS:Fits au db u' cT w')(ag:Step u bs w u' db w')
  (hk:Kept (narrow bC s.loc.length aX.boxes) s au) (ay:∀d,gQ ds d=ax->cT.tmps[d]?=a.tmps[d]?) (aB:Hr au aX=some vs):
  Fits (pd s ds aX vs) bs u' cT w':=by
 unfold Hr at aB
 split at aB
 rotate_left
 cases aB
 rename_i R9
 split at aB
 rename_i Ae rb SZ Bp
 cases aB
 have IJ:=amj SZ
 obtain⟨ext,vO,_⟩:=ag.more
 have aC:Ag aX.D6 (Ae++rb)=Ag aX.D6 Ae:=aGq IJ
 have ar:(Ae++rb).drop aX.D6.length=rb:=by rw[<-IJ,TP]
 refine⟨⟨by rw[cS.defers,R9];rfl,by rw[cS.n,hk.n];rfl,?_⟩,?_,?_,ac.nodup,?_,cS.sub⟩
 intro p ad
 simp only[Go.Proofs.YtejdhbfjjgcljaaGreatDoor.pd,aC] at ad
 rcases cM.1 ad with ad|ad
 exact aGr cS.toFitsE SZ p ad
 obtain⟨h1,h2⟩:=axq ad
 obtain⟨v,h3,a7⟩:=ac.env p h1
 exact⟨v,h3,(ay p.1 h2).trans a7⟩
 simp only[Go.Proofs.YtejdhbfjjgcljaaGreatDoor.pd,Pv];exact ac.len
 intro i cs e
 simp only[Go.Proofs.YtejdhbfjjgcljaaGreatDoor.pd,ar] at e
 have bw:i<s.loc.length:=by rcases kB i s.loc.length with k|k;exact k;rw[iO (by rw[Pv];exact k)] at e;cases e
 have h1:=ama hk.len aX.boxes s.loc rb Bp rfl (λj Lw aF hm=>by
  refine hk.same j Lw aF ?_;have MW:j<s.loc.length:=by rcases kB j s.loc.length with k|k;exact k;rw[iO k] at aF;cases aF
  unfold narrow;have:x0 j s.loc.length=ak:=by simpa using MW
  rw[this];simp[hm]) i cs e
 obtain⟨b,T,h2,h3⟩:=cS.loc i cs h1
 refine⟨b,T,?_,h3⟩
 rw[vO,qY (by rw[ac.len];exact bw)] at h2
 exact h2
 intro b aa
 exact cS.cm b (by rw[vO];exact iA _ aa)
 cases aB
def WC{aX:qu}(hk:Kept (narrow bC s.loc.length aX.boxes) s au)(aB:Hr au aX=some vs):
  Kept (narrow bC s.loc.length aX.boxes) s (pd s ds aX vs):=by
 unfold Hr at aB
 split at aB
 rotate_left
 cases aB
 rename_i R9
 split at aB
 rename_i Ae rb SZ Bp
 cases aB
 have IJ:=amj SZ
 have ar:(Ae++rb).drop aX.D6.length=rb:=by rw[<-IJ,TP]
 refine⟨rfl,by simp only[pd,Pv];exact cC _,λi cs e hw=>?_⟩
 simp only[pd,ar]
 have bw:i<s.loc.length:=by rcases kB i s.loc.length with k|k;exact k;rw[iO k] at e;cases e
 have h1:=ama hk.len aX.boxes s.loc rb Bp rfl (λj Lw aF hm=>by
   refine hk.same j Lw aF ?_;have MW:j<s.loc.length:=by rcases kB j s.loc.length with k|k;exact k;rw[iO k] at aF;cases aF
   unfold narrow;have:x0 j s.loc.length=ak:=by simpa using MW
   rw[this];simp[hm]) i
 have h2:=hk.same i cs e hw
 cases h3:(D5 s.loc aX.boxes rb)[i]? with
 |none=>
  have:i<(D5 s.loc aX.boxes rb).length:=by rw[Pv];exact bw
  rw[cy this] at h3;cases h3
 |some x=>have a7:=h1 _ h3;rw[h2] at a7;exact a7.symm
 cases aB
def abz{AA:N}{oN:M (N×M aE)}{s1 s2:aO}(I:s1.loc.length=AA)(k:Kept (narrow bC AA oN) s1 s2):Kept bC s1 s2:=by
 refine⟨k.n,k.len,λi cs e hw=>k.same i cs e ?_⟩;have bw:i<AA:=by rw[<-I];rcases kB i s1.loc.length with h|h;exact h;rw[iO h] at e;cases e
 unfold narrow;have:x0 i AA=ak:=by simpa using bw
 rw[this];simp[hw]
def aGb{P:dT}{c:jg}{Q:kR->eo->cg->Prop}{G:Type}(dt:G->eo->cg->Prop)(μ:G->N)
  (round:∀g a w,dt g a w->c.wp P (Exit.then (λcT w'=>∃b2,dt b2 cT w'/\μ b2<μ g) Q) a w) {a:eo} {w:cg} (g:G) (h:dt g a w):(Code.loop c).wp P Q a w:=by
 intro b k cs
 have key:∀n g a w,μ g=n->dt g a w->
   ∃e cT w',Q e cT w'/\Arrives P (lone (b.at a (.code c:: .inLoop c::k)) cs w) b k cs e cT w':=by
  intro n
  induction n using Nat.strongRecOn with
  |_ n aM=>
   intro g a w ae cx;obtain⟨e,HO,KM,aL,C6⟩:=round g a w cx b (.inLoop c::k) cs;cases e with
   |normal=>obtain⟨agJ,asV,bw⟩:=aL;obtain⟨arK,apz,aGh,av4,atL⟩:=aM (μ agJ) (ae▸bw) agJ HO KM rfl asV;exact⟨arK,apz,aGh,av4,.of_steps (Steps.trans C6 (.one step_inLoop)) atL⟩
   |exit id=>exact⟨_,HO,KM,aL,.pass (x:=.inLoop c) rfl (λ_ _=>.inl (by simp)) C6⟩|goto l=>exact⟨_,HO,KM,aL,.pass (x:=.inLoop c) rfl (λ_ _=>.inl (by simp)) C6⟩|ret=>exact⟨_,HO,KM,aL,.pass (x:=.inLoop c) rfl (λ_ _=>.inl (by simp)) C6⟩|panic HT=>exact⟨_,HO,KM,aL,.pass (x:=.inLoop c) rfl (λ_ _=>.inl (by simp)) C6⟩|outgrown=>exact⟨_,HO,KM,aL,.pass (x:=.inLoop c) rfl (λ_ _=>.inl (by simp)) C6⟩
 obtain⟨e,cT,w',aL,C6⟩:=key _ g a w rfl h
 exact⟨e,cT,w',aL,.of_steps (.one step_loop) C6⟩
def aCU{R:Type}{cr:M aE}{dt:hy cr R}{f g:R->Prop}(h:hY cr dt vs f)(MK:∀r,f r->g r):hY cr dt vs g:=by obtain⟨r,O⟩:=adR dt (KH h);exact(O _).2 (MK _ ((O _).1 h))
def HY{id:N}{ops:cv eN}{br:aD}{z:eN}(ab:z∈ops.toList){d:N}(ar:z.dst=some d):gQ (fI (.region id ops br)) d=ak:=by simp only[fI,gQ,List.any_eq_true];exact⟨d,List.mem_filterMap.2 ⟨z,ab,ar⟩,Nat.beq_refl d⟩
def wM{c:jR}{x:fU}(ac:Fits s bs u a w)(J:hA bs x=some (a.eval c))(ae:∀t,c=.tmp t->(look s.env t).isSome=ak):Fits (Cd s c x) bs u a w/\(Cd s c x).loc=s.loc/\(Cd s c x).n=s.n:=by
 cases c with
 |tmp t=>
  obtain⟨y,ai⟩:=JO.1 (ae t rfl);obtain⟨v,h1,h2⟩:=ac.env _ (Gn ai);simp only at h1 h2;have fw:a.eval (.tmp t)=v:=by simp only[Act.eval];rw[BK,h2];rfl
  rw[fw] at J;have he:=ac.toFitsE.tell (d:=t) J h2;exact⟨ac.told ⟨he,(nb _ _ _).1,(nb _ _ _).2⟩,(nb _ _ _).1,(nb _ _ _).2⟩
 |const v=>exact⟨ac,rfl,rfl⟩|global g=>exact⟨ac,rfl,rfl⟩|func f=>exact⟨ac,rfl,rfl⟩
def ars{s:aO}{a:eo}(ac:FitsE s bs a):∀p∈H3 s.env,a.tmps[p.1]?=some p.2:=by
 have key:∀l:M (N×fU),(∀p∈l,p∈s.env)->∀p∈H3 l,a.tmps[p.1]?=some p.2:=by
  intro l;induction l with
  |nil=>intro _ p ad;cases ad
  |cons q r aM=>
   obtain⟨d,x⟩:=q;intro ap p ad;simp only[H3] at ad;split at ad;rename_i v aB;cases ad with
   |head=>obtain⟨b6,h1,h2⟩:=ac.env _ (ap _ (.head _));simp only at h1 h2;rw[fU.Ve aB bs] at h1;cases h1;exact h2
   |tail _ ad=>exact aM (λp ad=>ap p (.tail _ ad)) p ad
   exact aM (λp ad=>ap p (.tail _ ad)) p ad
 exact key s.env λ_ h=>h
set_option maxHeartbeats 1000000 in
def aqJ(fN:Good C)(il:M (N×qu)):∀(c:jg) (p:N) (bC:N->aD) (Q:kR->aO->H->Prop) (s:aO) (u:H),hz C il c p bC Q s u->
  ∀(bs:M N) (a:eo) (w:cg),Fits s bs u a w->c.wp C.P (mI bC s bs u a w (fI c) Q) a w:=by
 intro c
 have base:∀(e:kR),(∀c,e≠.panic c)->∀(ds:M N) (bC:N->aD) (Q:kR->aO->H->Prop) (s:aO) (u:H) (bs:M N) (a:eo) (w:cg),Q e s u->Fits s bs u a w->
   mI bC s bs u a w ds Q e a w:=λe he ds bC Q s u bs a w h ac=>⟨he,s,u,bs,h,ac,Step.refl ac.sub,Kept.refl _ _,λ_ _=>rfl⟩
 induction c with
 |skip=>intro p bC Q s u h bs a w ac;exact wp_skip (base _ (λ_=>r1) _ _ _ _ _ _ _ _ h ac)
 |label l=>intro p bC Q s u h bs a w ac;exact wp_label (base _ (λ_=>r1) _ _ _ _ _ _ _ _ h ac)
 |ret=>intro p bC Q s u h bs a w ac;exact wp_ret (base _ (λ_=>r1) _ _ _ _ _ _ _ _ h ac)
 |exit id=>intro p bC Q s u h bs a w ac;exact wp_exit (base _ (λ_=>r1) _ _ _ _ _ _ _ _ h ac)
 |goto l=>intro p bC Q s u h;exact h.elim
 |refuse r=>intro p bC Q s u h;exact h.elim
 |rangeFunc f c7 x y=>
  intro p bC Q s u h bs a w ac;simp only[hz] at h;split at h;rename_i ar;have at6:a.defers=[]:=by rw[ac.defers,ar];rfl
  refine x8 ?_ (h a w ac.n (ars ac.toFitsE) at6 ac.sub);rintro e cT w' ⟨rfl,ht,D,u',oo,av,ag⟩;refine⟨λ_=>r1,_,u',bs,av,?_,ag.MR bs,⟨rfl,cC _,λ_ _ h _=>h⟩,λ_ _=>by rw[ht]⟩;have jb:=ac.step ag;exact⟨⟨oo,by rw[ht];exact jb.n,λq aL=>by rw[ht];exact jb.env q aL⟩,jb.len,jb.loc,jb.nodup,jb.cm,jb.sub⟩;exact h.elim
 |region id ops br=>
  intro p bC Q s u h bs a w ac;cases br with
  |false=>simp only[hz] at h;refine OV.1 (wpIn_region_list (al9 fN none (ds:=gQ (fI (.region id ops ax))) ops.toList s u bs a w h ac (.inl rfl) (λz ab d ar=>HY ab ar) ?_));intro au u' db cT w' hk cS ag jl ay;exact⟨λ_=>r1,au,u',db,hk,cS,ag,jl,ay⟩
  |true=>
   simp only[hz] at h;split at h;rename_i oU;have C9:Fits s bs u a {w with drawn:=w.drawn+1}:=⟨ac.toFitsE,ac.len,ac.loc,ac.nodup,ac.cm,ac.sub⟩;have hL:yv ops (DL ops.size ax):=by
    intro j z _ aN;have:(DL ops.size ax).getD j ax=ax:=by rw[BK,Array.getElem?_replicate];split<;>rfl
    rw[this] at aN;cases aN
   have tg:Cu bC s bs u a {w with drawn:=w.drawn+1} (gQ (fI (.region id ops ak))) (Q .normal) (mI bC s bs u a w (fI (.region id ops ak)) Q .normal):=by intro au u' db cT w' hk cS ag jl ay;exact⟨λ_=>r1,au,u',db,hk,cS,(Step.Rm ac.sub (GL _)).trans ag,jl,ay⟩
   split at h;refine wp_region_any fN.mixed (ad6 (nd:=rR ops) (S:=jG s.loc bs u) _ _ _ _ ?_);exact af3 fN (ds:=gQ (fI (.region id ops ak))) (gH:=s.loc) (fV:=bs) oU (λc a w ad=>ad.1 c rfl) (λz ab d ar=>HY ab ar) _ _ _ s u h bs a _ _ C9 hL (by unfold left;simp) (λ_=>⟨H.le.refl u,rfl,rfl⟩) ⟨[],by simp⟩ tg;obtain⟨v0,zc,h⟩:=h;refine wp_region_any fN.mixed (ad7 (R:=pc ops s.loc bs v0 u) _ _ _ _ ?_);exact af2 fN (ds:=gQ (fI (.region id ops ak))) (gH:=s.loc) (fV:=bs) zc oU (λc a w ad=>ad.1 c rfl) (λz ab d ar=>HY ab ar) _ _ _ s u h bs a _ _ C9 hL (by unfold left;simp) (λ_=>⟨H.le.refl u,rfl,rfl⟩) ⟨[],by simp⟩ tg;exact h.elim
 |seq x y Dv Dw=>
  intro p bC Q s u h bs a w ac;have nF:∀d,gQ (fI (.seq x y)) d=ax->gQ (fI x) d=ax:=λd h=>by simp only[fI,DB,zL] at h;exact h.1
  have y8:∀d,gQ (fI (.seq x y)) d=ax->gQ (fI y) d=ax:=λd h=>by simp only[fI,DB,zL] at h;exact h.2
  simp only[hz] at h;split at h;refine wp_seq (x8 ?_ (Dv _ _ _ s u h bs a w ac));intro e cT w' ad;obtain⟨an,au,u',db,aL,cS,ag,hk,ay⟩:=ad;cases e with
  |normal=>refine x8 ?_ (Dw _ _ _ au u' aL db cT w' cS);intro aF a2 ew eJ;exact mI.next ag hk (λd ar=>ay d (nF d ar)) (eJ.mono y8)
  |exit id=>exact⟨an,au,u',db,aL,cS,ag,hk,λd ar=>ay d (nF d ar)⟩|goto l=>exact⟨an,au,u',db,aL,cS,ag,hk,λd ar=>ay d (nF d ar)⟩|ret=>exact⟨an,au,u',db,aL,cS,ag,hk,λd ar=>ay d (nF d ar)⟩|panic c=>exact aV rfl (an c)|outgrown=>exact⟨an,au,u',db,aL,cS,ag,hk,λd ar=>ay d (nF d ar)⟩
  rename_i aX _;have bW:=h (On aX.pL λvs aU=>hz C il y (2*p+1) bC Q (pd s (fI x) aX vs) aU) (by
   have all:∀(cr:M aE) (f:M ao->Prop),(∀vs,pO cr vs->f vs)->Ll cr f:=by
    intro cr;induction cr with
    |nil=>intro f ac;exact ac [] .nil
    |cons t cr aM=>intro f ac x;exact aM _ λvs k6=>ac _ (.cons x k6)
   refine all _ _ λvs k6 aU h1=>?_;exact(PV k6 _).2 h1)
  refine wp_seq (x8 ?_ (Dv _ _ _ s u bW bs a w ac));intro e cT w' ad;obtain⟨an,au,u',db,aL,cS,ag,hk,ay⟩:=ad;have pq:Kept bC s au:=abz rfl hk;cases e with
  |normal=>simp only at aL;split at aL;rename_i vs k6;have au2:=KH aL;have ai:=(PV au2 _).1 aL;have aup:=ac.pd cS ag hk ay k6;refine x8 ?_ (Dw _ _ _ _ u' ai bs cT w' aup);intro aF a2 ew eJ;exact mI.next ag.forget (abz rfl (WC hk k6)) (λd ar=>ay d (nF d ar)) (eJ.mono y8);exact aL.elim
  |exit id=>exact⟨an,au,u',db,aL,cS,ag,pq,λd ar=>ay d (nF d ar)⟩|goto l=>exact⟨an,au,u',db,aL,cS,ag,pq,λd ar=>ay d (nF d ar)⟩|ret=>exact⟨an,au,u',db,aL,cS,ag,pq,λd ar=>ay d (nF d ar)⟩|panic c=>exact aV rfl (an c)|outgrown=>exact⟨an,au,u',db,aL,cS,ag,pq,λd ar=>ay d (nF d ar)⟩
 |cond c x y Dv Dw=>
  intro p bC Q s u h bs a w ac;have nF:∀d,gQ (fI (.cond c x y)) d=ax->gQ (fI x) d=ax:=λd h=>by simp only[fI,DB,zL] at h;exact h.1
  have y8:∀d,gQ (fI (.cond c x y)) d=ax->gQ (fI y) d=ax:=λd h=>by simp only[fI,DB,zL] at h;exact h.2
  have J:∀(st:aO),a.eval c=.bool ak->Fits st bs u a w->(st.loc=s.loc/\st.n=s.n)->hz C il x (2*p) bC Q st u->(Code.cond c x y).wp C.P (mI bC s bs u a w (fI (.cond c x y)) Q) a w:=by intro st I Fg dM hw;refine wp_cond_true I (x8 ?_ (Dv _ _ _ st u hw bs a w Fg));intro e cT w' ad;exact mI.next (Step.refl ac.sub) ⟨dM.2,by rw[dM.1];exact cC _,λi cs e _=>by rw[dM.1];exact e⟩ (λ_ _=>rfl) (ad.mono nF)
  have ai:∀(st:aO),a.eval c=.bool ax->Fits st bs u a w->(st.loc=s.loc/\st.n=s.n)->hz C il y (2*p+1) bC Q st u->(Code.cond c x y).wp C.P (mI bC s bs u a w (fI (.cond c x y)) Q) a w:=by intro st I Fg dM hw;refine wp_cond_false I (x8 ?_ (Dw _ _ _ st u hw bs a w Fg));intro e cT w' ad;exact mI.next (Step.refl ac.sub) ⟨dM.2,by rw[dM.1];exact cC _,λi cs e _=>by rw[dM.1];exact e⟩ (λ_ _=>rfl) (ad.mono y8)
  have iU:∀v,s.sv c=some v->∀t,c=.tmp t->(look s.env t).isSome=ak:=λv aB t ht=>by subst ht;simp only[aO.sv] at aB;rw[aB];rfl
  simp only[hz] at h;split at h;rename_i I;exact J s (cX (ac.sv I)).symm ac ⟨rfl,rfl⟩ h;rename_i I;exact ai s (cX (ac.sv I)).symm ac ⟨rfl,rfl⟩ h;rename_i q d I;have fw:=(cX (ac.sv I)).symm;by_cases aL:q;have aQ:a.eval c=.bool ak:=by rw[fw];simp[aL]
  obtain⟨h1,h2⟩:=wM (x:=.iD) ac (by rw[aQ];rfl) (iU _ I);exact J _ aQ h1 h2 (h.1 aL);have aQ:a.eval c=.bool ax:=by rw[fw];simp[aL]
  obtain⟨h1,h2⟩:=wM (x:=.lU) ac (by rw[aQ];rfl) (iU _ I);exact ai _ aQ h1 h2 (h.2 aL);rename_i q d I;have fw:=(cX (ac.sv I)).symm;by_cases aL:q;have aQ:a.eval c=.bool ax:=by rw[fw];simp[aL]
  obtain⟨h1,h2⟩:=wM (x:=.lU) ac (by rw[aQ];rfl) (iU _ I);exact ai _ aQ h1 h2 (h.2 aL);have aQ:a.eval c=.bool ak:=by rw[fw];simp[aL]
  obtain⟨h1,h2⟩:=wM (x:=.iD) ac (by rw[aQ];rfl) (iU _ I);exact J _ aQ h1 h2 (h.1 aL);rename_i b I;have fw:=(cX (ac.sv I)).symm;cases b with
  |true=>obtain⟨h1,h2⟩:=wM (x:=.iD) ac (by rw[fw];rfl) (iU _ I);exact J _ fw h1 h2 (h.1 rfl)
  |false=>obtain⟨h1,h2⟩:=wM (x:=.lU) ac (by rw[fw];rfl) (iU _ I);exact ai _ fw h1 h2 (h.2 rfl)
  exact h.elim
 |block id b aM=>
  intro p bC Q s u h bs a w ac;simp only[hz] at h;refine wp_block (x8 ?_ (aM _ _ _ s u h bs a w ac));intro e cT w' ad;obtain⟨an,au,u',db,aL,cS,ag,hk,ay⟩:=ad;cases e with
  |exit j=>simp only at aL;simp only[Exit.inBlock];split at aL;rename_i aN;have:=mr aN;subst this;rw[a1 rfl];exact⟨λ_=>r1,au,u',db,aL,cS,ag,hk,ay⟩;rename_i aN;rw[aG (λe=>by subst e;rw[Nat.beq_refl] at aN;cases aN)];exact⟨an,au,u',db,aL,cS,ag,hk,ay⟩
  |normal=>exact⟨an,au,u',db,aL,cS,ag,hk,ay⟩|goto l=>exact⟨an,au,u',db,aL,cS,ag,hk,ay⟩|ret=>exact⟨an,au,u',db,aL,cS,ag,hk,ay⟩|panic c=>exact aV rfl (an c)|outgrown=>exact⟨an,au,u',db,aL,cS,ag,hk,ay⟩
 |scope b aM=>
  intro p bC Q s u h bs a w ac;simp only[hz] at h;refine wp_scope_straight (x8 ?_ (aM _ _ _ s u h bs a w ac));intro e cT w' ad;obtain⟨an,au,u',db,aL,cS,ag,hk,ay⟩:=ad;cases e with
  |goto l=>exact aL.elim|exit j=>exact⟨an,au,u',db,aL,cS,ag,hk,ay⟩|normal=>exact⟨an,au,u',db,aL,cS,ag,hk,ay⟩|ret=>exact⟨an,au,u',db,aL,cS,ag,hk,ay⟩|panic c=>exact aV rfl (an c)|outgrown=>exact⟨an,au,u',db,aL,cS,ag,hk,ay⟩
 |loop b aM=>
  intro p bC Q s u h bs a w ac;simp only[hz] at h;split at h;exact h.elim;rename_i aX _;split at h;exact h.elim;rename_i KJ ajC;obtain⟨dt,μ,h0,NH⟩:=h
  let Inv:(M ao×H)->eo->cg->Prop:=λg cT w'=>pO aX.pL g.1/\(hY aX.pL dt g.1 λr=>r g.2)/\Fits (pd s (fI b) aX g.1) bs g.2 cT w'/\Step u bs w g.2 bs w'/\
   (∀d,gQ (fI b) d=ax->cT.tmps[d]?=a.tmps[d]?)/\Kept (narrow bC s.loc.length aX.boxes) s (pd s (fI b) aX g.1)
  let m:(M ao×H)->N:=λg=>(Classical.epsilon λn=>hY aX.pL μ g.1 λm=>n=m g.2)
  have hm:∀g,pO aX.pL g.1->∀f:(H->N)->Prop,hY aX.pL μ g.1 f->∃r,f r/\m g=r g.2:=by intro g W f aus;obtain⟨r,O⟩:=adR μ W;refine⟨r,(O _).1 aus,?_⟩;have:=Classical.epsilon_spec (p:=λn=>hY aX.pL μ g.1 λm=>n=m g.2) ⟨r g.2,(O _).2 rfl⟩;exact(O _).1 this
  have rD:=KH h0;have auZ:Kept (narrow bC s.loc.length aX.boxes) s (pd s (fI b) aX KJ):=WC (Kept.refl _ _) ajC;refine aGb Inv m ?_ (KJ,u) ⟨rD,h0,ac.pd (bC:=bC) ac (Step.refl ac.sub) (Kept.refl _ _) (λ_ _=>rfl) ajC,Step.refl ac.sub,λ_ _=>rfl,auZ⟩;rintro⟨vs,aU⟩ Z gk ⟨oW,cx,sj,dZ,um,j0⟩;have aa:=apo NH oW aU cx;have aHa:(pd s (fI b) aX vs).loc.length=s.loc.length:=by simp only[pd,Pv]
  refine x8 ?_ (aM _ _ _ _ aU aa bs Z gk sj);intro e cT w' ad;obtain⟨an,au,u',db,aL,cS,gy,hk,ay⟩:=ad;have po:Kept (narrow bC s.loc.length aX.boxes) s au:=j0.trans hk;have pq:Kept bC s au:=abz rfl po;have dY:=dZ.trans gy;have eZ:∀d,gQ (fI b) d=ax->cT.tmps[d]?=a.tmps[d]?:=λd ar=>(ay d ar).trans (um d ar);cases e with
  |normal=>simp only at aL;split at aL;rename_i rc ajB;have S0:=KH aL;refine⟨(rc,u'),⟨S0,aCU aL λr O=>?_,ac.pd cS dY po eZ ajB,dY.forget,eZ,WC po ajB⟩,?_⟩;obtain⟨m1,h1,_⟩:=hm (rc,u') S0 _ O;obtain⟨m0,h2,_⟩:=hm (vs,aU) oW _ h1;exact h2.1;obtain⟨r,O⟩:=adR dt S0;obtain⟨m1,h1,aQ⟩:=hm (rc,u') S0 _ ((O _).1 aL);obtain⟨m0,h2,eK⟩:=hm (vs,aU) oW _ h1;rw[aQ,eK];exact h2.2;exact aL.elim
  |exit id=>exact⟨an,au,u',db,aL,cS,dY,pq,eZ⟩|goto l=>exact⟨an,au,u',db,aL,cS,dY,pq,eZ⟩|ret=>exact⟨an,au,u',db,aL,cS,dY,pq,eZ⟩|panic c=>exact aV rfl (an c)|outgrown=>exact⟨an,au,u',db,aL,cS,dY,pq,eZ⟩
def sL(s:aO):M ResultVar->M bf->aA (M ao)
 | [],[]=>some []| .tmp d::rs,.one _::ss=>match(look s.env d).bind fU.val,sL s rs ss with
  |some v,some vs=>some (v::vs)|_,_=>none
 | .cell d _::rs,aI::ss=>match look s.env d,sL s rs ss with
  |some (.loc i off),some vs=>match s.loc[i]? with
   |some cs=>match wo (off+aI.iu.length) cs.length with
    |true=>some ((cs.drop off).take aI.iu.length++vs)|false=>none
   |none=>none
  |_,_=>none
 |_,_=>none
def wC(P:dT):M ResultVar->M bf->aD
 | [],[]=>ak| .tmp _::rs,.one _::ss=>wC P rs ss| .cell _ t::rs,aI::ss=>(match q8 P t,aI with
  |some (.one c),.one d=>(match c,d with
   | .int k,.int dV=>zl k dV| .bool,.bool=>ak| .str,.str=>ak| .ptr,.ptr=>ak| .slice,.slice=>ak| .map,.map=>ak| .val,.val=>ak|_,_=>ax)
  |some (.agg c),.agg d=>jB c.length d.length|_,_=>ax) && wC P rs ss
 |_,_=>ax
def aro{t:aE}{v:ao}:CQ (.one t::ss) (v::vs)=v::CQ ss vs:=rfl
def azJ{P:dT}{s:aO}{a:eo}{w:cg}(ac:Fits s bs u a w):∀(rs:M ResultVar) (ss:M bf) (vs:M ao),sL s rs ss=some vs->wC P rs ss=ak->
  (rs.mapM (λ(r:ResultVar)=>match r with
   | .tmp t=>(pure (a.tmps.getD t ic):Sem ao)| .cell x t=>do loadVar t (<-asAddr (a.tmps.getD x ic)))).run P w=x1 (CQ ss vs) w:=by
 intro rs
 induction rs with
 |nil=>
  intro ss vs h ab;cases ss with
  |nil=>simp[sL] at h;subst h;rfl|cons=>simp[sL] at h
 |cons r rs aM=>
  intro ss vs h ab;cases r with
  |tmp d=>
   cases ss with
   |nil=>simp[sL] at h|cons aI ss=>
    cases aI with
    |agg=>simp[sL] at h|one t=>
     simp only[sL] at h;split at h;rename_i v rc aB k6;cases h;have bQ:wC P rs ss=ak:=ab;have h1:=aM ss rc k6 bQ;simp only[ab0] at aB;obtain⟨x,J,Oc⟩:=aB;obtain⟨b6,h2,h3⟩:=ac.env _ (Gn J);simp only at h2 h3;rw[fU.Ve Oc bs] at h2;cases h2;have W:a.tmps.getD d ic=v:=by rw[BK,h3];rfl
     simp only[abZ,W,pure_bind,eW,aro];rw[h1];rfl;cases h
  |cell d t=>
   cases ss with
   |nil=>simp[sL] at h|cons aI ss=>
    have O:sL s (.cell d t::rs) (aI::ss)=some vs:=h;simp only[sL] at O;split at O;rename_i i off rc ar k6;split at O;rename_i cs ap;split at O;rename_i aa;cases O;have aa:=GJ aa;have j1:wC P (.cell d t::rs) (aI::ss)=ak:=ab;simp only[wC,pF] at j1;have h1:=aM ss rc k6 j1.2;obtain⟨b6,h2,h3⟩:=ac.env _ (Gn ar);simp only at h2 h3;obtain⟨b,T,io,kK⟩:=ac.loc i cs ap;simp only[hA,io,kC] at h2;subst h2;have W:a.tmps.getD d ic=.pointer (some ⟨b,off,none⟩):=by rw[BK,h3];rfl
    have nL:(loadVar t ⟨b,off,none⟩).run P w=.ok (aI.take ((cs.drop off).take aI.iu.length++rc)).1 w/\(aI.take ((cs.drop off).take aI.iu.length++rc)).2=rc:=by
     have a7:=j1.1;cases fE:q8 P t with
     |none=>rw[fE] at a7;simp at a7|some Py=>
      rw[fE] at a7;have hlen:Py.iu.length=aI.iu.length:=by cases Py<;>cases aI<;>simp only[bf.iu] at a7 ⊢ <;>first|rfl|(exact mr a7)|cases a7
      have M4:=akr (P:=P) (off:=off) kK Py.iu.length 0 #[] (by rw[hlen];simpa using aa);have oq:=Jw fE ⟨b,off,none⟩ (vs:=(cs.drop off).take Py.iu.length) (by simp;rw[hlen];omega) (by simpa using M4) (by
       intro c I;subst I;have gC:aI.iu.length=1:=by rw[<-hlen];rfl
       have bw:off<cs.length:=by omega
       simp only[bf.iu,hX,oB] at hlen ⊢;refine⟨cs[off],?_,?_⟩;rw[tF bw];rfl;simp only[JM,kK];simp[bw])
      rw[hlen] at oq;have ae:((cs.drop off).take aI.iu.length).length=aI.iu.length:=by simp;omega
      rw[oq];cases Py with
      |one nC=>
       cases aI with
       |agg _=>simp at a7|one c=>
        simp only[bf.iu,hX,oB] at ae ⊢
        match J:(cs.drop off).take 1,ae with
        | [x],_=>exact⟨rfl,rfl⟩
      |agg nC=>
       cases aI with
       |one _=>simp at a7|agg c=>simp only[bf.iu] at ae ⊢;refine⟨?_,?_⟩;simp only[bf.mk,bf.take];rw[OW (by omega),gY (l:=List.take _ _) (by omega)];simp only[bf.take];rw[ab6 (by omega),OX (by omega)];rfl
    have aC:asAddr (.pointer (some ⟨b,off,none⟩))=pure ⟨b,off,none⟩:=rfl;simp only[abZ,W,aC,pure_bind,eW,nL.1,jS];rw[h1];simp only[CQ,nL.2];rfl;cases O;cases O;cases O
def Rp(d:aA N)(u:H)(f:H->Prop):Prop:=
 match d with
 |none=>f u|some D=>u D=some (.deferred (some []))/\f (u.ins D (.deferred none))
def CR(rs:M ResultVar)(ss:M bf)(K:hy (gT ss) (H->Prop)):kR->aO->H->Prop
 | .normal,s,u=>match sL s rs ss with
  |some vs=>Rp s.EL u λu=>hY (gT ss) K vs λr=>r u|none=>ed
 | .ret,s,u=>match sL s rs ss with
  |some vs=>Rp s.EL u λu=>hY (gT ss) K vs λr=>r u|none=>ed
 |_,_,_=>ed
def Jj:N->M ao->M (N×fU)
 |_,[]=>[]|i,v::vs=>(i,.v v)::Jj (i+1) vs
def axc{i:N}(h:p∈Jj i vs):∃j v,vs[j]?=some v/\p=(i+j,.v v):=by
 induction vs generalizing i with
 |nil=>cases h
 |cons v vs aM=>
  simp only[Jj] at h;cases h with
  |head=>exact⟨0,v,rfl,rfl⟩|tail _ h=>obtain⟨j,b6,h1,h2⟩:=aM h;exact⟨j+1,b6,h1,by rw[h2];congr 1;omega⟩
def agA(fN:Good C){fn:Func}{c:jg}(sk:C.P.funcs[f]?=some fn)(aa:fn.body=some c)(il:M (N×qu)){env:M (N×fU)}
  (ti:∀p∈env,∃v,args[p.1]?=some v/\hA [] p.2=some v) {ss:M bf} {u:H}
  {K:hy (gT ss) (H->Prop)} (ae:wo args.length fn.ntmps=ak) (O:wC C.P fn.results.toList ss=ak)
  (h:hz C il c 1 (λ_=>ak) (CR fn.results.toList ss K) {n:=fn.ntmps,env:=env,loc:=[]} u):hx C.P f args.toArray ss u K:=by
 intro w hw
 refine OU.1 (callsIn_of_wp_marks (F:=u2) (n:=0) sk aa trivial (OV.2 ?_))
 have hle:=GJ ae
 have ac:Fits {n:=fn.ntmps,env:=env,loc:=[]} [] u {tmps:=args.toArray++DL (fn.ntmps-args.toArray.size) ic,defers:=[]} w:=by
  refine⟨⟨rfl,by simp;omega,?_⟩,rfl,by simp,by simp,by simp,hw⟩;intro p ad;obtain⟨v,h1,h2⟩:=ti p ad;refine⟨v,h2,?_⟩;have bw:p.1<args.length:=by rcases kB p.1 args.length with k|k;exact k;rw[iO k] at h1;cases h1
  rw[ab7 (by simpa using bw)];simpa using h1
 have ag:=aqJ fN il c 1 _ _ _ u h [] _ w ac
 refine x8 ?_ ag
 intro e cT w' ad
 obtain⟨an,au,u',db,aL,cS,dY,_,_⟩:=ad
 have fin:∀vs,sL au fn.results.toList ss=some vs->(Rp au.EL u' λu'=>hY (gT ss) K vs λr=>r u')->
   LeavesInM u2 0 C.P fn cT.tmps (λe w'=>∃v1 aU,e=.returned v1/\(∃vs,pO (gT ss) vs/\v1=xg ss vs/\hY (gT ss) K vs λr=>r aU)/\Step u [] w aU [] w') cT.defers .returning w':=by
  intro vs aB av
  have jc:∀s2 cQ HQ a2 ew,Fits s2 HQ cQ a2 ew->a2.tmps=cT.tmps->sL s2 fn.results.toList ss=some vs->(results fn cT.tmps).run C.P ew=.ok (xg ss vs) ew:=by
   intro s2 cQ HQ a2 ew jb ht xK;have nH:=azJ (P:=C.P) jb fn.results.toList ss vs xK O;rw[<-ht];unfold results;rw[eW];have aQ:(fn.results.mapM (λ(r:ResultVar)=>match r with
     | .tmp t=>(pure (a2.tmps.getD t ic):Sem ao)
     | .cell x t=>do loadVar t (<-asAddr (a2.tmps.getD x ic)))).run C.P ew=x1 (CQ ss vs).toArray ew:=by
    rw[Array.mapM_eq_mapM_toList,Sem.run_map,nH]
    rfl
   refine(eB (λr=>jf r _) aQ).trans ?_;simp only[jS];unfold xg;cases J:CQ ss vs with
   |nil=>rfl|cons v l=>
    cases l with
    |nil=>rfl|cons v2 l=>rfl
  rw[cS.defers]
  unfold Rp at av
  split at av
  rename_i ar
  rw[ar]
  exact⟨_,jc au u' db cT w' cS rfl aB,_,u',rfl,⟨vs,KH av,rfl,av⟩,dY.forget⟩
  rename_i D ar
  rw[ar]
  obtain⟨eT,av⟩:=av
  have ag5:=cS.sub _ _ eT
  have uM:=run_takeDeferred (P:=C.P) ag5
  have Z7:Step u' db w' (u'.ins D (.deferred none)) db (w'.putObj D (.deferred none)):=by
   have bw:=cS.sub.lt eT;refine⟨λb x h=>?_,rfl,rfl,rfl,cC _,by simp,λb _ aa _=>?_,λb _ aa=>?_,[],by simp,by simp⟩;unfold H.ins at h;split at h;rename_i oj;subst oj;cases h;exact GM bw;rename_i oj;rw[mu oj];exact cS.sub b x h;exact mu λe=>by rw[e,eT] at aa;cases aa
   rw[bq _ _ λe=>by rw[e,eT] at aa;cases aa];exact aa
  have jb:Fits au db (u'.ins D (.deferred none)) cT (w'.putObj D (.deferred none)):=by refine⟨cS.toFitsE,cS.len,λi cs e=>?_,cS.nodup,λb aa=>?_,Z7.sub⟩;obtain⟨b,T,h1,h2⟩:=cS.loc i cs e;exact⟨b,T,h1,(mu λe=>by rw[e,ag5] at h2;cases h2).trans h2⟩;exact⟨Z7.jw b (cS.cm b aa).2 (cS.cm b aa).1,by simpa using(cS.cm b aa).2⟩
  refine⟨by simp,.inl ⟨D,_,rfl,uM,?_⟩⟩
  exact⟨_,jc au _ db cT _ jb rfl aB,_,_,rfl,⟨vs,KH av,rfl,av⟩,(dY.trans Z7).forget⟩
 cases e with
 |normal=>simp only[CR] at aL;split at aL;rename_i vs aB;exact fin vs aB aL;exact aL.elim
 |ret=>simp only[CR] at aL;split at aL;rename_i vs aB;exact fin vs aB aL;exact aL.elim
 |exit id=>exact aL.elim
 |goto l=>exact aL.elim
 |panic c=>exact aV rfl (an c)
 |outgrown=>exact aL.elim
def ar1(fN:Good C){fn:Func}{c:jg}(sk:C.P.funcs[f]?=some fn)(aa:fn.body=some c)(il:M (N×qu))
  {K:hy (gT ss) (H->Prop)} (ae:wo args.length fn.ntmps=ak) (O:wC C.P fn.results.toList ss=ak)
  (h:hz C il c 1 (λ_=>ak) (CR fn.results.toList ss K) {n:=fn.ntmps,env:=Jj 0 args,loc:=[]} u):hx C.P f args.toArray ss u K:=
 agA fN sk aa il (λp ad=>by obtain⟨j,v,h1,rfl⟩:=axc ad;exact⟨v,by simpa using h1,rfl⟩) ae O h
def Od(zA:N):N->M ao->M (N×fU)
 |_,[]=>[]|i,v::vs=>(i,match x0 i zA with
  |true=>.v v|false=>UY .addr v)::Od zA (i+1) vs
def axb{zA:N}{i:N}(h:p∈Od zA i vs):∃j v,vs[j]?=some v/\p.1=i+j/\hA [] p.2=some v:=by
 induction vs generalizing i with
 |nil=>cases h
 |cons v vs aM=>
  simp only[Od] at h;cases h with
  |head=>
   refine⟨0,v,rfl,rfl,?_⟩;cases x0 i zA with
   |true=>rfl|false=>exact anp _ _ _
  |tail _ h=>obtain⟨j,b6,h1,h2,h3⟩:=aM h;exact⟨j+1,b6,h1,by rw[h2];omega,h3⟩
def LV(zA:N)(fN:Good C){fn:Func}(sk:C.P.funcs[f]?=some fn)(aa:fn.body.isSome=ak)(il:M (N×qu))
  {K:hy (gT ss) (H->Prop)} (ae:wo args.length fn.ntmps=ak) (O:wC C.P fn.results.toList ss=ak)
  (h:hz C il (fn.body.getD .skip) 1 (λ_=>ak) (CR fn.results.toList ss K) {n:=fn.ntmps,env:=Od zA 0 args,loc:=[]} u):hx C.P f args.toArray ss u K:=by
 cases I:fn.body with
 |none=>rw[I] at aa;cases aa
 |some c=>rw[I] at h;exact agA fN sk I il (λp ad=>by obtain⟨j,v,h1,h2,h3⟩:=axb ad;exact⟨v,by rw[h2];simpa using h1,h3⟩) ae O h
def EV(fN:Good C){fn:Func}(sk:C.P.funcs[f]?=some fn)(aa:fn.body.isSome=ak)(il:M (N×qu))
  {K:hy (gT ss) (H->Prop)} (ae:wo args.length fn.ntmps=ak) (O:wC C.P fn.results.toList ss=ak)
  (h:hz C il (fn.body.getD .skip) 1 (λ_=>ak) (CR fn.results.toList ss K) {n:=fn.ntmps,env:=Jj 0 args,loc:=[]} u):hx C.P f args.toArray ss u K:=by
 cases I:fn.body with
 |none=>rw[I] at aa;cases aa
 |some c=>rw[I] at h;exact ar1 fN sk I il ae O h
end
end
section
variable{P:dT}{n:N}
def DC(P:dT)(t:dF)(l:M ao):ao:=
 match ri P t with
 |true=>.agg l.toArray|false=>l.headD ic
def CW(P:dT)(k:dF->aA N):N->M Field->aA N
 |i,[]=>some i|i,f::r=>match f.name != "_",jB f.offset i,k f.type,yj P f.type with
  |true,ak,some w,some w'=>match jB w w' with
   |true=>CW P k (i+w) r|false=>none
  |_,_,_,_=>none
def yS(P:dT):N->dF->aA N
 |0,_=>none|d+1,t=>match P.underlying t with
  |some (.int _)=>some 1|some (.struct aW)=>match P.stoodInHeld t with
   |true=>none|false=>CW P (yS P d) 0 aW.toList
  |_=>none
def Rr:ao->ao->aD
 | .int _ a,.int _ b=>decide (a=b)|_,_=>ax
def s8:M ao->M ao->aD
 | [],[]=>ak|x::xs,y::e9=>Rr x y && s8 xs e9|_,_=>ax
def tA:M ao->M ao->aD
 | [],[]=>ak| .int k _::xs,.int dV _::e9=>zl k dV && tA xs e9|_,_=>ax
def art:∀(l m:M ao) (Y:Cz),yP l m=some Y->tA l m=ak/\@decide Y.p Y.d=s8 l m:=by
 have one:∀x y Y,LN x y=some Y->∃k a b,x=.int k a/\y=.int k b/\@decide Y.p Y.d=decide (a=b):=by intro x y Y h;unfold LN at h;split at h;rename_i k a dV b;split at h;rename_i hk;have:=Og hk;subst this;cases h;exact⟨_,_,_,rfl,rfl,rfl⟩;cases h;cases h
 intro l;induction l with
 |nil=>
  intro m Y h;cases m with
  |nil=>simp only[yP,kC] at h;subst h;exact⟨rfl,rfl⟩|cons=>simp[yP] at h
 |cons x l aM=>
  intro m Y h;cases m with
  |nil=>cases l<;>simp[yP] at h
  |cons y m=>
   by_cases IL:l=[]/\m=[];obtain⟨rfl,rfl⟩:=IL;simp only[yP] at h;obtain⟨k,a,b,rfl,rfl,ar⟩:=one _ _ _ h;refine⟨by simp[tA,aaW],?_⟩;rw[ar];simp[s8,Rr]
   .have bW:(match LN x y,yP l m with
      |some a,some b=>some ⟨a.p/\b.p,@instDecidableAnd a.p b.p a.d b.d⟩
      |_,_=>(none:aA Cz))=some Y:=by
     cases l with
     |nil=>cases m with
      |nil=>exact aV ⟨rfl,rfl⟩ IL|cons=>exact h
     |cons=>exact h
    split at bW
    rename_i a b ay aa
    obtain⟨k,Z,ga,rfl,rfl,ar⟩:=one _ _ _ ay
    obtain⟨h1,h2⟩:=aM m b aa
    cases bW
    refine⟨by simp[tA,aaW,h1],?_⟩
    simp only[s8,Rr,<-h2,<-ar]
    obtain⟨apt,aR⟩:=a
    obtain⟨WN,jK⟩:=b
    by_cases aQ:apt<;>by_cases aF:WN<;>simp[aQ,aF]
    cases bW
def ayU:∀(n:N) (l m:M ao),tA l m=ak->tA (l.take n) (m.take n)=ak/\tA (l.drop n) (m.drop n)=ak/\s8 l m=(s8 (l.take n) (m.take n) && s8 (l.drop n) (m.drop n)):=by
 intro n;induction n with
 |zero=>intro l m h;exact⟨rfl,h,by simp[s8]⟩
 |succ n aM=>
  intro l m h;cases l with
  |nil=>cases m with
   |nil=>exact⟨rfl,rfl,rfl⟩|cons=>simp[tA] at h
  |cons x l=>cases m with
   |nil=>cases x<;>simp[tA] at h
   |cons y m=>cases x<;>cases y<;>simp only[tA,DJ] at h;rw[pF] at h;obtain⟨h1,h2,h3⟩:=aM l m h.2;refine⟨by simp[tA,h.1,h1],h2,?_⟩;simp only[BM,TQ,s8,h3,Bool.and_assoc]
def ak2{t:dF}{w:N}{xs:cv ao}{off:N}(ag:yj P t=some w)(hu:(P.underlying t).isSome=ak)(ap:ri P t=ax->1=w)(aa:off+w<=xs.size)(bD:cg):
  (part t xs off).run P bD=.ok (DC P t ((xs.toList.drop off).take w)) bD:=by
 obtain⟨d,ar⟩:=JO.1 hu
 unfold yj at ag
 cases hi:P.info? t with
 |none=>rw[hi] at ag;cases ag
 |some i=>
  rw[hi] at ag;cases ag;have c0:(sizeOf t).run P bD=.ok i.size bD:=by simp[sizeOf,run_typeInfo bD hi]
  cases W:ri P t with
  |true=>
   have:(isAgg t).run P bD=.ok ak bD:=by unfold ri at W;rw[ar] at W;cases d<;>simp only[DJ] at W<;>simp[isAgg,ir ar]
   simp only[part,eW,this,jS,qX,c0,DC,W];simp only[Sem.run_pure];congr 2;apply Array.toList_inj.1;simp[Array.toList_extract,List.extract_eq_take_drop]
  |false=>
   have h1:1=i.size:=ap W;have bw:off<xs.size:=by have:off+i.size<=xs.size:=aa;omega
   have:(isAgg t).run P bD=.ok ax bD:=by unfold ri at W;rw[ar] at W;cases d<;>simp only[Bool.true_eq_false] at W<;>simp[isAgg,ir ar]
   simp only[part,eW,this,jS,DJ,BL,DC,W];rw[x3 bw];simp only[Sem.run_pure];congr 1;rw[<-h1,tF (by simpa using bw)];simp
def arW{d:N}{t:dF}(h:yS P d t=some n):(P.underlying t).isSome=ak/\(ri P t=ax->1=n):=by
 cases d with
 |zero=>simp[yS] at h|succ d=>simp only[yS] at h;split at h;rename_i hu;cases h;exact⟨by rw[hu];rfl,λ_=>rfl⟩;rename_i hu;exact⟨by rw[hu];rfl,λe=>by simp[ri,hu] at e⟩;cases h
def arA(bD:cg):∀(d:N) (t:dF) (n e:N) (l m:M ao),yS P d t=some n->l.length=n->m.length=n->tA l m=ak->
  (x5 (d+e) t (DC P t l) (DC P t m)).run P bD=.ok (s8 l m) bD:=by
 intro d
 induction d with
 |zero=>intro t n e l m h;simp[yS] at h
 |succ d aM=>
  intro t n e l m h ap hm ad;rw[show d+1+e=(d+e)+1 by omega];simp only[yS] at h;split at h;rename_i k hu;cases h;have W:ri P t=ax:=by simp[ri,hu]
  match l,m,ap,hm with
  | [x],[y],_,_=>cases x<;>cases y<;>simp only[tA,DJ] at ad;rw[pF] at ad;have:=Og ad.1;subst this;simp only[DC,W,List.headD_cons];rw[run_equalIn_int bD (d+e) t _ k _ _ hu];simp[s8,Rr,BEq.beq]
  .rename_i aW hu;split at h;cases h
   .rename_i ag;have W:ri P t=ak:=by simp[ri,hu]
    have ry:P.fieldsOf t=aW:=by simp[Program.fieldsOf,hu]
    simp only[DC,W];rw[run_equalIn_struct bD (d+e) t _ _ (by rw[ry];exact hu) ag,ry];have key:∀(qF:M Field) (i:N),CW P (yS P d) i qF=some n->i<=n->tA (l.drop i) (m.drop i)=ak->
      (ab8 (d+e) l.toArray m.toArray qF).run P bD=.ok (s8 (l.drop i) (m.drop i)) bD:=by
     intro qF
     induction qF with
     |nil=>intro i hi hle zi;simp only[CW,kC] at hi;subst hi;rw[OX (by omega),OX (by omega)];simp[ab8,s8]
     |cons f qF aw7=>
      intro i hi hle zi;simp only[CW] at hi;split at hi;rename_i w w' ae ab hk c0;split at hi;rename_i aaw;have aaw:=mr aaw;subst aaw;have ab:=mr ab;have an:f.name≠ "_" :=by simpa using ae
      have avj:∀(qF:M Field) (j:N),CW P (yS P d) j qF=some n->j<=n:=by
       intro qF;induction qF with
       |nil=>intro j aN;simp only[CW,kC] at aN;omega
       |cons g qF aw8=>intro j aN;simp only[CW] at aN;split at aN;split at aN;have:=aw8 _ aN;omega;cases aN;cases aN
      have xx:=avj qF _ hi;obtain⟨Bo,ahq⟩:=arW hk;have gD:=ak2 (xs:=l.toArray) (off:=f.offset) c0 Bo ahq (by simp;omega) bD;have eJ:=ak2 (xs:=m.toArray) (off:=f.offset) c0 Bo ahq (by simp;omega) bD;obtain⟨nJ,pu,nK⟩:=ayU w _ _ zi;have aL:=aM f.type w e ((l.drop i).take w) ((m.drop i).take w) hk (by simp;omega) (by simp;omega) nJ;rw[ab] at gD eJ;simp only[ab8,a1 an,ab,eW,gD,eJ,jS,aL];rw[nK];have O:=aw7 (i+w) hi xx (by rw[<-BQ,<-BQ];exact pu);rw[<-BQ,<-BQ] at O;cases s8 ((l.drop i).take w) ((m.drop i).take w) with
      |true=>simpa using O|false=>simp
      cases hi;cases hi
    exact key aW.toList 0 h (q0 _) ad
  cases h
def Xz(P:dT)(t n:N):aD:=
 match yS P 10 t with
 |some k=>jB k n && !P.eqGuardType P.depth t && ri P t|none=>ax
def arz{t:N}(h:Xz P t n=ak)(xs e9:cv ao)(Y:Cz)(h1:xs.toList.length=n)(h2:e9.toList.length=n)(he:yP xs.toList e9.toList=some Y)(x y:jR)(w:cg):
  (eqGuard .eql t x y (.agg xs) (.agg e9)).run P w=.ok () w/\(eqGuard .neq t x y (.agg xs) (.agg e9)).run P w=.ok () w/\
  (Op.equal t (.agg xs) (.agg e9)).run P w=.ok (@decide Y.p Y.d) w:=by
 unfold Xz at h
 split at h
 rename_i k hk
 simp only[pF,JZ] at h
 obtain⟨⟨ap,W⟩,ay⟩:=h
 have ap:=mr ap
 subst ap
 obtain⟨ad,ar⟩:=art _ _ _ he
 refine⟨run_eqGuard_agg w .eql t x y xs e9 W,run_eqGuard_agg w .neq t x y xs e9 W,?_⟩
 have:=arA w 10 t k 9990 _ _ hk h1 h2 ad
 simp only[DC,ay] at this
 rw[ar]
 exact this
 cases h
def akO(P:dT):aD:=P.funcs.toList.all λfn=>(fn.name== "runtime.NumGoroutine")==ax
def ayE(h:akO P=ak)(f:jQ)(fn:Func)(e:P.funcs[f]?=some fn):(fn.name== "runtime.NumGoroutine")=ax:=by have:=OR.1 h fn (GF.2 (TL e));simpa using this
def arx{l:M (N×N)}{t:N}(h:LO l t=some n):(t,n)∈l:=by
 induction l with
 |nil=>cases h
 |cons p r aM=>obtain⟨a,b⟩:=p;simp only[LO] at h;split at h;rename_i e;have:=mr e;subst this;cases h;exact .head _;exact .tail _ (aM h)
def ash{iv:M (N×N)}(h1:akO P=ak)(h2:P.follows .mixedOrders=ak)(h3:(iv.all λp=>Xz P p.1 p.2)=ak)(exp:M N)(wrap:aD){oO oY:M N}{part:aD}:
  Good {P:=P,exp:=exp,wrap:=wrap,iv:=iv,oO:=oO,oY:=oY,part:=part}:=
 ⟨ayE h1,h2,λ_ _ h xs e9 Y ej eV he x y w=>arz (OR.1 h3 _ (arx h)) xs e9 Y ej eV he x y w⟩
end
section
variable{u u' aj:H}{s:U}{P:dT}{size bytes g i b:N}{e t k:dF}{xs zs e9:M ao}{l:M o}{x:o}{w:cg}{K:U->H->Prop}{ss:M bf}
def iv:M (N×N):=[(66,2),(68,3),(25,4)]
def oh(exp:M N)(wrap:aD){oO oY:M N}{part:aD}:Good {P:=aH,exp:=exp,wrap:=wrap,iv:=iv,oO:=oO,oY:=oY,part:=part}:=ash (by kernel_rfl) (by kernel_rfl) (by kernel_rfl) exp wrap
abbrev b1:=aA bc
abbrev bt:U:=⟨none,0,0⟩
abbrev vs(s:U):ao:=.slice s.a s.n s.c
abbrev ah(x:o):ao:=.int .i64 x
abbrev bA(x:o):ao:=.int .u64 x
abbrev aZ(x:b1):ao:=.pointer x
abbrev aR(r:bc)(x:o)(k:N):bc:=r.add (x.toNat*k)
abbrev am(n:N):bc:=⟨n,0,none⟩
abbrev bg:M bf:=[.one .slice]
abbrev cx:M bf:=[.one (.int .i64)]
abbrev eH:M bf:=[.one .bool]
abbrev eI:M bf:=[.one .ptr]
abbrev Q:=H->Prop
abbrev bG(f:jQ)(a:cv ao)(ss:M bf)(u:H)(K:hy (gT ss) Q):Prop:=hx aH f a ss u K
abbrev lt(u:H)(k:Q):Prop:=k u
abbrev bl(m:Sem ao)(ss:M bf)(u:H)(K:hy (gT ss) (H->Prop)):Prop:=c9 aH m ss u K
abbrev l9(v:ao)(a:cv ao)(ss:M bf)(u:H)(K:hy (gT ss) (H->Prop)):Prop:=sS aH v a ss u K
abbrev qD(v:ao)(n:String)(a:cv ao)(ss:M bf)(u:H)(K:hy (gT ss) (H->Prop)):Prop:=nn aH v n a ss u K
abbrev bu(s:U)(x:o)(k:bc->Prop):Prop:=∃r,s.a=some r/\((0:o)<=x/\x<(s.n:o))/\k r
abbrev br(p:b1)(k:bc->Prop):Prop:=∃r,p=some r/\k r
abbrev ba(u:H)(a:bc)(k:o->Prop):Prop:=∃x,u.cell? a=some (ah x)/\k x
abbrev dA(u:H)(a:bc)(k:o->Prop):Prop:=∃x,u.cell? a=some (bA x)/\k x
abbrev bn(u:H)(a:bc)(k:U->Prop):Prop:=∃x:U,u.cell? a=some (vs x)/\k x
abbrev eM(u:H)(a:bc)(k:b1->Prop):Prop:=∃x,u.cell? a=some (aZ x)/\k x
abbrev e5(u:H)(a:bc)(k:aA N->Prop):Prop:=∃x,u.cell? a=some (.map x)/\k x
abbrev uU(u:H)(a:bc)(k:aD->Prop):Prop:=∃x,u.cell? a=some (.bool x)/\k x
abbrev p8(u:H)(a:bc)(k:ao->Prop):Prop:=∃x,u.cell? a=some x/\k x
abbrev aP(c A B:Prop):Prop:=(c->A)/\(¬c->B)
abbrev cN(c A B:Prop):Prop:=(¬c->A)/\(c->B)
abbrev dX(b:aD)(A B:Prop):Prop:=(b=ak->A)/\(b=ax->B)
abbrev dW(u:H)(k:N->Prop):Prop:=∀n,u n=none->k n
abbrev Ot(u:H)(f:(H->Prop)->H->Prop):Prop:=∃dt:H->Prop,∃cu:H->N,dt u/\∀v,dt v->f (λw=>dt w/\cu w<cu v) v
abbrev we(g:H->Prop)(f:(H->Prop)->Prop):Prop:=∀K:H->Prop,(∀u,g u->K u)->f K
abbrev gP(α:Type)(i0:α)(u:H)(f:(α->H->Prop)->α->H->Prop):Prop:=∃dt:α->H->Prop,∃cu:α->H->N,dt i0 u/\∀bK v,dt bK v->f (λhS w=>dt hS w/\cu hS w<cu bK v) bK v
abbrev hN(α:Type)(g:α->H->Prop)(f:(α->H->Prop)->Prop):Prop:=∀K:α->H->Prop,(∀bK u,g bK u->K bK u)->f K
abbrev iz(α:Type)(β:Type)(i0:α)(i1:β)(u:H)(f:(α->β->H->Prop)->α->β->H->Prop):Prop:=∃dt:α->β->H->Prop,∃cu:α->β->H->N,dt i0 i1 u/\∀bK dw v,dt bK dw v->f (λhS ij w=>dt hS ij w/\cu hS ij w<cu bK dw v) bK dw v
abbrev ts(α:Type)(β:Type)(g:α->β->H->Prop)(f:(α->β->H->Prop)->Prop):Prop:=∀K:α->β->H->Prop,(∀bK dw u,g bK dw u->K bK dw u)->f K
abbrev sx(α:Type)(β:Type)(γ:Type)(i0:α)(i1:β)(i2:γ)(u:H)(f:(α->β->γ->H->Prop)->α->β->γ->H->Prop):Prop:=∃dt:α->β->γ->H->Prop,∃cu:α->β->γ->H->N,dt i0 i1 i2 u/\∀bK dw x2 v,dt bK dw x2 v->f (λhS ij jF w=>dt hS ij jF w/\cu hS ij jF w<cu bK dw x2 v) bK dw x2 v
abbrev aaS(α:Type)(β:Type)(γ:Type)(g:α->β->γ->H->Prop)(f:(α->β->γ->H->Prop)->Prop):Prop:=∀K:α->β->γ->H->Prop,(∀bK dw x2 u,g bK dw x2 u->K bK dw x2 u)->f K
abbrev zt(α:Type)(β:Type)(γ:Type)(δ:Type)(i0:α)(i1:β)(i2:γ)(i3:δ)(u:H)(f:(α->β->γ->δ->H->Prop)->α->β->γ->δ->H->Prop):Prop:=∃dt:α->β->γ->δ->H->Prop,∃cu:α->β->γ->δ->H->N,dt i0 i1 i2 i3 u/\∀bK dw x2 jV v,dt bK dw x2 jV v->f (λhS ij jF o7 w=>dt hS ij jF o7 w/\cu hS ij jF o7 w<cu bK dw x2 jV v) bK dw x2 jV v
abbrev aHQ(α:Type)(β:Type)(γ:Type)(δ:Type)(g:α->β->γ->δ->H->Prop)(f:(α->β->γ->δ->H->Prop)->Prop):Prop:=∀K:α->β->γ->δ->H->Prop,(∀bK dw x2 jV u,g bK dw x2 jV u->K bK dw x2 jV u)->f K
abbrev akt(α:Type)(β:Type)(γ:Type)(δ:Type)(ε:Type)(i0:α)(i1:β)(i2:γ)(i3:δ)(i4:ε)(u:H)(f:(α->β->γ->δ->ε->H->Prop)->α->β->γ->δ->ε->H->Prop):Prop:=∃dt:α->β->γ->δ->ε->H->Prop,∃cu:α->β->γ->δ->ε->H->N,dt i0 i1 i2 i3 i4 u/\∀bK dw x2 jV nm v,dt bK dw x2 jV nm v->f (λhS ij jF o7 qt w=>dt hS ij jF o7 qt w/\cu hS ij jF o7 qt w<cu bK dw x2 jV nm v) bK dw x2 jV nm v
abbrev axN(α:Type)(β:Type)(γ:Type)(δ:Type)(ε:Type)(ζ:Type)(i0:α)(i1:β)(i2:γ)(i3:δ)(i4:ε)(i5:ζ)(u:H)(f:(α->β->γ->δ->ε->ζ->H->Prop)->α->β->γ->δ->ε->ζ->H->Prop):Prop:=∃dt:α->β->γ->δ->ε->ζ->H->Prop,∃cu:α->β->γ->δ->ε->ζ->H->N,dt i0 i1 i2 i3 i4 i5 u/\∀bK dw x2 jV nm n1 v,dt bK dw x2 jV nm n1 v->f (λhS ij jF o7 qt sQ w=>dt hS ij jF o7 qt sQ w/\cu hS ij jF o7 qt sQ w<cu bK dw x2 jV nm n1 v) bK dw x2 jV nm n1 v
abbrev axO(α:Type)(β:Type)(γ:Type)(δ:Type)(ε:Type)(ζ:Type)(η:Type)(i0:α)(i1:β)(i2:γ)(i3:δ)(i4:ε)(i5:ζ)(i6:η)(u:H)(f:(α->β->γ->δ->ε->ζ->η->H->Prop)->α->β->γ->δ->ε->ζ->η->H->Prop):Prop:=∃dt:α->β->γ->δ->ε->ζ->η->H->Prop,∃cu:α->β->γ->δ->ε->ζ->η->H->N,dt i0 i1 i2 i3 i4 i5 i6 u/\∀bK dw x2 jV nm n1 tR v,dt bK dw x2 jV nm n1 tR v->f (λhS ij jF o7 qt sQ Cn w=>dt hS ij jF o7 qt sQ Cn w/\cu hS ij jF o7 qt sQ Cn w<cu bK dw x2 jV nm n1 tR v) bK dw x2 jV nm n1 tR v
def aW(e:M N){args:M ao}{f:jQ}{fn:Func}(ac:aH.funcs[f]?=some fn)(il:M (N×qu)){K:hy (gT ss) (H->Prop)}{P:Prop}(h:P)(aa:fn.body.isSome=ak:=by kernel_rfl)(ae:wo args.length fn.ntmps=ak:=by kernel_rfl)(O:wC aH fn.results.toList ss=ak:=by kernel_rfl)(eI:P=hz {P:=aH,exp:=e,wrap:=ax,iv:=iv,oO:=[],oY:=[]} il (fn.body.getD .skip) 1 (λ_=>ak) (CR fn.results.toList ss K) {n:=fn.ntmps,env:=Jj 0 args,loc:=[]} u:=by kernel_rfl):hx aH f args.toArray ss u K:=EV (oh _ _) ac aa il ae O (Eq.mp eI h)
abbrev bT:aE:=.int .i64
abbrev aX(n:N)(l:M (N×aE)):N×qu:=(n,⟨l,[]⟩)
def nD(zA:N)(e:M N){args:M ao}{f:jQ}{fn:Func}(ac:aH.funcs[f]?=some fn)(il:M (N×qu)){K:hy (gT ss) (H->Prop)}{P:Prop}(h:P)(aa:fn.body.isSome=ak:=by kernel_rfl)(ae:wo args.length fn.ntmps=ak:=by kernel_rfl)(O:wC aH fn.results.toList ss=ak:=by kernel_rfl)(eI:P=hz {P:=aH,exp:=e,wrap:=ax,iv:=iv,oO:=[],oY:=[]} il (fn.body.getD .skip) 1 (λ_=>ak) (CR fn.results.toList ss K) {n:=fn.ntmps,env:=Od zA 0 args,loc:=[]} u:=by kernel_rfl):hx aH f args.toArray ss u K:=LV zA (oh _ _) ac aa il ae O (Eq.mp eI h)
def aeK(a0:U)(cc cp hI nz nA:o)(a2 a3:U)(a4 a5:o)(u:H)(K:aD->Q):=bG 8 #[vs a0,cD #[ah cc,ah cp,ah hI,ah nz,bA nA],vs a2,vs a3,ah a4,ah a5] eH u K
def aeJ(a0:U)(cc cp hI nz nA:o)(a2 a3:U)(a4 a5:o)(u:H)(K:aD->Q):=bG 10 #[vs a0,cD #[ah cc,ah cp,ah hI,ah nz,bA nA],vs a2,vs a3,ah a4,ah a5] eH u K
def QC(a0 Z:U)(u:H)(K:aD->Q):=bG 11 #[vs a0,vs Z] eH u K
def K2(a0:U)(Z yE CG w2 QZ Q0:o)(u:H)(K:b1->o->Q):=bG 12 #[vs a0,ah Z,cD #[ah yE,ah CG,ah w2,ah QZ,bA Q0]] [bf.one aE.ptr,bf.one (aE.int bY)] u K
def vq(u:H)(K:aD->Q):=bG 13 #[] eH u K
def QD(a0:b1)(Z:U)(u:H)(K:Q):=bG 14 #[aZ a0,vs Z] [] u K
def KU(a0:b1)(Z:U)(a2 a3:o)(u:H)(K:U->U->U->o->Q):=bG 15 #[aZ a0,vs Z,ah a2,ah a3] [bf.agg [aE.slice,aE.slice,aE.slice],bf.one (aE.int bY)] u K
def V3(a0 Z:U)(u:H)(K:aD->Q):=bG 16 #[vs a0,vs Z] eH u K
def Qf(a0:b1)(u:H)(K:o->Q):=bG 17 #[aZ a0] cx u K
def Em(a0 Z:U)(a2:o)(u:H)(K:U->o->Q):=bG 22 #[vs a0,vs Z,ah a2] [bf.one aE.slice,bf.one (aE.int bY)] u K
def KT(a0:b1)(u:H)(K:U->Q):=bG 23 #[aZ a0] bg u K
def Ek(a0:b1)(cc:o)(cp:U)(u:H)(K:aD->o->Q):=bG 24 #[aZ a0,cD #[ah cc,vs cp]] [bf.one aE.bool,bf.one (aE.int bY)] u K
def Qe(a0:b1)(Z:o)(u:H)(K:aD->o->Q):=bG 26 #[aZ a0,ah Z] [bf.one aE.bool,bf.one (aE.int bY)] u K
def Wc(a0:U)(Z:o)(yE CG w2:U)(u:H)(K:aD->Q):=bG 27 #[vs a0,ah Z,cD #[vs yE,vs CG,vs w2]] eH u K
def Qg(a0 Z:U)(a2:o)(w3 w4 vz:U)(u:H)(K:aD->o->Q):=bG 31 #[vs a0,vs Z,ah a2,cD #[vs w3,vs w4,vs vz]] [bf.one aE.bool,bf.one (aE.int bY)] u K
def Vt(a0 Z:U)(a2:o)(w3 w4 vz:U)(u:H)(K:aD->o->Q):=bG 32 #[vs a0,vs Z,ah a2,cD #[vs w3,vs w4,vs vz]] [bf.one aE.bool,bf.one (aE.int bY)] u K
def V4(a0:U)(Z:o)(u:H)(K:o->Q):=bG 33 #[vs a0,ah Z] cx u K
def Vp(bI bN da ei Z:o)(a2:U)(a3:o)(u:H)(K:b1->o->Q):=bG 34 #[cD #[ah bI,ah bN,ah da,ah ei],ah Z,vs a2,bA a3] [bf.one aE.ptr,bf.one (aE.int bY)] u K
def V5(u:H)(K:U->Q):=bG 35 #[] bg u K
def Qj(a0 Z:U)(u:H)(K:o->Q):=bG 43 #[vs a0,vs Z] cx u K
def Er(a0:o)(u:H)(K:b1->o->Q):=bG 44 #[ah a0] [bf.one aE.ptr,bf.one (aE.int bY)] u K
def aek(a0 Z:U)(u:H)(K:ao->Q):=bG 45 #[vs a0,vs Z] [bf.one aE.val] u K
def Ai(a0:b1)(cc cp hI:o)(u:H)(K:aD->Q):=bG 46 #[aZ a0,cD #[ah cc,bA cp,bA hI]] eH u K
def Cr(a0:b1)(u:H)(K:U->Q):=bG 47 #[aZ a0] bg u K
def QE(bI bN cc cp:o)(u:H)(K:aD->Q):=bG 49 #[cD #[bA bI,bA bN],cD #[bA cc,bA cp]] eH u K
def Wb(bI:o)(bN da:U)(ei fH:o)(gm Z:U)(u:H)(K:o->o->Q):=bG 50 #[cD #[ah bI,vs bN,vs da,bA ei,bA fH,vs gm],vs Z] [bf.agg [aE.int bo,aE.int bo]] u K
def aoy(a0:o)(Z:bc)(u:H)(K:o->U->aD->Q):=bG 51 #[ah a0,aZ (some Z)] [bf.agg [aE.int bY,aE.slice],bf.one aE.bool] u K
def QI(bI:o)(bN da:U)(ei fH:o)(gm:U)(Z:o)(u:H)(K:o->Q):=bG 52 #[cD #[ah bI,vs bN,vs da,bA ei,bA fH,vs gm],ah Z] cx u K
def Wg(bI:o)(bN da:U)(ei fH:o)(gm Z:U)(u:H)(K:aD->o->Q):=bG 53 #[cD #[ah bI,vs bN,vs da,bA ei,bA fH,vs gm],vs Z] [bf.one aE.bool,bf.one (aE.int bY)] u K
def VX(a0 Z:U)(u:H)(K:aD->Q):=bG 54 #[vs a0,vs Z] eH u K
def Ct(bI:o)(bN da:U)(ei fH:o)(gm Z:U)(u:H)(K:o->o->o->Q):=bG 55 #[cD #[ah bI,vs bN,vs da,bA ei,bA fH,vs gm],vs Z] [bf.agg [aE.int bo,aE.int bo],bf.one (aE.int bY)] u K
def sR(bI bN cc cp:o)(u:H)(K:o->Q):=bG 56 #[cD #[bA bI,bA bN],cD #[bA cc,bA cp]] cx u K
def Vx(bI bN da ei:o)(u:H)(K:o->Q):=bG 57 #[cD #[ah bI,ah bN,ah da,ah ei]] cx u K
def Cp(a0:U)(Z:o)(u:H)(K:o->Q):=bG 58 #[vs a0,ah Z] cx u K
def VH(a0:U)(Z a2:o)(u:H)(K:b1->o->Q):=bG 59 #[vs a0,ah Z,ah a2] [bf.one aE.ptr,bf.one (aE.int bY)] u K
def Wh(a0:U)(Z a2 a3:o)(u:H)(K:b1->o->Q):=bG 60 #[vs a0,ah Z,ah a2,bA a3] [bf.one aE.ptr,bf.one (aE.int bY)] u K
def VF(a0:U)(Z a2 a3 a4:o)(u:H)(K:b1->o->Q):=bG 61 #[vs a0,ah Z,ah a2,ah a3,bA a4] [bf.one aE.ptr,bf.one (aE.int bY)] u K
def Ql(a0:U)(Z a2 a3:o)(u:H)(K:b1->o->Q):=bG 62 #[vs a0,ah Z,ah a2,bA a3] [bf.one aE.ptr,bf.one (aE.int bY)] u K
def r9(a0:U)(u:H)(K:U->Q):=bG 63 #[vs a0] bg u K
def VO(a0:U)(Z a2 a3 a4 a5:o)(u:H)(K:b1->o->Q):=bG 64 #[vs a0,ah Z,ah a2,ah a3,ah a4,bA a5] [bf.one aE.ptr,bf.one (aE.int bY)] u K
def qv(a0:U)(Z:o)(u:H)(K:o->Q):=bG 74 #[vs a0,ah Z] cx u K
def aoA(a0:ao)(Z a2:bc)(u:H)(K:Q):=bG 75 #[a0,aZ (some Z),aZ (some a2)] [] u K
def sa(a0 Z:U)(u:H)(K:o->o->o->Q):=bG 76 #[vs a0,vs Z] [bf.agg [aE.int bo,aE.int bo],bf.one (aE.int bY)] u K
def Ah(a0 Z:ao)(u:H)(K:Q):=bG 77 #[a0,Z] [] u K
def Cs(bI bN da cc cp hI:o)(u:H)(K:aD->Q):=bG 78 #[cD #[ah bI,bA bN,bA da],cD #[ah cc,bA cp,bA hI]] eH u K
def VA(a0:ao)(Z:o)(u:H)(K:Q):=bG 79 #[a0,ah Z] [] u K
def VS(a0:U)(u:H)(K:U->Q):=bG 80 #[vs a0] bg u K
def V1(a0:U)(Z:ao)(u:H)(K:Q):=bG 81 #[vs a0,Z] [] u K
def Wf(bI bN da cc cp hI:o)(u:H)(K:o->Q):=bG 82 #[cD #[ah bI,bA bN,bA da],cD #[ah cc,bA cp,bA hI]] cx u K
def V6(bI bN da ei fH gm l6 l7:o)(l8:aD)(cc cp hI nz nA vv vw vx:o)(vy:aD)(u:H)(K:o->Q):=bG 83 #[cD #[ah bI,ah bN,ah da,ah ei,ah fH,ah gm,ah l6,ah l7,hl l8],cD #[ah cc,ah cp,ah hI,ah nz,ah nA,ah vv,ah vw,ah vx,hl vy]] cx u K
def HA(bI bN:o)(u:H)(K:o->o->o->o->o->o->o->o->aD->Q):=bG 84 #[cD #[bA bI,bA bN]] [bf.agg [aE.int bY,aE.int bY,aE.int bY,aE.int bY,aE.int bY,aE.int bY,aE.int bY,aE.int bY,aE.bool]] u K
def K5(bI bN cc cp:o)(u:H)(K:o->o->Q):=bG 85 #[cD #[bA bI,bA bN],cD #[bA cc,bA cp]] [bf.agg [aE.int bo,aE.int bo]] u K
def K4(a0:o)(u:H)(K:o->o->Q):=bG 86 #[ah a0] [bf.agg [aE.int bo,aE.int bo]] u K
def QF(bI bN:o)(u:H)(K:o->Q):=bG 87 #[cD #[bA bI,bA bN]] [bf.one (aE.int bo)] u K
def Wa(a0 Z:U)(u:H)(K:o->o->Q):=bG 88 #[vs a0,vs Z] [bf.agg [aE.int bo,aE.int bo]] u K
def K3(a0 Z:o)(u:H)(K:o->o->Q):=bG 89 #[bA a0,bA Z] [bf.agg [aE.int bo,aE.int bo]] u K
def K6(a0:o)(u:H)(K:aD->Q):=bG 90 #[ah a0] eH u K
def QJ(bI:o)(bN da:U)(ei fH:o)(gm Z:U)(u:H)(K:o->Q):=bG 91 #[cD #[ah bI,vs bN,vs da,bA ei,bA fH,vs gm],vs Z] cx u K
def aoT(a0:o)(Z a2:bc)(u:H)(K:aD->Q):=bG 92 #[ah a0,aZ (some Z),aZ (some a2)] eH u K
def HB(a0 Z:U)(u:H)(K:o->o->Q):=bG 93 #[vs a0,vs Z] [bf.agg [aE.int bo,aE.int bo]] u K
def QL(bI bN Z a2:o)(u:H)(K:o->o->Q):=bG 94 #[cD #[bA bI,bA bN],ah Z,ah a2] [bf.agg [aE.int bo,aE.int bo]] u K
def QO(bI bN:o)(u:H)(K:o->Q):=bG 95 #[cD #[bA bI,bA bN]] [bf.one (aE.int bo)] u K
def Es(a0 Z:o)(u:H)(K:o->o->Q):=bG 96 #[bA a0,bA Z] [bf.agg [aE.int bo,aE.int bo]] u K
def Hw(a0:b1)(Z:U)(u:H)(K:b1->Q):=bG 97 #[aZ a0,vs Z] eI u K
def Qw(a0:o)(u:H)(K:b1->Q):=bG 98 #[bA a0] eI u K
def HC(a0:b1)(Z:U)(u:H)(K:b1->Q):=bG 99 #[aZ a0,vs Z] eI u K
def Qr(a0:U)(Z a2 a3:o)(u:H)(K:U->o->Q):=bG 100 #[vs a0,ah Z,ah a2,bA a3] [bf.one aE.slice,bf.one (aE.int bY)] u K
def KZ(a0:b1)(cc:o)(cp:U)(u:H)(K:Q):=bG 101 #[aZ a0,cD #[ah cc,vs cp]] [] u K
def Hv(a0:b1)(cc:o)(cp:U)(u:H)(K:Q):=bG 102 #[aZ a0,cD #[ah cc,vs cp]] [] u K
def o8(a0:U)(u:H)(K:U->Q):=bG 103 #[vs a0] bg u K
def aeH(a0:U)(Z:ao)(u:H)(K:Q):=bG 104 #[vs a0,Z] [] u K
def aoz(bI:o)(bN:U)(cc:o)(cp:U)(u:H)(K:o->Q):=bG 105 #[cD #[ah bI,vs bN],cD #[ah cc,vs cp]] cx u K
def aeD(a0:o)(Z a2 a3 a4 a5:bc)(u:H)(K:U->Q):=bG 106 #[ah a0,aZ (some Z),aZ (some a2),aZ (some a3),aZ (some a4),aZ (some a5)] bg u K
def K0(a0:U)(Z a2:o)(u:H)(K:U->Q):=bG 107 #[vs a0,ah Z,ah a2] bg u K
def KW(a0:ao)(Z:o)(u:H)(K:Q):=bG 112 #[a0,ah Z] [] u K
def KV(a0:ao)(Z a2:o)(u:H)(K:aD->Q):=bG 113 #[a0,ah Z,ah a2] eH u K
def Vv(a0:U)(u:H)(K:o->Q):=bG 116 #[vs a0] cx u K
def Vu(a0 Z:o)(u:H)(K:o->Q):=bG 117 #[ah a0,ah Z] cx u K
def V7(bI bN da ei fH gm l6 l7:o)(l8:aD)(cc cp hI nz nA vv vw vx:o)(vy:aD)(u:H)(K:o->o->o->o->o->o->o->o->aD->Q):=bG 118 #[cD #[ah bI,ah bN,ah da,ah ei,ah fH,ah gm,ah l6,ah l7,hl l8],cD #[ah cc,ah cp,ah hI,ah nz,ah nA,ah vv,ah vw,ah vx,hl vy]] [bf.agg [aE.int bY,aE.int bY,aE.int bY,aE.int bY,aE.int bY,aE.int bY,aE.int bY,aE.int bY,aE.bool]] u K
def V8(bI bN da ei fH gm l6 l7:o)(l8:aD)(u:H)(K:o->o->Q):=bG 119 #[cD #[ah bI,ah bN,ah da,ah ei,ah fH,ah gm,ah l6,ah l7,hl l8]] [bf.agg [aE.int bo,aE.int bo]] u K
def QN(bI bN cc cp:o)(u:H)(K:o->o->o->Q):=bG 120 #[cD #[bA bI,bA bN],cD #[bA cc,bA cp]] [bf.agg [aE.int bo,aE.int bo],bf.one (aE.int bY)] u K
def Vs(a0 Z:o)(u:H)(K:o->o->Q):=bG 121 #[bA a0,bA Z] [bf.one (aE.int bo),bf.one (aE.int bo)] u K
def aeB(a0:U)(Z a2:bc)(u:H)(K:b1->Q):=bG 122 #[vs a0,aZ (some Z),aZ (some a2)] eI u K
def QH(a0:U)(Z:o)(u:H)(K:o->U->U->o->o->U->o->Q):=bG 123 #[vs a0,ah Z] [bf.agg [aE.int bY,aE.slice,aE.slice,aE.int bo,aE.int bo,aE.slice],bf.one (aE.int bY)] u K
def QA(a0:U)(Z:ao)(u:H)(K:Q):=bG 124 #[vs a0,Z] [] u K
def aoL(bI:o)(bN:U)(cc:o)(cp:U)(a2:bc)(u:H)(K:o->Q):=bG 125 #[cD #[ah bI,vs bN],cD #[ah cc,vs cp],aZ (some a2)] cx u K
def n2(a0:U)(u:H)(K:U->Q):=bG 126 #[vs a0] bg u K
def aeT(a0:U)(Z a2:bc)(u:H)(K:b1->Q):=bG 127 #[vs a0,aZ (some Z),aZ (some a2)] eI u K
def VP(a0:b1)(Z:o)(u:H)(K:o->o->Q):=bG 128 #[aZ a0,ah Z] [bf.one (aE.int bY),bf.one (aE.int bY)] u K
def QG(a0 Z:U)(u:H)(K:o->U->U->o->o->U->o->Q):=bG 129 #[vs a0,vs Z] [bf.agg [aE.int bY,aE.slice,aE.slice,aE.int bo,aE.int bo,aE.slice],bf.one (aE.int bY)] u K
def aoV(bI:o)(bN:U)(Z:bc)(u:H)(K:o->o->Q):=bG 130 #[cD #[ah bI,vs bN],aZ (some Z)] [bf.agg [aE.int bo,aE.int bo]] u K
def aoW(bI:o)(bN:U)(cc:o)(cp:U)(a2:bc)(u:H)(K:o->Q):=bG 131 #[cD #[ah bI,vs bN],cD #[ah cc,vs cp],aZ (some a2)] cx u K
def Qs(a0:U)(Z:o)(u:H)(K:o->Q):=bG 132 #[vs a0,ah Z] cx u K
def VR(a0:b1)(Z:o)(u:H)(K:U->o->Q):=bG 133 #[aZ a0,ah Z] [bf.one aE.slice,bf.one (aE.int bY)] u K
def aeC(a0 Z a2 a3:bc)(u:H)(K:Q):=bG 134 #[aZ (some a0),aZ (some Z),aZ (some a2),aZ (some a3)] [] u K
def Qt(a0 Z:U)(u:H)(K:o->o->o->Q):=bG 135 #[vs a0,vs Z] [bf.one (aE.int bY),bf.agg [aE.int bo,aE.int bo]] u K
def VI(a0 Z:o)(u:H)(K:o->Q):=bG 136 #[ah a0,ah Z] cx u K
def Hx(a0 Z:U)(u:H)(K:o->o->o->o->Q):=bG 137 #[vs a0,vs Z] [bf.one (aE.int bY),bf.agg [aE.int bo,aE.int bo],bf.one (aE.int bY)] u K
def VQ(a0:b1)(Z:o)(u:H)(K:o->o->Q):=bG 138 #[aZ a0,ah Z] [bf.one (aE.int bY),bf.one (aE.int bY)] u K
def KY(a0:b1)(Z:o)(a2:U)(a3:o)(a4:ao)(u:H)(K:Q):=bG 139 #[aZ a0,ah Z,vs a2,ah a3,a4] [] u K
def Qp(a0:b1)(Z:U)(a2:o)(u:H)(K:o->Q):=bG 140 #[aZ a0,vs Z,ah a2] cx u K
def aoF(bI bN da:o)(Z a2 a3:bc)(u:H)(K:aD->Q):=bG 141 #[cD #[ah bI,bA bN,bA da],aZ (some Z),aZ (some a2),aZ (some a3)] eH u K
def Qn(a0:b1)(Z a2 a3:o)(u:H)(K:Q):=bG 142 #[aZ a0,ah Z,ah a2,ah a3] [] u K
def Vw(a0:o)(u:H)(K:aD->Q):=bG 160 #[ah a0] eH u K
def V9(bI bN da ei fH gm l6 l7:o)(l8:aD)(Z a2:o)(u:H)(K:o->o->o->o->o->o->o->o->aD->Q):=bG 161 #[cD #[ah bI,ah bN,ah da,ah ei,ah fH,ah gm,ah l6,ah l7,hl l8],ah Z,ah a2] [bf.agg [aE.int bY,aE.int bY,aE.int bY,aE.int bY,aE.int bY,aE.int bY,aE.int bY,aE.int bY,aE.bool]] u K
def QK(a0:U)(Z:o)(u:H)(K:U->o->Q):=bG 163 #[vs a0,ah Z] [bf.one aE.slice,bf.one (aE.int bY)] u K
def aeI(a0:U)(Z:o)(a2:ao)(u:H)(K:Q):=bG 164 #[vs a0,ah Z,a2] [] u K
def Qx(a0:b1)(Z a2 a3:o)(u:H)(K:o->Q):=bG 165 #[aZ a0,ah Z,ah a2,ah a3] cx u K
def Hy(a0:b1)(u:H)(K:o->Q):=bG 166 #[aZ a0] [bf.one (aE.int bo)] u K
def aeE(a0:b1)(Z:o)(u:H)(K:ao->Q):=bG 167 #[aZ a0,ah Z] [bf.one aE.val] u K
def VJ(a0:U)(u:H)(K:o->Q):=bG 168 #[vs a0] cx u K
def aej(a0:o)(u:H)(K:o->Q):=bG 169 #[bA a0] cx u K
def yu(a0:b1)(Z:o)(a2:U)(u:H)(K:o->o->o->Q):=bG 170 #[aZ a0,ah Z,vs a2] [bf.agg [aE.int bY,aE.int bo,aE.int bo]] u K
def aep(a0:U)(u:H)(K:o->Q):=bG 171 #[vs a0] cx u K
def Ep(a0:ao)(u:H)(K:ao->Q):=bG 172 #[a0] [bf.one aE.val] u K
def VE(a0:b1)(Z:o)(a2:U)(a3:o)(u:H)(K:o->Q):=bG 173 #[aZ a0,ah Z,vs a2,ah a3] cx u K
def Qo(a0:b1)(Z:o)(u:H)(K:o->Q):=bG 174 #[aZ a0,ah Z] cx u K
def aeG(a0:U)(Z:ao)(u:H)(K:Q):=bG 175 #[vs a0,Z] [] u K
def aeo(a0 Z:o)(a2 a3:bc)(u:H)(K:o->Q):=bG 176 #[ah a0,ah Z,aZ (some a2),aZ (some a3)] cx u K
def QB(a0:U)(Z a2:o)(a3:ao)(u:H)(K:Q):=bG 177 #[vs a0,ah Z,ah a2,a3] [] u K
def Cq(a0:U)(u:H)(K:Q):=bG 193 #[vs a0] [] u K
def Hz(a0:U)(Z a2 a3:o)(a4:ao)(u:H)(K:Q):=bG 194 #[vs a0,ah Z,ah a2,ah a3,a4] [] u K
def aoQ(a0:ao)(Z a2:bc)(u:H)(K:Q):=bG 195 #[a0,aZ (some Z),aZ (some a2)] [] u K
def V2(a0:U)(Z a2 a3:o)(a4:ao)(u:H)(K:Q):=bG 204 #[vs a0,ah Z,ah a2,ah a3,a4] [] u K
def K1(a0:U)(Z a2 a3:o)(a4:ao)(u:H)(K:Q):=bG 223 #[vs a0,ah Z,ah a2,ah a3,a4] [] u K
def Wd(a0:b1)(u:H)(K:aD->Q):=bG 249 #[aZ a0] eH u K
def We(a0:b1)(u:H)(K:o->Q):=bG 250 #[aZ a0] cx u K
def Qq(a0:b1)(Z:o)(u:H)(K:aD->o->Q):=bG 251 #[aZ a0,ah Z] [bf.one aE.bool,bf.one (aE.int bY)] u K
def aex(a0:b1)(u:H)(K:o->Q):=bG 252 #[aZ a0] cx u K
def aey(a0:b1)(cc:o)(cp:U)(u:H)(K:aD->o->Q):=bG 253 #[aZ a0,cD #[ah cc,vs cp]] [bf.one aE.bool,bf.one (aE.int bY)] u K
def aez(a0:b1)(u:H)(K:U->Q):=bG 254 #[aZ a0] bg u K
def aeA(a0:b1)(Z:U)(a2 a3:o)(u:H)(K:U->U->U->o->Q):=bG 255 #[aZ a0,vs Z,ah a2,ah a3] [bf.agg [aE.slice,aE.slice,aE.slice],bf.one (aE.int bY)] u K
def aew(a0:b1)(Z a2:bc)(u:H)(K:Q):=bG 256 #[aZ a0,aZ (some Z),aZ (some a2)] [] u K
def Qy(a0:U)(Z:ao)(u:H)(K:U->Q):=bG 257 #[vs a0,Z] bg u K
def aoJ(bI:o)(bN:U)(Z:bc)(u:H)(K:aD->Q):=bG 258 #[cD #[ah bI,vs bN],aZ (some Z)] eH u K
def El(bI:o)(bN:U)(Z:o)(a2:aD)(a3:o)(u:H)(K:o->Q):=bG 259 #[cD #[ah bI,vs bN],ah Z,hl a2,ah a3] cx u K
def Co(a0:U)(Z a2 a3:o)(u:H)(K:o->Q):=bG 260 #[vs a0,ah Z,ah a2,ah a3] cx u K
def aoK(a0:b1)(Z:bc)(u:H)(K:Q):=bG 261 #[aZ a0,aZ (some Z)] [] u K
def aoM(a0:b1)(Z a2:U)(a3 a4:o)(u:H)(K:U->U->U->Q):=bG 262 #[aZ a0,vs Z,vs a2,ah a3,ah a4] [bf.agg [aE.slice,aE.slice,aE.slice]] u K
def Qz(a0:U)(Z:ao)(u:H)(K:o->Q):=bG 263 #[vs a0,Z] cx u K
def Eo(a0 Z:U)(a2 a3:o)(u:H)(K:U->U->U->Q):=bG 264 #[vs a0,vs Z,ah a2,ah a3] [bf.agg [aE.slice,aE.slice,aE.slice]] u K
def Vy(a0:b1)(Z a2:bc)(u:H)(K:Q):=bG 265 #[aZ a0,aZ (some Z),aZ (some a2)] [] u K
def Vz(bI bN:o)(Z:bc)(u:H)(K:aD->Q):=bG 266 #[cD #[bA bI,bA bN],aZ (some Z)] eH u K
def aeL(a0:b1)(u:H)(K:o->o->o->aD->Q):=bG 267 #[aZ a0] [bf.agg [aE.int bY,aE.int bo,aE.int bo],bf.one aE.bool] u K
def ael(a0:U)(u:H)(K:o->Q):=bG 268 #[vs a0] cx u K
def Qk(bI:o)(bN da:U)(ei fH:o)(gm Z:U)(u:H)(K:o->U->U->o->o->U->Q):=bG 269 #[cD #[ah bI,vs bN,vs da,bA ei,bA fH,vs gm],vs Z] [bf.agg [aE.int bY,aE.slice,aE.slice,aE.int bo,aE.int bo,aE.slice]] u K
def Qh(a0:b1)(u:H)(K:U->Q):=bG 270 #[aZ a0] bg u K
def QM(a0:b1)(Z:o)(u:H)(K:aD->o->Q):=bG 271 #[aZ a0,ah Z] [bf.one aE.bool,bf.one (aE.int bY)] u K
def aeP(a0:b1)(u:H)(K:o->Q):=bG 272 #[aZ a0] cx u K
def aeQ(a0:b1)(cc:o)(cp:U)(u:H)(K:aD->o->Q):=bG 273 #[aZ a0,cD #[ah cc,vs cp]] [bf.one aE.bool,bf.one (aE.int bY)] u K
def aeR(a0:b1)(u:H)(K:U->Q):=bG 274 #[aZ a0] bg u K
def aeS(a0:b1)(Z:U)(a2 a3:o)(u:H)(K:U->U->U->o->Q):=bG 275 #[aZ a0,vs Z,ah a2,ah a3] [bf.agg [aE.slice,aE.slice,aE.slice],bf.one (aE.int bY)] u K
def aeO(a0:b1)(Z a2:bc)(u:H)(K:Q):=bG 276 #[aZ a0,aZ (some Z),aZ (some a2)] [] u K
def aoU(bI:o)(bN:U)(Z:bc)(u:H)(K:aD->Q):=bG 277 #[cD #[ah bI,vs bN],aZ (some Z)] eH u K
def Wi(a0:b1)(Z:U)(u:H)(K:o->o->Q):=bG 278 #[aZ a0,vs Z] [bf.agg [aE.int bo,aE.int bo]] u K
def VG(a0:b1)(Z:o)(u:H)(K:aD->o->Q):=bG 279 #[aZ a0,ah Z] [bf.one aE.bool,bf.one (aE.int bY)] u K
def aes(a0:b1)(u:H)(K:o->Q):=bG 280 #[aZ a0] cx u K
def aet(a0:b1)(cc:o)(cp:U)(u:H)(K:aD->o->Q):=bG 281 #[aZ a0,cD #[ah cc,vs cp]] [bf.one aE.bool,bf.one (aE.int bY)] u K
def aeu(a0:b1)(u:H)(K:U->Q):=bG 282 #[aZ a0] bg u K
def aev(a0:b1)(Z:U)(a2 a3:o)(u:H)(K:U->U->U->o->Q):=bG 283 #[aZ a0,vs Z,ah a2,ah a3] [bf.agg [aE.slice,aE.slice,aE.slice],bf.one (aE.int bY)] u K
def aoI(bI:o)(bN:U)(Z:bc)(u:H)(K:aD->Q):=bG 284 #[cD #[ah bI,vs bN],aZ (some Z)] eH u K
def VU(a0:U)(u:H)(K:U->Q):=bG 285 #[vs a0] bg u K
def VY(a0:U)(Z:o)(u:H)(K:U->Q):=bG 286 #[vs a0,ah Z] bg u K
def Qm(a0:b1)(Z:o)(u:H)(K:aD->o->Q):=bG 287 #[aZ a0,ah Z] [bf.one aE.bool,bf.one (aE.int bY)] u K
def VB(a0:b1)(u:H)(K:o->Q):=bG 288 #[aZ a0] cx u K
def KX(a0:b1)(cc:o)(cp:U)(u:H)(K:aD->o->Q):=bG 289 #[aZ a0,cD #[ah cc,vs cp]] [bf.one aE.bool,bf.one (aE.int bY)] u K
def VC(a0:b1)(u:H)(K:U->Q):=bG 290 #[aZ a0] bg u K
def VD(a0:b1)(Z:U)(a2 a3:o)(u:H)(K:U->U->U->o->Q):=bG 291 #[aZ a0,vs Z,ah a2,ah a3] [bf.agg [aE.slice,aE.slice,aE.slice],bf.one (aE.int bY)] u K
def VW(a0:U)(Z:ao)(u:H)(K:U->Q):=bG 292 #[vs a0,Z] bg u K
def aoD(a0:o)(Z:bc)(u:H)(K:aD->Q):=bG 293 #[ah a0,aZ (some Z)] eH u K
def VV(a0:U)(Z:o)(u:H)(K:aD->Q):=bG 294 #[vs a0,ah Z] eH u K
def vp(a0:ao)(u:H)(K:U->Q):=bG 295 #[a0] bg u K
def Qu(a0:aA N)(u:H)(K:ao->Q):=bG 296 #[dH a0] [bf.one aE.val] u K
def aoE(bI bN da:o)(Z a2 a3:bc)(u:H)(K:aD->Q):=bG 297 #[cD #[ah bI,bA bN,bA da],aZ (some Z),aZ (some a2),aZ (some a3)] eH u K
def Qv(a0:aA N)(u:H)(K:ao->Q):=bG 298 #[dH a0] [bf.one aE.val] u K
def VZ(a0:U)(Z:ao)(u:H)(K:o->Q):=bG 299 #[vs a0,Z] cx u K
def V0(a0:U)(Z:o)(u:H)(K:o->Q):=bG 300 #[vs a0,ah Z] cx u K
def VT(a0:ao)(u:H)(K:U->Q):=bG 301 #[a0] bg u K
def aoN(a0:ao)(Z:bc)(u:H)(K:Q):=bG 302 #[a0,aZ (some Z)] [] u K
def aoP(a0:ao)(Z:bc)(u:H)(K:Q):=bG 303 #[a0,aZ (some Z)] [] u K
def aeF(a0:U)(Z:ao)(u:H)(K:U->Q):=bG 304 #[vs a0,Z] bg u K
def aeg(a0:b1)(Z:o)(u:H)(K:aD->o->Q):=bG 305 #[aZ a0,ah Z] [bf.one aE.bool,bf.one (aE.int bY)] u K
def aeh(a0:b1)(u:H)(K:o->Q):=bG 306 #[aZ a0] cx u K
def Vq(a0:b1)(cc:o)(cp:U)(u:H)(K:aD->o->Q):=bG 307 #[aZ a0,cD #[ah cc,vs cp]] [bf.one aE.bool,bf.one (aE.int bY)] u K
def Vr(a0:b1)(u:H)(K:U->Q):=bG 308 #[aZ a0] bg u K
def aei(a0:b1)(Z:U)(a2 a3:o)(u:H)(K:U->U->U->o->Q):=bG 309 #[aZ a0,vs Z,ah a2,ah a3] [bf.agg [aE.slice,aE.slice,aE.slice],bf.one (aE.int bY)] u K
def Qi(a0 Z:U)(a2 a3:o)(u:H)(K:U->U->U->o->Q):=bG 310 #[vs a0,vs Z,ah a2,ah a3] [bf.agg [aE.slice,aE.slice,aE.slice],bf.one (aE.int bY)] u K
def aed(a0:b1)(cc:o)(cp:U)(u:H)(K:aD->o->Q):=bG 311 #[aZ a0,cD #[ah cc,vs cp]] [bf.one aE.bool,bf.one (aE.int bY)] u K
def aee(a0:b1)(Z:U)(a2 a3:o)(u:H)(K:U->U->U->o->Q):=bG 312 #[aZ a0,vs Z,ah a2,ah a3] [bf.agg [aE.slice,aE.slice,aE.slice],bf.one (aE.int bY)] u K
def VL(a0:b1)(Z:U)(u:H)(K:U->o->Q):=bG 313 #[aZ a0,vs Z] [bf.one aE.slice,bf.one (aE.int bY)] u K
def VM(a0:b1)(Z:U)(u:H)(K:U->o->Q):=bG 314 #[aZ a0,vs Z] [bf.one aE.slice,bf.one (aE.int bY)] u K
def VK(a0:aA N)(u:H)(K:ao->Q):=bG 315 #[dH a0] [bf.one aE.val] u K
def VN(a0 Z:U)(u:H)(K:o->o->o->Q):=bG 316 #[vs a0,vs Z] [bf.agg [aE.int bo,aE.int bo],bf.one (aE.int bY)] u K
def aef(bI bN da cc cp hI:o)(u:H)(K:o->Q):=bG 317 #[cD #[ah bI,bA bN,bA da],cD #[ah cc,bA cp,bA hI]] cx u K
def aoO(a0:ao)(Z:bc)(u:H)(K:Q):=bG 318 #[a0,aZ (some Z)] [] u K
def aoR(a0:U)(u:H)(K:o->Q):=bG 320 #[vs a0] cx u K
def aeM(a0:U)(Z a2:o)(u:H)(K:aD->Q):=bG 321 #[vs a0,ah Z,ah a2] eH u K
def aeN(a0:U)(Z a2:o)(u:H)(K:Q):=bG 322 #[vs a0,ah Z,ah a2] [] u K
def aoS(a0:b1)(Z:ao)(u:H)(K:Q):=bG 324 #[aZ a0,Z] [] u K
def aeq(a0:U)(Z a2:o)(u:H)(K:aD->Q):=bG 325 #[vs a0,ah Z,ah a2] eH u K
def aer(a0:U)(Z a2:o)(u:H)(K:Q):=bG 326 #[vs a0,ah Z,ah a2] [] u K
def aoG(a0:b1)(u:H)(K:ao->Q):=bG 327 #[aZ a0] [bf.one aE.val] u K
def aoH(a0:b1)(Z:ao)(u:H)(K:Q):=bG 328 #[aZ a0,Z] [] u K
def aem(a0:U)(Z a2:o)(u:H)(K:aD->Q):=bG 330 #[vs a0,ah Z,ah a2] eH u K
def aen(a0:U)(Z a2:o)(u:H)(K:Q):=bG 331 #[vs a0,ah Z,ah a2] [] u K
def aoB(a0:b1)(u:H)(K:ao->Q):=bG 332 #[aZ a0] [bf.one aE.val] u K
def aoC(a0:b1)(Z:ao)(u:H)(K:Q):=bG 333 #[aZ a0,Z] [] u K
def bh.of(h1:-9223372036854775808<=x)(h2:x<=9223372036854775807):bh x:=⟨h1,h2⟩
def H.qE(h:u.le u'){a:bc}{v:ao}(e:u.cell? a=some v):u'.cell? a=some v:=by unfold H.cell? at e ⊢;split at e;rename_i c t f aa;rw[h _ _ aa];exact e;cases e
def c9.pure{m:Sem ao}{K:hy (gT ss) (H->Prop)}(vs:M ao)(h:∀w,Sub u w->m.run P w=.ok (xg ss vs) w)
  (hk:pO (gT ss) vs) (av:hY (gT ss) K vs λr=>r u):c9 P m ss u K:=
 λw hw=>⟨_,w,u,h w hw,⟨vs,hk,rfl,av⟩,Step.refl hw⟩
structure bz(u:H)(s:U)(size:N)(xs:M ao):Prop where
 len:xs.length=s.n*size
 cap:s.n<=s.c
 max:s.c<=9223372036854775807
 at':xs=[]∨∃p,s.a=some p/\∀i v,xs[i]?=some v->u.cell? (p.add i)=some v
def bz.mono(h:bz u s size xs)(k:u.le u'):bz u' s size xs:=
 ⟨h.len,h.cap,h.max,h.at'.imp id λ⟨p,h1,h2⟩=>⟨p,h1,λi v e=>H.qE k (h2 i v e)⟩⟩
def bz.get(h:bz u s size xs)(hi:i<xs.length):∃p,s.a=some p/\∀i v,xs[i]?=some v->u.cell? (p.add i)=some v:=by rcases h.at' with h|h;subst h;simp at hi;exact h
def Ints(u:H)(s:U)(l:M o):Prop:=bz u s 1 (l.map λx=>.int .i64 x)
def Ints.mono(h:Ints u s l)(k:u.le u'):Ints u' s l:=bz.mono h k
def Ints.len(h:Ints u s l):s.n=l.length:=by have:=bz.len h;simp at this;exact this.symm
def Ints.max(h:Ints u s l):s.n<=9223372036854775807:=jo (bz.cap h) (bz.max h)
def Ints.read(h:Ints u s l)(h0:0<=x)(h1:x<(s.n:o)):
  ∃p,s.a=some p/\∃(ap:x.toNat<l.length),u.cell? (p.add (x.toNat*1))=some (.int .i64 l[x.toNat]):=by
 have ae:=h.len
 have bw:x.toNat<l.length:=by omega
 obtain⟨p,ad,I⟩:=bz.get h (i:=x.toNat) (by simpa using bw)
 refine⟨p,ad,bw,?_⟩
 rw[wu]
 exact I _ _ (by simp[bw])
def Ints.at(h:Ints u s l)(h0:0<=x)(h1:x<(s.n:o)):∃p,s.a=some p/\u.cell? (p.add (x.toNat*1))=some (.int .i64 (l.getD x.toNat 0)):=by obtain⟨p,ad,ap,I⟩:=h.read h0 h1;exact⟨p,ad,by rw[I];simp[ap]⟩
def Step.BD(hw:Sub u w)(z:Obj):Step u [] w (u.ins w.heap.size z) [] (w.alloc z):=
 (Fits.BD (s:={n:=0,env:=[],loc:=[]}) (a:={tmps:=#[],defers:=[]}) (bs:=[]) (w:=w) ⟨⟨rfl,rfl,λ_ h=>by cases h⟩,rfl,λ_ _ h=>by simp at h,by simp,by simp,hw⟩ z).2
def c9.one{m:Sem ao}{c:aE}{K:c.den->H->Prop}
  (h:∀w,Sub u w->∃x w' u',m.run P w=.ok (c.enc x) w'/\K x u'/\Step u [] w u' [] w'):c9 P m [.one c] u K:=by
 intro w hw
 obtain⟨x,w',u',h1,h2,h3⟩:=h w hw
 exact⟨_,w',u',h1,⟨[c.enc x],.cons x .nil,rfl,(aE.ra c x _).2 h2⟩,h3⟩
def c9.Gy{m:Sem ao}{c:aE}{K:c.den->H->Prop}(x:c.den)(h:∀w,Sub u w->m.run P w=.ok (c.enc x) w)(av:K x u):c9 P m [.one c] u K:=
 .one λw hw=>⟨x,w,u,h w hw,av,Step.refl hw⟩
def kI(P:dT)(t:dF):aA (dF×N×N×M ao):=
 match P.underlying t with
 |some (.slice e)=>match P.info? e with
  |some i=>match i.zero with
   |some Y=>match jB Y.cells.size i.size with
    |true=>some (e,i.size,i.bytes,Y.cells.toList)|false=>none
   |none=>none
  |none=>none
 |_=>none
def vE(h:kI P t=some (e,size,bytes,zs)):
  P.underlying t=some (.slice e)/\∃i Y,P.info? e=some i/\i.zero=some Y/\i.size=size/\i.bytes=bytes/\Y.cells.size=size/\Y.cells.toList=zs:=by
 unfold kI at h
 split at h
 rename_i fW hu
 split at h
 rename_i i hi
 split at h
 rename_i Y aC
 split at h
 rename_i aa
 cases h
 exact⟨hu,i,Y,hi,aC,rfl,rfl,mr aa,rfl⟩
 cases h
 cases h
 cases h
 cases h
def U.al(s:U):aA N:=s.a.map (·.block)
structure Own(u:H)(e size:N)(s:U)(xs:M ao):Prop where
 len:xs.length=s.n*size
 is:(s=⟨none,0,0⟩)∨∃g cur,s.a=some ⟨g,0,none⟩/\u g=some (.cells cur e (0,0))/\s.n<=s.c/\s.c<=9223372036854775807/\cur.size=s.c*size/\cur.toList.take (s.n*size)=xs
def Gq:maxLen=9223372036854775807:=by decide
def H.Lt(u:H)(g:N)(c:cv ao)(e:dF)(H8:N×N)(i:N):(u.ins g (.cells c e H8)).cell? ⟨g,i,none⟩=c[i]?:=by simp[H.cell?,H.ins]
def H.a8{c:cv ao}{H8:N×N}(h:u g=some (.cells c e H8))(i:N):u.cell? ⟨g,i,none⟩=c[i]?:=by simp[H.cell?,h]
def Own.cI{e:N}(h:Own u e size s xs):bz u s size xs:=by rcases h.is with h1|⟨g,cur,ay,W,ae,I,ag,ht⟩;subst h1;refine⟨h.len,by simp,by simp,.inl ?_⟩;have:=h.len;simpa using this;refine⟨h.len,ae,I,.inr ⟨_,ay,λi v e=>?_⟩⟩;rw[iP,ki,H.a8 W];rw[<-ht] at e;rw[JT] at e;split at e;simpa using e;cases e
def Own.le{e:N}(h:Own u e size s xs)(k:∀b z,s.al=some b->u b=some z->u' b=some z):Own u' e size s xs:=
 ⟨h.len,h.is.imp id λ⟨g,cur,ay,W,r⟩=>⟨g,cur,ay,k g _ (by simp[U.al,ay]) W,r⟩⟩
def Own.nil(u:H)(e size:N):Own u e size ⟨none,0,0⟩ []:=⟨by simp,.inl rfl⟩
structure K9(u u':H)(s au:U):Prop where
 rest:∀b z,u b=some z->s.al≠some b->u' b=some z
 al:au.al=s.al∨∃g,au.al=some g/\u g=none
def K9.le{au:U}(h:K9 u u' s au)(k:aj.le u)(ag:∀g,s.al=some g->aj g=none):aj.le u':=by intro b z e;refine h.rest b z (k b z e) λaa=>?_;rw[ag b aa] at e;cases e
def K9.out{au:U}(h:K9 u u' s au)(k:aj.le u)(ag:∀g,s.al=some g->aj g=none):∀g,au.al=some g->aj g=none:=by
 intro g W;rcases h.al with e|⟨b2,e,ae⟩;exact ag g (by rw[<-e];exact W);rw[e] at W;cases W;cases J:aj g with
 |none=>rfl|some z=>rw[k _ _ J] at ae;cases ae
def anl(hw:Sub u w)(z:Obj):Step u [] w (u.ins w.heap.size z) [] (w.drew.alloc z)/\u w.heap.size=none:=
 ⟨(Step.Rm hw (GL w.drawn)).trans (Step.BD (w:=w.drew) hw z),hw.none (cC _)⟩
def aB7(hw:Sub u w){cur:cv ao}(W:u g=some (.cells cur e (0,0)))(cs:cv ao):
  Step u [] w (u.ins g (.cells cs e (0,0))) [] (w.setRow g cs):=by
 have MN:=hw _ _ W
 have ag:(w.setRow g cs).heap.size=w.heap.size:=by simp[World.setRow]
 refine⟨λb z h=>?_,rfl,rfl,rfl,cC _,by rw[ag];exact cC _,λb _ aa _=>?_,λb _ aa=>?_,[],by simp,by simp⟩
 unfold H.ins at h
 split at h
 rename_i oj;subst oj;cases h;exact setRow_heap w b cur cs e (0,0) MN
 rename_i oj;rw[setRow_other w g b cs oj];exact hw b z h
 have:b≠g:=λh=>by rw[h,W] at aa;cases aa
 exact setRow_other w g b cs this
 have:b≠g:=λh=>by rw[h,W] at aa;cases aa
 rw[bq u _ this];exact aa
def bz.world(hw:Sub u w)(h:bz u s size xs){p:bc}(ad:s.a=some p):∀j v,xs[j]?=some v->w.cell? (p.add j)=some v:=by intro j v e;rcases h.at' with h|⟨q,aL,I⟩;subst h;simp at e;rw[ad] at aL;cases aL;exact hw.cell (I j v e)
def asl(Y:cv ao){abD cap:N}(aC:Y.size=size)(h:abD<=cap)(J:xs.length=abD*size):
  (xs.toArray++wv Y (cap-abD)).size=cap*size:=by
 simp only[ab9,ww,size_zeroCells,aC,J,<-DM]
 congr 1
 omega
def acV{fB:dF}(aT:kI P t=some (e,size,bytes,zs)){x:U}
  (ag:bz u s size xs) (J:bz u x size e9) (FR:s.c<s.n+x.n) (iU:s=⟨none,0,0⟩∨s.a≠none) (Du:x.a≠none) (hm:s.n+x.n<=9223372036854775807) (aa:(s.n+x.n)*bytes<=140737488355328)
  (av:∀g c cur,u g=none->Own (u.ins g (.cells cur e (0,0))) e size ⟨some ⟨g,0,none⟩,s.n+x.n,c⟩ (xs++e9)->K ⟨some ⟨g,0,none⟩,s.n+x.n,c⟩ (u.ins g (.cells cur e (0,0)))):
  c9 P (ee #[t,t] fB #[.slice s.a s.n s.c,.slice x.a x.n x.c]) [.one .slice] u K:=by
 obtain⟨ht,i,Y,hi,aC,qN,y3,Bt,_⟩:=vE aT
 subst qN
 subst y3
 refine .one (c:=.slice) λw hw=>?_
 obtain⟨q,aL⟩:=fj.1 Du
 have aiV:=J.world hw aL
 have hlen:(xs++e9).length=(s.n+x.n)*i.size:=by rw[eD,ag.len,J.len,DM]
 have fin:∀mY (z:cv ao),(ee #[t,t] fB #[.slice s.a s.n s.c,.slice x.a x.n x.c]).run P w=.ok (.slice (some ⟨w.heap.size,0,none⟩) (s.n+x.n) (grownCap w (s.n+x.n) mY e)) (w.drew.alloc (.cells z e))->
   z=((xs++e9).toArray++wv Y.cells (grownCap w (s.n+x.n) mY e-(s.n+x.n)))->
   ∃aov w' u',(ee #[t,t] fB #[.slice s.a s.n s.c,.slice x.a x.n x.c]).run P w=.ok (aE.slice.enc aov) w'/\K aov u'/\Step u [] w u' [] w':=by
  intro mY z O ab
  have fO:=grownCap_ge w (s.n+x.n) mY e
  have cL:=grownCap_le_maxLen w (s.n+x.n) mY e (by rw[Gq];exact hm)
  rw[Gq] at cL
  have dY:=anl hw (.cells z e)
  refine⟨⟨some ⟨w.heap.size,0,none⟩,s.n+x.n,grownCap w (s.n+x.n) mY e⟩,_,_,O,av _ _ _ dY.2 ⟨hlen,.inr ⟨w.heap.size,z,rfl,bi _ _ _,fO,cL,?_,?_⟩⟩,dY.1⟩
  rw[ab];exact asl Y.cells Bt fO hlen
  rw[ab]
  simp only[Array.toList_append]
  rw[<-hlen]
  exact TO
 rcases iU with h0|h0
 subst h0
 have awV:xs=[]:=by simpa using ag.len
 subst awV
 simp only[ki] at*
 have O:=run_append_nil (P:=P) w t fB e i Y ht hi aC q x.n x.c e9 J.len aiV (by omega) (by omega) (by omega)
 rw[aL]
 rw[aL] at fin
 exact fin 0 _ O (by simp)
 obtain⟨p,ad⟩:=fj.1 h0
 have O:=run_append_grow (P:=P) w t fB e i Y ht hi aC p s.n s.c xs ag.len (ag.world hw ad) q x.n x.c e9 J.len aiV FR (by omega) (growslice_fits FR aa)
 rw[ad,aL]
 rw[ad,aL] at fin
 exact fin s.c _ O (by simp)
def acU{fB:dF}(aT:kI P t=some (e,size,bytes,zs))(c0:0<size){x:U}
  (ab:Own u e size s xs) (J:bz u x size e9) (h1:∀y∈e9,y.oneCell'=ak) (hm:s.n+x.n<=9223372036854775807) (aa:(s.n+x.n)*bytes<=140737488355328)
  (av:∀au u',Own u' e size au (xs++e9)->au.n=s.n+x.n->K9 u u' s au->(au=⟨none,0,0⟩↔s=⟨none,0,0⟩/\x.n=0)->K au u'):
  c9 P (ee #[t,t] fB #[.slice s.a s.n s.c,.slice x.a x.n x.c]) [.one .slice] u K:=by
 obtain⟨ht,i,Y,hi,aC,qN,y3,Bt,_⟩:=vE aT
 have avv:s.n<=s.c:=ab.cI.cap
 by_cases uQ:x.n=0
 have aaD:e9=[]:=by simpa[uQ] using J.len
 subst aaD
 refine .Gy (c:=.slice) s (λw hw=>?_) (av s u (by simpa using ab) (by omega) ⟨λ_ _ h _=>h,.inl rfl⟩ (by simp[uQ]))
 have ap:∀(y:bc),(loadCells y 0).run P w=.ok #[] w:=λy=>by simpa using run_loadCells_list (P:=P) w y [] (by simp)
 rw[uQ]
 cases uJ:s.a<;>cases Dt:x.a<;>simp[ee,ir ht,sizeOf,typeInfo,hi,Builtin.lenOf,Builtin.firstCells,avv,aE.enc,uJ,ap,storeCells]
 have Du:x.a≠none:=by intro h;rcases J.at' with bW|⟨p,ad,_⟩;have:=J.len;rw[bW] at this;simp only[oB] at this;rcases TR.1 this.symm with h|h<;>omega;rw[h] at ad;cases ad
 by_cases FR:s.n+x.n<=s.c
 rcases ab.is with h0|⟨g,cur,ay,W,ae,I,ag,uM⟩
 exfalso;subst h0;simp only[ki] at FR;omega
 obtain⟨q,aL⟩:=fj.1 Du
 refine .one (c:=.slice) λw hw=>?_
 have YL:s.n*i.size+e9.length<=cur.size:=by rw[J.len,ag,qN,<-DM];exact tG _ FR
 have O:=run_append_room (P:=P) w t fB e i ht hi g s.n s.c cur (hw _ _ W) q x.n x.c e9 (by rw[qN];exact J.len) (J.world hw aL) h1 FR YL
 rw[ay,aL,O]
 refine⟨⟨some ⟨g,0,none⟩,s.n+x.n,s.c⟩,_,_,rfl,av _ _ ⟨by rw[eD,ab.len,J.len,DM],.inr ⟨g,_,rfl,bi _ _ _,FR,I,?_,?_⟩⟩ rfl
  ⟨λb z e aa=>?_,.inl (by simp[U.al,ay])⟩ ⟨λh=>by simp at h,λh=>aV h.2 uQ⟩,aB7 hw W _⟩
 simp only[ww,eD,gq,mv,r0]
 omega
 rw[qN,uM]
 have:(xs++e9).length=(s.n+x.n)*size:=by rw[eD,ab.len,J.len,DM]
 simp only[<-this]
 exact TO
 rw[bq u _ (λh=>aa (by simp[U.al,ay,h]))];exact e
 have iU:s=⟨none,0,0⟩∨s.a≠none:=by rcases ab.is with h|⟨g,cur,ay,_⟩;exact .inl h;exact .inr (by rw[ay];simp)
 refine acV aT ab.cI J (by omega) iU Du hm aa λg c cur W p4=>av _ _ p4 rfl ⟨λb z e _=>?_,.inr ⟨g,rfl,W⟩⟩ ⟨λh=>by simp at h,λh=>aV h.2 uQ⟩
 rw[bq u _ (λh=>by rw[h,W] at e;cases e)]
 exact e
def kH(P:dT)(t n:N)(c7:cv (N×ao)):aA (dF×M ao):=
 match kI P t with
 |some (e,size,_,zs)=>match wo (n*size) 16777216,wo 1 size,
   Instr.fill (λi=>some (i*size,size)) ((Array.range (n*size)).map (zs.toArray[· %zs.toArray.size]!)) c7.toList with
  |true,ak,some cells=>some (e,cells.toList)
  |_,_,_=>none
 |none=>none
def mA{t n e:N}{c7:cv (N×ao)}{cells:M ao}(h:kH P t n c7=some (e,cells))
  (av:∀g,u g=none->K ⟨some ⟨g,0,none⟩,n,n⟩ (u.ins g (.cells cells.toArray e (0,0)))):c9 P (dI t n c7) [.one .slice] u K:=by
 unfold kH at h
 split at h
 rename_i fW size bytes zs aT
 obtain⟨ht,i,Y,hi,aC,qN,y3,Bt,xN⟩:=vE aT
 subst qN
 split at h
 rename_i cs hle oT ac
 cases h
 have hle:=GJ hle
 have oT:=GJ oT
 refine .one (c:=.slice) λw hw=>?_
 refine⟨⟨some ⟨w.heap.size,0,none⟩,n,n⟩,w.alloc (.cells cs e (0,0)),_,?_,av w.heap.size (hw.none (cC _)),by simpa using Step.BD hw (.cells cs e (0,0))⟩
 have aaK:zs.toArray=Y.cells:=by rw[<-xN]
 rw[aaK] at ac
 have ae:¬(16777216<n*i.size):=by omega
 by_cases e1:n=0
 subst e1
 simp only[J0,Array.range_zero',Array.map_empty] at ac
 simp[dI,ir ht,sizeOf,typeInfo,hi,Array.range_zero',ac,newRow,aE.enc]
 have ad:¬(n*i.size=0):=by intro h;rcases TR.1 h with h|h<;>omega
 simp[dI,ir ht,sizeOf,typeInfo,hi,ae,ad,zeroValue,aC,ac,newRow,aE.enc]
 cases h
 cases h
def Pt(aT:kI P t=some (e,size,bytes,zs)){l c:o}(h0:0<=l)(au7:l<=c)(aa:(bytes:o)*c<=281474976710656)(RJ:c<=9223372036854775807)
  {u:H} {K:U->H->Prop}
  (av:∀g,u g=none->K ⟨some ⟨g,0,none⟩,l.toNat,c.toNat⟩ (u.ins g (.cells (oC zs.toArray (c.toNat*size)) e (0,0)))):
  c9 P (rX t (.int .i64 l) (.int .i64 c)) [.one .slice] u K:=by
 obtain⟨ht,i,Y,hi,aC,qN,y3,Bt,xN⟩:=vE aT
 refine .one (c:=.slice) λw hw=>?_
 have O:=run_make (P:=P) w t e i Y ht hi aC .i64 .i64 l c h0 au7 (by rw[y3];exact aa) RJ
 have aaK:zs.toArray=Y.cells:=by rw[<-xN]
 rw[qN,<-aaK] at O
 exact⟨⟨some ⟨w.heap.size,0,none⟩,l.toNat,c.toNat⟩,_,_,O,av _ (hw.none (cC _)),Step.BD hw _⟩
def azV(aT:kI P t=some (e,size,bytes,zs))(w:cg):P.underlying t=some (.slice (P.elem t))/\(sizeOf (P.elem t)).run P w=.ok size w:=by
 obtain⟨ht,i,Y,hi,aC,qN,y3,Bt,xN⟩:=vE aT;have he:P.elem t=e:=by simp[Program.elem,ht]
 rw[he];exact⟨ht,by simp[sizeOf,typeInfo,hi,qN]⟩
def U.part(s:U)(l h m size:N):U:=⟨if m=l then s.a else s.a.map (·.add (l*size)),h-l,m-l⟩
def o3(aT:kI P t=some (e,size,bytes,zs)){bm hi Jz:aA ao}{l h m:N}
  (zd:bm=none/\l=0∨bm=some (.int .i64 l)) (Fp:hi=none/\h=s.n∨hi=some (.int .i64 h)) (xA:Jz=none/\m=s.c∨Jz=some (.int .i64 m)/\hi≠none)
  (h1:l<=h) (h2:h<=m) (h3:m<=s.c) (a7:s.n<=s.c) (av:K (s.part l h m size) u):
  c9 P (hP t (.slice s.a s.n s.c) bm hi Jz) [.one .slice] u K:=by
 refine .Gy (c:=.slice) (s.part l h m size) (λw _=>?_) av
 obtain⟨ht,ag⟩:=azV aT w
 rw[run_sliceAt_slice (w:=w) (h:=ht)]
 rcases zd with⟨rfl,rfl⟩|rfl<;>rcases Fp with⟨rfl,rfl⟩|rfl<;>rcases xA with⟨rfl,rfl⟩|⟨rfl,hm⟩
 rw[run_slice_all (w:=w) (ht:=ht),ag];rfl
 exact aV rfl hm
 rw[run_slice_h (w:=w) (ht:=ht) (h0:=by omega) (h2:=by omega),ag];simp[jf,sliced,U.part,aE.enc]
 rw[run_slice_hm (w:=w) (ht:=ht) (h0:=by omega) (h2:=by omega) (h3:=by omega),ag];simp[jf,sliced,U.part,aE.enc]
 rw[run_slice_l (w:=w) (ht:=ht) (h0:=by omega) (h1:=by omega),ag];simp[jf,sliced,U.part,aE.enc]
 exact aV rfl hm
 rw[run_slice_lh (w:=w) (ht:=ht) (h0:=by omega) (h1:=by omega) (h2:=by omega),ag];simp[jf,sliced,U.part,aE.enc]
 rw[run_slice_lhm (w:=w) (ht:=ht) (h0:=by omega) (h1:=by omega) (h2:=by omega) (h3:=by omega),ag];simp[jf,sliced,U.part,aE.enc]
def Addr.w5(a:bc)(i j:N):(a.add i).add j=a.add (i+j):=Addr.add_add a i j
def bz.part(ag:bz u s size xs){l h m:N}(h1:l<=h)(h2:h<=s.n)(h3:h<=m)(a7:m<=s.c):
  bz u (s.part l h m size) size ((xs.drop (l*size)).take ((h-l)*size)):=by
 have ap:=ag.len
 have hle:h*size<=s.n*size:=tG _ h2
 have Dd:l*size<=h*size:=tG _ h1
 have gW:(h-l)*size=h*size-l*size:=Nat.sub_mul _ _ _
 refine⟨?_,?_,?_,?_⟩
 simp only[gq,mv,U.part];omega
 simp only[U.part];omega
 simp only[U.part];have:=ag.max;omega
 rcases ag.at' with h0|⟨p,ad,I⟩
 subst h0;exact .inl (by simp)
 by_cases mT:m=l
 refine .inl ?_
 have:h=l:=by omega
 simp[this]
 refine .inr ⟨p.add (l*size),by simp[U.part,mT,ad],λi v e=>?_⟩
 rw[Addr.w5]
 refine I _ _ ?_
 rw[JT] at e
 split at e
 simpa[u5] using e
 cases e
section
variable {α:Type} {enc:α->M ao} {k:N}
def og(hk:∀x,(enc x).length=k)(xs:M α):(xs.flatMap enc).length=xs.length*k:=by
 induction xs with
 |nil=>simp|cons x xs aM=>rw[gI,eD,aM,hk,hX,zM];omega
def H5(hk:∀x,(enc x).length=k):∀(xs:M α) (i j:N),j<k->(xs.flatMap enc)[i*k+j]?=(xs[i]?).bind λx=>(enc x)[j]?:=by
 intro xs;induction xs with
 |nil=>intro i j _;simp
 |cons x xs aM=>
  intro i j aN;rw[gI];cases i with
  |zero=>rw[J0,ki,qY (by rw[hk];exact aN)];simp|succ i=>
   rw[JS (by rw[hk,zM];omega),hk];have:(i+1)*k+j-k=i*k+j:=by rw[zM];omega
   rw[this,aM i j aN];simp
def arZ(hk:∀x,(enc x).length=k):∀(xs:M α) (i:N) (y:α),i<xs.length->
  (xs.set i y).flatMap enc=(xs.flatMap enc).take (i*k)++enc y++(xs.flatMap enc).drop (i*k+k):=by
 intro xs
 induction xs with
 |nil=>intro i y h;simp at h
 |cons x xs aM=>
  intro i y h;cases i with
  |zero=>rw[J0,ki,OY,gI,gI,OZ,nQ,ab6 (by rw[hk];exact cC _)];have:(enc x).drop k=[]:=sC (by rw[hk];exact cC _);rw[this,nQ]|succ i=>
   rw[GK,gI,gI,aM i y (by simpa using h)];have h1:(i+1)*k=(enc x).length+i*k:=by rw[hk,zM];omega
   have h3:∀r:M ao,(enc x++r).take ((enc x).length+i*k)=enc x++r.take (i*k):=λr=>by rw[aca,gY (by omega),Nat.add_sub_cancel_left]
   have a7:∀r:M ao,(enc x++r).drop ((enc x).length+(i*k+k))=r.drop (i*k+k):=λr=>by rw[List.drop_append,sC (by omega),nQ,Nat.add_sub_cancel_left]
   rw[h1,Nat.add_assoc,h3,a7];simp only[mq]
def yT(hk:∀x,(enc x).length=k)(xs:M α)(n:N):(xs.flatMap enc).take (n*k)=(xs.take n).flatMap enc:=by
 induction xs generalizing n with
 |nil=>simp|cons x xs aM=>
  cases n with
  |zero=>simp|succ n=>
   rw[gI,BM,gI,aca,gY (by rw[hk,zM];omega),hk];have:(n+1)*k-k=n*k:=by rw[zM];omega
   rw[this,aM]
def XB(hk:∀x,(enc x).length=k)(xs:M α)(n:N):(xs.flatMap enc).drop (n*k)=(xs.drop n).flatMap enc:=by
 induction xs generalizing n with
 |nil=>simp|cons x xs aM=>
  cases n with
  |zero=>simp|succ n=>
   rw[gI,TQ,List.drop_append,sC (by rw[hk,zM];omega),nQ,hk];have:(n+1)*k-k=n*k:=by rw[zM];omega
   rw[this,aM]
def gU{xs:M α}(hk:∀x,(enc x).length=k)(rD:0<k)(h:bz u s k (xs.flatMap enc)):s.n=xs.length:=by have:=h.len;rw[og hk] at this;exact(Nat.eq_of_mul_eq_mul_right rD this).symm
def bz.elem{xs:M α}(hk:∀x,(enc x).length=k)(rD:0<k)(h:bz u s k (xs.flatMap enc)){x:α}(hi:xs[i]?=some x):
  ∃p,s.a=some p/\∀j v,(enc x)[j]?=some v->u.cell? ((p.add (i*k)).add j)=some v:=by
 have ap:i<xs.length:=(iB.1 hi).1
 have h0:i*k+0<(xs.flatMap enc).length:=by
  rw[og hk]
  calc i*k+0<i*k+k:=by omega
   _=(i+1)*k:=by rw[zM]
   _<=xs.length*k:=tG _ ap
 obtain⟨p,ad,I⟩:=h.get h0
 refine⟨p,ad,λj v aB=>?_⟩
 rw[Addr.w5]
 refine I _ _ ?_
 have aN:j<k:=by rw[<-hk x];exact(iB.1 aB).1
 rw[H5 hk xs i j aN,hi]
 exact aB
structure aK(aj u:H)(e k:N)(s:U)(xs:M ao):Prop where
 own:Own u e k s xs
 le:aj.le u
 fresh:∀g,s.al=some g->aj g=none
def aK.nil(h:aj.le u)(e k:N):aK aj u e k ⟨none,0,0⟩ []:=⟨.nil u e k,h,λg W=>by simp[U.al] at W⟩
def aK.mono{e:N}(h:aK aj u e k s xs)(hu:u.le u'):aK aj u' e k s xs:=
 ⟨h.own.le λ_ _ _ aa=>hu _ _ aa,h.le.trans hu,h.fresh⟩
def aK.weaken{aU:H}{e:N}(h:aK aU u e k s xs)(h0:aj.le aU):aK aj u e k s xs:=
 ⟨h.own,h0.trans h.le,λg W=>by
  cases J:aj g with
  |none=>rfl|some z=>have:=h.fresh g W;rw[h0 _ _ J] at this;cases this⟩
def gS(u u':H)(s:U):Prop:=∀b z,u b=some z->s.al≠some b->u' b=some z
def gS.refl(u:H)(s:U):gS u u s:=λ_ _ h _=>h
def aK.else{fW dV:N}{t:U}(h:aK aj u fW dV t xs)(he:gS u u' s)(ag:∀g,s.al=some g->aj g=none)(an:∀g,s.al=some g->t.al≠some g):aK aj u' fW dV t xs:=
 ⟨h.own.le λb z aa hu=>he b z hu λW=>an b W aa,λb z aa=>he b z (h.le b z aa) λW=>(by rw[ag b W] at aa;cases aa),h.fresh⟩
def aK.make(h:aj.le u)(W:u g=none){cells:cv ao}{e n:N}(ae:n<=9223372036854775807)(ag:cells.size=n*k):
  aK aj (u.ins g (.cells cells e (0,0))) e k ⟨some ⟨g,0,none⟩,n,n⟩ cells.toList:=by
 refine⟨⟨by simp[ag],.inr ⟨g,cells,rfl,bi _ _ _,cC _,ae,ag,?_⟩⟩,h.trans (bZ _ W),λb2 ca=>?_⟩
 rw[gY (by simp[ag])]
 simp[U.al] at ca
 subst ca
 cases J:aj g with
 |none=>rfl
 |some z=>rw[h _ _ J] at W;cases W
def KL(c:cv ao)(z:N)(vs:M ao)(h:z+vs.length<=c.size):(wr c z vs).toList=c.toList.take z++vs++c.toList.drop (z+vs.length):=by have:=aom vs c.toList z (by simpa using h);rw[Array.toArray_toList] at this;rw[this];rfl
def aK.store{e:N}{xs:M α}(hk:∀x,(enc x).length=k)(h:aK aj u e k s (xs.flatMap enc))(rD:0<k)(hi:i<xs.length){y:α}(h1:∀v∈enc y,v.oneCell'=ak)
  {p:bc} (ad:s.a=some p) {f:H->Prop} (ac:∀u',aK aj u' e k s ((xs.set i y).flatMap enc)->gS u u' s->(∀b,u b=none->u' b=none)->f u'):H.aO u (p.add (i*k)) (enc y) f:=by
 rcases h.own.is with h0|⟨g,cur,ay,W,ae,I,ag,ht⟩
 rw[h0] at ad;cases ad
 .rw[ay] at ad;cases ad;have atK:(⟨g,0,none⟩:bc).add (i*k)=⟨g,i*k,none⟩:=by rw[iP,ki]
  have dM:=gU hk rD h.own.cI;have hle:i*k+k<=s.n*k:=by
   calc i*k+k=(i+1)*k:=by rw[zM]
    _<=s.n*k:=tG _ (by omega)
  have xx:s.n*k<=s.c*k:=tG _ ae;rw[atK];have c0:i*k+(enc y).length<=cur.size:=by rw[hk,ag];omega
  refine⟨cur,e,W,rfl,c0,h1,ac _ ?_ ?_ ?_⟩;refine⟨⟨by rw[og hk,qZ,dM],.inr ⟨g,_,ay,bi _ _ _,ae,I,?_,?_⟩⟩,?_,h.fresh⟩;rw[<-r0,KL _ _ _ c0];simp only[eD,gq,mv,r0];omega;rw[KL _ _ _ c0,arZ hk xs i y hi,<-ht,hk];have gC:(cur.toList.take (i*k)++enc y).length=i*k+k:=by simp only[eD,gq,r0,hk];omega
  rw[aca,gY (by omega),gC];congr 1;congr 1;rw[GN,BR (by omega)];rw[<-List.drop_take];exact λb z aa=>by
    have:b≠g:=λoj=>by have:=h.fresh g (by simp[U.al,ay]);rw[oj,this] at aa;cases aa
    rw[bq _ _ this];exact h.le b z aa
  intro b z aa an;rw[bq _ _ (λoj=>an (by simp[U.al,ay,oj]))];exact aa;intro b aa;rw[bq _ _ (λoj=>by rw[oj,W] at aa;cases aa)];exact aa
end
def c9.PD{m:Sem ao}{gw:U->H->Prop}(h:c9 P m [.one .slice] u K)(hk:∀s u',K s u'->gw s u'):c9 P m [.one .slice] u gw:=by
 intro w hw;obtain⟨v,w',u',h1,⟨vs,h2,h3,a7⟩,bO⟩:=h w hw;refine⟨v,w',u',h1,⟨vs,h2,h3,?_⟩,bO⟩;cases h2 with
 |cons x O=>cases O;exact(aE.ra .slice x _).2 (hk _ _ ((aE.ra .slice x _).1 a7))
def z1{c7:cv (N×ao)}(aT:kI P t=some (e,size,bytes,zs))(eH:kH P t 1 c7=some (e,e9))(c0:0<size)
  (ai:e9.length=size) (h1:∀y∈e9,y.oneCell'=ak) {aj u:H} {s:U} {xs:M ao} (h:aK aj u e size s xs) (hm:s.n<9223372036854775807) (aa:(s.n+1)*bytes<=140737488355328) {K:U->H->Prop}
  (av:∀au u',aK aj u' e size au (xs++e9)->au.n=s.n+1->gS u u' s->(∀g,au.al=some g->s.al=some g∨u g=none)->au.a≠none->K au u'):
  c9 P (dI t 1 c7) [.one .slice] u λs1 aU=>u.le aU/\c9 P (ee #[t,t] t #[.slice s.a s.n s.c,.slice s1.a s1.n s1.c]) [.one .slice] aU K:=by
 refine mA eH λg W=>⟨bZ _ W,?_⟩
 have J:bz (u.ins g (.cells e9.toArray e (0,0))) ⟨some ⟨g,0,none⟩,1,1⟩ size e9:=by have:=(aK.make (k:=size) (H.le.refl u) W (cells:=e9.toArray) (e:=e) (n:=1) (by omega) (by simp[ai])).own.cI;simpa using this
 have bW:=h.mono (bZ (u:=u) (b:=g) (.cells e9.toArray e (0,0)) W)
 refine acU aT c0 bW.own J h1 (by simp only;omega) (by simpa using aa) λau u' ab ae mh A5=>av au u' ⟨ab,mh.le bW.le h.fresh,λb2 ca=>mh.out bW.le h.fresh b2 ca⟩ (by simpa using ae) ?_ ?_ ?_
 intro b z aa an
 exact mh.rest b z (bZ _ W _ _ aa) an
 intro b2 ca
 rcases mh.al with aa|⟨g2,aa,fK⟩
 exact .inl (by rw[<-aa];exact ca)
 rw[aa] at ca;cases ca
 refine .inr ?_
 cases J:u b2 with
 |none=>rfl
 |some z=>rw[bZ _ W _ _ J] at fK;cases fK
 intro avB
 rcases ab.is with h0|⟨g2,_,ay,_⟩
 have:=(A5.1 h0).2
 simp at this
 rw[avB] at ay;cases ay
def nV{c7:cv (N×ao)}(aT:kI P t=some (e,size,bytes,zs))(eH:kH P t 1 c7=some (e,e9))(c0:0<size)
  (ai:e9.length=size) (h1:∀y∈e9,y.oneCell'=ak) {aj u:H} {s:U} {xs:M ao} (h:aK aj u e size s xs) (hm:s.n<9223372036854775807) (aa:(s.n+1)*bytes<=140737488355328) {K:U->H->Prop}
  (av:∀au u',aK aj u' e size au (xs++e9)->au.n=s.n+1->gS u u' s->(∀g,au.al=some g->s.al=some g∨u g=none)->au.a≠none->K au u'):
  c9 P (dI t 1 c7) [.one .slice] u λs1 aU=>c9 P (ee #[t,t] t #[.slice s.a s.n s.c,.slice s1.a s1.n s1.c]) [.one .slice] aU K:=by
 exact c9.PD (z1 aT eH c0 ai h1 h hm aa av) λ_ _ h=>h.2
def tV(u:H)(b:N)(l:M o):Prop:=∃es clock,u b=some (.map es clock)/\es.toList.map (λe=>(e.key,e.val))=l.map λx=>(cJ .i64 x,hl ak)
def tV.mono(h:tV u b l)(hu:u.le u'):tV u' b l:=by obtain⟨es,c,h1,h2⟩:=h;exact⟨es,c,hu _ _ h1,h2⟩
def arV(x:o):∀(es:M zN) (l:M o) (i:N),es.map (λe=>(e.key,e.val))=l.map (λx=>(cJ .i64 x,hl ak))->
  (x∈l->∃j,GO (.int .i64) (.int .i64 x) es i=some (some (j,.bool ak)))/\(x∉l->GO (.int .i64) (.int .i64 x) es i=some none):=by
 intro es
 induction es with
 |nil=>
  intro l i h;have:l=[]:=by simpa using h.symm
  subst this;exact⟨λh=>(by cases h),λ_=>rfl⟩
 |cons e es aM=>
  intro l i h;cases l with
  |nil=>simp at h|cons y l=>
   simp only[gR,u7,GP] at h;obtain⟨⟨hk,aB⟩,O⟩:=h;obtain⟨i1,i2⟩:=aM l (i+1) O;unfold GO;rw[hk,aB];simp only[Instr.sameNow,qX];by_cases iV:x=y;subst iV;simp;have aa:(x==y)=ax:=by simpa using iV
   rw[aa];refine⟨λhm=>?_,λhm=>?_⟩;rcases cP.1 hm with h|h;exact aV h iV;exact i1 h;exact i2 λh=>hm (gh _ h)
def acY{K:aA N->H->Prop}(av:∀b,u b=none->tV (u.ins b (.map #[] 0)) b []->K (some b) (u.ins b (.map #[] 0))):
  c9 P (pE t none) [.one .map] u K:=
 .one (c:=.map) λw hw=>⟨some w.heap.size,_,_,Go.RowKit.run_makeMap t w,av _ (hw.none (cC _)) ⟨#[],0,bi _ _ _,rfl⟩,Step.BD hw _⟩
structure Ex(P:dT)(t k e:dF):Prop where
 fB:P.underlying t=some (.map k e)
 key:P.underlying k=some (.int .i64)
 zero:∀w,(zeroValue e).run P w=.ok (.bool ax) w
def Ex.find(T:Ex P t k e){es:cv zN}(h:es.toList.map (λe=>(e.key,e.val))=l.map λx=>(cJ .i64 x,hl ak))(x:o)(w:cg):
  (x∈l->∃j,(BS k (.int .i64 x) es.toList).run P w=.ok (some (j,.bool ak)) w)/\(x∉l->(BS k (.int .i64 x) es.toList).run P w=.ok none w):=by
 obtain⟨h1,h2⟩:=arV x es.toList l 0 h
 constructor
 intro J
 obtain⟨j,aN⟩:=h1 J
 exact⟨j,by simp[BS,eW,ir T.key,jf,aN]⟩
 intro J
 simp[BS,eW,ir T.key,jf,h2 J]
def Ex.check(T:Ex P t k e)(b:aD)(x:o)(w:cg):(GQ b 10000 k (.int .i64 x)).run P w=.ok () w:=by show(GQ b (9999+1) k (.int .i64 x)).run P w=.ok () w;unfold GQ;simp[eW,ir T.key,jf]
def acX(T:Ex P t k e)(h:tV u b l){K:aD->H->Prop}(av:K (decide (x∈l)) u):
  c9 P (gz t (.map (some b)) (.int .i64 x) ax) [.one .bool] u K:=by
 obtain⟨es,c,aa,ap⟩:=h
 refine .Gy (c:=.bool) (decide (x∈l)) (λw hw=>?_) av
 have W:=x9 (P:=P) (hw _ _ aa)
 have ac:=T.find ap x w
 have I:=T.check es.isEmpty x w
 by_cases J:x∈l
 obtain⟨j,aN⟩:=ac.1 J
 simp[gz,eW,ir T.fB,W,I,aN,jf,J,aE.enc]
 have aN:=ac.2 J
 simp[gz,eW,ir T.fB,W,I,aN,jf,J,aE.enc,T.zero]
def step_block(hw:Sub u w){z:Obj}(W:u g=some z)(b7:Obj):Step u [] w (u.ins g b7) [] {w with heap:=w.heap.setIfInBounds g b7}:=by
 have bw:=hw.lt W;refine⟨λb x h=>?_,rfl,rfl,rfl,cC _,by simp,λb _ aa _=>?_,λb _ aa=>?_,[],by simp,by simp⟩;unfold H.ins at h;split at h;rename_i oj;subst oj;cases h;simp[bw];rename_i oj;show(w.heap.setIfInBounds g b7)[b]?=some x;rw[GR (dG oj)];exact hw b x h;have:g≠b:=λh=>by rw[<-h,W] at aa;cases aa
 show(w.heap.setIfInBounds g b7)[b]?=w.heap[b]?;rw[GR this];have:b≠g:=λh=>by rw[h,W] at aa;cases aa
 rw[bq u _ this];exact aa
def UB(T:Ex P t k e)(h:tV u b l)(J:x∉l){K:H->Prop}
  (av:∀u',tV u' b (l++ [x])->(∀g z,u g=some z->g≠b->u' g=some z)->(∀g,u g=none->u' g=none)->K u'):
  c9 P (unit (kh t (.map (some b)) (.int .i64 x) (.bool ak))) [] u K:=by
 obtain⟨es,c,aa,ap⟩:=h
 intro w hw
 have W:=x9 (P:=P) (hw _ _ aa)
 have aN:=(T.find ap x w).2 J
 have I:=T.check ax x w
 have kx:=J1 (P:=P) (.map (es.push {key:=.int .i64 x,val:=.bool ak,born:=c}) (c+1)) (hw _ _ aa)
 refine⟨_,_,u.ins b (.map (es.push {key:=.int .i64 x,val:=.bool ak,born:=c}) (c+1)),?_,⟨[],.nil,rfl,av _ ⟨_,_,bi _ _ _,?_⟩ ?_ ?_⟩,step_block hw aa _⟩
 simp[unit,kh,eW,ir T.fB,W,I,aN,jf,kx]
 rfl
 simp[ap]
 intro g z rA an;rw[bq _ _ an];exact rA
 intro g rA;rw[bq _ _ (λh=>by rw[h,aa] at rA;cases rA)];exact rA
end
