/- Texts of mine, joined and packed by pack.py. -/
import Derived.Test.YtnaemgklhjkdhaaGreatDoorMna1
import Derived.Scope
import Derived.RangeFuncLeaves
import Derived.RangeFuncRecord
import Derived.Test.YtnaemgklhjkdhaaGreatDoorProg
import Derived.Laws.StructEq
import Derived.ChangeKeysEq
import Derived.KernelRfl
import Derived.Laws.MathBits
import Derived.Laws.Externs
import Derived.IntWalk
import Derived.DataElems
import Derived.Laws.AppendOwn
import Derived.Laws.MakeOwn
import Derived.Laws.Slices
import Derived.Laws.CopyRow
import Derived.MapKept
import Derived.ChangeMaps5
import Derived.Carry
set_option linter.all false
set_option maxRecDepth 100000
noncomputable section
namespace Go.Proofs.YtnaemgklhjkdhaaGreatDoor
open H
section
variable{vs args:List Value}{ds bs cd:List Nat}{u:H}{aw:World}{ss:List aF}{C:iB}{f:FuncId}{l:List (Nat×al)}{p:Nat×eb}{s':an}
variable [k1]
structure mb where
 w5:List (Nat×al)
 boxes:List (Nat×List al)
def mb.l6(a:mb):List al:=a.w5.map (·.2)++a.boxes.flatMap (·.2)
def Hg:List (Nat×mb)->Nat->Option mb
 | [],_=>none|(i,x)::r,j=>match Nat.beq i j with
  |true=>some x|false=>Hg r j
def dS:Code->List Nat
 | .seq a b=>dS a++dS b| .cond _ a b=>dS a++dS b| .block _ b=>dS b| .loop b=>dS b| .scope b=>dS b| .region _ ops _=>ops.toList.filterMap λo=>o.dst|_=>[]
def za(s:an):List (Nat×al)->Option (List Value)
 | []=>some []|(d,_)::r=>match(look s.env d).bind eb.val,za s r with
  |some v,some vs=>some (v::vs)|_,_=>none
def Hn(s:an):List (Nat×List al)->Option (List Value)
 | []=>some []|(i,bY)::r=>match s.loc[i]?,Hn s r with
  |some cs,some vs=>match Nat.beq cs.length bY.length with
   |true=>some (cs++vs)|false=>none
  |_,_=>none
def zj(s:an)(aK:mb):Option (List Value):=
 match s.ta with
 |none=>match za s aK.w5,Hn s aK.boxes with
  |some a,some b=>some (a++b)|_,_=>none
 |some _=>none
def Ad:List (Nat×eb)->List (Nat×Value)
 | []=>[]|(d,x)::r=>match x.val with
  |some v=>(d,v)::Ad r|none=>Ad r
def w0:Code->Option Code
 | .rangeFunc g p x y=>some (.rangeFunc g p x y)| .seq a b=>match w0 a with
  |some c=>some c|none=>w0 b
 | .cond _ a b=>match w0 a with
  |some c=>some c|none=>w0 b
 | .block _ b=>w0 b| .scope b=>w0 b| .loop b=>w0 b|_=>none
def BQ(c:Code):Code:=(w0 c).getD .skip
def mN(P:Program)(c:Code)(n:Nat)(env:List (Nat×Value))(u:H)(K:Nat->H->Prop):Prop:=
 ∀a w,a.tmps.size=n->(∀p∈env,a.tmps[p.1]?=some p.2)->a.defers=[]->Sub u w->
  c.wp P (λe b3 aw=>e=.normal/\b3.tmps=a.tmps/\∃D u',b3.defers=Hz (some D)/\K D u'/\Step u [] w u' [] aw) a w
def KI:al->Value->eb
 | .addr,.pointer (some p)=>.ptr p|_,v=>.v v
def abL(t:al)(v:Value)(bs:List Nat):fa bs (KI t v)=some v:=by unfold KI;split<;>rfl
def uj:List (Nat×al)->List Value->List (Nat×eb)
 |(d,t)::r,v::vs=>(d,KI t v)::uj r vs|_,_=>[]
def w3:List (List Value)->List (Nat×List al)->List Value->List (List Value)
 |loc,[],_=>loc|loc,(i,bY)::r,vs=>w3 (px loc i (vs.take bY.length)) r (vs.drop bY.length)
def EZ(ds:List Nat):List (Nat×eb)->List (Nat×eb)
 | []=>[]|(d,x)::r=>match eM ds d with
  |true=>EZ ds r|false=>(d,x)::EZ ds r
def lH(s:an)(ds:List Nat)(aK:mb)(vs:List Value):an:=
 {n:=s.n,env:=uj aK.w5 vs++EZ ds s.env,loc:=w3 s.loc aK.boxes (vs.drop aK.w5.length)}
def narrow(aY:Nat->Bool)(uD:Nat)(lM:List (Nat×List al))(i:Nat):Bool:=
 match Nat.blt i uD with
 |true=>eM (lM.map (·.1)) i && aY i|false=>true
def vu(s:an)(c:Operand)(x:eb):an:=
 match c with
 | .tmp t=>s.put (some t) x|_=>s
def e9(C:iB)(fs:List (Nat×mb)):Code->Nat->(Nat->Bool)->(Exit->an->H->Prop)->an->H->Prop
 | .skip,_,_,Q,s,u=>Q .normal s u| .label _,_,_,Q,s,u=>Q .normal s u| .ret,_,_,Q,s,u=>Q .ret s u| .exit id,_,_,Q,s,u=>Q (.exit id) s u| .seq x y,p,aY,Q,s,u=>match Hg fs p with
  |none=>e9 C fs x (2*p) aY (λe s' u'=>match e with
   | .normal=>e9 C fs y (2*p+1) aY Q s' u'|e=>Q e s' u') s u
  |some aK=>∀K:fo aK.l6 (H->Prop),
    CQ aK.l6 (λvs=>∀aI,e9 C fs y (2*p+1) aY Q (lH s (dS x) aK vs) aI->fr aK.l6 K vs λr=>r aI)->
    e9 C fs x (2*p) (narrow aY s.loc.length aK.boxes) (λe s' u'=>match e with
     | .normal=>match zj s' aK with
      |some vs=>fr aK.l6 K vs λr=>r u'|none=>False
     |e=>Q e s' u') s u
 | .cond c x y,p,aY,Q,s,u=>match s.sv c with
  |some .hB=>e9 C fs x (2*p) aY Q s u|some .hr=>e9 C fs y (2*p+1) aY Q s u|some (.dec q _)=>(q->e9 C fs x (2*p) aY Q (vu s c .hB) u)/\(¬q->e9 C fs y (2*p+1) aY Q (vu s c .hr) u)|some (.qi q _)=>(¬q->e9 C fs x (2*p) aY Q (vu s c .hB) u)/\(q->e9 C fs y (2*p+1) aY Q (vu s c .hr) u)|some (.v (.bool b))=>(b=true->e9 C fs x (2*p) aY Q (vu s c .hB) u)/\(b=false->e9 C fs y (2*p+1) aY Q (vu s c .hr) u)|_=>False
 | .block id b,p,aY,Q,s,u=>e9 C fs b (2*p) aY (λe s' u'=>match e with
  | .exit j=>match Nat.beq j id with
   |true=>Q .normal s' u'|false=>Q (.exit j) s' u'
  |e=>Q e s' u') s u
 | .scope b,p,aY,Q,s,u=>e9 C fs b (2*p) aY (λe s' u'=>match e with
  | .goto _=>False|e=>Q e s' u') s u
 | .loop b,p,aY,Q,s,u=>match Hg fs p with
  |none=>False|some aK=>match zj s aK with
   |none=>False|some Gh=>∃cu:fo aK.l6 (H->Prop),∃μ:fo aK.l6 (H->Nat),(fr aK.l6 cu Gh λr=>r u)/\
     CQ aK.l6 λvs=>∀aI,(fr aK.l6 cu vs λr=>r aI)->
      e9 C fs b (2*p) (narrow aY s.loc.length aK.boxes) (λe s' u'=>match e with
       | .normal=>match zj s' aK with
        |some nn=>fr aK.l6 cu nn λr=>fr aK.l6 μ nn λm=>fr aK.l6 μ vs λm0=>r u'/\m u'<m0 aI|none=>False
       |e=>Q e s' u') (lH s (dS b) aK vs) aI
 | .region _ ops false,_,aY,Q,s,u=>B2 C aY ops ops.toList s u (Q .normal)| .rangeFunc g bZ x y,_,_,Q,s,u=>match s.ta with
  |none=>mN C.P (.rangeFunc g bZ x y) s.n (Ad s.env) u λD u'=>Q .normal {s with ta:=some D} u'
  |some _=>False
 | .region _ ops true,_,aY,Q,s,u=>match Region.noSelect ops with
  |true=>match C.part with
   |false=>uE C aY ops u (ops.size+1) (Array.replicate ops.size false) true s u (Q .normal)|true=>∃v0:H,v0.le u/\rV C aY ops v0 u (ops.size+1) (Array.replicate ops.size false) true s u (Q .normal)
  |false=>False
 |_,_,_,_,_,_=>False
section
variable {C:iB} {aY:Nat->Bool} {s:an} {u:H} {bs:List Nat} {a:Act} {w:World}
def jV(aY:Nat->Bool)(s:an)(bs:List Nat)(u:H)(a:Act)(w:World)(ds:List Nat)(Q:Exit->an->H->Prop)(e:Exit)(b3:Act)(aw:World):Prop:=
 (∀c,e≠.panic c)/\∃s' u' cd,Q e s' u'/\Fits s' cd u' b3 aw/\Step u bs w u' cd aw/\Kept aY s s'/\∀d,eM ds d=false->b3.tmps[d]?=a.tmps[d]?
def wR(a b:List Nat)(d:Nat):eM (a++b) d=(eM a d ||eM b d):=by simp[eM]
def jV.mono{xF:List Nat}{Q:Exit->an->H->Prop}{e:Exit}{b3:Act}(h:jV aY s bs u a w ds Q e b3 aw)(aj:∀d,eM xF d=false->eM ds d=false):
  jV aY s bs u a w xF Q e b3 aw:=by
 obtain⟨h1,s',u',cd,h2,h3,aZ,bJ,e0⟩:=h
 exact⟨h1,s',u',cd,h2,h3,aZ,bJ,λd h=>e0 d (aj d h)⟩
def jV.next{s1:an}{aI:H}{UQ:List Nat}{O:Act}{gq:World}{Q:Exit->an->H->Prop}{e:Exit}{b3:Act}(hs:Step u bs w aI UQ gq)(hk:Kept aY s s1)
  (ap:∀d,eM ds d=false->O.tmps[d]?=a.tmps[d]?) (h:jV aY s1 UQ aI O gq ds Q e b3 aw):jV aY s bs u a w ds Q e b3 aw:=by
 obtain⟨h1,s',u',cd,h2,h3,aZ,bJ,e0⟩:=h
 exact⟨h1,s',u',cd,h2,h3,hs.trans aZ,hk.trans bJ,λd h=>(e0 d h).trans (ap d h)⟩
def Step.forget{u':H}{w:World}(h:Step u bs w u' cd aw):Step u bs w u' bs aw:=
 ⟨h.sub,h.os,h.tape,h.output,h.drawn,h.size,h.rest,h.jg,[],by simp,by simp⟩
theorem aaS(h:za s l=some vs):vs.length=l.length:=by
 induction l generalizing vs with
 |nil=>simp[za] at h;subst h;rfl|cons p r aG=>
  simp only[za] at h
  grind
theorem au1{ws:List Value}(h:vs.length=l.length):uj l (vs++ws)=uj l vs:=by
 induction l generalizing vs with
 |nil=>
  cases vs with
  |nil=>cases ws<;>rfl
  |cons=>simp at h
 |cons p r aG=>
  cases vs with
  |nil=>simp at h|cons v vs=>simp only[List.cons_append,uj];grind
def au2(M:FitsE s bs a)(h:za s l=some vs):
  ∀p∈uj l vs,∃v,fa cd p.2=some v/\a.tmps[p.1]?=some v:=by
 induction l generalizing vs with
 |nil=>intro p aa;simp[uj] at aa
 |cons q r aG=>
  simp only[za] at h;split at h;rename_i v nn av ll;cases h;intro p aa;simp only[uj] at aa;cases aa with
  |head=>simp only[Option.bind_eq_some_iff] at av;obtain⟨x,I,EM⟩:=av;obtain⟨bH,h1,h2⟩:=M.env _ (yT I);simp only at h1 h2;rw[eb.KY EM bs] at h1;cases h1;exact⟨v,abL _ _ _,h2⟩
  |tail _ aa=>exact aG ll p aa
  cases h
theorem alu{l:List (Nat×eb)}(h:p∈EZ ds l):p∈l/\eM ds p.1=false:=by
 induction l with
 |nil=>cases h
 |cons q r aG=>
  obtain⟨d,x⟩:=q;simp only[EZ] at h
  grind
def FR:∀(lM:List (Nat×List al)) (loc:List (List Value)) (vs:List Value),(w3 loc lM vs).length=loc.length:=by
 intro lM;induction lM with
 |nil=>intro loc vs;rfl
 |cons p r aG=>intro loc vs;simp only[w3];rw[aG,Kb]
theorem aaH{uD:Nat}(av6:uD<=s'.loc.length):∀(lM:List (Nat×List al)) (loc:List (List Value)) (vs:List Value),Hn s' lM=some vs->loc.length=uD->
  (∀(i:Nat) (cs:List Value),loc[i]?=some cs->eM (lM.map (·.1)) i=false->s'.loc[i]?=some cs)->∀(i:Nat) (cs:List Value),(w3 loc lM vs)[i]?=some cs->s'.loc[i]?=some cs:=by
 intro lM
 induction lM with
 |nil=>intro loc vs _ _ h i cs e;exact h i cs e rfl
 |cons p r aG=>
  obtain⟨j,bY⟩:=p;intro loc vs h ai hk i cs e;simp only[Hn] at h;split at h;rename_i xB nn aH ll;split at h;rename_i hlen;cases h;have ajl:=Nat.eq_of_beq_eq_true hlen;simp only[w3] at e;rw[<-ajl,List.take_left,List.drop_left] at e;refine aG (px loc j xB) nn ll (by rw[Kb];exact ai) ?_ i cs e;intro nL rU ar hm;rw[Sg] at ar;split at ar
  grind
  rename_i jw;refine hk nL rU ar ?_;simp only[List.map_cons,eM,List.any_cons,Bool.or_eq_false_iff];refine⟨?_,hm⟩;cases Z:Nat.beq nL j with
  |false=>rfl|true=>
   simp_all
  cases h;cases h
theorem Fits.lH{u':H}{b3:Act}{aK:mb}(M:Fits s bs u a w)(b5:Fits s' cd u' b3 aw)(hs:Step u bs w u' cd aw)
  (hk:Kept (narrow aY s.loc.length aK.boxes) s s') (ap:∀d,eM ds d=false->b3.tmps[d]?=a.tmps[d]?) (av:zj s' aK=some vs):
  Fits (lH s ds aK vs) bs u' b3 aw:=by
 unfold zj at av
 split at av
 rotate_left
 cases av
 rename_i WQ
 split at av
 rename_i ui oQ I8 yD
 cases av
 have Xk:=aaS I8
 obtain⟨ext,DQ,_⟩:=hs.more
 have aP:uj aK.w5 (ui++oQ)=uj aK.w5 ui:=au1 Xk
 have aj:(ui++oQ).drop aK.w5.length=oQ:=by grind
 refine⟨⟨by rw[b5.defers,WQ];rfl,by rw[b5.n,hk.n];rfl,?_⟩,?_,?_,M.nodup,?_,b5.sub⟩
 intro p aa
 simp only[Go.Proofs.YtnaemgklhjkdhaaGreatDoor.lH,aP] at aa
 rcases List.mem_append.1 aa with aa|aa
 exact au2 b5.toFitsE I8 p aa
 obtain⟨h1,h2⟩:=alu aa
 obtain⟨v,h3,aZ⟩:=M.env p h1
 grind
 simp only[Go.Proofs.YtnaemgklhjkdhaaGreatDoor.lH,FR];exact M.len
 intro i cs e
 simp only[Go.Proofs.YtnaemgklhjkdhaaGreatDoor.lH,aj] at e
 have bh:i<s.loc.length:=by rcases Nat.lt_or_ge i s.loc.length with k|k;exact k;rw[List.getElem?_eq_none (by rw[FR];exact k)] at e;cases e
 have h1:=aaH hk.len aK.boxes s.loc oQ yD rfl (λj rU ar hm=>by
  refine hk.same j rU ar ?_;have D1:j<s.loc.length:=by grind
  unfold narrow;have:Nat.blt j s.loc.length=true:=by simpa using D1
  grind) i cs e
 obtain⟨b,T,h2,h3⟩:=b5.loc i cs h1
 refine⟨b,T,?_,h3⟩
 rw[DQ,List.getElem?_append_left (by rw[M.len];exact bh)] at h2
 exact h2
 intro b Z
 exact b5.hid b (by grind)
 cases av
theorem MA{aK:mb}(hk:Kept (narrow aY s.loc.length aK.boxes) s s')(av:zj s' aK=some vs):
  Kept (narrow aY s.loc.length aK.boxes) s (lH s ds aK vs):=by
 unfold zj at av
 split at av
 rotate_left
 cases av
 rename_i WQ
 split at av
 rename_i ui oQ I8 yD
 cases av
 have Xk:=aaS I8
 have aj:(ui++oQ).drop aK.w5.length=oQ:=by grind
 refine⟨rfl,by simp only[lH,FR];exact Nat.le_refl _,λi cs e hw=>?_⟩
 simp only[lH,aj]
 have bh:i<s.loc.length:=by grind
 have h1:=aaH hk.len aK.boxes s.loc oQ yD rfl (λj rU ar hm=>by
   refine hk.same j rU ar ?_;have D1:j<s.loc.length:=by grind
   unfold narrow;have:Nat.blt j s.loc.length=true:=by simpa using D1
   grind) i
 have h2:=hk.same i cs e hw
 cases h3:(w3 s.loc aK.boxes oQ)[i]? with
 |none=>
  have:i<(w3 s.loc aK.boxes oQ).length:=by rw[FR];exact bh
  grind
 |some x=>
  grind
 cases av
theorem Rf{uD:Nat}{lM:List (Nat×List al)}{s1 s2:an}(E:s1.loc.length=uD)(k:Kept (narrow aY uD lM) s1 s2):Kept aY s1 s2:=by
 refine⟨k.n,k.len,λi cs e hw=>k.same i cs e ?_⟩;have bh:i<uD:=by grind
 unfold narrow;have:Nat.blt i uD=true:=by simpa using bh
 rw[this];simp[hw]
def auP{P:Program}{c:Code}{Q:Exit->Act->World->Prop}{G:Type}(cu:G->Act->World->Prop)(μ:G->Nat)
  (round:∀g a w,cu g a w->c.wp P (Exit.then (λb3 aw=>∃bS,cu bS b3 aw/\μ bS<μ g) Q) a w) {a:Act} {w:World} (g:G) (h:cu g a w):(Code.loop c).wp P Q a w:=by
 intro b k cs
 have key:∀n g a w,μ g=n->cu g a w->
   ∃e b3 aw,Q e b3 aw/\Arrives P (lone (b.at a (.code c:: .inLoop c::k)) cs w) b k cs e b3 aw:=by
  intro n
  induction n using Nat.strongRecOn with
  |_ n aG=>
   intro g a w ac bQ;obtain⟨e,zQ,Ck,ay,wh⟩:=round g a w bQ b (.inLoop c::k) cs;cases e with
   |normal=>obtain⟨V2,aht,bh⟩:=ay;obtain⟨agw,aek,auU,aj5,aib⟩:=aG (μ V2) (ac▸bh) V2 zQ Ck rfl aht;exact⟨agw,aek,auU,aj5,.of_steps (Steps.trans wh (.one step_inLoop)) aib⟩
   |exit id=>exact⟨_,zQ,Ck,ay,.pass (x:=.inLoop c) rfl (λ_ _=>.inl (by simp)) wh⟩|goto l=>exact⟨_,zQ,Ck,ay,.pass (x:=.inLoop c) rfl (λ_ _=>.inl (by simp)) wh⟩|ret=>exact⟨_,zQ,Ck,ay,.pass (x:=.inLoop c) rfl (λ_ _=>.inl (by simp)) wh⟩|panic zW=>exact⟨_,zQ,Ck,ay,.pass (x:=.inLoop c) rfl (λ_ _=>.inl (by simp)) wh⟩|outgrown=>exact⟨_,zQ,Ck,ay,.pass (x:=.inLoop c) rfl (λ_ _=>.inl (by simp)) wh⟩
 obtain⟨e,b3,aw,ay,wh⟩:=key _ g a w rfl h
 exact⟨e,b3,aw,ay,.of_steps (.one step_loop) wh⟩
def arl{R:Type}{bY:List al}{cu:fo bY R}{f g:R->Prop}(h:fr bY cu vs f)(OJ:∀r,f r->g r):fr bY cu vs g:=by obtain⟨r,W⟩:=SV cu (Ce h);exact(W _).2 (OJ _ ((W _).1 h))
def z8{id:Nat}{ops:Array Oper}{aD:Bool}{o:Oper}(U:o∈ops.toList){d:Nat}(aj:o.dst=some d):eM (dS (.region id ops aD)) d=true:=by simp only[dS,eM,List.any_eq_true];exact⟨d,List.mem_filterMap.2 ⟨o,U,aj⟩,Nat.beq_refl d⟩
def rv{c:Operand}{x:eb}(M:Fits s bs u a w)(I:fa bs x=some (a.eval c))(ac:∀t,c=.tmp t->(look s.env t).isSome=true):Fits (vu s c x) bs u a w/\(vu s c x).loc=s.loc/\(vu s c x).n=s.n:=by
 cases c with
 |tmp t=>
  obtain⟨y,af⟩:=Option.isSome_iff_exists.1 (ac t rfl);obtain⟨v,h1,h2⟩:=M.env _ (yT af);simp only at h1 h2;have er:a.eval (.tmp t)=v:=by simp only[Act.eval];rw[Array.getD_eq_getD_getElem?,h2];rfl
  rw[er] at I;have he:=M.toFitsE.tell (d:=t) I h2;exact⟨M.told ⟨he,(j6 _ _ _).1,(j6 _ _ _).2⟩,(j6 _ _ _).1,(j6 _ _ _).2⟩
 |const v=>exact⟨M,rfl,rfl⟩|global g=>exact⟨M,rfl,rfl⟩|func f=>exact⟨M,rfl,rfl⟩
theorem agl{s:an}{a:Act}(M:FitsE s bs a):∀p∈Ad s.env,a.tmps[p.1]?=some p.2:=by
 have key:∀l:List (Nat×eb),(∀p∈l,p∈s.env)->∀p∈Ad l,a.tmps[p.1]?=some p.2:=by
  intro l;induction l with
  |nil=>intro _ p aa;cases aa
  |cons q r aG=>
   obtain⟨d,x⟩:=q;intro ai p aa;simp only[Ad] at aa;split at aa;rename_i v av;cases aa with
   |head=>obtain⟨bH,h1,h2⟩:=M.env _ (ai _ (.head _));simp only at h1 h2;rw[eb.KY av bs] at h1;cases h1;exact h2
   |tail _ aa=>exact aG (λp aa=>ai p (.tail _ aa)) p aa
   grind
 grind
set_option maxHeartbeats 1000000 in
def FF:Code->Bool
 | .seq a b| .cond _ a b=>FF a && FF b| .block _ b| .loop b| .scope b=>FF b| .rangeFunc ..=>false|_=>true
def U6(dW:Good C)(fs:List (Nat×mb)):∀(c:Code),(FF c=true∨k1.ds=[])->∀(p:Nat) (aY:Nat->Bool) (Q:Exit->an->H->Prop) (s:an) (u:H),e9 C fs c p aY Q s u->
  ∀(bs:List Nat) (a:Act) (w:World),Fits s bs u a w->c.wp C.P (jV aY s bs u a w (dS c) Q) a w:=by
 intro c
 have base:∀(e:Exit),(∀c,e≠.panic c)->∀(ds:List Nat) (aY:Nat->Bool) (Q:Exit->an->H->Prop) (s:an) (u:H) (bs:List Nat) (a:Act) (w:World),Q e s u->Fits s bs u a w->
   jV aY s bs u a w ds Q e a w:=λe he ds aY Q s u bs a w h M=>⟨he,s,u,bs,h,M,Step.refl M.sub,Kept.refl _ _,λ_ _=>rfl⟩
 induction c with
 |skip=>intro b4 p aY Q s u h bs a w M;exact wp_skip (base _ (λ_=>Exit.noConfusion) _ _ _ _ _ _ _ _ h M)
 |label l=>intro b4 p aY Q s u h bs a w M;exact wp_label (base _ (λ_=>Exit.noConfusion) _ _ _ _ _ _ _ _ h M)
 |ret=>intro b4 p aY Q s u h bs a w M;exact wp_ret (base _ (λ_=>Exit.noConfusion) _ _ _ _ _ _ _ _ h M)
 |exit id=>intro b4 p aY Q s u h bs a w M;exact wp_exit (base _ (λ_=>Exit.noConfusion) _ _ _ _ _ _ _ _ h M)
 |goto l=>intro b4 p aY Q s u h;exact h.elim
 |refuse r=>intro b4 p aY Q s u h;exact h.elim
 |rangeFunc f bZ x y=>
  intro b4 p aY Q s u h bs a w M;simp only[e9] at h;split at h;rename_i aj;have b4:=b4.resolve_left λe=>by cases e
  have air:a.defers=[]:=by rw[M.defers,aj,b4];rfl
  refine Code.wp_mono ?_ (h a w M.n (agl M.toFitsE) air M.sub);rintro e b3 aw ⟨rfl,ht,D,u',hd,ae,hs⟩;refine⟨λ_=>Exit.noConfusion,_,u',bs,ae,?_,hs.DX bs,⟨rfl,Nat.le_refl _,λ_ _ h _=>h⟩,λ_ _=>by rw[ht]⟩;have gw:=M.step hs;exact⟨⟨by rw[b4,List.append_nil];exact hd,by rw[ht];exact gw.n,λq ay=>by rw[ht];exact gw.env q ay⟩,gw.len,gw.loc,gw.nodup,gw.hid,gw.sub⟩;exact h.elim
 |region id ops aD=>
  intro b4 p aY Q s u h bs a w M;cases aD with
  |false=>simp only[e9] at h;refine wpIn_wide.1 (wpIn_region_list (aaF dW none (ds:=eM (dS (.region id ops false))) ops.toList s u bs a w h M (.inl rfl) (λo U d aj=>z8 U aj) ?_));intro s' u' cd b3 aw hk b5 hs gE ap;exact⟨λ_=>Exit.noConfusion,s',u',cd,hk,b5,hs,gE,ap⟩
  |true=>
   simp only[e9] at h;split at h;rename_i lh;have wm:Fits s bs u a {w with drawn:=w.drawn+1}:=⟨M.toFitsE,M.len,M.loc,M.nodup,M.hid,M.sub⟩;have fT:sS ops (Array.replicate ops.size false):=by
    intro j o _ aH;have:(Array.replicate ops.size false).getD j false=false:=by rw[Array.getD_eq_getD_getElem?,Array.getElem?_replicate];split<;>rfl
    rw[this] at aH;cases aH
   have uO:vF aY s bs u a {w with drawn:=w.drawn+1} (eM (dS (.region id ops true))) (Q .normal) (jV aY s bs u a w (dS (.region id ops true)) Q .normal):=by intro s' u' cd b3 aw hk b5 hs gE ap;exact⟨λ_=>Exit.noConfusion,s',u',cd,hk,b5,(Step.HA M.sub (Nat.le_succ _)).trans hs,gE,ap⟩
   split at h;refine wp_region_any dW.mixed (Tc (nd:=nQ ops) (S:=gV s.loc bs u) _ _ _ _ ?_);exact Vn dW (ds:=eM (dS (.region id ops true))) (eU:=s.loc) (ew:=bs) lh (λc a w aa=>aa.1 c rfl) (λo U d aj=>z8 U aj) _ _ _ s u h bs a _ _ wm fT (by unfold left;simp) (λ_=>⟨H.le.refl u,rfl,rfl⟩) ⟨[],by simp⟩ uO;obtain⟨v0,tB,h⟩:=h;refine wp_region_any dW.mixed (Td (R:=lG ops s.loc bs v0 u) _ _ _ _ ?_);exact Vm dW (ds:=eM (dS (.region id ops true))) (eU:=s.loc) (ew:=bs) tB lh (λc a w aa=>aa.1 c rfl) (λo U d aj=>z8 U aj) _ _ _ s u h bs a _ _ wm fT (by unfold left;simp) (λ_=>⟨H.le.refl u,rfl,rfl⟩) ⟨[],by simp⟩ uO;exact h.elim
 |seq x y q5 q6=>
  intro b4 p aY Q s u h bs a w M;have q5:=q5 (b4.imp (λe=>((Bool.and_eq_true _ _).mp e).1) id);have q6:=q6 (b4.imp (λe=>((Bool.and_eq_true _ _).mp e).2) id);have k9:∀d,eM (dS (.seq x y)) d=false->eM (dS x) d=false:=λd h=>by simp only[dS,wR,Bool.or_eq_false_iff] at h;exact h.1
  have wk:∀d,eM (dS (.seq x y)) d=false->eM (dS y) d=false:=λd h=>by simp only[dS,wR,Bool.or_eq_false_iff] at h;exact h.2
  simp only[e9] at h;split at h;refine wp_seq (Code.wp_mono ?_ (q5 _ _ _ s u h bs a w M));intro e b3 aw aa;obtain⟨ah,s',u',cd,ay,b5,hs,hk,ap⟩:=aa;cases e with
  |normal=>refine Code.wp_mono ?_ (q6 _ _ _ s' u' ay cd b3 aw b5);intro ar a2 ea fD;exact jV.next hs hk (λd aj=>ap d (k9 d aj)) (fD.mono wk)
  |exit id=>exact⟨ah,s',u',cd,ay,b5,hs,hk,λd aj=>ap d (k9 d aj)⟩|goto l=>exact⟨ah,s',u',cd,ay,b5,hs,hk,λd aj=>ap d (k9 d aj)⟩|ret=>exact⟨ah,s',u',cd,ay,b5,hs,hk,λd aj=>ap d (k9 d aj)⟩|panic c=>exact absurd rfl (ah c)|outgrown=>exact⟨ah,s',u',cd,ay,b5,hs,hk,λd aj=>ap d (k9 d aj)⟩
  rename_i aK _;have bx:=h (E6 aK.l6 λvs aI=>e9 C fs y (2*p+1) aY Q (lH s (dS x) aK vs) aI) (by
   have all:∀(bY:List al) (f:List Value->Prop),(∀vs,lC bY vs->f vs)->CQ bY f:=by
    intro bY;induction bY with
    |nil=>intro f M;exact M [] .nil
    |cons t bY aG=>intro f M x;exact aG _ λvs ll=>M _ (.cons x ll)
   refine all _ _ λvs ll aI h1=>?_;exact(Gd ll _).2 h1)
  refine wp_seq (Code.wp_mono ?_ (q5 _ _ _ s u bx bs a w M));intro e b3 aw aa;obtain⟨ah,s',u',cd,ay,b5,hs,hk,ap⟩:=aa;have lR:Kept aY s s':=Rf rfl hk;cases e with
  |normal=>simp only at ay;split at ay;rename_i vs ll;have aje:=Ce ay;have af:=(Gd aje _).1 ay;have aiJ:=M.lH b5 hs hk ap ll;refine Code.wp_mono ?_ (q6 _ _ _ _ u' af bs b3 aw aiJ);intro ar a2 ea fD;exact jV.next hs.forget (Rf rfl (MA hk ll)) (λd aj=>ap d (k9 d aj)) (fD.mono wk);exact ay.elim
  |exit id=>exact⟨ah,s',u',cd,ay,b5,hs,lR,λd aj=>ap d (k9 d aj)⟩|goto l=>exact⟨ah,s',u',cd,ay,b5,hs,lR,λd aj=>ap d (k9 d aj)⟩|ret=>exact⟨ah,s',u',cd,ay,b5,hs,lR,λd aj=>ap d (k9 d aj)⟩|panic c=>exact absurd rfl (ah c)|outgrown=>exact⟨ah,s',u',cd,ay,b5,hs,lR,λd aj=>ap d (k9 d aj)⟩
 |cond c x y q5 q6=>
  intro b4 p aY Q s u h bs a w M;have q5:=q5 (b4.imp (λe=>((Bool.and_eq_true _ _).mp e).1) id);have q6:=q6 (b4.imp (λe=>((Bool.and_eq_true _ _).mp e).2) id);have k9:∀d,eM (dS (.cond c x y)) d=false->eM (dS x) d=false:=λd h=>by simp only[dS,wR,Bool.or_eq_false_iff] at h;exact h.1
  have wk:∀d,eM (dS (.cond c x y)) d=false->eM (dS y) d=false:=λd h=>by simp only[dS,wR,Bool.or_eq_false_iff] at h;exact h.2
  have I:∀(bo:an),a.eval c=.bool true->Fits bo bs u a w->(bo.loc=s.loc/\bo.n=s.n)->e9 C fs x (2*p) aY Q bo u->(Code.cond c x y).wp C.P (jV aY s bs u a w (dS (.cond c x y)) Q) a w:=by intro bo E la cY hw;refine wp_cond_true E (Code.wp_mono ?_ (q5 _ _ _ bo u hw bs a w la));intro e b3 aw aa;exact jV.next (Step.refl M.sub) ⟨cY.2,by rw[cY.1];exact Nat.le_refl _,λi cs e _=>by rw[cY.1];exact e⟩ (λ_ _=>rfl) (aa.mono k9)
  have af:∀(bo:an),a.eval c=.bool false->Fits bo bs u a w->(bo.loc=s.loc/\bo.n=s.n)->e9 C fs y (2*p+1) aY Q bo u->(Code.cond c x y).wp C.P (jV aY s bs u a w (dS (.cond c x y)) Q) a w:=by intro bo E la cY hw;refine wp_cond_false E (Code.wp_mono ?_ (q6 _ _ _ bo u hw bs a w la));intro e b3 aw aa;exact jV.next (Step.refl M.sub) ⟨cY.2,by rw[cY.1];exact Nat.le_refl _,λi cs e _=>by rw[cY.1];exact e⟩ (λ_ _=>rfl) (aa.mono wk)
  have gk:∀v,s.sv c=some v->∀t,c=.tmp t->(look s.env t).isSome=true:=λv av t ht=>by subst ht;simp only[an.sv] at av;rw[av];rfl
  simp only[e9] at h;split at h;rename_i E;exact I s (Option.some.inj (M.sv E)).symm M ⟨rfl,rfl⟩ h;rename_i E;exact af s (Option.some.inj (M.sv E)).symm M ⟨rfl,rfl⟩ h;rename_i q d E;have er:=(Option.some.inj (M.sv E)).symm;by_cases ay:q;have aO:a.eval c=.bool true:=by rw[er];simp[ay]
  obtain⟨h1,h2⟩:=rv (x:=.hB) M (by rw[aO];rfl) (gk _ E);exact I _ aO h1 h2 (h.1 ay);have aO:a.eval c=.bool false:=by rw[er];simp[ay]
  obtain⟨h1,h2⟩:=rv (x:=.hr) M (by rw[aO];rfl) (gk _ E);exact af _ aO h1 h2 (h.2 ay);rename_i q d E;have er:=(Option.some.inj (M.sv E)).symm;by_cases ay:q;have aO:a.eval c=.bool false:=by rw[er];simp[ay]
  obtain⟨h1,h2⟩:=rv (x:=.hr) M (by rw[aO];rfl) (gk _ E);exact af _ aO h1 h2 (h.2 ay);have aO:a.eval c=.bool true:=by rw[er];simp[ay]
  obtain⟨h1,h2⟩:=rv (x:=.hB) M (by rw[aO];rfl) (gk _ E);exact I _ aO h1 h2 (h.1 ay);rename_i b E;have er:=(Option.some.inj (M.sv E)).symm;cases b with
  |true=>obtain⟨h1,h2⟩:=rv (x:=.hB) M (by rw[er];rfl) (gk _ E);exact I _ er h1 h2 (h.1 rfl)
  |false=>obtain⟨h1,h2⟩:=rv (x:=.hr) M (by rw[er];rfl) (gk _ E);exact af _ er h1 h2 (h.2 rfl)
  exact h.elim
 |block id b aG=>
  intro b4 p aY Q s u h bs a w M;have aG:=aG b4;simp only[e9] at h;refine wp_block (Code.wp_mono ?_ (aG _ _ _ s u h bs a w M));intro e b3 aw aa;obtain⟨ah,s',u',cd,ay,b5,hs,hk,ap⟩:=aa;cases e with
  |exit j=>simp only at ay;simp only[Exit.inBlock];split at ay;rename_i aH;have:=Nat.eq_of_beq_eq_true aH;subst this;rw[if_pos rfl];exact⟨λ_=>Exit.noConfusion,s',u',cd,ay,b5,hs,hk,ap⟩;rename_i aH;rw[if_neg (λe=>by subst e;rw[Nat.beq_refl] at aH;cases aH)];exact⟨ah,s',u',cd,ay,b5,hs,hk,ap⟩
  |normal=>exact⟨ah,s',u',cd,ay,b5,hs,hk,ap⟩|goto l=>exact⟨ah,s',u',cd,ay,b5,hs,hk,ap⟩|ret=>exact⟨ah,s',u',cd,ay,b5,hs,hk,ap⟩|panic c=>exact absurd rfl (ah c)|outgrown=>exact⟨ah,s',u',cd,ay,b5,hs,hk,ap⟩
 |scope b aG=>
  intro b4 p aY Q s u h bs a w M;have aG:=aG b4;simp only[e9] at h;refine wp_scope_straight (Code.wp_mono ?_ (aG _ _ _ s u h bs a w M));intro e b3 aw aa;obtain⟨ah,s',u',cd,ay,b5,hs,hk,ap⟩:=aa;cases e with
  |goto l=>exact ay.elim|exit j=>exact⟨ah,s',u',cd,ay,b5,hs,hk,ap⟩|normal=>exact⟨ah,s',u',cd,ay,b5,hs,hk,ap⟩|ret=>exact⟨ah,s',u',cd,ay,b5,hs,hk,ap⟩|panic c=>exact absurd rfl (ah c)|outgrown=>exact⟨ah,s',u',cd,ay,b5,hs,hk,ap⟩
 |loop b aG=>
  intro b4 p aY Q s u h bs a w M;have aG:=aG b4;simp only[e9] at h;split at h;exact h.elim;rename_i aK _;split at h;exact h.elim;rename_i Gh Yq;obtain⟨cu,μ,h0,Eu⟩:=h
  let Inv:(List Value×H)->Act->World->Prop:=λg b3 aw=>lC aK.l6 g.1/\(fr aK.l6 cu g.1 λr=>r g.2)/\Fits (lH s (dS b) aK g.1) bs g.2 b3 aw/\Step u bs w g.2 bs aw/\
   (∀d,eM (dS b) d=false->b3.tmps[d]?=a.tmps[d]?)/\Kept (narrow aY s.loc.length aK.boxes) s (lH s (dS b) aK g.1)
  let m:(List Value×H)->Nat:=λg=>(Classical.epsilon λn=>fr aK.l6 μ g.1 λm=>n=m g.2)
  have hm:∀g,lC aK.l6 g.1->∀f:(H->Nat)->Prop,fr aK.l6 μ g.1 f->∃r,f r/\m g=r g.2:=by intro g N f aiM;obtain⟨r,W⟩:=SV μ N;refine⟨r,(W _).1 aiM,?_⟩;have:=Classical.epsilon_spec (p:=λn=>fr aK.l6 μ g.1 λm=>n=m g.2) ⟨r g.2,(W _).2 rfl⟩;exact(W _).1 this
  have nE:=Ce h0;have ajb:Kept (narrow aY s.loc.length aK.boxes) s (lH s (dS b) aK Gh):=MA (Kept.refl _ _) Yq;refine auP Inv m ?_ (Gh,u) ⟨nE,h0,M.lH (aY:=aY) M (Step.refl M.sub) (Kept.refl _ _) (λ_ _=>rfl) Yq,Step.refl M.sub,λ_ _=>rfl,ajb⟩;rintro⟨vs,aI⟩ O gq ⟨yE,bQ,kK,df,DC,il⟩;have Z:=aeb Eu yE aI bQ;have awr:(lH s (dS b) aK vs).loc.length=s.loc.length:=by simp only[lH,FR]
  refine Code.wp_mono ?_ (aG _ _ _ _ aI Z bs O gq kK);intro e b3 aw aa;obtain⟨ah,s',u',cd,ay,b5,eT,hk,ap⟩:=aa;have ou:Kept (narrow aY s.loc.length aK.boxes) s s':=il.trans hk;have lR:Kept aY s s':=Rf rfl ou;have dc:=df.trans eT;have dK:∀d,eM (dS b) d=false->b3.tmps[d]?=a.tmps[d]?:=λd aj=>(ap d aj).trans (DC d aj);cases e with
  |normal=>simp only at ay;split at ay;rename_i nn Yp;have I9:=Ce ay;refine⟨(nn,u'),⟨I9,arl ay λr W=>?_,M.lH b5 dc ou dK Yp,dc.forget,dK,MA ou Yp⟩,?_⟩;obtain⟨m1,h1,_⟩:=hm (nn,u') I9 _ W;obtain⟨m0,h2,_⟩:=hm (vs,aI) yE _ h1;exact h2.1;obtain⟨r,W⟩:=SV cu I9;obtain⟨m1,h1,aO⟩:=hm (nn,u') I9 _ ((W _).1 ay);obtain⟨m0,h2,dH⟩:=hm (vs,aI) yE _ h1;rw[aO,dH];exact h2.2;exact ay.elim
  |exit id=>exact⟨ah,s',u',cd,ay,b5,dc,lR,dK⟩|goto l=>exact⟨ah,s',u',cd,ay,b5,dc,lR,dK⟩|ret=>exact⟨ah,s',u',cd,ay,b5,dc,lR,dK⟩|panic c=>exact absurd rfl (ah c)|outgrown=>exact⟨ah,s',u',cd,ay,b5,dc,lR,dK⟩
def oK(s:an):List ResultVar->List aF->Option (List Value)
 | [],[]=>some []| .tmp d::rs,.one _::ss=>match(look s.env d).bind eb.val,oK s rs ss with
  |some v,some vs=>some (v::vs)|_,_=>none
 | .cell d _::rs,ax::ss=>match look s.env d,oK s rs ss with
  |some (.loc i off),some vs=>match s.loc[i]? with
   |some cs=>match Nat.ble (off+ax.fS.length) cs.length with
    |true=>some ((cs.drop off).take ax.fS.length++vs)|false=>none
   |none=>none
  |_,_=>none
 |_,_=>none
def ri(P:Program):List ResultVar->List aF->Bool
 | [],[]=>true| .tmp _::rs,.one _::ss=>ri P rs ss| .cell _ t::rs,ax::ss=>(match nj P t,ax with
  |some (.one c),.one d=>(match c,d with
   | .int k,.int c7=>tL k c7| .bool,.bool=>true| .str,.str=>true| .ptr,.ptr=>true| .slice,.slice=>true| .map,.map=>true| .val,.val=>true|_,_=>false)
  |some (.agg c),.agg d=>Nat.beq c.length d.length|_,_=>false) && ri P rs ss
 |_,_=>false
def agf{t:al}{v:Value}:vV (.one t::ss) (v::vs)=v::vV ss vs:=rfl
theorem anX{P:Program}{s:an}{a:Act}{w:World}(M:Fits s bs u a w):∀(rs:List ResultVar) (ss:List aF) (vs:List Value),oK s rs ss=some vs->ri P rs ss=true->
  (rs.mapM (λ(r:ResultVar)=>match r with
   | .tmp t=>(pure (a.tmps.getD t undef):Sem Value)| .cell x t=>do loadVar t (<-asAddr (a.tmps.getD x undef)))).run P w=Result.ok (vV ss vs) w:=by
 intro rs
 induction rs with
 |nil=>
  intro ss vs h U;cases ss with
  |nil=>simp[oK] at h;subst h;rfl|cons=>simp[oK] at h
 |cons r rs aG=>
  intro ss vs h U;cases r with
  |tmp d=>
   cases ss with
   |nil=>simp[oK] at h|cons ax ss=>
    cases ax with
    |agg=>simp[oK] at h|one t=>
     simp only[oK] at h;split at h;rename_i v nn av ll;cases h;have bG:ri P rs ss=true:=U;have h1:=aG ss nn ll bG;simp only[Option.bind_eq_some_iff] at av;obtain⟨x,I,EM⟩:=av;obtain⟨bH,h2,h3⟩:=M.env _ (yT I);simp only at h2 h3;rw[eb.KY EM bs] at h2;cases h2;have N:a.tmps.getD d undef=v:=by simp_all
     simp only[List.mapM_cons,N,pure_bind,Sem.run_bind,agf];rw[h1];rfl;cases h
  |cell d t=>
   cases ss with
   |nil=>simp[oK] at h|cons ax ss=>
    have W:oK s (.cell d t::rs) (ax::ss)=some vs:=h;simp only[oK] at W;split at W;rename_i i off nn aj ll;split at W;rename_i cs ai;split at W;rename_i Z;cases W;have Z:=Nat.le_of_ble_eq_true Z;have hz:ri P (.cell d t::rs) (ax::ss)=true:=U;simp only[ri,Bool.and_eq_true] at hz;have h1:=aG ss nn ll hz.2;obtain⟨bH,h2,h3⟩:=M.env _ (yT aj);simp only at h2 h3;obtain⟨b,T,kI,jd⟩:=M.loc i cs ai;simp only[fa,kI,Option.some.injEq] at h2;subst h2;have N:a.tmps.getD d undef=.pointer (some ⟨b,off,none⟩):=by simp_all
    have A4:(loadVar t ⟨b,off,none⟩).run P w=.ok (ax.take ((cs.drop off).take ax.fS.length++nn)).1 w/\(ax.take ((cs.drop off).take ax.fS.length++nn)).2=nn:=by
     have aZ:=hz.1;cases eG:nj P t with
     |none=>grind|some sJ=>
      rw[eG] at aZ;have hlen:sJ.fS.length=ax.fS.length:=by cases sJ<;>cases ax<;>simp only[aF.fS] at aZ ⊢ <;>first|rfl|(exact Nat.eq_of_beq_eq_true aZ)|cases aZ
      have D7:=Zi (P:=P) (off:=off) jd sJ.fS.length 0 #[] (by rw[hlen];simpa using Z);have kM:=Br eG ⟨b,off,none⟩ (vs:=(cs.drop off).take sJ.fS.length) (by simp;rw[hlen];omega) (by simpa using D7) (by
       intro c E;subst E;have gi:ax.fS.length=1:=by rw[<-hlen];rfl
       have bh:off<cs.length:=by omega
       simp only[aF.fS,List.length_cons,List.length_nil] at hlen ⊢;refine⟨cs[off],?_,?_⟩;rw[List.drop_eq_getElem_cons bh];rfl;simp only[World.cell?,jd];simp[bh])
      rw[hlen] at kM;have ac:((cs.drop off).take ax.fS.length).length=ax.fS.length:=by simp;omega
      rw[kM];cases sJ with
      |one c'=>
       cases ax with
       |agg _=>simp at aZ|one c=>
        simp only[aF.fS,List.length_cons,List.length_nil] at ac ⊢
        match I:(cs.drop off).take 1,ac with
        | [x],_=>exact⟨rfl,rfl⟩
      |agg c'=>
       cases ax with
       |one _=>simp at aZ|agg c=>
        simp only[aF.fS] at ac ⊢;refine⟨?_,?_⟩;simp only[aF.mk,aF.take]
        grind
        simp only[aF.take]
        grind
    have aP:asAddr (.pointer (some ⟨b,off,none⟩))=pure ⟨b,off,none⟩:=rfl;simp only[List.mapM_cons,N,aP,pure_bind,Sem.run_bind,A4.1,Result.andThen_ok];rw[h1];simp only[vV,A4.2];rfl;cases W;cases W;cases W
def HF(d:Option Nat)(u:H)(f:H->Prop):Prop:=
 match d with
 |none=>f u|some D=>u D=some (.deferred (some []))/\f (u.ins D (.deferred none))
def vW(rs:List ResultVar)(ss:List aF)(K:fo (eW ss) (H->Prop)):Exit->an->H->Prop
 | .normal,s,u=>match oK s rs ss with
  |some vs=>HF s.ta u λu=>fr (eW ss) K vs λr=>r u|none=>False
 | .ret,s,u=>match oK s rs ss with
  |some vs=>HF s.ta u λu=>fr (eW ss) K vs λr=>r u|none=>False
 |_,_,_=>False
def Ba:Nat->List Value->List (Nat×eb)
 |_,[]=>[]|i,v::vs=>(i,.v v)::Ba (i+1) vs
theorem alh{i:Nat}(h:p∈Ba i vs):∃j v,vs[j]?=some v/\p=(i+j,.v v):=by
 induction vs generalizing i with
 |nil=>cases h
 |cons v vs aG=>
  simp only[Ba] at h;cases h with
  |head=>simp_all|tail _ h=>obtain⟨j,bH,h1,h2⟩:=aG h;exact⟨j+1,bH,h1,by rw[h2];congr 1;omega⟩
omit [k1] in
theorem VU(dW:Good C){fn:Func}{c:Code}(pW:C.P.funcs[f]?=some fn)(Z:fn.body=some c)(fs:List (Nat×mb)){env:List (Nat×eb)}
  (r7:∀p∈env,∃v,args[p.1]?=some v/\fa [] p.2=some v) {ss:List aF} {u:H}
  {K:fo (eW ss) (H->Prop)} (ac:Nat.ble args.length fn.ntmps=true) (W:ri C.P fn.results.toList ss=true)
  (h:e9 C fs c 1 (λ_=>true) (vW fn.results.toList ss K) {n:=fn.ntmps,env:=env,loc:=[]} u):fW C.P f args.toArray ss u K:=by
 intro w hw
 refine callsIn_wide.1 (callsIn_of_wp_marks (F:=Fence.wide) (n:=0) pW Z trivial (wpIn_wide.2 ?_))
 have hle:=Nat.le_of_ble_eq_true ac
 have M:Fits {n:=fn.ntmps,env:=env,loc:=[]} [] u {tmps:=args.toArray++Array.replicate (fn.ntmps-args.toArray.size) undef,defers:=[]} w:=by
  refine⟨⟨rfl,by simp;omega,?_⟩,rfl,by simp,by simp,by simp,hw⟩;intro p aa;obtain⟨v,h1,h2⟩:=r7 p aa;refine⟨v,h2,?_⟩;have bh:p.1<args.length:=by rcases Nat.lt_or_ge p.1 args.length with k|k;exact k;rw[List.getElem?_eq_none k] at h1;cases h1
  rw[Array.getElem?_append_left (by simpa using bh)];simpa using h1
 have hs:=U6 dW fs c (.inr rfl) 1 _ _ _ u h [] _ w M
 refine Code.wp_mono ?_ hs
 intro e b3 aw aa
 obtain⟨ah,s',u',cd,ay,b5,dc,_,_⟩:=aa
 have fin:∀vs,oK s' fn.results.toList ss=some vs->(HF s'.ta u' λu'=>fr (eW ss) K vs λr=>r u')->
   LeavesInM Fence.wide 0 C.P fn b3.tmps (λe aw=>∃v1 aI,e=.returned v1/\(∃vs,lC (eW ss) vs/\v1=qI ss vs/\fr (eW ss) K vs λr=>r aI)/\Step u [] w aI [] aw) b3.defers .returning aw:=by
  intro vs av ae
  have nI:∀s2 bE zT a2 ea,Fits s2 zT bE a2 ea->a2.tmps=b3.tmps->oK s2 fn.results.toList ss=some vs->(results fn b3.tmps).run C.P ea=.ok (qI ss vs) ea:=by
   intro s2 bE zT a2 ea gw ht yC;have lV:=anX (P:=C.P) gw fn.results.toList ss vs yC W;rw[<-ht];unfold results;rw[Sem.run_bind];have aO:(fn.results.mapM (λ(r:ResultVar)=>match r with
     | .tmp t=>(pure (a2.tmps.getD t undef):Sem Value)
     | .cell x t=>do loadVar t (<-asAddr (a2.tmps.getD x undef)))).run C.P ea=Result.ok (vV ss vs).toArray ea:=by
    rw[Array.mapM_eq_mapM_toList,Sem.run_map,lV]
    rfl
   refine(congrArg (λr=>Result.andThen r _) aO).trans ?_;simp only[Result.andThen_ok];unfold qI;cases I:vV ss vs with
   |nil=>rfl|cons v l=>
    cases l with
    |nil=>rfl|cons v2 l=>rfl
  rw[b5.defers]
  unfold HF at ae
  split at ae
  rename_i aj
  rw[aj]
  exact⟨_,nI s' u' cd b3 aw b5 rfl av,_,u',rfl,⟨vs,Ce ae,rfl,ae⟩,dc.forget⟩
  rename_i D aj
  rw[aj]
  obtain⟨fb,ae⟩:=ae
  have Wj:=b5.sub _ _ fb
  have nK:=run_takeDeferred (P:=C.P) Wj
  have P3:Step u' cd aw (u'.ins D (.deferred none)) cd (aw.putObj D (.deferred none)):=by
   have bh:=b5.sub.lt fb;refine⟨λb x h=>?_,rfl,rfl,rfl,Nat.le_refl _,by simp,λb _ Z _=>?_,λb _ Z=>?_,[],by simp,by simp⟩;unfold H.ins at h;split at h;rename_i oi;subst oi;cases h;exact World.putObj_heap_same bh;rename_i oi;rw[World.putObj_heap_other oi];exact b5.sub b x h;exact World.putObj_heap_other λe=>by rw[e,fb] at Z;cases Z
   rw[aL _ _ λe=>by rw[e,fb] at Z;cases Z];exact Z
  have gw:Fits s' cd (u'.ins D (.deferred none)) b3 (aw.putObj D (.deferred none)):=by refine⟨b5.toFitsE,b5.len,λi cs e=>?_,b5.nodup,λb Z=>?_,P3.sub⟩;obtain⟨b,T,h1,h2⟩:=b5.loc i cs e;exact⟨b,T,h1,(World.putObj_heap_other λe=>by rw[e,Wj] at h2;cases h2).trans h2⟩;exact⟨P3.jg b (b5.hid b Z).2 (b5.hid b Z).1,by simpa using(b5.hid b Z).2⟩
  refine⟨by simp,.inl ⟨D,_,rfl,nK,?_⟩⟩
  exact⟨_,nI s' _ cd b3 _ gw rfl av,_,_,rfl,⟨vs,Ce ae,rfl,ae⟩,(dc.trans P3).forget⟩
 cases e with
 |normal=>simp only[vW] at ay;split at ay;rename_i vs av;exact fin vs av ay;exact ay.elim
 |ret=>simp only[vW] at ay;split at ay;rename_i vs av;exact fin vs av ay;exact ay.elim
 |exit id=>exact ay.elim
 |goto l=>exact ay.elim
 |panic c=>exact absurd rfl (ah c)
 |outgrown=>exact ay.elim
omit [k1] in
theorem agL(dW:Good C){fn:Func}{c:Code}(pW:C.P.funcs[f]?=some fn)(Z:fn.body=some c)(fs:List (Nat×mb))
  {K:fo (eW ss) (H->Prop)} (ac:Nat.ble args.length fn.ntmps=true) (W:ri C.P fn.results.toList ss=true)
  (h:e9 C fs c 1 (λ_=>true) (vW fn.results.toList ss K) {n:=fn.ntmps,env:=Ba 0 args,loc:=[]} u):fW C.P f args.toArray ss u K:=
 VU dW pW Z fs (λp aa=>by obtain⟨j,v,h1,rfl⟩:=alh aa;exact⟨v,by simpa using h1,rfl⟩) ac W h
def ER(tR:Nat):Nat->List Value->List (Nat×eb)
 |_,[]=>[]|i,v::vs=>(i,match Nat.blt i tR with
  |true=>.v v|false=>KI .addr v)::ER tR (i+1) vs
def alg{tR:Nat}{i:Nat}(h:p∈ER tR i vs):∃j v,vs[j]?=some v/\p.1=i+j/\fa [] p.2=some v:=by
 induction vs generalizing i with
 |nil=>cases h
 |cons v vs aG=>
  simp only[ER] at h;cases h with
  |head=>
   refine⟨0,v,rfl,rfl,?_⟩;cases Nat.blt i tR with
   |true=>rfl|false=>exact abL _ _ _
  |tail _ h=>obtain⟨j,bH,h1,h2,h3⟩:=aG h;exact⟨j+1,bH,h1,by rw[h2];omega,h3⟩
omit [k1] in
theorem Df(tR:Nat)(dW:Good C){fn:Func}(pW:C.P.funcs[f]?=some fn)(Z:fn.body.isSome=true)(fs:List (Nat×mb))
  {K:fo (eW ss) (H->Prop)} (ac:Nat.ble args.length fn.ntmps=true) (W:ri C.P fn.results.toList ss=true)
  (h:e9 C fs (fn.body.getD .skip) 1 (λ_=>true) (vW fn.results.toList ss K) {n:=fn.ntmps,env:=ER tR 0 args,loc:=[]} u):fW C.P f args.toArray ss u K:=by
 cases E:fn.body with
 |none=>rw[E] at Z;cases Z
 |some c=>rw[E] at h;exact VU dW pW E fs (λp aa=>by obtain⟨j,v,h1,h2,h3⟩:=alg aa;exact⟨v,by rw[h2];simpa using h1,h3⟩) ac W h
omit [k1] in
theorem De(dW:Good C){fn:Func}(pW:C.P.funcs[f]?=some fn)(Z:fn.body.isSome=true)(fs:List (Nat×mb))
  {K:fo (eW ss) (H->Prop)} (ac:Nat.ble args.length fn.ntmps=true) (W:ri C.P fn.results.toList ss=true)
  (h:e9 C fs (fn.body.getD .skip) 1 (λ_=>true) (vW fn.results.toList ss K) {n:=fn.ntmps,env:=Ba 0 args,loc:=[]} u):fW C.P f args.toArray ss u K:=by
 cases E:fn.body with
 |none=>rw[E] at Z;cases Z
 |some c=>rw[E] at h;exact agL dW pW E fs ac W h
end
end
section
variable{P:Program}{n:Nat}
def wS(P:Program)(t:TypeId)(l:List Value):Value:=
 match nt P t with
 |true=>.agg l.toArray|false=>l.headD undef
def vY(P:Program)(k:TypeId->Option Nat):Nat->List Field->Option Nat
 |i,[]=>some i|i,f::r=>match f.name != "_",Nat.beq f.offset i,k f.type,sK P f.type with
  |true,true,some w,some aw=>match Nat.beq w aw with
   |true=>vY P k (i+w) r|false=>none
  |_,_,_,_=>none
def tl(P:Program):Nat->TypeId->Option Nat
 |0,_=>none|d+1,t=>match P.underlying t with
  |some (.int _)=>some 1|some (.struct aB)=>match P.stoodInHeld t with
   |true=>none|false=>vY P (tl P d) 0 aB.toList
  |_=>none
def HI:Value->Value->Bool
 | .int _ a,.int _ b=>decide (a=b)|_,_=>false
def o6:List Value->List Value->Bool
 | [],[]=>true|x::xs,y::cM=>HI x y && o6 xs cM|_,_=>false
def pv:List Value->List Value->Bool
 | [],[]=>true| .int k _::xs,.int c7 _::cM=>tL k c7 && pv xs cM|_,_=>false
theorem agn:∀(l m:List Value) (z:vK),ti l m=some z->pv l m=true/\@decide z.p z.d=o6 l m:=by
 have one:∀x y z,Da x y=some z->∃k a b,x=.int k a/\y=.int k b/\@decide z.p z.d=decide (a=b):=by
  intro x y z h;unfold Da at h;split at h;rename_i k a c7 b;split at h;rename_i hk;have:=EY hk;subst this
  grind
  cases h;cases h
 intro l;induction l with
 |nil=>
  intro m z h;cases m with
  |nil=>simp only[ti,Option.some.injEq] at h;subst h;exact⟨rfl,rfl⟩|cons=>simp[ti] at h
 |cons x l aG=>
  intro m z h;cases m with
  |nil=>cases l<;>simp[ti] at h
  |cons y m=>
   by_cases Xn:l=[]/\m=[];obtain⟨rfl,rfl⟩:=Xn;simp only[ti] at h;obtain⟨k,a,b,rfl,rfl,aj⟩:=one _ _ _ h;refine⟨by simp[pv,QM],?_⟩;rw[aj];simp[o6,HI]
   .have bx:(match Da x y,ti l m with
      |some a,some b=>some ⟨a.p/\b.p,@instDecidableAnd a.p b.p a.d b.d⟩
      |_,_=>(none:Option vK))=some z:=by
     cases l with
     |nil=>cases m with
      |nil=>grind|cons=>exact h
     |cons=>exact h
    split at bx
    rename_i a b ap Z
    obtain⟨k,O,eQ,rfl,rfl,aj⟩:=one _ _ _ ap
    obtain⟨h1,h2⟩:=aG m b Z
    cases bx
    refine⟨by simp[pv,QM,h1],?_⟩
    simp only[o6,HI,<-h2,<-aj]
    grind
    cases bx
def anc:∀(n:Nat) (l m:List Value),pv l m=true->pv (l.take n) (m.take n)=true/\pv (l.drop n) (m.drop n)=true/\o6 l m=(o6 (l.take n) (m.take n) && o6 (l.drop n) (m.drop n)):=by
 intro n;induction n with
 |zero=>intro l m h;exact⟨rfl,h,by simp[o6]⟩
 |succ n aG=>
  intro l m h;cases l with
  |nil=>cases m with
   |nil=>exact⟨rfl,rfl,rfl⟩|cons=>simp[pv] at h
  |cons x l=>cases m with
   |nil=>cases x<;>simp[pv] at h
   |cons y m=>cases x<;>cases y<;>simp only[pv,Bool.false_eq_true] at h;rw[Bool.and_eq_true] at h;obtain⟨h1,h2,h3⟩:=aG l m h.2;refine⟨by simp[pv,h.1,h1],h2,?_⟩;simp only[List.take_succ_cons,List.drop_succ_cons,o6,h3,Bool.and_assoc]
theorem ZN{t:TypeId}{w:Nat}{xs:Array Value}{off:Nat}(hs:sK P t=some w)(hu:(P.underlying t).isSome=true)(ai:nt P t=false->1=w)(Z:off+w<=xs.size)(bm:World):
  (part t xs off).run P bm=.ok (wS P t ((xs.toList.drop off).take w)) bm:=by
 obtain⟨d,aj⟩:=Option.isSome_iff_exists.1 hu
 unfold sK at hs
 cases hi:P.info? t with
 |none=>rw[hi] at hs;cases hs
 |some i=>
  rw[hi] at hs;cases hs;have cA:(sizeOf t).run P bm=.ok i.size bm:=by simp[sizeOf,run_typeInfo bm hi]
  cases N:nt P t with
  |true=>
   have:(isAgg t).run P bm=.ok true bm:=by unfold nt at N;rw[aj] at N;cases d<;>simp only[Bool.false_eq_true] at N<;>simp[isAgg,run_underlying aj]
   simp only[part,Sem.run_bind,this,Result.andThen_ok,if_true,cA,wS,N];simp only[Sem.run_pure];congr 2
   grind
  |false=>
   have h1:1=i.size:=ai N;have bh:off<xs.size:=by grind
   have:(isAgg t).run P bm=.ok false bm:=by unfold nt at N;rw[aj] at N;cases d<;>simp only[Bool.true_eq_false] at N<;>simp[isAgg,run_underlying aj]
   simp only[part,Sem.run_bind,this,Result.andThen_ok,Bool.false_eq_true,if_false,wS,N];rw[Array.getElem?_eq_getElem bh];simp only[Sem.run_pure];congr 1;rw[<-h1,List.drop_eq_getElem_cons (by simpa using bh)];simp
theorem agF{d:Nat}{t:TypeId}(h:tl P d t=some n):(P.underlying t).isSome=true/\(nt P t=false->1=n):=by
 cases d with
 |zero=>simp[tl] at h|succ d=>
  simp only[tl] at h;split at h
  grind
  rename_i hu;exact⟨by rw[hu];rfl,λe=>by simp[nt,hu] at e⟩;cases h
theorem agu(bm:World):∀(d:Nat) (t:TypeId) (n e:Nat) (l m:List Value),tl P d t=some n->l.length=n->m.length=n->pv l m=true->
  (Op.equalIn (d+e) t (wS P t l) (wS P t m)).run P bm=.ok (o6 l m) bm:=by
 intro d
 induction d with
 |zero=>intro t n e l m h;simp[tl] at h
 |succ d aG=>
  intro t n e l m h ai hm aa;rw[show d+1+e=(d+e)+1 by omega];simp only[tl] at h;split at h;rename_i k hu;cases h;have N:nt P t=false:=by simp[nt,hu]
  match l,m,ai,hm with
  | [x],[y],_,_=>cases x<;>cases y<;>simp only[pv,Bool.false_eq_true] at aa;rw[Bool.and_eq_true] at aa;have:=EY aa.1;subst this;simp only[wS,N,List.headD_cons];rw[run_equalIn_int bm (d+e) t _ k _ _ hu];simp[o6,HI,BEq.beq]
  .rename_i aB hu;split at h;cases h
   .rename_i hs;have N:nt P t=true:=by simp[nt,hu]
    have ij:P.fieldsOf t=aB:=by simp[Program.fieldsOf,hu]
    simp only[wS,N];rw[run_equalIn_struct bm (d+e) t _ _ (by rw[ij];exact hu) hs,ij];have key:∀(ci:List Field) (i:Nat),vY P (tl P d) i ci=some n->i<=n->pv (l.drop i) (m.drop i)=true->
      (Op.eqFields (d+e) l.toArray m.toArray ci).run P bm=.ok (o6 (l.drop i) (m.drop i)) bm:=by
     intro ci
     induction ci with
     |nil=>intro i hi hle u2;simp only[vY,Option.some.injEq] at hi;subst hi;rw[List.drop_of_length_le (by omega),List.drop_of_length_le (by omega)];simp[Op.eqFields,o6]
     |cons f ci ale=>
      intro i hi hle u2;simp only[vY] at hi;split at hi;rename_i w aw ac U hk cA;split at hi;rename_i Qu;have Qu:=Nat.eq_of_beq_eq_true Qu;subst Qu;have U:=Nat.eq_of_beq_eq_true U;have ah:f.name≠ "_" :=by simpa using ac
      have ajx:∀(ci:List Field) (j:Nat),vY P (tl P d) j ci=some n->j<=n:=by
       intro ci;induction ci with
       |nil=>intro j aH;simp only[vY,Option.some.injEq] at aH;omega
       |cons g ci aw4=>
        intro j aH;simp only[vY] at aH
        grind
      have ph:=ajx ci _ hi;obtain⟨sg,Wy⟩:=agF hk;have gj:=ZN (xs:=l.toArray) (off:=f.offset) cA sg Wy (by simp;omega) bm;have fD:=ZN (xs:=m.toArray) (off:=f.offset) cA sg Wy (by simp;omega) bm;obtain⟨jz,iM,lj⟩:=anc w _ _ u2;have ay:=aG f.type w e ((l.drop i).take w) ((m.drop i).take w) hk (by simp;omega) (by simp;omega) jz;rw[U] at gj fD;simp only[Op.eqFields,if_pos ah,U,Sem.run_bind,gj,fD,Result.andThen_ok,ay];rw[lj];have W:=ale (i+w) hi ph (by simp_all);rw[<-List.drop_drop,<-List.drop_drop] at W;cases o6 ((l.drop i).take w) ((m.drop i).take w) with
      |true=>simpa using W|false=>simp
      cases hi;cases hi
    grind
  cases h
def Nw(P:Program)(t n:Nat):Bool:=
 match tl P 10 t with
 |some k=>Nat.beq k n && !P.eqGuardType P.depth t && nt P t|none=>false
def agt{t:Nat}(h:Nw P t n=true)(xs cM:Array Value)(z:vK)(h1:xs.toList.length=n)(h2:cM.toList.length=n)(he:ti xs.toList cM.toList=some z)(x y:Operand)(w:World):
  (eqGuard .eql t x y (.agg xs) (.agg cM)).run P w=.ok () w/\(eqGuard .neq t x y (.agg xs) (.agg cM)).run P w=.ok () w/\
  (Op.equal t (.agg xs) (.agg cM)).run P w=.ok (@decide z.p z.d) w:=by
 unfold Nw at h
 split at h
 rename_i k hk
 simp only[Bool.and_eq_true,Bool.not_eq_true'] at h
 obtain⟨⟨ai,N⟩,ap⟩:=h
 have ai:=Nat.eq_of_beq_eq_true ai
 subst ai
 obtain⟨aa,aj⟩:=agn _ _ _ he
 refine⟨run_eqGuard_agg w .eql t x y xs cM N,run_eqGuard_agg w .neq t x y xs cM N,?_⟩
 have:=agu w 10 t k 9990 _ _ hk h1 h2 aa
 simp only[wS,ap] at this
 rw[aj]
 exact this
 cases h
def Zz(P:Program):Bool:=P.funcs.toList.all λfn=>(fn.name== "runtime.NumGoroutine")==false
def amP(h:Zz P=true)(f:FuncId)(fn:Func)(e:P.funcs[f]?=some fn):(fn.name== "runtime.NumGoroutine")=false:=by have:=List.all_eq_true.1 h fn (Array.mem_toList_iff.2 (Array.mem_of_getElem? e));simpa using this
theorem agr{l:List (Nat×Nat)}{t:Nat}(h:Db l t=some n):(t,n)∈l:=by
 induction l with
 |nil=>cases h
 |cons p r aG=>
  obtain⟨a,b⟩:=p;simp only[Db] at h;split at h
  simp_all
  exact .tail _ (aG h)
def ag2{gB:List (Nat×Nat)}(h1:Zz P=true)(h2:P.follows .mixedOrders=true)(h3:(gB.all λp=>Nw P p.1 p.2)=true)(exp:List Nat)(wrap:Bool){lN l2:List Nat}{part:Bool}:
  Good {P:=P,exp:=exp,wrap:=wrap,gB:=gB,lN:=lN,l2:=l2,part:=part}:=
 ⟨amP h1,h2,λ_ _ h xs cM z b9 cZ he x y w=>agt (List.all_eq_true.1 h3 _ (agr h)) xs cM z b9 cZ he x y w⟩
end
section
variable{u u' Y:H}{s:J}{P:Program}{size bytes g i b:Nat}{e t k:TypeId}{xs zs cM:List Value}{l:List Int}{x:Int}{w:World}{K:J->H->Prop}{ss:List aF}
def gB:List (Nat×Nat):=[(81,2),(83,3),(46,4),(50,12)]
def lP(exp:List Nat)(wrap:Bool){lN l2:List Nat}{part:Bool}:Good {P:=Tryz.prog,exp:=exp,wrap:=wrap,gB:=gB,lN:=lN,l2:=l2,part:=part}:=ag2 (by kernel_rfl) (by kernel_rfl) (by kernel_rfl) exp wrap
abbrev aX:=Option Addr
abbrev a8:J:=⟨none,0,0⟩
abbrev vs(s:J):Value:=.slice s.a s.n s.c
abbrev ag(x:Int):Value:=.int .i64 x
abbrev bB(x:Int):Value:=.int .u64 x
abbrev aC(x:aX):Value:=.pointer x
abbrev aR(r:Addr)(x:Int)(k:Nat):Addr:=r.add (x.toNat*k)
abbrev am(n:Nat):Addr:=⟨n,0,none⟩
abbrev aW:List aF:=[.one .slice]
abbrev bQ:List aF:=[.one (.int .i64)]
abbrev b4:List aF:=[.one .bool]
abbrev cB:List aF:=[.one .ptr]
abbrev Q:=H->Prop
abbrev aU(f:FuncId)(a:Array Value)(ss:List aF)(u:H)(K:fo (eW ss) Q):Prop:=fW Tryz.prog f a ss u K
abbrev lt(u:H)(k:Q):Prop:=k u
abbrev sm(m:Sem Value)(ss:List aF)(u:H)(K:fo (eW ss) (H->Prop)):Prop:=cx Tryz.prog m ss u K
abbrev fK(v:Value)(a:Array Value)(ss:List aF)(u:H)(K:fo (eW ss) (H->Prop)):Prop:=mc Tryz.prog v a ss u K
abbrev oa(v:Value)(n:String)(a:Array Value)(ss:List aF)(u:H)(K:fo (eW ss) (H->Prop)):Prop:=lB Tryz.prog v n a ss u K
abbrev bc(s:J)(x:Int)(k:Addr->Prop):Prop:=∃r,s.a=some r/\((0:Int)<=x/\x<(s.n:Int))/\k r
abbrev aD(p:aX)(k:Addr->Prop):Prop:=∃r,p=some r/\k r
abbrev a1(u:H)(a:Addr)(k:Int->Prop):Prop:=∃x,u.cell? a=some (ag x)/\k x
abbrev dd(u:H)(a:Addr)(k:Int->Prop):Prop:=∃x,u.cell? a=some (bB x)/\k x
abbrev bg(u:H)(a:Addr)(k:J->Prop):Prop:=∃x:J,u.cell? a=some (vs x)/\k x
abbrev ca(u:H)(a:Addr)(k:aX->Prop):Prop:=∃x,u.cell? a=some (aC x)/\k x
abbrev dQ(u:H)(a:Addr)(k:Option Nat->Prop):Prop:=∃x,u.cell? a=some (.map x)/\k x
abbrev oE(u:H)(a:Addr)(k:Bool->Prop):Prop:=∃x,u.cell? a=some (.bool x)/\k x
abbrev nO(u:H)(a:Addr)(k:Value->Prop):Prop:=∃x,u.cell? a=some x/\k x
abbrev aA(c A B:Prop):Prop:=(c->A)/\(¬c->B)
abbrev bt(c A B:Prop):Prop:=(¬c->A)/\(c->B)
abbrev cW(b:Bool)(A B:Prop):Prop:=(b=true->A)/\(b=false->B)
abbrev c6(u:H)(k:Nat->Prop):Prop:=∀n,u n=none->k n
abbrev Fb(u:H)(f:(H->Prop)->H->Prop):Prop:=∃cu:H->Prop,∃bT:H->Nat,cu u/\∀v,cu v->f (λw=>cu w/\bT w<bT v) v
abbrev mz(g:H->Prop)(f:(H->Prop)->Prop):Prop:=∀K:H->Prop,(∀u,g u->K u)->f K
abbrev fO(α:Type)(i0:α)(u:H)(f:(α->H->Prop)->α->H->Prop):Prop:=∃cu:α->H->Prop,∃bT:α->H->Nat,cu i0 u/\∀b0 v,cu b0 v->f (λiA w=>cu iA w/\bT iA w<bT b0 v) b0 v
abbrev fE(α:Type)(g:α->H->Prop)(f:(α->H->Prop)->Prop):Prop:=∀K:α->H->Prop,(∀b0 u,g b0 u->K b0 u)->f K
abbrev hL(α:Type)(β:Type)(i0:α)(i1:β)(u:H)(f:(α->β->H->Prop)->α->β->H->Prop):Prop:=∃cu:α->β->H->Prop,∃bT:α->β->H->Nat,cu i0 i1 u/\∀b0 cJ v,cu b0 cJ v->f (λiA e4 w=>cu iA e4 w/\bT iA e4 w<bT b0 cJ v) b0 cJ v
abbrev oD(α:Type)(β:Type)(g:α->β->H->Prop)(f:(α->β->H->Prop)->Prop):Prop:=∀K:α->β->H->Prop,(∀b0 cJ u,g b0 cJ u->K b0 cJ u)->f K
abbrev sr(α:Type)(β:Type)(γ:Type)(i0:α)(i1:β)(i2:γ)(u:H)(f:(α->β->γ->H->Prop)->α->β->γ->H->Prop):Prop:=∃cu:α->β->γ->H->Prop,∃bT:α->β->γ->H->Nat,cu i0 i1 i2 u/\∀b0 cJ c8 v,cu b0 cJ c8 v->f (λiA e4 fm w=>cu iA e4 fm w/\bT iA e4 fm w<bT b0 cJ c8 v) b0 cJ c8 v
abbrev YO(α:Type)(β:Type)(γ:Type)(g:α->β->γ->H->Prop)(f:(α->β->γ->H->Prop)->Prop):Prop:=∀K:α->β->γ->H->Prop,(∀b0 cJ c8 u,g b0 cJ c8 u->K b0 cJ c8 u)->f K
abbrev yU(α:Type)(β:Type)(γ:Type)(δ:Type)(i0:α)(i1:β)(i2:γ)(i3:δ)(u:H)(f:(α->β->γ->δ->H->Prop)->α->β->γ->δ->H->Prop):Prop:=∃cu:α->β->γ->δ->H->Prop,∃bT:α->β->γ->δ->H->Nat,cu i0 i1 i2 i3 u/\∀b0 cJ c8 eC v,cu b0 cJ c8 eC v->f (λiA e4 fm h8 w=>cu iA e4 fm h8 w/\bT iA e4 fm h8 w<bT b0 cJ c8 eC v) b0 cJ c8 eC v
abbrev alp(α:Type)(β:Type)(γ:Type)(δ:Type)(g:α->β->γ->δ->H->Prop)(f:(α->β->γ->δ->H->Prop)->Prop):Prop:=∀K:α->β->γ->δ->H->Prop,(∀b0 cJ c8 eC u,g b0 cJ c8 eC u->K b0 cJ c8 eC u)->f K
abbrev al3(α:Type)(β:Type)(γ:Type)(δ:Type)(ε:Type)(i0:α)(i1:β)(i2:γ)(i3:δ)(i4:ε)(u:H)(f:(α->β->γ->δ->ε->H->Prop)->α->β->γ->δ->ε->H->Prop):Prop:=∃cu:α->β->γ->δ->ε->H->Prop,∃bT:α->β->γ->δ->ε->H->Nat,cu i0 i1 i2 i3 i4 u/\∀b0 cJ c8 eC fy v,cu b0 cJ c8 eC fy v->f (λiA e4 fm h8 mH w=>cu iA e4 fm h8 mH w/\bT iA e4 fm h8 mH w<bT b0 cJ c8 eC fy v) b0 cJ c8 eC fy v
abbrev aw9(α:Type)(β:Type)(γ:Type)(δ:Type)(ε:Type)(ζ:Type)(i0:α)(i1:β)(i2:γ)(i3:δ)(i4:ε)(i5:ζ)(u:H)(f:(α->β->γ->δ->ε->ζ->H->Prop)->α->β->γ->δ->ε->ζ->H->Prop):Prop:=∃cu:α->β->γ->δ->ε->ζ->H->Prop,∃bT:α->β->γ->δ->ε->ζ->H->Nat,cu i0 i1 i2 i3 i4 i5 u/\∀b0 cJ c8 eC fy eJ v,cu b0 cJ c8 eC fy eJ v->f (λiA e4 fm h8 mH zl w=>cu iA e4 fm h8 mH zl w/\bT iA e4 fm h8 mH zl w<bT b0 cJ c8 eC fy eJ v) b0 cJ c8 eC fy eJ v
abbrev Zk(α:Type)(β:Type)(γ:Type)(δ:Type)(ε:Type)(ζ:Type)(η:Type)(i0:α)(i1:β)(i2:γ)(i3:δ)(i4:ε)(i5:ζ)(i6:η)(u:H)(f:(α->β->γ->δ->ε->ζ->η->H->Prop)->α->β->γ->δ->ε->ζ->η->H->Prop):Prop:=∃cu:α->β->γ->δ->ε->ζ->η->H->Prop,∃bT:α->β->γ->δ->ε->ζ->η->H->Nat,cu i0 i1 i2 i3 i4 i5 i6 u/\∀b0 cJ c8 eC fy eJ ky v,cu b0 cJ c8 eC fy eJ ky v->f (λiA e4 fm h8 mH zl K3 w=>cu iA e4 fm h8 mH zl K3 w/\bT iA e4 fm h8 mH zl K3 w<bT b0 cJ c8 eC fy eJ ky v) b0 cJ c8 eC fy eJ ky v
def aB(e:List Nat){args:List Value}{f:FuncId}{fn:Func}(M:Tryz.prog.funcs[f]?=some fn)(fs:List (Nat×mb)){K:fo (eW ss) (H->Prop)}{P:Prop}(h:P)(Z:fn.body.isSome=true:=by kernel_rfl)(ac:Nat.ble args.length fn.ntmps=true:=by kernel_rfl)(W:ri Tryz.prog fn.results.toList ss=true:=by kernel_rfl)(cB:P=e9 {P:=Tryz.prog,exp:=e,wrap:=false,gB:=gB,lN:=[],l2:=[]} fs (fn.body.getD .skip) 1 (λ_=>true) (vW fn.results.toList ss K) {n:=fn.ntmps,env:=Ba 0 args,loc:=[]} u:=by kernel_rfl):fW Tryz.prog f args.toArray ss u K:=De (lP _ _) M Z fs ac W (Eq.mp cB h)
abbrev bA:al:=.int .i64
abbrev aK(n:Nat)(l:List (Nat×al)):Nat×mb:=(n,⟨l,[]⟩)
def k7(tR:Nat)(e:List Nat){args:List Value}{f:FuncId}{fn:Func}(M:Tryz.prog.funcs[f]?=some fn)(fs:List (Nat×mb)){K:fo (eW ss) (H->Prop)}{P:Prop}(h:P)(Z:fn.body.isSome=true:=by kernel_rfl)(ac:Nat.ble args.length fn.ntmps=true:=by kernel_rfl)(W:ri Tryz.prog fn.results.toList ss=true:=by kernel_rfl)(cB:P=e9 {P:=Tryz.prog,exp:=e,wrap:=false,gB:=gB,lN:=[],l2:=[]} fs (fn.body.getD .skip) 1 (λ_=>true) (vW fn.results.toList ss K) {n:=fn.ntmps,env:=ER tR 0 args,loc:=[]} u:=by kernel_rfl):fW Tryz.prog f args.toArray ss u K:=Df tR (lP _ _) M Z fs ac W (Eq.mp cB h)
def T2(bp bu cn dP hb hU Hc bF bK dt kf:Int)(qA qB:J)(rM CL CM:Int)(CN:ByteArray)(Hd:J)(u:H)(K:Bool->Q):=aU 7 #[Value.agg #[ag bp,ag bu,ag cn,ag dP,ag hb,ag hU,bB Hc],Value.agg #[ag bF,ag bK,ag dt,ag kf,vs qA,vs qB,ag rM,ag CL,ag CM,Value.string CN,vs Hd]] b4 u K
def vA(a0:aX)(bF:Int)(bK:J)(u:H)(K:Int->Int->Q):=aU 10 #[aC a0,Value.agg #[ag bF,vs bK]] [aF.one (al.int IntKind.i64),aF.one (al.int IntKind.i64)] u K
def Gt(a0:aX)(O:ByteArray)(u:H)(K:Int->Q):=aU 13 #[aC a0,Value.string O] bQ u K
def Cm(a0:aX)(O:Int)(u:H)(K:Bool->Int->Q):=aU 15 #[aC a0,ag O] [aF.one al.bool,aF.one (al.int IntKind.i64)] u K
def Lv(a0:ByteArray)(u:H)(K:Int->Int->Int->Int->Int->Q):=aU 17 #[Value.string a0] [aF.agg [al.int IntKind.i64,al.int IntKind.i64,al.int IntKind.i64,al.int IntKind.i64],aF.one (al.int IntKind.i64)] u K
def Gu(a0:aX)(u:H)(K:Int->Int->Int->Int->Int->Int->Int->Int->Int->Int->Int->Int->Q):=aU 18 #[aC a0] [aF.agg [al.int IntKind.i64,al.int IntKind.i64,al.int IntKind.i64,al.int IntKind.i64,al.int IntKind.i64,al.int IntKind.i64,al.int IntKind.i64,al.int IntKind.i64,al.int IntKind.i64,al.int IntKind.i64,al.int IntKind.i64,al.int IntKind.i64]] u K
def Lu(a0:aX)(u:H)(K:J->Q):=aU 19 #[aC a0] aW u K
def L7(a0:J)(u:H)(K:Bool->Q):=aU 20 #[vs a0] b4 u K
def Lo(a0:Int)(u:H)(K:aX->Int->Q):=aU 21 #[ag a0] [aF.one al.ptr,aF.one (al.int IntKind.i64)] u K
def Gw(a0:aX)(bF bK dt kf qA qB rM:Int)(u:H)(K:aX->Int->Q):=aU 22 #[aC a0,Value.agg #[ag bF,ag bK,ag dt,ag kf,ag qA,ag qB,bB rM]] [aF.one al.ptr,aF.one (al.int IntKind.i64)] u K
def L6(u:H)(K:Bool->Q):=aU 23 #[] b4 u K
def zp(a0:aX)(bF:J)(bK dt kf:Int)(u:H)(K:J->Bool->Int->Int->Int->Int->Int->Q):=aU 25 #[aC a0,Value.agg #[vs bF,ag bK,ag dt,ag kf]] [aF.agg [al.slice,al.bool,al.int IntKind.i64,al.int IntKind.i64,al.int IntKind.i64,al.int IntKind.i64],aF.one (al.int IntKind.i64)] u K
def Cp(a0 O:J)(a2:Int)(u:H)(K:J->Int->Q):=aU 26 #[vs a0,vs O,ag a2] [aF.one al.slice,aF.one (al.int IntKind.i64)] u K
def Lr(a0:aX)(O:Int)(u:H)(K:Int->Int->Q):=aU 28 #[aC a0,ag O] [aF.one (al.int IntKind.i64),aF.one (al.int IntKind.i64)] u K
def Lt(a0:aX)(O:Int)(u:H)(K:J->Int->Q):=aU 30 #[aC a0,ag O] [aF.one al.slice,aF.one (al.int IntKind.i64)] u K
def Ls(a0:aX)(u:H)(K:Int->Q):=aU 32 #[aC a0] bQ u K
def Tw(a0:aX)(u:H)(K:Int->Q):=aU 33 #[aC a0] bQ u K
def LZ(a0:aX)(bF:Int)(bK:J)(u:H)(K:Int->Int->Q):=aU 35 #[aC a0,Value.agg #[ag bF,vs bK]] [aF.one (al.int IntKind.i64),aF.one (al.int IntKind.i64)] u K
def GM(a0:aX)(O:Int)(u:H)(K:J->Int->Q):=aU 36 #[aC a0,ag O] [aF.one al.slice,aF.one (al.int IntKind.i64)] u K
def Gv(a0:aX)(O rN s4:Int)(rO:J)(u:H)(K:Int->Int->Q):=aU 37 #[aC a0,ag O,Value.agg #[ag rN,ag s4,vs rO]] [aF.one (al.int IntKind.i64),aF.one (al.int IntKind.i64)] u K
def Gy(a0:aX)(bF bK dt kf:Int)(u:H)(K:Int->Q):=aU 38 #[aC a0,Value.agg #[ag bF,ag bK,ag dt,ag kf]] bQ u K
def Gp(bp bu cn dP O:Int)(a2:J)(a3:Int)(u:H)(K:aX->Int->Q):=aU 39 #[Value.agg #[ag bp,ag bu,ag cn,ag dP],ag O,vs a2,bB a3] [aF.one al.ptr,aF.one (al.int IntKind.i64)] u K
def zq(a0:aX)(u:H)(K:J->Q):=aU 40 #[aC a0] aW u K
def Tx(a0:aX)(u:H)(K:Bool->Q):=aU 41 #[aC a0] b4 u K
def adb(a0:ByteArray)(O:Addr)(u:H)(K:Bool->Q):=aU 42 #[Value.string a0,aC (some O)] b4 u K
def L5(a0 O:ByteArray)(u:H)(K:ByteArray->Bool->Q):=aU 43 #[Value.string a0,Value.string O] [aF.one al.str,aF.one al.bool] u K
def ade(a0 O:Addr)(u:H)(K:Int->Q):=aU 44 #[aC (some a0),aC (some O)] bQ u K
def L4(a0:ByteArray)(u:H)(K:Int->Value->Q):=aU 45 #[Value.string a0] [aF.one (al.int IntKind.i64),aF.one al.val] u K
def zr(bp bu cn dP:Int)(u:H)(K:Int->Q):=aU 46 #[Value.agg #[ag bp,ag bu,ag cn,ag dP]] bQ u K
def LY(a0:aX)(u:H)(K:Int->Q):=aU 47 #[aC a0] bQ u K
def Cw(a0:aX)(u:H)(K:Int->Q):=aU 48 #[aC a0] bQ u K
def L1(a0:aX)(u:H)(K:Int->Q):=aU 49 #[aC a0] bQ u K
def xc(a0:aX)(u:H)(K:Int->Int->Int->Int->Q):=aU 50 #[aC a0] [aF.agg [al.int IntKind.i64,al.int IntKind.i64,al.int IntKind.i64,al.int IntKind.i64]] u K
def LW(a0:aX)(O:Int)(u:H)(K:aX->Int->Q):=aU 51 #[aC a0,ag O] [aF.one al.ptr,aF.one (al.int IntKind.i64)] u K
def T3(u:H)(K:Int->Int->Int->Int->Int->Int->Int->Q):=aU 52 #[] [aF.agg [al.int IntKind.i64,al.int IntKind.i64,al.int IntKind.i64,al.int IntKind.i64,al.int IntKind.i64,al.int IntKind.i64,al.int IntKind.u64]] u K
def GI(bp:J)(bu cn dP O:Int)(u:H)(K:Int->Q):=aU 53 #[Value.agg #[vs bp,ag bu,ag cn,ag dP],ag O] bQ u K
def LL(bp bu cn dP O:Int)(rN:J)(s4 rO zP:Int)(u:H)(K:Int->Int->Q):=aU 54 #[Value.agg #[ag bp,ag bu,ag cn,ag dP],ag O,Value.agg #[vs rN,ag s4,ag rO,ag zP]] [aF.one (al.int IntKind.i64),aF.one (al.int IntKind.i64)] u K
def Gn(a0:aX)(O:J)(a2 a3:Int)(u:H)(K:J->J->J->Int->Q):=aU 55 #[aC a0,vs O,ag a2,ag a3] [aF.agg [al.slice,al.slice,al.slice],aF.one (al.int IntKind.i64)] u K
def La(a0 O:J)(a2:Int)(rP rQ qC:J)(u:H)(K:Bool->Int->Q):=aU 56 #[vs a0,vs O,ag a2,Value.agg #[vs rP,vs rQ,vs qC]] [aF.one al.bool,aF.one (al.int IntKind.i64)] u K
def Ly(a0 O:J)(u:H)(K:Int->Q):=aU 57 #[vs a0,vs O] bQ u K
def zx(a0:Int)(u:H)(K:aX->Int->Q):=aU 58 #[ag a0] [aF.one al.ptr,aF.one (al.int IntKind.i64)] u K
def Ty(a0 O:J)(u:H)(K:Value->Q):=aU 59 #[vs a0,vs O] [aF.one al.val] u K
def xh(a0:aX)(bF bK dt:Int)(u:H)(K:Bool->Q):=aU 60 #[aC a0,Value.agg #[ag bF,bB bK,bB dt]] b4 u K
def xg(a0:aX)(u:H)(K:J->Q):=aU 61 #[aC a0] aW u K
def LX(a0:aX)(O:Int)(u:H)(K:Int->Int->Q):=aU 62 #[aC a0,ag O] [aF.one (al.int IntKind.i64),aF.one (al.int IntKind.i64)] u K
def ady(a0:aX)(u:H)(K:Int->Q):=aU 65 #[aC a0] bQ u K
def Co(bp:Int)(bu:J)(O:Int)(a2:Bool)(a3:Int)(u:H)(K:Int->Q):=aU 66 #[Value.agg #[ag bp,vs bu],ag O,Value.bool a2,ag a3] bQ u K
def GO(a0:aX)(bF bK:Int)(dt:J)(u:H)(K:Int->Int->Q):=aU 67 #[aC a0,Value.agg #[ag bF,ag bK,vs dt]] [aF.one (al.int IntKind.i64),aF.one (al.int IntKind.i64)] u K
def nZ(a0:J)(u:H)(K:J->Q):=aU 68 #[vs a0] aW u K
def Gx(a0:aX)(bF bK:Int)(dt:J)(u:H)(K:Q):=aU 69 #[aC a0,Value.agg #[ag bF,ag bK,vs dt]] [] u K
def GN(a0:aX)(u:H)(K:Int->Q):=aU 70 #[aC a0] bQ u K
def xe(a0:J)(O:Int)(u:H)(K:Int->Q):=aU 71 #[vs a0,ag O] bQ u K
def LG(a0:J)(O a2:Int)(u:H)(K:aX->Int->Q):=aU 72 #[vs a0,ag O,ag a2] [aF.one al.ptr,aF.one (al.int IntKind.i64)] u K
def adD(a0:J)(O a2 a3:Int)(u:H)(K:aX->Int->Q):=aU 73 #[vs a0,ag O,ag a2,bB a3] [aF.one al.ptr,aF.one (al.int IntKind.i64)] u K
def ado(a0:J)(O a2 a3 a4:Int)(u:H)(K:aX->Int->Q):=aU 74 #[vs a0,ag O,ag a2,ag a3,bB a4] [aF.one al.ptr,aF.one (al.int IntKind.i64)] u K
def LA(a0:J)(O a2 a3:Int)(u:H)(K:aX->Int->Q):=aU 75 #[vs a0,ag O,ag a2,bB a3] [aF.one al.ptr,aF.one (al.int IntKind.i64)] u K
def vB(a0:J)(u:H)(K:J->Q):=aU 76 #[vs a0] aW u K
def adw(a0:J)(O a2 a3 a4 a5:Int)(u:H)(K:aX->Int->Q):=aU 77 #[vs a0,ag O,ag a2,ag a3,ag a4,bB a5] [aF.one al.ptr,aF.one (al.int IntKind.i64)] u K
def L0(a0:aX)(u:H)(K:J->Q):=aU 78 #[aC a0] aW u K
def T0(a0 O:ByteArray)(u:H)(K:ByteArray->Bool->Q):=aU 79 #[Value.string a0,Value.string O] [aF.one al.str,aF.one al.bool] u K
def Gs(a0:aX)(O:ByteArray)(u:H)(K:J->Int->Q):=aU 84 #[aC a0,Value.string O] [aF.one al.slice,aF.one (al.int IntKind.i64)] u K
def ac8(a0:J)(u:H)(K:Int->ByteArray->Int->Int->Q):=aU 85 #[vs a0] [aF.one (al.int IntKind.i64),aF.one al.str,aF.one (al.int IntKind.i64),aF.one (al.int IntKind.i64)] u K
def uq(a0:Int)(u:H)(K:Q):=aU 86 #[ag a0] [] u K
def TY(a0:ByteArray)(u:H)(K:Int->ByteArray->Q):=aU 87 #[Value.string a0] [aF.one (al.int IntKind.i64),aF.one al.str] u K
def ada(a0:ByteArray)(u:H)(K:J->Int->Q):=aU 88 #[Value.string a0] [aF.one al.slice,aF.one (al.int IntKind.i64)] u K
def Mg(a0:aX)(u:H)(K:aX->J->Int->Q):=aU 89 #[aC a0] [aF.one al.ptr,aF.one al.slice,aF.one (al.int IntKind.i64)] u K
def ac9(a0:ByteArray)(u:H)(K:Int->Int->J->Int->Q):=aU 90 #[Value.string a0] [aF.agg [al.int IntKind.i64,al.int IntKind.i64,al.slice],aF.one (al.int IntKind.i64)] u K
def L2(a0:aX)(bF bK:Int)(dt:J)(u:H)(K:Q):=aU 91 #[aC a0,Value.agg #[ag bF,ag bK,vs dt]] [] u K
def oS(a0:J)(O:Int)(u:H)(K:Int->Q):=aU 92 #[vs a0,ag O] bQ u K
def TN(a0:Int)(u:H)(K:Bool->Q):=aU 93 #[ag a0] b4 u K
def Lb(a0 O:J)(a2:Int)(rP rQ qC:J)(u:H)(K:Bool->Int->Q):=aU 94 #[vs a0,vs O,ag a2,Value.agg #[vs rP,vs rQ,vs qC]] [aF.one al.bool,aF.one (al.int IntKind.i64)] u K
def vC(bp:Int)(bu cn:J)(dP hb:Int)(hU O:J)(u:H)(K:Int->Int->Int->Q):=aU 95 #[Value.agg #[ag bp,vs bu,vs cn,bB dP,bB hb,vs hU],vs O] [aF.agg [al.int IntKind.u64,al.int IntKind.u64],aF.one (al.int IntKind.i64)] u K
def rC(bp bu bF bK:Int)(u:H)(K:Int->Q):=aU 96 #[Value.agg #[bB bp,bB bu],Value.agg #[bB bF,bB bK]] bQ u K
def adg(a0:Value)(O a2:Addr)(u:H)(K:Q):=aU 97 #[a0,aC (some O),aC (some a2)] [] u K
def zy(a0 O:J)(u:H)(K:Int->Int->Int->Q):=aU 98 #[vs a0,vs O] [aF.agg [al.int IntKind.u64,al.int IntKind.u64],aF.one (al.int IntKind.i64)] u K
def uo(a0 O:Value)(u:H)(K:Q):=aU 99 #[a0,O] [] u K
def xi(bp bu cn bF bK dt:Int)(u:H)(K:Bool->Q):=aU 100 #[Value.agg #[ag bp,bB bu,bB cn],Value.agg #[ag bF,bB bK,bB dt]] b4 u K
def Lz(a0:Value)(O:Int)(u:H)(K:Q):=aU 101 #[a0,ag O] [] u K
def LM(a0:J)(u:H)(K:J->Q):=aU 102 #[vs a0] aW u K
def TS(a0:J)(O:Value)(u:H)(K:Q):=aU 103 #[vs a0,O] [] u K
def Ma(bp bu cn bF bK dt:Int)(u:H)(K:Int->Q):=aU 104 #[Value.agg #[ag bp,bB bu,bB cn],Value.agg #[ag bF,bB bK,bB dt]] bQ u K
def L3(a0:Int)(u:H)(K:ByteArray->Q):=aU 109 #[ag a0] [aF.one al.str] u K
def Lj(a0:aX)(u:H)(K:J->Q):=aU 111 #[aC a0] aW u K
def Lk(a0:aX)(O:ByteArray)(u:H)(K:Int->Q):=aU 112 #[aC a0,Value.string O] bQ u K
def Li(a0:aX)(O:ByteArray)(u:H)(K:Int->Q):=aU 113 #[aC a0,Value.string O] bQ u K
def Gq(a0:aX)(O:ByteArray)(a2:J)(u:H)(K:Int->Q):=aU 114 #[aC a0,Value.string O,vs a2] bQ u K
def Ll(a0:aX)(O:ByteArray)(u:H)(K:Int->Q):=aU 115 #[aC a0,Value.string O] bQ u K
def Lm(a0:aX)(u:H)(K:Int->Q):=aU 117 #[aC a0] bQ u K
def vD(a0:aX)(u:H)(K:Int->Q):=aU 119 #[aC a0] bQ u K
def zA(a0:aX)(u:H)(K:Int->Q):=aU 120 #[aC a0] bQ u K
def Lf(bp bu:Int)(cn:J)(u:H)(K:ByteArray->Int->Q):=aU 121 #[Value.agg #[ag bp,ag bu,vs cn]] [aF.one al.str,aF.one (al.int IntKind.i64)] u K
def Me(a0:aX)(O:ByteArray)(u:H)(K:Int->Int->Q):=aU 122 #[aC a0,Value.string O] [aF.one (al.int IntKind.i64),aF.one (al.int IntKind.i64)] u K
def Tp(a0:aX)(O:Int)(u:H)(K:Bool->Int->Q):=aU 123 #[aC a0,ag O] [aF.one al.bool,aF.one (al.int IntKind.i64)] u K
def Tq(a0:aX)(bF:Int)(bK:J)(u:H)(K:Bool->Int->Q):=aU 124 #[aC a0,Value.agg #[ag bF,vs bK]] [aF.one al.bool,aF.one (al.int IntKind.i64)] u K
def zv(a0:aX)(O:J)(u:H)(K:aX->Q):=aU 125 #[aC a0,vs O] cB u K
def TM(a0:Int)(u:H)(K:aX->Q):=aU 126 #[bB a0] cB u K
def Ub(a0:aX)(O:J)(u:H)(K:aX->Q):=aU 127 #[aC a0,vs O] cB u K
def zu(a0:aX)(bF:Int)(bK:J)(u:H)(K:Q):=aU 130 #[aC a0,Value.agg #[ag bF,vs bK]] [] u K
def TT(a0:J)(O:Value)(u:H)(K:Q):=aU 131 #[vs a0,O] [] u K
def adf(bp:Int)(bu:J)(bF:Int)(bK:J)(u:H)(K:Int->Q):=aU 132 #[Value.agg #[ag bp,vs bu],Value.agg #[ag bF,vs bK]] bQ u K
def T1(a0 O:ByteArray)(u:H)(K:Bool->Q):=aU 135 #[Value.string a0,Value.string O] b4 u K
def zo(a0:aX)(O:ByteArray)(u:H)(K:aX->Int->Q):=aU 141 #[aC a0,Value.string O] [aF.one al.ptr,aF.one (al.int IntKind.i64)] u K
def adx(a0:J)(u:H)(K:J->Q):=aU 142 #[vs a0] aW u K
def Gr(a0:aX)(u:H)(K:Bool->Q):=aU 148 #[aC a0] b4 u K
def adz(a0 O:ByteArray)(u:H)(K:Bool->Q):=aU 150 #[Value.string a0,Value.string O] b4 u K
def adH(a0:J)(u:H)(K:Int->Bool->Q):=aU 151 #[vs a0] [aF.one (al.int IntKind.i64),aF.one al.bool] u K
def adI(a0:J)(O:Int)(u:H)(K:J->Bool->Q):=aU 152 #[vs a0,ag O] [aF.one al.slice,aF.one al.bool] u K
def Mf(a0:aX)(O a2:J)(a3:Bool)(u:H)(K:Int->Q):=aU 153 #[aC a0,vs O,vs a2,Value.bool a3] bQ u K
def Lh(bp bu:Int)(cn:J)(u:H)(K:Int->Q):=aU 154 #[Value.agg #[ag bp,ag bu,vs cn]] bQ u K
def Cx(a0:Int)(u:H)(K:Bool->Q):=aU 155 #[ag a0] b4 u K
def ac7(a0:Int)(O:Addr)(u:H)(K:Int->J->Bool->Q):=aU 156 #[ag a0,aC (some O)] [aF.agg [al.int IntKind.i64,al.slice],aF.one al.bool] u K
def GP(bp:Int)(bu cn:J)(dP hb:Int)(hU:J)(O:Int)(u:H)(K:Int->Q):=aU 157 #[Value.agg #[ag bp,vs bu,vs cn,bB dP,bB hb,vs hU],ag O] bQ u K
def Md(bp:Int)(bu cn:J)(dP hb:Int)(hU O:J)(u:H)(K:Bool->Int->Q):=aU 158 #[Value.agg #[ag bp,vs bu,vs cn,bB dP,bB hb,vs hU],vs O] [aF.one al.bool,aF.one (al.int IntKind.i64)] u K
def LQ(a0 O:J)(u:H)(K:Bool->Q):=aU 159 #[vs a0,vs O] b4 u K
def GQ(bp:Int)(bu cn:J)(dP hb:Int)(hU O:J)(u:H)(K:Int->Q):=aU 160 #[Value.agg #[ag bp,vs bu,vs cn,bB dP,bB hb,vs hU],vs O] bQ u K
def GS(bp bu O a2:Int)(u:H)(K:Int->Int->Q):=aU 161 #[Value.agg #[bB bp,bB bu],ag O,ag a2] [aF.agg [al.int IntKind.u64,al.int IntKind.u64]] u K
def GX(bp bu:Int)(u:H)(K:Int->Q):=aU 162 #[Value.agg #[bB bp,bB bu]] [aF.one (al.int IntKind.u64)] u K
def zz(a0 O:J)(u:H)(K:Int->Int->Q):=aU 163 #[vs a0,vs O] [aF.agg [al.int IntKind.u64,al.int IntKind.u64]] u K
def xk(a0 O:Int)(u:H)(K:Int->Int->Q):=aU 164 #[bB a0,bB O] [aF.agg [al.int IntKind.u64,al.int IntKind.u64]] u K
def Cr(a0:Value)(O:Int)(u:H)(K:Q):=aU 165 #[a0,ag O] [] u K
def Cq(a0:Value)(O a2:Int)(u:H)(K:Bool->Q):=aU 166 #[a0,ag O,ag a2] b4 u K
def Ld(a0:J)(u:H)(K:Int->Q):=aU 169 #[vs a0] bQ u K
def Lc(a0 O:Int)(u:H)(K:Int->Q):=aU 170 #[ag a0,ag O] bQ u K
def zm(a0:J)(O a2:Int)(u:H)(K:J->Q):=aU 171 #[vs a0,ag O,ag a2] aW u K
def xd(a0:aX)(u:H)(K:Int->Q):=aU 173 #[aC a0] bQ u K
def TV(a0:Value)(u:H)(K:J->Q):=aU 174 #[a0] aW u K
def TL(a0:Option Nat)(u:H)(K:Value->Q):=aU 175 #[Value.map a0] [aF.one al.val] u K
def Tv(a0:aX)(bF bK:ByteArray)(dt:aX)(u:H)(K:Int->Q):=aU 176 #[aC a0,Value.agg #[Value.string bF,Value.string bK,aC dt]] bQ u K
def Lp(a0:ByteArray)(u:H)(K:Bool->Q):=aU 177 #[Value.string a0] b4 u K
def Ln(a0:aX)(u:H)(K:Int->Q):=aU 178 #[aC a0] bQ u K
def zn(a0:aX)(u:H)(K:Int->Q):=aU 179 #[aC a0] bQ u K
def LH(a0:Option Nat)(u:H)(K:Option Nat->Q):=aU 180 #[Value.map a0] [aF.one al.map] u K
def GU(a0:aX)(O:Int)(u:H)(K:Int->Q):=aU 181 #[aC a0,ag O] bQ u K
def Cy(a0:aX)(bF:Int)(bK:ByteArray)(u:H)(K:Int->Q):=aU 183 #[aC a0,Value.agg #[ag bF,Value.string bK]] bQ u K
def TK(a0:J)(O a2:Addr)(u:H)(K:aX->Q):=aU 184 #[vs a0,aC (some O),aC (some a2)] cB u K
def Mc(a0:J)(O:Int)(u:H)(K:Int->J->J->Int->Int->J->Int->Q):=aU 185 #[vs a0,ag O] [aF.agg [al.int IntKind.i64,al.slice,al.slice,al.int IntKind.u64,al.int IntKind.u64,al.slice],aF.one (al.int IntKind.i64)] u K
def GK(a0:J)(O:Value)(u:H)(K:Q):=aU 186 #[vs a0,O] [] u K
def adr(bp:Int)(bu:J)(bF:Int)(bK:J)(a2:Addr)(u:H)(K:Int->Q):=aU 187 #[Value.agg #[ag bp,vs bu],Value.agg #[ag bF,vs bK],aC (some a2)] bQ u K
def kA(a0:J)(u:H)(K:J->Q):=aU 188 #[vs a0] aW u K
def Uc(a0:J)(O a2:Addr)(u:H)(K:aX->Q):=aU 189 #[vs a0,aC (some O),aC (some a2)] cB u K
def LI(a0:aX)(O:Int)(u:H)(K:Int->Int->Q):=aU 190 #[aC a0,ag O] [aF.one (al.int IntKind.i64),aF.one (al.int IntKind.i64)] u K
def Mb(a0 O:J)(u:H)(K:Int->J->J->Int->Int->J->Int->Q):=aU 191 #[vs a0,vs O] [aF.agg [al.int IntKind.i64,al.slice,al.slice,al.int IntKind.u64,al.int IntKind.u64,al.slice],aF.one (al.int IntKind.i64)] u K
def adF(bp:Int)(bu:J)(O:Addr)(u:H)(K:Int->Int->Q):=aU 192 #[Value.agg #[ag bp,vs bu],aC (some O)] [aF.agg [al.int IntKind.u64,al.int IntKind.u64]] u K
def adG(bp:Int)(bu:J)(bF:Int)(bK:J)(a2:Addr)(u:H)(K:Int->Q):=aU 193 #[Value.agg #[ag bp,vs bu],Value.agg #[ag bF,vs bK],aC (some a2)] bQ u K
def LJ(a0:aX)(O:Int)(u:H)(K:Int->Int->Q):=aU 200 #[aC a0,ag O] [aF.one (al.int IntKind.i64),aF.one (al.int IntKind.i64)] u K
def Cs(a0:aX)(O:Int)(a2:J)(a3:Int)(a4:Value)(u:H)(K:Q):=aU 201 #[aC a0,ag O,vs a2,ag a3,a4] [] u K
def GD(a0:aX)(O:J)(a2:Int)(u:H)(K:Int->Q):=aU 202 #[aC a0,vs O,ag a2] bQ u K
def adl(bp bu cn:Int)(O a2 a3:Addr)(u:H)(K:Bool->Q):=aU 203 #[Value.agg #[ag bp,bB bu,bB cn],aC (some O),aC (some a2),aC (some a3)] b4 u K
def GB(a0:aX)(O a2 a3:Int)(u:H)(K:Q):=aU 204 #[aC a0,ag O,ag a2,ag a3] [] u K
def TZ(a0:Int)(u:H)(K:ByteArray->Q):=aU 209 #[ag a0] [aF.one al.str] u K
def Lg(a0:J)(u:H)(K:Int->Q):=aU 210 #[vs a0] [aF.one (al.int IntKind.u32)] u K
def adC(a0:Int)(O a2:Addr)(u:H)(K:Bool->Q):=aU 215 #[ag a0,aC (some O),aC (some a2)] b4 u K
def Mj(bp bu bF bK:Int)(u:H)(K:Int->Int->Int->Q):=aU 216 #[Value.agg #[bB bp,bB bu],Value.agg #[bB bF,bB bK]] [aF.agg [al.int IntKind.u64,al.int IntKind.u64],aF.one (al.int IntKind.i64)] u K
def K9(a0 O:Int)(u:H)(K:Int->Int->Q):=aU 217 #[bB a0,bB O] [aF.one (al.int IntKind.u64),aF.one (al.int IntKind.u64)] u K
def Le(a0:Int)(u:H)(K:Bool->Q):=aU 228 #[ag a0] b4 u K
def TQ(a0:Value)(u:H)(K:J->Q):=aU 229 #[a0] aW u K
def TU(a0:J)(u:H)(K:Q):=aU 230 #[vs a0] [] u K
def adt(a0:Value)(O:Addr)(u:H)(K:Q):=aU 231 #[a0,aC (some O)] [] u K
def Lq(a0:Option Nat)(bF bK:ByteArray)(dt:aX)(u:H)(K:Q):=aU 232 #[Value.map a0,Value.agg #[Value.string bF,Value.string bK,aC dt]] [] u K
def Mh(a0:Int)(u:H)(K:J->Q):=aU 234 #[ag a0] aW u K
def Mi(bp:Int)(bu:ByteArray)(u:H)(K:J->Q):=aU 235 #[Value.agg #[ag bp,Value.string bu]] aW u K
def GR(a0:J)(O:Int)(u:H)(K:J->Int->Q):=aU 236 #[vs a0,ag O] [aF.one al.slice,aF.one (al.int IntKind.i64)] u K
def TW(a0:J)(O:Int)(a2:Value)(u:H)(K:Q):=aU 237 #[vs a0,ag O,a2] [] u K
def LK(a0:aX)(O a2 a3:Int)(u:H)(K:Int->Q):=aU 238 #[aC a0,ag O,ag a2,ag a3] bQ u K
def Ct(a0:aX)(u:H)(K:Int->Q):=aU 239 #[aC a0] [aF.one (al.int IntKind.u64)] u K
def Tu(a0:Int)(u:H)(K:Int->Q):=aU 242 #[bB a0] bQ u K
def sQ(a0:aX)(O:Int)(a2:J)(u:H)(K:Int->Int->Int->Q):=aU 243 #[aC a0,ag O,vs a2] [aF.agg [al.int IntKind.i64,al.int IntKind.u64,al.int IntKind.u64]] u K
def TD(a0:J)(u:H)(K:Int->Q):=aU 244 #[vs a0] bQ u K
def xf(a0:Value)(u:H)(K:Value->Q):=aU 245 #[a0] [aF.one al.val] u K
def LF(a0:aX)(O:Int)(a2:J)(a3:Int)(u:H)(K:Int->Q):=aU 246 #[aC a0,ag O,vs a2,ag a3] bQ u K
def GC(a0:aX)(O:Int)(u:H)(K:Int->Q):=aU 247 #[aC a0,ag O] bQ u K
def TR(a0:J)(O:Value)(u:H)(K:Q):=aU 248 #[vs a0,O] [] u K
def TC(a0 O:Int)(a2 a3:Addr)(u:H)(K:Int->Q):=aU 249 #[ag a0,ag O,aC (some a2),aC (some a3)] bQ u K
def GL(a0:J)(O a2:Int)(a3:Value)(u:H)(K:Q):=aU 250 #[vs a0,ag O,ag a2,a3] [] u K
def TP(a0:J)(O:Value)(u:H)(K:J->Q):=aU 267 #[vs a0,O] aW u K
def GW(a0:J)(u:H)(K:J->Q):=aU 269 #[vs a0] aW u K
def GV(a0:J)(O:Int)(u:H)(K:J->Q):=aU 270 #[vs a0,bB O] aW u K
def xj(a0:J)(O:Int)(u:H)(K:J->Q):=aU 271 #[vs a0,Value.int IntKind.u32 O] aW u K
def Cu(a0:J)(u:H)(K:Q):=aU 272 #[vs a0] [] u K
def zw(a0:J)(O a2 a3:Int)(a4:Value)(u:H)(K:Q):=aU 273 #[vs a0,ag O,ag a2,ag a3,a4] [] u K
def LV(a0:J)(O a2 a3:Int)(a4:Value)(u:H)(K:Q):=aU 291 #[vs a0,ag O,ag a2,ag a3,a4] [] u K
def Cv(a0:J)(O a2 a3:Int)(a4:Value)(u:H)(K:Q):=aU 318 #[vs a0,ag O,ag a2,ag a3,a4] [] u K
def L8(a0:aX)(u:H)(K:Bool->Q):=aU 351 #[aC a0] b4 u K
def L9(a0:aX)(u:H)(K:Int->Q):=aU 352 #[aC a0] bQ u K
def GF(a0:aX)(O:Int)(u:H)(K:Bool->Int->Q):=aU 354 #[aC a0,ag O] [aF.one al.bool,aF.one (al.int IntKind.i64)] u K
def TH(a0:aX)(u:H)(K:Int->Q):=aU 355 #[aC a0] bQ u K
def TI(a0:aX)(bF:Int)(bK:J)(u:H)(K:Bool->Int->Q):=aU 356 #[aC a0,Value.agg #[ag bF,vs bK]] [aF.one al.bool,aF.one (al.int IntKind.i64)] u K
def TJ(a0:aX)(O:J)(a2 a3:Int)(u:H)(K:J->J->J->Int->Q):=aU 358 #[aC a0,vs O,ag a2,ag a3] [aF.agg [al.slice,al.slice,al.slice],aF.one (al.int IntKind.i64)] u K
def TG(a0:aX)(O a2:Addr)(u:H)(K:Q):=aU 359 #[aC a0,aC (some O),aC (some a2)] [] u K
def GJ(a0:J)(O:Value)(u:H)(K:J->Q):=aU 360 #[vs a0,O] aW u K
def adp(bp:Int)(bu:J)(O:Addr)(u:H)(K:Bool->Q):=aU 361 #[Value.agg #[ag bp,vs bu],aC (some O)] b4 u K
def Cn(a0:J)(O a2 a3:Int)(u:H)(K:Int->Q):=aU 362 #[vs a0,ag O,ag a2,ag a3] bQ u K
def adq(a0:aX)(O:Addr)(u:H)(K:Q):=aU 363 #[aC a0,aC (some O)] [] u K
def ads(a0:aX)(O a2:J)(a3 a4:Int)(u:H)(K:J->J->J->Q):=aU 364 #[aC a0,vs O,vs a2,ag a3,ag a4] [aF.agg [al.slice,al.slice,al.slice]] u K
def LS(a0:J)(O:Value)(u:H)(K:Int->Q):=aU 365 #[vs a0,O] bQ u K
def zt(a0 O:J)(a2 a3:Int)(u:H)(K:J->J->J->Q):=aU 366 #[vs a0,vs O,ag a2,ag a3] [aF.agg [al.slice,al.slice,al.slice]] u K
def Lw(a0:aX)(O a2:Addr)(u:H)(K:Q):=aU 367 #[aC a0,aC (some O),aC (some a2)] [] u K
def Lx(bp bu:Int)(O:Addr)(u:H)(K:Bool->Q):=aU 368 #[Value.agg #[bB bp,bB bu],aC (some O)] b4 u K
def T4(a0:aX)(u:H)(K:Int->Int->Int->Bool->Q):=aU 369 #[aC a0] [aF.agg [al.int IntKind.i64,al.int IntKind.u64,al.int IntKind.u64],aF.one al.bool] u K
def Tz(a0:J)(u:H)(K:Int->Q):=aU 370 #[vs a0] bQ u K
def GA(bp:Int)(bu cn:J)(dP hb:Int)(hU O:J)(u:H)(K:Int->J->J->Int->Int->J->Q):=aU 371 #[Value.agg #[ag bp,vs bu,vs cn,bB dP,bB hb,vs hU],vs O] [aF.agg [al.int IntKind.i64,al.slice,al.slice,al.int IntKind.u64,al.int IntKind.u64,al.slice]] u K
def Gz(a0:aX)(u:H)(K:J->Q):=aU 372 #[aC a0] aW u K
def T7(a0:aX)(O:Int)(u:H)(K:Bool->Int->Q):=aU 373 #[aC a0,ag O] [aF.one al.bool,aF.one (al.int IntKind.i64)] u K
def T9(a0:aX)(u:H)(K:Int->Q):=aU 374 #[aC a0] bQ u K
def Ua(a0:aX)(O:J)(a2 a3:Int)(u:H)(K:J->J->J->Int->Q):=aU 377 #[aC a0,vs O,ag a2,ag a3] [aF.agg [al.slice,al.slice,al.slice],aF.one (al.int IntKind.i64)] u K
def T8(a0:aX)(O a2:Addr)(u:H)(K:Q):=aU 378 #[aC a0,aC (some O),aC (some a2)] [] u K
def adE(bp:Int)(bu:J)(O:Addr)(u:H)(K:Bool->Q):=aU 379 #[Value.agg #[ag bp,vs bu],aC (some O)] b4 u K
def LB(a0:aX)(O:Int)(u:H)(K:Bool->Int->Q):=aU 387 #[aC a0,ag O] [aF.one al.bool,aF.one (al.int IntKind.i64)] u K
def LC(a0:aX)(bF:Int)(bK:J)(u:H)(K:Bool->Int->Q):=aU 389 #[aC a0,Value.agg #[ag bF,vs bK]] [aF.one al.bool,aF.one (al.int IntKind.i64)] u K
def LD(a0:aX)(O:J)(a2 a3:Int)(u:H)(K:J->J->J->Int->Q):=aU 391 #[aC a0,vs O,ag a2,ag a3] [aF.agg [al.slice,al.slice,al.slice],aF.one (al.int IntKind.i64)] u K
def LP(a0:J)(O:Value)(u:H)(K:J->Q):=aU 392 #[vs a0,O] aW u K
def adj(a0:Int)(O:Addr)(u:H)(K:Bool->Q):=aU 393 #[ag a0,aC (some O)] b4 u K
def LO(a0:J)(O:Int)(u:H)(K:Bool->Q):=aU 394 #[vs a0,ag O] b4 u K
def sR(a0:Value)(u:H)(K:J->Q):=aU 395 #[a0] aW u K
def GG(a0:Option Nat)(u:H)(K:Value->Q):=aU 396 #[Value.map a0] [aF.one al.val] u K
def adk(bp bu cn:Int)(O a2 a3:Addr)(u:H)(K:Bool->Q):=aU 397 #[Value.agg #[ag bp,bB bu,bB cn],aC (some O),aC (some a2),aC (some a3)] b4 u K
def GH(a0:Option Nat)(u:H)(K:Value->Q):=aU 398 #[Value.map a0] [aF.one al.val] u K
def LR(a0:J)(O:Value)(u:H)(K:Int->Q):=aU 399 #[vs a0,O] bQ u K
def LU(a0:J)(O:Int)(u:H)(K:Int->Q):=aU 400 #[vs a0,ag O] bQ u K
def LN(a0:Value)(u:H)(K:J->Q):=aU 401 #[a0] aW u K
def adu(a0:Value)(O:Addr)(u:H)(K:Q):=aU 402 #[a0,aC (some O)] [] u K
def adv(a0:Value)(O:Addr)(u:H)(K:Q):=aU 403 #[a0,aC (some O)] [] u K
def TO(a0:J)(O:Value)(u:H)(K:J->Q):=aU 404 #[vs a0,O] aW u K
def Tr(a0:aX)(O:Int)(u:H)(K:Bool->Int->Q):=aU 405 #[aC a0,ag O] [aF.one al.bool,aF.one (al.int IntKind.i64)] u K
def Ts(a0:aX)(u:H)(K:Int->Q):=aU 406 #[aC a0] bQ u K
def Tt(a0:aX)(u:H)(K:J->Q):=aU 408 #[aC a0] aW u K
def adA(a0:J)(u:H)(K:Int->Q):=aU 420 #[vs a0] bQ u K
def T5(a0:J)(O a2:Int)(u:H)(K:Bool->Q):=aU 421 #[vs a0,ag O,ag a2] b4 u K
def T6(a0:J)(O a2:Int)(u:H)(K:Q):=aU 422 #[vs a0,ag O,ag a2] [] u K
def adB(a0:aX)(O:Value)(u:H)(K:Q):=aU 424 #[aC a0,O] [] u K
def TE(a0:J)(O a2:Int)(u:H)(K:Bool->Q):=aU 428 #[vs a0,ag O,ag a2] b4 u K
def TF(a0:J)(O a2:Int)(u:H)(K:Q):=aU 429 #[vs a0,ag O,ag a2] [] u K
def adm(a0:aX)(u:H)(K:Value->Q):=aU 430 #[aC a0] [aF.one al.val] u K
def adn(a0:aX)(O:Value)(u:H)(K:Q):=aU 431 #[aC a0,O] [] u K
def TA(a0:J)(O a2:Int)(u:H)(K:Bool->Q):=aU 434 #[vs a0,ag O,ag a2] b4 u K
def TB(a0:J)(O a2:Int)(u:H)(K:Q):=aU 435 #[vs a0,ag O,ag a2] [] u K
def adh(a0:aX)(u:H)(K:Value->Q):=aU 436 #[aC a0] [aF.one al.val] u K
def adi(a0:aX)(O:Value)(u:H)(K:Q):=aU 437 #[aC a0,O] [] u K
def ba.of(h1:-9223372036854775808<=x)(h2:x<=9223372036854775807):ba x:=⟨h1,h2⟩
def H.mQ(h:u.le u'){a:Addr}{v:Value}(e:u.cell? a=some v):u'.cell? a=some v:=by unfold H.cell? at e ⊢;split at e;rename_i c t f Z;rw[h _ _ Z];exact e;cases e
def cx.pure{m:Sem Value}{K:fo (eW ss) (H->Prop)}(vs:List Value)(h:∀w,Sub u w->m.run P w=.ok (qI ss vs) w)
  (hk:lC (eW ss) vs) (ae:fr (eW ss) K vs λr=>r u):cx P m ss u K:=
 λw hw=>⟨_,w,u,h w hw,⟨vs,hk,rfl,ae⟩,Step.refl hw⟩
structure bb(u:H)(s:J)(size:Nat)(xs:List Value):Prop where
 len:xs.length=s.n*size
 cap:s.n<=s.c
 max:s.c<=9223372036854775807
 at':xs=[]∨∃p,s.a=some p/\∀i v,xs[i]?=some v->u.cell? (p.add i)=some v
def bb.mono(h:bb u s size xs)(k:u.le u'):bb u' s size xs:=
 ⟨h.len,h.cap,h.max,h.at'.imp id λ⟨p,h1,h2⟩=>⟨p,h1,λi v e=>H.mQ k (h2 i v e)⟩⟩
def bb.get(h:bb u s size xs)(hi:i<xs.length):∃p,s.a=some p/\∀i v,xs[i]?=some v->u.cell? (p.add i)=some v:=by rcases h.at' with h|h;subst h;simp at hi;exact h
def Ints(u:H)(s:J)(l:List Int):Prop:=bb u s 1 (l.map λx=>.int .i64 x)
def Ints.mono(h:Ints u s l)(k:u.le u'):Ints u' s l:=bb.mono h k
theorem Ints.len(h:Ints u s l):s.n=l.length:=by have:=bb.len h;grind
def Ints.max(h:Ints u s l):s.n<=9223372036854775807:=Nat.le_trans (bb.cap h) (bb.max h)
theorem Ints.read(h:Ints u s l)(h0:0<=x)(h1:x<(s.n:Int)):
  ∃p,s.a=some p/\∃(ai:x.toNat<l.length),u.cell? (p.add (x.toNat*1))=some (.int .i64 l[x.toNat]):=by
 have ac:=h.len
 have bh:x.toNat<l.length:=by omega
 obtain⟨p,aa,E⟩:=bb.get h (i:=x.toNat) (by simpa using bh)
 grind
theorem Ints.at(h:Ints u s l)(h0:0<=x)(h1:x<(s.n:Int)):∃p,s.a=some p/\u.cell? (p.add (x.toNat*1))=some (.int .i64 (l.getD x.toNat 0)):=by
 obtain⟨p,aa,ai,E⟩:=h.read h0 h1
 grind
def Step.ra(hw:Sub u w)(o:Obj):Step u [] w (u.ins w.heap.size o) [] (w.alloc o):=
 (Fits.ra (s:={n:=0,env:=[],loc:=[]}) (a:={tmps:=#[],defers:=[]}) (bs:=[]) (w:=w) ⟨⟨rfl,rfl,λ_ h=>by cases h⟩,rfl,λ_ _ h=>by simp at h,by simp,by simp,hw⟩ o).2
def cx.one{m:Sem Value}{c:al}{K:c.den->H->Prop}
  (h:∀w,Sub u w->∃x aw u',m.run P w=.ok (c.enc x) aw/\K x u'/\Step u [] w u' [] aw):cx P m [.one c] u K:=by
 intro w hw
 obtain⟨x,aw,u',h1,h2,h3⟩:=h w hw
 exact⟨_,aw,u',h1,⟨[c.enc x],.cons x .nil,rfl,(al.nX c x _).2 h2⟩,h3⟩
def cx.rf{m:Sem Value}{c:al}{K:c.den->H->Prop}(x:c.den)(h:∀w,Sub u w->m.run P w=.ok (c.enc x) w)(ae:K x u):cx P m [.one c] u K:=
 .one λw hw=>⟨x,w,u,h w hw,ae,Step.refl hw⟩
def iG(P:Program)(t:TypeId):Option (TypeId×Nat×Nat×List Value):=
 match P.underlying t with
 |some (.slice e)=>match P.info? e with
  |some i=>match i.zero with
   |some z=>match Nat.beq z.cells.size i.size with
    |true=>some (e,i.size,i.bytes,z.cells.toList)|false=>none
   |none=>none
  |none=>none
 |_=>none
theorem qH(h:iG P t=some (e,size,bytes,zs)):
  P.underlying t=some (.slice e)/\∃i z,P.info? e=some i/\i.zero=some z/\i.size=size/\i.bytes=bytes/\z.cells.size=size/\z.cells.toList=zs:=by
 unfold iG at h
 split at h
 rename_i dz hu
 split at h
 rename_i i hi
 split at h
 rename_i z aP
 split at h
 simp_all
 cases h
 cases h
 cases h
 cases h
def J.ad(s:J):Option Nat:=s.a.map (·.block)
structure Own(u:H)(e size:Nat)(s:J)(xs:List Value):Prop where
 len:xs.length=s.n*size
 is:(s=⟨none,0,0⟩)∨∃g cur,s.a=some ⟨g,0,none⟩/\u g=some (.cells cur e (0,0))/\s.n<=s.c/\s.c<=9223372036854775807/\cur.size=s.c*size/\cur.toList.take (s.n*size)=xs
def Bv:maxLen=9223372036854775807:=by decide
def H.Hr(u:H)(g:Nat)(c:Array Value)(e:TypeId)(Ai:Nat×Nat)(i:Nat):(u.ins g (.cells c e Ai)).cell? ⟨g,i,none⟩=c[i]?:=by simp[H.cell?,H.ins]
def H.aV{c:Array Value}{Ai:Nat×Nat}(h:u g=some (.cells c e Ai))(i:Nat):u.cell? ⟨g,i,none⟩=c[i]?:=by simp[H.cell?,h]
theorem Own.bR{e:Nat}(h:Own u e size s xs):bb u s size xs:=by
 rcases h.is with h1|⟨g,cur,ap,N,ac,E,hs,ht⟩;subst h1;refine⟨h.len,by simp,by simp,.inl ?_⟩;have:=h.len;simpa using this;refine⟨h.len,ac,E,.inr ⟨_,ap,λi v e=>?_⟩⟩;rw[Addr.add_lit,Nat.zero_add,H.aV N]
 grind
def Own.le{e:Nat}(h:Own u e size s xs)(k:∀b o,s.ad=some b->u b=some o->u' b=some o):Own u' e size s xs:=
 ⟨h.len,h.is.imp id λ⟨g,cur,ap,N,r⟩=>⟨g,cur,ap,k g _ (by simp[J.ad,ap]) N,r⟩⟩
def Own.nil(u:H)(e size:Nat):Own u e size ⟨none,0,0⟩ []:=⟨by simp,.inl rfl⟩
structure CD(u u':H)(s s':J):Prop where
 rest:∀b o,u b=some o->s.ad≠some b->u' b=some o
 ad:s'.ad=s.ad∨∃g,s'.ad=some g/\u g=none
theorem CD.le{s':J}(h:CD u u' s s')(k:Y.le u)(hs:∀g,s.ad=some g->Y g=none):Y.le u':=by
 intro b o e;refine h.rest b o (k b o e) λZ=>?_
 grind
theorem CD.out{s':J}(h:CD u u' s s')(k:Y.le u)(hs:∀g,s.ad=some g->Y g=none):∀g,s'.ad=some g->Y g=none:=by
 intro g N;rcases h.ad with e|⟨bS,e,ac⟩
 grind
 rw[e] at N;cases N;cases I:Y g with
 |none=>rfl|some o=>rw[k _ _ I] at ac;cases ac
def abI(hw:Sub u w)(o:Obj):Step u [] w (u.ins w.heap.size o) [] (w.drew.alloc o)/\u w.heap.size=none:=
 ⟨(Step.HA hw (Nat.le_succ w.drawn)).trans (Step.ra (w:=w.drew) hw o),hw.none (Nat.le_refl _)⟩
theorem SE(hw:Sub u w){cur:Array Value}(N:u g=some (.cells cur e (0,0)))(cs:Array Value):
  Step u [] w (u.ins g (.cells cs e (0,0))) [] (w.setRow g cs):=by
 have DW:=hw _ _ N
 have hs:(w.setRow g cs).heap.size=w.heap.size:=by simp[World.setRow]
 refine⟨λb o h=>?_,rfl,rfl,rfl,Nat.le_refl _,by omega,λb _ Z _=>?_,λb _ Z=>?_,[],by simp,by simp⟩
 unfold H.ins at h
 split at h
 rename_i oi;subst oi;cases h;exact setRow_heap w b cur cs e (0,0) DW
 rename_i oi;rw[setRow_other w g b cs oi];exact hw b o h
 have:b≠g:=λh=>by grind
 exact setRow_other w g b cs this
 have:b≠g:=λh=>by grind
 rw[aL u _ this];exact Z
def bb.world(hw:Sub u w)(h:bb u s size xs){p:Addr}(aa:s.a=some p):∀j v,xs[j]?=some v->w.cell? (p.add j)=some v:=by intro j v e;rcases h.at' with h|⟨q,ay,E⟩;subst h;simp at e;rw[aa] at ay;cases ay;exact hw.cell (E j v e)
def V1(z:Array Value){Rj cap:Nat}(aP:z.size=size)(h:Rj<=cap)(I:xs.length=Rj*size):
  (xs.toArray++Builtin.zeroCells z (cap-Rj)).size=cap*size:=by
 simp only[Array.size_append,List.size_toArray,size_zeroCells,aP,I,<-Nat.add_mul]
 congr 1
 omega
theorem R7{eO:TypeId}(aJ:iG P t=some (e,size,bytes,zs)){x:J}
  (hs:bb u s size xs) (I:bb u x size cM) (lc:s.c<s.n+x.n) (gk:s=⟨none,0,0⟩∨s.a≠none) (wN:x.a≠none) (hm:s.n+x.n<=9223372036854775807) (Z:(s.n+x.n)*bytes<=140737488355328)
  (ae:∀g c cur,u g=none->Own (u.ins g (.cells cur e (0,0))) e size ⟨some ⟨g,0,none⟩,s.n+x.n,c⟩ (xs++cM)->K ⟨some ⟨g,0,none⟩,s.n+x.n,c⟩ (u.ins g (.cells cur e (0,0)))):
  cx P (Builtin.append_ #[t,t] eO #[.slice s.a s.n s.c,.slice x.a x.n x.c]) [.one .slice] u K:=by
 obtain⟨ht,i,z,hi,aP,jy,tr,u9,_⟩:=qH aJ
 subst jy
 subst tr
 refine .one (c:=.slice) λw hw=>?_
 obtain⟨q,ay⟩:=Option.ne_none_iff_exists'.1 wN
 have IH:=I.world hw ay
 have hlen:(xs++cM).length=(s.n+x.n)*i.size:=by rw[List.length_append,hs.len,I.len,Nat.add_mul]
 have fin:∀kU (o:Array Value),(Builtin.append_ #[t,t] eO #[.slice s.a s.n s.c,.slice x.a x.n x.c]).run P w=.ok (.slice (some ⟨w.heap.size,0,none⟩) (s.n+x.n) (grownCap w (s.n+x.n) kU e)) (w.drew.alloc (.cells o e))->
   o=((xs++cM).toArray++Builtin.zeroCells z.cells (grownCap w (s.n+x.n) kU e-(s.n+x.n)))->
   ∃ac2 aw u',(Builtin.append_ #[t,t] eO #[.slice s.a s.n s.c,.slice x.a x.n x.c]).run P w=.ok (al.slice.enc ac2) aw/\K ac2 u'/\Step u [] w u' [] aw:=by
  intro kU o W U
  have hg:=grownCap_ge w (s.n+x.n) kU e
  have dU:=grownCap_le_maxLen w (s.n+x.n) kU e (by rw[Bv];exact hm)
  rw[Bv] at dU
  have dc:=abI hw (.cells o e)
  refine⟨⟨some ⟨w.heap.size,0,none⟩,s.n+x.n,grownCap w (s.n+x.n) kU e⟩,_,_,W,ae _ _ _ dc.2 ⟨hlen,.inr ⟨w.heap.size,o,rfl,aS _ _ _,hg,dU,?_,?_⟩⟩,dc.1⟩
  rw[U];exact V1 z.cells u9 hg hlen
  grind
 rcases gk with h0|h0
 subst h0
 have ak0:xs=[]:=by simpa using hs.len
 subst ak0
 simp only[Nat.zero_add] at*
 have W:=run_append_nil (P:=P) w t eO e i z ht hi aP q x.n x.c cM I.len IH (by omega) (by omega) (by omega)
 grind
 obtain⟨p,aa⟩:=Option.ne_none_iff_exists'.1 h0
 have W:=run_append_grow (P:=P) w t eO e i z ht hi aP p s.n s.c xs hs.len (hs.world hw aa) q x.n x.c cM I.len IH lc (by omega) (growslice_fits lc Z)
 grind
theorem R6{eO:TypeId}(aJ:iG P t=some (e,size,bytes,zs))(cA:0<size){x:J}
  (U:Own u e size s xs) (I:bb u x size cM) (h1:∀y∈cM,y.oneCell'=true) (hm:s.n+x.n<=9223372036854775807) (Z:(s.n+x.n)*bytes<=140737488355328)
  (ae:∀s' u',Own u' e size s' (xs++cM)->s'.n=s.n+x.n->CD u u' s s'->(s'=⟨none,0,0⟩↔s=⟨none,0,0⟩/\x.n=0)->K s' u'):
  cx P (Builtin.append_ #[t,t] eO #[.slice s.a s.n s.c,.slice x.a x.n x.c]) [.one .slice] u K:=by
 obtain⟨ht,i,z,hi,aP,jy,tr,u9,_⟩:=qH aJ
 have ajE:s.n<=s.c:=U.bR.cap
 by_cases EL:x.n=0
 have Qy:cM=[]:=by simpa[EL] using I.len
 subst Qy
 refine .rf (c:=.slice) s (λw hw=>?_) (ae s u (by simpa using U) (by omega) ⟨λ_ _ h _=>h,.inl rfl⟩ (by simp[EL]))
 have ai:∀(y:Addr),(loadCells y 0).run P w=.ok #[] w:=λy=>by simpa using run_loadCells_list (P:=P) w y [] (by simp)
 rw[EL]
 cases sf:s.a<;>cases A5:x.a<;>simp[Builtin.append_,run_underlying ht,sizeOf,typeInfo,hi,Builtin.lenOf,Builtin.firstCells,ajE,al.enc,sf,ai,storeCells]
 have wN:x.a≠none:=by intro h;rcases I.at' with bx|⟨p,aa,_⟩;have:=I.len;rw[bx] at this;simp only[List.length_nil] at this;rcases Nat.mul_eq_zero.1 this.symm with h|h<;>omega;rw[h] at aa;cases aa
 by_cases lc:s.n+x.n<=s.c
 rcases U.is with h0|⟨g,cur,ap,N,ac,E,hs,nK⟩
 exfalso;grind
 obtain⟨q,ay⟩:=Option.ne_none_iff_exists'.1 wN
 refine .one (c:=.slice) λw hw=>?_
 have AA:s.n*i.size+cM.length<=cur.size:=by rw[I.len,hs,jy,<-Nat.add_mul];exact Nat.mul_le_mul_right _ lc
 have W:=run_append_room (P:=P) w t eO e i ht hi g s.n s.c cur (hw _ _ N) q x.n x.c cM (by rw[jy];exact I.len) (I.world hw ay) h1 lc AA
 rw[ap,ay,W]
 refine⟨⟨some ⟨g,0,none⟩,s.n+x.n,s.c⟩,_,_,rfl,ae _ _ ⟨by rw[List.length_append,U.len,I.len,Nat.add_mul],.inr ⟨g,_,rfl,aS _ _ _,lc,E,?_,?_⟩⟩ rfl
  ⟨λb o e Z=>?_,.inl (by simp[J.ad,ap])⟩ ⟨λh=>by simp at h,λh=>absurd h.2 EL⟩,SE hw N _⟩
 grind
 rw[jy,nK]
 have:(xs++cM).length=(s.n+x.n)*size:=by rw[List.length_append,U.len,I.len,Nat.add_mul]
 grind
 rw[aL u _ (λh=>Z (by simp[J.ad,ap,h]))];exact e
 have gk:s=⟨none,0,0⟩∨s.a≠none:=by
   rcases U.is with h|⟨g,cur,ap,_⟩;exact .inl h
   grind
 refine R7 aJ U.bR I (by omega) gk wN hm Z λg c cur N jh=>ae _ _ jh rfl ⟨λb o e _=>?_,.inr ⟨g,rfl,N⟩⟩ ⟨λh=>by simp at h,λh=>absurd h.2 EL⟩
 rw[aL u _ (λh=>by rw[h,N] at e;cases e)]
 exact e
def hF(P:Program)(t n:Nat)(bZ:Array (Nat×Value)):Option (TypeId×List Value):=
 match iG P t with
 |some (e,size,_,zs)=>match Nat.ble (n*size) 16777216,Nat.ble 1 size,
   Instr.fill (λi=>some (i*size,size)) ((Array.range (n*size)).map (zs.toArray[· %zs.toArray.size]!)) bZ.toList with
  |true,true,some cells=>some (e,cells.toList)
  |_,_,_=>none
 |none=>none
def nU{t n e:Nat}{bZ:Array (Nat×Value)}{cells:List Value}(h:hF P t n bZ=some (e,cells))
  (ae:∀g,u g=none->K ⟨some ⟨g,0,none⟩,n,n⟩ (u.ins g (.cells cells.toArray e (0,0)))):cx P (Instr.buildSlice t n bZ) [.one .slice] u K:=by
 unfold hF at h
 split at h
 rename_i dz size bytes zs aJ
 obtain⟨ht,i,z,hi,aP,jy,tr,u9,EQ⟩:=qH aJ
 subst jy
 split at h
 rename_i cs hle mu M
 cases h
 have hle:=Nat.le_of_ble_eq_true hle
 have mu:=Nat.le_of_ble_eq_true mu
 refine .one (c:=.slice) λw hw=>?_
 refine⟨⟨some ⟨w.heap.size,0,none⟩,n,n⟩,w.alloc (.cells cs e (0,0)),_,?_,ae w.heap.size (hw.none (Nat.le_refl _)),by simpa using Step.ra hw (.cells cs e (0,0))⟩
 have QD:zs.toArray=z.cells:=by rw[<-EQ]
 rw[QD] at M
 have ac:¬(16777216<n*i.size):=by omega
 by_cases et:n=0
 subst et
 simp only[Nat.zero_mul,Array.range_zero',Array.map_empty] at M
 simp[Instr.buildSlice,run_underlying ht,sizeOf,typeInfo,hi,Array.range_zero',M,newRow,al.enc]
 have aa:¬(n*i.size=0):=by intro h;rcases Nat.mul_eq_zero.1 h with h|h<;>omega
 simp[Instr.buildSlice,run_underlying ht,sizeOf,typeInfo,hi,ac,aa,zeroValue,aP,M,newRow,al.enc]
 cases h
 cases h
def aoy(aJ:iG P t=some (e,size,bytes,zs)){l c:Int}(h0:0<=l)(ajk:l<=c)(Z:(bytes:Int)*c<=281474976710656)(ahh:c<=9223372036854775807)
  {u:H} {K:J->H->Prop}
  (ae:∀g,u g=none->K ⟨some ⟨g,0,none⟩,l.toNat,c.toNat⟩ (u.ins g (.cells (madeCells zs.toArray (c.toNat*size)) e (0,0)))):
  cx P (Instr.makeSlice t (.int .i64 l) (.int .i64 c)) [.one .slice] u K:=by
 obtain⟨ht,i,z,hi,aP,jy,tr,u9,EQ⟩:=qH aJ
 refine .one (c:=.slice) λw hw=>?_
 have W:=run_make (P:=P) w t e i z ht hi aP .i64 .i64 l c h0 ajk (by rw[tr];exact Z) ahh
 have QD:zs.toArray=z.cells:=by rw[<-EQ]
 rw[jy,<-QD] at W
 exact⟨⟨some ⟨w.heap.size,0,none⟩,l.toNat,c.toNat⟩,_,_,W,ae _ (hw.none (Nat.le_refl _)),Step.ra hw _⟩
def an6(aJ:iG P t=some (e,size,bytes,zs))(w:World):P.underlying t=some (.slice (P.elem t))/\(sizeOf (P.elem t)).run P w=.ok size w:=by
 obtain⟨ht,i,z,hi,aP,jy,tr,u9,EQ⟩:=qH aJ;have he:P.elem t=e:=by simp[Program.elem,ht]
 rw[he];exact⟨ht,by simp[sizeOf,typeInfo,hi,jy]⟩
def J.part(s:J)(l h m size:Nat):J:=⟨if m=l then s.a else s.a.map (·.add (l*size)),h-l,m-l⟩
def oM(aJ:iG P t=some (e,size,bytes,zs)){bz hi Bx:Option Value}{l h m:Nat}
  (qV:bz=none/\l=0∨bz=some (.int .i64 l)) (tz:hi=none/\h=s.n∨hi=some (.int .i64 h)) (uX:Bx=none/\m=s.c∨Bx=some (.int .i64 m)/\hi≠none)
  (h1:l<=h) (h2:h<=m) (h3:m<=s.c) (aZ:s.n<=s.c) (ae:K (s.part l h m size) u):
  cx P (Instr.sliceAt t (.slice s.a s.n s.c) bz hi Bx) [.one .slice] u K:=by
 refine .rf (c:=.slice) (s.part l h m size) (λw _=>?_) ae
 obtain⟨ht,hs⟩:=an6 aJ w
 rw[run_sliceAt_slice (w:=w) (h:=ht)]
 rcases qV with⟨rfl,rfl⟩|rfl<;>rcases tz with⟨rfl,rfl⟩|rfl<;>rcases uX with⟨rfl,rfl⟩|⟨rfl,hm⟩
 rw[run_slice_all (w:=w) (ht:=ht),hs];rfl
 exact absurd rfl hm
 rw[run_slice_h (w:=w) (ht:=ht) (h0:=by omega) (h2:=by omega),hs];simp[Result.andThen,sliced,J.part,al.enc]
 rw[run_slice_hm (w:=w) (ht:=ht) (h0:=by omega) (h2:=by omega) (h3:=by omega),hs];simp[Result.andThen,sliced,J.part,al.enc]
 rw[run_slice_l (w:=w) (ht:=ht) (h0:=by omega) (h1:=by omega),hs];simp[Result.andThen,sliced,J.part,al.enc]
 exact absurd rfl hm
 rw[run_slice_lh (w:=w) (ht:=ht) (h0:=by omega) (h1:=by omega) (h2:=by omega),hs];simp[Result.andThen,sliced,J.part,al.enc]
 rw[run_slice_lhm (w:=w) (ht:=ht) (h0:=by omega) (h1:=by omega) (h2:=by omega) (h3:=by omega),hs];simp[Result.andThen,sliced,J.part,al.enc]
def Addr.uB(a:Addr)(i j:Nat):(a.add i).add j=a.add (i+j):=Addr.add_add a i j
theorem bb.part(hs:bb u s size xs){l h m:Nat}(h1:l<=h)(h2:h<=s.n)(h3:h<=m)(aZ:m<=s.c):
  bb u (s.part l h m size) size ((xs.drop (l*size)).take ((h-l)*size)):=by
 have ai:=hs.len
 have hle:h*size<=s.n*size:=Nat.mul_le_mul_right _ h2
 have jf:l*size<=h*size:=Nat.mul_le_mul_right _ h1
 have gH:(h-l)*size=h*size-l*size:=Nat.sub_mul _ _ _
 refine⟨?_,?_,?_,?_⟩
 simp only[List.length_take,List.length_drop,J.part];omega
 simp only[J.part];omega
 simp only[J.part];have:=hs.max;omega
 rcases hs.at' with h0|⟨p,aa,E⟩
 grind
 by_cases mY:m=l
 refine .inl ?_
 have:h=l:=by omega
 simp[this]
 refine .inr ⟨p.add (l*size),by simp[J.part,mY,aa],λi v e=>?_⟩
 rw[Addr.uB]
 grind
section
variable {α:Type} {enc:α->List Value} {k:Nat}
theorem qM(hk:∀x,(enc x).length=k)(xs:List α):(xs.flatMap enc).length=xs.length*k:=by
 induction xs with
 |nil=>simp|cons x xs aG=>grind
theorem HP(hk:∀x,(enc x).length=k):∀(xs:List α) (i j:Nat),j<k->(xs.flatMap enc)[i*k+j]?=(xs[i]?).bind λx=>(enc x)[j]?:=by
 intro xs;induction xs with
 |nil=>intro i j _;simp
 |cons x xs aG=>
  intro i j aH;rw[List.flatMap_cons];cases i with
  |zero=>grind|succ i=>
   rw[List.getElem?_append_right (by grind),hk];have:(i+1)*k+j-k=i*k+j:=by grind
   grind
theorem agI(hk:∀x,(enc x).length=k):∀(xs:List α) (i:Nat) (y:α),i<xs.length->
  (xs.set i y).flatMap enc=(xs.flatMap enc).take (i*k)++enc y++(xs.flatMap enc).drop (i*k+k):=by
 intro xs
 induction xs with
 |nil=>intro i y h;simp at h
 |cons x xs aG=>
  intro i y h;cases i with
  |zero=>
   grind|succ i=>
   rw[List.set_cons_succ,List.flatMap_cons,List.flatMap_cons,aG i y (by simpa using h)];have h1:(i+1)*k=(enc x).length+i*k:=by grind
   have h3:∀r:List Value,(enc x++r).take ((enc x).length+i*k)=enc x++r.take (i*k):=λr=>by
    grind
   have aZ:∀r:List Value,(enc x++r).drop ((enc x).length+(i*k+k))=r.drop (i*k+k):=λr=>by rw[List.drop_append,List.drop_eq_nil_of_le (by omega),List.nil_append,Nat.add_sub_cancel_left]
   rw[h1,Nat.add_assoc,h3,aZ]
   grind
theorem vZ(hk:∀x,(enc x).length=k)(xs:List α)(n:Nat):(xs.flatMap enc).take (n*k)=(xs.take n).flatMap enc:=by
 induction xs generalizing n with
 |nil=>simp|cons x xs aG=>
  cases n with
  |zero=>simp|succ n=>
   rw[List.flatMap_cons,List.take_succ_cons,List.flatMap_cons,List.take_append,List.take_of_length_le (by grind),hk]
   grind
theorem VR(hk:∀x,(enc x).length=k)(xs:List α)(n:Nat):(xs.flatMap enc).drop (n*k)=(xs.drop n).flatMap enc:=by
 induction xs generalizing n with
 |nil=>simp|cons x xs aG=>
  cases n with
  |zero=>simp|succ n=>
   rw[List.flatMap_cons,List.drop_succ_cons,List.drop_append,List.drop_eq_nil_of_le (by grind),List.nil_append,hk]
   grind
def fx{xs:List α}(hk:∀x,(enc x).length=k)(nE:0<k)(h:bb u s k (xs.flatMap enc)):s.n=xs.length:=by have:=h.len;rw[qM hk] at this;exact(Nat.eq_of_mul_eq_mul_right nE this).symm
theorem bb.elem{xs:List α}(hk:∀x,(enc x).length=k)(nE:0<k)(h:bb u s k (xs.flatMap enc)){x:α}(hi:xs[i]?=some x):
  ∃p,s.a=some p/\∀j v,(enc x)[j]?=some v->u.cell? ((p.add (i*k)).add j)=some v:=by
 have ai:i<xs.length:=(List.getElem?_eq_some_iff.1 hi).1
 have h0:i*k+0<(xs.flatMap enc).length:=by
  rw[qM hk]
  calc i*k+0<i*k+k:=by omega
   _=(i+1)*k:=by rw[Nat.succ_mul]
   _<=xs.length*k:=Nat.mul_le_mul_right _ ai
 obtain⟨p,aa,E⟩:=h.get h0
 refine⟨p,aa,λj v av=>?_⟩
 rw[Addr.uB]
 refine E _ _ ?_
 have aH:j<k:=by grind
 rw[HP hk xs i j aH,hi]
 exact av
structure aE(Y u:H)(e k:Nat)(s:J)(xs:List Value):Prop where
 own:Own u e k s xs
 le:Y.le u
 fresh:∀g,s.ad=some g->Y g=none
def aE.nil(h:Y.le u)(e k:Nat):aE Y u e k ⟨none,0,0⟩ []:=⟨.nil u e k,h,λg N=>by simp[J.ad] at N⟩
def aE.mono{e:Nat}(h:aE Y u e k s xs)(hu:u.le u'):aE Y u' e k s xs:=
 ⟨h.own.le λ_ _ _ Z=>hu _ _ Z,h.le.trans hu,h.fresh⟩
def aE.weaken{aI:H}{e:Nat}(h:aE aI u e k s xs)(h0:Y.le aI):aE Y u e k s xs:=
 ⟨h.own,h0.trans h.le,λg N=>by
  cases I:Y g with
  |none=>rfl|some o=>have:=h.fresh g N;rw[h0 _ _ I] at this;cases this⟩
def e8(u u':H)(s:J):Prop:=∀b o,u b=some o->s.ad≠some b->u' b=some o
def e8.refl(u:H)(s:J):e8 u u s:=λ_ _ h _=>h
theorem aE.else{dz c7:Nat}{t:J}(h:aE Y u dz c7 t xs)(he:e8 u u' s)(hs:∀g,s.ad=some g->Y g=none)(ah:∀g,s.ad=some g->t.ad≠some g):aE Y u' dz c7 t xs:=
 ⟨h.own.le λb o Z hu=>he b o hu λN=>ah b N Z,λb o Z=>he b o (h.le b o Z) λN=>(by grind),h.fresh⟩
def aE.make(h:Y.le u)(N:u g=none){cells:Array Value}{e n:Nat}(ac:n<=9223372036854775807)(hs:cells.size=n*k):
  aE Y (u.ins g (.cells cells e (0,0))) e k ⟨some ⟨g,0,none⟩,n,n⟩ cells.toList:=by
 refine⟨⟨by simp[hs],.inr ⟨g,cells,rfl,aS _ _ _,Nat.le_refl _,ac,hs,?_⟩⟩,h.trans (bN _ N),λbS cH=>?_⟩
 rw[List.take_of_length_le (by simp[hs])]
 simp[J.ad] at cH
 subst cH
 cases I:Y g with
 |none=>rfl
 |some o=>rw[h _ _ I] at N;cases N
def Ci(c:Array Value)(o:Nat)(vs:List Value)(h:o+vs.length<=c.size):(wr c o vs).toList=c.toList.take o++vs++c.toList.drop (o+vs.length):=by have:=acS vs c.toList o (by simpa using h);rw[Array.toArray_toList] at this;rw[this];rfl
theorem aE.store{e:Nat}{xs:List α}(hk:∀x,(enc x).length=k)(h:aE Y u e k s (xs.flatMap enc))(nE:0<k)(hi:i<xs.length){y:α}(h1:∀v∈enc y,v.oneCell'=true)
  {p:Addr} (aa:s.a=some p) {f:H->Prop} (M:∀u',aE Y u' e k s ((xs.set i y).flatMap enc)->e8 u u' s->(∀b,u b=none->u' b=none)->f u'):H.an u (p.add (i*k)) (enc y) f:=by
 rcases h.own.is with h0|⟨g,cur,ap,N,ac,E,hs,ht⟩
 rw[h0] at aa;cases aa
 .rw[ap] at aa;cases aa;have ah9:(⟨g,0,none⟩:Addr).add (i*k)=⟨g,i*k,none⟩:=by rw[Addr.add_lit,Nat.zero_add]
  have cY:=fx hk nE h.own.bR;have hle:i*k+k<=s.n*k:=by
   calc i*k+k=(i+1)*k:=by rw[Nat.succ_mul]
    _<=s.n*k:=Nat.mul_le_mul_right _ (by omega)
  have ph:s.n*k<=s.c*k:=Nat.mul_le_mul_right _ ac;rw[ah9];have cA:i*k+(enc y).length<=cur.size:=by rw[hk,hs];omega
  refine⟨cur,e,N,rfl,cA,h1,M _ ?_ ?_ ?_⟩;refine⟨⟨by rw[qM hk,List.length_set,cY],.inr ⟨g,_,ap,aS _ _ _,ac,E,?_,?_⟩⟩,?_,h.fresh⟩;rw[<-Array.length_toList,Ci _ _ _ cA]
  grind
  rw[Ci _ _ _ cA,agI hk xs i y hi,<-ht,hk];have gi:(cur.toList.take (i*k)++enc y).length=i*k+k:=by grind
  rw[List.take_append,List.take_of_length_le (by omega),gi];congr 1
  grind
  rw[<-List.drop_take];exact λb o Z=>by
    have:b≠g:=λoi=>by
     have:=h.fresh g (by simp[J.ad,ap])
     grind
    rw[aL _ _ this];exact h.le b o Z
  intro b o Z ah;rw[aL _ _ (λoi=>ah (by simp[J.ad,ap,oi]))];exact Z;intro b Z;rw[aL _ _ (λoi=>by grind)];exact Z
end
def cx.Sj{m:Sem Value}{e5:J->H->Prop}(h:cx P m [.one .slice] u K)(hk:∀s u',K s u'->e5 s u'):cx P m [.one .slice] u e5:=by
 intro w hw;obtain⟨v,aw,u',h1,⟨vs,h2,h3,aZ⟩,bJ⟩:=h w hw;refine⟨v,aw,u',h1,⟨vs,h2,h3,?_⟩,bJ⟩;cases h2 with
 |cons x W=>cases W;exact(al.nX .slice x _).2 (hk _ _ ((al.nX .slice x _).1 aZ))
theorem vp{bZ:Array (Nat×Value)}(aJ:iG P t=some (e,size,bytes,zs))(b4:hF P t 1 bZ=some (e,cM))(cA:0<size)
  (af:cM.length=size) (h1:∀y∈cM,y.oneCell'=true) {Y u:H} {s:J} {xs:List Value} (h:aE Y u e size s xs) (hm:s.n<9223372036854775807) (Z:(s.n+1)*bytes<=140737488355328) {K:J->H->Prop}
  (ae:∀s' u',aE Y u' e size s' (xs++cM)->s'.n=s.n+1->e8 u u' s->(∀g,s'.ad=some g->s.ad=some g∨u g=none)->s'.a≠none->K s' u'):
  cx P (Instr.buildSlice t 1 bZ) [.one .slice] u λs1 aI=>u.le aI/\cx P (Builtin.append_ #[t,t] t #[.slice s.a s.n s.c,.slice s1.a s1.n s1.c]) [.one .slice] aI K:=by
 refine nU b4 λg N=>⟨bN _ N,?_⟩
 have I:bb (u.ins g (.cells cM.toArray e (0,0))) ⟨some ⟨g,0,none⟩,1,1⟩ size cM:=by have:=(aE.make (k:=size) (H.le.refl u) N (cells:=cM.toArray) (e:=e) (n:=1) (by omega) (by simp[af])).own.bR;simpa using this
 have bx:=h.mono (bN (u:=u) (b:=g) (.cells cM.toArray e (0,0)) N)
 refine R6 aJ cA bx.own I h1 (by simp only;omega) (by simpa using Z) λs' u' U ac mX u0=>ae s' u' ⟨U,mX.le bx.le h.fresh,λbS cH=>mX.out bx.le h.fresh bS cH⟩ (by simpa using ac) ?_ ?_ ?_
 intro b o Z ah
 exact mX.rest b o (bN _ N _ _ Z) ah
 intro bS cH
 rcases mX.ad with Z|⟨g2,Z,ef⟩
 grind
 rw[Z] at cH;cases cH
 refine .inr ?_
 cases I:u bS with
 |none=>rfl
 |some o=>rw[bN _ N _ _ I] at ef;cases ef
 intro awK
 rcases U.is with h0|⟨g2,_,ap,_⟩
 grind
 grind
def rn{bZ:Array (Nat×Value)}(aJ:iG P t=some (e,size,bytes,zs))(b4:hF P t 1 bZ=some (e,cM))(cA:0<size)
  (af:cM.length=size) (h1:∀y∈cM,y.oneCell'=true) {Y u:H} {s:J} {xs:List Value} (h:aE Y u e size s xs) (hm:s.n<9223372036854775807) (Z:(s.n+1)*bytes<=140737488355328) {K:J->H->Prop}
  (ae:∀s' u',aE Y u' e size s' (xs++cM)->s'.n=s.n+1->e8 u u' s->(∀g,s'.ad=some g->s.ad=some g∨u g=none)->s'.a≠none->K s' u'):
  cx P (Instr.buildSlice t 1 bZ) [.one .slice] u λs1 aI=>cx P (Builtin.append_ #[t,t] t #[.slice s.a s.n s.c,.slice s1.a s1.n s1.c]) [.one .slice] aI K:=by
 exact cx.Sj (vp aJ b4 cA af h1 h hm Z ae) λ_ _ h=>h.2
def pK(u:H)(b:Nat)(l:List Int):Prop:=∃es clock,u b=some (.map es clock)/\es.toList.map (λe=>(e.key,e.val))=l.map λx=>(Value.int .i64 x,Value.bool true)
def pK.mono(h:pK u b l)(hu:u.le u'):pK u' b l:=by obtain⟨es,c,h1,h2⟩:=h;exact⟨es,c,hu _ _ h1,h2⟩
theorem agE(x:Int):∀(es:List MapEntry) (l:List Int) (i:Nat),es.map (λe=>(e.key,e.val))=l.map (λx=>(Value.int .i64 x,Value.bool true))->
  (x∈l->∃j,Instr.findNow (.int .i64) (.int .i64 x) es i=some (some (j,.bool true)))/\(x∉l->Instr.findNow (.int .i64) (.int .i64 x) es i=some none):=by
 intro es
 induction es with
 |nil=>
  intro l i h;have:l=[]:=by simpa using h.symm
  subst this;exact⟨λh=>(by cases h),λ_=>rfl⟩
 |cons e es aG=>
  intro l i h;cases l with
  |nil=>simp at h|cons y l=>
   simp only[List.map_cons,List.cons.injEq,Prod.mk.injEq] at h;obtain⟨⟨hk,av⟩,W⟩:=h;obtain⟨i1,i2⟩:=aG l (i+1) W;unfold Instr.findNow;rw[hk,av];simp only[Instr.sameNow,if_true]
   grind
def Sc{K:Option Nat->H->Prop}(ae:∀b,u b=none->pK (u.ins b (.map #[] 0)) b []->K (some b) (u.ins b (.map #[] 0))):
  cx P (Instr.makeMap t none) [.one .map] u K:=
 .one (c:=.map) λw hw=>⟨some w.heap.size,_,_,Go.RowKit.run_makeMap t w,ae _ (hw.none (Nat.le_refl _)) ⟨#[],0,aS _ _ _,rfl⟩,Step.ra hw _⟩
structure xp(P:Program)(t k e:TypeId):Prop where
 eO:P.underlying t=some (.map k e)
 key:P.underlying k=some (.int .i64)
 zero:∀w,(zeroValue e).run P w=.ok (.bool false) w
def xp.find(T:xp P t k e){es:Array MapEntry}(h:es.toList.map (λe=>(e.key,e.val))=l.map λx=>(Value.int .i64 x,Value.bool true))(x:Int)(w:World):
  (x∈l->∃j,(Instr.findKey k (.int .i64 x) es.toList).run P w=.ok (some (j,.bool true)) w)/\(x∉l->(Instr.findKey k (.int .i64 x) es.toList).run P w=.ok none w):=by
 obtain⟨h1,h2⟩:=agE x es.toList l 0 h
 constructor
 intro I
 obtain⟨j,aH⟩:=h1 I
 exact⟨j,by simp[Instr.findKey,Sem.run_bind,run_underlying T.key,Result.andThen,aH]⟩
 intro I
 simp[Instr.findKey,Sem.run_bind,run_underlying T.key,Result.andThen,h2 I]
def xp.check(T:xp P t k e)(b:Bool)(x:Int)(w:World):(Instr.checkKey b 10000 k (.int .i64 x)).run P w=.ok () w:=by show(Instr.checkKey b (9999+1) k (.int .i64 x)).run P w=.ok () w;unfold Instr.checkKey;simp[Sem.run_bind,run_underlying T.key,Result.andThen]
def Sb(T:xp P t k e)(h:pK u b l){K:Bool->H->Prop}(ae:K (decide (x∈l)) u):
  cx P (Instr.lookup t (.map (some b)) (.int .i64 x) false) [.one .bool] u K:=by
 obtain⟨es,c,Z,ai⟩:=h
 refine .rf (c:=.bool) (decide (x∈l)) (λw hw=>?_) ae
 have N:=MapKept.run_getObj_map (P:=P) (hw _ _ Z)
 have M:=T.find ai x w
 have E:=T.check es.isEmpty x w
 by_cases I:x∈l
 obtain⟨j,aH⟩:=M.1 I
 simp[Instr.lookup,Sem.run_bind,run_underlying T.eO,N,E,aH,Result.andThen,I,al.enc]
 have aH:=M.2 I
 simp[Instr.lookup,Sem.run_bind,run_underlying T.eO,N,E,aH,Result.andThen,I,al.enc,T.zero]
theorem step_block(hw:Sub u w){o:Obj}(N:u g=some o)(bn:Obj):Step u [] w (u.ins g bn) [] {w with heap:=w.heap.setIfInBounds g bn}:=by
 have bh:=hw.lt N;refine⟨λb x h=>?_,rfl,rfl,rfl,Nat.le_refl _,by simp,λb _ Z _=>?_,λb _ Z=>?_,[],by simp,by simp⟩;unfold H.ins at h;split at h
 grind
 rename_i oi;show(w.heap.setIfInBounds g bn)[b]?=some x;rw[Array.getElem?_setIfInBounds_ne (Ne.symm oi)];exact hw b x h
 grind
 have:b≠g:=λh=>by grind
 rw[aL u _ this];exact Z
theorem J8(T:xp P t k e)(h:pK u b l)(I:x∉l){K:H->Prop}
  (ae:∀u',pK u' b (l++ [x])->(∀g o,u g=some o->g≠b->u' g=some o)->(∀g,u g=none->u' g=none)->K u'):
  cx P (unit (Instr.mapUpdate t (.map (some b)) (.int .i64 x) (.bool true))) [] u K:=by
 obtain⟨es,c,Z,ai⟩:=h
 intro w hw
 have N:=MapKept.run_getObj_map (P:=P) (hw _ _ Z)
 have aH:=(T.find ai x w).2 I
 have E:=T.check false x w
 have iL:=MapKept.run_setObj_map (P:=P) (.map (es.push {key:=.int .i64 x,val:=.bool true,born:=c}) (c+1)) (hw _ _ Z)
 refine⟨_,_,u.ins b (.map (es.push {key:=.int .i64 x,val:=.bool true,born:=c}) (c+1)),?_,⟨[],.nil,rfl,ae _ ⟨_,_,aS _ _ _,?_⟩ ?_ ?_⟩,step_block hw Z _⟩
 simp[unit,Instr.mapUpdate,Sem.run_bind,run_underlying T.eO,N,E,aH,Result.andThen,iL]
 rfl
 simp[ai]
 intro g o pd ah;rw[aL _ _ ah];exact pd
 intro g pd;rw[aL _ _ (λh=>by grind)];exact pd
end
