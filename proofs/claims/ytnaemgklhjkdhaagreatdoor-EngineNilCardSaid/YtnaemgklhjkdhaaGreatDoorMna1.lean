/- Texts of mine, joined and packed by pack.py. -/
import Derived.WalkKit
import Derived.Orders
import Derived.RangeFuncSeq
import Derived.TacticsIn
import Derived.Laws.Concat
import Derived.OrdersHeld
set_option linter.all false
set_option maxRecDepth 100000
noncomputable section
namespace Go.Proofs.YtnaemgklhjkdhaaGreatDoor
section
variable{bs:List Nat}{b:Nat}{R:Type}{P:Program}{vs:List Value}{aw:World}
abbrev H:=Nat->Option Obj
def H.ins(u:H)(b:Nat)(o:Obj):H:=λx=>if x=b then some o else u x
def H.le(u u':H):Prop:=∀b o,u b=some o->u' b=some o
def H.le.refl(u:H):u.le u:=λ_ _ h=>h
def H.le.trans{a b c:H}(h:a.le b)(k:b.le c):a.le c:=λx o e=>k x o (h x o e)
theorem H.bN{u:H}(o:Obj)(h:u b=none):u.le (u.ins b o):=by
 intro x p e;unfold H.ins
 grind
def H.le.ins{u u':H}(o:Obj)(k:u.le u')(h:u' b=none):u.le (u'.ins b o):=k.trans (H.bN o h)
def H.aS(u:H)(b:Nat)(o:Obj):u.ins b o b=some o:=by simp[H.ins]
def H.aL(u:H){x:Nat}(o:Obj)(h:x≠b):u.ins b o x=u x:=by simp[H.ins,h]
def H.cell?(u:H)(a:Addr):Option Value:=
 match u a.block with
 |some (.cells c _ _)=>if a.spot.isSome then none else c[a.off]?
 |_=>none
def Sub(u:H)(w:World):Prop:=∀b o,u b=some o->w.heap[b]?=some o
def Sub.cell{u:H}{w:World}(h:Sub u w){a:Addr}{v:Value}(e:u.cell? a=some v):w.cell? a=some v:=by unfold H.cell? at e;unfold World.cell?;split at e;rename_i c t f Z;rw[h _ _ Z];exact e;cases e
theorem Sub.none{u:H}{w:World}(h:Sub u w)(Z:w.heap.size<=b):u b=none:=by
 cases e:u b with
 |none=>rfl|some o=>
  have:=h _ _ e
  grind
def Sub.lt{u:H}{w:World}(h:Sub u w){o:Obj}(e:u b=some o):b<w.heap.size:=by rcases Nat.lt_or_ge b w.heap.size with k|k;exact k;rw[h.none k] at e;cases e
def Sub.mono{u u':H}{w:World}(h:Sub u' w)(k:u.le u'):Sub u w:=λb o e=>h b o (k b o e)
structure Step(u:H)(bs:List Nat)(w:World)(u':H)(cd:List Nat)(aw:World):Prop where
 sub:Sub u' aw
 os:aw.os=w.os
 tape:aw.tape=w.tape
 output:aw.output=w.output
 drawn:w.drawn<=aw.drawn
 size:w.heap.size<=aw.heap.size
 rest:∀b,b<w.heap.size->u b=none->b∉bs->aw.heap[b]?=w.heap[b]?
 jg:∀b,b<w.heap.size->u b=none->u' b=none
 more:∃ext,cd=bs++ext/\∀b∈ext,w.heap.size<=b
def Step.refl{u:H}{w:World}(h:Sub u w):Step u bs w u bs w:=
 ⟨h,rfl,rfl,rfl,Nat.le_refl _,Nat.le_refl _,λ_ _ _ _=>rfl,λ_ _ e=>e,[],by simp,by simp⟩
theorem Step.trans{u u' gL:H}{cd UP:List Nat}{w Gk:World}(h:Step u bs w u' cd aw)(k:Step u' cd aw gL UP Gk):Step u bs w gL UP Gk:=by
 obtain⟨aO,tu,gi⟩:=h.more;obtain⟨ar,h4,fX⟩:=k.more;refine⟨k.sub,k.os.trans h.os,k.tape.trans h.tape,k.output.trans h.output,Nat.le_trans h.drawn k.drawn,Nat.le_trans h.size k.size,?_,?_,aO++ar,by grind,?_⟩;intro b Z hu ac;rw[k.rest b (Nat.lt_of_lt_of_le Z h.size) (h.jg b Z hu) ?_,h.rest b Z hu ac]
 grind
 intro b Z hu;exact k.jg b (Nat.lt_of_lt_of_le Z h.size) (h.jg b Z hu);intro b Z;rcases List.mem_append.1 Z with Z|Z;exact gi b Z;exact Nat.le_trans h.size (fX b Z)
def Step.HA{u:H}{w:World}(h:Sub u w){n:Nat}(ac:w.drawn<=n):Step u bs w u bs {w with drawn:=n}:=
 ⟨h,rfl,rfl,rfl,ac,Nat.le_refl _,λ_ _ _ _=>rfl,λ_ _ e=>e,[],by simp,by simp⟩
def GZ(P:Program)(f:FuncId)(args:Array Value)(u:H)(K:Value->H->Prop):Prop:=
 ∀w,Sub u w->Calls P f args w λe aw=>∃v u',e=.returned v/\K v u'/\Step u [] w u' [] aw
def GZ.mono{f:FuncId}{args:Array Value}{u:H}{K e5:Value->H->Prop}(h:GZ P f args u K)(hk:∀v u',K v u'->e5 v u'):GZ P f args u e5:=
 λw hw=>(h w hw).mono λ_ _ ⟨v,u',e,k,s⟩=>⟨v,u',e,hk v u' k,s⟩
def Ha(P:Program)(m:Sem Value)(u:H)(K:Value->H->Prop):Prop:=
 ∀w,Sub u w->∃v aw u',m.run P w=.ok v aw/\K v u'/\Step u [] w u' [] aw
def Ha.mono{m:Sem Value}{u:H}{K e5:Value->H->Prop}(h:Ha P m u K)(hk:∀v u',K v u'->e5 v u'):Ha P m u e5:=
 λw hw=>let⟨v,aw,u',e,k,s⟩:=h w hw;⟨v,aw,u',e,hk v u' k,s⟩
inductive al where
 |int (k:IntKind)|bool|str|ptr|slice|map|val|addr
structure J where
 a:Option Addr
 n:Nat
 c:Nat
@[reducible] def J.v(s:J):Value:=.slice s.a s.n s.c
def al.den:al->Type
 | .int _=>Int| .bool=>Bool| .str=>ByteArray| .ptr=>Option Addr| .slice=>J| .map=>Option Nat| .val=>Value| .addr=>Addr
def al.enc:(t:al)->t.den->Value
 | .int k,n=>.int k n| .bool,b=>.bool b| .str,s=>.string s| .ptr,p=>.pointer p| .slice,s=>.slice s.a s.n s.c| .map,r=>.map r| .val,v=>v| .addr,p=>.pointer (some p)
def tL(a b:IntKind):Bool:=a.bits==b.bits && a.signed==b.signed
def EY{a b:IntKind}(h:tL a b=true):a=b:=by cases a<;>cases b<;>first|rfl|(revert h;decide)
def al.un:(t:al)->Value->(t.den->Prop)->Prop
 | .int k,.int c7 n,f=>match tL c7 k with|true=>f n|false=>False
 | .bool,.bool b,f=>f b| .str,.string s,f=>f s| .ptr,.pointer p,f=>f p| .slice,.slice a n c,f=>f ⟨a,n,c⟩| .map,.map r,f=>f r| .val,v,f=>f v| .addr,.pointer (some p),f=>f p|_,_,_=>False
def al.KV{t:al}{v:Value}{f:t.den->Prop}(h:t.un v f):∃x,v=t.enc x/\f x:=by
 by_cases ap:t=.addr;subst ap;cases v<;>simp only[al.un] at h<;>try contradiction
 rename_i p;cases p with
 |none=>exact h.elim|some p=>exact⟨p,rfl,h⟩
 cases t<;>(try exact absurd rfl ap)<;>cases v<;>simp only[al.un] at h<;>try contradiction
 case int.int k c7 n=>split at h;rename_i e;have:=EY e;subst this;exact⟨n,rfl,h⟩;exact h.elim
 all_goals exact⟨_,rfl,h⟩
def QM(k:IntKind):tL k k=true:=by cases k<;>rfl
def al.nX(t:al)(x:t.den)(f:t.den->Prop):t.un (t.enc x) f↔f x:=by cases t<;>first|exact Iff.rfl|simp[al.un,al.enc,QM]
def fo:List al->Type->Type
 | [],R=>R|t::bY,R=>t.den->fo bY R
def E6{R:Type}:(bY:List al)->(List Value->R)->fo bY R
 | [],f=>f []|t::bY,f=>λx=>E6 bY λvs=>f (t.enc x::vs)
def CQ:(bY:List al)->(List Value->Prop)->Prop
 | [],f=>f []|t::bY,f=>∀x:t.den,CQ bY λvs=>f (t.enc x::vs)
def fr{R:Type}:(bY:List al)->fo bY R->List Value->(R->Prop)->Prop
 | [],cu,[],f=>f cu|t::bY,cu,v::vs,f=>t.un v λx=>fr bY (cu x) vs f|_,_,_,_=>False
inductive lC:List al->List Value->Prop
 |nil:lC [] []
 |cons {t:al} {bY:List al} (x:t.den) {vs:List Value}:lC bY vs->lC (t::bY) (t.enc x::vs)
def Ce{bY:List al}{cu:fo bY R}{f:R->Prop}(h:fr bY cu vs f):lC bY vs:=by
 induction bY generalizing vs with
 |nil=>cases vs with
  |nil=>exact .nil|cons=>simp[fr] at h
 |cons t bY aG=>cases vs with
  |nil=>simp[fr] at h|cons v vs=>simp only[fr] at h;obtain⟨x,rfl,I⟩:=al.KV h;exact .cons x (aG I)
def aeb{bY:List al}{f:List Value->Prop}(h:CQ bY f)(k:lC bY vs):f vs:=by
 induction k generalizing f with
 |nil=>exact h|cons x _ aG=>exact aG (f:=λvs=>f (al.enc _ x::vs)) (h x)
def SV{bY:List al}(cu:fo bY R)(k:lC bY vs):∃r,∀f:R->Prop,fr bY cu vs f↔f r:=by
 induction k with
 |nil=>exact⟨cu,λf=>Iff.rfl⟩|cons x _ aG=>obtain⟨r,W⟩:=aG (cu x);exact⟨r,λf=>by simp only[fr,al.nX];exact W f⟩
def Gd{bY:List al}{g:List Value->R}(k:lC bY vs)(f:R->Prop):fr bY (E6 bY g) vs f↔f (g vs):=by
 induction k generalizing g with
 |nil=>exact Iff.rfl|cons x _ aG=>simp only[fr,al.nX,E6];exact aG
inductive aF where
 |one (t:al)
 |agg (bY:List al)
def aF.fS:aF->List al
 | .one t=>[t]| .agg bY=>bY
def aF.take:aF->List Value->Value×List Value
 | .one _,v::vs=>(v,vs)| .one _,[]=>(.tuple #[],[])| .agg bY,vs=>(.agg (vs.take bY.length).toArray,vs.drop bY.length)
def vV:List aF->List Value->List Value
 | [],_=>[]|s::ss,vs=>(s.take vs).1::vV ss (s.take vs).2
def qI(ss:List aF)(vs:List Value):Value:=
 match vV ss vs with
 | [v]=>v|l=>.tuple l.toArray
def eW:List aF->List al
 | []=>[]|s::ss=>s.fS++eW ss
def fW(P:Program)(f:FuncId)(args:Array Value)(ss:List aF)(u:H)(K:fo (eW ss) (H->Prop)):Prop:=
 GZ P f args u λv u'=>∃vs,lC (eW ss) vs/\v=qI ss vs/\fr (eW ss) K vs λr=>r u'
def cx(P:Program)(m:Sem Value)(ss:List aF)(u:H)(K:fo (eW ss) (H->Prop)):Prop:=
 Ha P m u λv u'=>∃vs,lC (eW ss) vs/\v=qI ss vs/\fr (eW ss) K vs λr=>r u'
inductive eb where
 |v (x:Value)
 |ptr (p:Addr)
 |loc (i off:Nat)
 |hB
 |hr
 |dec (p:Prop) (d:Decidable p)
 |qi (p:Prop) (d:Decidable p)
structure an where
 n:Nat
 env:List (Nat×eb)
 loc:List (List Value)
 ta:Option Nat:=none
def Hz:Option Nat->List Deferred
 |none=>[]|some D=>[{target:=.collected D,args:=#[]}]
structure iB where
 P:Program
 exp:List Nat:=[]
 wrap:Bool:=false
 gB:List (Nat×Nat):=[]
 lN:List Nat:=[]
 l2:List Nat:=[]
 part:Bool:=false
def fa(bs:List Nat):eb->Option Value
 | .v x=>some x| .ptr p=>some (.pointer (some p))| .loc i off=>match bs[i]? with
  |some b=>some (.pointer (some ⟨b,off,none⟩))|none=>none
 | .hB=>some (.bool true)| .hr=>some (.bool false)| .dec p d=>some (.bool (@decide p d))| .qi p d=>some (.bool (!@decide p d))
def eb.val:eb->Option Value
 | .v x=>some x| .ptr p=>some (.pointer (some p))| .loc _ _=>none| .hB=>some (.bool true)| .hr=>some (.bool false)| .dec p d=>some (.bool (@decide p d))| .qi p d=>some (.bool (!@decide p d))
def eb.KY{x:eb}{v:Value}(h:x.val=some v)(bs:List Nat):fa bs x=some v:=by cases x<;>simp only[eb.val] at h<;>first|exact h|cases h
def look:List (Nat×eb)->Nat->Option eb
 | [],_=>none|(i,x)::r,j=>match Nat.beq i j with
  |true=>some x|false=>look r j
def del:List (Nat×eb)->Nat->List (Nat×eb)
 | [],_=>[]|(i,x)::r,j=>match Nat.beq i j with
  |true=>del r j|false=>(i,x)::del r j
theorem yT{l:List (Nat×eb)}{j:Nat}{x:eb}(h:look l j=some x):(j,x)∈l:=by
 induction l with
 |nil=>cases h
 |cons p r aG=>
  obtain⟨i,y⟩:=p;simp only[look] at h;split at h
  simp_all
  exact .tail _ (aG h)
theorem Ve{l:List (Nat×eb)}{j:Nat}{p:Nat×eb}(h:p∈del l j):p∈l/\p.1≠j:=by
 induction l with
 |nil=>cases h
 |cons q r aG=>
  obtain⟨i,y⟩:=q;simp only[del] at h;split at h
  grind
  rename_i e;cases h with
  |head=>exact⟨.head _,λdz=>by simp_all⟩|tail _ h=>exact⟨.tail _ (aG h).1,(aG h).2⟩
def an.put(s:an)(dst:Option Tmp)(x:eb):an:=
 match dst with
 |none=>s|some d=>match Nat.blt d s.n with
  |true=>{s with env:=(d,x)::del s.env d}
  |false=>{s with env:=del s.env d}
def an.drop(s:an)(dst:Option Tmp):an:=
 match dst with
 |none=>s|some d=>{s with env:=del s.env d}
def an.sv(s:an):Operand->Option eb
 | .tmp t=>look s.env t| .const (.bool true)=>some .hB| .const (.bool false)=>some .hr| .const v=>some (.v v)| .global g=>some (.ptr ⟨g,0,none⟩)| .func f=>some (.v (.func (.func f) #[] #[]))
def an.val(s:an)(x:Operand):Option Value:=(s.sv x).bind eb.val
class k1 where
 ds:List Deferred
instance:k1:=⟨[]⟩
variable [k1]
structure FitsE(s:an)(bs:List Nat)(a:Act):Prop where
 defers:a.defers=Hz s.ta++k1.ds
 n:a.tmps.size=s.n
 env:∀p∈s.env,∃v,fa bs p.2=some v/\a.tmps[p.1]?=some v
structure Fits(s:an)(bs:List Nat)(u:H)(a:Act)(w:World):Prop extends FitsE s bs a where
 len:bs.length=s.loc.length
 loc:∀(i:Nat) (cs:List Value),s.loc[i]?=some cs->∃(b:Nat) (T:TypeId),bs[i]?=some b/\w.heap[b]?=some (Obj.cells cs.toArray T (0,0))
 nodup:bs.Nodup
 hid:∀b∈bs,u b=none/\b<w.heap.size
 sub:Sub u w
structure gV(loc:List (List Value))(bs:List Nat)(u:H)(w:World):Prop where
 loc:∀(i:Nat) (cs:List Value),loc[i]?=some cs->∃(b:Nat) (T:TypeId),bs[i]?=some b/\w.heap[b]?=some (Obj.cells cs.toArray T (0,0))
 sub:Sub u w
def Fits.w{s:an}{u:H}{a:Act}{w:World}(h:Fits s bs u a w):gV s.loc bs u w:=⟨h.loc,h.sub⟩
theorem FitsE.sv{s:an}{a:Act}(h:FitsE s bs a){x:Operand}{y:eb}(e:s.sv x=some y):fa bs y=some (a.eval x):=by
 cases x with
 |tmp t=>
  simp only[an.sv] at e;obtain⟨v,h1,h2⟩:=h.env _ (yT e);simp only[Act.eval]
  simp_all
 |const v=>
  cases v<;>try(simp only[an.sv,Option.some.injEq] at e;subst e;rfl)
  rename_i b;cases b<;>(simp only[an.sv,Option.some.injEq] at e;subst e;rfl)
 |global g=>simp only[an.sv,Option.some.injEq] at e;subst e;rfl|func f=>simp only[an.sv,Option.some.injEq] at e;subst e;rfl
theorem FitsE.val{s:an}{a:Act}(h:FitsE s bs a){x:Operand}{v:Value}(e:s.val x=some v):a.eval x=v:=by
 unfold an.val at e;cases I:s.sv x with
 |none=>rw[I] at e;cases e
 |some y=>
  rw[I] at e;have h1:=h.sv I;have h2:=eb.KY e bs
  grind
theorem RJ(a:Act)(d:Nat)(v:Value)(j:Nat):(a.put (some d) v).tmps[j]?=if d=j/\j<a.tmps.size then some v else a.tmps[j]?:=by
 simp only[Act.put,Array.getElem?_setIfInBounds]
 grind
def Fits.drop{s:an}{u:H}{a:Act}{w:World}(h:Fits s bs u a w)(dst:Option Tmp)(v:Value):Fits (s.drop dst) bs u (a.put dst v) w:=by
 cases dst with
 |none=>exact h|some d=>refine⟨⟨h.defers,by simp[Act.put,h.n,an.drop],?_⟩,h.len,h.loc,h.nodup,h.hid,h.sub⟩;intro p aa;obtain⟨h1,h2⟩:=Ve aa;obtain⟨x,I,af⟩:=h.env p h1;refine⟨x,I,?_⟩;rw[RJ,if_neg (λe=>h2 e.1.symm)];exact af
def Fits.put{s:an}{u:H}{a:Act}{w:World}(h:Fits s bs u a w)(dst:Option Tmp){x:eb}{v:Value}(e:fa bs x=some v):Fits (s.put dst x) bs u (a.put dst v) w:=by
 cases dst with
 |none=>exact h|some d=>
  have aj:=h.drop (some d) v;cases Z:Nat.blt d s.n with
  |false=>
   have aO:s.put (some d) x=s.drop (some d):=by simp only[an.put,Z,an.drop]
   rw[aO];exact aj|true=>
   have aO:s.put (some d) x={s with env:=(d,x)::del s.env d}:=by simp only[an.put,Z]
   rw[aO];have bh:d<s.n:=by simpa using Z
   refine⟨⟨aj.defers,aj.n,?_⟩,h.len,h.loc,h.nodup,h.hid,h.sub⟩;intro p aa;cases aa with
   |head=>exact⟨v,e,by rw[RJ,if_pos ⟨rfl,by rw[h.n];exact bh⟩]⟩|tail _ aa=>exact aj.env p aa
def Fits.step{s:an}{u u':H}{a:Act}{w:World}(h:Fits s bs u a w)(k:Step u [] w u' [] aw):Fits s bs u' a aw:=by refine⟨⟨h.defers,h.n,h.env⟩,h.len,?_,h.nodup,?_,k.sub⟩;intro i cs e;obtain⟨b,T,h1,h2⟩:=h.loc i cs e;have hm:b∈bs:=List.mem_of_getElem? h1;exact⟨b,T,h1,(k.rest b (h.hid b hm).2 (h.hid b hm).1 (by simp)).trans h2⟩;intro b Z;exact⟨k.jg b (h.hid b Z).2 (h.hid b Z).1,Nat.lt_of_lt_of_le (h.hid b Z).2 k.size⟩
def Step.DX{u u':H}{w:World}(k:Step u [] w u' [] aw)(bs:List Nat):Step u bs w u' bs aw:=
 ⟨k.sub,k.os,k.tape,k.output,k.drawn,k.size,λb Z hu _=>k.rest b Z hu (by simp),k.jg,[],by simp,by simp⟩
def Va:Value->al
 | .int k _=>.int k| .bool _=>.bool| .string _=>.str| .pointer _=>.ptr| .slice _ _ _=>.slice| .map _=>.map|_=>.val
def nt(P:Program)(t:TypeId):Bool:=
 match P.underlying t with
 |some (.struct _)=>true|some (.array _ _)=>true|_=>false
def nj(P:Program)(t:TypeId):Option aF:=
 match P.info? t with
 |some i=>match i.zero,P.underlying t with
  |some (.agg cs),some _=>match nt P t,Nat.beq cs.size i.size with
   |true,true=>some (.agg (cs.toList.map Va))|_,_=>none
  |some z,some _=>match nt P t,Nat.beq 1 i.size with
   |false,true=>some (.one (Va z))|_,_=>none
  |_,_=>none
 |none=>none
def FV(P:Program)(t:TypeId):Option (List aF):=
 match P.underlying t with
 |some (.tuple bY)=>bY.toList.mapM (nj P)|_=>(nj P t).map λs=>[s]
def zeroOf(P:Program)(t:TypeId):Option (List Value):=
 match P.info? t with
 |some i=>i.zero.map λz=>z.cells.toList|none=>none
def sK(P:Program)(t:TypeId):Option Nat:=(P.info? t).map (·.size)
def BK(P:Program){α:Type}:Sem α->Option α
 | .pure a=>some a| .program k=>BK P (k P)|_=>none
def anp{α:Type}{m:Sem α}{a:α}(h:BK P m=some a)(w:World):m.run P w=.ok a w:=by
 induction m with
 |pure b=>simp only[BK,Option.some.injEq] at h;subst h;rfl|program k aG=>simp only[BK] at h;simp only[Sem.run];exact aG _ h|_=>simp[BK] at h
def an.fF(s:an)(x:Operand):Value:=(s.val x).getD undef
def known(s:an)(o:Oper):Bool:=o.op.operands.toList.all λx=>(s.val x).isSome
def VC{s:an}{a:Act}(h:FitsE s bs a){o:Oper}(hs:∀cs b,o.op≠.select cs b)(hk:known s o=true):execOp a.eval o=execOp s.fF o:=by refine execOp_congr o hs λx I=>?_;have h1:=List.all_eq_true.1 hk x (Array.mem_toList_iff.2 I);obtain⟨v,av⟩:=Option.isSome_iff_exists.1 h1;rw[h.val av];simp[an.fF,av]
def ZC:Op->Bool
 | .select _ _| .index ..| .lookup ..| .mapUpdate ..| .insert ..| .makeMap ..| .makeSlice ..| .slice ..| .buildSlice ..| .typeAssert ..| .range ..| .next ..| .entry ..| .mapEntry ..| .entryStore ..=>false| .call c=>match c.callee with
  | .builtin .append| .builtin .copy| .builtin .delete| .builtin .clear=>false|_=>true
 |_=>true
def Zo(P:Program):Op->Bool
 | .call c=>match c.callee with
  | .builtin .len=>match c.argTypes.toList with
   |t::_=>match P.underlying t with
    |some (.map _ _)=>true|_=>false
   | []=>false
  |_=>false
 |_=>false
def U7(P:Program)(s:an):Op->Bool
 | .convert _ d x=>match s.sv x with
  |some (.v (.slice _ _ _))=>true|some (.v (.string _))=>match P.underlying d with
   |some (.slice _)=>true|_=>false
  |_=>false
 |_=>false
def tV(P:Program)(s:an)(o:Oper):Option Value:=
 match Zo P o.op ||U7 P s o.op with
 |true=>none|false=>match known s o,ZC o.op with
  |true,true=>match BK P (execOp s.fF o) with
   |some (.value v)=>some v|_=>none
  |_,_=>none
def ZP{s:an}{a:Act}(h:FitsE s bs a){o:Oper}{v:Value}(e:tV P s o=some v)(w:World):(execOp a.eval o).run P w=.ok (.value v) w:=by unfold tV at e;split at e;cases e;split at e;rename_i h1 h2;split at e;rename_i x h3;cases e;rw[VC h (λcs b e=>by rw[e] at h2;cases h2) h1];exact anp h3 w;cases e;cases e
def Hs:BinOp->Int->Int->Option eb
 | .eql,a,b=>some (.dec (a=b) inferInstance)| .neq,a,b=>some (.qi (a=b) inferInstance)| .lss,a,b=>some (.dec (a<b) inferInstance)| .leq,a,b=>some (.dec (a<=b) inferInstance)| .gtr,a,b=>some (.dec (b<a) inferInstance)| .geq,a,b=>some (.dec (b<=a) inferInstance)|_,_,_=>none
def afF{op:BinOp}{a b:Int}{x:eb}(h:Hs op a b=some x)(P:Program)(t:TypeId)(k:IntKind)(bs:List Nat):
  ∃v,fa bs x=some v/\∀w,(binOp op t (.int k a) (.int k b)).run P w=.ok v w:=by
 cases op<;>simp only[Hs,Option.some.injEq,reduceCtorEq] at h<;>subst h<;>refine⟨_,rfl,λw=>?_⟩
 rw[binOp_eql];rfl
 rw[binOp_neq];rfl
 rw[binOp_lss];rfl
 rw[binOp_leq];rfl
 rw[binOp_gtr];rfl
 rw[binOp_geq];rfl
def ba(x:Int):Prop:= -9223372036854775808<=x/\x<=9223372036854775807
theorem auR{x:Int}(h:ba x):IntKind.i64.wrap x=x:=by
 obtain⟨h1,h2⟩:=h;simp only[IntKind.wrap,IntKind.signed,IntKind.bits]
 grind
def Hj(wrap:Bool)(op:BinOp)(k:IntKind)(a b:Int)(f:Int->Prop):Prop:=
 let r:Option Int:=match op with
  | .add=>some (a+b)| .sub=>some (a-b)| .mul=>some (a*b)|_=>none
 match r with
 |some z=>match k,wrap with
  | .i64,false=>ba z/\f z|k,_=>f (k.wrap z)
 |none=>match op with
  | .quo=>b≠0/\(match k,wrap with
   | .i64,false=>ba (a.tdiv b)/\f (a.tdiv b)|k,_=>f (k.wrap (a.tdiv b)))
  | .rem=>b≠0/\f (a.tmod b)| .shl=>0<=b/\f (k.wrap (a*2 ^ (min b.toNat k.bits)))| .shr=>0<=b/\f (a.fdiv (2 ^ (min b.toNat k.bits)))| .and=>f (bits .and k a b)| .or=>f (bits .or k a b)| .xor=>f (bits .xor k a b)| .andNot=>f (bits .andNot k a b)|_=>False
def aee{wrap:Bool}{op:BinOp}{k:IntKind}{a b:Int}{f:Int->Prop}(h:Hj wrap op k a b f)(P:Program)(t:TypeId)(c7:IntKind)
  (hk:c7=k∨op=.shl∨op=.shr):
  ∃z,f z/\∀w,(binOp op t (.int k a) (.int c7 b)).run P w=.ok (.int k z) w:=by
 have two:∀z,(match k,wrap with| .i64,false=>ba z/\f z|k,_=>f (k.wrap z))->f (k.wrap z):=by intro z aP;cases k<;>cases wrap<;>first|exact aP|(rw[auR aP.1];exact aP.2)
 unfold Hj at h
 cases op<;>simp only[] at h
 case add=>
  obtain rfl:c7=k:=by simpa using hk
  exact⟨_,two _ h,λw=>by rw[binOp_add];rfl⟩
 case sub=>
  obtain rfl:c7=k:=by simpa using hk
  exact⟨_,two _ h,λw=>by rw[binOp_sub];rfl⟩
 case mul=>
  obtain rfl:c7=k:=by simpa using hk
  exact⟨_,two _ h,λw=>by rw[binOp_mul];rfl⟩
 case quo=>
  obtain rfl:c7=k:=by simpa using hk
  exact⟨_,two _ h.2,λw=>by rw[binOp_quo];simp[Op.intDiv,h.1]⟩
 case rem=>
  obtain rfl:c7=k:=by simpa using hk
  exact⟨_,h.2,λw=>by rw[binOp_rem];simp[Op.intDiv,h.1]⟩
 case and=>
  obtain rfl:c7=k:=by simpa using hk
  exact⟨_,h,λw=>by rw[binOp_and,intBits_and];rfl⟩
 case or=>
  obtain rfl:c7=k:=by simpa using hk
  exact⟨_,h,λw=>by rw[binOp_or,intBits_or];rfl⟩
 case xor=>
  obtain rfl:c7=k:=by simpa using hk
  exact⟨_,h,λw=>by rw[binOp_xor,intBits_xor];rfl⟩
 case andNot=>
  obtain rfl:c7=k:=by simpa using hk
  exact⟨_,h,λw=>by rw[binOp_andNot,intBits_andNot];rfl⟩
 case shl=>
  refine⟨_,h.2,λw=>?_⟩;rw[binOp_shl];have:¬b<0:=by omega
  simp[Op.shift,this]
 case shr=>
  refine⟨_,h.2,λw=>?_⟩;rw[binOp_shr];have:¬b<0:=by omega
  simp[Op.shift,this]
end
section
variable{P:Program}{t T e:TypeId}{b off:Nat}{w aw:World}{v:Value}{f:FuncId}{vs:List Value}
structure vK where
 p:Prop
 d:Decidable p
def z1{α:Type}(x:Option α):Decidable (x=none):=
 match x with
 |none=>.isTrue rfl|some _=>.isFalse (by simp)
def Da:Value->Value->Option vK
 | .int k a,.int c7 b=>match tL k c7 with
  |true=>some ⟨a=b,inferInstance⟩|false=>none
 |_,_=>none
def Db:List (Nat×Nat)->Nat->Option Nat
 | [],_=>none|(t,n)::r,x=>match Nat.beq t x with
  |true=>some n|false=>Db r x
def ti:List Value->List Value->Option vK
 | [],[]=>some ⟨True,inferInstance⟩| [x],[y]=>Da x y|x::xs,y::cM=>match Da x y,ti xs cM with
  |some a,some b=>some ⟨a.p/\b.p,@instDecidableAnd a.p b.p a.d b.d⟩|_,_=>none
 |_,_=>none
def Hm:eb->Option Bool
 | .v (.bool b)=>some b| .hB=>some true| .hr=>some false| .dec p d=>some (@decide p d)| .qi p d=>some (!@decide p d)|_=>none
def QH:BinOp->Bool
 | .shl=>true| .shr=>true|_=>false
def Dc(C:iB)(t:TypeId):eb->eb->Option vK
 | .v (.pointer p),.v (.pointer none)=>match C.P.underlying t with
  |some (.pointer _)=>some ⟨p=none,z1 p⟩|_=>none
 | .ptr _,.v (.pointer none)=>match C.P.underlying t with
  |some (.pointer _)=>some ⟨False,inferInstance⟩|_=>none
 | .v (.slice a _ _),.v (.slice none _ _)=>match C.P.underlying t with
  |some (.slice _)=>some ⟨a=none,z1 a⟩|_=>none
 | .v (.map a),.v (.map none)=>match C.P.underlying t with
  |some (.map _ _)=>some ⟨a=none,z1 a⟩|_=>none
 | .v (.agg xs),.v (.agg cM)=>match Db C.gB t with
  |some n=>match Nat.beq xs.toList.length n,Nat.beq cM.toList.length n with
   |true,true=>ti xs.toList cM.toList|_,_=>none
  |none=>none
 | .v (.string x),.v (.string y)=>some ⟨x.toList=y.toList,inferInstance⟩|x,y=>match Hm x,Hm y,C.P.underlying t with
  |some a,some b,some .bool=>some ⟨a=b,inferInstance⟩|_,_,_=>none
def _root_.Go.Addr.at'(p:Addr):Nat->Addr
 |0=>p|i+1=>p.add (i+1)
def Js(u:H)(p:Addr):Nat->List al->(List Value->Prop)->Prop
 |_,[],f=>f []|i,t::bY,f=>∃x:t.den,u.cell? (p.at' i)=some (t.enc x)/\Js u p (i+1) bY λvs=>f (t.enc x::vs)
def aF.mk:aF->List Value->Value
 | .one _,v::_=>v| .one _,[]=>.tuple #[]| .agg _,vs=>.agg vs.toArray
def wr:Array Value->Nat->List Value->Array Value
 |c,_,[]=>c|c,o,v::vs=>wr (c.setIfInBounds o v) (o+1) vs
def H.an(u:H)(p:Addr)(vs:List Value)(f:H->Prop):Prop:=
 ∃(c:Array Value) (T:TypeId),u p.block=some (.cells c T (0,0))/\p.spot=none/\p.off+vs.length<=c.size/\(∀v∈vs,v.oneCell'=true)/\
  f (u.ins p.block (.cells (wr c p.off vs) T (0,0)))
def over(cs:List Value)(off:Nat)(vs:List Value):List Value:=cs.take off++vs++cs.drop (off+vs.length)
def Fs:List Value->Bool
 | []=>true|v::vs=>v.oneCell' && Fs vs
def px{α:Type}:List α->Nat->α->List α
 | [],_,_=>[]|_::xs,0,y=>y::xs|x::xs,i+1,y=>x::px xs i y
def Fq(P:Program)(t:TypeId)(f:Nat):Option Nat:=
 match P.underlying t with
 |some (.struct aB)=>match aB[f]? with
  |some g=>match sK P g.type with
   |some (_+1)=>some g.offset|_=>none
  |none=>none
 |_=>none
def eM(l:List Nat)(x:Nat):Bool:=l.any (Nat.beq x)
def Gf(s:an)(xs:Array Operand):Option (List Value):=xs.toList.mapM s.val
def fQ(P:Program)(fv:Value)(args:Array Value)(ss:List aF)(u:H)(K:fo (eW ss) (H->Prop)):Prop:=
 ∃f pre cap,fv=.func (.func f) pre cap/\(∃fn,P.funcs[f]?=some fn/\fn.body.isSome=true)/\fW P f (pre++args++cap) ss u K
def vE(P:Program)(fv:Value)(args:Array Value)(ss:List aF)(u:H)(K:fo (eW ss) (H->Prop)):Prop:=
 ∃l,fv=.func (.yield l) #[] #[]/\∀w,Sub u w->YieldAt Fence.wide 0 P l args w λe aw=>∃v u',e=.returned v/\(∃vs,lC (eW ss) vs/\v=qI ss vs/\fr (eW ss) K vs λr=>r u')/\Step u [] w u' [] aw
def mc(P:Program)(fv:Value)(args:Array Value)(ss:List aF)(u:H)(K:fo (eW ss) (H->Prop)):Prop:=fQ P fv args ss u K∨vE P fv args ss u K
def lB(P:Program)(recv:Value)(name:String)(args:Array Value)(ss:List aF)(u:H)(K:fo (eW ss) (H->Prop)):Prop:=
 ∃t v f r,recv=.iface t v/\(∀w,Sub u w->(method (P.types.size+Made.depth) t v name).run P w=.ok (f,r) w)/\
  (∃fn,P.funcs[f]?=some fn/\fn.body.isSome=true)/\fW P f (#[r]++args) ss u K
def rS(f:FuncId)(args:Array Value):Sem Value:=do
 match <-callFunc f args with
 | .value v=>pure v|_=>stuck "callX"
def unit(m:Sem Unit):Sem Value:=do
 m
 pure undef
def fi(P:Program)(f:FuncId):Bool:=
 match P.funcs[f]? with
 |some fn=>fn.body.isSome|none=>false
def Zy(P:Program)(f:FuncId):Bool:=
 match P.funcs[f]? with
 |some fn=>fn.body.isNone|none=>false
def y7(s:an)(o:Oper):Option (Sem Value):=
 match o.op with
 | .lookup t x i ok=>some (Instr.lookup t (s.fF x) (s.fF i) ok)| .mapUpdate t m k x=>some (unit (Instr.mapUpdate t (s.fF m) (s.fF k) (s.fF x)))| .insert t m k x=>some (unit (Instr.mapUpdate t (s.fF m) (s.fF k) (s.fF x)))| .makeMap t none=>some (Instr.makeMap t none)| .makeMap t (some r)=>some (Instr.makeMap t (some (s.fF r)))| .makeSlice t l c=>some (Instr.makeSlice t (s.fF l) (s.fF c))| .slice t x bz hi Bx=>some (Instr.sliceAt t (s.fF x) (bz.map s.fF) (hi.map s.fF) (Bx.map s.fF))| .index t x i=>some (Instr.index t (s.fF x) (s.fF i))| .convert a b x=>some (Go.convert a b (s.fF x))| .buildSlice t n bZ=>some (Instr.buildSlice t n (bZ.map λ(i,x)=>(i,s.fF x)))| .typeAssert x a b ok=>some (Instr.typeAssert (s.fF x) a b ok)| .range t x=>some (Instr.range t (s.fF x))| .next i str=>some (Instr.next (s.fF i) str o.type)| .entry i=>some (Instr.entry (s.fF i))| .mapEntry t m k=>some (Instr.mapEntry t (s.fF m) (s.fF k))| .entryStore t m k x=>some (unit (Instr.entryStore t (s.fF m) (s.fF k) (s.fF x)))| .call c=>match c.callee with
  | .builtin .append=>some (Builtin.append_ c.argTypes o.type (c.args.map s.fF))| .builtin .copy=>some (Builtin.copy_ c.argTypes o.type (c.args.map s.fF))| .builtin .delete=>some (Builtin.delete_ c.argTypes o.type (c.args.map s.fF))| .builtin .len=>some (Builtin.len_ c.argTypes o.type (c.args.map s.fF))| .builtin .max=>some (Builtin.max_ c.argTypes o.type (c.args.map s.fF))| .builtin .min=>some (Builtin.min_ c.argTypes o.type (c.args.map s.fF))| .builtin .clear=>some (Builtin.clear_ c.argTypes o.type (c.args.map s.fF))| .value (.func f)=>some (rS f (c.args.map s.fF))|_=>none
 |_=>none
def isUnit:Op->Bool
 | .mapUpdate ..| .insert ..| .entryStore ..=>true| .call c=>match c.callee with
  | .builtin .delete| .builtin .clear=>true|_=>false
 |_=>false
def aoq(P:Program)(o:Oper):Option (List aF):=
 match isUnit o.op with
 |true=>some []|false=>match o.op with
  | .alloc _| .buildSlice _ _ _=>FV P o.type|_=>FV P o.type
def o5(s:an)(dst:Option Tmp)(ss:List aF)(K:an->H->Prop):fo (eW ss) (H->Prop):=
 E6 (eW ss) λvs u'=>K (s.put dst (.v (qI ss vs))) u'
def other(C:iB)(s:an)(o:Oper)(u:H)(K:an->H->Prop):Prop:=
 match tV C.P s o with
 |some v=>K (s.put o.dst (.v v)) u|none=>match known s o,y7 s o,aoq C.P o with
  |true,some m,some ss=>cx C.P m ss u (o5 s o.dst ss K)|_,_,_=>False
def CJ(v:Value)(b:Bool):Prop:=v=.nilIface/\b=true∨(∃t w,v=.iface t w)/\b=false
def ad3(v:Value)(b:Bool):Prop:=CJ v (!b)
def Uj(op:BinOp)(v:Value)(f:Bool->Prop):Prop:=
 match op with
 | .eql=>∃b:Bool,CJ v b/\f b|_=>∃b:Bool,ad3 v b/\f b
def JH(P:Program)(op:BinOp)(t:TypeId):Operand->Bool
 | .const .nilIface=>match P.underlying t with
  |some (.interface _)=>match op with
   | .eql=>true| .neq=>true|_=>false
  |_=>false
 |_=>false
def cat(x y:ByteArray):ByteArray:=x++y
def rr(C:iB)(aY:Nat->Bool)(s:an)(o:Oper)(u:H)(K:an->H->Prop):Prop:=
 match o.op with
 | .move x=>match s.sv x with
  |some y=>K (s.put o.dst y) u|none=>False
 | .assign x=>match s.sv x with
  |some y=>K (s.put o.dst y) u|none=>False
 | .pick c a b=>match s.sv c,s.sv a,s.sv b with
  |some .hB,some y,_=>K (s.put o.dst y) u|some .hr,_,some y=>K (s.put o.dst y) u|some (.dec p _),some y,some z=>(p->K (s.put o.dst y) u)/\(¬p->K (s.put o.dst z) u)|some (.qi p _),some y,some z=>(¬p->K (s.put o.dst y) u)/\(p->K (s.put o.dst z) u)|_,_,_=>False
 | .binOp op t x y _=>match JH C.P op t y with
  |true=>match s.val x with
   |some v=>Uj op v λb=>K (s.put o.dst (.v (.bool b))) u|none=>False
  |false=>match s.sv x,s.sv y with
   |some (.v (.int k a)),some (.v (.int c7 b))=>match Hs op a b with
    |some z=>match tL c7 k with
     |true=>K (s.put o.dst z) u|false=>False
    |none=>match QH op ||tL c7 k with
     |true=>Hj C.wrap op k a b λz=>K (s.put o.dst (.v (.int k z))) u|false=>False
   |some a,some b=>match op with
    | .eql=>match Dc C t a b with
     |some z=>K (s.put o.dst (.dec z.p z.d)) u|none=>False
    | .neq=>match Dc C t a b with
     |some z=>K (s.put o.dst (.qi z.p z.d)) u|none=>False
    | .add=>match a,b with
     | .v (.string x),.v (.string y)=>x.size+y.size<=9223372036854775807/\K (s.put o.dst (.v (.string (cat x y)))) u|_,_=>other C s o u K
    |_=>other C s o u K
   |_,_=>False
 | .unOp .not _ x=>match s.sv x with
  |some .hB=>K (s.put o.dst .hr) u|some .hr=>K (s.put o.dst .hB) u|some (.dec p d)=>K (s.put o.dst (.qi p d)) u|some (.qi p d)=>K (s.put o.dst (.dec p d)) u|some (.v (.bool b))=>K (s.put o.dst (.qi (b=true) inferInstance)) u|_=>False
 | .unOp .neg _ x=>match s.sv x with
  |some (.v (.int .u32 m))=>K (s.put o.dst (.v (.int .u32 (IntKind.wrap .u32 (0-m))))) u|_=>other C s o u K
 | .unOp .xor _ x=>match s.sv x with
  |some (.v (.int .u32 m))=>K (s.put o.dst (.v (.int .u32 (bits .xor .u32 4294967295 m)))) u|_=>other C s o u K
 | .load t x=>match s.sv x,nj C.P t with
  |some (.loc i off),some ax=>match s.loc[i]? with
   |some cs=>match Nat.ble (off+ax.fS.length) cs.length with
    |true=>K (s.put o.dst (.v (ax.mk ((cs.drop off).take ax.fS.length)))) u|false=>False
   |none=>False
  |some (.ptr p),some ax=>Js u p 0 ax.fS λvs=>K (s.put o.dst (.v (ax.mk vs))) u|_,_=>False
 | .store t x y=>match s.sv x,s.val y,nj C.P t with
  |some (.loc i off),some v,some ax=>match s.loc[i]?,aY i,Nat.beq v.cells.size ax.fS.length,Fs v.cells.toList with
   |some cs,true,true,true=>match Nat.ble (off+ax.fS.length) cs.length with
    |true=>K ({s with loc:=px s.loc i (over cs off v.cells.toList)}.drop o.dst) u
    |false=>False
   |_,_,_,_=>False
  |some (.ptr p),some v,some ax=>match Nat.beq v.cells.size ax.fS.length with
   |true=>u.an p v.cells.toList λu'=>K (s.drop o.dst) u'|false=>False
  |_,_,_=>False
 | .alloc t=>match zeroOf C.P t,o.dst with
  |some cs,some d=>match eM C.exp d with
   |true=>∀b,u b=none->K (s.put (some d) (.ptr ⟨b,0,none⟩)) (u.ins b (.cells cs.toArray t (0,0)))|false=>K ({s with loc:=s.loc++ [cs]}.put (some d) (.loc s.loc.length 0)) u
  |_,_=>False
 | .box t x=>match s.val x,o.dst with
  |some v,some d=>match eM C.exp d with
   |true=>∀b,u b=none->K (s.put (some d) (.ptr ⟨b,0,none⟩)) (u.ins b (.cells v.cells.toList.toArray t (0,0)))|false=>K ({s with loc:=s.loc++ [v.cells.toList]}.put (some d) (.loc s.loc.length 0)) u
  |_,_=>False
 | .nilCheck x=>match s.sv x with
  |some (.loc i off)=>K (s.put o.dst (.loc i off)) u|some (.ptr p)=>K (s.put o.dst (.ptr p)) u|some (.v (.pointer q))=>∃p,q=some p/\K (s.put o.dst (.ptr p)) u|_=>False
 | .fieldAddr t x f=>match s.sv x,Fq C.P t f with
  |some (.loc i off),some n=>K (s.put o.dst (.loc i (off+n))) u|some (.ptr p),some n=>K (s.put o.dst (.ptr (p.at' n))) u|_,_=>False
 | .indexAddr t x bc=>match C.P.underlying t with
  |some (.slice e)=>match s.sv x,s.sv bc,sK C.P e with
   |some (.v (.slice a n _)),some (.v (.int _ i)),some fG=>∃p,a=some p/\(0<=i/\i<n)/\K (s.put o.dst (.ptr (p.add (i.toNat*fG)))) u|_,_,_=>False
  |some (.array len e)=>match s.sv x,s.sv bc,sK C.P e with
   |some (.loc j off),some (.v (.int _ (.ofNat m))),some (fG+1)=>match Nat.blt m len with
    |true=>K (s.put o.dst (.loc j (off+m*(fG+1)))) u|false=>False
   |some (.ptr p),some (.v (.int _ i)),some fG=>2<=len/\(0<=i/\i<len)/\K (s.put o.dst (.ptr (p.add (i.toNat*fG)))) u|_,_,_=>False
  |_=>False
 | .call c=>match Gf s c.args,FV C.P o.type with
  |some vs,some ss=>match c.callee with
   | .value (.func f)=>match fi C.P f with
    |true=>fW C.P f vs.toArray ss u (o5 s o.dst ss K)|false=>match Zy C.P f with
     |true=>cx C.P (rS f vs.toArray) ss u (o5 s o.dst ss K)|false=>False
   | .value x=>match s.sv x with
    |some (.v fv)=>fQ C.P fv vs.toArray ss u (o5 s o.dst ss K)|_=>False
   | .invoke x name=>match s.sv x with
    |some (.v r)=>lB C.P r name vs.toArray ss u (o5 s o.dst ss K)|_=>False
   | .builtin _=>other C s o u K
  |_,_=>False
 |_=>other C s o u K
variable [k1]
structure Good(C:iB):Prop where
 Fh:∀(f:FuncId) (fn:Func),C.P.funcs[f]?=some fn->(fn.name== "runtime.NumGoroutine")=false
 mixed:C.P.follows .mixedOrders=true
 eq:∀t n,Db C.gB t=some n->∀xs cM z,xs.toList.length=n->cM.toList.length=n->ti xs.toList cM.toList=some z->∀(x y:Operand) (w:World),
  (eqGuard .eql t x y (.agg xs) (.agg cM)).run C.P w=.ok () w/\(eqGuard .neq t x y (.agg xs) (.agg cM)).run C.P w=.ok () w/\
  (Op.equal t (.agg xs) (.agg cM)).run C.P w=.ok (@decide z.p z.d) w
structure Kept(aY:Nat->Bool)(s s':an):Prop where
 n:s'.n=s.n
 len:s.loc.length<=s'.loc.length
 same:∀i cs,s.loc[i]?=some cs->aY i=false->s'.loc[i]?=some cs
def Kept.refl(aY:Nat->Bool)(s:an):Kept aY s s:=⟨rfl,Nat.le_refl _,λ_ _ h _=>h⟩
def Kept.trans{aY:Nat->Bool}{a b c:an}(h:Kept aY a b)(k:Kept aY b c):Kept aY a c:=
 ⟨k.n.trans h.n,Nat.le_trans h.len k.len,λi cs e w=>k.same i cs (h.same i cs e w) w⟩
theorem j6(s:an)(d:Option Tmp)(x:eb):(s.put d x).loc=s.loc/\(s.put d x).n=s.n:=by
 cases d with
 |none=>exact⟨rfl,rfl⟩|some d=>simp only[an.put];grind
def M8(s:an)(d:Option Tmp):(s.drop d).loc=s.loc/\(s.drop d).n=s.n:=by cases d<;>exact⟨rfl,rfl⟩
def Kept.put(aY:Nat->Bool)(s:an)(d:Option Tmp)(x:eb):Kept aY s (s.put d x):=
 ⟨(j6 s d x).2,by rw[(j6 s d x).1];exact Nat.le_refl _,λi cs h _=>by rw[(j6 s d x).1];exact h⟩
def Kept.drop(aY:Nat->Bool)(s:an)(d:Option Tmp):Kept aY s (s.drop d):=
 ⟨(M8 s d).2,by rw[(M8 s d).1];exact Nat.le_refl _,λi cs h _=>by rw[(M8 s d).1];exact h⟩
def jE(aY:Nat->Bool)(K:an->H->Prop)(s:an)(bs:List Nat)(u:H)(a:Act)(w:World)(dst:Option Tmp)(b3:Act)(aw:World):Prop:=
 ∃s' u' cd v,K s' u'/\Fits s' cd u' b3 aw/\Step u bs w u' cd aw/\b3=a.put dst v/\Kept aY s s'
section
variable {C:iB} {aY:Nat->Bool} {s:an} {o:Oper} {u:H} {K:an->H->Prop} {bs:List Nat} {a:Act} {w:World} {Q:Exit->Act->World->Prop}
def tT{y:eb}(M:Fits s bs u a w)(W:(execOp a.eval o).run C.P w=.ok (.value v) w)(E:fa bs y=some v)(hk:K (s.put o.dst y) u):
  o.wp C.P a w (jE aY K s bs u a w o.dst) Q:=by
 unfold Oper.wp
 rw[W]
 exact⟨_,u,bs,v,hk,M.put o.dst E,Step.refl M.sub,rfl,Kept.put aY s o.dst y⟩
def Fp{u':H}(M:Fits s bs u a w)(W:(execOp a.eval o).run C.P w=.ok (.value v) aw)(hs:Step u [] w u' [] aw)(hk:K (s.put o.dst (.v v)) u'):
  o.wp C.P a w (jE aY K s bs u a w o.dst) Q:=by
 unfold Oper.wp
 rw[W]
 exact⟨_,u',bs,v,hk,(M.step hs).put o.dst (x:=.v v) rfl,hs.DX bs,rfl,Kept.put aY s o.dst _⟩
def nr(C:iB)(s:an)(o:Oper)(u:H)(K:an->H->Prop)(bs:List Nat)(a:Act):Prop:=
 ∃y v,K (s.put o.dst y) u/\fa bs y=some v/\∀w,(execOp a.eval o).run C.P w=.ok (.value v) w
def j4(M:Fits s bs u a w)(h:nr C s o u K bs a):o.wp C.P a w (jE aY K s bs u a w o.dst) Q:=by obtain⟨y,v,hk,E,W⟩:=h;exact tT M (W w) E hk
def G4(C:iB)(s:an)(o:Oper)(u:H)(K:an->H->Prop)(bs:List Nat)(a:Act):Prop:=
 ∃y v,K (s.put o.dst y) u/\fa bs y=some v/\∀w,gV s.loc bs u w->(execOp a.eval o).run C.P w=.ok (.value v) w
def ZE(M:Fits s bs u a w)(h:G4 C s o u K bs a):o.wp C.P a w (jE aY K s bs u a w o.dst) Q:=by obtain⟨y,v,hk,E,W⟩:=h;exact tT M (W w M.w) E hk
def Rp{m:Sem Value}{ss:List aF}(M:Fits s bs u a w)(h:cx C.P m ss u (o5 s o.dst ss K))
  (W:∀v aw,m.run C.P w=.ok v aw->(execOp a.eval o).run C.P w=.ok (.value v) aw∨(execOp a.eval o).run C.P w=.ok .skip aw/\v=undef):
  o.wp C.P a w (jE aY K s bs u a w o.dst) Q:=by
 obtain⟨v,aw,u',e,⟨vs,av,rfl,ae⟩,hs⟩:=h w M.sub
 have mS:K (s.put o.dst (.v (qI ss vs))) u':=(Gd av _).1 ae
 rcases W _ _ e with h1|⟨h1,h2⟩
 exact Fp M h1 hs mS
 unfold Oper.wp
 rw[h1]
 rw[h2] at mS
 exact⟨_,u',bs,undef,mS,(M.step hs).put o.dst (x:=.v undef) rfl,hs.DX bs,rfl,Kept.put aY s o.dst _⟩
def Ro{args:Array Value}{ss:List aF}(M:Fits s bs u a w)(h:fW C.P f args ss u (o5 s o.dst ss K))
  (W:(execOp a.eval o).run C.P w=.ok (.enter f args) w):o.wp C.P a w (jE aY K s bs u a w o.dst) Q:=by
 unfold Oper.wp
 rw[W]
 refine(h w M.sub).mono ?_
 rintro e aw ⟨v,u',rfl,⟨vs,av,rfl,ae⟩,hs⟩
 have mS:K (s.put o.dst (.v (qI ss vs))) u':=(Gd av _).1 ae
 exact⟨_,u',bs,_,mS,(M.step hs).put o.dst (x:=.v _) rfl,hs.DX bs,rfl,Kept.put aY s o.dst _⟩
theorem acd(M:FitsE s bs a){xs:Array Operand}(h:Gf s xs=some vs):xs.map a.eval=vs.toArray:=by
 unfold Gf at h;have key:∀(l:List Operand) (vs:List Value),l.mapM s.val=some vs->l.map a.eval=vs:=by
  intro l;induction l with
  |nil=>grind|cons x l aG=>intro vs h;simp only[List.mapM_cons,Option.bind_eq_bind,Option.bind_eq_some_iff,Option.pure_def,Option.some.injEq] at h;obtain⟨y,af,cM,Qy,rfl⟩:=h;simp only[List.map_cons,aG cM Qy,M.val af]
 grind
theorem WA(h:fi P f=true):∃fn,P.funcs[f]?=some fn/\fn.body.isSome=true:=by
 unfold fi at h
 grind
def Hp(dW:Good C)(h:∃fn,C.P.funcs[f]?=some fn/\fn.body.isSome=true)(args:Array Value)(w:World):
  (callFunc f args).run C.P w=.ok (.enter f args) w:=by
 obtain⟨fn,e,Z⟩:=h
 have h1:=dW.Fh f fn e
 obtain⟨b,dJ⟩:=Option.isSome_iff_exists.1 Z
 simp only[callFunc,Sem.run_bind,program,Sem.run,Result.andThen_ok,e]
 simp[h1,dJ]
theorem aop(hs:∀cs b,o.op≠.select cs b)(M:FitsE s bs a)(hk:known s o=true){m:Sem Value}(hm:y7 s o=some m)(W:m.run C.P w=.ok v aw):
  (execOp a.eval o).run C.P w=.ok (.value v) aw∨(execOp a.eval o).run C.P w=.ok .skip aw/\v=undef:=by
 have hu:∀x:Sem Unit,(unit x).run C.P w=.ok v aw->(do x;pure Next.skip:Sem Next).run C.P w=.ok .skip aw/\v=undef:=by
  intro x I;simp only[unit,Sem.run_bind] at I ⊢;cases YA:x.run C.P w with
  |ok z ea=>
   simp_all|halt z ea=>simp_all
 have av:∀x:Sem Value,x.run C.P w=.ok v aw->(do pure (Next.value (<-x)):Sem Next).run C.P w=.ok (.value v) aw:=by simp_all
 rw[VC M hs hk]
 unfold y7 at hm
 unfold execOp
 split at hm
 all_goals try(rename_i e;rw[e];cases hm;simp only[])
 case _=>exact .inl (av _ W)
 case _=>exact .inr (hu _ W)
 case _=>exact .inr (hu _ W)
 case _=>exact .inl (av _ W)
 case _=>exact .inl (av _ W)
 case _=>exact .inl (av _ W)
 case _=>exact .inl (av _ W)
 case _=>exact .inl (av _ W)
 case _=>exact .inl (av _ W)
 case _=>exact .inl (av _ W)
 case _=>exact .inl (av _ W)
 case _=>exact .inl (av _ W)
 case _=>exact .inl (av _ W)
 case _=>exact .inl (av _ W)
 case _=>exact .inl (av _ W)
 case _=>exact .inr (hu _ W)
 case _ c e=>
  rw[e];simp only[];split at hm
  all_goals try(rename_i E;cases hm;left;simp only[resolve,E,pure_bind,invoke,builtin];exact av _ W)
  rename_i f E;cases hm;left;simp only[resolve,E,an.fF,an.val,an.sv,Option.bind_some,eb.val,Option.getD_some,Deferred.ofValue,pure_bind,invoke,Array.append_empty,Array.empty_append];simp only[rS,Sem.run_bind] at W;cases I:(callFunc f (Array.map s.fF c.args)).run C.P w with
  |halt z ea=>rw[I] at W;simp at W|ok z ea=>
   rw[I] at W;simp only[Result.andThen_ok] at W;cases z<;>simp only[] at W<;>first
    |(have PO:Result.ok _ ea=Result.ok v aw:=W;cases PO;rfl)
    |(simp[stuck] at W)
  cases hm
 case _=>cases hm
def ZH(hs:∀cs b,o.op≠.select cs b)(M:Fits s bs u a w)(h:other C s o u K):o.wp C.P a w (jE aY K s bs u a w o.dst) Q:=by unfold other at h;split at h;rename_i v e;exact tT (y:=.v v) M (ZP M.toFitsE e w) rfl h;split at h;rename_i hk hm eG;exact Rp M h λv aw W=>aop hs M.toFitsE hk hm W;exact h.elim
def UB(p:Addr)(i:Nat):p.at' i=p.add i:=by
 cases i with
 |zero=>simp[Addr.at',Addr.add]|succ i=>rfl
theorem alQ{p:Addr}:∀(bY:List al) (i:Nat) (f:List Value->Prop),Js u p i bY f->
  ∃vs,lC bY vs/\f vs/\∀w acc,Sub u w->(loadCellsFrom p i bY.length acc).run P w=.ok (acc++vs.toArray) w:=by
 intro bY
 induction bY with
 |nil=>intro i f h;exact⟨[],.nil,h,λw acc _=>by simp[loadCellsFrom]⟩
 |cons t bY aG=>
  intro i f h;obtain⟨x,I,W⟩:=h;obtain⟨vs,hk,DV,lV⟩:=aG (i+1) _ W;refine⟨t.enc x::vs,.cons x hk,DV,λw acc gH=>?_⟩;rw[UB] at I;have h1:=gH.cell I;simp only[List.length_cons,loadCellsFrom,Sem.run_bind,load,Sem.run,h1,Result.andThen_ok]
  simp_all
def alE{bY:List al}(h:lC bY vs):vs.length=bY.length:=by
 induction h with
 |nil=>rfl|cons _ _ aG=>simp[aG]
theorem Si{ax:aF}(h:nj P t=some ax):
  ∃i d,P.info? t=some i/\P.underlying t=some d/\i.size=ax.fS.length/\
   (∀w,(isAgg t).run P w=.ok (match ax with| .one _=>false| .agg _=>true) w):=by
 unfold nj at h
 split at h
 rename_i i hi
 split at h
 rename_i cs d aP aj
 split at h
 rename_i ap Z
 cases h
 refine⟨i,d,hi,by assumption,?_,?_⟩
 have:=Nat.eq_of_beq_eq_true Z;simp[aF.fS,this]
 intro w
 unfold nt at ap
 rw[aj] at ap
 simp only[isAgg,Sem.run_bind,underlying,program,Sem.run,Result.andThen_ok,aj]
 cases d<;>simp_all
 cases h
 rename_i z d _ _ _
 have aj:P.underlying t=some d:=by assumption
 split at h
 rename_i ap Z
 cases h
 refine⟨i,d,hi,by assumption,?_,?_⟩
 have:=Nat.eq_of_beq_eq_true Z;simp[aF.fS,<-this]
 intro w
 unfold nt at ap
 rw[aj] at ap
 simp only[isAgg,Sem.run_bind,underlying,program,Sem.run,Result.andThen_ok,aj]
 cases d<;>simp_all
 cases h
 cases h
 cases h
def FW{i:TypeInfo}(h:P.info? t=some i)(w:World):(sizeOf t).run P w=.ok i.size w:=by simp[sizeOf,typeInfo,program,Sem.run,h]
def Br{ax:aF}(h:nj P t=some ax)(p:Addr)(hk:vs.length=ax.fS.length)
  (W:(loadCellsFrom p 0 ax.fS.length #[]).run P w=.ok vs.toArray w) (hw:∀c,ax=.one c->∃v,vs=[v]/\w.cell? p=some v):
  (loadVar t p).run P w=.ok (ax.mk vs) w:=by
 obtain⟨i,d,hi,aj,cA,ap⟩:=Si h
 unfold loadVar
 rw[Sem.run_bind,ap]
 cases ax with
 |one c=>obtain⟨v,rfl,av⟩:=hw c rfl;simp[load,Sem.run,av,aF.mk]
 |agg cs=>simp only[Result.andThen_ok,if_true,Sem.run_bind,FW hi,loadCells,cA];rw[W];simp[aF.mk]
structure o2(b:Nat)(o:Obj)(w aw:World):Prop where
 at_:aw.heap[b]?=some o
 size:aw.heap.size=w.heap.size
 os:aw.os=w.os
 tape:aw.tape=w.tape
 output:aw.output=w.output
 drawn:w.drawn<=aw.drawn
 rest:∀x,x≠b->aw.heap[x]?=w.heap[x]?
def o2.refl{o:Obj}(h:w.heap[b]?=some o):o2 b o w w:=⟨h,rfl,rfl,rfl,rfl,Nat.le_refl _,λ_ _=>rfl⟩
def o2.trans{o bn:Obj}{Gk:World}(h:o2 b o w aw)(k:o2 b bn aw Gk):o2 b bn w Gk:=
 ⟨k.at_,k.size.trans h.size,k.os.trans h.os,k.tape.trans h.tape,k.output.trans h.output,Nat.le_trans h.drawn k.drawn,λx I=>(k.rest x I).trans (h.rest x I)⟩
theorem o2.setCell{c:Array Value}(h:w.heap[b]?=some (.cells c T (0,0)))(v:Value):
  o2 b (.cells (c.setIfInBounds off v) T (0,0)) w (w.setCell ⟨b,off,none⟩ v):=by
 refine⟨?_,by simp[World.setCell],rfl,rfl,rfl,Nat.le_refl _,λx I=>?_⟩
 simp only[World.setCell,Array.getElem?_modify,if_true,h,Option.map_some]
 simp
 simp only[World.setCell,Array.getElem?_modify]
 grind
theorem SF:∀(vs:List Value) (i:Nat) (c:Array Value) (w:World),w.heap[b]?=some (.cells c T (0,0))->
  off+i+vs.length<=c.size->(∀v∈vs,v.oneCell'=true)->∃aw,(storeCells ⟨b,off,none⟩ vs i).run P w=.ok () aw/\o2 b (.cells (wr c (off+i) vs) T (0,0)) w aw:=by
 intro vs
 induction vs with
 |nil=>intro i c w h _ _;exact⟨w,rfl,.refl h⟩
 |cons v vs aG=>
  intro i c w h ai h1;simp only[List.length_cons] at ai;have hw:=o2.setCell (off:=off+i) h v;obtain⟨aw,W,jm⟩:=aG (i+1) _ _ hw.at_ (by simp;omega) (λx I=>h1 x (.tail _ I));refine⟨aw,?_,?_⟩;have ap:(⟨b,off,none⟩:Addr).add i=⟨b,off+i,none⟩:=by unfold Addr.add;split<;>simp_all
  have E:w.cell? ⟨b,off+i,none⟩=some c[off+i]:=by simp only[World.cell?,h];simp[Array.getElem?_eq_getElem (show off+i<c.size by omega)]
  have Iq:w.frozen? ⟨b,off+i,none⟩=false:=by simp[World.frozen?,h]
  simp only[storeCells,Sem.run_bind,ap];rw[run_store P w _ v _ (h1 v (.head _)),E]
  simp_all
  have:=hw.trans jm;simpa[wr,Nat.add_assoc] using this
theorem abK{i:TypeInfo}(hi:P.info? t=some i)(cA:v.cells.size=i.size){c:Array Value}
  (h:w.heap[b]?=some (.cells c T (0,0))) (ai:off+v.cells.toList.length<=c.size) (h1:∀x∈v.cells.toList,x.oneCell'=true):
  ∃aw,(storeVar t ⟨b,off,none⟩ v).run P w=.ok () aw/\o2 b (.cells (wr c off v.cells.toList) T (0,0)) w aw:=by
 obtain⟨aw,W,hw⟩:=SF (P:=P) (off:=off) v.cells.toList 0 c w h (by simpa using ai) h1
 refine⟨aw,?_,by simpa using hw⟩
 unfold storeVar
 rw[Sem.run_bind,FW hi]
 simp_all
theorem Zi{cs:List Value}(h:w.heap[b]?=some (.cells cs.toArray T (0,0))):∀(n i:Nat) (acc:Array Value),
  off+i+n<=cs.length->(loadCellsFrom ⟨b,off,none⟩ i n acc).run P w=.ok (acc++((cs.drop (off+i)).take n).toArray) w:=by
 intro n
 induction n with
 |zero=>intro i acc _;simp[loadCellsFrom]
 |succ n aG=>
  intro i acc ai;have ap:(⟨b,off,none⟩:Addr).add i=⟨b,off+i,none⟩:=by unfold Addr.add;split<;>simp_all
  have bh:off+i<cs.length:=by omega
  have E:w.cell? ⟨b,off+i,none⟩=some cs[off+i]:=by simp only[World.cell?,h];simp[bh]
  simp only[loadCellsFrom,Sem.run_bind,load,Sem.run,ap,E,Result.andThen_ok];rw[aG (i+1) _ (by omega)];rw[List.drop_eq_getElem_cons bh,List.take_succ_cons,<-Nat.add_assoc];simp
theorem Fits.amE(M:Fits s bs u a w)(cs:List Value)(T:TypeId):
  Fits {s with loc:=s.loc++ [cs]} (bs++ [w.heap.size]) u a (w.alloc (.cells cs.toArray T (0,0)))/\
  Step u bs w u (bs++ [w.heap.size]) (w.alloc (.cells cs.toArray T (0,0))):=by
 have kU:∀(b:Nat) (o:Obj),w.heap[b]?=some o->(w.alloc (.cells cs.toArray T (0,0))).heap[b]?=some o:=by
  intro b o e;have bh:b<w.heap.size:=by grind
  show(w.heap.push _)[b]?=_;rw[Array.getElem?_push,if_neg (by omega)];exact e
 refine⟨⟨⟨M.defers,M.n,?_⟩,by simp[M.len],?_,?_,?_,λb o e=>kU b o (M.sub b o e)⟩,⟨λb o e=>kU b o (M.sub b o e),rfl,rfl,rfl,Nat.le_refl _,by simp_all,?_,λ_ _ e=>e,[w.heap.size],rfl,by simp⟩⟩
 intro p aa
 obtain⟨v,h1,h2⟩:=M.env p aa
 refine⟨v,?_,h2⟩
 cases I:p.2<;>rw[I] at h1<;>first|exact h1|skip
 rename_i i off
 simp only[fa] at h1 ⊢
 grind
 intro i xB e
 rcases Nat.lt_or_ge i s.loc.length with k|k
 rw[List.getElem?_append_left k] at e
 obtain⟨b,T',h1,h2⟩:=M.loc i xB e
 grind
 rw[List.getElem?_append_right k] at e
 have hi:i=s.loc.length:=by grind
 subst hi
 simp only[Nat.sub_self,List.getElem?_cons_zero,Option.some.injEq] at e
 subst e
 refine⟨w.heap.size,T,by rw[<-M.len];simp,?_⟩
 show(w.heap.push _)[w.heap.size]?=_
 simp
 rw[List.nodup_append]
 refine⟨M.nodup,by simp,?_⟩
 intro x I y af
 simp only[List.mem_singleton] at af
 subst af
 have:=(M.hid x I).2
 omega
 intro b Z
 rcases List.mem_append.1 Z with Z|Z
 exact⟨(M.hid b Z).1,by have:=(M.hid b Z).2;rw[World.size_alloc];omega⟩
 simp only[List.mem_singleton] at Z
 subst Z
 exact⟨M.sub.none (Nat.le_refl _),by simp_all⟩
 grind
theorem Fits.ra(M:Fits s bs u a w)(o:Obj):
  Fits s bs (u.ins w.heap.size o) a (w.alloc o)/\Step u bs w (u.ins w.heap.size o) bs (w.alloc o):=by
 have kU:∀(b:Nat) (p:Obj),w.heap[b]?=some p->(w.alloc o).heap[b]?=some p:=by
  intro b p e;have bh:b<w.heap.size:=by grind
  show(w.heap.push _)[b]?=_;rw[Array.getElem?_push,if_neg (by omega)];exact e
 have gH:Sub (u.ins w.heap.size o) (w.alloc o):=by intro b p e;unfold H.ins at e;split at e;rename_i Z;subst Z;cases e;show(w.heap.push _)[w.heap.size]?=_;simp;exact kU b p (M.sub b p e)
 refine⟨⟨⟨M.defers,M.n,M.env⟩,M.len,?_,M.nodup,?_,gH⟩,⟨gH,rfl,rfl,rfl,Nat.le_refl _,by simp_all,?_,?_,[],by simp,by simp⟩⟩
 intro i cs e
 obtain⟨b,T,h1,h2⟩:=M.loc i cs e
 grind
 intro b Z
 have:=M.hid b Z
 exact⟨by rw[H.aL u o (by omega)];exact this.1,by rw[World.size_alloc];omega⟩
 grind
 intro b Z e
 rw[H.aL u o (by omega)];exact e
def Sg{α:Type}(l:List α)(i:Nat)(y:α)(j:Nat):(px l i y)[j]?=if i=j/\j<l.length then some y else l[j]?:=by
 induction l generalizing i j with
 |nil=>simp[px]|cons x xs aG=>
  cases i with
  |zero=>cases j<;>simp[px]
  |succ i=>cases j with
   |zero=>simp[px]|succ j=>simp only[px,List.getElem?_cons_succ,aG];simp
def Kb{α:Type}(l:List α)(i:Nat)(y:α):(px l i y).length=l.length:=by
 induction l generalizing i with
 |nil=>rfl|cons x xs aG=>cases i<;>simp[px,aG]
theorem acS:∀(vs cs:List Value) (off:Nat),off+vs.length<=cs.length->wr cs.toArray off vs=(over cs off vs).toArray:=by
 intro vs;induction vs with
 |nil=>intro cs off _;simp[wr,over]
 |cons v vs aG=>
  intro cs off h;simp only[List.length_cons] at h;simp only[wr];rw[List.setIfInBounds_toArray,aG _ _ (by simp;omega)];congr 1;apply List.ext_getElem?;intro j;simp only[over,List.getElem?_append,List.length_append,List.length_take,List.length_set,List.getElem?_take,List.getElem?_drop,List.getElem?_set,List.length_cons];have aO:min off cs.length=off:=by omega
  have ar:min (off+1) cs.length=off+1:=by omega
  rw[aO,ar];rcases Nat.lt_trichotomy j off with h1|h1|h1
  grind
  grind
  grind
def UN{x:eb}{b:Bool}(h:Hm x=some b)(bs:List Nat):fa bs x=some (.bool b):=by unfold Hm at h;split at h<;>first|(cases h;rfl)|cases h
section
variable {P:Program} (d:Nat) {t:TypeId} (w:World)
def VA(hu:P.underlying t=some (.pointer e))(p:Option Addr):(Op.equalIn (d+1) t (.pointer p) (.pointer none)).run P w=.ok p.isNone w:=by simp only[Op.equalIn,Sem.run_bind,underlying,program,Sem.run,Result.andThen_ok,hu];cases p<;>simp
def agq(hu:P.underlying t=some (.slice e))(a:Option Addr)(n c m k:Nat):(Op.equalIn (d+1) t (.slice a n c) (.slice none m k)).run P w=.ok a.isNone w:=by simp only[Op.equalIn,Sem.run_bind,underlying,program,Sem.run,Result.andThen_ok,hu];cases a<;>simp
def agp{k:TypeId}(hu:P.underlying t=some (.map k e))(a:Option Nat):(Op.equalIn (d+1) t (.map a) (.map none)).run P w=.ok a.isNone w:=by simp only[Op.equalIn,Sem.run_bind,underlying,program,Sem.run,Result.andThen_ok,hu];cases a<;>simp
def ago(hu:P.underlying t=some .bool)(a b:Bool):(Op.equalIn (d+1) t (.bool a) (.bool b)).run P w=.ok (a==b) w:=by simp only[Op.equalIn,Sem.run_bind,underlying,program,Sem.run,Result.andThen_ok,hu];rfl
end
def Dd{x y:Value}{b:Bool}(h:(Op.equalIn (9999+1) t x y).run P w=.ok b w):(Op.equal t x y).run P w=.ok b w:=h
set_option maxHeartbeats 1000000 in
theorem ags(dW:Good C){x y:eb}{z:vK}(h:Dc C t x y=some z)(bs:List Nat){Gi Gj:Value}(I:fa bs x=some Gi)(af:fa bs y=some Gj)(Rv Rw:Operand)(w:World):
  (do eqGuard .eql t Rv Rw Gi Gj;binOp .eql t Gi Gj:Sem Value).run C.P w=.ok (.bool (@decide z.p z.d)) w/\
  (do eqGuard .neq t Rv Rw Gi Gj;binOp .neq t Gi Gj:Sem Value).run C.P w=.ok (.bool (!@decide z.p z.d)) w:=by
 unfold Dc at h
 split at h
 rename_i p
 cases I;cases af
 split at h
 rename_i e hu
 cases h
 have W:=VA 9999 w hu p
 have aj:@decide (p=none) (z1 p)=p.isNone:=by cases p<;>simp
 simp only[eqGuard_at_pointer,pure_bind,binOp,Sem.run_bind]
 rw[Dd W]
 simp[aj]
 cases h
 rename_i q
 cases I;cases af
 split at h
 rename_i e hu
 cases h
 have W:=VA 9999 w hu (some q)
 simp only[eqGuard_at_pointer,pure_bind,binOp,Sem.run_bind]
 rw[Dd W]
 simp
 cases h
 rename_i a n c m k
 cases I;cases af
 split at h
 rename_i e hu
 cases h
 have W:=agq 9999 w hu a n c m k
 have aj:@decide (a=none) (z1 a)=a.isNone:=by cases a<;>simp
 simp only[eqGuard_at_slice,pure_bind,binOp,Sem.run_bind]
 rw[Dd W]
 simp[aj]
 cases h
 rename_i a
 cases I;cases af
 split at h
 rename_i k e hu
 cases h
 have W:=agp 9999 w hu a
 have aj:@decide (a=none) (z1 a)=a.isNone:=by cases a<;>simp
 simp only[eqGuard_at_map,pure_bind,binOp,Sem.run_bind]
 rw[Dd W]
 simp[aj]
 cases h
 rename_i xs cM
 cases I;cases af
 split at h
 rename_i n hm
 split at h
 rename_i gi fX
 obtain⟨h1,h2,h3⟩:=dW.eq t n hm xs cM z (Nat.eq_of_beq_eq_true gi) (Nat.eq_of_beq_eq_true fX) h Rv Rw w
 simp only[Sem.run_bind,h1,h2,Result.andThen_ok,binOp,h3]
 exact⟨rfl,rfl⟩
 cases h
 cases h
 rename_i x y
 cases I;cases af
 cases h
 simp only[eqGuard_at_string,pure_bind,binOp,Op.stringOp]
 constructor
 show Result.ok _ _=_
 grind
 show Result.ok _ _=_
 grind
 split at h
 rename_i a b ap Z hu
 cases h
 have h1:=UN ap bs
 have h2:=UN Z bs
 rw[I] at h1;rw[af] at h2
 cases h1;cases h2
 have W:=ago 9999 w hu a b
 simp only[eqGuard_at_bool,pure_bind,binOp,Sem.run_bind]
 rw[Dd W]
 constructor
 show Result.ok _ _=_
 congr 2
 show Result.ok _ _=_
 congr 2
 cases h
end
end
section
variable{t iy:TypeId}{P:Program}{v:Value}{p:Addr}{i n off d f:Nat}{m:Int}{cs:List Value}
variable [k1]
section
variable {C:iB} {aY:Nat->Bool} {s:an} {o:Oper} {u:H} {K:an->H->Prop} {bs:List Nat} {a:Act} {w:World} {Q:Exit->Act->World->Prop}
theorem tY{m:Sem Value}{w aw:World}(h:m.run P w=.ok v aw):(do pure (Next.value (<-m)):Sem Next).run P w=.ok (.value v) aw:=by
 simp_all
theorem aaj{m:Sem Unit}{w aw:World}(h:m.run P w=.ok () aw):(do m;pure Next.skip:Sem Next).run P w=.ok .skip aw:=by
 simp_all
def J7(M:FitsE s bs a){x:Operand}(e:o.op=.move x∨o.op=.assign x)(h:match s.sv x with|some y=>K (s.put o.dst y) u|none=>False):
  nr C s o u K bs a:=by
 split at h
 rename_i y af
 refine⟨y,a.eval x,h,(M.sv af),λw=>?_⟩
 rcases e with e|e<;>(unfold execOp;rw[e];rfl)
 exact h.elim
def rl(M:FitsE s bs a){c x y:Operand}(e:o.op=.pick c x y){b:Bool}(E:a.eval c=.bool b){z:eb}(aP:s.sv (if b then x else y)=some z)(h:K (s.put o.dst z) u):
  nr C s o u K bs a:=by
 refine⟨z,a.eval (if b then x else y),h,(M.sv aP),λw=>?_⟩
 unfold execOp
 rw[e]
 simp only[E]
 cases b<;>rfl
def o4(M:FitsE s bs a){x:Operand}(h:s.sv x=some (.v v)):a.eval x=v:=by have:=M.sv h;simp only[fa,Option.some.injEq] at this;exact this.symm
def xA(M:FitsE s bs a){x:Operand}(h:s.sv x=some (.ptr p)):a.eval x=.pointer (some p):=by have:=M.sv h;simp only[fa,Option.some.injEq] at this;exact this.symm
theorem xz(M:FitsE s bs a){x:Operand}(h:s.sv x=some (.loc i off)):∃b,bs[i]?=some b/\a.eval x=.pointer (some ⟨b,off,none⟩):=by
 have:=M.sv h;simp only[fa] at this
 grind
def aal(M:FitsE s bs a){op:BinOp}{x y:Operand}(e:o.op=.binOp op t x y iy){k c7:IntKind}{n:Int}
  (I:s.sv x=some (.v (.int k m))) (af:s.sv y=some (.v (.int c7 n)))
  (h:match Hs op m n with
   |some z=>match tL c7 k with
    |true=>K (s.put o.dst z) u|false=>False
   |none=>match QH op ||tL c7 k with
    |true=>Hj C.wrap op k m n λz=>K (s.put o.dst (.v (.int k z))) u|false=>False):nr C s o u K bs a:=by
 have ex:=o4 M I
 have uI:=o4 M af
 have lV:∀v w,(binOp op t (.int k m) (.int c7 n)).run C.P w=.ok v w->(execOp a.eval o).run C.P w=.ok (.value v) w:=by intro v w av;unfold execOp;rw[e];simp only[ex,uI,eqGuard_at_int,pure_bind];exact tY av
 split at h
 rename_i z aP
 split at h
 rename_i hk
 have:=EY hk
 subst this
 obtain⟨v,h1,h2⟩:=afF aP C.P t c7 bs
 exact⟨z,v,h,h1,λw=>lV v w (h2 w)⟩
 exact h.elim
 split at h
 rename_i hk
 obtain⟨z,h1,h2⟩:=aee h C.P t c7 (by simp only[Bool.or_eq_true] at hk;rcases hk with hk|hk;cases op<;>simp[QH] at hk<;>simp;exact .inl (EY hk))
 exact⟨.v (.int k z),_,h1,rfl,λw=>lV _ w (h2 w)⟩
 exact h.elim
def aan(M:FitsE s bs a){x y:Operand}(e:o.op=.binOp .add t x y iy){p q:ByteArray}(I:s.sv x=some (.v (.string p)))(af:s.sv y=some (.v (.string q)))
  (h:p.size+q.size<=9223372036854775807/\K (s.put o.dst (.v (.string (cat p q)))) u):nr C s o u K bs a:=by
 refine⟨.v _,.string (cat p q),h.2,rfl,λw=>?_⟩
 unfold execOp
 rw[e]
 simp only[o4 M I,o4 M af,Sem.run_bind]
 have W:(binOp .add t (.string p) (.string q)).run C.P w=.ok (.string (cat p q)) w:=run_string_add_sum (a:=p) (b:=q) (h:=h.1) ..
 have N:(eqGuard .add t x y (.string p) (.string q)).run C.P w=.ok () w:=rfl
 rw[N]
 simp only[Result.andThen_ok,W]
 rfl
def amI{op:BinOp}{y:Operand}(ac:JH P op t y=true):y=.const .nilIface/\(∃ms,P.underlying t=some (.interface ms))/\(op=.eql∨op=.neq):=by unfold JH at ac;split at ac;split at ac;rename_i ms hm;split at ac;exact⟨rfl,⟨ms,hm⟩,.inl rfl⟩;exact⟨rfl,⟨ms,hm⟩,.inr rfl⟩;cases ac;cases ac;cases ac
def aax(M:FitsE s bs a){op:BinOp}{x y:Operand}(e:o.op=.binOp op t x y iy)(ac:JH C.P op t y=true)(av:s.val x=some v)
  (h:Uj op v λb=>K (s.put o.dst (.v (.bool b))) u):nr C s o u K bs a:=by
 obtain⟨rfl,⟨ms,hm⟩,ajR⟩:=amI ac
 have I:a.eval x=v:=M.val av
 have run:∀b,CJ v b->∀w,(do eqGuard .eql t x (.const .nilIface) v .nilIface;binOp .eql t v .nilIface:Sem Value).run C.P w=.ok (.bool b) w/\
   (do eqGuard .neq t x (.const .nilIface) v .nilIface;binOp .neq t v .nilIface:Sem Value).run C.P w=.ok (.bool (!b)) w:=by
  rintro b (⟨rfl,rfl⟩|⟨⟨t1,gq,rfl⟩,rfl⟩) w
  have h:∀d:Nat,(Op.equalIn (d+1) t .nilIface .nilIface).run C.P w=.ok true w:=λd=>by simp[Op.equalIn,run_underlying hm]
  have bx:(Op.equal t .nilIface .nilIface).run C.P w=.ok true w:=h 9999
  constructor<;>simp[eqGuard,binOp,Sem.run_bind,bx]
  have h:∀d:Nat,(Op.equalIn (d+1) t (.iface t1 gq) .nilIface).run C.P w=.ok false w:=λd=>by simp[Op.equalIn,run_underlying hm]
  have bx:(Op.equal t (.iface t1 gq) .nilIface).run C.P w=.ok false w:=h 9999
  constructor<;>simp[eqGuard,binOp,Sem.run_bind,bx]
 rcases ajR with rfl|rfl
 obtain⟨b,Z,ae⟩:=h
 refine⟨.v _,.bool b,ae,rfl,λw=>?_⟩
 unfold execOp
 rw[e]
 have h1:=(run b Z w).1
 have af:a.eval (.const .nilIface)=.nilIface:=rfl
 simp only[I,af]
 rw[Sem.run_bind,h1]
 rfl
 obtain⟨b,Z,ae⟩:=h
 refine⟨.v _,.bool b,ae,rfl,λw=>?_⟩
 unfold execOp
 rw[e]
 have h1:=(run _ Z w).2
 rw[Bool.not_not] at h1
 have af:a.eval (.const .nilIface)=.nilIface:=rfl
 simp only[I,af]
 rw[Sem.run_bind,h1]
 rfl
def aav(M:FitsE s bs a){x:Operand}(e:o.op=.unOp .neg t x)(I:s.sv x=some (.v (.int .u32 m)))(h:K (s.put o.dst (.v (.int .u32 (IntKind.wrap .u32 (0-m))))) u):nr C s o u K bs a:=
 ⟨.v _,_,h,rfl,λw=>by unfold execOp;rw[e];simp only[o4 M I];rfl⟩
def aas(M:FitsE s bs a){x:Operand}(e:o.op=.unOp .xor t x)(I:s.sv x=some (.v (.int .u32 m)))(h:K (s.put o.dst (.v (.int .u32 (bits .xor .u32 4294967295 m)))) u):nr C s o u K bs a:=
 ⟨.v _,_,h,rfl,λw=>by unfold execOp;rw[e];simp only[o4 M I];rfl⟩
def J5(dW:Good C)(M:FitsE s bs a){op:BinOp}{x y:Operand}(e:o.op=.binOp op t x y iy){p q:eb}(I:s.sv x=some p)(af:s.sv y=some q)
  {z:vK} (aP:Dc C t p q=some z) (h:(op=.eql/\K (s.put o.dst (.dec z.p z.d)) u)∨(op=.neq/\K (s.put o.dst (.qi z.p z.d)) u)):
  nr C s o u K bs a:=by
 have HY:=ags dW aP bs (M.sv I) (M.sv af) x y
 rcases h with⟨rfl,h⟩|⟨rfl,h⟩
 refine⟨.dec z.p z.d,.bool (@decide z.p z.d),h,rfl,λw=>?_⟩
 unfold execOp;rw[e];exact tY (HY w).1
 refine⟨.qi z.p z.d,.bool (!@decide z.p z.d),h,rfl,λw=>?_⟩
 unfold execOp;rw[e];exact tY (HY w).2
def ud(M:FitsE s bs a){x:Operand}(e:o.op=.unOp .not t x){b:Bool}(I:a.eval x=.bool b){z:eb}(aP:fa bs z=some (.bool (!b)))(h:K (s.put o.dst z) u):
  nr C s o u K bs a:=by
 refine⟨z,.bool (!b),h,aP,λw=>?_⟩
 unfold execOp;rw[e]
 simp only[I]
 rfl
def aat(M:FitsE s bs a){x:Operand}(e:o.op=.load t x)(I:s.sv x=some (.loc i off)){ax:aF}(eG:nj C.P t=some ax)
  (ai:s.loc[i]?=some cs) (Z:off+ax.fS.length<=cs.length) (h:K (s.put o.dst (.v (ax.mk ((cs.drop off).take ax.fS.length)))) u):
  G4 C s o u K bs a:=by
 obtain⟨xu,o9,er⟩:=xz M I
 refine⟨.v _,ax.mk ((cs.drop off).take ax.fS.length),h,rfl,λw hw=>?_⟩
 obtain⟨b,T,h1,h2⟩:=hw.loc i cs ai
 rw[h1] at o9;cases o9
 unfold execOp;rw[e]
 refine tY ?_
 simp only[er,Instr.loadAt,Instr.sureAddr,pure_bind]
 refine Br eG _ (by simp;omega) ?_ ?_
 have:=Zi (P:=C.P) (off:=off) h2 ax.fS.length 0 #[] (by simpa using Z)
 simpa using this
 intro c E
 subst E
 simp only[aF.fS,List.length_cons,List.length_nil] at Z ⊢
 have bh:off<cs.length:=by omega
 refine⟨cs[off],?_,?_⟩
 rw[List.drop_eq_getElem_cons bh];rfl
 simp only[World.cell?,h2];simp[bh]
theorem aau(M:FitsE s bs a){x:Operand}(e:o.op=.load t x)(I:s.sv x=some (.ptr p)){ax:aF}(eG:nj C.P t=some ax)
  (h:Js u p 0 ax.fS λvs=>K (s.put o.dst (.v (ax.mk vs))) u):G4 C s o u K bs a:=by
 obtain⟨vs,hk,ae,W⟩:=alQ (P:=C.P) ax.fS 0 _ h
 refine⟨.v _,ax.mk vs,ae,rfl,λw hw=>?_⟩
 have wJ:=W w #[] hw.sub
 unfold execOp;rw[e]
 refine tY ?_
 simp only[xA M I,Instr.loadAt,Instr.sureAddr,pure_bind]
 refine Br eG p (alE hk) (by simpa using wJ) ?_
 intro c E
 subst E
 cases hk with
 |cons x cR=>
  cases cR;obtain⟨y,af,_⟩:=h;have E:=hw.sub.cell af;refine⟨_,rfl,?_⟩;have ek:=wJ;simp only[aF.fS,List.length_cons,List.length_nil,loadCellsFrom,Sem.run_bind,load,Sem.run] at ek;have dH:p.add 0=p:=by simp[Addr.add]
  rw[dH] at ek;have e2:w.cell? p=some (al.enc c y):=E
  simp_all
theorem amZ{vs:List Value}(h:Fs vs=true):∀v∈vs,v.oneCell'=true:=by
 induction vs with
 |nil=>simp|cons v vs aG=>
  simp only[Fs,Bool.and_eq_true] at h
  grind
theorem Kept.aoE(hw:aY i=true)(l:List Value):Kept aY s {s with loc:=px s.loc i l}:=by
 refine⟨rfl,by simp[Kb],?_⟩;intro j cs h aH;simp only[Sg]
 grind
theorem aom(M:Fits s bs u a w){x y:Operand}(e:o.op=.store t x y)(I:s.sv x=some (.loc i off))(af:s.val y=some v)
  {ax:aF} (eG:nj C.P t=some ax) {cs:List Value} (ai:s.loc[i]?=some cs) (hw:aY i=true) (cA:v.cells.size=ax.fS.length) (h1:Fs v.cells.toList=true)
  (Z:off+ax.fS.length<=cs.length) (h:K ({s with loc:=px s.loc i (over cs off v.cells.toList)}.drop o.dst) u):o.wp C.P a w (jE aY K s bs u a w o.dst) Q:=by
 obtain⟨b,T,kI,jd⟩:=M.loc i cs ai
 obtain⟨xu,WC,er⟩:=xz M.toFitsE I
 rw[kI] at WC;cases WC
 obtain⟨aqW,d,P8,_,Qb,_⟩:=Si eG
 have wM:v.cells.toList.length=ax.fS.length:=by omega
 obtain⟨aw,W,iU⟩:=abK (P:=C.P) P8 (off:=off) (v:=v) (by rw[Qb];exact cA) jd (by rw[wM];simpa using Z) (amZ h1)
 rw[acS _ _ _ (by rw[wM];exact Z)] at iU
 have hm:b∈bs:=List.mem_of_getElem? kI
 have cy:=M.hid b hm
 have bh:i<bs.length:=by grind
 have gH:Sub u aw:=by
  intro x p ex;have ah:x≠b:=λe=>by grind
  rw[iU.rest x ah];exact M.sub x p ex
 have b5:Fits {s with loc:=px s.loc i (over cs off v.cells.toList)} bs u a aw:=by
  refine⟨⟨M.defers,M.n,M.env⟩,by simp[Kb,M.len],?_,M.nodup,λx I=>⟨(M.hid x I).1,by rw[iU.size];exact(M.hid x I).2⟩,gH⟩;intro j xB td;simp only[Sg] at td;split at td;rename_i aH;obtain⟨rfl,_⟩:=aH;cases td;exact⟨b,T,kI,iU.at_⟩;rename_i aH;obtain⟨eI,fB,h3,aZ⟩:=M.loc j xB td;refine⟨eI,fB,h3,?_⟩;rw[iU.rest eI ?_];exact aZ;rintro rfl;have jK:j<bs.length:=by grind
  have hK:i=j:=by exact(List.getElem?_inj bh M.nodup (j:=j)).1 (by rw[kI,h3])
  grind
 have dc:Step u bs w u bs aw:=⟨gH,iU.os,iU.tape,iU.output,iU.drawn,by rw[iU.size];exact Nat.le_refl _,λx I qa Pv=>iU.rest x (λe=>by subst e;exact Pv hm),λ_ _ e=>e,[],by simp,by simp⟩
 unfold Oper.wp
 have lV:(execOp a.eval o).run C.P w=.ok .skip aw:=by unfold execOp;rw[e];refine aaj ?_;simp only[er,M.val af,Instr.storeAt,Instr.sureAddr,pure_bind];exact W
 rw[lV]
 exact⟨_,u,bs,undef,h,b5.drop o.dst undef,dc,rfl,(Kept.aoE hw _).trans (Kept.drop aY _ o.dst)⟩
theorem aon(M:Fits s bs u a w){x y:Operand}(e:o.op=.store t x y)(I:s.sv x=some (.ptr p))(af:s.val y=some v)
  {ax:aF} (eG:nj C.P t=some ax) (cA:v.cells.size=ax.fS.length) (h:u.an p v.cells.toList λu'=>K (s.drop o.dst) u'):o.wp C.P a w (jE aY K s bs u a w o.dst) Q:=by
 obtain⟨c,T,E,p6,ai,h1,ae⟩:=h
 obtain⟨aqW,d,P8,_,Qb,_⟩:=Si eG
 obtain⟨b,off,sp⟩:=p
 simp only at p6 E ai ae
 subst p6
 have bW:=M.sub _ _ E
 obtain⟨aw,W,iU⟩:=abK (P:=C.P) P8 (off:=off) (v:=v) (by rw[Qb];exact cA) bW ai h1
 have gH:Sub (u.ins b (.cells (wr c off v.cells.toList) T (0,0))) aw:=by intro x p ex;unfold H.ins at ex;split at ex;rename_i Qw;subst Qw;cases ex;exact iU.at_;rename_i Qw;rw[iU.rest x Qw];exact M.sub x p ex
 have ah:∀x,u x=none->x≠b:=λx' dV dz=>by grind
 have b5:Fits s bs (u.ins b (.cells (wr c off v.cells.toList) T (0,0))) a aw:=by refine⟨⟨M.defers,M.n,M.env⟩,M.len,?_,M.nodup,?_,gH⟩;intro j xB td;obtain⟨eI,fB,h3,aZ⟩:=M.loc j xB td;exact⟨eI,fB,h3,by rw[iU.rest eI (ah eI (M.hid eI (List.mem_of_getElem? h3)).1)];exact aZ⟩;intro x I;have:=M.hid x I;exact⟨by rw[H.aL u _ (ah x this.1)];exact this.1,by rw[iU.size];exact this.2⟩
 have dc:Step u bs w (u.ins b (.cells (wr c off v.cells.toList) T (0,0))) bs aw:=
  ⟨gH,iU.os,iU.tape,iU.output,iU.drawn,by rw[iU.size];exact Nat.le_refl _,λx I qa Pv=>iU.rest x (ah x qa),λx _ qa=>by rw[H.aL u _ (ah x qa)];exact qa,[],by simp,by simp⟩
 unfold Oper.wp
 have lV:(execOp a.eval o).run C.P w=.ok .skip aw:=by unfold execOp;rw[e];refine aaj ?_;simp only[xA M.toFitsE I,M.val af,Instr.storeAt,Instr.sureAddr,pure_bind];exact W
 rw[lV]
 exact⟨_,_,bs,undef,ae,b5.drop o.dst undef,dc,rfl,Kept.drop aY _ o.dst⟩
def au0(h:zeroOf P t=some cs)(w:World):∃z,(zeroValue t).run P w=.ok z w/\z.cells.toList=cs:=by
 unfold zeroOf at h;split at h;rename_i i hi;cases aP:i.zero with
 |none=>rw[aP] at h;cases h
 |some z=>rw[aP] at h;simp only[Option.map_some,Option.some.injEq] at h;exact⟨z,by simp[zeroValue,typeInfo,program,Sem.run,hi,aP],h⟩
 cases h
def Zw(t:TypeId)(v:Value)(w:World):(newVar t v).run P w=.ok ⟨w.heap.size,0,none⟩ (w.alloc (.cells v.cells t (0,0))):=by simp only[newVar,newRow,newObj,Sem.run_bind,Sem.run,Result.andThen_ok];rfl
theorem aaw(M:Fits s bs u a w)(aj:o.dst=some d)(W:(execOp a.eval o).run C.P w=.ok (.value (.pointer (some ⟨w.heap.size,0,none⟩))) (w.alloc (.cells v.cells t (0,0))))
  (h:match eM C.exp d with
   |true=>∀b,u b=none->K (s.put (some d) (.ptr ⟨b,0,none⟩)) (u.ins b (.cells v.cells.toList.toArray t (0,0)))|false=>K ({s with loc:=s.loc++ [v.cells.toList]}.put (some d) (.loc s.loc.length 0)) u):o.wp C.P a w (jE aY K s bs u a w o.dst) Q:=by
 unfold Oper.wp
 rw[W]
 have aO:v.cells.toList.toArray=v.cells:=by simp
 split at h
 have bx:=h w.heap.size (M.sub.none (Nat.le_refl _))
 rw[aO,<-aj] at bx
 obtain⟨h1,h2⟩:=M.ra (.cells v.cells t (0,0))
 exact⟨_,_,bs,_,bx,h1.put o.dst (x:=.ptr _) rfl,h2,rfl,Kept.put aY s _ _⟩
 obtain⟨h1,h2⟩:=M.amE v.cells.toList t
 rw[aO] at h1 h2
 rw[<-aj] at h
 refine⟨_,_,_,_,h,h1.put o.dst (x:=.loc s.loc.length 0) ?_,h2,rfl,?_⟩
 simp only[fa]
 rw[<-M.len]
 simp
 refine Kept.trans (b:={s with loc:=s.loc++ [v.cells.toList]}) ⟨rfl,by simp,λi cs e _=>?_⟩ (Kept.put aY _ _ _)
 grind
def aok(M:Fits s bs u a w)(e:o.op=.alloc t)(aj:o.dst=some d)(aP:zeroOf C.P t=some cs)
  (h:match eM C.exp d with
   |true=>∀b,u b=none->K (s.put (some d) (.ptr ⟨b,0,none⟩)) (u.ins b (.cells cs.toArray t (0,0)))|false=>K ({s with loc:=s.loc++ [cs]}.put (some d) (.loc s.loc.length 0)) u):o.wp C.P a w (jE aY K s bs u a w o.dst) Q:=by
 obtain⟨z,alb,rfl⟩:=au0 aP w
 refine aaw M aj (t:=t) (v:=z) ?_ h
 unfold execOp;rw[e]
 refine tY ?_
 simp only[Instr.alloc,Sem.run_bind,alb,Result.andThen_ok,Zw]
 rfl
def aol(M:Fits s bs u a w){x:Operand}(e:o.op=.box t x)(aj:o.dst=some d)(I:s.val x=some v)
  (h:match eM C.exp d with
   |true=>∀b,u b=none->K (s.put (some d) (.ptr ⟨b,0,none⟩)) (u.ins b (.cells v.cells.toList.toArray t (0,0)))|false=>K ({s with loc:=s.loc++ [v.cells.toList]}.put (some d) (.loc s.loc.length 0)) u):o.wp C.P a w (jE aY K s bs u a w o.dst) Q:=by
 refine aaw M aj (t:=t) (v:=v) ?_ h
 unfold execOp;rw[e]
 refine tY ?_
 simp only[Instr.box,M.val I,Sem.run_bind,Zw,Result.andThen_ok]
 rfl
def Ge{d:TypeDesc}(h:P.underlying t=some d)(w:World):(underlying t).run P w=.ok d w:=by simp[underlying,program,Sem.run,h]
def aao{x:Operand}(e:o.op=.fieldAddr t x f)(ac:Fq C.P t f=some n)(I:a.eval x=.pointer (some p))(w:World):
  (execOp a.eval o).run C.P w=.ok (.value (.pointer (some (p.add n)))) w:=by
 unfold Fq at ac
 split at ac
 rename_i aB hu
 split at ac
 rename_i g N
 split at ac
 rename_i m hm
 cases ac
 simp only[sK,Option.map_eq_some_iff] at hm
 obtain⟨i,hi,cA⟩:=hm
 unfold execOp;rw[e]
 refine tY ?_
 simp only[Instr.fieldAt,Sem.run_bind,Ge hu,Result.andThen_ok,N,I,Instr.sureAddr,fieldPlace,FW hi,cA]
 simp[FW hi,cA]
 cases ac
 cases ac
 cases ac
theorem aap(M:FitsE s bs a){x:Operand}(e:o.op=.fieldAddr t x f)(ac:Fq C.P t f=some n)(I:s.sv x=some (.loc i off))
  (h:K (s.put o.dst (.loc i (off+n))) u):nr C s o u K bs a:=by
 obtain⟨b,Z,er⟩:=xz M I
 refine⟨.loc i (off+n),_,h,?_,aao (C:=C) e ac er⟩
 have:(⟨b,off,none⟩:Addr).add n=⟨b,off+n,none⟩:=by unfold Addr.add;split<;>simp_all
 simp[fa,Z,this]
def aaq(M:FitsE s bs a){x:Operand}(e:o.op=.fieldAddr t x f)(ac:Fq C.P t f=some n)(I:s.sv x=some (.ptr p))
  (h:K (s.put o.dst (.ptr (p.at' n))) u):nr C s o u K bs a:=by
 rw[UB] at h
 exact⟨.ptr (p.add n),_,h,rfl,aao (C:=C) e ac (xA M I)⟩
def aaQ(h:sK P t=some n)(w:World):(sizeOf t).run P w=.ok n w:=by simp only[sK,Option.map_eq_some_iff] at h;obtain⟨i,hi,cA⟩:=h;rw[FW hi,cA]
def aar(M:FitsE s bs a){dz:TypeId}{x bc:Operand}(e:o.op=.indexAddr t x bc)(hu:C.P.underlying t=some (.slice dz)){aR:Option Addr}{c:Nat}(I:s.sv x=some (.v (.slice aR n c)))
  {k:IntKind} {i:Int} (hi:s.sv bc=some (.v (.int k i))) {fG:Nat} (cA:sK C.P dz=some fG)
  (h:∃p,aR=some p/\(0<=i/\i<n)/\K (s.put o.dst (.ptr (p.add (i.toNat*fG)))) u):nr C s o u K bs a:=by
 obtain⟨p,rfl,Z,ae⟩:=h
 refine⟨.ptr _,.pointer (some (p.add (i.toNat*fG))),ae,rfl,λw=>?_⟩
 unfold execOp;rw[e]
 refine tY ?_
 simp only[Instr.indexAt,o4 M I,o4 M hi,asIntOf,pure_bind,Sem.run_bind,Ge hu,Result.andThen_ok]
 simp[Z,aaQ cA,Ge hu]
def J6(M:FitsE s bs a){dz:TypeId}{len:Nat}{x bc:Operand}(e:o.op=.indexAddr t x bc)(hu:C.P.underlying t=some (.array len dz))(I:a.eval x=.pointer (some p))
  {k:IntKind} {i:Int} (hi:s.sv bc=some (.v (.int k i))) {fG:Nat} (cA:sK C.P dz=some fG) (Z:0<=i/\i<len) (w:World):
  (execOp a.eval o).run C.P w=.ok (.value (.pointer (some (p.add (i.toNat*fG))))) w:=by
 unfold execOp;rw[e]
 refine tY ?_
 simp only[Instr.indexAt,I,o4 M hi,asIntOf,pure_bind,Sem.run_bind,Ge hu,Result.andThen_ok,Instr.sureAddr]
 simp[Z,aaQ cA,Ge hu]
end
end
section
variable [k1]
section
variable {C:iB} {aY:Nat->Bool} {s:an} {o:Oper} {u:H} {K:an->H->Prop} {bs:List Nat} {a:Act} {w:World} {Q:Exit->Act->World->Prop}
theorem aam(dW:Good C)(M:Fits s bs u a w){c:Call}(e:o.op=.call c)
  (h:match Gf s c.args,FV C.P o.type with
  |some vs,some ss=>match c.callee with
   | .value (.func f)=>match fi C.P f with
    |true=>fW C.P f vs.toArray ss u (o5 s o.dst ss K)|false=>match Zy C.P f with
     |true=>cx C.P (rS f vs.toArray) ss u (o5 s o.dst ss K)|false=>False
   | .value x=>match s.sv x with
    |some (.v fv)=>fQ C.P fv vs.toArray ss u (o5 s o.dst ss K)|_=>False
   | .invoke x name=>match s.sv x with
    |some (.v r)=>lB C.P r name vs.toArray ss u (o5 s o.dst ss K)|_=>False
   | .builtin _=>other C s o u K
  |_,_=>False):o.wp C.P a w (jE aY K s bs u a w o.dst) Q:=by
 split at h
 rename_i vs ss av q0
 have Ax:=acd M.toFitsE av
 split at h
 rename_i f E
 have I:∀bm,(execOp a.eval o).run C.P bm=(callFunc f vs.toArray).run C.P bm:=by intro bm;unfold execOp;rw[e];simp only[resolve,E,Act.eval,Deferred.ofValue,pure_bind,invoke,Ax];simp
 split at h
 rename_i Z
 refine Ro M h ?_
 rw[I,Hp dW (WA Z)]
 split at h
 refine Rp M h λv aw W=>.inl ?_
 rw[I]
 simp only[rS,Sem.run_bind] at W
 cases aP:(callFunc f vs.toArray).run C.P w with
 |halt z ea=>rw[aP] at W;simp at W
 |ok z ea=>
  rw[aP] at W;simp only[Result.andThen_ok] at W;cases z<;>simp only[] at W<;>first
   |(have PO:Result.ok _ ea=Result.ok v aw:=W;cases PO;rfl)
   |(simp[stuck] at W)
 exact h.elim
 rename_i x _ E
 split at h
 rename_i fv I
 obtain⟨f,pre,cap,rfl,Z,fT⟩:=h
 refine Ro M fT ?_
 unfold execOp;rw[e]
 simp only[resolve,E,o4 M.toFitsE I,Deferred.ofValue,pure_bind,invoke,Ax]
 have:=Hp dW Z (pre++vs.toArray++cap) w
 simpa using this
 exact h.elim
 rename_i x name E
 split at h
 rename_i r I
 obtain⟨t,v,f,oJ,rfl,hm,Z,fT⟩:=h
 refine Ro M fT ?_
 unfold execOp;rw[e]
 simp only[resolve,E,o4 M.toFitsE I,pure_bind,invoke,Ax]
 have h0:(#[Value.iface t v]++vs.toArray)[0]?=some (.iface t v):=by simp
 have h1:(#[Value.iface t v]++vs.toArray).extract 1 (#[Value.iface t v]++vs.toArray).size=vs.toArray:=by simp_all
 simp only[h0,h1,callMethod,Sem.run_bind,program]
 show(Result.andThen ((method (C.P.types.size+Made.depth) t v name).run C.P w) λp aw=>(callFunc p.1 (#[p.2]++vs.toArray)).run C.P aw)=_
 rw[hm w M.sub]
 exact Hp dW Z _ w
 exact h.elim
 exact ZH (λcs b=>by grind) M h
 exact h.elim
set_option maxHeartbeats 1000000 in
theorem KF(dW:Good C)(M:Fits s bs u a w)(h:rr C aY s o u K):o.wp C.P a w (jE aY K s bs u a w o.dst) Q:=by
 have ow:(∀cs b,o.op≠.select cs b)->other C s o u K->o.wp C.P a w (jE aY K s bs u a w o.dst) Q:=λhs=>ZH hs M;unfold rr at h;split at h;rename_i x e;exact j4 M (J7 M.toFitsE (.inl e) h);rename_i x e;exact j4 M (J7 M.toFitsE (.inr e) h);rename_i c x y e;split at h;rename_i E I;exact j4 M (rl M.toFitsE e (b:=true) (Option.some.inj (M.sv E)).symm I h);rename_i E af;exact j4 M (rl M.toFitsE e (b:=false) (Option.some.inj (M.sv E)).symm af h);rename_i p d qu eK E I af;have er:=(Option.some.inj (M.sv E)).symm;by_cases aa:p;exact j4 M (rl M.toFitsE e (b:=true) (by rw[er];simp[aa]) I (h.1 aa));exact j4 M (rl M.toFitsE e (b:=false) (by rw[er];simp[aa]) af (h.2 aa));rename_i p d qu eK E I af;have er:=(Option.some.inj (M.sv E)).symm;by_cases aa:p;exact j4 M (rl M.toFitsE e (b:=false) (by rw[er];simp[aa]) af (h.2 aa));exact j4 M (rl M.toFitsE e (b:=true) (by rw[er];simp[aa]) I (h.1 aa));exact h.elim;rename_i op t x y iy e;split at h;rename_i ac;split at h;rename_i v av;exact j4 M (aax M.toFitsE e ac av h);exact h.elim;split at h;rename_i k m c7 n I af;exact j4 M (aal M.toFitsE e I af h);rename_i p q _ I af;split at h;split at h;rename_i z aP;exact j4 M (J5 dW M.toFitsE e I af aP (.inl ⟨rfl,h⟩));exact h.elim;split at h;rename_i z aP;exact j4 M (J5 dW M.toFitsE e I af aP (.inr ⟨rfl,h⟩));exact h.elim;split at h;exact j4 M (aan M.toFitsE e I af h);exact ow (λcs b=>by rw[e];exact Op.noConfusion) h;exact ow (λcs b=>by rw[e];exact Op.noConfusion) h;exact h.elim;rename_i t x e;split at h;rename_i I;exact j4 M (ud M.toFitsE e (b:=true) (Option.some.inj (M.sv I)).symm rfl h);rename_i I;exact j4 M (ud M.toFitsE e (b:=false) (Option.some.inj (M.sv I)).symm rfl h);rename_i p d I;exact j4 M (ud M.toFitsE e (Option.some.inj (M.sv I)).symm rfl h);rename_i p d I;exact j4 M (ud M.toFitsE e (Option.some.inj (M.sv I)).symm (by simp[fa]) h);rename_i b I;exact j4 M (ud M.toFitsE e (Option.some.inj (M.sv I)).symm (by cases b<;>simp[fa]) h);exact h.elim;rename_i t x e;split at h;rename_i m I;exact j4 M (aav M.toFitsE e I h);exact ow (λcs b=>by rw[e];exact Op.noConfusion) h;rename_i t x e;split at h;rename_i m I;exact j4 M (aas M.toFitsE e I h);exact ow (λcs b=>by rw[e];exact Op.noConfusion) h;rename_i t x e;split at h;rename_i i off ax I eG;split at h;rename_i cs ai;split at h;rename_i Z;exact ZE M (aat M.toFitsE e I eG ai (Nat.le_of_ble_eq_true Z) h);exact h.elim;exact h.elim;rename_i p ax I eG;exact ZE M (aau M.toFitsE e I eG h);exact h.elim;rename_i t x y e;split at h;rename_i i off v ax I af eG;split at h;rename_i cs ai hw cA h1;split at h;rename_i Z;exact aom M e I af eG ai hw (Nat.eq_of_beq_eq_true cA) h1 (Nat.le_of_ble_eq_true Z) h;exact h.elim;exact h.elim;rename_i p v ax I af eG;split at h;rename_i cA;exact aon M e I af eG (Nat.eq_of_beq_eq_true cA) h;exact h.elim;exact h.elim;rename_i t e;split at h;rename_i cs d aP aj;exact aok M e aj aP h;exact h.elim;rename_i t x e;split at h;rename_i v d I aj;exact aol M e aj I h;exact h.elim;rename_i x e;split at h;rename_i i off I;obtain⟨b,Z,er⟩:=xz M.toFitsE I;refine tT M (y:=.loc i off) (v:=.pointer (some ⟨b,off,none⟩)) ?_ (by simp[fa,Z]) h;unfold execOp;rw[e];simp only[er];rfl;rename_i p I;refine tT M (y:=.ptr p) (v:=.pointer (some p)) ?_ rfl h;unfold execOp;rw[e];simp only[xA M.toFitsE I];rfl;rename_i q I;obtain⟨p,rfl,ae⟩:=h;refine tT M (y:=.ptr p) (v:=.pointer (some p)) ?_ rfl ae;unfold execOp;rw[e];simp only[o4 M.toFitsE I];rfl;exact h.elim;rename_i t x f e;split at h;rename_i i off n I ac;exact j4 M (aap M.toFitsE e ac I h);rename_i p n I ac;exact j4 M (aaq M.toFitsE e ac I h);exact h.elim;rename_i t x bc e;split at h;rename_i dz hu;split at h;rename_i aR n c k i fG I hi cA;exact j4 M (aar M.toFitsE e hu I hi cA h);exact h.elim;rename_i len dz hu;split at h;rename_i j off k m fG I hi cA;split at h;rename_i hm;obtain⟨b,Z,er⟩:=xz M.toFitsE I;have bh:m<len:=by simpa using hm
 have W:=J6 (C:=C) M.toFitsE e hu er hi cA ⟨by simp,by simpa using bh⟩ w;refine tT M (y:=.loc j (off+m*(fG+1))) W ?_ h;have:(⟨b,off,none⟩:Addr).add (m*(fG+1))=⟨b,off+m*(fG+1),none⟩:=by unfold Addr.add;split<;>simp_all
 simp[fa,Z,this];exact h.elim;rename_i p k i fG I hi cA;obtain⟨h2,Z,ae⟩:=h;exact tT M (y:=.ptr _) (J6 (C:=C) M.toFitsE e hu (xA M.toFitsE I) hi cA Z w) rfl ae;exact h.elim;exact h.elim;rename_i c e;exact aam dW M e h;rename_i p3;by_cases lh:∃cs b,o.op=.select cs b;obtain⟨cs,b,e⟩:=lh;exfalso;unfold other tV at h;have h0:(Zo C.P o.op ||U7 C.P s o.op)=false:=by rw[e];rfl
 have h1:ZC o.op=false:=by rw[e];rfl
 have h2:y7 s o=none:=by unfold y7;rw[e]
 rw[h0,h1,h2] at h;split at h;rename_i h3;split at h3<;>simp_all;split at h<;>simp_all;exact ow (λcs b e=>lh ⟨cs,b,e⟩) h
end
end
section
variable [k1]
def xP(s:an)(all:Array Oper)(o:Oper)(f:an->Bool->Prop):Prop:=
 match o.guard with
 |none=>f s true|some (j,want)=>match all[j]? with
  |some iW=>match iW.dst with
   |some d=>match look s.env d with
    |some .hB=>f s want|some .hr=>f s (!want)|some (.dec p _)=>(p->f (s.put (some d) .hB) want)/\(¬p->f (s.put (some d) .hr) (!want))|some (.qi p _)=>(¬p->f (s.put (some d) .hB) want)/\(p->f (s.put (some d) .hr) (!want))|some (.v (.bool b))=>(b=true->f (s.put (some d) .hB) want)/\(b=false->f (s.put (some d) .hr) (!want))|some (.v (.tuple _))=>f s false|_=>False
   |none=>False
  |none=>False
theorem FitsE.tell{s:an}{bs:List Nat}{a:Act}(h:FitsE s bs a){d:Nat}{x:eb}{v:Value}(E:fa bs x=some v)(ht:a.tmps[d]?=some v):FitsE (s.put (some d) x) bs a:=by
 have bh:d<s.n:=by
  rw[<-h.n];rcases Nat.lt_or_ge d a.tmps.size with k|k;exact k
  grind
 have aO:s.put (some d) x={s with env:=(d,x)::del s.env d}:=by
  have Z:Nat.blt d s.n=true:=by simpa using bh
  simp only[an.put,Z]
 rw[aO];refine⟨h.defers,h.n,?_⟩;intro p aa;cases aa with
 |head=>exact⟨v,E,ht⟩|tail _ aa=>exact h.env p (Ve aa).1
structure Told(s s':an)(bs:List Nat)(a:Act):Prop where
 e:FitsE s' bs a
 loc:s'.loc=s.loc
 n:s'.n=s.n
theorem Aj{s:an}{all:Array Oper}{o:Oper}{f:an->Bool->Prop}(h:xP s all o f){bs:List Nat}{a:Act}(M:FitsE s bs a):
  ∃s' want,f s' want/\Told s s' bs a/\Region.wanted o (yielded all a.tmps)=want:=by
 unfold xP at h
 split at h
 rename_i e
 exact⟨s,true,h,⟨M,rfl,rfl⟩,by simp[Region.wanted,e]⟩
 rename_i j want e
 split at h
 rename_i iW aH
 split at h
 rename_i d aj
 have key:∀x,look s.env d=some x->∀b:Bool,fa bs x=some (.bool b)->a.tmps[d]?=some (.bool b)/\Region.wanted o (yielded all a.tmps)=(if b then want else !want):=by
  intro x I b Z;obtain⟨v,h1,h2⟩:=M.env _ (yT I);simp only at h1 h2;rw[Z] at h1;cases h1;refine⟨h2,?_⟩;simp only[Region.wanted,e,yielded,aH,Option.bind_some,aj,h2]
  grind
 split at h
 rename_i ai
 exact⟨s,want,h,⟨M,rfl,rfl⟩,(key _ ai true rfl).2⟩
 rename_i ai
 exact⟨s,!want,h,⟨M,rfl,rfl⟩,(key _ ai false rfl).2⟩
 rename_i p Vl ai
 by_cases aa:p
 have:=key _ ai true (by simp[fa,aa])
 exact⟨_,want,h.1 aa,⟨M.tell (x:=.hB) rfl this.1,(j6 _ _ _).1,(j6 _ _ _).2⟩,this.2⟩
 have:=key _ ai false (by simp[fa,aa])
 exact⟨_,!want,h.2 aa,⟨M.tell (x:=.hr) rfl this.1,(j6 _ _ _).1,(j6 _ _ _).2⟩,this.2⟩
 rename_i p Vl ai
 by_cases aa:p
 have:=key _ ai false (by simp[fa,aa])
 exact⟨_,!want,h.2 aa,⟨M.tell (x:=.hr) rfl this.1,(j6 _ _ _).1,(j6 _ _ _).2⟩,this.2⟩
 have:=key _ ai true (by simp[fa,aa])
 exact⟨_,want,h.1 aa,⟨M.tell (x:=.hB) rfl this.1,(j6 _ _ _).1,(j6 _ _ _).2⟩,this.2⟩
 rename_i b ai
 cases b with
 |true=>have:=key _ ai true rfl;exact⟨_,want,h.1 rfl,⟨M.tell (x:=.hB) rfl this.1,(j6 _ _ _).1,(j6 _ _ _).2⟩,this.2⟩
 |false=>have:=key _ ai false rfl;exact⟨_,!want,h.2 rfl,⟨M.tell (x:=.hr) rfl this.1,(j6 _ _ _).1,(j6 _ _ _).2⟩,this.2⟩
 rename_i vs ai
 obtain⟨v,h1,h2⟩:=M.env _ (yT ai)
 simp only at h1 h2
 simp only[fa,Option.some.injEq] at h1
 subst h1
 refine⟨s,false,h,⟨M,rfl,rfl⟩,?_⟩
 simp only[Region.wanted,e,yielded,aH,Option.bind_some,aj,h2]
 rfl
 exact h.elim
 exact h.elim
 exact h.elim
def si(C:iB)(s:an)(o:Oper):Bool:=
 match o.op with
 | .move _=>true| .assign _=>true| .pick _ _ _=>true| .nilCheck _=>true| .fieldAddr _ _ _=>true| .indexAddr _ _ _=>true| .unOp .not _ _=>true| .binOp _ _ _ _ _=>true| .load _ _=>false| .store _ _ _=>false| .alloc _=>false| .box _ _=>false| .call c=>match c.callee with
  | .builtin _=>(tV C.P s o).isSome|_=>false
 |_=>(tV C.P s o).isSome
section
variable {C:iB} {aY:Nat->Bool} {s:an} {o:Oper} {u:H} {K:an->H->Prop} {bs:List Nat} {a:Act} {w:World} {Q:Exit->Act->World->Prop}
def Fv(M:FitsE s bs a)(aa:(tV C.P s o).isSome=true)(h:other C s o u K):nr C s o u K bs a:=by unfold other at h;obtain⟨v,av⟩:=Option.isSome_iff_exists.1 aa;rw[av] at h;exact⟨.v v,v,h,rfl,ZP M av⟩
set_option maxHeartbeats 1000000 in
theorem ZS(dW:Good C)(M:FitsE s bs a)(aa:si C s o=true)(h:rr C aY s o u K):nr C s o u K bs a:=by
 unfold rr at h;split at h;rename_i x e;exact J7 M (.inl e) h;rename_i x e;exact J7 M (.inr e) h;rename_i c x y e;split at h;rename_i E I;exact rl M e (b:=true) (Option.some.inj (M.sv E)).symm I h;rename_i E af;exact rl M e (b:=false) (Option.some.inj (M.sv E)).symm af h;rename_i p d qu eK E I af;have er:=(Option.some.inj (M.sv E)).symm;by_cases aa:p;exact rl M e (b:=true) (by rw[er];simp[aa]) I (h.1 aa);exact rl M e (b:=false) (by rw[er];simp[aa]) af (h.2 aa);rename_i p d qu eK E I af;have er:=(Option.some.inj (M.sv E)).symm;by_cases aa:p;exact rl M e (b:=false) (by rw[er];simp[aa]) af (h.2 aa);exact rl M e (b:=true) (by rw[er];simp[aa]) I (h.1 aa);exact h.elim;rename_i op t x y iy e;have dp:∀bW:other C s o u K,nr C s o u K bs a:=by
  intro bW;by_cases Ep:(tV C.P s o).isSome=true;exact Fv M Ep bW;exfalso;have ac:tV C.P s o=none:=by
   cases I:tV C.P s o with
   |none=>rfl|some v=>rw[I] at Ep;simp at Ep
  unfold other at bW;rw[ac] at bW;have h2:y7 s o=none:=by unfold y7;rw[e]
  rw[h2] at bW;split at bW<;>simp_all
 split at h;rename_i ac;split at h;rename_i v av;exact aax M e ac av h;exact h.elim;split at h;rename_i k m c7 n I af;exact aal M e I af h;rename_i p q _ I af;split at h;split at h;rename_i z aP;exact J5 dW M e I af aP (.inl ⟨rfl,h⟩);exact h.elim;split at h;rename_i z aP;exact J5 dW M e I af aP (.inr ⟨rfl,h⟩);exact h.elim;split at h;exact aan M e I af h;exact dp h;exact dp h;exact h.elim;rename_i t x e;split at h;rename_i I;exact ud M e (b:=true) (Option.some.inj (M.sv I)).symm rfl h;rename_i I;exact ud M e (b:=false) (Option.some.inj (M.sv I)).symm rfl h;rename_i p d I;exact ud M e (Option.some.inj (M.sv I)).symm rfl h;rename_i p d I;exact ud M e (Option.some.inj (M.sv I)).symm (by simp[fa]) h;rename_i b I;exact ud M e (Option.some.inj (M.sv I)).symm (by cases b<;>simp[fa]) h;exact h.elim;rename_i t x e;split at h;rename_i m I;exact aav M e I h;exact Fv M (by unfold si at aa;rw[e] at aa;exact aa) h;rename_i t x e;split at h;rename_i m I;exact aas M e I h;exact Fv M (by unfold si at aa;rw[e] at aa;exact aa) h;rename_i t x e;unfold si at aa;rw[e] at aa;cases aa;rename_i t x y e;unfold si at aa;rw[e] at aa;cases aa;rename_i t e;unfold si at aa;rw[e] at aa;cases aa;rename_i t x e;unfold si at aa;rw[e] at aa;cases aa;rename_i x e;split at h;rename_i i off I;obtain⟨b,Z,er⟩:=xz M I;refine⟨.loc i off,.pointer (some ⟨b,off,none⟩),h,by simp[fa,Z],λw=>?_⟩;unfold execOp;rw[e];simp only[er];rfl;rename_i p I;refine⟨.ptr p,.pointer (some p),h,rfl,λw=>?_⟩;unfold execOp;rw[e];simp only[xA M I];rfl;rename_i q I;obtain⟨p,rfl,ae⟩:=h;refine⟨.ptr p,.pointer (some p),ae,rfl,λw=>?_⟩;unfold execOp;rw[e];simp only[o4 M I];rfl;exact h.elim;rename_i t x f e;split at h;rename_i i off n I ac;exact aap M e ac I h;rename_i p n I ac;exact aaq M e ac I h;exact h.elim;rename_i t x bc e;split at h;rename_i dz hu;split at h;rename_i aR n c k i fG I hi cA;exact aar M e hu I hi cA h;exact h.elim;rename_i len dz hu;split at h;rename_i j off k m fG I hi cA;split at h;rename_i hm;obtain⟨b,Z,er⟩:=xz M I;have bh:m<len:=by simpa using hm
 have W:=J6 (C:=C) M e hu er hi cA ⟨by simp,by simpa using bh⟩;refine⟨.loc j (off+m*(fG+1)),_,h,?_,W⟩;have:(⟨b,off,none⟩:Addr).add (m*(fG+1))=⟨b,off+m*(fG+1),none⟩:=by unfold Addr.add;split<;>simp_all
 simp[fa,Z,this];exact h.elim;rename_i p k i fG I hi cA;obtain⟨h2,Z,ae⟩:=h;exact⟨.ptr _,_,ae,rfl,J6 (C:=C) M e hu (xA M I) hi cA Z⟩;exact h.elim;exact h.elim;rename_i c e;unfold si at aa;rw[e] at aa;simp only at aa;split at aa;rename_i b E;rw[E] at h;split at h;exact Fv M aa h;exact h.elim;cases aa;rename_i h1 h2 h3 aZ bJ NE V3 e0 gC k8 kH Dn ag9 HY Dp;refine Fv M ?_ h;unfold si at aa;split at aa<;>first|exact aa|(rename_i e;exact absurd e (by first|exact h1 _|exact h2 _|exact h3 _ _ _|exact aZ _ _ _ _ _|exact bJ _ _|exact e0 _ _|exact gC _ _ _|exact k8 _|exact kH _ _|exact Dn _|exact ag9 _ _ _|exact HY _ _ _|exact Dp _))
end
end
section
variable{i:Nat}
def waits(ops:Array Oper):Nat->Nat->Nat->Bool
 |0,_,_=>false|n+1,j,i=>match ops[j]? with
  |some o=>o.after.toList.any λe=>Region.binds .any e && (Nat.beq e.on i ||waits ops n e.on i)|none=>false
def sS(ops:Array Oper)(listed:Array Bool):Prop:=
 ∀j o,ops[j]?=some o->listed.getD j false=true->∀e∈o.after,Region.binds .any e=true->listed.getD e.on false=true
def acL{ops:Array Oper}{listed:Array Bool}(E:sS ops listed):∀(n j i:Nat),waits ops n j i=true->
  (∀o,ops[j]?=some o->∀e∈o.after,Region.binds .any e=true->listed.getD e.on false=true)->listed.getD i false=true:=by
 intro n
 induction n with
 |zero=>intro j i h;simp[waits] at h
 |succ n aG=>intro j i h aH;simp only[waits] at h;split at h;rename_i o U;obtain⟨e,he,Z⟩:=List.any_eq_true.1 h;simp only[Bool.and_eq_true,Bool.or_eq_true] at Z;have hm:e∈o.after:=Array.mem_toList_iff.1 he;have h1:=aH o U e hm Z.1;rcases Z.2 with h2|h2;have:=Nat.eq_of_beq_eq_true h2;subst this;exact h1;exact aG e.on i h2 λbn bG dz eY dJ=>E e.on bn bG h1 dz eY dJ;cases h
def sS.set{ops:Array Oper}{listed:Array Bool}(E:sS ops listed)(W:i∈Region.ready .any ops listed):sS ops (listed.setIfInBounds i true):=by intro j o U aH e he Z;by_cases jw:j=i;subst jw;obtain⟨_,bn,bG,ep⟩:=mem_ready.1 W;rw[U] at bG;cases bG;exact getD_set_true (ep e he Z);rw[getD_set_ne false (Ne.symm jw)] at aH;exact getD_set_true (E j o U aH e he Z)
section
variable {P:Program} {ops:Array Oper} {Q:Exit->Act->World->Prop} {nd:Nat->Bool} {S:World->Prop}
def sO(P:Program)(ops:Array Oper)(Q:Exit->Act->World->Prop)(nd:Nat->Bool)(S:World->Prop):Nat->Array Bool->Act->World->Prop
 |0,listed,a,w=>Region.ready .any ops listed=[]/\Q .normal a w|eE+1,listed,a,w=>
  (Region.ready .any ops listed=[]->Q .normal a w)/\
  ∀i∈Region.ready .any ops listed,wpOp P ops Q i (λb3 aw=>(nd i=true->S w->S aw)/\sO P ops Q nd S eE (listed.setIfInBounds i true) b3 aw) a w
def Tc:∀(eE:Nat) (listed:Array Bool) (a:Act) (w:World),sO P ops Q nd S eE listed a w->wpAny P .any ops Q eE listed a w
 |0,_,_,_,h=>h|eE+1,_,_,_,h=>⟨h.1,λi hi=>wpOp_mono (λb3 aw bx=>Tc eE _ b3 aw bx.2) (h.2 i hi)⟩
theorem Ux{ei:Oper}{v:Value}{T:World->Prop}(hi:ops[i]?=some ei)(lh:∀(j:Nat) (o:Oper) cs b,ops[j]?=some o->o.op≠.select cs b)
  (ed:∀c a w,¬Q (.panic c) a w) (ck:Nat) (aJ:(∀w,T w)∨(T=S/\∀j,nd j=false->j=i∨waits ops ck j i=true)):
  ∀(eE:Nat) (listed:Array Bool) (a:Act) (w:World),sS ops listed->
   (∀j iW,ops[j]?=some iW->j≠i->listed.getD j true=false->(∀e∈iW.after,Region.binds .any e=true->e.on≠i)->ei.apart ops iW=true)->
   i∈Region.ready .any ops listed->YieldsIf P ops T ei v a->T w->
   sO P ops Q nd S eE (listed.setIfInBounds i true) (a.put ei.dst v) w->sO P ops Q nd S (eE+1) listed a w:=by
 intro eE
 induction eE with
 |zero=>intro listed a w _ _ W af aW H;refine⟨λh=>(by rw[h] at W;cases W),λj aH=>?_⟩;by_cases jw:j=i;subst jw;exact af.wpOp hi aW ⟨λ_ h=>h,H⟩;have:=ready_mono aH jw;rw[H.1] at this;cases this
 |succ eE aG=>
  intro listed a w E x0 W af aW H;refine⟨λh=>(by rw[h] at W;cases W),λj aH=>?_⟩;by_cases jw:j=i;subst jw;exact af.wpOp hi aW ⟨λ_ h=>h,H⟩
  .have h1:=H.2 j (ready_mono aH jw);obtain⟨D2,iW,yp,ep⟩:=mem_ready.1 aH;have ai7:=(mem_ready.1 W).1;have aiZ:listed.getD i false=false:=by grind
   have p3:∀e∈iW.after,Region.binds .any e=true->e.on≠i:=λe he Z OF=>by
    grind
   have h2:=wpOp_putIf yp (x0 j iW yp jw D2 p3) (λcs b=>lh i ei cs b hi) (λcs b=>lh j iW cs b yp) (λc a w h=>absurd h (ed c _ w)) af h1;have OL:∀k ok,ops[k]?=some ok->k≠i->(listed.setIfInBounds j true).getD k true=false->
     (∀e∈ok.after,Region.binds .any e=true->e.on≠i)->ei.apart ops ok=true:=λk ok hk AG u6 dp=>by
    refine x0 k ok hk AG ?_ dp
    by_cases O2:j=k
    subst O2;exact D2
    simp_all
   have bX:(∀w,T w)∨(T=S/\nd j=true):=by
    rcases aJ with aJ|⟨ahV,aJ⟩;exact .inl aJ;refine .inr ⟨ahV,?_⟩;cases ac:nd j with
    |true=>rfl|false=>
     rcases aJ j ac with bx|bx;exact absurd bx jw;have:=acL E ck j i bx (λo U e he Z=>by grind)
     grind
   refine wpOp_mono (λb3 aw h3=>⟨h3.2.1,?_⟩) h2;have N5:T aw:=by rcases bX with bx|⟨rfl,bx⟩;exact bx aw;exact h3.2.1 bx aW
   refine aG (listed.setIfInBounds j true) b3 aw (E.set aH) OL (ready_mono W (Ne.symm jw)) h3.1 N5 ?_;rw[Array.setIfInBounds_comm _ _ jw];exact h3.2.2
end
section
variable {P:Program} {ops:Array Oper} {Q:Exit->Act->World->Prop} {R:Nat->World->World->Prop}
def rA(P:Program)(ops:Array Oper)(Q:Exit->Act->World->Prop)(R:Nat->World->World->Prop):Nat->Array Bool->Act->World->Prop
 |0,listed,a,w=>Region.ready .any ops listed=[]/\Q .normal a w|eE+1,listed,a,w=>
  (Region.ready .any ops listed=[]->Q .normal a w)/\
  ∀i∈Region.ready .any ops listed,wpOp P ops Q i (λb3 aw=>R i w aw/\rA P ops Q R eE (listed.setIfInBounds i true) b3 aw) a w
def Td:∀(eE:Nat) (listed:Array Bool) (a:Act) (w:World),rA P ops Q R eE listed a w->wpAny P .any ops Q eE listed a w
 |0,_,_,_,h=>h|eE+1,_,_,_,h=>⟨h.1,λi hi=>wpOp_mono (λb3 aw bx=>Td eE _ b3 aw bx.2) (h.2 i hi)⟩
theorem Uy{ei:Oper}{v:Value}{T:World->Prop}(hi:ops[i]?=some ei)(lh:∀(j:Nat) (o:Oper) cs b,ops[j]?=some o->o.op≠.select cs b)
  (ed:∀c a w,¬Q (.panic c) a w) (ck:Nat) (b8:∀w,R i w w) (aJ:∀j,j=i∨waits ops ck j i=true∨∀w aw,R j w aw->T w->T aw):
  ∀(eE:Nat) (listed:Array Bool) (a:Act) (w:World),sS ops listed->
   (∀j iW,ops[j]?=some iW->j≠i->listed.getD j true=false->(∀e∈iW.after,Region.binds .any e=true->e.on≠i)->ei.apart ops iW=true)->
   i∈Region.ready .any ops listed->YieldsIf P ops T ei v a->T w->
   rA P ops Q R eE (listed.setIfInBounds i true) (a.put ei.dst v) w->rA P ops Q R (eE+1) listed a w:=by
 intro eE
 induction eE with
 |zero=>intro listed a w _ _ W af aW H;refine⟨λh=>(by rw[h] at W;cases W),λj aH=>?_⟩;by_cases jw:j=i;subst jw;exact af.wpOp hi aW ⟨b8 _,H⟩;have:=ready_mono aH jw;rw[H.1] at this;cases this
 |succ eE aG=>
  intro listed a w E x0 W af aW H;refine⟨λh=>(by rw[h] at W;cases W),λj aH=>?_⟩;by_cases jw:j=i;subst jw;exact af.wpOp hi aW ⟨b8 _,H⟩
  .have h1:=H.2 j (ready_mono aH jw);obtain⟨D2,iW,yp,ep⟩:=mem_ready.1 aH;have ai7:=(mem_ready.1 W).1;have aiZ:listed.getD i false=false:=by grind
   have p3:∀e∈iW.after,Region.binds .any e=true->e.on≠i:=λe he Z OF=>by
    grind
   have h2:=wpOp_putIf yp (x0 j iW yp jw D2 p3) (λcs b=>lh i ei cs b hi) (λcs b=>lh j iW cs b yp) (λc a w h=>absurd h (ed c _ w)) af h1;have OL:∀k ok,ops[k]?=some ok->k≠i->(listed.setIfInBounds j true).getD k true=false->
     (∀e∈ok.after,Region.binds .any e=true->e.on≠i)->ei.apart ops ok=true:=λk ok hk AG u6 dp=>by
    refine x0 k ok hk AG ?_ dp
    by_cases O2:j=k
    subst O2;exact D2
    simp_all
   have ahZ:∀w aw,R j w aw->T w->T aw:=by
    rcases aJ j with bx|bx|bx;exact absurd bx jw;have:=acL E ck j i bx (λo U e he Z=>by grind)
    grind
    exact bx
   refine wpOp_mono (λb3 aw h3=>⟨h3.2.1,?_⟩) h2;have N5:T aw:=ahZ _ _ h3.2.1 aW;refine aG (listed.setIfInBounds j true) b3 aw (E.set aH) OL (ready_mono W (Ne.symm jw)) h3.1 N5 ?_;rw[Array.setIfInBounds_comm _ _ jw];exact h3.2.2
end
def allI:List Nat->(Nat->Prop)->Prop
 | [],_=>True| [i],f=>f i|i::is,f=>f i/\allI is f
def Uw{l:List Nat}{f:Nat->Prop}(h:allI l f):∀i∈l,f i:=by
 induction l with
 |nil=>intro i hi;cases hi
 |cons x l aG=>
  cases l with
  |nil=>intro i hi;simp only[List.mem_singleton] at hi;subst hi;exact h
  |cons y l=>
   intro i hi;cases hi with
   |head=>exact h.1|tail _ hi=>exact aG h.2 i hi
def Ji(ops:Array Oper)(i:Nat):Bool:=
 match ops[i]? with
 |some o=>match o.op with
  | .load _ _=>true|_=>false
 |none=>false
def abN(o:Oper):Bool:=
 match o.op with
 | .alloc _| .box _ _| .buildSlice ..| .store ..| .mapUpdate ..| .insert ..| .makeMap ..| .makeSlice ..| .lookup ..| .next ..| .range ..| .entry ..| .entryStore ..| .mapEntry ..=>false| .call c=>match c.callee with
  | .builtin .len| .builtin .cap| .builtin .min| .builtin .max=>true|_=>false
 |_=>true
def early(ops:Array Oper)(r:Nat):Bool:=
 Ji ops r && (List.range ops.size).all λj=>match ops[j]? with
  |some o=>abN o ||!waits ops ops.size r j|none=>true
def nQ(ops:Array Oper)(i:Nat):Bool:=
 (List.range ops.size).any λr=>early ops r && !(Nat.beq r i) && !waits ops ops.size i r
def JI(_:Nat):Bool:=false
def o7(C:iB)(aY:Nat->Bool)(ops:Array Oper)(s:an)(i:Nat)(u:H)(K:an->H->Prop):Prop:=
 match ops[i]? with
 |none=>False|some o=>xP s ops o λs' want=>match want with
  |true=>rr C aY s' o u K|false=>K (s'.put o.dst (.v undef)) u
def HK(C:iB)(aY:Nat->Bool)(ops:Array Oper)(s:an)(i:Nat)(u:H)(K:an->H->Prop):Prop:=
 match ops[i]? with
 |none=>False|some o=>xP s ops o λs' want=>match want with
  |true=>match si C s' o with
   |true=>rr C aY s' o u K|false=>False
  |false=>K (s'.put o.dst (.v undef)) u
def ZR(C:iB)(ops:Array Oper)(s:an)(i:Nat):Bool:=
 match ops[i]? with
 |none=>false|some o=>si C s o
def uE(C:iB)(aY:Nat->Bool)(ops:Array Oper)(Y:H):Nat->Array Bool->Bool->an->H->(an->H->Prop)->Prop
 |0,_,_,_,_,_=>False|eE+1,listed,flag,s,u,K=>
  match(Region.ready .any ops listed).find? (λi=>ZR C ops s i && Region.free .any ops listed i) with
  |some i=>HK C aY ops s i u λs' u'=>uE C aY ops Y eE (listed.setIfInBounds i true) flag s' u' K|none=>match flag,(Region.ready .any ops listed).find? (λi=>early ops i && Region.free .any ops listed i) with
   |true,some i=>o7 C aY ops s i Y λs' _=>uE C aY ops Y eE (listed.setIfInBounds i true) true s' u K|_,_=>match Region.ready .any ops listed with
    | []=>K s u|r=>allI r λi=>match nQ ops i with
     |true=>o7 C JI ops s i u λs' u'=>Y.le u'/\uE C aY ops Y eE (listed.setIfInBounds i true) false s' u' K|false=>o7 C aY ops s i u λs' u'=>uE C aY ops Y eE (listed.setIfInBounds i true) false s' u' K
def R2(ops:Array Oper)(r:Nat):Bool:=
 early ops r && (List.range ops.size).all λj=>Nat.beq j r ||waits ops ops.size j r ||match ops[j]? with
  |some o=>abN o|none=>true
def Bz(ops:Array Oper)(i:Nat):Bool:=
 (List.range ops.size).any λr=>early ops r && !R2 ops r && !(Nat.beq r i) && !waits ops ops.size i r
def BA(ops:Array Oper)(i:Nat):Bool:=
 (List.range ops.size).any λr=>R2 ops r && !(Nat.beq r i) && !waits ops ops.size i r
def Jh(b:Bool)(p q:Prop):Prop:=match b with
 |true=>p/\q|false=>q
def rV(C:iB)(aY:Nat->Bool)(ops:Array Oper)(v0 Y:H):Nat->Array Bool->Bool->an->H->(an->H->Prop)->Prop
 |0,_,_,_,_,_=>False|eE+1,listed,flag,s,u,K=>
  match(Region.ready .any ops listed).find? (λi=>ZR C ops s i && Region.free .any ops listed i) with
  |some i=>HK C aY ops s i u λs' u'=>rV C aY ops v0 Y eE (listed.setIfInBounds i true) flag s' u' K|none=>match flag,(Region.ready .any ops listed).find? (λi=>early ops i && Region.free .any ops listed i) with
   |true,some i=>match R2 ops i with
    |true=>o7 C aY ops s i Y λs' _=>rV C aY ops v0 Y eE (listed.setIfInBounds i true) true s' u K|false=>o7 C aY ops s i v0 λs' _=>rV C aY ops v0 Y eE (listed.setIfInBounds i true) true s' u K
   |_,_=>match Region.ready .any ops listed with
    | []=>K s u|r=>allI r λi=>match Bz ops i ||BA ops i with
     |true=>o7 C JI ops s i u λs' u'=>Jh (Bz ops i) (v0.le u') (Jh (BA ops i) (Y.le u') (rV C aY ops v0 Y eE (listed.setIfInBounds i true) false s' u' K))|false=>o7 C aY ops s i u λs' u'=>rV C aY ops v0 Y eE (listed.setIfInBounds i true) false s' u' K
def YG{b:Bool}{p q:Prop}(h:Jh b p q)(Z:b=true):p:=by subst Z;exact h.1
def YH{b:Bool}{p q:Prop}(h:Jh b p q):q:=by cases b with
 |true=>exact h.2|false=>exact h
end
section
variable{ds:Nat->Bool}{w:World}{s s':an}{Y:H}{eU:List (List Value)}{ew:List Nat}
variable [k1]
def sX(P:Program)(it:Value)(u:H)(jF:H->Prop)(G1:Value->Value->H->Prop):Prop:=
 ∀w,Sub u w->∃aw u',((Instr.next it false 0).run P w=.ok (.tuple #[.bool false]) aw/\jF u'∨∃k e,(Instr.next it false 0).run P w=.ok (.tuple #[.bool true,k,e]) aw/\G1 k e u')/\Step u [] w u' [] aw
def sT(P:Program)(it:Value)(u:H)(K:Value->Value->H->Prop):Prop:=
 ∀w,Sub u w->∃k e aw u',(Instr.entry it).run P w=.ok (.tuple #[k,e]) aw/\K k e u'/\Step u [] w u' [] aw
def rK(t:al)(v:Value)(f:t.den->Prop):Prop:=t.un v f
def r5:Option Value->Option Bool
 |some (.tuple vs)=>match vs.toList with
  |v::_=>match v with
   | .bool b=>some b|_=>none
  | []=>none
 |_=>none
def aiD{x:Option Value}{b:Bool}(h:r5 x=some b):∃vs,x=some (.tuple vs)/\vs[0]?=some (.bool b):=by unfold r5 at h;split at h;rename_i vs;split at h;rename_i v l ai;split at h;cases h;exact⟨vs,rfl,by rw[<-Array.getElem?_toList,ai];rfl⟩;cases h;cases h;cases h
def KD(C:iB)(aY:Nat->Bool)(s:an)(o:Oper)(u:H)(K:an->H->Prop):Prop:=
 match o.op with
 | .call c=>match c.callee with
  | .value (.tmp t)=>match Gf s c.args,FV C.P o.type,look s.env t with
   |some vs,some ss,some (.v fv)=>mc C.P fv vs.toArray ss u (o5 s o.dst ss K)|_,_,_=>False
  |_=>rr C aY s o u K
 | .range t x=>match s.val x with
  |some v=>cx C.P (Instr.range t v) [.one .ptr] u (o5 s o.dst [.one .ptr] K)|none=>False
 | .next x false=>match s.val x with
  |some v=>sX C.P v u (λu'=>K (s.put o.dst (.v (.tuple #[.bool false]))) u') (λk e u'=>K (s.put o.dst (.v (.tuple #[.bool true,k,e]))) u')|none=>False
 | .entry x=>match s.val x with
  |some v=>sT C.P v u (λk e u'=>K (s.put o.dst (.v (.tuple #[k,e]))) u')|none=>False
 | .extract (.tmp t) i=>match eM C.lN t with
  |true=>match s.val (.tmp t),nj C.P o.type with
   |some (.tuple vs),some (.one ct)=>match vs.toList[i]? with
    |some v=>rK ct v λy=>K (s.put o.dst (.v (ct.enc y))) u|none=>False
   |_,_=>False
  |false=>match eM C.l2 t with
   |true=>match Nat.beq i 0,r5 (s.val (.tmp t)) with
    |true,some true=>K (s.put o.dst .hB) u|true,some false=>K (s.put o.dst .hr) u|_,_=>False
   |false=>rr C aY s o u K
 |_=>rr C aY s o u K
def B2(C:iB)(aY:Nat->Bool)(all:Array Oper):List Oper->an->H->(an->H->Prop)->Prop
 | [],s,u,K=>K s u|o::rest,s,u,K=>xP s all o λs' want=>match want with
  |true=>KD C aY s' o u λrk u'=>B2 C aY all rest rk u' K|false=>B2 C aY all rest (s'.put o.dst (.v undef)) u K
abbrev Fr(ro:Option Nat):Fence:={Fence.wide with round:=ro}
def rB{P:Program}{o:Oper}{a:Act}{next:Act->World->Prop}{Q:Exit->Act->World->Prop}(ro:Option Nat)(aj:ro=none∨∀c,o.op≠.defer c)(h:o.wp P a w next Q):
  o.wpIn (Fr ro) 0 P a w next Q:=by
 refine⟨λ_ _=>trivial,?_⟩
 have e:o.semAt (Fr ro).round a.eval=execOp a.eval o:=by rcases aj with rfl|aj;rfl;exact Oper.semAt_eq ro _ _ aj
 rw[e]
 unfold Oper.wp at h
 cases W:(execOp a.eval o).run P w with
 |ok nx aw=>
  rw[W] at h;cases nx with
  |value v=>exact h|skip=>exact h|defer d=>exact h|enter f args=>exact⟨λI=>by simp[Fr,Fence.wide] at I,(callsIn_wide (n:=0-1)).2 h⟩|row row args=>exact⟨λI=>by simp[Fr,Fence.wide] at I,λc cs _=>let⟨v,ea,ay,hs⟩:=h c cs;⟨v,ea,ay,stepsIn_wide.2 hs⟩⟩|_=>exact h.elim
 |halt z aw=>
  rw[W] at h;cases z with
  |panic v=>exact h|_=>exact h.elim
def amV{C:iB}{aY:Nat->Bool}{o:Oper}{u:H}{K:an->H->Prop}{bs:List Nat}{a:Act}{Q:Exit->Act->World->Prop}{ro:Option Nat}{fv:Value}{args:Array Value}{ss:List aF}
  (M:Fits s bs u a w) (bX:∀c,o.op≠.defer c) (h:vE C.P fv args ss u (o5 s o.dst ss K))
  (W:∀l,fv=.func (.yield l) #[] #[]->(execOp a.eval o).run C.P w=(Instr.yield l args).run C.P w):o.wpIn (Fr ro) 0 C.P a w (jE aY K s bs u a w o.dst) Q:=by
 obtain⟨l,rfl,af⟩:=h
 obtain⟨fn,tmps,assign,body,lV,Eu⟩:=af w M.sub
 refine⟨λ_ _=>trivial,?_⟩
 have e:o.semAt (Fr ro).round a.eval=execOp a.eval o:=Oper.semAt_eq ro _ _ bX
 rw[e,W l rfl,lV]
 refine⟨λI=>by simp[Fr,Fence.wide] at I,RoundIn.mono Eu ?_⟩
 rintro e aw ⟨v,u',rfl,⟨vs,av,rfl,ae⟩,hs⟩
 have mS:K (s.put o.dst (.v (qI ss vs))) u':=(Gd av _).1 ae
 exact⟨_,u',bs,_,mS,(M.step hs).put o.dst (x:=.v _) rfl,hs.DX bs,rfl,Kept.put aY s o.dst _⟩
theorem aqC{C:iB}{aY:Nat->Bool}{o:Oper}{u:H}{K:an->H->Prop}{bs:List Nat}{a:Act}{Q:Exit->Act->World->Prop}{ro:Option Nat}
  (dW:Good C) (aj:ro=none∨∀c,o.op≠.defer c) (M:Fits s bs u a w) (h:KD C aY s o u K):o.wpIn (Fr ro) 0 C.P a w (jE aY K s bs u a w o.dst) Q:=by
 unfold KD at h
 split at h
 rename_i c e
 split at h
 rename_i t E
 split at h
 rename_i vs ss fv av q0 I
 have Ax:=acd M.toFitsE av
 have P5:s.sv (.tmp t)=some (.v fv):=I
 rcases h with h|h
 refine rB ro aj (aam dW M e ?_)
 rw[av,q0,E]
 simp only[P5]
 exact h
 refine amV M (λc'=>by grind) h ?_
 rintro l rfl
 unfold execOp;rw[e]
 simp only[resolve,E,o4 M.toFitsE P5,Deferred.ofValue,pure_bind,invoke,Ax]
 simp
 exact h.elim
 exact rB ro aj (KF dW M h)
 rename_i t x e
 split at h
 rename_i v av
 refine rB ro aj (Rp M h λz aw W=>.inl ?_)
 unfold execOp;rw[e];simp only[M.val av,Sem.run_bind,W,Result.andThen_ok];rfl
 exact h.elim
 rename_i x e
 split at h
 rename_i v av
 obtain⟨aw,u',ae,hs⟩:=h w M.sub
 have run:∀z,(Instr.next v false 0).run C.P w=.ok z aw->(execOp a.eval o).run C.P w=.ok (.value z) aw:=λz W=>by have ek:(Instr.next v false o.type).run C.P w=.ok z aw:=W;unfold execOp;rw[e];simp only[M.val av,Sem.run_bind,ek,Result.andThen_ok];rfl
 rcases ae with⟨W,ae⟩|⟨k,z,W,ae⟩
 exact rB ro aj (Fp M (run _ W) hs ae)
 exact rB ro aj (Fp M (run _ W) hs ae)
 exact h.elim
 rename_i x e
 split at h
 rename_i v av
 obtain⟨k,z,aw,u',W,ae,hs⟩:=h w M.sub
 refine rB ro aj (Fp M ?_ hs ae)
 unfold execOp;rw[e];simp only[M.val av,Sem.run_bind,W,Result.andThen_ok];rfl
 exact h.elim
 rename_i t i e
 split at h
 split at h
 rename_i vs ct av eG
 split at h
 rename_i v hi
 obtain⟨y,rfl,ae⟩:=al.KV h
 refine rB ro aj (Fp M ?_ (Step.refl M.sub) ae)
 have nC:vs[i]?=some (ct.enc y):=by grind
 unfold execOp;rw[e];simp only[M.val av,Sem.run_bind]
 simp[Instr.extract,nC]
 exact h.elim
 exact h.elim
 split at h
 have run:∀b,Nat.beq i 0=true->r5 (s.val (.tmp t))=some b->(execOp a.eval o).run C.P w=.ok (.value (.bool b)) w:=λb h0 Z=>by obtain⟨vs,av,nC⟩:=aiD Z;obtain rfl:=Nat.eq_of_beq_eq_true h0;unfold execOp;rw[e];simp only[M.val av,Sem.run_bind];simp[Instr.extract,nC]
 split at h
 rename_i h0 Z;exact rB ro aj (tT M (run _ h0 Z) rfl h)
 rename_i h0 Z;exact rB ro aj (tT M (run _ h0 Z) rfl h)
 exact h.elim
 exact rB ro aj (KF dW M h)
 exact rB ro aj (KF dW M h)
section
variable {C:iB} {aY:Nat->Bool} {s:an} {o:Oper} {u:H} {K:an->H->Prop} {bs:List Nat} {a:Act} {w:World} {Q:Exit->Act->World->Prop}
def Fits.told(M:Fits s bs u a w)(ht:Told s s' bs a):Fits s' bs u a w:=
 ⟨ht.e,by rw[ht.loc];exact M.len,by rw[ht.loc];exact M.loc,M.nodup,M.hid,M.sub⟩
def Kept.told{rk:an}(ht:s'.loc=s.loc/\s'.n=s.n)(k:Kept aY s' rk):Kept aY s rk:=
 ⟨k.n.trans ht.2,by rw[<-ht.1];exact k.len,λi cs e=>k.same i cs (by rw[ht.1];exact e)⟩
def Oper.acR{F:Fence}{n:Nat}{P:Program}{o:Oper}{a:Act}{next next':Act->World->Prop}{Q:Exit->Act->World->Prop}(h:∀a w,next a w->next' a w)(hw:o.wpIn F n P a w next Q):
  o.wpIn F n P a w next' Q:=by
 refine⟨hw.1,?_⟩
 have h2:=hw.2
 generalize (o.semAt F.round a.eval).run P w=r at h2 ⊢
 cases r with
 |ok nx aw=>
  cases nx with
  |value v=>exact h _ _ h2|skip=>exact h _ _ h2|defer d=>exact h _ _ h2|enter f args=>exact⟨h2.1,h2.2.mono λe ea he=>by cases e<;>first|exact h _ _ he|exact he⟩
  |row row args=>exact⟨h2.1,h2.2.mono λv ea he=>h _ _ he⟩|round l f tmps assign body=>exact⟨h2.1,h2.2.mono λe ea he=>by cases e<;>first|exact h _ _ he|exact he⟩
  |_=>exact h2
 |halt z aw=>cases z<;>exact h2
def agv(dW:Good C){all:Array Oper}(M:Fits s bs u a w)(h:xP s all o λs' want=>match want with
  |true=>KD C aY s' o u K
  |false=>K (s'.put o.dst (.v undef)) u) (ro:Option Nat) (bX:ro=none∨∀c,o.op≠.defer c):
  (Region.wanted o (yielded all a.tmps)=true/\o.wpIn (Fr ro) 0 C.P a w (jE aY K s bs u a w o.dst) Q)∨
  (Region.wanted o (yielded all a.tmps)=false/\jE aY K s bs u a w o.dst (a.put o.dst undef) w):=by
 obtain⟨s',want,bx,ht,hw⟩:=Aj h M.toFitsE
 cases want with
 |true=>refine .inl ⟨hw,?_⟩;refine Oper.acR ?_ (aqC dW bX (M.told ht) bx);rintro b3 aw ⟨rk,u',cd,v,hk,b5,hs,ap,gE⟩;exact⟨rk,u',cd,v,hk,b5,hs,ap,gE.told ⟨ht.loc,ht.n⟩⟩
 |false=>refine .inr ⟨hw,?_⟩;exact⟨_,u,bs,undef,bx,(M.told ht).put o.dst (x:=.v undef) rfl,Step.refl M.sub,rfl,(Kept.put aY s' _ _).told ⟨ht.loc,ht.n⟩⟩
def VD(dW:Good C){all:Array Oper}(M:Fits s bs u a w)(h:xP s all o λs' want=>match want with
  |true=>rr C aY s' o u K
  |false=>K (s'.put o.dst (.v undef)) u):
  (Region.wanted o (yielded all a.tmps)=true/\o.wp C.P a w (jE aY K s bs u a w o.dst) Q)∨
  (Region.wanted o (yielded all a.tmps)=false/\jE aY K s bs u a w o.dst (a.put o.dst undef) w):=by
 obtain⟨s',want,bx,ht,hw⟩:=Aj h M.toFitsE
 cases want with
 |true=>refine .inl ⟨hw,?_⟩;refine Oper.wp_mono ?_ (KF dW (M.told ht) bx);rintro b3 aw ⟨rk,u',cd,v,hk,b5,hs,ap,gE⟩;exact⟨rk,u',cd,v,hk,b5,hs,ap,gE.told ⟨ht.loc,ht.n⟩⟩
 |false=>refine .inr ⟨hw,?_⟩;exact⟨_,u,bs,undef,bx,(M.told ht).put o.dst (x:=.v undef) rfl,Step.refl M.sub,rfl,(Kept.put aY s' _ _).told ⟨ht.loc,ht.n⟩⟩
def vF(aY:Nat->Bool)(s:an)(bs:List Nat)(u:H)(a:Act)(w:World)(ds:Nat->Bool)(K:an->H->Prop)(R:Act->World->Prop):Prop:=
 ∀s' u' cd b3 aw,K s' u'->Fits s' cd u' b3 aw->Step u bs w u' cd aw->Kept aY s s'->(∀d,ds d=false->b3.tmps[d]?=a.tmps[d]?)->R b3 aw
def vF.next{u':H}{cd:List Nat}{b3:Act}{aw:World}{R:Act->World->Prop}(h:vF aY s bs u a w ds K R)
  (hs:Step u bs w u' cd aw) (hk:Kept aY s s') (ap:∀d,ds d=false->b3.tmps[d]?=a.tmps[d]?):vF aY s' cd u' b3 aw ds K R:=
 λs2 bE zT a2 ea cI f2 h2 da d2=>h s2 bE zT a2 ea cI f2 (hs.trans h2) (hk.trans da) λd aj=>(d2 d aj).trans (ap d aj)
theorem RI{dst:Option Tmp}{v:Value}(h:∀d,dst=some d->ds d=true):∀d,ds d=false->(a.put dst v).tmps[d]?=a.tmps[d]?:=by
 intro d aj;cases dst with
 |none=>rfl|some x=>
  rw[RJ,if_neg]
  grind
def aaF(dW:Good C)(ro:Option Nat){all:Array Oper}:∀(l:List Oper) (s:an) (u:H) (bs:List Nat) (a:Act) (w:World),B2 C aY all l s u K->Fits s bs u a w->
  (ro=none∨∀o∈l,∀c,o.op≠.defer c)->(∀o∈l,∀d,o.dst=some d->ds d=true)->vF aY s bs u a w ds K (Q .normal)->wpListIn (Fr ro) 0 C.P all Q l a w:=by
 intro l
 induction l with
 |nil=>intro s u bs a w h M _ _ E;exact E s u bs a w h M (Step.refl M.sub) (Kept.refl _ _) λ_ _=>rfl
 |cons o rest aG=>
  intro s u bs a w h M bX aj E;have tJ:∀bn∈rest,∀d,bn.dst=some d->ds d=true:=λbn bG=>aj bn (.tail _ bG);have dK:∀v,∀d,ds d=false->(a.put o.dst v).tmps[d]?=a.tmps[d]?:=λv=>RI (aj o (.head _));have key:∀b3 aw,jE aY (λrk u'=>B2 C aY all rest rk u' K) s bs u a w o.dst b3 aw->wpListIn (Fr ro) 0 C.P all Q rest b3 aw:=by rintro b3 aw ⟨s',u',cd,v,hk,b5,hs,rfl,gE⟩;exact aG s' u' cd _ aw hk b5 (bX.imp id λh bn bG=>h bn (.tail _ bG)) tJ (E.next hs gE (dK v))
  simp only[wpListIn];rcases agv (Q:=Q) dW (K:=λrk u'=>B2 C aY all rest rk u' K) M h ro (bX.imp id λh=>h o (.head _)) with⟨hw,h1⟩|⟨hw,h1⟩;rw[if_pos hw];exact Oper.acR key h1;rw[if_neg (by rw[hw];simp)];exact⟨λ_ _=>trivial,key _ _ h1⟩
def left(listed:Array Bool):Nat:=listed.toList.count false
theorem yS{listed:Array Bool}{i:Nat}(h:listed.getD i true=false):left (listed.setIfInBounds i true)+1=left listed:=by
 have bh:i<listed.size:=by grind
 have key:∀(l:List Bool) (i:Nat),l[i]?=some false->(l.set i true).count false+1=l.count false:=by grind
 unfold left
 simp_all
def aaf{ops:Array Oper}{listed:Array Bool}(h:left listed=0):Region.ready .any ops listed=[]:=by
 cases W:Region.ready .any ops listed with
 |nil=>rfl|cons i l=>
  have hi:i∈Region.ready .any ops listed:=by rw[W];exact .head _
  have:=yS (mem_ready.1 hi).1;omega
def Zj(M:FitsE s bs a){t:TypeId}{x:Operand}(e:o.op=.load t x)(h:rr C aY s o u K):G4 C s o u K bs a:=by unfold rr at h;rw[e] at h;simp only at h;split at h;rename_i i off ax I eG;split at h;rename_i cs ai;split at h;rename_i Z;exact aat M e I eG ai (Nat.le_of_ble_eq_true Z) h;exact h.elim;exact h.elim;rename_i p ax I eG;exact aau M e I eG h;exact h.elim
def HO{l:List Nat}{p:Nat->Bool}{i:Nat}(h:l.find? p=some i):i∈l/\p i=true:=
 ⟨List.mem_of_find?_eq_some h,List.find?_some h⟩
theorem Vn(dW:Good C){ops:Array Oper}(lh:Region.noSelect ops=true)
  (ed:∀c a w,¬Q (.panic c) a w) (aj:∀(o:Oper),o∈ops.toList->∀d,o.dst=some d->ds d=true):
  ∀(f:Nat) (listed:Array Bool) (flag:Bool) (s:an) (u:H),uE C aY ops Y f listed flag s u K->∀(bs:List Nat) (a:Act) (w:World) (g:Nat),Fits s bs u a w->
   sS ops listed->left listed<=g->(flag=true->Y.le u/\s.loc=eU/\bs=ew)->(∃ext,bs=ew++ext)->vF aY s bs u a w ds K (Q .normal)->
   sO C.P ops Q (nQ ops) (gV eU ew Y) g listed a w:=by
 intro f
 induction f with
 |zero=>intro listed flag s u h;exact h.elim
 |succ f aG=>
  intro listed flag s u h bs a w g M E N DS u3 r1;have dK:∀(i:Nat) (o:Oper),ops[i]?=some o->∀v,∀d,ds d=false->(a.put o.dst v).tmps[d]?=a.tmps[d]?:=λi o U v=>
   RI (aj o (by grind))
  unfold uE at h;split at h
  ·
   rename_i i wo;obtain⟨hi,aa⟩:=HO wo;simp only[Bool.and_eq_true] at aa;have ai:=yS (mem_ready.1 hi).1;obtain⟨g,rfl⟩:∃m,g=m+1:=⟨g-1,by omega⟩;unfold HK at h;split at h;exact h.elim
   .rename_i ei gQ;obtain⟨s',want,bx,ht,hw⟩:=Aj h M.toFitsE;have kK:=M.told ht;have fin:∀y v,fa bs y=some v->uE C aY ops Y f (listed.setIfInBounds i true) flag (s'.put ei.dst y) u K->YieldsIf C.P ops (λ_=>True) ei v a->
      sO C.P ops Q (nQ ops) (gV eU ew Y) (g+1) listed a w:=by
     intro y v oj ae af
     refine Ux gQ (Region.noSelect_spec lh) ed 0 (T:=λ_=>True) (.inl λ_=>trivial) g listed a w E (λj iW aH ah u6 dp=>Region.free_spec gQ aa.2 j iW aH ah u6 dp) hi af trivial ?_
     have mW:=kK.put ei.dst oj
     refine aG _ flag _ u ae bs _ w g mW (E.set hi) (by omega) ?_ u3 ?_
     intro oo
     obtain⟨aO,ar,cq⟩:=DS oo
     exact⟨aO,by rw[(j6 _ _ _).1,ht.loc];exact ar,cq⟩
     exact r1.next (Step.refl M.sub) ((Kept.put aY s' _ _).told ⟨ht.loc,ht.n⟩) (dK i ei gQ v)
    cases want with
    |true=>simp only at bx;split at bx;rename_i lT;obtain⟨y,v,ae,oj,W⟩:=ZS dW ht.e lT bx;exact fin y v oj ae (.inl ⟨hw,λaw _=>W aw⟩);exact bx.elim
    |false=>exact fin (.v undef) undef rfl bx (.inr ⟨hw,rfl⟩)
  .split at h
   ·
    rename_i i wo;obtain⟨hi,aa⟩:=HO wo;simp only[Bool.and_eq_true] at aa;have ai:=yS (mem_ready.1 hi).1;obtain⟨g,rfl⟩:∃m,g=m+1:=⟨g-1,by omega⟩;obtain⟨tB,pY,iQ⟩:=DS rfl;unfold o7 at h;split at h;exact h.elim
    .rename_i ei gQ;obtain⟨s',want,bx,ht,hw⟩:=Aj h M.toFitsE;have kK:=M.told ht;have N3:gV eU ew Y w:=by rw[<-pY,<-iQ];exact⟨M.loc,M.sub.mono tB⟩
     have r6:=aa.1;have D7:∃t x,ei.op=.load t x:=by
      unfold early Ji at r6;rw[gQ] at r6;simp only[Bool.and_eq_true] at r6;have h1:=r6.1;split at h1
      grind
      cases h1
     have aJ:∀j,nQ ops j=false->j=i∨waits ops ops.size j i=true:=by
      intro j aH;unfold nQ at aH;have bh:i<ops.size:=(Array.getElem?_eq_some_iff.1 gQ).1;have:=List.any_eq_false.1 aH i (List.mem_range.2 bh);simp only[Bool.and_eq_true,Bool.not_eq_true',not_and,Bool.not_eq_false] at this;by_cases jw:j=i;exact .inl jw;refine .inr (this ⟨r6,?_⟩);cases Z:Nat.beq i j with
      |false=>rfl|true=>simp_all
     have fin:∀y v,fa bs y=some v->uE C aY ops Y f (listed.setIfInBounds i true) true (s'.put ei.dst y) u K->YieldsIf C.P ops (gV eU ew Y) ei v a->
       sO C.P ops Q (nQ ops) (gV eU ew Y) (g+1) listed a w:=by
      intro y v oj ae af
      refine Ux gQ (Region.noSelect_spec lh) ed ops.size (T:=gV eU ew Y) (.inr ⟨rfl,aJ⟩) g listed a w E (λj iW aH ah u6 dp=>Region.free_spec gQ aa.2 j iW aH ah u6 dp) hi af N3 ?_
      have mW:=kK.put ei.dst oj
      refine aG _ true _ u ae bs _ w g mW (E.set hi) (by omega) ?_ u3 ?_
      exact λ_=>⟨tB,by rw[(j6 _ _ _).1,ht.loc];exact pY,iQ⟩
      exact r1.next (Step.refl M.sub) ((Kept.put aY s' _ _).told ⟨ht.loc,ht.n⟩) (dK i ei gQ v)
     cases want with
     |true=>obtain⟨t,x,e⟩:=D7;obtain⟨y,v,ae,oj,W⟩:=Zj ht.e e bx;exact fin y v oj ae (.inl ⟨hw,λaw jm=>W aw (by rw[ht.loc,pY,iQ];exact jm)⟩)
     |false=>exact fin (.v undef) undef rfl bx (.inr ⟨hw,rfl⟩)
   ·
    cases lU:Region.ready .any ops listed with
    |nil=>
     have PQ:=lU;rw[lU] at h;have DA:=r1 s u bs a w h M (Step.refl M.sub) (Kept.refl _ _) λ_ _=>rfl;cases g with
     |zero=>exact⟨PQ,DA⟩|succ g=>exact⟨λ_=>DA,by grind⟩
    |cons i0 jN=>
     have ah:Region.ready .any ops listed≠[]:=by rw[lU];simp
     rw[lU] at h;simp only at h;have j0:∃m,g=m+1:=by
      cases g with
      |zero=>exact absurd (aaf (ops:=ops) (by omega)) ah|succ m=>exact⟨m,rfl⟩
     obtain⟨g,rfl⟩:=j0;refine⟨λe=>absurd e ah,λi hi=>?_⟩;have ai:=yS (mem_ready.1 hi).1;have h1:=Uw h i (by rw[<-lU];exact hi);unfold wpOp;have step:∀(wt:Nat->Bool) (e5:an->H->Prop),(∀s1 s2,Kept wt s1 s2->Kept aY s1 s2)->o7 C wt ops s i u e5->
       (∀ei,ops[i]?=some ei->∀b3 aw,jE wt e5 s bs u a w ei.dst b3 aw->(nQ ops i=true->gV eU ew Y w->gV eU ew Y aw)/\sO C.P ops Q (nQ ops) (gV eU ew Y) g (listed.setIfInBounds i true) b3 aw)->
       (match ops[i]? with
        |none=>(nQ ops i=true->gV eU ew Y w->gV eU ew Y w)/\sO C.P ops Q (nQ ops) (gV eU ew Y) g (listed.setIfInBounds i true) a w|some o=>if Region.wanted o (yielded ops a.tmps)=true then(o.wp C.P a w (λb3 aw=>(nQ ops i=true->gV eU ew Y w->gV eU ew Y aw)/\sO C.P ops Q (nQ ops) (gV eU ew Y) g (listed.setIfInBounds i true) b3 aw) Q)∨(o.asks C.P a w/\LetsOut Q)
         else(nQ ops i=true->gV eU ew Y w->gV eU ew Y w)/\sO C.P ops Q (nQ ops) (gV eU ew Y) g (listed.setIfInBounds i true) (a.put o.dst undef) w):=by
      intro wt e5 _ I Eh
      unfold o7 at I
      split at I
      exact I.elim
      rename_i ei gQ
      try rw[gQ]
      show(if Region.wanted ei (yielded ops a.tmps)=true then _ else _)
      rcases VD (Q:=Q) dW M I with⟨hw,h2⟩|⟨hw,h2⟩
      rw[if_pos hw]
      exact .inl (Oper.wp_mono (Eh ei gQ) h2)
      rw[if_neg (by rw[hw];simp)]
      exact Eh ei gQ _ _ h2
     split at h1;rename_i bX;refine step JI _ (λs1 s2 k=>⟨k.n,k.len,λi cs e _=>k.same i cs e rfl⟩) h1 ?_;rintro ei gQ b3 aw ⟨s',u',cd,v,⟨hle,ae⟩,b5,hs,rfl,gE⟩;obtain⟨ext,DQ⟩:=u3;obtain⟨xL,DR,_⟩:=hs.more;have O5:Kept aY s s':=⟨gE.n,gE.len,λi cs e _=>gE.same i cs e rfl⟩;refine⟨λ_ aW=>⟨λj cs e=>?_,b5.sub.mono hle⟩,aG _ false s' u' ae cd _ aw g b5 (E.set hi) (by omega) (λe=>by cases e) ⟨ext++xL,by grind⟩ (r1.next hs O5 (dK i ei gQ v))⟩;obtain⟨b,T,kI,jd⟩:=aW.loc j cs e;have jK:j<ew.length:=by grind
     have DG:bs[j]?=some b:=by grind
     have x7:j<s.loc.length:=by
      rw[<-M.len];rcases Nat.lt_or_ge j bs.length with k|k;exact k
      grind
     obtain⟨xu,T',bJ,e0⟩:=M.loc j _ (List.getElem?_eq_getElem x7);rw[DG] at bJ;cases bJ;rw[jd] at e0;simp only[Option.some.injEq,Obj.cells.injEq] at e0;have kJ:cs=s.loc[j]:=by grind
     have gC:=gE.same j _ (List.getElem?_eq_getElem x7) rfl;obtain⟨eI,fB,k8,kH⟩:=b5.loc j _ gC;refine⟨b,fB,kI,?_⟩;have O1:j<bs.length:=by rw[M.len];exact x7
     rw[DR,List.getElem?_append_left O1,DG] at k8
     grind
     rename_i bX;refine step aY _ (λ_ _ k=>k) h1 ?_;rintro ei gQ b3 aw ⟨s',u',cd,v,ae,b5,hs,rfl,gE⟩;obtain⟨ext,DQ⟩:=u3;obtain⟨xL,DR,_⟩:=hs.more;exact⟨(λe=>by rw[bX] at e;cases e),aG _ false s' u' ae cd _ aw g b5 (E.set hi) (by omega) (λe=>by cases e) ⟨ext++xL,by grind⟩ (r1.next hs gE (dK i ei gQ v))⟩
def lG(ops:Array Oper)(eU:List (List Value))(ew:List Nat)(v0 Y:H)(i:Nat)(w aw:World):Prop:=
 (Bz ops i=true->gV eU ew v0 w->gV eU ew v0 aw)/\(BA ops i=true->gV eU ew Y w->gV eU ew Y aw)
def lG.refl{ops:Array Oper}{v0:H}(i:Nat)(w:World):lG ops eU ew v0 Y i w w:=⟨λ_ h=>h,λ_ h=>h⟩
theorem Vm(dW:Good C){ops:Array Oper}{v0:H}(akN:v0.le Y)(lh:Region.noSelect ops=true)
  (ed:∀c a w,¬Q (.panic c) a w) (aj:∀(o:Oper),o∈ops.toList->∀d,o.dst=some d->ds d=true):
  ∀(f:Nat) (listed:Array Bool) (flag:Bool) (s:an) (u:H),rV C aY ops v0 Y f listed flag s u K->∀(bs:List Nat) (a:Act) (w:World) (g:Nat),Fits s bs u a w->
   sS ops listed->left listed<=g->(flag=true->Y.le u/\s.loc=eU/\bs=ew)->(∃ext,bs=ew++ext)->vF aY s bs u a w ds K (Q .normal)->
   rA C.P ops Q (lG ops eU ew v0 Y) g listed a w:=by
 intro f
 induction f with
 |zero=>intro listed flag s u h;exact h.elim
 |succ f aG=>
  intro listed flag s u h bs a w g M E N DS u3 r1;have dK:∀(i:Nat) (o:Oper),ops[i]?=some o->∀v,∀d,ds d=false->(a.put o.dst v).tmps[d]?=a.tmps[d]?:=λi o U v=>
   RI (aj o (by grind))
  unfold rV at h;split at h
  ·
   rename_i i wo;obtain⟨hi,aa⟩:=HO wo;simp only[Bool.and_eq_true] at aa;have ai:=yS (mem_ready.1 hi).1;obtain⟨g,rfl⟩:∃m,g=m+1:=⟨g-1,by omega⟩;unfold HK at h;split at h;exact h.elim
   .rename_i ei gQ;obtain⟨s',want,bx,ht,hw⟩:=Aj h M.toFitsE;have kK:=M.told ht;have fin:∀y v,fa bs y=some v->rV C aY ops v0 Y f (listed.setIfInBounds i true) flag (s'.put ei.dst y) u K->YieldsIf C.P ops (λ_=>True) ei v a->
      rA C.P ops Q (lG ops eU ew v0 Y) (g+1) listed a w:=by
     intro y v oj ae af
     refine Uy gQ (Region.noSelect_spec lh) ed 0 (T:=λ_=>True) (λw=>lG.refl _ w) (λj=>.inr (.inr λ_ _ _ _=>trivial)) g listed a w E (λj iW aH ah u6 dp=>Region.free_spec gQ aa.2 j iW aH ah u6 dp) hi af trivial ?_
     have mW:=kK.put ei.dst oj
     refine aG _ flag _ u ae bs _ w g mW (E.set hi) (by omega) ?_ u3 ?_
     intro oo
     obtain⟨aO,ar,cq⟩:=DS oo
     exact⟨aO,by rw[(j6 _ _ _).1,ht.loc];exact ar,cq⟩
     exact r1.next (Step.refl M.sub) ((Kept.put aY s' _ _).told ⟨ht.loc,ht.n⟩) (dK i ei gQ v)
    cases want with
    |true=>simp only at bx;split at bx;rename_i lT;obtain⟨y,v,ae,oj,W⟩:=ZS dW ht.e lT bx;exact fin y v oj ae (.inl ⟨hw,λaw _=>W aw⟩);exact bx.elim
    |false=>exact fin (.v undef) undef rfl bx (.inr ⟨hw,rfl⟩)
  .split at h
   ·
    rename_i i wo;obtain⟨hi,aa⟩:=HO wo;simp only[Bool.and_eq_true] at aa;have ai:=yS (mem_ready.1 hi).1;obtain⟨g,rfl⟩:∃m,g=m+1:=⟨g-1,by omega⟩;obtain⟨tB,pY,iQ⟩:=DS rfl;have r6:=aa.1;have key:∀x:H,x.le u->(∀j,j=i∨waits ops ops.size j i=true∨∀w aw,lG ops eU ew v0 Y j w aw->gV eU ew x w->gV eU ew x aw)->
      o7 C aY ops s i x (λs' _=>rV C aY ops v0 Y f (listed.setIfInBounds i true) true s' u K)->rA C.P ops Q (lG ops eU ew v0 Y) (g+1) listed a w:=by
     intro x ak1 aJ h
     unfold o7 at h
     split at h
     exact h.elim
     .rename_i ei gQ;obtain⟨s',want,bx,ht,hw⟩:=Aj h M.toFitsE;have kK:=M.told ht;have N3:gV eU ew x w:=by rw[<-pY,<-iQ];exact⟨M.loc,M.sub.mono ak1⟩
      have D7:∃t x,ei.op=.load t x:=by
       unfold early Ji at r6;rw[gQ] at r6;simp only[Bool.and_eq_true] at r6;have h1:=r6.1;split at h1
       grind
       cases h1
      have fin:∀y v,fa bs y=some v->rV C aY ops v0 Y f (listed.setIfInBounds i true) true (s'.put ei.dst y) u K->YieldsIf C.P ops (gV eU ew x) ei v a->
        rA C.P ops Q (lG ops eU ew v0 Y) (g+1) listed a w:=by
       intro y v oj ae af
       refine Uy gQ (Region.noSelect_spec lh) ed ops.size (T:=gV eU ew x) (λw=>lG.refl _ w) aJ g listed a w E (λj iW aH ah u6 dp=>Region.free_spec gQ aa.2 j iW aH ah u6 dp) hi af N3 ?_
       have mW:=kK.put ei.dst oj
       refine aG _ true _ u ae bs _ w g mW (E.set hi) (by omega) ?_ u3 ?_
       exact λ_=>⟨tB,by rw[(j6 _ _ _).1,ht.loc];exact pY,iQ⟩
       exact r1.next (Step.refl M.sub) ((Kept.put aY s' _ _).told ⟨ht.loc,ht.n⟩) (dK i ei gQ v)
      cases want with
      |true=>obtain⟨t,iA,e⟩:=D7;obtain⟨y,v,ae,oj,W⟩:=Zj ht.e e bx;exact fin y v oj ae (.inl ⟨hw,λaw jm=>W aw (by rw[ht.loc,pY,iQ];exact jm)⟩)
      |false=>exact fin (.v undef) undef rfl bx (.inr ⟨hw,rfl⟩)
    have bh:i<ops.size:=by
     unfold early Ji at r6;rcases Nat.lt_or_ge i ops.size with k|k;exact k
     grind
    have beq:∀j,(!(Nat.beq i j))=false->j=i:=λj Z=>by
     simp_all
    split at h;rename_i hs;refine key Y tB (λj=>?_) h;by_cases ac:BA ops j=true;exact .inr (.inr λw aw W=>W.2 ac);have im:BA ops j=false:=by grind
    unfold BA at im
    grind
    rename_i hs;refine key v0 (akN.trans tB) (λj=>?_) h;by_cases ac:Bz ops j=true;exact .inr (.inr λw aw W=>W.1 ac);have im:Bz ops j=false:=by grind
    unfold Bz at im
    grind
   ·
    cases lU:Region.ready .any ops listed with
    |nil=>
     have PQ:=lU;rw[lU] at h;have DA:=r1 s u bs a w h M (Step.refl M.sub) (Kept.refl _ _) λ_ _=>rfl;cases g with
     |zero=>exact⟨PQ,DA⟩|succ g=>exact⟨λ_=>DA,by grind⟩
    |cons i0 jN=>
     have ah:Region.ready .any ops listed≠[]:=by rw[lU];simp
     rw[lU] at h;simp only at h;have j0:∃m,g=m+1:=by
      cases g with
      |zero=>exact absurd (aaf (ops:=ops) (by omega)) ah|succ m=>exact⟨m,rfl⟩
     obtain⟨g,rfl⟩:=j0;refine⟨λe=>absurd e ah,λi hi=>?_⟩;have ai:=yS (mem_ready.1 hi).1;have h1:=Uw h i (by rw[<-lU];exact hi);unfold wpOp;have step:∀(wt:Nat->Bool) (e5:an->H->Prop),(∀s1 s2,Kept wt s1 s2->Kept aY s1 s2)->o7 C wt ops s i u e5->
       (∀ei,ops[i]?=some ei->∀b3 aw,jE wt e5 s bs u a w ei.dst b3 aw->lG ops eU ew v0 Y i w aw/\rA C.P ops Q (lG ops eU ew v0 Y) g (listed.setIfInBounds i true) b3 aw)->
       (match ops[i]? with
        |none=>lG ops eU ew v0 Y i w w/\rA C.P ops Q (lG ops eU ew v0 Y) g (listed.setIfInBounds i true) a w|some o=>if Region.wanted o (yielded ops a.tmps)=true then(o.wp C.P a w (λb3 aw=>lG ops eU ew v0 Y i w aw/\rA C.P ops Q (lG ops eU ew v0 Y) g (listed.setIfInBounds i true) b3 aw) Q)∨(o.asks C.P a w/\LetsOut Q)
         else lG ops eU ew v0 Y i w w/\rA C.P ops Q (lG ops eU ew v0 Y) g (listed.setIfInBounds i true) (a.put o.dst undef) w):=by
      intro wt e5 _ I Eh
      unfold o7 at I
      split at I
      exact I.elim
      rename_i ei gQ
      try rw[gQ]
      show(if Region.wanted ei (yielded ops a.tmps)=true then _ else _)
      rcases VD (Q:=Q) dW M I with⟨hw,h2⟩|⟨hw,h2⟩
      rw[if_pos hw]
      exact .inl (Oper.wp_mono (Eh ei gQ) h2)
      rw[if_neg (by rw[hw];simp)]
      exact Eh ei gQ _ _ h2
     split at h1;rename_i bX;refine step JI _ (λs1 s2 k=>⟨k.n,k.len,λi cs e _=>k.same i cs e rfl⟩) h1 ?_;rintro ei gQ b3 aw ⟨s',u',cd,v,kI,b5,hs,rfl,gE⟩;have jd:=YH kI;have ae:=YH jd;obtain⟨ext,DQ⟩:=u3;obtain⟨xL,DR,_⟩:=hs.more;have O5:Kept aY s s':=⟨gE.n,gE.len,λi cs e _=>gE.same i cs e rfl⟩;have stay:∀x:H,x.le u'->gV eU ew x w->gV eU ew x aw:=by
      intro x hle aW;refine⟨λj cs e=>?_,b5.sub.mono hle⟩;obtain⟨b,T,kI,jd⟩:=aW.loc j cs e;have jK:j<ew.length:=by grind
      have DG:bs[j]?=some b:=by grind
      have x7:j<s.loc.length:=by
       rw[<-M.len];rcases Nat.lt_or_ge j bs.length with k|k;exact k
       grind
      obtain⟨xu,T',bJ,e0⟩:=M.loc j _ (List.getElem?_eq_getElem x7);rw[DG] at bJ;cases bJ;rw[jd] at e0;simp only[Option.some.injEq,Obj.cells.injEq] at e0;have kJ:cs=s.loc[j]:=by grind
      have gC:=gE.same j _ (List.getElem?_eq_getElem x7) rfl;obtain⟨eI,fB,k8,kH⟩:=b5.loc j _ gC;refine⟨b,fB,kI,?_⟩;have O1:j<bs.length:=by rw[M.len];exact x7
      rw[DR,List.getElem?_append_left O1,DG] at k8;cases k8;rw[kJ];exact kH
     exact⟨⟨λac=>stay v0 (YG kI ac),λac=>stay Y (YG jd ac)⟩,aG _ false s' u' ae cd _ aw g b5 (E.set hi) (by omega) (λe=>by cases e) ⟨ext++xL,by grind⟩ (r1.next hs O5 (dK i ei gQ v))⟩;rename_i bX;refine step aY _ (λ_ _ k=>k) h1 ?_;rintro ei gQ b3 aw ⟨s',u',cd,v,ae,b5,hs,rfl,gE⟩;obtain⟨ext,DQ⟩:=u3;obtain⟨xL,DR,_⟩:=hs.more;rw[Bool.or_eq_false_iff] at bX;exact⟨⟨λe=>(by rw[bX.1] at e;cases e),λe=>(by rw[bX.2] at e;cases e)⟩,aG _ false s' u' ae cd _ aw g b5 (E.set hi) (by omega) (λe=>by cases e) ⟨ext++xL,by grind⟩ (r1.next hs gE (dK i ei gQ v))⟩
end
end
