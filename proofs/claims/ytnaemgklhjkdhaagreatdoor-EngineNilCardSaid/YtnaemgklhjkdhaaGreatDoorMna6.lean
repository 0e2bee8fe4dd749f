/- Texts of mine, joined and packed by pack.py. -/
import Derived.Test.YtnaemgklhjkdhaaGreatDoorMna5
import Derived.Laws.NewFold
import Derived.Maps.RangeRun
import Derived.Laws.IdiomCopy
import Derived.Lib.ConvBytes
import Derived.Laws.BytesString
import Derived.Laws.Externs
import Derived.Shelf.SlSortCmp.WholeK
import Derived.Shelf.SlSortCmp.Whole1
import Derived.Shelf.SortG.Plain
import Derived.Shelf.SortG.SortNone
import Derived.Shelf.SlGeneric
import Derived.Test.YtnaemgklhjkdhaaGreatDoorProg
set_option linter.all false
set_option maxRecDepth 100000
noncomputable section
namespace Go.Proofs.YtnaemgklhjkdhaaGreatDoor
open H
section
variable{u u' Y:H}{b c:Nat}{D:Nat->Prop}{s:J}
def sV:H:=λ_=>none
def adO(u:H):sV.le u:=λ_ _ h=>by cases h
def Own.f{e k:Nat}{xs:List Value}(h:Own u e k s xs):aE sV u e k s xs:=⟨h,adO u,λ_ _=>rfl⟩
def H.vo(u:H)(s:J):H:=λc=>open Classical in if s.ad=some c then none else u c
def rm(h:s.ad≠some c):H.vo u s c=u c:=if_neg h
theorem R3(u:H)(s:J):(H.vo u s).le u:=λc o h=>by
 unfold H.vo at h
 grind
theorem axv{o:Obj}(h:H.vo u s c=some o):u c=some o/\s.ad≠some c:=by
 unfold H.vo at h
 grind
section
variable {aN ak:Type}
structure rG(A:(Nat->Option aN)->H->Nat->ak->Prop):Prop where
 bd:∀{ab aM:Nat->Option aN} {u u':H} {b:Nat} {T:ak},A ab u b T->(∀c,ab c≠none->aM c=ab c)->(∀c o,u c=some o->ab c≠none->u' c=some o)->A aM u' b T
structure jT(A:(Nat->Option aN)->H->Nat->ak->Prop)(Y u:H)(ab:Nat->Option aN)(b:Nat)(T:ak):Prop where
 az:A ab u b T
 le:Y.le u
 out:∀c,ab c≠none->Y c=none
 known:∀c,ab c≠none->u c≠none
structure gu(u:H)(ab:Nat->Option aN)(u':H)(aM:Nat->Option aN):Prop where
 bd:∀c o,u c=some o->ab c=none->u' c=some o
 grow:∀c,aM c≠none->ab c≠none∨u c=none
variable {A:(Nat->Option aN)->H->Nat->ak->Prop}
omit A in
theorem gu.mono{ab:Nat->Option aN}(h:u.le u'):gu u ab u' ab:=⟨λc o E _=>h c o E,λ_ h=>.inl h⟩
omit A in
theorem gu.off{ab aM:Nat->Option aN}(h:gu u ab u' aM){o:Obj}(E:u c=some o)(M:ab c=none):aM c=none:=by
 cases e:aM c with
 |none=>rfl|some t=>
  rcases h.grow c (by rw[e];simp) with h1|h1;exact absurd M h1
  grind
omit A in
theorem gu.trans{aI bE:H}{ab cX gd:Nat->Option aN}(h:gu u ab aI cX)(k:gu aI cX bE gd):gu u ab bE gd where
 bd c o E M:=k.bd c o (h.bd c o E M) (h.off E M)
 grow c E:=by
  rcases k.grow c E with h1|h1;exact h.grow c h1;cases e:ab c with
  |some x=>exact .inl (by simp)|none=>
   cases ar:u c with
   |none=>exact .inr rfl|some o=>rw[h.bd c o ar e] at h1;cases h1
omit A in
theorem gu.tag{ab aM gd:Nat->Option aN}(h:gu u ab u' aM)(k:∀c,gd c=aM c∨ab c≠none∨u c=none):gu u ab u' gd where
 bd:=h.bd
 grow c E:=by rcases k c with h1|h1;rw[h1] at E;exact h.grow c E;exact h1
def jT.same(hk:rG A){ab:Nat->Option aN}{T:ak}(h:jT A Y u ab b T)(hu:∀c o,u c=some o->ab c≠none->u' c=some o)(hle:Y.le u'):jT A Y u' ab b T:=
 ⟨hk.bd h.az (λ_ _=>rfl) hu,hle,h.out,λc E=>by obtain⟨o,U⟩:=Option.ne_none_iff_exists'.1 (h.known c E);rw[hu c o U E];simp⟩
def jT.mono(hk:rG A){ab:Nat->Option aN}{T:ak}(h:jT A Y u ab b T)(hu:u.le u'):jT A Y u' ab b T:=h.same hk (λc o E _=>hu c o E) (h.le.trans hu)
def jT.fresh{ab:Nat->Option aN}{T:ak}(h:jT A Y u ab b T)(E:u c=none):ab c=none:=by
 cases e:ab c with
 |none=>rfl|some t=>exact absurd E (h.known c (by rw[e];simp))
theorem jT.tag(hk:rG A){ab:Nat->Option aN}{T:ak}(h:jT A Y u ab b T)(S:Nat->Option aN)(hs:∀c,S c≠none->ab c=none/\Y c=none/\u c≠none):
  ∃aM,jT A Y u aM b T/\(∀c t,S c=some t->aM c=some t)/\(∀c,S c=none->aM c=ab c):=by
 let aM:Nat->Option aN:=λc=>match S c with|some t=>some t|none=>ab c
 have aO:∀c t,S c=some t->aM c=some t:=λc t E=>by simp only[aM,E]
 have ar:∀c,S c=none->aM c=ab c:=λc E=>by simp only[aM,E]
 have cq:∀c,ab c≠none->aM c=ab c:=λc E=>by
  grind
 refine⟨aM,⟨hk.bd h.az cq λ_ _ U _=>U,h.le,λc E=>?_,λc E=>?_⟩,aO,ar⟩
 cases e:S c with
 |none=>rw[ar c e] at E;exact h.out c E
 |some t=>grind
 cases e:S c with
 |none=>rw[ar c e] at E;exact h.known c E
 |some t=>grind
def J.sL(s:J)(t:aN):Nat->Option aN:=λc=>if s.ad=some c then some t else none
omit A in
theorem J.aqS{t:aN}(h:s.ad=some c):s.sL t c=some t:=if_pos h
omit A in
theorem J.aqT{t:aN}(h:s.ad≠some c):s.sL t c=none:=if_neg h
omit A in
theorem J.abU{t:aN}(h:s.sL t c≠none):s.ad=some c:=by by_cases e:s.ad=some c;exact e;exact absurd (J.aqT e) h
structure hT(A:(Nat->Option aN)->H->Nat->ak->Prop)(Ok:ak->Prop)(Y u:H)(D:Nat->Prop)(b:Nat)(X:ak):Prop where
 ex:∃ab,(∀c,D c↔ab c≠none)/\jT A Y u ab b X/\Ok X
end
structure cD(u:H)(D:Nat->Prop)(u':H)(D':Nat->Prop):Prop where
 bd:∀c o,u c=some o->¬D c->u' c=some o
 grow:∀c,D' c->D c∨u c=none
def cD.mono(h:u.le u'):cD u D u' D:=⟨λc o E _=>h c o E,λ_ h=>.inl h⟩
theorem cD.trans{aI bE:H}{oU CA:Nat->Prop}(h:cD u D aI oU)(k:cD aI oU bE CA):cD u D bE CA where
 bd c o E M:=k.bd c o (h.bd c o E M) λaj=>by
  rcases h.grow c aj with h1|h1;exact M h1
  grind
 grow c E:=by
  rcases k.grow c E with h1|h1;exact h.grow c h1;by_cases e:D c;exact .inl e;right;cases ar:u c with
  |none=>rfl|some o=>rw[h.bd c o ar e] at h1;cases h1
theorem cD.apart{v:H}{D':Nat->Prop}(h:cD u D u' D')(av:v.le u)(aj:∀c,D c->v c=none):v.le u'/\∀c,D' c->v c=none:=by
 refine⟨λc o E=>h.bd c o (av c o E) λe=>?_,λc E=>?_⟩
 grind
 rcases h.grow c E with h1|h1;exact aj c h1;exact av.none h1
section
variable {aN ak:Type} {A:(Nat->Option aN)->H->Nat->ak->Prop} {Ok:ak->Prop}
def Bc{ab:Nat->Option aN}{T:ak}(h:jT A Y u ab b T)(aJ:Ok T):hT A Ok Y u (λc=>ab c≠none) b T:=⟨ab,λ_=>Iff.rfl,h,aJ⟩
omit A Ok in
theorem KN{ab aM:Nat->Option aN}(fb:∀c,D c↔ab c≠none)(h:gu u ab u' aM):cD u D u' (λc=>aM c≠none) where
 bd c o E M:=h.bd c o E (by
  grind)
 grow c E:=(h.grow c E).imp (fb c).2 λh=>h
def hT.base{X:ak}(h:hT A Ok Y u D b X):Y.le u/\(∀c,D c->Y c=none)/\∀c,D c->u c≠none:=by obtain⟨ab,h1,h2,_⟩:=h.ex;exact⟨h2.le,λc E=>h2.out c ((h1 c).1 E),λc E=>h2.known c ((h1 c).1 E)⟩
def hT.same(hk:rG A){X:ak}(h:hT A Ok Y u D b X)(hu:∀c o,u c=some o->D c->u' c=some o)(hle:Y.le u'):hT A Ok Y u' D b X:=by obtain⟨ab,h1,h2,h3⟩:=h.ex;exact⟨ab,h1,h2.same hk (λc o E M=>hu c o E ((h1 c).2 M)) hle,h3⟩
def hT.mono(hk:rG A){X:ak}(h:hT A Ok Y u D b X)(hu:u.le u'):hT A Ok Y u' D b X:=h.same hk (λc o E _=>hu c o E) (h.base.1.trans hu)
def hT.lx{v:H}{X:ak}(h:hT A Ok Y u D b X)(av:v.le Y):hT A Ok v u D b X:=by
 obtain⟨ab,h1,h2,h3⟩:=h.ex;exact⟨ab,h1,⟨h2.az,av.trans h2.le,λc E=>by
  cases I:v c with
  |none=>rfl|some o=>have:=av _ _ I;rw[h2.out c E] at this;exact(nomatch this),h2.known⟩,h3⟩
end
end
section
variable{u u':H}{b r:Nat}{P:Program}{t k e:TypeId}{z v:Value}
class fA (κ:Type) [DecidableEq κ] where
 enc:κ->Value
 desc:TypeDesc
 inj:∀{a b:κ},enc a=enc b->a=b
 same:∀a b:κ,Instr.sameNow desc (enc a) (enc b)=some (a==b)
 bits:∀a:κ,Instr.sameBits 10000 (enc a) (enc a)=true
 check:∀{P:Program} {t:TypeId},P.underlying t=some desc->∀(b:Bool) (x:κ) (w:World),(Instr.checkKey b (9999+1) t (enc x)).run P w=.ok () w
instance:fA Int where
 enc:=.int .i64
 desc:=.int .i64
 inj h:=by cases h;rfl
 same _ _:=rfl
 bits _:=by simp[Instr.sameBits]
 check h b x w:=by unfold Instr.checkKey;simp[Sem.run_bind,run_underlying h,Result.andThen]
def UI(a b:ByteArray):@BEq.beq ByteArray ByteArray.instBEq a b=decide (a=b):=by rw[Bool.eq_iff_iff,decide_eq_true_iff];obtain⟨a⟩:=a;obtain⟨b⟩:=b;show(a==b)=true↔_;simp
instance:fA ByteArray where
 enc:=.string
 desc:=.string
 inj h:=by cases h;rfl
 same a b:=by simp only[Instr.sameNow,UI];rfl
 bits _:=by simp[Instr.sameBits,UI]
 check h b x w:=by unfold Instr.checkKey;simp[Sem.run_bind,run_underlying h,Result.andThen]
variable {κ:Type} [DecidableEq κ] [fA κ]
def MapEntry.gy(e:MapEntry):Value×Value:=(e.key,e.val)
def kt(p:κ×Value):Value×Value:=(fA.enc p.1,p.2)
def QT{p q:κ×Value}(h:kt p=kt q):p=q:=by cases p;cases q;simp only[kt,Prod.mk.injEq] at h;rw[fA.inj h.1,h.2]
structure Uf(es:Array MapEntry)(clock:Nat)(l:List (κ×Value)):Prop where
 gy:es.toList.map MapEntry.gy=l.map kt
 born:(es.toList.map (·.born)).Nodup
 lt:∀e∈es.toList,e.born<clock
 nodup:(l.map (·.1)).Nodup
def dI(u:H)(b:Nat)(l:List (κ×Value)):Prop:=∃es clock,u b=some (.map es clock)/\Uf es clock l
def dI.mono{l:List (κ×Value)}(h:dI u b l)(hu:u.le u'):dI u' b l:=by obtain⟨es,c,h1,h2⟩:=h;exact⟨es,c,hu _ _ h1,h2⟩
def dI.else{l:List (κ×Value)}(h:dI u b l)(hu:∀o,u b=some o->u' b=some o):dI u' b l:=by obtain⟨es,c,h1,h2⟩:=h;exact⟨es,c,hu _ h1,h2⟩
def eF(l:List (κ×Value))(x:κ):Option Value:=(l.find? λp=>p.1==x).map (·.2)
def Dh{l:List (κ×Value)}{x:κ}(h:eF l x=some v):(x,v)∈l:=by
 unfold eF at h;cases M:l.find? λp=>p.1==x with
 |none=>rw[M] at h;cases h
 |some p=>
  rw[M] at h;have h1:=List.find?_some M;have h2:=List.mem_of_find?_eq_some M;simp only[Option.map_some,Option.some.injEq] at h;have:p.1=x:=by simpa using h1
  rw[<-this,<-h];exact h2
def tm{l:List (κ×Value)}{x:κ}:eF l x=none↔x∉l.map (·.1):=by unfold eF;rw[Option.map_eq_none_iff,List.find?_eq_none];simp only[beq_iff_eq,List.mem_map,Prod.exists,exists_and_right,exists_eq_right,not_exists,Prod.forall];exact⟨λh v hm=>h x v hm rfl,λh a b hm e=>h b (e▸hm)⟩
def HV{l:List (κ×Value)}(ac:(l.map (·.1)).Nodup){x:κ}:eF l x=some v↔(x,v)∈l:=by
 refine⟨Dh,λh=>?_⟩;cases N:eF l x with
 |none=>exact absurd (List.mem_map.2 ⟨_,h,rfl⟩) (tm.1 N)|some bH=>
  have bx:=Dh N;have:∀{l:List (κ×Value)},(l.map (·.1)).Nodup->(x,v)∈l->(x,bH)∈l->v=bH:=by
   intro l;induction l with
   |nil=>intro _ h;cases h
   |cons p l aG=>intro ac h1 h2;have h3:=List.nodup_cons.1 ac;rcases List.mem_cons.1 h1 with aO|h1;rcases List.mem_cons.1 h2 with ar|h2;rw[<-ar] at aO;cases aO;rfl;exact(h3.1 (List.mem_map.2 ⟨_,h2,by rw[<-aO]⟩)).elim;rcases List.mem_cons.1 h2 with ar|h2;exact(h3.1 (List.mem_map.2 ⟨_,h1,by rw[<-ar]⟩)).elim;exact aG h3.2 h1 h2
  rw[this ac h bx]
def agD(x:κ):∀(es:List MapEntry) (l:List (κ×Value)) (i:Nat),es.map MapEntry.gy=l.map kt->
  (eF l x=none->Instr.findNow (fA.desc κ) (fA.enc x) es i=some none)/\(∀v,eF l x=some v->∃j,Instr.findNow (fA.desc κ) (fA.enc x) es i=some (some (i+j,v))/\l[j]?=some (x,v)):=by
 intro es
 induction es with
 |nil=>
  intro l i h;have:l=[]:=by simpa using h.symm
  subst this;exact⟨λ_=>rfl,λv av=>(by simp[eF] at av)⟩
 |cons e es aG=>
  intro l i h;cases l with
  |nil=>simp at h|cons y l=>
   simp only[List.map_cons,List.cons.injEq,MapEntry.gy,kt,Prod.mk.injEq] at h;obtain⟨⟨hk,av⟩,W⟩:=h;obtain⟨i1,i2⟩:=aG l (i+1) W;unfold Instr.findNow;rw[hk,av];simp only[fA.same];by_cases mx:y.1=x;have Z:(x==y.1)=true:=by simpa using mx.symm
   have N:eF (y::l) x=some y.2:=by simp[eF,mx]
   rw[Z,N];refine⟨λh=>(by cases h),λv av=>⟨0,?_,?_⟩⟩;cases av;rfl;cases av;simp[<-mx];have Z:(x==y.1)=false:=by simpa using λh=>mx h.symm
   have N:eF (y::l) x=eF l x:=by
    have:(y.1==x)=false:=by simpa using mx
    simp[eF,List.find?_cons,this]
   rw[Z,N];refine⟨i1,λv av=>?_⟩;obtain⟨j,h1,h2⟩:=i2 v av;exact⟨j+1,by rw[h1,show i+1+j=i+(j+1) by omega],by simpa using h2⟩
structure n3(κ:Type)[DecidableEq κ][fA κ](P:Program)(t k e:TypeId)(z:Value):Prop where
 eO:P.underlying t=some (.map k e)
 key:P.underlying k=some (fA.desc κ)
 zero:∀w,(zeroValue e).run P w=.ok z w
abbrev vI:=n3 Int
def n3.check(T:n3 κ P t k e z)(b:Bool)(x:κ)(w:World):(Instr.checkKey b 10000 k (fA.enc x)).run P w=.ok () w:=by exact fA.check T.key b x w
def n3.find(T:n3 κ P t k e z){es:Array MapEntry}{l:List (κ×Value)}(h:es.toList.map MapEntry.gy=l.map kt)(x:κ)(w:World):
  (eF l x=none->(Instr.findKey k (fA.enc x) es.toList).run P w=.ok none w)/\(∀v,eF l x=some v->∃j,(Instr.findKey k (fA.enc x) es.toList).run P w=.ok (some (j,v)) w/\l[j]?=some (x,v)):=by
 obtain⟨h1,h2⟩:=agD x es.toList l 0 h
 constructor
 intro I
 simp[Instr.findKey,Sem.run_bind,run_underlying T.key,Result.andThen,h1 I]
 intro v av
 obtain⟨j,aH,ai⟩:=h2 v av
 rw[Nat.zero_add] at aH
 exact⟨j,by simp[Instr.findKey,Sem.run_bind,run_underlying T.key,Result.andThen,aH],ai⟩
def Sa(T:n3 κ P t k e z){l:List (κ×Value)}(h:dI u b l){x:κ}{ct:al}(y:ct.den)(af:(eF l x).getD z=ct.enc y){K:ct.den->H->Prop}(ae:K y u):
  cx P (Instr.lookup t (.map (some b)) (fA.enc x) false) [.one ct] u K:=by
 obtain⟨es,c,Z,ai⟩:=h
 refine .rf (c:=ct) y (λw hw=>?_) ae
 have N:=MapKept.run_getObj_map (P:=P) (hw _ _ Z)
 have E:=T.check es.isEmpty x w
 obtain⟨f1,f2⟩:=T.find ai.gy x w
 cases I:eF l x with
 |none=>rw[I] at af;have jL:z=ct.enc y:=af;simp[Instr.lookup,Sem.run_bind,run_underlying T.eO,N,E,f1 I,Result.andThen,T.zero,jL]
 |some v=>rw[I] at af;have jL:v=ct.enc y:=af;obtain⟨j,aH,_⟩:=f2 v I;simp[Instr.lookup,Sem.run_bind,run_underlying T.eO,N,E,aH,Result.andThen,jL]
def cx.aq5{m:Sem Value}{c d:al}{K:c.den->d.den->H->Prop}(x:c.den)(y:d.den)(h:∀w,Sub u w->m.run P w=.ok (.tuple #[c.enc x,d.enc y]) w)(ae:K x y u):cx P m [.one c,.one d] u K:=by intro w hw;exact⟨_,w,u,h w hw,⟨[c.enc x,d.enc y],.cons x (.cons y .nil),rfl,(al.nX c x _).2 ((al.nX d y _).2 ae)⟩,Step.refl hw⟩
def mE(T:n3 κ P t k e z){l:List (κ×Value)}(h:dI u b l){x:κ}{ct:al}(y:ct.den)(af:(eF l x).getD z=ct.enc y){K:ct.den->Bool->H->Prop}(ae:K y (eF l x).isSome u):
  cx P (Instr.lookup t (.map (some b)) (fA.enc x) true) [.one ct,.one .bool] u K:=by
 obtain⟨es,c,Z,ai⟩:=h
 refine cx.aq5 (c:=ct) (d:=.bool) y _ (λw hw=>?_) ae
 have N:=MapKept.run_getObj_map (P:=P) (hw _ _ Z)
 have E:=T.check es.isEmpty x w
 obtain⟨f1,f2⟩:=T.find ai.gy x w
 cases I:eF l x with
 |none=>rw[I] at af;have jL:z=ct.enc y:=af;simp[Instr.lookup,Sem.run_bind,run_underlying T.eO,N,E,f1 I,Result.andThen,T.zero,jL,al.enc]
 |some v=>rw[I] at af;have jL:v=ct.enc y:=af;obtain⟨j,aH,_⟩:=f2 v I;simp[Instr.lookup,Sem.run_bind,run_underlying T.eO,N,E,aH,Result.andThen,jL,al.enc]
def y8(T:n3 κ P t k e z){l:List (κ×Value)}(h:dI u b l){x:κ}(I:eF l x=none){K:H->Prop}
  (ae:∀o,dI (u.ins b o) b (l++ [(x,v)])->K (u.ins b o)):
  cx P (unit (Instr.mapUpdate t (.map (some b)) (fA.enc x) v)) [] u K:=by
 obtain⟨es,c,Z,ai⟩:=h
 intro w hw
 have N:=MapKept.run_getObj_map (P:=P) (hw _ _ Z)
 have aH:=(T.find ai.gy x w).1 I
 have E:=T.check false x w
 have iL:=MapKept.run_setObj_map (P:=P) (.map (es.push {key:=fA.enc x,val:=v,born:=c}) (c+1)) (hw _ _ Z)
 refine⟨_,_,u.ins b (.map (es.push {key:=fA.enc x,val:=v,born:=c}) (c+1)),?_,⟨[],.nil,rfl,ae _ ⟨_,_,aS _ _ _,?_,?_,?_,?_⟩⟩,step_block hw Z _⟩
 simp[unit,Instr.mapUpdate,Sem.run_bind,run_underlying T.eO,N,E,aH,Result.andThen,iL]
 rfl
 simp[ai.gy,MapEntry.gy,kt]
 rw[Array.toList_push,List.map_append]
 refine List.nodup_append.2 ⟨ai.born,by simp,λa ap d aj=>?_⟩
 obtain⟨dz,he,rfl⟩:=List.mem_map.1 ap
 have:=ai.lt dz he
 simp only[List.map_cons,List.map_nil,List.mem_singleton] at aj
 omega
 intro dz he
 rw[Array.toList_push] at he
 rcases List.mem_append.1 he with he|he
 have:=ai.lt dz he;omega
 obtain rfl:dz=_:=by simpa using he
 exact Nat.lt_succ_self c
 rw[List.map_append]
 refine List.nodup_append.2 ⟨ai.nodup,by simp,λa ap d aj=>?_⟩
 have:=tm.1 I
 simp only[List.map_cons,List.map_nil,List.mem_singleton] at aj
 exact λe=>this (by rw[<-aj,<-e];exact ap)
def erase_filter{l:List (κ×Value)}(ac:(l.map (·.1)).Nodup){j:Nat}{x:κ}(h:l[j]?=some (x,v)):l.eraseIdx j=l.filter λp=>p.1 !=x:=by
 induction l generalizing j with
 |nil=>simp at h|cons p l aG=>
  have h3:=List.nodup_cons.1 ac;cases j with
  |zero=>
   simp only[List.getElem?_cons_zero,Option.some.injEq] at h;subst h;have:l.filter (λp=>p.1 !=x)=l:=List.filter_eq_self.2 λq ay=>by have:q.1≠x:=λe=>h3.1 (List.mem_map.2 ⟨q,ay,e⟩);simpa using this
   simp[this]|succ j=>simp only[List.getElem?_cons_succ] at h;have aa:p.1≠x:=λe=>h3.1 (List.mem_map.2 ⟨_,List.mem_of_getElem? h,e.symm⟩);rw[List.eraseIdx_cons_succ,aG h3.2 h,List.filter_cons_of_pos (by simpa using aa)]
def B0{T' QO:TypeId}(T:n3 κ P t k e z){l:List (κ×Value)}(h:dI u b l){x:κ}{K:H->Prop}
  (ae:∀o,dI (u.ins b o) b (l.filter λp=>p.1 !=x)->K (u.ins b o)):
  cx P (Builtin.delete_ #[t,QO] T' #[.map (some b),fA.enc x]) [] u K:=by
 obtain⟨es,c,Z,ai⟩:=h
 intro w hw
 have N:=MapKept.run_getObj_map (P:=P) (hw _ _ Z)
 have E:=T.check es.isEmpty x w
 obtain⟨f1,f2⟩:=T.find ai.gy x w
 cases I:eF l x with
 |none=>
  have iL:=MapKept.run_setObj_map (P:=P) (.map es c) (hw _ _ Z);have M:l.filter (λp=>p.1 !=x)=l:=List.filter_eq_self.2 λq ay=>by have:q.1≠x:=λe=>tm.1 I (List.mem_map.2 ⟨q,ay,e⟩);simpa using this
  refine⟨_,_,u.ins b (.map es c),?_,⟨[],.nil,rfl,ae _ ⟨_,_,aS _ _ _,by rw[M];exact ai⟩⟩,step_block hw Z _⟩;simp[Builtin.delete_,Sem.run_bind,run_underlying T.eO,N,E,f1 I,Result.andThen,iL];rfl
 |some v=>
  obtain⟨j,aH,IB⟩:=f2 v I;have iL:=MapKept.run_setObj_map (P:=P) (.map (es.eraseIdxIfInBounds j) c) (hw _ _ Z);have het:(es.eraseIdxIfInBounds j).toList=es.toList.eraseIdx j:=by simp
  have gH:(es.toList.eraseIdx j).Sublist es.toList:=List.eraseIdx_sublist _ _;refine⟨_,_,u.ins b (.map (es.eraseIdxIfInBounds j) c),?_,⟨[],.nil,rfl,ae _ ⟨_,_,aS _ _ _,?_,?_,?_,?_⟩⟩,step_block hw Z _⟩;simp[Builtin.delete_,Sem.run_bind,run_underlying T.eO,N,E,aH,Result.andThen,iL];rfl;have key:∀{α β:Type} (f:α->β) (L:List α) (j:Nat),(L.eraseIdx j).map f=(L.map f).eraseIdx j:=by
    intro α β f L;induction L with
    |nil=>intro j;rfl
    |cons a L aG=>intro j;cases j with
     |zero=>rfl|succ j=>simp[aG j]
  rw[het,key,ai.gy,<-key,erase_filter ai.nodup IB];rw[het];exact ai.born.sublist (gH.map _);intro dz he;rw[het] at he;exact ai.lt dz (gH.mem he);exact ai.nodup.sublist (List.Sublist.map _ List.filter_sublist)
def sH{T':TypeId}(T:n3 κ P t k e z){l:List (κ×Value)}(h:dI u b l){K:Int->H->Prop}(ae:K l.length u):
  cx P (Builtin.len_ #[t] T' #[.map (some b)]) [.one (.int .i64)] u K:=by
 obtain⟨es,c,Z,ai⟩:=h
 have hlen:es.size=l.length:=by have:=congrArg List.length ai.gy;simpa using this
 refine .rf (c:=.int .i64) (l.length:Int) (λw hw=>?_) ae
 have N:=MapKept.run_getObj_map (P:=P) (hw _ _ Z)
 simp[Builtin.len_,Sem.run_bind,run_underlying T.eO,N,Result.andThen,hlen]
 rfl
def Ka(κ:Type)[DecidableEq κ][fA κ]{K:Option Nat->H->Prop}(ae:∀b o,u b=none->dI (u.ins b o) b ([]:List (κ×Value))->K (some b) (u.ins b o)):cx P (Instr.makeMap t none) [.one .map] u K:=
 .one (c:=.map) λw hw=>⟨some w.heap.size,_,_,Go.RowKit.run_makeMap t w,ae _ _ (hw.none (Nat.le_refl _)) ⟨#[],0,aS _ _ _,rfl,by simp,by simp,by simp⟩,Step.ra hw _⟩
def J9{K:Option Nat->H->Prop}(ae:∀b o,u b=none->dI (u.ins b o) b ([]:List (Int×Value))->K (some b) (u.ins b o)):cx P (Instr.makeMap t none) [.one .map] u K:=Ka Int ae
def jU(u:H)(r b:Nat)(l dl:List (κ×Value)):Prop:=
 ∃es clock seen,u b=some (.map es clock)/\Uf es clock l/\u r=some (.mapIter (some b) clock seen clock)/\
  ∃ds:List MapEntry,seen.toList=ds.map (·.born)/\ds.map MapEntry.gy=dl.map kt/\(∀d∈ds,d∈es.toList)/\(dl.map (·.1)).Nodup
def jU.else{l dl:List (κ×Value)}(h:jU u r b l dl)(Z:∀o,u b=some o->u' b=some o)(W:∀o,u r=some o->u' r=some o):jU u' r b l dl:=by obtain⟨es,c,seen,h1,h2,h3,aZ⟩:=h;exact⟨es,c,seen,Z _ h1,h2,W _ h3,aZ⟩
def jU.map{l dl:List (κ×Value)}(h:jU u r b l dl):dI u b l:=by obtain⟨es,c,seen,h1,h2,_⟩:=h;exact⟨es,c,h1,h2⟩
def jU.sub{l dl:List (κ×Value)}(h:jU u r b l dl):∀p∈dl,p∈l:=by
 obtain⟨es,c,seen,h1,h2,h3,ds,aZ,bJ,e0,gC⟩:=h;intro p aa;have:kt p∈ds.map MapEntry.gy:=by rw[bJ];exact List.mem_map.2 ⟨p,aa,rfl⟩
 obtain⟨d,aj,e⟩:=List.mem_map.1 this;have:kt p∈l.map kt:=by rw[<-h2.gy,<-e];exact List.mem_map.2 ⟨d,e0 d aj,rfl⟩
 obtain⟨q,ay,e⟩:=List.mem_map.1 this;rw[<-QT e];exact ay
def jU.z7{l dl:List (κ×Value)}(h:jU u r b l dl):(dl.map (·.1)).Nodup:=by obtain⟨es,c,seen,h1,h2,h3,ds,aZ,bJ,e0,gC⟩:=h;exact gC
def B1(T:n3 κ P t k e z){l:List (κ×Value)}(h:dI u b l){K:Option Addr->H->Prop}(ae:∀r o,u r=none->jU (u.ins r o) r b l []->K (some ⟨r,0,none⟩) (u.ins r o)):
  cx P (Instr.range t (.map (some b))) [.one .ptr] u K:=by
 obtain⟨es,c,Z,ai⟩:=h
 refine .one (c:=.ptr) λw hw=>?_
 have ac:=hw.none (Nat.le_refl _)
 have ah:b≠w.heap.size:=λe=>by rw[<-e,Z] at ac;cases ac
 refine⟨some ⟨w.heap.size,0,none⟩,w.alloc (.mapIter (some b) c #[] c),_,?_,ae w.heap.size (.mapIter (some b) c #[] c) ac ⟨es,c,#[],by rw[aL _ _ ah];exact Z,ai,aS _ _ _,[],rfl,rfl,λd aj=>(by cases aj),by simp⟩,Step.ra hw _⟩
 have N:=MapKept.run_getObj_map (P:=P) (hw _ _ Z)
 simp[Instr.range,Sem.run_bind,run_underlying T.eO,N,Result.andThen,al.enc]
theorem agk{es:List MapEntry}(ac:(es.map (·.born)).Nodup){d e:MapEntry}(aj:d∈es)(he:e∈es)(h:d.born=e.born):d=e:=by
 induction es with
 |nil=>cases aj
 |cons x es aG=>
  grind
def ang{l dl:List (κ×Value)}(ai:(l.map (·.1)).Nodup)(aj:(dl.map (·.1)).Nodup)(h1:∀p∈dl,p∈l)(h2:∀p∈l,p∈dl):dl.Perm l:=by have nd:∀{l:List (κ×Value)},(l.map (·.1)).Nodup->l.Nodup:=λ{l} h=>(List.pairwise_map.1 h).imp λh e=>h (by rw[e]);exact(List.perm_ext_iff_of_nodup (nd aj) (nd ai)).2 λp=>⟨h1 p,h2 p⟩
def BC{l dl:List (κ×Value)}(h:jU u r b l dl){jF:H->Prop}{G1:Value->Value->H->Prop}(h0:dl.Perm l->jF u)
  (h1:∀p o,p∈l->p.1∉dl.map (·.1)->jU (u.ins r o) r b l (dl++ [p])->G1 (fA.enc p.1) p.2 (u.ins r o)):sX P (.pointer (some ⟨r,0,none⟩)) u jF G1:=by
 have gH:=h.sub
 obtain⟨es,c,seen,Z,ai,W,ds,df,dh,se,AY⟩:=h
 intro w hw
 have ah:r≠b:=λe=>by rw[e,Z] at W;cases W
 have Ew:∀e∈es.toList,seen.contains e.born=true↔e∈ds:=by intro e he;rw[Array.contains_iff_mem,<-Array.mem_toList_iff,df,List.mem_map];exact⟨λ⟨d,aj,dz⟩=>agk ai.born (se d aj) he dz▸aj,λaj=>⟨e,aj,rfl⟩⟩
 have NU:∀e∈(leftOf es seen).toList,e∈es.toList/\e∉ds:=λe he=>by unfold leftOf at he;rw[Array.toList_filter] at he;have bx:=List.mem_filter.1 he;refine⟨bx.1,λaj=>?_⟩;have:=(Ew e bx.1).2 aj;rw[this] at bx;simp at bx
 have NT:∀e∈es.toList,e∉ds->e∈(leftOf es seen).toList:=λe he aj=>by
  unfold leftOf;rw[Array.toList_filter];refine List.mem_filter.2 ⟨he,?_⟩;cases E:seen.contains e.born with
  |true=>exact absurd ((Ew e he).1 E) aj|false=>rfl
 rcases run_next_at (P:=P) w 0 r b c c seen es c (hw _ _ W) (hw _ _ Z) ai.lt (Nat.le_refl _) with⟨aP,lV⟩|⟨e,aiB,gq,dc,lV⟩
 refine⟨w,u,.inl ⟨lV,h0 ?_⟩,Step.refl hw⟩
 have ahG:leftOf es seen=#[]:=Array.eq_empty_of_size_eq_zero aP
 refine ang ai.nodup AY gH λp aa=>?_
 have:kt p∈es.toList.map MapEntry.gy:=by rw[ai.gy];exact List.mem_map.2 ⟨p,aa,rfl⟩
 obtain⟨e,he,aO⟩:=List.mem_map.1 this
 have aj:e∈ds:=Classical.byContradiction λac=>by have:=NT e he ac;rw[ahG] at this;simp at this
 have:kt p∈dl.map kt:=by rw[<-dh,<-aO];exact List.mem_map.2 ⟨e,aj,rfl⟩
 obtain⟨q,ay,ar⟩:=List.mem_map.1 this
 rw[<-QT ar];exact ay
 have Yr:Sub u gq:=by rcases dc with rfl|rfl<;>exact hw
 have step1:Step u [] w u [] gq:=by rcases dc with rfl|rfl;exact Step.refl hw;exact Step.HA hw (Nat.le_succ w.drawn)
 obtain⟨OG,bX⟩:=NU _ aiB
 obtain⟨p,aa,sd⟩:∃p∈l,kt p=MapEntry.gy e:=by
  have:MapEntry.gy e∈l.map kt:=by rw[<-ai.gy];exact List.mem_map.2 ⟨e,OG,rfl⟩
  obtain⟨p,aa,aO⟩:=List.mem_map.1 this;exact⟨p,aa,aO⟩
 have Iy:e.key=fA.enc p.1:=(congrArg Prod.fst sd).symm
 have gP:e.val=p.2:=(congrArg Prod.snd sd).symm
 have XR:p.1∉dl.map (·.1):=by
  intro hm;obtain⟨q,ay,aO⟩:=List.mem_map.1 hm;have Es:=gH q ay;have aj2:q=p:=by have h1:=(HV ai.nodup (x:=p.1) (v:=q.2)).2 (by rw[<-aO];exact Es);have h2:=(HV ai.nodup (x:=p.1) (v:=p.2)).2 aa;rw[h1] at h2;cases q;cases p;simp only[Option.some.injEq] at h2 aO;rw[h2,aO]
  have:kt p∈ds.map MapEntry.gy:=by rw[dh,<-aj2];exact List.mem_map.2 ⟨q,ay,rfl⟩
  obtain⟨d,aj,ar⟩:=List.mem_map.1 this;have Oo:d=e:=by
   have AF:MapEntry.gy d=MapEntry.gy e:=by rw[ar,sd]
   obtain⟨m,hm,em⟩:=List.mem_iff_getElem.1 (se d aj);obtain⟨n,ac,Vu⟩:=List.mem_iff_getElem.1 OG;have nF:m=n:=by
    have hlen:es.toList.length=l.length:=by have:=congrArg List.length ai.gy;simpa using this
    have cv:(l.map kt)[m]?=some (MapEntry.gy d):=by rw[<-ai.gy,List.getElem?_map,List.getElem?_eq_getElem hm,em];rfl
    have cI:(l.map kt)[n]?=some (MapEntry.gy e):=by rw[<-ai.gy,List.getElem?_map,List.getElem?_eq_getElem ac,Vu];rfl
    have pr:l[m]'(by omega)=l[n]'(by omega):=by rw[AF] at cv;rw[List.getElem?_map,List.getElem?_eq_getElem (by omega)] at cv cI;exact QT (Option.some.inj (cv.trans cI.symm))
    rcases Nat.lt_trichotomy m n with bx|bx|bx;have:=List.pairwise_iff_getElem.1 ai.nodup m n (by simp;omega) (by simp;omega) bx;simp only[List.getElem_map] at this;exact absurd (by rw[pr]) this;exact bx;have:=List.pairwise_iff_getElem.1 ai.nodup n m (by simp;omega) (by simp;omega) bx;simp only[List.getElem_map] at this;exact absurd (by rw[pr]) this
   subst nF;rw[<-em,<-Vu]
  exact bX (Oo▸aj)
 refine⟨_,u.ins r (.mapIter (some b) c (seen.push e.born) c),.inr ⟨_,_,lV,?_⟩,step1.trans (step_block Yr W _)⟩
 rw[Iy,gP]
 refine h1 p _ aa XR ⟨es,c,seen.push e.born,by rw[aL _ _ (Ne.symm ah)];exact Z,ai,aS _ _ _,ds++ [e],by simp[df],?_,?_,?_⟩
 rw[List.map_append,dh,List.map_append];simp[sd]
 intro d aj
 rcases List.mem_append.1 aj with aj|aj
 exact se d aj
 obtain rfl:d=e:=by simpa using aj
 exact OG
 rw[List.map_append]
 refine List.nodup_append.2 ⟨AY,by simp,λa ap d aj=>?_⟩
 simp only[List.map_cons,List.map_nil,List.mem_singleton] at aj
 exact λe=>XR (by rw[<-aj,<-e];exact ap)
def C9{l dl:List (κ×Value)}{p:κ×Value}(h:jU u r b l (dl++ [p])){K:Value->Value->H->Prop}(ae:K (fA.enc p.1) p.2 u):sT P (.pointer (some ⟨r,0,none⟩)) u K:=by
 obtain⟨es,c,seen,Z,ai,W,ds,df,dh,se,AY⟩:=h;intro w hw;obtain⟨xF,e,rfl⟩:∃xF e,ds=xF++ [e]:=by rcases List.eq_nil_or_concat ds with h|⟨a,b,h⟩;rw[h] at dh;simp at dh;exact⟨a,b,by rw[h,List.concat_eq_append]⟩
 have hk:MapEntry.gy e=kt p:=by have:=congrArg List.getLast? dh;simpa using this
 have Iy:e.key=fA.enc p.1:=congrArg Prod.fst hk;have gP:e.val=p.2:=congrArg Prod.snd hk;have Ew:seen=(xF.map (·.born)).toArray.push e.born:=by apply Array.ext';rw[df];simp
 rw[Ew] at W;have:=run_entry_at (P:=P) w r b c (xF.map (·.born)).toArray es c e (hw _ _ W) (hw _ _ Z) (se e (by simp)) ai.born;exact⟨_,_,w,u,this,by rw[Iy,gP];exact ae,Step.refl hw⟩
end
section
variable{u:H}{g:Nat}
section
variable {α:Type} {enc:α->List Value} {k:Nat}
theorem Zn(hk:∀x,(enc x).length=k)(nE:0<k)(a:α)(m:Nat):(madeCells (enc a).toArray (m*k)).toList=(List.replicate m a).flatMap enc:=by
 apply List.ext_getElem?;intro i;by_cases hi:i<m*k
 .have e:i=i/k*k+i%k:=by rw[Nat.mul_comm];exact(Nat.div_add_mod i k).symm
  have hm:i%k<k:=Nat.mod_lt _ nE;have aj:i/k<m:=Nat.div_lt_of_lt_mul (by grind);have W:((List.replicate m a).flatMap enc)[i]?=(enc a)[i%k]?:=by
   conv=>lhs;rw[e]
   rw[HP hk _ _ _ hm,List.getElem?_replicate,if_pos aj];rfl
  rw[W];have ov:i%k<(enc a).length:=by rw[hk];exact hm
  simp[madeCells,hi,hk,hm]
 rw[List.getElem?_eq_none (by simp[size_madeCells];omega),List.getElem?_eq_none (by rw[qM hk];simp;omega)]
def Rm(enc:α->List Value)(xs:List α)(T:TypeId):Obj:=.cells (xs.flatMap enc).toArray T (0,0)
def VT(hk:∀x,(enc x).length=k){xs cM:List α}{T:TypeId}(N:u g=some (Rm enc (xs++cM) T)){c:Nat}(E:xs.length<=c)(hm:c<=9223372036854775807):
  bb u ⟨some ⟨g,0,none⟩,xs.length,c⟩ k (xs.flatMap enc):=by
 refine⟨qM hk xs,E,hm,.inr ⟨_,rfl,λi v e=>?_⟩⟩
 rw[Addr.add_lit,Nat.zero_add,aV N,List.getElem?_toArray,List.flatMap_append,List.getElem?_append_left ((List.getElem?_eq_some_iff.1 e).1)]
 exact e
end
theorem H.QF{o:Obj}(h:u g=some o):u.ins g o=u:=by
 funext x;unfold H.ins
 grind
abbrev Zb(q:List Int):Obj:=Rm encI (q++ [-77]) 3
def alZ{q:List Int}(h:u g=some (Zb q))(Z:q.length<=1000000):Ints u ⟨some ⟨g,0,none⟩,q.length,q.length+1⟩ q:=by have:=VT uH h (c:=q.length+1) (by omega) (by omega);rw[tk] at this;exact this
def aT.bV(r:aT):Int×List Int:=(r.id,r.v)
abbrev an3(ls:List aT):Obj:=Rm cG ls 34
structure CI(Y u:H)(g:Nat)(ls:List aT):Prop where
 inner:∀r∈ls,∃h,r.s=⟨some ⟨h,0,none⟩,r.v.length,r.v.length+1⟩/\u h=some (Zb r.v)/\Y h=none/\h≠g/\r.v.length<=1000000
 apart:ls.Pairwise λa b=>a.s.ad≠b.s.ad
theorem CI.else{Y u':H}{ls:List aT}(h:CI Y u g ls)(he:∀b o,b≠g->u b=some o->u' b=some o):CI Y u' g ls:=
 ⟨λr W=>by obtain⟨x,h1,h2,h3,aZ,bJ⟩:=h.inner r W;grind,h.apart⟩
def CI.rws{Y:H}{ls ms:List aT}(h:CI Y u g ls)(N:u g=some (an3 (ls++ms))){c:Nat}(E:ls.length<=c)(hm:c<=9223372036854775807):ev u ⟨some ⟨g,0,none⟩,ls.length,c⟩ ls:=
 ⟨VT fh N E hm,λr W=>by obtain⟨x,h1,h2,_,_,bJ⟩:=h.inner r W;rw[h1];exact alZ h2 bJ⟩
end
section
variable {κ:Type} [DecidableEq κ] [fA κ]
def Bu(l:List (κ×Value))(x:κ)(v:Value):List (κ×Value):=if x∈l.map (·.1) then l.map (λp=>if p.1=x then(x,v) else p) else l++ [(x,v)]
def w4{l:List (κ×Value)}(ac:(l.map (·.1)).Nodup){j:Nat}{x:κ}{v y:Value}(h:l[j]?=some (x,v)):l.set j (x,y)=l.map λp=>if p.1=x then(x,y) else p:=by
 induction l generalizing j with
 |nil=>simp at h|cons p l aG=>
  have h3:=List.nodup_cons.1 ac;cases j with
  |zero=>
   simp only[List.getElem?_cons_zero,Option.some.injEq] at h;subst h;rw[List.set_cons_zero,List.map_cons,if_pos rfl];congr 1;have:l.map (λp=>if p.1=x then(x,y) else p)=l.map id:=List.map_congr_left λq ay=>by have:q.1≠x:=λe=>h3.1 (List.mem_map.2 ⟨q,ay,e⟩);rw[if_neg this];rfl
   rw[this,List.map_id]
  |succ j=>simp only[List.getElem?_cons_succ] at h;have aa:p.1≠x:=λe=>h3.1 (List.mem_map.2 ⟨_,List.mem_of_getElem? h,e.symm⟩);rw[List.set_cons_succ,aG h3.2 h,List.map_cons,if_neg aa]
def aoA{P:Program}{t k e:TypeId}{z:Value}(T:n3 κ P t k e z){u:H}{b:Nat}{l:List (κ×Value)}(h:dI u b l){x:κ}{v:Value}{K:H->Prop}
  (ae:∀o,dI (u.ins b o) b (Bu l x v)->K (u.ins b o)):
  cx P (unit (Instr.mapUpdate t (.map (some b)) (fA.enc x) v)) [] u K:=by
 cases I:eF l x with
 |none=>exact y8 T h I λo U=>ae o (by unfold Bu;rw[if_neg (tm.1 I)];exact U)
 |some v0=>
  have cr:x∈l.map (·.1):=List.mem_map.2 ⟨_,Dh I,rfl⟩;obtain⟨es,c,Z,ai⟩:=h;intro w hw;have N:=MapKept.run_getObj_map (P:=P) (hw _ _ Z);have E:=T.check false x w;obtain⟨j,aH,IB⟩:=(T.find ai.gy x w).2 v0 I;have iL:=MapKept.run_setObj_map (P:=P) (.map (es.modify j λe=>{e with key:=fA.enc x,val:=v}) c) (hw _ _ Z);have kN:Instr.sameBits 10000 (fA.enc x) (fA.enc x)=true:=fA.bits x;have W0:(es.toList.map MapEntry.gy)[j]?=some (kt (x,v0)):=by rw[ai.gy,List.getElem?_map,IB];rfl
  rw[List.getElem?_map] at W0;obtain⟨dH,mn,aiG⟩:=Option.map_eq_some_iff.1 W0;have ajc:dH.key=fA.enc x:=congrArg Prod.fst aiG;have aiw:es[j]?=some dH:=by rw[<-mn,Array.getElem?_toList]
  have jK:j<es.toList.length:=(List.getElem?_eq_some_iff.1 mn).1;have het:(es.modify j λe=>{e with key:=fA.enc x,val:=v}).toList=es.toList.set j {dH with key:=fA.enc x,val:=v}:=by apply List.ext_getElem?;intro i;rw[Array.toList_modify,List.getElem?_modify,List.getElem?_set];by_cases e:j=i;subst e;rw[if_pos rfl,if_pos jK,mn];simp;rw[if_neg e];simp[e]
  refine⟨_,_,u.ins b (.map (es.modify j λe=>{e with key:=fA.enc x,val:=v}) c),?_,⟨[],.nil,rfl,ae _ ⟨_,_,aS _ _ _,?_,?_,?_,?_⟩⟩,step_block hw Z _⟩;simp[unit,Instr.mapUpdate,Sem.run_bind,run_underlying T.eO,N,E,aH,Result.andThen,aiw,ajc,Instr.keyThatStays,kN,iL];rfl;unfold Bu;rw[if_pos cr,<-w4 ai.nodup IB,het,List.map_set,List.map_set,ai.gy];rfl;rw[het,List.map_set];have:(es.toList.map (·.born)).set j dH.born=es.toList.map (·.born):=by apply List.ext_getElem?;intro i;rw[List.getElem?_set];by_cases e:j=i;subst e;rw[if_pos rfl,if_pos (by simpa using jK),List.getElem?_map,mn];rfl;rw[if_neg e]
  rw[this];exact ai.born;intro dz eY;rw[het] at eY;rcases List.mem_or_eq_of_mem_set eY with h1|h1;exact ai.lt dz h1;rw[h1];exact ai.lt dH (List.mem_of_getElem? mn);unfold Bu;rw[if_pos cr,List.map_map];have:l.map ((·.1)∘λp=>if p.1=x then(x,v) else p)=l.map (·.1):=List.map_congr_left λq _=>by show(if q.1=x then(x,v) else q).1=q.1;by_cases e:q.1=x;rw[if_pos e,e];rw[if_neg e]
  rw[this];exact ai.nodup
def aov{P:Program}{t k e T' QO:TypeId}{z:Value}(T:n3 κ P t k e z){u:H}{b:Nat}{l:List (κ×Value)}(h:dI u b l){x:κ}(I:eF l x=none){K:H->Prop}(ae:K u):
  cx P (Builtin.delete_ #[t,QO] T' #[.map (some b),fA.enc x]) [] u K:=by
 obtain⟨es,c,Z,ai⟩:=h
 intro w hw
 have N:=MapKept.run_getObj_map (P:=P) (hw _ _ Z)
 have E:=T.check es.isEmpty x w
 have iL:=MapKept.run_setObj_map (P:=P) (.map es c) (hw _ _ Z)
 have e:u.ins b (.map es c)=u:=H.QF Z
 refine⟨_,_,u.ins b (.map es c),?_,⟨[],.nil,rfl,by rw[e];exact ae⟩,step_block hw Z _⟩
 simp[Builtin.delete_,Sem.run_bind,run_underlying T.eO,N,E,(T.find ai.gy x w).1 I,Result.andThen,iL]
 rfl
end
section
variable{u:H}
def gN(x:Int):List Value:=[.int .u8 x]
def Nd(x:Int):(gN x).length=1:=rfl
def agd(x:Int):∀v∈gN x,v.oneCell'=true:=by simp[gN,Value.oneCell']
def avD(l:List Int):∀y∈l.flatMap gN,y.oneCell'=true:=λy af=>by obtain⟨x,_,h⟩:=List.mem_flatMap.1 af;exact agd x y h
def rX(l:List Int):l.flatMap gN=l.map (Value.int .u8):=by
 induction l with
 |nil=>rfl|cons x l aG=>rw[List.flatMap_cons,aG];rfl
abbrev kz(u:H)(s:J)(xs:List Int):Prop:=bb u s 1 (xs.flatMap gN)
def kz.len{s:J}{xs:List Int}(h:kz u s xs):s.n=xs.length:=fx Nd (by decide) h
def CZ:iG Tryz.prog 183=some (5,1,1,[.int .u8 0]):=by kernel_rfl
def ju(s:ByteArray):List Int:=s.data.toList.map λb=>(b.toNat:Int)
def zU(s:ByteArray):(ju s).length=s.size:=by unfold ju;rw[List.length_map];rfl
def aoz{P:Program}{src dst e:TypeId}{d:TypeDesc}(hs:P.underlying src=some d)(aj:P.underlying dst=some (.slice e))(he:P.underlying e=some (.int .u8)){s:ByteArray}(Z:s.size<=9223372036854775807){K:J->H->Prop}
  (ae:∀t u',u.le u'->kz u' t (ju s)->t.n=s.size->K t u'):cx P (Go.convert src dst (.string s)) [.one .slice] u K:=by
 refine .one (c:=.slice) λw hw=>?_
 have ac:=hw.none (Nat.le_refl w.heap.size)
 have N:=grownCap_ge w s.size 0 e
 have wq:=grownCap_le_maxLen w s.size 0 e (by rw[Bv];exact Z)
 rw[Bv] at wq
 obtain⟨o,U⟩:∃o,o=Obj.cells (Lib.bytesCells w e s) e ((Lib.bytesCells w e s).size,(Lib.bytesCells w e s).size+1):=⟨_,rfl⟩
 have uZ:=Lib.bytesWorld_at_new w e s
 rw[<-U] at uZ
 refine⟨⟨some ⟨w.heap.size,0,none⟩,s.size,grownCap w s.size 0 e⟩,Lib.bytesWorld w e s,u.ins w.heap.size o,Lib.run_convert_string_bytes w src dst e s hs aj he,ae _ _ (bN _ ac) ⟨?_,N,wq,.inr ⟨_,rfl,λi v hi=>?_⟩⟩ rfl,?_⟩
 show((ju s).flatMap gN).length=s.size*1
 rw[rX,List.length_map,zU,Nat.mul_one]
 rw[rX] at hi
 rw[Addr.add_lit,Nat.zero_add,U,Hr]
 unfold Lib.bytesCells
 have ai:i<s.data.size:=by have:=(List.getElem?_eq_some_iff.1 hi).1;rw[List.length_map,zU] at this;exact this
 rw[Array.getElem?_append_left (by simpa using ai)]
 simp[ju,ai] at hi ⊢
 exact hi
 refine⟨λb x h=>?_,?_,?_,?_,?_,by rw[Lib.bytesWorld_size];omega,λb Z _ _=>Lib.bytesWorld_at_old w e s b Z,λb Z h=>?_,[],by simp,by simp⟩
 unfold H.ins at h
 split at h
 rename_i e;subst e;cases h;exact uZ
 rw[Lib.bytesWorld_at_old w e s b (hw.lt h)];exact hw b x h
 simp[Lib.bytesWorld,World.freeze,World.alloc,World.drew,-World.alloc_eq,-World.drew_eq]
 simp[Lib.bytesWorld,World.freeze,World.alloc,World.drew,-World.alloc_eq,-World.drew_eq]
 simp[Lib.bytesWorld,World.freeze,World.alloc,World.drew,-World.alloc_eq,-World.drew_eq]
 simp[Lib.bytesWorld,World.freeze,World.alloc,World.drew,-World.alloc_eq,-World.drew_eq]
 rw[aL _ _ (by omega)];exact h
def ru(xs:List Int):ByteArray:=⟨(xs.map λn=>UInt8.ofNat n.toNat).toArray⟩
def SG(xs:List Int):(ru xs).size=xs.length:=by simp[ru,ByteArray.size]
def agQ(xs:List Int):xs.foldl (λr n=>r.push (UInt8.ofNat n.toNat)) ByteArray.empty=ru xs:=by
 have:∀(xs:List Int) (r:ByteArray),xs.foldl (λr n=>r.push (UInt8.ofNat n.toNat)) r=⟨r.data++(ru xs).data⟩:=by
  intro xs;induction xs with
  |nil=>intro r;simp[ru]
  |cons x xs aG=>intro r;rw[List.foldl_cons,aG];simp[ru,ByteArray.push]
 rw[this];apply ByteArray.ext;simp
def aaB{P:Program}{src dst e:TypeId}(hs:P.underlying src=some (.slice e))(aj:P.underlying dst=some .string)(he:P.underlying e=some (.int .u8)){s:J}{xs:List Int}{K:ByteArray->H->Prop}
  (h:kz u s xs) (ae:K (ru xs) u):cx P (Go.convert src dst (.slice s.a s.n s.c)) [.one .str] u K:=by
 refine .rf (c:=.str) (ru xs) (λw hw=>?_) ae
 have ac:=kz.len h
 rw[run_convert_bytes_string w src dst e s.a s.n s.c hs he aj]
 show _=Result.ok (Value.string (ru xs)) w
 cases ap:s.a with
 |none=>
  have:xs=[]:=by rcases bb.at' h with h0|⟨p,aa,_⟩;rw[rX] at h0;simpa using h0;rw[ap] at aa;cases aa
  subst this;simp[Conv.bytesToString,ru];rfl
 |some p=>
  have ai:(loadCells p s.n).run P w=.ok (xs.map (Value.int .u8)).toArray w:=by have:=run_loadCells_list (P:=P) w p (xs.map (Value.int .u8)) (by rw[<-rX];exact bb.world (h:=h) hw ap);rw[List.length_map,<-ac] at this;exact this
  rw[run_bytesToString w p s.n s.c xs ai,agQ]
def wT:n3 ByteArray Tryz.prog 113 9 270 (.pointer none):=⟨by kernel_rfl,by kernel_rfl,λ_=>by kernel_rfl⟩
def tot:List Int->Int
 | []=>0|x::l=>x+tot l
def KM{a b:List Int}(h:a.Perm b):tot a=tot b:=by
 induction h with
 |nil=>rfl|cons x _ aG=>simp only[tot,aG]|swap x y l=>simp only[tot];omega|trans _ _ h1 h2=>exact h1.trans h2
def F9(a b:List Int):tot (a++b)=tot a+tot b:=by
 induction a with
 |nil=>simp[tot]|cons x a aG=>simp only[List.cons_append,tot,aG];omega
def KG{α:Type}[DecidableEq α]:∀{a b:List α},a.Nodup->(∀x∈a,x∈b)->∃r,b.Perm (a++r)
 | [],b,_,_=>⟨b,.refl _⟩|x::a,b,ac,hs=>by
  have h3:=List.nodup_cons.1 ac;have I:=hs x (.head _);obtain⟨r,W⟩:=KG (b:=b.erase x) h3.2 λy af=>by have ah:y≠x:=λe=>h3.1 (e▸af);exact(List.mem_erase_of_ne ah).2 (hs y (.tail _ af))
  exact⟨r,(List.perm_cons_erase I).trans (W.cons x)⟩
def KL{a:List Int}(h:∀x∈a,0<=x):0<=tot a:=by
 induction a with
 |nil=>simp[tot]|cons x a aG=>have:=h x (.head _);have:=aG λy af=>h y (.tail _ af);simp only[tot];omega
def EV(u:H)(r:Nat):Nat:=match u r with
 |some (.mapIter _ _ seen _)=>seen.size|_=>0
def jU.size{κ:Type}[DecidableEq κ][fA κ]{r b:Nat}{l dl:List (κ×Value)}(h:jU u r b l dl):EV u r=dl.length:=by obtain⟨es,c,seen,h1,h2,h3,ds,aZ,bJ,e0,gC⟩:=h;unfold EV;rw[h3];have aO:=congrArg List.length aZ;have ar:=congrArg List.length bJ;simp only[List.length_map] at aO ar;show seen.size=_;rw[<-ar,<-aO];rfl
end
namespace b1
section
variable{u Y:H}{K:Int->H->Prop}
inductive aN where
 |obj|now|sv|file|bytes|db
structure h9 where
 ad:Nat
 b:J
 xs:List Int
 safe:Int
def h9.obj(f:h9):Obj:=.cells #[.slice f.b.a f.b.n f.b.c,.int .i64 f.safe] 275 (0,0)
abbrev Ml:=ByteArray×ByteArray×Option Nat
def anm(n:Option Nat):Value:=.pointer (n.map λb=>⟨b,0,none⟩)
def Nf(c:Ml):List Value:=[.string c.1,.string c.2.1,anm c.2.2]
structure ak where
 m:Nat
 sm:Nat
 ci:List h9
 now:List (ByteArray×Nat)
 sv:List (ByteArray×Nat)
 cs:J
 db:List Ml
 steps:Int
 room:Int
def ak.obj(T:ak):Obj:=.cells #[.int .i64 T.room,.map (some T.m),.map (some T.sm),.slice T.cs.a T.cs.n T.cs.c,.int .i64 T.steps,.bool false,.int .i64 0] 116 (0,0)
def jX(l:List (ByteArray×Nat)):List (ByteArray×Value):=l.map λe=>(e.1,.pointer (some ⟨e.2,0,none⟩))
def HG(l:List (ByteArray×Nat)):(jX l).map (·.1)=l.map (·.1):=by unfold jX;rw[List.map_map];rfl
structure cP(ab:Nat->Option aN)(u:H)(b:Nat)(T:ak):Prop where
 cell:u b=some T.obj
 fU:ab b=some .obj
 now:dI u T.m (jX T.now)
 oF:ab T.m=some .now
 sv:dI u T.sm (jX T.sv)
 dZ:ab T.sm=some .sv
 db:Own u 327 3 T.cs (T.db.flatMap Nf)
 gM:∀g,T.cs.ad=some g->ab g=some .db
 file:∀f∈T.ci,u f.ad=some f.obj/\ab f.ad=some .file/\kz u f.b f.xs/\∀g,f.b.ad=some g->ab g=some .bytes
def cP.bd{ab aM:Nat->Option aN}{u':H}{b:Nat}{T:ak}(h:cP ab u b T)(M:∀c,ab c≠none->aM c=ab c)(hu:∀c o,u c=some o->ab c≠none->u' c=some o):cP aM u' b T where
 cell:=hu _ _ h.cell (by rw[h.fU];simp)
 fU:=by rw[M _ (by rw[h.fU];simp)];exact h.fU
 now:=h.now.else λo U=>hu _ _ U (by rw[h.oF];simp)
 oF:=by rw[M _ (by rw[h.oF];simp)];exact h.oF
 sv:=h.sv.else λo U=>hu _ _ U (by rw[h.dZ];simp)
 dZ:=by rw[M _ (by rw[h.dZ];simp)];exact h.dZ
 db:=h.db.le λg o N U=>hu g o U (by rw[h.gM g N];simp)
 gM g N:=by rw[M _ (by rw[h.gM g N];simp)];exact h.gM g N
 file f hm:=by obtain⟨h1,h2,h3,aZ⟩:=h.file f hm;exact⟨hu _ _ h1 (by rw[h2];simp),by rw[M _ (by rw[h2];simp)];exact h2,bb.else h3 λg o N U=>hu g o U (by rw[aZ g N];simp),λg N=>by rw[M _ (by rw[aZ g N];simp)];exact aZ g N⟩
def bd:rG cP:=⟨λh M hu=>h.bd M hu⟩
abbrev In:=jT cP
def lenOf(l:List h9)(b:Nat):Int:=match l.find? λf=>f.ad==b with
 |some f=>f.xs.length|none=>0
def ak.used(T:ak):Int:=tot (T.now.map λe=>lenOf T.ci e.2)
structure dj(T:ak):Prop where
 pq:∀e∈T.now,∃f∈T.ci,f.ad=e.2
 cT:(T.now.map (·.2)).Nodup
 qt:(T.ci.map (·.ad)).Nodup
 room:T.used<=T.room/\T.room<=4194304
 steps:0<=T.steps
 iH:T.now.length<=64
 many:T.db.length<=1000000
def Bq{l:List h9}(ac:(l.map (·.ad)).Nodup){f:h9}(M:f∈l):lenOf l f.ad=f.xs.length:=by
 unfold lenOf;have:l.find? (λg=>g.ad==f.ad)=some f:=by
  induction l with
  |nil=>cases M
  |cons g l aG=>
   have h3:=List.nodup_cons.1 ac;rw[List.find?_cons];rcases List.mem_cons.1 M with rfl|hm;simp;have:(g.ad==f.ad)=false:=by simp only[beq_eq_false_iff_ne];exact λe=>h3.1 (List.mem_map.2 ⟨f,hm,e.symm⟩)
   rw[this];exact aG h3.2 hm
 rw[this]
def Jw(l:List h9)(b:Nat):0<=lenOf l b:=by unfold lenOf;split<;>omega
def ak.c{b:Nat}{T:ak}(h:u b=some T.obj)(i:Nat):u.cell? ⟨b,i,none⟩=(#[Value.int .i64 T.room,.map (some T.m),.map (some T.sm),.slice T.cs.a T.cs.n T.cs.c,.int .i64 T.steps,.bool false,.int .i64 0]:Array Value)[i]?:=aV h i
def aa1{b:Nat}{T:ak}{K:Bool->H->Prop}(h:u b=some T.obj)(ae:K false u):Gr (some ⟨b,0,none⟩) u K:=by apply arM;exact⟨λ_=>⟨_,rfl,_,ak.c h 5,λe=>(by cases e),λ_=>ae⟩,λe=>(by cases e)⟩
def B5{b:Nat}{T:ak}(h:u b=some T.obj)(ae:K 0 u):xd (some ⟨b,0,none⟩) u K:=by apply arU;exact⟨λe=>(by cases e),λ_=>aa1 h ⟨λe=>(by cases e),λ_=>ae⟩⟩
def getD_some{l:List (ByteArray×Nat)}(ac:(l.map (·.1)).Nodup){e:ByteArray×Nat}(he:e∈l):eF (jX l) e.1=some (.pointer (some ⟨e.2,0,none⟩)):=
 (HV (by rw[HG];exact ac)).2 (List.mem_map.2 ⟨e,he,rfl⟩)
def getD_none{l:List (ByteArray×Nat)}{x:ByteArray}(I:x∉l.map (·.1)):eF (jX l) x=none:=tm.2 (by rw[HG];exact I)
def cP.nodup{ab:Nat->Option aN}{b:Nat}{T:ak}(h:cP ab u b T):(T.now.map (·.1)).Nodup:=by obtain⟨es,cl,_,he⟩:=h.now;have:=he.nodup;rw[HG] at this;exact this
def aa8{ab:Nat->Option aN}{b:Nat}{T:ak}{e:ByteArray×Nat}{K:Option Addr->Int->H->Prop}(h:cP ab u b T)(he:e∈T.now)(ae:K (some ⟨e.2,0,none⟩) 0 u):zo (some ⟨b,0,none⟩) e.1 u K:=by have N:=getD_some h.nodup he;apply ach;refine B5 h.cell ⟨λI=>absurd rfl I,λ_=>⟨_,rfl,_,ak.c h.cell 1,mE wT h.now (ct:=.ptr) (some ⟨e.2,0,none⟩) (by rw[N];rfl) ?_⟩⟩;rw[N];exact⟨λI=>absurd rfl I,λ_=>ae⟩
def apn{ab:Nat->Option aN}{b:Nat}{T:ak}{x:ByteArray}{K:Option Addr->Int->H->Prop}(h:cP ab u b T)(I:x∉T.now.map (·.1))(ae:K none 172 u):zo (some ⟨b,0,none⟩) x u K:=by have N:=getD_none I;apply ach;refine B5 h.cell ⟨λI=>absurd rfl I,λ_=>⟨_,rfl,_,ak.c h.cell 1,mE wT h.now (ct:=.ptr) none (by rw[N];rfl) ?_⟩⟩;rw[N];exact⟨λ_=>ae,λe=>(by cases e)⟩
def ape{ab:Nat->Option aN}{b:Nat}{T:ak}(h:cP ab u b T)(aJ:dj T)(ae:∀u',u.le u'->K T.used u'):Ln (some ⟨b,0,none⟩) u K:=by
 apply arR;refine B5 h.cell ⟨λI=>absurd rfl I,λ_=>⟨_,rfl,_,ak.c h.cell 1,B1 wT h.now λr o W r9=>?_⟩⟩;have jN:=bN (u:=u) (b:=r) o W;have akM:∀{dl:List (ByteArray×Nat)},dl.Perm T.now->tot (dl.map λe=>lenOf T.ci e.2)=T.used:=λaa=>KM (aa.map _);have hle:∀{dl:List (ByteArray×Nat)} {e:ByteArray×Nat},(∀x∈dl++ [e],x∈T.now)->((dl++ [e]).map (·.1)).Nodup->0<=tot ((dl++ [e]).map λe=>lenOf T.ci e.2)/\tot ((dl++ [e]).map λe=>lenOf T.ci e.2)<=T.used:=by
  intro dl e hs ac;have h1:(dl++ [e]).Nodup:=(List.pairwise_map.1 ac).imp λh e=>h (by rw[e]);obtain⟨rest,aa⟩:=KG h1 hs;have h2:=KM (aa.map λe=>lenOf T.ci e.2);rw[List.map_append,F9] at h2;have h3:0<=tot (rest.map λe=>lenOf T.ci e.2):=KL λx I=>by obtain⟨e,_,rfl⟩:=List.mem_map.1 I;exact Jw _ _
  have aZ:0<=tot ((dl++ [e]).map λe=>lenOf T.ci e.2):=KL λx I=>by obtain⟨e,_,rfl⟩:=List.mem_map.1 I;exact Jw _ _
  unfold ak.used;omega
 refine⟨λs w=>∃dl:List (ByteArray×Nat),jU w r T.m (jX T.now) (jX dl)/\u.le w/\s=tot (dl.map λe=>lenOf T.ci e.2)/\∀e∈dl,e∈T.now,λ_ w=>65-EV w r,⟨[],r9,jN,rfl,λ_ h=>(by cases h)⟩,?_⟩;rintro s w ⟨dl,gh,Xs,rfl,hs⟩;refine BC gh (λaa=>?_) λp fq aa pk nD=>?_;have h1:=KM (aa.map λp=>match p.2 with
   | .pointer (some a)=>lenOf T.ci a.block|_=>0)
 unfold jX at h1;rw[List.map_map,List.map_map] at h1;have:T.used=tot (dl.map λe=>lenOf T.ci e.2):=h1.symm;show K (tot (dl.map λe=>lenOf T.ci e.2)) w;rw[<-this];exact ae w Xs;obtain⟨e,he,rfl⟩:=List.mem_map.1 aa;obtain⟨f,M,hf⟩:=aJ.pq e he;obtain⟨f1,f2,f3,f4⟩:=h.file f M;have ah:f.ad≠r:=λe=>by rw[<-e,f1] at W;cases W
 have fX:u.le (w.ins r fq):=λc bn E=>by rw[aL _ _ λe=>by rw[e,W] at E;cases E];exact Xs c bn E
 have hlen:=Bq aJ.qt M;have ac:((dl++ [e]).map (·.1)).Nodup:=by have:=nD.z7;rw[show jX dl++ [(e.1,Value.pointer (some ⟨e.2,0,none⟩))]=jX (dl++ [e]) by unfold jX;rw[List.map_append];rfl,HG] at this;exact this
 have dh:∀x∈dl++ [e],x∈T.now:=λx I=>by rcases List.mem_append.1 I with I|I;exact hs x I;rw[List.mem_singleton.1 I];exact he
 obtain⟨g1,g2⟩:=hle dh ac;have Je:=kz.len f3;have aku:tot ((dl++ [e]).map λe=>lenOf T.ci e.2)=tot (dl.map λe=>lenOf T.ci e.2)+(f.b.n:Int):=by rw[List.map_append,F9,List.map_cons,List.map_nil];simp only[tot];rw[<-hf,hlen];omega
 have lc:=aJ.room;refine C9 nD ⟨_,rfl,f.b,by rw[<-hf];exact aV (fX _ _ f1) 0,⟨by omega,by omega⟩,⟨dl++ [e],?_,fX,aku.symm,dh⟩,?_⟩;rw[show jX (dl++ [e])=jX dl++ [(e.1,Value.pointer (some ⟨e.2,0,none⟩))] by unfold jX;rw[List.map_append];rfl];exact nD;have s1:=gh.size;have s2:=nD.size;have qR:(dl++ [e]).length<=T.now.length:=by obtain⟨eB,ji⟩:=KG ((List.pairwise_map.1 ac).imp λh e=>h (by rw[e])) dh;have:=ji.length_eq;rw[List.length_append] at this;omega
 have:=aJ.iH;rw[List.length_append] at s2 qR;simp only[jX,List.length_map,List.length_cons,List.length_nil] at s1 s2 qR;show 65-EV (w.ins r fq) r<65-EV w r;omega
structure rI(Y u:H)(ab:Nat->Option aN)(b:Nat)(u':H)(aM:Nat->Option aN)(T':ak):Prop where
 is:In Y u' aM b T'
 cL:gu u ab u' aM
 ok:dj T'
def B9{ab:Nat->Option aN}{m:Nat}(hm:ab m≠none)(o:Obj):gu u ab (u.ins m o) ab:=
 ⟨λc bn E M=>by rw[aL _ _ λe=>by rw[e] at M;exact hm M];exact E,λ_ h=>.inl h⟩
def A9{ab:Nat->Option aN}{b:Nat}{T T':ak}{m:Nat}{o:Obj}(h:In Y u ab b T)(hm:ab m≠none)(ht:cP ab (u.ins m o) b T'):In Y (u.ins m o) ab b T':=
 ⟨ht,λc bn E=>by rw[aL _ _ λe=>by rw[e,h.out m hm] at E;cases E];exact h.le c bn E,h.out,λc E=>by by_cases e:c=m;rw[e,aS];simp;rw[aL _ _ e];exact h.known c E⟩
def cP.obj{ab:Nat->Option aN}{b:Nat}{T T':ak}(h:cP ab u b T)(aO:T'.m=T.m)(ar:T'.sm=T.sm)(cq:T'.ci=T.ci)(eD:T'.now=T.now)(e6:T'.sv=T.sv)(ob:T'.cs=T.cs)(tc:T'.db=T.db):cP ab (u.ins b T'.obj) b T':=by
 have ne:∀{c t},ab c=some t->t≠.obj->c≠b:=λE ht e=>by rw[e,h.fU] at E;exact ht (Option.some.inj E).symm
 have eA:∀{c o t},u c=some o->ab c=some t->t≠.obj->(u.ins b T'.obj) c=some o:=λE ht ac=>by rw[aL _ _ (ne ht ac)];exact E
 refine⟨aS _ _ _,h.fU,?_,by rw[aO];exact h.oF,?_,by rw[ar];exact h.dZ,?_,by rw[ob];exact h.gM,?_⟩;rw[aO,eD];exact h.now.else λo U=>eA U h.oF (by simp);rw[ar,e6];exact h.sv.else λo U=>eA U h.dZ (by simp);rw[ob,tc];exact h.db.le λg o N U=>eA U (h.gM g N) (by simp);rw[cq];intro f M;obtain⟨h1,h2,h3,aZ⟩:=h.file f M;exact⟨eA h1 h2 (by simp),h2,bb.else h3 λg o N U=>eA U (aZ g N) (by simp),aZ⟩
def Kn{ab:Nat->Option aN}{b:Nat}{T:ak}(h:In Y u ab b T)(aJ:dj T)(hs:T.steps<=1000000000)(ae:∀u',rI Y u ab b u' ab {T with steps:=T.steps+1}->K 0 u'):zn (some ⟨b,0,none⟩) u K:=by
 have h0:=aJ.steps;apply arT;refine⟨_,rfl,_,ak.c h.az.cell 4,⟨by omega,by omega⟩,_,rfl,_,_,h.az.cell,rfl,by simp[Addr.add],by simp[Value.oneCell'],?_⟩;have ht:cP ab (u.ins b (ak.obj {T with steps:=T.steps+1})) b {T with steps:=T.steps+1}:=h.az.obj rfl rfl rfl rfl rfl rfl rfl;have Z:ab b≠none:=by rw[h.az.fU];simp
 have W:rI Y u ab b (u.ins b (ak.obj {T with steps:=T.steps+1})) ab {T with steps:=T.steps+1}:=⟨A9 h Z ht,B9 Z _,⟨aJ.pq,aJ.cT,aJ.qt,aJ.room,by show 0<=T.steps+1;omega,aJ.iH,aJ.many⟩⟩;exact⟨_,rfl,false,aV (aS _ _ _) 5,λe=>(by cases e),λ_=>ae _ W⟩
def abX{F F':Nat->Int}{x:Nat}(ij:∀y,y≠x->F' y=F y):∀{fY:List Nat},fY.Nodup->x∈fY->tot (fY.map F')=tot (fY.map F)+(F' x-F x)
 | [],_,h=>by cases h
 |y::fY,ac,h=>by have h3:=List.nodup_cons.1 ac;simp only[List.map_cons,tot];rcases List.mem_cons.1 h with rfl|hm;have:fY.map F'=fY.map F:=List.map_congr_left λz aP=>ij z λe=>h3.1 (e▸aP);rw[this];omega;rw[ij y λe=>h3.1 (e▸hm),abX ij h3.2 hm];omega
def ix(l:List h9)(g:h9):List h9:=l.map λx=>if x.ad=g.ad then g else x
def Sf(l:List h9)(g:h9):(ix l g).map (·.ad)=l.map (·.ad):=by unfold ix;rw[List.map_map];refine List.map_congr_left λx _=>?_;show(if x.ad=g.ad then g else x).ad=x.ad;split;rename_i h;exact h.symm;rfl
def aaJ{l:List h9}{g x:h9}(h:x∈ix l g):x=g∨(x∈l/\x.ad≠g.ad):=by obtain⟨y,af,rfl⟩:=List.mem_map.1 h;split;exact .inl rfl;rename_i ac;exact .inr ⟨af,ac⟩
def aaI{l:List h9}{f g:h9}(M:f∈l)(N:g.ad=f.ad):g∈ix l g:=List.mem_map.2 ⟨f,M,by rw[if_pos N.symm]⟩
def aaK{l:List h9}{x g:h9}(I:x∈l)(ac:x.ad≠g.ad):x∈ix l g:=List.mem_map.2 ⟨x,I,by rw[if_neg ac]⟩
def alY{l:List h9}(hu:(l.map (·.ad)).Nodup){g:h9}{y:Nat}(af:y≠g.ad):lenOf (ix l g) y=lenOf l y:=by
 have kq:((ix l g).map (·.ad)).Nodup:=by rw[Sf];exact hu
 by_cases h:∃x∈l,x.ad=y;obtain⟨x,I,rfl⟩:=h;rw[Bq hu I,Bq kq (aaK I af)];have cb:l.find? (λf=>f.ad==y)=none:=List.find?_eq_none.2 λx I e=>h ⟨x,I,by simpa using e⟩;have di:(ix l g).find? (λf=>f.ad==y)=none:=List.find?_eq_none.2 λx I e=>by rcases aaJ I with rfl|⟨I,_⟩;exact af (by simpa using e:x.ad=y).symm;exact h ⟨x,I,by simpa using e⟩
 unfold lenOf;rw[cb,di]
def KW{T:ak}(aJ:dj T){f g:h9}{e:ByteArray×Nat}(he:e∈T.now)(M:f∈T.ci)(hf:f.ad=e.2)(N:g.ad=f.ad):({T with ci:=ix T.ci g}:ak).used=T.used+(g.xs.length-f.xs.length):=by
 have kq:((ix T.ci g).map (·.ad)).Nodup:=by rw[Sf];exact aJ.qt
 have:=abX (F:=lenOf T.ci) (F':=lenOf (ix T.ci g)) (x:=g.ad) (λy af=>alY aJ.qt af) aJ.cT (List.mem_map.2 ⟨e,he,by rw[N,hf]⟩);rw[List.map_map,List.map_map] at this;have aO:=Bq kq (aaI M N);have ar:=Bq aJ.qt M;rw[<-N] at ar;rw[aO,ar] at this;exact this
def ZF{T:ak}(aJ:dj T){f g:h9}{e:ByteArray×Nat}(he:e∈T.now)(M:f∈T.ci)(hf:f.ad=e.2)(N:g.ad=f.ad)(W:T.used+(g.xs.length-f.xs.length)<=T.room):dj {T with ci:=ix T.ci g} where
 pq dz eY:=by obtain⟨x,I,Jc⟩:=aJ.pq dz eY;by_cases h:x.ad=g.ad;exact⟨g,aaI M N,by rw[<-h];exact Jc⟩;exact⟨x,aaK I h,Jc⟩
 cT:=aJ.cT
 qt:=by show((ix T.ci g).map (·.ad)).Nodup;rw[Sf];exact aJ.qt
 room:=⟨by rw[KW aJ he M hf N];exact W,aJ.room.2⟩
 steps:=aJ.steps
 iH:=aJ.iH
 many:=aJ.many
def cP.set{ab:Nat->Option aN}{b:Nat}{T:ak}{f g:h9}(h:cP ab u b T)(M:f∈T.ci)(N:g.ad=f.ad)(b4:kz u g.b g.xs)(ht:∀c,g.b.ad=some c->ab c=some .bytes):cP ab (u.ins g.ad g.obj) b {T with ci:=ix T.ci g}:=by
 obtain⟨f1,f2,f3,f4⟩:=h.file f M;have ne:∀{c t},ab c=some t->t≠.file->c≠g.ad:=λE ht e=>by rw[e,N,f2] at E;exact ht (Option.some.inj E).symm
 have eA:∀{c o t},u c=some o->ab c=some t->t≠.file->(u.ins g.ad g.obj) c=some o:=λE ht ac=>by rw[aL _ _ (ne ht ac)];exact E
 refine⟨eA h.cell h.fU (by simp),h.fU,h.now.else λo U=>eA U h.oF (by simp),h.oF,h.sv.else λo U=>eA U h.dZ (by simp),h.dZ,h.db.le λc o E U=>eA U (h.gM c E) (by simp),h.gM,λx I=>?_⟩;rcases aaJ I with rfl|⟨I,ac⟩;exact⟨aS _ _ _,by rw[N];exact f2,bb.else b4 λc o E U=>eA U (ht c E) (by simp),ht⟩;obtain⟨cJ,c8,eC,fy⟩:=h.file x I;exact⟨by rw[aL _ _ ac];exact cJ,c8,bb.else eC λc o E U=>eA U (fy c E) (by simp),fy⟩
def zc{ab:Nat->Option aN}{b:Nat}{T:ak}{e:ByteArray×Nat}(h:In Y u ab b T)(aJ:dj T)(hs:T.steps<=1000000000)(he:e∈T.now)
  (ae:∀u' f,f∈T.ci->f.ad=e.2->rI Y u ab b u' ab {T with ci:=ix T.ci {f with safe:=f.b.n},steps:=T.steps+1}->K 0 u'):Ll (some ⟨b,0,none⟩) e.1 u K:=by
 obtain⟨f,M,hf⟩:=aJ.pq e he
 obtain⟨f1,f2,f3,f4⟩:=h.az.file f M
 have c0:u.cell? ⟨e.2,0,none⟩=some (.slice f.b.a f.b.n f.b.c):=by rw[<-hf];exact aV f1 0
 apply arP
 refine aa8 h.az he ⟨λI=>absurd rfl I,λ_=>⟨_,rfl,f.b,c0,_,rfl,_,_,by rw[<-hf];exact f1,rfl,by simp[Addr.add],by simp[Value.oneCell'],?_⟩⟩
 obtain⟨g,N⟩:∃g:h9,g={f with safe:=f.b.n}:=⟨_,rfl⟩
 have OQ:g.ad=f.ad:=by rw[N]
 have ht:cP ab (u.ins g.ad g.obj) b {T with ci:=ix T.ci g}:=h.az.set M OQ (by rw[N];exact f3) (by rw[N];exact f4)
 have ac:ab g.ad≠none:=by rw[OQ,f2];simp
 have hi:In Y (u.ins g.ad g.obj) ab b {T with ci:=ix T.ci g}:=A9 h ac ht
 have hk:dj {T with ci:=ix T.ci g}:=ZF aJ he M hf OQ (by rw[N];have:=aJ.room;show T.used+(f.xs.length-f.xs.length)<=_;omega)
 have yx:=B9 (u:=u) ac g.obj
 have fM:=Kn (K:=K) hi hk hs λu' r=>ae u' f M hf (by rw[N] at r yx;exact⟨r.is,yx.trans r.cL,r.ok⟩)
 rw[N] at fM
 have ar:(⟨e.2,0,none⟩:Addr).block=f.ad:=hf.symm
 rw[show((⟨e.2,0,none⟩:Addr).add 1).block=f.ad from hf.symm]
 exact fM
def Kh{ab:Nat->Option aN}{b:Nat}{T:ak}{e:ByteArray×Nat}{t:J}{xs:List Int}(h:In Y u ab b T)(aJ:dj T)(hs:T.steps<=1000000000)(he:e∈T.now)(I:kz u t xs)(ah:xs≠[])(AA:T.used+xs.length<=T.room)
  (ae:∀u' aM f q,f∈T.ci->f.ad=e.2->rI Y u ab b u' aM {T with ci:=ix T.ci {f with b:=q,xs:=f.xs++xs},steps:=T.steps+1}->K 0 u'):Gq (some ⟨b,0,none⟩) e.1 t u K:=by
 have Je:=kz.len I
 have lc:=aJ.room
 have mu:0<xs.length:=List.length_pos_iff.2 ah
 apply arK
 refine aa8 h.az he ⟨λI=>absurd rfl I,λ_=>⟨_,rfl,_,ak.c h.az.cell 0,ape h.az aJ λv av=>⟨av,?_⟩⟩⟩
 have akM:0<=T.used:=KL λx I=>by obtain⟨e,_,rfl⟩:=List.mem_map.1 I;exact Jw _ _
 refine⟨⟨by omega,by omega⟩,λbh=>absurd bh (by omega),λ_=>?_⟩
 have eg:=h.mono bd av
 obtain⟨f,M,hf⟩:=aJ.pq e he
 obtain⟨f1,f2,f3,f4⟩:=eg.az.file f M
 have pW:=kz.len f3
 have oo:(f.xs.length:Int)<=T.used:=by
  have h1:=Bq aJ.qt M;rw[hf] at h1;obtain⟨r,aa⟩:=KG (a:=[e.2]) (b:=T.now.map (·.2)) (by simp) (λx I=>by rw[List.mem_singleton.1 I];exact List.mem_map.2 ⟨e,he,rfl⟩);have h2:=KM (aa.map (lenOf T.ci));rw[List.map_map,List.map_append,F9] at h2;have h3:0<=tot (r.map (lenOf T.ci)):=KL λx I=>by obtain⟨y,_,rfl⟩:=List.mem_map.1 I;exact Jw _ _
  have aZ:T.used=tot ([e.2].map (lenOf T.ci))+tot (r.map (lenOf T.ci)):=h2;simp only[List.map_cons,List.map_nil,tot] at aZ;omega
 have c0:v.cell? ⟨e.2,0,none⟩=some (.slice f.b.a f.b.n f.b.c):=by rw[<-hf];exact aV f1 0
 have hI:=bb.cap f3
 refine⟨_,rfl,_,rfl,_,rfl,f.b,c0,f.b,c0,f.b,c0,?_⟩
 refine oM (l:=0) (h:=f.b.n) (m:=f.b.n) CZ (.inl ⟨rfl,rfl⟩) (.inr rfl) (.inr ⟨rfl,by simp⟩) (Nat.zero_le _) (Nat.le_refl _) hI hI ?_
 have aa:=bb.part f3 (l:=0) (h:=f.b.n) (m:=f.b.n) (Nat.zero_le _) (Nat.le_refl _) (Nat.le_refl _) hI
 have wF:(f.b.part 0 f.b.n f.b.n 1).n=f.b.n:=rfl
 have ajV:(f.b.part 0 f.b.n f.b.n 1).c=f.b.n:=rfl
 have ji:kz v (f.b.part 0 f.b.n f.b.n 1) f.xs:=by
  have aO:((f.xs.flatMap gN).drop (0*1)).take ((f.b.n-0)*1)=f.xs.flatMap gN:=by rw[Nat.zero_mul,List.drop_zero];exact List.take_of_length_le (by rw[rX,List.length_map];omega)
  rw[aO] at aa;exact aa
 have A5:t.a≠none:=λap=>by rcases bb.at' I with h0|⟨p,aa,_⟩;rw[rX] at h0;exact ah (by simpa using h0);rw[ap] at aa;cases aa
 have gk:f.b.part 0 f.b.n f.b.n 1=⟨none,0,0⟩∨(f.b.part 0 f.b.n f.b.n 1).a≠none:=by
  rcases bb.at' f3 with h0|⟨p,aa,_⟩;rw[rX] at h0;have ag7:f.xs=[]:=by simpa using h0
  have et:f.b.n=0:=by rw[pW,ag7];rfl
  cases ap:f.b.a with
  |none=>left;unfold J.part;rw[ap,et];rfl|some p=>right;unfold J.part;rw[ap];dsimp only;split<;>simp
  right;unfold J.part;rw[aa];dsimp only;split<;>simp
 refine R7 CZ ji (I.mono av) (by rw[ajV,wF];omega) gk A5 (by rw[wF];omega) (by rw[wF];omega) λg c cur N jh=>?_
 rw[wF] at jh ⊢
 obtain⟨q,ay⟩:∃q:J,q=⟨some ⟨g,0,none⟩,f.b.n+t.n,c⟩:=⟨_,rfl⟩
 rw[<-ay] at jh ⊢
 obtain⟨o,U⟩:∃o,o=Obj.cells cur 5 (0,0):=⟨_,rfl⟩
 rw[<-U] at jh ⊢
 have lw:v.le (v.ins g o):=bN _ N
 have hw:=eg.mono bd lw
 have IQ:q.ad=some g:=by rw[ay];rfl
 obtain⟨aM,hi,jz,iM⟩:=hw.tag bd (q.sL .bytes) λx I=>by
  obtain rfl:g=x:=by have:=J.abU I;rw[IQ] at this;exact Option.some.inj this
  exact⟨eg.fresh N,eg.le.none N,by rw[aS];simp⟩
 obtain⟨g1,g2,g3,g4⟩:=hi.az.file f M
 obtain⟨F,ij⟩:∃F:h9,F={f with b:=q,xs:=f.xs++xs}:=⟨_,rfl⟩
 have H6:F.ad=f.ad:=by rw[ij]
 have b4:kz (v.ins g o) F.b F.xs:=by rw[ij];show bb _ q 1 ((f.xs++xs).flatMap gN);rw[List.flatMap_append];exact jh.bR
 have ahX:cP aM ((v.ins g o).ins F.ad F.obj) b {T with ci:=ix T.ci F}:=hi.az.set M H6 b4 λx I=>jz x _ (by rw[ij] at I;exact J.aqS I)
 have ac:aM F.ad≠none:=by rw[H6,g2];simp
 have wu:In Y ((v.ins g o).ins F.ad F.obj) aM b {T with ci:=ix T.ci F}:=A9 hi ac ahX
 have hk:dj {T with ci:=ix T.ci F}:=ZF aJ he M hf H6 (by rw[ij];show T.used+(((f.xs++xs).length:Nat)-f.xs.length:Int)<=_;rw[List.length_append];omega)
 have yx:gu u ab ((v.ins g o).ins F.ad F.obj) aM:=by
  have t1:gu u ab (v.ins g o) aM:=(gu.mono (av.trans lw)).tag λx=>by
   by_cases I:q.sL aN.bytes x=none;exact .inl (iM x I);obtain rfl:g=x:=by have:=J.abU I;rw[IQ] at this;exact Option.some.inj this
   exact .inr (.inr (av.none N))
  exact t1.trans (B9 ac F.obj)
 have fM:=Kn (K:=K) wu hk hs λu' r=>ae u' aM f q M hf (by rw[ij] at r yx;exact⟨r.is,yx.trans r.cL,r.ok⟩)
 refine⟨_,rfl,_,_,by rw[show(⟨e.2,0,none⟩:Addr).block=f.ad from hf.symm];exact g1,rfl,by simp,by simp[Value.oneCell'],?_⟩
 rw[show(⟨e.2,0,none⟩:Addr).block=F.ad by rw[H6];exact hf.symm]
 rw[ij] at fM ⊢
 exact fM
def Dl(x:Int):Prop:=(97<=x/\x<=122)∨(48<=x/\x<=57)∨x=46∨x=45
def pC:Tryz.prog.underlying 9=some .string:=by kernel_rfl
def SS:Tryz.prog.underlying 183=some (.slice 5):=by kernel_rfl
def SR:Tryz.prog.underlying 5=some (.int .u8):=by kernel_rfl
def apw{s:ByteArray}{K:Bool->H->Prop}(h0:s.toList≠[])(V9:s.size<=32)(N:∀x∈ju s,Dl x)(ae:∀u',u.le u'->K true u'):Lp s u K:=by
 apply arW;refine aoz pC SS SR (by omega) λt v av ht akz=>?_;have ai:=zU s;refine⟨λ_ i w=>w=v/\0<=i,λ_ i _=>(t.n-i).toNat,⟨rfl,by omega⟩,?_⟩;rintro b i w ⟨rfl,i0⟩;refine⟨λhi=>?_,λ_=>⟨λ_=>?_,λe=>absurd e h0⟩⟩;intro g pd;have go:=pd b w ⟨⟨by omega,by omega⟩,⟨rfl,by omega⟩,by dsimp only;omega⟩;have bh:i.toNat<(ju s).length:=by omega
 obtain⟨p,aa,E⟩:=bb.elem Nd (by decide) ht (List.getElem?_eq_getElem bh);have I:=N _ (List.getElem_mem bh);unfold Dl at I;refine⟨p,aa,⟨i0,hi⟩,_,E 0 _ rfl,?_⟩;generalize (ju s)[i.toNat]=x at I
 focus repeat' (first|exact go|(exfalso;omega)|(refine⟨λ_=>?_,λ_=>?_⟩))
 rw[decide_eq_true (by omega)];exact ae _ av
def Km{m b:Nat}{l:List (ByteArray×Nat)}{s:ByteArray}{K:H->Prop}(h:dI u m (jX l))(h0:s.toList≠[])(hs:s∉l.map (·.1))(ae:∀o,dI (u.ins m o) m (jX (l++ [(s,b)]))->K (u.ins m o)):
  Lq (some m) (ByteArray.mk #[]) s (some ⟨b,0,none⟩) u K:=by
 apply arX
 intro a ap
 refine⟨λI=>absurd (by first|decide|(unfold ByteArray.toList ByteArray.toList.loop;rfl)|(rw[ByteArray.toList,ByteArray.toList.loop.eq_1];rfl)) I,λ_=>ap _ ⟨λ_=>?_,λe=>absurd e h0⟩⟩
 refine y8 wT h (getD_none hs) λo U=>ae o ?_
 unfold jX at U ⊢
 rw[List.map_append]
 exact U
def F7:iG Tryz.prog 114=some (327,3,40,[.string .empty,.string .empty,.pointer none]):=by kernel_rfl
def aeV(x y:ByteArray)(n:Nat):hF Tryz.prog 114 1 #[(0,.agg #[.string x,.string y,.pointer (some ⟨n,0,none⟩)])]=some (327,[.string x,.string y,.pointer (some ⟨n,0,none⟩)]):=by kernel_rfl
def ak.new(T:ak)(s:ByteArray)(n:Nat)(q:J):ak:={T with ci:=T.ci++ [⟨n,⟨none,0,0⟩,[],0⟩],now:=T.now++ [(s,n)],cs:=q,db:=T.db++ [(.mk #[],s,some n)],steps:=T.steps+1}
def Jv(l:List h9)(n b:Nat):lenOf (l++ [⟨n,⟨none,0,0⟩,[],0⟩]) b=lenOf l b:=by
 unfold lenOf;rw[List.find?_append];cases l.find? λf=>f.ad==b with
 |some f=>rfl|none=>rw[Option.none_or,List.find?_cons];by_cases h:n=b;rw[show(n==b)=true by simpa using h];rfl;rw[show(n==b)=false by simpa using h];rfl
def dj.new{T:ak}(h:dj T){s:ByteArray}{n:Nat}{q:J}(ac:n∉T.ci.map (·.ad))(ai:T.now.length<64)(E:T.db.length<1000000):dj (T.new s n q) where
 pq e he:=by rcases List.mem_append.1 he with he|he;obtain⟨f,M,hf⟩:=h.pq e he;exact⟨f,List.mem_append_left _ M,hf⟩;rw[List.mem_singleton.1 he];exact⟨_,List.mem_append_right _ (.head _),rfl⟩
 cT:=by show((T.now++ [(s,n)]).map (·.2)).Nodup;rw[List.map_append];refine List.nodup_append.2 ⟨h.cT,by simp,λa ap b Z e=>?_⟩;obtain⟨dz,eY,rfl⟩:=List.mem_map.1 ap;obtain⟨f,M,hf⟩:=h.pq dz eY;rw[List.mem_singleton.1 Z] at e;exact ac (List.mem_map.2 ⟨f,M,hf.trans e⟩)
 qt:=by show((T.ci++ [(⟨n,⟨none,0,0⟩,[],0⟩:h9)]).map (·.ad)).Nodup;rw[List.map_append];exact List.nodup_append.2 ⟨h.qt,by simp,λa ap b Z e=>ac (by have dz:a=n:=e.trans (List.mem_singleton.1 Z);rw[<-dz];exact ap)⟩
 room:=by
  have aO:(T.new s n q).used=T.used:=by
   unfold ak.used ak.new;dsimp only;rw[List.map_append,F9,List.map_congr_left λe _=>Jv T.ci n e.2];have:lenOf T.ci n=0:=by unfold lenOf;rw[List.find?_eq_none.2 λx I e=>ac (List.mem_map.2 ⟨x,I,by simpa using e⟩)]
   simp only[List.map_cons,List.map_nil,tot,Jv,this];omega
  rw[aO];exact h.room
 steps:=by have:=h.steps;show 0<=T.steps+1;omega
 iH:=by show(T.now++ [(s,n)]).length<=64;simp;omega
 many:=by show(T.db++ [_]).length<=1000000;simp;omega
def arp{T:ak}{s:ByteArray}{n:Nat}{q:J}(h:dj (T.new s n q)):(T.new s n q).used=T.used:=by
 have hu:((T.ci++ [(⟨n,⟨none,0,0⟩,[],0⟩:h9)]).map (·.ad)).Nodup:=h.qt;rw[List.map_append] at hu;have ac:n∉T.ci.map (·.ad):=λhm=>(List.nodup_append.1 hu).2.2 _ hm _ (.head _) rfl;unfold ak.used ak.new;dsimp only;rw[List.map_append,F9,List.map_congr_left λe _=>Jv T.ci n e.2];have:lenOf T.ci n=0:=by unfold lenOf;rw[List.find?_eq_none.2 λx I e=>ac (List.mem_map.2 ⟨x,I,by simpa using e⟩)]
 simp only[List.map_cons,List.map_nil,tot,Jv,this];omega
def age(l:List Ml):(l.flatMap Nf).length=l.length*3:=by
 induction l with
 |nil=>rfl|cons c l aG=>rw[List.flatMap_cons,List.length_append,aG,List.length_cons];show 3+_=_;omega
def aoZ{ab:Nat->Option aN}{b:Nat}{T:ak}{s:ByteArray}(h:In Y u ab b T)(aJ:dj T)(hs:T.steps<=1000000000)(h0:s.toList≠[])(V9:s.size<=32)(N:∀x∈ju s,Dl x)(I:s∉T.now.map (·.1))(ai:T.now.length<64)(E:T.db.length<1000000)
  (ae:∀u' aM n q,rI Y u ab b u' aM (T.new s n q)->K 0 u'):Li (some ⟨b,0,none⟩) s u K:=by
 apply arL
 refine B5 h.az.cell ⟨λI=>absurd rfl I,λ_=>⟨_,rfl,_,ak.c h.az.cell 1,mE wT h.az.now (ct:=.ptr) none (by rw[getD_none I];rfl) ?_⟩⟩
 rw[getD_none I]
 refine apw h0 V9 N λv av=>⟨λe=>absurd rfl e,λ_=>⟨λe=>(by cases e),λ_=>?_⟩⟩
 have eg:=h.mono bd av
 refine⟨_,rfl,_,ak.c eg.az.cell 1,sH wT eg.az.now ⟨λbh=>?_,λ_=>?_⟩⟩
 exfalso;unfold jX at bh;rw[List.length_map] at bh;omega
 intro n ac
 obtain⟨F,ij⟩:∃F:h9,F=⟨n,⟨none,0,0⟩,[],0⟩:=⟨_,rfl⟩
 have lw:v.le (v.ins n F.obj):=bN _ ac
 have hw:=eg.mono bd lw
 obtain⟨aM,hi,jz,iM⟩:=hw.tag bd (λc=>if c=n then some .file else none) λc E=>by
  obtain rfl:c=n:=by by_cases e:c=n;exact e;exact absurd (if_neg e) E
  exact⟨eg.fresh ac,eg.le.none ac,by rw[aS];simp⟩
 have u1:aM n=some .file:=jz n _ (if_pos rfl)
 have Ye:gu u ab (v.ins n F.obj) aM:=(gu.mono (av.trans lw)).tag λc=>by by_cases e:c=n;subst e;exact .inr (.inr (av.none ac));exact .inl (iM c (if_neg e))
 have XG:n∉T.ci.map (·.ad):=λhm=>by obtain⟨f,M,e⟩:=List.mem_map.1 hm;have:=(eg.az.file f M).1;rw[e,ac] at this;cases this
 rw[show Obj.cells #[.slice none 0 0,.int .i64 0] 275 (0,0)=F.obj by rw[ij];rfl]
 obtain⟨w,EK⟩:∃w,w=v.ins n F.obj:=⟨_,rfl⟩
 have aho:w n=some F.obj:=by rw[EK,aS]
 rw[<-EK] at hi Ye ⊢
 apply arS
 refine⟨_,rfl,_,ak.c hi.az.cell 1,Km hi.az.now h0 I λo U=>?_⟩
 obtain⟨a6,jY⟩:∃a6:ak,a6={T with ci:=T.ci++ [F],now:=T.now++ [(s,n)]}:=⟨_,rfl⟩
 have SN:aM T.m=some .now:=hi.az.oF
 have ne:∀{c t},aM c=some t->t≠.now->c≠T.m:=λE ht e=>by rw[e,SN] at E;exact ht (Option.some.inj E).symm
 have eA:∀{c bn t},w c=some bn->aM c=some t->t≠.now->(w.ins T.m o) c=some bn:=λE ht ac=>by rw[aL _ _ (ne ht ac)];exact E
 have ht:cP aM (w.ins T.m o) b a6:=by
  rw[jY];refine⟨eA hi.az.cell hi.az.fU (by simp),hi.az.fU,U,SN,hi.az.sv.else λo U=>eA U hi.az.dZ (by simp),hi.az.dZ,hi.az.db.le λc o E U=>eA U (hi.az.gM c E) (by simp),hi.az.gM,λx I=>?_⟩;rcases List.mem_append.1 I with I|I;obtain⟨cJ,c8,eC,fy⟩:=hi.az.file x I;exact⟨eA cJ c8 (by simp),c8,bb.else eC λc o E U=>eA U (fy c E) (by simp),fy⟩;rw[List.mem_singleton.1 I];have Wk:F.ad=n:=by rw[ij]
  refine⟨by rw[Wk];exact eA aho u1 (by simp),by rw[Wk];exact u1,by rw[ij];exact(aE.nil (H.le.refl _) 0 1).own.bR,λg N=>by rw[ij] at N;cases N⟩
 have hm:aM T.m≠none:=by rw[SN];simp
 have h1:In Y (w.ins T.m o) aM b a6:=A9 hi hm ht
 have P9:=Ye.trans (B9 hm o)
 have fT:a6.cs=T.cs:=by rw[jY]
 have av4:a6.db=T.db:=by rw[jY]
 have Az:=h1.az.db
 have hlen:T.cs.n=T.db.length:=by have:=h.az.db.bR.len;rw[age] at this;omega
 refine⟨_,rfl,a6.cs,ak.c h1.az.cell 3,?_⟩
 refine vp F7 (aeV _ _ _) (by decide) rfl (by simp[Value.oneCell']) Az.f (by rw[fT];omega) (by rw[fT];omega) λq z ay wI cQ ee XU=>?_
 have Ik:∀{c bn},(w.ins T.m o) c=some bn->aM c≠some .db->z c=some bn:=λE ac=>cQ _ _ E λe=>ac (h1.az.gM _ e)
 let iI:Nat->Option aN:=λc=>open Classical in if q.ad=some c then some .db else if a6.cs.ad=some c then none else aM c
 have cC:∀c,q.ad=some c->iI c=some .db:=λc E=>if_pos E
 have lr:∀c,q.ad=some c->aM c=some .db∨(w.ins T.m o) c=none:=λc E=>(ee c E).imp (h1.az.gM c) λh=>h
 have cz:∀c t,aM c=some t->t≠.db->iI c=some t:=λc t E ht=>by
  have cb:q.ad≠some c:=λe=>by rcases lr c e with h2|h2;rw[E] at h2;exact ht (Option.some.inj h2);exact h1.known c (by rw[E];simp) h2
  have di:a6.cs.ad≠some c:=λe=>by have:=h1.az.gM c e;rw[E] at this;exact ht (Option.some.inj this)
  simp only[iI,if_neg cb,if_neg di,E]
 have ff:∀c,iI c≠none->q.ad=some c∨aM c≠none:=λc E=>by by_cases e:q.ad=some c;exact .inl e;refine .inr λac=>E ?_;simp only[iI,if_neg e,ac,ite_self]
 have uC:z b=some a6.obj:=Ik h1.az.cell (by rw[h1.az.fU];simp)
 have FB:q.ad≠some b:=λe=>by rcases lr b e with h2|h2;rw[h1.az.fU] at h2;cases h2;exact h1.known b (by rw[h1.az.fU];simp) h2
 obtain⟨fB,kk⟩:∃fB:ak,fB={a6 with cs:=q,db:=a6.db++ [(.mk #[],s,some n)]}:=⟨_,rfl⟩
 have fq:∀{c bn t},(w.ins T.m o) c=some bn->aM c=some t->t≠.db->t≠.obj->(z.ins b fB.obj) c=some bn:=λE ht h2 h3=>by rw[aL _ _ λe=>by rw[e,h1.az.fU] at ht;exact h3 (Option.some.inj ht).symm];exact Ik E (by rw[ht];exact λe=>h2 (Option.some.inj e))
 have iM:cP iI (z.ins b fB.obj) b fB:=by
  refine⟨aS _ _ _,cz _ _ h1.az.fU (by simp),?_,?_,?_,?_,?_,?_,?_⟩;rw[kk];exact h1.az.now.else λo U=>by have:=fq U h1.az.oF (by simp) (by simp);rw[kk] at this;exact this
  rw[kk];exact cz _ _ h1.az.oF (by simp);rw[kk];exact h1.az.sv.else λo U=>by have:=fq U h1.az.dZ (by simp) (by simp);rw[kk] at this;exact this
  rw[kk];exact cz _ _ h1.az.dZ (by simp);have:Own (z.ins b fB.obj) 327 3 q ((a6.db++ [(ByteArray.mk #[],s,some n)]).flatMap Nf):=by rw[List.flatMap_append];exact ay.own.le λg o N U=>by rw[aL _ _ λe=>FB (by rw[<-e];exact N)];exact U
  rw[kk] at this ⊢;exact this;rw[kk];exact cC;intro x I;obtain⟨cJ,c8,eC,fy⟩:=h1.az.file x (by rw[kk] at I;exact I);exact⟨fq cJ c8 (by simp) (by simp),cz _ _ c8 (by simp),bb.else eC λc o E U=>fq U (fy c E) (by simp) (by simp),λg N=>cz _ _ (fy g N) (by simp)⟩
 have h2:In Y (z.ins b fB.obj) iI b fB:=by
  refine⟨iM,λc bn E=>?_,λc E=>?_,λc E=>?_⟩;have M:aM c=none:=by
    cases e:aM c with
    |none=>rfl|some t=>have:=h1.out c (by rw[e];simp);rw[this] at E;cases E
  rw[aL _ _ λe=>by rw[e,h1.az.fU] at M;cases M];exact Ik (h1.le c bn E) (by rw[M];simp);rcases ff c E with e|e;rcases lr c e with h2|h2;exact h1.out c (by rw[h2];simp);exact h1.le.none h2;exact h1.out c e;by_cases e:c=b;rw[e,aS];simp;rw[aL _ _ e];by_cases yr:q.ad=some c;rcases ay.own.is with h0|⟨g,cur,ap,N,_⟩;rw[h0] at yr;cases yr;have ar:some g=some c:=by unfold J.ad at yr;rw[ap] at yr;exact yr
  rw[<-Option.some.inj ar,N];simp;have e2:a6.cs.ad≠some c:=λar=>E (by simp only[iI,if_neg yr,if_pos ar]);have:aM c≠none:=λcq=>E (by simp only[iI,if_neg yr,if_neg e2,cq]);obtain⟨bn,bG⟩:=Option.ne_none_iff_exists'.1 (h1.known c this);rw[cQ c bn bG e2];simp
 have akA:gu u ab (z.ins b fB.obj) iI:=by refine P9.trans ⟨λc bn E M=>?_,λc E=>?_⟩;rw[aL _ _ λe=>by rw[e,h1.az.fU] at M;cases M];exact Ik E (by rw[M];simp);rcases ff c E with e|e;exact(lr c e).imp (λh=>by rw[h];simp) λh=>h;exact .inl e
 have hk:=dj.new (s:=s) (n:=n) (q:=q) aJ XG ai E
 have gP:dj fB:=by rw[kk,jY,ij];exact⟨hk.pq,hk.cT,hk.qt,hk.room,aJ.steps,hk.iH,hk.many⟩
 have fM:=Kn (K:=K) h2 gP (by rw[kk,jY];exact hs) λu' r=>ae u' iI n q (by
  have e:({fB with steps:=fB.steps+1}:ak)=T.new s n q:=by rw[kk,jY,ij];rfl
  rw[e] at r;exact⟨r.is,akA.trans r.cL,r.ok⟩)
 refine⟨_,rfl,_,_,uC,rfl,by simp[Addr.add],by simp[Value.oneCell'],?_⟩
 rw[kk] at fM
 exact fM
def ao3{room:Int}{K:Option Addr->Int->H->Prop}(h1:1<=room)(h2:room<=4194304)
  (ae:∀u' ab b T,In u u' ab b T->dj T->T.now=[]->T.sv=[]->T.db=[]->T.ci=[]->T.steps=0->T.room=room->K (some ⟨b,0,none⟩) 0 u'):Lo room u K:=by
 apply arV
 intro a ap
 refine⟨λh=>absurd h (by omega),λ_=>⟨λh=>absurd h (by omega),λ_=>ap _ _ _ ?_⟩⟩
 refine Ka ByteArray λm l3 hm Bw=>Ka ByteArray λsm os hs ms=>?_
 intro b Z
 have b9:=bN (u:=u) (b:=m) l3 hm
 have cZ:=bN (u:=u.ins m l3) (b:=sm) os hs
 obtain⟨T,aJ⟩:∃T:ak,T=⟨m,sm,[],[],[],⟨none,0,0⟩,[],0,room⟩:=⟨_,rfl⟩
 have qe:=bN (u:=(u.ins m l3).ins sm os) (b:=b) T.obj Z
 have amS:sm≠m:=λe=>by rw[e,aS] at hs;cases hs
 have Zr:b≠sm:=λe=>by rw[e,aS] at Z;cases Z
 have amy:b≠m:=λe=>by rw[aL _ _ (λar=>Zr ar),e,aS] at Z;cases Z
 let ab:Nat->Option aN:=λc=>if c=b then some .obj else if c=m then some .now else if c=sm then some .sv else none
 have agA:ab b=some .obj:=if_pos rfl
 have HQ:ab m=some .now:=by simp only[ab,if_neg amy.symm,if_pos]
 have aB:ab sm=some .sv:=by simp only[ab,if_neg Zr.symm,if_neg amS,if_pos]
 have hr:∀c,ab c≠none->c=b∨c=m∨c=sm:=λc E=>by by_cases aO:c=b;exact .inl aO;by_cases ar:c=m;exact .inr (.inl ar);by_cases cq:c=sm;exact .inr (.inr cq);exact absurd (by simp only[ab,if_neg aO,if_neg ar,if_neg cq]) E
 have nx:∀c,ab c≠none->u c=none:=λc E=>by rcases hr c E with rfl|rfl|rfl;exact(b9.trans cZ).none Z;exact hm;exact b9.none hs
 have Q9:dI (((u.ins m l3).ins sm os).ins b T.obj) m (jX []):=Bw.else λo U=>qe _ _ (cZ _ _ U)
 have R1:dI (((u.ins m l3).ins sm os).ins b T.obj) sm (jX []):=ms.else λo U=>qe _ _ U
 refine(λ(g:K (some ⟨b,0,none⟩) 0 (((u.ins m l3).ins sm os).ins b T.obj))=>by rw[aJ] at g;exact g) ?_
 refine ae _ ab b T ⟨?_,(b9.trans cZ).trans qe,nx,λc E=>?_⟩ ?_ (by rw[aJ]) (by rw[aJ]) (by rw[aJ]) (by rw[aJ]) (by rw[aJ]) (by rw[aJ])
 rw[aJ] at Q9 R1 ⊢
 exact⟨aS _ _ _,agA,Q9,HQ,R1,aB,.nil _ _ _,λg N=>(by cases N),λf M=>(by cases M)⟩
 rcases hr c E with rfl|rfl|rfl
 rw[aS];simp
 obtain⟨es,cl,h,_⟩:=Q9;rw[h];simp
 obtain⟨es,cl,h,_⟩:=R1;rw[h];simp
 rw[aJ]
 exact⟨λe he=>(by cases he),.nil,.nil,⟨by show(0:Int)<=room;omega,h2⟩,Int.le_refl _,by simp,by simp⟩
def an9{P:Program}{w:World}{r:Nat}{es:Array MapEntry}{clock:Nat}(t:TypeId)(Z:w.heap[r]?=some (.map es clock)):
  (Extern.MapsClone.clone #[.iface t (.map (some r))]).run P w=.ok (.iface t (.map (some w.heap.size))) (w.alloc (.map es clock)):=by
 have e:Extern.MapsClone.clone #[.iface t (.map (some r))]=(getObj r>>=λo=>match o with
   | .map entries clock=>(newObj (.map entries clock)>>=λn=>pure (.iface t (.map (some n))))|_=>stuck "maps.clone: a map expected"):=rfl
 rw[e]
 simp[MapKept.run_getObj_map Z,Result.andThen,go_sem]
def an8{P:Program}{w:World}(t auZ k e:TypeId)(v:Value)(h:P.underlying t=some (.map k e)):(Instr.typeAssert (.iface t v) auZ t false).run P w=.ok v w:=by simp[Instr.typeAssert,run_underlying h,go_sem,Result.andThen]
def apk{b:Nat}{l:List (ByteArray×Value)}{K:Option Nat->H->Prop}(h:dI u b l)(ae:∀m o,u m=none->dI (u.ins m o) m l->K (some m) (u.ins m o)):LH (some b) u K:=by apply asU;refine⟨λe=>(by cases e),λ_=>?_⟩;obtain⟨es,c,Z,ai⟩:=h;refine .one (c:=.val) λw hw=>⟨.iface 113 (.map (some w.heap.size)),_,_,?_,?_,Step.ra hw (.map es c)⟩;unfold rS;rw[Sem.run_bind,run_callFunc_extern Tryz.func233 (by kernel_rfl) (by kernel_rfl) (by kernel_rfl) (e:=Extern.MapsClone.clone) (by kernel_rfl),an9 _ (hw _ _ Z)];rfl;exact .rf (c:=.map) (some w.heap.size) (λaw _=>an8 _ _ _ _ _ wT.eO) (ae _ _ (hw.none (Nat.le_refl _)) ⟨es,c,aS _ _ _,ai⟩)
def ak.dir(T:ak)(m:Nat):ak:={T with sm:=m,sv:=T.now,cs:=⟨none,0,0⟩,db:=[]}
def apd{ab:Nat->Option aN}{b:Nat}{T:ak}(h:In Y u ab b T)(aJ:dj T)(hs:T.steps<=1000000000)
  (ae:∀u' aM m,rI Y u ab b u' aM {T.dir m with steps:=T.steps+1}->K 0 u'):Lm (some ⟨b,0,none⟩) u K:=by
 apply arQ
 refine B5 h.az.cell ⟨λI=>absurd rfl I,λ_=>⟨_,rfl,_,ak.c h.az.cell 1,apk h.az.now λm o hm Bw=>?_⟩⟩
 have b9:=bN (u:=u) (b:=m) o hm
 have hw:=h.mono bd b9
 obtain⟨w,EK⟩:∃w,w=u.ins m o:=⟨_,rfl⟩
 have tE:w m≠none:=by rw[EK,aS];simp
 rw[<-EK] at hw Bw b9 ⊢
 obtain⟨aM,hi,jz,iM⟩:=hw.tag bd (λc=>if c=m then some .sv else none) λc E=>by
  obtain rfl:c=m:=by by_cases e:c=m;exact e;exact absurd (if_neg e) E
  exact⟨h.fresh hm,h.le.none hm,tE⟩
 have AK:aM m=some .sv:=jz m _ (if_pos rfl)
 have yx:gu u ab w aM:=(gu.mono b9).tag λc=>by by_cases e:c=m;subst e;exact .inr (.inr hm);exact .inl (iM c (if_neg e))
 obtain⟨a6,jY⟩:∃a6:ak,a6={T with sm:=m,sv:=T.now}:=⟨_,rfl⟩
 have Z:aM b≠none:=by rw[hi.az.fU];simp
 have ne:∀{c t},aM c=some t->t≠.obj->c≠b:=λE ht e=>by rw[e,hi.az.fU] at E;exact ht (Option.some.inj E).symm
 have eA:∀{c bn t},w c=some bn->aM c=some t->t≠.obj->(w.ins b a6.obj) c=some bn:=λE ht ac=>by rw[aL _ _ (ne ht ac)];exact E
 have t1:cP aM (w.ins b a6.obj) b a6:=by rw[jY] at eA ⊢;refine⟨aS _ _ _,hi.az.fU,hi.az.now.else λo U=>eA U hi.az.oF (by simp),hi.az.oF,Bw.else λo U=>eA U AK (by simp),AK,hi.az.db.le λg o N U=>eA U (hi.az.gM g N) (by simp),hi.az.gM,λf M=>?_⟩;obtain⟨h1,h2,h3,aZ⟩:=hi.az.file f M;exact⟨eA h1 h2 (by simp),h2,bb.else h3 λg o N U=>eA U (aZ g N) (by simp),aZ⟩
 have i1:=A9 hi Z t1
 obtain⟨fB,kk⟩:∃fB:ak,fB={a6 with cs:=⟨none,0,0⟩,db:=[]}:=⟨_,rfl⟩
 have t2:cP aM ((w.ins b a6.obj).ins b fB.obj) b fB:=by
  have Fu:∀{c bn t},(w.ins b a6.obj) c=some bn->aM c=some t->t≠.obj->((w.ins b a6.obj).ins b fB.obj) c=some bn:=λE ht ac=>by rw[aL _ _ (ne ht ac)];exact E
  rw[kk] at Fu ⊢;refine⟨aS _ _ _,i1.az.fU,i1.az.now.else λo U=>Fu U i1.az.oF (by simp),i1.az.oF,i1.az.sv.else λo U=>Fu U i1.az.dZ (by simp),i1.az.dZ,.nil _ _ _,λg N=>(by cases N),λf M=>?_⟩;obtain⟨h1,h2,h3,aZ⟩:=i1.az.file f M;exact⟨Fu h1 h2 (by simp),h2,bb.else h3 λg o N U=>Fu U (aZ g N) (by simp),aZ⟩
 have i2:=A9 i1 Z t2
 have hk:dj fB:=by rw[kk,jY];exact⟨aJ.pq,aJ.cT,aJ.qt,aJ.room,aJ.steps,aJ.iH,by simp⟩
 have P9:=(yx.trans (B9 Z a6.obj)).trans (B9 Z fB.obj)
 have fM:=Kn (K:=K) i2 hk (by rw[kk,jY];exact hs) λu' r=>ae u' aM m (by
  have e:({fB with steps:=fB.steps+1}:ak)={T.dir m with steps:=T.steps+1}:=by rw[kk,jY];rfl
  rw[e] at r;exact⟨r.is,P9.trans r.cL,r.ok⟩)
 refine⟨_,rfl,_,_,hi.az.cell,rfl,by simp[Addr.add],by simp[Value.oneCell'],?_⟩
 rw[jY] at fM
 refine⟨_,rfl,_,_,aS _ _ _,rfl,by first|(show(4:Nat)<=7;decide)|simp[Addr.add,wr],by simp[Value.oneCell'],?_⟩
 rw[kk,jY] at fM
 exact fM
end
end b1
end Go.Proofs.YtnaemgklhjkdhaaGreatDoor
namespace Go.Proofs
open Go.Shelf
def Tryz.aoX:Go.Shelf.Ren:=⟨fun|54=>230|64=>168|65=>268|78=>226|79=>227|80=>281|81=>282|82=>283|83=>284|84=>285|85=>286|61=>287|86=>288|87=>289|93=>305|89=>263|90=>264|94=>306|95=>307|69=>308|97=>326|n=>n,fun|25=>228|26=>9|3=>3|51=>315|0=>0|67=>281|69=>24|4=>4|61=>373|60=>372|44=>289|5=>5|9=>9|75=>409|79=>412|83=>425|84=>426|n=>n,fun|n=>n⟩
def Tryz.aoW:Go.Proofs.SlLaysN.n54 Tryz.prog Tryz.aoX:={
 mixed:=by kernel_rfl
 f54:=⟨Tryz.f230.name,by decide,Tryz.func230.trans (congrArg some (by kernel_rfl))⟩
 f61:=⟨Tryz.f287.name,by decide,Tryz.func287.trans (congrArg some (by kernel_rfl))⟩
 f64:=Tryz.func168.trans (congrArg some (by kernel_rfl))
 f65:=⟨Tryz.f268.name,by decide,Tryz.func268.trans (congrArg some (by kernel_rfl))⟩
 f69:=⟨Tryz.f308.name,by decide,Tryz.func308.trans (congrArg some (by kernel_rfl))⟩
 f78:=Tryz.func226.trans (congrArg some (by kernel_rfl))
 f79:=Tryz.func227.trans (congrArg some (by kernel_rfl))
 f80:=⟨Tryz.f281.name,by decide,Tryz.func281.trans (congrArg some (by kernel_rfl))⟩
 f81:=⟨Tryz.f282.name,by decide,Tryz.func282.trans (congrArg some (by kernel_rfl))⟩
 f82:=⟨Tryz.f283.name,by decide,Tryz.func283.trans (congrArg some (by kernel_rfl))⟩
 f83:=⟨Tryz.f284.name,by decide,Tryz.func284.trans (congrArg some (by kernel_rfl))⟩
 f84:=⟨Tryz.f285.name,by decide,Tryz.func285.trans (congrArg some (by kernel_rfl))⟩
 f85:=⟨Tryz.f286.name,by decide,Tryz.func286.trans (congrArg some (by kernel_rfl))⟩
 f86:=⟨Tryz.f288.name,by decide,Tryz.func288.trans (congrArg some (by kernel_rfl))⟩
 f87:=⟨Tryz.f289.name,by decide,Tryz.func289.trans (congrArg some (by kernel_rfl))⟩
 f89:=Tryz.func263.trans (congrArg some (by kernel_rfl))
 f90:=Tryz.func264.trans (congrArg some (by kernel_rfl))
 f93:=⟨Tryz.f305.name,by decide,Tryz.func305.trans (congrArg some (by kernel_rfl))⟩
 f94:=⟨Tryz.f306.name,by decide,Tryz.func306.trans (congrArg some (by kernel_rfl))⟩
 f95:=⟨Tryz.f307.name,by decide,Tryz.func307.trans (congrArg some (by kernel_rfl))⟩
 f97:=⟨Tryz.f326.name,by decide,Tryz.func326.trans (congrArg some (by kernel_rfl))⟩
 t0:=Tryz.underlying0
 a0:=Tryz.isAgg0
 z0:=Tryz.sizeOf0
 v0:=Tryz.zeroValue0
 t3:=Tryz.underlying3
 a3:=Tryz.isAgg3
 z3:=Tryz.sizeOf3
 v3:=Tryz.zeroValue3
 t4:=Tryz.underlying4
 a4:=Tryz.isAgg4
 z4:=Tryz.sizeOf4
 v4:=Tryz.zeroValue4
 t5:=Tryz.underlying5
 a5:=Tryz.isAgg5
 z5:=Tryz.sizeOf5
 v5:=Tryz.zeroValue5
 t9:=Tryz.underlying9
 a9:=Tryz.isAgg9
 z9:=Tryz.sizeOf9
 v9:=Tryz.zeroValue9
 t25:=Tryz.underlying228
 a25:=Tryz.isAgg228
 z25:=Tryz.sizeOf228
 v25:=Tryz.zeroValue228
 t26:=Tryz.underlying9
 a26:=Tryz.isAgg9
 z26:=Tryz.sizeOf9
 v26:=Tryz.zeroValue9
 t44:=Tryz.underlying289
 a44:=Tryz.isAgg289
 z44:=Tryz.sizeOf289
 v44:=Tryz.zeroValue289
 t51:=Tryz.underlying315
 a51:=Tryz.isAgg315
 z51:=Tryz.sizeOf315
 v51:=Tryz.zeroValue315
 t60:=Tryz.underlying372
 a60:=Tryz.isAgg372
 z60:=Tryz.sizeOf372
 v60:=Tryz.zeroValue372
 t61:=Tryz.underlying373
 a61:=Tryz.isAgg373
 z61:=Tryz.sizeOf373
 v61:=Tryz.zeroValue373
 t67:=Tryz.underlying281
 a67:=Tryz.isAgg281
 z67:=Tryz.sizeOf281
 v67:=Tryz.zeroValue281
 t69:=Tryz.underlying24
 a69:=Tryz.isAgg24
 z69:=Tryz.sizeOf24
 v69:=Tryz.zeroValue24
 t75:=Tryz.underlying409
 a75:=Tryz.isAgg409
 z75:=Tryz.sizeOf409
 v75:=Tryz.zeroValue409
 t79:=Tryz.underlying412
 a79:=Tryz.isAgg412
 z79:=Tryz.sizeOf412
 v79:=Tryz.zeroValue412
 t83:=Tryz.underlying425
 a83:=Tryz.isAgg425
 z83:=Tryz.sizeOf425
 v83:=Tryz.zeroValue425
 t84:=Tryz.underlying426
 a84:=Tryz.isAgg426
 z84:=Tryz.sizeOf426
 v84:=Tryz.zeroValue426}
end Go.Proofs
namespace Go.Proofs.YtnaemgklhjkdhaaGreatDoor
open H
namespace b1
def aqb{s:J}{u:H}{K:H->Prop}(ac:s.n=0)(ae:K u):TU s u K:=by intro w hw;have mU:=AnyG.slices_Sort_string_none Tryz.aoW s.a s.c w;change Calls Tryz.prog 230 _ _ _ at mU;unfold vs;rw[ac];refine mU.mono ?_;rintro e aw ⟨rfl,rfl⟩;exact⟨_,u,rfl,⟨[],.nil,rfl,ae⟩,Step.refl hw⟩
end b1
section
open Go.RowKit
def zF{α σ:Type}(P:Program)(fv:Value)(enc:α->Value)(Nx:σ->α->σ->Prop)(s0:σ)(En:σ->Prop)(u:H):Prop:=
 ∀(ma:Value) (cN:σ->H->Prop),(∀s v,cN s v->u.le v)->
  (∀s y s' v (K:Bool->H->Prop),Nx s y s'->cN s v->(∀bH,cN s' bH->K true bH)->vE P ma #[enc y] [.one .bool] v K)->
  ∀v (K:H->Prop),cN s0 v->(∀s bH,En s->cN s bH->K bH)->fQ P fv #[ma] [] v K
theorem mN.YJ{P:Program}{α σ:Type}{Nx:σ->α->σ->Prop}{s0:σ}{En:σ->Prop}{t x n:Nat}{assign body:Code}{env:List (Nat×Value)}{u:H}{K:Nat->H->Prop}{enc:α->Value}{fv:Value}{ub:H}(cy:ub.le u)
  (M:∀f args w,(∃fn,P.funcs[f]?=some fn/\fn.body.isSome=true)->(callFunc f args).run P w=.ok (.enter f args) w) (N:(t,fv)∈env) (I:x<n)
  (gh:∀Y,ub.le Y->zF P fv enc Nx s0 En Y) (cN:σ->H->Prop) (h0:cN s0 u) (hle:∀i v,cN i v->ub.le v)
  (Od:∀i y nL v,Nx i y nL->cN i v->vM P n assign body env x (enc y) v (cN nL))
  (ae:∀s v D,En s->cN s v->v D=none->K D (v.ins D (.deferred (some [])))):mN P (.rangeFunc (.tmp t) #[x] assign body) n env u K:=by
 intro a w cA r7 Oq gH
 refine(wpIn_wide (n:=0)).1 (wpIn_rangeFunc ?_)
 intro fn _
 have er:a.eval (.tmp t)=fv:=by simp only[Act.eval];rw[Array.getD_eq_getD_getElem?,r7 _ N];rfl
 obtain⟨rec,ox⟩:∃rec:LoopState->Loop,rec=λbo=>{state:=bo,pending:=none,fn,tmps:=a.tmps,params:=#[x],assign,body,defers:=w.heap.size}:=⟨_,rfl⟩
 obtain⟨jW,kl⟩:∃jW,(w.alloc (.deferred (some []))).alloc (.loop (rec .ready))=jW:=⟨_,rfl⟩
 have akw:jW.heap.size=w.heap.size+2:=by rw[<-kl];simp
 have hx:jW.heap[w.heap.size+1]?=some (.loop (rec .ready)):=by rw[<-kl];have:=World.alloc_heap_new (w.alloc (.deferred (some []))) (.loop (rec .ready));simp_all
 have Dv:jW.heap[w.heap.size]?=some (.deferred (some [])):=by rw[<-kl];exact(Below.heap_alloc _ _ _ (by simp)).trans (World.alloc_heap_new w _)
 have hold:∀b,b<w.heap.size->jW.heap[b]?=w.heap[b]?:=λb Z=>by rw[<-kl];exact(Below.heap_alloc _ _ _ (by simp;omega)).trans (Below.heap_alloc _ _ _ Z)
 have yf:u (w.heap.size+1)=none:=gH.none (by omega)
 have Dt:u w.heap.size=none:=gH.none (Nat.le_refl _)
 have O9:ub (w.heap.size+1)=none:=by
  cases I:ub (w.heap.size+1) with
  |none=>rfl|some o=>rw[cy _ _ I] at yf;cases yf
 have Ql:ub.le (ub.ins (w.heap.size+1) (.loop (rec .ready))):=bN _ O9
 have P4:Sub (u.ins (w.heap.size+1) (.loop (rec .ready))) jW:=by
  intro b o Z;unfold H.ins at Z;split at Z
  grind
  have:=gH b o Z
  grind
 have fT:=gh _ Ql (.func (.yield (w.heap.size+1)) #[] #[])
  (λi v=>∃v0,v=v0.ins (w.heap.size+1) (.loop (rec .ready))/\v0 (w.heap.size+1)=none/\v0 w.heap.size=none/\cN i v0)
  (λi v ⟨v0,av,_,_,aH⟩=>by rw[av];exact ET (hle i v0 aH) _ _)
  (by
   rintro i y nL v e5 af ⟨v0,rfl,uU,uL,aH⟩ mS;refine⟨_,rfl,λbm gv=>?_⟩;have ya:bm.heap[w.heap.size+1]?=some (.loop (rec .ready)):=gv _ _ (aS _ _ _);have bh:w.heap.size+1<bm.heap.size:=(Array.getElem?_eq_some_iff.1 ya).1;have lV:(Instr.yield (w.heap.size+1) #[enc y]).run P bm=.ok (.round (w.heap.size+1) fn (a.tmps.setIfInBounds x (enc y)) assign body) bm:=by have:=run_yield (P:=P) (args:=#[enc y]) ya (by rw[ox];rfl);rw[ox] at this;simpa using this
   have P6:Sub v0 bm:=gv.mono (bN _ uU);refine⟨fn,_,assign,body,lV,roundIn_of_wpIn trivial ?_⟩;refine wpIn_mono (Od i y nL v0 af aH (w.heap.size+1) _ bm ?_ ?_ ?_ rfl P6) ?_;simpa using cA
   grind
   grind
   intro e O gq aa;cases e with
   |normal=>
    obtain⟨v1,df,Z⟩:=aa;have D5:gq.heap[w.heap.size+1]?=some (.loop (rec .ready)):=(df.rest _ bh uU (by simp)).trans ya;have yc:w.heap.size+1<gq.heap.size:=(Array.getElem?_eq_some_iff.1 D5).1;have gi:v1 (w.heap.size+1)=none:=df.jg _ bh uU;have NN:v1 w.heap.size=none:=df.jg _ (by omega) uL;refine⟨_,run_beginRound D5 (by rw[ox]),wpIn_mono (Z _ ?_) ?_⟩;intro b o jZ;have ah:b≠w.heap.size+1:=λe=>by grind
    exact(World.putObj_heap_other ah).trans (df.sub b o jZ);rintro e a2 hD ⟨rfl,v2,pf,dh⟩;have O8:(gq.putObj (w.heap.size+1) (.loop {rec .ready with state:=.busy})).heap[w.heap.size+1]?=some (.loop {rec .ready with state:=.busy}):=World.putObj_heap_same yc;have uV:hD.heap[w.heap.size+1]?=some (.loop {rec .ready with state:=.busy}):=(dh.rest _ (by simpa using yc) gi (by simp)).trans O8;have Pd:w.heap.size+1<hD.heap.size:=(Array.getElem?_eq_some_iff.1 uV).1;have fX:v2 (w.heap.size+1)=none:=dh.jg _ (by simpa using yc) gi;have pU:=run_endRound (P:=P) none uV;have Nn:({{rec .ready with state:=LoopState.busy} with state:=if(none:Option Code).isNone then .ready else .done,pending:=none}:Loop)=rec .ready:=by rw[ox];rfl
    rw[Nn] at pU;refine⟨_,_,pU,.bool true,v2.ins (w.heap.size+1) (.loop (rec .ready)),rfl,⟨[.bool true],.cons (t:=.bool) true .nil,rfl,?_⟩,?_⟩;exact mS _ ⟨v2,rfl,fX,dh.jg _ (by grind) NN,pf⟩;refine⟨λb o jZ=>?_,dh.os.trans df.os,dh.tape.trans df.tape,dh.output.trans df.output,Nat.le_trans df.drawn dh.drawn,?_,λb Z fL _=>?_,λb Z fL=>?_,[],by simp,by simp⟩;unfold H.ins at jZ;split at jZ;rename_i ee;subst ee;cases jZ;exact World.putObj_heap_same Pd;rename_i ee;rw[World.putObj_heap_other ee];exact dh.sub b o jZ;have h1:=df.size;have h2:=dh.size;simp at h2 ⊢;omega;have ah:b≠w.heap.size+1:=λe=>by rw[e,aS] at fL;cases fL
    rw[aL _ _ ah] at fL;have kI:b<gq.heap.size:=Nat.lt_of_lt_of_le Z df.size;rw[World.putObj_heap_other ah,dh.rest b (by simpa using kI) (df.jg b Z fL) (by simp),World.putObj_heap_other ah];exact df.rest b Z fL (by simp);have ah:b≠w.heap.size+1:=λe=>by rw[e,aS] at fL;cases fL
    rw[aL _ _ ah] at fL ⊢;exact dh.jg b (by have:=df.size;simp;omega) (df.jg b Z fL)
   |_=>exact aa.elim)
  _ (λbH=>∃v0,bH=v0.ins (w.heap.size+1) (.loop (rec .ready))/\v0 (w.heap.size+1)=none/\v0 w.heap.size=none/\∃s,En s/\cN s v0) ⟨u,rfl,yf,Dt,h0⟩ (λs _ hs ⟨v0,a,b,c,d⟩=>⟨v0,a,b,c,s,hs,d⟩)
 obtain⟨xO,Dm,cap,DV,xY,fT⟩:=fT
 rw[DV] at er
 refine⟨w.heap.size+1,[{target:=.collected w.heap.size,args:=#[]}],jW,{target:=.fn (.func xO) cap,args:=Dm++ #[.func (.yield (w.heap.size+1)) #[] #[]]},jW,xO,
  Dm++ #[.func (.yield (w.heap.size+1)) #[] #[]]++cap,jW,?_,?_,λ_ _=>trivial,?_,λh=>by simp[Fence.wide] at h,?_⟩
 rw[<-kl,ox];exact run_enterLoop_outer _ _ _ _ _
 simp only[resolve,er]
 simp[go_sem]
 simp[invoke,go_sem,M xO _ _ xY]
 refine callsIn_wide.2 ((fT jW P4).mono ?_)
 rintro e hD ⟨v,u',rfl,⟨vs,hk,rfl,E⟩,hs⟩
 cases hk
 obtain⟨v0,rfl,uU,uL,s,lg,aH⟩:∃v0:H,u'=v0.ins (w.heap.size+1) (.loop (rec .ready))/\v0 (w.heap.size+1)=none/\v0 w.heap.size=none/\∃s,En s/\cN s v0:=E
 have uV:hD.heap[w.heap.size+1]?=some (.loop (rec .ready)):=hs.sub _ _ (aS _ _ _)
 have NO:hD.heap[w.heap.size]?=some (.deferred (some [])):=by rw[hs.rest _ (by omega) (by rw[aL _ _ (by omega)];exact Dt) (by simp)];exact Dv
 have pU:(Instr.endLoop (w.heap.size+1)).run P hD=.ok none (hD.putObj (w.heap.size+1) (.loop {rec .ready with state:=.exhausted})):=by have:=run_endLoop (P:=P) uV (by rw[ox];simp);rw[this];rw[ox]
 refine⟨none,_,pU,rfl,rfl,w.heap.size,_,?_,ae s v0 w.heap.size lg aH uL,?_⟩
 simp[Oq,Hz]
 have se:=hs.size
 refine⟨λb o jZ=>?_,?_,?_,?_,?_,by simp;omega,λb Z fL _=>?_,λb Z fL=>?_,[],by simp,by simp⟩
 unfold H.ins at jZ
 split at jZ
 rename_i ee;subst ee;cases jZ
 rw[World.putObj_heap_other (by omega)];exact NO
 have ah:b≠w.heap.size+1:=λe=>by grind
 rw[World.putObj_heap_other ah]
 exact hs.sub b o (by rw[aL _ _ ah];exact jZ)
 exact hs.os.trans (by rw[<-kl];rfl)
 exact hs.tape.trans (by rw[<-kl];rfl)
 exact hs.output.trans (by rw[<-kl];rfl)
 exact Nat.le_trans (by rw[<-kl];exact Nat.le_refl _) hs.drawn
 have ah:b≠w.heap.size+1:=by omega
 rw[World.putObj_heap_other ah,hs.rest b (by omega) (by rw[aL _ _ ah];exact fL) (by simp)]
 exact hold b Z
 have ah:b≠w.heap.size+1:=by omega
 have:=hs.jg b (by omega) (by rw[aL _ _ ah];exact fL)
 rw[aL _ _ ah] at this
 rw[aL _ _ (by omega)];exact this
end
section
variable{a b:List Int}
def zN(l:List Int):Prop:=l.Pairwise (· <=·)
def vL(l:List Int):Prop:=l.Pairwise (· < ·)
def pz(l:List Int):(dM l).Perm l:=List.mergeSort_perm l _
def Sl(l:List Int):zN (dM l):=by have:=List.pairwise_mergeSort (le:=λx y:Int=>decide (x<=y)) (λa b c h1 h2=>by simp at*;omega) (λa b=>by simp;omega) l;exact this.imp λh=>by simpa using h
def B3(l:List Int):(dM l).length=l.length:=(pz l).length_eq
theorem zN.eq(ap:zN a)(Z:zN b)(h:a.Perm b):a=b:=by
 induction a generalizing b with
 |nil=>simp_all|cons x a aG=>
  cases b with
  |nil=>simp_all|cons y b=>
   have A5:=List.pairwise_cons.1 ap;have ak4:=List.pairwise_cons.1 Z;have mx:x=y:=by
    have h1:x∈y::b:=h.mem_iff.1 (List.mem_cons_self ..);have h2:y∈x::a:=h.mem_iff.2 (List.mem_cons_self ..);rcases List.mem_cons.1 h1 with e|h1;exact e
    grind
   subst mx;rw[aG A5.2 ak4.2 (List.Perm.cons_inv h)]
def aaV(h:a.Perm b)(ap:zN a):a=dM b:=ap.eq (Sl b) (h.trans (pz b).symm)
def aoS(h:a.Perm b):dM a=dM b:=aaV ((pz a).trans h) (Sl a)
def axy(h:zN a):dM a=a:=(aaV (.refl a) h).symm
def Kf{l:List Int}(h:l.Nodup):vL (dM l):=by have h1:=Sl l;have h2:(dM l).Nodup:=(pz l).nodup_iff.2 h;exact(h1.and h2).imp λ⟨a,b⟩=>by omega
theorem an4{l a b:List aT}(ai:(l.map (·.id)).Nodup)(ap:∀r∈a,r∈l)(Z:∀r∈b,r∈l)(h:(a.map (·.id)).Perm (b.map (·.id))):a.Perm b:=by
 have inj:∀{l:List aT},(l.map (·.id)).Nodup->∀r∈l,∀eB∈l,r.id=eB.id->r=eB:=by
  intro l;induction l with
  |nil=>intro _ r W;cases W
  |cons x l aG=>
   grind
 let f:Int->aT:=λx=>(l.find? λr=>r.id==x).getD ⟨0,⟨none,0,0⟩,[]⟩
 have M:∀r∈l,f r.id=r:=by
  intro r W;show(l.find? λeB=>eB.id==r.id).getD _=r;cases wo:l.find? λeB=>eB.id==r.id with
  |none=>grind|some eB=>
   grind
 have hm:∀{c:List aT},(∀r∈c,r∈l)->(c.map (·.id)).map f=c:=by
  intro c E;rw[List.map_map]
  conv=>rhs;rw[<-List.map_id c]
  exact List.map_congr_left λr W=>M r (E r W)
 have:=h.map f
 simp_all
theorem agM{f:Int->Int->Int}(M:∀a x,(f a x<=a/\f a x<=x/\(f a x=a∨f a x=x))):∀(l:List aT) (a:List Int) (n:Nat),a.length=n->(∀r∈l,r.v.length=n)->
  (l.foldl (λacc r=>List.zipWith f acc r.v) a).length=n/\(∀i,i<n->(l.foldl (λacc r=>List.zipWith f acc r.v) a).getD i 0<=a.getD i 0/\(∀r∈l,(l.foldl (λacc r=>List.zipWith f acc r.v) a).getD i 0<=r.v.getD i 0)/\
   ((l.foldl (λacc r=>List.zipWith f acc r.v) a).getD i 0=a.getD i 0∨∃r∈l,(l.foldl (λacc r=>List.zipWith f acc r.v) a).getD i 0=r.v.getD i 0)):=by
 intro l
 induction l with
 |nil=>grind
 |cons r l aG=>
  intro a n ap ai;have W:=ai r (by simp);have aP:(List.zipWith f a r.v).length=n:=by grind
  obtain⟨h1,h2⟩:=aG (List.zipWith f a r.v) n aP λx I=>ai x (by simp[I]);rw[List.foldl_cons];refine⟨h1,λi hi=>?_⟩;have EP:(List.zipWith f a r.v).getD i 0=f (a.getD i 0) (r.v.getD i 0):=by grind
  obtain⟨g1,g2,g3⟩:=h2 i hi;obtain⟨f1,f2,f3⟩:=M (a.getD i 0) (r.v.getD i 0);rw[EP] at g1 g3;refine⟨by omega,λx I=>?_,?_⟩;rcases List.mem_cons.1 I with rfl|I;omega;exact g2 x I;rcases g3 with g3|⟨x,I,g3⟩;rcases f3 with f3|f3;exact .inl (by rw[g3,f3]);exact .inr ⟨r,by simp,by rw[g3,f3]⟩;exact .inr ⟨x,by simp[I],g3⟩
theorem agN{f:Int->Int->Int}(M:∀a x,(a<=f a x/\x<=f a x/\(f a x=a∨f a x=x))):∀(l:List aT) (a:List Int) (n:Nat),a.length=n->(∀r∈l,r.v.length=n)->
  (l.foldl (λacc r=>List.zipWith f acc r.v) a).length=n/\(∀i,i<n->a.getD i 0<=(l.foldl (λacc r=>List.zipWith f acc r.v) a).getD i 0/\(∀r∈l,r.v.getD i 0<=(l.foldl (λacc r=>List.zipWith f acc r.v) a).getD i 0)/\
   ((l.foldl (λacc r=>List.zipWith f acc r.v) a).getD i 0=a.getD i 0∨∃r∈l,(l.foldl (λacc r=>List.zipWith f acc r.v) a).getD i 0=r.v.getD i 0)):=by
 intro l
 induction l with
 |nil=>grind
 |cons r l aG=>
  intro a n ap ai;have W:=ai r (by simp);have aP:(List.zipWith f a r.v).length=n:=by grind
  obtain⟨h1,h2⟩:=aG (List.zipWith f a r.v) n aP λx I=>ai x (by simp[I]);rw[List.foldl_cons];refine⟨h1,λi hi=>?_⟩;have EP:(List.zipWith f a r.v).getD i 0=f (a.getD i 0) (r.v.getD i 0):=by grind
  obtain⟨g1,g2,g3⟩:=h2 i hi;obtain⟨f1,f2,f3⟩:=M (a.getD i 0) (r.v.getD i 0);rw[EP] at g1 g3
  grind
theorem aeP{l:List aT}{d:Int}(h:hp l d)(ah:l≠[]):((lL l).length:Int)=d/\((lK l).length:Int)=d/\ej (lL l)/\ej (lK l)/\(∀i:Nat,(i:Int)<d->(lL l).getD i 0<=(lK l).getD i 0)/\
  ∀r∈l,∀i:Nat,(i:Int)<d->(lL l).getD i 0<=r.v.getD i 0/\r.v.getD i 0<=(lK l).getD i 0:=by
 obtain⟨x,bi,rfl⟩:∃x bi,l=x::bi:=by
  cases l with
  |nil=>exact absurd rfl ah|cons x bi=>exact⟨x,bi,rfl⟩
 have aj:=h.ao
 have I:=h.v x (by simp)
 have ep:∀r∈x::bi,r.v.length=d.toNat:=λr W=>by have:=(h.v r W).1;omega
 obtain⟨O,a2⟩:=agM (f:=λa x=>if x<a then x else a) (λa x=>by split<;>omega) (x::bi) x.v d.toNat (ep x (by simp)) ep
 obtain⟨eQ,eI⟩:=agN (f:=λa x=>if x>a then x else a) (λa x=>by split<;>omega) (x::bi) x.v d.toNat (ep x (by simp)) ep
 have aga:lL (x::bi)=(x::bi).foldl (λacc r=>List.zipWith (λa x=>if x<a then x else a) acc r.v) x.v:=rfl
 have af8:lK (x::bi)=(x::bi).foldl (λacc r=>List.zipWith (λa x=>if x>a then x else a) acc r.v) x.v:=rfl
 rw[<-aga] at O a2
 rw[<-af8] at eQ eI
 have Hu:∀r∈x::bi,∀i,i<d.toNat->kh (r.v.getD i 0):=λr W i hi=>(h.v r W).2.2 i (by rw[ep r W];exact hi)
 refine⟨by omega,by omega,⟨by omega,λi hi=>?_⟩,⟨by omega,λi hi=>?_⟩,λi hi=>?_,λr W i hi=>⟨(a2 i (by omega)).2.1 r W,(eI i (by omega)).2.1 r W⟩⟩
 rcases(a2 i (by omega)).2.2 with e|⟨r,W,e⟩
 rw[e];exact Hu x (by simp) i (by omega)
 rw[e];exact Hu r W i (by omega)
 rcases(eI i (by omega)).2.2 with e|⟨r,W,e⟩
 rw[e];exact Hu x (by simp) i (by omega)
 rw[e];exact Hu r W i (by omega)
 grind
end
namespace dE
section
variable{ids:List Int}{b:bk}{i:Int}{s:List Int×List bk}
def ajq{a:bk}(h:bh a b=true):a≠b:=λe=>by rw[e,D8] at h;cases h
section
variable (ht:Int->bk) (bO:Int->List Int)
def qk(b:bk)(id:Int):bk:=if bh (ht id) b=true then ht id else b
def pass(b:bk):bk:=(bO b.1).foldl (qk ht) b
def sj:Nat->bk->bk
 |0,b=>b|n+1,b=>pass ht bO (sj n b)
theorem Ny(l:List Int)(b:bk):l.foldl (qk ht) b=b∨(bh (l.foldl (qk ht) b) b=true/\∃i∈l,l.foldl (qk ht) b=ht i):=by
 induction l generalizing b with
 |nil=>exact .inl rfl|cons x l aG=>
  simp only[List.foldl_cons];by_cases I:bh (ht x) b=true;have e:qk ht b x=ht x:=by simp[qk,I]
  rw[e];rcases aG (ht x) with h|⟨h,i,hi,ar⟩
  grind
  exact .inr ⟨D9 h I,i,.tail _ hi,ar⟩;have e:qk ht b x=b:=by simp[qk,I]
  grind
def BO(ids:List Int)(b:bk):Nat:=ids.countP λi=>bh (ht i) b
def anO(ids:List Int)(b:bk):BO ht ids b<=ids.length:=List.countP_le_length
theorem anP(hi:i∈ids)(h:bh (ht i) b=true):BO ht ids (ht i)<BO ht ids b:=by
 unfold BO;have ajy:∀j,bh (ht j) (ht i)=true->bh (ht j) b=true:=λj aH=>D9 aH h;induction ids with
 |nil=>cases hi
 |cons x l aG=>
  rw[List.countP_cons,List.countP_cons];have hle:l.countP (λj=>bh (ht j) (ht i))<=l.countP (λj=>bh (ht j) b):=List.countP_mono_left λj _ aH=>ajy j aH;by_cases I:x=i;subst I;rw[h,D8];simp;omega
  grind
def alm{n:Nat}(h:pass ht bO (sj ht bO n b)=sj ht bO n b):∀k,sj ht bO (n+k) b=sj ht bO n b:=by
 intro k;induction k with
 |zero=>rfl|succ k aG=>show pass ht bO (sj ht bO (n+k) b)=_;rw[aG,h]
def C3(ck:Nat)(at':Int):Int:=(sj ht bO ck (ht at')).1
theorem anf(hid:∀i,(ht i).1=i)(Z:b.1∈ids/\b=ht b.1)(ac:∀i∈bO b.1,i∈ids):(pass ht bO b).1∈ids/\pass ht bO b=ht (pass ht bO b).1:=by rcases Ny ht (bO b.1) b with h|⟨_,i,hi,h⟩;unfold pass;rw[h];exact Z;unfold pass;grind
def Jj(hid:∀i,(ht i).1=i)(Z:b.1∈ids/\b=ht b.1)(ac:∀k∈ids,∀i∈bO k,i∈ids):∀n,(sj ht bO n b).1∈ids/\sj ht bO n b=ht (sj ht bO n b).1
 |0=>Z|n+1=>anf ht bO hid (Jj hid Z ac n) (ac _ (Jj hid Z ac n).1)
theorem Vk{ck:Nat}{at':Int}(hid:∀i,(ht i).1=i)(Z:at'∈ids)(ac:∀k∈ids,∀i∈bO k,i∈ids):C3 ht bO ck at'∈ids:=
 (Jj ht bO hid (by grind) ac ck).1
def gn(s:List Int×List bk)(id:Int):List Int×List bk:=if id∈s.1 then s else(s.1++ [id],my (ht id) s.2)
def qK:Nat->List Int->List bk->List Int
 |0,_,_=>[]|_+1,_,[]=>[]|n+1,met,x::l=>x.1::qK n ((bO x.1).foldl (gn ht) (met,l)).1 ((bO x.1).foldl (gn ht) (met,l)).2
structure Met(ids:List Int)(s:List Int×List bk):Prop where
 nodup:s.1.Nodup
 sub:∀i∈s.1,i∈ids
 wait:∀h∈s.2,h.1∈s.1/\h=ht h.1
 yW:(s.2.map (·.1)).Nodup
 F6:mO s.2
theorem Met.one{at':Int}(hid:∀i,(ht i).1=i)(h:at'∈ids):Met ht ids ([at'],[ht at']) where
 nodup:=by simp
 sub i hi:=by grind
 wait bx bW:=by grind
 yW:=by simp
 F6:=by simp[mO]
theorem Met.step(hid:∀i,(ht i).1=i)(h:Met ht ids s)(hi:i∈ids):Met ht ids (gn ht s i):=by
 unfold gn;split;exact h;rename_i ac;refine⟨?_,?_,?_,?_,YI h.F6⟩;refine List.nodup_append.2 ⟨h.nodup,by simp,λa ap b Z=>?_⟩
 grind
 intro j aH;rcases List.mem_append.1 aH with aH|aH;exact h.sub j aH
 grind
 intro x I;rcases List.mem_cons.1 ((yI (ht i) s.2).mem_iff.1 I) with rfl|I
 grind
 exact⟨List.mem_append_left _ (h.wait x I).1,(h.wait x I).2⟩;have aa:=(yI (ht i) s.2).map (·.1);refine aa.nodup_iff.2 ?_;rw[List.map_cons,hid];refine List.nodup_cons.2 ⟨λhm=>?_,h.yW⟩;obtain⟨x,I,e⟩:=List.mem_map.1 hm;exact ac (e▸(h.wait x I).1)
def Met.fold(hid:∀i,(ht i).1=i):∀{l:List Int} {s:List Int×List bk},Met ht ids s->(∀i∈l,i∈ids)->Met ht ids (l.foldl (gn ht) s):=by
 intro l;induction l with
 |nil=>intro s h _;exact h
 |cons x l aG=>intro s h ai;exact aG (h.step ht hid (ai x (.head _))) λi hi=>ai i (.tail _ hi)
def Met.tail{met:List Int}{x:bk}{l:List bk}(h:Met ht ids (met,x::l)):Met ht ids (met,l) where
 nodup:=h.nodup
 sub:=h.sub
 wait y af:=h.wait y (.tail _ af)
 yW:=(List.nodup_cons.1 (by simpa using h.yW)).2
 F6:=(List.pairwise_cons.1 h.F6).2
theorem l1{l:List Int}(ac:l.Nodup)(hs:∀i∈l,i∈ids):l.length<=ids.length:=by
 induction l generalizing ids with
 |nil=>simp|cons x l aG=>
  have I:=hs x (.head _);have h2:∀i∈l,i∈ids.erase x:=λi hi=>by
   grind
  have:=aG (List.nodup_cons.1 ac).2 h2
  grind
def Met.len(h:Met ht ids s):s.1.length<=ids.length:=l1 h.nodup h.sub
def due(ck:Nat)(s:List Int×List bk):Nat:=s.2.length+(ck-s.1.length)
theorem af0(hid:∀i,(ht i).1=i)(h:Met ht ids s)(hi:i∈ids):due ids.length (gn ht s i)=due ids.length s:=by
 have h2:=(h.step ht hid hi).len;unfold due;unfold gn at h2 ⊢;split;rfl;rename_i ac;rw[if_neg ac] at h2;have e:(my (ht i) s.2).length=s.2.length+1:=by rw[(yI (ht i) s.2).length_eq];simp
 grind
def afZ(hid:∀i,(ht i).1=i):∀{l:List Int} {s:List Int×List bk},Met ht ids s->(∀i∈l,i∈ids)->due ids.length (l.foldl (gn ht) s)=due ids.length s:=by
 intro l;induction l with
 |nil=>intro s _ _;rfl
 |cons x l aG=>intro s h ai;rw[List.foldl_cons,aG (h.step ht hid (ai x (.head _))) λi hi=>ai i (.tail _ hi),af0 ht hid h (ai x (.head _))]
theorem agO(l:List Int)(s:List Int×List bk):(∀i∈s.1,i∈(l.foldl (gn ht) s).1)/\(∀i∈l,i∈(l.foldl (gn ht) s).1):=by
 induction l generalizing s with
 |nil=>grind|cons x l aG=>
  simp only[List.foldl_cons];have h1:∀i∈s.1,i∈(gn ht s x).1:=λi hi=>by unfold gn;grind
  have h2:x∈(gn ht s x).1:=by unfold gn;split;assumption;simp
  grind
def agP(hid:∀i,(ht i).1=i)(l:List Int)(s:List Int×List bk):∀h∈(l.foldl (gn ht) s).2,h∈s.2∨h.1∉s.1:=by
 induction l generalizing s with
 |nil=>exact λh bW=>.inl bW|cons x l aG=>intro h bW;rcases aG (gn ht s x) h bW with h1|h1;unfold gn at h1;split at h1;exact .inl h1;rename_i ac;rcases List.mem_cons.1 ((yI (ht x) s.2).mem_iff.1 h1) with rfl|h1;rw[hid];exact .inr ac;exact .inl h1;refine .inr λhm=>h1 ?_;unfold gn;split;exact hm;exact List.mem_append_left _ hm
def VE(hid:∀i,(ht i).1=i)(ac:∀k∈ids,∀i∈bO k,i∈ids):∀(n:Nat) (met:List Int) (l:List bk),Met ht ids (met,l)->∀i∈qK ht bO n met l,i∈ids:=by
 intro n;induction n with
 |zero=>intro met l _ i hi;cases hi
 |succ n aG=>
  intro met l h i hi;cases l with
  |nil=>cases hi
  |cons x l=>
   have I:=h.sub _ (h.wait x (.head _)).1;simp only[qK] at hi;cases hi with
   |head=>exact I|tail _ hi=>exact aG _ _ (Met.fold ht hid (h.tail ht) (ac _ I)) i hi
theorem VF(hid:∀i,(ht i).1=i)(ac:∀k∈ids,∀i∈bO k,i∈ids):∀(n:Nat) (met:List Int) (l:List bk),Met ht ids (met,l)->
  (qK ht bO n met l).Nodup/\∀i∈qK ht bO n met l,i∈l.map (·.1)∨i∉met:=by
 intro n
 induction n with
 |zero=>intro met l _;exact⟨List.nodup_nil,λi hi=>by cases hi⟩
 |succ n aG=>
  intro met l h;cases l with
  |nil=>exact⟨List.nodup_nil,λi hi=>by cases hi⟩
  |cons x l=>
   have I:=h.sub _ (h.wait x (.head _)).1;have M:=Met.fold ht hid (h.tail ht) (ac _ I);obtain⟨h1,h2⟩:=aG _ _ M;have hk:∀i∈qK ht bO n ((bO x.1).foldl (gn ht) (met,l)).1 ((bO x.1).foldl (gn ht) (met,l)).2,i∈l.map (·.1)∨i∉met:=by
    intro i hi;rcases h2 i hi with h3|h3;obtain⟨y,af,rfl⟩:=List.mem_map.1 h3;rcases agP ht hid (bO x.1) (met,l) y af with aZ|aZ
    grind
    exact .inr aZ;exact .inr λhm=>h3 ((agO ht (bO x.1) (met,l)).1 i hm)
   simp only[qK];refine⟨List.nodup_cons.2 ⟨λhm=>?_,h1⟩,λi hi=>?_⟩;have ajQ:=List.nodup_cons.1 (show(x.1::l.map (·.1)).Nodup by simpa using h.yW);rcases hk _ hm with h3|h3;exact ajQ.1 h3;exact h3 (h.wait x (.head _)).1
   grind
end
def xD(ht:Int->bk)(Fg:Nat->Int->List Int)(ck lv:Nat):Nat->Int->Int
 |0,at'=>at'|c+1,at'=>xD ht Fg ck lv c (C3 ht (Fg (lv+c+1)) ck at')
def Vh{ht:Int->bk}{Fg:Nat->Int->List Int}{ck lv:Nat}(hid:∀i,(ht i).1=i)(ac:∀lv,∀k∈ids,∀i∈Fg lv k,i∈ids):∀(c:Nat) (at':Int),at'∈ids->xD ht Fg ck lv c at'∈ids
 |0,_,h=>h|c+1,at',h=>Vh hid ac c _ (Vk ht _ hid h (ac _))
end
section
variable{l:List (Int×Value)}{u:H}{b:Nat}
abbrev FQ:Code:=BQ (Tryz.f404.body.getD Go.Code.skip)
def aoB:FQ=.rangeFunc (.tmp 6) #[7] (y1 FQ) (y2 FQ):=by kernel_rfl
def vU(x:Int):Value:=.int .i64 x
def aoD(n0:Nat)(y:Int)(v:H)(cN:H->Prop)(env:List (Nat×Value))(he:(2,Value.pointer (some ⟨n0,0,none⟩))∈env)
  (h:Exit.normal=Exit.normal/\([]:List (List Value))=[]/\∃s:J,v.cell? ⟨n0,0,none⟩=some (.slice s.a s.n s.c)/\
     cx Tryz.prog (Instr.buildSlice 23 1 #[(0,.int .i64 y)]) [.one .slice] v λ(s1:J) dm=>
      cx Tryz.prog (Builtin.append_ #[23,23] 23 #[.slice s.a s.n s.c,.slice s1.a s1.n s1.c]) [.one .slice] dm λ(s2:J) h6=>
       H.an h6 ⟨n0,0,none⟩ [.slice s2.a s2.n s2.c] λdN=>Exit.normal=Exit.normal/\cN dN):
  vM Tryz.prog 13 (y1 FQ) (y2 FQ) env 7 (vU y) v cN:=
 vM.of (C:={P:=Tryz.prog,exp:=[2],wrap:=false,gB:=gB}) (lP _ _) (by kernel_rfl) (by kernel_rfl) [(7,.v (vU y)),(2,.ptr ⟨n0,0,none⟩)] (by intro p aa;rcases List.mem_cons.1 aa with rfl|aa;exact⟨_,rfl,.inl ⟨rfl,rfl⟩⟩;rcases List.mem_cons.1 aa with rfl|aa;exact⟨_,rfl,.inr ⟨show(2:Nat)≠7 by decide,he⟩⟩;cases aa) (Eq.mp (by kernel_rfl) h)
def zI(l:List (Int×Value))(dl:List (Int×Value))(x:Int)(Vj:List (Int×Value)):Prop:=∃v,(x,v)∈l/\x∉dl.map (·.1)/\Vj=dl++ [(x,v)]
def collected{dl:List (Int×Value)}(h:dl.Perm l):dM (dl.map (·.1))=dM (l.map (·.1)):=aoS (h.map _)
theorem ap1{fv:Value}{K:J->H->Prop}(ai:l.length<=1000000)(bX:(l.map (·.1)).Nodup)(gh:∀Y,u.le Y->zF Tryz.prog fv vU (zI l) [] (λdl=>dl.Perm l) Y)
  (ae:∀(s:J) (dl:List (Int×Value)) (u':H),dl.Perm l->aE u u' 3 1 s ((dl.map (·.1)).flatMap encI)->K s u'):LN fv u K:=by
 apply atb
 apply as6
 intro n0 et
 have hle:=bN (u:=u) (b:=n0) (.cells #[.slice none 0 0] 23 (0,0)) et
 refine mN.code aoB (mN.YJ (σ:=List (Int×Value)) (t:=6) (enc:=vU) (fv:=fv) (Nx:=zI l) (s0:=[]) (En:=λdl=>dl.Perm l) hle MS (by simp) (by decide) gh
  (λdl w=>(dl.map (·.1)).Nodup/\(∀p∈dl,p∈l)/\∃s0:J,w n0=some (.cells #[.slice s0.a s0.n s0.c] 23 (0,0))/\aE u w 3 1 s0 ((dl.map (·.1)).flatMap encI)/\s0.ad≠some n0)
  ⟨List.nodup_nil,λp aa=>(by cases aa),⟨none,0,0⟩,aS _ _ _,aE.nil hle _ _,by simp[J.ad]⟩ (λi v ⟨_,_,_,_,U,_⟩=>U.le) ?_ ?_)
 rintro dl y Vj v ⟨z,aP,awO,rfl⟩ ⟨r3,DM,s0,Ay,iT,Pr⟩
 refine aoD n0 y v _ _ (by simp) ⟨rfl,rfl,s0,aV Ay 0,?_⟩
 have ajz:=iT.ints.len
 have Ou:dl.length<=l.length:=by
  have h1:(dl.map (·.1)).Nodup:=r3;have h2:∀i∈dl.map (·.1),i∈l.map (·.1):=λi hi=>by
   grind
  have:=l1 h1 h2;simpa using this
 simp only[List.length_map] at ajz
 refine rn pE (xy y) (by decide) rfl (by simp[Value.oneCell']) iT (by omega) (by omega) λs2 h6 dD ef cQ ee _=>ze (cQ _ _ Ay Pr) rfl ⟨rfl,?_,?_,s2,aS _ _ _,?_,?_⟩
 rw[List.map_append]
 grind
 grind
 have tG:s2.ad≠some n0:=λe=>by
   grind
 have:=dD.ES et tG (.cells #[.slice s2.a s2.n s2.c] 23 (0,0))
 rw[List.map_append,List.flatMap_append]
 exact this
 grind
 rintro dl v D pU ⟨r3,DM,s0,Ay,iT,Pr⟩ fb
 have ph:=bN (u:=v) (b:=D) (Obj.deferred (some [])) fb
 have hz:=iT.mono ph
 have kI:=ph _ _ Ay
 refine⟨s0,aV kI 0,aS _ _ _,ae _ dl _ pU ?_⟩
 refine hz.ES (iT.le.none fb) (λe=>?_) _
 have:=fj iT e
 exact this fb
def abp{fv:Value}{K:J->H->Prop}(ai:l.length<=1000000)(bX:(l.map (·.1)).Nodup)(gh:∀Y,u.le Y->zF Tryz.prog fv vU (zI l) [] (λdl=>dl.Perm l) Y)
  (ae:∀s u',aE u u' 3 1 s ((dM (l.map (·.1))).flatMap encI)->K s u'):sR fv u K:=by
 apply atl
 refine ap1 ai bX gh λs dl aI aa U=>?_
 have hlen:=aa.length_eq
 refine Ku U (by simp;omega) λbE dD _=>ae _ _ ?_
 rw[collected aa] at dD
 exact dD
def aet:fi Tryz.prog 402=true:=by kernel_rfl
def aer:fi Tryz.prog 403=true:=by kernel_rfl
structure ad0(cN:List (Int×Value)->H->Prop)(l:List (Int×Value))(r b:Nat)(dl:List (Int×Value))(w:H):Prop where
 ex:∃v0,cN dl v0/\v0 r=none/\v0.le w/\jU w r b l dl
def YK{w:H}{r:Nat}{dl:List (Int×Value)}(h:jU w r b l dl):dl.length<=l.length:=by
 have h2:∀i∈dl.map (·.1),i∈l.map (·.1):=λi hi=>by obtain⟨p,aa,rfl⟩:=List.mem_map.1 hi;exact List.mem_map.2 ⟨p,h.sub p aa,rfl⟩
 have:=l1 h.z7 h2;simpa using this
theorem YU{P:Program}{v:H}{ma:Value}{t k e:TypeId}{z:Value}(T:vI P t k e z)(h:dI u b l)
  (cN:List (Int×Value)->H->Prop) (jv:∀s v,cN s v->u.le v)
  (af:∀s y s' v (K:Bool->H->Prop),zI l s y s'->cN s v->(∀bH,cN s' bH->K true bH)->vE P ma #[vU y] [.one .bool] v K) (h0:cN [] v) {K:H->Prop} (ae:∀s bH,s.Perm l->cN s bH->K bH):
  cx P (Instr.range t (.map (some b))) [.one .ptr] v λ(fk:Option Addr) (bE:H)=>∃Mp:H->Prop,∃Uh:H->Nat,Mp bE/\∀dN,Mp dN->sX P (.pointer fk) dN (λh7=>∃gL,gL.le h7/\K gL)
   (λ_ _ qs=>sT P (.pointer fk) qs λv10 _ hQ=>rK (.int .i64) v10 λ(auV:Int)=>mc P ma #[.int .i64 auV] [.one .bool] hQ λ(UE:Bool) (SQ:H)=>
    ((¬(UE=true))->∃gL,gL.le SQ/\K gL)/\(UE=true->Mp SQ/\Uh SQ<Uh dN)):=by
 refine B1 T (h.mono (jv _ _ h0)) λr o W r9=>?_
 obtain⟨re,Em⟩:∃re,u b=some re:=by obtain⟨es,c,Z,_⟩:=h;exact⟨_,Z⟩
 let ck:Nat->H->Prop:=λn w=>∃dl,ad0 cN l r b dl w/\l.length-dl.length<=n
 refine⟨λw=>∃n,ck n w,λw=>least λn=>ck n w,⟨_,[],⟨v,h0,W,bN _ W,r9⟩,Nat.le_refl _⟩,?_⟩
 intro w hw
 have bQ:=Bp hw
 obtain⟨n,ac⟩:∃n,(least λn=>ck n w)=n:=⟨_,rfl⟩
 dsimp only
 rw[ac] at bQ ⊢
 obtain⟨dl,⟨v0,aH,j1,hle,gh⟩,hlen⟩:=bQ
 refine BC gh (λaa=>⟨v0,hle,ae _ _ aa aH⟩) λp o aa pk nD=>?_
 refine C9 nD ?_
 have iU:∃x,w r=some x:=by obtain⟨es,c,seen,_,_,h3,_⟩:=gh;exact⟨_,h3⟩
 have ph:v0.le (w.ins r o):=λc x E=>by rw[aL _ _ (λe=>by grind)];exact hle c x E
 show mc P ma #[.int .i64 p.1] [.one .bool] (w.ins r o) _
 refine .inr ((af dl p.1 (dl++ [p]) v0 (λb bH=>b=true/\cN (dl++ [p]) bH) ⟨p.2,aa,pk,rfl⟩ aH λbH eg=>⟨rfl,eg⟩).frame ph ?_)
 rintro cF gU aw dK ⟨rfl,pf⟩
 refine⟨λah=>absurd rfl ah,λ_=>?_⟩
 obtain⟨aj6,ek⟩:=dK.out r o j1 (aS _ _ _)
 have kI:∀x,(w.ins r o) b=some x->aw b=some x:=λx I=>by have aO:=ph b re (jv _ _ aH b re Em);rw[aO] at I;cases I;exact dK.le b re (jv _ _ pf b re Em)
 have x6:jU aw r b l (dl++ [p]):=nD.else kI λx I=>by rw[aS] at I;cases I;exact ek
 have yb:=YK x6
 simp only[List.length_append,List.length_singleton] at yb
 have de:ck (n-1) aw:=⟨dl++ [p],⟨gU,pf,aj6,dK.le,x6⟩,by simp only[List.length_append,List.length_singleton];omega⟩
 refine⟨⟨_,de⟩,?_⟩
 have:=least_le (P:=λn=>ck n aw) de
 omega
def alx{n0:Nat}(T:vI Tryz.prog 235 3 4 (.bool false))(h:dI u b l)(E:u.cell? ⟨n0,0,none⟩=some (.map (some b))):
  zF Tryz.prog (.func (.func 403) #[] #[.pointer (some ⟨n0,0,none⟩)]) vU (zI l) [] (λdl=>dl.Perm l) u:=by
 intro ma cN jv af v K h0 ae
 refine⟨_,_,_,rfl,fg aer,fW.weaken (ss:=[]) ?_⟩
 exact asZ ma ⟨n0,0,none⟩ v _ ⟨_,mQ (jv _ _ h0) E,YU T h cN jv af h0 ae⟩
def aly{n0:Nat}(T:vI Tryz.prog 251 3 346 (.pointer none))(h:dI u b l)(E:u.cell? ⟨n0,0,none⟩=some (.map (some b))):
  zF Tryz.prog (.func (.func 402) #[] #[.pointer (some ⟨n0,0,none⟩)]) vU (zI l) [] (λdl=>dl.Perm l) u:=by
 intro ma cN jv af v K h0 ae
 refine⟨_,_,_,rfl,fg aet,fW.weaken (ss:=[]) ?_⟩
 exact asY ma ⟨n0,0,none⟩ v _ ⟨_,mQ (jv _ _ h0) E,YU T h cN jv af h0 ae⟩
def CX:vI Tryz.prog 235 3 4 (.bool false):=⟨by kernel_rfl,by kernel_rfl,λ_=>by kernel_rfl⟩
end
end dE
namespace b1
section
variable{u:H}{b:Nat}
abbrev Se:Code:=BQ (Tryz.f267.body.getD Go.Code.skip)
def aoC:Se=.rangeFunc (.tmp 6) #[7] (y1 Se) (y2 Se):=by kernel_rfl
def aes:fi Tryz.prog 231=true:=by kernel_rfl
def alz{n0:Nat}(h:dI u b (jX []))(E:u.cell? ⟨n0,0,none⟩=some (.map (some b))):
  zF Tryz.prog (.func (.func 231) #[] #[.pointer (some ⟨n0,0,none⟩)]) Value.string (λ(_:Unit) (_:ByteArray) (_:Unit)=>False) () (λ_=>True) u:=by
 intro ma cN jv af v K h0 ae
 refine⟨_,_,_,rfl,fg aes,fW.weaken (ss:=[]) ?_⟩
 refine asW ma ⟨n0,0,none⟩ v _ ⟨_,mQ (jv _ _ h0) E,B1 wT (h.mono (jv _ _ h0)) λr o W r9=>?_⟩
 refine⟨λw=>w=v.ins r o,λ_=>0,rfl,?_⟩
 rintro w rfl
 refine BC r9 (λ_=>⟨v,bN _ W,ae () v trivial h0⟩) λp fq aa=>by cases aa
def ao2{ab:Nat->Option aN}{T:ak}{K:J->H->Prop}(h:cP ab u b T)(aJ:T.now=[])(ae:∀s u',u.le u'->s.n=0->K s u'):Lj (some ⟨b,0,none⟩) u K:=by
 have hm:=h.now;rw[aJ] at hm;apply arN;refine B5 h.cell ⟨λI=>absurd rfl I,λ_=>⟨_,rfl,_,ak.c h.cell 1,?_⟩⟩;refine asV (some T.m) u _ λn0 et=>?_;have hle:=bN (u:=u) (b:=n0) (.cells #[.map (some T.m)] 113 (0,0)) et;apply atm;apply atc;apply as7;intro cb gF;have IA:=bN (u:=u.ins n0 (.cells #[.map (some T.m)] 113 (0,0))) (b:=cb) (.cells #[.slice none 0 0] 228 (0,0)) gF;have E:(u.ins n0 (.cells #[.map (some T.m)] 113 (0,0))).cell? ⟨n0,0,none⟩=some (.map (some T.m)):=aV (aS _ _ _) 0;refine mN.code aoC (mN.YJ (σ:=Unit) (t:=6) (enc:=Value.string) (Nx:=λ_ _ _=>False) (s0:=()) (En:=λ_=>True) IA MS (by simp) (by decide) (λY p8=>alz (hm.mono (hle.trans p8)) (mQ p8 E))
  (λ_ w=>w=((u.ins n0 (.cells #[.map (some T.m)] 113 (0,0))).ins cb (.cells #[.slice none 0 0] 228 (0,0)))) rfl (λ_ v e=>by rw[e];exact IA) (λ_ _ _ _ M=>M.elim) ?_)
 rintro _ v D _ rfl fb;have ph:=bN (u:=((u.ins n0 (.cells #[.map (some T.m)] 113 (0,0))).ins cb (.cells #[.slice none 0 0] 228 (0,0)))) (b:=D) (Obj.deferred (some [])) fb;have avW:cb≠D:=λe=>by rw[e,aS] at fb;cases fb
 refine⟨⟨none,0,0⟩,aV (ph _ _ (aS _ _ _)) 0,aS _ _ _,aqb rfl (ae _ _ ?_ rfl)⟩;intro c x I;rw[aL _ _ λe=>by have:=(hle.trans IA).none fb;rw[e,this] at I;cases I];exact ph _ _ ((hle.trans IA) _ _ I)
def ao7{ab:Nat->Option aN}{T:ak}{x:ByteArray}{K:J->Int->H->Prop}(h:cP ab u b T)(I:x∉T.now.map (·.1))(ae:K ⟨none,0,0⟩ 172 u):Gs (some ⟨b,0,none⟩) x u K:=by apply arO;exact apn h I ⟨λ_=>ae,λe=>absurd e (by decide)⟩
end
end b1
namespace dn
section
variable{u:H}
structure fI where
 ad:Nat
 name:ByteArray
 first:Int
 next:Int
 len:Int
 qG:Bool
def fI.obj(s:fI):Obj:=.cells #[.string s.name,.int .i64 s.first,.int .i64 s.next,.int .i64 s.len,.bool s.qG] 295 (0,0)
def tg(s:fI):List Value:=[.pointer (some ⟨s.ad,0,none⟩)]
def th(s:fI):(tg s).length=1:=rfl
structure dy where
 d:Nat
 bD:J
 bj:List fI
 pD:Int
 dir:Bool
 seq:Int
def dy.obj(L:dy):Obj:=.cells #[.pointer (some ⟨L.d,0,none⟩),.slice L.bD.a L.bD.n L.bD.c,.int .i64 L.pD,.bool L.dir,.int .i64 L.seq] 287 (0,0)
structure Ui(u:H)(b:Nat)(L:dy):Prop where
 cell:u b=some L.obj
 kV:Own u 293 1 L.bD (L.bj.flatMap tg)
 each:∀s∈L.bj,u s.ad=some s.obj
def j3(l:List fI):Int:=match l.getLast? with
 |some g=>g.next-1|none=>0
def dy.c{b:Nat}{L:dy}(h:u b=some L.obj)(i:Nat):u.cell? ⟨b,i,none⟩=(#[Value.pointer (some ⟨L.d,0,none⟩),.slice L.bD.a L.bD.n L.bD.c,.int .i64 L.pD,.bool L.dir,.int .i64 L.seq]:Array Value)[i]?:=aV h i
def fI.c{s:fI}(h:u s.ad=some s.obj)(i:Nat):u.cell? ⟨s.ad,i,none⟩=(#[Value.string s.name,.int .i64 s.first,.int .i64 s.next,.int .i64 s.len,.bool s.qG]:Array Value)[i]?:=aV h i
def ao1{b:Nat}{L:dy}{K:Int->H->Prop}(h:Ui u b L)(Z:∀s∈L.bj,0<s.next/\s.next<=1000000000)(ai:L.bj.length<=1000000)(ae:K (j3 L.bj) u):vD (some ⟨b,0,none⟩) u K:=by
 have ac:L.bD.n=L.bj.length:=fx th (by decide) h.kV.bR;apply aun;intro a ap;refine⟨λe=>(by cases e),λ_=>⟨_,rfl,L.bD,dy.c h.cell 1,λh0=>?_,λh0=>ap _ _ ?_⟩⟩;have:L.bj=[]:=List.eq_nil_of_length_eq_zero (by omega);rw[this] at ae;exact ae;have ah:L.bj≠[]:=λe=>h0 (by rw[ac,e];rfl);have N:=List.getLast?_eq_some_getLast ah;have hi:L.bj[((L.bD.n:Int)-1).toNat]?=some (L.bj.getLast ah):=by rw[<-N,List.getLast?_eq_getElem?];congr 1;omega
 have hm:=List.getLast_mem ah;obtain⟨p,aa,E⟩:=bb.elem th (by decide) h.kV.bR hi;have mu:0<L.bj.length:=List.length_pos_iff.2 ah;have h1:=Z _ hm;have wx:j3 L.bj=(L.bj.getLast ah).next-1:=by unfold j3;rw[N]
 rw[wx] at ae;exact⟨_,rfl,_,rfl,L.bD,dy.c h.cell 1,L.bD,dy.c h.cell 1,⟨by omega,by omega⟩,p,aa,⟨by omega,by omega⟩,_,E 0 _ rfl,_,rfl,_,fI.c (h.each _ hm) 2,⟨by omega,by omega⟩,ae⟩
end
end dn
section
variable{l:List bk}
def sY(l:List bk):Prop:=(l.map (·.1)).Nodup
def sY.perm{a b:List bk}(h:sY a)(aa:a.Perm b):sY b:=(aa.map _).nodup h
def sY.dX{k:Nat}(h:sY l):sY (dX k l):=
 List.Nodup.sublist (List.Sublist.map _ (List.take_sublist _ _)) (h.perm (rp l).symm)
theorem sY.eq(h:sY l){a b:bk}(ap:a∈l)(Z:b∈l)(e:a.1=b.1):a=b:=by
 induction l with
 |nil=>cases ap
 |cons x l aG=>
  have h2:=List.nodup_cons.1 h;rcases List.mem_cons.1 ap with av1|ap
  grind
  rcases List.mem_cons.1 Z with Of|Z
  grind
  exact aG h2.2 ap Z
def aq2{k:Nat}{x:bk}(h:x∈dX k l):x∈l:=(rp l).mem_iff.1 (List.mem_of_mem_take h)
def times(id:Int)(l:List bk):Nat:=l.countP λh=>decide (h.1=id)
def Hb(u u':H)(l:List aT)(q:List Int)(k:Int)(s:J)(e:Int):Prop:=
 u.le u'/\((e=j9 l q k/\e≠0/\s=⟨none,0,0⟩)∨(e=0/\j9 l q k=0/\jH l q/\1<=k/\k<=64/\aE u u' 83 3 s ((dX k.toNat (l.map (hh q))).flatMap ey)))
def Hb.fN{u u':H}{l:List aT}{q:List Int}{k:Int}{s:J}{e:Int}(h:Hb u u' l q k s e):∃L,iZ u' s L/\L.length<=64/\(e=0->L=dX k.toNat (l.map (hh q)))/\(e≠0->L=[]):=by rcases h.2 with⟨_,h1,rfl⟩|⟨h0,_,_,_,cI,U⟩;exact⟨[],(aE.nil (H.le.refl u') 0 3).own.bR,by simp,λh=>absurd h h1,λ_=>rfl⟩;exact⟨_,U.fN,by rw[uf];omega,λ_=>rfl,λh=>absurd h0 h⟩
def jH.yW{l:List aT}{q:List Int}(h:jH l q):sY (l.map (hh q)):=by unfold sY;rw[List.map_map];exact h.rows.nodup
end
