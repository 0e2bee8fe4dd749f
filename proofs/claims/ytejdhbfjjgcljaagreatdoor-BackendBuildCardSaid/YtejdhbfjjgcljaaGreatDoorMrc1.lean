/- Texts of mine, joined and packed by pack.py. -/
import Derived.WalkKit
import Derived.Orders
import Derived.RangeFuncSeq
import Derived.TacticsIn
import Derived.OrdersHeld
set_option linter.all false
open Go renaming Program->dR,Value->ao,World->b6,TypeId->dC,FuncId->ju,Addr->ba,IntKind->xw,Operand->jw,Act->eo,undef->hQ,Oper->eF,execOp->fy,callFunc->qw,Exit->kz
open _root_ renaming Nat->N,List->J,Option->ay,Array->cu,Int->o,Bool->aI,False->ej,absurd->a6,inferInstance->s6
open Go.World renaming cell?->Jc,setCell->aaH,frozen?->F6
open Bool renaming true->ak,false->ax
open Nat renaming beq->ji,blt->xx,ble->vM
open Go.Obj renaming cells->bA
open Go.Sem renaming run->rp
open Go.IntKind renaming i64->ci,wrap->cw,signed->F4,bits->F5
open Go.Fence renaming wide->uy
open Go.Made renaming depth->uz
open Go.Instr renaming lookup->gK,mapUpdate->kV,makeMap->pO,makeSlice->pP,sliceAt->fR,buildSlice->dA,typeAssert->s7,range->rq,next->NX,sureAddr->Jh
open Go.Builtin renaming append_->dW,delete_->s8,len_->rr,clear_->pQ
open Go.Oper renaming wp->C6
open Go.Deferred renaming ofValue->SO
open Go.Result renaming ok->xy,andThen->jy
open Go.Addr renaming add->ep
open Go.Op renaming equalIn->xD,noConfusion->aaJ
open Go.Value renaming iface->lN
open Go.Region renaming wanted->uC,binds->A5,ready->ng,free->SU
open List renaming range->ox
set_option maxRecDepth 100000
noncomputable section
namespace Go.Proofs.YtejdhbfjjgcljaaGreatDoor
def C5:=@Array.getElem?_eq_none
def j1:=@Nat.lt_or_ge
def cg:=@Nat.le_refl
def jv:=@Nat.le_trans
def nf:=@List.append_assoc
def Jd:=@Nat.lt_of_lt_of_le
def cK:=@List.mem_append
def A0:=@Iff.rfl
def l1:=@Nat.eq_of_beq_eq_true
def A1:=@Array.getD_eq_getD_getElem?
def j2:=@Option.some.injEq
def cO:=@Option.some.inj
def az:=@if_neg
def aV:=@if_pos
def du:=@List.mem_of_getElem?
def NW:=@List.all_eq_true
def F3:=@Array.mem_toList_iff
def Je:=@Option.isSome_iff_exists
def Jf:=@decide_eq_true_eq
def aaF:=@List.mapM_cons
def aaG:=@Option.bind_eq_some_iff
def gl:=@List.map_cons
def C7:=@Array.ext'
def eS:=@Go.Sem.run_bind
def jx:=@Go.Result.andThen_ok
def SN:=@Option.bind_some
def Jg:=@Option.getD_some
def h5:=@List.length_cons
def qx:=@if_true
def SP:=@Array.getElem?_modify
def uA:=@Option.map_some
def xz:=@Array.getElem?_eq_getElem
def xA:=@Bool.false_eq_true
def xB:=@if_false
def s9:=@List.drop_eq_getElem_cons
def A2:=@List.take_succ_cons
def SQ:=@Array.getElem?_push
def C8:=@Go.World.size_alloc
def io:=@List.getElem?_eq_none
def qy:=@List.getElem?_append_left
def C9:=@List.getElem?_append_right
def aaI:=@Nat.eq_or_lt_of_le
def Da:=@Nat.sub_self
def A3:=@List.getElem?_cons_zero
def gb:=@List.nodup_append
def fI:=@List.mem_singleton
def xC:=@List.getElem?_cons_succ
def r1:=@List.ext_getElem?
def eC:=@List.length_append
def gL:=@List.length_take
def qz:=@List.length_set
def F7:=@List.getElem?_take
def uB:=@List.getElem?_drop
def A4:=@List.getElem?_set
def SR:=@Nat.lt_trichotomy
def nT:=@List.length_nil
def pb:=@Bool.and_eq_true
def ru:=@Array.length_toList
def SS:=@Option.map_eq_some_iff
def F8:=@Nat.le_of_ble_eq_true
def vN:=@Go.mem_ready
def dv:=@Ne.symm
def Ji:=@Go.ready_mono
def A6:=@Array.getElem?_toList
def NY:=@Go.callsIn_wide
def Jj:=@List.set_cons_succ
def Jk:=@List.mem_of_find?_eq_some
def Jl:=@List.find?_some
def SV:=@Array.mem_of_getElem?
def SX:=@Go.Region.noSelect_spec
def SY:=@Go.Region.free_spec
def xE:=@Array.getElem?_eq_some_iff
def aaK:=@List.any_eq_false
def Jm:=@List.mem_range
def Jn:=@Bool.not_eq_true'
def aaL:=@Bool.not_eq_false
def cn:=@List.getElem?_eq_getElem
def dV:=@congrArg
def y6:=@Bool.or_eq_false_iff
def vO:=@List.cons_append
def SZ:=@List.take_left
def S0:=@List.drop_left
def iY:=@List.mem_append_left
def Jo:=@Nat.le_succ
def N0:=@List.take_append_of_le_length
def ho:=@List.take_of_length_le
def aaM:=@List.drop_append_of_le_length
def N1:=@List.drop_of_length_le
def aaN:=@Array.getElem?_append_left
def S1:=@List.drop_succ_cons
def A7:=@List.drop_drop
def nU:=@Nat.zero_le
def y7:=@Nat.mul_one
def jI:=@Nat.zero_add
def aaP:=@Array.size_append
def vQ:=@List.size_toArray
def Dc:=@Nat.add_mul
def e3:=@Option.ne_none_iff_exists'
def S2:=@Nat.mul_eq_zero
def r2:=@Nat.mul_le_mul_right
def nV:=@List.length_drop
def Dd:=@Nat.zero_mul
def gB:=@List.flatMap_cons
def xG:=@Nat.succ_mul
def A8:=@List.set_cons_zero
def N2:=@List.take_zero
def lu:=@List.nil_append
def ry:=@List.drop_eq_nil_of_le
def aaQ:=@List.take_append
def ir:=@List.getElem?_eq_some_iff
def Ga:=@List.take_take
def A9:=@Nat.min_eq_left
def y9:=@List.cons.injEq
def Gc:=@Prod.mk.injEq
def cE:=@List.mem_cons
def gd:=@List.mem_cons_of_mem
def Ge:=@Array.getElem?_setIfInBounds_ne
def aaR:=@Int.fdiv_eq_ediv_of_nonneg
def zc:=@Int.mul_nonneg
def Gf:=@Int.mul_le_mul
def aaS:=@Int.mul_nonneg_of_nonpos_of_nonpos
def aaT:=@Bool.not_eq_true
def l4:=@Int.le_refl
def Jr:=@List.pairwise_singleton
def jJ:=@List.pairwise_cons
def rz:=@List.take_sublist
def Bb:=@List.pairwise_append
def nW:=@List.mem_of_mem_take
def kk:=@List.getElem_mem
def gT:=@List.take_add_one
def bk:=@List.mem_map
def dY:=@List.map_append
def Df:=@List.map_nil
def Js:=@forall_eq_or_imp
def hK:=@List.nodup_cons
def qA:=@List.not_mem_nil
def qB:=@or_false
def dr:=@List.getD_eq_getElem?_getD
def uE:=@List.getElem?_set_ne
def Jt:=@Int.tdiv_eq_ediv_of_nonneg
def rA:=@List.length_singleton
def Ju:=@decide_eq_false_iff_not
def N4:=@Nat.mod_lt
def r4:=@getElem!_pos
def xH:=@Nat.sub_zero
def nX:=@List.pairwise_iff_getElem
def ly:=@List.eq_nil_of_length_eq_zero
def dg:=@List.length_map
def S6:=@beq_iff_eq
def ee:=@List.mem_flatMap
def l5:=@List.perm_append_singleton
def pc:=@List.mem_iff_getElem
def S7:=@Array.getElem?_setIfInBounds_self
def iD:=@List.getElem?_map
def aaY:=@List.Sublist.map
def gU:=@List.flatMap_append
def ni:=@List.take_length
def N6:=@List.set_append_right
def Jw:=@List.foldl_cons
def vR:=@List.length_pos_iff
def kA:=@List.append_nil
def uG:=@List.mem_of_mem_drop
def S9:=@List.drop_zero
def N7:=@List.drop_sublist
def vS:=@and_true
def gh:=@List.mem_cons_self
def Tc:=@List.getElem?_range
def ajN:=@List.mem_or_eq_of_mem_set
def Td:=@Nat.mul_comm
def Jz:=@List.getElem?_replicate
def lP:=@decide_eq_true
def JA:=@List.find?_eq_none
def ez:=@List.map_map
def zd:=@List.map_congr_left
def Te:=@Nat.min_self
def Tf:=@List.getElem?_zipWith
def Dh:=@List.map_drop
def JB:=@List.map_take
def Bd:=@dif_pos
def JC:=@Int.mul_le_mul_of_nonneg_left
def aa0:=@List.append_of_mem
def xJ:=@List.perm_middle
def aa1:=@List.perm_cons
def r6:=@List.take_append_drop
def pe:=@List.getElem_of_mem
def Gg:=@List.map_id'
def lf:=@List.mem_append_right
def hS:=@List.mem_map_of_mem
def N8:=@List.nodup_iff_pairwise_ne
def ta:=@List.pairwise_map
def ajO:=@List.dropLast_concat_getLast
def xK:=@dif_neg
def aa2:=@List.Perm.of_eq
def Bf:=@List.flatMap_map
def Gh:=@List.flatMap_nil
def aa3:=@List.Perm.append_left
def JD:=@Nat.le_of_eq
def Gi:=@Int.natCast_mul
def Bg:=@of_decide_eq_false
def Gj:=@List.map_set
def JE:=@List.flatMap_def
def aa4:=@List.perm_append_comm_assoc
def N9:=@List.length_replicate
def Oa:=@Nat.eq_zero_or_pos
def pS:=@List.filter_eq_self
def Gk:=@List.getElem_take
def xM:=@Int.toNat_natCast
def Tg:=@Option.toList_some
def vT:=@List.filter_append
def xN:=@List.filter_cons
def Th:=@Nat.add_zero
def ze:=@List.getElem?_set_self
def tb:=@Int.toNat_of_nonneg
def hT:=@List.mem_filter
def Gl:=@List.Perm.refl
def r7:=@Option.mem_toList
def nY:=@decide_eq_false
def aa5:=@Option.map_eq_none_iff
def Gm:=@List.find?_cons
def JF:=@List.filter_sublist
def Ti:=@List.perm_ext_iff_of_nodup
def ajP:=@Classical.byContradiction
def Di:=@List.getElem_map
def Tj:=@List.sublist_flatten_of_mem
def r8:=@List.filter_map
def aa6:=@List.pairwise_replicate
def uH:=@List.mem_replicate
def uI:=@of_decide_eq_true
def Tk:=@List.length_pos_of_mem
def Bh:=@List.length_filter_le
def Ob:=@forall_eq
def aa7:=@List.sublist_append_left
def aa8:=@List.Sublist.refl
def aa9:=@List.foldl_append
def Oc:=@List.length_filter_lt_length_iff_exists
def aba:=@List.getElem_drop
def ajQ:=@Int.tmod_eq_emod_of_nonneg
def Od:=@Int.emod_nonneg
def Oe:=@Int.emod_lt_of_pos
def Tl:=@Option.isSome_map
def Gq:=@decide_eq_decide
def abb:=@List.getElem_set
def abc:=@List.ext_getElem
def JG:=@List.nodup_nil
def Of:=@beq_false_of_ne
def Tn:=@List.mem_iff_getElem?
def To:=@false_implies
def Tp:=@implies_true
def Tq:=@List.length_eq_zero_iff
section
variable{P:dR}{b off:N}{bs:J N}{vs:J ao}{w':b6}{t T e:dC}{R:Type}{f:ju}
abbrev H:=N->ay Obj
def H.ins(u:H)(b:N)(z:Obj):H:=λx=>if x=b then some z else u x
def H.le(u u':H):Prop:=∀b z,u b=some z->u' b=some z
def H.le.refl(u:H):u.le u:=λ_ _ h=>h
def H.le.trans{a b c:H}(h:a.le b)(k:b.le c):a.le c:=λx z e=>k x z (h x z e)
def H.bW{u:H}(z:Obj)(h:u b=none):u.le (u.ins b z):=by intro x p e;unfold H.ins;split;rename_i M;subst M;rw[h] at e;cases e;exact e
def H.le.ins{u u':H}(z:Obj)(k:u.le u')(h:u' b=none):u.le (u'.ins b z):=k.trans (H.bW z h)
def H.bf(u:H)(b:N)(z:Obj):u.ins b z b=some z:=by simp[H.ins]
def H.bm(u:H){x:N}(z:Obj)(h:x≠b):u.ins b z x=u x:=by simp[H.ins,h]
def H.cell?(u:H)(a:ba):ay ao:=
 match u a.block with
 |some (.cells c _ _)=>if a.spot.isSome then none else c[a.off]?
 |_=>none
def Sub(u:H)(w:b6):Prop:=∀b z,u b=some z->w.heap[b]?=some z
def Sub.cell{u:H}{w:b6}(h:Sub u w){a:ba}{v:ao}(e:u.cell? a=some v):w.cell? a=some v:=by unfold H.cell? at e;unfold Jc;split at e;rename_i c t f Z;rw[h _ _ Z];exact e;cases e
def Sub.none{u:H}{w:b6}(h:Sub u w)(Z:w.heap.size<=b):u b=none:=by
 cases e:u b with
 |none=>rfl|some z=>have:=h _ _ e;rw[C5 Z] at this;cases this
def Sub.lt{u:H}{w:b6}(h:Sub u w){z:Obj}(e:u b=some z):b<w.heap.size:=by rcases j1 b w.heap.size with k|k;exact k;rw[h.none k] at e;cases e
def Sub.mono{u u':H}{w:b6}(h:Sub u' w)(k:u.le u'):Sub u w:=λb z e=>h b z (k b z e)
structure Step(u:H)(bs:J N)(w:b6)(u':H)(c5:J N)(w':b6):Prop where
 sub:Sub u' w'
 os:w'.os=w.os
 tape:w'.tape=w.tape
 output:w'.output=w.output
 drawn:w.drawn<=w'.drawn
 size:w.heap.size<=w'.heap.size
 rest:∀b,b<w.heap.size->u b=none->b∉bs->w'.heap[b]?=w.heap[b]?
 jg:∀b,b<w.heap.size->u b=none->u' b=none
 more:∃ext,c5=bs++ext/\∀b∈ext,w.heap.size<=b
def Step.refl{u:H}{w:b6}(h:Sub u w):Step u bs w u bs w:=
 ⟨h,rfl,rfl,rfl,cg _,cg _,λ_ _ _ _=>rfl,λ_ _ e=>e,[],by simp,by simp⟩
def Step.trans{u u' jb:H}{c5 aeb:J N}{w Pl:b6}(h:Step u bs w u' c5 w')(k:Step u' c5 w' jb aeb Pl):Step u bs w jb aeb Pl:=by obtain⟨aP,vh,gi⟩:=h.more;obtain⟨aC,iQ,hN⟩:=k.more;refine⟨k.sub,k.os.trans h.os,k.tape.trans h.tape,k.output.trans h.output,jv h.drawn k.drawn,jv h.size k.size,?_,?_,aP++aC,by rw[iQ,vh,nf],?_⟩;intro b Z hu ae;rw[k.rest b (Jd Z h.size) (h.jg b Z hu) ?_,h.rest b Z hu ae];rw[vh];simp only[cK,not_or];exact⟨ae,λhm=>by have:=gi b hm;omega⟩;intro b Z hu;exact k.jg b (Jd Z h.size) (h.jg b Z hu);intro b Z;rcases cK.1 Z with Z|Z;exact gi b Z;exact jv h.size (hN b Z)
def Step.Qy{u:H}{w:b6}(h:Sub u w){n:N}(ae:w.drawn<=n):Step u bs w u bs {w with drawn:=n}:=
 ⟨h,rfl,rfl,rfl,ae,cg _,λ_ _ _ _=>rfl,λ_ _ e=>e,[],by simp,by simp⟩
def P0(P:dR)(f:ju)(args:cu ao)(u:H)(K:ao->H->Prop):Prop:=
 ∀w,Sub u w->Calls P f args w λe w'=>∃v u',e=.returned v/\K v u'/\Step u [] w u' [] w'
def P0.mono{args:cu ao}{u:H}{K fA:ao->H->Prop}(h:P0 P f args u K)(hk:∀v u',K v u'->fA v u'):P0 P f args u fA:=
 λw hw=>(h w hw).mono λ_ _ ⟨v,u',e,k,s⟩=>⟨v,u',e,hk v u' k,s⟩
def P6(P:dR)(m:Sem ao)(u:H)(K:ao->H->Prop):Prop:=
 ∀w,Sub u w->∃v w' u',m.run P w=.ok v w'/\K v u'/\Step u [] w u' [] w'
def P6.mono{m:Sem ao}{u:H}{K fA:ao->H->Prop}(h:P6 P m u K)(hk:∀v u',K v u'->fA v u'):P6 P m u fA:=
 λw hw=>let⟨v,w',u',e,k,s⟩:=h w hw;⟨v,w',u',e,hk v u' k,s⟩
inductive aK where
 |int (k:xw)|bool|str|ptr|slice|map|val|addr
structure U where
 a:ay ba
 n:N
 c:N
@[reducible] def U.v(s:U):ao:=.slice s.a s.n s.c
def aK.den:aK->Type
 | .int _=>o| .bool=>aI| .str=>ByteArray| .ptr=>ay ba| .slice=>U| .map=>ay N| .val=>ao| .addr=>ba
def aK.enc:(t:aK)->t.den->ao
 | .int k,n=>.int k n| .bool,b=>.bool b| .str,s=>.string s| .ptr,p=>.pointer p| .slice,s=>.slice s.a s.n s.c| .map,r=>.map r| .val,v=>v| .addr,p=>.pointer (some p)
def yM(a b:xw):aI:=a.bits==b.bits && a.signed==b.signed
def Np{a b:xw}(h:yM a b=ak):a=b:=by cases a<;>cases b<;>first|rfl|(revert h;decide)
def aK.un:(t:aK)->ao->(t.den->Prop)->Prop
 | .int k,.int dQ n,f=>match yM dQ k with|true=>f n|false=>ej
 | .bool,.bool b,f=>f b| .str,.string s,f=>f s| .ptr,.pointer p,f=>f p| .slice,.slice a n c,f=>f ⟨a,n,c⟩| .map,.map r,f=>f r| .val,v,f=>f v| .addr,.pointer (some p),f=>f p|_,_,_=>ej
def aK.Ub{t:aK}{v:ao}{f:t.den->Prop}(h:t.un v f):∃x,v=t.enc x/\f x:=by
 by_cases aE:t=.addr;subst aE;cases v<;>simp only[aK.un] at h<;>try contradiction
 rename_i p;cases p with
 |none=>exact h.elim|some p=>exact⟨p,rfl,h⟩
 cases t<;>(try exact a6 rfl aE)<;>cases v<;>simp only[aK.un] at h<;>try contradiction
 case int.int k dQ n=>split at h;rename_i e;have:=Np e;subst this;exact⟨n,rfl,h⟩;exact h.elim
 all_goals exact⟨_,rfl,h⟩
def ZL(k:xw):yM k k=ak:=by cases k<;>rfl
def aK.uT(t:aK)(x:t.den)(f:t.den->Prop):t.un (t.enc x) f↔f x:=by cases t<;>first|exact A0|simp[aK.un,aK.enc,ZL]
def hd:J aK->Type->Type
 | [],R=>R|t::ca,R=>t.den->hd ca R
def Nv{R:Type}:(ca:J aK)->(J ao->R)->hd ca R
 | [],f=>f []|t::ca,f=>λx=>Nv ca λvs=>f (t.enc x::vs)
def KA:(ca:J aK)->(J ao->Prop)->Prop
 | [],f=>f []|t::ca,f=>∀x:t.den,KA ca λvs=>f (t.enc x::vs)
def hG{R:Type}:(ca:J aK)->hd ca R->J ao->(R->Prop)->Prop
 | [],di,[],f=>f di|t::ca,di,v::vs,f=>t.un v λx=>hG ca (di x) vs f|_,_,_,_=>ej
inductive pr:J aK->J ao->Prop
 |nil:pr [] []
 |cons {t:aK} {ca:J aK} (x:t.den) {vs:J ao}:pr ca vs->pr (t::ca) (t.enc x::vs)
def J3{ca:J aK}{di:hd ca R}{f:R->Prop}(h:hG ca di vs f):pr ca vs:=by
 induction ca generalizing vs with
 |nil=>cases vs with
  |nil=>exact .nil|cons=>simp[hG] at h
 |cons t ca aL=>cases vs with
  |nil=>simp[hG] at h|cons v vs=>simp only[hG] at h;obtain⟨x,rfl,M⟩:=aK.Ub h;exact .cons x (aL M)
def anW{ca:J aK}{f:J ao->Prop}(h:KA ca f)(k:pr ca vs):f vs:=by
 induction k generalizing f with
 |nil=>exact h|cons x _ aL=>exact aL (f:=λvs=>f (aK.enc _ x::vs)) (h x)
def acw{ca:J aK}(di:hd ca R)(k:pr ca vs):∃r,∀f:R->Prop,hG ca di vs f↔f r:=by
 induction k with
 |nil=>exact⟨di,λf=>A0⟩|cons x _ aL=>obtain⟨r,O⟩:=aL (di x);exact⟨r,λf=>by simp only[hG,aK.uT];exact O f⟩
def O5{ca:J aK}{g:J ao->R}(k:pr ca vs)(f:R->Prop):hG ca (Nv ca g) vs f↔f (g vs):=by
 induction k generalizing g with
 |nil=>exact A0|cons x _ aL=>simp only[hG,aK.uT,Nv];exact aL
inductive bj where
 |one (t:aK)
 |agg (ca:J aK)
def bj.h8:bj->J aK
 | .one t=>[t]| .agg ca=>ca
def bj.take:bj->J ao->ao×J ao
 | .one _,v::vs=>(v,vs)| .one _,[]=>(.tuple #[],[])| .agg ca,vs=>(.agg (vs.take ca.length).toArray,vs.drop ca.length)
def B6:J bj->J ao->J ao
 | [],_=>[]|s::ss,vs=>(s.take vs).1::B6 ss (s.take vs).2
def wI(ss:J bj)(vs:J ao):ao:=
 match B6 ss vs with
 | [v]=>v|l=>.tuple l.toArray
def gD:J bj->J aK
 | []=>[]|s::ss=>s.h8++gD ss
def ie(P:dR)(f:ju)(args:cu ao)(ss:J bj)(u:H)(K:hd (gD ss) (H->Prop)):Prop:=
 P0 P f args u λv u'=>∃vs,pr (gD ss) vs/\v=wI ss vs/\hG (gD ss) K vs λr=>r u'
def c4(P:dR)(m:Sem ao)(ss:J bj)(u:H)(K:hd (gD ss) (H->Prop)):Prop:=
 P6 P m u λv u'=>∃vs,pr (gD ss) vs/\v=wI ss vs/\hG (gD ss) K vs λr=>r u'
inductive fB where
 |v (x:ao)
 |ptr (p:ba)
 |loc (i off:N)
 |jL
 |jP
 |dec (p:Prop) (d:Decidable p)
 |uo (p:Prop) (d:Decidable p)
structure aN where
 n:N
 env:J (N×fB)
 loc:J (J ao)
 Ed:ay N:=none
def KK:ay N->J Deferred
 |none=>[]|some D=>[{target:=.collected D,args:=#[]}]
structure kZ where
 P:dR
 exp:J N:=[]
 wrap:aI:=ax
 h9:J (N×N):=[]
 ob:J N:=[]
 ov:J N:=[]
 part:aI:=ax
def hj(bs:J N):fB->ay ao
 | .v x=>some x| .ptr p=>some (.pointer (some p))| .loc i off=>match bs[i]? with
  |some b=>some (.pointer (some ⟨b,off,none⟩))|none=>none
 | .jL=>some (.bool ak)| .jP=>some (.bool ax)| .dec p d=>some (.bool (@decide p d))| .uo p d=>some (.bool (!@decide p d))
def fB.val:fB->ay ao
 | .v x=>some x| .ptr p=>some (.pointer (some p))| .loc _ _=>none| .jL=>some (.bool ak)| .jP=>some (.bool ax)| .dec p d=>some (.bool (@decide p d))| .uo p d=>some (.bool (!@decide p d))
def fB.Ud{x:fB}{v:ao}(h:x.val=some v)(bs:J N):hj bs x=some v:=by cases x<;>simp only[fB.val] at h<;>first|exact h|cases h
def look:J (N×fB)->N->ay fB
 | [],_=>none|(i,x)::r,j=>match ji i j with
  |true=>some x|false=>look r j
def del:J (N×fB)->N->J (N×fB)
 | [],_=>[]|(i,x)::r,j=>match ji i j with
  |true=>del r j|false=>(i,x)::del r j
def FN{l:J (N×fB)}{j:N}{x:fB}(h:look l j=some x):(j,x)∈l:=by
 induction l with
 |nil=>cases h
 |cons p r aL=>obtain⟨i,y⟩:=p;simp only[look] at h;split at h;rename_i e;have:=l1 e;subst this;cases h;exact .head _;exact .tail _ (aL h)
def aeA{l:J (N×fB)}{j:N}{p:N×fB}(h:p∈del l j):p∈l/\p.1≠j:=by
 induction l with
 |nil=>cases h
 |cons q r aL=>
  obtain⟨i,y⟩:=q;simp only[del] at h;split at h;exact⟨.tail _ (aL h).1,(aL h).2⟩;rename_i e;cases h with
  |head=>exact⟨.head _,λgq=>by simp only at gq;subst gq;simp at e⟩|tail _ h=>exact⟨.tail _ (aL h).1,(aL h).2⟩
def aN.put(s:aN)(dst:ay Tmp)(x:fB):aN:=
 match dst with
 |none=>s|some d=>match xx d s.n with
  |true=>{s with env:=(d,x)::del s.env d}
  |false=>{s with env:=del s.env d}
def aN.drop(s:aN)(dst:ay Tmp):aN:=
 match dst with
 |none=>s|some d=>{s with env:=del s.env d}
def aN.sv(s:aN):jw->ay fB
 | .tmp t=>look s.env t| .const (.bool ak)=>some .jL| .const (.bool ax)=>some .jP| .const v=>some (.v v)| .global g=>some (.ptr ⟨g,0,none⟩)| .func f=>some (.v (.func (.func f) #[] #[]))
def aN.val(s:aN)(x:jw):ay ao:=(s.sv x).bind fB.val
structure FitsE(s:aN)(bs:J N)(a:eo):Prop where
 defers:a.defers=KK s.Ed
 n:a.tmps.size=s.n
 env:∀p∈s.env,∃v,hj bs p.2=some v/\a.tmps[p.1]?=some v
structure Fits(s:aN)(bs:J N)(u:H)(a:eo)(w:b6):Prop extends FitsE s bs a where
 len:bs.length=s.loc.length
 loc:∀(i:N) (cs:J ao),s.loc[i]?=some cs->∃(b:N) (T:dC),bs[i]?=some b/\w.heap[b]?=some (bA cs.toArray T (0,0))
 nodup:bs.Nodup
 b7:∀b∈bs,u b=none/\b<w.heap.size
 sub:Sub u w
structure jl(loc:J (J ao))(bs:J N)(u:H)(w:b6):Prop where
 loc:∀(i:N) (cs:J ao),loc[i]?=some cs->∃(b:N) (T:dC),bs[i]?=some b/\w.heap[b]?=some (bA cs.toArray T (0,0))
 sub:Sub u w
def Fits.w{s:aN}{u:H}{a:eo}{w:b6}(h:Fits s bs u a w):jl s.loc bs u w:=⟨h.loc,h.sub⟩
def FitsE.sv{s:aN}{a:eo}(h:FitsE s bs a){x:jw}{y:fB}(e:s.sv x=some y):hj bs y=some (a.eval x):=by
 cases x with
 |tmp t=>simp only[aN.sv] at e;obtain⟨v,h1,h2⟩:=h.env _ (FN e);simp only[Act.eval];simp only at h1 h2;rw[h1,<-h2,A1,h2];rfl
 |const v=>
  cases v<;>try(simp only[aN.sv,j2] at e;subst e;rfl)
  rename_i b;cases b<;>(simp only[aN.sv,j2] at e;subst e;rfl)
 |global g=>simp only[aN.sv,j2] at e;subst e;rfl|func f=>simp only[aN.sv,j2] at e;subst e;rfl
def FitsE.val{s:aN}{a:eo}(h:FitsE s bs a){x:jw}{v:ao}(e:s.val x=some v):a.eval x=v:=by
 unfold aN.val at e;cases M:s.sv x with
 |none=>rw[M] at e;cases e
 |some y=>rw[M] at e;have h1:=h.sv M;have h2:=fB.Ud e bs;rw[h1] at h2;exact cO h2
def aaE(a:eo)(d:N)(v:ao)(j:N):(a.put (some d) v).tmps[j]?=if d=j/\j<a.tmps.size then some v else a.tmps[j]?:=by simp only[Act.put,Array.getElem?_setIfInBounds];by_cases h:d=j;subst h;by_cases h2:d<a.tmps.size;simp[h2];simp[h2];simp[h]
def Fits.drop{s:aN}{u:H}{a:eo}{w:b6}(h:Fits s bs u a w)(dst:ay Tmp)(v:ao):Fits (s.drop dst) bs u (a.put dst v) w:=by
 cases dst with
 |none=>exact h|some d=>refine⟨⟨h.defers,by simp[Act.put,h.n,aN.drop],?_⟩,h.len,h.loc,h.nodup,h.b7,h.sub⟩;intro p ad;obtain⟨h1,h2⟩:=aeA ad;obtain⟨x,M,ah⟩:=h.env p h1;refine⟨x,M,?_⟩;rw[aaE,az (λe=>h2 e.1.symm)];exact ah
def Fits.put{s:aN}{u:H}{a:eo}{w:b6}(h:Fits s bs u a w)(dst:ay Tmp){x:fB}{v:ao}(e:hj bs x=some v):Fits (s.put dst x) bs u (a.put dst v) w:=by
 cases dst with
 |none=>exact h|some d=>
  have aw:=h.drop (some d) v;cases Z:xx d s.n with
  |false=>
   have aP:s.put (some d) x=s.drop (some d):=by simp only[aN.put,Z,aN.drop]
   rw[aP];exact aw|true=>
   have aP:s.put (some d) x={s with env:=(d,x)::del s.env d}:=by simp only[aN.put,Z]
   rw[aP];have bC:d<s.n:=by simpa using Z
   refine⟨⟨aw.defers,aw.n,?_⟩,h.len,h.loc,h.nodup,h.b7,h.sub⟩;intro p ad;cases ad with
   |head=>exact⟨v,e,by rw[aaE,aV ⟨rfl,by rw[h.n];exact bC⟩]⟩|tail _ ad=>exact aw.env p ad
def Fits.step{s:aN}{u u':H}{a:eo}{w:b6}(h:Fits s bs u a w)(k:Step u [] w u' [] w'):Fits s bs u' a w':=by refine⟨⟨h.defers,h.n,h.env⟩,h.len,?_,h.nodup,?_,k.sub⟩;intro i cs e;obtain⟨b,T,h1,h2⟩:=h.loc i cs e;have hm:b∈bs:=du h1;exact⟨b,T,h1,(k.rest b (h.b7 b hm).2 (h.b7 b hm).1 (by simp)).trans h2⟩;intro b Z;exact⟨k.jg b (h.b7 b Z).2 (h.b7 b Z).1,Jd (h.b7 b Z).2 k.size⟩
def Step.L0{u u':H}{w:b6}(k:Step u [] w u' [] w')(bs:J N):Step u bs w u' bs w':=
 ⟨k.sub,k.os,k.tape,k.output,k.drawn,k.size,λb Z hu _=>k.rest b Z hu (by simp),k.jg,[],by simp,by simp⟩
def aet:ao->aK
 | .int k _=>.int k| .bool _=>.bool| .string _=>.str| .pointer _=>.ptr| .slice _ _ _=>.slice| .map _=>.map|_=>.val
def qQ(P:dR)(t:dC):aI:=
 match P.underlying t with
 |some (.struct _)=>ak|some (.array _ _)=>ak|_=>ax
def qH(P:dR)(t:dC):ay bj:=
 match P.info? t with
 |some i=>match i.zero,P.underlying t with
  |some (.agg cs),some _=>match qQ P t,ji cs.size i.size with
   |true,ak=>some (.agg (cs.toList.map aet))|_,_=>none
  |some Y,some _=>match qQ P t,ji 1 i.size with
   |false,ak=>some (.one (aet Y))|_,_=>none
  |_,_=>none
 |none=>none
def OG(P:dR)(t:dC):ay (J bj):=
 match P.underlying t with
 |some (.tuple ca)=>ca.toList.mapM (qH P)|_=>(qH P t).map λs=>[s]
def zeroOf(P:dR)(t:dC):ay (J ao):=
 match P.info? t with
 |some i=>i.zero.map λY=>Y.cells.toList|none=>none
def xQ(P:dR)(t:dC):ay N:=(P.info? t).map (·.size)
def Jb(P:dR){α:Type}:Sem α->ay α
 | .pure a=>some a| .program k=>Jb P (k P)|_=>none
def axw{α:Type}{m:Sem α}{a:α}(h:Jb P m=some a)(w:b6):m.run P w=.ok a w:=by
 induction m with
 |pure b=>simp only[Jb,j2] at h;subst h;rfl|program k aL=>simp only[Jb] at h;simp only[rp];exact aL _ h|_=>simp[Jb] at h
def aN.hU(s:aN)(x:jw):ao:=(s.val x).getD hQ
def known(s:aN)(z:eF):aI:=z.op.operands.toList.all λx=>(s.val x).isSome
def aeW{s:aN}{a:eo}(h:FitsE s bs a){z:eF}(ag:∀cs b,z.op≠.select cs b)(hk:known s z=ak):fy a.eval z=fy s.hU z:=by refine execOp_congr z ag λx M=>?_;have h1:=NW.1 hk x (F3.2 M);obtain⟨v,aA⟩:=Je.1 h1;rw[h.val aA];simp[aN.hU,aA]
def ajq:Op->aI
 | .select _ _| .index ..| .lookup ..| .mapUpdate ..| .insert ..| .makeMap ..| .makeSlice ..| .slice ..| .buildSlice ..| .typeAssert ..| .range ..| .next ..| .entry ..| .mapEntry ..| .entryStore ..=>ax| .call c=>match c.callee with
  | .builtin .append| .builtin .copy| .builtin .delete| .builtin .clear=>ax|_=>ak
 |_=>ak
def aja(P:dR):Op->aI
 | .call c=>match c.callee with
  | .builtin .len=>match c.argTypes.toList with
   |t::_=>match P.underlying t with
    |some (.map _ _)=>ak|_=>ax
   | []=>ax
  |_=>ax
 |_=>ax
def y4(P:dR)(s:aN)(z:eF):ay ao:=
 match aja P z.op with
 |true=>none|false=>match known s z,ajq z.op with
  |true,ak=>match Jb P (fy s.hU z) with
   |some (.value v)=>some v|_=>none
  |_,_=>none
def ajF{s:aN}{a:eo}(h:FitsE s bs a){z:eF}{v:ao}(e:y4 P s z=some v)(w:b6):(fy a.eval z).run P w=.ok (.value v) w:=by unfold y4 at e;split at e;cases e;split at e;rename_i h1 h2;split at e;rename_i x h3;cases e;rw[aeW h (λcs b e=>by rw[e] at h2;cases h2) h1];exact axw h3 w;cases e;cases e
def Qo:BinOp->o->o->ay fB
 | .eql,a,b=>some (.dec (a=b) s6)| .neq,a,b=>some (.uo (a=b) s6)| .lss,a,b=>some (.dec (a<b) s6)| .leq,a,b=>some (.dec (a<=b) s6)| .gtr,a,b=>some (.dec (b<a) s6)| .geq,a,b=>some (.dec (b<=a) s6)|_,_,_=>none
def apg{op:BinOp}{a b:o}{x:fB}(h:Qo op a b=some x)(P:dR)(t:dC)(k:xw)(bs:J N):
  ∃v,hj bs x=some v/\∀w,(binOp op t (.int k a) (.int k b)).run P w=.ok v w:=by
 cases op<;>simp only[Qo,j2,reduceCtorEq] at h<;>subst h<;>refine⟨_,rfl,λw=>?_⟩
 rw[binOp_eql];rfl
 rw[binOp_neq];rfl
 rw[binOp_lss];rfl
 rw[binOp_leq];rfl
 rw[binOp_gtr];rfl
 rw[binOp_geq];rfl
def br(x:o):Prop:= -9223372036854775808<=x/\x<=9223372036854775807
def aEA{x:o}(h:br x):ci.wrap x=x:=by obtain⟨h1,h2⟩:=h;simp only[cw,F4,F5];simp only[Bool.true_and,Jf,ge_iff_le];split<;>omega
def Qc(wrap:aI)(op:BinOp)(k:xw)(a b:o)(f:o->Prop):Prop:=
 let r:ay o:=match op with
  | .add=>some (a+b)| .sub=>some (a-b)| .mul=>some (a*b)|_=>none
 match r with
 |some Y=>match k,wrap with
  | .i64,ax=>br Y/\f Y|k,_=>f (k.wrap Y)
 |none=>match op with
  | .quo=>b≠0/\(match k,wrap with
   | .i64,ax=>br (a.tdiv b)/\f (a.tdiv b)|k,_=>f (k.wrap (a.tdiv b)))
  | .rem=>b≠0/\f (a.tmod b)| .shl=>0<=b/\f (k.wrap (a*2 ^ (min b.toNat k.bits)))| .shr=>0<=b/\f (a.fdiv (2 ^ (min b.toNat k.bits)))| .and=>f (bits .and k a b)| .or=>f (bits .or k a b)| .xor=>f (bits .xor k a b)| .andNot=>f (bits .andNot k a b)|_=>ej
def an1{wrap:aI}{op:BinOp}{k:xw}{a b:o}{f:o->Prop}(h:Qc wrap op k a b f)(P:dR)(t:dC)(dQ:xw)
  (hk:dQ=k∨op=.shl∨op=.shr):
  ∃Y,f Y/\∀w,(binOp op t (.int k a) (.int dQ b)).run P w=.ok (.int k Y) w:=by
 have two:∀Y,(match k,wrap with| .i64,ax=>br Y/\f Y|k,_=>f (k.wrap Y))->f (k.wrap Y):=by intro Y aB;cases k<;>cases wrap<;>first|exact aB|(rw[aEA aB.1];exact aB.2)
 unfold Qc at h
 cases op<;>simp only[] at h
 case add=>
  obtain rfl:dQ=k:=by simpa using hk
  exact⟨_,two _ h,λw=>by rw[binOp_add];rfl⟩
 case sub=>
  obtain rfl:dQ=k:=by simpa using hk
  exact⟨_,two _ h,λw=>by rw[binOp_sub];rfl⟩
 case mul=>
  obtain rfl:dQ=k:=by simpa using hk
  exact⟨_,two _ h,λw=>by rw[binOp_mul];rfl⟩
 case quo=>
  obtain rfl:dQ=k:=by simpa using hk
  exact⟨_,two _ h.2,λw=>by rw[binOp_quo];simp[Op.intDiv,h.1]⟩
 case rem=>
  obtain rfl:dQ=k:=by simpa using hk
  exact⟨_,h.2,λw=>by rw[binOp_rem];simp[Op.intDiv,h.1]⟩
 case and=>
  obtain rfl:dQ=k:=by simpa using hk
  exact⟨_,h,λw=>by rw[binOp_and,intBits_and];rfl⟩
 case or=>
  obtain rfl:dQ=k:=by simpa using hk
  exact⟨_,h,λw=>by rw[binOp_or,intBits_or];rfl⟩
 case xor=>
  obtain rfl:dQ=k:=by simpa using hk
  exact⟨_,h,λw=>by rw[binOp_xor,intBits_xor];rfl⟩
 case andNot=>
  obtain rfl:dQ=k:=by simpa using hk
  exact⟨_,h,λw=>by rw[binOp_andNot,intBits_andNot];rfl⟩
 case shl=>
  refine⟨_,h.2,λw=>?_⟩;rw[binOp_shl];have:¬b<0:=by omega
  simp[Op.shift,this]
 case shr=>
  refine⟨_,h.2,λw=>?_⟩;rw[binOp_shr];have:¬b<0:=by omega
  simp[Op.shift,this]
structure BO where
 p:Prop
 d:Decidable p
def Ho{α:Type}(x:ay α):Decidable (x=none):=
 match x with
 |none=>.isTrue rfl|some _=>.isFalse (by simp)
def KX:ao->ao->ay BO
 | .int k a,.int dQ b=>match yM k dQ with
  |true=>some ⟨a=b,s6⟩|false=>none
 |_,_=>none
def KY:J (N×N)->N->ay N
 | [],_=>none|(t,n)::r,x=>match ji t x with
  |true=>some n|false=>KY r x
def yf:J ao->J ao->ay BO
 | [],[]=>some ⟨True,s6⟩| [x],[y]=>KX x y|x::xs,y::eD=>match KX x y,yf xs eD with
  |some a,some b=>some ⟨a.p/\b.p,@instDecidableAnd a.p b.p a.d b.d⟩|_,_=>none
 |_,_=>none
def Qh:fB->ay aI
 | .v (.bool b)=>some b| .jL=>some ak| .jP=>some ax| .dec p d=>some (@decide p d)| .uo p d=>some (!@decide p d)|_=>none
def ZE:BinOp->aI
 | .shl=>ak| .shr=>ak|_=>ax
def KZ(C:kZ)(t:dC):fB->fB->ay BO
 | .v (.pointer p),.v (.pointer none)=>match C.P.underlying t with
  |some (.pointer _)=>some ⟨p=none,Ho p⟩|_=>none
 | .ptr _,.v (.pointer none)=>match C.P.underlying t with
  |some (.pointer _)=>some ⟨ej,s6⟩|_=>none
 | .v (.slice a _ _),.v (.slice none _ _)=>match C.P.underlying t with
  |some (.slice _)=>some ⟨a=none,Ho a⟩|_=>none
 | .v (.map a),.v (.map none)=>match C.P.underlying t with
  |some (.map _ _)=>some ⟨a=none,Ho a⟩|_=>none
 | .v (.agg xs),.v (.agg eD)=>match KY C.h9 t with
  |some n=>match ji xs.toList.length n,ji eD.toList.length n with
   |true,ak=>yf xs.toList eD.toList|_,_=>none
  |none=>none
 | .v (.string x),.v (.string y)=>some ⟨x.toList=y.toList,s6⟩|x,y=>match Qh x,Qh y,C.P.underlying t with
  |some a,some b,some .bool=>some ⟨a=b,s6⟩|_,_,_=>none
def _root_.Go.Addr.at'(p:ba):N->ba
 |0=>p|i+1=>p.add (i+1)
def Su(u:H)(p:ba):N->J aK->(J ao->Prop)->Prop
 |_,[],f=>f []|i,t::ca,f=>∃x:t.den,u.cell? (p.at' i)=some (t.enc x)/\Su u p (i+1) ca λvs=>f (t.enc x::vs)
def bj.mk:bj->J ao->ao
 | .one _,v::_=>v| .one _,[]=>.tuple #[]| .agg _,vs=>.agg vs.toArray
def wr:cu ao->N->J ao->cu ao
 |c,_,[]=>c|c,z,v::vs=>wr (c.setIfInBounds z v) (z+1) vs
def H.aN(u:H)(p:ba)(vs:J ao)(f:H->Prop):Prop:=
 ∃(c:cu ao) (T:dC),u p.block=some (.cells c T (0,0))/\p.spot=none/\p.off+vs.length<=c.size/\(∀v∈vs,v.oneCell'=ak)/\
  f (u.ins p.block (.cells (wr c p.off vs) T (0,0)))
def over(cs:J ao)(off:N)(vs:J ao):J ao:=cs.take off++vs++cs.drop (off+vs.length)
def NN:J ao->aI
 | []=>ak|v::vs=>v.oneCell' && NN vs
def tg{α:Type}:J α->N->α->J α
 | [],_,_=>[]|_::xs,0,y=>y::xs|x::xs,i+1,y=>x::tg xs i y
def NM(P:dR)(t:dC)(f:N):ay N:=
 match P.underlying t with
 |some (.struct aU)=>match aU[f]? with
  |some g=>match xQ P g.type with
   |some (_+1)=>some g.offset|_=>none
  |none=>none
 |_=>none
def gA(l:J N)(x:N):aI:=l.any (ji x)
def Pf(s:aN)(xs:cu jw):ay (J ao):=xs.toList.mapM s.val
def hL(P:dR)(fv:ao)(args:cu ao)(ss:J bj)(u:H)(K:hd (gD ss) (H->Prop)):Prop:=
 ∃f pre cap,fv=.func (.func f) pre cap/\(∃fn,P.funcs[f]?=some fn/\fn.body.isSome=ak)/\ie P f (pre++args++cap) ss u K
def zB(P:dR)(fv:ao)(args:cu ao)(ss:J bj)(u:H)(K:hd (gD ss) (H->Prop)):Prop:=
 ∃l,fv=.func (.yield l) #[] #[]/\∀w,Sub u w->YieldAt uy 0 P l args w λe w'=>∃v u',e=.returned v/\(∃vs,pr (gD ss) vs/\v=wI ss vs/\hG (gD ss) K vs λr=>r u')/\Step u [] w u' [] w'
def tm(P:dR)(fv:ao)(args:cu ao)(ss:J bj)(u:H)(K:hd (gD ss) (H->Prop)):Prop:=hL P fv args ss u K∨zB P fv args ss u K
def mJ(P:dR)(recv:ao)(name:String)(args:cu ao)(ss:J bj)(u:H)(K:hd (gD ss) (H->Prop)):Prop:=
 ∃t v f r,recv=.iface t v/\(∀w,Sub u w->(method (P.types.size+uz) t v name).run P w=.ok (f,r) w)/\
  (∃fn,P.funcs[f]?=some fn/\fn.body.isSome=ak)/\ie P f (#[r]++args) ss u K
def zP(f:ju)(args:cu ao):Sem ao:=do
 match <-qw f args with
 | .value v=>pure v|_=>stuck "callX"
def unit(m:Sem Unit):Sem ao:=do
 m
 pure hQ
def hl(P:dR)(f:ju):aI:=
 match P.funcs[f]? with
 |some fn=>fn.body.isSome|none=>ax
def ajo(P:dR)(f:ju):aI:=
 match P.funcs[f]? with
 |some fn=>fn.body.isNone|none=>ax
def GA(s:aN)(z:eF):ay (Sem ao):=
 match z.op with
 | .lookup t x i ok=>some (gK t (s.hU x) (s.hU i) ok)| .mapUpdate t m k x=>some (unit (kV t (s.hU m) (s.hU k) (s.hU x)))| .insert t m k x=>some (unit (kV t (s.hU m) (s.hU k) (s.hU x)))| .makeMap t none=>some (pO t none)| .makeMap t (some r)=>some (pO t (some (s.hU r)))| .makeSlice t l c=>some (pP t (s.hU l) (s.hU c))| .slice t x bJ hi ND=>some (fR t (s.hU x) (bJ.map s.hU) (hi.map s.hU) (ND.map s.hU))| .index t x i=>some (Instr.index t (s.hU x) (s.hU i))| .convert a b x=>some (Go.convert a b (s.hU x))| .buildSlice t n c3=>some (dA t n (c3.map λ(i,x)=>(i,s.hU x)))| .typeAssert x a b ok=>some (s7 (s.hU x) a b ok)| .range t x=>some (rq t (s.hU x))| .next i str=>some (NX (s.hU i) str z.type)| .entry i=>some (Instr.entry (s.hU i))| .mapEntry t m k=>some (Instr.mapEntry t (s.hU m) (s.hU k))| .entryStore t m k x=>some (unit (Instr.entryStore t (s.hU m) (s.hU k) (s.hU x)))| .call c=>match c.callee with
  | .builtin .append=>some (dW c.argTypes z.type (c.args.map s.hU))| .builtin .copy=>some (Builtin.copy_ c.argTypes z.type (c.args.map s.hU))| .builtin .delete=>some (s8 c.argTypes z.type (c.args.map s.hU))| .builtin .len=>some (rr c.argTypes z.type (c.args.map s.hU))| .builtin .max=>some (Builtin.max_ c.argTypes z.type (c.args.map s.hU))| .builtin .min=>some (Builtin.min_ c.argTypes z.type (c.args.map s.hU))| .builtin .clear=>some (pQ c.argTypes z.type (c.args.map s.hU))| .value (.func f)=>some (zP f (c.args.map s.hU))|_=>none
 |_=>none
def isUnit:Op->aI
 | .mapUpdate ..| .insert ..| .entryStore ..=>ak| .call c=>match c.callee with
  | .builtin .delete| .builtin .clear=>ak|_=>ax
 |_=>ax
def ayv(P:dR)(z:eF):ay (J bj):=
 match isUnit z.op with
 |true=>some []|false=>match z.op with
  | .alloc _| .buildSlice _ _ _=>OG P z.type|_=>OG P z.type
def sy(s:aN)(dst:ay Tmp)(ss:J bj)(K:aN->H->Prop):hd (gD ss) (H->Prop):=
 Nv (gD ss) λvs u'=>K (s.put dst (.v (wI ss vs))) u'
def other(C:kZ)(s:aN)(z:eF)(u:H)(K:aN->H->Prop):Prop:=
 match y4 C.P s z with
 |some v=>K (s.put z.dst (.v v)) u|none=>match known s z,GA s z,ayv C.P z with
  |true,some m,some ss=>c4 C.P m ss u (sy s z.dst ss K)|_,_,_=>ej
def wc(C:kZ)(bz:N->aI)(s:aN)(z:eF)(u:H)(K:aN->H->Prop):Prop:=
 match z.op with
 | .move x=>match s.sv x with
  |some y=>K (s.put z.dst y) u|none=>ej
 | .assign x=>match s.sv x with
  |some y=>K (s.put z.dst y) u|none=>ej
 | .pick c a b=>match s.sv c,s.sv a,s.sv b with
  |some .jL,some y,_=>K (s.put z.dst y) u|some .jP,_,some y=>K (s.put z.dst y) u|some (.dec p _),some y,some Y=>(p->K (s.put z.dst y) u)/\(¬p->K (s.put z.dst Y) u)|some (.uo p _),some y,some Y=>(¬p->K (s.put z.dst y) u)/\(p->K (s.put z.dst Y) u)|_,_,_=>ej
 | .binOp op t x y _=>match s.sv x,s.sv y with
  |some (.v (.int k a)),some (.v (.int dQ b))=>match Qo op a b with
   |some Y=>match yM dQ k with
    |true=>K (s.put z.dst Y) u|false=>ej
   |none=>match ZE op ||yM dQ k with
    |true=>Qc C.wrap op k a b λY=>K (s.put z.dst (.v (.int k Y))) u|false=>ej
  |some a,some b=>match op with
   | .eql=>match KZ C t a b with
    |some Y=>K (s.put z.dst (.dec Y.p Y.d)) u|none=>ej
   | .neq=>match KZ C t a b with
    |some Y=>K (s.put z.dst (.uo Y.p Y.d)) u|none=>ej
   |_=>other C s z u K
  |_,_=>ej
 | .unOp .not _ x=>match s.sv x with
  |some .jL=>K (s.put z.dst .jP) u|some .jP=>K (s.put z.dst .jL) u|some (.dec p d)=>K (s.put z.dst (.uo p d)) u|some (.uo p d)=>K (s.put z.dst (.dec p d)) u|some (.v (.bool b))=>K (s.put z.dst (.uo (b=ak) s6)) u|_=>ej
 | .load t x=>match s.sv x,qH C.P t with
  |some (.loc i off),some aG=>match s.loc[i]? with
   |some cs=>match vM (off+aG.h8.length) cs.length with
    |true=>K (s.put z.dst (.v (aG.mk ((cs.drop off).take aG.h8.length)))) u|false=>ej
   |none=>ej
  |some (.ptr p),some aG=>Su u p 0 aG.h8 λvs=>K (s.put z.dst (.v (aG.mk vs))) u|_,_=>ej
 | .store t x y=>match s.sv x,s.val y,qH C.P t with
  |some (.loc i off),some v,some aG=>match s.loc[i]?,bz i,ji v.cells.size aG.h8.length,NN v.cells.toList with
   |some cs,ak,ak,ak=>match vM (off+aG.h8.length) cs.length with
    |true=>K ({s with loc:=tg s.loc i (over cs off v.cells.toList)}.drop z.dst) u
    |false=>ej
   |_,_,_,_=>ej
  |some (.ptr p),some v,some aG=>match ji v.cells.size aG.h8.length with
   |true=>u.aN p v.cells.toList λu'=>K (s.drop z.dst) u'|false=>ej
  |_,_,_=>ej
 | .alloc t=>match zeroOf C.P t,z.dst with
  |some cs,some d=>match gA C.exp d with
   |true=>∀b,u b=none->K (s.put (some d) (.ptr ⟨b,0,none⟩)) (u.ins b (.cells cs.toArray t (0,0)))|false=>K ({s with loc:=s.loc++ [cs]}.put (some d) (.loc s.loc.length 0)) u
  |_,_=>ej
 | .box t x=>match s.val x,z.dst with
  |some v,some d=>match gA C.exp d with
   |true=>∀b,u b=none->K (s.put (some d) (.ptr ⟨b,0,none⟩)) (u.ins b (.cells v.cells.toList.toArray t (0,0)))|false=>K ({s with loc:=s.loc++ [v.cells.toList]}.put (some d) (.loc s.loc.length 0)) u
  |_,_=>ej
 | .nilCheck x=>match s.sv x with
  |some (.loc i off)=>K (s.put z.dst (.loc i off)) u|some (.ptr p)=>K (s.put z.dst (.ptr p)) u|some (.v (.pointer q))=>∃p,q=some p/\K (s.put z.dst (.ptr p)) u|_=>ej
 | .fieldAddr t x f=>match s.sv x,NM C.P t f with
  |some (.loc i off),some n=>K (s.put z.dst (.loc i (off+n))) u|some (.ptr p),some n=>K (s.put z.dst (.ptr (p.at' n))) u|_,_=>ej
 | .indexAddr t x bp=>match C.P.underlying t with
  |some (.slice e)=>match s.sv x,s.sv bp,xQ C.P e with
   |some (.v (.slice a n _)),some (.v (.int _ i)),some hr=>∃p,a=some p/\(0<=i/\i<n)/\K (s.put z.dst (.ptr (p.add (i.toNat*hr)))) u|_,_,_=>ej
  |some (.array len e)=>match s.sv x,s.sv bp,xQ C.P e with
   |some (.loc j off),some (.v (.int _ (.ofNat m))),some (hr+1)=>match xx m len with
    |true=>K (s.put z.dst (.loc j (off+m*(hr+1)))) u|false=>ej
   |some (.ptr p),some (.v (.int _ i)),some hr=>2<=len/\(0<=i/\i<len)/\K (s.put z.dst (.ptr (p.add (i.toNat*hr)))) u|_,_,_=>ej
  |_=>ej
 | .call c=>match Pf s c.args,OG C.P z.type with
  |some vs,some ss=>match c.callee with
   | .value (.func f)=>match hl C.P f with
    |true=>ie C.P f vs.toArray ss u (sy s z.dst ss K)|false=>match ajo C.P f with
     |true=>c4 C.P (zP f vs.toArray) ss u (sy s z.dst ss K)|false=>ej
   | .value x=>match s.sv x with
    |some (.v fv)=>hL C.P fv vs.toArray ss u (sy s z.dst ss K)|_=>ej
   | .invoke x name=>match s.sv x with
    |some (.v r)=>mJ C.P r name vs.toArray ss u (sy s z.dst ss K)|_=>ej
   | .builtin _=>other C s z u K
  |_,_=>ej
 |_=>other C s z u K
structure Good(C:kZ):Prop where
 awR:∀(f:ju) (fn:Func),C.P.funcs[f]?=some fn->(fn.name== "runtime.NumGoroutine")=ax
 mixed:C.P.follows .mixedOrders=ak
 eq:∀t n,KY C.h9 t=some n->∀xs eD Y,xs.toList.length=n->eD.toList.length=n->yf xs.toList eD.toList=some Y->∀(x y:jw) (w:b6),
  (eqGuard .eql t x y (.agg xs) (.agg eD)).run C.P w=.ok () w/\(eqGuard .neq t x y (.agg xs) (.agg eD)).run C.P w=.ok () w/\
  (Op.equal t (.agg xs) (.agg eD)).run C.P w=.ok (@decide Y.p Y.d) w
structure Kept(bz:N->aI)(s ap:aN):Prop where
 n:ap.n=s.n
 len:s.loc.length<=ap.loc.length
 same:∀i cs,s.loc[i]?=some cs->bz i=ax->ap.loc[i]?=some cs
def Kept.refl(bz:N->aI)(s:aN):Kept bz s s:=⟨rfl,cg _,λ_ _ h _=>h⟩
def Kept.trans{bz:N->aI}{a b c:aN}(h:Kept bz a b)(k:Kept bz b c):Kept bz a c:=
 ⟨k.n.trans h.n,jv h.len k.len,λi cs e w=>k.same i cs (h.same i cs e w) w⟩
def mD(s:aN)(d:ay Tmp)(x:fB):(s.put d x).loc=s.loc/\(s.put d x).n=s.n:=by
 cases d with
 |none=>exact⟨rfl,rfl⟩|some d=>simp only[aN.put];split<;>exact⟨rfl,rfl⟩
def Wb(s:aN)(d:ay Tmp):(s.drop d).loc=s.loc/\(s.drop d).n=s.n:=by cases d<;>exact⟨rfl,rfl⟩
def Kept.put(bz:N->aI)(s:aN)(d:ay Tmp)(x:fB):Kept bz s (s.put d x):=
 ⟨(mD s d x).2,by rw[(mD s d x).1];exact cg _,λi cs h _=>by rw[(mD s d x).1];exact h⟩
def Kept.drop(bz:N->aI)(s:aN)(d:ay Tmp):Kept bz s (s.drop d):=
 ⟨(Wb s d).2,by rw[(Wb s d).1];exact cg _,λi cs h _=>by rw[(Wb s d).1];exact h⟩
def lT(bz:N->aI)(K:aN->H->Prop)(s:aN)(bs:J N)(u:H)(a:eo)(w:b6)(dst:ay Tmp)(cM:eo)(w':b6):Prop:=
 ∃ap u' c5 v,K ap u'/\Fits ap c5 u' cM w'/\Step u bs w u' c5 w'/\cM=a.put dst v/\Kept bz s ap
section
variable {C:kZ} {bz:N->aI} {s:aN} {z:eF} {u:H} {K:aN->H->Prop} {bs:J N} {a:eo} {w:b6} {Q:kz->eo->b6->Prop}
def y2{v:ao}{y:fB}(ac:Fits s bs u a w)(O:(fy a.eval z).run C.P w=.ok (.value v) w)(I:hj bs y=some v)(hk:K (s.put z.dst y) u):
  z.wp C.P a w (lT bz K s bs u a w z.dst) Q:=by
 unfold C6
 rw[O]
 exact⟨_,u,bs,v,hk,ac.put z.dst I,Step.refl ac.sub,rfl,Kept.put bz s z.dst y⟩
def NL{v:ao}{u':H}(ac:Fits s bs u a w)(O:(fy a.eval z).run C.P w=.ok (.value v) w')(ag:Step u [] w u' [] w')(hk:K (s.put z.dst (.v v)) u'):
  z.wp C.P a w (lT bz K s bs u a w z.dst) Q:=by
 unfold C6
 rw[O]
 exact⟨_,u',bs,v,hk,(ac.step ag).put z.dst (x:=.v v) rfl,ag.L0 bs,rfl,Kept.put bz s z.dst _⟩
def uY(C:kZ)(s:aN)(z:eF)(u:H)(K:aN->H->Prop)(bs:J N)(a:eo):Prop:=
 ∃y v,K (s.put z.dst y) u/\hj bs y=some v/\∀w,(fy a.eval z).run C.P w=.ok (.value v) w
def o8(ac:Fits s bs u a w)(h:uY C s z u K bs a):z.wp C.P a w (lT bz K s bs u a w z.dst) Q:=by obtain⟨y,v,hk,I,O⟩:=h;exact y2 ac (O w) I hk
def P3(C:kZ)(s:aN)(z:eF)(u:H)(K:aN->H->Prop)(bs:J N)(a:eo):Prop:=
 ∃y v,K (s.put z.dst y) u/\hj bs y=some v/\∀w,jl s.loc bs u w->(fy a.eval z).run C.P w=.ok (.value v) w
def ajs(ac:Fits s bs u a w)(h:P3 C s z u K bs a):z.wp C.P a w (lT bz K s bs u a w z.dst) Q:=by obtain⟨y,v,hk,I,O⟩:=h;exact y2 ac (O w ac.w) I hk
def aaq{m:Sem ao}{ss:J bj}(ac:Fits s bs u a w)(h:c4 C.P m ss u (sy s z.dst ss K))
  (O:∀v w',m.run C.P w=.ok v w'->(fy a.eval z).run C.P w=.ok (.value v) w'∨(fy a.eval z).run C.P w=.ok .skip w'/\v=hQ):
  z.wp C.P a w (lT bz K s bs u a w z.dst) Q:=by
 obtain⟨v,w',u',e,⟨vs,aA,rfl,aq⟩,ag⟩:=h w ac.sub
 have mr:K (s.put z.dst (.v (wI ss vs))) u':=(O5 aA _).1 aq
 rcases O _ _ e with h1|⟨h1,h2⟩
 exact NL ac h1 ag mr
 unfold C6
 rw[h1]
 rw[h2] at mr
 exact⟨_,u',bs,hQ,mr,(ac.step ag).put z.dst (x:=.v hQ) rfl,ag.L0 bs,rfl,Kept.put bz s z.dst _⟩
def aap{args:cu ao}{ss:J bj}(ac:Fits s bs u a w)(h:ie C.P f args ss u (sy s z.dst ss K))
  (O:(fy a.eval z).run C.P w=.ok (.enter f args) w):z.wp C.P a w (lT bz K s bs u a w z.dst) Q:=by
 unfold C6
 rw[O]
 refine(h w ac.sub).mono ?_
 rintro e w' ⟨v,u',rfl,⟨vs,aA,rfl,aq⟩,ag⟩
 have mr:K (s.put z.dst (.v (wI ss vs))) u':=(O5 aA _).1 aq
 exact⟨_,u',bs,_,mr,(ac.step ag).put z.dst (x:=.v _) rfl,ag.L0 bs,rfl,Kept.put bz s z.dst _⟩
def amv(ac:FitsE s bs a){xs:cu jw}(h:Pf s xs=some vs):xs.map a.eval=vs.toArray:=by
 unfold Pf at h;have key:∀(l:J jw) (vs:J ao),l.mapM s.val=some vs->l.map a.eval=vs:=by
  intro l;induction l with
  |nil=>intro vs h;simp at h;subst h;rfl
  |cons x l aL=>intro vs h;simp only[aaF,Option.bind_eq_bind,aaG,Option.pure_def,j2] at h;obtain⟨y,ah,eD,Zu,rfl⟩:=h;simp only[gl,aL eD Zu,ac.val ah]
 apply C7;simp only[Array.toList_map];exact key _ _ h
def af8(h:hl P f=ak):∃fn,P.funcs[f]?=some fn/\fn.body.isSome=ak:=by unfold hl at h;split at h;rename_i fn e;exact⟨fn,e,h⟩;cases h
def Ql(ft:Good C)(h:∃fn,C.P.funcs[f]?=some fn/\fn.body.isSome=ak)(args:cu ao)(w:b6):
  (qw f args).run C.P w=.ok (.enter f args) w:=by
 obtain⟨fn,e,Z⟩:=h
 have h1:=ft.awR f fn e
 obtain⟨b,eH⟩:=Je.1 Z
 simp only[qw,eS,program,rp,jx,e]
 simp[h1,eH]
def ayu(ag:∀cs b,z.op≠.select cs b)(ac:FitsE s bs a)(hk:known s z=ak){m:Sem ao}(hm:GA s z=some m){v:ao}(O:m.run C.P w=.ok v w'):
  (fy a.eval z).run C.P w=.ok (.value v) w'∨(fy a.eval z).run C.P w=.ok .skip w'/\v=hQ:=by
 have hu:∀x:Sem Unit,(unit x).run C.P w=.ok v w'->(do x;pure Next.skip:Sem Next).run C.P w=.ok .skip w'/\v=hQ:=by
  intro x M;simp only[unit,eS] at M ⊢;cases aiv:x.run C.P w with
  |ok Y dK=>rw[aiv] at M;simp only[jx] at M ⊢;cases M;exact⟨rfl,rfl⟩
  |halt Y dK=>rw[aiv] at M;simp at M
 have aA:∀x:Sem ao,x.run C.P w=.ok v w'->(do pure (Next.value (<-x)):Sem Next).run C.P w=.ok (.value v) w':=by intro x M;simp only[eS,M,jx];rfl
 rw[aeW ac ag hk]
 unfold GA at hm
 unfold fy
 split at hm
 all_goals try(rename_i e;rw[e];cases hm;simp only[])
 case _=>exact .inl (aA _ O)
 case _=>exact .inr (hu _ O)
 case _=>exact .inr (hu _ O)
 case _=>exact .inl (aA _ O)
 case _=>exact .inl (aA _ O)
 case _=>exact .inl (aA _ O)
 case _=>exact .inl (aA _ O)
 case _=>exact .inl (aA _ O)
 case _=>exact .inl (aA _ O)
 case _=>exact .inl (aA _ O)
 case _=>exact .inl (aA _ O)
 case _=>exact .inl (aA _ O)
 case _=>exact .inl (aA _ O)
 case _=>exact .inl (aA _ O)
 case _=>exact .inl (aA _ O)
 case _=>exact .inr (hu _ O)
 case _ c e=>
  rw[e];simp only[];split at hm
  all_goals try(rename_i I;cases hm;left;simp only[resolve,I,pure_bind,invoke,builtin];exact aA _ O)
  rename_i f I;cases hm;left;simp only[resolve,I,aN.hU,aN.val,aN.sv,SN,fB.val,Jg,SO,pure_bind,invoke,Array.append_empty,Array.empty_append];simp only[zP,eS] at O;cases M:(qw f (Array.map s.hU c.args)).run C.P w with
  |halt Y dK=>rw[M] at O;simp at O|ok Y dK=>
   rw[M] at O;simp only[jx] at O;cases Y<;>simp only[] at O<;>first
    |(have CG:xy _ dK=xy v w':=O;cases CG;rfl)
    |(simp[stuck] at O)
  cases hm
 case _=>cases hm
def aju(ag:∀cs b,z.op≠.select cs b)(ac:Fits s bs u a w)(h:other C s z u K):z.wp C.P a w (lT bz K s bs u a w z.dst) Q:=by unfold other at h;split at h;rename_i v e;exact y2 (y:=.v v) ac (ajF ac.toFitsE e w) rfl h;split at h;rename_i hk hm fk;exact aaq ac h λv w' O=>ayu ag ac.toFitsE hk hm O;exact h.elim
def adV(p:ba)(i:N):p.at' i=p.add i:=by
 cases i with
 |zero=>simp[ba.at',ep]|succ i=>rfl
def avY{p:ba}:∀(ca:J aK) (i:N) (f:J ao->Prop),Su u p i ca f->
  ∃vs,pr ca vs/\f vs/\∀w acc,Sub u w->(loadCellsFrom p i ca.length acc).run P w=.ok (acc++vs.toArray) w:=by
 intro ca
 induction ca with
 |nil=>intro i f h;exact⟨[],.nil,h,λw acc _=>by simp[loadCellsFrom]⟩
 |cons t ca aL=>intro i f h;obtain⟨x,M,O⟩:=h;obtain⟨vs,hk,EL,mV⟩:=aL (i+1) _ O;refine⟨t.enc x::vs,.cons x hk,EL,λw acc gH=>?_⟩;rw[adV] at M;have h1:=gH.cell M;simp only[h5,loadCellsFrom,eS,load,rp,h1,jx];rw[mV w _ gH];simp
def avS{ca:J aK}(h:pr ca vs):vs.length=ca.length:=by
 induction h with
 |nil=>rfl|cons _ _ aL=>simp[aL]
def abH{aG:bj}(h:qH P t=some aG):
  ∃i d,P.info? t=some i/\P.underlying t=some d/\i.size=aG.h8.length/\
   (∀w,(isAgg t).run P w=.ok (match aG with| .one _=>ax| .agg _=>ak) w):=by
 unfold qH at h
 split at h
 rename_i i hi
 split at h
 rename_i cs d aB aw
 split at h
 rename_i aE Z
 cases h
 refine⟨i,d,hi,by assumption,?_,?_⟩
 have:=l1 Z;simp[bj.h8,this]
 intro w
 unfold qQ at aE
 rw[aw] at aE
 simp only[isAgg,eS,underlying,program,rp,jx,aw]
 cases d<;>simp_all
 cases h
 rename_i Y d _ _ _
 have aw:P.underlying t=some d:=by assumption
 split at h
 rename_i aE Z
 cases h
 refine⟨i,d,hi,by assumption,?_,?_⟩
 have:=l1 Z;simp[bj.h8,<-this]
 intro w
 unfold qQ at aE
 rw[aw] at aE
 simp only[isAgg,eS,underlying,program,rp,jx,aw]
 cases d<;>simp_all
 cases h
 cases h
 cases h
def OH{i:TypeInfo}(h:P.info? t=some i)(w:b6):(sizeOf t).run P w=.ok i.size w:=by simp[sizeOf,typeInfo,program,rp,h]
def IW{aG:bj}(h:qH P t=some aG)(p:ba)(hk:vs.length=aG.h8.length)
  (O:(loadCellsFrom p 0 aG.h8.length #[]).run P w=.ok vs.toArray w) (hw:∀c,aG=.one c->∃v,vs=[v]/\w.cell? p=some v):
  (loadVar t p).run P w=.ok (aG.mk vs) w:=by
 obtain⟨i,d,hi,aw,cY,aE⟩:=abH h
 unfold loadVar
 rw[eS,aE]
 cases aG with
 |one c=>obtain⟨v,rfl,aA⟩:=hw c rfl;simp[load,rp,aA,bj.mk]
 |agg cs=>simp only[jx,qx,eS,OH hi,loadCells,cY];rw[O];simp[bj.mk]
structure sq(b:N)(z:Obj)(w w':b6):Prop where
 at_:w'.heap[b]?=some z
 size:w'.heap.size=w.heap.size
 os:w'.os=w.os
 tape:w'.tape=w.tape
 output:w'.output=w.output
 drawn:w.drawn<=w'.drawn
 rest:∀x,x≠b->w'.heap[x]?=w.heap[x]?
def sq.refl{z:Obj}{w:b6}(h:w.heap[b]?=some z):sq b z w w:=⟨h,rfl,rfl,rfl,rfl,cg _,λ_ _=>rfl⟩
def sq.trans{z b5:Obj}{w Pl:b6}(h:sq b z w w')(k:sq b b5 w' Pl):sq b b5 w Pl:=
 ⟨k.at_,k.size.trans h.size,k.os.trans h.os,k.tape.trans h.tape,k.output.trans h.output,jv h.drawn k.drawn,λx M=>(k.rest x M).trans (h.rest x M)⟩
def sq.setCell{c:cu ao}{w:b6}(h:w.heap[b]?=some (.cells c T (0,0)))(v:ao):
  sq b (.cells (c.setIfInBounds off v) T (0,0)) w (w.setCell ⟨b,off,none⟩ v):=by
 refine⟨?_,by simp[aaH],rfl,rfl,rfl,cg _,λx M=>?_⟩
 simp only[aaH,SP,qx,h,uA]
 simp
 simp only[aaH,SP]
 rw[az (λe=>M e.symm)]
def acb:∀(vs:J ao) (i:N) (c:cu ao) (w:b6),w.heap[b]?=some (.cells c T (0,0))->
  off+i+vs.length<=c.size->(∀v∈vs,v.oneCell'=ak)->∃w',(storeCells ⟨b,off,none⟩ vs i).run P w=.ok () w'/\sq b (.cells (wr c (off+i) vs) T (0,0)) w w':=by
 intro vs
 induction vs with
 |nil=>intro i c w h _ _;exact⟨w,rfl,.refl h⟩
 |cons v vs aL=>
  intro i c w h ar h1;simp only[h5] at ar;have hw:=sq.setCell (off:=off+i) h v;obtain⟨w',O,kT⟩:=aL (i+1) _ _ hw.at_ (by simp;omega) (λx M=>h1 x (.tail _ M));refine⟨w',?_,?_⟩;have aE:(⟨b,off,none⟩:ba).add i=⟨b,off+i,none⟩:=by unfold ep;split<;>simp_all
  have I:w.cell? ⟨b,off+i,none⟩=some c[off+i]:=by simp only[Jc,h];simp[xz (show off+i<c.size by omega)]
  have LW:w.frozen? ⟨b,off+i,none⟩=ax:=by simp[F6,h]
  simp only[storeCells,eS,aE];rw[run_store P w _ v _ (h1 v (.head _)),I];simp only[LW,xA,xB,jx];exact O;have:=hw.trans kT;simpa[wr,Nat.add_assoc] using this
def alW{i:TypeInfo}(hi:P.info? t=some i){v:ao}(cY:v.cells.size=i.size){c:cu ao}{w:b6}
  (h:w.heap[b]?=some (.cells c T (0,0))) (ar:off+v.cells.toList.length<=c.size) (h1:∀x∈v.cells.toList,x.oneCell'=ak):
  ∃w',(storeVar t ⟨b,off,none⟩ v).run P w=.ok () w'/\sq b (.cells (wr c off v.cells.toList) T (0,0)) w w':=by
 obtain⟨w',O,hw⟩:=acb (P:=P) (off:=off) v.cells.toList 0 c w h (by simpa using ar) h1
 refine⟨w',?_,by simpa using hw⟩
 unfold storeVar
 rw[eS,OH hi]
 simp only[jx,cY,ne_eq,not_true_eq_false,xB]
 exact O
def ai3{cs:J ao}{w:b6}(h:w.heap[b]?=some (.cells cs.toArray T (0,0))):∀(n i:N) (acc:cu ao),
  off+i+n<=cs.length->(loadCellsFrom ⟨b,off,none⟩ i n acc).run P w=.ok (acc++((cs.drop (off+i)).take n).toArray) w:=by
 intro n
 induction n with
 |zero=>intro i acc _;simp[loadCellsFrom]
 |succ n aL=>
  intro i acc ar;have aE:(⟨b,off,none⟩:ba).add i=⟨b,off+i,none⟩:=by unfold ep;split<;>simp_all
  have bC:off+i<cs.length:=by omega
  have I:w.cell? ⟨b,off+i,none⟩=some cs[off+i]:=by simp only[Jc,h];simp[bC]
  simp only[loadCellsFrom,eS,load,rp,aE,I,jx];rw[aL (i+1) _ (by omega)];rw[s9 bC,A2,<-Nat.add_assoc];simp
def Fits.awP(ac:Fits s bs u a w)(cs:J ao)(T:dC):
  Fits {s with loc:=s.loc++ [cs]} (bs++ [w.heap.size]) u a (w.alloc (.cells cs.toArray T (0,0)))/\
  Step u bs w u (bs++ [w.heap.size]) (w.alloc (.cells cs.toArray T (0,0))):=by
 have mA:∀(b:N) (z:Obj),w.heap[b]?=some z->(w.alloc (.cells cs.toArray T (0,0))).heap[b]?=some z:=by
  intro b z e;have bC:b<w.heap.size:=by rcases j1 b w.heap.size with k|k;exact k;rw[C5 k] at e;cases e
  show(w.heap.push _)[b]?=_;rw[SQ,az (by omega)];exact e
 refine⟨⟨⟨ac.defers,ac.n,?_⟩,by simp[ac.len],?_,?_,?_,λb z e=>mA b z (ac.sub b z e)⟩,⟨λb z e=>mA b z (ac.sub b z e),rfl,rfl,rfl,cg _,by rw[C8];omega,?_,λ_ _ e=>e,[w.heap.size],rfl,by simp⟩⟩
 intro p ad
 obtain⟨v,h1,h2⟩:=ac.env p ad
 refine⟨v,?_,h2⟩
 cases M:p.2<;>rw[M] at h1<;>first|exact h1|skip
 rename_i i off
 simp only[hj] at h1 ⊢
 split at h1
 rename_i b Z
 have bC:i<bs.length:=by rcases j1 i bs.length with k|k;exact k;rw[io k] at Z;cases Z
 rw[qy bC,Z];exact h1
 cases h1
 intro i zT e
 rcases j1 i s.loc.length with k|k
 rw[qy k] at e
 obtain⟨b,bx,h1,h2⟩:=ac.loc i zT e
 exact⟨b,bx,by rw[qy (by rw[ac.len];exact k)];exact h1,mA _ _ h2⟩
 rw[C9 k] at e
 have hi:i=s.loc.length:=by rcases aaI k with dQ|dQ;exact dQ.symm;rw[io (by simp;omega)] at e;cases e
 subst hi
 simp only[Da,A3,j2] at e
 subst e
 refine⟨w.heap.size,T,by rw[<-ac.len];simp,?_⟩
 show(w.heap.push _)[w.heap.size]?=_
 simp
 rw[gb]
 refine⟨ac.nodup,by simp,?_⟩
 intro x M y ah
 simp only[fI] at ah
 subst ah
 have:=(ac.b7 x M).2
 omega
 intro b Z
 rcases cK.1 Z with Z|Z
 exact⟨(ac.b7 b Z).1,by have:=(ac.b7 b Z).2;rw[C8];omega⟩
 simp only[fI] at Z
 subst Z
 exact⟨ac.sub.none (cg _),by rw[C8];omega⟩
 intro b Z _ _
 show(w.heap.push _)[b]?=_
 rw[SQ,az (by omega)]
def Fits.AV(ac:Fits s bs u a w)(z:Obj):
  Fits s bs (u.ins w.heap.size z) a (w.alloc z)/\Step u bs w (u.ins w.heap.size z) bs (w.alloc z):=by
 have mA:∀(b:N) (p:Obj),w.heap[b]?=some p->(w.alloc z).heap[b]?=some p:=by
  intro b p e;have bC:b<w.heap.size:=by rcases j1 b w.heap.size with k|k;exact k;rw[C5 k] at e;cases e
  show(w.heap.push _)[b]?=_;rw[SQ,az (by omega)];exact e
 have gH:Sub (u.ins w.heap.size z) (w.alloc z):=by intro b p e;unfold H.ins at e;split at e;rename_i Z;subst Z;cases e;show(w.heap.push _)[w.heap.size]?=_;simp;exact mA b p (ac.sub b p e)
 refine⟨⟨⟨ac.defers,ac.n,ac.env⟩,ac.len,?_,ac.nodup,?_,gH⟩,⟨gH,rfl,rfl,rfl,cg _,by rw[C8];omega,?_,?_,[],by simp,by simp⟩⟩
 intro i cs e
 obtain⟨b,T,h1,h2⟩:=ac.loc i cs e
 exact⟨b,T,h1,mA _ _ h2⟩
 intro b Z
 have:=ac.b7 b Z
 exact⟨by rw[H.bm u z (by omega)];exact this.1,by rw[C8];omega⟩
 intro b Z _ _
 show(w.heap.push _)[b]?=_
 rw[SQ,az (by omega)]
 intro b Z e
 rw[H.bm u z (by omega)];exact e
def abF{α:Type}(l:J α)(i:N)(y:α)(j:N):(tg l i y)[j]?=if i=j/\j<l.length then some y else l[j]?:=by
 induction l generalizing i j with
 |nil=>simp[tg]|cons x xs aL=>
  cases i with
  |zero=>cases j<;>simp[tg]
  |succ i=>cases j with
   |zero=>simp[tg]|succ j=>simp only[tg,xC,aL];simp
def TH{α:Type}(l:J α)(i:N)(y:α):(tg l i y).length=l.length:=by
 induction l generalizing i with
 |nil=>rfl|cons x xs aL=>cases i<;>simp[tg,aL]
def amP:∀(vs cs:J ao) (off:N),off+vs.length<=cs.length->wr cs.toArray off vs=(over cs off vs).toArray:=by
 intro vs;induction vs with
 |nil=>intro cs off _;simp[wr,over]
 |cons v vs aL=>
  intro cs off h;simp only[h5] at h;simp only[wr];rw[List.setIfInBounds_toArray,aL _ _ (by simp;omega)];congr 1;apply r1;intro j;simp only[over,List.getElem?_append,eC,gL,qz,F7,uB,A4,h5];have aP:min off cs.length=off:=by omega
  have aC:min (off+1) cs.length=off+1:=by omega
  rw[aP,aC];rcases SR j off with h1|h1|h1;rw[aV (by omega),aV (by omega),aV (by omega),az (by omega),aV (by omega),aV (by omega),aV (by omega)];subst h1;rw[aV (by omega),aV (by omega),aV (by omega),aV rfl,aV (by omega),aV (by omega),az (by omega)];simp;by_cases h2:j<off+(vs.length+1);rw[aV (by omega),az (by omega),aV h2,az (by omega)];have:j-off=(j-(off+1))+1:=by omega
  rw[this,xC];rw[az (by omega),az (by omega)];rw[az (by omega)];congr 1;omega
def ad8{x:fB}{b:aI}(h:Qh x=some b)(bs:J N):hj bs x=some (.bool b):=by unfold Qh at h;split at h<;>first|(cases h;rfl)|cases h
section
variable {P:dR} (d:N) {t:dC} (w:b6)
def aeU(hu:P.underlying t=some (.pointer e))(p:ay ba):(xD (d+1) t (.pointer p) (.pointer none)).run P w=.ok p.isNone w:=by simp only[xD,eS,underlying,program,rp,jx,hu];cases p<;>simp
def apW(hu:P.underlying t=some (.slice e))(a:ay ba)(n c m k:N):(xD (d+1) t (.slice a n c) (.slice none m k)).run P w=.ok a.isNone w:=by simp only[xD,eS,underlying,program,rp,jx,hu];cases a<;>simp
def apV{k:dC}(hu:P.underlying t=some (.map k e))(a:ay N):(xD (d+1) t (.map a) (.map none)).run P w=.ok a.isNone w:=by simp only[xD,eS,underlying,program,rp,jx,hu];cases a<;>simp
def apU(hu:P.underlying t=some .bool)(a b:aI):(xD (d+1) t (.bool a) (.bool b)).run P w=.ok (a==b) w:=by simp only[xD,eS,underlying,program,rp,jx,hu];rfl
end
def K0{x y:ao}{b:aI}{w:b6}(h:(xD (9999+1) t x y).run P w=.ok b w):(Op.equal t x y).run P w=.ok b w:=h
set_option maxHeartbeats 1000000 in
def apY(ft:Good C){x y:fB}{Y:BO}(h:KZ C t x y=some Y)(bs:J N){Pj Pk:ao}(M:hj bs x=some Pj)(ah:hj bs y=some Pk)(aat aau:jw)(w:b6):
  (do eqGuard .eql t aat aau Pj Pk;binOp .eql t Pj Pk:Sem ao).run C.P w=.ok (.bool (@decide Y.p Y.d)) w/\
  (do eqGuard .neq t aat aau Pj Pk;binOp .neq t Pj Pk:Sem ao).run C.P w=.ok (.bool (!@decide Y.p Y.d)) w:=by
 unfold KZ at h
 split at h
 rename_i p
 cases M;cases ah
 split at h
 rename_i e hu
 cases h
 have O:=aeU 9999 w hu p
 have aw:@decide (p=none) (Ho p)=p.isNone:=by cases p<;>simp
 simp only[eqGuard_at_pointer,pure_bind,binOp,eS]
 rw[K0 O]
 simp[aw]
 cases h
 rename_i q
 cases M;cases ah
 split at h
 rename_i e hu
 cases h
 have O:=aeU 9999 w hu (some q)
 simp only[eqGuard_at_pointer,pure_bind,binOp,eS]
 rw[K0 O]
 simp
 cases h
 rename_i a n c m k
 cases M;cases ah
 split at h
 rename_i e hu
 cases h
 have O:=apW 9999 w hu a n c m k
 have aw:@decide (a=none) (Ho a)=a.isNone:=by cases a<;>simp
 simp only[eqGuard_at_slice,pure_bind,binOp,eS]
 rw[K0 O]
 simp[aw]
 cases h
 rename_i a
 cases M;cases ah
 split at h
 rename_i k e hu
 cases h
 have O:=apV 9999 w hu a
 have aw:@decide (a=none) (Ho a)=a.isNone:=by cases a<;>simp
 simp only[eqGuard_at_map,pure_bind,binOp,eS]
 rw[K0 O]
 simp[aw]
 cases h
 rename_i xs eD
 cases M;cases ah
 split at h
 rename_i n hm
 split at h
 rename_i gi hN
 obtain⟨h1,h2,h3⟩:=ft.eq t n hm xs eD Y (l1 gi) (l1 hN) h aat aau w
 simp only[eS,h1,h2,jx,binOp,h3]
 exact⟨rfl,rfl⟩
 cases h
 cases h
 rename_i x y
 cases M;cases ah
 cases h
 simp only[eqGuard_at_string,pure_bind,binOp,Op.stringOp]
 constructor
 show xy _ _=_
 congr 2
 by_cases e:x.toList=y.toList<;>simp[e]
 show xy _ _=_
 congr 2
 by_cases e:x.toList=y.toList<;>simp[e,bne]
 split at h
 rename_i a b aE Z hu
 cases h
 have h1:=ad8 aE bs
 have h2:=ad8 Z bs
 rw[M] at h1;rw[ah] at h2
 cases h1;cases h2
 have O:=apU 9999 w hu a b
 simp only[eqGuard_at_bool,pure_bind,binOp,eS]
 rw[K0 O]
 constructor
 show xy _ _=_
 congr 2
 show xy _ _=_
 congr 2
 cases h
end
end
section
variable{t:dC}{P:dR}{v:ao}{p:ba}{i n off d f:N}{cs:J ao}
section
variable {C:kZ} {bz:N->aI} {s:aN} {z:eF} {u:H} {K:aN->H->Prop} {bs:J N} {a:eo} {w:b6} {Q:kz->eo->b6->Prop}
def zh{m:Sem ao}{w w':b6}(h:m.run P w=.ok v w'):(do pure (Next.value (<-m)):Sem Next).run P w=.ok (.value v) w':=by simp only[eS,h,jx];rfl
def ako{m:Sem Unit}{w w':b6}(h:m.run P w=.ok () w'):(do m;pure Next.skip:Sem Next).run P w=.ok .skip w':=by simp only[eS,h,jx];rfl
def TF(ac:FitsE s bs a){x:jw}(e:z.op=.move x∨z.op=.assign x)(h:match s.sv x with|some y=>K (s.put z.dst y) u|none=>ej):
  uY C s z u K bs a:=by
 split at h
 rename_i y ah
 refine⟨y,a.eval x,h,(ac.sv ah),λw=>?_⟩
 rcases e with e|e<;>(unfold fy;rw[e];rfl)
 exact h.elim
def vZ(ac:FitsE s bs a){c x y:jw}(e:z.op=.pick c x y){b:aI}(I:a.eval c=.bool b){Y:fB}(aB:s.sv (if b then x else y)=some Y)(h:K (s.put z.dst Y) u):
  uY C s z u K bs a:=by
 refine⟨Y,a.eval (if b then x else y),h,(ac.sv aB),λw=>?_⟩
 unfold fy
 rw[e]
 simp only[I]
 cases b<;>rfl
def yc(ac:FitsE s bs a){x:jw}(h:s.sv x=some (.v v)):a.eval x=v:=by have:=ac.sv h;simp only[hj,j2] at this;exact this.symm
def D8(ac:FitsE s bs a){x:jw}(h:s.sv x=some (.ptr p)):a.eval x=.pointer (some p):=by have:=ac.sv h;simp only[hj,j2] at this;exact this.symm
def D7(ac:FitsE s bs a){x:jw}(h:s.sv x=some (.loc i off)):∃b,bs[i]?=some b/\a.eval x=.pointer (some ⟨b,off,none⟩):=by have:=ac.sv h;simp only[hj] at this;split at this;rename_i b Z;simp only[j2] at this;exact⟨b,Z,this.symm⟩;cases this
def akr(ac:FitsE s bs a){op:BinOp}{xS:dC}{x y:jw}(e:z.op=.binOp op t x y xS){k dQ:xw}{m n:o}
  (M:s.sv x=some (.v (.int k m))) (ah:s.sv y=some (.v (.int dQ n)))
  (h:match Qo op m n with
   |some Y=>match yM dQ k with
    |true=>K (s.put z.dst Y) u|false=>ej
   |none=>match ZE op ||yM dQ k with
    |true=>Qc C.wrap op k m n λY=>K (s.put z.dst (.v (.int k Y))) u|false=>ej):uY C s z u K bs a:=by
 have ex:=yc ac M
 have u7:=yc ac ah
 have mV:∀v w,(binOp op t (.int k m) (.int dQ n)).run C.P w=.ok v w->(fy a.eval z).run C.P w=.ok (.value v) w:=by intro v w aA;unfold fy;rw[e];simp only[ex,u7,eqGuard_at_int,pure_bind];exact zh aA
 split at h
 rename_i Y aB
 split at h
 rename_i hk
 have:=Np hk
 subst this
 obtain⟨v,h1,h2⟩:=apg aB C.P t dQ bs
 exact⟨Y,v,h,h1,λw=>mV v w (h2 w)⟩
 exact h.elim
 split at h
 rename_i hk
 obtain⟨Y,h1,h2⟩:=an1 h C.P t dQ (by simp only[Bool.or_eq_true] at hk;rcases hk with hk|hk;cases op<;>simp[ZE] at hk<;>simp;exact .inl (Np hk))
 exact⟨.v (.int k Y),_,h1,rfl,λw=>mV _ w (h2 w)⟩
 exact h.elim
def TD(ft:Good C)(ac:FitsE s bs a){op:BinOp}{xS:dC}{x y:jw}(e:z.op=.binOp op t x y xS){p q:fB}(M:s.sv x=some p)(ah:s.sv y=some q)
  {Y:BO} (aB:KZ C t p q=some Y) (h:(op=.eql/\K (s.put z.dst (.dec Y.p Y.d)) u)∨(op=.neq/\K (s.put z.dst (.uo Y.p Y.d)) u)):
  uY C s z u K bs a:=by
 have ym:=apY ft aB bs (ac.sv M) (ac.sv ah) x y
 rcases h with⟨rfl,h⟩|⟨rfl,h⟩
 refine⟨.dec Y.p Y.d,.bool (@decide Y.p Y.d),h,rfl,λw=>?_⟩
 unfold fy;rw[e];exact zh (ym w).1
 refine⟨.uo Y.p Y.d,.bool (!@decide Y.p Y.d),h,rfl,λw=>?_⟩
 unfold fy;rw[e];exact zh (ym w).2
def zk(ac:FitsE s bs a){x:jw}(e:z.op=.unOp .not t x){b:aI}(M:a.eval x=.bool b){Y:fB}(aB:hj bs Y=some (.bool (!b)))(h:K (s.put z.dst Y) u):
  uY C s z u K bs a:=by
 refine⟨Y,.bool (!b),h,aB,λw=>?_⟩
 unfold fy;rw[e]
 simp only[M]
 rfl
def akx(ac:FitsE s bs a){x:jw}(e:z.op=.load t x)(M:s.sv x=some (.loc i off)){aG:bj}(fk:qH C.P t=some aG)
  (ar:s.loc[i]?=some cs) (Z:off+aG.h8.length<=cs.length) (h:K (s.put z.dst (.v (aG.mk ((cs.drop off).take aG.h8.length)))) u):
  P3 C s z u K bs a:=by
 obtain⟨zM,qX,fc⟩:=D7 ac M
 refine⟨.v _,aG.mk ((cs.drop off).take aG.h8.length),h,rfl,λw hw=>?_⟩
 obtain⟨b,T,h1,h2⟩:=hw.loc i cs ar
 rw[h1] at qX;cases qX
 unfold fy;rw[e]
 refine zh ?_
 simp only[fc,Instr.loadAt,Jh,pure_bind]
 refine IW fk _ (by simp;omega) ?_ ?_
 have:=ai3 (P:=C.P) (off:=off) h2 aG.h8.length 0 #[] (by simpa using Z)
 simpa using this
 intro c I
 subst I
 simp only[bj.h8,h5,nT] at Z ⊢
 have bC:off<cs.length:=by omega
 refine⟨cs[off],?_,?_⟩
 rw[s9 bC];rfl
 simp only[Jc,h2];simp[bC]
def aky(ac:FitsE s bs a){x:jw}(e:z.op=.load t x)(M:s.sv x=some (.ptr p)){aG:bj}(fk:qH C.P t=some aG)
  (h:Su u p 0 aG.h8 λvs=>K (s.put z.dst (.v (aG.mk vs))) u):P3 C s z u K bs a:=by
 obtain⟨vs,hk,aq,O⟩:=avY (P:=C.P) aG.h8 0 _ h
 refine⟨.v _,aG.mk vs,aq,rfl,λw hw=>?_⟩
 have vq:=O w #[] hw.sub
 unfold fy;rw[e]
 refine zh ?_
 simp only[D8 ac M,Instr.loadAt,Jh,pure_bind]
 refine IW fk p (avS hk) (by simpa using vq) ?_
 intro c I
 subst I
 cases hk with
 |cons x de=>
  cases de;obtain⟨y,ah,_⟩:=h;have I:=hw.sub.cell ah;refine⟨_,rfl,?_⟩;have cq:=vq;simp only[bj.h8,h5,nT,loadCellsFrom,eS,load,rp] at cq;have fW:p.add 0=p:=by simp[ep]
  rw[fW] at cq;have c7:w.cell? p=some (aK.enc c y):=I;rw[c7] at cq ⊢;simp at cq;rw[cq]
def aw1{vs:J ao}(h:NN vs=ak):∀v∈vs,v.oneCell'=ak:=by
 induction vs with
 |nil=>simp|cons v vs aL=>
  simp only[NN,pb] at h;intro x M;cases M with
  |head=>exact h.1|tail _ M=>exact aL h.2 x M
def Kept.ayF(hw:bz i=ak)(l:J ao):Kept bz s {s with loc:=tg s.loc i l}:=by refine⟨rfl,by simp[TH],?_⟩;intro j cs h aM;simp only[abF];rw[az];exact h;rintro⟨rfl,_⟩;rw[hw] at aM;cases aM
def ayq(ac:Fits s bs u a w){x y:jw}(e:z.op=.store t x y)(M:s.sv x=some (.loc i off))(ah:s.val y=some v)
  {aG:bj} (fk:qH C.P t=some aG) {cs:J ao} (ar:s.loc[i]?=some cs) (hw:bz i=ak) (cY:v.cells.size=aG.h8.length) (h1:NN v.cells.toList=ak)
  (Z:off+aG.h8.length<=cs.length) (h:K ({s with loc:=tg s.loc i (over cs off v.cells.toList)}.drop z.dst) u):z.wp C.P a w (lT bz K s bs u a w z.dst) Q:=by
 obtain⟨b,T,ii,jS⟩:=ac.loc i cs ar
 obtain⟨zM,agb,fc⟩:=D7 ac.toFitsE M
 rw[ii] at agb;cases agb
 obtain⟨aA0,d,Y5,_,Y7,_⟩:=abH fk
 have Fu:v.cells.toList.length=aG.h8.length:=by rw[ru];exact cY
 obtain⟨w',O,kU⟩:=alW (P:=C.P) Y5 (off:=off) (v:=v) (by rw[Y7];exact cY) jS (by rw[Fu];simpa using Z) (aw1 h1)
 rw[amP _ _ _ (by rw[Fu];exact Z)] at kU
 have hm:b∈bs:=du ii
 have b9:=ac.b7 b hm
 have bC:i<bs.length:=by rcases j1 i bs.length with k|k;exact k;rw[io k] at ii;cases ii
 have gH:Sub u w':=by
  intro x p ex;have al:x≠b:=λe=>by subst e;rw[b9.1] at ex;cases ex
  rw[kU.rest x al];exact ac.sub x p ex
 have dd:Fits {s with loc:=tg s.loc i (over cs off v.cells.toList)} bs u a w':=by
  refine⟨⟨ac.defers,ac.n,ac.env⟩,by simp[TH,ac.len],?_,ac.nodup,λx M=>⟨(ac.b7 x M).1,by rw[kU.size];exact(ac.b7 x M).2⟩,gH⟩;intro j zT qU;simp only[abF] at qU;split at qU;rename_i aM;obtain⟨rfl,_⟩:=aM;cases qU;exact⟨b,T,ii,kU.at_⟩;rename_i aM;obtain⟨gP,DZ,h3,a7⟩:=ac.loc j zT qU;refine⟨gP,DZ,h3,?_⟩;rw[kU.rest gP ?_];exact a7;rintro rfl;have ku:j<bs.length:=by rcases j1 j bs.length with k|k;exact k;rw[io k] at h3;cases h3
  have gE:i=j:=by exact(List.getElem?_inj bC ac.nodup (j:=j)).1 (by rw[ii,h3])
  subst gE;exact aM ⟨rfl,by rw[<-ac.len];exact bC⟩
 have dI:Step u bs w u bs w':=⟨gH,kU.os,kU.tape,kU.output,kU.drawn,by rw[kU.size];exact cg _,λx M oq ahz=>kU.rest x (λe=>by subst e;exact ahz hm),λ_ _ e=>e,[],by simp,by simp⟩
 unfold C6
 have mV:(fy a.eval z).run C.P w=.ok .skip w':=by unfold fy;rw[e];refine ako ?_;simp only[fc,ac.val ah,Instr.storeAt,Jh,pure_bind];exact O
 rw[mV]
 exact⟨_,u,bs,hQ,h,dd.drop z.dst hQ,dI,rfl,(Kept.ayF hw _).trans (Kept.drop bz _ z.dst)⟩
def ayr(ac:Fits s bs u a w){x y:jw}(e:z.op=.store t x y)(M:s.sv x=some (.ptr p))(ah:s.val y=some v)
  {aG:bj} (fk:qH C.P t=some aG) (cY:v.cells.size=aG.h8.length) (h:u.aN p v.cells.toList λu'=>K (s.drop z.dst) u'):z.wp C.P a w (lT bz K s bs u a w z.dst) Q:=by
 obtain⟨c,T,I,tZ,ar,h1,aq⟩:=h
 obtain⟨aA0,d,Y5,_,Y7,_⟩:=abH fk
 obtain⟨b,off,sp⟩:=p
 simp only at tZ I ar aq
 subst tZ
 have bV:=ac.sub _ _ I
 obtain⟨w',O,kU⟩:=alW (P:=C.P) Y5 (off:=off) (v:=v) (by rw[Y7];exact cY) bV ar h1
 have gH:Sub (u.ins b (.cells (wr c off v.cells.toList) T (0,0))) w':=by intro x p ex;unfold H.ins at ex;split at ex;rename_i Zr;subst Zr;cases ex;exact kU.at_;rename_i Zr;rw[kU.rest x Zr];exact ac.sub x p ex
 have al:∀x,u x=none->x≠b:=λnt fF gq=>by rw[gq,I] at fF;cases fF
 have dd:Fits s bs (u.ins b (.cells (wr c off v.cells.toList) T (0,0))) a w':=by refine⟨⟨ac.defers,ac.n,ac.env⟩,ac.len,?_,ac.nodup,?_,gH⟩;intro j zT qU;obtain⟨gP,DZ,h3,a7⟩:=ac.loc j zT qU;exact⟨gP,DZ,h3,by rw[kU.rest gP (al gP (ac.b7 gP (du h3)).1)];exact a7⟩;intro x M;have:=ac.b7 x M;exact⟨by rw[H.bm u _ (al x this.1)];exact this.1,by rw[kU.size];exact this.2⟩
 have dI:Step u bs w (u.ins b (.cells (wr c off v.cells.toList) T (0,0))) bs w':=
  ⟨gH,kU.os,kU.tape,kU.output,kU.drawn,by rw[kU.size];exact cg _,λx M oq ahz=>kU.rest x (al x oq),λx _ oq=>by rw[H.bm u _ (al x oq)];exact oq,[],by simp,by simp⟩
 unfold C6
 have mV:(fy a.eval z).run C.P w=.ok .skip w':=by unfold fy;rw[e];refine ako ?_;simp only[D8 ac.toFitsE M,ac.val ah,Instr.storeAt,Jh,pure_bind];exact O
 rw[mV]
 exact⟨_,_,bs,hQ,aq,dd.drop z.dst hQ,dI,rfl,Kept.drop bz _ z.dst⟩
def aEL(h:zeroOf P t=some cs)(w:b6):∃Y,(zeroValue t).run P w=.ok Y w/\Y.cells.toList=cs:=by
 unfold zeroOf at h;split at h;rename_i i hi;cases aB:i.zero with
 |none=>rw[aB] at h;cases h
 |some Y=>rw[aB] at h;simp only[uA,j2] at h;exact⟨Y,by simp[zeroValue,typeInfo,program,rp,hi,aB],h⟩
 cases h
def ajm(t:dC)(v:ao)(w:b6):(newVar t v).run P w=.ok ⟨w.heap.size,0,none⟩ (w.alloc (.cells v.cells t (0,0))):=by simp only[newVar,newRow,newObj,eS,rp,jx];rfl
def akz(ac:Fits s bs u a w)(aw:z.dst=some d)(O:(fy a.eval z).run C.P w=.ok (.value (.pointer (some ⟨w.heap.size,0,none⟩))) (w.alloc (.cells v.cells t (0,0))))
  (h:match gA C.exp d with
   |true=>∀b,u b=none->K (s.put (some d) (.ptr ⟨b,0,none⟩)) (u.ins b (.cells v.cells.toList.toArray t (0,0)))|false=>K ({s with loc:=s.loc++ [v.cells.toList]}.put (some d) (.loc s.loc.length 0)) u):z.wp C.P a w (lT bz K s bs u a w z.dst) Q:=by
 unfold C6
 rw[O]
 have aP:v.cells.toList.toArray=v.cells:=by simp
 split at h
 have bL:=h w.heap.size (ac.sub.none (cg _))
 rw[aP,<-aw] at bL
 obtain⟨h1,h2⟩:=ac.AV (.cells v.cells t (0,0))
 exact⟨_,_,bs,_,bL,h1.put z.dst (x:=.ptr _) rfl,h2,rfl,Kept.put bz s _ _⟩
 obtain⟨h1,h2⟩:=ac.awP v.cells.toList t
 rw[aP] at h1 h2
 rw[<-aw] at h
 refine⟨_,_,_,_,h,h1.put z.dst (x:=.loc s.loc.length 0) ?_,h2,rfl,?_⟩
 simp only[hj]
 rw[<-ac.len]
 simp
 refine Kept.trans (b:={s with loc:=s.loc++ [v.cells.toList]}) ⟨rfl,by simp,λi cs e _=>?_⟩ (Kept.put bz _ _ _)
 have bC:i<s.loc.length:=by rcases j1 i s.loc.length with k|k;exact k;rw[io k] at e;cases e
 show(s.loc++ [v.cells.toList])[i]?=_
 rw[qy bC];exact e
def ayo(ac:Fits s bs u a w)(e:z.op=.alloc t)(aw:z.dst=some d)(aB:zeroOf C.P t=some cs)
  (h:match gA C.exp d with
   |true=>∀b,u b=none->K (s.put (some d) (.ptr ⟨b,0,none⟩)) (u.ins b (.cells cs.toArray t (0,0)))|false=>K ({s with loc:=s.loc++ [cs]}.put (some d) (.loc s.loc.length 0)) u):z.wp C.P a w (lT bz K s bs u a w z.dst) Q:=by
 obtain⟨Y,avk,rfl⟩:=aEL aB w
 refine akz ac aw (t:=t) (v:=Y) ?_ h
 unfold fy;rw[e]
 refine zh ?_
 simp only[Instr.alloc,eS,avk,jx,ajm]
 rfl
def ayp(ac:Fits s bs u a w){x:jw}(e:z.op=.box t x)(aw:z.dst=some d)(M:s.val x=some v)
  (h:match gA C.exp d with
   |true=>∀b,u b=none->K (s.put (some d) (.ptr ⟨b,0,none⟩)) (u.ins b (.cells v.cells.toList.toArray t (0,0)))|false=>K ({s with loc:=s.loc++ [v.cells.toList]}.put (some d) (.loc s.loc.length 0)) u):z.wp C.P a w (lT bz K s bs u a w z.dst) Q:=by
 refine akz ac aw (t:=t) (v:=v) ?_ h
 unfold fy;rw[e]
 refine zh ?_
 simp only[Instr.box,ac.val M,eS,ajm,jx]
 rfl
def Pb{d:TypeDesc}(h:P.underlying t=some d)(w:b6):(underlying t).run P w=.ok d w:=by simp[underlying,program,rp,h]
def akt{x:jw}(e:z.op=.fieldAddr t x f)(ae:NM C.P t f=some n)(M:a.eval x=.pointer (some p))(w:b6):
  (fy a.eval z).run C.P w=.ok (.value (.pointer (some (p.add n)))) w:=by
 unfold NM at ae
 split at ae
 rename_i aU hu
 split at ae
 rename_i g W
 split at ae
 rename_i m hm
 cases ae
 simp only[xQ,SS] at hm
 obtain⟨i,hi,cY⟩:=hm
 unfold fy;rw[e]
 refine zh ?_
 simp only[Instr.fieldAt,eS,Pb hu,jx,W,M,Jh,fieldPlace,OH hi,cY]
 simp[OH hi,cY]
 cases ae
 cases ae
 cases ae
def aku(ac:FitsE s bs a){x:jw}(e:z.op=.fieldAddr t x f)(ae:NM C.P t f=some n)(M:s.sv x=some (.loc i off))
  (h:K (s.put z.dst (.loc i (off+n))) u):uY C s z u K bs a:=by
 obtain⟨b,Z,fc⟩:=D7 ac M
 refine⟨.loc i (off+n),_,h,?_,akt (C:=C) e ae fc⟩
 have:(⟨b,off,none⟩:ba).add n=⟨b,off+n,none⟩:=by unfold ep;split<;>simp_all
 simp[hj,Z,this]
def akv(ac:FitsE s bs a){x:jw}(e:z.op=.fieldAddr t x f)(ae:NM C.P t f=some n)(M:s.sv x=some (.ptr p))
  (h:K (s.put z.dst (.ptr (p.at' n))) u):uY C s z u K bs a:=by
 rw[adV] at h
 exact⟨.ptr (p.add n),_,h,rfl,akt (C:=C) e ae (D8 ac M)⟩
def akP(h:xQ P t=some n)(w:b6):(sizeOf t).run P w=.ok n w:=by simp only[xQ,SS] at h;obtain⟨i,hi,cY⟩:=h;rw[OH hi,cY]
def akw(ac:FitsE s bs a){gq:dC}{x bp:jw}(e:z.op=.indexAddr t x bp)(hu:C.P.underlying t=some (.slice gq)){aW:ay ba}{c:N}(M:s.sv x=some (.v (.slice aW n c)))
  {k:xw} {i:o} (hi:s.sv bp=some (.v (.int k i))) {hr:N} (cY:xQ C.P gq=some hr)
  (h:∃p,aW=some p/\(0<=i/\i<n)/\K (s.put z.dst (.ptr (p.add (i.toNat*hr)))) u):uY C s z u K bs a:=by
 obtain⟨p,rfl,Z,aq⟩:=h
 refine⟨.ptr _,.pointer (some (p.add (i.toNat*hr))),aq,rfl,λw=>?_⟩
 unfold fy;rw[e]
 refine zh ?_
 simp only[Instr.indexAt,yc ac M,yc ac hi,asIntOf,pure_bind,eS,Pb hu,jx]
 simp[Z,akP cY,Pb hu]
def TE(ac:FitsE s bs a){gq:dC}{len:N}{x bp:jw}(e:z.op=.indexAddr t x bp)(hu:C.P.underlying t=some (.array len gq))(M:a.eval x=.pointer (some p))
  {k:xw} {i:o} (hi:s.sv bp=some (.v (.int k i))) {hr:N} (cY:xQ C.P gq=some hr) (Z:0<=i/\i<len) (w:b6):
  (fy a.eval z).run C.P w=.ok (.value (.pointer (some (p.add (i.toNat*hr))))) w:=by
 unfold fy;rw[e]
 refine zh ?_
 simp only[Instr.indexAt,M,yc ac hi,asIntOf,pure_bind,eS,Pb hu,jx,Jh]
 simp[Z,akP cY,Pb hu]
end
end
section
variable {C:kZ} {bz:N->aI} {s:aN} {z:eF} {u:H} {K:aN->H->Prop} {bs:J N} {a:eo} {w:b6} {Q:kz->eo->b6->Prop}
def aks(ft:Good C)(ac:Fits s bs u a w){c:Call}(e:z.op=.call c)
  (h:match Pf s c.args,OG C.P z.type with
  |some vs,some ss=>match c.callee with
   | .value (.func f)=>match hl C.P f with
    |true=>ie C.P f vs.toArray ss u (sy s z.dst ss K)|false=>match ajo C.P f with
     |true=>c4 C.P (zP f vs.toArray) ss u (sy s z.dst ss K)|false=>ej
   | .value x=>match s.sv x with
    |some (.v fv)=>hL C.P fv vs.toArray ss u (sy s z.dst ss K)|_=>ej
   | .invoke x name=>match s.sv x with
    |some (.v r)=>mJ C.P r name vs.toArray ss u (sy s z.dst ss K)|_=>ej
   | .builtin _=>other C s z u K
  |_,_=>ej):z.wp C.P a w (lT bz K s bs u a w z.dst) Q:=by
 split at h
 rename_i vs ss aA vt
 have HO:=amv ac.toFitsE aA
 split at h
 rename_i f I
 have M:∀bN,(fy a.eval z).run C.P bN=(qw f vs.toArray).run C.P bN:=by intro bN;unfold fy;rw[e];simp only[resolve,I,Act.eval,SO,pure_bind,invoke,HO];simp
 split at h
 rename_i Z
 refine aap ac h ?_
 rw[M,Ql ft (af8 Z)]
 split at h
 refine aaq ac h λv w' O=>.inl ?_
 rw[M]
 simp only[zP,eS] at O
 cases aB:(qw f vs.toArray).run C.P w with
 |halt Y dK=>rw[aB] at O;simp at O
 |ok Y dK=>
  rw[aB] at O;simp only[jx] at O;cases Y<;>simp only[] at O<;>first
   |(have CG:xy _ dK=xy v w':=O;cases CG;rfl)
   |(simp[stuck] at O)
 exact h.elim
 rename_i x _ I
 split at h
 rename_i fv M
 obtain⟨f,pre,cap,rfl,Z,hv⟩:=h
 refine aap ac hv ?_
 unfold fy;rw[e]
 simp only[resolve,I,yc ac.toFitsE M,SO,pure_bind,invoke,HO]
 have:=Ql ft Z (pre++vs.toArray++cap) w
 simpa using this
 exact h.elim
 rename_i x name I
 split at h
 rename_i r M
 obtain⟨t,v,f,r9,rfl,hm,Z,hv⟩:=h
 refine aap ac hv ?_
 unfold fy;rw[e]
 simp only[resolve,I,yc ac.toFitsE M,pure_bind,invoke,HO]
 have h0:(#[lN t v]++vs.toArray)[0]?=some (.iface t v):=by simp
 have h1:(#[lN t v]++vs.toArray).extract 1 (#[lN t v]++vs.toArray).size=vs.toArray:=by apply C7;simp
 simp only[h0,h1,callMethod,eS,program]
 show(jy ((method (C.P.types.size+uz) t v name).run C.P w) λp w'=>(qw p.1 (#[p.2]++vs.toArray)).run C.P w')=_
 rw[hm w ac.sub]
 exact Ql ft Z _ w
 exact h.elim
 exact aju (λcs b=>by rw[e];exact aaJ) ac h
 exact h.elim
set_option maxHeartbeats 1000000 in
def TW(ft:Good C)(ac:Fits s bs u a w)(h:wc C bz s z u K):z.wp C.P a w (lT bz K s bs u a w z.dst) Q:=by
 have sS:(∀cs b,z.op≠.select cs b)->other C s z u K->z.wp C.P a w (lT bz K s bs u a w z.dst) Q:=λag=>aju ag ac;unfold wc at h;split at h;rename_i x e;exact o8 ac (TF ac.toFitsE (.inl e) h);rename_i x e;exact o8 ac (TF ac.toFitsE (.inr e) h);rename_i c x y e;split at h;rename_i I M;exact o8 ac (vZ ac.toFitsE e (b:=ak) (cO (ac.sv I)).symm M h);rename_i I ah;exact o8 ac (vZ ac.toFitsE e (b:=ax) (cO (ac.sv I)).symm ah h);rename_i p d mI fj I M ah;have fc:=(cO (ac.sv I)).symm;by_cases ad:p;exact o8 ac (vZ ac.toFitsE e (b:=ak) (by rw[fc];simp[ad]) M (h.1 ad));exact o8 ac (vZ ac.toFitsE e (b:=ax) (by rw[fc];simp[ad]) ah (h.2 ad));rename_i p d mI fj I M ah;have fc:=(cO (ac.sv I)).symm;by_cases ad:p;exact o8 ac (vZ ac.toFitsE e (b:=ax) (by rw[fc];simp[ad]) ah (h.2 ad));exact o8 ac (vZ ac.toFitsE e (b:=ak) (by rw[fc];simp[ad]) M (h.1 ad));exact h.elim;rename_i op t x y xS e;split at h;rename_i k m dQ n M ah;exact o8 ac (akr ac.toFitsE e M ah h);rename_i p q _ M ah;split at h;split at h;rename_i Y aB;exact o8 ac (TD ft ac.toFitsE e M ah aB (.inl ⟨rfl,h⟩));exact h.elim;split at h;rename_i Y aB;exact o8 ac (TD ft ac.toFitsE e M ah aB (.inr ⟨rfl,h⟩));exact h.elim;exact sS (λcs b=>by rw[e];exact aaJ) h;exact h.elim;rename_i t x e;split at h;rename_i M;exact o8 ac (zk ac.toFitsE e (b:=ak) (cO (ac.sv M)).symm rfl h);rename_i M;exact o8 ac (zk ac.toFitsE e (b:=ax) (cO (ac.sv M)).symm rfl h);rename_i p d M;exact o8 ac (zk ac.toFitsE e (cO (ac.sv M)).symm rfl h);rename_i p d M;exact o8 ac (zk ac.toFitsE e (cO (ac.sv M)).symm (by simp[hj]) h);rename_i b M;exact o8 ac (zk ac.toFitsE e (cO (ac.sv M)).symm (by cases b<;>simp[hj]) h);exact h.elim;rename_i t x e;split at h;rename_i i off aG M fk;split at h;rename_i cs ar;split at h;rename_i Z;exact ajs ac (akx ac.toFitsE e M fk ar (F8 Z) h);exact h.elim;exact h.elim;rename_i p aG M fk;exact ajs ac (aky ac.toFitsE e M fk h);exact h.elim;rename_i t x y e;split at h;rename_i i off v aG M ah fk;split at h;rename_i cs ar hw cY h1;split at h;rename_i Z;exact ayq ac e M ah fk ar hw (l1 cY) h1 (F8 Z) h;exact h.elim;exact h.elim;rename_i p v aG M ah fk;split at h;rename_i cY;exact ayr ac e M ah fk (l1 cY) h;exact h.elim;exact h.elim;rename_i t e;split at h;rename_i cs d aB aw;exact ayo ac e aw aB h;exact h.elim;rename_i t x e;split at h;rename_i v d M aw;exact ayp ac e aw M h;exact h.elim;rename_i x e;split at h;rename_i i off M;obtain⟨b,Z,fc⟩:=D7 ac.toFitsE M;refine y2 ac (y:=.loc i off) (v:=.pointer (some ⟨b,off,none⟩)) ?_ (by simp[hj,Z]) h;unfold fy;rw[e];simp only[fc];rfl;rename_i p M;refine y2 ac (y:=.ptr p) (v:=.pointer (some p)) ?_ rfl h;unfold fy;rw[e];simp only[D8 ac.toFitsE M];rfl;rename_i q M;obtain⟨p,rfl,aq⟩:=h;refine y2 ac (y:=.ptr p) (v:=.pointer (some p)) ?_ rfl aq;unfold fy;rw[e];simp only[yc ac.toFitsE M];rfl;exact h.elim;rename_i t x f e;split at h;rename_i i off n M ae;exact o8 ac (aku ac.toFitsE e ae M h);rename_i p n M ae;exact o8 ac (akv ac.toFitsE e ae M h);exact h.elim;rename_i t x bp e;split at h;rename_i gq hu;split at h;rename_i aW n c k i hr M hi cY;exact o8 ac (akw ac.toFitsE e hu M hi cY h);exact h.elim;rename_i len gq hu;split at h;rename_i j off k m hr M hi cY;split at h;rename_i hm;obtain⟨b,Z,fc⟩:=D7 ac.toFitsE M;have bC:m<len:=by simpa using hm
 have O:=TE (C:=C) ac.toFitsE e hu fc hi cY ⟨by simp,by simpa using bC⟩ w;refine y2 ac (y:=.loc j (off+m*(hr+1))) O ?_ h;have:(⟨b,off,none⟩:ba).add (m*(hr+1))=⟨b,off+m*(hr+1),none⟩:=by unfold ep;split<;>simp_all
 simp[hj,Z,this];exact h.elim;rename_i p k i hr M hi cY;obtain⟨h2,Z,aq⟩:=h;exact y2 ac (y:=.ptr _) (TE (C:=C) ac.toFitsE e hu (D8 ac.toFitsE M) hi cY Z w) rfl aq;exact h.elim;exact h.elim;rename_i c e;exact aks ft ac e h;rename_i q6;by_cases oo:∃cs b,z.op=.select cs b;obtain⟨cs,b,e⟩:=oo;exfalso;unfold other y4 at h;have h0:aja C.P z.op=ax:=by rw[e];rfl
 have h1:ajq z.op=ax:=by rw[e];rfl
 have h2:GA s z=none:=by unfold GA;rw[e]
 rw[h0,h1,h2] at h;split at h;rename_i h3;split at h3<;>simp_all;split at h<;>simp_all;exact sS (λcs b e=>oo ⟨cs,b,e⟩) h
end
def Es(s:aN)(all:cu eF)(z:eF)(f:aN->aI->Prop):Prop:=
 match z.guard with
 |none=>f s ak|some (j,want)=>match all[j]? with
  |some la=>match la.dst with
   |some d=>match look s.env d with
    |some .jL=>f s want|some .jP=>f s (!want)|some (.dec p _)=>(p->f (s.put (some d) .jL) want)/\(¬p->f (s.put (some d) .jP) (!want))|some (.uo p _)=>(¬p->f (s.put (some d) .jL) want)/\(p->f (s.put (some d) .jP) (!want))|some (.v (.bool b))=>(b=ak->f (s.put (some d) .jL) want)/\(b=ax->f (s.put (some d) .jP) (!want))|some (.v (.tuple _))=>f s ax|_=>ej
   |none=>ej
  |none=>ej
def FitsE.tell{s:aN}{bs:J N}{a:eo}(h:FitsE s bs a){d:N}{x:fB}{v:ao}(I:hj bs x=some v)(ht:a.tmps[d]?=some v):FitsE (s.put (some d) x) bs a:=by
 have bC:d<s.n:=by rw[<-h.n];rcases j1 d a.tmps.size with k|k;exact k;rw[C5 k] at ht;cases ht
 have aP:s.put (some d) x={s with env:=(d,x)::del s.env d}:=by
  have Z:xx d s.n=ak:=by simpa using bC
  simp only[aN.put,Z]
 rw[aP];refine⟨h.defers,h.n,?_⟩;intro p ad;cases ad with
 |head=>exact⟨v,I,ht⟩|tail _ ad=>exact h.env p (aeA ad).1
structure Told(s ap:aN)(bs:J N)(a:eo):Prop where
 e:FitsE ap bs a
 loc:ap.loc=s.loc
 n:ap.n=s.n
def Hy{s:aN}{all:cu eF}{z:eF}{f:aN->aI->Prop}(h:Es s all z f){bs:J N}{a:eo}(ac:FitsE s bs a):
  ∃ap want,f ap want/\Told s ap bs a/\uC z (yielded all a.tmps)=want:=by
 unfold Es at h
 split at h
 rename_i e
 exact⟨s,ak,h,⟨ac,rfl,rfl⟩,by simp[uC,e]⟩
 rename_i j want e
 split at h
 rename_i la aM
 split at h
 rename_i d aw
 have key:∀x,look s.env d=some x->∀b:aI,hj bs x=some (.bool b)->a.tmps[d]?=some (.bool b)/\uC z (yielded all a.tmps)=(if b then want else !want):=by intro x M b Z;obtain⟨v,h1,h2⟩:=ac.env _ (FN M);simp only at h1 h2;rw[Z] at h1;cases h1;refine⟨h2,?_⟩;simp only[uC,e,yielded,aM,SN,aw,h2];cases b<;>cases want<;>rfl
 split at h
 rename_i ar
 exact⟨s,want,h,⟨ac,rfl,rfl⟩,(key _ ar ak rfl).2⟩
 rename_i ar
 exact⟨s,!want,h,⟨ac,rfl,rfl⟩,(key _ ar ax rfl).2⟩
 rename_i p KO ar
 by_cases ad:p
 have:=key _ ar ak (by simp[hj,ad])
 exact⟨_,want,h.1 ad,⟨ac.tell (x:=.jL) rfl this.1,(mD _ _ _).1,(mD _ _ _).2⟩,this.2⟩
 have:=key _ ar ax (by simp[hj,ad])
 exact⟨_,!want,h.2 ad,⟨ac.tell (x:=.jP) rfl this.1,(mD _ _ _).1,(mD _ _ _).2⟩,this.2⟩
 rename_i p KO ar
 by_cases ad:p
 have:=key _ ar ax (by simp[hj,ad])
 exact⟨_,!want,h.2 ad,⟨ac.tell (x:=.jP) rfl this.1,(mD _ _ _).1,(mD _ _ _).2⟩,this.2⟩
 have:=key _ ar ak (by simp[hj,ad])
 exact⟨_,want,h.1 ad,⟨ac.tell (x:=.jL) rfl this.1,(mD _ _ _).1,(mD _ _ _).2⟩,this.2⟩
 rename_i b ar
 cases b with
 |true=>have:=key _ ar ak rfl;exact⟨_,want,h.1 rfl,⟨ac.tell (x:=.jL) rfl this.1,(mD _ _ _).1,(mD _ _ _).2⟩,this.2⟩
 |false=>have:=key _ ar ax rfl;exact⟨_,!want,h.2 rfl,⟨ac.tell (x:=.jP) rfl this.1,(mD _ _ _).1,(mD _ _ _).2⟩,this.2⟩
 rename_i vs ar
 obtain⟨v,h1,h2⟩:=ac.env _ (FN ar)
 simp only at h1 h2
 simp only[hj,j2] at h1
 subst h1
 refine⟨s,ax,h,⟨ac,rfl,rfl⟩,?_⟩
 simp only[uC,e,yielded,aM,SN,aw,h2]
 rfl
 exact h.elim
 exact h.elim
 exact h.elim
def AK(C:kZ)(s:aN)(z:eF):aI:=
 match z.op with
 | .move _=>ak| .assign _=>ak| .pick _ _ _=>ak| .nilCheck _=>ak| .fieldAddr _ _ _=>ak| .indexAddr _ _ _=>ak| .unOp .not _ _=>ak| .binOp _ _ _ _ _=>ak| .load _ _=>ax| .store _ _ _=>ax| .alloc _=>ax| .box _ _=>ax| .call c=>match c.callee with
  | .builtin _=>(y4 C.P s z).isSome|_=>ax
 |_=>(y4 C.P s z).isSome
section
variable {C:kZ} {bz:N->aI} {s:aN} {z:eF} {u:H} {K:aN->H->Prop} {bs:J N} {a:eo} {w:b6} {Q:kz->eo->b6->Prop}
def aar(ac:FitsE s bs a)(ad:(y4 C.P s z).isSome=ak)(h:other C s z u K):uY C s z u K bs a:=by unfold other at h;obtain⟨v,aA⟩:=Je.1 ad;rw[aA] at h;exact⟨.v v,v,h,rfl,ajF ac aA⟩
set_option maxHeartbeats 1000000 in
def ajL(ft:Good C)(ac:FitsE s bs a)(ad:AK C s z=ak)(h:wc C bz s z u K):uY C s z u K bs a:=by
 unfold wc at h;split at h;rename_i x e;exact TF ac (.inl e) h;rename_i x e;exact TF ac (.inr e) h;rename_i c x y e;split at h;rename_i I M;exact vZ ac e (b:=ak) (cO (ac.sv I)).symm M h;rename_i I ah;exact vZ ac e (b:=ax) (cO (ac.sv I)).symm ah h;rename_i p d mI fj I M ah;have fc:=(cO (ac.sv I)).symm;by_cases ad:p;exact vZ ac e (b:=ak) (by rw[fc];simp[ad]) M (h.1 ad);exact vZ ac e (b:=ax) (by rw[fc];simp[ad]) ah (h.2 ad);rename_i p d mI fj I M ah;have fc:=(cO (ac.sv I)).symm;by_cases ad:p;exact vZ ac e (b:=ax) (by rw[fc];simp[ad]) ah (h.2 ad);exact vZ ac e (b:=ak) (by rw[fc];simp[ad]) M (h.1 ad);exact h.elim;rename_i op t x y xS e;have ed:∀bV:other C s z u K,uY C s z u K bs a:=by
  intro bV;by_cases MJ:(y4 C.P s z).isSome=ak;exact aar ac MJ bV;exfalso;have ae:y4 C.P s z=none:=by
   cases M:y4 C.P s z with
   |none=>rfl|some v=>rw[M] at MJ;simp at MJ
  unfold other at bV;rw[ae] at bV;have h2:GA s z=none:=by unfold GA;rw[e]
  rw[h2] at bV;split at bV<;>simp_all
 split at h;rename_i k m dQ n M ah;exact akr ac e M ah h;rename_i p q _ M ah;split at h;split at h;rename_i Y aB;exact TD ft ac e M ah aB (.inl ⟨rfl,h⟩);exact h.elim;split at h;rename_i Y aB;exact TD ft ac e M ah aB (.inr ⟨rfl,h⟩);exact h.elim;exact ed h;exact h.elim;rename_i t x e;split at h;rename_i M;exact zk ac e (b:=ak) (cO (ac.sv M)).symm rfl h;rename_i M;exact zk ac e (b:=ax) (cO (ac.sv M)).symm rfl h;rename_i p d M;exact zk ac e (cO (ac.sv M)).symm rfl h;rename_i p d M;exact zk ac e (cO (ac.sv M)).symm (by simp[hj]) h;rename_i b M;exact zk ac e (cO (ac.sv M)).symm (by cases b<;>simp[hj]) h;exact h.elim;rename_i t x e;unfold AK at ad;rw[e] at ad;cases ad;rename_i t x y e;unfold AK at ad;rw[e] at ad;cases ad;rename_i t e;unfold AK at ad;rw[e] at ad;cases ad;rename_i t x e;unfold AK at ad;rw[e] at ad;cases ad;rename_i x e;split at h;rename_i i off M;obtain⟨b,Z,fc⟩:=D7 ac M;refine⟨.loc i off,.pointer (some ⟨b,off,none⟩),h,by simp[hj,Z],λw=>?_⟩;unfold fy;rw[e];simp only[fc];rfl;rename_i p M;refine⟨.ptr p,.pointer (some p),h,rfl,λw=>?_⟩;unfold fy;rw[e];simp only[D8 ac M];rfl;rename_i q M;obtain⟨p,rfl,aq⟩:=h;refine⟨.ptr p,.pointer (some p),aq,rfl,λw=>?_⟩;unfold fy;rw[e];simp only[yc ac M];rfl;exact h.elim;rename_i t x f e;split at h;rename_i i off n M ae;exact aku ac e ae M h;rename_i p n M ae;exact akv ac e ae M h;exact h.elim;rename_i t x bp e;split at h;rename_i gq hu;split at h;rename_i aW n c k i hr M hi cY;exact akw ac e hu M hi cY h;exact h.elim;rename_i len gq hu;split at h;rename_i j off k m hr M hi cY;split at h;rename_i hm;obtain⟨b,Z,fc⟩:=D7 ac M;have bC:m<len:=by simpa using hm
 have O:=TE (C:=C) ac e hu fc hi cY ⟨by simp,by simpa using bC⟩;refine⟨.loc j (off+m*(hr+1)),_,h,?_,O⟩;have:(⟨b,off,none⟩:ba).add (m*(hr+1))=⟨b,off+m*(hr+1),none⟩:=by unfold ep;split<;>simp_all
 simp[hj,Z,this];exact h.elim;rename_i p k i hr M hi cY;obtain⟨h2,Z,aq⟩:=h;exact⟨.ptr _,_,aq,rfl,TE (C:=C) ac e hu (D8 ac M) hi cY Z⟩;exact h.elim;exact h.elim;rename_i c e;unfold AK at ad;rw[e] at ad;simp only at ad;split at ad;rename_i b I;rw[I] at h;split at h;exact aar ac ad h;exact h.elim;cases ad;rename_i h1 h2 h3 a7 bE fO kL mo mq Lf Hz ym Lg;refine aar ac ?_ h;unfold AK at ad;split at ad<;>first|exact ad|(rename_i e;exact a6 e (by first|exact h1 _|exact h2 _|exact h3 _ _ _|exact a7 _ _ _ _ _|exact bE _ _|exact fO _ _|exact kL _ _ _|exact mo _|exact mq _ _|exact Lf _|exact Hz _ _ _|exact ym _ _ _|exact Lg _))
end
section
variable{i:N}
def waits(ops:cu eF):N->N->N->aI
 |0,_,_=>ax|n+1,j,i=>match ops[j]? with
  |some z=>z.after.toList.any λe=>A5 .any e && (ji e.on i ||waits ops n e.on i)|none=>ax
def x3(ops:cu eF)(listed:cu aI):Prop:=
 ∀j z,ops[j]?=some z->listed.getD j ax=ak->∀e∈z.after,A5 .any e=ak->listed.getD e.on ax=ak
def amL{ops:cu eF}{listed:cu aI}(I:x3 ops listed):∀(n j i:N),waits ops n j i=ak->
  (∀z,ops[j]?=some z->∀e∈z.after,A5 .any e=ak->listed.getD e.on ax=ak)->listed.getD i ax=ak:=by
 intro n
 induction n with
 |zero=>intro j i h;simp[waits] at h
 |succ n aL=>intro j i h aM;simp only[waits] at h;split at h;rename_i z ab;obtain⟨e,he,Z⟩:=List.any_eq_true.1 h;simp only[pb,Bool.or_eq_true] at Z;have hm:e∈z.after:=F3.1 he;have h1:=aM z ab e hm Z.1;rcases Z.2 with h2|h2;have:=l1 h2;subst this;exact h1;exact aL e.on i h2 λb5 bQ gq fX eH=>I e.on b5 bQ h1 gq fX eH;cases h
def x3.set{ops:cu eF}{listed:cu aI}(I:x3 ops listed)(O:i∈ng .any ops listed):x3 ops (listed.setIfInBounds i ak):=by intro j z ab aM e he Z;by_cases iR:j=i;subst iR;obtain⟨_,b5,bQ,eh⟩:=vN.1 O;rw[ab] at bQ;cases bQ;exact getD_set_true (eh e he Z);rw[getD_set_ne ax (dv iR)] at aM;exact getD_set_true (I j z ab aM e he Z)
section
variable {P:dR} {ops:cu eF} {Q:kz->eo->b6->Prop} {nd:N->aI} {S:b6->Prop}
def xZ(P:dR)(ops:cu eF)(Q:kz->eo->b6->Prop)(nd:N->aI)(S:b6->Prop):N->cu aI->eo->b6->Prop
 |0,listed,a,w=>ng .any ops listed=[]/\Q .normal a w|gg+1,listed,a,w=>
  (ng .any ops listed=[]->Q .normal a w)/\
  ∀i∈ng .any ops listed,wpOp P ops Q i (λcM w'=>(nd i=ak->S w->S w')/\xZ P ops Q nd S gg (listed.setIfInBounds i ak) cM w') a w
def acM:∀(gg:N) (listed:cu aI) (a:eo) (w:b6),xZ P ops Q nd S gg listed a w->wpAny P .any ops Q gg listed a w
 |0,_,_,_,h=>h|gg+1,_,_,_,h=>⟨h.1,λi hi=>wpOp_mono (λcM w' bL=>acM gg _ cM w' bL.2) (h.2 i hi)⟩
def adT{fw:eF}{v:ao}{T:b6->Prop}(hi:ops[i]?=some fw)(oo:∀(j:N) (z:eF) cs b,ops[j]?=some z->z.op≠.select cs b)
  (e6:∀c a w,¬Q (.panic c) a w) (dc:N) (aR:(∀w,T w)∨(T=S/\∀j,nd j=ax->j=i∨waits ops dc j i=ak)):
  ∀(gg:N) (listed:cu aI) (a:eo) (w:b6),x3 ops listed->
   (∀j la,ops[j]?=some la->j≠i->listed.getD j ak=ax->(∀e∈la.after,A5 .any e=ak->e.on≠i)->fw.apart ops la=ak)->
   i∈ng .any ops listed->YieldsIf P ops T fw v a->T w->
   xZ P ops Q nd S gg (listed.setIfInBounds i ak) (a.put fw.dst v) w->xZ P ops Q nd S (gg+1) listed a w:=by
 intro gg
 induction gg with
 |zero=>intro listed a w _ _ O ah bh H;refine⟨λh=>(by rw[h] at O;cases O),λj aM=>?_⟩;by_cases iR:j=i;subst iR;exact ah.wpOp hi bh ⟨λ_ h=>h,H⟩;have:=Ji aM iR;rw[H.1] at this;cases this
 |succ gg aL=>
  intro listed a w I EJ O ah bh H;refine⟨λh=>(by rw[h] at O;cases O),λj aM=>?_⟩;by_cases iR:j=i;subst iR;exact ah.wpOp hi bh ⟨λ_ h=>h,H⟩
  .have h1:=H.2 j (Ji aM iR);obtain⟨L5,la,Ar,eh⟩:=vN.1 aM;have EU:=(vN.1 O).1;have L1:listed.getD i ax=ax:=by rcases j1 i listed.size with bL|bL;simp[bL] at EU ⊢;exact EU;simp[C5 bL] at EU
   have q6:∀e∈la.after,A5 .any e=ak->e.on≠i:=λe he Z Rr=>by have h1:=eh e he Z;rw[Rr,L1] at h1;cases h1
   have h2:=wpOp_putIf Ar (EJ j la Ar iR L5 q6) (λcs b=>oo i fw cs b hi) (λcs b=>oo j la cs b Ar) (λc a w h=>a6 h (e6 c _ w)) ah h1;have XL:∀k ok,ops[k]?=some ok->k≠i->(listed.setIfInBounds j ak).getD k ak=ax->
     (∀e∈ok.after,A5 .any e=ak->e.on≠i)->fw.apart ops ok=ak:=λk ok hk yA ud ed=>by
    refine EJ k ok hk yA ?_ ed
    by_cases EV:j=k
    subst EV;exact L5
    rw[getD_set_ne ak EV] at ud;exact ud
   have bY:(∀w,T w)∨(T=S/\nd j=ak):=by
    rcases aR with aR|⟨arF,aR⟩;exact .inl aR;refine .inr ⟨arF,?_⟩;cases ae:nd j with
    |true=>rfl|false=>rcases aR j ae with bL|bL;exact a6 bL iR;have:=amL I dc j i bL (λz ab e he Z=>by rw[Ar] at ab;cases ab;exact eh e he Z);rw[L1] at this;cases this
   refine wpOp_mono (λcM w' h3=>⟨h3.2.1,?_⟩) h2;have Xh:T w':=by rcases bY with bL|⟨rfl,bL⟩;exact bL w';exact h3.2.1 bL bh
   refine aL (listed.setIfInBounds j ak) cM w' (I.set aM) XL (Ji O (dv iR)) h3.1 Xh ?_;rw[Array.setIfInBounds_comm _ _ iR];exact h3.2.2
end
section
variable {P:dR} {ops:cu eF} {Q:kz->eo->b6->Prop} {R:N->b6->b6->Prop}
def wl(P:dR)(ops:cu eF)(Q:kz->eo->b6->Prop)(R:N->b6->b6->Prop):N->cu aI->eo->b6->Prop
 |0,listed,a,w=>ng .any ops listed=[]/\Q .normal a w|gg+1,listed,a,w=>
  (ng .any ops listed=[]->Q .normal a w)/\
  ∀i∈ng .any ops listed,wpOp P ops Q i (λcM w'=>R i w w'/\wl P ops Q R gg (listed.setIfInBounds i ak) cM w') a w
def acN:∀(gg:N) (listed:cu aI) (a:eo) (w:b6),wl P ops Q R gg listed a w->wpAny P .any ops Q gg listed a w
 |0,_,_,_,h=>h|gg+1,_,_,_,h=>⟨h.1,λi hi=>wpOp_mono (λcM w' bL=>acN gg _ cM w' bL.2) (h.2 i hi)⟩
def adU{fw:eF}{v:ao}{T:b6->Prop}(hi:ops[i]?=some fw)(oo:∀(j:N) (z:eF) cs b,ops[j]?=some z->z.op≠.select cs b)
  (e6:∀c a w,¬Q (.panic c) a w) (dc:N) (b1:∀w,R i w w) (aR:∀j,j=i∨waits ops dc j i=ak∨∀w w',R j w w'->T w->T w'):
  ∀(gg:N) (listed:cu aI) (a:eo) (w:b6),x3 ops listed->
   (∀j la,ops[j]?=some la->j≠i->listed.getD j ak=ax->(∀e∈la.after,A5 .any e=ak->e.on≠i)->fw.apart ops la=ak)->
   i∈ng .any ops listed->YieldsIf P ops T fw v a->T w->
   wl P ops Q R gg (listed.setIfInBounds i ak) (a.put fw.dst v) w->wl P ops Q R (gg+1) listed a w:=by
 intro gg
 induction gg with
 |zero=>intro listed a w _ _ O ah bh H;refine⟨λh=>(by rw[h] at O;cases O),λj aM=>?_⟩;by_cases iR:j=i;subst iR;exact ah.wpOp hi bh ⟨b1 _,H⟩;have:=Ji aM iR;rw[H.1] at this;cases this
 |succ gg aL=>
  intro listed a w I EJ O ah bh H;refine⟨λh=>(by rw[h] at O;cases O),λj aM=>?_⟩;by_cases iR:j=i;subst iR;exact ah.wpOp hi bh ⟨b1 _,H⟩
  .have h1:=H.2 j (Ji aM iR);obtain⟨L5,la,Ar,eh⟩:=vN.1 aM;have EU:=(vN.1 O).1;have L1:listed.getD i ax=ax:=by rcases j1 i listed.size with bL|bL;simp[bL] at EU ⊢;exact EU;simp[C5 bL] at EU
   have q6:∀e∈la.after,A5 .any e=ak->e.on≠i:=λe he Z Rr=>by have h1:=eh e he Z;rw[Rr,L1] at h1;cases h1
   have h2:=wpOp_putIf Ar (EJ j la Ar iR L5 q6) (λcs b=>oo i fw cs b hi) (λcs b=>oo j la cs b Ar) (λc a w h=>a6 h (e6 c _ w)) ah h1;have XL:∀k ok,ops[k]?=some ok->k≠i->(listed.setIfInBounds j ak).getD k ak=ax->
     (∀e∈ok.after,A5 .any e=ak->e.on≠i)->fw.apart ops ok=ak:=λk ok hk yA ud ed=>by
    refine EJ k ok hk yA ?_ ed
    by_cases EV:j=k
    subst EV;exact L5
    rw[getD_set_ne ak EV] at ud;exact ud
   have arH:∀w w',R j w w'->T w->T w':=by rcases aR j with bL|bL|bL;exact a6 bL iR;have:=amL I dc j i bL (λz ab e he Z=>by rw[Ar] at ab;cases ab;exact eh e he Z);rw[L1] at this;cases this;exact bL
   refine wpOp_mono (λcM w' h3=>⟨h3.2.1,?_⟩) h2;have Xh:T w':=arH _ _ h3.2.1 bh;refine aL (listed.setIfInBounds j ak) cM w' (I.set aM) XL (Ji O (dv iR)) h3.1 Xh ?_;rw[Array.setIfInBounds_comm _ _ iR];exact h3.2.2
end
def allI:J N->(N->Prop)->Prop
 | [],_=>True| [i],f=>f i|i::is,f=>f i/\allI is f
def adS{l:J N}{f:N->Prop}(h:allI l f):∀i∈l,f i:=by
 induction l with
 |nil=>intro i hi;cases hi
 |cons x l aL=>
  cases l with
  |nil=>intro i hi;simp only[fI] at hi;subst hi;exact h
  |cons y l=>
   intro i hi;cases hi with
   |head=>exact h.1|tail _ hi=>exact aL h.2 i hi
def Sk(ops:cu eF)(i:N):aI:=
 match ops[i]? with
 |some z=>match z.op with
  | .load _ _=>ak|_=>ax
 |none=>ax
def al0(z:eF):aI:=
 match z.op with
 | .alloc _| .box _ _| .buildSlice ..| .store ..| .mapUpdate ..| .insert ..| .makeMap ..| .makeSlice ..| .lookup ..| .next ..| .range ..| .entry ..| .entryStore ..| .mapEntry ..=>ax| .call c=>match c.callee with
  | .builtin .len| .builtin .cap| .builtin .min| .builtin .max=>ak|_=>ax
 |_=>ak
def early(ops:cu eF)(r:N):aI:=
 Sk ops r && (ox ops.size).all λj=>match ops[j]? with
  |some z=>al0 z ||!waits ops ops.size r j|none=>ak
def rk(ops:cu eF)(i:N):aI:=
 (ox ops.size).any λr=>early ops r && !(ji r i) && !waits ops ops.size i r
def SD(_:N):aI:=ax
def sC(C:kZ)(bz:N->aI)(ops:cu eF)(s:aN)(i:N)(u:H)(K:aN->H->Prop):Prop:=
 match ops[i]? with
 |none=>ej|some z=>Es s ops z λap want=>match want with
  |true=>wc C bz ap z u K|false=>K (ap.put z.dst (.v hQ)) u
def QF(C:kZ)(bz:N->aI)(ops:cu eF)(s:aN)(i:N)(u:H)(K:aN->H->Prop):Prop:=
 match ops[i]? with
 |none=>ej|some z=>Es s ops z λap want=>match want with
  |true=>match AK C ap z with
   |true=>wc C bz ap z u K|false=>ej
  |false=>K (ap.put z.dst (.v hQ)) u
def ajK(C:kZ)(ops:cu eF)(s:aN)(i:N):aI:=
 match ops[i]? with
 |none=>ax|some z=>AK C s z
def zV(C:kZ)(bz:N->aI)(ops:cu eF)(ai:H):N->cu aI->aI->aN->H->(aN->H->Prop)->Prop
 |0,_,_,_,_,_=>ej|gg+1,listed,flag,s,u,K=>
  match(ng .any ops listed).find? (λi=>ajK C ops s i && SU .any ops listed i) with
  |some i=>QF C bz ops s i u λap u'=>zV C bz ops ai gg (listed.setIfInBounds i ak) flag ap u' K|none=>match flag,(ng .any ops listed).find? (λi=>early ops i && SU .any ops listed i) with
   |true,some i=>sC C bz ops s i ai λap _=>zV C bz ops ai gg (listed.setIfInBounds i ak) ak ap u K|_,_=>match ng .any ops listed with
    | []=>K s u|r=>allI r λi=>match rk ops i with
     |true=>sC C SD ops s i u λap u'=>ai.le u'/\zV C bz ops ai gg (listed.setIfInBounds i ak) ax ap u' K|false=>sC C bz ops s i u λap u'=>zV C bz ops ai gg (listed.setIfInBounds i ak) ax ap u' K
def abw(ops:cu eF)(r:N):aI:=
 early ops r && (ox ops.size).all λj=>ji j r ||waits ops ops.size j r ||match ops[j]? with
  |some z=>al0 z|none=>ak
def FQ(ops:cu eF)(i:N):aI:=
 (ox ops.size).any λr=>early ops r && !abw ops r && !(ji r i) && !waits ops ops.size i r
def FR(ops:cu eF)(i:N):aI:=
 (ox ops.size).any λr=>abw ops r && !(ji r i) && !waits ops ops.size i r
def Sj(b:aI)(p q:Prop):Prop:=match b with
 |true=>p/\q|false=>q
def wF(C:kZ)(bz:N->aI)(ops:cu eF)(v0 ai:H):N->cu aI->aI->aN->H->(aN->H->Prop)->Prop
 |0,_,_,_,_,_=>ej|gg+1,listed,flag,s,u,K=>
  match(ng .any ops listed).find? (λi=>ajK C ops s i && SU .any ops listed i) with
  |some i=>QF C bz ops s i u λap u'=>wF C bz ops v0 ai gg (listed.setIfInBounds i ak) flag ap u' K|none=>match flag,(ng .any ops listed).find? (λi=>early ops i && SU .any ops listed i) with
   |true,some i=>match abw ops i with
    |true=>sC C bz ops s i ai λap _=>wF C bz ops v0 ai gg (listed.setIfInBounds i ak) ak ap u K|false=>sC C bz ops s i v0 λap _=>wF C bz ops v0 ai gg (listed.setIfInBounds i ak) ak ap u K
   |_,_=>match ng .any ops listed with
    | []=>K s u|r=>allI r λi=>match FQ ops i ||FR ops i with
     |true=>sC C SD ops s i u λap u'=>Sj (FQ ops i) (v0.le u') (Sj (FR ops i) (ai.le u') (wF C bz ops v0 ai gg (listed.setIfInBounds i ak) ax ap u' K))|false=>sC C bz ops s i u λap u'=>wF C bz ops v0 ai gg (listed.setIfInBounds i ak) ax ap u' K
def aiI{b:aI}{p q:Prop}(h:Sj b p q)(Z:b=ak):p:=by subst Z;exact h.1
def aiJ{b:aI}{p q:Prop}(h:Sj b p q):q:=by cases b with
 |true=>exact h.2|false=>exact h
end
section
variable{ds:N->aI}{w:b6}{s ap:aN}{ai:H}{gv:J (J ao)}{fC:J N}
def wx(P:dR)(it:ao)(u:H)(lA:H->Prop)(P2:ao->ao->H->Prop):Prop:=
 ∀w,Sub u w->∃w' u',((NX it ax 0).run P w=.ok (.tuple #[.bool ax]) w'/\lA u'∨∃k e,(NX it ax 0).run P w=.ok (.tuple #[.bool ak,k,e]) w'/\P2 k e u')/\Step u [] w u' [] w'
def ww(P:dR)(it:ao)(u:H)(K:ao->ao->H->Prop):Prop:=
 ∀w,Sub u w->∃k e w' u',(Instr.entry it).run P w=.ok (.tuple #[k,e]) w'/\K k e u'/\Step u [] w u' [] w'
def sn(t:aK)(v:ao)(f:t.den->Prop):Prop:=t.un v f
def Rp:ay ao->ay aI
 |some (.tuple vs)=>match vs.toList with
  |v::_=>match v with
   | .bool b=>some b|_=>none
  | []=>none
 |_=>none
def asq{x:ay ao}{b:aI}(h:Rp x=some b):∃vs,x=some (.tuple vs)/\vs[0]?=some (.bool b):=by unfold Rp at h;split at h;rename_i vs;split at h;rename_i v l ar;split at h;cases h;exact⟨vs,rfl,by rw[<-A6,ar];rfl⟩;cases h;cases h;cases h
def TU(C:kZ)(bz:N->aI)(s:aN)(z:eF)(u:H)(K:aN->H->Prop):Prop:=
 match z.op with
 | .call c=>match c.callee with
  | .value (.tmp t)=>match Pf s c.args,OG C.P z.type,look s.env t with
   |some vs,some ss,some (.v fv)=>tm C.P fv vs.toArray ss u (sy s z.dst ss K)|_,_,_=>ej
  |_=>wc C bz s z u K
 | .range t x=>match s.val x with
  |some v=>c4 C.P (rq t v) [.one .ptr] u (sy s z.dst [.one .ptr] K)|none=>ej
 | .next x ax=>match s.val x with
  |some v=>wx C.P v u (λu'=>K (s.put z.dst (.v (.tuple #[.bool ax]))) u') (λk e u'=>K (s.put z.dst (.v (.tuple #[.bool ak,k,e]))) u')|none=>ej
 | .entry x=>match s.val x with
  |some v=>ww C.P v u (λk e u'=>K (s.put z.dst (.v (.tuple #[k,e]))) u')|none=>ej
 | .extract (.tmp t) i=>match gA C.ob t with
  |true=>match s.val (.tmp t),qH C.P z.type with
   |some (.tuple vs),some (.one ct)=>match vs.toList[i]? with
    |some v=>sn ct v λy=>K (s.put z.dst (.v (ct.enc y))) u|none=>ej
   |_,_=>ej
  |false=>match gA C.ov t with
   |true=>match ji i 0,Rp (s.val (.tmp t)) with
    |true,some ak=>K (s.put z.dst .jL) u|true,some ax=>K (s.put z.dst .jP) u|_,_=>ej
   |false=>wc C bz s z u K
 |_=>wc C bz s z u K
def JR(C:kZ)(bz:N->aI)(all:cu eF):J eF->aN->H->(aN->H->Prop)->Prop
 | [],s,u,K=>K s u|z::rest,s,u,K=>Es s all z λap want=>match want with
  |true=>TU C bz ap z u λvY u'=>JR C bz all rest vY u' K|false=>JR C bz all rest (ap.put z.dst (.v hQ)) u K
abbrev Fr(ro:ay N):Fence:={uy with round:=ro}
def wm{P:dR}{z:eF}{a:eo}{next:eo->b6->Prop}{Q:kz->eo->b6->Prop}(ro:ay N)(aw:ro=none∨∀c,z.op≠.defer c)(h:z.wp P a w next Q):
  z.wpIn (Fr ro) 0 P a w next Q:=by
 refine⟨λ_ _=>trivial,?_⟩
 have e:z.semAt (Fr ro).round a.eval=fy a.eval z:=by rcases aw with rfl|aw;rfl;exact Oper.semAt_eq ro _ _ aw
 rw[e]
 unfold C6 at h
 cases O:(fy a.eval z).run P w with
 |ok aao w'=>
  rw[O] at h;cases aao with
  |value v=>exact h|skip=>exact h|defer d=>exact h|enter f args=>exact⟨λM=>by simp[Fr,uy] at M,(NY (n:=0-1)).2 h⟩|row row args=>exact⟨λM=>by simp[Fr,uy] at M,λc cs _=>let⟨v,dK,aO,ag⟩:=h c cs;⟨v,dK,aO,stepsIn_wide.2 ag⟩⟩|_=>exact h.elim
 |halt Y w'=>
  rw[O] at h;cases Y with
  |panic v=>exact h|_=>exact h.elim
def awZ{C:kZ}{bz:N->aI}{z:eF}{u:H}{K:aN->H->Prop}{bs:J N}{a:eo}{Q:kz->eo->b6->Prop}{ro:ay N}{fv:ao}{args:cu ao}{ss:J bj}
  (ac:Fits s bs u a w) (bY:∀c,z.op≠.defer c) (h:zB C.P fv args ss u (sy s z.dst ss K))
  (O:∀l,fv=.func (.yield l) #[] #[]->(fy a.eval z).run C.P w=(Instr.yield l args).run C.P w):z.wpIn (Fr ro) 0 C.P a w (lT bz K s bs u a w z.dst) Q:=by
 obtain⟨l,rfl,ah⟩:=h
 obtain⟨fn,tmps,assign,body,mV,MO⟩:=ah w ac.sub
 refine⟨λ_ _=>trivial,?_⟩
 have e:z.semAt (Fr ro).round a.eval=fy a.eval z:=Oper.semAt_eq ro _ _ bY
 rw[e,O l rfl,mV]
 refine⟨λM=>by simp[Fr,uy] at M,RoundIn.mono MO ?_⟩
 rintro e w' ⟨v,u',rfl,⟨vs,aA,rfl,aq⟩,ag⟩
 have mr:K (s.put z.dst (.v (wI ss vs))) u':=(O5 aA _).1 aq
 exact⟨_,u',bs,_,mr,(ac.step ag).put z.dst (x:=.v _) rfl,ag.L0 bs,rfl,Kept.put bz s z.dst _⟩
def aAA{C:kZ}{bz:N->aI}{z:eF}{u:H}{K:aN->H->Prop}{bs:J N}{a:eo}{Q:kz->eo->b6->Prop}{ro:ay N}
  (ft:Good C) (aw:ro=none∨∀c,z.op≠.defer c) (ac:Fits s bs u a w) (h:TU C bz s z u K):z.wpIn (Fr ro) 0 C.P a w (lT bz K s bs u a w z.dst) Q:=by
 unfold TU at h
 split at h
 rename_i c e
 split at h
 rename_i t I
 split at h
 rename_i vs ss fv aA vt M
 have HO:=amv ac.toFitsE aA
 have Iw:s.sv (.tmp t)=some (.v fv):=M
 rcases h with h|h
 refine wm ro aw (aks ft ac e ?_)
 rw[aA,vt,I]
 simp only[Iw]
 exact h
 refine awZ ac (λmS=>by rw[e];exact aaJ) h ?_
 rintro l rfl
 unfold fy;rw[e]
 simp only[resolve,I,yc ac.toFitsE Iw,SO,pure_bind,invoke,HO]
 simp
 exact h.elim
 exact wm ro aw (TW ft ac h)
 rename_i t x e
 split at h
 rename_i v aA
 refine wm ro aw (aaq ac h λY w' O=>.inl ?_)
 unfold fy;rw[e];simp only[ac.val aA,eS,O,jx];rfl
 exact h.elim
 rename_i x e
 split at h
 rename_i v aA
 obtain⟨w',u',aq,ag⟩:=h w ac.sub
 have run:∀Y,(NX v ax 0).run C.P w=.ok Y w'->(fy a.eval z).run C.P w=.ok (.value Y) w':=λY O=>by have cq:(NX v ax z.type).run C.P w=.ok Y w':=O;unfold fy;rw[e];simp only[ac.val aA,eS,cq,jx];rfl
 rcases aq with⟨O,aq⟩|⟨k,Y,O,aq⟩
 exact wm ro aw (NL ac (run _ O) ag aq)
 exact wm ro aw (NL ac (run _ O) ag aq)
 exact h.elim
 rename_i x e
 split at h
 rename_i v aA
 obtain⟨k,Y,w',u',O,aq,ag⟩:=h w ac.sub
 refine wm ro aw (NL ac ?_ ag aq)
 unfold fy;rw[e];simp only[ac.val aA,eS,O,jx];rfl
 exact h.elim
 rename_i t i e
 split at h
 split at h
 rename_i vs ct aA fk
 split at h
 rename_i v hi
 obtain⟨y,rfl,aq⟩:=aK.Ub h
 refine wm ro aw (NL ac ?_ (Step.refl ac.sub) aq)
 have ql:vs[i]?=some (ct.enc y):=by rw[<-A6];exact hi
 unfold fy;rw[e];simp only[ac.val aA,eS]
 simp[Instr.extract,ql]
 exact h.elim
 exact h.elim
 split at h
 have run:∀b,ji i 0=ak->Rp (s.val (.tmp t))=some b->(fy a.eval z).run C.P w=.ok (.value (.bool b)) w:=λb h0 Z=>by obtain⟨vs,aA,ql⟩:=asq Z;obtain rfl:=l1 h0;unfold fy;rw[e];simp only[ac.val aA,eS];simp[Instr.extract,ql]
 split at h
 rename_i h0 Z;exact wm ro aw (y2 ac (run _ h0 Z) rfl h)
 rename_i h0 Z;exact wm ro aw (y2 ac (run _ h0 Z) rfl h)
 exact h.elim
 exact wm ro aw (TW ft ac h)
 exact wm ro aw (TW ft ac h)
section
variable {C:kZ} {bz:N->aI} {s:aN} {z:eF} {u:H} {K:aN->H->Prop} {bs:J N} {a:eo} {w:b6} {Q:kz->eo->b6->Prop}
def Fits.told(ac:Fits s bs u a w)(ht:Told s ap bs a):Fits ap bs u a w:=
 ⟨ht.e,by rw[ht.loc];exact ac.len,by rw[ht.loc];exact ac.loc,ac.nodup,ac.b7,ac.sub⟩
def Kept.told{vY:aN}(ht:ap.loc=s.loc/\ap.n=s.n)(k:Kept bz ap vY):Kept bz s vY:=
 ⟨k.n.trans ht.2,by rw[<-ht.1];exact k.len,λi cs e=>k.same i cs (by rw[ht.1];exact e)⟩
def Oper.amO{F:Fence}{n:N}{P:dR}{z:eF}{a:eo}{next next':eo->b6->Prop}{Q:kz->eo->b6->Prop}(h:∀a w,next a w->next' a w)(hw:z.wpIn F n P a w next Q):
  z.wpIn F n P a w next' Q:=by
 refine⟨hw.1,?_⟩
 have h2:=hw.2
 generalize (z.semAt F.round a.eval).run P w=r at h2 ⊢
 cases r with
 |ok aao w'=>
  cases aao with
  |value v=>exact h _ _ h2|skip=>exact h _ _ h2|defer d=>exact h _ _ h2|enter f args=>exact⟨h2.1,h2.2.mono λe dK he=>by cases e<;>first|exact h _ _ he|exact he⟩
  |row row args=>exact⟨h2.1,h2.2.mono λv dK he=>h _ _ he⟩|round l f tmps assign body=>exact⟨h2.1,h2.2.mono λe dK he=>by cases e<;>first|exact h _ _ he|exact he⟩
  |_=>exact h2
 |halt Y w'=>cases Y<;>exact h2
def ap7(ft:Good C){all:cu eF}(ac:Fits s bs u a w)(h:Es s all z λap want=>match want with
  |true=>TU C bz ap z u K
  |false=>K (ap.put z.dst (.v hQ)) u) (ro:ay N) (bY:ro=none∨∀c,z.op≠.defer c):
  (uC z (yielded all a.tmps)=ak/\z.wpIn (Fr ro) 0 C.P a w (lT bz K s bs u a w z.dst) Q)∨
  (uC z (yielded all a.tmps)=ax/\lT bz K s bs u a w z.dst (a.put z.dst hQ) w):=by
 obtain⟨ap,want,bL,ht,hw⟩:=Hy h ac.toFitsE
 cases want with
 |true=>refine .inl ⟨hw,?_⟩;refine Oper.amO ?_ (aAA ft bY (ac.told ht) bL);rintro cM w' ⟨vY,u',c5,v,hk,dd,ag,aE,il⟩;exact⟨vY,u',c5,v,hk,dd,ag,aE,il.told ⟨ht.loc,ht.n⟩⟩
 |false=>refine .inr ⟨hw,?_⟩;exact⟨_,u,bs,hQ,bL,(ac.told ht).put z.dst (x:=.v hQ) rfl,Step.refl ac.sub,rfl,(Kept.put bz ap _ _).told ⟨ht.loc,ht.n⟩⟩
def aeX(ft:Good C){all:cu eF}(ac:Fits s bs u a w)(h:Es s all z λap want=>match want with
  |true=>wc C bz ap z u K
  |false=>K (ap.put z.dst (.v hQ)) u):
  (uC z (yielded all a.tmps)=ak/\z.wp C.P a w (lT bz K s bs u a w z.dst) Q)∨
  (uC z (yielded all a.tmps)=ax/\lT bz K s bs u a w z.dst (a.put z.dst hQ) w):=by
 obtain⟨ap,want,bL,ht,hw⟩:=Hy h ac.toFitsE
 cases want with
 |true=>refine .inl ⟨hw,?_⟩;refine Oper.wp_mono ?_ (TW ft (ac.told ht) bL);rintro cM w' ⟨vY,u',c5,v,hk,dd,ag,aE,il⟩;exact⟨vY,u',c5,v,hk,dd,ag,aE,il.told ⟨ht.loc,ht.n⟩⟩
 |false=>refine .inr ⟨hw,?_⟩;exact⟨_,u,bs,hQ,bL,(ac.told ht).put z.dst (x:=.v hQ) rfl,Step.refl ac.sub,rfl,(Kept.put bz ap _ _).told ⟨ht.loc,ht.n⟩⟩
def BI(bz:N->aI)(s:aN)(bs:J N)(u:H)(a:eo)(w:b6)(ds:N->aI)(K:aN->H->Prop)(R:eo->b6->Prop):Prop:=
 ∀ap u' c5 cM w',K ap u'->Fits ap c5 u' cM w'->Step u bs w u' c5 w'->Kept bz s ap->(∀d,ds d=ax->cM.tmps[d]?=a.tmps[d]?)->R cM w'
def BI.next{u':H}{c5:J N}{cM:eo}{w':b6}{R:eo->b6->Prop}(h:BI bz s bs u a w ds K R)
  (ag:Step u bs w u' c5 w') (hk:Kept bz s ap) (aE:∀d,ds d=ax->cM.tmps[d]?=a.tmps[d]?):BI bz ap c5 u' cM w' ds K R:=
 λs2 c9 Hj a2 dK cS f2 h2 dO d2=>h s2 c9 Hj a2 dK cS f2 (ag.trans h2) (hk.trans dO) λd aw=>(d2 d aw).trans (aE d aw)
def aaD{dst:ay Tmp}{v:ao}(h:∀d,dst=some d->ds d=ak):∀d,ds d=ax->(a.put dst v).tmps[d]?=a.tmps[d]?:=by
 intro d aw;cases dst with
 |none=>rfl|some x=>rw[aaE,az];rintro⟨rfl,_⟩;rw[h x rfl] at aw;cases aw
def akI(ft:Good C)(ro:ay N){all:cu eF}:∀(l:J eF) (s:aN) (u:H) (bs:J N) (a:eo) (w:b6),JR C bz all l s u K->Fits s bs u a w->
  (ro=none∨∀z∈l,∀c,z.op≠.defer c)->(∀z∈l,∀d,z.dst=some d->ds d=ak)->BI bz s bs u a w ds K (Q .normal)->wpListIn (Fr ro) 0 C.P all Q l a w:=by
 intro l
 induction l with
 |nil=>intro s u bs a w h ac _ _ I;exact I s u bs a w h ac (Step.refl ac.sub) (Kept.refl _ _) λ_ _=>rfl
 |cons z rest aL=>
  intro s u bs a w h ac bY aw I;have vr:∀b5∈rest,∀d,b5.dst=some d->ds d=ak:=λb5 bQ=>aw b5 (.tail _ bQ);have eI:∀v,∀d,ds d=ax->(a.put z.dst v).tmps[d]?=a.tmps[d]?:=λv=>aaD (aw z (.head _));have key:∀cM w',lT bz (λvY u'=>JR C bz all rest vY u' K) s bs u a w z.dst cM w'->wpListIn (Fr ro) 0 C.P all Q rest cM w':=by rintro cM w' ⟨ap,u',c5,v,hk,dd,ag,rfl,il⟩;exact aL ap u' c5 _ w' hk dd (bY.imp id λh b5 bQ=>h b5 (.tail _ bQ)) vr (I.next ag il (eI v))
  simp only[wpListIn];rcases ap7 (Q:=Q) ft (K:=λvY u'=>JR C bz all rest vY u' K) ac h ro (bY.imp id λh=>h z (.head _)) with⟨hw,h1⟩|⟨hw,h1⟩;rw[aV hw];exact Oper.amO key h1;rw[az (by rw[hw];simp)];exact⟨λ_ _=>trivial,key _ _ h1⟩
def left(listed:cu aI):N:=listed.toList.count ax
def FM{listed:cu aI}{i:N}(h:listed.getD i ak=ax):left (listed.setIfInBounds i ak)+1=left listed:=by
 have bC:i<listed.size:=by rcases j1 i listed.size with k|k;exact k;simp[C5 k] at h
 have key:∀(l:J aI) (i:N),l[i]?=some ax->(l.set i ak).count ax+1=l.count ax:=by
  intro l;induction l with
  |nil=>intro i h;simp at h
  |cons x l aL=>
   intro i h;cases i with
   |zero=>simp at h;subst h;simp|succ i=>simp only[xC] at h;have:=aL i h;simp only[Jj,List.count_cons];omega
 unfold left;rw[Array.toList_setIfInBounds];refine key _ i ?_;simp[bC] at h;rw[A6,xz bC,h]
def akf{ops:cu eF}{listed:cu aI}(h:left listed=0):ng .any ops listed=[]:=by
 cases O:ng .any ops listed with
 |nil=>rfl|cons i l=>
  have hi:i∈ng .any ops listed:=by rw[O];exact .head _
  have:=FM (vN.1 hi).1;omega
def ai4(ac:FitsE s bs a){t:dC}{x:jw}(e:z.op=.load t x)(h:wc C bz s z u K):P3 C s z u K bs a:=by unfold wc at h;rw[e] at h;simp only at h;split at h;rename_i i off aG M fk;split at h;rename_i cs ar;split at h;rename_i Z;exact akx ac e M fk ar (F8 Z) h;exact h.elim;exact h.elim;rename_i p aG M fk;exact aky ac e M fk h;exact h.elim
def QI{l:J N}{p:N->aI}{i:N}(h:l.find? p=some i):i∈l/\p i=ak:=
 ⟨Jk h,Jl h⟩
def aeJ(ft:Good C){ops:cu eF}(oo:Region.noSelect ops=ak)
  (e6:∀c a w,¬Q (.panic c) a w) (aw:∀(z:eF),z∈ops.toList->∀d,z.dst=some d->ds d=ak):
  ∀(f:N) (listed:cu aI) (flag:aI) (s:aN) (u:H),zV C bz ops ai f listed flag s u K->∀(bs:J N) (a:eo) (w:b6) (g:N),Fits s bs u a w->
   x3 ops listed->left listed<=g->(flag=ak->ai.le u/\s.loc=gv/\bs=fC)->(∃ext,bs=fC++ext)->BI bz s bs u a w ds K (Q .normal)->
   xZ C.P ops Q (rk ops) (jl gv fC ai) g listed a w:=by
 intro f
 induction f with
 |zero=>intro listed flag s u h;exact h.elim
 |succ f aL=>
  intro listed flag s u h bs a w g ac I W LU Au wQ;have eI:∀(i:N) (z:eF),ops[i]?=some z->∀v,∀d,ds d=ax->(a.put z.dst v).tmps[d]?=a.tmps[d]?:=λi z ab v=>
   aaD (aw z (by rw[F3];exact SV ab))
  unfold zV at h;split at h
  ·
   rename_i i wU;obtain⟨hi,ad⟩:=QI wU;simp only[pb] at ad;have ar:=FM (vN.1 hi).1;obtain⟨g,rfl⟩:∃m,g=m+1:=⟨g-1,by omega⟩;unfold QF at h;split at h;exact h.elim
   .rename_i fw jf;obtain⟨ap,want,bL,ht,hw⟩:=Hy h ac.toFitsE;have wT:=ac.told ht;have fin:∀y v,hj bs y=some v->zV C bz ops ai f (listed.setIfInBounds i ak) flag (ap.put fw.dst y) u K->YieldsIf C.P ops (λ_=>True) fw v a->
      xZ C.P ops Q (rk ops) (jl gv fC ai) (g+1) listed a w:=by
     intro y v rN aq ah
     refine adT jf (SX oo) e6 0 (T:=λ_=>True) (.inl λ_=>trivial) g listed a w I (λj la aM al ud ed=>SY jf ad.2 j la aM al ud ed) hi ah trivial ?_
     have hI:=wT.put fw.dst rN
     refine aL _ flag _ u aq bs _ w g hI (I.set hi) (by omega) ?_ Au ?_
     intro mT
     obtain⟨aP,aC,c0⟩:=LU mT
     exact⟨aP,by rw[(mD _ _ _).1,ht.loc];exact aC,c0⟩
     exact wQ.next (Step.refl ac.sub) ((Kept.put bz ap _ _).told ⟨ht.loc,ht.n⟩) (eI i fw jf v)
    cases want with
    |true=>simp only at bL;split at bL;rename_i jV;obtain⟨y,v,aq,rN,O⟩:=ajL ft ht.e jV bL;exact fin y v rN aq (.inl ⟨hw,λw' _=>O w'⟩);exact bL.elim
    |false=>exact fin (.v hQ) hQ rfl bL (.inr ⟨hw,rfl⟩)
  .split at h
   ·
    rename_i i wU;obtain⟨hi,ad⟩:=QI wU;simp only[pb] at ad;have ar:=FM (vN.1 hi).1;obtain⟨g,rfl⟩:∃m,g=m+1:=⟨g-1,by omega⟩;obtain⟨yB,tQ,kb⟩:=LU rfl;unfold sC at h;split at h;exact h.elim
    .rename_i fw jf;obtain⟨ap,want,bL,ht,hw⟩:=Hy h ac.toFitsE;have wT:=ac.told ht;have Xd:jl gv fC ai w:=by rw[<-tQ,<-kb];exact⟨ac.loc,ac.sub.mono yB⟩
     have sK:=ad.1;have Mb:∃t x,fw.op=.load t x:=by unfold early Sk at sK;rw[jf] at sK;simp only[pb] at sK;have h1:=sK.1;split at h1;rename_i t x e;exact⟨t,x,e⟩;cases h1
     have aR:∀j,rk ops j=ax->j=i∨waits ops ops.size j i=ak:=by
      intro j aM;unfold rk at aM;have bC:i<ops.size:=(xE.1 jf).1;have:=aaK.1 aM i (Jm.2 bC);simp only[pb,Jn,not_and,aaL] at this;by_cases iR:j=i;exact .inl iR;refine .inr (this ⟨sK,?_⟩);cases Z:ji i j with
      |false=>rfl|true=>exact a6 (l1 Z).symm iR
     have fin:∀y v,hj bs y=some v->zV C bz ops ai f (listed.setIfInBounds i ak) ak (ap.put fw.dst y) u K->YieldsIf C.P ops (jl gv fC ai) fw v a->
       xZ C.P ops Q (rk ops) (jl gv fC ai) (g+1) listed a w:=by
      intro y v rN aq ah
      refine adT jf (SX oo) e6 ops.size (T:=jl gv fC ai) (.inr ⟨rfl,aR⟩) g listed a w I (λj la aM al ud ed=>SY jf ad.2 j la aM al ud ed) hi ah Xd ?_
      have hI:=wT.put fw.dst rN
      refine aL _ ak _ u aq bs _ w g hI (I.set hi) (by omega) ?_ Au ?_
      exact λ_=>⟨yB,by rw[(mD _ _ _).1,ht.loc];exact tQ,kb⟩
      exact wQ.next (Step.refl ac.sub) ((Kept.put bz ap _ _).told ⟨ht.loc,ht.n⟩) (eI i fw jf v)
     cases want with
     |true=>obtain⟨t,x,e⟩:=Mb;obtain⟨y,v,aq,rN,O⟩:=ai4 ht.e e bL;exact fin y v rN aq (.inl ⟨hw,λw' kT=>O w' (by rw[ht.loc,tQ,kb];exact kT)⟩)
     |false=>exact fin (.v hQ) hQ rfl bL (.inr ⟨hw,rfl⟩)
   ·
    cases nK:ng .any ops listed with
    |nil=>
     have MM:=nK;rw[nK] at h;have Lw:=wQ s u bs a w h ac (Step.refl ac.sub) (Kept.refl _ _) λ_ _=>rfl;cases g with
     |zero=>exact⟨MM,Lw⟩|succ g=>exact⟨λ_=>Lw,by rw[MM];intro i hi;cases hi⟩
    |cons i0 jH=>
     have al:ng .any ops listed≠[]:=by rw[nK];simp
     rw[nK] at h;simp only at h;have ik:∃m,g=m+1:=by
      cases g with
      |zero=>exact a6 (akf (ops:=ops) (by omega)) al|succ m=>exact⟨m,rfl⟩
     obtain⟨g,rfl⟩:=ik;refine⟨λe=>a6 e al,λi hi=>?_⟩;have ar:=FM (vN.1 hi).1;have h1:=adS h i (by rw[<-nK];exact hi);unfold wpOp;have step:∀(wt:N->aI) (fA:aN->H->Prop),(∀s1 s2,Kept wt s1 s2->Kept bz s1 s2)->sC C wt ops s i u fA->
       (∀fw,ops[i]?=some fw->∀cM w',lT wt fA s bs u a w fw.dst cM w'->(rk ops i=ak->jl gv fC ai w->jl gv fC ai w')/\xZ C.P ops Q (rk ops) (jl gv fC ai) g (listed.setIfInBounds i ak) cM w')->
       (match ops[i]? with
        |none=>(rk ops i=ak->jl gv fC ai w->jl gv fC ai w)/\xZ C.P ops Q (rk ops) (jl gv fC ai) g (listed.setIfInBounds i ak) a w|some z=>if uC z (yielded ops a.tmps)=ak then(z.wp C.P a w (λcM w'=>(rk ops i=ak->jl gv fC ai w->jl gv fC ai w')/\xZ C.P ops Q (rk ops) (jl gv fC ai) g (listed.setIfInBounds i ak) cM w') Q)∨(z.asks C.P a w/\LetsOut Q)
         else(rk ops i=ak->jl gv fC ai w->jl gv fC ai w)/\xZ C.P ops Q (rk ops) (jl gv fC ai) g (listed.setIfInBounds i ak) (a.put z.dst hQ) w):=by
      intro wt fA _ M Mt
      unfold sC at M
      split at M
      exact M.elim
      rename_i fw jf
      try rw[jf]
      show(if uC fw (yielded ops a.tmps)=ak then _ else _)
      rcases aeX (Q:=Q) ft ac M with⟨hw,h2⟩|⟨hw,h2⟩
      rw[aV hw]
      exact .inl (Oper.wp_mono (Mt fw jf) h2)
      rw[az (by rw[hw];simp)]
      exact Mt fw jf _ _ h2
     split at h1;rename_i bY;refine step SD _ (λs1 s2 k=>⟨k.n,k.len,λi cs e _=>k.same i cs e rfl⟩) h1 ?_;rintro fw jf cM w' ⟨ap,u',c5,v,⟨hle,aq⟩,dd,ag,rfl,il⟩;obtain⟨ext,vi⟩:=Au;obtain⟨Em,Ad,_⟩:=ag.more;have X6:Kept bz s ap:=⟨il.n,il.len,λi cs e _=>il.same i cs e rfl⟩;refine⟨λ_ bh=>⟨λj cs e=>?_,dd.sub.mono hle⟩,aL _ ax ap u' aq c5 _ w' g dd (I.set hi) (by omega) (λe=>by cases e) ⟨ext++Em,by rw[Ad,vi,nf]⟩ (wQ.next ag X6 (eI i fw jf v))⟩;obtain⟨b,T,ii,jS⟩:=bh.loc j cs e;have ku:j<fC.length:=by rcases j1 j fC.length with k|k;exact k;rw[io k] at ii;cases ii
     have Ab:bs[j]?=some b:=by rw[vi,qy ku];exact ii
     have EW:j<s.loc.length:=by rw[<-ac.len];rcases j1 j bs.length with k|k;exact k;rw[io k] at Ab;cases Ab
     obtain⟨zM,bx,bE,fO⟩:=ac.loc j _ (cn EW);rw[Ab] at bE;cases bE;rw[jS] at fO;simp only[j2,Obj.cells.injEq] at fO;have dU:cs=s.loc[j]:=by have:=dV Array.toList fO.1;simpa using this
     have kL:=il.same j _ (cn EW) rfl;obtain⟨gP,DZ,mo,mq⟩:=dd.loc j _ kL;refine⟨b,DZ,ii,?_⟩;have X2:j<bs.length:=by rw[ac.len];exact EW
     rw[Ad,qy X2,Ab] at mo;cases mo;rw[dU];exact mq;rename_i bY;refine step bz _ (λ_ _ k=>k) h1 ?_;rintro fw jf cM w' ⟨ap,u',c5,v,aq,dd,ag,rfl,il⟩;obtain⟨ext,vi⟩:=Au;obtain⟨Em,Ad,_⟩:=ag.more;exact⟨(λe=>by rw[bY] at e;cases e),aL _ ax ap u' aq c5 _ w' g dd (I.set hi) (by omega) (λe=>by cases e) ⟨ext++Em,by rw[Ad,vi,nf]⟩ (wQ.next ag il (eI i fw jf v))⟩
def oG(ops:cu eF)(gv:J (J ao))(fC:J N)(v0 ai:H)(i:N)(w w':b6):Prop:=
 (FQ ops i=ak->jl gv fC v0 w->jl gv fC v0 w')/\(FR ops i=ak->jl gv fC ai w->jl gv fC ai w')
def oG.refl{ops:cu eF}{v0:H}(i:N)(w:b6):oG ops gv fC v0 ai i w w:=⟨λ_ h=>h,λ_ h=>h⟩
def aeI(ft:Good C){ops:cu eF}{v0:H}(IA:v0.le ai)(oo:Region.noSelect ops=ak)
  (e6:∀c a w,¬Q (.panic c) a w) (aw:∀(z:eF),z∈ops.toList->∀d,z.dst=some d->ds d=ak):
  ∀(f:N) (listed:cu aI) (flag:aI) (s:aN) (u:H),wF C bz ops v0 ai f listed flag s u K->∀(bs:J N) (a:eo) (w:b6) (g:N),Fits s bs u a w->
   x3 ops listed->left listed<=g->(flag=ak->ai.le u/\s.loc=gv/\bs=fC)->(∃ext,bs=fC++ext)->BI bz s bs u a w ds K (Q .normal)->
   wl C.P ops Q (oG ops gv fC v0 ai) g listed a w:=by
 intro f
 induction f with
 |zero=>intro listed flag s u h;exact h.elim
 |succ f aL=>
  intro listed flag s u h bs a w g ac I W LU Au wQ;have eI:∀(i:N) (z:eF),ops[i]?=some z->∀v,∀d,ds d=ax->(a.put z.dst v).tmps[d]?=a.tmps[d]?:=λi z ab v=>
   aaD (aw z (by rw[F3];exact SV ab))
  unfold wF at h;split at h
  ·
   rename_i i wU;obtain⟨hi,ad⟩:=QI wU;simp only[pb] at ad;have ar:=FM (vN.1 hi).1;obtain⟨g,rfl⟩:∃m,g=m+1:=⟨g-1,by omega⟩;unfold QF at h;split at h;exact h.elim
   .rename_i fw jf;obtain⟨ap,want,bL,ht,hw⟩:=Hy h ac.toFitsE;have wT:=ac.told ht;have fin:∀y v,hj bs y=some v->wF C bz ops v0 ai f (listed.setIfInBounds i ak) flag (ap.put fw.dst y) u K->YieldsIf C.P ops (λ_=>True) fw v a->
      wl C.P ops Q (oG ops gv fC v0 ai) (g+1) listed a w:=by
     intro y v rN aq ah
     refine adU jf (SX oo) e6 0 (T:=λ_=>True) (λw=>oG.refl _ w) (λj=>.inr (.inr λ_ _ _ _=>trivial)) g listed a w I (λj la aM al ud ed=>SY jf ad.2 j la aM al ud ed) hi ah trivial ?_
     have hI:=wT.put fw.dst rN
     refine aL _ flag _ u aq bs _ w g hI (I.set hi) (by omega) ?_ Au ?_
     intro mT
     obtain⟨aP,aC,c0⟩:=LU mT
     exact⟨aP,by rw[(mD _ _ _).1,ht.loc];exact aC,c0⟩
     exact wQ.next (Step.refl ac.sub) ((Kept.put bz ap _ _).told ⟨ht.loc,ht.n⟩) (eI i fw jf v)
    cases want with
    |true=>simp only at bL;split at bL;rename_i jV;obtain⟨y,v,aq,rN,O⟩:=ajL ft ht.e jV bL;exact fin y v rN aq (.inl ⟨hw,λw' _=>O w'⟩);exact bL.elim
    |false=>exact fin (.v hQ) hQ rfl bL (.inr ⟨hw,rfl⟩)
  .split at h
   ·
    rename_i i wU;obtain⟨hi,ad⟩:=QI wU;simp only[pb] at ad;have ar:=FM (vN.1 hi).1;obtain⟨g,rfl⟩:∃m,g=m+1:=⟨g-1,by omega⟩;obtain⟨yB,tQ,kb⟩:=LU rfl;have sK:=ad.1;have key:∀x:H,x.le u->(∀j,j=i∨waits ops ops.size j i=ak∨∀w w',oG ops gv fC v0 ai j w w'->jl gv fC x w->jl gv fC x w')->
      sC C bz ops s i x (λap _=>wF C bz ops v0 ai f (listed.setIfInBounds i ak) ak ap u K)->wl C.P ops Q (oG ops gv fC v0 ai) (g+1) listed a w:=by
     intro x ave aR h
     unfold sC at h
     split at h
     exact h.elim
     .rename_i fw jf;obtain⟨ap,want,bL,ht,hw⟩:=Hy h ac.toFitsE;have wT:=ac.told ht;have Xd:jl gv fC x w:=by rw[<-tQ,<-kb];exact⟨ac.loc,ac.sub.mono ave⟩
      have Mb:∃t x,fw.op=.load t x:=by unfold early Sk at sK;rw[jf] at sK;simp only[pb] at sK;have h1:=sK.1;split at h1;rename_i t x e;exact⟨t,x,e⟩;cases h1
      have fin:∀y v,hj bs y=some v->wF C bz ops v0 ai f (listed.setIfInBounds i ak) ak (ap.put fw.dst y) u K->YieldsIf C.P ops (jl gv fC x) fw v a->
        wl C.P ops Q (oG ops gv fC v0 ai) (g+1) listed a w:=by
       intro y v rN aq ah
       refine adU jf (SX oo) e6 ops.size (T:=jl gv fC x) (λw=>oG.refl _ w) aR g listed a w I (λj la aM al ud ed=>SY jf ad.2 j la aM al ud ed) hi ah Xd ?_
       have hI:=wT.put fw.dst rN
       refine aL _ ak _ u aq bs _ w g hI (I.set hi) (by omega) ?_ Au ?_
       exact λ_=>⟨yB,by rw[(mD _ _ _).1,ht.loc];exact tQ,kb⟩
       exact wQ.next (Step.refl ac.sub) ((Kept.put bz ap _ _).told ⟨ht.loc,ht.n⟩) (eI i fw jf v)
      cases want with
      |true=>obtain⟨t,jk,e⟩:=Mb;obtain⟨y,v,aq,rN,O⟩:=ai4 ht.e e bL;exact fin y v rN aq (.inl ⟨hw,λw' kT=>O w' (by rw[ht.loc,tQ,kb];exact kT)⟩)
      |false=>exact fin (.v hQ) hQ rfl bL (.inr ⟨hw,rfl⟩)
    have bC:i<ops.size:=by unfold early Sk at sK;rcases j1 i ops.size with k|k;exact k;rw[C5 k] at sK;simp at sK
    have beq:∀j,(!(ji i j))=ax->j=i:=λj Z=>by
     cases M:ji i j with
     |false=>rw[M] at Z;cases Z
     |true=>exact(l1 M).symm
    split at h;rename_i ag;refine key ai yB (λj=>?_) h;by_cases ae:FR ops j=ak;exact .inr (.inr λw w' O=>O.2 ae);have hJ:FR ops j=ax:=by cases M:FR ops j with
      |false=>rfl|true=>exact a6 M ae
    unfold FR at hJ;have:=aaK.1 hJ i (Jm.2 bC);simp only[ag,Bool.true_and,pb,not_and,Jn,aaL] at this;by_cases iR:j=i;exact .inl iR;refine .inr (.inl (this ?_));cases Z:ji i j with
    |false=>rfl|true=>exact a6 (l1 Z).symm iR
    rename_i ag;refine key v0 (IA.trans yB) (λj=>?_) h;by_cases ae:FQ ops j=ak;exact .inr (.inr λw w' O=>O.1 ae);have hJ:FQ ops j=ax:=by cases M:FQ ops j with
      |false=>rfl|true=>exact a6 M ae
    unfold FQ at hJ;have:=aaK.1 hJ i (Jm.2 bC);simp only[ag,sK,Bool.not_false,Bool.true_and,pb,not_and,Jn,aaL] at this;by_cases iR:j=i;exact .inl iR;refine .inr (.inl (this ?_));cases Z:ji i j with
    |false=>rfl|true=>exact a6 (l1 Z).symm iR
   ·
    cases nK:ng .any ops listed with
    |nil=>
     have MM:=nK;rw[nK] at h;have Lw:=wQ s u bs a w h ac (Step.refl ac.sub) (Kept.refl _ _) λ_ _=>rfl;cases g with
     |zero=>exact⟨MM,Lw⟩|succ g=>exact⟨λ_=>Lw,by rw[MM];intro i hi;cases hi⟩
    |cons i0 jH=>
     have al:ng .any ops listed≠[]:=by rw[nK];simp
     rw[nK] at h;simp only at h;have ik:∃m,g=m+1:=by
      cases g with
      |zero=>exact a6 (akf (ops:=ops) (by omega)) al|succ m=>exact⟨m,rfl⟩
     obtain⟨g,rfl⟩:=ik;refine⟨λe=>a6 e al,λi hi=>?_⟩;have ar:=FM (vN.1 hi).1;have h1:=adS h i (by rw[<-nK];exact hi);unfold wpOp;have step:∀(wt:N->aI) (fA:aN->H->Prop),(∀s1 s2,Kept wt s1 s2->Kept bz s1 s2)->sC C wt ops s i u fA->
       (∀fw,ops[i]?=some fw->∀cM w',lT wt fA s bs u a w fw.dst cM w'->oG ops gv fC v0 ai i w w'/\wl C.P ops Q (oG ops gv fC v0 ai) g (listed.setIfInBounds i ak) cM w')->
       (match ops[i]? with
        |none=>oG ops gv fC v0 ai i w w/\wl C.P ops Q (oG ops gv fC v0 ai) g (listed.setIfInBounds i ak) a w|some z=>if uC z (yielded ops a.tmps)=ak then(z.wp C.P a w (λcM w'=>oG ops gv fC v0 ai i w w'/\wl C.P ops Q (oG ops gv fC v0 ai) g (listed.setIfInBounds i ak) cM w') Q)∨(z.asks C.P a w/\LetsOut Q)
         else oG ops gv fC v0 ai i w w/\wl C.P ops Q (oG ops gv fC v0 ai) g (listed.setIfInBounds i ak) (a.put z.dst hQ) w):=by
      intro wt fA _ M Mt
      unfold sC at M
      split at M
      exact M.elim
      rename_i fw jf
      try rw[jf]
      show(if uC fw (yielded ops a.tmps)=ak then _ else _)
      rcases aeX (Q:=Q) ft ac M with⟨hw,h2⟩|⟨hw,h2⟩
      rw[aV hw]
      exact .inl (Oper.wp_mono (Mt fw jf) h2)
      rw[az (by rw[hw];simp)]
      exact Mt fw jf _ _ h2
     split at h1;rename_i bY;refine step SD _ (λs1 s2 k=>⟨k.n,k.len,λi cs e _=>k.same i cs e rfl⟩) h1 ?_;rintro fw jf cM w' ⟨ap,u',c5,v,ii,dd,ag,rfl,il⟩;have jS:=aiJ ii;have aq:=aiJ jS;obtain⟨ext,vi⟩:=Au;obtain⟨Em,Ad,_⟩:=ag.more;have X6:Kept bz s ap:=⟨il.n,il.len,λi cs e _=>il.same i cs e rfl⟩;have stay:∀x:H,x.le u'->jl gv fC x w->jl gv fC x w':=by
      intro x hle bh;refine⟨λj cs e=>?_,dd.sub.mono hle⟩;obtain⟨b,T,ii,jS⟩:=bh.loc j cs e;have ku:j<fC.length:=by rcases j1 j fC.length with k|k;exact k;rw[io k] at ii;cases ii
      have Ab:bs[j]?=some b:=by rw[vi,qy ku];exact ii
      have EW:j<s.loc.length:=by rw[<-ac.len];rcases j1 j bs.length with k|k;exact k;rw[io k] at Ab;cases Ab
      obtain⟨zM,bx,bE,fO⟩:=ac.loc j _ (cn EW);rw[Ab] at bE;cases bE;rw[jS] at fO;simp only[j2,Obj.cells.injEq] at fO;have dU:cs=s.loc[j]:=by have:=dV Array.toList fO.1;simpa using this
      have kL:=il.same j _ (cn EW) rfl;obtain⟨gP,DZ,mo,mq⟩:=dd.loc j _ kL;refine⟨b,DZ,ii,?_⟩;have X2:j<bs.length:=by rw[ac.len];exact EW
      rw[Ad,qy X2,Ab] at mo;cases mo;rw[dU];exact mq
     exact⟨⟨λae=>stay v0 (aiI ii ae),λae=>stay ai (aiI jS ae)⟩,aL _ ax ap u' aq c5 _ w' g dd (I.set hi) (by omega) (λe=>by cases e) ⟨ext++Em,by rw[Ad,vi,nf]⟩ (wQ.next ag X6 (eI i fw jf v))⟩;rename_i bY;refine step bz _ (λ_ _ k=>k) h1 ?_;rintro fw jf cM w' ⟨ap,u',c5,v,aq,dd,ag,rfl,il⟩;obtain⟨ext,vi⟩:=Au;obtain⟨Em,Ad,_⟩:=ag.more;rw[y6] at bY;exact⟨⟨λe=>(by rw[bY.1] at e;cases e),λe=>(by rw[bY.2] at e;cases e)⟩,aL _ ax ap u' aq c5 _ w' g dd (I.set hi) (by omega) (λe=>by cases e) ⟨ext++Em,by rw[Ad,vi,nf]⟩ (wQ.next ag il (eI i fw jf v))⟩
end
end
