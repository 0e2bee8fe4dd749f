/- Texts of mine, joined and packed by pack.py. -/
import Derived.WalkKit
import Derived.Orders
import Derived.RangeFuncSeq
import Derived.TacticsIn
import Derived.OrdersHeld
import Derived.Scope
import Derived.RangeFuncLeaves
import Derived.RangeFuncRecord
import Derived.Test.YtejdhbfjjgcljaaGreatDoorProg
import Derived.Laws.StructEq
import Derived.ChangeKeysEq
import Derived.KernelRfl
import Derived.Laws.MathBits
import Derived.Laws.Externs
import Derived.IntWalk
import Derived.DataElems
set_option linter.all false
open Go renaming Program->dY,Value->ap,World->b7,TypeId->dJ,FuncId->kM,Addr->bc,IntKind->x7,Operand->jX,Act->eo,undef->ih,Oper->eI,execOp->fD,callFunc->p0,Exit->k4,Code->iP
open _root_ renaming Nat->N,List->M,Option->ay,Array->cw,Int->o,Bool->aK,False->eh,absurd->aW,inferInstance->tn
open Go.World renaming cell?->PU,setCell->acE,frozen?->Hw
open Bool renaming true->ak,false->ax
open Nat renaming beq->ju,blt->zJ,ble->wm,strongRecOn->D9
open Go.Obj renaming cells->bC
open Go.Sem renaming run->rH
open Go.IntKind renaming i64->cq,wrap->cz,signed->Hu,bits->Hv,u64->bR
open Go.Fence renaming wide->uV
open Go.Made renaming depth->uW
open Go.Instr renaming lookup->gY,mapUpdate->lx,makeMap->rI,makeSlice->to,sliceAt->h6,buildSlice->dL,typeAssert->tp,range->rJ,next->PW,sureAddr->K4
open Go.Builtin renaming append_->ey,delete_->tq,len_->rK,clear_->p1
open Go.Oper renaming wp->D5
open Go.Deferred renaming ofValue->Ux
open Go.Result renaming ok->zK,andThen->jL
open Go.Addr renaming add->ev
open Go.Op renaming equalIn->zL,noConfusion->acG,eqFields->acM
open Go.Value renaming iface->mj,agg->c3,bool->mP,map->dP
open Go.Region renaming wanted->uY,binds->BY,ready->nx,free->UC,noSelect->acH
open List renaming range->lM
open Array renaming replicate->D8
open Go.Exit renaming noConfusion->rM
open Go.Proofs.Tryz renaming prog->aH
open Eq renaming mp->p3
set_option maxRecDepth 100000
noncomputable section
namespace Go.Proofs.YtejdhbfjjgcljaaGreatDoor
def D4:=@Array.getElem?_eq_none
def kC:=@Nat.lt_or_ge
def cA:=@Nat.le_refl
def jg:=@Nat.le_trans
def n5:=@List.append_assoc
def KX:=@Nat.lt_of_lt_of_le
def cN:=@List.mem_append
def BS:=@Iff.rfl
def mh:=@Nat.eq_of_beq_eq_true
def BT:=@Array.getD_eq_getD_getElem?
def kb:=@Option.some.injEq
def cU:=@Option.some.inj
def aF:=@if_neg
def a1:=@if_pos
def dK:=@List.mem_of_getElem?
def PV:=@List.all_eq_true
def Ht:=@Array.mem_toList_iff
def KY:=@Option.isSome_iff_exists
def KZ:=@decide_eq_true_eq
def acC:=@List.mapM_cons
def acD:=@Option.bind_eq_some_iff
def gm:=@List.map_cons
def K0:=@Array.ext'
def eW:=@Go.Sem.run_bind
def jK:=@Go.Result.andThen_ok
def PX:=@Option.bind_some
def K1:=@Option.getD_some
def hX:=@List.length_cons
def qI:=@if_true
def Uy:=@Array.getElem?_modify
def tr:=@Option.map_some
def x8:=@Array.getElem?_eq_getElem
def D6:=@Bool.false_eq_true
def BU:=@if_false
def wo:=@List.drop_eq_getElem_cons
def BV:=@List.take_succ_cons
def Uz:=@Array.getElem?_push
def D7:=@Go.World.size_alloc
def iy:=@List.getElem?_eq_none
def qJ:=@List.getElem?_append_left
def K2:=@List.getElem?_append_right
def acF:=@Nat.eq_or_lt_of_le
def BW:=@List.getElem?_cons_zero
def gh:=@List.nodup_append
def fV:=@List.mem_singleton
def x9:=@List.getElem?_cons_succ
def sk:=@List.ext_getElem?
def ez:=@List.length_append
def gZ:=@List.length_take
def qK:=@List.length_set
def K3:=@List.getElem?_take
def uX:=@List.getElem?_drop
def BX:=@List.getElem?_set
def UA:=@Nat.lt_trichotomy
def mi:=@List.length_nil
def pr:=@Bool.and_eq_true
def rL:=@Array.length_toList
def UB:=@Option.map_eq_some_iff
def Hx:=@Nat.le_of_ble_eq_true
def wq:=@Go.mem_ready
def dz:=@Ne.symm
def K5:=@Go.ready_mono
def BZ:=@Array.getElem?_toList
def PY:=@Go.callsIn_wide
def K6:=@List.set_cons_succ
def K7:=@List.mem_of_find?_eq_some
def K8:=@List.find?_some
def UD:=@Array.mem_of_getElem?
def UE:=@Go.Region.noSelect_spec
def UF:=@Go.Region.free_spec
def ya:=@Array.getElem?_eq_some_iff
def acI:=@List.any_eq_false
def K9:=@List.mem_range
def La:=@Bool.not_eq_true'
def acJ:=@Bool.not_eq_false
def cr:=@List.getElem?_eq_getElem
def ei:=@congrArg
def zM:=@Bool.or_eq_false_iff
def zN:=@List.cons_append
def UG:=@List.take_left
def UH:=@List.drop_left
def iQ:=@List.mem_append_left
def yb:=@Go.Code.wp_mono
def PZ:=@Go.wpIn_wide
def zO:=@Nat.le_succ
def P0:=@List.take_append_of_le_length
def hR:=@List.take_of_length_le
def acK:=@List.drop_append_of_le_length
def P1:=@List.drop_of_length_le
def acL:=@Array.getElem?_append_left
def Hy:=@Go.World.putObj_heap_same
def ml:=@Go.World.putObj_heap_other
def UI:=@List.drop_succ_cons
def iz:=@Go.run_underlying
def B0:=@List.drop_drop
def p2:=@Nat.zero_le
def B1:=@Nat.mul_one
def k5:=@Nat.zero_add
def acN:=@Array.size_append
def wv:=@List.size_toArray
def Ea:=@Nat.add_mul
def e9:=@Option.ne_none_iff_exists'
def UJ:=@Nat.mul_eq_zero
def ts:=@Nat.mul_le_mul_right
def oH:=@List.length_drop
def Lb:=@Nat.zero_mul
def gy:=@List.flatMap_cons
def zP:=@Nat.succ_mul
def P2:=@List.set_cons_zero
def UK:=@List.take_zero
def nz:=@List.nil_append
def sl:=@List.drop_eq_nil_of_le
def acO:=@List.take_append
def jM:=@List.getElem?_eq_some_iff
def Hz:=@List.take_take
def Eb:=@Nat.min_eq_left
def uZ:=@List.cons.injEq
def HB:=@Prod.mk.injEq
def cJ:=@List.mem_cons
def gi:=@List.mem_cons_of_mem
def HD:=@Array.getElem?_setIfInBounds_ne
def acP:=@Int.fdiv_eq_ediv_of_nonneg
def zS:=@Int.mul_nonneg
def HF:=@Int.mul_le_mul
def acQ:=@Int.mul_nonneg_of_nonpos_of_nonpos
def acR:=@Bool.not_eq_true
def nA:=@Int.le_refl
def P5:=@List.pairwise_singleton
def k6:=@List.pairwise_cons
def rN:=@List.take_sublist
def Ld:=@List.pairwise_append
def oa:=@List.mem_of_mem_take
def kE:=@List.getElem_mem
def gS:=@List.take_add_one
def mQ:=@List.take_length
def akM:=@List.mem_or_eq_of_mem_set
def du:=@List.getD_eq_getElem?_getD
def Le:=@forall_eq_or_imp
def hI:=@List.nodup_cons
def qL:=@List.not_mem_nil
def qM:=@or_false
def bf:=@List.mem_map
def u0:=@List.getElem?_set_ne
def Lf:=@Int.tdiv_eq_ediv_of_nonneg
def rO:=@List.length_singleton
def HG:=@decide_eq_false_iff_not
def HH:=@Nat.mod_lt
def sm:=@getElem!_pos
def Ed:=@Nat.sub_zero
def qN:=@List.pairwise_iff_getElem
def kN:=@List.eq_nil_of_length_eq_zero
def de:=@List.length_map
def UO:=@beq_iff_eq
def ej:=@List.mem_flatMap
def mR:=@List.perm_append_singleton
def sn:=@List.mem_iff_getElem
def UP:=@Array.getElem?_setIfInBounds_self
def iR:=@List.getElem?_map
def acW:=@List.Sublist.map
def hz:=@List.flatMap_append
def Lh:=@List.foldl_cons
def wx:=@List.length_pos_iff
def ly:=@List.append_nil
def ye:=@List.mem_of_mem_drop
def UQ:=@List.drop_zero
def HI:=@List.drop_sublist
def rP:=@and_true
def fW:=@List.mem_cons_self
def zT:=@List.map_nil
def P7:=@List.getElem?_range
def US:=@Nat.mul_comm
def Lk:=@List.getElem?_replicate
def Ll:=@List.find?_eq_none
def ep:=@List.map_map
def zU:=@List.map_congr_left
def UT:=@Nat.min_self
def UU:=@List.getElem?_zipWith
def Ee:=@List.map_drop
def Lm:=@List.map_take
def B3:=@dif_pos
def Ln:=@Int.mul_le_mul_of_nonneg_left
def acX:=@List.append_of_mem
def ek:=@List.map_append
def B4:=@List.perm_middle
def acY:=@List.perm_cons
def u2:=@List.take_append_drop
def pt:=@List.getElem_of_mem
def B5:=@List.map_id'
def lz:=@List.mem_append_right
def h7:=@List.mem_map_of_mem
def P8:=@List.nodup_iff_pairwise_ne
def tu:=@List.pairwise_map
def akN:=@List.dropLast_concat_getLast
def yh:=@dif_neg
def HL:=@List.Perm.of_eq
def B6:=@List.flatMap_map
def HM:=@List.flatMap_nil
def acZ:=@List.Perm.append_left
def Lo:=@Nat.le_of_eq
def HN:=@Int.natCast_mul
def mm:=@decide_eq_true
def P9:=@of_decide_eq_false
def HO:=@List.map_set
def Lp:=@List.flatMap_def
def ac0:=@List.perm_append_comm_assoc
def UW:=@List.length_replicate
def UX:=@Nat.eq_zero_or_pos
def p6:=@List.filter_eq_self
def Qa:=@List.getElem_take
def zV:=@Int.toNat_natCast
def UY:=@Option.toList_some
def zW:=@List.filter_append
def B7:=@List.filter_cons
def UZ:=@Nat.add_zero
def zX:=@List.getElem?_set_self
def wA:=@Int.toNat_of_nonneg
def iT:=@List.mem_filter
def Lq:=@List.Perm.refl
def so:=@Option.mem_toList
def p7:=@decide_eq_false
def ac1:=@Option.map_eq_none_iff
def HP:=@List.find?_cons
def U0:=@List.filter_sublist
def U1:=@List.perm_ext_iff_of_nodup
def akO:=@Classical.byContradiction
def HQ:=@List.getElem_map
def U2:=@List.sublist_flatten_of_mem
def tw:=@List.filter_map
def ac2:=@List.pairwise_replicate
def u3:=@List.mem_replicate
def HR:=@of_decide_eq_true
def U3:=@List.length_pos_of_mem
def wB:=@List.length_filter_le
def Qb:=@forall_eq
def ac3:=@List.sublist_append_left
def ac4:=@List.Sublist.refl
def U4:=@List.foldl_append
def Lr:=@List.length_filter_lt_length_iff_exists
def akP:=@Int.tmod_eq_emod_of_nonneg
def Qc:=@Int.emod_nonneg
def Qd:=@Int.emod_lt_of_pos
def U5:=@Option.isSome_map
def Qe:=@bne_iff_ne
def B8:=@decide_eq_decide
def ac5:=@List.getElem_set
def ac6:=@List.ext_getElem
def Ls:=@List.nodup_nil
def Qf:=@beq_false_of_ne
def U7:=@List.mem_iff_getElem?
def U8:=@false_implies
def U9:=@implies_true
def Va:=@List.length_eq_zero_iff
section
variable{P:dY}{b off:N}{bs:M N}{vs:M ap}{w':b7}{t T e:dJ}{R:Type}{f:kM}
abbrev H:=N->ay Obj
def H.ins(u:H)(b:N)(z:Obj):H:=λx=>if x=b then some z else u x
def H.le(u u':H):Prop:=∀b z,u b=some z->u' b=some z
def H.le.refl(u:H):u.le u:=λ_ _ h=>h
def H.le.trans{a b c:H}(h:a.le b)(k:b.le c):a.le c:=λx z e=>k x z (h x z e)
def H.b1{u:H}(z:Obj)(h:u b=none):u.le (u.ins b z):=by intro x p e;unfold H.ins;split;rename_i J;subst J;rw[h] at e;cases e;exact e
def H.le.ins{u u':H}(z:Obj)(k:u.le u')(h:u' b=none):u.le (u'.ins b z):=k.trans (H.b1 z h)
def H.bh(u:H)(b:N)(z:Obj):u.ins b z b=some z:=by simp[H.ins]
def H.bq(u:H){x:N}(z:Obj)(h:x≠b):u.ins b z x=u x:=by simp[H.ins,h]
def H.cell?(u:H)(a:bc):ay ap:=
 match u a.block with
 |some (.cells c _ _)=>if a.spot.isSome then none else c[a.off]?
 |_=>none
def Sub(u:H)(w:b7):Prop:=∀b z,u b=some z->w.heap[b]?=some z
def Sub.cell{u:H}{w:b7}(h:Sub u w){a:bc}{v:ap}(e:u.cell? a=some v):w.cell? a=some v:=by unfold H.cell? at e;unfold PU;split at e;rename_i c t f ab;rw[h _ _ ab];exact e;cases e
def Sub.none{u:H}{w:b7}(h:Sub u w)(ab:w.heap.size<=b):u b=none:=by
 cases e:u b with
 |none=>rfl|some z=>have:=h _ _ e;rw[D4 ab] at this;cases this
def Sub.lt{u:H}{w:b7}(h:Sub u w){z:Obj}(e:u b=some z):b<w.heap.size:=by rcases kC b w.heap.size with k|k;exact k;rw[h.none k] at e;cases e
def Sub.mono{u u':H}{w:b7}(h:Sub u' w)(k:u.le u'):Sub u w:=λb z e=>h b z (k b z e)
structure Step(u:H)(bs:M N)(w:b7)(u':H)(c8:M N)(w':b7):Prop where
 sub:Sub u' w'
 os:w'.os=w.os
 tape:w'.tape=w.tape
 output:w'.output=w.output
 drawn:w.drawn<=w'.drawn
 size:w.heap.size<=w'.heap.size
 rest:∀b,b<w.heap.size->u b=none->b∉bs->w'.heap[b]?=w.heap[b]?
 jq:∀b,b<w.heap.size->u b=none->u' b=none
 more:∃ext,c8=bs++ext/\∀b∈ext,w.heap.size<=b
def Step.refl{u:H}{w:b7}(h:Sub u w):Step u bs w u bs w:=
 ⟨h,rfl,rfl,rfl,cA _,cA _,λ_ _ _ _=>rfl,λ_ _ e=>e,[],by simp,by simp⟩
def Step.trans{u u' jj:H}{c8 afb:M N}{w Rf:b7}(h:Step u bs w u' c8 w')(k:Step u' c8 w' jj afb Rf):Step u bs w jj afb Rf:=by obtain⟨aS,vG,gn⟩:=h.more;obtain⟨aB,ic,h4⟩:=k.more;refine⟨k.sub,k.os.trans h.os,k.tape.trans h.tape,k.output.trans h.output,jg h.drawn k.drawn,jg h.size k.size,?_,?_,aS++aB,by rw[ic,vG,n5],?_⟩;intro b ab hu ae;rw[k.rest b (KX ab h.size) (h.jq b ab hu) ?_,h.rest b ab hu ae];rw[vG];simp only[cN,not_or];exact⟨ae,λhm=>by have:=gn b hm;omega⟩;intro b ab hu;exact k.jq b (KX ab h.size) (h.jq b ab hu);intro b ab;rcases cN.1 ab with ab|ab;exact gn b ab;exact jg h.size (h4 b ab)
def Step.RW{u:H}{w:b7}(h:Sub u w){n:N}(ae:w.drawn<=n):Step u bs w u bs {w with drawn:=n}:=
 ⟨h,rfl,rfl,rfl,ae,cA _,λ_ _ _ _=>rfl,λ_ _ e=>e,[],by simp,by simp⟩
def Rl(P:dY)(f:kM)(args:cw ap)(u:H)(K:ap->H->Prop):Prop:=
 ∀w,Sub u w->Calls P f args w λe w'=>∃v u',e=.returned v/\K v u'/\Step u [] w u' [] w'
def Rl.mono{args:cw ap}{u:H}{K fZ:ap->H->Prop}(h:Rl P f args u K)(hk:∀v u',K v u'->fZ v u'):Rl P f args u fZ:=
 λw hw=>(h w hw).mono λ_ _ ⟨v,u',e,k,s⟩=>⟨v,u',e,hk v u' k,s⟩
def Rt(P:dY)(m:Sem ap)(u:H)(K:ap->H->Prop):Prop:=
 ∀w,Sub u w->∃v w' u',m.run P w=.ok v w'/\K v u'/\Step u [] w u' [] w'
def Rt.mono{m:Sem ap}{u:H}{K fZ:ap->H->Prop}(h:Rt P m u K)(hk:∀v u',K v u'->fZ v u'):Rt P m u fZ:=
 λw hw=>let⟨v,w',u',e,k,s⟩:=h w hw;⟨v,w',u',e,hk v u' k,s⟩
inductive aL where
 |int (k:x7)|bool|str|ptr|slice|map|val|addr
structure U where
 a:ay bc
 n:N
 c:N
@[reducible] def U.v(s:U):ap:=.slice s.a s.n s.c
def aL.den:aL->Type
 | .int _=>o| .bool=>aK| .str=>ByteArray| .ptr=>ay bc| .slice=>U| .map=>ay N| .val=>ap| .addr=>bc
def aL.enc:(t:aL)->t.den->ap
 | .int k,n=>.int k n| .bool,b=>.bool b| .str,s=>.string s| .ptr,p=>.pointer p| .slice,s=>.slice s.a s.n s.c| .map,r=>.map r| .val,v=>v| .addr,p=>.pointer (some p)
def zl(a b:x7):aK:=a.bits==b.bits && a.signed==b.signed
def Pc{a b:x7}(h:zl a b=ak):a=b:=by cases a<;>cases b<;>first|rfl|(revert h;decide)
def aL.un:(t:aL)->ap->(t.den->Prop)->Prop
 | .int k,.int dT n,f=>match zl dT k with|true=>f n|false=>eh
 | .bool,.bool b,f=>f b| .str,.string s,f=>f s| .ptr,.pointer p,f=>f p| .slice,.slice a n c,f=>f ⟨a,n,c⟩| .map,.map r,f=>f r| .val,v,f=>f v| .addr,.pointer (some p),f=>f p|_,_,_=>eh
def aL.Wa{t:aL}{v:ap}{f:t.den->Prop}(h:t.un v f):∃x,v=t.enc x/\f x:=by
 by_cases aE:t=.addr;subst aE;cases v<;>simp only[aL.un] at h<;>try contradiction
 rename_i p;cases p with
 |none=>exact h.elim|some p=>exact⟨p,rfl,h⟩
 cases t<;>(try exact aW rfl aE)<;>cases v<;>simp only[aL.un] at h<;>try contradiction
 case int.int k dT n=>split at h;rename_i e;have:=Pc e;subst this;exact⟨n,rfl,h⟩;exact h.elim
 all_goals exact⟨_,rfl,h⟩
def abt(k:x7):zl k k=ak:=by cases k<;>rfl
def aL.rR(t:aL)(x:t.den)(f:t.den->Prop):t.un (t.enc x) f↔f x:=by cases t<;>first|exact BS|simp[aL.un,aL.enc,abt]
def hc:M aL->Type->Type
 | [],R=>R|t::ck,R=>t.den->hc ck R
def Pl{R:Type}:(ck:M aL)->(M ap->R)->hc ck R
 | [],f=>f []|t::ck,f=>λx=>Pl ck λvs=>f (t.enc x::vs)
def Me:(ck:M aL)->(M ap->Prop)->Prop
 | [],f=>f []|t::ck,f=>∀x:t.den,Me ck λvs=>f (t.enc x::vs)
def hS{R:Type}:(ck:M aL)->hc ck R->M ap->(R->Prop)->Prop
 | [],dp,[],f=>f dp|t::ck,dp,v::vs,f=>t.un v λx=>hS ck (dp x) vs f|_,_,_,_=>eh
inductive pB:M aL->M ap->Prop
 |nil:pB [] []
 |cons {t:aL} {ck:M aL} (x:t.den) {vs:M ap}:pB ck vs->pB (t::ck) (t.enc x::vs)
def LN{ck:M aL}{dp:hc ck R}{f:R->Prop}(h:hS ck dp vs f):pB ck vs:=by
 induction ck generalizing vs with
 |nil=>cases vs with
  |nil=>exact .nil|cons=>simp[hS] at h
 |cons t ck aM=>cases vs with
  |nil=>simp[hS] at h|cons v vs=>simp only[hS] at h;obtain⟨x,rfl,J⟩:=aL.Wa h;exact .cons x (aM J)
def anV{ck:M aL}{f:M ap->Prop}(h:Me ck f)(k:pB ck vs):f vs:=by
 induction k generalizing f with
 |nil=>exact h|cons x _ aM=>exact aM (f:=λvs=>f (aL.enc _ x::vs)) (h x)
def ad9{ck:M aL}(dp:hc ck R)(k:pB ck vs):∃r,∀f:R->Prop,hS ck dp vs f↔f r:=by
 induction k with
 |nil=>exact⟨dp,λf=>BS⟩|cons x _ aM=>obtain⟨r,O⟩:=aM (dp x);exact⟨r,λf=>by simp only[hS,aL.rR];exact O f⟩
def QX{ck:M aL}{g:M ap->R}(k:pB ck vs)(f:R->Prop):hS ck (Pl ck g) vs f↔f (g vs):=by
 induction k generalizing g with
 |nil=>exact BS|cons x _ aM=>simp only[hS,aL.rR,Pl];exact aM
inductive bg where
 |one (t:aL)
 |agg (ck:M aL)
def bg.ij:bg->M aL
 | .one t=>[t]| .agg ck=>ck
def bg.take:bg->M ap->ap×M ap
 | .one _,v::vs=>(v,vs)| .one _,[]=>(.tuple #[],[])| .agg ck,vs=>(.agg (vs.take ck.length).toArray,vs.drop ck.length)
def CZ:M bg->M ap->M ap
 | [],_=>[]|s::ss,vs=>(s.take vs).1::CZ ss (s.take vs).2
def xb(ss:M bg)(vs:M ap):ap:=
 match CZ ss vs with
 | [v]=>v|l=>.tuple l.toArray
def gF:M bg->M aL
 | []=>[]|s::ss=>s.ij++gF ss
def io(P:dY)(f:kM)(args:cw ap)(ss:M bg)(u:H)(K:hc (gF ss) (H->Prop)):Prop:=
 Rl P f args u λv u'=>∃vs,pB (gF ss) vs/\v=xb ss vs/\hS (gF ss) K vs λr=>r u'
def dd(P:dY)(m:Sem ap)(ss:M bg)(u:H)(K:hc (gF ss) (H->Prop)):Prop:=
 Rt P m u λv u'=>∃vs,pB (gF ss) vs/\v=xb ss vs/\hS (gF ss) K vs λr=>r u'
inductive fF where
 |v (x:ap)
 |ptr (p:bc)
 |loc (i off:N)
 |jZ
 |lU
 |dec (p:Prop) (d:Decidable p)
 |uQ (p:Prop) (d:Decidable p)
structure aO where
 n:N
 env:M (N×fF)
 loc:M (M ap)
 Fg:ay N:=none
def Mq:ay N->M Deferred
 |none=>[]|some D=>[{target:=.collected D,args:=#[]}]
structure lb where
 P:dY
 exp:M N:=[]
 wrap:aK:=ax
 ik:M (N×N):=[]
 ou:M N:=[]
 oG:M N:=[]
 part:aK:=ax
def hj(bs:M N):fF->ay ap
 | .v x=>some x| .ptr p=>some (.pointer (some p))| .loc i off=>match bs[i]? with
  |some b=>some (.pointer (some ⟨b,off,none⟩))|none=>none
 | .jZ=>some (.bool ak)| .lU=>some (.bool ax)| .dec p d=>some (.bool (@decide p d))| .uQ p d=>some (.bool (!@decide p d))
def fF.val:fF->ay ap
 | .v x=>some x| .ptr p=>some (.pointer (some p))| .loc _ _=>none| .jZ=>some (.bool ak)| .lU=>some (.bool ax)| .dec p d=>some (.bool (@decide p d))| .uQ p d=>some (.bool (!@decide p d))
def fF.Wc{x:fF}{v:ap}(h:x.val=some v)(bs:M N):hj bs x=some v:=by cases x<;>simp only[fF.val] at h<;>first|exact h|cases h
def look:M (N×fF)->N->ay fF
 | [],_=>none|(i,x)::r,j=>match ju i j with
  |true=>some x|false=>look r j
def del:M (N×fF)->N->M (N×fF)
 | [],_=>[]|(i,x)::r,j=>match ju i j with
  |true=>del r j|false=>(i,x)::del r j
def G7{l:M (N×fF)}{j:N}{x:fF}(h:look l j=some x):(j,x)∈l:=by
 induction l with
 |nil=>cases h
 |cons p r aM=>obtain⟨i,y⟩:=p;simp only[look] at h;split at h;rename_i e;have:=mh e;subst this;cases h;exact .head _;exact .tail _ (aM h)
def afA{l:M (N×fF)}{j:N}{p:N×fF}(h:p∈del l j):p∈l/\p.1≠j:=by
 induction l with
 |nil=>cases h
 |cons q r aM=>
  obtain⟨i,y⟩:=q;simp only[del] at h;split at h;exact⟨.tail _ (aM h).1,(aM h).2⟩;rename_i e;cases h with
  |head=>exact⟨.head _,λgv=>by simp only at gv;subst gv;simp at e⟩|tail _ h=>exact⟨.tail _ (aM h).1,(aM h).2⟩
def aO.put(s:aO)(dst:ay Tmp)(x:fF):aO:=
 match dst with
 |none=>s|some d=>match zJ d s.n with
  |true=>{s with env:=(d,x)::del s.env d}
  |false=>{s with env:=del s.env d}
def aO.drop(s:aO)(dst:ay Tmp):aO:=
 match dst with
 |none=>s|some d=>{s with env:=del s.env d}
def aO.sv(s:aO):jX->ay fF
 | .tmp t=>look s.env t| .const (.bool ak)=>some .jZ| .const (.bool ax)=>some .lU| .const v=>some (.v v)| .global g=>some (.ptr ⟨g,0,none⟩)| .func f=>some (.v (.func (.func f) #[] #[]))
def aO.val(s:aO)(x:jX):ay ap:=(s.sv x).bind fF.val
structure FitsE(s:aO)(bs:M N)(a:eo):Prop where
 defers:a.defers=Mq s.Fg
 n:a.tmps.size=s.n
 env:∀p∈s.env,∃v,hj bs p.2=some v/\a.tmps[p.1]?=some v
structure Fits(s:aO)(bs:M N)(u:H)(a:eo)(w:b7):Prop extends FitsE s bs a where
 len:bs.length=s.loc.length
 loc:∀(i:N) (cs:M ap),s.loc[i]?=some cs->∃(b:N) (T:dJ),bs[i]?=some b/\w.heap[b]?=some (bC cs.toArray T (0,0))
 nodup:bs.Nodup
 ch:∀b∈bs,u b=none/\b<w.heap.size
 sub:Sub u w
structure jy(loc:M (M ap))(bs:M N)(u:H)(w:b7):Prop where
 loc:∀(i:N) (cs:M ap),loc[i]?=some cs->∃(b:N) (T:dJ),bs[i]?=some b/\w.heap[b]?=some (bC cs.toArray T (0,0))
 sub:Sub u w
def Fits.w{s:aO}{u:H}{a:eo}{w:b7}(h:Fits s bs u a w):jy s.loc bs u w:=⟨h.loc,h.sub⟩
def FitsE.sv{s:aO}{a:eo}(h:FitsE s bs a){x:jX}{y:fF}(e:s.sv x=some y):hj bs y=some (a.eval x):=by
 cases x with
 |tmp t=>simp only[aO.sv] at e;obtain⟨v,h1,h2⟩:=h.env _ (G7 e);simp only[Act.eval];simp only at h1 h2;rw[h1,<-h2,BT,h2];rfl
 |const v=>
  cases v<;>try(simp only[aO.sv,kb] at e;subst e;rfl)
  rename_i b;cases b<;>(simp only[aO.sv,kb] at e;subst e;rfl)
 |global g=>simp only[aO.sv,kb] at e;subst e;rfl|func f=>simp only[aO.sv,kb] at e;subst e;rfl
def FitsE.val{s:aO}{a:eo}(h:FitsE s bs a){x:jX}{v:ap}(e:s.val x=some v):a.eval x=v:=by
 unfold aO.val at e;cases J:s.sv x with
 |none=>rw[J] at e;cases e
 |some y=>rw[J] at e;have h1:=h.sv J;have h2:=fF.Wc e bs;rw[h1] at h2;exact cU h2
def acB(a:eo)(d:N)(v:ap)(j:N):(a.put (some d) v).tmps[j]?=if d=j/\j<a.tmps.size then some v else a.tmps[j]?:=by simp only[Act.put,Array.getElem?_setIfInBounds];by_cases h:d=j;subst h;by_cases h2:d<a.tmps.size;simp[h2];simp[h2];simp[h]
def Fits.drop{s:aO}{u:H}{a:eo}{w:b7}(h:Fits s bs u a w)(dst:ay Tmp)(v:ap):Fits (s.drop dst) bs u (a.put dst v) w:=by
 cases dst with
 |none=>exact h|some d=>refine⟨⟨h.defers,by simp[Act.put,h.n,aO.drop],?_⟩,h.len,h.loc,h.nodup,h.ch,h.sub⟩;intro p ad;obtain⟨h1,h2⟩:=afA ad;obtain⟨x,J,ah⟩:=h.env p h1;refine⟨x,J,?_⟩;rw[acB,aF (λe=>h2 e.1.symm)];exact ah
def Fits.put{s:aO}{u:H}{a:eo}{w:b7}(h:Fits s bs u a w)(dst:ay Tmp){x:fF}{v:ap}(e:hj bs x=some v):Fits (s.put dst x) bs u (a.put dst v) w:=by
 cases dst with
 |none=>exact h|some d=>
  have aw:=h.drop (some d) v;cases ab:zJ d s.n with
  |false=>
   have aS:s.put (some d) x=s.drop (some d):=by simp only[aO.put,ab,aO.drop]
   rw[aS];exact aw|true=>
   have aS:s.put (some d) x={s with env:=(d,x)::del s.env d}:=by simp only[aO.put,ab]
   rw[aS];have bD:d<s.n:=by simpa using ab
   refine⟨⟨aw.defers,aw.n,?_⟩,h.len,h.loc,h.nodup,h.ch,h.sub⟩;intro p ad;cases ad with
   |head=>exact⟨v,e,by rw[acB,a1 ⟨rfl,by rw[h.n];exact bD⟩]⟩|tail _ ad=>exact aw.env p ad
def Fits.step{s:aO}{u u':H}{a:eo}{w:b7}(h:Fits s bs u a w)(k:Step u [] w u' [] w'):Fits s bs u' a w':=by refine⟨⟨h.defers,h.n,h.env⟩,h.len,?_,h.nodup,?_,k.sub⟩;intro i cs e;obtain⟨b,T,h1,h2⟩:=h.loc i cs e;have hm:b∈bs:=dK h1;exact⟨b,T,h1,(k.rest b (h.ch b hm).2 (h.ch b hm).1 (by simp)).trans h2⟩;intro b ab;exact⟨k.jq b (h.ch b ab).2 (h.ch b ab).1,KX (h.ch b ab).2 k.size⟩
def Step.NJ{u u':H}{w:b7}(k:Step u [] w u' [] w')(bs:M N):Step u bs w u' bs w':=
 ⟨k.sub,k.os,k.tape,k.output,k.drawn,k.size,λb ab hu _=>k.rest b ab hu (by simp),k.jq,[],by simp,by simp⟩
def afu:ap->aL
 | .int k _=>.int k| .bool _=>.bool| .string _=>.str| .pointer _=>.ptr| .slice _ _ _=>.slice| .map _=>.map|_=>.val
def q3(P:dY)(t:dJ):aK:=
 match P.underlying t with
 |some (.struct _)=>ak|some (.array _ _)=>ak|_=>ax
def qT(P:dY)(t:dJ):ay bg:=
 match P.info? t with
 |some i=>match i.zero,P.underlying t with
  |some (.agg cs),some _=>match q3 P t,ju cs.size i.size with
   |true,ak=>some (.agg (cs.toList.map afu))|_,_=>none
  |some Y,some _=>match q3 P t,ju 1 i.size with
   |false,ak=>some (.one (afu Y))|_,_=>none
  |_,_=>none
 |none=>none
def QD(P:dY)(t:dJ):ay (M bg):=
 match P.underlying t with
 |some (.tuple ck)=>ck.toList.mapM (qT P)|_=>(qT P t).map λs=>[s]
def zeroOf(P:dY)(t:dJ):ay (M ap):=
 match P.info? t with
 |some i=>i.zero.map λY=>Y.cells.toList|none=>none
def yn(P:dY)(t:dJ):ay N:=(P.info? t).map (·.size)
def KW(P:dY){α:Type}:Sem α->ay α
 | .pure a=>some a| .program k=>KW P (k P)|_=>none
def axE{α:Type}{m:Sem α}{a:α}(h:KW P m=some a)(w:b7):m.run P w=.ok a w:=by
 induction m with
 |pure b=>simp only[KW,kb] at h;subst h;rfl|program k aM=>simp only[KW] at h;simp only[rH];exact aM _ h|_=>simp[KW] at h
def aO.h8(s:aO)(x:jX):ap:=(s.val x).getD ih
def known(s:aO)(z:eI):aK:=z.op.operands.toList.all λx=>(s.val x).isSome
def afV{s:aO}{a:eo}(h:FitsE s bs a){z:eI}(ag:∀cs b,z.op≠.select cs b)(hk:known s z=ak):fD a.eval z=fD s.h8 z:=by refine execOp_congr z ag λx J=>?_;have h1:=PV.1 hk x (Ht.2 J);obtain⟨v,aA⟩:=KY.1 h1;rw[h.val aA];simp[aO.h8,aA]
def akr:Op->aK
 | .select _ _| .index ..| .lookup ..| .mapUpdate ..| .insert ..| .makeMap ..| .makeSlice ..| .slice ..| .buildSlice ..| .typeAssert ..| .range ..| .next ..| .entry ..| .mapEntry ..| .entryStore ..=>ax| .call c=>match c.callee with
  | .builtin .append| .builtin .copy| .builtin .delete| .builtin .clear=>ax|_=>ak
 |_=>ak
def akc(P:dY):Op->aK
 | .call c=>match c.callee with
  | .builtin .len=>match c.argTypes.toList with
   |t::_=>match P.underlying t with
    |some (.map _ _)=>ak|_=>ax
   | []=>ax
  |_=>ax
 |_=>ax
def zH(P:dY)(s:aO)(z:eI):ay ap:=
 match akc P z.op with
 |true=>none|false=>match known s z,akr z.op with
  |true,ak=>match KW P (fD s.h8 z) with
   |some (.value v)=>some v|_=>none
  |_,_=>none
def akF{s:aO}{a:eo}(h:FitsE s bs a){z:eI}{v:ap}(e:zH P s z=some v)(w:b7):(fD a.eval z).run P w=.ok (.value v) w:=by unfold zH at e;split at e;cases e;split at e;rename_i h1 h2;split at e;rename_i x h3;cases e;rw[afV h (λcs b e=>by rw[e] at h2;cases h2) h1];exact axE h3 w;cases e;cases e
def RN:BinOp->o->o->ay fF
 | .eql,a,b=>some (.dec (a=b) tn)| .neq,a,b=>some (.uQ (a=b) tn)| .lss,a,b=>some (.dec (a<b) tn)| .leq,a,b=>some (.dec (a<=b) tn)| .gtr,a,b=>some (.dec (b<a) tn)| .geq,a,b=>some (.dec (b<=a) tn)|_,_,_=>none
def apf{op:BinOp}{a b:o}{x:fF}(h:RN op a b=some x)(P:dY)(t:dJ)(k:x7)(bs:M N):
  ∃v,hj bs x=some v/\∀w,(binOp op t (.int k a) (.int k b)).run P w=.ok v w:=by
 cases op<;>simp only[RN,kb,reduceCtorEq] at h<;>subst h<;>refine⟨_,rfl,λw=>?_⟩
 rw[binOp_eql];rfl
 rw[binOp_neq];rfl
 rw[binOp_lss];rfl
 rw[binOp_leq];rfl
 rw[binOp_gtr];rfl
 rw[binOp_geq];rfl
def bo(x:o):Prop:= -9223372036854775808<=x/\x<=9223372036854775807
def aAw{x:o}(h:bo x):cq.wrap x=x:=by obtain⟨h1,h2⟩:=h;simp only[cz,Hu,Hv];simp only[Bool.true_and,KZ,ge_iff_le];split<;>omega
def Ry(wrap:aK)(op:BinOp)(k:x7)(a b:o)(f:o->Prop):Prop:=
 let r:ay o:=match op with
  | .add=>some (a+b)| .sub=>some (a-b)| .mul=>some (a*b)|_=>none
 match r with
 |some Y=>match k,wrap with
  | .i64,ax=>bo Y/\f Y|k,_=>f (k.wrap Y)
 |none=>match op with
  | .quo=>b≠0/\(match k,wrap with
   | .i64,ax=>bo (a.tdiv b)/\f (a.tdiv b)|k,_=>f (k.wrap (a.tdiv b)))
  | .rem=>b≠0/\f (a.tmod b)| .shl=>0<=b/\f (k.wrap (a*2 ^ (min b.toNat k.bits)))| .shr=>0<=b/\f (a.fdiv (2 ^ (min b.toNat k.bits)))| .and=>f (bits .and k a b)| .or=>f (bits .or k a b)| .xor=>f (bits .xor k a b)| .andNot=>f (bits .andNot k a b)|_=>eh
def an0{wrap:aK}{op:BinOp}{k:x7}{a b:o}{f:o->Prop}(h:Ry wrap op k a b f)(P:dY)(t:dJ)(dT:x7)
  (hk:dT=k∨op=.shl∨op=.shr):
  ∃Y,f Y/\∀w,(binOp op t (.int k a) (.int dT b)).run P w=.ok (.int k Y) w:=by
 have two:∀Y,(match k,wrap with| .i64,ax=>bo Y/\f Y|k,_=>f (k.wrap Y))->f (k.wrap Y):=by intro Y aC;cases k<;>cases wrap<;>first|exact aC|(rw[aAw aC.1];exact aC.2)
 unfold Ry at h
 cases op<;>simp only[] at h
 case add=>
  obtain rfl:dT=k:=by simpa using hk
  exact⟨_,two _ h,λw=>by rw[binOp_add];rfl⟩
 case sub=>
  obtain rfl:dT=k:=by simpa using hk
  exact⟨_,two _ h,λw=>by rw[binOp_sub];rfl⟩
 case mul=>
  obtain rfl:dT=k:=by simpa using hk
  exact⟨_,two _ h,λw=>by rw[binOp_mul];rfl⟩
 case quo=>
  obtain rfl:dT=k:=by simpa using hk
  exact⟨_,two _ h.2,λw=>by rw[binOp_quo];simp[Op.intDiv,h.1]⟩
 case rem=>
  obtain rfl:dT=k:=by simpa using hk
  exact⟨_,h.2,λw=>by rw[binOp_rem];simp[Op.intDiv,h.1]⟩
 case and=>
  obtain rfl:dT=k:=by simpa using hk
  exact⟨_,h,λw=>by rw[binOp_and,intBits_and];rfl⟩
 case or=>
  obtain rfl:dT=k:=by simpa using hk
  exact⟨_,h,λw=>by rw[binOp_or,intBits_or];rfl⟩
 case xor=>
  obtain rfl:dT=k:=by simpa using hk
  exact⟨_,h,λw=>by rw[binOp_xor,intBits_xor];rfl⟩
 case andNot=>
  obtain rfl:dT=k:=by simpa using hk
  exact⟨_,h,λw=>by rw[binOp_andNot,intBits_andNot];rfl⟩
 case shl=>
  refine⟨_,h.2,λw=>?_⟩;rw[binOp_shl];have:¬b<0:=by omega
  simp[Op.shift,this]
 case shr=>
  refine⟨_,h.2,λw=>?_⟩;rw[binOp_shr];have:¬b<0:=by omega
  simp[Op.shift,this]
structure CI where
 p:Prop
 d:Decidable p
def I4{α:Type}(x:ay α):Decidable (x=none):=
 match x with
 |none=>.isTrue rfl|some _=>.isFalse (by simp)
def MF:ap->ap->ay CI
 | .int k a,.int dT b=>match zl k dT with
  |true=>some ⟨a=b,tn⟩|false=>none
 |_,_=>none
def MG:M (N×N)->N->ay N
 | [],_=>none|(t,n)::r,x=>match ju t x with
  |true=>some n|false=>MG r x
def yS:M ap->M ap->ay CI
 | [],[]=>some ⟨True,tn⟩| [x],[y]=>MF x y|x::xs,y::e0=>match MF x y,yS xs e0 with
  |some a,some b=>some ⟨a.p/\b.p,@instDecidableAnd a.p b.p a.d b.d⟩|_,_=>none
 |_,_=>none
def RJ:fF->ay aK
 | .v (.bool b)=>some b| .jZ=>some ak| .lU=>some ax| .dec p d=>some (@decide p d)| .uQ p d=>some (!@decide p d)|_=>none
def abh:BinOp->aK
 | .shl=>ak| .shr=>ak|_=>ax
def MH(C:lb)(t:dJ):fF->fF->ay CI
 | .v (.pointer p),.v (.pointer none)=>match C.P.underlying t with
  |some (.pointer _)=>some ⟨p=none,I4 p⟩|_=>none
 | .ptr _,.v (.pointer none)=>match C.P.underlying t with
  |some (.pointer _)=>some ⟨eh,tn⟩|_=>none
 | .v (.slice a _ _),.v (.slice none _ _)=>match C.P.underlying t with
  |some (.slice _)=>some ⟨a=none,I4 a⟩|_=>none
 | .v (.map a),.v (.map none)=>match C.P.underlying t with
  |some (.map _ _)=>some ⟨a=none,I4 a⟩|_=>none
 | .v (.agg xs),.v (.agg e0)=>match MG C.ik t with
  |some n=>match ju xs.toList.length n,ju e0.toList.length n with
   |true,ak=>yS xs.toList e0.toList|_,_=>none
  |none=>none
 | .v (.string x),.v (.string y)=>some ⟨x.toList=y.toList,tn⟩|x,y=>match RJ x,RJ y,C.P.underlying t with
  |some a,some b,some .bool=>some ⟨a=b,tn⟩|_,_,_=>none
def _root_.Go.Addr.at'(p:bc):N->bc
 |0=>p|i+1=>p.add (i+1)
def Uc(u:H)(p:bc):N->M aL->(M ap->Prop)->Prop
 |_,[],f=>f []|i,t::ck,f=>∃x:t.den,u.cell? (p.at' i)=some (t.enc x)/\Uc u p (i+1) ck λvs=>f (t.enc x::vs)
def bg.mk:bg->M ap->ap
 | .one _,v::_=>v| .one _,[]=>.tuple #[]| .agg _,vs=>.agg vs.toArray
def wr:cw ap->N->M ap->cw ap
 |c,_,[]=>c|c,z,v::vs=>wr (c.setIfInBounds z v) (z+1) vs
def H.aO(u:H)(p:bc)(vs:M ap)(f:H->Prop):Prop:=
 ∃(c:cw ap) (T:dJ),u p.block=some (.cells c T (0,0))/\p.spot=none/\p.off+vs.length<=c.size/\(∀v∈vs,v.oneCell'=ak)/\
  f (u.ins p.block (.cells (wr c p.off vs) T (0,0)))
def over(cs:M ap)(off:N)(vs:M ap):M ap:=cs.take off++vs++cs.drop (off+vs.length)
def PG:M ap->aK
 | []=>ak|v::vs=>v.oneCell' && PG vs
def tC{α:Type}:M α->N->α->M α
 | [],_,_=>[]|_::xs,0,y=>y::xs|x::xs,i+1,y=>x::tC xs i y
def PF(P:dY)(t:dJ)(f:N):ay N:=
 match P.underlying t with
 |some (.struct aY)=>match aY[f]? with
  |some g=>match yn P g.type with
   |some (_+1)=>some g.offset|_=>none
  |none=>none
 |_=>none
def gC(l:M N)(x:N):aK:=l.any (ju x)
def Q7(s:aO)(xs:cw jX):ay (M ap):=xs.toList.mapM s.val
def hY(P:dY)(fv:ap)(args:cw ap)(ss:M bg)(u:H)(K:hc (gF ss) (H->Prop)):Prop:=
 ∃f pre cap,fv=.func (.func f) pre cap/\(∃fn,P.funcs[f]?=some fn/\fn.body.isSome=ak)/\io P f (pre++args++cap) ss u K
def Ak(P:dY)(fv:ap)(args:cw ap)(ss:M bg)(u:H)(K:hc (gF ss) (H->Prop)):Prop:=
 ∃l,fv=.func (.yield l) #[] #[]/\∀w,Sub u w->YieldAt uV 0 P l args w λe w'=>∃v u',e=.returned v/\(∃vs,pB (gF ss) vs/\v=xb ss vs/\hS (gF ss) K vs λr=>r u')/\Step u [] w u' [] w'
def tL(P:dY)(fv:ap)(args:cw ap)(ss:M bg)(u:H)(K:hc (gF ss) (H->Prop)):Prop:=hY P fv args ss u K∨Ak P fv args ss u K
def mX(P:dY)(recv:ap)(name:String)(args:cw ap)(ss:M bg)(u:H)(K:hc (gF ss) (H->Prop)):Prop:=
 ∃t v f r,recv=.iface t v/\(∀w,Sub u w->(method (P.types.size+uW) t v name).run P w=.ok (f,r) w)/\
  (∃fn,P.funcs[f]?=some fn/\fn.body.isSome=ak)/\io P f (#[r]++args) ss u K
def AE(f:kM)(args:cw ap):Sem ap:=do
 match <-p0 f args with
 | .value v=>pure v|_=>stuck "callX"
def unit(m:Sem Unit):Sem ap:=do
 m
 pure ih
def hn(P:dY)(f:kM):aK:=
 match P.funcs[f]? with
 |some fn=>fn.body.isSome|none=>ax
def akp(P:dY)(f:kM):aK:=
 match P.funcs[f]? with
 |some fn=>fn.body.isNone|none=>ax
def H5(s:aO)(z:eI):ay (Sem ap):=
 match z.op with
 | .lookup t x i ok=>some (gY t (s.h8 x) (s.h8 i) ok)| .mapUpdate t m k x=>some (unit (lx t (s.h8 m) (s.h8 k) (s.h8 x)))| .insert t m k x=>some (unit (lx t (s.h8 m) (s.h8 k) (s.h8 x)))| .makeMap t none=>some (rI t none)| .makeMap t (some r)=>some (rI t (some (s.h8 r)))| .makeSlice t l c=>some (to t (s.h8 l) (s.h8 c))| .slice t x bH hi Pv=>some (h6 t (s.h8 x) (bH.map s.h8) (hi.map s.h8) (Pv.map s.h8))| .index t x i=>some (Instr.index t (s.h8 x) (s.h8 i))| .convert a b x=>some (Go.convert a b (s.h8 x))| .buildSlice t n c7=>some (dL t n (c7.map λ(i,x)=>(i,s.h8 x)))| .typeAssert x a b ok=>some (tp (s.h8 x) a b ok)| .range t x=>some (rJ t (s.h8 x))| .next i str=>some (PW (s.h8 i) str z.type)| .entry i=>some (Instr.entry (s.h8 i))| .mapEntry t m k=>some (Instr.mapEntry t (s.h8 m) (s.h8 k))| .entryStore t m k x=>some (unit (Instr.entryStore t (s.h8 m) (s.h8 k) (s.h8 x)))| .call c=>match c.callee with
  | .builtin .append=>some (ey c.argTypes z.type (c.args.map s.h8))| .builtin .copy=>some (Builtin.copy_ c.argTypes z.type (c.args.map s.h8))| .builtin .delete=>some (tq c.argTypes z.type (c.args.map s.h8))| .builtin .len=>some (rK c.argTypes z.type (c.args.map s.h8))| .builtin .max=>some (Builtin.max_ c.argTypes z.type (c.args.map s.h8))| .builtin .min=>some (Builtin.min_ c.argTypes z.type (c.args.map s.h8))| .builtin .clear=>some (p1 c.argTypes z.type (c.args.map s.h8))| .value (.func f)=>some (AE f (c.args.map s.h8))|_=>none
 |_=>none
def isUnit:Op->aK
 | .mapUpdate ..| .insert ..| .entryStore ..=>ak| .call c=>match c.callee with
  | .builtin .delete| .builtin .clear=>ak|_=>ax
 |_=>ax
def ayD(P:dY)(z:eI):ay (M bg):=
 match isUnit z.op with
 |true=>some []|false=>match z.op with
  | .alloc _| .buildSlice _ _ _=>QD P z.type|_=>QD P z.type
def sM(s:aO)(dst:ay Tmp)(ss:M bg)(K:aO->H->Prop):hc (gF ss) (H->Prop):=
 Pl (gF ss) λvs u'=>K (s.put dst (.v (xb ss vs))) u'
def other(C:lb)(s:aO)(z:eI)(u:H)(K:aO->H->Prop):Prop:=
 match zH C.P s z with
 |some v=>K (s.put z.dst (.v v)) u|none=>match known s z,H5 s z,ayD C.P z with
  |true,some m,some ss=>dd C.P m ss u (sM s z.dst ss K)|_,_,_=>eh
def wL(C:lb)(bx:N->aK)(s:aO)(z:eI)(u:H)(K:aO->H->Prop):Prop:=
 match z.op with
 | .move x=>match s.sv x with
  |some y=>K (s.put z.dst y) u|none=>eh
 | .assign x=>match s.sv x with
  |some y=>K (s.put z.dst y) u|none=>eh
 | .pick c a b=>match s.sv c,s.sv a,s.sv b with
  |some .jZ,some y,_=>K (s.put z.dst y) u|some .lU,_,some y=>K (s.put z.dst y) u|some (.dec p _),some y,some Y=>(p->K (s.put z.dst y) u)/\(¬p->K (s.put z.dst Y) u)|some (.uQ p _),some y,some Y=>(¬p->K (s.put z.dst y) u)/\(p->K (s.put z.dst Y) u)|_,_,_=>eh
 | .binOp op t x y _=>match s.sv x,s.sv y with
  |some (.v (.int k a)),some (.v (.int dT b))=>match RN op a b with
   |some Y=>match zl dT k with
    |true=>K (s.put z.dst Y) u|false=>eh
   |none=>match abh op ||zl dT k with
    |true=>Ry C.wrap op k a b λY=>K (s.put z.dst (.v (.int k Y))) u|false=>eh
  |some a,some b=>match op with
   | .eql=>match MH C t a b with
    |some Y=>K (s.put z.dst (.dec Y.p Y.d)) u|none=>eh
   | .neq=>match MH C t a b with
    |some Y=>K (s.put z.dst (.uQ Y.p Y.d)) u|none=>eh
   |_=>other C s z u K
  |_,_=>eh
 | .unOp .not _ x=>match s.sv x with
  |some .jZ=>K (s.put z.dst .lU) u|some .lU=>K (s.put z.dst .jZ) u|some (.dec p d)=>K (s.put z.dst (.uQ p d)) u|some (.uQ p d)=>K (s.put z.dst (.dec p d)) u|some (.v (.bool b))=>K (s.put z.dst (.uQ (b=ak) tn)) u|_=>eh
 | .load t x=>match s.sv x,qT C.P t with
  |some (.loc i off),some aD=>match s.loc[i]? with
   |some cs=>match wm (off+aD.ij.length) cs.length with
    |true=>K (s.put z.dst (.v (aD.mk ((cs.drop off).take aD.ij.length)))) u|false=>eh
   |none=>eh
  |some (.ptr p),some aD=>Uc u p 0 aD.ij λvs=>K (s.put z.dst (.v (aD.mk vs))) u|_,_=>eh
 | .store t x y=>match s.sv x,s.val y,qT C.P t with
  |some (.loc i off),some v,some aD=>match s.loc[i]?,bx i,ju v.cells.size aD.ij.length,PG v.cells.toList with
   |some cs,ak,ak,ak=>match wm (off+aD.ij.length) cs.length with
    |true=>K ({s with loc:=tC s.loc i (over cs off v.cells.toList)}.drop z.dst) u
    |false=>eh
   |_,_,_,_=>eh
  |some (.ptr p),some v,some aD=>match ju v.cells.size aD.ij.length with
   |true=>u.aO p v.cells.toList λu'=>K (s.drop z.dst) u'|false=>eh
  |_,_,_=>eh
 | .alloc t=>match zeroOf C.P t,z.dst with
  |some cs,some d=>match gC C.exp d with
   |true=>∀b,u b=none->K (s.put (some d) (.ptr ⟨b,0,none⟩)) (u.ins b (.cells cs.toArray t (0,0)))|false=>K ({s with loc:=s.loc++ [cs]}.put (some d) (.loc s.loc.length 0)) u
  |_,_=>eh
 | .box t x=>match s.val x,z.dst with
  |some v,some d=>match gC C.exp d with
   |true=>∀b,u b=none->K (s.put (some d) (.ptr ⟨b,0,none⟩)) (u.ins b (.cells v.cells.toList.toArray t (0,0)))|false=>K ({s with loc:=s.loc++ [v.cells.toList]}.put (some d) (.loc s.loc.length 0)) u
  |_,_=>eh
 | .nilCheck x=>match s.sv x with
  |some (.loc i off)=>K (s.put z.dst (.loc i off)) u|some (.ptr p)=>K (s.put z.dst (.ptr p)) u|some (.v (.pointer q))=>∃p,q=some p/\K (s.put z.dst (.ptr p)) u|_=>eh
 | .fieldAddr t x f=>match s.sv x,PF C.P t f with
  |some (.loc i off),some n=>K (s.put z.dst (.loc i (off+n))) u|some (.ptr p),some n=>K (s.put z.dst (.ptr (p.at' n))) u|_,_=>eh
 | .indexAddr t x bB=>match C.P.underlying t with
  |some (.slice e)=>match s.sv x,s.sv bB,yn C.P e with
   |some (.v (.slice a n _)),some (.v (.int _ i)),some hC=>∃p,a=some p/\(0<=i/\i<n)/\K (s.put z.dst (.ptr (p.add (i.toNat*hC)))) u|_,_,_=>eh
  |some (.array len e)=>match s.sv x,s.sv bB,yn C.P e with
   |some (.loc j off),some (.v (.int _ (.ofNat m))),some (hC+1)=>match zJ m len with
    |true=>K (s.put z.dst (.loc j (off+m*(hC+1)))) u|false=>eh
   |some (.ptr p),some (.v (.int _ i)),some hC=>2<=len/\(0<=i/\i<len)/\K (s.put z.dst (.ptr (p.add (i.toNat*hC)))) u|_,_,_=>eh
  |_=>eh
 | .call c=>match Q7 s c.args,QD C.P z.type with
  |some vs,some ss=>match c.callee with
   | .value (.func f)=>match hn C.P f with
    |true=>io C.P f vs.toArray ss u (sM s z.dst ss K)|false=>match akp C.P f with
     |true=>dd C.P (AE f vs.toArray) ss u (sM s z.dst ss K)|false=>eh
   | .value x=>match s.sv x with
    |some (.v fv)=>hY C.P fv vs.toArray ss u (sM s z.dst ss K)|_=>eh
   | .invoke x name=>match s.sv x with
    |some (.v r)=>mX C.P r name vs.toArray ss u (sM s z.dst ss K)|_=>eh
   | .builtin _=>other C s z u K
  |_,_=>eh
 |_=>other C s z u K
structure Good(C:lb):Prop where
 aw2:∀(f:kM) (fn:Func),C.P.funcs[f]?=some fn->(fn.name== "runtime.NumGoroutine")=ax
 mixed:C.P.follows .mixedOrders=ak
 eq:∀t n,MG C.ik t=some n->∀xs e0 Y,xs.toList.length=n->e0.toList.length=n->yS xs.toList e0.toList=some Y->∀(x y:jX) (w:b7),
  (eqGuard .eql t x y (.agg xs) (.agg e0)).run C.P w=.ok () w/\(eqGuard .neq t x y (.agg xs) (.agg e0)).run C.P w=.ok () w/\
  (Op.equal t (.agg xs) (.agg e0)).run C.P w=.ok (@decide Y.p Y.d) w
structure Kept(bx:N->aK)(s aq:aO):Prop where
 n:aq.n=s.n
 len:s.loc.length<=aq.loc.length
 same:∀i cs,s.loc[i]?=some cs->bx i=ax->aq.loc[i]?=some cs
def Kept.refl(bx:N->aK)(s:aO):Kept bx s s:=⟨rfl,cA _,λ_ _ h _=>h⟩
def Kept.trans{bx:N->aK}{a b c:aO}(h:Kept bx a b)(k:Kept bx b c):Kept bx a c:=
 ⟨k.n.trans h.n,jg h.len k.len,λi cs e w=>k.same i cs (h.same i cs e w) w⟩
def mO(s:aO)(d:ay Tmp)(x:fF):(s.put d x).loc=s.loc/\(s.put d x).n=s.n:=by
 cases d with
 |none=>exact⟨rfl,rfl⟩|some d=>simp only[aO.put];split<;>exact⟨rfl,rfl⟩
def Xl(s:aO)(d:ay Tmp):(s.drop d).loc=s.loc/\(s.drop d).n=s.n:=by cases d<;>exact⟨rfl,rfl⟩
def Kept.put(bx:N->aK)(s:aO)(d:ay Tmp)(x:fF):Kept bx s (s.put d x):=
 ⟨(mO s d x).2,by rw[(mO s d x).1];exact cA _,λi cs h _=>by rw[(mO s d x).1];exact h⟩
def Kept.drop(bx:N->aK)(s:aO)(d:ay Tmp):Kept bx s (s.drop d):=
 ⟨(Xl s d).2,by rw[(Xl s d).1];exact cA _,λi cs h _=>by rw[(Xl s d).1];exact h⟩
def l7(bx:N->aK)(K:aO->H->Prop)(s:aO)(bs:M N)(u:H)(a:eo)(w:b7)(dst:ay Tmp)(cO:eo)(w':b7):Prop:=
 ∃aq u' c8 v,K aq u'/\Fits aq c8 u' cO w'/\Step u bs w u' c8 w'/\cO=a.put dst v/\Kept bx s aq
section
variable {C:lb} {bx:N->aK} {s:aO} {z:eI} {u:H} {K:aO->H->Prop} {bs:M N} {a:eo} {w:b7} {Q:k4->eo->b7->Prop}
def zE{v:ap}{y:fF}(Z:Fits s bs u a w)(O:(fD a.eval z).run C.P w=.ok (.value v) w)(I:hj bs y=some v)(hk:K (s.put z.dst y) u):
  z.wp C.P a w (l7 bx K s bs u a w z.dst) Q:=by
 unfold D5
 rw[O]
 exact⟨_,u,bs,v,hk,Z.put z.dst I,Step.refl Z.sub,rfl,Kept.put bx s z.dst y⟩
def PE{v:ap}{u':H}(Z:Fits s bs u a w)(O:(fD a.eval z).run C.P w=.ok (.value v) w')(ag:Step u [] w u' [] w')(hk:K (s.put z.dst (.v v)) u'):
  z.wp C.P a w (l7 bx K s bs u a w z.dst) Q:=by
 unfold D5
 rw[O]
 exact⟨_,u',bs,v,hk,(Z.step ag).put z.dst (x:=.v v) rfl,ag.NJ bs,rfl,Kept.put bx s z.dst _⟩
def vn(C:lb)(s:aO)(z:eI)(u:H)(K:aO->H->Prop)(bs:M N)(a:eo):Prop:=
 ∃y v,K (s.put z.dst y) u/\hj bs y=some v/\∀w,(fD a.eval z).run C.P w=.ok (.value v) w
def po(Z:Fits s bs u a w)(h:vn C s z u K bs a):z.wp C.P a w (l7 bx K s bs u a w z.dst) Q:=by obtain⟨y,v,hk,I,O⟩:=h;exact zE Z (O w) I hk
def Rq(C:lb)(s:aO)(z:eI)(u:H)(K:aO->H->Prop)(bs:M N)(a:eo):Prop:=
 ∃y v,K (s.put z.dst y) u/\hj bs y=some v/\∀w,jy s.loc bs u w->(fD a.eval z).run C.P w=.ok (.value v) w
def akt(Z:Fits s bs u a w)(h:Rq C s z u K bs a):z.wp C.P a w (l7 bx K s bs u a w z.dst) Q:=by obtain⟨y,v,hk,I,O⟩:=h;exact zE Z (O w Z.w) I hk
def ack{m:Sem ap}{ss:M bg}(Z:Fits s bs u a w)(h:dd C.P m ss u (sM s z.dst ss K))
  (O:∀v w',m.run C.P w=.ok v w'->(fD a.eval z).run C.P w=.ok (.value v) w'∨(fD a.eval z).run C.P w=.ok .skip w'/\v=ih):
  z.wp C.P a w (l7 bx K s bs u a w z.dst) Q:=by
 obtain⟨v,w',u',e,⟨vs,aA,rfl,au⟩,ag⟩:=h w Z.sub
 have nS:K (s.put z.dst (.v (xb ss vs))) u':=(QX aA _).1 au
 rcases O _ _ e with h1|⟨h1,h2⟩
 exact PE Z h1 ag nS
 unfold D5
 rw[h1]
 rw[h2] at nS
 exact⟨_,u',bs,ih,nS,(Z.step ag).put z.dst (x:=.v ih) rfl,ag.NJ bs,rfl,Kept.put bx s z.dst _⟩
def acj{args:cw ap}{ss:M bg}(Z:Fits s bs u a w)(h:io C.P f args ss u (sM s z.dst ss K))
  (O:(fD a.eval z).run C.P w=.ok (.enter f args) w):z.wp C.P a w (l7 bx K s bs u a w z.dst) Q:=by
 unfold D5
 rw[O]
 refine(h w Z.sub).mono ?_
 rintro e w' ⟨v,u',rfl,⟨vs,aA,rfl,au⟩,ag⟩
 have nS:K (s.put z.dst (.v (xb ss vs))) u':=(QX aA _).1 au
 exact⟨_,u',bs,_,nS,(Z.step ag).put z.dst (x:=.v _) rfl,ag.NJ bs,rfl,Kept.put bx s z.dst _⟩
def amU(Z:FitsE s bs a){xs:cw jX}(h:Q7 s xs=some vs):xs.map a.eval=vs.toArray:=by
 unfold Q7 at h;have key:∀(l:M jX) (vs:M ap),l.mapM s.val=some vs->l.map a.eval=vs:=by
  intro l;induction l with
  |nil=>intro vs h;simp at h;subst h;rfl
  |cons x l aM=>intro vs h;simp only[acC,Option.bind_eq_bind,acD,Option.pure_def,kb] at h;obtain⟨y,ah,e0,aa5,rfl⟩:=h;simp only[gm,aM e0 aa5,Z.val ah]
 apply K0;simp only[Array.toList_map];exact key _ _ h
def ahb(h:hn P f=ak):∃fn,P.funcs[f]?=some fn/\fn.body.isSome=ak:=by unfold hn at h;split at h;rename_i fn e;exact⟨fn,e,h⟩;cases h
def RM(fy:Good C)(h:∃fn,C.P.funcs[f]?=some fn/\fn.body.isSome=ak)(args:cw ap)(w:b7):
  (p0 f args).run C.P w=.ok (.enter f args) w:=by
 obtain⟨fn,e,ab⟩:=h
 have h1:=fy.aw2 f fn e
 obtain⟨b,eG⟩:=KY.1 ab
 simp only[p0,eW,program,rH,jK,e]
 simp[h1,eG]
def ayC(ag:∀cs b,z.op≠.select cs b)(Z:FitsE s bs a)(hk:known s z=ak){m:Sem ap}(hm:H5 s z=some m){v:ap}(O:m.run C.P w=.ok v w'):
  (fD a.eval z).run C.P w=.ok (.value v) w'∨(fD a.eval z).run C.P w=.ok .skip w'/\v=ih:=by
 have hu:∀x:Sem Unit,(unit x).run C.P w=.ok v w'->(do x;pure Next.skip:Sem Next).run C.P w=.ok .skip w'/\v=ih:=by
  intro x J;simp only[unit,eW] at J ⊢;cases ajv:x.run C.P w with
  |ok Y eA=>rw[ajv] at J;simp only[jK] at J ⊢;cases J;exact⟨rfl,rfl⟩
  |halt Y eA=>rw[ajv] at J;simp at J
 have aA:∀x:Sem ap,x.run C.P w=.ok v w'->(do pure (Next.value (<-x)):Sem Next).run C.P w=.ok (.value v) w':=by intro x J;simp only[eW,J,jK];rfl
 rw[afV Z ag hk]
 unfold H5 at hm
 unfold fD
 split at hm
 all_goals try(rename_i e;rw[e];cases hm;simp only[])
 case _=>exact .inl (aA _ O)
 case _=>exact .inr (hu _ O)
 case _=>exact .inr (hu _ O)
 case _=>exact .inl (aA _ O)
 case _=>exact .inl (aA _ O)
 case _=>exact .inl (aA _ O)
 case _=>exact .inl (aA _ O)
 case _=>exact .inl (aA _ O)
 case _=>exact .inl (aA _ O)
 case _=>exact .inl (aA _ O)
 case _=>exact .inl (aA _ O)
 case _=>exact .inl (aA _ O)
 case _=>exact .inl (aA _ O)
 case _=>exact .inl (aA _ O)
 case _=>exact .inl (aA _ O)
 case _=>exact .inr (hu _ O)
 case _ c e=>
  rw[e];simp only[];split at hm
  all_goals try(rename_i I;cases hm;left;simp only[resolve,I,pure_bind,invoke,builtin];exact aA _ O)
  rename_i f I;cases hm;left;simp only[resolve,I,aO.h8,aO.val,aO.sv,PX,fF.val,K1,Ux,pure_bind,invoke,Array.append_empty,Array.empty_append];simp only[AE,eW] at O;cases J:(p0 f (Array.map s.h8 c.args)).run C.P w with
  |halt Y eA=>rw[J] at O;simp at O|ok Y eA=>
   rw[J] at O;simp only[jK] at O;cases Y<;>simp only[] at O<;>first
    |(have Oy:zK _ eA=zK v w':=O;cases Oy;rfl)
    |(simp[stuck] at O)
  cases hm
 case _=>cases hm
def akw(ag:∀cs b,z.op≠.select cs b)(Z:Fits s bs u a w)(h:other C s z u K):z.wp C.P a w (l7 bx K s bs u a w z.dst) Q:=by unfold other at h;split at h;rename_i v e;exact zE (y:=.v v) Z (akF Z.toFitsE e w) rfl h;split at h;rename_i hk hm fo;exact ack Z h λv w' O=>ayC ag Z.toFitsE hk hm O;exact h.elim
def aeR(p:bc)(i:N):p.at' i=p.add i:=by
 cases i with
 |zero=>simp[bc.at',ev]|succ i=>rfl
def av6{p:bc}:∀(ck:M aL) (i:N) (f:M ap->Prop),Uc u p i ck f->
  ∃vs,pB ck vs/\f vs/\∀w acc,Sub u w->(loadCellsFrom p i ck.length acc).run P w=.ok (acc++vs.toArray) w:=by
 intro ck
 induction ck with
 |nil=>intro i f h;exact⟨[],.nil,h,λw acc _=>by simp[loadCellsFrom]⟩
 |cons t ck aM=>intro i f h;obtain⟨x,J,O⟩:=h;obtain⟨vs,hk,FX,nq⟩:=aM (i+1) _ O;refine⟨t.enc x::vs,.cons x hk,FX,λw acc gJ=>?_⟩;rw[aeR] at J;have h1:=gJ.cell J;simp only[hX,loadCellsFrom,eW,load,rH,h1,jK];rw[nq w _ gJ];simp
def av1{ck:M aL}(h:pB ck vs):vs.length=ck.length:=by
 induction h with
 |nil=>rfl|cons _ _ aM=>simp[aM]
def adC{aD:bg}(h:qT P t=some aD):
  ∃i d,P.info? t=some i/\P.underlying t=some d/\i.size=aD.ij.length/\
   (∀w,(isAgg t).run P w=.ok (match aD with| .one _=>ax| .agg _=>ak) w):=by
 unfold qT at h
 split at h
 rename_i i hi
 split at h
 rename_i cs d aC aw
 split at h
 rename_i aE ab
 cases h
 refine⟨i,d,hi,by assumption,?_,?_⟩
 have:=mh ab;simp[bg.ij,this]
 intro w
 unfold q3 at aE
 rw[aw] at aE
 simp only[isAgg,eW,underlying,program,rH,jK,aw]
 cases d<;>simp_all
 cases h
 rename_i Y d _ _ _
 have aw:P.underlying t=some d:=by assumption
 split at h
 rename_i aE ab
 cases h
 refine⟨i,d,hi,by assumption,?_,?_⟩
 have:=mh ab;simp[bg.ij,<-this]
 intro w
 unfold q3 at aE
 rw[aw] at aE
 simp only[isAgg,eW,underlying,program,rH,jK,aw]
 cases d<;>simp_all
 cases h
 cases h
 cases h
def QE{i:TypeInfo}(h:P.info? t=some i)(w:b7):(sizeOf t).run P w=.ok i.size w:=by simp[sizeOf,typeInfo,program,rH,h]
def KH{aD:bg}(h:qT P t=some aD)(p:bc)(hk:vs.length=aD.ij.length)
  (O:(loadCellsFrom p 0 aD.ij.length #[]).run P w=.ok vs.toArray w) (hw:∀c,aD=.one c->∃v,vs=[v]/\w.cell? p=some v):
  (loadVar t p).run P w=.ok (aD.mk vs) w:=by
 obtain⟨i,d,hi,aw,cI,aE⟩:=adC h
 unfold loadVar
 rw[eW,aE]
 cases aD with
 |one c=>obtain⟨v,rfl,aA⟩:=hw c rfl;simp[load,rH,aA,bg.mk]
 |agg cs=>simp only[jK,qI,eW,QE hi,loadCells,cI];rw[O];simp[bg.mk]
structure sI(b:N)(z:Obj)(w w':b7):Prop where
 at_:w'.heap[b]?=some z
 size:w'.heap.size=w.heap.size
 os:w'.os=w.os
 tape:w'.tape=w.tape
 output:w'.output=w.output
 drawn:w.drawn<=w'.drawn
 rest:∀x,x≠b->w'.heap[x]?=w.heap[x]?
def sI.refl{z:Obj}{w:b7}(h:w.heap[b]?=some z):sI b z w w:=⟨h,rfl,rfl,rfl,rfl,cA _,λ_ _=>rfl⟩
def sI.trans{z b5:Obj}{w Rf:b7}(h:sI b z w w')(k:sI b b5 w' Rf):sI b b5 w Rf:=
 ⟨k.at_,k.size.trans h.size,k.os.trans h.os,k.tape.trans h.tape,k.output.trans h.output,jg h.drawn k.drawn,λx J=>(k.rest x J).trans (h.rest x J)⟩
def sI.setCell{c:cw ap}{w:b7}(h:w.heap[b]?=some (.cells c T (0,0)))(v:ap):
  sI b (.cells (c.setIfInBounds off v) T (0,0)) w (w.setCell ⟨b,off,none⟩ v):=by
 refine⟨?_,by simp[acE],rfl,rfl,rfl,cA _,λx J=>?_⟩
 simp only[acE,Uy,qI,h,tr]
 simp
 simp only[acE,Uy]
 rw[aF (λe=>J e.symm)]
def adN:∀(vs:M ap) (i:N) (c:cw ap) (w:b7),w.heap[b]?=some (.cells c T (0,0))->
  off+i+vs.length<=c.size->(∀v∈vs,v.oneCell'=ak)->∃w',(storeCells ⟨b,off,none⟩ vs i).run P w=.ok () w'/\sI b (.cells (wr c (off+i) vs) T (0,0)) w w':=by
 intro vs
 induction vs with
 |nil=>intro i c w h _ _;exact⟨w,rfl,.refl h⟩
 |cons v vs aM=>
  intro i c w h ar h1;simp only[hX] at ar;have hw:=sI.setCell (off:=off+i) h v;obtain⟨w',O,k2⟩:=aM (i+1) _ _ hw.at_ (by simp;omega) (λx J=>h1 x (.tail _ J));refine⟨w',?_,?_⟩;have aE:(⟨b,off,none⟩:bc).add i=⟨b,off+i,none⟩:=by unfold ev;split<;>simp_all
  have I:w.cell? ⟨b,off+i,none⟩=some c[off+i]:=by simp only[PU,h];simp[x8 (show off+i<c.size by omega)]
  have Dn:w.frozen? ⟨b,off+i,none⟩=ax:=by simp[Hw,h]
  simp only[storeCells,eW,aE];rw[run_store P w _ v _ (h1 v (.head _)),I];simp only[Dn,D6,BU,jK];exact O;have:=hw.trans k2;simpa[wr,Nat.add_assoc] using this
def amk{i:TypeInfo}(hi:P.info? t=some i){v:ap}(cI:v.cells.size=i.size){c:cw ap}{w:b7}
  (h:w.heap[b]?=some (.cells c T (0,0))) (ar:off+v.cells.toList.length<=c.size) (h1:∀x∈v.cells.toList,x.oneCell'=ak):
  ∃w',(storeVar t ⟨b,off,none⟩ v).run P w=.ok () w'/\sI b (.cells (wr c off v.cells.toList) T (0,0)) w w':=by
 obtain⟨w',O,hw⟩:=adN (P:=P) (off:=off) v.cells.toList 0 c w h (by simpa using ar) h1
 refine⟨w',?_,by simpa using hw⟩
 unfold storeVar
 rw[eW,QE hi]
 simp only[jK,cI,ne_eq,not_true_eq_false,BU]
 exact O
def aj5{cs:M ap}{w:b7}(h:w.heap[b]?=some (.cells cs.toArray T (0,0))):∀(n i:N) (acc:cw ap),
  off+i+n<=cs.length->(loadCellsFrom ⟨b,off,none⟩ i n acc).run P w=.ok (acc++((cs.drop (off+i)).take n).toArray) w:=by
 intro n
 induction n with
 |zero=>intro i acc _;simp[loadCellsFrom]
 |succ n aM=>
  intro i acc ar;have aE:(⟨b,off,none⟩:bc).add i=⟨b,off+i,none⟩:=by unfold ev;split<;>simp_all
  have bD:off+i<cs.length:=by omega
  have I:w.cell? ⟨b,off+i,none⟩=some cs[off+i]:=by simp only[PU,h];simp[bD]
  simp only[loadCellsFrom,eW,load,rH,aE,I,jK];rw[aM (i+1) _ (by omega)];rw[wo bD,BV,<-Nat.add_assoc];simp
def Fits.aw0(Z:Fits s bs u a w)(cs:M ap)(T:dJ):
  Fits {s with loc:=s.loc++ [cs]} (bs++ [w.heap.size]) u a (w.alloc (.cells cs.toArray T (0,0)))/\
  Step u bs w u (bs++ [w.heap.size]) (w.alloc (.cells cs.toArray T (0,0))):=by
 have mL:∀(b:N) (z:Obj),w.heap[b]?=some z->(w.alloc (.cells cs.toArray T (0,0))).heap[b]?=some z:=by
  intro b z e;have bD:b<w.heap.size:=by rcases kC b w.heap.size with k|k;exact k;rw[D4 k] at e;cases e
  show(w.heap.push _)[b]?=_;rw[Uz,aF (by omega)];exact e
 refine⟨⟨⟨Z.defers,Z.n,?_⟩,by simp[Z.len],?_,?_,?_,λb z e=>mL b z (Z.sub b z e)⟩,⟨λb z e=>mL b z (Z.sub b z e),rfl,rfl,rfl,cA _,by rw[D7];omega,?_,λ_ _ e=>e,[w.heap.size],rfl,by simp⟩⟩
 intro p ad
 obtain⟨v,h1,h2⟩:=Z.env p ad
 refine⟨v,?_,h2⟩
 cases J:p.2<;>rw[J] at h1<;>first|exact h1|skip
 rename_i i off
 simp only[hj] at h1 ⊢
 split at h1
 rename_i b ab
 have bD:i<bs.length:=by rcases kC i bs.length with k|k;exact k;rw[iy k] at ab;cases ab
 rw[qJ bD,ab];exact h1
 cases h1
 intro i yP e
 rcases kC i s.loc.length with k|k
 rw[qJ k] at e
 obtain⟨b,bt,h1,h2⟩:=Z.loc i yP e
 exact⟨b,bt,by rw[qJ (by rw[Z.len];exact k)];exact h1,mL _ _ h2⟩
 rw[K2 k] at e
 have hi:i=s.loc.length:=by rcases acF k with dT|dT;exact dT.symm;rw[iy (by simp;omega)] at e;cases e
 subst hi
 simp only[Nat.sub_self,BW,kb] at e
 subst e
 refine⟨w.heap.size,T,by rw[<-Z.len];simp,?_⟩
 show(w.heap.push _)[w.heap.size]?=_
 simp
 rw[gh]
 refine⟨Z.nodup,by simp,?_⟩
 intro x J y ah
 simp only[fV] at ah
 subst ah
 have:=(Z.ch x J).2
 omega
 intro b ab
 rcases cN.1 ab with ab|ab
 exact⟨(Z.ch b ab).1,by have:=(Z.ch b ab).2;rw[D7];omega⟩
 simp only[fV] at ab
 subst ab
 exact⟨Z.sub.none (cA _),by rw[D7];omega⟩
 intro b ab _ _
 show(w.heap.push _)[b]?=_
 rw[Uz,aF (by omega)]
def Fits.BN(Z:Fits s bs u a w)(z:Obj):
  Fits s bs (u.ins w.heap.size z) a (w.alloc z)/\Step u bs w (u.ins w.heap.size z) bs (w.alloc z):=by
 have mL:∀(b:N) (p:Obj),w.heap[b]?=some p->(w.alloc z).heap[b]?=some p:=by
  intro b p e;have bD:b<w.heap.size:=by rcases kC b w.heap.size with k|k;exact k;rw[D4 k] at e;cases e
  show(w.heap.push _)[b]?=_;rw[Uz,aF (by omega)];exact e
 have gJ:Sub (u.ins w.heap.size z) (w.alloc z):=by intro b p e;unfold H.ins at e;split at e;rename_i ab;subst ab;cases e;show(w.heap.push _)[w.heap.size]?=_;simp;exact mL b p (Z.sub b p e)
 refine⟨⟨⟨Z.defers,Z.n,Z.env⟩,Z.len,?_,Z.nodup,?_,gJ⟩,⟨gJ,rfl,rfl,rfl,cA _,by rw[D7];omega,?_,?_,[],by simp,by simp⟩⟩
 intro i cs e
 obtain⟨b,T,h1,h2⟩:=Z.loc i cs e
 exact⟨b,T,h1,mL _ _ h2⟩
 intro b ab
 have:=Z.ch b ab
 exact⟨by rw[H.bq u z (by omega)];exact this.1,by rw[D7];omega⟩
 intro b ab _ _
 show(w.heap.push _)[b]?=_
 rw[Uz,aF (by omega)]
 intro b ab e
 rw[H.bq u z (by omega)];exact e
def adB{α:Type}(l:M α)(i:N)(y:α)(j:N):(tC l i y)[j]?=if i=j/\j<l.length then some y else l[j]?:=by
 induction l generalizing i j with
 |nil=>simp[tC]|cons x xs aM=>
  cases i with
  |zero=>cases j<;>simp[tC]
  |succ i=>cases j with
   |zero=>simp[tC]|succ j=>simp only[tC,x9,aM];simp
def Vx{α:Type}(l:M α)(i:N)(y:α):(tC l i y).length=l.length:=by
 induction l generalizing i with
 |nil=>rfl|cons x xs aM=>cases i<;>simp[tC,aM]
def am3:∀(vs cs:M ap) (off:N),off+vs.length<=cs.length->wr cs.toArray off vs=(over cs off vs).toArray:=by
 intro vs;induction vs with
 |nil=>intro cs off _;simp[wr,over]
 |cons v vs aM=>
  intro cs off h;simp only[hX] at h;simp only[wr];rw[List.setIfInBounds_toArray,aM _ _ (by simp;omega)];congr 1;apply sk;intro j;simp only[over,List.getElem?_append,ez,gZ,qK,K3,uX,BX,hX];have aS:min off cs.length=off:=by omega
  have aB:min (off+1) cs.length=off+1:=by omega
  rw[aS,aB];rcases UA j off with h1|h1|h1;rw[a1 (by omega),a1 (by omega),a1 (by omega),aF (by omega),a1 (by omega),a1 (by omega),a1 (by omega)];subst h1;rw[a1 (by omega),a1 (by omega),a1 (by omega),a1 rfl,a1 (by omega),a1 (by omega),aF (by omega)];simp;by_cases h2:j<off+(vs.length+1);rw[a1 (by omega),aF (by omega),a1 h2,aF (by omega)];have:j-off=(j-(off+1))+1:=by omega
  rw[this,x9];rw[aF (by omega),aF (by omega)];rw[aF (by omega)];congr 1;omega
def ae8{x:fF}{b:aK}(h:RJ x=some b)(bs:M N):hj bs x=some (.bool b):=by unfold RJ at h;split at h<;>first|(cases h;rfl)|cases h
section
variable {P:dY} (d:N) {t:dJ} (w:b7)
def afT(hu:P.underlying t=some (.pointer e))(p:ay bc):(zL (d+1) t (.pointer p) (.pointer none)).run P w=.ok p.isNone w:=by simp only[zL,eW,underlying,program,rH,jK,hu];cases p<;>simp
def apY(hu:P.underlying t=some (.slice e))(a:ay bc)(n c m k:N):(zL (d+1) t (.slice a n c) (.slice none m k)).run P w=.ok a.isNone w:=by simp only[zL,eW,underlying,program,rH,jK,hu];cases a<;>simp
def apX{k:dJ}(hu:P.underlying t=some (.map k e))(a:ay N):(zL (d+1) t (.map a) (.map none)).run P w=.ok a.isNone w:=by simp only[zL,eW,underlying,program,rH,jK,hu];cases a<;>simp
def apW(hu:P.underlying t=some .bool)(a b:aK):(zL (d+1) t (.bool a) (.bool b)).run P w=.ok (a==b) w:=by simp only[zL,eW,underlying,program,rH,jK,hu];rfl
end
def MI{x y:ap}{b:aK}{w:b7}(h:(zL (9999+1) t x y).run P w=.ok b w):(Op.equal t x y).run P w=.ok b w:=h
set_option maxHeartbeats 1000000 in
def ap0(fy:Good C){x y:fF}{Y:CI}(h:MH C t x y=some Y)(bs:M N){Rc Re:ap}(J:hj bs x=some Rc)(ah:hj bs y=some Re)(acp acq:jX)(w:b7):
  (do eqGuard .eql t acp acq Rc Re;binOp .eql t Rc Re:Sem ap).run C.P w=.ok (.bool (@decide Y.p Y.d)) w/\
  (do eqGuard .neq t acp acq Rc Re;binOp .neq t Rc Re:Sem ap).run C.P w=.ok (.bool (!@decide Y.p Y.d)) w:=by
 unfold MH at h
 split at h
 rename_i p
 cases J;cases ah
 split at h
 rename_i e hu
 cases h
 have O:=afT 9999 w hu p
 have aw:@decide (p=none) (I4 p)=p.isNone:=by cases p<;>simp
 simp only[eqGuard_at_pointer,pure_bind,binOp,eW]
 rw[MI O]
 simp[aw]
 cases h
 rename_i q
 cases J;cases ah
 split at h
 rename_i e hu
 cases h
 have O:=afT 9999 w hu (some q)
 simp only[eqGuard_at_pointer,pure_bind,binOp,eW]
 rw[MI O]
 simp
 cases h
 rename_i a n c m k
 cases J;cases ah
 split at h
 rename_i e hu
 cases h
 have O:=apY 9999 w hu a n c m k
 have aw:@decide (a=none) (I4 a)=a.isNone:=by cases a<;>simp
 simp only[eqGuard_at_slice,pure_bind,binOp,eW]
 rw[MI O]
 simp[aw]
 cases h
 rename_i a
 cases J;cases ah
 split at h
 rename_i k e hu
 cases h
 have O:=apX 9999 w hu a
 have aw:@decide (a=none) (I4 a)=a.isNone:=by cases a<;>simp
 simp only[eqGuard_at_map,pure_bind,binOp,eW]
 rw[MI O]
 simp[aw]
 cases h
 rename_i xs e0
 cases J;cases ah
 split at h
 rename_i n hm
 split at h
 rename_i gn h4
 obtain⟨h1,h2,h3⟩:=fy.eq t n hm xs e0 Y (mh gn) (mh h4) h acp acq w
 simp only[eW,h1,h2,jK,binOp,h3]
 exact⟨rfl,rfl⟩
 cases h
 cases h
 rename_i x y
 cases J;cases ah
 cases h
 simp only[eqGuard_at_string,pure_bind,binOp,Op.stringOp]
 constructor
 show zK _ _=_
 congr 2
 by_cases e:x.toList=y.toList<;>simp[e]
 show zK _ _=_
 congr 2
 by_cases e:x.toList=y.toList<;>simp[e,bne]
 split at h
 rename_i a b aE ab hu
 cases h
 have h1:=ae8 aE bs
 have h2:=ae8 ab bs
 rw[J] at h1;rw[ah] at h2
 cases h1;cases h2
 have O:=apW 9999 w hu a b
 simp only[eqGuard_at_bool,pure_bind,binOp,eW]
 rw[MI O]
 constructor
 show zK _ _=_
 congr 2
 show zK _ _=_
 congr 2
 cases h
end
end
section
variable{t:dJ}{P:dY}{v:ap}{p:bc}{i n off d f:N}{cs:M ap}
section
variable {C:lb} {bx:N->aK} {s:aO} {z:eI} {u:H} {K:aO->H->Prop} {bs:M N} {a:eo} {w:b7} {Q:k4->eo->b7->Prop}
def z6{m:Sem ap}{w w':b7}(h:m.run P w=.ok v w'):(do pure (Next.value (<-m)):Sem Next).run P w=.ok (.value v) w':=by simp only[eW,h,jK];rfl
def alp{m:Sem Unit}{w w':b7}(h:m.run P w=.ok () w'):(do m;pure Next.skip:Sem Next).run P w=.ok .skip w':=by simp only[eW,h,jK];rfl
def Vu(Z:FitsE s bs a){x:jX}(e:z.op=.move x∨z.op=.assign x)(h:match s.sv x with|some y=>K (s.put z.dst y) u|none=>eh):
  vn C s z u K bs a:=by
 split at h
 rename_i y ah
 refine⟨y,a.eval x,h,(Z.sv ah),λw=>?_⟩
 rcases e with e|e<;>(unfold fD;rw[e];rfl)
 exact h.elim
def wI(Z:FitsE s bs a){c x y:jX}(e:z.op=.pick c x y){b:aK}(I:a.eval c=.bool b){Y:fF}(aC:s.sv (if b then x else y)=some Y)(h:K (s.put z.dst Y) u):
  vn C s z u K bs a:=by
 refine⟨Y,a.eval (if b then x else y),h,(Z.sv aC),λw=>?_⟩
 unfold fD
 rw[e]
 simp only[I]
 cases b<;>rfl
def yO(Z:FitsE s bs a){x:jX}(h:s.sv x=some (.v v)):a.eval x=v:=by have:=Z.sv h;simp only[hj,kb] at this;exact this.symm
def E9(Z:FitsE s bs a){x:jX}(h:s.sv x=some (.ptr p)):a.eval x=.pointer (some p):=by have:=Z.sv h;simp only[hj,kb] at this;exact this.symm
def E8(Z:FitsE s bs a){x:jX}(h:s.sv x=some (.loc i off)):∃b,bs[i]?=some b/\a.eval x=.pointer (some ⟨b,off,none⟩):=by have:=Z.sv h;simp only[hj] at this;split at this;rename_i b ab;simp only[kb] at this;exact⟨b,ab,this.symm⟩;cases this
def als(Z:FitsE s bs a){op:BinOp}{yp:dJ}{x y:jX}(e:z.op=.binOp op t x y yp){k dT:x7}{m n:o}
  (J:s.sv x=some (.v (.int k m))) (ah:s.sv y=some (.v (.int dT n)))
  (h:match RN op m n with
   |some Y=>match zl dT k with
    |true=>K (s.put z.dst Y) u|false=>eh
   |none=>match abh op ||zl dT k with
    |true=>Ry C.wrap op k m n λY=>K (s.put z.dst (.v (.int k Y))) u|false=>eh):vn C s z u K bs a:=by
 have ex:=yO Z J
 have vy:=yO Z ah
 have nq:∀v w,(binOp op t (.int k m) (.int dT n)).run C.P w=.ok v w->(fD a.eval z).run C.P w=.ok (.value v) w:=by intro v w aA;unfold fD;rw[e];simp only[ex,vy,eqGuard_at_int,pure_bind];exact z6 aA
 split at h
 rename_i Y aC
 split at h
 rename_i hk
 have:=Pc hk
 subst this
 obtain⟨v,h1,h2⟩:=apf aC C.P t dT bs
 exact⟨Y,v,h,h1,λw=>nq v w (h2 w)⟩
 exact h.elim
 split at h
 rename_i hk
 obtain⟨Y,h1,h2⟩:=an0 h C.P t dT (by simp only[Bool.or_eq_true] at hk;rcases hk with hk|hk;cases op<;>simp[abh] at hk<;>simp;exact .inl (Pc hk))
 exact⟨.v (.int k Y),_,h1,rfl,λw=>nq _ w (h2 w)⟩
 exact h.elim
def Vs(fy:Good C)(Z:FitsE s bs a){op:BinOp}{yp:dJ}{x y:jX}(e:z.op=.binOp op t x y yp){p q:fF}(J:s.sv x=some p)(ah:s.sv y=some q)
  {Y:CI} (aC:MH C t p q=some Y) (h:(op=.eql/\K (s.put z.dst (.dec Y.p Y.d)) u)∨(op=.neq/\K (s.put z.dst (.uQ Y.p Y.d)) u)):
  vn C s z u K bs a:=by
 have y0:=ap0 fy aC bs (Z.sv J) (Z.sv ah) x y
 rcases h with⟨rfl,h⟩|⟨rfl,h⟩
 refine⟨.dec Y.p Y.d,.bool (@decide Y.p Y.d),h,rfl,λw=>?_⟩
 unfold fD;rw[e];exact z6 (y0 w).1
 refine⟨.uQ Y.p Y.d,.bool (!@decide Y.p Y.d),h,rfl,λw=>?_⟩
 unfold fD;rw[e];exact z6 (y0 w).2
def z8(Z:FitsE s bs a){x:jX}(e:z.op=.unOp .not t x){b:aK}(J:a.eval x=.bool b){Y:fF}(aC:hj bs Y=some (.bool (!b)))(h:K (s.put z.dst Y) u):
  vn C s z u K bs a:=by
 refine⟨Y,.bool (!b),h,aC,λw=>?_⟩
 unfold fD;rw[e]
 simp only[J]
 rfl
def alz(Z:FitsE s bs a){x:jX}(e:z.op=.load t x)(J:s.sv x=some (.loc i off)){aD:bg}(fo:qT C.P t=some aD)
  (ar:s.loc[i]?=some cs) (ab:off+aD.ij.length<=cs.length) (h:K (s.put z.dst (.v (aD.mk ((cs.drop off).take aD.ij.length)))) u):
  Rq C s z u K bs a:=by
 obtain⟨vo,rb,fh⟩:=E8 Z J
 refine⟨.v _,aD.mk ((cs.drop off).take aD.ij.length),h,rfl,λw hw=>?_⟩
 obtain⟨b,T,h1,h2⟩:=hw.loc i cs ar
 rw[h1] at rb;cases rb
 unfold fD;rw[e]
 refine z6 ?_
 simp only[fh,Instr.loadAt,K4,pure_bind]
 refine KH fo _ (by simp;omega) ?_ ?_
 have:=aj5 (P:=C.P) (off:=off) h2 aD.ij.length 0 #[] (by simpa using ab)
 simpa using this
 intro c I
 subst I
 simp only[bg.ij,hX,mi] at ab ⊢
 have bD:off<cs.length:=by omega
 refine⟨cs[off],?_,?_⟩
 rw[wo bD];rfl
 simp only[PU,h2];simp[bD]
def alA(Z:FitsE s bs a){x:jX}(e:z.op=.load t x)(J:s.sv x=some (.ptr p)){aD:bg}(fo:qT C.P t=some aD)
  (h:Uc u p 0 aD.ij λvs=>K (s.put z.dst (.v (aD.mk vs))) u):Rq C s z u K bs a:=by
 obtain⟨vs,hk,au,O⟩:=av6 (P:=C.P) aD.ij 0 _ h
 refine⟨.v _,aD.mk vs,au,rfl,λw hw=>?_⟩
 have vT:=O w #[] hw.sub
 unfold fD;rw[e]
 refine z6 ?_
 simp only[E9 Z J,Instr.loadAt,K4,pure_bind]
 refine KH fo p (av1 hk) (by simpa using vT) ?_
 intro c I
 subst I
 cases hk with
 |cons x dA=>
  cases dA;obtain⟨y,ah,_⟩:=h;have I:=hw.sub.cell ah;refine⟨_,rfl,?_⟩;have dG:=vT;simp only[bg.ij,hX,mi,loadCellsFrom,eW,load,rH] at dG;have e7:p.add 0=p:=by simp[ev]
  rw[e7] at dG;have c9:w.cell? p=some (aL.enc c y):=I;rw[c9] at dG ⊢;simp at dG;rw[dG]
def axd{vs:M ap}(h:PG vs=ak):∀v∈vs,v.oneCell'=ak:=by
 induction vs with
 |nil=>simp|cons v vs aM=>
  simp only[PG,pr] at h;intro x J;cases J with
  |head=>exact h.1|tail _ J=>exact aM h.2 x J
def Kept.ayM(hw:bx i=ak)(l:M ap):Kept bx s {s with loc:=tC s.loc i l}:=by refine⟨rfl,by simp[Vx],?_⟩;intro j cs h aP;simp only[adB];rw[aF];exact h;rintro⟨rfl,_⟩;rw[hw] at aP;cases aP
def ayy(Z:Fits s bs u a w){x y:jX}(e:z.op=.store t x y)(J:s.sv x=some (.loc i off))(ah:s.val y=some v)
  {aD:bg} (fo:qT C.P t=some aD) {cs:M ap} (ar:s.loc[i]?=some cs) (hw:bx i=ak) (cI:v.cells.size=aD.ij.length) (h1:PG v.cells.toList=ak)
  (ab:off+aD.ij.length<=cs.length) (h:K ({s with loc:=tC s.loc i (over cs off v.cells.toList)}.drop z.dst) u):z.wp C.P a w (l7 bx K s bs u a w z.dst) Q:=by
 obtain⟨b,T,hU,kJ⟩:=Z.loc i cs ar
 obtain⟨vo,ahe,fh⟩:=E8 Z.toFitsE J
 rw[hU] at ahe;cases ahe
 obtain⟨azP,d,aaF,_,aaH,_⟩:=adC fo
 have zi:v.cells.toList.length=aD.ij.length:=by rw[rL];exact cI
 obtain⟨w',O,k3⟩:=amk (P:=C.P) aaF (off:=off) (v:=v) (by rw[aaH];exact cI) kJ (by rw[zi];simpa using ab) (axd h1)
 rw[am3 _ _ _ (by rw[zi];exact ab)] at k3
 have hm:b∈bs:=dK hU
 have b9:=Z.ch b hm
 have bD:i<bs.length:=by rcases kC i bs.length with k|k;exact k;rw[iy k] at hU;cases hU
 have gJ:Sub u w':=by
  intro x p ex;have al:x≠b:=λe=>by subst e;rw[b9.1] at ex;cases ex
  rw[k3.rest x al];exact Z.sub x p ex
 have cF:Fits {s with loc:=tC s.loc i (over cs off v.cells.toList)} bs u a w':=by
  refine⟨⟨Z.defers,Z.n,Z.env⟩,by simp[Vx,Z.len],?_,Z.nodup,λx J=>⟨(Z.ch x J).1,by rw[k3.size];exact(Z.ch x J).2⟩,gJ⟩;intro j yP q7;simp only[adB] at q7;split at q7;rename_i aP;obtain⟨rfl,_⟩:=aP;cases q7;exact⟨b,T,hU,k3.at_⟩;rename_i aP;obtain⟨fM,ES,h3,a7⟩:=Z.loc j yP q7;refine⟨fM,ES,h3,?_⟩;rw[k3.rest fM ?_];exact a7;rintro rfl;have kK:j<bs.length:=by rcases kC j bs.length with k|k;exact k;rw[iy k] at h3;cases h3
  have gH:i=j:=by exact(List.getElem?_inj bD Z.nodup (j:=j)).1 (by rw[hU,h3])
  subst gH;exact aP ⟨rfl,by rw[<-Z.len];exact bD⟩
 have dW:Step u bs w u bs w':=⟨gJ,k3.os,k3.tape,k3.output,k3.drawn,by rw[k3.size];exact cA _,λx J oC aiD=>k3.rest x (λe=>by subst e;exact aiD hm),λ_ _ e=>e,[],by simp,by simp⟩
 unfold D5
 have nq:(fD a.eval z).run C.P w=.ok .skip w':=by unfold fD;rw[e];refine alp ?_;simp only[fh,Z.val ah,Instr.storeAt,K4,pure_bind];exact O
 rw[nq]
 exact⟨_,u,bs,ih,h,cF.drop z.dst ih,dW,rfl,(Kept.ayM hw _).trans (Kept.drop bx _ z.dst)⟩
def ayz(Z:Fits s bs u a w){x y:jX}(e:z.op=.store t x y)(J:s.sv x=some (.ptr p))(ah:s.val y=some v)
  {aD:bg} (fo:qT C.P t=some aD) (cI:v.cells.size=aD.ij.length) (h:u.aO p v.cells.toList λu'=>K (s.drop z.dst) u'):z.wp C.P a w (l7 bx K s bs u a w z.dst) Q:=by
 obtain⟨c,T,I,uE,ar,h1,au⟩:=h
 obtain⟨azP,d,aaF,_,aaH,_⟩:=adC fo
 obtain⟨b,off,sp⟩:=p
 simp only at uE I ar au
 subst uE
 have bU:=Z.sub _ _ I
 obtain⟨w',O,k3⟩:=amk (P:=C.P) aaF (off:=off) (v:=v) (by rw[aaH];exact cI) bU ar h1
 have gJ:Sub (u.ins b (.cells (wr c off v.cells.toList) T (0,0))) w':=by intro x p ex;unfold H.ins at ex;split at ex;rename_i aa1;subst aa1;cases ex;exact k3.at_;rename_i aa1;rw[k3.rest x aa1];exact Z.sub x p ex
 have al:∀x,u x=none->x≠b:=λnH fT gv=>by rw[gv,I] at fT;cases fT
 have cF:Fits s bs (u.ins b (.cells (wr c off v.cells.toList) T (0,0))) a w':=by refine⟨⟨Z.defers,Z.n,Z.env⟩,Z.len,?_,Z.nodup,?_,gJ⟩;intro j yP q7;obtain⟨fM,ES,h3,a7⟩:=Z.loc j yP q7;exact⟨fM,ES,h3,by rw[k3.rest fM (al fM (Z.ch fM (dK h3)).1)];exact a7⟩;intro x J;have:=Z.ch x J;exact⟨by rw[H.bq u _ (al x this.1)];exact this.1,by rw[k3.size];exact this.2⟩
 have dW:Step u bs w (u.ins b (.cells (wr c off v.cells.toList) T (0,0))) bs w':=
  ⟨gJ,k3.os,k3.tape,k3.output,k3.drawn,by rw[k3.size];exact cA _,λx J oC aiD=>k3.rest x (al x oC),λx _ oC=>by rw[H.bq u _ (al x oC)];exact oC,[],by simp,by simp⟩
 unfold D5
 have nq:(fD a.eval z).run C.P w=.ok .skip w':=by unfold fD;rw[e];refine alp ?_;simp only[E9 Z.toFitsE J,Z.val ah,Instr.storeAt,K4,pure_bind];exact O
 rw[nq]
 exact⟨_,_,bs,ih,au,cF.drop z.dst ih,dW,rfl,Kept.drop bx _ z.dst⟩
def aAL(h:zeroOf P t=some cs)(w:b7):∃Y,(zeroValue t).run P w=.ok Y w/\Y.cells.toList=cs:=by
 unfold zeroOf at h;split at h;rename_i i hi;cases aC:i.zero with
 |none=>rw[aC] at h;cases h
 |some Y=>rw[aC] at h;simp only[tr,kb] at h;exact⟨Y,by simp[zeroValue,typeInfo,program,rH,hi,aC],h⟩
 cases h
def ako(t:dJ)(v:ap)(w:b7):(newVar t v).run P w=.ok ⟨w.heap.size,0,none⟩ (w.alloc (.cells v.cells t (0,0))):=by simp only[newVar,newRow,newObj,eW,rH,jK];rfl
def alB(Z:Fits s bs u a w)(aw:z.dst=some d)(O:(fD a.eval z).run C.P w=.ok (.value (.pointer (some ⟨w.heap.size,0,none⟩))) (w.alloc (.cells v.cells t (0,0))))
  (h:match gC C.exp d with
   |true=>∀b,u b=none->K (s.put (some d) (.ptr ⟨b,0,none⟩)) (u.ins b (.cells v.cells.toList.toArray t (0,0)))|false=>K ({s with loc:=s.loc++ [v.cells.toList]}.put (some d) (.loc s.loc.length 0)) u):z.wp C.P a w (l7 bx K s bs u a w z.dst) Q:=by
 unfold D5
 rw[O]
 have aS:v.cells.toList.toArray=v.cells:=by simp
 split at h
 have bQ:=h w.heap.size (Z.sub.none (cA _))
 rw[aS,<-aw] at bQ
 obtain⟨h1,h2⟩:=Z.BN (.cells v.cells t (0,0))
 exact⟨_,_,bs,_,bQ,h1.put z.dst (x:=.ptr _) rfl,h2,rfl,Kept.put bx s _ _⟩
 obtain⟨h1,h2⟩:=Z.aw0 v.cells.toList t
 rw[aS] at h1 h2
 rw[<-aw] at h
 refine⟨_,_,_,_,h,h1.put z.dst (x:=.loc s.loc.length 0) ?_,h2,rfl,?_⟩
 simp only[hj]
 rw[<-Z.len]
 simp
 refine Kept.trans (b:={s with loc:=s.loc++ [v.cells.toList]}) ⟨rfl,by simp,λi cs e _=>?_⟩ (Kept.put bx _ _ _)
 have bD:i<s.loc.length:=by rcases kC i s.loc.length with k|k;exact k;rw[iy k] at e;cases e
 show(s.loc++ [v.cells.toList])[i]?=_
 rw[qJ bD];exact e
def ayw(Z:Fits s bs u a w)(e:z.op=.alloc t)(aw:z.dst=some d)(aC:zeroOf C.P t=some cs)
  (h:match gC C.exp d with
   |true=>∀b,u b=none->K (s.put (some d) (.ptr ⟨b,0,none⟩)) (u.ins b (.cells cs.toArray t (0,0)))|false=>K ({s with loc:=s.loc++ [cs]}.put (some d) (.loc s.loc.length 0)) u):z.wp C.P a w (l7 bx K s bs u a w z.dst) Q:=by
 obtain⟨Y,avw,rfl⟩:=aAL aC w
 refine alB Z aw (t:=t) (v:=Y) ?_ h
 unfold fD;rw[e]
 refine z6 ?_
 simp only[Instr.alloc,eW,avw,jK,ako]
 rfl
def ayx(Z:Fits s bs u a w){x:jX}(e:z.op=.box t x)(aw:z.dst=some d)(J:s.val x=some v)
  (h:match gC C.exp d with
   |true=>∀b,u b=none->K (s.put (some d) (.ptr ⟨b,0,none⟩)) (u.ins b (.cells v.cells.toList.toArray t (0,0)))|false=>K ({s with loc:=s.loc++ [v.cells.toList]}.put (some d) (.loc s.loc.length 0)) u):z.wp C.P a w (l7 bx K s bs u a w z.dst) Q:=by
 refine alB Z aw (t:=t) (v:=v) ?_ h
 unfold fD;rw[e]
 refine z6 ?_
 simp only[Instr.box,Z.val J,eW,ako,jK]
 rfl
def Q3{d:TypeDesc}(h:P.underlying t=some d)(w:b7):(underlying t).run P w=.ok d w:=by simp[underlying,program,rH,h]
def alv{x:jX}(e:z.op=.fieldAddr t x f)(ae:PF C.P t f=some n)(J:a.eval x=.pointer (some p))(w:b7):
  (fD a.eval z).run C.P w=.ok (.value (.pointer (some (p.add n)))) w:=by
 unfold PF at ae
 split at ae
 rename_i aY hu
 split at ae
 rename_i g W
 split at ae
 rename_i m hm
 cases ae
 simp only[yn,UB] at hm
 obtain⟨i,hi,cI⟩:=hm
 unfold fD;rw[e]
 refine z6 ?_
 simp only[Instr.fieldAt,eW,Q3 hu,jK,W,J,K4,fieldPlace,QE hi,cI]
 simp[QE hi,cI]
 cases ae
 cases ae
 cases ae
def alw(Z:FitsE s bs a){x:jX}(e:z.op=.fieldAddr t x f)(ae:PF C.P t f=some n)(J:s.sv x=some (.loc i off))
  (h:K (s.put z.dst (.loc i (off+n))) u):vn C s z u K bs a:=by
 obtain⟨b,ab,fh⟩:=E8 Z J
 refine⟨.loc i (off+n),_,h,?_,alv (C:=C) e ae fh⟩
 have:(⟨b,off,none⟩:bc).add n=⟨b,off+n,none⟩:=by unfold ev;split<;>simp_all
 simp[hj,ab,this]
def alx(Z:FitsE s bs a){x:jX}(e:z.op=.fieldAddr t x f)(ae:PF C.P t f=some n)(J:s.sv x=some (.ptr p))
  (h:K (s.put z.dst (.ptr (p.at' n))) u):vn C s z u K bs a:=by
 rw[aeR] at h
 exact⟨.ptr (p.add n),_,h,rfl,alv (C:=C) e ae (E9 Z J)⟩
def alU(h:yn P t=some n)(w:b7):(sizeOf t).run P w=.ok n w:=by simp only[yn,UB] at h;obtain⟨i,hi,cI⟩:=h;rw[QE hi,cI]
def aly(Z:FitsE s bs a){gv:dJ}{x bB:jX}(e:z.op=.indexAddr t x bB)(hu:C.P.underlying t=some (.slice gv)){a8:ay bc}{c:N}(J:s.sv x=some (.v (.slice a8 n c)))
  {k:x7} {i:o} (hi:s.sv bB=some (.v (.int k i))) {hC:N} (cI:yn C.P gv=some hC)
  (h:∃p,a8=some p/\(0<=i/\i<n)/\K (s.put z.dst (.ptr (p.add (i.toNat*hC)))) u):vn C s z u K bs a:=by
 obtain⟨p,rfl,ab,au⟩:=h
 refine⟨.ptr _,.pointer (some (p.add (i.toNat*hC))),au,rfl,λw=>?_⟩
 unfold fD;rw[e]
 refine z6 ?_
 simp only[Instr.indexAt,yO Z J,yO Z hi,asIntOf,pure_bind,eW,Q3 hu,jK]
 simp[ab,alU cI,Q3 hu]
def Vt(Z:FitsE s bs a){gv:dJ}{len:N}{x bB:jX}(e:z.op=.indexAddr t x bB)(hu:C.P.underlying t=some (.array len gv))(J:a.eval x=.pointer (some p))
  {k:x7} {i:o} (hi:s.sv bB=some (.v (.int k i))) {hC:N} (cI:yn C.P gv=some hC) (ab:0<=i/\i<len) (w:b7):
  (fD a.eval z).run C.P w=.ok (.value (.pointer (some (p.add (i.toNat*hC))))) w:=by
 unfold fD;rw[e]
 refine z6 ?_
 simp only[Instr.indexAt,J,yO Z hi,asIntOf,pure_bind,eW,Q3 hu,jK,K4]
 simp[ab,alU cI,Q3 hu]
end
end
section
variable {C:lb} {bx:N->aK} {s:aO} {z:eI} {u:H} {K:aO->H->Prop} {bs:M N} {a:eo} {w:b7} {Q:k4->eo->b7->Prop}
def alu(fy:Good C)(Z:Fits s bs u a w){c:Call}(e:z.op=.call c)
  (h:match Q7 s c.args,QD C.P z.type with
  |some vs,some ss=>match c.callee with
   | .value (.func f)=>match hn C.P f with
    |true=>io C.P f vs.toArray ss u (sM s z.dst ss K)|false=>match akp C.P f with
     |true=>dd C.P (AE f vs.toArray) ss u (sM s z.dst ss K)|false=>eh
   | .value x=>match s.sv x with
    |some (.v fv)=>hY C.P fv vs.toArray ss u (sM s z.dst ss K)|_=>eh
   | .invoke x name=>match s.sv x with
    |some (.v r)=>mX C.P r name vs.toArray ss u (sM s z.dst ss K)|_=>eh
   | .builtin _=>other C s z u K
  |_,_=>eh):z.wp C.P a w (l7 bx K s bs u a w z.dst) Q:=by
 split at h
 rename_i vs ss aA vV
 have AU:=amU Z.toFitsE aA
 split at h
 rename_i f I
 have J:∀bd,(fD a.eval z).run C.P bd=(p0 f vs.toArray).run C.P bd:=by intro bd;unfold fD;rw[e];simp only[resolve,I,Act.eval,Ux,pure_bind,invoke,AU];simp
 split at h
 rename_i ab
 refine acj Z h ?_
 rw[J,RM fy (ahb ab)]
 split at h
 refine ack Z h λv w' O=>.inl ?_
 rw[J]
 simp only[AE,eW] at O
 cases aC:(p0 f vs.toArray).run C.P w with
 |halt Y eA=>rw[aC] at O;simp at O
 |ok Y eA=>
  rw[aC] at O;simp only[jK] at O;cases Y<;>simp only[] at O<;>first
   |(have Oy:zK _ eA=zK v w':=O;cases Oy;rfl)
   |(simp[stuck] at O)
 exact h.elim
 rename_i x _ I
 split at h
 rename_i fv J
 obtain⟨f,pre,cap,rfl,ab,hG⟩:=h
 refine acj Z hG ?_
 unfold fD;rw[e]
 simp only[resolve,I,yO Z.toFitsE J,Ux,pure_bind,invoke,AU]
 have:=RM fy ab (pre++vs.toArray++cap) w
 simpa using this
 exact h.elim
 rename_i x name I
 split at h
 rename_i r J
 obtain⟨t,v,f,su,rfl,hm,ab,hG⟩:=h
 refine acj Z hG ?_
 unfold fD;rw[e]
 simp only[resolve,I,yO Z.toFitsE J,pure_bind,invoke,AU]
 have h0:(#[mj t v]++vs.toArray)[0]?=some (.iface t v):=by simp
 have h1:(#[mj t v]++vs.toArray).extract 1 (#[mj t v]++vs.toArray).size=vs.toArray:=by apply K0;simp
 simp only[h0,h1,callMethod,eW,program]
 show(jL ((method (C.P.types.size+uW) t v name).run C.P w) λp w'=>(p0 p.1 (#[p.2]++vs.toArray)).run C.P w')=_
 rw[hm w Z.sub]
 exact RM fy ab _ w
 exact h.elim
 exact akw (λcs b=>by rw[e];exact acG) Z h
 exact h.elim
set_option maxHeartbeats 1000000 in
def VN(fy:Good C)(Z:Fits s bs u a w)(h:wL C bx s z u K):z.wp C.P a w (l7 bx K s bs u a w z.dst) Q:=by
 have ta:(∀cs b,z.op≠.select cs b)->other C s z u K->z.wp C.P a w (l7 bx K s bs u a w z.dst) Q:=λag=>akw ag Z;unfold wL at h;split at h;rename_i x e;exact po Z (Vu Z.toFitsE (.inl e) h);rename_i x e;exact po Z (Vu Z.toFitsE (.inr e) h);rename_i c x y e;split at h;rename_i I J;exact po Z (wI Z.toFitsE e (b:=ak) (cU (Z.sv I)).symm J h);rename_i I ah;exact po Z (wI Z.toFitsE e (b:=ax) (cU (Z.sv I)).symm ah h);rename_i p d mW fm I J ah;have fh:=(cU (Z.sv I)).symm;by_cases ad:p;exact po Z (wI Z.toFitsE e (b:=ak) (by rw[fh];simp[ad]) J (h.1 ad));exact po Z (wI Z.toFitsE e (b:=ax) (by rw[fh];simp[ad]) ah (h.2 ad));rename_i p d mW fm I J ah;have fh:=(cU (Z.sv I)).symm;by_cases ad:p;exact po Z (wI Z.toFitsE e (b:=ax) (by rw[fh];simp[ad]) ah (h.2 ad));exact po Z (wI Z.toFitsE e (b:=ak) (by rw[fh];simp[ad]) J (h.1 ad));exact h.elim;rename_i op t x y yp e;split at h;rename_i k m dT n J ah;exact po Z (als Z.toFitsE e J ah h);rename_i p q _ J ah;split at h;split at h;rename_i Y aC;exact po Z (Vs fy Z.toFitsE e J ah aC (.inl ⟨rfl,h⟩));exact h.elim;split at h;rename_i Y aC;exact po Z (Vs fy Z.toFitsE e J ah aC (.inr ⟨rfl,h⟩));exact h.elim;exact ta (λcs b=>by rw[e];exact acG) h;exact h.elim;rename_i t x e;split at h;rename_i J;exact po Z (z8 Z.toFitsE e (b:=ak) (cU (Z.sv J)).symm rfl h);rename_i J;exact po Z (z8 Z.toFitsE e (b:=ax) (cU (Z.sv J)).symm rfl h);rename_i p d J;exact po Z (z8 Z.toFitsE e (cU (Z.sv J)).symm rfl h);rename_i p d J;exact po Z (z8 Z.toFitsE e (cU (Z.sv J)).symm (by simp[hj]) h);rename_i b J;exact po Z (z8 Z.toFitsE e (cU (Z.sv J)).symm (by cases b<;>simp[hj]) h);exact h.elim;rename_i t x e;split at h;rename_i i off aD J fo;split at h;rename_i cs ar;split at h;rename_i ab;exact akt Z (alz Z.toFitsE e J fo ar (Hx ab) h);exact h.elim;exact h.elim;rename_i p aD J fo;exact akt Z (alA Z.toFitsE e J fo h);exact h.elim;rename_i t x y e;split at h;rename_i i off v aD J ah fo;split at h;rename_i cs ar hw cI h1;split at h;rename_i ab;exact ayy Z e J ah fo ar hw (mh cI) h1 (Hx ab) h;exact h.elim;exact h.elim;rename_i p v aD J ah fo;split at h;rename_i cI;exact ayz Z e J ah fo (mh cI) h;exact h.elim;exact h.elim;rename_i t e;split at h;rename_i cs d aC aw;exact ayw Z e aw aC h;exact h.elim;rename_i t x e;split at h;rename_i v d J aw;exact ayx Z e aw J h;exact h.elim;rename_i x e;split at h;rename_i i off J;obtain⟨b,ab,fh⟩:=E8 Z.toFitsE J;refine zE Z (y:=.loc i off) (v:=.pointer (some ⟨b,off,none⟩)) ?_ (by simp[hj,ab]) h;unfold fD;rw[e];simp only[fh];rfl;rename_i p J;refine zE Z (y:=.ptr p) (v:=.pointer (some p)) ?_ rfl h;unfold fD;rw[e];simp only[E9 Z.toFitsE J];rfl;rename_i q J;obtain⟨p,rfl,au⟩:=h;refine zE Z (y:=.ptr p) (v:=.pointer (some p)) ?_ rfl au;unfold fD;rw[e];simp only[yO Z.toFitsE J];rfl;exact h.elim;rename_i t x f e;split at h;rename_i i off n J ae;exact po Z (alw Z.toFitsE e ae J h);rename_i p n J ae;exact po Z (alx Z.toFitsE e ae J h);exact h.elim;rename_i t x bB e;split at h;rename_i gv hu;split at h;rename_i a8 n c k i hC J hi cI;exact po Z (aly Z.toFitsE e hu J hi cI h);exact h.elim;rename_i len gv hu;split at h;rename_i j off k m hC J hi cI;split at h;rename_i hm;obtain⟨b,ab,fh⟩:=E8 Z.toFitsE J;have bD:m<len:=by simpa using hm
 have O:=Vt (C:=C) Z.toFitsE e hu fh hi cI ⟨by simp,by simpa using bD⟩ w;refine zE Z (y:=.loc j (off+m*(hC+1))) O ?_ h;have:(⟨b,off,none⟩:bc).add (m*(hC+1))=⟨b,off+m*(hC+1),none⟩:=by unfold ev;split<;>simp_all
 simp[hj,ab,this];exact h.elim;rename_i p k i hC J hi cI;obtain⟨h2,ab,au⟩:=h;exact zE Z (y:=.ptr _) (Vt (C:=C) Z.toFitsE e hu (E9 Z.toFitsE J) hi cI ab w) rfl au;exact h.elim;exact h.elim;rename_i c e;exact alu fy Z e h;rename_i rm;by_cases oB:∃cs b,z.op=.select cs b;obtain⟨cs,b,e⟩:=oB;exfalso;unfold other zH at h;have h0:akc C.P z.op=ax:=by rw[e];rfl
 have h1:akr z.op=ax:=by rw[e];rfl
 have h2:H5 s z=none:=by unfold H5;rw[e]
 rw[h0,h1,h2] at h;split at h;rename_i h3;split at h3<;>simp_all;split at h<;>simp_all;exact ta (λcs b e=>oB ⟨cs,b,e⟩) h
end
def Fz(s:aO)(all:cw eI)(z:eI)(f:aO->aK->Prop):Prop:=
 match z.guard with
 |none=>f s ak|some (j,want)=>match all[j]? with
  |some lr=>match lr.dst with
   |some d=>match look s.env d with
    |some .jZ=>f s want|some .lU=>f s (!want)|some (.dec p _)=>(p->f (s.put (some d) .jZ) want)/\(¬p->f (s.put (some d) .lU) (!want))|some (.uQ p _)=>(¬p->f (s.put (some d) .jZ) want)/\(p->f (s.put (some d) .lU) (!want))|some (.v (.bool b))=>(b=ak->f (s.put (some d) .jZ) want)/\(b=ax->f (s.put (some d) .lU) (!want))|some (.v (.tuple _))=>f s ax|_=>eh
   |none=>eh
  |none=>eh
def FitsE.tell{s:aO}{bs:M N}{a:eo}(h:FitsE s bs a){d:N}{x:fF}{v:ap}(I:hj bs x=some v)(ht:a.tmps[d]?=some v):FitsE (s.put (some d) x) bs a:=by
 have bD:d<s.n:=by rw[<-h.n];rcases kC d a.tmps.size with k|k;exact k;rw[D4 k] at ht;cases ht
 have aS:s.put (some d) x={s with env:=(d,x)::del s.env d}:=by
  have ab:zJ d s.n=ak:=by simpa using bD
  simp only[aO.put,ab]
 rw[aS];refine⟨h.defers,h.n,?_⟩;intro p ad;cases ad with
 |head=>exact⟨v,I,ht⟩|tail _ ad=>exact h.env p (afA ad).1
structure Told(s aq:aO)(bs:M N)(a:eo):Prop where
 e:FitsE aq bs a
 loc:aq.loc=s.loc
 n:aq.n=s.n
def Ji{s:aO}{all:cw eI}{z:eI}{f:aO->aK->Prop}(h:Fz s all z f){bs:M N}{a:eo}(Z:FitsE s bs a):
  ∃aq want,f aq want/\Told s aq bs a/\uY z (yielded all a.tmps)=want:=by
 unfold Fz at h
 split at h
 rename_i e
 exact⟨s,ak,h,⟨Z,rfl,rfl⟩,by simp[uY,e]⟩
 rename_i j want e
 split at h
 rename_i lr aP
 split at h
 rename_i d aw
 have key:∀x,look s.env d=some x->∀b:aK,hj bs x=some (.bool b)->a.tmps[d]?=some (.bool b)/\uY z (yielded all a.tmps)=(if b then want else !want):=by intro x J b ab;obtain⟨v,h1,h2⟩:=Z.env _ (G7 J);simp only at h1 h2;rw[ab] at h1;cases h1;refine⟨h2,?_⟩;simp only[uY,e,yielded,aP,PX,aw,h2];cases b<;>cases want<;>rfl
 split at h
 rename_i ar
 exact⟨s,want,h,⟨Z,rfl,rfl⟩,(key _ ar ak rfl).2⟩
 rename_i ar
 exact⟨s,!want,h,⟨Z,rfl,rfl⟩,(key _ ar ax rfl).2⟩
 rename_i p Mu ar
 by_cases ad:p
 have:=key _ ar ak (by simp[hj,ad])
 exact⟨_,want,h.1 ad,⟨Z.tell (x:=.jZ) rfl this.1,(mO _ _ _).1,(mO _ _ _).2⟩,this.2⟩
 have:=key _ ar ax (by simp[hj,ad])
 exact⟨_,!want,h.2 ad,⟨Z.tell (x:=.lU) rfl this.1,(mO _ _ _).1,(mO _ _ _).2⟩,this.2⟩
 rename_i p Mu ar
 by_cases ad:p
 have:=key _ ar ax (by simp[hj,ad])
 exact⟨_,!want,h.2 ad,⟨Z.tell (x:=.lU) rfl this.1,(mO _ _ _).1,(mO _ _ _).2⟩,this.2⟩
 have:=key _ ar ak (by simp[hj,ad])
 exact⟨_,want,h.1 ad,⟨Z.tell (x:=.jZ) rfl this.1,(mO _ _ _).1,(mO _ _ _).2⟩,this.2⟩
 rename_i b ar
 cases b with
 |true=>have:=key _ ar ak rfl;exact⟨_,want,h.1 rfl,⟨Z.tell (x:=.jZ) rfl this.1,(mO _ _ _).1,(mO _ _ _).2⟩,this.2⟩
 |false=>have:=key _ ar ax rfl;exact⟨_,!want,h.2 rfl,⟨Z.tell (x:=.lU) rfl this.1,(mO _ _ _).1,(mO _ _ _).2⟩,this.2⟩
 rename_i vs ar
 obtain⟨v,h1,h2⟩:=Z.env _ (G7 ar)
 simp only at h1 h2
 simp only[hj,kb] at h1
 subst h1
 refine⟨s,ax,h,⟨Z,rfl,rfl⟩,?_⟩
 simp only[uY,e,yielded,aP,PX,aw,h2]
 rfl
 exact h.elim
 exact h.elim
 exact h.elim
def BA(C:lb)(s:aO)(z:eI):aK:=
 match z.op with
 | .move _=>ak| .assign _=>ak| .pick _ _ _=>ak| .nilCheck _=>ak| .fieldAddr _ _ _=>ak| .indexAddr _ _ _=>ak| .unOp .not _ _=>ak| .binOp _ _ _ _ _=>ak| .load _ _=>ax| .store _ _ _=>ax| .alloc _=>ax| .box _ _=>ax| .call c=>match c.callee with
  | .builtin _=>(zH C.P s z).isSome|_=>ax
 |_=>(zH C.P s z).isSome
section
variable {C:lb} {bx:N->aK} {s:aO} {z:eI} {u:H} {K:aO->H->Prop} {bs:M N} {a:eo} {w:b7} {Q:k4->eo->b7->Prop}
def acn(Z:FitsE s bs a)(ad:(zH C.P s z).isSome=ak)(h:other C s z u K):vn C s z u K bs a:=by unfold other at h;obtain⟨v,aA⟩:=KY.1 ad;rw[aA] at h;exact⟨.v v,v,h,rfl,akF Z aA⟩
set_option maxHeartbeats 1000000 in
def akK(fy:Good C)(Z:FitsE s bs a)(ad:BA C s z=ak)(h:wL C bx s z u K):vn C s z u K bs a:=by
 unfold wL at h;split at h;rename_i x e;exact Vu Z (.inl e) h;rename_i x e;exact Vu Z (.inr e) h;rename_i c x y e;split at h;rename_i I J;exact wI Z e (b:=ak) (cU (Z.sv I)).symm J h;rename_i I ah;exact wI Z e (b:=ax) (cU (Z.sv I)).symm ah h;rename_i p d mW fm I J ah;have fh:=(cU (Z.sv I)).symm;by_cases ad:p;exact wI Z e (b:=ak) (by rw[fh];simp[ad]) J (h.1 ad);exact wI Z e (b:=ax) (by rw[fh];simp[ad]) ah (h.2 ad);rename_i p d mW fm I J ah;have fh:=(cU (Z.sv I)).symm;by_cases ad:p;exact wI Z e (b:=ax) (by rw[fh];simp[ad]) ah (h.2 ad);exact wI Z e (b:=ak) (by rw[fh];simp[ad]) J (h.1 ad);exact h.elim;rename_i op t x y yp e;have dV:∀bU:other C s z u K,vn C s z u K bs a:=by
  intro bU;by_cases vS:(zH C.P s z).isSome=ak;exact acn Z vS bU;exfalso;have ae:zH C.P s z=none:=by
   cases J:zH C.P s z with
   |none=>rfl|some v=>rw[J] at vS;simp at vS
  unfold other at bU;rw[ae] at bU;have h2:H5 s z=none:=by unfold H5;rw[e]
  rw[h2] at bU;split at bU<;>simp_all
 split at h;rename_i k m dT n J ah;exact als Z e J ah h;rename_i p q _ J ah;split at h;split at h;rename_i Y aC;exact Vs fy Z e J ah aC (.inl ⟨rfl,h⟩);exact h.elim;split at h;rename_i Y aC;exact Vs fy Z e J ah aC (.inr ⟨rfl,h⟩);exact h.elim;exact dV h;exact h.elim;rename_i t x e;split at h;rename_i J;exact z8 Z e (b:=ak) (cU (Z.sv J)).symm rfl h;rename_i J;exact z8 Z e (b:=ax) (cU (Z.sv J)).symm rfl h;rename_i p d J;exact z8 Z e (cU (Z.sv J)).symm rfl h;rename_i p d J;exact z8 Z e (cU (Z.sv J)).symm (by simp[hj]) h;rename_i b J;exact z8 Z e (cU (Z.sv J)).symm (by cases b<;>simp[hj]) h;exact h.elim;rename_i t x e;unfold BA at ad;rw[e] at ad;cases ad;rename_i t x y e;unfold BA at ad;rw[e] at ad;cases ad;rename_i t e;unfold BA at ad;rw[e] at ad;cases ad;rename_i t x e;unfold BA at ad;rw[e] at ad;cases ad;rename_i x e;split at h;rename_i i off J;obtain⟨b,ab,fh⟩:=E8 Z J;refine⟨.loc i off,.pointer (some ⟨b,off,none⟩),h,by simp[hj,ab],λw=>?_⟩;unfold fD;rw[e];simp only[fh];rfl;rename_i p J;refine⟨.ptr p,.pointer (some p),h,rfl,λw=>?_⟩;unfold fD;rw[e];simp only[E9 Z J];rfl;rename_i q J;obtain⟨p,rfl,au⟩:=h;refine⟨.ptr p,.pointer (some p),au,rfl,λw=>?_⟩;unfold fD;rw[e];simp only[yO Z J];rfl;exact h.elim;rename_i t x f e;split at h;rename_i i off n J ae;exact alw Z e ae J h;rename_i p n J ae;exact alx Z e ae J h;exact h.elim;rename_i t x bB e;split at h;rename_i gv hu;split at h;rename_i a8 n c k i hC J hi cI;exact aly Z e hu J hi cI h;exact h.elim;rename_i len gv hu;split at h;rename_i j off k m hC J hi cI;split at h;rename_i hm;obtain⟨b,ab,fh⟩:=E8 Z J;have bD:m<len:=by simpa using hm
 have O:=Vt (C:=C) Z e hu fh hi cI ⟨by simp,by simpa using bD⟩;refine⟨.loc j (off+m*(hC+1)),_,h,?_,O⟩;have:(⟨b,off,none⟩:bc).add (m*(hC+1))=⟨b,off+m*(hC+1),none⟩:=by unfold ev;split<;>simp_all
 simp[hj,ab,this];exact h.elim;rename_i p k i hC J hi cI;obtain⟨h2,ab,au⟩:=h;exact⟨.ptr _,_,au,rfl,Vt (C:=C) Z e hu (E9 Z J) hi cI ab⟩;exact h.elim;exact h.elim;rename_i c e;unfold BA at ad;rw[e] at ad;simp only at ad;split at ad;rename_i b I;rw[I] at h;split at h;exact acn Z ad h;exact h.elim;cases ad;rename_i h1 h2 h3 a7 bK fs mF o0 jE MY ags y0 MZ;refine acn Z ?_ h;unfold BA at ad;split at ad<;>first|exact ad|(rename_i e;exact aW e (by first|exact h1 _|exact h2 _|exact h3 _ _ _|exact a7 _ _ _ _ _|exact bK _ _|exact fs _ _|exact mF _ _ _|exact o0 _|exact jE _ _|exact MY _|exact ags _ _ _|exact y0 _ _ _|exact MZ _))
end
section
variable{i:N}
def waits(ops:cw eI):N->N->N->aK
 |0,_,_=>ax|n+1,j,i=>match ops[j]? with
  |some z=>z.after.toList.any λe=>BY .any e && (ju e.on i ||waits ops n e.on i)|none=>ax
def yB(ops:cw eI)(listed:cw aK):Prop:=
 ∀j z,ops[j]?=some z->listed.getD j ax=ak->∀e∈z.after,BY .any e=ak->listed.getD e.on ax=ak
def amX{ops:cw eI}{listed:cw aK}(I:yB ops listed):∀(n j i:N),waits ops n j i=ak->
  (∀z,ops[j]?=some z->∀e∈z.after,BY .any e=ak->listed.getD e.on ax=ak)->listed.getD i ax=ak:=by
 intro n
 induction n with
 |zero=>intro j i h;simp[waits] at h
 |succ n aM=>intro j i h aP;simp only[waits] at h;split at h;rename_i z aa;obtain⟨e,he,ab⟩:=List.any_eq_true.1 h;simp only[pr,Bool.or_eq_true] at ab;have hm:e∈z.after:=Ht.1 he;have h1:=aP z aa e hm ab.1;rcases ab.2 with h2|h2;have:=mh h2;subst this;exact h1;exact aM e.on i h2 λb5 bP gv gf eG=>I e.on b5 bP h1 gv gf eG;cases h
def yB.set{ops:cw eI}{listed:cw aK}(I:yB ops listed)(O:i∈nx .any ops listed):yB ops (listed.setIfInBounds i ak):=by intro j z aa aP e he ab;by_cases iZ:j=i;subst iZ;obtain⟨_,b5,bP,dX⟩:=wq.1 O;rw[aa] at bP;cases bP;exact getD_set_true (dX e he ab);rw[getD_set_ne ax (dz iZ)] at aP;exact getD_set_true (I j z aa aP e he ab)
section
variable {P:dY} {ops:cw eI} {Q:k4->eo->b7->Prop} {nd:N->aK} {S:b7->Prop}
def yz(P:dY)(ops:cw eI)(Q:k4->eo->b7->Prop)(nd:N->aK)(S:b7->Prop):N->cw aK->eo->b7->Prop
 |0,listed,a,w=>nx .any ops listed=[]/\Q .normal a w|fO+1,listed,a,w=>
  (nx .any ops listed=[]->Q .normal a w)/\
  ∀i∈nx .any ops listed,wpOp P ops Q i (λcO w'=>(nd i=ak->S w->S w')/\yz P ops Q nd S fO (listed.setIfInBounds i ak) cO w') a w
def aes:∀(fO:N) (listed:cw aK) (a:eo) (w:b7),yz P ops Q nd S fO listed a w->wpAny P .any ops Q fO listed a w
 |0,_,_,_,h=>h|fO+1,_,_,_,h=>⟨h.1,λi hi=>wpOp_mono (λcO w' bQ=>aes fO _ cO w' bQ.2) (h.2 i hi)⟩
def aeP{fC:eI}{v:ap}{T:b7->Prop}(hi:ops[i]?=some fC)(oB:∀(j:N) (z:eI) cs b,ops[j]?=some z->z.op≠.select cs b)
  (fb:∀c a w,¬Q (.panic c) a w) (dg:N) (aT:(∀w,T w)∨(T=S/\∀j,nd j=ax->j=i∨waits ops dg j i=ak)):
  ∀(fO:N) (listed:cw aK) (a:eo) (w:b7),yB ops listed->
   (∀j lr,ops[j]?=some lr->j≠i->listed.getD j ak=ax->(∀e∈lr.after,BY .any e=ak->e.on≠i)->fC.apart ops lr=ak)->
   i∈nx .any ops listed->YieldsIf P ops T fC v a->T w->
   yz P ops Q nd S fO (listed.setIfInBounds i ak) (a.put fC.dst v) w->yz P ops Q nd S (fO+1) listed a w:=by
 intro fO
 induction fO with
 |zero=>intro listed a w _ _ O ah bl H;refine⟨λh=>(by rw[h] at O;cases O),λj aP=>?_⟩;by_cases iZ:j=i;subst iZ;exact ah.wpOp hi bl ⟨λ_ h=>h,H⟩;have:=K5 aP iZ;rw[H.1] at this;cases this
 |succ fO aM=>
  intro listed a w I FV O ah bl H;refine⟨λh=>(by rw[h] at O;cases O),λj aP=>?_⟩;by_cases iZ:j=i;subst iZ;exact ah.wpOp hi bl ⟨λ_ h=>h,H⟩
  .have h1:=H.2 j (K5 aP iZ);obtain⟨NP,lr,Bj,dX⟩:=wq.1 aP;have F6:=(wq.1 O).1;have NK:listed.getD i ax=ax:=by rcases kC i listed.size with bQ|bQ;simp[bQ] at F6 ⊢;exact F6;simp[D4 bQ] at F6
   have rm:∀e∈lr.after,BY .any e=ak->e.on≠i:=λe he ab SQ=>by have h1:=dX e he ab;rw[SQ,NK] at h1;cases h1
   have h2:=wpOp_putIf Bj (FV j lr Bj iZ NP rm) (λcs b=>oB i fC cs b hi) (λcs b=>oB j lr cs b Bj) (λc a w h=>aW h (fb c _ w)) ah h1;have Za:∀k ok,ops[k]?=some ok->k≠i->(listed.setIfInBounds j ak).getD k ak=ax->
     (∀e∈ok.after,BY .any e=ak->e.on≠i)->fC.apart ops ok=ak:=λk ok hk JR uH dV=>by
    refine FV k ok hk JR ?_ dV
    by_cases NN:j=k
    subst NN;exact NP
    rw[getD_set_ne ak NN] at uH;exact uH
   have bS:(∀w,T w)∨(T=S/\nd j=ak):=by
    rcases aT with aT|⟨arM,aT⟩;exact .inl aT;refine .inr ⟨arM,?_⟩;cases ae:nd j with
    |true=>rfl|false=>rcases aT j ae with bQ|bQ;exact aW bQ iZ;have:=amX I dg j i bQ (λz aa e he ab=>by rw[Bj] at aa;cases aa;exact dX e he ab);rw[NK] at this;cases this
   refine wpOp_mono (λcO w' h3=>⟨h3.2.1,?_⟩) h2;have Yy:T w':=by rcases bS with bQ|⟨rfl,bQ⟩;exact bQ w';exact h3.2.1 bQ bl
   refine aM (listed.setIfInBounds j ak) cO w' (I.set aP) Za (K5 O (dz iZ)) h3.1 Yy ?_;rw[Array.setIfInBounds_comm _ _ iZ];exact h3.2.2
end
section
variable {P:dY} {ops:cw eI} {Q:k4->eo->b7->Prop} {R:N->b7->b7->Prop}
def wT(P:dY)(ops:cw eI)(Q:k4->eo->b7->Prop)(R:N->b7->b7->Prop):N->cw aK->eo->b7->Prop
 |0,listed,a,w=>nx .any ops listed=[]/\Q .normal a w|fO+1,listed,a,w=>
  (nx .any ops listed=[]->Q .normal a w)/\
  ∀i∈nx .any ops listed,wpOp P ops Q i (λcO w'=>R i w w'/\wT P ops Q R fO (listed.setIfInBounds i ak) cO w') a w
def aet:∀(fO:N) (listed:cw aK) (a:eo) (w:b7),wT P ops Q R fO listed a w->wpAny P .any ops Q fO listed a w
 |0,_,_,_,h=>h|fO+1,_,_,_,h=>⟨h.1,λi hi=>wpOp_mono (λcO w' bQ=>aet fO _ cO w' bQ.2) (h.2 i hi)⟩
def aeQ{fC:eI}{v:ap}{T:b7->Prop}(hi:ops[i]?=some fC)(oB:∀(j:N) (z:eI) cs b,ops[j]?=some z->z.op≠.select cs b)
  (fb:∀c a w,¬Q (.panic c) a w) (dg:N) (bX:∀w,R i w w) (aT:∀j,j=i∨waits ops dg j i=ak∨∀w w',R j w w'->T w->T w'):
  ∀(fO:N) (listed:cw aK) (a:eo) (w:b7),yB ops listed->
   (∀j lr,ops[j]?=some lr->j≠i->listed.getD j ak=ax->(∀e∈lr.after,BY .any e=ak->e.on≠i)->fC.apart ops lr=ak)->
   i∈nx .any ops listed->YieldsIf P ops T fC v a->T w->
   wT P ops Q R fO (listed.setIfInBounds i ak) (a.put fC.dst v) w->wT P ops Q R (fO+1) listed a w:=by
 intro fO
 induction fO with
 |zero=>intro listed a w _ _ O ah bl H;refine⟨λh=>(by rw[h] at O;cases O),λj aP=>?_⟩;by_cases iZ:j=i;subst iZ;exact ah.wpOp hi bl ⟨bX _,H⟩;have:=K5 aP iZ;rw[H.1] at this;cases this
 |succ fO aM=>
  intro listed a w I FV O ah bl H;refine⟨λh=>(by rw[h] at O;cases O),λj aP=>?_⟩;by_cases iZ:j=i;subst iZ;exact ah.wpOp hi bl ⟨bX _,H⟩
  .have h1:=H.2 j (K5 aP iZ);obtain⟨NP,lr,Bj,dX⟩:=wq.1 aP;have F6:=(wq.1 O).1;have NK:listed.getD i ax=ax:=by rcases kC i listed.size with bQ|bQ;simp[bQ] at F6 ⊢;exact F6;simp[D4 bQ] at F6
   have rm:∀e∈lr.after,BY .any e=ak->e.on≠i:=λe he ab SQ=>by have h1:=dX e he ab;rw[SQ,NK] at h1;cases h1
   have h2:=wpOp_putIf Bj (FV j lr Bj iZ NP rm) (λcs b=>oB i fC cs b hi) (λcs b=>oB j lr cs b Bj) (λc a w h=>aW h (fb c _ w)) ah h1;have Za:∀k ok,ops[k]?=some ok->k≠i->(listed.setIfInBounds j ak).getD k ak=ax->
     (∀e∈ok.after,BY .any e=ak->e.on≠i)->fC.apart ops ok=ak:=λk ok hk JR uH dV=>by
    refine FV k ok hk JR ?_ dV
    by_cases NN:j=k
    subst NN;exact NP
    rw[getD_set_ne ak NN] at uH;exact uH
   have arO:∀w w',R j w w'->T w->T w':=by rcases aT j with bQ|bQ|bQ;exact aW bQ iZ;have:=amX I dg j i bQ (λz aa e he ab=>by rw[Bj] at aa;cases aa;exact dX e he ab);rw[NK] at this;cases this;exact bQ
   refine wpOp_mono (λcO w' h3=>⟨h3.2.1,?_⟩) h2;have Yy:T w':=arO _ _ h3.2.1 bl;refine aM (listed.setIfInBounds j ak) cO w' (I.set aP) Za (K5 O (dz iZ)) h3.1 Yy ?_;rw[Array.setIfInBounds_comm _ _ iZ];exact h3.2.2
end
def allI:M N->(N->Prop)->Prop
 | [],_=>True| [i],f=>f i|i::is,f=>f i/\allI is f
def aeO{l:M N}{f:N->Prop}(h:allI l f):∀i∈l,f i:=by
 induction l with
 |nil=>intro i hi;cases hi
 |cons x l aM=>
  cases l with
  |nil=>intro i hi;simp only[fV] at hi;subst hi;exact h
  |cons y l=>
   intro i hi;cases hi with
   |head=>exact h.1|tail _ hi=>exact aM h.2 i hi
def TO(ops:cw eI)(i:N):aK:=
 match ops[i]? with
 |some z=>match z.op with
  | .load _ _=>ak|_=>ax
 |none=>ax
def amp(z:eI):aK:=
 match z.op with
 | .alloc _| .box _ _| .buildSlice ..| .store ..| .mapUpdate ..| .insert ..| .makeMap ..| .makeSlice ..| .lookup ..| .next ..| .range ..| .entry ..| .entryStore ..| .mapEntry ..=>ax| .call c=>match c.callee with
  | .builtin .len| .builtin .cap| .builtin .min| .builtin .max=>ak|_=>ax
 |_=>ak
def early(ops:cw eI)(r:N):aK:=
 TO ops r && (lM ops.size).all λj=>match ops[j]? with
  |some z=>amp z ||!waits ops ops.size r j|none=>ak
def rE(ops:cw eI)(i:N):aK:=
 (lM ops.size).any λr=>early ops r && !(ju r i) && !waits ops ops.size i r
def Uk(_:N):aK:=ax
def sQ(C:lb)(bx:N->aK)(ops:cw eI)(s:aO)(i:N)(u:H)(K:aO->H->Prop):Prop:=
 match ops[i]? with
 |none=>eh|some z=>Fz s ops z λaq want=>match want with
  |true=>wL C bx aq z u K|false=>K (aq.put z.dst (.v ih)) u
def R3(C:lb)(bx:N->aK)(ops:cw eI)(s:aO)(i:N)(u:H)(K:aO->H->Prop):Prop:=
 match ops[i]? with
 |none=>eh|some z=>Fz s ops z λaq want=>match want with
  |true=>match BA C aq z with
   |true=>wL C bx aq z u K|false=>eh
  |false=>K (aq.put z.dst (.v ih)) u
def akJ(C:lb)(ops:cw eI)(s:aO)(i:N):aK:=
 match ops[i]? with
 |none=>ax|some z=>BA C s z
def AJ(C:lb)(bx:N->aK)(ops:cw eI)(ai:H):N->cw aK->aK->aO->H->(aO->H->Prop)->Prop
 |0,_,_,_,_,_=>eh|fO+1,listed,flag,s,u,K=>
  match(nx .any ops listed).find? (λi=>akJ C ops s i && UC .any ops listed i) with
  |some i=>R3 C bx ops s i u λaq u'=>AJ C bx ops ai fO (listed.setIfInBounds i ak) flag aq u' K|none=>match flag,(nx .any ops listed).find? (λi=>early ops i && UC .any ops listed i) with
   |true,some i=>sQ C bx ops s i ai λaq _=>AJ C bx ops ai fO (listed.setIfInBounds i ak) ak aq u K|_,_=>match nx .any ops listed with
    | []=>K s u|r=>allI r λi=>match rE ops i with
     |true=>sQ C Uk ops s i u λaq u'=>ai.le u'/\AJ C bx ops ai fO (listed.setIfInBounds i ak) ax aq u' K|false=>sQ C bx ops s i u λaq u'=>AJ C bx ops ai fO (listed.setIfInBounds i ak) ax aq u' K
def ads(ops:cw eI)(r:N):aK:=
 early ops r && (lM ops.size).all λj=>ju j r ||waits ops ops.size j r ||match ops[j]? with
  |some z=>amp z|none=>ak
def He(ops:cw eI)(i:N):aK:=
 (lM ops.size).any λr=>early ops r && !ads ops r && !(ju r i) && !waits ops ops.size i r
def Hf(ops:cw eI)(i:N):aK:=
 (lM ops.size).any λr=>ads ops r && !(ju r i) && !waits ops ops.size i r
def TN(b:aK)(p q:Prop):Prop:=match b with
 |true=>p/\q|false=>q
def w8(C:lb)(bx:N->aK)(ops:cw eI)(v0 ai:H):N->cw aK->aK->aO->H->(aO->H->Prop)->Prop
 |0,_,_,_,_,_=>eh|fO+1,listed,flag,s,u,K=>
  match(nx .any ops listed).find? (λi=>akJ C ops s i && UC .any ops listed i) with
  |some i=>R3 C bx ops s i u λaq u'=>w8 C bx ops v0 ai fO (listed.setIfInBounds i ak) flag aq u' K|none=>match flag,(nx .any ops listed).find? (λi=>early ops i && UC .any ops listed i) with
   |true,some i=>match ads ops i with
    |true=>sQ C bx ops s i ai λaq _=>w8 C bx ops v0 ai fO (listed.setIfInBounds i ak) ak aq u K|false=>sQ C bx ops s i v0 λaq _=>w8 C bx ops v0 ai fO (listed.setIfInBounds i ak) ak aq u K
   |_,_=>match nx .any ops listed with
    | []=>K s u|r=>allI r λi=>match He ops i ||Hf ops i with
     |true=>sQ C Uk ops s i u λaq u'=>TN (He ops i) (v0.le u') (TN (Hf ops i) (ai.le u') (w8 C bx ops v0 ai fO (listed.setIfInBounds i ak) ax aq u' K))|false=>sQ C bx ops s i u λaq u'=>w8 C bx ops v0 ai fO (listed.setIfInBounds i ak) ax aq u' K
def ajI{b:aK}{p q:Prop}(h:TN b p q)(ab:b=ak):p:=by subst ab;exact h.1
def ajJ{b:aK}{p q:Prop}(h:TN b p q):q:=by cases b with
 |true=>exact h.2|false=>exact h
end
section
variable{ds:N->aK}{w:b7}{s aq:aO}{ai:H}{gx:M (M ap)}{fG:M N}
def w0(P:dY)(it:ap)(u:H)(my:H->Prop)(Rp:ap->ap->H->Prop):Prop:=
 ∀w,Sub u w->∃w' u',((PW it ax 0).run P w=.ok (.tuple #[.bool ax]) w'/\my u'∨∃k e,(PW it ax 0).run P w=.ok (.tuple #[.bool ak,k,e]) w'/\Rp k e u')/\Step u [] w u' [] w'
def wZ(P:dY)(it:ap)(u:H)(K:ap->ap->H->Prop):Prop:=
 ∀w,Sub u w->∃k e w' u',(Instr.entry it).run P w=.ok (.tuple #[k,e]) w'/\K k e u'/\Step u [] w u' [] w'
def sF(t:aL)(v:ap)(f:t.den->Prop):Prop:=t.un v f
def SO:ay ap->ay aK
 |some (.tuple vs)=>match vs.toList with
  |v::_=>match v with
   | .bool b=>some b|_=>none
  | []=>none
 |_=>none
def asx{x:ay ap}{b:aK}(h:SO x=some b):∃vs,x=some (.tuple vs)/\vs[0]?=some (.bool b):=by unfold SO at h;split at h;rename_i vs;split at h;rename_i v l ar;split at h;cases h;exact⟨vs,rfl,by rw[<-BZ,ar];rfl⟩;cases h;cases h;cases h
def VL(C:lb)(bx:N->aK)(s:aO)(z:eI)(u:H)(K:aO->H->Prop):Prop:=
 match z.op with
 | .call c=>match c.callee with
  | .value (.tmp t)=>match Q7 s c.args,QD C.P z.type,look s.env t with
   |some vs,some ss,some (.v fv)=>tL C.P fv vs.toArray ss u (sM s z.dst ss K)|_,_,_=>eh
  |_=>wL C bx s z u K
 | .range t x=>match s.val x with
  |some v=>dd C.P (rJ t v) [.one .ptr] u (sM s z.dst [.one .ptr] K)|none=>eh
 | .next x ax=>match s.val x with
  |some v=>w0 C.P v u (λu'=>K (s.put z.dst (.v (.tuple #[.bool ax]))) u') (λk e u'=>K (s.put z.dst (.v (.tuple #[.bool ak,k,e]))) u')|none=>eh
 | .entry x=>match s.val x with
  |some v=>wZ C.P v u (λk e u'=>K (s.put z.dst (.v (.tuple #[k,e]))) u')|none=>eh
 | .extract (.tmp t) i=>match gC C.ou t with
  |true=>match s.val (.tmp t),qT C.P z.type with
   |some (.tuple vs),some (.one ct)=>match vs.toList[i]? with
    |some v=>sF ct v λy=>K (s.put z.dst (.v (ct.enc y))) u|none=>eh
   |_,_=>eh
  |false=>match gC C.oG t with
   |true=>match ju i 0,SO (s.val (.tmp t)) with
    |true,some ak=>K (s.put z.dst .jZ) u|true,some ax=>K (s.put z.dst .lU) u|_,_=>eh
   |false=>wL C bx s z u K
 |_=>wL C bx s z u K
def LC(C:lb)(bx:N->aK)(all:cw eI):M eI->aO->H->(aO->H->Prop)->Prop
 | [],s,u,K=>K s u|z::rest,s,u,K=>Fz s all z λaq want=>match want with
  |true=>VL C bx aq z u λwH u'=>LC C bx all rest wH u' K|false=>LC C bx all rest (aq.put z.dst (.v ih)) u K
abbrev Fr(ro:ay N):Fence:={uV with round:=ro}
def wU{P:dY}{z:eI}{a:eo}{next:eo->b7->Prop}{Q:k4->eo->b7->Prop}(ro:ay N)(aw:ro=none∨∀c,z.op≠.defer c)(h:z.wp P a w next Q):
  z.wpIn (Fr ro) 0 P a w next Q:=by
 refine⟨λ_ _=>trivial,?_⟩
 have e:z.semAt (Fr ro).round a.eval=fD a.eval z:=by rcases aw with rfl|aw;rfl;exact Oper.semAt_eq ro _ _ aw
 rw[e]
 unfold D5 at h
 cases O:(fD a.eval z).run P w with
 |ok ach w'=>
  rw[O] at h;cases ach with
  |value v=>exact h|skip=>exact h|defer d=>exact h|enter f args=>exact⟨λJ=>by simp[Fr,uV] at J,(PY (n:=0-1)).2 h⟩|row row args=>exact⟨λJ=>by simp[Fr,uV] at J,λc cs _=>let⟨v,eA,aN,ag⟩:=h c cs;⟨v,eA,aN,stepsIn_wide.2 ag⟩⟩|_=>exact h.elim
 |halt Y w'=>
  rw[O] at h;cases Y with
  |panic v=>exact h|_=>exact h.elim
def axa{C:lb}{bx:N->aK}{z:eI}{u:H}{K:aO->H->Prop}{bs:M N}{a:eo}{Q:k4->eo->b7->Prop}{ro:ay N}{fv:ap}{args:cw ap}{ss:M bg}
  (Z:Fits s bs u a w) (bS:∀c,z.op≠.defer c) (h:Ak C.P fv args ss u (sM s z.dst ss K))
  (O:∀l,fv=.func (.yield l) #[] #[]->(fD a.eval z).run C.P w=(Instr.yield l args).run C.P w):z.wpIn (Fr ro) 0 C.P a w (l7 bx K s bs u a w z.dst) Q:=by
 obtain⟨l,rfl,ah⟩:=h
 obtain⟨fn,tmps,assign,body,nq,OB⟩:=ah w Z.sub
 refine⟨λ_ _=>trivial,?_⟩
 have e:z.semAt (Fr ro).round a.eval=fD a.eval z:=Oper.semAt_eq ro _ _ bS
 rw[e,O l rfl,nq]
 refine⟨λJ=>by simp[Fr,uV] at J,RoundIn.mono OB ?_⟩
 rintro e w' ⟨v,u',rfl,⟨vs,aA,rfl,au⟩,ag⟩
 have nS:K (s.put z.dst (.v (xb ss vs))) u':=(QX aA _).1 au
 exact⟨_,u',bs,_,nS,(Z.step ag).put z.dst (x:=.v _) rfl,ag.NJ bs,rfl,Kept.put bx s z.dst _⟩
def azo{C:lb}{bx:N->aK}{z:eI}{u:H}{K:aO->H->Prop}{bs:M N}{a:eo}{Q:k4->eo->b7->Prop}{ro:ay N}
  (fy:Good C) (aw:ro=none∨∀c,z.op≠.defer c) (Z:Fits s bs u a w) (h:VL C bx s z u K):z.wpIn (Fr ro) 0 C.P a w (l7 bx K s bs u a w z.dst) Q:=by
 unfold VL at h
 split at h
 rename_i c e
 split at h
 rename_i t I
 split at h
 rename_i vs ss fv aA vV J
 have AU:=amU Z.toFitsE aA
 have Kg:s.sv (.tmp t)=some (.v fv):=J
 rcases h with h|h
 refine wU ro aw (alu fy Z e ?_)
 rw[aA,vV,I]
 simp only[Kg]
 exact h
 refine axa Z (λni=>by rw[e];exact acG) h ?_
 rintro l rfl
 unfold fD;rw[e]
 simp only[resolve,I,yO Z.toFitsE Kg,Ux,pure_bind,invoke,AU]
 simp
 exact h.elim
 exact wU ro aw (VN fy Z h)
 rename_i t x e
 split at h
 rename_i v aA
 refine wU ro aw (ack Z h λY w' O=>.inl ?_)
 unfold fD;rw[e];simp only[Z.val aA,eW,O,jK];rfl
 exact h.elim
 rename_i x e
 split at h
 rename_i v aA
 obtain⟨w',u',au,ag⟩:=h w Z.sub
 have run:∀Y,(PW v ax 0).run C.P w=.ok Y w'->(fD a.eval z).run C.P w=.ok (.value Y) w':=λY O=>by have dG:(PW v ax z.type).run C.P w=.ok Y w':=O;unfold fD;rw[e];simp only[Z.val aA,eW,dG,jK];rfl
 rcases au with⟨O,au⟩|⟨k,Y,O,au⟩
 exact wU ro aw (PE Z (run _ O) ag au)
 exact wU ro aw (PE Z (run _ O) ag au)
 exact h.elim
 rename_i x e
 split at h
 rename_i v aA
 obtain⟨k,Y,w',u',O,au,ag⟩:=h w Z.sub
 refine wU ro aw (PE Z ?_ ag au)
 unfold fD;rw[e];simp only[Z.val aA,eW,O,jK];rfl
 exact h.elim
 rename_i t i e
 split at h
 split at h
 rename_i vs ct aA fo
 split at h
 rename_i v hi
 obtain⟨y,rfl,au⟩:=aL.Wa h
 refine wU ro aw (PE Z ?_ (Step.refl Z.sub) au)
 have qw:vs[i]?=some (ct.enc y):=by rw[<-BZ];exact hi
 unfold fD;rw[e];simp only[Z.val aA,eW]
 simp[Instr.extract,qw]
 exact h.elim
 exact h.elim
 split at h
 have run:∀b,ju i 0=ak->SO (s.val (.tmp t))=some b->(fD a.eval z).run C.P w=.ok (.value (.bool b)) w:=λb h0 ab=>by obtain⟨vs,aA,qw⟩:=asx ab;obtain rfl:=mh h0;unfold fD;rw[e];simp only[Z.val aA,eW];simp[Instr.extract,qw]
 split at h
 rename_i h0 ab;exact wU ro aw (zE Z (run _ h0 ab) rfl h)
 rename_i h0 ab;exact wU ro aw (zE Z (run _ h0 ab) rfl h)
 exact h.elim
 exact wU ro aw (VN fy Z h)
 exact wU ro aw (VN fy Z h)
section
variable {C:lb} {bx:N->aK} {s:aO} {z:eI} {u:H} {K:aO->H->Prop} {bs:M N} {a:eo} {w:b7} {Q:k4->eo->b7->Prop}
def Fits.told(Z:Fits s bs u a w)(ht:Told s aq bs a):Fits aq bs u a w:=
 ⟨ht.e,by rw[ht.loc];exact Z.len,by rw[ht.loc];exact Z.loc,Z.nodup,Z.ch,Z.sub⟩
def Kept.told{wH:aO}(ht:aq.loc=s.loc/\aq.n=s.n)(k:Kept bx aq wH):Kept bx s wH:=
 ⟨k.n.trans ht.2,by rw[<-ht.1];exact k.len,λi cs e=>k.same i cs (by rw[ht.1];exact e)⟩
def Oper.am2{F:Fence}{n:N}{P:dY}{z:eI}{a:eo}{next next':eo->b7->Prop}{Q:k4->eo->b7->Prop}(h:∀a w,next a w->next' a w)(hw:z.wpIn F n P a w next Q):
  z.wpIn F n P a w next' Q:=by
 refine⟨hw.1,?_⟩
 have h2:=hw.2
 generalize (z.semAt F.round a.eval).run P w=r at h2 ⊢
 cases r with
 |ok ach w'=>
  cases ach with
  |value v=>exact h _ _ h2|skip=>exact h _ _ h2|defer d=>exact h _ _ h2|enter f args=>exact⟨h2.1,h2.2.mono λe eA he=>by cases e<;>first|exact h _ _ he|exact he⟩
  |row row args=>exact⟨h2.1,h2.2.mono λv eA he=>h _ _ he⟩|round l f tmps assign body=>exact⟨h2.1,h2.2.mono λe eA he=>by cases e<;>first|exact h _ _ he|exact he⟩
  |_=>exact h2
 |halt Y w'=>cases Y<;>exact h2
def aqb(fy:Good C){all:cw eI}(Z:Fits s bs u a w)(h:Fz s all z λaq want=>match want with
  |true=>VL C bx aq z u K
  |false=>K (aq.put z.dst (.v ih)) u) (ro:ay N) (bS:ro=none∨∀c,z.op≠.defer c):
  (uY z (yielded all a.tmps)=ak/\z.wpIn (Fr ro) 0 C.P a w (l7 bx K s bs u a w z.dst) Q)∨
  (uY z (yielded all a.tmps)=ax/\l7 bx K s bs u a w z.dst (a.put z.dst ih) w):=by
 obtain⟨aq,want,bQ,ht,hw⟩:=Ji h Z.toFitsE
 cases want with
 |true=>refine .inl ⟨hw,?_⟩;refine Oper.am2 ?_ (azo fy bS (Z.told ht) bQ);rintro cO w' ⟨wH,u',c8,v,hk,cF,ag,aE,ja⟩;exact⟨wH,u',c8,v,hk,cF,ag,aE,ja.told ⟨ht.loc,ht.n⟩⟩
 |false=>refine .inr ⟨hw,?_⟩;exact⟨_,u,bs,ih,bQ,(Z.told ht).put z.dst (x:=.v ih) rfl,Step.refl Z.sub,rfl,(Kept.put bx aq _ _).told ⟨ht.loc,ht.n⟩⟩
def afW(fy:Good C){all:cw eI}(Z:Fits s bs u a w)(h:Fz s all z λaq want=>match want with
  |true=>wL C bx aq z u K
  |false=>K (aq.put z.dst (.v ih)) u):
  (uY z (yielded all a.tmps)=ak/\z.wp C.P a w (l7 bx K s bs u a w z.dst) Q)∨
  (uY z (yielded all a.tmps)=ax/\l7 bx K s bs u a w z.dst (a.put z.dst ih) w):=by
 obtain⟨aq,want,bQ,ht,hw⟩:=Ji h Z.toFitsE
 cases want with
 |true=>refine .inl ⟨hw,?_⟩;refine Oper.wp_mono ?_ (VN fy (Z.told ht) bQ);rintro cO w' ⟨wH,u',c8,v,hk,cF,ag,aE,ja⟩;exact⟨wH,u',c8,v,hk,cF,ag,aE,ja.told ⟨ht.loc,ht.n⟩⟩
 |false=>refine .inr ⟨hw,?_⟩;exact⟨_,u,bs,ih,bQ,(Z.told ht).put z.dst (x:=.v ih) rfl,Step.refl Z.sub,rfl,(Kept.put bx aq _ _).told ⟨ht.loc,ht.n⟩⟩
def CE(bx:N->aK)(s:aO)(bs:M N)(u:H)(a:eo)(w:b7)(ds:N->aK)(K:aO->H->Prop)(R:eo->b7->Prop):Prop:=
 ∀aq u' c8 cO w',K aq u'->Fits aq c8 u' cO w'->Step u bs w u' c8 w'->Kept bx s aq->(∀d,ds d=ax->cO.tmps[d]?=a.tmps[d]?)->R cO w'
def CE.next{u':H}{c8:M N}{cO:eo}{w':b7}{R:eo->b7->Prop}(h:CE bx s bs u a w ds K R)
  (ag:Step u bs w u' c8 w') (hk:Kept bx s aq) (aE:∀d,ds d=ax->cO.tmps[d]?=a.tmps[d]?):CE bx aq c8 u' cO w' ds K R:=
 λs2 dc IW a2 eA cu f2 h2 dy d2=>h s2 dc IW a2 eA cu f2 (ag.trans h2) (hk.trans dy) λd aw=>(d2 d aw).trans (aE d aw)
def acA{dst:ay Tmp}{v:ap}(h:∀d,dst=some d->ds d=ak):∀d,ds d=ax->(a.put dst v).tmps[d]?=a.tmps[d]?:=by
 intro d aw;cases dst with
 |none=>rfl|some x=>rw[acB,aF];rintro⟨rfl,_⟩;rw[h x rfl] at aw;cases aw
def alM(fy:Good C)(ro:ay N){all:cw eI}:∀(l:M eI) (s:aO) (u:H) (bs:M N) (a:eo) (w:b7),LC C bx all l s u K->Fits s bs u a w->
  (ro=none∨∀z∈l,∀c,z.op≠.defer c)->(∀z∈l,∀d,z.dst=some d->ds d=ak)->CE bx s bs u a w ds K (Q .normal)->wpListIn (Fr ro) 0 C.P all Q l a w:=by
 intro l
 induction l with
 |nil=>intro s u bs a w h Z _ _ I;exact I s u bs a w h Z (Step.refl Z.sub) (Kept.refl _ _) λ_ _=>rfl
 |cons z rest aM=>
  intro s u bs a w h Z bS aw I;have tc:∀b5∈rest,∀d,b5.dst=some d->ds d=ak:=λb5 bP=>aw b5 (.tail _ bP);have eQ:∀v,∀d,ds d=ax->(a.put z.dst v).tmps[d]?=a.tmps[d]?:=λv=>acA (aw z (.head _));have key:∀cO w',l7 bx (λwH u'=>LC C bx all rest wH u' K) s bs u a w z.dst cO w'->wpListIn (Fr ro) 0 C.P all Q rest cO w':=by rintro cO w' ⟨aq,u',c8,v,hk,cF,ag,rfl,ja⟩;exact aM aq u' c8 _ w' hk cF (bS.imp id λh b5 bP=>h b5 (.tail _ bP)) tc (I.next ag ja (eQ v))
  simp only[wpListIn];rcases aqb (Q:=Q) fy (K:=λwH u'=>LC C bx all rest wH u' K) Z h ro (bS.imp id λh=>h z (.head _)) with⟨hw,h1⟩|⟨hw,h1⟩;rw[a1 hw];exact Oper.am2 key h1;rw[aF (by rw[hw];simp)];exact⟨λ_ _=>trivial,key _ _ h1⟩
def left(listed:cw aK):N:=listed.toList.count ax
def G6{listed:cw aK}{i:N}(h:listed.getD i ak=ax):left (listed.setIfInBounds i ak)+1=left listed:=by
 have bD:i<listed.size:=by rcases kC i listed.size with k|k;exact k;simp[D4 k] at h
 have key:∀(l:M aK) (i:N),l[i]?=some ax->(l.set i ak).count ax+1=l.count ax:=by
  intro l;induction l with
  |nil=>intro i h;simp at h
  |cons x l aM=>
   intro i h;cases i with
   |zero=>simp at h;subst h;simp|succ i=>simp only[x9] at h;have:=aM i h;simp only[K6,List.count_cons];omega
 unfold left;rw[Array.toList_setIfInBounds];refine key _ i ?_;simp[bD] at h;rw[BZ,x8 bD,h]
def ald{ops:cw eI}{listed:cw aK}(h:left listed=0):nx .any ops listed=[]:=by
 cases O:nx .any ops listed with
 |nil=>rfl|cons i l=>
  have hi:i∈nx .any ops listed:=by rw[O];exact .head _
  have:=G6 (wq.1 hi).1;omega
def aj6(Z:FitsE s bs a){t:dJ}{x:jX}(e:z.op=.load t x)(h:wL C bx s z u K):Rq C s z u K bs a:=by unfold wL at h;rw[e] at h;simp only at h;split at h;rename_i i off aD J fo;split at h;rename_i cs ar;split at h;rename_i ab;exact alz Z e J fo ar (Hx ab) h;exact h.elim;exact h.elim;rename_i p aD J fo;exact alA Z e J fo h;exact h.elim
def R6{l:M N}{p:N->aK}{i:N}(h:l.find? p=some i):i∈l/\p i=ak:=
 ⟨K7 h,K8 h⟩
def afJ(fy:Good C){ops:cw eI}(oB:acH ops=ak)
  (fb:∀c a w,¬Q (.panic c) a w) (aw:∀(z:eI),z∈ops.toList->∀d,z.dst=some d->ds d=ak):
  ∀(f:N) (listed:cw aK) (flag:aK) (s:aO) (u:H),AJ C bx ops ai f listed flag s u K->∀(bs:M N) (a:eo) (w:b7) (g:N),Fits s bs u a w->
   yB ops listed->left listed<=g->(flag=ak->ai.le u/\s.loc=gx/\bs=fG)->(∃ext,bs=fG++ext)->CE bx s bs u a w ds K (Q .normal)->
   yz C.P ops Q (rE ops) (jy gx fG ai) g listed a w:=by
 intro f
 induction f with
 |zero=>intro listed flag s u h;exact h.elim
 |succ f aM=>
  intro listed flag s u h bs a w g Z I W NE Bk xm;have eQ:∀(i:N) (z:eI),ops[i]?=some z->∀v,∀d,ds d=ax->(a.put z.dst v).tmps[d]?=a.tmps[d]?:=λi z aa v=>
   acA (aw z (by rw[Ht];exact UD aa))
  unfold AJ at h;split at h
  ·
   rename_i i xt;obtain⟨hi,ad⟩:=R6 xt;simp only[pr] at ad;have ar:=G6 (wq.1 hi).1;obtain⟨g,rfl⟩:∃m,g=m+1:=⟨g-1,by omega⟩;unfold R3 at h;split at h;exact h.elim
   .rename_i fC jo;obtain⟨aq,want,bQ,ht,hw⟩:=Ji h Z.toFitsE;have o4:=Z.told ht;have fin:∀y v,hj bs y=some v->AJ C bx ops ai f (listed.setIfInBounds i ak) flag (aq.put fC.dst y) u K->YieldsIf C.P ops (λ_=>True) fC v a->
      yz C.P ops Q (rE ops) (jy gx fG ai) (g+1) listed a w:=by
     intro y v r4 au ah
     refine aeP jo (UE oB) fb 0 (T:=λ_=>True) (.inl λ_=>trivial) g listed a w I (λj lr aP al uH dV=>UF jo ad.2 j lr aP al uH dV) hi ah trivial ?_
     have hV:=o4.put fC.dst r4
     refine aM _ flag _ u au bs _ w g hV (I.set hi) (by omega) ?_ Bk ?_
     intro mI
     obtain⟨aS,aB,cW⟩:=NE mI
     exact⟨aS,by rw[(mO _ _ _).1,ht.loc];exact aB,cW⟩
     exact xm.next (Step.refl Z.sub) ((Kept.put bx aq _ _).told ⟨ht.loc,ht.n⟩) (eQ i fC jo v)
    cases want with
    |true=>simp only at bQ;split at bQ;rename_i jd;obtain⟨y,v,au,r4,O⟩:=akK fy ht.e jd bQ;exact fin y v r4 au (.inl ⟨hw,λw' _=>O w'⟩);exact bQ.elim
    |false=>exact fin (.v ih) ih rfl bQ (.inr ⟨hw,rfl⟩)
  .split at h
   ·
    rename_i i xt;obtain⟨hi,ad⟩:=R6 xt;simp only[pr] at ad;have ar:=G6 (wq.1 hi).1;obtain⟨g,rfl⟩:∃m,g=m+1:=⟨g-1,by omega⟩;obtain⟨zb,uv,ko⟩:=NE rfl;unfold sQ at h;split at h;exact h.elim
    .rename_i fC jo;obtain⟨aq,want,bQ,ht,hw⟩:=Ji h Z.toFitsE;have o4:=Z.told ht;have Yu:jy gx fG ai w:=by rw[<-uv,<-ko];exact⟨Z.loc,Z.sub.mono zb⟩
     have s3:=ad.1;have NU:∃t x,fC.op=.load t x:=by unfold early TO at s3;rw[jo] at s3;simp only[pr] at s3;have h1:=s3.1;split at h1;rename_i t x e;exact⟨t,x,e⟩;cases h1
     have aT:∀j,rE ops j=ax->j=i∨waits ops ops.size j i=ak:=by
      intro j aP;unfold rE at aP;have bD:i<ops.size:=(ya.1 jo).1;have:=acI.1 aP i (K9.2 bD);simp only[pr,La,not_and,acJ] at this;by_cases iZ:j=i;exact .inl iZ;refine .inr (this ⟨s3,?_⟩);cases ab:ju i j with
      |false=>rfl|true=>exact aW (mh ab).symm iZ
     have fin:∀y v,hj bs y=some v->AJ C bx ops ai f (listed.setIfInBounds i ak) ak (aq.put fC.dst y) u K->YieldsIf C.P ops (jy gx fG ai) fC v a->
       yz C.P ops Q (rE ops) (jy gx fG ai) (g+1) listed a w:=by
      intro y v r4 au ah
      refine aeP jo (UE oB) fb ops.size (T:=jy gx fG ai) (.inr ⟨rfl,aT⟩) g listed a w I (λj lr aP al uH dV=>UF jo ad.2 j lr aP al uH dV) hi ah Yu ?_
      have hV:=o4.put fC.dst r4
      refine aM _ ak _ u au bs _ w g hV (I.set hi) (by omega) ?_ Bk ?_
      exact λ_=>⟨zb,by rw[(mO _ _ _).1,ht.loc];exact uv,ko⟩
      exact xm.next (Step.refl Z.sub) ((Kept.put bx aq _ _).told ⟨ht.loc,ht.n⟩) (eQ i fC jo v)
     cases want with
     |true=>obtain⟨t,x,e⟩:=NU;obtain⟨y,v,au,r4,O⟩:=aj6 ht.e e bQ;exact fin y v r4 au (.inl ⟨hw,λw' k2=>O w' (by rw[ht.loc,uv,ko];exact k2)⟩)
     |false=>exact fin (.v ih) ih rfl bQ (.inr ⟨hw,rfl⟩)
   ·
    cases pc:nx .any ops listed with
    |nil=>
     have Oz:=pc;rw[pc] at h;have Nk:=xm s u bs a w h Z (Step.refl Z.sub) (Kept.refl _ _) λ_ _=>rfl;cases g with
     |zero=>exact⟨Oz,Nk⟩|succ g=>exact⟨λ_=>Nk,by rw[Oz];intro i hi;cases hi⟩
    |cons i0 jf=>
     have al:nx .any ops listed≠[]:=by rw[pc];simp
     rw[pc] at h;simp only at h;have iv:∃m,g=m+1:=by
      cases g with
      |zero=>exact aW (ald (ops:=ops) (by omega)) al|succ m=>exact⟨m,rfl⟩
     obtain⟨g,rfl⟩:=iv;refine⟨λe=>aW e al,λi hi=>?_⟩;have ar:=G6 (wq.1 hi).1;have h1:=aeO h i (by rw[<-pc];exact hi);unfold wpOp;have step:∀(wt:N->aK) (fZ:aO->H->Prop),(∀s1 s2,Kept wt s1 s2->Kept bx s1 s2)->sQ C wt ops s i u fZ->
       (∀fC,ops[i]?=some fC->∀cO w',l7 wt fZ s bs u a w fC.dst cO w'->(rE ops i=ak->jy gx fG ai w->jy gx fG ai w')/\yz C.P ops Q (rE ops) (jy gx fG ai) g (listed.setIfInBounds i ak) cO w')->
       (match ops[i]? with
        |none=>(rE ops i=ak->jy gx fG ai w->jy gx fG ai w)/\yz C.P ops Q (rE ops) (jy gx fG ai) g (listed.setIfInBounds i ak) a w|some z=>if uY z (yielded ops a.tmps)=ak then(z.wp C.P a w (λcO w'=>(rE ops i=ak->jy gx fG ai w->jy gx fG ai w')/\yz C.P ops Q (rE ops) (jy gx fG ai) g (listed.setIfInBounds i ak) cO w') Q)∨(z.asks C.P a w/\LetsOut Q)
         else(rE ops i=ak->jy gx fG ai w->jy gx fG ai w)/\yz C.P ops Q (rE ops) (jy gx fG ai) g (listed.setIfInBounds i ak) (a.put z.dst ih) w):=by
      intro wt fZ _ J Ob
      unfold sQ at J
      split at J
      exact J.elim
      rename_i fC jo
      try rw[jo]
      show(if uY fC (yielded ops a.tmps)=ak then _ else _)
      rcases afW (Q:=Q) fy Z J with⟨hw,h2⟩|⟨hw,h2⟩
      rw[a1 hw]
      exact .inl (Oper.wp_mono (Ob fC jo) h2)
      rw[aF (by rw[hw];simp)]
      exact Ob fC jo _ _ h2
     split at h1;rename_i bS;refine step Uk _ (λs1 s2 k=>⟨k.n,k.len,λi cs e _=>k.same i cs e rfl⟩) h1 ?_;rintro fC jo cO w' ⟨aq,u',c8,v,⟨hle,au⟩,cF,ag,rfl,ja⟩;obtain⟨ext,vI⟩:=Bk;obtain⟨Fs,AY,_⟩:=ag.more;have Zv:Kept bx s aq:=⟨ja.n,ja.len,λi cs e _=>ja.same i cs e rfl⟩;refine⟨λ_ bl=>⟨λj cs e=>?_,cF.sub.mono hle⟩,aM _ ax aq u' au c8 _ w' g cF (I.set hi) (by omega) (λe=>by cases e) ⟨ext++Fs,by rw[AY,vI,n5]⟩ (xm.next ag Zv (eQ i fC jo v))⟩;obtain⟨b,T,hU,kJ⟩:=bl.loc j cs e;have kK:j<fG.length:=by rcases kC j fG.length with k|k;exact k;rw[iy k] at hU;cases hU
     have AV:bs[j]?=some b:=by rw[vI,qJ kK];exact hU
     have F7:j<s.loc.length:=by rw[<-Z.len];rcases kC j bs.length with k|k;exact k;rw[iy k] at AV;cases AV
     obtain⟨vo,bt,bK,fs⟩:=Z.loc j _ (cr F7);rw[AV] at bK;cases bK;rw[kJ] at fs;simp only[kb,Obj.cells.injEq] at fs;have dD:cs=s.loc[j]:=by have:=ei Array.toList fs.1;simpa using this
     have mF:=ja.same j _ (cr F7) rfl;obtain⟨fM,ES,o0,jE⟩:=cF.loc j _ mF;refine⟨b,ES,hU,?_⟩;have Zs:j<bs.length:=by rw[Z.len];exact F7
     rw[AY,qJ Zs,AV] at o0;cases o0;rw[dD];exact jE;rename_i bS;refine step bx _ (λ_ _ k=>k) h1 ?_;rintro fC jo cO w' ⟨aq,u',c8,v,au,cF,ag,rfl,ja⟩;obtain⟨ext,vI⟩:=Bk;obtain⟨Fs,AY,_⟩:=ag.more;exact⟨(λe=>by rw[bS] at e;cases e),aM _ ax aq u' au c8 _ w' g cF (I.set hi) (by omega) (λe=>by cases e) ⟨ext++Fs,by rw[AY,vI,n5]⟩ (xm.next ag ja (eQ i fC jo v))⟩
def oS(ops:cw eI)(gx:M (M ap))(fG:M N)(v0 ai:H)(i:N)(w w':b7):Prop:=
 (He ops i=ak->jy gx fG v0 w->jy gx fG v0 w')/\(Hf ops i=ak->jy gx fG ai w->jy gx fG ai w')
def oS.refl{ops:cw eI}{v0:H}(i:N)(w:b7):oS ops gx fG v0 ai i w w:=⟨λ_ h=>h,λ_ h=>h⟩
def afI(fy:Good C){ops:cw eI}{v0:H}(Kk:v0.le ai)(oB:acH ops=ak)
  (fb:∀c a w,¬Q (.panic c) a w) (aw:∀(z:eI),z∈ops.toList->∀d,z.dst=some d->ds d=ak):
  ∀(f:N) (listed:cw aK) (flag:aK) (s:aO) (u:H),w8 C bx ops v0 ai f listed flag s u K->∀(bs:M N) (a:eo) (w:b7) (g:N),Fits s bs u a w->
   yB ops listed->left listed<=g->(flag=ak->ai.le u/\s.loc=gx/\bs=fG)->(∃ext,bs=fG++ext)->CE bx s bs u a w ds K (Q .normal)->
   wT C.P ops Q (oS ops gx fG v0 ai) g listed a w:=by
 intro f
 induction f with
 |zero=>intro listed flag s u h;exact h.elim
 |succ f aM=>
  intro listed flag s u h bs a w g Z I W NE Bk xm;have eQ:∀(i:N) (z:eI),ops[i]?=some z->∀v,∀d,ds d=ax->(a.put z.dst v).tmps[d]?=a.tmps[d]?:=λi z aa v=>
   acA (aw z (by rw[Ht];exact UD aa))
  unfold w8 at h;split at h
  ·
   rename_i i xt;obtain⟨hi,ad⟩:=R6 xt;simp only[pr] at ad;have ar:=G6 (wq.1 hi).1;obtain⟨g,rfl⟩:∃m,g=m+1:=⟨g-1,by omega⟩;unfold R3 at h;split at h;exact h.elim
   .rename_i fC jo;obtain⟨aq,want,bQ,ht,hw⟩:=Ji h Z.toFitsE;have o4:=Z.told ht;have fin:∀y v,hj bs y=some v->w8 C bx ops v0 ai f (listed.setIfInBounds i ak) flag (aq.put fC.dst y) u K->YieldsIf C.P ops (λ_=>True) fC v a->
      wT C.P ops Q (oS ops gx fG v0 ai) (g+1) listed a w:=by
     intro y v r4 au ah
     refine aeQ jo (UE oB) fb 0 (T:=λ_=>True) (λw=>oS.refl _ w) (λj=>.inr (.inr λ_ _ _ _=>trivial)) g listed a w I (λj lr aP al uH dV=>UF jo ad.2 j lr aP al uH dV) hi ah trivial ?_
     have hV:=o4.put fC.dst r4
     refine aM _ flag _ u au bs _ w g hV (I.set hi) (by omega) ?_ Bk ?_
     intro mI
     obtain⟨aS,aB,cW⟩:=NE mI
     exact⟨aS,by rw[(mO _ _ _).1,ht.loc];exact aB,cW⟩
     exact xm.next (Step.refl Z.sub) ((Kept.put bx aq _ _).told ⟨ht.loc,ht.n⟩) (eQ i fC jo v)
    cases want with
    |true=>simp only at bQ;split at bQ;rename_i jd;obtain⟨y,v,au,r4,O⟩:=akK fy ht.e jd bQ;exact fin y v r4 au (.inl ⟨hw,λw' _=>O w'⟩);exact bQ.elim
    |false=>exact fin (.v ih) ih rfl bQ (.inr ⟨hw,rfl⟩)
  .split at h
   ·
    rename_i i xt;obtain⟨hi,ad⟩:=R6 xt;simp only[pr] at ad;have ar:=G6 (wq.1 hi).1;obtain⟨g,rfl⟩:∃m,g=m+1:=⟨g-1,by omega⟩;obtain⟨zb,uv,ko⟩:=NE rfl;have s3:=ad.1;have key:∀x:H,x.le u->(∀j,j=i∨waits ops ops.size j i=ak∨∀w w',oS ops gx fG v0 ai j w w'->jy gx fG x w->jy gx fG x w')->
      sQ C bx ops s i x (λaq _=>w8 C bx ops v0 ai f (listed.setIfInBounds i ak) ak aq u K)->wT C.P ops Q (oS ops gx fG v0 ai) (g+1) listed a w:=by
     intro x avq aT h
     unfold sQ at h
     split at h
     exact h.elim
     .rename_i fC jo;obtain⟨aq,want,bQ,ht,hw⟩:=Ji h Z.toFitsE;have o4:=Z.told ht;have Yu:jy gx fG x w:=by rw[<-uv,<-ko];exact⟨Z.loc,Z.sub.mono avq⟩
      have NU:∃t x,fC.op=.load t x:=by unfold early TO at s3;rw[jo] at s3;simp only[pr] at s3;have h1:=s3.1;split at h1;rename_i t x e;exact⟨t,x,e⟩;cases h1
      have fin:∀y v,hj bs y=some v->w8 C bx ops v0 ai f (listed.setIfInBounds i ak) ak (aq.put fC.dst y) u K->YieldsIf C.P ops (jy gx fG x) fC v a->
        wT C.P ops Q (oS ops gx fG v0 ai) (g+1) listed a w:=by
       intro y v r4 au ah
       refine aeQ jo (UE oB) fb ops.size (T:=jy gx fG x) (λw=>oS.refl _ w) aT g listed a w I (λj lr aP al uH dV=>UF jo ad.2 j lr aP al uH dV) hi ah Yu ?_
       have hV:=o4.put fC.dst r4
       refine aM _ ak _ u au bs _ w g hV (I.set hi) (by omega) ?_ Bk ?_
       exact λ_=>⟨zb,by rw[(mO _ _ _).1,ht.loc];exact uv,ko⟩
       exact xm.next (Step.refl Z.sub) ((Kept.put bx aq _ _).told ⟨ht.loc,ht.n⟩) (eQ i fC jo v)
      cases want with
      |true=>obtain⟨t,iI,e⟩:=NU;obtain⟨y,v,au,r4,O⟩:=aj6 ht.e e bQ;exact fin y v r4 au (.inl ⟨hw,λw' k2=>O w' (by rw[ht.loc,uv,ko];exact k2)⟩)
      |false=>exact fin (.v ih) ih rfl bQ (.inr ⟨hw,rfl⟩)
    have bD:i<ops.size:=by unfold early TO at s3;rcases kC i ops.size with k|k;exact k;rw[D4 k] at s3;simp at s3
    have beq:∀j,(!(ju i j))=ax->j=i:=λj ab=>by
     cases J:ju i j with
     |false=>rw[J] at ab;cases ab
     |true=>exact(mh J).symm
    split at h;rename_i ag;refine key ai zb (λj=>?_) h;by_cases ae:Hf ops j=ak;exact .inr (.inr λw w' O=>O.2 ae);have hW:Hf ops j=ax:=by cases J:Hf ops j with
      |false=>rfl|true=>exact aW J ae
    unfold Hf at hW;have:=acI.1 hW i (K9.2 bD);simp only[ag,Bool.true_and,pr,not_and,La,acJ] at this;by_cases iZ:j=i;exact .inl iZ;refine .inr (.inl (this ?_));cases ab:ju i j with
    |false=>rfl|true=>exact aW (mh ab).symm iZ
    rename_i ag;refine key v0 (Kk.trans zb) (λj=>?_) h;by_cases ae:He ops j=ak;exact .inr (.inr λw w' O=>O.1 ae);have hW:He ops j=ax:=by cases J:He ops j with
      |false=>rfl|true=>exact aW J ae
    unfold He at hW;have:=acI.1 hW i (K9.2 bD);simp only[ag,s3,Bool.not_false,Bool.true_and,pr,not_and,La,acJ] at this;by_cases iZ:j=i;exact .inl iZ;refine .inr (.inl (this ?_));cases ab:ju i j with
    |false=>rfl|true=>exact aW (mh ab).symm iZ
   ·
    cases pc:nx .any ops listed with
    |nil=>
     have Oz:=pc;rw[pc] at h;have Nk:=xm s u bs a w h Z (Step.refl Z.sub) (Kept.refl _ _) λ_ _=>rfl;cases g with
     |zero=>exact⟨Oz,Nk⟩|succ g=>exact⟨λ_=>Nk,by rw[Oz];intro i hi;cases hi⟩
    |cons i0 jf=>
     have al:nx .any ops listed≠[]:=by rw[pc];simp
     rw[pc] at h;simp only at h;have iv:∃m,g=m+1:=by
      cases g with
      |zero=>exact aW (ald (ops:=ops) (by omega)) al|succ m=>exact⟨m,rfl⟩
     obtain⟨g,rfl⟩:=iv;refine⟨λe=>aW e al,λi hi=>?_⟩;have ar:=G6 (wq.1 hi).1;have h1:=aeO h i (by rw[<-pc];exact hi);unfold wpOp;have step:∀(wt:N->aK) (fZ:aO->H->Prop),(∀s1 s2,Kept wt s1 s2->Kept bx s1 s2)->sQ C wt ops s i u fZ->
       (∀fC,ops[i]?=some fC->∀cO w',l7 wt fZ s bs u a w fC.dst cO w'->oS ops gx fG v0 ai i w w'/\wT C.P ops Q (oS ops gx fG v0 ai) g (listed.setIfInBounds i ak) cO w')->
       (match ops[i]? with
        |none=>oS ops gx fG v0 ai i w w/\wT C.P ops Q (oS ops gx fG v0 ai) g (listed.setIfInBounds i ak) a w|some z=>if uY z (yielded ops a.tmps)=ak then(z.wp C.P a w (λcO w'=>oS ops gx fG v0 ai i w w'/\wT C.P ops Q (oS ops gx fG v0 ai) g (listed.setIfInBounds i ak) cO w') Q)∨(z.asks C.P a w/\LetsOut Q)
         else oS ops gx fG v0 ai i w w/\wT C.P ops Q (oS ops gx fG v0 ai) g (listed.setIfInBounds i ak) (a.put z.dst ih) w):=by
      intro wt fZ _ J Ob
      unfold sQ at J
      split at J
      exact J.elim
      rename_i fC jo
      try rw[jo]
      show(if uY fC (yielded ops a.tmps)=ak then _ else _)
      rcases afW (Q:=Q) fy Z J with⟨hw,h2⟩|⟨hw,h2⟩
      rw[a1 hw]
      exact .inl (Oper.wp_mono (Ob fC jo) h2)
      rw[aF (by rw[hw];simp)]
      exact Ob fC jo _ _ h2
     split at h1;rename_i bS;refine step Uk _ (λs1 s2 k=>⟨k.n,k.len,λi cs e _=>k.same i cs e rfl⟩) h1 ?_;rintro fC jo cO w' ⟨aq,u',c8,v,hU,cF,ag,rfl,ja⟩;have kJ:=ajJ hU;have au:=ajJ kJ;obtain⟨ext,vI⟩:=Bk;obtain⟨Fs,AY,_⟩:=ag.more;have Zv:Kept bx s aq:=⟨ja.n,ja.len,λi cs e _=>ja.same i cs e rfl⟩;have stay:∀x:H,x.le u'->jy gx fG x w->jy gx fG x w':=by
      intro x hle bl;refine⟨λj cs e=>?_,cF.sub.mono hle⟩;obtain⟨b,T,hU,kJ⟩:=bl.loc j cs e;have kK:j<fG.length:=by rcases kC j fG.length with k|k;exact k;rw[iy k] at hU;cases hU
      have AV:bs[j]?=some b:=by rw[vI,qJ kK];exact hU
      have F7:j<s.loc.length:=by rw[<-Z.len];rcases kC j bs.length with k|k;exact k;rw[iy k] at AV;cases AV
      obtain⟨vo,bt,bK,fs⟩:=Z.loc j _ (cr F7);rw[AV] at bK;cases bK;rw[kJ] at fs;simp only[kb,Obj.cells.injEq] at fs;have dD:cs=s.loc[j]:=by have:=ei Array.toList fs.1;simpa using this
      have mF:=ja.same j _ (cr F7) rfl;obtain⟨fM,ES,o0,jE⟩:=cF.loc j _ mF;refine⟨b,ES,hU,?_⟩;have Zs:j<bs.length:=by rw[Z.len];exact F7
      rw[AY,qJ Zs,AV] at o0;cases o0;rw[dD];exact jE
     exact⟨⟨λae=>stay v0 (ajI hU ae),λae=>stay ai (ajI kJ ae)⟩,aM _ ax aq u' au c8 _ w' g cF (I.set hi) (by omega) (λe=>by cases e) ⟨ext++Fs,by rw[AY,vI,n5]⟩ (xm.next ag Zv (eQ i fC jo v))⟩;rename_i bS;refine step bx _ (λ_ _ k=>k) h1 ?_;rintro fC jo cO w' ⟨aq,u',c8,v,au,cF,ag,rfl,ja⟩;obtain⟨ext,vI⟩:=Bk;obtain⟨Fs,AY,_⟩:=ag.more;rw[zM] at bS;exact⟨⟨λe=>(by rw[bS.1] at e;cases e),λe=>(by rw[bS.2] at e;cases e)⟩,aM _ ax aq u' au c8 _ w' g cF (I.set hi) (by omega) (λe=>by cases e) ⟨ext++Fs,by rw[AY,vI,n5]⟩ (xm.next ag ja (eQ i fC jo v))⟩
end
end
section
variable{vs args:M ap}{ds bs c8:M N}{u:H}{w':b7}{ss:M bg}{C:lb}{f:kM}{l:M (N×aL)}{p:N×fF}{aq:aO}
structure qi where
 Et:M (N×aL)
 boxes:M (N×M aL)
def qi.px(a:qi):M aL:=a.Et.map (·.2)++a.boxes.flatMap (·.2)
def Rw:M (N×qi)->N->ay qi
 | [],_=>none|(i,x)::r,j=>match ju i j with
  |true=>some x|false=>Rw r j
def fr:iP->M N
 | .seq a b=>fr a++fr b| .cond _ a b=>fr a++fr b| .block _ b=>fr b| .loop b=>fr b| .scope b=>fr b| .region _ ops _=>ops.toList.filterMap λz=>z.dst|_=>[]
def Ij(s:aO):M (N×aL)->ay (M ap)
 | []=>some []|(d,_)::r=>match(look s.env d).bind fF.val,Ij s r with
  |some v,some vs=>some (v::vs)|_,_=>none
def RK(s:aO):M (N×M aL)->ay (M ap)
 | []=>some []|(i,ck)::r=>match s.loc[i]?,RK s r with
  |some cs,some vs=>match ju cs.length ck.length with
   |true=>some (cs++vs)|false=>none
  |_,_=>none
def Iz(s:aO)(a6:qi):ay (M ap):=
 match s.Fg with
 |none=>match Ij s a6.Et,RK s a6.boxes with
  |some a,some b=>some (a++b)|_,_=>none
 |some _=>none
def Ja:M (N×fF)->M (N×ap)
 | []=>[]|(d,x)::r=>match x.val with
  |some v=>(d,v)::Ja r|none=>Ja r
def Ei:iP->ay iP
 | .rangeFunc g p x y=>some (.rangeFunc g p x y)| .seq a b=>match Ei a with
  |some c=>some c|none=>Ei b
 | .cond _ a b=>match Ei a with
  |some c=>some c|none=>Ei b
 | .block _ b=>Ei b| .scope b=>Ei b| .loop b=>Ei b|_=>none
def Lv(c:iP):iP:=(Ei c).getD .skip
def nf(P:dY)(c:iP)(n:N)(env:M (N×ap))(u:H)(K:N->H->Prop):Prop:=
 ∀a w,a.tmps.size=n->(∀p∈env,a.tmps[p.1]?=some p.2)->a.defers=[]->Sub u w->
  c.wp P (λe cO w'=>e=.normal/\cO.tmps=a.tmps/\∃D u',cO.defers=Mq (some D)/\K D u'/\Step u [] w u' [] w') a w
def VO:aL->ap->fF
 | .addr,.pointer (some p)=>.ptr p|_,v=>.v v
def amm(t:aL)(v:ap)(bs:M N):hj bs (VO t v)=some v:=by unfold VO;split<;>rfl
def Ai:M (N×aL)->M ap->M (N×fF)
 |(d,t)::r,v::vs=>(d,VO t v)::Ai r vs|_,_=>[]
def Er:M (M ap)->M (N×M aL)->M ap->M (M ap)
 |loc,[],_=>loc|loc,(i,ck)::r,vs=>Er (tC loc i (vs.take ck.length)) r (vs.drop ck.length)
def Pf(ds:M N):M (N×fF)->M (N×fF)
 | []=>[]|(d,x)::r=>match gC ds d with
  |true=>Pf ds r|false=>(d,x)::Pf ds r
def oU(s:aO)(ds:M N)(a6:qi)(vs:M ap):aO:=
 {n:=s.n,env:=Ai a6.Et vs++Pf ds s.env,loc:=Er s.loc a6.boxes (vs.drop a6.Et.length)}
def narrow(bx:N->aK)(AG:N)(oW:M (N×M aL))(i:N):aK:=
 match zJ i AG with
 |true=>gC (oW.map (·.1)) i && bx i|false=>ak
def Cm(s:aO)(c:jX)(x:fF):aO:=
 match c with
 | .tmp t=>s.put (some t) x|_=>s
def hf(C:lb)(ia:M (N×qi)):iP->N->(N->aK)->(k4->aO->H->Prop)->aO->H->Prop
 | .skip,_,_,Q,s,u=>Q .normal s u| .label _,_,_,Q,s,u=>Q .normal s u| .ret,_,_,Q,s,u=>Q .ret s u| .exit id,_,_,Q,s,u=>Q (.exit id) s u| .seq x y,p,bx,Q,s,u=>match Rw ia p with
  |none=>hf C ia x (2*p) bx (λe aq u'=>match e with
   | .normal=>hf C ia y (2*p+1) bx Q aq u'|e=>Q e aq u') s u
  |some a6=>∀K:hc a6.px (H->Prop),
    Me a6.px (λvs=>∀aU,hf C ia y (2*p+1) bx Q (oU s (fr x) a6 vs) aU->hS a6.px K vs λr=>r aU)->
    hf C ia x (2*p) (narrow bx s.loc.length a6.boxes) (λe aq u'=>match e with
     | .normal=>match Iz aq a6 with
      |some vs=>hS a6.px K vs λr=>r u'|none=>eh
     |e=>Q e aq u') s u
 | .cond c x y,p,bx,Q,s,u=>match s.sv c with
  |some .jZ=>hf C ia x (2*p) bx Q s u|some .lU=>hf C ia y (2*p+1) bx Q s u|some (.dec q _)=>(q->hf C ia x (2*p) bx Q (Cm s c .jZ) u)/\(¬q->hf C ia y (2*p+1) bx Q (Cm s c .lU) u)|some (.uQ q _)=>(¬q->hf C ia x (2*p) bx Q (Cm s c .jZ) u)/\(q->hf C ia y (2*p+1) bx Q (Cm s c .lU) u)|some (.v (.bool b))=>(b=ak->hf C ia x (2*p) bx Q (Cm s c .jZ) u)/\(b=ax->hf C ia y (2*p+1) bx Q (Cm s c .lU) u)|_=>eh
 | .block id b,p,bx,Q,s,u=>hf C ia b (2*p) bx (λe aq u'=>match e with
  | .exit j=>match ju j id with
   |true=>Q .normal aq u'|false=>Q (.exit j) aq u'
  |e=>Q e aq u') s u
 | .scope b,p,bx,Q,s,u=>hf C ia b (2*p) bx (λe aq u'=>match e with
  | .goto _=>eh|e=>Q e aq u') s u
 | .loop b,p,bx,Q,s,u=>match Rw ia p with
  |none=>eh|some a6=>match Iz s a6 with
   |none=>eh|some EG=>∃dp:hc a6.px (H->Prop),∃μ:hc a6.px (H->N),(hS a6.px dp EG λr=>r u)/\
     Me a6.px λvs=>∀aU,(hS a6.px dp vs λr=>r aU)->
      hf C ia b (2*p) (narrow bx s.loc.length a6.boxes) (λe aq u'=>match e with
       | .normal=>match Iz aq a6 with
        |some qZ=>hS a6.px dp qZ λr=>hS a6.px μ qZ λm=>hS a6.px μ vs λm0=>r u'/\m u'<m0 aU|none=>eh
       |e=>Q e aq u') (oU s (fr b) a6 vs) aU
 | .region _ ops ax,_,bx,Q,s,u=>LC C bx ops ops.toList s u (Q .normal)| .rangeFunc g c7 x y,_,_,Q,s,u=>match s.Fg with
  |none=>nf C.P (.rangeFunc g c7 x y) s.n (Ja s.env) u λD u'=>Q .normal {s with Fg:=some D} u'
  |some _=>eh
 | .region _ ops ak,_,bx,Q,s,u=>match acH ops with
  |true=>match C.part with
   |false=>AJ C bx ops u (ops.size+1) (D8 ops.size ax) ak s u (Q .normal)|true=>∃v0:H,v0.le u/\w8 C bx ops v0 u (ops.size+1) (D8 ops.size ax) ak s u (Q .normal)
  |false=>eh
 |_,_,_,_,_,_=>eh
section
variable {C:lb} {bx:N->aK} {s:aO} {u:H} {bs:M N} {a:eo} {w:b7}
def mz(bx:N->aK)(s:aO)(bs:M N)(u:H)(a:eo)(w:b7)(ds:M N)(Q:k4->aO->H->Prop)(e:k4)(cO:eo)(w':b7):Prop:=
 (∀c,e≠.panic c)/\∃aq u' c8,Q e aq u'/\Fits aq c8 u' cO w'/\Step u bs w u' c8 w'/\Kept bx s aq/\∀d,gC ds d=ax->cO.tmps[d]?=a.tmps[d]?
def DY(a b:M N)(d:N):gC (a++b) d=(gC a d ||gC b d):=by simp[gC]
def mz.mono{Fh:M N}{Q:k4->aO->H->Prop}{e:k4}{cO:eo}(h:mz bx s bs u a w ds Q e cO w')(aw:∀d,gC Fh d=ax->gC ds d=ax):
  mz bx s bs u a w Fh Q e cO w':=by
 obtain⟨h1,aq,u',c8,h2,h3,a7,bK,fs⟩:=h
 exact⟨h1,aq,u',c8,h2,h3,a7,bK,λd h=>fs d (aw d h)⟩
def mz.next{s1:aO}{aU:H}{afc:M N}{ac:eo}{gj:b7}{Q:k4->aO->H->Prop}{e:k4}{cO:eo}(ag:Step u bs w aU afc gj)(hk:Kept bx s s1)
  (aE:∀d,gC ds d=ax->ac.tmps[d]?=a.tmps[d]?) (h:mz bx s1 afc aU ac gj ds Q e cO w'):mz bx s bs u a w ds Q e cO w':=by
 obtain⟨h1,aq,u',c8,h2,h3,a7,bK,fs⟩:=h
 exact⟨h1,aq,u',c8,h2,h3,ag.trans a7,hk.trans bK,λd h=>(fs d h).trans (aE d h)⟩
def Step.forget{u':H}{w:b7}(h:Step u bs w u' c8 w'):Step u bs w u' bs w':=
 ⟨h.sub,h.os,h.tape,h.output,h.drawn,h.size,h.rest,h.jq,[],by simp,by simp⟩
def alW(h:Ij s l=some vs):vs.length=l.length:=by
 induction l generalizing vs with
 |nil=>simp[Ij] at h;subst h;rfl|cons p r aM=>simp only[Ij] at h;split at h;rename_i v qZ aA k1;cases h;simp[aM k1];cases h
def aAM{ws:M ap}(h:vs.length=l.length):Ai l (vs++ws)=Ai l vs:=by
 induction l generalizing vs with
 |nil=>
  cases vs with
  |nil=>cases ws<;>rfl
  |cons=>simp at h
 |cons p r aM=>
  cases vs with
  |nil=>simp at h|cons v vs=>simp only[zN,Ai];rw[aM (by simpa using h)]
def aAN(Z:FitsE s bs a)(h:Ij s l=some vs):
  ∀p∈Ai l vs,∃v,hj c8 p.2=some v/\a.tmps[p.1]?=some v:=by
 induction l generalizing vs with
 |nil=>intro p ad;simp[Ai] at ad
 |cons q r aM=>
  simp only[Ij] at h;split at h;rename_i v qZ aA k1;cases h;intro p ad;simp only[Ai] at ad;cases ad with
  |head=>simp only[acD] at aA;obtain⟨x,J,O3⟩:=aA;obtain⟨b8,h1,h2⟩:=Z.env _ (G7 J);simp only at h1 h2;rw[fF.Wc O3 bs] at h1;cases h1;exact⟨v,amm _ _ _,h2⟩
  |tail _ ad=>exact aM k1 p ad
  cases h
def avT{l:M (N×fF)}(h:p∈Pf ds l):p∈l/\gC ds p.1=ax:=by
 induction l with
 |nil=>cases h
 |cons q r aM=>
  obtain⟨d,x⟩:=q;simp only[Pf] at h;split at h;exact⟨.tail _ (aM h).1,(aM h).2⟩;rename_i e;cases h with
  |head=>exact⟨.head _,e⟩|tail _ h=>exact⟨.tail _ (aM h).1,(aM h).2⟩
def Qz:∀(oW:M (N×M aL)) (loc:M (M ap)) (vs:M ap),(Er loc oW vs).length=loc.length:=by
 intro oW;induction oW with
 |nil=>intro loc vs;rfl
 |cons p r aM=>intro loc vs;simp only[Er];rw[aM,Vx]
def alN{AG:N}(aBg:AG<=aq.loc.length):∀(oW:M (N×M aL)) (loc:M (M ap)) (vs:M ap),RK aq oW=some vs->loc.length=AG->
  (∀(i:N) (cs:M ap),loc[i]?=some cs->gC (oW.map (·.1)) i=ax->aq.loc[i]?=some cs)->∀(i:N) (cs:M ap),(Er loc oW vs)[i]?=some cs->aq.loc[i]?=some cs:=by
 intro oW
 induction oW with
 |nil=>intro loc vs _ _ h i cs e;exact h i cs e rfl
 |cons p r aM=>
  obtain⟨j,ck⟩:=p;intro loc vs h ar hk i cs e;simp only[RK] at h;split at h;rename_i yP qZ aP k1;split at h;rename_i hlen;cases h;have atv:=mh hlen;simp only[Er] at e;rw[<-atv,UG,UH] at e;refine aM (tC loc j yP) qZ k1 (by rw[Vx];exact ar) ?_ i cs e;intro lo Fb aB hm;rw[adB] at aB;split at aB;rename_i iZ;cases aB;rw[<-iZ.1];exact aP;rename_i iZ;refine hk lo Fb aB ?_;simp only[gm,gC,List.any_cons,zM];refine⟨?_,hm⟩;cases ab:ju lo j with
  |false=>rfl|true=>
   have:=mh ab;subst this;have bD:lo<loc.length:=by rcases kC lo loc.length with k|k;exact k;rw[iy k] at aB;cases aB
   exact aW ⟨rfl,bD⟩ iZ
  cases h;cases h
def Fits.oU{u':H}{cO:eo}{a6:qi}(Z:Fits s bs u a w)(cF:Fits aq c8 u' cO w')(ag:Step u bs w u' c8 w')
  (hk:Kept (narrow bx s.loc.length a6.boxes) s aq) (aE:∀d,gC ds d=ax->cO.tmps[d]?=a.tmps[d]?) (aA:Iz aq a6=some vs):
  Fits (oU s ds a6 vs) bs u' cO w':=by
 unfold Iz at aA
 split at aA
 rotate_left
 cases aA
 rename_i SK
 split at aA
 rename_i Ah qY TF Bw
 cases aA
 have JS:=alW TF
 obtain⟨ext,vI,_⟩:=ag.more
 have aC:Ai a6.Et (Ah++qY)=Ai a6.Et Ah:=aAM JS
 have aw:(Ah++qY).drop a6.Et.length=qY:=by rw[<-JS,UH]
 refine⟨⟨by rw[cF.defers,SK];rfl,by rw[cF.n,hk.n];rfl,?_⟩,?_,?_,Z.nodup,?_,cF.sub⟩
 intro p ad
 simp only[Go.Proofs.YtejdhbfjjgcljaaGreatDoor.oU,aC] at ad
 rcases cN.1 ad with ad|ad
 exact aAN cF.toFitsE TF p ad
 obtain⟨h1,h2⟩:=avT ad
 obtain⟨v,h3,a7⟩:=Z.env p h1
 exact⟨v,h3,(aE p.1 h2).trans a7⟩
 simp only[Go.Proofs.YtejdhbfjjgcljaaGreatDoor.oU,Qz];exact Z.len
 intro i cs e
 simp only[Go.Proofs.YtejdhbfjjgcljaaGreatDoor.oU,aw] at e
 have bD:i<s.loc.length:=by rcases kC i s.loc.length with k|k;exact k;rw[iy (by rw[Qz];exact k)] at e;cases e
 have h1:=alN hk.len a6.boxes s.loc qY Bw rfl (λj Fb aB hm=>by
  refine hk.same j Fb aB ?_;have NO:j<s.loc.length:=by rcases kC j s.loc.length with k|k;exact k;rw[iy k] at aB;cases aB
  unfold narrow;have:zJ j s.loc.length=ak:=by simpa using NO
  rw[this];simp[hm]) i cs e
 obtain⟨b,T,h2,h3⟩:=cF.loc i cs h1
 refine⟨b,T,?_,h3⟩
 rw[vI,qJ (by rw[Z.len];exact bD)] at h2
 exact h2
 intro b ab
 exact cF.ch b (by rw[vI];exact iQ _ ab)
 cases aA
def WI{a6:qi}(hk:Kept (narrow bx s.loc.length a6.boxes) s aq)(aA:Iz aq a6=some vs):
  Kept (narrow bx s.loc.length a6.boxes) s (oU s ds a6 vs):=by
 unfold Iz at aA
 split at aA
 rotate_left
 cases aA
 rename_i SK
 split at aA
 rename_i Ah qY TF Bw
 cases aA
 have JS:=alW TF
 have aw:(Ah++qY).drop a6.Et.length=qY:=by rw[<-JS,UH]
 refine⟨rfl,by simp only[oU,Qz];exact cA _,λi cs e hw=>?_⟩
 simp only[oU,aw]
 have bD:i<s.loc.length:=by rcases kC i s.loc.length with k|k;exact k;rw[iy k] at e;cases e
 have h1:=alN hk.len a6.boxes s.loc qY Bw rfl (λj Fb aB hm=>by
   refine hk.same j Fb aB ?_;have NO:j<s.loc.length:=by rcases kC j s.loc.length with k|k;exact k;rw[iy k] at aB;cases aB
   unfold narrow;have:zJ j s.loc.length=ak:=by simpa using NO
   rw[this];simp[hm]) i
 have h2:=hk.same i cs e hw
 cases h3:(Er s.loc a6.boxes qY)[i]? with
 |none=>
  have:i<(Er s.loc a6.boxes qY).length:=by rw[Qz];exact bD
  rw[cr this] at h3;cases h3
 |some x=>have a7:=h1 _ h3;rw[h2] at a7;exact a7.symm
 cases aA
def aca{AG:N}{oW:M (N×M aL)}{s1 s2:aO}(I:s1.loc.length=AG)(k:Kept (narrow bx AG oW) s1 s2):Kept bx s1 s2:=by
 refine⟨k.n,k.len,λi cs e hw=>k.same i cs e ?_⟩;have bD:i<AG:=by rw[<-I];rcases kC i s1.loc.length with h|h;exact h;rw[iy h] at e;cases e
 unfold narrow;have:zJ i AG=ak:=by simpa using bD
 rw[this];simp[hw]
def aAu{P:dY}{c:iP}{Q:k4->eo->b7->Prop}{G:Type}(dp:G->eo->b7->Prop)(μ:G->N)
  (round:∀g a w,dp g a w->c.wp P (Exit.then (λcO w'=>∃b0,dp b0 cO w'/\μ b0<μ g) Q) a w) {a:eo} {w:b7} (g:G) (h:dp g a w):(Code.loop c).wp P Q a w:=by
 intro b k cs
 have key:∀n g a w,μ g=n->dp g a w->
   ∃e cO w',Q e cO w'/\Arrives P (lone (b.at a (.code c:: .inLoop c::k)) cs w) b k cs e cO w':=by
  intro n
  induction n using D9 with
  |_ n aM=>
   intro g a w ae cv;obtain⟨e,IS,LS,aN,Dh⟩:=round g a w cv b (.inLoop c::k) cs;cases e with
   |normal=>obtain⟨agr,ara,bD⟩:=aN;obtain⟨aqd,an5,aAA,auA,ar2⟩:=aM (μ agr) (ae▸bD) agr IS LS rfl ara;exact⟨aqd,an5,aAA,auA,.of_steps (Steps.trans Dh (.one step_inLoop)) ar2⟩
   |exit id=>exact⟨_,IS,LS,aN,.pass (x:=.inLoop c) rfl (λ_ _=>.inl (by simp)) Dh⟩|goto l=>exact⟨_,IS,LS,aN,.pass (x:=.inLoop c) rfl (λ_ _=>.inl (by simp)) Dh⟩|ret=>exact⟨_,IS,LS,aN,.pass (x:=.inLoop c) rfl (λ_ _=>.inl (by simp)) Dh⟩|panic I0=>exact⟨_,IS,LS,aN,.pass (x:=.inLoop c) rfl (λ_ _=>.inl (by simp)) Dh⟩|outgrown=>exact⟨_,IS,LS,aN,.pass (x:=.inLoop c) rfl (λ_ _=>.inl (by simp)) Dh⟩
 obtain⟨e,cO,w',aN,Dh⟩:=key _ g a w rfl h
 exact⟨e,cO,w',aN,.of_steps (.one step_loop) Dh⟩
def aAd{R:Type}{ck:M aL}{dp:hc ck R}{f g:R->Prop}(h:hS ck dp vs f)(ND:∀r,f r->g r):hS ck dp vs g:=by obtain⟨r,O⟩:=ad9 dp (LN h);exact(O _).2 (ND _ ((O _).1 h))
def I5{id:N}{ops:cw eI}{bk:aK}{z:eI}(aa:z∈ops.toList){d:N}(aw:z.dst=some d):gC (fr (.region id ops bk)) d=ak:=by simp only[fr,gC,List.any_eq_true];exact⟨d,List.mem_filterMap.2 ⟨z,aa,aw⟩,Nat.beq_refl d⟩
def wO{c:jX}{x:fF}(Z:Fits s bs u a w)(J:hj bs x=some (a.eval c))(ae:∀t,c=.tmp t->(look s.env t).isSome=ak):Fits (Cm s c x) bs u a w/\(Cm s c x).loc=s.loc/\(Cm s c x).n=s.n:=by
 cases c with
 |tmp t=>
  obtain⟨y,ah⟩:=KY.1 (ae t rfl);obtain⟨v,h1,h2⟩:=Z.env _ (G7 ah);simp only at h1 h2;have fh:a.eval (.tmp t)=v:=by simp only[Act.eval];rw[BT,h2];rfl
  rw[fh] at J;have he:=Z.toFitsE.tell (d:=t) J h2;exact⟨Z.told ⟨he,(mO _ _ _).1,(mO _ _ _).2⟩,(mO _ _ _).1,(mO _ _ _).2⟩
 |const v=>exact⟨Z,rfl,rfl⟩|global g=>exact⟨Z,rfl,rfl⟩|func f=>exact⟨Z,rfl,rfl⟩
def apT{s:aO}{a:eo}(Z:FitsE s bs a):∀p∈Ja s.env,a.tmps[p.1]?=some p.2:=by
 have key:∀l:M (N×fF),(∀p∈l,p∈s.env)->∀p∈Ja l,a.tmps[p.1]?=some p.2:=by
  intro l;induction l with
  |nil=>intro _ p ad;cases ad
  |cons q r aM=>
   obtain⟨d,x⟩:=q;intro ar p ad;simp only[Ja] at ad;split at ad;rename_i v aA;cases ad with
   |head=>obtain⟨b8,h1,h2⟩:=Z.env _ (ar _ (.head _));simp only at h1 h2;rw[fF.Wc aA bs] at h1;cases h1;exact h2
   |tail _ ad=>exact aM (λp ad=>ar p (.tail _ ad)) p ad
   exact aM (λp ad=>ar p (.tail _ ad)) p ad
 exact key s.env λ_ h=>h
set_option maxHeartbeats 1000000 in
def aph(fy:Good C)(ia:M (N×qi)):∀(c:iP) (p:N) (bx:N->aK) (Q:k4->aO->H->Prop) (s:aO) (u:H),hf C ia c p bx Q s u->
  ∀(bs:M N) (a:eo) (w:b7),Fits s bs u a w->c.wp C.P (mz bx s bs u a w (fr c) Q) a w:=by
 intro c
 have base:∀(e:k4),(∀c,e≠.panic c)->∀(ds:M N) (bx:N->aK) (Q:k4->aO->H->Prop) (s:aO) (u:H) (bs:M N) (a:eo) (w:b7),Q e s u->Fits s bs u a w->
   mz bx s bs u a w ds Q e a w:=λe he ds bx Q s u bs a w h Z=>⟨he,s,u,bs,h,Z,Step.refl Z.sub,Kept.refl _ _,λ_ _=>rfl⟩
 induction c with
 |skip=>intro p bx Q s u h bs a w Z;exact wp_skip (base _ (λ_=>rM) _ _ _ _ _ _ _ _ h Z)
 |label l=>intro p bx Q s u h bs a w Z;exact wp_label (base _ (λ_=>rM) _ _ _ _ _ _ _ _ h Z)
 |ret=>intro p bx Q s u h bs a w Z;exact wp_ret (base _ (λ_=>rM) _ _ _ _ _ _ _ _ h Z)
 |exit id=>intro p bx Q s u h bs a w Z;exact wp_exit (base _ (λ_=>rM) _ _ _ _ _ _ _ _ h Z)
 |goto l=>intro p bx Q s u h;exact h.elim
 |refuse r=>intro p bx Q s u h;exact h.elim
 |rangeFunc f c7 x y=>
  intro p bx Q s u h bs a w Z;simp only[hf] at h;split at h;rename_i aw;have asm:a.defers=[]:=by rw[Z.defers,aw];rfl
  refine yb ?_ (h a w Z.n (apT Z.toFitsE) asm Z.sub);rintro e cO w' ⟨rfl,ht,D,u',r5,au,ag⟩;refine⟨λ_=>rM,_,u',bs,au,?_,ag.NJ bs,⟨rfl,cA _,λ_ _ h _=>h⟩,λ_ _=>by rw[ht]⟩;have ie:=Z.step ag;exact⟨⟨r5,by rw[ht];exact ie.n,λq aN=>by rw[ht];exact ie.env q aN⟩,ie.len,ie.loc,ie.nodup,ie.ch,ie.sub⟩;exact h.elim
 |region id ops bk=>
  intro p bx Q s u h bs a w Z;cases bk with
  |false=>simp only[hf] at h;refine PZ.1 (wpIn_region_list (alM fy none (ds:=gC (fr (.region id ops ax))) ops.toList s u bs a w h Z (.inl rfl) (λz aa d aw=>I5 aa aw) ?_));intro aq u' c8 cO w' hk cF ag ja aE;exact⟨λ_=>rM,aq,u',c8,hk,cF,ag,ja,aE⟩
  |true=>
   simp only[hf] at h;split at h;rename_i oB;have Dm:Fits s bs u a {w with drawn:=w.drawn+1}:=⟨Z.toFitsE,Z.len,Z.loc,Z.nodup,Z.ch,Z.sub⟩;have hG:yB ops (D8 ops.size ax):=by
    intro j z _ aP;have:(D8 ops.size ax).getD j ax=ax:=by rw[BT,Array.getElem?_replicate];split<;>rfl
    rw[this] at aP;cases aP
   have sY:CE bx s bs u a {w with drawn:=w.drawn+1} (gC (fr (.region id ops ak))) (Q .normal) (mz bx s bs u a w (fr (.region id ops ak)) Q .normal):=by intro aq u' c8 cO w' hk cF ag ja aE;exact⟨λ_=>rM,aq,u',c8,hk,cF,(Step.RW Z.sub (zO _)).trans ag,ja,aE⟩
   split at h;refine wp_region_any fy.mixed (aes (nd:=rE ops) (S:=jy s.loc bs u) _ _ _ _ ?_);exact afJ fy (ds:=gC (fr (.region id ops ak))) (gx:=s.loc) (fG:=bs) oB (λc a w ad=>ad.1 c rfl) (λz aa d aw=>I5 aa aw) _ _ _ s u h bs a _ _ Dm hG (by unfold left;simp) (λ_=>⟨H.le.refl u,rfl,rfl⟩) ⟨[],by simp⟩ sY;obtain⟨v0,zb,h⟩:=h;refine wp_region_any fy.mixed (aet (R:=oS ops s.loc bs v0 u) _ _ _ _ ?_);exact afI fy (ds:=gC (fr (.region id ops ak))) (gx:=s.loc) (fG:=bs) zb oB (λc a w ad=>ad.1 c rfl) (λz aa d aw=>I5 aa aw) _ _ _ s u h bs a _ _ Dm hG (by unfold left;simp) (λ_=>⟨H.le.refl u,rfl,rfl⟩) ⟨[],by simp⟩ sY;exact h.elim
 |seq x y DN DO=>
  intro p bx Q s u h bs a w Z;have ox:∀d,gC (fr (.seq x y)) d=ax->gC (fr x) d=ax:=λd h=>by simp only[fr,DY,zM] at h;exact h.1
  have Dk:∀d,gC (fr (.seq x y)) d=ax->gC (fr y) d=ax:=λd h=>by simp only[fr,DY,zM] at h;exact h.2
  simp only[hf] at h;split at h;refine wp_seq (yb ?_ (DN _ _ _ s u h bs a w Z));intro e cO w' ad;obtain⟨al,aq,u',c8,aN,cF,ag,hk,aE⟩:=ad;cases e with
  |normal=>refine yb ?_ (DO _ _ _ aq u' aN c8 cO w' cF);intro aB a2 eA eY;exact mz.next ag hk (λd aw=>aE d (ox d aw)) (eY.mono Dk)
  |exit id=>exact⟨al,aq,u',c8,aN,cF,ag,hk,λd aw=>aE d (ox d aw)⟩|goto l=>exact⟨al,aq,u',c8,aN,cF,ag,hk,λd aw=>aE d (ox d aw)⟩|ret=>exact⟨al,aq,u',c8,aN,cF,ag,hk,λd aw=>aE d (ox d aw)⟩|panic c=>exact aW rfl (al c)|outgrown=>exact⟨al,aq,u',c8,aN,cF,ag,hk,λd aw=>aE d (ox d aw)⟩
  rename_i a6 _;have bQ:=h (Pl a6.px λvs aU=>hf C ia y (2*p+1) bx Q (oU s (fr x) a6 vs) aU) (by
   have all:∀(ck:M aL) (f:M ap->Prop),(∀vs,pB ck vs->f vs)->Me ck f:=by
    intro ck;induction ck with
    |nil=>intro f Z;exact Z [] .nil
    |cons t ck aM=>intro f Z x;exact aM _ λvs k1=>Z _ (.cons x k1)
   refine all _ _ λvs k1 aU h1=>?_;exact(QX k1 _).2 h1)
  refine wp_seq (yb ?_ (DN _ _ _ s u bQ bs a w Z));intro e cO w' ad;obtain⟨al,aq,u',c8,aN,cF,ag,hk,aE⟩:=ad;have o8:Kept bx s aq:=aca rfl hk;cases e with
  |normal=>simp only at aN;split at aN;rename_i vs k1;have ato:=LN aN;have ah:=(QX ato _).1 aN;have asL:=Z.oU cF ag hk aE k1;refine yb ?_ (DO _ _ _ _ u' ah bs cO w' asL);intro aB a2 eA eY;exact mz.next ag.forget (aca rfl (WI hk k1)) (λd aw=>aE d (ox d aw)) (eY.mono Dk);exact aN.elim
  |exit id=>exact⟨al,aq,u',c8,aN,cF,ag,o8,λd aw=>aE d (ox d aw)⟩|goto l=>exact⟨al,aq,u',c8,aN,cF,ag,o8,λd aw=>aE d (ox d aw)⟩|ret=>exact⟨al,aq,u',c8,aN,cF,ag,o8,λd aw=>aE d (ox d aw)⟩|panic c=>exact aW rfl (al c)|outgrown=>exact⟨al,aq,u',c8,aN,cF,ag,o8,λd aw=>aE d (ox d aw)⟩
 |cond c x y DN DO=>
  intro p bx Q s u h bs a w Z;have ox:∀d,gC (fr (.cond c x y)) d=ax->gC (fr x) d=ax:=λd h=>by simp only[fr,DY,zM] at h;exact h.1
  have Dk:∀d,gC (fr (.cond c x y)) d=ax->gC (fr y) d=ax:=λd h=>by simp only[fr,DY,zM] at h;exact h.2
  have J:∀(st:aO),a.eval c=.bool ak->Fits st bs u a w->(st.loc=s.loc/\st.n=s.n)->hf C ia x (2*p) bx Q st u->(Code.cond c x y).wp C.P (mz bx s bs u a w (fr (.cond c x y)) Q) a w:=by intro st I FW dw hw;refine wp_cond_true I (yb ?_ (DN _ _ _ st u hw bs a w FW));intro e cO w' ad;exact mz.next (Step.refl Z.sub) ⟨dw.2,by rw[dw.1];exact cA _,λi cs e _=>by rw[dw.1];exact e⟩ (λ_ _=>rfl) (ad.mono ox)
  have ah:∀(st:aO),a.eval c=.bool ax->Fits st bs u a w->(st.loc=s.loc/\st.n=s.n)->hf C ia y (2*p+1) bx Q st u->(Code.cond c x y).wp C.P (mz bx s bs u a w (fr (.cond c x y)) Q) a w:=by intro st I FW dw hw;refine wp_cond_false I (yb ?_ (DO _ _ _ st u hw bs a w FW));intro e cO w' ad;exact mz.next (Step.refl Z.sub) ⟨dw.2,by rw[dw.1];exact cA _,λi cs e _=>by rw[dw.1];exact e⟩ (λ_ _=>rfl) (ad.mono Dk)
  have iE:∀v,s.sv c=some v->∀t,c=.tmp t->(look s.env t).isSome=ak:=λv aA t ht=>by subst ht;simp only[aO.sv] at aA;rw[aA];rfl
  simp only[hf] at h;split at h;rename_i I;exact J s (cU (Z.sv I)).symm Z ⟨rfl,rfl⟩ h;rename_i I;exact ah s (cU (Z.sv I)).symm Z ⟨rfl,rfl⟩ h;rename_i q d I;have fh:=(cU (Z.sv I)).symm;by_cases aN:q;have aS:a.eval c=.bool ak:=by rw[fh];simp[aN]
  obtain⟨h1,h2⟩:=wO (x:=.jZ) Z (by rw[aS];rfl) (iE _ I);exact J _ aS h1 h2 (h.1 aN);have aS:a.eval c=.bool ax:=by rw[fh];simp[aN]
  obtain⟨h1,h2⟩:=wO (x:=.lU) Z (by rw[aS];rfl) (iE _ I);exact ah _ aS h1 h2 (h.2 aN);rename_i q d I;have fh:=(cU (Z.sv I)).symm;by_cases aN:q;have aS:a.eval c=.bool ax:=by rw[fh];simp[aN]
  obtain⟨h1,h2⟩:=wO (x:=.lU) Z (by rw[aS];rfl) (iE _ I);exact ah _ aS h1 h2 (h.2 aN);have aS:a.eval c=.bool ak:=by rw[fh];simp[aN]
  obtain⟨h1,h2⟩:=wO (x:=.jZ) Z (by rw[aS];rfl) (iE _ I);exact J _ aS h1 h2 (h.1 aN);rename_i b I;have fh:=(cU (Z.sv I)).symm;cases b with
  |true=>obtain⟨h1,h2⟩:=wO (x:=.jZ) Z (by rw[fh];rfl) (iE _ I);exact J _ fh h1 h2 (h.1 rfl)
  |false=>obtain⟨h1,h2⟩:=wO (x:=.lU) Z (by rw[fh];rfl) (iE _ I);exact ah _ fh h1 h2 (h.2 rfl)
  exact h.elim
 |block id b aM=>
  intro p bx Q s u h bs a w Z;simp only[hf] at h;refine wp_block (yb ?_ (aM _ _ _ s u h bs a w Z));intro e cO w' ad;obtain⟨al,aq,u',c8,aN,cF,ag,hk,aE⟩:=ad;cases e with
  |exit j=>simp only at aN;simp only[Exit.inBlock];split at aN;rename_i aP;have:=mh aP;subst this;rw[a1 rfl];exact⟨λ_=>rM,aq,u',c8,aN,cF,ag,hk,aE⟩;rename_i aP;rw[aF (λe=>by subst e;rw[Nat.beq_refl] at aP;cases aP)];exact⟨al,aq,u',c8,aN,cF,ag,hk,aE⟩
  |normal=>exact⟨al,aq,u',c8,aN,cF,ag,hk,aE⟩|goto l=>exact⟨al,aq,u',c8,aN,cF,ag,hk,aE⟩|ret=>exact⟨al,aq,u',c8,aN,cF,ag,hk,aE⟩|panic c=>exact aW rfl (al c)|outgrown=>exact⟨al,aq,u',c8,aN,cF,ag,hk,aE⟩
 |scope b aM=>
  intro p bx Q s u h bs a w Z;simp only[hf] at h;refine wp_scope_straight (yb ?_ (aM _ _ _ s u h bs a w Z));intro e cO w' ad;obtain⟨al,aq,u',c8,aN,cF,ag,hk,aE⟩:=ad;cases e with
  |goto l=>exact aN.elim|exit j=>exact⟨al,aq,u',c8,aN,cF,ag,hk,aE⟩|normal=>exact⟨al,aq,u',c8,aN,cF,ag,hk,aE⟩|ret=>exact⟨al,aq,u',c8,aN,cF,ag,hk,aE⟩|panic c=>exact aW rfl (al c)|outgrown=>exact⟨al,aq,u',c8,aN,cF,ag,hk,aE⟩
 |loop b aM=>
  intro p bx Q s u h bs a w Z;simp only[hf] at h;split at h;exact h.elim;rename_i a6 _;split at h;exact h.elim;rename_i EG aji;obtain⟨dp,μ,h0,OB⟩:=h
  let Inv:(M ap×H)->eo->b7->Prop:=λg cO w'=>pB a6.px g.1/\(hS a6.px dp g.1 λr=>r g.2)/\Fits (oU s (fr b) a6 g.1) bs g.2 cO w'/\Step u bs w g.2 bs w'/\
   (∀d,gC (fr b) d=ax->cO.tmps[d]?=a.tmps[d]?)/\Kept (narrow bx s.loc.length a6.boxes) s (oU s (fr b) a6 g.1)
  let m:(M ap×H)->N:=λg=>(Classical.epsilon λn=>hS a6.px μ g.1 λm=>n=m g.2)
  have hm:∀g,pB a6.px g.1->∀f:(H->N)->Prop,hS a6.px μ g.1 f->∃r,f r/\m g=r g.2:=by intro g W f asO;obtain⟨r,O⟩:=ad9 μ W;refine⟨r,(O _).1 asO,?_⟩;have:=Classical.epsilon_spec (p:=λn=>hS a6.px μ g.1 λm=>n=m g.2) ⟨r g.2,(O _).2 rfl⟩;exact(O _).1 this
  have rj:=LN h0;have atl:Kept (narrow bx s.loc.length a6.boxes) s (oU s (fr b) a6 EG):=WI (Kept.refl _ _) aji;refine aAu Inv m ?_ (EG,u) ⟨rj,h0,Z.oU (bx:=bx) Z (Step.refl Z.sub) (Kept.refl _ _) (λ_ _=>rfl) aji,Step.refl Z.sub,λ_ _=>rfl,atl⟩;rintro⟨vs,aU⟩ ac gj ⟨rz,cv,o4,dO,re,jU⟩;have ab:=anV OB rz aU cv;have aBx:(oU s (fr b) a6 vs).loc.length=s.loc.length:=by simp only[oU,Qz]
  refine yb ?_ (aM _ _ _ _ aU ab bs ac gj o4);intro e cO w' ad;obtain⟨al,aq,u',c8,aN,cF,gr,hk,aE⟩:=ad;have o7:Kept (narrow bx s.loc.length a6.boxes) s aq:=jU.trans hk;have o8:Kept bx s aq:=aca rfl o7;have dW:=dO.trans gr;have eQ:∀d,gC (fr b) d=ax->cO.tmps[d]?=a.tmps[d]?:=λd aw=>(aE d aw).trans (re d aw);cases e with
  |normal=>simp only at aN;split at aN;rename_i qZ ajh;have TG:=LN aN;refine⟨(qZ,u'),⟨TG,aAd aN λr O=>?_,Z.oU cF dW o7 eQ ajh,dW.forget,eQ,WI o7 ajh⟩,?_⟩;obtain⟨m1,h1,_⟩:=hm (qZ,u') TG _ O;obtain⟨m0,h2,_⟩:=hm (vs,aU) rz _ h1;exact h2.1;obtain⟨r,O⟩:=ad9 dp TG;obtain⟨m1,h1,aS⟩:=hm (qZ,u') TG _ ((O _).1 aN);obtain⟨m0,h2,e7⟩:=hm (vs,aU) rz _ h1;rw[aS,e7];exact h2.2;exact aN.elim
  |exit id=>exact⟨al,aq,u',c8,aN,cF,dW,o8,eQ⟩|goto l=>exact⟨al,aq,u',c8,aN,cF,dW,o8,eQ⟩|ret=>exact⟨al,aq,u',c8,aN,cF,dW,o8,eQ⟩|panic c=>exact aW rfl (al c)|outgrown=>exact⟨al,aq,u',c8,aN,cF,dW,o8,eQ⟩
def sw(s:aO):M ResultVar->M bg->ay (M ap)
 | [],[]=>some []| .tmp d::rs,.one _::ss=>match(look s.env d).bind fF.val,sw s rs ss with
  |some v,some vs=>some (v::vs)|_,_=>none
 | .cell d _::rs,aD::ss=>match look s.env d,sw s rs ss with
  |some (.loc i off),some vs=>match s.loc[i]? with
   |some cs=>match wm (off+aD.ij.length) cs.length with
    |true=>some ((cs.drop off).take aD.ij.length++vs)|false=>none
   |none=>none
  |_,_=>none
 |_,_=>none
def wE(P:dY):M ResultVar->M bg->aK
 | [],[]=>ak| .tmp _::rs,.one _::ss=>wE P rs ss| .cell _ t::rs,aD::ss=>(match qT P t,aD with
  |some (.one c),.one d=>(match c,d with
   | .int k,.int dT=>zl k dT| .bool,.bool=>ak| .str,.str=>ak| .ptr,.ptr=>ak| .slice,.slice=>ak| .map,.map=>ak| .val,.val=>ak|_,_=>ax)
  |some (.agg c),.agg d=>ju c.length d.length|_,_=>ax) && wE P rs ss
 |_,_=>ax
def apR{t:aL}{v:ap}:CZ (.one t::ss) (v::vs)=v::CZ ss vs:=rfl
def ayb{P:dY}{s:aO}{a:eo}{w:b7}(Z:Fits s bs u a w):∀(rs:M ResultVar) (ss:M bg) (vs:M ap),sw s rs ss=some vs->wE P rs ss=ak->
  (rs.mapM (λ(r:ResultVar)=>match r with
   | .tmp t=>(pure (a.tmps.getD t ih):Sem ap)| .cell x t=>do loadVar t (<-asAddr (a.tmps.getD x ih)))).run P w=zK (CZ ss vs) w:=by
 intro rs
 induction rs with
 |nil=>
  intro ss vs h aa;cases ss with
  |nil=>simp[sw] at h;subst h;rfl|cons=>simp[sw] at h
 |cons r rs aM=>
  intro ss vs h aa;cases r with
  |tmp d=>
   cases ss with
   |nil=>simp[sw] at h|cons aD ss=>
    cases aD with
    |agg=>simp[sw] at h|one t=>
     simp only[sw] at h;split at h;rename_i v qZ aA k1;cases h;have bP:wE P rs ss=ak:=aa;have h1:=aM ss qZ k1 bP;simp only[acD] at aA;obtain⟨x,J,O3⟩:=aA;obtain⟨b8,h2,h3⟩:=Z.env _ (G7 J);simp only at h2 h3;rw[fF.Wc O3 bs] at h2;cases h2;have W:a.tmps.getD d ih=v:=by rw[BT,h3];rfl
     simp only[acC,W,pure_bind,eW,apR];rw[h1];rfl;cases h
  |cell d t=>
   cases ss with
   |nil=>simp[sw] at h|cons aD ss=>
    have O:sw s (.cell d t::rs) (aD::ss)=some vs:=h;simp only[sw] at O;split at O;rename_i i off qZ aw k1;split at O;rename_i cs ar;split at O;rename_i ab;cases O;have ab:=Hx ab;have kv:wE P (.cell d t::rs) (aD::ss)=ak:=aa;simp only[wE,pr] at kv;have h1:=aM ss qZ k1 kv.2;obtain⟨b8,h2,h3⟩:=Z.env _ (G7 aw);simp only at h2 h3;obtain⟨b,T,hU,kJ⟩:=Z.loc i cs ar;simp only[hj,hU,kb] at h2;subst h2;have W:a.tmps.getD d ih=.pointer (some ⟨b,off,none⟩):=by rw[BT,h3];rfl
    have jV:(loadVar t ⟨b,off,none⟩).run P w=.ok (aD.take ((cs.drop off).take aD.ij.length++qZ)).1 w/\(aD.take ((cs.drop off).take aD.ij.length++qZ)).2=qZ:=by
     have a7:=kv.1;cases fo:qT P t with
     |none=>rw[fo] at a7;simp at a7|some QC=>
      rw[fo] at a7;have hlen:QC.ij.length=aD.ij.length:=by cases QC<;>cases aD<;>simp only[bg.ij] at a7 ⊢ <;>first|rfl|(exact mh a7)|cases a7
      have NU:=aj5 (P:=P) (off:=off) kJ QC.ij.length 0 #[] (by rw[hlen];simpa using ab);have nU:=KH fo ⟨b,off,none⟩ (vs:=(cs.drop off).take QC.ij.length) (by simp;rw[hlen];omega) (by simpa using NU) (by
       intro c I;subst I;have gn:aD.ij.length=1:=by rw[<-hlen];rfl
       have bD:off<cs.length:=by omega
       simp only[bg.ij,hX,mi] at hlen ⊢;refine⟨cs[off],?_,?_⟩;rw[wo bD];rfl;simp only[PU,kJ];simp[bD])
      rw[hlen] at nU;have ae:((cs.drop off).take aD.ij.length).length=aD.ij.length:=by simp;omega
      rw[nU];cases QC with
      |one ni=>
       cases aD with
       |agg _=>simp at a7|one c=>
        simp only[bg.ij,hX,mi] at ae ⊢
        match J:(cs.drop off).take 1,ae with
        | [x],_=>exact⟨rfl,rfl⟩
      |agg ni=>
       cases aD with
       |one _=>simp at a7|agg c=>simp only[bg.ij] at ae ⊢;refine⟨?_,?_⟩;simp only[bg.mk,bg.take];rw[P0 (by omega),hR (l:=List.take _ _) (by omega)];simp only[bg.take];rw[acK (by omega),P1 (by omega)];rfl
    have aC:asAddr (.pointer (some ⟨b,off,none⟩))=pure ⟨b,off,none⟩:=rfl;simp only[acC,W,aC,pure_bind,eW,jV.1,jK];rw[h1];simp only[CZ,jV.2];rfl;cases O;cases O;cases O
def RZ(d:ay N)(u:H)(f:H->Prop):Prop:=
 match d with
 |none=>f u|some D=>u D=some (.deferred (some []))/\f (u.ins D (.deferred none))
def C0(rs:M ResultVar)(ss:M bg)(K:hc (gF ss) (H->Prop)):k4->aO->H->Prop
 | .normal,s,u=>match sw s rs ss with
  |some vs=>RZ s.Fg u λu=>hS (gF ss) K vs λr=>r u|none=>eh
 | .ret,s,u=>match sw s rs ss with
  |some vs=>RZ s.Fg u λu=>hS (gF ss) K vs λr=>r u|none=>eh
 |_,_,_=>eh
def Ks:N->M ap->M (N×fF)
 |_,[]=>[]|i,v::vs=>(i,.v v)::Ks (i+1) vs
def avG{i:N}(h:p∈Ks i vs):∃j v,vs[j]?=some v/\p=(i+j,.v v):=by
 induction vs generalizing i with
 |nil=>cases h
 |cons v vs aM=>
  simp only[Ks] at h;cases h with
  |head=>exact⟨0,v,rfl,rfl⟩|tail _ h=>obtain⟨j,b8,h1,h2⟩:=aM h;exact⟨j+1,b8,h1,by rw[h2];congr 1;omega⟩
def agf(fy:Good C){fn:Func}{c:iP}(o5:C.P.funcs[f]?=some fn)(ab:fn.body=some c)(ia:M (N×qi)){env:M (N×fF)}
  (s4:∀p∈env,∃v,args[p.1]?=some v/\hj [] p.2=some v) {ss:M bg} {u:H}
  {K:hc (gF ss) (H->Prop)} (ae:wm args.length fn.ntmps=ak) (O:wE C.P fn.results.toList ss=ak)
  (h:hf C ia c 1 (λ_=>ak) (C0 fn.results.toList ss K) {n:=fn.ntmps,env:=env,loc:=[]} u):io C.P f args.toArray ss u K:=by
 intro w hw
 refine PY.1 (callsIn_of_wp_marks (F:=uV) (n:=0) o5 ab trivial (PZ.2 ?_))
 have hle:=Hx ae
 have Z:Fits {n:=fn.ntmps,env:=env,loc:=[]} [] u {tmps:=args.toArray++D8 (fn.ntmps-args.toArray.size) ih,defers:=[]} w:=by
  refine⟨⟨rfl,by simp;omega,?_⟩,rfl,by simp,by simp,by simp,hw⟩;intro p ad;obtain⟨v,h1,h2⟩:=s4 p ad;refine⟨v,h2,?_⟩;have bD:p.1<args.length:=by rcases kC p.1 args.length with k|k;exact k;rw[iy k] at h1;cases h1
  rw[acL (by simpa using bD)];simpa using h1
 have ag:=aph fy ia c 1 _ _ _ u h [] _ w Z
 refine yb ?_ ag
 intro e cO w' ad
 obtain⟨al,aq,u',c8,aN,cF,dW,_,_⟩:=ad
 have fin:∀vs,sw aq fn.results.toList ss=some vs->(RZ aq.Fg u' λu'=>hS (gF ss) K vs λr=>r u')->
   LeavesInM uV 0 C.P fn cO.tmps (λe w'=>∃v1 aU,e=.returned v1/\(∃vs,pB (gF ss) vs/\v1=xb ss vs/\hS (gF ss) K vs λr=>r aU)/\Step u [] w aU [] w') cO.defers .returning w':=by
  intro vs aA au
  have iN:∀s2 dc IW a2 eA,Fits s2 IW dc a2 eA->a2.tmps=cO.tmps->sw s2 fn.results.toList ss=some vs->(results fn cO.tmps).run C.P eA=.ok (xb ss vs) eA:=by
   intro s2 dc IW a2 eA ie ht xP;have nq:=ayb (P:=C.P) ie fn.results.toList ss vs xP O;rw[<-ht];unfold results;rw[eW];have aS:(fn.results.mapM (λ(r:ResultVar)=>match r with
     | .tmp t=>(pure (a2.tmps.getD t ih):Sem ap)
     | .cell x t=>do loadVar t (<-asAddr (a2.tmps.getD x ih)))).run C.P eA=zK (CZ ss vs).toArray eA:=by
    rw[Array.mapM_eq_mapM_toList,Sem.run_map,nq]
    rfl
   refine(ei (λr=>jL r _) aS).trans ?_;simp only[jK];unfold xb;cases J:CZ ss vs with
   |nil=>rfl|cons v l=>
    cases l with
    |nil=>rfl|cons v2 l=>rfl
  rw[cF.defers]
  unfold RZ at au
  split at au
  rename_i aw
  rw[aw]
  exact⟨_,iN aq u' c8 cO w' cF rfl aA,_,u',rfl,⟨vs,LN au,rfl,au⟩,dW.forget⟩
  rename_i D aw
  rw[aw]
  obtain⟨eN,au⟩:=au
  have agM:=cF.sub _ _ eN
  have uF:=run_takeDeferred (P:=C.P) agM
  have aaC:Step u' c8 w' (u'.ins D (.deferred none)) c8 (w'.putObj D (.deferred none)):=by
   have bD:=cF.sub.lt eN;refine⟨λb x h=>?_,rfl,rfl,rfl,cA _,by simp,λb _ ab _=>?_,λb _ ab=>?_,[],by simp,by simp⟩;unfold H.ins at h;split at h;rename_i nT;subst nT;cases h;exact Hy bD;rename_i nT;rw[ml nT];exact cF.sub b x h;exact ml λe=>by rw[e,eN] at ab;cases ab
   rw[H.bq _ _ λe=>by rw[e,eN] at ab;cases ab];exact ab
  have ie:Fits aq c8 (u'.ins D (.deferred none)) cO (w'.putObj D (.deferred none)):=by refine⟨cF.toFitsE,cF.len,λi cs e=>?_,cF.nodup,λb ab=>?_,aaC.sub⟩;obtain⟨b,T,h1,h2⟩:=cF.loc i cs e;exact⟨b,T,h1,(ml λe=>by rw[e,agM] at h2;cases h2).trans h2⟩;exact⟨aaC.jq b (cF.ch b ab).2 (cF.ch b ab).1,by simpa using(cF.ch b ab).2⟩
  refine⟨by simp,.inl ⟨D,_,rfl,uF,?_⟩⟩
  exact⟨_,iN aq _ c8 cO _ ie rfl aA,_,_,rfl,⟨vs,LN au,rfl,au⟩,(dW.trans aaC).forget⟩
 cases e with
 |normal=>simp only[C0] at aN;split at aN;rename_i vs aA;exact fin vs aA aN;exact aN.elim
 |ret=>simp only[C0] at aN;split at aN;rename_i vs aA;exact fin vs aA aN;exact aN.elim
 |exit id=>exact aN.elim
 |goto l=>exact aN.elim
 |panic c=>exact aW rfl (al c)
 |outgrown=>exact aN.elim
def aqs(fy:Good C){fn:Func}{c:iP}(o5:C.P.funcs[f]?=some fn)(ab:fn.body=some c)(ia:M (N×qi))
  {K:hc (gF ss) (H->Prop)} (ae:wm args.length fn.ntmps=ak) (O:wE C.P fn.results.toList ss=ak)
  (h:hf C ia c 1 (λ_=>ak) (C0 fn.results.toList ss K) {n:=fn.ntmps,env:=Ks 0 args,loc:=[]} u):io C.P f args.toArray ss u K:=
 agf fy o5 ab ia (λp ad=>by obtain⟨j,v,h1,rfl⟩:=avG ad;exact⟨v,by simpa using h1,rfl⟩) ae O h
def O4(zA:N):N->M ap->M (N×fF)
 |_,[]=>[]|i,v::vs=>(i,match zJ i zA with
  |true=>.v v|false=>VO .addr v)::O4 zA (i+1) vs
def avF{zA:N}{i:N}(h:p∈O4 zA i vs):∃j v,vs[j]?=some v/\p.1=i+j/\hj [] p.2=some v:=by
 induction vs generalizing i with
 |nil=>cases h
 |cons v vs aM=>
  simp only[O4] at h;cases h with
  |head=>
   refine⟨0,v,rfl,rfl,?_⟩;cases zJ i zA with
   |true=>rfl|false=>exact amm _ _ _
  |tail _ h=>obtain⟨j,b8,h1,h2,h3⟩:=aM h;exact⟨j+1,b8,h1,by rw[h2];omega,h3⟩
def MN(zA:N)(fy:Good C){fn:Func}(o5:C.P.funcs[f]?=some fn)(ab:fn.body.isSome=ak)(ia:M (N×qi))
  {K:hc (gF ss) (H->Prop)} (ae:wm args.length fn.ntmps=ak) (O:wE C.P fn.results.toList ss=ak)
  (h:hf C ia (fn.body.getD .skip) 1 (λ_=>ak) (C0 fn.results.toList ss K) {n:=fn.ntmps,env:=O4 zA 0 args,loc:=[]} u):io C.P f args.toArray ss u K:=by
 cases I:fn.body with
 |none=>rw[I] at ab;cases ab
 |some c=>rw[I] at h;exact agf fy o5 I ia (λp ad=>by obtain⟨j,v,h1,h2,h3⟩:=avF ad;exact⟨v,by rw[h2];simpa using h1,h3⟩) ae O h
def Fw(fy:Good C){fn:Func}(o5:C.P.funcs[f]?=some fn)(ab:fn.body.isSome=ak)(ia:M (N×qi))
  {K:hc (gF ss) (H->Prop)} (ae:wm args.length fn.ntmps=ak) (O:wE C.P fn.results.toList ss=ak)
  (h:hf C ia (fn.body.getD .skip) 1 (λ_=>ak) (C0 fn.results.toList ss K) {n:=fn.ntmps,env:=Ks 0 args,loc:=[]} u):io C.P f args.toArray ss u K:=by
 cases I:fn.body with
 |none=>rw[I] at ab;cases ab
 |some c=>rw[I] at h;exact aqs fy o5 I ia ae O h
end
end
section
variable{P:dY}{n:N}
def DZ(P:dY)(t:dJ)(l:M ap):ap:=
 match q3 P t with
 |true=>.agg l.toArray|false=>l.headD ih
def C6(P:dY)(k:dJ->ay N):N->M Field->ay N
 |i,[]=>some i|i,f::r=>match f.name != "_",ju f.offset i,k f.type,yn P f.type with
  |true,ak,some w,some w'=>match ju w w' with
   |true=>C6 P k (i+w) r|false=>none
  |_,_,_,_=>none
def yV(P:dY):N->dJ->ay N
 |0,_=>none|d+1,t=>match P.underlying t with
  |some (.int _)=>some 1|some (.struct aY)=>match P.stoodInHeld t with
   |true=>none|false=>C6 P (yV P d) 0 aY.toList
  |_=>none
def R1:ap->ap->aK
 | .int _ a,.int _ b=>decide (a=b)|_,_=>ax
def sO:M ap->M ap->aK
 | [],[]=>ak|x::xs,y::e0=>R1 x y && sO xs e0|_,_=>ax
def tk:M ap->M ap->aK
 | [],[]=>ak| .int k _::xs,.int dT _::e0=>zl k dT && tk xs e0|_,_=>ax
def apV:∀(l m:M ap) (Y:CI),yS l m=some Y->tk l m=ak/\@decide Y.p Y.d=sO l m:=by
 have one:∀x y Y,MF x y=some Y->∃k a b,x=.int k a/\y=.int k b/\@decide Y.p Y.d=decide (a=b):=by intro x y Y h;unfold MF at h;split at h;rename_i k a dT b;split at h;rename_i hk;have:=Pc hk;subst this;cases h;exact⟨_,_,_,rfl,rfl,rfl⟩;cases h;cases h
 intro l;induction l with
 |nil=>
  intro m Y h;cases m with
  |nil=>simp only[yS,kb] at h;subst h;exact⟨rfl,rfl⟩|cons=>simp[yS] at h
 |cons x l aM=>
  intro m Y h;cases m with
  |nil=>cases l<;>simp[yS] at h
  |cons y m=>
   by_cases JU:l=[]/\m=[];obtain⟨rfl,rfl⟩:=JU;simp only[yS] at h;obtain⟨k,a,b,rfl,rfl,aw⟩:=one _ _ _ h;refine⟨by simp[tk,abt],?_⟩;rw[aw];simp[sO,R1]
   .have bQ:(match MF x y,yS l m with
      |some a,some b=>some ⟨a.p/\b.p,@instDecidableAnd a.p b.p a.d b.d⟩
      |_,_=>(none:ay CI))=some Y:=by
     cases l with
     |nil=>cases m with
      |nil=>exact aW ⟨rfl,rfl⟩ JU|cons=>exact h
     |cons=>exact h
    split at bQ
    rename_i a b aE ab
    obtain⟨k,ac,hE,rfl,rfl,aw⟩:=one _ _ _ aE
    obtain⟨h1,h2⟩:=aM m b ab
    cases bQ
    refine⟨by simp[tk,abt,h1],?_⟩
    simp only[sO,R1,<-h2,<-aw]
    obtain⟨anZ,a8⟩:=a
    obtain⟨WU,km⟩:=b
    by_cases aS:anZ<;>by_cases aB:WU<;>simp[aS,aB]
    cases bQ
def axi:∀(n:N) (l m:M ap),tk l m=ak->tk (l.take n) (m.take n)=ak/\tk (l.drop n) (m.drop n)=ak/\sO l m=(sO (l.take n) (m.take n) && sO (l.drop n) (m.drop n)):=by
 intro n;induction n with
 |zero=>intro l m h;exact⟨rfl,h,by simp[sO]⟩
 |succ n aM=>
  intro l m h;cases l with
  |nil=>cases m with
   |nil=>exact⟨rfl,rfl,rfl⟩|cons=>simp[tk] at h
  |cons x l=>cases m with
   |nil=>cases x<;>simp[tk] at h
   |cons y m=>cases x<;>cases y<;>simp only[tk,D6] at h;rw[pr] at h;obtain⟨h1,h2,h3⟩:=aM l m h.2;refine⟨by simp[tk,h.1,h1],h2,?_⟩;simp only[BV,UI,sO,h3,Bool.and_assoc]
def akA{t:dJ}{w:N}{xs:cw ap}{off:N}(ag:yn P t=some w)(hu:(P.underlying t).isSome=ak)(ar:q3 P t=ax->1=w)(ab:off+w<=xs.size)(bd:b7):
  (part t xs off).run P bd=.ok (DZ P t ((xs.toList.drop off).take w)) bd:=by
 obtain⟨d,aw⟩:=KY.1 hu
 unfold yn at ag
 cases hi:P.info? t with
 |none=>rw[hi] at ag;cases ag
 |some i=>
  rw[hi] at ag;cases ag;have cI:(sizeOf t).run P bd=.ok i.size bd:=by simp[sizeOf,run_typeInfo bd hi]
  cases W:q3 P t with
  |true=>
   have:(isAgg t).run P bd=.ok ak bd:=by unfold q3 at W;rw[aw] at W;cases d<;>simp only[D6] at W<;>simp[isAgg,iz aw]
   simp only[part,eW,this,jK,qI,cI,DZ,W];simp only[Sem.run_pure];congr 2;apply Array.toList_inj.1;simp[Array.toList_extract,List.extract_eq_take_drop]
  |false=>
   have h1:1=i.size:=ar W;have bD:off<xs.size:=by have:off+i.size<=xs.size:=ab;omega
   have:(isAgg t).run P bd=.ok ax bd:=by unfold q3 at W;rw[aw] at W;cases d<;>simp only[Bool.true_eq_false] at W<;>simp[isAgg,iz aw]
   simp only[part,eW,this,jK,D6,BU,DZ,W];rw[x8 bD];simp only[Sem.run_pure];congr 1;rw[<-h1,wo (by simpa using bD)];simp
def aqn{d:N}{t:dJ}(h:yV P d t=some n):(P.underlying t).isSome=ak/\(q3 P t=ax->1=n):=by
 cases d with
 |zero=>simp[yV] at h|succ d=>simp only[yV] at h;split at h;rename_i hu;cases h;exact⟨by rw[hu];rfl,λ_=>rfl⟩;rename_i hu;exact⟨by rw[hu];rfl,λe=>by simp[q3,hu] at e⟩;cases h
def ap2(bd:b7):∀(d:N) (t:dJ) (n e:N) (l m:M ap),yV P d t=some n->l.length=n->m.length=n->tk l m=ak->
  (zL (d+e) t (DZ P t l) (DZ P t m)).run P bd=.ok (sO l m) bd:=by
 intro d
 induction d with
 |zero=>intro t n e l m h;simp[yV] at h
 |succ d aM=>
  intro t n e l m h ar hm ad;rw[show d+1+e=(d+e)+1 by omega];simp only[yV] at h;split at h;rename_i k hu;cases h;have W:q3 P t=ax:=by simp[q3,hu]
  match l,m,ar,hm with
  | [x],[y],_,_=>cases x<;>cases y<;>simp only[tk,D6] at ad;rw[pr] at ad;have:=Pc ad.1;subst this;simp only[DZ,W,List.headD_cons];rw[run_equalIn_int bd (d+e) t _ k _ _ hu];simp[sO,R1,BEq.beq]
  .rename_i aY hu;split at h;cases h
   .rename_i ag;have W:q3 P t=ak:=by simp[q3,hu]
    have rc:P.fieldsOf t=aY:=by simp[Program.fieldsOf,hu]
    simp only[DZ,W];rw[run_equalIn_struct bd (d+e) t _ _ (by rw[rc];exact hu) ag,rc];have key:∀(qp:M Field) (i:N),C6 P (yV P d) i qp=some n->i<=n->tk (l.drop i) (m.drop i)=ak->
      (acM (d+e) l.toArray m.toArray qp).run P bd=.ok (sO (l.drop i) (m.drop i)) bd:=by
     intro qp
     induction qp with
     |nil=>intro i hi hle DC;simp only[C6,kb] at hi;subst hi;rw[P1 (by omega),P1 (by omega)];simp[acM,sO]
     |cons f qp avB=>
      intro i hi hle DC;simp only[C6] at hi;split at hi;rename_i w w' ae aa hk cI;split at hi;rename_i aaY;have aaY:=mh aaY;subst aaY;have aa:=mh aa;have al:f.name≠ "_" :=by simpa using ae
      have atF:∀(qp:M Field) (j:N),C6 P (yV P d) j qp=some n->j<=n:=by
       intro qp;induction qp with
       |nil=>intro j aP;simp only[C6,kb] at aP;omega
       |cons g qp avC=>intro j aP;simp only[C6] at aP;split at aP;split at aP;have:=avC _ aP;omega;cases aP;cases aP
      have xA:=atF qp _ hi;obtain⟨Bv,ag8⟩:=aqn hk;have gq:=akA (xs:=l.toArray) (off:=f.offset) cI Bv ag8 (by simp;omega) bd;have eY:=akA (xs:=m.toArray) (off:=f.offset) cI Bv ag8 (by simp;omega) bd;obtain⟨ns,pd,nt⟩:=axi w _ _ DC;have aN:=aM f.type w e ((l.drop i).take w) ((m.drop i).take w) hk (by simp;omega) (by simp;omega) ns;rw[aa] at gq eY;simp only[acM,a1 al,aa,eW,gq,eY,jK,aN];rw[nt];have O:=avB (i+w) hi xA (by rw[<-B0,<-B0];exact pd);rw[<-B0,<-B0] at O;cases sO ((l.drop i).take w) ((m.drop i).take w) with
      |true=>simpa using O|false=>simp
      cases hi;cases hi
    exact key aY.toList 0 h (p2 _) ad
  cases h
def XJ(P:dY)(t n:N):aK:=
 match yV P 10 t with
 |some k=>ju k n && !P.eqGuardType P.depth t && q3 P t|none=>ax
def ap1{t:N}(h:XJ P t n=ak)(xs e0:cw ap)(Y:CI)(h1:xs.toList.length=n)(h2:e0.toList.length=n)(he:yS xs.toList e0.toList=some Y)(x y:jX)(w:b7):
  (eqGuard .eql t x y (.agg xs) (.agg e0)).run P w=.ok () w/\(eqGuard .neq t x y (.agg xs) (.agg e0)).run P w=.ok () w/\
  (Op.equal t (.agg xs) (.agg e0)).run P w=.ok (@decide Y.p Y.d) w:=by
 unfold XJ at h
 split at h
 rename_i k hk
 simp only[pr,La] at h
 obtain⟨⟨ar,W⟩,aE⟩:=h
 have ar:=mh ar
 subst ar
 obtain⟨ad,aw⟩:=apV _ _ _ he
 refine⟨run_eqGuard_agg w .eql t x y xs e0 W,run_eqGuard_agg w .neq t x y xs e0 W,?_⟩
 have:=ap2 w 10 t k 9990 _ _ hk h1 h2 ad
 simp only[DZ,aE] at this
 rw[aw]
 exact this
 cases h
def akq(P:dY):aK:=P.funcs.toList.all λfn=>(fn.name== "runtime.NumGoroutine")==ax
def aw4(h:akq P=ak)(f:kM)(fn:Func)(e:P.funcs[f]?=some fn):(fn.name== "runtime.NumGoroutine")=ax:=by have:=PV.1 h fn (Ht.2 (UD e));simpa using this
def apZ{l:M (N×N)}{t:N}(h:MG l t=some n):(t,n)∈l:=by
 induction l with
 |nil=>cases h
 |cons p r aM=>obtain⟨a,b⟩:=p;simp only[MG] at h;split at h;rename_i e;have:=mh e;subst this;cases h;exact .head _;exact .tail _ (aM h)
def aqB{ik:M (N×N)}(h1:akq P=ak)(h2:P.follows .mixedOrders=ak)(h3:(ik.all λp=>XJ P p.1 p.2)=ak)(exp:M N)(wrap:aK){ou oG:M N}{part:aK}:
  Good {P:=P,exp:=exp,wrap:=wrap,ik:=ik,ou:=ou,oG:=oG,part:=part}:=
 ⟨aw4 h1,h2,λ_ _ h xs e0 Y e3 gg he x y w=>ap1 (PV.1 h3 _ (apZ h)) xs e0 Y e3 gg he x y w⟩
end
section
variable{u u':H}{s:U}{l:M o}{ss:M bg}{x:o}
def ik:M (N×N):=[(66,2),(68,3),(25,4)]
def nR(exp:M N)(wrap:aK){ou oG:M N}{part:aK}:Good {P:=aH,exp:=exp,wrap:=wrap,ik:=ik,ou:=ou,oG:=oG,part:=part}:=aqB (by kernel_rfl) (by kernel_rfl) (by kernel_rfl) exp wrap
abbrev bV:=ay bc
abbrev bm:U:=⟨none,0,0⟩
abbrev vs(s:U):ap:=.slice s.a s.n s.c
abbrev ao(x:o):ap:=.int .i64 x
abbrev bG(x:o):ap:=.int .u64 x
abbrev aZ(x:bV):ap:=.pointer x
abbrev a8(r:bc)(x:o)(k:N):bc:=r.add (x.toNat*k)
abbrev am(n:N):bc:=⟨n,0,none⟩
abbrev bl:M bg:=[.one .slice]
abbrev cv:M bg:=[.one (.int .i64)]
abbrev eM:M bg:=[.one .bool]
abbrev ee:M bg:=[.one .ptr]
abbrev Q:=H->Prop
abbrev bI(f:kM)(a:cw ap)(ss:M bg)(u:H)(K:hc (gF ss) Q):Prop:=io aH f a ss u K
abbrev lt(u:H)(k:Q):Prop:=k u
abbrev bj(m:Sem ap)(ss:M bg)(u:H)(K:hc (gF ss) (H->Prop)):Prop:=dd aH m ss u K
abbrev nM(v:ap)(a:cw ap)(ss:M bg)(u:H)(K:hc (gF ss) (H->Prop)):Prop:=tL aH v a ss u K
abbrev qn(v:ap)(n:String)(a:cw ap)(ss:M bg)(u:H)(K:hc (gF ss) (H->Prop)):Prop:=mX aH v n a ss u K
abbrev bB(s:U)(x:o)(k:bc->Prop):Prop:=∃r,s.a=some r/\((0:o)<=x/\x<(s.n:o))/\k r
abbrev bk(p:bV)(k:bc->Prop):Prop:=∃r,p=some r/\k r
abbrev bn(u:H)(a:bc)(k:o->Prop):Prop:=∃x,u.cell? a=some (ao x)/\k x
abbrev ef(u:H)(a:bc)(k:o->Prop):Prop:=∃x,u.cell? a=some (bG x)/\k x
abbrev bu(u:H)(a:bc)(k:U->Prop):Prop:=∃x:U,u.cell? a=some (vs x)/\k x
abbrev eD(u:H)(a:bc)(k:bV->Prop):Prop:=∃x,u.cell? a=some (aZ x)/\k x
abbrev fe(u:H)(a:bc)(k:ay N->Prop):Prop:=∃x,u.cell? a=some (.map x)/\k x
abbrev DV(u:H)(a:bc)(k:aK->Prop):Prop:=∃x,u.cell? a=some (.bool x)/\k x
abbrev pV(u:H)(a:bc)(k:ap->Prop):Prop:=∃x,u.cell? a=some x/\k x
abbrev aV(c A B:Prop):Prop:=(c->A)/\(¬c->B)
abbrev cK(c A B:Prop):Prop:=(¬c->A)/\(c->B)
abbrev dR(b:aK)(A B:Prop):Prop:=(b=ak->A)/\(b=ax->B)
abbrev eg(u:H)(k:N->Prop):Prop:=∀n,u n=none->k n
abbrev Po(u:H)(f:(H->Prop)->H->Prop):Prop:=∃dp:H->Prop,∃cm:H->N,dp u/\∀v,dp v->f (λw=>dp w/\cm w<cm v) v
abbrev vZ(g:H->Prop)(f:(H->Prop)->Prop):Prop:=∀K:H->Prop,(∀u,g u->K u)->f K
abbrev gB(α:Type)(i0:α)(u:H)(f:(α->H->Prop)->α->H->Prop):Prop:=∃dp:α->H->Prop,∃cm:α->H->N,dp i0 u/\∀bL v,dp bL v->f (λiI w=>dp iI w/\cm iI w<cm bL v) bL v
abbrev gL(α:Type)(g:α->H->Prop)(f:(α->H->Prop)->Prop):Prop:=∀K:α->H->Prop,(∀bL u,g bL u->K bL u)->f K
abbrev ix(α:Type)(β:Type)(i0:α)(i1:β)(u:H)(f:(α->β->H->Prop)->α->β->H->Prop):Prop:=∃dp:α->β->H->Prop,∃cm:α->β->H->N,dp i0 i1 u/\∀bL dC v,dp bL dC v->f (λiI jx w=>dp iI jx w/\cm iI jx w<cm bL dC v) bL dC v
abbrev zk(α:Type)(β:Type)(g:α->β->H->Prop)(f:(α->β->H->Prop)->Prop):Prop:=∀K:α->β->H->Prop,(∀bL dC u,g bL dC u->K bL dC u)->f K
abbrev G8(α:Type)(β:Type)(γ:Type)(i0:α)(i1:β)(i2:γ)(u:H)(f:(α->β->γ->H->Prop)->α->β->γ->H->Prop):Prop:=∃dp:α->β->γ->H->Prop,∃cm:α->β->γ->H->N,dp i0 i1 i2 u/\∀bL dC x2 v,dp bL dC x2 v->f (λiI jx lF w=>dp iI jx lF w/\cm iI jx lF w<cm bL dC x2 v) bL dC x2 v
abbrev ajQ(α:Type)(β:Type)(γ:Type)(g:α->β->γ->H->Prop)(f:(α->β->γ->H->Prop)->Prop):Prop:=∀K:α->β->γ->H->Prop,(∀bL dC x2 u,g bL dC x2 u->K bL dC x2 u)->f K
abbrev BH(α:Type)(β:Type)(γ:Type)(δ:Type)(i0:α)(i1:β)(i2:γ)(i3:δ)(u:H)(f:(α->β->γ->δ->H->Prop)->α->β->γ->δ->H->Prop):Prop:=∃dp:α->β->γ->δ->H->Prop,∃cm:α->β->γ->δ->H->N,dp i0 i1 i2 i3 u/\∀bL dC x2 kh v,dp bL dC x2 kh v->f (λiI jx lF vj w=>dp iI jx lF vj w/\cm iI jx lF vj w<cm bL dC x2 kh v) bL dC x2 kh v
abbrev aCf(α:Type)(β:Type)(γ:Type)(δ:Type)(g:α->β->γ->δ->H->Prop)(f:(α->β->γ->δ->H->Prop)->Prop):Prop:=∀K:α->β->γ->δ->H->Prop,(∀bL dC x2 kh u,g bL dC x2 kh u->K bL dC x2 kh u)->f K
abbrev aj7(α:Type)(β:Type)(γ:Type)(δ:Type)(ε:Type)(i0:α)(i1:β)(i2:γ)(i3:δ)(i4:ε)(u:H)(f:(α->β->γ->δ->ε->H->Prop)->α->β->γ->δ->ε->H->Prop):Prop:=∃dp:α->β->γ->δ->ε->H->Prop,∃cm:α->β->γ->δ->ε->H->N,dp i0 i1 i2 i3 i4 u/\∀bL dC x2 kh oi v,dp bL dC x2 kh oi v->f (λiI jx lF vj yA w=>dp iI jx lF vj yA w/\cm iI jx lF vj yA w<cm bL dC x2 kh oi v) bL dC x2 kh oi v
abbrev awg(α:Type)(β:Type)(γ:Type)(δ:Type)(ε:Type)(ζ:Type)(i0:α)(i1:β)(i2:γ)(i3:δ)(i4:ε)(i5:ζ)(u:H)(f:(α->β->γ->δ->ε->ζ->H->Prop)->α->β->γ->δ->ε->ζ->H->Prop):Prop:=∃dp:α->β->γ->δ->ε->ζ->H->Prop,∃cm:α->β->γ->δ->ε->ζ->H->N,dp i0 i1 i2 i3 i4 i5 u/\∀bL dC x2 kh oi tK v,dp bL dC x2 kh oi tK v->f (λiI jx lF vj yA EH w=>dp iI jx lF vj yA EH w/\cm iI jx lF vj yA EH w<cm bL dC x2 kh oi tK v) bL dC x2 kh oi tK v
abbrev awh(α:Type)(β:Type)(γ:Type)(δ:Type)(ε:Type)(ζ:Type)(η:Type)(i0:α)(i1:β)(i2:γ)(i3:δ)(i4:ε)(i5:ζ)(i6:η)(u:H)(f:(α->β->γ->δ->ε->ζ->η->H->Prop)->α->β->γ->δ->ε->ζ->η->H->Prop):Prop:=∃dp:α->β->γ->δ->ε->ζ->η->H->Prop,∃cm:α->β->γ->δ->ε->ζ->η->H->N,dp i0 i1 i2 i3 i4 i5 i6 u/\∀bL dC x2 kh oi tK LU v,dp bL dC x2 kh oi tK LU v->f (λiI jx lF vj yA EH anf w=>dp iI jx lF vj yA EH anf w/\cm iI jx lF vj yA EH anf w<cm bL dC x2 kh oi tK LU v) bL dC x2 kh oi tK LU v
def aY(e:M N){args:M ap}{f:kM}{fn:Func}(Z:aH.funcs[f]?=some fn)(ia:M (N×qi)){K:hc (gF ss) (H->Prop)}{P:Prop}(h:P)(ab:fn.body.isSome=ak:=by kernel_rfl)(ae:wm args.length fn.ntmps=ak:=by kernel_rfl)(O:wE aH fn.results.toList ss=ak:=by kernel_rfl)(ee:P=hf {P:=aH,exp:=e,wrap:=ax,ik:=ik,ou:=[],oG:=[]} ia (fn.body.getD .skip) 1 (λ_=>ak) (C0 fn.results.toList ss K) {n:=fn.ntmps,env:=Ks 0 args,loc:=[]} u:=by kernel_rfl):io aH f args.toArray ss u K:=Fw (nR _ _) Z ab ia ae O (p3 ee h)
abbrev b2:aL:=.int .i64
abbrev a6(n:N)(l:M (N×aL)):N×qi:=(n,⟨l,[]⟩)
def ov(zA:N)(e:M N){args:M ap}{f:kM}{fn:Func}(Z:aH.funcs[f]?=some fn)(ia:M (N×qi)){K:hc (gF ss) (H->Prop)}{P:Prop}(h:P)(ab:fn.body.isSome=ak:=by kernel_rfl)(ae:wm args.length fn.ntmps=ak:=by kernel_rfl)(O:wE aH fn.results.toList ss=ak:=by kernel_rfl)(ee:P=hf {P:=aH,exp:=e,wrap:=ax,ik:=ik,ou:=[],oG:=[]} ia (fn.body.getD .skip) 1 (λ_=>ak) (C0 fn.results.toList ss K) {n:=fn.ntmps,env:=O4 zA 0 args,loc:=[]} u:=by kernel_rfl):io aH f args.toArray ss u K:=MN zA (nR _ _) Z ab ia ae O (p3 ee h)
def C.VV(a0:U)(ci cy hT oo oq Au Av Aw Ax Ay:o)(a3 a4:U)(a5:o)(u:H)(K:aK->Q):=bI 3 #[vs a0,c3 #[ao ci,ao cy,ao hT,ao oo,bG oq],c3 #[ao Au,ao Av,ao Aw,ao Ax,bG Ay],vs a3,vs a4,ao a5] eM u K
def C.VY(a0:U)(ci cy hT oo oq:o)(a2 a3:U)(a4:o)(u:H)(K:aK->Q):=bI 5 #[vs a0,c3 #[ao ci,ao cy,ao hT,ao oo,bG oq],vs a2,vs a3,ao a4] eM u K
def C.VW(a0:U)(ci cy hT oo oq:o)(a2 a3:U)(a4:o)(u:H)(K:aK->Q):=bI 6 #[vs a0,c3 #[ao ci,ao cy,ao hT,ao oo,bG oq],vs a2,vs a3,ao a4] eM u K
def C.VX(a0:U)(ci cy hT oo oq:o)(a2:U)(a3 a4 EX:o)(Mc:U)(u:H)(K:aK->Q):=bI 7 #[vs a0,c3 #[ao ci,ao cy,ao hT,ao oo,bG oq],vs a2,ao a3,ao a4,c3 #[ao EX,vs Mc]] eM u K
def C.vf(a0 ac:U)(u:H)(K:aK->Q):=bI 11 #[vs a0,vs ac] eM u K
def C.yq(a0:U)(ac Au Av Aw Ax Ay:o)(u:H)(K:bV->o->Q):=bI 12 #[vs a0,ao ac,c3 #[ao Au,ao Av,ao Aw,ao Ax,bG Ay]] [bg.one aL.ptr,bg.one (aL.int cq)] u K
def C.im(u:H)(K:aK->Q):=bI 13 #[] eM u K
def C.vg(a0:bV)(ac:U)(u:H)(K:Q):=bI 14 #[aZ a0,vs ac] [] u K
def C.rX(a0:bV)(ac:U)(a2 a3:o)(u:H)(K:U->U->U->o->Q):=bI 15 #[aZ a0,vs ac,ao a2,ao a3] [bg.agg [aL.slice,aL.slice,aL.slice],bg.one (aL.int cq)] u K
def C.wP(a0 ac:U)(u:H)(K:aK->Q):=bI 16 #[vs a0,vs ac] eM u K
def C.rW(a0:bV)(u:H)(K:o->Q):=bI 17 #[aZ a0] cv u K
def C.xd(a0 ac:U)(a2:o)(u:H)(K:U->o->Q):=bI 22 #[vs a0,vs ac,ao a2] [bg.one aL.slice,bg.one (aL.int cq)] u K
def C.AA(a0:bV)(u:H)(K:U->Q):=bI 23 #[aZ a0] bl u K
def C.vp(a0:bV)(ci:o)(cy:U)(u:H)(K:aK->o->Q):=bI 24 #[aZ a0,c3 #[ao ci,vs cy]] [bg.one aL.bool,bg.one (aL.int cq)] u K
def C.Ip(a0 ac:U)(u:H)(K:aK->Q):=bI 25 #[vs a0,vs ac] eM u K
def C.E0(a0:bV)(ac:o)(u:H)(K:aK->o->Q):=bI 26 #[aZ a0,ao ac] [bg.one aL.bool,bg.one (aL.int cq)] u K
def C.QP(a0:U)(ac:o)(u:H)(K:o->Q):=bI 33 #[vs a0,ao ac] cv u K
def C.E1(cc cp eU ii ac:o)(a2:U)(a3:o)(u:H)(K:bV->o->Q):=bI 34 #[c3 #[ao cc,ao cp,ao eU,ao ii],ao ac,vs a2,bG a3] [bg.one aL.ptr,bg.one (aL.int cq)] u K
def C.Iq(u:H)(K:U->Q):=bI 35 #[] bl u K
def C.AM(a0 ac:U)(u:H)(K:o->Q):=bI 43 #[vs a0,vs ac] cv u K
def C.sy(a0:o)(u:H)(K:bV->o->Q):=bI 44 #[ao a0] [bg.one aL.ptr,bg.one (aL.int cq)] u K
def C.R7(a0 ac:U)(u:H)(K:ap->Q):=bI 45 #[vs a0,vs ac] [bg.one aL.val] u K
def C.qW(a0:bV)(ci cy hT:o)(u:H)(K:aK->Q):=bI 46 #[aZ a0,c3 #[ao ci,bG cy,bG hT]] eM u K
def C.qV(a0:bV)(u:H)(K:U->Q):=bI 47 #[aZ a0] bl u K
def C.Io(a0 ac:U)(u:H)(K:aK->Q):=bI 48 #[vs a0,vs ac] eM u K
def C.IB(cc:o)(cp eU:U)(ii nh:o)(oT:U)(ac:o)(u:H)(K:o->Q):=bI 52 #[c3 #[ao cc,vs cp,vs eU,bG ii,bG nh,vs oT],ao ac] cv u K
def C.vi(cc:o)(cp eU:U)(ii nh:o)(oT ac:U)(u:H)(K:o->o->o->Q):=bI 55 #[c3 #[ao cc,vs cp,vs eU,bG ii,bG nh,vs oT],vs ac] [bg.agg [aL.int bR,aL.int bR],bg.one (aL.int cq)] u K
def C.mr(cc cp ci cy:o)(u:H)(K:o->Q):=bI 56 #[c3 #[bG cc,bG cp],c3 #[bG ci,bG cy]] cv u K
def C.Ft(cc cp eU ii:o)(u:H)(K:o->Q):=bI 57 #[c3 #[ao cc,ao cp,ao eU,ao ii]] cv u K
def C.qt(a0:U)(ac:o)(u:H)(K:o->Q):=bI 58 #[vs a0,ao ac] cv u K
def C.Pd(a0:U)(ac a2:o)(u:H)(K:bV->o->Q):=bI 59 #[vs a0,ao ac,ao a2] [bg.one aL.ptr,bg.one (aL.int cq)] u K
def C.Q9(a0:U)(ac a2 a3:o)(u:H)(K:bV->o->Q):=bI 60 #[vs a0,ao ac,ao a2,bG a3] [bg.one aL.ptr,bg.one (aL.int cq)] u K
def C.O5(a0:U)(ac a2 a3 a4:o)(u:H)(K:bV->o->Q):=bI 61 #[vs a0,ao ac,ao a2,ao a3,bG a4] [bg.one aL.ptr,bg.one (aL.int cq)] u K
def C.Bd(a0:U)(ac a2 a3:o)(u:H)(K:bV->o->Q):=bI 62 #[vs a0,ao ac,ao a2,bG a3] [bg.one aL.ptr,bg.one (aL.int cq)] u K
def C.kV(a0:U)(u:H)(K:U->Q):=bI 63 #[vs a0] bl u K
def C.Hr(a0:U)(ac a2 a3 a4 a5:o)(u:H)(K:bV->o->Q):=bI 64 #[vs a0,ao ac,ao a2,ao a3,ao a4,bG a5] [bg.one aL.ptr,bg.one (aL.int cq)] u K
def C.iA(a0:U)(ac:o)(u:H)(K:o->Q):=bI 74 #[vs a0,ao ac] cv u K
def C.XN(a0:ap)(ac a2:bc)(u:H)(K:Q):=bI 75 #[a0,aZ (some ac),aZ (some a2)] [] u K
def C.lD(a0 ac:U)(u:H)(K:o->o->o->Q):=bI 76 #[vs a0,vs ac] [bg.agg [aL.int bR,aL.int bR],bg.one (aL.int cq)] u K
def C.r7(a0 ac:ap)(u:H)(K:Q):=bI 77 #[a0,ac] [] u K
def C.qX(cc cp eU ci cy hT:o)(u:H)(K:aK->Q):=bI 78 #[c3 #[ao cc,bG cp,bG eU],c3 #[ao ci,bG cy,bG hT]] eM u K
def C.FQ(a0:ap)(ac:o)(u:H)(K:Q):=bI 79 #[a0,ao ac] [] u K
def C.H8(a0:U)(u:H)(K:U->Q):=bI 80 #[vs a0] bl u K
def C.LD(a0:U)(ac:ap)(u:H)(K:Q):=bI 81 #[vs a0,ac] [] u K
def C.Ey(cc cp eU ci cy hT:o)(u:H)(K:o->Q):=bI 82 #[c3 #[ao cc,bG cp,bG eU],c3 #[ao ci,bG cy,bG hT]] cv u K
def C.yw(a0:o)(u:H)(K:aK->Q):=bI 90 #[ao a0] eM u K
def C.IC(cc:o)(cp eU:U)(ii nh:o)(oT ac:U)(u:H)(K:o->Q):=bI 91 #[c3 #[ao cc,vs cp,vs eU,bG ii,bG nh,vs oT],vs ac] cv u K
def C.yx(a0 ac:U)(u:H)(K:o->o->Q):=bI 93 #[vs a0,vs ac] [bg.agg [aL.int bR,aL.int bR]] u K
def C.Cu(cc cp ac a2:o)(u:H)(K:o->o->Q):=bI 94 #[c3 #[bG cc,bG cp],ao ac,ao a2] [bg.agg [aL.int bR,aL.int bR]] u K
def C.Cz(cc cp:o)(u:H)(K:o->Q):=bI 95 #[c3 #[bG cc,bG cp]] [bg.one (aL.int bR)] u K
def C.tJ(a0 ac:o)(u:H)(K:o->o->Q):=bI 96 #[bG a0,bG ac] [bg.agg [aL.int bR,aL.int bR]] u K
def C.DT(a0:bV)(ac:U)(u:H)(K:bV->Q):=bI 97 #[aZ a0,vs ac] ee u K
def C.Ef(a0:o)(u:H)(K:bV->Q):=bI 98 #[bG a0] ee u K
def C.EF(a0:bV)(ac:U)(u:H)(K:bV->Q):=bI 99 #[aZ a0,vs ac] ee u K
def C.BD(a0:U)(ac a2 a3:o)(u:H)(K:U->o->Q):=bI 100 #[vs a0,ao ac,ao a2,bG a3] [bg.one aL.slice,bg.one (aL.int cq)] u K
def C.GS(a0:bV)(ci:o)(cy:U)(u:H)(K:Q):=bI 101 #[aZ a0,c3 #[ao ci,vs cy]] [] u K
def C.vP(a0:bV)(ci:o)(cy:U)(u:H)(K:Q):=bI 102 #[aZ a0,c3 #[ao ci,vs cy]] [] u K
def C.iH(a0:U)(u:H)(K:U->Q):=bI 103 #[vs a0] bl u K
def C.VC(a0:U)(ac:ap)(u:H)(K:Q):=bI 104 #[vs a0,ac] [] u K
def C.XL(cc:o)(cp:U)(ci:o)(cy:U)(u:H)(K:o->Q):=bI 105 #[c3 #[ao cc,vs cp],c3 #[ao ci,vs cy]] cv u K
def C.Uu(a0:o)(ac a2 a3 a4 a5:bc)(u:H)(K:U->Q):=bI 106 #[ao a0,aZ (some ac),aZ (some a2),aZ (some a3),aZ (some a4),aZ (some a5)] bl u K
def C.x5(a0:U)(ac a2:o)(u:H)(K:U->Q):=bI 107 #[vs a0,ao ac,ao a2] bl u K
def C.xr(a0:ap)(ac:o)(u:H)(K:Q):=bI 112 #[a0,ao ac] [] u K
def C.xq(a0:ap)(ac a2:o)(u:H)(K:aK->Q):=bI 113 #[a0,ao ac,ao a2] eM u K
def C.E7(a0:U)(u:H)(K:o->Q):=bI 116 #[vs a0] cv u K
def C.E6(a0 ac:o)(u:H)(K:o->Q):=bI 117 #[ao a0,ao ac] cv u K
def C.Cy(cc cp ci cy:o)(u:H)(K:o->o->o->Q):=bI 120 #[c3 #[bG cc,bG cp],c3 #[bG ci,bG cy]] [bg.agg [aL.int bR,aL.int bR],bg.one (aL.int cq)] u K
def C.E2(a0 ac:o)(u:H)(K:o->o->Q):=bI 121 #[bG a0,bG ac] [bg.one (aL.int bR),bg.one (aL.int bR)] u K
def C.Pe(a0:U)(ac a2:bc)(u:H)(K:bV->Q):=bI 122 #[vs a0,aZ (some ac),aZ (some a2)] ee u K
def C.Cs(a0:U)(ac:o)(u:H)(K:o->U->U->o->o->U->o->Q):=bI 123 #[vs a0,ao ac] [bg.agg [aL.int cq,aL.slice,aL.slice,aL.int bR,aL.int bR,aL.slice],bg.one (aL.int cq)] u K
def C.Cf(a0:U)(ac:ap)(u:H)(K:Q):=bI 124 #[vs a0,ac] [] u K
def C.abz(cc:o)(cp:U)(ci:o)(cy:U)(a2:bc)(u:H)(K:o->Q):=bI 125 #[c3 #[ao cc,vs cp],c3 #[ao ci,vs cy],aZ (some a2)] cv u K
def C.kO(a0:U)(u:H)(K:U->Q):=bI 126 #[vs a0] bl u K
def C.Ra(a0:U)(ac a2:bc)(u:H)(K:bV->Q):=bI 127 #[vs a0,aZ (some ac),aZ (some a2)] ee u K
def C.Qm(a0:bV)(ac:o)(u:H)(K:o->o->Q):=bI 128 #[aZ a0,ao ac] [bg.one (aL.int cq),bg.one (aL.int cq)] u K
def C.Cr(a0 ac:U)(u:H)(K:o->U->U->o->o->U->o->Q):=bI 129 #[vs a0,vs ac] [bg.agg [aL.int cq,aL.slice,aL.slice,aL.int bR,aL.int bR,aL.slice],bg.one (aL.int cq)] u K
def C.aef(cc:o)(cp:U)(ac:bc)(u:H)(K:o->o->Q):=bI 130 #[c3 #[ao cc,vs cp],aZ (some ac)] [bg.agg [aL.int bR,aL.int bR]] u K
def C.aeg(cc:o)(cp:U)(ci:o)(cy:U)(a2:bc)(u:H)(K:o->Q):=bI 131 #[c3 #[ao cc,vs cp],c3 #[ao ci,vs cy],aZ (some a2)] cv u K
def C.zn(a0:U)(ac:o)(u:H)(K:o->Q):=bI 132 #[vs a0,ao ac] cv u K
def C.Qn(a0:bV)(ac:o)(u:H)(K:U->o->Q):=bI 133 #[aZ a0,ao ac] [bg.one aL.slice,bg.one (aL.int cq)] u K
def C.T4(a0 ac a2 a3:bc)(u:H)(K:Q):=bI 134 #[aZ (some a0),aZ (some ac),aZ (some a2),aZ (some a3)] [] u K
def C.zo(a0 ac:U)(u:H)(K:o->o->o->Q):=bI 135 #[vs a0,vs ac] [bg.one (aL.int cq),bg.agg [aL.int bR,aL.int bR]] u K
def C.GX(a0 ac:o)(u:H)(K:o->Q):=bI 136 #[ao a0,ao ac] cv u K
def C.th(a0 ac:U)(u:H)(K:o->o->o->o->Q):=bI 137 #[vs a0,vs ac] [bg.one (aL.int cq),bg.agg [aL.int bR,aL.int bR],bg.one (aL.int cq)] u K
def C.HV(a0:bV)(ac:o)(u:H)(K:o->o->Q):=bI 138 #[aZ a0,ao ac] [bg.one (aL.int cq),bg.one (aL.int cq)] u K
def C.zf(a0:bV)(ac:o)(a2:U)(a3:o)(a4:ap)(u:H)(K:Q):=bI 139 #[aZ a0,ao ac,vs a2,ao a3,a4] [] u K
def C.Bg(a0:bV)(ac:U)(a2:o)(u:H)(K:o->Q):=bI 140 #[aZ a0,vs ac,ao a2] cv u K
def C.ZT(cc cp eU:o)(ac a2 a3:bc)(u:H)(K:aK->Q):=bI 141 #[c3 #[ao cc,bG cp,bG eU],aZ (some ac),aZ (some a2),aZ (some a3)] eM u K
def C.Be(a0:bV)(ac a2 a3:o)(u:H)(K:Q):=bI 142 #[aZ a0,ao ac,ao a2,ao a3] [] u K
def C.I2(a0:o)(u:H)(K:aK->Q):=bI 160 #[ao a0] eM u K
def C.Ct(a0:U)(ac:o)(u:H)(K:U->o->Q):=bI 163 #[vs a0,ao ac] [bg.one aL.slice,bg.one (aL.int cq)] u K
def C.VD(a0:U)(ac:o)(a2:ap)(u:H)(K:Q):=bI 164 #[vs a0,ao ac,a2] [] u K
def C.Eg(a0:bV)(ac a2 a3:o)(u:H)(K:o->Q):=bI 165 #[aZ a0,ao ac,ao a2,ao a3] cv u K
def C.yj(a0:bV)(u:H)(K:o->Q):=bI 166 #[aZ a0] [bg.one (aL.int bR)] u K
def C.Vb(a0:bV)(ac:o)(u:H)(K:ap->Q):=bI 167 #[aZ a0,ao ac] [bg.one aL.val] u K
def C.DU(a0:U)(u:H)(K:o->Q):=bI 168 #[vs a0] cv u K
def C.bits_TrailingZeros64(a0:o)(u:H)(K:o->Q):=bI 169 #[bG a0] cv u K
def C.pQ(a0:bV)(ac:o)(a2:U)(u:H)(K:o->o->o->Q):=bI 170 #[aZ a0,ao ac,vs a2] [bg.agg [aL.int cq,aL.int bR,aL.int bR]] u K
def C.Od(a0:U)(u:H)(K:o->Q):=bI 171 #[vs a0] cv u K
def C.vH(a0:ap)(u:H)(K:ap->Q):=bI 172 #[a0] [bg.one aL.val] u K
def C.Gl(a0:bV)(ac:o)(a2:U)(a3:o)(u:H)(K:o->Q):=bI 173 #[aZ a0,ao ac,vs a2,ao a3] cv u K
def C.Bf(a0:bV)(ac:o)(u:H)(K:o->Q):=bI 174 #[aZ a0,ao ac] cv u K
def C.VB(a0:U)(ac:ap)(u:H)(K:Q):=bI 175 #[vs a0,ac] [] u K
def C.J1(a0 ac:o)(a2 a3:bc)(u:H)(K:o->Q):=bI 176 #[ao a0,ao ac,aZ (some a2),aZ (some a3)] cv u K
def C.LF(a0:U)(ac a2:o)(a3:ap)(u:H)(K:Q):=bI 177 #[vs a0,ao ac,ao a2,a3] [] u K
def C.rQ(a0:U)(u:H)(K:Q):=bI 193 #[vs a0] [] u K
def C.Es(a0:U)(ac a2 a3:o)(a4:ap)(u:H)(K:Q):=bI 194 #[vs a0,ao ac,ao a2,ao a3,a4] [] u K
def C.ac9(a0:ap)(ac a2:bc)(u:H)(K:Q):=bI 195 #[a0,aZ (some ac),aZ (some a2)] [] u K
def C.QI(a0:U)(ac a2 a3:o)(a4:ap)(u:H)(K:Q):=bI 204 #[vs a0,ao ac,ao a2,ao a3,a4] [] u K
def C.Ii(a0:U)(ac a2 a3:o)(a4:ap)(u:H)(K:Q):=bI 223 #[vs a0,ao ac,ao a2,ao a3,a4] [] u K
def C.QS(a0:bV)(u:H)(K:aK->Q):=bI 249 #[aZ a0] eM u K
def C.Ir(a0:bV)(u:H)(K:o->Q):=bI 250 #[aZ a0] cv u K
def C.KA(a0:bV)(ac:o)(u:H)(K:aK->o->Q):=bI 251 #[aZ a0,ao ac] [bg.one aL.bool,bg.one (aL.int cq)] u K
def C.TZ(a0:bV)(u:H)(K:o->Q):=bI 252 #[aZ a0] cv u K
def C.T0(a0:bV)(ci:o)(cy:U)(u:H)(K:aK->o->Q):=bI 253 #[aZ a0,c3 #[ao ci,vs cy]] [bg.one aL.bool,bg.one (aL.int cq)] u K
def C.T1(a0:bV)(u:H)(K:U->Q):=bI 254 #[aZ a0] bl u K
def C.T2(a0:bV)(ac:U)(a2 a3:o)(u:H)(K:U->U->U->o->Q):=bI 255 #[aZ a0,vs ac,ao a2,ao a3] [bg.agg [aL.slice,aL.slice,aL.slice],bg.one (aL.int cq)] u K
def C.TY(a0:bV)(ac a2:bc)(u:H)(K:Q):=bI 256 #[aZ a0,aZ (some ac),aZ (some a2)] [] u K
def C.Cd(a0:U)(ac:ap)(u:H)(K:U->Q):=bI 257 #[vs a0,ac] bl u K
def C.abx(cc:o)(cp:U)(ac:bc)(u:H)(K:aK->Q):=bI 258 #[c3 #[ao cc,vs cp],aZ (some ac)] eM u K
def C.q9(cc:o)(cp:U)(ac:o)(a2:aK)(a3:o)(u:H)(K:o->Q):=bI 259 #[c3 #[ao cc,vs cp],ao ac,mP a2,ao a3] cv u K
def C.qq(a0:U)(ac a2 a3:o)(u:H)(K:o->Q):=bI 260 #[vs a0,ao ac,ao a2,ao a3] cv u K
def C.aby(a0:bV)(ac:bc)(u:H)(K:Q):=bI 261 #[aZ a0,aZ (some ac)] [] u K
def C.abA(a0:bV)(ac a2:U)(a3 a4:o)(u:H)(K:U->U->U->Q):=bI 262 #[aZ a0,vs ac,vs a2,ao a3,ao a4] [bg.agg [aL.slice,aL.slice,aL.slice]] u K
def C.Ce(a0:U)(ac:ap)(u:H)(K:o->Q):=bI 263 #[vs a0,ac] cv u K
def C.ua(a0 ac:U)(a2 a3:o)(u:H)(K:U->U->U->Q):=bI 264 #[vs a0,vs ac,ao a2,ao a3] [bg.agg [aL.slice,aL.slice,aL.slice]] u K
def C.Fu(a0:bV)(ac a2:bc)(u:H)(K:Q):=bI 265 #[aZ a0,aZ (some ac),aZ (some a2)] [] u K
def C.Fv(cc cp:o)(ac:bc)(u:H)(K:aK->Q):=bI 266 #[c3 #[bG cc,bG cp],aZ (some ac)] eM u K
def C.VZ(a0:bV)(u:H)(K:o->o->o->aK->Q):=bI 267 #[aZ a0] [bg.agg [aL.int cq,aL.int bR,aL.int bR],bg.one aL.bool] u K
def C.MM(a0:U)(u:H)(K:o->Q):=bI 268 #[vs a0] cv u K
def C.AN(cc:o)(cp eU:U)(ii nh:o)(oT ac:U)(u:H)(K:o->U->U->o->o->U->Q):=bI 269 #[c3 #[ao cc,vs cp,vs eU,bG ii,bG nh,vs oT],vs ac] [bg.agg [aL.int cq,aL.slice,aL.slice,aL.int bR,aL.int bR,aL.slice]] u K
def C.C7(a0:bV)(u:H)(K:U->Q):=bI 270 #[aZ a0] bl u K
def C.LP(a0:bV)(ac:o)(u:H)(K:aK->o->Q):=bI 271 #[aZ a0,ao ac] [bg.one aL.bool,bg.one (aL.int cq)] u K
def C.Wg(a0:bV)(u:H)(K:o->Q):=bI 272 #[aZ a0] cv u K
def C.Wh(a0:bV)(ci:o)(cy:U)(u:H)(K:aK->o->Q):=bI 273 #[aZ a0,c3 #[ao ci,vs cy]] [bg.one aL.bool,bg.one (aL.int cq)] u K
def C.Wi(a0:bV)(u:H)(K:U->Q):=bI 274 #[aZ a0] bl u K
def C.Wj(a0:bV)(ac:U)(a2 a3:o)(u:H)(K:U->U->U->o->Q):=bI 275 #[aZ a0,vs ac,ao a2,ao a3] [bg.agg [aL.slice,aL.slice,aL.slice],bg.one (aL.int cq)] u K
def C.Wf(a0:bV)(ac a2:bc)(u:H)(K:Q):=bI 276 #[aZ a0,aZ (some ac),aZ (some a2)] [] u K
def C.aee(cc:o)(cp:U)(ac:bc)(u:H)(K:aK->Q):=bI 277 #[c3 #[ao cc,vs cp],aZ (some ac)] eM u K
def C.Rb(a0:bV)(ac:U)(u:H)(K:o->o->Q):=bI 278 #[aZ a0,vs ac] [bg.agg [aL.int bR,aL.int bR]] u K
def C.O6(a0:bV)(ac:o)(u:H)(K:aK->o->Q):=bI 279 #[aZ a0,ao ac] [bg.one aL.bool,bg.one (aL.int cq)] u K
def C.TQ(a0:bV)(u:H)(K:o->Q):=bI 280 #[aZ a0] cv u K
def C.TR(a0:bV)(ci:o)(cy:U)(u:H)(K:aK->o->Q):=bI 281 #[aZ a0,c3 #[ao ci,vs cy]] [bg.one aL.bool,bg.one (aL.int cq)] u K
def C.TS(a0:bV)(u:H)(K:U->Q):=bI 282 #[aZ a0] bl u K
def C.TT(a0:bV)(ac:U)(a2 a3:o)(u:H)(K:U->U->U->o->Q):=bI 283 #[aZ a0,vs ac,ao a2,ao a3] [bg.agg [aL.slice,aL.slice,aL.slice],bg.one (aL.int cq)] u K
def C.abj(cc:o)(cp:U)(ac:bc)(u:H)(K:aK->Q):=bI 284 #[c3 #[ao cc,vs cp],aZ (some ac)] eM u K
def C.Ia(a0:U)(u:H)(K:U->Q):=bI 285 #[vs a0] bl u K
def C.Ie(a0:U)(ac:o)(u:H)(K:U->Q):=bI 286 #[vs a0,ao ac] bl u K
def C.xG(a0:bV)(ac:o)(u:H)(K:aK->o->Q):=bI 287 #[aZ a0,ao ac] [bg.one aL.bool,bg.one (aL.int cq)] u K
def C.Dw(a0:bV)(u:H)(K:o->Q):=bI 288 #[aZ a0] cv u K
def C.xH(a0:bV)(ci:o)(cy:U)(u:H)(K:aK->o->Q):=bI 289 #[aZ a0,c3 #[ao ci,vs cy]] [bg.one aL.bool,bg.one (aL.int cq)] u K
def C.Dx(a0:bV)(u:H)(K:U->Q):=bI 290 #[aZ a0] bl u K
def C.Dy(a0:bV)(ac:U)(a2 a3:o)(u:H)(K:U->U->U->o->Q):=bI 291 #[aZ a0,vs ac,ao a2,ao a3] [bg.agg [aL.slice,aL.slice,aL.slice],bg.one (aL.int cq)] u K
def C.Ic(a0:U)(ac:ap)(u:H)(K:U->Q):=bI 292 #[vs a0,ac] bl u K
def C.ZR(a0:o)(ac:bc)(u:H)(K:aK->Q):=bI 293 #[ao a0,aZ (some ac)] eM u K
def C.Ib(a0:U)(ac:o)(u:H)(K:aK->Q):=bI 294 #[vs a0,ao ac] eM u K
def C.qa(a0:ap)(u:H)(K:U->Q):=bI 295 #[a0] bl u K
def C.KK(a0:ay N)(u:H)(K:ap->Q):=bI 296 #[dP a0] [bg.one aL.val] u K
def C.ZS(cc cp eU:o)(ac a2 a3:bc)(u:H)(K:aK->Q):=bI 297 #[c3 #[ao cc,bG cp,bG eU],aZ (some ac),aZ (some a2),aZ (some a3)] eM u K
def C.DX(a0:ay N)(u:H)(K:ap->Q):=bI 298 #[dP a0] [bg.one aL.val] u K
def C.Ig(a0:U)(ac:ap)(u:H)(K:o->Q):=bI 299 #[vs a0,ac] cv u K
def C.Ih(a0:U)(ac:o)(u:H)(K:o->Q):=bI 300 #[vs a0,ao ac] cv u K
def C.H9(a0:ap)(u:H)(K:U->Q):=bI 301 #[a0] bl u K
def C.abZ(a0:ap)(ac:bc)(u:H)(K:Q):=bI 302 #[a0,aZ (some ac)] [] u K
def C.ab1(a0:ap)(ac:bc)(u:H)(K:Q):=bI 303 #[a0,aZ (some ac)] [] u K
def C.VA(a0:U)(ac:ap)(u:H)(K:U->Q):=bI 304 #[vs a0,ac] bl u K
def C.RD(a0:bV)(ac:o)(u:H)(K:aK->o->Q):=bI 305 #[aZ a0,ao ac] [bg.one aL.bool,bg.one (aL.int cq)] u K
def C.RE(a0:bV)(u:H)(K:o->Q):=bI 306 #[aZ a0] cv u K
def C.Mh(a0:bV)(ci:o)(cy:U)(u:H)(K:aK->o->Q):=bI 307 #[aZ a0,c3 #[ao ci,vs cy]] [bg.one aL.bool,bg.one (aL.int cq)] u K
def C.Mi(a0:bV)(u:H)(K:U->Q):=bI 308 #[aZ a0] bl u K
def C.RF(a0:bV)(ac:U)(a2 a3:o)(u:H)(K:U->U->U->o->Q):=bI 309 #[aZ a0,vs ac,ao a2,ao a3] [bg.agg [aL.slice,aL.slice,aL.slice],bg.one (aL.int cq)] u K
def C.C8(a0 ac:U)(a2 a3:o)(u:H)(K:U->U->U->o->Q):=bI 310 #[vs a0,vs ac,ao a2,ao a3] [bg.agg [aL.slice,aL.slice,aL.slice],bg.one (aL.int cq)] u K
def C.RA(a0:bV)(ci:o)(cy:U)(u:H)(K:aK->o->Q):=bI 311 #[aZ a0,c3 #[ao ci,vs cy]] [bg.one aL.bool,bg.one (aL.int cq)] u K
def C.RB(a0:bV)(ac:U)(a2 a3:o)(u:H)(K:U->U->U->o->Q):=bI 312 #[aZ a0,vs ac,ao a2,ao a3] [bg.agg [aL.slice,aL.slice,aL.slice],bg.one (aL.int cq)] u K
def C.PQ(a0:bV)(ac:U)(u:H)(K:U->o->Q):=bI 313 #[aZ a0,vs ac] [bg.one aL.slice,bg.one (aL.int cq)] u K
def C.PR(a0:bV)(ac:U)(u:H)(K:U->o->Q):=bI 314 #[aZ a0,vs ac] [bg.one aL.slice,bg.one (aL.int cq)] u K
def C.Pr(a0:ay N)(u:H)(K:ap->Q):=bI 315 #[dP a0] [bg.one aL.val] u K
def C.PS(a0 ac:U)(u:H)(K:o->o->o->Q):=bI 316 #[vs a0,vs ac] [bg.agg [aL.int bR,aL.int bR],bg.one (aL.int cq)] u K
def C.RC(cc cp eU ci cy hT:o)(u:H)(K:o->Q):=bI 317 #[c3 #[ao cc,bG cp,bG eU],c3 #[ao ci,bG cy,bG hT]] cv u K
def C.ab0(a0:ap)(ac:bc)(u:H)(K:Q):=bI 318 #[a0,aZ (some ac)] [] u K
def C.adW(a0:U)(u:H)(K:o->Q):=bI 320 #[vs a0] cv u K
def C.LJ(a0:U)(ac a2:o)(u:H)(K:aK->Q):=bI 321 #[vs a0,ao ac,ao a2] eM u K
def C.LK(a0:U)(ac a2:o)(u:H)(K:Q):=bI 322 #[vs a0,ao ac,ao a2] [] u K
def C.adX(a0:bV)(ac:ap)(u:H)(K:Q):=bI 324 #[aZ a0,ac] [] u K
def C.J2(a0:U)(ac a2:o)(u:H)(K:aK->Q):=bI 325 #[vs a0,ao ac,ao a2] eM u K
def C.J3(a0:U)(ac a2:o)(u:H)(K:Q):=bI 326 #[vs a0,ao ac,ao a2] [] u K
def C.ZU(a0:bV)(u:H)(K:ap->Q):=bI 327 #[aZ a0] [bg.one aL.val] u K
def C.ZV(a0:bV)(ac:ap)(u:H)(K:Q):=bI 328 #[aZ a0,ac] [] u K
def C.Jd(a0:U)(ac a2:o)(u:H)(K:aK->Q):=bI 330 #[vs a0,ao ac,ao a2] eM u K
def C.Je(a0:U)(ac a2:o)(u:H)(K:Q):=bI 331 #[vs a0,ao ac,ao a2] [] u K
def C.XO(a0:bV)(u:H)(K:ap->Q):=bI 332 #[aZ a0] [bg.one aL.val] u K
def C.XP(a0:bV)(ac:ap)(u:H)(K:Q):=bI 333 #[aZ a0,ac] [] u K
def bo.of(h1:-9223372036854775808<=x)(h2:x<=9223372036854775807):bo x:=⟨h1,h2⟩
def H.qo(h:u.le u'){a:bc}{v:ap}(e:u.cell? a=some v):u'.cell? a=some v:=by unfold H.cell? at e ⊢;split at e;rename_i c t f ab;rw[h _ _ ab];exact e;cases e
def dd.pure{P:dY}{m:Sem ap}{K:hc (gF ss) (H->Prop)}(vs:M ap)(h:∀w,Sub u w->m.run P w=.ok (xb ss vs) w)
  (hk:pB (gF ss) vs) (au:hS (gF ss) K vs λr=>r u):dd P m ss u K:=
 λw hw=>⟨_,w,u,h w hw,⟨vs,hk,rfl,au⟩,Step.refl hw⟩
structure br(u:H)(s:U)(size:N)(xs:M ap):Prop where
 len:xs.length=s.n*size
 cap:s.n<=s.c
 max:s.c<=9223372036854775807
 at':xs=[]∨∃p,s.a=some p/\∀i v,xs[i]?=some v->u.cell? (p.add i)=some v
def br.mono{size:N}{xs:M ap}(h:br u s size xs)(k:u.le u'):br u' s size xs:=
 ⟨h.len,h.cap,h.max,h.at'.imp id λ⟨p,h1,h2⟩=>⟨p,h1,λi v e=>H.qo k (h2 i v e)⟩⟩
def br.get{size:N}{xs:M ap}(h:br u s size xs){i:N}(hi:i<xs.length):∃p,s.a=some p/\∀i v,xs[i]?=some v->u.cell? (p.add i)=some v:=by rcases h.at' with h|h;subst h;simp at hi;exact h
def Ints(u:H)(s:U)(l:M o):Prop:=br u s 1 (l.map λx=>.int .i64 x)
def Ints.mono(h:Ints u s l)(k:u.le u'):Ints u' s l:=br.mono h k
def Ints.len(h:Ints u s l):s.n=l.length:=by have:=br.len h;simp at this;exact this.symm
def Ints.max(h:Ints u s l):s.n<=9223372036854775807:=jg (br.cap h) (br.max h)
def Ints.read(h:Ints u s l)(h0:0<=x)(h1:x<(s.n:o)):
  ∃p,s.a=some p/\∃(ar:x.toNat<l.length),u.cell? (p.add (x.toNat*1))=some (.int .i64 l[x.toNat]):=by
 have ae:=h.len
 have bD:x.toNat<l.length:=by omega
 obtain⟨p,ad,I⟩:=br.get h (i:=x.toNat) (by simpa using bD)
 refine⟨p,ad,bD,?_⟩
 rw[B1]
 exact I _ _ (by simp[bD])
def Ints.at(h:Ints u s l)(h0:0<=x)(h1:x<(s.n:o)):∃p,s.a=some p/\u.cell? (p.add (x.toNat*1))=some (.int .i64 (l.getD x.toNat 0)):=by obtain⟨p,ad,ar,I⟩:=h.read h0 h1;exact⟨p,ad,by rw[I];simp[ar]⟩
end
