/- Texts of mine, joined and packed by pack.py. -/
import Derived.WalkKit
import Derived.Orders
import Derived.RangeFuncSeq
import Derived.TacticsIn
import Derived.OrdersHeld
set_option linter.all false
open Go renaming Program->dT,Value->ao,World->cg,TypeId->dF,FuncId->jQ,Addr->bc,IntKind->xZ,Operand->jR,Act->eo,undef->ic,Oper->eN,execOp->fT,callFunc->qW,Exit->kR
open _root_ renaming Nat->N,List->M,Option->aA,Array->cv,Int->o,Bool->aD,False->ed,absurd->aV,inferInstance->tD
open Go.World renaming cell?->JM,setCell->ab1,frozen?->GI
open Bool renaming true->ak,false->ax
open Nat renaming beq->jB,blt->x0,ble->wo
open Go.Obj renaming cells->bj
open Go.Sem renaming run->rW
open Go.IntKind renaming i64->bY,wrap->bV,signed->GG,bits->GH
open Go.Fence renaming wide->u2
open Go.Made renaming depth->u3
open Go.Instr renaming lookup->gz,mapUpdate->kh,makeMap->pE,makeSlice->rX,sliceAt->hP,buildSlice->dI,typeAssert->tE,range->rY,next->OS,sureAddr->JU
open Go.Builtin renaming append_->ee,delete_->rZ,len_->qc,clear_->qd
open Go.Oper renaming wp->DI
open Go.Deferred renaming ofValue->TE
open Go.Result renaming ok->x1,andThen->jf
open Go.Addr renaming add->eu
open Go.Op renaming equalIn->x5,noConfusion->ab3
open Go.Value renaming iface->l3
open Go.Region renaming wanted->u6,binds->BO,ready->nP,free->TK
open List renaming range->lz
set_option maxRecDepth 100000
noncomputable section
namespace Go.Proofs.YtejdhbfjjgcljaaGreatDoor
def DH:=@Array.getElem?_eq_none
def kB:=@Nat.lt_or_ge
def cC:=@Nat.le_refl
def jo:=@Nat.le_trans
def mq:=@List.append_assoc
def JN:=@Nat.lt_of_lt_of_le
def cM:=@List.mem_append
def BJ:=@Iff.rfl
def mr:=@Nat.eq_of_beq_eq_true
def BK:=@Array.getD_eq_getD_getElem?
def kC:=@Option.some.injEq
def cX:=@Option.some.inj
def aG:=@if_neg
def a1:=@if_pos
def dB:=@List.mem_of_getElem?
def OR:=@List.all_eq_true
def GF:=@Array.mem_toList_iff
def JO:=@Option.isSome_iff_exists
def JP:=@decide_eq_true_eq
def abZ:=@List.mapM_cons
def ab0:=@Option.bind_eq_some_iff
def gR:=@List.map_cons
def JQ:=@Array.ext'
def eW:=@Go.Sem.run_bind
def jS:=@Go.Result.andThen_ok
def OT:=@Option.bind_some
def JR:=@Option.getD_some
def hX:=@List.length_cons
def qX:=@if_true
def TF:=@Array.getElem?_modify
def u4:=@Option.map_some
def x3:=@Array.getElem?_eq_getElem
def DJ:=@Bool.false_eq_true
def BL:=@if_false
def tF:=@List.drop_eq_getElem_cons
def BM:=@List.take_succ_cons
def TG:=@Array.getElem?_push
def DK:=@Go.World.size_alloc
def iO:=@List.getElem?_eq_none
def qY:=@List.getElem?_append_left
def JS:=@List.getElem?_append_right
def ab2:=@Nat.eq_or_lt_of_le
def BN:=@List.getElem?_cons_zero
def fZ:=@List.nodup_append
def gp:=@List.mem_singleton
def x4:=@List.getElem?_cons_succ
def alc:=@List.setIfInBounds_toArray
def sB:=@List.ext_getElem?
def TH:=@List.getElem?_append
def eD:=@List.length_append
def gq:=@List.length_take
def qZ:=@List.length_set
def JT:=@List.getElem?_take
def u5:=@List.getElem?_drop
def zK:=@List.getElem?_set
def TI:=@Nat.lt_trichotomy
def oB:=@List.length_nil
def pF:=@Bool.and_eq_true
def r0:=@Array.length_toList
def TJ:=@Option.map_eq_some_iff
def GJ:=@Nat.le_of_ble_eq_true
def wq:=@Go.mem_ready
def dG:=@Ne.symm
def JV:=@Go.ready_mono
def BP:=@Array.getElem?_toList
def OU:=@Go.callsIn_wide
def GK:=@List.set_cons_succ
def JW:=@List.mem_of_find?_eq_some
def JX:=@List.find?_some
def TL:=@Array.mem_of_getElem?
def TM:=@Go.Region.noSelect_spec
def TN:=@Go.Region.free_spec
def x6:=@Array.getElem?_eq_some_iff
def ab4:=@List.any_eq_false
def JY:=@List.mem_range
def JZ:=@Bool.not_eq_true'
def ab5:=@Bool.not_eq_false
def cy:=@List.getElem?_eq_getElem
def eB:=@congrArg
def zL:=@Bool.or_eq_false_iff
def x7:=@List.cons_append
def TO:=@List.take_left
def TP:=@List.drop_left
def iA:=@List.mem_append_left
def GL:=@Nat.le_succ
def OW:=@List.take_append_of_le_length
def gY:=@List.take_of_length_le
def ab6:=@List.drop_append_of_le_length
def OX:=@List.drop_of_length_le
def ab7:=@Array.getElem?_append_left
def TQ:=@List.drop_succ_cons
def BQ:=@List.drop_drop
def q0:=@Nat.zero_le
def wu:=@Nat.mul_one
def ki:=@Nat.zero_add
def ab9:=@Array.size_append
def ww:=@List.size_toArray
def DM:=@Nat.add_mul
def fj:=@Option.ne_none_iff_exists'
def TR:=@Nat.mul_eq_zero
def tG:=@Nat.mul_le_mul_right
def mv:=@List.length_drop
def J0:=@Nat.zero_mul
def gI:=@List.flatMap_cons
def zM:=@Nat.succ_mul
def OY:=@List.set_cons_zero
def OZ:=@List.take_zero
def nQ:=@List.nil_append
def sC:=@List.drop_eq_nil_of_le
def aca:=@List.take_append
def iB:=@List.getElem?_eq_some_iff
def GN:=@List.take_take
def BR:=@Nat.min_eq_left
def u7:=@List.cons.injEq
def GP:=@Prod.mk.injEq
def cP:=@List.mem_cons
def gh:=@List.mem_cons_of_mem
def GR:=@Array.getElem?_setIfInBounds_ne
def acb:=@Int.fdiv_eq_ediv_of_nonneg
def r2:=@Int.mul_nonneg
def zO:=@Int.mul_le_mul
def acd:=@Int.mul_nonneg_of_nonpos_of_nonpos
def ace:=@Bool.not_eq_true
def mw:=@Int.le_refl
def O1:=@List.pairwise_singleton
def k9:=@List.pairwise_cons
def r3:=@List.take_sublist
def J4:=@List.pairwise_append
def mx:=@List.mem_of_mem_take
def DO:=@List.map_set
def acf:=@Int.natCast_pos
def acg:=@Int.ediv_nonneg
def TU:=@Nat.pow_succ
def O2:=@Int.tmod_eq_emod_of_nonneg
def zP:=@Int.tdiv_eq_ediv_of_nonneg
def kD:=@List.getElem_mem
def gJ:=@List.take_add_one
def oE:=@List.take_length
def J5:=@forall_eq_or_imp
def h6:=@List.nodup_cons
def qe:=@List.not_mem_nil
def qf:=@or_false
def bk:=@List.mem_map
def dm:=@List.getD_eq_getElem?_getD
def va:=@List.getElem?_set_ne
def r4:=@List.length_singleton
def GU:=@decide_eq_false_iff_not
def GV:=@Nat.mod_lt
def sD:=@getElem!_pos
def DP:=@Nat.sub_zero
def oF:=@List.pairwise_iff_getElem
def kS:=@List.eq_nil_of_length_eq_zero
def dj:=@List.length_map
def TV:=@beq_iff_eq
def ep:=@List.mem_flatMap
def nc:=@List.perm_append_singleton
def sE:=@List.mem_iff_getElem
def TW:=@Array.getElem?_setIfInBounds_self
def jq:=@List.getElem?_map
def acm:=@List.Sublist.map
def gZ:=@List.flatMap_append
def J7:=@List.foldl_cons
def vc:=@List.length_pos_iff
def lB:=@List.append_nil
def sG:=@List.mem_of_mem_drop
def TY:=@List.drop_zero
def O4:=@List.drop_sublist
def r5:=@and_true
def gr:=@List.mem_cons_self
def BT:=@List.map_nil
def O5:=@List.getElem?_range
def BU:=@Int.natCast_mul
def O6:=@Int.mul_comm
def T0:=@Int.mul_assoc
def ald:=@List.mem_or_eq_of_mem_set
def DQ:=@Int.mul_le_mul_of_nonneg_right
def q2:=@List.take_append_drop
def BV:=@Int.mul_le_mul_of_nonneg_left
def o0:=@decide_eq_false
def DR:=@List.getElem_take
def T1:=@Nat.mul_comm
def Ka:=@List.getElem?_replicate
def Kb:=@List.find?_eq_none
def eh:=@List.map_map
def zQ:=@List.map_congr_left
def T2:=@Nat.min_self
def T3:=@List.getElem?_zipWith
def DS:=@List.map_drop
def Kc:=@List.map_take
def BW:=@dif_pos
def DT:=@of_decide_eq_true
def GY:=@of_decide_eq_false
def l4:=@decide_eq_true
def acn:=@List.append_of_mem
def er:=@List.map_append
def BX:=@List.perm_middle
def aco:=@List.perm_cons
def oG:=@List.getElem_of_mem
def DU:=@List.map_id'
def lC:=@List.mem_append_right
def ie:=@List.mem_map_of_mem
def T4:=@List.nodup_iff_pairwise_ne
def wy:=@List.pairwise_map
def ale:=@List.dropLast_concat_getLast
def yd:=@dif_neg
def acp:=@List.Perm.of_eq
def BZ:=@List.flatMap_map
def GZ:=@List.flatMap_nil
def acq:=@List.Perm.append_left
def Kd:=@Nat.le_of_eq
def Ke:=@List.flatMap_def
def acr:=@List.perm_append_comm_assoc
def T5:=@List.length_replicate
def T6:=@Nat.eq_zero_or_pos
def r6:=@List.filter_eq_self
def zR:=@Int.toNat_natCast
def T7:=@Option.toList_some
def zS:=@List.filter_append
def DV:=@List.filter_cons
def T8:=@Nat.add_zero
def zT:=@List.getElem?_set_self
def wz:=@Int.toNat_of_nonneg
def iX:=@List.mem_filter
def Kf:=@List.Perm.refl
def sH:=@Option.mem_toList
def acs:=@Option.map_eq_none_iff
def G0:=@List.find?_cons
def O7:=@List.filter_sublist
def T9:=@List.perm_ext_iff_of_nodup
def acu:=@Classical.byContradiction
def DW:=@List.getElem_map
def acv:=@List.filter_congr
def Ua:=@List.sublist_flatten_of_mem
def sJ:=@List.filter_map
def acw:=@List.pairwise_replicate
def vd:=@List.mem_replicate
def Ub:=@List.length_pos_of_mem
def yf:=@List.length_filter_le
def O8:=@forall_eq
def acx:=@List.sublist_append_left
def acy:=@List.Sublist.refl
def acz:=@List.foldl_append
def Kg:=@List.length_filter_lt_length_iff_exists
def O9:=@Int.emod_nonneg
def Pa:=@Int.emod_lt_of_pos
def Uc:=@Option.isSome_map
def DX:=@decide_eq_decide
def acA:=@List.getElem_set
def acB:=@List.ext_getElem
def acC:=@List.flatMap_eq_nil_iff
def Kh:=@List.nodup_nil
def Pb:=@beq_false_of_ne
def Ue:=@List.mem_iff_getElem?
def Uf:=@false_implies
def Ug:=@implies_true
def Uh:=@List.length_eq_zero_iff
section
variable{P:dT}{b off:N}{bs:M N}{vs:M ao}{w':cg}{t T e:dF}{R:Type}{f:jQ}
abbrev H:=N->aA Obj
def H.ins(u:H)(b:N)(z:Obj):H:=λx=>if x=b then some z else u x
def H.le(u u':H):Prop:=∀b z,u b=some z->u' b=some z
def H.le.refl(u:H):u.le u:=λ_ _ h=>h
def H.le.trans{a b c:H}(h:a.le b)(k:b.le c):a.le c:=λx z e=>k x z (h x z e)
def H.bZ{u:H}(z:Obj)(h:u b=none):u.le (u.ins b z):=by intro x p e;unfold H.ins;split;rename_i J;subst J;rw[h] at e;cases e;exact e
def H.le.ins{u u':H}(z:Obj)(k:u.le u')(h:u' b=none):u.le (u'.ins b z):=k.trans (H.bZ z h)
def H.bi(u:H)(b:N)(z:Obj):u.ins b z b=some z:=by simp[H.ins]
def H.bq(u:H){x:N}(z:Obj)(h:x≠b):u.ins b z x=u x:=by simp[H.ins,h]
def H.cell?(u:H)(a:bc):aA ao:=
 match u a.block with
 |some (.cells c _ _)=>if a.spot.isSome then none else c[a.off]?
 |_=>none
def Sub(u:H)(w:cg):Prop:=∀b z,u b=some z->w.heap[b]?=some z
def Sub.cell{u:H}{w:cg}(h:Sub u w){a:bc}{v:ao}(e:u.cell? a=some v):w.cell? a=some v:=by unfold H.cell? at e;unfold JM;split at e;rename_i c t f aa;rw[h _ _ aa];exact e;cases e
def Sub.none{u:H}{w:cg}(h:Sub u w)(aa:w.heap.size<=b):u b=none:=by
 cases e:u b with
 |none=>rfl|some z=>have:=h _ _ e;rw[DH aa] at this;cases this
def Sub.lt{u:H}{w:cg}(h:Sub u w){z:Obj}(e:u b=some z):b<w.heap.size:=by rcases kB b w.heap.size with k|k;exact k;rw[h.none k] at e;cases e
def Sub.mono{u u':H}{w:cg}(h:Sub u' w)(k:u.le u'):Sub u w:=λb z e=>h b z (k b z e)
structure Step(u:H)(bs:M N)(w:cg)(u':H)(db:M N)(w':cg):Prop where
 sub:Sub u' w'
 os:w'.os=w.os
 tape:w'.tape=w.tape
 output:w'.output=w.output
 drawn:w.drawn<=w'.drawn
 size:w.heap.size<=w'.heap.size
 rest:∀b,b<w.heap.size->u b=none->b∉bs->w'.heap[b]?=w.heap[b]?
 jw:∀b,b<w.heap.size->u b=none->u' b=none
 more:∃ext,db=bs++ext/\∀b∈ext,w.heap.size<=b
def Step.refl{u:H}{w:cg}(h:Sub u w):Step u bs w u bs w:=
 ⟨h,rfl,rfl,rfl,cC _,cC _,λ_ _ _ _=>rfl,λ_ _ e=>e,[],by simp,by simp⟩
def Step.trans{u u' js:H}{db afs:M N}{w P9:cg}(h:Step u bs w u' db w')(k:Step u' db w' js afs P9):Step u bs w js afs P9:=by obtain⟨aQ,vN,gC⟩:=h.more;obtain⟨aF,jk,ia⟩:=k.more;refine⟨k.sub,k.os.trans h.os,k.tape.trans h.tape,k.output.trans h.output,jo h.drawn k.drawn,jo h.size k.size,?_,?_,aQ++aF,by rw[jk,vN,mq],?_⟩;intro b aa hu ae;rw[k.rest b (JN aa h.size) (h.jw b aa hu) ?_,h.rest b aa hu ae];rw[vN];simp only[cM,not_or];exact⟨ae,λhm=>by have:=gC b hm;omega⟩;intro b aa hu;exact k.jw b (JN aa h.size) (h.jw b aa hu);intro b aa;rcases cM.1 aa with aa|aa;exact gC b aa;exact jo h.size (ia b aa)
def Step.Rm{u:H}{w:cg}(h:Sub u w){n:N}(ae:w.drawn<=n):Step u bs w u bs {w with drawn:=n}:=
 ⟨h,rfl,rfl,rfl,ae,cC _,λ_ _ _ _=>rfl,λ_ _ e=>e,[],by simp,by simp⟩
def QQ(P:dT)(f:jQ)(args:cv ao)(u:H)(K:ao->H->Prop):Prop:=
 ∀w,Sub u w->Calls P f args w λe w'=>∃v u',e=.returned v/\K v u'/\Step u [] w u' [] w'
def QQ.mono{args:cv ao}{u:H}{K gw:ao->H->Prop}(h:QQ P f args u K)(hk:∀v u',K v u'->gw v u'):QQ P f args u gw:=
 λw hw=>(h w hw).mono λ_ _ ⟨v,u',e,k,s⟩=>⟨v,u',e,hk v u' k,s⟩
def QW(P:dT)(m:Sem ao)(u:H)(K:ao->H->Prop):Prop:=
 ∀w,Sub u w->∃v w' u',m.run P w=.ok v w'/\K v u'/\Step u [] w u' [] w'
def QW.mono{m:Sem ao}{u:H}{K gw:ao->H->Prop}(h:QW P m u K)(hk:∀v u',K v u'->gw v u'):QW P m u gw:=
 λw hw=>let⟨v,w',u',e,k,s⟩:=h w hw;⟨v,w',u',e,hk v u' k,s⟩
inductive aE where
 |int (k:xZ)|bool|str|ptr|slice|map|val|addr
structure U where
 a:aA bc
 n:N
 c:N
@[reducible] def U.v(s:U):ao:=.slice s.a s.n s.c
def aE.den:aE->Type
 | .int _=>o| .bool=>aD| .str=>ByteArray| .ptr=>aA bc| .slice=>U| .map=>aA N| .val=>ao| .addr=>bc
def aE.enc:(t:aE)->t.den->ao
 | .int k,n=>.int k n| .bool,b=>.bool b| .str,s=>.string s| .ptr,p=>.pointer p| .slice,s=>.slice s.a s.n s.c| .map,r=>.map r| .val,v=>v| .addr,p=>.pointer (some p)
def zl(a b:xZ):aD:=a.bits==b.bits && a.signed==b.signed
def Og{a b:xZ}(h:zl a b=ak):a=b:=by cases a<;>cases b<;>first|rfl|(revert h;decide)
def aE.un:(t:aE)->ao->(t.den->Prop)->Prop
 | .int k,.int dV n,f=>match zl dV k with|true=>f n|false=>ed
 | .bool,.bool b,f=>f b| .str,.string s,f=>f s| .ptr,.pointer p,f=>f p| .slice,.slice a n c,f=>f ⟨a,n,c⟩| .map,.map r,f=>f r| .val,v,f=>f v| .addr,.pointer (some p),f=>f p|_,_,_=>ed
def aE.Vc{t:aE}{v:ao}{f:t.den->Prop}(h:t.un v f):∃x,v=t.enc x/\f x:=by
 by_cases ay:t=.addr;subst ay;cases v<;>simp only[aE.un] at h<;>try contradiction
 rename_i p;cases p with
 |none=>exact h.elim|some p=>exact⟨p,rfl,h⟩
 cases t<;>(try exact aV rfl ay)<;>cases v<;>simp only[aE.un] at h<;>try contradiction
 case int.int k dV n=>split at h;rename_i e;have:=Og e;subst this;exact⟨n,rfl,h⟩;exact h.elim
 all_goals exact⟨_,rfl,h⟩
def aaW(k:xZ):zl k k=ak:=by cases k<;>rfl
def aE.ra(t:aE)(x:t.den)(f:t.den->Prop):t.un (t.enc x) f↔f x:=by cases t<;>first|exact BJ|simp[aE.un,aE.enc,aaW]
def hy:M aE->Type->Type
 | [],R=>R|t::cr,R=>t.den->hy cr R
def On{R:Type}:(cr:M aE)->(M ao->R)->hy cr R
 | [],f=>f []|t::cr,f=>λx=>On cr λvs=>f (t.enc x::vs)
def Ll:(cr:M aE)->(M ao->Prop)->Prop
 | [],f=>f []|t::cr,f=>∀x:t.den,Ll cr λvs=>f (t.enc x::vs)
def hY{R:Type}:(cr:M aE)->hy cr R->M ao->(R->Prop)->Prop
 | [],dt,[],f=>f dt|t::cr,dt,v::vs,f=>t.un v λx=>hY cr (dt x) vs f|_,_,_,_=>ed
inductive pO:M aE->M ao->Prop
 |nil:pO [] []
 |cons {t:aE} {cr:M aE} (x:t.den) {vs:M ao}:pO cr vs->pO (t::cr) (t.enc x::vs)
def KH{cr:M aE}{dt:hy cr R}{f:R->Prop}(h:hY cr dt vs f):pO cr vs:=by
 induction cr generalizing vs with
 |nil=>cases vs with
  |nil=>exact .nil|cons=>simp[hY] at h
 |cons t cr aM=>cases vs with
  |nil=>simp[hY] at h|cons v vs=>simp only[hY] at h;obtain⟨x,rfl,J⟩:=aE.Vc h;exact .cons x (aM J)
def apo{cr:M aE}{f:M ao->Prop}(h:Ll cr f)(k:pO cr vs):f vs:=by
 induction k generalizing f with
 |nil=>exact h|cons x _ aM=>exact aM (f:=λvs=>f (aE.enc _ x::vs)) (h x)
def adR{cr:M aE}(dt:hy cr R)(k:pO cr vs):∃r,∀f:R->Prop,hY cr dt vs f↔f r:=by
 induction k with
 |nil=>exact⟨dt,λf=>BJ⟩|cons x _ aM=>obtain⟨r,O⟩:=aM (dt x);exact⟨r,λf=>by simp only[hY,aE.ra];exact O f⟩
def PV{cr:M aE}{g:M ao->R}(k:pO cr vs)(f:R->Prop):hY cr (On cr g) vs f↔f (g vs):=by
 induction k generalizing g with
 |nil=>exact BJ|cons x _ aM=>simp only[hY,aE.ra,On];exact aM
inductive bf where
 |one (t:aE)
 |agg (cr:M aE)
def bf.iu:bf->M aE
 | .one t=>[t]| .agg cr=>cr
def bf.take:bf->M ao->ao×M ao
 | .one _,v::vs=>(v,vs)| .one _,[]=>(.tuple #[],[])| .agg cr,vs=>(.agg (vs.take cr.length).toArray,vs.drop cr.length)
def CQ:M bf->M ao->M ao
 | [],_=>[]|s::ss,vs=>(s.take vs).1::CQ ss (s.take vs).2
def xg(ss:M bf)(vs:M ao):ao:=
 match CQ ss vs with
 | [v]=>v|l=>.tuple l.toArray
def gT:M bf->M aE
 | []=>[]|s::ss=>s.iu++gT ss
def hx(P:dT)(f:jQ)(args:cv ao)(ss:M bf)(u:H)(K:hy (gT ss) (H->Prop)):Prop:=
 QQ P f args u λv u'=>∃vs,pO (gT ss) vs/\v=xg ss vs/\hY (gT ss) K vs λr=>r u'
def c9(P:dT)(m:Sem ao)(ss:M bf)(u:H)(K:hy (gT ss) (H->Prop)):Prop:=
 QW P m u λv u'=>∃vs,pO (gT ss) vs/\v=xg ss vs/\hY (gT ss) K vs λr=>r u'
inductive fU where
 |v (x:ao)
 |ptr (p:bc)
 |loc (i off:N)
 |iD
 |lU
 |dec (p:Prop) (d:Decidable p)
 |uX (p:Prop) (d:Decidable p)
structure aO where
 n:N
 env:M (N×fU)
 loc:M (M ao)
 EL:aA N:=none
def Ly:aA N->M Deferred
 |none=>[]|some D=>[{target:=.collected D,args:=#[]}]
structure lg where
 P:dT
 exp:M N:=[]
 wrap:aD:=ax
 iv:M (N×N):=[]
 oO:M N:=[]
 oY:M N:=[]
 part:aD:=ax
def hA(bs:M N):fU->aA ao
 | .v x=>some x| .ptr p=>some (.pointer (some p))| .loc i off=>match bs[i]? with
  |some b=>some (.pointer (some ⟨b,off,none⟩))|none=>none
 | .iD=>some (.bool ak)| .lU=>some (.bool ax)| .dec p d=>some (.bool (@decide p d))| .uX p d=>some (.bool (!@decide p d))
def fU.val:fU->aA ao
 | .v x=>some x| .ptr p=>some (.pointer (some p))| .loc _ _=>none| .iD=>some (.bool ak)| .lU=>some (.bool ax)| .dec p d=>some (.bool (@decide p d))| .uX p d=>some (.bool (!@decide p d))
def fU.Ve{x:fU}{v:ao}(h:x.val=some v)(bs:M N):hA bs x=some v:=by cases x<;>simp only[fU.val] at h<;>first|exact h|cases h
def look:M (N×fU)->N->aA fU
 | [],_=>none|(i,x)::r,j=>match jB i j with
  |true=>some x|false=>look r j
def del:M (N×fU)->N->M (N×fU)
 | [],_=>[]|(i,x)::r,j=>match jB i j with
  |true=>del r j|false=>(i,x)::del r j
def Gn{l:M (N×fU)}{j:N}{x:fU}(h:look l j=some x):(j,x)∈l:=by
 induction l with
 |nil=>cases h
 |cons p r aM=>obtain⟨i,y⟩:=p;simp only[look] at h;split at h;rename_i e;have:=mr e;subst this;cases h;exact .head _;exact .tail _ (aM h)
def afT{l:M (N×fU)}{j:N}{p:N×fU}(h:p∈del l j):p∈l/\p.1≠j:=by
 induction l with
 |nil=>cases h
 |cons q r aM=>
  obtain⟨i,y⟩:=q;simp only[del] at h;split at h;exact⟨.tail _ (aM h).1,(aM h).2⟩;rename_i e;cases h with
  |head=>exact⟨.head _,λfW=>by simp only at fW;subst fW;simp at e⟩|tail _ h=>exact⟨.tail _ (aM h).1,(aM h).2⟩
def aO.put(s:aO)(dst:aA Tmp)(x:fU):aO:=
 match dst with
 |none=>s|some d=>match x0 d s.n with
  |true=>{s with env:=(d,x)::del s.env d}
  |false=>{s with env:=del s.env d}
def aO.drop(s:aO)(dst:aA Tmp):aO:=
 match dst with
 |none=>s|some d=>{s with env:=del s.env d}
def aO.sv(s:aO):jR->aA fU
 | .tmp t=>look s.env t| .const (.bool ak)=>some .iD| .const (.bool ax)=>some .lU| .const v=>some (.v v)| .global g=>some (.ptr ⟨g,0,none⟩)| .func f=>some (.v (.func (.func f) #[] #[]))
def aO.val(s:aO)(x:jR):aA ao:=(s.sv x).bind fU.val
structure FitsE(s:aO)(bs:M N)(a:eo):Prop where
 defers:a.defers=Ly s.EL
 n:a.tmps.size=s.n
 env:∀p∈s.env,∃v,hA bs p.2=some v/\a.tmps[p.1]?=some v
structure Fits(s:aO)(bs:M N)(u:H)(a:eo)(w:cg):Prop extends FitsE s bs a where
 len:bs.length=s.loc.length
 loc:∀(i:N) (cs:M ao),s.loc[i]?=some cs->∃(b:N) (T:dF),bs[i]?=some b/\w.heap[b]?=some (bj cs.toArray T (0,0))
 nodup:bs.Nodup
 cm:∀b∈bs,u b=none/\b<w.heap.size
 sub:Sub u w
structure jG(loc:M (M ao))(bs:M N)(u:H)(w:cg):Prop where
 loc:∀(i:N) (cs:M ao),loc[i]?=some cs->∃(b:N) (T:dF),bs[i]?=some b/\w.heap[b]?=some (bj cs.toArray T (0,0))
 sub:Sub u w
def Fits.w{s:aO}{u:H}{a:eo}{w:cg}(h:Fits s bs u a w):jG s.loc bs u w:=⟨h.loc,h.sub⟩
def FitsE.sv{s:aO}{a:eo}(h:FitsE s bs a){x:jR}{y:fU}(e:s.sv x=some y):hA bs y=some (a.eval x):=by
 cases x with
 |tmp t=>simp only[aO.sv] at e;obtain⟨v,h1,h2⟩:=h.env _ (Gn e);simp only[Act.eval];simp only at h1 h2;rw[h1,<-h2,BK,h2];rfl
 |const v=>
  cases v<;>try(simp only[aO.sv,kC] at e;subst e;rfl)
  rename_i b;cases b<;>(simp only[aO.sv,kC] at e;subst e;rfl)
 |global g=>simp only[aO.sv,kC] at e;subst e;rfl|func f=>simp only[aO.sv,kC] at e;subst e;rfl
def FitsE.val{s:aO}{a:eo}(h:FitsE s bs a){x:jR}{v:ao}(e:s.val x=some v):a.eval x=v:=by
 unfold aO.val at e;cases J:s.sv x with
 |none=>rw[J] at e;cases e
 |some y=>rw[J] at e;have h1:=h.sv J;have h2:=fU.Ve e bs;rw[h1] at h2;exact cX h2
def abY(a:eo)(d:N)(v:ao)(j:N):(a.put (some d) v).tmps[j]?=if d=j/\j<a.tmps.size then some v else a.tmps[j]?:=by simp only[Act.put,Array.getElem?_setIfInBounds];by_cases h:d=j;subst h;by_cases h2:d<a.tmps.size;simp[h2];simp[h2];simp[h]
def Fits.drop{s:aO}{u:H}{a:eo}{w:cg}(h:Fits s bs u a w)(dst:aA Tmp)(v:ao):Fits (s.drop dst) bs u (a.put dst v) w:=by
 cases dst with
 |none=>exact h|some d=>refine⟨⟨h.defers,by simp[Act.put,h.n,aO.drop],?_⟩,h.len,h.loc,h.nodup,h.cm,h.sub⟩;intro p ad;obtain⟨h1,h2⟩:=afT ad;obtain⟨x,J,ai⟩:=h.env p h1;refine⟨x,J,?_⟩;rw[abY,aG (λe=>h2 e.1.symm)];exact ai
def Fits.put{s:aO}{u:H}{a:eo}{w:cg}(h:Fits s bs u a w)(dst:aA Tmp){x:fU}{v:ao}(e:hA bs x=some v):Fits (s.put dst x) bs u (a.put dst v) w:=by
 cases dst with
 |none=>exact h|some d=>
  have ar:=h.drop (some d) v;cases aa:x0 d s.n with
  |false=>
   have aQ:s.put (some d) x=s.drop (some d):=by simp only[aO.put,aa,aO.drop]
   rw[aQ];exact ar|true=>
   have aQ:s.put (some d) x={s with env:=(d,x)::del s.env d}:=by simp only[aO.put,aa]
   rw[aQ];have bw:d<s.n:=by simpa using aa
   refine⟨⟨ar.defers,ar.n,?_⟩,h.len,h.loc,h.nodup,h.cm,h.sub⟩;intro p ad;cases ad with
   |head=>exact⟨v,e,by rw[abY,a1 ⟨rfl,by rw[h.n];exact bw⟩]⟩|tail _ ad=>exact ar.env p ad
def Fits.step{s:aO}{u u':H}{a:eo}{w:cg}(h:Fits s bs u a w)(k:Step u [] w u' [] w'):Fits s bs u' a w':=by refine⟨⟨h.defers,h.n,h.env⟩,h.len,?_,h.nodup,?_,k.sub⟩;intro i cs e;obtain⟨b,T,h1,h2⟩:=h.loc i cs e;have hm:b∈bs:=dB h1;exact⟨b,T,h1,(k.rest b (h.cm b hm).2 (h.cm b hm).1 (by simp)).trans h2⟩;intro b aa;exact⟨k.jw b (h.cm b aa).2 (h.cm b aa).1,JN (h.cm b aa).2 k.size⟩
def Step.MR{u u':H}{w:cg}(k:Step u [] w u' [] w')(bs:M N):Step u bs w u' bs w':=
 ⟨k.sub,k.os,k.tape,k.output,k.drawn,k.size,λb aa hu _=>k.rest b aa hu (by simp),k.jw,[],by simp,by simp⟩
def afN:ao->aE
 | .int k _=>.int k| .bool _=>.bool| .string _=>.str| .pointer _=>.ptr| .slice _ _ _=>.slice| .map _=>.map|_=>.val
def ri(P:dT)(t:dF):aD:=
 match P.underlying t with
 |some (.struct _)=>ak|some (.array _ _)=>ak|_=>ax
def q8(P:dT)(t:dF):aA bf:=
 match P.info? t with
 |some i=>match i.zero,P.underlying t with
  |some (.agg cs),some _=>match ri P t,jB cs.size i.size with
   |true,ak=>some (.agg (cs.toList.map afN))|_,_=>none
  |some Y,some _=>match ri P t,jB 1 i.size with
   |false,ak=>some (.one (afN Y))|_,_=>none
  |_,_=>none
 |none=>none
def Pz(P:dT)(t:dF):aA (M bf):=
 match P.underlying t with
 |some (.tuple cr)=>cr.toList.mapM (q8 P)|_=>(q8 P t).map λs=>[s]
def zeroOf(P:dT)(t:dF):aA (M ao):=
 match P.info? t with
 |some i=>i.zero.map λY=>Y.cells.toList|none=>none
def yj(P:dT)(t:dF):aA N:=(P.info? t).map (·.size)
def JL(P:dT){α:Type}:Sem α->aA α
 | .pure a=>some a| .program k=>JL P (k P)|_=>none
def azg{α:Type}{m:Sem α}{a:α}(h:JL P m=some a)(w:cg):m.run P w=.ok a w:=by
 induction m with
 |pure b=>simp only[JL,kC] at h;subst h;rfl|program k aM=>simp only[JL] at h;simp only[rW];exact aM _ h|_=>simp[JL] at h
def aO.ig(s:aO)(x:jR):ao:=(s.val x).getD ic
def known(s:aO)(z:eN):aD:=z.op.operands.toList.all λx=>(s.val x).isSome
def agh{s:aO}{a:eo}(h:FitsE s bs a){z:eN}(ag:∀cs b,z.op≠.select cs b)(hk:known s z=ak):fT a.eval z=fT s.ig z:=by refine execOp_congr z ag λx J=>?_;have h1:=OR.1 hk x (GF.2 J);obtain⟨v,aB⟩:=JO.1 h1;rw[h.val aB];simp[aO.ig,aB]
def akP:Op->aD
 | .select _ _| .index ..| .lookup ..| .mapUpdate ..| .insert ..| .makeMap ..| .makeSlice ..| .slice ..| .buildSlice ..| .typeAssert ..| .range ..| .next ..| .entry ..| .mapEntry ..| .entryStore ..=>ax| .call c=>match c.callee with
  | .builtin .append| .builtin .copy| .builtin .delete| .builtin .clear=>ax|_=>ak
 |_=>ak
def akz(P:dT):Op->aD
 | .call c=>match c.callee with
  | .builtin .len=>match c.argTypes.toList with
   |t::_=>match P.underlying t with
    |some (.map _ _)=>ak|_=>ax
   | []=>ax
  |_=>ax
 |_=>ax
def zH(P:dT)(s:aO)(z:eN):aA ao:=
 match akz P z.op with
 |true=>none|false=>match known s z,akP z.op with
  |true,ak=>match JL P (fT s.ig z) with
   |some (.value v)=>some v|_=>none
  |_,_=>none
def ak7{s:aO}{a:eo}(h:FitsE s bs a){z:eN}{v:ao}(e:zH P s z=some v)(w:cg):(fT a.eval z).run P w=.ok (.value v) w:=by unfold zH at e;split at e;cases e;split at e;rename_i h1 h2;split at e;rename_i x h3;cases e;rw[agh h (λcs b e=>by rw[e] at h2;cases h2) h1];exact azg h3 w;cases e;cases e
def Rc:BinOp->o->o->aA fU
 | .eql,a,b=>some (.dec (a=b) tD)| .neq,a,b=>some (.uX (a=b) tD)| .lss,a,b=>some (.dec (a<b) tD)| .leq,a,b=>some (.dec (a<=b) tD)| .gtr,a,b=>some (.dec (b<a) tD)| .geq,a,b=>some (.dec (b<=a) tD)|_,_,_=>none
def aqH{op:BinOp}{a b:o}{x:fU}(h:Rc op a b=some x)(P:dT)(t:dF)(k:xZ)(bs:M N):
  ∃v,hA bs x=some v/\∀w,(binOp op t (.int k a) (.int k b)).run P w=.ok v w:=by
 cases op<;>simp only[Rc,kC,reduceCtorEq] at h<;>subst h<;>refine⟨_,rfl,λw=>?_⟩
 rw[binOp_eql];rfl
 rw[binOp_neq];rfl
 rw[binOp_lss];rfl
 rw[binOp_leq];rfl
 rw[binOp_gtr];rfl
 rw[binOp_geq];rfl
def bh(x:o):Prop:= -9223372036854775808<=x/\x<=9223372036854775807
def aGd{x:o}(h:bh x):bY.wrap x=x:=by obtain⟨h1,h2⟩:=h;simp only[bV,GG,GH];simp only[Bool.true_and,JP,ge_iff_le];split<;>omega
def Q3(wrap:aD)(op:BinOp)(k:xZ)(a b:o)(f:o->Prop):Prop:=
 let r:aA o:=match op with
  | .add=>some (a+b)| .sub=>some (a-b)| .mul=>some (a*b)|_=>none
 match r with
 |some Y=>match k,wrap with
  | .i64,ax=>bh Y/\f Y|k,_=>f (k.wrap Y)
 |none=>match op with
  | .quo=>b≠0/\(match k,wrap with
   | .i64,ax=>bh (a.tdiv b)/\f (a.tdiv b)|k,_=>f (k.wrap (a.tdiv b)))
  | .rem=>b≠0/\f (a.tmod b)| .shl=>0<=b/\f (k.wrap (a*2 ^ (min b.toNat k.bits)))| .shr=>0<=b/\f (a.fdiv (2 ^ (min b.toNat k.bits)))| .and=>f (bits .and k a b)| .or=>f (bits .or k a b)| .xor=>f (bits .xor k a b)| .andNot=>f (bits .andNot k a b)|_=>ed
def apu{wrap:aD}{op:BinOp}{k:xZ}{a b:o}{f:o->Prop}(h:Q3 wrap op k a b f)(P:dT)(t:dF)(dV:xZ)
  (hk:dV=k∨op=.shl∨op=.shr):
  ∃Y,f Y/\∀w,(binOp op t (.int k a) (.int dV b)).run P w=.ok (.int k Y) w:=by
 have two:∀Y,(match k,wrap with| .i64,ax=>bh Y/\f Y|k,_=>f (k.wrap Y))->f (k.wrap Y):=by intro Y aC;cases k<;>cases wrap<;>first|exact aC|(rw[aGd aC.1];exact aC.2)
 unfold Q3 at h
 cases op<;>simp only[] at h
 case add=>
  obtain rfl:dV=k:=by simpa using hk
  exact⟨_,two _ h,λw=>by rw[binOp_add];rfl⟩
 case sub=>
  obtain rfl:dV=k:=by simpa using hk
  exact⟨_,two _ h,λw=>by rw[binOp_sub];rfl⟩
 case mul=>
  obtain rfl:dV=k:=by simpa using hk
  exact⟨_,two _ h,λw=>by rw[binOp_mul];rfl⟩
 case quo=>
  obtain rfl:dV=k:=by simpa using hk
  exact⟨_,two _ h.2,λw=>by rw[binOp_quo];simp[Op.intDiv,h.1]⟩
 case rem=>
  obtain rfl:dV=k:=by simpa using hk
  exact⟨_,h.2,λw=>by rw[binOp_rem];simp[Op.intDiv,h.1]⟩
 case and=>
  obtain rfl:dV=k:=by simpa using hk
  exact⟨_,h,λw=>by rw[binOp_and,intBits_and];rfl⟩
 case or=>
  obtain rfl:dV=k:=by simpa using hk
  exact⟨_,h,λw=>by rw[binOp_or,intBits_or];rfl⟩
 case xor=>
  obtain rfl:dV=k:=by simpa using hk
  exact⟨_,h,λw=>by rw[binOp_xor,intBits_xor];rfl⟩
 case andNot=>
  obtain rfl:dV=k:=by simpa using hk
  exact⟨_,h,λw=>by rw[binOp_andNot,intBits_andNot];rfl⟩
 case shl=>
  refine⟨_,h.2,λw=>?_⟩;rw[binOp_shl];have:¬b<0:=by omega
  simp[Op.shift,this]
 case shr=>
  refine⟨_,h.2,λw=>?_⟩;rw[binOp_shr];have:¬b<0:=by omega
  simp[Op.shift,this]
structure Cz where
 p:Prop
 d:Decidable p
def HX{α:Type}(x:aA α):Decidable (x=none):=
 match x with
 |none=>.isTrue rfl|some _=>.isFalse (by simp)
def LN:ao->ao->aA Cz
 | .int k a,.int dV b=>match zl k dV with
  |true=>some ⟨a=b,tD⟩|false=>none
 |_,_=>none
def LO:M (N×N)->N->aA N
 | [],_=>none|(t,n)::r,x=>match jB t x with
  |true=>some n|false=>LO r x
def yP:M ao->M ao->aA Cz
 | [],[]=>some ⟨True,tD⟩| [x],[y]=>LN x y|x::xs,y::e9=>match LN x y,yP xs e9 with
  |some a,some b=>some ⟨a.p/\b.p,@instDecidableAnd a.p b.p a.d b.d⟩|_,_=>none
 |_,_=>none
def Q8:fU->aA aD
 | .v (.bool b)=>some b| .iD=>some ak| .lU=>some ax| .dec p d=>some (@decide p d)| .uX p d=>some (!@decide p d)|_=>none
def aaO:BinOp->aD
 | .shl=>ak| .shr=>ak|_=>ax
def LP(C:lg)(t:dF):fU->fU->aA Cz
 | .v (.pointer p),.v (.pointer none)=>match C.P.underlying t with
  |some (.pointer _)=>some ⟨p=none,HX p⟩|_=>none
 | .ptr _,.v (.pointer none)=>match C.P.underlying t with
  |some (.pointer _)=>some ⟨ed,tD⟩|_=>none
 | .v (.slice a _ _),.v (.slice none _ _)=>match C.P.underlying t with
  |some (.slice _)=>some ⟨a=none,HX a⟩|_=>none
 | .v (.map a),.v (.map none)=>match C.P.underlying t with
  |some (.map _ _)=>some ⟨a=none,HX a⟩|_=>none
 | .v (.agg xs),.v (.agg e9)=>match LO C.iv t with
  |some n=>match jB xs.toList.length n,jB e9.toList.length n with
   |true,ak=>yP xs.toList e9.toList|_,_=>none
  |none=>none
 | .v (.string x),.v (.string y)=>some ⟨x.toList=y.toList,tD⟩|x,y=>match Q8 x,Q8 y,C.P.underlying t with
  |some a,some b,some .bool=>some ⟨a=b,tD⟩|_,_,_=>none
def _root_.Go.Addr.at'(p:bc):N->bc
 |0=>p|i+1=>p.add (i+1)
def Tl(u:H)(p:bc):N->M aE->(M ao->Prop)->Prop
 |_,[],f=>f []|i,t::cr,f=>∃x:t.den,u.cell? (p.at' i)=some (t.enc x)/\Tl u p (i+1) cr λvs=>f (t.enc x::vs)
def bf.mk:bf->M ao->ao
 | .one _,v::_=>v| .one _,[]=>.tuple #[]| .agg _,vs=>.agg vs.toArray
def wr:cv ao->N->M ao->cv ao
 |c,_,[]=>c|c,z,v::vs=>wr (c.setIfInBounds z v) (z+1) vs
def H.aO(u:H)(p:bc)(vs:M ao)(f:H->Prop):Prop:=
 ∃(c:cv ao) (T:dF),u p.block=some (.cells c T (0,0))/\p.spot=none/\p.off+vs.length<=c.size/\(∀v∈vs,v.oneCell'=ak)/\
  f (u.ins p.block (.cells (wr c p.off vs) T (0,0)))
def over(cs:M ao)(off:N)(vs:M ao):M ao:=cs.take off++vs++cs.drop (off+vs.length)
def OG:M ao->aD
 | []=>ak|v::vs=>v.oneCell' && OG vs
def tN{α:Type}:M α->N->α->M α
 | [],_,_=>[]|_::xs,0,y=>y::xs|x::xs,i+1,y=>x::tN xs i y
def OF(P:dT)(t:dF)(f:N):aA N:=
 match P.underlying t with
 |some (.struct aW)=>match aW[f]? with
  |some g=>match yj P g.type with
   |some (_+1)=>some g.offset|_=>none
  |none=>none
 |_=>none
def gQ(l:M N)(x:N):aD:=l.any (jB x)
def P5(s:aO)(xs:cv jR):aA (M ao):=xs.toList.mapM s.val
def h8(P:dT)(fv:ao)(args:cv ao)(ss:M bf)(u:H)(K:hy (gT ss) (H->Prop)):Prop:=
 ∃f pre cap,fv=.func (.func f) pre cap/\(∃fn,P.funcs[f]?=some fn/\fn.body.isSome=ak)/\hx P f (pre++args++cap) ss u K
def Aj(P:dT)(fv:ao)(args:cv ao)(ss:M bf)(u:H)(K:hy (gT ss) (H->Prop)):Prop:=
 ∃l,fv=.func (.yield l) #[] #[]/\∀w,Sub u w->YieldAt u2 0 P l args w λe w'=>∃v u',e=.returned v/\(∃vs,pO (gT ss) vs/\v=xg ss vs/\hY (gT ss) K vs λr=>r u')/\Step u [] w u' [] w'
def sS(P:dT)(fv:ao)(args:cv ao)(ss:M bf)(u:H)(K:hy (gT ss) (H->Prop)):Prop:=h8 P fv args ss u K∨Aj P fv args ss u K
def nn(P:dT)(recv:ao)(name:String)(args:cv ao)(ss:M bf)(u:H)(K:hy (gT ss) (H->Prop)):Prop:=
 ∃t v f r,recv=.iface t v/\(∀w,Sub u w->(method (P.types.size+u3) t v name).run P w=.ok (f,r) w)/\
  (∃fn,P.funcs[f]?=some fn/\fn.body.isSome=ak)/\hx P f (#[r]++args) ss u K
def Ay(f:jQ)(args:cv ao):Sem ao:=do
 match <-qW f args with
 | .value v=>pure v|_=>stuck "callX"
def unit(m:Sem Unit):Sem ao:=do
 m
 pure ic
def hf(P:dT)(f:jQ):aD:=
 match P.funcs[f]? with
 |some fn=>fn.body.isSome|none=>ax
def akN(P:dT)(f:jQ):aD:=
 match P.funcs[f]? with
 |some fn=>fn.body.isNone|none=>ax
def G9(s:aO)(z:eN):aA (Sem ao):=
 match z.op with
 | .lookup t x i ok=>some (gz t (s.ig x) (s.ig i) ok)| .mapUpdate t m k x=>some (unit (kh t (s.ig m) (s.ig k) (s.ig x)))| .insert t m k x=>some (unit (kh t (s.ig m) (s.ig k) (s.ig x)))| .makeMap t none=>some (pE t none)| .makeMap t (some r)=>some (pE t (some (s.ig r)))| .makeSlice t l c=>some (rX t (s.ig l) (s.ig c))| .slice t x bm hi Jz=>some (hP t (s.ig x) (bm.map s.ig) (hi.map s.ig) (Jz.map s.ig))| .index t x i=>some (Instr.index t (s.ig x) (s.ig i))| .convert a b x=>some (Go.convert a b (s.ig x))| .buildSlice t n c7=>some (dI t n (c7.map λ(i,x)=>(i,s.ig x)))| .typeAssert x a b ok=>some (tE (s.ig x) a b ok)| .range t x=>some (rY t (s.ig x))| .next i str=>some (OS (s.ig i) str z.type)| .entry i=>some (Instr.entry (s.ig i))| .mapEntry t m k=>some (Instr.mapEntry t (s.ig m) (s.ig k))| .entryStore t m k x=>some (unit (Instr.entryStore t (s.ig m) (s.ig k) (s.ig x)))| .call c=>match c.callee with
  | .builtin .append=>some (ee c.argTypes z.type (c.args.map s.ig))| .builtin .copy=>some (Builtin.copy_ c.argTypes z.type (c.args.map s.ig))| .builtin .delete=>some (rZ c.argTypes z.type (c.args.map s.ig))| .builtin .len=>some (qc c.argTypes z.type (c.args.map s.ig))| .builtin .max=>some (Builtin.max_ c.argTypes z.type (c.args.map s.ig))| .builtin .min=>some (Builtin.min_ c.argTypes z.type (c.args.map s.ig))| .builtin .clear=>some (qd c.argTypes z.type (c.args.map s.ig))| .value (.func f)=>some (Ay f (c.args.map s.ig))|_=>none
 |_=>none
def isUnit:Op->aD
 | .mapUpdate ..| .insert ..| .entryStore ..=>ak| .call c=>match c.callee with
  | .builtin .delete| .builtin .clear=>ak|_=>ax
 |_=>ax
def aAc(P:dT)(z:eN):aA (M bf):=
 match isUnit z.op with
 |true=>some []|false=>match z.op with
  | .alloc _| .buildSlice _ _ _=>Pz P z.type|_=>Pz P z.type
def s6(s:aO)(dst:aA Tmp)(ss:M bf)(K:aO->H->Prop):hy (gT ss) (H->Prop):=
 On (gT ss) λvs u'=>K (s.put dst (.v (xg ss vs))) u'
def other(C:lg)(s:aO)(z:eN)(u:H)(K:aO->H->Prop):Prop:=
 match zH C.P s z with
 |some v=>K (s.put z.dst (.v v)) u|none=>match known s z,G9 s z,aAc C.P z with
  |true,some m,some ss=>c9 C.P m ss u (s6 s z.dst ss K)|_,_,_=>ed
def wJ(C:lg)(bC:N->aD)(s:aO)(z:eN)(u:H)(K:aO->H->Prop):Prop:=
 match z.op with
 | .move x=>match s.sv x with
  |some y=>K (s.put z.dst y) u|none=>ed
 | .assign x=>match s.sv x with
  |some y=>K (s.put z.dst y) u|none=>ed
 | .pick c a b=>match s.sv c,s.sv a,s.sv b with
  |some .iD,some y,_=>K (s.put z.dst y) u|some .lU,_,some y=>K (s.put z.dst y) u|some (.dec p _),some y,some Y=>(p->K (s.put z.dst y) u)/\(¬p->K (s.put z.dst Y) u)|some (.uX p _),some y,some Y=>(¬p->K (s.put z.dst y) u)/\(p->K (s.put z.dst Y) u)|_,_,_=>ed
 | .binOp op t x y _=>match s.sv x,s.sv y with
  |some (.v (.int k a)),some (.v (.int dV b))=>match Rc op a b with
   |some Y=>match zl dV k with
    |true=>K (s.put z.dst Y) u|false=>ed
   |none=>match aaO op ||zl dV k with
    |true=>Q3 C.wrap op k a b λY=>K (s.put z.dst (.v (.int k Y))) u|false=>ed
  |some a,some b=>match op with
   | .eql=>match LP C t a b with
    |some Y=>K (s.put z.dst (.dec Y.p Y.d)) u|none=>ed
   | .neq=>match LP C t a b with
    |some Y=>K (s.put z.dst (.uX Y.p Y.d)) u|none=>ed
   |_=>other C s z u K
  |_,_=>ed
 | .unOp .not _ x=>match s.sv x with
  |some .iD=>K (s.put z.dst .lU) u|some .lU=>K (s.put z.dst .iD) u|some (.dec p d)=>K (s.put z.dst (.uX p d)) u|some (.uX p d)=>K (s.put z.dst (.dec p d)) u|some (.v (.bool b))=>K (s.put z.dst (.uX (b=ak) tD)) u|_=>ed
 | .load t x=>match s.sv x,q8 C.P t with
  |some (.loc i off),some aI=>match s.loc[i]? with
   |some cs=>match wo (off+aI.iu.length) cs.length with
    |true=>K (s.put z.dst (.v (aI.mk ((cs.drop off).take aI.iu.length)))) u|false=>ed
   |none=>ed
  |some (.ptr p),some aI=>Tl u p 0 aI.iu λvs=>K (s.put z.dst (.v (aI.mk vs))) u|_,_=>ed
 | .store t x y=>match s.sv x,s.val y,q8 C.P t with
  |some (.loc i off),some v,some aI=>match s.loc[i]?,bC i,jB v.cells.size aI.iu.length,OG v.cells.toList with
   |some cs,ak,ak,ak=>match wo (off+aI.iu.length) cs.length with
    |true=>K ({s with loc:=tN s.loc i (over cs off v.cells.toList)}.drop z.dst) u
    |false=>ed
   |_,_,_,_=>ed
  |some (.ptr p),some v,some aI=>match jB v.cells.size aI.iu.length with
   |true=>u.aO p v.cells.toList λu'=>K (s.drop z.dst) u'|false=>ed
  |_,_,_=>ed
 | .alloc t=>match zeroOf C.P t,z.dst with
  |some cs,some d=>match gQ C.exp d with
   |true=>∀b,u b=none->K (s.put (some d) (.ptr ⟨b,0,none⟩)) (u.ins b (.cells cs.toArray t (0,0)))|false=>K ({s with loc:=s.loc++ [cs]}.put (some d) (.loc s.loc.length 0)) u
  |_,_=>ed
 | .box t x=>match s.val x,z.dst with
  |some v,some d=>match gQ C.exp d with
   |true=>∀b,u b=none->K (s.put (some d) (.ptr ⟨b,0,none⟩)) (u.ins b (.cells v.cells.toList.toArray t (0,0)))|false=>K ({s with loc:=s.loc++ [v.cells.toList]}.put (some d) (.loc s.loc.length 0)) u
  |_,_=>ed
 | .nilCheck x=>match s.sv x with
  |some (.loc i off)=>K (s.put z.dst (.loc i off)) u|some (.ptr p)=>K (s.put z.dst (.ptr p)) u|some (.v (.pointer q))=>∃p,q=some p/\K (s.put z.dst (.ptr p)) u|_=>ed
 | .fieldAddr t x f=>match s.sv x,OF C.P t f with
  |some (.loc i off),some n=>K (s.put z.dst (.loc i (off+n))) u|some (.ptr p),some n=>K (s.put z.dst (.ptr (p.at' n))) u|_,_=>ed
 | .indexAddr t x bu=>match C.P.underlying t with
  |some (.slice e)=>match s.sv x,s.sv bu,yj C.P e with
   |some (.v (.slice a n _)),some (.v (.int _ i)),some hG=>∃p,a=some p/\(0<=i/\i<n)/\K (s.put z.dst (.ptr (p.add (i.toNat*hG)))) u|_,_,_=>ed
  |some (.array len e)=>match s.sv x,s.sv bu,yj C.P e with
   |some (.loc j off),some (.v (.int _ (.ofNat m))),some (hG+1)=>match x0 m len with
    |true=>K (s.put z.dst (.loc j (off+m*(hG+1)))) u|false=>ed
   |some (.ptr p),some (.v (.int _ i)),some hG=>2<=len/\(0<=i/\i<len)/\K (s.put z.dst (.ptr (p.add (i.toNat*hG)))) u|_,_,_=>ed
  |_=>ed
 | .call c=>match P5 s c.args,Pz C.P z.type with
  |some vs,some ss=>match c.callee with
   | .value (.func f)=>match hf C.P f with
    |true=>hx C.P f vs.toArray ss u (s6 s z.dst ss K)|false=>match akN C.P f with
     |true=>c9 C.P (Ay f vs.toArray) ss u (s6 s z.dst ss K)|false=>ed
   | .value x=>match s.sv x with
    |some (.v fv)=>h8 C.P fv vs.toArray ss u (s6 s z.dst ss K)|_=>ed
   | .invoke x name=>match s.sv x with
    |some (.v r)=>nn C.P r name vs.toArray ss u (s6 s z.dst ss K)|_=>ed
   | .builtin _=>other C s z u K
  |_,_=>ed
 |_=>other C s z u K
structure Good(C:lg):Prop where
 ayC:∀(f:jQ) (fn:Func),C.P.funcs[f]?=some fn->(fn.name== "runtime.NumGoroutine")=ax
 mixed:C.P.follows .mixedOrders=ak
 eq:∀t n,LO C.iv t=some n->∀xs e9 Y,xs.toList.length=n->e9.toList.length=n->yP xs.toList e9.toList=some Y->∀(x y:jR) (w:cg),
  (eqGuard .eql t x y (.agg xs) (.agg e9)).run C.P w=.ok () w/\(eqGuard .neq t x y (.agg xs) (.agg e9)).run C.P w=.ok () w/\
  (Op.equal t (.agg xs) (.agg e9)).run C.P w=.ok (@decide Y.p Y.d) w
structure Kept(bC:N->aD)(s au:aO):Prop where
 n:au.n=s.n
 len:s.loc.length<=au.loc.length
 same:∀i cs,s.loc[i]?=some cs->bC i=ax->au.loc[i]?=some cs
def Kept.refl(bC:N->aD)(s:aO):Kept bC s s:=⟨rfl,cC _,λ_ _ h _=>h⟩
def Kept.trans{bC:N->aD}{a b c:aO}(h:Kept bC a b)(k:Kept bC b c):Kept bC a c:=
 ⟨k.n.trans h.n,jo h.len k.len,λi cs e w=>k.same i cs (h.same i cs e w) w⟩
def nb(s:aO)(d:aA Tmp)(x:fU):(s.put d x).loc=s.loc/\(s.put d x).n=s.n:=by
 cases d with
 |none=>exact⟨rfl,rfl⟩|some d=>simp only[aO.put];split<;>exact⟨rfl,rfl⟩
def Xe(s:aO)(d:aA Tmp):(s.drop d).loc=s.loc/\(s.drop d).n=s.n:=by cases d<;>exact⟨rfl,rfl⟩
def Kept.put(bC:N->aD)(s:aO)(d:aA Tmp)(x:fU):Kept bC s (s.put d x):=
 ⟨(nb s d x).2,by rw[(nb s d x).1];exact cC _,λi cs h _=>by rw[(nb s d x).1];exact h⟩
def Kept.drop(bC:N->aD)(s:aO)(d:aA Tmp):Kept bC s (s.drop d):=
 ⟨(Xe s d).2,by rw[(Xe s d).1];exact cC _,λi cs h _=>by rw[(Xe s d).1];exact h⟩
def l5(bC:N->aD)(K:aO->H->Prop)(s:aO)(bs:M N)(u:H)(a:eo)(w:cg)(dst:aA Tmp)(cT:eo)(w':cg):Prop:=
 ∃au u' db v,K au u'/\Fits au db u' cT w'/\Step u bs w u' db w'/\cT=a.put dst v/\Kept bC s au
section
variable {C:lg} {bC:N->aD} {s:aO} {z:eN} {u:H} {K:aO->H->Prop} {bs:M N} {a:eo} {w:cg} {Q:kR->eo->cg->Prop}
def zF{v:ao}{y:fU}(ac:Fits s bs u a w)(O:(fT a.eval z).run C.P w=.ok (.value v) w)(I:hA bs y=some v)(hk:K (s.put z.dst y) u):
  z.wp C.P a w (l5 bC K s bs u a w z.dst) Q:=by
 unfold DI
 rw[O]
 exact⟨_,u,bs,v,hk,ac.put z.dst I,Step.refl ac.sub,rfl,Kept.put bC s z.dst y⟩
def OE{v:ao}{u':H}(ac:Fits s bs u a w)(O:(fT a.eval z).run C.P w=.ok (.value v) w')(ag:Step u [] w u' [] w')(hk:K (s.put z.dst (.v v)) u'):
  z.wp C.P a w (l5 bC K s bs u a w z.dst) Q:=by
 unfold DI
 rw[O]
 exact⟨_,u',bs,v,hk,(ac.step ag).put z.dst (x:=.v v) rfl,ag.MR bs,rfl,Kept.put bC s z.dst _⟩
def vu(C:lg)(s:aO)(z:eN)(u:H)(K:aO->H->Prop)(bs:M N)(a:eo):Prop:=
 ∃y v,K (s.put z.dst y) u/\hA bs y=some v/\∀w,(fT a.eval z).run C.P w=.ok (.value v) w
def pC(ac:Fits s bs u a w)(h:vu C s z u K bs a):z.wp C.P a w (l5 bC K s bs u a w z.dst) Q:=by obtain⟨y,v,hk,I,O⟩:=h;exact zF ac (O w) I hk
def QT(C:lg)(s:aO)(z:eN)(u:H)(K:aO->H->Prop)(bs:M N)(a:eo):Prop:=
 ∃y v,K (s.put z.dst y) u/\hA bs y=some v/\∀w,jG s.loc bs u w->(fT a.eval z).run C.P w=.ok (.value v) w
def akR(ac:Fits s bs u a w)(h:QT C s z u K bs a):z.wp C.P a w (l5 bC K s bs u a w z.dst) Q:=by obtain⟨y,v,hk,I,O⟩:=h;exact zF ac (O w ac.w) I hk
def abJ{m:Sem ao}{ss:M bf}(ac:Fits s bs u a w)(h:c9 C.P m ss u (s6 s z.dst ss K))
  (O:∀v w',m.run C.P w=.ok v w'->(fT a.eval z).run C.P w=.ok (.value v) w'∨(fT a.eval z).run C.P w=.ok .skip w'/\v=ic):
  z.wp C.P a w (l5 bC K s bs u a w z.dst) Q:=by
 obtain⟨v,w',u',e,⟨vs,aB,rfl,av⟩,ag⟩:=h w ac.sub
 have oi:K (s.put z.dst (.v (xg ss vs))) u':=(PV aB _).1 av
 rcases O _ _ e with h1|⟨h1,h2⟩
 exact OE ac h1 ag oi
 unfold DI
 rw[h1]
 rw[h2] at oi
 exact⟨_,u',bs,ic,oi,(ac.step ag).put z.dst (x:=.v ic) rfl,ag.MR bs,rfl,Kept.put bC s z.dst _⟩
def abI{args:cv ao}{ss:M bf}(ac:Fits s bs u a w)(h:hx C.P f args ss u (s6 s z.dst ss K))
  (O:(fT a.eval z).run C.P w=.ok (.enter f args) w):z.wp C.P a w (l5 bC K s bs u a w z.dst) Q:=by
 unfold DI
 rw[O]
 refine(h w ac.sub).mono ?_
 rintro e w' ⟨v,u',rfl,⟨vs,aB,rfl,av⟩,ag⟩
 have oi:K (s.put z.dst (.v (xg ss vs))) u':=(PV aB _).1 av
 exact⟨_,u',bs,_,oi,(ac.step ag).put z.dst (x:=.v _) rfl,ag.MR bs,rfl,Kept.put bC s z.dst _⟩
def anZ(ac:FitsE s bs a){xs:cv jR}(h:P5 s xs=some vs):xs.map a.eval=vs.toArray:=by
 unfold P5 at h;have key:∀(l:M jR) (vs:M ao),l.mapM s.val=some vs->l.map a.eval=vs:=by
  intro l;induction l with
  |nil=>intro vs h;simp at h;subst h;rfl
  |cons x l aM=>intro vs h;simp only[abZ,Option.bind_eq_bind,ab0,Option.pure_def,kC] at h;obtain⟨y,ai,e9,aaD,rfl⟩:=h;simp only[gR,aM e9 aaD,ac.val ai]
 apply JQ;simp only[Array.toList_map];exact key _ _ h
def ahu(h:hf P f=ak):∃fn,P.funcs[f]?=some fn/\fn.body.isSome=ak:=by unfold hf at h;split at h;rename_i fn e;exact⟨fn,e,h⟩;cases h
def Rb(fN:Good C)(h:∃fn,C.P.funcs[f]?=some fn/\fn.body.isSome=ak)(args:cv ao)(w:cg):
  (qW f args).run C.P w=.ok (.enter f args) w:=by
 obtain⟨fn,e,aa⟩:=h
 have h1:=fN.ayC f fn e
 obtain⟨b,eQ⟩:=JO.1 aa
 simp only[qW,eW,program,rW,jS,e]
 simp[h1,eQ]
def aAb(ag:∀cs b,z.op≠.select cs b)(ac:FitsE s bs a)(hk:known s z=ak){m:Sem ao}(hm:G9 s z=some m){v:ao}(O:m.run C.P w=.ok v w'):
  (fT a.eval z).run C.P w=.ok (.value v) w'∨(fT a.eval z).run C.P w=.ok .skip w'/\v=ic:=by
 have hu:∀x:Sem Unit,(unit x).run C.P w=.ok v w'->(do x;pure Next.skip:Sem Next).run C.P w=.ok .skip w'/\v=ic:=by
  intro x J;simp only[unit,eW] at J ⊢;cases ajR:x.run C.P w with
  |ok Y ew=>rw[ajR] at J;simp only[jS] at J ⊢;cases J;exact⟨rfl,rfl⟩
  |halt Y ew=>rw[ajR] at J;simp at J
 have aB:∀x:Sem ao,x.run C.P w=.ok v w'->(do pure (Next.value (<-x)):Sem Next).run C.P w=.ok (.value v) w':=by intro x J;simp only[eW,J,jS];rfl
 rw[agh ac ag hk]
 unfold G9 at hm
 unfold fT
 split at hm
 all_goals try(rename_i e;rw[e];cases hm;simp only[])
 case _=>exact .inl (aB _ O)
 case _=>exact .inr (hu _ O)
 case _=>exact .inr (hu _ O)
 case _=>exact .inl (aB _ O)
 case _=>exact .inl (aB _ O)
 case _=>exact .inl (aB _ O)
 case _=>exact .inl (aB _ O)
 case _=>exact .inl (aB _ O)
 case _=>exact .inl (aB _ O)
 case _=>exact .inl (aB _ O)
 case _=>exact .inl (aB _ O)
 case _=>exact .inl (aB _ O)
 case _=>exact .inl (aB _ O)
 case _=>exact .inl (aB _ O)
 case _=>exact .inl (aB _ O)
 case _=>exact .inr (hu _ O)
 case _ c e=>
  rw[e];simp only[];split at hm
  all_goals try(rename_i I;cases hm;left;simp only[resolve,I,pure_bind,invoke,builtin];exact aB _ O)
  rename_i f I;cases hm;left;simp only[resolve,I,aO.ig,aO.val,aO.sv,OT,fU.val,JR,TE,pure_bind,invoke,Array.append_empty,Array.empty_append];simp only[Ay,eW] at O;cases J:(qW f (Array.map s.ig c.args)).run C.P w with
  |halt Y ew=>rw[J] at O;simp at O|ok Y ew=>
   rw[J] at O;simp only[jS] at O;cases Y<;>simp only[] at O<;>first
    |(have NE:x1 _ ew=x1 v w':=O;cases NE;rfl)
    |(simp[stuck] at O)
  cases hm
 case _=>cases hm
def akW(ag:∀cs b,z.op≠.select cs b)(ac:Fits s bs u a w)(h:other C s z u K):z.wp C.P a w (l5 bC K s bs u a w z.dst) Q:=by unfold other at h;split at h;rename_i v e;exact zF (y:=.v v) ac (ak7 ac.toFitsE e w) rfl h;split at h;rename_i hk hm fE;exact abJ ac h λv w' O=>aAb ag ac.toFitsE hk hm O;exact h.elim
def afe(p:bc)(i:N):p.at' i=p.add i:=by
 cases i with
 |zero=>simp[bc.at',eu]|succ i=>rfl
def axD{p:bc}:∀(cr:M aE) (i:N) (f:M ao->Prop),Tl u p i cr f->
  ∃vs,pO cr vs/\f vs/\∀w acc,Sub u w->(loadCellsFrom p i cr.length acc).run P w=.ok (acc++vs.toArray) w:=by
 intro cr
 induction cr with
 |nil=>intro i f h;exact⟨[],.nil,h,λw acc _=>by simp[loadCellsFrom]⟩
 |cons t cr aM=>intro i f h;obtain⟨x,J,O⟩:=h;obtain⟨vs,hk,Fh,nH⟩:=aM (i+1) _ O;refine⟨t.enc x::vs,.cons x hk,Fh,λw acc gW=>?_⟩;rw[afe] at J;have h1:=gW.cell J;simp only[hX,loadCellsFrom,eW,load,rW,h1,jS];rw[nH w _ gW];simp
def axx{cr:M aE}(h:pO cr vs):vs.length=cr.length:=by
 induction h with
 |nil=>rfl|cons _ _ aM=>simp[aM]
def ac1{aI:bf}(h:q8 P t=some aI):
  ∃i d,P.info? t=some i/\P.underlying t=some d/\i.size=aI.iu.length/\
   (∀w,(isAgg t).run P w=.ok (match aI with| .one _=>ax| .agg _=>ak) w):=by
 unfold q8 at h
 split at h
 rename_i i hi
 split at h
 rename_i cs d aC ar
 split at h
 rename_i ay aa
 cases h
 refine⟨i,d,hi,by assumption,?_,?_⟩
 have:=mr aa;simp[bf.iu,this]
 intro w
 unfold ri at ay
 rw[ar] at ay
 simp only[isAgg,eW,underlying,program,rW,jS,ar]
 cases d<;>simp_all
 cases h
 rename_i Y d _ _ _
 have ar:P.underlying t=some d:=by assumption
 split at h
 rename_i ay aa
 cases h
 refine⟨i,d,hi,by assumption,?_,?_⟩
 have:=mr aa;simp[bf.iu,<-this]
 intro w
 unfold ri at ay
 rw[ar] at ay
 simp only[isAgg,eW,underlying,program,rW,jS,ar]
 cases d<;>simp_all
 cases h
 cases h
 cases h
def PA{i:TypeInfo}(h:P.info? t=some i)(w:cg):(sizeOf t).run P w=.ok i.size w:=by simp[sizeOf,typeInfo,program,rW,h]
def Jw{aI:bf}(h:q8 P t=some aI)(p:bc)(hk:vs.length=aI.iu.length)
  (O:(loadCellsFrom p 0 aI.iu.length #[]).run P w=.ok vs.toArray w) (hw:∀c,aI=.one c->∃v,vs=[v]/\w.cell? p=some v):
  (loadVar t p).run P w=.ok (aI.mk vs) w:=by
 obtain⟨i,d,hi,ar,c0,ay⟩:=ac1 h
 unfold loadVar
 rw[eW,ay]
 cases aI with
 |one c=>obtain⟨v,rfl,aB⟩:=hw c rfl;simp[load,rW,aB,bf.mk]
 |agg cs=>simp only[jS,qX,eW,PA hi,loadCells,c0];rw[O];simp[bf.mk]
structure s3(b:N)(z:Obj)(w w':cg):Prop where
 at_:w'.heap[b]?=some z
 size:w'.heap.size=w.heap.size
 os:w'.os=w.os
 tape:w'.tape=w.tape
 output:w'.output=w.output
 drawn:w.drawn<=w'.drawn
 rest:∀x,x≠b->w'.heap[x]?=w.heap[x]?
def s3.refl{z:Obj}{w:cg}(h:w.heap[b]?=some z):s3 b z w w:=⟨h,rfl,rfl,rfl,rfl,cC _,λ_ _=>rfl⟩
def s3.trans{z b7:Obj}{w P9:cg}(h:s3 b z w w')(k:s3 b b7 w' P9):s3 b b7 w P9:=
 ⟨k.at_,k.size.trans h.size,k.os.trans h.os,k.tape.trans h.tape,k.output.trans h.output,jo h.drawn k.drawn,λx J=>(k.rest x J).trans (h.rest x J)⟩
def s3.setCell{c:cv ao}{w:cg}(h:w.heap[b]?=some (.cells c T (0,0)))(v:ao):
  s3 b (.cells (c.setIfInBounds off v) T (0,0)) w (w.setCell ⟨b,off,none⟩ v):=by
 refine⟨?_,by simp[ab1],rfl,rfl,rfl,cC _,λx J=>?_⟩
 simp only[ab1,TF,qX,h,u4]
 simp
 simp only[ab1,TF]
 rw[aG (λe=>J e.symm)]
def adz:∀(vs:M ao) (i:N) (c:cv ao) (w:cg),w.heap[b]?=some (.cells c T (0,0))->
  off+i+vs.length<=c.size->(∀v∈vs,v.oneCell'=ak)->∃w',(storeCells ⟨b,off,none⟩ vs i).run P w=.ok () w'/\s3 b (.cells (wr c (off+i) vs) T (0,0)) w w':=by
 intro vs
 induction vs with
 |nil=>intro i c w h _ _;exact⟨w,rfl,.refl h⟩
 |cons v vs aM=>
  intro i c w h ap h1;simp only[hX] at ap;have hw:=s3.setCell (off:=off+i) h v;obtain⟨w',O,j2⟩:=aM (i+1) _ _ hw.at_ (by simp;omega) (λx J=>h1 x (.tail _ J));refine⟨w',?_,?_⟩;have ay:(⟨b,off,none⟩:bc).add i=⟨b,off+i,none⟩:=by unfold eu;split<;>simp_all
  have I:w.cell? ⟨b,off+i,none⟩=some c[off+i]:=by simp only[JM,h];simp[x3 (show off+i<c.size by omega)]
  have IB:w.frozen? ⟨b,off+i,none⟩=ax:=by simp[GI,h]
  simp only[storeCells,eW,ay];rw[run_store P w _ v _ (h1 v (.head _)),I];simp only[IB,DJ,BL,jS];exact O;have:=hw.trans j2;simpa[wr,Nat.add_assoc] using this
def ann{i:TypeInfo}(hi:P.info? t=some i){v:ao}(c0:v.cells.size=i.size){c:cv ao}{w:cg}
  (h:w.heap[b]?=some (.cells c T (0,0))) (ap:off+v.cells.toList.length<=c.size) (h1:∀x∈v.cells.toList,x.oneCell'=ak):
  ∃w',(storeVar t ⟨b,off,none⟩ v).run P w=.ok () w'/\s3 b (.cells (wr c off v.cells.toList) T (0,0)) w w':=by
 obtain⟨w',O,hw⟩:=adz (P:=P) (off:=off) v.cells.toList 0 c w h (by simpa using ap) h1
 refine⟨w',?_,by simpa using hw⟩
 unfold storeVar
 rw[eW,PA hi]
 simp only[jS,c0,ne_eq,not_true_eq_false,BL]
 exact O
def akr{cs:M ao}{w:cg}(h:w.heap[b]?=some (.cells cs.toArray T (0,0))):∀(n i:N) (acc:cv ao),
  off+i+n<=cs.length->(loadCellsFrom ⟨b,off,none⟩ i n acc).run P w=.ok (acc++((cs.drop (off+i)).take n).toArray) w:=by
 intro n
 induction n with
 |zero=>intro i acc _;simp[loadCellsFrom]
 |succ n aM=>
  intro i acc ap;have ay:(⟨b,off,none⟩:bc).add i=⟨b,off+i,none⟩:=by unfold eu;split<;>simp_all
  have bw:off+i<cs.length:=by omega
  have I:w.cell? ⟨b,off+i,none⟩=some cs[off+i]:=by simp only[JM,h];simp[bw]
  simp only[loadCellsFrom,eW,load,rW,ay,I,jS];rw[aM (i+1) _ (by omega)];rw[tF bw,BM,<-Nat.add_assoc];simp
def Fits.ayA(ac:Fits s bs u a w)(cs:M ao)(T:dF):
  Fits {s with loc:=s.loc++ [cs]} (bs++ [w.heap.size]) u a (w.alloc (.cells cs.toArray T (0,0)))/\
  Step u bs w u (bs++ [w.heap.size]) (w.alloc (.cells cs.toArray T (0,0))):=by
 have mY:∀(b:N) (z:Obj),w.heap[b]?=some z->(w.alloc (.cells cs.toArray T (0,0))).heap[b]?=some z:=by
  intro b z e;have bw:b<w.heap.size:=by rcases kB b w.heap.size with k|k;exact k;rw[DH k] at e;cases e
  show(w.heap.push _)[b]?=_;rw[TG,aG (by omega)];exact e
 refine⟨⟨⟨ac.defers,ac.n,?_⟩,by simp[ac.len],?_,?_,?_,λb z e=>mY b z (ac.sub b z e)⟩,⟨λb z e=>mY b z (ac.sub b z e),rfl,rfl,rfl,cC _,by rw[DK];omega,?_,λ_ _ e=>e,[w.heap.size],rfl,by simp⟩⟩
 intro p ad
 obtain⟨v,h1,h2⟩:=ac.env p ad
 refine⟨v,?_,h2⟩
 cases J:p.2<;>rw[J] at h1<;>first|exact h1|skip
 rename_i i off
 simp only[hA] at h1 ⊢
 split at h1
 rename_i b aa
 have bw:i<bs.length:=by rcases kB i bs.length with k|k;exact k;rw[iO k] at aa;cases aa
 rw[qY bw,aa];exact h1
 cases h1
 intro i yL e
 rcases kB i s.loc.length with k|k
 rw[qY k] at e
 obtain⟨b,bB,h1,h2⟩:=ac.loc i yL e
 exact⟨b,bB,by rw[qY (by rw[ac.len];exact k)];exact h1,mY _ _ h2⟩
 rw[JS k] at e
 have hi:i=s.loc.length:=by rcases ab2 k with dV|dV;exact dV.symm;rw[iO (by simp;omega)] at e;cases e
 subst hi
 simp only[Nat.sub_self,BN,kC] at e
 subst e
 refine⟨w.heap.size,T,by rw[<-ac.len];simp,?_⟩
 show(w.heap.push _)[w.heap.size]?=_
 simp
 rw[fZ]
 refine⟨ac.nodup,by simp,?_⟩
 intro x J y ai
 simp only[gp] at ai
 subst ai
 have:=(ac.cm x J).2
 omega
 intro b aa
 rcases cM.1 aa with aa|aa
 exact⟨(ac.cm b aa).1,by have:=(ac.cm b aa).2;rw[DK];omega⟩
 simp only[gp] at aa
 subst aa
 exact⟨ac.sub.none (cC _),by rw[DK];omega⟩
 intro b aa _ _
 show(w.heap.push _)[b]?=_
 rw[TG,aG (by omega)]
def Fits.BD(ac:Fits s bs u a w)(z:Obj):
  Fits s bs (u.ins w.heap.size z) a (w.alloc z)/\Step u bs w (u.ins w.heap.size z) bs (w.alloc z):=by
 have mY:∀(b:N) (p:Obj),w.heap[b]?=some p->(w.alloc z).heap[b]?=some p:=by
  intro b p e;have bw:b<w.heap.size:=by rcases kB b w.heap.size with k|k;exact k;rw[DH k] at e;cases e
  show(w.heap.push _)[b]?=_;rw[TG,aG (by omega)];exact e
 have gW:Sub (u.ins w.heap.size z) (w.alloc z):=by intro b p e;unfold H.ins at e;split at e;rename_i aa;subst aa;cases e;show(w.heap.push _)[w.heap.size]?=_;simp;exact mY b p (ac.sub b p e)
 refine⟨⟨⟨ac.defers,ac.n,ac.env⟩,ac.len,?_,ac.nodup,?_,gW⟩,⟨gW,rfl,rfl,rfl,cC _,by rw[DK];omega,?_,?_,[],by simp,by simp⟩⟩
 intro i cs e
 obtain⟨b,T,h1,h2⟩:=ac.loc i cs e
 exact⟨b,T,h1,mY _ _ h2⟩
 intro b aa
 have:=ac.cm b aa
 exact⟨by rw[H.bq u z (by omega)];exact this.1,by rw[DK];omega⟩
 intro b aa _ _
 show(w.heap.push _)[b]?=_
 rw[TG,aG (by omega)]
 intro b aa e
 rw[H.bq u z (by omega)];exact e
def ac0{α:Type}(l:M α)(i:N)(y:α)(j:N):(tN l i y)[j]?=if i=j/\j<l.length then some y else l[j]?:=by
 induction l generalizing i j with
 |nil=>simp[tN]|cons x xs aM=>
  cases i with
  |zero=>cases j<;>simp[tN]
  |succ i=>cases j with
   |zero=>simp[tN]|succ j=>simp only[tN,x4,aM];simp
def UC{α:Type}(l:M α)(i:N)(y:α):(tN l i y).length=l.length:=by
 induction l generalizing i with
 |nil=>rfl|cons x xs aM=>cases i<;>simp[tN,aM]
def aom:∀(vs cs:M ao) (off:N),off+vs.length<=cs.length->wr cs.toArray off vs=(over cs off vs).toArray:=by
 intro vs;induction vs with
 |nil=>intro cs off _;simp[wr,over]
 |cons v vs aM=>
  intro cs off h;simp only[hX] at h;simp only[wr];rw[alc,aM _ _ (by simp;omega)];congr 1;apply sB;intro j;simp only[over,TH,eD,gq,qZ,JT,u5,zK,hX];have aQ:min off cs.length=off:=by omega
  have aF:min (off+1) cs.length=off+1:=by omega
  rw[aQ,aF];rcases TI j off with h1|h1|h1;rw[a1 (by omega),a1 (by omega),a1 (by omega),aG (by omega),a1 (by omega),a1 (by omega),a1 (by omega)];subst h1;rw[a1 (by omega),a1 (by omega),a1 (by omega),a1 rfl,a1 (by omega),a1 (by omega),aG (by omega)];simp;by_cases h2:j<off+(vs.length+1);rw[a1 (by omega),aG (by omega),a1 h2,aG (by omega)];have:j-off=(j-(off+1))+1:=by omega
  rw[this,x4];rw[aG (by omega),aG (by omega)];rw[aG (by omega)];congr 1;omega
def afq{x:fU}{b:aD}(h:Q8 x=some b)(bs:M N):hA bs x=some (.bool b):=by unfold Q8 at h;split at h<;>first|(cases h;rfl)|cases h
section
variable {P:dT} (d:N) {t:dF} (w:cg)
def age(hu:P.underlying t=some (.pointer e))(p:aA bc):(x5 (d+1) t (.pointer p) (.pointer none)).run P w=.ok p.isNone w:=by simp only[x5,eW,underlying,program,rW,jS,hu];cases p<;>simp
def arw(hu:P.underlying t=some (.slice e))(a:aA bc)(n c m k:N):(x5 (d+1) t (.slice a n c) (.slice none m k)).run P w=.ok a.isNone w:=by simp only[x5,eW,underlying,program,rW,jS,hu];cases a<;>simp
def arv{k:dF}(hu:P.underlying t=some (.map k e))(a:aA N):(x5 (d+1) t (.map a) (.map none)).run P w=.ok a.isNone w:=by simp only[x5,eW,underlying,program,rW,jS,hu];cases a<;>simp
def aru(hu:P.underlying t=some .bool)(a b:aD):(x5 (d+1) t (.bool a) (.bool b)).run P w=.ok (a==b) w:=by simp only[x5,eW,underlying,program,rW,jS,hu];rfl
end
def LQ{x y:ao}{b:aD}{w:cg}(h:(x5 (9999+1) t x y).run P w=.ok b w):(Op.equal t x y).run P w=.ok b w:=h
set_option maxHeartbeats 1000000 in
def ary(fN:Good C){x y:fU}{Y:Cz}(h:LP C t x y=some Y)(bs:M N){P7 P8:ao}(J:hA bs x=some P7)(ai:hA bs y=some P8)(abM abN:jR)(w:cg):
  (do eqGuard .eql t abM abN P7 P8;binOp .eql t P7 P8:Sem ao).run C.P w=.ok (.bool (@decide Y.p Y.d)) w/\
  (do eqGuard .neq t abM abN P7 P8;binOp .neq t P7 P8:Sem ao).run C.P w=.ok (.bool (!@decide Y.p Y.d)) w:=by
 unfold LP at h
 split at h
 rename_i p
 cases J;cases ai
 split at h
 rename_i e hu
 cases h
 have O:=age 9999 w hu p
 have ar:@decide (p=none) (HX p)=p.isNone:=by cases p<;>simp
 simp only[eqGuard_at_pointer,pure_bind,binOp,eW]
 rw[LQ O]
 simp[ar]
 cases h
 rename_i q
 cases J;cases ai
 split at h
 rename_i e hu
 cases h
 have O:=age 9999 w hu (some q)
 simp only[eqGuard_at_pointer,pure_bind,binOp,eW]
 rw[LQ O]
 simp
 cases h
 rename_i a n c m k
 cases J;cases ai
 split at h
 rename_i e hu
 cases h
 have O:=arw 9999 w hu a n c m k
 have ar:@decide (a=none) (HX a)=a.isNone:=by cases a<;>simp
 simp only[eqGuard_at_slice,pure_bind,binOp,eW]
 rw[LQ O]
 simp[ar]
 cases h
 rename_i a
 cases J;cases ai
 split at h
 rename_i k e hu
 cases h
 have O:=arv 9999 w hu a
 have ar:@decide (a=none) (HX a)=a.isNone:=by cases a<;>simp
 simp only[eqGuard_at_map,pure_bind,binOp,eW]
 rw[LQ O]
 simp[ar]
 cases h
 rename_i xs e9
 cases J;cases ai
 split at h
 rename_i n hm
 split at h
 rename_i gC ia
 obtain⟨h1,h2,h3⟩:=fN.eq t n hm xs e9 Y (mr gC) (mr ia) h abM abN w
 simp only[eW,h1,h2,jS,binOp,h3]
 exact⟨rfl,rfl⟩
 cases h
 cases h
 rename_i x y
 cases J;cases ai
 cases h
 simp only[eqGuard_at_string,pure_bind,binOp,Op.stringOp]
 constructor
 show x1 _ _=_
 congr 2
 by_cases e:x.toList=y.toList<;>simp[e]
 show x1 _ _=_
 congr 2
 by_cases e:x.toList=y.toList<;>simp[e,bne]
 split at h
 rename_i a b ay aa hu
 cases h
 have h1:=afq ay bs
 have h2:=afq aa bs
 rw[J] at h1;rw[ai] at h2
 cases h1;cases h2
 have O:=aru 9999 w hu a b
 simp only[eqGuard_at_bool,pure_bind,binOp,eW]
 rw[LQ O]
 constructor
 show x1 _ _=_
 congr 2
 show x1 _ _=_
 congr 2
 cases h
end
end
section
variable{t:dF}{P:dT}{v:ao}{p:bc}{i n off d f:N}{cs:M ao}
section
variable {C:lg} {bC:N->aD} {s:aO} {z:eN} {u:H} {K:aO->H->Prop} {bs:M N} {a:eo} {w:cg} {Q:kR->eo->cg->Prop}
def zX{m:Sem ao}{w w':cg}(h:m.run P w=.ok v w'):(do pure (Next.value (<-m)):Sem Next).run P w=.ok (.value v) w':=by simp only[eW,h,jS];rfl
def alO{m:Sem Unit}{w w':cg}(h:m.run P w=.ok () w'):(do m;pure Next.skip:Sem Next).run P w=.ok .skip w':=by simp only[eW,h,jS];rfl
def UA(ac:FitsE s bs a){x:jR}(e:z.op=.move x∨z.op=.assign x)(h:match s.sv x with|some y=>K (s.put z.dst y) u|none=>ed):
  vu C s z u K bs a:=by
 split at h
 rename_i y ai
 refine⟨y,a.eval x,h,(ac.sv ai),λw=>?_⟩
 rcases e with e|e<;>(unfold fT;rw[e];rfl)
 exact h.elim
def wG(ac:FitsE s bs a){c x y:jR}(e:z.op=.pick c x y){b:aD}(I:a.eval c=.bool b){Y:fU}(aC:s.sv (if b then x else y)=some Y)(h:K (s.put z.dst Y) u):
  vu C s z u K bs a:=by
 refine⟨Y,a.eval (if b then x else y),h,(ac.sv aC),λw=>?_⟩
 unfold fT
 rw[e]
 simp only[I]
 cases b<;>rfl
def yK(ac:FitsE s bs a){x:jR}(h:s.sv x=some (.v v)):a.eval x=v:=by have:=ac.sv h;simp only[hA,kC] at this;exact this.symm
def EI(ac:FitsE s bs a){x:jR}(h:s.sv x=some (.ptr p)):a.eval x=.pointer (some p):=by have:=ac.sv h;simp only[hA,kC] at this;exact this.symm
def EH(ac:FitsE s bs a){x:jR}(h:s.sv x=some (.loc i off)):∃b,bs[i]?=some b/\a.eval x=.pointer (some ⟨b,off,none⟩):=by have:=ac.sv h;simp only[hA] at this;split at this;rename_i b aa;simp only[kC] at this;exact⟨b,aa,this.symm⟩;cases this
def alR(ac:FitsE s bs a){op:BinOp}{ym:dF}{x y:jR}(e:z.op=.binOp op t x y ym){k dV:xZ}{m n:o}
  (J:s.sv x=some (.v (.int k m))) (ai:s.sv y=some (.v (.int dV n)))
  (h:match Rc op m n with
   |some Y=>match zl dV k with
    |true=>K (s.put z.dst Y) u|false=>ed
   |none=>match aaO op ||zl dV k with
    |true=>Q3 C.wrap op k m n λY=>K (s.put z.dst (.v (.int k Y))) u|false=>ed):vu C s z u K bs a:=by
 have ex:=yK ac J
 have tb:=yK ac ai
 have nH:∀v w,(binOp op t (.int k m) (.int dV n)).run C.P w=.ok v w->(fT a.eval z).run C.P w=.ok (.value v) w:=by intro v w aB;unfold fT;rw[e];simp only[ex,tb,eqGuard_at_int,pure_bind];exact zX aB
 split at h
 rename_i Y aC
 split at h
 rename_i hk
 have:=Og hk
 subst this
 obtain⟨v,h1,h2⟩:=aqH aC C.P t dV bs
 exact⟨Y,v,h,h1,λw=>nH v w (h2 w)⟩
 exact h.elim
 split at h
 rename_i hk
 obtain⟨Y,h1,h2⟩:=apu h C.P t dV (by simp only[Bool.or_eq_true] at hk;rcases hk with hk|hk;cases op<;>simp[aaO] at hk<;>simp;exact .inl (Og hk))
 exact⟨.v (.int k Y),_,h1,rfl,λw=>nH _ w (h2 w)⟩
 exact h.elim
def Uy(fN:Good C)(ac:FitsE s bs a){op:BinOp}{ym:dF}{x y:jR}(e:z.op=.binOp op t x y ym){p q:fU}(J:s.sv x=some p)(ai:s.sv y=some q)
  {Y:Cz} (aC:LP C t p q=some Y) (h:(op=.eql/\K (s.put z.dst (.dec Y.p Y.d)) u)∨(op=.neq/\K (s.put z.dst (.uX Y.p Y.d)) u)):
  vu C s z u K bs a:=by
 have yW:=ary fN aC bs (ac.sv J) (ac.sv ai) x y
 rcases h with⟨rfl,h⟩|⟨rfl,h⟩
 refine⟨.dec Y.p Y.d,.bool (@decide Y.p Y.d),h,rfl,λw=>?_⟩
 unfold fT;rw[e];exact zX (yW w).1
 refine⟨.uX Y.p Y.d,.bool (!@decide Y.p Y.d),h,rfl,λw=>?_⟩
 unfold fT;rw[e];exact zX (yW w).2
def zZ(ac:FitsE s bs a){x:jR}(e:z.op=.unOp .not t x){b:aD}(J:a.eval x=.bool b){Y:fU}(aC:hA bs Y=some (.bool (!b)))(h:K (s.put z.dst Y) u):
  vu C s z u K bs a:=by
 refine⟨Y,.bool (!b),h,aC,λw=>?_⟩
 unfold fT;rw[e]
 simp only[J]
 rfl
def alX(ac:FitsE s bs a){x:jR}(e:z.op=.load t x)(J:s.sv x=some (.loc i off)){aI:bf}(fE:q8 C.P t=some aI)
  (ap:s.loc[i]?=some cs) (aa:off+aI.iu.length<=cs.length) (h:K (s.put z.dst (.v (aI.mk ((cs.drop off).take aI.iu.length)))) u):
  QT C s z u K bs a:=by
 obtain⟨Av,rv,fw⟩:=EH ac J
 refine⟨.v _,aI.mk ((cs.drop off).take aI.iu.length),h,rfl,λw hw=>?_⟩
 obtain⟨b,T,h1,h2⟩:=hw.loc i cs ap
 rw[h1] at rv;cases rv
 unfold fT;rw[e]
 refine zX ?_
 simp only[fw,Instr.loadAt,JU,pure_bind]
 refine Jw fE _ (by simp;omega) ?_ ?_
 have:=akr (P:=C.P) (off:=off) h2 aI.iu.length 0 #[] (by simpa using aa)
 simpa using this
 intro c I
 subst I
 simp only[bf.iu,hX,oB] at aa ⊢
 have bw:off<cs.length:=by omega
 refine⟨cs[off],?_,?_⟩
 rw[tF bw];rfl
 simp only[JM,h2];simp[bw]
def alY(ac:FitsE s bs a){x:jR}(e:z.op=.load t x)(J:s.sv x=some (.ptr p)){aI:bf}(fE:q8 C.P t=some aI)
  (h:Tl u p 0 aI.iu λvs=>K (s.put z.dst (.v (aI.mk vs))) u):QT C s z u K bs a:=by
 obtain⟨vs,hk,av,O⟩:=axD (P:=C.P) aI.iu 0 _ h
 refine⟨.v _,aI.mk vs,av,rfl,λw hw=>?_⟩
 have vZ:=O w #[] hw.sub
 unfold fT;rw[e]
 refine zX ?_
 simp only[EI ac J,Instr.loadAt,JU,pure_bind]
 refine Jw fE p (axx hk) (by simpa using vZ) ?_
 intro c I
 subst I
 cases hk with
 |cons x dJ=>
  cases dJ;obtain⟨y,ai,_⟩:=h;have I:=hw.sub.cell ai;refine⟨_,rfl,?_⟩;have dz:=vZ;simp only[bf.iu,hX,oB,loadCellsFrom,eW,load,rW] at dz;have eK:p.add 0=p:=by simp[eu]
  rw[eK] at dz;have dd:w.cell? p=some (aE.enc c y):=I;rw[dd] at dz ⊢;simp at dz;rw[dz]
def ayO{vs:M ao}(h:OG vs=ak):∀v∈vs,v.oneCell'=ak:=by
 induction vs with
 |nil=>simp|cons v vs aM=>
  simp only[OG,pF] at h;intro x J;cases J with
  |head=>exact h.1|tail _ J=>exact aM h.2 x J
def Kept.aAm(hw:bC i=ak)(l:M ao):Kept bC s {s with loc:=tN s.loc i l}:=by refine⟨rfl,by simp[UC],?_⟩;intro j cs h aN;simp only[ac0];rw[aG];exact h;rintro⟨rfl,_⟩;rw[hw] at aN;cases aN
def az7(ac:Fits s bs u a w){x y:jR}(e:z.op=.store t x y)(J:s.sv x=some (.loc i off))(ai:s.val y=some v)
  {aI:bf} (fE:q8 C.P t=some aI) {cs:M ao} (ap:s.loc[i]?=some cs) (hw:bC i=ak) (c0:v.cells.size=aI.iu.length) (h1:OG v.cells.toList=ak)
  (aa:off+aI.iu.length<=cs.length) (h:K ({s with loc:=tN s.loc i (over cs off v.cells.toList)}.drop z.dst) u):z.wp C.P a w (l5 bC K s bs u a w z.dst) Q:=by
 obtain⟨b,T,io,kK⟩:=ac.loc i cs ap
 obtain⟨Av,ahw,fw⟩:=EH ac.toFitsE J
 rw[io] at ahw;cases ahw
 obtain⟨aCv,d,aab,_,aae,_⟩:=ac1 fE
 have Bq:v.cells.toList.length=aI.iu.length:=by rw[r0];exact c0
 obtain⟨w',O,k7⟩:=ann (P:=C.P) aab (off:=off) (v:=v) (by rw[aae];exact c0) kK (by rw[Bq];simpa using aa) (ayO h1)
 rw[aom _ _ _ (by rw[Bq];exact aa)] at k7
 have hm:b∈bs:=dB io
 have ci:=ac.cm b hm
 have bw:i<bs.length:=by rcases kB i bs.length with k|k;exact k;rw[iO k] at io;cases io
 have gW:Sub u w':=by
  intro x p ex;have an:x≠b:=λe=>by subst e;rw[ci.1] at ex;cases ex
  rw[k7.rest x an];exact ac.sub x p ex
 have cS:Fits {s with loc:=tN s.loc i (over cs off v.cells.toList)} bs u a w':=by
  refine⟨⟨ac.defers,ac.n,ac.env⟩,by simp[UC,ac.len],?_,ac.nodup,λx J=>⟨(ac.cm x J).1,by rw[k7.size];exact(ac.cm x J).2⟩,gW⟩;intro j yL rp;simp only[ac0] at rp;split at rp;rename_i aN;obtain⟨rfl,_⟩:=aN;cases rp;exact⟨b,T,io,k7.at_⟩;rename_i aN;obtain⟨fu,Ey,h3,a7⟩:=ac.loc j yL rp;refine⟨fu,Ey,h3,?_⟩;rw[k7.rest fu ?_];exact a7;rintro rfl;have kM:j<bs.length:=by rcases kB j bs.length with k|k;exact k;rw[iO k] at h3;cases h3
  have gV:i=j:=by exact(List.getElem?_inj bw ac.nodup (j:=j)).1 (by rw[io,h3])
  subst gV;exact aN ⟨rfl,by rw[<-ac.len];exact bw⟩
 have dY:Step u bs w u bs w':=⟨gW,k7.os,k7.tape,k7.output,k7.drawn,by rw[k7.size];exact cC _,λx J oV aiX=>k7.rest x (λe=>by subst e;exact aiX hm),λ_ _ e=>e,[],by simp,by simp⟩
 unfold DI
 have nH:(fT a.eval z).run C.P w=.ok .skip w':=by unfold fT;rw[e];refine alO ?_;simp only[fw,ac.val ai,Instr.storeAt,JU,pure_bind];exact O
 rw[nH]
 exact⟨_,u,bs,ic,h,cS.drop z.dst ic,dY,rfl,(Kept.aAm hw _).trans (Kept.drop bC _ z.dst)⟩
def az8(ac:Fits s bs u a w){x y:jR}(e:z.op=.store t x y)(J:s.sv x=some (.ptr p))(ai:s.val y=some v)
  {aI:bf} (fE:q8 C.P t=some aI) (c0:v.cells.size=aI.iu.length) (h:u.aO p v.cells.toList λu'=>K (s.drop z.dst) u'):z.wp C.P a w (l5 bC K s bs u a w z.dst) Q:=by
 obtain⟨c,T,I,uL,ap,h1,av⟩:=h
 obtain⟨aCv,d,aab,_,aae,_⟩:=ac1 fE
 obtain⟨b,off,sp⟩:=p
 simp only at uL I ap av
 subst uL
 have b5:=ac.sub _ _ I
 obtain⟨w',O,k7⟩:=ann (P:=C.P) aab (off:=off) (v:=v) (by rw[aae];exact c0) b5 ap h1
 have gW:Sub (u.ins b (.cells (wr c off v.cells.toList) T (0,0))) w':=by intro x p ex;unfold H.ins at ex;split at ex;rename_i aaz;subst aaz;cases ex;exact k7.at_;rename_i aaz;rw[k7.rest x aaz];exact ac.sub x p ex
 have an:∀x,u x=none->x≠b:=λkV fQ fW=>by rw[fW,I] at fQ;cases fQ
 have cS:Fits s bs (u.ins b (.cells (wr c off v.cells.toList) T (0,0))) a w':=by refine⟨⟨ac.defers,ac.n,ac.env⟩,ac.len,?_,ac.nodup,?_,gW⟩;intro j yL rp;obtain⟨fu,Ey,h3,a7⟩:=ac.loc j yL rp;exact⟨fu,Ey,h3,by rw[k7.rest fu (an fu (ac.cm fu (dB h3)).1)];exact a7⟩;intro x J;have:=ac.cm x J;exact⟨by rw[H.bq u _ (an x this.1)];exact this.1,by rw[k7.size];exact this.2⟩
 have dY:Step u bs w (u.ins b (.cells (wr c off v.cells.toList) T (0,0))) bs w':=
  ⟨gW,k7.os,k7.tape,k7.output,k7.drawn,by rw[k7.size];exact cC _,λx J oV aiX=>k7.rest x (an x oV),λx _ oV=>by rw[H.bq u _ (an x oV)];exact oV,[],by simp,by simp⟩
 unfold DI
 have nH:(fT a.eval z).run C.P w=.ok .skip w':=by unfold fT;rw[e];refine alO ?_;simp only[EI ac.toFitsE J,ac.val ai,Instr.storeAt,JU,pure_bind];exact O
 rw[nH]
 exact⟨_,_,bs,ic,av,cS.drop z.dst ic,dY,rfl,Kept.drop bC _ z.dst⟩
def aGp(h:zeroOf P t=some cs)(w:cg):∃Y,(zeroValue t).run P w=.ok Y w/\Y.cells.toList=cs:=by
 unfold zeroOf at h;split at h;rename_i i hi;cases aC:i.zero with
 |none=>rw[aC] at h;cases h
 |some Y=>rw[aC] at h;simp only[u4,kC] at h;exact⟨Y,by simp[zeroValue,typeInfo,program,rW,hi,aC],h⟩
 cases h
def akM(t:dF)(v:ao)(w:cg):(newVar t v).run P w=.ok ⟨w.heap.size,0,none⟩ (w.alloc (.cells v.cells t (0,0))):=by simp only[newVar,newRow,newObj,eW,rW,jS];rfl
def alZ(ac:Fits s bs u a w)(ar:z.dst=some d)(O:(fT a.eval z).run C.P w=.ok (.value (.pointer (some ⟨w.heap.size,0,none⟩))) (w.alloc (.cells v.cells t (0,0))))
  (h:match gQ C.exp d with
   |true=>∀b,u b=none->K (s.put (some d) (.ptr ⟨b,0,none⟩)) (u.ins b (.cells v.cells.toList.toArray t (0,0)))|false=>K ({s with loc:=s.loc++ [v.cells.toList]}.put (some d) (.loc s.loc.length 0)) u):z.wp C.P a w (l5 bC K s bs u a w z.dst) Q:=by
 unfold DI
 rw[O]
 have aQ:v.cells.toList.toArray=v.cells:=by simp
 split at h
 have bW:=h w.heap.size (ac.sub.none (cC _))
 rw[aQ,<-ar] at bW
 obtain⟨h1,h2⟩:=ac.BD (.cells v.cells t (0,0))
 exact⟨_,_,bs,_,bW,h1.put z.dst (x:=.ptr _) rfl,h2,rfl,Kept.put bC s _ _⟩
 obtain⟨h1,h2⟩:=ac.ayA v.cells.toList t
 rw[aQ] at h1 h2
 rw[<-ar] at h
 refine⟨_,_,_,_,h,h1.put z.dst (x:=.loc s.loc.length 0) ?_,h2,rfl,?_⟩
 simp only[hA]
 rw[<-ac.len]
 simp
 refine Kept.trans (b:={s with loc:=s.loc++ [v.cells.toList]}) ⟨rfl,by simp,λi cs e _=>?_⟩ (Kept.put bC _ _ _)
 have bw:i<s.loc.length:=by rcases kB i s.loc.length with k|k;exact k;rw[iO k] at e;cases e
 show(s.loc++ [v.cells.toList])[i]?=_
 rw[qY bw];exact e
def az5(ac:Fits s bs u a w)(e:z.op=.alloc t)(ar:z.dst=some d)(aC:zeroOf C.P t=some cs)
  (h:match gQ C.exp d with
   |true=>∀b,u b=none->K (s.put (some d) (.ptr ⟨b,0,none⟩)) (u.ins b (.cells cs.toArray t (0,0)))|false=>K ({s with loc:=s.loc++ [cs]}.put (some d) (.loc s.loc.length 0)) u):z.wp C.P a w (l5 bC K s bs u a w z.dst) Q:=by
 obtain⟨Y,aw2,rfl⟩:=aGp aC w
 refine alZ ac ar (t:=t) (v:=Y) ?_ h
 unfold fT;rw[e]
 refine zX ?_
 simp only[Instr.alloc,eW,aw2,jS,akM]
 rfl
def az6(ac:Fits s bs u a w){x:jR}(e:z.op=.box t x)(ar:z.dst=some d)(J:s.val x=some v)
  (h:match gQ C.exp d with
   |true=>∀b,u b=none->K (s.put (some d) (.ptr ⟨b,0,none⟩)) (u.ins b (.cells v.cells.toList.toArray t (0,0)))|false=>K ({s with loc:=s.loc++ [v.cells.toList]}.put (some d) (.loc s.loc.length 0)) u):z.wp C.P a w (l5 bC K s bs u a w z.dst) Q:=by
 refine alZ ac ar (t:=t) (v:=v) ?_ h
 unfold fT;rw[e]
 refine zX ?_
 simp only[Instr.box,ac.val J,eW,akM,jS]
 rfl
def P1{d:TypeDesc}(h:P.underlying t=some d)(w:cg):(underlying t).run P w=.ok d w:=by simp[underlying,program,rW,h]
def alT{x:jR}(e:z.op=.fieldAddr t x f)(ae:OF C.P t f=some n)(J:a.eval x=.pointer (some p))(w:cg):
  (fT a.eval z).run C.P w=.ok (.value (.pointer (some (p.add n)))) w:=by
 unfold OF at ae
 split at ae
 rename_i aW hu
 split at ae
 rename_i g W
 split at ae
 rename_i m hm
 cases ae
 simp only[yj,TJ] at hm
 obtain⟨i,hi,c0⟩:=hm
 unfold fT;rw[e]
 refine zX ?_
 simp only[Instr.fieldAt,eW,P1 hu,jS,W,J,JU,fieldPlace,PA hi,c0]
 simp[PA hi,c0]
 cases ae
 cases ae
 cases ae
def alU(ac:FitsE s bs a){x:jR}(e:z.op=.fieldAddr t x f)(ae:OF C.P t f=some n)(J:s.sv x=some (.loc i off))
  (h:K (s.put z.dst (.loc i (off+n))) u):vu C s z u K bs a:=by
 obtain⟨b,aa,fw⟩:=EH ac J
 refine⟨.loc i (off+n),_,h,?_,alT (C:=C) e ae fw⟩
 have:(⟨b,off,none⟩:bc).add n=⟨b,off+n,none⟩:=by unfold eu;split<;>simp_all
 simp[hA,aa,this]
def alV(ac:FitsE s bs a){x:jR}(e:z.op=.fieldAddr t x f)(ae:OF C.P t f=some n)(J:s.sv x=some (.ptr p))
  (h:K (s.put z.dst (.ptr (p.at' n))) u):vu C s z u K bs a:=by
 rw[afe] at h
 exact⟨.ptr (p.add n),_,h,rfl,alT (C:=C) e ae (EI ac J)⟩
def amh(h:yj P t=some n)(w:cg):(sizeOf t).run P w=.ok n w:=by simp only[yj,TJ] at h;obtain⟨i,hi,c0⟩:=h;rw[PA hi,c0]
def alW(ac:FitsE s bs a){fW:dF}{x bu:jR}(e:z.op=.indexAddr t x bu)(hu:C.P.underlying t=some (.slice fW)){aR:aA bc}{c:N}(J:s.sv x=some (.v (.slice aR n c)))
  {k:xZ} {i:o} (hi:s.sv bu=some (.v (.int k i))) {hG:N} (c0:yj C.P fW=some hG)
  (h:∃p,aR=some p/\(0<=i/\i<n)/\K (s.put z.dst (.ptr (p.add (i.toNat*hG)))) u):vu C s z u K bs a:=by
 obtain⟨p,rfl,aa,av⟩:=h
 refine⟨.ptr _,.pointer (some (p.add (i.toNat*hG))),av,rfl,λw=>?_⟩
 unfold fT;rw[e]
 refine zX ?_
 simp only[Instr.indexAt,yK ac J,yK ac hi,asIntOf,pure_bind,eW,P1 hu,jS]
 simp[aa,amh c0,P1 hu]
def Uz(ac:FitsE s bs a){fW:dF}{len:N}{x bu:jR}(e:z.op=.indexAddr t x bu)(hu:C.P.underlying t=some (.array len fW))(J:a.eval x=.pointer (some p))
  {k:xZ} {i:o} (hi:s.sv bu=some (.v (.int k i))) {hG:N} (c0:yj C.P fW=some hG) (aa:0<=i/\i<len) (w:cg):
  (fT a.eval z).run C.P w=.ok (.value (.pointer (some (p.add (i.toNat*hG))))) w:=by
 unfold fT;rw[e]
 refine zX ?_
 simp only[Instr.indexAt,J,yK ac hi,asIntOf,pure_bind,eW,P1 hu,jS,JU]
 simp[aa,amh c0,P1 hu]
end
end
section
variable {C:lg} {bC:N->aD} {s:aO} {z:eN} {u:H} {K:aO->H->Prop} {bs:M N} {a:eo} {w:cg} {Q:kR->eo->cg->Prop}
def alS(fN:Good C)(ac:Fits s bs u a w){c:Call}(e:z.op=.call c)
  (h:match P5 s c.args,Pz C.P z.type with
  |some vs,some ss=>match c.callee with
   | .value (.func f)=>match hf C.P f with
    |true=>hx C.P f vs.toArray ss u (s6 s z.dst ss K)|false=>match akN C.P f with
     |true=>c9 C.P (Ay f vs.toArray) ss u (s6 s z.dst ss K)|false=>ed
   | .value x=>match s.sv x with
    |some (.v fv)=>h8 C.P fv vs.toArray ss u (s6 s z.dst ss K)|_=>ed
   | .invoke x name=>match s.sv x with
    |some (.v r)=>nn C.P r name vs.toArray ss u (s6 s z.dst ss K)|_=>ed
   | .builtin _=>other C s z u K
  |_,_=>ed):z.wp C.P a w (l5 bC K s bs u a w z.dst) Q:=by
 split at h
 rename_i vs ss aB v8
 have E8:=anZ ac.toFitsE aB
 split at h
 rename_i f I
 have J:∀bD,(fT a.eval z).run C.P bD=(qW f vs.toArray).run C.P bD:=by intro bD;unfold fT;rw[e];simp only[resolve,I,Act.eval,TE,pure_bind,invoke,E8];simp
 split at h
 rename_i aa
 refine abI ac h ?_
 rw[J,Rb fN (ahu aa)]
 split at h
 refine abJ ac h λv w' O=>.inl ?_
 rw[J]
 simp only[Ay,eW] at O
 cases aC:(qW f vs.toArray).run C.P w with
 |halt Y ew=>rw[aC] at O;simp at O
 |ok Y ew=>
  rw[aC] at O;simp only[jS] at O;cases Y<;>simp only[] at O<;>first
   |(have NE:x1 _ ew=x1 v w':=O;cases NE;rfl)
   |(simp[stuck] at O)
 exact h.elim
 rename_i x _ I
 split at h
 rename_i fv J
 obtain⟨f,pre,cap,rfl,aa,hL⟩:=h
 refine abI ac hL ?_
 unfold fT;rw[e]
 simp only[resolve,I,yK ac.toFitsE J,TE,pure_bind,invoke,E8]
 have:=Rb fN aa (pre++vs.toArray++cap) w
 simpa using this
 exact h.elim
 rename_i x name I
 split at h
 rename_i r J
 obtain⟨t,v,f,sK,rfl,hm,aa,hL⟩:=h
 refine abI ac hL ?_
 unfold fT;rw[e]
 simp only[resolve,I,yK ac.toFitsE J,pure_bind,invoke,E8]
 have h0:(#[l3 t v]++vs.toArray)[0]?=some (.iface t v):=by simp
 have h1:(#[l3 t v]++vs.toArray).extract 1 (#[l3 t v]++vs.toArray).size=vs.toArray:=by apply JQ;simp
 simp only[h0,h1,callMethod,eW,program]
 show(jf ((method (C.P.types.size+u3) t v name).run C.P w) λp w'=>(qW p.1 (#[p.2]++vs.toArray)).run C.P w')=_
 rw[hm w ac.sub]
 exact Rb fN aa _ w
 exact h.elim
 exact akW (λcs b=>by rw[e];exact ab3) ac h
 exact h.elim
set_option maxHeartbeats 1000000 in
def UX(fN:Good C)(ac:Fits s bs u a w)(h:wJ C bC s z u K):z.wp C.P a w (l5 bC K s bs u a w z.dst) Q:=by
 have to:(∀cs b,z.op≠.select cs b)->other C s z u K->z.wp C.P a w (l5 bC K s bs u a w z.dst) Q:=λag=>akW ag ac;unfold wJ at h;split at h;rename_i x e;exact pC ac (UA ac.toFitsE (.inl e) h);rename_i x e;exact pC ac (UA ac.toFitsE (.inr e) h);rename_i c x y e;split at h;rename_i I J;exact pC ac (wG ac.toFitsE e (b:=ak) (cX (ac.sv I)).symm J h);rename_i I ai;exact pC ac (wG ac.toFitsE e (b:=ax) (cX (ac.sv I)).symm ai h);rename_i p d kF fC I J ai;have fw:=(cX (ac.sv I)).symm;by_cases ad:p;exact pC ac (wG ac.toFitsE e (b:=ak) (by rw[fw];simp[ad]) J (h.1 ad));exact pC ac (wG ac.toFitsE e (b:=ax) (by rw[fw];simp[ad]) ai (h.2 ad));rename_i p d kF fC I J ai;have fw:=(cX (ac.sv I)).symm;by_cases ad:p;exact pC ac (wG ac.toFitsE e (b:=ax) (by rw[fw];simp[ad]) ai (h.2 ad));exact pC ac (wG ac.toFitsE e (b:=ak) (by rw[fw];simp[ad]) J (h.1 ad));exact h.elim;rename_i op t x y ym e;split at h;rename_i k m dV n J ai;exact pC ac (alR ac.toFitsE e J ai h);rename_i p q _ J ai;split at h;split at h;rename_i Y aC;exact pC ac (Uy fN ac.toFitsE e J ai aC (.inl ⟨rfl,h⟩));exact h.elim;split at h;rename_i Y aC;exact pC ac (Uy fN ac.toFitsE e J ai aC (.inr ⟨rfl,h⟩));exact h.elim;exact to (λcs b=>by rw[e];exact ab3) h;exact h.elim;rename_i t x e;split at h;rename_i J;exact pC ac (zZ ac.toFitsE e (b:=ak) (cX (ac.sv J)).symm rfl h);rename_i J;exact pC ac (zZ ac.toFitsE e (b:=ax) (cX (ac.sv J)).symm rfl h);rename_i p d J;exact pC ac (zZ ac.toFitsE e (cX (ac.sv J)).symm rfl h);rename_i p d J;exact pC ac (zZ ac.toFitsE e (cX (ac.sv J)).symm (by simp[hA]) h);rename_i b J;exact pC ac (zZ ac.toFitsE e (cX (ac.sv J)).symm (by cases b<;>simp[hA]) h);exact h.elim;rename_i t x e;split at h;rename_i i off aI J fE;split at h;rename_i cs ap;split at h;rename_i aa;exact akR ac (alX ac.toFitsE e J fE ap (GJ aa) h);exact h.elim;exact h.elim;rename_i p aI J fE;exact akR ac (alY ac.toFitsE e J fE h);exact h.elim;rename_i t x y e;split at h;rename_i i off v aI J ai fE;split at h;rename_i cs ap hw c0 h1;split at h;rename_i aa;exact az7 ac e J ai fE ap hw (mr c0) h1 (GJ aa) h;exact h.elim;exact h.elim;rename_i p v aI J ai fE;split at h;rename_i c0;exact az8 ac e J ai fE (mr c0) h;exact h.elim;exact h.elim;rename_i t e;split at h;rename_i cs d aC ar;exact az5 ac e ar aC h;exact h.elim;rename_i t x e;split at h;rename_i v d J ar;exact az6 ac e ar J h;exact h.elim;rename_i x e;split at h;rename_i i off J;obtain⟨b,aa,fw⟩:=EH ac.toFitsE J;refine zF ac (y:=.loc i off) (v:=.pointer (some ⟨b,off,none⟩)) ?_ (by simp[hA,aa]) h;unfold fT;rw[e];simp only[fw];rfl;rename_i p J;refine zF ac (y:=.ptr p) (v:=.pointer (some p)) ?_ rfl h;unfold fT;rw[e];simp only[EI ac.toFitsE J];rfl;rename_i q J;obtain⟨p,rfl,av⟩:=h;refine zF ac (y:=.ptr p) (v:=.pointer (some p)) ?_ rfl av;unfold fT;rw[e];simp only[yK ac.toFitsE J];rfl;exact h.elim;rename_i t x f e;split at h;rename_i i off n J ae;exact pC ac (alU ac.toFitsE e ae J h);rename_i p n J ae;exact pC ac (alV ac.toFitsE e ae J h);exact h.elim;rename_i t x bu e;split at h;rename_i fW hu;split at h;rename_i aR n c k i hG J hi c0;exact pC ac (alW ac.toFitsE e hu J hi c0 h);exact h.elim;rename_i len fW hu;split at h;rename_i j off k m hG J hi c0;split at h;rename_i hm;obtain⟨b,aa,fw⟩:=EH ac.toFitsE J;have bw:m<len:=by simpa using hm
 have O:=Uz (C:=C) ac.toFitsE e hu fw hi c0 ⟨by simp,by simpa using bw⟩ w;refine zF ac (y:=.loc j (off+m*(hG+1))) O ?_ h;have:(⟨b,off,none⟩:bc).add (m*(hG+1))=⟨b,off+m*(hG+1),none⟩:=by unfold eu;split<;>simp_all
 simp[hA,aa,this];exact h.elim;rename_i p k i hG J hi c0;obtain⟨h2,aa,av⟩:=h;exact zF ac (y:=.ptr _) (Uz (C:=C) ac.toFitsE e hu (EI ac.toFitsE J) hi c0 aa w) rfl av;exact h.elim;exact h.elim;rename_i c e;exact alS fN ac e h;rename_i rF;by_cases oU:∃cs b,z.op=.select cs b;obtain⟨cs,b,e⟩:=oU;exfalso;unfold other zH at h;have h0:akz C.P z.op=ax:=by rw[e];rfl
 have h1:akP z.op=ax:=by rw[e];rfl
 have h2:G9 s z=none:=by unfold G9;rw[e]
 rw[h0,h1,h2] at h;split at h;rename_i h3;split at h3<;>simp_all;split at h<;>simp_all;exact to (λcs b e=>oU ⟨cs,b,e⟩) h
end
def EX(s:aO)(all:cv eN)(z:eN)(f:aO->aD->Prop):Prop:=
 match z.guard with
 |none=>f s ak|some (j,want)=>match all[j]? with
  |some lx=>match lx.dst with
   |some d=>match look s.env d with
    |some .iD=>f s want|some .lU=>f s (!want)|some (.dec p _)=>(p->f (s.put (some d) .iD) want)/\(¬p->f (s.put (some d) .lU) (!want))|some (.uX p _)=>(¬p->f (s.put (some d) .iD) want)/\(p->f (s.put (some d) .lU) (!want))|some (.v (.bool b))=>(b=ak->f (s.put (some d) .iD) want)/\(b=ax->f (s.put (some d) .lU) (!want))|some (.v (.tuple _))=>f s ax|_=>ed
   |none=>ed
  |none=>ed
def FitsE.tell{s:aO}{bs:M N}{a:eo}(h:FitsE s bs a){d:N}{x:fU}{v:ao}(I:hA bs x=some v)(ht:a.tmps[d]?=some v):FitsE (s.put (some d) x) bs a:=by
 have bw:d<s.n:=by rw[<-h.n];rcases kB d a.tmps.size with k|k;exact k;rw[DH k] at ht;cases ht
 have aQ:s.put (some d) x={s with env:=(d,x)::del s.env d}:=by
  have aa:x0 d s.n=ak:=by simpa using bw
  simp only[aO.put,aa]
 rw[aQ];refine⟨h.defers,h.n,?_⟩;intro p ad;cases ad with
 |head=>exact⟨v,I,ht⟩|tail _ ad=>exact h.env p (afT ad).1
structure Told(s au:aO)(bs:M N)(a:eo):Prop where
 e:FitsE au bs a
 loc:au.loc=s.loc
 n:au.n=s.n
def H9{s:aO}{all:cv eN}{z:eN}{f:aO->aD->Prop}(h:EX s all z f){bs:M N}{a:eo}(ac:FitsE s bs a):
  ∃au want,f au want/\Told s au bs a/\u6 z (yielded all a.tmps)=want:=by
 unfold EX at h
 split at h
 rename_i e
 exact⟨s,ak,h,⟨ac,rfl,rfl⟩,by simp[u6,e]⟩
 rename_i j want e
 split at h
 rename_i lx aN
 split at h
 rename_i d ar
 have key:∀x,look s.env d=some x->∀b:aD,hA bs x=some (.bool b)->a.tmps[d]?=some (.bool b)/\u6 z (yielded all a.tmps)=(if b then want else !want):=by intro x J b aa;obtain⟨v,h1,h2⟩:=ac.env _ (Gn J);simp only at h1 h2;rw[aa] at h1;cases h1;refine⟨h2,?_⟩;simp only[u6,e,yielded,aN,OT,ar,h2];cases b<;>cases want<;>rfl
 split at h
 rename_i ap
 exact⟨s,want,h,⟨ac,rfl,rfl⟩,(key _ ap ak rfl).2⟩
 rename_i ap
 exact⟨s,!want,h,⟨ac,rfl,rfl⟩,(key _ ap ax rfl).2⟩
 rename_i p LD ap
 by_cases ad:p
 have:=key _ ap ak (by simp[hA,ad])
 exact⟨_,want,h.1 ad,⟨ac.tell (x:=.iD) rfl this.1,(nb _ _ _).1,(nb _ _ _).2⟩,this.2⟩
 have:=key _ ap ax (by simp[hA,ad])
 exact⟨_,!want,h.2 ad,⟨ac.tell (x:=.lU) rfl this.1,(nb _ _ _).1,(nb _ _ _).2⟩,this.2⟩
 rename_i p LD ap
 by_cases ad:p
 have:=key _ ap ax (by simp[hA,ad])
 exact⟨_,!want,h.2 ad,⟨ac.tell (x:=.lU) rfl this.1,(nb _ _ _).1,(nb _ _ _).2⟩,this.2⟩
 have:=key _ ap ak (by simp[hA,ad])
 exact⟨_,want,h.1 ad,⟨ac.tell (x:=.iD) rfl this.1,(nb _ _ _).1,(nb _ _ _).2⟩,this.2⟩
 rename_i b ap
 cases b with
 |true=>have:=key _ ap ak rfl;exact⟨_,want,h.1 rfl,⟨ac.tell (x:=.iD) rfl this.1,(nb _ _ _).1,(nb _ _ _).2⟩,this.2⟩
 |false=>have:=key _ ap ax rfl;exact⟨_,!want,h.2 rfl,⟨ac.tell (x:=.lU) rfl this.1,(nb _ _ _).1,(nb _ _ _).2⟩,this.2⟩
 rename_i vs ap
 obtain⟨v,h1,h2⟩:=ac.env _ (Gn ap)
 simp only at h1 h2
 simp only[hA,kC] at h1
 subst h1
 refine⟨s,ax,h,⟨ac,rfl,rfl⟩,?_⟩
 simp only[u6,e,yielded,aN,OT,ar,h2]
 rfl
 exact h.elim
 exact h.elim
 exact h.elim
def Bu(C:lg)(s:aO)(z:eN):aD:=
 match z.op with
 | .move _=>ak| .assign _=>ak| .pick _ _ _=>ak| .nilCheck _=>ak| .fieldAddr _ _ _=>ak| .indexAddr _ _ _=>ak| .unOp .not _ _=>ak| .binOp _ _ _ _ _=>ak| .load _ _=>ax| .store _ _ _=>ax| .alloc _=>ax| .box _ _=>ax| .call c=>match c.callee with
  | .builtin _=>(zH C.P s z).isSome|_=>ax
 |_=>(zH C.P s z).isSome
section
variable {C:lg} {bC:N->aD} {s:aO} {z:eN} {u:H} {K:aO->H->Prop} {bs:M N} {a:eo} {w:cg} {Q:kR->eo->cg->Prop}
def abK(ac:FitsE s bs a)(ad:(zH C.P s z).isSome=ak)(h:other C s z u K):vu C s z u K bs a:=by unfold other at h;obtain⟨v,aB⟩:=JO.1 ad;rw[aB] at h;exact⟨.v v,v,h,rfl,ak7 ac aB⟩
set_option maxHeartbeats 1000000 in
def ala(fN:Good C)(ac:FitsE s bs a)(ad:Bu C s z=ak)(h:wJ C bC s z u K):vu C s z u K bs a:=by
 unfold wJ at h;split at h;rename_i x e;exact UA ac (.inl e) h;rename_i x e;exact UA ac (.inr e) h;rename_i c x y e;split at h;rename_i I J;exact wG ac e (b:=ak) (cX (ac.sv I)).symm J h;rename_i I ai;exact wG ac e (b:=ax) (cX (ac.sv I)).symm ai h;rename_i p d kF fC I J ai;have fw:=(cX (ac.sv I)).symm;by_cases ad:p;exact wG ac e (b:=ak) (by rw[fw];simp[ad]) J (h.1 ad);exact wG ac e (b:=ax) (by rw[fw];simp[ad]) ai (h.2 ad);rename_i p d kF fC I J ai;have fw:=(cX (ac.sv I)).symm;by_cases ad:p;exact wG ac e (b:=ax) (by rw[fw];simp[ad]) ai (h.2 ad);exact wG ac e (b:=ak) (by rw[fw];simp[ad]) J (h.1 ad);exact h.elim;rename_i op t x y ym e;have eg:∀b5:other C s z u K,vu C s z u K bs a:=by
  intro b5;by_cases NC:(zH C.P s z).isSome=ak;exact abK ac NC b5;exfalso;have ae:zH C.P s z=none:=by
   cases J:zH C.P s z with
   |none=>rfl|some v=>rw[J] at NC;simp at NC
  unfold other at b5;rw[ae] at b5;have h2:G9 s z=none:=by unfold G9;rw[e]
  rw[h2] at b5;split at b5<;>simp_all
 split at h;rename_i k m dV n J ai;exact alR ac e J ai h;rename_i p q _ J ai;split at h;split at h;rename_i Y aC;exact Uy fN ac e J ai aC (.inl ⟨rfl,h⟩);exact h.elim;split at h;rename_i Y aC;exact Uy fN ac e J ai aC (.inr ⟨rfl,h⟩);exact h.elim;exact eg h;exact h.elim;rename_i t x e;split at h;rename_i J;exact zZ ac e (b:=ak) (cX (ac.sv J)).symm rfl h;rename_i J;exact zZ ac e (b:=ax) (cX (ac.sv J)).symm rfl h;rename_i p d J;exact zZ ac e (cX (ac.sv J)).symm rfl h;rename_i p d J;exact zZ ac e (cX (ac.sv J)).symm (by simp[hA]) h;rename_i b J;exact zZ ac e (cX (ac.sv J)).symm (by cases b<;>simp[hA]) h;exact h.elim;rename_i t x e;unfold Bu at ad;rw[e] at ad;cases ad;rename_i t x y e;unfold Bu at ad;rw[e] at ad;cases ad;rename_i t e;unfold Bu at ad;rw[e] at ad;cases ad;rename_i t x e;unfold Bu at ad;rw[e] at ad;cases ad;rename_i x e;split at h;rename_i i off J;obtain⟨b,aa,fw⟩:=EH ac J;refine⟨.loc i off,.pointer (some ⟨b,off,none⟩),h,by simp[hA,aa],λw=>?_⟩;unfold fT;rw[e];simp only[fw];rfl;rename_i p J;refine⟨.ptr p,.pointer (some p),h,rfl,λw=>?_⟩;unfold fT;rw[e];simp only[EI ac J];rfl;rename_i q J;obtain⟨p,rfl,av⟩:=h;refine⟨.ptr p,.pointer (some p),av,rfl,λw=>?_⟩;unfold fT;rw[e];simp only[yK ac J];rfl;exact h.elim;rename_i t x f e;split at h;rename_i i off n J ae;exact alU ac e ae J h;rename_i p n J ae;exact alV ac e ae J h;exact h.elim;rename_i t x bu e;split at h;rename_i fW hu;split at h;rename_i aR n c k i hG J hi c0;exact alW ac e hu J hi c0 h;exact h.elim;rename_i len fW hu;split at h;rename_i j off k m hG J hi c0;split at h;rename_i hm;obtain⟨b,aa,fw⟩:=EH ac J;have bw:m<len:=by simpa using hm
 have O:=Uz (C:=C) ac e hu fw hi c0 ⟨by simp,by simpa using bw⟩;refine⟨.loc j (off+m*(hG+1)),_,h,?_,O⟩;have:(⟨b,off,none⟩:bc).add (m*(hG+1))=⟨b,off+m*(hG+1),none⟩:=by unfold eu;split<;>simp_all
 simp[hA,aa,this];exact h.elim;rename_i p k i hG J hi c0;obtain⟨h2,aa,av⟩:=h;exact⟨.ptr _,_,av,rfl,Uz (C:=C) ac e hu (EI ac J) hi c0 aa⟩;exact h.elim;exact h.elim;rename_i c e;unfold Bu at ad;rw[e] at ad;simp only at ad;split at ad;rename_i b I;rw[I] at h;split at h;exact abK ac ad h;exact h.elim;cases ad;rename_i h1 h2 h3 a7 bO e7 mP mg lV L5 agK yW L6;refine abK ac ?_ h;unfold Bu at ad;split at ad<;>first|exact ad|(rename_i e;exact aV e (by first|exact h1 _|exact h2 _|exact h3 _ _ _|exact a7 _ _ _ _ _|exact bO _ _|exact e7 _ _|exact mP _ _ _|exact mg _|exact lV _ _|exact L5 _|exact agK _ _ _|exact yW _ _ _|exact L6 _))
end
section
variable{i:N}
def waits(ops:cv eN):N->N->N->aD
 |0,_,_=>ax|n+1,j,i=>match ops[j]? with
  |some z=>z.after.toList.any λe=>BO .any e && (jB e.on i ||waits ops n e.on i)|none=>ax
def yv(ops:cv eN)(listed:cv aD):Prop:=
 ∀j z,ops[j]?=some z->listed.getD j ax=ak->∀e∈z.after,BO .any e=ak->listed.getD e.on ax=ak
def aog{ops:cv eN}{listed:cv aD}(I:yv ops listed):∀(n j i:N),waits ops n j i=ak->
  (∀z,ops[j]?=some z->∀e∈z.after,BO .any e=ak->listed.getD e.on ax=ak)->listed.getD i ax=ak:=by
 intro n
 induction n with
 |zero=>intro j i h;simp[waits] at h
 |succ n aM=>intro j i h aN;simp only[waits] at h;split at h;rename_i z ab;obtain⟨e,he,aa⟩:=List.any_eq_true.1 h;simp only[pF,Bool.or_eq_true] at aa;have hm:e∈z.after:=GF.1 he;have h1:=aN z ab e hm aa.1;rcases aa.2 with h2|h2;have:=mr h2;subst this;exact h1;exact aM e.on i h2 λb7 bQ fW gd eQ=>I e.on b7 bQ h1 fW gd eQ;cases h
def yv.set{ops:cv eN}{listed:cv aD}(I:yv ops listed)(O:i∈nP .any ops listed):yv ops (listed.setIfInBounds i ak):=by intro j z ab aN e he aa;by_cases iT:j=i;subst iT;obtain⟨_,b7,bQ,ef⟩:=wq.1 O;rw[ab] at bQ;cases bQ;exact getD_set_true (ef e he aa);rw[getD_set_ne ax (dG iT)] at aN;exact getD_set_true (I j z ab aN e he aa)
section
variable {P:dT} {ops:cv eN} {Q:kR->eo->cg->Prop} {nd:N->aD} {S:cg->Prop}
def ys(P:dT)(ops:cv eN)(Q:kR->eo->cg->Prop)(nd:N->aD)(S:cg->Prop):N->cv aD->eo->cg->Prop
 |0,listed,a,w=>nP .any ops listed=[]/\Q .normal a w|gb+1,listed,a,w=>
  (nP .any ops listed=[]->Q .normal a w)/\
  ∀i∈nP .any ops listed,wpOp P ops Q i (λcT w'=>(nd i=ak->S w->S w')/\ys P ops Q nd S gb (listed.setIfInBounds i ak) cT w') a w
def ad6:∀(gb:N) (listed:cv aD) (a:eo) (w:cg),ys P ops Q nd S gb listed a w->wpAny P .any ops Q gb listed a w
 |0,_,_,_,h=>h|gb+1,_,_,_,h=>⟨h.1,λi hi=>wpOp_mono (λcT w' bW=>ad6 gb _ cT w' bW.2) (h.2 i hi)⟩
def afc{fS:eN}{v:ao}{T:cg->Prop}(hi:ops[i]?=some fS)(oU:∀(j:N) (z:eN) cs b,ops[j]?=some z->z.op≠.select cs b)
  (fm:∀c a w,¬Q (.panic c) a w) (di:N) (aT:(∀w,T w)∨(T=S/\∀j,nd j=ax->j=i∨waits ops di j i=ak)):
  ∀(gb:N) (listed:cv aD) (a:eo) (w:cg),yv ops listed->
   (∀j lx,ops[j]?=some lx->j≠i->listed.getD j ak=ax->(∀e∈lx.after,BO .any e=ak->e.on≠i)->fS.apart ops lx=ak)->
   i∈nP .any ops listed->YieldsIf P ops T fS v a->T w->
   ys P ops Q nd S gb (listed.setIfInBounds i ak) (a.put fS.dst v) w->ys P ops Q nd S (gb+1) listed a w:=by
 intro gb
 induction gb with
 |zero=>intro listed a w _ _ O ai bg H;refine⟨λh=>(by rw[h] at O;cases O),λj aN=>?_⟩;by_cases iT:j=i;subst iT;exact ai.wpOp hi bg ⟨λ_ h=>h,H⟩;have:=JV aN iT;rw[H.1] at this;cases this
 |succ gb aM=>
  intro listed a w I Ff O ai bg H;refine⟨λh=>(by rw[h] at O;cases O),λj aN=>?_⟩;by_cases iT:j=i;subst iT;exact ai.wpOp hi bg ⟨λ_ h=>h,H⟩
  .have h1:=H.2 j (JV aN iT);obtain⟨MX,lx,Bb,ef⟩:=wq.1 aN;have Fw:=(wq.1 O).1;have MS:listed.getD i ax=ax:=by rcases kB i listed.size with bW|bW;simp[bW] at Fw ⊢;exact Fw;simp[DH bW] at Fw
   have rF:∀e∈lx.after,BO .any e=ak->e.on≠i:=λe he aa ME=>by have h1:=ef e he aa;rw[ME,MS] at h1;cases h1
   have h2:=wpOp_putIf Bb (Ff j lx Bb iT MX rF) (λcs b=>oU i fS cs b hi) (λcs b=>oU j lx cs b Bb) (λc a w h=>aV h (fm c _ w)) ai h1;have YN:∀k ok,ops[k]?=some ok->k≠i->(listed.setIfInBounds j ak).getD k ak=ax->
     (∀e∈ok.after,BO .any e=ak->e.on≠i)->fS.apart ops ok=ak:=λk ok hk II uO eg=>by
    refine Ff k ok hk II ?_ eg
    by_cases MV:j=k
    subst MV;exact MX
    rw[getD_set_ne ak MV] at uO;exact uO
   have b3:(∀w,T w)∨(T=S/\nd j=ak):=by
    rcases aT with aT|⟨atv,aT⟩;exact .inl aT;refine .inr ⟨atv,?_⟩;cases ae:nd j with
    |true=>rfl|false=>rcases aT j ae with bW|bW;exact aV bW iT;have:=aog I di j i bW (λz ab e he aa=>by rw[Bb] at ab;cases ab;exact ef e he aa);rw[MS] at this;cases this
   refine wpOp_mono (λcT w' h3=>⟨h3.2.1,?_⟩) h2;have Yg:T w':=by rcases b3 with bW|⟨rfl,bW⟩;exact bW w';exact h3.2.1 bW bg
   refine aM (listed.setIfInBounds j ak) cT w' (I.set aN) YN (JV O (dG iT)) h3.1 Yg ?_;rw[Array.setIfInBounds_comm _ _ iT];exact h3.2.2
end
section
variable {P:dT} {ops:cv eN} {Q:kR->eo->cg->Prop} {R:N->cg->cg->Prop}
def wS(P:dT)(ops:cv eN)(Q:kR->eo->cg->Prop)(R:N->cg->cg->Prop):N->cv aD->eo->cg->Prop
 |0,listed,a,w=>nP .any ops listed=[]/\Q .normal a w|gb+1,listed,a,w=>
  (nP .any ops listed=[]->Q .normal a w)/\
  ∀i∈nP .any ops listed,wpOp P ops Q i (λcT w'=>R i w w'/\wS P ops Q R gb (listed.setIfInBounds i ak) cT w') a w
def ad7:∀(gb:N) (listed:cv aD) (a:eo) (w:cg),wS P ops Q R gb listed a w->wpAny P .any ops Q gb listed a w
 |0,_,_,_,h=>h|gb+1,_,_,_,h=>⟨h.1,λi hi=>wpOp_mono (λcT w' bW=>ad7 gb _ cT w' bW.2) (h.2 i hi)⟩
def afd{fS:eN}{v:ao}{T:cg->Prop}(hi:ops[i]?=some fS)(oU:∀(j:N) (z:eN) cs b,ops[j]?=some z->z.op≠.select cs b)
  (fm:∀c a w,¬Q (.panic c) a w) (di:N) (b4:∀w,R i w w) (aT:∀j,j=i∨waits ops di j i=ak∨∀w w',R j w w'->T w->T w'):
  ∀(gb:N) (listed:cv aD) (a:eo) (w:cg),yv ops listed->
   (∀j lx,ops[j]?=some lx->j≠i->listed.getD j ak=ax->(∀e∈lx.after,BO .any e=ak->e.on≠i)->fS.apart ops lx=ak)->
   i∈nP .any ops listed->YieldsIf P ops T fS v a->T w->
   wS P ops Q R gb (listed.setIfInBounds i ak) (a.put fS.dst v) w->wS P ops Q R (gb+1) listed a w:=by
 intro gb
 induction gb with
 |zero=>intro listed a w _ _ O ai bg H;refine⟨λh=>(by rw[h] at O;cases O),λj aN=>?_⟩;by_cases iT:j=i;subst iT;exact ai.wpOp hi bg ⟨b4 _,H⟩;have:=JV aN iT;rw[H.1] at this;cases this
 |succ gb aM=>
  intro listed a w I Ff O ai bg H;refine⟨λh=>(by rw[h] at O;cases O),λj aN=>?_⟩;by_cases iT:j=i;subst iT;exact ai.wpOp hi bg ⟨b4 _,H⟩
  .have h1:=H.2 j (JV aN iT);obtain⟨MX,lx,Bb,ef⟩:=wq.1 aN;have Fw:=(wq.1 O).1;have MS:listed.getD i ax=ax:=by rcases kB i listed.size with bW|bW;simp[bW] at Fw ⊢;exact Fw;simp[DH bW] at Fw
   have rF:∀e∈lx.after,BO .any e=ak->e.on≠i:=λe he aa ME=>by have h1:=ef e he aa;rw[ME,MS] at h1;cases h1
   have h2:=wpOp_putIf Bb (Ff j lx Bb iT MX rF) (λcs b=>oU i fS cs b hi) (λcs b=>oU j lx cs b Bb) (λc a w h=>aV h (fm c _ w)) ai h1;have YN:∀k ok,ops[k]?=some ok->k≠i->(listed.setIfInBounds j ak).getD k ak=ax->
     (∀e∈ok.after,BO .any e=ak->e.on≠i)->fS.apart ops ok=ak:=λk ok hk II uO eg=>by
    refine Ff k ok hk II ?_ eg
    by_cases MV:j=k
    subst MV;exact MX
    rw[getD_set_ne ak MV] at uO;exact uO
   have atx:∀w w',R j w w'->T w->T w':=by rcases aT j with bW|bW|bW;exact aV bW iT;have:=aog I di j i bW (λz ab e he aa=>by rw[Bb] at ab;cases ab;exact ef e he aa);rw[MS] at this;cases this;exact bW
   refine wpOp_mono (λcT w' h3=>⟨h3.2.1,?_⟩) h2;have Yg:T w':=atx _ _ h3.2.1 bg;refine aM (listed.setIfInBounds j ak) cT w' (I.set aN) YN (JV O (dG iT)) h3.1 Yg ?_;rw[Array.setIfInBounds_comm _ _ iT];exact h3.2.2
end
def allI:M N->(N->Prop)->Prop
 | [],_=>True| [i],f=>f i|i::is,f=>f i/\allI is f
def afb{l:M N}{f:N->Prop}(h:allI l f):∀i∈l,f i:=by
 induction l with
 |nil=>intro i hi;cases hi
 |cons x l aM=>
  cases l with
  |nil=>intro i hi;simp only[gp] at hi;subst hi;exact h
  |cons y l=>
   intro i hi;cases hi with
   |head=>exact h.1|tail _ hi=>exact aM h.2 i hi
def S9(ops:cv eN)(i:N):aD:=
 match ops[i]? with
 |some z=>match z.op with
  | .load _ _=>ak|_=>ax
 |none=>ax
def anr(z:eN):aD:=
 match z.op with
 | .alloc _| .box _ _| .buildSlice ..| .store ..| .mapUpdate ..| .insert ..| .makeMap ..| .makeSlice ..| .lookup ..| .next ..| .range ..| .entry ..| .entryStore ..| .mapEntry ..=>ax| .call c=>match c.callee with
  | .builtin .len| .builtin .cap| .builtin .min| .builtin .max=>ak|_=>ax
 |_=>ak
def early(ops:cv eN)(r:N):aD:=
 S9 ops r && (lz ops.size).all λj=>match ops[j]? with
  |some z=>anr z ||!waits ops ops.size r j|none=>ak
def rR(ops:cv eN)(i:N):aD:=
 (lz ops.size).any λr=>early ops r && !(jB r i) && !waits ops ops.size i r
def Ts(_:N):aD:=ax
def ta(C:lg)(bC:N->aD)(ops:cv eN)(s:aO)(i:N)(u:H)(K:aO->H->Prop):Prop:=
 match ops[i]? with
 |none=>ed|some z=>EX s ops z λau want=>match want with
  |true=>wJ C bC au z u K|false=>K (au.put z.dst (.v ic)) u
def Ru(C:lg)(bC:N->aD)(ops:cv eN)(s:aO)(i:N)(u:H)(K:aO->H->Prop):Prop:=
 match ops[i]? with
 |none=>ed|some z=>EX s ops z λau want=>match want with
  |true=>match Bu C au z with
   |true=>wJ C bC au z u K|false=>ed
  |false=>K (au.put z.dst (.v ic)) u
def ak9(C:lg)(ops:cv eN)(s:aO)(i:N):aD:=
 match ops[i]? with
 |none=>ax|some z=>Bu C s z
def AE(C:lg)(bC:N->aD)(ops:cv eN)(aj:H):N->cv aD->aD->aO->H->(aO->H->Prop)->Prop
 |0,_,_,_,_,_=>ed|gb+1,listed,flag,s,u,K=>
  match(nP .any ops listed).find? (λi=>ak9 C ops s i && TK .any ops listed i) with
  |some i=>Ru C bC ops s i u λau u'=>AE C bC ops aj gb (listed.setIfInBounds i ak) flag au u' K|none=>match flag,(nP .any ops listed).find? (λi=>early ops i && TK .any ops listed i) with
   |true,some i=>ta C bC ops s i aj λau _=>AE C bC ops aj gb (listed.setIfInBounds i ak) ak au u K|_,_=>match nP .any ops listed with
    | []=>K s u|r=>allI r λi=>match rR ops i with
     |true=>ta C Ts ops s i u λau u'=>aj.le u'/\AE C bC ops aj gb (listed.setIfInBounds i ak) ax au u' K|false=>ta C bC ops s i u λau u'=>AE C bC ops aj gb (listed.setIfInBounds i ak) ax au u' K
def acR(ops:cv eN)(r:N):aD:=
 early ops r && (lz ops.size).all λj=>jB j r ||waits ops ops.size j r ||match ops[j]? with
  |some z=>anr z|none=>ak
def Gs(ops:cv eN)(i:N):aD:=
 (lz ops.size).any λr=>early ops r && !acR ops r && !(jB r i) && !waits ops ops.size i r
def Gt(ops:cv eN)(i:N):aD:=
 (lz ops.size).any λr=>acR ops r && !(jB r i) && !waits ops ops.size i r
def S7(b:aD)(p q:Prop):Prop:=match b with
 |true=>p/\q|false=>q
def xd(C:lg)(bC:N->aD)(ops:cv eN)(v0 aj:H):N->cv aD->aD->aO->H->(aO->H->Prop)->Prop
 |0,_,_,_,_,_=>ed|gb+1,listed,flag,s,u,K=>
  match(nP .any ops listed).find? (λi=>ak9 C ops s i && TK .any ops listed i) with
  |some i=>Ru C bC ops s i u λau u'=>xd C bC ops v0 aj gb (listed.setIfInBounds i ak) flag au u' K|none=>match flag,(nP .any ops listed).find? (λi=>early ops i && TK .any ops listed i) with
   |true,some i=>match acR ops i with
    |true=>ta C bC ops s i aj λau _=>xd C bC ops v0 aj gb (listed.setIfInBounds i ak) ak au u K|false=>ta C bC ops s i v0 λau _=>xd C bC ops v0 aj gb (listed.setIfInBounds i ak) ak au u K
   |_,_=>match nP .any ops listed with
    | []=>K s u|r=>allI r λi=>match Gs ops i ||Gt ops i with
     |true=>ta C Ts ops s i u λau u'=>S7 (Gs ops i) (v0.le u') (S7 (Gt ops i) (aj.le u') (xd C bC ops v0 aj gb (listed.setIfInBounds i ak) ax au u' K))|false=>ta C bC ops s i u λau u'=>xd C bC ops v0 aj gb (listed.setIfInBounds i ak) ax au u' K
def aj3{b:aD}{p q:Prop}(h:S7 b p q)(aa:b=ak):p:=by subst aa;exact h.1
def aj4{b:aD}{p q:Prop}(h:S7 b p q):q:=by cases b with
 |true=>exact h.2|false=>exact h
end
section
variable{ds:N->aD}{w:cg}{s au:aO}{aj:H}{gH:M (M ao)}{fV:M N}
def wZ(P:dT)(it:ao)(u:H)(nr:H->Prop)(QS:ao->ao->H->Prop):Prop:=
 ∀w,Sub u w->∃w' u',((OS it ax 0).run P w=.ok (.tuple #[.bool ax]) w'/\nr u'∨∃k e,(OS it ax 0).run P w=.ok (.tuple #[.bool ak,k,e]) w'/\QS k e u')/\Step u [] w u' [] w'
def wY(P:dT)(it:ao)(u:H)(K:ao->ao->H->Prop):Prop:=
 ∀w,Sub u w->∃k e w' u',(Instr.entry it).run P w=.ok (.tuple #[k,e]) w'/\K k e u'/\Step u [] w u' [] w'
def sY(t:aE)(v:ao)(f:t.den->Prop):Prop:=t.un v f
def Sd:aA ao->aA aD
 |some (.tuple vs)=>match vs.toList with
  |v::_=>match v with
   | .bool b=>some b|_=>none
  | []=>none
 |_=>none
def aui{x:aA ao}{b:aD}(h:Sd x=some b):∃vs,x=some (.tuple vs)/\vs[0]?=some (.bool b):=by unfold Sd at h;split at h;rename_i vs;split at h;rename_i v l ap;split at h;cases h;exact⟨vs,rfl,by rw[<-BP,ap];rfl⟩;cases h;cases h;cases h
def UU(C:lg)(bC:N->aD)(s:aO)(z:eN)(u:H)(K:aO->H->Prop):Prop:=
 match z.op with
 | .call c=>match c.callee with
  | .value (.tmp t)=>match P5 s c.args,Pz C.P z.type,look s.env t with
   |some vs,some ss,some (.v fv)=>sS C.P fv vs.toArray ss u (s6 s z.dst ss K)|_,_,_=>ed
  |_=>wJ C bC s z u K
 | .range t x=>match s.val x with
  |some v=>c9 C.P (rY t v) [.one .ptr] u (s6 s z.dst [.one .ptr] K)|none=>ed
 | .next x ax=>match s.val x with
  |some v=>wZ C.P v u (λu'=>K (s.put z.dst (.v (.tuple #[.bool ax]))) u') (λk e u'=>K (s.put z.dst (.v (.tuple #[.bool ak,k,e]))) u')|none=>ed
 | .entry x=>match s.val x with
  |some v=>wY C.P v u (λk e u'=>K (s.put z.dst (.v (.tuple #[k,e]))) u')|none=>ed
 | .extract (.tmp t) i=>match gQ C.oO t with
  |true=>match s.val (.tmp t),q8 C.P z.type with
   |some (.tuple vs),some (.one ct)=>match vs.toList[i]? with
    |some v=>sY ct v λy=>K (s.put z.dst (.v (ct.enc y))) u|none=>ed
   |_,_=>ed
  |false=>match gQ C.oY t with
   |true=>match jB i 0,Sd (s.val (.tmp t)) with
    |true,some ak=>K (s.put z.dst .iD) u|true,some ax=>K (s.put z.dst .lU) u|_,_=>ed
   |false=>wJ C bC s z u K
 |_=>wJ C bC s z u K
def Ku(C:lg)(bC:N->aD)(all:cv eN):M eN->aO->H->(aO->H->Prop)->Prop
 | [],s,u,K=>K s u|z::rest,s,u,K=>EX s all z λau want=>match want with
  |true=>UU C bC au z u λwF u'=>Ku C bC all rest wF u' K|false=>Ku C bC all rest (au.put z.dst (.v ic)) u K
abbrev Fr(ro:aA N):Fence:={u2 with round:=ro}
def wT{P:dT}{z:eN}{a:eo}{next:eo->cg->Prop}{Q:kR->eo->cg->Prop}(ro:aA N)(ar:ro=none∨∀c,z.op≠.defer c)(h:z.wp P a w next Q):
  z.wpIn (Fr ro) 0 P a w next Q:=by
 refine⟨λ_ _=>trivial,?_⟩
 have e:z.semAt (Fr ro).round a.eval=fT a.eval z:=by rcases ar with rfl|ar;rfl;exact Oper.semAt_eq ro _ _ ar
 rw[e]
 unfold DI at h
 cases O:(fT a.eval z).run P w with
 |ok abG w'=>
  rw[O] at h;cases abG with
  |value v=>exact h|skip=>exact h|defer d=>exact h|enter f args=>exact⟨λJ=>by simp[Fr,u2] at J,(OU (n:=0-1)).2 h⟩|row row args=>exact⟨λJ=>by simp[Fr,u2] at J,λc cs _=>let⟨v,ew,aL,ag⟩:=h c cs;⟨v,ew,aL,stepsIn_wide.2 ag⟩⟩|_=>exact h.elim
 |halt Y w'=>
  rw[O] at h;cases Y with
  |panic v=>exact h|_=>exact h.elim
def ayL{C:lg}{bC:N->aD}{z:eN}{u:H}{K:aO->H->Prop}{bs:M N}{a:eo}{Q:kR->eo->cg->Prop}{ro:aA N}{fv:ao}{args:cv ao}{ss:M bf}
  (ac:Fits s bs u a w) (b3:∀c,z.op≠.defer c) (h:Aj C.P fv args ss u (s6 s z.dst ss K))
  (O:∀l,fv=.func (.yield l) #[] #[]->(fT a.eval z).run C.P w=(Instr.yield l args).run C.P w):z.wpIn (Fr ro) 0 C.P a w (l5 bC K s bs u a w z.dst) Q:=by
 obtain⟨l,rfl,ai⟩:=h
 obtain⟨fn,tmps,assign,body,nH,NH⟩:=ai w ac.sub
 refine⟨λ_ _=>trivial,?_⟩
 have e:z.semAt (Fr ro).round a.eval=fT a.eval z:=Oper.semAt_eq ro _ _ b3
 rw[e,O l rfl,nH]
 refine⟨λJ=>by simp[Fr,u2] at J,RoundIn.mono NH ?_⟩
 rintro e w' ⟨v,u',rfl,⟨vs,aB,rfl,av⟩,ag⟩
 have oi:K (s.put z.dst (.v (xg ss vs))) u':=(PV aB _).1 av
 exact⟨_,u',bs,_,oi,(ac.step ag).put z.dst (x:=.v _) rfl,ag.MR bs,rfl,Kept.put bC s z.dst _⟩
def aB6{C:lg}{bC:N->aD}{z:eN}{u:H}{K:aO->H->Prop}{bs:M N}{a:eo}{Q:kR->eo->cg->Prop}{ro:aA N}
  (fN:Good C) (ar:ro=none∨∀c,z.op≠.defer c) (ac:Fits s bs u a w) (h:UU C bC s z u K):z.wpIn (Fr ro) 0 C.P a w (l5 bC K s bs u a w z.dst) Q:=by
 unfold UU at h
 split at h
 rename_i c e
 split at h
 rename_i t I
 split at h
 rename_i vs ss fv aB v8 J
 have E8:=anZ ac.toFitsE aB
 have I6:s.sv (.tmp t)=some (.v fv):=J
 rcases h with h|h
 refine wT ro ar (alS fN ac e ?_)
 rw[aB,v8,I]
 simp only[I6]
 exact h
 refine ayL ac (λnC=>by rw[e];exact ab3) h ?_
 rintro l rfl
 unfold fT;rw[e]
 simp only[resolve,I,yK ac.toFitsE I6,TE,pure_bind,invoke,E8]
 simp
 exact h.elim
 exact wT ro ar (UX fN ac h)
 rename_i t x e
 split at h
 rename_i v aB
 refine wT ro ar (abJ ac h λY w' O=>.inl ?_)
 unfold fT;rw[e];simp only[ac.val aB,eW,O,jS];rfl
 exact h.elim
 rename_i x e
 split at h
 rename_i v aB
 obtain⟨w',u',av,ag⟩:=h w ac.sub
 have run:∀Y,(OS v ax 0).run C.P w=.ok Y w'->(fT a.eval z).run C.P w=.ok (.value Y) w':=λY O=>by have dz:(OS v ax z.type).run C.P w=.ok Y w':=O;unfold fT;rw[e];simp only[ac.val aB,eW,dz,jS];rfl
 rcases av with⟨O,av⟩|⟨k,Y,O,av⟩
 exact wT ro ar (OE ac (run _ O) ag av)
 exact wT ro ar (OE ac (run _ O) ag av)
 exact h.elim
 rename_i x e
 split at h
 rename_i v aB
 obtain⟨k,Y,w',u',O,av,ag⟩:=h w ac.sub
 refine wT ro ar (OE ac ?_ ag av)
 unfold fT;rw[e];simp only[ac.val aB,eW,O,jS];rfl
 exact h.elim
 rename_i t i e
 split at h
 split at h
 rename_i vs ct aB fE
 split at h
 rename_i v hi
 obtain⟨y,rfl,av⟩:=aE.Vc h
 refine wT ro ar (OE ac ?_ (Step.refl ac.sub) av)
 have qI:vs[i]?=some (ct.enc y):=by rw[<-BP];exact hi
 unfold fT;rw[e];simp only[ac.val aB,eW]
 simp[Instr.extract,qI]
 exact h.elim
 exact h.elim
 split at h
 have run:∀b,jB i 0=ak->Sd (s.val (.tmp t))=some b->(fT a.eval z).run C.P w=.ok (.value (.bool b)) w:=λb h0 aa=>by obtain⟨vs,aB,qI⟩:=aui aa;obtain rfl:=mr h0;unfold fT;rw[e];simp only[ac.val aB,eW];simp[Instr.extract,qI]
 split at h
 rename_i h0 aa;exact wT ro ar (zF ac (run _ h0 aa) rfl h)
 rename_i h0 aa;exact wT ro ar (zF ac (run _ h0 aa) rfl h)
 exact h.elim
 exact wT ro ar (UX fN ac h)
 exact wT ro ar (UX fN ac h)
section
variable {C:lg} {bC:N->aD} {s:aO} {z:eN} {u:H} {K:aO->H->Prop} {bs:M N} {a:eo} {w:cg} {Q:kR->eo->cg->Prop}
def Fits.told(ac:Fits s bs u a w)(ht:Told s au bs a):Fits au bs u a w:=
 ⟨ht.e,by rw[ht.loc];exact ac.len,by rw[ht.loc];exact ac.loc,ac.nodup,ac.cm,ac.sub⟩
def Kept.told{wF:aO}(ht:au.loc=s.loc/\au.n=s.n)(k:Kept bC au wF):Kept bC s wF:=
 ⟨k.n.trans ht.2,by rw[<-ht.1];exact k.len,λi cs e=>k.same i cs (by rw[ht.1];exact e)⟩
def Oper.aol{F:Fence}{n:N}{P:dT}{z:eN}{a:eo}{next next':eo->cg->Prop}{Q:kR->eo->cg->Prop}(h:∀a w,next a w->next' a w)(hw:z.wpIn F n P a w next Q):
  z.wpIn F n P a w next' Q:=by
 refine⟨hw.1,?_⟩
 have h2:=hw.2
 generalize (z.semAt F.round a.eval).run P w=r at h2 ⊢
 cases r with
 |ok abG w'=>
  cases abG with
  |value v=>exact h _ _ h2|skip=>exact h _ _ h2|defer d=>exact h _ _ h2|enter f args=>exact⟨h2.1,h2.2.mono λe ew he=>by cases e<;>first|exact h _ _ he|exact he⟩
  |row row args=>exact⟨h2.1,h2.2.mono λv ew he=>h _ _ he⟩|round l f tmps assign body=>exact⟨h2.1,h2.2.mono λe ew he=>by cases e<;>first|exact h _ _ he|exact he⟩
  |_=>exact h2
 |halt Y w'=>cases Y<;>exact h2
def arI(fN:Good C){all:cv eN}(ac:Fits s bs u a w)(h:EX s all z λau want=>match want with
  |true=>UU C bC au z u K
  |false=>K (au.put z.dst (.v ic)) u) (ro:aA N) (b3:ro=none∨∀c,z.op≠.defer c):
  (u6 z (yielded all a.tmps)=ak/\z.wpIn (Fr ro) 0 C.P a w (l5 bC K s bs u a w z.dst) Q)∨
  (u6 z (yielded all a.tmps)=ax/\l5 bC K s bs u a w z.dst (a.put z.dst ic) w):=by
 obtain⟨au,want,bW,ht,hw⟩:=H9 h ac.toFitsE
 cases want with
 |true=>refine .inl ⟨hw,?_⟩;refine Oper.aol ?_ (aB6 fN b3 (ac.told ht) bW);rintro cT w' ⟨wF,u',db,v,hk,cS,ag,ay,jl⟩;exact⟨wF,u',db,v,hk,cS,ag,ay,jl.told ⟨ht.loc,ht.n⟩⟩
 |false=>refine .inr ⟨hw,?_⟩;exact⟨_,u,bs,ic,bW,(ac.told ht).put z.dst (x:=.v ic) rfl,Step.refl ac.sub,rfl,(Kept.put bC au _ _).told ⟨ht.loc,ht.n⟩⟩
def agi(fN:Good C){all:cv eN}(ac:Fits s bs u a w)(h:EX s all z λau want=>match want with
  |true=>wJ C bC au z u K
  |false=>K (au.put z.dst (.v ic)) u):
  (u6 z (yielded all a.tmps)=ak/\z.wp C.P a w (l5 bC K s bs u a w z.dst) Q)∨
  (u6 z (yielded all a.tmps)=ax/\l5 bC K s bs u a w z.dst (a.put z.dst ic) w):=by
 obtain⟨au,want,bW,ht,hw⟩:=H9 h ac.toFitsE
 cases want with
 |true=>refine .inl ⟨hw,?_⟩;refine Oper.wp_mono ?_ (UX fN (ac.told ht) bW);rintro cT w' ⟨wF,u',db,v,hk,cS,ag,ay,jl⟩;exact⟨wF,u',db,v,hk,cS,ag,ay,jl.told ⟨ht.loc,ht.n⟩⟩
 |false=>refine .inr ⟨hw,?_⟩;exact⟨_,u,bs,ic,bW,(ac.told ht).put z.dst (x:=.v ic) rfl,Step.refl ac.sub,rfl,(Kept.put bC au _ _).told ⟨ht.loc,ht.n⟩⟩
def Cu(bC:N->aD)(s:aO)(bs:M N)(u:H)(a:eo)(w:cg)(ds:N->aD)(K:aO->H->Prop)(R:eo->cg->Prop):Prop:=
 ∀au u' db cT w',K au u'->Fits au db u' cT w'->Step u bs w u' db w'->Kept bC s au->(∀d,ds d=ax->cT.tmps[d]?=a.tmps[d]?)->R cT w'
def Cu.next{u':H}{db:M N}{cT:eo}{w':cg}{R:eo->cg->Prop}(h:Cu bC s bs u a w ds K R)
  (ag:Step u bs w u' db w') (hk:Kept bC s au) (ay:∀d,ds d=ax->cT.tmps[d]?=a.tmps[d]?):Cu bC au db u' cT w' ds K R:=
 λs2 cQ HQ a2 ew cH f2 h2 dv d2=>h s2 cQ HQ a2 ew cH f2 (ag.trans h2) (hk.trans dv) λd ar=>(d2 d ar).trans (ay d ar)
def abX{dst:aA Tmp}{v:ao}(h:∀d,dst=some d->ds d=ak):∀d,ds d=ax->(a.put dst v).tmps[d]?=a.tmps[d]?:=by
 intro d ar;cases dst with
 |none=>rfl|some x=>rw[abY,aG];rintro⟨rfl,_⟩;rw[h x rfl] at ar;cases ar
def al9(fN:Good C)(ro:aA N){all:cv eN}:∀(l:M eN) (s:aO) (u:H) (bs:M N) (a:eo) (w:cg),Ku C bC all l s u K->Fits s bs u a w->
  (ro=none∨∀z∈l,∀c,z.op≠.defer c)->(∀z∈l,∀d,z.dst=some d->ds d=ak)->Cu bC s bs u a w ds K (Q .normal)->wpListIn (Fr ro) 0 C.P all Q l a w:=by
 intro l
 induction l with
 |nil=>intro s u bs a w h ac _ _ I;exact I s u bs a w h ac (Step.refl ac.sub) (Kept.refl _ _) λ_ _=>rfl
 |cons z rest aM=>
  intro s u bs a w h ac b3 ar I;have v7:∀b7∈rest,∀d,b7.dst=some d->ds d=ak:=λb7 bQ=>ar b7 (.tail _ bQ);have eZ:∀v,∀d,ds d=ax->(a.put z.dst v).tmps[d]?=a.tmps[d]?:=λv=>abX (ar z (.head _));have key:∀cT w',l5 bC (λwF u'=>Ku C bC all rest wF u' K) s bs u a w z.dst cT w'->wpListIn (Fr ro) 0 C.P all Q rest cT w':=by rintro cT w' ⟨au,u',db,v,hk,cS,ag,rfl,jl⟩;exact aM au u' db _ w' hk cS (b3.imp id λh b7 bQ=>h b7 (.tail _ bQ)) v7 (I.next ag jl (eZ v))
  simp only[wpListIn];rcases arI (Q:=Q) fN (K:=λwF u'=>Ku C bC all rest wF u' K) ac h ro (b3.imp id λh=>h z (.head _)) with⟨hw,h1⟩|⟨hw,h1⟩;rw[a1 hw];exact Oper.aol key h1;rw[aG (by rw[hw];simp)];exact⟨λ_ _=>trivial,key _ _ h1⟩
def left(listed:cv aD):N:=listed.toList.count ax
def Gm{listed:cv aD}{i:N}(h:listed.getD i ak=ax):left (listed.setIfInBounds i ak)+1=left listed:=by
 have bw:i<listed.size:=by rcases kB i listed.size with k|k;exact k;simp[DH k] at h
 have key:∀(l:M aD) (i:N),l[i]?=some ax->(l.set i ak).count ax+1=l.count ax:=by
  intro l;induction l with
  |nil=>intro i h;simp at h
  |cons x l aM=>
   intro i h;cases i with
   |zero=>simp at h;subst h;simp|succ i=>simp only[x4] at h;have:=aM i h;simp only[GK,List.count_cons];omega
 unfold left;rw[Array.toList_setIfInBounds];refine key _ i ?_;simp[bw] at h;rw[BP,x3 bw,h]
def alD{ops:cv eN}{listed:cv aD}(h:left listed=0):nP .any ops listed=[]:=by
 cases O:nP .any ops listed with
 |nil=>rfl|cons i l=>
  have hi:i∈nP .any ops listed:=by rw[O];exact .head _
  have:=Gm (wq.1 hi).1;omega
def aks(ac:FitsE s bs a){t:dF}{x:jR}(e:z.op=.load t x)(h:wJ C bC s z u K):QT C s z u K bs a:=by unfold wJ at h;rw[e] at h;simp only at h;split at h;rename_i i off aI J fE;split at h;rename_i cs ap;split at h;rename_i aa;exact alX ac e J fE ap (GJ aa) h;exact h.elim;exact h.elim;rename_i p aI J fE;exact alY ac e J fE h;exact h.elim
def Rx{l:M N}{p:N->aD}{i:N}(h:l.find? p=some i):i∈l/\p i=ak:=
 ⟨JW h,JX h⟩
def af3(fN:Good C){ops:cv eN}(oU:Region.noSelect ops=ak)
  (fm:∀c a w,¬Q (.panic c) a w) (ar:∀(z:eN),z∈ops.toList->∀d,z.dst=some d->ds d=ak):
  ∀(f:N) (listed:cv aD) (flag:aD) (s:aO) (u:H),AE C bC ops aj f listed flag s u K->∀(bs:M N) (a:eo) (w:cg) (g:N),Fits s bs u a w->
   yv ops listed->left listed<=g->(flag=ak->aj.le u/\s.loc=gH/\bs=fV)->(∃ext,bs=fV++ext)->Cu bC s bs u a w ds K (Q .normal)->
   ys C.P ops Q (rR ops) (jG gH fV aj) g listed a w:=by
 intro f
 induction f with
 |zero=>intro listed flag s u h;exact h.elim
 |succ f aM=>
  intro listed flag s u h bs a w g ac I W ML Bc xn;have eZ:∀(i:N) (z:eN),ops[i]?=some z->∀v,∀d,ds d=ax->(a.put z.dst v).tmps[d]?=a.tmps[d]?:=λi z ab v=>
   abX (ar z (by rw[GF];exact TL ab))
  unfold AE at h;split at h
  ·
   rename_i i xq;obtain⟨hi,ad⟩:=Rx xq;simp only[pF] at ad;have ap:=Gm (wq.1 hi).1;obtain⟨g,rfl⟩:∃m,g=m+1:=⟨g-1,by omega⟩;unfold Ru at h;split at h;exact h.elim
   .rename_i fS jv;obtain⟨au,want,bW,ht,hw⟩:=H9 h ac.toFitsE;have sj:=ac.told ht;have fin:∀y v,hA bs y=some v->AE C bC ops aj f (listed.setIfInBounds i ak) flag (au.put fS.dst y) u K->YieldsIf C.P ops (λ_=>True) fS v a->
      ys C.P ops Q (rR ops) (jG gH fV aj) (g+1) listed a w:=by
     intro y v sh av ai
     refine afc jv (TM oU) fm 0 (T:=λ_=>True) (.inl λ_=>trivial) g listed a w I (λj lx aN an uO eg=>TN jv ad.2 j lx aN an uO eg) hi ai trivial ?_
     have h4:=sj.put fS.dst sh
     refine aM _ flag _ u av bs _ w g h4 (I.set hi) (by omega) ?_ Bc ?_
     intro mR
     obtain⟨aQ,aF,cW⟩:=ML mR
     exact⟨aQ,by rw[(nb _ _ _).1,ht.loc];exact aF,cW⟩
     exact xn.next (Step.refl ac.sub) ((Kept.put bC au _ _).told ⟨ht.loc,ht.n⟩) (eZ i fS jv v)
    cases want with
    |true=>simp only at bW;split at bW;rename_i ke;obtain⟨y,v,av,sh,O⟩:=ala fN ht.e ke bW;exact fin y v sh av (.inl ⟨hw,λw' _=>O w'⟩);exact bW.elim
    |false=>exact fin (.v ic) ic rfl bW (.inr ⟨hw,rfl⟩)
  .split at h
   ·
    rename_i i xq;obtain⟨hi,ad⟩:=Rx xq;simp only[pF] at ad;have ap:=Gm (wq.1 hi).1;obtain⟨g,rfl⟩:∃m,g=m+1:=⟨g-1,by omega⟩;obtain⟨zc,uA,kq⟩:=ML rfl;unfold ta at h;split at h;exact h.elim
    .rename_i fS jv;obtain⟨au,want,bW,ht,hw⟩:=H9 h ac.toFitsE;have sj:=ac.told ht;have Yc:jG gH fV aj w:=by rw[<-uA,<-kq];exact⟨ac.loc,ac.sub.mono zc⟩
     have th:=ad.1;have M4:∃t x,fS.op=.load t x:=by unfold early S9 at th;rw[jv] at th;simp only[pF] at th;have h1:=th.1;split at h1;rename_i t x e;exact⟨t,x,e⟩;cases h1
     have aT:∀j,rR ops j=ax->j=i∨waits ops ops.size j i=ak:=by
      intro j aN;unfold rR at aN;have bw:i<ops.size:=(x6.1 jv).1;have:=ab4.1 aN i (JY.2 bw);simp only[pF,JZ,not_and,ab5] at this;by_cases iT:j=i;exact .inl iT;refine .inr (this ⟨th,?_⟩);cases aa:jB i j with
      |false=>rfl|true=>exact aV (mr aa).symm iT
     have fin:∀y v,hA bs y=some v->AE C bC ops aj f (listed.setIfInBounds i ak) ak (au.put fS.dst y) u K->YieldsIf C.P ops (jG gH fV aj) fS v a->
       ys C.P ops Q (rR ops) (jG gH fV aj) (g+1) listed a w:=by
      intro y v sh av ai
      refine afc jv (TM oU) fm ops.size (T:=jG gH fV aj) (.inr ⟨rfl,aT⟩) g listed a w I (λj lx aN an uO eg=>TN jv ad.2 j lx aN an uO eg) hi ai Yc ?_
      have h4:=sj.put fS.dst sh
      refine aM _ ak _ u av bs _ w g h4 (I.set hi) (by omega) ?_ Bc ?_
      exact λ_=>⟨zc,by rw[(nb _ _ _).1,ht.loc];exact uA,kq⟩
      exact xn.next (Step.refl ac.sub) ((Kept.put bC au _ _).told ⟨ht.loc,ht.n⟩) (eZ i fS jv v)
     cases want with
     |true=>obtain⟨t,x,e⟩:=M4;obtain⟨y,v,av,sh,O⟩:=aks ht.e e bW;exact fin y v sh av (.inl ⟨hw,λw' j2=>O w' (by rw[ht.loc,uA,kq];exact j2)⟩)
     |false=>exact fin (.v ic) ic rfl bW (.inr ⟨hw,rfl⟩)
   ·
    cases pt:nP .any ops listed with
    |nil=>
     have NF:=pt;rw[pt] at h;have Mn:=xn s u bs a w h ac (Step.refl ac.sub) (Kept.refl _ _) λ_ _=>rfl;cases g with
     |zero=>exact⟨NF,Mn⟩|succ g=>exact⟨λ_=>Mn,by rw[NF];intro i hi;cases hi⟩
    |cons i0 iy=>
     have an:nP .any ops listed≠[]:=by rw[pt];simp
     rw[pt] at h;simp only at h;have iJ:∃m,g=m+1:=by
      cases g with
      |zero=>exact aV (alD (ops:=ops) (by omega)) an|succ m=>exact⟨m,rfl⟩
     obtain⟨g,rfl⟩:=iJ;refine⟨λe=>aV e an,λi hi=>?_⟩;have ap:=Gm (wq.1 hi).1;have h1:=afb h i (by rw[<-pt];exact hi);unfold wpOp;have step:∀(wt:N->aD) (gw:aO->H->Prop),(∀s1 s2,Kept wt s1 s2->Kept bC s1 s2)->ta C wt ops s i u gw->
       (∀fS,ops[i]?=some fS->∀cT w',l5 wt gw s bs u a w fS.dst cT w'->(rR ops i=ak->jG gH fV aj w->jG gH fV aj w')/\ys C.P ops Q (rR ops) (jG gH fV aj) g (listed.setIfInBounds i ak) cT w')->
       (match ops[i]? with
        |none=>(rR ops i=ak->jG gH fV aj w->jG gH fV aj w)/\ys C.P ops Q (rR ops) (jG gH fV aj) g (listed.setIfInBounds i ak) a w|some z=>if u6 z (yielded ops a.tmps)=ak then(z.wp C.P a w (λcT w'=>(rR ops i=ak->jG gH fV aj w->jG gH fV aj w')/\ys C.P ops Q (rR ops) (jG gH fV aj) g (listed.setIfInBounds i ak) cT w') Q)∨(z.asks C.P a w/\LetsOut Q)
         else(rR ops i=ak->jG gH fV aj w->jG gH fV aj w)/\ys C.P ops Q (rR ops) (jG gH fV aj) g (listed.setIfInBounds i ak) (a.put z.dst ic) w):=by
      intro wt gw _ J Nk
      unfold ta at J
      split at J
      exact J.elim
      rename_i fS jv
      try rw[jv]
      show(if u6 fS (yielded ops a.tmps)=ak then _ else _)
      rcases agi (Q:=Q) fN ac J with⟨hw,h2⟩|⟨hw,h2⟩
      rw[a1 hw]
      exact .inl (Oper.wp_mono (Nk fS jv) h2)
      rw[aG (by rw[hw];simp)]
      exact Nk fS jv _ _ h2
     split at h1;rename_i b3;refine step Ts _ (λs1 s2 k=>⟨k.n,k.len,λi cs e _=>k.same i cs e rfl⟩) h1 ?_;rintro fS jv cT w' ⟨au,u',db,v,⟨hle,av⟩,cS,ag,rfl,jl⟩;obtain⟨ext,vO⟩:=Bc;obtain⟨EU,AW,_⟩:=ag.more;have Y4:Kept bC s au:=⟨jl.n,jl.len,λi cs e _=>jl.same i cs e rfl⟩;refine⟨λ_ bg=>⟨λj cs e=>?_,cS.sub.mono hle⟩,aM _ ax au u' av db _ w' g cS (I.set hi) (by omega) (λe=>by cases e) ⟨ext++EU,by rw[AW,vO,mq]⟩ (xn.next ag Y4 (eZ i fS jv v))⟩;obtain⟨b,T,io,kK⟩:=bg.loc j cs e;have kM:j<fV.length:=by rcases kB j fV.length with k|k;exact k;rw[iO k] at io;cases io
     have AQ:bs[j]?=some b:=by rw[vO,qY kM];exact io
     have Fx:j<s.loc.length:=by rw[<-ac.len];rcases kB j bs.length with k|k;exact k;rw[iO k] at AQ;cases AQ
     obtain⟨Av,bB,bO,e7⟩:=ac.loc j _ (cy Fx);rw[AQ] at bO;cases bO;rw[kK] at e7;simp only[kC,Obj.cells.injEq] at e7;have dK:cs=s.loc[j]:=by have:=eB Array.toList e7.1;simpa using this
     have mP:=jl.same j _ (cy Fx) rfl;obtain⟨fu,Ey,mg,lV⟩:=cS.loc j _ mP;refine⟨b,Ey,io,?_⟩;have Y2:j<bs.length:=by rw[ac.len];exact Fx
     rw[AW,qY Y2,AQ] at mg;cases mg;rw[dK];exact lV;rename_i b3;refine step bC _ (λ_ _ k=>k) h1 ?_;rintro fS jv cT w' ⟨au,u',db,v,av,cS,ag,rfl,jl⟩;obtain⟨ext,vO⟩:=Bc;obtain⟨EU,AW,_⟩:=ag.more;exact⟨(λe=>by rw[b3] at e;cases e),aM _ ax au u' av db _ w' g cS (I.set hi) (by omega) (λe=>by cases e) ⟨ext++EU,by rw[AW,vO,mq]⟩ (xn.next ag jl (eZ i fS jv v))⟩
def pc(ops:cv eN)(gH:M (M ao))(fV:M N)(v0 aj:H)(i:N)(w w':cg):Prop:=
 (Gs ops i=ak->jG gH fV v0 w->jG gH fV v0 w')/\(Gt ops i=ak->jG gH fV aj w->jG gH fV aj w')
def pc.refl{ops:cv eN}{v0:H}(i:N)(w:cg):pc ops gH fV v0 aj i w w:=⟨λ_ h=>h,λ_ h=>h⟩
def af2(fN:Good C){ops:cv eN}{v0:H}(Ja:v0.le aj)(oU:Region.noSelect ops=ak)
  (fm:∀c a w,¬Q (.panic c) a w) (ar:∀(z:eN),z∈ops.toList->∀d,z.dst=some d->ds d=ak):
  ∀(f:N) (listed:cv aD) (flag:aD) (s:aO) (u:H),xd C bC ops v0 aj f listed flag s u K->∀(bs:M N) (a:eo) (w:cg) (g:N),Fits s bs u a w->
   yv ops listed->left listed<=g->(flag=ak->aj.le u/\s.loc=gH/\bs=fV)->(∃ext,bs=fV++ext)->Cu bC s bs u a w ds K (Q .normal)->
   wS C.P ops Q (pc ops gH fV v0 aj) g listed a w:=by
 intro f
 induction f with
 |zero=>intro listed flag s u h;exact h.elim
 |succ f aM=>
  intro listed flag s u h bs a w g ac I W ML Bc xn;have eZ:∀(i:N) (z:eN),ops[i]?=some z->∀v,∀d,ds d=ax->(a.put z.dst v).tmps[d]?=a.tmps[d]?:=λi z ab v=>
   abX (ar z (by rw[GF];exact TL ab))
  unfold xd at h;split at h
  ·
   rename_i i xq;obtain⟨hi,ad⟩:=Rx xq;simp only[pF] at ad;have ap:=Gm (wq.1 hi).1;obtain⟨g,rfl⟩:∃m,g=m+1:=⟨g-1,by omega⟩;unfold Ru at h;split at h;exact h.elim
   .rename_i fS jv;obtain⟨au,want,bW,ht,hw⟩:=H9 h ac.toFitsE;have sj:=ac.told ht;have fin:∀y v,hA bs y=some v->xd C bC ops v0 aj f (listed.setIfInBounds i ak) flag (au.put fS.dst y) u K->YieldsIf C.P ops (λ_=>True) fS v a->
      wS C.P ops Q (pc ops gH fV v0 aj) (g+1) listed a w:=by
     intro y v sh av ai
     refine afd jv (TM oU) fm 0 (T:=λ_=>True) (λw=>pc.refl _ w) (λj=>.inr (.inr λ_ _ _ _=>trivial)) g listed a w I (λj lx aN an uO eg=>TN jv ad.2 j lx aN an uO eg) hi ai trivial ?_
     have h4:=sj.put fS.dst sh
     refine aM _ flag _ u av bs _ w g h4 (I.set hi) (by omega) ?_ Bc ?_
     intro mR
     obtain⟨aQ,aF,cW⟩:=ML mR
     exact⟨aQ,by rw[(nb _ _ _).1,ht.loc];exact aF,cW⟩
     exact xn.next (Step.refl ac.sub) ((Kept.put bC au _ _).told ⟨ht.loc,ht.n⟩) (eZ i fS jv v)
    cases want with
    |true=>simp only at bW;split at bW;rename_i ke;obtain⟨y,v,av,sh,O⟩:=ala fN ht.e ke bW;exact fin y v sh av (.inl ⟨hw,λw' _=>O w'⟩);exact bW.elim
    |false=>exact fin (.v ic) ic rfl bW (.inr ⟨hw,rfl⟩)
  .split at h
   ·
    rename_i i xq;obtain⟨hi,ad⟩:=Rx xq;simp only[pF] at ad;have ap:=Gm (wq.1 hi).1;obtain⟨g,rfl⟩:∃m,g=m+1:=⟨g-1,by omega⟩;obtain⟨zc,uA,kq⟩:=ML rfl;have th:=ad.1;have key:∀x:H,x.le u->(∀j,j=i∨waits ops ops.size j i=ak∨∀w w',pc ops gH fV v0 aj j w w'->jG gH fV x w->jG gH fV x w')->
      ta C bC ops s i x (λau _=>xd C bC ops v0 aj f (listed.setIfInBounds i ak) ak au u K)->wS C.P ops Q (pc ops gH fV v0 aj) (g+1) listed a w:=by
     intro x awX aT h
     unfold ta at h
     split at h
     exact h.elim
     .rename_i fS jv;obtain⟨au,want,bW,ht,hw⟩:=H9 h ac.toFitsE;have sj:=ac.told ht;have Yc:jG gH fV x w:=by rw[<-uA,<-kq];exact⟨ac.loc,ac.sub.mono awX⟩
      have M4:∃t x,fS.op=.load t x:=by unfold early S9 at th;rw[jv] at th;simp only[pF] at th;have h1:=th.1;split at h1;rename_i t x e;exact⟨t,x,e⟩;cases h1
      have fin:∀y v,hA bs y=some v->xd C bC ops v0 aj f (listed.setIfInBounds i ak) ak (au.put fS.dst y) u K->YieldsIf C.P ops (jG gH fV x) fS v a->
        wS C.P ops Q (pc ops gH fV v0 aj) (g+1) listed a w:=by
       intro y v sh av ai
       refine afd jv (TM oU) fm ops.size (T:=jG gH fV x) (λw=>pc.refl _ w) aT g listed a w I (λj lx aN an uO eg=>TN jv ad.2 j lx aN an uO eg) hi ai Yc ?_
       have h4:=sj.put fS.dst sh
       refine aM _ ak _ u av bs _ w g h4 (I.set hi) (by omega) ?_ Bc ?_
       exact λ_=>⟨zc,by rw[(nb _ _ _).1,ht.loc];exact uA,kq⟩
       exact xn.next (Step.refl ac.sub) ((Kept.put bC au _ _).told ⟨ht.loc,ht.n⟩) (eZ i fS jv v)
      cases want with
      |true=>obtain⟨t,hS,e⟩:=M4;obtain⟨y,v,av,sh,O⟩:=aks ht.e e bW;exact fin y v sh av (.inl ⟨hw,λw' j2=>O w' (by rw[ht.loc,uA,kq];exact j2)⟩)
      |false=>exact fin (.v ic) ic rfl bW (.inr ⟨hw,rfl⟩)
    have bw:i<ops.size:=by unfold early S9 at th;rcases kB i ops.size with k|k;exact k;rw[DH k] at th;simp at th
    have beq:∀j,(!(jB i j))=ax->j=i:=λj aa=>by
     cases J:jB i j with
     |false=>rw[J] at aa;cases aa
     |true=>exact(mr J).symm
    split at h;rename_i ag;refine key aj zc (λj=>?_) h;by_cases ae:Gt ops j=ak;exact .inr (.inr λw w' O=>O.2 ae);have h5:Gt ops j=ax:=by cases J:Gt ops j with
      |false=>rfl|true=>exact aV J ae
    unfold Gt at h5;have:=ab4.1 h5 i (JY.2 bw);simp only[ag,Bool.true_and,pF,not_and,JZ,ab5] at this;by_cases iT:j=i;exact .inl iT;refine .inr (.inl (this ?_));cases aa:jB i j with
    |false=>rfl|true=>exact aV (mr aa).symm iT
    rename_i ag;refine key v0 (Ja.trans zc) (λj=>?_) h;by_cases ae:Gs ops j=ak;exact .inr (.inr λw w' O=>O.1 ae);have h5:Gs ops j=ax:=by cases J:Gs ops j with
      |false=>rfl|true=>exact aV J ae
    unfold Gs at h5;have:=ab4.1 h5 i (JY.2 bw);simp only[ag,th,Bool.not_false,Bool.true_and,pF,not_and,JZ,ab5] at this;by_cases iT:j=i;exact .inl iT;refine .inr (.inl (this ?_));cases aa:jB i j with
    |false=>rfl|true=>exact aV (mr aa).symm iT
   ·
    cases pt:nP .any ops listed with
    |nil=>
     have NF:=pt;rw[pt] at h;have Mn:=xn s u bs a w h ac (Step.refl ac.sub) (Kept.refl _ _) λ_ _=>rfl;cases g with
     |zero=>exact⟨NF,Mn⟩|succ g=>exact⟨λ_=>Mn,by rw[NF];intro i hi;cases hi⟩
    |cons i0 iy=>
     have an:nP .any ops listed≠[]:=by rw[pt];simp
     rw[pt] at h;simp only at h;have iJ:∃m,g=m+1:=by
      cases g with
      |zero=>exact aV (alD (ops:=ops) (by omega)) an|succ m=>exact⟨m,rfl⟩
     obtain⟨g,rfl⟩:=iJ;refine⟨λe=>aV e an,λi hi=>?_⟩;have ap:=Gm (wq.1 hi).1;have h1:=afb h i (by rw[<-pt];exact hi);unfold wpOp;have step:∀(wt:N->aD) (gw:aO->H->Prop),(∀s1 s2,Kept wt s1 s2->Kept bC s1 s2)->ta C wt ops s i u gw->
       (∀fS,ops[i]?=some fS->∀cT w',l5 wt gw s bs u a w fS.dst cT w'->pc ops gH fV v0 aj i w w'/\wS C.P ops Q (pc ops gH fV v0 aj) g (listed.setIfInBounds i ak) cT w')->
       (match ops[i]? with
        |none=>pc ops gH fV v0 aj i w w/\wS C.P ops Q (pc ops gH fV v0 aj) g (listed.setIfInBounds i ak) a w|some z=>if u6 z (yielded ops a.tmps)=ak then(z.wp C.P a w (λcT w'=>pc ops gH fV v0 aj i w w'/\wS C.P ops Q (pc ops gH fV v0 aj) g (listed.setIfInBounds i ak) cT w') Q)∨(z.asks C.P a w/\LetsOut Q)
         else pc ops gH fV v0 aj i w w/\wS C.P ops Q (pc ops gH fV v0 aj) g (listed.setIfInBounds i ak) (a.put z.dst ic) w):=by
      intro wt gw _ J Nk
      unfold ta at J
      split at J
      exact J.elim
      rename_i fS jv
      try rw[jv]
      show(if u6 fS (yielded ops a.tmps)=ak then _ else _)
      rcases agi (Q:=Q) fN ac J with⟨hw,h2⟩|⟨hw,h2⟩
      rw[a1 hw]
      exact .inl (Oper.wp_mono (Nk fS jv) h2)
      rw[aG (by rw[hw];simp)]
      exact Nk fS jv _ _ h2
     split at h1;rename_i b3;refine step Ts _ (λs1 s2 k=>⟨k.n,k.len,λi cs e _=>k.same i cs e rfl⟩) h1 ?_;rintro fS jv cT w' ⟨au,u',db,v,io,cS,ag,rfl,jl⟩;have kK:=aj4 io;have av:=aj4 kK;obtain⟨ext,vO⟩:=Bc;obtain⟨EU,AW,_⟩:=ag.more;have Y4:Kept bC s au:=⟨jl.n,jl.len,λi cs e _=>jl.same i cs e rfl⟩;have stay:∀x:H,x.le u'->jG gH fV x w->jG gH fV x w':=by
      intro x hle bg;refine⟨λj cs e=>?_,cS.sub.mono hle⟩;obtain⟨b,T,io,kK⟩:=bg.loc j cs e;have kM:j<fV.length:=by rcases kB j fV.length with k|k;exact k;rw[iO k] at io;cases io
      have AQ:bs[j]?=some b:=by rw[vO,qY kM];exact io
      have Fx:j<s.loc.length:=by rw[<-ac.len];rcases kB j bs.length with k|k;exact k;rw[iO k] at AQ;cases AQ
      obtain⟨Av,bB,bO,e7⟩:=ac.loc j _ (cy Fx);rw[AQ] at bO;cases bO;rw[kK] at e7;simp only[kC,Obj.cells.injEq] at e7;have dK:cs=s.loc[j]:=by have:=eB Array.toList e7.1;simpa using this
      have mP:=jl.same j _ (cy Fx) rfl;obtain⟨fu,Ey,mg,lV⟩:=cS.loc j _ mP;refine⟨b,Ey,io,?_⟩;have Y2:j<bs.length:=by rw[ac.len];exact Fx
      rw[AW,qY Y2,AQ] at mg;cases mg;rw[dK];exact lV
     exact⟨⟨λae=>stay v0 (aj3 io ae),λae=>stay aj (aj3 kK ae)⟩,aM _ ax au u' av db _ w' g cS (I.set hi) (by omega) (λe=>by cases e) ⟨ext++EU,by rw[AW,vO,mq]⟩ (xn.next ag Y4 (eZ i fS jv v))⟩;rename_i b3;refine step bC _ (λ_ _ k=>k) h1 ?_;rintro fS jv cT w' ⟨au,u',db,v,av,cS,ag,rfl,jl⟩;obtain⟨ext,vO⟩:=Bc;obtain⟨EU,AW,_⟩:=ag.more;rw[zL] at b3;exact⟨⟨λe=>(by rw[b3.1] at e;cases e),λe=>(by rw[b3.2] at e;cases e)⟩,aM _ ax au u' av db _ w' g cS (I.set hi) (by omega) (λe=>by cases e) ⟨ext++EU,by rw[AW,vO,mq]⟩ (xn.next ag jl (eZ i fS jv v))⟩
end
end
