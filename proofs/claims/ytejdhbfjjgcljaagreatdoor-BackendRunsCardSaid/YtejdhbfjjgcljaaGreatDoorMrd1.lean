/- Texts of mine, joined and packed by pack.py. -/
import Derived.WalkKit
import Derived.Orders
import Derived.RangeFuncSeq
import Derived.TacticsIn
import Derived.Laws.Concat
import Derived.OrdersHeld
set_option linter.all false
open _root_ renaming List->J,Nat->O,Option->aA,Array->cA,Int->o,Bool->ay,False->eg,absurd->bf,inferInstance->tL
open Go renaming Program->dL,Value->ap,World->ci,Addr->a8,FuncId->j8,IntKind->x1,Operand->iv,Act->ek,TypeId->dC,undef->h9,Oper->eH,execOp->fu,callFunc->qT,Exit->kX
open Go.World renaming cell?->Jt,setCell->ab4,frozen?->Gh
open Bool renaming true->ai,false->ao
open Nat renaming beq->km,blt->x3,ble->wv
open Go.Obj renaming cells->bt
open Go.Sem renaming run->rK
open Go.IntKind renaming i64->b2,wrap->bS,signed->Gf,bits->Gg
open Go.Fence renaming wide->vg
open Go.Made renaming depth->tM
open Go.Instr renaming lookup->gY,mapUpdate->kW,makeMap->pr,makeSlice->qU,sliceAt->fZ,buildSlice->dA,typeAssert->so,range->rL,next->Od,sureAddr->Jz
open Go.Builtin renaming append_->dO,delete_->tN,len_->rM,clear_->qc
open Go.Oper renaming wp->Ds
open Go.Deferred renaming ofValue->Tm
open Go.Result renaming ok->x4,andThen->jH
open Go.Addr renaming add->er
open Go.Op renaming equalIn->su,noConfusion->Ts
open Go.Value renaming iface->mj
open Go.Region renaming wanted->vh,binds->Bu,ready->nV,free->Tt
open List renaming range->lD
set_option maxRecDepth 100000
noncomputable section
namespace Go.Proofs.YtejdhbfjjgcljaaGreatDoor
def tK:=@Nat.lt_or_ge
def cw:=@Nat.le_refl
def jW:=@Nat.le_trans
def Ju:=@Nat.lt_of_lt_of_le
def dT:=@List.mem_append
def Bt:=@Iff.rfl
def ll:=@Option.some.injEq
def bF:=@if_neg
def b3:=@if_pos
def dz:=@List.mem_of_getElem?
def Oc:=@List.all_eq_true
def Tl:=@Array.mem_toList_iff
def Jv:=@Option.isSome_iff_exists
def ab2:=@List.mapM_cons
def ab3:=@Option.bind_eq_some_iff
def iw:=@List.map_cons
def eN:=@Go.Sem.run_bind
def lm:=@Go.Result.andThen_ok
def Oe:=@Option.bind_some
def Of:=@Option.getD_some
def jq:=@List.length_cons
def sq:=@Nat.eq_of_beq_eq_true
def x5:=@if_true
def ab5:=@Array.getElem?_modify
def Dt:=@Option.map_some
def Og:=@Array.getElem?_eq_getElem
def qV:=@List.drop_eq_getElem_cons
def Jw:=@List.take_succ_cons
def Gi:=@List.getElem?_append_left
def Tn:=@List.getElem?_append_right
def To:=@Nat.sub_self
def Du:=@List.getElem?_cons_zero
def hg:=@List.nodup_append
def hZ:=@List.mem_singleton
def Gj:=@List.getElem?_cons_succ
def alf:=@List.setIfInBounds_toArray
def sr:=@List.ext_getElem?
def Tp:=@List.getElem?_append
def gG:=@List.length_append
def iV:=@List.length_take
def Gk:=@List.length_set
def Tq:=@List.getElem?_take
def Jx:=@List.getElem?_drop
def Jy:=@List.getElem?_set
def Oh:=@Nat.lt_trichotomy
def ia:=@Go.run_underlying
def sw:=@List.length_nil
def oV:=@Bool.and_eq_true
def Tr:=@Option.map_eq_some_iff
def eh:=@Option.some.inj
def Gl:=@Nat.le_of_ble_eq_true
def ww:=@Go.mem_ready
def e3:=@Ne.symm
def JA:=@Go.ready_mono
def Oi:=@Array.getElem?_toList
def Oj:=@Go.callsIn_wide
def ab6:=@List.mem_of_find?_eq_some
def Tu:=@Go.Region.noSelect_spec
def Tv:=@Go.Region.free_spec
def x6:=@Array.getElem?_eq_some_iff
def ab7:=@List.mem_range
def Tw:=@Bool.not_eq_true'
def dj:=@List.getElem?_eq_getElem
def zD:=@Bool.or_eq_false_iff
def x7:=@List.cons_append
def wx:=@List.getElem?_eq_none
def JB:=@Array.getD_eq_getD_getElem?
def ml:=@List.append_nil
def Bv:=@Nat.le_succ
def alg:=@Array.getElem?_append_left
def eI:=@congrArg
def Dw:=@Bool.false_eq_true
def ab8:=@List.drop_succ_cons
def Gn:=@if_false
def Tx:=@List.drop_of_length_le
def Gp:=@List.drop_drop
def kY:=@Nat.zero_add
def Bw:=@List.size_toArray
def JC:=@Nat.add_mul
def fp:=@Option.ne_none_iff_exists'
def Ty:=@Nat.mul_eq_zero
def tO:=@Nat.mul_le_mul_right
def JD:=@Nat.zero_mul
def rO:=@List.length_drop
def jr:=@List.flatMap_cons
def JE:=@List.set_cons_succ
def vi:=@List.drop_eq_nil_of_le
def mm:=@List.nil_append
def gC:=@List.take_of_length_le
def hG:=@List.getElem?_eq_some_iff
def zE:=@Array.length_toList
def vj:=@List.cons.injEq
def JF:=@Prod.mk.injEq
def aca:=@Int.fdiv_eq_ediv_of_nonneg
def sy:=@Int.mul_nonneg
def By:=@Int.mul_le_mul
def acb:=@Int.mul_nonneg_of_nonpos_of_nonpos
def ps:=@Int.le_refl
def TA:=@List.pairwise_singleton
def ix:=@List.pairwise_cons
def dM:=@List.mem_cons
def sz:=@List.take_sublist
def tP:=@List.pairwise_append
def oW:=@List.mem_of_mem_take
def wz:=@Nat.mul_one
def acd:=@Int.natCast_pos
def ace:=@Int.ediv_nonneg
def TB:=@Int.tmod_eq_emod_of_nonneg
def Dz:=@Int.tdiv_eq_ediv_of_nonneg
def ln:=@List.getElem_mem
def fN:=@List.take_add_one
def bQ:=@List.mem_map
def TC:=@List.take_zero
def TD:=@Array.ext'
def eb:=@List.length_map
def acf:=@List.dropLast_concat_getLast
def wA:=@List.append_assoc
def pt:=@List.take_length
def jX:=@List.getD_eq_getElem?_getD
def x9:=@List.length_singleton
def TE:=@decide_eq_true_eq
def TF:=@decide_eq_false_iff_not
def Gr:=@Nat.mod_lt
def JJ:=@getElem!_pos
def lW:=@List.pairwise_iff_getElem
def pu:=@Nat.zero_le
def eA:=@List.mem_flatMap
def pv:=@List.mem_iff_getElem
def ack:=@List.Sublist.map
def hb:=@List.flatMap_append
def TH:=@List.set_cons_zero
def yb:=@List.length_pos_iff
def tQ:=@List.mem_of_mem_drop
def DA:=@List.drop_zero
def zI:=@Nat.sub_zero
def qW:=@List.eq_nil_of_length_eq_zero
def Oo:=@List.drop_sublist
def qX:=@List.not_mem_nil
def qY:=@or_false
def rP:=@and_true
def pw:=@List.getElem?_map
def ik:=@List.mem_cons_self
def iX:=@List.mem_cons_of_mem
def kG:=@List.mem_append_left
def Bz:=@List.map_nil
def acm:=@List.getElem?_range
def alh:=@List.mem_or_eq_of_mem_set
def JO:=@Int.mul_le_mul_of_nonneg_right
def Oq:=@Nat.min_eq_left
def px:=@List.take_append_drop
def DB:=@Int.mul_le_mul_of_nonneg_left
def q0:=@decide_eq_false
def TJ:=@List.getElem_drop
def JP:=@List.getElem_take
def Ot:=@List.getElem?_replicate
def jf:=@decide_eq_true
def zJ:=@List.perm_middle
def e4:=@List.map_map
def zK:=@List.map_congr_left
def Ou:=@List.foldl_cons
def ka:=@List.nodup_cons
def Ov:=@List.map_drop
def mH:=@List.perm_append_singleton
def oX:=@List.getElem_of_mem
def en:=@List.map_append
def Gu:=@dif_pos
def acn:=@List.append_of_mem
def Gv:=@List.map_id'
def q1:=@List.mem_append_right
def Ow:=@List.nodup_iff_pairwise_ne
def tR:=@List.pairwise_map
def kH:=@List.mem_map_of_mem
def aco:=@List.take_take
def JR:=@dif_neg
def acp:=@List.Perm.of_eq
def BA:=@List.flatMap_map
def JS:=@List.flatMap_nil
def JT:=@Nat.le_of_eq
def Ox:=@of_decide_eq_false
def Gw:=@List.map_set
def JU:=@List.flatMap_def
def Oy:=@List.length_replicate
def TK:=@Nat.eq_zero_or_pos
def ali:=@List.take_append_of_le_length
def qe:=@List.filter_eq_self
def zL:=@Int.toNat_natCast
def BB:=@List.filter_append
def Oz:=@List.filter_cons
def DC:=@List.getElem?_set_self
def kZ:=@List.mem_filter
def JV:=@List.Perm.refl
def zM:=@Option.mem_toList
def acq:=@Option.map_eq_none_iff
def TL:=@List.find?_eq_none
def JW:=@List.filter_sublist
def TM:=@List.perm_ext_iff_of_nodup
def alj:=@Classical.byContradiction
def DD:=@List.getElem_map
def TN:=@List.filter_congr
def TO:=@List.sublist_flatten_of_mem
def sB:=@List.filter_map
def acr:=@List.pairwise_replicate
def Gx:=@List.mem_replicate
def DE:=@List.length_filter_le
def BC:=@of_decide_eq_true
def OB:=@forall_eq_or_imp
def OC:=@forall_eq
def acs:=@List.Sublist.refl
def acu:=@List.foldl_append
def JX:=@Int.toNat_of_nonneg
def OD:=@List.length_filter_lt_length_iff_exists
def OE:=@Int.emod_nonneg
def OF:=@Int.emod_lt_of_pos
def TP:=@List.getElem?_set_ne
def TQ:=@Option.isSome_map
def BD:=@decide_eq_decide
def acv:=@List.getElem_set
def acw:=@List.ext_getElem
def TR:=@List.nodup_nil
def TS:=@List.mem_iff_getElem?
def acx:=@List.filter_eq_nil_iff
def TT:=@false_implies
def TU:=@implies_true
section
variable{bs:J O}{b:O}{R:Type}{P:dL}{vs:J ap}{w':ci}
abbrev H:=O->aA Obj
def H.ins(u:H)(b:O)(z:Obj):H:=λx=>if x=b then some z else u x
def H.le(u u':H):Prop:=∀b z,u b=some z->u' b=some z
def H.le.refl(u:H):u.le u:=λ_ _ h=>h
def H.le.trans{a b c:H}(h:a.le b)(k:b.le c):a.le c:=λx z e=>k x z (h x z e)
theorem H.bX{u:H}(z:Obj)(h:u b=none):u.le (u.ins b z):=by
 intro x p e;unfold H.ins
 grind
def H.le.ins{u u':H}(z:Obj)(k:u.le u')(h:u' b=none):u.le (u'.ins b z):=k.trans (H.bX z h)
def H.bh(u:H)(b:O)(z:Obj):u.ins b z b=some z:=by simp[H.ins]
def H.bz(u:H){x:O}(z:Obj)(h:x≠b):u.ins b z x=u x:=by simp[H.ins,h]
def H.cell?(u:H)(a:a8):aA ap:=
 match u a.block with
 |some (.cells c _ _)=>if a.spot.isSome then none else c[a.off]?
 |_=>none
def Sub(u:H)(w:ci):Prop:=∀b z,u b=some z->w.heap[b]?=some z
def Sub.cell{u:H}{w:ci}(h:Sub u w){a:a8}{v:ap}(e:u.cell? a=some v):w.cell? a=some v:=by unfold H.cell? at e;unfold Jt;split at e;rename_i c t f aa;rw[h _ _ aa];exact e;cases e
theorem Sub.none{u:H}{w:ci}(h:Sub u w)(aa:w.heap.size<=b):u b=none:=by
 cases e:u b with
 |none=>rfl|some z=>
  have:=h _ _ e
  grind
def Sub.lt{u:H}{w:ci}(h:Sub u w){z:Obj}(e:u b=some z):b<w.heap.size:=by rcases tK b w.heap.size with k|k;exact k;rw[h.none k] at e;cases e
def Sub.mono{u u':H}{w:ci}(h:Sub u' w)(k:u.le u'):Sub u w:=λb z e=>h b z (k b z e)
structure Step(u:H)(bs:J O)(w:ci)(u':H)(da:J O)(w':ci):Prop where
 sub:Sub u' w'
 os:w'.os=w.os
 tape:w'.tape=w.tape
 output:w'.output=w.output
 drawn:w.drawn<=w'.drawn
 size:w.heap.size<=w'.heap.size
 rest:∀b,b<w.heap.size->u b=none->b∉bs->w'.heap[b]?=w.heap[b]?
 jB:∀b,b<w.heap.size->u b=none->u' b=none
 more:∃ext,da=bs++ext/\∀b∈ext,w.heap.size<=b
def Step.refl{u:H}{w:ci}(h:Sub u w):Step u bs w u bs w:=
 ⟨h,rfl,rfl,rfl,cw _,cw _,λ_ _ _ _=>rfl,λ_ _ e=>e,[],by simp,by simp⟩
theorem Step.trans{u u' jv:H}{da afw:J O}{w PB:ci}(h:Step u bs w u' da w')(k:Step u' da w' jv afw PB):Step u bs w jv afw PB:=by
 obtain⟨aT,yV,hX⟩:=h.more;obtain⟨aN,jy,iR⟩:=k.more;refine⟨k.sub,k.os.trans h.os,k.tape.trans h.tape,k.output.trans h.output,jW h.drawn k.drawn,jW h.size k.size,?_,?_,aT++aN,by grind,?_⟩;intro b aa hu ag;rw[k.rest b (Ju aa h.size) (h.jB b aa hu) ?_,h.rest b aa hu ag]
 grind
 intro b aa hu;exact k.jB b (Ju aa h.size) (h.jB b aa hu);intro b aa;rcases dT.1 aa with aa|aa;exact hX b aa;exact jW h.size (iR b aa)
def Step.QT{u:H}{w:ci}(h:Sub u w){n:O}(ag:w.drawn<=n):Step u bs w u bs {w with drawn:=n}:=
 ⟨h,rfl,rfl,rfl,ag,cw _,λ_ _ _ _=>rfl,λ_ _ e=>e,[],by simp,by simp⟩
def Qk(P:dL)(f:j8)(args:cA ap)(u:H)(K:ap->H->Prop):Prop:=
 ∀w,Sub u w->Calls P f args w λe w'=>∃v u',e=.returned v/\K v u'/\Step u [] w u' [] w'
def Qk.mono{f:j8}{args:cA ap}{u:H}{K fB:ap->H->Prop}(h:Qk P f args u K)(hk:∀v u',K v u'->fB v u'):Qk P f args u fB:=
 λw hw=>(h w hw).mono λ_ _ ⟨v,u',e,k,s⟩=>⟨v,u',e,hk v u' k,s⟩
def Qr(P:dL)(m:Sem ap)(u:H)(K:ap->H->Prop):Prop:=
 ∀w,Sub u w->∃v w' u',m.run P w=.ok v w'/\K v u'/\Step u [] w u' [] w'
def Qr.mono{m:Sem ap}{u:H}{K fB:ap->H->Prop}(h:Qr P m u K)(hk:∀v u',K v u'->fB v u'):Qr P m u fB:=
 λw hw=>let⟨v,w',u',e,k,s⟩:=h w hw;⟨v,w',u',e,hk v u' k,s⟩
inductive aI where
 |int (k:x1)|bool|str|ptr|slice|map|val|addr
structure N where
 a:aA a8
 n:O
 c:O
@[reducible] def N.v(s:N):ap:=.slice s.a s.n s.c
def aI.den:aI->Type
 | .int _=>o| .bool=>ay| .str=>ByteArray| .ptr=>aA a8| .slice=>N| .map=>aA O| .val=>ap| .addr=>a8
def aI.enc:(t:aI)->t.den->ap
 | .int k,n=>.int k n| .bool,b=>.bool b| .str,s=>.string s| .ptr,p=>.pointer p| .slice,s=>.slice s.a s.n s.c| .map,r=>.map r| .val,v=>v| .addr,p=>.pointer (some p)
def zh(a b:x1):ay:=a.bits==b.bits && a.signed==b.signed
def NF{a b:x1}(h:zh a b=ai):a=b:=by cases a<;>cases b<;>first|rfl|(revert h;decide)
def aI.un:(t:aI)->ap->(t.den->Prop)->Prop
 | .int k,.int dY n,f=>match zh dY k with|true=>f n|false=>eg
 | .bool,.bool b,f=>f b| .str,.string s,f=>f s| .ptr,.pointer p,f=>f p| .slice,.slice a n c,f=>f ⟨a,n,c⟩| .map,.map r,f=>f r| .val,v,f=>f v| .addr,.pointer (some p),f=>f p|_,_,_=>eg
def aI.UQ{t:aI}{v:ap}{f:t.den->Prop}(h:t.un v f):∃x,v=t.enc x/\f x:=by
 by_cases az:t=.addr;subst az;cases v<;>simp only[aI.un] at h<;>try contradiction
 rename_i p;cases p with
 |none=>exact h.elim|some p=>exact⟨p,rfl,h⟩
 cases t<;>(try exact bf rfl az)<;>cases v<;>simp only[aI.un] at h<;>try contradiction
 case int.int k dY n=>split at h;rename_i e;have:=NF e;subst this;exact⟨n,rfl,h⟩;exact h.elim
 all_goals exact⟨_,rfl,h⟩
def aa8(k:x1):zh k k=ai:=by cases k<;>rfl
def aI.vx(t:aI)(x:t.den)(f:t.den->Prop):t.un (t.enc x) f↔f x:=by cases t<;>first|exact Bt|simp[aI.un,aI.enc,aa8]
def hp:J aI->Type->Type
 | [],R=>R|t::cg,R=>t.den->hp cg R
def NL{R:Type}:(cg:J aI)->(J ap->R)->hp cg R
 | [],f=>f []|t::cg,f=>λx=>NL cg λvs=>f (t.enc x::vs)
def K1:(cg:J aI)->(J ap->Prop)->Prop
 | [],f=>f []|t::cg,f=>∀x:t.den,K1 cg λvs=>f (t.enc x::vs)
def hU{R:Type}:(cg:J aI)->hp cg R->J ap->(R->Prop)->Prop
 | [],dn,[],f=>f dn|t::cg,dn,v::vs,f=>t.un v λx=>hU cg (dn x) vs f|_,_,_,_=>eg
inductive pG:J aI->J ap->Prop
 |nil:pG [] []
 |cons {t:aI} {cg:J aI} (x:t.den) {vs:J ap}:pG cg vs->pG (t::cg) (t.enc x::vs)
def Kl{cg:J aI}{dn:hp cg R}{f:R->Prop}(h:hU cg dn vs f):pG cg vs:=by
 induction cg generalizing vs with
 |nil=>cases vs with
  |nil=>exact .nil|cons=>simp[hU] at h
 |cons t cg aW=>cases vs with
  |nil=>simp[hU] at h|cons v vs=>simp only[hU] at h;obtain⟨x,rfl,M⟩:=aI.UQ h;exact .cons x (aW M)
def apA{cg:J aI}{f:J ap->Prop}(h:K1 cg f)(k:pG cg vs):f vs:=by
 induction k generalizing f with
 |nil=>exact h|cons x _ aW=>exact aW (f:=λvs=>f (aI.enc _ x::vs)) (h x)
def adW{cg:J aI}(dn:hp cg R)(k:pG cg vs):∃r,∀f:R->Prop,hU cg dn vs f↔f r:=by
 induction k with
 |nil=>exact⟨dn,λf=>Bt⟩|cons x _ aW=>obtain⟨r,U⟩:=aW (dn x);exact⟨r,λf=>by simp only[hU,aI.vx];exact U f⟩
def Pn{cg:J aI}{g:J ap->R}(k:pG cg vs)(f:R->Prop):hU cg (NL cg g) vs f↔f (g vs):=by
 induction k generalizing g with
 |nil=>exact Bt|cons x _ aW=>simp only[hU,aI.vx,NL];exact aW
inductive bk where
 |one (t:aI)
 |agg (cg:J aI)
def bk.im:bk->J aI
 | .one t=>[t]| .agg cg=>cg
def bk.take:bk->J ap->ap×J ap
 | .one _,v::vs=>(v,vs)| .one _,[]=>(.tuple #[],[])| .agg cg,vs=>(.agg (vs.take cg.length).toArray,vs.drop cg.length)
def CA:J bk->J ap->J ap
 | [],_=>[]|s::ss,vs=>(s.take vs).1::CA ss (s.take vs).2
def xb(ss:J bk)(vs:J ap):ap:=
 match CA ss vs with
 | [v]=>v|l=>.tuple l.toArray
def gW:J bk->J aI
 | []=>[]|s::ss=>s.im++gW ss
def hD(P:dL)(f:j8)(args:cA ap)(ss:J bk)(u:H)(K:hp (gW ss) (H->Prop)):Prop:=
 Qk P f args u λv u'=>∃vs,pG (gW ss) vs/\v=xb ss vs/\hU (gW ss) K vs λr=>r u'
def c7(P:dL)(m:Sem ap)(ss:J bk)(u:H)(K:hp (gW ss) (H->Prop)):Prop:=
 Qr P m u λv u'=>∃vs,pG (gW ss) vs/\v=xb ss vs/\hU (gW ss) K vs λr=>r u'
inductive gd where
 |v (x:ap)
 |ptr (p:a8)
 |loc (i off:O)
 |iy
 |kh
 |dec (p:Prop) (d:Decidable p)
 |va (p:Prop) (d:Decidable p)
structure aM where
 n:O
 env:J (O×gd)
 loc:J (J ap)
 Ex:aA O:=none
def La:aA O->J Deferred
 |none=>[]|some D=>[{target:=.collected D,args:=#[]}]
structure lq where
 P:dL
 exp:J O:=[]
 wrap:ay:=ao
 io:J (O×O):=[]
 oK:J O:=[]
 oU:J O:=[]
 part:ay:=ao
def hv(bs:J O):gd->aA ap
 | .v x=>some x| .ptr p=>some (.pointer (some p))| .loc i off=>match bs[i]? with
  |some b=>some (.pointer (some ⟨b,off,none⟩))|none=>none
 | .iy=>some (.bool ai)| .kh=>some (.bool ao)| .dec p d=>some (.bool (@decide p d))| .va p d=>some (.bool (!@decide p d))
def gd.val:gd->aA ap
 | .v x=>some x| .ptr p=>some (.pointer (some p))| .loc _ _=>none| .iy=>some (.bool ai)| .kh=>some (.bool ao)| .dec p d=>some (.bool (@decide p d))| .va p d=>some (.bool (!@decide p d))
def gd.US{x:gd}{v:ap}(h:x.val=some v)(bs:J O):hv bs x=some v:=by cases x<;>simp only[gd.val] at h<;>first|exact h|cases h
def look:J (O×gd)->O->aA gd
 | [],_=>none|(i,x)::r,j=>match km i j with
  |true=>some x|false=>look r j
def del:J (O×gd)->O->J (O×gd)
 | [],_=>[]|(i,x)::r,j=>match km i j with
  |true=>del r j|false=>(i,x)::del r j
theorem F2{l:J (O×gd)}{j:O}{x:gd}(h:look l j=some x):(j,x)∈l:=by
 induction l with
 |nil=>cases h
 |cons p r aW=>
  obtain⟨i,y⟩:=p;simp only[look] at h;split at h
  simp_all
  exact .tail _ (aW h)
theorem afX{l:J (O×gd)}{j:O}{p:O×gd}(h:p∈del l j):p∈l/\p.1≠j:=by
 induction l with
 |nil=>cases h
 |cons q r aW=>
  obtain⟨i,y⟩:=q;simp only[del] at h;split at h
  grind
  rename_i e;cases h with
  |head=>exact⟨.head _,λhd=>by simp_all⟩|tail _ h=>exact⟨.tail _ (aW h).1,(aW h).2⟩
def aM.put(s:aM)(dst:aA Tmp)(x:gd):aM:=
 match dst with
 |none=>s|some d=>match x3 d s.n with
  |true=>{s with env:=(d,x)::del s.env d}
  |false=>{s with env:=del s.env d}
def aM.drop(s:aM)(dst:aA Tmp):aM:=
 match dst with
 |none=>s|some d=>{s with env:=del s.env d}
def aM.sv(s:aM):iv->aA gd
 | .tmp t=>look s.env t| .const (.bool ai)=>some .iy| .const (.bool ao)=>some .kh| .const v=>some (.v v)| .global g=>some (.ptr ⟨g,0,none⟩)| .func f=>some (.v (.func (.func f) #[] #[]))
def aM.val(s:aM)(x:iv):aA ap:=(s.sv x).bind gd.val
class sN where
 ds:J Deferred
instance:sN:=⟨[]⟩
variable [sN]
structure FitsE(s:aM)(bs:J O)(a:ek):Prop where
 defers:a.defers=La s.Ex++sN.ds
 n:a.tmps.size=s.n
 env:∀p∈s.env,∃v,hv bs p.2=some v/\a.tmps[p.1]?=some v
structure Fits(s:aM)(bs:J O)(u:H)(a:ek)(w:ci):Prop extends FitsE s bs a where
 len:bs.length=s.loc.length
 loc:∀(i:O) (cs:J ap),s.loc[i]?=some cs->∃(b:O) (T:dC),bs[i]?=some b/\w.heap[b]?=some (bt cs.toArray T (0,0))
 nodup:bs.Nodup
 cy:∀b∈bs,u b=none/\b<w.heap.size
 sub:Sub u w
structure jK(loc:J (J ap))(bs:J O)(u:H)(w:ci):Prop where
 loc:∀(i:O) (cs:J ap),loc[i]?=some cs->∃(b:O) (T:dC),bs[i]?=some b/\w.heap[b]?=some (bt cs.toArray T (0,0))
 sub:Sub u w
def Fits.w{s:aM}{u:H}{a:ek}{w:ci}(h:Fits s bs u a w):jK s.loc bs u w:=⟨h.loc,h.sub⟩
theorem FitsE.sv{s:aM}{a:ek}(h:FitsE s bs a){x:iv}{y:gd}(e:s.sv x=some y):hv bs y=some (a.eval x):=by
 cases x with
 |tmp t=>
  simp only[aM.sv] at e;obtain⟨v,h1,h2⟩:=h.env _ (F2 e);simp only[Act.eval]
  simp_all
 |const v=>
  cases v<;>try(simp only[aM.sv,ll] at e;subst e;rfl)
  rename_i b;cases b<;>(simp only[aM.sv,ll] at e;subst e;rfl)
 |global g=>simp only[aM.sv,ll] at e;subst e;rfl|func f=>simp only[aM.sv,ll] at e;subst e;rfl
theorem FitsE.val{s:aM}{a:ek}(h:FitsE s bs a){x:iv}{v:ap}(e:s.val x=some v):a.eval x=v:=by
 unfold aM.val at e;cases M:s.sv x with
 |none=>rw[M] at e;cases e
 |some y=>
  rw[M] at e;have h1:=h.sv M;have h2:=gd.US e bs
  grind
theorem ab1(a:ek)(d:O)(v:ap)(j:O):(a.put (some d) v).tmps[j]?=if d=j/\j<a.tmps.size then some v else a.tmps[j]?:=by
 simp only[Act.put,Array.getElem?_setIfInBounds]
 grind
def Fits.drop{s:aM}{u:H}{a:ek}{w:ci}(h:Fits s bs u a w)(dst:aA Tmp)(v:ap):Fits (s.drop dst) bs u (a.put dst v) w:=by
 cases dst with
 |none=>exact h|some d=>refine⟨⟨h.defers,by simp[Act.put,h.n,aM.drop],?_⟩,h.len,h.loc,h.nodup,h.cy,h.sub⟩;intro p ad;obtain⟨h1,h2⟩:=afX ad;obtain⟨x,M,aj⟩:=h.env p h1;refine⟨x,M,?_⟩;rw[ab1,bF (λe=>h2 e.1.symm)];exact aj
def Fits.put{s:aM}{u:H}{a:ek}{w:ci}(h:Fits s bs u a w)(dst:aA Tmp){x:gd}{v:ap}(e:hv bs x=some v):Fits (s.put dst x) bs u (a.put dst v) w:=by
 cases dst with
 |none=>exact h|some d=>
  have av:=h.drop (some d) v;cases aa:x3 d s.n with
  |false=>
   have aT:s.put (some d) x=s.drop (some d):=by simp only[aM.put,aa,aM.drop]
   rw[aT];exact av|true=>
   have aT:s.put (some d) x={s with env:=(d,x)::del s.env d}:=by simp only[aM.put,aa]
   rw[aT];have bP:d<s.n:=by simpa using aa
   refine⟨⟨av.defers,av.n,?_⟩,h.len,h.loc,h.nodup,h.cy,h.sub⟩;intro p ad;cases ad with
   |head=>exact⟨v,e,by rw[ab1,b3 ⟨rfl,by rw[h.n];exact bP⟩]⟩|tail _ ad=>exact av.env p ad
def Fits.step{s:aM}{u u':H}{a:ek}{w:ci}(h:Fits s bs u a w)(k:Step u [] w u' [] w'):Fits s bs u' a w':=by refine⟨⟨h.defers,h.n,h.env⟩,h.len,?_,h.nodup,?_,k.sub⟩;intro i cs e;obtain⟨b,T,h1,h2⟩:=h.loc i cs e;have hm:b∈bs:=dz h1;exact⟨b,T,h1,(k.rest b (h.cy b hm).2 (h.cy b hm).1 (by simp)).trans h2⟩;intro b aa;exact⟨k.jB b (h.cy b aa).2 (h.cy b aa).1,Ju (h.cy b aa).2 k.size⟩
def Step.Mk{u u':H}{w:ci}(k:Step u [] w u' [] w')(bs:J O):Step u bs w u' bs w':=
 ⟨k.sub,k.os,k.tape,k.output,k.drawn,k.size,λb aa hu _=>k.rest b aa hu (by simp),k.jB,[],by simp,by simp⟩
def afR:ap->aI
 | .int k _=>.int k| .bool _=>.bool| .string _=>.str| .pointer _=>.ptr| .slice _ _ _=>.slice| .map _=>.map|_=>.val
def rf(P:dL)(t:dC):ay:=
 match P.underlying t with
 |some (.struct _)=>ai|some (.array _ _)=>ai|_=>ao
def q5(P:dL)(t:dC):aA bk:=
 match P.info? t with
 |some i=>match i.zero,P.underlying t with
  |some (.agg cs),some _=>match rf P t,km cs.size i.size with
   |true,ai=>some (.agg (cs.toList.map afR))|_,_=>none
  |some W,some _=>match rf P t,km 1 i.size with
   |false,ai=>some (.one (afR W))|_,_=>none
  |_,_=>none
 |none=>none
def O2(P:dL)(t:dC):aA (J bk):=
 match P.underlying t with
 |some (.tuple cg)=>cg.toList.mapM (q5 P)|_=>(q5 P t).map λs=>[s]
def zeroOf(P:dL)(t:dC):aA (J ap):=
 match P.info? t with
 |some i=>i.zero.map λW=>W.cells.toList|none=>none
def yh(P:dL)(t:dC):aA O:=(P.info? t).map (·.size)
def Js(P:dL){α:Type}:Sem α->aA α
 | .pure a=>some a| .program k=>Js P (k P)|_=>none
def az3{α:Type}{m:Sem α}{a:α}(h:Js P m=some a)(w:ci):m.run P w=.ok a w:=by
 induction m with
 |pure b=>simp only[Js,ll] at h;subst h;rfl|program k aW=>simp only[Js] at h;simp only[rK];exact aW _ h|_=>simp[Js] at h
def aM.ic(s:aM)(x:iv):ap:=(s.val x).getD h9
def known(s:aM)(z:eH):ay:=z.op.operands.toList.all λx=>(s.val x).isSome
def agm{s:aM}{a:ek}(h:FitsE s bs a){z:eH}(ae:∀cs b,z.op≠.select cs b)(hk:known s z=ai):fu a.eval z=fu s.ic z:=by refine execOp_congr z ae λx M=>?_;have h1:=Oc.1 hk x (Tl.2 M);obtain⟨v,aB⟩:=Jv.1 h1;rw[h.val aB];simp[aM.ic,aB]
def akQ:Op->ay
 | .select _ _| .index ..| .lookup ..| .mapUpdate ..| .insert ..| .makeMap ..| .makeSlice ..| .slice ..| .buildSlice ..| .typeAssert ..| .range ..| .next ..| .entry ..| .mapEntry ..| .entryStore ..=>ao| .call c=>match c.callee with
  | .builtin .append| .builtin .copy| .builtin .delete| .builtin .clear=>ao|_=>ai
 |_=>ai
def akA(P:dL):Op->ay
 | .call c=>match c.callee with
  | .builtin .len=>match c.argTypes.toList with
   |t::_=>match P.underlying t with
    |some (.map _ _)=>ai|_=>ao
   | []=>ao
  |_=>ao
 |_=>ao
def afO(P:dL)(s:aM):Op->ay
 | .convert _ d x=>match s.sv x with
  |some (.v (.slice _ _ _))=>ai|some (.v (.string _))=>match P.underlying d with
   |some (.slice _)=>ai|_=>ao
  |_=>ao
 |_=>ao
def zB(P:dL)(s:aM)(z:eH):aA ap:=
 match akA P z.op ||afO P s z.op with
 |true=>none|false=>match known s z,akQ z.op with
  |true,ai=>match Js P (fu s.ic z) with
   |some (.value v)=>some v|_=>none
  |_,_=>none
def ak5{s:aM}{a:ek}(h:FitsE s bs a){z:eH}{v:ap}(e:zB P s z=some v)(w:ci):(fu a.eval z).run P w=.ok (.value v) w:=by unfold zB at e;split at e;cases e;split at e;rename_i h1 h2;split at e;rename_i x h3;cases e;rw[agm h (λcs b e=>by rw[e] at h2;cases h2) h1];exact az3 h3 w;cases e;cases e
def QJ:BinOp->o->o->aA gd
 | .eql,a,b=>some (.dec (a=b) tL)| .neq,a,b=>some (.va (a=b) tL)| .lss,a,b=>some (.dec (a<b) tL)| .leq,a,b=>some (.dec (a<=b) tL)| .gtr,a,b=>some (.dec (b<a) tL)| .geq,a,b=>some (.dec (b<=a) tL)|_,_,_=>none
def aqR{op:BinOp}{a b:o}{x:gd}(h:QJ op a b=some x)(P:dL)(t:dC)(k:x1)(bs:J O):
  ∃v,hv bs x=some v/\∀w,(binOp op t (.int k a) (.int k b)).run P w=.ok v w:=by
 cases op<;>simp only[QJ,ll,reduceCtorEq] at h<;>subst h<;>refine⟨_,rfl,λw=>?_⟩
 rw[binOp_eql];rfl
 rw[binOp_neq];rfl
 rw[binOp_lss];rfl
 rw[binOp_leq];rfl
 rw[binOp_gtr];rfl
 rw[binOp_geq];rfl
def a7(x:o):Prop:= -9223372036854775808<=x/\x<=9223372036854775807
theorem aH1{x:o}(h:a7 x):b2.wrap x=x:=by
 obtain⟨h1,h2⟩:=h;simp only[bS,Gf,Gg]
 grind
def Qx(wrap:ay)(op:BinOp)(k:x1)(a b:o)(f:o->Prop):Prop:=
 let r:aA o:=match op with
  | .add=>some (a+b)| .sub=>some (a-b)| .mul=>some (a*b)|_=>none
 match r with
 |some W=>match k,wrap with
  | .i64,ao=>a7 W/\f W|k,_=>f (k.wrap W)
 |none=>match op with
  | .quo=>b≠0/\(match k,wrap with
   | .i64,ao=>a7 (a.tdiv b)/\f (a.tdiv b)|k,_=>f (k.wrap (a.tdiv b)))
  | .rem=>b≠0/\f (a.tmod b)| .shl=>0<=b/\f (k.wrap (a*2 ^ (min b.toNat k.bits)))| .shr=>0<=b/\f (a.fdiv (2 ^ (min b.toNat k.bits)))| .and=>f (bits .and k a b)| .or=>f (bits .or k a b)| .xor=>f (bits .xor k a b)| .andNot=>f (bits .andNot k a b)|_=>eg
def apE{wrap:ay}{op:BinOp}{k:x1}{a b:o}{f:o->Prop}(h:Qx wrap op k a b f)(P:dL)(t:dC)(dY:x1)
  (hk:dY=k∨op=.shl∨op=.shr):
  ∃W,f W/\∀w,(binOp op t (.int k a) (.int dY b)).run P w=.ok (.int k W) w:=by
 have two:∀W,(match k,wrap with| .i64,ao=>a7 W/\f W|k,_=>f (k.wrap W))->f (k.wrap W):=by intro W aE;cases k<;>cases wrap<;>first|exact aE|(rw[aH1 aE.1];exact aE.2)
 unfold Qx at h
 cases op<;>simp only[] at h
 case add=>
  obtain rfl:dY=k:=by simpa using hk
  exact⟨_,two _ h,λw=>by rw[binOp_add];rfl⟩
 case sub=>
  obtain rfl:dY=k:=by simpa using hk
  exact⟨_,two _ h,λw=>by rw[binOp_sub];rfl⟩
 case mul=>
  obtain rfl:dY=k:=by simpa using hk
  exact⟨_,two _ h,λw=>by rw[binOp_mul];rfl⟩
 case quo=>
  obtain rfl:dY=k:=by simpa using hk
  exact⟨_,two _ h.2,λw=>by rw[binOp_quo];simp[Op.intDiv,h.1]⟩
 case rem=>
  obtain rfl:dY=k:=by simpa using hk
  exact⟨_,h.2,λw=>by rw[binOp_rem];simp[Op.intDiv,h.1]⟩
 case and=>
  obtain rfl:dY=k:=by simpa using hk
  exact⟨_,h,λw=>by rw[binOp_and,intBits_and];rfl⟩
 case or=>
  obtain rfl:dY=k:=by simpa using hk
  exact⟨_,h,λw=>by rw[binOp_or,intBits_or];rfl⟩
 case xor=>
  obtain rfl:dY=k:=by simpa using hk
  exact⟨_,h,λw=>by rw[binOp_xor,intBits_xor];rfl⟩
 case andNot=>
  obtain rfl:dY=k:=by simpa using hk
  exact⟨_,h,λw=>by rw[binOp_andNot,intBits_andNot];rfl⟩
 case shl=>
  refine⟨_,h.2,λw=>?_⟩;rw[binOp_shl];have:¬b<0:=by omega
  simp[Op.shift,this]
 case shr=>
  refine⟨_,h.2,λw=>?_⟩;rw[binOp_shr];have:¬b<0:=by omega
  simp[Op.shift,this]
end
section
variable{P:dL}{t T e:dC}{b off:O}{w w':ci}{v:ap}{f:j8}{vs:J ap}
structure Ch where
 p:Prop
 d:Decidable p
def HK{α:Type}(x:aA α):Decidable (x=none):=
 match x with
 |none=>.isTrue rfl|some _=>.isFalse (by simp)
def Lm:ap->ap->aA Ch
 | .int k a,.int dY b=>match zh k dY with
  |true=>some ⟨a=b,tL⟩|false=>none
 |_,_=>none
def Ln:J (O×O)->O->aA O
 | [],_=>none|(t,n)::r,x=>match km t x with
  |true=>some n|false=>Ln r x
def yI:J ap->J ap->aA Ch
 | [],[]=>some ⟨True,tL⟩| [x],[y]=>Lm x y|x::xs,y::eK=>match Lm x y,yI xs eK with
  |some a,some b=>some ⟨a.p/\b.p,@instDecidableAnd a.p b.p a.d b.d⟩|_,_=>none
 |_,_=>none
def QE:gd->aA ay
 | .v (.bool b)=>some b| .iy=>some ai| .kh=>some ao| .dec p d=>some (@decide p d)| .va p d=>some (!@decide p d)|_=>none
def aaZ:BinOp->ay
 | .shl=>ai| .shr=>ai|_=>ao
def Lo(C:lq)(t:dC):gd->gd->aA Ch
 | .v (.pointer p),.v (.pointer none)=>match C.P.underlying t with
  |some (.pointer _)=>some ⟨p=none,HK p⟩|_=>none
 | .ptr _,.v (.pointer none)=>match C.P.underlying t with
  |some (.pointer _)=>some ⟨eg,tL⟩|_=>none
 | .v (.slice a _ _),.v (.slice none _ _)=>match C.P.underlying t with
  |some (.slice _)=>some ⟨a=none,HK a⟩|_=>none
 | .v (.map a),.v (.map none)=>match C.P.underlying t with
  |some (.map _ _)=>some ⟨a=none,HK a⟩|_=>none
 | .v (.agg xs),.v (.agg eK)=>match Ln C.io t with
  |some n=>match km xs.toList.length n,km eK.toList.length n with
   |true,ai=>yI xs.toList eK.toList|_,_=>none
  |none=>none
 | .v (.string x),.v (.string y)=>some ⟨x.toList=y.toList,tL⟩|x,y=>match QE x,QE y,C.P.underlying t with
  |some a,some b,some .bool=>some ⟨a=b,tL⟩|_,_,_=>none
def _root_.Go.Addr.at'(p:a8):O->a8
 |0=>p|i+1=>p.add (i+1)
def SY(u:H)(p:a8):O->J aI->(J ap->Prop)->Prop
 |_,[],f=>f []|i,t::cg,f=>∃x:t.den,u.cell? (p.at' i)=some (t.enc x)/\SY u p (i+1) cg λvs=>f (t.enc x::vs)
def bk.mk:bk->J ap->ap
 | .one _,v::_=>v| .one _,[]=>.tuple #[]| .agg _,vs=>.agg vs.toArray
def wr:cA ap->O->J ap->cA ap
 |c,_,[]=>c|c,z,v::vs=>wr (c.setIfInBounds z v) (z+1) vs
def H.aM(u:H)(p:a8)(vs:J ap)(f:H->Prop):Prop:=
 ∃(c:cA ap) (T:dC),u p.block=some (.cells c T (0,0))/\p.spot=none/\p.off+vs.length<=c.size/\(∀v∈vs,v.oneCell'=ai)/\
  f (u.ins p.block (.cells (wr c p.off vs) T (0,0)))
def over(cs:J ap)(off:O)(vs:J ap):J ap:=cs.take off++vs++cs.drop (off+vs.length)
def N2:J ap->ay
 | []=>ai|v::vs=>v.oneCell' && N2 vs
def tV{α:Type}:J α->O->α->J α
 | [],_,_=>[]|_::xs,0,y=>y::xs|x::xs,i+1,y=>x::tV xs i y
def N1(P:dL)(t:dC)(f:O):aA O:=
 match P.underlying t with
 |some (.struct aQ)=>match aQ[f]? with
  |some g=>match yh P g.type with
   |some (_+1)=>some g.offset|_=>none
  |none=>none
 |_=>none
def gT(l:J O)(x:O):ay:=l.any (km x)
def Pw(s:aM)(xs:cA iv):aA (J ap):=xs.toList.mapM s.val
def h6(P:dL)(fv:ap)(args:cA ap)(ss:J bk)(u:H)(K:hp (gW ss) (H->Prop)):Prop:=
 ∃f pre cap,fv=.func (.func f) pre cap/\(∃fn,P.funcs[f]?=some fn/\fn.body.isSome=ai)/\hD P f (pre++args++cap) ss u K
def Ae(P:dL)(fv:ap)(args:cA ap)(ss:J bk)(u:H)(K:hp (gW ss) (H->Prop)):Prop:=
 ∃l,fv=.func (.yield l) #[] #[]/\∀w,Sub u w->YieldAt vg 0 P l args w λe w'=>∃v u',e=.returned v/\(∃vs,pG (gW ss) vs/\v=xb ss vs/\hU (gW ss) K vs λr=>r u')/\Step u [] w u' [] w'
def ua(P:dL)(fv:ap)(args:cA ap)(ss:J bk)(u:H)(K:hp (gW ss) (H->Prop)):Prop:=h6 P fv args ss u K∨Ae P fv args ss u K
def nv(P:dL)(recv:ap)(name:String)(args:cA ap)(ss:J bk)(u:H)(K:hp (gW ss) (H->Prop)):Prop:=
 ∃t v f r,recv=.iface t v/\(∀w,Sub u w->(method (P.types.size+tM) t v name).run P w=.ok (f,r) w)/\
  (∃fn,P.funcs[f]?=some fn/\fn.body.isSome=ai)/\hD P f (#[r]++args) ss u K
def Ar(f:j8)(args:cA ap):Sem ap:=do
 match <-qT f args with
 | .value v=>pure v|_=>stuck "callX"
def unit(m:Sem Unit):Sem ap:=do
 m
 pure h9
def hy(P:dL)(f:j8):ay:=
 match P.funcs[f]? with
 |some fn=>fn.body.isSome|none=>ao
def akO(P:dL)(f:j8):ay:=
 match P.funcs[f]? with
 |some fn=>fn.body.isNone|none=>ao
def GK(s:aM)(z:eH):aA (Sem ap):=
 match z.op with
 | .lookup t x i ok=>some (gY t (s.ic x) (s.ic i) ok)| .mapUpdate t m k x=>some (unit (kW t (s.ic m) (s.ic k) (s.ic x)))| .insert t m k x=>some (unit (kW t (s.ic m) (s.ic k) (s.ic x)))| .makeMap t none=>some (pr t none)| .makeMap t (some r)=>some (pr t (some (s.ic r)))| .makeSlice t l c=>some (qU t (s.ic l) (s.ic c))| .slice t x bm hi NS=>some (fZ t (s.ic x) (bm.map s.ic) (hi.map s.ic) (NS.map s.ic))| .index t x i=>some (Instr.index t (s.ic x) (s.ic i))| .convert a b x=>some (Go.convert a b (s.ic x))| .buildSlice t n c9=>some (dA t n (c9.map λ(i,x)=>(i,s.ic x)))| .typeAssert x a b ok=>some (so (s.ic x) a b ok)| .range t x=>some (rL t (s.ic x))| .next i str=>some (Od (s.ic i) str z.type)| .entry i=>some (Instr.entry (s.ic i))| .mapEntry t m k=>some (Instr.mapEntry t (s.ic m) (s.ic k))| .entryStore t m k x=>some (unit (Instr.entryStore t (s.ic m) (s.ic k) (s.ic x)))| .call c=>match c.callee with
  | .builtin .append=>some (dO c.argTypes z.type (c.args.map s.ic))| .builtin .copy=>some (Builtin.copy_ c.argTypes z.type (c.args.map s.ic))| .builtin .delete=>some (tN c.argTypes z.type (c.args.map s.ic))| .builtin .len=>some (rM c.argTypes z.type (c.args.map s.ic))| .builtin .max=>some (Builtin.max_ c.argTypes z.type (c.args.map s.ic))| .builtin .min=>some (Builtin.min_ c.argTypes z.type (c.args.map s.ic))| .builtin .clear=>some (qc c.argTypes z.type (c.args.map s.ic))| .value (.func f)=>some (Ar f (c.args.map s.ic))|_=>none
 |_=>none
def isUnit:Op->ay
 | .mapUpdate ..| .insert ..| .entryStore ..=>ai| .call c=>match c.callee with
  | .builtin .delete| .builtin .clear=>ai|_=>ao
 |_=>ao
def aA3(P:dL)(z:eH):aA (J bk):=
 match isUnit z.op with
 |true=>some []|false=>match z.op with
  | .alloc _| .buildSlice _ _ _=>O2 P z.type|_=>O2 P z.type
def sZ(s:aM)(dst:aA Tmp)(ss:J bk)(K:aM->H->Prop):hp (gW ss) (H->Prop):=
 NL (gW ss) λvs u'=>K (s.put dst (.v (xb ss vs))) u'
def other(C:lq)(s:aM)(z:eH)(u:H)(K:aM->H->Prop):Prop:=
 match zB C.P s z with
 |some v=>K (s.put z.dst (.v v)) u|none=>match known s z,GK s z,aA3 C.P z with
  |true,some m,some ss=>c7 C.P m ss u (sZ s z.dst ss K)|_,_,_=>eg
def Wz(v:ap)(b:ay):Prop:=v=.nilIface/\b=ai∨(∃t w,v=.iface t w)/\b=ao
def apr(v:ap)(b:ay):Prop:=Wz v (!b)
def ae4(op:BinOp)(v:ap)(f:ay->Prop):Prop:=
 match op with
 | .eql=>∃b:ay,Wz v b/\f b|_=>∃b:ay,apr v b/\f b
def S8(P:dL)(op:BinOp)(t:dC):iv->ay
 | .const .nilIface=>match P.underlying t with
  |some (.interface _)=>match op with
   | .eql=>ai| .neq=>ai|_=>ao
  |_=>ao
 |_=>ao
def cat(x y:ByteArray):ByteArray:=x++y
def wN(C:lq)(bC:O->ay)(s:aM)(z:eH)(u:H)(K:aM->H->Prop):Prop:=
 match z.op with
 | .move x=>match s.sv x with
  |some y=>K (s.put z.dst y) u|none=>eg
 | .assign x=>match s.sv x with
  |some y=>K (s.put z.dst y) u|none=>eg
 | .pick c a b=>match s.sv c,s.sv a,s.sv b with
  |some .iy,some y,_=>K (s.put z.dst y) u|some .kh,_,some y=>K (s.put z.dst y) u|some (.dec p _),some y,some W=>(p->K (s.put z.dst y) u)/\(¬p->K (s.put z.dst W) u)|some (.va p _),some y,some W=>(¬p->K (s.put z.dst y) u)/\(p->K (s.put z.dst W) u)|_,_,_=>eg
 | .binOp op t x y _=>match S8 C.P op t y with
  |true=>match s.val x with
   |some v=>ae4 op v λb=>K (s.put z.dst (.v (.bool b))) u|none=>eg
  |false=>match s.sv x,s.sv y with
   |some (.v (.int k a)),some (.v (.int dY b))=>match QJ op a b with
    |some W=>match zh dY k with
     |true=>K (s.put z.dst W) u|false=>eg
    |none=>match aaZ op ||zh dY k with
     |true=>Qx C.wrap op k a b λW=>K (s.put z.dst (.v (.int k W))) u|false=>eg
   |some a,some b=>match op with
    | .eql=>match Lo C t a b with
     |some W=>K (s.put z.dst (.dec W.p W.d)) u|none=>eg
    | .neq=>match Lo C t a b with
     |some W=>K (s.put z.dst (.va W.p W.d)) u|none=>eg
    | .add=>match a,b with
     | .v (.string x),.v (.string y)=>x.size+y.size<=9223372036854775807/\K (s.put z.dst (.v (.string (cat x y)))) u|_,_=>other C s z u K
    |_=>other C s z u K
   |_,_=>eg
 | .unOp .not _ x=>match s.sv x with
  |some .iy=>K (s.put z.dst .kh) u|some .kh=>K (s.put z.dst .iy) u|some (.dec p d)=>K (s.put z.dst (.va p d)) u|some (.va p d)=>K (s.put z.dst (.dec p d)) u|some (.v (.bool b))=>K (s.put z.dst (.va (b=ai) tL)) u|_=>eg
 | .unOp .neg _ x=>match s.sv x with
  |some (.v (.int .u32 m))=>K (s.put z.dst (.v (.int .u32 (bS .u32 (0-m))))) u|_=>other C s z u K
 | .unOp .xor _ x=>match s.sv x with
  |some (.v (.int .u32 m))=>K (s.put z.dst (.v (.int .u32 (bits .xor .u32 4294967295 m)))) u|_=>other C s z u K
 | .load t x=>match s.sv x,q5 C.P t with
  |some (.loc i off),some aC=>match s.loc[i]? with
   |some cs=>match wv (off+aC.im.length) cs.length with
    |true=>K (s.put z.dst (.v (aC.mk ((cs.drop off).take aC.im.length)))) u|false=>eg
   |none=>eg
  |some (.ptr p),some aC=>SY u p 0 aC.im λvs=>K (s.put z.dst (.v (aC.mk vs))) u|_,_=>eg
 | .store t x y=>match s.sv x,s.val y,q5 C.P t with
  |some (.loc i off),some v,some aC=>match s.loc[i]?,bC i,km v.cells.size aC.im.length,N2 v.cells.toList with
   |some cs,ai,ai,ai=>match wv (off+aC.im.length) cs.length with
    |true=>K ({s with loc:=tV s.loc i (over cs off v.cells.toList)}.drop z.dst) u
    |false=>eg
   |_,_,_,_=>eg
  |some (.ptr p),some v,some aC=>match km v.cells.size aC.im.length with
   |true=>u.aM p v.cells.toList λu'=>K (s.drop z.dst) u'|false=>eg
  |_,_,_=>eg
 | .alloc t=>match zeroOf C.P t,z.dst with
  |some cs,some d=>match gT C.exp d with
   |true=>∀b,u b=none->K (s.put (some d) (.ptr ⟨b,0,none⟩)) (u.ins b (.cells cs.toArray t (0,0)))|false=>K ({s with loc:=s.loc++ [cs]}.put (some d) (.loc s.loc.length 0)) u
  |_,_=>eg
 | .box t x=>match s.val x,z.dst with
  |some v,some d=>match gT C.exp d with
   |true=>∀b,u b=none->K (s.put (some d) (.ptr ⟨b,0,none⟩)) (u.ins b (.cells v.cells.toList.toArray t (0,0)))|false=>K ({s with loc:=s.loc++ [v.cells.toList]}.put (some d) (.loc s.loc.length 0)) u
  |_,_=>eg
 | .nilCheck x=>match s.sv x with
  |some (.loc i off)=>K (s.put z.dst (.loc i off)) u|some (.ptr p)=>K (s.put z.dst (.ptr p)) u|some (.v (.pointer q))=>∃p,q=some p/\K (s.put z.dst (.ptr p)) u|_=>eg
 | .fieldAddr t x f=>match s.sv x,N1 C.P t f with
  |some (.loc i off),some n=>K (s.put z.dst (.loc i (off+n))) u|some (.ptr p),some n=>K (s.put z.dst (.ptr (p.at' n))) u|_,_=>eg
 | .indexAddr t x a1=>match C.P.underlying t with
  |some (.slice e)=>match s.sv x,s.sv a1,yh C.P e with
   |some (.v (.slice a n _)),some (.v (.int _ i)),some hC=>∃p,a=some p/\(0<=i/\i<n)/\K (s.put z.dst (.ptr (p.add (i.toNat*hC)))) u|_,_,_=>eg
  |some (.array len e)=>match s.sv x,s.sv a1,yh C.P e with
   |some (.loc j off),some (.v (.int _ (.ofNat m))),some (hC+1)=>match x3 m len with
    |true=>K (s.put z.dst (.loc j (off+m*(hC+1)))) u|false=>eg
   |some (.ptr p),some (.v (.int _ i)),some hC=>2<=len/\(0<=i/\i<len)/\K (s.put z.dst (.ptr (p.add (i.toNat*hC)))) u|_,_,_=>eg
  |_=>eg
 | .call c=>match Pw s c.args,O2 C.P z.type with
  |some vs,some ss=>match c.callee with
   | .value (.func f)=>match hy C.P f with
    |true=>hD C.P f vs.toArray ss u (sZ s z.dst ss K)|false=>match akO C.P f with
     |true=>c7 C.P (Ar f vs.toArray) ss u (sZ s z.dst ss K)|false=>eg
   | .value x=>match s.sv x with
    |some (.v fv)=>h6 C.P fv vs.toArray ss u (sZ s z.dst ss K)|_=>eg
   | .invoke x name=>match s.sv x with
    |some (.v r)=>nv C.P r name vs.toArray ss u (sZ s z.dst ss K)|_=>eg
   | .builtin _=>other C s z u K
  |_,_=>eg
 |_=>other C s z u K
variable [sN]
structure Good(C:lq):Prop where
 azi:∀(f:j8) (fn:Func),C.P.funcs[f]?=some fn->(fn.name== "runtime.NumGoroutine")=ao
 mixed:C.P.follows .mixedOrders=ai
 eq:∀t n,Ln C.io t=some n->∀xs eK W,xs.toList.length=n->eK.toList.length=n->yI xs.toList eK.toList=some W->∀(x y:iv) (w:ci),
  (eqGuard .eql t x y (.agg xs) (.agg eK)).run C.P w=.ok () w/\(eqGuard .neq t x y (.agg xs) (.agg eK)).run C.P w=.ok () w/\
  (Op.equal t (.agg xs) (.agg eK)).run C.P w=.ok (@decide W.p W.d) w
structure Kept(bC:O->ay)(s ar:aM):Prop where
 n:ar.n=s.n
 len:s.loc.length<=ar.loc.length
 same:∀i cs,s.loc[i]?=some cs->bC i=ao->ar.loc[i]?=some cs
def Kept.refl(bC:O->ay)(s:aM):Kept bC s s:=⟨rfl,cw _,λ_ _ h _=>h⟩
def Kept.trans{bC:O->ay}{a b c:aM}(h:Kept bC a b)(k:Kept bC b c):Kept bC a c:=
 ⟨k.n.trans h.n,jW h.len k.len,λi cs e w=>k.same i cs (h.same i cs e w) w⟩
theorem np(s:aM)(d:aA Tmp)(x:gd):(s.put d x).loc=s.loc/\(s.put d x).n=s.n:=by
 cases d with
 |none=>exact⟨rfl,rfl⟩|some d=>simp only[aM.put];grind
def Xc(s:aM)(d:aA Tmp):(s.drop d).loc=s.loc/\(s.drop d).n=s.n:=by cases d<;>exact⟨rfl,rfl⟩
def Kept.put(bC:O->ay)(s:aM)(d:aA Tmp)(x:gd):Kept bC s (s.put d x):=
 ⟨(np s d x).2,by rw[(np s d x).1];exact cw _,λi cs h _=>by rw[(np s d x).1];exact h⟩
def Kept.drop(bC:O->ay)(s:aM)(d:aA Tmp):Kept bC s (s.drop d):=
 ⟨(Xc s d).2,by rw[(Xc s d).1];exact cw _,λi cs h _=>by rw[(Xc s d).1];exact h⟩
def mo(bC:O->ay)(K:aM->H->Prop)(s:aM)(bs:J O)(u:H)(a:ek)(w:ci)(dst:aA Tmp)(cT:ek)(w':ci):Prop:=
 ∃ar u' da v,K ar u'/\Fits ar da u' cT w'/\Step u bs w u' da w'/\cT=a.put dst v/\Kept bC s ar
section
variable {C:lq} {bC:O->ay} {s:aM} {z:eH} {u:H} {K:aM->H->Prop} {bs:J O} {a:ek} {w:ci} {Q:kX->ek->ci->Prop}
def zA{y:gd}(ab:Fits s bs u a w)(U:(fu a.eval z).run C.P w=.ok (.value v) w)(I:hv bs y=some v)(hk:K (s.put z.dst y) u):
  z.wp C.P a w (mo bC K s bs u a w z.dst) Q:=by
 unfold Ds
 rw[U]
 exact⟨_,u,bs,v,hk,ab.put z.dst I,Step.refl ab.sub,rfl,Kept.put bC s z.dst y⟩
def N0{u':H}(ab:Fits s bs u a w)(U:(fu a.eval z).run C.P w=.ok (.value v) w')(ae:Step u [] w u' [] w')(hk:K (s.put z.dst (.v v)) u'):
  z.wp C.P a w (mo bC K s bs u a w z.dst) Q:=by
 unfold Ds
 rw[U]
 exact⟨_,u',bs,v,hk,(ab.step ae).put z.dst (x:=.v v) rfl,ae.Mk bs,rfl,Kept.put bC s z.dst _⟩
def rc(C:lq)(s:aM)(z:eH)(u:H)(K:aM->H->Prop)(bs:J O)(a:ek):Prop:=
 ∃y v,K (s.put z.dst y) u/\hv bs y=some v/\∀w,(fu a.eval z).run C.P w=.ok (.value v) w
def nk(ab:Fits s bs u a w)(h:rc C s z u K bs a):z.wp C.P a w (mo bC K s bs u a w z.dst) Q:=by obtain⟨y,v,hk,I,U⟩:=h;exact zA ab (U w) I hk
def Qo(C:lq)(s:aM)(z:eH)(u:H)(K:aM->H->Prop)(bs:J O)(a:ek):Prop:=
 ∃y v,K (s.put z.dst y) u/\hv bs y=some v/\∀w,jK s.loc bs u w->(fu a.eval z).run C.P w=.ok (.value v) w
def akS(ab:Fits s bs u a w)(h:Qo C s z u K bs a):z.wp C.P a w (mo bC K s bs u a w z.dst) Q:=by obtain⟨y,v,hk,I,U⟩:=h;exact zA ab (U w ab.w) I hk
def abN{m:Sem ap}{ss:J bk}(ab:Fits s bs u a w)(h:c7 C.P m ss u (sZ s z.dst ss K))
  (U:∀v w',m.run C.P w=.ok v w'->(fu a.eval z).run C.P w=.ok (.value v) w'∨(fu a.eval z).run C.P w=.ok .skip w'/\v=h9):
  z.wp C.P a w (mo bC K s bs u a w z.dst) Q:=by
 obtain⟨v,w',u',e,⟨vs,aB,rfl,au⟩,ae⟩:=h w ab.sub
 have l7:K (s.put z.dst (.v (xb ss vs))) u':=(Pn aB _).1 au
 rcases U _ _ e with h1|⟨h1,h2⟩
 exact N0 ab h1 ae l7
 unfold Ds
 rw[h1]
 rw[h2] at l7
 exact⟨_,u',bs,h9,l7,(ab.step ae).put z.dst (x:=.v h9) rfl,ae.Mk bs,rfl,Kept.put bC s z.dst _⟩
def abM{args:cA ap}{ss:J bk}(ab:Fits s bs u a w)(h:hD C.P f args ss u (sZ s z.dst ss K))
  (U:(fu a.eval z).run C.P w=.ok (.enter f args) w):z.wp C.P a w (mo bC K s bs u a w z.dst) Q:=by
 unfold Ds
 rw[U]
 refine(h w ab.sub).mono ?_
 rintro e w' ⟨v,u',rfl,⟨vs,aB,rfl,au⟩,ae⟩
 have l7:K (s.put z.dst (.v (xb ss vs))) u':=(Pn aB _).1 au
 exact⟨_,u',bs,_,l7,(ab.step ae).put z.dst (x:=.v _) rfl,ae.Mk bs,rfl,Kept.put bC s z.dst _⟩
theorem an8(ab:FitsE s bs a){xs:cA iv}(h:Pw s xs=some vs):xs.map a.eval=vs.toArray:=by
 unfold Pw at h;have key:∀(l:J iv) (vs:J ap),l.mapM s.val=some vs->l.map a.eval=vs:=by
  intro l;induction l with
  |nil=>grind|cons x l aW=>intro vs h;simp only[ab2,Option.bind_eq_bind,ab3,Option.pure_def,ll] at h;obtain⟨y,aj,eK,aaQ,rfl⟩:=h;simp only[iw,aW eK aaQ,ab.val aj]
 grind
theorem ahB(h:hy P f=ai):∃fn,P.funcs[f]?=some fn/\fn.body.isSome=ai:=by
 unfold hy at h
 grind
def QI(fP:Good C)(h:∃fn,C.P.funcs[f]?=some fn/\fn.body.isSome=ai)(args:cA ap)(w:ci):
  (qT f args).run C.P w=.ok (.enter f args) w:=by
 obtain⟨fn,e,aa⟩:=h
 have h1:=fP.azi f fn e
 obtain⟨b,eB⟩:=Jv.1 aa
 simp only[qT,eN,program,rK,lm,e]
 simp[h1,eB]
theorem aA2(ae:∀cs b,z.op≠.select cs b)(ab:FitsE s bs a)(hk:known s z=ai){m:Sem ap}(hm:GK s z=some m)(U:m.run C.P w=.ok v w'):
  (fu a.eval z).run C.P w=.ok (.value v) w'∨(fu a.eval z).run C.P w=.ok .skip w'/\v=h9:=by
 have hu:∀x:Sem Unit,(unit x).run C.P w=.ok v w'->(do x;pure Next.skip:Sem Next).run C.P w=.ok .skip w'/\v=h9:=by
  intro x M;simp only[unit,eN] at M ⊢;cases aKb:x.run C.P w with
  |ok W dF=>
   simp_all|halt W dF=>simp_all
 have aB:∀x:Sem ap,x.run C.P w=.ok v w'->(do pure (Next.value (<-x)):Sem Next).run C.P w=.ok (.value v) w':=by simp_all
 rw[agm ab ae hk]
 unfold GK at hm
 unfold fu
 split at hm
 all_goals try(rename_i e;rw[e];cases hm;simp only[])
 case _=>exact .inl (aB _ U)
 case _=>exact .inr (hu _ U)
 case _=>exact .inr (hu _ U)
 case _=>exact .inl (aB _ U)
 case _=>exact .inl (aB _ U)
 case _=>exact .inl (aB _ U)
 case _=>exact .inl (aB _ U)
 case _=>exact .inl (aB _ U)
 case _=>exact .inl (aB _ U)
 case _=>exact .inl (aB _ U)
 case _=>exact .inl (aB _ U)
 case _=>exact .inl (aB _ U)
 case _=>exact .inl (aB _ U)
 case _=>exact .inl (aB _ U)
 case _=>exact .inl (aB _ U)
 case _=>exact .inr (hu _ U)
 case _ c e=>
  rw[e];simp only[];split at hm
  all_goals try(rename_i I;cases hm;left;simp only[resolve,I,pure_bind,invoke,builtin];exact aB _ U)
  rename_i f I;cases hm;left;simp only[resolve,I,aM.ic,aM.val,aM.sv,Oe,gd.val,Of,Tm,pure_bind,invoke,Array.append_empty,Array.empty_append];simp only[Ar,eN] at U;cases M:(qT f (Array.map s.ic c.args)).run C.P w with
  |halt W dF=>rw[M] at U;simp at U|ok W dF=>
   rw[M] at U;simp only[lm] at U;cases W<;>simp only[] at U<;>first
    |(have xF:x4 _ dF=x4 v w':=U;cases xF;rfl)
    |(simp[stuck] at U)
  cases hm
 case _=>cases hm
def akU(ae:∀cs b,z.op≠.select cs b)(ab:Fits s bs u a w)(h:other C s z u K):z.wp C.P a w (mo bC K s bs u a w z.dst) Q:=by unfold other at h;split at h;rename_i v e;exact zA (y:=.v v) ab (ak5 ab.toFitsE e w) rfl h;split at h;rename_i hk hm fM;exact abN ab h λv w' U=>aA2 ae ab.toFitsE hk hm U;exact h.elim
def afh(p:a8)(i:O):p.at' i=p.add i:=by
 cases i with
 |zero=>simp[a8.at',er]|succ i=>rfl
theorem ayg{p:a8}:∀(cg:J aI) (i:O) (f:J ap->Prop),SY u p i cg f->
  ∃vs,pG cg vs/\f vs/\∀w acc,Sub u w->(loadCellsFrom p i cg.length acc).run P w=.ok (acc++vs.toArray) w:=by
 intro cg
 induction cg with
 |nil=>intro i f h;exact⟨[],.nil,h,λw acc _=>by simp[loadCellsFrom]⟩
 |cons t cg aW=>
  intro i f h;obtain⟨x,M,U⟩:=h;obtain⟨vs,hk,E4,om⟩:=aW (i+1) _ U;refine⟨t.enc x::vs,.cons x hk,E4,λw acc gR=>?_⟩;rw[afh] at M;have h1:=gR.cell M;simp only[jq,loadCellsFrom,eN,load,rK,h1,lm]
  simp_all
def ax9{cg:J aI}(h:pG cg vs):vs.length=cg.length:=by
 induction h with
 |nil=>rfl|cons _ _ aW=>simp[aW]
theorem ac0{aC:bk}(h:q5 P t=some aC):
  ∃i d,P.info? t=some i/\P.underlying t=some d/\i.size=aC.im.length/\
   (∀w,(isAgg t).run P w=.ok (match aC with| .one _=>ao| .agg _=>ai) w):=by
 unfold q5 at h
 split at h
 rename_i i hi
 split at h
 rename_i cs d aE av
 split at h
 rename_i az aa
 cases h
 refine⟨i,d,hi,by assumption,?_,?_⟩
 have:=sq aa;simp[bk.im,this]
 intro w
 unfold rf at az
 rw[av] at az
 simp only[isAgg,eN,underlying,program,rK,lm,av]
 cases d<;>simp_all
 cases h
 rename_i W d _ _ _
 have av:P.underlying t=some d:=by assumption
 split at h
 rename_i az aa
 cases h
 refine⟨i,d,hi,by assumption,?_,?_⟩
 have:=sq aa;simp[bk.im,<-this]
 intro w
 unfold rf at az
 rw[av] at az
 simp only[isAgg,eN,underlying,program,rK,lm,av]
 cases d<;>simp_all
 cases h
 cases h
 cases h
def O3{i:TypeInfo}(h:P.info? t=some i)(w:ci):(sizeOf t).run P w=.ok i.size w:=by simp[sizeOf,typeInfo,program,rK,h]
def Jc{aC:bk}(h:q5 P t=some aC)(p:a8)(hk:vs.length=aC.im.length)
  (U:(loadCellsFrom p 0 aC.im.length #[]).run P w=.ok vs.toArray w) (hw:∀c,aC=.one c->∃v,vs=[v]/\w.cell? p=some v):
  (loadVar t p).run P w=.ok (aC.mk vs) w:=by
 obtain⟨i,d,hi,av,dm,az⟩:=ac0 h
 unfold loadVar
 rw[eN,az]
 cases aC with
 |one c=>obtain⟨v,rfl,aB⟩:=hw c rfl;simp[load,rK,aB,bk.mk]
 |agg cs=>simp only[lm,x5,eN,O3 hi,loadCells,dm];rw[U];simp[bk.mk]
structure sV(b:O)(z:Obj)(w w':ci):Prop where
 at_:w'.heap[b]?=some z
 size:w'.heap.size=w.heap.size
 os:w'.os=w.os
 tape:w'.tape=w.tape
 output:w'.output=w.output
 drawn:w.drawn<=w'.drawn
 rest:∀x,x≠b->w'.heap[x]?=w.heap[x]?
def sV.refl{z:Obj}(h:w.heap[b]?=some z):sV b z w w:=⟨h,rfl,rfl,rfl,rfl,cw _,λ_ _=>rfl⟩
def sV.trans{z cn:Obj}{PB:ci}(h:sV b z w w')(k:sV b cn w' PB):sV b cn w PB:=
 ⟨k.at_,k.size.trans h.size,k.os.trans h.os,k.tape.trans h.tape,k.output.trans h.output,jW h.drawn k.drawn,λx M=>(k.rest x M).trans (h.rest x M)⟩
theorem sV.setCell{c:cA ap}(h:w.heap[b]?=some (.cells c T (0,0)))(v:ap):
  sV b (.cells (c.setIfInBounds off v) T (0,0)) w (w.setCell ⟨b,off,none⟩ v):=by
 refine⟨?_,by simp[ab4],rfl,rfl,rfl,cw _,λx M=>?_⟩
 simp only[ab4,ab5,x5,h,Dt]
 simp
 simp only[ab4,ab5]
 grind
theorem adE:∀(vs:J ap) (i:O) (c:cA ap) (w:ci),w.heap[b]?=some (.cells c T (0,0))->
  off+i+vs.length<=c.size->(∀v∈vs,v.oneCell'=ai)->∃w',(storeCells ⟨b,off,none⟩ vs i).run P w=.ok () w'/\sV b (.cells (wr c (off+i) vs) T (0,0)) w w':=by
 intro vs
 induction vs with
 |nil=>intro i c w h _ _;exact⟨w,rfl,.refl h⟩
 |cons v vs aW=>
  intro i c w h aq h1;simp only[jq] at aq;have hw:=sV.setCell (off:=off+i) h v;obtain⟨w',U,lh⟩:=aW (i+1) _ _ hw.at_ (by simp;omega) (λx M=>h1 x (.tail _ M));refine⟨w',?_,?_⟩;have az:(⟨b,off,none⟩:a8).add i=⟨b,off+i,none⟩:=by unfold er;split<;>simp_all
  have I:w.cell? ⟨b,off+i,none⟩=some c[off+i]:=by simp only[Jt,h];simp[Og (show off+i<c.size by omega)]
  have RQ:w.frozen? ⟨b,off+i,none⟩=ao:=by simp[Gh,h]
  simp only[storeCells,eN,az];rw[run_store P w _ v _ (h1 v (.head _)),I]
  simp_all
  have:=hw.trans lh;simpa[wr,Nat.add_assoc] using this
theorem anz{i:TypeInfo}(hi:P.info? t=some i)(dm:v.cells.size=i.size){c:cA ap}
  (h:w.heap[b]?=some (.cells c T (0,0))) (aq:off+v.cells.toList.length<=c.size) (h1:∀x∈v.cells.toList,x.oneCell'=ai):
  ∃w',(storeVar t ⟨b,off,none⟩ v).run P w=.ok () w'/\sV b (.cells (wr c off v.cells.toList) T (0,0)) w w':=by
 obtain⟨w',U,hw⟩:=adE (P:=P) (off:=off) v.cells.toList 0 c w h (by simpa using aq) h1
 refine⟨w',?_,by simpa using hw⟩
 unfold storeVar
 rw[eN,O3 hi]
 simp_all
theorem aku{cs:J ap}(h:w.heap[b]?=some (.cells cs.toArray T (0,0))):∀(n i:O) (acc:cA ap),
  off+i+n<=cs.length->(loadCellsFrom ⟨b,off,none⟩ i n acc).run P w=.ok (acc++((cs.drop (off+i)).take n).toArray) w:=by
 intro n
 induction n with
 |zero=>intro i acc _;simp[loadCellsFrom]
 |succ n aW=>
  intro i acc aq;have az:(⟨b,off,none⟩:a8).add i=⟨b,off+i,none⟩:=by unfold er;split<;>simp_all
  have bP:off+i<cs.length:=by omega
  have I:w.cell? ⟨b,off+i,none⟩=some cs[off+i]:=by simp only[Jt,h];simp[bP]
  simp only[loadCellsFrom,eN,load,rK,az,I,lm];rw[aW (i+1) _ (by omega)];rw[qV bP,Jw,<-Nat.add_assoc];simp
theorem Fits.azg(ab:Fits s bs u a w)(cs:J ap)(T:dC):
  Fits {s with loc:=s.loc++ [cs]} (bs++ [w.heap.size]) u a (w.alloc (.cells cs.toArray T (0,0)))/\
  Step u bs w u (bs++ [w.heap.size]) (w.alloc (.cells cs.toArray T (0,0))):=by
 have ow:∀(b:O) (z:Obj),w.heap[b]?=some z->(w.alloc (.cells cs.toArray T (0,0))).heap[b]?=some z:=by
  intro b z e;have bP:b<w.heap.size:=by grind
  show(w.heap.push _)[b]?=_;rw[Array.getElem?_push,bF (by omega)];exact e
 refine⟨⟨⟨ab.defers,ab.n,?_⟩,by simp[ab.len],?_,?_,?_,λb z e=>ow b z (ab.sub b z e)⟩,⟨λb z e=>ow b z (ab.sub b z e),rfl,rfl,rfl,cw _,by simp_all,?_,λ_ _ e=>e,[w.heap.size],rfl,by simp⟩⟩
 intro p ad
 obtain⟨v,h1,h2⟩:=ab.env p ad
 refine⟨v,?_,h2⟩
 cases M:p.2<;>rw[M] at h1<;>first|exact h1|skip
 rename_i i off
 simp only[hv] at h1 ⊢
 grind
 intro i yD e
 rcases tK i s.loc.length with k|k
 rw[Gi k] at e
 obtain⟨b,bD,h1,h2⟩:=ab.loc i yD e
 grind
 rw[Tn k] at e
 have hi:i=s.loc.length:=by grind
 subst hi
 simp only[To,Du,ll] at e
 subst e
 refine⟨w.heap.size,T,by rw[<-ab.len];simp,?_⟩
 show(w.heap.push _)[w.heap.size]?=_
 simp
 rw[hg]
 refine⟨ab.nodup,by simp,?_⟩
 intro x M y aj
 simp only[hZ] at aj
 subst aj
 have:=(ab.cy x M).2
 omega
 intro b aa
 rcases dT.1 aa with aa|aa
 exact⟨(ab.cy b aa).1,by have:=(ab.cy b aa).2;rw[World.size_alloc];omega⟩
 simp only[hZ] at aa
 subst aa
 exact⟨ab.sub.none (cw _),by simp_all⟩
 grind
theorem Fits.Bp(ab:Fits s bs u a w)(z:Obj):
  Fits s bs (u.ins w.heap.size z) a (w.alloc z)/\Step u bs w (u.ins w.heap.size z) bs (w.alloc z):=by
 have ow:∀(b:O) (p:Obj),w.heap[b]?=some p->(w.alloc z).heap[b]?=some p:=by
  intro b p e;have bP:b<w.heap.size:=by grind
  show(w.heap.push _)[b]?=_;rw[Array.getElem?_push,bF (by omega)];exact e
 have gR:Sub (u.ins w.heap.size z) (w.alloc z):=by intro b p e;unfold H.ins at e;split at e;rename_i aa;subst aa;cases e;show(w.heap.push _)[w.heap.size]?=_;simp;exact ow b p (ab.sub b p e)
 refine⟨⟨⟨ab.defers,ab.n,ab.env⟩,ab.len,?_,ab.nodup,?_,gR⟩,⟨gR,rfl,rfl,rfl,cw _,by simp_all,?_,?_,[],by simp,by simp⟩⟩
 intro i cs e
 obtain⟨b,T,h1,h2⟩:=ab.loc i cs e
 grind
 intro b aa
 have:=ab.cy b aa
 exact⟨by rw[H.bz u z (by omega)];exact this.1,by rw[World.size_alloc];omega⟩
 grind
 intro b aa e
 rw[H.bz u z (by omega)];exact e
def acZ{α:Type}(l:J α)(i:O)(y:α)(j:O):(tV l i y)[j]?=if i=j/\j<l.length then some y else l[j]?:=by
 induction l generalizing i j with
 |nil=>simp[tV]|cons x xs aW=>
  cases i with
  |zero=>cases j<;>simp[tV]
  |succ i=>cases j with
   |zero=>simp[tV]|succ j=>simp only[tV,Gj,aW];simp
def T9{α:Type}(l:J α)(i:O)(y:α):(tV l i y).length=l.length:=by
 induction l generalizing i with
 |nil=>rfl|cons x xs aW=>cases i<;>simp[tV,aW]
theorem aot:∀(vs cs:J ap) (off:O),off+vs.length<=cs.length->wr cs.toArray off vs=(over cs off vs).toArray:=by
 intro vs;induction vs with
 |nil=>intro cs off _;simp[wr,over]
 |cons v vs aW=>
  intro cs off h;simp only[jq] at h;simp only[wr];rw[alf,aW _ _ (by simp;omega)];congr 1;apply sr;intro j;simp only[over,Tp,gG,iV,Gk,Tq,Jx,Jy,jq];have aT:min off cs.length=off:=by omega
  have aN:min (off+1) cs.length=off+1:=by omega
  rw[aT,aN];rcases Oh j off with h1|h1|h1
  grind
  grind
  grind
def afu{x:gd}{b:ay}(h:QE x=some b)(bs:J O):hv bs x=some (.bool b):=by unfold QE at h;split at h<;>first|(cases h;rfl)|cases h
section
variable {P:dL} (d:O) {t:dC} (w:ci)
def agk(hu:P.underlying t=some (.pointer e))(p:aA a8):(su (d+1) t (.pointer p) (.pointer none)).run P w=.ok p.isNone w:=by simp only[su,eN,underlying,program,rK,lm,hu];cases p<;>simp
def arA(hu:P.underlying t=some (.slice e))(a:aA a8)(n c m k:O):(su (d+1) t (.slice a n c) (.slice none m k)).run P w=.ok a.isNone w:=by simp only[su,eN,underlying,program,rK,lm,hu];cases a<;>simp
def arz{k:dC}(hu:P.underlying t=some (.map k e))(a:aA O):(su (d+1) t (.map a) (.map none)).run P w=.ok a.isNone w:=by simp only[su,eN,underlying,program,rK,lm,hu];cases a<;>simp
def ary(hu:P.underlying t=some .bool)(a b:ay):(su (d+1) t (.bool a) (.bool b)).run P w=.ok (a==b) w:=by simp only[su,eN,underlying,program,rK,lm,hu];rfl
end
def Lp{x y:ap}{b:ay}(h:(su (9999+1) t x y).run P w=.ok b w):(Op.equal t x y).run P w=.ok b w:=h
set_option maxHeartbeats 1000000 in
theorem arC(fP:Good C){x y:gd}{W:Ch}(h:Lo C t x y=some W)(bs:J O){Pz PA:ap}(M:hv bs x=some Pz)(aj:hv bs y=some PA)(abR abS:iv)(w:ci):
  (do eqGuard .eql t abR abS Pz PA;binOp .eql t Pz PA:Sem ap).run C.P w=.ok (.bool (@decide W.p W.d)) w/\
  (do eqGuard .neq t abR abS Pz PA;binOp .neq t Pz PA:Sem ap).run C.P w=.ok (.bool (!@decide W.p W.d)) w:=by
 unfold Lo at h
 split at h
 rename_i p
 cases M;cases aj
 split at h
 rename_i e hu
 cases h
 have U:=agk 9999 w hu p
 have av:@decide (p=none) (HK p)=p.isNone:=by cases p<;>simp
 simp only[eqGuard_at_pointer,pure_bind,binOp,eN]
 rw[Lp U]
 simp[av]
 cases h
 rename_i q
 cases M;cases aj
 split at h
 rename_i e hu
 cases h
 have U:=agk 9999 w hu (some q)
 simp only[eqGuard_at_pointer,pure_bind,binOp,eN]
 rw[Lp U]
 simp
 cases h
 rename_i a n c m k
 cases M;cases aj
 split at h
 rename_i e hu
 cases h
 have U:=arA 9999 w hu a n c m k
 have av:@decide (a=none) (HK a)=a.isNone:=by cases a<;>simp
 simp only[eqGuard_at_slice,pure_bind,binOp,eN]
 rw[Lp U]
 simp[av]
 cases h
 rename_i a
 cases M;cases aj
 split at h
 rename_i k e hu
 cases h
 have U:=arz 9999 w hu a
 have av:@decide (a=none) (HK a)=a.isNone:=by cases a<;>simp
 simp only[eqGuard_at_map,pure_bind,binOp,eN]
 rw[Lp U]
 simp[av]
 cases h
 rename_i xs eK
 cases M;cases aj
 split at h
 rename_i n hm
 split at h
 rename_i hX iR
 obtain⟨h1,h2,h3⟩:=fP.eq t n hm xs eK W (sq hX) (sq iR) h abR abS w
 simp only[eN,h1,h2,lm,binOp,h3]
 exact⟨rfl,rfl⟩
 cases h
 cases h
 rename_i x y
 cases M;cases aj
 cases h
 simp only[eqGuard_at_string,pure_bind,binOp,Op.stringOp]
 constructor
 show x4 _ _=_
 grind
 show x4 _ _=_
 grind
 split at h
 rename_i a b az aa hu
 cases h
 have h1:=afu az bs
 have h2:=afu aa bs
 rw[M] at h1;rw[aj] at h2
 cases h1;cases h2
 have U:=ary 9999 w hu a b
 simp only[eqGuard_at_bool,pure_bind,binOp,eN]
 rw[Lp U]
 constructor
 show x4 _ _=_
 congr 2
 show x4 _ _=_
 congr 2
 cases h
end
end
section
variable{t wP:dC}{P:dL}{v:ap}{p:a8}{i n off d f:O}{m:o}{cs:J ap}
variable [sN]
section
variable {C:lq} {bC:O->ay} {s:aM} {z:eH} {u:H} {K:aM->H->Prop} {bs:J O} {a:ek} {w:ci} {Q:kX->ek->ci->Prop}
theorem zR{m:Sem ap}{w w':ci}(h:m.run P w=.ok v w'):(do pure (Next.value (<-m)):Sem Next).run P w=.ok (.value v) w':=by
 simp_all
theorem alS{m:Sem Unit}{w w':ci}(h:m.run P w=.ok () w'):(do m;pure Next.skip:Sem Next).run P w=.ok .skip w':=by
 simp_all
def T7(ab:FitsE s bs a){x:iv}(e:z.op=.move x∨z.op=.assign x)(h:match s.sv x with|some y=>K (s.put z.dst y) u|none=>eg):
  rc C s z u K bs a:=by
 split at h
 rename_i y aj
 refine⟨y,a.eval x,h,(ab.sv aj),λw=>?_⟩
 rcases e with e|e<;>(unfold fu;rw[e];rfl)
 exact h.elim
def wJ(ab:FitsE s bs a){c x y:iv}(e:z.op=.pick c x y){b:ay}(I:a.eval c=.bool b){W:gd}(aE:s.sv (if b then x else y)=some W)(h:K (s.put z.dst W) u):
  rc C s z u K bs a:=by
 refine⟨W,a.eval (if b then x else y),h,(ab.sv aE),λw=>?_⟩
 unfold fu
 rw[e]
 simp only[I]
 cases b<;>rfl
def sY(ab:FitsE s bs a){x:iv}(h:s.sv x=some (.v v)):a.eval x=v:=by have:=ab.sv h;simp only[hv,ll] at this;exact this.symm
def Et(ab:FitsE s bs a){x:iv}(h:s.sv x=some (.ptr p)):a.eval x=.pointer (some p):=by have:=ab.sv h;simp only[hv,ll] at this;exact this.symm
theorem Es(ab:FitsE s bs a){x:iv}(h:s.sv x=some (.loc i off)):∃b,bs[i]?=some b/\a.eval x=.pointer (some ⟨b,off,none⟩):=by
 have:=ab.sv h;simp only[hv] at this
 grind
def alV(ab:FitsE s bs a){op:BinOp}{x y:iv}(e:z.op=.binOp op t x y wP){k dY:x1}{n:o}
  (M:s.sv x=some (.v (.int k m))) (aj:s.sv y=some (.v (.int dY n)))
  (h:match QJ op m n with
   |some W=>match zh dY k with
    |true=>K (s.put z.dst W) u|false=>eg
   |none=>match aaZ op ||zh dY k with
    |true=>Qx C.wrap op k m n λW=>K (s.put z.dst (.v (.int k W))) u|false=>eg):rc C s z u K bs a:=by
 have ex:=sY ab M
 have r2:=sY ab aj
 have om:∀v w,(binOp op t (.int k m) (.int dY n)).run C.P w=.ok v w->(fu a.eval z).run C.P w=.ok (.value v) w:=by intro v w aB;unfold fu;rw[e];simp only[ex,r2,eqGuard_at_int,pure_bind];exact zR aB
 split at h
 rename_i W aE
 split at h
 rename_i hk
 have:=NF hk
 subst this
 obtain⟨v,h1,h2⟩:=aqR aE C.P t dY bs
 exact⟨W,v,h,h1,λw=>om v w (h2 w)⟩
 exact h.elim
 split at h
 rename_i hk
 obtain⟨W,h1,h2⟩:=apE h C.P t dY (by simp only[Bool.or_eq_true] at hk;rcases hk with hk|hk;cases op<;>simp[aaZ] at hk<;>simp;exact .inl (NF hk))
 exact⟨.v (.int k W),_,h1,rfl,λw=>om _ w (h2 w)⟩
 exact h.elim
def alX(ab:FitsE s bs a){x y:iv}(e:z.op=.binOp .add t x y wP){p q:ByteArray}(M:s.sv x=some (.v (.string p)))(aj:s.sv y=some (.v (.string q)))
  (h:p.size+q.size<=9223372036854775807/\K (s.put z.dst (.v (.string (cat p q)))) u):rc C s z u K bs a:=by
 refine⟨.v _,.string (cat p q),h.2,rfl,λw=>?_⟩
 unfold fu
 rw[e]
 simp only[sY ab M,sY ab aj,eN]
 have U:(binOp .add t (.string p) (.string q)).run C.P w=.ok (.string (cat p q)) w:=run_string_add_sum (a:=p) (b:=q) (h:=h.1) ..
 have Z:(eqGuard .add t x y (.string p) (.string q)).run C.P w=.ok () w:=rfl
 rw[Z]
 simp only[lm,U]
 rfl
def azj{op:BinOp}{y:iv}(ag:S8 P op t y=ai):y=.const .nilIface/\(∃ms,P.underlying t=some (.interface ms))/\(op=.eql∨op=.neq):=by unfold S8 at ag;split at ag;split at ag;rename_i ms hm;split at ag;exact⟨rfl,⟨ms,hm⟩,.inl rfl⟩;exact⟨rfl,⟨ms,hm⟩,.inr rfl⟩;cases ag;cases ag;cases ag
def al7(ab:FitsE s bs a){op:BinOp}{x y:iv}(e:z.op=.binOp op t x y wP)(ag:S8 C.P op t y=ai)(aB:s.val x=some v)
  (h:ae4 op v λb=>K (s.put z.dst (.v (.bool b))) u):rc C s z u K bs a:=by
 obtain⟨rfl,⟨ms,hm⟩,ZF⟩:=azj ag
 have M:a.eval x=v:=ab.val aB
 have run:∀b,Wz v b->∀w,(do eqGuard .eql t x (.const .nilIface) v .nilIface;binOp .eql t v .nilIface:Sem ap).run C.P w=.ok (.bool b) w/\
   (do eqGuard .neq t x (.const .nilIface) v .nilIface;binOp .neq t v .nilIface:Sem ap).run C.P w=.ok (.bool (!b)) w:=by
  rintro b (⟨rfl,rfl⟩|⟨⟨t1,e5,rfl⟩,rfl⟩) w
  have h:∀d:O,(su (d+1) t .nilIface .nilIface).run C.P w=.ok ai w:=λd=>by simp[su,ia hm]
  have bZ:(Op.equal t .nilIface .nilIface).run C.P w=.ok ai w:=h 9999
  constructor<;>simp[eqGuard,binOp,eN,bZ]
  have h:∀d:O,(su (d+1) t (.iface t1 e5) .nilIface).run C.P w=.ok ao w:=λd=>by simp[su,ia hm]
  have bZ:(Op.equal t (.iface t1 e5) .nilIface).run C.P w=.ok ao w:=h 9999
  constructor<;>simp[eqGuard,binOp,eN,bZ]
 rcases ZF with rfl|rfl
 obtain⟨b,aa,au⟩:=h
 refine⟨.v _,.bool b,au,rfl,λw=>?_⟩
 unfold fu
 rw[e]
 have h1:=(run b aa w).1
 have aj:a.eval (.const .nilIface)=.nilIface:=rfl
 simp only[M,aj]
 rw[eN,h1]
 rfl
 obtain⟨b,aa,au⟩:=h
 refine⟨.v _,.bool b,au,rfl,λw=>?_⟩
 unfold fu
 rw[e]
 have h1:=(run _ aa w).2
 rw[Bool.not_not] at h1
 have aj:a.eval (.const .nilIface)=.nilIface:=rfl
 simp only[M,aj]
 rw[eN,h1]
 rfl
def al5(ab:FitsE s bs a){x:iv}(e:z.op=.unOp .neg t x)(M:s.sv x=some (.v (.int .u32 m)))(h:K (s.put z.dst (.v (.int .u32 (bS .u32 (0-m))))) u):rc C s z u K bs a:=
 ⟨.v _,_,h,rfl,λw=>by unfold fu;rw[e];simp only[sY ab M];rfl⟩
def al2(ab:FitsE s bs a){x:iv}(e:z.op=.unOp .xor t x)(M:s.sv x=some (.v (.int .u32 m)))(h:K (s.put z.dst (.v (.int .u32 (bits .xor .u32 4294967295 m)))) u):rc C s z u K bs a:=
 ⟨.v _,_,h,rfl,λw=>by unfold fu;rw[e];simp only[sY ab M];rfl⟩
def T5(fP:Good C)(ab:FitsE s bs a){op:BinOp}{x y:iv}(e:z.op=.binOp op t x y wP){p q:gd}(M:s.sv x=some p)(aj:s.sv y=some q)
  {W:Ch} (aE:Lo C t p q=some W) (h:(op=.eql/\K (s.put z.dst (.dec W.p W.d)) u)∨(op=.neq/\K (s.put z.dst (.va W.p W.d)) u)):
  rc C s z u K bs a:=by
 have AG:=arC fP aE bs (ab.sv M) (ab.sv aj) x y
 rcases h with⟨rfl,h⟩|⟨rfl,h⟩
 refine⟨.dec W.p W.d,.bool (@decide W.p W.d),h,rfl,λw=>?_⟩
 unfold fu;rw[e];exact zR (AG w).1
 refine⟨.va W.p W.d,.bool (!@decide W.p W.d),h,rfl,λw=>?_⟩
 unfold fu;rw[e];exact zR (AG w).2
def zS(ab:FitsE s bs a){x:iv}(e:z.op=.unOp .not t x){b:ay}(M:a.eval x=.bool b){W:gd}(aE:hv bs W=some (.bool (!b)))(h:K (s.put z.dst W) u):
  rc C s z u K bs a:=by
 refine⟨W,.bool (!b),h,aE,λw=>?_⟩
 unfold fu;rw[e]
 simp only[M]
 rfl
def al3(ab:FitsE s bs a){x:iv}(e:z.op=.load t x)(M:s.sv x=some (.loc i off)){aC:bk}(fM:q5 C.P t=some aC)
  (aq:s.loc[i]?=some cs) (aa:off+aC.im.length<=cs.length) (h:K (s.put z.dst (.v (aC.mk ((cs.drop off).take aC.im.length)))) u):
  Qo C s z u K bs a:=by
 obtain⟨Ap,ta,fr⟩:=Es ab M
 refine⟨.v _,aC.mk ((cs.drop off).take aC.im.length),h,rfl,λw hw=>?_⟩
 obtain⟨b,T,h1,h2⟩:=hw.loc i cs aq
 rw[h1] at ta;cases ta
 unfold fu;rw[e]
 refine zR ?_
 simp only[fr,Instr.loadAt,Jz,pure_bind]
 refine Jc fM _ (by simp;omega) ?_ ?_
 have:=aku (P:=C.P) (off:=off) h2 aC.im.length 0 #[] (by simpa using aa)
 simpa using this
 intro c I
 subst I
 simp only[bk.im,jq,sw] at aa ⊢
 have bP:off<cs.length:=by omega
 refine⟨cs[off],?_,?_⟩
 rw[qV bP];rfl
 simp only[Jt,h2];simp[bP]
theorem al4(ab:FitsE s bs a){x:iv}(e:z.op=.load t x)(M:s.sv x=some (.ptr p)){aC:bk}(fM:q5 C.P t=some aC)
  (h:SY u p 0 aC.im λvs=>K (s.put z.dst (.v (aC.mk vs))) u):Qo C s z u K bs a:=by
 obtain⟨vs,hk,au,U⟩:=ayg (P:=C.P) aC.im 0 _ h
 refine⟨.v _,aC.mk vs,au,rfl,λw hw=>?_⟩
 have uT:=U w #[] hw.sub
 unfold fu;rw[e]
 refine zR ?_
 simp only[Et ab M,Instr.loadAt,Jz,pure_bind]
 refine Jc fM p (ax9 hk) (by simpa using uT) ?_
 intro c I
 subst I
 cases hk with
 |cons x dk=>
  cases dk;obtain⟨y,aj,_⟩:=h;have I:=hw.sub.cell aj;refine⟨_,rfl,?_⟩;have cU:=uT;simp only[bk.im,jq,sw,loadCellsFrom,eN,load,rK] at cU;have fi:p.add 0=p:=by simp[er]
  rw[fi] at cU;have dI:w.cell? p=some (aI.enc c y):=I
  simp_all
theorem azv{vs:J ap}(h:N2 vs=ai):∀v∈vs,v.oneCell'=ai:=by
 induction vs with
 |nil=>simp|cons v vs aW=>
  simp only[N2,oV] at h
  grind
theorem Kept.aBe(hw:bC i=ai)(l:J ap):Kept bC s {s with loc:=tV s.loc i l}:=by
 refine⟨rfl,by simp[T9],?_⟩;intro j cs h aP;simp only[acZ]
 grind
theorem aAY(ab:Fits s bs u a w){x y:iv}(e:z.op=.store t x y)(M:s.sv x=some (.loc i off))(aj:s.val y=some v)
  {aC:bk} (fM:q5 C.P t=some aC) {cs:J ap} (aq:s.loc[i]?=some cs) (hw:bC i=ai) (dm:v.cells.size=aC.im.length) (h1:N2 v.cells.toList=ai)
  (aa:off+aC.im.length<=cs.length) (h:K ({s with loc:=tV s.loc i (over cs off v.cells.toList)}.drop z.dst) u):z.wp C.P a w (mo bC K s bs u a w z.dst) Q:=by
 obtain⟨b,T,j6,iN⟩:=ab.loc i cs aq
 obtain⟨Ap,ahF,fr⟩:=Es ab.toFitsE M
 rw[j6] at ahF;cases ahF
 obtain⟨aDO,d,aai,_,aal,_⟩:=ac0 fM
 have Bf:v.cells.toList.length=aC.im.length:=by omega
 obtain⟨w',U,lj⟩:=anz (P:=C.P) aai (off:=off) (v:=v) (by rw[aal];exact dm) iN (by rw[Bf];simpa using aa) (azv h1)
 rw[aot _ _ _ (by rw[Bf];exact aa)] at lj
 have hm:b∈bs:=dz j6
 have cC:=ab.cy b hm
 have bP:i<bs.length:=by grind
 have gR:Sub u w':=by
  intro x p ex;have an:x≠b:=λe=>by grind
  rw[lj.rest x an];exact ab.sub x p ex
 have df:Fits {s with loc:=tV s.loc i (over cs off v.cells.toList)} bs u a w':=by
  refine⟨⟨ab.defers,ab.n,ab.env⟩,by simp[T9,ab.len],?_,ab.nodup,λx M=>⟨(ab.cy x M).1,by rw[lj.size];exact(ab.cy x M).2⟩,gR⟩;intro j yD xa;simp only[acZ] at xa;split at xa;rename_i aP;obtain⟨rfl,_⟩:=aP;cases xa;exact⟨b,T,j6,lj.at_⟩;rename_i aP;obtain⟨fy,Ef,h3,br⟩:=ab.loc j yD xa;refine⟨fy,Ef,h3,?_⟩;rw[lj.rest fy ?_];exact br;rintro rfl;have kC:j<bs.length:=by grind
  have jd:i=j:=by exact(List.getElem?_inj bP ab.nodup (j:=j)).1 (by rw[j6,h3])
  grind
 have c6:Step u bs w u bs w':=⟨gR,lj.os,lj.tape,lj.output,lj.drawn,by rw[lj.size];exact cw _,λx M pj ai5=>lj.rest x (λe=>by subst e;exact ai5 hm),λ_ _ e=>e,[],by simp,by simp⟩
 unfold Ds
 have om:(fu a.eval z).run C.P w=.ok .skip w':=by unfold fu;rw[e];refine alS ?_;simp only[fr,ab.val aj,Instr.storeAt,Jz,pure_bind];exact U
 rw[om]
 exact⟨_,u,bs,h9,h,df.drop z.dst h9,c6,rfl,(Kept.aBe hw _).trans (Kept.drop bC _ z.dst)⟩
theorem aAZ(ab:Fits s bs u a w){x y:iv}(e:z.op=.store t x y)(M:s.sv x=some (.ptr p))(aj:s.val y=some v)
  {aC:bk} (fM:q5 C.P t=some aC) (dm:v.cells.size=aC.im.length) (h:u.aM p v.cells.toList λu'=>K (s.drop z.dst) u'):z.wp C.P a w (mo bC K s bs u a w z.dst) Q:=by
 obtain⟨c,T,I,ry,aq,h1,au⟩:=h
 obtain⟨aDO,d,aai,_,aal,_⟩:=ac0 fM
 obtain⟨b,off,sp⟩:=p
 simp only at ry I aq au
 subst ry
 have cb:=ab.sub _ _ I
 obtain⟨w',U,lj⟩:=anz (P:=C.P) aai (off:=off) (v:=v) (by rw[aal];exact dm) cb aq h1
 have gR:Sub (u.ins b (.cells (wr c off v.cells.toList) T (0,0))) w':=by intro x p ex;unfold H.ins at ex;split at ex;rename_i aaM;subst aaM;cases ex;exact lj.at_;rename_i aaM;rw[lj.rest x aaM];exact ab.sub x p ex
 have an:∀x,u x=none->x≠b:=λk3 gn hd=>by grind
 have df:Fits s bs (u.ins b (.cells (wr c off v.cells.toList) T (0,0))) a w':=by refine⟨⟨ab.defers,ab.n,ab.env⟩,ab.len,?_,ab.nodup,?_,gR⟩;intro j yD xa;obtain⟨fy,Ef,h3,br⟩:=ab.loc j yD xa;exact⟨fy,Ef,h3,by rw[lj.rest fy (an fy (ab.cy fy (dz h3)).1)];exact br⟩;intro x M;have:=ab.cy x M;exact⟨by rw[H.bz u _ (an x this.1)];exact this.1,by rw[lj.size];exact this.2⟩
 have c6:Step u bs w (u.ins b (.cells (wr c off v.cells.toList) T (0,0))) bs w':=
  ⟨gR,lj.os,lj.tape,lj.output,lj.drawn,by rw[lj.size];exact cw _,λx M pj ai5=>lj.rest x (an x pj),λx _ pj=>by rw[H.bz u _ (an x pj)];exact pj,[],by simp,by simp⟩
 unfold Ds
 have om:(fu a.eval z).run C.P w=.ok .skip w':=by unfold fu;rw[e];refine alS ?_;simp only[Et ab.toFitsE M,ab.val aj,Instr.storeAt,Jz,pure_bind];exact U
 rw[om]
 exact⟨_,_,bs,h9,au,df.drop z.dst h9,c6,rfl,Kept.drop bC _ z.dst⟩
def aIc(h:zeroOf P t=some cs)(w:ci):∃W,(zeroValue t).run P w=.ok W w/\W.cells.toList=cs:=by
 unfold zeroOf at h;split at h;rename_i i hi;cases aE:i.zero with
 |none=>rw[aE] at h;cases h
 |some W=>rw[aE] at h;simp only[Dt,ll] at h;exact⟨W,by simp[zeroValue,typeInfo,program,rK,hi,aE],h⟩
 cases h
def akM(t:dC)(v:ap)(w:ci):(newVar t v).run P w=.ok ⟨w.heap.size,0,none⟩ (w.alloc (.cells v.cells t (0,0))):=by simp only[newVar,newRow,newObj,eN,rK,lm];rfl
theorem al6(ab:Fits s bs u a w)(av:z.dst=some d)(U:(fu a.eval z).run C.P w=.ok (.value (.pointer (some ⟨w.heap.size,0,none⟩))) (w.alloc (.cells v.cells t (0,0))))
  (h:match gT C.exp d with
   |true=>∀b,u b=none->K (s.put (some d) (.ptr ⟨b,0,none⟩)) (u.ins b (.cells v.cells.toList.toArray t (0,0)))|false=>K ({s with loc:=s.loc++ [v.cells.toList]}.put (some d) (.loc s.loc.length 0)) u):z.wp C.P a w (mo bC K s bs u a w z.dst) Q:=by
 unfold Ds
 rw[U]
 have aT:v.cells.toList.toArray=v.cells:=by simp
 split at h
 have bZ:=h w.heap.size (ab.sub.none (cw _))
 rw[aT,<-av] at bZ
 obtain⟨h1,h2⟩:=ab.Bp (.cells v.cells t (0,0))
 exact⟨_,_,bs,_,bZ,h1.put z.dst (x:=.ptr _) rfl,h2,rfl,Kept.put bC s _ _⟩
 obtain⟨h1,h2⟩:=ab.azg v.cells.toList t
 rw[aT] at h1 h2
 rw[<-av] at h
 refine⟨_,_,_,_,h,h1.put z.dst (x:=.loc s.loc.length 0) ?_,h2,rfl,?_⟩
 simp only[hv]
 rw[<-ab.len]
 simp
 refine Kept.trans (b:={s with loc:=s.loc++ [v.cells.toList]}) ⟨rfl,by simp,λi cs e _=>?_⟩ (Kept.put bC _ _ _)
 grind
def aAW(ab:Fits s bs u a w)(e:z.op=.alloc t)(av:z.dst=some d)(aE:zeroOf C.P t=some cs)
  (h:match gT C.exp d with
   |true=>∀b,u b=none->K (s.put (some d) (.ptr ⟨b,0,none⟩)) (u.ins b (.cells cs.toArray t (0,0)))|false=>K ({s with loc:=s.loc++ [cs]}.put (some d) (.loc s.loc.length 0)) u):z.wp C.P a w (mo bC K s bs u a w z.dst) Q:=by
 obtain⟨W,axC,rfl⟩:=aIc aE w
 refine al6 ab av (t:=t) (v:=W) ?_ h
 unfold fu;rw[e]
 refine zR ?_
 simp only[Instr.alloc,eN,axC,lm,akM]
 rfl
def aAX(ab:Fits s bs u a w){x:iv}(e:z.op=.box t x)(av:z.dst=some d)(M:s.val x=some v)
  (h:match gT C.exp d with
   |true=>∀b,u b=none->K (s.put (some d) (.ptr ⟨b,0,none⟩)) (u.ins b (.cells v.cells.toList.toArray t (0,0)))|false=>K ({s with loc:=s.loc++ [v.cells.toList]}.put (some d) (.loc s.loc.length 0)) u):z.wp C.P a w (mo bC K s bs u a w z.dst) Q:=by
 refine al6 ab av (t:=t) (v:=v) ?_ h
 unfold fu;rw[e]
 refine zR ?_
 simp only[Instr.box,ab.val M,eN,akM,lm]
 rfl
def Pt{d:TypeDesc}(h:P.underlying t=some d)(w:ci):(underlying t).run P w=.ok d w:=by simp[underlying,program,rK,h]
def alY{x:iv}(e:z.op=.fieldAddr t x f)(ag:N1 C.P t f=some n)(M:a.eval x=.pointer (some p))(w:ci):
  (fu a.eval z).run C.P w=.ok (.value (.pointer (some (p.add n)))) w:=by
 unfold N1 at ag
 split at ag
 rename_i aQ hu
 split at ag
 rename_i g Z
 split at ag
 rename_i m hm
 cases ag
 simp only[yh,Tr] at hm
 obtain⟨i,hi,dm⟩:=hm
 unfold fu;rw[e]
 refine zR ?_
 simp only[Instr.fieldAt,eN,Pt hu,lm,Z,M,Jz,fieldPlace,O3 hi,dm]
 simp[O3 hi,dm]
 cases ag
 cases ag
 cases ag
theorem alZ(ab:FitsE s bs a){x:iv}(e:z.op=.fieldAddr t x f)(ag:N1 C.P t f=some n)(M:s.sv x=some (.loc i off))
  (h:K (s.put z.dst (.loc i (off+n))) u):rc C s z u K bs a:=by
 obtain⟨b,aa,fr⟩:=Es ab M
 refine⟨.loc i (off+n),_,h,?_,alY (C:=C) e ag fr⟩
 have:(⟨b,off,none⟩:a8).add n=⟨b,off+n,none⟩:=by unfold er;split<;>simp_all
 simp[hv,aa,this]
def al0(ab:FitsE s bs a){x:iv}(e:z.op=.fieldAddr t x f)(ag:N1 C.P t f=some n)(M:s.sv x=some (.ptr p))
  (h:K (s.put z.dst (.ptr (p.at' n))) u):rc C s z u K bs a:=by
 rw[afh] at h
 exact⟨.ptr (p.add n),_,h,rfl,alY (C:=C) e ag (Et ab M)⟩
def amn(h:yh P t=some n)(w:ci):(sizeOf t).run P w=.ok n w:=by simp only[yh,Tr] at h;obtain⟨i,hi,dm⟩:=h;rw[O3 hi,dm]
def al1(ab:FitsE s bs a){hd:dC}{x a1:iv}(e:z.op=.indexAddr t x a1)(hu:C.P.underlying t=some (.slice hd)){aG:aA a8}{c:O}(M:s.sv x=some (.v (.slice aG n c)))
  {k:x1} {i:o} (hi:s.sv a1=some (.v (.int k i))) {hC:O} (dm:yh C.P hd=some hC)
  (h:∃p,aG=some p/\(0<=i/\i<n)/\K (s.put z.dst (.ptr (p.add (i.toNat*hC)))) u):rc C s z u K bs a:=by
 obtain⟨p,rfl,aa,au⟩:=h
 refine⟨.ptr _,.pointer (some (p.add (i.toNat*hC))),au,rfl,λw=>?_⟩
 unfold fu;rw[e]
 refine zR ?_
 simp only[Instr.indexAt,sY ab M,sY ab hi,asIntOf,pure_bind,eN,Pt hu,lm]
 simp[aa,amn dm,Pt hu]
def T6(ab:FitsE s bs a){hd:dC}{len:O}{x a1:iv}(e:z.op=.indexAddr t x a1)(hu:C.P.underlying t=some (.array len hd))(M:a.eval x=.pointer (some p))
  {k:x1} {i:o} (hi:s.sv a1=some (.v (.int k i))) {hC:O} (dm:yh C.P hd=some hC) (aa:0<=i/\i<len) (w:ci):
  (fu a.eval z).run C.P w=.ok (.value (.pointer (some (p.add (i.toNat*hC))))) w:=by
 unfold fu;rw[e]
 refine zR ?_
 simp only[Instr.indexAt,M,sY ab hi,asIntOf,pure_bind,eN,Pt hu,lm,Jz]
 simp[aa,amn dm,Pt hu]
end
end
section
variable [sN]
section
variable {C:lq} {bC:O->ay} {s:aM} {z:eH} {u:H} {K:aM->H->Prop} {bs:J O} {a:ek} {w:ci} {Q:kX->ek->ci->Prop}
theorem alW(fP:Good C)(ab:Fits s bs u a w){c:Call}(e:z.op=.call c)
  (h:match Pw s c.args,O2 C.P z.type with
  |some vs,some ss=>match c.callee with
   | .value (.func f)=>match hy C.P f with
    |true=>hD C.P f vs.toArray ss u (sZ s z.dst ss K)|false=>match akO C.P f with
     |true=>c7 C.P (Ar f vs.toArray) ss u (sZ s z.dst ss K)|false=>eg
   | .value x=>match s.sv x with
    |some (.v fv)=>h6 C.P fv vs.toArray ss u (sZ s z.dst ss K)|_=>eg
   | .invoke x name=>match s.sv x with
    |some (.v r)=>nv C.P r name vs.toArray ss u (sZ s z.dst ss K)|_=>eg
   | .builtin _=>other C s z u K
  |_,_=>eg):z.wp C.P a w (mo bC K s bs u a w z.dst) Q:=by
 split at h
 rename_i vs ss aB wa
 have Ik:=an8 ab.toFitsE aB
 split at h
 rename_i f I
 have M:∀bJ,(fu a.eval z).run C.P bJ=(qT f vs.toArray).run C.P bJ:=by intro bJ;unfold fu;rw[e];simp only[resolve,I,Act.eval,Tm,pure_bind,invoke,Ik];simp
 split at h
 rename_i aa
 refine abM ab h ?_
 rw[M,QI fP (ahB aa)]
 split at h
 refine abN ab h λv w' U=>.inl ?_
 rw[M]
 simp only[Ar,eN] at U
 cases aE:(qT f vs.toArray).run C.P w with
 |halt W dF=>rw[aE] at U;simp at U
 |ok W dF=>
  rw[aE] at U;simp only[lm] at U;cases W<;>simp only[] at U<;>first
   |(have xF:x4 _ dF=x4 v w':=U;cases xF;rfl)
   |(simp[stuck] at U)
 exact h.elim
 rename_i x _ I
 split at h
 rename_i fv M
 obtain⟨f,pre,cap,rfl,aa,hR⟩:=h
 refine abM ab hR ?_
 unfold fu;rw[e]
 simp only[resolve,I,sY ab.toFitsE M,Tm,pure_bind,invoke,Ik]
 have:=QI fP aa (pre++vs.toArray++cap) w
 simpa using this
 exact h.elim
 rename_i x name I
 split at h
 rename_i r M
 obtain⟨t,v,f,sC,rfl,hm,aa,hR⟩:=h
 refine abM ab hR ?_
 unfold fu;rw[e]
 simp only[resolve,I,sY ab.toFitsE M,pure_bind,invoke,Ik]
 have h0:(#[mj t v]++vs.toArray)[0]?=some (.iface t v):=by simp
 have h1:(#[mj t v]++vs.toArray).extract 1 (#[mj t v]++vs.toArray).size=vs.toArray:=by simp_all
 simp only[h0,h1,callMethod,eN,program]
 show(jH ((method (C.P.types.size+tM) t v name).run C.P w) λp w'=>(qT p.1 (#[p.2]++vs.toArray)).run C.P w')=_
 rw[hm w ab.sub]
 exact QI fP aa _ w
 exact h.elim
 exact akU (λcs b=>by grind) ab h
 exact h.elim
set_option maxHeartbeats 1000000 in
theorem Uy(fP:Good C)(ab:Fits s bs u a w)(h:wN C bC s z u K):z.wp C.P a w (mo bC K s bs u a w z.dst) Q:=by
 have si:(∀cs b,z.op≠.select cs b)->other C s z u K->z.wp C.P a w (mo bC K s bs u a w z.dst) Q:=λae=>akU ae ab;unfold wN at h;split at h;rename_i x e;exact nk ab (T7 ab.toFitsE (.inl e) h);rename_i x e;exact nk ab (T7 ab.toFitsE (.inr e) h);rename_i c x y e;split at h;rename_i I M;exact nk ab (wJ ab.toFitsE e (b:=ai) (eh (ab.sv I)).symm M h);rename_i I aj;exact nk ab (wJ ab.toFitsE e (b:=ao) (eh (ab.sv I)).symm aj h);rename_i p d kM fA I M aj;have fr:=(eh (ab.sv I)).symm;by_cases ad:p;exact nk ab (wJ ab.toFitsE e (b:=ai) (by rw[fr];simp[ad]) M (h.1 ad));exact nk ab (wJ ab.toFitsE e (b:=ao) (by rw[fr];simp[ad]) aj (h.2 ad));rename_i p d kM fA I M aj;have fr:=(eh (ab.sv I)).symm;by_cases ad:p;exact nk ab (wJ ab.toFitsE e (b:=ao) (by rw[fr];simp[ad]) aj (h.2 ad));exact nk ab (wJ ab.toFitsE e (b:=ai) (by rw[fr];simp[ad]) M (h.1 ad));exact h.elim;rename_i op t x y wP e;split at h;rename_i ag;split at h;rename_i v aB;exact nk ab (al7 ab.toFitsE e ag aB h);exact h.elim;split at h;rename_i k m dY n M aj;exact nk ab (alV ab.toFitsE e M aj h);rename_i p q _ M aj;split at h;split at h;rename_i W aE;exact nk ab (T5 fP ab.toFitsE e M aj aE (.inl ⟨rfl,h⟩));exact h.elim;split at h;rename_i W aE;exact nk ab (T5 fP ab.toFitsE e M aj aE (.inr ⟨rfl,h⟩));exact h.elim;split at h;exact nk ab (alX ab.toFitsE e M aj h);exact si (λcs b=>by rw[e];exact Ts) h;exact si (λcs b=>by rw[e];exact Ts) h;exact h.elim;rename_i t x e;split at h;rename_i M;exact nk ab (zS ab.toFitsE e (b:=ai) (eh (ab.sv M)).symm rfl h);rename_i M;exact nk ab (zS ab.toFitsE e (b:=ao) (eh (ab.sv M)).symm rfl h);rename_i p d M;exact nk ab (zS ab.toFitsE e (eh (ab.sv M)).symm rfl h);rename_i p d M;exact nk ab (zS ab.toFitsE e (eh (ab.sv M)).symm (by simp[hv]) h);rename_i b M;exact nk ab (zS ab.toFitsE e (eh (ab.sv M)).symm (by cases b<;>simp[hv]) h);exact h.elim;rename_i t x e;split at h;rename_i m M;exact nk ab (al5 ab.toFitsE e M h);exact si (λcs b=>by rw[e];exact Ts) h;rename_i t x e;split at h;rename_i m M;exact nk ab (al2 ab.toFitsE e M h);exact si (λcs b=>by rw[e];exact Ts) h;rename_i t x e;split at h;rename_i i off aC M fM;split at h;rename_i cs aq;split at h;rename_i aa;exact akS ab (al3 ab.toFitsE e M fM aq (Gl aa) h);exact h.elim;exact h.elim;rename_i p aC M fM;exact akS ab (al4 ab.toFitsE e M fM h);exact h.elim;rename_i t x y e;split at h;rename_i i off v aC M aj fM;split at h;rename_i cs aq hw dm h1;split at h;rename_i aa;exact aAY ab e M aj fM aq hw (sq dm) h1 (Gl aa) h;exact h.elim;exact h.elim;rename_i p v aC M aj fM;split at h;rename_i dm;exact aAZ ab e M aj fM (sq dm) h;exact h.elim;exact h.elim;rename_i t e;split at h;rename_i cs d aE av;exact aAW ab e av aE h;exact h.elim;rename_i t x e;split at h;rename_i v d M av;exact aAX ab e av M h;exact h.elim;rename_i x e;split at h;rename_i i off M;obtain⟨b,aa,fr⟩:=Es ab.toFitsE M;refine zA ab (y:=.loc i off) (v:=.pointer (some ⟨b,off,none⟩)) ?_ (by simp[hv,aa]) h;unfold fu;rw[e];simp only[fr];rfl;rename_i p M;refine zA ab (y:=.ptr p) (v:=.pointer (some p)) ?_ rfl h;unfold fu;rw[e];simp only[Et ab.toFitsE M];rfl;rename_i q M;obtain⟨p,rfl,au⟩:=h;refine zA ab (y:=.ptr p) (v:=.pointer (some p)) ?_ rfl au;unfold fu;rw[e];simp only[sY ab.toFitsE M];rfl;exact h.elim;rename_i t x f e;split at h;rename_i i off n M ag;exact nk ab (alZ ab.toFitsE e ag M h);rename_i p n M ag;exact nk ab (al0 ab.toFitsE e ag M h);exact h.elim;rename_i t x a1 e;split at h;rename_i hd hu;split at h;rename_i aG n c k i hC M hi dm;exact nk ab (al1 ab.toFitsE e hu M hi dm h);exact h.elim;rename_i len hd hu;split at h;rename_i j off k m hC M hi dm;split at h;rename_i hm;obtain⟨b,aa,fr⟩:=Es ab.toFitsE M;have bP:m<len:=by simpa using hm
 have U:=T6 (C:=C) ab.toFitsE e hu fr hi dm ⟨by simp,by simpa using bP⟩ w;refine zA ab (y:=.loc j (off+m*(hC+1))) U ?_ h;have:(⟨b,off,none⟩:a8).add (m*(hC+1))=⟨b,off+m*(hC+1),none⟩:=by unfold er;split<;>simp_all
 simp[hv,aa,this];exact h.elim;rename_i p k i hC M hi dm;obtain⟨h2,aa,au⟩:=h;exact zA ab (y:=.ptr _) (T6 (C:=C) ab.toFitsE e hu (Et ab.toFitsE M) hi dm aa w) rfl au;exact h.elim;exact h.elim;rename_i c e;exact alW fP ab e h;rename_i tn;by_cases oR:∃cs b,z.op=.select cs b;obtain⟨cs,b,e⟩:=oR;exfalso;unfold other zB at h;have h0:(akA C.P z.op ||afO C.P s z.op)=ao:=by rw[e];rfl
 have h1:akQ z.op=ao:=by rw[e];rfl
 have h2:GK s z=none:=by unfold GK;rw[e]
 rw[h0,h1,h2] at h;split at h;rename_i h3;split at h3<;>simp_all;split at h<;>simp_all;exact si (λcs b e=>oR ⟨cs,b,e⟩) h
end
end
section
variable [sN]
def EJ(s:aM)(all:cA eH)(z:eH)(f:aM->ay->Prop):Prop:=
 match z.guard with
 |none=>f s ai|some (j,want)=>match all[j]? with
  |some lB=>match lB.dst with
   |some d=>match look s.env d with
    |some .iy=>f s want|some .kh=>f s (!want)|some (.dec p _)=>(p->f (s.put (some d) .iy) want)/\(¬p->f (s.put (some d) .kh) (!want))|some (.va p _)=>(¬p->f (s.put (some d) .iy) want)/\(p->f (s.put (some d) .kh) (!want))|some (.v (.bool b))=>(b=ai->f (s.put (some d) .iy) want)/\(b=ao->f (s.put (some d) .kh) (!want))|some (.v (.tuple _))=>f s ao|_=>eg
   |none=>eg
  |none=>eg
theorem FitsE.tell{s:aM}{bs:J O}{a:ek}(h:FitsE s bs a){d:O}{x:gd}{v:ap}(I:hv bs x=some v)(ht:a.tmps[d]?=some v):FitsE (s.put (some d) x) bs a:=by
 have bP:d<s.n:=by
  rw[<-h.n];rcases tK d a.tmps.size with k|k;exact k
  grind
 have aT:s.put (some d) x={s with env:=(d,x)::del s.env d}:=by
  have aa:x3 d s.n=ai:=by simpa using bP
  simp only[aM.put,aa]
 rw[aT];refine⟨h.defers,h.n,?_⟩;intro p ad;cases ad with
 |head=>exact⟨v,I,ht⟩|tail _ ad=>exact h.env p (afX ad).1
structure Told(s ar:aM)(bs:J O)(a:ek):Prop where
 e:FitsE ar bs a
 loc:ar.loc=s.loc
 n:ar.n=s.n
theorem HX{s:aM}{all:cA eH}{z:eH}{f:aM->ay->Prop}(h:EJ s all z f){bs:J O}{a:ek}(ab:FitsE s bs a):
  ∃ar want,f ar want/\Told s ar bs a/\vh z (yielded all a.tmps)=want:=by
 unfold EJ at h
 split at h
 rename_i e
 exact⟨s,ai,h,⟨ab,rfl,rfl⟩,by simp[vh,e]⟩
 rename_i j want e
 split at h
 rename_i lB aP
 split at h
 rename_i d av
 have key:∀x,look s.env d=some x->∀b:ay,hv bs x=some (.bool b)->a.tmps[d]?=some (.bool b)/\vh z (yielded all a.tmps)=(if b then want else !want):=by
  intro x M b aa;obtain⟨v,h1,h2⟩:=ab.env _ (F2 M);simp only at h1 h2;rw[aa] at h1;cases h1;refine⟨h2,?_⟩;simp only[vh,e,yielded,aP,Oe,av,h2]
  grind
 split at h
 rename_i aq
 exact⟨s,want,h,⟨ab,rfl,rfl⟩,(key _ aq ai rfl).2⟩
 rename_i aq
 exact⟨s,!want,h,⟨ab,rfl,rfl⟩,(key _ aq ao rfl).2⟩
 rename_i p Ld aq
 by_cases ad:p
 have:=key _ aq ai (by simp[hv,ad])
 exact⟨_,want,h.1 ad,⟨ab.tell (x:=.iy) rfl this.1,(np _ _ _).1,(np _ _ _).2⟩,this.2⟩
 have:=key _ aq ao (by simp[hv,ad])
 exact⟨_,!want,h.2 ad,⟨ab.tell (x:=.kh) rfl this.1,(np _ _ _).1,(np _ _ _).2⟩,this.2⟩
 rename_i p Ld aq
 by_cases ad:p
 have:=key _ aq ao (by simp[hv,ad])
 exact⟨_,!want,h.2 ad,⟨ab.tell (x:=.kh) rfl this.1,(np _ _ _).1,(np _ _ _).2⟩,this.2⟩
 have:=key _ aq ai (by simp[hv,ad])
 exact⟨_,want,h.1 ad,⟨ab.tell (x:=.iy) rfl this.1,(np _ _ _).1,(np _ _ _).2⟩,this.2⟩
 rename_i b aq
 cases b with
 |true=>have:=key _ aq ai rfl;exact⟨_,want,h.1 rfl,⟨ab.tell (x:=.iy) rfl this.1,(np _ _ _).1,(np _ _ _).2⟩,this.2⟩
 |false=>have:=key _ aq ao rfl;exact⟨_,!want,h.2 rfl,⟨ab.tell (x:=.kh) rfl this.1,(np _ _ _).1,(np _ _ _).2⟩,this.2⟩
 rename_i vs aq
 obtain⟨v,h1,h2⟩:=ab.env _ (F2 aq)
 simp only at h1 h2
 simp only[hv,ll] at h1
 subst h1
 refine⟨s,ao,h,⟨ab,rfl,rfl⟩,?_⟩
 simp only[vh,e,yielded,aP,Oe,av,h2]
 rfl
 exact h.elim
 exact h.elim
 exact h.elim
def xP(C:lq)(s:aM)(z:eH):ay:=
 match z.op with
 | .move _=>ai| .assign _=>ai| .pick _ _ _=>ai| .nilCheck _=>ai| .fieldAddr _ _ _=>ai| .indexAddr _ _ _=>ai| .unOp .not _ _=>ai| .binOp _ _ _ _ _=>ai| .load _ _=>ao| .store _ _ _=>ao| .alloc _=>ao| .box _ _=>ao| .call c=>match c.callee with
  | .builtin _=>(zB C.P s z).isSome|_=>ao
 |_=>(zB C.P s z).isSome
section
variable {C:lq} {bC:O->ay} {s:aM} {z:eH} {u:H} {K:aM->H->Prop} {bs:J O} {a:ek} {w:ci} {Q:kX->ek->ci->Prop}
def N4(ab:FitsE s bs a)(ad:(zB C.P s z).isSome=ai)(h:other C s z u K):rc C s z u K bs a:=by unfold other at h;obtain⟨v,aB⟩:=Jv.1 ad;rw[aB] at h;exact⟨.v v,v,h,rfl,ak5 ab aB⟩
set_option maxHeartbeats 1000000 in
theorem ald(fP:Good C)(ab:FitsE s bs a)(ad:xP C s z=ai)(h:wN C bC s z u K):rc C s z u K bs a:=by
 unfold wN at h;split at h;rename_i x e;exact T7 ab (.inl e) h;rename_i x e;exact T7 ab (.inr e) h;rename_i c x y e;split at h;rename_i I M;exact wJ ab e (b:=ai) (eh (ab.sv I)).symm M h;rename_i I aj;exact wJ ab e (b:=ao) (eh (ab.sv I)).symm aj h;rename_i p d kM fA I M aj;have fr:=(eh (ab.sv I)).symm;by_cases ad:p;exact wJ ab e (b:=ai) (by rw[fr];simp[ad]) M (h.1 ad);exact wJ ab e (b:=ao) (by rw[fr];simp[ad]) aj (h.2 ad);rename_i p d kM fA I M aj;have fr:=(eh (ab.sv I)).symm;by_cases ad:p;exact wJ ab e (b:=ao) (by rw[fr];simp[ad]) aj (h.2 ad);exact wJ ab e (b:=ai) (by rw[fr];simp[ad]) M (h.1 ad);exact h.elim;rename_i op t x y wP e;have dR:∀cb:other C s z u K,rc C s z u K bs a:=by
  intro cb;by_cases MZ:(zB C.P s z).isSome=ai;exact N4 ab MZ cb;exfalso;have ag:zB C.P s z=none:=by
   cases M:zB C.P s z with
   |none=>rfl|some v=>rw[M] at MZ;simp at MZ
  unfold other at cb;rw[ag] at cb;have h2:GK s z=none:=by unfold GK;rw[e]
  rw[h2] at cb;split at cb<;>simp_all
 split at h;rename_i ag;split at h;rename_i v aB;exact al7 ab e ag aB h;exact h.elim;split at h;rename_i k m dY n M aj;exact alV ab e M aj h;rename_i p q _ M aj;split at h;split at h;rename_i W aE;exact T5 fP ab e M aj aE (.inl ⟨rfl,h⟩);exact h.elim;split at h;rename_i W aE;exact T5 fP ab e M aj aE (.inr ⟨rfl,h⟩);exact h.elim;split at h;exact alX ab e M aj h;exact dR h;exact dR h;exact h.elim;rename_i t x e;split at h;rename_i M;exact zS ab e (b:=ai) (eh (ab.sv M)).symm rfl h;rename_i M;exact zS ab e (b:=ao) (eh (ab.sv M)).symm rfl h;rename_i p d M;exact zS ab e (eh (ab.sv M)).symm rfl h;rename_i p d M;exact zS ab e (eh (ab.sv M)).symm (by simp[hv]) h;rename_i b M;exact zS ab e (eh (ab.sv M)).symm (by cases b<;>simp[hv]) h;exact h.elim;rename_i t x e;split at h;rename_i m M;exact al5 ab e M h;exact N4 ab (by unfold xP at ad;rw[e] at ad;exact ad) h;rename_i t x e;split at h;rename_i m M;exact al2 ab e M h;exact N4 ab (by unfold xP at ad;rw[e] at ad;exact ad) h;rename_i t x e;unfold xP at ad;rw[e] at ad;cases ad;rename_i t x y e;unfold xP at ad;rw[e] at ad;cases ad;rename_i t e;unfold xP at ad;rw[e] at ad;cases ad;rename_i t x e;unfold xP at ad;rw[e] at ad;cases ad;rename_i x e;split at h;rename_i i off M;obtain⟨b,aa,fr⟩:=Es ab M;refine⟨.loc i off,.pointer (some ⟨b,off,none⟩),h,by simp[hv,aa],λw=>?_⟩;unfold fu;rw[e];simp only[fr];rfl;rename_i p M;refine⟨.ptr p,.pointer (some p),h,rfl,λw=>?_⟩;unfold fu;rw[e];simp only[Et ab M];rfl;rename_i q M;obtain⟨p,rfl,au⟩:=h;refine⟨.ptr p,.pointer (some p),au,rfl,λw=>?_⟩;unfold fu;rw[e];simp only[sY ab M];rfl;exact h.elim;rename_i t x f e;split at h;rename_i i off n M ag;exact alZ ab e ag M h;rename_i p n M ag;exact al0 ab e ag M h;exact h.elim;rename_i t x a1 e;split at h;rename_i hd hu;split at h;rename_i aG n c k i hC M hi dm;exact al1 ab e hu M hi dm h;exact h.elim;rename_i len hd hu;split at h;rename_i j off k m hC M hi dm;split at h;rename_i hm;obtain⟨b,aa,fr⟩:=Es ab M;have bP:m<len:=by simpa using hm
 have U:=T6 (C:=C) ab e hu fr hi dm ⟨by simp,by simpa using bP⟩;refine⟨.loc j (off+m*(hC+1)),_,h,?_,U⟩;have:(⟨b,off,none⟩:a8).add (m*(hC+1))=⟨b,off+m*(hC+1),none⟩:=by unfold er;split<;>simp_all
 simp[hv,aa,this];exact h.elim;rename_i p k i hC M hi dm;obtain⟨h2,aa,au⟩:=h;exact⟨.ptr _,_,au,rfl,T6 (C:=C) ab e hu (Et ab M) hi dm aa⟩;exact h.elim;exact h.elim;rename_i c e;unfold xP at ad;rw[e] at ad;simp only at ad;split at ad;rename_i b I;rw[I] at h;split at h;exact N4 ab ad h;exact h.elim;cases ad;rename_i h1 h2 h3 br bL XK LB gA kP mx l6 LA agP AG EK;refine N4 ab ?_ h;unfold xP at ad;split at ad<;>first|exact ad|(rename_i e;exact bf e (by first|exact h1 _|exact h2 _|exact h3 _ _ _|exact br _ _ _ _ _|exact bL _ _|exact gA _ _|exact kP _ _ _|exact mx _|exact l6 _ _|exact LA _|exact agP _ _ _|exact AG _ _ _|exact EK _))
end
end
section
variable{i:O}
def waits(ops:cA eH):O->O->O->ay
 |0,_,_=>ao|n+1,j,i=>match ops[j]? with
  |some z=>z.after.toList.any λe=>Bu .any e && (km e.on i ||waits ops n e.on i)|none=>ao
def yr(ops:cA eH)(listed:cA ay):Prop:=
 ∀j z,ops[j]?=some z->listed.getD j ao=ai->∀e∈z.after,Bu .any e=ai->listed.getD e.on ao=ai
def aoo{ops:cA eH}{listed:cA ay}(I:yr ops listed):∀(n j i:O),waits ops n j i=ai->
  (∀z,ops[j]?=some z->∀e∈z.after,Bu .any e=ai->listed.getD e.on ao=ai)->listed.getD i ao=ai:=by
 intro n
 induction n with
 |zero=>intro j i h;simp[waits] at h
 |succ n aW=>intro j i h aP;simp only[waits] at h;split at h;rename_i z ac;obtain⟨e,he,aa⟩:=List.any_eq_true.1 h;simp only[oV,Bool.or_eq_true] at aa;have hm:e∈z.after:=Tl.1 he;have h1:=aP z ac e hm aa.1;rcases aa.2 with h2|h2;have:=sq h2;subst this;exact h1;exact aW e.on i h2 λcn bR hd fW eB=>I e.on cn bR h1 hd fW eB;cases h
def yr.set{ops:cA eH}{listed:cA ay}(I:yr ops listed)(U:i∈nV .any ops listed):yr ops (listed.setIfInBounds i ai):=by intro j z ac aP e he aa;by_cases l9:j=i;subst l9;obtain⟨_,cn,bR,eL⟩:=ww.1 U;rw[ac] at bR;cases bR;exact getD_set_true (eL e he aa);rw[getD_set_ne ao (e3 l9)] at aP;exact getD_set_true (I j z ac aP e he aa)
section
variable {P:dL} {ops:cA eH} {Q:kX->ek->ci->Prop} {nd:O->ay} {S:ci->Prop}
def yp(P:dL)(ops:cA eH)(Q:kX->ek->ci->Prop)(nd:O->ay)(S:ci->Prop):O->cA ay->ek->ci->Prop
 |0,listed,a,w=>nV .any ops listed=[]/\Q .normal a w|gi+1,listed,a,w=>
  (nV .any ops listed=[]->Q .normal a w)/\
  ∀i∈nV .any ops listed,wpOp P ops Q i (λcT w'=>(nd i=ai->S w->S w')/\yp P ops Q nd S gi (listed.setIfInBounds i ai) cT w') a w
def aea:∀(gi:O) (listed:cA ay) (a:ek) (w:ci),yp P ops Q nd S gi listed a w->wpAny P .any ops Q gi listed a w
 |0,_,_,_,h=>h|gi+1,_,_,_,h=>⟨h.1,λi hi=>wpOp_mono (λcT w' bZ=>aea gi _ cT w' bZ.2) (h.2 i hi)⟩
theorem aff{fY:eH}{v:ap}{T:ci->Prop}(hi:ops[i]?=some fY)(oR:∀(j:O) (z:eH) cs b,ops[j]?=some z->z.op≠.select cs b)
  (fj:∀c a w,¬Q (.panic c) a w) (de:O) (aV:(∀w,T w)∨(T=S/\∀j,nd j=ao->j=i∨waits ops de j i=ai)):
  ∀(gi:O) (listed:cA ay) (a:ek) (w:ci),yr ops listed->
   (∀j lB,ops[j]?=some lB->j≠i->listed.getD j ai=ao->(∀e∈lB.after,Bu .any e=ai->e.on≠i)->fY.apart ops lB=ai)->
   i∈nV .any ops listed->YieldsIf P ops T fY v a->T w->
   yp P ops Q nd S gi (listed.setIfInBounds i ai) (a.put fY.dst v) w->yp P ops Q nd S (gi+1) listed a w:=by
 intro gi
 induction gi with
 |zero=>intro listed a w _ _ U aj bb H;refine⟨λh=>(by rw[h] at U;cases U),λj aP=>?_⟩;by_cases l9:j=i;subst l9;exact aj.wpOp hi bb ⟨λ_ h=>h,H⟩;have:=JA aP l9;rw[H.1] at this;cases this
 |succ gi aW=>
  intro listed a w I E2 U aj bb H;refine⟨λh=>(by rw[h] at U;cases U),λj aP=>?_⟩;by_cases l9:j=i;subst l9;exact aj.wpOp hi bb ⟨λ_ h=>h,H⟩
  .have h1:=H.2 j (JA aP l9);obtain⟨Mo,lB,Fq,eL⟩:=ww.1 aP;have au2:=(ww.1 U).1;have auT:listed.getD i ao=ao:=by grind
   have tn:∀e∈lB.after,Bu .any e=ai->e.on≠i:=λe he aa RL=>by
    grind
   have h2:=wpOp_putIf Fq (E2 j lB Fq l9 Mo tn) (λcs b=>oR i fY cs b hi) (λcs b=>oR j lB cs b Fq) (λc a w h=>bf h (fj c _ w)) aj h1;have YX:∀k ok,ops[k]?=some ok->k≠i->(listed.setIfInBounds j ai).getD k ai=ao->
     (∀e∈ok.after,Bu .any e=ai->e.on≠i)->fY.apart ops ok=ai:=λk ok hk y2 xI dR=>by
    refine E2 k ok hk y2 ?_ dR
    by_cases Fb:j=k
    subst Fb;exact Mo
    simp_all
   have b8:(∀w,T w)∨(T=S/\nd j=ai):=by
    rcases aV with aV|⟨aty,aV⟩;exact .inl aV;refine .inr ⟨aty,?_⟩;cases ag:nd j with
    |true=>rfl|false=>
     rcases aV j ag with bZ|bZ;exact bf bZ l9;have:=aoo I de j i bZ (λz ac e he aa=>by grind)
     grind
   refine wpOp_mono (λcT w' h3=>⟨h3.2.1,?_⟩) h2;have Yn:T w':=by rcases b8 with bZ|⟨rfl,bZ⟩;exact bZ w';exact h3.2.1 bZ bb
   refine aW (listed.setIfInBounds j ai) cT w' (I.set aP) YX (JA U (e3 l9)) h3.1 Yn ?_;rw[Array.setIfInBounds_comm _ _ l9];exact h3.2.2
end
section
variable {P:dL} {ops:cA eH} {Q:kX->ek->ci->Prop} {R:O->ci->ci->Prop}
def wU(P:dL)(ops:cA eH)(Q:kX->ek->ci->Prop)(R:O->ci->ci->Prop):O->cA ay->ek->ci->Prop
 |0,listed,a,w=>nV .any ops listed=[]/\Q .normal a w|gi+1,listed,a,w=>
  (nV .any ops listed=[]->Q .normal a w)/\
  ∀i∈nV .any ops listed,wpOp P ops Q i (λcT w'=>R i w w'/\wU P ops Q R gi (listed.setIfInBounds i ai) cT w') a w
def aeb:∀(gi:O) (listed:cA ay) (a:ek) (w:ci),wU P ops Q R gi listed a w->wpAny P .any ops Q gi listed a w
 |0,_,_,_,h=>h|gi+1,_,_,_,h=>⟨h.1,λi hi=>wpOp_mono (λcT w' bZ=>aeb gi _ cT w' bZ.2) (h.2 i hi)⟩
theorem afg{fY:eH}{v:ap}{T:ci->Prop}(hi:ops[i]?=some fY)(oR:∀(j:O) (z:eH) cs b,ops[j]?=some z->z.op≠.select cs b)
  (fj:∀c a w,¬Q (.panic c) a w) (de:O) (b7:∀w,R i w w) (aV:∀j,j=i∨waits ops de j i=ai∨∀w w',R j w w'->T w->T w'):
  ∀(gi:O) (listed:cA ay) (a:ek) (w:ci),yr ops listed->
   (∀j lB,ops[j]?=some lB->j≠i->listed.getD j ai=ao->(∀e∈lB.after,Bu .any e=ai->e.on≠i)->fY.apart ops lB=ai)->
   i∈nV .any ops listed->YieldsIf P ops T fY v a->T w->
   wU P ops Q R gi (listed.setIfInBounds i ai) (a.put fY.dst v) w->wU P ops Q R (gi+1) listed a w:=by
 intro gi
 induction gi with
 |zero=>intro listed a w _ _ U aj bb H;refine⟨λh=>(by rw[h] at U;cases U),λj aP=>?_⟩;by_cases l9:j=i;subst l9;exact aj.wpOp hi bb ⟨b7 _,H⟩;have:=JA aP l9;rw[H.1] at this;cases this
 |succ gi aW=>
  intro listed a w I E2 U aj bb H;refine⟨λh=>(by rw[h] at U;cases U),λj aP=>?_⟩;by_cases l9:j=i;subst l9;exact aj.wpOp hi bb ⟨b7 _,H⟩
  .have h1:=H.2 j (JA aP l9);obtain⟨Mo,lB,Fq,eL⟩:=ww.1 aP;have au2:=(ww.1 U).1;have auT:listed.getD i ao=ao:=by grind
   have tn:∀e∈lB.after,Bu .any e=ai->e.on≠i:=λe he aa RL=>by
    grind
   have h2:=wpOp_putIf Fq (E2 j lB Fq l9 Mo tn) (λcs b=>oR i fY cs b hi) (λcs b=>oR j lB cs b Fq) (λc a w h=>bf h (fj c _ w)) aj h1;have YX:∀k ok,ops[k]?=some ok->k≠i->(listed.setIfInBounds j ai).getD k ai=ao->
     (∀e∈ok.after,Bu .any e=ai->e.on≠i)->fY.apart ops ok=ai:=λk ok hk y2 xI dR=>by
    refine E2 k ok hk y2 ?_ dR
    by_cases Fb:j=k
    subst Fb;exact Mo
    simp_all
   have atA:∀w w',R j w w'->T w->T w':=by
    rcases aV j with bZ|bZ|bZ;exact bf bZ l9;have:=aoo I de j i bZ (λz ac e he aa=>by grind)
    grind
    exact bZ
   refine wpOp_mono (λcT w' h3=>⟨h3.2.1,?_⟩) h2;have Yn:T w':=atA _ _ h3.2.1 bb;refine aW (listed.setIfInBounds j ai) cT w' (I.set aP) YX (JA U (e3 l9)) h3.1 Yn ?_;rw[Array.setIfInBounds_comm _ _ l9];exact h3.2.2
end
def allI:J O->(O->Prop)->Prop
 | [],_=>True| [i],f=>f i|i::is,f=>f i/\allI is f
def afe{l:J O}{f:O->Prop}(h:allI l f):∀i∈l,f i:=by
 induction l with
 |nil=>intro i hi;cases hi
 |cons x l aW=>
  cases l with
  |nil=>intro i hi;simp only[hZ] at hi;subst hi;exact h
  |cons y l=>
   intro i hi;cases hi with
   |head=>exact h.1|tail _ hi=>exact aW h.2 i hi
def SL(ops:cA eH)(i:O):ay:=
 match ops[i]? with
 |some z=>match z.op with
  | .load _ _=>ai|_=>ao
 |none=>ao
def anD(z:eH):ay:=
 match z.op with
 | .alloc _| .box _ _| .buildSlice ..| .store ..| .mapUpdate ..| .insert ..| .makeMap ..| .makeSlice ..| .lookup ..| .next ..| .range ..| .entry ..| .entryStore ..| .mapEntry ..=>ao| .call c=>match c.callee with
  | .builtin .len| .builtin .cap| .builtin .min| .builtin .max=>ai|_=>ao
 |_=>ai
def early(ops:cA eH)(r:O):ay:=
 SL ops r && (lD ops.size).all λj=>match ops[j]? with
  |some z=>anD z ||!waits ops ops.size r j|none=>ai
def rG(ops:cA eH)(i:O):ay:=
 (lD ops.size).any λr=>early ops r && !(km r i) && !waits ops ops.size i r
def S9(_:O):ay:=ao
def s7(C:lq)(bC:O->ay)(ops:cA eH)(s:aM)(i:O)(u:H)(K:aM->H->Prop):Prop:=
 match ops[i]? with
 |none=>eg|some z=>EJ s ops z λar want=>match want with
  |true=>wN C bC ar z u K|false=>K (ar.put z.dst (.v h9)) u
def Q1(C:lq)(bC:O->ay)(ops:cA eH)(s:aM)(i:O)(u:H)(K:aM->H->Prop):Prop:=
 match ops[i]? with
 |none=>eg|some z=>EJ s ops z λar want=>match want with
  |true=>match xP C ar z with
   |true=>wN C bC ar z u K|false=>eg
  |false=>K (ar.put z.dst (.v h9)) u
def alc(C:lq)(ops:cA eH)(s:aM)(i:O):ay:=
 match ops[i]? with
 |none=>ao|some z=>xP C s z
def Ax(C:lq)(bC:O->ay)(ops:cA eH)(ak:H):O->cA ay->ay->aM->H->(aM->H->Prop)->Prop
 |0,_,_,_,_,_=>eg|gi+1,listed,flag,s,u,K=>
  match(nV .any ops listed).find? (λi=>alc C ops s i && Tt .any ops listed i) with
  |some i=>Q1 C bC ops s i u λar u'=>Ax C bC ops ak gi (listed.setIfInBounds i ai) flag ar u' K|none=>match flag,(nV .any ops listed).find? (λi=>early ops i && Tt .any ops listed i) with
   |true,some i=>s7 C bC ops s i ak λar _=>Ax C bC ops ak gi (listed.setIfInBounds i ai) ai ar u K|_,_=>match nV .any ops listed with
    | []=>K s u|r=>allI r λi=>match rG ops i with
     |true=>s7 C S9 ops s i u λar u'=>ak.le u'/\Ax C bC ops ak gi (listed.setIfInBounds i ai) ao ar u' K|false=>s7 C bC ops s i u λar u'=>Ax C bC ops ak gi (listed.setIfInBounds i ai) ao ar u' K
def acQ(ops:cA eH)(r:O):ay:=
 early ops r && (lD ops.size).all λj=>km j r ||waits ops ops.size j r ||match ops[j]? with
  |some z=>anD z|none=>ai
def Jg(ops:cA eH)(i:O):ay:=
 (lD ops.size).any λr=>early ops r && !acQ ops r && !(km r i) && !waits ops ops.size i r
def Jh(ops:cA eH)(i:O):ay:=
 (lD ops.size).any λr=>acQ ops r && !(km r i) && !waits ops ops.size i r
def SK(b:ay)(p q:Prop):Prop:=match b with
 |true=>p/\q|false=>q
def w8(C:lq)(bC:O->ay)(ops:cA eH)(v0 ak:H):O->cA ay->ay->aM->H->(aM->H->Prop)->Prop
 |0,_,_,_,_,_=>eg|gi+1,listed,flag,s,u,K=>
  match(nV .any ops listed).find? (λi=>alc C ops s i && Tt .any ops listed i) with
  |some i=>Q1 C bC ops s i u λar u'=>w8 C bC ops v0 ak gi (listed.setIfInBounds i ai) flag ar u' K|none=>match flag,(nV .any ops listed).find? (λi=>early ops i && Tt .any ops listed i) with
   |true,some i=>match acQ ops i with
    |true=>s7 C bC ops s i ak λar _=>w8 C bC ops v0 ak gi (listed.setIfInBounds i ai) ai ar u K|false=>s7 C bC ops s i v0 λar _=>w8 C bC ops v0 ak gi (listed.setIfInBounds i ai) ai ar u K
   |_,_=>match nV .any ops listed with
    | []=>K s u|r=>allI r λi=>match Jg ops i ||Jh ops i with
     |true=>s7 C S9 ops s i u λar u'=>SK (Jg ops i) (v0.le u') (SK (Jh ops i) (ak.le u') (w8 C bC ops v0 ak gi (listed.setIfInBounds i ai) ao ar u' K))|false=>s7 C bC ops s i u λar u'=>w8 C bC ops v0 ak gi (listed.setIfInBounds i ai) ao ar u' K
def akb{b:ay}{p q:Prop}(h:SK b p q)(aa:b=ai):p:=by subst aa;exact h.1
def akc{b:ay}{p q:Prop}(h:SK b p q):q:=by cases b with
 |true=>exact h.2|false=>exact h
end
section
variable{ds:O->ay}{w:ci}{s ar:aM}{ak:H}{gJ:J (J ap)}{gl:J O}
variable [sN]
def w1(P:dL)(it:ap)(u:H)(iK:H->Prop)(Qm:ap->ap->H->Prop):Prop:=
 ∀w,Sub u w->∃w' u',((Od it ao 0).run P w=.ok (.tuple #[.bool ao]) w'/\iK u'∨∃k e,(Od it ao 0).run P w=.ok (.tuple #[.bool ai,k,e]) w'/\Qm k e u')/\Step u [] w u' [] w'
def wZ(P:dL)(it:ap)(u:H)(K:ap->ap->H->Prop):Prop:=
 ∀w,Sub u w->∃k e w' u',(Instr.entry it).run P w=.ok (.tuple #[k,e]) w'/\K k e u'/\Step u [] w u' [] w'
def sT(t:aI)(v:ap)(f:t.den->Prop):Prop:=t.un v f
def RK:aA ap->aA ay
 |some (.tuple vs)=>match vs.toList with
  |v::_=>match v with
   | .bool b=>some b|_=>none
  | []=>none
 |_=>none
def aum{x:aA ap}{b:ay}(h:RK x=some b):∃vs,x=some (.tuple vs)/\vs[0]?=some (.bool b):=by unfold RK at h;split at h;rename_i vs;split at h;rename_i v l aq;split at h;cases h;exact⟨vs,rfl,by rw[<-Oi,aq];rfl⟩;cases h;cases h;cases h
def Uw(C:lq)(bC:O->ay)(s:aM)(z:eH)(u:H)(K:aM->H->Prop):Prop:=
 match z.op with
 | .call c=>match c.callee with
  | .value (.tmp t)=>match Pw s c.args,O2 C.P z.type,look s.env t with
   |some vs,some ss,some (.v fv)=>ua C.P fv vs.toArray ss u (sZ s z.dst ss K)|_,_,_=>eg
  |_=>wN C bC s z u K
 | .range t x=>match s.val x with
  |some v=>c7 C.P (rL t v) [.one .ptr] u (sZ s z.dst [.one .ptr] K)|none=>eg
 | .next x ao=>match s.val x with
  |some v=>w1 C.P v u (λu'=>K (s.put z.dst (.v (.tuple #[.bool ao]))) u') (λk e u'=>K (s.put z.dst (.v (.tuple #[.bool ai,k,e]))) u')|none=>eg
 | .entry x=>match s.val x with
  |some v=>wZ C.P v u (λk e u'=>K (s.put z.dst (.v (.tuple #[k,e]))) u')|none=>eg
 | .extract (.tmp t) i=>match gT C.oK t with
  |true=>match s.val (.tmp t),q5 C.P z.type with
   |some (.tuple vs),some (.one ct)=>match vs.toList[i]? with
    |some v=>sT ct v λy=>K (s.put z.dst (.v (ct.enc y))) u|none=>eg
   |_,_=>eg
  |false=>match gT C.oU t with
   |true=>match km i 0,RK (s.val (.tmp t)) with
    |true,some ai=>K (s.put z.dst .iy) u|true,some ao=>K (s.put z.dst .kh) u|_,_=>eg
   |false=>wN C bC s z u K
 |_=>wN C bC s z u K
def J9(C:lq)(bC:O->ay)(all:cA eH):J eH->aM->H->(aM->H->Prop)->Prop
 | [],s,u,K=>K s u|z::rest,s,u,K=>EJ s all z λar want=>match want with
  |true=>Uw C bC ar z u λwI u'=>J9 C bC all rest wI u' K|false=>J9 C bC all rest (ar.put z.dst (.v h9)) u K
abbrev Fr(ro:aA O):Fence:={vg with round:=ro}
def wV{P:dL}{z:eH}{a:ek}{next:ek->ci->Prop}{Q:kX->ek->ci->Prop}(ro:aA O)(av:ro=none∨∀c,z.op≠.defer c)(h:z.wp P a w next Q):
  z.wpIn (Fr ro) 0 P a w next Q:=by
 refine⟨λ_ _=>trivial,?_⟩
 have e:z.semAt (Fr ro).round a.eval=fu a.eval z:=by rcases av with rfl|av;rfl;exact Oper.semAt_eq ro _ _ av
 rw[e]
 unfold Ds at h
 cases U:(fu a.eval z).run P w with
 |ok abL w'=>
  rw[U] at h;cases abL with
  |value v=>exact h|skip=>exact h|defer d=>exact h|enter f args=>exact⟨λM=>by simp[Fr,vg] at M,(Oj (n:=0-1)).2 h⟩|row row args=>exact⟨λM=>by simp[Fr,vg] at M,λc cs _=>let⟨v,dF,aL,ae⟩:=h c cs;⟨v,dF,aL,stepsIn_wide.2 ae⟩⟩|_=>exact h.elim
 |halt W w'=>
  rw[U] at h;cases W with
  |panic v=>exact h|_=>exact h.elim
def azt{C:lq}{bC:O->ay}{z:eH}{u:H}{K:aM->H->Prop}{bs:J O}{a:ek}{Q:kX->ek->ci->Prop}{ro:aA O}{fv:ap}{args:cA ap}{ss:J bk}
  (ab:Fits s bs u a w) (b8:∀c,z.op≠.defer c) (h:Ae C.P fv args ss u (sZ s z.dst ss K))
  (U:∀l,fv=.func (.yield l) #[] #[]->(fu a.eval z).run C.P w=(Instr.yield l args).run C.P w):z.wpIn (Fr ro) 0 C.P a w (mo bC K s bs u a w z.dst) Q:=by
 obtain⟨l,rfl,aj⟩:=h
 obtain⟨fn,tmps,assign,body,om,M3⟩:=aj w ab.sub
 refine⟨λ_ _=>trivial,?_⟩
 have e:z.semAt (Fr ro).round a.eval=fu a.eval z:=Oper.semAt_eq ro _ _ b8
 rw[e,U l rfl,om]
 refine⟨λM=>by simp[Fr,vg] at M,RoundIn.mono M3 ?_⟩
 rintro e w' ⟨v,u',rfl,⟨vs,aB,rfl,au⟩,ae⟩
 have l7:K (s.put z.dst (.v (xb ss vs))) u':=(Pn aB _).1 au
 exact⟨_,u',bs,_,l7,(ab.step ae).put z.dst (x:=.v _) rfl,ae.Mk bs,rfl,Kept.put bC s z.dst _⟩
theorem aDp{C:lq}{bC:O->ay}{z:eH}{u:H}{K:aM->H->Prop}{bs:J O}{a:ek}{Q:kX->ek->ci->Prop}{ro:aA O}
  (fP:Good C) (av:ro=none∨∀c,z.op≠.defer c) (ab:Fits s bs u a w) (h:Uw C bC s z u K):z.wpIn (Fr ro) 0 C.P a w (mo bC K s bs u a w z.dst) Q:=by
 unfold Uw at h
 split at h
 rename_i c e
 split at h
 rename_i t I
 split at h
 rename_i vs ss fv aB wa M
 have Ik:=an8 ab.toFitsE aB
 have Sw:s.sv (.tmp t)=some (.v fv):=M
 rcases h with h|h
 refine wV ro av (alW fP ab e ?_)
 rw[aB,wa,I]
 simp only[Sw]
 exact h
 refine azt ab (λpL=>by grind) h ?_
 rintro l rfl
 unfold fu;rw[e]
 simp only[resolve,I,sY ab.toFitsE Sw,Tm,pure_bind,invoke,Ik]
 simp
 exact h.elim
 exact wV ro av (Uy fP ab h)
 rename_i t x e
 split at h
 rename_i v aB
 refine wV ro av (abN ab h λW w' U=>.inl ?_)
 unfold fu;rw[e];simp only[ab.val aB,eN,U,lm];rfl
 exact h.elim
 rename_i x e
 split at h
 rename_i v aB
 obtain⟨w',u',au,ae⟩:=h w ab.sub
 have run:∀W,(Od v ao 0).run C.P w=.ok W w'->(fu a.eval z).run C.P w=.ok (.value W) w':=λW U=>by have cU:(Od v ao z.type).run C.P w=.ok W w':=U;unfold fu;rw[e];simp only[ab.val aB,eN,cU,lm];rfl
 rcases au with⟨U,au⟩|⟨k,W,U,au⟩
 exact wV ro av (N0 ab (run _ U) ae au)
 exact wV ro av (N0 ab (run _ U) ae au)
 exact h.elim
 rename_i x e
 split at h
 rename_i v aB
 obtain⟨k,W,w',u',U,au,ae⟩:=h w ab.sub
 refine wV ro av (N0 ab ?_ ae au)
 unfold fu;rw[e];simp only[ab.val aB,eN,U,lm];rfl
 exact h.elim
 rename_i t i e
 split at h
 split at h
 rename_i vs ct aB fM
 split at h
 rename_i v hi
 obtain⟨y,rfl,au⟩:=aI.UQ h
 refine wV ro av (N0 ab ?_ (Step.refl ab.sub) au)
 have qL:vs[i]?=some (ct.enc y):=by grind
 unfold fu;rw[e];simp only[ab.val aB,eN]
 simp[Instr.extract,qL]
 exact h.elim
 exact h.elim
 split at h
 have run:∀b,km i 0=ai->RK (s.val (.tmp t))=some b->(fu a.eval z).run C.P w=.ok (.value (.bool b)) w:=λb h0 aa=>by obtain⟨vs,aB,qL⟩:=aum aa;obtain rfl:=sq h0;unfold fu;rw[e];simp only[ab.val aB,eN];simp[Instr.extract,qL]
 split at h
 rename_i h0 aa;exact wV ro av (zA ab (run _ h0 aa) rfl h)
 rename_i h0 aa;exact wV ro av (zA ab (run _ h0 aa) rfl h)
 exact h.elim
 exact wV ro av (Uy fP ab h)
 exact wV ro av (Uy fP ab h)
section
variable {C:lq} {bC:O->ay} {s:aM} {z:eH} {u:H} {K:aM->H->Prop} {bs:J O} {a:ek} {w:ci} {Q:kX->ek->ci->Prop}
def Fits.told(ab:Fits s bs u a w)(ht:Told s ar bs a):Fits ar bs u a w:=
 ⟨ht.e,by rw[ht.loc];exact ab.len,by rw[ht.loc];exact ab.loc,ab.nodup,ab.cy,ab.sub⟩
def Kept.told{wI:aM}(ht:ar.loc=s.loc/\ar.n=s.n)(k:Kept bC ar wI):Kept bC s wI:=
 ⟨k.n.trans ht.2,by rw[<-ht.1];exact k.len,λi cs e=>k.same i cs (by rw[ht.1];exact e)⟩
def Oper.aos{F:Fence}{n:O}{P:dL}{z:eH}{a:ek}{next next':ek->ci->Prop}{Q:kX->ek->ci->Prop}(h:∀a w,next a w->next' a w)(hw:z.wpIn F n P a w next Q):
  z.wpIn F n P a w next' Q:=by
 refine⟨hw.1,?_⟩
 have h2:=hw.2
 generalize (z.semAt F.round a.eval).run P w=r at h2 ⊢
 cases r with
 |ok abL w'=>
  cases abL with
  |value v=>exact h _ _ h2|skip=>exact h _ _ h2|defer d=>exact h _ _ h2|enter f args=>exact⟨h2.1,h2.2.mono λe dF he=>by cases e<;>first|exact h _ _ he|exact he⟩
  |row row args=>exact⟨h2.1,h2.2.mono λv dF he=>h _ _ he⟩|round l f tmps assign body=>exact⟨h2.1,h2.2.mono λe dF he=>by cases e<;>first|exact h _ _ he|exact he⟩
  |_=>exact h2
 |halt W w'=>cases W<;>exact h2
def arM(fP:Good C){all:cA eH}(ab:Fits s bs u a w)(h:EJ s all z λar want=>match want with
  |true=>Uw C bC ar z u K
  |false=>K (ar.put z.dst (.v h9)) u) (ro:aA O) (b8:ro=none∨∀c,z.op≠.defer c):
  (vh z (yielded all a.tmps)=ai/\z.wpIn (Fr ro) 0 C.P a w (mo bC K s bs u a w z.dst) Q)∨
  (vh z (yielded all a.tmps)=ao/\mo bC K s bs u a w z.dst (a.put z.dst h9) w):=by
 obtain⟨ar,want,bZ,ht,hw⟩:=HX h ab.toFitsE
 cases want with
 |true=>refine .inl ⟨hw,?_⟩;refine Oper.aos ?_ (aDp fP b8 (ab.told ht) bZ);rintro cT w' ⟨wI,u',da,v,hk,df,ae,az,iE⟩;exact⟨wI,u',da,v,hk,df,ae,az,iE.told ⟨ht.loc,ht.n⟩⟩
 |false=>refine .inr ⟨hw,?_⟩;exact⟨_,u,bs,h9,bZ,(ab.told ht).put z.dst (x:=.v h9) rfl,Step.refl ab.sub,rfl,(Kept.put bC ar _ _).told ⟨ht.loc,ht.n⟩⟩
def agn(fP:Good C){all:cA eH}(ab:Fits s bs u a w)(h:EJ s all z λar want=>match want with
  |true=>wN C bC ar z u K
  |false=>K (ar.put z.dst (.v h9)) u):
  (vh z (yielded all a.tmps)=ai/\z.wp C.P a w (mo bC K s bs u a w z.dst) Q)∨
  (vh z (yielded all a.tmps)=ao/\mo bC K s bs u a w z.dst (a.put z.dst h9) w):=by
 obtain⟨ar,want,bZ,ht,hw⟩:=HX h ab.toFitsE
 cases want with
 |true=>refine .inl ⟨hw,?_⟩;refine Oper.wp_mono ?_ (Uy fP (ab.told ht) bZ);rintro cT w' ⟨wI,u',da,v,hk,df,ae,az,iE⟩;exact⟨wI,u',da,v,hk,df,ae,az,iE.told ⟨ht.loc,ht.n⟩⟩
 |false=>refine .inr ⟨hw,?_⟩;exact⟨_,u,bs,h9,bZ,(ab.told ht).put z.dst (x:=.v h9) rfl,Step.refl ab.sub,rfl,(Kept.put bC ar _ _).told ⟨ht.loc,ht.n⟩⟩
def Cb(bC:O->ay)(s:aM)(bs:J O)(u:H)(a:ek)(w:ci)(ds:O->ay)(K:aM->H->Prop)(R:ek->ci->Prop):Prop:=
 ∀ar u' da cT w',K ar u'->Fits ar da u' cT w'->Step u bs w u' da w'->Kept bC s ar->(∀d,ds d=ao->cT.tmps[d]?=a.tmps[d]?)->R cT w'
def Cb.next{u':H}{da:J O}{cT:ek}{w':ci}{R:ek->ci->Prop}(h:Cb bC s bs u a w ds K R)
  (ae:Step u bs w u' da w') (hk:Kept bC s ar) (az:∀d,ds d=ao->cT.tmps[d]?=a.tmps[d]?):Cb bC ar da u' cT w' ds K R:=
 λs2 cF HB a2 dF cW f2 h2 du d2=>h s2 cF HB a2 dF cW f2 (ae.trans h2) (hk.trans du) λd av=>(d2 d av).trans (az d av)
theorem ab0{dst:aA Tmp}{v:ap}(h:∀d,dst=some d->ds d=ai):∀d,ds d=ao->(a.put dst v).tmps[d]?=a.tmps[d]?:=by
 intro d av;cases dst with
 |none=>rfl|some x=>
  rw[ab1,bF]
  grind
def amg(fP:Good C)(ro:aA O){all:cA eH}:∀(l:J eH) (s:aM) (u:H) (bs:J O) (a:ek) (w:ci),J9 C bC all l s u K->Fits s bs u a w->
  (ro=none∨∀z∈l,∀c,z.op≠.defer c)->(∀z∈l,∀d,z.dst=some d->ds d=ai)->Cb bC s bs u a w ds K (Q .normal)->wpListIn (Fr ro) 0 C.P all Q l a w:=by
 intro l
 induction l with
 |nil=>intro s u bs a w h ab _ _ I;exact I s u bs a w h ab (Step.refl ab.sub) (Kept.refl _ _) λ_ _=>rfl
 |cons z rest aW=>
  intro s u bs a w h ab b8 av I;have v7:∀cn∈rest,∀d,cn.dst=some d->ds d=ai:=λcn bR=>av cn (.tail _ bR);have e8:∀v,∀d,ds d=ao->(a.put z.dst v).tmps[d]?=a.tmps[d]?:=λv=>ab0 (av z (.head _));have key:∀cT w',mo bC (λwI u'=>J9 C bC all rest wI u' K) s bs u a w z.dst cT w'->wpListIn (Fr ro) 0 C.P all Q rest cT w':=by rintro cT w' ⟨ar,u',da,v,hk,df,ae,rfl,iE⟩;exact aW ar u' da _ w' hk df (b8.imp id λh cn bR=>h cn (.tail _ bR)) v7 (I.next ae iE (e8 v))
  simp only[wpListIn];rcases arM (Q:=Q) fP (K:=λwI u'=>J9 C bC all rest wI u' K) ab h ro (b8.imp id λh=>h z (.head _)) with⟨hw,h1⟩|⟨hw,h1⟩;rw[b3 hw];exact Oper.aos key h1;rw[bF (by rw[hw];simp)];exact⟨λ_ _=>trivial,key _ _ h1⟩
def left(listed:cA ay):O:=listed.toList.count ao
theorem F0{listed:cA ay}{i:O}(h:listed.getD i ai=ao):left (listed.setIfInBounds i ai)+1=left listed:=by
 have bP:i<listed.size:=by grind
 have key:∀(l:J ay) (i:O),l[i]?=some ao->(l.set i ai).count ao+1=l.count ao:=by grind
 unfold left
 simp_all
def alK{ops:cA eH}{listed:cA ay}(h:left listed=0):nV .any ops listed=[]:=by
 cases U:nV .any ops listed with
 |nil=>rfl|cons i l=>
  have hi:i∈nV .any ops listed:=by rw[U];exact .head _
  have:=F0 (ww.1 hi).1;omega
def akv(ab:FitsE s bs a){t:dC}{x:iv}(e:z.op=.load t x)(h:wN C bC s z u K):Qo C s z u K bs a:=by unfold wN at h;rw[e] at h;simp only at h;split at h;rename_i i off aC M fM;split at h;rename_i cs aq;split at h;rename_i aa;exact al3 ab e M fM aq (Gl aa) h;exact h.elim;exact h.elim;rename_i p aC M fM;exact al4 ab e M fM h;exact h.elim
def Q4{l:J O}{p:O->ay}{i:O}(h:l.find? p=some i):i∈l/\p i=ai:=
 ⟨ab6 h,List.find?_some h⟩
theorem af7(fP:Good C){ops:cA eH}(oR:Region.noSelect ops=ai)
  (fj:∀c a w,¬Q (.panic c) a w) (av:∀(z:eH),z∈ops.toList->∀d,z.dst=some d->ds d=ai):
  ∀(f:O) (listed:cA ay) (flag:ay) (s:aM) (u:H),Ax C bC ops ak f listed flag s u K->∀(bs:J O) (a:ek) (w:ci) (g:O),Fits s bs u a w->
   yr ops listed->left listed<=g->(flag=ai->ak.le u/\s.loc=gJ/\bs=gl)->(∃ext,bs=gl++ext)->Cb bC s bs u a w ds K (Q .normal)->
   yp C.P ops Q (rG ops) (jK gJ gl ak) g listed a w:=by
 intro f
 induction f with
 |zero=>intro listed flag s u h;exact h.elim
 |succ f aW=>
  intro listed flag s u h bs a w g ab I Z Me A6 xk;have e8:∀(i:O) (z:eH),ops[i]?=some z->∀v,∀d,ds d=ao->(a.put z.dst v).tmps[d]?=a.tmps[d]?:=λi z ac v=>
   ab0 (av z (by grind))
  unfold Ax at h;split at h
  ·
   rename_i i CV;obtain⟨hi,ad⟩:=Q4 CV;simp only[oV] at ad;have aq:=F0 (ww.1 hi).1;obtain⟨g,rfl⟩:∃m,g=m+1:=⟨g-1,by omega⟩;unfold Q1 at h;split at h;exact h.elim
   .rename_i fY jA;obtain⟨ar,want,bZ,ht,hw⟩:=HX h ab.toFitsE;have xo:=ab.told ht;have fin:∀y v,hv bs y=some v->Ax C bC ops ak f (listed.setIfInBounds i ai) flag (ar.put fY.dst y) u K->YieldsIf C.P ops (λ_=>True) fY v a->
      yp C.P ops Q (rG ops) (jK gJ gl ak) (g+1) listed a w:=by
     intro y v sc au aj
     refine aff jA (Tu oR) fj 0 (T:=λ_=>True) (.inl λ_=>trivial) g listed a w I (λj lB aP an xI dR=>Tv jA ad.2 j lB aP an xI dR) hi aj trivial ?_
     have ly:=xo.put fY.dst sc
     refine aW _ flag _ u au bs _ w g ly (I.set hi) (by omega) ?_ A6 ?_
     intro nb
     obtain⟨aT,aN,dG⟩:=Me nb
     exact⟨aT,by rw[(np _ _ _).1,ht.loc];exact aN,dG⟩
     exact xk.next (Step.refl ab.sub) ((Kept.put bC ar _ _).told ⟨ht.loc,ht.n⟩) (e8 i fY jA v)
    cases want with
    |true=>simp only at bZ;split at bZ;rename_i h8;obtain⟨y,v,au,sc,U⟩:=ald fP ht.e h8 bZ;exact fin y v sc au (.inl ⟨hw,λw' _=>U w'⟩);exact bZ.elim
    |false=>exact fin (.v h9) h9 rfl bZ (.inr ⟨hw,rfl⟩)
  .split at h
   ·
    rename_i i CV;obtain⟨hi,ad⟩:=Q4 CV;simp only[oV] at ad;have aq:=F0 (ww.1 hi).1;obtain⟨g,rfl⟩:∃m,g=m+1:=⟨g-1,by omega⟩;obtain⟨y3,uJ,lx⟩:=Me rfl;unfold s7 at h;split at h;exact h.elim
    .rename_i fY jA;obtain⟨ar,want,bZ,ht,hw⟩:=HX h ab.toFitsE;have xo:=ab.told ht;have Yj:jK gJ gl ak w:=by rw[<-uJ,<-lx];exact⟨ab.loc,ab.sub.mono y3⟩
     have xm:=ad.1;have Mw:∃t x,fY.op=.load t x:=by
      unfold early SL at xm;rw[jA] at xm;simp only[oV] at xm;have h1:=xm.1;split at h1
      grind
      cases h1
     have aV:∀j,rG ops j=ao->j=i∨waits ops ops.size j i=ai:=by
      intro j aP;unfold rG at aP;have bP:i<ops.size:=(x6.1 jA).1;have:=List.any_eq_false.1 aP i (ab7.2 bP);simp only[oV,Tw,not_and,Bool.not_eq_false] at this;by_cases l9:j=i;exact .inl l9;refine .inr (this ⟨xm,?_⟩);cases aa:km i j with
      |false=>rfl|true=>simp_all
     have fin:∀y v,hv bs y=some v->Ax C bC ops ak f (listed.setIfInBounds i ai) ai (ar.put fY.dst y) u K->YieldsIf C.P ops (jK gJ gl ak) fY v a->
       yp C.P ops Q (rG ops) (jK gJ gl ak) (g+1) listed a w:=by
      intro y v sc au aj
      refine aff jA (Tu oR) fj ops.size (T:=jK gJ gl ak) (.inr ⟨rfl,aV⟩) g listed a w I (λj lB aP an xI dR=>Tv jA ad.2 j lB aP an xI dR) hi aj Yj ?_
      have ly:=xo.put fY.dst sc
      refine aW _ ai _ u au bs _ w g ly (I.set hi) (by omega) ?_ A6 ?_
      exact λ_=>⟨y3,by rw[(np _ _ _).1,ht.loc];exact uJ,lx⟩
      exact xk.next (Step.refl ab.sub) ((Kept.put bC ar _ _).told ⟨ht.loc,ht.n⟩) (e8 i fY jA v)
     cases want with
     |true=>obtain⟨t,x,e⟩:=Mw;obtain⟨y,v,au,sc,U⟩:=akv ht.e e bZ;exact fin y v sc au (.inl ⟨hw,λw' lh=>U w' (by rw[ht.loc,uJ,lx];exact lh)⟩)
     |false=>exact fin (.v h9) h9 rfl bZ (.inr ⟨hw,rfl⟩)
   ·
    cases pf:nV .any ops listed with
    |nil=>
     have ZZ:=pf;rw[pf] at h;have LR:=xk s u bs a w h ab (Step.refl ab.sub) (Kept.refl _ _) λ_ _=>rfl;cases g with
     |zero=>exact⟨ZZ,LR⟩|succ g=>exact⟨λ_=>LR,by grind⟩
    |cons i0 iG=>
     have an:nV .any ops listed≠[]:=by rw[pf];simp
     rw[pf] at h;simp only at h;have hV:∃m,g=m+1:=by
      cases g with
      |zero=>exact bf (alK (ops:=ops) (by omega)) an|succ m=>exact⟨m,rfl⟩
     obtain⟨g,rfl⟩:=hV;refine⟨λe=>bf e an,λi hi=>?_⟩;have aq:=F0 (ww.1 hi).1;have h1:=afe h i (by rw[<-pf];exact hi);unfold wpOp;have step:∀(wt:O->ay) (fB:aM->H->Prop),(∀s1 s2,Kept wt s1 s2->Kept bC s1 s2)->s7 C wt ops s i u fB->
       (∀fY,ops[i]?=some fY->∀cT w',mo wt fB s bs u a w fY.dst cT w'->(rG ops i=ai->jK gJ gl ak w->jK gJ gl ak w')/\yp C.P ops Q (rG ops) (jK gJ gl ak) g (listed.setIfInBounds i ai) cT w')->
       (match ops[i]? with
        |none=>(rG ops i=ai->jK gJ gl ak w->jK gJ gl ak w)/\yp C.P ops Q (rG ops) (jK gJ gl ak) g (listed.setIfInBounds i ai) a w|some z=>if vh z (yielded ops a.tmps)=ai then(z.wp C.P a w (λcT w'=>(rG ops i=ai->jK gJ gl ak w->jK gJ gl ak w')/\yp C.P ops Q (rG ops) (jK gJ gl ak) g (listed.setIfInBounds i ai) cT w') Q)∨(z.asks C.P a w/\LetsOut Q)
         else(rG ops i=ai->jK gJ gl ak w->jK gJ gl ak w)/\yp C.P ops Q (rG ops) (jK gJ gl ak) g (listed.setIfInBounds i ai) (a.put z.dst h9) w):=by
      intro wt fB _ M MP
      unfold s7 at M
      split at M
      exact M.elim
      rename_i fY jA
      try rw[jA]
      show(if vh fY (yielded ops a.tmps)=ai then _ else _)
      rcases agn (Q:=Q) fP ab M with⟨hw,h2⟩|⟨hw,h2⟩
      rw[b3 hw]
      exact .inl (Oper.wp_mono (MP fY jA) h2)
      rw[bF (by rw[hw];simp)]
      exact MP fY jA _ _ h2
     split at h1;rename_i b8;refine step S9 _ (λs1 s2 k=>⟨k.n,k.len,λi cs e _=>k.same i cs e rfl⟩) h1 ?_;rintro fY jA cT w' ⟨ar,u',da,v,⟨hle,au⟩,df,ae,rfl,iE⟩;obtain⟨ext,Mc⟩:=A6;obtain⟨EE,Md,_⟩:=ae.more;have Zj:Kept bC s ar:=⟨iE.n,iE.len,λi cs e _=>iE.same i cs e rfl⟩;refine⟨λ_ bb=>⟨λj cs e=>?_,df.sub.mono hle⟩,aW _ ao ar u' au da _ w' g df (I.set hi) (by omega) (λe=>by cases e) ⟨ext++EE,by grind⟩ (xk.next ae Zj (e8 i fY jA v))⟩;obtain⟨b,T,j6,iN⟩:=bb.loc j cs e;have kC:j<gl.length:=by grind
     have LX:bs[j]?=some b:=by grind
     have Fc:j<s.loc.length:=by
      rw[<-ab.len];rcases tK j bs.length with k|k;exact k
      grind
     obtain⟨Ap,bD,bL,gA⟩:=ab.loc j _ (dj Fc);rw[LX] at bL;cases bL;rw[iN] at gA;simp only[ll,Obj.cells.injEq] at gA;have dV:cs=s.loc[j]:=by grind
     have kP:=iE.same j _ (dj Fc) rfl;obtain⟨fy,Ef,mx,l6⟩:=df.loc j _ kP;refine⟨b,Ef,j6,?_⟩;have Zf:j<bs.length:=by rw[ab.len];exact Fc
     rw[Md,Gi Zf,LX] at mx
     grind
     rename_i b8;refine step bC _ (λ_ _ k=>k) h1 ?_;rintro fY jA cT w' ⟨ar,u',da,v,au,df,ae,rfl,iE⟩;obtain⟨ext,Mc⟩:=A6;obtain⟨EE,Md,_⟩:=ae.more;exact⟨(λe=>by rw[b8] at e;cases e),aW _ ao ar u' au da _ w' g df (I.set hi) (by omega) (λe=>by cases e) ⟨ext++EE,by grind⟩ (xk.next ae iE (e8 i fY jA v))⟩
def o6(ops:cA eH)(gJ:J (J ap))(gl:J O)(v0 ak:H)(i:O)(w w':ci):Prop:=
 (Jg ops i=ai->jK gJ gl v0 w->jK gJ gl v0 w')/\(Jh ops i=ai->jK gJ gl ak w->jK gJ gl ak w')
def o6.refl{ops:cA eH}{v0:H}(i:O)(w:ci):o6 ops gJ gl v0 ak i w w:=⟨λ_ h=>h,λ_ h=>h⟩
theorem af6(fP:Good C){ops:cA eH}{v0:H}(IS:v0.le ak)(oR:Region.noSelect ops=ai)
  (fj:∀c a w,¬Q (.panic c) a w) (av:∀(z:eH),z∈ops.toList->∀d,z.dst=some d->ds d=ai):
  ∀(f:O) (listed:cA ay) (flag:ay) (s:aM) (u:H),w8 C bC ops v0 ak f listed flag s u K->∀(bs:J O) (a:ek) (w:ci) (g:O),Fits s bs u a w->
   yr ops listed->left listed<=g->(flag=ai->ak.le u/\s.loc=gJ/\bs=gl)->(∃ext,bs=gl++ext)->Cb bC s bs u a w ds K (Q .normal)->
   wU C.P ops Q (o6 ops gJ gl v0 ak) g listed a w:=by
 intro f
 induction f with
 |zero=>intro listed flag s u h;exact h.elim
 |succ f aW=>
  intro listed flag s u h bs a w g ab I Z Me A6 xk;have e8:∀(i:O) (z:eH),ops[i]?=some z->∀v,∀d,ds d=ao->(a.put z.dst v).tmps[d]?=a.tmps[d]?:=λi z ac v=>
   ab0 (av z (by grind))
  unfold w8 at h;split at h
  ·
   rename_i i CV;obtain⟨hi,ad⟩:=Q4 CV;simp only[oV] at ad;have aq:=F0 (ww.1 hi).1;obtain⟨g,rfl⟩:∃m,g=m+1:=⟨g-1,by omega⟩;unfold Q1 at h;split at h;exact h.elim
   .rename_i fY jA;obtain⟨ar,want,bZ,ht,hw⟩:=HX h ab.toFitsE;have xo:=ab.told ht;have fin:∀y v,hv bs y=some v->w8 C bC ops v0 ak f (listed.setIfInBounds i ai) flag (ar.put fY.dst y) u K->YieldsIf C.P ops (λ_=>True) fY v a->
      wU C.P ops Q (o6 ops gJ gl v0 ak) (g+1) listed a w:=by
     intro y v sc au aj
     refine afg jA (Tu oR) fj 0 (T:=λ_=>True) (λw=>o6.refl _ w) (λj=>.inr (.inr λ_ _ _ _=>trivial)) g listed a w I (λj lB aP an xI dR=>Tv jA ad.2 j lB aP an xI dR) hi aj trivial ?_
     have ly:=xo.put fY.dst sc
     refine aW _ flag _ u au bs _ w g ly (I.set hi) (by omega) ?_ A6 ?_
     intro nb
     obtain⟨aT,aN,dG⟩:=Me nb
     exact⟨aT,by rw[(np _ _ _).1,ht.loc];exact aN,dG⟩
     exact xk.next (Step.refl ab.sub) ((Kept.put bC ar _ _).told ⟨ht.loc,ht.n⟩) (e8 i fY jA v)
    cases want with
    |true=>simp only at bZ;split at bZ;rename_i h8;obtain⟨y,v,au,sc,U⟩:=ald fP ht.e h8 bZ;exact fin y v sc au (.inl ⟨hw,λw' _=>U w'⟩);exact bZ.elim
    |false=>exact fin (.v h9) h9 rfl bZ (.inr ⟨hw,rfl⟩)
  .split at h
   ·
    rename_i i CV;obtain⟨hi,ad⟩:=Q4 CV;simp only[oV] at ad;have aq:=F0 (ww.1 hi).1;obtain⟨g,rfl⟩:∃m,g=m+1:=⟨g-1,by omega⟩;obtain⟨y3,uJ,lx⟩:=Me rfl;have xm:=ad.1;have key:∀x:H,x.le u->(∀j,j=i∨waits ops ops.size j i=ai∨∀w w',o6 ops gJ gl v0 ak j w w'->jK gJ gl x w->jK gJ gl x w')->
      s7 C bC ops s i x (λar _=>w8 C bC ops v0 ak f (listed.setIfInBounds i ai) ai ar u K)->wU C.P ops Q (o6 ops gJ gl v0 ak) (g+1) listed a w:=by
     intro x axw aV h
     unfold s7 at h
     split at h
     exact h.elim
     .rename_i fY jA;obtain⟨ar,want,bZ,ht,hw⟩:=HX h ab.toFitsE;have xo:=ab.told ht;have Yj:jK gJ gl x w:=by rw[<-uJ,<-lx];exact⟨ab.loc,ab.sub.mono axw⟩
      have Mw:∃t x,fY.op=.load t x:=by
       unfold early SL at xm;rw[jA] at xm;simp only[oV] at xm;have h1:=xm.1;split at h1
       grind
       cases h1
      have fin:∀y v,hv bs y=some v->w8 C bC ops v0 ak f (listed.setIfInBounds i ai) ai (ar.put fY.dst y) u K->YieldsIf C.P ops (jK gJ gl x) fY v a->
        wU C.P ops Q (o6 ops gJ gl v0 ak) (g+1) listed a w:=by
       intro y v sc au aj
       refine afg jA (Tu oR) fj ops.size (T:=jK gJ gl x) (λw=>o6.refl _ w) aV g listed a w I (λj lB aP an xI dR=>Tv jA ad.2 j lB aP an xI dR) hi aj Yj ?_
       have ly:=xo.put fY.dst sc
       refine aW _ ai _ u au bs _ w g ly (I.set hi) (by omega) ?_ A6 ?_
       exact λ_=>⟨y3,by rw[(np _ _ _).1,ht.loc];exact uJ,lx⟩
       exact xk.next (Step.refl ab.sub) ((Kept.put bC ar _ _).told ⟨ht.loc,ht.n⟩) (e8 i fY jA v)
      cases want with
      |true=>obtain⟨t,hJ,e⟩:=Mw;obtain⟨y,v,au,sc,U⟩:=akv ht.e e bZ;exact fin y v sc au (.inl ⟨hw,λw' lh=>U w' (by rw[ht.loc,uJ,lx];exact lh)⟩)
      |false=>exact fin (.v h9) h9 rfl bZ (.inr ⟨hw,rfl⟩)
    have bP:i<ops.size:=by
     unfold early SL at xm;rcases tK i ops.size with k|k;exact k
     grind
    have beq:∀j,(!(km i j))=ao->j=i:=λj aa=>by
     simp_all
    split at h;rename_i ae;refine key ak y3 (λj=>?_) h;by_cases ag:Jh ops j=ai;exact .inr (.inr λw w' U=>U.2 ag);have hY:Jh ops j=ao:=by grind
    unfold Jh at hY
    grind
    rename_i ae;refine key v0 (IS.trans y3) (λj=>?_) h;by_cases ag:Jg ops j=ai;exact .inr (.inr λw w' U=>U.1 ag);have hY:Jg ops j=ao:=by grind
    unfold Jg at hY
    grind
   ·
    cases pf:nV .any ops listed with
    |nil=>
     have ZZ:=pf;rw[pf] at h;have LR:=xk s u bs a w h ab (Step.refl ab.sub) (Kept.refl _ _) λ_ _=>rfl;cases g with
     |zero=>exact⟨ZZ,LR⟩|succ g=>exact⟨λ_=>LR,by grind⟩
    |cons i0 iG=>
     have an:nV .any ops listed≠[]:=by rw[pf];simp
     rw[pf] at h;simp only at h;have hV:∃m,g=m+1:=by
      cases g with
      |zero=>exact bf (alK (ops:=ops) (by omega)) an|succ m=>exact⟨m,rfl⟩
     obtain⟨g,rfl⟩:=hV;refine⟨λe=>bf e an,λi hi=>?_⟩;have aq:=F0 (ww.1 hi).1;have h1:=afe h i (by rw[<-pf];exact hi);unfold wpOp;have step:∀(wt:O->ay) (fB:aM->H->Prop),(∀s1 s2,Kept wt s1 s2->Kept bC s1 s2)->s7 C wt ops s i u fB->
       (∀fY,ops[i]?=some fY->∀cT w',mo wt fB s bs u a w fY.dst cT w'->o6 ops gJ gl v0 ak i w w'/\wU C.P ops Q (o6 ops gJ gl v0 ak) g (listed.setIfInBounds i ai) cT w')->
       (match ops[i]? with
        |none=>o6 ops gJ gl v0 ak i w w/\wU C.P ops Q (o6 ops gJ gl v0 ak) g (listed.setIfInBounds i ai) a w|some z=>if vh z (yielded ops a.tmps)=ai then(z.wp C.P a w (λcT w'=>o6 ops gJ gl v0 ak i w w'/\wU C.P ops Q (o6 ops gJ gl v0 ak) g (listed.setIfInBounds i ai) cT w') Q)∨(z.asks C.P a w/\LetsOut Q)
         else o6 ops gJ gl v0 ak i w w/\wU C.P ops Q (o6 ops gJ gl v0 ak) g (listed.setIfInBounds i ai) (a.put z.dst h9) w):=by
      intro wt fB _ M MP
      unfold s7 at M
      split at M
      exact M.elim
      rename_i fY jA
      try rw[jA]
      show(if vh fY (yielded ops a.tmps)=ai then _ else _)
      rcases agn (Q:=Q) fP ab M with⟨hw,h2⟩|⟨hw,h2⟩
      rw[b3 hw]
      exact .inl (Oper.wp_mono (MP fY jA) h2)
      rw[bF (by rw[hw];simp)]
      exact MP fY jA _ _ h2
     split at h1;rename_i b8;refine step S9 _ (λs1 s2 k=>⟨k.n,k.len,λi cs e _=>k.same i cs e rfl⟩) h1 ?_;rintro fY jA cT w' ⟨ar,u',da,v,j6,df,ae,rfl,iE⟩;have iN:=akc j6;have au:=akc iN;obtain⟨ext,Mc⟩:=A6;obtain⟨EE,Md,_⟩:=ae.more;have Zj:Kept bC s ar:=⟨iE.n,iE.len,λi cs e _=>iE.same i cs e rfl⟩;have stay:∀x:H,x.le u'->jK gJ gl x w->jK gJ gl x w':=by
      intro x hle bb;refine⟨λj cs e=>?_,df.sub.mono hle⟩;obtain⟨b,T,j6,iN⟩:=bb.loc j cs e;have kC:j<gl.length:=by grind
      have LX:bs[j]?=some b:=by grind
      have Fc:j<s.loc.length:=by
       rw[<-ab.len];rcases tK j bs.length with k|k;exact k
       grind
      obtain⟨Ap,bD,bL,gA⟩:=ab.loc j _ (dj Fc);rw[LX] at bL;cases bL;rw[iN] at gA;simp only[ll,Obj.cells.injEq] at gA;have dV:cs=s.loc[j]:=by grind
      have kP:=iE.same j _ (dj Fc) rfl;obtain⟨fy,Ef,mx,l6⟩:=df.loc j _ kP;refine⟨b,Ef,j6,?_⟩;have Zf:j<bs.length:=by rw[ab.len];exact Fc
      rw[Md,Gi Zf,LX] at mx;cases mx;rw[dV];exact l6
     exact⟨⟨λag=>stay v0 (akb j6 ag),λag=>stay ak (akb iN ag)⟩,aW _ ao ar u' au da _ w' g df (I.set hi) (by omega) (λe=>by cases e) ⟨ext++EE,by grind⟩ (xk.next ae Zj (e8 i fY jA v))⟩;rename_i b8;refine step bC _ (λ_ _ k=>k) h1 ?_;rintro fY jA cT w' ⟨ar,u',da,v,au,df,ae,rfl,iE⟩;obtain⟨ext,Mc⟩:=A6;obtain⟨EE,Md,_⟩:=ae.more;rw[zD] at b8;exact⟨⟨λe=>(by rw[b8.1] at e;cases e),λe=>(by rw[b8.2] at e;cases e)⟩,aW _ ao ar u' au da _ w' g df (I.set hi) (by omega) (λe=>by cases e) ⟨ext++EE,by grind⟩ (xk.next ae iE (e8 i fY jA v))⟩
end
end
