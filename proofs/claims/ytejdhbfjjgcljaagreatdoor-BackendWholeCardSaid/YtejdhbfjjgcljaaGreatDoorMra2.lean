/- Texts of mine, joined and packed by pack.py. -/
import Derived.Test.YtejdhbfjjgcljaaGreatDoorMra1
import Derived.Laws.AppendOwn
import Derived.Laws.MakeOwn
import Derived.Laws.Slices
import Derived.Laws.CopyRow
import Derived.MapKept
import Derived.ChangeMaps5
import Derived.Carry
set_option linter.all false
open Go renaming Program->dY,Value->ap,World->b7,TypeId->dJ,FuncId->kM,Addr->bc,madeCells->ny,MapEntry->zQ
open _root_ renaming Nat->N,List->M,Option->ay,Array->cw,Int->o,Bool->aK,False->eh,absurd->aW,inferInstance->tn
open Bool renaming true->ak,false->ax,not->ww
open Nat renaming beq->ju,ble->wm
open Go.Obj renaming cells->bC,deferred->yc
open Go.IntKind renaming i64->cq,wrap->cz,u64->bR
open Go.Instr renaming lookup->gY,mapUpdate->lx,makeMap->rI,makeSlice->to,sliceAt->h6,buildSlice->dL,typeAssert->tp,range->rJ,findNow->HA,findKey->B2,checkKey->HC
open Go.Builtin renaming append_->ey,delete_->tq,len_->rK,clear_->p1,zeroCells->wu
open Go.Value renaming iface->mj,agg->c3,bool->mP,map->dP,int->cY,nilIface->P3,func->jv,nilFunc->P4,pointer->hy,slice->ec
open Go.Result renaming andThen->jL
open Go.Proofs.Tryz renaming prog->aH
open Eq renaming mp->p3
open Int renaming tmod->ps,fdiv->ew,tdiv->gR
open Go.Fn renaming func->kD
open Go.BinOp renaming or->UL,and->Ec,xor->HE
open List.Perm renaming cons->kc,swap->UN
open List.Pairwise renaming nil->p4
set_option maxRecDepth 100000
noncomputable section
namespace Go.Proofs.YtejdhbfjjgcljaaGreatDoor
def jh:=@Go.Addr.add_lit
def zR:=@Go.MapKept.run_getObj_map
def Lc:=@Go.MapKept.run_setObj_map
def UM:=@Go.IntWalk.u64_in
section
variable{u ai u':H}{P:dY}{s:U}{e t k:dJ}{size bytes g b:N}{xs zs e0:M ap}{w:b7}{K:U->H->Prop}{l:M o}
def Step.BN(hw:Sub u w)(z:Obj):Step u [] w (u.ins w.heap.size z) [] (w.alloc z):=
 (Fits.BN (s:={n:=0,env:=[],loc:=[]}) (a:={tmps:=#[],defers:=[]}) (bs:=[]) (w:=w) ⟨⟨rfl,rfl,λ_ h=>by cases h⟩,rfl,λ_ _ h=>by simp at h,by simp,by simp,hw⟩ z).2
def dd.one{m:Sem ap}{c:aL}{K:c.den->H->Prop}
  (h:∀w,Sub u w->∃x w' u',m.run P w=.ok (c.enc x) w'/\K x u'/\Step u [] w u' [] w'):dd P m [.one c] u K:=by
 intro w hw
 obtain⟨x,w',u',h1,h2,h3⟩:=h w hw
 exact⟨_,w',u',h1,⟨[c.enc x],.cons x .nil,rfl,(aL.rR c x _).2 h2⟩,h3⟩
def dd.Hk{m:Sem ap}{c:aL}{K:c.den->H->Prop}(x:c.den)(h:∀w,Sub u w->m.run P w=.ok (c.enc x) w)(au:K x u):dd P m [.one c] u K:=
 .one λw hw=>⟨x,w,u,h w hw,au,Step.refl hw⟩
def kH(P:dY)(t:dJ):ay (dJ×N×N×M ap):=
 match P.underlying t with
 |some (.slice e)=>match P.info? e with
  |some i=>match i.zero with
   |some Y=>match ju Y.cells.size i.size with
    |true=>some (e,i.size,i.bytes,Y.cells.toList)|false=>none
   |none=>none
  |none=>none
 |_=>none
def vv(h:kH P t=some (e,size,bytes,zs)):
  P.underlying t=some (.slice e)/\∃i Y,P.info? e=some i/\i.zero=some Y/\i.size=size/\i.bytes=bytes/\Y.cells.size=size/\Y.cells.toList=zs:=by
 unfold kH at h
 split at h
 rename_i gv hu
 split at h
 rename_i i hi
 split at h
 rename_i Y aC
 split at h
 rename_i ab
 cases h
 exact⟨hu,i,Y,hi,aC,rfl,rfl,mh ab,rfl⟩
 cases h
 cases h
 cases h
 cases h
def U.aj(s:U):ay N:=s.a.map (·.block)
structure Own(u:H)(e size:N)(s:U)(xs:M ap):Prop where
 len:xs.length=s.n*size
 is:(s=⟨none,0,0⟩)∨∃g cur,s.a=some ⟨g,0,none⟩/\u g=some (.cells cur e (0,0))/\s.n<=s.c/\s.c<=9223372036854775807/\cur.size=s.c*size/\cur.toList.take (s.n*size)=xs
def Hd:maxLen=9223372036854775807:=by decide
def H.ao2(u:H)(g:N)(c:cw ap)(e:dJ)(Jh:N×N)(i:N):(u.ins g (.cells c e Jh)).cell? ⟨g,i,none⟩=c[i]?:=by simp[H.cell?,H.ins]
def H.ba{c:cw ap}{Jh:N×N}(h:u g=some (.cells c e Jh))(i:N):u.cell? ⟨g,i,none⟩=c[i]?:=by simp[H.cell?,h]
def Own.cE{e:N}(h:Own u e size s xs):br u s size xs:=by rcases h.is with h1|⟨g,cur,aE,W,ae,I,ag,ht⟩;subst h1;refine⟨h.len,by simp,by simp,.inl ?_⟩;have:=h.len;simpa using this;refine⟨h.len,ae,I,.inr ⟨_,aE,λi v e=>?_⟩⟩;rw[jh,k5,H.ba W];rw[<-ht] at e;rw[K3] at e;split at e;simpa using e;cases e
def Own.le{e:N}(h:Own u e size s xs)(k:∀b z,s.aj=some b->u b=some z->u' b=some z):Own u' e size s xs:=
 ⟨h.len,h.is.imp id λ⟨g,cur,aE,W,r⟩=>⟨g,cur,aE,k g _ (by simp[U.aj,aE]) W,r⟩⟩
def Own.nil(u:H)(e size:N):Own u e size ⟨none,0,0⟩ []:=⟨by simp,.inl rfl⟩
structure L2(u u':H)(s aq:U):Prop where
 rest:∀b z,u b=some z->s.aj≠some b->u' b=some z
 aj:aq.aj=s.aj∨∃g,aq.aj=some g/\u g=none
def L2.le{aq:U}(h:L2 u u' s aq)(k:ai.le u)(ag:∀g,s.aj=some g->ai g=none):ai.le u':=by intro b z e;refine h.rest b z (k b z e) λab=>?_;rw[ag b ab] at e;cases e
def L2.out{aq:U}(h:L2 u u' s aq)(k:ai.le u)(ag:∀g,s.aj=some g->ai g=none):∀g,aq.aj=some g->ai g=none:=by
 intro g W;rcases h.aj with e|⟨b0,e,ae⟩;exact ag g (by rw[<-e];exact W);rw[e] at W;cases W;cases J:ai g with
 |none=>rfl|some z=>rw[k _ _ J] at ae;cases ae
def ami(hw:Sub u w)(z:Obj):Step u [] w (u.ins w.heap.size z) [] (w.drew.alloc z)/\u w.heap.size=none:=
 ⟨(Step.RW hw (zO w.drawn)).trans (Step.BN (w:=w.drew) hw z),hw.none (cA _)⟩
def azp(hw:Sub u w){cur:cw ap}(W:u g=some (.cells cur e (0,0)))(cs:cw ap):
  Step u [] w (u.ins g (.cells cs e (0,0))) [] (w.setRow g cs):=by
 have NG:=hw _ _ W
 have ag:(w.setRow g cs).heap.size=w.heap.size:=by simp[World.setRow]
 refine⟨λb z h=>?_,rfl,rfl,rfl,cA _,by rw[ag];exact cA _,λb _ ab _=>?_,λb _ ab=>?_,[],by simp,by simp⟩
 unfold H.ins at h
 split at h
 rename_i nT;subst nT;cases h;exact setRow_heap w b cur cs e (0,0) NG
 rename_i nT;rw[setRow_other w g b cs nT];exact hw b z h
 have:b≠g:=λh=>by rw[h,W] at ab;cases ab
 exact setRow_other w g b cs this
 have:b≠g:=λh=>by rw[h,W] at ab;cases ab
 rw[H.bq u _ this];exact ab
def br.world(hw:Sub u w)(h:br u s size xs){p:bc}(ad:s.a=some p):∀j v,xs[j]?=some v->w.cell? (p.add j)=some v:=by intro j v e;rcases h.at' with h|⟨q,aN,I⟩;subst h;simp at e;rw[ad] at aN;cases aN;exact hw.cell (I j v e)
def aqE(Y:cw ap){acf cap:N}(aC:Y.size=size)(h:acf<=cap)(J:xs.length=acf*size):
  (xs.toArray++wu Y (cap-acf)).size=cap*size:=by
 simp only[acN,wv,size_zeroCells,aC,J,<-Ea]
 congr 1
 omega
def adw{fw:dJ}(aT:kH P t=some (e,size,bytes,zs)){x:U}
  (ag:br u s size xs) (J:br u x size e0) (Gv:s.c<s.n+x.n) (iE:s=⟨none,0,0⟩∨s.a≠none) (DM:x.a≠none) (hm:s.n+x.n<=9223372036854775807) (ab:(s.n+x.n)*bytes<=140737488355328)
  (au:∀g c cur,u g=none->Own (u.ins g (.cells cur e (0,0))) e size ⟨some ⟨g,0,none⟩,s.n+x.n,c⟩ (xs++e0)->K ⟨some ⟨g,0,none⟩,s.n+x.n,c⟩ (u.ins g (.cells cur e (0,0)))):
  dd P (ey #[t,t] fw #[.slice s.a s.n s.c,.slice x.a x.n x.c]) [.one .slice] u K:=by
 obtain⟨ht,i,Y,hi,aC,qB,y3,Bz,_⟩:=vv aT
 subst qB
 subst y3
 refine .one (c:=.slice) λw hw=>?_
 obtain⟨q,aN⟩:=e9.1 DM
 have aiB:=J.world hw aN
 have hlen:(xs++e0).length=(s.n+x.n)*i.size:=by rw[ez,ag.len,J.len,Ea]
 have fin:∀mL (z:cw ap),(ey #[t,t] fw #[.slice s.a s.n s.c,.slice x.a x.n x.c]).run P w=.ok (.slice (some ⟨w.heap.size,0,none⟩) (s.n+x.n) (grownCap w (s.n+x.n) mL e)) (w.drew.alloc (.cells z e))->
   z=((xs++e0).toArray++wu Y.cells (grownCap w (s.n+x.n) mL e-(s.n+x.n)))->
   ∃ane w' u',(ey #[t,t] fw #[.slice s.a s.n s.c,.slice x.a x.n x.c]).run P w=.ok (aL.slice.enc ane) w'/\K ane u'/\Step u [] w u' [] w':=by
  intro mL z O aa
  have gG:=grownCap_ge w (s.n+x.n) mL e
  have cH:=grownCap_le_maxLen w (s.n+x.n) mL e (by rw[Hd];exact hm)
  rw[Hd] at cH
  have dW:=ami hw (.cells z e)
  refine⟨⟨some ⟨w.heap.size,0,none⟩,s.n+x.n,grownCap w (s.n+x.n) mL e⟩,_,_,O,au _ _ _ dW.2 ⟨hlen,.inr ⟨w.heap.size,z,rfl,H.bh _ _ _,gG,cH,?_,?_⟩⟩,dW.1⟩
  rw[aa];exact aqE Y.cells Bz gG hlen
  rw[aa]
  simp only[Array.toList_append]
  rw[<-hlen]
  exact UG
 rcases iE with h0|h0
 subst h0
 have avp:xs=[]:=by simpa using ag.len
 subst avp
 simp only[k5] at*
 have O:=run_append_nil (P:=P) w t fw e i Y ht hi aC q x.n x.c e0 J.len aiB (by omega) (by omega) (by omega)
 rw[aN]
 rw[aN] at fin
 exact fin 0 _ O (by simp)
 obtain⟨p,ad⟩:=e9.1 h0
 have O:=run_append_grow (P:=P) w t fw e i Y ht hi aC p s.n s.c xs ag.len (ag.world hw ad) q x.n x.c e0 J.len aiB Gv (by omega) (growslice_fits Gv ab)
 rw[ad,aN]
 rw[ad,aN] at fin
 exact fin s.c _ O (by simp)
def adv{fw:dJ}(aT:kH P t=some (e,size,bytes,zs))(cI:0<size){x:U}
  (aa:Own u e size s xs) (J:br u x size e0) (h1:∀y∈e0,y.oneCell'=ak) (hm:s.n+x.n<=9223372036854775807) (ab:(s.n+x.n)*bytes<=140737488355328)
  (au:∀aq u',Own u' e size aq (xs++e0)->aq.n=s.n+x.n->L2 u u' s aq->(aq=⟨none,0,0⟩↔s=⟨none,0,0⟩/\x.n=0)->K aq u'):
  dd P (ey #[t,t] fw #[.slice s.a s.n s.c,.slice x.a x.n x.c]) [.one .slice] u K:=by
 obtain⟨ht,i,Y,hi,aC,qB,y3,Bz,_⟩:=vv aT
 have atS:s.n<=s.c:=aa.cE.cap
 by_cases DK:x.n=0
 have aa5:e0=[]:=by simpa[DK] using J.len
 subst aa5
 refine .Hk (c:=.slice) s (λw hw=>?_) (au s u (by simpa using aa) (by omega) ⟨λ_ _ h _=>h,.inl rfl⟩ (by simp[DK]))
 have ar:∀(y:bc),(loadCells y 0).run P w=.ok #[] w:=λy=>by simpa using run_loadCells_list (P:=P) w y [] (by simp)
 rw[DK]
 cases uC:s.a<;>cases DL:x.a<;>simp[ey,iz ht,sizeOf,typeInfo,hi,Builtin.lenOf,Builtin.firstCells,atS,aL.enc,uC,ar,storeCells]
 have DM:x.a≠none:=by intro h;rcases J.at' with bQ|⟨p,ad,_⟩;have:=J.len;rw[bQ] at this;simp only[mi] at this;rcases UJ.1 this.symm with h|h<;>omega;rw[h] at ad;cases ad
 by_cases Gv:s.n+x.n<=s.c
 rcases aa.is with h0|⟨g,cur,aE,W,ae,I,ag,uF⟩
 exfalso;subst h0;simp only[k5] at Gv;omega
 obtain⟨q,aN⟩:=e9.1 DM
 refine .one (c:=.slice) λw hw=>?_
 have Y8:s.n*i.size+e0.length<=cur.size:=by rw[J.len,ag,qB,<-Ea];exact ts _ Gv
 have O:=run_append_room (P:=P) w t fw e i ht hi g s.n s.c cur (hw _ _ W) q x.n x.c e0 (by rw[qB];exact J.len) (J.world hw aN) h1 Gv Y8
 rw[aE,aN,O]
 refine⟨⟨some ⟨g,0,none⟩,s.n+x.n,s.c⟩,_,_,rfl,au _ _ ⟨by rw[ez,aa.len,J.len,Ea],.inr ⟨g,_,rfl,H.bh _ _ _,Gv,I,?_,?_⟩⟩ rfl
  ⟨λb z e ab=>?_,.inl (by simp[U.aj,aE])⟩ ⟨λh=>by simp at h,λh=>aW h.2 DK⟩,azp hw W _⟩
 simp only[wv,ez,gZ,oH,rL]
 omega
 rw[qB,uF]
 have:(xs++e0).length=(s.n+x.n)*size:=by rw[ez,aa.len,J.len,Ea]
 simp only[<-this]
 exact UG
 rw[H.bq u _ (λh=>ab (by simp[U.aj,aE,h]))];exact e
 have iE:s=⟨none,0,0⟩∨s.a≠none:=by rcases aa.is with h|⟨g,cur,aE,_⟩;exact .inl h;exact .inr (by rw[aE];simp)
 refine adw aT aa.cE J (by omega) iE DM hm ab λg c cur W pR=>au _ _ pR rfl ⟨λb z e _=>?_,.inr ⟨g,rfl,W⟩⟩ ⟨λh=>by simp at h,λh=>aW h.2 DK⟩
 rw[H.bq u _ (λh=>by rw[h,W] at e;cases e)]
 exact e
def kG(P:dY)(t n:N)(c7:cw (N×ap)):ay (dJ×M ap):=
 match kH P t with
 |some (e,size,_,zs)=>match wm (n*size) 16777216,wm 1 size,
   Instr.fill (λi=>some (i*size,size)) ((Array.range (n*size)).map (zs.toArray[· %zs.toArray.size]!)) c7.toList with
  |true,ak,some cells=>some (e,cells.toList)
  |_,_,_=>none
 |none=>none
def mo{t n e:N}{c7:cw (N×ap)}{cells:M ap}(h:kG P t n c7=some (e,cells))
  (au:∀g,u g=none->K ⟨some ⟨g,0,none⟩,n,n⟩ (u.ins g (.cells cells.toArray e (0,0)))):dd P (dL t n c7) [.one .slice] u K:=by
 unfold kG at h
 split at h
 rename_i gv size bytes zs aT
 obtain⟨ht,i,Y,hi,aC,qB,y3,Bz,xT⟩:=vv aT
 subst qB
 split at h
 rename_i cs hle pa Z
 cases h
 have hle:=Hx hle
 have pa:=Hx pa
 refine .one (c:=.slice) λw hw=>?_
 refine⟨⟨some ⟨w.heap.size,0,none⟩,n,n⟩,w.alloc (.cells cs e (0,0)),_,?_,au w.heap.size (hw.none (cA _)),by simpa using Step.BN hw (.cells cs e (0,0))⟩
 have abc:zs.toArray=Y.cells:=by rw[<-xT]
 rw[abc] at Z
 have ae:¬(16777216<n*i.size):=by omega
 by_cases eX:n=0
 subst eX
 simp only[Lb,Array.range_zero',Array.map_empty] at Z
 simp[dL,iz ht,sizeOf,typeInfo,hi,Array.range_zero',Z,newRow,aL.enc]
 have ad:¬(n*i.size=0):=by intro h;rcases UJ.1 h with h|h<;>omega
 simp[dL,iz ht,sizeOf,typeInfo,hi,ae,ad,zeroValue,aC,Z,newRow,aL.enc]
 cases h
 cases h
def Qx(aT:kH P t=some (e,size,bytes,zs)){l c:o}(h0:0<=l)(atu:l<=c)(ab:(bytes:o)*c<=281474976710656)(Sk:c<=9223372036854775807)
  {u:H} {K:U->H->Prop}
  (au:∀g,u g=none->K ⟨some ⟨g,0,none⟩,l.toNat,c.toNat⟩ (u.ins g (.cells (ny zs.toArray (c.toNat*size)) e (0,0)))):
  dd P (to t (.int .i64 l) (.int .i64 c)) [.one .slice] u K:=by
 obtain⟨ht,i,Y,hi,aC,qB,y3,Bz,xT⟩:=vv aT
 refine .one (c:=.slice) λw hw=>?_
 have O:=run_make (P:=P) w t e i Y ht hi aC .i64 .i64 l c h0 atu (by rw[y3];exact ab) Sk
 have abc:zs.toArray=Y.cells:=by rw[<-xT]
 rw[qB,<-abc] at O
 exact⟨⟨some ⟨w.heap.size,0,none⟩,l.toNat,c.toNat⟩,_,_,O,au _ (hw.none (cA _)),Step.BN hw _⟩
def aym(aT:kH P t=some (e,size,bytes,zs))(w:b7):P.underlying t=some (.slice (P.elem t))/\(sizeOf (P.elem t)).run P w=.ok size w:=by
 obtain⟨ht,i,Y,hi,aC,qB,y3,Bz,xT⟩:=vv aT;have he:P.elem t=e:=by simp[Program.elem,ht]
 rw[he];exact⟨ht,by simp[sizeOf,typeInfo,hi,qB]⟩
def U.part(s:U)(l h m size:N):U:=⟨if m=l then s.a else s.a.map (·.add (l*size)),h-l,m-l⟩
def oM(aT:kH P t=some (e,size,bytes,zs)){bH hi Pv:ay ap}{l h m:N}
  (zc:bH=none/\l=0∨bH=some (.int .i64 l)) (F3:hi=none/\h=s.n∨hi=some (.int .i64 h)) (zd:Pv=none/\m=s.c∨Pv=some (.int .i64 m)/\hi≠none)
  (h1:l<=h) (h2:h<=m) (h3:m<=s.c) (a7:s.n<=s.c) (au:K (s.part l h m size) u):
  dd P (h6 t (.slice s.a s.n s.c) bH hi Pv) [.one .slice] u K:=by
 refine .Hk (c:=.slice) (s.part l h m size) (λw _=>?_) au
 obtain⟨ht,ag⟩:=aym aT w
 rw[run_sliceAt_slice (w:=w) (h:=ht)]
 rcases zc with⟨rfl,rfl⟩|rfl<;>rcases F3 with⟨rfl,rfl⟩|rfl<;>rcases zd with⟨rfl,rfl⟩|⟨rfl,hm⟩
 rw[run_slice_all (w:=w) (ht:=ht),ag];rfl
 exact aW rfl hm
 rw[run_slice_h (w:=w) (ht:=ht) (h0:=by omega) (h2:=by omega),ag];simp[jL,sliced,U.part,aL.enc]
 rw[run_slice_hm (w:=w) (ht:=ht) (h0:=by omega) (h2:=by omega) (h3:=by omega),ag];simp[jL,sliced,U.part,aL.enc]
 rw[run_slice_l (w:=w) (ht:=ht) (h0:=by omega) (h1:=by omega),ag];simp[jL,sliced,U.part,aL.enc]
 exact aW rfl hm
 rw[run_slice_lh (w:=w) (ht:=ht) (h0:=by omega) (h1:=by omega) (h2:=by omega),ag];simp[jL,sliced,U.part,aL.enc]
 rw[run_slice_lhm (w:=w) (ht:=ht) (h0:=by omega) (h1:=by omega) (h2:=by omega) (h3:=by omega),ag];simp[jL,sliced,U.part,aL.enc]
def Addr.Az(a:bc)(i j:N):(a.add i).add j=a.add (i+j):=Addr.add_add a i j
def br.part(ag:br u s size xs){l h m:N}(h1:l<=h)(h2:h<=s.n)(h3:h<=m)(a7:m<=s.c):
  br u (s.part l h m size) size ((xs.drop (l*size)).take ((h-l)*size)):=by
 have ar:=ag.len
 have hle:h*size<=s.n*size:=ts _ h2
 have Ds:l*size<=h*size:=ts _ h1
 have gJ:(h-l)*size=h*size-l*size:=Nat.sub_mul _ _ _
 refine⟨?_,?_,?_,?_⟩
 simp only[gZ,oH,U.part];omega
 simp only[U.part];omega
 simp only[U.part];have:=ag.max;omega
 rcases ag.at' with h0|⟨p,ad,I⟩
 subst h0;exact .inl (by simp)
 by_cases pP:m=l
 refine .inl ?_
 have:h=l:=by omega
 simp[this]
 refine .inr ⟨p.add (l*size),by simp[U.part,pP,ad],λi v e=>?_⟩
 rw[Addr.Az]
 refine I _ _ ?_
 rw[K3] at e
 split at e
 simpa[uX] using e
 cases e
section
variable {α:Type} {enc:α->M ap} {k:N}
def nQ(hk:∀x,(enc x).length=k)(xs:M α):(xs.flatMap enc).length=xs.length*k:=by
 induction xs with
 |nil=>simp|cons x xs aM=>rw[gy,ez,aM,hk,hX,zP];omega
def Jc(hk:∀x,(enc x).length=k):∀(xs:M α) (i j:N),j<k->(xs.flatMap enc)[i*k+j]?=(xs[i]?).bind λx=>(enc x)[j]?:=by
 intro xs;induction xs with
 |nil=>intro i j _;simp
 |cons x xs aM=>
  intro i j aP;rw[gy];cases i with
  |zero=>rw[Lb,k5,qJ (by rw[hk];exact aP)];simp|succ i=>
   rw[K2 (by rw[hk,zP];omega),hk];have:(i+1)*k+j-k=i*k+j:=by rw[zP];omega
   rw[this,aM i j aP];simp
def aqq(hk:∀x,(enc x).length=k):∀(xs:M α) (i:N) (y:α),i<xs.length->
  (xs.set i y).flatMap enc=(xs.flatMap enc).take (i*k)++enc y++(xs.flatMap enc).drop (i*k+k):=by
 intro xs
 induction xs with
 |nil=>intro i y h;simp at h
 |cons x xs aM=>
  intro i y h;cases i with
  |zero=>rw[Lb,k5,P2,gy,gy,UK,nz,acK (by rw[hk];exact cA _)];have:(enc x).drop k=[]:=sl (by rw[hk];exact cA _);rw[this,nz]|succ i=>
   rw[K6,gy,gy,aM i y (by simpa using h)];have h1:(i+1)*k=(enc x).length+i*k:=by rw[hk,zP];omega
   have h3:∀r:M ap,(enc x++r).take ((enc x).length+i*k)=enc x++r.take (i*k):=λr=>by rw[acO,hR (by omega),Nat.add_sub_cancel_left]
   have a7:∀r:M ap,(enc x++r).drop ((enc x).length+(i*k+k))=r.drop (i*k+k):=λr=>by rw[List.drop_append,sl (by omega),nz,Nat.add_sub_cancel_left]
   rw[h1,Nat.add_assoc,h3,a7];simp only[n5]
def yW(hk:∀x,(enc x).length=k)(xs:M α)(n:N):(xs.flatMap enc).take (n*k)=(xs.take n).flatMap enc:=by
 induction xs generalizing n with
 |nil=>simp|cons x xs aM=>
  cases n with
  |zero=>simp|succ n=>
   rw[gy,BV,gy,acO,hR (by rw[hk,zP];omega),hk];have:(n+1)*k-k=n*k:=by rw[zP];omega
   rw[this,aM]
def XM(hk:∀x,(enc x).length=k)(xs:M α)(n:N):(xs.flatMap enc).drop (n*k)=(xs.drop n).flatMap enc:=by
 induction xs generalizing n with
 |nil=>simp|cons x xs aM=>
  cases n with
  |zero=>simp|succ n=>
   rw[gy,UI,List.drop_append,sl (by rw[hk,zP];omega),nz,hk];have:(n+1)*k-k=n*k:=by rw[zP];omega
   rw[this,aM]
def gW{xs:M α}(hk:∀x,(enc x).length=k)(rj:0<k)(h:br u s k (xs.flatMap enc)):s.n=xs.length:=by have:=h.len;rw[nQ hk] at this;exact(Nat.eq_of_mul_eq_mul_right rj this).symm
def br.elem{xs:M α}(hk:∀x,(enc x).length=k)(rj:0<k)(h:br u s k (xs.flatMap enc)){i:N}{x:α}(hi:xs[i]?=some x):
  ∃p,s.a=some p/\∀j v,(enc x)[j]?=some v->u.cell? ((p.add (i*k)).add j)=some v:=by
 have ar:i<xs.length:=(jM.1 hi).1
 have h0:i*k+0<(xs.flatMap enc).length:=by
  rw[nQ hk]
  calc i*k+0<i*k+k:=by omega
   _=(i+1)*k:=by rw[zP]
   _<=xs.length*k:=ts _ ar
 obtain⟨p,ad,I⟩:=h.get h0
 refine⟨p,ad,λj v aA=>?_⟩
 rw[Addr.Az]
 refine I _ _ ?_
 have aP:j<k:=by rw[<-hk x];exact(jM.1 aA).1
 rw[Jc hk xs i j aP,hi]
 exact aA
structure aJ(ai u:H)(e k:N)(s:U)(xs:M ap):Prop where
 own:Own u e k s xs
 le:ai.le u
 fresh:∀g,s.aj=some g->ai g=none
def aJ.nil(h:ai.le u)(e k:N):aJ ai u e k ⟨none,0,0⟩ []:=⟨.nil u e k,h,λg W=>by simp[U.aj] at W⟩
def aJ.mono{e:N}(h:aJ ai u e k s xs)(hu:u.le u'):aJ ai u' e k s xs:=
 ⟨h.own.le λ_ _ _ ab=>hu _ _ ab,h.le.trans hu,h.fresh⟩
def aJ.weaken{aU:H}{e:N}(h:aJ aU u e k s xs)(h0:ai.le aU):aJ ai u e k s xs:=
 ⟨h.own,h0.trans h.le,λg W=>by
  cases J:ai g with
  |none=>rfl|some z=>have:=h.fresh g W;rw[h0 _ _ J] at this;cases this⟩
def gO(u u':H)(s:U):Prop:=∀b z,u b=some z->s.aj≠some b->u' b=some z
def gO.refl(u:H)(s:U):gO u u s:=λ_ _ h _=>h
def aJ.else{gv dT:N}{t:U}(h:aJ ai u gv dT t xs)(he:gO u u' s)(ag:∀g,s.aj=some g->ai g=none)(al:∀g,s.aj=some g->t.aj≠some g):aJ ai u' gv dT t xs:=
 ⟨h.own.le λb z ab hu=>he b z hu λW=>al b W ab,λb z ab=>he b z (h.le b z ab) λW=>(by rw[ag b W] at ab;cases ab),h.fresh⟩
def aJ.make(h:ai.le u)(W:u g=none){cells:cw ap}{e n:N}(ae:n<=9223372036854775807)(ag:cells.size=n*k):
  aJ ai (u.ins g (.cells cells e (0,0))) e k ⟨some ⟨g,0,none⟩,n,n⟩ cells.toList:=by
 refine⟨⟨by simp[ag],.inr ⟨g,cells,rfl,H.bh _ _ _,cA _,ae,ag,?_⟩⟩,h.trans (H.b1 _ W),λb0 ca=>?_⟩
 rw[hR (by simp[ag])]
 simp[U.aj] at ca
 subst ca
 cases J:ai g with
 |none=>rfl
 |some z=>rw[h _ _ J] at W;cases W
def LR(c:cw ap)(z:N)(vs:M ap)(h:z+vs.length<=c.size):(wr c z vs).toList=c.toList.take z++vs++c.toList.drop (z+vs.length):=by have:=am3 vs c.toList z (by simpa using h);rw[Array.toArray_toList] at this;rw[this];rfl
def aJ.store{e:N}{xs:M α}(hk:∀x,(enc x).length=k)(h:aJ ai u e k s (xs.flatMap enc)){i:N}(rj:0<k)(hi:i<xs.length){y:α}(h1:∀v∈enc y,v.oneCell'=ak)
  {p:bc} (ad:s.a=some p) {f:H->Prop} (Z:∀u',aJ ai u' e k s ((xs.set i y).flatMap enc)->gO u u' s->(∀b,u b=none->u' b=none)->f u'):H.aO u (p.add (i*k)) (enc y) f:=by
 rcases h.own.is with h0|⟨g,cur,aE,W,ae,I,ag,ht⟩
 rw[h0] at ad;cases ad
 .rw[aE] at ad;cases ad;have ar1:(⟨g,0,none⟩:bc).add (i*k)=⟨g,i*k,none⟩:=by rw[jh,k5]
  have dw:=gW hk rj h.own.cE;have hle:i*k+k<=s.n*k:=by
   calc i*k+k=(i+1)*k:=by rw[zP]
    _<=s.n*k:=ts _ (by omega)
  have xA:s.n*k<=s.c*k:=ts _ ae;rw[ar1];have cI:i*k+(enc y).length<=cur.size:=by rw[hk,ag];omega
  refine⟨cur,e,W,rfl,cI,h1,Z _ ?_ ?_ ?_⟩;refine⟨⟨by rw[nQ hk,qK,dw],.inr ⟨g,_,aE,H.bh _ _ _,ae,I,?_,?_⟩⟩,?_,h.fresh⟩;rw[<-rL,LR _ _ _ cI];simp only[ez,gZ,oH,rL];omega;rw[LR _ _ _ cI,aqq hk xs i y hi,<-ht,hk];have gn:(cur.toList.take (i*k)++enc y).length=i*k+k:=by simp only[ez,gZ,rL,hk];omega
  rw[acO,hR (by omega),gn];congr 1;congr 1;rw[Hz,Eb (by omega)];rw[<-List.drop_take];exact λb z ab=>by
    have:b≠g:=λnT=>by have:=h.fresh g (by simp[U.aj,aE]);rw[nT,this] at ab;cases ab
    rw[H.bq _ _ this];exact h.le b z ab
  intro b z ab al;rw[H.bq _ _ (λnT=>al (by simp[U.aj,aE,nT]))];exact ab;intro b ab;rw[H.bq _ _ (λnT=>by rw[nT,W] at ab;cases ab)];exact ab
end
def dd.QH{m:Sem ap}{fZ:U->H->Prop}(h:dd P m [.one .slice] u K)(hk:∀s u',K s u'->fZ s u'):dd P m [.one .slice] u fZ:=by
 intro w hw;obtain⟨v,w',u',h1,⟨vs,h2,h3,a7⟩,bK⟩:=h w hw;refine⟨v,w',u',h1,⟨vs,h2,h3,?_⟩,bK⟩;cases h2 with
 |cons x O=>cases O;exact(aL.rR .slice x _).2 (hk _ _ ((aL.rR .slice x _).1 a7))
def Aa{c7:cw (N×ap)}(aT:kH P t=some (e,size,bytes,zs))(eM:kG P t 1 c7=some (e,e0))(cI:0<size)
  (ah:e0.length=size) (h1:∀y∈e0,y.oneCell'=ak) {ai u:H} {s:U} {xs:M ap} (h:aJ ai u e size s xs) (hm:s.n<9223372036854775807) (ab:(s.n+1)*bytes<=140737488355328) {K:U->H->Prop}
  (au:∀aq u',aJ ai u' e size aq (xs++e0)->aq.n=s.n+1->gO u u' s->(∀g,aq.aj=some g->s.aj=some g∨u g=none)->aq.a≠none->K aq u'):
  dd P (dL t 1 c7) [.one .slice] u λs1 aU=>u.le aU/\dd P (ey #[t,t] t #[.slice s.a s.n s.c,.slice s1.a s1.n s1.c]) [.one .slice] aU K:=by
 refine mo eM λg W=>⟨H.b1 _ W,?_⟩
 have J:br (u.ins g (.cells e0.toArray e (0,0))) ⟨some ⟨g,0,none⟩,1,1⟩ size e0:=by have:=(aJ.make (k:=size) (H.le.refl u) W (cells:=e0.toArray) (e:=e) (n:=1) (by omega) (by simp[ah])).own.cE;simpa using this
 have bQ:=h.mono (H.b1 (u:=u) (b:=g) (.cells e0.toArray e (0,0)) W)
 refine adv aT cI bQ.own J h1 (by simp only;omega) (by simpa using ab) λaq u' aa ae mb A9=>au aq u' ⟨aa,mb.le bQ.le h.fresh,λb0 ca=>mb.out bQ.le h.fresh b0 ca⟩ (by simpa using ae) ?_ ?_ ?_
 intro b z ab al
 exact mb.rest b z (H.b1 _ W _ _ ab) al
 intro b0 ca
 rcases mb.aj with ab|⟨g2,ab,ft⟩
 exact .inl (by rw[<-ab];exact ca)
 rw[ab] at ca;cases ca
 refine .inr ?_
 cases J:u b0 with
 |none=>rfl
 |some z=>rw[H.b1 _ W _ _ J] at ft;cases ft
 intro atZ
 rcases aa.is with h0|⟨g2,_,aE,_⟩
 have:=(A9.1 h0).2
 simp at this
 rw[atZ] at aE;cases aE
def oc{c7:cw (N×ap)}(aT:kH P t=some (e,size,bytes,zs))(eM:kG P t 1 c7=some (e,e0))(cI:0<size)
  (ah:e0.length=size) (h1:∀y∈e0,y.oneCell'=ak) {ai u:H} {s:U} {xs:M ap} (h:aJ ai u e size s xs) (hm:s.n<9223372036854775807) (ab:(s.n+1)*bytes<=140737488355328) {K:U->H->Prop}
  (au:∀aq u',aJ ai u' e size aq (xs++e0)->aq.n=s.n+1->gO u u' s->(∀g,aq.aj=some g->s.aj=some g∨u g=none)->aq.a≠none->K aq u'):
  dd P (dL t 1 c7) [.one .slice] u λs1 aU=>dd P (ey #[t,t] t #[.slice s.a s.n s.c,.slice s1.a s1.n s1.c]) [.one .slice] aU K:=by
 exact dd.QH (Aa aT eM cI ah h1 h hm ab au) λ_ _ h=>h.2
def tR(u:H)(b:N)(l:M o):Prop:=∃es clock,u b=some (.map es clock)/\es.toList.map (λe=>(e.key,e.val))=l.map λx=>(cY .i64 x,mP ak)
def tR.mono(h:tR u b l)(hu:u.le u'):tR u' b l:=by obtain⟨es,c,h1,h2⟩:=h;exact⟨es,c,hu _ _ h1,h2⟩
def aqm(x:o):∀(es:M zQ) (l:M o) (i:N),es.map (λe=>(e.key,e.val))=l.map (λx=>(cY .i64 x,mP ak))->
  (x∈l->∃j,HA (.int .i64) (.int .i64 x) es i=some (some (j,.bool ak)))/\(x∉l->HA (.int .i64) (.int .i64 x) es i=some none):=by
 intro es
 induction es with
 |nil=>
  intro l i h;have:l=[]:=by simpa using h.symm
  subst this;exact⟨λh=>(by cases h),λ_=>rfl⟩
 |cons e es aM=>
  intro l i h;cases l with
  |nil=>simp at h|cons y l=>
   simp only[gm,uZ,HB] at h;obtain⟨⟨hk,aA⟩,O⟩:=h;obtain⟨i1,i2⟩:=aM l (i+1) O;unfold HA;rw[hk,aA];simp only[Instr.sameNow,qI];by_cases hv:x=y;subst hv;simp;have ab:(x==y)=ax:=by simpa using hv
   rw[ab];refine⟨λhm=>?_,λhm=>?_⟩;rcases cJ.1 hm with h|h;exact aW h hv;exact i1 h;exact i2 λh=>hm (gi _ h)
def adz{K:ay N->H->Prop}(au:∀b,u b=none->tR (u.ins b (.map #[] 0)) b []->K (some b) (u.ins b (.map #[] 0))):
  dd P (rI t none) [.one .map] u K:=
 .one (c:=.map) λw hw=>⟨some w.heap.size,_,_,Go.RowKit.run_makeMap t w,au _ (hw.none (cA _)) ⟨#[],0,H.bh _ _ _,rfl⟩,Step.BN hw _⟩
structure ER(P:dY)(t k e:dJ):Prop where
 fw:P.underlying t=some (.map k e)
 key:P.underlying k=some (.int .i64)
 zero:∀w,(zeroValue e).run P w=.ok (.bool ax) w
def ER.find(T:ER P t k e){es:cw zQ}(h:es.toList.map (λe=>(e.key,e.val))=l.map λx=>(cY .i64 x,mP ak))(x:o)(w:b7):
  (x∈l->∃j,(B2 k (.int .i64 x) es.toList).run P w=.ok (some (j,.bool ak)) w)/\(x∉l->(B2 k (.int .i64 x) es.toList).run P w=.ok none w):=by
 obtain⟨h1,h2⟩:=aqm x es.toList l 0 h
 constructor
 intro J
 obtain⟨j,aP⟩:=h1 J
 exact⟨j,by simp[B2,eW,iz T.key,jL,aP]⟩
 intro J
 simp[B2,eW,iz T.key,jL,h2 J]
def ER.check(T:ER P t k e)(b:aK)(x:o)(w:b7):(HC b 10000 k (.int .i64 x)).run P w=.ok () w:=by show(HC b (9999+1) k (.int .i64 x)).run P w=.ok () w;unfold HC;simp[eW,iz T.key,jL]
def ady(T:ER P t k e)(h:tR u b l){x:o}{K:aK->H->Prop}(au:K (decide (x∈l)) u):
  dd P (gY t (.map (some b)) (.int .i64 x) ax) [.one .bool] u K:=by
 obtain⟨es,c,ab,ar⟩:=h
 refine .Hk (c:=.bool) (decide (x∈l)) (λw hw=>?_) au
 have W:=zR (P:=P) (hw _ _ ab)
 have Z:=T.find ar x w
 have I:=T.check es.isEmpty x w
 by_cases J:x∈l
 obtain⟨j,aP⟩:=Z.1 J
 simp[gY,eW,iz T.fw,W,I,aP,jL,J,aL.enc]
 have aP:=Z.2 J
 simp[gY,eW,iz T.fw,W,I,aP,jL,J,aL.enc,T.zero]
def step_block(hw:Sub u w){z:Obj}(W:u g=some z)(b5:Obj):Step u [] w (u.ins g b5) [] {w with heap:=w.heap.setIfInBounds g b5}:=by
 have bD:=hw.lt W;refine⟨λb x h=>?_,rfl,rfl,rfl,cA _,by simp,λb _ ab _=>?_,λb _ ab=>?_,[],by simp,by simp⟩;unfold H.ins at h;split at h;rename_i nT;subst nT;cases h;simp[bD];rename_i nT;show(w.heap.setIfInBounds g b5)[b]?=some x;rw[HD (dz nT)];exact hw b x h;have:g≠b:=λh=>by rw[<-h,W] at ab;cases ab
 show(w.heap.setIfInBounds g b5)[b]?=w.heap[b]?;rw[HD this];have:b≠g:=λh=>by rw[h,W] at ab;cases ab
 rw[H.bq u _ this];exact ab
def Vw(T:ER P t k e)(h:tR u b l){x:o}(J:x∉l){K:H->Prop}
  (au:∀u',tR u' b (l++ [x])->(∀g z,u g=some z->g≠b->u' g=some z)->(∀g,u g=none->u' g=none)->K u'):
  dd P (unit (lx t (.map (some b)) (.int .i64 x) (.bool ak))) [] u K:=by
 obtain⟨es,c,ab,ar⟩:=h
 intro w hw
 have W:=zR (P:=P) (hw _ _ ab)
 have aP:=(T.find ar x w).2 J
 have I:=T.check ax x w
 have ky:=Lc (P:=P) (.map (es.push {key:=.int .i64 x,val:=.bool ak,born:=c}) (c+1)) (hw _ _ ab)
 refine⟨_,_,u.ins b (.map (es.push {key:=.int .i64 x,val:=.bool ak,born:=c}) (c+1)),?_,⟨[],.nil,rfl,au _ ⟨_,_,H.bh _ _ _,?_⟩ ?_ ?_⟩,step_block hw ab _⟩
 simp[unit,lx,eW,iz T.fw,W,I,aP,jL,ky]
 rfl
 simp[ar]
 intro g z rf al;rw[H.bq _ _ al];exact rf
 intro g rf;rw[H.bq _ _ (λh=>by rw[h,ab] at rf;cases rf)];exact rf
end
def aG.VV(a0:U)(ci cy hT oo oq Au Av Aw Ax Ay:o)(a3 a4:U)(a5:o)(u:H)(K:aK->Q)(h:gL aK (λa b=>C.yq a0 (a4.n:o) ci cy hT oo oq b λc d e=>C.yq a0 (a4.n:o) Au Av Aw Ax Ay e λf g i=>gL aK (λ_ j=>C.vg c a3 j λk=>C.vg f a3 k λl=>C.rX c a4 a5 1000000 l λm _ _ n z=>C.rX f a4 a5 1000000 z λp _ _ q r=>C.im r λs t=>dR s (aV (n=q) (C.wP m p t λv w=>dR v (C.rW c w λx y=>C.rW f y λY bW=>K (decide (x=Y)) bW) (K ax w)) (K ax t)) (K ax t)) λj=>cK (d=0) (C.im i λk l=>K k l) (cK (g=0) (C.im i λk l=>K k l) (aV (c=none) (C.im i λk l=>K k l) (aV (f=none) (C.im i λk l=>K k l) (j a i))))) λa=>C.vf a0 a3 u λb c=>dR b (K ak c) (aV ((32768:o)<(a4.n:o)) (K ak c) (a ax c))):C.VV a0 ci cy hT oo oq Au Av Aw Ax Ay a3 a4 a5 u K:=aY [] Tryz.func3 [a6 3 [(12,.bool)],a6 31 [(12,.bool)]] h
def aG.VY(a0:U)(ci cy hT oo oq:o)(a2 a3:U)(a4:o)(u:H)(K:aK->Q)(h:gL aK (λa b=>C.yq a0 (a3.n:o) ci cy hT oo oq b λc d e=>gL aK (λ_ f=>C.vg c a2 f λg=>C.rX c a3 a4 1000000 g λi j _ k l=>C.AA c l λm n=>C.xd m a3 a4 n λz p q=>C.im q λr s=>dR r (aV (k=p) (C.wP i z s λt v=>dR t ((C.rW c v λw x=>K (decide ((j.n:o)<=w)) x)/\C.rW c v λw x=>K (decide ((j.n:o)<=w)) x) ((K ax v/\K ax v)/\K ax v)) ((K ax s/\K ax s)/\K ax s)) ((K ax s/\K ax s)/\K ax s)) λf=>cK (d=0) (C.im e λg i=>K g i) (aV (c=none) (C.im e λg i=>K g i) (f a e))) λa=>C.vf a0 a2 u λb c=>dR b (K ak c) (aV ((32768:o)<(a3.n:o)) (K ak c) (a ax c))):C.VY a0 ci cy hT oo oq a2 a3 a4 u K:=aY [] Tryz.func5 [a6 3 [(10,.bool)],a6 15 [(10,.bool)]] h
def aG.VW(a0:U)(ci cy hT oo oq:o)(a2 a3:U)(a4:o)(u:H)(K:aK->Q)(h:gL aK (λa b=>C.yq a0 (a3.n:o) ci cy hT oo oq b λc d e=>C.yq bm (a3.n:o) ci cy hT oo oq e λf g i=>gL aK (λ_ j=>bo ((a0.n:o)-1)/\gB o ((a0.n:o)-1) j λk l m=>aV ((0:o)<=l) (bB a0 l λn=>bn m (a8 n l 2) λz=>bu m ((a8 n l 2).add 1) λp=>C.vp f z p m λ_ _ q=>bo (l-1)/\k (l-1) q) (C.vg c a2 m λn=>C.vg f a2 n λz=>C.rX c a3 a4 1000000 z λp _ _ q r=>C.rX f a3 a4 1000000 r λs _ _ t v=>C.im v λw x=>dR w (aV (q=t) (C.wP p s x λy Y=>dR y (C.AA c Y λbW bZ=>C.AA f bZ λcg cP=>C.Ip bW cg cP λcj cQ=>K cj cQ) (K ax Y)) (K ax x)) (K ax x))) λj=>cK (d=0) (C.im i λk l=>K k l) (cK (g=0) (C.im i λk l=>K k l) (aV (c=none) (C.im i λk l=>K k l) (aV (f=none) (C.im i λk l=>K k l) (j a i))))) λa=>C.vf a0 a2 u λb c=>dR b (K ak c) (aV ((32768:o)<(a3.n:o)) (K ak c) (a ax c))):C.VW a0 ci cy hT oo oq a2 a3 a4 u K:=aY [] Tryz.func6 [a6 3 [(10,.bool)],a6 31 [(10,.bool)],a6 506 [(15,b2)]] h
def aG.VX(a0:U)(ci cy hT oo oq:o)(a2:U)(a3 a4 EX:o)(Mc:U)(u:H)(K:aK->Q)(h:gL aK (λa b=>C.yq a0 (a2.n:o) ci cy hT oo oq b λc d e=>gL aK (λf g=>ix aK o f 0 g λi j k l=>aV (k<(a0.n:o)) (bB a0 k λm=>bn l (a8 m k 2) λn=>C.E0 c n l λz p q=>cK (z=ak) (K ax q) (cK (p=0) (K ax q) (bo (k+1)/\i j (k+1) q))) (C.rX c a2 a3 a4 l λm n z p q=>gL aK (λr s=>C.vp c EX Mc s λt v w=>C.rX c a2 a3 1000000 w λx _ _ y Y=>gL aK (λ_ bW=>C.im bW λbZ cg=>dR bZ (dR t (C.rW c cg λcP cj=>aV (cP=1) (aV ((x.n:o)=1) ((bB x 0 λcQ=>(bn cj (cQ.add 0) λc0=>K (decide (c0=EX)) cj)/\bn cj (cQ.add 0) λc0=>K (decide (c0=EX)) cj)/\bB x 0 λcQ=>bn cj (cQ.add 0) λc0=>K (decide (c0=EX)) cj) ((K ax cj/\K ax cj)/\K ax cj)) ((K ax cj/\K ax cj)/\K ax cj)) ((K ax cg/\K ax cg)/\K ax cg)) ((K ax cg/\K ax cg)/\K ax cg)) λbW=>cK (p=0) (C.im Y λbZ cg=>K bZ cg) (cK (v=0) (C.im Y λbZ cg=>K bZ cg) (cK (y=0) (C.im Y λbZ cg=>K bZ cg) (bW r Y)))) λr=>C.rW c q λs t=>cK (s=0) (K ax t) (C.AA c t λv w=>aV ((0:o)<(v.n:o)) (K ax w) (bo ((m.n:o)+(n.n:o))/\bo ((m.n:o)+(n.n:o)+(z.n:o))/\aV ((0:o)<(m.n:o)+(n.n:o)+(z.n:o)) (K ax w) (r j w))))) λf=>cK (d=0) (C.im e λg i=>K g i) (aV (c=none) (C.im e λg i=>K g i) (f a e))) λa=>C.vf a0 bm u λb c=>dR b (K ak c) (aV ((32768:o)<(a2.n:o)) (K ak c) (aV ((32768:o)<(Mc.n:o)) (K ak c) (a ax c)))):C.VX a0 ci cy hT oo oq a2 a3 a4 EX Mc u K:=aY [] Tryz.func7 [a6 3 [(12,.bool)],a6 15 [(12,.bool)],a6 250 [(12,.bool),(15,b2)],a6 127 [(12,.bool)],a6 1023 [(12,.bool)]] h
def aG.vf(a0 ac:U)(u:H)(K:aK->Q)(h:gL aK (λ_ a=>ix o o 0 0 a λb c d e=>vZ (λf=>bB ac d λg=>bB ac d λi=>bu f (((a8 g d 7).add 4).add 1) λj=>bo (c+(j.n:o))/\bu f ((a8 i d 7).add 6) λk=>bo (c+(j.n:o)+(k.n:o))/\bo (d+1)/\b (c+(j.n:o)+(k.n:o)) (d+1) f) λf=>aV (d<(ac.n:o)) (aV (c<=32768) (f e) (K (decide ((32768:o)<c)) e)) (K (decide ((32768:o)<c)) e)) λa=>aV ((2000:o)<(ac.n:o)) (K ak u) (aV ((2000:o)<(a0.n:o)) (K ak u) (C.QP a0 32768 u λb c=>aV ((32768:o)<b) (K ak c) (a ax c)))):C.vf a0 ac u K:=aY [] Tryz.func11 [a6 3 [(4,.bool)],a6 122 [(5,b2),(6,b2)],a6 244 []] h
def aG.yq(a0:U)(ac Au Av Aw Ax Ay:o)(u:H)(K:bV->o->Q)(h:C.E1 Au Av Aw Ax ac a0 Ay u λa b c=>K a b c):C.yq a0 ac Au Av Aw Ax Ay u K:=aY [] Tryz.func12 [] h
def aG.im(u:H)(K:aK->Q)(h:C.Iq u λa b=>C.yq a 2 3 2 0 0 7 b λc d e=>gL aK (λ_ f=>bj (dL 30 2 #[(0,ao 0),(1,ao 0)]) bl f λ(g:U)i=>C.rX c g 2 4 i λj _ _ k l=>bj (dL 30 2 #[(0,ao 9),(1,ao 9)]) bl l λ(m:U)n=>C.vp c 3 m n λz p q=>C.E0 c 1 q λr s t=>bj (dL 30 2 #[(0,ao 1),(1,ao 1)]) bl t λ(v:U)w=>C.vp c 0 v w λ_ x y=>gL aK (λY bW=>dR Y (aV ((j.n:o)=2) (bB j 0 λbZ=>bn bW (bZ.add 0) λcg=>ef bW ((bZ.add 0).add 1) λcP=>ef bW ((bZ.add 0).add 2) λcj=>aV (cg=1/\cP=0/\cj=0) (bB j 1 λcQ=>bn bW (cQ.add 3) λc0=>ef bW ((cQ.add 3).add 1) λdF=>ef bW ((cQ.add 3).add 2) λcL=>K (decide (c0=3/\dF=0/\cL=1)) bW) (K ax bW)) (K ax bW)) (K ax bW)) λY=>aV (k=0) (aV (p=0) (aV (s=0) (aV (x=50) (cK (z=ak) (dR r (C.rW c y λbW bZ=>Y (decide (bW=3)) bZ) (Y ax y)) (Y ax y)) (Y ax y)) (Y ax y)) (Y ax y)) (Y ax y)) λf=>aV (c=none) (K ax e) (cK (d=0) (K ax e) (C.rW c e λg i=>cK (g=4) (K ax i) (f ax i)))):C.im u K:=aY [] Tryz.func13 [a6 7 [(0,.bool)],a6 255 [(11,.bool)]] h
def aG.vg(a0:bV)(ac:U)(u:H)(K:Q)(h:gB o 0 u λa b c=>aV (b<(ac.n:o)) (bB ac b λd=>bn c (a8 d b 7) λe=>aV (e=1) (bB ac b λf=>bn c ((a8 f b 7).add 4) λg=>bu c (((a8 f b 7).add 4).add 1) λi=>C.vp a0 g i c λ_ _ j=>bo (b+1)/\a (b+1) j) (aV (e=2) (bB ac b λf=>bn c ((a8 f b 7).add 1) λg=>C.E0 a0 g c λ_ _ i=>bo (b+1)/\a (b+1) i) (bo (b+1)/\a (b+1) c))) (K c)):C.vg a0 ac u K:=aY [] Tryz.func14 [a6 6 [(4,b2)]] h
def aG.rX(a0:bV)(ac:U)(a2 a3:o)(u:H)(K:U->U->U->o->Q)(h:aV (a0=none) (K bm bm bm 3 u) (bk a0 λa=>pV u (a.add 4) λb=>qn b "Search" #[vs ac,ao a2,ao a3] [bg.agg [aL.slice,aL.slice,aL.slice],bg.one (aL.int cq)] u λ(c:U)(d:U)(e:U)(f:o)g=>K c d e f g)):C.rX a0 ac a2 a3 u K:=aY [] Tryz.func15 [] h
def aG.wP(a0 ac:U)(u:H)(K:aK->Q)(h:cK ((a0.n:o)=(ac.n:o)) (K ax u) (ix aK o ax 0 u λa b c d=>aV (c<(a0.n:o)) (bB a0 c λe=>bB ac c λf=>bn d (a8 e c 3) λg=>ef d ((a8 e c 3).add 1) λi=>ef d ((a8 e c 3).add 2) λj=>bn d (a8 f c 3) λk=>ef d ((a8 f c 3).add 1) λl=>ef d ((a8 f c 3).add 2) λm=>cK (g=k/\i=l/\j=m) (K ax d) (bo (c+1)/\a b (c+1) d)) (K ak d))):C.wP a0 ac u K:=aY [] Tryz.func16 [a6 58 [(4,.bool),(5,b2)]] h
def aG.rW(a0:bV)(u:H)(K:o->Q)(h:aV (a0=none) (K 0 u) (bk a0 λa=>pV u (a.add 4) λb=>qn b "Len" #[] cv u λ(c:o)d=>K c d)):C.rW a0 u K:=aY [] Tryz.func17 [] h
def aG.xd(a0 ac:U)(a2:o)(u:H)(K:U->o->Q)(h:C.AM a0 ac u λa b=>cK (a=0) (K bm a b) (zk U o (λc d e=>C.sy a2 e λf g i=>eg i λj=>H.aO (i.ins j (bC #[aZ none] 90 (0,0))) (am j) [aZ f] λk=>cK (g=0) (K bm g k) (C.R7 a0 ac k λl m=>nf aH (Lv (Tryz.f22.body.getD Code.skip)) 41 [(34,l),(33,vs ac),(32,vs a0),(30,mP ax),(29,ao g),(10,ao g),(9,aZ (some (am j))),(28,ao g),(27,aZ f),(24,Value.tuple #[aZ f,ao g]),(26,Value.tuple #[aZ f,ao g]),(25,ao a2),(6,vs c),(7,ao d),(16,mP ax),(15,ao a),(8,ao a),(14,ao a),(13,vs ac),(12,vs a0),(0,vs a0),(1,vs ac),(2,ao a2)] m λ(n:N)(z:H)=>eD z (am j) λp=>C.qV p z λq r=>r n=some (yc (some []))/\K q 0 (r.ins n (yc none)))) λc=>aV (a2<1) (K bm 1 b) (aV ((64:o)<a2) (K bm 1 b) (c bm 0 b)))):C.xd a0 ac a2 u K:=aY [9] Tryz.func22 [a6 7 [(6,.slice),(7,b2)]] h
def aG.AA(a0:bV)(u:H)(K:U->Q)(h:aV (a0=none) (K bm u) (bk a0 λa=>pV u (a.add 4) λb=>qn b "Rows" #[] bl u λ(c:U)d=>K c d)):C.AA a0 u K:=aY [] Tryz.func23 [] h
def aG.vp(a0:bV)(ci:o)(cy:U)(u:H)(K:aK->o->Q)(h:aV (a0=none) (K ax 3 u) (bk a0 λa=>pV u (a.add 4) λb=>qn b "Put" #[c3 #[ao ci,vs cy]] [bg.one aL.bool,bg.one (aL.int cq)] u λ(c:aK)(d:o)e=>K c d e)):C.vp a0 ci cy u K:=aY [] Tryz.func24 [] h
def aG.Ip(a0 ac:U)(u:H)(K:aK->Q)(h:cK ((a0.n:o)=(ac.n:o)) (K ax u) (ix aK o ax 0 u λa b c d=>aV (c<(a0.n:o)) (gL aK (λe f=>bo (c+1)/\a e (c+1) f) λe=>bB a0 c λf=>bB ac c λg=>bn d (a8 f c 2) λi=>bn d (a8 g c 2) λj=>cK (i=j) (K ax d) (bB a0 c λk=>bB ac c λl=>bu d ((a8 k c 2).add 1) λm=>bu d ((a8 l c 2).add 1) λn=>C.Io m n d λz p=>cK (z=ak) (K ax p) (e b p))) (K ak d))):C.Ip a0 ac u K:=aY [] Tryz.func25 [a6 58 [(4,.bool),(5,b2)],a6 233 [(4,.bool)]] h
def aG.E0(a0:bV)(ac:o)(u:H)(K:aK->o->Q)(h:aV (a0=none) (K ax 3 u) (bk a0 λa=>pV u (a.add 4) λb=>qn b "Delete" #[ao ac] [bg.one aL.bool,bg.one (aL.int cq)] u λ(c:aK)(d:o)e=>K c d e)):C.E0 a0 ac u K:=aY [] Tryz.func26 [] h
def aG.QP(a0:U)(ac:o)(u:H)(K:o->Q)(h:ix o o (a0.n:o) 0 u λa b c d=>vZ (λe=>bB a0 c λf=>bu e ((a8 f c 2).add 1) λg=>bo (b+(g.n:o))/\bo (c+1)/\a (b+(g.n:o)) (c+1) e) λe=>aV (c<(a0.n:o)) (aV (b<=ac) (e d) (K b d)) (K b d)):C.QP a0 ac u K:=aY [] Tryz.func33 [a6 58 [(5,b2),(6,b2)],a6 116 []] h
def aG.E1(cc cp eU ii ac:o)(a2:U)(a3:o)(u:H)(K:bV->o->Q)(h:C.Ft cc cp eU ii u λa b=>cK (a=0) (K none a b) (C.qt a2 ac b λc d=>cK (c=0) (K none c d) (zk (ay bc) o (λ_ _ e=>eg e λf=>gL o (λg i=>cK (g=0) (K none g i) (K (some (am f)) 0 i)) λg=>aV (cc=2) (C.Pd a2 ac cp (e.ins f (bC #[ao cc,ao cp,ao eU,ao ii,P3] 81 (0,0))) λi j k=>H.aO k ((am f).add 4) [mj 113 (aZ i)] λl=>g j l) (aV (cc=3) (C.Q9 a2 ac cp a3 (e.ins f (bC #[ao cc,ao cp,ao eU,ao ii,P3] 81 (0,0))) λi j k=>H.aO k ((am f).add 4) [mj 116 (aZ i)] λl=>g j l) (aV (cc=4) (C.O5 a2 ac cp 5 a3 (e.ins f (bC #[ao cc,ao cp,ao eU,ao ii,P3] 81 (0,0))) λi j k=>H.aO k ((am f).add 4) [mj 119 (aZ i)] λl=>g j l) (aV (cc=6) (C.Bd a2 ac cp a3 (e.ins f (bC #[ao cc,ao cp,ao eU,ao ii,P3] 81 (0,0))) λi j k=>H.aO k ((am f).add 4) [mj 122 (aZ i)] λl=>g j l) (bj (rI 125 none) [bg.one aL.map] (e.ins f (bC #[ao cc,ao cp,ao eU,ao ii,P3] 81 (0,0))) λ(i:ay N)j=>eg j λk=>H.aO (j.ins k (bC #[ao 0,dP none] 127 (0,0))) (am k) [ao ac,dP i] λl=>H.aO l ((am f).add 4) [mj 128 (aZ (some (am k)))] λm=>vZ (λn=>gB o 0 n λz p q=>aV (p<(a2.n:o)) (bB a2 p λr=>bn q (a8 r p 2) λs=>bu q ((a8 r p 2).add 1) λt=>pV q ((am f).add 4) λv=>qn v "Put" #[c3 #[ao s,vs t]] [bg.one aL.bool,bg.one (aL.int cq)] q λ(_:aK)(_:o)w=>bo (p+1)/\z (p+1) w) (g 0 q)) λn=>aV (cc=5) (bn m (am k) λz=>fe m ((am k).add 1) λp=>bj (rI 125 none) [bg.one aL.map] m λ(q:ay N)r=>eg r λs=>C.kV a2 (r.ins s (bC #[ao z,dP p,aZ none,dP q] 132 (0,0))) λt v=>ix U o bm 0 v λw x y Y=>aV (y<(t.n:o)) (bB t y λbW=>bn Y (a8 bW y 2) λ_=>bu Y ((a8 bW y 2).add 1) λbZ=>bj (dL 133 1 #[(0,vs bZ)]) bl Y λ(cg:U)cP=>bj (ey #[133,133] 133 #[vs x,vs cg]) bl cP λ(cj:U)cQ=>bo (y+1)/\w cj (y+1) cQ) (aV (ii<=(x.n:o)) (C.Hr x ac eU ii 5 a3 Y λbW _ bZ=>H.aO bZ ((am s).add 2) [aZ bW] λcg=>H.aO cg ((am f).add 4) [mj 129 (aZ (some (am s)))] λcP=>n cP) (H.aO Y ((am f).add 4) [mj 129 (aZ (some (am s)))] λbW=>n bW))) (n m)))))) λe=>aV (cc=5) (eU≠0/\cK (ps ac eU=0) (K none 100 d) (e none 0 d)) (e none 0 d)))):C.E1 cc cp eU ii ac a2 a3 u K:=aY [44,14,60] Tryz.func34 [a6 15 [(8,.ptr),(9,b2)],a6 127 [(13,b2)],a6 1043455 [],a6 8347646 [(100,b2)],a6 267124570 [(16,.slice),(64,b2)]] h
def aG.Iq(u:H)(K:U->Q)(h:bj (dL 30 2 #[(0,ao 0),(1,ao 0)]) bl u λ(a:U)b=>bj (dL 30 2 #[(0,ao 3),(1,ao 4)]) bl b λ(c:U)d=>bj (dL 30 2 #[(0,ao 0),(1,ao 1)]) bl d λ(e:U)f=>bj (dL 30 2 #[(0,ao 30),(1,ao 40)]) bl f λ(g:U)i=>bj (dL 22 4 #[(0,c3 #[ao 1,vs a]),(1,c3 #[ao 2,vs c]),(2,c3 #[ao 3,vs e]),(3,c3 #[ao 4,vs g])]) bl i λ(j:U)k=>K j k):C.Iq u K:=aY [] Tryz.func35 [] h
def aG.AM(a0 ac:U)(u:H)(K:o->Q)(h:C.iA ac (ac.n:o) u λa b=>cK (a=0) (K a b) (C.qt a0 (ac.n:o) b λc d=>K c d)):C.AM a0 ac u K:=aY [] Tryz.func43 [] h
def aG.sy(a0:o)(u:H)(K:bV->o->Q)(h:aV (a0<1) (K none 1 u) (aV ((64:o)<a0) (K none 1 u) (eg u λa=>K (some (am a)) 0 (u.ins a (bC #[ao a0,vs bm] 143 (0,0)))))):C.sy a0 u K:=aY [12] Tryz.func44 [] h
def aG.R7(a0 ac:U)(u:H)(K:ap->Q)(h:eg u λa=>∀b:N,u.ins a (bC #[vs a0] 22 (0,0)) b=none->K (jv (kD 75) #[] #[aZ (some (am a)),aZ (some (am b))]) ((u.ins a (bC #[vs a0] 22 (0,0))).ins b (bC #[vs ac] 30 (0,0)))):C.R7 a0 ac u K:=aY [2,3] Tryz.func45 [] h
def aG.qW(a0:bV)(ci cy hT:o)(u:H)(K:aK->Q)(h:aV (a0=none) (K ax u) (bk a0 λa=>bk a0 λb=>bu u (a.add 1) λc=>bn u b λd=>aV ((c.n:o)<d) (bk a0 λe=>C.r7 (mj 146 (aZ (some (e.add 1)))) (mj 68 (c3 #[ao ci,bG cy,bG hT])) u λf=>K ak f) (bk a0 λe=>bu u (e.add 1) λf=>bB f 0 λg=>bn u (g.add 0) λi=>ef u ((g.add 0).add 1) λj=>ef u ((g.add 0).add 2) λk=>C.qX ci cy hT i j k u λl m=>cK (l=ak) (K ax m) (bk a0 λn=>bu m (n.add 1) λz=>bB z 0 λp=>H.aO m (p.add 0) [ao ci,bG cy,bG hT] λq=>bk a0 λr=>C.FQ (mj 146 (aZ (some (r.add 1)))) 0 q λs=>K ak s)))):C.qW a0 ci cy hT u K:=aY [] Tryz.func46 [] h
def aG.qV(a0:bV)(u:H)(K:U->Q)(h:aV (a0=none) (K bm u) (bk a0 λa=>bu u (a.add 1) λb=>C.H8 b u λc d=>C.LD c (jv (kD 82) #[] #[]) d λe=>K c e)):C.qV a0 u K:=aY [] Tryz.func47 [] h
def aG.Io(a0 ac:U)(u:H)(K:aK->Q)(h:cK ((a0.n:o)=(ac.n:o)) (K ax u) (ix aK o ax 0 u λa b c d=>aV (c<(a0.n:o)) (bB a0 c λe=>bB ac c λf=>bn d (a8 e c 1) λg=>bn d (a8 f c 1) λi=>cK (g=i) (K ax d) (bo (c+1)/\a b (c+1) d)) (K ak d))):C.Io a0 ac u K:=aY [] Tryz.func48 [a6 58 [(4,.bool),(5,b2)]] h
def aG.IB(cc:o)(cp eU:U)(ii nh:o)(oT:U)(ac:o)(u:H)(K:o->Q)(h:C.yw ac u λa b=>cK (a=ak) (K 30 b) (G8 o o o 0 0 0 b λc d e f g=>aV (f<(oT.n:o)) (bB oT f λi=>bn g (a8 i f 1) λj=>aV (j<=e) (K 32 g) (aV ((1000000000:o)<j) (K 32 g) (bo (f+1)/\c d j (f+1) g))) (gL o (λi j=>bj (dL 133 2 #[(0,vs cp),(1,vs eU)]) bl j λ(k:U)l=>ix o o i 0 l λm n z p=>aV (z<(k.n:o)) (bB k z λq=>bu p (a8 q z 1) λr=>C.iA r ac p λs t=>cK (s=0) (K s t) (bo (z+1)/\m n (z+1) t)) (ix o o n 0 p λq r s t=>aV (s<(cp.n:o)) (bB cp s λv=>bn t (a8 v s 1) λw=>bB eU s λx=>bn t (a8 x s 1) λy=>aV (y<w) (K 32 t) (bo (s+1)/\q r (s+1) t)) (K 0 t))) λi=>gL aK (λj k=>dR j (K 0 k) (gL aK (λl m=>dR l (C.iA cp ac m λn z=>K n z) (cK (cc=2) (K 32 m) (cK (ii=0/\nh=0) (K 32 m) (i d m)))) λl=>aV (cc=3) (l (decide ((eU.n:o)=0)) k) (l ax k))) λj=>aV (cc=1) (bo ((cp.n:o)+(eU.n:o))/\aV ((cp.n:o)+(eU.n:o)=0) (j (decide (ii=0/\nh=0)) g) (j ax g)) (j ax g)))):C.IB cc cp eU ii nh oT ac u K:=aY [] Tryz.func52 [a6 122 [(4,b2),(5,b2),(19,b2)],a6 63 [(4,b2)],a6 1018 [(4,b2),(81,b2)],a6 2042 [(4,b2),(95,b2)],a6 252 [(36,.bool)],a6 1011 [(53,.bool)]] h
def aG.vi(cc:o)(cp eU:U)(ii nh:o)(oT ac:U)(u:H)(K:o->o->o->Q)(h:C.IC cc cp eU ii nh oT ac u λa b=>cK (a=0) (K 0 0 a b) (zk o o (λc d e=>K c d 0 e) λc=>aV (cc=2) (G8 o o o 0 0 0 b λd e f g i=>aV (e<(ac.n:o)) (bB ac e λj=>bn i (a8 j e 1) λk=>bB cp e λl=>bn i (a8 l e 1) λm=>bB eU e λn=>bn i (a8 n e 1) λz=>C.Cu f g k (ite (z<ite (m>k) m k) z (ite (m>k) m k)) i λp q r=>bo (e+1)/\d (e+1) p q r) (c f g i)) (aV (cc=3) (C.yx cp ac b λd e f=>H.le b f/\C.Cz d e f λg i=>H.le b i/\C.Cz ii nh i λj k=>gL o (λl m=>aV (l<g) (C.tJ (cz bR (g-l)) (cz bR (g-l)) m λn z p=>c n z p) (c 0 0 m)) λl=>aV (j<g) (C.tJ j j k λm n z=>H.le k z/\cK (m=ii/\n=nh) (l (cz bR (j+1)) z) (l j z)) (H.le k k/\l j k)) (c 0 0 b)))):C.vi cc cp eU ii nh oT ac u K:=aY [] Tryz.func55 [(15,⟨[],[(2,[.int .u64,.int .u64])]⟩),(1962,⟨[(25,b2)],[(2,[.int .u64,.int .u64])]⟩),a6 3933 [(11,.int .u64)]] h
def aG.mr(cc cp ci cy:o)(u:H)(K:o->Q)(h:aV (cc=ci/\cp=cy) (K 0 u) (aV (cc<ci) (K (-1) u) (aV (cc=ci) (aV (cp<cy) (K (-1) u) (K 1 u)) (K 1 u)))):C.mr cc cp ci cy u K:=aY [] Tryz.func56 [] h
def aG.Ft(cc cp eU ii:o)(u:H)(K:o->Q)(h:eg u λa=>H.aO (u.ins a (bC #[ao 0,ao 0,ao 0] 164 (0,0))) (am a) [ao 64,ao 0,ao 0] λb=>gL o (λc d=>ix o o c 0 d λe f g i=>aV (g<3) (bj (Instr.index 164 (c3 #[ao cp,ao eU,ao ii]) (ao g)) cv i λ(j:o)k=>2<=3/\((0:o)<=g/\g<(3:o))/\bn k (a8 (am a) g 1) λl=>aV (l<j) (K 121 k) (2<=3/\((0:o)<=g/\g<(3:o))/\bn k (a8 (am a) g 1) λm=>aV (j<ite (m<1) m 1) (K 121 k) (bo (g+1)/\e f (g+1) k))) (K 0 i)) λc=>aV (cc=1) (2<=3/\((0:o)<=0/\(0:o)<(3:o))/\H.aO b ((am a).add 0) [ao 0] λd=>c 0 d) (gL aK (λd e=>dR d (c 0 e) (aV (cc=4) (2<=3/\((0:o)<=0/\(0:o)<(3:o))/\H.aO e ((am a).add 0) [ao 64] λf=>c 0 f) (aV (cc=5) (H.aO e (am a) [ao 64,ao 8,ao 16] λf=>c 0 f) (aV (cc=6) (2<=3/\((0:o)<=0/\(0:o)<(3:o))/\H.aO e ((am a).add 0) [ao 16] λf=>c 0 f) (K 120 e))))) λd=>aV (cc=2) (d ak b) (d (decide (cc=3)) b))):C.Ft cc cp eU ii u K:=aY [3] Tryz.func57 [a6 7 [(2,b2)],a6 122 [(2,b2),(31,b2)],a6 235 [(12,.bool)]] h
def aG.qt(a0:U)(ac:o)(u:H)(K:o->Q)(h:gL o (λa b=>bj (rI 166 none) [bg.one aL.map] b λ(c:ay N)d=>ix o o a 0 d λe f g i=>aV (g<(a0.n:o)) (bB a0 g λj=>bn i (a8 j g 2) λk=>bu i ((a8 j g 2).add 1) λl=>gL o (λm n=>C.iA l ac n λz p=>cK (z=0) (K z p) (bj (unit (lx 166 (dP c) (ao k) (mP ak))) [] p λq=>bo (g+1)/\e m (g+1) q)) λm=>aV (k<1) (K 50 i) (aV ((1000000000:o)<k) (K 50 i) (bj (gY 166 (dP c) (ao k) ax) eM i λ(n:aK)z=>dR n (K 50 z) (m f z)))) (K 0 i)) λa=>aV (ac<1) (K 30 u) (aV ((64:o)<ac) (K 30 u) (aV ((512:o)<(a0.n:o)) (K 2 u) (a 0 u)))):C.qt a0 ac u K:=aY [] Tryz.func58 [a6 3 [(4,b2)],a6 122 [(4,b2),(23,b2)],a6 7833 [(4,b2)]] h
def aG.Pd(a0:U)(ac a2:o)(u:H)(K:bV->o->Q)(h:C.qt a0 ac u λa b=>cK (a=0) (K none a b) (zk (ay bc) o (λ_ _ c=>bj (rI 125 none) [bg.one aL.map] c λ(d:ay N)e=>eg e λf=>C.kV a0 (e.ins f (bC #[ao ac,ao a2,aZ none,dP d] 169 (0,0))) λg i=>gB o 0 i λj k l=>aV (k<(g.n:o)) (bB g k λm=>bn l (a8 m k 2) λn=>bu l ((a8 m k 2).add 1) λz=>fe l ((am f).add 3) λp=>bj (unit (lx 125 (dP p) (ao n) (vs z))) [] l λq=>bo (k+1)/\j (k+1) q) (C.DT (some (am f)) g l λm n=>H.aO n ((am f).add 2) [aZ m] λz=>K (some (am f)) 0 z)) λc=>aV (a2<1) (K none 1 b) (aV ((64:o)<a2) (K none 1 b) (c none 0 b)))):C.Pd a0 ac a2 u K:=aY [29] Tryz.func59 [a6 7 [(6,.ptr),(7,b2)],a6 506 [(34,b2)]] h
def aG.Q9(a0:U)(ac a2 a3:o)(u:H)(K:bV->o->Q)(h:C.qt a0 ac u λa b=>cK (a=0) (K none a b) (zk (ay bc) o (λ_ _ c=>C.Ef a3 c λd e=>bj (rI 125 none) [bg.one aL.map] e λ(f:ay N)g=>eg g λi=>C.kV a0 (g.ins i (bC #[ao ac,ao a2,aZ d,aZ none,dP f] 174 (0,0))) λj k=>gB o 0 k λl m n=>aV (m<(j.n:o)) (bB j m λz=>bn n (a8 z m 2) λp=>bu n ((a8 z m 2).add 1) λq=>fe n ((am i).add 4) λr=>bj (unit (lx 125 (dP r) (ao p) (vs q))) [] n λs=>bo (m+1)/\l (m+1) s) (C.EF (some (am i)) j n λz p=>H.aO p ((am i).add 3) [aZ z] λq=>K (some (am i)) 0 q)) λc=>aV (a2<1) (K none 1 b) (aV ((64:o)<a2) (K none 1 b) (c none 0 b)))):C.Q9 a0 ac a2 a3 u K:=aY [33] Tryz.func60 [a6 7 [(8,.ptr),(9,b2)],a6 506 [(38,b2)]] h
def aG.O5(a0:U)(ac a2 a3 a4:o)(u:H)(K:bV->o->Q)(h:C.qt a0 ac u λa b=>cK (a=0) (K none a b) (zk (ay bc) o (λc d e=>bj (rI 175 none) [bg.one aL.map] e λ(f:ay N)g=>eg g λi=>C.kV a0 (g.ins i (bC #[ao ac,vs bm,vs bm,dP f] 178 (0,0))) λj k=>ix U o bm 0 k λl m n z=>aV (n<(j.n:o)) (bB j n λp=>bn z (a8 p n 2) λ_=>bu z ((a8 p n 2).add 1) λq=>bj (dL 133 1 #[(0,vs q)]) bl z λ(r:U)s=>bj (ey #[133,133] 133 #[vs m,vs r]) bl s λ(t:U)v=>bo (n+1)/\l t (n+1) v) (bj (to 30 (ao ac) (ao ac)) bl z λ(p:U)q=>bj (dL 133 1 #[(0,vs p)]) bl q λ(r:U)s=>H.aO s ((am i).add 1) [vs r] λt=>zk (ay bc) o (λ_ _ v=>bu v ((am i).add 1) λw=>bj (to 176 (ao (w.n:o)) (ao (w.n:o))) bl v λ(x:U)y=>H.aO y ((am i).add 2) [vs x] λY=>gB o 0 Y λbW bZ cg=>aV (bZ<(j.n:o)) (bB j bZ λcP=>bn cg (a8 cP bZ 2) λcj=>bu cg ((a8 cP bZ 2).add 1) λcQ=>C.GS (some (am i)) cj cQ cg λc0=>bo (bZ+1)/\bW (bZ+1) c0) (K (some (am i)) 0 cg)) λv=>aV ((0:o)<(m.n:o)) (C.BD m (ite ((m.n:o)<a2) (m.n:o) a2) a3 a4 t λw x y=>cK (x=0) (K none x y) (H.aO y ((am i).add 1) [vs w] λY=>v c d Y)) (v c d t))) λc=>aV (a2<1) (K none 1 b) (aV ((64:o)<a2) (K none 1 b) (aV (a3<0) (K none 1 b) (aV ((20:o)<a3) (K none 1 b) (c none 0 b)))))):C.O5 a0 ac a2 a3 a4 u K:=aY [45] Tryz.func61 [a6 7 [(10,.ptr),(11,b2)],a6 1018 [(15,.slice),(50,b2)],a6 511 [(10,.ptr),(11,b2)],a6 16378 [(98,b2)]] h
def aG.Bd(a0:U)(ac a2 a3:o)(u:H)(K:bV->o->Q)(h:C.qt a0 ac u λa b=>cK (a=0) (K none a b) (zk (ay bc) o (λ_ _ c=>C.Ef a3 c λd e=>bj (rI 182 none) [bg.one aL.map] e λ(f:ay N)g=>eg g λi=>C.kV a0 (g.ins i (bC #[ao ac,ao a2,aZ d,dP f,ao 0] 184 (0,0))) λj k=>gB o 0 k λl m n=>aV (m<(j.n:o)) (bB j m λz=>bn n (a8 z m 2) λp=>bu n ((a8 z m 2).add 1) λq=>C.vP (some (am i)) p q n λr=>bo (m+1)/\l (m+1) r) (K (some (am i)) 0 n)) λc=>aV (a2<1) (K none 1 b) (aV ((16:o)<a2) (K none 1 b) (c none 0 b)))):C.Bd a0 ac a2 a3 u K:=aY [32] Tryz.func62 [a6 7 [(8,.ptr),(9,b2)],a6 250 [(36,b2)]] h
def aG.kV(a0:U)(u:H)(K:U->Q)(h:bj (to 22 (ao (a0.n:o)) (ao (a0.n:o))) bl u λ(a:U)b=>gB o 0 b λc d e=>aV (d<(a0.n:o)) (bB a0 d λf=>bn e (a8 f d 2) λg=>bu e ((a8 f d 2).add 1) λi=>C.iH i e λj k=>H.le e k/\bB a d λl=>H.aO k (a8 l d 2) [ao g,vs j] λm=>bo (d+1)/\c (d+1) m) (C.VC a (jv (kD 105) #[] #[]) e λf=>K a f)):C.kV a0 u K:=aY [] Tryz.func63 [a6 58 [(11,b2)]] h
def aG.Hr(a0:U)(ac a2 a3 a4 a5:o)(u:H)(K:bV->o->Q)(h:eg u λa=>∀b:N,u.ins a (bC #[vs a0] 133 (0,0)) b=none->∀c:N,(u.ins a (bC #[vs a0] 133 (0,0))).ins b (bC #[ao a2] 3 (0,0)) c=none->∀d:N,((u.ins a (bC #[vs a0] 133 (0,0))).ins b (bC #[ao a2] 3 (0,0))).ins c (bC #[ao a3] 3 (0,0)) d=none->∀e:N,(((u.ins a (bC #[vs a0] 133 (0,0))).ins b (bC #[ao a2] 3 (0,0))).ins c (bC #[ao a3] 3 (0,0))).ins d (bC #[ao a4] 3 (0,0)) e=none->gL aK (λf g=>dR f (K none 30 g) (gL aK (λi j=>dR i (K none 1 j) (bn j (am b) λk=>k≠0/\cK (ps ac k=0) (K none 100 j) (bu j (am a) λl=>aV ((512:o)<(l.n:o)) (K none 2 j) (bu j (am a) λm=>bn j (am c) λn=>aV ((m.n:o)<n) (K none 60 j) (bu j (am a) λz=>G8 (ay bc) o o none 0 0 j λp q r s t=>aV (s<(z.n:o)) (bB z s λv=>bu t (a8 v s 1) λw=>C.iA w ac t λx y=>cK (x=0) (K none x y) (bo (s+1)/\p q r (s+1) y)) (eg t λv=>bn (t.ins v (bC #[ao ac,vs bm] 191 (0,0))) (am b) λw=>gB o 0 (t.ins v (bC #[ao ac,vs bm] 191 (0,0))) λx y Y=>aV (y<w) (bu Y ((am v).add 1) λbW=>hY aH (jv (kD 106) #[] #[aZ (some (am a)),aZ (some (am b)),aZ (some (am c)),aZ (some (am d)),aZ (some (am e))]) #[ao y] bl Y λ(bZ:U)(cg:H)=>H.le Y cg/\bj (dL 189 1 #[(0,vs bZ)]) bl cg λ(cP:U)cj=>H.le Y cj/\bj (ey #[189,189] 189 #[vs bW,vs cP]) bl cj λ(cQ:U)c0=>H.aO c0 ((am v).add 1) [vs cQ] λdF=>bo (y+1)/\x (y+1) dF) (K (some (am v)) 0 Y))))))) λi=>bn g (am b) λj=>aV (j<1) (i ak g) (bn g (am b) λk=>aV ((8:o)<k) (i ak g) (bn g (am c) λl=>aV (l<1) (i ak g) (bn g (am c) λm=>aV ((16:o)<m) (i ak g) (bn g (am d) λn=>aV (n<0) (i ak g) (bn g (am d) λz=>i (decide ((20:o)<z)) g))))))) λf=>aV (ac<1) (f ak (((((u.ins a (bC #[vs a0] 133 (0,0))).ins b (bC #[ao a2] 3 (0,0))).ins c (bC #[ao a3] 3 (0,0))).ins d (bC #[ao a4] 3 (0,0))).ins e (bC #[bG a5] 26 (0,0)))) (f (decide ((64:o)<ac)) (((((u.ins a (bC #[vs a0] 133 (0,0))).ins b (bC #[ao a2] 3 (0,0))).ins c (bC #[ao a3] 3 (0,0))).ins d (bC #[ao a4] 3 (0,0))).ins e (bC #[bG a5] 26 (0,0))))):C.Hr a0 ac a2 a3 a4 a5 u K:=aY [6,8,9,10,11,80] Tryz.func64 [a6 12 [(20,.bool)],a6 51 [(27,.bool)],a6 58 [(12,.ptr),(13,b2),(66,b2)],a6 506 [(82,b2)]] h
def aG.iA(a0:U)(ac:o)(u:H)(K:o->Q)(h:gL o (λa b=>ix o o a 0 b λc d e f=>aV (e<(a0.n:o)) (bB a0 e λg=>bn f (a8 g e 1) λi=>aV (i<(-2147483647)) (K 31 f) (aV ((2147483647:o)<i) (K 31 f) (bo (e+1)/\c d (e+1) f))) (K 0 f)) λa=>C.yw ac u λb c=>cK (b=ak) (K 30 c) (cK ((a0.n:o)=ac) (K 30 c) (a 0 c))):C.iA a0 ac u K:=aY [] Tryz.func74 [a6 3 [(4,b2)],a6 58 [(4,b2),(18,b2)]] h
def aG.XN(a0:ap)(ac a2:bc)(u:H)(K:Q)(h:bu u ac λa=>gB o 0 u λb c d=>aV (c<(a.n:o)) (bB a c λe=>bn d (a8 e c 2) λf=>bu d ((a8 e c 2).add 1) λg=>bu d a2 λi=>C.lD g i d λj k _ l=>nM a0 #[c3 #[ao f,bG j,bG k]] eM l λ(m:aK)n=>cK (m=ak) (K n) (bo (c+1)/\b (c+1) n)) (K d)):C.XN a0 ac a2 u K:=ov 1 [] Tryz.func75 [a6 6 [(10,b2)]] h
def aG.lD(a0 ac:U)(u:H)(K:o->o->o->Q)(h:bj (dL 133 2 #[(0,vs a0),(1,vs ac)]) bl u λ(a:U)b=>BH o o o o 0 0 0 0 b λc d e f g i=>aV (e<(a.n:o)) (bB a e λj=>bu i (a8 j e 1) λk=>C.iA k (a0.n:o) i λl m=>cK (l=0) (K 0 0 l m) (bo (e+1)/\c d (e+1) f g m)) (C.yx a0 ac i λj k l=>K j k 0 l)):C.lD a0 ac u K:=aY [] Tryz.func76 [(26,⟨[(5,b2),(13,b2)],[(0,[.int .u64,.int .u64])]⟩)] h
def aG.r7(a0 ac:ap)(u:H)(K:Q)(h:qn a0 "Push" #[ac] [] u λa=>qn a0 "Len" #[] cv a λ(b:o)c=>bo (b-1)/\C.xr a0 (b-1) c λd=>K d):C.r7 a0 ac u K:=aY [] Tryz.func77 [] h
def aG.qX(cc cp eU ci cy hT:o)(u:H)(K:aK->Q)(h:C.Ey cc cp eU ci cy hT u λa b=>K (decide (a<0)) b):C.qX cc cp eU ci cy hT u K:=aY [] Tryz.func78 [] h
def aG.FQ(a0:ap)(ac:o)(u:H)(K:Q)(h:qn a0 "Len" #[] cv u λ(a:o)b=>C.xq a0 ac a b λc d=>cK (c=ak) (C.xr a0 ac d λe=>K e) (K d)):C.FQ a0 ac u K:=aY [] Tryz.func79 [] h
def aG.H8(a0:U)(u:H)(K:U->Q)(h:aV (a0.a=none) (K bm u) (bj (dL 38 0 #[]) bl u λ(a:U)b=>bj (ey #[38,38] 38 #[vs a,vs a0]) bl b λ(c:U)d=>K c d)):C.H8 a0 u K:=aY [] Tryz.func80 [] h
def aG.Ey(cc cp eU ci cy hT:o)(u:H)(K:o->Q)(h:C.mr cp eU cy hT u λa b=>H.le u b/\C.E6 cc ci b λc d=>bj (dL 30 2 #[(0,ao a),(1,ao c)]) bl d λ(e:U)f=>C.E7 e f λg i=>K g i):C.Ey cc cp eU ci cy hT u K:=aY [] Tryz.func82 [] h
def aG.yw(a0:o)(u:H)(K:aK->Q)(h:aV ((1:o)<=a0) (K (decide (a0<=64)) u) (K ax u)):C.yw a0 u K:=aY [] Tryz.func90 [] h
def aG.IC(cc:o)(cp eU:U)(ii nh:o)(oT ac:U)(u:H)(K:o->Q)(h:C.IB cc cp eU ii nh oT (ac.n:o) u λa b=>cK (a=0) (K a b) (C.iA ac (ac.n:o) b λc d=>K c d)):C.IC cc cp eU ii nh oT ac u K:=aY [] Tryz.func91 [] h
def aG.yx(a0 ac:U)(u:H)(K:o->o->Q)(h:G8 o o o 0 0 0 u λa b c d e=>aV (b<(a0.n:o)) (bB a0 b λf=>bB ac b λg=>bn e (a8 f b 1) λi=>bn e (a8 g b 1) λj=>C.Cu c d i j e λk l m=>bo (b+1)/\a (b+1) k l m) (K c d e)):C.yx a0 ac u K:=aY [] Tryz.func93 [(58,⟨[(9,b2)],[(1,[.int .u64,.int .u64])]⟩)] h
def aG.Cu(cc cp ac a2:o)(u:H)(K:o->o->Q)(h:bo (ite (a2>ac) a2 ac-ite (a2<ac) a2 ac)/\C.tJ (cz bR (ite (a2>ac) a2 ac-ite (a2<ac) a2 ac)) (cz bR (ite (a2>ac) a2 ac-ite (a2<ac) a2 ac)) u λa b c=>H.le u c/\C.Cy cc cp a b c λd e _ f=>K d e f):C.Cu cc cp ac a2 u K:=aY [] Tryz.func94 [] h
def aG.Cz(cc cp:o)(u:H)(K:o->Q)(h:ix o o 0 9223372036854775808 u λa b c d=>C.tJ (bits UL bR b c) (bits UL bR b c) d λe f g=>H.le d g/\C.mr e f cc cp g λi j=>aV (i<=0) (aV (c=1) (K (bits UL bR b c) j) ((0:o)<=1/\a (bits UL bR b c) (ew c (2^1)) j)) (aV (c=1) (K b j) ((0:o)<=1/\a b (ew c (2^1)) j))):C.Cz cc cp u K:=aY [] Tryz.func95 [a6 220 [(3,.int .u64),(4,.int .u64)]] h
def aG.tJ(a0 ac:o)(u:H)(K:o->o->Q)(h:C.E2 a0 ac u λa b c=>K a b c):C.tJ a0 ac u K:=aY [] Tryz.func96 [] h
def aG.DT(a0:bV)(ac:U)(u:H)(K:bV->Q)(h:eg u λa=>∀b:N,u.ins a (bC #[aZ a0] 113 (0,0)) b=none->H.aO ((u.ins a (bC #[aZ a0] 113 (0,0))).ins b (bC #[P4] 170 (0,0))) (am b) [jv (kD 122) #[] #[aZ (some (am a)),aZ (some (am b))]] λc=>pV c (am b) λd=>nM d #[vs ac] ee c λ(e:ay bc)f=>K e f):C.DT a0 ac u K:=aY [2,5] Tryz.func97 [] h
def aG.Ef(a0:o)(u:H)(K:bV->Q)(h:eg u λa=>K (some (am a)) (u.ins a (bC #[bG a0] 215 (0,0)))):C.Ef a0 u K:=aY [5] Tryz.func98 [] h
def aG.EF(a0:bV)(ac:U)(u:H)(K:bV->Q)(h:eg u λa=>∀b:N,u.ins a (bC #[aZ a0] 116 (0,0)) b=none->H.aO ((u.ins a (bC #[aZ a0] 116 (0,0))).ins b (bC #[P4] 170 (0,0))) (am b) [jv (kD 127) #[] #[aZ (some (am a)),aZ (some (am b))]] λc=>pV c (am b) λd=>nM d #[vs ac] ee c λ(e:ay bc)f=>K e f):C.EF a0 ac u K:=aY [2,5] Tryz.func99 [] h
def aG.BD(a0:U)(ac a2 a3:o)(u:H)(K:U->o->Q)(h:eg u λa=>∀b:N,u.ins a (bC #[vs a0] 133 (0,0)) b=none->gL aK (λc d=>dR c (K bm 1 d) (bu d (am a) λe=>aV ((512:o)<(e.n:o)) (K bm 2 d) (bu d (am a) λf=>bn d (am b) λg=>aV ((f.n:o)<g) (K bm 60 d) (bu d (am a) λi=>bB i 0 λj=>bu d (j.add 0) λk=>eg d λl=>H.aO (d.ins l (bC #[ao 0] 3 (0,0))) (am l) [ao (k.n:o)] λm=>bu m (am a) λn=>bn m (am l) λz=>C.zn n z m λp q=>cK (p=0) (K bm p q) (bu q (am a) λr=>C.Ef a3 q λs t=>H.le q t/\C.Qn s (r.n:o) t λv _ w=>bn w (am b) λx=>bj (to 133 (ao x) (ao x)) bl w λ(y:U)Y=>eg Y λbW=>H.aO (Y.ins bW (bC #[vs bm] 133 (0,0))) (am bW) [vs y] λbZ=>bu bZ (am bW) λcg=>gB o 0 bZ λcP cj cQ=>aV (cj<(cg.n:o)) (bB v cj λc0=>bu cQ (am bW) λdF=>bu cQ (am a) λcL=>bn cQ (a8 c0 cj 1) λdU=>bB cL dU λbT=>bu cQ (a8 bT dU 1) λa6=>C.iH a6 cQ λfq e6=>H.le cQ e6/\bB dF cj λgb=>H.aO e6 (a8 gb cj 1) [vs fq] λfL=>bo (cj+1)/\cP (cj+1) fL) (gB o 0 cQ λc0 dF cL=>aV (dF<a2) (nM (jv (kD 134) #[] #[aZ (some (am b)),aZ (some (am l)),aZ (some (am a)),aZ (some (am bW))]) #[] [] cL λdU=>bo (dF+1)/\c0 (dF+1) dU) (bu cL (am bW) λdU=>K dU 0 cL))))))) λc=>bn ((u.ins a (bC #[vs a0] 133 (0,0))).ins b (bC #[ao ac] 3 (0,0))) (am b) λd=>aV (d<1) (c ak ((u.ins a (bC #[vs a0] 133 (0,0))).ins b (bC #[ao ac] 3 (0,0)))) (bn ((u.ins a (bC #[vs a0] 133 (0,0))).ins b (bC #[ao ac] 3 (0,0))) (am b) λe=>aV ((64:o)<e) (c ak ((u.ins a (bC #[vs a0] 133 (0,0))).ins b (bC #[ao ac] 3 (0,0)))) (aV (a2<0) (c ak ((u.ins a (bC #[vs a0] 133 (0,0))).ins b (bC #[ao ac] 3 (0,0)))) (c (decide ((20:o)<a2)) ((u.ins a (bC #[vs a0] 133 (0,0))).ins b (bC #[ao ac] 3 (0,0))))))):C.BD a0 ac a2 a3 u K:=aY [4,5,10,14] Tryz.func100 [a6 12 [(17,.bool)],a6 1018 [(63,b2)],a6 4090 [(80,b2)]] h
def aG.GS(a0:bV)(ci:o)(cy:U)(u:H)(K:Q)(h:gL o (λa b=>vZ (λc=>∃d:H,H.le d c/\bk a0 λe=>fe c (e.add 3) λf=>bj (unit (lx 175 (dP f) (ao ci) (ao a))) [] c λg=>K g) λc=>∃d:H,H.le d b/\bk a0 λe=>bk a0 λf=>bu d (e.add 2) λg=>bu d (f.add 2) λi=>bB i a λj=>bu d (a8 j a 1) λk=>bj (dL 22 1 #[(0,c3 #[ao ci,vs cy])]) bl b λ(l:U)m=>H.le d m/\bj (ey #[22,22] 22 #[vs k,vs l]) bl m λ(n:U)z=>H.le d z/\bB g a λp=>H.aO z (a8 p a 1) [vs n] λq=>c q) λa=>∃b:H,H.le b u/\bk a0 λc=>bu b (c.add 1) λd=>(C.th d cy u λe _ _ _ f=>H.le b f/\a e f)/\H.le b u/\C.th d cy u λe _ _ _ f=>a e f):C.GS a0 ci cy u K:=Fw (C:={P:=aH,exp:=[],wrap:=ax,ik:=ik,ou:=[],oG:=[],part:=ak}) (args:=[(hy a0),(c3 #[(cY cq ci),(ec cy.a cy.n cy.c)])]) (nR _ _) Tryz.func101 (by kernel_rfl) [a6 3 [(4,b2)],a6 7 []] (by kernel_rfl) (by kernel_rfl) (p3 (by kernel_rfl) h)
def aG.vP(a0:bV)(ci:o)(cy:U)(u:H)(K:Q)(h:eg u λa=>eD (u.ins a (bC #[aZ a0] 122 (0,0))) (am a) λb=>bk b λc=>eD (u.ins a (bC #[aZ a0] 122 (0,0))) (c.add 2) λd=>C.HV d 30 (u.ins a (bC #[aZ a0] 122 (0,0))) λe _ f=>eg f λg=>lt (f.ins g (bC #[vs cy,vs bm,vs bm,vs bm,vs bm,vs bm,vs bm,vs bm,vs bm,vs bm,vs bm,vs bm,vs bm,vs bm,vs bm,vs bm,vs bm,vs bm,vs bm,vs bm,vs bm,vs bm,vs bm,vs bm,vs bm,vs bm,vs bm,vs bm,vs bm,vs bm,vs bm,vs bm,ao e] 230 (0,0))) λi=>eD i (am a) λj=>bk j λk=>bn i (k.add 4) λl=>aV (l=0) (eD i (am a) λm=>bk m λn=>fe i (n.add 3) λz=>bj (unit (lx 182 (dP z) (ao ci) (aZ (some (am g))))) [] i λp=>eD p (am a) λq=>bk q λr=>H.aO p (r.add 4) [ao ci] λs=>K s) (gL o (λm n=>gB o m n λz p q=>aV ((0:o)<=p) (eD q (am a) λr=>bk r λs=>bn q (s.add 1) λt=>C.sy t q λv _ w=>eg w λx=>H.aO (w.ins x (bC #[aZ none] 90 (0,0))) (am x) [aZ v] λy=>eg y λY=>H.aO (y.ins Y (bC #[ao 0] 3 (0,0))) (am Y) [ao 0] λbW=>eD bW (am a) λbZ=>eD bW (am a) λcg=>C.Bg cg cy p bW λcP cj=>H.le bW cj/\C.zf bZ cP cy p (jv (kD 141) #[] #[aZ (some (am x)),aZ (some (am Y)),aZ (some (am a))]) cj λcQ=>eD cQ (am x) λc0=>C.qV c0 cQ λdF cL=>gB o 0 cL λdU bT a6=>aV (bT<(dF.n:o)) (bB dF bT λfq=>bn a6 (a8 fq bT 3) λe6=>ef a6 ((a8 fq bT 3).add 1) λ_=>ef a6 ((a8 fq bT 3).add 2) λ_=>2<=31/\((0:o)<=p/\p<(31:o))/\bu a6 (a8 ((am g).add 1) p 1) λgb=>bj (dL 30 1 #[(0,ao e6)]) bl a6 λ(fL:U)hg=>H.le a6 hg/\bj (ey #[30,30] 30 #[vs gb,vs fL]) bl hg λ(gk:U)jm=>2<=31/\((0:o)<=p/\p<(31:o))/\H.aO jm (a8 ((am g).add 1) p 1) [vs gk] λiX=>bo (bT+1)/\dU (bT+1) iX) (bo (p-1)/\z (p-1) a6)) (eD q (am a) λr=>bk r λs=>fe q (s.add 3) λt=>bj (unit (lx 182 (dP t) (ao ci) (aZ (some (am g))))) [] q λv=>gB o 0 v λw x y=>aV (x<31) (2<=31/\((0:o)<=x/\x<(31:o))/\bu y (a8 ((am g).add 1) x 1) λY=>gB o 0 y λbW bZ cg=>aV (bZ<(Y.n:o)) (bB Y bZ λcP=>bn cg (a8 cP bZ 1) λcj=>eD cg (am a) λcQ=>C.Be cQ cj ci x cg λc0=>bo (bZ+1)/\bW (bZ+1) c0) (bo (x+1)/\w (x+1) cg)) (eD y (am a) λY=>bk Y λbW=>fe y (bW.add 3) λbZ=>eD y (am a) λcg=>bk cg λcP=>bn y (cP.add 4) λcj=>bj (gY 182 (dP bZ) (ao cj) ax) ee y λ(cQ:ay bc)c0=>bk cQ λdF=>bn c0 (dF.add 32) λcL=>aV (cL<e) (eD c0 (am a) λdU=>bk dU λbT=>H.aO c0 (bT.add 4) [ao ci] λa6=>K a6) (K c0)))) λm=>eD i (am a) λn=>bk n λz=>fe i (z.add 3) λp=>eD i (am a) λq=>bk q λr=>bn i (r.add 4) λs=>bj (gY 182 (dP p) (ao s) ax) ee i λ(t:ay bc)v=>bk t λw=>bn v (w.add 32) λx=>m (ite (x<e) x e) v)):C.vP a0 ci cy u K:=aY [2,28,8,10] Tryz.func102 [a6 62 [(7,b2)],a6 250 [(7,b2)],a6 128158 [(86,b2)],a6 1018 [(113,b2)],a6 260710 [(123,b2)]] h
def aG.iH(a0:U)(u:H)(K:U->Q)(h:aV (a0.a=none) (K bm u) (bj (dL 30 0 #[]) bl u λ(a:U)b=>bj (ey #[30,30] 30 #[vs a,vs a0]) bl b λ(c:U)d=>K c d)):C.iH a0 u K:=aY [] Tryz.func103 [] h
def aG.XL(cc:o)(cp:U)(ci:o)(cy:U)(u:H)(K:o->Q)(h:bo (cc-ci)/\K (cc-ci) u):C.XL cc cp ci cy u K:=aY [] Tryz.func105 [] h
def aG.Uu(a0:o)(ac a2 a3 a4 a5:bc)(u:H)(K:U->Q)(h:bu u ac λa=>ix U o bm 0 u λb c d e=>aV (d<(a.n:o)) (bB a d λf=>bu e (a8 f d 1) λg=>bn e a2 λi=>C.x5 g i a0 e λj k=>bj (dL 133 1 #[(0,vs j)]) bl k λ(l:U)m=>bj (ey #[133,133] 133 #[vs c,vs l]) bl m λ(n:U)z=>bo (d+1)/\b n (d+1) z) (bn e a3 λf=>bn e a4 λg=>ef e a5 λi=>C.BD c f g (cz bR (i+cz bR a0)) e λj _ k=>K j k)):C.Uu a0 ac a2 a3 a4 a5 u K:=ov 1 [] Tryz.func106 [a6 58 [(8,.slice),(15,b2)]] h
def aG.x5(a0:U)(ac a2:o)(u:H)(K:U->Q)(h:ac≠0/\bo (gR (a0.n:o) ac)/\bo (a2*gR (a0.n:o) ac)/\bo (a2+1)/\bo ((a2+1)*gR (a0.n:o) ac)/\bo (a2+1)/\bo ((a2+1)*gR (a0.n:o) ac)/\bj (h6 30 (vs a0) (some (ao (a2*gR (a0.n:o) ac))) (some (ao ((a2+1)*gR (a0.n:o) ac))) (some (ao ((a2+1)*gR (a0.n:o) ac)))) bl u λ(a:U)b=>K a b):C.x5 a0 ac a2 u K:=aY [] Tryz.func107 [] h
def aG.xr(a0:ap)(ac:o)(u:H)(K:Q)(h:gB o ac u λa b c=>bo (b-1)/\(2:o)≠0/\bo (gR (b-1) 2)/\aV (gR (b-1) 2=b) (K c) (qn a0 "Less" #[ao b,ao (gR (b-1) 2)] eM c λ(d:aK)e=>cK (d=ak) (K e) (qn a0 "Swap" #[ao (gR (b-1) 2),ao b] [] e λf=>a (gR (b-1) 2) f))):C.xr a0 ac u K:=aY [] Tryz.func112 [a6 2 [(1,b2)]] h
def aG.xq(a0:ap)(ac a2:o)(u:H)(K:aK->Q)(h:gL o (λa b=>K (decide (ac<a)) b) λa=>gB o ac u λb c d=>bo (2*c)/\bo (2*c+1)/\vZ (λe=>gL o (λf g=>qn a0 "Less" #[ao f,ao c] eM g λ(i:aK)j=>cK (i=ak) (a c j) (qn a0 "Swap" #[ao c,ao f] [] j λk=>b f k)) λf=>bo (2*c+1+1)/\aV (2*c+1+1<a2) (qn a0 "Less" #[ao (2*c+1+1),ao (2*c+1)] eM e λ(g:aK)i=>dR g (f (2*c+1+1) i) (f (2*c+1) i)) (f (2*c+1) e)) λe=>aV (a2<=2*c+1) (a c d) (aV (2*c+1<0) (a c d) (e d))):C.xq a0 ac a2 u K:=aY [] Tryz.func113 [a6 7 [(7,b2)],a6 28 [(7,b2)],a6 225 [],a6 903 [(9,b2)]] h
def aG.E7(a0:U)(u:H)(K:o->Q)(h:ix o o 0 0 u λa b c d=>aV (c<(a0.n:o)) (bB a0 c λe=>bn d (a8 e c 1) λf=>cK (f=0) (K f d) (bo (c+1)/\a b (c+1) d)) (K 0 d)):C.E7 a0 u K:=aY [] Tryz.func116 [a6 58 [(2,b2),(8,b2)]] h
def aG.E6(a0 ac:o)(u:H)(K:o->Q)(h:C.I2 a0 u λa b=>C.I2 ac b λc d=>dR a (dR c (K 0 d) (K (-1) d)) (dR c (K 1 d) (aV (a0<ac) (K (-1) d) (aV (ac<a0) (K 1 d) (K 0 d))))):C.E6 a0 ac u K:=aY [] Tryz.func117 [] h
def aG.Cy(cc cp ci cy:o)(u:H)(K:o->o->o->Q)(h:bj (AE 162 #[bG cp,bG cy,bG 0]) [bg.one (aL.int bR),bg.one (aL.int bR)] u λ(a:o)(b:o)c=>bj (AE 162 #[bG cc,bG ci,bG b]) [bg.one (aL.int bR),bg.one (aL.int bR)] c λ(d:o)(e:o)f=>aV ((0:o)<e) (K 0 0 10 f) (K d a 0 f)):C.Cy cc cp ci cy u K:=aY [] Tryz.func120 [] h
def aG.E2(a0 ac:o)(u:H)(K:o->o->Q)(h:(0:o)<=32/\(0:o)<=32/\(0:o)<=32/\(0:o)<=32/\(0:o)<=32/\K (cz bR (cz bR (cz bR (ew a0 (2^32)*ew ac (2^32))+ew (cz bR (cz bR (ew a0 (2^32)*bits Ec bR ac 4294967295)+ew (cz bR (bits Ec bR a0 4294967295*bits Ec bR ac 4294967295)) (2^32))) (2^32))+ew (cz bR (bits Ec bR (cz bR (cz bR (ew a0 (2^32)*bits Ec bR ac 4294967295)+ew (cz bR (bits Ec bR a0 4294967295*bits Ec bR ac 4294967295)) (2^32))) 4294967295+cz bR (bits Ec bR a0 4294967295*ew ac (2^32)))) (2^32))) (cz bR (a0*ac)) u):C.E2 a0 ac u K:=aY [] Tryz.func121 [] h
def aG.Pe(a0:U)(ac a2:bc)(u:H)(K:bV->Q)(h:aV ((a0.n:o)=0) (K none u) (eD u ac λa=>bk a λb=>bn u b λc=>C.Cs a0 c u λd e f g i _ _ j=>eg j λk=>H.aO (j.ins k (bC #[ao 0] 3 (0,0))) (am k) [ao 0] λl=>gB o 0 l λm n z=>aV (n<(e.n:o)) (bB f n λp=>bn z (a8 p n 1) λq=>bB e n λr=>bn z (a8 r n 1) λs=>bo (q-s)/\bn z (am k) λt=>bB f t λv=>bn z (a8 v t 1) λw=>bn z (am k) λx=>bB e x λy=>bn z (a8 y x 1) λY=>bo (w-Y)/\aV (w-Y<q-s) (H.aO z (am k) [ao n] λbW=>bo (n+1)/\m (n+1) bW) (bo (n+1)/\m (n+1) z)) (gL aK (λp q=>dR p (eg q λr=>K (some (am r)) (q.ins r (bC #[ao d,vs e,vs f,bG g,bG i,vs bm,vs a0,vs bm] 213 (0,0)))) (C.Cf a0 (jv (kD 125) #[] #[aZ (some (am k))]) q λr=>(2:o)≠0/\bo (gR (a0.n:o) 2)/\pV r a2 λs=>pV r a2 λt=>(bj (h6 22 (vs a0) none (some (ao (gR (a0.n:o) 2))) none) bl r λ(v:U)w=>H.le r w/\(C.kO v w λx y=>H.le r y/\(hY aH s #[vs x] ee y λ(Y:ay bc)(bW:H)=>H.le r bW/\bj (h6 22 (vs a0) (some (ao (gR (a0.n:o) 2))) none none) bl bW λ(bZ:U)cg=>H.le r cg/\C.kO bZ cg λcP cj=>H.le r cj/\hY aH t #[vs cP] ee cj λ(cQ:ay bc)(c0:H)=>H.le r c0/\bj (dL 211 2 #[(0,aZ Y),(1,aZ cQ)]) bl c0 λ(dF:U)cL=>H.le r cL/\eg cL λdU=>K (some (am dU)) (cL.ins dU (bC #[ao d,vs e,vs f,bG g,bG i,vs bm,vs bm,vs dF] 213 (0,0))))/\bj (h6 22 (vs a0) (some (ao (gR (a0.n:o) 2))) none none) bl y λ(Y:U)bW=>H.le r bW/\hY aH s #[vs x] ee bW λ(bZ:ay bc)(cg:H)=>H.le r cg/\C.kO Y cg λcP cj=>H.le r cj/\hY aH t #[vs cP] ee cj λ(cQ:ay bc)(c0:H)=>H.le r c0/\bj (dL 211 2 #[(0,aZ bZ),(1,aZ cQ)]) bl c0 λ(dF:U)cL=>H.le r cL/\eg cL λdU=>K (some (am dU)) (cL.ins dU (bC #[ao d,vs e,vs f,bG g,bG i,vs bm,vs bm,vs dF] 213 (0,0))))/\bj (h6 22 (vs a0) (some (ao (gR (a0.n:o) 2))) none none) bl w λ(x:U)y=>H.le r y/\C.kO v y λY bW=>H.le r bW/\hY aH s #[vs Y] ee bW λ(bZ:ay bc)(cg:H)=>H.le r cg/\C.kO x cg λcP cj=>H.le r cj/\hY aH t #[vs cP] ee cj λ(cQ:ay bc)(c0:H)=>H.le r c0/\bj (dL 211 2 #[(0,aZ bZ),(1,aZ cQ)]) bl c0 λ(dF:U)cL=>H.le r cL/\eg cL λdU=>K (some (am dU)) (cL.ins dU (bC #[ao d,vs e,vs f,bG g,bG i,vs bm,vs bm,vs dF] 213 (0,0))))/\bj (h6 22 (vs a0) (some (ao (gR (a0.n:o) 2))) none none) bl r λ(v:U)w=>H.le r w/\bj (h6 22 (vs a0) none (some (ao (gR (a0.n:o) 2))) none) bl w λ(x:U)y=>H.le r y/\C.kO x y λY bW=>H.le r bW/\hY aH s #[vs Y] ee bW λ(bZ:ay bc)(cg:H)=>H.le r cg/\C.kO v cg λcP cj=>H.le r cj/\hY aH t #[vs cP] ee cj λ(cQ:ay bc)(c0:H)=>H.le r c0/\bj (dL 211 2 #[(0,aZ bZ),(1,aZ cQ)]) bl c0 λ(dF:U)cL=>H.le r cL/\eg cL λdU=>K (some (am dU)) (cL.ins dU (bC #[ao d,vs e,vs f,bG g,bG i,vs bm,vs bm,vs dF] 213 (0,0))))) λp=>eD z ac λq=>bk q λr=>bn z (r.add 1) λs=>aV ((a0.n:o)<=s) (p ak z) (bn z (am k) λt=>bB e t λv=>bn z (a8 v t 1) λw=>bn z (am k) λx=>bB f x λy=>bn z (a8 y x 1) λY=>p (decide (w=Y)) z)))):C.Pe a0 ac a2 u K:=ov 1 [7,77,99] Tryz.func122 [a6 506 [(26,b2)],a6 254 [(73,.bool)]] h
def aG.Cs(a0:U)(ac:o)(u:H)(K:o->U->U->o->o->U->o->Q)(h:C.yw ac u λa b=>cK (a=ak) (K 0 bm bm 0 0 bm 30 b) (aV ((a0.n:o)=0) (K 0 bm bm 0 0 bm 1 b) (C.Ct a0 ac b λc d e=>cK (d=0) (K 0 bm bm 0 0 bm d e) (bB a0 0 λf=>bB a0 0 λg=>bu e ((f.add 0).add 1) λi=>bu e ((g.add 0).add 1) λj=>C.iH i e λk l=>H.le e l/\C.iH j l λm n=>gB o 0 n λz p q=>aV (p<(a0.n:o)) (bB a0 p λr=>bn q (a8 r p 2) λ_=>bu q ((a8 r p 2).add 1) λs=>gB o 0 q λt v w=>aV (v<(s.n:o)) (bB s v λx=>bn w (a8 x v 1) λy=>bB k v λY=>bB m v λbW=>bn w (a8 Y v 1) λbZ=>bn w (a8 bW v 1) λcg=>bB k v λcP=>H.aO w (a8 cP v 1) [ao (ite (y<bZ) y bZ)] λcj=>bB m v λcQ=>H.aO cj (a8 cQ v 1) [ao (ite (y>cg) y cg)] λc0=>bo (v+1)/\t (v+1) c0) (bo (p+1)/\z (p+1) w)) (K 2 k m 0 0 c 0 q))))):C.Cs a0 ac u K:=aY [] Tryz.func123 [a6 506 [(46,b2)],a6 129638 [(53,b2)]] h
def aG.Cf(a0:U)(ac:ap)(u:H)(K:Q)(h:C.VD a0 (a0.n:o) ac u λa=>K a):C.Cf a0 ac u K:=aY [] Tryz.func124 [] h
def aG.abz(cc:o)(cp:U)(ci:o)(cy:U)(a2:bc)(u:H)(K:o->Q)(h:bn u a2 λa=>bB cp a λb=>bn u (a8 b a 1) λc=>bn u a2 λd=>bB cy d λe=>bn u (a8 e d 1) λf=>bo (c-f)/\K (c-f) u):C.abz cc cp ci cy a2 u K:=ov 2 [] Tryz.func125 [] h
def aG.kO(a0:U)(u:H)(K:U->Q)(h:aV (a0.a=none) (K bm u) (bj (dL 22 0 #[]) bl u λ(a:U)b=>bj (ey #[22,22] 22 #[vs a,vs a0]) bl b λ(c:U)d=>K c d)):C.kO a0 u K:=aY [] Tryz.func126 [] h
def aG.Ra(a0:U)(ac a2:bc)(u:H)(K:bV->Q)(h:aV ((a0.n:o)=0) (K none u) (eD u ac λa=>bk a λb=>eD u (b.add 2) λc=>C.Qm c (a0.n:o) u λd _ e=>bB a0 d λf=>bu e ((a8 f d 2).add 1) λg=>C.iH g e λi j=>eg j λk=>H.aO (j.ins k (bC #[vs bm] 30 (0,0))) (am k) [vs i] λl=>bu l (am k) λm=>C.Cr m a0 l λn z p q r _ _ s=>gL (ay bc) (λ_ t=>eg t λv=>H.aO (t.ins v (bC #[P4] 219 (0,0))) (am v) [jv (kD 130) #[] #[aZ (some (am k))]] λw=>C.Cf a0 (jv (kD 131) #[] #[aZ (some (am v))]) w λx=>(2:o)≠0/\bo (gR (a0.n:o) 2)/\∃y:H,H.le y x/\pV y a2 λY=>pV y a2 λbW=>(bj (h6 22 (vs a0) none (some (ao (gR (a0.n:o) 2))) none) bl x λ(bZ:U)cg=>H.le y cg/\(C.kO bZ cg λcP cj=>H.le y cj/\(hY aH Y #[vs cP] ee cj λ(cQ:ay bc)(c0:H)=>H.le y c0/\bj (h6 22 (vs a0) (some (ao (gR (a0.n:o) 2))) none none) bl c0 λ(dF:U)cL=>H.le y cL/\C.kO dF cL λdU bT=>H.le y bT/\hY aH bW #[vs dU] ee bT λ(a6:ay bc)(fq:H)=>H.le y fq/\bj (dL 211 2 #[(0,aZ cQ),(1,aZ a6)]) bl fq λ(e6:U)gb=>H.le y gb/\eg gb λfL=>K (some (am fL)) (gb.ins fL (bC #[ao n,vs z,vs p,bG q,bG r,vs bm,vs bm,vs e6] 213 (0,0))))/\bj (h6 22 (vs a0) (some (ao (gR (a0.n:o) 2))) none none) bl cj λ(cQ:U)c0=>H.le y c0/\hY aH Y #[vs cP] ee c0 λ(dF:ay bc)(cL:H)=>H.le y cL/\C.kO cQ cL λdU bT=>H.le y bT/\hY aH bW #[vs dU] ee bT λ(a6:ay bc)(fq:H)=>H.le y fq/\bj (dL 211 2 #[(0,aZ dF),(1,aZ a6)]) bl fq λ(e6:U)gb=>H.le y gb/\eg gb λfL=>K (some (am fL)) (gb.ins fL (bC #[ao n,vs z,vs p,bG q,bG r,vs bm,vs bm,vs e6] 213 (0,0))))/\bj (h6 22 (vs a0) (some (ao (gR (a0.n:o) 2))) none none) bl cg λ(cP:U)cj=>H.le y cj/\C.kO bZ cj λcQ c0=>H.le y c0/\hY aH Y #[vs cQ] ee c0 λ(dF:ay bc)(cL:H)=>H.le y cL/\C.kO cP cL λdU bT=>H.le y bT/\hY aH bW #[vs dU] ee bT λ(a6:ay bc)(fq:H)=>H.le y fq/\bj (dL 211 2 #[(0,aZ dF),(1,aZ a6)]) bl fq λ(e6:U)gb=>H.le y gb/\eg gb λfL=>K (some (am fL)) (gb.ins fL (bC #[ao n,vs z,vs p,bG q,bG r,vs bm,vs bm,vs e6] 213 (0,0))))/\bj (h6 22 (vs a0) (some (ao (gR (a0.n:o) 2))) none none) bl x λ(bZ:U)cg=>H.le y cg/\bj (h6 22 (vs a0) none (some (ao (gR (a0.n:o) 2))) none) bl cg λ(cP:U)cj=>H.le y cj/\C.kO cP cj λcQ c0=>H.le y c0/\hY aH Y #[vs cQ] ee c0 λ(dF:ay bc)(cL:H)=>H.le y cL/\C.kO bZ cL λdU bT=>H.le y bT/\hY aH bW #[vs dU] ee bT λ(a6:ay bc)(fq:H)=>H.le y fq/\bj (dL 211 2 #[(0,aZ dF),(1,aZ a6)]) bl fq λ(e6:U)gb=>H.le y gb/\eg gb λfL=>K (some (am fL)) (gb.ins fL (bC #[ao n,vs z,vs p,bG q,bG r,vs bm,vs bm,vs e6] 213 (0,0)))) λt=>eD s ac λv=>bk v λw=>bn s (w.add 1) λx=>aV ((a0.n:o)<=x) (eg s λy=>K (some (am y)) (s.ins y (bC #[ao n,vs z,vs p,bG q,bG r,vs bm,vs a0,vs bm] 213 (0,0)))) (aV (q=0/\r=0) (eg s λy=>K (some (am y)) (s.ins y (bC #[ao n,vs z,vs p,bG q,bG r,vs bm,vs a0,vs bm] 213 (0,0)))) (t none s)))):C.Ra a0 ac a2 u K:=MN 1 (C:={P:=aH,exp:=[7,54,10,77],wrap:=ax,ik:=ik,ou:=[],oG:=[],part:=ak}) (args:=[(ec a0.a a0.n a0.c),(hy (some ac)),(hy (some a2))]) (nR _ _) Tryz.func127 (by kernel_rfl) [a6 127 [(4,.ptr)]] (by kernel_rfl) (by kernel_rfl) (p3 (by kernel_rfl) h)
def aG.Qm(a0:bV)(ac:o)(u:H)(K:o->o->Q)(h:C.Eg a0 ac 1 1000000000 u λa b=>cK (a=0) (K 0 a b) (C.yj a0 b λc d=>cz bR ac≠0/\K (cz cq (ps c (cz bR ac))) 0 d)):C.Qm a0 ac u K:=aY [] Tryz.func128 [] h
def aG.Cr(a0 ac:U)(u:H)(K:o->U->U->o->o->U->o->Q)(h:C.iA a0 (a0.n:o) u λa b=>cK (a=0) (K 0 bm bm 0 0 bm a b) (C.Ct ac (a0.n:o) b λc d e=>cK (d=0) (K 0 bm bm 0 0 bm d e) (G8 o o o 0 0 0 e λf g i j k=>aV (g<(ac.n:o)) (bB ac g λl=>bn k (a8 l g 2) λ_=>bu k ((a8 l g 2).add 1) λm=>C.yx a0 m k λn z p=>C.mr n z i j p λq r=>aV ((0:o)<q) (bo (g+1)/\f (g+1) n z r) (bo (g+1)/\f (g+1) i j r)) (C.iH a0 k λl m=>H.le k m/\K 3 l bm i j c 0 m)))):C.Cr a0 ac u K:=aY [] Tryz.func129 [(506,⟨[(34,b2)],[(1,[.int .u64,.int .u64])]⟩)] h
def aG.aef(cc:o)(cp:U)(ac:bc)(u:H)(K:o->o->Q)(h:bu u ac λa=>C.lD a cp u λb c _ d=>K b c d):C.aef cc cp ac u K:=ov 1 [] Tryz.func130 [] h
def aG.aeg(cc:o)(cp:U)(ci:o)(cy:U)(a2:bc)(u:H)(K:o->Q)(h:pV u a2 λa=>pV u a2 λb=>hY aH a #[c3 #[ao cc,vs cp]] [bg.agg [aL.int bR,aL.int bR]] u λ(c:o)(d:o)(e:H)=>H.le u e/\hY aH b #[c3 #[ao ci,vs cy]] [bg.agg [aL.int bR,aL.int bR]] e λ(f:o)(g:o)(i:H)=>C.mr c d f g i λj k=>K j k):C.aeg cc cp ci cy a2 u K:=ov 2 [] Tryz.func131 [] h
def aG.zn(a0:U)(ac:o)(u:H)(K:o->Q)(h:ix o o 0 0 u λa b c d=>aV (c<(a0.n:o)) (bB a0 c λe=>bu d (a8 e c 1) λf=>C.iA f ac d λg i=>cK (g=0) (K g i) (bo (c+1)/\a b (c+1) i)) (K 0 d)):C.zn a0 ac u K:=aY [] Tryz.func132 [a6 26 [(4,b2),(10,b2)]] h
def aG.Qn(a0:bV)(ac:o)(u:H)(K:U->o->Q)(h:C.Eg a0 ac 0 65536 u λa b=>cK (a=0) (K bm a b) (bj (to 30 (ao ac) (ao ac)) bl b λ(c:U)d=>eg d λe=>H.aO (d.ins e (bC #[vs bm] 30 (0,0))) (am e) [vs c] λf=>bu f (am e) λg=>gB o 0 f λi j k=>aV (j<(g.n:o)) (bu k (am e) λl=>bB l j λm=>H.aO k (a8 m j 1) [ao j] λn=>bo (j+1)/\i (j+1) n) (C.Vb a0 ac k λl m=>nf aH (Lv (Tryz.f133.body.getD Code.skip)) 49 [(31,l),(30,ao ac),(29,aZ a0),(22,mP ax),(21,ao j),(20,ao (g.n:o)),(19,vs g),(7,aZ (some (am e))),(18,vs c),(17,ao ac),(15,mP ax),(14,ao a),(6,ao a),(13,ao a),(12,ao ac),(11,aZ a0),(5,ao 0),(4,vs bm),(0,aZ a0),(1,ao ac)] m λ(n:N)(z:H)=>bu z (am e) λp=>z n=some (yc (some []))/\K p 0 (z.ins n (yc none))))):C.Qn a0 ac u K:=aY [7] Tryz.func133 [a6 122 [(21,b2)]] h
def aG.T4(a0 ac a2 a3:bc)(u:H)(K:Q)(h:bn u a0 λa=>bj (to 133 (ao a) (ao a)) bl u λ(b:U)c=>bn c a0 λd=>bj (to 30 (ao d) (ao d)) bl c λ(e:U)f=>bn f a0 λg=>gB o 0 f λi j k=>aV (j<g) (bn k ac λl=>bj (to 30 (ao l) (ao l)) bl k λ(m:U)n=>bB b j λz=>H.aO n (a8 z j 1) [vs m] λp=>bo (j+1)/\i (j+1) p) (bu k a2 λl=>gB o 0 k λm n z=>aV (n<(l.n:o)) (bB l n λp=>bu z (a8 p n 1) λq=>bu z a3 λr=>C.zo r q z λs _ _ t=>bB e s λv=>bn t (a8 v s 1) λw=>bo (w+1)/\bB e s λx=>H.aO t (a8 x s 1) [ao (w+1)] λy=>bn y ac λY=>gB o 0 y λbW bZ cg=>aV (bZ<Y) (bB b s λcP=>bB q bZ λcj=>bu cg (a8 cP s 1) λcQ=>bB cQ bZ λc0=>bn cg (a8 c0 bZ 1) λdF=>bn cg (a8 cj bZ 1) λcL=>bo (dF+cL)/\bB cQ bZ λdU=>H.aO cg (a8 dU bZ 1) [ao (dF+cL)] λbT=>bo (bZ+1)/\bW (bZ+1) bT) (bo (n+1)/\m (n+1) cg)) (bn z a0 λp=>gB o 0 z λq r s=>aV (r<p) (bn s ac λt=>gB o 0 s λv w x=>aV (w<t) (bB e r λy=>bn x (a8 y r 1) λY=>aV ((0:o)<Y) (bB b r λbW=>bB e r λbZ=>bu x a3 λcg=>bB cg r λcP=>bu x (a8 cP r 1) λcj=>bu x (a8 bW r 1) λcQ=>bB cQ w λc0=>bn x (a8 c0 w 1) λdF=>bn x (a8 bZ r 1) λcL=>C.GX dF cL x λdU bT=>H.le x bT/\bB cj w λa6=>H.aO bT (a8 a6 w 1) [ao dU] λfq=>bo (w+1)/\v (w+1) fq) (bo (w+1)/\v (w+1) x)) (bo (r+1)/\q (r+1) x)) (K s)))):C.T4 a0 ac a2 a3 u K:=ov 0 [] Tryz.func134 [a6 58 [(19,b2)],a6 122 [(30,b2)],a6 125342 [(47,b2)],a6 126 [(66,b2)],a6 32358 [(70,b2)]] h
def aG.zo(a0 ac:U)(u:H)(K:o->o->o->Q)(h:BH o o o o 0 0 0 0 u λa b c d e f=>aV (c<(a0.n:o)) (bB a0 c λg=>bu f (a8 g c 1) λi=>C.lD i ac f λj k _ l=>aV (c=0) (bo (c+1)/\a c (c+1) j k l) (C.mr j k d e l λm n=>aV (m<0) (bo (c+1)/\a c (c+1) j k n) (bo (c+1)/\a b (c+1) d e n))) (K b d e f)):C.zo a0 ac u K:=aY [] Tryz.func135 [(26,⟨[(4,b2),(12,b2)],[(0,[.int .u64,.int .u64])]⟩)] h
def aG.GX(a0 ac:o)(u:H)(K:o->Q)(h:ac≠0/\bo (gR a0 ac)/\ac≠0/\aV (ps a0 ac<0) (bo (gR a0 ac-1)/\K (gR a0 ac-1) u) (K (gR a0 ac) u)):C.GX a0 ac u K:=aY [] Tryz.func136 [] h
def aG.th(a0 ac:U)(u:H)(K:o->o->o->o->Q)(h:C.DU a0 u λa b=>cK (a=0) (K 0 0 0 a b) (bB a0 0 λc=>bu b (c.add 0) λd=>C.iA ac (d.n:o) b λe f=>cK (e=0) (K 0 0 0 e f) (C.zo a0 ac f λg i j k=>K g i j 0 k))):C.th a0 ac u K:=aY [] Tryz.func137 [] h
def aG.HV(a0:bV)(ac:o)(u:H)(K:o->o->Q)(h:C.Eg a0 ac 0 30 u λa b=>cK (a=0) (K 0 a b) (C.yj a0 b λc d=>C.bits_TrailingZeros64 c d λe f=>(2:o)≠0/\bo (gR e 2)/\K (ite (ac<gR e 2) ac (gR e 2)) 0 f)):C.HV a0 ac u K:=aY [] Tryz.func138 [] h
def aG.zf(a0:bV)(ac:o)(a2:U)(a3:o)(a4:ap)(u:H)(K:Q)(h:bj (rI 166 none) [bg.one aL.map] u λ(a:ay N)b=>bj (unit (lx 166 (dP a) (ao ac) (mP ak))) [] b λc=>C.pQ a0 ac a2 c λd e f g=>bj (dL 263 1 #[(0,c3 #[ao d,bG e,bG f])]) bl g λ(i:U)j=>eg j λk=>H.aO (j.ins k (bC #[vs bm] 263 (0,0))) (am k) [vs i] λl=>Po l λm n=>bu n (am k) λz=>C.Od z n λp q=>aV ((0:o)<p) (C.vH (mj 265 (aZ (some (am k)))) q λr s=>bj (tp r 20 68 ax) [bg.agg [aL.int cq,aL.int bR,aL.int bR]] s λ(t:o)(v:o)(w:o)x=>nM a4 #[c3 #[ao t,bG v,bG w]] eM x λ(y:aK)Y=>cK (y=ak) (K Y) (bk a0 λbW=>fe Y (bW.add 3) λbZ=>bj (gY 182 (dP bZ) (ao t) ax) ee Y λ(cg:ay bc)cP=>bk cg λcj=>2<=31/\((0:o)<=a3/\a3<(31:o))/\bu cP (a8 (cj.add 1) a3 1) λcQ=>gB o 0 cP λc0 dF cL=>aV (dF<(cQ.n:o)) (bB cQ dF λdU=>bn cL (a8 dU dF 1) λbT=>bj (gY 166 (dP a) (ao bT) ax) eM cL λ(a6:aK)fq=>cK (a6=ak) (bj (unit (lx 166 (dP a) (ao bT) (mP ak))) [] fq λe6=>C.pQ a0 bT a2 e6 λgb fL hg gk=>C.r7 (mj 265 (aZ (some (am k)))) (mj 68 (c3 #[ao gb,bG fL,bG hg])) gk λjm=>bo (dF+1)/\c0 (dF+1) jm) (bo (dF+1)/\c0 (dF+1) fq)) (m cL))) (K q)):C.zf a0 ac a2 a3 a4 u K:=aY [11] Tryz.func139 [a6 14 [],a6 1838 [(46,b2)]] h
def aG.Bg(a0:bV)(ac:U)(a2:o)(u:H)(K:o->Q)(h:bk a0 λa=>bn u (a.add 4) λb=>bk a0 λc=>fe u (c.add 3) λd=>bj (gY 182 (dP d) (ao b) ax) ee u λ(e:ay bc)f=>bk e λg=>bn f (g.add 32) λi=>ix o o b i f λj k l m=>aV (a2<l) (C.Gl a0 k ac l m λn z=>bo (l-1)/\j n (l-1) z) (K k m)):C.Bg a0 ac a2 u K:=aY [] Tryz.func140 [a6 58 [(7,b2),(8,b2)]] h
def aG.ZT(cc cp eU:o)(ac a2 a3:bc)(u:H)(K:aK->Q)(h:eD u ac λa=>C.qW a cc cp eU u λ_ b=>bn b a2 λc=>bo (c+1)/\H.aO b a2 [ao (c+1)] λd=>bn d a2 λe=>eD d a3 λf=>bk f λg=>bn d (g.add 1) λi=>bo (4*i)/\K (decide (e<4*i)) d):C.ZT cc cp eU ac a2 a3 u K:=ov 1 [] Tryz.func141 [] h
def aG.Be(a0:bV)(ac a2 a3:o)(u:H)(K:Q)(h:eg u λa=>eD (u.ins a (bC #[aZ a0] 122 (0,0))) (am a) λb=>bk b λc=>fe (u.ins a (bC #[aZ a0] 122 (0,0))) (c.add 3) λd=>bj (gY 182 (dP d) (ao ac) ax) ee (u.ins a (bC #[aZ a0] 122 (0,0))) λ(e:ay bc)f=>eg f λg=>H.aO (f.ins g (bC #[aZ none] 227 (0,0))) (am g) [aZ e] λi=>eD i (am g) λj=>bk j λk=>2<=31/\((0:o)<=a3/\a3<(31:o))/\bu i (a8 (k.add 1) a3 1) λl=>bj (dL 30 1 #[(0,ao a2)]) bl i λ(m:U)n=>bj (ey #[30,30] 30 #[vs l,vs m]) bl n λ(z:U)p=>gL U (λq r=>eD r (am g) λs=>bk s λt=>2<=31/\((0:o)<=a3/\a3<(31:o))/\H.aO r (a8 (t.add 1) a3 1) [vs q] λv=>K v) λq=>eD p (am a) λr=>C.Bf r a3 p λs t=>aV (s<(z.n:o)) (C.VB z (jv (kD 176) #[] #[aZ (some (am a)),aZ (some (am g))]) t λv=>eD v (am a) λw=>C.Bf w a3 v λx y=>bj (h6 30 (vs z) none (some (ao x)) none) bl y λ(Y:U)bW=>q Y bW) (q z t)):C.Be a0 ac a2 a3 u K:=aY [4,8] Tryz.func142 [a6 15 [(9,.slice)]] h
def aG.I2(a0:o)(u:H)(K:aK->Q)(h:K (ww (decide (a0=a0))) u):C.I2 a0 u K:=aY [] Tryz.func160 [] h
def aG.Ct(a0:U)(ac:o)(u:H)(K:U->o->Q)(h:aV ((512:o)<(a0.n:o)) (K bm 2 u) (bj (rI 166 none) [bg.one aL.map] u λ(a:ay N)b=>BH U o U o bm 0 bm 0 b λc d e f g i=>aV (g<(a0.n:o)) (bB a0 g λj=>bn i (a8 j g 2) λk=>bu i ((a8 j g 2).add 1) λl=>zk U o (λm n z=>C.iA l ac z λp q=>cK (p=0) (K bm p q) (bj (unit (lx 166 (dP a) (ao k) (mP ak))) [] q λr=>bj (dL 30 1 #[(0,ao k)]) bl r λ(s:U)t=>bj (ey #[30,30] 30 #[vs f,vs s]) bl t λ(v:U)w=>bo (g+1)/\c m n v (g+1) w)) λm=>aV (k<1) (K bm 50 i) (aV ((1000000000:o)<k) (K bm 50 i) (bj (gY 166 (dP a) (ao k) ax) eM i λ(n:aK)z=>dR n (K bm 50 z) (m d e z)))) (C.rQ f i λj=>K f 0 j))):C.Ct a0 ac u K:=aY [] Tryz.func163 [a6 250 [(4,.slice),(5,b2),(7,.slice),(17,b2)],a6 16025 [(4,.slice),(5,b2)]] h
def aG.VD(a0:U)(ac:o)(a2:ap)(u:H)(K:Q)(h:ix o o 0 20 u λa b c d=>aV (c<=ac) (C.LF a0 b c a2 d λe=>bo (c+20)/\a c (c+20) e) (C.LF a0 b ac a2 d λe=>G8 o o o b c 20 e λf _ _ g i=>aV (g<ac) (bo (2*g)/\ix o o 0 (2*g) i λj k l m=>aV (l<=ac) (bo (k+g)/\C.Es a0 k (k+g) l a2 m λn=>bo (2*g)/\bo (l+2*g)/\j l (l+2*g) n) (bo (k+g)/\aV (k+g<ac) (C.Es a0 k (k+g) ac a2 m λn=>bo (g*2)/\f k l (g*2) n) (bo (g*2)/\f k l (g*2) m))) (K i))):C.VD a0 ac a2 u K:=aY [] Tryz.func164 [a6 28 [(7,b2),(8,b2)],a6 62 [(7,b2),(8,b2),(6,b2)],a6 3988 [(7,b2),(8,b2)]] h
def aG.Eg(a0:bV)(ac a2 a3:o)(u:H)(K:o->Q)(h:aV (a0=none) (K 3 u) (aV (ac<a2) (K 1 u) (aV (a3<ac) (K 1 u) (K 0 u)))):C.Eg a0 ac a2 a3 u K:=aY [] Tryz.func165 [] h
def aG.yj(a0:bV)(u:H)(K:o->Q)(h:aV (a0=none) (K 0 u) (bk a0 λa=>ef u a λb=>bk a0 λc=>H.aO u c [bG (cz bR (b+11400714819323198485))] λd=>bk a0 λe=>ef d e λf=>(0:o)<=30/\(0:o)<=27/\(0:o)<=31/\K (bits HE bR (cz bR (bits HE bR (cz bR (bits HE bR f (ew f (2^30))*13787848793156543929)) (ew (cz bR (bits HE bR f (ew f (2^30))*13787848793156543929)) (2^27))*10723151780598845931)) (ew (cz bR (bits HE bR (cz bR (bits HE bR f (ew f (2^30))*13787848793156543929)) (ew (cz bR (bits HE bR f (ew f (2^30))*13787848793156543929)) (2^27))*10723151780598845931)) (2^31))) d)):C.yj a0 u K:=aY [] Tryz.func166 [] h
def aG.Vb(a0:bV)(ac:o)(u:H)(K:ap->Q)(h:eg u λa=>∀b:N,u.ins a (bC #[aZ a0] 171 (0,0)) b=none->K (jv (kD 195) #[] #[aZ (some (am b)),aZ (some (am a))]) ((u.ins a (bC #[aZ a0] 171 (0,0))).ins b (bC #[ao ac] 3 (0,0)))):C.Vb a0 ac u K:=aY [2,3] Tryz.func167 [] h
def aG.DU(a0:U)(u:H)(K:o->Q)(h:gL o (λ_ a=>bB a0 0 λb=>bu a (b.add 0) λc=>C.zn a0 (c.n:o) a λd e=>K d e) λa=>aV ((a0.n:o)=0) (K 1 u) (aV ((64:o)<(a0.n:o)) (K 1 u) (a 0 u))):C.DU a0 u K:=aY [] Tryz.func168 [a6 3 [(2,b2)]] h
def aG.pQ(a0:bV)(ac:o)(a2:U)(u:H)(K:o->o->o->Q)(h:bk a0 λa=>fe u (a.add 3) λb=>bj (gY 182 (dP b) (ao ac) ax) ee u λ(c:ay bc)d=>bk c λe=>bu d e λf=>C.lD f a2 d λg i _ j=>K ac g i j):C.pQ a0 ac a2 u K:=aY [] Tryz.func170 [] h
def aG.Od(a0:U)(u:H)(K:o->Q)(h:K (a0.n:o) u):C.Od a0 u K:=aY [] Tryz.func171 [] h
def aG.vH(a0:ap)(u:H)(K:ap->Q)(h:qn a0 "Len" #[] cv u λ(a:o)b=>bo (a-1)/\qn a0 "Swap" #[ao 0,ao (a-1)] [] b λc=>C.xq a0 0 (a-1) c λ_ d=>qn a0 "Pop" #[] [bg.one aL.val] d λ(e:ap)f=>K e f):C.vH a0 u K:=aY [] Tryz.func172 [] h
def aG.Gl(a0:bV)(ac:o)(a2:U)(a3:o)(u:H)(K:o->Q)(h:C.pQ a0 ac a2 u λa b c d=>BH aK o o o ak a b c d λe f g i j k=>dR f (bk a0 λl=>fe k (l.add 3) λm=>bj (gY 182 (dP m) (ao g) ax) ee k λ(n:ay bc)z=>bk n λp=>2<=31/\((0:o)<=a3/\a3<(31:o))/\bu z (a8 (p.add 1) a3 1) λq=>aj7 aK o o o o ax 0 g i j z λr s t v w x y=>aV (t<(q.n:o)) (bB q t λY=>bn y (a8 Y t 1) λbW=>C.pQ a0 bW a2 y λbZ cg cP cj=>C.qX bZ cg cP v w x cj λcQ c0=>dR cQ (bo (t+1)/\r ak (t+1) bZ cg cP c0) (bo (t+1)/\r s (t+1) v w x c0)) (e s v w x y)) (K g k)):C.Gl a0 ac a2 a3 u K:=aY [] Tryz.func173 [(58,⟨[(10,.bool)],[(0,[.int .i64,.int .u64,.int .u64])]⟩),(3734,⟨[(10,.bool),(32,b2)],[(0,[.int .i64,.int .u64,.int .u64])]⟩)] h
def aG.Bf(a0:bV)(ac:o)(u:H)(K:o->Q)(h:aV (ac=0) (bk a0 λa=>bn u (a.add 1) λb=>bo (2*b)/\K (2*b) u) (bk a0 λa=>bn u (a.add 1) λb=>K b u)):C.Bf a0 ac u K:=aY [] Tryz.func174 [] h
def aG.J1(a0 ac:o)(a2 a3:bc)(u:H)(K:o->Q)(h:eD u a2 λa=>eD u a3 λb=>bk b λc=>bu u c λd=>eD u a2 λe=>eD u a3 λf=>bk f λg=>bu u g λi=>C.pQ a a0 d u λj k l m=>H.le u m/\C.pQ e ac i m λn z p q=>C.qX j k l n z p q λr s=>dR r (K (-1) s) (K 1 s)):C.J1 a0 ac a2 a3 u K:=ov 2 [] Tryz.func176 [] h
def aG.LF(a0:U)(ac a2:o)(a3:ap)(u:H)(K:Q)(h:bo (ac+1)/\gB o (ac+1) u λa b c=>aV (b<a2) (gB o b c λd e f=>vZ (λg=>bo (e-1)/\bo (e-1)/\bB a0 (e-1) λi=>bB a0 e λj=>bn g (a8 i (e-1) 2) λk=>bu g ((a8 i (e-1) 2).add 1) λl=>bn g (a8 j e 2) λm=>bu g ((a8 j e 2).add 1) λn=>bB a0 e λz=>H.aO g (a8 z e 2) [ao k,vs l] λp=>bB a0 (e-1) λq=>H.aO p (a8 q (e-1) 2) [ao m,vs n] λr=>bo (e-1)/\d (e-1) r) λg=>aV (ac<e) (bB a0 e λi=>bo (e-1)/\bB a0 (e-1) λj=>bn f (a8 i e 2) λk=>bu f ((a8 i e 2).add 1) λl=>bn f (a8 j (e-1) 2) λm=>bu f ((a8 j (e-1) 2).add 1) λn=>hY aH a3 #[c3 #[ao k,vs l],c3 #[ao m,vs n]] cv f λ(z:o)(p:H)=>aV (z<0) (g p) (bo (b+1)/\a (b+1) p)) (bo (b+1)/\a (b+1) f)) (K c)):C.LF a0 ac a2 a3 u K:=aY [] Tryz.func177 [a6 6 [(8,b2)],a6 402 [(9,b2)],a6 804 []] h
def aG.Es(a0:U)(ac a2 a3:o)(a4:ap)(u:H)(K:Q)(h:bo (a2-ac)/\aV (a2-ac=1) (ix o o a2 a3 u λa b c d=>aV (b<c) (bo (b+c)/\(0:o)<=1/\bB a0 (cz cq (ew (cz bR (b+c)) (2^1))) λe=>bB a0 ac λf=>bn d (a8 e (cz cq (ew (cz bR (b+c)) (2^1))) 2) λg=>bu d ((a8 e (cz cq (ew (cz bR (b+c)) (2^1))) 2).add 1) λi=>bn d (a8 f ac 2) λj=>bu d ((a8 f ac 2).add 1) λk=>hY aH a4 #[c3 #[ao g,vs i],c3 #[ao j,vs k]] cv d λ(l:o)(m:H)=>aV (l<0) (bo (cz cq (ew (cz bR (b+c)) (2^1))+1)/\a (cz cq (ew (cz bR (b+c)) (2^1))+1) c m) (a b (cz cq (ew (cz bR (b+c)) (2^1))) m)) (gB o ac d λe f g=>bo (b-1)/\aV (f<b-1) (bo (f+1)/\bo (f+1)/\bB a0 (f+1) λi=>bB a0 f λj=>bn g (a8 i (f+1) 2) λk=>bu g ((a8 i (f+1) 2).add 1) λl=>bn g (a8 j f 2) λm=>bu g ((a8 j f 2).add 1) λn=>bB a0 f λz=>H.aO g (a8 z f 2) [ao k,vs l] λp=>bB a0 (f+1) λq=>H.aO p (a8 q (f+1) 2) [ao m,vs n] λr=>bo (f+1)/\e (f+1) r) (K g))) (bo (a3-a2)/\aV (a3-a2=1) (ix o o ac a2 u λa b c d=>aV (b<c) (bo (b+c)/\(0:o)<=1/\bB a0 a2 λe=>bB a0 (cz cq (ew (cz bR (b+c)) (2^1))) λf=>bn d (a8 e a2 2) λg=>bu d ((a8 e a2 2).add 1) λi=>bn d (a8 f (cz cq (ew (cz bR (b+c)) (2^1))) 2) λj=>bu d ((a8 f (cz cq (ew (cz bR (b+c)) (2^1))) 2).add 1) λk=>hY aH a4 #[c3 #[ao g,vs i],c3 #[ao j,vs k]] cv d λ(l:o)(m:H)=>cK (l<0) (bo (cz cq (ew (cz bR (b+c)) (2^1))+1)/\a (cz cq (ew (cz bR (b+c)) (2^1))+1) c m) (a b (cz cq (ew (cz bR (b+c)) (2^1))) m)) (gB o a2 d λe f g=>aV (b<f) (bo (f-1)/\bo (f-1)/\bB a0 (f-1) λi=>bB a0 f λj=>bn g (a8 i (f-1) 2) λk=>bu g ((a8 i (f-1) 2).add 1) λl=>bn g (a8 j f 2) λm=>bu g ((a8 j f 2).add 1) λn=>bB a0 f λz=>H.aO g (a8 z f 2) [ao k,vs l] λp=>bB a0 (f-1) λq=>H.aO p (a8 q (f-1) 2) [ao m,vs n] λr=>bo (f-1)/\e (f-1) r) (K g))) (bo (ac+a3)/\(0:o)<=1/\bo (cz cq (ew (cz bR (ac+a3)) (2^1))+a2)/\zk o o (λa b c=>bo (cz cq (ew (cz bR (ac+a3)) (2^1))+a2-1)/\ix o o a b c λd e f g=>aV (e<f) (bo (e+f)/\(0:o)<=1/\bo (cz cq (ew (cz bR (ac+a3)) (2^1))+a2-1-cz cq (ew (cz bR (e+f)) (2^1)))/\bB a0 (cz cq (ew (cz bR (ac+a3)) (2^1))+a2-1-cz cq (ew (cz bR (e+f)) (2^1))) λi=>bB a0 (cz cq (ew (cz bR (e+f)) (2^1))) λj=>bn g (a8 i (cz cq (ew (cz bR (ac+a3)) (2^1))+a2-1-cz cq (ew (cz bR (e+f)) (2^1))) 2) λk=>bu g ((a8 i (cz cq (ew (cz bR (ac+a3)) (2^1))+a2-1-cz cq (ew (cz bR (e+f)) (2^1))) 2).add 1) λl=>bn g (a8 j (cz cq (ew (cz bR (e+f)) (2^1))) 2) λm=>bu g ((a8 j (cz cq (ew (cz bR (e+f)) (2^1))) 2).add 1) λn=>hY aH a4 #[c3 #[ao k,vs l],c3 #[ao m,vs n]] cv g λ(z:o)(p:H)=>cK (z<0) (bo (cz cq (ew (cz bR (e+f)) (2^1))+1)/\d (cz cq (ew (cz bR (e+f)) (2^1))+1) f p) (d e (cz cq (ew (cz bR (e+f)) (2^1))) p)) (bo (cz cq (ew (cz bR (ac+a3)) (2^1))+a2-e)/\vZ (λi=>vZ (λj=>aV (cz cq (ew (cz bR (ac+a3)) (2^1))<cz cq (ew (cz bR (ac+a3)) (2^1))+a2-e) (aV (cz cq (ew (cz bR (ac+a3)) (2^1))+a2-e<a3) (C.Es a0 (cz cq (ew (cz bR (ac+a3)) (2^1))) (cz cq (ew (cz bR (ac+a3)) (2^1))+a2-e) a3 a4 j λk=>K k) (K j)) (K j)) λj=>aV (ac<e) (aV (e<cz cq (ew (cz bR (ac+a3)) (2^1))) (C.Es a0 ac e (cz cq (ew (cz bR (ac+a3)) (2^1))) a4 i λk=>j k) (j i)) (j i)) λi=>aV (e<a2) (aV (a2<cz cq (ew (cz bR (ac+a3)) (2^1))+a2-e) (C.QI a0 e a2 (cz cq (ew (cz bR (ac+a3)) (2^1))+a2-e) a4 g λj=>i j) (i g)) (i g))) λa=>aV (cz cq (ew (cz bR (ac+a3)) (2^1))<a2) (bo (cz cq (ew (cz bR (ac+a3)) (2^1))+a2-a3)/\a (cz cq (ew (cz bR (ac+a3)) (2^1))+a2-a3) (cz cq (ew (cz bR (ac+a3)) (2^1))) u) (a ac a2 u)))):C.Es a0 ac a2 a3 a4 u K:=aY [] Tryz.func194 [a6 172 [(10,b2),(11,b2)],a6 698 [(13,b2)],a6 428 [(14,b2),(15,b2)],a6 1722 [(17,b2)],a6 63 [(20,b2),(21,b2)],a6 1020 [(20,b2),(21,b2)],a6 1023 [],a6 2047 []] h
def aG.ac9(a0:ap)(ac a2:bc)(u:H)(K:Q)(h:bn u ac λa=>bo (a-1)/\gB o (a-1) u λb c d=>aV ((1:o)<=c) (eD d a2 λe=>C.yj e d λf g=>bo (c+1)/\cz bR (c+1)≠0/\nM a0 #[ao c,ao (cz cq (ps f (cz bR (c+1))))] eM g λ(i:aK)j=>cK (i=ak) (K j) (bo (c-1)/\b (c-1) j)) (K d)):C.ac9 a0 ac a2 u K:=ov 1 [] Tryz.func195 [a6 6 [(4,b2)]] h
def aG.QI(a0:U)(ac a2 a3:o)(a4:ap)(u:H)(K:Q)(h:bo (a2-ac)/\bo (a3-a2)/\ix o o (a2-ac) (a3-a2) u λa b c d=>cK (b=c) (aV (c<b) (bo (a2-b)/\C.Ii a0 (a2-b) a2 c a4 d λe=>bo (b-c)/\a (b-c) c e) (bo (a2-b)/\bo (a2+c)/\bo (a2+c-b)/\C.Ii a0 (a2-b) (a2+c-b) b a4 d λe=>bo (c-b)/\a b (c-b) e)) (bo (a2-b)/\C.Ii a0 (a2-b) a2 b a4 d λe=>K e)):C.QI a0 ac a2 a3 a4 u K:=aY [] Tryz.func204 [a6 28 [(10,b2),(11,b2)]] h
def aG.Ii(a0:U)(ac a2 a3:o)(a4:ap)(u:H)(K:Q)(h:gB o 0 u λa b c=>aV (b<a3) (bo (ac+b)/\bo (a2+b)/\bo (a2+b)/\bB a0 (a2+b) λd=>bo (ac+b)/\bB a0 (ac+b) λe=>bn c (a8 d (a2+b) 2) λf=>bu c ((a8 d (a2+b) 2).add 1) λg=>bn c (a8 e (ac+b) 2) λi=>bu c ((a8 e (ac+b) 2).add 1) λj=>bB a0 (ac+b) λk=>H.aO c (a8 k (ac+b) 2) [ao f,vs g] λl=>bB a0 (a2+b) λm=>H.aO l (a8 m (a2+b) 2) [ao i,vs j] λn=>bo (b+1)/\a (b+1) n) (K c)):C.Ii a0 ac a2 a3 a4 u K:=aY [] Tryz.func223 [a6 6 [(10,b2)]] h
def aG.QS(a0:bV)(u:H)(K:aK->Q)(h:cK (a0=none) (bk a0 λa=>bk a0 λb=>bu u (a.add 1) λc=>bn u b λd=>K (decide ((c.n:o)=d)) u) (H.le u u/\K ax u)):C.QS a0 u K:=aY [] Tryz.func249 [] h
def aG.Ir(a0:bV)(u:H)(K:o->Q)(h:aV (a0=none) (K 0 u) (bk a0 λa=>bu u (a.add 1) λb=>K (b.n:o) u)):C.Ir a0 u K:=aY [] Tryz.func250 [] h
def aG.KA(a0:bV)(ac:o)(u:H)(K:aK->o->Q)(h:eg u λa=>aV (a0=none) (K ax 3 (u.ins a (bC #[ao ac] 3 (0,0)))) (bk a0 λb=>fe (u.ins a (bC #[ao ac] 3 (0,0))) (b.add 3) λc=>bn (u.ins a (bC #[ao ac] 3 (0,0))) (am a) λd=>bj (gY 125 (dP c) (ao d) ak) [bg.one aL.slice,bg.one aL.bool] (u.ins a (bC #[ao ac] 3 (0,0))) λ(_:U)(e:aK)f=>cK (e=ak) (K ax 0 f) (bk a0 λg=>fe f (g.add 3) λi=>bn f (am a) λj=>bj (tq #[125,3] 0 #[dP i,ao j]) [] f λk=>eg k λl=>H.aO (k.ins l (bC #[P4] 324 (0,0))) (am l) [jv (kD 256) #[] #[aZ (some (am a)),aZ (some (am l))]] λm=>bk a0 λn=>pV m (am l) λz=>eD m (n.add 2) λp=>hY aH z #[aZ p] [] m λ(q:H)=>K ak 0 q))):C.KA a0 ac u K:=aY [3,8] Tryz.func251 [] h
def aG.TZ(a0:bV)(u:H)(K:o->Q)(h:aV (a0=none) (K 0 u) (bk a0 λa=>fe u (a.add 3) λb=>bj (rK #[125] 3 #[dP b]) cv u λ(c:o)d=>K c d)):C.TZ a0 u K:=aY [] Tryz.func252 [] h
def aG.T0(a0:bV)(ci:o)(cy:U)(u:H)(K:aK->o->Q)(h:aV (a0=none) (K ax 3 u) (bk a0 λa=>fe u (a.add 3) λb=>bj (gY 125 (dP b) (ao ci) ak) [bg.one aL.slice,bg.one aL.bool] u λ(_:U)(c:aK)d=>bk a0 λe=>bk a0 λf=>bn d e λg=>fe d (f.add 3) λi=>bj (rK #[125] 3 #[dP i]) cv d λ(j:o)k=>H.le d k/\C.q9 ci cy g c j k λl m=>cK (l=0) (K ax l m) (C.KA a0 ci m λ_ _ n=>C.iH cy n λz p=>bk a0 λq=>fe p (q.add 3) λr=>bj (unit (lx 125 (dP r) (ao ci) (vs z))) [] p λs=>bk a0 λt=>eD s (t.add 2) λv=>aV (v=none) (bj (dL 22 1 #[(0,c3 #[ao ci,vs z])]) bl s λ(w:U)x=>C.DT a0 w x λy Y=>bk a0 λbW=>H.aO Y (bW.add 2) [aZ y] λbZ=>K (ww (decide (c=ak))) 0 bZ) (bk a0 λw=>eD s (w.add 2) λx=>gB (ay bc) x s λy Y bW=>gB o 0 bW λbZ cg cP=>aV (cg<(z.n:o)) (bB z cg λcj=>bn cP (a8 cj cg 1) λcQ=>bk Y λc0=>bk Y λdF=>bu cP (c0.add 1) λcL=>bu cP (dF.add 1) λdU=>bB dU cg λbT=>bn cP (a8 bT cg 1) λa6=>bB cL cg λfq=>H.aO cP (a8 fq cg 1) [ao (ite (cQ<a6) cQ a6)] λe6=>bk Y λgb=>bk Y λfL=>bu e6 (gb.add 2) λhg=>bu e6 (fL.add 2) λgk=>bB gk cg λjm=>bn e6 (a8 jm cg 1) λiX=>bB hg cg λkT=>H.aO e6 (a8 kT cg 1) [ao (ite (cQ>iX) cQ iX)] λlf=>bo (cg+1)/\bZ (cg+1) lf) (bk Y λcj=>bu cP (cj.add 7) λcQ=>aV ((cQ.n:o)=0) (bk Y λc0=>bu cP (c0.add 6) λdF=>bj (dL 22 1 #[(0,c3 #[ao ci,vs z])]) bl cP λ(cL:U)dU=>H.le cP dU/\bj (ey #[22,22] 22 #[vs dF,vs cL]) bl dU λ(bT:U)a6=>bk Y λfq=>H.aO a6 (fq.add 6) [vs bT] λe6=>bk Y λgb=>bk a0 λfL=>bu e6 (gb.add 6) λhg=>bn e6 (fL.add 1) λgk=>aV (gk<(hg.n:o)) (bk Y λjm=>bu e6 (jm.add 6) λiX=>C.DT a0 iX e6 λkT lf=>bk kT λdM=>bn lf dM λoV=>bu lf (dM.add 1) λkm=>bu lf (dM.add 2) λbe=>ef lf (dM.add 3) λhZ=>ef lf (dM.add 4) λlT=>bu lf (dM.add 5) λot=>bu lf (dM.add 6) λkU=>bu lf (dM.add 7) λE3=>bk Y λeK=>H.aO lf eK [ao oV,vs km,vs be,bG hZ,bG lT,vs ot,vs kU,vs E3] λvq=>K (ww (decide (c=ak))) 0 vq) (K (ww (decide (c=ak))) 0 e6)) (bk Y λc0=>bu cP (c0.add 7) λdF=>bB dF 0 λcL=>eD cP (cL.add 0) λdU=>bk dU λbT=>bn cP bT λa6=>bu cP (bT.add 1) λfq=>bu cP (bT.add 2) λe6=>ef cP (bT.add 3) λgb=>ef cP (bT.add 4) λfL=>bu cP (bT.add 5) λhg=>C.vi a6 fq e6 gb fL hg z cP λgk jm _ iX=>bk Y λkT=>bu iX (kT.add 7) λlf=>bj (h6 211 (vs lf) (some (ao 1)) none none) bl iX λ(dM:U)oV=>BH (ay bc) o o o dU 0 gk jm oV λkm be hZ lT ot kU=>aV (hZ<(dM.n:o)) (bB dM hZ λE3=>eD kU (a8 E3 hZ 1) λeK=>bk eK λvq=>bn kU vq λtV=>bu kU (vq.add 1) λRI=>bu kU (vq.add 2) λWT=>ef kU (vq.add 3) λWU=>ef kU (vq.add 4) λaoy=>bu kU (vq.add 5) λbs=>C.vi tV RI WT WU aoy bs z kU λWV bv _ WY=>gL aK (λoW afh=>dR oW (bo (hZ+1)/\km eK (hZ+1) WV bv afh) (bo (hZ+1)/\km be (hZ+1) lT ot afh)) λoW=>aV (WV<lT) (oW ak WY) (aV (WV=lT) (oW (decide (bv<ot)) WY) (oW ax WY))) (y be kU))))))):C.T0 a0 ci cy u K:=aY [] Tryz.func253 [a6 8188 [(11,.ptr)],a6 262018 [(86,b2)],(4192378,⟨[(14,.ptr),(153,b2)],[(2,[.int .u64,.int .u64])]⟩),a6 536624435 [(184,.bool)]] h
def aG.T1(a0:bV)(u:H)(K:U->Q)(h:aV (a0=none) (K bm u) (bk a0 λa=>fe u (a.add 3) λb=>bj (rJ 125 (dP b)) ee u λ(c:ay bc)d=>gB U bm d λe f g=>w0 aH (aZ c) g (λ(i:H)=>C.kV f i λj k=>K j k) λ(_:ap)(_:ap)(i:H)=>wZ aH (aZ c) i λ(j:ap)(k:ap)(l:H)=>sF (aL.int cq) j λ(m:o)=>sF aL.slice k λ(n:U)=>bj (dL 22 1 #[(0,c3 #[ao m,vs n])]) bl l λ(z:U)p=>bj (ey #[22,22] 22 #[vs f,vs z]) bl p λ(q:U)r=>e q r)):C.T1 a0 u K:=Fw (C:={P:=aH,exp:=[],wrap:=ax,ik:=ik,ou:=[15],oG:=[13]}) (args:=[(hy a0)]) (nR _ _) Tryz.func254 (by kernel_rfl) [a6 122 [(3,.slice)]] (by kernel_rfl) (by kernel_rfl) (p3 (by kernel_rfl) h)
def aG.T2(a0:bV)(ac:U)(a2 a3:o)(u:H)(K:U->U->U->o->Q)(h:aV (a0=none) (K bm bm bm 3 u) (bk a0 λa=>bn u a λb=>C.qq ac b a2 a3 u λc d=>cK (c=0) (K bm bm bm c d) (eg d λe=>vZ (λf=>bu f (am e) λg=>nM (jv (kD 262) #[aZ a0] #[]) #[vs g,vs ac,ao a2,ao a3] [bg.agg [aL.slice,aL.slice,aL.slice]] f λ(i:U)(j:U)(k:U)l=>K i j k 0 l) λf=>bk a0 λg=>eD (d.ins e (bC #[vs bm] 211 (0,0))) (g.add 2) λi=>cK (i=none) (bk a0 λj=>eD (d.ins e (bC #[vs bm] 211 (0,0))) (j.add 2) λk=>nM (jv (kD 261) #[] #[aZ (some (am e))]) #[aZ k] [] (d.ins e (bC #[vs bm] 211 (0,0))) λl=>f l) (f (d.ins e (bC #[vs bm] 211 (0,0))))))):C.T2 a0 ac a2 a3 u K:=aY [11] Tryz.func255 [a6 63 []] h
def aG.TY(a0:bV)(ac a2:bc)(u:H)(K:Q)(h:bk a0 λa=>bu u (a.add 6) λb=>C.Cd b (jv (kD 258) #[] #[aZ (some ac)]) u λc d=>bk a0 λe=>H.aO d (e.add 6) [vs c] λf=>bk a0 λg=>bu f (g.add 7) λi=>gB o 0 f λj k l=>aV (k<(i.n:o)) (bB i k λm=>eD l (a8 m k 1) λn=>pV l a2 λz=>nM z #[aZ n] [] l λp=>bo (k+1)/\j (k+1) p) (K l)):C.TY a0 ac a2 u K:=ov 1 [] Tryz.func256 [a6 14 [(20,b2)]] h
def aG.Cd(a0:U)(ac:ap)(u:H)(K:U->Q)(h:C.Ce a0 ac u λa b=>aV (a=-1) (K a0 b) (bo (a+1)/\ix o o a (a+1) b λc d e f=>aV (e<(a0.n:o)) (bB a0 e λg=>bn f (a8 g e 2) λi=>bu f ((a8 g e 2).add 1) λj=>nM ac #[c3 #[ao i,vs j]] eM f λ(k:aK)l=>cK (k=ak) (bB a0 d λm=>H.aO l (a8 m d 2) [ao i,vs j] λn=>bo (d+1)/\bo (e+1)/\c (d+1) (e+1) n) (bo (e+1)/\c d (e+1) l)) (bj (h6 22 (vs a0) (some (ao d)) none none) bl f λ(g:U)i=>bj (p1 #[22] 0 #[vs g]) [] i λj=>bj (h6 22 (vs a0) none (some (ao d)) none) bl j λ(k:U)l=>K k l))):C.Cd a0 ac u K:=aY [] Tryz.func257 [a6 122 [(5,b2),(6,b2)]] h
def aG.abx(cc:o)(cp:U)(ac:bc)(u:H)(K:aK->Q)(h:bn u ac λa=>K (decide (cc=a)) u):C.abx cc cp ac u K:=ov 1 [] Tryz.func258 [] h
def aG.q9(cc:o)(cp:U)(ac:o)(a2:aK)(a3:o)(u:H)(K:o->Q)(h:C.iA cp ac u λa b=>gL aK (λc d=>dR c (K 50 d) (cK (a=0) (K a d) (cK (a2=ak) (aV ((512:o)<=a3) (K 2 d) (K 0 d)) (K 0 d)))) λc=>aV (cc<1) (c ak b) (c (decide ((1000000000:o)<cc)) b)):C.q9 cc cp ac a2 a3 u K:=aY [] Tryz.func259 [a6 26 [(14,.bool)]] h
def aG.qq(a0:U)(ac a2 a3:o)(u:H)(K:o->Q)(h:C.iA a0 ac u λa b=>cK (a=0) (K a b) (aV (a2<1) (K 1 b) (aV ((64:o)<a2) (K 1 b) (aV (a3<0) (K 1 b) (aV ((1000000:o)<a3) (K 1 b) (K 0 b)))))):C.qq a0 ac a2 a3 u K:=aY [] Tryz.func260 [] h
def aG.aby(a0:bV)(ac:bc)(u:H)(K:Q)(h:bu u ac λa=>bj (dL 211 1 #[(0,aZ a0)]) bl u λ(b:U)c=>bj (ey #[211,211] 211 #[vs a,vs b]) bl c λ(d:U)e=>H.aO e ac [vs d] λf=>K f):C.aby a0 ac u K:=ov 1 [] Tryz.func261 [] h
def aG.abA(a0:bV)(ac a2:U)(a3 a4:o)(u:H)(K:U->U->U->Q)(h:C.ua ac a2 a3 a4 u λa b c d=>K a b c d):C.abA a0 ac a2 a3 a4 u K:=aY [] Tryz.func262 [] h
def aG.Ce(a0:U)(ac:ap)(u:H)(K:o->Q)(h:ix o o 0 0 u λa b c d=>aV (c<(a0.n:o)) (bB a0 c λe=>bn d (a8 e c 2) λf=>bu d ((a8 e c 2).add 1) λg=>nM ac #[c3 #[ao f,vs g]] eM d λ(i:aK)j=>dR i (K c j) (bo (c+1)/\a b (c+1) j)) (K (-1) d)):C.Ce a0 ac u K:=aY [] Tryz.func263 [a6 26 [(4,b2),(8,b2)]] h
def aG.ua(a0 ac:U)(a2 a3:o)(u:H)(K:U->U->U->Q)(h:eg u λa=>C.sy a2 (u.ins a (bC #[vs ac] 30 (0,0))) λb _ c=>eg c λd=>H.aO (c.ins d (bC #[aZ none] 90 (0,0))) (am d) [aZ b] λe=>eg e λf=>gB o 0 (e.ins f (bC #[vs bm] 331 (0,0))) λg i j=>aV (i<(a0.n:o)) (bB a0 i λk=>eD j (a8 k i 1) λl=>nM (jv (kD 265) #[] #[aZ (some (am a)),aZ (some (am f))]) #[aZ l] [] j λm=>bo (i+1)/\g (i+1) m) (ajQ U U U (λk l m n=>bu n (am f) λz=>BH o U U U 0 k l m n λp q r s t v=>aV (q<(z.n:o)) (bB z q λw=>eD v (a8 w q 3) λx=>ef v ((a8 w q 3).add 1) λ_=>ef v ((a8 w q 3).add 2) λ_=>C.C7 x v λy Y=>aV ((0:o)<(y.n:o)) (bk x λbW=>bn Y bW λbZ=>bu Y (bW.add 1) λcg=>bu Y (bW.add 2) λcP=>ef Y (bW.add 3) λcj=>ef Y (bW.add 4) λcQ=>bu Y (bW.add 5) λc0=>C.AN bZ cg cP cj cQ c0 y Y λdF cL dU bT a6 fq e6=>H.le Y e6/\bj (dL 39 1 #[(0,c3 #[ao dF,vs cL,vs dU,bG bT,bG a6,vs fq])]) bl e6 λ(gb:U)fL=>H.le Y fL/\bj (ey #[39,39] 39 #[vs t,vs gb]) bl fL λ(hg:U)gk=>bo (q+1)/\p (q+1) r s hg gk) (bo (q+1)/\p (q+1) r s t Y)) (C.rQ s v λw=>eD w (am d) λx=>C.qV x w λy Y=>K y s t Y)) λk=>G8 U U U bm bm bm j λl m n z p=>vZ (λq=>C.vH (mj 332 (aZ (some (am f)))) q λr s=>bj (tp r 20 334 ax) [bg.agg [aL.ptr,aL.int bR,aL.int bR]] s λ(t:ay bc)(_:o)(_:o)v=>bk t λw=>bu v (w.add 7) λx=>gB o 0 v λy Y bW=>aV (Y<(x.n:o)) (bB x Y λbZ=>eD bW (a8 bZ Y 1) λcg=>nM (jv (kD 265) #[] #[aZ (some (am a)),aZ (some (am f))]) #[aZ cg] [] bW λcP=>bo (Y+1)/\y (Y+1) cP) (bk t λbZ=>bu bW (bZ.add 6) λcg=>BH o U U U 0 m n z bW λcP cj cQ c0 dF cL=>aV (cj<(cg.n:o)) (bB cg cj λdU=>bn cL (a8 dU cj 2) λbT=>bu cL ((a8 dU cj 2).add 1) λa6=>aV ((c0.n:o)=a3) (bk t λfq=>bk t λe6=>bn cL fq λgb=>bu cL (fq.add 1) λfL=>bu cL (fq.add 2) λhg=>ef cL (fq.add 3) λgk=>ef cL (fq.add 4) λjm=>bu cL (fq.add 5) λiX=>bu cL (e6.add 6) λkT=>bj (h6 22 (vs kT) (some (ao cj)) none none) bl cL λ(lf:U)dM=>H.le cL dM/\C.AN gb fL hg gk jm iX lf dM λoV km be hZ lT ot kU=>H.le cL kU/\bj (dL 39 1 #[(0,c3 #[ao oV,vs km,vs be,bG hZ,bG lT,vs ot])]) bl kU λ(E3:U)eK=>H.le cL eK/\bj (ey #[39,39] 39 #[vs dF,vs E3]) bl eK λ(vq:U)tV=>l cQ c0 vq tV) (bu cL (am a) λfq=>C.lD a6 fq cL λe6 gb _ fL=>eD fL (am d) λhg=>C.qW hg bT e6 gb fL λ_ gk=>bj (dL 30 1 #[(0,ao bT)]) bl gk λ(jm:U)iX=>bj (ey #[30,30] 30 #[vs c0,vs jm]) bl iX λ(kT:U)lf=>bo (cj+1)/\cP (cj+1) cQ kT dF lf)) (l cQ c0 dF cL))) λq=>bu p (am f) λr=>C.MM r p λs t=>aV ((0:o)<s) (aV ((n.n:o)<a3) (bu t (am f) λv=>bB v 0 λw=>ef t ((w.add 0).add 1) λx=>ef t (((w.add 0).add 1).add 1) λy=>nM (jv (kD 266) #[] #[aZ (some (am d))]) #[c3 #[bG x,bG y]] eM t λ(Y:aK)bW=>cK (Y=ak) (q bW) (k m n z bW)) (k m n z t)) (k m n z t))):C.ua a0 ac a2 a3 u K:=aY [5,10,12] Tryz.func264 [a6 506 [(35,b2)],(255,⟨[],[(1,[.slice,.slice,.slice])]⟩),(4090,⟨[(134,b2)],[(1,[.slice,.slice,.slice])]⟩),(1020,⟨[],[(1,[.slice,.slice,.slice])]⟩),a6 2040 [],a6 130602 [(72,b2)],(130606,⟨[(85,b2)],[(1,[.slice,.slice,.slice])]⟩)] h
def aG.Fu(a0:bV)(ac a2:bc)(u:H)(K:Q)(h:bk a0 λa=>bn u a λb=>bu u (a.add 1) λc=>bu u (a.add 2) λd=>ef u (a.add 3) λe=>ef u (a.add 4) λf=>bu u (a.add 5) λg=>bu u ac λi=>(C.vi b c d e f g i u λj k _ l=>H.le u l/\C.r7 (mj 332 (aZ (some a2))) (mj 334 (c3 #[aZ a0,bG j,bG k])) l λm=>K m)/\H.le u u/\C.vi b c d e f g i u λj k _ l=>C.r7 (mj 332 (aZ (some a2))) (mj 334 (c3 #[aZ a0,bG j,bG k])) l λm=>K m):C.Fu a0 ac a2 u K:=ov 1 [] Tryz.func265 [] h
def aG.Fv(cc cp:o)(ac:bc)(u:H)(K:aK->Q)(h:eD u ac λa=>C.VZ a u λ_ b c _ d=>eD d ac λe=>C.QS e d λf g=>dR f (C.mr cc cp b c g λi j=>K (decide ((0:o)<i)) j) (K ax g)):C.Fv cc cp ac u K:=ov 1 [] Tryz.func266 [] h
def aG.VZ(a0:bV)(u:H)(K:o->o->o->aK->Q)(h:C.Ir a0 u λa b=>aV (a=0) (K 0 0 0 ax b) (bk a0 λc=>bu b (c.add 1) λd=>bB d 0 λe=>bn b (e.add 0) λf=>ef b ((e.add 0).add 1) λg=>ef b ((e.add 0).add 2) λi=>K f g i ak b)):C.VZ a0 u K:=aY [] Tryz.func267 [] h
def aG.MM(a0:U)(u:H)(K:o->Q)(h:K (a0.n:o) u):C.MM a0 u K:=aY [] Tryz.func268 [] h
def aG.AN(cc:o)(cp eU:U)(ii nh:o)(oT ac:U)(u:H)(K:o->U->U->o->o->U->Q)(h:C.iH cp u λa b=>H.le u b/\C.iH eU b λc d=>awh o o U U o o U 0 cc a c ii nh bm d λe f g i j k l m n=>aV (f<(ac.n:o)) (bB ac f λz=>bn n (a8 z f 2) λp=>bu n ((a8 z f 2).add 1) λ_=>bj (dL 30 1 #[(0,ao p)]) bl n λ(q:U)r=>bj (ey #[30,30] 30 #[vs m,vs q]) bl r λ(s:U)t=>bo (f+1)/\e (f+1) g i j k l s t) (C.rQ m n λz=>K g i j k l m z)):C.AN cc cp eU ii nh oT ac u K:=aY [] Tryz.func269 [(58,⟨[(18,b2)],[(0,[.int .i64,.slice,.slice,.int .u64,.int .u64,.slice])]⟩)] h
def aG.C7(a0:bV)(u:H)(K:U->Q)(h:bk a0 λa=>bu u (a.add 6) λb=>C.kO b u λc d=>bk a0 λe=>bu d (e.add 7) λf=>ix U o c 0 d λg i j k=>aV (j<(f.n:o)) (bB f j λl=>eD k (a8 l j 1) λm=>C.C7 m k λn z=>bj (ey #[22,22] 22 #[vs i,vs n]) bl z λ(p:U)q=>bo (j+1)/\g p (j+1) q) (K i k)):C.C7 a0 u K:=aY [] Tryz.func270 [a6 58 [(3,.slice),(16,b2)]] h
def aG.LP(a0:bV)(ac:o)(u:H)(K:aK->o->Q)(h:eg u λa=>aV (a0=none) (K ax 3 (u.ins a (bC #[ao ac] 3 (0,0)))) (bk a0 λb=>fe (u.ins a (bC #[ao ac] 3 (0,0))) (b.add 4) λc=>bn (u.ins a (bC #[ao ac] 3 (0,0))) (am a) λd=>bj (gY 125 (dP c) (ao d) ak) [bg.one aL.slice,bg.one aL.bool] (u.ins a (bC #[ao ac] 3 (0,0))) λ(_:U)(e:aK)f=>cK (e=ak) (K ax 0 f) (bk a0 λg=>fe f (g.add 4) λi=>bn f (am a) λj=>bj (tq #[125,3] 0 #[dP i,ao j]) [] f λk=>eg k λl=>H.aO (k.ins l (bC #[P4] 324 (0,0))) (am l) [jv (kD 276) #[] #[aZ (some (am a)),aZ (some (am l))]] λm=>bk a0 λn=>pV m (am l) λz=>eD m (n.add 3) λp=>hY aH z #[aZ p] [] m λ(q:H)=>K ak 0 q))):C.LP a0 ac u K:=aY [3,8] Tryz.func271 [] h
def aG.Wg(a0:bV)(u:H)(K:o->Q)(h:aV (a0=none) (K 0 u) (bk a0 λa=>fe u (a.add 4) λb=>bj (rK #[125] 3 #[dP b]) cv u λ(c:o)d=>K c d)):C.Wg a0 u K:=aY [] Tryz.func272 [] h
def aG.Wh(a0:bV)(ci:o)(cy:U)(u:H)(K:aK->o->Q)(h:aV (a0=none) (K ax 3 u) (bk a0 λa=>fe u (a.add 4) λb=>bj (gY 125 (dP b) (ao ci) ak) [bg.one aL.slice,bg.one aL.bool] u λ(_:U)(c:aK)d=>bk a0 λe=>bk a0 λf=>bn d e λg=>fe d (f.add 4) λi=>bj (rK #[125] 3 #[dP i]) cv d λ(j:o)k=>H.le d k/\C.q9 ci cy g c j k λl m=>cK (l=0) (K ax l m) (C.LP a0 ci m λ_ _ n=>gL bc (λz p=>bk a0 λq=>fe p (q.add 4) λr=>bn p z λs=>bu p (z.add 1) λt=>bj (unit (lx 125 (dP r) (ao s) (vs t))) [] p λv=>bk a0 λw=>eD v (w.add 3) λx=>aV (x=none) (bn v z λy=>bu v (z.add 1) λY=>bj (dL 22 1 #[(0,c3 #[ao y,vs Y])]) bl v λ(bW:U)bZ=>C.EF a0 bW bZ λcg cP=>bk a0 λcj=>H.aO cP (cj.add 3) [aZ cg] λcQ=>K (ww (decide (c=ak))) 0 cQ) (bk a0 λy=>eD v (y.add 3) λY=>gB (ay bc) Y v λbW bZ cg=>bu cg (z.add 1) λcP=>C.Rb bZ cP cg λ_ _ cj=>bk bZ λcQ=>bu cj (cQ.add 7) λc0=>aV ((c0.n:o)=0) (bk bZ λdF=>bu cj (dF.add 6) λcL=>bn cj z λdU=>bu cj (z.add 1) λbT=>bj (dL 22 1 #[(0,c3 #[ao dU,vs bT])]) bl cj λ(a6:U)fq=>H.le cj fq/\bj (ey #[22,22] 22 #[vs cL,vs a6]) bl fq λ(e6:U)gb=>bk bZ λfL=>H.aO gb (fL.add 6) [vs e6] λhg=>bk bZ λgk=>bk a0 λjm=>bu hg (gk.add 6) λiX=>bn hg (jm.add 1) λkT=>aV (kT<(iX.n:o)) (bk bZ λlf=>bu hg (lf.add 6) λdM=>C.EF a0 dM hg λoV km=>bk oV λbe=>bn km be λhZ=>bu km (be.add 1) λlT=>bu km (be.add 2) λot=>ef km (be.add 3) λkU=>ef km (be.add 4) λE3=>bu km (be.add 5) λeK=>bu km (be.add 6) λvq=>bu km (be.add 7) λtV=>bk bZ λRI=>H.aO km RI [ao hZ,vs lT,vs ot,bG kU,bG E3,vs eK,vs vq,vs tV] λWT=>K (ww (decide (c=ak))) 0 WT) (K (ww (decide (c=ak))) 0 hg)) (gL bc (λdF cL=>gL bc (λdU bT=>ef bT dF λa6=>ef bT (dF.add 1) λfq=>ef bT dU λe6=>ef bT (dU.add 1) λgb=>C.mr a6 fq e6 gb bT λfL hg=>aV (fL<=0) (bk bZ λgk=>bu hg (gk.add 7) λjm=>bB jm 0 λiX=>eD hg (iX.add 0) λkT=>bW kT hg) (bk bZ λgk=>bu hg (gk.add 7) λjm=>bB jm 1 λiX=>eD hg (iX.add 1) λkT=>bW kT hg)) λdU=>bk bZ λbT=>bu cL (bT.add 7) λa6=>bB a6 1 λfq=>eD cL (fq.add 1) λe6=>bk e6 λgb=>bu cL (gb.add 1) λfL=>bu cL (z.add 1) λhg=>(C.lD fL hg cL λgk jm _ iX=>eg iX λkT=>H.le cL (iX.ins kT (bC #[bG 0,bG 0] 66 (0,0)))/\H.aO (iX.ins kT (bC #[bG 0,bG 0] 66 (0,0))) (am kT) [bG gk,bG jm] λlf=>dU (am kT) lf)/\eg cL λgk=>H.le cL (cL.ins gk (bC #[bG 0,bG 0] 66 (0,0)))/\C.lD fL hg (cL.ins gk (bC #[bG 0,bG 0] 66 (0,0))) λjm iX _ kT=>H.aO kT (am gk) [bG jm,bG iX] λlf=>dU (am gk) lf) λdF=>bk bZ λcL=>bu cj (cL.add 7) λdU=>bB dU 0 λbT=>eD cj (bT.add 0) λa6=>bk a6 λfq=>bu cj (fq.add 1) λe6=>bu cj (z.add 1) λgb=>(C.lD e6 gb cj λfL hg _ gk=>eg gk λjm=>H.le cj (gk.ins jm (bC #[bG 0,bG 0] 66 (0,0)))/\H.aO (gk.ins jm (bC #[bG 0,bG 0] 66 (0,0))) (am jm) [bG fL,bG hg] λiX=>dF (am jm) iX)/\eg cj λfL=>H.le cj (cj.ins fL (bC #[bG 0,bG 0] 66 (0,0)))/\C.lD e6 gb (cj.ins fL (bC #[bG 0,bG 0] 66 (0,0))) λhg gk _ jm=>H.aO jm (am fL) [bG hg,bG gk] λiX=>dF (am fL) iX))) λz=>(C.iH cy n λp q=>H.le n q/\eg q λr=>H.le n (q.ins r (bC #[ao 0,vs bm] 52 (0,0)))/\H.aO (q.ins r (bC #[ao 0,vs bm] 52 (0,0))) (am r) [ao ci,vs p] λs=>z (am r) s)/\eg n λp=>H.le n (n.ins p (bC #[ao 0,vs bm] 52 (0,0)))/\C.iH cy (n.ins p (bC #[ao 0,vs bm] 52 (0,0))) λq r=>H.le n r/\H.aO r (am p) [ao ci,vs q] λs=>z (am p) s))):C.Wh a0 ci cy u K:=aY [9,11,13] Tryz.func273 [a6 111 [(9,.addr)],a6 14332 [(10,.ptr)],a6 229315 [(11,.addr)],a6 458631 [(13,.addr)]] h
def aG.Wi(a0:bV)(u:H)(K:U->Q)(h:aV (a0=none) (K bm u) (bk a0 λa=>fe u (a.add 4) λb=>bj (rJ 125 (dP b)) ee u λ(c:ay bc)d=>gB U bm d λe f g=>w0 aH (aZ c) g (λ(i:H)=>C.kV f i λj k=>K j k) λ(_:ap)(_:ap)(i:H)=>wZ aH (aZ c) i λ(j:ap)(k:ap)(l:H)=>sF (aL.int cq) j λ(m:o)=>sF aL.slice k λ(n:U)=>bj (dL 22 1 #[(0,c3 #[ao m,vs n])]) bl l λ(z:U)p=>bj (ey #[22,22] 22 #[vs f,vs z]) bl p λ(q:U)r=>e q r)):C.Wi a0 u K:=Fw (C:={P:=aH,exp:=[],wrap:=ax,ik:=ik,ou:=[15],oG:=[13]}) (args:=[(hy a0)]) (nR _ _) Tryz.func274 (by kernel_rfl) [a6 122 [(3,.slice)]] (by kernel_rfl) (by kernel_rfl) (p3 (by kernel_rfl) h)
def aG.Wj(a0:bV)(ac:U)(a2 a3:o)(u:H)(K:U->U->U->o->Q)(h:aV (a0=none) (K bm bm bm 3 u) (bk a0 λa=>bn u a λb=>C.qq ac b a2 a3 u λc d=>cK (c=0) (K bm bm bm c d) (bk a0 λe=>eD d (e.add 3) λf=>aV (f=none) (C.ua bm ac a2 a3 d λg i j k=>K g i j 0 k) (bk a0 λg=>eD d (g.add 3) λi=>bj (dL 211 1 #[(0,aZ i)]) bl d λ(j:U)k=>C.ua j ac a2 a3 k λl m n z=>K l m n 0 z)))):C.Wj a0 ac a2 a3 u K:=aY [] Tryz.func275 [] h
def aG.Wf(a0:bV)(ac a2:bc)(u:H)(K:Q)(h:bk a0 λa=>bu u (a.add 6) λb=>C.Cd b (jv (kD 277) #[] #[aZ (some ac)]) u λc d=>bk a0 λe=>H.aO d (e.add 6) [vs c] λf=>bk a0 λg=>bu f (g.add 7) λi=>gB o 0 f λj k l=>aV (k<(i.n:o)) (bB i k λm=>eD l (a8 m k 1) λn=>pV l a2 λz=>nM z #[aZ n] [] l λp=>bo (k+1)/\j (k+1) p) (K l)):C.Wf a0 ac a2 u K:=ov 1 [] Tryz.func276 [a6 14 [(20,b2)]] h
def aG.aee(cc:o)(cp:U)(ac:bc)(u:H)(K:aK->Q)(h:bn u ac λa=>K (decide (cc=a)) u):C.aee cc cp ac u K:=ov 1 [] Tryz.func277 [] h
def aG.Rb(a0:bV)(ac:U)(u:H)(K:o->o->Q)(h:bk a0 λa=>bu u (a.add 1) λb=>C.lD b ac u λc d _ e=>bk a0 λf=>ef e (f.add 3) λg=>ef e ((f.add 3).add 1) λi=>C.mr c d g i e λj k=>aV ((0:o)<j) (bk a0 λl=>H.aO k (l.add 3) [bG c,bG d] λm=>K c d m) (K c d k)):C.Rb a0 ac u K:=aY [] Tryz.func278 [] h
def aG.O6(a0:bV)(ac:o)(u:H)(K:aK->o->Q)(h:eg u λa=>aV (a0=none) (K ax 3 (u.ins a (bC #[ao ac] 3 (0,0)))) (bk a0 λb=>fe (u.ins a (bC #[ao ac] 3 (0,0))) (b.add 3) λc=>bn (u.ins a (bC #[ao ac] 3 (0,0))) (am a) λd=>bj (gY 175 (dP c) (ao d) ak) [bg.one (aL.int cq),bg.one aL.bool] (u.ins a (bC #[ao ac] 3 (0,0))) λ(e:o)(f:aK)g=>cK (f=ak) (K ax 0 g) (bk a0 λi=>fe g (i.add 3) λj=>bn g (am a) λk=>bj (tq #[175,3] 0 #[dP j,ao k]) [] g λl=>bk a0 λm=>bu l (m.add 2) λn=>bB n e λz=>bu l (a8 z e 1) λp=>C.Ce p (jv (kD 284) #[] #[aZ (some (am a))]) l λq r=>bk a0 λs=>bo (q+1)/\bu r (s.add 2) λt=>(bj (h6 22 (vs p) none (some (ao q)) (some (ao q))) bl r λ(v:U)w=>H.le r w/\bj (h6 22 (vs p) (some (ao (q+1))) none none) bl w λ(x:U)y=>H.le r y/\bj (ey #[22,22] 22 #[vs v,vs x]) bl y λ(Y:U)bW=>H.le r bW/\bB t e λbZ=>H.aO bW (a8 bZ e 1) [vs Y] λcg=>K ak 0 cg)/\bj (h6 22 (vs p) (some (ao (q+1))) none none) bl r λ(v:U)w=>H.le r w/\bj (h6 22 (vs p) none (some (ao q)) (some (ao q))) bl w λ(x:U)y=>H.le r y/\bj (ey #[22,22] 22 #[vs x,vs v]) bl y λ(Y:U)bW=>H.le r bW/\bB t e λbZ=>H.aO bW (a8 bZ e 1) [vs Y] λcg=>K ak 0 cg))):C.O6 a0 ac u K:=aY [3] Tryz.func279 [] h
def aG.TQ(a0:bV)(u:H)(K:o->Q)(h:aV (a0=none) (K 0 u) (bk a0 λa=>fe u (a.add 3) λb=>bj (rK #[175] 3 #[dP b]) cv u λ(c:o)d=>K c d)):C.TQ a0 u K:=aY [] Tryz.func280 [] h
def aG.TR(a0:bV)(ci:o)(cy:U)(u:H)(K:aK->o->Q)(h:aV (a0=none) (K ax 3 u) (bk a0 λa=>fe u (a.add 3) λb=>bj (gY 175 (dP b) (ao ci) ak) [bg.one (aL.int cq),bg.one aL.bool] u λ(_:o)(c:aK)d=>bk a0 λe=>bk a0 λf=>bn d e λg=>fe d (f.add 3) λi=>bj (rK #[175] 3 #[dP i]) cv d λ(j:o)k=>H.le d k/\C.q9 ci cy g c j k λl m=>cK (l=0) (K ax l m) (C.O6 a0 ci m λ_ _ n=>C.iH cy n λz p=>H.le n p/\C.GS a0 ci z p λq=>K (ww (decide (c=ak))) 0 q))):C.TR a0 ci cy u K:=aY [] Tryz.func281 [] h
def aG.TS(a0:bV)(u:H)(K:U->Q)(h:aV (a0=none) (K bm u) (bk a0 λa=>bu u (a.add 2) λb=>C.Ia b u λc d=>C.kV c d λe f=>K e f)):C.TS a0 u K:=aY [] Tryz.func282 [] h
def aG.TT(a0:bV)(ac:U)(a2 a3:o)(u:H)(K:U->U->U->o->Q)(h:aV (a0=none) (K bm bm bm 3 u) (bk a0 λa=>bn u a λb=>C.qq ac b a2 a3 u λc d=>cK (c=0) (K bm bm bm c d) (bk a0 λe=>bu d (e.add 2) λf=>ix U o bm 0 d λg i j k=>aV (j<(f.n:o)) (bB f j λl=>bu k (a8 l j 1) λm=>bk a0 λn=>bu k (n.add 1) λz=>bB z j λp=>bu k (a8 p j 1) λq=>C.Cr q m k λr s t v w _ _ x=>eg x λy=>bj (dL 211 1 #[(0,aZ (some (am y)))]) bl (x.ins y (bC #[ao r,vs s,vs t,bG v,bG w,vs bm,vs m,vs bm] 213 (0,0))) λ(Y:U)bW=>bj (ey #[211,211] 211 #[vs i,vs Y]) bl bW λ(bZ:U)cg=>bo (j+1)/\g bZ (j+1) cg) (C.ua i ac a2 a3 k λl m n z=>K l m n 0 z)))):C.TT a0 ac a2 a3 u K:=aY [58] Tryz.func283 [a6 250 [(11,.slice),(36,b2)]] h
def aG.abj(cc:o)(cp:U)(ac:bc)(u:H)(K:aK->Q)(h:bn u ac λa=>K (decide (cc=a)) u):C.abj cc cp ac u K:=ov 1 [] Tryz.func284 [] h
def aG.Ia(a0:U)(u:H)(K:U->Q)(h:ix o o 0 0 u λa b c d=>aV (c<(a0.n:o)) (bB a0 c λe=>bu d (a8 e c 1) λf=>bo (b+(f.n:o))/\aV (b+(f.n:o)<0) eh (bo (c+1)/\a (b+(f.n:o)) (c+1) d)) (C.Ie bm b d λe f=>ix U o e 0 f λg i j k=>aV (j<(a0.n:o)) (bB a0 j λl=>bu k (a8 l j 1) λm=>bj (ey #[22,22] 22 #[vs i,vs m]) bl k λ(n:U)z=>bo (j+1)/\g n (j+1) z) (K i k))):C.Ia a0 u K:=aY [] Tryz.func285 [a6 58 [(3,b2),(11,b2)],a6 250 [(6,.slice),(27,b2)]] h
def aG.Ie(a0:U)(ac:o)(u:H)(K:U->Q)(h:vZ (λa=>bo ((a0.c:o)-(a0.n:o))/\bo (ac-((a0.c:o)-(a0.n:o)))/\aV ((0:o)<ac-((a0.c:o)-(a0.n:o))) (bj (h6 22 (vs a0) none (some (ao (a0.c:o))) none) bl a λ(b:U)c=>bj (ey #[22,3] 22 #[vs b,ao (ac-((a0.c:o)-(a0.n:o)))]) bl c λ(d:U)e=>bj (h6 22 (vs d) none (some (ao (a0.n:o))) none) bl e λ(f:U)g=>K f g) (K a0 a)) λa=>aV (ac<0) eh (a u)):C.Ie a0 ac u K:=aY [] Tryz.func286 [a6 3 []] h
def aG.xG(a0:bV)(ac:o)(u:H)(K:aK->o->Q)(h:eg u λa=>aV (a0=none) (K ax 3 (u.ins a (bC #[ao ac] 3 (0,0)))) (bk a0 λb=>fe (u.ins a (bC #[ao ac] 3 (0,0))) (b.add 3) λc=>bn (u.ins a (bC #[ao ac] 3 (0,0))) (am a) λd=>bj (gY 182 (dP c) (ao d) ak) [bg.one aL.ptr,bg.one aL.bool] (u.ins a (bC #[ao ac] 3 (0,0))) λ(e:ay bc)(f:aK)g=>cK (f=ak) (K ax 0 g) (bk a0 λi=>fe g (i.add 3) λj=>bn g (am a) λk=>bj (tq #[182,3] 0 #[dP j,ao k]) [] g λl=>bk a0 λm=>fe l (m.add 3) λn=>bj (rJ 182 (dP n)) ee l λ(z:ay bc)p=>Po p λq r=>w0 aH (aZ z) r (λ(s:H)=>gB o 0 s λt v w=>aV (v<31) (bk e λx=>2<=31/\((0:o)<=v/\v<(31:o))/\bu w (a8 (x.add 1) v 1) λy=>gB o 1 w λY bW bZ=>aV (bW<(y.n:o)) (gL aK (λcg cP=>dR cg (bo (bW-1)/\bB y (bW-1) λcj=>bB y bW λcQ=>bn cP (a8 cj (bW-1) 1) λc0=>bn cP (a8 cQ bW 1) λdF=>C.Be a0 c0 dF v cP λcL=>bo (bW+1)/\Y (bW+1) cL) (bo (bW+1)/\Y (bW+1) cP)) λcg=>bo (bW-1)/\bB y (bW-1) λcP=>bn bZ (a8 cP (bW-1) 1) λcj=>bn bZ (am a) λcQ=>cK (cj=cQ) (bB y bW λc0=>bn bZ (a8 c0 bW 1) λdF=>bn bZ (am a) λcL=>cK (dF=cL) (bk a0 λdU=>bo (bW-1)/\bB y (bW-1) λbT=>bB y bW λa6=>fe bZ (dU.add 3) λfq=>bn bZ (a8 bT (bW-1) 1) λe6=>bn bZ (a8 a6 bW 1) λgb=>bj (gY 182 (dP fq) (ao e6) ax) ee bZ λ(fL:ay bc)hg=>H.le bZ hg/\bk fL λgk=>2<=31/\((0:o)<=v/\v<(31:o))/\bu hg (a8 (gk.add 1) v 1) λjm=>H.le bZ hg/\C.Ib jm gb hg λiX kT=>cg (ww (decide (iX=ak))) kT) (H.le bZ bZ/\H.le bZ bZ/\cg ax bZ)) (H.le bZ bZ/\H.le bZ bZ/\cg ax bZ)) (bo (v+1)/\t (v+1) bZ)) (bk a0 λx=>bn w (x.add 4) λy=>bn w (am a) λY=>aV (y=Y) (bk a0 λbW=>H.aO w (bW.add 4) [ao 0] λbZ=>bk a0 λcg=>fe bZ (cg.add 3) λcP=>C.KK cP bZ λcj cQ=>C.qa cj cQ λc0 dF=>gB o 0 dF λcL dU bT=>aV (dU<(c0.n:o)) (bB c0 dU λa6=>bn bT (a8 a6 dU 1) λfq=>gL aK (λe6 gb=>dR e6 (bk a0 λfL=>H.aO gb (fL.add 4) [ao fq] λhg=>bo (dU+1)/\cL (dU+1) hg) (bo (dU+1)/\cL (dU+1) gb)) λe6=>bk a0 λgb=>bn bT (gb.add 4) λfL=>aV (fL=0) ((H.le bT bT/\(H.le bT bT/\H.le bT bT/\H.le bT bT/\e6 ak bT)/\H.le bT bT/\(H.le bT bT/\H.le bT bT/\e6 ak bT)/\H.le bT bT/\H.le bT bT/\e6 ak bT)/\H.le bT bT/\(H.le bT bT/\(H.le bT bT/\H.le bT bT/\e6 ak bT)/\H.le bT bT/\H.le bT bT/\e6 ak bT)/\H.le bT bT/\H.le bT bT/\H.le bT bT/\e6 ak bT) (bk a0 λhg=>bk a0 λgk=>bk a0 λjm=>fe bT (hg.add 3) λiX=>fe bT (gk.add 3) λkT=>bn bT (jm.add 4) λlf=>(bj (gY 182 (dP iX) (ao fq) ax) ee bT λ(dM:ay bc)oV=>H.le bT oV/\bk dM λkm=>(bn oV (km.add 32) λbe=>H.le bT oV/\bj (gY 182 (dP kT) (ao lf) ax) ee oV λ(hZ:ay bc)lT=>H.le bT lT/\bk hZ λot=>bn lT (ot.add 32) λkU=>H.le bT lT/\e6 (decide (kU<be)) lT)/\bj (gY 182 (dP kT) (ao lf) ax) ee oV λ(be:ay bc)hZ=>H.le bT hZ/\bk be λlT=>(bn hZ (km.add 32) λot=>H.le bT hZ/\bn hZ (lT.add 32) λkU=>H.le bT hZ/\e6 (decide (kU<ot)) hZ)/\bn hZ (lT.add 32) λot=>H.le bT hZ/\bn hZ (km.add 32) λkU=>H.le bT hZ/\e6 (decide (ot<kU)) hZ)/\bj (gY 182 (dP kT) (ao lf) ax) ee bT λ(dM:ay bc)oV=>H.le bT oV/\bk dM λkm=>(bj (gY 182 (dP iX) (ao fq) ax) ee oV λ(be:ay bc)hZ=>H.le bT hZ/\bk be λlT=>(bn hZ (lT.add 32) λot=>H.le bT hZ/\bn hZ (km.add 32) λkU=>H.le bT hZ/\e6 (decide (kU<ot)) hZ)/\bn hZ (km.add 32) λot=>H.le bT hZ/\bn hZ (lT.add 32) λkU=>H.le bT hZ/\e6 (decide (ot<kU)) hZ)/\bn oV (km.add 32) λbe=>H.le bT oV/\bj (gY 182 (dP iX) (ao fq) ax) ee oV λ(hZ:ay bc)lT=>H.le bT lT/\bk hZ λot=>bn lT (ot.add 32) λkU=>H.le bT lT/\e6 (decide (be<kU)) lT)) (K ak 0 bT)) (K ak 0 w))) λ(_:ap)(_:ap)(s:H)=>wZ aH (aZ z) s λ(_:ap)(t:ap)(v:H)=>sF aL.ptr t λ(w:ay bc)=>gB o 0 v λx y Y=>aV (y<31) (bk w λbW=>2<=31/\((0:o)<=y/\y<(31:o))/\bk w λbZ=>bu Y (a8 (bW.add 1) y 1) λcg=>C.Ic cg (jv (kD 293) #[] #[aZ (some (am a))]) Y λcP cj=>2<=31/\((0:o)<=y/\y<(31:o))/\H.aO cj (a8 (bZ.add 1) y 1) [vs cP] λcQ=>bo (y+1)/\x (y+1) cQ) (q Y)))):C.xG a0 ac u K:=Fw (C:={P:=aH,exp:=[3],wrap:=ax,ik:=ik,ou:=[41],oG:=[39]}) (args:=[(hy a0),(cY cq ac)]) (nR _ _) Tryz.func287 (by kernel_rfl) [a6 506 [],a6 1018 [(60,b2)],a6 521422 [(13,b2)],a6 8342756 [(112,.bool)],a6 16342 [(142,b2)],a6 1045913 [(174,.bool)],a6 64822 [(43,b2)]] (by kernel_rfl) (by kernel_rfl) (p3 (by kernel_rfl) h)
def aG.Dw(a0:bV)(u:H)(K:o->Q)(h:aV (a0=none) (K 0 u) (bk a0 λa=>fe u (a.add 3) λb=>bj (rK #[182] 3 #[dP b]) cv u λ(c:o)d=>K c d)):C.Dw a0 u K:=aY [] Tryz.func288 [] h
def aG.xH(a0:bV)(ci:o)(cy:U)(u:H)(K:aK->o->Q)(h:aV (a0=none) (K ax 3 u) (bk a0 λa=>fe u (a.add 3) λb=>bj (gY 182 (dP b) (ao ci) ak) [bg.one aL.ptr,bg.one aL.bool] u λ(_:ay bc)(c:aK)d=>bk a0 λe=>bk a0 λf=>bn d e λg=>fe d (f.add 3) λi=>bj (rK #[182] 3 #[dP i]) cv d λ(j:o)k=>H.le d k/\C.q9 ci cy g c j k λl m=>cK (l=0) (K ax l m) (C.xG a0 ci m λ_ _ n=>C.iH cy n λz p=>H.le n p/\C.vP a0 ci z p λq=>K (ww (decide (c=ak))) 0 q))):C.xH a0 ci cy u K:=aY [] Tryz.func289 [] h
def aG.Dx(a0:bV)(u:H)(K:U->Q)(h:aV (a0=none) (K bm u) (bk a0 λa=>fe u (a.add 3) λb=>bj (rJ 182 (dP b)) ee u λ(c:ay bc)d=>gB U bm d λe f g=>w0 aH (aZ c) g (λ(i:H)=>C.kV f i λj k=>K j k) λ(_:ap)(_:ap)(i:H)=>wZ aH (aZ c) i λ(j:ap)(k:ap)(l:H)=>sF (aL.int cq) j λ(m:o)=>sF aL.ptr k λ(n:ay bc)=>bk n λz=>bu l z λp=>bj (dL 22 1 #[(0,c3 #[ao m,vs p])]) bl l λ(q:U)r=>bj (ey #[22,22] 22 #[vs f,vs q]) bl r λ(s:U)t=>e s t)):C.Dx a0 u K:=Fw (C:={P:=aH,exp:=[],wrap:=ax,ik:=ik,ou:=[15],oG:=[13]}) (args:=[(hy a0)]) (nR _ _) Tryz.func290 (by kernel_rfl) [a6 122 [(3,.slice)]] (by kernel_rfl) (by kernel_rfl) (p3 (by kernel_rfl) h)
def aG.Dy(a0:bV)(ac:U)(a2 a3:o)(u:H)(K:U->U->U->o->Q)(h:eg u λa=>aV (a0=none) (K bm bm bm 3 (u.ins a (bC #[ao a3] 3 (0,0)))) (bk a0 λb=>bn (u.ins a (bC #[ao a3] 3 (0,0))) b λc=>bn (u.ins a (bC #[ao a3] 3 (0,0))) (am a) λd=>C.qq ac c a2 d (u.ins a (bC #[ao a3] 3 (0,0))) λe f=>cK (e=0) (K bm bm bm e f) (C.sy a2 f λg _ i=>eg i λj=>H.aO (i.ins j (bC #[aZ none] 90 (0,0))) (am j) [aZ g] λk=>bj (rI 166 none) [bg.one aL.map] k λ(l:ay N)m=>eg m λn=>H.aO (m.ins n (bC #[dP none] 166 (0,0))) (am n) [dP l] λz=>vZ (λp=>bk a0 λq=>fe p (q.add 3) λr=>C.KK r p λs t=>C.qa s t λv w=>ix U o bm 0 w λx y Y bW=>aV (Y<(v.n:o)) (bB v Y λbZ=>bn bW (a8 bZ Y 1) λcg=>fe bW (am n) λcP=>bj (gY 166 (dP cP) (ao cg) ax) eM bW λ(cj:aK)cQ=>cK (cj=ak) (C.pQ a0 cg ac cQ λc0 dF cL dU=>nM (jv (kD 297) #[] #[aZ (some (am n)),aZ (some (am a)),aZ (some (am j))]) #[c3 #[ao c0,bG dF,bG cL]] eM dU λ(bT:aK)a6=>cK (bT=ak) (bj (dL 30 1 #[(0,ao cg)]) bl a6 λ(fq:U)e6=>bj (ey #[30,30] 30 #[vs y,vs fq]) bl e6 λ(gb:U)fL=>bo (Y+1)/\x gb (Y+1) fL) (bo (Y+1)/\x y (Y+1) a6)) (bo (Y+1)/\x y (Y+1) cQ)) (gL bc (λbZ cg=>aV ((0:o)<(y.n:o)) (bj (dL 39 1 #[(0,c3 #[ao 1,vs bm,vs bm,bG 0,bG 0,vs y])]) bl cg λ(cP:U)cj=>H.aO cj (bZ.add 2) [vs cP] λcQ=>bu cQ bZ λc0=>bu cQ (bZ.add 1) λdF=>bu cQ (bZ.add 2) λcL=>K c0 dF cL 0 cQ) (bu cg bZ λcP=>bu cg (bZ.add 1) λcj=>bu cg (bZ.add 2) λcQ=>K cP cj cQ 0 cg)) λbZ=>eD bW (am j) λcg=>fe bW (am n) λcP=>(C.qV cg bW λcj cQ=>H.le bW cQ/\(C.DX cP cQ λc0 dF=>(C.qa c0 dF λcL dU=>eg dU λbT=>H.le bW (dU.ins bT (bC #[vs bm,vs bm,vs bm] 41 (0,0)))/\H.aO (dU.ins bT (bC #[vs bm,vs bm,vs bm] 41 (0,0))) (am bT) [vs cj,vs cL,vs bm] λa6=>bZ (am bT) a6)/\eg dF λcL=>H.le bW (dF.ins cL (bC #[vs bm,vs bm,vs bm] 41 (0,0)))/\C.qa c0 (dF.ins cL (bC #[vs bm,vs bm,vs bm] 41 (0,0))) λdU bT=>H.aO bT (am cL) [vs cj,vs dU,vs bm] λa6=>bZ (am cL) a6)/\eg cQ λc0=>H.le bW (cQ.ins c0 (bC #[vs bm,vs bm,vs bm] 41 (0,0)))/\C.DX cP (cQ.ins c0 (bC #[vs bm,vs bm,vs bm] 41 (0,0))) λdF cL=>C.qa dF cL λdU bT=>H.aO bT (am c0) [vs cj,vs dU,vs bm] λa6=>bZ (am c0) a6)/\eg bW λcj=>H.le bW (bW.ins cj (bC #[vs bm,vs bm,vs bm] 41 (0,0)))/\C.qV cg (bW.ins cj (bC #[vs bm,vs bm,vs bm] 41 (0,0))) λcQ c0=>H.le bW c0/\C.DX cP c0 λdF cL=>C.qa dF cL λdU bT=>H.aO bT (am cj) [vs cQ,vs dU,vs bm] λa6=>bZ (am cj) a6)) λp=>bk a0 λq=>bn z (q.add 4) λr=>cK (r=0) (C.Bg a0 ac 0 z λs t=>C.zf a0 s ac 0 (jv (kD 297) #[] #[aZ (some (am n)),aZ (some (am a)),aZ (some (am j))]) t λv=>p v) (p z)))):C.Dy a0 ac a2 a3 u K:=aY [7,11,13,18] Tryz.func291 [a6 127 [],a6 4090 [(15,.slice),(60,b2)],a6 1023 [(18,.addr)]] h
def aG.Ic(a0:U)(ac:ap)(u:H)(K:U->Q)(h:C.Ig a0 ac u λa b=>aV (a=-1) (K a0 b) (bo (a+1)/\ix o o a (a+1) b λc d e f=>aV (e<(a0.n:o)) (bB a0 e λg=>bn f (a8 g e 1) λi=>nM ac #[ao i] eM f λ(j:aK)k=>cK (j=ak) (bB a0 d λl=>H.aO k (a8 l d 1) [ao i] λm=>bo (d+1)/\bo (e+1)/\c (d+1) (e+1) m) (bo (e+1)/\c d (e+1) k)) (bj (h6 30 (vs a0) (some (ao d)) none none) bl f λ(g:U)i=>bj (p1 #[30] 0 #[vs g]) [] i λj=>bj (h6 30 (vs a0) none (some (ao d)) none) bl j λ(k:U)l=>K k l))):C.Ic a0 ac u K:=aY [] Tryz.func292 [a6 122 [(5,b2),(6,b2)]] h
def aG.ZR(a0:o)(ac:bc)(u:H)(K:aK->Q)(h:bn u ac λa=>K (decide (a0=a)) u):C.ZR a0 ac u K:=ov 1 [] Tryz.func293 [] h
def aG.Ib(a0:U)(ac:o)(u:H)(K:aK->Q)(h:C.Ih a0 ac u λa b=>K (decide ((0:o)<=a)) b):C.Ib a0 ac u K:=aY [] Tryz.func294 [] h
def aG.qa(a0:ap)(u:H)(K:U->Q)(h:C.H9 a0 u λa b=>C.rQ a b λc=>K a c):C.qa a0 u K:=aY [] Tryz.func295 [] h
def aG.KK(a0:ay N)(u:H)(K:ap->Q)(h:eg u λa=>K (jv (kD 302) #[] #[aZ (some (am a))]) (u.ins a (bC #[dP a0] 182 (0,0)))):C.KK a0 u K:=aY [1] Tryz.func296 [] h
def aG.ZS(cc cp eU:o)(ac a2 a3:bc)(u:H)(K:aK->Q)(h:fe u ac λa=>bj (rK #[166] 3 #[dP a]) cv u λ(b:o)c=>bn c a2 λd=>aV (b=d) (K ax c) (fe c ac λe=>bj (gY 166 (dP e) (ao cc) ax) eM c λ(f:aK)g=>cK (f=ak) (fe g ac λi=>bj (unit (lx 166 (dP i) (ao cc) (mP ak))) [] g λj=>eD j a3 λk=>C.qW k cc cp eU j λ_ l=>K ak l) (K ak g))):C.ZS cc cp eU ac a2 a3 u K:=ov 1 [] Tryz.func297 [] h
def aG.DX(a0:ay N)(u:H)(K:ap->Q)(h:eg u λa=>K (jv (kD 303) #[] #[aZ (some (am a))]) (u.ins a (bC #[dP a0] 166 (0,0)))):C.DX a0 u K:=aY [1] Tryz.func298 [] h
def aG.Ig(a0:U)(ac:ap)(u:H)(K:o->Q)(h:ix o o 0 0 u λa b c d=>aV (c<(a0.n:o)) (bB a0 c λe=>bn d (a8 e c 1) λf=>nM ac #[ao f] eM d λ(g:aK)i=>dR g (K c i) (bo (c+1)/\a b (c+1) i)) (K (-1) d)):C.Ig a0 ac u K:=aY [] Tryz.func299 [a6 26 [(4,b2),(8,b2)]] h
def aG.Ih(a0:U)(ac:o)(u:H)(K:o->Q)(h:ix o o 0 0 u λa b c d=>aV (c<(a0.n:o)) (bB a0 c λe=>bn d (a8 e c 1) λf=>aV (ac=f) (K c d) (bo (c+1)/\a b (c+1) d)) (K (-1) d)):C.Ih a0 ac u K:=aY [] Tryz.func300 [a6 26 [(4,b2),(8,b2)]] h
def aG.H9(a0:ap)(u:H)(K:U->Q)(h:C.VA bm a0 u λa b=>K a b):C.H9 a0 u K:=aY [] Tryz.func301 [] h
def aG.abZ(a0:ap)(ac:bc)(u:H)(K:Q)(h:fe u ac λa=>bj (rJ 182 (dP a)) ee u λ(b:ay bc)c=>Po c λd e=>w0 aH (aZ b) e (λ(f:H)=>K f) λ(_:ap)(_:ap)(f:H)=>wZ aH (aZ b) f λ(g:ap)(_:ap)(i:H)=>sF (aL.int cq) g λ(j:o)=>nM a0 #[ao j] eM i λ(k:aK)l=>cK (k=ak) (K l) (d l)):C.abZ a0 ac u K:=MN 1 (C:={P:=aH,exp:=[],wrap:=ax,ik:=ik,ou:=[8],oG:=[6]}) (args:=[a0,(hy (some ac))]) (nR _ _) Tryz.func302 (by kernel_rfl) [a6 6 []] (by kernel_rfl) (by kernel_rfl) (p3 (by kernel_rfl) h)
def aG.ab1(a0:ap)(ac:bc)(u:H)(K:Q)(h:fe u ac λa=>bj (rJ 166 (dP a)) ee u λ(b:ay bc)c=>Po c λd e=>w0 aH (aZ b) e (λ(f:H)=>K f) λ(_:ap)(_:ap)(f:H)=>wZ aH (aZ b) f λ(g:ap)(_:ap)(i:H)=>sF (aL.int cq) g λ(j:o)=>nM a0 #[ao j] eM i λ(k:aK)l=>cK (k=ak) (K l) (d l)):C.ab1 a0 ac u K:=MN 1 (C:={P:=aH,exp:=[],wrap:=ax,ik:=ik,ou:=[8],oG:=[6]}) (args:=[a0,(hy (some ac))]) (nR _ _) Tryz.func303 (by kernel_rfl) [a6 6 []] (by kernel_rfl) (by kernel_rfl) (p3 (by kernel_rfl) h)
def aG.VA(a0:U)(ac:ap)(u:H)(K:U->Q)(h:eg u λa=>nf aH (Lv (Tryz.f304.body.getD Code.skip)) 13 [(6,ac),(4,vs bm),(2,aZ (some (am a))),(0,vs a0),(1,ac)] (u.ins a (bC #[vs a0] 30 (0,0))) λ(b:N)(c:H)=>bu c (am a) λd=>c b=some (yc (some []))/\K d (c.ins b (yc none))):C.VA a0 ac u K:=aY [2] Tryz.func304 [] h
def aG.RD(a0:bV)(ac:o)(u:H)(K:aK->o->Q)(h:bk a0 λa=>fe u (a.add 1) λb=>bj (gY 125 (dP b) (ao ac) ak) [bg.one aL.slice,bg.one aL.bool] u λ(_:U)(c:aK)d=>bk a0 λe=>fe d (e.add 1) λf=>bj (tq #[125,3] 0 #[dP f,ao ac]) [] d λg=>K c 0 g):C.RD a0 ac u K:=aY [] Tryz.func305 [] h
def aG.RE(a0:bV)(u:H)(K:o->Q)(h:bk a0 λa=>fe u (a.add 1) λb=>bj (rK #[125] 3 #[dP b]) cv u λ(c:o)d=>K c d):C.RE a0 u K:=aY [] Tryz.func306 [] h
def aG.Mh(a0:bV)(ci:o)(cy:U)(u:H)(K:aK->o->Q)(h:bk a0 λa=>fe u (a.add 1) λb=>bj (gY 125 (dP b) (ao ci) ak) [bg.one aL.slice,bg.one aL.bool] u λ(_:U)(c:aK)d=>bk a0 λe=>bk a0 λf=>bn d e λg=>fe d (f.add 1) λi=>bj (rK #[125] 3 #[dP i]) cv d λ(j:o)k=>H.le d k/\C.q9 ci cy g c j k λl m=>cK (l=0) (K ax l m) (bk a0 λn=>fe m (n.add 1) λz=>C.iH cy m λp q=>H.le m q/\bj (unit (lx 125 (dP z) (ao ci) (vs p))) [] q λr=>K (ww (decide (c=ak))) 0 r)):C.Mh a0 ci cy u K:=aY [] Tryz.func307 [] h
def aG.Mi(a0:bV)(u:H)(K:U->Q)(h:bk a0 λa=>fe u (a.add 1) λb=>bj (rJ 125 (dP b)) ee u λ(c:ay bc)d=>gB U bm d λe f g=>w0 aH (aZ c) g (λ(i:H)=>C.kV f i λj k=>K j k) λ(_:ap)(_:ap)(i:H)=>wZ aH (aZ c) i λ(j:ap)(k:ap)(l:H)=>sF (aL.int cq) j λ(m:o)=>sF aL.slice k λ(n:U)=>bj (dL 22 1 #[(0,c3 #[ao m,vs n])]) bl l λ(z:U)p=>bj (ey #[22,22] 22 #[vs f,vs z]) bl p λ(q:U)r=>e q r):C.Mi a0 u K:=Fw (C:={P:=aH,exp:=[],wrap:=ax,ik:=ik,ou:=[13],oG:=[11]}) (args:=[(hy a0)]) (nR _ _) Tryz.func308 (by kernel_rfl) [a6 58 [(3,.slice)]] (by kernel_rfl) (by kernel_rfl) (p3 (by kernel_rfl) h)
def aG.RF(a0:bV)(ac:U)(a2 a3:o)(u:H)(K:U->U->U->o->Q)(h:bk a0 λa=>bn u a λb=>C.qq ac b a2 a3 u λc d=>cK (c=0) (K bm bm bm c d) (C.Mi a0 d λe f=>C.C8 e ac a2 a3 f λg i j k l=>K g i j k l)):C.RF a0 ac a2 a3 u K:=aY [] Tryz.func309 [] h
def aG.C8(a0 ac:U)(a2 a3:o)(u:H)(K:U->U->U->o->Q)(h:C.AM a0 ac u λa b=>cK (a=0) (K bm bm bm a b) (gL aK (λc d=>dR c (K bm bm bm 1 d) (bj (h6 22 (vs a0) none (some (ao (ite ((a0.n:o)<a3) (a0.n:o) a3))) none) bl d λ(e:U)f=>C.xd e ac a2 f λg _ i=>BH o U U U 0 g bm bm i λj k l m n z=>aV (k<(e.n:o)) (bB e k λp=>bn z (a8 p k 2) λq=>bu z ((a8 p k 2).add 1) λ_=>bj (dL 30 1 #[(0,ao q)]) bl z λ(r:U)s=>bj (ey #[30,30] 30 #[vs m,vs r]) bl s λ(t:U)v=>bo (k+1)/\j (k+1) l t n v) (C.rQ m z λp=>bj (h6 22 (vs a0) (some (ao (e.n:o))) none none) bl p λ(q:U)r=>aV ((0:o)<(q.n:o)) (C.Cs q (ac.n:o) r λs t v w x y Y bW=>cK (Y=0) (K bm bm bm Y bW) (bj (dL 39 1 #[(0,c3 #[ao s,vs t,vs v,bG w,bG x,vs y])]) bl bW λ(bZ:U)cg=>K l m bZ 0 cg)) (K l m n 0 r)))) λc=>aV (a2<1) (c ak b) (aV ((64:o)<a2) (c ak b) (aV (a3<0) (c ak b) (c (decide ((1000000:o)<a3)) b))))):C.C8 a0 ac a2 a3 u K:=aY [] Tryz.func310 [a6 14 [(38,.bool)],(1018,⟨[(56,b2)],[(1,[.slice,.slice,.slice])]⟩)] h
def aG.RA(a0:bV)(ci:o)(cy:U)(u:H)(K:aK->o->Q)(h:bk a0 λa=>C.Mh (some a) ci cy u λb c d=>gL aK (λe f=>dR e (bk a0 λg=>bk a0 λi=>fe f (g.add 3) λj=>eD f (i.add 2) λk=>C.PQ k cy f λl _ m=>H.le f m/\bj (unit (lx 125 (dP j) (ao ci) (vs l))) [] m λn=>K b c n) (K b c f)) λe=>aV (c=0) (bk a0 λf=>eD d (f.add 2) λg=>e (ww (decide (g=none))) d) (e ax d)):C.RA a0 ci cy u K:=aY [] Tryz.func311 [a6 14 [(24,.bool)]] h
section
variable{u:H}{a b d c:o}{K:o->o->H->Prop}{k:N}
def aG.RB(a0:bV)(ac:U)(a2 a3:o)(u:H)(K:U->U->U->o->Q)(h:bk a0 λa=>bn u a λb=>C.qq ac b a2 a3 u λc d=>cK (c=0) (K bm bm bm c d) (gL U (λe f=>bk a0 λg=>fe f (g.add 1) λi=>C.Pr i f λj k=>C.qa j k λl m=>ix U o bm 0 m λn z p q=>aV (p<(l.n:o)) (bB l p λr=>bn q (a8 r p 1) λs=>bk a0 λt=>eD q (t.add 2) λv=>cK (v=none) (bk a0 λw=>fe q (w.add 3) λx=>bj (gY 125 (dP x) (ao s) ax) bl q λ(y:U)Y=>C.PS e y Y λbW bZ _ cg=>bj (dL 38 1 #[(0,c3 #[ao s,bG bW,bG bZ])]) bl cg λ(cP:U)cj=>bj (ey #[38,38] 38 #[vs z,vs cP]) bl cj λ(cQ:U)c0=>bo (p+1)/\n cQ (p+1) c0) (bj (dL 38 1 #[(0,c3 #[ao s,bG 0,bG 0])]) bl q λ(w:U)x=>bj (ey #[38,38] 38 #[vs z,vs w]) bl x λ(y:U)Y=>bo (p+1)/\n y (p+1) Y)) (C.LD z (jv (kD 317) #[] #[]) q λr=>C.sy a2 r λs _ t=>aj7 U o U U U bm 0 bm bm bm t λv w x y Y bW bZ=>aV (x<(z.n:o)) (bB z x λcg=>bn bZ (a8 cg x 3) λcP=>ef bZ ((a8 cg x 3).add 1) λ_=>ef bZ ((a8 cg x 3).add 2) λ_=>aV (a3<=x) (bj (dL 30 1 #[(0,ao cP)]) bl bZ λ(cj:U)cQ=>bj (ey #[30,30] 30 #[vs w,vs cj]) bl cQ λ(c0:U)dF=>bo (x+1)/\v c0 (x+1) y Y bW dF) (bk a0 λcj=>fe bZ (cj.add 1) λcQ=>bj (gY 125 (dP cQ) (ao cP) ax) bl bZ λ(c0:U)dF=>C.lD c0 ac dF λcL dU _ bT=>C.qW s cP cL dU bT λ_ a6=>bj (dL 30 1 #[(0,ao cP)]) bl a6 λ(fq:U)e6=>bj (ey #[30,30] 30 #[vs Y,vs fq]) bl e6 λ(gb:U)fL=>bo (x+1)/\v w (x+1) y gb bW fL)) (C.rQ Y bZ λcg=>ajQ U U U (λ_ cP cj cQ=>C.qV s cQ λc0 dF=>K c0 cP cj 0 dF) λcP=>aV ((0:o)<(w.n:o)) (C.rQ w cg λcj=>bj (dL 39 1 #[(0,c3 #[ao 1,vs bm,vs bm,bG 0,bG 0,vs w])]) bl cj λ(cQ:U)c0=>cP y Y cQ c0) (cP y Y bW cg)))) λe=>bk a0 λf=>eD d (f.add 2) λg=>cK (g=none) (bk a0 λi=>eD d (i.add 2) λj=>C.PR j ac d λk _ l=>e k l) (e bm d))):C.RB a0 ac a2 a3 u K:=aY [] Tryz.func312 [a6 31 [(12,.slice)],a6 506 [(11,.slice),(57,b2)],(16378,⟨[(19,.slice),(94,b2)],[(1,[.slice,.slice,.slice])]⟩),(8191,⟨[],[(1,[.slice,.slice,.slice])]⟩)] h
def aG.PQ(a0:bV)(ac:U)(u:H)(K:U->o->Q)(h:aV (a0=none) (K bm 3 u) (bk a0 λa=>bn u a λb=>C.iA ac b u λc d=>cK (c=0) (K bm c d) (bk a0 λe=>bu d (e.add 1) λf=>ix U o bm 0 d λg i j k=>aV (j<(f.n:o)) (bB f j λl=>bu k (a8 l j 1) λm=>bk a0 λn=>bu k (n.add 1) λz=>C.x5 ac (z.n:o) j k λp q=>C.th m p q λr _ _ _ s=>bj (dL 30 1 #[(0,ao r)]) bl s λ(t:U)v=>bj (ey #[30,30] 30 #[vs i,vs t]) bl v λ(w:U)x=>bo (j+1)/\g w (j+1) x) (K i 0 k)))):C.PQ a0 ac u K:=aY [] Tryz.func313 [a6 250 [(7,.slice),(29,b2)]] h
def aG.PR(a0:bV)(ac:U)(u:H)(K:U->o->Q)(h:aV (a0=none) (K bm 3 u) (bk a0 λa=>bn u a λb=>C.iA ac b u λc d=>cK (c=0) (K bm c d) (bk a0 λe=>bu d (e.add 1) λf=>ix U o bm 0 d λg i j k=>aV (j<(f.n:o)) (bB f j λl=>bu k (a8 l j 1) λm=>ix U o bm 0 k λn z p q=>aV (p<(m.n:o)) (bB m p λr=>bu q (a8 r p 1) λs=>bk a0 λt=>bu q (t.add 1) λv=>C.x5 ac (v.n:o) j q λw x=>C.lD w s x λy Y _ bW=>bj (dL 359 1 #[(0,c3 #[bG y,bG Y])]) bl bW λ(bZ:U)cg=>bj (ey #[359,359] 359 #[vs z,vs bZ]) bl cg λ(cP:U)cj=>bo (p+1)/\n cP (p+1) cj) (bj (dL 354 1 #[(0,vs z)]) bl q λ(r:U)s=>bj (ey #[354,354] 354 #[vs i,vs r]) bl s λ(t:U)v=>bo (j+1)/\g t (j+1) v)) (K i 0 k)))):C.PR a0 ac u K:=aY [] Tryz.func314 [a6 250 [(7,.slice),(31,b2)],a6 256410 [(10,.slice),(38,b2)]] h
def aG.Pr(a0:ay N)(u:H)(K:ap->Q)(h:eg u λa=>K (jv (kD 318) #[] #[aZ (some (am a))]) (u.ins a (bC #[dP a0] 125 (0,0)))):C.Pr a0 u K:=aY [1] Tryz.func315 [] h
def aG.PS(a0 ac:U)(u:H)(K:o->o->o->Q)(h:cK ((a0.n:o)=(ac.n:o)) (K 0 0 101 u) (BH o o o o 0 0 0 0 u λa b c d e f=>aV (c<(ac.n:o)) (bB ac c λg=>bn f (a8 g c 1) λi=>aV (i<0) (K 0 0 101 f) (bB a0 c λj=>bu f (a8 j c 1) λk=>aV ((k.n:o)<=i) (K 0 0 101 f) (bo (c+1)/\a b (c+1) d e f))) (awg o o o o o o b 0 0 0 d e f λg i j k l m n z=>aV (j<(ac.n:o)) (bB ac j λp=>bn z (a8 p j 1) λq=>bB a0 j λr=>bu z (a8 r j 1) λs=>bB s q λt=>ef z (a8 t q 2) λv=>ef z ((a8 t q 2).add 1) λw=>C.Cy k l v w z λx y Y bW=>cK (Y=0) (K 0 0 Y bW) (bo (j+1)/\g i (j+1) x y m n bW)) (K k l 0 z)))):C.PS a0 ac u K:=aY [] Tryz.func316 [(58,⟨[(5,b2),(20,b2)],[(0,[.int .u64,.int .u64])]⟩),(250,⟨[(5,b2),(40,b2)],[(1,[.int .u64,.int .u64]),(0,[.int .u64,.int .u64])]⟩)] h
def aG.RC(cc cp eU ci cy hT:o)(u:H)(K:o->Q)(h:C.qX cc cp eU ci cy hT u λa b=>dR a (K (-1) b) (K 1 b)):C.RC cc cp eU ci cy hT u K:=aY [] Tryz.func317 [] h
def aG.ab0(a0:ap)(ac:bc)(u:H)(K:Q)(h:fe u ac λa=>bj (rJ 125 (dP a)) ee u λ(b:ay bc)c=>Po c λd e=>w0 aH (aZ b) e (λ(f:H)=>K f) λ(_:ap)(_:ap)(f:H)=>wZ aH (aZ b) f λ(g:ap)(_:ap)(i:H)=>sF (aL.int cq) g λ(j:o)=>nM a0 #[ao j] eM i λ(k:aK)l=>cK (k=ak) (K l) (d l)):C.ab0 a0 ac u K:=MN 1 (C:={P:=aH,exp:=[],wrap:=ax,ik:=ik,ou:=[8],oG:=[6]}) (args:=[a0,(hy (some ac))]) (nR _ _) Tryz.func318 (by kernel_rfl) [a6 6 []] (by kernel_rfl) (by kernel_rfl) (p3 (by kernel_rfl) h)
def aG.adW(a0:U)(u:H)(K:o->Q)(h:K (a0.n:o) u):C.adW a0 u K:=aY [] Tryz.func320 [] h
def aG.LJ(a0:U)(ac a2:o)(u:H)(K:aK->Q)(h:bB a0 a2 λa=>bB a0 ac λb=>bn u (a8 a a2 3) λc=>ef u ((a8 a a2 3).add 1) λd=>ef u ((a8 a a2 3).add 2) λe=>bn u (a8 b ac 3) λf=>ef u ((a8 b ac 3).add 1) λg=>ef u ((a8 b ac 3).add 2) λi=>C.qX c d e f g i u λj k=>K j k):C.LJ a0 ac a2 u K:=aY [] Tryz.func321 [] h
def aG.LK(a0:U)(ac a2:o)(u:H)(K:Q)(h:bB a0 a2 λa=>bB a0 ac λb=>bn u (a8 a a2 3) λc=>ef u ((a8 a a2 3).add 1) λd=>ef u ((a8 a a2 3).add 2) λe=>bn u (a8 b ac 3) λf=>ef u ((a8 b ac 3).add 1) λg=>ef u ((a8 b ac 3).add 2) λi=>bB a0 ac λj=>H.aO u (a8 j ac 3) [ao c,bG d,bG e] λk=>bB a0 a2 λl=>H.aO k (a8 l a2 3) [ao f,bG g,bG i] λm=>K m):C.LK a0 ac a2 u K:=aY [] Tryz.func322 [] h
def aG.adX(a0:bV)(ac:ap)(u:H)(K:Q)(h:bj (tp ac 20 68 ak) [bg.agg [aL.int cq,aL.int bR,aL.int bR],bg.one aL.bool] u λ(a:o)(b:o)(c:o)(d:aK)e=>dR d (bk a0 λf=>bu e f λg=>bj (dL 141 1 #[(0,c3 #[ao a,bG b,bG c])]) bl e λ(i:U)j=>H.le e j/\bj (ey #[141,141] 141 #[vs g,vs i]) bl j λ(k:U)l=>bk a0 λm=>H.aO l m [vs k] λn=>K n) (K e)):C.adX a0 ac u K:=aY [] Tryz.func324 [] h
def aG.J2(a0:U)(ac a2:o)(u:H)(K:aK->Q)(h:bB a0 ac λa=>bB a0 a2 λb=>bn u (a8 a ac 3) λc=>ef u ((a8 a ac 3).add 1) λd=>ef u ((a8 a ac 3).add 2) λe=>bn u (a8 b a2 3) λf=>ef u ((a8 b a2 3).add 1) λg=>ef u ((a8 b a2 3).add 2) λi=>C.qX c d e f g i u λj k=>K j k):C.J2 a0 ac a2 u K:=aY [] Tryz.func325 [] h
def aG.J3(a0:U)(ac a2:o)(u:H)(K:Q)(h:bB a0 a2 λa=>bB a0 ac λb=>bn u (a8 a a2 3) λc=>ef u ((a8 a a2 3).add 1) λd=>ef u ((a8 a a2 3).add 2) λe=>bn u (a8 b ac 3) λf=>ef u ((a8 b ac 3).add 1) λg=>ef u ((a8 b ac 3).add 2) λi=>bB a0 ac λj=>H.aO u (a8 j ac 3) [ao c,bG d,bG e] λk=>bB a0 a2 λl=>H.aO k (a8 l a2 3) [ao f,bG g,bG i] λm=>K m):C.J3 a0 ac a2 u K:=aY [] Tryz.func326 [] h
def aG.ZU(a0:bV)(u:H)(K:ap->Q)(h:gL bc (λa b=>bk a0 λc=>bk a0 λd=>bu b c λe=>bu b d λf=>bo ((f.n:o)-1)/\bj (h6 263 (vs e) none (some (ao ((f.n:o)-1))) none) bl b λ(g:U)i=>bk a0 λj=>H.aO i j [vs g] λk=>bn k a λl=>ef k (a.add 1) λm=>ef k (a.add 2) λn=>K (mj 68 (c3 #[ao l,bG m,bG n])) k) λa=>bk a0 λb=>bk a0 λc=>bu u b λd=>bu u c λe=>bo ((e.n:o)-1)/\bB d ((e.n:o)-1) λf=>bn u (a8 f ((e.n:o)-1) 3) λg=>ef u ((a8 f ((e.n:o)-1) 3).add 1) λi=>ef u ((a8 f ((e.n:o)-1) 3).add 2) λj=>eg u λk=>H.le u (u.ins k (bC #[ao 0,bG 0,bG 0] 68 (0,0)))/\H.aO (u.ins k (bC #[ao 0,bG 0,bG 0] 68 (0,0))) (am k) [ao g,bG i,bG j] λl=>a (am k) l):C.ZU a0 u K:=aY [3] Tryz.func327 [a6 3 [(3,.addr)]] h
def aG.ZV(a0:bV)(ac:ap)(u:H)(K:Q)(h:bk a0 λa=>bu u a λb=>bj (tp ac 20 68 ax) [bg.agg [aL.int cq,aL.int bR,aL.int bR]] u λ(c:o)(d:o)(e:o)f=>H.le u f/\bj (dL 263 1 #[(0,c3 #[ao c,bG d,bG e])]) bl f λ(g:U)i=>H.le u i/\bj (ey #[263,263] 263 #[vs b,vs g]) bl i λ(j:U)k=>bk a0 λl=>H.aO k l [vs j] λm=>K m):C.ZV a0 ac u K:=aY [] Tryz.func328 [] h
def aG.Jd(a0:U)(ac a2:o)(u:H)(K:aK->Q)(h:bB a0 ac λa=>bB a0 a2 λb=>ef u ((a8 a ac 3).add 1) λc=>ef u (((a8 a ac 3).add 1).add 1) λd=>ef u ((a8 b a2 3).add 1) λe=>ef u (((a8 b a2 3).add 1).add 1) λf=>C.mr c d e f u λg i=>K (decide (g<0)) i):C.Jd a0 ac a2 u K:=aY [] Tryz.func330 [] h
def aG.Je(a0:U)(ac a2:o)(u:H)(K:Q)(h:bB a0 a2 λa=>bB a0 ac λb=>eD u (a8 a a2 3) λc=>ef u ((a8 a a2 3).add 1) λd=>ef u ((a8 a a2 3).add 2) λe=>eD u (a8 b ac 3) λf=>ef u ((a8 b ac 3).add 1) λg=>ef u ((a8 b ac 3).add 2) λi=>bB a0 ac λj=>H.aO u (a8 j ac 3) [aZ c,bG d,bG e] λk=>bB a0 a2 λl=>H.aO k (a8 l a2 3) [aZ f,bG g,bG i] λm=>K m):C.Je a0 ac a2 u K:=aY [] Tryz.func331 [] h
def aG.XO(a0:bV)(u:H)(K:ap->Q)(h:gL bc (λa b=>bk a0 λc=>bk a0 λd=>bu b c λe=>bu b d λf=>bo ((f.n:o)-1)/\bj (h6 331 (vs e) none (some (ao ((f.n:o)-1))) none) bl b λ(g:U)i=>bk a0 λj=>H.aO i j [vs g] λk=>eD k a λl=>ef k (a.add 1) λm=>ef k (a.add 2) λn=>K (mj 334 (c3 #[aZ l,bG m,bG n])) k) λa=>bk a0 λb=>bk a0 λc=>bu u b λd=>bu u c λe=>bo ((e.n:o)-1)/\bB d ((e.n:o)-1) λf=>eD u (a8 f ((e.n:o)-1) 3) λg=>ef u ((a8 f ((e.n:o)-1) 3).add 1) λi=>ef u ((a8 f ((e.n:o)-1) 3).add 2) λj=>eg u λk=>H.le u (u.ins k (bC #[aZ none,bG 0,bG 0] 334 (0,0)))/\H.aO (u.ins k (bC #[aZ none,bG 0,bG 0] 334 (0,0))) (am k) [aZ g,bG i,bG j] λl=>a (am k) l):C.XO a0 u K:=aY [3] Tryz.func332 [a6 3 [(3,.addr)]] h
def aG.XP(a0:bV)(ac:ap)(u:H)(K:Q)(h:bk a0 λa=>bu u a λb=>bj (tp ac 20 334 ax) [bg.agg [aL.ptr,aL.int bR,aL.int bR]] u λ(c:ay bc)(d:o)(e:o)f=>H.le u f/\bj (dL 331 1 #[(0,c3 #[aZ c,bG d,bG e])]) bl f λ(g:U)i=>H.le u i/\bj (ey #[331,331] 331 #[vs b,vs g]) bl i λ(j:U)k=>bk a0 λl=>H.aO k l [vs j] λm=>K m):C.XP a0 ac u K:=aY [] Tryz.func333 [] h
def dh(x:o):Prop:=0<=x/\x<18446744073709551616
def fl(hi bH:o):o:=hi*18446744073709551616+bH
def spec.mr{K:o->H->Prop}(aE:dh b)(ab:dh d)
  (h:K (if fl a b<fl c d then -1 else if fl c d<fl a b then 1 else 0) u):C.mr a b c d u K:=by
 apply aG.mr
 have key:∀Y,(if fl a b<fl c d then(-1:o) else if fl c d<fl a b then 1 else 0)=Y->K Y u:=λY e=>e▸h
 simp only[dh,fl] at*
 refine⟨λh=>key _ ?_,λh=>⟨λh1=>key _ ?_,λh1=>⟨λh2=>⟨λh3=>key _ ?_,λh3=>key _ ?_⟩,λh2=>key _ ?_⟩⟩⟩
 all_goals (repeat' split)<;>omega
def aeM(aE:dh a)(ab:dh b)(o2:0<=c)(I:c<=1)
  (h:K ((a+b+c)%18446744073709551616) ((a+b+c)/18446744073709551616) u):
  dd aH (AE 162 #[.int .u64 a,.int .u64 b,.int .u64 c]) [.one (.int .u64),.one (.int .u64)] u K:=by
 refine dd.pure [.int .u64 ((a+b+c)%18446744073709551616),.int .u64 ((a+b+c)/18446744073709551616)] (λw _=>?_) (.cons (t:=.int .u64) _ (.cons (t:=.int .u64) _ .nil)) h
 unfold AE
 rw[eW,run_callFunc_extern Tryz.func162 (by kernel_rfl) (by kernel_rfl) (by kernel_rfl) (e:=add64Entry) (by kernel_rfl),run_add64 a b c aE.1 ab.1 o2 I]
 rfl
def spec.Cy{K:o->o->o->H->Prop}(aE:dh a)(ab:dh b)(I:dh c)(aw:dh d)
  (h1:∀x y,dh x->dh y->fl x y=fl a b+fl c d->K x y 0 u) (h2:340282366920938463463374607431768211456<=fl a b+fl c d->K 0 0 10 u):C.Cy a b c d u K:=by
 apply aG.Cy
 simp only[dh,fl] at*
 refine aeM ab aw (by omega) (by omega) (aeM aE I (by omega) (by omega) ⟨λh=>h2 (by omega),λh=>h1 _ _ (by omega) (by omega) (by omega)⟩)
def spec.E2(aE:dh a)(ab:dh b)
  (h:K (a*b/18446744073709551616) (a*b%18446744073709551616) u):C.E2 a b u K:=by
 apply aG.E2
 refine⟨by omega,by omega,by omega,by omega,by omega,?_⟩
 have e:=mul64_arith a b aE.1 aE.2 ab.1 ab.2
 have w:∀Y,cz .u64 Y=Y%18446744073709551616:=IntKind.wrap_u64
 have bT:∀Y,0<=Y->Y<18446744073709551616->bits .and .u64 Y 4294967295=Y%4294967296:=and_low32
 have p:(2:o) ^ 32=4294967296:=by decide
 have fd:∀Y:o,ew Y 4294967296=Y/4294967296:=λY=>acP Y (by decide)
 simp only[w,p,fd,bT a aE.1 aE.2,bT b ab.1 ab.2]
 rw[bT _ (by omega) (by omega),e]
 exact h
def spec.tJ(aE:dh a)(ab:dh b)
  (h:∀x y,dh x->dh y->fl x y=a*b->K x y u):C.tJ a b u K:=by
 apply aG.tJ
 refine spec.E2 aE ab (h _ _ ?_ ?_ ?_)
 obtain⟨h1,h2⟩:=aE
 obtain⟨h3,a7⟩:=ab
 have:=zS h1 h3
 have:a*b<=18446744073709551615*18446744073709551615:=HF (by omega) (by omega) h3 (by omega)
 constructor<;>omega
 constructor<;>omega
 unfold fl;omega
def nj(x:o):Prop:= -2147483647<=x/\x<=2147483647
instance(x:o):Decidable (nj x):=inferInstanceAs (Decidable (_/\_))
def tE(x y:o):o:=(x-y)*(x-y)
def spec.Cu{x y:o}(aE:dh a)(ab:dh b)(J:nj x)(ah:nj y)
  (ag:fl a b+18446744073709551616<340282366920938463463374607431768211456)
  (h:∀c d,dh c->dh d->fl c d=fl a b+tE x y->K c d u):C.Cu a b x y u K:=by
 apply aG.Cu
 have e:(ite (y>x) y x)-(ite (y<x) y x)=if x<y then y-x else x-y:=by(repeat' split)<;>omega
 rw[e]
 unfold nj at J ah
 have d1:∃Y:o,Y=(if x<y then y-x else x-y)/\0<=Y/\Y<=4294967294/\Y*Y=tE x y:=by refine⟨_,rfl,?_,?_,?_⟩;split<;>omega;split<;>omega;unfold tE;split<;>grind
 obtain⟨Y,aC,h0,h2,h3⟩:=d1
 rw[<-aC]
 refine⟨⟨by omega,by omega⟩,?_⟩
 have hw:cz .u64 Y=Y:=UM Y ⟨h0,by omega⟩
 rw[hw]
 have aC:dh Y:=⟨h0,by omega⟩
 refine spec.tJ aC aC λp q ad aN he=>⟨H.le.refl u,?_⟩
 have ajB:0<=Y*Y/\Y*Y<=18446744056529682436:=⟨zS h0 h0,by have:=HF h2 h2 h0 (by omega);omega⟩
 refine spec.Cy aE ab ad aN (λc d I aw lW=>h c d I aw (by rw[lW,he,h3])) λbU=>?_
 exfalso
 omega
def adF{x y:o}(J:nj x)(ah:nj y):0<=tE x y/\tE x y<=18446744056529682436:=by
 unfold nj at J ah;unfold tE;constructor;rcases Int.le_total 0 (x-y) with h|h;exact zS h h;exact acQ h h;rcases Int.le_total 0 (x-y) with h|h;have:=HF (show x-y<=4294967294 by omega) (show x-y<=4294967294 by omega) h (by omega);omega;have e:(x-y)*(x-y)=(y-x)*(y-x):=by grind
 have:=HF (show y-x<=4294967294 by omega) (show y-x<=4294967294 by omega) (by omega) (by omega);omega
def gV(l:M o)(d:o):o:=
 if 1<=d/\d<=64/\(l.length:o)=d then(if ∀i,i<l.length->nj (l.getD i 0) then 0 else 31) else 30
def spec.yw{K:aK->H->Prop}(h:K (decide (1<=d/\d<=64)) u):C.yw d u K:=by
 apply aG.yw;refine⟨λh1=>?_,λh1=>?_⟩;have:@decide (d<=64) (@tn _ (Int.decLe d 64))=decide (1<=d/\d<=64):=by simp[h1]
 rw[this];exact h;have:decide (1<=d/\d<=64)=ax:=by simp;omega
 rw[this] at h;exact h
def spec.iA{s:U}{l:M o}{K:o->H->Prop}(ag:Ints u s l)(h:K (gV l d) u):C.iA s d u K:=by
 have key:∀Y,gV l d=Y->K Y u:=λY e=>e▸h;have ae:=ag.len;have zd:=ag.max;apply aG.iA;intro my o1;refine spec.yw ⟨λab=>key _ ?_,λab=>⟨λar=>key _ ?_,λar=>o1 _ _ ?_⟩⟩;have:¬(1<=d/\d<=64):=by simpa using ab
 unfold gV;rw[aF (λh=>this ⟨h.1,h.2.1⟩)];unfold gV;rw[aF (λh=>ar (by rw[ae];exact h.2.2))];have aw:1<=d/\d<=64:=by simpa using ab
 have aA:gV l d=if ∀i,i<l.length->nj (l.getD i 0) then 0 else 31:=by unfold gV;rw[a1 ⟨aw.1,aw.2,by rw[<-ar,ae]⟩]
 refine⟨λ_ i u'=>u'=u/\0<=i/\i<=(s.n:o)/\∀j,j<i.toNat->nj (l.getD j 0),λ_ i _=>s.n-i.toNat,⟨rfl,by omega,by omega,λj aP=>by simp at aP⟩,?_⟩;rintro _ i u' ⟨rfl,h0,h1,ad⟩;refine⟨λhi=>?_,λhi=>key _ ?_⟩;obtain⟨p,kx,I⟩:=ag.at h0 hi;have bad:¬nj (l.getD i.toNat 0)->K 31 u':=λab=>key _ (by rw[aA,aF (λdX=>ab (dX _ (by omega)))]);refine⟨p,kx,⟨h0,hi⟩,_,I,λJ=>bad (λab=>by unfold nj at ab;omega),λJ=>⟨λah=>bad (λab=>by unfold nj at ab;omega),λah=>⟨⟨by omega,by omega⟩,⟨rfl,by omega,by omega,?_⟩,by dsimp only;omega⟩⟩⟩;intro j aP;rcases kC j i.toNat with lX|lX;exact ad j lX;have:j=i.toNat:=by omega
 subst this;exact⟨by omega,by omega⟩;rw[aA,a1];intro j aP;exact ad j (by omega)
def fE(a b:M o):N->o
 |0=>0|n+1=>fE a b n+tE (a.getD n 0) (b.getD n 0)
def dj(l:M o):Prop:=l.length<=64/\∀i,i<l.length->nj (l.getD i 0)
def LG{a b:M o}(aE:dj a)(ab:dj b):∀n,n<=a.length->n<=b.length->0<=fE a b n/\fE a b n<=n*18446744056529682436:=by
 intro n;induction n with
 |zero=>intro _ _;simp[fE]
 |succ n aM=>intro h1 h2;obtain⟨i1,i2⟩:=aM (by omega) (by omega);have:=adF (aE.2 n (by omega)) (ab.2 n (by omega));simp only[fE];constructor<;>omega
def spec.yx{s t:U}{a b:M o}(ag:Ints u s a)(ht:Ints u t b)(aE:dj a)(ab:dj b)(ar:a.length=b.length)
  (h:∀x y,dh x->dh y->fl x y=fE a b a.length->K x y u):C.yx s t u K:=by
 have ae:=ag.len
 have hm:=ht.len
 have Sl:=aE.1
 apply aG.yx
 refine⟨λi x y u'=>u'=u/\0<=i/\i<=(s.n:o)/\dh x/\dh y/\fl x y=fE a b i.toNat,λi _ _ _=>s.n-i.toNat,⟨rfl,by omega,by omega,⟨by omega,by omega⟩,⟨by omega,by omega⟩,rfl⟩,?_⟩
 rintro i x y u' ⟨rfl,h0,h1,J,ah,hw⟩
 refine⟨λhi=>?_,λhi=>?_⟩
 obtain⟨p,ad,I⟩:=ag.at h0 hi
 obtain⟨q,aN,aw⟩:=ht.at h0 (show i<(t.n:o) by omega)
 have hle:=LG aE ab i.toNat (by omega) (by omega)
 refine⟨p,ad,⟨h0,hi⟩,q,aN,⟨h0,by omega⟩,_,I,_,aw,spec.Cu J ah (aE.2 _ (by omega)) (ab.2 _ (by omega)) (by omega) λc d I aw lW=>⟨⟨by omega,by omega⟩,⟨rfl,by omega,by omega,I,aw,?_⟩,by dsimp only;omega⟩⟩
 rw[lW,hw,show(i+1).toNat=i.toNat+1 by omega]
 rfl
 have:i.toNat=a.length:=by omega
 exact h x y J ah (by rw[hw,this])
abbrev bO:=o×o
def bD(a b:bO):aK:=decide (a.2<b.2) ||(decide (a.2=b.2) && decide (a.1<b.1))
def Gd{a b:bO}:bD a b=ak↔a.2<b.2∨(a.2=b.2/\a.1<b.1):=by simp[bD]
def Dt{a b:bO}:bD a b=ax↔b.2<a.2∨(b.2=a.2/\b.1<=a.1):=by rw[<-acR,Gd];omega
def JW(a:bO):bD a a=ax:=Dt.2 (.inr ⟨rfl,nA _⟩)
def JV{a b:bO}(h:bD a b=ak):bD b a=ax:=by rw[Gd] at h;rw[Dt];omega
def Ge{a b c:bO}(h:bD b a=ax)(k:bD c b=ax):bD c a=ax:=by rw[Dt] at*;omega
def NW{a b c:bO}(h:bD a b=ak)(k:bD b c=ak):bD a c=ak:=by rw[Gd] at*;omega
def aBF{a b c:bO}(h:bD a b=ak)(k:bD c b=ax):bD a c=ak:=by rw[Gd] at*;rw[Dt] at k;omega
def aBE{a b c:bO}(h:bD b a=ax)(k:bD b c=ak):bD a c=ak:=by rw[Gd] at*;rw[Dt] at h;omega
def ZD{a b:bO}(h:bD b a=ax)(k:bD a b=ax):a=b:=by rw[Dt] at*;obtain⟨ac,a2⟩:=a;obtain⟨hE,fM⟩:=b;simp only[HB] at*;omega
def qm(l:M bO):Prop:=l.Pairwise λa b=>bD b a=ax
def qm.eq{a b:M bO}(aE:qm a)(ab:qm b)(h:a.Perm b):a=b:=
 h.eq_of_pairwise (le:=λx y=>bD y x=ax) (λ_ _ _ _ h k=>ZD h k) aE ab
def pT(h:bO):M bO->M bO
 | []=>[h]|x::l=>if bD h x then h::x::l else x::pT h l
def l4:M bO->M bO
 | []=>[]|h::l=>pT h (l4 l)
def GQ(h:bO)(l:M bO):(pT h l).Perm (h::l):=by
 induction l with
 |nil=>exact .refl _|cons x l aM=>simp only[pT];split;exact .refl _;exact((kc x aM).trans (UN h x l))
def ajL{h:bO}{l:M bO}(ar:qm l):qm (pT h l):=by
 induction l with
 |nil=>exact P5 _ _|cons x l aM=>have h1:=k6.1 ar;simp only[pT];split;rename_i J;refine k6.2 ⟨λy ah=>?_,ar⟩;rcases cJ.1 ah with rfl|ah;exact JV J;exact Ge (JV J) (h1.1 y ah);rename_i J;refine k6.2 ⟨λy ah=>?_,aM h1.2⟩;rcases cJ.1 ((GQ h l).mem_iff.1 ah) with rfl|ah;simpa using J;exact h1.1 y ah
def vc(l:M bO):(l4 l).Perm l:=by
 induction l with
 |nil=>exact .refl _|cons x l aM=>exact(GQ x _).trans (kc x aM)
def VF(l:M bO):qm (l4 l):=by
 induction l with
 |nil=>exact p4|cons x l aM=>exact ajL aM
def alX{a b:M bO}(h:a.Perm b):l4 a=l4 b:=
 (VF a).eq (VF b) ((vc a).trans (h.trans (vc b).symm))
def adD{a b:M bO}(h:a.Perm b)(ag:qm a):a=l4 b:=ag.eq (VF b) (h.trans (vc b).symm)
def QK(l:M bO):(l4 l).length=l.length:=(vc l).length_eq
def eT(k:N)(l:M bO):M bO:=(l4 l).take k
def V0(k:N)(l:M bO):qm (eT k l):=List.Pairwise.sublist (rN _ _) (VF l)
def ys(k:N)(l:M bO):(eT k l).length=min k l.length:=by simp[eT,QK]
def Ad{a b:M bO}(h:a.Perm b):eT k a=eT k b:=by simp only[eT,alX h]
def qm.append{a b:M bO}(h:qm (a++b)):qm a/\qm b/\∀x∈a,∀y∈b,bD y x=ax:=Ld.1 h
def avH(h:bO):∀(k:N) (l:M bO),(pT h l).take k=(pT h (l.take k)).take k:=by
 intro k l;induction l generalizing k with
 |nil=>simp|cons x l aM=>
  cases k with
  |zero=>simp|succ k=>
   simp only[pT,BV];split;simp only[BV];cases k with
   |zero=>simp|succ k=>simp only[BV,Hz];congr 3;omega
   simp only[BV,aM k]
def azV(k:N)(x:bO)(l:M bO):eT k (x::l)=eT k (x::eT k l):=by have h:l4 (eT k l)=eT k l:=(adD (.refl _) (V0 k l)).symm;show(pT x (l4 l)).take k=(pT x (l4 (eT k l))).take k;rw[h,avH];rfl
def azX{l:M bO}{x:bO}(h:l.length<k):(eT k (x::l)).Perm (x::l)/\(eT k l).Perm l:=by have e:∀m:M bO,m.length<=k->eT k m=l4 m:=λm hm=>hR (by rw[QK];exact hm);rw[e _ (by simp;omega),e _ (by omega)];exact⟨vc _,vc _⟩
def adY{l:M bO}{x:bO}(hk:k<=l.length)(h:∀y∈eT k l,bD x y=ax):eT k (x::l)=eT k l:=by
 show(pT x (l4 l)).take k=(l4 l).take k;have key:∀(k:N) (s:M bO),k<=s.length->(∀y∈s.take k,bD x y=ax)->(pT x s).take k=s.take k:=by
  intro k s;induction s generalizing k with
  |nil=>
   intro hk _;have:k=0:=by simpa using hk
   subst this;simp
  |cons y s aM=>
   intro hk h;cases k with
   |zero=>simp|succ k=>have h0:=h y (by simp);simp only[pT,h0,D6,BU,BV];rw[aM k (by simpa using hk) (λY aC=>h Y (by simp[aC]))]
 exact key k _ (by rw[QK];exact hk) h
def azU{l t:M bO}{x m:bO}(ad:(m::t).Perm (eT k l))(hm:∀y∈m::t,bD m y=ax)(J:bD x m=ak)(hk:(eT k l).length=k):
  (x::t).Perm (eT k (x::l)):=by
 rw[azV]
 have h1:eT k (x::eT k l)=eT k (m::x::t):=Ad ((kc x ad.symm).trans (UN _ _ _))
 have ar:t.length+1=k:=by rw[<-hk,<-ad.length_eq];simp
 have h2:eT k (m::x::t)=eT k (x::t):=by refine adY (by simp[ar]) λy ah=>?_;have:y∈x::t:=(vc _).mem_iff.1 (oa ah);rcases cJ.1 this with rfl|h;exact JV J;exact hm y (by simp[h])
 rw[h1,h2]
 have e:eT k (x::t)=l4 (x::t):=hR (by rw[QK];simp[ar])
 rw[e]
 exact(vc _).symm
def Step.shrink{u':H}{bs c8:M N}{w w':b7}(h:Step u bs w u' c8 w')(k:u.le u'):Step u bs w u c8 w':=
 ⟨h.sub.mono k,h.os,h.tape,h.output,h.drawn,h.size,h.rest,λ_ _ e=>e,h.more⟩
def abu(u:H):(ck:M aL)->hc ck (H->Prop)->hc ck (H->Prop)
 | [],r=>λu'=>u.le u'/\r u|_::ck,K=>λx=>abu u ck (K x)
def aAb{u':H}:∀(ck:M aL) (K:hc ck (H->Prop)) (vs:M ap),(hS ck (abu u ck K) vs λr=>r u')->pB ck vs->u.le u'/\hS ck K vs λr=>r u:=by
 intro ck;induction ck with
 |nil=>intro K vs h k;cases k;exact h
 |cons t ck aM=>
  intro K vs h k;cases k with
  |cons x GZ=>simp only[hS,aL.rR] at h ⊢;exact aM (K x) _ h GZ
def io.forget{P:dY}{f:kM}{args:cw ap}{ss:M bg}{K:hc (gF ss) (H->Prop)}(h:io P f args ss u (abu u (gF ss) K)):io P f args ss u K:=by intro w hw;refine(h w hw).mono ?_;rintro e w' ⟨v,u',he,⟨vs,hk,aA,I⟩,ag⟩;obtain⟨hle,c9⟩:=aAb _ _ _ I hk;exact⟨v,u,he,⟨vs,hk,aA,c9⟩,ag.shrink hle⟩
def H.abf(u:H)(n:N)(a b:Obj):(u.ins n a).ins n b=u.ins n b:=by funext x;unfold H.ins;split<;>rfl
end
