/- Texts of mine, joined and packed by pack.py. -/
import Derived.Test.YtejdhbfjjgcljaaGreatDoorMra4
import Derived.Laws.NewFold
import Derived.Maps.RangeRun
set_option linter.all false
open Go renaming Program->dY,Value->ap,World->b7,TypeId->dJ,Addr->bc,callFunc->p0,Code->iP,madeCells->ny,MapEntry->zQ
open _root_ renaming Nat->N,List->M,Option->ay,Array->cw,Int->o,Bool->aK,absurd->aW,Inhabited->lN
open Bool renaming true->ak,false->ax,false->tx
open Go.Obj renaming cells->bC
open Go.IntKind renaming i64->cq,u64->bR
open Go.Fence renaming wide->uV
open Go.Instr renaming lookup->gY,mapUpdate->lx,makeMap->rI,buildSlice->dL,range->rJ,findNow->HA,findKey->B2,checkKey->HC
open Go.Builtin renaming append_->ey,delete_->tq,len_->rK
open Go.Addr renaming add->ev,mk->cB
open Go.Result renaming andThen->jL
open Go.Proofs.Tryz renaming prog->aH
open Go.Value renaming agg->c3,int->cY,func->jv,pointer->hy,slice->ec,oneCell'->cT
open List.Perm renaming cons->kc,trans->wy
open List.Pairwise renaming nil->p4
open List renaming replicate->fX,length->iS
open Prod renaming fst->sq,snd->tv
open Int renaming toNat->wC
set_option maxRecDepth 100000
noncomputable section
namespace Go.Proofs.YtejdhbfjjgcljaaGreatDoor
section
variable{l dl:M (o×ap)}{u u':H}{b r:N}{P:dY}{t k e:dJ}{x:o}{Y v:ap}
def MapEntry.je(e:zQ):ap×ap:=(e.key,e.val)
def nw(p:o×ap):ap×ap:=(.int .i64 p.1,p.2)
def abI{p q:o×ap}(h:nw p=nw q):p=q:=by cases p;cases q;simp only[nw,HB,Value.int.injEq,true_and] at h;obtain⟨h1,h2⟩:=h;subst h1;subst h2;rfl
structure aez(es:cw zQ)(clock:N)(l:M (o×ap)):Prop where
 je:es.toList.map MapEntry.je=l.map nw
 born:(es.toList.map (·.born)).Nodup
 lt:∀e∈es.toList,e.born<clock
 nodup:(l.map (·.1)).Nodup
def fx(u:H)(b:N)(l:M (o×ap)):Prop:=∃es clock,u b=some (.map es clock)/\aez es clock l
def fx.mono(h:fx u b l)(hu:u.le u'):fx u' b l:=by obtain⟨es,c,h1,h2⟩:=h;exact⟨es,c,hu _ _ h1,h2⟩
def fx.else(h:fx u b l)(hu:∀z,u b=some z->u' b=some z):fx u' b l:=by obtain⟨es,c,h1,h2⟩:=h;exact⟨es,c,hu _ h1,h2⟩
def fR(l:M (o×ap))(x:o):ay ap:=(l.find? λp=>p.1==x).map (·.2)
def MS(h:fR l x=some v):(x,v)∈l:=by
 unfold fR at h;cases Z:l.find? λp=>p.1==x with
 |none=>rw[Z] at h;cases h
 |some p=>
  rw[Z] at h;have h1:=K8 Z;have h2:=K7 Z;simp only[tr,kb] at h;have:p.1=x:=by simpa using h1
  rw[<-this,<-h];exact h2
def yX:fR l x=none↔x∉l.map (·.1):=by unfold fR;rw[ac1,Ll];simp only[UO,bf,Prod.exists,exists_and_right,exists_eq_right,not_exists,Prod.forall];exact⟨λh v hm=>h x v hm rfl,λh a b hm e=>h b (e▸hm)⟩
def ago(ae:(l.map (·.1)).Nodup):fR l x=some v↔(x,v)∈l:=by
 refine⟨MS,λh=>?_⟩;cases W:fR l x with
 |none=>exact aW (bf.2 ⟨_,h,rfl⟩) (yX.1 W)|some b8=>
  have bQ:=MS W;have:∀{l:M (o×ap)},(l.map (·.1)).Nodup->(x,v)∈l->(x,b8)∈l->v=b8:=by
   intro l;induction l with
   |nil=>intro _ h;cases h
   |cons p l aM=>intro ae h1 h2;have h3:=hI.1 ae;rcases cJ.1 h1 with aS|h1;rcases cJ.1 h2 with aB|h2;rw[<-aB] at aS;cases aS;rfl;exact(h3.1 (bf.2 ⟨_,h2,by rw[<-aS]⟩)).elim;rcases cJ.1 h2 with aB|h2;exact(h3.1 (bf.2 ⟨_,h1,by rw[<-aB]⟩)).elim;exact aM h3.2 h1 h2
  rw[this ae h bQ]
def aql(x:o):∀(es:M zQ) (l:M (o×ap)) (i:N),es.map MapEntry.je=l.map nw->
  (fR l x=none->HA (.int .i64) (.int .i64 x) es i=some none)/\(∀v,fR l x=some v->∃j,HA (.int .i64) (.int .i64 x) es i=some (some (i+j,v))/\l[j]?=some (x,v)):=by
 intro es
 induction es with
 |nil=>
  intro l i h;have:l=[]:=by simpa using h.symm
  subst this;exact⟨λ_=>rfl,λv aA=>(by simp[fR] at aA)⟩
 |cons e es aM=>
  intro l i h;cases l with
  |nil=>simp at h|cons y l=>
   simp only[gm,uZ,MapEntry.je,nw,HB] at h;obtain⟨⟨hk,aA⟩,O⟩:=h;obtain⟨i1,i2⟩:=aM l (i+1) O;unfold HA;rw[hk,aA];simp only[Instr.sameNow,qI];by_cases hv:y.1=x;have ab:(x==y.1)=ak:=by simpa using hv.symm
   have W:fR (y::l) x=some y.2:=by simp[fR,hv]
   rw[ab,W];refine⟨λh=>(by cases h),λv aA=>⟨0,?_,?_⟩⟩;cases aA;rfl;cases aA;simp[<-hv];have ab:(x==y.1)=ax:=by simpa using λh=>hv h.symm
   have W:fR (y::l) x=fR l x:=by
    have:(y.1==x)=ax:=by simpa using hv
    simp[fR,HP,this]
   rw[ab,W];refine⟨i1,λv aA=>?_⟩;obtain⟨j,h1,h2⟩:=i2 v aA;exact⟨j+1,by rw[h1,show i+1+j=i+(j+1) by omega],by simpa using h2⟩
structure om(P:dY)(t k e:dJ)(Y:ap):Prop where
 fw:P.underlying t=some (.map k e)
 key:P.underlying k=some (.int .i64)
 zero:∀w,(zeroValue e).run P w=.ok Y w
def om.check(T:om P t k e Y)(b:aK)(x:o)(w:b7):(HC b 10000 k (.int .i64 x)).run P w=.ok () w:=by show(HC b (9999+1) k (.int .i64 x)).run P w=.ok () w;unfold HC;simp[eW,iz T.key,jL]
def om.find(T:om P t k e Y){es:cw zQ}(h:es.toList.map MapEntry.je=l.map nw)(x:o)(w:b7):
  (fR l x=none->(B2 k (.int .i64 x) es.toList).run P w=.ok none w)/\(∀v,fR l x=some v->∃j,(B2 k (.int .i64 x) es.toList).run P w=.ok (some (j,v)) w/\l[j]?=some (x,v)):=by
 obtain⟨h1,h2⟩:=aql x es.toList l 0 h
 constructor
 intro J
 simp[B2,eW,iz T.key,jL,h1 J]
 intro v aA
 obtain⟨j,aP,ar⟩:=h2 v aA
 rw[k5] at aP
 exact⟨j,by simp[B2,eW,iz T.key,jL,aP],ar⟩
def Qw(T:om P t k e Y)(h:fx u b l){ct:aL}(y:ct.den)(ah:(fR l x).getD Y=ct.enc y){K:ct.den->H->Prop}(au:K y u):
  dd P (gY t (.map (some b)) (.int .i64 x) ax) [.one ct] u K:=by
 obtain⟨es,c,ab,ar⟩:=h
 refine .Hk (c:=ct) y (λw hw=>?_) au
 have W:=zR (P:=P) (hw _ _ ab)
 have I:=T.check es.isEmpty x w
 obtain⟨f1,f2⟩:=T.find ar.je x w
 cases J:fR l x with
 |none=>rw[J] at ah;have j9:Y=ct.enc y:=ah;simp[gY,eW,iz T.fw,W,I,f1 J,jL,T.zero,j9]
 |some v=>rw[J] at ah;have j9:v=ct.enc y:=ah;obtain⟨j,aP,_⟩:=f2 v J;simp[gY,eW,iz T.fw,W,I,aP,jL,j9]
def dd.azZ{m:Sem ap}{c d:aL}{K:c.den->d.den->H->Prop}(x:c.den)(y:d.den)(h:∀w,Sub u w->m.run P w=.ok (.tuple #[c.enc x,d.enc y]) w)(au:K x y u):dd P m [.one c,.one d] u K:=by intro w hw;exact⟨_,w,u,h w hw,⟨[c.enc x,d.enc y],.cons x (.cons y .nil),rfl,(aL.rR c x _).2 ((aL.rR d y _).2 au)⟩,Step.refl hw⟩
def tB(T:om P t k e Y)(h:fx u b l){ct:aL}(y:ct.den)(ah:(fR l x).getD Y=ct.enc y){K:ct.den->aK->H->Prop}(au:K y (fR l x).isSome u):
  dd P (gY t (.map (some b)) (.int .i64 x) ak) [.one ct,.one .bool] u K:=by
 obtain⟨es,c,ab,ar⟩:=h
 refine dd.azZ (c:=ct) (d:=.bool) y _ (λw hw=>?_) au
 have W:=zR (P:=P) (hw _ _ ab)
 have I:=T.check es.isEmpty x w
 obtain⟨f1,f2⟩:=T.find ar.je x w
 cases J:fR l x with
 |none=>rw[J] at ah;have j9:Y=ct.enc y:=ah;simp[gY,eW,iz T.fw,W,I,f1 J,jL,T.zero,j9,aL.enc]
 |some v=>rw[J] at ah;have j9:v=ct.enc y:=ah;obtain⟨j,aP,_⟩:=f2 v J;simp[gY,eW,iz T.fw,W,I,aP,jL,j9,aL.enc]
def Ep(T:om P t k e Y)(h:fx u b l)(J:fR l x=none){K:H->Prop}
  (au:∀z,fx (u.ins b z) b (l++ [(x,v)])->K (u.ins b z)):
  dd P (unit (lx t (.map (some b)) (.int .i64 x) v)) [] u K:=by
 obtain⟨es,c,ab,ar⟩:=h
 intro w hw
 have W:=zR (P:=P) (hw _ _ ab)
 have aP:=(T.find ar.je x w).1 J
 have I:=T.check ax x w
 have ky:=Lc (P:=P) (.map (es.push {key:=.int .i64 x,val:=v,born:=c}) (c+1)) (hw _ _ ab)
 refine⟨_,_,u.ins b (.map (es.push {key:=.int .i64 x,val:=v,born:=c}) (c+1)),?_,⟨[],.nil,rfl,au _ ⟨_,_,H.bh _ _ _,?_,?_,?_,?_⟩⟩,step_block hw ab _⟩
 simp[unit,lx,eW,iz T.fw,W,I,aP,jL,ky]
 rfl
 simp[ar.je,MapEntry.je,nw]
 rw[Array.toList_push,ek]
 refine gh.2 ⟨ar.born,by simp,λa aE d aw=>?_⟩
 obtain⟨gv,he,rfl⟩:=bf.1 aE
 have:=ar.lt gv he
 simp only[gm,zT,fV] at aw
 omega
 intro gv he
 rw[Array.toList_push] at he
 rcases cN.1 he with he|he
 have:=ar.lt gv he;omega
 obtain rfl:gv=_:=by simpa using he
 exact Nat.lt_succ_self c
 rw[ek]
 refine gh.2 ⟨ar.nodup,by simp,λa aE d aw=>?_⟩
 have:=yX.1 J
 simp only[gm,zT,fV] at aw
 exact λe=>this (by rw[<-aw,<-e];exact aE)
def erase_filter(ae:(l.map (·.1)).Nodup){j:N}(h:l[j]?=some (x,v)):l.eraseIdx j=l.filter λp=>p.1 !=x:=by
 induction l generalizing j with
 |nil=>simp at h|cons p l aM=>
  have h3:=hI.1 ae;cases j with
  |zero=>
   simp only[BW,kb] at h;subst h;have:l.filter (λp=>p.1 !=x)=l:=p6.2 λq aN=>by have:q.1≠x:=λe=>h3.1 (bf.2 ⟨q,aN,e⟩);simpa using this
   simp[this]|succ j=>simp only[x9] at h;have ad:p.1≠x:=λe=>h3.1 (bf.2 ⟨_,dK h,e.symm⟩);rw[List.eraseIdx_cons_succ,aM h3.2 h,List.filter_cons_of_pos (by simpa using ad)]
def Qv{bt abv:dJ}(T:om P t k e Y)(h:fx u b l){K:H->Prop}
  (au:∀z,fx (u.ins b z) b (l.filter λp=>p.1 !=x)->K (u.ins b z)):
  dd P (tq #[t,abv] bt #[.map (some b),.int .i64 x]) [] u K:=by
 obtain⟨es,c,ab,ar⟩:=h
 intro w hw
 have W:=zR (P:=P) (hw _ _ ab)
 have I:=T.check es.isEmpty x w
 obtain⟨f1,f2⟩:=T.find ar.je x w
 cases J:fR l x with
 |none=>
  have ky:=Lc (P:=P) (.map es c) (hw _ _ ab);have Z:l.filter (λp=>p.1 !=x)=l:=p6.2 λq aN=>by have:q.1≠x:=λe=>yX.1 J (bf.2 ⟨q,aN,e⟩);simpa using this
  refine⟨_,_,u.ins b (.map es c),?_,⟨[],.nil,rfl,au _ ⟨_,_,H.bh _ _ _,by rw[Z];exact ar⟩⟩,step_block hw ab _⟩;simp[tq,eW,iz T.fw,W,I,f1 J,jL,ky];rfl
 |some v=>
  obtain⟨j,aP,Tb⟩:=f2 v J;have ky:=Lc (P:=P) (.map (es.eraseIdxIfInBounds j) c) (hw _ _ ab);have het:(es.eraseIdxIfInBounds j).toList=es.toList.eraseIdx j:=by simp
  have gJ:(es.toList.eraseIdx j).Sublist es.toList:=List.eraseIdx_sublist _ _;refine⟨_,_,u.ins b (.map (es.eraseIdxIfInBounds j) c),?_,⟨[],.nil,rfl,au _ ⟨_,_,H.bh _ _ _,?_,?_,?_,?_⟩⟩,step_block hw ab _⟩;simp[tq,eW,iz T.fw,W,I,aP,jL,ky];rfl;have key:∀{α β:Type} (f:α->β) (L:M α) (j:N),(L.eraseIdx j).map f=(L.map f).eraseIdx j:=by
    intro α β f L;induction L with
    |nil=>intro j;rfl
    |cons a L aM=>intro j;cases j with
     |zero=>rfl|succ j=>simp[aM j]
  rw[het,key,ar.je,<-key,erase_filter ar.nodup Tb];rw[het];exact ar.born.sublist (gJ.map _);intro gv he;rw[het] at he;exact ar.lt gv (gJ.mem he);exact ar.nodup.sublist (acW _ U0)
def wJ{bt:dJ}(T:om P t k e Y)(h:fx u b l){K:o->H->Prop}(au:K l.length u):
  dd P (rK #[t] bt #[.map (some b)]) [.one (.int .i64)] u K:=by
 obtain⟨es,c,ab,ar⟩:=h
 have hlen:es.size=l.length:=by have:=ei iS ar.je;simpa using this
 refine .Hk (c:=.int .i64) (l.length:o) (λw hw=>?_) au
 have W:=zR (P:=P) (hw _ _ ab)
 simp[rK,eW,iz T.fw,W,jL,hlen]
 rfl
def H6{K:ay N->H->Prop}(au:∀b z,u b=none->fx (u.ins b z) b []->K (some b) (u.ins b z)):dd P (rI t none) [.one .map] u K:=
 .one (c:=.map) λw hw=>⟨some w.heap.size,_,_,Go.RowKit.run_makeMap t w,au _ _ (hw.none (cA _)) ⟨#[],0,H.bh _ _ _,rfl,by simp,by simp,by simp⟩,Step.BN hw _⟩
def na(u:H)(r b:N)(l dl:M (o×ap)):Prop:=
 ∃es clock seen,u b=some (.map es clock)/\aez es clock l/\u r=some (.mapIter (some b) clock seen clock)/\
  ∃ds:M zQ,seen.toList=ds.map (·.born)/\ds.map MapEntry.je=dl.map nw/\(∀d∈ds,d∈es.toList)/\(dl.map (·.1)).Nodup
def na.else(h:na u r b l dl)(ab:∀z,u b=some z->u' b=some z)(O:∀z,u r=some z->u' r=some z):na u' r b l dl:=by obtain⟨es,c,seen,h1,h2,h3,a7⟩:=h;exact⟨es,c,seen,ab _ h1,h2,O _ h3,a7⟩
def na.map(h:na u r b l dl):fx u b l:=by obtain⟨es,c,seen,h1,h2,_⟩:=h;exact⟨es,c,h1,h2⟩
def na.sub(h:na u r b l dl):∀p∈dl,p∈l:=by
 obtain⟨es,c,seen,h1,h2,h3,ds,a7,bK,fs,mF⟩:=h;intro p ad;have:nw p∈ds.map MapEntry.je:=by rw[bK];exact bf.2 ⟨p,ad,rfl⟩
 obtain⟨d,aw,e⟩:=bf.1 this;have:nw p∈l.map nw:=by rw[<-h2.je,<-e];exact bf.2 ⟨d,fs d aw,rfl⟩
 obtain⟨q,aN,e⟩:=bf.1 this;rw[<-abI e];exact aN
def na.CW(h:na u r b l dl):(dl.map (·.1)).Nodup:=by obtain⟨es,c,seen,h1,h2,h3,ds,a7,bK,fs,mF⟩:=h;exact mF
def LB(T:om P t k e Y)(h:fx u b l){K:ay bc->H->Prop}(au:∀r z,u r=none->na (u.ins r z) r b l []->K (some ⟨r,0,none⟩) (u.ins r z)):
  dd P (rJ t (.map (some b))) [.one .ptr] u K:=by
 obtain⟨es,c,ab,ar⟩:=h
 refine .one (c:=.ptr) λw hw=>?_
 have ae:=hw.none (cA _)
 have al:b≠w.heap.size:=λe=>by rw[<-e,ab] at ae;cases ae
 refine⟨some ⟨w.heap.size,0,none⟩,w.alloc (.mapIter (some b) c #[] c),_,?_,au w.heap.size (.mapIter (some b) c #[] c) ae ⟨es,c,#[],by rw[H.bq _ _ al];exact ab,ar,H.bh _ _ _,[],rfl,rfl,λd aw=>(by cases aw),by simp⟩,Step.BN hw _⟩
 have W:=zR (P:=P) (hw _ _ ab)
 simp[rJ,eW,iz T.fw,W,jL,aL.enc]
def apS{es:M zQ}(ae:(es.map (·.born)).Nodup){d e:zQ}(aw:d∈es)(he:e∈es)(h:d.born=e.born):d=e:=by
 induction es with
 |nil=>cases aw
 |cons x es aM=>have h3:=hI.1 ae;rcases cJ.1 aw with h1|h1;rcases cJ.1 he with h2|h2;rw[h1,h2];exact(h3.1 (bf.2 ⟨e,h2,by rw[<-h,h1]⟩)).elim;rcases cJ.1 he with h2|h2;exact(h3.1 (bf.2 ⟨d,h1,by rw[h,h2]⟩)).elim;exact aM h3.2 h1 h2
def axt(ar:(l.map (·.1)).Nodup)(aw:(dl.map (·.1)).Nodup)(h1:∀p∈dl,p∈l)(h2:∀p∈l,p∈dl):dl.Perm l:=by have nd:∀{l:M (o×ap)},(l.map (·.1)).Nodup->l.Nodup:=λ{l} h=>(tu.1 h).imp λh e=>h (by rw[e]);exact(U1 (nd aw) (nd ar)).2 λp=>⟨h1 p,h2 p⟩
def KN(h:na u r b l dl){my:H->Prop}{Rp:ap->ap->H->Prop}(h0:dl.Perm l->my u)
  (h1:∀p z,p∈l->p.1∉dl.map (·.1)->na (u.ins r z) r b l (dl++ [p])->Rp (.int .i64 p.1) p.2 (u.ins r z)):w0 P (.pointer (some ⟨r,0,none⟩)) u my Rp:=by
 have gJ:=h.sub
 obtain⟨es,c,seen,ab,ar,O,ds,dO,dB,uB,OD⟩:=h
 intro w hw
 have al:r≠b:=λe=>by rw[e,ab] at O;cases O
 have OH:∀e∈es.toList,seen.contains e.born=ak↔e∈ds:=by intro e he;rw[Array.contains_iff_mem,<-Ht,dO,bf];exact⟨λ⟨d,aw,gv⟩=>apS ar.born (uB d aw) he gv▸aw,λaw=>⟨e,aw,rfl⟩⟩
 have Yh:∀e∈(leftOf es seen).toList,e∈es.toList/\e∉ds:=λe he=>by unfold leftOf at he;rw[Array.toList_filter] at he;have bQ:=iT.1 he;refine⟨bQ.1,λaw=>?_⟩;have:=(OH e bQ.1).2 aw;rw[this] at bQ;simp at bQ
 have Yg:∀e∈es.toList,e∉ds->e∈(leftOf es seen).toList:=λe he aw=>by
  unfold leftOf;rw[Array.toList_filter];refine iT.2 ⟨he,?_⟩;cases I:seen.contains e.born with
  |true=>exact aW ((OH e he).1 I) aw|false=>rfl
 rcases run_next_at (P:=P) w 0 r b c c seen es c (hw _ _ O) (hw _ _ ab) ar.lt (cA _) with⟨aC,nq⟩|⟨e,asw,gj,dW,nq⟩
 refine⟨w,u,.inl ⟨nq,h0 ?_⟩,Step.refl hw⟩
 have arn:leftOf es seen=#[]:=Array.eq_empty_of_size_eq_zero aC
 refine axt ar.nodup OD gJ λp ad=>?_
 have:nw p∈es.toList.map MapEntry.je:=by rw[ar.je];exact bf.2 ⟨p,ad,rfl⟩
 obtain⟨e,he,aS⟩:=bf.1 this
 have aw:e∈ds:=akO λae=>by have:=Yg e he ae;rw[arn] at this;simp at this
 have:nw p∈dl.map nw:=by rw[<-dB,<-aS];exact bf.2 ⟨e,aw,rfl⟩
 obtain⟨q,aN,aB⟩:=bf.1 this
 rw[<-abI aB];exact aN
 have ajk:Sub u gj:=by rcases dW with rfl|rfl<;>exact hw
 have azn:Step u [] w u [] gj:=by rcases dW with rfl|rfl;exact Step.refl hw;exact Step.RW hw (zO w.drawn)
 obtain⟨NB,bS⟩:=Yh _ asw
 obtain⟨p,ad,tb⟩:∃p∈l,nw p=MapEntry.je e:=by
  have:MapEntry.je e∈l.map nw:=by rw[<-ar.je];exact bf.2 ⟨e,NB,rfl⟩
  obtain⟨p,ad,aS⟩:=bf.1 this;exact⟨p,ad,aS⟩
 have JO:e.key=.int .i64 p.1:=(ei sq tb).symm
 have j6:e.val=p.2:=(ei tv tb).symm
 have Ot:p.1∉dl.map (·.1):=by
  intro hm;obtain⟨q,aN,aS⟩:=bf.1 hm;have qA:=gJ q aN;have aaj:q=p:=by have h1:=(ago ar.nodup (x:=p.1) (v:=q.2)).2 (by rw[<-aS];exact qA);have h2:=(ago ar.nodup (x:=p.1) (v:=p.2)).2 ad;rw[h1] at h2;cases q;cases p;simp only[kb] at h2 aS;rw[h2,aS]
  have:nw p∈ds.map MapEntry.je:=by rw[dB,<-aaj];exact bf.2 ⟨q,aN,rfl⟩
  obtain⟨d,aw,aB⟩:=bf.1 this;have Y3:d=e:=by
   have atj:MapEntry.je d=MapEntry.je e:=by rw[aB,tb]
   obtain⟨m,hm,em⟩:=sn.1 (uB d aw);obtain⟨n,ae,afP⟩:=sn.1 NB;have rk:m=n:=by
    have hlen:es.toList.length=l.length:=by have:=ei iS ar.je;simpa using this
    have b3:(l.map nw)[m]?=some (MapEntry.je d):=by rw[<-ar.je,iR,cr hm,em];rfl
    have cu:(l.map nw)[n]?=some (MapEntry.je e):=by rw[<-ar.je,iR,cr ae,afP];rfl
    have jW:l[m]'(by omega)=l[n]'(by omega):=by rw[atj] at b3;rw[iR,cr (by omega)] at b3 cu;exact abI (cU (b3.trans cu.symm))
    rcases UA m n with bQ|bQ|bQ;have:=qN.1 ar.nodup m n (by simp;omega) (by simp;omega) bQ;simp only[HQ] at this;exact aW (by rw[jW]) this;exact bQ;have:=qN.1 ar.nodup n m (by simp;omega) (by simp;omega) bQ;simp only[HQ] at this;exact aW (by rw[jW]) this
   subst rk;rw[<-em,<-afP]
  exact bS (Y3▸aw)
 refine⟨_,u.ins r (.mapIter (some b) c (seen.push e.born) c),.inr ⟨_,_,nq,?_⟩,azn.trans (step_block ajk O _)⟩
 rw[JO,j6]
 refine h1 p _ ad Ot ⟨es,c,seen.push e.born,by rw[H.bq _ _ (dz al)];exact ab,ar,H.bh _ _ _,ds++ [e],by simp[dO],?_,?_,?_⟩
 rw[ek,dB,ek];simp[tb]
 intro d aw
 rcases cN.1 aw with aw|aw
 exact uB d aw
 obtain rfl:d=e:=by simpa using aw
 exact NB
 rw[ek]
 refine gh.2 ⟨OD,by simp,λa aE d aw=>?_⟩
 simp only[gm,zT,fV] at aw
 exact λe=>Ot (by rw[<-aw,<-e];exact aE)
def I9{p:o×ap}(h:na u r b l (dl++ [p])){K:ap->ap->H->Prop}(au:K (.int .i64 p.1) p.2 u):wZ P (.pointer (some ⟨r,0,none⟩)) u K:=by
 obtain⟨es,c,seen,ab,ar,O,ds,dO,dB,uB,OD⟩:=h;intro w hw;obtain⟨Fh,e,rfl⟩:∃Fh e,ds=Fh++ [e]:=by rcases List.eq_nil_or_concat ds with h|⟨a,b,h⟩;rw[h] at dB;simp at dB;exact⟨a,b,by rw[h,List.concat_eq_append]⟩
 have hk:MapEntry.je e=nw p:=by have:=ei List.getLast? dB;simpa using this
 have JO:e.key=.int .i64 p.1:=ei sq hk;have j6:e.val=p.2:=ei tv hk;have OH:seen=(Fh.map (·.born)).toArray.push e.born:=by apply K0;rw[dO];simp
 rw[OH] at O;have:=run_entry_at (P:=P) w r b c (Fh.map (·.born)).toArray es c e (hw _ _ O) (hw _ _ ab) (uB e (by simp)) ar.born;exact⟨_,_,w,u,this,by rw[JO,j6];exact au,Step.refl hw⟩
end
namespace kR
def Mg:hn aH 256=ak:=by kernel_rfl
def WQ:hn aH 258=ak:=by kernel_rfl
def Xm{ub:H}{n0:N}{id:o}(bJ:ub.cell? ⟨n0,0,none⟩=some (.int .i64 id)):Rs ub (.func (.func 258) #[] #[.pointer (some ⟨n0,0,none⟩)]) λr=>decide (r.id=id):=λr v K aA au=>
 .inl ⟨_,_,_,rfl,hh WQ,aG.abx r.id r.s ⟨n0,0,none⟩ v K ⟨_,H.le.cell (show ub.le v from aA) bJ,au⟩⟩
def spec.drop{ub:H}{n0 b4:N}{id:o}(bJ:ub.cell? ⟨n0,0,none⟩=some (.int .i64 id))(c1:ub.cell? ⟨b4,0,none⟩=some (.func (.func 256) #[] #[.pointer (some ⟨n0,0,none⟩),.pointer (some ⟨b4,0,none⟩)])):
  ∀(n:av) {u:H} {K:H->Prop},ub.le u->(∀x∈n.bM,hM u x)->n.own.Nodup->(∀c∈n.own,ub c=none)->(∀x∈n.bM,∀r∈x.1.rows,Ints ub r.s r.v)->n.bM.length<=10000000->(∀u' n',IE id n u' n'->(∀c z,u c=some z->c∉n.own->u' c=some z)->(∀c,u c≠none->u' c≠none)->K u')->
   C.TY (some ⟨n.b,0,none⟩) ⟨n0,0,none⟩ ⟨b4,0,none⟩ u K:=by
 intro n
 induction n using av.ind with
 |h n aM=>
  intro u K b9 o9 bS ig ln cI au;have bU:(n.h,n.kids.map av.b)∈n.bM:=by rw[av.iu];exact fW ..
  have h0:=o9 _ bU;have ab:n.b=n.h.b:=rfl;rw[av.rG] at bS ig;have nW:=bS;rw[gh] at nW;obtain⟨gp,ft,s8⟩:=nW;have OK:∀g,n.h.sr.aj=some g->g∈n.h.dv:=λg W=>by simp[er.dv,W]
  have OL:n.h.sr.aj≠some n.h.b:=λe=>by unfold er.dv at gp;rw[hI] at gp;exact gp.1 (by simp[e])
  have av0:n.kids.length<=10000000:=by
   have h1:n.bM.length=1+(n.kids.flatMap av.bM).length:=by rw[av.iu,hX];omega
   have h2:∀ks:M av,ks.length<=(ks.flatMap av.bM).length:=λks=>by
    induction ks with
    |nil=>simp|cons k ks GP=>rw[gy,ez,hX];have:=k.SP;omega
   have:=h2 n.kids;omega
  apply aG.TY;refine⟨_,rfl,n.h.sr,H.ba h0.cell 6,?_⟩;refine spec.Cd h0.rws.f (Xm bJ) b9 (λg W=>ig g (iQ _ (OK g W))) λs2 j0 dI kJ ic=>?_;have A1:(n.h.rows.filter λr=>!decide (r.id=id))=n.h.rows.filter λr=>r.id !=id:=List.filter_congr λr _=>by by_cases e:r.id=id<;>simp[e]
  rw[A1] at dI;refine⟨_,rfl,?_⟩;have YU:j0 n.h.b=some (.cells (eS n.h).toArray 213 (0,0)):=ic _ _ h0.cell OL;refine VJ YU s2 (n.h.rows.filter λr=>r.id !=id) ?_;obtain⟨bQ,mc⟩:∃bQ:er,bQ={n.h with sr:=s2,rows:=n.h.rows.filter λr=>r.id !=id}:=⟨_,rfl⟩;rw[<-mc];have eG:bQ.b=n.h.b:=by rw[mc]
  have Nq:bQ.dv=n.h.dv:=by rw[mc];unfold er.dv;simp[kJ]
  obtain⟨fA,ry⟩:∃fA,fA=j0.ins n.h.b (.cells (eS bQ).toArray 213 (0,0)):=⟨_,rfl⟩;rw[<-ry];have lB:fA n.h.b=some (.cells (eS bQ).toArray 213 (0,0)):=by rw[ry];exact H.bh _ _ _
  have tX:∀c z,j0 c=some z->c≠n.h.b->fA c=some z:=λc z I al=>by rw[ry,H.bq _ _ al];exact I
  have gw:∀c z,u c=some z->c∉n.h.dv->fA c=some z:=λc z I al=>tX c z (ic c z I λe=>al (OK c e)) λe=>al (by rw[e];exact fW ..);have abF:∀c,u c≠none->fA c≠none:=λc I=>by by_cases e:c=n.h.b;rw[e,lB];simp;obtain⟨z,aa⟩:=e9.1 I;by_cases aB:n.h.sr.aj=some c;obtain⟨zB,mf⟩:=e9.1 (dE dI (g:=c) (by rw[kJ];exact aB));rw[tX c zB mf e];simp;rw[tX c z (ic c z aa aB) e];simp
  have vX:ub.le fA:=λc z I=>gw c z (b9 c z I) λhm=>by rw[ig c (iQ _ hm)] at I;cases I
  have PL:∀{e k:N} {s:U} {xs:M ap},Own u e k s xs->(∀g,s.aj=some g->g≠n.h.b/\n.h.sr.aj≠some g)->Own fA e k s xs:=λaa al=>aa.le λc z I hu=>tX c z (ic c z hu λe=>(al c I).2 e) (al c I).1;have j5:(∀g,n.h.bi.aj=some g->g≠n.h.b/\n.h.sr.aj≠some g)/\(∀g,n.h.fp.aj=some g->g≠n.h.b/\n.h.sr.aj≠some g)/\(∀g,n.h.db.aj=some g->g≠n.h.b/\n.h.sr.aj≠some g):=by unfold er.dv at gp;rw[hI] at gp;obtain⟨cM,c6⟩:=gp;have aN:∀g,g∈n.h.bi.aj.toList++n.h.fp.aj.toList++n.h.sr.aj.toList++n.h.db.aj.toList->g≠n.h.b:=λg W e=>cM (by rw[<-e];exact W);rw[gh,gh,gh] at c6;obtain⟨⟨⟨_,_,da⟩,_,fk⟩,_,pZ⟩:=c6;refine⟨λg W=>⟨aN g (by simp[W]),λe=>fk g (by simp[W]) g (by simp[e]) rfl⟩,λg W=>⟨aN g (by simp[W]),λe=>fk g (by simp[W]) g (by simp[e]) rfl⟩,λg W=>⟨aN g (by simp[W]),λe=>pZ g (by simp[e]) g (by simp[W]) rfl⟩⟩
  have Nj:∀tg,tg=n.kids.map av.b->hM fA (bQ,tg):=λtg Zu=>by subst Zu;subst mc;refine⟨lB,PL h0.bH j5.1,PL h0.hi j5.2.1,dI.own.le λc z I hu=>tX c z hu λe=>OL (by rw[<-kJ,I,e]),λr O=>(ln _ bU r (iT.1 O).1).mono vX,br.else h0.lY λg z W aa=>tX g z (ic g z aa λe=>(j5.2.2 g W).2 e) (j5.2.2 g W).1⟩
  have GA:bQ.db=n.h.db:=by rw[mc]
  refine⟨_,rfl,bQ.db,by rw[ab];exact H.ba lB 7,?_⟩;refine⟨λx w=>0<=x/\x<=n.kids.length/\(∀c z,fA c=some z->c∉n.kids.flatMap av.own->w c=some z)/\(∀c,fA c≠none->w c≠none)/\∃ds:M av,ds.length=x.toNat/\(∀(i:N) d k,ds[i]?=some d->n.kids[i]?=some k->IE id k w d)/\(∀(i:N) k,x.toNat<=i->n.kids[i]?=some k->∀y∈k.bM,hM w y),
   λx _=>((n.kids.length:o)-x).toNat,⟨by omega,by omega,λc z I _=>I,λc I=>I,[],rfl,λi d k aw=>by simp at aw,λi k _ hk y ah=>?_⟩,?_⟩
  obtain⟨jk,z2⟩:k.own ⊆ n.kids.flatMap av.own/\True:=⟨λc I=>ej.2 ⟨k,dK hk,I⟩,trivial⟩;have GN:y∈n.bM:=by rw[av.iu];exact gi _ (ej.2 ⟨k,dK hk,ah⟩)
  refine(o9 y GN).bN (λc z I aa=>gw c z aa λhm=>s8 c hm c (jk (ej.2 ⟨y,ah,I⟩)) rfl) λr O=>(ln y GN r O).mono vX;rintro x w ⟨bL,dC,ta,o8,ds,y7,r6,tc⟩;have k0:ub.le w:=λc z I=>ta c z (vX c z I) λhm=>by rw[ig c (lz _ hm)] at I;cases I
  have aaw:bQ.db.n=n.kids.length:=by rw[GA];have:=h0.lY.len;simp at this;omega
  have F8:∀{Y:N} {k:av},n.kids[Y]?=some k->(∀y∈k.bM,y∈n.bM)/\(∀c∈k.own,c∈n.kids.flatMap av.own):=λhk=>⟨λy ah=>by rw[av.iu];exact gi _ (ej.2 ⟨_,dK hk,ah⟩),λc I=>ej.2 ⟨_,dK hk,I⟩⟩;refine⟨λJ=>?_,λJ=>?_⟩;have eR:x.toNat<n.kids.length:=by omega
  obtain⟨k,hk⟩:∃k,n.kids[x.toNat]?=some k:=⟨_,cr eR⟩;have aav:br fA n.h.db 1 ((n.kids.map av.b).map λn=>.pointer (some ⟨n,0,none⟩)):=(Nj _ rfl).lY|>λh=>by rw[GA] at h;exact h
  have aay:br w n.h.db 1 ((n.kids.map av.b).map λn=>.pointer (some ⟨n,0,none⟩)):=br.else aav λg z W aa=>ta g z aa λhm=>s8 g (by simp[er.dv,W]) g hm rfl;have r9:((n.kids.map av.b).map λn=>hy (some ⟨n,0,none⟩))[x.toNat]?=some (.pointer (some ⟨k.b,0,none⟩)):=by simp[hk]
  obtain⟨p,ad,fS⟩:=aay.at'|>.resolve_left (λe=>by rw[e] at r9;simp at r9);have ow:=fS _ _ r9;obtain⟨b3,cu⟩:=F8 hk;have jU:k.own.Nodup:=ft.sublist (U2 (h7 (f:=av.own) (dK hk)));have OO:k.bM.length<=10000000:=by
   have h1:n.bM.length=1+(n.kids.flatMap av.bM).length:=by rw[av.iu,hX];omega
   have h2:k.bM.length<=(n.kids.flatMap av.bM).length:=(U2 (h7 (f:=av.bM) (dK hk))).length_le;omega
  refine⟨p,by rw[GA];exact ad,⟨bL,by omega⟩,_,by unfold a8;rw[B1];exact ow,_,k0.cell c1,.inl ⟨_,_,_,rfl,hh Mg,?_⟩⟩;refine aM k (dK hk) k0 (tc x.toNat k (cA _) hk) jU (λc I=>ig c (lz _ (cu c I))) (λy ah=>ln y (b3 y ah)) OO λw' d aw eC JP=>?_;have OV:ub.le w':=λc z I=>eC c z (k0 c z I) λe=>by rw[ig c (lz _ (cu c e))] at I;cases I
  have other:∀{i:N} {dT:av},n.kids[i]?=some dT->i≠x.toNat->∀c∈dT.own,c∉k.own:=λdA al c I=>aga ft dA hk al I;refine⟨⟨by omega,by omega⟩,⟨by omega,by omega,λc z I hm=>eC c z (ta c z I hm) λe=>hm (cu c e),λc I=>JP c (o8 c I),ds++ [d],by rw[ez,y7];simp;omega,λi lI dT r5 dA=>?_,λi dT hi dA y ah=>?_⟩,by dsimp only;omega⟩;by_cases e:i<ds.length;rw[qJ e] at r5;have hold:=r6 i lI dT r5 dA;have al:=other dA (by omega);refine⟨λy ah=>(hold.one y ah).bN (λc z I aa=>eC c z aa (al c (by rw[<-hold.own];exact ej.2 ⟨y,ah,I⟩))) λr O=>?_,hold.own,hold.b,hold.bA,hold.rows⟩;obtain⟨Y,aC,nr⟩:=hold.rows y ah r O;exact(ln Y ((F8 dA).1 Y aC) r nr).mono OV;have eO:i<(ds++ [d]).length:=(jM.1 r5).1;rw[ez,rO] at eO;have sN:i=x.toNat:=by omega
  rw[K2 (by omega),show i-ds.length=0 by omega] at r5;obtain rfl:=cU (show some d=some lI from r5);rw[sN,hk] at dA;obtain rfl:=cU dA;exact aw;refine(tc i dT (by omega) dA y ah).bN (λc z I aa=>eC c z aa (other dA (by omega) c (ej.2 ⟨y,ah,I⟩))) λr O=>(ln y ((F8 dA).1 y ah) r O).mono OV;have eR:x.toNat=n.kids.length:=by omega
  have aso:ds.length=n.kids.length:=by omega
  have Fl:∀{γ:Type} (f g:av->γ),(∀(i:N) d k,ds[i]?=some d->n.kids[i]?=some k->f d=g k)->ds.map f=n.kids.map g:=λf g ND=>by apply sk;intro i;rw[iR,iR];by_cases e:i<ds.length;have h1:ds[i]?=some ds[i]:=cr e;have h2:n.kids[i]?=some n.kids[i]:=cr (by omega);rw[h1,h2,tr,tr,ND i _ _ h1 h2];rw[iy (by omega),iy (by omega)];rfl
  have Mz:ds.map av.b=n.kids.map av.b:=Fl _ _ λi d k h1 h2=>(r6 i d k h1 h2).b;have XC:ds.flatMap av.own=n.kids.flatMap av.own:=by rw[Lp,Lp,Fl av.own av.own λi d k h1 h2=>(r6 i d k h1 h2).own]
  have Fq:ds.map av.bA=n.kids.map λk=>k.bA.del id:=Fl _ _ λi d k h1 h2=>(r6 i d k h1 h2).bA;have mem:∀d∈ds,∃k∈n.kids,IE id k w d:=λd aw=>by obtain⟨i,hi,rfl⟩:=pt aw;exact⟨_,kE (show i<n.kids.length by omega),r6 i _ _ (cr hi) (cr (by omega))⟩
  refine au w (.mk bQ ds) ⟨λy ah=>?_,?_,eG,?_,λy ah r O=>?_⟩ (λc z I hm=>?_) λc I=>o8 c (abF c I);rw[av.iu] at ah;rcases cJ.1 ah with rfl|ah;refine(Nj _ Mz).bN (λc z I aa=>ta c z aa λhm=>s8 c (by rw[<-Nq];exact I) c hm rfl) λr O=>?_;have dG:r∈n.h.rows:=by rw[mc] at O;exact(iT.1 O).1
  exact(ln _ bU r dG).mono k0;obtain⟨d,aw,ah⟩:=ej.1 ah;obtain⟨k,_,hk⟩:=mem d aw;exact hk.one y ah;rw[av.rG,av.rG];show bQ.dv++ds.flatMap av.own=_;rw[Nq,XC];rw[av.hx,av.hx,bF.del_eq];show bF.mk bQ.aD bQ.bH bQ.hi bQ.cG (bQ.rows.map az.bz) (ds.map av.bA)=bF.mk n.h.aD n.h.bH n.h.hi n.h.cG ((n.h.rows.map az.bz).filter λx=>x.1 !=id) ((n.kids.map av.bA).map (bF.del id));rw[Fq,ep,tw,mc];rfl;rw[av.iu] at ah;rcases cJ.1 ah with rfl|ah;have dG:r∈n.h.rows:=by have:r∈bQ.rows:=O;rw[mc] at this;exact(iT.1 this).1
  exact⟨_,bU,dG⟩;obtain⟨d,aw,ah⟩:=ej.1 ah;obtain⟨k,sa,hk⟩:=mem d aw;obtain⟨Y,aC,nr⟩:=hk.rows y ah r O;exact⟨Y,by rw[av.iu];exact gi _ (ej.2 ⟨k,sa,aC⟩),nr⟩;rw[av.rG] at hm;exact ta c z (gw c z I λh=>hm (iQ _ h)) λh=>hm (lz _ h)
end kR
section
variable{u:H}{s:U}{d:o}
open Go.Sort Go.Shelf
structure rU(ai u:H)(s:U)(ls:M az):Prop where
 own:aJ ai u 52 2 s (ls.flatMap cR)
 inner:∀r∈ls,aJ ai u 3 1 r.s (r.v.flatMap encI)
 eB:∀r∈ls,dH s r.s
 apart:ls.Pairwise λa b=>dH a.s b.s
def rU.rws{ai:H}{ls:M az}(h:rU ai u s ls):en u s ls:=⟨h.own.own.cE,λr O=>(h.inner r O).ints⟩
def rU.mono{ai u':H}{ls:M az}(h:rU ai u s ls)(k:u.le u'):rU ai u' s ls:=
 ⟨h.own.mono k,λr O=>(h.inner r O).mono k,h.eB,h.apart⟩
def CM(r:az):Prop:=1<=r.id/\r.id<=1000000000
def ayg:SWO (ltOf λa b:{r//CM r}=>a.1.id-b.1.id) where
 irrefl x:=by unfold ltOf;simp
 trans x y Y h1 h2:=by unfold ltOf at*;simp only[KZ] at*;omega
 ntrans x y Y h1 h2:=by unfold ltOf at*;simp only[HG] at*;omega
instance:lN {r//CM r}:=⟨⟨⟨1,⟨none,0,0⟩,[]⟩,by unfold CM;decide⟩⟩
def spec.kV{l:M az}{K:U->H->Prop}(ag:en u s l)(ch:∀r∈l,1<=r.id/\r.id<=1000000000)(ae:l.length<=1000000)(aA:∀r∈l,r.v.length<=1000000)
  (au:∀aq ls u',rU u u' aq ls->(ls.map az.bz).Perm (l.map az.bz)->(ls.Pairwise λa b=>a.id<=b.id)->K aq u'):C.kV s u K:=by
 have dw:=ag.len
 apply aG.kV
 refine Qx kF (by omega) (nA _) (by omega) (by omega) λg W=>?_
 have vM:∀(n:N),(ny [cY .i64 0,.slice none 0 0].toArray (n*2)).toList=(fX n (⟨0,⟨none,0,0⟩,[]⟩:az)).flatMap cR:=λn=>Hc (enc:=cR) fI (by decide) ⟨0,⟨none,0,0⟩,[]⟩ n
 obtain⟨cs,dD⟩:∃cs,ny [cY .i64 0,.slice none 0 0].toArray ((s.n:o).toNat*2)=cs:=⟨_,rfl⟩
 have hG:cs.toList=(fX l.length (⟨0,⟨none,0,0⟩,[]⟩:az)).flatMap cR:=by rw[<-dD,<-vM,show(s.n:o).toNat=l.length by omega]
 rw[dD]
 have asj:cs.size=l.length*2:=by rw[<-rL,hG,nQ fI];simp
 have j7:aJ u (u.ins g (.cells cs 52 (0,0))) 52 2 ⟨some ⟨g,0,none⟩,l.length,l.length⟩ ((fX l.length (⟨0,⟨none,0,0⟩,[]⟩:az)).flatMap cR):=by have:=aJ.make (k:=2) (H.le.refl u) W (cells:=cs) (e:=52) (n:=l.length) (by omega) asj;rw[hG] at this;exact this
 rw[show(s.n:o).toNat=l.length by omega]
 have hblk:(⟨some ⟨g,0,none⟩,l.length,l.length⟩:U).aj=some g:=rfl
 refine⟨λi w=>0<=i/\i<=l.length/\∃D:M az,D.map az.bz=(l.take i.toNat).map az.bz/\rU u w ⟨some ⟨g,0,none⟩,l.length,l.length⟩ (D++fX (l.length-i.toNat) ⟨0,⟨none,0,0⟩,[]⟩),
  λi _=>l.length-i.toNat,⟨by omega,by omega,[],by simp,?_⟩,?_⟩
 refine⟨by simpa using j7,λr O=>?_,λr O=>?_,?_⟩
 simp at O
 rw[O.2]
 exact aJ.nil (H.b1 _ W) _ _
 simp at O
 rw[O.2]
 intro x _ J;simp[U.aj] at J
 simp only[nz]
 rw[ac2]
 exact .inr λx J=>by simp[U.aj] at J
 rintro i w ⟨i0,i1,D,eN,bX⟩
 have Ss:D.length=i.toNat:=by have:=ei iS eN;simp at this;omega
 refine⟨λeO=>?_,λA2=>?_⟩
 obtain⟨p,ad,r,O,bJ,c1,c2⟩:=(ag.mono bX.own.le).at i0 eO
 have hq:r∈l:=dK O
 have Tr:=c2.len
 have:=aA r hq
 refine⟨p,ad,⟨i0,eO⟩,_,bJ,_,c1,spec.iH c2 (by omega) λgM hJ J9 uy=>⟨J9.le,_,rfl,⟨i0,by show i<((l.length:N):o);omega⟩,?_⟩⟩
 have arD:=bX.mono J9.le
 refine aJ.store (enc:=cR) fI arD.own (by decide) (i:=i.toNat) (by simp;omega) (y:=⟨r.id,gM,r.v⟩) (Xz _) rfl λgz Oe SM _=>⟨⟨by omega,by omega⟩,⟨by omega,by omega,D++ [⟨r.id,gM,r.v⟩],?_,?_⟩,by dsimp only;omega⟩
 rw[show(i+1).toNat=i.toNat+1 by omega,gS,O,ek,eN]
 simp[az.bz]
 have ky:(D++fX (l.length-i.toNat) (⟨0,⟨none,0,0⟩,[]⟩:az)).set i.toNat ⟨r.id,gM,r.v⟩=D++ [⟨r.id,gM,r.v⟩]++fX (l.length-(i+1).toNat) ⟨0,⟨none,0,0⟩,[]⟩:=by rw[show l.length-i.toNat=(l.length-(i+1).toNat)+1 by omega,List.replicate_succ,<-Ss,alQ];simp
 rw[ky] at Oe
 have hold:∀x∈D,aJ u w 3 1 x.s (x.v.flatMap encI):=λx J=>bX.inner x (iQ _ J)
 have asT:w g≠none:=dE bX.own hblk
 have aiV:gM.aj≠some g:=λe=>asT (J9.fresh g e)
 have asM:∀x∈D,dH x.s gM:=λx J c I c9=>dE (hold x J) I (J9.fresh c c9)
 have agK:∀x∈D,dH ⟨some ⟨g,0,none⟩,l.length,l.length⟩ x.s:=λx J=>bX.eB x (iQ _ J)
 refine⟨Oe,λx J=>?_,λx J=>?_,?_⟩
 rcases cN.1 J with J|J
 rcases cN.1 J with J|J
 exact aJ.else ((hold x J).mono J9.le) SM (λc I=>bX.own.fresh c I) λc I=>agK x J c I
 simp at J
 subst J
 exact aJ.else (J9.weaken bX.own.le) SM (λc I=>bX.own.fresh c I) λc I=>by
  have:c=g:=by rw[hblk] at I;exact(cU I).symm
  rw[this];exact aiV
 rw[(u3.1 J).2]
 exact aJ.nil (Oe.le) _ _
 rcases cN.1 J with J|J
 rcases cN.1 J with J|J
 exact agK x J
 simp at J
 subst J
 intro c I
 have:c=g:=by rw[hblk] at I;exact(cU I).symm
 rw[this];exact aiV
 rw[(u3.1 J).2]
 intro c _ I;simp[U.aj] at I
 have j5:=(Ld.1 bX.apart).1
 refine Ld.2 ⟨Ld.2 ⟨j5,by simp,λx J y ah=>?_⟩,?_,λx J y ah=>?_⟩
 simp at ah;subst ah;exact asM x J
 rw[ac2]
 exact .inr λc I=>by simp[U.aj] at I
 rw[(u3.1 ah).2]
 intro c _ I;simp[U.aj] at I
 have eO:i.toNat=l.length:=by have:¬i<(s.n:o):=A2;omega
 rw[eO,Nat.sub_self,List.replicate_zero,ly] at bX
 rw[eO,mQ] at eN
 have b6:∀r∈D,CM r:=λr O=>by
  have:r.bz∈l.map az.bz:=by rw[<-eN];exact bf.2 ⟨r,O,rfl⟩
  obtain⟨df,dG,e⟩:=bf.1 this;have h1:=ch df dG;have:df.id=r.id:=ei sq e;unfold CM;rw[<-this];exact h1
 obtain⟨E,pH⟩:∃E:M {r//CM r},E.map (·.1)=D:=⟨D.attachWith _ b6,by simp⟩
 have pR:=bX.own
 rw[<-pH] at pR
 refine spec.VC (val:=λr:{r//CM r}=>r.1) ayg (enters_of Tryz.func105 (by kernel_rfl) rfl) (λa b v=>?_) pR (by have:=ei iS pH;simp at this;omega) λdc E' ad qC dI ic=>au _ (E'.map (·.1)) _ ?_ ?_ ?_
 have aE:=a.2
 have ab:=b.2
 unfold CM at aE ab
 exact aG.XL a.1.id a.1.s b.1.id b.1.s v (λfm dc=>fm=a.1.id-b.1.id/\dc=v) ⟨⟨by omega,by omega⟩,rfl,rfl⟩
 have DD:(E'.map (·.1)).Perm D:=by rw[<-pH];exact ad.map _
 have ku:∀x∈E'.map (·.1),x∈D:=λx J=>DD.mem_iff.1 J
 exact⟨dI,λr O=>aJ.else (bX.inner r (ku r O)) ic (λc I=>bX.own.fresh c I) λc I=>bX.eB r (ku r O) c I,λr O=>bX.eB r (ku r O),bX.apart.perm DD.symm λh=>h.symm⟩
 rw[<-eN,<-pH]
 exact((ad.map (·.1)).map az.bz)
 rw[tu]
 exact qC.imp λh=>by omega
def fu(id:o)(v:M o)(d:o)(there:aK)(many:o):o:=
 if id<1∨1000000000<id then 50 else if gV v d≠0 then gV v d else if there=ax/\512<=many then 2 else 0
def spec.q9{id:o}{v:M o}{there:aK}{many:o}{K:o->H->Prop}(ag:Ints u s v)(h:K (fu id v d there many) u):C.q9 id s d there many u K:=by
 apply aG.q9;refine spec.iA ag ?_;intro pA qu;have go:∀dM:aK,(dM=ak↔(id<1∨1000000000<id))->pA dM u:=λdM ab=>qu dM u ⟨λe=>?_,λe=>⟨λal=>?_,λhe=>⟨λht=>⟨λhm=>?_,λhm=>?_⟩,λht=>?_⟩⟩⟩;exact⟨λh1=>go ak ⟨λ_=>.inl h1,λ_=>rfl⟩,λh1=>go _ ⟨λe=>.inr (by simpa using e),λe=>by simp;omega⟩⟩;unfold fu at h;rw[a1 (ab.1 e)] at h;exact h
 all_goals
  have vO:¬(id<1∨1000000000<id):=λaB=>by rw[ab.2 aB] at e;cases e
  unfold fu at h;rw[aF vO] at h
 rw[a1 al] at h;exact h;rw[aF (by simpa using he),a1 ⟨by simpa using ht,hm⟩] at h;exact h;rw[aF (by simpa using he),aF (λh2=>hm h2.2)] at h;exact h;rw[aF (by simpa using he),aF (λh2=>by rw[ht] at h2;cases h2.1)] at h;exact h
def gE(q:M o)(d k b:o):o:=if gV q d≠0 then gV q d else if k<1∨64<k∨b<0∨1000000<b then 1 else 0
def spec.qq{t:U}{q:M o}{k b:o}{K:o->H->Prop}(ht:Ints u t q)(h:K (gE q d k b) u):C.qq t d k b u K:=by unfold gE at h;apply aG.qq;refine spec.iA ht ⟨λal=>by rw[a1 al] at h;exact h,λhe=>?_⟩;rw[aF (by simpa using he)] at h;by_cases di:k<1∨64<k∨b<0∨1000000<b;rw[a1 di] at h;exact⟨λ_=>h,λb3=>⟨λ_=>h,λcu=>⟨λ_=>h,λhE=>⟨λ_=>h,λfM=>by omega⟩⟩⟩⟩;rw[aF di] at h;exact⟨λb3=>by omega,λ_=>⟨λcu=>by omega,λ_=>⟨λhE=>by omega,λ_=>⟨λfM=>by omega,λ_=>h⟩⟩⟩⟩
def spec.Ip{t:U}{a c:M az}{K:aK->H->Prop}(ag:en u s a)(ht:en u t c)(h:K (decide (a.map az.bz=c.map az.bz)) u):C.Ip s t u K:=by
 have key:∀Y,decide (a.map az.bz=c.map az.bz)=Y->K Y u:=λY e=>e▸h;have ae:=ag.len;have hm:=ht.len;have J:=ag.max;apply aG.Ip;refine⟨λal=>key ax ?_,λSQ=>?_⟩;refine p7 λe=>al ?_;have:=ei iS e;simp at this;omega;refine⟨λ_ i w=>w=u/\0<=i/\i<=a.length/\(a.take i.toNat).map az.bz=(c.take i.toNat).map az.bz,λ_ i _=>a.length-i.toNat,⟨rfl,by omega,by omega,by simp⟩,?_⟩;rintro dM i w ⟨rfl,i0,i1,aaq⟩;refine⟨λeO=>?_,λA2=>?_⟩;intro IG Js;obtain⟨p,ad,r,O,bJ,c1,c2⟩:=ag.at i0 eO;obtain⟨q,aN,df,dG,d0,d1,d2⟩:=ht.at (x:=i) i0 (by omega);have bad:r.bz≠df.bz->K ax w:=λal=>key ax (p7 λe=>al (by have:=ei (λY=>Y[i.toNat]?) e;simp only[iR,O,dG,tr,kb] at this;exact this))
 refine⟨p,ad,⟨i0,eO⟩,q,aN,⟨i0,by omega⟩,_,bJ,_,d0,λal=>bad λe=>al (ei sq e),λch=>⟨p,ad,⟨i0,eO⟩,q,aN,⟨i0,by omega⟩,_,c1,_,d1,spec.Io c2 d2 ⟨λal=>bad λe=>al ?_,λaA=>Js _ _ ⟨⟨by omega,by omega⟩,⟨rfl,by omega,by omega,?_⟩,by dsimp only;omega⟩⟩⟩⟩;rw[KZ];exact ei tv e;rw[show(i+1).toNat=i.toNat+1 by omega,gS,gS,O,dG,ek,ek,aaq];have:r.bz=df.bz:=by unfold az.bz;rw[ch,HR aA]
 simp[this];have eO:i.toNat=a.length:=by have:¬i<(s.n:o):=A2;omega
 rw[hR (by omega),hR (by omega)] at aaq;exact key ak (mm aaq)
def w3{q:M o}{k b:o}:gE q d k b=0↔gV q d=0/\1<=k/\k<=64/\0<=b/\b<=1000000:=by unfold gE;by_cases h1:gV q d=0;rw[aF (by simpa using h1)];by_cases h2:k<1∨64<k∨b<0∨1000000<b;rw[a1 h2];constructor;intro h;cases h;rintro⟨_,h3⟩;omega;rw[aF h2];exact⟨λ_=>⟨h1,by omega⟩,λ_=>rfl⟩;rw[a1 h1];exact⟨λh=>aW h h1,λh=>aW h.1 h1⟩
end
namespace kR
section
variable{u:H}{b:N}
def spec.cut{ub:H}{cZ:N}{d leaf:o}{s:U}{l:M az}{K:ay bc->H->Prop}(A5:1<=leaf)(LI:ub.cell? ⟨cZ,0,none⟩=some (.int .i64 d))(qU:ub.cell? ((cB cZ 0 none).add 1)=some (.int .i64 leaf))
  (aa:aJ ub u 52 2 s (l.flatMap cR)) (aA:∀r∈l,Ints ub r.s r.v) (bE:hD l d) (h0:l=[]->∀u',u.le u'->K none u') (au:l≠[]->∀u' n,Rn ub u s l d u' n->lG 2 n.bA->K (some ⟨n.b,0,none⟩) u'):C.DT (some ⟨cZ,0,none⟩) s u K:=by
 have b9:=aa.le
 apply aG.DT
 intro n0 eX b4 gp
 obtain⟨fK,j7⟩:∃fK,fK=(bC #[hy (some ⟨cZ,0,none⟩)] 113 (0,0)):=⟨_,rfl⟩
 rw[<-j7] at gp ⊢
 have uw:n0≠b4:=λe=>by rw[<-e,H.bh] at gp;cases gp
 have Gi:u b4=none:=by rw[H.bq _ _ (dz uw)] at gp;exact gp
 refine mT (zs:=[.nilFunc]) rfl (by simp[cT]) ?_
 obtain⟨eH,kv⟩:∃eH,eH=(bC [yQ n0 b4].toArray 170 (0,0)):=⟨_,rfl⟩
 rw[<-kv]
 obtain⟨dc,sd⟩:∃dc,dc=(u.ins n0 fK).ins b4 eH:=⟨_,rfl⟩
 rw[<-sd]
 have zu:u.le dc:=by rw[sd];exact(H.b1 _ eX).trans (H.b1 _ gp)
 have d0:dc n0=some fK:=by rw[sd,H.bq _ _ uw,H.bh]
 have d1:dc b4=some eH:=by rw[sd,H.bh]
 obtain⟨gu,GI⟩:∃gu:H,gu=λc=>if c=n0 then some fK else if c=b4 then some eH else ub c:=⟨_,rfl⟩
 have gd:gu n0=some fK:=by rw[GI];exact a1 rfl
 have hE:gu b4=some eH:=by rw[GI];show(if b4=n0 then _ else if b4=b4 then _ else _)=_;rw[aF (dz uw),a1 rfl]
 have fM:∀{c},c≠n0->c≠b4->gu c=ub c:=λ{c} h1 h2=>by rw[GI];show(if c=n0 then _ else if c=b4 then _ else _)=_;rw[aF h1,aF h2]
 have qD:ub.le gu:=λc z I=>by rw[fM (λe=>by rw[e,b9.none eX] at I;cases I) (λe=>by rw[e,b9.none Gi] at I;cases I)];exact I
 have Pm:gu.le dc:=λc z I=>by by_cases e7:c=n0;rw[e7,gd] at I;rw[e7,d0];exact I;by_cases aS:c=b4;rw[aS,hE] at I;rw[aS,d1];exact I;rw[fM e7 aS] at I;exact zu c z (b9 c z I)
 have dI:aJ gu dc 52 2 s (l.flatMap cR):=⟨(aa.mono zu).own,Pm,λg W=>by rw[fM (λe=>dE aa W (by rw[e];exact eX)) (λe=>dE aa W (by rw[e];exact Gi))];exact aa.fresh g W⟩
 have b6:wX gu n0 b4 cZ d leaf:=⟨by rw[j7] at gd;exact H.ba gd 0,by rw[kv] at hE;exact H.ba hE 0,H.le.cell qD LI,H.le.cell qD qU⟩
 refine⟨_,H.le.cell Pm b6.c1,.inl ⟨_,_,_,rfl,hh Mf,?_⟩⟩
 exact spec.Xc A5 l.length (cA _) b6 dI (λr O=>(aA r O).mono qD) bE (λe=>h0 e dc zu) λal u' n I fo=>au al u' n ⟨I.one,I.nodup,λc hm=>⟨qD.none (I.out c hm).1,(I.out c hm).2⟩,I.all,I.ok,I.rows,I.size,λc z h1 h2=>I.tY c z (zu c z h1) h2⟩ fo
inductive bp where
 |tree|map|node|vec
structure aQ where
 an:o
 leaf:o
 root:ay av
 m:N
 w:M (o×(U×M o))
 eV:N
def aQ.bY(T:aQ):o:=T.leaf
def fj(T:aQ):M ap:=[.int .i64 T.an,.int .i64 T.leaf,.pointer (T.root.map λn=>⟨n.b,0,none⟩),.map (some T.m)]
def ea(w:M (o×(U×M o))):M (o×ap):=w.map λe=>(e.1,.slice e.2.1.a e.2.1.n e.2.1.c)
structure ed(af:N->ay bp)(u:H)(b:N)(T:aQ):Prop where
 cell:u b=some (.cells (fj T).toArray 169 (0,0))
 dN:af b=some .tree
 map:fx u T.m (ea T.w)
 dn:af T.m=some .map
 vec:∀e∈T.w,Ints u e.2.1 e.2.2/\∀g,e.2.1.aj=some g->af g=some .vec
 one:∀n,T.root=some n->(∀x∈n.bM,hM u x)/\n.own.Nodup/\(∀c∈n.own,af c=some .node)/\∀x∈n.bM,∀r∈x.1.rows,∀g,r.s.aj=some g->af g=some .vec
def ed.bN{af aX:N->ay bp}{u':H}{T:aQ}(h:ed af u b T)(Z:∀c,af c≠none->aX c=af c)(hu:∀c z,u c=some z->af c≠none->u' c=some z):ed aX u' b T where
 cell:=hu _ _ h.cell (by rw[h.dN];simp)
 dN:=by rw[Z _ (by rw[h.dN];simp)];exact h.dN
 map:=h.map.else λz aa=>hu _ _ aa (by rw[h.dn];simp)
 dn:=by rw[Z _ (by rw[h.dn];simp)];exact h.dn
 vec e he:=by obtain⟨h1,h2⟩:=h.vec e he;exact⟨br.else h1 λg z W aa=>hu g z aa (by rw[h2 g W];simp),λg W=>by rw[Z g (by rw[h2 g W];simp)];exact h2 g W⟩
 one n ae:=by obtain⟨h1,h2,h3,a7⟩:=h.one n ae;refine⟨λx J=>(h1 x J).bN (λc z I aa=>hu c z aa (by rw[h3 c (ej.2 ⟨x,J,I⟩)];simp)) λr O=>br.else ((h1 x J).vec r O) λg z W aa=>hu g z aa (by rw[a7 x J r O g W];simp),h2,λc I=>by rw[Z c (by rw[h3 c I];simp)];exact h3 c I,λx J r O g W=>by rw[Z g (by rw[a7 x J r O g W];simp)];exact a7 x J r O g W⟩
def bN:yD ed:=⟨λh Z hu=>h.bN Z hu⟩
abbrev In:=mx ed
def lA(T:aQ):M j2:=match T.root with
 |none=>[]|some n=>n.bA.all
def aR(X:aQ):M (o×M o):=X.w.map λe=>(e.1,e.2.2)
structure dS(T:aQ):Prop where
 hl:1<=T.an/\T.an<=64
 BF:1<=T.leaf/\T.leaf<=64
 ids:∀e∈T.w,1<=e.1/\e.1<=1000000000
 vec:∀e∈T.w,(e.2.2.length:o)=T.an/\dj e.2.2
 small:T.w.length<=512
 rows:(lA T).Perm (aR T)
 ok:∀n,T.root=some n->ga T.an n.bA
 od:∀n,T.root=some n->lG 2 n.bA
 size:∀n,T.root=some n->n.bM.length<=1100*T.eV+2000
def iO:om aH 125 3 30 (.slice none 0 0):=⟨by kernel_rfl,by kernel_rfl,λ_=>by kernel_rfl⟩
def ME(T:aQ):(ea T.w).length=(aR T).length:=by simp[ea,aR]
def ed.rT{af:N->ay bp}{T:aQ}(h:ed af u b T):((aR T).map (·.1)).Nodup:=by obtain⟨es,cl,_,he⟩:=h.map;have:=he.nodup;unfold ea at this;rw[ep] at this;unfold aR;rw[ep];exact this
def spec.An{ai:H}{af:N->ay bp}{T:aQ}{K:o->H->Prop}(h:In ai u af b T)(au:K (aR T).length u):C.TZ (some ⟨b,0,none⟩) u K:=by apply aG.TZ;refine⟨λe=>(by cases e),λ_=>⟨_,rfl,_,H.ba h.aI.cell 3,wJ iO h.aI.map ?_⟩⟩;rw[ME];exact au
structure Am(ai u:H)(af:N->ay bp)(b:N)(T:aQ)(id:o)(u':H)(aX:N->ay bp)(bt:aQ):Prop where
 is:In ai u' aX b bt
 eP:hN u af u' aX
 ok:dS bt
 rows:aR bt=(aR T).filter λx=>x.1 !=id
 an:bt.an=T.an
 leaf:bt.leaf=T.leaf
 eV:bt.eV=T.eV
def sR(w:M (o×(U×M o)))(x:o):(fR (ea w) x=none/\x∉w.map (·.1))∨∃e,e∈w/\e.1=x/\fR (ea w) x=some (.slice e.2.1.a e.2.1.n e.2.1.c):=by
 cases h:fR (ea w) x with
 |none=>left;have:=yX.1 h;unfold ea at this;rw[ep] at this;exact⟨rfl,this⟩|some v=>right;have:=MS h;obtain⟨e,he,aB⟩:=bf.1 this;have cW:e.1=x:=ei sq aB;have fN:ec e.2.1.a e.2.1.n e.2.1.c=v:=ei tv aB;exact⟨e,he,cW,by rw[fN]⟩
def nv(T:aQ):(aR T).map (·.1)=T.w.map (·.1):=by unfold aR;rw[ep];rfl
def C1(w:M (o×(U×M o)))(id:o):(ea w).filter (λp=>p.1 !=id)=ea (w.filter λe=>e.1 !=id):=by unfold ea;rw[tw];rfl
def spec.vk{ai:H}{af:N->ay bp}{T:aQ}{id:o}{K:aK->o->H->Prop}(h:In ai u af b T)(aT:dS T)(iC:T.eV<=4000)(dV:id∉T.w.map (·.1)->∀u',u.le u'->K ax 0 u')
  (kz:id∈T.w.map (·.1)->∀u' aX bt,Am ai u af b T id u' aX bt->K ak 0 u'):C.KA (some ⟨b,0,none⟩) id u K:=by
 apply aG.KA
 intro n0 eX
 obtain⟨aU,hr⟩:∃aU,aU=u.ins n0 (.cells #[.int .i64 id] 3 (0,0)):=⟨_,rfl⟩
 have e3:u.le aU:=by rw[hr];exact H.b1 _ eX
 have d0:aU n0=some (.cells #[.int .i64 id] 3 (0,0)):=by rw[hr];exact H.bh _ _ _
 rw[<-hr]
 have i1:=mx.mono bN h e3
 have aI:=i1.aI
 refine⟨λe=>(by cases e),λ_=>⟨_,rfl,_,H.ba aI.cell 3,id,H.ba d0 0,?_⟩⟩
 rcases sR T.w id with⟨W,hm⟩|⟨e,he,ch,W⟩
 refine tB iO aI.map (ct:=.slice) (⟨none,0,0⟩:U) (by rw[W];rfl) ⟨λ_=>dV hm aU e3,λJ=>?_⟩
 rw[W] at J;cases J
 have b6:id∈T.w.map (·.1):=bf.2 ⟨e,he,ch⟩
 refine tB iO aI.map (ct:=.slice) e.2.1 (by rw[W];rfl) ⟨λJ=>?_,λ_=>?_⟩
 rw[W] at J;exact aW rfl J
 refine⟨_,rfl,_,H.ba aI.cell 3,id,H.ba d0 0,?_⟩
 refine Qv iO aI.map λz iw=>?_
 obtain⟨hJ,uG⟩:∃hJ,hJ=aU.ins T.m z:=⟨_,rfl⟩
 rw[<-uG] at iw ⊢
 have jH:∀{c},af c≠some .map->c≠T.m:=λI e=>I (by rw[e];exact aI.dn)
 have Mv:∀c z,aU c=some z->c≠T.m->hJ c=some z:=λc b5 I al=>by rw[uG,H.bq _ _ al];exact I
 have m10:hJ T.m=some z:=by rw[uG];exact H.bh _ _ _
 have ab6:n0≠T.m:=λe=>by have:=h.known T.m (by rw[h.aI.dn];simp);rw[<-e] at this;exact this eX
 intro n11 ux
 refine mT (zs:=[.nilFunc]) rfl (by simp[cT]) ?_
 obtain⟨rF,qz⟩:∃rF,rF=(bC [jv (.func 256) #[] #[.pointer (some ⟨n0,0,none⟩),.pointer (some ⟨n11,0,none⟩)]].toArray 324 (0,0)):=⟨_,rfl⟩
 rw[<-qz]
 obtain⟨gz,xO⟩:∃gz,gz=hJ.ins n11 rF:=⟨_,rfl⟩
 rw[<-xO]
 have rA:hJ.le gz:=by rw[xO];exact H.b1 _ ux
 have d11:gz n11=some rF:=by rw[xO];exact H.bh _ _ _
 have oY:∀c b5,aU c=some b5->c≠T.m->gz c=some b5:=λc b5 I al=>rA c b5 (Mv c b5 I al)
 have Ml:gz b=some (.cells (fj T).toArray 169 (0,0)):=oY b _ aI.cell (jH (by rw[aI.dN];simp))
 obtain⟨n,ae⟩:∃n,T.root=some n:=by
  cases O:T.root with
  |some n=>exact⟨n,rfl⟩|none=>have h1:=aT.rows.length_eq;unfold lA at h1;rw[O] at h1;have h2:=U3 he;simp[aR] at h1;omega
 obtain⟨cM,c6,da,fk⟩:=aI.one n ae
 have uj:gz.cell? ((cB b 0 none).add 2)=some (.pointer (some ⟨n.b,0,none⟩)):=by
  have J:fj T=[.int .i64 T.an,.int .i64 T.leaf,.pointer (some ⟨n.b,0,none⟩),.map (some T.m)]:=by simp[fj,ae]
  rw[J] at Ml;exact H.ba Ml 2
 refine⟨_,rfl,_,by rw[qz] at d11;exact H.ba d11 0,_,uj,_,_,_,rfl,hh Mg,?_⟩
 obtain⟨ub,b9⟩:∃ub:H,ub=λc=>open Classical in if c∈n.own then none else gz c:=⟨_,rfl⟩
 have yu:∀{c},c∈n.own->ub c=none:=λI=>by rw[b9];exact a1 I
 have gu:∀{c},c∉n.own->ub c=gz c:=λI=>by rw[b9];exact aF I
 have lub:ub.le gz:=λc b5 I=>by by_cases e:c∈n.own;rw[yu e] at I;cases I;rw[gu e] at I;exact I
 have lK:∀{c},af c≠some .node->c∉n.own:=λI e=>I (da _ e)
 have ab7:n0∉n.own:=λe=>h.known n0 (by rw[da n0 e];simp) eX
 have ab8:n11∉n.own:=λe=>by have h1:=i1.known n11 (by rw[da n11 e];simp);obtain⟨b5,bP⟩:=e9.1 h1;have:=Mv n11 b5 bP (jH (by rw[da n11 e];simp));rw[ux] at this;cases this
 have o2:ub.cell? ⟨n0,0,none⟩=some (.int .i64 id):=by
  have z0:ub n0=some (.cells #[.int .i64 id] 3 (0,0)):=by rw[gu ab7];exact oY _ _ d0 ab6
  exact H.ba z0 0
 have ho:ub.cell? ⟨n11,0,none⟩=some (.func (.func 256) #[] #[.pointer (some ⟨n0,0,none⟩),.pointer (some ⟨n11,0,none⟩)]):=by
  have jk:ub n11=some rF:=by rw[gu ab8];exact d11
  rw[qz] at jk;exact H.ba jk 0
 have jc:∀x∈n.bM,hM gz x:=λx J=>(cM x J).bN (λc b5 I bP=>oY c b5 bP (jH (by rw[da c (ej.2 ⟨x,J,I⟩)];simp))) λr O=>br.else ((cM x J).vec r O) λg b5 W bP=>oY g b5 bP (jH (by rw[fk x J r O g W];simp))
 have ln:∀x∈n.bM,∀r∈x.1.rows,Ints ub r.s r.v:=λx J r O=>br.else ((cM x J).vec r O) λg b5 W bP=>by rw[gu (lK (by rw[fk x J r O g W];simp))];exact oY g b5 bP (jH (by rw[fk x J r O g W];simp))
 have cI:=aT.size n ae
 refine spec.drop o2 ho n lub jc c6 (λc I=>yu I) ln (by omega) λu16 n' aw eC jU=>?_
 have yR:∀c b5,aU c=some b5->c≠T.m->c∉n.own->u16 c=some b5:=λc b5 I al ZQ=>eC c b5 (oY c b5 I al) ZQ
 have WK:u16 b=some (.cells (fj T).toArray 169 (0,0)):=yR b _ aI.cell (jH (by rw[aI.dN];simp)) (lK (by rw[aI.dN];simp))
 have ZG:fx u16 T.m (ea (T.w.filter λe=>e.1 !=id)):=by rw[<-C1];exact iw.else λb5 bP=>eC _ _ (rA _ _ bP) (lK (by rw[aI.dn];simp))
 have aed:∀{s:U} {v:M o},Ints aU s v->(∀g,s.aj=some g->af g=some .vec)->Ints u16 s v:=λhi W=>br.else hi λg b5 ca bP=>yR g b5 bP (jH (by rw[W g ca];simp)) (lK (by rw[W g ca];simp))
 obtain⟨bt,et⟩:∃bt:aQ,bt={T with root:=some n',w:=T.w.filter λe=>e.1 !=id}:=⟨_,rfl⟩
 have A1:aR bt=(aR T).filter λx=>x.1 !=id:=by rw[et];unfold aR;rw[tw];rfl
 have abq:∀c,aU c≠none->u16 c≠none:=λc I=>jU c λe=>by by_cases aB:c=T.m;rw[aB,rA _ _ m10] at e;cases e;obtain⟨b5,bP⟩:=e9.1 I;rw[oY c b5 bP aB] at e;cases e
 refine kz b6 u16 af bt ⟨⟨?_,λc b5 I=>?_,h.out,λc I=>abq c (i1.known c I)⟩,⟨λc b5 I Z=>yR c b5 (e3 c b5 I) (jH (by rw[Z];simp)) (lK (by rw[Z];simp)),λc I=>.inl I⟩,?_,A1,by rw[et],by rw[et],by rw[et]⟩
 subst et
 refine⟨?_,aI.dN,ZG,aI.dn,λgv gf=>?_,λeb ft=>?_⟩
 rw[WK]
 simp[fj,ae,aw.b]
 obtain⟨v1,v2⟩:=aI.vec gv (iT.1 gf).1
 exact⟨aed v1 v2,v2⟩
 obtain rfl:=cU (show some n'=some eb from ft)
 exact⟨aw.one,by rw[aw.own];exact c6,λc I=>da c (by rw[<-aw.own];exact I),λx J r O g W=>by obtain⟨y,ah,OC⟩:=aw.rows x J r O;exact fk y ah r OC g W⟩
 have AZ:=h.out
 have h1:=h.le c b5 I
 have Z:af c=none:=by
  cases e:af c with
  |none=>rfl|some t=>have:=h.out c (by rw[e];simp);rw[I] at this;cases this
 exact yR c b5 (e3 c b5 h1) (jH (by rw[Z];simp)) (lK (by rw[Z];simp))
 have Kb:=aT.ok n ae
 refine⟨by rw[et];exact aT.hl,by rw[et];exact aT.BF,λgv gf=>?_,λgv gf=>?_,?_,?_,λeb ft=>?_,λeb ft=>?_,λeb ft=>?_⟩
 rw[et] at gf;exact aT.ids gv (iT.1 gf).1
 rw[et] at gf ⊢;exact aT.vec gv (iT.1 gf).1
 rw[et];exact jg (wB _ _) aT.small
 rw[A1]
 have O:=aT.rows
 rw[et]
 unfold lA at O ⊢
 rw[ae] at O
 show n'.bA.all.Perm _
 rw[aw.bA,bF.Xh]
 exact O.filter _
 rw[et] at ft ⊢
 obtain rfl:=cU (show some n'=some eb from ft)
 rw[aw.bA]
 exact bF.afB Kb
 rw[et] at ft
 obtain rfl:=cU (show some n'=some eb from ft)
 rw[aw.bA]
 exact(aT.od n ae).del
 rw[et] at ft ⊢
 obtain rfl:=cU (show some n'=some eb from ft)
 rw[<-av.KU,aw.bA,bF.afC,av.KU]
 exact cI
end
end kR
section
variable{u v ai u':H}{k b:o}{l:M lR}{dg n6 n:N}{sr ss:U}{S:M bO}{R:M cn}{ids q:M o}{r:cn}{s:mB}{p:bF}{rows Q:M j2}{K:aK->H->Prop}{e:lR}
def spec.Ir{s:U}{K:o->H->Prop}(ae:u n=some (.cells #[.int .i64 k,.slice s.a s.n s.c] 143 (0,0)))(au:K s.n u):C.Ir (some ⟨n,0,none⟩) u K:=by apply aG.Ir;exact⟨λe=>(by cases e),λ_=>⟨_,rfl,s,H.ba ae 1,au⟩⟩
def azb{l:M bO}(ag:qm l){x:bO}(J:x∈l)(hm:∀y∈l,bD x y=ax):l.getD (l.length-1) default=x:=by
 have ar:0<l.length:=wx.2 λe=>by rw[e] at J;cases J
 obtain⟨i,hi,rfl⟩:=pt J;have gn:l.length-1<l.length:=by omega
 rw[du,cr gn];show l[l.length-1]=l[i];by_cases e:i=l.length-1;subst e;rfl;have h1:=qN.1 ag i (l.length-1) hi gn (by omega);exact ZD (hm _ (kE gn)) h1
def spec.Fv{eZ:N}{hi bH:o}(h:iJ ai dg k u S)(b3:1<=k)(aw:∀g∈S,mw g.2)(qx:u.cell? ⟨eZ,0,none⟩=some (.pointer (some ⟨dg,0,none⟩)))(_h1:dh hi)(h2:dh bH)
  (au:∀dM:aK,(dM=ak↔k<=(S.length:o)/\((eT k.toNat S).getD (k.toNat-1) default).2<fl hi bH)->K dM u):C.Fv hi bH ⟨eZ,0,none⟩ u K:=by
 obtain⟨l,dW,bU,ad⟩:=h
 obtain⟨s,ae,aa,al⟩:=dW.ex
 have dw:=aa.fi.len
 have hlen:=ad.length_eq
 rw[ys] at hlen
 apply aG.Fv
 refine⟨_,qx,?_⟩
 apply aG.VZ
 have full:∀{x2 kh:o},dh kh->((s.n:o)=k->fl x2 kh=((eT k.toNat S).getD (k.toNat-1) default).2)->C.QS (some ⟨dg,0,none⟩) u (λ(aeW:aK) (u8:H)=>((aeW=Bool.true)->C.mr hi bH x2 kh u8 (λ(aAI:o) (hJ:H)=>K (decide ((0:o)<aAI)) hJ))/\((aeW=tx)->K tx u8)):=by
  intro x2 kh ajs hw;apply aG.QS;refine⟨λ_=>⟨_,rfl,_,rfl,s,H.ba ae 1,_,H.ba ae 0,λab=>?_,λab=>?_⟩,λe=>(by cases e)⟩;have he:=HR ab;refine spec.mr h2 ajs ?_;rw[hw he];have o7:k<=(S.length:o):=by omega
  have key:∀Y:o,(0<Y↔((eT k.toNat S).getD (k.toNat-1) default).2<fl hi bH)->K (decide (0<Y)) u:=λY aC=>au _ (by rw[decide_eq_true_iff,aC];exact⟨λh=>⟨o7,h⟩,λh=>h.2⟩);refine key _ ?_;split;omega;split<;>omega;have he:=P9 ab;exact au _ ⟨λe=>(by cases e),λI=>by omega⟩
 refine spec.Ir ae ⟨λh0=>⟨_,qx,full ⟨by omega,by omega⟩ λe=>by omega⟩,λN9=>?_⟩
 obtain⟨p,jd,g,W,bJ,c1,c2⟩:=aa.fi.at (x:=0) (by omega) (by omega)
 have r8:l.getD 0 default=g:=by rw[du];have:l[(0:o).toNat]?=some g:=W;rw[show(0:o).toNat=0 from rfl] at this;rw[this];rfl
 have uq:g∈l:=dK W
 have xv:g∈eT k.toNat S:=ad.mem_iff.1 uq
 have aBk:mw g.2:=aw g ((vc _).mem_iff.1 (oa xv))
 have e7:p.add ((0:o).toNat*3)=p.add 0:=rfl
 rw[e7] at bJ c1 c2
 refine⟨_,rfl,s,H.ba ae 1,p,jd,⟨by omega,by omega⟩,_,bJ,_,c1,_,c2,_,qx,full (BG _) λe=>?_⟩
 rw[q0]
 have cX:oQ (λa b:bO=>bD b a):=⟨λa b h=>JV h,λa b c h k=>Ge k h⟩
 have atB:∀y∈eT k.toNat S,bD g y=ax:=λy ah=>by
  have GM:=ad.mem_iff.2 ah;obtain⟨i,hi,rfl⟩:=pt GM;have h3:bD (l.getD 0 default) (l.getD i default)=ax:=bU.root cX i hi;have e:l.getD i default=l[i]:=by rw[du,cr hi];rfl
  rw[e,r8] at h3;exact h3
 have ar:=azb (V0 k.toNat S) xv atB
 rw[ys] at ar
 rw[show k.toNat-1=min k.toNat S.length-1 by omega,ar]
def spec.axA{K:ap->H->Prop}(h:sC v u n l)(bU:iB blt l.length l)(al:0<l.length)
  (au:∀u' m,sC v u' n (ka blt l)->nc v m (l.getD 0 default).2->K (wD ((⟨m,0,none⟩:bc),l.getD 0 default)) u'):C.vH (HU n) u K:=by
 obtain⟨L,fb,cX,dX⟩:=h.ex
 have hlen:L.length=l.length:=by rw[<-cX,de]
 have r9:∀i,l.getD i default=(L.getD i default).2:=λi=>by rw[<-cX];exact getD_map' (f:=λe:kS=>e.2) rfl L i
 have ahU:iB x6 L.length L:=λi i0 i1=>by have:=bU i i0 (by omega);rw[r9,r9] at this;exact this
 obtain⟨gX,_,_,_⟩:=PO akS ahU (by omega)
 refine spec.asy (akR v n) akS (V:=wD) fb ahU (by omega) (λ{u' bw x fZ} ag hk=>?_) λu' ag=>?_
 refine axZ ag (by simp) λjj aiU=>?_
 rw[List.dropLast_concat] at aiU
 have e:(bw++ [x]).getD ((bw++ [x]).length-1) default=x:=by rw[du];simp
 rw[e]
 exact hk jj aiU
 have h0:L.getD 0 default∈L:=by rw[du,cr (by omega)];exact kE (by omega)
 obtain⟨m,hm,ad⟩:=dX _ h0
 have e:L.getD 0 default=((⟨m,0,none⟩:bc),l.getD 0 default):=by rw[r9,<-hm]
 rw[e]
 refine au u' m ⟨ka x6 L,ag,?_,λy ah=>dX y (gX.mem_iff.1 (gi _ ah))⟩ (by rw[r9];exact ad)
 have aB:=axy (α:=kS) (β:=lR) (lt:=x6) (v8:=blt) (f:=λe:kS=>e.2) rfl (λ_ _=>rfl) L
 rw[cX] at aB
 exact aB
def azC:kH aH 39=some (102,6,96,[.int .i64 0,.slice none 0 0,.slice none 0 0,.int .u64 0,.int .u64 0,.slice none 0 0]):=by kernel_rfl
structure tQ(ai u:H)(sr:U)(rest:M cn):Prop where
 own:aJ ai u 102 6 sr (rest.flatMap tZ)
 each:∀r∈rest,yF ai u r
 eB:(sr::rest.flatMap cn.jw).Pairwise dH
def tQ.mono{rest:M cn}(h:tQ ai u sr rest)(k:u.le u'):tQ ai u' sr rest:=
 ⟨h.own.mono k,λr O=>⟨(h.each r O).l.mono k,(h.each r O).h.mono k,(h.each r O).i.mono k⟩,h.eB⟩
def tQ.nil(h:ai.le u):tQ ai u ⟨none,0,0⟩ []:=⟨aJ.nil h _ _,λr O=>(by cases O),by rw[HM];exact P5 _ _⟩
def Hm(h:yF ai u r):∀s∈r.jw,∃xs,aJ ai u 3 1 s xs:=by intro s ag;simp only[cn.jw,cJ,qL,qM] at ag;rcases ag with rfl|rfl|rfl;exact⟨_,h.l⟩;exact⟨_,h.h⟩;exact⟨_,h.i⟩
def aya{aU:H}{rest:M cn}{K:U->H->Prop}(h:tQ ai aU sr rest)(hu:aU.le u)(O:yF aU u r)(f1:dH r.ls r.ag)(f2:dH r.ls r.is)(f3:dH r.ag r.is)(ar:rest.length<=10000000)
  (au:∀aq u',tQ ai u' aq (rest++ [r])->gO u u' sr->(∀g,aq.aj=some g->sr.aj=some g∨u g=none)->K aq u'):
  dd aH (dL 39 1 #[(0,.agg #[.int .i64 r.aD,.slice r.ls.a r.ls.n r.ls.c,.slice r.ag.a r.ag.n r.ag.c,.int .u64 (dk r.cG),.int .u64 (dr r.cG),.slice r.is.a r.is.n r.is.c])]) [.one .slice] u λs1 v1=>u.le v1/\dd aH (ey #[39,39] 39 #[.slice sr.a sr.n sr.c,.slice s1.a s1.n s1.c]) [.one .slice] v1 K:=by
 have hm:=h.mono hu
 have ae:sr.n=rest.length:=gW Xy (by decide) hm.own.own.cE
 have ad1:ai.le aU:=h.own.le
 have ll:yF ai u r:=⟨O.l.weaken ad1,O.h.weaken ad1,O.i.weaken ad1⟩
 have dX:∀x∈rest++ [r],yF ai u x:=λx J=>by rcases cN.1 J with J|J;exact hm.each x J;rw[fV.1 J];exact ll
 have XE:∀s∈r.jw,dH sr s/\∀t∈rest.flatMap cn.jw,dH t s:=λs ag=>by obtain⟨xs,J⟩:=Hm O s ag;refine⟨aJ.eB h.own (H.le.refl aU) J,λt ht=>?_⟩;obtain⟨y,ah,GF⟩:=ej.1 ht;obtain⟨e0,aa4⟩:=Hm (h.each y ah) t GF;exact aJ.eB aa4 (H.le.refl aU) J
 have Z:=h.eB
 rw[k6] at Z
 refine Aa azC (aff r.ls r.ag r.is r.aD (dk r.cG) (dr r.cG)) (by decide) rfl (by simp[cT]) hm.own (by omega) (by omega) λaq u' aa hW eC eu _=>au aq u' ⟨?_,λx J=>?_,?_⟩ eC eu
 rw[hz]
 exact aa
 have hk:vm [sr] u u':=λb z ab aw=>eC b z ab (aw sr (fW ..))
 refine hk.axf (dX x J) (λs ag g W=>by rw[fV.1 ag] at W;exact hm.own.fresh g W) λs ag t ht=>?_
 rw[fV.1 ag]
 rcases cN.1 J with J|J
 exact Z.1 t (ej.2 ⟨x,J,ht⟩)
 rw[fV.1 J] at ht;exact(XE t ht).1
 rw[hz,k6]
 have auQ:[r].flatMap cn.jw=r.jw:=by simp
 rw[auQ]
 refine⟨λt ht=>?_,Ld.2 ⟨Z.2,?_,λt ht s ag=>(XE s ag).2 t ht⟩⟩
 intro g W gQ
 have pM:dH sr t:=by rcases cN.1 ht with h1|h1;exact Z.1 t h1;exact(XE t h1).1
 have pR:∃xs,aJ ai u 3 1 t xs:=by rcases cN.1 ht with h1|h1;obtain⟨y,ah,GF⟩:=ej.1 h1;exact Hm (hm.each y ah) t GF;exact Hm ll t h1
 obtain⟨xs,J⟩:=pR
 rcases eu g W with h1|h1
 exact pM g h1 gQ
 exact dE J gQ h1
 simp only[cn.jw,k6,cJ,qL,qM,Le,Qb,p4,rP]
 exact⟨⟨f1,f2⟩,f3,λ_ h=>h.elim⟩
def yC.beside{a cO b:H}(Z:yC a u cO u')(avf:v.le cO)(ab:b.le u)(Bw:v.le b)(j5:∀c,a c≠none->b c≠none->v c≠none):b.le u'/\∀c,cO c≠none->b c≠none->v c≠none:=by
 refine⟨λc z I=>?_,λc h1 h2=>?_⟩;cases e:a c with
 |none=>exact(Z.out c z e (ab c z I)).2|some b5=>obtain⟨hQ,h2⟩:=e9.1 (j5 c (by rw[e];simp) (by rw[I];simp));have h3:=Bw c hQ h2;rw[I] at h3;cases h3;exact Z.le c z (avf c z h2)
 cases e:a c with
 |none=>obtain⟨z,aa⟩:=e9.1 h2;exact aW (Z.out c z e (ab c z aa)).1 h1
 |some b5=>exact j5 c (by rw[e];simp) h2
structure jC(v u:H)(dg n6:N)(k:o)(S:M bO)(l:M lR)(ids:M o)(ss sr:U)(R:M cn):Prop where
 ex:∃gU la,gU.le u/\la.le u/\v.le gU/\v.le la/\(∀c,gU c≠none->la c≠none->v c≠none)/\iJ v dg k gU S/\sC v la n6 l/\(∀s∈ss::sr::R.flatMap cn.jw,∀g,s.aj=some g->gU g=none/\la g=none)
 seen:aJ v u 3 1 ss (ids.flatMap encI)
 rest:tQ v u sr R
 eB:∀s∈sr::R.flatMap cn.jw,dH ss s
def jC.le(h:jC v u dg n6 k S l ids ss sr R):v.le u:=h.seen.le
def jC.known(h:jC v u dg n6 k S l ids ss sr R):∀s∈ss::sr::R.flatMap cn.jw,∀g,s.aj=some g->u g≠none:=by intro s ag g W;rcases cJ.1 ag with rfl|ag;exact dE h.seen W;rcases cJ.1 ag with rfl|ag;exact dE h.rest.own W;obtain⟨y,ah,GF⟩:=ej.1 ag;obtain⟨xs,J⟩:=Hm (h.rest.each y ah) s GF;exact dE J W
def tQ.stay(h:tQ v u sr R)(aA:v.le u')(ag:∀s∈sr::R.flatMap cn.jw,∀g z,s.aj=some g->u g=some z->u' g=some z):tQ v u' sr R:=by have one:∀{e k:N} {s:U} {xs:M ap},aJ v u e k s xs->s∈sr::R.flatMap cn.jw->aJ v u' e k s xs:=λaa hm=>⟨aa.own.le λb z ab hu=>ag _ hm b z ab hu,aA,aa.fresh⟩;refine⟨one h.own (fW ..),λr O=>?_,h.eB⟩;have hm:∀s∈r.jw,s∈sr::R.flatMap cn.jw:=λs ag=>gi _ (ej.2 ⟨r,O,ag⟩);exact⟨one (h.each r O).l (hm _ (by simp[cn.jw])),one (h.each r O).h (hm _ (by simp[cn.jw])),one (h.each r O).i (hm _ (by simp[cn.jw]))⟩
def spec.aAn{x:bO}(h:jC v u dg n6 k S l ids ss sr R)(b3:1<=k)(cu:k<=64)
  (au:∀b u',jC v u' dg n6 k (x::S) l ids ss sr R->K b u'):C.qW (some ⟨dg,0,none⟩) x.1 (dk x.2) (dr x.2) u K:=by
 obtain⟨gU,la,t1,cM,t2,c6,j5,aT,fb,eQ⟩:=h.ex
 have I:=spec.qW (K:=λ_ u'=>iJ v dg k u' (x::S)) aT b3 cu λb u' bQ=>bQ
 refine I.frame t1 ?_
 intro b amJ u' Z et
 have hs:=et.le
 obtain⟨hE,fM⟩:=Z.beside hs cM c6 j5
 have stay:∀s∈ss::sr::R.flatMap cn.jw,∀g z,s.aj=some g->u g=some z->amJ g=none/\u' g=some z:=λs ag g z W aa=>Z.out g z (eQ s ag g W).1 aa
 refine au b u' ⟨⟨amJ,la,Z.le,hE,hs,c6,fM,et,fb,λs ag g W=>?_⟩,⟨h.seen.own.le λg z W aa=>(stay _ (fW ..) g z W aa).2,hs.trans Z.le,h.seen.fresh⟩,h.rest.stay (hs.trans Z.le) λs ag g z W aa=>(stay s (gi _ ag) g z W aa).2,h.eB⟩
 obtain⟨z,aa⟩:=e9.1 (h.known s ag g W)
 exact⟨(stay s ag g z W aa).1,(eQ s ag g W).2⟩
def jC.queue{gU la Ix:H}{bw:M lR}(h:jC v u dg n6 k S l ids ss sr R)(t1:gU.le u)(t2:v.le gU)(j5:∀c,gU c≠none->la c≠none->v c≠none)
  (aT:iJ v dg k gU S) (eQ:∀s∈ss::sr::R.flatMap cn.jw,∀g,s.aj=some g->gU g=none/\la g=none) (Z:yC la u Ix u') (hs:v.le Ix) (FD:sC v Ix n6 bw):jC v u' dg n6 k S bw ids ss sr R:=by
 obtain⟨hE,fM⟩:=Z.beside hs t1 t2 λc h1 h2=>j5 c h2 h1
 have stay:∀s∈ss::sr::R.flatMap cn.jw,∀g z,s.aj=some g->u g=some z->Ix g=none/\u' g=some z:=λs ag g z W aa=>Z.out g z (eQ s ag g W).2 aa
 refine⟨⟨gU,Ix,hE,Z.le,t2,hs,λc h1 h2=>fM c h2 h1,aT,FD,λs ag g W=>?_⟩,⟨h.seen.own.le λg z W aa=>(stay _ (fW ..) g z W aa).2,hs.trans Z.le,h.seen.fresh⟩,h.rest.stay (hs.trans Z.le) λs ag g z W aa=>(stay s (gi _ ag) g z W aa).2,h.eB⟩
 obtain⟨z,aa⟩:=e9.1 (h.known s ag g W)
 exact⟨(eQ s ag g W).1,(stay s ag g z W aa).1⟩
def sC.le(h:sC v u n l):v.le u:=by obtain⟨L,fb,_,_⟩:=h.ex;obtain⟨s,_,aa,_⟩:=fb.ex;exact aa.le
def spec.am0{n0 m:N}{s:U}{K:H->Prop}(h:jC v u dg n6 k S l ids ss sr R)(ar:l.length<10000000)(ad:nc v m p)
  (bE:oR (p.hA []) q.length) (aN:dj q) (eX:v.cell? ⟨n0,0,none⟩=some (.slice s.a s.n s.c)) (ag:Ints v s q) (au:∀u',jC v u' dg n6 k S (pD q l p) ids ss sr R->K u'):C.Fu (some ⟨m,0,none⟩) ⟨n0,0,none⟩ ⟨n6,0,none⟩ u K:=by
 obtain⟨gU,la,t1,cM,t2,c6,j5,aT,fb,eQ⟩:=h.ex
 have I:=spec.Fu (K:=λu'=>sC v u' n6 (pD q l p)) fb c6 ar ad bE aN (c6.cell eX) (ag.mono c6) λu' bQ=>bQ
 refine I.frame cM ?_
 intro Ix u' Z FD
 exact au u' (h.queue t1 t2 j5 aT eQ Z FD.le FD)
def spec.aAq{K:ap->H->Prop}(h:jC v u dg n6 k S l ids ss sr R)(bU:iB blt l.length l)(al:0<l.length)
  (au:∀u' m,jC v u' dg n6 k S (ka blt l) ids ss sr R->nc v m (l.getD 0 default).2->K (wD ((⟨m,0,none⟩:bc),l.getD 0 default)) u'):C.vH (HU n6) u K:=by
 obtain⟨gU,la,t1,cM,t2,c6,j5,aT,fb,eQ⟩:=h.ex
 have I:=spec.axA (K:=λx u'=>∃m,x=wD ((⟨m,0,none⟩:bc),l.getD 0 default)/\sC v u' n6 (ka blt l)/\nc v m (l.getD 0 default).2) fb bU al λu' m h1 h2=>⟨m,rfl,h1,h2⟩
 refine I.frame cM ?_
 rintro x Ix u' Z ⟨m,rfl,FD,ad⟩
 exact au u' m (h.queue t1 t2 j5 aT eQ Z FD.le FD) ad
def iJ.whole{gU:H}(h:iJ v dg k gU S)(hu:gU.le u):iJ v dg k u S:=h.mono hu
def spec.aAp{eZ:N}{hi bH:o}(h:jC v u dg n6 k S l ids ss sr R)(b3:1<=k)(aw:∀g∈S,mw g.2)
  (qx:v.cell? ⟨eZ,0,none⟩=some (.pointer (some ⟨dg,0,none⟩))) (h1:dh hi) (h2:dh bH) (au:∀dM:aK,(dM=ak↔k<=(S.length:o)/\((eT k.toNat S).getD (k.toNat-1) default).2<fl hi bH)->K dM u):C.Fv hi bH ⟨eZ,0,none⟩ u K:=by
 obtain⟨gU,la,t1,cM,t2,c6,j5,aT,fb,eQ⟩:=h.ex
 exact spec.Fv (aT.whole t1) b3 aw (h.le.cell qx) h1 h2 au
def le_none{a:H}(h:a.le u){g:N}(W:u g=none):a g=none:=by
 cases e:a g with
 |none=>rfl|some z=>have:=h g z e;rw[W] at this;cases this
def aAr{x:o}{K:U->H->Prop}(h:jC v u dg n6 k S l ids ss sr R)(ar:ids.length<10000000)
  (au:∀aq u',jC v u' dg n6 k S l (ids++ [x]) aq sr R->K aq u'):
  dd aH (dL 30 1 #[(0,.int .i64 x)]) [.one .slice] u λs1 aU=>dd aH (ey #[30,30] 30 #[.slice ss.a ss.n ss.c,.slice s1.a s1.n s1.c]) [.one .slice] aU K:=by
 obtain⟨gU,la,t1,cM,t2,c6,j5,aT,fb,eQ⟩:=h.ex
 have ae:=h.seen.ints.len
 refine oc oN (AB _) (by decide) rfl (by simp[cT]) h.seen (by omega) (by omega) λaq u' aa hW eC eu _=>au aq u' ?_
 have fresh:∀g,aq.aj=some g->gU g=none/\la g=none:=λg W=>by rcases eu g W with h1|h1;exact eQ ss (fW ..) g h1;exact⟨le_none t1 h1,le_none cM h1⟩
 have amf:∀{w:H},w.le u->(∀g,ss.aj=some g->w g=none)->w.le u':=λhw W b z ab=>eC b z (hw b z ab) λe=>by rw[W b e] at ab;cases ab
 have aqe:∀s∈sr::R.flatMap cn.jw,dH aq s:=λs ag g W gQ=>by rcases eu g W with h1|h1;exact h.eB s ag g h1 gQ;exact h.known s (gi _ ag) g gQ h1
 refine⟨⟨gU,la,amf t1 λg W=>(eQ ss (fW ..) g W).1,amf cM λg W=>(eQ ss (fW ..) g W).2,t2,c6,j5,aT,fb,λs ag g W=>?_⟩,?_,h.rest.stay aa.le λs ag g z W bP=>eC g z bP λe=>h.eB s ag g e W,aqe⟩
 rcases cJ.1 ag with rfl|ag
 exact fresh g W
 exact eQ s (gi _ ag) g W
 rw[hz]
 exact aa
def am1{w:H}{K:U->H->Prop}(h:jC v u dg n6 k S l ids ss sr R)(hw:u.le w)(O:yF u w r)(f1:dH r.ls r.ag)(f2:dH r.ls r.is)(f3:dH r.ag r.is)(ar:R.length<=10000000)
  (au:∀aq u',jC v u' dg n6 k S l ids ss aq (R++ [r])->gO w u' sr->(∀g,aq.aj=some g->sr.aj=some g∨w g=none)->K aq u'):
  dd aH (dL 39 1 #[(0,.agg #[.int .i64 r.aD,.slice r.ls.a r.ls.n r.ls.c,.slice r.ag.a r.ag.n r.ag.c,.int .u64 (dk r.cG),.int .u64 (dr r.cG),.slice r.is.a r.is.n r.is.c])]) [.one .slice] w λs1 v1=>w.le v1/\dd aH (ey #[39,39] 39 #[.slice sr.a sr.n sr.c,.slice s1.a s1.n s1.c]) [.one .slice] v1 K:=by
 obtain⟨gU,la,t1,cM,t2,c6,j5,aT,fb,eQ⟩:=h.ex
 refine aya h.rest hw O f1 f2 f3 ar λaq u' bX eC eu=>au aq u' ?_ eC eu
 have akn:∀s∈r.jw,∃xs,aJ u w 3 1 s xs:=Hm O
 have fresh:∀s∈ss::aq::(R++ [r]).flatMap cn.jw,∀g,s.aj=some g->gU g=none/\la g=none:=λs ag g W=>by rcases cJ.1 ag with rfl|ag;exact eQ _ (fW ..) g W;rcases cJ.1 ag with rfl|ag;rcases eu g W with h1|h1;exact eQ sr (by simp) g h1;exact⟨le_none (t1.trans hw) h1,le_none (cM.trans hw) h1⟩;rw[hz] at ag;rcases cN.1 ag with ag|ag;exact eQ s (by simp only[cJ];exact .inr (.inr ag)) g W;obtain⟨xs,J⟩:=akn s (by simpa using ag);exact⟨le_none t1 (J.fresh g W),le_none cM (J.fresh g W)⟩
 have af3:dH ss sr:=h.eB sr (fW ..)
 have bN:∀{Y:H},Y.le u->(∀g,sr.aj=some g->Y g=none)->Y.le u':=λaC W b z ab=>eC b z (hw b z (aC b z ab)) λe=>by rw[W b e] at ab;cases ab
 refine⟨⟨gU,la,bN t1 λg W=>(eQ sr (by simp) g W).1,bN cM λg W=>(eQ sr (by simp) g W).2,t2,c6,j5,aT,fb,fresh⟩,⟨h.seen.own.le λb z ab aa=>eC b z (hw b z aa) λe=>af3 b ab e,bX.own.le,h.seen.fresh⟩,bX,λs ag=>?_⟩
 rcases cJ.1 ag with rfl|ag
 intro g W gQ
 rcases eu g gQ with h1|h1
 exact af3 g W h1
 have:=dE h.seen W
 exact this (le_none hw h1)
 rw[hz] at ag
 rcases cN.1 ag with ag|ag
 exact h.eB s (gi _ ag)
 obtain⟨xs,J⟩:=akn s (by simpa using ag)
 exact aJ.eB h.seen (H.le.refl u) J
def sC.slice(h:sC v u n l):∃s:U,u.cell? ⟨n,0,none⟩=some (.slice s.a s.n s.c)/\s.n=l.length/\∀x:o,0<=x->x<(s.n:o)->∃p m e,s.a=some p/\l[x.toNat]?=some e/\nc v m e.2/\
  u.cell? (p.add (x.toNat*3))=some (.pointer (some ⟨m,0,none⟩))/\u.cell? ((p.add (x.toNat*3)).add 1)=some (.int .u64 (dk e.1))/\u.cell? ((p.add (x.toNat*3)).add 2)=some (.int .u64 (dr e.1)):=by
 obtain⟨L,fb,cX,dX⟩:=h.ex
 obtain⟨s,ae,aa,_⟩:=fb.ex
 refine⟨s,H.ba ae 0,by rw[aa.qs.len,<-cX,de],λx bL dC=>?_⟩
 obtain⟨p,ad,y,ah,bJ,c1,c2⟩:=aa.qs.at bL dC
 obtain⟨m,hm,Tq⟩:=dX y (dK ah)
 refine⟨p,m,y.2,ad,by rw[<-cX,iR,ah];rfl,Tq,?_,c1,c2⟩
 rw[hm] at bJ
 exact bJ
def jC.slice(h:jC v u dg n6 k S l ids ss sr R):∃s:U,u.cell? ⟨n6,0,none⟩=some (.slice s.a s.n s.c)/\s.n=l.length/\∀x:o,0<=x->x<(s.n:o)->∃p m e,s.a=some p/\l[x.toNat]?=some e/\nc v m e.2/\
  u.cell? (p.add (x.toNat*3))=some (.pointer (some ⟨m,0,none⟩))/\u.cell? ((p.add (x.toNat*3)).add 1)=some (.int .u64 (dk e.1))/\u.cell? ((p.add (x.toNat*3)).add 2)=some (.int .u64 (dr e.1)):=by
 obtain⟨gU,la,t1,cM,t2,c6,j5,aT,fb,eQ⟩:=h.ex
 obtain⟨s,h1,h2,h3⟩:=fb.slice
 refine⟨s,cM.cell h1,h2,λx bL dC=>?_⟩
 obtain⟨p,m,e,g1,g2,g3,g4,g5,g6⟩:=h3 x bL dC
 exact⟨p,m,e,g1,g2,g3,cM.cell g4,cM.cell g5,cM.cell g6⟩
def jC.mono(h:jC v u dg n6 k S l ids ss sr R)(hu:u.le u'):jC v u' dg n6 k S l ids ss sr R:=by obtain⟨gU,la,t1,cM,t2,c6,j5,aT,fb,eQ⟩:=h.ex;exact⟨⟨gU,la,t1.trans hu,cM.trans hu,t2,c6,j5,aT,fb,eQ⟩,h.seen.mono hu,h.rest.mono hu,h.eB⟩
def pE(x:bF×M j2):o×o×M o×M o×M o:=(x.1.aD,x.1.cG,x.1.bH,x.1.hi,dQ (x.2.map (·.1)))
def RR(h:r.core=pE (p,rows)):r.aD=p.aD/\r.cG=p.cG/\r.bH=p.bH/\r.hi=p.hi/\r.ids=dQ (rows.map (·.1)):=by simp only[cn.core,pE,HB] at h;exact⟨h.1,h.2.1,h.2.2.1,h.2.2.2.1,h.2.2.2.2⟩
def awW(h:r.core=pE (p,rows))(q:M o):ph r q=ph (p.hA []) q:=by obtain⟨h1,h2,h3,a7,_⟩:=RR h;unfold ph bF.hA;simp only[h1,h2,h3,a7]
def avI(h:r.core=pE (p,rows)){v:M o}(hi:mZ (p.hA []) v):mZ r v:=by obtain⟨h1,h2,h3,a7,_⟩:=RR h;unfold mZ bF.hA at*;simp only[h1,h2,h3,a7] at*;exact hi
def ax8{d:o}(h:r.core=pE (p,rows))(ad:oR (p.hA []) d)(ae:(rows.map (·.1)).Nodup)(ch:∀x∈rows,1<=x.1/\x.1<=1000000000):oR r d:=by obtain⟨h1,h2,h3,a7,bK⟩:=RR h;refine⟨ad.an,by rw[bK];exact Eu ae,λx J=>?_,?_⟩;rw[bK] at J;obtain⟨y,ah,rfl⟩:=bf.1 ((nE _).mem_iff.1 J);exact ch y ah;have:=ad.shape;unfold bF.hA at this;simp only at this;rw[h1,h2,h3,a7];exact this
def axv{L:M az}:∀{S:M j2},(∀x∈S,x∈L.map az.bz)->∃m:M az,m.map az.bz=S/\∀r∈m,r∈L:=by
 intro S;induction S with
 |nil=>intro _;exact⟨[],rfl,λr O=>by cases O⟩
 |cons x S aM=>intro h;obtain⟨m,h1,h2⟩:=aM λy ah=>h y (gi _ ah);obtain⟨r,O,e⟩:=bf.1 (h x (fW ..));exact⟨r::m,by rw[gm,h1,e],λy ah=>by rcases cJ.1 ah with rfl|ah;exact O;exact h2 y ah⟩
def abS(s:mB):(n3 s).flatMap (·.2)=s.rest.flatMap (·.2)++s.heap.flatMap λx=>x.2.all:=by
 unfold n3;rw[hz];congr 1;generalize s.heap=l;induction l with
 |nil=>rfl|cons x l aM=>
  rw[gm,B7,gy];cases e:x.2.all with
  |nil=>simpa[e] using aM|cons y e0=>simp only[List.isEmpty_cons,Bool.not_false,qI,gy,aM]
def abT{P:M j2}(h:sH q b P s):∀x∈n3 s,ga q.length x.1/\x.2≠[]/\(∀y∈x.2,y∈x.1.all):=by intro x J;unfold n3 at J;rcases cN.1 J with h1|h1;exact h.left x h1;obtain⟨h2,h3⟩:=iT.1 h1;obtain⟨y,ah,rfl⟩:=bf.1 h2;refine⟨(h.tj y ah).2,λe=>?_,λY aC=>aC⟩;simp only at e;rw[e] at h3;cases h3
def Ev{α β:Type}{f:α->M β}{x:α}:∀{l:M α},x∈l->List.Sublist (f x) (l.flatMap f):=by
 intro l;induction l with
 |nil=>intro h;cases h
 |cons y l aM=>intro h;rw[gy];rcases cJ.1 h with rfl|h;exact ac3 _ _;exact(aM h).trans (List.sublist_append_right _ _)
def aep{c7:M bF}{L:M az}{rs:M cn}(ab:0<=b)(hk:1<=k)(auq:∀p∈c7,ga q.length p)(aN:kk L q)(cX:(L.map az.bz).Perm (bF.jS c7))(O:rs.map cn.core=(n3 (oO q k b c7)).map pE):
  Sound L q k (yr q k (oO q k b c7)) (dQ ((oO q k b c7).seen.map (·.1))) rs/\((dQ ((oO q k b c7).seen.map (·.1))).length:o)<=b/\
   (((dQ ((oO q k b c7).seen.map (·.1))).length:o)=b∨(dQ ((oO q k b c7).seen.map (·.1))).length=L.length∨Aj q k (yr q k (oO q k b c7)) rs):=by
 obtain⟨hw,pK⟩:=aAl (k:=k) ab auq
 generalize oO q k b c7=s at*
 have lk:=hw.perm
 rw[<-abS] at lk
 have dX:=lk.trans cX.symm
 have as4:(L.map az.bz).map (·.1)=L.map (·.id):=by rw[ep];rfl
 have kt:(s.seen.map (·.1)++((n3 s).flatMap (·.2)).map (·.1)).Perm (L.map (·.id)):=by rw[<-as4,<-ek];exact dX.map _
 have bS:=kt.nodup_iff.2 aN.rows.nodup
 have xF:=(gh.1 bS).1
 have J0:=(gh.1 bS).2.1
 have FN:∀r∈rs,∃x∈n3 s,r.core=pE x:=λr hq=>by
  have:r.core∈(n3 s).map pE:=by rw[<-O];exact h7 hq
  obtain⟨x,J,e⟩:=bf.1 this;exact⟨x,J,e.symm⟩
 have ain:∀x∈n3 s,∀y∈x.2,y∈L.map az.bz:=λx J y ah=>dX.mem_iff.1 (lz _ (ej.2 ⟨x,J,ah⟩))
 have aiS:∀r∈rs,∃x∈n3 s,r.core=pE x/\oR r q.length:=λr hq=>by obtain⟨x,J,e⟩:=FN r hq;obtain⟨h1,h2,h3⟩:=abT hw x J;refine⟨x,J,e,ax8 (p:=x.1) (rows:=x.2) e h1.kd ?_ λy ah=>?_⟩;exact J0.sublist ((Ev J).map _);obtain⟨w,k2,sP⟩:=bf.1 (ain x J y ah);rw[<-sP];exact aN.rows.id w k2
 have JJ:(rs.flatMap (·.ids)).Perm (((n3 s).flatMap (·.2)).map (·.1)):=by
  have aS:rs.flatMap (·.ids)=(rs.map cn.core).flatMap λY=>Y.2.2.2.2:=by rw[B6];rfl
  rw[aS,O,B6];generalize n3 s=l;induction l with
  |nil=>exact .refl _|cons x l aM=>rw[gy,gy,ek];exact(nE _).append aM
 have hlen:(dQ (s.seen.map (·.1))).length=s.seen.length:=by rw[Ab,de]
 obtain⟨ms,Gf,vL⟩:=axv (L:=L) (S:=s.seen) λx J=>dX.mem_iff.1 (iQ _ J)
 have pS:yr q k s=eT k.toNat (ms.map (hp q)):=by unfold yr;rw[<-Gf,ep];rfl
 refine⟨⟨Eu xF,λr hq=>?_,?_,λm hm N3=>?_⟩,by rw[hlen];exact hw.vz,?_⟩
 obtain⟨x,J,e,Kd⟩:=aiS r hq
 obtain⟨h1,h2,h3⟩:=abT hw x J
 obtain⟨_,_,_,_,gw⟩:=RR (p:=x.1) (rows:=x.2) e
 refine⟨Kd,λae=>?_,λy ah=>?_⟩
 rw[gw] at ae
 have:=ei iS ae
 rw[Ab,de,mi] at this
 exact h2 (kN this)
 rw[gw] at ah
 obtain⟨Y,aC,rfl⟩:=bf.1 ((nE _).mem_iff.1 ah)
 obtain⟨w,k2,sP⟩:=bf.1 (ain x J Y aC)
 refine⟨w,k2,by rw[<-sP];rfl,avI (p:=x.1) (rows:=x.2) e ?_⟩
 have:=h1.ins Y (h3 Y aC)
 rw[<-sP] at this
 exact this
 exact((nE _).append JJ).trans kt
 rw[pS]
 have ad:m.Perm ms:=by refine alo aN.rows.nodup hm vL ?_;rw[N3];refine(nE _).trans (HL ?_);rw[<-Gf,ep];rfl
 exact Ad (ad.symm.map _)
 rw[hlen]
 have um:=hw.vz
 by_cases xn:s.rest=[]
 by_cases kJ:b<=(s.seen.length:o)
 left;omega
 by_cases bU:s.heap=[]
 right;left
 have h1:=kt.length_eq
 rw[abS,xn,bU] at h1
 simpa using h1
 right;right
 have xu:MO q k s (s.heap.getD 0 default).1:=by by_cases Z:MO q k s (s.heap.getD 0 default).1;exact Z;exact aW ⟨bU,by omega,Z⟩ pK
 obtain⟨f1,f2⟩:=xu
 right
 refine⟨?_,λr hq=>?_⟩
 unfold yr
 rw[ys,de]
 omega
 obtain⟨x,J,e,_⟩:=aiS r hq
 rw[awW (p:=x.1) (rows:=x.2) e]
 unfold n3 at J
 rw[xn,nz] at J
 obtain⟨y,ah,rfl⟩:=bf.1 (iT.1 J).1
 obtain⟨i,hi,rfl⟩:=pt ah
 have kY:=hw.ad.root E4 i hi
 rw[du,cr hi] at kY
 have gG:(s.heap.getD 0 default).1<=s.heap[i].1:=by have:¬s.heap[i].1<(s.heap.getD 0 default).1:=P9 kY;omega
 have:=(hw.tj _ ah).1
 rw[show(k-1).toNat=k.toNat-1 by omega]
 show _<ph (s.heap[i].2.hA []) q
 omega
 left
 exact hw.cut xn
def aeX:hn aH 265=ak:=by kernel_rfl
def aoo:hn aH 266=ak:=by kernel_rfl
def Ue(P:M bF):P.length<=bF.hB P:=by
 induction P with
 |nil=>exact cA _|cons p P aM=>simp only[bF.hB,hX];have:=bF.size_eq p;omega
def KV{s:U}{c7:M N}(h:br u s 1 (c7.map λn=>.pointer (some ⟨n,0,none⟩))){i:N}(hi:i<c7.length):∃a,s.a=some a/\u.cell? (a.add (i*1))=some (.pointer (some ⟨c7[i],0,none⟩)):=by
 obtain⟨a,aE,I⟩:=br.elem (enc:=λn:N=>[hy (some ⟨n,0,none⟩)]) (k:=1) (λ_=>rfl) (by decide) (xs:=c7) (by
  have e:c7.flatMap (λn:N=>[hy (some ⟨n,0,none⟩)])=c7.map λn=>hy (some ⟨n,0,none⟩):=by
   generalize c7=Y;induction Y with
   |nil=>rfl|cons y Y aM=>rw[gy,gm,aM];rfl
  rw[e];exact h) (cr hi)
 exact⟨a,aE,I 0 _ rfl⟩
def azl(q:M o)(P:M bF):bF.hB ((VK q P).heap.map (·.2))<=bF.hB P:=by
 have h0:iB blt ([]:M lR).length []:=λi _ hi=>by simp at hi
 obtain⟨h1,h2⟩:=foldl_add (q:=q) P [] h0;rw[nz] at h2;show bF.hB ((P.foldl (pD q) []).map (·.2))<=_;rw[Vz (h2.map _),ep];exact Lo (ei _ (B5 _))
def awf(h:¬yZ q k b s):∀f,uO q k b f s=s:=by
 intro f;cases f with
 |zero=>rfl|succ f=>unfold uO;rw[aF h]
def awe(h:yZ q k b s)(f:N):uO q k b (f+1) s=uO q k b f (qc q b s):=by
 conv=>lhs;unfold uO
 rw[a1 h]
structure At(v w:H)(dg n6:N)(k b:o)(q:M o)(P:M bF)(f:N)(aD ss sr:U):Prop where
 gI:aD=⟨none,0,0⟩
 ex:∃(st:mB) (S:M bO) (R:M cn),jC v w dg n6 k S st.heap (st.seen.map (·.1)) ss sr R/\S.Perm (st.seen.map (Dq q))/\sH q b (bF.jS P) st/\R.map cn.core=st.rest.map pE/\uO q k b f st=oO q k b P/\bF.hB (st.heap.map (·.2))<=f/\f<=bF.hB P
def jC.start(aT:iJ v dg k u [])(ae:u n6=none):jC v (u.ins n6 (.cells #[.slice none 0 0] 331 (0,0))) dg n6 k [] [] [] ⟨none,0,0⟩ ⟨none,0,0⟩ []:=by have aA:=aT.le;have OY:v n6=none:=le_none aA ae;have hle:=H.b1 (u:=u) (b:=n6) (.cells #[.slice none 0 0] 331 (0,0)) ae;have xA:=H.b1 (u:=v) (b:=n6) (.cells #[.slice none 0 0] 331 (0,0)) OY;refine⟨⟨u,v.ins n6 (.cells #[.slice none 0 0] 331 (0,0)),hle,λc z I=>?_,aA,xA,λc h1 h2=>?_,aT,⟨[],⟨⟨⟨none,0,0⟩,H.bh _ _ _,aJ.nil xA _ _,by simp[U.aj]⟩,OY,by simp⟩,rfl,λe he=>(by cases he)⟩,λs ag g W=>?_⟩,aJ.nil (aA.trans hle) _ _,tQ.nil (aA.trans hle),λs ag=>?_⟩;by_cases e:c=n6;subst e;rw[H.bh] at I ⊢;exact I;rw[H.bq _ _ e] at I ⊢;exact aA c z I;by_cases e:c=n6;subst e;exact aW ae h1;rw[H.bq _ _ e] at h2;exact h2;simp at ag;subst ag;simp[U.aj] at W;intro g W;simp[U.aj] at W
def aqo{α:Type}{L:M (α×M j2)}(h:∀x∈L,x.2≠[]):L.length<=(L.flatMap (·.2)).length:=by
 induction L with
 |nil=>exact cA _|cons x L aM=>have h1:=aM λy ah=>h y (gi _ ah);have h2:0<x.2.length:=wx.2 (h x (fW ..));rw[gy,ez,hX];omega
def awb(h:sH q b Q s):(n3 s).length<=Q.length:=by have h1:=aqo λx J=>(abT h x J).2.1;have h2:=h.perm.length_eq;rw[<-abS,ez] at h2;omega
def xY(s:mB)(x:N):M (bF×M j2):=s.rest++((s.heap.take x).map λy=>(y.2,y.2.all)).filter λy=>!y.2.isEmpty
def av9(h:sH q b Q s)(x:N):(xY s x).length<=Q.length:=by refine jg (List.Sublist.length_le ?_) (awb h);unfold xY n3;exact(ac4 _).append (((rN x s.heap).map _).filter _)
def av8(s:mB){x:N}(h:s.heap.length<=x):xY s x=n3 s:=by unfold xY n3;rw[hR h]
def awa{x:N}(h:s.heap[x]?=some e):xY s (x+1)=xY s x++(if e.2.all=[] then[] else[(e.2,e.2.all)]):=by unfold xY;rw[gS,h,Option.toList,ek,zW,n5];congr 2;cases aB:e.2.all<;>simp[aB]
def ahG(h:sH q b Q s)(he:e∈s.heap):e.2.all.length<=Q.length:=by have h1:=(Ev (f:=λx:lR=>x.2.all) he).length_le;have h2:=h.perm.length_eq;rw[ez,ez] at h2;omega
def asC(he:e∈l):e.2.size<=bF.hB (l.map (·.2)):=by
 induction l with
 |nil=>cases he
 |cons x l aM=>simp only[gm,bF.hB];rcases cJ.1 he with rfl|he;omega;have:=aM he;omega
def ale{d:o}(h:oR (p.hA []) d):p.bH.length<=64/\p.hi.length<=64:=by have aw:=h.an;rcases h.shape with⟨_,h1,h2,_⟩|⟨_,_,h1,h2,_⟩|⟨_,h1,h2,_⟩;have rb:p.bH=[]:=h1;have vA:p.hi=[]:=h2;rw[rb,vA];simp;exact⟨h1.1,h2.1⟩;have rb:p.hi=[]:=h1;rw[rb];exact⟨h2.1,by simp⟩
def aAo{Y aU dc:H}{ajE:M o}{aD:U}{H1:M bO}(xZ:u.le v)(gl:jC v Y dg n6 k S l ids ss sr R)
  (h1:aJ v aU 3 1 ss (ajE.flatMap encI)) (he:gO Y aU ss) (h2:aJ aU dc 68 3 aD (H1.flatMap fH)):jQ u dc aD ss sr H1 ajE R:=by
 have FE:tQ v aU sr R:=gl.rest.stay h1.le λs ag g z W aa=>he g z aa λe=>gl.eB s ag g e W
 have ma:=FE.mono h2.le
 have vV:=h1.mono h2.le
 refine⟨h2.weaken (xZ.trans h1.le),vV.weaken xZ,ma.own.weaken xZ,λr O=>⟨(ma.each r O).l.weaken xZ,(ma.each r O).h.weaken xZ,(ma.each r O).i.weaken xZ⟩,?_⟩
 have kn:∀s∈ss::sr::R.flatMap cn.jw,∀g,s.aj=some g->aU g≠none:=by intro s ag g W;rcases cJ.1 ag with rfl|ag;exact dE h1 W;rcases cJ.1 ag with rfl|ag;exact dE FE.own W;obtain⟨y,ah,GF⟩:=ej.1 ag;obtain⟨xs,J⟩:=Hm (FE.each y ah) s GF;exact dE J W
 unfold q4
 refine k6.2 ⟨λs ag g W gQ=>kn s ag g gQ (h2.fresh g W),k6.2 ⟨λs ag=>gl.eB s ag,ma.eB⟩⟩
def an4{P:M bF}{st:mB}{f:N}(rf:yZ q k b st)(bE:sH q b (bF.jS P) st)(ar:uO q k b f st=oO q k b P)(ag:bF.hB (st.heap.map (·.2))<=f):
  ∃AL,f=AL+1/\uO q k b AL (qc q b st)=oO q k b P/\bF.hB ((qc q b st).heap.map (·.2))<=AL/\sH q b (bF.jS P) (qc q b st):=by
 have h1:=amj bE rf
 cases f with
 |zero=>omega
 |succ f=>exact⟨f,rfl,by rw[<-awe rf];exact ar,by omega,amh bE rf⟩
def spec.ua{s0 t:U}{ms:M N}{P:M bF}{K:U->U->U->H->Prop}(ag:br u s0 1 (ms.map λn=>.pointer (some ⟨n,0,none⟩)))(hlen:ms.length=P.length)
  (ad:∀(i:N) m p,ms[i]?=some m->P[i]?=some p->nc u m p) (bE:∀p∈P,ga q.length p) (ht:Ints u t q) (aN:dj q) (b3:1<=k) (cu:k<=64) (gd:0<=b) (hE:b<=1000000) (cI:bF.hB P<=4000000) (xk:(bF.jS P).length<=100000)
  (j8:∀x∈bF.jS P,(x.2.length:o)=q.length/\dj x.2)
  (au:∀aD ss sr R u',jQ u u' aD ss sr (yr q k (oO q k b P)) (dQ ((oO q k b P).seen.map (·.1))) R->R.map cn.core=(n3 (oO q k b P)).map pE->K aD ss sr u'):C.ua s0 t k b u K:=by
 apply aG.ua
 intro n0 eX
 refine spec.sy (λJ=>aW J (by omega)) λ_ _ dg j0 uN eF j4=>?_
 intro eZ qx
 refine⟨_,_,H.bh _ _ _,rfl,by simp,by simp[cT],?_⟩
 intro n6 qy
 rw[H.abf] at qy ⊢
 obtain⟨PD,aiJ⟩:∃PD,PD=(bC (wr #[hy none] 0 [hy (some ⟨dg,0,none⟩)]) 90 (0,0)):=⟨_,rfl⟩
 rw[<-aiJ] at qy ⊢
 obtain⟨fK,j7⟩:∃fK,fK=(bC #[ec t.a t.n t.c] 30 (0,0)):=⟨_,rfl⟩
 rw[<-j7] at j4 uN eF
 have aT:=j4.l3 qx PD
 have aje:(u.ins n0 fK) eZ=none:=le_none uN qx
 obtain⟨v,aA⟩:∃v,v=(u.ins n0 fK).ins eZ PD:=⟨_,rfl⟩
 rw[<-aA] at aT
 have xZ:u.le v:=by rw[aA];exact(H.b1 _ eX).trans (H.b1 _ aje)
 have W1:v.cell? ⟨n0,0,none⟩=some (.slice t.a t.n t.c):=by
  have h1:(u.ins n0 fK) n0=some fK:=H.bh _ _ _;have h2:v n0=some fK:=by rw[aA];exact H.b1 _ aje _ _ h1
  rw[j7] at h2;exact H.ba h2 0
 have AD:v.cell? ⟨eZ,0,none⟩=some (.pointer (some ⟨dg,0,none⟩)):=by
  have h2:v eZ=some PD:=by rw[aA];exact H.bh _ _ _
  rw[aiJ] at h2;exact H.ba h2 0
 have anR:=jC.start aT qy
 have aaI:=ht.mono xZ
 have vS:∀(i:N) m p,ms[i]?=some m->P[i]?=some p->nc v m p:=λi m p h1 h2=>(ad i m p h1 h2).mono xZ
 have dw:s0.n=ms.length:=by have:=ag.len;simpa using this.symm
 have fB:=jg (br.cap ag) (br.max ag)
 refine⟨λx w=>0<=x/\x<=s0.n/\jC v w dg n6 k [] ((P.take x.toNat).foldl (pD q) []) [] ⟨none,0,0⟩ ⟨none,0,0⟩ [],λx _=>((s0.n:o)-x).toNat,⟨by omega,by omega,anR⟩,λx w cv=>⟨λJ=>?_,λJ=>?_⟩⟩
 obtain⟨bL,dC,bd⟩:=cv
 have eR:x.toNat<ms.length:=by omega
 obtain⟨a,aE,I⟩:=KV (ag.mono (xZ.trans bd.le)) eR
 have ee:P[x.toNat]?=some P[x.toNat]:=cr (by omega)
 have tb:=bE _ (kE (show x.toNat<P.length by omega))
 have Gb:((P.take x.toNat).foldl (pD q) []).length<10000000:=by
  have Se:iB blt ([]:M lR).length []:=λi _ hi=>by simp at hi
  have h1:=(foldl_add (q:=q) (P.take x.toNat) [] Se).2.length_eq;rw[nz,de,gZ] at h1;have h2:=Ue P;omega
 refine⟨a,aE,⟨bL,J⟩,_,I,.inl ⟨_,_,_,rfl,hh aeX,spec.am0 bd Gb (vS _ _ _ (cr eR) ee) tb.kd aN W1 aaI λu' gl=>⟨⟨by omega,by omega⟩,⟨by omega,by omega,?_⟩,by dsimp only;omega⟩⟩⟩
 rw[show(x+1).toNat=x.toNat+1 by omega,gS,ee,U4]
 exact gl
 .obtain⟨bL,dC,bd⟩:=cv;rw[hR (by omega)] at bd;intro anr agt;refine⟨λz7 tA u5 w=>∃f,At v w dg n6 k b q P f z7 tA u5,λz7 tA u5 w=>least λf=>At v w dg n6 k b q P f z7 tA u5,⟨bF.hB P,rfl,VK q P,[],[],bd,.refl _,ame gd bE,rfl,rfl,azl q P,cA _⟩,λz7 tA u5 w cv=>?_⟩;have Z:=G5 cv;generalize NC:(least λf=>At v w dg n6 k b q P f z7 tA u5)=f at Z;obtain⟨aqP,st,S,R,gl,bl,uJ,bX,aif,qB,mI⟩:=Z;obtain rfl:z7=⟨none,0,0⟩:=aqP;intro aAW aqQ;obtain⟨Cg,aS,aB,cW⟩:=gl.slice;have OH:tA.n=st.seen.length:=by have h:=gl.seen.ints.len;rw[de] at h;exact h
  have aBn:st.heap.length<=4000000:=by have h:=Ue (st.heap.map (·.2));rw[de] at h;omega
  have atC:∀x∈st.seen,x∈bF.jS P:=λx J=>uJ.perm.mem_iff.1 (iQ _ J);have SL:∀g∈S,mw g.2:=λg W=>by obtain⟨x,J,rfl⟩:=bf.1 (bl.mem_iff.1 W);obtain⟨g1,g2⟩:=j8 x (atC x J);exact QM g2 aN (by omega)
  have pS:yr q k st=eT k.toNat S:=Ad bl.symm;have Jw:R.length=st.rest.length:=by have:=ei iS bX;simpa using this
  have fin:¬yZ q k b st->anr ⟨none,0,0⟩ tA u5 w:=λatX=>by
   have dW:oO q k b P=st:=by rw[<-aif,awf atX]
   obtain⟨gU,la,t1,cM,t2,c6,j5,arN,fb,eQ⟩:=gl.ex;obtain⟨Cg,aS,aB,cW⟩:=fb.slice;refine agt ⟨none,0,0⟩ tA u5 w ⟨Cg,cM.cell aS,λx lP nB ha Y=>0<=x/\x<=Cg.n/\lP=⟨none,0,0⟩/\nB=tA/\gU.le Y/\la.le Y/\(∀g,ha.aj=some g->gU g=none/\la g=none)/\∃CK,jC v Y dg n6 k S st.heap (st.seen.map (·.1)) tA ha CK/\CK.map cn.core=(xY st x.toNat).map pE,λx _ _ _ _=>((Cg.n:o)-x).toNat,
    ⟨by omega,by omega,rfl,rfl,t1,cM,λg W=>eQ u5 (by simp) g W,R,gl,by rw[bX];simp[xY]⟩,?_⟩
   rintro x lP nB ha Y ⟨bL,dC,aqH,M3,V1,Lt,aC,CK,sV,Jv⟩;obtain rfl:lP=⟨none,0,0⟩:=aqH;obtain rfl:nB=tA:=M3;have aBf:CK.length=(xY st x.toNat).length:=by have:=ei iS Jv;simpa using this
   have um:=av9 uJ x.toNat;refine⟨λJ=>?_,λJ=>?_⟩
   .obtain⟨p,m,e,g1,g2,g3,g4,g5,g6⟩:=cW x bL J;have kr:e∈st.heap:=dK g2;have asa:=ahG uJ kr;obtain⟨afQ,I7⟩:=uJ.tj e kr;have Ty:=awa g2;refine⟨p,g1,⟨bL,J⟩,_,Lt.cell g4,_,Lt.cell g5,_,Lt.cell g6,spec.C7 g3 sV.le (by omega) λadm L u32 x3 cX cv=>⟨λpa=>?_,λdV=>?_⟩⟩
    .have sb:=gW fI (by decide) x3.own.cE;have xh:L.length=e.2.all.length:=by rw[<-cX,de]
     have al:e.2.all≠[]:=λh0=>by rw[h0] at xh;simp at xh;rw[xh] at sb;simp at sb;omega
     rw[aF al] at Ty;cases g3 with
     |mk ls gr is rs ks rows c7 cell BB bH hi at' bz kids len each=>
     have bG:v.le u32:=sV.le.trans x3.le;have I:=bG _ _ cell;obtain⟨abU,Zi⟩:=ale I7.kd;have kZ:en u32 adm L:=⟨x3.own.cE,λr O=>(cv r O).mono bG⟩;have kt:dQ (L.map (·.id))=dQ (e.2.all.map (·.1)):=by rw[<-cX,ep];rfl
     refine⟨_,rfl,_,H.ba I 0,ls,H.ba I 1,gr,H.ba I 2,_,H.ba I 3,_,H.ba I 4,is,H.ba I 5,
      spec.AN (bH.mono bG) (hi.mono bG) kZ abU Zi (by omega) λa vo c mq wi wj zD f1 f2 f3=>⟨wi.le,?_⟩⟩
     have FH:=sV.mono x3.le;have:=am1 (r:=⟨e.2.aD,a,vo,e.2.cG,c,e.2.bH,e.2.hi,dQ (L.map (·.id))⟩) FH wi.le ⟨wi,wj,zD⟩ f1 f2 f3 (by omega)
      (K:=λ(adq:U) (V5:H)=>bo (x+1)/\(0<=x+1/\x+1<=(Cg.n:o)/\(⟨none,0,0⟩:U)=⟨none,0,0⟩/\nB=nB/\gU.le V5/\la.le V5/\(∀g,adq.aj=some g->gU g=none/\la g=none)/\∃CK,jC v V5 dg n6 k S st.heap (st.seen.map (·.1)) nB adq CK/\CK.map cn.core=(xY st (x+1).toNat).map pE)/\((Cg.n:o)-(x+1)).toNat<((Cg.n:o)-x).toNat)
      λadq V5 FI eC eu=>⟨⟨by omega,by omega⟩,⟨by omega,by omega,rfl,rfl,λg z W=>eC g z (wi.le _ _ (x3.le _ _ (V1 g z W))) λe7=>(by rw[(aC g e7).1] at W;cases W),λg z W=>eC g z (wi.le _ _ (x3.le _ _ (Lt g z W))) λe7=>(by rw[(aC g e7).2] at W;cases W),λg W=>?_,_,FI,?_⟩,by omega⟩
     exact dd.QH this λs1 v1 h=>⟨wi.le.trans h.1,h.2⟩;rcases eu g W with h1|h1;exact aC g h1;have h2:=le_none (x3.le.trans wi.le) h1;exact⟨le_none V1 h2,le_none Lt h2⟩;rw[show(x+1).toNat=x.toNat+1 by omega,Ty,ek,ek,Jv];simp only[gm,zT,cn.core,pE,kt]
    have sb:=gW fI (by decide) x3.own.cE;have xh:L.length=e.2.all.length:=by rw[<-cX,de]
    have A9:e.2.all=[]:=kN (by omega);rw[a1 A9,ly] at Ty;exact⟨⟨by omega,by omega⟩,⟨by omega,by omega,rfl,rfl,V1.trans x3.le,Lt.trans x3.le,aC,CK,sV.mono x3.le,by rw[show(x+1).toNat=x.toNat+1 by omega,Ty];exact Jv⟩,by dsimp only;omega⟩
   have td:=uJ.vz;rw[av8 st (by omega)] at Jv;refine spec.rQ sV.seen (by rw[de];omega) λaz7 aiI ahD=>⟨_,aiI.le.cell AD,?_⟩;have azE:gU.le az7:=λg z W=>ahD g z (V1 g z W) λe7=>by rw[(eQ nB (by simp) g e7).1] at W;cases W
   refine spec.qV (arN.whole azE) λaCB aCK aw8=>?_;have aha:=aAo xZ sV aiI ahD aw8;rw[<-pS,<-dW] at aha;rw[<-dW] at Jv;exact au _ _ _ _ _ aha Jv
  have uf:S.length=st.seen.length:=by have:=bl.length_eq;rwa[de] at this
  refine⟨Cg,aS,aG.MM _ _ _ ⟨λhlen=>⟨λab=>?_,λab=>fin λW=>by have:=W.2.1;omega⟩,λhlen=>fin λW=>?_⟩⟩
  .obtain⟨p,m,e,g1,g2,g3,g4,g5,g6⟩:=cW 0 (by omega) (by omega);have MA:st.heap.getD 0 default=e:=by rw[du];rw[show(0:o).toNat=0 from rfl] at g2;rw[g2];rfl
   have kr:e∈st.heap:=dK g2;obtain⟨afQ,I7⟩:=uJ.tj e kr;have Y3:mw e.1:=by rw[afQ];exact awV I7.kd aN
   refine⟨Cg,aS,p,g1,⟨by omega,by omega⟩,_,g5,_,by rw[Addr.Az];exact g6,.inl ⟨_,_,_,rfl,hh aoo,spec.aAp gl b3 SL AD (Zj Y3) (BG _) λdM sW=>?_⟩⟩;rw[q0,uf] at sW;have xu:dM=ak↔MO q k st (st.heap.getD 0 default).1:=by rw[sW,MA];unfold MO;rw[pS]
   refine⟨λbS=>aqQ _ ?_,λaw=>fin λW=>W.2.2 (xu.1 aw)⟩;have rf:yZ q k b st:=⟨λe7=>(by rw[e7] at kr;cases kr),by omega,λZ=>bS (xu.2 Z)⟩;clear fin agt xu;obtain⟨AL,aBm,aih,ai0,ajp⟩:=an4 rf uJ aif qB;have ahX:0<st.heap.length:=wx.2 rf.1;have auG:st.rest=[]:=by by_cases e7:st.rest=[];exact e7;have:=uJ.cut e7;omega
   have aim:∀{Lz fY k9:U} {Y:H},At v Y dg n6 k b q P AL Lz fY k9->least (λf=>At v Y dg n6 k b q P f Lz fY k9)<least λf=>At v w dg n6 k b q P f ⟨none,0,0⟩ tA u5:=λ{Lz fY k9 Y} h=>by rw[NC];exact Nat.lt_of_le_of_lt (least_le h) (by omega)
   refine spec.aAq gl uJ.ad ahX λu64 m1 jT Tq=>alI ?_;rw[MA] at Tq ⊢;have dX:=ahG uJ kr;rw[bF.all_eq,ez] at dX;obtain⟨gX,dy,lL,_⟩:=PO E4 uJ.ad ahX;have OO:=asC kr;have auX:=Ue (st.heap.map (·.2));rw[de] at auX;rw[bF.size_eq] at OO;have jn:=Ue e.2.kids;have lk:=gX.length_eq;rw[hX] at lk;cases Tq with
   |mk ls gr is rs ks rows c7 cell BB bH hi at' bz kids len each=>
   have jU:ks.n=c7.length:=by have:=kids.len;simpa using this.symm
   have kX:e.2.rows.length=rows.length:=by rw[<-bz,de]
   have aiT:=at'.len;refine⟨_,rfl,ks,H.ba (jT.le _ _ cell) 7,λx Y=>0<=x/\x<=ks.n/\jC v Y dg n6 k S ((e.2.kids.take x.toNat).foldl (pD q) (ka blt st.heap)) (st.seen.map (·.1)) tA u5 R,λx _=>((ks.n:o)-x).toNat,⟨by omega,by omega,by simpa using jT⟩,?_⟩;rintro x Y ⟨bL,dC,FK⟩;refine⟨λJ=>?_,λJ=>?_⟩;have eR:x.toNat<c7.length:=by omega
   obtain⟨a,aE,I⟩:=KV (kids.mono FK.le) eR;have ee:e.2.kids[x.toNat]?=some e.2.kids[x.toNat]:=cr (by omega);have tb:=I7.kids _ (kE (show x.toNat<e.2.kids.length by omega));have Gb:((e.2.kids.take x.toNat).foldl (pD q) (ka blt st.heap)).length<10000000:=by have h1:=(foldl_add (q:=q) (e.2.kids.take x.toNat) _ dy).2.length_eq;rw[ez,de,gZ] at h1;omega
   refine⟨a,aE,⟨bL,J⟩,_,I,.inl ⟨_,_,_,rfl,hh aeX,spec.am0 FK Gb (each _ _ _ (cr eR) ee) tb.kd aN W1 aaI λu' gl=>⟨⟨by omega,by omega⟩,⟨by omega,by omega,?_⟩,by dsimp only;omega⟩⟩⟩;rw[show(x+1).toNat=x.toNat+1 by omega,gS,ee,U4];exact gl;rw[hR (by omega)] at FK;have auW:(qc q b st).heap=e.2.kids.foldl (pD q) (ka blt st.heap):=by unfold qc;rw[MA]
   have Kf:(qc q b st).seen=st.seen++e.2.rows.take (b-st.seen.length).toNat:=by unfold qc;rw[MA]
   have Tx:(qc q b st).rest=if(e.2.rows.length:o)<=b-st.seen.length then st.rest else st.rest++ [(e.2,e.2.rows.drop (b-st.seen.length).toNat)]:=by unfold qc;rw[MA]
   rw[<-auW] at FK;refine⟨_,rfl,rs,H.ba (FK.le _ _ cell) 6,λx qR H3 Qt Y=>0<=x/\x<=rs.n/\qR=⟨none,0,0⟩/\Qt=u5/\st.seen.length+x<=b/\∃IL,jC v Y dg n6 k IL (qc q b st).heap ((st.seen++e.2.rows.take x.toNat).map (·.1)) H3 u5 R/\IL.Perm ((st.seen++e.2.rows.take x.toNat).map (Dq q)),
    λx _ _ _ _=>((rs.n:o)-x).toNat,⟨by omega,by omega,rfl,rfl,by have:=uJ.vz;omega,S,by simpa using FK,by simpa using bl⟩,?_⟩
   clear bL dC J FK x Y;rintro x qR H3 Qt Y ⟨bL,dC,aqV,aqX,aCY,IL,ug,Df⟩;obtain rfl:qR=⟨none,0,0⟩:=aqV;obtain rfl:Qt=u5:=aqX;have aBM:H3.n=st.seen.length+min x.toNat e.2.rows.length:=by have h:=ug.seen.ints.len;rw[de,ez,gZ] at h;exact h
   refine⟨λJ=>?_,λJ=>?_⟩;obtain⟨pp,jd,r,O,bJ,c1,c2⟩:=(at'.mono ug.le).at bL J;have Gx:e.2.rows[x.toNat]?=some r.bz:=by rw[<-bz,iR,O];rfl
   have auE:r.bz∈bF.jS P:=uJ.perm.mem_iff.1 (lz _ (lz _ (ej.2 ⟨e,kr,by rw[bF.all_eq];exact iQ _ (dK Gx)⟩)));obtain⟨ayo,ayp⟩:=j8 _ auE;have aCv:(r.v.length:o)=q.length:=ayo;have ayq:dj r.v:=ayp;refine⟨pp,jd,⟨bL,J⟩,_,bJ,_,c1,λar7=>?_,λar7=>?_⟩;have I:=ug.le _ _ cell;obtain⟨abU,Zi⟩:=ale I7.kd;have JD:(b-st.seen.length).toNat=x.toNat:=by omega
   have xn:¬(e.2.rows.length:o)<=b-st.seen.length:=by omega
   rw[aF xn,JD] at Tx;rw[JD] at Kf;have Kb:=(at'.mono ug.le).part (l:=x.toNat) (h:=rs.n) (m:=rs.c) (by omega) (cA _) at'.1.cap (cA _);have uF:(rows.drop x.toNat).take (rs.n-x.toNat)=rows.drop x.toNat:=hR (by rw[oH];omega);rw[uF] at Kb;have kt:dQ ((rows.drop x.toNat).map (·.id))=dQ ((e.2.rows.drop x.toNat).map (·.1)):=by rw[<-bz,<-Ee,ep];rfl
   refine⟨_,rfl,_,rfl,_,H.ba I 0,ls,H.ba I 1,gr,H.ba I 2,_,H.ba I 3,_,H.ba I 4,is,H.ba I 5,rs,H.ba I 6,
    oM kF (l:=x.toNat) (h:=rs.n) (m:=rs.c) (.inr (by rw[wA bL])) (.inl ⟨rfl,rfl⟩) (.inl ⟨rfl,rfl⟩) (by omega) at'.1.cap (cA _) at'.1.cap ⟨H.le.refl _,
    spec.AN (bH.mono ug.le) (hi.mono ug.le) Kb abU Zi (by rw[oH];omega) λa vo c mq wi wj zD f1 f2 f3=>⟨wi.le,?_⟩⟩⟩
   have:=am1 (r:=⟨e.2.aD,a,vo,e.2.cG,c,e.2.bH,e.2.hi,dQ ((rows.drop x.toNat).map (·.id))⟩) ug wi.le ⟨wi,wj,zD⟩ f1 f2 f3 (by rw[Jw,auG];simp)
    (K:=λ(Vl:U) (wQ:H)=>(∃f,At v wQ dg n6 k b q P f ⟨none,0,0⟩ H3 Vl)/\(least λf=>At v wQ dg n6 k b q P f ⟨none,0,0⟩ H3 Vl)<least λf=>At v w dg n6 k b q P f ⟨none,0,0⟩ tA Qt)
    λVl wQ FI _ _=>?_
   exact dd.QH this λs1 v1 h=>⟨wi.le.trans h.1,h.2⟩;have M6:At v wQ dg n6 k b q P AL ⟨none,0,0⟩ H3 Vl:=⟨rfl,qc q b st,IL,_,by rw[Kf];exact FI,by rw[Kf];exact Df,ajp,by rw[Tx,ek,ek,bX];simp only[gm,zT,cn.core,pE,kt],aih,ai0,by omega⟩;exact⟨⟨AL,M6⟩,aim M6⟩;refine⟨t,ug.le.cell W1,spec.lD c2 (aaI.mono ug.le) ayq (by have:=I7.kd.an;omega) aN (by omega) λam6 am7 ajs ajt hw=>⟨_,ug.le.cell AD,?_⟩⟩;have apE:am6=dk (Dq q r.bz).2:=by show am6=dk (fE r.v q r.v.length);rw[<-hw,Zl ajt]
   have apF:am7=dr (Dq q r.bz).2:=by show am7=dr (fE r.v q r.v.length);rw[<-hw,abW ajt]
   rw[apE,apF];refine spec.aAn (x:=Dq q r.bz) ug b3 cu λdM aCG arT=>aAr arT (by rw[de,ez,gZ];omega) λaq aCH arU=>⟨⟨by omega,by omega⟩,⟨by omega,by omega,rfl,rfl,by omega,Dq q r.bz::IL,?_,?_⟩,by dsimp only;omega⟩;have Jb:e.2.rows.take (x+1).toNat=e.2.rows.take x.toNat++ [r.bz]:=by rw[show(x+1).toNat=x.toNat+1 by omega,gS,Gx];rfl
   rw[Jb,<-n5,ek];exact arU;have Jb:e.2.rows.take (x+1).toNat=e.2.rows.take x.toNat++ [r.bz]:=by rw[show(x+1).toNat=x.toNat+1 by omega,gS,Gx];rfl
   rw[Jb,<-n5,ek];exact(kc _ Df).trans (mR _ _).symm;have Y8:(e.2.rows.length:o)<=b-st.seen.length:=by omega
   rw[a1 Y8] at Tx;rw[hR (by omega)] at ug Df;rw[hR (by omega)] at Kf;have M6:At v Y dg n6 k b q P AL ⟨none,0,0⟩ H3 Qt:=⟨rfl,qc q b st,IL,R,by rw[Kf];exact ug,by rw[Kf];exact Df,ajp,by rw[Tx];exact bX,aih,ai0,by omega⟩;exact⟨⟨AL,M6⟩,aim M6⟩
  have al:=W.1;have:=wx.2 al;omega
end
namespace kR
def pj{α:Type}:∀{a b:M α},a.Nodup->(∀x∈a,x∈b)->a.length<=b.length/\(b.length<=a.length->a.Perm b)
 | [],b,_,_=>⟨p2 _,λh=>by have:b=[]:=kN (by simpa using h);rw[this]⟩|x::a,b,ae,ag=>by
  obtain⟨s,t,rfl⟩:=acX (ag x (fW ..));rw[hI] at ae;have gr:∀y∈a,y∈s++t:=λy ah=>by have:=ag y (gi _ ah);rw[cN,cJ] at this;rw[cN];rcases this with h|rfl|h;exact .inl h;exact aW ah ae.1;exact .inr h
  obtain⟨h1,h2⟩:=pj ae.2 gr;rw[ez] at h1 h2;refine⟨by simp;omega,λar=>?_⟩;have:=h2 (by simp at ar;omega);exact(kc x this).trans B4.symm
def zz{α β:Type}{f:α->β}:∀{l:M α},(l.map f).Nodup->l.Nodup
 | [],_=>.nil|x::l,h=>by rw[gm,hI] at h;rw[hI];exact⟨λJ=>h.1 (h7 J),zz h.2⟩
def spec.Rows{ai u:H}{af:N->ay bp}{b:N}{T:aQ}{K:U->H->Prop}(h:In ai u af b T)(aT:dS T)(au:∀s ls u',rU u u' s ls->(ls.map az.bz).Perm (aR T)->(ls.Pairwise λa b=>a.id<=b.id)->K s u'):
  C.T1 (some ⟨b,0,none⟩) u K:=by
 have fB:=aT.small
 apply aG.T1
 refine⟨λe=>(by cases e),λ_=>⟨_,rfl,_,H.ba h.aI.cell 3,LB iO h.aI.map λr z O xw=>?_⟩⟩
 have jf:=H.b1 (u:=u) (b:=r) z O
 refine⟨λs w=>∃rw:M az,na w r T.m (ea T.w) (rw.map λx=>(x.id,.slice x.s.a x.s.n x.s.c))/\aJ u w 52 2 s (rw.flatMap cR)/\s.aj≠some r/\∀x∈rw,(x.id,(x.s,x.v))∈T.w,λs _=>1000000-s.n,
  ⟨[],xw,aJ.nil jf _ _,by simp[U.aj],λx J=>(by cases J)⟩,?_⟩
 rintro s w ⟨rw,iM,aa,rq,kZ⟩
 have dw:s.n=rw.length:=gW fI (by decide) aa.own.cE
 have kX:rw.length<=512:=by have h1:=iM.sub;have h2:=iM.CW;rw[ep] at h2;have h3:(rw.map (·.id)).length<=(T.w.map (·.1)).length:=(pj h2 λx J=>by obtain⟨y,ah,rfl⟩:=bf.1 J;exact bf.2 ⟨_,kZ y ah,rfl⟩).1;rw[de,de] at h3;omega
 refine KN iM (λh5=>?_) λp hQ ad Bc pO=>?_
 have bX:en w s rw:=⟨aa.own.cE,λx J=>((h.aI.vec _ (kZ x J)).1).mono aa.le⟩
 have np:(rw.map az.bz).Perm (aR T):=by
  have bS:=iM.CW;rw[ep] at bS;have hlen:=h5.length_eq;simp only[de,ea] at hlen;have nW:(T.w.map (·.1)).Nodup:=by rw[<-nv];exact h.aI.rT
  have gJ:∀x∈rw.map az.bz,x∈aR T:=λx J=>by obtain⟨y,ah,rfl⟩:=bf.1 J;exact bf.2 ⟨_,kZ y ah,rfl⟩
  have s8:(rw.map az.bz).Nodup:=by have:(rw.map (·.id)).Nodup:=bS;rw[show rw.map (·.id)=(rw.map az.bz).map (·.1) by rw[ep];rfl] at this;exact zz this
  exact(pj s8 gJ).2 (by simp[aR];omega)
 refine spec.kV bX (λx J=>aT.ids _ (kZ x J)) (by omega) (λx J=>?_) λs2 ls dc ma eY dB=>?_
 have o0:(x.v.length:o)=T.an:=(aT.vec _ (kZ x J)).1
 have:=aT.hl
 omega
 exact au s2 ls dc ⟨ma.own.weaken aa.le,λr O=>(ma.inner r O).weaken aa.le,ma.eB,ma.apart⟩ (eY.trans np) dB
 obtain⟨e,he,Ou⟩:=bf.1 ad
 subst Ou
 refine I9 pO ?_
 have dI:aJ u (w.ins r hQ) 52 2 s (rw.flatMap cR):=aa.xU O rq hQ
 refine oc kF (yM e.1 e.2.1) (by decide) rfl (by simp[cT]) dI (by show s.n<_;omega) (by show(s.n+1)*_<=_;omega) λaq u' bP hW gf eu _=>⟨⟨rw++ [⟨e.1,e.2.1,e.2.2⟩],?_,?_,λaB=>?_,λx J=>?_⟩,?_⟩
 rw[ek]
 refine pO.else (λb5 mf=>gf _ _ mf λcW=>?_) λb5 mf=>gf _ _ mf rq
 have:=aa.fresh _ cW
 exact h.known T.m (by rw[h.aI.dn];simp) this
 rw[hz];exact bP
 rcases eu r aB with a7|a7
 exact rq a7
 rw[H.bh] at a7;cases a7
 rcases cN.1 J with J|J
 exact kZ x J
 obtain rfl:=fV.1 J
 exact he
 show 1000000-aq.n<1000000-s.n
 omega
def parts(X:aQ):M bF:=(X.root.map av.bA).toList
def aen(X:aQ)(q:M o)(k bud:o):mB:=oO q k bud (parts X)
def il(X:aQ)(q:M o)(k bud:o):M bO:=yr q k (aen X q k bud)
def fU(X:aQ)(q:M o)(k bud:o):M o:=dQ ((aen X q k bud).seen.map (·.1))
def jF(X:aQ)(q:M o)(k bud:o):M (o×o×M o×M o×M o):=(n3 (aen X q k bud)).map pE
def Hp(X:aQ):bF.jS (parts X)=lA X:=by
 unfold parts lA;cases X.root with
 |none=>rfl|some n=>show n.bA.all++ []=_;rw[ly]
def aon:hn aH 262=ak:=by kernel_rfl
def aoi:hn aH 261=ak:=by kernel_rfl
def adT:kH aH 211=some (167,1,8,[.pointer none]):=by kernel_rfl
def WX(n:N):kG aH 211 1 #[(0,.pointer (some ⟨n,0,none⟩))]=some (167,[.pointer (some ⟨n,0,none⟩)]):=by kernel_rfl
def spec.Search{ai u:H}{af:N->ay bp}{b:N}{T:aQ}{t:U}{q:M o}{k bud:o}{K:U->U->U->o->H->Prop}(h:In ai u af b T)(aT:dS T)(iC:T.eV<=2700)(ht:Ints u t q)
  (di:gE q T.an k bud≠0->K ⟨none,0,0⟩ ⟨none,0,0⟩ ⟨none,0,0⟩ (gE q T.an k bud) u)
  (bE:gE q T.an k bud=0->∀aD ss sr rest u',jQ u u' aD ss sr (il T q k bud) (fU T q k bud) rest->rest.map cn.core=jF T q k bud->K aD ss sr 0 u'):C.T2 (some ⟨b,0,none⟩) t k bud u K:=by
 apply aG.T2
 refine⟨λe=>(by cases e),λ_=>⟨_,rfl,_,H.ba h.aI.cell 0,spec.qq ht ⟨λal=>di al,λhe=>?_⟩⟩⟩
 obtain⟨aA,b3,cu,gd,hE⟩:=w3.1 he
 obtain⟨_,_,qA,Bx⟩:=oh aA
 have bE:=bE he
 intro eZ qx
 obtain⟨nF,aaM⟩:∃nF,nF=u.ins eZ (.cells #[.slice none 0 0] 211 (0,0)):=⟨_,rfl⟩
 have nZ:u.le nF:=by rw[aaM];exact H.b1 _ qx
 have d4:nF eZ=some (.cells #[.slice none 0 0] 211 (0,0)):=by rw[aaM];exact H.bh _ _ _
 rw[<-aaM]
 intro IG bK
 have xk:(bF.jS (parts T)).length<=100000:=by rw[Hp,aT.rows.length_eq];have:=aT.small;simp[aR];omega
 have j8:∀x∈bF.jS (parts T),(x.2.length:o)=q.length/\dj x.2:=λx J=>by rw[Hp] at J;obtain⟨e,gf,rfl⟩:=bf.1 (aT.rows.mem_iff.1 J);obtain⟨v1,v2⟩:=aT.vec e gf;exact⟨by rw[v1,qA],v2⟩
 have cI:bF.hB (parts T)<=4000000:=by
  unfold parts;cases O:T.root with
  |none=>show 0<=_;omega|some n=>have:=aT.size n O;show n.bA.size+0<=_;rw[av.KU];omega
 have aad:∀p∈parts T,ga q.length p:=λp ad=>by
  unfold parts at ad;cases O:T.root with
  |none=>rw[O] at ad;cases ad
  |some n=>
   rw[O] at ad;obtain rfl:p=n.bA:=by simpa using ad
   rw[qA];exact aT.ok n O
 have walk:∀(s:U) (ms:M N) (Y:H),u.le Y->Y.cell? ⟨eZ,0,none⟩=some (.slice s.a s.n s.c)->br Y s 1 (ms.map λn=>.pointer (some ⟨n,0,none⟩))->ms.length=(parts T).length->(∀(i:N) m p,ms[i]?=some m->(parts T)[i]?=some p->nc Y m p)->IG Y:=by intro s ms Y aC I ag hlen ad;refine bK Y ⟨s,I,.inl ⟨_,_,_,rfl,hh aon,?_⟩⟩;refine aG.abA (some ⟨b,0,none⟩) s t k bud Y _ ?_;refine spec.ua ag hlen ad aad (ht.mono aC) Bx b3 cu gd hE cI xk j8 λaD ss sr R u' aE FN=>bE aD ss sr R u' ?_ FN;exact⟨aE.h.weaken aC,aE.s.weaken aC,aE.r.weaken aC,λr O=>⟨(aE.g r O).l.weaken aC,(aE.g r O).h.weaken aC,(aE.g r O).i.weaken aC⟩,aE.eB⟩
 obtain⟨KQ,DB⟩:∃KQ:ay bc,KQ=T.root.map λn=>⟨n.b,0,none⟩:=⟨_,rfl⟩
 have Mo:nF.cell? ((cB b 0 none).add 2)=some (.pointer KQ):=by rw[DB];exact H.le.cell nZ (H.ba h.aI.cell 2)
 refine⟨_,rfl,KQ,Mo,λal=>⟨_,rfl,KQ,Mo,.inl ⟨_,_,_,rfl,hh aoi,?_⟩⟩,λsZ=>?_⟩
 cases O:T.root with
 |none=>rw[O] at DB;exact aW DB al
 |some n=>
  rw[O] at DB;rw[show KQ=some ⟨n.b,0,none⟩ from DB];refine aG.aby (some ⟨n.b,0,none⟩) ⟨eZ,0,none⟩ nF _ ⟨⟨none,0,0⟩,H.ba d4 0,?_⟩;refine oc adT (WX n.b) (by decide) rfl (by simp[cT]) (aJ.nil (H.le.refl nF) 167 1) (by show 0<_;omega) (by show(0+1)*_<=_;omega) λaq u' bP hW gf _ _=>?_;have apo:u' eZ=some (.cells #[.slice none 0 0] 211 (0,0)):=bP.le _ _ d4;refine Il apo (by simp[cT]) ?_;obtain⟨Y,aC⟩:∃Y,Y=u'.ins eZ (.cells #[.slice aq.a aq.n aq.c] 211 (0,0)):=⟨_,rfl⟩;rw[<-aC];have OD:aq.aj≠some eZ:=λe=>by have:=bP.fresh eZ e;rw[d4] at this;cases this
  have Dn:∀c z,u' c=some z->c≠eZ->Y c=some z:=λc z I al=>by rw[aC,H.bq _ _ al];exact I
  have amT:u.le Y:=λc z I=>Dn c z (bP.le c z (nZ c z I)) λe=>by rw[e,qx] at I;cases I
  have apA:Y eZ=some (.cells #[.slice aq.a aq.n aq.c] 211 (0,0)):=by rw[aC];exact H.bh _ _ _
  obtain⟨cM,_⟩:=h.aI.one n O;refine walk aq [n.b] Y amT (H.ba apA 0) (br.else bP.own.cE λg z W aa=>Dn g z aa λe=>OD (by rw[W,e])) (by unfold parts;rw[O];rfl) λi m p hm ad=>?_;have hi:i=0:=by have:=(jM.1 hm).1;simpa using this
  subst hi;obtain rfl:n.b=m:=cU hm;have kx:p=n.bA:=by unfold parts at ad;rw[O] at ad;exact(cU ad).symm
  rw[kx];exact(Ap.part cM).mono amT
 cases O:T.root with
 |some n=>rw[O] at DB;rw[sZ] at DB;cases DB
 |none=>exact walk ⟨none,0,0⟩ [] nF nZ (H.ba d4 0) ⟨rfl,cA _,by decide,.inl rfl⟩ (by unfold parts;rw[O];rfl) λi m p hm=>by simp at hm
def QT{X:aQ}(h:dS X){q:M o}{k bud:o}(hk:1<=k)(ab:0<=bud)(aw:(q.length:o)=X.an){L:M az}(cX:(L.map az.bz).Perm (aR X))(aN:kk L q){rest:M cn}(O:rest.map cn.core=jF X q k bud):
  Sound L q k (il X q k bud) (fU X q k bud) rest/\((fU X q k bud).length:o)<=bud/\(((fU X q k bud).length:o)=bud∨(fU X q k bud).length=L.length∨Aj q k (il X q k bud) rest):=by
 refine aep ab hk (λp ad=>?_) aN ?_ O
 unfold parts at ad
 cases dG:X.root with
 |none=>rw[dG] at ad;cases ad
 |some n=>
  rw[dG] at ad;obtain rfl:p=n.bA:=by simpa using ad
  rw[aw];exact h.ok n dG
 rw[Hp]
 exact cX.trans h.rows.symm
def jr(l:M az)(an a:o):o:=if oJ l an≠0 then oJ l an else if a<1∨64<a then 1 else 0
structure EK(u:H)(l:M az)(hl a:o)(u':H)(dR:N)(af:N->ay bp)(T:aQ):Prop where
 is:In u u' af dR T
 ok:dS T
 rows:(aR T).Perm (l.map az.bz)
 an:T.an=hl
 leaf:T.leaf=a
 eV:T.eV=0
def xc(r:az):o×(U×M o):=(r.id,(r.s,r.v))
def QO{u:H}{n:N}{d a:o}{p wk:ay bc}{m:ay N}{f:H->Prop}(h:u n=some (.cells #[.int .i64 d,.int .i64 a,.pointer p,.map m] 169 (0,0)))
  (Z:f (u.ins n (.cells #[.int .i64 d,.int .i64 a,.pointer wk,.map m] 169 (0,0)))):H.aO u (ev (cB n 0 none) 2) [.pointer wk] f:=
 ⟨_,_,h,rfl,by simp[jh],by simp[cT],Z⟩
def spec.Build{s:U}{l:M az}{an a:o}{u:H}{K:ay bc->o->H->Prop}(ag:en u s l)(di:jr l an a≠0->K none (jr l an a) u)
  (bE:jr l an a=0->∀u' dR af T,EK u l an a u' dR af T->K (some ⟨dR,0,none⟩) 0 u'):C.Pd s an a u K:=by
 have bad:∀Y,jr l an a=Y->Y≠0->K none Y u:=λY e aC=>by subst e;exact di aC
 apply aG.Pd
 refine spec.qt ag ⟨λal=>bad _ (by unfold jr;rw[a1 al]) al,λhe=>?_⟩
 have one:(a<1∨64<a)->K none 1 u:=λI=>bad 1 (by unfold jr;rw[aF (by simpa using he),a1 I]) (by decide)
 intro pA h2
 refine⟨λh=>one (.inl h),λac=>⟨λh=>one (.inr h),λa2=>h2 _ _ _ ?_⟩⟩
 have bE:=bE (by unfold jr;rw[aF (by simpa using he),aF (by omega)])
 clear bad one di h2 pA
 have fz:=B9.1 he
 obtain⟨Mr,Ms⟩:=fz.an
 have Zx:=fz.len
 refine H6 λm pX hm iw=>?_
 have qF:=H.b1 (u:=u) (b:=m) pX hm
 obtain⟨iU,se⟩:∃iU,iU=u.ins m pX:=⟨_,rfl⟩
 have NZ:iU m≠none:=by rw[se,H.bh];simp
 rw[<-se] at iw qF ⊢
 intro n8 nV
 have nX:n8≠m:=λe=>by rw[e] at nV;exact NZ nV
 have vQ:u n8=none:=qF.none nV
 obtain⟨l1,rn⟩:∃l1,l1=(bC #[.int .i64 an,.int .i64 a,.pointer none,.map (some m)] 169 (0,0)):=⟨_,rfl⟩
 show C.kV s (iU.ins n8 (bC #[.int .i64 an,.int .i64 a,.pointer none,.map (some m)] 169 (0,0))) _
 rw[<-rn]
 have rD:=H.b1 (u:=iU) (b:=n8) l1 nV
 obtain⟨u8,pe⟩:∃u8,u8=iU.ins n8 l1:=⟨_,rfl⟩
 have uc:u8 n8=some l1:=by rw[pe];exact H.bh _ _ _
 rw[<-pe] at rD ⊢
 have Du:u8 m≠none:=λe=>NZ (rD.none e)
 have BI:u.le u8:=qF.trans rD
 refine spec.kV (ag.mono BI) fz.id (by omega) (λr O=>by have:=(fz.v r O).1;omega) λgM ls hJ bX ad qC=>?_
 have Jw:ls.length=l.length:=by simpa using ad.length_eq
 have A6:hD ls an:=by refine Ek fz.an (by omega) ?_ λp kx=>?_;rw[show ls.map (·.id)=(ls.map az.bz).map (·.1) by rw[ep];rfl,(ad.map (·.1)).nodup_iff,ep];exact fz.nodup;obtain⟨r,O,rfl⟩:=bf.1 (ad.mem_iff.1 kx);exact⟨(fz.id r O).1,(fz.id r O).2,(fz.v r O).1,(fz.v r O).2⟩
 have ti:=bX.own.le
 have agB:gM.n=ls.length:=bX.rws.len
 have Bm:gM.aj≠some m:=λe=>Du (bX.own.fresh m e)
 have OF:gM.aj≠some n8:=λe=>by have:=bX.own.fresh n8 e;rw[uc] at this;cases this
 have hq:∀r∈ls,r.s.aj≠some m:=λr O e=>Du ((bX.inner r O).fresh m e)
 have aal:∀r∈ls,r.s.aj≠some n8:=λr O e=>by have:=(bX.inner r O).fresh n8 e;rw[uc] at this;cases this
 refine⟨λx w=>0<=x/\x<=gM.n/\fx w m (ea ((ls.take x.toNat).map xc))/\(∀c z,hJ c=some z->c≠m->w c=some z)/\w m≠none,λx _=>((gM.n:o)-x).toNat,⟨by omega,by omega,(iw.mono rD).mono ti,λc z I _=>I,λe=>Du (ti.none e)⟩,?_⟩
 rintro x w ⟨bL,dC,vN,pL,sa⟩
 have ud:w n8=some l1:=pL _ _ (ti _ _ uc) nX
 have vD:en w gM ls:=⟨br.else bX.own.own.cE λg z W aa=>pL g z aa λe=>Bm (by rw[W,e]),λr O=>br.else (bX.inner r O).ints λg z W aa=>pL g z aa λe=>hq r O (by rw[W,e])⟩
 refine⟨λJ=>?_,λJ=>?_⟩
 obtain⟨p,jd,r,O,bJ,c1,_⟩:=vD.at bL J
 have eR:x.toNat<ls.length:=by omega
 refine⟨p,jd,⟨bL,J⟩,_,bJ,_,c1,_,by rw[rn] at ud;exact H.ba ud 3,?_⟩
 have al:fR (ea ((ls.take x.toNat).map xc)) r.id=none:=yX.2 λoy=>by unfold ea at oy;rw[ep,ep] at oy;obtain⟨Y,aC,uK⟩:=bf.1 oy;have abb:Y.id=r.id:=uK;have bS:=A6.nodup;rw[<-u2 x.toNat ls,ek,gh] at bS;refine bS.2.2 Y.id (h7 aC) r.id (h7 ?_) abb;exact dK (i:=0) (by rw[uX,UZ];exact O)
 refine Ep iO vN al λz Gg=>⟨⟨by omega,by omega⟩,⟨by omega,by omega,?_,λc b5 I lj=>?_,by rw[H.bh];simp⟩,by dsimp only;omega⟩
 rw[show(x+1).toNat=x.toNat+1 by omega,gS,O,ek]
 unfold ea at Gg ⊢
 rw[ek]
 exact Gg
 rw[H.bq _ _ lj];exact pL c b5 I lj
 .rw[hR (by omega)] at vN;obtain⟨ub,b9⟩:∃ub,ub=H.nC w gM:=⟨_,rfl⟩;have lub:ub.le w:=by rw[b9];exact Eo _ _
  have Oo:aJ ub w 52 2 gM (ls.flatMap cR):=⟨bX.own.own.le λc z I aa=>pL c z aa λe=>Bm (by rw[I,e]),lub,λg W=>by rw[b9];unfold H.nC;exact a1 W⟩
  have Cp:ub n8=some l1:=by rw[b9,nD OF];exact ud
  have Bw:∀r∈ls,Ints ub r.s r.v:=λr O=>br.else (vD.2 r O) λg z W aa=>by rw[b9,nD ((bX.eB r O).symm g W)];exact aa
  have rz:∀r∈ls,∀g,r.s.aj=some g->ub g≠none/\g≠n8/\g≠m:=λr O g W=>by have aS:g≠m:=λe=>hq r O (by rw[W,e]);refine⟨λe=>?_,λe=>aal r O (by rw[W,e]),aS⟩;obtain⟨z,aa⟩:=e9.1 (dE (bX.inner r O) W);rw[b9,nD ((bX.eB r O).symm g W),pL g z aa aS] at e;cases e
  have Q5:∀c z,u c=some z->w c=some z/\gM.aj≠some c:=λc z I=>⟨pL c z (ti c z (BI c z I)) (λe=>(by rw[e,hm] at I;cases I)),λe=>(by have:=bX.own.fresh c e;rw[BI c z I] at this;cases this)⟩;have EE:u.le ub:=λc z I=>by obtain⟨h1,h2⟩:=Q5 c z I;rw[b9,nD h2];exact h1
  have ad8:ub m≠none:=by rw[b9,nD Bm];exact sa
  have fin:∀(root:ay av) (ke:H),(∀c z,w c=some z->gM.aj≠some c->ke c=some z)->(∀n,root=some n->(∀x∈n.bM,hM ke x)/\n.own.Nodup/\(∀c∈n.own,ub c=none/\ke c≠none)/\(∀x∈n.bM,∀r∈x.1.rows,r∈ls)/\ga an n.bA/\lG 2 n.bA/\n.bM.length+1<=2*ls.length)->
    (match root with|none=>([]:M j2)|some n=>n.bA.all).Perm (ls.map az.bz)->H.aO ke (ev (cB n8 0 none) 2) [.pointer (root.map λn=>⟨n.b,0,none⟩)] λkf=>K (some ⟨n8,0,none⟩) 0 kf:=by
   intro root ke f1 f2 f3
   have M5:ke n8=some l1:=f1 _ _ ud OF
   rw[rn] at M5
   refine QO M5 ?_
   obtain⟨T,aT⟩:∃T:aQ,T=⟨an,a,root,m,ls.map xc,0⟩:=⟨_,rfl⟩
   obtain⟨kf,GG⟩:∃kf,kf=ke.ins n8 (.cells #[.int .i64 an,.int .i64 a,.pointer (root.map λn=>⟨n.b,0,none⟩),.map (some m)] 169 (0,0)):=⟨_,rfl⟩
   rw[<-GG]
   have g1:∀c z,ke c=some z->c≠n8->kf c=some z:=λc z I al=>by rw[GG,H.bq _ _ al];exact I
   have BQ:∀n,root=some n->n8∉n.own/\m∉n.own/\∀r∈ls,∀g,r.s.aj=some g->g∉n.own:=λn ae=>by obtain⟨_,_,da,_⟩:=f2 n ae;exact⟨λe=>(by have:=(da n8 e).1;rw[Cp] at this;cases this),λe=>ad8 (da m e).1,λr O g W e=>(rz r O g W).1 (da g e).1⟩
   obtain⟨af,hV⟩:∃af:N->ay bp,af=λc=>open Classical in if c=n8 then some .tree else if c=m then some .map else if ∃n,root=some n/\c∈n.own then some .node else if ∃r∈ls,r.s.aj=some c then some .vec else none:=⟨_,rfl⟩
   have gX:af n8=some .tree:=by rw[hV];exact a1 rfl
   have dy:af m=some .map:=by rw[hV];show(if m=n8 then _ else _)=_;rw[aF (dz nX),a1 rfl]
   have lL:∀n c,root=some n->c∈n.own->af c=some .node:=λn c ae I=>by obtain⟨aS,aB,_⟩:=BQ n ae;rw[hV];show(if c=n8 then _ else _)=_;rw[aF (λe=>aS (by rw[<-e];exact I)),aF (λe=>aB (by rw[<-e];exact I)),a1 ⟨n,ae,I⟩]
   have pY:∀r∈ls,∀g,r.s.aj=some g->af g=some .vec:=λr O g W=>by obtain⟨_,aS,aB⟩:=rz r O g W;rw[hV];show(if g=n8 then _ else _)=_;rw[aF aS,aF aB,aF (λ⟨n,ae,I⟩=>(BQ n ae).2.2 r O g W I),a1 ⟨r,O,W⟩]
   have sj:∀c,af c≠none->c=n8∨c=m∨(∃n,root=some n/\c∈n.own)∨∃r∈ls,r.s.aj=some c:=λc I=>by rw[hV] at I;by_cases aS:c=n8;exact .inl aS;by_cases aB:c=m;exact .inr (.inl aB);by_cases cW:∃n,root=some n/\c∈n.own;exact .inr (.inr (.inl cW));by_cases fN:∃r∈ls,r.s.aj=some c;exact .inr (.inr (.inr fN));exact aW (by show(if c=n8 then _ else _)=_;rw[aF aS,aF aB,aF cW,aF fN]) I
   have Q8:∀r∈ls,Ints kf r.s r.v:=λr O=>br.else (vD.2 r O) λg z W aa=>g1 g z (f1 g z aa ((bX.eB r O).symm g W)) (rz r O g W).2.1
   have NM:aR T=ls.map az.bz:=by rw[aT];unfold aR;rw[ep];rfl
   have M1:kf n8=some (.cells (fj T).toArray 169 (0,0)):=by rw[GG,H.bh,aT];rfl
   have NY:fx kf m (ea (ls.map xc)):=vN.else λz aa=>g1 m z (f1 m z aa Bm) (dz nX)
   refine bE kf n8 af T ⟨⟨⟨M1,gX,by rw[aT];exact NY,by rw[aT];exact dy,λe kr=>?_,λn ae=>?_⟩,λc z I=>?_,λc I=>?_,λc I=>?_⟩,⟨by rw[aT];exact⟨Mr,Ms⟩,by rw[aT];exact⟨by show 1<=a;omega,by show a<=64;omega⟩,λe kr=>?_,λe kr=>?_,by rw[aT];show(ls.map xc).length<=512;rw[de];omega,?_,λn ae=>?_,λn ae=>(by rw[aT] at ae;exact(f2 n ae).2.2.2.2.2.1),λn ae=>?_⟩,by rw[NM];exact ad,by rw[aT],by rw[aT],by rw[aT]⟩
   rw[aT] at kr
   obtain⟨r,O,rfl⟩:=bf.1 kr
   exact⟨Q8 r O,pY r O⟩
   rw[aT] at ae
   obtain⟨cM,c6,da,fk,_⟩:=f2 n ae
   obtain⟨aS,_,_⟩:=BQ n ae
   refine⟨λx J=>(cM x J).bN (λc z I aa=>g1 c z aa λe=>aS (by rw[<-e];exact ej.2 ⟨x,J,I⟩)) λr O=>Q8 r (fk x J r O),c6,λc I=>lL n c ae I,λx J r O g W=>pY r (fk x J r O) g W⟩
   obtain⟨h1,h3⟩:=Q5 c z I
   exact g1 c z (f1 c z h1 h3) λe=>by rw[e,vQ] at I;cases I
   rcases sj c I with rfl|rfl|⟨n,ae,o3⟩|⟨r,O,pb⟩
   exact vQ
   exact hm
   exact EE.none ((f2 n ae).2.2.1 c o3).1
   exact BI.none ((bX.inner r O).fresh c pb)
   rcases sj c I with rfl|rfl|⟨n,ae,o3⟩|⟨r,O,pb⟩
   rw[M1];simp
   obtain⟨_,_,a7,_⟩:=NY
   rw[a7];simp
   obtain⟨z,aa⟩:=e9.1 ((f2 n ae).2.2.1 c o3).2
   rw[g1 c z aa λe=>(BQ n ae).1 (by rw[<-e];exact o3)];simp
   obtain⟨z,aa⟩:=e9.1 (dE (bX.inner r O) pb)
   obtain⟨_,aS,aB⟩:=rz r O c pb
   rw[g1 c z (f1 c z (pL c z aa aB) ((bX.eB r O).symm c pb)) aS];simp
   rw[aT] at kr
   obtain⟨r,O,rfl⟩:=bf.1 kr
   exact A6.id r O
   rw[aT] at kr ⊢
   obtain⟨r,O,rfl⟩:=bf.1 kr
   exact A6.v r O
   rw[NM,aT]
   exact f3
   rw[aT] at ae ⊢
   exact(f2 n ae).2.2.2.2.1
   rw[aT] at ae ⊢
   have:=(f2 n ae).2.2.2.2.2.2
   show n.bM.length<=1100*0+2000
   omega
  rw[rn] at Cp;refine spec.cut (by omega) (H.ba Cp 0) (H.ba Cp 1) Oo Bw A6 (λe7 u' lm=>?_) λal u' n I fo=>?_;exact fin none u' (λc z I _=>lm c z I) (λn ae=>by cases ae) (by rw[e7];exact .refl _);exact fin (some n) u' (λc z c9 lj=>I.tY c z c9 lj) (λn' hW=>by obtain rfl:=cU hW;exact⟨I.one,I.nodup,I.out,I.rows,I.ok,fo,I.size⟩) I.all
end kR
section
variable{d:o}
def KS(aY:M kj)(n:av):(mN aY n).bA.all.Perm (n.bA.all++(jD aY n.b).flatMap λx=>x.1.rows.map az.bz):=by rw[av.tm,av.tm,<-hz];exact(Hq aY n).flatMap_right _
def axx(aY:M kj)(n:av):(mN aY n).own.Perm (n.own++(jD aY n.b).flatMap λx=>x.1.dv):=by unfold av.own;rw[<-hz];exact(Hq aY n).flatMap_right _
def kj.hA(f:kj):cn:=(bF.mk f.h.aD f.h.bH f.h.hi f.h.cG [] []).hA []
def XG(f:kj)(n:av):(f.fill n).bA.hA []=f.hA:=by rw[av.hx];rfl
def C5(f:kj)(n:av):(f.fill n).bA.kids=(f.pre++n::f.post).map av.bA:=by rw[av.hx];rfl
def C4(f:kj)(n:av)(x:j2):x∈(f.fill n).bA.all↔x∈f.h.rows.map az.bz∨(∃k∈f.pre++f.post,x∈k.bA.all)∨x∈n.bA.all:=by
 rw[bF.all_eq,C5,cN,yJ,ej];have C2:(f.fill n).bA.rows=f.h.rows.map az.bz:=by rw[av.hx];rfl
 rw[C2];constructor;rintro(h|⟨p,ad,J⟩);exact .inl h;obtain⟨k,hk,rfl⟩:=bf.1 ad;rw[cN,cJ] at hk;rcases hk with hk|rfl|hk;exact .inr (.inl ⟨k,iQ _ hk,J⟩);exact .inr (.inr J);exact .inr (.inl ⟨k,lz _ hk,J⟩);rintro(h|⟨k,hk,J⟩|J);exact .inl h;refine .inr ⟨k.bA,h7 ?_,J⟩;rw[cN,cJ];rcases cN.1 hk with hk|hk;exact .inl hk;exact .inr (.inr hk);exact .inr ⟨n.bA,h7 (by simp),J⟩
def aqj{f:kj}{n n':av}(h:ga d (f.fill n).bA)(bQ:ga d n'.bA)(dX:∀x∈n'.bA.all,x∈n.bA.all∨mZ f.hA x.2):ga d (f.fill n').bA:=by have h1:=h.kd;have h2:=h.ins;have h3:=h.kids;rw[XG] at h1 h2;rw[C5] at h3;refine .mk (by rw[XG];exact h1) (λx J=>?_) λk hk=>?_;rw[XG];rcases(C4 f n' x).1 J with J|J|J;exact h2 x ((C4 f n x).2 (.inl J));exact h2 x ((C4 f n x).2 (.inr (.inl J)));rcases dX x J with J|J;exact h2 x ((C4 f n x).2 (.inr (.inr J)));exact J;rw[C5] at hk;obtain⟨Y,aC,rfl⟩:=bf.1 hk;rw[cN,cJ] at aC;rcases aC with aC|rfl|aC;exact h3 _ (h7 (iQ _ aC));exact bQ;exact h3 _ (h7 (lz _ (gi _ aC)))
def KT:∀(aY:M kj) {n:av},ga d (mN aY n).bA->ga d n.bA
 | [],_,h=>h|f::aY,n,h=>by have:=KT aY (n:=f.fill n) h;have h3:=this.kids;rw[C5] at h3;exact h3 _ (h7 (by simp))
def acz:∀(aY:M kj) {n n':av},ga d (mN aY n).bA->ga d n'.bA->(∀x∈n'.bA.all,x∈n.bA.all∨∀f∈aY,mZ f.hA x.2)->ga d (mN aY n').bA
 | [],_,_,_,bQ,_=>bQ|f::aY,n,n',h,bQ,dX=>by refine acz aY (n:=f.fill n) (n':=f.fill n') h (aqj (KT aY h) bQ λx J=>(dX x J).imp id λJ=>J f (fW ..)) λx J=>?_;rcases(C4 f n' x).1 J with J|J|J;exact .inl ((C4 f n x).2 (.inl J));exact .inl ((C4 f n x).2 (.inr (.inl J)));rcases dX x J with J|J;exact .inl ((C4 f n x).2 (.inr (.inr J)));exact .inr λg W=>J g (gi _ W)
end
namespace kR
section
variable{v a:M o}
def iK(h:er)(v:M o):er:={h with bH:=lp h.bH v,hi:=lq h.hi v}
def Ui{i:N}(h:a.length=v.length)(hi:i<a.length):(lp a v).getD i 0=min (a.getD i 0) (v.getD i 0):=by unfold lp;rw[du,UU,du,du,cr hi,cr (by omega)];show(if v[i]<a[i] then v[i] else a[i])=min a[i] v[i];split<;>omega
def Uj{i:N}(h:a.length=v.length)(hi:i<a.length):(lq a v).getD i 0=max (a.getD i 0) (v.getD i 0):=by unfold lq;rw[du,UU,du,du,cr hi,cr (by omega)];show(if v[i]>a[i] then v[i] else a[i])=max a[i] v[i];split<;>omega
def awz(h:a.length=v.length)(i:N):(lp a v).getD i 0<=a.getD i 0:=by by_cases hi:i<a.length;rw[Ui h hi];omega;have:(lp a v).length=a.length:=wV h;rw[du,du,iy (by omega),iy (by omega)];exact nA _
def awA(h:a.length=v.length)(i:N):a.getD i 0<=(lq a v).getD i 0:=by by_cases hi:i<a.length;rw[Uj h hi];omega;have:(lq a v).length=a.length:=wV h;rw[du,du,iy (by omega),iy (by omega)];exact nA _
def X0{d:o}{h:er}{ks:M av}(fo:h.aD=2)(ad:ga d (av.mk h ks).bA)(aA:dj v)(DI:(v.length:o)=d):ga d (av.mk (iK h v) ks).bA/\mZ ((av.mk (iK h v) ks).bA.hA []) v:=by
 have h1:=ad.kd;have h2:=ad.ins;have h3:=ad.kids;rw[av.hx] at h1 h2 h3;obtain⟨aw,_,_,ag⟩:=h1;have gr:h.cG=0/\dj h.bH/\dj h.hi/\(h.bH.length:o)=d/\(h.hi.length:o)=d/\∀i:N,(i:o)<d->h.bH.getD i 0<=h.hi.getD i 0:=by rcases ag with⟨e,_⟩|⟨_,e⟩|⟨e,_⟩;have:h.aD=1:=e;omega;exact e;have:h.aD=3:=e;omega
 obtain⟨mS,w4,CR,hE,fM,IT⟩:=gr;have e3:(lp h.bH v).length=h.bH.length:=wV (by omega);have gg:(lq h.hi v).length=h.hi.length:=wV (by omega);have eH:dj (lp h.bH v):=⟨by omega,λi hi=>by rw[Ui (by omega) (by omega)];have aS:=w4.2 i (by omega);have aB:=aA.2 i (by omega);unfold nj at*;omega⟩
 have hQ:dj (lq h.hi v):=⟨by omega,λi hi=>by rw[Uj (by omega) (by omega)];have aS:=CR.2 i (by omega);have aB:=aA.2 i (by omega);unfold nj at*;omega⟩
 have abe:mZ ((av.mk (iK h v) ks).bA.hA []) v:=by rw[av.hx];refine⟨λ_ i eO=>?_,λe=>?_⟩;show(lp h.bH v).getD i 0<=v.getD i 0/\v.getD i 0<=(lq h.hi v).getD i 0;have aBr:i<v.length:=eO;rw[Ui (by omega) (by omega),Uj (by omega) (by omega)];omega;have:h.aD=3:=e;omega
 refine⟨?_,abe⟩;rw[av.hx];refine .mk ⟨aw,p4,λx J=>(by cases J),.inr (.inl ⟨fo,mS,eH,hQ,by show((lp h.bH v).length:o)=d;omega,by show((lq h.hi v).length:o)=d;omega,λi hi=>?_⟩)⟩ (λx J=>?_) h3;show(lp h.bH v).getD i 0<=(lq h.hi v).getD i 0;rw[Ui (by omega) (by omega),Uj (by omega) (by omega)];have:=IT i hi;omega;have fT:x∈(bF.mk h.aD h.bH h.hi h.cG (h.rows.map az.bz) (ks.map av.bA)).all:=J;obtain⟨g1,_⟩:=h2 x fT;refine⟨λ_ i eO=>?_,λe=>?_⟩;obtain⟨jk,z2⟩:=g1 fo i eO;have jx:=awz (a:=h.bH) (v:=v) (by omega) i;have lF:=awA (a:=h.hi) (v:=v) (by omega) i;exact⟨Int.le_trans jx jk,Int.le_trans z2 lF⟩;have:h.aD=3:=e;omega
def ra(h:er)(v:M o)(x:N):er:={h with bH:=(lp h.bH v).take x++h.bH.drop x,hi:=(lq h.hi v).take x++h.hi.drop x}
def spec.grow{ub u:H}{h:er}{tg:M N}{s:U}{Rest:H->Prop}(aA:Ints ub s v)(b9:ub.le u)(jc:hM u (h,tg))(bS:h.dv.Nodup)(ig:∀c∈h.dv,ub c=none)(Tr:∀r∈h.rows,Ints ub r.s r.v)(h1:h.bH.length=v.length)(h2:h.hi.length=v.length)(Sl:v.length<=64)
  (bX:∀u',hM u' (iK h v,tg)->(∀c z,u c=some z->c∉h.dv->u' c=some z)->(∀c,u c≠none->u' c≠none)->Rest u'):
  ∃Wy:(o->(H->Prop)),∃aeA:(o->(H->N)),(Wy 0 u)/\(∀nI:o,∀hb:H,(Wy nI hb)->((nI<(s.n:o))->∃akW:bc,(s.a=(some akW))/\((((0:o)<=nI)/\(nI<(s.n:o)))/\(∃Rg:o,((H.cell? hb (ev akW ((wC nI)*1)))=(some (cY .i64 Rg)))/\(∃akX:bc,((some (cB h.b 0 none))=(some akX))/\(∃akY:bc,((some (cB h.b 0 none))=(some akY))/\(∃sx:U,((H.cell? hb (ev akX 1))=(some (ec sx.a sx.n sx.c)))/\(∃ji:U,((H.cell? hb (ev akY 1))=(some (ec ji.a ji.n ji.c)))/\(∃akZ:bc,(ji.a=(some akZ))/\((((0:o)<=nI)/\(nI<(ji.n:o)))/\(∃aev:o,((H.cell? hb (ev akZ ((wC nI)*1)))=(some (cY .i64 aev)))/\(∃ak0:bc,(sx.a=(some ak0))/\((((0:o)<=nI)/\(nI<(sx.n:o)))/\(H.aO hb (ev ak0 ((wC nI)*1)) [(cY .i64 (ite (Rg<aev) Rg aev))] (λ(gT:H)=>∃ak1:bc,((some (cB h.b 0 none))=(some ak1))/\(∃ak2:bc,((some (cB h.b 0 none))=(some ak2))/\(∃HZ:U,((H.cell? gT (ev ak1 2))=(some (ec HZ.a HZ.n HZ.c)))/\(∃Qr:U,((H.cell? gT (ev ak2 2))=(some (ec Qr.a Qr.n Qr.c)))/\(∃ak3:bc,(Qr.a=(some ak3))/\((((0:o)<=nI)/\(nI<(Qr.n:o)))/\(∃aew:o,((H.cell? gT (ev ak3 ((wC nI)*1)))=(some (cY .i64 aew)))/\(∃ak4:bc,(HZ.a=(some ak4))/\((((0:o)<=nI)/\(nI<(HZ.n:o)))/\(H.aO gT (ev ak4 ((wC nI)*1)) [(cY .i64 (ite (Rg>aew) Rg aew))] (λ(Iv:H)=>(bo (nI+1))/\((Wy (nI+1) Iv)/\((aeA (nI+1) Iv)<(aeA nI hb)))))))))))))))))))))))))))/\((¬(nI<(s.n:o)))->Rest hb)):=by
 have dw:=aA.len
 have aN:∀g,(h.bi.aj=some g->g∈h.dv/\g≠h.b/\h.fp.aj≠some g/\h.sr.aj≠some g/\h.db.aj≠some g)/\(h.fp.aj=some g->g∈h.dv/\g≠h.b/\h.bi.aj≠some g/\h.sr.aj≠some g/\h.db.aj≠some g):=by
  intro g;unfold er.dv at bS ⊢;rw[hI] at bS;obtain⟨cM,c6⟩:=bS;rw[gh,gh,gh] at c6;obtain⟨⟨⟨_,_,da⟩,_,fk⟩,_,pZ⟩:=c6;refine⟨λW=>⟨by simp[W],λe=>cM (by rw[<-e];simp[W]),λe=>da g (by simp[W]) g (by simp[e]) rfl,λe=>fk g (by simp[W]) g (by simp[e]) rfl,λe=>pZ g (by simp[W]) g (by simp[e]) rfl⟩,
   λW=>⟨by simp[W],λe=>cM (by rw[<-e];simp[W]),λe=>da g (by simp[e]) g (by simp[W]) rfl,λe=>fk g (by simp[W]) g (by simp[e]) rfl,λe=>pZ g (by simp[W]) g (by simp[e]) rfl⟩⟩
 have e3:(lp h.bH v).length=h.bH.length:=wV h1
 have gg:(lq h.hi v).length=h.hi.length:=wV h2
 refine⟨λx w=>0<=x/\x<=v.length/\hM w (ra h v x.toNat,tg)/\(∀c z,u c=some z->c∉h.dv->w c=some z)/\(∀c,u c≠none->w c≠none),λx _=>((v.length:o)-x).toNat,⟨by omega,by omega,?_,λc z I _=>I,λc I=>I⟩,?_⟩
 have:ra h v (0:o).toNat=h:=by unfold ra;simp
 rw[this];exact jc
 rintro x w ⟨bL,dC,hw,eC,jU⟩
 have k0:ub.le w:=λc z I=>eC c z (b9 c z I) λe=>by rw[ig c e] at I;cases I
 refine⟨λJ=>?_,λJ=>?_⟩
 have eR:x.toNat<v.length:=by omega
 obtain⟨p,ad,Xg⟩:=(aA.mono k0).at (x:=x) bL J
 have zc:=hw.bH.f.ints
 have F3:=hw.hi.f.ints
 have aie:(ra h v x.toNat).bH.length=v.length:=by show((lp h.bH v).take x.toNat++h.bH.drop x.toNat).length=_;rw[ez,gZ,oH];omega
 have ahW:(ra h v x.toNat).hi.length=v.length:=by show((lq h.hi v).take x.toNat++h.hi.drop x.toNat).length=_;rw[ez,gZ,oH];omega
 have MW:(ra h v x.toNat).bH.getD x.toNat 0=h.bH.getD x.toNat 0:=Ws h1 (by omega)
 have MV:(ra h v x.toNat).hi.getD x.toNat 0=h.hi.getD x.toNat 0:=Ws h2 (by omega)
 have nl:h.bi.n=v.length:=by have jE:h.bi.n=_:=zc.len;rw[jE];exact aie
 have e8:h.fp.n=v.length:=by have jE:h.fp.n=_:=F3.len;rw[jE];exact ahW
 obtain⟨gX,gq,cl⟩:=zc.at (x:=x) bL (by show x<(h.bi.n:o);omega)
 obtain⟨dy,eY,I0⟩:=F3.at (x:=x) bL (by show x<(h.fp.n:o);omega)
 have gq:h.bi.a=some gX:=gq
 have eY:h.fp.a=some dy:=eY
 rw[MW] at cl
 rw[MV] at I0
 have fS:w h.b=some (.cells (eS (ra h v x.toNat)).toArray 213 (0,0)):=hw.cell
 have c1:w.cell? ((cB h.b 0 none).add 1)=some (.slice h.bi.a h.bi.n h.bi.c):=H.ba fS 1
 refine⟨p,ad,⟨bL,J⟩,_,Xg,_,rfl,_,rfl,h.bi,c1,h.bi,c1,gX,gq,⟨bL,by omega⟩,_,cl,gX,gq,⟨bL,by omega⟩,?_⟩
 refine aJ.store (enc:=encI) nO hw.bH.f (by decide) (i:=x.toNat) (by rw[aie];exact eR) (y:=if v.getD x.toNat 0<h.bH.getD x.toNat 0 then v.getD x.toNat 0 else h.bH.getD x.toNat 0) (by simp[encI,cT]) gq λgT ZZ Nz _=>?_
 have Nz:∀c z,w c=some z->h.bi.aj≠some c->gT c=some z:=Nz
 have ahm:gT h.b=some (.cells (eS (ra h v x.toNat)).toArray 213 (0,0)):=Nz _ _ fS λe=>((aN h.b).1 e).2.1 rfl
 have c2:gT.cell? ((cB h.b 0 none).add 2)=some (.slice h.fp.a h.fp.n h.fp.c):=H.ba ahm 2
 have ahY:Own gT 3 1 h.fp ((ra h v x.toNat).hi.flatMap encI):=hw.hi.le λc z I aa=>Nz c z aa λe=>((aN c).1 e).2.2.1 I
 have apa:gT.cell? (ev dy (x.toNat*1))=some (.int .i64 (h.hi.getD x.toNat 0)):=by obtain⟨lL,rp,fg⟩:=ahY.f.ints.at (x:=x) bL (by omega);rw[eY] at rp;obtain rfl:=cU rp;rw[MV] at fg;exact fg
 refine⟨_,rfl,_,rfl,h.fp,c2,h.fp,c2,dy,eY,⟨bL,by omega⟩,_,apa,dy,eY,⟨bL,by omega⟩,?_⟩
 refine aJ.store (enc:=encI) nO ahY.f (by decide) (i:=x.toNat) (by rw[ahW];exact eR) (y:=if v.getD x.toNat 0>h.hi.getD x.toNat 0 then v.getD x.toNat 0 else h.hi.getD x.toNat 0) (by simp[encI,cT]) eY λIv Z0 JG _=>?_
 have JG:∀c z,gT c=some z->h.fp.aj≠some c->Iv c=some z:=JG
 have aB:∀c z,w c=some z->h.bi.aj≠some c->h.fp.aj≠some c->Iv c=some z:=λc z I a b=>JG c z (Nz c z I a) b
 have el:(ra h v x.toNat).bH.set x.toNat (if v.getD x.toNat 0<h.bH.getD x.toNat 0 then v.getD x.toNat 0 else h.bH.getD x.toNat 0)=(ra h v (x+1).toNat).bH:=by rw[show(x+1).toNat=x.toNat+1 by omega];exact Wt (f:=λa x=>if x<a then x else a) h1 (by omega)
 have apO:(ra h v x.toNat).hi.set x.toNat (if v.getD x.toNat 0>h.hi.getD x.toNat 0 then v.getD x.toNat 0 else h.hi.getD x.toNat 0)=(ra h v (x+1).toNat).hi:=by rw[show(x+1).toNat=x.toNat+1 by omega];exact Wt (f:=λa x=>if x>a then x else a) h2 (by omega)
 rw[el] at ZZ
 rw[apO] at Z0
 have avb:ub.le Iv:=λc z I=>aB c z (k0 c z I) (λe=>by rw[ig c ((aN c).1 e).1] at I;cases I) (λe=>by rw[ig c ((aN c).2 e).1] at I;cases I)
 refine⟨⟨by omega,by omega⟩,⟨by omega,by omega,⟨?_,ZZ.own.le λc z I aa=>JG c z aa λe=>((aN c).1 I).2.2.1 e,Z0.own,hw.rws.le λc z I aa=>aB c z aa (λe=>((aN c).1 e).2.2.2.1 I) (λe=>((aN c).2 e).2.2.2.1 I),λr O=>(Tr r O).mono avb,br.else hw.lY λg z W aa=>aB g z aa (λe=>((aN g).1 e).2.2.2.2 W) (λe=>((aN g).2 e).2.2.2.2 W)⟩,λc z I hm=>aB c z (eC c z I hm) (λe=>hm ((aN c).1 e).1) (λe=>hm ((aN c).2 e).1),λc I=>?_⟩,by dsimp only;omega⟩
 exact JG _ _ ahm λe=>((aN h.b).2 e).2.1 rfl
 obtain⟨z,aa⟩:=e9.1 (jU c I)
 by_cases a:h.fp.aj=some c
 exact dE Z0 a
 by_cases b:h.bi.aj=some c
 obtain⟨b5,bP⟩:=e9.1 (dE ZZ b)
 rw[JG c b5 bP a];simp
 rw[aB c z aa b a];simp
 have:ra h v x.toNat=iK h v:=by unfold ra iK;rw[hR (by omega),hR (by omega),P1 (by omega),P1 (by omega),ly,ly]
 rw[this] at hw
 exact bX w hw eC jU
end
end kR
section
variable{aD d:o}{ub u u':H}{v:M o}{lQ bd:N->Prop}{n0 n:av}{aY:M kj}{h:er}
def av.od{s:o}(n:av)(h:∀x∈n.bM,x.1.aD=s):lG s n.bA:=by
 induction n using av.ind with
 |h n aM=>rw[av.hx];refine .mk (h (n.h,n.kids.map av.b) (by rw[av.iu];exact fW ..)) λk hk=>?_;obtain⟨Y,aC,rfl⟩:=bf.1 (show k∈n.kids.map av.bA from hk);exact aM Y aC λx J=>h x (by rw[av.iu];exact gi _ (ej.2 ⟨Y,aC,J⟩))
def av.alT{s:o}(n:av)(h:lG s n.bA):∀x∈n.bM,x.1.aD=s:=by
 induction n using av.ind with
 |h n aM=>rw[av.hx] at h;intro x J;rw[av.iu] at J;rcases cJ.1 J with rfl|J;exact h.aD;obtain⟨Y,aC,J⟩:=ej.1 J;exact aM Y aC (h.kids _ (h7 aC)) x J
structure Way(aD:o)(ub u:H)(d:o)(v:M o)(lQ bd:N->Prop)(n0:av)(aY:M kj)(n:av):Prop where
 base:ub.le u
 one:∀x∈n.bM++jD aY n.b,hM u x
 nodup:((n.bM++jD aY n.b).flatMap λx=>x.1.dv).Nodup
 out:∀c∈(n.bM++jD aY n.b).flatMap (λx=>x.1.dv),ub c=none/\u c≠none/\lQ c
 known:∀c,ub c≠none->lQ c
 vec:∀x∈n.bM++jD aY n.b,∀r∈x.1.rows,Ints ub r.s r.v/\∀g,r.s.aj=some g->bd g
 ok:ga d (mN aY n).bA
 ins:∀f∈aY,mZ f.hA v
 box:∀x∈n.bM++jD aY n.b,x.1.aD=aD
 all:(mN aY n).bA.all.Perm n0.bA.all
 len:(mN aY n).bM.length=n0.bM.length
 b:(mN aY n).b=n0.b
def Way.start(base:ub.le u)(known:∀c,ub c≠none->lQ c)(one:∀x∈n.bM,hM u x)(nodup:n.own.Nodup)(out:∀c∈n.own,ub c=none/\u c≠none/\lQ c)
  (vec:∀x∈n.bM,∀r∈x.1.rows,Ints ub r.s r.v/\∀g,r.s.aj=some g->bd g) (ok:ga d n.bA) (fo:lG aD n.bA):Way aD ub u d v lQ bd n [] n:=by
 have e:n.bM++jD [] n.b=n.bM:=by rw[jD,ly]
 exact⟨base,by rw[e];exact one,by rw[e];exact nodup,by rw[e];exact out,known,by rw[e];exact vec,ok,λf Z=>(by cases Z),by rw[e];exact n.alT fo,.refl _,rfl,rfl⟩
def Way.lY{pre post:M av}{k:av}(w:Way aD ub u d v lQ bd n0 aY (.mk h (pre++k::post)))(hi:mZ (kj.hA ⟨h,pre,post⟩) v):Way aD ub u d v lQ bd n0 (⟨h,pre,post⟩::aY) k:=by
 have ad:((av.mk h (pre++k::post)).bM++jD aY h.b).Perm (k.bM++jD (⟨h,pre,post⟩::aY) k.b):=by rw[jD,<-n5];exact(af5 ⟨h,pre,post⟩ k).append_right _
 exact⟨w.base,λx J=>w.one x (ad.mem_iff.2 J),(ad.flatMap_right _).nodup_iff.1 w.nodup,λc I=>w.out c ((ad.flatMap_right _).mem_iff.2 I),w.known,λx J=>w.vec x (ad.mem_iff.2 J),w.ok,λf Z=>by rcases cJ.1 Z with rfl|Z;exact hi;exact w.ins f Z,λx J=>w.box x (ad.mem_iff.2 J),w.all,w.len,w.b⟩
def Way.head{ks:M av}(w:Way aD ub u d v lQ bd n0 aY (.mk h ks)):
  hM u (h,ks.map av.b)/\h.dv.Nodup/\(∀c∈h.dv,ub c=none/\u c≠none/\lQ c)/\(∀r∈h.rows,Ints ub r.s r.v/\∀g,r.s.aj=some g->bd g)/\h.aD=aD:=by
 have hm:(h,ks.map av.b)∈(av.mk h ks).bM++jD aY (av.mk h ks).b:=by rw[av.bM];exact iQ _ (fW ..)
 have ae:=w.nodup
 rw[av.bM,zN,gy,gh] at ae
 exact⟨w.one _ hm,ae.1,λc I=>w.out c (ej.2 ⟨_,hm,I⟩),w.vec _ hm,w.box _ hm⟩
def Way.else(w:Way aD ub u d v lQ bd n0 aY n)(eC:∀c z,u c=some z->lQ c->c∉n.own->u' c=some z):
  ub.le u'/\(∀x∈jD aY n.b,hM u' x)/\(∀c∈(jD aY n.b).flatMap (λx=>x.1.dv),(ub c=none/\lQ c)/\u' c≠none/\c∉n.own)/\((jD aY n.b).flatMap λx=>x.1.dv).Nodup:=by
 have ae:=w.nodup
 rw[hz,gh] at ae
 obtain⟨_,h2,h3⟩:=ae
 have aa:∀c∈n.own,ub c=none:=λc I=>(w.out c (by rw[hz];exact iQ _ I)).1
 have ab:ub.le u':=λc z I=>eC c z (w.base c z I) (w.known c (by rw[I];simp)) λhm=>by rw[aa c hm] at I;cases I
 have Z:∀c∈(jD aY n.b).flatMap (λx=>x.1.dv),c∉n.own:=λc I hm=>h3 c hm c I rfl
 refine⟨ab,λx J=>(w.one x (lz _ J)).bN (λc z I aa=>eC c z aa (w.out c (by rw[hz];exact lz _ (ej.2 ⟨x,J,I⟩))).2.2 (Z c (ej.2 ⟨x,J,I⟩))) λr O=>((w.vec x (lz _ J) r O).1).mono ab,λc I=>?_,h2⟩
 obtain⟨c6,da,fk⟩:=w.out c (by rw[hz];exact lz _ I)
 obtain⟨z,bP⟩:=e9.1 da
 exact⟨⟨c6,fk⟩,by rw[eC c z bP fk (Z c I)];simp,Z c I⟩
def Way.eP{bQ:er}{ks:M av}(w:Way aD ub u d v lQ bd n0 aY (.mk h ks))(ab:bQ.dv=h.dv)(O:bQ.rows=h.rows)(ag:bQ.aD=h.aD)
  (jc:hM u' (bQ,ks.map av.b)) (eC:∀c z,u c=some z->c∉h.dv->u' c=some z) (jU:∀c,u c≠none->u' c≠none) (bE:ga d (av.mk bQ ks).bA):Way aD ub u' d v lQ bd n0 aY (.mk bQ ks):=by
 have sW:bQ.b=h.b:=(List.cons.inj ab).1
 have ae:=w.nodup
 rw[av.bM,zN,gy] at ae
 have ft:=(gh.1 ae).2.2
 have sub:∀x∈av.mH ks++jD aY h.b,x∈(av.mk h ks).bM++jD aY (av.mk h ks).b:=λx J=>by rw[av.bM,zN];exact gi _ J
 have eB:∀x∈av.mH ks++jD aY h.b,∀c∈x.1.dv,c∉h.dv:=λx J c I hm=>ft c hm c (ej.2 ⟨x,J,I⟩) rfl
 have aa:∀c∈h.dv,ub c=none:=λc I=>(w.head.2.2.1 c I).1
 have y2:ub.le u':=λc z I=>eC c z (w.base c z I) λhm=>by rw[aa c hm] at I;cases I
 have ab3:∀x,x∈(av.mk bQ ks).bM++jD aY (av.mk bQ ks).b->x=(bQ,ks.map av.b)∨x∈av.mH ks++jD aY h.b:=λx J=>by rw[av.bM,zN,show(av.mk bQ ks).b=h.b from sW] at J;exact cJ.1 J
 have af7:((av.mk bQ ks).bM++jD aY (av.mk bQ ks).b).flatMap (λx=>x.1.dv)=((av.mk h ks).bM++jD aY (av.mk h ks).b).flatMap (λx=>x.1.dv):=by rw[av.bM,av.bM,zN,zN,gy,gy,show(av.mk bQ ks).b=h.b from sW,show(av.mk h ks).b=h.b from rfl];show bQ.dv++_=h.dv++_;rw[ab]
 have dX:(av.mk bQ ks).bA.all=(av.mk h ks).bA.all:=by rw[av.tm,av.tm,av.bM,av.bM,gy,gy];show bQ.rows.map az.bz++_=h.rows.map az.bz++_;rw[O]
 refine⟨y2,λx J=>?_,by rw[af7];exact w.nodup,λc I=>?_,w.known,λx J=>?_,acz aY w.ok bE λx J=>.inl (by rw[<-dX];exact J),w.ins,λx J=>?_,?_,?_,?_⟩
 rcases ab3 x J with rfl|J
 exact jc
 exact(w.one x (sub x J)).bN (λc z I bP=>eC c z bP (eB x J c I)) λr dG=>((w.vec x (sub x J) r dG).1).mono y2
 rw[af7] at I
 obtain⟨c6,da,fk⟩:=w.out c I
 exact⟨c6,jU c da,fk⟩
 rcases ab3 x J with rfl|J
 intro r dG
 exact w.head.2.2.2.1 r (by rw[<-O];exact dG)
 exact w.vec x (sub x J)
 rcases ab3 x J with rfl|J
 exact ag.trans w.head.2.2.2.2
 exact w.box x (sub x J)
 refine(KS aY _).trans (.trans ?_ ((KS aY (.mk h ks)).symm.trans w.all))
 rw[dX,show(av.mk bQ ks).b=h.b from sW,show(av.mk h ks).b=h.b from rfl]
 rw[(Hq aY _).length_eq,<-w.len,(Hq aY (.mk h ks)).length_eq,show(av.mk bQ ks).b=h.b from sW,show(av.mk h ks).b=h.b from rfl]
 simp[av.bM]
 rw[<-w.b]
 exact acy aY sW
structure Down(aD:o)(ub u':H)(d:o)(e:j2)(lQ:N->Prop)(bd:az->Prop)(n0 r:av)(more:N):Prop where
 one:∀x∈r.bM,hM u' x
 nodup:r.own.Nodup
 own:∀c∈r.own,(ub c=none/\lQ c)/\u' c≠none
 rws:∀x∈r.bM,∀y∈x.1.rows,bd y
 all:r.bA.all.Perm (e::n0.bA.all)
 ok:ga d r.bA
 od:lG aD r.bA
 size:r.bM.length<=n0.bM.length+more
 b:r.b=n0.b
 le:ub.le u'
def Way.down{n':av}{id:o}{more:N}{sG:az->Prop}(w:Way aD ub u d v lQ bd n0 aY n)(ab:n'.b=n.b)(o9:∀x∈n'.bM,hM u' x)(bS:n'.own.Nodup)
  (eC:∀c z,u c=some z->lQ c->c∉n.own->u' c=some z) (oz:∀c∈n'.own,(c∈n.own∨(u c=none/\lQ c))/\u' c≠none) (gl:∀x∈n'.bM,∀y∈x.1.rows,sG y) (FH:∀y:az,(∀g,y.s.aj=some g->bd g)->sG y)
  (dX:n'.bA.all.Perm ((id,v)::n.bA.all)) (bE:ga d n'.bA) (fo:lG aD n'.bA) (hm:n'.bM.length<=n.bM.length+more):Down aD ub u' d (id,v) lQ sG n0 (mN aY n') more:=by
 obtain⟨h1,h2,h3,a7⟩:=w.else eC
 have ad:=Hq aY n'
 have Z6:=Hq aY n
 have aac:=axx aY n'
 rw[ab] at ad aac
 have avE:∀c∈n.own,ub c=none/\lQ c:=λc I=>(λY=>⟨Y.1,Y.2.2⟩) (w.out c (by rw[hz];exact iQ _ I))
 have apl:∀c∈(jD aY n.b).flatMap (λx=>x.1.dv),u c≠none:=λc I=>(w.out c (by rw[hz];exact lz _ I)).2.1
 refine⟨λx J=>?_,?_,λc I=>?_,λx J=>?_,?_,acz aY w.ok bE λx J=>?_,av.od _ λx J=>?_,?_,(acy aY ab).trans w.b,h1⟩
 rcases cN.1 (ad.mem_iff.1 J) with J|J
 exact o9 x J
 exact h2 x J
 rw[aac.nodup_iff,gh]
 refine⟨bS,a7,λc I ni c9 e=>?_⟩
 subst e
 rcases(oz c I).1 with h|h
 exact(h3 c c9).2.2 h
 exact apl c c9 h.1
 rcases cN.1 (aac.mem_iff.1 I) with I|I
 obtain⟨cM,c6⟩:=oz c I
 exact⟨cM.elim (avE c) λh=>⟨w.base.none h.1,h.2⟩,c6⟩
 obtain⟨cM,da,_⟩:=h3 c I
 exact⟨cM,da⟩
 rcases cN.1 (ad.mem_iff.1 J) with J|J
 exact gl x J
 exact λy ah=>FH y (w.vec x (lz _ J) y ah).2
 have aS:=KS aY n'
 have aB:=(KS aY n).symm.trans w.all
 rw[ab] at aS
 exact aS.trans ((dX.append_right _).trans (kc _ aB))
 rcases cJ.1 (dX.mem_iff.1 J) with rfl|J
 exact .inr w.ins
 exact .inl J
 rcases cN.1 (ad.mem_iff.1 J) with J|J
 exact n'.alT fo x J
 exact w.box x (lz _ J)
 rw[<-w.len,ad.length_eq,Z6.length_eq,ez,ez]
 omega
end
namespace kR
section
variable{h:er}{b:N}{u ai:H}{s:U}{v:M o}{d:o}
structure tP(ai u:H)(af:N->ay bp)(b:N)(T:aQ)(id:o)(v:M o)(u':H)(aX:N->ay bp)(bt:aQ):Prop where
 is:In ai u' aX b bt
 eP:hN u af u' aX
 ok:dS bt
 rows:(aR bt).Perm ((id,v)::(aR T).filter λx=>x.1 !=id)
 an:bt.an=T.an
 leaf:bt.leaf=T.leaf
 eV:bt.eV<=T.eV+1
structure EQ(aU:H)(af:N->ay bp)(b:N)(T:aQ)(id:o)(s:U)(v:M o)(u':H)(r:av):Prop where
 cell:u' b=some (.cells (fj {T with root:=some r}).toArray 169 (0,0))
 map:fx u' T.m (ea (T.w++ [(id,(s,v))]))
 sv:Ints u' s v
 db:∀g,s.aj=some g->aU g=none/\u' g≠none
 bN:∀c z,aU c=some z->af c=none∨af c=some .vec->u' c=some z
 kn:∀c,aU c≠none->af c≠some .node->u' c≠none
 one:∀x∈r.bM,hM u' x
 nodup:r.own.Nodup
 own:∀c∈r.own,(af c=some .node∨(aU c=none/\s.aj≠some c))/\u' c≠none
 rws:∀x∈r.bM,∀y∈x.1.rows,∀g,y.s.aj=some g->af g=some .vec∨s.aj=some g
 all:r.bA.all.Perm ((id,v)::lA T)
 ok:ga T.an r.bA
 od:lG 2 r.bA
 size:r.bM.length<=1100*(T.eV+1)+2000
def EQ.ade{aU u':H}{af:N->ay bp}{T:aQ}{id:o}{r:av}(f:EQ aU af b T id s v u' r)(h:In ai aU af b T)(aT:dS T)(ch:1<=id/\id<=1000000000)(aA:(v.length:o)=T.an/\dj v)(ar:T.w.length<512):
  ∃aX bt,In ai u' aX b bt/\hN aU af u' aX/\dS bt/\(aR bt).Perm ((id,v)::aR T)/\bt.an=T.an/\bt.leaf=T.leaf/\bt.eV<=T.eV+1:=by
 obtain⟨bt,et⟩:∃bt:aQ,bt={T with root:=some r,w:=T.w++ [(id,(s,v))],eV:=T.eV+1}:=⟨_,rfl⟩
 obtain⟨aX,hV⟩:∃aX:N->ay bp,aX=λc=>open Classical in if c∈r.own then some .node else if s.aj=some c then some .vec else if af c=some .node then none else af c:=⟨_,rfl⟩
 have cM:∀c∈r.own,aX c=some .node:=λc I=>by rw[hV];exact a1 I
 have c6:∀c,s.aj=some c->aX c=some .vec:=λc I=>by
  have dV:c∉r.own:=λhm=>by rcases(f.own c hm).1 with e|e;exact h.known c (by rw[e];simp) (f.db c I).1;exact e.2 I
  rw[hV];show(if c∈r.own then _ else _)=_;rw[aF dV,a1 I]
 have da:∀c t,af c=some t->t≠.node->aX c=some t:=λc t I ht=>by
  have hk:=h.known c (by rw[I];simp);have dV:c∉r.own:=λhm=>by rcases(f.own c hm).1 with e|e;rw[I] at e;exact ht (cU e);exact hk e.1
  have xF:s.aj≠some c:=λe=>hk (f.db c e).1;rw[hV];show(if c∈r.own then _ else _)=_;rw[aF dV,aF xF,aF (by rw[I];exact λe=>ht (cU e)),I]
 have fk:∀c,aX c≠none->c∈r.own∨s.aj=some c∨(af c≠none/\af c≠some .node):=λc I=>by by_cases aS:c∈r.own;exact .inl aS;by_cases aB:s.aj=some c;exact .inr (.inl aB);by_cases cW:af c=some .node;exact aW (by rw[hV];show(if c∈r.own then _ else _)=_;rw[aF aS,aF aB,a1 cW]) I;refine .inr (.inr ⟨λe=>I ?_,cW⟩);rw[hV];show(if c∈r.own then _ else _)=_;rw[aF aS,aF aB,aF cW,e]
 have aI:=h.aI
 refine⟨aX,bt,⟨⟨by rw[et];exact f.cell,da _ _ aI.dN (by simp),by rw[et];exact f.map,by rw[et];exact da _ _ aI.dn (by simp),λe he=>?_,λn ae=>?_⟩,λc z I=>?_,λc I=>?_,λc I=>?_⟩,⟨λc z I Z=>f.bN c z I (.inl Z),λc I=>?_⟩,
  ⟨by rw[et];exact aT.hl,by rw[et];exact aT.BF,λe he=>?_,λe he=>?_,?_,?_,λn ae=>?_,λn ae=>?_,λn ae=>?_⟩,?_,by rw[et],by rw[et],by rw[et];exact cA _⟩
 rw[et] at he
 rcases cN.1 he with he|he
 obtain⟨v1,v2⟩:=aI.vec e he
 exact⟨br.else v1 λg z W aa=>f.bN g z aa (.inr (v2 g W)),λg W=>da g _ (v2 g W) (by simp)⟩
 rw[fV.1 he]
 exact⟨f.sv,c6⟩
 rw[et] at ae
 obtain rfl:=cU ae
 exact⟨f.one,f.nodup,cM,λx J y ah g W=>(f.rws x J y ah g W).elim (λe=>da g _ e (by simp)) λe=>c6 g e⟩
 refine f.bN c z (h.le c z I) (.inl ?_)
 cases e:af c with
 |none=>rfl
 |some t=>have:=h.out c (by rw[e];simp);rw[I] at this;cases this
 rcases fk c I with e|e|e
 rcases(f.own c e).1 with e|e
 exact h.out c (by rw[e];simp)
 exact h.le.none e.1
 exact h.le.none (f.db c e).1
 exact h.out c e.1
 rcases fk c I with e|e|e
 exact(f.own c e).2
 exact(f.db c e).2
 exact f.kn c (h.known c e.1) e.2
 rcases fk c I with e|e|e
 rcases(f.own c e).1 with e|e
 exact .inl (by rw[e];simp)
 exact .inr e.1
 exact .inr (f.db c e).1
 exact .inl e.1
 rw[et] at he
 rcases cN.1 he with he|he
 exact aT.ids e he
 rw[fV.1 he];exact ch
 rw[et] at he ⊢
 rcases cN.1 he with he|he
 exact aT.vec e he
 rw[fV.1 he];exact aA
 rw[et]
 show(T.w++ [(id,(s,v))]).length<=512
 rw[ez]
 simp only[hX,mi]
 omega
 rw[et]
 show r.bA.all.Perm ((T.w++ [(id,(s,v))]).map λe=>(e.1,e.2.2))
 rw[ek]
 exact f.all.trans ((kc _ aT.rows).trans (mR _ _).symm)
 rw[et] at ae ⊢
 obtain rfl:=cU ae
 exact f.ok
 rw[et] at ae
 obtain rfl:=cU ae
 exact f.od
 rw[et] at ae ⊢
 obtain rfl:=cU ae
 exact f.size
 rw[et]
 show((T.w++ [(id,(s,v))]).map λe=>(e.1,e.2.2)).Perm _
 rw[ek]
 exact mR _ _
def rY(h:er):h.dv.Perm (h.sr.aj.toList++(h.b::(h.bi.aj.toList++h.fp.aj.toList++h.db.aj.toList))):=by unfold er.dv;refine wy (kc _ ?_) B4.symm;generalize h.bi.aj.toList++h.fp.aj.toList=a;generalize h.sr.aj.toList=r;generalize h.db.aj.toList=k;rw[n5];exact ac0 a r k
def WS(ae:h.dv.Nodup)(rows:M az)(ag:∀g,s.aj=some g->h.sr.aj=some g∨g∉h.dv):({h with sr:=s,rows:=rows}:er).dv.Nodup:=by
 have h1:=(rY h).nodup_iff.1 ae;rw[(rY _).nodup_iff];rw[gh] at h1 ⊢;obtain⟨_,h3,a7⟩:=h1;refine⟨?_,h3,λc I ni c9 e=>?_⟩;show s.aj.toList.Nodup;cases s.aj<;>simp;subst e;have I:s.aj=some c:=by simpa using I
 rcases ag c I with bK|bK;exact a7 c (by rw[bK];simp) c c9 rfl;exact bK ((rY h).mem_iff.2 (lz _ c9))
def abQ(ad:ga d (av.mk h []).bA){id:o}{sv:U}(b6:mZ ((av.mk h []).bA.hA []) v):ga d (av.mk {h with sr:=s,rows:=h.rows++ [⟨id,sv,v⟩]} []).bA/\(av.mk {h with sr:=s,rows:=h.rows++ [⟨id,sv,v⟩]} []).bA.all.Perm ((id,v)::(av.mk h []).bA.all):=by
 have aS:(av.mk {h with sr:=s,rows:=h.rows++ [⟨id,sv,v⟩]} []).bA.all=(av.mk h []).bA.all++ [(id,v)]:=by rw[av.tm,av.tm,av.bM,av.bM,av.mH];simp[az.bz]
 have h1:=ad.kd;have h2:=ad.ins;refine⟨.mk h1 (λx J=>?_) λk hk=>(by rw[av.hx] at hk;cases hk),by rw[aS];exact mR _ _⟩;rw[aS] at J;rcases cN.1 J with J|J;exact h2 x J;rw[fV.1 J];exact b6
def adK{h1 h2:er}{p:N}(I:u p=some (.cells (eS h1).toArray 213 (0,0))){f:H->Prop}(Z:f (u.ins p (.cells (eS h2).toArray 213 (0,0)))):
  H.aO u (cB p 0 none) [.int .i64 h2.aD,.slice h2.bi.a h2.bi.n h2.bi.c,.slice h2.fp.a h2.fp.n h2.fp.c,.int .u64 (dk h2.cG),.int .u64 (dr h2.cG),.slice none 0 0,.slice h2.sr.a h2.sr.n h2.sr.c,.slice h2.db.a h2.db.n h2.db.c] f:=
 ⟨_,_,I,rfl,by simp[eS],by simp[cT],by
  have e:wr (eS h1).toArray 0 [.int .i64 h2.aD,.slice h2.bi.a h2.bi.n h2.bi.c,.slice h2.fp.a h2.fp.n h2.fp.c,.int .u64 (dk h2.cG),.int .u64 (dr h2.cG),.slice none 0 0,.slice h2.sr.a h2.sr.n h2.sr.c,.slice h2.db.a h2.db.n h2.db.c]=(eS h2).toArray:=by simp[wr,eS]
  show f (u.ins p (.cells (wr (eS h1).toArray 0 _) _ (0,0)));rw[e];exact Z⟩
def spec.leaf{ub:H}{leaf:o}{bd:N->Prop}{n0:av}{aY:M kj}{id:o}{sv:U}{Fin:H->Prop}(w:Way 2 ub u d v (λ_=>True) bd n0 aY (.mk h []))(A5:1<=leaf)(LI:ub.cell? ⟨b,0,none⟩=some (.int .i64 d))(qU:ub.cell? ((cB b 0 none).add 1)=some (.int .i64 leaf))
  (Kg:Ints ub sv v) (fz:hD (h.rows++ [⟨id,sv,v⟩]) d) (b6:mZ ((av.mk h []).bA.hA []) v) (uo:∀u' r,Down 2 ub u' d (id,v) (λ_=>True) (λy=>∀g,y.s.aj=some g->bd g∨sv.aj=some g) n0 r 1100->Fin u'):
  ∃ak5:bc,((some (cB h.b 0 none))=(some ak5))/\(∃Ly:U,((H.cell? u (ev ak5 6))=(some (ec Ly.a Ly.n Ly.c)))/\(dd aH (dL 22 1 #[(0,(c3 #[(cY cq id),(ec sv.a sv.n sv.c)]))]) [(bg.one aL.slice)] u (λ(Cb:U) (Iw:H)=>(H.le u Iw)/\(dd aH (ey #[22,22] 22 #[(ec Ly.a Ly.n Ly.c),(ec Cb.a Cb.n Cb.c)]) [(bg.one aL.slice)] Iw (λ(H2:U) (u64:H)=>∃Qh:bc,((some (cB h.b 0 none))=(some Qh))/\(H.aO u64 (ev Qh 6) [(ec H2.a H2.n H2.c)] (λ(hK:H)=>∃Qi:bc,((some (cB h.b 0 none))=(some Qi))/\(∃Qj:bc,((some (cB b 0 none))=(some Qj))/\(∃yl:U,((H.cell? hK (ev Qi 6))=(some (ec yl.a yl.n yl.c)))/\(∃ID:o,((H.cell? hK (ev Qj 1))=(some (cY cq ID)))/\(((ID<(yl.n:o))->∃Qk:bc,((some (cB h.b 0 none))=(some Qk))/\(∃ym:U,((H.cell? hK (ev Qk 6))=(some (ec ym.a ym.n ym.c)))/\(C.DT (some (cB b 0 none)) ym hK (λ(acv:(ay bc)) (kg:H)=>∃pu:bc,(acv=(some pu))/\(∃Rh:o,((H.cell? kg pu)=(some (cY cq Rh)))/\(∃u6:U,((H.cell? kg (ev pu 1))=(some (ec u6.a u6.n u6.c)))/\(∃u7:U,((H.cell? kg (ev pu 2))=(some (ec u7.a u7.n u7.c)))/\(∃Ri:o,((H.cell? kg (ev pu 3))=(some (cY bR Ri)))/\(∃Rj:o,((H.cell? kg (ev pu 4))=(some (cY bR Rj)))/\(∃u9:U,((H.cell? kg (ev pu 5))=(some (ec u9.a u9.n u9.c)))/\(∃va:U,((H.cell? kg (ev pu 6))=(some (ec va.a va.n va.c)))/\(∃qR:U,((H.cell? kg (ev pu 7))=(some (ec qR.a qR.n qR.c)))/\(∃Ql:bc,((some (cB h.b 0 none))=(some Ql))/\(H.aO kg Ql [(cY cq Rh),(ec u6.a u6.n u6.c),(ec u7.a u7.n u7.c),(cY bR Ri),(cY bR Rj),(ec u9.a u9.n u9.c),(ec va.a va.n va.c),(ec qR.a qR.n qR.c)] (λ(og:H)=>Fin og)))))))))))))))/\((¬(ID<(yl.n:o)))->Fin hK)))))))))))):=by
 obtain⟨jc,bS,ig,ln,fo⟩:=w.head
 obtain⟨h1,F1⟩:∃h1:er,h1=h:=⟨_,rfl⟩
 have fS:u h.b=some (.cells (eS h).toArray 213 (0,0)):=jc.cell
 have hO:aJ ub u 52 2 h.sr (h.rows.flatMap cR):=⟨jc.rws,w.base,λg W=>(ig g (by simp[er.dv,W])).1⟩
 have dw:h.sr.n=h.rows.length:=gW fI (by decide) hO.own.cE
 have kX:=fz.len
 rw[ez] at kX
 simp only[hX,mi] at kX
 have aN:h.sr.aj≠some h.b:=λe=>by have h1:=(rY h).nodup_iff.1 bS;rw[gh] at h1;exact h1.2.2 h.b (by rw[e];simp) h.b (fW ..) rfl
 have Gt:∀g,(h.bi.aj=some g∨h.fp.aj=some g∨h.db.aj=some g)->g∈h.dv/\g≠h.b/\h.sr.aj≠some g:=λg W=>by
  have h1:=(rY h).nodup_iff.1 bS;rw[gh] at h1;have h2:g∈h.bi.aj.toList++h.fp.aj.toList++h.db.aj.toList:=by rw[cN,cN];rcases W with e|e|e;exact .inl (.inl (by rw[e];simp));exact .inl (.inr (by rw[e];simp));exact .inr (by rw[e];simp)
  exact⟨(rY h).mem_iff.2 (lz _ (gi _ h2)),λe=>(hI.1 h1.2.1).1 (by rw[<-e];exact h2),λe=>h1.2.2 g (by rw[e];simp) g (gi _ h2) rfl⟩
 refine⟨_,rfl,h.sr,H.ba fS 6,?_⟩
 refine Aa kF (yM id sv) (by decide) rfl (by simp[cT]) hO (by omega) (by rw[dw];show(h.rows.length+1)*_<=_;omega) λaq u64 bP hW gf eu _=>?_
 have bP:aJ ub u64 52 2 aq ((h.rows++ [(⟨id,sv,v⟩:az)]).flatMap cR):=by rw[hz];exact bP
 have sc:aq.aj≠some h.b:=λe=>by rcases eu _ e with e|e;exact aN e;rw[fS] at e;cases e
 have YT:u64 h.b=some (.cells (eS h).toArray 213 (0,0)):=gf _ _ fS aN
 refine⟨_,rfl,VJ YT aq (h.rows++ [⟨id,sv,v⟩]) ?_⟩
 obtain⟨g1,iv⟩:∃g1:er,g1={h with sr:=aq,rows:=h.rows++ [⟨id,sv,v⟩]}:=⟨_,rfl⟩
 have MP:g1.b=h.b:=by rw[iv]
 rw[<-iv]
 obtain⟨hK,GH⟩:∃hK,hK=u64.ins h.b (.cells (eS g1).toArray 213 (0,0)):=⟨_,rfl⟩
 rw[<-GH]
 have w6:hK h.b=some (.cells (eS g1).toArray 213 (0,0)):=by rw[GH];exact H.bh _ _ _
 have f66:∀c z,u64 c=some z->c≠h.b->hK c=some z:=λc z I al=>by rw[GH,H.bq _ _ al];exact I
 have Fi:∀c z,u c=some z->c≠h.b->h.sr.aj≠some c->hK c=some z:=λc z I h2 h3=>f66 c z (gf c z I h3) h2
 have wb:h.b∈h.dv:=fW ..
 have zv:∀{g},h.sr.aj=some g->g∈h.dv:=λ{g} e=>by simp[er.dv,e]
 have w9:∀c z,u c=some z->c∉h.dv->hK c=some z:=λc z I hm=>Fi c z I (λe=>hm (by rw[e];exact wb)) λe=>hm (zv e)
 have Bt:ub.le hK:=λc z I=>w9 c z (w.base c z I) λhm=>by rw[(ig c hm).1] at I;cases I
 have Hn:aJ ub hK 52 2 aq ((h.rows++ [(⟨id,sv,v⟩:az)]).flatMap cR):=⟨bP.own.le λc z I aa=>f66 c z aa λe=>sc (by rw[<-e];exact I),Bt,bP.fresh⟩
 have Mm:hK.cell? ((cB h.b 0 none).add 6)=some (.slice aq.a aq.n aq.c):=by
  have:g1.sr=aq:=by rw[iv]
  have jE:hK.cell? ((cB h.b 0 none).add 6)=some (.slice g1.sr.a g1.sr.n g1.sr.c):=H.ba w6 6;rw[this] at jE;exact jE
 have si:(av.mk h []).own=h.dv:=by unfold av.own;rw[av.bM,av.mH];simp
 have sf:∀r∈h.rows++ [(⟨id,sv,v⟩:az)],Ints ub r.s r.v/\∀g,r.s.aj=some g->bd g∨sv.aj=some g:=λr O=>by rcases cN.1 O with O|O;exact⟨(ln r O).1,λg W=>.inl ((ln r O).2 g W)⟩;rw[fV.1 O];exact⟨Kg,λg W=>.inr W⟩
 refine⟨_,rfl,_,rfl,aq,Mm,leaf,H.le.cell Bt qU,λ_=>?_,λ_=>?_⟩
 obtain⟨mV,oC⟩:∃mV,mV=H.nC hK aq:=⟨_,rfl⟩
 have BJ:ub.le mV:=λc z I=>by rw[oC,nD (λe=>by rw[bP.fresh c e] at I;cases I)];exact Bt c z I
 refine⟨_,rfl,aq,Mm,spec.cut (ub:=mV) A5 (H.le.cell BJ LI) (H.le.cell BJ qU) ⟨Hn.own,by rw[oC];exact Eo _ _,λg W=>by rw[oC];exact a1 W⟩ (λr O=>((sf r O).1).mono BJ) fz (λe=>aW e (by simp)) λ_ kg eb I aat=>?_⟩
 obtain⟨bU,dx⟩:=eb
 have o9:=I.one (bU,dx.map av.b) (by rw[av.bM];exact fW ..)
 have lV:kg bU.b=some (.cells (eS bU).toArray 213 (0,0)):=o9.cell
 refine⟨_,rfl,_,H.ba lV 0,bU.bi,H.ba lV 1,bU.fp,H.ba lV 2,_,H.ba lV 3,_,H.ba lV 4,⟨none,0,0⟩,H.ba lV 5,bU.sr,H.ba lV 6,bU.db,H.ba lV 7,_,rfl,?_⟩
 have W3:kg h.b=some (.cells (eS g1).toArray 213 (0,0)):=I.tY _ _ w6 sc
 refine adK (h2:=bU) W3 ?_
 obtain⟨g2,gQ⟩:∃g2:er,g2={bU with b:=h.b}:=⟨_,rfl⟩
 have Xw:eS bU=eS g2:=by rw[gQ];rfl
 rw[Xw]
 obtain⟨og,Bs⟩:∃og,og=kg.ins h.b (.cells (eS g2).toArray 213 (0,0)):=⟨_,rfl⟩
 rw[<-Bs]
 have q6:∀c z,kg c=some z->c≠h.b->og c=some z:=λc z c9 al=>by rw[Bs,H.bq _ _ al];exact c9
 have A8:h.b∉(av.mk bU dx).own:=λhm=>by have:=(I.out _ hm).1;rw[oC,nD sc,w6] at this;cases this
 have BP:(av.mk bU dx).own=bU.b::((bU.bi.aj.toList++bU.fp.aj.toList++bU.sr.aj.toList++bU.db.aj.toList)++dx.flatMap av.own):=by rw[av.rG];rfl
 have PJ:(av.mk g2 dx).own=h.b::((bU.bi.aj.toList++bU.fp.aj.toList++bU.sr.aj.toList++bU.db.aj.toList)++dx.flatMap av.own):=by rw[av.rG,gQ];rfl
 have FP:(av.mk g2 dx).bM=(g2,dx.map av.b)::av.mH dx:=by rw[av.bM]
 have xp:(av.mk bU dx).bM=(bU,dx.map av.b)::av.mH dx:=by rw[av.bM]
 have D3:(av.mk g2 dx).bA=(av.mk bU dx).bA:=by rw[av.hx,av.hx,gQ];rfl
 have nW:=I.nodup
 have adO:∀c∈(av.mk g2 dx).own,c=h.b∨c∈(av.mk bU dx).own:=λc cH=>by rw[PJ] at cH;rcases cJ.1 cH with e|e;exact .inl e;exact .inr (by rw[BP];exact gi _ e)
 have MB:∀c z,u c=some z->c∉(av.mk h []).own->og c=some z:=λc z c9 hm=>by rw[si] at hm;refine q6 c z (I.tY c z (w9 c z c9 hm) λe=>?_) λe=>hm (by rw[e];exact wb);rcases eu c e with e|e;exact hm (zv e);rw[c9] at e;cases e
 have OU:ub.le og:=λc z c9=>MB c z (w.base c z c9) λhm=>by rw[si] at hm;rw[(ig c hm).1] at c9;cases c9
 have abB:∀{x:er×M N},hM kg x->(∀c∈x.1.dv,c≠h.b)->(∀r∈x.1.rows,r∈h.rows++ [(⟨id,sv,v⟩:az)])->hM og x:=λJ ab O=>J.bN (λc z cH aa=>q6 c z aa (ab c cH)) λr hq=>((sf r (O r hq)).1).mono OU
 refine uo og _ (Way.down w (n':=.mk g2 dx) (by rw[show(av.mk g2 dx).b=g2.b from rfl,gQ];rfl) (λx J=>?_) ?_ (λc z c9 _ hm=>MB c z c9 hm) (λc cH=>?_) (λx J y ah=>?_) (λy ah g W=>.inl (ah g W)) ?_ (by rw[D3];exact I.ok) (by rw[D3];exact aat) ?_)
 rw[FP] at J
 rcases cJ.1 J with rfl|J
 have aC:∀g,(bU.bi.aj=some g∨bU.fp.aj=some g∨bU.sr.aj=some g∨bU.db.aj=some g)->g≠h.b:=λg W e=>A8 (by rw[BP,<-e];refine gi _ (iQ _ ?_);rw[cN,cN,cN];rcases W with e|e|e|e;exact .inl (.inl (.inl (by rw[e];simp)));exact .inl (.inl (.inr (by rw[e];simp)));exact .inl (.inr (by rw[e];simp));exact .inr (by rw[e];simp))
 have Gw:∀r∈bU.rows,r∈h.rows++ [(⟨id,sv,v⟩:az)]:=λr O=>I.rows (bU,dx.map av.b) (by rw[xp];exact fW ..) r O
 rw[gQ]
 refine⟨?_,o9.bH.le λc z kp aa=>q6 c z aa (aC c (.inl kp)),o9.hi.le λc z kp aa=>q6 c z aa (aC c (.inr (.inl kp))),o9.rws.le λc z kp aa=>q6 c z aa (aC c (.inr (.inr (.inl kp)))),λr O=>((sf r (Gw r O)).1).mono OU,br.else o9.lY λc z kp aa=>q6 c z aa (aC c (.inr (.inr (.inr kp))))⟩
 show og h.b=_
 rw[Bs,H.bh,gQ]
 have fT:x∈(av.mk bU dx).bM:=by rw[xp];exact gi _ J
 exact abB (I.one x fT) (λc cH e=>A8 (by rw[<-e];exact ej.2 ⟨x,fT,cH⟩)) (I.rows x fT)
 rw[PJ,hI]
 rw[BP,hI] at nW
 exact⟨λhm=>A8 (by rw[BP];exact gi _ hm),nW.2⟩
 rcases adO c cH with rfl|cH
 exact⟨.inl (by rw[si];exact wb),by rw[Bs,H.bh];simp⟩
 obtain⟨cM,c6⟩:=I.out c cH
 refine⟨?_,?_⟩
 by_cases e:aq.aj=some c
 rcases eu c e with e|e
 exact .inl (by rw[si];exact zv e)
 exact .inr ⟨e,trivial⟩
 rw[oC,nD e] at cM
 cases J:u c with
 |none=>exact .inr ⟨rfl,trivial⟩
 |some z=>left;rw[si];by_cases hm:c∈h.dv;exact hm;rw[w9 c z J hm] at cM;cases cM
 obtain⟨z,aa⟩:=e9.1 c6
 rw[q6 c z aa (λe=>A8 (by rw[<-e];exact cH))];simp
 rw[FP] at J
 rcases cJ.1 J with rfl|J
 exact(sf y (I.rows (bU,dx.map av.b) (by rw[xp];exact fW ..) y (by rw[gQ] at ah;exact ah))).2
 exact(sf y (I.rows x (by rw[xp];exact gi _ J) y ah)).2
 rw[D3]
 refine I.all.trans ?_
 rw[ek,av.tm,av.bM,av.mH]
 simp only[gy,HM,ly]
 exact mR _ _
 have:=I.size
 rw[xp] at this
 rw[FP]
 rw[ez] at this
 simp only[hX,mi] at this ⊢
 omega
 have ar:=abQ (id:=id) (sv:=sv) (s:=aq) (KT aY w.ok) b6
 rw[<-iv] at ar
 have PB:(av.mk g1 []).own=g1.dv:=by unfold av.own;rw[av.bM,av.mH];simp
 have Hg:(av.mk g1 []).bM=[(g1,[])]:=by rw[av.bM,av.mH];rfl
 have ab2:∀c∈g1.dv,c=h.b∨(h.bi.aj=some c∨h.fp.aj=some c∨h.db.aj=some c)∨aq.aj=some c:=λc I=>by rw[iv] at I;have I:=(rY _).mem_iff.1 I;rcases cN.1 I with I|I;exact .inr (.inr (by simpa using I));rcases cJ.1 I with I|I;exact .inl I;rw[cN,cN] at I;rcases I with(I|I)|I;exact .inr (.inl (.inl (by simpa using I)));exact .inr (.inl (.inr (.inl (by simpa using I))));exact .inr (.inl (.inr (.inr (by simpa using I))))
 refine uo hK _ (Way.down w (n':=.mk g1 []) MP (λx J=>?_) ?_ (λc z I _ hm=>w9 c z I (by rw[<-si];exact hm)) (λc I=>?_) (λx J y ah=>?_) (λy ah g W=>.inl (ah g W)) ar.2 ar.1 ?_ (by rw[Hg];show 1<=_;have:=(av.mk h []).SP;omega))
 rw[Hg,fV] at J
 subst J
 have b3:∀{s:U} {c:N} {z:Obj},(h.bi.aj=some c∨h.fp.aj=some c∨h.db.aj=some c)->u c=some z->hK c=some z:=λ{s c z} I aa=>Fi c z aa (Gt c I).2.1 (Gt c I).2.2
 refine⟨by show hK g1.b=_;rw[MP];exact w6,?_,?_,?_,λr O=>?_,?_⟩
 rw[iv];exact jc.bH.le λc z I aa=>b3 (s:=h.bi) (.inl I) aa
 rw[iv];exact jc.hi.le λc z I aa=>b3 (s:=h.bi) (.inr (.inl I)) aa
 rw[iv];exact Hn.own
 rw[iv] at O;exact((sf r O).1).mono Bt
 rw[iv];exact br.else jc.lY λc z I aa=>b3 (s:=h.bi) (.inr (.inr I)) aa
 rw[PB,iv]
 refine WS bS _ λg W=>(eu g W).imp (λe=>e) λe hm=>(ig g hm).2.1 e
 rw[PB] at I
 rw[si]
 rcases ab2 c I with rfl|I|I
 exact⟨.inl wb,by rw[w6];simp⟩
 obtain⟨cM,c6,da⟩:=Gt c I
 obtain⟨z,aa⟩:=e9.1 (ig c cM).2.1
 exact⟨.inl cM,by rw[Fi c z aa c6 da];simp⟩
 exact⟨(eu c I).imp zv (λe=>⟨e,trivial⟩),dE Hn I⟩
 rw[Hg,fV] at J
 subst J
 exact(sf y (by rw[iv] at ah;exact ah)).2
 rw[av.hx]
 refine .mk ?_ λk hk=>(by cases hk)
 show g1.aD=2
 rw[iv]
 exact fo
structure EM(ai u:H)(af:N->ay bp)(b:N)(T:aQ)(id:o)(u':H)(aX:N->ay bp)(bt:aQ):Prop where
 is:In ai u' aX b bt
 eP:hN u af u' aX
 ok:dS bt
 rows:aR bt=(aR T).filter λx=>x.1 !=id
 an:bt.an=T.an
 leaf:bt.leaf=T.leaf
 eV:bt.eV=T.eV
 no:id∉bt.w.map (·.1)
 vz:bt.w.length<512
def spec.EM{af:N->ay bp}{T:aQ}{id:o}{K:aK->o->H->Prop}(h:In ai u af b T)(aT:dS T)(iC:T.eV<=4000)(um:id∉T.w.map (·.1)->T.w.length<512)
  (au:∀dM u' aX bt,EM ai u af b T id u' aX bt->K dM 0 u'):C.KA (some ⟨b,0,none⟩) id u K:=by
 refine spec.vk h aT iC (λdV aU hr=>au _ aU af T ⟨h.mono bN hr,hN.mono hr,aT,?_,rfl,rfl,rfl,dV,um dV⟩) λb6 aU c5 bb O=>au _ aU c5 bb ⟨O.is,O.eP,O.ok,O.rows,O.an,O.leaf,O.eV,?_,?_⟩
 refine(p6.2 λx J=>?_).symm
 have:x.1≠id:=λe=>dV (by rw[<-nv];exact bf.2 ⟨x,J,e⟩)
 simpa using this
 rw[<-nv,O.rows]
 intro hm
 obtain⟨p,ad,e⟩:=bf.1 hm
 have:=(iT.1 ad).2
 simp[e] at this
 have ag:=aT.small
 have aS:bb.w.length=(aR bb).length:=by simp[aR]
 have aB:T.w.length=(aR T).length:=by simp[aR]
 rw[<-nv] at b6
 obtain⟨p,ad,e⟩:=bf.1 b6
 have:((aR T).filter λp=>p.1 !=id).length<(aR T).length:=Lr.2 ⟨p,ad,by simp[e]⟩
 rw[O.rows] at aS
 omega
def aov{ks:M av}(ad:ga d (av.mk h ks).bA)(fo:h.aD=2):(h.bH.length:o)=d/\(h.hi.length:o)=d:=by have h1:=ad.kd;rw[av.hx] at h1;obtain⟨_,_,_,ag⟩:=h1;rcases ag with⟨e,_⟩|⟨_,e⟩|⟨e,_⟩;have:h.aD=1:=e;omega;exact⟨e.2.2.2.1,e.2.2.2.2.1⟩;have:h.aD=3:=e;omega
def Pt:∀{l:M N} {x:N},x∈l->x<=l.sum
 |y::l,x,h=>by rw[List.sum_cons];rcases cJ.1 h with rfl|h;omega;have:=Pt h;omega
def abE{ks:M av}{i:N}(hi:i<ks.length):ks[i].bM.length<(av.mk h ks).bM.length:=by rw[av.bM,av.JH,hX,List.length_flatMap];have:ks[i].bM.length<=(ks.map λk=>k.bM.length).sum:=Pt (bf.2 ⟨ks[i],kE hi,rfl⟩);omega
def spec.CJ{af:N->ay bp}{T:aQ}{id:o}{t:U}{q:M o}{K:aK->o->H->Prop}(h:In ai u af b T)(aT:dS T)(iC:T.eV<=4000)(ht:Ints u t q)(o6:∀aU c5,ai.le aU->hN u af aU c5->Ints aU t q)
  (di:fu id q T.an (decide (id∈(aR T).map (·.1))) (aR T).length≠0->K ax (fu id q T.an (decide (id∈(aR T).map (·.1))) (aR T).length) u)
  (bE:fu id q T.an (decide (id∈(aR T).map (·.1))) (aR T).length=0->∀u' aX bt,tP ai u af b T id q u' aX bt->K (decide (id∉(aR T).map (·.1))) 0 u'):C.T0 (some ⟨b,0,none⟩) id t u K:=by
 apply aG.T0
 refine⟨λe=>(by cases e),λ_=>⟨_,rfl,_,H.ba h.aI.cell 3,?_⟩⟩
 obtain⟨y,ah,iE⟩:∃y:U,(fR (ea T.w) id).getD (.slice none 0 0)=aL.slice.enc y/\(fR (ea T.w) id).isSome=decide (id∈(aR T).map (·.1)):=by rw[nv];rcases sR T.w id with⟨W,hm⟩|⟨e,he,ch,W⟩;exact⟨⟨none,0,0⟩,by rw[W];rfl,by rw[W,p7 hm];rfl⟩;exact⟨e.2.1,by rw[W];rfl,by rw[W,mm (bf.2 ⟨e,he,ch⟩)];rfl⟩
 refine tB iO h.aI.map (ct:=.slice) y ah ?_
 rw[iE]
 refine⟨_,rfl,_,rfl,_,H.ba h.aI.cell 0,_,H.ba h.aI.cell 3,wJ iO h.aI.map ⟨H.le.refl u,spec.q9 ht ?_⟩⟩
 rw[ME]
 refine⟨λal=>di al,λhe=>?_⟩
 have bE:=bE he
 obtain⟨d1,d2,uI,d4⟩:1<=id/\id<=1000000000/\gV q T.an=0/\(decide (id∈(aR T).map (·.1))=ax->((aR T).length:o)<512):=by unfold fu at he;split at he;cases he;rename_i h1;split at he;rename_i h2;exact aW he h2;rename_i h2;split at he;cases he;rename_i h3;refine⟨by omega,by omega,by simpa using h2,λe=>?_⟩;by_cases a7:((aR T).length:o)<512;exact a7;exact aW ⟨e,by omega⟩ h3
 obtain⟨aS,aB,cW,fN⟩:=oh uI
 have ab:(!decide (decide (id∈(aR T).map (·.1))=ak))=decide (id∉(aR T).map (·.1)):=by by_cases b6:id∈(aR T).map (·.1)<;>simp[b6]
 have eG:∀Y:H,K (decide (id∉(aR T).map (·.1))) 0 Y->K (!decide (decide (id∈(aR T).map (·.1))=ak)) 0 Y:=λY aC=>by rw[ab];exact aC
 refine spec.EM h aT iC (λdV=>?_) λ_ aU c5 bb W=>?_
 have:=d4 (p7 (by rw[nv];exact dV))
 have gw:T.w.length=(aR T).length:=by simp[aR]
 omega
 have i1:=W.is
 have lu:=W.ok
 have rh:=o6 aU c5 i1.le W.eP
 refine spec.iH rh (by have:=rh.len;omega) λdt gN fJ _=>?_
 have uM:=fJ.le
 have aI:=(mx.mono bN i1 uM).aI
 refine⟨_,rfl,_,H.ba aI.cell 3,Ep iO aI.map (yX.2 (by unfold ea;rw[ep];exact W.no)) λpX iw=>?_⟩
 obtain⟨fa,Bq⟩:∃fa,fa=gN.ins bb.m pX:=⟨_,rfl⟩
 rw[<-Bq] at iw ⊢
 have m20:fa bb.m=some pX:=by rw[Bq];exact H.bh _ _ _
 have nN:∀c z,gN c=some z->c≠bb.m->fa c=some z:=λc z I al=>by rw[Bq,H.bq _ _ al];exact I
 have jH:∀{c},c5 c≠some .map->c≠bb.m:=λI e=>I (by rw[e];exact aI.dn)
 have n20:∀{c},fa c=none->aU c=none/\dt.aj≠some c:=λ{c} I=>by
  have al:c≠bb.m:=λe=>by rw[e,m20] at I;cases I
  have xf:gN c=none:=by rw[Bq,H.bq _ _ al] at I;exact I
  exact⟨uM.none xf,λe=>dE fJ e xf⟩
 have smap:∀g,dt.aj=some g->aU g=none/\g≠bb.m:=λg ca=>⟨fJ.fresh g ca,λe=>by have:=i1.known bb.m (by rw[aI.dn];simp);rw[<-e] at this;exact this (fJ.fresh g ca)⟩
 have N0:fx fa bb.m (ea (bb.w++ [(id,(dt,q))])):=by
  have:ea (bb.w++ [(id,(dt,q))])=ea bb.w++ [(id,.slice dt.a dt.n dt.c)]:=by simp[ea]
  rw[this];exact iw
 have Cj:Ints fa dt q:=br.else fJ.ints λg z ca aa=>nN g z aa (smap g ca).2
 have nL:fa b=some (.cells (fj bb).toArray 169 (0,0)):=nN _ _ aI.cell (jH (by rw[aI.dN];simp))
 have azN:fa.cell? ⟨b,0,none⟩=some (.int .i64 bb.an):=H.ba nL 0
 have amx:fa.cell? ((cB b 0 none).add 1)=some (.int .i64 bb.leaf):=H.ba nL 1
 have DE:(q.length:o)=bb.an:=by rw[W.an];exact cW
 have fin:∀u' r,EQ aU c5 b bb id dt q u' r->K (!decide (decide (id∈(aR T).map (·.1))=ak)) 0 u':=λu' r Z=>by obtain⟨aX,bt,f1,f2,f3,f4,f5,f6,f7⟩:=Z.ade i1 lu ⟨d1,d2⟩ ⟨DE,fN⟩ W.vz;refine eG _ (bE u' aX bt ⟨f1,W.eP.trans f2,f3,by rw[<-W.rows];exact f4,f5.trans W.an,f6.trans W.leaf,by rw[<-W.eV];exact f7⟩)
 have OA:∀l:M az,((l.map az.bz).Perm ((id,q)::lA bb)∨∃m:M j2,((l.map az.bz)++m).Perm ((id,q)::lA bb))->hD l bb.an:=λl ar=>by
  obtain⟨m,hm⟩:∃m:M j2,((l.map az.bz)++m).Perm ((id,q)::lA bb):=ar.elim (λh=>⟨[],by rw[ly];exact h⟩) λh=>h;have eY:((l.map az.bz)++m).Perm ((id,q)::aR bb):=hm.trans (kc _ lu.rows);have bS:(((id,q)::aR bb).map (·.1)).Nodup:=by rw[gm,hI];exact⟨by rw[nv];exact W.no,i1.aI.rT⟩
  have hlen:=eY.length_eq;have um:=W.vz;simp only[ez,de,hX,aR] at hlen;refine Ek lu.hl (by omega) ?_ λp ad=>?_;have:=(eY.map (·.1)).nodup_iff.2 bS;rw[ek,gh] at this;rw[show l.map (·.id)=(l.map az.bz).map (·.1) by rw[ep];rfl];exact this.1;rcases cJ.1 (eY.mem_iff.1 (iQ _ ad)) with rfl|ad;exact⟨d1,d2,DE,fN⟩;obtain⟨e,gf,rfl⟩:=bf.1 ad;exact⟨(lu.ids e gf).1,(lu.ids e gf).2,lu.vec e gf⟩
 cases kY:bb.root with
 |none=>
  have uj:fa.cell? ((cB b 0 none).add 2)=some (.pointer none):=by
   have J:fj bb=[.int .i64 bb.an,.int .i64 bb.leaf,.pointer none,.map (some bb.m)]:=by simp[fj,kY]
   rw[J] at nL;exact H.ba nL 2
  have xl:lA bb=[]:=by unfold lA;rw[kY]
  refine⟨_,rfl,none,uj,λ_=>?_,λal=>aW rfl al⟩;refine mo (yM id dt) λg pN=>?_;obtain⟨BO,Ol⟩:∃BO,BO=(bC [cY .i64 id,.slice dt.a dt.n dt.c].toArray 52 (0,0)):=⟨_,rfl⟩;rw[<-Ol];have T8:fa.le (fa.ins g BO):=H.b1 _ pN;have nn:aJ fa (fa.ins g BO) 52 2 ⟨some ⟨g,0,none⟩,1,1⟩ (([⟨id,dt,q⟩]:M az).flatMap cR):=by rw[Ol];exact aJ.make (H.le.refl fa) pN (cells:=[cY .i64 id,.slice dt.a dt.n dt.c].toArray) (n:=1) (by omega) rfl
  refine spec.cut (ub:=fa) (by have:=lu.BF;omega) azN amx nn (λr O=>by rw[fV.1 O];exact Cj) (OA _ (.inl (by rw[xl];exact .refl _))) (λe=>by cases e) λ_ qg eb I fo=>?_;have XW:g≠b:=λe=>by rw[e,nL] at pN;cases pN
  have sg:∀c z,fa c=some z->qg c=some z:=λc z c9=>I.tY c z (T8 c z c9) λe=>by
   have:g=c:=by simpa[U.aj] using e
   rw[this,c9] at pN;cases pN
  have CU:qg b=some (.cells #[.int .i64 bb.an,.int .i64 bb.leaf,.pointer none,.map (some bb.m)] 169 (0,0)):=by have:=sg _ _ nL;rw[show fj bb=[.int .i64 bb.an,.int .i64 bb.leaf,.pointer none,.map (some bb.m)] by simp[fj,kY]] at this;exact this
  refine⟨_,rfl,QO CU ?_⟩;obtain⟨vh,Br⟩:∃vh,vh=qg.ins b (.cells #[.int .i64 bb.an,.int .i64 bb.leaf,.pointer (some ⟨eb.b,0,none⟩),.map (some bb.m)] 169 (0,0)):=⟨_,rfl⟩;rw[<-Br];have pf:∀c z,qg c=some z->c≠b->vh c=some z:=λc z c9 al=>by rw[Br,H.bq _ _ al];exact c9
  have Mk:b∉eb.own:=λe=>by have:=(I.out b e).1;rw[nL] at this;cases this
  have tV:bb.m≠b:=λe=>by have h1:=aI.dn;rw[e,aI.dN] at h1;cases h1
  have fY:∀b0,dt.aj=some b0->b0≠b:=λb0 ca e=>by have:=i1.known b (by rw[aI.dN];simp);rw[<-e] at this;exact this (smap b0 ca).1
  have Pa:∀c z,aU c=some z->c≠bb.m->c≠b->vh c=some z:=λc z c9 h1 h2=>pf c z (sg c z (nN c z (uM c z c9) h1)) h2;refine fin vh eb ⟨?_,N0.else λz aa=>pf _ z (sg _ z aa) tV,br.else Cj λb0 z ca aa=>pf b0 z (sg b0 z aa) (fY b0 ca),λb0 ca=>⟨(smap b0 ca).1,?_⟩,λc z c9 Z=>?_,λc c9 Z=>?_,λx J=>?_,I.nodup,λc c9=>?_,λx J r O b0 ca=>?_,?_,I.ok,fo,?_⟩;rw[Br,H.bh];rfl;obtain⟨z,aa⟩:=e9.1 (dE fJ ca);rw[pf b0 z (sg b0 z (nN b0 z aa (smap b0 ca).2)) (fY b0 ca)];simp;refine Pa c z c9 (jH ?_) λe=>?_;rcases Z with Z|Z<;>rw[Z]<;>simp;rw[e,aI.dN] at Z;rcases Z with Z|Z<;>cases Z;by_cases h1:c=bb.m;rw[h1,pf _ _ (sg _ _ m20) tV];simp;by_cases h2:c=b;rw[h2,Br,H.bh];simp;obtain⟨z,aa⟩:=e9.1 c9;rw[Pa c z aa h1 h2];simp;refine(I.one x J).bN (λc z cH aa=>pf c z aa λe=>Mk (by rw[<-e];exact ej.2 ⟨x,J,cH⟩)) λr O=>?_;rw[fV.1 (I.rows x J r O)];exact br.else Cj λb0 z ca aa=>pf b0 z (sg b0 z aa) (fY b0 ca);obtain⟨cM,c6⟩:=I.out c c9;obtain⟨z,aa⟩:=e9.1 c6;exact⟨.inr (n20 cM),by rw[pf c z aa (λe=>Mk (by rw[<-e];exact c9))];simp⟩;rw[fV.1 (I.rows x J r O)] at ca;exact .inr ca;rw[xl];exact I.all;have:=I.size;simp only[hX,mi] at this;omega
 |some n0=>
  obtain⟨cM,c6,da,fk⟩:=aI.one n0 kY;have uj:fa.cell? ((cB b 0 none).add 2)=some (.pointer (some ⟨n0.b,0,none⟩)):=by
   have J:fj bb=[.int .i64 bb.an,.int .i64 bb.leaf,.pointer (some ⟨n0.b,0,none⟩),.map (some bb.m)]:=by simp[fj,kY]
   rw[J] at nL;exact H.ba nL 2
  have xl:lA bb=n0.bA.all:=by unfold lA;rw[kY]
  obtain⟨ub,b9⟩:∃ub:H,ub=λc=>open Classical in if c∈n0.own then none else fa c:=⟨_,rfl⟩;have yu:∀{c},c∈n0.own->ub c=none:=λI=>by rw[b9];exact a1 I
  have gu:∀{c},c∉n0.own->ub c=fa c:=λI=>by rw[b9];exact aF I
  have lub:ub.le fa:=λc b5 I=>by by_cases e:c∈n0.own;rw[yu e] at I;cases I;rw[gu e] at I;exact I
  have lK:∀{c},c5 c≠some .node->c∉n0.own:=λI e=>I (da _ e);have QL:∀g,dt.aj=some g->g∉n0.own:=λg ca e=>i1.known g (by rw[da g e];simp) (smap g ca).1;have sK:ub b=some (.cells (fj bb).toArray 169 (0,0)):=by rw[gu (lK (by rw[aI.dN];simp))];exact nL
  have Ck:Ints ub dt q:=br.else Cj λg z ca aa=>by rw[gu (QL g ca)];exact aa
  have Mw:∀c z,gN c=some z->c5 c≠some .map->c5 c≠some .node->ub c=some z:=λc z I h1 h2=>by rw[gu (lK h2)];exact nN c z I (jH h1)
  have OX:∀x∈n0.bM,∀r∈x.1.rows,Ints ub r.s r.v:=λx J r O=>br.else ((cM x J).vec r O) λg z ca aa=>Mw g z aa (by rw[fk x J r O g ca];simp) (by rw[fk x J r O g ca];simp);have wS:Way 2 ub fa bb.an q (λ_=>True) (λg=>c5 g=some .vec) n0 [] n0:=by refine Way.start lub (λ_ _=>trivial) (λx J=>(cM x J).bN (λc z I aa=>nN c z aa (jH ?_)) λr O=>(OX x J r O).mono lub) c6 (λc I=>⟨yu I,?_,trivial⟩) (λx J r O=>⟨OX x J r O,λg ca=>fk x J r O g ca⟩) (lu.ok n0 kY) (lu.od n0 kY);rw[da c (ej.2 ⟨x,J,I⟩)];simp;have hk:=i1.known c (by rw[da c I];simp);obtain⟨z,aa⟩:=e9.1 hk;rw[nN c z (uM c z aa) (jH (by rw[da c I];simp))];simp
  refine⟨_,rfl,_,uj,λe=>(by cases e),λ_=>⟨_,rfl,_,uj,?_⟩⟩
  let At:ay bc->H->N->Prop:=λp w f=>∃aY n,p=some ⟨n.b,0,none⟩/\Way 2 ub w bb.an q (λ_=>True) (λg=>c5 g=some .vec) n0 aY n/\n.bM.length=f
  refine⟨λp w=>∃f,At p w f,λp w=>least (At p w),⟨_,[],n0,rfl,wS,rfl⟩,λPM l5 cv=>?_⟩;have mI:=G5 cv;generalize NC:least (At PM l5)=f at mI;obtain⟨aY,n,ad,w,atW⟩:=mI;obtain⟨e8,ks⟩:=n;obtain rfl:PM=some ⟨e8.b,0,none⟩:=ad;obtain⟨jc,bS,ig,ln,fo⟩:=w.head;have tb:=KT aY w.ok;obtain⟨ae6,aot⟩:=aov tb fo;refine spec.grow Ck w.base jc bS (λc I=>(ig c I).1) (λr O=>(ln r O).1) (by omega) (by omega) (by have:=lu.hl;omega) λhb Gq eC jU=>?_;obtain⟨MX,Fy⟩:=X0 (ks:=ks) fo tb fN DE;have tI:Way 2 ub hb bb.an q (λ_=>True) (λg=>c5 g=some .vec) n0 aY (.mk (iK e8 q) ks):=w.eP rfl rfl rfl Gq eC jU MX;have IX:hb e8.b=some (.cells (eS (iK e8 q)).toArray 213 (0,0)):=Gq.cell;have w7:hb.cell? ((cB e8.b 0 none).add 7)=some (.slice e8.db.a e8.db.n e8.db.c):=H.ba IX 7;have uD:br hb e8.db 1 ((ks.map av.b).map λn=>.pointer (some ⟨n,0,none⟩)):=Gq.lY;have aaw:e8.db.n=ks.length:=by have:=uD.len;simpa using this.symm
  have ir:=br.cap uD;have zd:=br.max uD;refine⟨_,rfl,e8.db,w7,λh0=>?_,λh0=>?_⟩;obtain rfl:ks=[]:=kN (by omega);refine spec.leaf (h:=iK e8 q) tI (by have:=lu.BF;omega) (H.ba sK 0) (H.ba sK 1) Ck (OA _ (.inr ?_)) Fy λu' r aw=>fin u' r ?_;refine⟨(jD aY e8.b).flatMap λx=>x.1.rows.map az.bz,?_⟩;have gw:=(KS aY (.mk e8 [])).symm.trans w.all;rw[xl];have nk:(av.mk e8 []).bA.all=e8.rows.map az.bz:=by rw[av.tm,av.bM,av.mH];simp
  rw[nk] at gw;rw[ek];refine(List.Perm.append_right _ (mR _ _)).trans ?_;exact kc _ gw;have cK:fj {bb with root:=some r}=fj bb:=by simp[fj,kY,aw.b]
  refine⟨by rw[cK];exact aw.le _ _ sK,?_,Ck.mono aw.le,λg ca=>⟨(smap g ca).1,?_⟩,λc z I Z=>?_,λc I Z=>?_,aw.one,aw.nodup,λc I=>⟨?_,(aw.own c I).2⟩,λx J y ah g ca=>aw.rws x J y ah g ca,by rw[xl];exact aw.all,aw.ok,aw.od,?_⟩;exact N0.else λz aa=>aw.le _ _ (by rw[gu (lK (by rw[aI.dn];simp))];exact aa);obtain⟨z,aa⟩:=e9.1 (dE fJ ca);rw[aw.le g z (by rw[gu (QL g ca)];exact nN g z aa (smap g ca).2)];simp;exact aw.le c z (Mw c z (uM c z I) (by rcases Z with Z|Z<;>rw[Z]<;>simp) (by rcases Z with Z|Z<;>rw[Z]<;>simp));by_cases h1:c=bb.m;rw[h1,aw.le _ _ (by rw[gu (lK (by rw[aI.dn];simp))];exact m20)];simp;obtain⟨z,aa⟩:=e9.1 I;rw[aw.le c z (by rw[gu (lK Z)];exact nN c z (uM c z aa) h1)];simp;have h1:=(aw.own c I).1.1;by_cases hm:c∈n0.own;exact .inl (da c hm);rw[gu hm] at h1;exact .inr (n20 h1);have h1:=aw.size;have h2:=lu.size n0 kY;omega;have jn:0<ks.length:=by omega
  have lY:∀(i:N) (hi:i<ks.length),hM hb (ks[i].h,ks[i].kids.map av.b)/\oR (ks[i].bA.hA []) q.length:=λi hi=>by
   have ku:(ks[i].h,ks[i].kids.map av.b)∈(av.mk (iK e8 q) ks).bM++jD aY (av.mk (iK e8 q) ks).b:=by rw[av.bM,av.JH];refine iQ _ (gi _ (ej.2 ⟨ks[i],kE hi,?_⟩));rw[av.iu];exact fW ..
   refine⟨tI.one _ ku,?_⟩;have h3:=MX.kids ks[i].bA (by rw[av.hx];exact h7 (kE hi));rw[DE];exact h3.kd
  have tj:∀(i:N) (hi:i<ks.length) {Q:o->o->o->H->Prop},(∀x y,Q x y 0 hb)->∃ana:o,((H.cell? hb ⟨ks[i].b,0,none⟩)=(some (cY cq ana)))/\(∃Vp:U,((H.cell? hb (ev ⟨ks[i].b,0,none⟩ 1))=(some (ec Vp.a Vp.n Vp.c)))/\(∃Vq:U,((H.cell? hb (ev ⟨ks[i].b,0,none⟩ 2))=(some (ec Vq.a Vq.n Vq.c)))/\(∃anb:o,((H.cell? hb (ev ⟨ks[i].b,0,none⟩ 3))=(some (cY bR anb)))/\(∃anc:o,((H.cell? hb (ev ⟨ks[i].b,0,none⟩ 4))=(some (cY bR anc)))/\(∃Vr:U,((H.cell? hb (ev ⟨ks[i].b,0,none⟩ 5))=(some (ec Vr.a Vr.n Vr.c)))/\(C.vi ana Vp Vq anb anc Vr dt hb Q)))))):=λi hi Q fb=>by
   obtain⟨abG,GZ⟩:=lY i hi;have DS:hb ks[i].b=some (.cells (eS ks[i].h).toArray 213 (0,0)):=abG.cell;have O:(ks[i].bA.hA [])=⟨ks[i].h.aD,⟨none,0,0⟩,⟨none,0,0⟩,ks[i].h.cG,⟨none,0,0⟩,ks[i].h.bH,ks[i].h.hi,[]⟩:=by rw[av.hx];rfl
   rw[O] at GZ;exact⟨_,H.ba DS 0,ks[i].h.bi,H.ba DS 1,ks[i].h.fp,H.ba DS 2,_,H.ba DS 3,_,H.ba DS 4,⟨none,0,0⟩,H.ba DS 5,
    spec.vi (r:=⟨ks[i].h.aD,ks[i].h.bi,ks[i].h.fp,ks[i].h.cG,⟨none,0,0⟩,ks[i].h.bH,ks[i].h.hi,[]⟩) abG.bH.f.ints abG.hi.f.ints ⟨GZ.an,GZ.ids,GZ.id,GZ.shape⟩ rfl (Ck.mono tI.base) fN (fb _ _)⟩
  obtain⟨a0,FL,o2⟩:=KV uD (i:=0) (by simpa using jn);rw[HQ] at o2;refine⟨_,rfl,e8.db,w7,a0,FL,⟨by omega,by omega⟩,_,by simpa using o2,_,rfl,tj 0 jn λaCW aCX=>⟨_,rfl,e8.db,w7,?_⟩⟩;refine oM adT (l:=1) (h:=e8.db.n) (m:=e8.db.c) (.inr rfl) (.inl ⟨rfl,rfl⟩) (.inl ⟨rfl,rfl⟩) (by omega) ir (cA _) ir ?_;have auP:br hb (e8.db.part 1 e8.db.n e8.db.c 1) 1 (((ks.drop 1).map av.b).map λn=>.pointer (some ⟨n,0,none⟩)):=by have:=br.part uD (l:=1) (h:=e8.db.n) (m:=e8.db.c) (by omega) (cA _) ir (cA _);rw[hR (by simp;omega)] at this;rw[Ee,Ee];exact this
  have ft:(e8.db.part 1 e8.db.n e8.db.c 1).n=ks.length-1:=by show e8.db.n-1=_;omega
  refine⟨λp x _ _ w=>0<=x/\w=hb/\∃(i:N) (hi:i<ks.length),p=some ⟨ks[i].b,0,none⟩,λ_ x _ _ _=>((ks.length:o)-x).toNat,⟨by omega,rfl,0,jn,rfl⟩,?_⟩;rintro aCp CD aCR aCS wQ ⟨bL,rfl,i,hi,rfl⟩;refine⟨λJ=>?_,λJ=>?_⟩;have eR:CD.toNat+1<ks.length:=by omega
  obtain⟨ac,re,ho⟩:=KV auP (i:=CD.toNat) (by rw[de,oH];omega);rw[HQ,List.getElem_drop] at ho;have ex:1+CD.toNat=CD.toNat+1:=by omega
  simp only[ex] at ho;have st:∀(p:ay bc),(∃(i:N) (hi:i<ks.length),p=some ⟨ks[i].b,0,none⟩)->(bo (CD+1))/\((0<=CD+1/\wQ=wQ/\∃(i:N) (hi:i<ks.length),p=some ⟨ks[i].b,0,none⟩)/\((ks.length:o)-(CD+1)).toNat<((ks.length:o)-CD).toNat):=λp kx=>⟨⟨by omega,by omega⟩,⟨by omega,rfl,kx⟩,by omega⟩;refine⟨ac,re,⟨bL,J⟩,_,ho,_,rfl,tj (CD.toNat+1) eR λaCT aCU anq au=>?_⟩;have nS:∀dM,anq dM wQ:=λdM=>au dM wQ ⟨λ_=>st _ ⟨_,eR,rfl⟩,λ_=>st _ ⟨i,hi,rfl⟩⟩;exact⟨λ_=>nS _,λ_=>⟨λ_=>nS _,λ_=>nS _⟩⟩;have o7:ks=ks.take i++ks[i]::ks.drop (i+1):=by rw[<-wo hi,u2]
  have hw:Way 2 ub wQ bb.an q (λ_=>True) (λg=>c5 g=some .vec) n0 (⟨iK e8 q,ks.take i,ks.drop (i+1)⟩::aY) ks[i]:=by refine Way.lY (by rw[<-o7];exact tI) ?_;rw[av.hx] at Fy;exact Fy
  have bD:=abE (h:=e8) hi;have uh:At (some ⟨ks[i].b,0,none⟩) wQ ks[i].bM.length:=⟨_,_,rfl,hw,rfl⟩;refine⟨⟨_,uh⟩,?_⟩;have:=least_le uh;show least (At _ wQ)<least (At _ l5);rw[NC];omega
end
end kR
section
variable{u:H}{s t:U}{l:M (U×M o)}{d:o}{p:bF}
inductive jR:bF->Prop where
 |mk {p:bF} (two:p.kids.length=0∨p.kids.length=2) (kids:∀k∈p.kids,jR k):jR p
def jR.two(h:jR p):p.kids.length=0∨p.kids.length=2:=by cases h;assumption
def jR.kids(h:jR p):∀k∈p.kids,jR k:=by cases h;assumption
def jR.del{id:o}(h:jR p):jR (p.del id):=by
 induction p using bF.ind with
 |h p aM=>
  rw[bF.del_eq];have h1:(p.kids.map (bF.del id)).length=0∨(p.kids.map (bF.del id)).length=2:=by rw[de];exact h.two
  refine .mk h1 λk hk=>?_;obtain⟨dT,dA,rfl⟩:=bf.1 (show k∈p.kids.map (bF.del id) from hk);exact aM dT dA (h.kids dT dA)
def aqi{f:kj}{n n':av}(h:jR (f.fill n).bA)(bQ:jR n'.bA):jR (f.fill n').bA:=by have h1:=h.two;have h2:=h.kids;rw[C5] at h1 h2;refine .mk ?_ λk hk=>?_;rw[C5];simp only[de,ez,hX] at h1 ⊢;exact h1;rw[C5] at hk;obtain⟨Y,aC,rfl⟩:=bf.1 hk;rw[cN,cJ] at aC;rcases aC with aC|rfl|aC;exact h2 _ (h7 (iQ _ aC));exact bQ;exact h2 _ (h7 (lz _ (gi _ aC)))
def RH:∀(aY:M kj) {n:av},jR (mN aY n).bA->jR n.bA
 | [],_,h=>h|f::aY,n,h=>by have h3:=(RH aY (n:=f.fill n) h).kids;rw[C5] at h3;exact h3 _ (h7 (by simp))
def Ut:∀(aY:M kj) {n n':av},jR (mN aY n).bA->jR n'.bA->jR (mN aY n').bA
 | [],_,_,_,bQ=>bQ|f::aY,n,n',h,bQ=>Ut aY (n:=f.fill n) (n':=f.fill n') h (aqi (RH aY (n:=f.fill n) h) bQ)
def ae5{h:er}{ks:M av}(bQ:jR (av.mk h ks).bA):(ks.length=0∨ks.length=2)/\∀k∈ks,jR k.bA:=by rw[av.hx] at bQ;have h1:=bQ.two;have h2:=bQ.kids;refine⟨by have h3:(ks.map av.bA).length=0∨(ks.map av.bA).length=2:=h1;rw[de] at h3;exact h3,λk hk=>h2 k.bA (show k.bA∈ks.map av.bA from h7 hk)⟩
def RG{h:er}{ks:M av}(h1:ks.length=0∨ks.length=2)(h2:∀k∈ks,jR k.bA):jR (av.mk h ks).bA:=by rw[av.hx];refine .mk (by show(ks.map av.bA).length=0∨(ks.map av.bA).length=2;rw[de];exact h1) λk hk=>?_;obtain⟨Y,aC,rfl⟩:=bf.1 (show k∈ks.map av.bA from hk);exact h2 Y aC
def encS(s:U):M ap:=[.slice s.a s.n s.c]
def vw(c:U×M o):(encS c.1).length=1:=rfl
structure mA(u:H)(s:U)(l:M (U×M o)):Prop where
 cE:br u s 1 (l.flatMap λc=>encS c.1)
 ints:∀c∈l,Ints u c.1 c.2
def mA.mono{u':H}(h:mA u s l)(k:u.le u'):mA u' s l:=⟨h.cE.mono k,λc I=>(h.ints c I).mono k⟩
def mA.len(h:mA u s l):s.n=l.length:=gW vw (by decide) h.cE
def mA.at(h:mA u s l){x:o}(h0:0<=x)(h1:x<(s.n:o)):∃p,s.a=some p/\∃c,l[x.toNat]?=some c/\c∈l/\u.cell? (p.add (x.toNat*1))=some (.slice c.1.a c.1.n c.1.c)/\Ints u c.1 c.2:=by
 have ae:=h.len;have ar:x.toNat<l.length:=by omega
 have J:l[x.toNat]?=some l[x.toNat]:=cr ar;obtain⟨p,ad,I⟩:=br.elem vw (by decide) h.cE J;exact⟨p,ad,_,J,kE ar,I 0 _ rfl,h.ints _ (kE ar)⟩
structure wW(l:M (U×M o))(d:o):Prop where
 an:1<=d/\d<=64
 many:0<l.length/\l.length<=64
 each:∀c∈l,(c.2.length:o)=d/\dj c.2
def spec.zn{K:o->H->Prop}(h:mA u s l)(aw:1<=d/\d<=64)(I:∀c∈l,(c.2.length:o)=d/\dj c.2)(ar:l.length<=1000000)(au:K 0 u):C.zn s d u K:=by have ae:=h.len;apply aG.zn;refine⟨λ_ x v=>v=u/\0<=x,λ_ x _=>((s.n:o)-x).toNat,⟨rfl,by omega⟩,?_⟩;rintro _ x v ⟨rfl,bL⟩;refine⟨λJ=>?_,λ_=>au⟩;obtain⟨p,ad,c,_,cH,bJ,hi⟩:=h.at bL J;obtain⟨aS,aB⟩:=I c cH;exact⟨p,ad,⟨bL,J⟩,_,bJ,spec.iA hi ⟨λal=>aW (IA aB aS aw) al,λ_=>⟨⟨by omega,by omega⟩,⟨rfl,by omega⟩,by dsimp only;omega⟩⟩⟩
def spec.DU{K:o->H->Prop}(h:mA u s l)(I:wW l d)(au:K 0 u):C.DU s u K:=by have ae:=h.len;have hm:=I.many;apply aG.DU;intro my h0;refine⟨λJ=>aW J (by omega),λ_=>⟨λJ=>aW J (by omega),λ_=>h0 _ _ ?_⟩⟩;obtain⟨p,ad,c,_,cH,bJ,hi⟩:=h.at (x:=0) (by omega) (by omega);have pJ:=hi.len;obtain⟨aS,aB⟩:=I.each c cH;refine⟨p,ad,⟨by omega,by omega⟩,_,bJ,?_⟩;dsimp only;rw[show(c.1.n:o)=d by omega];exact spec.zn h I.an I.each (by omega) au
def mg(cs:M (M o))(v:M o):N->N×o
 |0=>(0,0)|n+1=>if n=0∨fE (cs.getD n []) v v.length<(mg cs v n).2 then(n,fE (cs.getD n []) v v.length) else mg cs v n
def akm(cs:M (M o))(v:M o):∀n,0<n->(mg cs v n).1<n:=by
 intro n;induction n with
 |zero=>intro h;omega
 |succ n aM=>intro _;unfold mg;split;exact Nat.lt_succ_self n;rename_i I;have:=aM (by omega);omega
def spec.zo{v:M o}{K:o->o->o->H->Prop}(h:mA u s l)(I:wW l d)(ht:Ints u t v)(aA:dj v)(DI:(v.length:o)=d)
  (au:K (mg (l.map (·.2)) v l.length).1 (dk (mg (l.map (·.2)) v l.length).2) (dr (mg (l.map (·.2)) v l.length).2) u):C.zo s t u K:=by
 have ae:=h.len
 have hm:=I.many
 have Y:dh 0:=⟨by omega,by omega⟩
 have aw:=I.an
 apply aG.zo
 refine⟨λa i x y w=>w=u/\0<=i/\i<=s.n/\a=(mg (l.map (·.2)) v i.toNat).1/\dh x/\dh y/\fl x y=(mg (l.map (·.2)) v i.toNat).2,λ_ i _ _ _=>((s.n:o)-i).toNat,⟨rfl,by omega,by omega,rfl,Y,Y,rfl⟩,?_⟩
 rintro a i x y w ⟨rfl,i0,i1,My,J,ah,hw⟩
 refine⟨λhi=>?_,λhi=>?_⟩
 obtain⟨p,ad,c,ow,cH,bJ,pJ⟩:=h.at i0 hi
 obtain⟨aS,aB⟩:=I.each c cH
 have pF:(l.map (·.2)).getD i.toNat []=c.2:=by rw[du,iR,ow];rfl
 have hlen:c.2.length=v.length:=by omega
 refine⟨p,ad,⟨i0,hi⟩,_,bJ,spec.lD pJ ht aB (by omega) aA hlen λnH mW fT j9 k2=>?_⟩
 rw[hlen] at k2
 have step:mg (l.map (·.2)) v (i+1).toNat=if i.toNat=0∨fE c.2 v v.length<(mg (l.map (·.2)) v i.toNat).2 then(i.toNat,fE c.2 v v.length) else mg (l.map (·.2)) v i.toNat:=by rw[show(i+1).toNat=i.toNat+1 by omega];show(if _ then _ else _)=_;rw[pF]
 have new:i.toNat=0∨fE c.2 v v.length<(mg (l.map (·.2)) v i.toNat).2->bo (i+1)/\(w=w/\0<=i+1/\i+1<=(s.n:o)/\i=(mg (l.map (·.2)) v (i+1).toNat).1/\dh nH/\dh mW/\fl nH mW=(mg (l.map (·.2)) v (i+1).toNat).2)/\((s.n:o)-(i+1)).toNat<((s.n:o)-i).toNat:=λI=>by rw[step,a1 I];exact⟨⟨by omega,by omega⟩,⟨rfl,by omega,by omega,by show i=((i.toNat:N):o);omega,fT,j9,k2⟩,by omega⟩
 refine⟨λh0=>new (.inl (by omega)),λh0=>spec.mr j9 ah ?_⟩
 rw[hw,k2]
 by_cases bD:fE c.2 v v.length<(mg (l.map (·.2)) v i.toNat).2
 rw[a1 bD]
 exact⟨λ_=>new (.inr bD),λJ=>aW (by decide) J⟩
 refine⟨λJ=>aW J ?_,λ_=>⟨⟨by omega,by omega⟩,⟨rfl,by omega,by omega,?_,J,ah,?_⟩,by dsimp only;omega⟩⟩
 rw[aF bD];split<;>omega
 rw[step,aF (by omega)];exact My
 rw[step,aF (by omega)];exact hw
 have:i.toNat=l.length:=by omega
 rw[this] at My hw
 obtain⟨g1,g2⟩:=CC J ah
 rw[hw] at g1 g2
 rw[My,g1,g2]
 exact au
def spec.th{v:M o}{K:o->o->o->o->H->Prop}(h:mA u s l)(I:wW l d)(ht:Ints u t v)(aA:dj v)(DI:(v.length:o)=d)
  (au:K (mg (l.map (·.2)) v l.length).1 (dk (mg (l.map (·.2)) v l.length).2) (dr (mg (l.map (·.2)) v l.length).2) 0 u):C.th s t u K:=by
 have ae:=h.len
 have hm:=I.many
 apply aG.th
 refine spec.DU h I ⟨λJ=>aW rfl J,λ_=>?_⟩
 obtain⟨p,ad,c,_,cH,bJ,hi⟩:=h.at (x:=0) (by omega) (by omega)
 have pJ:=hi.len
 obtain⟨aS,aB⟩:=I.each c cH
 refine⟨p,ad,⟨by omega,by omega⟩,_,bJ,spec.iA ht ⟨λJ=>aW ?_ J,λ_=>spec.zo h I ht aA DI au⟩⟩
 rw[show(c.1.n:o)=d by omega]
 exact IA aA DI I.an
def oI(c:M o)(l:M az):N->o
 |0=>0|n+1=>if oI c l n<fE c (l.getD n ⟨0,⟨none,0,0⟩,[]⟩).v c.length then fE c (l.getD n ⟨0,⟨none,0,0⟩,[]⟩).v c.length else oI c l n
def ak8(c:M o)(l:M az):∀n,0<=oI c l n/\∀i r,i<n->l[i]?=some r->fE c r.v c.length<=oI c l n:=by
 intro n;induction n with
 |zero=>exact⟨nA _,λi r h=>by omega⟩|succ n aM=>
  obtain⟨h0,h1⟩:=aM;unfold oI;have last:∀r,l[n]?=some r->l.getD n ⟨0,⟨none,0,0⟩,[]⟩=r:=λr O=>by rw[du,O];rfl
  split;rename_i bD;refine⟨by omega,λi r hi O=>?_⟩;by_cases e:i=n;subst e;rw[last r O];exact nA _;have:=h1 i r (by omega) O;omega;rename_i gG;refine⟨h0,λi r hi O=>?_⟩;by_cases e:i=n;subst e;rw[last r O] at gG;omega;exact h1 i r (by omega) O
def ak9{c:M o}{l:M az}(I:dj c)(ar:hD l c.length):∀n,n<=l.length->mw (oI c l n):=by
 intro n;induction n with
 |zero=>intro _;exact⟨nA _,(by decide:(0:o)<340282366920938463463374607431768211456)⟩
 |succ n aM=>
  intro ae;unfold oI;have W:l.getD n ⟨0,⟨none,0,0⟩,[]⟩∈l:=by rw[du,cr (by omega)];exact kE (by omega)
  obtain⟨aS,aB⟩:=ar.v _ W;split;exact QM I aB (by omega);exact aM (by omega)
def spec.Cr{c:M o}{l:M az}{K:o->U->U->o->o->U->o->H->Prop}(ag:Ints u s c)(I:dj c)(ht:en u t l)(ar:hD l c.length)
  (au:∀aq lo u',aJ u u' 3 1 aq (c.flatMap encI)->K 3 aq ⟨none,0,0⟩ (dk (oI c l l.length)) (dr (oI c l l.length)) lo 0 u'):C.Cr s t u K:=by
 have dw:=ag.len
 have TA:=ht.len
 have OQ:=ht.max
 have aw:=ar.an
 have Sl:=I.1
 have Y:dh 0:=⟨by omega,by omega⟩
 apply aG.Cr
 refine spec.iA ag ?_
 rw[dw,IA I rfl aw]
 refine⟨λJ=>aW rfl J,λ_=>spec.Ct ht ar λlo nF zC=>⟨λJ=>aW rfl J,λ_=>?_⟩⟩
 refine⟨λi x y w=>w=nF/\0<=i/\i<=t.n/\dh x/\dh y/\fl x y=oI c l i.toNat,λi _ _ _=>((t.n:o)-i).toNat,⟨rfl,by omega,by omega,Y,Y,rfl⟩,?_⟩
 rintro i x y w ⟨rfl,i0,i1,J,ah,hw⟩
 refine⟨λhi=>?_,λhi=>?_⟩
 obtain⟨p,ad,r,O,bJ,c1,vU⟩:=(ht.mono zC.le).at i0 hi
 have hq:=dK O
 obtain⟨aS,aB⟩:=ar.v r hq
 have pF:l.getD i.toNat ⟨0,⟨none,0,0⟩,[]⟩=r:=by rw[du,O];rfl
 have step:oI c l (i+1).toNat=if oI c l i.toNat<fE c r.v c.length then fE c r.v c.length else oI c l i.toNat:=by rw[show(i+1).toNat=i.toNat+1 by omega];show(if _ then _ else _)=_;rw[pF]
 refine⟨p,ad,⟨i0,hi⟩,_,bJ,_,c1,spec.yx (ag.mono zC.le) vU I aB (by omega) λnH mW fT j9 k2=>spec.mr j9 ah ?_⟩
 rw[hw,k2]
 by_cases bD:oI c l i.toNat<fE c r.v c.length
 refine⟨λ_=>⟨⟨by omega,by omega⟩,⟨rfl,by omega,by omega,fT,j9,by rw[step,a1 bD];exact k2⟩,by dsimp only;omega⟩,λJ=>aW ?_ J⟩
 rw[aF (by omega),a1 bD]
 decide
 refine⟨λJ=>aW J ?_,λ_=>⟨⟨by omega,by omega⟩,⟨rfl,by omega,by omega,J,ah,by rw[step,aF bD];exact hw⟩,by dsimp only;omega⟩⟩
 rw[aF bD]
 split<;>decide
 have:i.toNat=l.length:=by omega
 rw[this] at hw
 obtain⟨g1,g2⟩:=CC J ah
 rw[hw] at g1 g2
 refine spec.iH (ag.mono zC.le) (by omega) λaq u' aa _=>⟨aa.le,?_⟩
 rw[g1,g2]
 exact au _ _ _ (aa.weaken zC.le)
open Go.RowKit
def L4{α σ:Type}(P:dY)(fv:ap)(enc:α->ap)(Nx:σ->α->σ->Prop)(s0:σ)(En:σ->Prop)(u:H):Prop:=
 ∀(mu:ap) (cV:σ->H->Prop),(∀s v,cV s v->u.le v)->
  (∀s y aq v (K:aK->H->Prop),Nx s y aq->cV s v->(∀b8,cV aq b8->K ak b8)->Ak P mu #[enc y] [.one .bool] v K)->
  ∀v (K:H->Prop),cV s0 v->(∀s b8,En s->cV s b8->K b8)->hY P fv #[mu] [] v K
def nf.avJ{P:dY}{α σ:Type}{Nx:σ->α->σ->Prop}{s0:σ}{En:σ->Prop}{t x n:N}{assign body:iP}{env:M (N×ap)}{K:N->H->Prop}{enc:α->ap}{fv:ap}{ub:H}(b9:ub.le u)
  (Z:∀f args w,(∃fn,P.funcs[f]?=some fn/\fn.body.isSome=ak)->(p0 f args).run P w=.ok (.enter f args) w) (W:(t,fv)∈env) (J:x<n)
  (iM:∀ai,ub.le ai->L4 P fv enc Nx s0 En ai) (cV:σ->H->Prop) (h0:cV s0 u) (hle:∀i v,cV i v->ub.le v)
  (Nr:∀i y lo v,Nx i y lo->cV i v->CL P n assign body env x (enc y) v (cV lo))
  (au:∀s v D,En s->cV s v->v D=none->K D (v.ins D (.deferred (some [])))):nf P (.rangeFunc (.tmp t) #[x] assign body) n env u K:=by
 intro a w cI s4 Nv gJ
 refine(PZ (n:=0)).1 (wpIn_rangeFunc ?_)
 intro fn _
 have fh:a.eval (.tmp t)=fv:=by simp only[Act.eval];rw[BT,s4 _ W];rfl
 obtain⟨rec,mJ⟩:∃rec:LoopState->Loop,rec=λst=>{state:=st,pending:=none,fn,tmps:=a.tmps,params:=#[x],assign,body,defers:=w.heap.size}:=⟨_,rfl⟩
 obtain⟨iW,jT⟩:∃iW,(w.alloc (.deferred (some []))).alloc (.loop (rec .ready))=iW:=⟨_,rfl⟩
 have ai3:iW.heap.size=w.heap.size+2:=by rw[<-jT];simp
 have Nf:iW.heap[w.heap.size+1]?=some (.loop (rec .ready)):=by rw[<-jT];have:=Lg (w.alloc (.deferred (some []))) (.loop (rec .ready));rwa[D7] at this
 have FC:iW.heap[w.heap.size]?=some (.deferred (some [])):=by rw[<-jT];exact(Below.heap_alloc _ _ _ (by simp)).trans (Lg w _)
 have hold:∀b,b<w.heap.size->iW.heap[b]?=w.heap[b]?:=λb ab=>by rw[<-jT];exact(Below.heap_alloc _ _ _ (by simp;omega)).trans (Below.heap_alloc _ _ _ ab)
 have xC:u (w.heap.size+1)=none:=gJ.none (by omega)
 have Db:u w.heap.size=none:=gJ.none (cA _)
 have NS:ub (w.heap.size+1)=none:=by
  cases J:ub (w.heap.size+1) with
  |none=>rfl|some z=>rw[b9 _ _ J] at xC;cases xC
 have OW:ub.le (ub.ins (w.heap.size+1) (.loop (rec .ready))):=H.b1 _ NS
 have OM:Sub (u.ins (w.heap.size+1) (.loop (rec .ready))) iW:=by intro b z ab;unfold H.ins at ab;split at ab;rename_i eu;subst eu;cases ab;exact Nf;have:=gJ b z ab;have bD:=gJ.lt ab;rw[hold b bD];exact this
 have hG:=iM _ OW (.func (.yield (w.heap.size+1)) #[] #[])
  (λi v=>∃v0,v=v0.ins (w.heap.size+1) (.loop (rec .ready))/\v0 (w.heap.size+1)=none/\v0 w.heap.size=none/\cV i v0)
  (λi v ⟨v0,aA,_,_,aP⟩=>by rw[aA];exact H.Kt (hle i v0 aP) _ _)
  (by
   rintro i y lo v fZ ah ⟨v0,rfl,lh,ue,aP⟩ nS;refine⟨_,rfl,λbd gl=>?_⟩;have xz:bd.heap[w.heap.size+1]?=some (.loop (rec .ready)):=gl _ _ (H.bh _ _ _);have bD:w.heap.size+1<bd.heap.size:=(ya.1 xz).1;have nq:(Instr.yield (w.heap.size+1) #[enc y]).run P bd=.ok (.round (w.heap.size+1) fn (a.tmps.setIfInBounds x (enc y)) assign body) bd:=by have:=run_yield (P:=P) (args:=#[enc y]) xz (by rw[mJ];rfl);rw[mJ] at this;simpa using this
   have ON:Sub v0 bd:=gl.mono (H.b1 _ lh);refine⟨fn,_,assign,body,nq,acU trivial ?_⟩;refine yd (Nr i y lo v0 ah aP (w.heap.size+1) _ bd ?_ ?_ ?_ rfl ON) ?_;simpa using cI;intro p ad Gr;show(a.tmps.setIfInBounds x (enc y))[p.1]?=_;rw[HD (dz Gr)];exact s4 p ad;show(a.tmps.setIfInBounds x (enc y))[x]?=_;rw[UP];simp[cI,J];intro e ac gj ad;cases e with
   |normal=>
    obtain⟨v1,dO,ab⟩:=ad;have Dr:gj.heap[w.heap.size+1]?=some (.loop (rec .ready)):=(dO.rest _ bD lh (by simp)).trans xz;have xB:w.heap.size+1<gj.heap.size:=(ya.1 Dr).1;have gn:v1 (w.heap.size+1)=none:=dO.jq _ bD lh;have AT:v1 w.heap.size=none:=dO.jq _ (by omega) ue;refine⟨_,run_beginRound Dr (by rw[mJ]),yd (ab _ ?_) ?_⟩;intro b z gP;have al:b≠w.heap.size+1:=λe=>by rw[e,gn] at gP;cases gP
    exact(ml al).trans (dO.sub b z gP);rintro e a2 hL ⟨rfl,v2,ri,dB⟩;have NR:(gj.putObj (w.heap.size+1) (.loop {rec .ready with state:=.busy})).heap[w.heap.size+1]?=some (.loop {rec .ready with state:=.busy}):=Hy xB;have s6:hL.heap[w.heap.size+1]?=some (.loop {rec .ready with state:=.busy}):=(dB.rest _ (by simpa using xB) gn (by simp)).trans NR;have NV:w.heap.size+1<hL.heap.size:=(ya.1 s6).1;have h4:v2 (w.heap.size+1)=none:=dB.jq _ (by simpa using xB) gn;have pK:=run_endRound (P:=P) none s6;have MJ:({{rec .ready with state:=LoopState.busy} with state:=if(none:ay iP).isNone then .ready else .done,pending:=none}:Loop)=rec .ready:=by rw[mJ];rfl
    rw[MJ] at pK;refine⟨_,_,pK,.bool ak,v2.ins (w.heap.size+1) (.loop (rec .ready)),rfl,⟨[.bool ak],.cons (t:=.bool) ak .nil,rfl,?_⟩,?_⟩;exact nS _ ⟨v2,rfl,h4,dB.jq _ (by have:=dO.size;simp;omega) AT,ri⟩;refine⟨λb z gP=>?_,dB.os.trans dO.os,dB.tape.trans dO.tape,dB.output.trans dO.output,jg dO.drawn dB.drawn,?_,λb ab fc _=>?_,λb ab fc=>?_,[],by simp,by simp⟩;unfold H.ins at gP;split at gP;rename_i eu;subst eu;cases gP;exact Hy NV;rename_i eu;rw[ml eu];exact dB.sub b z gP;have h1:=dO.size;have h2:=dB.size;simp at h2 ⊢;omega;have al:b≠w.heap.size+1:=λe=>by rw[e,H.bh] at fc;cases fc
    rw[H.bq _ _ al] at fc;have hU:b<gj.heap.size:=KX ab dO.size;rw[ml al,dB.rest b (by simpa using hU) (dO.jq b ab fc) (by simp),ml al];exact dO.rest b ab fc (by simp);have al:b≠w.heap.size+1:=λe=>by rw[e,H.bh] at fc;cases fc
    rw[H.bq _ _ al] at fc ⊢;exact dB.jq b (by have:=dO.size;simp;omega) (dO.jq b ab fc)
   |_=>exact ad.elim)
  _ (λb8=>∃v0,b8=v0.ins (w.heap.size+1) (.loop (rec .ready))/\v0 (w.heap.size+1)=none/\v0 w.heap.size=none/\∃s,En s/\cV s v0) ⟨u,rfl,xC,Db,h0⟩ (λs _ ag ⟨v0,a,b,c,d⟩=>⟨v0,a,b,c,s,ag,d⟩)
 obtain⟨xe,Da,cap,FX,AW,hG⟩:=hG
 rw[FX] at fh
 refine⟨w.heap.size+1,[{target:=.collected w.heap.size,args:=#[]}],iW,{target:=.fn (.func xe) cap,args:=Da++ #[.func (.yield (w.heap.size+1)) #[] #[]]},iW,xe,
  Da++ #[.func (.yield (w.heap.size+1)) #[] #[]]++cap,iW,?_,?_,λ_ _=>trivial,?_,λh=>by simp[uV] at h,?_⟩
 rw[<-jT,mJ];exact acV _ _ _ _ _
 simp only[resolve,fh]
 simp[go_sem]
 simp[invoke,go_sem,Z xe _ _ AW]
 refine PY.2 ((hG iW OM).mono ?_)
 rintro e hL ⟨v,u',rfl,⟨vs,hk,rfl,I⟩,ag⟩
 cases hk
 obtain⟨v0,rfl,lh,ue,s,Gy,aP⟩:∃v0:H,u'=v0.ins (w.heap.size+1) (.loop (rec .ready))/\v0 (w.heap.size+1)=none/\v0 w.heap.size=none/\∃s,En s/\cV s v0:=I
 have s6:hL.heap[w.heap.size+1]?=some (.loop (rec .ready)):=ag.sub _ _ (H.bh _ _ _)
 have M7:hL.heap[w.heap.size]?=some (.deferred (some [])):=by rw[ag.rest _ (by omega) (by rw[H.bq _ _ (by omega)];exact Db) (by simp)];exact FC
 have pK:(Instr.endLoop (w.heap.size+1)).run P hL=.ok none (hL.putObj (w.heap.size+1) (.loop {rec .ready with state:=.exhausted})):=by have:=run_endLoop (P:=P) s6 (by rw[mJ];simp);rw[this];rw[mJ]
 refine⟨none,_,pK,rfl,rfl,w.heap.size,_,?_,au s v0 w.heap.size Gy aP ue,?_⟩
 simp[Nv,Mq]
 have uB:=ag.size
 refine⟨λb z gP=>?_,?_,?_,?_,?_,by simp;omega,λb ab fc _=>?_,λb ab fc=>?_,[],by simp,by simp⟩
 unfold H.ins at gP
 split at gP
 rename_i eu;subst eu;cases gP
 rw[ml (by omega)];exact M7
 have al:b≠w.heap.size+1:=λe=>by rw[e,lh] at gP;cases gP
 rw[ml al]
 exact ag.sub b z (by rw[H.bq _ _ al];exact gP)
 exact ag.os.trans (by rw[<-jT];rfl)
 exact ag.tape.trans (by rw[<-jT];rfl)
 exact ag.output.trans (by rw[<-jT];rfl)
 exact jg (by rw[<-jT];exact cA _) ag.drawn
 have al:b≠w.heap.size+1:=by omega
 rw[ml al,ag.rest b (by omega) (by rw[H.bq _ _ al];exact fc) (by simp)]
 exact hold b ab
 have al:b≠w.heap.size+1:=by omega
 have:=ag.jq b (by omega) (by rw[H.bq _ _ al];exact fc)
 rw[H.bq _ _ al] at this
 rw[H.bq _ _ (by omega)];exact this
end
