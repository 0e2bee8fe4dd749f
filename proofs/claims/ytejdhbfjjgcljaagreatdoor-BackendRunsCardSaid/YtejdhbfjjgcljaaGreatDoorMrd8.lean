/- Texts of mine, joined and packed by pack.py. -/
import Derived.Test.YtejdhbfjjgcljaaGreatDoorMrd7
import Derived.Laws.NewFold
import Derived.Maps.RangeRun
set_option linter.all false
open _root_ renaming List->J,Nat->O,Option->aA,Array->cA,Int->o,Bool->ay,absurd->bf,Inhabited->lF
open Go renaming Program->dL,Value->ap,World->ci,Addr->a8,TypeId->dC,madeCells->mF,MapEntry->zF
open Bool renaming true->ai,false->ao
open Go.Obj renaming cells->bt
open Go.Instr renaming lookup->gY,mapUpdate->kW,makeMap->pr,buildSlice->dA,range->rL,findNow->Gq,findKey->Bx,checkKey->Dx,sameBits->OA
open Go.Builtin renaming append_->dO,delete_->tN,len_->rM
open Go.Addr renaming add->er,mk->cp
open Go.Result renaming andThen->jH
open Go.Proofs.Tryz renaming prog->aH
open Go.Value renaming int->cN,func->js,pointer->ha,slice->ed,oneCell'->cI
open List.Perm renaming cons->j9
open List.Pairwise renaming nil->mG
open List renaming replicate->fz,length->iY
open Prod renaming fst->vl,snd->wD
set_option maxRecDepth 100000
noncomputable section
namespace Go.Proofs.YtejdhbfjjgcljaaGreatDoor
open H
open _root_.Go.Proofs.Tryz
section
variable{u u':H}{b r:O}{P:dL}{t k e:dC}{W v:ap}
class iz (κ:Type) [DecidableEq κ] where
 enc:κ->ap
 desc:TypeDesc
 inj:∀{a b:κ},enc a=enc b->a=b
 same:∀a b:κ,Instr.sameNow desc (enc a) (enc b)=some (a==b)
 bits:∀a:κ,OA 10000 (enc a) (enc a)=ai
 check:∀{P:dL} {t:dC},P.underlying t=some desc->∀(b:ay) (x:κ) (w:ci),(Dx b (9999+1) t (enc x)).run P w=.ok () w
instance:iz o where
 enc:=.int .i64
 desc:=.int .i64
 inj h:=by cases h;rfl
 same _ _:=rfl
 bits _:=by simp[OA]
 check h b x w:=by unfold Dx;simp[eN,ia h,jH]
def afm(a b:ByteArray):@BEq.beq ByteArray ByteArray.instBEq a b=decide (a=b):=by rw[Bool.eq_iff_iff,decide_eq_true_iff];obtain⟨a⟩:=a;obtain⟨b⟩:=b;show(a==b)=ai↔_;simp
instance:iz ByteArray where
 enc:=.string
 desc:=.string
 inj h:=by cases h;rfl
 same a b:=by simp only[Instr.sameNow,afm];rfl
 bits _:=by simp[OA,afm]
 check h b x w:=by unfold Dx;simp[eN,ia h,jH]
variable {κ:Type} [DecidableEq κ] [iz κ]
def MapEntry.jo(e:zF):ap×ap:=(e.key,e.val)
def nR(p:κ×ap):ap×ap:=(iz.enc p.1,p.2)
def abk{p q:κ×ap}(h:nR p=nR q):p=q:=by cases p;cases q;simp only[nR,JF] at h;rw[iz.inj h.1,h.2]
structure aeY(es:cA zF)(clock:O)(l:J (κ×ap)):Prop where
 jo:es.toList.map MapEntry.jo=l.map nR
 born:(es.toList.map (·.born)).Nodup
 lt:∀e∈es.toList,e.born<clock
 nodup:(l.map (·.1)).Nodup
def fE(u:H)(b:O)(l:J (κ×ap)):Prop:=∃es clock,u b=some (.map es clock)/\aeY es clock l
def fE.mono{l:J (κ×ap)}(h:fE u b l)(hu:u.le u'):fE u' b l:=by obtain⟨es,c,h1,h2⟩:=h;exact⟨es,c,hu _ _ h1,h2⟩
def fE.else{l:J (κ×ap)}(h:fE u b l)(hu:∀z,u b=some z->u' b=some z):fE u' b l:=by obtain⟨es,c,h1,h2⟩:=h;exact⟨es,c,hu _ h1,h2⟩
def gm(l:J (κ×ap))(x:κ):aA ap:=(l.find? λp=>p.1==x).map (·.2)
def Lw{l:J (κ×ap)}{x:κ}(h:gm l x=some v):(x,v)∈l:=by
 unfold gm at h;cases ab:l.find? λp=>p.1==x with
 |none=>rw[ab] at h;cases h
 |some p=>
  rw[ab] at h;have h1:=List.find?_some ab;have h2:=ab6 ab;simp only[Dt,ll] at h;have:p.1=x:=by simpa using h1
  rw[<-this,<-h];exact h2
def yL{l:J (κ×ap)}{x:κ}:gm l x=none↔x∉l.map (·.1):=by unfold gm;rw[acq,TL];simp only[beq_iff_eq,bQ,Prod.exists,exists_and_right,exists_eq_right,not_exists,Prod.forall];exact⟨λh v hm=>h x v hm rfl,λh a b hm e=>h b (e▸hm)⟩
def agL{l:J (κ×ap)}(ag:(l.map (·.1)).Nodup){x:κ}:gm l x=some v↔(x,v)∈l:=by
 refine⟨Lw,λh=>?_⟩;cases Z:gm l x with
 |none=>exact bf (bQ.2 ⟨_,h,rfl⟩) (yL.1 Z)|some b9=>
  have bZ:=Lw Z;have:∀{l:J (κ×ap)},(l.map (·.1)).Nodup->(x,v)∈l->(x,b9)∈l->v=b9:=by
   intro l;induction l with
   |nil=>intro _ h;cases h
   |cons p l aW=>intro ag h1 h2;have h3:=ka.1 ag;rcases dM.1 h1 with aT|h1;rcases dM.1 h2 with aN|h2;rw[<-aN] at aT;cases aT;rfl;exact(h3.1 (bQ.2 ⟨_,h2,by rw[<-aT]⟩)).elim;rcases dM.1 h2 with aN|h2;exact(h3.1 (bQ.2 ⟨_,h1,by rw[<-aN]⟩)).elim;exact aW h3.2 h1 h2
  rw[this ag h bZ]
def arY(x:κ):∀(es:J zF) (l:J (κ×ap)) (i:O),es.map MapEntry.jo=l.map nR->
  (gm l x=none->Gq (iz.desc κ) (iz.enc x) es i=some none)/\(∀v,gm l x=some v->∃j,Gq (iz.desc κ) (iz.enc x) es i=some (some (i+j,v))/\l[j]?=some (x,v)):=by
 intro es
 induction es with
 |nil=>
  intro l i h;have:l=[]:=by simpa using h.symm
  subst this;exact⟨λ_=>rfl,λv aB=>(by simp[gm] at aB)⟩
 |cons e es aW=>
  intro l i h;cases l with
  |nil=>simp at h|cons y l=>
   simp only[iw,vj,MapEntry.jo,nR,JF] at h;obtain⟨⟨hk,aB⟩,U⟩:=h;obtain⟨i1,i2⟩:=aW l (i+1) U;unfold Gq;rw[hk,aB];simp only[iz.same];by_cases ir:y.1=x;have aa:(x==y.1)=ai:=by simpa using ir.symm
   have Z:gm (y::l) x=some y.2:=by simp[gm,ir]
   rw[aa,Z];refine⟨λh=>(by cases h),λv aB=>⟨0,?_,?_⟩⟩;cases aB;rfl;cases aB;simp[<-ir];have aa:(x==y.1)=ao:=by simpa using λh=>ir h.symm
   have Z:gm (y::l) x=gm l x:=by
    have:(y.1==x)=ao:=by simpa using ir
    simp[gm,List.find?_cons,this]
   rw[aa,Z];refine⟨i1,λv aB=>?_⟩;obtain⟨j,h1,h2⟩:=i2 v aB;exact⟨j+1,by rw[h1,show i+1+j=i+(j+1) by omega],by simpa using h2⟩
structure ue(κ:Type)[DecidableEq κ][iz κ](P:dL)(t k e:dC)(W:ap):Prop where
 fq:P.underlying t=some (.map k e)
 key:P.underlying k=some (iz.desc κ)
 zero:∀w,(zeroValue e).run P w=.ok W w
abbrev Cf:=ue o
def ue.check(T:ue κ P t k e W)(b:ay)(x:κ)(w:ci):(Dx b 10000 k (iz.enc x)).run P w=.ok () w:=by exact iz.check T.key b x w
def ue.find(T:ue κ P t k e W){es:cA zF}{l:J (κ×ap)}(h:es.toList.map MapEntry.jo=l.map nR)(x:κ)(w:ci):
  (gm l x=none->(Bx k (iz.enc x) es.toList).run P w=.ok none w)/\(∀v,gm l x=some v->∃j,(Bx k (iz.enc x) es.toList).run P w=.ok (some (j,v)) w/\l[j]?=some (x,v)):=by
 obtain⟨h1,h2⟩:=arY x es.toList l 0 h
 constructor
 intro M
 simp[Bx,eN,ia T.key,jH,h1 M]
 intro v aB
 obtain⟨j,aP,aq⟩:=h2 v aB
 rw[kY] at aP
 exact⟨j,by simp[Bx,eN,ia T.key,jH,aP],aq⟩
def OW(T:ue κ P t k e W){l:J (κ×ap)}(h:fE u b l){x:κ}{ct:aI}(y:ct.den)(aj:(gm l x).getD W=ct.enc y){K:ct.den->H->Prop}(au:K y u):
  c7 P (gY t (.map (some b)) (iz.enc x) ao) [.one ct] u K:=by
 obtain⟨es,c,aa,aq⟩:=h
 refine .Dq (c:=ct) y (λw hw=>?_) au
 have Z:=zG (P:=P) (hw _ _ aa)
 have I:=T.check es.isEmpty x w
 obtain⟨f1,f2⟩:=T.find aq.jo x w
 cases M:gm l x with
 |none=>rw[M] at aj;have jC:W=ct.enc y:=aj;simp[gY,eN,ia T.fq,Z,I,f1 M,jH,T.zero,jC]
 |some v=>rw[M] at aj;have jC:v=ct.enc y:=aj;obtain⟨j,aP,_⟩:=f2 v M;simp[gY,eN,ia T.fq,Z,I,aP,jH,jC]
def c7.aD0{m:Sem ap}{c d:aI}{K:c.den->d.den->H->Prop}(x:c.den)(y:d.den)(h:∀w,Sub u w->m.run P w=.ok (.tuple #[c.enc x,d.enc y]) w)(au:K x y u):c7 P m [.one c,.one d] u K:=by intro w hw;exact⟨_,w,u,h w hw,⟨[c.enc x,d.enc y],.cons x (.cons y .nil),rfl,(aI.vx c x _).2 ((aI.vx d y _).2 au)⟩,Step.refl hw⟩
def tU(T:ue κ P t k e W){l:J (κ×ap)}(h:fE u b l){x:κ}{ct:aI}(y:ct.den)(aj:(gm l x).getD W=ct.enc y){K:ct.den->ay->H->Prop}(au:K y (gm l x).isSome u):
  c7 P (gY t (.map (some b)) (iz.enc x) ai) [.one ct,.one .bool] u K:=by
 obtain⟨es,c,aa,aq⟩:=h
 refine c7.aD0 (c:=ct) (d:=.bool) y _ (λw hw=>?_) au
 have Z:=zG (P:=P) (hw _ _ aa)
 have I:=T.check es.isEmpty x w
 obtain⟨f1,f2⟩:=T.find aq.jo x w
 cases M:gm l x with
 |none=>rw[M] at aj;have jC:W=ct.enc y:=aj;simp[gY,eN,ia T.fq,Z,I,f1 M,jH,T.zero,jC,aI.enc]
 |some v=>rw[M] at aj;have jC:v=ct.enc y:=aj;obtain⟨j,aP,_⟩:=f2 v M;simp[gY,eN,ia T.fq,Z,I,aP,jH,jC,aI.enc]
def DK(T:ue κ P t k e W){l:J (κ×ap)}(h:fE u b l){x:κ}(M:gm l x=none){K:H->Prop}
  (au:∀z,fE (u.ins b z) b (l++ [(x,v)])->K (u.ins b z)):
  c7 P (unit (kW t (.map (some b)) (iz.enc x) v)) [] u K:=by
 obtain⟨es,c,aa,aq⟩:=h
 intro w hw
 have Z:=zG (P:=P) (hw _ _ aa)
 have aP:=(T.find aq.jo x w).1 M
 have I:=T.check ao x w
 have j7:=JG (P:=P) (.map (es.push {key:=iz.enc x,val:=v,born:=c}) (c+1)) (hw _ _ aa)
 refine⟨_,_,u.ins b (.map (es.push {key:=iz.enc x,val:=v,born:=c}) (c+1)),?_,⟨[],.nil,rfl,au _ ⟨_,_,bh _ _ _,?_,?_,?_,?_⟩⟩,step_block hw aa _⟩
 simp[unit,kW,eN,ia T.fq,Z,I,aP,jH,j7]
 rfl
 simp[aq.jo,MapEntry.jo,nR]
 rw[Array.toList_push,en]
 refine hg.2 ⟨aq.born,by simp,λa az d av=>?_⟩
 obtain⟨hd,he,rfl⟩:=bQ.1 az
 have:=aq.lt hd he
 simp only[iw,Bz,hZ] at av
 omega
 intro hd he
 rw[Array.toList_push] at he
 rcases dT.1 he with he|he
 have:=aq.lt hd he;omega
 obtain rfl:hd=_:=by simpa using he
 exact Nat.lt_succ_self c
 rw[en]
 refine hg.2 ⟨aq.nodup,by simp,λa az d av=>?_⟩
 have:=yL.1 M
 simp only[iw,Bz,hZ] at av
 exact λe=>this (by rw[<-av,<-e];exact az)
def erase_filter{l:J (κ×ap)}(ag:(l.map (·.1)).Nodup){j:O}{x:κ}(h:l[j]?=some (x,v)):l.eraseIdx j=l.filter λp=>p.1 !=x:=by
 induction l generalizing j with
 |nil=>simp at h|cons p l aW=>
  have h3:=ka.1 ag;cases j with
  |zero=>
   simp only[Du,ll] at h;subst h;have:l.filter (λp=>p.1 !=x)=l:=qe.2 λq aL=>by have:q.1≠x:=λe=>h3.1 (bQ.2 ⟨q,aL,e⟩);simpa using this
   simp[this]|succ j=>simp only[Gj] at h;have ad:p.1≠x:=λe=>h3.1 (bQ.2 ⟨_,dz h,e.symm⟩);rw[List.eraseIdx_cons_succ,aW h3.2 h,List.filter_cons_of_pos (by simpa using ad)]
def OV{bD aba:dC}(T:ue κ P t k e W){l:J (κ×ap)}(h:fE u b l){x:κ}{K:H->Prop}
  (au:∀z,fE (u.ins b z) b (l.filter λp=>p.1 !=x)->K (u.ins b z)):
  c7 P (tN #[t,aba] bD #[.map (some b),iz.enc x]) [] u K:=by
 obtain⟨es,c,aa,aq⟩:=h
 intro w hw
 have Z:=zG (P:=P) (hw _ _ aa)
 have I:=T.check es.isEmpty x w
 obtain⟨f1,f2⟩:=T.find aq.jo x w
 cases M:gm l x with
 |none=>
  have j7:=JG (P:=P) (.map es c) (hw _ _ aa);have ab:l.filter (λp=>p.1 !=x)=l:=qe.2 λq aL=>by have:q.1≠x:=λe=>yL.1 M (bQ.2 ⟨q,aL,e⟩);simpa using this
  refine⟨_,_,u.ins b (.map es c),?_,⟨[],.nil,rfl,au _ ⟨_,_,bh _ _ _,by rw[ab];exact aq⟩⟩,step_block hw aa _⟩;simp[tN,eN,ia T.fq,Z,I,f1 M,jH,j7];rfl
 |some v=>
  obtain⟨j,aP,R4⟩:=f2 v M;have j7:=JG (P:=P) (.map (es.eraseIdxIfInBounds j) c) (hw _ _ aa);have het:(es.eraseIdxIfInBounds j).toList=es.toList.eraseIdx j:=by simp
  have gR:(es.toList.eraseIdx j).Sublist es.toList:=List.eraseIdx_sublist _ _;refine⟨_,_,u.ins b (.map (es.eraseIdxIfInBounds j) c),?_,⟨[],.nil,rfl,au _ ⟨_,_,bh _ _ _,?_,?_,?_,?_⟩⟩,step_block hw aa _⟩;simp[tN,eN,ia T.fq,Z,I,aP,jH,j7];rfl;have key:∀{α β:Type} (f:α->β) (L:J α) (j:O),(L.eraseIdx j).map f=(L.map f).eraseIdx j:=by
    intro α β f L;induction L with
    |nil=>intro j;rfl
    |cons a L aW=>intro j;cases j with
     |zero=>rfl|succ j=>simp[aW j]
  rw[het,key,aq.jo,<-key,erase_filter aq.nodup R4];rw[het];exact aq.born.sublist (gR.map _);intro hd he;rw[het] at he;exact aq.lt hd (gR.mem he);exact aq.nodup.sublist (ack _ JW)
def wK{bD:dC}(T:ue κ P t k e W){l:J (κ×ap)}(h:fE u b l){K:o->H->Prop}(au:K l.length u):
  c7 P (rM #[t] bD #[.map (some b)]) [.one (.int .i64)] u K:=by
 obtain⟨es,c,aa,aq⟩:=h
 have hlen:es.size=l.length:=by have:=eI iY aq.jo;simpa using this
 refine .Dq (c:=.int .i64) (l.length:o) (λw hw=>?_) au
 have Z:=zG (P:=P) (hw _ _ aa)
 simp[rM,eN,ia T.fq,Z,jH,hlen]
 rfl
def aBb(κ:Type)[DecidableEq κ][iz κ]{K:aA O->H->Prop}(au:∀b z,u b=none->fE (u.ins b z) b ([]:J (κ×ap))->K (some b) (u.ins b z)):c7 P (pr t none) [.one .map] u K:=
 .one (c:=.map) λw hw=>⟨some w.heap.size,_,_,Go.RowKit.run_makeMap t w,au _ _ (hw.none (cw _)) ⟨#[],0,bh _ _ _,rfl,by simp,by simp,by simp⟩,Step.Bp hw _⟩
def GL{K:aA O->H->Prop}(au:∀b z,u b=none->fE (u.ins b z) b ([]:J (o×ap))->K (some b) (u.ins b z)):c7 P (pr t none) [.one .map] u K:=aBb o au
def nx(u:H)(r b:O)(l dl:J (κ×ap)):Prop:=
 ∃es clock seen,u b=some (.map es clock)/\aeY es clock l/\u r=some (.mapIter (some b) clock seen clock)/\
  ∃ds:J zF,seen.toList=ds.map (·.born)/\ds.map MapEntry.jo=dl.map nR/\(∀d∈ds,d∈es.toList)/\(dl.map (·.1)).Nodup
def nx.else{l dl:J (κ×ap)}(h:nx u r b l dl)(aa:∀z,u b=some z->u' b=some z)(U:∀z,u r=some z->u' r=some z):nx u' r b l dl:=by obtain⟨es,c,seen,h1,h2,h3,br⟩:=h;exact⟨es,c,seen,aa _ h1,h2,U _ h3,br⟩
def nx.map{l dl:J (κ×ap)}(h:nx u r b l dl):fE u b l:=by obtain⟨es,c,seen,h1,h2,_⟩:=h;exact⟨es,c,h1,h2⟩
def nx.sub{l dl:J (κ×ap)}(h:nx u r b l dl):∀p∈dl,p∈l:=by
 obtain⟨es,c,seen,h1,h2,h3,ds,br,bL,gA,kP⟩:=h;intro p ad;have:nR p∈ds.map MapEntry.jo:=by rw[bL];exact bQ.2 ⟨p,ad,rfl⟩
 obtain⟨d,av,e⟩:=bQ.1 this;have:nR p∈l.map nR:=by rw[<-h2.jo,<-e];exact bQ.2 ⟨d,gA d av,rfl⟩
 obtain⟨q,aL,e⟩:=bQ.1 this;rw[<-abk e];exact aL
def nx.Cw{l dl:J (κ×ap)}(h:nx u r b l dl):(dl.map (·.1)).Nodup:=by obtain⟨es,c,seen,h1,h2,h3,ds,br,bL,gA,kP⟩:=h;exact kP
def J8(T:ue κ P t k e W){l:J (κ×ap)}(h:fE u b l){K:aA a8->H->Prop}(au:∀r z,u r=none->nx (u.ins r z) r b l []->K (some ⟨r,0,none⟩) (u.ins r z)):
  c7 P (rL t (.map (some b))) [.one .ptr] u K:=by
 obtain⟨es,c,aa,aq⟩:=h
 refine .one (c:=.ptr) λw hw=>?_
 have ag:=hw.none (cw _)
 have an:b≠w.heap.size:=λe=>by rw[<-e,aa] at ag;cases ag
 refine⟨some ⟨w.heap.size,0,none⟩,w.alloc (.mapIter (some b) c #[] c),_,?_,au w.heap.size (.mapIter (some b) c #[] c) ag ⟨es,c,#[],by rw[bz _ _ an];exact aa,aq,bh _ _ _,[],rfl,rfl,λd av=>(by cases av),by simp⟩,Step.Bp hw _⟩
 have Z:=zG (P:=P) (hw _ _ aa)
 simp[rL,eN,ia T.fq,Z,jH,aI.enc]
theorem arv{es:J zF}(ag:(es.map (·.born)).Nodup){d e:zF}(av:d∈es)(he:e∈es)(h:d.born=e.born):d=e:=by
 induction es with
 |nil=>cases av
 |cons x es aW=>
  grind
def azT{l dl:J (κ×ap)}(aq:(l.map (·.1)).Nodup)(av:(dl.map (·.1)).Nodup)(h1:∀p∈dl,p∈l)(h2:∀p∈l,p∈dl):dl.Perm l:=by have nd:∀{l:J (κ×ap)},(l.map (·.1)).Nodup->l.Nodup:=λ{l} h=>(tR.1 h).imp λh e=>h (by rw[e]);exact(TM (nd av) (nd aq)).2 λp=>⟨h1 p,h2 p⟩
def Jj{l dl:J (κ×ap)}(h:nx u r b l dl){iK:H->Prop}{Qm:ap->ap->H->Prop}(h0:dl.Perm l->iK u)
  (h1:∀p z,p∈l->p.1∉dl.map (·.1)->nx (u.ins r z) r b l (dl++ [p])->Qm (iz.enc p.1) p.2 (u.ins r z)):w1 P (.pointer (some ⟨r,0,none⟩)) u iK Qm:=by
 have gR:=h.sub
 obtain⟨es,c,seen,aa,aq,U,ds,ea,dJ,v8,M5⟩:=h
 intro w hw
 have an:r≠b:=λe=>by rw[e,aa] at U;cases U
 have Fy:∀e∈es.toList,seen.contains e.born=ai↔e∈ds:=by intro e he;rw[Array.contains_iff_mem,<-Tl,ea,bQ];exact⟨λ⟨d,av,hd⟩=>arv aq.born (v8 d av) he hd▸av,λav=>⟨e,av,rfl⟩⟩
 have X6:∀e∈(leftOf es seen).toList,e∈es.toList/\e∉ds:=λe he=>by unfold leftOf at he;rw[Array.toList_filter] at he;have bZ:=kZ.1 he;refine⟨bZ.1,λav=>?_⟩;have:=(Fy e bZ.1).2 av;rw[this] at bZ;simp at bZ
 have X5:∀e∈es.toList,e∉ds->e∈(leftOf es seen).toList:=λe he av=>by
  unfold leftOf;rw[Array.toList_filter];refine kZ.2 ⟨he,?_⟩;cases I:seen.contains e.born with
  |true=>exact bf ((Fy e he).1 I) av|false=>rfl
 rcases run_next_at (P:=P) w 0 r b c c seen es c (hw _ _ U) (hw _ _ aa) aq.lt (cw _) with⟨aE,om⟩|⟨e,aul,e5,c6,om⟩
 refine⟨w,u,.inl ⟨om,h0 ?_⟩,Step.refl hw⟩
 have ata:leftOf es seen=#[]:=Array.eq_empty_of_size_eq_zero aE
 refine azT aq.nodup M5 gR λp ad=>?_
 have:nR p∈es.toList.map MapEntry.jo:=by rw[aq.jo];exact bQ.2 ⟨p,ad,rfl⟩
 obtain⟨e,he,aT⟩:=bQ.1 this
 have av:e∈ds:=alj λag=>by have:=X5 e he ag;rw[ata] at this;simp at this
 have:nR p∈dl.map nR:=by rw[<-dJ,<-aT];exact bQ.2 ⟨e,av,rfl⟩
 obtain⟨q,aL,aN⟩:=bQ.1 this
 rw[<-abk aN];exact aL
 have aaD:Sub u e5:=by rcases c6 with rfl|rfl<;>exact hw
 have aDo:Step u [] w u [] e5:=by rcases c6 with rfl|rfl;exact Step.refl hw;exact Step.QT hw (Bv w.drawn)
 obtain⟨Mb,b8⟩:=X6 _ aul
 obtain⟨p,ad,tq⟩:∃p∈l,nR p=MapEntry.jo e:=by
  have:MapEntry.jo e∈l.map nR:=by rw[<-aq.jo];exact bQ.2 ⟨e,Mb,rfl⟩
  obtain⟨p,ad,aT⟩:=bQ.1 this;exact⟨p,ad,aT⟩
 have rp:e.key=iz.enc p.1:=(eI vl tq).symm
 have iQ:e.val=p.2:=(eI wD tq).symm
 have Sl:p.1∉dl.map (·.1):=by
  intro hm;obtain⟨q,aL,aT⟩:=bQ.1 hm;have uR:=gR q aL;have awt:q=p:=by have h1:=(agL aq.nodup (x:=p.1) (v:=q.2)).2 (by rw[<-aT];exact uR);have h2:=(agL aq.nodup (x:=p.1) (v:=p.2)).2 ad;rw[h1] at h2;cases q;cases p;simp only[ll] at h2 aT;rw[h2,aT]
  have:nR p∈ds.map MapEntry.jo:=by rw[dJ,<-awt];exact bQ.2 ⟨q,aL,rfl⟩
  obtain⟨d,av,aN⟩:=bQ.1 this;have YJ:d=e:=by
   have au8:MapEntry.jo d=MapEntry.jo e:=by rw[aN,tq]
   obtain⟨m,hm,em⟩:=pv.1 (v8 d av);obtain⟨n,ag,agf⟩:=pv.1 Mb;have rq:m=n:=by
    have hlen:es.toList.length=l.length:=by have:=eI iY aq.jo;simpa using this
    have cB:(l.map nR)[m]?=some (MapEntry.jo d):=by rw[<-aq.jo,pw,dj hm,em];rfl
    have cW:(l.map nR)[n]?=some (MapEntry.jo e):=by rw[<-aq.jo,pw,dj ag,agf];rfl
    have nP:l[m]'(by omega)=l[n]'(by omega):=by rw[au8] at cB;rw[pw,dj (by omega)] at cB cW;exact abk (eh (cB.trans cW.symm))
    rcases Oh m n with bZ|bZ|bZ;have:=lW.1 aq.nodup m n (by simp;omega) (by simp;omega) bZ;simp only[DD] at this;exact bf (by rw[nP]) this;exact bZ;have:=lW.1 aq.nodup n m (by simp;omega) (by simp;omega) bZ;simp only[DD] at this;exact bf (by rw[nP]) this
   subst rq;rw[<-em,<-agf]
  exact b8 (YJ▸av)
 refine⟨_,u.ins r (.mapIter (some b) c (seen.push e.born) c),.inr ⟨_,_,om,?_⟩,aDo.trans (step_block aaD U _)⟩
 rw[rp,iQ]
 refine h1 p _ ad Sl ⟨es,c,seen.push e.born,by rw[bz _ _ (e3 an)];exact aa,aq,bh _ _ _,ds++ [e],by simp[ea],?_,?_,?_⟩
 rw[en,dJ,en];simp[tq]
 intro d av
 rcases dT.1 av with av|av
 exact v8 d av
 obtain rfl:d=e:=by simpa using av
 exact Mb
 rw[en]
 refine hg.2 ⟨M5,by simp,λa az d av=>?_⟩
 simp only[iw,Bz,hZ] at av
 exact λe=>Sl (by rw[<-av,<-e];exact az)
def HR{l dl:J (κ×ap)}{p:κ×ap}(h:nx u r b l (dl++ [p])){K:ap->ap->H->Prop}(au:K (iz.enc p.1) p.2 u):wZ P (.pointer (some ⟨r,0,none⟩)) u K:=by
 obtain⟨es,c,seen,aa,aq,U,ds,ea,dJ,v8,M5⟩:=h;intro w hw;obtain⟨Ey,e,rfl⟩:∃Ey e,ds=Ey++ [e]:=by rcases List.eq_nil_or_concat ds with h|⟨a,b,h⟩;rw[h] at dJ;simp at dJ;exact⟨a,b,by rw[h,List.concat_eq_append]⟩
 have hk:MapEntry.jo e=nR p:=by have:=eI List.getLast? dJ;simpa using this
 have rp:e.key=iz.enc p.1:=eI vl hk;have iQ:e.val=p.2:=eI wD hk;have Fy:seen=(Ey.map (·.born)).toArray.push e.born:=by apply TD;rw[ea];simp
 rw[Fy] at U;have:=run_entry_at (P:=P) w r b c (Ey.map (·.born)).toArray es c e (hw _ _ U) (hw _ _ aa) (v8 e (by simp)) aq.born;exact⟨_,_,w,u,this,by rw[rp,iQ];exact au,Step.refl hw⟩
end
namespace k6
def K3:hy aH 256=ai:=by kernel_rfl
def WG:hy aH 258=ai:=by kernel_rfl
def Xd{ub:H}{n0:O}{id:o}(bA:ub.cell? ⟨n0,0,none⟩=some (.int .i64 id)):Qq ub (.func (.func 258) #[] #[.pointer (some ⟨n0,0,none⟩)]) λr=>decide (r.id=id):=λr v K aB au=>
 .inl ⟨_,_,_,rfl,hs WG,aFu r.id r.s ⟨n0,0,none⟩ v K ⟨_,H.le.cell (show ub.le v from aB) bA,au⟩⟩
theorem ac6{ub:H}{n0 cj:O}{id:o}(bA:ub.cell? ⟨n0,0,none⟩=some (.int .i64 id))(c1:ub.cell? ⟨cj,0,none⟩=some (.func (.func 256) #[] #[.pointer (some ⟨n0,0,none⟩),.pointer (some ⟨cj,0,none⟩)])):
  ∀(n:aw) {u:H} {K:H->Prop},ub.le u->(∀x∈n.bT,hL u x)->n.own.Nodup->(∀c∈n.own,ub c=none)->(∀x∈n.bT,∀r∈x.1.rows,Ints ub r.s r.v)->n.bT.length<=10000000->(∀u' n',Hp id n u' n'->(∀c z,u c=some z->c∉n.own->u' c=some z)->(∀c,u c≠none->u' c≠none)->K u')->
   aeA (some ⟨n.b,0,none⟩) ⟨n0,0,none⟩ ⟨cj,0,none⟩ u K:=by
 intro n
 induction n using aw.ind with
 |h n aW=>
  intro u K cC pe b8 lb ni dm au;have cb:(n.h,n.kids.map aw.b)∈n.bT:=by rw[aw.iD];exact ik ..
  have h0:=pe _ cb;have aa:n.b=n.h.b:=rfl;rw[aw.rI] at b8 lb;have og:=b8;rw[hg] at og;obtain⟨gQ,fK,tl⟩:=og;have Nb:∀g,n.h.a6.al=some g->g∈n.h.dE:=λg Z=>by simp[ev.dE,Z]
  have Nc:n.h.a6.al≠some n.h.b:=λe=>by
   unfold ev.dE at gQ
   grind
  have ax8:n.kids.length<=10000000:=by
   have h1:n.bT.length=1+(n.kids.flatMap aw.bT).length:=by rw[aw.iD,jq];omega
   have h2:∀ks:J aw,ks.length<=(ks.flatMap aw.bT).length:=λks=>by
    induction ks with
    |nil=>simp|cons k ks I0=>rw[jr,gG,jq];have:=k.ah4;omega
   have:=h2 n.kids;omega
  apply aFt;refine⟨_,rfl,n.h.a6,aZ h0.cell 6,?_⟩;refine amS h0.rws.f (Xd bA) cC (λg Z=>lb g (kG _ (Nb g Z))) λs2 il dt iN jy=>?_;have AR:(n.h.rows.filter λr=>!decide (r.id=id))=n.h.rows.filter λr=>r.id !=id:=TN λr _=>by grind
  rw[AR] at dt;refine⟨_,rfl,?_⟩;have YE:il n.h.b=some (.cells (eT n.h).toArray 213 (0,0)):=jy _ _ h0.cell Nc;refine Uu YE s2 (n.h.rows.filter λr=>r.id !=id) ?_;obtain⟨bZ,nI⟩:∃bZ:ev,bZ={n.h with a6:=s2,rows:=n.h.rows.filter λr=>r.id !=id}:=⟨_,rfl⟩;rw[<-nI];have eB:bZ.b=n.h.b:=by rw[nI]
  have L0:bZ.dE=n.h.dE:=by rw[nI];unfold ev.dE;simp[iN]
  obtain⟨gq,rA⟩:∃gq,gq=il.ins n.h.b (.cells (eT bZ).toArray 213 (0,0)):=⟨_,rfl⟩;rw[<-rA];have lH:gq n.h.b=some (.cells (eT bZ).toArray 213 (0,0)):=by rw[rA];exact bh _ _ _
  have ur:∀c z,il c=some z->c≠n.h.b->gq c=some z:=λc z I an=>by rw[rA,bz _ _ an];exact I
  have gI:∀c z,u c=some z->c∉n.h.dE->gq c=some z:=λc z I an=>ur c z (jy c z I λe=>an (Nb c e)) λe=>an (by rw[e];exact ik ..);have abh:∀c,u c≠none->gq c≠none:=λc I=>by by_cases e:c=n.h.b;rw[e,lH];simp;obtain⟨z,ac⟩:=fp.1 I;by_cases aN:n.h.a6.al=some c;obtain⟨zw,jT⟩:=fp.1 (dH dt (g:=c) (by rw[iN];exact aN));rw[ur c zw jT e];simp;rw[ur c z (jy c z ac aN) e];simp
  have wb:ub.le gq:=λc z I=>gI c z (cC c z I) λhm=>by grind
  have N6:∀{e k:O} {s:N} {xs:J ap},Own u e k s xs->(∀g,s.al=some g->g≠n.h.b/\n.h.a6.al≠some g)->Own gq e k s xs:=λac an=>ac.le λc z I hu=>ur c z (jy c z hu λe=>(an c I).2 e) (an c I).1;have kv:(∀g,n.h.bx.al=some g->g≠n.h.b/\n.h.a6.al≠some g)/\(∀g,n.h.fT.al=some g->g≠n.h.b/\n.h.a6.al≠some g)/\(∀g,n.h.dd.al=some g->g≠n.h.b/\n.h.a6.al≠some g):=by unfold ev.dE at gQ;rw[ka] at gQ;obtain⟨di,dv⟩:=gQ;have aL:∀g,g∈n.h.bx.al.toList++n.h.fT.al.toList++n.h.a6.al.toList++n.h.dd.al.toList->g≠n.h.b:=λg Z e=>di (by rw[<-e];exact Z);rw[hg,hg,hg] at dv;obtain⟨⟨⟨_,_,ef⟩,_,hl⟩,_,rJ⟩:=dv;refine⟨λg Z=>⟨aL g (by simp[Z]),λe=>hl g (by simp[Z]) g (by simp[e]) rfl⟩,λg Z=>⟨aL g (by simp[Z]),λe=>hl g (by simp[Z]) g (by simp[e]) rfl⟩,λg Z=>⟨aL g (by simp[Z]),λe=>rJ g (by simp[e]) g (by simp[Z]) rfl⟩⟩
  have LQ:∀tz,tz=n.kids.map aw.b->hL gq (bZ,tz):=λtz Mq=>by subst Mq;subst nI;refine⟨lH,N6 h0.bm kv.1,N6 h0.hi kv.2.1,dt.own.le λc z I hu=>ur c z hu λe=>Nc (by rw[<-iN,I,e]),λr U=>(ni _ cb r (kZ.1 U).1).mono wb,bw.else h0.mf λg z Z ac=>ur g z (jy g z ac λe=>(kv.2.2 g Z).2 e) (kv.2.2 g Z).1⟩
  have FA:bZ.dd=n.h.dd:=by rw[nI]
  refine⟨_,rfl,bZ.dd,by rw[aa];exact aZ lH 7,?_⟩;refine⟨λx w=>0<=x/\x<=n.kids.length/\(∀c z,gq c=some z->c∉n.kids.flatMap aw.own->w c=some z)/\(∀c,gq c≠none->w c≠none)/\∃ds:J aw,ds.length=x.toNat/\(∀(i:O) d k,ds[i]?=some d->n.kids[i]?=some k->Hp id k w d)/\(∀(i:O) k,x.toNat<=i->n.kids[i]?=some k->∀y∈k.bT,hL w y),
   λx _=>((n.kids.length:o)-x).toNat,⟨by omega,by omega,λc z I _=>I,λc I=>I,[],rfl,λi d k av=>by simp at av,λi k _ hk y aj=>?_⟩,?_⟩
  obtain⟨jw,z2⟩:k.own ⊆ n.kids.flatMap aw.own/\True:=⟨λc I=>eA.2 ⟨k,dz hk,I⟩,trivial⟩;have FJ:y∈n.bT:=by rw[aw.iD];exact iX _ (eA.2 ⟨k,dz hk,aj⟩)
  refine(pe y FJ).bO (λc z I ac=>gI c z ac λhm=>tl c hm c (jw (eA.2 ⟨y,aj,I⟩)) rfl) λr U=>(ni y FJ r U).mono wb;rintro x w ⟨bK,dr,si,ma,ds,CT,sd,v7⟩;have lg:ub.le w:=λc z I=>si c z (wb c z I) λhm=>by grind
  have Z8:bZ.dd.n=n.kids.length:=by rw[FA];have:=h0.mf.len;simp at this;omega
  have Fe:∀{W:O} {k:aw},n.kids[W]?=some k->(∀y∈k.bT,y∈n.bT)/\(∀c∈k.own,c∈n.kids.flatMap aw.own):=λhk=>⟨λy aj=>by rw[aw.iD];grind,λc I=>eA.2 ⟨_,dz hk,I⟩⟩;refine⟨λM=>?_,λM=>?_⟩;have eY:x.toNat<n.kids.length:=by omega
  obtain⟨k,hk⟩:∃k,n.kids[x.toNat]?=some k:=⟨_,dj eY⟩;have Z7:bw gq n.h.dd 1 ((n.kids.map aw.b).map λn=>.pointer (some ⟨n,0,none⟩)):=(LQ _ rfl).mf|>λh=>by rw[FA] at h;exact h
  have aaa:bw w n.h.dd 1 ((n.kids.map aw.b).map λn=>.pointer (some ⟨n,0,none⟩)):=bw.else Z7 λg z Z ac=>si g z ac λhm=>tl g (by simp[ev.dE,Z]) g hm rfl;have uG:((n.kids.map aw.b).map λn=>ha (some ⟨n,0,none⟩))[x.toNat]?=some (.pointer (some ⟨k.b,0,none⟩)):=by simp[hk]
  obtain⟨p,ad,gf⟩:=aaa.at'|>.resolve_left (λe=>by grind);have pR:=gf _ _ uG;obtain⟨cB,cW⟩:=Fe hk;have kj:k.own.Nodup:=fK.sublist (TO (kH (f:=aw.own) (dz hk)));have Ng:k.bT.length<=10000000:=by
   have h1:n.bT.length=1+(n.kids.flatMap aw.bT).length:=by rw[aw.iD,jq];omega
   have h2:k.bT.length<=(n.kids.flatMap aw.bT).length:=(TO (kH (f:=aw.bT) (dz hk))).length_le;omega
  refine⟨p,by rw[FA];exact ad,⟨bK,by omega⟩,_,by unfold aG;rw[wz];exact pR,_,lg.cell c1,.inl ⟨_,_,_,rfl,hs K3,?_⟩⟩;refine aW k (dz hk) lg (v7 x.toNat k (cw _) hk) kj (λc I=>lb c (q1 _ (cW c I))) (λy aj=>ni y (cB y aj)) Ng λw' d av eC vW=>?_;have Np:ub.le w':=λc z I=>eC c z (lg c z I) λe=>by grind
  have other:∀{i:O} {dY:aw},n.kids[i]?=some dY->i≠x.toNat->∀c∈dY.own,c∉k.own:=λdk an c I=>agA fK dk hk an I;refine⟨⟨by omega,by omega⟩,⟨by omega,by omega,λc z I hm=>eC c z (si c z I hm) λe=>hm (cW c e),λc I=>vW c (ma c I),ds++ [d],by grind,λi gO dY qI dk=>?_,λi dY hi dk y aj=>?_⟩,by dsimp only;omega⟩;by_cases e:i<ds.length;rw[Gi e] at qI;have hold:=sd i gO dY qI dk;have an:=other dk (by omega);refine⟨λy aj=>(hold.one y aj).bO (λc z I ac=>eC c z ac (an c (by rw[<-hold.own];exact eA.2 ⟨y,aj,I⟩))) λr U=>?_,hold.own,hold.b,hold.bG,hold.rows⟩;obtain⟨W,aE,oQ⟩:=hold.rows y aj r U;exact(ni W ((Fe dk).1 W aE) r oQ).mono Np;have ey:i<(ds++ [d]).length:=(hG.1 qI).1;rw[gG,x9] at ey;have w9:i=x.toNat:=by omega
  rw[Tn (by omega),show i-ds.length=0 by omega] at qI;obtain rfl:=eh (show some d=some gO from qI);rw[w9,hk] at dk;obtain rfl:=eh dk;exact av;refine(v7 i dY (by omega) dk y aj).bO (λc z I ac=>eC c z ac (other dk (by omega) c (eA.2 ⟨y,aj,I⟩))) λr U=>(ni y ((Fe dk).1 y aj) r U).mono Np;have eY:x.toNat=n.kids.length:=by omega
  have aud:ds.length=n.kids.length:=by omega
  have EA:∀{γ:Type} (f g:aw->γ),(∀(i:O) d k,ds[i]?=some d->n.kids[i]?=some k->f d=g k)->ds.map f=n.kids.map g:=λf g YU=>by
   apply sr
   grind
  have HN:ds.map aw.b=n.kids.map aw.b:=EA _ _ λi d k h1 h2=>(sd i d k h1 h2).b;have Xn:ds.flatMap aw.own=n.kids.flatMap aw.own:=by rw[JU,JU,EA aw.own aw.own λi d k h1 h2=>(sd i d k h1 h2).own]
  have ED:ds.map aw.bG=n.kids.map λk=>k.bG.del id:=EA _ _ λi d k h1 h2=>(sd i d k h1 h2).bG;have mem:∀d∈ds,∃k∈n.kids,Hp id k w d:=λd av=>by obtain⟨i,hi,rfl⟩:=oX av;exact⟨_,ln (show i<n.kids.length by omega),sd i _ _ (dj hi) (dj (by omega))⟩
  refine au w (.mk bZ ds) ⟨λy aj=>?_,?_,eB,?_,λy aj r U=>?_⟩ (λc z I hm=>?_) λc I=>ma c (abh c I);rw[aw.iD] at aj;rcases dM.1 aj with rfl|aj;refine(LQ _ HN).bO (λc z I ac=>si c z ac λhm=>tl c (by rw[<-L0];exact I) c hm rfl) λr U=>?_;have cU:r∈n.h.rows:=by grind
  exact(ni _ cb r cU).mono lg;obtain⟨d,av,aj⟩:=eA.1 aj;obtain⟨k,_,hk⟩:=mem d av;exact hk.one y aj;rw[aw.rI,aw.rI];show bZ.dE++ds.flatMap aw.own=_;rw[L0,Xn];rw[aw.hz,aw.hz,bI.del_eq];show bI.mk bZ.aC bZ.bm bZ.hi bZ.cD (bZ.rows.map ax.bn) (ds.map aw.bG)=bI.mk n.h.aC n.h.bm n.h.hi n.h.cD ((n.h.rows.map ax.bn).filter λx=>x.1 !=id) ((n.kids.map aw.bG).map (bI.del id));rw[ED,e4,sB,nI];rfl;rw[aw.iD] at aj;rcases dM.1 aj with rfl|aj;have cU:r∈n.h.rows:=by have:r∈bZ.rows:=U;rw[nI] at this;exact(kZ.1 this).1
  exact⟨_,cb,cU⟩;obtain⟨d,av,aj⟩:=eA.1 aj;obtain⟨k,vX,hk⟩:=mem d av;obtain⟨W,aE,oQ⟩:=hk.rows y aj r U;exact⟨W,by rw[aw.iD];grind,oQ⟩;rw[aw.rI] at hm
  grind
end k6
section
variable{u:H}{s:N}{d:o}
open Go.Sort Go.Shelf
structure re(ak u:H)(s:N)(ls:J ax):Prop where
 own:aD ak u 52 2 s (ls.flatMap cJ)
 inner:∀r∈ls,aD ak u 3 1 r.s (r.v.flatMap encI)
 ej:∀r∈ls,dB s r.s
 apart:ls.Pairwise λa b=>dB a.s b.s
def re.rws{ak:H}{ls:J ax}(h:re ak u s ls):dU u s ls:=⟨h.own.own.cK,λr U=>(h.inner r U).ints⟩
def re.mono{ak u':H}{ls:J ax}(h:re ak u s ls)(k:u.le u'):re ak u' s ls:=
 ⟨h.own.mono k,λr U=>(h.inner r U).mono k,h.ej,h.apart⟩
def Ck(r:ax):Prop:=1<=r.id/\r.id<=1000000000
theorem aAE:SWO (ltOf λa b:{r//Ck r}=>a.1.id-b.1.id) where
 irrefl x:=by unfold ltOf;simp
 trans x y W h1 h2:=by unfold ltOf at*;grind
 ntrans x y W h1 h2:=by unfold ltOf at*;grind
instance:lF {r//Ck r}:=⟨⟨⟨1,⟨none,0,0⟩,[]⟩,by unfold Ck;decide⟩⟩
theorem zV{l:J ax}{K:N->H->Prop}(ae:dU u s l)(cy:∀r∈l,1<=r.id/\r.id<=1000000000)(ag:l.length<=1000000)(aB:∀r∈l,r.v.length<=1000000)
  (au:∀ar ls u',re u u' ar ls->(ls.map ax.bn).Perm (l.map ax.bn)->(ls.Pairwise λa b=>a.id<=b.id)->K ar u'):rY s u K:=by
 have dS:=ae.len
 apply aEI
 refine J7 ig (by omega) (ps _) (by omega) (by omega) λg Z=>?_
 have uK:∀(n:O),(mF [cN .i64 0,.slice none 0 0].toArray (n*2)).toList=(fz n (⟨0,⟨none,0,0⟩,[]⟩:ax)).flatMap cJ:=λn=>Dj (enc:=cJ) fO (by decide) ⟨0,⟨none,0,0⟩,[]⟩ n
 obtain⟨cs,dV⟩:∃cs,mF [cN .i64 0,.slice none 0 0].toArray ((s.n:o).toNat*2)=cs:=⟨_,rfl⟩
 have hR:cs.toList=(fz l.length (⟨0,⟨none,0,0⟩,[]⟩:ax)).flatMap cJ:=by grind
 rw[dV]
 have aua:cs.size=l.length*2:=by rw[<-zE,hR,oc fO];simp
 have kk:aD u (u.ins g (.cells cs 52 (0,0))) 52 2 ⟨some ⟨g,0,none⟩,l.length,l.length⟩ ((fz l.length (⟨0,⟨none,0,0⟩,[]⟩:ax)).flatMap cJ):=by have:=aD.make (k:=2) (H.le.refl u) Z (cells:=cs) (e:=52) (n:=l.length) (by omega) aua;rw[hR] at this;exact this
 rw[show(s.n:o).toNat=l.length by omega]
 have hblk:(⟨some ⟨g,0,none⟩,l.length,l.length⟩:N).al=some g:=rfl
 refine⟨λi w=>0<=i/\i<=l.length/\∃D:J ax,D.map ax.bn=(l.take i.toNat).map ax.bn/\re u w ⟨some ⟨g,0,none⟩,l.length,l.length⟩ (D++fz (l.length-i.toNat) ⟨0,⟨none,0,0⟩,[]⟩),
  λi _=>l.length-i.toNat,⟨by omega,by omega,[],by simp,?_⟩,?_⟩
 refine⟨by simpa using kk,λr U=>?_,λr U=>?_,?_⟩
 simp at U
 rw[U.2]
 exact aD.nil (bX _ Z) _ _
 simp at U
 rw[U.2]
 intro x _ M;simp[N.al] at M
 simp only[mm]
 rw[acr]
 exact .inr λx M=>by simp[N.al] at M
 rintro i w ⟨i0,i1,D,fe,b7⟩
 have Rm:D.length=i.toNat:=by have:=eI iY fe;simp at this;omega
 refine⟨λey=>?_,λCW=>?_⟩
 obtain⟨p,ad,r,U,bA,c1,c2⟩:=(ae.mono b7.own.le).at i0 ey
 have fR:r∈l:=dz U
 have Sp:=c2.len
 have:=aB r fR
 refine⟨p,ad,⟨i0,ey⟩,_,bA,_,c1,sI c2 (by omega) λgV hn IF uO=>⟨IF.le,_,rfl,⟨i0,by grind⟩,?_⟩⟩
 have atn:=b7.mono IF.le
 refine aD.store (enc:=cJ) fO atn.own (by decide) (i:=i.toNat) (by simp;omega) (y:=⟨r.id,gV,r.v⟩) (HQ _) rfl λgK MR RI _=>⟨⟨by omega,by omega⟩,⟨by omega,by omega,D++ [⟨r.id,gV,r.v⟩],?_,?_⟩,by dsimp only;omega⟩
 rw[show(i+1).toNat=i.toNat+1 by omega,fN,U,en,fe]
 simp[ax.bn]
 have j7:(D++fz (l.length-i.toNat) (⟨0,⟨none,0,0⟩,[]⟩:ax)).set i.toNat ⟨r.id,gV,r.v⟩=D++ [⟨r.id,gV,r.v⟩]++fz (l.length-(i+1).toNat) ⟨0,⟨none,0,0⟩,[]⟩:=by rw[show l.length-i.toNat=(l.length-(i+1).toNat)+1 by omega,List.replicate_succ,<-Rm,O1];simp
 rw[j7] at MR
 have hold:∀x∈D,aD u w 3 1 x.s (x.v.flatMap encI):=λx M=>b7.inner x (kG _ M)
 have Y3:w g≠none:=dH b7.own hblk
 have aJU:gV.al≠some g:=λe=>Y3 (IF.fresh g e)
 have aut:∀x∈D,dB x.s gV:=λx M c I dI=>dH (hold x M) I (IF.fresh c dI)
 have aha:∀x∈D,dB ⟨some ⟨g,0,none⟩,l.length,l.length⟩ x.s:=λx M=>b7.ej x (kG _ M)
 refine⟨MR,λx M=>?_,λx M=>?_,?_⟩
 rcases dT.1 M with M|M
 rcases dT.1 M with M|M
 exact aD.else ((hold x M).mono IF.le) RI (λc I=>b7.own.fresh c I) λc I=>aha x M c I
 simp at M
 subst M
 exact aD.else (IF.weaken b7.own.le) RI (λc I=>b7.own.fresh c I) λc I=>by
  grind
 rw[(Gx.1 M).2]
 exact aD.nil (MR.le) _ _
 rcases dT.1 M with M|M
 rcases dT.1 M with M|M
 exact aha x M
 simp at M
 subst M
 intro c I
 grind
 rw[(Gx.1 M).2]
 intro c _ I;simp[N.al] at I
 have kv:=(tP.1 b7.apart).1
 refine tP.2 ⟨tP.2 ⟨kv,by simp,λx M y aj=>?_⟩,?_,λx M y aj=>?_⟩
 simp at aj;subst aj;exact aut x M
 rw[acr]
 exact .inr λc I=>by simp[N.al] at I
 rw[(Gx.1 aj).2]
 intro c _ I;simp[N.al] at I
 have ey:i.toNat=l.length:=by omega
 rw[ey,To,List.replicate_zero,ml] at b7
 rw[ey,pt] at fe
 have ch:∀r∈D,Ck r:=λr U=>by
  have:r.bn∈l.map ax.bn:=by grind
  obtain⟨cx,cU,e⟩:=bQ.1 this;have h1:=cy cx cU;have:cx.id=r.id:=eI vl e;unfold Ck;rw[<-this];exact h1
 obtain⟨E,r5⟩:∃E:J {r//Ck r},E.map (·.1)=D:=⟨D.attachWith _ ch,by simp⟩
 have qO:=b7.own
 rw[<-r5] at qO
 refine aCq (val:=λr:{r//Ck r}=>r.1) aAE (enters_of func105 (by kernel_rfl) rfl) (λa b v=>?_) qO (by grind) λcF Wm ad mB dt jy=>au _ (Wm.map (·.1)) _ ?_ ?_ ?_
 have az:=a.2
 have aa:=b.2
 unfold Ck at az aa
 exact aEJ a.1.id a.1.s b.1.id b.1.s v (λfA cF=>fA=a.1.id-b.1.id/\cF=v) ⟨⟨by omega,by omega⟩,rfl,rfl⟩
 have Ft:(Wm.map (·.1)).Perm D:=by grind
 have mb:∀x∈Wm.map (·.1),x∈D:=λx M=>Ft.mem_iff.1 M
 exact⟨dt,λr U=>aD.else (b7.inner r (mb r U)) jy (λc I=>b7.own.fresh c I) λc I=>b7.ej r (mb r U) c I,λr U=>b7.ej r (mb r U),b7.apart.perm Ft.symm λh=>h.symm⟩
 grind
 grind
def eM(id:o)(v:J o)(d:o)(there:ay)(many:o):o:=
 if id<1∨1000000000<id then 50 else if gx v d≠0 then gx v d else if there=ao/\512<=many then 2 else 0
theorem Kc{id:o}{v:J o}{there:ay}{many:o}{K:o->H->Prop}(ae:Ints u s v)(h:K (eM id v d there many) u):D2 id s d there many u K:=by
 apply aEH;refine qg ae ?_;intro ny oe;have go:∀c0:ay,(c0=ai↔(id<1∨1000000000<id))->ny c0 u:=λc0 aa=>oe c0 u ⟨λe=>?_,λe=>⟨λan=>?_,λhe=>⟨λht=>⟨λhm=>?_,λhm=>?_⟩,λht=>?_⟩⟩⟩;exact⟨λh1=>go ai ⟨λ_=>.inl h1,λ_=>rfl⟩,λh1=>go _ ⟨λe=>.inr (by simpa using e),λe=>by simp;omega⟩⟩;unfold eM at h;rw[b3 (aa.1 e)] at h;exact h
 all_goals
  have vZ:¬(id<1∨1000000000<id):=λaN=>by grind
  unfold eM at h;rw[bF vZ] at h
 rw[b3 an] at h;exact h;rw[bF (by simpa using he),b3 ⟨by simpa using ht,hm⟩] at h;exact h;rw[bF (by simpa using he),bF (λh2=>hm h2.2)] at h;exact h;rw[bF (by simpa using he),bF (λh2=>by rw[ht] at h2;cases h2.1)] at h;exact h
def h7(q:J o)(d k b:o):o:=if gx q d≠0 then gx q d else if k<1∨64<k∨b<0∨1000000<b then 1 else 0
def Ka{t:N}{q:J o}{k b:o}{K:o->H->Prop}(ht:Ints u t q)(h:K (h7 q d k b) u):B5 t d k b u K:=by unfold h7 at h;apply aEF;refine qg ht ⟨λan=>by rw[b3 an] at h;exact h,λhe=>?_⟩;rw[bF (by simpa using he)] at h;by_cases dq:k<1∨64<k∨b<0∨1000000<b;rw[b3 dq] at h;exact⟨λ_=>h,λcB=>⟨λ_=>h,λcW=>⟨λ_=>h,λe7=>⟨λ_=>h,λfy=>by omega⟩⟩⟩⟩;rw[bF dq] at h;exact⟨λcB=>by omega,λ_=>⟨λcW=>by omega,λ_=>⟨λe7=>by omega,λ_=>⟨λfy=>by omega,λ_=>h⟩⟩⟩⟩
theorem aCv{t:N}{a c:J ax}{K:ay->H->Prop}(ae:dU u s a)(ht:dU u t c)(h:K (decide (a.map ax.bn=c.map ax.bn)) u):VK s t u K:=by
 have key:∀W,decide (a.map ax.bn=c.map ax.bn)=W->K W u:=λW e=>e▸h;have ag:=ae.len;have hm:=ht.len;have M:=ae.max;apply aGo;refine⟨λan=>key ao ?_,λRL=>?_⟩;refine q0 λe=>an ?_;have:=eI iY e;simp at this;omega;refine⟨λ_ i w=>w=u/\0<=i/\i<=a.length/\(a.take i.toNat).map ax.bn=(c.take i.toNat).map ax.bn,λ_ i _=>a.length-i.toNat,⟨rfl,by omega,by omega,by simp⟩,?_⟩;rintro c0 i w ⟨rfl,i0,i1,Z2⟩;refine⟨λey=>?_,λCW=>?_⟩;intro r0 tb;obtain⟨p,ad,r,U,bA,c1,c2⟩:=ae.at i0 ey;obtain⟨q,aL,cx,cU,d0,d1,d2⟩:=ht.at (x:=i) i0 (by omega);have bad:r.bn≠cx.bn->K ao w:=λan=>key ao (q0 λe=>an (by
  have:=eI (λW=>W[i.toNat]?) e
  grind))
 refine⟨p,ad,⟨i0,ey⟩,q,aL,⟨i0,by omega⟩,_,bA,_,d0,λan=>bad λe=>an (eI vl e),λcy=>⟨p,ad,⟨i0,ey⟩,q,aL,⟨i0,by omega⟩,_,c1,_,d1,Kd c2 d2 ⟨λan=>bad λe=>an ?_,λaB=>tb _ _ ⟨⟨by omega,by omega⟩,⟨rfl,by omega,by omega,?_⟩,by dsimp only;omega⟩⟩⟩⟩;rw[TE];exact eI wD e;rw[show(i+1).toNat=i.toNat+1 by omega,fN,fN,U,cU,en,en,Z2];have:r.bn=cx.bn:=by
  unfold ax.bn
  grind
 simp[this];have ey:i.toNat=a.length:=by omega
 rw[gC (by omega),gC (by omega)] at Z2;exact key ai (jf Z2)
def Cr{q:J o}{k b:o}:h7 q d k b=0↔gx q d=0/\1<=k/\k<=64/\0<=b/\b<=1000000:=by unfold h7;omega
end
namespace k6
section
variable{u:H}{b:O}
theorem GP{ub:H}{c3:O}{d leaf:o}{s:N}{l:J ax}{K:aA a8->H->Prop}(AX:1<=leaf)(Ki:ub.cell? ⟨c3,0,none⟩=some (.int .i64 d))(q7:ub.cell? ((cp c3 0 none).add 1)=some (.int .i64 leaf))
  (ac:aD ub u 52 2 s (l.flatMap cJ)) (aB:∀r∈l,Ints ub r.s r.v) (bM:gD l d) (h0:l=[]->∀u',u.le u'->K none u') (au:l≠[]->∀u' n,Ql ub u s l d u' n->lM 2 n.bG->K (some ⟨n.b,0,none⟩) u'):Hg (some ⟨c3,0,none⟩) s u K:=by
 have cC:=ac.le
 apply aFA
 intro n0 fJ cj gQ
 obtain⟨gh,kk⟩:∃gh,gh=(bt #[ha (some ⟨c3,0,none⟩)] 113 (0,0)):=⟨_,rfl⟩
 rw[<-kk] at gQ ⊢
 have y6:n0≠cj:=λe=>by rw[<-e,bh] at gQ;cases gQ
 have MK:u cj=none:=by rw[bz _ _ (e3 y6)] at gQ;exact gQ
 refine lZ (zs:=[.nilFunc]) rfl (by simp[cI]) ?_
 obtain⟨e0,jl⟩:∃e0,e0=(bt [yE n0 cj].toArray 170 (0,0)):=⟨_,rfl⟩
 rw[<-jl]
 obtain⟨cF,qP⟩:∃cF,cF=(u.ins n0 gh).ins cj e0:=⟨_,rfl⟩
 rw[<-qP]
 have zm:u.le cF:=by rw[qP];exact(bX _ fJ).trans (bX _ gQ)
 have d0:cF n0=some gh:=by rw[qP,bz _ _ y6,bh]
 have d1:cF cj=some e0:=by rw[qP,bh]
 obtain⟨ja,axb⟩:∃ja:H,ja=λc=>if c=n0 then some gh else if c=cj then some e0 else ub c:=⟨_,rfl⟩
 have fH:ja n0=some gh:=by grind
 have e7:ja cj=some e0:=by grind
 have fy:∀{c},c≠n0->c≠cj->ja c=ub c:=λ{c} h1 h2=>by
  grind
 have qQ:ub.le ja:=λc z I=>by rw[fy (λe=>by rw[e,cC.none fJ] at I;cases I) (λe=>by rw[e,cC.none MK] at I;cases I)];exact I
 have NM:ja.le cF:=λc z I=>by
  by_cases fi:c=n0
  grind
  by_cases aT:c=cj
  grind
  rw[fy fi aT] at I;exact zm c z (cC c z I)
 have dt:aD ja cF 52 2 s (l.flatMap cJ):=⟨(ac.mono zm).own,NM,λg Z=>by rw[fy (λe=>dH ac Z (by rw[e];exact fJ)) (λe=>dH ac Z (by rw[e];exact MK))];exact ac.fresh g Z⟩
 have ch:wX ja n0 cj c3 d leaf:=⟨by rw[kk] at fH;exact aZ fH 0,by rw[jl] at e7;exact aZ e7 0,H.le.cell qQ Ki,H.le.cell qQ q7⟩
 refine⟨_,H.le.cell NM ch.c1,.inl ⟨_,_,_,rfl,hs K2,?_⟩⟩
 exact ac5 AX l.length (cw _) ch dt (λr U=>(aB r U).mono qQ) bM (λe=>h0 e cF zm) λan u' n I fM=>au an u' n ⟨I.one,I.nodup,λc hm=>⟨qQ.none (I.out c hm).1,(I.out c hm).2⟩,I.all,I.ok,I.rows,I.size,λc z h1 h2=>I.uv c z (zm c z h1) h2⟩ fM
inductive bB where
 |tree|map|node|vec
structure aU where
 dim:o
 leaf:o
 root:aA aw
 m:O
 w:J (o×(N×J o))
 eW:O
def aU.cm(T:aU):o:=T.leaf
def fx(T:aU):J ap:=[.int .i64 T.dim,.int .i64 T.leaf,.pointer (T.root.map λn=>⟨n.b,0,none⟩),.map (some T.m)]
def ec(w:J (o×(N×J o))):J (o×ap):=w.map λe=>(e.1,.slice e.2.1.a e.2.1.n e.2.1.c)
structure ee(ah:O->aA bB)(u:H)(b:O)(T:aU):Prop where
 cell:u b=some (.cells (fx T).toArray 169 (0,0))
 dQ:ah b=some .tree
 map:fE u T.m (ec T.w)
 dy:ah T.m=some .map
 vec:∀e∈T.w,Ints u e.2.1 e.2.2/\∀g,e.2.1.al=some g->ah g=some .vec
 one:∀n,T.root=some n->(∀x∈n.bT,hL u x)/\n.own.Nodup/\(∀c∈n.own,ah c=some .node)/\∀x∈n.bT,∀r∈x.1.rows,∀g,r.s.al=some g->ah g=some .vec
theorem ee.bO{ah aY:O->aA bB}{u':H}{T:aU}(h:ee ah u b T)(ab:∀c,ah c≠none->aY c=ah c)(hu:∀c z,u c=some z->ah c≠none->u' c=some z):ee aY u' b T where
 cell:=hu _ _ h.cell (by rw[h.dQ];simp)
 dQ:=by rw[ab _ (by rw[h.dQ];simp)];exact h.dQ
 map:=h.map.else λz ac=>hu _ _ ac (by rw[h.dy];simp)
 dy:=by rw[ab _ (by rw[h.dy];simp)];exact h.dy
 vec e he:=by obtain⟨h1,h2⟩:=h.vec e he;exact⟨bw.else h1 λg z Z ac=>hu g z ac (by rw[h2 g Z];simp),λg Z=>by grind⟩
 one n ag:=by obtain⟨h1,h2,h3,br⟩:=h.one n ag;refine⟨λx M=>(h1 x M).bO (λc z I ac=>hu c z ac (by rw[h3 c (eA.2 ⟨x,M,I⟩)];simp)) λr U=>bw.else ((h1 x M).vec r U) λg z Z ac=>hu g z ac (by grind),h2,λc I=>by grind,λx M r U g Z=>by grind⟩
def bO:yt ee:=⟨λh ab hu=>h.bO ab hu⟩
abbrev In:=mP ee
def lG(T:aU):J ke:=match T.root with
 |none=>[]|some n=>n.bG.all
def bi(X:aU):J (o×J o):=X.w.map λe=>(e.1,e.2.2)
structure dX(T:aU):Prop where
 hP:1<=T.dim/\T.dim<=64
 Bk:1<=T.leaf/\T.leaf<=64
 ids:∀e∈T.w,1<=e.1/\e.1<=1000000000
 vec:∀e∈T.w,(e.2.2.length:o)=T.dim/\cY e.2.2
 small:T.w.length<=512
 rows:(lG T).Perm (bi T)
 ok:∀n,T.root=some n->gr T.dim n.bG
 oA:∀n,T.root=some n->lM 2 n.bG
 size:∀n,T.root=some n->n.bT.length<=1100*T.eW+2000
def je:Cf aH 125 3 30 (.slice none 0 0):=⟨by kernel_rfl,by kernel_rfl,λ_=>by kernel_rfl⟩
def Ll(T:aU):(ec T.w).length=(bi T).length:=by simp[ec,bi]
theorem ee.rW{ah:O->aA bB}{T:aU}(h:ee ah u b T):((bi T).map (·.1)).Nodup:=by
 obtain⟨es,cl,_,he⟩:=h.map;have:=he.nodup;unfold ec at this;rw[e4] at this;unfold bi
 grind
def BM{ak:H}{ah:O->aA bB}{T:aU}{K:o->H->Prop}(h:In ak u ah b T)(au:K (bi T).length u):aeB (some ⟨b,0,none⟩) u K:=by apply aFv;refine⟨λe=>(by cases e),λ_=>⟨_,rfl,_,aZ h.aJ.cell 3,wK je h.aJ.map ?_⟩⟩;rw[Ll];exact au
structure Ag(ak u:H)(ah:O->aA bB)(b:O)(T:aU)(id:o)(u':H)(aY:O->aA bB)(bD:aU):Prop where
 is:In ak u' aY b bD
 eJ:hM u ah u' aY
 ok:dX bD
 rows:bi bD=(bi T).filter λx=>x.1 !=id
 dim:bD.dim=T.dim
 leaf:bD.leaf=T.leaf
 eW:bD.eW=T.eW
theorem s8(w:J (o×(N×J o)))(x:o):(gm (ec w) x=none/\x∉w.map (·.1))∨∃e,e∈w/\e.1=x/\gm (ec w) x=some (.slice e.2.1.a e.2.1.n e.2.1.c):=by
 cases h:gm (ec w) x with
 |none=>
  left;have:=yL.1 h;unfold ec at this
  grind|some v=>
  right;have:=Lw h;obtain⟨e,he,aN⟩:=bQ.1 this
  grind
def nQ(T:aU):(bi T).map (·.1)=T.w.map (·.1):=by unfold bi;rw[e4];rfl
def CC(w:J (o×(N×J o)))(id:o):(ec w).filter (λp=>p.1 !=id)=ec (w.filter λe=>e.1 !=id):=by unfold ec;rw[sB];rfl
theorem wL{ak:H}{ah:O->aA bB}{T:aU}{id:o}{K:ay->o->H->Prop}(h:In ak u ah b T)(aV:dX T)(jk:T.eW<=4000)(dR:id∉T.w.map (·.1)->∀u',u.le u'->K ao 0 u')
  (jD:id∈T.w.map (·.1)->∀u' aY bD,Ag ak u ah b T id u' aY bD->K ai 0 u'):PT (some ⟨b,0,none⟩) id u K:=by
 apply aFs
 intro n0 fJ
 obtain⟨aR,gB⟩:∃aR,aR=u.ins n0 (.cells #[.int .i64 id] 3 (0,0)):=⟨_,rfl⟩
 have dN:u.le aR:=by rw[gB];exact bX _ fJ
 have d0:aR n0=some (.cells #[.int .i64 id] 3 (0,0)):=by rw[gB];exact bh _ _ _
 rw[<-gB]
 have i1:=mP.mono bO h dN
 have aJ:=i1.aJ
 refine⟨λe=>(by cases e),λ_=>⟨_,rfl,_,aZ aJ.cell 3,id,aZ d0 0,?_⟩⟩
 rcases s8 T.w id with⟨Z,hm⟩|⟨e,he,cy,Z⟩
 refine tU je aJ.map (ct:=.slice) (⟨none,0,0⟩:N) (by rw[Z];rfl) ⟨λ_=>dR hm aR dN,λM=>?_⟩
 rw[Z] at M;cases M
 have ch:id∈T.w.map (·.1):=bQ.2 ⟨e,he,cy⟩
 refine tU je aJ.map (ct:=.slice) e.2.1 (by rw[Z];rfl) ⟨λM=>?_,λ_=>?_⟩
 rw[Z] at M;exact bf rfl M
 refine⟨_,rfl,_,aZ aJ.cell 3,id,aZ d0 0,?_⟩
 refine OV je aJ.map λz iF=>?_
 obtain⟨hn,uX⟩:∃hn,hn=aR.ins T.m z:=⟨_,rfl⟩
 rw[<-uX] at iF ⊢
 have lA:∀{c},ah c≠some .map->c≠T.m:=λI e=>I (by rw[e];exact aJ.dy)
 have Xe:∀c z,aR c=some z->c≠T.m->hn c=some z:=λc cn I an=>by rw[uX,bz _ _ an];exact I
 have m10:hn T.m=some z:=by rw[uX];exact bh _ _ _
 have ayO:n0≠T.m:=λe=>by
  have:=h.known T.m (by rw[h.aJ.dy];simp)
  grind
 intro n11 y7
 refine lZ (zs:=[.nilFunc]) rfl (by simp[cI]) ?_
 obtain⟨rH,qN⟩:∃rH,rH=(bt [js (.func 256) #[] #[.pointer (some ⟨n0,0,none⟩),.pointer (some ⟨n11,0,none⟩)]].toArray 324 (0,0)):=⟨_,rfl⟩
 rw[<-qN]
 obtain⟨gK,xH⟩:∃gK,gK=hn.ins n11 rH:=⟨_,rfl⟩
 rw[<-xH]
 have rC:hn.le gK:=by rw[xH];exact bX _ y7
 have d11:gK n11=some rH:=by rw[xH];exact bh _ _ _
 have uq:∀c cn,aR c=some cn->c≠T.m->gK c=some cn:=λc cn I an=>rC c cn (Xe c cn I an)
 have K5:gK b=some (.cells (fx T).toArray 169 (0,0)):=uq b _ aJ.cell (lA (by rw[aJ.dQ];simp))
 obtain⟨n,ag⟩:∃n,T.root=some n:=by
  cases U:T.root with
  |some n=>exact⟨n,rfl⟩|none=>have h1:=aV.rows.length_eq;unfold lG at h1;rw[U] at h1;have h2:=List.length_pos_of_mem he;simp[bi] at h1;omega
 obtain⟨di,dv,ef,hl⟩:=aJ.one n ag
 have uz:gK.cell? ((cp b 0 none).add 2)=some (.pointer (some ⟨n.b,0,none⟩)):=by
  have M:fx T=[.int .i64 T.dim,.int .i64 T.leaf,.pointer (some ⟨n.b,0,none⟩),.map (some T.m)]:=by simp[fx,ag]
  rw[M] at K5;exact aZ K5 2
 refine⟨_,rfl,_,by rw[qN] at d11;exact aZ d11 0,_,uz,_,_,_,rfl,hs K3,?_⟩
 obtain⟨ub,cC⟩:∃ub:H,ub=λc=>open Classical in if c∈n.own then none else gK c:=⟨_,rfl⟩
 have DX:∀{c},c∈n.own->ub c=none:=λI=>by rw[cC];exact b3 I
 have ja:∀{c},c∉n.own->ub c=gK c:=λI=>by rw[cC];exact bF I
 have lub:ub.le gK:=λc cn I=>by
  grind
 have nT:∀{c},ah c≠some .node->c∉n.own:=λI e=>I (ef _ e)
 have ayP:n0∉n.own:=λe=>h.known n0 (by rw[ef n0 e];simp) fJ
 have ayS:n11∉n.own:=λe=>by
  have h1:=i1.known n11 (by rw[ef n11 e];simp);obtain⟨cn,bR⟩:=fp.1 h1
  grind
 have pd:ub.cell? ⟨n0,0,none⟩=some (.int .i64 id):=by
  have z0:ub n0=some (.cells #[.int .i64 id] 3 (0,0)):=by grind
  exact aZ z0 0
 have iO:ub.cell? ⟨n11,0,none⟩=some (.func (.func 256) #[] #[.pointer (some ⟨n0,0,none⟩),.pointer (some ⟨n11,0,none⟩)]):=by
  have jw:ub n11=some rH:=by grind
  rw[qN] at jw;exact aZ jw 0
 have jn:∀x∈n.bT,hL gK x:=λx M=>(di x M).bO (λc cn I bR=>uq c cn bR (lA (by rw[ef c (eA.2 ⟨x,M,I⟩)];simp))) λr U=>bw.else ((di x M).vec r U) λg cn Z bR=>uq g cn bR (lA (by grind))
 have ni:∀x∈n.bT,∀r∈x.1.rows,Ints ub r.s r.v:=λx M r U=>bw.else ((di x M).vec r U) λg cn Z bR=>by
  grind
 have dm:=aV.size n ag
 refine ac6 pd iO n lub jn dv (λc I=>DX I) ni (by omega) λu16 n' av eC kj=>?_
 have yG:∀c cn,aR c=some cn->c≠T.m->c∉n.own->u16 c=some cn:=λc cn I an Zz=>eC c cn (uq c cn I an) Zz
 have Qz:u16 b=some (.cells (fx T).toArray 169 (0,0)):=yG b _ aJ.cell (lA (by rw[aJ.dQ];simp)) (nT (by rw[aJ.dQ];simp))
 have Zr:fE u16 T.m (ec (T.w.filter λe=>e.1 !=id)):=by rw[<-CC];exact iF.else λcn bR=>eC _ _ (rC _ _ bR) (nT (by rw[aJ.dy];simp))
 have aHQ:∀{s:N} {v:J o},Ints aR s v->(∀g,s.al=some g->ah g=some .vec)->Ints u16 s v:=λhi Z=>bw.else hi λg cn cu bR=>yG g cn bR (lA (by rw[Z g cu];simp)) (nT (by rw[Z g cu];simp))
 obtain⟨bD,dZ⟩:∃bD:aU,bD={T with root:=some n',w:=T.w.filter λe=>e.1 !=id}:=⟨_,rfl⟩
 have AR:bi bD=(bi T).filter λx=>x.1 !=id:=by rw[dZ];unfold bi;rw[sB];rfl
 have aa5:∀c,aR c≠none->u16 c≠none:=λc I=>kj c λe=>by
  by_cases aN:c=T.m;rw[aN,rC _ _ m10] at e;cases e;obtain⟨cn,bR⟩:=fp.1 I
  grind
 refine jD ch u16 ah bD ⟨⟨?_,λc cn I=>?_,h.out,λc I=>aa5 c (i1.known c I)⟩,⟨λc cn I ab=>yG c cn (dN c cn I) (lA (by rw[ab];simp)) (nT (by rw[ab];simp)),λc I=>.inl I⟩,?_,AR,by rw[dZ],by rw[dZ],by rw[dZ]⟩
 subst dZ
 refine⟨?_,aJ.dQ,Zr,aJ.dy,λhd fW=>?_,λez fK=>?_⟩
 rw[Qz]
 simp[fx,ag,av.b]
 obtain⟨v1,v2⟩:=aJ.vec hd (kZ.1 fW).1
 grind
 obtain rfl:=eh (show some n'=some ez from fK)
 exact⟨av.one,by rw[av.own];exact dv,λc I=>ef c (by rw[<-av.own];exact I),λx M r U g Z=>by obtain⟨y,aj,M4⟩:=av.rows x M r U;exact hl y aj r M4 g Z⟩
 have YR:=h.out
 have h1:=h.le c cn I
 have ab:ah c=none:=by grind
 exact yG c cn (dN c cn h1) (lA (by rw[ab];simp)) (nT (by rw[ab];simp))
 have IG:=aV.ok n ag
 refine⟨by rw[dZ];exact aV.hP,by rw[dZ];exact aV.Bk,λhd fW=>?_,λhd fW=>?_,?_,?_,λez fK=>?_,λez fK=>?_,λez fK=>?_⟩
 rw[dZ] at fW;exact aV.ids hd (kZ.1 fW).1
 rw[dZ] at fW ⊢;exact aV.vec hd (kZ.1 fW).1
 rw[dZ];exact jW (DE _ _) aV.small
 rw[AR]
 have U:=aV.rows
 rw[dZ]
 unfold lG at U ⊢
 rw[ag] at U
 show n'.bG.all.Perm _
 rw[av.bG,bI.W6]
 exact U.filter _
 rw[dZ] at fK ⊢
 obtain rfl:=eh (show some n'=some ez from fK)
 rw[av.bG]
 exact bI.afY IG
 rw[dZ] at fK
 obtain rfl:=eh (show some n'=some ez from fK)
 rw[av.bG]
 exact(aV.oA n ag).del
 rw[dZ] at fK ⊢
 obtain rfl:=eh (show some n'=some ez from fK)
 rw[<-aw.Jq,av.bG,bI.afZ,aw.Jq]
 exact dm
end
end k6
section
variable{u v ak u':H}{k b:o}{l:J l2}{de n6 n:O}{a6 ss:N}{S:J bN}{R:J b1}{ids q:J o}{r:b1}{s:mS}{p:bI}{rows Q:J ke}{K:ay->H->Prop}{e:l2}
def aC1{s:N}{K:o->H->Prop}(ag:u n=some (.cells #[.int .i64 k,.slice s.a s.n s.c] 143 (0,0)))(au:K s.n u):Wf (some ⟨n,0,none⟩) u K:=by apply aHe;exact⟨λe=>(by cases e),λ_=>⟨_,rfl,s,aZ ag 1,au⟩⟩
def aDc{l:J bN}(ae:o7 l){x:bN}(M:x∈l)(hm:∀y∈l,bP x y=ao):l.getD (l.length-1) default=x:=by
 have aq:0<l.length:=yb.2 λe=>by rw[e] at M;cases M
 obtain⟨i,hi,rfl⟩:=oX M;have hX:l.length-1<l.length:=by omega
 rw[jX,dj hX];show l[l.length-1]=l[i];by_cases e:i=l.length-1;subst e;rfl;have h1:=lW.1 ae i (l.length-1) hi hX (by omega);exact Zo (hm _ (ln hX)) h1
theorem aBQ{fo:O}{hi bm:o}(h:jb ak de k u S)(cB:1<=k)(av:∀g∈S,jJ g.2)(tm:u.cell? ⟨fo,0,none⟩=some (.pointer (some ⟨de,0,none⟩)))(_h1:cE hi)(h2:cE bm)
  (au:∀c0:ay,(c0=ai↔k<=(S.length:o)/\((e1 k.toNat S).getD (k.toNat-1) default).2<dw hi bm)->K c0 u):Vf hi bm ⟨fo,0,none⟩ u K:=by
 obtain⟨l,c6,cb,ad⟩:=h
 obtain⟨s,ag,ac,an⟩:=c6.ex
 have dS:=ac.fk.len
 have hlen:=ad.length_eq
 rw[zX] at hlen
 apply aEP
 refine⟨_,tm,?_⟩
 apply aHh
 have full:∀{x2 j0:o},cE j0->((s.n:o)=k->dw x2 j0=((e1 k.toNat S).getD (k.toNat-1) default).2)->We (some ⟨de,0,none⟩) u (λ(vF:ay) (u8:H)=>((vF=Bool.true)->vz hi bm x2 j0 u8 (λ(aH9:o) (hn:H)=>K (decide ((0:o)<aH9)) hn))/\((vF=Bool.false)->K Bool.false u8)):=by
  intro x2 j0 ajW hw;apply aHd;refine⟨λ_=>⟨_,rfl,_,rfl,s,aZ ag 1,_,aZ ag 0,λaa=>?_,λaa=>?_⟩,λe=>(by cases e)⟩;have he:=BC aa;refine BO h2 ajW ?_;rw[hw he];have pV:k<=(S.length:o):=by omega
  have key:∀W:o,(0<W↔((e1 k.toNat S).getD (k.toNat-1) default).2<dw hi bm)->K (decide (0<W)) u:=λW aE=>au _ (by grind);refine key _ ?_;omega;have he:=Ox aa;exact au _ ⟨λe=>(by cases e),λI=>by omega⟩
 refine aC1 ag ⟨λh0=>⟨_,tm,full ⟨by omega,by omega⟩ λe=>by omega⟩,λZx=>?_⟩
 obtain⟨p,h8,g,Z,bA,c1,c2⟩:=ac.fk.at (x:=0) (by omega) (by omega)
 have AS:l.getD 0 default=g:=by grind
 have vS:g∈l:=dz Z
 have vT:g∈e1 k.toNat S:=ad.mem_iff.1 vS
 have YK:jJ g.2:=av g ((vu _).mem_iff.1 (oW vT))
 have fi:p.add ((0:o).toNat*3)=p.add 0:=rfl
 rw[fi] at bA c1 c2
 refine⟨_,rfl,s,aZ ag 1,p,h8,⟨by omega,by omega⟩,_,bA,_,c1,_,c2,_,tm,full (rF _) λe=>?_⟩
 rw[l0]
 have cX:o5 (λa b:bN=>bP b a):=⟨λa b h=>Fh h,λa b c h k=>C2 k h⟩
 have avx:∀y∈e1 k.toNat S,bP g y=ao:=λy aj=>by
  have FI:=ad.mem_iff.2 aj;obtain⟨i,hi,rfl⟩:=oX FI;have h3:bP (l.getD 0 default) (l.getD i default)=ao:=cb.root cX i hi
  grind
 have aq:=aDc (UG k.toNat S) vT avx
 rw[zX] at aq
 grind
theorem aB9{K:ap->H->Prop}(h:sQ v u n l)(cb:iJ blt l.length l)(an:0<l.length)
  (au:∀u' m,sQ v u' n (lk blt l)->nA v m (l.getD 0 default).2->K (wF ((⟨m,0,none⟩:a8),l.getD 0 default)) u'):D4 (GA n) u K:=by
 obtain⟨L,fj,cX,eL⟩:=h.ex
 have hlen:L.length=l.length:=by grind
 have uG:∀i,l.getD i default=(L.getD i default).2:=λi=>by rw[<-cX];exact getD_map' (f:=λe:k7=>e.2) rfl L i
 have aij:iJ x0 L.length L:=λi i0 i1=>by have:=cb i i0 (by omega);rw[uG,uG] at this;exact this
 obtain⟨gU,_,_,_⟩:=Oa aln aij (by omega)
 refine aBW (alm v n) aln (V:=wF) fj aij (by omega) (λ{u' bH x fB} ae hk=>?_) λu' ae=>?_
 refine aAn ae (by simp) λjv ajn=>?_
 rw[List.dropLast_concat] at ajn
 have e:(bH++ [x]).getD ((bH++ [x]).length-1) default=x:=by grind
 rw[e]
 exact hk jv ajn
 have h0:L.getD 0 default∈L:=by grind
 obtain⟨m,hm,ad⟩:=eL _ h0
 have e:L.getD 0 default=((⟨m,0,none⟩:a8),l.getD 0 default):=by rw[uG,<-hm]
 rw[e]
 refine au u' m ⟨lk x0 L,ae,?_,λy aj=>eL y (gU.mem_iff.1 (iX _ aj))⟩ (by rw[uG];exact ad)
 have aN:=azY (α:=k7) (β:=l2) (lt:=x0) (wk:=blt) (f:=λe:k7=>e.2) rfl (λ_ _=>rfl) L
 grind
def aDC:ku aH 39=some (102,6,96,[.int .i64 0,.slice none 0 0,.slice none 0 0,.int .u64 0,.int .u64 0,.slice none 0 0]):=by kernel_rfl
structure uh(ak u:H)(a6:N)(rest:J b1):Prop where
 own:aD ak u 102 6 a6 (rest.flatMap qD)
 each:∀r∈rest,qx ak u r
 ej:(a6::rest.flatMap b1.gp).Pairwise dB
def uh.mono{rest:J b1}(h:uh ak u a6 rest)(k:u.le u'):uh ak u' a6 rest:=
 ⟨h.own.mono k,λr U=>⟨(h.each r U).l.mono k,(h.each r U).h.mono k,(h.each r U).i.mono k⟩,h.ej⟩
theorem uh.nil(h:ak.le u):uh ak u ⟨none,0,0⟩ []:=⟨aD.nil h _ _,λr U=>(by cases U),by grind⟩
def F9(h:qx ak u r):∀s∈r.gp,∃xs,aD ak u 3 1 s xs:=by intro s ae;simp only[b1.gp,dM,qX,qY] at ae;rcases ae with rfl|rfl|rfl;exact⟨_,h.l⟩;exact⟨_,h.h⟩;exact⟨_,h.i⟩
theorem aAv{aR:H}{rest:J b1}{K:N->H->Prop}(h:uh ak aR a6 rest)(hu:aR.le u)(U:qx aR u r)(f1:dB r.ls r.ae)(f2:dB r.ls r.is)(f3:dB r.ae r.is)(aq:rest.length<=10000000)
  (au:∀ar u',uh ak u' ar (rest++ [r])->hc u u' a6->(∀g,ar.al=some g->a6.al=some g∨u g=none)->K ar u'):
  c7 aH (dA 39 1 #[(0,.agg #[.int .i64 r.aC,.slice r.ls.a r.ls.n r.ls.c,.slice r.ae.a r.ae.n r.ae.c,.int .u64 (cQ r.cD),.int .u64 (cS r.cD),.slice r.is.a r.is.n r.is.c])]) [.one .slice] u λs1 v1=>u.le v1/\c7 aH (dO #[39,39] 39 #[.slice a6.a a6.n a6.c,.slice s1.a s1.n s1.c]) [.one .slice] v1 K:=by
 have hm:=h.mono hu
 have ag:a6.n=rest.length:=hf Li (by decide) hm.own.own.cK
 have adO:ak.le aR:=h.own.le
 have oj:qx ak u r:=⟨U.l.weaken adO,U.h.weaken adO,U.i.weaken adO⟩
 have eL:∀x∈rest++ [r],qx ak u x:=λx M=>by rcases dT.1 M with M|M;exact hm.each x M;rw[hZ.1 M];exact oj
 have Xq:∀s∈r.gp,dB a6 s/\∀t∈rest.flatMap b1.gp,dB t s:=λs ae=>by obtain⟨xs,M⟩:=F9 U s ae;refine⟨aD.ej h.own (H.le.refl aR) M,λt ht=>?_⟩;obtain⟨y,aj,FD⟩:=eA.1 ht;obtain⟨eK,axx⟩:=F9 (h.each y aj) t FD;exact aD.ej axx (H.le.refl aR) M
 have ab:=h.ej
 rw[ix] at ab
 refine zT aDC (afB r.ls r.ae r.is r.aC (cQ r.cD) (cS r.cD)) (by decide) rfl (by simp[cI]) hm.own (by omega) (by omega) λar u' ac hY eC fC _=>au ar u' ⟨?_,λx M=>?_,?_⟩ eC fC
 rw[hb]
 exact ac
 have hk:jL [a6] u u':=λb z aa av=>eC b z aa (av a6 (ik ..))
 refine hk.F8 (eL x M) (λs ae g Z=>by rw[hZ.1 ae] at Z;exact hm.own.fresh g Z) λs ae t ht=>?_
 rw[hZ.1 ae]
 rcases dT.1 M with M|M
 exact ab.1 t (eA.2 ⟨x,M,ht⟩)
 rw[hZ.1 M] at ht;exact(Xq t ht).1
 rw[hb,ix]
 have awO:[r].flatMap b1.gp=r.gp:=by simp
 rw[awO]
 refine⟨λt ht=>?_,tP.2 ⟨ab.2,?_,λt ht s ae=>(Xq s ae).2 t ht⟩⟩
 intro g Z gu
 have qK:dB a6 t:=by rcases dT.1 ht with h1|h1;exact ab.1 t h1;exact(Xq t h1).1
 have qO:∃xs,aD ak u 3 1 t xs:=by rcases dT.1 ht with h1|h1;obtain⟨y,aj,FD⟩:=eA.1 h1;exact F9 (hm.each y aj) t FD;exact F9 oj t h1
 obtain⟨xs,M⟩:=qO
 rcases fC g Z with h1|h1
 exact qK g h1 gu
 exact dH M gu h1
 simp only[b1.gp,ix,dM,qX,qY,OB,OC,mG,rP]
 grind
theorem ys.beside{a cT b:H}(ab:ys a u cT u')(axg:v.le cT)(aa:b.le u)(tv:v.le b)(kv:∀c,a c≠none->b c≠none->v c≠none):b.le u'/\∀c,cT c≠none->b c≠none->v c≠none:=by
 refine⟨λc z I=>?_,λc h1 h2=>?_⟩;cases e:a c with
 |none=>exact(ab.out c z e (aa c z I)).2|some cn=>obtain⟨hT,h2⟩:=fp.1 (kv c (by rw[e];simp) (by rw[I];simp));have h3:=tv c hT h2;rw[I] at h3;cases h3;exact ab.le c z (axg c z h2)
 cases e:a c with
 |none=>obtain⟨z,ac⟩:=fp.1 h2;exact bf (ab.out c z e (aa c z ac)).1 h1
 |some cn=>grind
structure jN(v u:H)(de n6:O)(k:o)(S:J bN)(l:J l2)(ids:J o)(ss a6:N)(R:J b1):Prop where
 ex:∃gw lp,gw.le u/\lp.le u/\v.le gw/\v.le lp/\(∀c,gw c≠none->lp c≠none->v c≠none)/\jb v de k gw S/\sQ v lp n6 l/\(∀s∈ss::a6::R.flatMap b1.gp,∀g,s.al=some g->gw g=none/\lp g=none)
 seen:aD v u 3 1 ss (ids.flatMap encI)
 rest:uh v u a6 R
 ej:∀s∈a6::R.flatMap b1.gp,dB ss s
def jN.le(h:jN v u de n6 k S l ids ss a6 R):v.le u:=h.seen.le
def jN.known(h:jN v u de n6 k S l ids ss a6 R):∀s∈ss::a6::R.flatMap b1.gp,∀g,s.al=some g->u g≠none:=by intro s ae g Z;rcases dM.1 ae with rfl|ae;exact dH h.seen Z;rcases dM.1 ae with rfl|ae;exact dH h.rest.own Z;obtain⟨y,aj,FD⟩:=eA.1 ae;obtain⟨xs,M⟩:=F9 (h.rest.each y aj) s FD;exact dH M Z
def uh.stay(h:uh v u a6 R)(aB:v.le u')(ae:∀s∈a6::R.flatMap b1.gp,∀g z,s.al=some g->u g=some z->u' g=some z):uh v u' a6 R:=by have one:∀{e k:O} {s:N} {xs:J ap},aD v u e k s xs->s∈a6::R.flatMap b1.gp->aD v u' e k s xs:=λac hm=>⟨ac.own.le λb z aa hu=>ae _ hm b z aa hu,aB,ac.fresh⟩;refine⟨one h.own (ik ..),λr U=>?_,h.ej⟩;have hm:∀s∈r.gp,s∈a6::R.flatMap b1.gp:=λs ae=>iX _ (eA.2 ⟨r,U,ae⟩);exact⟨one (h.each r U).l (hm _ (by simp[b1.gp])),one (h.each r U).h (hm _ (by simp[b1.gp])),one (h.each r U).i (hm _ (by simp[b1.gp]))⟩
theorem aC6{x:bN}(h:jN v u de n6 k S l ids ss a6 R)(cB:1<=k)(cW:k<=64)
  (au:∀b u',jN v u' de n6 k (x::S) l ids ss a6 R->K b u'):Ad (some ⟨de,0,none⟩) x.1 (cQ x.2) (cS x.2) u K:=by
 obtain⟨gw,lp,t1,di,t2,dv,kv,aV,fj,e8⟩:=h.ex
 have I:=Pe (K:=λ_ u'=>jb v de k u' (x::S)) aV cB cW λb u' bZ=>bZ
 refine I.frame t1 ?_
 intro b anY u' ab dZ
 have gS:=dZ.le
 obtain⟨e7,fy⟩:=ab.beside gS di dv kv
 have stay:∀s∈ss::a6::R.flatMap b1.gp,∀g z,s.al=some g->u g=some z->anY g=none/\u' g=some z:=λs ae g z Z ac=>ab.out g z (e8 s ae g Z).1 ac
 refine au b u' ⟨⟨anY,lp,ab.le,e7,gS,dv,fy,dZ,fj,λs ae g Z=>?_⟩,⟨h.seen.own.le λg z Z ac=>(stay _ (ik ..) g z Z ac).2,gS.trans ab.le,h.seen.fresh⟩,h.rest.stay (gS.trans ab.le) λs ae g z Z ac=>(stay s (iX _ ae) g z Z ac).2,h.ej⟩
 obtain⟨z,ac⟩:=fp.1 (h.known s ae g Z)
 grind
theorem jN.queue{gw lp G4:H}{bH:J l2}(h:jN v u de n6 k S l ids ss a6 R)(t1:gw.le u)(t2:v.le gw)(kv:∀c,gw c≠none->lp c≠none->v c≠none)
  (aV:jb v de k gw S) (e8:∀s∈ss::a6::R.flatMap b1.gp,∀g,s.al=some g->gw g=none/\lp g=none) (ab:ys lp u G4 u') (gS:v.le G4) (EP:sQ v G4 n6 bH):jN v u' de n6 k S bH ids ss a6 R:=by
 obtain⟨e7,fy⟩:=ab.beside gS t1 t2 λc h1 h2=>kv c h2 h1
 have stay:∀s∈ss::a6::R.flatMap b1.gp,∀g z,s.al=some g->u g=some z->G4 g=none/\u' g=some z:=λs ae g z Z ac=>ab.out g z (e8 s ae g Z).2 ac
 refine⟨⟨gw,G4,e7,ab.le,t2,gS,λc h1 h2=>fy c h2 h1,aV,EP,λs ae g Z=>?_⟩,⟨h.seen.own.le λg z Z ac=>(stay _ (ik ..) g z Z ac).2,gS.trans ab.le,h.seen.fresh⟩,h.rest.stay (gS.trans ab.le) λs ae g z Z ac=>(stay s (iX _ ae) g z Z ac).2,h.ej⟩
 obtain⟨z,ac⟩:=fp.1 (h.known s ae g Z)
 grind
def sQ.le(h:sQ v u n l):v.le u:=by obtain⟨L,fj,_,_⟩:=h.ex;obtain⟨s,_,ac,_⟩:=fj.ex;exact ac.le
def anc{n0 m:O}{s:N}{K:H->Prop}(h:jN v u de n6 k S l ids ss a6 R)(aq:l.length<10000000)(ad:nA v m p)
  (bM:l3 (p.hI []) q.length) (aL:cY q) (fJ:v.cell? ⟨n0,0,none⟩=some (.slice s.a s.n s.c)) (ae:Ints v s q) (au:∀u',jN v u' de n6 k S (pI q l p) ids ss a6 R->K u'):Ve (some ⟨m,0,none⟩) ⟨n0,0,none⟩ ⟨n6,0,none⟩ u K:=by
 obtain⟨gw,lp,t1,di,t2,dv,kv,aV,fj,e8⟩:=h.ex
 have I:=aBP (K:=λu'=>sQ v u' n6 (pI q l p)) fj dv aq ad bM aL (dv.cell fJ) (ae.mono dv) λu' bZ=>bZ
 refine I.frame di ?_
 intro G4 u' ab EP
 exact au u' (h.queue t1 t2 kv aV e8 ab EP.le EP)
def aC8{K:ap->H->Prop}(h:jN v u de n6 k S l ids ss a6 R)(cb:iJ blt l.length l)(an:0<l.length)
  (au:∀u' m,jN v u' de n6 k S (lk blt l) ids ss a6 R->nA v m (l.getD 0 default).2->K (wF ((⟨m,0,none⟩:a8),l.getD 0 default)) u'):D4 (GA n6) u K:=by
 obtain⟨gw,lp,t1,di,t2,dv,kv,aV,fj,e8⟩:=h.ex
 have I:=aB9 (K:=λx u'=>∃m,x=wF ((⟨m,0,none⟩:a8),l.getD 0 default)/\sQ v u' n6 (lk blt l)/\nA v m (l.getD 0 default).2) fj cb an λu' m h1 h2=>⟨m,rfl,h1,h2⟩
 refine I.frame di ?_
 rintro x G4 u' ab ⟨m,rfl,EP,ad⟩
 exact au u' m (h.queue t1 t2 kv aV e8 ab EP.le EP) ad
def jb.whole{gw:H}(h:jb v de k gw S)(hu:gw.le u):jb v de k u S:=h.mono hu
def aC7{fo:O}{hi bm:o}(h:jN v u de n6 k S l ids ss a6 R)(cB:1<=k)(av:∀g∈S,jJ g.2)
  (tm:v.cell? ⟨fo,0,none⟩=some (.pointer (some ⟨de,0,none⟩))) (h1:cE hi) (h2:cE bm) (au:∀c0:ay,(c0=ai↔k<=(S.length:o)/\((e1 k.toNat S).getD (k.toNat-1) default).2<dw hi bm)->K c0 u):Vf hi bm ⟨fo,0,none⟩ u K:=by
 obtain⟨gw,lp,t1,di,t2,dv,kv,aV,fj,e8⟩:=h.ex
 exact aBQ (aV.whole t1) cB av (h.le.cell tm) h1 h2 au
theorem le_none{a:H}(h:a.le u){g:O}(Z:u g=none):a g=none:=by
 cases e:a g with
 |none=>rfl|some z=>have:=h g z e;grind
theorem aHW{x:o}{K:N->H->Prop}(h:jN v u de n6 k S l ids ss a6 R)(aq:ids.length<10000000)
  (au:∀ar u',jN v u' de n6 k S l (ids++ [x]) ar a6 R->K ar u'):
  c7 aH (dA 30 1 #[(0,.int .i64 x)]) [.one .slice] u λs1 aR=>c7 aH (dO #[30,30] 30 #[.slice ss.a ss.n ss.c,.slice s1.a s1.n s1.c]) [.one .slice] aR K:=by
 obtain⟨gw,lp,t1,di,t2,dv,kv,aV,fj,e8⟩:=h.ex
 have ag:=h.seen.ints.len
 refine mn kK (yA _) (by decide) rfl (by simp[cI]) h.seen (by omega) (by omega) λar u' ac hY eC fC _=>au ar u' ?_
 have fresh:∀g,ar.al=some g->gw g=none/\lp g=none:=λg Z=>by
  rcases fC g Z with h1|h1
  grind
  exact⟨le_none t1 h1,le_none di h1⟩
 have ant:∀{w:H},w.le u->(∀g,ss.al=some g->w g=none)->w.le u':=λhw Z b z aa=>eC b z (hw b z aa) λe=>by grind
 have arP:∀s∈a6::R.flatMap b1.gp,dB ar s:=λs ae g Z gu=>by rcases fC g Z with h1|h1;exact h.ej s ae g h1 gu;exact h.known s (iX _ ae) g gu h1
 refine⟨⟨gw,lp,ant t1 λg Z=>(e8 ss (ik ..) g Z).1,ant di λg Z=>(e8 ss (ik ..) g Z).2,t2,dv,kv,aV,fj,λs ae g Z=>?_⟩,?_,h.rest.stay ac.le λs ae g z Z bR=>eC g z bR λe=>h.ej s ae g e Z,arP⟩
 grind
 rw[hb]
 exact ac
theorem aor{w:H}{K:N->H->Prop}(h:jN v u de n6 k S l ids ss a6 R)(hw:u.le w)(U:qx u w r)(f1:dB r.ls r.ae)(f2:dB r.ls r.is)(f3:dB r.ae r.is)(aq:R.length<=10000000)
  (au:∀ar u',jN v u' de n6 k S l ids ss ar (R++ [r])->hc w u' a6->(∀g,ar.al=some g->a6.al=some g∨w g=none)->K ar u'):
  c7 aH (dA 39 1 #[(0,.agg #[.int .i64 r.aC,.slice r.ls.a r.ls.n r.ls.c,.slice r.ae.a r.ae.n r.ae.c,.int .u64 (cQ r.cD),.int .u64 (cS r.cD),.slice r.is.a r.is.n r.is.c])]) [.one .slice] w λs1 v1=>w.le v1/\c7 aH (dO #[39,39] 39 #[.slice a6.a a6.n a6.c,.slice s1.a s1.n s1.c]) [.one .slice] v1 K:=by
 obtain⟨gw,lp,t1,di,t2,dv,kv,aV,fj,e8⟩:=h.ex
 refine aAv h.rest hw U f1 f2 f3 aq λar u' b7 eC fC=>au ar u' ?_ eC fC
 have akL:∀s∈r.gp,∃xs,aD u w 3 1 s xs:=F9 U
 have fresh:∀s∈ss::ar::(R++ [r]).flatMap b1.gp,∀g,s.al=some g->gw g=none/\lp g=none:=λs ae g Z=>by
  rcases dM.1 ae with rfl|ae
  grind
  rcases dM.1 ae with rfl|ae;rcases fC g Z with h1|h1
  grind
  exact⟨le_none (t1.trans hw) h1,le_none (di.trans hw) h1⟩;rw[hb] at ae;rcases dT.1 ae with ae|ae
  grind
  obtain⟨xs,M⟩:=akL s (by simpa using ae);exact⟨le_none t1 (M.fresh g Z),le_none di (M.fresh g Z)⟩
 have agu:dB ss a6:=h.ej a6 (ik ..)
 have bO:∀{W:H},W.le u->(∀g,a6.al=some g->W g=none)->W.le u':=λaE Z b z aa=>eC b z (hw b z (aE b z aa)) λe=>by grind
 refine⟨⟨gw,lp,bO t1 λg Z=>(e8 a6 (by simp) g Z).1,bO di λg Z=>(e8 a6 (by simp) g Z).2,t2,dv,kv,aV,fj,fresh⟩,⟨h.seen.own.le λb z aa ac=>eC b z (hw b z ac) λe=>agu b aa e,b7.own.le,h.seen.fresh⟩,b7,λs ae=>?_⟩
 rcases dM.1 ae with rfl|ae
 intro g Z gu
 rcases fC g gu with h1|h1
 exact agu g Z h1
 have:=dH h.seen Z
 exact this (le_none hw h1)
 rw[hb] at ae
 rcases dT.1 ae with ae|ae
 exact h.ej s (iX _ ae)
 obtain⟨xs,M⟩:=akL s (by simpa using ae)
 exact aD.ej h.seen (H.le.refl u) M
theorem sQ.slice(h:sQ v u n l):∃s:N,u.cell? ⟨n,0,none⟩=some (.slice s.a s.n s.c)/\s.n=l.length/\∀x:o,0<=x->x<(s.n:o)->∃p m e,s.a=some p/\l[x.toNat]?=some e/\nA v m e.2/\
  u.cell? (p.add (x.toNat*3))=some (.pointer (some ⟨m,0,none⟩))/\u.cell? ((p.add (x.toNat*3)).add 1)=some (.int .u64 (cQ e.1))/\u.cell? ((p.add (x.toNat*3)).add 2)=some (.int .u64 (cS e.1)):=by
 obtain⟨L,fj,cX,eL⟩:=h.ex
 obtain⟨s,ag,ac,_⟩:=fj.ex
 refine⟨s,aZ ag 0,by rw[ac.kI.len,<-cX,eb],λx bK dr=>?_⟩
 obtain⟨p,ad,y,aj,bA,c1,c2⟩:=ac.kI.at bK dr
 obtain⟨m,hm,ZK⟩:=eL y (dz aj)
 grind
def jN.slice(h:jN v u de n6 k S l ids ss a6 R):∃s:N,u.cell? ⟨n6,0,none⟩=some (.slice s.a s.n s.c)/\s.n=l.length/\∀x:o,0<=x->x<(s.n:o)->∃p m e,s.a=some p/\l[x.toNat]?=some e/\nA v m e.2/\
  u.cell? (p.add (x.toNat*3))=some (.pointer (some ⟨m,0,none⟩))/\u.cell? ((p.add (x.toNat*3)).add 1)=some (.int .u64 (cQ e.1))/\u.cell? ((p.add (x.toNat*3)).add 2)=some (.int .u64 (cS e.1)):=by
 obtain⟨gw,lp,t1,di,t2,dv,kv,aV,fj,e8⟩:=h.ex
 obtain⟨s,h1,h2,h3⟩:=fj.slice
 refine⟨s,di.cell h1,h2,λx bK dr=>?_⟩
 obtain⟨p,m,e,g1,g2,g3,g4,g5,g6⟩:=h3 x bK dr
 exact⟨p,m,e,g1,g2,g3,di.cell g4,di.cell g5,di.cell g6⟩
def jN.mono(h:jN v u de n6 k S l ids ss a6 R)(hu:u.le u'):jN v u' de n6 k S l ids ss a6 R:=by obtain⟨gw,lp,t1,di,t2,dv,kv,aV,fj,e8⟩:=h.ex;exact⟨⟨gw,lp,t1.trans hu,di.trans hu,t2,dv,kv,aV,fj,e8⟩,h.seen.mono hu,h.rest.mono hu,h.ej⟩
def pN(x:bI×J ke):o×o×J o×J o×J o:=(x.1.aC,x.1.cD,x.1.bm,x.1.hi,cR (x.2.map (·.1)))
def QN(h:r.core=pN (p,rows)):r.aC=p.aC/\r.cD=p.cD/\r.bm=p.bm/\r.hi=p.hi/\r.ids=cR (rows.map (·.1)):=by simp only[b1.core,pN,JF] at h;omega
theorem azc(h:r.core=pN (p,rows))(q:J o):nS r q=nS (p.hI []) q:=by
 obtain⟨h1,h2,h3,br,_⟩:=QN h;unfold nS bI.hI
 grind
theorem axQ(h:r.core=pN (p,rows)){v:J o}(hi:mq (p.hI []) v):mq r v:=by
 obtain⟨h1,h2,h3,br,_⟩:=QN h;unfold mq bI.hI at*
 grind
theorem aAt{d:o}(h:r.core=pN (p,rows))(ad:l3 (p.hI []) d)(ag:(rows.map (·.1)).Nodup)(cy:∀x∈rows,1<=x.1/\x.1<=1000000000):l3 r d:=by
 obtain⟨h1,h2,h3,br,bL⟩:=QN h;refine⟨ad.dim,by rw[bL];exact DN ag,λx M=>?_,?_⟩;rw[bL] at M;obtain⟨y,aj,rfl⟩:=bQ.1 ((ns _).mem_iff.1 M);exact cy y aj;have:=ad.shape;unfold bI.hI at this
 simp_all
theorem azV{L:J ax}:∀{S:J ke},(∀x∈S,x∈L.map ax.bn)->∃m:J ax,m.map ax.bn=S/\∀r∈m,r∈L:=by
 intro S;induction S with
 |nil=>simp_all|cons x S aW=>
  intro h;obtain⟨m,h1,h2⟩:=aW λy aj=>h y (iX _ aj);obtain⟨r,U,e⟩:=bQ.1 (h x (ik ..));exact⟨r::m,by rw[iw,h1,e],λy aj=>by
   grind⟩
theorem abr(s:mS):(ou s).flatMap (·.2)=s.rest.flatMap (·.2)++s.heap.flatMap λx=>x.2.all:=by
 unfold ou;rw[hb];congr 1;generalize s.heap=l;induction l with
 |nil=>rfl|cons x l aW=>
  grind
theorem abt{P:J ke}(h:sU q b P s):∀x∈ou s,gr q.length x.1/\x.2≠[]/\(∀y∈x.2,y∈x.1.all):=by
 intro x M;unfold ou at M;rcases dT.1 M with h1|h1;exact h.left x h1;obtain⟨h2,h3⟩:=kZ.1 h1;obtain⟨y,aj,rfl⟩:=bQ.1 h2;refine⟨(h.tD y aj).2,λe=>?_,λW aE=>aE⟩
 grind
theorem GW{α β:Type}{f:α->J β}{x:α}:∀{l:J α},x∈l->List.Sublist (f x) (l.flatMap f):=by
 intro l;induction l with
 |nil=>intro h;cases h
 |cons y l aW=>
  grind
theorem ad7{c9:J bI}{L:J ax}{rs:J b1}(aa:0<=b)(hk:1<=k)(awo:∀p∈c9,gr q.length p)(aL:jx L q)(cX:(L.map ax.bn).Perm (bI.j2 c9))(U:rs.map b1.core=(ou (o1 q k b c9)).map pN):
  Sound L q k (yj q k (o1 q k b c9)) (cR ((o1 q k b c9).seen.map (·.1))) rs/\((cR ((o1 q k b c9).seen.map (·.1))).length:o)<=b/\
   (((cR ((o1 q k b c9).seen.map (·.1))).length:o)=b∨(cR ((o1 q k b c9).seen.map (·.1))).length=L.length∨sO q k (yj q k (o1 q k b c9)) rs):=by
 obtain⟨hw,pS⟩:=aHS (k:=k) aa awo
 generalize o1 q k b c9=s at*
 have lz:=hw.perm
 rw[<-abr] at lz
 have eL:=lz.trans cX.symm
 have aJa:(L.map ax.bn).map (·.1)=L.map (·.id):=by rw[e4];rfl
 have kA:(s.seen.map (·.1)++((ou s).flatMap (·.2)).map (·.1)).Perm (L.map (·.id)):=by grind
 have b8:=kA.nodup_iff.2 aL.rows.nodup
 have A0:=(hg.1 b8).1
 have Sf:=(hg.1 b8).2.1
 have AM:∀r∈rs,∃x∈ou s,r.core=pN x:=λr fR=>by
  have:r.core∈(ou s).map pN:=by grind
  grind
 have aiO:∀x∈ou s,∀y∈x.2,y∈L.map ax.bn:=λx M y aj=>eL.mem_iff.1 (q1 _ (eA.2 ⟨x,M,aj⟩))
 have ajl:∀r∈rs,∃x∈ou s,r.core=pN x/\l3 r q.length:=λr fR=>by
  obtain⟨x,M,e⟩:=AM r fR;obtain⟨h1,h2,h3⟩:=abt hw x M;refine⟨x,M,e,aAt (p:=x.1) (rows:=x.2) e h1.kb ?_ λy aj=>?_⟩
  grind
  obtain⟨w,lh,s6⟩:=bQ.1 (aiO x M y aj);rw[<-s6];exact aL.rows.id w lh
 have Mf:(rs.flatMap (·.ids)).Perm (((ou s).flatMap (·.2)).map (·.1)):=by
  have aT:rs.flatMap (·.ids)=(rs.map b1.core).flatMap λW=>W.2.2.2.2:=by rw[BA];rfl
  rw[aT,U,BA];generalize ou s=l;induction l with
  |nil=>exact .refl _|cons x l aW=>rw[jr,jr,en];exact(ns _).append aW
 have hlen:(cR (s.seen.map (·.1))).length=s.seen.length:=by rw[yi,eb]
 obtain⟨ms,Iw,tj⟩:=azV (L:=L) (S:=s.seen) λx M=>eL.mem_iff.1 (kG _ M)
 have p2:yj q k s=e1 k.toNat (ms.map (hj q)):=by unfold yj;rw[<-Iw,e4];rfl
 refine⟨⟨DN A0,λr fR=>?_,?_,λm hm MG=>?_⟩,by rw[hlen];exact hw.vM,?_⟩
 obtain⟨x,M,e,IH⟩:=ajl r fR
 obtain⟨h1,h2,h3⟩:=abt hw x M
 obtain⟨_,_,_,_,gI⟩:=QN (p:=x.1) (rows:=x.2) e
 refine⟨IH,λag=>?_,λy aj=>?_⟩
 rw[gI] at ag
 have:=eI iY ag
 rw[yi,eb,sw] at this
 grind
 rw[gI] at aj
 obtain⟨W,aE,rfl⟩:=bQ.1 ((ns _).mem_iff.1 aj)
 obtain⟨w,lh,s6⟩:=bQ.1 (aiO x M W aE)
 refine⟨w,lh,by rw[<-s6];rfl,axQ (p:=x.1) (rows:=x.2) e ?_⟩
 have:=h1.ins W (h3 W aE)
 rw[<-s6] at this
 exact this
 exact((ns _).append Mf).trans kA
 rw[p2]
 have ad:m.Perm ms:=by refine alR aL.rows.nodup hm tj ?_;rw[MG];refine(ns _).trans (acp ?_);rw[<-Iw,e4];rfl
 exact DS (ad.symm.map _)
 rw[hlen]
 have tf:=hw.vM
 by_cases xl:s.rest=[]
 by_cases iN:b<=(s.seen.length:o)
 left;omega
 by_cases cb:s.heap=[]
 right;left
 have h1:=kA.length_eq
 rw[abr,xl,cb] at h1
 simpa using h1
 right;right
 have yW:Lu q k s (s.heap.getD 0 default).1:=by by_cases ab:Lu q k s (s.heap.getD 0 default).1;exact ab;exact bf ⟨cb,by omega,ab⟩ pS
 obtain⟨f1,f2⟩:=yW
 right
 refine⟨?_,λr fR=>?_⟩
 unfold yj
 rw[zX,eb]
 omega
 obtain⟨x,M,e,_⟩:=ajl r fR
 rw[azc (p:=x.1) (rows:=x.2) e]
 unfold ou at M
 rw[xl,mm] at M
 obtain⟨y,aj,rfl⟩:=bQ.1 (kZ.1 M).1
 obtain⟨i,hi,rfl⟩:=oX aj
 have lf:=hw.ad.root Ep i hi
 rw[jX,dj hi] at lf
 have hF:(s.heap.getD 0 default).1<=s.heap[i].1:=by have:¬s.heap[i].1<(s.heap.getD 0 default).1:=Ox lf;omega
 have:=(hw.tD _ aj).1
 rw[show(k-1).toNat=k.toNat-1 by omega]
 grind
 left
 exact hw.cut xl
def afl:hy aH 265=ai:=by kernel_rfl
def ap1:hy aH 266=ai:=by kernel_rfl
def S0(P:J bI):P.length<=bI.hB P:=by
 induction P with
 |nil=>exact cw _|cons p P aW=>simp only[bI.hB,jq];have:=bI.size_eq p;omega
theorem Jr{s:N}{c9:J O}(h:bw u s 1 (c9.map λn=>.pointer (some ⟨n,0,none⟩))){i:O}(hi:i<c9.length):∃a,s.a=some a/\u.cell? (a.add (i*1))=some (.pointer (some ⟨c9[i],0,none⟩)):=by
 obtain⟨a,az,I⟩:=bw.elem (enc:=λn:O=>[ha (some ⟨n,0,none⟩)]) (k:=1) (λ_=>rfl) (by decide) (xs:=c9) (by
  have e:c9.flatMap (λn:O=>[ha (some ⟨n,0,none⟩)])=c9.map λn=>ha (some ⟨n,0,none⟩):=by
   generalize c9=W;induction W with
   |nil=>rfl|cons y W aW=>grind
  rw[e];exact h) (dj hi)
 exact⟨a,az,I 0 _ rfl⟩
def aDm(q:J o)(P:J bI):bI.hB ((Uv q P).heap.map (·.2))<=bI.hB P:=by
 have h0:iJ blt ([]:J l2).length []:=λi _ hi=>by simp at hi
 obtain⟨h1,h2⟩:=foldl_add (q:=q) P [] h0;rw[mm] at h2;show bI.hB ((P.foldl (pI q) []).map (·.2))<=_;rw[Ub (h2.map _),e4];exact JT (eI _ (Gv _))
def ayo(h:¬yN q k b s):∀f,u7 q k b f s=s:=by
 intro f;cases f with
 |zero=>rfl|succ f=>unfold u7;rw[bF h]
def ayn(h:yN q k b s)(f:O):u7 q k b (f+1) s=u7 q k b f (qh q b s):=by
 conv=>lhs;unfold u7
 rw[b3 h]
structure At(v w:H)(de n6:O)(k b:o)(q:J o)(P:J bI)(f:O)(aC ss a6:N):Prop where
 eE:aC=⟨none,0,0⟩
 ex:∃(st:mS) (S:J bN) (R:J b1),jN v w de n6 k S st.heap (st.seen.map (·.1)) ss a6 R/\S.Perm (st.seen.map (CY q))/\sU q b (bI.j2 P) st/\R.map b1.core=st.rest.map pN/\u7 q k b f st=o1 q k b P/\bI.hB (st.heap.map (·.2))<=f/\f<=bI.hB P
theorem jN.start(aV:jb v de k u [])(ag:u n6=none):jN v (u.ins n6 (.cells #[.slice none 0 0] 331 (0,0))) de n6 k [] [] [] ⟨none,0,0⟩ ⟨none,0,0⟩ []:=by
 have aB:=aV.le;have nN:v n6=none:=le_none aB ag;have hle:=bX (u:=u) (b:=n6) (.cells #[.slice none 0 0] 331 (0,0)) ag;have xu:=bX (u:=v) (b:=n6) (.cells #[.slice none 0 0] 331 (0,0)) nN;refine⟨⟨u,v.ins n6 (.cells #[.slice none 0 0] 331 (0,0)),hle,λc z I=>?_,aB,xu,λc h1 h2=>?_,aV,⟨[],⟨⟨⟨none,0,0⟩,bh _ _ _,aD.nil xu _ _,by simp[N.al]⟩,nN,by simp⟩,rfl,λe he=>(by cases he)⟩,λs ae g Z=>?_⟩,aD.nil (aB.trans hle) _ _,uh.nil (aB.trans hle),λs ae=>?_⟩;by_cases e:c=n6;subst e;rw[bh] at I ⊢;exact I;rw[bz _ _ e] at I ⊢;exact aB c z I;by_cases e:c=n6
 grind
 rw[bz _ _ e] at h2;exact h2;simp at ae;subst ae;simp[N.al] at Z;intro g Z;simp[N.al] at Z
theorem ar1{α:Type}{L:J (α×J ke)}(h:∀x∈L,x.2≠[]):L.length<=(L.flatMap (·.2)).length:=by
 induction L with
 |nil=>exact cw _|cons x L aW=>
  have h1:=aW λy aj=>h y (iX _ aj);have h2:0<x.2.length:=yb.2 (h x (ik ..))
  grind
def ayl(h:sU q b Q s):(ou s).length<=Q.length:=by have h1:=ar1 λx M=>(abt h x M).2.1;have h2:=h.perm.length_eq;rw[<-abr,gG] at h2;omega
def xS(s:mS)(x:O):J (bI×J ke):=s.rest++((s.heap.take x).map λy=>(y.2,y.2.all)).filter λy=>!y.2.isEmpty
def ayj(h:sU q b Q s)(x:O):(xS s x).length<=Q.length:=by refine jW (List.Sublist.length_le ?_) (ayl h);unfold xS ou;exact(acs _).append (((sz x s.heap).map _).filter _)
def ayi(s:mS){x:O}(h:s.heap.length<=x):xS s x=ou s:=by unfold xS ou;rw[gC h]
theorem ayk{x:O}(h:s.heap[x]?=some e):xS s (x+1)=xS s x++(if e.2.all=[] then[] else[(e.2,e.2.all)]):=by
 unfold xS;rw[fN,h,Option.toList,en,BB,wA]
 grind
theorem ah6(h:sU q b Q s)(he:e∈s.heap):e.2.all.length<=Q.length:=by
 have h1:=(GW (f:=λx:l2=>x.2.all) he).length_le;have h2:=h.perm.length_eq
 grind
theorem auo(he:e∈l):e.2.size<=bI.hB (l.map (·.2)):=by
 induction l with
 |nil=>cases he
 |cons x l aW=>
  simp only[iw,bI.hB]
  grind
def alL{d:o}(h:l3 (p.hI []) d):p.bm.length<=64/\p.hi.length<=64:=by have av:=h.dim;rcases h.shape with⟨_,h1,h2,_⟩|⟨_,_,h1,h2,_⟩|⟨_,h1,h2,_⟩;have ta:p.bm=[]:=h1;have yO:p.hi=[]:=h2;rw[ta,yO];simp;exact⟨h1.1,h2.1⟩;have ta:p.hi=[]:=h1;rw[ta];exact⟨h2.1,by simp⟩
def aHV{W aR cF:H}{aj7:J o}{aC:N}{H1:J bN}(xT:u.le v)(hQ:jN v W de n6 k S l ids ss a6 R)
  (h1:aD v aR 3 1 ss (aj7.flatMap encI)) (he:hc W aR ss) (h2:aD aR cF 68 3 aC (H1.flatMap eO)):iI u cF aC ss a6 H1 aj7 R:=by
 have Yd:uh v aR a6 R:=hQ.rest.stay h1.le λs ae g z Z ac=>he g z ac λe=>hQ.ej s ae g e Z
 have oM:=Yd.mono h2.le
 have wa:=h1.mono h2.le
 refine⟨h2.weaken (xT.trans h1.le),wa.weaken xT,oM.own.weaken xT,λr U=>⟨(oM.each r U).l.weaken xT,(oM.each r U).h.weaken xT,(oM.each r U).i.weaken xT⟩,?_⟩
 have kn:∀s∈ss::a6::R.flatMap b1.gp,∀g,s.al=some g->aR g≠none:=by intro s ae g Z;rcases dM.1 ae with rfl|ae;exact dH h1 Z;rcases dM.1 ae with rfl|ae;exact dH Yd.own Z;obtain⟨y,aj,FD⟩:=eA.1 ae;obtain⟨xs,M⟩:=F9 (Yd.each y aj) s FD;exact dH M Z
 unfold oF
 refine ix.2 ⟨λs ae g Z gu=>kn s ae g gu (h2.fresh g Z),ix.2 ⟨λs ae=>hQ.ej s ae,oM.ej⟩⟩
def apI{P:J bI}{st:mS}{f:O}(tg:yN q k b st)(bM:sU q b (bI.j2 P) st)(aq:u7 q k b f st=o1 q k b P)(ae:bI.hB (st.heap.map (·.2))<=f):
  ∃AB,f=AB+1/\u7 q k b AB (qh q b st)=o1 q k b P/\bI.hB ((qh q b st).heap.map (·.2))<=AB/\sU q b (bI.j2 P) (qh q b st):=by
 have h1:=anx bM tg
 cases f with
 |zero=>omega
 |succ f=>exact⟨f,rfl,by rw[<-ayn tg];exact aq,by omega,anu bM tg⟩
def ac7{s0 t:N}{ms:J O}{P:J bI}{K:N->N->N->H->Prop}(ae:bw u s0 1 (ms.map λn=>.pointer (some ⟨n,0,none⟩)))(hlen:ms.length=P.length)
  (ad:∀(i:O) m p,ms[i]?=some m->P[i]?=some p->nA u m p) (bM:∀p∈P,gr q.length p) (ht:Ints u t q) (aL:cY q) (cB:1<=k) (cW:k<=64) (fH:0<=b) (e7:b<=1000000) (dm:bI.hB P<=4000000) (yR:(bI.j2 P).length<=100000)
  (kT:∀x∈bI.j2 P,(x.2.length:o)=q.length/\cY x.2)
  (au:∀aC ss a6 R u',iI u u' aC ss a6 (yj q k (o1 q k b P)) (cR ((o1 q k b P).seen.map (·.1))) R->R.map b1.core=(ou (o1 q k b P)).map pN->K aC ss a6 u'):D3 s0 t k b u K:=by
 apply aEN
 intro n0 fJ
 refine Pf (λM=>bf M (by omega)) λ_ _ de il lR eP ki=>?_
 intro fo tm
 refine⟨_,_,bh _ _ _,rfl,by simp,by simp[cI],?_⟩
 intro n6 sg
 rw[FN] at sg ⊢
 obtain⟨NZ,ajb⟩:∃NZ,NZ=(bt (wr #[ha none] 0 [ha (some ⟨de,0,none⟩)]) 90 (0,0)):=⟨_,rfl⟩
 rw[<-ajb] at sg ⊢
 obtain⟨gh,kk⟩:∃gh,gh=(bt #[ed t.a t.n t.c] 30 (0,0)):=⟨_,rfl⟩
 rw[<-kk] at ki lR eP
 have aV:=ki.mI tm NZ
 have ajK:(u.ins n0 gh) fo=none:=le_none lR tm
 obtain⟨v,aB⟩:∃v,v=(u.ins n0 gh).ins fo NZ:=⟨_,rfl⟩
 rw[<-aB] at aV
 have xT:u.le v:=by rw[aB];exact(bX _ fJ).trans (bX _ ajK)
 have WR:v.cell? ⟨n0,0,none⟩=some (.slice t.a t.n t.c):=by
  have h1:(u.ins n0 gh) n0=some gh:=bh _ _ _;have h2:v n0=some gh:=by rw[aB];exact bX _ ajK _ _ h1
  rw[kk] at h2;exact aZ h2 0
 have Aq:v.cell? ⟨fo,0,none⟩=some (.pointer (some ⟨de,0,none⟩)):=by
  have h2:v fo=some NZ:=by rw[aB];exact bh _ _ _
  rw[ajb] at h2;exact aZ h2 0
 have apx:=jN.start aV sg
 have aam:=ht.mono xT
 have MZ:∀(i:O) m p,ms[i]?=some m->P[i]?=some p->nA v m p:=λi m p h1 h2=>(ad i m p h1 h2).mono xT
 have dS:s0.n=ms.length:=by have:=ae.len;simpa using this.symm
 have fX:=jW (bw.cap ae) (bw.max ae)
 refine⟨λx w=>0<=x/\x<=s0.n/\jN v w de n6 k [] ((P.take x.toNat).foldl (pI q) []) [] ⟨none,0,0⟩ ⟨none,0,0⟩ [],λx _=>((s0.n:o)-x).toNat,⟨by omega,by omega,apx⟩,λx w cv=>⟨λM=>?_,λM=>?_⟩⟩
 obtain⟨bK,dr,bJ⟩:=cv
 have eY:x.toNat<ms.length:=by omega
 obtain⟨a,az,I⟩:=Jr (ae.mono (xT.trans bJ.le)) eY
 have ep:P[x.toNat]?=some P[x.toNat]:=dj (by omega)
 have tq:=bM _ (ln (show x.toNat<P.length by omega))
 have Fg:((P.take x.toNat).foldl (pI q) []).length<10000000:=by
  have Rc:iJ blt ([]:J l2).length []:=λi _ hi=>by simp at hi
  have h1:=(foldl_add (q:=q) (P.take x.toNat) [] Rc).2.length_eq;rw[mm,eb,iV] at h1;have h2:=S0 P;omega
 refine⟨a,az,⟨bK,M⟩,_,I,.inl ⟨_,_,_,rfl,hs afl,anc bJ Fg (MZ _ _ _ (dj eY) ep) tq.kb aL WR aam λu' hQ=>⟨⟨by omega,by omega⟩,⟨by omega,by omega,?_⟩,by dsimp only;omega⟩⟩⟩
 rw[show(x+1).toNat=x.toNat+1 by omega,fN,ep,acu]
 exact hQ
 .obtain⟨bK,dr,bJ⟩:=cv;rw[gC (by omega)] at bJ;intro ao7 XK;refine⟨λye tT rS w=>∃f,At v w de n6 k b q P f ye tT rS,λye tT rS w=>least λf=>At v w de n6 k b q P f ye tT rS,⟨bI.hB P,rfl,Uv q P,[],[],bJ,.refl _,ans fH bM,rfl,rfl,aDm q P,cw _⟩,λye tT rS w cv=>?_⟩;have ab:=FZ cv;generalize RP:(least λf=>At v w de n6 k b q P f ye tT rS)=f at ab;obtain⟨LD,st,S,R,hQ,bb,u0,b7,aiH,pg,nb⟩:=ab;obtain rfl:ye=⟨none,0,0⟩:=LD;intro aIn asz;obtain⟨BP,aT,aN,dG⟩:=hQ.slice;have Fy:tT.n=st.seen.length:=by have h:=hQ.seen.ints.len;rw[eb] at h;exact h
  have aI8:st.heap.length<=4000000:=by have h:=S0 (st.heap.map (·.2));rw[eb] at h;omega
  have avz:∀x∈st.seen,x∈bI.j2 P:=λx M=>u0.perm.mem_iff.1 (kG _ M);have EZ:∀g∈S,jJ g.2:=λg Z=>by obtain⟨x,M,rfl⟩:=bQ.1 (bb.mem_iff.1 Z);obtain⟨g1,g2⟩:=kT x (avz x M);exact DP g2 aL (by omega)
  have p2:yj q k st=e1 k.toNat S:=DS bb.symm;have Ig:R.length=st.rest.length:=by have:=eI iY b7;simpa using this
  have fin:¬yN q k b st->ao7 ⟨none,0,0⟩ tT rS w:=λavX=>by
   have c6:o1 q k b P=st:=by rw[<-aiH,ayo avX]
   obtain⟨gw,lp,t1,di,t2,dv,kv,atz,fj,e8⟩:=hQ.ex;obtain⟨BP,aT,aN,dG⟩:=fj.slice;refine XK ⟨none,0,0⟩ tT rS w ⟨BP,di.cell aT,λx iZ nW hA W=>0<=x/\x<=BP.n/\iZ=⟨none,0,0⟩/\nW=tT/\gw.le W/\lp.le W/\(∀g,hA.al=some g->gw g=none/\lp g=none)/\∃Ci,jN v W de n6 k S st.heap (st.seen.map (·.1)) tT hA Ci/\Ci.map b1.core=(xS st x.toNat).map pN,λx _ _ _ _=>((BP.n:o)-x).toNat,
    ⟨by omega,by omega,rfl,rfl,t1,di,λg Z=>e8 rS (by simp) g Z,R,hQ,by rw[b7];simp[xS]⟩,?_⟩
   rintro x iZ nW hA W ⟨bK,dr,XM,XN,UH,JY,aE,Ci,CQ,my⟩;obtain rfl:iZ=⟨none,0,0⟩:=XM;obtain rfl:nW=tT:=XN;have aIW:Ci.length=(xS st x.toNat).length:=by have:=eI iY my;simpa using this
   have tf:=ayj u0 x.toNat;refine⟨λM=>?_,λM=>?_⟩
   .obtain⟨p,m,e,g1,g2,g3,g4,g5,g6⟩:=dG x bK M;have kz:e∈st.heap:=dz g2;have atZ:=ah6 u0 kz;obtain⟨agh,HO⟩:=u0.tD e kz;have Sv:=ayk g2;refine⟨p,g1,⟨bK,M⟩,_,JY.cell g4,_,JY.cell g5,_,JY.cell g6,aBM g3 CQ.le (by omega) λaAT L u32 xX cX cv=>⟨λoi=>?_,λdR=>?_⟩⟩
    .have uN:=hf fO (by decide) xX.own.cK;have ux:L.length=e.2.all.length:=by rw[<-cX,eb]
     have an:e.2.all≠[]:=λh0=>by rw[h0] at ux;simp at ux;rw[ux] at uN;simp at uN;omega
     rw[bF an] at Sv;cases g3 with
     |mk ls fS is rs ks rows c9 cell Bi bm hi at' bn kids len each=>
     have bj:v.le u32:=CQ.le.trans xX.le;have I:=bj _ _ cell;obtain⟨abu,RW⟩:=alL HO.kb;have mA:dU u32 aAT L:=⟨xX.own.cK,λr U=>(cv r U).mono bj⟩;have kA:cR (L.map (·.id))=cR (e.2.all.map (·.1)):=by rw[<-cX,e4];rfl
     refine⟨_,rfl,_,aZ I 0,ls,aZ I 1,fS,aZ I 2,_,aZ I 3,_,aZ I 4,is,aZ I 5,
      amz (bm.mono bj) (hi.mono bj) mA abu RW (by omega) λa Ap c mN tF tG zz f1 f2 f3=>⟨tF.le,?_⟩⟩
     have ER:=CQ.mono xX.le;have:=aor (r:=⟨e.2.aC,a,Ap,e.2.cD,c,e.2.bm,e.2.hi,cR (L.map (·.id))⟩) ER tF.le ⟨tF,tG,zz⟩ f1 f2 f3 (by omega)
      (K:=λ(acM:N) (UK:H)=>a7 (x+1)/\(0<=x+1/\x+1<=(BP.n:o)/\(⟨none,0,0⟩:N)=⟨none,0,0⟩/\nW=nW/\gw.le UK/\lp.le UK/\(∀g,acM.al=some g->gw g=none/\lp g=none)/\∃Ci,jN v UK de n6 k S st.heap (st.seen.map (·.1)) nW acM Ci/\Ci.map b1.core=(xS st (x+1).toNat).map pN)/\((BP.n:o)-(x+1)).toNat<((BP.n:o)-x).toNat)
      λacM UK ES eC fC=>⟨⟨by omega,by omega⟩,⟨by omega,by omega,rfl,rfl,λg z Z=>eC g z (tF.le _ _ (xX.le _ _ (UH g z Z))) λfi=>(by rw[(aE g fi).1] at Z;cases Z),λg z Z=>eC g z (tF.le _ _ (xX.le _ _ (JY g z Z))) λfi=>(by rw[(aE g fi).2] at Z;cases Z),λg Z=>?_,_,ES,?_⟩,by omega⟩
     exact c7.O6 this λs1 v1 h=>⟨tF.le.trans h.1,h.2⟩;rcases fC g Z with h1|h1;exact aE g h1;have h2:=le_none (xX.le.trans tF.le) h1;exact⟨le_none UH h2,le_none JY h2⟩;rw[show(x+1).toNat=x.toNat+1 by omega,Sv,en,en,my];simp only[iw,Bz,b1.core,pN,kA]
    have uN:=hf fO (by decide) xX.own.cK;have ux:L.length=e.2.all.length:=by rw[<-cX,eb]
    have C6:e.2.all=[]:=qW (by omega);rw[b3 C6,ml] at Sv;exact⟨⟨by omega,by omega⟩,⟨by omega,by omega,rfl,rfl,UH.trans xX.le,JY.trans xX.le,aE,Ci,CQ.mono xX.le,by rw[show(x+1).toNat=x.toNat+1 by omega,Sv];exact my⟩,by dsimp only;omega⟩
   have p0:=u0.vM;rw[ayi st (by omega)] at my;refine GQ CQ.seen (by rw[eb];omega) λaD6 aja ah2=>⟨_,aja.le.cell Aq,?_⟩;have aDD:gw.le aD6:=λg z Z=>ah2 g z (UH g z Z) λfi=>by rw[(e8 nW (by simp) g fi).1] at Z;cases Z
   refine Kf (atz.whole aDD) λaKN aKY azq=>?_;have ahA:=aHV xT CQ aja ah2 azq;rw[<-p2,<-c6] at ahA;rw[<-c6] at my;exact au _ _ _ _ _ ahA my
  have vQ:S.length=st.seen.length:=by have:=bb.length_eq;rwa[eb] at this
  refine⟨BP,aT,aoa _ _ _ ⟨λhlen=>⟨λaa=>?_,λaa=>fin λZ=>by have:=Z.2.1;omega⟩,λhlen=>fin λZ=>?_⟩⟩
  .obtain⟨p,m,e,g1,g2,g3,g4,g5,g6⟩:=dG 0 (by omega) (by omega);have Lg:st.heap.getD 0 default=e:=by rw[jX];rw[show(0:o).toNat=0 from rfl] at g2;rw[g2];rfl
   have kz:e∈st.heap:=dz g2;obtain⟨agh,HO⟩:=u0.tD e kz;have YJ:jJ e.1:=by rw[agh];exact akJ HO.kb aL
   refine⟨BP,aT,p,g1,⟨by omega,by omega⟩,_,g5,_,by rw[Addr.w4];exact g6,.inl ⟨_,_,_,rfl,hs ap1,aC7 hQ cB EZ Aq (yZ YJ) (rF _) λc0 nG=>?_⟩⟩;rw[l0,vQ] at nG;have yW:c0=ai↔Lu q k st (st.heap.getD 0 default).1:=by rw[nG,Lg];unfold Lu;rw[p2]
   refine⟨λb8=>asz _ ?_,λav=>fin λZ=>Z.2.2 (yW.1 av)⟩;have tg:yN q k b st:=⟨λfi=>(by rw[fi] at kz;cases kz),by omega,λab=>b8 (yW.2 ab)⟩;clear fin XK yW;obtain⟨AB,aI4,aiI,ajs,ajU⟩:=apI tg u0 aiH pg;have aim:0<st.heap.length:=yb.2 tg.1;have awC:st.rest=[]:=by by_cases fi:st.rest=[];exact fi;have:=u0.cut fi;omega
   have aiN:∀{J5 gH lo:N} {W:H},At v W de n6 k b q P AB J5 gH lo->least (λf=>At v W de n6 k b q P f J5 gH lo)<least λf=>At v w de n6 k b q P f ⟨none,0,0⟩ tT rS:=λ{J5 gH lo W} h=>by rw[RP];exact Nat.lt_of_le_of_lt (least_le h) (by omega)
   refine aC8 hQ u0.ad aim λu64 m1 j5 ZK=>amc ?_;rw[Lg] at ZK ⊢;have eL:=ah6 u0 kz;rw[bI.all_eq,gG] at eL;obtain⟨gU,du,nU,_⟩:=Oa Ep u0.ad aim;have Ng:=auo kz;have awW:=S0 (st.heap.map (·.2));rw[eb] at awW;rw[bI.size_eq] at Ng;have hW:=S0 e.2.kids;have lz:=gU.length_eq;rw[jq] at lz;cases ZK with
   |mk ls fS is rs ks rows c9 cell Bi bm hi at' bn kids len each=>
   have kj:ks.n=c9.length:=by have:=kids.len;simpa using this.symm
   have lc:e.2.rows.length=rows.length:=by rw[<-bn,eb]
   have ajm:=at'.len;refine⟨_,rfl,ks,aZ (j5.le _ _ cell) 7,λx W=>0<=x/\x<=ks.n/\jN v W de n6 k S ((e.2.kids.take x.toNat).foldl (pI q) (lk blt st.heap)) (st.seen.map (·.1)) tT rS R,λx _=>((ks.n:o)-x).toNat,⟨by omega,by omega,by simpa using j5⟩,?_⟩;rintro x W ⟨bK,dr,EU⟩;refine⟨λM=>?_,λM=>?_⟩;have eY:x.toNat<c9.length:=by omega
   obtain⟨a,az,I⟩:=Jr (kids.mono EU.le) eY;have ep:e.2.kids[x.toNat]?=some e.2.kids[x.toNat]:=dj (by omega);have tq:=HO.kids _ (ln (show x.toNat<e.2.kids.length by omega));have Fg:((e.2.kids.take x.toNat).foldl (pI q) (lk blt st.heap)).length<10000000:=by have h1:=(foldl_add (q:=q) (e.2.kids.take x.toNat) _ du).2.length_eq;rw[gG,eb,iV] at h1;omega
   refine⟨a,az,⟨bK,M⟩,_,I,.inl ⟨_,_,_,rfl,hs afl,anc EU Fg (each _ _ _ (dj eY) ep) tq.kb aL WR aam λu' hQ=>⟨⟨by omega,by omega⟩,⟨by omega,by omega,?_⟩,by dsimp only;omega⟩⟩⟩;rw[show(x+1).toNat=x.toNat+1 by omega,fN,ep,acu];exact hQ;rw[gC (by omega)] at EU;have awV:(qh q b st).heap=e.2.kids.foldl (pI q) (lk blt st.heap):=by unfold qh;rw[Lg]
   have IL:(qh q b st).seen=st.seen++e.2.rows.take (b-st.seen.length).toNat:=by unfold qh;rw[Lg]
   have Su:(qh q b st).rest=if(e.2.rows.length:o)<=b-st.seen.length then st.rest else st.rest++ [(e.2,e.2.rows.drop (b-st.seen.length).toNat)]:=by unfold qh;rw[Lg]
   rw[<-awV] at EU;refine⟨_,rfl,rs,aZ (EU.le _ _ cell) 6,λx q3 GI OT W=>0<=x/\x<=rs.n/\q3=⟨none,0,0⟩/\OT=rS/\st.seen.length+x<=b/\∃Hu,jN v W de n6 k Hu (qh q b st).heap ((st.seen++e.2.rows.take x.toNat).map (·.1)) GI rS R/\Hu.Perm ((st.seen++e.2.rows.take x.toNat).map (CY q)),
    λx _ _ _ _=>((rs.n:o)-x).toNat,⟨by omega,by omega,rfl,rfl,by have:=u0.vM;omega,S,by simpa using EU,by simpa using bb⟩,?_⟩
   clear bK dr M EU x W;rintro x q3 GI OT W ⟨bK,dr,asF,asH,aLf,Hu,uy,CO⟩;obtain rfl:q3=⟨none,0,0⟩:=asF;obtain rfl:OT=rS:=asH;have aJC:GI.n=st.seen.length+min x.toNat e.2.rows.length:=by have h:=uy.seen.ints.len;rw[eb,gG,iV] at h;exact h
   refine⟨λM=>?_,λM=>?_⟩;obtain⟨pp,h8,r,U,bA,c1,c2⟩:=(at'.mono uy.le).at bK M;have Fx:e.2.rows[x.toNat]?=some r.bn:=by rw[<-bn,pw,U];rfl
   have awA:r.bn∈bI.j2 P:=u0.perm.mem_iff.1 (q1 _ (q1 _ (eA.2 ⟨e,kz,by rw[bI.all_eq];exact kG _ (dz Fx)⟩)));obtain⟨aAN,aAO⟩:=kT _ awA;have aKI:(r.v.length:o)=q.length:=aAN;have aAP:cY r.v:=aAO;refine⟨pp,h8,⟨bK,M⟩,_,bA,_,c1,λatT=>?_,λatT=>?_⟩;have I:=uy.le _ _ cell;obtain⟨abu,RW⟩:=alL HO.kb;have YB:(b-st.seen.length).toNat=x.toNat:=by omega
   have xl:¬(e.2.rows.length:o)<=b-st.seen.length:=by omega
   rw[bF xl,YB] at Su;rw[YB] at IL;have IG:=(at'.mono uy.le).part (l:=x.toNat) (h:=rs.n) (m:=rs.c) (by omega) (cw _) at'.1.cap (cw _);have uW:(rows.drop x.toNat).take (rs.n-x.toNat)=rows.drop x.toNat:=gC (by rw[rO];omega);rw[uW] at IG;have kA:cR ((rows.drop x.toNat).map (·.id))=cR ((e.2.rows.drop x.toNat).map (·.1)):=by rw[<-bn,<-Ov,e4];rfl
   refine⟨_,rfl,_,rfl,_,aZ I 0,ls,aZ I 1,fS,aZ I 2,_,aZ I 3,_,aZ I 4,is,aZ I 5,rs,aZ I 6,
    kJ ig (l:=x.toNat) (h:=rs.n) (m:=rs.c) (.inr (by rw[JX bK])) (.inl ⟨rfl,rfl⟩) (.inl ⟨rfl,rfl⟩) (by omega) at'.1.cap (cw _) at'.1.cap ⟨H.le.refl _,
    amz (bm.mono uy.le) (hi.mono uy.le) IG abu RW (by rw[rO];omega) λa Ap c mN tF tG zz f1 f2 f3=>⟨tF.le,?_⟩⟩⟩
   have:=aor (r:=⟨e.2.aC,a,Ap,e.2.cD,c,e.2.bm,e.2.hi,cR ((rows.drop x.toNat).map (·.id))⟩) uy tF.le ⟨tF,tG,zz⟩ f1 f2 f3 (by rw[Ig,awC];simp)
    (K:=λ(T1:N) (yk:H)=>(∃f,At v yk de n6 k b q P f ⟨none,0,0⟩ GI T1)/\(least λf=>At v yk de n6 k b q P f ⟨none,0,0⟩ GI T1)<least λf=>At v w de n6 k b q P f ⟨none,0,0⟩ tT OT)
    λT1 yk ES _ _=>?_
   exact c7.O6 this λs1 v1 h=>⟨tF.le.trans h.1,h.2⟩;have LH:At v yk de n6 k b q P AB ⟨none,0,0⟩ GI T1:=⟨rfl,qh q b st,Hu,_,by rw[IL];exact ES,by rw[IL];exact CO,ajU,by rw[Su,en,en,b7];simp only[iw,Bz,b1.core,pN,kA],aiI,ajs,by omega⟩;exact⟨⟨AB,LH⟩,aiN LH⟩;refine⟨t,uy.le.cell WR,BN c2 (aam.mono uy.le) aAP (by have:=HO.kb.dim;omega) aL (by omega) λaow aox ajW ajX hw=>⟨_,uy.le.cell Aq,?_⟩⟩;have are:aow=cQ (CY q r.bn).2:=by show aow=cQ (gb r.v q r.v.length);rw[<-hw,RX ajX]
   have arf:aox=cS (CY q r.bn).2:=by show aox=cS (gb r.v q r.v.length);rw[<-hw,S2 ajX]
   rw[are,arf];refine aC6 (x:=CY q r.bn) uy cB cW λc0 aKT atF=>aHW atF (by rw[eb,gG,iV];omega) λar aKU atG=>⟨⟨by omega,by omega⟩,⟨by omega,by omega,rfl,rfl,by omega,CY q r.bn::Hu,?_,?_⟩,by dsimp only;omega⟩;have HT:e.2.rows.take (x+1).toNat=e.2.rows.take x.toNat++ [r.bn]:=by rw[show(x+1).toNat=x.toNat+1 by omega,fN,Fx];rfl
   rw[HT,<-wA,en];exact atG;have HT:e.2.rows.take (x+1).toNat=e.2.rows.take x.toNat++ [r.bn]:=by rw[show(x+1).toNat=x.toNat+1 by omega,fN,Fx];rfl
   rw[HT,<-wA,en];exact(j9 _ CO).trans (mH _ _).symm;have YV:(e.2.rows.length:o)<=b-st.seen.length:=by omega
   rw[b3 YV] at Su;rw[gC (by omega)] at uy CO;rw[gC (by omega)] at IL;have LH:At v W de n6 k b q P AB ⟨none,0,0⟩ GI OT:=⟨rfl,qh q b st,Hu,R,by rw[IL];exact uy,by rw[IL];exact CO,ajU,by rw[Su];exact b7,aiI,ajs,by omega⟩;exact⟨⟨AB,LH⟩,aiN LH⟩
  have an:=Z.1;have:=yb.2 an;omega
end
namespace k6
theorem pn{α:Type}:∀{a b:J α},a.Nodup->(∀x∈a,x∈b)->a.length<=b.length/\(b.length<=a.length->a.Perm b)
 | [],b,_,_=>⟨pu _,λh=>by
  simp_all⟩|x::a,b,ag,ae=>by
  obtain⟨s,t,rfl⟩:=acn (ae x (ik ..));rw[ka] at ag;have fS:∀y∈a,y∈s++t:=λy aj=>by
   grind
  obtain⟨h1,h2⟩:=pn ag.2 fS;rw[gG] at h1 h2;refine⟨by simp;omega,λaq=>?_⟩;have:=h2 (by simp at aq;omega);exact(j9 x this).trans zJ.symm
def zr{α β:Type}{f:α->β}:∀{l:J α},(l.map f).Nodup->l.Nodup
 | [],_=>.nil|x::l,h=>by rw[iw,ka] at h;rw[ka];exact⟨λM=>h.1 (kH M),zr h.2⟩
theorem zU{ak u:H}{ah:O->aA bB}{b:O}{T:aU}{K:N->H->Prop}(h:In ak u ah b T)(aV:dX T)(au:∀s ls u',re u u' s ls->(ls.map ax.bn).Perm (bi T)->(ls.Pairwise λa b=>a.id<=b.id)->K s u'):
  aeD (some ⟨b,0,none⟩) u K:=by
 have fX:=aV.small
 apply aFx
 refine⟨λe=>(by cases e),λ_=>⟨_,rfl,_,aZ h.aJ.cell 3,J8 je h.aJ.map λr z U xp=>?_⟩⟩
 have iG:=bX (u:=u) (b:=r) z U
 refine⟨λs w=>∃rw:J ax,nx w r T.m (ec T.w) (rw.map λx=>(x.id,.slice x.s.a x.s.n x.s.c))/\aD u w 52 2 s (rw.flatMap cJ)/\s.al≠some r/\∀x∈rw,(x.id,(x.s,x.v))∈T.w,λs _=>1000000-s.n,
  ⟨[],xp,aD.nil iG _ _,by simp[N.al],λx M=>(by cases M)⟩,?_⟩
 rintro s w ⟨rw,fs,ac,tt,mA⟩
 have dS:s.n=rw.length:=hf fO (by decide) ac.own.cK
 have lc:rw.length<=512:=by
  have h1:=fs.sub;have h2:=fs.Cw;rw[e4] at h2;have h3:(rw.map (·.id)).length<=(T.w.map (·.1)).length:=(pn h2 λx M=>by
   grind).1
  rw[eb,eb] at h3;omega
 refine Jj fs (λgF=>?_) λp hT ad AZ pU=>?_
 have b7:dU w s rw:=⟨ac.own.cK,λx M=>((h.aJ.vec _ (mA x M)).1).mono ac.le⟩
 have pY:(rw.map ax.bn).Perm (bi T):=by
  have b8:=fs.Cw;rw[e4] at b8;have hlen:=gF.length_eq;simp only[eb,ec] at hlen;have og:(T.w.map (·.1)).Nodup:=by rw[<-nQ];exact h.aJ.rW
  have gR:∀x∈rw.map ax.bn,x∈bi T:=λx M=>by obtain⟨y,aj,rfl⟩:=bQ.1 M;exact bQ.2 ⟨_,mA y aj,rfl⟩
  have tl:(rw.map ax.bn).Nodup:=by have:(rw.map (·.id)).Nodup:=b8;rw[show rw.map (·.id)=(rw.map ax.bn).map (·.1) by rw[e4];rfl] at this;exact zr this
  exact(pn tl gR).2 (by simp[bi];omega)
 refine zV b7 (λx M=>aV.ids _ (mA x M)) (by omega) (λx M=>?_) λs2 ls cF oM eX dJ=>?_
 have mx:(x.v.length:o)=T.dim:=(aV.vec _ (mA x M)).1
 have:=aV.hP
 omega
 exact au s2 ls cF ⟨oM.own.weaken ac.le,λr U=>(oM.inner r U).weaken ac.le,oM.ej,oM.apart⟩ (eX.trans pY) dJ
 obtain⟨e,he,MX⟩:=bQ.1 ad
 subst MX
 refine HR pU ?_
 have dt:aD u (w.ins r hT) 52 2 s (rw.flatMap cJ):=ac.xO U tt hT
 refine mn ig (vI e.1 e.2.1) (by decide) rfl (by simp[cI]) dt (by show s.n<_;omega) (by omega) λar u' bR hY fW fC _=>⟨⟨rw++ [⟨e.1,e.2.1,e.2.2⟩],?_,?_,λaN=>?_,λx M=>?_⟩,?_⟩
 rw[en]
 refine pU.else (λcn jT=>fW _ _ jT λdG=>?_) λcn jT=>fW _ _ jT tt
 have:=ac.fresh _ dG
 exact h.known T.m (by rw[h.aJ.dy];simp) this
 rw[hb];exact bR
 rcases fC r aN with br|br
 exact tt br
 rw[bh] at br;cases br
 grind
 grind
def parts(X:aU):J bI:=(X.root.map aw.bG).toList
def ad5(X:aU)(q:J o)(k aK:o):mS:=o1 q k aK (parts X)
def iT(X:aU)(q:J o)(k aK:o):J bN:=yj q k (ad5 X q k aK)
def gv(X:aU)(q:J o)(k aK:o):J o:=cR ((ad5 X q k aK).seen.map (·.1))
def jF(X:aU)(q:J o)(k aK:o):J (o×o×J o×J o×J o):=(ou (ad5 X q k aK)).map pN
def Gc(X:aU):bI.j2 (parts X)=lG X:=by
 unfold parts lG;cases X.root with
 |none=>rfl|some n=>show n.bG.all++ []=_;rw[ml]
def ap0:hy aH 262=ai:=by kernel_rfl
def apV:hy aH 261=ai:=by kernel_rfl
def adJ:ku aH 211=some (167,1,8,[.pointer none]):=by kernel_rfl
def WN(n:O):kO aH 211 1 #[(0,.pointer (some ⟨n,0,none⟩))]=some (167,[.pointer (some ⟨n,0,none⟩)]):=by kernel_rfl
theorem GO{ak u:H}{ah:O->aA bB}{b:O}{T:aU}{t:N}{q:J o}{k aK:o}{K:N->N->N->o->H->Prop}(h:In ak u ah b T)(aV:dX T)(jk:T.eW<=2700)(ht:Ints u t q)
  (dq:h7 q T.dim k aK≠0->K ⟨none,0,0⟩ ⟨none,0,0⟩ ⟨none,0,0⟩ (h7 q T.dim k aK) u)
  (bM:h7 q T.dim k aK=0->∀aC ss a6 rest u',iI u u' aC ss a6 (iT T q k aK) (gv T q k aK) rest->rest.map b1.core=jF T q k aK->K aC ss a6 0 u'):aeE (some ⟨b,0,none⟩) t k aK u K:=by
 apply aFy
 refine⟨λe=>(by cases e),λ_=>⟨_,rfl,_,aZ h.aJ.cell 0,Ka ht ⟨λan=>dq an,λhe=>?_⟩⟩⟩
 obtain⟨aB,cB,cW,fH,e7⟩:=Cr.1 he
 obtain⟨_,_,uR,xL⟩:=n1 aB
 have bM:=bM he
 intro fo tm
 obtain⟨nt,aaq⟩:∃nt,nt=u.ins fo (.cells #[.slice none 0 0] 211 (0,0)):=⟨_,rfl⟩
 have lS:u.le nt:=by rw[aaq];exact bX _ tm
 have d4:nt fo=some (.cells #[.slice none 0 0] 211 (0,0)):=by rw[aaq];exact bh _ _ _
 rw[<-aaq]
 intro r0 bL
 have yR:(bI.j2 (parts T)).length<=100000:=by rw[Gc,aV.rows.length_eq];have:=aV.small;simp[bi];omega
 have kT:∀x∈bI.j2 (parts T),(x.2.length:o)=q.length/\cY x.2:=λx M=>by
  rw[Gc] at M;obtain⟨e,fW,rfl⟩:=bQ.1 (aV.rows.mem_iff.1 M);obtain⟨v1,v2⟩:=aV.vec e fW
  grind
 have dm:bI.hB (parts T)<=4000000:=by
  unfold parts;cases U:T.root with
  |none=>show 0<=_;omega|some n=>have:=aV.size n U;show n.bG.size+0<=_;rw[aw.Jq];omega
 have ZQ:∀p∈parts T,gr q.length p:=λp ad=>by
  unfold parts at ad;cases U:T.root with
  |none=>rw[U] at ad;cases ad
  |some n=>
   rw[U] at ad;obtain rfl:p=n.bG:=by simpa using ad
   rw[uR];exact aV.ok n U
 have walk:∀(s:N) (ms:J O) (W:H),u.le W->W.cell? ⟨fo,0,none⟩=some (.slice s.a s.n s.c)->bw W s 1 (ms.map λn=>.pointer (some ⟨n,0,none⟩))->ms.length=(parts T).length->(∀(i:O) m p,ms[i]?=some m->(parts T)[i]?=some p->nA W m p)->r0 W:=by intro s ms W aE I ae hlen ad;refine bL W ⟨s,I,.inl ⟨_,_,_,rfl,hs ap0,?_⟩⟩;refine aFC (some ⟨b,0,none⟩) s t k aK W _ ?_;refine ac7 ae hlen ad ZQ (ht.mono aE) xL cB cW fH e7 dm yR kT λaC ss a6 R u' az AM=>bM aC ss a6 R u' ?_ AM;exact⟨az.h.weaken aE,az.s.weaken aE,az.r.weaken aE,λr U=>⟨(az.g r U).l.weaken aE,(az.g r U).h.weaken aE,(az.g r U).i.weaken aE⟩,az.ej⟩
 obtain⟨Jm,C8⟩:∃Jm:aA a8,Jm=T.root.map λn=>⟨n.b,0,none⟩:=⟨_,rfl⟩
 have K8:nt.cell? ((cp b 0 none).add 2)=some (.pointer Jm):=by rw[C8];exact H.le.cell lS (aZ h.aJ.cell 2)
 refine⟨_,rfl,Jm,K8,λan=>⟨_,rfl,Jm,K8,.inl ⟨_,_,_,rfl,hs apV,?_⟩⟩,λuC=>?_⟩
 cases U:T.root with
 |none=>rw[U] at C8;exact bf C8 an
 |some n=>
  rw[U] at C8;rw[show Jm=some ⟨n.b,0,none⟩ from C8];refine aFz (some ⟨n.b,0,none⟩) ⟨fo,0,none⟩ nt _ ⟨⟨none,0,0⟩,aZ d4 0,?_⟩;refine mn adJ (WN n.b) (by decide) rfl (by simp[cI]) (aD.nil (H.le.refl nt) 167 1) (by show 0<_;omega) (by grind) λar u' bR hY fW _ _=>?_;have aqZ:u' fo=some (.cells #[.slice none 0 0] 211 (0,0)):=bR.le _ _ d4;refine GV aqZ (by simp[cI]) ?_;obtain⟨W,aE⟩:∃W,W=u'.ins fo (.cells #[.slice ar.a ar.n ar.c] 211 (0,0)):=⟨_,rfl⟩;rw[<-aE];have M5:ar.al≠some fo:=λe=>by have:=bR.fresh fo e;grind
  have RQ:∀c z,u' c=some z->c≠fo->W c=some z:=λc z I an=>by rw[aE,bz _ _ an];exact I
  have an7:u.le W:=λc z I=>RQ c z (bR.le c z (lS c z I)) λe=>by grind
  have ara:W fo=some (.cells #[.slice ar.a ar.n ar.c] 211 (0,0)):=by rw[aE];exact bh _ _ _
  obtain⟨di,_⟩:=h.aJ.one n U;refine walk ar [n.b] W an7 (aZ ara 0) (bw.else bR.own.cK λg z Z ac=>RQ g z ac λe=>M5 (by rw[Z,e])) (by unfold parts;rw[U];rfl) λi m p hm ad=>?_;have hi:i=0:=by grind
  subst hi;obtain rfl:n.b=m:=eh hm;have fL:p=n.bG:=by unfold parts at ad;rw[U] at ad;exact(eh ad).symm
  rw[fL];exact(Ai.part di).mono an7
 cases U:T.root with
 |some n=>rw[U] at C8;rw[uC] at C8;cases C8
 |none=>exact walk ⟨none,0,0⟩ [] nt lS (aZ d4 0) ⟨rfl,cw _,by decide,.inl rfl⟩ (by unfold parts;rw[U];rfl) λi m p hm=>by simp at hm
def Pl{X:aU}(h:dX X){q:J o}{k aK:o}(hk:1<=k)(aa:0<=aK)(av:(q.length:o)=X.dim){L:J ax}(cX:(L.map ax.bn).Perm (bi X))(aL:jx L q){rest:J b1}(U:rest.map b1.core=jF X q k aK):
  Sound L q k (iT X q k aK) (gv X q k aK) rest/\((gv X q k aK).length:o)<=aK/\(((gv X q k aK).length:o)=aK∨(gv X q k aK).length=L.length∨sO q k (iT X q k aK) rest):=by
 refine ad7 aa hk (λp ad=>?_) aL ?_ U
 unfold parts at ad
 cases cU:X.root with
 |none=>rw[cU] at ad;cases ad
 |some n=>
  rw[cU] at ad;obtain rfl:p=n.bG:=by simpa using ad
  rw[av];exact h.ok n cU
 rw[Gc]
 exact cX.trans h.rows.symm
def jE(l:J ax)(dim a:o):o:=if nr l dim≠0 then nr l dim else if a<1∨64<a then 1 else 0
structure D0(u:H)(l:J ax)(hP a:o)(u':H)(dx:O)(ah:O->aA bB)(T:aU):Prop where
 is:In u u' ah dx T
 ok:dX T
 rows:(bi T).Perm (l.map ax.bn)
 dim:T.dim=hP
 leaf:T.leaf=a
 eW:T.eW=0
def Az(r:ax):o×(N×J o):=(r.id,(r.s,r.v))
def Ph{u:H}{n:O}{d a:o}{p jV:aA a8}{m:aA O}{f:H->Prop}(h:u n=some (.cells #[.int .i64 d,.int .i64 a,.pointer p,.map m] 169 (0,0)))
  (ab:f (u.ins n (.cells #[.int .i64 d,.int .i64 a,.pointer jV,.map m] 169 (0,0)))):H.aM u (er (cp n 0 none) 2) [.pointer jV] f:=
 ⟨_,_,h,rfl,by simp[ib],by simp[cI],ab⟩
theorem Pa{s:N}{l:J ax}{dim a:o}{u:H}{K:aA a8->o->H->Prop}(ae:dU u s l)(dq:jE l dim a≠0->K none (jE l dim a) u)
  (bM:jE l dim a=0->∀u' dx ah T,D0 u l dim a u' dx ah T->K (some ⟨dx,0,none⟩) 0 u'):Vn s dim a u K:=by
 have bad:∀W,jE l dim a=W->W≠0->K none W u:=λW e aE=>by subst e;exact dq aE
 apply aFr
 refine Kb ae ⟨λan=>bad _ (by unfold jE;rw[b3 an]) an,λhe=>?_⟩
 have one:(a<1∨64<a)->K none 1 u:=λI=>bad 1 (by unfold jE;omega) (by decide)
 intro ny h2
 refine⟨λh=>one (.inl h),λY=>⟨λh=>one (.inr h),λa2=>h2 _ _ _ ?_⟩⟩
 have bM:=bM (by unfold jE;omega)
 clear bad one dq h2 ny
 have gX:=DF.1 he
 obtain⟨W8,W9⟩:=gX.dim
 have aiA:=gX.len
 refine GL λm qb hm iF=>?_
 have qR:=bX (u:=u) (b:=m) qb hm
 obtain⟨jg,sl⟩:∃jg,jg=u.ins m qb:=⟨_,rfl⟩
 have Zp:jg m≠none:=by rw[sl,bh];simp
 rw[<-sl] at iF qR ⊢
 intro n8 rr
 have nJ:n8≠m:=λe=>by grind
 have A1:u n8=none:=qR.none rr
 obtain⟨mi,oO⟩:∃mi,mi=(bt #[.int .i64 dim,.int .i64 a,.pointer none,.map (some m)] 169 (0,0)):=⟨_,rfl⟩
 show rY s (jg.ins n8 (bt #[.int .i64 dim,.int .i64 a,.pointer none,.map (some m)] 169 (0,0))) _
 rw[<-oO]
 have rE:=bX (u:=jg) (b:=n8) mi rr
 obtain⟨u8,p3⟩:∃u8,u8=jg.ins n8 mi:=⟨_,rfl⟩
 have LG:u8 n8=some mi:=by rw[p3];exact bh _ _ _
 rw[<-p3] at rE ⊢
 have C4:u8 m≠none:=λe=>Zp (rE.none e)
 have Bl:u.le u8:=qR.trans rE
 refine zV (ae.mono Bl) gX.id (by omega) (λr U=>by have:=(gX.v r U).1;omega) λgV ls hn b7 ad mB=>?_
 have Ig:ls.length=l.length:=by simpa using ad.length_eq
 have AY:gD ls dim:=by refine zP gX.dim (by omega) ?_ λp fL=>?_;rw[show ls.map (·.id)=(ls.map ax.bn).map (·.1) by rw[e4];rfl,(ad.map (·.1)).nodup_iff,e4];exact gX.nodup;obtain⟨r,U,rfl⟩:=bQ.1 (ad.mem_iff.1 fL);exact⟨(gX.id r U).1,(gX.id r U).2,(gX.v r U).1,(gX.v r U).2⟩
 have tA:=b7.own.le
 have ag0:gV.n=ls.length:=b7.rws.len
 have Da:gV.al≠some m:=λe=>C4 (b7.own.fresh m e)
 have Sq:gV.al≠some n8:=λe=>by have:=b7.own.fresh n8 e;grind
 have fR:∀r∈ls,r.s.al≠some m:=λr U e=>C4 ((b7.inner r U).fresh m e)
 have ZX:∀r∈ls,r.s.al≠some n8:=λr U e=>by have:=(b7.inner r U).fresh n8 e;grind
 refine⟨λx w=>0<=x/\x<=gV.n/\fE w m (ec ((ls.take x.toNat).map Az))/\(∀c z,hn c=some z->c≠m->w c=some z)/\w m≠none,λx _=>((gV.n:o)-x).toNat,⟨by omega,by omega,(iF.mono rE).mono tA,λc z I _=>I,λe=>C4 (tA.none e)⟩,?_⟩
 rintro x w ⟨bK,dr,vY,pT,vX⟩
 have xe:w n8=some mi:=pT _ _ (tA _ _ LG) nJ
 have r9:dU w gV ls:=⟨bw.else b7.own.own.cK λg z Z ac=>pT g z ac λe=>Da (by rw[Z,e]),λr U=>bw.else (b7.inner r U).ints λg z Z ac=>pT g z ac λe=>fR r U (by rw[Z,e])⟩
 refine⟨λM=>?_,λM=>?_⟩
 obtain⟨p,h8,r,U,bA,c1,_⟩:=r9.at bK M
 have eY:x.toNat<ls.length:=by omega
 refine⟨p,h8,⟨bK,M⟩,_,bA,_,c1,_,by rw[oO] at xe;exact aZ xe 3,?_⟩
 have an:gm (ec ((ls.take x.toNat).map Az)) r.id=none:=yL.2 λpX=>by unfold ec at pX;rw[e4,e4] at pX;obtain⟨W,aE,u1⟩:=bQ.1 pX;have aaV:W.id=r.id:=u1;have b8:=AY.nodup;rw[<-px x.toNat ls,en,hg] at b8;refine b8.2.2 W.id (kH aE) r.id (kH ?_) aaV;exact dz (i:=0) (by grind)
 refine DK je vY an λz Fj=>⟨⟨by omega,by omega⟩,⟨by omega,by omega,?_,λc cn I kS=>?_,by rw[bh];simp⟩,by dsimp only;omega⟩
 rw[show(x+1).toNat=x.toNat+1 by omega,fN,U,en]
 unfold ec at Fj ⊢
 rw[en]
 exact Fj
 rw[bz _ _ kS];exact pT c cn I kS
 .rw[gC (by omega)] at vY;obtain⟨ub,cC⟩:∃ub,ub=nY w gV:=⟨_,rfl⟩;have lub:ub.le w:=by rw[cC];exact DJ _ _
  have A4:aD ub w 52 2 gV (ls.flatMap cJ):=⟨b7.own.own.le λc z I ac=>pT c z ac λe=>Da (by rw[I,e]),lub,λg Z=>by rw[cC];unfold nY;exact b3 Z⟩
  have G6:ub n8=some mi:=by rw[cC,nZ Sq];exact xe
  have tv:∀r∈ls,Ints ub r.s r.v:=λr U=>bw.else (r9.2 r U) λg z Z ac=>by rw[cC,nZ ((b7.ej r U).symm g Z)];exact ac
  have p4:∀r∈ls,∀g,r.s.al=some g->ub g≠none/\g≠n8/\g≠m:=λr U g Z=>by have aT:g≠m:=λe=>fR r U (by rw[Z,e]);refine⟨λe=>?_,λe=>ZX r U (by rw[Z,e]),aT⟩;obtain⟨z,ac⟩:=fp.1 (dH (b7.inner r U) Z);rw[cC,nZ ((b7.ej r U).symm g Z),pT g z ac aT] at e;cases e
  have an6:∀c z,u c=some z->w c=some z/\gV.al≠some c:=λc z I=>⟨pT c z (tA c z (Bl c z I)) (λe=>(by grind)),λe=>(by have:=b7.own.fresh c e;rw[Bl c z I] at this;cases this)⟩;have DY:u.le ub:=λc z I=>by obtain⟨h1,h2⟩:=an6 c z I;rw[cC,nZ h2];exact h1
  have aEc:ub m≠none:=by rw[cC,nZ Da];exact vX
  have fin:∀(root:aA aw) (oZ:H),(∀c z,w c=some z->gV.al≠some c->oZ c=some z)->(∀n,root=some n->(∀x∈n.bT,hL oZ x)/\n.own.Nodup/\(∀c∈n.own,ub c=none/\oZ c≠none)/\(∀x∈n.bT,∀r∈x.1.rows,r∈ls)/\gr dim n.bG/\lM 2 n.bG/\n.bT.length+1<=2*ls.length)->
    (match root with|none=>([]:J ke)|some n=>n.bG.all).Perm (ls.map ax.bn)->H.aM oZ (er (cp n8 0 none) 2) [.pointer (root.map λn=>⟨n.b,0,none⟩)] λk2=>K (some ⟨n8,0,none⟩) 0 k2:=by
   intro root oZ f1 f2 f3
   have LF:oZ n8=some mi:=f1 _ _ xe Sq
   rw[oO] at LF
   refine Ph LF ?_
   obtain⟨T,aV⟩:∃T:aU,T=⟨dim,a,root,m,ls.map Az,0⟩:=⟨_,rfl⟩
   obtain⟨k2,FE⟩:∃k2,k2=oZ.ins n8 (.cells #[.int .i64 dim,.int .i64 a,.pointer (root.map λn=>⟨n.b,0,none⟩),.map (some m)] 169 (0,0)):=⟨_,rfl⟩
   rw[<-FE]
   have g1:∀c z,oZ c=some z->c≠n8->k2 c=some z:=λc z I an=>by rw[FE,bz _ _ an];exact I
   have Gb:∀n,root=some n->n8∉n.own/\m∉n.own/\∀r∈ls,∀g,r.s.al=some g->g∉n.own:=λn ag=>by
    grind
   obtain⟨ah,ly⟩:∃ah:O->aA bB,ah=λc=>open Classical in if c=n8 then some .tree else if c=m then some .map else if ∃n,root=some n/\c∈n.own then some .node else if ∃r∈ls,r.s.al=some c then some .vec else none:=⟨_,rfl⟩
   have gU:ah n8=some .tree:=by grind
   have du:ah m=some .map:=by grind
   have nU:∀n c,root=some n->c∈n.own->ah c=some .node:=λn c ag I=>by obtain⟨aT,aN,_⟩:=Gb n ag;rw[ly];show(if c=n8 then _ else _)=_;rw[bF (λe=>aT (by rw[<-e];exact I)),bF (λe=>aN (by rw[<-e];exact I)),b3 ⟨n,ag,I⟩]
   have tH:∀r∈ls,∀g,r.s.al=some g->ah g=some .vec:=λr U g Z=>by obtain⟨_,aT,aN⟩:=p4 r U g Z;rw[ly];show(if g=n8 then _ else _)=_;rw[bF aT,bF aN,bF (λ⟨n,ag,I⟩=>(Gb n ag).2.2 r U g Z I),b3 ⟨r,U,Z⟩]
   have vd:∀c,ah c≠none->c=n8∨c=m∨(∃n,root=some n/\c∈n.own)∨∃r∈ls,r.s.al=some c:=λc I=>by
    grind
   have Px:∀r∈ls,Ints k2 r.s r.v:=λr U=>bw.else (r9.2 r U) λg z Z ac=>g1 g z (f1 g z ac ((b7.ej r U).symm g Z)) (p4 r U g Z).2.1
   have Mm:bi T=ls.map ax.bn:=by rw[aV];unfold bi;rw[e4];rfl
   have LC:k2 n8=some (.cells (fx T).toArray 169 (0,0)):=by rw[FE,bh,aV];rfl
   have MC:fE k2 m (ec (ls.map Az)):=vY.else λz ac=>g1 m z (f1 m z ac Da) (e3 nJ)
   refine bM k2 n8 ah T ⟨⟨⟨LC,gU,by rw[aV];exact MC,by rw[aV];exact du,λe kz=>?_,λn ag=>?_⟩,λc z I=>?_,λc I=>?_,λc I=>?_⟩,⟨by grind,by grind,λe kz=>?_,λe kz=>?_,by grind,?_,λn ag=>?_,λn ag=>(by rw[aV] at ag;exact(f2 n ag).2.2.2.2.2.1),λn ag=>?_⟩,by rw[Mm];exact ad,by rw[aV],by rw[aV],by rw[aV]⟩
   rw[aV] at kz
   obtain⟨r,U,rfl⟩:=bQ.1 kz
   exact⟨Px r U,tH r U⟩
   rw[aV] at ag
   obtain⟨di,dv,ef,hl,_⟩:=f2 n ag
   obtain⟨aT,_,_⟩:=Gb n ag
   refine⟨λx M=>(di x M).bO (λc z I ac=>g1 c z ac λe=>aT (by rw[<-e];exact eA.2 ⟨x,M,I⟩)) λr U=>Px r (hl x M r U),dv,λc I=>nU n c ag I,λx M r U g Z=>tH r (hl x M r U) g Z⟩
   grind
   rcases vd c I with rfl|rfl|⟨n,ag,qH⟩|⟨r,U,pZ⟩
   exact A1
   exact hm
   exact DY.none ((f2 n ag).2.2.1 c qH).1
   exact Bl.none ((b7.inner r U).fresh c pZ)
   rcases vd c I with rfl|rfl|⟨n,ag,qH⟩|⟨r,U,pZ⟩
   rw[LC];simp
   obtain⟨_,_,br,_⟩:=MC
   rw[br];simp
   obtain⟨z,ac⟩:=fp.1 ((f2 n ag).2.2.1 c qH).2
   grind
   obtain⟨z,ac⟩:=fp.1 (dH (b7.inner r U) pZ)
   obtain⟨_,aT,aN⟩:=p4 r U c pZ
   rw[g1 c z (f1 c z (pT c z ac aN) ((b7.ej r U).symm c pZ)) aT];simp
   rw[aV] at kz
   obtain⟨r,U,rfl⟩:=bQ.1 kz
   exact AY.id r U
   rw[aV] at kz ⊢
   obtain⟨r,U,rfl⟩:=bQ.1 kz
   exact AY.v r U
   rw[Mm,aV]
   exact f3
   rw[aV] at ag ⊢
   exact(f2 n ag).2.2.2.2.1
   grind
  rw[oO] at G6;refine GP (by omega) (aZ G6 0) (aZ G6 1) A4 tv AY (λfi u' kE=>?_) λan u' n I fM=>?_;exact fin none u' (λc z I _=>kE c z I) (λn ag=>by cases ag) (by rw[fi];exact .refl _);exact fin (some n) u' (λc z dI kS=>I.uv c z dI kS) (λn' hY=>by obtain rfl:=eh hY;exact⟨I.one,I.nodup,I.out,I.rows,I.ok,fM,I.size⟩) I.all
end k6
section
variable{d:o}
def Jo(aQ:J kq)(n:aw):(nn aQ n).bG.all.Perm (n.bG.all++(jQ aQ n.b).flatMap λx=>x.1.rows.map ax.bn):=by rw[aw.tJ,aw.tJ,<-hb];exact(Gd aQ n).flatMap_right _
def azX(aQ:J kq)(n:aw):(nn aQ n).own.Perm (n.own++(jQ aQ n.b).flatMap λx=>x.1.dE):=by unfold aw.own;rw[<-hb];exact(Gd aQ n).flatMap_right _
def kq.hI(f:kq):b1:=(bI.mk f.h.aC f.h.bm f.h.hi f.h.cD [] []).hI []
def Xs(f:kq)(n:aw):(f.fill n).bG.hI []=f.hI:=by rw[aw.hz];rfl
def CG(f:kq)(n:aw):(f.fill n).bG.kids=(f.pre++n::f.post).map aw.bG:=by rw[aw.hz];rfl
theorem CF(f:kq)(n:aw)(x:ke):x∈(f.fill n).bG.all↔x∈f.h.rows.map ax.bn∨(∃k∈f.pre++f.post,x∈k.bG.all)∨x∈n.bG.all:=by
 rw[bI.all_eq,CG,dT,yy,eA];have Xo:(f.fill n).bG.rows=f.h.rows.map ax.bn:=by rw[aw.hz];rfl
 grind
def arW{f:kq}{n n':aw}(h:gr d (f.fill n).bG)(bZ:gr d n'.bG)(eL:∀x∈n'.bG.all,x∈n.bG.all∨mq f.hI x.2):gr d (f.fill n').bG:=by have h1:=h.kb;have h2:=h.ins;have h3:=h.kids;rw[Xs] at h1 h2;rw[CG] at h3;refine .mk (by rw[Xs];exact h1) (λx M=>?_) λk hk=>?_;rw[Xs];rcases(CF f n' x).1 M with M|M|M;exact h2 x ((CF f n x).2 (.inl M));exact h2 x ((CF f n x).2 (.inr (.inl M)));rcases eL x M with M|M;exact h2 x ((CF f n x).2 (.inr (.inr M)));exact M;rw[CG] at hk;obtain⟨W,aE,rfl⟩:=bQ.1 hk;rw[dT,dM] at aE;rcases aE with aE|rfl|aE;exact h3 _ (kH (kG _ aE));exact bZ;exact h3 _ (kH (q1 _ (iX _ aE)))
def Jp:∀(aQ:J kq) {n:aw},gr d (nn aQ n).bG->gr d n.bG
 | [],_,h=>h|f::aQ,n,h=>by have:=Jp aQ (n:=f.fill n) h;have h3:=this.kids;rw[CG] at h3;exact h3 _ (kH (by simp))
theorem abZ:∀(aQ:J kq) {n n':aw},gr d (nn aQ n).bG->gr d n'.bG->(∀x∈n'.bG.all,x∈n.bG.all∨∀f∈aQ,mq f.hI x.2)->gr d (nn aQ n').bG
 | [],_,_,_,bZ,_=>bZ|f::aQ,n,n',h,bZ,eL=>by
  refine abZ aQ (n:=f.fill n) (n':=f.fill n') h (arW (Jp aQ h) bZ λx M=>(eL x M).imp id λM=>M f (ik ..)) λx M=>?_;rcases(CF f n' x).1 M with M|M|M;exact .inl ((CF f n x).2 (.inl M));exact .inl ((CF f n x).2 (.inr (.inl M)));rcases eL x M with M|M;exact .inl ((CF f n x).2 (.inr (.inr M)))
  grind
end
