/- Texts of mine, joined and packed by pack.py. -/
import Derived.Test.YtejdhbfjjgcljaaGreatDoorMrd10
set_option linter.all false
open _root_ renaming List->J,Nat->O,Option->aA,Array->cA,Int->o,Bool->ay,absurd->bf
open Go renaming Value->ap,World->ci,Addr->a8,TypeId->dC,Code->iW,madeCells->mF
open Bool renaming true->ai,false->ao
open Go.Obj renaming cells->bt,deferred->vk
open Go.Instr renaming lookup->gY,makeSlice->qU
open Go.Builtin renaming clear_->qc,zeroCells->wy
open Go.Addr renaming add->er,mk->cp
open List renaming range->lD,replicate->fz,length->iY,flatMap->wC
open Go.Proofs.Tryz renaming prog->aH
open Go.Value renaming int->cN,pointer->ha,slice->ed,oneCell'->cI
open Int renaming tmod->lE,tdiv->ff,toNat->wE
open List.Perm renaming cons->j9
open Go.Exit renaming normal->sA
open Prod renaming fst->vl,snd->wD
set_option maxRecDepth 100000
noncomputable section
namespace Go.Proofs.YtejdhbfjjgcljaaGreatDoor
open H
section
variable{u ak:H}{s:N}{cs:J (N×J o)}{i d k:O}{v:J o}{n x st seed:o}
def UC:ku aH 133=some (30,1,24,[.slice none 0 0]):=by kernel_rfl
structure gk(ak u:H)(s:N)(cs:J (N×J o)):Prop where
 own:aD ak u 30 1 s (cs.flatMap λc=>encS c.1)
 inner:∀c∈cs,aD ak u 3 1 c.1 (c.2.flatMap encI)
 ej:∀c∈cs,dB s c.1
 apart:cs.Pairwise λa b=>dB a.1 b.1
def gk.yn(h:gk ak u s cs):mR u s cs:=⟨h.own.own.cK,λc I=>(h.inner c I).ints⟩
def gk.mono{u':H}(h:gk ak u s cs)(k:u.le u'):gk ak u' s cs:=⟨h.own.mono k,λc I=>(h.inner c I).mono k,h.ej,h.apart⟩
def gk.weaken{aR:H}(h:gk aR u s cs)(k:ak.le aR):gk ak u s cs:=⟨h.own.weaken k,λc I=>(h.inner c I).weaken k,h.ej,h.apart⟩
def gk.len(h:gk ak u s cs):s.n=cs.length:=h.yn.len
def gk.else{u':H}{t:N}(h:gk ak u s cs)(he:hc u u' t)(ht:∀g,t.al=some g->ak g=none)(h1:dB t s)(h2:∀c∈cs,dB t c.1):gk ak u' s cs:=
 ⟨aD.else h.own he ht h1,λc I=>aD.else (h.inner c I) he ht (h2 c I),h.ej,h.apart⟩
def gk.none(h:aD ak u 30 1 s ((fz k ((⟨none,0,0⟩:N),([]:J o))).flatMap λc=>encS c.1)):gk ak u s (fz k (⟨none,0,0⟩,[])):=by refine⟨h,λc I=>?_,λc I=>?_,?_⟩;rw[(Gx.1 I).2];exact aD.nil h.le _ _;rw[(Gx.1 I).2];intro g _ Z;simp[N.al] at Z;rw[acr];exact .inr λg Z=>by simp[N.al] at Z
def akZ{α:Type}{R:α->α->Prop}{l:J α}(h:l.Pairwise R)(ae:∀a b,R a b->R b a){y:α}(aj:∀j W,j≠i->l[j]?=some W->R W y):(l.set i y).Pairwise R:=by rw[lW];intro a b az aa LV;rw[Gk] at az aa;rw[acv,acv];split;rename_i e;split;omega;rename_i aN;exact ae _ _ (aj b _ (e3 aN) (dj aa));rename_i e;split;exact aj a _ (e3 e) (dj az);exact lW.1 h a b az aa LV
def mem_set{α:Type}{l:J α}{y W:α}(h:W∈l.set i y):W=y∨∃j,j≠i/\l[j]?=some W:=by obtain⟨j,aP,rfl⟩:=oX h;rw[Gk] at aP;rw[acv];split;exact .inl rfl;rename_i e;exact .inr ⟨j,e3 e,dj aP⟩
theorem XH{α:Type}{l:J α}{j:O}{y W:α}(h:(l.set i y)[j]?=some W):(j=i/\W=y)∨(j≠i/\l[j]?=some W):=by
 grind
theorem gk.amk(h:gk ak u s cs){j:O}{c:N×J o}(hi:cs[i]?=some c)(aP:j<c.2.length){p:a8}(ad:c.1.a=some p){f:H->Prop}
  (ab:∀u',gk ak u' s (cs.set i (c.1,c.2.set j x))->hc u u' c.1->f u'):H.aM u (p.add (j*1)) [.int .i64 x] f:=by
 have I:=dz hi
 have ey:i<cs.length:=(hG.1 hi).1
 have w9:cs[i]=c:=(hG.1 hi).2
 have other:∀W k,k≠i->cs[k]?=some W->dB c.1 W.1:=λW k hk aE=>by have hW:=(hG.1 aE).1;have QV:=(hG.1 aE).2;rcases Nat.lt_or_gt_of_ne hk with h1|h1;have:=lW.1 h.apart k i hW ey h1;rw[QV,w9] at this;exact this.symm;have:=lW.1 h.apart i k ey hW h1;rw[QV,w9] at this;exact this
 refine aD.store (enc:=encI) j4 (h.inner c I) (by decide) (i:=j) aP (y:=x) (by simp[encI,cI]) ad λu' ac he _=>ab u' ⟨?_,λW aE=>?_,λW aE=>?_,?_⟩ he
 have e:(cs.set i (c.1,c.2.set j x)).flatMap (λc=>encS c.1)=cs.flatMap λc=>encS c.1:=by
   have:(cs.set i (c.1,c.2.set j x)).map (λc=>c.1)=cs.map λc=>c.1:=by
    rw[Gw];apply sr;intro m;rw[Jy];split
    grind
    rfl
   have aN:∀l:J (N×J o),l.flatMap (λc=>encS c.1)=(l.map λc=>c.1).flatMap encS:=λl=>by rw[BA]
   rw[aN,this,<-aN]
 rw[e]
 exact aD.else h.own he (h.inner c I).fresh (h.ej c I).symm
 rcases mem_set aE with rfl|⟨k,hk,aE⟩
 exact ac
 exact aD.else (h.inner W (dz aE)) he (h.inner c I).fresh (other W k hk aE)
 rcases mem_set aE with rfl|⟨k,hk,aE⟩
 exact h.ej c I
 exact h.ej W (dz aE)
 exact akZ h.apart (λa b h=>h.symm) λk W hk aE=>(other W k hk aE).symm
def gk.put{aR:H}{t:N}(h:gk ak u s cs)(ht:aD u aR 3 1 t (v.flatMap encI))(hi:i<cs.length){p:a8}(ad:s.a=some p){f:H->Prop}
  (ab:∀u',gk ak u' s (cs.set i (t,v))->hc aR u' s->f u'):H.aM aR (p.add (i*1)) [.slice t.a t.n t.c] f:=by
 have h1:=h.mono ht.le
 have ph:ak.le u:=h.own.le
 have Xr:∀{e k:O} {x:N} {xs:J ap},aD ak u e k x xs->dB x t:=λM=>aD.ej M (H.le.refl u) ht
 refine aD.store (enc:=λc:N×J o=>encS c.1) vK h1.own (by decide) (i:=i) hi (y:=(t,v)) (by simp[encS,cI]) ad λu' ac he _=>ab u' ⟨ac,λW aE=>?_,λW aE=>?_,?_⟩ he
 rcases mem_set aE with rfl|⟨k,hk,aE⟩
 exact aD.else (ht.weaken ph) he h.own.fresh (Xr h.own)
 exact aD.else (h1.inner W (dz aE)) he h.own.fresh (h.ej W (dz aE))
 rcases mem_set aE with rfl|⟨k,hk,aE⟩
 exact Xr h.own
 exact h.ej W (dz aE)
 exact akZ h.apart (λa b h=>h.symm) λk W hk aE=>Xr (h.inner W (dz aE))
def NU(cs:J (J o))(v:J o):O:=(mD cs v cs.length).1
def mg(cs vs:J (J o))(i:O):J (J o):=vs.filter λv=>decide (NU cs v=i)
def qi(m:J (J o))(j:O):o:=(m.map λv=>v.getD j 0).sum
def zo(m:J (J o))(d:O):J o:=(lD d).map λj=>qi m j/(m.length:o)
def BG(d:O)(vs cs:J (J o)):J (J o):=(lD cs.length).map λi=>if mg cs vs i=[] then cs.getD i [] else zo (mg cs vs i) d
def acG(d:O)(vs cs:J (J o)):(BG d vs cs).length=cs.length:=by simp[BG]
theorem aAD{vs cs:J (J o)}(h:i<cs.length):(BG d vs cs)[i]?=some (if mg cs vs i=[] then cs.getD i [] else zo (mg cs vs i) d):=by
 unfold BG
 grind
theorem akD{cs vs:J (J o)}{x:O}(h:vs[x]?=some v)(i:O):mg cs (vs.take (x+1)) i=mg cs (vs.take x) i++(if NU cs v=i then[v] else[]):=by
 unfold mg;rw[fN,h,Option.toList,BB]
 grind
theorem aDq(a b:J (J o))(j:O):qi (a++b) j=qi a j+qi b j:=by
 unfold qi
 grind
def aDr(v:J o)(j:O):qi [v] j=v.getD j 0:=by simp[qi]
def anA(j:O):qi [] j=0:=rfl
theorem afP(h:cY v)(j:O):-2147483647<=v.getD j 0/\v.getD j 0<=2147483647:=by
 by_cases aP:j<v.length;exact h.2 j aP
 grind
theorem adG{m:J (J o)}(h:∀v∈m,cY v)(j:O):-2147483647*(m.length:o)<=qi m j/\qi m j<=2147483647*(m.length:o):=by
 induction m with
 |nil=>simp[qi]|cons v m aW=>
  have h1:=afP (h v (ik ..)) j;have h2:=aW λw hw=>h w (iX _ hw);have e:qi (v::m) j=v.getD j 0+qi m j:=by simp[qi]
  grind
def ayE{m:J (J o)}(h:∀v∈m,cY v)(hm:m≠[])(av:d<=64):cY (zo m d)/\(zo m d).length=d:=by
 have aq:(zo m d).length=d:=by simp[zo]
 refine⟨⟨by omega,λi hi=>?_⟩,aq⟩;have ad:(0:o)<(m.length:o):=by have:=yb.2 hm;omega
 have e:(zo m d).getD i 0=qi m i/(m.length:o):=by unfold zo;rw[jX,pw,acm (by omega)];rfl
 rw[e];obtain⟨h1,h2⟩:=adG h i;exact⟨Int.le_ediv_of_mul_le ad h1,Int.ediv_le_of_le_mul ad h2⟩
def abz{cs vs:J (J o)}(h:v∈mg cs vs i):v∈vs:=(kZ.1 h).1
def akC(cs vs:J (J o))(i:O):(mg cs vs i).length<=vs.length:=DE _ _
theorem alP{vs cs:J (J o)}(aB:∀v∈vs,cY v)(av:d<=64)(I:∀c∈cs,c.length=d/\cY c):∀c∈BG d vs cs,c.length=d/\cY c:=by
 intro c c4;obtain⟨i,hi,rfl⟩:=bQ.1 c4;have ey:i<cs.length:=ab7.1 hi;split
 grind
 rename_i an;obtain⟨h1,h2⟩:=ayE (d:=d) (λv gS=>aB v (abz gS)) an av;exact⟨h2,h1⟩
theorem aq7{a b:o}(aa:0<b):(lE a b<0->ff a b-1=a/b)/\(¬lE a b<0->ff a b=a/b):=by
 have h1:=Int.mul_tdiv_add_tmod a b;have h2:=Int.mul_ediv_add_emod a b;have h3:=OE a (show b≠0 by omega);have br:=OF a aa;have bL:(lE a b).natAbs<b.natAbs:=by rw[Int.natAbs_tmod];exact Gr _ (by omega)
 have key:∀q r Br cx:o,b*q+r=b*Br+cx->0<=r->r<b->0<=cx->cx<b->q=Br:=by
  intro q r Br cx he q2 nq aKE aKF;have aT:b*(q-Br)=cx-r:=by grind
  by_cases aL:q=Br;exact aL;rcases Int.lt_or_gt_of_ne aL with h|h;have:b*(q-Br)<=b*(-1):=DB (by omega) (by omega);omega;have:b*1<=b*(q-Br):=DB (by omega) (by omega);omega
 grind
def aB6{a b:o}{K:o->H->Prop}(aa:0<b)(h1:-10000000000000<=a)(h2:a<=10000000000000)(au:K (a/b) u):Vo a b u K:=by obtain⟨d1,d2⟩:=aq7 (a:=a) aa;have xE:-10000000000000<=a/b:=Int.le_ediv_of_mul_le aa (by omega);have ZU:a/b<=10000000000000:=Int.ediv_le_of_le_mul aa (by omega);apply aFG;refine⟨by omega,?_,by omega,λag=>?_,λag=>?_⟩;by_cases ag:lE a b<0;have:=d1 ag;exact⟨by omega,by omega⟩;have:=d2 ag;exact⟨by omega,by omega⟩;rw[d1 ag];exact⟨⟨by omega,by omega⟩,au⟩;rw[d2 ag];exact au
theorem acY(h0:0<=n)(ag:n<=1000000){K:N->H->Prop}(au:∀s u',aD u u' 3 1 s ((fz n.toNat (0:o)).flatMap encI)->(s.n:o)=n->K s u'):
  c7 aH (qU 30 (.int .i64 n) (.int .i64 n)) [.one .slice] u K:=by
 refine J7 kK h0 (ps _) (by omega) (by omega) λg Z=>?_
 have uK:(mF [cN .i64 0].toArray (n.toNat*1)).toList=(fz n.toNat (0:o)).flatMap encI:=Dj (enc:=encI) j4 (by decide) 0 n.toNat
 have dm:(mF [cN .i64 0].toArray (n.toNat*1)).size=n.toNat*1:=by have:=eI iY uK;rw[zE,oc j4] at this;simpa using this
 have ac:=aD.make (k:=1) (H.le.refl u) Z (cells:=mF [cN .i64 0].toArray (n.toNat*1)) (e:=3) (n:=n.toNat) (by omega) dm
 rw[uK] at ac
 exact au _ _ ac (by grind)
theorem amd(h0:0<=n)(ag:n<=1000000){K:N->H->Prop}(au:∀s u',gk u u' s (fz n.toNat (⟨none,0,0⟩,[]))->(s.n:o)=n->K s u'):
  c7 aH (qU 133 (.int .i64 n) (.int .i64 n)) [.one .slice] u K:=by
 refine J7 UC h0 (ps _) (by omega) (by omega) λg Z=>?_
 have uK:(mF [ed none 0 0].toArray (n.toNat*1)).toList=(fz n.toNat ((⟨none,0,0⟩:N),([]:J o))).flatMap λc=>encS c.1:=Dj (enc:=λc:N×J o=>encS c.1) vK (by decide) (⟨none,0,0⟩,[]) n.toNat
 have dm:(mF [ed none 0 0].toArray (n.toNat*1)).size=n.toNat*1:=by have:=eI iY uK;rw[zE,oc vK] at this;simpa using this
 have ac:=aD.make (k:=1) (H.le.refl u) Z (cells:=mF [ed none 0 0].toArray (n.toNat*1)) (e:=30) (n:=n.toNat) (by omega) dm
 rw[uK] at ac
 exact au _ _ (gk.none ac) (by grind)
theorem arN{a b:J o}(aq:a.length=b.length)(h:∀j,j<a.length->a.getD j 0=b.getD j 0):a=b:=by
 apply acw aq
 grind
theorem XE(l:J o)(i j:O)(x:o)(hi:i<l.length):(l.set i x).getD j 0=if j=i then x else l.getD j 0:=by
 grind
structure RoundIn(ub:H)(a0 Y a2 a3:O)(k d:O)(bx lo:N)(L:J (N×J o)):Prop where
 bA:ub.cell? ⟨a0,0,none⟩=some (.int .i64 k)
 c1:ub.cell? ⟨Y,0,none⟩=some (.int .i64 d)
 c2:ub.cell? ⟨a2,0,none⟩=some (.slice bx.a bx.n bx.c)
 fc:ub.cell? ⟨a3,0,none⟩=some (.slice lo.a lo.n lo.c)
 vs:mR ub bx L
 ok:∀c∈L,c.2.length=d/\cY c.2
 vM:L.length<=512
 dim:1<=d/\d<=64
 many:1<=k/\k<=64
theorem aB8{ub:H}{a0 Y a2 a3:O}{bx lo:N}{L oD:J (N×J o)}{K:H->Prop}(cv:RoundIn ub a0 Y a2 a3 k d bx lo L)(xf:gk ub u lo oD)(ag6:oD.length=k)(XY:∀c∈oD,c.2.length=d/\cY c.2)
  (au:∀u' aeg,gk ub u' lo aeg->aeg.map (·.2)=BG d (L.map (·.2)) (oD.map (·.2))->K u'):aeG ⟨a0,0,none⟩ ⟨Y,0,none⟩ ⟨a2,0,none⟩ ⟨a3,0,none⟩ u K:=by
 obtain⟨d1,d2⟩:=cv.dim
 obtain⟨cB,cW⟩:=cv.many
 have tf:=cv.vM
 have cC:ub.le u:=xf.own.le
 obtain⟨cs,dV⟩:∃cs,cs=oD.map (·.2):=⟨_,rfl⟩
 obtain⟨vs,nj⟩:∃vs,vs=L.map (·.2):=⟨_,rfl⟩
 have at6:cs.length=k:=by grind
 have aJ8:vs.length=L.length:=by grind
 have FH:∀v∈vs,cY v:=λv aB=>by rw[nj] at aB;obtain⟨c,I,rfl⟩:=bQ.1 aB;exact(cv.ok c I).2
 have asL:wW oD (d:o):=⟨by omega,by omega,λc I=>⟨by grind,(XY c I).2⟩⟩
 apply aFE
 refine⟨k,cC.cell cv.bA,amd (by omega) (by omega) λs1 cF LS awG=>⟨k,(cC.trans LS.own.le).cell cv.bA,acY (by omega) (by omega) λoy gq r7 awJ=>⟨k,((cC.trans LS.own.le).trans r7.le).cell cv.bA,?_⟩⟩⟩
 have ahp:=LS.mono r7.le
 have arQ:∀{e k:O} {x:N} {xs:J ap},aD u cF e k x xs->dB x oy:=λM=>aD.ej M (H.le.refl cF) r7
 refine⟨λx w=>0<=x/\x<=k/\∃S,gk u w s1 S/\S.length=k/\(∀(a:O) c,S[a]?=some c->((a:o)<x->c.2=fz d 0))/\aD u w 3 1 oy ((fz k (0:o)).flatMap encI)/\dB s1 oy/\∀c∈S,dB c.1 oy,λx _=>((k:o)-x).toNat,
  ⟨by omega,by omega,_,ahp,by simp,λa c _ h=>by omega,by simpa using r7.weaken LS.own.le,arQ LS.own,λc I g Z=>by rw[(Gx.1 I).2] at Z;simp[N.al] at Z⟩,?_⟩
 rintro x w ⟨bK,dr,S,bb,vQ,Ii,jR,E1,Ir⟩
 refine⟨λM=>⟨d,(cC.trans bb.own.le).cell cv.c1,?_⟩,λM=>?_⟩
 refine acY (by omega) (by omega) λGC adQ ac aiT=>?_
 have eY:x.toNat<S.length:=by omega
 obtain⟨p,ad,_⟩:=bb.yn.at bK (by rw[bb.len];omega)
 refine⟨p,ad,⟨bK,by omega⟩,?_⟩
 rw[show((d:O):o).toNat=d from rfl] at ac
 refine gk.put bb ac eY ad λu' CO he=>⟨⟨by omega,by omega⟩,⟨by omega,by omega,_,CO,by grind,λa c nF ahE=>?_,?_,E1,λc I=>?_⟩,by dsimp only;omega⟩
 grind
 exact aD.else (jR.mono ac.le) he bb.own.fresh E1
 rcases mem_set I with rfl|⟨j,_,aP⟩
 exact(aD.ej jR (H.le.refl w) ac).symm
 exact Ir c (dz aP)
 have IW:x.toNat=k:=by omega
 have ahq:∀(a:O) c,S[a]?=some c->c.2=fz d 0:=λa c nF=>Ii a c nF (by grind)
 clear Ii bK dr M IW x ahp r7 awG awJ
 refine⟨bx,(cC.trans bb.own.le).cell cv.c2,?_⟩
 have aJY:=cv.vs.len
 refine⟨λx w=>0<=x/\x<=L.length/\∃(S:J (N×J o)) (cq:J o),gk u w s1 S/\S.length=k/\(∀(a:O) c,S[a]?=some c->c.2.length=d/\∀j,j<d->c.2.getD j 0=qi (mg cs (vs.take x.toNat) a) j)/\aD u w 3 1 oy (cq.flatMap encI)/\cq.length=k/\(∀a,a<k->cq.getD a 0=((mg cs (vs.take x.toNat) a).length:O))/\dB s1 oy/\∀c∈S,dB c.1 oy,
  λx _=>((L.length:o)-x).toNat,⟨by omega,by omega,S,_,bb,vQ,λa c nF=>?_,jR,by simp,λa az=>?_,E1,Ir⟩,?_⟩
 rw[ahq a c nF]
 refine⟨by simp,λj aP=>?_⟩
 have:mg cs (vs.take (0:o).toNat) a=[]:=rfl
 rw[this,anA,jX,Ot,b3 aP]
 rfl
 have:mg cs (vs.take (0:o).toNat) a=[]:=rfl
 grind
 clear bb jR E1 Ir vQ ahq S w
 rintro x w ⟨bK,dr,S,cq,bb,vQ,Ii,jR,aIT,X8,E1,Ir⟩
 have sm:ub.le w:=cC.trans bb.own.le
 have aIS:oy.n=cq.length:=jR.ints.len
 refine⟨λM=>?_,λM=>?_⟩
 obtain⟨p,ad,v,aB,ajN,w7,ajM⟩:=(cv.vs.mono sm).at (x:=x) bK M
 obtain⟨aK5,aon⟩:=cv.ok v ajN
 have aaC:vs[x.toNat]?=some v.2:=by grind
 refine⟨p,ad,⟨bK,M⟩,v.1,w7,lo,sm.cell cv.fc,?_⟩
 refine adg (xf.yn.mono bb.own.le) asL ajM aon (by omega) ?_
 have MO:(mD (oD.map (·.2)) v.2 oD.length).1=NU cs v.2:=by unfold NU;rw[dV,eb]
 rw[MO]
 obtain⟨at',sa⟩:∃at',at'=NU cs v.2:=⟨_,rfl⟩
 have atN:at'<k:=by rw[sa,<-at6];exact akK _ _ _ (by omega)
 rw[<-sa]
 obtain⟨tH,xD,Io⟩:=jR.ints.at (x:=(at':o)) (by omega) (by omega)
 have uM:=X8 at' atN
 have nf:=akC cs (vs.take x.toNat) at'
 rw[iV] at nf
 rw[zL] at Io
 refine⟨tH,xD,⟨by omega,by omega⟩,_,by unfold aG;rw[zL];exact Io,⟨by omega,by omega⟩,tH,xD,⟨by omega,by omega⟩,?_⟩
 unfold aG
 rw[zL]
 refine aD.store (enc:=encI) j4 jR (by decide) (i:=at') (by omega) (y:=cq.getD at' 0+1) (by simp[encI,cI]) xD λwS ahm auf _=>⟨d,?_,?_⟩
 exact ahm.le|>λh=>(cC.trans h).cell cv.c1
 have att:gk u wS s1 S:=bb.else auf jR.fresh E1.symm λc I=>(Ir c I).symm
 have atg:∀a,a<k->(cq.set at' (cq.getD at' 0+1)).getD a 0=((mg cs (vs.take (x+1).toNat) a).length:O):=λa az=>by
  rw[XE _ _ _ _ (by omega),show(x+1).toNat=x.toNat+1 by omega,akD aaC,gG,<-sa]
  grind
 refine⟨λn w=>0<=n/\n<=d/\∃S,gk u w s1 S/\S.length=k/\(∀(a:O) c,S[a]?=some c->c.2.length=d/\∀j,j<d->c.2.getD j 0=qi (mg cs (vs.take x.toNat) a) j+(if a=at'/\(j:o)<n then v.2.getD j 0 else 0))/\aD u w 3 1 oy ((cq.set at' (cq.getD at' 0+1)).flatMap encI)/\∀c∈S,dB c.1 oy,λn _=>((d:o)-n).toNat,
  ⟨by omega,by omega,S,att,vQ,λa c nF=>⟨(Ii a c nF).1,λj aP=>by grind⟩,ahm,Ir⟩,?_⟩
 rintro n dF ⟨n0,cj,apu,EQ,atr,Yi,yP,RO⟩
 refine⟨λag=>?_,λag=>?_⟩
 obtain⟨gU,ft,c,I,c4,Cv,pQ⟩:=EQ.yn.at (x:=(at':o)) (by omega) (by rw[EQ.len];omega)
 rw[zL] at I
 obtain⟨cl,afS⟩:=Yi at' c I
 have qH:=pQ.len
 have nN:=ajM.len
 obtain⟨du,eX,aaK⟩:=pQ.at (x:=n) n0 (by omega)
 obtain⟨nU,rv,axq⟩:=((cv.vs.ints v ajN).mono (cC.trans EQ.own.le)).at (x:=n) n0 (by omega)
 have Sf:n.toNat<d:=by omega
 have AN:=afS n.toNat Sf
 rw[bF (by omega)] at AN
 have j6:=adG (m:=mg cs (vs.take x.toNat) at') (λW aE=>FH W (oW (abz aE))) n.toNat
 have iN:=afP aon n.toNat
 refine⟨gU,ft,⟨by omega,by rw[EQ.len];omega⟩,nU,rv,⟨n0,by omega⟩,c.1,Cv,du,eX,⟨n0,by omega⟩,_,aaK,_,axq,⟨by omega,by omega⟩,du,eX,⟨n0,by omega⟩,?_⟩
 refine EQ.amk I (j:=n.toNat) (by omega) eX λDV atu aui=>⟨⟨by omega,by omega⟩,⟨by omega,by omega,_,atu,by grind,λa W LW=>?_,aD.else yP aui (EQ.inner c c4).fresh (RO c c4),λW aE=>?_⟩,by dsimp only;omega⟩
 rcases XH LW with⟨rfl,rfl⟩|⟨e,LW⟩
 refine⟨by grind,λj aP=>?_⟩
 rw[XE _ _ _ _ (by omega)]
 by_cases e:j=n.toNat
 subst e
 omega
 rw[bF e,afS j aP]
 omega
 obtain⟨jw,z2⟩:=Yi a W LW
 refine⟨jw,λj aP=>?_⟩
 rw[z2 j aP,bF (λh=>e h.1),bF (λh=>e h.1)]
 rcases mem_set aE with rfl|⟨j,_,aP⟩
 exact RO c c4
 exact RO W (dz aP)
 refine⟨⟨by omega,by omega⟩,⟨by omega,by omega,apu,_,EQ,atr,λa W LW=>?_,yP,by grind,atg,E1,RO⟩,by dsimp only;omega⟩
 obtain⟨jw,z2⟩:=Yi a W LW
 refine⟨jw,λj aP=>?_⟩
 rw[z2 j aP,show(x+1).toNat=x.toNat+1 by omega,akD aaC,aDq,<-sa]
 by_cases e:a=at'
 subst e
 rw[b3 ⟨rfl,by omega⟩,b3 rfl,aDr]
 rw[bF (λh=>e h.1),bF (e3 e),anA]
 have eL:vs.take x.toNat=vs:=gC (by omega)
 rw[eL] at Ii X8
 clear M bK dr eL x
 have asM:=xf.mono bb.own.le
 have CO:=bb.weaken cC
 have ate:=jR.weaken cC
 have aIC:∀c∈oD,dB c.1 s1/\dB c.1 oy/\∀W∈S,dB c.1 W.1:=λc I=>by have M:=xf.inner c I;exact⟨aD.ej M (H.le.refl u) bb.own,aD.ej M (H.le.refl u) jR,λW aE=>aD.ej M (H.le.refl u) (bb.inner W aE)⟩
 refine⟨k,sm.cell cv.bA,?_⟩
 let val:O->O->o:=λa j=>if mg cs vs a=[] then(cs.getD a []).getD j 0 else qi (mg cs vs a) j/((mg cs vs a).length:o)
 have asd:∀{a:O} {c:N×J o},oD[a]?=some c->cs.getD a []=c.2:=λ{a c} nF=>by
  grind
 refine⟨λi w=>0<=i/\i<=k/\∃D,gk ub w lo D/\D.map (·.1)=oD.map (·.1)/\(∀(a:O) c,D[a]?=some c->c.2.length=d/\∀j,j<d->c.2.getD j 0=if(a:o)<i then val a j else(cs.getD a []).getD j 0)/\gk ub w s1 S/\aD ub w 3 1 oy (cq.flatMap encI),λi _=>((k:o)-i).toNat,
  ⟨by omega,by omega,oD,asM,rfl,λa c nF=>⟨(XY c (dz nF)).1,λj aP=>by
   grind⟩,CO,ate⟩,?_⟩
 rintro i hh ⟨i0,i1,D,fe,XZ,H8,ats,atf⟩
 have Rm:D.length=k:=by have:=eI iY XZ;simpa[ag6] using this
 have arR:∀{D:J (N×J o)},D.map (·.1)=oD.map (·.1)->∀c∈D,dB c.1 s1/\dB c.1 oy/\∀W∈S,dB c.1 W.1:=λ{D} XZ c I=>by
  have:c.1∈oD.map (·.1):=by grind
  grind
 refine⟨λhi=>⟨d,(fe.own.le).cell cv.c1,?_⟩,λhi=>?_⟩
 .have auS:i.toNat<k:=by omega
  refine⟨λn w=>0<=n/\n<=d/\∃D,gk ub w lo D/\D.map (·.1)=oD.map (·.1)/\(∀(a:O) c,D[a]?=some c->c.2.length=d/\∀j,j<d->c.2.getD j 0=if(a:o)<i∨(a:o)=i/\(j:o)<n then val a j else(cs.getD a []).getD j 0)/\gk ub w s1 S/\aD ub w 3 1 oy (cq.flatMap encI),λn _=>((d:o)-n).toNat,
   ⟨by omega,by omega,D,fe,XZ,λa c nF=>⟨(H8 a c nF).1,λj aP=>by rw[(H8 a c nF).2 j aP];by_cases e:(a:o)<i;rw[b3 e,b3 (.inl e)];rw[bF e,bF (by omega)]⟩,ats,atf⟩,?_⟩
  rintro n pC ⟨n0,cj,E,r5,LJ,H9,Ih,Rq⟩;have aIO:E.length=k:=by have:=eI iY LJ;simpa[ag6] using this
  refine⟨λag=>?_,λag=>⟨⟨by omega,by omega⟩,⟨by omega,by omega,E,r5,LJ,λa c nF=>⟨(H9 a c nF).1,λj aP=>by rw[(H9 a c nF).2 j aP];omega⟩,Ih,Rq⟩,by dsimp only;omega⟩⟩
  obtain⟨tH,xD,Io⟩:=Rq.ints.at (x:=i) i0 (by omega);have uM:=X8 i.toNat auS;have nf:=akC cs vs i.toNat;rw[uM] at Io;have next:∀{Hb:H} {F:J (N×J o)},gk ub Hb lo F->F.map (·.1)=oD.map (·.1)->(∀(a:O) c,F[a]?=some c->c.2.length=d/\∀j,j<d->c.2.getD j 0=if(a:o)<i∨(a:o)=i/\(j:o)<n+1 then val a j else(cs.getD a []).getD j 0)->gk ub Hb s1 S->aD ub Hb 3 1 oy (cq.flatMap encI)->
    (a7 (n+1))/\((0<=n+1/\n+1<=d/\∃D,gk ub Hb lo D/\D.map (·.1)=oD.map (·.1)/\(∀(a:O) c,D[a]?=some c->c.2.length=d/\∀j,j<d->c.2.getD j 0=if(a:o)<i∨(a:o)=i/\(j:o)<n+1 then val a j else(cs.getD a []).getD j 0)/\gk ub Hb s1 S/\aD ub Hb 3 1 oy (cq.flatMap encI))/\((d:o)-(n+1)).toNat<((d:o)-n).toNat):=λh1 h2 h3 br bL=>⟨⟨by omega,by omega⟩,⟨by omega,by omega,_,h1,h2,h3,br,bL⟩,by omega⟩
  refine⟨tH,xD,⟨i0,by omega⟩,_,Io,λoi=>?_,λAZ=>?_⟩
  .obtain⟨gU,ft,W,aE,SJ,K9,u1⟩:=Ih.yn.at (x:=i) i0 (by rw[Ih.len];omega);obtain⟨azP,awl,c,I,c4,Cv,pQ⟩:=r5.yn.at (x:=i) i0 (by rw[r5.len];omega);obtain⟨Ks,aoF⟩:=Ii i.toNat W aE;obtain⟨cl,w7⟩:=H9 i.toNat c I;have Sf:n.toNat<d:=by omega
   have axB:=u1.len;have qH:=pQ.len;obtain⟨aAa,awq,aj3⟩:=u1.at (x:=n) n0 (by omega);obtain⟨azQ,ajg,_⟩:=pQ.at (x:=n) n0 (by omega);rw[aoF n.toNat Sf] at aj3;have j6:=adG (m:=mg cs vs i.toNat) (λW aE=>FH W (abz aE)) n.toNat;refine⟨gU,ft,⟨i0,by rw[Ih.len];omega⟩,tH,xD,⟨i0,by omega⟩,lo,r5.own.le.cell cv.fc,azP,awl,⟨i0,by rw[r5.len];omega⟩,c.1,Cv,W.1,K9,aAa,awq,⟨n0,by omega⟩,_,aj3,_,Io,?_⟩;refine aB6 oi (by omega) (by omega) ⟨H.le.refl _,azQ,ajg,⟨n0,by omega⟩,?_⟩;obtain⟨f1,f2,f3⟩:=arR LJ c c4;refine r5.amk I (j:=n.toNat) (by omega) ajg λaKZ asS ah3=>next asS ?_ (λa y Yx=>?_) (Ih.else ah3 (r5.inner c c4).fresh f1 f3) (aD.else Rq ah3 (r5.inner c c4).fresh f2);rw[<-LJ,Gw];apply sr;intro m;rw[Jy];split;rename_i e;subst e;rw[b3 (by rw[eb];omega),pw,I];rfl;rfl;have an:mg cs vs i.toNat≠[]:=λh0=>by rw[h0] at oi;simp at oi
   rcases XH Yx with⟨rfl,rfl⟩|⟨e,Yx⟩;refine⟨by rw[Gk];exact cl,λj aP=>?_⟩;rw[XE _ _ _ _ (by omega)];by_cases e:j=n.toNat;subst e;rw[b3 rfl,b3 (.inr ⟨by omega,by omega⟩)];show _=if mg cs vs i.toNat=[] then _ else _;rw[bF an];rw[bF e,w7 j aP];omega;obtain⟨ii,jI⟩:=H9 a y Yx;refine⟨ii,λj aP=>?_⟩;rw[jI j aP];omega
  .refine next r5 LJ (λa c nF=>⟨(H9 a c nF).1,λj aP=>?_⟩) Ih Rq;have C6:mg cs vs i.toNat=[]:=qW (by omega);rw[(H9 a c nF).2 j aP];by_cases e:(a:o)<i;omega;by_cases aN:(a:o)=i;have QU:a=i.toNat:=by omega
   have aB:val a j=(cs.getD a []).getD j 0:=by show(if mg cs vs a=[] then _ else _)=_;rw[b3 (by rw[QU];exact C6)]
   omega;omega
 refine au hh D fe ?_
 rw[<-dV,<-nj]
 apply sr
 intro a
 by_cases az:a<k
 have ag9:D[a]?=some D[a]:=dj (by omega)
 obtain⟨dN,eZ⟩:=H8 a _ ag9
 have ag5:oD[a]?=some oD[a]:=dj (by omega)
 have hR:=(XY _ (dz ag5)).1
 rw[pw,ag9,aAD (by omega)]
 show some D[a].2=_
 congr 1
 have aro:cs.getD a []=oD[a].2:=asd ag5
 refine arN ?_ λj aP=>?_
 rw[dN]
 split
 rw[aro,hR]
 simp[zo]
 have au3:j<d:=by omega
 rw[eZ j au3,b3 (by omega)]
 show(if mg cs vs a=[] then _ else _)=_
 split
 rfl
 unfold zo
 grind
 rw[wx (by rw[eb];omega),wx (by rw[acG];omega)]
abbrev N9:iW:=J0 (Tryz.f133.body.getD Go.Code.skip)
def azS:N9=.rangeFunc (.tmp 31) #[32,33] (zN N9) (zO N9):=by kernel_rfl
def azU(fo:O)(i k:o)(v:H)(cZ:H->Prop)(env:J (O×ap))(he:(7,ha (some ⟨fo,0,none⟩))∈env)
  (h:(sA=sA)/\(([]:J (J ap))=[])/\(∃KP:H,(H.le KP v)/\(∃s1:N,((H.cell? v (cp fo 0 none))=(some (ed s1.a s1.n s1.c)))/\(∃s2:N,((H.cell? KP (cp fo 0 none))=(some (ed s2.a s2.n s2.c)))/\(∃k0:N,((H.cell? v (cp fo 0 none))=(some (ed k0.a k0.n k0.c)))/\(∃als:a8,(k0.a=(some als))/\((((0:o)<=k)/\(k<(k0.n:o)))/\(∃qo:o,((H.cell? v (er als ((wE k)*1)))=(some (cN .i64 qo)))/\(∃oz:N,((H.cell? v (cp fo 0 none))=(some (ed oz.a oz.n oz.c)))/\(∃alD:a8,(oz.a=(some alD))/\((((0:o)<=i)/\(i<(oz.n:o)))/\(∃aef:o,((H.cell? v (er alD ((wE i)*1)))=(some (cN .i64 aef)))/\(∃alE:a8,(s1.a=(some alE))/\((((0:o)<=i)/\(i<(s1.n:o)))/\(H.aM v (er alE ((wE i)*1)) [(cN .i64 qo)] (λ(hn:H)=>(H.le KP hn)/\(∃alo:a8,(s2.a=(some alo))/\((((0:o)<=k)/\(k<(s2.n:o)))/\(H.aM hn (er alo ((wE k)*1)) [(cN .i64 aef)] (λ(gK:H)=>(sA=sA)/\(cZ gK))))))))))))))))))))):
  Ht aH 49 (zN N9) (zO N9) env 32 33 (.int .i64 i) (.int .i64 k) v cZ:=
 Ht.of (C:={P:=aH,exp:=[],wrap:=ao,io:=io,part:=ai}) (od _ _) (by kernel_rfl) (by kernel_rfl) [(32,.v (.int .i64 i)),(33,.v (.int .i64 k)),(7,.ptr ⟨fo,0,none⟩)] (by intro p ad;rcases dM.1 ad with rfl|ad;exact⟨_,rfl,.inl ⟨rfl,rfl⟩⟩;rcases dM.1 ad with rfl|ad;exact⟨_,rfl,.inr (.inl ⟨rfl,rfl⟩)⟩;rcases dM.1 ad with rfl|ad;exact⟨_,rfl,.inr (.inr ⟨show(7:O)≠32 by decide,show(7:O)≠33 by decide,he⟩)⟩;cases ad) (Eq.mp (by kernel_rfl) h)
def apM:hy aH 195=ai:=by kernel_rfl
def q6(st:o):Obj:=.cells #[.int .u64 st] 215 (0,0)
def ae5(s:O×o)(y:o×o)(ar:O×o):Prop:=∃m,s.1=m+1/\y=((m:o)+1,vb (kF s.2)%((m:o)+2))/\ar=(m,kF s.2)
def aqN{n0 cj src:O}(h0:0<=n)(ag:n<=65536)(bA:ak n0=some (.cells #[.pointer (some ⟨src,0,none⟩)] 171 (0,0)))(c1:ak cj=some (.cells #[.int .i64 n] 3 (0,0))):
  IterM aH (.func (.func 195) #[] #[.pointer (some ⟨cj,0,none⟩),.pointer (some ⟨n0,0,none⟩)]) (λy:o×o=>.int .i64 y.1) (λy=>.int .i64 y.2) src (λs:O×o=>q6 s.2) ae5 ((n-1).toNat,st) (λs=>s.1=0) ak:=by
 intro mO cZ la aj v K aB au
 refine⟨_,_,_,rfl,hs apM,aFX mO ⟨cj,0,none⟩ ⟨n0,0,none⟩ v K ?_⟩
 refine⟨n,aZ ((la _ _ aB).1 _ _ c1) 0,⟨by omega,by omega⟩,λx w=>-1<=x/\x<=65535/\∃st,cZ (x.toNat,st) w,λx _=>x.toNat,⟨by omega,by omega,st,aB⟩,?_⟩
 rintro x w ⟨bK,dr,st,hw⟩
 refine⟨λM=>?_,λM=>au (x.toNat,st) w (by show x.toNat=0;omega) hw⟩
 obtain⟨hle,sk⟩:=la _ _ hw
 refine⟨_,aZ (hle _ _ bA) 0,amR sk ?_⟩
 obtain⟨aT,aN⟩:=afp (n:=x+1) (akV (kF st)) (by omega) (by omega)
 refine⟨⟨by omega,by omega⟩,aT,.inr ?_⟩
 rw[aN]
 have hm:x.toNat=(x.toNat-1)+1:=by omega
 have:=aj (x.toNat,st) (((x.toNat-1:O):o)+1,vb (kF st)%(((x.toNat-1:O):o)+2)) (x.toNat-1,kF st) w (λyz o0=>((¬(yz=Bool.true))->K o0)/\((yz=Bool.true)->(a7 (x-1))/\((-1<=x-1/\x-1<=65535/\∃st,cZ ((x-1).toNat,st) o0)/\((x-1).toNat<x.toNat))))
  ⟨_,hm,rfl,rfl⟩ hw λb9 gS=>⟨λh=>bf rfl h,λ_=>⟨⟨by omega,by omega⟩,⟨by omega,by omega,kF st,by rw[show(x-1).toNat=x.toNat-1 by omega];exact gS⟩,by omega⟩⟩
 simp only at this
 rw[show((x.toNat-1:O):o)+1=x by omega,show((x.toNat-1:O):o)+2=x+1 by omega] at this
 exact this
theorem aCd{src:O}{ub:H}{K:N->o->H->Prop}(h:u src=some (q6 st))(cC:ub.le u)(ts:ub src=none)(h0:0<=n)(ag:n<=65536)
  (au:∀ar u',aD ub u' 3 1 ar ((vf st n.toNat).flatMap encI)->K ar 0 u'):Vx (some ⟨src,0,none⟩) n u K:=by
 apply aFV
 apply ad1
 refine⟨λh=>(by cases h),λ_=>⟨λh=>by omega,λ_=>⟨λh=>by omega,λ_=>⟨λh=>bf rfl h,λ_=>?_⟩⟩⟩⟩
 refine J7 kK h0 (ps _) (by omega) (by omega) λg Z=>?_
 have kk:=aD.make (k:=1) cC Z (cells:=mF [cN .i64 0].toArray (n.toNat*1)) (e:=3) (n:=n.toNat) (by omega) (by have:=eI iY (Dj (enc:=encI) j4 (by decide) 0 n.toNat);rw[zE] at this;rw[oc j4] at this;simpa[encI] using this)
 have uK:(mF [cN .i64 0].toArray (n.toNat*1)).toList=(fz n.toNat (0:o)).flatMap encI:=Dj (enc:=encI) j4 (by decide) 0 n.toNat
 rw[uK] at kk
 obtain⟨il,ajE⟩:∃il,il=u.ins g (.cells (mF [cN .i64 0].toArray (n.toNat*1)) 3 (0,0)):=⟨_,rfl⟩
 rw[<-ajE] at kk ⊢
 have v8:il src=some (q6 st):=by rw[ajE,bz _ _ (λe=>by grind)];exact h
 have RV:(⟨some ⟨g,0,none⟩,n.toNat,n.toNat⟩:N).al≠some src:=λe=>by
  have:g=src:=by simpa[N.al] using e
  grind
 have av0:((⟨some ⟨g,0,none⟩,n.toNat,n.toNat⟩:N).n:o)=n:=by grind
 obtain⟨bx,p0⟩:∃bx:N,bx=⟨some ⟨g,0,none⟩,n.toNat,n.toNat⟩:=⟨_,rfl⟩
 have zd:bx.a=some ⟨g,0,none⟩:=by rw[p0]
 rw[<-p0] at kk RV av0 ⊢
 have aJX:bx.al=some g:=by simp[N.al,zd]
 intro fo tm
 have Zu:bx.al≠some fo:=λe=>dH kk e tm
 have avL:fo≠src:=λe=>by grind
 refine lZ (zs:=[.slice none 0 0]) rfl (by simp[cI]) ?_
 obtain⟨gq,rA⟩:∃gq,gq=il.ins fo (.cells [.slice bx.a bx.n bx.c].toArray 30 (0,0)):=⟨_,rfl⟩
 rw[<-rA]
 have FU:il.le gq:=by rw[rA];exact bX _ tm
 have pM:gq fo=some (.cells #[.slice bx.a bx.n bx.c] 30 (0,0)):=by rw[rA];exact bh _ _ _
 have aJ6:ub fo=none:=kk.le.none tm
 refine⟨bx,aZ pM 0,λx w=>0<=x/\x<=n/\w src=some (q6 st)/\w fo=some (.cells #[.slice bx.a bx.n bx.c] 30 (0,0))/\aD ub w 3 1 bx ((po x.toNat++fz (n.toNat-x.toNat) 0).flatMap encI),λx _=>(n-x).toNat,
  ⟨by omega,by omega,FU _ _ v8,pM,by simpa[po] using kk.mono FU⟩,?_⟩
 rintro x w ⟨bK,dr,Sx,XP,ac⟩
 have C1:(po x.toNat++fz (n.toNat-x.toNat) (0:o)).length=n.toNat:=by simp[po];omega
 refine⟨λM=>?_,λM=>?_⟩
 refine⟨bx,aZ XP 0,_,zd,⟨bK,M⟩,?_⟩
 refine aD.store (enc:=encI) j4 ac (by decide) (i:=x.toNat) (by rw[C1];omega) (y:=x) (by simp[encI,cI]) zd λadQ xz ahZ _=>⟨⟨by omega,by omega⟩,⟨by omega,by omega,ahZ _ _ Sx RV,ahZ _ _ XP Zu,?_⟩,by dsimp only;omega⟩
 have j7:(po x.toNat++fz (n.toNat-x.toNat) (0:o)).set x.toNat x=po (x+1).toNat++fz (n.toNat-(x+1).toNat) 0:=by
  have aT:n.toNat-x.toNat=(n.toNat-(x+1).toNat)+1:=by omega
  have aN:(po x.toNat).length=x.toNat:=by simp[po]
  have dG:po (x+1).toNat=po x.toNat++ [x]:=by rw[show(x+1).toNat=x.toNat+1 by omega];unfold po;rw[List.range_succ,en,List.map_singleton,JX bK]
  rw[aT,List.replicate_succ];have gz:=O1 (po x.toNat) 0 x (fz (n.toNat-(x+1).toNat) 0);rw[aN] at gz;rw[gz,dG,wA];rfl
 rw[j7] at xz
 exact xz
 .have SG:x=n:=by omega
  subst SG;rw[To,List.replicate_zero,ml] at ac;apply aFW;intro n0 fJ cj gQ;obtain⟨gh,ai6⟩:∃gh,gh=(bt #[ha (some ⟨src,0,none⟩)] 171 (0,0)):=⟨_,rfl⟩;obtain⟨e0,ai7⟩:∃e0,e0=(bt #[cN .i64 x] 3 (0,0)):=⟨_,rfl⟩;rw[<-ai6] at gQ ⊢;rw[<-ai7];have y6:n0≠cj:=λe=>by rw[<-e,bh] at gQ;cases gQ
  have avI:w cj=none:=by rw[bz _ _ (e3 y6)] at gQ;exact gQ
  have lw:w.le ((w.ins n0 gh).ins cj e0):=(bX _ fJ).trans (bX _ gQ);obtain⟨z1,aao⟩:∃z1,z1=(w.ins n0 gh).ins cj e0:=⟨_,rfl⟩;rw[<-aao] at lw ⊢;have d0:z1 n0=some gh:=by rw[aao,bz _ _ y6,bh]
  have d1:z1 cj=some e0:=by rw[aao,bh]
  let adV:H:=λc=>if c=n0 then some gh else if c=cj then some e0 else none
  have i0:adV n0=some gh:=b3 rfl;have i1:adV cj=some e0:=by grind
  have aka:∀v:H,v n0=some gh->v cj=some e0->adV.le v:=λv h0 h1 c z I=>by
   grind
  have ayQ:n0≠src:=λe=>by grind
  have ayT:cj≠src:=λe=>by grind
  have ayR:bx.al≠some n0:=λe=>dH ac e fJ;have ayU:bx.al≠some cj:=λe=>dH ac e avI;refine nB.aqS azS (nB.axS (fv:=.func (.func 195) #[] #[.pointer (some ⟨cj,0,none⟩),.pointer (some ⟨n0,0,none⟩)]) (t:=31) (x:=32) (x2:=33) (src:=src) (cell:=λs:O×o=>q6 s.2) (Nx:=ae5) (s0:=((x-1).toNat,st)) (En:=λs=>s.1=0) (enc:=λy:o×o=>.int .i64 y.1) (Cx:=λy=>.int .i64 y.2)
   (aka z1 d0 d1) WU (by simp) (by decide) (by decide) (by decide) (λak ph=>aqN (st:=st) h0 ag (by rw[<-ai6];exact ph _ _ i0) (by rw[<-ai7];exact ph _ _ i1))
   (λs v=>v src=some (q6 s.2)/\v n0=some gh/\v cj=some e0/\v fo=some (.cells #[.slice bx.a bx.n bx.c] 30 (0,0))/\s.1<=x.toNat-1/\∃l:J o,l.length=x.toNat/\aD ub v 3 1 bx (l.flatMap encI)/\permA s.1 s.2 l=vf st x.toNat)
   ⟨lw _ _ Sx,d0,d1,lw _ _ XP,by omega,po x.toNat,by simp[po],ac.mono lw,by
    show permA (x-1).toNat st _=_;unfold vf
    grind⟩ (λs v aB=>aka v aB.2.1 aB.2.2.1) (λs v aB=>aB.1) ?_ ?_)
  .rintro⟨i,wO⟩ y ar v ⟨m,hm,rfl,rfl⟩ ⟨Y,a2,a3,a4,a5,l,aq,zb,ad⟩;simp only at hm Y a5 ad;subst hm;obtain⟨dK,AV⟩:∃dK,dK=vb (kF wO)%((m:o)+2):=⟨_,rfl⟩;have h3:=OE (vb (kF wO)) (show(m:o)+2≠0 by omega);have br:=OF (vb (kF wO)) (show 0<(m:o)+2 by omega);show Ht _ _ _ _ _ _ _ (.int .i64 ((m:o)+1)) (.int .i64 (vb (kF wO)%((m:o)+2))) _ _;rw[<-AV] at h3 br ⊢;refine azU fo _ _ _ _ _ (by simp) ⟨rfl,rfl,?_⟩;have adU:(v.ins src (q6 (kF wO))) fo=some (.cells #[.slice bx.a bx.n bx.c] 30 (0,0)):=by rw[bz _ _ avL];exact a4
   have oh:aD ub (v.ins src (q6 (kF wO))) 3 1 bx (l.flatMap encI):=⟨zb.own.le λc z I hu=>by rw[bz _ _ (λe=>RV (by rw[I,e]))];exact hu,λc z I=>by rw[bz _ _ (λe=>by grind)];exact zb.le c z I,zb.fresh⟩
   obtain⟨BZ,IU⟩:∃BZ,BZ=v.ins src (q6 (kF wO)):=⟨_,rfl⟩;have vs:BZ src=some (q6 (kF wO)):=by rw[IU];exact bh _ _ _
   have v0:BZ n0=some gh:=by rw[IU,bz _ _ ayQ];exact a2
   have v1:BZ cj=some e0:=by rw[IU,bz _ _ ayT];exact a3
   show ∃KP:H,KP.le (v.ins src (q6 (kF wO)))/\_;rw[<-IU] at adU oh ⊢;have dS:bx.n=l.length:=hf j4 (by decide) oh.own.cK;have nf:m+1<l.length:=by omega
   have hW:dK.toNat<l.length:=by omega
   have at':∀{W:H} {bH:J o} (j:o),aD ub W 3 1 bx (bH.flatMap encI)->0<=j->j.toNat<bH.length->W.cell? (er ⟨g,0,none⟩ (j.toNat*1))=some (.int .i64 (bH.getD j.toNat 0)):=λ{W bH} j aE e9 aP=>by
    obtain⟨p,ad,I⟩:=bw.elem j4 (by decide) aE.own.cK (dj aP);rw[zd] at ad;cases ad;have:=I 0 _ rfl;rw[Addr.add_zero'] at this
    grind
   have Aq:BZ.cell? ⟨fo,0,none⟩=some (.slice bx.a bx.n bx.c):=aZ adU 0;have aqw:(nY BZ bx).cell? ⟨fo,0,none⟩=some (.slice bx.a bx.n bx.c):=by unfold H.cell? at Aq ⊢;simp only[nZ Zu];exact Aq
   refine⟨nY BZ bx,DJ _ _,bx,Aq,bx,aqw,bx,Aq,_,zd,⟨h3,by omega⟩,_,at' dK oh h3 hW,bx,Aq,_,zd,⟨by omega,by omega⟩,_,at' ((m:o)+1) oh (by omega) (by omega),_,zd,⟨by omega,by omega⟩,?_⟩;refine aD.store (enc:=encI) j4 oh (by decide) (i:=((m:o)+1).toNat) (by omega) (y:=l.getD dK.toNat 0) (by simp[encI,cI]) zd λhn av3 ahY _=>⟨λc z I=>ahY c z (J6 I).1 (J6 I).2,_,zd,⟨h3,by omega⟩,?_⟩;refine aD.store (enc:=encI) j4 av3 (by decide) (i:=dK.toNat) (by grind) (y:=l.getD ((m:o)+1).toNat 0) (by simp[encI,cI]) zd λgK MR RI _=>⟨rfl,?_⟩;have st2:∀c z,BZ c=some z->bx.al≠some c->gK c=some z:=λc z I an=>RI c z (ahY c z I an) an;refine⟨st2 _ _ vs RV,st2 _ _ v0 ayR,st2 _ _ v1 ayU,st2 _ _ adU Zu,by show m<=_;omega,_,by grind,MR,?_⟩;have arH:(l.set ((m:o)+1).toNat (l.getD dK.toNat 0)).set dK.toNat (l.getD ((m:o)+1).toNat 0)=jZ l (m+1) dK.toNat:=by rw[GX nf hW,show((m:o)+1).toNat=m+1 by omega,jX,jX,dj nf,dj hW];rfl
   rw[arH,<-ad];show permA m (kF wO) _=permA (m+1) wO l
   conv=>rhs;unfold permA
   rw[AV]
  rintro⟨i,wO⟩ v D hi ⟨Y,a2,a3,a4,a5,l,aq,zb,ad⟩ fe;simp only at hi ad;subst hi;have hle:=bX (u:=v) (b:=D) (vk (some [])) fe;refine⟨bx,aZ (hle _ _ a4) 0,bh _ _ _,au bx _ ?_⟩;have asO:bx.al≠some D:=λe=>dH zb e fe;have fL:l=vf st x.toNat:=ad;rw[fL] at zb;have Nn:=zb.le.none fe;have:=(zb.mono hle).xO Nn asO (.deferred none);exact this
def FO(d:O)(vs:J (J o)):O->J (J o)->J (J o)
 |0,c=>c|n+1,c=>BG d vs (FO d vs n c)
def wM(seed:o)(k:O)(vs:J (J o)):J (J o):=((vf seed vs.length).take k).map λi=>vs.getD i.toNat []
def adN(seed:o)(k rounds d:O)(vs:J (J o)):J (J o):=FO d vs rounds (wM seed k vs)
theorem abX{n:O}(h:x∈vf st n):0<=x/\x<n:=by
 have:=(ak3 st n).mem_iff.1 h;unfold po at this
 grind
def abW(st:o)(n:O):(vf st n).length=n:=by have:=(ak3 st n).length_eq;simpa[po] using this
def anr{vs:J (J o)}(h:k<=vs.length):(wM seed k vs).length=k:=by unfold wM;rw[eb,iV,abW];omega
theorem aDl{vs:J (J o)}(h:i<k)(M:(vf seed vs.length)[i]?=some x):(wM seed k vs)[i]?=some (vs.getD x.toNat []):=by
 unfold wM
 grind
def gk.mI(h:gk ak u s cs){n:O}(ag:u n=.none)(z:Obj):gk (ak.ins n z) (u.ins n z) s cs:=⟨h.own.mI ag z,λc I=>(h.inner c I).mI ag z,h.ej,h.apart⟩
def apZ:hy aH 134=ai:=by kernel_rfl
theorem amO{L:J (N×J o)}{k rounds:o}{K:N->o->H->Prop}(h:mR u s L)(bM:∀c∈L,c.2.length=d/\cY c.2)(av:1<=d/\d<=64)(tf:L.length<=512)(hk:1<=k/\k<=64)(hW:k<=L.length)(U:0<=rounds/\rounds<=20)
  (au:∀ar u' cs,gk u u' ar cs->cs.map (·.2)=adN seed k.toNat rounds.toNat d (L.map (·.2))->K ar 0 u'):PU s k rounds seed u K:=by
 have ag:=h.len
 obtain⟨vs,nj⟩:∃vs,vs=L.map (·.2):=⟨_,rfl⟩
 have Bf:vs.length=L.length:=by grind
 apply aFD
 intro n0 fJ cj gQ
 obtain⟨gh,kk⟩:∃gh,gh=(bt #[ed s.a s.n s.c] 133 (0,0)):=⟨_,rfl⟩
 obtain⟨e0,jl⟩:∃e0,e0=(bt #[cN .i64 k] 3 (0,0)):=⟨_,rfl⟩
 rw[<-kk] at gQ ⊢
 rw[<-jl]
 have y6:n0≠cj:=λe=>by rw[<-e,bh] at gQ;cases gQ
 obtain⟨aR,gB⟩:∃aR,aR=(u.ins n0 gh).ins cj e0:=⟨_,rfl⟩
 have akx:u.le aR:=by rw[gB];exact(bX _ fJ).trans (bX _ gQ)
 have d0:aR n0=some gh:=by rw[gB,bz _ _ y6,bh]
 have d1:aR cj=some e0:=by rw[gB,bh]
 rw[<-gB]
 have bA:∀{w:H},aR.le w->w.cell? ⟨n0,0,none⟩=some (.slice s.a s.n s.c):=λhw=>by have:=hw _ _ d0;rw[kk] at this;exact aZ this 0
 have c1:∀{w:H},aR.le w->w.cell? ⟨cj,0,none⟩=some (.int .i64 k):=λhw=>by have:=hw _ _ d1;rw[jl] at this;exact aZ this 0
 intro ny h2
 have nq:=H.le.refl aR
 refine⟨k,c1 nq,λM=>by omega,λ_=>⟨k,c1 nq,λM=>by omega,λ_=>⟨λM=>by omega,λ_=>?_⟩⟩⟩
 have auc:decide ((20:o)<rounds)=ao:=q0 (by omega)
 rw[auc]
 refine h2 _ _ ⟨λe=>(by cases e),λ_=>⟨s,bA nq,λM=>by omega,λ_=>⟨s,bA nq,k,c1 nq,λM=>by omega,λ_=>⟨s,bA nq,?_⟩⟩⟩⟩
 have h1:=h.mono akx
 obtain⟨p,ad,c,I,c4,Cv,pQ⟩:=h1.at (x:=0) (by omega) (by omega)
 obtain⟨cl,w7⟩:=bM c c4
 have qH:=pQ.len
 refine⟨p,ad,⟨by omega,by omega⟩,c.1,Cv,?_⟩
 intro n11 y7
 refine lZ (zs:=[.int .i64 0]) rfl (by simp[cI]) ?_
 obtain⟨rH,qN⟩:∃rH,rH=(bt [cN .i64 (c.1.n:o)].toArray 3 (0,0)):=⟨_,rfl⟩
 rw[<-qN]
 obtain⟨gK,xH⟩:∃gK,gK=aR.ins n11 rH:=⟨_,rfl⟩
 rw[<-xH]
 have rC:aR.le gK:=by rw[xH];exact bX _ y7
 have d11:gK n11=some rH:=by rw[xH,bh]
 have afE:∀{w:H},gK.le w->w.cell? ⟨n11,0,none⟩=some (.int .i64 d):=λhw=>by
  have:=hw _ _ d11;rw[qN] at this;have:=aZ this 0
  grind
 refine⟨s,bA rC,(d:o),afE (H.le.refl _),?_⟩
 have AG:=h1.mono rC
 refine adf AG (d:=(d:o)) (by omega) (λc I=>⟨by grind,(bM c I).2⟩) (by omega) ⟨λM=>bf rfl M,λ_=>⟨s,bA rC,?_⟩⟩
 refine ad0 _ _ _ λsrc sk=>⟨bX _ sk,?_⟩
 have axd:u.le gK:=akx.trans rC
 refine aCd (st:=seed) (ub:=gK) (bh _ _ _) (bX _ sk) sk (by omega) (by omega) λGF k2 ep=>?_
 have akl:=ep.le
 refine⟨k,c1 (rC.trans akl),amd (by omega) (by omega) λnW aKV ag4 aJT=>?_⟩
 intro n26 aiU
 refine lZ (zs:=[.slice none 0 0]) rfl (by simp[cI]) ?_
 obtain⟨NY,ai8⟩:∃NY,NY=(bt [ed nW.a nW.n nW.c].toArray 133 (0,0)):=⟨_,rfl⟩
 rw[<-ai8]
 have xf:=ag4.mI aiU NY
 obtain⟨ub,cC⟩:∃ub,ub=k2.ins n26 NY:=⟨_,rfl⟩
 rw[<-cC] at xf
 have avJ:k2 n26=none:=ag4.own.le.none aiU
 have akm:k2.le ub:=by rw[cC];exact bX _ avJ
 have Cu:∀{w:H},ub.le w->w.cell? ⟨n26,0,none⟩=some (.slice nW.a nW.n nW.c):=λhw=>by
  have:ub n26=some NY:=by rw[cC];exact bh _ _ _
  have:=hw _ _ this;rw[ai8] at this;exact aZ this 0
 have qQ:gK.le ub:=akl.trans akm
 have atj:=ep.mono akm
 have Rr:=atj.ints
 rw[show((s.n:O):o).toNat=vs.length by omega] at Rr
 have atk:=Rr.len
 rw[abW] at atk
 have aJn:nW.n=k.toNat:=by omega
 refine⟨nW,Cu xf.own.le,λx w=>0<=x/\x<=k/\∃cs,gk ub w nW cs/\cs.length=k.toNat/\∀(a:O) c,cs[a]?=some c->(a:o)<x->(wM seed k.toNat vs)[a]?=some c.2,λx _=>(k-x).toNat,
  ⟨by omega,by omega,_,xf,by simp,λa c _ M=>by omega⟩,?_⟩
 rintro x w ⟨bK,dr,cs,dV,hR,AN⟩
 have lw:=dV.own.le
 refine⟨λM=>?_,λM=>?_⟩
 obtain⟨pp,h8,pR⟩:=(Rr.mono lw).at (x:=x) bK (by omega)
 have eY:x.toNat<(vf seed vs.length).length:=by rw[abW];omega
 obtain⟨y,aj⟩:∃y,(vf seed vs.length)[x.toNat]?=some y:=⟨_,dj eY⟩
 obtain⟨hJ,ii⟩:=abX (dz aj)
 have oJ:(vf seed vs.length).getD x.toNat 0=y:=by rw[jX,aj];rfl
 rw[oJ] at pR
 obtain⟨q,aL,W,aE,SJ,K9,u1⟩:=(AG.mono (qQ.trans lw)).at (x:=y) hJ (by omega)
 obtain⟨Ks,aoF⟩:=bM W SJ
 have axB:=u1.len
 have axs:x.toNat<cs.length:=by omega
 obtain⟨tH,xD,_⟩:=dV.yn.at bK (by rw[dV.len];omega)
 have arI:vs.getD y.toNat []=W.2:=by rw[nj,jX,pw,aE];rfl
 refine⟨pp,h8,⟨bK,by omega⟩,nW,Cu lw,s,bA (rC.trans (qQ.trans lw)),y,pR,q,aL,⟨hJ,by omega⟩,W.1,K9,sI u1 (by omega) λaKM anU ai9 _=>⟨ai9.le,tH,xD,⟨bK,by omega⟩,?_⟩⟩
 refine dV.put ai9 axs xD λPm at5 _=>⟨⟨by omega,by omega⟩,⟨by omega,by omega,_,at5,by rw[Gk];exact hR,λa c nF ahE=>?_⟩,by dsimp only;omega⟩
 rcases XH nF with⟨rfl,rfl⟩|⟨e,nF⟩
 rw[aDl (by omega) aj,arI]
 exact AN a c nF (by omega)
 have St:cs.map (·.2)=wM seed k.toNat vs:=by apply sr;intro a;by_cases az:a<k.toNat;have ahQ:cs[a]?=some cs[a]:=dj (by omega);rw[AN a _ ahQ (by omega),pw,ahQ];rfl;rw[wx (by rw[eb];omega),wx (by rw[anr (by omega)];omega)]
 have Rn:RoundIn ub cj n11 n0 n26 k.toNat d s nW L:=⟨by rw[c1 (rC.trans qQ),JX (by omega)],afE qQ,bA (rC.trans qQ),Cu (H.le.refl _),AG.mono qQ,bM,tf,av,by omega⟩
 have FH:∀v∈vs,v.length=d/\cY v:=λv aB=>by rw[nj] at aB;obtain⟨c,I,rfl⟩:=bQ.1 aB;exact bM c I
 have awb:∀c∈wM seed k.toNat vs,c.length=d/\cY c:=λc I=>by
  unfold wM at I;obtain⟨i,hi,rfl⟩:=bQ.1 I;obtain⟨i0,i1⟩:=abX (oW hi);have:vs.getD i.toNat []∈vs:=by rw[jX,dj (by omega)];exact ln _
  exact FH _ this
 refine⟨λx w=>0<=x/\x<=rounds/\∃cs,gk ub w nW cs/\cs.length=k.toNat/\cs.map (·.2)=FO d vs x.toNat (wM seed k.toNat vs)/\∀c∈cs,c.2.length=d/\cY c.2,λx _=>(rounds-x).toNat,
  ⟨by omega,by omega,cs,dV,hR,St,λc I=>awb _ (by rw[<-St];exact kH I)⟩,?_⟩
 rintro y dF ⟨hJ,ii,ds,sd,CT,ahX,EZ⟩
 refine⟨λaj=>.inl ⟨_,_,_,rfl,hs apZ,?_⟩,λaj=>?_⟩
 refine aB8 Rn sd CT EZ λUJ es Mb fr=>⟨⟨by omega,by omega⟩,⟨by omega,by omega,es,Mb,?_,?_,λc I=>?_⟩,by dsimp only;omega⟩
 have:=eI iY fr
 rw[eb,acG,eb] at this
 omega
 rw[fr,show(y+1).toNat=y.toNat+1 by omega,<-nj,ahX]
 rfl
 have:c.2∈BG d (L.map (·.2)) (ds.map (·.2)):=by rw[<-fr];exact kH I
 rw[<-nj] at this
 exact alP (λv aB=>(FH v aB).2) av.2 (λc I=>by obtain⟨W,aE,rfl⟩:=bQ.1 I;exact EZ W aE) _ this
 refine⟨nW,Cu sd.own.le,au nW dF ds (sd.weaken (axd.trans qQ)) ?_⟩
 rw[ahX,show y.toNat=rounds.toNat by omega,<-nj]
 rfl
end
namespace kd
section
variable{u:H}{s:N}
def aj8(l:J ax):l.map (·.id)=(l.map ax.bn).map (·.1):=by rw[e4];rfl
def aAz{L:J ax}{d:o}(h:gD L d){r:ax}(ad:r.bn∈L.map ax.bn):(1<=r.id/\r.id<=1000000000)/\(r.v.length:o)=d/\cY r.v:=by obtain⟨W,aE,e⟩:=bQ.1 ad;have aT:W.id=r.id:=eI vl e;have aN:W.v=r.v:=eI wD e;rw[<-aT,<-aN];exact⟨h.id W aE,h.v W aE⟩
def jE(l:J ax)(dim a b:o):o:=if nr l dim≠0 then nr l dim else if a<1∨64<a∨b<0∨20<b then 1 else 0
def As(seed a b:o)(d:O)(vs:J (J o)):J (J o):=if vs=[] then[fz d 0] else adN seed (if(vs.length:o)<a then(vs.length:o) else a).toNat b.toNat d vs
def QH(s:N):kO aH 133 1 #[(0,.slice s.a s.n s.c)]=some (30,[.slice s.a s.n s.c]):=by kernel_rfl
def axU{d:O}{vs:J (J o)}(aB:∀v∈vs,cY v)(av:d<=64):∀(n:O) (cs:J (J o)),(∀c∈cs,c.length=d/\cY c)->(∀c∈FO d vs n cs,c.length=d/\cY c)/\(FO d vs n cs).length=cs.length:=by
 intro n;induction n with
 |zero=>intro cs h;exact⟨h,rfl⟩
 |succ n aW=>intro cs h;obtain⟨h1,h2⟩:=aW cs h;exact⟨alP aB av h1,by show(BG _ _ _).length=_;rw[acG,h2]⟩
theorem afM{seed a b:o}{d:O}{vs:J (J o)}(aB:∀v∈vs,v.length=d/\cY v)(av:1<=d/\d<=64)(az:1<=a/\a<=64):(∀c∈As seed a b d vs,c.length=d/\cY c)/\0<(As seed a b d vs).length/\(As seed a b d vs).length<=64:=by
 unfold As;by_cases h0:vs=[];rw[b3 h0];refine⟨λc I=>?_,by simp,by simp⟩;rw[hZ.1 I];refine⟨by simp,by simp;omega,λi hi=>?_⟩;rw[Oy] at hi;rw[jX,Ot,b3 hi];decide;rw[bF h0];have ad:=yb.2 h0;obtain⟨k,hk⟩:∃k,k=(if(vs.length:o)<a then(vs.length:o) else a).toNat:=⟨_,rfl⟩;have rp:1<=k/\k<=64/\k<=vs.length:=by omega
 rw[<-hk];have c6:∀c∈wM seed k vs,c.length=d/\cY c:=λc I=>by
  unfold wM at I;obtain⟨i,hi,rfl⟩:=bQ.1 I;obtain⟨i0,i1⟩:=abX (oW hi)
  grind
 obtain⟨h1,h2⟩:=axU (λv gS=>(aB v gS).2) av.2 b.toNat _ c6;have aq:=anr (seed:=seed) rp.2.2;exact⟨h1,by show 0<(FO _ _ _ _).length;omega,by show(FO _ _ _ _).length<=64;omega⟩
structure D0(u:H)(l:J ax)(hP a b seed:o)(u':H)(dx:O)(ah:O->aA bB)(T:aU):Prop where
 is:In u u' ah dx T
 ok:dX T
 rows:(bi T).Perm (l.map ax.bn)
 dim:T.dim=hP
 cs:∃P:J (o×J o),P.Perm (l.map ax.bn)/\(P.Pairwise λx y=>x.1<y.1)/\T.cs.map (·.2)=As seed a b hP.toNat (P.map (·.2))
def adC{n:O}{d:o}{a b:N}{m:aA O}{f:H->Prop}(h:u n=some (.cells #[.int .i64 d,.slice a.a a.n a.c,.slice b.a b.n b.c,.map m] 178 (0,0))):
  (f (u.ins n (.cells #[.int .i64 d,.slice s.a s.n s.c,.slice b.a b.n b.c,.map m] 178 (0,0)))->H.aM u (er (cp n 0 none) 1) [.slice s.a s.n s.c] f)/\
   (f (u.ins n (.cells #[.int .i64 d,.slice a.a a.n a.c,.slice s.a s.n s.c,.map m] 178 (0,0)))->H.aM u (er (cp n 0 none) 2) [.slice s.a s.n s.c] f):=
 ⟨λab=>⟨_,_,h,rfl,by simp[ib],by simp[cI],ab⟩,λab=>⟨_,_,h,rfl,by simp[ib],by simp[cI],ab⟩⟩
def UT{ak:H}{cs:J (N×J o)}(h:gk ak u s cs){n:O}(ag:ak n=none)(ae:s.al≠some n)(I:∀c∈cs,c.1.al≠some n)(z:Obj):gk ak (u.ins n z) s cs:=
 ⟨h.own.xO ag ae z,λc c4=>(h.inner c c4).xO ag (I c c4) z,h.ej,h.apart⟩
theorem Pa{l:J ax}{dim a b seed:o}{K:aA a8->o->H->Prop}(ae:dU u s l)(dq:jE l dim a b≠0->K none (jE l dim a b) u)
  (bM:jE l dim a b=0->∀u' dx ah T,D0 u l dim a b seed u' dx ah T->K (some ⟨dx,0,none⟩) 0 u'):Vl s dim a b seed u K:=by
 have bad:∀W,jE l dim a b=W->W≠0->K none W u:=λW e aE=>by subst e;exact dq aE
 apply aFj
 refine Kb ae ⟨λan=>bad _ (by unfold jE;rw[b3 an]) an,λhe=>?_⟩
 have one:(a<1∨64<a∨b<0∨20<b)->K none 1 u:=λI=>bad 1 (by unfold jE;omega) (by decide)
 intro ny h2
 refine⟨λh=>one (.inl h),λY=>⟨λh=>one (.inr (.inl h)),λa2=>⟨λh=>one (.inr (.inr (.inl h))),λe7=>⟨λh=>one (.inr (.inr (.inr h))),λfy=>h2 _ _ _ ?_⟩⟩⟩⟩
 have bM:=bM (by unfold jE;omega)
 clear bad one dq h2 ny
 have gX:=DF.1 he
 obtain⟨W8,W9⟩:=gX.dim
 have aiA:=gX.len
 refine GL λm qb hm iF=>?_
 have Iz:(u.ins m qb) m=some qb:=bh _ _ _
 have qR:=bX (u:=u) (b:=m) qb hm
 obtain⟨jg,sl⟩:∃jg,jg=u.ins m qb:=⟨_,rfl⟩
 rw[<-sl] at iF Iz qR ⊢
 intro n8 rr
 have nJ:n8≠m:=λe=>by grind
 have A1:u n8=none:=qR.none rr
 obtain⟨mi,oO⟩:∃mi,mi=(bt #[.int .i64 dim,.slice none 0 0,.slice none 0 0,.map (some m)] 178 (0,0)):=⟨_,rfl⟩
 have rE:=bX (u:=jg) (b:=n8) mi rr
 show rY s (jg.ins n8 (bt #[.int .i64 dim,.slice none 0 0,.slice none 0 0,.map (some m)] 178 (0,0))) _
 rw[<-oO]
 obtain⟨u8,p3⟩:∃u8,u8=jg.ins n8 mi:=⟨_,rfl⟩
 have LG:u8 n8=some mi:=by rw[p3];exact bh _ _ _
 rw[<-p3] at rE ⊢
 refine zV (ae.mono (qR.trans rE)) gX.id (by omega) (λr U=>by have:=(gX.v r U).1;omega) λgV ls hn b7 ad mB=>?_
 have Ig:ls.length=l.length:=by simpa using ad.length_eq
 have mb:∀r∈ls,(1<=r.id/\r.id<=1000000000)/\(r.v.length:o)=dim/\cY r.v:=λr U=>aAz gX (ad.mem_iff.1 (kH U))
 have b8:(ls.map (·.id)).Nodup:=by rw[aj8,(ad.map (·.1)).nodup_iff,<-aj8];exact gX.nodup
 have tA:=b7.own.le
 have ag0:=b7.rws.len
 obtain⟨ub,cC⟩:∃ub:H,ub=λc=>if c=n8 then none else hn c:=⟨_,rfl⟩
 have UO:ub n8=none:=by grind
 have G7:∀{c},c≠n8->ub c=hn c:=λ{c} I=>by rw[cC];exact bF I
 have aEb:ub.le hn:=λc z I=>by
  grind
 have DY:u.le ub:=λc z I=>by
  have:c≠n8:=λe=>by grind
  rw[G7 this];exact tA _ _ (rE _ _ (qR _ _ I))
 have asI:hn n8=some mi:=tA _ _ LG
 have aic:∀{x:N},(∀g,x.al=some g->u8 g=none)->x.al≠some n8:=λM e=>by grind
 have aA0:bw ub gV 2 (ls.flatMap cJ):=bw.else b7.own.own.cK λg z Z ac=>by rw[G7 (λe=>aic b7.own.fresh (by rw[Z,e]))];exact ac
 have TZ:∀r∈ls,Ints ub r.s r.v:=λr U=>bw.else (b7.inner r U).ints λg z Z ac=>by rw[G7 (λe=>aic (b7.inner r U).fresh (by rw[Z,e]))];exact ac
 have akz:fE ub m []:=iF.else λz ac=>by rw[G7 (e3 nJ)];exact tA _ _ (rE _ _ ac)
 have alT:dU ub gV ls:=⟨aA0,TZ⟩
 refine⟨λjt x w=>0<=x/\x<=gV.n/\ub.le w/\w n8=some mi/\aD hn w 30 1 jt (((ls.take x.toNat).map λr=>(r.s,r.v)).flatMap λc=>encS c.1),λ_ x _=>((gV.n:o)-x).toNat,
  ⟨by omega,by omega,aEb,asI,by simpa using aD.nil (H.le.refl hn) 30 1⟩,?_⟩
 rintro jt x w ⟨bK,dr,L3,xe,xz⟩
 have y8:jt.n=(ls.take x.toNat).length:=by have h:=hf vK (by decide) xz.own.cK;rw[eb] at h;exact h
 rw[iV] at y8
 refine⟨λM=>?_,λM=>?_⟩
 obtain⟨p,h8,r,U,bA,c1,_⟩:=(alT.mono L3).at bK M
 refine⟨p,h8,⟨bK,M⟩,_,bA,_,c1,mn UC (QH r.s) (by decide) rfl (by simp[cI]) xz (by show jt.n<_;omega) (by omega) λBH k2 ac aJx eC fC _=>⟨⟨by omega,by omega⟩,⟨by omega,by omega,λc z I=>eC c z (L3 c z I) λe=>?_,eC _ _ xe λe=>?_,?_⟩,by dsimp only;omega⟩⟩
 have:=xz.fresh c e;grind
 have:=xz.fresh n8 e;grind
 have e:ls.take (x+1).toNat=ls.take x.toNat++ [r]:=by rw[show(x+1).toNat=x.toNat+1 by omega,fN,U];rfl
 rw[e,en,hb]
 exact ac
 rw[gC (by omega)] at xz
 have aJv:jt.n=ls.length:=by omega
 clear bK dr M y8
 have aK4:∀{W:H},w.le W->mR W jt (ls.map λr=>(r.s,r.v)):=λaE=>⟨xz.own.cK.mono aE,λc I=>by obtain⟨r,U,rfl⟩:=bQ.1 I;exact(TZ r U).mono (L3.trans aE)⟩
 refine acY (by omega) (by omega) λiZ kL ru avK=>mK (QH iZ) λLv aid=>?_
 have Ja:=bX (u:=kL) (b:=Lv) (.cells [ed iZ.a iZ.n iZ.c].toArray 30 (0,0)) aid
 have Sh:aD kL (kL.ins Lv (.cells [ed iZ.a iZ.n iZ.c].toArray 30 (0,0))) 30 1 ⟨some ⟨Lv,0,none⟩,1,1⟩ [ed iZ.a iZ.n iZ.c]:=by have:=aD.make (k:=1) (H.le.refl kL) aid (cells:=[ed iZ.a iZ.n iZ.c].toArray) (e:=30) (n:=1) (by omega) (by simp);simpa using this
 obtain⟨qm,aw4⟩:∃qm,qm=kL.ins Lv (.cells [ed iZ.a iZ.n iZ.c].toArray 30 (0,0)):=⟨_,rfl⟩
 rw[<-aw4] at Ja Sh ⊢
 obtain⟨hA,IK⟩:∃hA:N,hA=⟨some ⟨Lv,0,none⟩,1,1⟩:=⟨_,rfl⟩
 rw[<-IK] at Sh ⊢
 have ad3:w.le qm:=ru.le.trans Ja
 have zero:gk w qm hA [(iZ,fz dim.toNat 0)]:=⟨by simpa[encS] using Sh.weaken ru.le,λc I=>by rw[hZ.1 I];exact ru.mono Ja,λc I=>by rw[hZ.1 I];exact(aD.ej ru (H.le.refl _) Sh).symm,TA _ _⟩
 have dW:∀{x:N},(∀g,x.al=some g->w g=none)->x.al≠some n8:=λM e=>by grind
 have agX:=ad3 _ _ xe
 rw[oO] at agX
 refine(adC (a:=⟨none,0,0⟩) (b:=⟨none,0,0⟩) (s:=hA) agX).1 ?_
 obtain⟨zz,Sj⟩:∃zz:N->Obj,zz=λW=>(bt #[.int .i64 dim,.slice W.a W.n W.c,.slice none 0 0,.map (some m)] 178 (0,0)):=⟨_,rfl⟩
 obtain⟨GZ,Nk⟩:∃GZ,GZ=qm.ins n8 (zz hA):=⟨_,rfl⟩
 have aw5:GZ=qm.ins n8 (bt #[.int .i64 dim,.slice hA.a hA.n hA.c,.slice none 0 0,.map (some m)] 178 (0,0)):=by rw[Nk,Sj]
 rw[<-aw5]
 have UN:ub.le GZ:=λc z I=>by rw[Nk,bz _ _ (λe=>by grind)];exact ad3 _ _ (L3 _ _ I)
 have agY:GZ n8=some (zz hA):=by rw[Nk];exact bh _ _ _
 obtain⟨P,ep⟩:∃P:J (o×J o),P=ls.map ax.bn:=⟨_,rfl⟩
 have atl:P.Pairwise λx y=>x.1<y.1:=by rw[ep,tR];rw[Ow,tR] at b8;refine(mB.and b8).imp λ{x y} ir=>?_;have h1:=ir.1;have h2:=ir.2;show x.id<y.id;omega
 have Ie:P.map (·.2)=ls.map (·.v):=by rw[ep,e4];rfl
 obtain⟨w7,AN⟩:∃w7,w7=As seed a b dim.toNat (P.map (·.2)):=⟨_,rfl⟩
 have at4:=afM (seed:=seed) (a:=a) (b:=b) (d:=dim.toNat) (vs:=P.map (·.2)) (λv aB=>by
  grind) (by omega) (by omega)
 rw[<-AN] at at4
 intro Ea HZ
 have main:∀{nX:N} {cs:J (N×J o)} {wS:H} {nU:aA a8} {pD:o},ub.le wS->wS n8=some (zz nX)->gk ub wS nX cs->nX.al≠some n8->(∀c∈cs,c.1.al≠some n8)->cs.map (·.2)=w7->Ea nU pD wS:=by
  intro nX cs wS nU pD Il XT dV ahP ahR YG;have hR:cs.length=w7.length:=by grind
  have qH:nX.n=cs.length:=dV.len;rw[Sj] at XT;refine HZ _ _ _ ⟨nX,aZ XT 1,J7 aDA (by omega) (ps _) (by omega) (by omega) λagJ auy=>?_⟩;have uK:(mF [ed none 0 0].toArray (cs.length*1)).toList=(fz cs.length ((⟨none,0,0⟩:N),([]:J ax))).flatMap λc=>encS c.1:=Dj (enc:=λc:N×J ax=>encS c.1) Cz (by decide) (⟨none,0,0⟩,[]) cs.length;have dm:(mF [ed none 0 0].toArray (cs.length*1)).size=cs.length*1:=by have:=eI iY uK;rw[zE,oc Cz] at this;simpa using this
  have xA:=aD.make (k:=1) (H.le.refl wS) auy (cells:=mF [ed none 0 0].toArray (cs.length*1)) (e:=22) (n:=cs.length) (by omega) dm;rw[uK] at xA;rw[show((nX.n:O):o).toNat=cs.length by omega];obtain⟨pz,awH⟩:∃pz:N,pz=⟨some ⟨agJ,0,none⟩,cs.length,cs.length⟩:=⟨_,rfl⟩;rw[<-awH] at xA ⊢;obtain⟨mM,aap⟩:∃mM,mM=wS.ins agJ (.cells (mF [ed none 0 0].toArray (cs.length*1)) 22 (0,0)):=⟨_,rfl⟩;rw[<-aap] at xA ⊢;have zi:=xA.le;refine(adC (a:=nX) (b:=⟨none,0,0⟩) (s:=pz) (zi _ _ XT)).2 ?_;obtain⟨n5,ki⟩:∃n5:aU,n5=⟨dim,nX,cs,pz,fz cs.length (⟨none,0,0⟩,[]),m,[]⟩:=⟨_,rfl⟩;obtain⟨DU,IM⟩:∃DU,DU=mM.ins n8 (.cells (fx n5).toArray 178 (0,0)):=⟨_,rfl⟩;have aw8:DU=mM.ins n8 (bt #[.int .i64 dim,.slice nX.a nX.n nX.c,.slice pz.a pz.n pz.c,.map (some m)] 178 (0,0)):=by rw[IM,ki];rfl
  rw[<-aw8];have akF:pz.al≠some n8:=λe=>by have:=xA.fresh n8 e;grind
  have G5:ub.le DU:=λc z I=>by rw[IM,bz _ _ (λe=>by grind)];exact zi _ _ (Il _ _ I)
  have RF:gk ub DU nX cs:=by rw[IM];exact UT (dV.mono zi) UO ahP ahR _
  have uQ:aD ub DU 22 1 pz ((fz cs.length ((⟨none,0,0⟩:N),([]:J ax))).flatMap λc=>encS c.1):=by rw[IM];exact(xA.weaken Il).xO UO akF _
  have akk:∀{e k:O} {x:N} {xs:J ap},aD ub wS e k x xs->dB x pz:=λM=>aD.ej M (H.le.refl wS) xA
  let qE:O->aA bB:=λc=>open Classical in if c=n8 then some .tree else if c=m then some .map else if nX.al=some c then some .yC else if pz.al=some c then some .oq else if ∃W∈cs,W.1.al=some c then some .uo else if ∃r∈ls,r.s.al=some c then some .vec else none
  have akE:ub m≠none:=by obtain⟨es,cl,M,_⟩:=akz;rw[M];simp
  have Xz:∀{x:N},(∀g,x.al=some g->ub g=none)->x.al≠some m:=λM e=>akE (M m e);have acD:∀r∈ls,∀c,r.s.al=some c->ub c≠none/\c≠n8/\u8 c=none:=λr U c I=>by
   have h1:=(b7.inner r U).fresh c I;have h2:c≠n8:=λe=>by grind
   exact⟨by rw[G7 h2];exact dH (b7.inner r U) I,h2,h1⟩
  have t8:qE n8=some .tree:=b3 rfl;have aDP:qE m=some .map:=by grind
  have aDM:∀g,nX.al=some g->qE g=some .yC:=λg Z=>by show(if g=n8 then _ else _)=_;rw[bF (λe=>ahP (by rw[Z,e])),bF (λe=>Xz dV.own.fresh (by rw[Z,e])),b3 Z]
  have q7:∀g,pz.al=some g->qE g=some .oq:=λg Z=>by show(if g=n8 then _ else _)=_;rw[bF (λe=>akF (by rw[Z,e])),bF (λe=>Xz uQ.fresh (by rw[Z,e])),bF (λe=>akk dV.own g e Z),b3 Z]
  have ql:∀W∈cs,∀g,W.1.al=some g->qE g=some .uo:=λW aE g Z=>by show(if g=n8 then _ else _)=_;rw[bF (λe=>ahR W aE (by rw[Z,e])),bF (λe=>Xz (dV.inner W aE).fresh (by rw[Z,e])),bF (λe=>dV.ej W aE g e Z),bF (λe=>akk (dV.inner W aE) g Z e),b3 ⟨W,aE,Z⟩]
  have aJ:∀r∈ls,∀g,r.s.al=some g->qE g=some .vec:=λr U g Z=>by obtain⟨cB,cW,nP⟩:=acD r U g Z;show(if g=n8 then _ else _)=_;rw[bF cW,bF (λe=>by rw[e,p3,bz _ _ (e3 nJ),Iz] at nP;cases nP),bF (λe=>cB (dV.own.fresh g e)),bF (λe=>cB (uQ.fresh g e)),bF (λ⟨W,aE,e⟩=>cB ((dV.inner W aE).fresh g e)),b3 ⟨r,U,Z⟩]
  have t9:∀g,gV.al=some g->qE g=none:=λg Z=>by
   have nP:=b7.own.fresh g Z;have cW:g≠n8:=λe=>by grind
   have cB:ub g≠none:=by rw[G7 cW];exact dH b7.own Z
   show(if g=n8 then _ else _)=_;rw[bF cW,bF (λe=>by rw[e,p3,bz _ _ (e3 nJ),Iz] at nP;cases nP),bF (λe=>cB (dV.own.fresh g e)),bF (λe=>cB (uQ.fresh g e)),bF (λ⟨W,aE,e⟩=>cB ((dV.inner W aE).fresh g e)),bF (λ⟨r,U,e⟩=>b7.ej r U g Z e)]
  have ax1:∀g,gV.al=some g->DU g≠none:=λg Z=>by
   have nP:=b7.own.fresh g Z;have cW:g≠n8:=λe=>by grind
   have cB:ub g≠none:=by rw[G7 cW];exact dH b7.own Z
   obtain⟨z,ac⟩:=fp.1 cB;rw[G5 _ _ ac];simp
  have split:∀c,qE c≠none->c=n8∨c=m∨nX.al=some c∨pz.al=some c∨(∃W∈cs,W.1.al=some c)∨∃r∈ls,r.s.al=some c:=λc I=>alj λag=>I (by
   grind)
  have axL:In u DU qE n8 n5:=by refine⟨?_,DY.trans G5,λc I=>?_,λc I=>?_⟩;subst ki;refine⟨by rw[IM];exact bh _ _ _,t8,RF.own.own.cK,aDM,λi c Mj=>⟨(RF.inner c (dz Mj)).ints,ql c (dz Mj)⟩,uQ.own,q7,λi y aj=>?_,akz.mono G5,aDP⟩;have:y=(⟨none,0,0⟩,[]):=(Gx.1 (dz aj)).2;subst this;exact⟨⟨⟨rfl,cw _,by decide,.inl rfl⟩,.inr rfl⟩,λg Z=>by simp[N.al] at Z,λr U=>by cases U⟩;rcases split c I with rfl|rfl|h1|h1|⟨W,aE,h1⟩|⟨r,U,h1⟩;exact A1;exact hm;exact DY.none (dV.own.fresh c h1);exact DY.none (uQ.fresh c h1);exact DY.none ((dV.inner W aE).fresh c h1);exact(qR.trans rE).none (acD r U c h1).2.2;rcases split c I with rfl|rfl|h1|h1|⟨W,aE,h1⟩|⟨r,U,h1⟩;rw[IM,bh];simp;obtain⟨z,ac⟩:=fp.1 akE;rw[G5 _ _ ac];simp;exact dH RF.own h1;exact dH uQ h1;exact dH (RF.inner W aE) h1;obtain⟨z,ac⟩:=fp.1 (acD r U c h1).1;rw[G5 _ _ ac];simp
  have azu:dX n5:=by
   subst ki;have nb:(fz cs.length ((⟨none,0,0⟩:N),([]:J ax))).flatMap (·.2)=[]:=by
    rw[List.flatMap_eq_nil_iff];intro x M
    grind
   refine⟨gX.dim,⟨by simp,by show 0<cs.length;omega,by grind⟩,λc I=>?_,λy aj r U=>?_,λy aj r U=>?_,by grind,λx i=>⟨λh=>(by cases h),λ⟨y,aj,M⟩=>?_⟩,by grind,by show 0<=512;omega,λi y aj r U=>?_⟩
   grind
   grind
   grind
   grind
   grind
  have aAH:bi n5=[]:=by
   subst ki;unfold bi;have nb:(fz cs.length ((⟨none,0,0⟩:N),([]:J ax))).flatMap (·.2)=[]:=by
    rw[List.flatMap_eq_nil_iff];intro x M
    grind
   show(wC _ (fz _ _)).map _=[];rw[nb];rfl
  refine⟨λx w=>0<=x/\x<=gV.n/\∃ah T,In u w ah n8 T/\dX T/\T.dim=dim/\T.cs=cs/\(bi T).Perm ((ls.take x.toNat).map ax.bn)/\(∀y,y∈T.w.map (·.1)↔y∈(ls.take x.toNat).map (·.id))/\T.w.length=x.toNat/\(∀r∈ls,Ints w r.s r.v/\∀g,r.s.al=some g->ah g=some .vec)/\dU w gV ls/\∀g,gV.al=some g->ah g=none/\w g≠none,
   λx _=>((gV.n:o)-x).toNat,⟨by omega,by omega,qE,n5,axL,azu,by rw[ki],by rw[ki],by rw[aAH];exact .refl _,λy=>by rw[ki];simp,by rw[ki];rfl,λr U=>⟨(TZ r U).mono G5,aJ r U⟩,alT.mono G5,λg Z=>⟨t9 g Z,ax1 g Z⟩⟩,?_⟩
  rintro x w ⟨bK,dr,ah,T,cv,ahu,Yl,aht,kT,aiv,Dd,aaz,mA,agZ⟩;refine⟨λM=>?_,λM=>?_⟩;obtain⟨p,h8,r,U,fi,aT,_⟩:=mA.at bK M;have fR:=dz U;obtain⟨nq,qf,BE⟩:=mb r fR;obtain⟨v1,v2⟩:=aaz r fR;have A9:ls.take (x+1).toNat=ls.take x.toNat++ [r]:=by rw[show(x+1).toNat=x.toNat+1 by omega,fN,U];rfl
  have xy:r.id∉T.w.map (·.1):=λch=>by
   have h1:=(aiv r.id).1 ch;have h2:((ls.take (x.toNat+1)).map (·.id)).Nodup:=b8.sublist ((sz _ _).map _);rw[show x.toNat+1=(x+1).toNat by omega,A9,en,hg] at h2
   grind
  refine⟨p,h8,⟨bK,M⟩,_,fi,_,aT,amP cv ahu xy nq v1 v2 ⟨by rw[Yl];exact qf,BE⟩ (by omega) λaKX aY bD kD=>⟨⟨by omega,by omega⟩,⟨by omega,by omega,aY,bD,kD.is,kD.ok,kD.dim.trans Yl,kD.cs.trans aht,?_,λy=>?_,by rw[kD.B1];omega,λcx cU=>?_,?_,λg Z=>?_⟩,by dsimp only;omega⟩⟩;rw[A9,en];exact kD.rows.trans ((j9 _ kT).trans (mH _ _).symm);rw[kD.w,aiv,A9,en];simp;obtain⟨e5,dF⟩:=aaz cx cU;exact⟨bw.else e5 λg z Z ac=>kD.aom g z ac (dF g Z),λg Z=>kD.wQ g (dF g Z)⟩;refine⟨bw.else mA.1 λg z Z ac=>kD.eJ.bO g z ac (agZ g Z).1,λcx cU=>?_⟩;obtain⟨e5,dF⟩:=aaz cx cU;exact bw.else e5 λg z Z ac=>kD.aom g z ac (dF g Z);obtain⟨f1,f2⟩:=agZ g Z;obtain⟨z,ac⟩:=fp.1 f2;exact⟨kD.eJ.off ac f1,by rw[kD.eJ.bO g z ac f1];simp⟩;rw[gC (by omega)] at kT;refine bM w n8 ah T ⟨cv,ahu,kT.trans ad,Yl,P,by rw[ep];exact ad,atl,by rw[aht,YG,AN]⟩
 refine⟨λoi=>?_,λAZ=>?_⟩
 .have lz:0<ls.length:=by omega
  have v27:mR GZ jt (ls.map λr=>(r.s,r.v)):=⟨bw.else xz.own.cK λg z Z ac=>by
   have:g≠n8:=λe=>by have:=xz.fresh g Z;grind
   rw[Nk,bz _ _ this];exact ad3 _ _ ac,λc I=>by
   obtain⟨r,U,rfl⟩:=bQ.1 I;exact(TZ r U).mono UN⟩
  have uL:(ls.map λr=>(r.s,r.v)).map (·.2)=P.map (·.2):=by rw[Ie,e4];rfl
  have aIV:(P.map (·.2)).length=ls.length:=by grind
  refine amO (d:=dim.toNat) v27 (λc I=>?_) (by omega) (by simp;omega) (by split<;>omega) (by grind) (by omega) λju mN cs dV YG=>⟨λM=>bf rfl M,λ_=>?_⟩
  grind
  have asG:=dV.own.le _ _ agY;have Dm:∀{x:N},(∀g,x.al=some g->GZ g=none)->x.al≠some n8:=λM e=>by grind
  have agW:=asG;rw[Sj] at agW;refine(adC (a:=hA) (b:=⟨none,0,0⟩) (s:=ju) agW).1 ?_;obtain⟨UJ,SA⟩:∃UJ,UJ=mN.ins n8 (zz ju):=⟨_,rfl⟩;have aw9:UJ=mN.ins n8 (bt #[.int .i64 dim,.slice ju.a ju.n ju.c,.slice none 0 0,.map (some m)] 178 (0,0)):=by rw[SA,Sj]
  rw[<-aw9];refine main (λc z I=>?_) (by rw[SA];exact bh _ _ _) (by rw[SA];exact UT (dV.weaken UN) UO (Dm dV.own.fresh) (λc I=>Dm (dV.inner c I).fresh) _) (Dm dV.own.fresh) (λc I=>Dm (dV.inner c I).fresh) ?_;rw[SA,bz _ _ (λe=>by grind)];exact dV.own.le _ _ (UN _ _ I);rw[YG,AN,uL];have an:P.map (·.2)≠[]:=λe=>by grind
  unfold As
  grind
 have pW:ls=[]:=qW (by omega)
 refine main UN agY (by rw[Nk];exact UT (zero.weaken L3) UO (dW zero.own.fresh) (λc I=>dW (zero.inner c I).fresh) _) (dW zero.own.fresh) (λc I=>dW (zero.inner c I).fresh) ?_
 rw[AN,Ie,pW]
 rfl
end
end kd
namespace eu
section
variable{ids:J o}{b:bN}{i:o}{s:J o×J bN}
def avu{a:bN}(h:bP a b=ai):a≠b:=λe=>by rw[e,Mz] at h;cases h
section
variable (ht:o->bN) (ck:o->J o)
def ve(b:bN)(id:o):bN:=if bP (ht id) b=ai then ht id else b
def pass(b:bN):bN:=(ck b.1).foldl (ve ht) b
def xQ:O->bN->bN
 |0,b=>b|n+1,b=>pass ht ck (xQ n b)
theorem Xy(l:J o)(b:bN):l.foldl (ve ht) b=b∨(bP (l.foldl (ve ht) b) b=ai/\∃i∈l,l.foldl (ve ht) b=ht i):=by
 induction l generalizing b with
 |nil=>exact .inl rfl|cons x l aW=>
  simp only[Ou];by_cases M:bP (ht x) b=ai;have e:ve ht b x=ht x:=by simp[ve,M]
  rw[e];rcases aW (ht x) with h|⟨h,i,hi,aN⟩
  grind
  exact .inr ⟨MA h M,i,.tail _ hi,aN⟩;have e:ve ht b x=b:=by simp[ve,M]
  grind
def JZ(ids:J o)(b:bN):O:=ids.countP λi=>bP (ht i) b
def aAq(ids:J o)(b:bN):JZ ht ids b<=ids.length:=List.countP_le_length
theorem aAr(hi:i∈ids)(h:bP (ht i) b=ai):JZ ht ids (ht i)<JZ ht ids b:=by
 unfold JZ;have avD:∀j,bP (ht j) (ht i)=ai->bP (ht j) b=ai:=λj aP=>MA aP h;induction ids with
 |nil=>cases hi
 |cons x l aW=>
  rw[List.countP_cons,List.countP_cons];have hle:l.countP (λj=>bP (ht j) (ht i))<=l.countP (λj=>bP (ht j) b):=List.countP_mono_left λj _ aP=>avD j aP;by_cases M:x=i;subst M;rw[h,Mz];simp;omega
  grind
def axT{n:O}(h:pass ht ck (xQ ht ck n b)=xQ ht ck n b):∀k,xQ ht ck (n+k) b=xQ ht ck n b:=by
 intro k;induction k with
 |zero=>rfl|succ k aW=>show pass ht ck (xQ ht ck (n+k) b)=_;rw[aW,h]
def Lc(de:O)(at':o):o:=(xQ ht ck de (ht at')).1
theorem azO(cy:∀i,(ht i).1=i)(aa:b.1∈ids/\b=ht b.1)(ag:∀i∈ck b.1,i∈ids):(pass ht ck b).1∈ids/\pass ht ck b=ht (pass ht ck b).1:=by rcases Xy ht (ck b.1) b with h|⟨_,i,hi,h⟩;unfold pass;rw[h];exact aa;unfold pass;grind
def SM(cy:∀i,(ht i).1=i)(aa:b.1∈ids/\b=ht b.1)(ag:∀k∈ids,∀i∈ck k,i∈ids):∀n,(xQ ht ck n b).1∈ids/\xQ ht ck n b=ht (xQ ht ck n b).1
 |0=>aa|n+1=>azO ht ck cy (SM cy aa ag n) (ag _ (SM cy aa ag n).1)
theorem af5{de:O}{at':o}(cy:∀i,(ht i).1=i)(aa:at'∈ids)(ag:∀k∈ids,∀i∈ck k,i∈ids):Lc ht ck de at'∈ids:=
 (SM ht ck cy (by grind) ag de).1
def iU(s:J o×J bN)(id:o):J o×J bN:=if id∈s.1 then s else(s.1++ [id],p5 (ht id) s.2)
def vL:O->J o->J bN->J o
 |0,_,_=>[]|_+1,_,[]=>[]|n+1,met,x::l=>x.1::vL n ((ck x.1).foldl (iU ht) (met,l)).1 ((ck x.1).foldl (iU ht) (met,l)).2
structure Met(ids:J o)(s:J o×J bN):Prop where
 nodup:s.1.Nodup
 sub:∀i∈s.1,i∈ids
 wait:∀h∈s.2,h.1∈s.1/\h=ht h.1
 F6:(s.2.map (·.1)).Nodup
 sJ:o7 s.2
theorem Met.one{at':o}(cy:∀i,(ht i).1=i)(h:at'∈ids):Met ht ids ([at'],[ht at']) where
 nodup:=by simp
 sub i hi:=by grind
 wait bZ cb:=by grind
 F6:=by simp
 sJ:=by simp[o7]
theorem Met.step(cy:∀i,(ht i).1=i)(h:Met ht ids s)(hi:i∈ids):Met ht ids (iU ht s i):=by
 unfold iU;split;exact h;rename_i ag;refine⟨?_,?_,?_,?_,ake h.sJ⟩;refine hg.2 ⟨h.nodup,by simp,λa az b aa=>?_⟩
 grind
 intro j aP;rcases dT.1 aP with aP|aP;exact h.sub j aP
 grind
 intro x M;rcases dM.1 ((FM (ht i) s.2).mem_iff.1 M) with rfl|M
 grind
 exact⟨kG _ (h.wait x M).1,(h.wait x M).2⟩;have ad:=(FM (ht i) s.2).map (·.1);refine ad.nodup_iff.2 ?_;rw[iw,cy];refine ka.2 ⟨λhm=>?_,h.F6⟩;obtain⟨x,M,e⟩:=bQ.1 hm;exact ag (e▸(h.wait x M).1)
def Met.fold(cy:∀i,(ht i).1=i):∀{l:J o} {s:J o×J bN},Met ht ids s->(∀i∈l,i∈ids)->Met ht ids (l.foldl (iU ht) s):=by
 intro l;induction l with
 |nil=>intro s h _;exact h
 |cons x l aW=>intro s h aq;exact aW (h.step ht cy (aq x (.head _))) λi hi=>aq i (.tail _ hi)
def Met.tail{met:J o}{x:bN}{l:J bN}(h:Met ht ids (met,x::l)):Met ht ids (met,l) where
 nodup:=h.nodup
 sub:=h.sub
 wait y aj:=h.wait y (.tail _ aj)
 F6:=(ka.1 (by simpa using h.F6)).2
 sJ:=(ix.1 h.sJ).2
theorem pn{l:J o}(ag:l.Nodup)(ae:∀i∈l,i∈ids):l.length<=ids.length:=by
 induction l generalizing ids with
 |nil=>simp|cons x l aW=>
  have M:=ae x (.head _);have h2:∀i∈l,i∈ids.erase x:=λi hi=>by
   grind
  have:=aW (ka.1 ag).2 h2
  grind
def Met.len(h:Met ht ids s):s.1.length<=ids.length:=pn h.nodup h.sub
def due(de:O)(s:J o×J bN):O:=s.2.length+(de-s.1.length)
theorem aq9(cy:∀i,(ht i).1=i)(h:Met ht ids s)(hi:i∈ids):due ids.length (iU ht s i)=due ids.length s:=by
 have h2:=(h.step ht cy hi).len;unfold due;unfold iU at h2 ⊢;split;rfl;rename_i ag;rw[bF ag] at h2;have e:(p5 (ht i) s.2).length=s.2.length+1:=by rw[(FM (ht i) s.2).length_eq];simp
 grind
def aq8(cy:∀i,(ht i).1=i):∀{l:J o} {s:J o×J bN},Met ht ids s->(∀i∈l,i∈ids)->due ids.length (l.foldl (iU ht) s)=due ids.length s:=by
 intro l;induction l with
 |nil=>intro s _ _;rfl
 |cons x l aW=>intro s h aq;rw[Ou,aW (h.step ht cy (aq x (.head _))) λi hi=>aq i (.tail _ hi),aq9 ht cy h (aq x (.head _))]
theorem ar7(l:J o)(s:J o×J bN):(∀i∈s.1,i∈(l.foldl (iU ht) s).1)/\(∀i∈l,i∈(l.foldl (iU ht) s).1):=by
 induction l generalizing s with
 |nil=>grind|cons x l aW=>
  simp only[Ou];have h1:∀i∈s.1,i∈(iU ht s x).1:=λi hi=>by unfold iU;grind
  have h2:x∈(iU ht s x).1:=by unfold iU;split;assumption;simp
  grind
def ar8(cy:∀i,(ht i).1=i)(l:J o)(s:J o×J bN):∀h∈(l.foldl (iU ht) s).2,h∈s.2∨h.1∉s.1:=by
 induction l generalizing s with
 |nil=>exact λh cb=>.inl cb|cons x l aW=>intro h cb;rcases aW (iU ht s x) h cb with h1|h1;unfold iU at h1;split at h1;exact .inl h1;rename_i ag;rcases dM.1 ((FM (ht x) s.2).mem_iff.1 h1) with rfl|h1;rw[cy];exact .inr ag;exact .inl h1;refine .inr λhm=>h1 ?_;unfold iU;split;exact hm;exact kG _ hm
def ago(cy:∀i,(ht i).1=i)(ag:∀k∈ids,∀i∈ck k,i∈ids):∀(n:O) (met:J o) (l:J bN),Met ht ids (met,l)->∀i∈vL ht ck n met l,i∈ids:=by
 intro n;induction n with
 |zero=>intro met l _ i hi;cases hi
 |succ n aW=>
  intro met l h i hi;cases l with
  |nil=>cases hi
  |cons x l=>
   have M:=h.sub _ (h.wait x (.head _)).1;simp only[vL] at hi;cases hi with
   |head=>exact M|tail _ hi=>exact aW _ _ (Met.fold ht cy (h.tail ht) (ag _ M)) i hi
theorem agp(cy:∀i,(ht i).1=i)(ag:∀k∈ids,∀i∈ck k,i∈ids):∀(n:O) (met:J o) (l:J bN),Met ht ids (met,l)->
  (vL ht ck n met l).Nodup/\∀i∈vL ht ck n met l,i∈l.map (·.1)∨i∉met:=by
 intro n
 induction n with
 |zero=>intro met l _;exact⟨TR,λi hi=>by cases hi⟩
 |succ n aW=>
  intro met l h;cases l with
  |nil=>exact⟨TR,λi hi=>by cases hi⟩
  |cons x l=>
   have M:=h.sub _ (h.wait x (.head _)).1;have ab:=Met.fold ht cy (h.tail ht) (ag _ M);obtain⟨h1,h2⟩:=aW _ _ ab;have hk:∀i∈vL ht ck n ((ck x.1).foldl (iU ht) (met,l)).1 ((ck x.1).foldl (iU ht) (met,l)).2,i∈l.map (·.1)∨i∉met:=by
    intro i hi;rcases h2 i hi with h3|h3;obtain⟨y,aj,rfl⟩:=bQ.1 h3;rcases ar8 ht cy (ck x.1) (met,l) y aj with br|br
    grind
    exact .inr br;exact .inr λhm=>h3 ((ar7 ht (ck x.1) (met,l)).1 i hm)
   simp only[vL];refine⟨ka.2 ⟨λhm=>?_,h1⟩,λi hi=>?_⟩;have awe:=ka.1 (show(x.1::l.map (·.1)).Nodup by simpa using h.F6);rcases hk _ hm with h3|h3;exact awe.1 h3;exact h3 (h.wait x (.head _)).1
   grind
end
def Ew(ht:o->bN)(NT:O->o->J o)(de lv:O):O->o->o
 |0,at'=>at'|c+1,at'=>Ew ht NT de lv c (Lc ht (NT (lv+c+1)) de at')
def af0{ht:o->bN}{NT:O->o->J o}{de lv:O}(cy:∀i,(ht i).1=i)(ag:∀lv,∀k∈ids,∀i∈NT lv k,i∈ids):∀(c:O) (at':o),at'∈ids->Ew ht NT de lv c at'∈ids
 |0,_,h=>h|c+1,at',h=>af0 cy ag c _ (af5 ht _ cy h (ag _))
end
section
variable{u ak u' ub:H}{b lv c n:O}{s t:N}{q l:J o}{K:o->H->Prop}
def vc{e k:O}{xs:J ap}(h:aD ak u e k s xs){g:O}(Z:s.al=some g):u g≠none:=by
 rcases h.own.is with h0|⟨b5,cur,az,cu,_⟩;rw[h0] at Z;simp[N.al] at Z;have:b5=g:=by simpa[N.al,az] using Z
 rw[<-this,cu];simp
inductive bB where
 |tree
 |src
 |map
 |node (id:o)
 |vec (id:o)
 |arr (id:o) (lv:O)
structure dp where
 p:O
 sv:N
 v:J o
 ks:J N
 kn:J (J o)
 top:O
def jU(n:dp):J ap:=(.slice n.sv.a n.sv.n n.sv.c::n.ks.map λs=>.slice s.a s.n s.c)++ [.int .i64 n.top]
def jG(g:J (o×dp)):J (o×ap):=g.map λx=>(x.1,.pointer (some ⟨x.2.p,0,none⟩))
def eS(g:J (o×dp))(id:o):aA dp:=(g.find? λx=>x.1==id).map (·.2)
theorem CI(g:J (o×dp))(id:o):gm (jG g) id=(eS g id).map λn=>ha (some ⟨n.p,0,none⟩):=by
 induction g with
 |nil=>rfl|cons x g aW=>
  unfold gm eS jG at*
  grind
theorem iC{g:J (o×dp)}{id:o}{n:dp}(h:eS g id=some n):(id,n)∈g:=by
 unfold eS at h;cases ab:g.find? (λx=>x.1==id) with
 |none=>rw[ab] at h;cases h
 |some x=>
  grind
theorem CJ{g:J (o×dp)}{id:o}:eS g id=none↔id∉g.map (·.1):=by
 unfold eS;rw[acq,TL]
 grind
def yM{g:J (o×dp)}{id:o}(h:id∈g.map (·.1)):∃n,eS g id=some n:=by
 cases M:eS g id with
 |some n=>exact⟨n,rfl⟩|none=>exact bf h (CJ.1 M)
theorem AE{g:J (o×dp)}(ag:(g.map (·.1)).Nodup){id:o}{n:dp}(h:(id,n)∈g):eS g id=some n:=by
 obtain⟨m,hm⟩:=yM (g:=g) (id:=id) (bQ.2 ⟨_,h,rfl⟩);have h2:=iC hm;obtain⟨i,hi,w9⟩:=pv.1 h;obtain⟨j,aP,xa⟩:=pv.1 h2;have an:∀{i j:O} (hi:i<g.length) (aP:j<g.length),i<j->(g[i]).1≠(g[j]).1:=λhi aP jd=>by have:=lW.1 ag _ _ (by simpa using hi) (by simpa using aP) jd;simpa using this
 rcases Oh i j with jd|jd|jd
 grind
 grind
 grind
structure nz(ah:O->aA bB)(u:H)(id:o)(n:dp):Prop where
 cell:u n.p=some (.cells (jU n).toArray 230 (0,0))
 tag:ah n.p=some (.node id)
 vec:Ints u n.sv n.v
 BY:∀g,n.sv.al=some g->ah g=some (.vec id)
 u4:n.ks.length=31
 FR:n.kn.length=31
 arr:∀(lv:O) (s:N) (l:J o),n.ks[lv]?=some s->n.kn[lv]?=some l->aD Cd u 3 1 s (l.flatMap encI)/\∀g,s.al=some g->ah g=some (.arr id lv)
def oE(ah:O->aA bB)(id:o)(c:O):Prop:=ah c=some (.node id)∨ah c=some (.vec id)∨∃lv,ah c=some (.arr id lv)
def oE.some{ah:O->aA bB}{id:o}(h:oE ah id c):ah c≠none:=by rcases h with e|e|⟨lv,e⟩<;>rw[e]<;>simp
def nz.bO{ah aY:O->aA bB}{id:o}{n:dp}(h:nz ah u id n)(ab:∀c,oE ah id c->aY c=ah c)(hu:∀c z,u c=some z->oE ah id c->u' c=some z):nz aY u' id n where
 cell:=hu _ _ h.cell (.inl h.tag)
 tag:=by rw[ab _ (.inl h.tag)];exact h.tag
 vec:=bw.else h.vec λg z Z ac=>hu g z ac (.inr (.inl (h.BY g Z)))
 BY g Z:=by rw[ab _ (.inr (.inl (h.BY g Z)))];exact h.BY g Z
 u4:=h.u4
 FR:=h.FR
 arr lv s l h1 h2:=by obtain⟨h3,br⟩:=h.arr lv s l h1 h2;exact⟨(h3.own.le λb z aa cC=>hu b z cC (.inr (.inr ⟨lv,br b aa⟩))).f,λg Z=>by rw[ab _ (.inr (.inr ⟨lv,br g Z⟩))];exact br g Z⟩
structure aU where
 dim:o
 cm:o
 src:O
 m:O
 st:o
 g:J (o×dp)
 entry:o
def fx(T:aU):J ap:=[.int .i64 T.dim,.int .i64 T.cm,.pointer (some ⟨T.src,0,none⟩),.map (some T.m),.int .i64 T.entry]
structure ee(ah:O->aA bB)(u:H)(b:O)(T:aU):Prop where
 cell:u b=some (.cells (fx T).toArray 184 (0,0))
 src:u T.src=some (.cells #[.int .u64 T.st] 215 (0,0))
 GU:cE T.st
 map:fE u T.m (jG T.g)
 dQ:ah b=some .tree
 ie:ah T.src=some .src
 dy:ah T.m=some .map
 nodes:∀x∈T.g,nz ah u x.1 x.2
theorem ee.nodup{ah:O->aA bB}{T:aU}(h:ee ah u b T):(T.g.map (·.1)).Nodup:=by
 obtain⟨es,c,_,he⟩:=h.map;have:=he.nodup;unfold jG at this
 grind
def ee.bO{ah aY:O->aA bB}{T:aU}(h:ee ah u b T)(ab:∀c,ah c≠none->aY c=ah c)(hu:∀c z,u c=some z->ah c≠none->u' c=some z):ee aY u' b T where
 cell:=hu _ _ h.cell (by rw[h.dQ];simp)
 src:=hu _ _ h.src (by rw[h.ie];simp)
 GU:=h.GU
 map:=h.map.else λz ac=>hu _ _ ac (by rw[h.dy];simp)
 dQ:=by rw[ab _ (by rw[h.dQ];simp)];exact h.dQ
 ie:=by rw[ab _ (by rw[h.ie];simp)];exact h.ie
 dy:=by rw[ab _ (by rw[h.dy];simp)];exact h.dy
 nodes x M:=(h.nodes x M).bO (λc I=>ab c I.some) λc z ac ht=>hu c z ac ht.some
def ee.mono{ah:O->aA bB}{T:aU}(h:ee ah u b T)(hu:u.le u'):ee ah u' b T:=h.bO (λ_ _=>rfl) λc z ac _=>hu c z ac
def ee.node{ah:O->aA bB}{T:aU}(h:ee ah u b T){id:o}{n:dp}(ag:eS T.g id=some n):nz ah u id n:=h.nodes _ (iC ag)
def k1{ah:O->aA bB}{T:aU}(h:ee ah u b T):u.cell? ⟨b,0,none⟩=some (.int .i64 T.dim)/\u.cell? ((cp b 0 none).add 1)=some (.int .i64 T.cm)/\
  u.cell? ((cp b 0 none).add 2)=some (.pointer (some ⟨T.src,0,none⟩))/\u.cell? ((cp b 0 none).add 3)=some (.map (some T.m))/\u.cell? ((cp b 0 none).add 4)=some (.int .i64 T.entry):=by
 have aa:=h.cell
 refine⟨?_,?_,?_,?_,?_⟩<;>simp[H.cell?,er,aa,fx]
def abJ{n:dp}(h:n.ks.length=31):(jU n).length=33:=by simp[jU,h]
def azo(n:dp):(jU n)[0]?=some (.slice n.sv.a n.sv.n n.sv.c):=by simp[jU]
theorem azm{n:dp}(h:n.ks[lv]?=some s):(jU n)[1+lv]?=some (.slice s.a s.n s.c):=by
 obtain⟨aq,he⟩:=hG.1 h;unfold jU
 grind
theorem Tb{n:dp}(h:n.ks.length=31):(jU n)[32]?=some (.int .i64 n.top):=by
 unfold jU
 grind
def F4{ah:O->aA bB}{id:o}{n:dp}(h:nz ah u id n)(i:O):u.cell? ⟨n.p,i,none⟩=(jU n)[i]?:=by simp[H.cell?,h.cell]
def dp.jY(n:dp)(lv:O)(s:N)(l:J o):dp:={n with ks:=n.ks.set lv s,kn:=n.kn.set lv l}
def azn{n:dp}(h:lv<n.ks.length)(s:N)(l:J o):jU (n.jY lv s l)=(jU n).set (1+lv) (.slice s.a s.n s.c):=by unfold jU dp.jY;simp only;rw[List.set_append_left _ _ (by simp;omega),Nat.add_comm,JE,Gw]
def adz{n:dp}(I:u n.p=some (.cells (jU n).toArray 230 (0,0)))(hk:n.ks.length=31)(aq:lv<31)(l:J o){f:H->Prop}
  (ab:f (u.ins n.p (.cells (jU (n.jY lv s l)).toArray 230 (0,0)))):H.aM u ⟨n.p,1+lv,none⟩ [.slice s.a s.n s.c] f:=by
 refine⟨_,_,I,rfl,by simp[abJ hk];omega,by simp[cI],?_⟩
 have e:wr (jU n).toArray (1+lv) [.slice s.a s.n s.c]=(jU (n.jY lv s l)).toArray:=by rw[azn (by rw[hk];exact aq)];apply TD;rw[Hc _ _ _ (by simp[abJ hk];omega)];simp only[x9];rw[List.set_eq_take_append_cons_drop,b3 (by rw[abJ hk];omega)];simp
 simp only[e]
 exact ab
def q4(g:J (o×dp))(id:o)(n:dp):J (o×dp):=g.map λx=>if x.1=id then(x.1,n) else x
theorem aBf(g:J (o×dp))(id:o)(n:dp):(q4 g id n).map (·.1)=g.map (·.1):=by
 unfold q4;rw[e4];refine zK λx _=>?_
 grind
theorem aBg{g:J (o×dp)}{id:o}{n n':dp}(b8:(g.map (·.1)).Nodup)(h:eS g id=some n)(ad:n'.p=n.p):jG (q4 g id n')=jG g:=by
 unfold q4 jG;rw[e4];refine zK λx M=>?_;simp only[Function.comp];split;rename_i e;have:eS g id=some x.2:=AE b8 (by rw[<-e];exact M)
 grind
 rfl
theorem Ly{g:J (o×dp)}{id:o}{n:dp}(i:o):eS (q4 g id n) i=if i=id then(eS g i).map λ_=>n else eS g i:=by
 induction g with
 |nil=>simp[q4,eS]|cons x g aW=>
  unfold q4 eS at*
  grind
theorem ayH{g:J (o×dp)}{id:o}{n:dp}{x:o×dp}(h:x∈q4 g id n):(x.1≠id/\x∈g)∨(x=(id,n)/\id∈g.map (·.1)):=by
 obtain⟨y,aj,rfl⟩:=bQ.1 h
 grind
def ee.set{ah aY:O->aA bB}{T:aU}{id:o}{n n':dp}(h:ee ah u b T)(ag:eS T.g id=some n)(ad:n'.p=n.p)(hY:nz aY u' id n')(ab:∀c,ah c≠none->¬oE ah id c->aY c=ah c)
  (hu:∀c z,u c=some z->ah c≠none->¬oE ah id c->u' c=some z):ee aY u' b {T with g:=q4 T.g id n'}:=by
 have no:∀{c:O} {t:bB},ah c=some t->(∀i,t≠.node i)->(∀i,t≠.vec i)->(∀i lv,t≠.arr i lv)->ah c≠none/\¬oE ah id c:=λe h1 h2 h3=>⟨by rw[e];simp,by rintro(aN|aN|⟨lv,aN⟩)<;>rw[e] at aN<;>cases aN;exact h1 _ rfl;exact h2 _ rfl;exact h3 _ _ rfl⟩
 have ck:=no h.dQ (by simp) (by simp) (by simp)
 have kl:=no h.ie (by simp) (by simp) (by simp)
 have zq:=no h.dy (by simp) (by simp) (by simp)
 refine⟨hu _ _ h.cell ck.1 ck.2,hu _ _ h.src kl.1 kl.2,h.GU,?_,by rw[ab _ ck.1 ck.2];exact h.dQ,by simp only;rw[ab _ kl.1 kl.2];exact h.ie,by simp only;rw[ab _ zq.1 zq.2];exact h.dy,λx M=>?_⟩
 simp only
 rw[aBg h.nodup ag ad]
 exact h.map.else λz ac=>hu _ _ ac zq.1 zq.2
 rcases ayH M with⟨an,M⟩|⟨rfl,_⟩
 have nJ:∀c,oE ah x.1 c->¬oE ah id c:=by rintro c (e|e|⟨lv,e⟩) (aN|aN|⟨xU,aN⟩)<;>rw[e] at aN<;>cases aN<;>exact an rfl
 exact(h.nodes x M).bO (λc I=>ab c I.some (nJ c I)) λc z ac I=>hu c z ac I.some (nJ c I)
 exact hY
structure In(ak u:H)(ah:O->aA bB)(b:O)(T:aU):Prop where
 aJ:ee ah u b T
 le:ak.le u
 out:∀c,ah c≠none->ak c=none
 known:∀c,ah c≠none->u c≠none
structure gM(u:H)(ah:O->aA bB)(u':H)(aY:O->aA bB):Prop where
 bO:∀c z,u c=some z->ah c=none->u' c=some z
 grow:∀c,aY c≠none->ah c≠none∨u c=none
def gM.refl(u:H)(ah:O->aA bB):gM u ah u ah:=⟨λ_ _ h _=>h,λ_ h=>.inl h⟩
theorem gM.trans{aR cF:H}{ah c5 iq:O->aA bB}(h:gM u ah aR c5)(k:gM aR c5 cF iq):gM u ah cF iq where
 bO c z I ab:=k.bO c z (h.bO c z I ab) (by
  cases e:c5 c with
  |none=>rfl|some t=>
   rcases h.grow c (by rw[e];simp) with h1|h1;exact bf ab h1
   grind)
 grow c I:=by
  rcases k.grow c I with h1|h1;exact h.grow c h1;cases e:ah c with
  |some t=>exact .inl (by simp)|none=>
   right;cases aN:u c with
   |none=>rfl|some z=>rw[h.bO c z aN e] at h1;cases h1
def gM.mono{aR:H}{ah:O->aA bB}(h:u.le aR):gM u ah aR ah:=⟨λc z I _=>h c z I,λ_ h=>.inl h⟩
theorem gM.apart{v:H}{ah aY:O->aA bB}(h:gM u ah u' aY)(aB:v.le u)(av:∀c,ah c≠none->v c=none):v.le u'/\∀c,aY c≠none->v c=none:=by
 refine⟨λc z I=>h.bO c z (aB c z I) ?_,λc I=>?_⟩
 grind
 rcases h.grow c I with h1|h1;exact av c h1;exact aB.none h1
def In.mono{ah:O->aA bB}{T:aU}(h:In ak u ah b T)(hu:u.le u'):In ak u' ah b T:=
 ⟨h.aJ.mono hu,h.le.trans hu,h.out,λc I=>by obtain⟨z,ac⟩:=fp.1 (h.known c I);rw[hu c z ac];simp⟩
structure KW(ah:O->aA bB)(u:H)(id:o)(aY:O->aA bB)(u':H):Prop where
 wQ:∀c,ah c≠none->¬oE ah id c->aY c=ah c
 bO:∀c z,u c=some z->¬oE ah id c->u' c=some z
 grow:∀c,aY c≠none->ah c≠none∨u c=none
 known:∀c,aY c≠none->u' c≠none
def KW.eJ{ah aY:O->aA bB}{id:o}(h:KW ah u id aY u'):gM u ah u' aY:=
 ⟨λc z I ab=>h.bO c z I λhm=>hm.some ab,h.grow⟩
theorem nz.level{gL:H}{ah:O->aA bB}{id:o}{n:dp}(eP:nz ah u id n)(A1:∀c,ah c≠none->u c≠none){ar:N}{bH:J o}(ae:n.ks[lv]?=some s)(ac:aD Cd gL 3 1 ar (bH.flatMap encI))
  (he:∀c z,u c=some z->s.al≠some c->gL c=some z) (aa:∀c,ar.al=some c->s.al=some c∨u c=none):
  ∃aY,nz aY (gL.ins n.p (.cells (jU (n.jY lv ar bH)).toArray 230 (0,0))) id (n.jY lv ar bH)/\KW ah u id aY (gL.ins n.p (.cells (jU (n.jY lv ar bH)).toArray 230 (0,0))):=by
 have oN:lv<31:=by rw[<-eP.u4];exact(hG.1 ae).1
 obtain⟨l,aq⟩:∃l,n.kn[lv]?=some l:=⟨n.kn[lv]'(by rw[eP.FR];exact oN),dj _⟩
 have c6:∀g,s.al=some g->ah g=some (.arr id lv):=(eP.arr lv s l ae aq).2
 have ry:s.al≠some n.p:=λe=>by have:=c6 _ e;rw[eP.tag] at this;cases this
 have awF:ar.al≠some n.p:=λe=>by rcases aa _ e with h1|h1;exact ry h1;exact A1 n.p (by rw[eP.tag];simp) h1
 let aY:O->aA bB:=λc=>open Classical in if ar.al=some c then some (.arr id lv) else if s.al=some c then none else ah c
 have aT:∀c,ar.al=some c->aY c=some (.arr id lv):=λc I=>b3 I
 have aN:∀c,ar.al≠some c->s.al≠some c->aY c=ah c:=λc h1 h2=>(bF h1).trans (bF h2)
 have dG:∀c,ar.al≠some c->s.al=some c->aY c=none:=λc h1 h2=>(bF h1).trans (b3 h2)
 have gz:∀c,ah c≠none->s.al≠some c->aY c=ah c:=λc h1 h2=>aN c (λe=>(aa c e).elim h2 (A1 c h1)) h2
 have aJf:∀c,c≠n.p->(gL.ins n.p (.cells (jU (n.jY lv ar bH)).toArray 230 (0,0))) c=gL c:=λc I=>bz _ _ I
 have mz:∀c z,u c=some z->c≠n.p->s.al≠some c->(gL.ins n.p (.cells (jU (n.jY lv ar bH)).toArray 230 (0,0))) c=some z:=λc z h1 h2 h3=>by grind
 refine⟨aY,?_,⟨λc h1 h2=>gz c h1 λe=>h2 (.inr (.inr ⟨lv,c6 c e⟩)),λc z h1 h3=>mz c z h1 (λe=>h3 (.inl (by rw[e];exact eP.tag))) λe=>h3 (.inr (.inr ⟨lv,c6 c e⟩)),λc I=>?_,λc I=>?_⟩⟩
 refine⟨bh _ _ _,?_,?_,λg Z=>?_,by simp[dp.jY,eP.u4],by simp[dp.jY,eP.FR],λxU s2 eZ h1 h2=>?_⟩
 show aY n.p=_;rw[aN _ awF ry];exact eP.tag
 refine bw.else eP.vec λg z Z tg=>mz g z tg (λe=>?_) λe=>?_
 have:=eP.BY g Z;rw[e,eP.tag] at this;cases this
 have:=eP.BY g Z;grind
 have aB:=eP.BY g Z
 grind
 by_cases e:xU=lv
 subst e
 simp only[dp.jY] at h1 h2
 rw[DC (by rw[eP.u4];exact oN)] at h1
 rw[DC (by rw[eP.FR];exact oN)] at h2
 cases h1;cases h2
 exact⟨(ac.own.le λc z I te=>by grind).f,λg Z=>aT g Z⟩
 simp only[dp.jY] at h1 h2
 rw[TP (e3 e)] at h1 h2
 obtain⟨h3,br⟩:=eP.arr xU s2 eZ h1 h2
 have ne:∀g,s2.al=some g->s.al≠some g:=λg Z gI=>by
  grind
 refine⟨(h3.own.le λc z I te=>mz c z te (λnE=>?_) (ne c I)).f,λg Z=>?_⟩
 have:=br c I;rw[nE,eP.tag] at this;cases this
 grind
 grind
 by_cases h1:ar.al=some c
 have:=vc ac h1
 grind
 by_cases h2:s.al=some c
 grind
 rw[aN c h1 h2] at I
 obtain⟨z,te⟩:=fp.1 (A1 c I)
 by_cases h3:c=n.p
 rw[h3,bh];simp
 grind
def In.base{ah aY:O->aA bB}{T:aU}(h:In ak u ah b T)(ht:gM u ah u' aY):ak.le u'/\∀c,aY c≠none->ak c=none:=ht.apart h.le h.out
def In.shift{ah aY:O->aA bB}{T:aU}(h:In ak u ah b T){id:o}{n n':dp}(ag:eS T.g id=some n)(ad:n'.p=n.p)(hY:nz aY u' id n')(aC:KW ah u id aY u'):
  In ak u' aY b {T with g:=q4 T.g id n'}:=
 ⟨h.aJ.set ag ad hY aC.wQ λc z h1 _ h3=>aC.bO c z h1 h3,(h.base aC.eJ).1,(h.base aC.eJ).2,aC.known⟩
def In.aBp{ah aY:O->aA bB}{T:aU}(h:In ak u ah b T){id:o}(cy:id∉T.g.map (·.1))(aC:KW ah u id aY u'):In ak u' aY b T:=by
 have no:∀{c:O} {t:bB},ah c=some t->(∀i,t≠.node i)->(∀i,t≠.vec i)->(∀i lv,t≠.arr i lv)->ah c≠none/\¬oE ah id c:=λe h1 h2 h3=>⟨by rw[e];simp,by rintro(aN|aN|⟨lv,aN⟩)<;>rw[e] at aN<;>cases aN;exact h1 _ rfl;exact h2 _ rfl;exact h3 _ _ rfl⟩
 have ck:=no h.aJ.dQ (by simp) (by simp) (by simp);have kl:=no h.aJ.ie (by simp) (by simp) (by simp);have zq:=no h.aJ.dy (by simp) (by simp) (by simp);refine⟨⟨aC.bO _ _ h.aJ.cell ck.2,aC.bO _ _ h.aJ.src kl.2,h.aJ.GU,h.aJ.map.else λz ac=>aC.bO _ _ ac zq.2,by rw[aC.wQ _ ck.1 ck.2];exact h.aJ.dQ,by rw[aC.wQ _ kl.1 kl.2];exact h.aJ.ie,
  by rw[aC.wQ _ zq.1 zq.2];exact h.aJ.dy,λx M=>?_⟩,(h.base aC.eJ).1,(h.base aC.eJ).2,aC.known⟩
 have an:x.1≠id:=λe=>cy (bQ.2 ⟨x,M,e⟩);have nJ:∀c,oE ah x.1 c->¬oE ah id c:=by rintro c (e|e|⟨lv,e⟩) (aN|aN|⟨xU,aN⟩)<;>rw[e] at aN<;>cases aN<;>exact an rfl
 exact(h.aJ.nodes x M).bO (λc I=>aC.wQ c I.some (nJ c I)) λc z ac I=>aC.bO c z ac (nJ c I)
def In.level{gL:H}{ah:O->aA bB}{T:aU}(h:In ak u ah b T){id:o}{n:dp}(ag:eS T.g id=some n){ar:N}{bH:J o}(ae:n.ks[lv]?=some s)(ac:aD Cd gL 3 1 ar (bH.flatMap encI))
  (he:∀c z,u c=some z->s.al≠some c->gL c=some z) (aa:∀c,ar.al=some c->s.al=some c∨u c=none):
  ∃aY,In ak (gL.ins n.p (.cells (jU (n.jY lv ar bH)).toArray 230 (0,0))) aY b {T with g:=q4 T.g id (n.jY lv ar bH)}/\gM u ah (gL.ins n.p (.cells (jU (n.jY lv ar bH)).toArray 230 (0,0))) aY:=by
 obtain⟨aY,h1,h2⟩:=(h.aJ.node ag).level h.known ae ac he aa
 exact⟨aY,h.shift ag rfl h1 h2,h2.eJ⟩
def In.Ji{ah:O->aA bB}{T:aU}(h:In ak u ah b T):T.src≠b/\T.m≠b/\T.src≠T.m/\∀i c,oE ah i c->c≠b/\c≠T.m/\c≠T.src:=by refine⟨λe=>?_,λe=>?_,λe=>?_,λi c hm=>⟨λe=>?_,λe=>?_,λe=>?_⟩⟩;have:=h.aJ.ie;rw[e,h.aJ.dQ] at this;cases this;have:=h.aJ.dy;rw[e,h.aJ.dQ] at this;cases this;have:=h.aJ.dy;rw[<-e,h.aJ.ie] at this;cases this;rw[e] at hm;rcases hm with aN|aN|⟨_,aN⟩<;>rw[h.aJ.dQ] at aN<;>cases aN;rw[e] at hm;rcases hm with aN|aN|⟨_,aN⟩<;>rw[h.aJ.dy] at aN<;>cases aN;rw[e] at hm;rcases hm with aN|aN|⟨_,aN⟩<;>rw[h.aJ.ie] at aN<;>cases aN
def In.write{ah:O->aA bB}{T:aU}(h:In ak u ah b T)(I:ah c≠none)(z:Obj):gM u ah (u.ins c z) ah/\ak.le (u.ins c z)/\∀x,ah x≠none->(u.ins c z) x≠none:=by have ht:gM u ah (u.ins c z) ah:=⟨λx y M ab=>by have an:x≠c:=λe=>I (by rw[<-e];exact ab);rw[bz _ _ an];exact M,λx M=>.inl M⟩;refine⟨ht,(h.base ht).1,λx M=>?_⟩;unfold H.ins;split;simp;exact h.known x M
def In.OZ{ah:O->aA bB}{T:aU}(h:In ak u ah b T)(e:o):In ak (u.ins b (.cells (fx {T with entry:=e}).toArray 184 (0,0))) ah b {T with entry:=e}/\
  gM u ah (u.ins b (.cells (fx {T with entry:=e}).toArray 184 (0,0))) ah:=by
 obtain⟨h1,h2,h3⟩:=h.write (c:=b) (by rw[h.aJ.dQ];simp) (.cells (fx {T with entry:=e}).toArray 184 (0,0))
 obtain⟨cj,ez,_,fo⟩:=h.Ji
 exact⟨⟨⟨bh _ _ _,by rw[bz _ _ cj];exact h.aJ.src,h.aJ.GU,h.aJ.map.else λz ac=>by rw[bz _ _ ez];exact ac,h.aJ.dQ,h.aJ.ie,h.aJ.dy,
  λx M=>(h.aJ.nodes x M).bO (λ_ _=>rfl) λc z ac hm=>by rw[bz _ _ (fo _ c hm).1];exact ac⟩,h2,h.out,h3⟩,h1⟩
def Ut{ah:O->aA bB}{T:aU}(h:ee ah u b T){e:o}{f:H->Prop}(ab:f (u.ins b (.cells (fx {T with entry:=e}).toArray 184 (0,0)))):H.aM u ((cp b 0 none).add 4) [.int .i64 e] f:=by
 rw[ib];refine⟨_,_,h.cell,rfl,by simp[fx],by simp[cI],?_⟩;have:wr (fx T).toArray (0+4) [.int .i64 e]=(fx {T with entry:=e}).toArray:=by simp[wr,fx]
 simp only[this];exact ab
def In.aBh{ah:O->aA bB}{T:aU}(h:In ak u ah b T){st:o}(c6:cE st):In ak (u.ins T.src (.cells #[.int .u64 st] 215 (0,0))) ah b {T with st:=st}/\gM u ah (u.ins T.src (.cells #[.int .u64 st] 215 (0,0))) ah:=by
 obtain⟨h1,h2,h3⟩:=h.write (c:=T.src) (by rw[h.aJ.ie];simp) (.cells #[.int .u64 st] 215 (0,0));obtain⟨cj,ez,lV,fo⟩:=h.Ji;exact⟨⟨⟨by rw[bz _ _ (e3 cj)];exact h.aJ.cell,bh _ _ _,c6,h.aJ.map.else λz ac=>by rw[bz _ _ (e3 lV)];exact ac,h.aJ.dQ,h.aJ.ie,h.aJ.dy,
  λx M=>(h.aJ.nodes x M).bO (λ_ _=>rfl) λc z ac hm=>by rw[bz _ _ (fo _ c hm).2.2];exact ac⟩,h2,h.out,h3⟩,h1⟩
def In.ami{ah:O->aA bB}{T:aU}(h:In ak u ah b T){z:Obj}{b5:J (o×dp)}(hm:fE (u.ins T.m z) T.m (jG b5))(Z:∀x∈b5,nz ah u x.1 x.2):In ak (u.ins T.m z) ah b {T with g:=b5}/\gM u ah (u.ins T.m z) ah:=by
 obtain⟨h1,h2,h3⟩:=h.write (c:=T.m) (by rw[h.aJ.dy];simp) z;obtain⟨cj,ez,lV,fo⟩:=h.Ji;exact⟨⟨⟨by rw[bz _ _ (e3 ez)];exact h.aJ.cell,by rw[bz _ _ lV];exact h.aJ.src,h.aJ.GU,hm,h.aJ.dQ,h.aJ.ie,h.aJ.dy,
  λx M=>(Z x M).bO (λ_ _=>rfl) λc z ac uL=>by rw[bz _ _ (fo _ c uL).2.1];exact ac⟩,h2,h.out,h3⟩,h1⟩
def cV(g:J (o×dp))(q:J o)(id:o):bN:=(id,match eS g id with
 |some n=>gb n.v q n.v.length|none=>0)
def mh(g:J (o×dp))(lv:O)(id:o):J o:=match eS g id with
 |some n=>n.kn.getD lv []|none=>[]
def uI(g:J (o×dp))(q:J o)(id:o):(cV g q id).1=id:=rfl
structure qv(dim:o)(g:J (o×dp)):Prop where
 hP:1<=dim/\dim<=64
 vec:∀x∈g,(x.2.v.length:o)=dim/\cY x.2.v
 top:∀x∈g,x.2.top<=30
 known:∀x∈g,∀l∈x.2.kn,∀i∈l,i∈g.map (·.1)
 ids:∀x∈g,1<=x.1/\x.1<=1000000000
 small:g.length<=513
theorem qv.ck{dim:o}{g:J (o×dp)}(h:qv dim g)(lv:O):∀k∈g.map (·.1),∀i∈mh g lv k,i∈g.map (·.1):=by
 intro k hk i hi;obtain⟨n,ag⟩:=yM hk;unfold mh at hi;rw[ag] at hi;simp only at hi;rcases tK lv n.kn.length with aq|aq;rw[jX,dj aq] at hi;exact h.known _ (iC ag) _ (ln aq) i hi
 grind
def wm:Cf aH 182 3 227 (.pointer none):=⟨by kernel_rfl,by kernel_rfl,λ_=>by kernel_rfl⟩
def Jl(p lv:O):((cp p 0 none).add 1).add (lv*1)=⟨p,1+lv,none⟩:=by rw[Addr.w4,ib,wz,kY]
structure uj(u:H)(b:O)(T:aU):Prop where
 cell:u b=some (.cells (fx T).toArray 184 (0,0))
 map:fE u T.m (jG T.g)
 nodes:∀x∈T.g,u x.2.p=some (.cells (jU x.2).toArray 230 (0,0))/\Ints u x.2.sv x.2.v
def ee.TV{ah:O->aA bB}{T:aU}(h:ee ah u b T)(hu:∀c z,u c=some z->ah c≠none->(∀i lv,ah c≠some (.arr i lv))->u' c=some z):uj u' b T where
 cell:=hu _ _ h.cell (by rw[h.dQ];simp) (by rw[h.dQ];simp)
 map:=h.map.else λz ac=>hu _ _ ac (by rw[h.dy];simp) (by rw[h.dy];simp)
 nodes x M:=by have eP:=h.nodes x M;exact⟨hu _ _ eP.cell (by rw[eP.tag];simp) (by rw[eP.tag];simp),bw.else eP.vec λg z Z ac=>hu g z ac (by rw[eP.BY g Z];simp) (by rw[eP.BY g Z];simp)⟩
def ee.rd{ah:O->aA bB}{T:aU}(h:ee ah u b T):uj u b T:=h.TV λ_ _ ac _ _=>ac
def uj.mono{T:aU}(h:uj u b T)(hu:u.le u'):uj u' b T:=
 ⟨hu _ _ h.cell,h.map.mono hu,λx M=>⟨hu _ _ (h.nodes x M).1,(h.nodes x M).2.mono hu⟩⟩
def alJ{T:aU}(h:uj u b T):u.cell? ⟨b,0,none⟩=some (.int .i64 T.dim)/\u.cell? ((cp b 0 none).add 1)=some (.int .i64 T.cm)/\
  u.cell? ((cp b 0 none).add 3)=some (.map (some T.m))/\u.cell? ((cp b 0 none).add 4)=some (.int .i64 T.entry):=by
 have aa:=h.cell
 refine⟨?_,?_,?_,?_⟩<;>simp[H.cell?,er,aa,fx]
def ame{T:aU}(h:uj u b T){id:o}(cy:id∈T.g.map (·.1)){K:aA a8->H->Prop}
  (au:∀n,eS T.g id=some n->K (some ⟨n.p,0,none⟩) u):c7 aH (gY 182 (.map (some T.m)) (.int .i64 id) ao) [.one .ptr] u K:=by
 obtain⟨n,ag⟩:=yM cy
 refine OW wm h.map (ct:=.ptr) (some ⟨n.p,0,none⟩) ?_ (au n ag)
 rw[CI,ag];rfl
def vt{ah:O->aA bB}{T:aU}(h:ee ah u b T){id:o}(cy:id∈T.g.map (·.1)){K:aA a8->H->Prop}
  (au:∀n,eS T.g id=some n->nz ah u id n->K (some ⟨n.p,0,none⟩) u):c7 aH (gY 182 (.map (some T.m)) (.int .i64 id) ao) [.one .ptr] u K:=
 ame h.rd cy λn ag=>au n ag (h.node ag)
structure sR(u:H)(dim:o)(t:N)(q:J o):Prop where
 is:Ints u t q
 ok:cY q
 len:(q.length:o)=dim
def sR.mono{dim:o}(h:sR u dim t q)(k:u.le u'):sR u' dim t q:=⟨h.is.mono k,h.ok,h.len⟩
def ac9{T:aU}{id:o}{K:o->o->o->H->Prop}(h:uj u b T)(Z:qv T.dim T.g)(cy:id∈T.g.map (·.1))(ht:sR u T.dim t q)
  (au:K id (cQ (cV T.g q id).2) (cS (cV T.g q id).2) u):yq (some ⟨b,0,none⟩) id t u K:=by
 obtain⟨_,_,fc,_⟩:=alJ h
 apply aE8
 refine⟨_,rfl,_,fc,ame h cy λn ag=>⟨_,rfl,n.sv,?_,?_⟩⟩
 have:=(h.nodes _ (iC ag)).1
 simp only at this
 simp[H.cell?,this,jU]
 have aB:=Z.vec _ (iC ag)
 refine BN (h.nodes _ (iC ag)).2 ht.is aB.2 ?_ ht.ok ?_ λx y M aj he=>?_
 have:=Z.hP;have:=aB.1;simp only at this ⊢;omega
 have:=aB.1;have:=ht.len;simp only at*;omega
 have e:(cV T.g q id).2=dw x y:=by rw[he];simp[cV,ag]
 rw[e,RX aj,S2 aj] at au
 exact au
def Pb{ah:O->aA bB}{T:aU}{id:o}{K:o->o->o->H->Prop}(h:ee ah u b T)(Z:qv T.dim T.g)(cy:id∈T.g.map (·.1))(ht:sR u T.dim t q)
  (au:K id (cQ (cV T.g q id).2) (cS (cV T.g q id).2) u):yq (some ⟨b,0,none⟩) id t u K:=ac9 h.rd Z cy ht au
def wl(cm lv:o):o:=if lv=0 then 2*cm else cm
def amK{T:aU}{lv:o}(h:uj u b T)(aq:1<=T.cm/\T.cm<=16)(au:K (wl T.cm lv) u):PR (some ⟨b,0,none⟩) lv u K:=by obtain⟨_,c1,_⟩:=alJ h;apply aFd;unfold wl at au;refine⟨λh0=>⟨_,rfl,_,c1,⟨by omega,by omega⟩,?_⟩,λh0=>⟨_,rfl,_,c1,?_⟩⟩;rw[b3 h0] at au;exact au;rw[bF h0] at au;exact au
def xR{ah:O->aA bB}{id:o}{n:dp}(h:nz ah u id n)(aq:lv<31):∃s l,n.ks[lv]?=some s/\n.kn[lv]?=some l/\u.cell? (((cp n.p 0 none).add 1).add (lv*1))=some (.slice s.a s.n s.c)/\
  aD Cd u 3 1 s (l.flatMap encI)/\∀g,s.al=some g->ah g=some (.arr id lv):=by
 have h1:lv<n.ks.length:=by rw[h.u4];exact aq
 have h2:lv<n.kn.length:=by rw[h.FR];exact aq
 refine⟨n.ks[lv],n.kn[lv],dj h1,dj h2,?_,h.arr lv _ _ (dj h1) (dj h2)⟩
 rw[Jl,F4 h]
 exact azm (dj h1)
def abE{g:J (o×dp)}{id:o}{n:dp}(ag:eS g id=some n)(aq:n.kn[lv]?=some l):mh g lv id=l:=by unfold mh;rw[ag];simp only;rw[jX,aq];rfl
def adL{α β:Type}(f:β->α->β)(l:J α){i:O}{x:α}(h:l[i]?=some x)(b:β):(l.take (i+1)).foldl f b=f ((l.take i).foldl f b) x:=by obtain⟨aq,rfl⟩:=hG.1 h;rw[List.take_succ_eq_append_getElem aq,acu];rfl
def aB1{ah:O->aA bB}{T:aU}{at' lv:o}(h:ee ah u b T)(Z:qv T.dim T.g)(cy:at'∈T.g.map (·.1))(ht:sR u T.dim t q)
  (iG:0<=lv) (dN:lv<31) (au:K (Lc (cV T.g q) (mh T.g lv.toNat) T.g.length at') u):Vk (some ⟨b,0,none⟩) at' t lv u K:=by
 obtain⟨_,_,_,fc,_⟩:=k1 h
 have hlen:(T.g.map (·.1)).length=T.g.length:=by simp
 apply aE6
 refine Pb h Z cy ht ?_
 refine⟨λm x y W v=>v=u/\∃(n:O) (lQ:bN),x=lQ.1/\y=cQ lQ.2/\W=cS lQ.2/\lQ=xQ (cV T.g q) (mh T.g lv.toNat) n (cV T.g q at')/\n+JZ (cV T.g q) (T.g.map (·.1)) lQ<=T.g.length/\
   (m=ao->pass (cV T.g q) (mh T.g lv.toNat) lQ=lQ),
  λm x y W _=>JZ (cV T.g q) (T.g.map (·.1)) (x,dw y W)+(if m=ai then 1 else 0),
  ⟨rfl,0,cV T.g q at',rfl,rfl,rfl,rfl,by have:=aAq (cV T.g q) (T.g.map (·.1)) (cV T.g q at');omega,λhm=>by cases hm⟩,?_⟩
 rintro m x y W v ⟨rfl,n,lQ,rfl,rfl,rfl,LY,ag,hm⟩
 have ch:=SM (cV T.g q) (mh T.g lv.toNat) (uI T.g q) (b:=cV T.g q at') ⟨cy,rfl⟩ (Z.ck lv.toNat) n
 rw[<-LY] at ch
 refine⟨λMH=>⟨_,rfl,_,fc,vt h ch.1 λnd b8 eP=>⟨_,rfl,by decide,⟨iG,dN⟩,?_⟩⟩,λavA=>?_⟩
 obtain⟨s,l,ea,dJ,I,ac,_⟩:=xR eP (lv:=lv.toNat) (by omega)
 refine⟨s,I,?_⟩
 have vZ:mh T.g lv.toNat lQ.1=l:=abE b8 dJ
 have dS:=ac.ints.len
 refine⟨λqS i x y W b9=>b9=v/\0<=i/\i<=l.length/\∃ri:bN,x=ri.1/\y=cQ ri.2/\W=cS ri.2/\ri=(l.take i.toNat).foldl (ve (cV T.g q)) lQ/\qS=decide (ri≠lQ),
  λ_ i _ _ _ _=>l.length-i.toNat,⟨rfl,by omega,by omega,lQ,rfl,rfl,rfl,rfl,by simp⟩,?_⟩
 rintro qS i x y W b9 ⟨rfl,i0,i1,ri,rfl,rfl,rfl,eB,rfl⟩
 refine⟨λey=>?_,λhF=>?_⟩
 have fX:=ac.ints.max
 obtain⟨p,ad,qG⟩:=ac.ints.at i0 ey
 refine⟨p,ad,⟨i0,ey⟩,_,qG,?_⟩
 have avq:i.toNat<l.length:=by omega
 have M:l[i.toNat]?=some (l.getD i.toNat 0):=by simp[avq]
 have Bh:l.getD i.toNat 0∈T.g.map (·.1):=Z.ck lv.toNat lQ.1 ch.1 _ (by rw[vZ];exact dz M)
 refine Pb h Z Bh ht ?_
 have ab:=adL (ve (cV T.g q)) l M lQ
 rw[<-eB] at ab
 refine Kg (a:=cV T.g q (l.getD i.toNat 0)) (b:=ri) ?_
 have nG:ri=lQ∨bP ri lQ=ai:=by rcases Xy (cV T.g q) (l.take i.toNat) lQ with h1|⟨h1,_⟩;exact .inl (eB.trans h1);exact .inr (eB▸h1)
 refine⟨λaa=>⟨⟨by omega,by omega⟩,⟨rfl,by omega,by omega,cV T.g q (l.getD i.toNat 0),rfl,rfl,rfl,?_,?_⟩,by dsimp only;omega⟩,
  λaa=>⟨⟨by omega,by omega⟩,⟨rfl,by omega,by omega,ri,rfl,rfl,rfl,?_,rfl⟩,by dsimp only;omega⟩⟩
 rw[show(i+1).toNat=i.toNat+1 by omega,ab,ve,b3 aa]
 have:bP (cV T.g q (l.getD i.toNat 0)) lQ=ai:=by rcases nG with h1|h1;rw[<-h1];exact aa;exact MA aa h1
 exact(jf (avu this)).symm
 rw[show(i+1).toNat=i.toNat+1 by omega,ab,ve,bF (by simpa using aa)]
 have ey:i.toNat=l.length:=by have:¬i<(s.n:o):=hF;omega
 have ahI:ri=pass (cV T.g q) (mh T.g lv.toNat) lQ:=by rw[eB,ey,pt,pass,vZ]
 have ly:=Xy (cV T.g q) l lQ
 have atV:ri=l.foldl (ve (cV T.g q)) lQ:=by rw[eB,ey,pt]
 rw[<-atV] at ly
 rw[MH]
 by_cases an:ri=lQ
 refine⟨⟨rfl,n,ri,rfl,rfl,rfl,by rw[an];exact LY,by rw[an];exact ag,λ_=>by rw[an,<-ahI];exact an⟩,?_⟩
 rw[an];simp
 obtain⟨h1,mc,qL,e⟩:=ly.resolve_left an
 have auU:mc∈T.g.map (·.1):=Z.ck lv.toNat lQ.1 ch.1 _ (by rw[vZ];exact qL)
 have U:=aAr (cV T.g q) auU (b:=lQ) (by rw[<-e];exact h1)
 rw[<-e] at U
 refine⟨⟨rfl,n+1,ri,rfl,rfl,rfl,by rw[ahI,LY];rfl,by omega,λab=>?_⟩,?_⟩
 simp[an] at ab
 simp only[l0]
 have:decide (ri≠lQ)=ai:=by simp[an]
 rw[this]
 simpa using U
 have ad:=hm avA
 have auv:=axT (cV T.g q) (mh T.g lv.toNat) (n:=n) (b:=cV T.g q at') (by rw[<-LY];exact ad) (T.g.length-n)
 have e:Lc (cV T.g q) (mh T.g lv.toNat) T.g.length at'=lQ.1:=by unfold Lc;rw[show T.g.length=n+(T.g.length-n) by omega,auv,LY]
 rw[e] at au
 exact au
def vv(g:J (o×dp))(q:J o)(entry:o)(lv:O):o:=
 Ew (cV g q) (λl=>mh g l) g.length lv ((match eS g entry with|some n=>n.top|none=>0)-lv) entry
def adD{dim:o}{g:J (o×dp)}(Z:qv dim g){entry:o}(he:entry∈g.map (·.1))(lv:O):vv g q entry lv∈g.map (·.1):=
 af0 (uI g q) (λl=>Z.ck l) _ _ he
def amL{ah:O->aA bB}{T:aU}{lv:o}(h:ee ah u b T)(Z:qv T.dim T.g)(cy:T.entry∈T.g.map (·.1))(ht:sR u T.dim t q)
  (iG:0<=lv) (au:K (vv T.g q T.entry lv.toNat) u):PS (some ⟨b,0,none⟩) t lv u K:=by
 obtain⟨_,_,_,fc,pM⟩:=k1 h
 apply aFe
 refine⟨_,rfl,_,pM,_,rfl,_,fc,vt h cy λn ag eP=>⟨_,rfl,n.top,?_,?_⟩⟩
 rw[ib,kY,F4 eP];exact Tb eP.u4
 have p2:=Z.top _ (iC ag)
 simp only at p2
 unfold vv at au
 rw[ag] at au
 simp only at au
 refine⟨λx l v=>v=u/\x∈T.g.map (·.1)/\∃c:O,(lv<l->l=lv+c)/\l<=30/\(¬lv<l->c=0)/\Ew (cV T.g q) (λl=>mh T.g l) T.g.length lv.toNat c x=Ew (cV T.g q) (λl=>mh T.g l) T.g.length lv.toNat (n.top-lv.toNat) T.entry,
  λ_ l _=>(l-lv).toNat,⟨rfl,cy,n.top-lv.toNat,by omega,by omega,by omega,rfl⟩,?_⟩
 rintro x l v ⟨rfl,M,c,iO,qG,at1,av⟩
 refine⟨λhX=>?_,λhF=>?_⟩
 have aq:=iO hX
 refine aB1 h Z M ht (by omega) (by omega) ⟨⟨by omega,by omega⟩,⟨rfl,af5 (cV T.g q) _ (uI T.g q) M (Z.ck _),c-1,by omega,by omega,by omega,?_⟩,by dsimp only;omega⟩
 rw[<-av]
 obtain⟨pL,rfl⟩:∃pL,c=pL+1:=⟨c-1,by omega⟩
 simp only[Ew,Nat.add_sub_cancel]
 rw[show l.toNat=lv.toNat+pL+1 by omega]
 rw[at1 hF] at av
 simp only[Ew] at av
 rw[<-av] at au
 exact au
theorem _root_.Go.Proofs.YtejdhbfjjgcljaaGreatDoor.rb.TW{v0 v b9:H}{cq:O}{z cn:Obj}{L:J bN}(h:rb (v0.ins cq z) n v L)(h0:v0 cq=none)(ac:b9 cq=some cn)(he:∀g x,v g=some x->g≠cq->b9 g=some x):rb (v0.ins cq cn) n b9 L:=by
 obtain⟨s,h1,h2,h3⟩:=h.ex;have Fl:n≠cq:=λe=>by have:=h.out;rw[e,bh] at this;cases this
 have ab:∀g,(v0.ins cq z) g=none->(v0.ins cq cn) g=none:=λg Z=>by
  have:g≠cq:=λe=>by rw[e,bh] at Z;cases Z
  rw[bz _ _ this] at Z ⊢;exact Z
 refine⟨⟨s,he _ _ h1 Fl,⟨h2.own.le λb x aa hu=>he b x hu λe=>?_,λb x aa=>?_,λg Z=>ab g (h2.fresh g Z)⟩,h3⟩,ab n h.out,h.small⟩;have:=h2.fresh b aa;rw[e,bh] at this;cases this;unfold H.ins at aa;split at aa
 grind
 rename_i e;have:=h2.le b x (by rw[bz _ _ e];exact aa);exact he b x this e
theorem _root_.Go.Proofs.YtejdhbfjjgcljaaGreatDoor.rb.HV{v0 v h5 b9:H}{cq:O}{z:Obj}{L:J bN}(h:rb (v0.ins cq z) n v L)(h0:v0 cq=none)(ab:ys v0 v h5 b9):rb (h5.ins cq z) n b9 L/\h5 cq=none:=by
 obtain⟨s,h1,h2,h3⟩:=h.ex;have jR:=h2.le cq z (bh _ _ _);obtain⟨r7,aIR⟩:=ab.out cq z h0 jR;have Fl:n≠cq:=λe=>by have:=h.out;rw[e,bh] at this;cases this
 have fJ:v0 n=none:=by have:=h.out;rw[bz _ _ Fl] at this;exact this
 obtain⟨gQ,fK⟩:=ab.out n _ fJ h1;have aa:∀g,s.al=some g->∀x,v g=some x->h5 g=none/\b9 g=some x/\g≠cq:=λg Z x M=>by
  have e8:=h2.fresh g Z;have RR:g≠cq:=λe=>by rw[e,bh] at e8;cases e8
  rw[bz _ _ RR] at e8;exact⟨(ab.out g x e8 M).1,(ab.out g x e8 M).2,RR⟩
 refine⟨⟨⟨s,fK,⟨h2.own.le λb x fC hu=>(aa b fC x hu).2.1,λb x M=>?_,λg Z=>?_⟩,h3⟩,by rw[bz _ _ Fl];exact gQ,h.small⟩,r7⟩;unfold H.ins at M;split at M
 grind
 exact ab.le b x M;have hk:=dH h2 Z;obtain⟨x,M⟩:=fp.1 hk;obtain⟨bL,_,gA⟩:=aa g Z x M;rw[bz _ _ gA];exact bL
def ayF{ht:o->bN}{s:J o×J bN}{i:o}(h:i∉s.1):iU ht s i=(s.1++ [i],p5 (ht i) s.2):=bF h
def ayG{ht:o->bN}{s:J o×J bN}{i:o}(h:i∈s.1):iU ht s i=s:=b3 h
def lK(g:J (o×dp))(q:J o)(lv:O)(at':o):J o:=vL (cV g q) (mh g lv) g.length [at'] [cV g q at']
def Ml(h:bN):ap:=.agg #[.int .i64 h.1,.int .u64 (cQ h.2),.int .u64 (cS h.2)]
structure Hq(T:aU)(q:J o)(lv:O)(bJ:J o)(cZ:O->H->Prop)(cq n9:O)(n:O)(v:H):Prop where
 ex:∃(v0:H) (z:Obj) (i:O) (met:J o) (Ah L:J bN),cZ i v0/\v0 cq=none/\ui (v0.ins cq z) cq met/\rb (v0.ins cq z) n9 v L/\iJ bP L.length L/\L.Perm Ah/\Met (cV T.g q) (T.g.map (·.1)) (met,Ah)/\
  due T.g.length (met,Ah)<=n/\bJ.drop i=vL (cV T.g q) (mh T.g lv) n met Ah/\i<=bJ.length
theorem amI{ah:O->aA bB}{T:aU}{at' lv:o}{OU:ap}{K:H->Prop}(cC:ub.le u)(h:ee ah ub b T)(Z:qv T.dim T.g)(cy:at'∈T.g.map (·.1))(ht:sR ub T.dim t q)
  (iG:0<=lv) (dN:lv<31) (cZ:O->H->Prop) (E:H->Prop) (la:∀i v,cZ i v->ub.le v)
  (Z3:∀i x v (K:ay->H->Prop),(lK T.g q lv.toNat at')[i]?=some x->cZ i v->(∀b9,cZ (i+1) b9->K ai b9)->(∀b9,E b9->K ao b9)->ua aH OU #[Ml (cV T.g q x)] [.one .bool] v K)
  (h0:cZ 0 u) (EN:∀v,cZ (lK T.g q lv.toNat at').length v->K v) (oe:∀v,E v->K v):Kx (some ⟨b,0,none⟩) at' t lv OU u K:=by
 have aJZ:=Z.small
 have hlen:(T.g.map (·.1)).length=T.g.length:=by simp
 refine hD.weaken (ss:=[]) ?_
 apply aE7
 refine acX λcq jR j7=>?_
 refine T8 GM j7 (by simp) λcF Z4 Mr aJG=>?_
 have qP:u.le cF:=λc z I=>Mr c z (bX _ jR c z I) λe=>by grind
 obtain⟨hT,W0,yP,_⟩:=Z4
 refine Pb (h.mono (cC.trans qP)) Z cy (ht.mono (cC.trans qP)) ?_
 refine mK (afA at' _ _) λg7 auz n9 uO=>?_
 have Zw:n9≠g7:=λe=>by rw[e,bh] at uO;cases uO
 have avP:cF n9=none:=by rw[bz _ _ Zw] at uO;exact uO
 have ahn:cq≠g7:=λe=>by grind
 have Ib:cq≠n9:=λe=>by grind
 refine GV (bh _ _ _) (by simp[cI]) ?_
 have St:∀v,v cq=some (.map hT W0)->(∀c x,u c=some x->v c=some x)->v g7=some (.cells #[.int .i64 at',.int .u64 (cQ (cV T.g q at').2),.int .u64 (cS (cV T.g q at').2)] 68 (0,0))->
   v n9=some (.cells #[.slice (some ⟨g7,0,none⟩) 1 1] 263 (0,0))->u n9=none->u g7=none->u cq=none->Hq T q lv.toNat (lK T.g q lv.toNat at') cZ cq n9 T.g.length v:=by
  intro v aT aN dG gz gI nE Xi
  refine⟨u,.map hT W0,0,[at'],[cV T.g q at'],[cV T.g q at'],h0,Xi,?_,?_,λi i0 i1=>by simp at i1;omega,JV _,Met.one _ (uI T.g q) cy,?_,rfl,pu _⟩
  exact⟨hT,W0,bh _ _ _,by assumption⟩
  refine⟨⟨⟨some ⟨g7,0,none⟩,1,1⟩,gz,⟨⟨(by simp[pO]),.inr ⟨g7,_,rfl,dG,cw _,(by grind),(by simp),(by simp[eO,uI])⟩⟩,λc x I=>?_,λg Z=>?_⟩,by simp[N.al];omega⟩,by rw[bz _ _ (e3 Ib)];exact gI,by simp⟩
  unfold H.ins at I
  grind
  simp[N.al] at Z
  rw[<-Z,bz _ _ (e3 ahn)];exact nE
  simp[due]
  grind
 have hw:∀n v,Hq T q lv.toNat (lK T.g q lv.toNat at') cZ cq n9 n v->∃v0,ub.le v0/\v0.le v:=by rintro n v ⟨v0,z,i,met,Ah,L,aP,r7,_,ag,_⟩;obtain⟨s,_,ac,_⟩:=ag.ex;exact⟨v0,la i v0 aP,(bX _ r7).trans ac.le⟩
 refine⟨λv=>∃n,Hq T q lv.toNat (lK T.g q lv.toNat at') cZ cq n9 n v,λv=>least λn=>Hq T q lv.toNat (lK T.g q lv.toNat at') cZ cq n9 n v,⟨T.g.length,St _ ?_ ?_ ?_ ?_ ?_ ?_ jR⟩,?_⟩
 rw[bz _ _ Ib,bz _ _ Ib,bz _ _ ahn];exact yP
 intro c x I
 have qG:=qP c x I
 rw[bz _ _ (λe=>by grind),bz _ _ (λe=>by grind),bz _ _ (λe=>by grind)]
 exact qG
 rw[bz _ _ (e3 Zw),bz _ _ (e3 Zw),bh]
 rw[bh]
 exact qP.none avP
 exact qP.none auz
 intro v aB
 have cv:=FZ aB
 obtain⟨de,eP⟩:∃de,(least λn=>Hq T q lv.toNat (lK T.g q lv.toNat at') cZ cq n9 n v)=de:=⟨_,rfl⟩
 dsimp only
 rw[eP] at cv ⊢
 obtain⟨v0,z,i,met,Ah,L,aP,r7,j7,MO,auK,gF,Iy,ahW,uB,hi⟩:=cv
 have aJ7:=la i v0 aP
 obtain⟨s,awR,ajt,aJ2⟩:=MO.ex
 have axf:v0.le v:=(bX _ r7).trans ajt.le
 refine⟨s,aZ awR 0,aog s v _ ?_⟩
 have p0:=ajt.fk.len
 refine⟨λoi=>?_,λtn=>?_⟩
 have atb:0<L.length:=by omega
 refine aBV (akH (v0.ins cq z) n9) akI (V:=CX) MO auK atb (λc6 aq au=>aze c6 aq au) λaR Wv x ai0 ZM auL aiP=>?_
 obtain⟨y,o4,rfl⟩:∃y o4,Ah=y::o4:=by
  cases Ah with
  |nil=>simp_all|cons y l=>exact⟨y,l,rfl⟩
 have ir:x=y:=by
  have M:x∈y::o4:=(ZM.trans gF).mem_iff.1 (.head _);have aj:y∈x::Wv:=(ZM.trans gF).mem_iff.2 (.head _);have cB:bP x y=ao:=by
   cases M with
   |head=>exact Mz _|tail _ M=>exact(ix.1 Iy.sJ).1 x M
  have cW:bP y x=ao:=by grind
  exact Zo cW cB
 subst ir
 have awm:Wv.Perm o4:=(List.perm_cons x).1 (ZM.trans gF)
 have wc:=Iy.sub _ (Iy.wait x (.head _)).1
 have aaN:=(Iy.wait x (.head _)).2
 obtain⟨n,rfl⟩:∃n,de=n+1:=⟨de-1,by simp[due] at ahW;omega⟩
 have ahv:(lK T.g q lv.toNat at')[i]?=some x.1:=by
  have:((lK T.g q lv.toNat at').drop i)[0]?=some x.1:=by rw[uB];simp[vL]
  rw[Jx] at this;simpa using this
 have ahV:(lK T.g q lv.toNat at').drop (i+1)=vL (cV T.g q) (mh T.g lv.toNat) n ((mh T.g lv.toNat x.1).foldl (iU (cV T.g q)) (met,o4)).1 ((mh T.g lv.toNat x.1).foldl (iU (cV T.g q)) (met,o4)).2:=by rw[<-Gp,uB];simp[vL]
 have aI9:i<(lK T.g q lv.toNat at').length:=(hG.1 ahv).1
 refine amb ?_
 have axe:v0.le aR:=by obtain⟨_,_,jl,_⟩:=ai0.ex;exact(bX _ r7).trans jl.le
 refine(Z3 i x.1 v0 (λb b9=>(b=ai->cZ (i+1) b9)/\(b=ao->E b9)) ahv aP (λb9 gS=>⟨λ_=>gS,λe=>(by cases e)⟩) (λb9 gS=>⟨λe=>(by cases e),λ_=>gS⟩)).frame axe ?_|>(λW=>(by
  have e:Ml (cV T.g q x.1)=.agg #[.int .i64 x.1,.int .u64 (cQ x.2),.int .u64 (cS x.2)]:=by rw[<-aaN];rfl
  rw[e] at W;exact W))
 rintro c0 h5 aD5 e8 ⟨L2,xi⟩
 refine⟨λan=>⟨h5,e8.le,oe _ (xi (Bool.eq_false_iff.2 an))⟩,λaa=>?_⟩
 have rm:=L2 aa
 obtain⟨avU,Rp⟩:=ai0.HV r7 e8
 have SB:=la _ _ rm
 have aw6:h5.le aD5:=e8.le
 have ahr:=h.mono (SB.trans aw6)
 obtain⟨_,_,_,fc,_⟩:=k1 ahr
 refine⟨_,rfl,_,fc,vt ahr wc λnd b8 pP=>⟨_,rfl,by decide,⟨iG,dN⟩,?_⟩⟩
 obtain⟨dd,kV,ea,dJ,I,ac,_⟩:=xR pP (lv:=lv.toNat) (by omega)
 have vZ:mh T.g lv.toNat x.1=kV:=abE b8 dJ
 have kj:=ac.ints.len
 have vX:=ac.ints.max
 refine⟨dd,I,?_⟩
 rw[vZ] at ahV
 have Zm:∀y∈kV,y∈T.g.map (·.1):=λy aj=>Z.ck lv.toNat x.1 wc y (by rw[vZ];exact aj)
 have M9:ui (h5.ins cq z) cq met:=by obtain⟨es,K7,h1,h2⟩:=j7;rw[bh] at h1;exact⟨es,K7,by rw[bh];exact h1,h2⟩
 refine⟨λk w=>0<=k/\k<=kV.length/\∃(cn:Obj) (eo:J bN),ui (h5.ins cq cn) cq ((kV.take k.toNat).foldl (iU (cV T.g q)) (met,o4)).1/\rb (h5.ins cq cn) n9 w eo/\iJ bP eo.length eo/\
  eo.Perm ((kV.take k.toNat).foldl (iU (cV T.g q)) (met,o4)).2,λk _=>kV.length-k.toNat,⟨by omega,by omega,z,Wv,M9,avU,auL,awm⟩,?_⟩
 rintro k w ⟨iu,cB,cn,eo,Na,Se,Y8,MY⟩
 obtain⟨aKP,aJW,Z9,_⟩:=Se.ex
 have tu:h5.le w:=(bX _ Rp).trans Z9.le
 have lg:=SB.trans tu
 have MF:=Met.fold (cV T.g q) (ids:=T.g.map (·.1)) (uI T.g q) (l:=kV.take k.toNat) (Iy.tail _) λy aj=>Zm y (oW aj)
 refine⟨λbP=>?_,λhF=>?_⟩
 have hW:k.toNat<kV.length:=by omega
 have oS:nz ah ub x.1 nd:=h.node b8
 obtain⟨aKQ,aKk,aT,aN,_,dt,_⟩:=xR oS (lv:=lv.toNat) (by omega)
 rw[ea] at aT;cases aT
 rw[dJ] at aN;cases aN
 obtain⟨p,ad,l8⟩:=dt.ints.at iu bP
 refine⟨p,ad,⟨iu,bP⟩,_,oH lg l8,?_⟩
 have M:kV[k.toNat]?=some (kV.getD k.toNat 0):=by simp[hW]
 have Bh:=Zm _ (dz M)
 have ab:=adL (iU (cV T.g q)) kV M (met,o4)
 rw[show k.toNat+1=(k+1).toNat by omega] at ab
 refine acW GM (Na.mono Z9.le) ?_
 refine⟨λaa=>?_,λaa=>?_⟩
 have tn:kV.getD k.toNat 0∉((kV.take k.toNat).foldl (iU (cV T.g q)) (met,o4)).1:=by simpa using aa
 have jz:(kV.take (k+1).toNat).foldl (iU (cV T.g q)) (met,o4)=(((kV.take k.toNat).foldl (iU (cV T.g q)) (met,o4)).1++ [kV.getD k.toNat 0],p5 (cV T.g q (kV.getD k.toNat 0)) ((kV.take k.toNat).foldl (iU (cV T.g q)) (met,o4)).2):=by rw[ab,ayF tn]
 refine T8 GM (Na.mono Z9.le) tn λdF Z4 iQ _=>?_
 obtain⟨agl,afN,axl,CZ⟩:=Z4
 have ai1:=Se.TW Rp axl iQ
 obtain⟨_,_,awS,_⟩:=ai1.ex
 have ajJ:h5.le dF:=(bX _ Rp).trans awS.le
 refine Pb (h.mono (SB.trans ajJ)) Z Bh (ht.mono (SB.trans ajJ)) ?_
 have aiD:eo.length<=1000:=by rw[MY.length_eq];have:=pn MF.F6 (λy aj=>by obtain⟨W,aE,rfl⟩:=bQ.1 aj;exact MF.sub _ (MF.wait W aE).1);simp at this;omega
 refine amA (akH (h5.ins cq (.map agl afN)) n9) akI (x:=CX (cV T.g q (kV.getD k.toNat 0))) Y8 (λau=>azf ai1 (by omega) au) λhh apm avV awn auM=>⟨⟨by omega,by omega⟩,⟨by omega,by omega,_,apm,?_,avV,auM,?_⟩,by dsimp only;omega⟩
 rw[jz];exact⟨agl,afN,bh _ _ _,CZ⟩
 rw[jz]
 refine awn.trans ?_
 refine(mH _ _).trans ?_
 exact(j9 _ MY).trans (FM _ _).symm
 have ch:kV.getD k.toNat 0∈((kV.take k.toNat).foldl (iU (cV T.g q)) (met,o4)).1:=by simpa using aa
 have jz:(kV.take (k+1).toNat).foldl (iU (cV T.g q)) (met,o4)=(kV.take k.toNat).foldl (iU (cV T.g q)) (met,o4):=by rw[ab,ayG ch]
 exact⟨⟨by omega,by omega⟩,⟨by omega,by omega,cn,eo,by rw[jz];exact Na,Se,Y8,by rw[jz];exact MY⟩,by dsimp only;omega⟩
 have Zh:kV.take k.toNat=kV:=gC (by omega)
 rw[Zh] at Na MY MF
 have uE:Hq T q lv.toNat (lK T.g q lv.toNat at') cZ cq n9 n w:=by refine⟨h5,cn,i+1,_,_,eo,rm,Rp,Na,Se,Y8,MY,MF,?_,ahV,by omega⟩;have:=aq8 (cV T.g q) (uI T.g q) (l:=kV) (Iy.tail _) Zm;rw[hlen] at this;have e:((kV.foldl (iU (cV T.g q)) (met,o4)).1,(kV.foldl (iU (cV T.g q)) (met,o4)).2)=kV.foldl (iU (cV T.g q)) (met,o4):=rfl;rw[e,this];simp[due] at ahW ⊢;omega
 exact⟨⟨n,uE⟩,Nat.lt_succ_of_le (least_le uE)⟩
 have X5:L=[]:=qW (by omega)
 subst X5
 have atd:Ah=[]:=by simp_all
 subst atd
 have he:(lK T.g q lv.toNat at').drop i=[]:=by rw[uB];cases de<;>rfl
 have Zb:i=(lK T.g q lv.toNat at').length:=by have:=List.drop_eq_nil_iff.1 he;omega
 subst Zb
 exact⟨v0,axf,EN _ aP⟩
open Go.Sort Go.Shelf
theorem _root_.Go.Proofs.YtejdhbfjjgcljaaGreatDoor.sV.aDn{w w':ci}{z cn:Obj}(hw:Sub u w)(aa:u b=some z)(k:sV b cn w w'):Step u [] w (u.ins b cn) [] w':=by refine⟨λx y h=>?_,k.os,k.tape,k.output,k.drawn,JT k.size.symm,λx _ M _=>k.rest x (λe=>by grind),λx _ M=>?_,[],by simp,by simp⟩;unfold H.ins at h;split at h;rename_i e;rw[e];cases h;exact k.at_;rename_i e;rw[k.rest x e];exact hw _ _ h;rw[bz _ _ (λe=>by grind)];exact M
theorem aA5{g off:O}{cur:cA ap}{T:dC}(Z:u g=some (.cells cur T (0,0)))(ag:off+n<=cur.size){fq:dC}{K:H->Prop}(au:K (u.ins g (.cells (wr cur off (fz n (.int .i64 0))) T (0,0)))):
  c7 aH (qc #[30] fq #[.slice (some ⟨g,off,none⟩) n c]) [] u K:=by
 intro w hw
 obtain⟨ht,i,W,hi,aE,pg,xj,zg,xN⟩:=uu kK
 rcases TK n with rfl|oi
 refine⟨.tuple #[],w,u,by simp[qc,ia ht],⟨[],.nil,rfl,?_⟩,Step.refl hw⟩
 have e:u.ins g (.cells (wr cur off (fz 0 (.int .i64 0))) T (0,0))=u:=NC (by rw[Z];rfl)
 rw[e] at au
 exact au
 obtain⟨w',U,lj⟩:=adE (P:=aH) (b:=g) (off:=off) (T:=T) (fz n (.int .i64 0)) 0 cur w (hw _ _ Z) (by simp;omega) (λv aB=>by rw[List.eq_of_mem_replicate aB];rfl)
 have aB:∀w,(zeroValue 3).run aH w=.ok (.int .i64 0) w:=λ_=>by kernel_rfl
 have aaU:(wy (cN .i64 0).cells n).toList=fz n (.int .i64 0):=by
  simp[wy,Value.cells];apply acw;simp
  grind
 obtain⟨m,rfl⟩:∃m,n=m+1:=⟨n-1,by omega⟩
 refine⟨.tuple #[],w',_,by simp[qc,ia ht,aB,aaU,U],⟨[],.nil,rfl,au⟩,lj.aDn hw Z⟩
def WA(ub:H)(fv:ap)(p:o->ay):Prop:=∀x (v:H) (K:ay->H->Prop),ub.le v->K (p x) v->ua aH fv #[.int .i64 x] [.one .bool] v K
theorem aCn{fv:ap}{p:o->ay}(ae:Ints u s l)(ad:WA ub fv p)(cC:ub.le u)
  (au:∀i:O,i<l.length->(∀k,k<i->p (l.getD k 0)=ao)->p (l.getD i 0)=ai->K i u) (eP:(∀k,k<l.length->p (l.getD k 0)=ao)->K (-1) u):VE s fv u K:=by
 have ag:=ae.len
 have hm:=ae.max
 apply aF8
 refine⟨λ_ i v=>v=u/\0<=i/\i<=l.length/\∀k:O,k<i.toNat->p (l.getD k 0)=ao,λ_ i _=>l.length-i.toNat,⟨rfl,by omega,by omega,λk hk=>by simp at hk⟩,?_⟩
 rintro _ i v ⟨rfl,i0,i1,hk⟩
 refine⟨λey=>?_,λhF=>eP λk dk=>hk k (by omega)⟩
 obtain⟨q,aL,I⟩:=ae.at i0 ey
 refine⟨q,aL,⟨i0,ey⟩,_,I,ad _ _ _ cC ⟨λaa=>?_,λaa=>⟨⟨by omega,by omega⟩,⟨rfl,by omega,by omega,λk dk=>?_⟩,by dsimp only;omega⟩⟩⟩
 have:=au i.toNat (by omega) hk aa
 rw[show((i.toNat:O):o)=i by omega] at this
 exact this
 grind
theorem aCo{x:o}(ae:Ints u s l)(au:∀i:o,(0<=i↔x∈l)->K i u):VF s x u K:=by
 have ag:=ae.len;have hm:=ae.max;apply aGa;refine⟨λ_ i v=>v=u/\0<=i/\i<=l.length/\∀k:O,k<i.toNat->l.getD k 0≠x,λ_ i _=>l.length-i.toNat,⟨rfl,by omega,by omega,λk hk=>by simp at hk⟩,?_⟩;rintro _ i v ⟨rfl,i0,i1,hk⟩;refine⟨λey=>?_,λhF=>au _ ⟨λh=>by omega,λh=>?_⟩⟩;obtain⟨q,aL,I⟩:=ae.at i0 ey;have M:l[i.toNat]?=some (l.getD i.toNat 0):=by grind
 refine⟨q,aL,⟨i0,ey⟩,_,I,⟨λaa=>au i ⟨λ_=>by grind,λ_=>i0⟩,λaa=>⟨⟨by omega,by omega⟩,⟨rfl,by omega,by omega,λk dk=>?_⟩,by dsimp only;omega⟩⟩⟩
 grind
 exfalso;obtain⟨k,hW,rfl⟩:=pv.1 h;exact hk k (by omega) (by simp[hW])
def aCk{x:o}{K:ay->H->Prop}(ae:Ints u s l)(au:K (decide (x∈l)) u):VB s x u K:=by apply aF4;refine aCo ae λi hi=>?_;have:decide (0<=i)=decide (x∈l):=BD.2 hi;rw[<-this] at au;exact au
theorem _root_.Go.Proofs.YtejdhbfjjgcljaaGreatDoor.aD.clear{e:O}(h:aD ak u e 1 s (l.flatMap encI)){i:O}(hi:i<=s.n){fq:dC}{K:H->Prop}
  (au:∀(u':H) (bH:J o),aD ak u' e 1 s (bH.flatMap encI)->bH.take i=l.take i->bH.length=l.length->hc u u' s->K u'):c7 aH (qc #[30] fq #[.slice (s.part i s.n s.c 1).a (s.part i s.n s.c 1).n (s.part i s.n s.c 1).c]) [] u K:=by
 have dS:=h.ints.len
 rcases h.own.is with h0|⟨g,cur,az,Z,ag,I,ae,ht⟩
 subst h0
 have aq:l=[]:=qW dS.symm
 subst aq
 have E8:i=0:=by simpa using hi
 subst E8
 refine c7.pure [] (λw hw=>?_) .nil (au u [] h rfl rfl (hc.refl _ _))
 obtain⟨ht,_⟩:=uu kK
 simp[N.part,qc,ia ht]
 rfl
 rcases Nat.eq_or_lt_of_le hi with rfl|bP
 have e:(s.part s.n s.n s.c 1).n=0:=by simp[N.part]
 refine c7.pure [] (λw hw=>?_) .nil (au u l h rfl rfl (hc.refl _ _))
 obtain⟨ht,_⟩:=uu kK
 rw[e]
 cases(s.part s.n s.n s.c 1).a<;>simp[qc,ia ht]<;>rfl
 have tp:(s.part i s.n s.c 1).a=some ⟨g,i,none⟩:=by unfold N.part;simp only;rw[bF (by omega),az];simp[ib]
 rw[tp]
 have ZP:(s.part i s.n s.c 1).n=s.n-i:=rfl
 rw[ZP]
 have dm:i+(s.n-i)<=cur.size:=by rw[ae];omega
 refine aA5 Z dm ?_
 have Dd:=Hc cur i (fz (s.n-i) (.int .i64 0)) (by simpa using dm)
 simp only[Oy] at Dd
 refine au _ (l.take i++fz (s.n-i) 0) ⟨⟨by rw[oc j4];simp;omega,.inr ⟨g,_,az,bh _ _ _,ag,I,?_,?_⟩⟩,λb z aa=>?_,h.fresh⟩ ?_ ?_ ?_
 rw[<-zE,Dd];simp;omega
 rw[Dd,r3,en,List.map_replicate]
 have rz:cur.toList.take s.n=l.map λx=>.int .i64 x:=by rw[<-r3,<-ht,wz]
 have h1:cur.toList.take i=(l.take i).map λx=>.int .i64 x:=by rw[List.map_take,<-rz,aco,Oq (by omega)]
 rw[h1,ali (by simp;omega),gC (by simp;omega)]
 have:b≠g:=λe=>by
   have:=h.fresh g (by simp[N.al,az])
   grind
 rw[bz _ _ this];exact h.le b z aa
 grind
 simp;omega
 intro b z aa an
 rw[bz _ _ (λe=>an (by simp[N.al,az,e]))];exact aa
theorem aCl{fv:ap}{p:o->ay}{K:N->H->Prop}(ac:aD ak u 3 1 s (l.flatMap encI))(ad:WA ub fv p)(cC:ub.le u)(lx:∀b,s.al=some b->ub b=none)
  (au:∀ar u',aD ak u' 3 1 ar ((l.filter λx=>!p x).flatMap encI)->ar.al=s.al->hc u u' s->K ar u'):VC s fv u K:=by
 have dS:=ac.ints.len
 have tk:=ac.ints.max
 apply aF5
 refine aCn ac.ints ad cC (λi hi dR jD=>⟨λh=>by omega,λ_=>⟨⟨by omega,by omega⟩,?_⟩⟩) λdR=>⟨λ_=>?_,λh=>bf rfl h⟩
 have atW:(l.take i).filter (λx=>!p x)=l.take i:=by rw[qe];intro a az;obtain⟨k,hk,rfl⟩:=pv.1 az;simp only[iV] at hk;have:=dR k (by omega);rw[jX,dj (by omega)] at this;simp only[JP,Of] at this ⊢;rw[this];rfl
 have M:l[i]?=some (l.getD i 0):=by simp[hi]
 refine⟨λa j v=>0<=a/\a<j/\j<=l.length/\hc u v s/\∃m:J o,m.length=l.length/\aD ak v 3 1 s (m.flatMap encI)/\m.take a.toNat=(l.take j.toNat).filter (λx=>!p x)/\m.drop j.toNat=l.drop j.toNat,
  λ_ j _=>l.length-j.toNat,⟨by omega,by omega,by omega,hc.refl _ _,l,rfl,ac,?_,rfl⟩,?_⟩
 rw[show((i:o)+1).toNat=i+1 by omega,zL,fN,M]
 grind
 rintro a j v ⟨a0,cG,axY,eC,m,nf,oP,uW,L7⟩
 have aax:ub.le v:=λb z aa=>eC b z (cC b z aa) λe=>by grind
 refine⟨λkC=>?_,λhF=>?_⟩
 obtain⟨q,aL,I⟩:=oP.ints.at (x:=j) (by omega) kC
 have R0:m.getD j.toNat 0=l.getD j.toNat 0:=by
  have:=eI (λW=>W[0]?) L7;simp only[Jx,Nat.add_zero] at this
  grind
 have Mp:l[j.toNat]?=some (l.getD j.toNat 0):=by grind
 rw[R0] at I
 have Ba:(l.take (j.toNat+1)).filter (λx=>!p x)=m.take a.toNat++(if p (l.getD j.toNat 0)=ai then[] else[l.getD j.toNat 0]):=by
  rw[fN,Mp,uW];simp only[Option.toList_some,BB,Oz,List.filter_nil]
  grind
 have YL:∀qS:J o,(∀k,a.toNat<k->qS[k]?=m[k]?)->qS.drop (j+1).toNat=l.drop (j+1).toNat:=λqS pX=>by
  have e:l.drop (j+1).toNat=m.drop (j+1).toNat:=by rw[show(j+1).toNat=j.toNat+1 by omega,<-Gp,<-Gp,L7]
  rw[e];apply sr;intro k
  grind
 refine⟨q,aL,⟨by omega,kC⟩,_,I,ad _ _ _ aax ⟨λaa=>?_,λaa=>?_⟩⟩
 have ZN:p (l.getD j.toNat 0)=ao:=by simpa using aa
 rw[ZN] at Ba
 refine⟨q,aL,⟨by omega,by omega⟩,?_⟩
 refine aD.store (enc:=encI) j4 oP (by decide) (i:=a.toNat) (by omega) (y:=l.getD j.toNat 0) (s4 _) aL λcF dt jy _=>⟨⟨by omega,by omega⟩,⟨by omega,by omega⟩,⟨by omega,by omega,by omega,λb z aa an=>jy b z (eC b z aa an) an,_,by simpa using nf,dt,?_,?_⟩,by dsimp only;omega⟩
 rw[show(j+1).toNat=j.toNat+1 by omega,Ba,show(a+1).toNat=a.toNat+1 by omega,fN,DC (by omega),List.take_set_of_le (cw _)]
 simp
 grind
 rw[aa] at Ba
 refine⟨⟨by omega,by omega⟩,⟨by omega,by omega,by omega,eC,m,nf,oP,?_,YL m λ_ _=>rfl⟩,by dsimp only;omega⟩
 rw[show(j+1).toNat=j.toNat+1 by omega,Ba];simp
 have kC:j.toNat=l.length:=by omega
 have fQ:=bw.cap oP.own.cK
 rw[kC,pt] at uW
 refine kJ (P:=aH) kK (l:=a.toNat) (h:=s.n) (m:=s.c) (.inr (by grind)) (.inl ⟨rfl,rfl⟩) (.inl ⟨rfl,rfl⟩) (by omega) fQ (cw _) fQ ?_
 refine oP.clear (i:=a.toNat) (by omega) λcF m2 dt h1 h2 jy=>?_
 refine kJ (P:=aH) kK (l:=0) (h:=a.toNat) (m:=s.c) (.inl ⟨rfl,rfl⟩) (.inr (by grind)) (.inl ⟨rfl,rfl⟩) (by omega) (by omega) (cw _) fQ ?_
 obtain⟨ab,AQ,_⟩:=dt.front (m:=a.toNat) (by omega)
 have e:(m2.flatMap encI).take (a.toNat*1)=(l.filter λx=>!p x).flatMap encI:=by rw[yK j4,h1,uW]
 rw[e] at ab
 exact au _ _ ab AQ λb z aa an=>jy b z (eC b z aa an) an
 have e:l.filter (λx=>!p x)=l:=by rw[qe];intro a az;obtain⟨k,hk,rfl⟩:=pv.1 az;have:=dR k hk;rw[jX,dj hk] at this;simp only[Of] at this;rw[this];rfl
 exact au s u (by rw[e];exact ac) rfl (hc.refl _ _)
end
end eu
