/- Texts of mine, joined and packed by pack.py. -/
import Derived.Test.YtejdhbfjjgcljaaGreatDoorMrd11
import Derived.Shelf.Spec.TrailingZeros
import Derived.OpenShut
set_option linter.all false
open _root_ renaming List->J,Nat->O,Option->aA,Int->o,Bool->ay,absurd->bf,Inhabited->lF
open Go renaming Program->dL,Value->ap,Addr->a8,TypeId->dC,Code->iW
open Bool renaming true->ai,false->ao
open Go.Obj renaming cells->bt,deferred->vk
open Go.IntKind renaming signed->Gf,bits->Gg,u64->bu,min->Gy,max->Gz
open Go.Instr renaming mapUpdate->kW,buildSlice->dA,range->rL
open Go.Builtin renaming append_->dO
open Go.Proofs.Tryz renaming prog->aH
open Go.Value renaming bool->gZ,pointer->ha,oneCell'->cI
open Int renaming tdiv->ff
open List.Perm renaming cons->j9
open List.Pairwise renaming nil->mG
open Go.Addr renaming mk->cp
open Go.Exit renaming normal->sA
open List renaming replicate->fz,length->iY
open Prod renaming fst->vl,snd->wD
set_option maxRecDepth 100000
noncomputable section
namespace Go.Proofs.YtejdhbfjjgcljaaGreatDoor
open H
open _root_.Go.Proofs.Tryz
namespace eu
section
open Go.Sort Go.Shelf
def aB2{u:H}{b n0 n6 p:O}{T:aU}{q:J o}{sv:N}{x y:o}{K:o->H->Prop}(h:uj u b T)(Z:qv T.dim T.g)(M:x∈T.g.map (·.1))(aj:y∈T.g.map (·.1))(aL:sR u T.dim sv q)
  (bA:u.cell? ⟨n0,0,none⟩=some (.pointer (some ⟨b,0,none⟩))) (HD:u.cell? ⟨n6,0,none⟩=some (.pointer (some ⟨p,0,none⟩))) (afQ:u.cell? ⟨p,0,none⟩=some (.slice sv.a sv.n sv.c))
  (au:K (if bP (cV T.g q x) (cV T.g q y)=ai then -1 else 1) u):aes x y ⟨n0,0,none⟩ ⟨n6,0,none⟩ u K:=by
 apply aFa
 refine⟨_,bA,_,HD,_,rfl,sv,afQ,_,bA,_,HD,_,rfl,sv,afQ,ac9 h Z M aL ⟨H.le.refl u,ac9 h Z aj aL (Kg (a:=cV T.g q x) (b:=cV T.g q y) ⟨λaa=>?_,λaa=>?_⟩)⟩⟩
 rw[b3 aa] at au;exact au
 rw[bF (by rw[aa];simp)] at au;exact au
structure Wu(cm lv:o)(l:J o)(x:o)(bH:J o):Prop where
 sub:∀y∈bH,y∈l∨y=x
 nodup:(l++ [x]).Nodup->bH.Nodup
 len:(bH.length:o)<=wl cm lv
def abA{cm lv:o}(h:1<=cm/\cm<=16):1<=wl cm lv/\wl cm lv<=32:=by unfold wl;split<;>omega
theorem auZ(g:J (o×dp))(q:J o)(ids:J o):SWO (ltOf λx y:{i//i∈ids}=>if bP (cV g q x.1) (cV g q y.1)=ai then(-1:o) else 1) where
 irrefl x:=by unfold ltOf;simp[Mz]
 trans x y W h1 h2:=by
  unfold ltOf at*;simp only[TE] at*;have cB:bP (cV g q x.1) (cV g q y.1)=ai:=by grind
  have cW:bP (cV g q y.1) (cV g q W.1)=ai:=by grind
  rw[b3 (MA cB cW)];decide
 ntrans x y W h1 h2:=by
  unfold ltOf at*;simp only[TF] at*;have cB:bP (cV g q x.1) (cV g q y.1)=ao:=by grind
  have cW:bP (cV g q y.1) (cV g q W.1)=ao:=by grind
  rw[bF (by rw[C2 cW cB];simp)];decide
def _root_.Go.Proofs.YtejdhbfjjgcljaaGreatDoor.H.B0(u:H)(s:N):H:=λc=>open Classical in if s.al=some c then none else u c
theorem _root_.Go.Proofs.YtejdhbfjjgcljaaGreatDoor.H.aHX(u:H)(s:N):(u.B0 s).le u:=λc z h=>by
 unfold H.B0 at h
 grind
def _root_.Go.Proofs.YtejdhbfjjgcljaaGreatDoor.H.ad9{u:H}{s:N}{c:O}(h:s.al≠some c):u.B0 s c=u c:=bF h
theorem amJ{ak u:H}{ah:O->aA bB}{b:O}{T:aU}{a x lv:o}{n:dp}{l:J o}{K:H->Prop}(h:In ak u ah b T)(Z:qv T.dim T.g)(aq:1<=T.cm/\T.cm<=16)
  (ag:eS T.g a=some n) (M:x∈T.g.map (·.1)) (iG:0<=lv) (dN:lv<31) (kj:n.kn[lv.toNat]?=some l) (C1:l.length<=1000000)
  (au:∀u' aY ar bH,In ak u' aY b {T with g:=q4 T.g a (n.jY lv.toNat ar bH)}->gM u ah u' aY->Wu T.cm lv l x bH->K u'):PQ (some ⟨b,0,none⟩) a x lv u K:=by
 have az:a∈T.g.map (·.1):=bQ.2 ⟨_,iC ag,rfl⟩
 have eP:=h.aJ.node ag
 obtain⟨s,eZ,ea,dJ,I,ac,A8⟩:=xR eP (lv:=lv.toNat) (by omega)
 rw[kj] at dJ;cases dJ
 have aJu:=abA (lv:=lv) aq
 apply aE9
 intro n0 fJ
 have ot:=bX (u:=u) (b:=n0) (.cells #[.pointer (some ⟨b,0,none⟩)] 122 (0,0)) fJ
 obtain⟨_,_,_,fc,_⟩:=k1 (h.aJ.mono ot)
 refine⟨_,aZ (bh _ _ _) 0,_,rfl,_,fc,vt (h.aJ.mono ot) az λnd b8 _=>?_⟩
 rw[ag] at b8;cases b8
 intro n6 sg
 have avN:u n6=none:=ot.none sg
 have avF:n0≠n6:=λe=>by rw[<-e,bh] at sg;cases sg
 refine lZ (zs:=[.pointer none]) rfl (by simp[cI]) ?_
 obtain⟨jg,sl⟩:∃jg,(u.ins n0 (.cells #[.pointer (some ⟨b,0,none⟩)] 122 (0,0))).ins n6 (.cells [.pointer (some ⟨n.p,0,none⟩)].toArray 227 (0,0))=jg:=⟨_,rfl⟩
 rw[sl]
 have FY:u.le jg:=by rw[<-sl];exact ot.trans (bX _ sg)
 have fH:jg n0=some (.cells #[.pointer (some ⟨b,0,none⟩)] 122 (0,0)):=by rw[<-sl,bz _ _ avF,bh]
 have pK:jg n6=some (.cells #[.pointer (some ⟨n.p,0,none⟩)] 227 (0,0)):=by rw[<-sl,bh]
 refine⟨_,aZ pK 0,_,rfl,by decide,⟨iG,dN⟩,s,oH FY I,?_⟩
 have p0:=ac.ints.len
 have c6:∀c,s.al=some c->ah c≠none:=λc e=>by rw[A8 c e];simp
 have aab:s.al≠some n0:=λe=>h.known n0 (c6 _ e) fJ
 have aac:s.al≠some n6:=λe=>h.known n6 (c6 _ e) avN
 refine mn kK (yA x) (by decide) rfl (by simp[cI]) (ac.mono FY) (by omega) (by omega) λjt lI za aJw YM ahG iS=>?_
 have Mf:l.flatMap encI++ [.int .i64 x]=(l++ [x]).flatMap encI:=by simp[encI]
 rw[Mf] at za
 have NH:∀c z,u c=some z->s.al≠some c->lI c=some z:=λc z h1 h2=>YM c z (FY c z h1) h2
 have aft:∀c,jt.al=some c->s.al=some c∨u c=none:=λc e=>(ahG c e).imp id λh1=>FY.none h1
 have abC:∀c,ah c≠none->(∀i lv,ah c≠some (.arr i lv))->s.al≠some c:=λc _ h2 e=>h2 _ _ (A8 c e)
 have acz:uj lI b T:=h.aJ.TV λc z h1 h2 h3=>NH c z h1 (abC c h2 h3)
 have WQ:lI n0=some (.cells #[.pointer (some ⟨b,0,none⟩)] 122 (0,0)):=YM _ _ fH aab
 have WS:lI n6=some (.cells #[.pointer (some ⟨n.p,0,none⟩)] 227 (0,0)):=YM _ _ pK aac
 intro KS X4
 have join:∀(dg:N) (gL:H) (bH:J o),aD Cd gL 3 1 dg (bH.flatMap encI)->Wu T.cm lv l x bH->(∀c z,u c=some z->s.al≠some c->gL c=some z)->(∀c,dg.al=some c->s.al=some c∨u c=none)->
   gL n6=some (.cells #[.pointer (some ⟨n.p,0,none⟩)] 227 (0,0))->KS dg gL:=by
  intro dg gL bH h1 h2 h3 br bL
  refine X4 _ _ ⟨_,aZ bL 0,_,rfl,by decide,⟨iG,dN⟩,?_⟩
  unfold aG
  rw[Jl]
  have ry:s.al≠some n.p:=λe=>by have:=A8 _ e;rw[eP.tag] at this;cases this
  refine adz (h3 _ _ eP.cell ry) eP.u4 (by omega) bH ?_
  obtain⟨aY,gA,kP⟩:=h.level ag ea h1 h3 br
  exact au _ _ _ _ gA kP h2
 have aJm:jt.n=l.length+1:=by omega
 have aJO:sR lI T.dim n.sv n.v:=⟨(acz.nodes _ (iC ag)).2,(Z.vec _ (iC ag)).2,(Z.vec _ (iC ag)).1⟩
 have aIr:lI.cell? ⟨n.p,0,none⟩=some (.slice n.sv.a n.sv.n n.sv.c):=by have:=(acz.nodes _ (iC ag)).1;simp only at this;simp[H.cell?,this,jU]
 refine⟨_,aZ WQ 0,amK acz aq ⟨λR7=>?_,λhF=>?_⟩⟩
 have avb:∀y∈l++ [x],y∈T.g.map (·.1):=λy aj=>by
   rcases dT.1 aj with aj|aj;exact Z.ck lv.toNat a az y (by rw[abE ag kj];exact aj)
   grind
 obtain⟨L,cX⟩:∃L:J {i//i∈T.g.map (·.1)},L.map (·.1)=l++ [x]:=⟨(l++ [x]).attachWith _ avb,by simp⟩
 haveI:lF {i//i∈T.g.map (·.1)}:=⟨⟨x,M⟩⟩
 have oS:∀{c:O},s.al≠some c->(jg c≠none)->jt.al≠some c:=λh1 h2 e=>(ahG _ e).elim h1 h2
 have acA:uj (lI.B0 jt) b T:=h.aJ.TV λc z h1 h2 h3=>by have br:=abC c h2 h3;rw[H.ad9 (oS br (by rw[FY c z h1];simp))];exact NH c z h1 br
 have d0:(lI.B0 jt) n0=some (.cells #[.pointer (some ⟨b,0,none⟩)] 122 (0,0)):=by rw[H.ad9 (oS aab (by rw[fH];simp))];exact WQ
 have d6:(lI.B0 jt) n6=some (.cells #[.pointer (some ⟨n.p,0,none⟩)] 227 (0,0)):=by rw[H.ad9 (oS aac (by rw[pK];simp))];exact WS
 have aww:sR (lI.B0 jt) T.dim n.sv n.v:=⟨(acA.nodes _ (iC ag)).2,(Z.vec _ (iC ag)).2,(Z.vec _ (iC ag)).1⟩
 have aqV:(lI.B0 jt).cell? ⟨n.p,0,none⟩=some (.slice n.sv.a n.sv.n n.sv.c):=by have:=(acA.nodes _ (iC ag)).1;simp only at this;simp[H.cell?,this,jU]
 rw[<-cX] at za
 refine aCp (val:=λi:{i//i∈T.g.map (·.1)}=>i.1) (auZ T.g n.v (T.g.map (·.1))) (enters_of func176 (by kernel_rfl) rfl) (ub:=lI.B0 jt)
  (λy W v aB=>?_) (H.aHX _ _) (λc I=>b3 I) za ?_ λkL eo fL _ nK RJ=>?_
 exact aB2 (K:=λfA cF=>fA=(if bP (cV T.g n.v y.1) (cV T.g n.v W.1)=ai then -1 else 1)/\cF=v) (acA.mono aB) Z y.2 W.2 (aww.mono aB) (oH aB (aZ d0 0)) (oH aB (aZ d6 0)) (oH aB aqV) ⟨rfl,rfl⟩
 have:=eI iY cX
 simp at this;omega
 have aAs:uj kL b T:=h.aJ.TV λc z h1 h2 h3=>by have br:=abC c h2 h3;exact RJ c z (NH c z h1 br) (oS br (by rw[FY c z h1];simp))
 have aqr:=RJ _ _ WQ (oS aab (by rw[fH];simp))
 have aqx:=RJ _ _ WS (oS aac (by rw[pK];simp))
 have fQ:=bw.cap nK.own.cK
 refine⟨_,aZ aqr 0,amK aAs aq ?_⟩
 refine kJ (P:=aH) kK (l:=0) (h:=(wl T.cm lv).toNat) (m:=jt.c) (.inl ⟨rfl,rfl⟩) (.inr (by grind)) (.inl ⟨rfl,rfl⟩) (by omega) (by omega) (cw _) fQ ?_
 obtain⟨ab,AQ,_⟩:=nK.front (m:=(wl T.cm lv).toNat) (by omega)
 rw[yK j4] at ab
 refine join _ _ _ ab ⟨λy aj=>?_,λb8=>?_,?_⟩ (λc z h1 h2=>RJ c z (NH c z h1 h2) (oS h2 (by rw[FY c z h1];simp))) (λc e=>aft c (by rw[<-AQ];exact e)) aqx
 grind
 grind
 simp;omega
 refine join jt lI (l++ [x]) za ⟨λy aj=>by simpa using aj,λh=>h,?_⟩ NH aft WS
 simp;omega
end
section
variable{u ak u':H}{g b5:J (o×dp)}{b c n0:O}{l:J (o×ap)}{n:dp}{i a:o}{D bH:J o}{K:N->H->Prop}
def fw(g:J (o×dp)):J (o×J o):=g.map λx=>(x.1,x.2.v)
structure Alike(g b5:J (o×dp)):Prop where
 ids:b5.map (·.1)=g.map (·.1)
 at':∀i n,eS g i=some n->∃n',eS b5 i=some n'/\n'.p=n.p/\n'.v=n.v/\n'.top=n.top
def Alike.refl(g:J (o×dp)):Alike g g:=⟨rfl,λ_ n h=>⟨n,h,rfl,rfl,rfl⟩⟩
theorem Alike.trans{agI:J (o×dp)}(h:Alike g b5)(k:Alike b5 agI):Alike g agI:=
 ⟨k.ids.trans h.ids,λi n ag=>by
  obtain⟨n',h1,h2,h3,br⟩:=h.at' i n ag;obtain⟨aKp,cB,cW,nP,akg⟩:=k.at' i n' h1
  grind⟩
theorem Alike.jY(ag:eS g a=some n)(lv:O)(s:N)(l:J o):Alike g (q4 g a (n.jY lv s l)):=
 ⟨aBf _ _ _,λi m hm=>by
  rw[Ly];by_cases e:i=a;subst e;rw[b3 rfl,hm];rw[ag] at hm;cases hm;exact⟨_,rfl,rfl,rfl,rfl⟩
  grind⟩
theorem Alike.map{β:Type}(h:Alike g b5)(b8:(g.map (·.1)).Nodup)(f:o×dp->β)(ab:∀i n n',n'.p=n.p->n'.v=n.v->n'.top=n.top->f (i,n')=f (i,n)):b5.map f=g.map f:=by
 have hlen:b5.length=g.length:=by have:=eI iY h.ids;simpa using this
 apply acw (by simp[hlen]);intro k h1 h2;simp only[eb] at h1 h2;simp only[DD];have cy:(b5[k]).1=(g[k]).1:=by have:=eI (λl=>l[k]?) h.ids;simpa[h1,h2] using this
 have Z:=AE b8 (id:=(g[k]).1) (n:=(g[k]).2) (ln h2);obtain⟨n',aT,aN,dG,gz⟩:=h.at' _ _ Z;have xx:(b5.map (·.1)).Nodup:=by rw[h.ids];exact b8
 have cu:=AE xx (id:=(b5[k]).1) (n:=(b5[k]).2) (ln h1);rw[cy,aT] at cu;have gI:(b5[k]).2=n':=(eh cu).symm
 grind
def Alike.rows(h:Alike g b5)(b8:(g.map (·.1)).Nodup):fw b5=fw g:=h.map b8 _ λ_ _ _ _ h2 _=>by rw[h2]
def Alike.jG(h:Alike g b5)(b8:(g.map (·.1)).Nodup):jG b5=jG g:=h.map b8 _ λ_ _ _ h1 _ _=>by rw[h1]
structure qw(dim cm:o)(g:J (o×dp)):Prop where
 ok:qv dim g
 many:∀i n (lv:O) l,eS g i=some n->n.kn[lv]?=some l->(l.length:o)<=wl cm lv/\l.Nodup/\i∉l
theorem qv.alike{dim:o}(h:qv dim g)(az:Alike g b5)(b8:(g.map (·.1)).Nodup)(hk:∀i n l,eS b5 i=some n->l∈n.kn->∀x∈l,x∈g.map (·.1)):qv dim b5:=by
 have xx:(b5.map (·.1)).Nodup:=by rw[az.ids];exact b8
 have ow:∀x∈b5,∃n,eS g x.1=some n/\x.2.v=n.v/\x.2.top=n.top:=λx M=>by
  have cy:x.1∈g.map (·.1):=by rw[<-az.ids];exact bQ.2 ⟨x,M,rfl⟩
  obtain⟨n,ag⟩:=yM cy;obtain⟨n',aT,_,dG,gz⟩:=az.at' _ _ ag;have:=AE xx (id:=x.1) (n:=x.2) M
  grind
 refine⟨h.hP,λx M=>?_,λx M=>?_,λx M l aq i hi=>?_,λx M=>?_,?_⟩;obtain⟨n,ag,aT,_⟩:=ow x M;have:=h.vec _ (iC ag);rw[aT];exact this;obtain⟨n,ag,_,aN⟩:=ow x M;have:=h.top _ (iC ag);rw[aN];exact this;rw[az.ids];exact hk x.1 x.2 l (AE xx M) aq i hi;obtain⟨n,ag,_⟩:=ow x M;exact h.ids (x.1,n) (iC ag);have:=eI iY az.ids;simp only[eb] at this;rw[this];exact h.small
theorem O0{lv:O}{s:N}{l eZ:J o}{xU:O}(h:(n.jY lv s l).kn[xU]?=some eZ):(xU=lv/\eZ=l)∨(xU≠lv/\n.kn[xU]?=some eZ):=by
 unfold dp.jY at h
 grind
theorem qw.jY{dim cm:o}(h:qw dim cm g)(b8:(g.map (·.1)).Nodup)(ag:eS g a=some n){lv:O}(s:N)(h1:∀x∈bH,x∈g.map (·.1))(h2:(bH.length:o)<=wl cm lv)(h3:bH.Nodup)(br:a∉bH):
  qw dim cm (q4 g a (n.jY lv s bH)):=by
 have uG:∀i m,eS (q4 g a (n.jY lv s bH)) i=some m->(i=a/\m=n.jY lv s bH)∨(i≠a/\eS g i=some m):=λi m hm=>by
  rw[Ly] at hm
  grind
 refine⟨h.ok.alike (Alike.jY ag lv s bH) b8 λi m l hm aq x M=>?_,λi m xU l hm aq=>?_⟩
 rcases uG i m hm with⟨rfl,rfl⟩|⟨_,hm⟩
 obtain⟨k,hk⟩:=TS.1 aq
 rcases O0 hk with⟨_,rfl⟩|⟨_,hk⟩
 exact h1 x M
 exact h.ok.known _ (iC ag) l (dz hk) x M
 exact h.ok.known _ (iC hm) l aq x M
 rcases uG i m hm with⟨rfl,rfl⟩|⟨_,hm⟩
 rcases O0 aq with⟨rfl,rfl⟩|⟨_,hk⟩
 exact⟨h2,h3,br⟩
 exact h.many _ _ _ _ ag hk
 exact h.many _ _ _ _ hm aq
theorem qw.akj{dim cm:o}(h:qw dim cm g)(b8:(g.map (·.1)).Nodup){x lv:o}(ag:eS g a=some n)(iG:0<=lv)(s:N){l:J o}(aq:n.kn[lv.toNat]?=some l)(hk:Wu cm lv l x bH)
  (M:x∈g.map (·.1)) (Bg:x≠a) (eY:x∉l):qw dim cm (q4 g a (n.jY lv.toNat s bH)):=by
 obtain⟨m1,m2,m3⟩:=h.many a n _ l ag aq
 refine h.jY b8 ag s (λy aj=>?_) (by rw[JX iG];exact hk.len) (hk.nodup ?_) λhm=>?_
 rcases hk.sub y aj with aj|rfl
 exact h.ok.known _ (iC ag) l (dz aq) y aj
 exact M
 grind
 rcases hk.sub a hm with bL|bL
 exact m3 bL
 exact Bg bL.symm
structure dX(T:aU):Prop where
 k:qw T.dim T.cm T.g
 cm:1<=T.cm/\T.cm<=16
 entry:(T.g=[]/\T.entry=0)∨T.entry∈T.g.map (·.1)
def In.same{ah:O->aA bB}{T:aU}(h:In ak u ah b T)(hu:∀c z,u c=some z->ah c≠none->u' c=some z)(hle:ak.le u'):In ak u' ah b T:=
 ⟨h.aJ.bO (λ_ _=>rfl) hu,hle,h.out,λc I=>by obtain⟨z,ac⟩:=fp.1 (h.known c I);rw[hu c z ac I];simp⟩
theorem In.aside{ah:O->aA bB}{T:aU}(h:In ak u ah b T)(ab:ah c=none)(h0:ak c=none)(z:Obj):In ak (u.ins c z) ah b T:=
 h.same (λx y M YZ=>by rw[bz _ _ (λe=>by grind)];exact M) λx y M=>by rw[bz _ _ (λe=>by grind)];exact h.le x y M
def In.fresh{ah:O->aA bB}{T:aU}(h:In ak u ah b T)(I:u c=none):ah c=none:=by
 cases e:ah c with
 |none=>rfl|some t=>exact bf I (h.known c (by rw[e];simp))
theorem gM.none{ah aY:O->aA bB}(h:gM u ah u' aY){z:Obj}(I:u c=some z)(ab:ah c=none):aY c=none:=by
 cases e:aY c with
 |none=>rfl|some t=>
  rcases h.grow c (by rw[e];simp) with h1|h1;exact bf ab h1
  grind
abbrev OX:iW:=J0 (Tryz.f304.body.getD Go.Code.skip)
def aBc:OX=.rangeFunc (.tmp 6) #[7] (zN OX) (zO OX):=by kernel_rfl
def Cy(x:o):ap:=.int .i64 x
def aBd(n0:O)(y:o)(v:H)(cZ:H->Prop)(env:J (O×ap))(he:(2,ha (some ⟨n0,0,none⟩))∈env)
  (h:sA=sA/\([]:J (J ap))=[]/\∃s:N,v.cell? ⟨n0,0,none⟩=some (.slice s.a s.n s.c)/\
     c7 aH (dA 30 1 #[(0,.int .i64 y)]) [.one .slice] v λ(s1:N) il=>
      c7 aH (dO #[30,30] 30 #[.slice s.a s.n s.c,.slice s1.a s1.n s1.c]) [.one .slice] il λ(s2:N) nt=>
       H.aM nt ⟨n0,0,none⟩ [.slice s2.a s2.n s2.c] λgq=>sA=sA/\cZ gq):
  Cj aH 13 (zN OX) (zO OX) env 7 (Cy y) v cZ:=
 Cj.of (C:={P:=aH,exp:=[2],wrap:=ao,io:=io}) (od _ _) (by kernel_rfl) (by kernel_rfl) [(7,.v (Cy y)),(2,.ptr ⟨n0,0,none⟩)] (by intro p ad;rcases dM.1 ad with rfl|ad;exact⟨_,rfl,.inl ⟨rfl,rfl⟩⟩;rcases dM.1 ad with rfl|ad;exact⟨_,rfl,.inr ⟨show(2:O)≠7 by decide,he⟩⟩;cases ad) (Eq.mp (by kernel_rfl) h)
def Hr(l:J (o×ap))(dl:J (o×ap))(x:o)(af1:J (o×ap)):Prop:=∃v,(x,v)∈l/\x∉dl.map (·.1)/\af1=dl++ [(x,v)]
def collected{dl:J (o×ap)}(h:dl.Perm l):cR (dl.map (·.1))=cR (l.map (·.1)):=O9 (h.map _)
theorem aCi{fv:ap}(aq:l.length<=1000000)(b8:(l.map (·.1)).Nodup)(fs:∀ak,u.le ak->KR aH fv Cy (Hr l) [] (λdl=>dl.Perm l) ak)
  (au:∀(s:N) (dl:J (o×ap)) (u':H),dl.Perm l->aD u u' 3 1 s ((dl.map (·.1)).flatMap encI)->K s u'):Vz fv u K:=by
 apply aF2
 apply aFY
 intro n0 fJ
 have hle:=bX (u:=u) (b:=n0) (.cells #[.slice none 0 0] 30 (0,0)) fJ
 refine nB.code aBc (nB.axR (σ:=J (o×ap)) (t:=6) (enc:=Cy) (fv:=fv) (Nx:=Hr l) (s0:=[]) (En:=λdl=>dl.Perm l) hle WU (by simp) (by decide) fs
  (λdl w=>(dl.map (·.1)).Nodup/\(∀p∈dl,p∈l)/\∃s0:N,w n0=some (.cells #[.slice s0.a s0.n s0.c] 30 (0,0))/\aD u w 3 1 s0 ((dl.map (·.1)).flatMap encI)/\s0.al≠some n0)
  ⟨TR,λp ad=>(by cases ad),⟨none,0,0⟩,bh _ _ _,aD.nil hle _ _,by simp[N.al]⟩ (λi v ⟨_,_,_,_,ac,_⟩=>ac.le) ?_ ?_)
 rintro dl y af1 v ⟨W,aE,aJJ,rfl⟩ ⟨uA,CS,s0,EW,kk,Zx⟩
 refine aBd n0 y v _ _ (by simp) ⟨rfl,rfl,s0,aZ EW 0,?_⟩
 have avE:=kk.ints.len
 have CT:dl.length<=l.length:=by
  have h1:(dl.map (·.1)).Nodup:=uA;have h2:∀i∈dl.map (·.1),i∈l.map (·.1):=λi hi=>by
   grind
  have:=pn h1 h2;simpa using this
 simp only[eb] at avE
 refine mn kK (yA y) (by decide) rfl (by simp[cI]) kk (by omega) (by omega) λs2 nt dt fK eC fC _=>GV (eC _ _ EW Zx) rfl ⟨rfl,?_,?_,s2,bh _ _ _,?_,?_⟩
 rw[en]
 grind
 grind
 have y9:s2.al≠some n0:=λe=>by
   grind
 have:=dt.xO fJ y9 (.cells #[.slice s2.a s2.n s2.c] 30 (0,0))
 rw[en,hb]
 exact this
 grind
 rintro dl v D pS ⟨uA,CS,s0,EW,kk,Zx⟩ fe
 have xu:=bX (u:=v) (b:=D) (vk (some [])) fe
 have jl:=kk.mono xu
 have j6:=xu _ _ EW
 refine⟨s0,aZ j6 0,bh _ _ _,au _ dl _ pS ?_⟩
 refine jl.xO (kk.le.none fe) (λe=>?_) _
 have:=dH kk e
 exact this fe
def adj{fv:ap}(aq:l.length<=1000000)(b8:(l.map (·.1)).Nodup)(fs:∀ak,u.le ak->KR aH fv Cy (Hr l) [] (λdl=>dl.Perm l) ak)
  (au:∀s u',aD u u' 3 1 s ((cR (l.map (·.1))).flatMap encI)->K s u'):vy fv u K:=by
 apply aGc
 refine aCi aq b8 fs λs dl aR ad ac=>?_
 have hlen:=ad.length_eq
 refine GQ ac (by simp;omega) λcF dt _=>au _ _ ?_
 rw[collected ad] at dt
 exact dt
def apQ:hy aH 302=ai:=by kernel_rfl
def apP:hy aH 303=ai:=by kernel_rfl
structure apk(cZ:J (o×ap)->H->Prop)(l:J (o×ap))(r b:O)(dl:J (o×ap))(w:H):Prop where
 ex:∃v0,cZ dl v0/\v0 r=none/\v0.le w/\nx w r b l dl
def aa0{w:H}{r:O}{dl:J (o×ap)}(h:nx w r b l dl):dl.length<=l.length:=by
 have h2:∀i∈dl.map (·.1),i∈l.map (·.1):=λi hi=>by obtain⟨p,ad,rfl⟩:=bQ.1 hi;exact bQ.2 ⟨p,h.sub p ad,rfl⟩
 have:=pn h.Cw h2;simpa using this
theorem abe{P:dL}{v:H}{mO:ap}{t k e:dC}{W:ap}(T:Cf P t k e W)(h:fE u b l)
  (cZ:J (o×ap)->H->Prop) (la:∀s v,cZ s v->u.le v)
  (aj:∀s y ar v (K:ay->H->Prop),Hr l s y ar->cZ s v->(∀b9,cZ ar b9->K ai b9)->Ae P mO #[Cy y] [.one .bool] v K) (h0:cZ [] v) {K:H->Prop} (au:∀s b9,s.Perm l->cZ s b9->K b9):
  c7 P (rL t (.map (some b))) [.one .ptr] v λ(gU:aA a8) (cF:H)=>∃Wo:H->Prop,∃ae0:H->O,Wo cF/\∀gq,Wo gq->w1 P (.pointer gU) gq (λq8=>∃jv,jv.le q8/\K jv)
   (λ_ _ o0=>wZ P (.pointer gU) o0 λv10 _ gK=>sT (.int .i64) v10 λ(aH6:o)=>ua P mO #[.int .i64 aH6] [.one .bool] gK λ(afk:ay) (z1:H)=>
    ((¬(afk=ai))->∃jv,jv.le z1/\K jv)/\(afk=ai->Wo z1/\ae0 z1<ae0 gq)):=by
 refine J8 T (h.mono (la _ _ h0)) λr z U xp=>?_
 obtain⟨tG,MV⟩:∃tG,u b=some tG:=by obtain⟨es,c,aa,_⟩:=h;exact⟨_,aa⟩
 let de:O->H->Prop:=λn w=>∃dl,apk cZ l r b dl w/\l.length-dl.length<=n
 refine⟨λw=>∃n,de n w,λw=>least λn=>de n w,⟨_,[],⟨v,h0,U,bX _ U,xp⟩,cw _⟩,?_⟩
 intro w hw
 have cv:=FZ hw
 obtain⟨n,ag⟩:∃n,(least λn=>de n w)=n:=⟨_,rfl⟩
 dsimp only
 rw[ag] at cv ⊢
 obtain⟨dl,⟨v0,aP,oj,hle,fs⟩,hlen⟩:=cv
 refine Jj fs (λad=>⟨v0,hle,au _ _ ad aP⟩) λp z ad AZ pU=>?_
 refine HR pU ?_
 have lj:∃x,w r=some x:=by obtain⟨es,c,seen,_,_,h3,_⟩:=fs;exact⟨_,h3⟩
 have xu:v0.le (w.ins r z):=λc x I=>by rw[bz _ _ (λe=>by grind)];exact hle c x I
 show ua P mO #[.int .i64 p.1] [.one .bool] (w.ins r z) _
 refine .inr ((aj dl p.1 (dl++ [p]) v0 (λb b9=>b=ai/\cZ (dl++ [p]) b9) ⟨p.2,ad,AZ,rfl⟩ aP λb9 gS=>⟨rfl,gS⟩).frame xu ?_)
 rintro c0 h5 w' e8 ⟨rfl,rm⟩
 refine⟨λan=>bf rfl an,λ_=>?_⟩
 obtain⟨awy,cU⟩:=e8.out r z oj (bh _ _ _)
 have j6:∀x,(w.ins r z) b=some x->w' b=some x:=λx M=>by have aT:=xu b tG (la _ _ aP b tG MV);rw[aT] at M;cases M;exact e8.le b tG (la _ _ rm b tG MV)
 have Fa:nx w' r b l (dl++ [p]):=pU.else j6 λx M=>by rw[bh] at M;cases M;exact cU
 have Fg:=aa0 Fa
 simp only[gG,x9] at Fg
 have eP:de (n-1) w':=⟨dl++ [p],⟨h5,rm,awy,e8.le,Fa⟩,by simp only[gG,x9];omega⟩
 refine⟨⟨_,eP⟩,?_⟩
 have:=least_le (P:=λn=>de n w') eP
 omega
def ax5(T:Cf aH 166 3 4 (.bool ao))(h:fE u b l)(I:u.cell? ⟨n0,0,none⟩=some (.map (some b))):
  KR aH (.func (.func 303) #[] #[.pointer (some ⟨n0,0,none⟩)]) Cy (Hr l) [] (λdl=>dl.Perm l) u:=by
 intro mO cZ la aj v K h0 au
 refine⟨_,_,_,rfl,hs apP,hD.weaken (ss:=[]) ?_⟩
 exact aFM mO ⟨n0,0,none⟩ v _ ⟨_,oH (la _ _ h0) I,abe T h cZ la aj h0 au⟩
def ax6(T:Cf aH 182 3 227 (.pointer none))(h:fE u b l)(I:u.cell? ⟨n0,0,none⟩=some (.map (some b))):
  KR aH (.func (.func 302) #[] #[.pointer (some ⟨n0,0,none⟩)]) Cy (Hr l) [] (λdl=>dl.Perm l) u:=by
 intro mO cZ la aj v K h0 au
 refine⟨_,_,_,rfl,hs apQ,hD.weaken (ss:=[]) ?_⟩
 exact aFJ mO ⟨n0,0,none⟩ v _ ⟨_,oH (la _ _ h0) I,abe T h cZ la aj h0 au⟩
def K4:Cf aH 166 3 4 (.bool ao):=⟨by kernel_rfl,by kernel_rfl,λ_=>by kernel_rfl⟩
def Ev(id:o)(l:J o):J o:=l.filter λx=>!decide (x=id)
structure nw(id:o)(g b5:J (o×dp))(D:J o)(i:o)(j:O):Prop where
 bV:Alike g b5
 kn:∀a n n',eS g a=some n->eS b5 a=some n'->∀(lv:O) bH,n'.kn[lv]?=some bH->∃l,n.kn[lv]?=some l/\bH=if a∈D∨(a=i/\lv<j) then Ev id l else l
theorem nw.refl(id:o)(g:J (o×dp))(i:o):nw id g g [] i 0:=
 ⟨Alike.refl g,λa n n' h bZ lv bH aq=>by
  grind⟩
theorem nw.step{id:o}{j:O}(h:nw id g b5 D i j)(hi:i∉D){n':dp}(ag:eS b5 i=some n')(aq:n'.kn[j]?=some bH)(s:N):
  nw id g (q4 b5 i (n'.jY j s (Ev id bH))) D i (j+1):=by
 refine⟨h.bV.trans (Alike.jY ag j s _),λa n m Z hm lv eZ iR=>?_⟩
 rw[Ly] at hm
 by_cases e:a=i
 subst e
 rw[b3 rfl,ag] at hm;cases hm
 rcases O0 iR with⟨rfl,rfl⟩|⟨an,hk⟩
 obtain⟨l,cB,cW⟩:=h.kn a n n' Z ag lv bH aq
 grind
 obtain⟨l,cB,cW⟩:=h.kn a n n' Z ag lv eZ hk
 grind
 rw[bF e] at hm
 obtain⟨l,cB,cW⟩:=h.kn a n m Z hm lv eZ iR
 grind
theorem nw.next{id:o}(h:nw id g b5 D i 31)(hlen:∀n',eS b5 i=some n'->n'.kn.length=31)(mc:o):nw id g b5 (D++ [i]) mc 0:=
 ⟨h.bV,λa n n' Z cu lv bH aq=>by
  obtain⟨l,cB,cW⟩:=h.kn a n n' Z cu lv bH aq
  grind⟩
theorem nw.eJ{id:o}(h:nw id g b5 D i 0)(mc:o):nw id g b5 D mc 0:=
 ⟨h.bV,λa n n' Z cu lv bH aq=>by
  obtain⟨l,cB,cW⟩:=h.kn a n n' Z cu lv bH aq
  grind⟩
theorem Q9{id:o}(i:o):eS (g.filter λx=>x.1 !=id) i=if i=id then none else eS g i:=by
 induction g with
 |nil=>simp[eS]|cons x g aW=>
  unfold eS at*
  grind
theorem Xt{id:o}:i∈(g.filter λx=>x.1 !=id).map (·.1)↔i∈g.map (·.1)/\i≠id:=by
 simp_all
def az2(g:J (o×dp))(id:o):(jG g).filter (λp=>p.1 !=id)=jG (g.filter λx=>x.1 !=id):=by unfold jG;rw[sB];rfl
theorem nw.ok{id dim cm:o}(au:qw dim cm g)(b8:(g.map (·.1)).Nodup)(h:nw id (g.filter λx=>x.1 !=id) b5 D i 0)(fe:∀a∈(g.filter λx=>x.1 !=id).map (·.1),a∈D):qw dim cm b5:=by
 have IA:((g.filter λx=>x.1 !=id).map (·.1)).Nodup:=b8.sublist (JW.map _);have hV:qv dim (g.filter λx=>x.1 !=id)->qv dim b5:=λZ=>Z.alike h.bV IA λa n' bH hY xr x M=>by
  have az:a∈(g.filter λx=>x.1 !=id).map (·.1):=by rw[<-h.bV.ids];exact bQ.2 ⟨_,iC hY,rfl⟩
  obtain⟨n,ag⟩:=yM az;obtain⟨k,hk⟩:=TS.1 xr;obtain⟨l,cB,cW⟩:=h.kn a n n' ag hY k bH hk;rw[b3 (.inl (fe a az))] at cW;rw[cW] at M;simp only[Ev,kZ,Tw,TF] at M;rw[Q9] at ag;split at ag;cases ag;exact Xt.2 ⟨au.ok.known _ (iC ag) l (dz cB) x M.1,M.2⟩
 have many:∀a n' (lv:O) bH,eS b5 a=some n'->n'.kn[lv]?=some bH->(bH.length:o)<=wl cm lv/\bH.Nodup/\a∉bH:=by
  intro a n' lv bH hY xr;have az:a∈(g.filter λx=>x.1 !=id).map (·.1):=by rw[<-h.bV.ids];exact bQ.2 ⟨_,iC hY,rfl⟩
  obtain⟨n,ag⟩:=yM az;obtain⟨l,cB,cW⟩:=h.kn a n n' ag hY lv bH xr;rw[b3 (.inl (fe a az))] at cW;rw[Q9] at ag;split at ag;cases ag;obtain⟨m1,m2,m3⟩:=au.many a n lv l ag cB;rw[cW];refine⟨?_,m2.sublist JW,λhm=>m3 (kZ.1 hm).1⟩;have:=DE (λx=>!decide (x=id)) l;unfold Ev;omega
 refine⟨?_,many⟩;have ow:∀x∈b5,∃n,eS g x.1=some n/\x.2.v=n.v/\x.2.top=n.top/\x.1≠id:=λx M=>by
  have cy:x.1∈(g.filter λx=>x.1 !=id).map (·.1):=by rw[<-h.bV.ids];exact bQ.2 ⟨x,M,rfl⟩
  obtain⟨n,ag⟩:=yM cy;obtain⟨n',aT,_,dG,gz⟩:=h.bV.at' _ _ ag;have xx:(b5.map (·.1)).Nodup:=by rw[h.bV.ids];exact IA
  have:=AE xx (id:=x.1) (n:=x.2) M;rw[aT] at this;cases this;rw[Q9] at ag
  grind
 have hlen:b5.length<=g.length:=by have:=eI iY h.bV.ids;simp only[eb] at this;rw[this];exact DE _ _
 refine⟨au.ok.hP,λx M=>?_,λx M=>?_,λx M bH xr y aj=>?_,λx M=>?_,jW hlen au.ok.small⟩;obtain⟨n,ag,aT,_⟩:=ow x M;have:=au.ok.vec _ (iC ag);rw[aT];exact this;obtain⟨n,ag,_,aN,_⟩:=ow x M;have:=au.ok.top _ (iC ag);rw[aN];exact this;rw[h.bV.ids];have xx:(b5.map (·.1)).Nodup:=by rw[h.bV.ids];exact IA
 have hY:=AE xx (id:=x.1) (n:=x.2) M;have az:x.1∈(g.filter λx=>x.1 !=id).map (·.1):=by rw[<-h.bV.ids];exact bQ.2 ⟨x,M,rfl⟩
 obtain⟨n,ag⟩:=yM az;obtain⟨k,hk⟩:=TS.1 xr;obtain⟨l,cB,cW⟩:=h.kn x.1 n x.2 ag hY k bH hk;rw[b3 (.inl (fe x.1 az))] at cW;rw[cW] at aj;simp only[Ev,kZ,Tw,TF] at aj;rw[Q9] at ag;split at ag;cases ag;exact Xt.2 ⟨au.ok.known _ (iC ag) l (dz cB) y aj.1,aj.2⟩;obtain⟨n,ag,_⟩:=ow x M;exact au.ok.ids (x.1,n) (iC ag)
theorem In.remove{ah:O->aA bB}{T:aU}(h:In ak u ah b T){id:o}{z:Obj}(hm:fE (u.ins T.m z) T.m ((jG T.g).filter λp=>p.1 !=id))(ag:eS T.g id=some n):
  ∃c5,In ak (u.ins T.m z) c5 b {T with g:=T.g.filter λx=>x.1 !=id}/\gM u ah (u.ins T.m z) c5/\(∀c,oE ah id c->c5 c=none)/\nz ah (u.ins T.m z) id n:=by
 rw[az2] at hm
 obtain⟨h1,h2⟩:=h.ami hm λx M=>h.aJ.nodes x (kZ.1 M).1
 obtain⟨_,_,_,fo⟩:=h.Ji
 have eP:nz ah (u.ins T.m z) id n:=(h.aJ.node ag).bO (λ_ _=>rfl) λc y aj uL=>by rw[bz _ _ (fo _ c uL).2.1];exact aj
 let c5:O->aA bB:=λc=>open Classical in if oE ah id c then none else ah c
 have aT:∀c,oE ah id c->c5 c=none:=λc I=>b3 I
 have aN:∀c,¬oE ah id c->c5 c=ah c:=λc I=>bF I
 have dG:∀c,c5 c≠none->ah c≠none:=λc I=>by
  grind
 have no:∀{c:O} {t:bB},ah c=some t->(∀i,t≠.node i)->(∀i,t≠.vec i)->(∀i lv,t≠.arr i lv)->c5 c=ah c:=λe h1 h2 h3=>aN _ (by rintro(aN|aN|⟨lv,aN⟩)<;>rw[e] at aN<;>cases aN;exact h1 _ rfl;exact h2 _ rfl;exact h3 _ _ rfl)
 have ck:=no h.aJ.dQ (by simp) (by simp) (by simp)
 have kl:=no h.aJ.ie (by simp) (by simp) (by simp)
 have zq:=no h.aJ.dy (by simp) (by simp) (by simp)
 refine⟨c5,⟨⟨h1.aJ.cell,h1.aJ.src,h1.aJ.GU,h1.aJ.map,by rw[ck];exact h.aJ.dQ,by simp only;rw[kl];exact h.aJ.ie,by simp only;rw[zq];exact h.aJ.dy,λx M=>?_⟩,h1.le,λc I=>h.out c (dG c I),λc I=>h1.known c (dG c I)⟩,
  ⟨h2.bO,λc I=>h2.grow c (dG c I)⟩,aT,eP⟩
 have an:x.1≠id:=by grind
 refine(h1.aJ.nodes x M).bO (λc I=>aN c ?_) λ_ _ aj _=>aj
 rintro(e|e|⟨lv,e⟩)<;>rcases I with k|k|⟨xU,k⟩<;>rw[e] at k<;>cases k<;>exact an rfl
def WE:hy aH 293=ai:=by kernel_rfl
def aq0{id:o}{T:dC}:WA (Cd.ins n0 (.cells #[.int .i64 id] T (0,0))) (.func (.func 293) #[] #[.pointer (some ⟨n0,0,none⟩)]) (λx=>decide (x=id)):=
 λx v _ aB au=>.inl ⟨_,_,_,rfl,hs WE,aE1 x ⟨n0,0,none⟩ v _ ⟨id,aZ (aB _ _ (bh _ _ _)) 0,au⟩⟩
structure Ag(ak u:H)(ah:O->aA bB)(b:O)(T:aU)(id:o)(u':H)(aY:O->aA bB)(bD:aU):Prop where
 is:In ak u' aY b bD
 eJ:gM u ah u' aY
 ok:dX bD
 rows:fw bD.g=(fw T.g).filter λx=>x.1 !=id
 dim:bD.dim=T.dim
 cm:bD.cm=T.cm
structure Qp(ak lJ:H)(c5:O->aA bB)(b:O)(T:aU)(g1:J (o×dp))(v:H):Prop where
 ex:∃aY b5,In ak v aY b {T with g:=b5}/\gM lJ c5 v aY/\Alike g1 b5/\qw T.dim T.cm b5
structure KN(ak lJ:H)(c5:O->aA bB)(b:O)(T:aU)(g1:J (o×dp))(id:o)(r:O)(k:O)(v:H):Prop where
 ex:∃dl aY b5,In ak v aY b {T with g:=b5}/\(∀c z,lJ c=some z->c5 c=none->v c=some z)/\(∀c,aY c≠none->c5 c≠none∨lJ c=none)/\aY r=none/\nw id g1 b5 (dl.map (·.1)) id 0/\
  nx v r T.m (jG g1) dl/\(jG g1).length-dl.length<=k
def aAI(g:J (o×dp))(id:o):fw (g.filter λx=>x.1 !=id)=(fw g).filter λx=>x.1 !=id:=by unfold fw;rw[sB];rfl
theorem getD_some{l:J o}{i:O}(h:i<l.length):l[i]?=some (l.getD i 0):=by grind
def amw(h:fE u b l)(aq:l.length<=1000000)(au:∀s u',aD u u' 3 1 s ((cR (l.map (·.1))).flatMap encI)->K s u'):
  PX (some b) u λfv aR=>vy fv aR K:=by
 have b8:(l.map (·.1)).Nodup:=by obtain⟨_,_,_,he⟩:=h;exact he.nodup
 refine aFI (some b) u _ λn0 fJ=>?_
 have hle:=bX (u:=u) (b:=n0) (.cells #[.map (some b)] 182 (0,0)) fJ
 exact adj aq b8 (λak ph=>ax6 wm (h.mono (hle.trans ph)) (aZ (ph _ _ (bh _ _ _)) 0)) λs u' ac=>au s u' (ac.weaken hle)
def Tk(g:J (o×dp)):(jG g).map (·.1)=g.map (·.1):=by unfold jG;rw[e4];rfl
theorem Ug{ah:O->aA bB}{T:aU}{id:o}{K:ay->o->H->Prop}(h:In ak u ah b T)(aV:dX T)
  (dR:eS T.g id=none->∀u',u.le u'->K ao 0 u') (jD:∀n,eS T.g id=some n->∀u' aY bD,Ag ak u ah b T id u' aY bD->K ai 0 u'):PN (some ⟨b,0,none⟩) id u K:=by
 have b8:=h.aJ.nodup
 apply aE0
 intro n0 fJ
 refine⟨λe=>(by cases e),λ_=>?_⟩
 have ot:=bX (u:=u) (b:=n0) (.cells #[.int .i64 id] 3 (0,0)) fJ
 have h0:=h.mono ot
 have fH:(u.ins n0 (.cells #[.int .i64 id] 3 (0,0))) n0=some (.cells #[.int .i64 id] 3 (0,0)):=bh _ _ _
 have Is:ah n0=none:=h.fresh fJ
 obtain⟨aR,gB⟩:∃aR,u.ins n0 (.cells #[.int .i64 id] 3 (0,0))=aR:=⟨_,rfl⟩
 rw[gB] at h0 fH ot ⊢
 obtain⟨_,_,_,fc,_⟩:=k1 h0.aJ
 refine⟨_,rfl,_,fc,_,aZ fH 0,?_⟩
 refine tU wm h0.aJ.map (ct:=.ptr) ((eS T.g id).map λn=>(⟨n.p,0,none⟩:a8)) ?_ ?_
 rw[CI];cases eS T.g id<;>rfl
 have iS:(gm (jG T.g) id).isSome=(eS T.g id).isSome:=by rw[CI];cases eS T.g id<;>rfl
 rw[iS]
 refine⟨λab=>dR (by simpa using ab) _ ot,λht=>?_⟩
 obtain⟨gone,Iu⟩:=Jv.1 ht
 have jD:=jD gone Iu
 rw[Iu]
 refine⟨_,rfl,_,fc,_,aZ fH 0,OV wm h0.aJ.map λz Fj=>?_⟩
 obtain⟨c5,fe,X0,aiQ,LO⟩:=h0.remove Fj Iu
 obtain⟨_,_,_,fo⟩:=h0.Ji
 have AS:(aR.ins T.m z) n0=some (.cells #[.int .i64 id] 3 (0,0)):=by
  have:n0≠T.m:=λe=>by have:=h.aJ.dy;grind
  rw[bz _ _ this];exact fH
 have RN:c5 n0=none:=X0.none fH Is
 have aiM:fE (aR.ins T.m z) T.m (jG (T.g.filter λx=>x.1 !=id)):=fe.aJ.map
 obtain⟨lJ,aau⟩:∃lJ,aR.ins T.m z=lJ:=⟨_,rfl⟩
 obtain⟨g1,hV⟩:∃g1,(T.g.filter λx=>x.1 !=id)=g1:=⟨_,rfl⟩
 rw[aau,hV] at fe
 rw[aau] at X0 LO AS ⊢
 rw[aau,hV] at aiM
 have IA:(g1.map (·.1)).Nodup:=fe.aJ.nodup
 have Sz:gM u ah lJ c5:=(gM.mono ot).trans X0
 obtain⟨_,_,_,d3,_⟩:=k1 fe.aJ
 refine⟨_,rfl,_,d3,J8 wm aiM λr or U xp=>?_⟩
 have e8:c5 r=none:=fe.fresh U
 have oj:ak r=none:=fe.le.none U
 have ajm:r≠n0:=λe=>by grind
 have vS:∀lv:O,lv<31->∃s l,gone.kn[lv]?=some l/\∀v:H,(∀c z,lJ c=some z->c5 c=none->v c=some z)->v.cell? (((cp gone.p 0 none).add 1).add (lv*1))=some (.slice s.a s.n s.c)/\Ints v s l:=by intro lv oN;obtain⟨s,l,h1,h2,h3,br,bL⟩:=xR LO oN;refine⟨s,l,h2,λv aB=>⟨?_,?_⟩⟩;have:=aB _ _ LO.cell (aiQ _ (.inl LO.tag));rw[Jl];rw[Jl,F4 LO] at h3;simp only[H.cell?,this];simpa using h3;exact bw.else br.ints λg x Z M=>aB g x M (aiQ g (.inr (.inr ⟨lv,bL g Z⟩)))
 refine⟨λv=>∃k,KN ak lJ c5 b T g1 id r k v,λv=>least λk=>KN ak lJ c5 b T g1 id r k v,
  ⟨_,[],c5,g1,fe.aside e8 oj or,λc y I _=>bX _ U c y I,λc I=>.inl I,e8,nw.refl id g1 id,xp,cw _⟩,?_⟩
 intro v aB
 have cv:=FZ aB
 obtain⟨k,hk⟩:∃k,(least λk=>KN ak lJ c5 b T g1 id r k v)=k:=⟨_,rfl⟩
 dsimp only
 rw[hk] at cv ⊢
 obtain⟨dl,aY,b5,ch,mz,Y4,aib,xl,fs,hlen⟩:=cv
 clear aB
 refine Jj fs (λgF=>?_) λp hT ad AZ pU=>?_
 have yR:∀a∈g1.map (·.1),a∈dl.map (·.1):=λa az=>by
  rw[<-Tk] at az
  grind
 have iM:qw T.dim T.cm b5:=by rw[<-hV] at xl yR;exact xl.ok aV.k b8 yR
 have r7:Qp ak lJ c5 b T g1 v:=⟨aY,b5,ch,⟨mz,Y4⟩,xl.bV,iM⟩
 have aI5:id∈T.g.map (·.1):=bQ.2 ⟨_,iC Iu,rfl⟩
 have kA:∀a,a∈g1.map (·.1)↔a∈T.g.map (·.1)/\a≠id:=λa=>by rw[<-hV];exact Xt
 clear xl fs ch mz Y4 hlen yR iM
 refine⟨λlv w=>0<=lv/\lv<=31/\Qp ak lJ c5 b T g1 w,λlv _=>(31-lv).toNat,⟨by omega,by omega,r7⟩,?_⟩
 rintro lv w ⟨NP,aky,jR⟩
 refine⟨λbP=>?_,λhF=>?_⟩
 obtain⟨s,l,kj,ajk⟩:=vS lv.toNat (by omega)
 obtain⟨m1,m2,m3⟩:=aV.k.many id gone lv.toNat l Iu kj
 have aiE:∀y∈l,y∈g1.map (·.1):=λy aj=>(kA y).2 ⟨aV.k.ok.known _ (iC Iu) l (dz kj) y aj,λe=>m3 (e▸aj)⟩
 have ma:∀{dF:H},Qp ak lJ c5 b T g1 dF->∀c z,lJ c=some z->c5 c=none->dF c=some z:=λ⟨_,_,_,ht,_⟩=>ht.bO
 obtain⟨dV,hints⟩:=ajk w (ma jR)
 have dS:=hints.len
 have fX:=hints.max
 refine⟨_,rfl,by decide,⟨by omega,by omega⟩,s,dV,?_⟩
 refine⟨λi dF=>1<=i/\Qp ak lJ c5 b T g1 dF,λi _=>l.length-i.toNat,⟨by omega,jR⟩,?_⟩
 rintro i dF ⟨i1,yP⟩
 obtain⟨_,aiq⟩:=ajk dF (ma yP)
 have R9:=ma yP n0 _ AS RN
 refine⟨λey=>?_,λaJb=>⟨⟨by omega,by omega⟩,⟨by omega,by omega,yP⟩,by dsimp only;omega⟩⟩
 intro apb ahg
 obtain⟨q,aL,iO⟩:=aiq.at (x:=i-1) (by omega) (by omega)
 obtain⟨Br,Sn,qG⟩:=aiq.at (x:=i) (by omega) (by omega)
 have awu:Br=q:=by grind
 subst awu
 have aaJ:l[(i-1).toNat]?=some (l.getD (i-1).toNat 0):=getD_some (by omega)
 have Ny:l[i.toNat]?=some (l.getD i.toNat 0):=getD_some (by omega)
 have an:l.getD i.toNat 0≠l.getD (i-1).toNat 0:=λe=>by
  have h1:(i-1).toNat<l.length:=by omega
  have h2:i.toNat<l.length:=by omega
  have:=lW.1 m2 (i-1).toNat i.toNat h1 h2 (by omega);rw[jX,jX,dj h1,dj h2] at e;exact this (by simpa using e.symm)
 have skip:apb ao dF:=ahg _ _ ⟨λe=>(by cases e),λ_=>⟨⟨by omega,by omega⟩,⟨by omega,yP⟩,by dsimp only;omega⟩⟩
 refine⟨⟨by omega,by omega⟩,_,aL,⟨by omega,by omega⟩,_,iO,_,aZ R9 0,λFm=>⟨_,aL,⟨by omega,by omega⟩,_,qG,_,aZ R9 0,λy9=>?_,λ_=>⟨H.le.refl _,H.le.refl _,skip⟩⟩,λ_=>⟨H.le.refl _,H.le.refl _,skip⟩⟩
 obtain⟨iq,g2,kR,p1,vR,iQ⟩:=yP
 have aJe:=kR
 obtain⟨_,_,_,dG,_⟩:=k1 kR.aJ
 have og:(g2.map (·.1)).Nodup:=kR.aJ.nodup
 have az:l.getD (i-1).toNat 0∈g2.map (·.1):=by rw[vR.ids];exact aiE _ (dz aaJ)
 have aa:l.getD i.toNat 0∈g2.map (·.1):=by rw[vR.ids];exact aiE _ (dz Ny)
 refine⟨_,rfl,⟨by omega,by omega⟩,_,aL,⟨by omega,by omega⟩,_,aL,⟨by omega,by omega⟩,_,dG,_,iO,_,qG,vt kR.aJ az λfb uP Yb=>⟨H.le.refl _,_,rfl,by decide,⟨by omega,by omega⟩,?_⟩⟩
 obtain⟨J5,NK,AL,LU,Ij,atJ,_⟩:=xR Yb (lv:=lv.toNat) (by omega)
 refine⟨J5,Ij,H.le.refl _,aCk atJ.ints (ahg _ _ ⟨λtn=>?_,λ_=>⟨⟨by omega,by omega⟩,⟨by omega,iq,g2,kR,p1,vR,iQ⟩,by dsimp only;omega⟩⟩)⟩
 have xy:l.getD i.toNat 0∉NK:=λhm=>by grind
 refine⟨⟨by omega,by omega⟩,_,aL,⟨by omega,by omega⟩,_,aL,⟨by omega,by omega⟩,_,iO,_,qG,?_⟩
 have Zn:NK.length<=1000000:=by have h1:=(iQ.many _ _ _ _ uP LU).1;have:=(abA (lv:=((lv.toNat:O):o)) aV.cm).2;omega
 refine amJ kR iQ.ok aV.cm uP aa NP (by omega) LU Zn λhh pc k0 lR vU nM hW=>⟨⟨by omega,by omega⟩,⟨by omega,pc,_,vU,p1.trans nM,vR.trans (Alike.jY uP _ _ _),?_⟩,by dsimp only;omega⟩
 exact iQ.akj og uP NP k0 LU hW aa an xy
 obtain⟨iq,g2,kR,p1,vR,iQ⟩:=jR
 have R9:=p1.bO n0 _ AS RN
 obtain⟨_,_,_,dG,gz⟩:=k1 kR.aJ
 have og:(g2.map (·.1)).Nodup:=kR.aJ.nodup
 have fin:∀w' pc e,In ak w' pc b {T with g:=g2,entry:=e}->gM lJ c5 w' pc->((g2=[]/\e=0)∨e∈g2.map (·.1))->K ai 0 w':=λw' pc e h1 h2 h3=>
  jD w' pc {T with g:=g2,entry:=e} ⟨h1,Sz.trans h2,⟨iQ,aV.cm,h3⟩,by show fw g2=_;rw[vR.rows IA,<-hV,aAI],rfl,rfl⟩
 refine⟨_,rfl,_,gz,_,aZ R9 0,λuD=>⟨_,rfl,?_⟩,λuD=>?_⟩
 refine Ut kR.aJ (e:=0) ?_
 obtain⟨vU,nM⟩:=kR.OZ 0
 obtain⟨hh,axj⟩:∃hh,w.ins b (.cells (fx {{T with g:=g2} with entry:=0}).toArray 184 (0,0))=hh:=⟨_,rfl⟩
 rw[axj] at vU nM ⊢
 obtain⟨_,_,_,f3,_⟩:=k1 vU.aJ
 have Fg:(jG g2).length<=1000000:=by have:=iQ.ok.small;unfold jG;simp;omega
 refine⟨_,rfl,_,f3,amw vU.aJ.map Fg λacN aD7 ID=>?_⟩
 rw[Tk] at ID
 change aD _ _ _ 1 acN ((cR (g2.map (·.1))).flatMap encI) at ID
 have auX:=vU.mono ID.le
 have ts:acN.al≠some b:=λe=>by have:=ID.fresh b e;exact vU.known b (by rw[vU.aJ.dQ];simp) this
 have cX:=ID.ints
 have X7:=cX.len
 have aIQ:=cX.max
 have X6:∀y,y∈cR (g2.map (·.1))↔y∈g2.map (·.1):=λy=>(ns _).mem_iff
 refine⟨λk pC=>0<=k/\k<=(cR (g2.map (·.1))).length/\(∀c z,aD7 c=some z->c≠b->pC c=some z)/\∃e,In ak pC iq b {T with g:=g2,entry:=e}/\gM lJ c5 pC iq/\(k=0->e=0)/\(0<k->e∈g2.map (·.1)),
  λk _=>(cR (g2.map (·.1))).length-k.toNat,⟨by omega,by omega,λc z I _=>I,0,auX,(p1.trans nM).trans (gM.mono ID.le),λ_=>rfl,λh=>by omega⟩,?_⟩
 rintro k pC ⟨iu,cB,iE,e,vV,aag,aE,ad⟩
 refine⟨λhW=>?_,λZi=>fin pC iq e vV aag ?_⟩
 have as8:Ints pC acN (cR (g2.map (·.1))):=bw.else cX λg z Z ac=>iE g z ac λe=>ts (e▸Z)
 obtain⟨q,aL,L5⟩:=as8.at iu hW
 have IW:(cR (g2.map (·.1)))[k.toNat]?=some ((cR (g2.map (·.1))).getD k.toNat 0):=by grind
 have wc:=(X6 _).1 (dz IW)
 refine⟨q,aL,⟨iu,hW⟩,_,L5,λWs ahi=>?_⟩
 obtain⟨_,_,_,agr,ags⟩:=k1 vV.aJ
 have yes:Ws ai pC:=ahi _ _ ⟨λ_=>⟨_,rfl,Ut vV.aJ ⟨⟨by omega,by omega⟩,⟨by omega,by omega,λc z I kx=>?_,_,(vV.OZ _).1,aag.trans (vV.OZ _).2,λh=>by omega,λ_=>wc⟩,by dsimp only;omega⟩⟩,λe=>(by cases e)⟩
 have no:0<k->Ws ao pC:=λxq=>ahi _ _ ⟨λe=>(by cases e),λ_=>⟨⟨by omega,by omega⟩,⟨by omega,by omega,iE,e,vV,aag,λh=>by omega,λ_=>ad xq⟩,by dsimp only;omega⟩⟩
 have any:∀c0:ay,0<k->Ws c0 pC:=λc0 xq=>by cases c0;exact no xq;exact yes
 refine⟨_,rfl,_,ags,λuC=>?_,λuC=>?_⟩
 have r:=H.le.refl pC
 grind
 have xq:0<k:=by grind
 have YQ:=ad xq
 have r:=H.le.refl pC
 have top:∀{i:o} {n:dp},nz iq pC i n->pC.cell? ((cp n.p 0 none).add 32)=some (.int .i64 n.top):=λeP=>by rw[ib,kY,F4 eP];exact Tb eP.u4
 refine⟨_,rfl,_,rfl,_,rfl,_,agr,_,agr,_,ags,?_,?_⟩
 refine vt vV.aJ wc λcj _ CM=>⟨r,_,rfl,⟨_,top CM,r,?_⟩,?_⟩
 exact vt vV.aJ YQ λez _ pP=>⟨r,_,rfl,_,top pP,r,any _ xq⟩
 exact vt vV.aJ YQ λez _ pP=>⟨r,_,rfl,⟨_,top CM,r,_,top pP,r,any _ xq⟩,⟨_,top pP,r,_,top CM,r,any _ xq⟩⟩
 refine vt vV.aJ YQ λez _ pP=>⟨r,_,rfl,?_,⟨_,top pP,r,?_⟩⟩
 exact vt vV.aJ wc λcj _ CM=>⟨r,_,rfl,⟨_,top CM,r,_,top pP,r,any _ xq⟩,⟨_,top pP,r,_,top CM,r,any _ xq⟩⟩
 exact vt vV.aJ wc λcj _ CM=>⟨r,_,rfl,_,top CM,r,any _ xq⟩
 rw[bz _ _ kx];exact iE c z I kx
 have hW:k.toNat=(cR (g2.map (·.1))).length:=by omega
 rcases TK k.toNat with h0|h0
 left
 have:g2.map (·.1)=[]:=by
  have h2:(cR (g2.map (·.1))).length=0:=by omega
  rw[yi] at h2;exact qW h2
 grind
 grind
 refine fin w iq T.entry kR p1 (.inr ?_)
 rw[vR.ids,kA]
 rcases aV.entry with⟨h1,_⟩|h1
 grind
 exact⟨h1,uD⟩
 refine HR pU ?_
 obtain⟨x,M,rfl⟩:=bQ.1 ad
 have gQ:eS g1 x.1=some x.2:=AE IA M
 have aia:∀iq:O->aA bB,(∀c,iq c≠none->c5 c≠none∨lJ c=none)->∀c z,lJ c=some z->c5 c=none->iq c=none:=λiq h2 c z h3 br=>by
  grind
 have awz:∀c z,lJ c=some z->c≠r:=λc z I e=>by grind
 show ∃aIg:o->H->Prop,∃aIh:o->H->O,_
 refine⟨λlv w=>0<=lv/\lv<=31/\∃iq g2,In ak w iq b {T with g:=g2}/\(∀c z,lJ c=some z->c5 c=none->w c=some z)/\(∀c,iq c≠none->c5 c≠none∨lJ c=none)/\iq r=none/\nw id g1 g2 (dl.map (·.1)) x.1 lv.toNat/\
   nx w r T.m (jG g1) (dl++ [(x.1,.pointer (some ⟨x.2.p,0,none⟩))]),λlv _=>(31-lv).toNat,
  ⟨by omega,by omega,aY,b5,ch.aside aib oj hT,λc y I ab=>by rw[bz _ _ (awz c y I)];exact mz c y I ab,Y4,aib,xl.eJ x.1,pU⟩,?_⟩
 rintro lv w ⟨NP,aky,iq,g2,kR,Mr,RU,YW,RG,Fa⟩
 obtain⟨ez,fK,eX,_,_⟩:=RG.bV.at' _ _ gQ
 refine⟨λbP=>?_,λhF=>?_⟩
 have pP:=kR.aJ.node fK
 obtain⟨s,l,ea,dJ,I,ac,A8⟩:=xR pP (lv:=lv.toNat) (by omega)
 rw[eX] at I
 have oS:=Mr n0 _ AS RN
 have aI3:=aia iq RU n0 _ AS RN
 refine⟨_,rfl,by decide,⟨by omega,by omega⟩,_,rfl,s,I,?_⟩
 refine aCl ac (aq0 (n0:=n0) (id:=id) (T:=3)) (λc y I=>?_) (λc I=>?_) λar dF bR hblk he=>?_
 unfold H.ins at I
 split at I
 grind
 cases I
 exact bz _ _ (λe=>by grind)
 refine⟨by decide,⟨by omega,by omega⟩,?_⟩
 unfold aG
 rw[Jl,<-eX]
 have ry:s.al≠some ez.p:=λe=>by have:=A8 _ e;rw[pP.tag] at this;cases this
 refine adz (he _ _ pP.cell ry) pP.u4 (by omega) (Ev id l) ?_
 obtain⟨pc,X9,aC⟩:=pP.level kR.known ea bR he λc e=>.inl (by rw[<-hblk];exact e)
 have vU:=kR.shift (n':=ez.jY lv.toNat ar (Ev id l)) fK rfl X9 aC
 have nJ:∀c,iq c=none->¬oE iq x.1 c:=λc I hm=>hm.some I
 obtain⟨_,_,_,abB⟩:=kR.Ji
 refine⟨⟨by omega,by omega⟩,⟨by omega,by omega,pc,_,vU,λc y I ab=>aC.bO c y (Mr c y I ab) (nJ c (aia iq RU c y I ab)),λc I=>?_,?_,?_,?_⟩,by dsimp only;omega⟩
 rcases aC.grow c I with h1|h1
 exact RU c h1
 cases aT:c5 c with
 |some t=>exact .inl (by simp)
 |none=>
  cases aN:lJ c with
  |none=>exact .inr rfl|some y=>grind
 cases e:pc r with
 |none=>rfl
 |some t=>rcases aC.grow r (by rw[e];simp) with h1|h1;exact bf YW h1;obtain⟨_,_,_,_,_,h2,_⟩:=Fa;rw[h2] at h1;cases h1
 have:=RG.step AZ fK dJ ar
 rw[show(lv+1).toNat=lv.toNat+1 by omega]
 exact this
 have air:=Fa
 rw[<-eX] at air
 exact air.else (λy aj=>aC.bO _ _ aj λhm=>(abB _ _ hm).2.1 rfl) λy aj=>aC.bO _ _ aj (nJ r YW)
 have oN:lv.toNat=31:=by omega
 rw[oN] at RG
 have at7:=RG.next (λn' hY=>(kR.aJ.node hY).FR) id
 have aiD:=aa0 Fa
 simp only[gG,x9] at aiD
 have uE:KN ak lJ c5 b T g1 id r (k-1) w:=⟨_,iq,g2,kR,Mr,RU,YW,by simpa using at7,Fa,by grind⟩
 refine⟨⟨_,uE⟩,?_⟩
 have:=least_le (P:=λk=>KN ak lJ c5 b T g1 id r k w) uE
 omega
open Go.Shelf
def lO(u:H):Prop:=∀w,Sub u w->Go.Proofs.TabAt 0 Lib.deBruijn64tab w
def lO.mono(h:lO u)(hu:u.le u'):lO u':=λw hw=>h w (hw.mono hu)
def aqX(x:O)(M:x<18446744073709551616):Lib.ctz 64 x<=64:=by unfold Lib.ctz;split;exact cw _;rename_i h;obtain⟨_,_,h2⟩:=Lib.ctzFrom_spec 64 x (Nat.pos_of_ne_zero h) (by simpa using M);omega
def ap5(op:BinOp)(x y:o):cE (bits op .u64 x y):=by have:=wf_bits op .u64 x y;simp[Lit.wf,Gy,Gz,Gf,Gg] at this;unfold cE;omega
def wrap_u64(x:o):cE (bu.wrap x):=by have:=wf_wrap .u64 x;simp[Lit.wf,Gy,Gz,Gf,Gg] at this;unfold cE;omega
def aBG{x:o}{K:o->H->Prop}(M:cE x)(aV:lO u)(au:∀n:o,0<=n->n<=64->K n u):aen x u K:=by
 intro w hw;obtain⟨n,rfl⟩:=Int.eq_ofNat_of_zero_le M.1;have ag:n<18446744073709551616:=by have:=M.2;omega
 have I:=Any7.bits_TrailingZeros64 Tryz.aD1 n ag w λ_=>aV w hw;change Calls aH 169 _ _ _ at I;refine I.mono ?_;rintro e w' ⟨rfl,rfl⟩;have:=aqX n ag;exact⟨_,u,rfl,⟨[.int .i64 (Lib.ctz 64 n:O)],.cons (t:=.int .i64) _ .nil,rfl,au _ (by omega) (by omega)⟩,Step.refl hw⟩
def aCf{src:O}{st:o}{K:o->H->Prop}(h:u src=some (.cells #[.int .u64 st] 215 (0,0)))
  (au:∀oB W,cE oB->cE W->K W (u.ins src (.cells #[.int .u64 oB] 215 (0,0)))):Hi (some ⟨src,0,none⟩) u K:=by
 apply aok
 refine⟨λh=>(by cases h),λ_=>⟨_,rfl,st,aZ h 0,_,rfl,GV h (by simp[cI]) ⟨_,rfl,_,aZ (bh _ _ _) 0,by omega,by omega,by omega,?_⟩⟩⟩
 exact au _ _ (wrap_u64 _) (ap5 _ _ _)
theorem aCe{src:O}{st:o}{ub:H}{K:o->o->H->Prop}(h:u src=some (.cells #[.int .u64 st] 215 (0,0)))(aV:lO ub)(cC:ub.le u)(ae:ub src=none)
  (au:∀oB lv,cE oB->0<=lv->lv<=30->K lv 0 (u.ins src (.cells #[.int .u64 oB] 215 (0,0)))):Vw (some ⟨src,0,none⟩) 30 u K:=by
 apply aFU
 apply ad1
 refine⟨λh=>(by cases h),λ_=>⟨λh=>by omega,λ_=>⟨λh=>by omega,λ_=>⟨λh=>bf rfl h,λ_=>?_⟩⟩⟩⟩
 refine aCf h λoB W h1 h2=>?_
 have hle:ub.le (u.ins src (.cells #[.int .u64 oB] 215 (0,0))):=λc z I=>by rw[bz _ _ (λe=>by grind)];exact cC c z I
 refine aBG h2 (aV.mono hle) λn n0 cj=>⟨by omega,?_,?_⟩
 have:ff n 2=n/2:=Dz n0
 rw[this];exact⟨by omega,by omega⟩
 have:ff n 2=n/2:=Dz n0
 rw[this]
 refine au _ _ h1 ?_ ?_<;>split<;>omega
end
section
variable{b:O}{u:H}{sv:N}{v:J o}
theorem XG{g:J (o×dp)}{id:o}{nd:dp}(cy:id∉g.map (·.1))(i:o):eS (g++ [(id,nd)]) i=if i=id then some nd else eS g i:=by
 unfold eS
 grind
def az1(g:J (o×dp))(id:o)(nd:dp):jG (g++ [(id,nd)])=jG g++ [(id,.pointer (some ⟨nd.p,0,none⟩))]:=by simp[jG]
structure Cc(cm:o)(ids l:J o):Prop where
 sub:∀x∈l,x∈ids
 nodup:l.Nodup
 len:(l.length:o)<=cm
theorem Cc.nil{cm:o}(h:1<=cm)(ids:J o):Cc cm ids []:=⟨λx M=>(by cases M),TR,by grind⟩
theorem qw.add{dim cm:o}{g:J (o×dp)}(h:qw dim cm g)(aq:1<=cm/\cm<=16){id:o}{nd:dp}(cy:id∉g.map (·.1))(hi:1<=id/\id<=1000000000)(aB:(nd.v.length:o)=dim/\cY nd.v)(ht:nd.top<=30)(fX:g.length<=512)
  (hk:∀(j:O) l,nd.kn[j]?=some l->Cc cm (g.map (·.1)) l):qw dim cm (g++ [(id,nd)]):=by
 have kA:(g++ [(id,nd)]).map (·.1)=g.map (·.1)++ [id]:=by simp
 refine⟨⟨h.ok.hP,λx M=>?_,λx M=>?_,λx M l xr i qL=>?_,λx M=>?_,by simp;omega⟩,λi n lv l ag xr=>?_⟩
 rcases dT.1 M with M|M
 exact h.ok.vec x M
 grind
 rcases dT.1 M with M|M
 exact h.ok.top x M
 grind
 rw[kA]
 rcases dT.1 M with M|M
 exact kG _ (h.ok.known x M l xr i qL)
 simp at M;subst M
 obtain⟨k,dk⟩:=TS.1 xr
 exact kG _ ((hk k l dk).sub i qL)
 rcases dT.1 M with M|M
 exact h.ok.ids x M
 grind
 rw[XG cy] at ag
 by_cases e:i=id
 rw[b3 e] at ag;cases ag
 subst e
 have:=hk lv l xr
 refine⟨?_,this.nodup,λhm=>cy (this.sub i hm)⟩
 have:=this.len
 unfold wl;split<;>omega
 rw[bF e] at ag
 exact h.many i n lv l ag xr
def u9(p:O)(sv:N)(v:J o)(top:O):dp:=⟨p,sv,v,fz 31 ⟨none,0,0⟩,fz 31 [],top⟩
theorem In.azh{ak:H}{ah:O->aA bB}{T:aU}(h:In ak u ah b T){id:o}(cy:id∉T.g.map (·.1)){p:O}(ad:u p=none)(aB:Ints u sv v)(Nt:∀g,sv.al=some g->ah g=some (.vec id))(top:O):
  ∃aY,In ak (u.ins p (.cells (jU (u9 p sv v top)).toArray 230 (0,0))) aY b T/\nz aY (u.ins p (.cells (jU (u9 p sv v top)).toArray 230 (0,0))) id (u9 p sv v top)/\
   gM u ah (u.ins p (.cells (jU (u9 p sv v top)).toArray 230 (0,0))) aY:=by
 have ly:ah p=none:=h.fresh ad
 let aY:O->aA bB:=λc=>if c=p then some (.node id) else ah c
 have aT:aY p=some (.node id):=b3 rfl
 have aN:∀c,c≠p->aY c=ah c:=λc I=>bF I
 have dG:∀c,ah c≠none->aY c=ah c:=λc I=>aN c λe=>I (by rw[e];exact ly)
 have hle:=bX (u:=u) (b:=p) (.cells (jU (u9 p sv v top)).toArray 230 (0,0)) ad
 refine⟨aY,⟨h.aJ.bO dG λc z I _=>hle c z I,h.le.trans hle,λc I=>?_,λc I=>?_⟩,?_,⟨λc z I _=>hle c z I,λc I=>?_⟩⟩
 by_cases e:c=p
 rw[e];exact h.le.none ad
 rw[aN c e] at I;exact h.out c I
 by_cases e:c=p
 rw[e,bh];simp
 rw[aN c e] at I;rw[bz _ _ e];exact h.known c I
 refine⟨bh _ _ _,aT,aB.mono hle,λg Z=>?_,by simp[u9],by simp[u9],λlv s l h1 h2=>?_⟩
 have:=Nt g Z
 grind
 simp only[u9,Ot] at h1 h2
 split at h1
 cases h1
 rw[b3 (by assumption)] at h2
 cases h2
 exact⟨(Own.nil _ _ _).f,λg Z=>by simp[N.al] at Z⟩
 cases h1
 grind
theorem akG{p:O}{top j:O}{l:J o}(h:(u9 p sv v top).kn[j]?=some l):l=[]:=by
 simp only[u9,Ot] at h
 grind
theorem _root_.Go.Proofs.YtejdhbfjjgcljaaGreatDoor.jb.TW{B v:H}{cq n:O}{k:o}{z:Obj}{S:J bN}(h:jb (B.ins cq z) n k v S)(cn:Obj):jb (B.ins cq cn) n k (v.ins cq cn) S:=by
 obtain⟨l,⟨⟨s,h1,h2,h3⟩,br,bL⟩,gA,kP⟩:=h;have Fl:n≠cq:=λe=>by rw[e,bh] at br;cases br
 have ajo:s.al≠some cq:=λe=>by have:=h2.fresh cq e;rw[bh] at this;cases this
 refine⟨l,⟨⟨s,by rw[bz _ _ Fl];exact h1,⟨h2.own.le λc y I aj=>?_,λc y I=>?_,λg Z=>?_⟩,h3⟩,by rw[bz _ _ Fl] at br ⊢;exact br,bL⟩,gA,kP⟩;rw[bz _ _ (λe=>ajo (by rw[I,e]))];exact aj;unfold H.ins at I ⊢;split
 grind
 rename_i e;rw[bF e] at I;have:=h2.le c y (by rw[bz _ _ e];exact I);exact this;have:=h2.fresh g Z;have RR:g≠cq:=λe=>ajo (by rw[Z,e]);rw[bz _ _ RR] at this ⊢;exact this
def apS:hy aH 141=ai:=by kernel_rfl
def KU(B:H)(n31 n33 n:O)(cm:o)(g:J (o×dp))(q:J o)(bJ:J o)(i:O)(v:H):Prop:=
 jb ((B.ins n31 (.cells #[.pointer (some ⟨n,0,none⟩)] 90 (0,0))).ins n33 (.cells #[.int .i64 i] 3 (0,0))) n cm v ((bJ.take i).map (cV g q))
theorem ayf{B:H}{ah:O->aA bB}{n0 n31 n33 n:O}{T:aU}{q bJ:J o}(h:ee ah B b T)(aq:1<=T.cm/\T.cm<=16)(H4:B n0=some (.cells #[.pointer (some ⟨b,0,none⟩)] 122 (0,0)))(agT:B n31=none)(H0:B n33=none)(an:n31≠n33)
  (hQ:bJ.length<=1000000) {i:O} {x:o} {v:H} {K:ay->H->Prop} (M:bJ[i]?=some x) (aP:KU B n31 n33 n T.cm T.g q bJ i v)
  (au:∀c0 b9,KU B n31 n33 n T.cm T.g q bJ (i+1) b9->K c0 b9):
  ua aH (.func (.func 141) #[] #[.pointer (some ⟨n31,0,none⟩),.pointer (some ⟨n33,0,none⟩),.pointer (some ⟨n0,0,none⟩)]) #[Ml (cV T.g q x)] [.one .bool] v K:=by
 have ey:i<bJ.length:=(hG.1 M).1
 refine .inl ⟨_,_,_,rfl,hs apS,?_⟩
 refine aFc (cV T.g q x).1 (cQ (cV T.g q x).2) (cS (cV T.g q x).2) ⟨n31,0,none⟩ ⟨n33,0,none⟩ ⟨n0,0,none⟩ v K ?_
 have yS:∀(W:o) {w:H} {S:J bN},jb ((B.ins n31 (.cells #[.pointer (some ⟨n,0,none⟩)] 90 (0,0))).ins n33 (.cells #[.int .i64 W] 3 (0,0))) n T.cm w S->
   B.le w/\w n31=some (.cells #[.pointer (some ⟨n,0,none⟩)] 90 (0,0))/\w n33=some (.cells #[.int .i64 W] 3 (0,0)):=λW w S ht=>by
  have hle:=ht.le
  refine⟨λc y I=>hle c y ?_,hle _ _ ?_,hle _ _ (bh _ _ _)⟩
  rw[bz _ _ (λe=>by grind),bz _ _ (λe=>by grind)];exact I
  rw[bz _ _ an,bh]
 obtain⟨_,aqu,_⟩:=yS _ aP
 refine⟨_,aZ aqu 0,Pe aP aq.1 (by omega) λc0 w hw=>?_⟩
 obtain⟨_,_,afH⟩:=yS _ hw
 refine⟨_,aZ afH 0,⟨by omega,by omega⟩,GV afH (by simp[cI]) ?_⟩
 have U:=hw.TW (.cells #[.int .i64 ((i:o)+1)] 3 (0,0))
 obtain⟨ag3,_,aqv⟩:=yS _ U
 have aV:=h.mono ag3
 obtain⟨_,t1,_⟩:=k1 aV
 refine⟨_,aZ aqv 0,_,aZ (ag3 _ _ H4) 0,_,rfl,_,t1,⟨by omega,by omega⟩,au _ _ ?_⟩
 unfold KU
 have e:(bJ.take (i+1)).map (cV T.g q)=(bJ.take i).map (cV T.g q)++ [cV T.g q x]:=by rw[fN,M];simp
 rw[e]
 have aN:((i+1:O):o)=(i:o)+1:=by omega
 rw[aN]
 exact U.perm (mH _ _).symm
def aBT{ah:O->aA bB}{ub:H}{T:aU}{q:J o}{t:N}{at' lv:o}{OU:ap}{K:H->Prop}(cC:ub.le u)(h:ee ah ub b T)(Z:qv T.dim T.g)(cy:at'∈T.g.map (·.1))(ht:sR ub T.dim t q)
  (iG:0<=lv) (dN:lv<31) (cZ:O->H->Prop) (la:∀i v,cZ i v->ub.le v)
  (Z3:∀i x v (K:ay->H->Prop),(lK T.g q lv.toNat at')[i]?=some x->cZ i v->(∀c0 b9,cZ (i+1) b9->K c0 b9)->ua aH OU #[Ml (cV T.g q x)] [.one .bool] v K)
  (h0:cZ 0 u) (au:∀i v,i<=(lK T.g q lv.toNat at').length->cZ i v->K v):Kx (some ⟨b,0,none⟩) at' t lv OU u K:=
 amI cC h Z cy ht iG dN cZ (λv=>∃i,i<=(lK T.g q lv.toNat at').length/\cZ i v) la
  (λi x v fB M aP h1 h2=>Z3 i x v fB M aP λc0 b9 kB=>by cases c0;exact h2 b9 ⟨i+1,(hG.1 M).1,kB⟩;exact h1 b9 kB)
  h0 (λv aB=>au _ v (cw _) aB) λv ⟨i,hi,aB⟩=>au i v hi aB
structure apn(ak jg:H)(HU:O->aA bB)(b:O)(T:aU)(id:o)(p:O)(sv:N)(v:J o)(top:O)(lv:o)(w:H)(aY:O->aA bB)(nd:dp):Prop where
 is:In ak w aY b T
 node:nz aY w id nd
 eJ:gM jg HU w aY
 ED:nd.p=p
 es:nd.sv=sv
 Q0:nd.v=v
 HT:nd.top=top
 od:∀(j:O) l,nd.kn[j]?=some l->Cc T.cm (T.g.map (·.1)) l/\((j:o)<=lv->l=[])
structure Ww(ak aD8:H)(asa:O->aA bB)(b:O)(T:aU)(g2:J (o×dp))(id:o)(nd:dp)(P:O->o->Prop)(w:H):Prop where
 ex:∃aY b5,In ak w aY b {T with g:=b5}/\gM aD8 asa w aY/\Alike g2 b5/\qw T.dim T.cm b5/\eS b5 id=some nd/\
  ∀a n (j:O) l,a≠id->eS b5 a=some n->n.kn[j]?=some l->P j a->id∉l
theorem ada{ak:H}{ah:O->aA bB}{T:aU}{id:o}{K:H->Prop}(h:In ak u ah b T)(aV:dX T)(jS:lO ak)(cy:id∉T.g.map (·.1))(aio:1<=id/\id<=1000000000)
  (aB:Ints u sv v) (Nt:∀g,sv.al=some g->ah g=some (.vec id)) (uZ:(v.length:o)=T.dim/\cY v) (fX:T.g.length<=512)
  (au:∀u' aY bD,In ak u' aY b bD->gM u ah u' aY->dX bD->fw bD.g=fw T.g++ [(id,v)]->bD.dim=T.dim->bD.cm=T.cm->K u'):Hf (some ⟨b,0,none⟩) id sv u K:=by
 have b8:=h.aJ.nodup
 apply aFb
 intro n0 fJ
 have ot:=bX (u:=u) (b:=n0) (.cells #[.pointer (some ⟨b,0,none⟩)] 122 (0,0)) fJ
 have Is:ah n0=none:=h.fresh fJ
 have h1:=h.mono ot
 have fH:(u.ins n0 (.cells #[.pointer (some ⟨b,0,none⟩)] 122 (0,0))) n0=some (.cells #[.pointer (some ⟨b,0,none⟩)] 122 (0,0)):=bh _ _ _
 obtain⟨aR,gB⟩:∃aR,u.ins n0 (.cells #[.pointer (some ⟨b,0,none⟩)] 122 (0,0))=aR:=⟨_,rfl⟩
 rw[gB] at ot h1 fH ⊢
 obtain⟨_,_,c2,_,_⟩:=k1 h1.aJ
 refine⟨_,aZ fH 0,_,rfl,_,c2,aCe h1.aJ.src jS h1.le (h1.out _ (by rw[h1.aJ.ie];simp)) λoB NP c6 iG dN=>?_⟩
 obtain⟨top,rfl⟩:=Int.eq_ofNat_of_zero_le iG
 obtain⟨gA,Sy⟩:=h1.aBh c6
 have Qy:=Sy.bO _ _ fH Is
 have aay:Ints (aR.ins T.src (.cells #[.int .u64 oB] 215 (0,0))) sv v:=bw.else (aB.mono ot) λg z Z ac=>by rw[bz _ _ (λe=>by have:=Nt g Z;rw[e,h1.aJ.ie] at this;cases this)];exact ac
 obtain⟨q8,IN⟩:∃q8,aR.ins T.src (.cells #[.int .u64 oB] 215 (0,0))=q8:=⟨_,rfl⟩
 rw[IN] at gA Sy Qy aay ⊢
 intro n7 aiX
 generalize MV:bt _ 230 (0,0)=tG
 have av8:tG=.cells (jU (u9 n7 sv v top)).toArray 230 (0,0):=by rw[<-MV];rfl
 subst av8
 clear MV
 have Rg:In ak q8 ah b {T with st:=oB}:=gA
 obtain⟨HU,kP,Ya,Nh⟩:=Rg.azh cy aiX aay Nt top
 have Cs:=Nh.bO _ _ Qy Is
 have YT:=Nh.none Qy Is
 have anN:=((gM.mono ot).trans Sy).trans Nh
 obtain⟨jg,sl⟩:∃jg,q8.ins n7 (.cells (jU (u9 n7 sv v top)).toArray 230 (0,0))=jg:=⟨_,rfl⟩
 rw[sl] at kP Ya Nh Cs anN ⊢
 obtain⟨ba,tc⟩:∃ba,{T with st:=oB}=ba:=⟨_,rfl⟩
 rw[tc] at kP
 have oJ:ba.g=T.g:=by rw[<-tc]
 have Ez:ba.dim=T.dim:=by rw[<-tc]
 have el:ba.cm=T.cm:=by rw[<-tc]
 have agb:ba.entry=T.entry:=by rw[<-tc]
 have r8:dX ba:=⟨by rw[Ez,el,oJ];exact aV.k,by rw[el];exact aV.cm,by rw[oJ,agb];exact aV.entry⟩
 rw[<-oJ] at cy fX b8
 rw[<-Ez] at uZ
 have fin:∀u' aY bD,In ak u' aY b bD->gM jg HU u' aY->dX bD->fw bD.g=fw ba.g++ [(id,v)]->bD.dim=ba.dim->bD.cm=ba.cm->K u':=λu' aY bD cB cW nP akg aa6 ax0=>
  au u' aY bD cB (anN.trans cW) nP (by rw[akg,oJ]) (aa6.trans Ez) (ax0.trans el)
 clear au aV h1 gA Rg Sy aay aiX gB IN sl c2 iG aB Nt ot Qy Nh Is fJ fH
 obtain⟨_,_,_,d3,d4⟩:=k1 kP.aJ
 have vS:∀x∈ba.g,1<=x.1:=λx M=>(r8.k.ok.ids x M).1
 have sf:=r8.cm
 have put:∀{w:H} {aY:O->aA bB} {nd:dp} {fB:H->Prop},In ak w aY b ba->nz aY w id nd->nd.p=n7->(∀w',In ak w' aY b {ba with g:=ba.g++ [(id,nd)]}->gM w aY w' aY->fB w')->
   c7 aH (unit (kW 182 (.map (some ba.m)) (.int .i64 id) (.pointer (some ⟨n7,0,none⟩)))) [] w fB:=λ{w aY nd fB} ch eP ad hk=>by
  refine DK wm ch.aJ.map (by rw[CI,CJ.2 cy];rfl) λz hm=>?_
  have pX:fE (w.ins ba.m z) ba.m (jG (ba.g++ [(id,nd)])):=by rw[az1,ad];exact hm
  obtain⟨cB,cW⟩:=ch.ami pX λx M=>by rcases dT.1 M with M|M;exact ch.aJ.nodes x M;simp at M;subst M;exact eP
  exact hk _ cB cW
 have afd:∀{nd:dp},nd.v=v->nd.top=top->(∀(j:O) l,nd.kn[j]?=some l->Cc ba.cm (ba.g.map (·.1)) l)->qw ba.dim ba.cm (ba.g++ [(id,nd)]):=λ{nd} h1 h2 h3=>
  r8.k.add sf cy aio (by rw[h1];exact uZ) (by omega) fX h3
 refine⟨_,aZ Cs 0,_,rfl,_,d4,λhe=>?_,λhe=>?_⟩
 have AS:ba.g=[]:=by
  rcases r8.entry with⟨h1,_⟩|h1;exact h1
  grind
 refine⟨_,aZ Cs 0,_,rfl,_,d3,put kP Ya rfl λw hw FC=>?_⟩
 refine⟨_,aZ (FC.bO _ _ Cs YT) 0,_,rfl,Ut hw.aJ (e:=id) ?_⟩
 obtain⟨cB,cW⟩:=hw.OZ id
 refine fin _ _ _ cB (FC.trans cW) ⟨afd rfl rfl λj l aq=>by rw[akG aq];exact Cc.nil sf.1 _,sf,.inr (by simp)⟩ ?_ rfl rfl
 simp[fw,u9]
 have uD:ba.entry∈ba.g.map (·.1):=by rcases r8.entry with⟨_,h1⟩|h1;exact bf h1 he;exact h1
 intro ao9 asZ
 have start:∀x:o,x<=30->-1<=x->ao9 x jg:=λx dr bK=>asZ x jg (by
  refine⟨λlv w=>-1<=lv/\lv<=30/\∃aY nd,apn ak jg HU b ba id n7 sv v top lv w aY nd,λlv _=>(lv+1).toNat,
   ⟨bK,dr,HU,_,kP,Ya,gM.refl _ _,rfl,rfl,rfl,rfl,λj l aq=>by rw[akG aq];exact⟨Cc.nil sf.1 _,λ_=>rfl⟩⟩,?_⟩
  rintro lv w ⟨NP,aky,EH,nd,hx⟩;have ch:=hx.is;have Yc:=hx.node;have oS:=hx.eJ.bO _ _ Cs YT;have YY:=hx.eJ.none Cs YT;obtain⟨_,e5,_,hh,pC⟩:=k1 ch.aJ;have aL:sR w ba.dim sv v:=⟨by have:=Yc.vec;rw[hx.es,hx.Q0] at this;exact this,uZ.2,uZ.1⟩;refine⟨λoN=>?_,λoN=>?_⟩;refine⟨_,aZ oS 0,_,rfl,_,e5,Pf (λdq=>by omega) λ_ _ p9 adR aw7 IB p2=>?_⟩;intro n31 uN;refine lZ (zs:=[.pointer none]) rfl (by simp[cI]) ?_;have ajR:w n31=none:=aw7.none uN;have Nj:=p2.mI uN (.cells [.pointer (some ⟨p9,0,none⟩)].toArray 90 (0,0));obtain⟨u32,ajF⟩:∃u32,adR.ins n31 (.cells [.pointer (some ⟨p9,0,none⟩)].toArray 90 (0,0))=u32:=⟨_,rfl⟩;rw[ajF] at Nj ⊢;intro n33 Sc;refine lZ (zs:=[.int .i64 0]) rfl (by simp[cI]) ?_;have FB:=Nj.mI Sc (.cells [.int .i64 0].toArray 3 (0,0));have agT:u32 n31≠none:=by rw[<-ajF,bh];simp
  have Zy:n31≠n33:=λe=>agT (by rw[e];exact Sc);have ajS:w n33=none:=by have:=Nj.le.none Sc;rw[bz _ _ (e3 Zy)] at this;exact this
  obtain⟨mM,aap⟩:∃mM,u32.ins n33 (.cells [.int .i64 0].toArray 3 (0,0))=mM:=⟨_,rfl⟩;rw[aap] at FB ⊢;have yS:∀{e0 hT:Obj} {W:H},((w.ins n31 e0).ins n33 hT).le W->w.le W:=λhle c y I=>hle c y (by rw[bz _ _ (λe=>by rw[e,ajS] at I;cases I),bz _ _ (λe=>by rw[e,ajR] at I;cases I)];exact I)
  have Nu:w.le mM:=yS FB.le;obtain⟨at',sa⟩:∃at',vv ba.g v ba.entry lv.toNat=at':=⟨_,rfl⟩;have ahD:at'∈ba.g.map (·.1):=by rw[<-sa];exact adD r8.k.ok uD _
  refine⟨_,aZ (Nu _ _ oS) 0,_,aZ (Nu _ _ oS) 0,amL (ch.aJ.mono Nu) r8.k.ok uD (aL.mono Nu) oN ⟨H.le.refl _,?_⟩⟩;rw[sa];obtain⟨bJ,hQ⟩:∃bJ,lK ba.g v lv.toNat at'=bJ:=⟨_,rfl⟩;have LN:=Met.one (cV ba.g v) (ids:=ba.g.map (·.1)) (uI ba.g v) ahD;have ET:bJ.Nodup/\(∀x∈bJ,x∈ba.g.map (·.1)):=by rw[<-hQ];exact⟨(agp (cV ba.g v) (mh ba.g lv.toNat) (uI ba.g v) (r8.k.ok.ck _) _ _ _ LN).1,ago (cV ba.g v) (mh ba.g lv.toNat) (uI ba.g v) (r8.k.ok.ck _) _ _ _ LN⟩
  have atD:bJ.length<=1000000:=by have:=pn ET.1 ET.2;simp at this;omega
  have avk:KU w n31 n33 p9 ba.cm ba.g v bJ 0 mM:=FB;refine aBT Nu ch.aJ r8.k.ok ahD aL oN (by omega) (λi W=>KU w n31 n33 p9 ba.cm ba.g v bJ i W) (λi W aE=>yS (jb.le aE))
   (λi x W fB M aP hk=>ayf ch.aJ sf oS ajR ajS Zy atD (by rw[<-hQ];exact M) aP hk) avk λi W cQ la=>?_
  rw[hQ] at cQ;have aaI:w.le W:=yS (jb.le la);have axA:W n31=some (.cells #[.pointer (some ⟨p9,0,none⟩)] 90 (0,0)):=(jb.le la) _ _ (by rw[bz _ _ Zy,bh]);refine⟨_,aZ axA 0,Kf la λacK Pm IC=>?_⟩;obtain⟨L,cX⟩:∃L,e1 ba.cm.toNat ((bJ.take i).map (cV ba.g v))=L:=⟨_,rfl⟩;rw[cX] at IC;have aIP:∃cq:J bN,(mL ((bJ.take i).map (cV ba.g v))).take ba.cm.toNat=L:=⟨[],cX⟩;have ahk:(L.map (·.1)).Sublist ((mL ((bJ.take i).map (cV ba.g v))).map (·.1)):=by rw[<-cX];exact(sz _ _).map _
  have gF:=(vu ((bJ.take i).map (cV ba.g v))).map (·.1);have atE:((bJ.take i).map (cV ba.g v)).map (·.1)=bJ.take i:=by
   rw[e4];have:((λx:bN=>x.1)∘cV ba.g v)=λx=>x:=by funext x;rfl
   rw[this];exact Gv _
  rw[atE] at gF;have auE:∀m,Cc ba.cm (ba.g.map (·.1)) ((L.take m).map (·.1)):=λm=>by
   have gR:((L.take m).map (·.1)).Sublist (L.map (·.1)):=(sz _ _).map _;refine⟨λx M=>ET.2 x (oW ((gF.mem_iff (a:=x)).1 (ahk.mem (gR.mem M)))),(gF.nodup_iff.2 (ET.1.sublist (sz _ _))).sublist (gR.trans ahk),?_⟩;have:L.length<=ba.cm.toNat:=by rw[<-cX,zX];exact Nat.min_le_left _ _
   simp only[eb,iV];omega
  have ux:L.length<=16:=by
   have:L.length<=ba.cm.toNat:=by rw[<-cX,zX];exact Nat.min_le_left _ _
   omega
  have aaE:w.le Pm:=aaI.trans IC.le;have awI:∀g,acK.al=some g->EH g=none/\∃z,Pm g=some z:=λg Z=>by have h1:=IC.fresh g Z;exact⟨ch.fresh (aaI.none h1),fp.1 (vc IC Z)⟩
  have aJ0:=IC.fk.len;refine⟨λk x=>0<=k/\k<=L.length/\∃aY Bo,In ak x aY b ba/\nz aY x id Bo/\gM Pm EH x aY/\Bo.p=n7/\Bo.sv=sv/\Bo.v=v/\Bo.top=top/\
    ∀(j:O) l,Bo.kn[j]?=some l->(j=lv.toNat/\l=(L.take k.toNat).map (·.1))∨(j≠lv.toNat/\nd.kn[j]?=some l),λk _=>L.length-k.toNat,
   ⟨by omega,by omega,EH,nd,ch.mono aaE,Yc.bO (λ_ _=>rfl) λc z ac _=>aaE c z ac,gM.refl _ _,hx.ED,hx.es,hx.Q0,hx.HT,λj l aq=>?_⟩,?_⟩
  by_cases e:j=lv.toNat;have:=(hx.od j l aq).2 (by omega);exact .inl ⟨e,by simpa using this⟩;exact .inr ⟨e,aq⟩;rintro k x ⟨iu,cB,aY,Bo,th,Ic,rz,aT,aN,dG,gz,kj⟩;refine⟨λhW=>?_,λZi=>?_⟩;have aaK:lL x acK L:=bw.else IC.fk λg z Z ac=>rz.bO g z ac (awI g Z).1;obtain⟨aAb,awr,y,aj,hJ,ii,jI⟩:=aaK.at iu hW;obtain⟨s,l,ea,dJ,I,ac,A8⟩:=xR Ic (lv:=lv.toNat) (by omega);have aq:l=(L.take k.toNat).map (·.1):=by rcases kj _ l dJ with⟨_,h1⟩|⟨h1,_⟩;exact h1;exact bf rfl h1
  rw[aT] at I;refine⟨aAb,awr,⟨iu,hW⟩,_,hJ,_,ii,_,jI,by decide,⟨oN,by omega⟩,s,I,?_⟩;have C1:=ac.ints.len;have aJo:l.length<=16:=by rw[aq];simp;omega
  refine zT kK (yA y.1) (by decide) rfl (by simp[cI]) ac (by omega) (by omega) λar x2 bR hY fW eB _=>⟨by decide,⟨oN,by omega⟩,?_⟩;have nb:l.flatMap encI++ [.int .i64 y.1]=(l++ [y.1]).flatMap encI:=by simp[encI]
  rw[nb] at bR;unfold aG;rw[Jl,<-aT];have ry:s.al≠some Bo.p:=λe=>by have:=A8 _ e;rw[Ic.tag] at this;cases this
  refine adz (fW _ _ Ic.cell ry) Ic.u4 (by omega) (l++ [y.1]) ?_;obtain⟨pc,X9,aC⟩:=Ic.level th.known ea bR fW eB;have vU:=th.aBp cy aC;refine⟨⟨by omega,by omega⟩,⟨by omega,by omega,pc,_,vU,X9,rz.trans aC.eJ,rfl,aN,dG,gz,λj eZ iR=>?_⟩,by dsimp only;omega⟩;rcases O0 iR with⟨h1,h2⟩|⟨h1,h2⟩;refine .inl ⟨h1,?_⟩;rw[h2,aq,show(k+1).toNat=k.toNat+1 by omega,fN,aj];simp;rcases kj j eZ h2 with⟨h3,_⟩|⟨_,h3⟩;exact bf h3 h1;exact .inr ⟨h1,h3⟩;have aJk:k.toNat=L.length:=by omega
  refine⟨⟨by omega,by omega⟩,⟨by omega,by omega,aY,Bo,⟨th,Ic,(hx.eJ.trans (gM.mono aaE)).trans rz,aT,aN,dG,gz,λj l aq=>?_⟩⟩,by dsimp only;omega⟩;rcases kj j l aq with⟨h1,h2⟩|⟨h1,h2⟩;rw[h2];exact⟨auE _,λaP=>by omega⟩;obtain⟨h3,br⟩:=hx.od j l h2;exact⟨h3,λaP=>br (by omega)⟩;refine⟨_,aZ oS 0,_,rfl,_,hh,put ch Yc hx.ED λUX jR ajA=>?_⟩;have gu:qw ba.dim ba.cm (ba.g++ [(id,nd)]):=afd hx.Q0 hx.HT λj l aq=>(hx.od j l aq).1;have MB:=ajA.bO _ _ oS YY;have auC:eS (ba.g++ [(id,nd)]) id=some nd:=by rw[XG cy,b3 rfl]
  have og:((ba.g++ [(id,nd)]).map (·.1)).Nodup:=jR.aJ.nodup;have awE:fw (ba.g++ [(id,nd)])=fw ba.g++ [(id,v)]:=by simp[fw,hx.Q0]
  have H4:Ww ak UX EH b ba (ba.g++ [(id,nd)]) id nd (λj _=>0<=j) UX:=⟨EH,_,jR,gM.refl _ _,Alike.refl _,gu,auC,λa n j l an ag aq _=>by rw[XG cy,bF an] at ag;exact λhm=>cy (r8.k.ok.known _ (iC ag) l (dz aq) id hm)⟩
  refine⟨λj W=>0<=j/\j<=31/\Ww ak UX EH b ba (ba.g++ [(id,nd)]) id nd (λi _=>j.toNat<=i) W,λj _=>(31-j).toNat,⟨by omega,by omega,H4⟩,?_⟩;rintro j W ⟨e9,kU,cH⟩;refine⟨λaP=>?_,λaP=>?_⟩;obtain⟨aY,b5,th,rz,RA,dk,RS,E2⟩:=cH;obtain⟨s,l,ea,dJ,I,ac,A8⟩:=xR (th.aJ.node RS) (lv:=j.toNat) (by omega);have auq:=hx.ED;rw[auq] at I;have vS:=(hx.od _ l dJ).1;have C1:=ac.ints.len;have Mv:=ac.ints.max;refine⟨by decide,⟨e9,aP⟩,s,I,?_⟩;refine⟨λk y=>0<=k/\k<=l.length/\Ww ak UX EH b ba (ba.g++ [(id,nd)]) id nd (λi a=>j.toNat<i∨(i=j.toNat/\a∉l.take k.toNat)) y,λk _=>l.length-k.toNat,
   ⟨by omega,by omega,aY,b5,th,rz,RA,dk,RS,λa n i eZ h1 h2 h3 br=>E2 a n i eZ h1 h2 h3 (by omega)⟩,?_⟩
  rintro k y ⟨iu,cB,Rl⟩;refine⟨λhW=>?_,λZi=>?_⟩;obtain⟨iq,g3,kR,p1,vR,iQ,RT,Mg⟩:=Rl;have pP:=kR.aJ.node RT;obtain⟨s2,eZ,aT,aN,_,dt,_⟩:=xR pP (lv:=j.toNat) (by omega);rw[ea] at aT;cases aT;rw[dJ] at aN;cases aN;obtain⟨q,Sn,L5⟩:=dt.ints.at iu hW;have IW:l[k.toNat]?=some (l.getD k.toNat 0):=getD_some (by omega);have wc:=vS.sub _ (dz IW);have aaO:l.getD k.toNat 0≠id:=λe=>cy (e▸wc);have aip:g3.map (·.1)=ba.g.map (·.1)++ [id]:=by rw[vR.ids];simp
  obtain⟨fb,uP⟩:=yM (g:=g3) (id:=l.getD k.toNat 0) (by rw[aip];exact kG _ wc);have Yb:=kR.aJ.node uP;obtain⟨J5,NK,Y,a2,_,_,_⟩:=xR Yb (lv:=j.toNat) (by omega);have Zn:NK.length<=1000000:=by have h1:=(iQ.many _ _ _ _ uP a2).1;have:=(abA (lv:=((j.toNat:O):o)) sf).2;omega
  have av1:l.getD k.toNat 0∉l.take k.toNat:=λhm=>by
   obtain⟨i,hi,e⟩:=pv.1 hm;simp only[iV] at hi;have auN:i<l.length:=by omega
   have vW:k.toNat<l.length:=by omega
   have:=lW.1 vS.nodup i k.toNat auN vW (by omega);rw[JP,jX,dj vW] at e;exact this e
  have e8:=Mg _ fb j.toNat NK aaO uP a2 (.inr ⟨rfl,av1⟩);have RY:id∈g3.map (·.1):=by rw[aip];simp
  refine⟨q,Sn,⟨iu,hW⟩,_,L5,_,aZ (p1.bO _ _ MB YY) 0,?_⟩;refine amJ kR iQ.ok sf uP RY e9 (by omega) a2 Zn λHb ar9 lH FV auW awX avd=>⟨⟨by omega,by omega⟩,⟨by omega,by omega,ar9,_,auW,p1.trans awX,vR.trans (Alike.jY uP _ _ _),?_,?_,?_⟩,by dsimp only;omega⟩;exact iQ.akj kR.aJ.nodup uP e9 lH a2 avd RY (e3 aaO) e8;rw[Ly,bF (e3 aaO)];exact RT;intro a n i u5 h1 h2 h3 br;rw[Ly] at h2;by_cases e:a=l.getD k.toNat 0;rw[b3 e] at h2;rw[e,uP] at h2;cases h2;have bP:j.toNat<i:=by rcases br with br|⟨_,br⟩;exact br;exfalso;apply br;rw[e,show(k+1).toNat=k.toNat+1 by omega,fN,IW];simp
  rcases O0 h3 with⟨bL,_⟩|⟨_,bL⟩;omega;exact Mg _ fb i u5 (by rw[<-e];exact h1) uP bL (.inl bP);rw[bF e] at h2;refine Mg a n i u5 h1 h2 h3 ?_;rcases br with br|⟨br,bL⟩;exact .inl br;refine .inr ⟨br,λhm=>bL ?_⟩;rw[show(k+1).toNat=k.toNat+1 by omega,fN];exact kG _ hm;obtain⟨iq,g3,kR,p1,vR,iQ,RT,Mg⟩:=Rl;exact⟨⟨by omega,by omega⟩,⟨by omega,by omega,iq,g3,kR,p1,vR,iQ,RT,λa n i u5 h1 h2 h3 br=>Mg a n i u5 h1 h2 h3 (.inl (by omega))⟩,by dsimp only;omega⟩;obtain⟨aY,b5,th,rz,RA,dk,RS,_⟩:=cH;have aaR:=rz.bO _ _ MB YY;obtain⟨_,_,_,z3,z4⟩:=k1 th.aJ;have ah8:ba.entry∈b5.map (·.1):=by rw[RA.ids];simp only[en];exact kG _ uD
  have RY:id∈b5.map (·.1):=bQ.2 ⟨_,iC RS,rfl⟩;have kT:fw b5=fw ba.g++ [(id,v)]:=by rw[RA.rows og];exact awE
  have Sz:gM jg HU W aY:=(hx.eJ.trans ajA).trans rz;refine⟨_,aZ aaR 0,_,rfl,_,z3,_,aZ aaR 0,_,rfl,_,z4,vt th.aJ ah8 λn _ eP=>⟨_,rfl,n.top,?_,λ_=>⟨_,aZ aaR 0,_,rfl,Ut th.aJ (e:=id) ?_⟩,λ_=>?_⟩⟩;rw[ib,kY,F4 eP];exact Tb eP.u4;obtain⟨cB,cW⟩:=th.OZ id;exact fin _ _ _ cB (Sz.trans cW) ⟨dk,sf,.inr RY⟩ kT rfl rfl;exact fin _ _ _ th Sz ⟨dk,sf,.inr ah8⟩ kT rfl rfl)
 obtain⟨ne,an⟩:=yM uD
 refine⟨_,aZ Cs 0,_,rfl,_,d3,_,aZ Cs 0,_,rfl,_,d4,vt kP.aJ uD λn ag eP=>⟨_,rfl,n.top,?_,?_⟩⟩
 rw[ib,kY,F4 eP];exact Tb eP.u4
 have:=r8.k.ok.top _ (iC ag)
 simp only at this
 exact start _ (by split<;>omega) (by split<;>omega)
end
end eu
section
variable{u:H}{n:O}{dim:o}{L:J ax}{s:N}
def OO(s:N)(ls:J ax):J N:=s::ls.map (·.s)
theorem aCx{ls:J ax}{ak:H}{K:H->Prop}(h:re ak u s ls)(au:∀u',ak.le u'->jL (OO s ls) u u'->K u'):VM s u K:=by
 have dS:=h.rws.len;have ajx:=h.rws.max;apply aGq;have e8:∀g,s.al=some g->ak g=none:=h.own.fresh;refine⟨λi w=>0<=i/\i<=ls.length/\aD ak w 52 2 s ((fz i.toNat (⟨0,⟨none,0,0⟩,[]⟩:ax)++ls.drop i.toNat).flatMap cJ)/\(∀r∈ls.drop i.toNat,aD ak w 3 1 r.s (r.v.flatMap encI))/\jL (OO s ls) u w,
  λi _=>ls.length-i.toNat,⟨by omega,by omega,by simpa using h.own,by simpa using h.inner,jL.refl _ _⟩,?_⟩
 rintro i w ⟨i0,i1,ac,ch,iE⟩;refine⟨λey=>?_,λCW=>au w ac.le iE⟩;have hi:i.toNat<ls.length:=by omega
 obtain⟨r,U⟩:∃r,ls[i.toNat]?=some r:=⟨_,dj hi⟩;have fR:r∈ls:=dz U;have uB:ls.drop i.toNat=r::ls.drop (i.toNat+1):=by rw[qV hi];rw[dj hi] at U;rw[eh U]
 have uG:(fz i.toNat (⟨0,⟨none,0,0⟩,[]⟩:ax)++ls.drop i.toNat)[i.toNat]?=some r:=by grind
 have ZG:aD ak w 3 1 r.s (r.v.flatMap encI):=ch r (by rw[uB];exact .head _);have tt:∀g,s.al=some g->r.s.al≠some g:=h.ej r fR;have aAG:∀{dF:H},aD ak dF 52 2 s ((fz i.toNat (⟨0,⟨none,0,0⟩,[]⟩:ax)++ls.drop i.toNat).flatMap cJ)->∃p,s.a=some p/\dF.cell? ((p.add (i.toNat*2)).add 1)=some (.slice r.s.a r.s.n r.s.c):=λDc=>by obtain⟨p,ad,I⟩:=bw.elem fO (by decide) Dc.own.cK uG;exact⟨p,ad,I 1 _ rfl⟩
 refine⟨λk dF=>0<=k/\k<=r.v.length/\aD ak dF 52 2 s ((fz i.toNat (⟨0,⟨none,0,0⟩,[]⟩:ax)++ls.drop i.toNat).flatMap cJ)/\(∀cx∈ls.drop (i.toNat+1),aD ak dF 3 1 cx.s (cx.v.flatMap encI))/\
   (∃b9:J o,b9.length=r.v.length/\aD ak dF 3 1 r.s (b9.flatMap encI))/\jL (OO s ls) u dF,λk _=>r.v.length-k.toNat,
  ⟨by omega,by omega,ac,λcx cU=>ch cx (by grind),⟨r.v,rfl,ZG⟩,iE⟩,?_⟩
 rintro k dF ⟨iu,cB,dt,kR,⟨b9,gS,oh⟩,aiy⟩;obtain⟨p,ad,I⟩:=aAG dt;have nN:=oh.ints.len;have aaC:=oh.ints.max;refine⟨p,ad,⟨i0,ey⟩,r.s,I,λhW=>?_,λZi=>?_⟩;obtain⟨q,aL,L5⟩:=oh.ints.at iu hW;refine⟨p,ad,⟨i0,ey⟩,p,ad,⟨i0,ey⟩,r.s,I,r.s,I,q,aL,⟨iu,hW⟩,_,L5,q,aL,⟨iu,hW⟩,?_⟩;refine aD.store (enc:=encI) j4 oh (by decide) (i:=k.toNat) (by omega) (y:=bits .xor .i64 (b9.getD k.toNat 0) 60) (s4 _) aL λhh jT se _=>⟨⟨by omega,by omega⟩,⟨by omega,by omega,?_,λcx cU=>?_,⟨_,by simpa using gS,jT⟩,aiy.trans (se.bO (by simp[OO];grind))⟩,by dsimp only;omega⟩;exact aD.else dt se (λg Z=>oh.fresh g Z) λg Z e=>tt g e Z;have mb:cx∈ls:=tQ cU;refine aD.else (kR cx cU) se (λg Z=>oh.fresh g Z) λg Z=>?_;have M0:=h.apart;rw[<-px i.toNat ls,uB] at M0;have h2:=(ix.1 (tP.1 M0).2.1).1 cx cU;exact h2 g Z;refine⟨p,ad,⟨i0,ey⟩,?_⟩;refine aD.store (enc:=cJ) fO dt (by decide) (i:=i.toNat) (by simp;omega) (y:=⟨0,⟨none,0,0⟩,[]⟩) (HQ _) ad λhh jT se _=>⟨⟨by omega,by omega⟩,⟨by omega,by omega,?_,λcx cU=>?_,aiy.trans (se.bO (by simp[OO]))⟩,by dsimp only;omega⟩;have j7:(fz i.toNat (⟨0,⟨none,0,0⟩,[]⟩:ax)++ls.drop i.toNat).set i.toNat ⟨0,⟨none,0,0⟩,[]⟩=fz (i+1).toNat (⟨0,⟨none,0,0⟩,[]⟩:ax)++ls.drop (i+1).toNat:=by rw[uB];have:=O1 (fz i.toNat (⟨0,⟨none,0,0⟩,[]⟩:ax)) r ⟨0,⟨none,0,0⟩,[]⟩ (ls.drop (i.toNat+1));rw[Oy] at this;rw[this,show(i+1).toNat=i.toNat+1 by omega,List.replicate_succ'];simp
 rw[j7] at jT;exact jT;rw[show(i+1).toNat=i.toNat+1 by omega] at cU;have mb:cx∈ls:=tQ cU;exact aD.else (kR cx cU) se e8 λg Z=>h.ej cx mb g Z
structure TabAt(u:H)(n:O)(dim:o)(L:J ax):Prop where
 ex:∃(s:N) (v:H),u n=some (.cells #[.int .i64 dim,.slice s.a s.n s.c] 84 (0,0))/\v.le u/\v n=none/\dU v s L
 sJ:L.Pairwise λa b=>a.id<b.id
def TabAt.bO{u':H}(h:TabAt u n dim L)(hu:u.le u'):TabAt u' n dim L:=by obtain⟨s,v,h1,h2,h3,br⟩:=h.ex;exact⟨⟨s,v,hu _ _ h1,h2.trans hu,h3,br⟩,h.sJ⟩
abbrev vB:=o×J o
def DT(P:J vB)(id:o)(v:J o):J vB:=P.filter (λp=>decide (p.1<id))++(id,v)::P.filter (λp=>decide (id<p.1))
def Kj(P:J vB)(id:o):J vB:=P.filter λp=>p.1 !=id
theorem ann(ae:L.Pairwise λa b=>a.id<b.id){id:o}{k:O}(hk:k<=L.length)(h1:∀(i:O) r,i<k->L[i]?=some r->r.id<id)(h2:∀r,L[k]?=some r->id<=r.id):
  L.take k=L.filter (λr=>decide (r.id<id))/\(∀r,L[k]?=some r->r.id≠id->L.drop k=L.filter (λr=>decide (id<r.id))/\∀r∈L,r.id≠id)/\(L.length<=k->L.filter (λr=>decide (id<r.id))=[]/\∀r∈L,r.id≠id)/\
  (∀r,L[k]?=some r->r.id=id->L.drop (k+1)=L.filter (λr=>decide (id<r.id))):=by
 have hx:∀r∈L.take k,r.id<id:=λr U=>by
  obtain⟨i,hi,rfl⟩:=pv.1 U
  grind
 have cH:∀r∈L.drop k,id<=r.id:=λr U=>by
  obtain⟨i,hi,rfl⟩:=pv.1 U;simp only[rO] at hi;have dk:k<L.length:=by omega
  have h0:=h2 _ (dj dk);rw[TJ];rcases TK i with rfl|ad;exact h0;have:=lW.1 ae k (k+i) dk (by omega) (by omega);omega
 have cX:L=L.take k++L.drop k:=(px k L).symm
 have aT:L.filter (λr=>decide (r.id<id))=L.take k:=by
  conv=>lhs;rw[cX]
  rw[BB,qe.2 λr U=>by simpa using hx r U,acx.2 λr U=>by have:=cH r U;simp;omega,ml]
 have aN:L.filter (λr=>decide (id<r.id))=(L.drop k).filter (λr=>decide (id<r.id)):=by
  conv=>lhs;rw[cX]
  rw[BB,acx.2 λr U=>by have:=hx r U;simp;omega,mm]
 have xf:∀r,L[k]?=some r->∀cx∈L.drop (k+1),r.id<cx.id:=λr U cx cU=>by obtain⟨dk,rfl⟩:=hG.1 U;obtain⟨i,hi,rfl⟩:=pv.1 cU;simp only[rO] at hi;rw[TJ];exact lW.1 ae k (k+1+i) dk (by omega) (by omega)
 refine⟨aT.symm,λr U an=>?_,λaq=>?_,λr U he=>?_⟩
 obtain⟨dk,Z0⟩:=hG.1 U
 have hF:=h2 r U
 have eL:∀cx∈L.drop k,id<cx.id:=λcx cU=>by
  rw[qV dk,Z0] at cU
  grind
 refine⟨by rw[aN,qe.2 λr U=>by simpa using eL r U],λcx cU=>?_⟩
 rw[cX] at cU
 grind
 grind
 obtain⟨dk,Z0⟩:=hG.1 U
 rw[aN,qV dk,Z0,Oz]
 have:decide (id<r.id)=ao:=by simp;omega
 rw[this]
 simp only[Dw,Gn]
 rw[qe.2 λcx cU=>by have:=xf r U cx cU;simp;omega]
def ak7(L:J ax)(f:vB->ay):(L.filter λr=>f r.bn).map ax.bn=(L.map ax.bn).filter f:=by rw[sB];rfl
def ak9(L:J ax)(id:o):(L.filter λr=>decide (r.id<id)).map ax.bn=(L.map ax.bn).filter λp=>decide (p.1<id):=ak7 L λp=>decide (p.1<id)
def ak8(L:J ax)(id:o):(L.filter λr=>decide (id<r.id)).map ax.bn=(L.map ax.bn).filter λp=>decide (id<p.1):=ak7 L λp=>decide (id<p.1)
theorem aDe(ae:L.Pairwise λa b=>a.id<b.id){r:ax}:(L.filter (λx=>decide (x.id<r.id))++r::L.filter (λx=>decide (r.id<x.id))).Pairwise λa b=>a.id<b.id:=by
 refine tP.2 ⟨ae.sublist JW,ix.2 ⟨λx M=>by grind,ae.sublist JW⟩,λa az b aa=>?_⟩
 grind
def anq{ar:N}{f:H->Prop}(ag:u n=some (.cells #[.int .i64 dim,.slice s.a s.n s.c] 84 (0,0)))(ab:f (u.ins n (.cells #[.int .i64 dim,.slice ar.a ar.n ar.c] 84 (0,0)))):
  H.aM u ((cp n 0 none).add 1) [.slice ar.a ar.n ar.c] f:=by
 rw[yx]
 refine⟨_,_,ag,rfl,by simp,by simp[cI],?_⟩
 have:wr #[.int .i64 dim,.slice s.a s.n s.c] 1 [.slice ar.a ar.n ar.c]=#[.int .i64 dim,.slice ar.a ar.n ar.c]:=by simp[wr]
 simp only[this]
 exact ab
def dU.nil(u:H):dU u ⟨none,0,0⟩ []:=⟨⟨rfl,cw _,by decide,.inl rfl⟩,λ_ h=>by cases h⟩
theorem anG{G3:H}{ar:N}{v:H}{eo:J ax}(hu:u.le G3)(ag:u n=some (.cells #[.int .i64 dim,.slice s.a s.n s.c] 84 (0,0)))(aB:v.le u)(nN:v n=none)
  (ac:aD u G3 52 2 ar (eo.flatMap cJ)) (ch:∀r∈eo,Ints v r.s r.v∨(Ints G3 r.s r.v/\∀g,r.s.al=some g->u g=none)) (ae:eo.Pairwise λa b=>a.id<b.id):
  TabAt (G3.ins n (.cells #[.int .i64 dim,.slice ar.a ar.n ar.c] 84 (0,0))) n dim eo/\∀c z,u c=some z->c≠n->(G3.ins n (.cells #[.int .i64 dim,.slice ar.a ar.n ar.c] 84 (0,0))) c=some z:=by
 let w:H:=λc=>if c=n then none else G3 c
 have e5:w n=none:=b3 rfl
 have dF:∀c,c≠n->w c=G3 c:=λc I=>bF I
 have Z:∀g,ar.al=some g->g≠n:=λg Z e=>by have:=ac.fresh g Z;grind
 refine⟨⟨⟨ar,w,bh _ _ _,λc z I=>?_,e5,?_,λr U=>?_⟩,ae⟩,λc z I an=>by rw[bz _ _ an];exact hu c z I⟩
 by_cases e:c=n
 grind
 rw[dF c e] at I;rw[bz _ _ e];exact I
 exact bw.else ac.own.cK λg z h1 h2=>by grind
 rcases ch r U with h1|⟨h1,h2⟩
 refine Ints.mono h1 λc z I=>?_
 have:c≠n:=λe=>by grind
 rw[dF c this];exact hu c z (aB c z I)
 refine bw.else h1 λg z h3 br=>?_
 grind
theorem aCX{id:o}{K:ay->H->Prop}(h:TabAt u n dim L)(aq:L.length<=1000000)
  (dR:(∀r∈L,r.id≠id)->K ao u) (jD:(∃r∈L,r.id=id)->∀u' eo,TabAt u' n dim eo->eo.map ax.bn=Kj (L.map ax.bn) id->(∀c z,u c=some z->c≠n->u' c=some z)->K ai u'):KI (some ⟨n,0,none⟩) id u K:=by
 obtain⟨s,v,ag,aB,nN,b7⟩:=h.ex
 have my:=b7.mono aB
 have dS:=my.len
 have ajx:=my.max
 have c1:u.cell? ((cp n 0 none).add 1)=some (.slice s.a s.n s.c):=by rw[yx];exact aZ ag 1
 have fQ:=bw.cap my.1
 apply aG6
 refine⟨_,rfl,s,c1,adq my (λi r U cy=>⟨λh0=>by omega,λ_=>?_⟩) λan=>⟨λ_=>dR an,λh0=>bf (by decide) h0⟩⟩
 have ey:i<L.length:=(hG.1 U).1
 refine⟨_,rfl,s,c1,?_⟩
 refine kJ (P:=aH) ig (l:=0) (h:=i) (m:=s.c) (.inl ⟨rfl,rfl⟩) (.inr rfl) (.inl ⟨rfl,rfl⟩) (by omega) (by omega) (cw _) fQ ?_
 have hx:=my.part (l:=0) (h:=i) (m:=s.c) (by omega) (by omega) (by omega) (cw _)
 simp only[DA,zI] at hx
 have XV:(s.part 0 i s.c 2).n=i:=by simp[N.part]
 have MD:∀(cq:J ax),∀y∈cq.flatMap cJ,y.oneCell'=ai:=λcq y aj=>by obtain⟨r,_,U⟩:=eA.1 aj;exact HQ r y U
 have avZ:aD u u 52 2 ⟨none,0,0⟩ []:=aD.nil (H.le.refl u) 52 2
 refine BJ (s:=⟨none,0,0⟩) (x:=s.part 0 i s.c 2) ig (by decide) avZ hx.1 (MD _) (by grind) (by grind) λga o0 oO rr=>⟨_,rfl,s,by rw[yx];exact aZ (oO.le _ _ ag) 1,⟨by omega,by omega⟩,?_⟩
 have atp:=my.mono oO.le
 refine kJ (P:=aH) ig (l:=i+1) (h:=s.n) (m:=s.c) (.inr rfl) (.inl ⟨rfl,rfl⟩) (.inl ⟨rfl,rfl⟩) (by omega) fQ (cw _) fQ ?_
 have cH:=atp.part (l:=i+1) (h:=s.n) (m:=s.c) (by omega) (cw _) fQ (cw _)
 rw[gC (by simp;omega)] at cH
 have ag2:(s.part (i+1) s.n s.c 2).n=s.n-(i+1):=rfl
 rw[XV] at rr
 have aJB:ga.n=i:=by grind
 refine BJ (s:=ga) (x:=s.part (i+1) s.n s.c 2) ig (by decide) oO cH.1 (MD _) (by rw[ag2];omega) (by rw[ag2];omega) λGD z1 za _=>⟨_,rfl,anq (za.le _ _ ag) ?_⟩
 rw[mm,<-hb] at za
 have gR:(L.take i++L.drop (i+1)).Sublist L:=by have:=(List.eraseIdx_sublist L i);rw[List.eraseIdx_eq_take_drop_succ] at this;exact this
 obtain⟨cB,cW⟩:=anG za.le ag aB nN za (λcx cU=>.inl (b7.2 cx (gR.mem cU))) (h.sJ.sublist gR)
 refine jD ⟨r,dz U,cy⟩ _ _ cB ?_ cW
 obtain⟨aT,_,_,gz⟩:=ann h.sJ (id:=id) (k:=i) (by omega) (λj cx aP cU=>by obtain⟨h1,rfl⟩:=hG.1 cU;obtain⟨h2,h3⟩:=hG.1 U;have:=lW.1 h.sJ j i h1 h2 aP;rw[h3] at this;omega) (λcx cU=>by grind)
 rw[aT,gz r U cy,en]
 rw[ak9,ak8]
 unfold Kj
 have ry:(L.map ax.bn).Pairwise λa b=>a.1<b.1:=tR.2 h.sJ
 generalize L.map ax.bn=P at ry
 clear aT gz cB cW za
 induction P with
 |nil=>rfl
 |cons p P aW=>
  obtain⟨ad,ep⟩:=ix.1 ry;have:=aW ep;rcases Int.lt_trichotomy p.1 id with h1|h1|h1;have Y:decide (p.1<id)=ai:=by simpa using h1
  have a2:decide (id<p.1)=ao:=by simp;omega
  have a3:(p.1 !=id)=ai:=by simp;omega
  grind
  grind
  have Y:decide (p.1<id)=ao:=by simp;omega
  have a2:decide (id<p.1)=ai:=by simpa using h1
  have a3:(p.1 !=id)=ai:=by simp;omega
  have nil:P.filter (λp=>decide (p.1<id))=[]:=acx.2 λx M=>by grind
  grind
theorem am6{id:o}{t:N}{q:J o}{K:ay->o->H->Prop}(h:TabAt u n dim L)(aq:L.length<=1000000)(ht:Ints u t q)
  (dq:eM id q dim (decide (id∈L.map (·.id))) L.length≠0->K ao (eM id q dim (decide (id∈L.map (·.id))) L.length) u)
  (bM:eM id q dim (decide (id∈L.map (·.id))) L.length=0->∀u' eo,TabAt u' n dim eo->eo.map ax.bn=DT (L.map ax.bn) id q->(∀c z,u c=some z->c≠n->u' c=some z)->K (decide (id∉L.map (·.id))) 0 u'):Hn (some ⟨n,0,none⟩) id t u K:=by
 obtain⟨s,v,ag,aB,nN,b7⟩:=h.ex
 have my:=b7.mono aB
 have dS:=my.len
 have ajx:=my.max
 have bA:u.cell? ⟨n,0,none⟩=some (.int .i64 dim):=aZ ag 0
 have c1:u.cell? ((cp n 0 none).add 1)=some (.slice s.a s.n s.c):=by rw[yx];exact aZ ag 1
 have fQ:=bw.cap my.1
 have MD:∀(cq:J ax),∀y∈cq.flatMap cJ,y.oneCell'=ai:=λcq y aj=>by obtain⟨r,_,U⟩:=eA.1 aj;exact HQ r y U
 have bad:∀W,eM id q dim (decide (id∈L.map (·.id))) L.length=W->W≠0->K ao W u:=λW e aE=>by subst e;exact dq aE
 apply aG7
 refine adm ⟨λdR=>bad 50 ?_ (by decide),λcy=>?_⟩
 have:¬(1<=id/\id<=1000000000):=by simpa using dR
 unfold eM;rw[b3 (by omega)]
 have aio:1<=id/\id<=1000000000:=by simpa using cy
 have avY:¬(id<1∨1000000000<id):=by omega
 refine⟨_,rfl,dim,bA,Ke ht ⟨λan=>bad _ ?_ an,λhe=>?_⟩⟩
 unfold eM;omega
 intro Wr as5
 have found:∀k:O,k<=L.length->(∀(i:O) r,i<k->L[i]?=some r->r.id<id)->(∀r,L[k]?=some r->id<=r.id)->Wr k u:=by
  intro k hk h1 h2;obtain⟨aT,aN,dG,gz⟩:=ann h.sJ hk h1 h2;refine as5 _ _ λEc EO=>?_;have fresh:∀c0:ay,(c0=ai↔id∉L.map (·.id))->(c0=ao->∃r,L[k]?=some r/\r.id=id)->(c0=ai->L.drop k=L.filter (λr=>decide (id<r.id)))->Ec c0 u:=by
   intro c0 nG xi L2;refine EO _ _ λae1 X3=>?_;have put:(c0=ai->L.length<512)->∀afj aoy,ae1 afj aoy u:=by
    intro fX afj aoy;refine X3 _ _ _ ⟨_,rfl,s,c1,?_⟩;refine kJ (P:=aH) ig (l:=k) (h:=s.n) (m:=s.c) (.inr rfl) (.inl ⟨rfl,rfl⟩) (.inl ⟨rfl,rfl⟩) (by omega) fQ (cw _) fQ ?_;intro apa as1;have rest:∀(BH:N),dU u BH (L.filter λr=>decide (id<r.id))->BH.n<=L.length->apa BH u:=by
     intro BH CL aIG;have ZW:=ht.len;have aJP:q.length<=64:=by have:=n1 he;omega
     have avQ:aD u u 3 1 ⟨none,0,0⟩ []:=aD.nil (H.le.refl u) 3 1;have sj:bw u t 1 (q.flatMap encI):=by have:=ht;unfold Ints at this;rw[<-r3] at this;exact this
     refine as1 _ _ (BJ (s:=⟨none,0,0⟩) (x:=t) kK (by decide) avQ sj (λy aj=>by obtain⟨r,_,U⟩:=eA.1 aj;exact s4 r y U) (by show 0+t.n<=_;omega) (by grind) λiZ kL ru _=>?_)
     rw[mm] at ru;have ML:=ru.le _ _ ag;refine⟨_,rfl,s,by rw[yx];exact aZ ML 1,?_⟩;refine kJ (P:=aH) ig (l:=0) (h:=k) (m:=s.c) (.inl ⟨rfl,rfl⟩) (.inr rfl) (.inl ⟨rfl,rfl⟩) (by omega) (by omega) (cw _) fQ ?_;have hx:=(my.mono ru.le).part (l:=0) (h:=k) (m:=s.c) (by omega) (by omega) (by omega) (cw _);simp only[DA,zI] at hx;have XV:(s.part 0 k s.c 2).n=k:=by simp[N.part]
     have avR:aD kL kL 52 2 ⟨none,0,0⟩ []:=aD.nil (H.le.refl kL) 52 2;refine BJ (s:=⟨none,0,0⟩) (x:=s.part 0 k s.c 2) ig (by decide) avR hx.1 (MD _) (by grind) (by grind) λaAS adR Si aiV=>?_;rw[XV] at aiV;have aJy:aAS.n=k:=by grind
     rw[mm] at Si;refine mn ig (vI id iZ) (by decide) rfl (by simp[cI]) Si (by omega) (by omega) λpz mM xA Sc _ _ _=>?_;have nb:(L.take k).flatMap cJ++ [.int .i64 id,.slice iZ.a iZ.n iZ.c]=(L.take k++ [(⟨id,iZ,q⟩:ax)]).flatMap cJ:=by simp[cJ]
     rw[nb] at xA;have avm:u.le mM:=ru.le.trans xA.le;refine BJ (s:=pz) (x:=BH) ig (by decide) xA (CL.mono avm).1 (MD _) (by omega) (by omega) λaKL anT uQ _=>⟨_,rfl,anq (uQ.le _ _ ML) ?_⟩;rw[<-hb] at uQ;have LL:L.take k++ [(⟨id,iZ,q⟩:ax)]++L.filter (λr=>decide (id<r.id))=L.filter (λx=>decide (x.id<id))++ ⟨id,iZ,q⟩::L.filter (λx=>decide (id<x.id)):=by rw[aT];simp
     rw[LL] at uQ;have mB:=aDe h.sJ (r:=(⟨id,iZ,q⟩:ax));have avn:u.le anT:=ru.le.trans uQ.le;have ch:∀r∈L.filter (λx=>decide (x.id<id))++(⟨id,iZ,q⟩:ax)::L.filter (λx=>decide (id<x.id)),Ints v r.s r.v∨(Ints anT r.s r.v/\∀g,r.s.al=some g->u g=none):=λr U=>by rcases dT.1 U with U|U;exact .inl (b7.2 r (kZ.1 U).1);rcases dM.1 U with rfl|U;exact .inr ⟨(ru.mono uQ.le).ints,λg Z=>ru.fresh g Z⟩;exact .inl (b7.2 r (kZ.1 U).1)
     obtain⟨cB,cW⟩:=anG avn ag aB nN (uQ.weaken ru.le) ch mB;have Ix:eM id q dim (decide (id∈L.map (·.id))) L.length=0:=by
      unfold eM;rw[bF avY,bF (by simpa using he),bF];rintro⟨bL,gA⟩;have kP:id∉L.map (·.id):=by simpa using bL
      have:=fX (nG.2 kP);omega
     have atU:decide (id∉L.map (·.id))=c0:=by
      cases c0 with
      |true=>exact jf (nG.1 rfl)|false=>exact q0 λbL=>by have:=nG.2 bL;cases this
     have:=bM Ix _ _ cB (by rw[en,iw,ak9,ak8];rfl) cW
     rw[atU] at this;exact this
    refine⟨λaa=>?_,λaa=>?_⟩;have atX:c0=ao:=by simpa using aa
    obtain⟨r,U,xG⟩:=xi atX;have hW:k<L.length:=(hG.1 U).1;refine⟨_,rfl,s,c1,⟨by omega,by omega⟩,?_⟩;refine kJ (P:=aH) ig (l:=k+1) (h:=s.n) (m:=s.c) (.inr rfl) (.inl ⟨rfl,rfl⟩) (.inl ⟨rfl,rfl⟩) (by omega) fQ (cw _) fQ ?_;have cH:=my.part (l:=k+1) (h:=s.n) (m:=s.c) (by omega) (cw _) fQ (cw _);rw[gC (by simp;omega),gz r U xG] at cH;exact rest _ cH (by show s.n-(k+1)<=_;omega);have cH:=my.part (l:=k) (h:=s.n) (m:=s.c) (by omega) (cw _) fQ (cw _);rw[gC (by simp;omega),L2 aa] at cH;exact rest _ cH (by show s.n-k<=_;omega)
   refine⟨λaa=>⟨_,rfl,s,c1,λR7=>bad 2 ?_ (by decide),λtf=>put (λ_=>by omega) _ _⟩,λaa=>put (λbL=>by rw[aa] at bL;cases bL) _ _⟩;have kP:id∉L.map (·.id):=nG.1 aa;unfold eM
   grind
  have akN:(∀r∈L,r.id≠id)->id∉L.map (·.id):=λbL hm=>by obtain⟨r,U,e⟩:=bQ.1 hm;exact bL r U e
  refine⟨_,rfl,s,c1,λZh=>?_,λZh=>?_⟩;have hW:L.length<=k:=by omega
  obtain⟨f1,f2⟩:=dG hW;exact fresh ai ⟨λ_=>akN f2,λ_=>rfl⟩ (λbL=>by cases bL) λ_=>by rw[f1,vi hW]
  have hW:k<L.length:=by omega
  obtain⟨p,ad,r,U,d0,d1,d2⟩:=my.at (x:=(k:o)) (by omega) (by omega);rw[zL] at U;refine⟨_,rfl,s,c1,p,ad,⟨by omega,by omega⟩,_,d0,?_⟩;by_cases xG:r.id=id;have:(!decide (r.id=id))=ao:=by simp[xG]
  dsimp only;rw[this];exact fresh ao ⟨λbL=>(by cases bL),λbL=>bf (bQ.2 ⟨r,dz U,xG⟩) bL⟩ (λ_=>⟨r,U,xG⟩) λbL=>by cases bL
  have:(!decide (r.id=id))=ai:=by simp[xG]
  dsimp only;rw[this];obtain⟨f1,f2⟩:=aN r U xG;exact fresh ai ⟨λ_=>akN f2,λ_=>rfl⟩ (λbL=>by cases bL) λ_=>f1
 refine⟨λi w=>w=u/\0<=i/\i<=L.length/\∀(j:O) r,j<i.toNat->L[j]?=some r->r.id<id,λi _=>L.length-i.toNat,⟨rfl,by omega,by omega,λj r aP=>by simp at aP⟩,?_⟩
 rintro i w ⟨rfl,i0,i1,Yy⟩
 intro aIm as4
 refine⟨_,rfl,s,c1,λey=>?_,λCW=>?_⟩
 obtain⟨p,ad,r,U,d0,d1,d2⟩:=my.at i0 ey
 refine⟨_,rfl,s,c1,p,ad,⟨i0,ey⟩,_,d0,λbP=>as4 _ ⟨⟨by omega,by omega⟩,⟨rfl,by omega,by omega,λj cx aP cU=>?_⟩,by dsimp only;omega⟩,λhF=>?_⟩
 by_cases e:j=i.toNat
 grind
 exact Yy j cx (by omega) cU
 have:=found i.toNat (by omega) Yy λcx cU=>by grind
 rw[JX i0] at this
 exact this
 have:=found i.toNat (by omega) Yy λcx cU=>by have:=(hG.1 cU).1;omega
 rw[JX i0] at this
 exact this
theorem aDY{P:J vB}{id:o}(h:id∉P.map (·.1))(v:J o):(DT P id v).Perm ((id,v)::P):=by
 unfold DT;refine zJ.trans (j9 _ ?_);induction P with
 |nil=>exact JV _|cons p P aW=>
  simp only[iw,dM,not_or] at h;have:=aW h.2;rcases Int.lt_trichotomy p.1 id with h1|h1|h1
  grind
  exact bf h1.symm h.1;have Y:decide (p.1<id)=ao:=by simp;omega
  have a2:decide (id<p.1)=ai:=by simpa using h1
  simp only[Oz,Y,a2,x5,Dw,Gn];exact zJ.trans (j9 _ this)
theorem ala{P Q:J vB}(ad:P.Pairwise λa b=>a.1<b.1)(aL:Q.Pairwise λa b=>a.1<b.1)(h:P.Perm Q):P=Q:=by
 induction P generalizing Q with
 |nil=>simp_all|cons p P aW=>
  cases Q with
  |nil=>grind|cons q Q=>
   obtain⟨h1,h2⟩:=ix.1 ad;obtain⟨h3,br⟩:=ix.1 aL
   grind
def TabAt.BF(h:TabAt u n dim L):(L.map ax.bn).Pairwise λa b=>a.1<b.1:=tR.2 h.sJ
def mC(L:J ax):L.map (·.id)=(L.map ax.bn).map (·.1):=by rw[e4];rfl
theorem aCV{l:J ax}{d:o}{K:aA a8->H->Prop}(ae:dU u s l)(aq:gD l d)(au:∀n u' L,u n=none->u.le u'->TabAt u' n d L->(L.map ax.bn).Perm (l.map ax.bn)->K (some ⟨n,0,none⟩) u'):KH s d u K:=by
 have dS:=ae.len;have hlen:=aq.len;apply aG3;intro n ag;have hle:=bX (u:=u) (b:=n) (.cells #[.int .i64 d,.slice none 0 0] 84 (0,0)) ag;refine⟨λi w=>0<=i/\i<=l.length/\u.le w/\∃L,TabAt w n d L/\(L.map ax.bn).Perm ((l.take i.toNat).map ax.bn),λi _=>l.length-i.toNat,
  ⟨by omega,by omega,hle,[],⟨⟨⟨none,0,0⟩,u,bh _ _ _,hle,ag,dU.nil u⟩,mG⟩,by simp⟩,?_⟩
 rintro i w ⟨i0,i1,hw,L,aV,ad⟩;refine⟨λey=>?_,λCW=>?_⟩;obtain⟨p,fL,r,U,bA,c1,c2⟩:=(ae.mono hw).at i0 ey;have hi:i.toNat<l.length:=by omega
 have fR:r∈l:=dz U;have ux:L.length=i.toNat:=by have:=ad.length_eq;simp at this;omega
 have xy:r.id∉L.map (·.id):=λhm=>by
  rw[mC] at hm;have tj:=((ad.map (·.1)).mem_iff (a:=r.id)).1 hm;rw[<-mC] at tj;obtain⟨cx,cU,e⟩:=bQ.1 tj;obtain⟨j,aP,rfl⟩:=pv.1 cU;simp only[iV] at aP;rw[JP] at e;have:=lW.1 aq.nodup j i.toNat (by simp;omega) (by simp;omega) (by omega);simp only[DD] at this
  grind
 have aB:=aq.v r fR;have cy:=aq.id r fR;have Ix:eM r.id r.v d (decide (r.id∈L.map (·.id))) L.length=0:=by
  unfold eM;rw[bF (by omega),bF,bF];rintro⟨_,h2⟩;omega;have:=xY aB.2 (by have:=aq.dim;have:=aB.1;omega)
  grind
 refine⟨p,fL,⟨i0,ey⟩,_,bA,_,c1,am6 aV (by omega) c2 (λh=>bf Ix h) λ_ u' eo dZ LL hk=>⟨⟨by omega,by omega⟩,⟨by omega,by omega,λc z I=>hk c z (hw c z I) λe=>(by grind),eo,dZ,?_⟩,by dsimp only;omega⟩⟩;rw[LL,show(i+1).toNat=i.toNat+1 by omega,fN,U,en];refine(aDY (by rw[<-mC];exact xy) r.v).trans ?_;refine(j9 _ ad).trans ?_;exact(mH _ _).symm;have hi:i.toNat=l.length:=by omega
 rw[hi,pt] at ad;exact au n w L ag hw aV ad
end
namespace eu
section
variable{u v ak B:H}{b aK cq ck:O}{q S:J o}{s:N}{k:o}{g:J (o×dp)}
def Ob(g:J (o×dp)):(jG g).length=g.length:=by simp[jG]
def amE{ah:O->aA bB}{T:aU}{K:o->H->Prop}(h:ee ah u b T)(au:K T.g.length u):Vh (some ⟨b,0,none⟩) u K:=by obtain⟨_,_,_,fc,_⟩:=k1 h;apply aE2;refine⟨λe=>(by cases e),λ_=>⟨_,rfl,_,fc,wK wm h.map ?_⟩⟩;rw[Ob];exact au
def In.adK{ah:O->aA bB}{T:aU}(h:In ak u ah b T)(ae:∀g,s.al=some g->ah g=none/\ak g=none/\u g≠none)(id:o):
  ∃aY,In ak u aY b T/\(∀g,s.al=some g->aY g=some (.vec id))/\(∀c,s.al≠some c->aY c=ah c):=by
 let aY:O->aA bB:=λc=>open Classical in if s.al=some c then some (.vec id) else ah c
 have aT:∀c,s.al=some c->aY c=some (.vec id):=λc I=>b3 I
 have aN:∀c,s.al≠some c->aY c=ah c:=λc I=>bF I
 have dG:∀c,ah c≠none->aY c=ah c:=λc I=>aN c λe=>I (ae c e).1
 refine⟨aY,⟨h.aJ.bO dG λ_ _ ac _=>ac,h.le,λc I=>?_,λc I=>?_⟩,aT,aN⟩
 by_cases e:s.al=some c
 exact(ae c e).2.1
 rw[aN c e] at I;exact h.out c I
 by_cases e:s.al=some c
 exact(ae c e).2.2
 rw[aN c e] at I;exact h.known c I
structure ug(ak u:H)(ah:O->aA bB)(b:O)(T:aU)(id:o)(v:J o)(u':H)(aY:O->aA bB)(bD:aU):Prop where
 is:In ak u' aY b bD
 eJ:gM u ah u' aY
 ok:dX bD
 rows:(fw bD.g).Perm ((id,v)::(fw T.g).filter λx=>x.1 !=id)
 dim:bD.dim=T.dim
 cm:bD.cm=T.cm
def vn(g:J (o×dp)):(fw g).map (·.1)=g.map (·.1):=by unfold fw;rw[e4];rfl
theorem amF{ah:O->aA bB}{T:aU}{id:o}{t:N}{K:ay->o->H->Prop}(h:In ak u ah b T)(aV:dX T)(jS:lO ak)(ht:Ints u t q)(fk:∀g,t.al=some g->ah g=none)
  (dq:eM id q T.dim (decide (id∈T.g.map (·.1))) T.g.length≠0->K ao (eM id q T.dim (decide (id∈T.g.map (·.1))) T.g.length) u)
  (bM:eM id q T.dim (decide (id∈T.g.map (·.1))) T.g.length=0->∀u' aY bD,ug ak u ah b T id q u' aY bD->K (decide (id∉T.g.map (·.1))) 0 u'):PO (some ⟨b,0,none⟩) id t u K:=by
 obtain⟨bA,_,_,fc,_⟩:=k1 h.aJ
 apply aof
 refine⟨λe=>(by cases e),λ_=>⟨_,rfl,_,fc,?_⟩⟩
 refine tU wm h.aJ.map (ct:=.ptr) ((eS T.g id).map λn=>(⟨n.p,0,none⟩:a8)) (by rw[CI];cases eS T.g id<;>rfl) ?_
 have iS:(gm (jG T.g) id).isSome=decide (id∈T.g.map (·.1)):=by
  rw[CI,TQ];cases e:eS T.g id with
  |none=>rw[q0 (CJ.1 e)];rfl|some n=>rw[jf (bQ.2 ⟨_,iC e,rfl⟩)];rfl
 rw[iS]
 refine⟨_,rfl,_,rfl,_,bA,_,fc,wK wm h.aJ.map ⟨H.le.refl u,Kc ht ?_⟩⟩
 rw[Ob]
 refine⟨λan=>dq an,λhe=>?_⟩
 have bM:=bM he
 have kA:¬(id<1∨1000000000<id)/\gx q T.dim=0/\¬(decide (id∈T.g.map (·.1))=ao/\512<=(T.g.length:o)):=by
  unfold eM at he;by_cases h1:id<1∨1000000000<id;omega
  grind
 obtain⟨d1,d2,d3,d4⟩:=n1 kA.2.1
 have lay:∀(aR:H) (c5:O->aA bB) (ba:aU),In ak aR c5 b ba->gM u ah aR c5->dX ba->fw ba.g=(fw T.g).filter (λx=>x.1 !=id)->ba.dim=T.dim->ba.cm=T.cm->
   o3 t aR λdg gL=>H.le aR gL/\Hf (some ⟨b,0,none⟩) id dg gL λyl=>K (!decide (decide (id∈T.g.map (·.1))=ai)) 0 yl:=by
  intro aR c5 ba h1 nL tc uT uA hX
  have qM:Ints aR t q:=bw.else ht λg z Z ac=>nL.bO g z ac (fk g Z)
  refine sI qM (by have:=qM.len;omega) λdg gL gg _=>⟨gg.le,?_⟩
  have xd:=h1.mono gg.le
  obtain⟨iq,h2,xJ,iQ⟩:=xd.adK (s:=dg) (λg Z=>⟨h1.fresh (gg.fresh g Z),h1.le.none (gg.fresh g Z),vc gg Z⟩) id
  have xy:id∉ba.g.map (·.1):=λhm=>by
   rw[<-vn,uT] at hm
   grind
  have hlen:ba.g.length<=512:=by
   have aT:ba.g.length=((fw T.g).filter λx=>x.1 !=id).length:=by rw[<-uT];simp[fw]
   by_cases ch:id∈T.g.map (·.1);have:((fw T.g).filter λx=>x.1 !=id).length<(fw T.g).length:=by rw[OD];rw[<-vn] at ch;obtain⟨x,M,e⟩:=bQ.1 ch;exact⟨x,M,by simp[e]⟩
   have bL:(fw T.g).length=T.g.length:=by simp[fw]
   have:=aV.k.ok.small;omega;have br:¬512<=(T.g.length:o):=λbL=>kA.2.2 ⟨q0 ch,bL⟩;have bL:(fw T.g).length=T.g.length:=by simp[fw]
   grind
  refine ada h2 tc jS xy (by omega) gg.ints xJ ⟨by rw[uA];exact d3,d4⟩ hlen λyl pc Eg h3 nM Yk Fw Ip AW=>?_
  have aa:(!decide (decide (id∈T.g.map (·.1))=ai))=decide (id∉T.g.map (·.1)):=by grind
  rw[aa]
  refine bM yl pc Eg ⟨h3,?_,Yk,?_,Ip.trans uA,AW.trans hX⟩
  have gone:∀c,aR c=none->ah c≠none∨u c=none:=λc I=>by
    cases e:ah c with
    |some x=>exact .inl (by simp)|none=>
     cases aN:u c with
     |none=>exact .inr rfl|some z=>rw[nL.bO c z aN e] at I;cases I
  refine⟨λc z I ab=>?_,λc I=>?_⟩
  have bL:=nL.bO c z I ab
  have e:dg.al≠some c:=λe=>by have:=gg.fresh c e;grind
  exact nM.bO c z (gg.le c z bL) (by rw[iQ c e];exact nL.none I ab)
  rcases nM.grow c I with bL|bL
  by_cases e:dg.al=some c
  exact gone c (gg.fresh c e)
  rw[iQ c e] at bL;exact nL.grow c bL
  exact gone c (gg.le.none bL)
  grind
 refine Ug h aV (λdR aR gB=>?_) λn ag aR c5 ba kD=>?_
 refine lay aR ah T (h.mono gB) (gM.mono gB) aV ?_ rfl rfl
 refine(qe.2 λx M=>?_).symm
 have:x.1≠id:=λe=>CJ.1 dR (by rw[<-vn];grind)
 simpa using this
 exact lay aR c5 ba kD.is kD.eJ kD.ok kD.rows kD.dim kD.cm
theorem amG{ah:O->aA bB}{T:aU}{K:N->H->Prop}(h:In ak u ah b T)(aV:dX T)
  (au:∀s ls u',re u u' s ls->(ls.map ax.bn).Perm (fw T.g)->(ls.Pairwise λa b=>a.id<=b.id)->K s u'):Vi (some ⟨b,0,none⟩) u K:=by
 obtain⟨_,_,_,fc,_⟩:=k1 h.aJ
 have b8:=h.aJ.nodup
 have fX:=aV.k.ok.small
 apply aE3
 refine⟨λe=>(by cases e),λ_=>⟨_,rfl,_,fc,J8 wm h.aJ.map λr z U xp=>?_⟩⟩
 have hle:=bX (u:=u) (b:=r) z U
 refine⟨λoz w=>u.le w/\∃(dl:J (o×ap)) (D:J ax),aD u w 52 2 oz (D.flatMap cJ)/\nx w r T.m (jG T.g) dl/\oz.al≠some r/\
   (∀x∈D,(x.id,x.v)∈fw T.g/\Ints u x.s x.v)/\D.map (·.id)=dl.map (·.1),λoz _=>T.g.length-oz.n,
  ⟨hle,[],[],aD.nil hle _ _,xp,by simp[N.al],λx M=>(by cases M),rfl⟩,?_⟩
 rintro oz w ⟨hw,dl,D,ac,fs,YA,fe,kA⟩
 have ahb:oz.n=D.length:=hf fO (by decide) ac.own.cK
 have Rm:D.length=dl.length:=by have:=eI iY kA;simpa using this
 refine Jj fs (λgF=>?_) λp hT ad AZ pU=>HR pU ?_
 have r9:dU w oz D:=⟨ac.own.cK,λx M=>(fe x M).2.mono hw⟩
 have Za:(D.map (·.id)).Perm (T.g.map (·.1)):=by rw[kA,<-Tk];exact gF.map _
 have mb:∀x∈D,∃n,(x.id,n)∈T.g/\n.v=x.v:=λx M=>by
  obtain⟨y,aj,e⟩:=bQ.1 (fe x M).1
  grind
 refine zV r9 (λx M=>?_) (by have:=Za.length_eq;simp at this;omega) (λx M=>?_) λgV ls hn b7 pY mB=>au gV ls hn ?_ ?_ mB
 obtain⟨n,ag,_⟩:=mb x M
 exact aV.k.ok.ids (x.id,n) ag
 obtain⟨n,ag,aB⟩:=mb x M
 have h1:=(aV.k.ok.vec (x.id,n) ag).1
 have h2:=aV.k.ok.hP
 grind
 exact⟨b7.own.weaken hw,λx M=>(b7.inner x M).weaken hw,b7.ej,b7.apart⟩
 refine pY.trans ?_
 have og:((fw T.g).map (·.1)).Nodup:=by rw[vn];exact b8
 have avT:((D.map ax.bn).map (·.1)).Nodup:=by rw[<-mC];exact Za.nodup_iff.2 b8
 have aza:(fw T.g).Nodup:=(tR.1 og).imp λh e=>h (by rw[e])
 have azb:(D.map ax.bn).Nodup:=(tR.1 avT).imp λh e=>h (by rw[e])
 refine(TM azb aza).2 λp=>⟨λad=>?_,λad=>?_⟩
 obtain⟨x,M,rfl⟩:=bQ.1 ad
 exact(fe x M).1
 have:p.1∈D.map (·.id):=Za.mem_iff.2 (by rw[<-vn];grind)
 obtain⟨x,M,e⟩:=bQ.1 this
 have h1:=(fe x M).1
 have aN:(x.id,x.v)=p:=by
  obtain⟨i,hi,w9⟩:=pv.1 h1;obtain⟨j,aP,xa⟩:=pv.1 ad;have key:∀{i j:O} (hi:i<(fw T.g).length) (aP:j<(fw T.g).length),i<j->((fw T.g)[i]).1≠((fw T.g)[j]).1:=λhi aP jd=>by have:=lW.1 og _ _ (by simpa using hi) (by simpa using aP) jd;simpa using this
  rcases Oh i j with jd|jd|jd
  grind
  grind
  grind
 exact bQ.2 ⟨x,M,aN⟩
 obtain⟨x,M,rfl⟩:=bQ.1 ad
 have eP:=h.aJ.nodes x M
 show ∃aAp:a8,some (cp x.2.p 0 none)=some aAp/\_
 have lj:w r≠none:=by obtain⟨_,_,_,_,_,h3,_⟩:=fs;rw[h3];simp
 have IQ:u r=none:=U
 have Dc:u.le (w.ins r hT):=λc y I=>by rw[bz _ _ (λe=>by grind)];exact hw c y I
 have at0:(w.ins r hT).cell? ⟨x.2.p,0,none⟩=some (.slice x.2.sv.a x.2.sv.n x.2.sv.c):=by refine oH Dc ?_;rw[F4 eP];exact azo _
 have dt:aD u (w.ins r hT) 52 2 oz (D.flatMap cJ):=⟨ac.own.le λc y I aj=>by rw[bz _ _ (λe=>YA (by rw[I,e]))];exact aj,Dc,ac.fresh⟩
 have CT:=aa0 pU
 rw[Ob] at CT
 simp only[gG,x9] at CT
 refine⟨_,rfl,_,at0,?_⟩
 refine mn ig (vI x.1 x.2.sv) (by decide) rfl (by simp[cI]) dt (by omega) (by omega) λiZ kL ru avK ah0 atO _=>⟨⟨ru.le,dl++ [(x.1,.pointer (some ⟨x.2.p,0,none⟩))],D++ [⟨x.1,x.2.sv,x.2.v⟩],?_,?_,?_,?_,?_⟩,by dsimp only;omega⟩
 rw[hb]
 have:([⟨x.1,x.2.sv,x.2.v⟩]:J ax).flatMap cJ=[.int .i64 x.1,.slice x.2.sv.a x.2.sv.n x.2.sv.c]:=by simp[cJ]
 rw[this];exact ru
 refine pU.else (λy aj=>ah0 _ _ aj λe=>?_) λy aj=>ah0 _ _ aj YA
 have:=dt.fresh _ e
 exact(h.known T.m (by rw[h.aJ.dy];simp)) this
 intro e
 rcases atO r e with bL|bL
 exact YA bL
 rw[bh] at bL;cases bL
 intro y aj
 rcases dT.1 aj with aj|aj
 exact fe y aj
 simp at aj
 subst aj
 exact⟨bQ.2 ⟨x,M,rfl⟩,eP.vec⟩
 simp[kA]
structure D0(u u':H)(l:J ax)(dim cm:o)(b:O)(ah:O->aA bB)(T:aU):Prop where
 is:In u u' ah b T
 ok:dX T
 rows:(fw T.g).Perm (l.map ax.bn)
 dim:T.dim=dim
 cm:T.cm=cm
def w5(l:J ax)(dim cm:o):o:=if nr l dim≠0 then nr l dim else if cm<1∨16<cm then 1 else 0
theorem amD{l:J ax}{dim cm seed:o}{K:aA a8->o->H->Prop}(ae:dU u s l)(jS:lO u)(M8:cE seed)
  (dq:w5 l dim cm≠0->K none (w5 l dim cm) u) (bM:w5 l dim cm=0->∀b ah T u',D0 u u' l dim cm b ah T->K (some ⟨b,0,none⟩) 0 u'):PM s dim cm seed u K:=by
 have bad:∀W,w5 l dim cm=W->W≠0->K none W u:=λW e aE=>by subst e;exact dq aE
 apply aEZ
 refine Kb ae ⟨λan=>bad _ (b3 an) an,λhe=>?_⟩
 intro ny oe
 refine⟨λh1=>bad 1 (by unfold w5;omega) (by decide),λh1=>⟨λh2=>bad 1 (by unfold w5;omega) (by decide),λh2=>oe _ _ _ ?_⟩⟩
 have bM:=bM (by unfold w5;omega)
 have b7:=DF.1 he
 have hlen:=b7.len
 apply ad0
 intro tE ai3
 have FX:=bX (u:=u) (b:=tE) (.cells #[.int .u64 seed] 215 (0,0)) ai3
 refine GL λm qb hm iF=>?_
 intro p9 IB
 have Zt:m≠tE:=λe=>by rw[e,bh] at hm;cases hm
 have Ni:p9≠m:=λe=>by rw[e,bh] at IB;cases IB
 have Sg:(u.ins tE (.cells #[.int .u64 seed] 215 (0,0))) p9=none:=by rw[bz _ _ Ni] at IB;exact IB
 have aak:p9≠tE:=λe=>by rw[e,bh] at Sg;cases Sg
 have aJH:u p9=none:=by rw[bz _ _ aak] at Sg;exact Sg
 have Iz:u m=none:=by rw[bz _ _ Zt] at hm;exact hm
 obtain⟨n5,ki⟩:∃n5:aU,n5=⟨dim,cm,tE,m,seed,[],0⟩:=⟨_,rfl⟩
 let qE:O->aA bB:=λc=>if c=p9 then some .tree else if c=tE then some .src else if c=m then some .map else none
 have f1:qE p9=some .tree:=b3 rfl
 have f2:qE tE=some .src:=(bF (e3 aak)).trans (b3 rfl)
 have f3:qE m=some .map:=(bF (e3 Ni)).trans ((bF Zt).trans (b3 rfl))
 have f4:∀c,qE c≠none->c=p9∨c=tE∨c=m:=λc I=>by
  grind
 have gf:(fx n5).toArray=#[.int .i64 dim,.int .i64 cm,.pointer (some ⟨tE,0,none⟩),.map (some m),.int .i64 0]:=by rw[ki];rfl
 rw[<-gf]
 obtain⟨w,hw⟩:∃w,((u.ins tE (.cells #[.int .u64 seed] 215 (0,0))).ins m qb).ins p9 (.cells (fx n5).toArray 184 (0,0))=w:=⟨_,rfl⟩
 have Zl:u.le w:=by rw[<-hw];exact(FX.trans (bX _ hm)).trans (bX _ IB)
 have e5:w p9=some (.cells (fx n5).toArray 184 (0,0)):=by rw[<-hw,bh]
 have dF:w tE=some (.cells #[.int .u64 seed] 215 (0,0)):=by rw[<-hw,bz _ _ (e3 aak),bz _ _ (e3 Zt),bh]
 have hh:fE w m []:=iF.else λz ac=>by rw[<-hw,bz _ _ (e3 Ni)];exact ac
 have ahe:In u w qE p9 n5:=by
  refine⟨⟨e5,by rw[ki];exact dF,by rw[ki];exact M8,by rw[ki];exact hh,f1,by rw[ki];exact f2,by rw[ki];exact f3,λx M=>by rw[ki] at M;cases M⟩,Zl,λc I=>?_,λc I=>?_⟩
  grind
  rcases f4 c I with rfl|rfl|rfl;rw[e5];simp;rw[dF];simp;obtain⟨_,_,h3,_⟩:=hh;rw[h3];simp
 have ath:dX n5:=by rw[ki];exact⟨⟨⟨b7.dim,λx M=>(by cases M),λx M=>(by cases M),λx M=>(by cases M),λx M=>(by cases M),by simp⟩,λi n lv l ag=>(by cases ag)⟩,⟨by show 1<=cm;omega,by show cm<=16;omega⟩,.inl ⟨rfl,rfl⟩⟩
 have Ez:n5.dim=dim:=by rw[ki]
 have el:n5.cm=cm:=by rw[ki]
 have oJ:n5.g=[]:=by rw[ki]
 rw[hw]
 clear hw iF gf ki e5 dF hh
 refine zV (ae.mono Zl) (λr U=>b7.id r U) (by omega) (λr U=>by have:=(b7.v r U).1;have:=b7.dim;omega) λrR ls gK CN pY mB=>?_
 have avt:ls.length=l.length:=by have:=pY.length_eq;simpa using this
 have R5:(ls.map (·.id)).Nodup:=by have h1:=b7.nodup;rw[mC] at h1 ⊢;exact(pY.map (·.1)).nodup_iff.2 h1
 have oN:∀r∈ls,(1<=r.id/\r.id<=1000000000)/\(r.v.length:o)=dim/\cY r.v:=λr U=>by have:r.bn∈l.map ax.bn:=pY.mem_iff.1 (bQ.2 ⟨r,U,rfl⟩);obtain⟨cx,cU,e⟩:=bQ.1 this;have h1:cx.id=r.id:=eI vl e;have h2:cx.v=r.v:=eI wD e;rw[<-h1,<-h2];exact⟨b7.id cx cU,b7.v cx cU⟩
 have asT:=ahe.mono CN.own.le
 have dS:rR.n=ls.length:=CN.rws.len
 refine⟨λi W=>0<=i/\i<=ls.length/\∃ah T,In u W ah p9 T/\dX T/\T.dim=dim/\T.cm=cm/\fw T.g=(ls.take i.toNat).map ax.bn/\(∀c z,gK c=some z->rR.al=some c∨(∃r∈ls.drop i.toNat,r.s.al=some c)->W c=some z/\ah c=none),
  λi _=>ls.length-i.toNat,⟨by omega,by omega,qE,n5,asT,ath,Ez,el,by rw[oJ];simp[fw],λc z I hm=>⟨I,?_⟩⟩,?_⟩
 have yT:w c=none:=by rcases hm with hm|⟨r,U,hm⟩;exact CN.own.fresh c hm;exact(CN.inner r (tQ U)).fresh c hm
 exact ahe.fresh yT
 rintro i W ⟨i0,i1,ah,T,Rn,r8,av,aq,kT,iE⟩
 refine⟨λey=>?_,λCW=>?_⟩
 have hi:i.toNat<ls.length:=by omega
 have aKe:dU W rR (ls.take 0)∨True:=.inr trivial
 have sj:bw W rR 2 (ls.flatMap cJ):=bw.else CN.own.own.cK λg z Z ac=>(iE g z ac (.inl Z)).1
 obtain⟨r,U⟩:∃r,ls[i.toNat]?=some r:=⟨_,dj hi⟩
 obtain⟨p,ad,I⟩:=bw.elem fO (by decide) sj U
 have EY:ls.drop i.toNat=r::ls.drop (i.toNat+1):=by rw[qV hi];rw[dj hi] at U;rw[eh U]
 have fR:r∈ls:=dz U
 have uU:aD w gK 3 1 r.s (r.v.flatMap encI):=CN.inner r fR
 have oQ:∀g,r.s.al=some g->∀z,gK g=some z->W g=some z/\ah g=none:=λg Z z ac=>iE g z ac (.inr ⟨r,by rw[EY];exact .head _,Z⟩)
 obtain⟨iq,asU,xJ,iQ⟩:=Rn.adK (s:=r.s) (λg Z=>by obtain⟨z,ac⟩:=fp.1 (vc uU Z);obtain⟨bL,gA⟩:=oQ g Z z ac;exact⟨gA,Zl.none (uU.fresh g Z),by rw[bL];simp⟩) r.id
 have xy:r.id∉T.g.map (·.1):=λhm=>by
  rw[<-vn,kT,<-mC] at hm;obtain⟨cx,cU,e⟩:=bQ.1 hm;obtain⟨j,aP,rfl⟩:=pv.1 cU;simp only[iV] at aP;rw[JP] at e;have:=lW.1 R5 j i.toNat (by simp;omega) (by simp;omega) (by omega);simp only[DD] at this
  grind
 have atB:T.g.length<=512:=by have:=eI iY kT;simp[fw] at this;omega
 have pd:=I 0 _ rfl
 have iO:=I 1 _ rfl
 rw[Addr.add_zero'] at pd
 refine⟨p,ad,⟨i0,ey⟩,_,pd,_,iO,ada asU r8 jS xy (oN r fR).1 (bw.else uU.ints λg z Z ac=>(oQ g Z z ac).1) xJ (by grind) atB λz2 pc Eg h3 nM ati Fw Ip AW=>⟨⟨by omega,by omega⟩,⟨by omega,by omega,pc,Eg,h3,ati,Ip.trans av,AW.trans aq,?_,λc z at2 hm=>?_⟩,by dsimp only;omega⟩⟩
 rw[Fw,kT,show(i+1).toNat=i.toNat+1 by omega,fN,U]
 simp[ax.bn]
 have an:r.s.al≠some c:=by rcases hm with hm|⟨cx,cU,hm⟩;exact CN.ej r fR c hm;rw[show(i+1).toNat=i.toNat+1 by omega] at cU;have M0:=CN.apart;rw[<-px i.toNat ls,EY] at M0;have h2:=(ix.1 (tP.1 M0).2.1).1 cx cU;exact λe=>h2 c e hm
 have pX:rR.al=some c∨∃r∈ls.drop i.toNat,r.s.al=some c:=by grind
 obtain⟨bL,gA⟩:=iE c z at2 pX
 have kP:iq c=none:=by grind
 exact⟨nM.bO c z bL kP,nM.none bL kP⟩
 have hi:i.toNat=ls.length:=by omega
 rw[hi,pt] at kT
 exact bM p9 ah T W ⟨Rn,r8,by rw[kT];exact pY,av,aq⟩
def n2(aK:O)(s:J o×J o)(id:o):J o×J o:=
 if id∈s.1 then s else if s.1.length=aK then(s.1,s.2++ [id]) else(s.1++ [id],s.2)
structure uk(aK:O)(Eh P S R:J o):Prop where
 nodup:S.Nodup
 sub:R.Sublist P
 all:∀x,(x∈S∨x∈R)↔(x∈Eh∨x∈P)
 W7:∀x∈R,x∉S
 len:S.length<=aK
 full:R≠[]->S.length=aK
theorem uk.step{Eh P R:J o}(h:uk aK Eh P S R)(id:o):uk aK Eh (P++ [id]) (n2 aK (S,R) id).1 (n2 aK (S,R) id).2:=by
 unfold n2;by_cases h1:id∈S;rw[b3 h1];refine⟨h.nodup,h.sub.trans (List.sublist_append_left _ _),λx=>?_,h.W7,h.len,h.full⟩;rw[h.all x,dT,hZ];constructor
 grind
 rintro(h2|h2|rfl);exact .inl h2;exact .inr h2;exact(h.all x).1 (.inl h1);rw[bF h1];by_cases h2:S.length=aK;simp only[h2,x5];refine⟨h.nodup,h.sub.append (acs _),λx=>?_,λx M=>?_,h.len,λ_=>h2⟩;rw[dT,dT,<-or_assoc,h.all x,or_assoc];rcases dT.1 M with M|M;exact h.W7 x M
 grind
 simp only[h2,Gn];have b7:R=[]:=by by_cases e:R=[];exact e;exact bf (h.full e) h2
 refine⟨?_,h.sub.trans (List.sublist_append_left _ _),λx=>?_,λx M=>(by rw[b7] at M;cases M),?_,λan=>bf b7 an⟩;refine hg.2 ⟨h.nodup,by simp,λa az c I=>?_⟩
 grind
 rw[dT,dT,or_right_comm,h.all x,or_assoc];have:=h.len;simp;omega
theorem uk.fold{Eh:J o}:∀(l P S R:J o),uk aK Eh P S R->uk aK Eh (P++l) (l.foldl (n2 aK) (S,R)).1 (l.foldl (n2 aK) (S,R)).2:=by
 intro l;induction l with
 |nil=>grind|cons x l aW=>intro P S R h;have:=aW (P++ [x]) _ _ (h.step x);rw[wA,List.singleton_append] at this;exact this
theorem uk.start{bJ:J o}(hQ:bJ.Nodup):uk aK (bJ.take aK) [] (bJ.take aK) []:=
 ⟨hQ.sublist (sz _ _),acs _,λx=>(by simp),λx M=>(by cases M),(by grind),λh=>bf rfl h⟩
def ob(g:J (o×dp))(q:J o)(entry:o):J o:=if entry=0 then[] else lK g q 0 (vv g q entry 0)
def pA(g:J (o×dp))(q:J o)(entry:o)(aK:O):J o×J o:=(cR (g.map (·.1))).foldl (n2 aK) ((ob g q entry).take aK,[])
theorem Xm{T:aU}(aV:dX T)(q:J o):(ob T.g q T.entry).Nodup/\∀x∈ob T.g q T.entry,x∈T.g.map (·.1):=by
 unfold ob;split
 grind
 rename_i he;have uD:T.entry∈T.g.map (·.1):=by rcases aV.entry with⟨_,h2⟩|h2;exact bf h2 he;exact h2
 have LN:=Met.one (cV T.g q) (ids:=T.g.map (·.1)) (uI T.g q) (adD aV.k.ok (q:=q) uD 0);exact⟨(agp (cV T.g q) (mh T.g 0) (uI T.g q) (aV.k.ok.ck _) _ _ _ LN).1,ago (cV T.g q) (mh T.g 0) (uI T.g q) (aV.k.ok.ck _) _ _ _ LN⟩
theorem anl{T:aU}(aV:dX T)(b8:(T.g.map (·.1)).Nodup)(q:J o)(aK:O):
  ((pA T.g q T.entry aK).1++(pA T.g q T.entry aK).2).Perm (T.g.map (·.1))/\(pA T.g q T.entry aK).1.length<=aK/\((pA T.g q T.entry aK).2≠[]->(pA T.g q T.entry aK).1.length=aK)/\Ak (pA T.g q T.entry aK).2:=by
 obtain⟨h1,h2⟩:=Xm aV q
 have h:=uk.fold (cR (T.g.map (·.1))) [] _ _ (uk.start (aK:=aK) h1)
 rw[mm] at h
 have cX:∀x,x∈cR (T.g.map (·.1))↔x∈T.g.map (·.1):=λx=>(ns _).mem_iff
 have atc:=DN b8
 have Ru:Ak (pA T.g q T.entry aK).2:=atc.sublist h.sub
 have atq:(pA T.g q T.entry aK).2.Nodup:=Ru.imp λh=>by omega
 refine⟨(TM (hg.2 ⟨h.nodup,atq,λa az c I e=>h.W7 c I (e▸az)⟩) b8).2 λx=>?_,h.len,h.full,Ru⟩
 rw[dT]
 refine(h.all x).trans ?_
 grind
def sS(B:H)(cq ck:O)(k:o)(g:J (o×dp))(q:J o)(S:J o)(v:H):Prop:=
 ∃z,fE (B.ins cq z) cq (S.map λx=>(x,gZ ai))/\jb (B.ins cq z) ck k v (S.map (cV g q))
def sS.le(h:sS B cq ck k g q S v)(jR:B cq=none):B.le v:=by obtain⟨z,_,ht⟩:=h;exact(bX _ jR).trans ht.le
def sS.map(h:sS B cq ck k g q S v):fE v cq (S.map λx=>(x,gZ ai)):=by obtain⟨z,hm,ht⟩:=h;exact hm.mono ht.le
def apX:hy aH 297=ai:=by kernel_rfl
theorem XF(S:J o)(x:o):gm (S.map λx=>(x,gZ ai)) x=if x∈S then some (.bool ai) else none:=by
 induction S with
 |nil=>rfl|cons y S aW=>
  unfold gm at*
  grind
def anm{n0 n9 n13:O}{aK:o}{x:o}{K:ay->H->Prop}(jR:B cq=none)(cB:1<=k)(cW:k<=64)(fH:0<=aK)
  (h0:B n0=some (.cells #[.int .i64 aK] 3 (0,0))) (l6:B n9=some (.cells #[.pointer (some ⟨ck,0,none⟩)] 90 (0,0))) (EK:B n13=some (.cells #[.map (some cq)] 166 (0,0))) (aP:sS B cq ck k g q S v)
  (yW:S.length=aK.toNat->K ao v) (hold:S.length≠aK.toNat->x∈S->K ai v) (sh:S.length≠aK.toNat->x∉S->∀b9,sS B cq ck k g q (S++ [x]) b9->K ai b9):
  ua aH (.func (.func 297) #[] #[.pointer (some ⟨n13,0,none⟩),.pointer (some ⟨n0,0,none⟩),.pointer (some ⟨n9,0,none⟩)]) #[Ml (cV g q x)] [.one .bool] v K:=by
 have EM:=aP.le jR
 refine .inl ⟨_,_,_,rfl,hs apX,?_⟩
 refine aE5 (cV g q x).1 (cQ (cV g q x).2) (cS (cV g q x).2) ⟨n13,0,none⟩ ⟨n0,0,none⟩ ⟨n9,0,none⟩ v K ?_
 refine⟨_,aZ (EM _ _ EK) 0,wK K4 aP.map ?_⟩
 have hlen:(S.map λx=>(x,gZ ai)).length=S.length:=by simp
 rw[hlen]
 refine⟨aK,aZ (EM _ _ h0) 0,λhe=>yW (by omega),λhe=>⟨_,aZ (EM _ _ EK) 0,?_⟩⟩
 have an:S.length≠aK.toNat:=by omega
 refine OW K4 aP.map (ct:=.bool) (decide (x∈S)) ?_ ⟨λaa=>?_,λaa=>hold an (by simpa using aa)⟩
 show(gm _ x).getD _=_
 rw[XF]
 by_cases e:x∈S<;>simp[e,aI.enc]
 have M:x∉S:=by simpa using aa
 refine⟨_,aZ (EM _ _ EK) 0,DK K4 aP.map (x:=x) (by rw[XF,bF M]) λcn pX=>?_⟩
 obtain⟨z,hm,ht⟩:=aP
 have U:=ht.TW cn
 have Rl:B.le (v.ins cq cn):=(bX _ jR).trans U.le
 refine⟨_,aZ (Rl _ _ l6) 0,Pe (x:=cV g q x) U cB cW λc0 w hw=>sh an M w ⟨cn,?_,?_⟩⟩
 obtain⟨es,K7,h1,h2⟩:=pX
 rw[bh] at h1
 refine⟨es,K7,by rw[bh];exact h1,?_⟩
 rw[en]
 exact h2
 rw[en]
 exact hw.perm (mH _ _).symm
def _root_.Go.Proofs.YtejdhbfjjgcljaaGreatDoor.aD.HV{v0 h5 b9:H}{e k:O}{xs:J ap}(h:aD v0 v e k s xs)(ab:ys v0 v h5 b9):aD h5 b9 e k s xs:=by have aa:∀g,s.al=some g->∃z,v g=some z:=λg Z=>fp.1 (vc h Z);refine⟨h.own.le λb z fC hu=>(ab.out b z (h.fresh b fC) hu).2,ab.le,λg Z=>?_⟩;obtain⟨z,ac⟩:=aa g Z;exact(ab.out g z (h.fresh g Z) ac).1
end
end eu
