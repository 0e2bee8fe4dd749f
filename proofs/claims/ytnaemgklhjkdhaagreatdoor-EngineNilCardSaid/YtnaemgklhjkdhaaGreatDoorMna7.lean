/- Texts of mine, joined and packed by pack.py. -/
import Derived.Test.YtnaemgklhjkdhaaGreatDoorMna6
import Derived.Lib.ItoaNum
import Derived.Lib.Strings
import Derived.Lib.EndianBits
set_option linter.all false
set_option maxRecDepth 100000
noncomputable section
namespace Go.Proofs.YtnaemgklhjkdhaaGreatDoor
open H
section
variable{u u':H}
def Hb.else{gL:H}{l:List aT}{q:List Int}{k:Int}{s:J}{e:Int}(h:Hb u u' l q k s e)(he:∀b o,u b=none->u' b=some o->gL b=some o):
  ∃L,iZ gL s L/\(e=0->L=dX k.toNat (l.map (hh q)))/\(e≠0->L=[]):=by
 rcases h.2 with⟨_,h1,rfl⟩|⟨h0,_,_,_,_,U⟩
 exact⟨[],(aE.nil (H.le.refl gL) 0 3).own.bR,λh=>absurd h h1,λ_=>rfl⟩
 exact⟨_,(U.own.le (u':=gL) λb o Z hu=>he b o (U.fresh b Z) hu).bR,λ_=>rfl,λh=>absurd h0 h⟩
def aay{P:Program}{t eO e:TypeId}{size bytes:Nat}{zs:List Value}(aJ:iG P t=some (e,size,bytes,zs))(cA:0<size){s x:J}{xs cM:List Value}{Y:H}{K:J->H->Prop}
  (U:aE Y u e size s xs) (I:bb u x size cM) (h1:∀y∈cM,y.oneCell'=true) (hm:s.n+x.n<=9223372036854775807) (Z:(s.n+x.n)*bytes<=140737488355328)
  (ae:∀s' u',aE Y u' e size s' (xs++cM)->s'.n=s.n+x.n->K s' u'):
  cx P (Builtin.append_ #[t,t] eO #[.slice s.a s.n s.c,.slice x.a x.n x.c]) [.one .slice] u K:=
 R6 aJ cA U.own I h1 hm Z λs' u' h2 h3 mX _=>ae s' u' ⟨h2,mX.le U.le U.fresh,λbS cH=>mX.out U.le U.fresh bS cH⟩ h3
def Ints.part{s:J}{L:List Int}(hs:Ints u s L){l h m:Nat}(h1:l<=h)(h2:h<=s.n)(h3:h<=m)(aZ:m<=s.c):Ints u (s.part l h m 1) ((L.drop l).take (h-l)):=by have:=bb.part hs h1 h2 h3 aZ;rw[Nat.mul_one,Nat.mul_one,<-List.map_drop,<-List.map_take] at this;exact this
def Ints.nil(u:H):Ints u ⟨none,0,0⟩ []:=(aE.nil (H.le.refl u) 0 1).own.bR
theorem Ints.get{s:J}{L:List Int}(hs:Ints u s L){x:Int}(h0:0<=x)(h1:x<(s.n:Int)):∃p,s.a=some p/\∃y,L[x.toNat]?=some y/\u.cell? (p.add (x.toNat*1))=some (.int .i64 y):=by
 obtain⟨p,aa,E⟩:=hs.at h0 h1;have ac:=hs.len
 grind
structure cc where
 ax:Int
 ls:J
 hs:J
 ch:Int
 is:J
 bz:List Int
 hi:List Int
 ids:List Int
def tf(r:cc):List Value:=[.int .i64 r.ax,.slice r.ls.a r.ls.n r.ls.c,.slice r.hs.a r.hs.n r.hs.c,.int .u64 (cK r.ch),.int .u64 (cO r.ch),.slice r.is.a r.is.n r.is.c]
def Ng(r:cc):(tf r).length=6:=rfl
def avF(r:cc):∀v∈tf r,v.oneCell'=true:=by simp[tf,Value.oneCell']
def sZ(u:H)(s:J)(l:List cc):Prop:=bb u s 6 (l.flatMap tf)/\∀r∈l,Ints u r.ls r.bz/\Ints u r.hs r.hi/\Ints u r.is r.ids
def sZ.len{s:J}{l:List cc}(h:sZ u s l):s.n=l.length:=fx Ng (by decide) h.1
def sZ.max{s:J}{l:List cc}(h:sZ u s l):s.n<=9223372036854775807:=Nat.le_trans (bb.cap h.1) (bb.max h.1)
def sZ.mono{s:J}{l:List cc}(h:sZ u s l)(k:u.le u'):sZ u' s l:=⟨bb.mono h.1 k,λr W=>⟨(h.2 r W).1.mono k,(h.2 r W).2.1.mono k,(h.2 r W).2.2.mono k⟩⟩
def sZ.at{s:J}{l:List cc}(h:sZ u s l){x:Int}(h0:0<=x)(h1:x<(s.n:Int)):∃p,s.a=some p/\∃q:cc,l[x.toNat]?=some q/\
  u.cell? (p.add (x.toNat*6))=some (.int .i64 q.ax)/\u.cell? ((p.add (x.toNat*6)).add 1)=some (.slice q.ls.a q.ls.n q.ls.c)/\u.cell? ((p.add (x.toNat*6)).add 2)=some (.slice q.hs.a q.hs.n q.hs.c)/\
  u.cell? ((p.add (x.toNat*6)).add 3)=some (.int .u64 (cK q.ch))/\u.cell? ((p.add (x.toNat*6)).add 4)=some (.int .u64 (cO q.ch))/\u.cell? ((p.add (x.toNat*6)).add 5)=some (.slice q.is.a q.is.n q.is.c):=by
 have ac:=h.len
 have ai:x.toNat<l.length:=by omega
 obtain⟨p,aa,E⟩:=bb.elem Ng (by decide) h.1 (List.getElem?_eq_getElem ai)
 exact⟨p,aa,_,List.getElem?_eq_getElem ai,E 0 _ rfl,E 1 _ rfl,E 2 _ rfl,E 3 _ rfl,E 4 _ rfl,E 5 _ rfl⟩
structure k5(r:cc)(d:Int):Prop where
 ao:1<=d/\d<=64
 ids:vL r.ids
 id:∀x∈r.ids,1<=x/\x<=1000000000
 shape:(r.ax=1/\r.bz=[]/\r.hi=[]/\r.ch=0)∨(r.ax=2/\r.ch=0/\ej r.bz/\ej r.hi/\(r.bz.length:Int)=d/\(r.hi.length:Int)=d/\∀i:Nat,(i:Int)<d->r.bz.getD i 0<=r.hi.getD i 0)∨
  (r.ax=3/\r.hi=[]/\ej r.bz/\(r.bz.length:Int)=d/\kC r.ch)
def mf(r:cc)(v:List Int):Prop:=(r.ax=2->∀i:Nat,i<v.length->r.bz.getD i 0<=v.getD i 0/\v.getD i 0<=r.hi.getD i 0)/\(r.ax=3->gS r.bz v r.bz.length<=r.ch)
def Xe:cK 0=0:=by decide
def Zh:cO 0=0:=by decide
structure sP(u:H)(ax ss a7:J)(dF:List bk)(seen:List Int)(rest:List cc):Prop where
 h:iZ u ax dF
 s:Ints u ss seen
 r:sZ u a7 rest
def sP.mono{ax ss a7:J}{dF:List bk}{seen:List Int}{rest:List cc}(h:sP u ax ss a7 dF seen rest)(k:u.le u'):sP u' ax ss a7 dF seen rest:=⟨h.h.mono k,h.s.mono k,h.r.mono k⟩
structure Sound(l:List aT)(q:List Int)(k:Int)(dF:List bk)(seen:List Int)(rest:List cc):Prop where
 anZ:vL seen
 jC:∀r∈rest,k5 r q.length/\r.ids≠[]/\∀x∈r.ids,∃w∈l,w.id=x/\mf r w.v
 all:(seen++rest.flatMap (·.ids)).Perm (l.map (·.id))
 first:∀m:List aT,(∀r∈m,r∈l)->m.map (·.id)=seen->dF=dX k.toNat (m.map (hh q))
def CY(x:Int)(s:J):hF Tryz.prog 22 1 #[(0,.agg #[.int .i64 x,.slice s.a s.n s.c])]=some (34,[.int .i64 x,.slice s.a s.n s.c]):=by kernel_rfl
def aE.rws{Y:H}{e:Nat}{s:J}{m l:List aT}{t:J}(h:aE Y u e 2 s (m.flatMap cG))(ai:ev u t l)(hm:∀r∈m,r∈l):ev u s m:=⟨h.own.bR,λr W=>ai.2 r (hm r W)⟩
end
namespace dn
section
variable{u Y u':H}{L L':dy}{b i:Nat}{s:fI}{xs:List Int}{K:J->H->Prop}{c:Int}
def aeT(a b c d:Int):hF Tryz.prog 183 4 #[(0,.int .u8 a),(1,.int .u8 b),(2,.int .u8 c),(3,.int .u8 d)]=some (5,[.int .u8 a,.int .u8 b,.int .u8 c,.int .u8 d]):=by kernel_rfl
def qf(x:Int):List Int:=[IntKind.wrap .u8 x,IntKind.wrap .u8 (Int.fdiv x (2 ^ 8)),IntKind.wrap .u8 (Int.fdiv x (2 ^ 16)),IntKind.wrap .u8 (Int.fdiv x (2 ^ 24))]
def F0{s:J}{x:Int}(h:aE Y u 5 1 s (xs.flatMap gN))(ai:xs.length<=1000000)(ae:∀s' u',aE Y u' 5 1 s' ((xs++qf x).flatMap gN)->K s' u'):xj s x u K:=by
 have ac:=kz.len h.own.bR;apply auv;refine⟨by decide,by decide,by decide,nU (aeT _ _ _ _) λg N=>?_⟩;obtain⟨o,U⟩:∃o,o=Obj.cells (List.toArray [Value.int .u8 (IntKind.wrap .u8 x),.int .u8 (IntKind.wrap .u8 (Int.fdiv x (2 ^ 8))),.int .u8 (IntKind.wrap .u8 (Int.fdiv x (2 ^ 16))),.int .u8 (IntKind.wrap .u8 (Int.fdiv x (2 ^ 24)))]) 5 (0,0):=⟨_,rfl⟩;have I:bb (u.ins g o) ⟨some ⟨g,0,none⟩,4,4⟩ 1 ((qf x).flatMap gN):=by rw[U];exact(aE.make (k:=1) (H.le.refl u) N (cells:=List.toArray _) (e:=5) (n:=4) (by omega) (by simp)).own.bR
 rw[<-U];refine aay CZ (by decide) (h.mono (bN _ N)) I (by simp[qf,gN,Value.oneCell']) (by simp only;omega) (by simp only;omega) λs' u' bG _=>ae s' u' ?_;rw[List.flatMap_append];exact bG
def yQ(x:Int):(qf x).length=4:=rfl
def Bo(x:Int):List Int:=qf (IntKind.wrap .u32 x)++qf (IntKind.wrap .u32 (Int.fdiv x (2 ^ 32)))
def Ju(x:Int):(Bo x).length=8:=rfl
def abk{s:J}{x:Int}(h:aE Y u 5 1 s (xs.flatMap gN))(ai:xs.length<=999000)(ae:∀s' u',aE Y u' 5 1 s' ((xs++Bo x).flatMap gN)->K s' u'):GV s x u K:=by apply auw;refine F0 h (by omega) λs1 aI h1=>⟨by decide,F0 h1 (by rw[List.length_append,yQ];omega) λs2 bE h2=>ae _ _ ?_⟩;rw[List.append_assoc] at h2;exact h2
def MY:Nat->Int->Int
 |0,i=>i|n+1,i=>MY n (bits .xor .u32 (Int.fdiv i (2 ^ 1)) (bits .and .u32 (IntKind.wrap .u32 (0-bits .and .u32 i 1)) 3988292384))
def MZ(b f:Int):Int:=MY 8 (bits .xor .u32 b (IntKind.wrap .u32 f))
def Hw(xs:List Int):Int:=bits .xor .u32 4294967295 (xs.foldl MZ 4294967295)
def apc{s:J}{K:Int->H->Prop}(h:kz u s xs)(ai:xs.length<=10000000)(ae:K (Hw xs) u):Lg s u K:=by
 have ac:=kz.len h;apply arH;refine⟨λb c d=>d=u/\0<=c/\c<=s.n/\b=(xs.take c.toNat).foldl MZ 4294967295,λ_ c _=>(s.n-c).toNat,⟨rfl,by omega,by omega,rfl⟩,?_⟩;rintro b c d ⟨rfl,c0,c1,Z⟩;refine⟨λbh=>?_,λhg=>?_⟩;have hi:c.toNat<xs.length:=by omega
 obtain⟨p,aa,E⟩:=bb.elem Nd (by decide) h (List.getElem?_eq_getElem hi);refine⟨p,aa,⟨c0,bh⟩,_,E 0 _ rfl,λi j k=>k=d/\0<=j/\j<=8/\MY (8-j).toNat i=MZ b xs[c.toNat],λ_ j _=>(8-j).toNat,⟨rfl,by omega,by omega,rfl⟩,?_⟩;rintro i j k ⟨rfl,eL,aw5,wu⟩;refine⟨λaH=>⟨by decide,⟨by omega,by omega⟩,⟨rfl,by omega,by omega,?_⟩,by dsimp only;omega⟩,λaH=>⟨⟨by omega,by omega⟩,⟨rfl,by omega,by omega,?_⟩,by dsimp only;omega⟩⟩;rw[show(8-j).toNat=(8-(j+1)).toNat+1 by omega] at wu;exact wu;rw[show(8-j).toNat=0 by omega] at wu;rw[show(c+1).toNat=c.toNat+1 by omega,List.take_succ_eq_append_getElem hi,List.foldl_append,<-Z];exact wu;have:xs.take c.toNat=xs:=List.take_of_length_le (by omega);rw[this] at Z;rw[Z];exact ae
def abm{s:J}(h:aE Y u 5 1 s (xs.flatMap gN))(ai:xs.length<=1000000)(ae:∀s' u',aE Y u' 5 1 s' ((xs++qf (Hw xs)).flatMap gN)->K s' u'):GW s u K:=by apply auy;exact apc h.own.bR (by omega) (F0 h ai λs' u' bx=>ae s' u' bx)
def r5(n:Int):List Int:=(qf 1818326888++Bo (IntKind.wrap .u64 n))++qf (Hw (qf 1818326888++Bo (IntKind.wrap .u64 n)))
def Oz(n:Int):(r5 n).length=16:=rfl
def apy{n:Int}(ae:∀s u',aE u u' 5 1 s ((r5 n).flatMap gN)->K s u'):Mh n u K:=by apply aut;refine F0 (xs:=[]) (aE.nil (H.le.refl u) _ _) (by simp) λs1 aI h1=>abk h1 (by simp[yQ]) λs2 bE h2=>abm h2 (by simp[yQ,Ju]) λj7 dm h3=>ae _ _ ?_;exact h3
def Vc(h:i<90):Lib.decDigits (1000001+i)=[49,48,48,48,48,UInt8.ofNat (48+(1+i)/10),UInt8.ofNat (48+(1+i)%10)]:=by
 have aO:(1000001+i)/10=100000+(1+i)/10:=by omega
 have ar:(1000001+i)%10=(1+i)%10:=by omega
 have cq:(100000+(1+i)/10)/10=10000:=by omega
 have eD:(100000+(1+i)/10)%10=(1+i)/10:=by omega
 have e6:Lib.decDigits 10000=[49,48,48,48,48]:=by simp[Lib.decDigits]
 rw[Lib.decDigits,dif_neg (by omega),aO,ar,Lib.decDigits,dif_neg (by omega),cq,eD,e6];rfl
def fe(i:Nat):ByteArray:=⟨#[108,111,103,46,48,48,48,48,UInt8.ofNat (48+(1+i)/10),UInt8.ofNat (48+(1+i)%10)]⟩
def amN(i:Nat):(fe i).size=10:=rfl
def amM(i:Nat):(fe i).toList≠[]:=λe=>by have h:(fe i).toList=(fe i).data.toList:=Lib.toList_data _;rw[h] at e;cases e
def amK(h:i<90):∀x∈ju (fe i),b1.Dl x:=by intro x I;have e:ju (fe i)=[108,111,103,46,48,48,48,48,((UInt8.ofNat (48+(1+i)/10)).toNat:Int),((UInt8.ofNat (48+(1+i)%10)).toNat:Int)]:=rfl;rw[e] at I;unfold b1.Dl;simp only[UInt8.toNat_ofNat',List.mem_cons,List.not_mem_nil,or_false] at I;omega
def amL{j:Nat}(hi:i<90)(aH:j<90)(h:fe i=fe j):i=j:=by have h2:=congrArg ju h;simp only[ju,fe,List.map_cons,List.cons.injEq,UInt8.toNat_ofNat'] at h2;omega
def amJ(h:i<90):cat ⟨#[108,111,103,46]⟩ ((⟨(Lib.itoa (1000001+(i:Int))).toArray⟩:ByteArray).extract (1:Int).toNat (⟨(Lib.itoa (1000001+(i:Int))).toArray⟩:ByteArray).size)=fe i:=by
 have e:Lib.itoa (1000001+(i:Int))=[49,48,48,48,48,UInt8.ofNat (48+(1+i)/10),UInt8.ofNat (48+(1+i)%10)]:=by unfold Lib.itoa;rw[if_neg (by omega),show(1000001+(i:Int)).toNat=1000001+i by omega,Vc h]
 rw[e];refine ByteArray.ext (Array.toList_inj.1 ?_);unfold cat fe;simp[ByteArray.data_append,ByteArray.data_extract,ByteArray.size]
inductive aN where
 |log|kV|bR
structure zH(ab:Nat->Option aN)(u:H)(b:Nat)(L:dy):Prop where
 is:Ui u b L
 iV:ab b=some .log
 dZ:∀g,L.bD.ad=some g->ab g=some .kV
 r0:∀s∈L.bj,ab s.ad=some .bR
def zH.bd{ab aM:Nat->Option aN}(h:zH ab u b L)(M:∀c,ab c≠none->aM c=ab c)(hu:∀c o,u c=some o->ab c≠none->u' c=some o):zH aM u' b L where
 is:=⟨hu _ _ h.is.cell (by rw[h.iV];simp),h.is.kV.le λg o N U=>hu g o U (by rw[h.dZ g N];simp),λs hs=>hu _ _ (h.is.each s hs) (by rw[h.r0 s hs];simp)⟩
 iV:=by rw[M _ (by rw[h.iV];simp)];exact h.iV
 dZ g N:=by rw[M _ (by rw[h.dZ g N];simp)];exact h.dZ g N
 r0 s hs:=by rw[M _ (by rw[h.r0 s hs];simp)];exact h.r0 s hs
def bd:rG zH:=⟨λh M hu=>h.bd M hu⟩
structure gr(Y u:H)(ab:Nat->Option aN)(fd:Nat->Option b1.aN)(b:Nat)(L:dy)(T:b1.ak):Prop where
 log:jT zH Y u ab b L
 ki:b1.In Y u fd L.d T
 apart:∀c,ab c≠none->fd c=none
def own(ab:Nat->Option aN)(fd:Nat->Option b1.aN)(c:Nat):Prop:=ab c≠none∨fd c≠none
def gr.mono{ab:Nat->Option aN}{fd:Nat->Option b1.aN}{T:b1.ak}(h:gr Y u ab fd b L T)(hu:u.le u'):gr Y u' ab fd b L T:=⟨h.log.mono bd hu,h.ki.mono b1.bd hu,h.apart⟩
def gr.cL{ab:Nat->Option aN}{fd hq:Nat->Option b1.aN}{T T':b1.ak}(h:gr Y u ab fd b L T)(r:b1.rI Y u fd L.d u' hq T'):gr Y u' ab hq b L T'/\cD u (own ab fd) u' (own ab hq):=by
 refine⟨⟨h.log.same bd (λc o E M=>r.cL.bd c o E (h.apart c M)) r.is.le,r.is,λc E=>?_⟩,λc o E M=>r.cL.bd c o E ?_,λc E=>?_⟩;obtain⟨o,U⟩:=Option.ne_none_iff_exists'.1 (h.log.known c E);exact r.cL.off U (h.apart c E);cases e:fd c with
 |none=>rfl|some t=>exact absurd (.inr (by rw[e];simp)) M
 rcases E with E|E;exact .inl (.inl E);exact(r.cL.grow c E).imp .inr id
def gr.put{ab:Nat->Option aN}{fd:Nat->Option b1.aN}{m:Nat}{T:b1.ak}{o:Obj}(h:gr Y u ab fd b L T)(hm:ab m≠none)(aj:L'.d=L.d)(ht:zH ab (u.ins m o) b L'):gr Y (u.ins m o) ab fd b L' T/\cD u (own ab fd) (u.ins m o) (own ab fd):=by
 have I:∀c,fd c≠none->c≠m:=λc E e=>E (by rw[e];exact h.apart m hm);have hle:Y.le (u.ins m o):=λc bn E=>by rw[aL _ _ λe=>by rw[e,h.log.out m hm] at E;cases E];exact h.log.le c bn E
 refine⟨⟨⟨ht,hle,h.log.out,λc E=>?_⟩,?_,h.apart⟩,λc bn E M=>?_,λc E=>.inl E⟩;by_cases e:c=m;rw[e,aS];simp;rw[aL _ _ e];exact h.log.known c E;rw[aj];exact h.ki.same b1.bd (λc bn E M=>by rw[aL _ _ (I c M)];exact E) hle;rw[aL _ _ λe=>M (.inl (by rw[e];exact hm))];exact E
def gr.obj{ab:Nat->Option aN}{fd:Nat->Option b1.aN}{T:b1.ak}(h:gr Y u ab fd b L T)(aO:L'.d=L.d)(ar:L'.bD=L.bD)(cq:L'.bj=L.bj):gr Y (u.ins b L'.obj) ab fd b L' T/\cD u (own ab fd) (u.ins b L'.obj) (own ab fd):=by
 have t:=h.log.az;have eA:∀{c o iy},u c=some o->ab c=some iy->iy≠.log->(u.ins b L'.obj) c=some o:=λE ht ac=>by rw[aL _ _ λe=>by rw[e,t.iV] at ht;exact ac (Option.some.inj ht).symm];exact E
 refine h.put (by rw[t.iV];simp) aO ⟨⟨aS _ _ _,?_,?_⟩,t.iV,by rw[ar];exact t.dZ,by rw[cq];exact t.r0⟩;rw[ar,cq];exact t.is.kV.le λg o N U=>eA U (t.dZ g N) (by simp);rw[cq];exact λs hs=>eA (t.is.each s hs) (t.r0 s hs) (by simp)
def w4{α β:Type}(f:α->β){l:List α}{x x':α}(hi:l[i]?=some x)(M:f x'=f x):(l.set i x').map f=l.map f:=by have dC:i<l.length:=(List.getElem?_eq_some_iff.1 hi).1;rw[List.map_set,M];refine List.ext_getElem? λj=>?_;rw[List.getElem?_set];by_cases e:i=j;subst e;rw[if_pos rfl,if_pos (by simpa using dC),List.getElem?_map,hi];rfl;rw[if_neg e]
def gr.e7{ab:Nat->Option aN}{fd:Nat->Option b1.aN}{T:b1.ak}{s':fI}(h:gr Y u ab fd b L T)(ac:(L.bj.map (·.ad)).Nodup)(hi:L.bj[i]?=some s)(Z:s'.ad=s.ad):gr Y (u.ins s.ad s'.obj) ab fd b {L with bj:=L.bj.set i s'} T/\cD u (own ab fd) (u.ins s.ad s'.obj) (own ab fd):=by
 have t:=h.log.az;have hm:=List.mem_of_getElem? hi;have N:=t.r0 s hm;have eA:∀{c o iy},u c=some o->ab c=some iy->iy≠.bR->(u.ins s.ad s'.obj) c=some o:=λE ht ac=>by rw[aL _ _ λe=>by rw[e,N] at ht;exact ac (Option.some.inj ht).symm];exact E
 have dC:i<L.bj.length:=(List.getElem?_eq_some_iff.1 hi).1;have kp:=λ{β:Type} (f:fI->β)=>w4 f hi (x':=s');refine h.put (by rw[N];simp) rfl ⟨⟨eA t.is.cell t.iV (by simp),?_,λx I=>?_⟩,t.iV,t.dZ,λx I=>?_⟩;have:((L.bj.set i s').flatMap tg)=L.bj.flatMap tg:=by
   have e:=kp (λs=>Value.pointer (some ⟨s.ad,0,none⟩)) (by rw[Z]);have ar:∀l:List fI,l.flatMap tg=l.map λs=>Value.pointer (some ⟨s.ad,0,none⟩):=λl=>by
    induction l with
    |nil=>rfl|cons x l aG=>rw[List.flatMap_cons,aG];rfl
   rw[ar,ar];exact e
 show Own _ _ 1 L.bD ((L.bj.set i s').flatMap tg);rw[this];exact t.is.kV.le λg o N U=>eA U (t.dZ g N) (by simp);obtain⟨j,aH,I⟩:=List.mem_iff_getElem.1 I;rw[List.getElem_set] at I;by_cases e:i=j;rw[if_pos e] at I;rw[<-I,Z];exact aS _ _ _;rw[if_neg e] at I;have ik:j<L.bj.length:=by simpa using aH
 have ah:x.ad≠s.ad:=λar=>e ((List.getElem_inj (i:=i) (j:=j) (h₀:=by simpa using dC) (h₁:=by simpa using ik) ac).1 (by rw[List.getElem_map,List.getElem_map,I,ar];rw[(List.getElem?_eq_some_iff.1 hi).2]))
 rw[aL _ _ ah];exact t.is.each x (by rw[<-I];exact List.getElem_mem _);rcases List.mem_or_eq_of_mem_set I with I|rfl;exact t.r0 x I;rw[Z];exact N
def gr.push{v z:H}{D0:Nat->Prop}{ab:Nat->Option aN}{fd:Nat->Option b1.aN}{T:b1.ak}{q:J}(h:gr Y u ab fd b L T)(h0:cD v D0 u (own ab fd))(av:v s.ad=none)(hs:u s.ad=some s.obj)(df:ab s.ad=none)(dh:fd s.ad=none)(se:Y s.ad=none)
  (ay:aE sV z 293 1 q ((L.bj++ [s]).flatMap tg)) (cQ:∀c o,u c=some o->L.bD.ad≠some c->z c=some o) (ee:∀g,q.ad=some g->L.bD.ad=some g∨u g=none) (aO:L'.d=L.d) (ar:L'.bD=q) (cq:L'.bj=L.bj++ [s]):
  ∃aM,gr Y (z.ins b L'.obj) aM fd b L' T/\cD v D0 (z.ins b L'.obj) (own aM fd):=by
 classical
 have t:=h.log.az
 let iI:Nat->Option aN:=λc=>if c=s.ad then some .bR else if q.ad=some c then some .kV else if L.bD.ad=some c then none else ab c
 have lr:∀c,q.ad=some c->ab c=some .kV∨u c=none:=λc E=>(ee c E).imp (t.dZ c) id
 have jR:q.ad≠some s.ad:=λe=>by rcases lr _ e with e|e;rw[df] at e;cases e;rw[hs] at e;cases e
 have aB:iI s.ad=some .bR:=if_pos rfl
 have agT:∀c,q.ad=some c->iI c=some .kV:=λc E=>by have:c≠s.ad:=λe=>jR (e▸E);simp only[iI,if_neg this,if_pos E]
 have ny:∀c iy,ab c=some iy->iy≠.kV->iI c=some iy:=λc iy E ht=>by
  have n0:c≠s.ad:=λe=>by rw[e,df] at E;cases E
  have cb:q.ad≠some c:=λe=>by rcases lr c e with e|e;rw[E] at e;exact ht (Option.some.inj e);exact h.log.known c (by rw[E];simp) e
  have di:L.bD.ad≠some c:=λe=>by have:=t.dZ c e;rw[E] at this;exact ht (Option.some.inj this)
  simp only[iI,if_neg n0,if_neg cb,if_neg di,E]
 have fn:∀c,iI c≠none->c=s.ad∨q.ad=some c∨(ab c≠none/\L.bD.ad≠some c):=λc E=>by by_cases dH:c=s.ad;exact .inl dH;by_cases aO:q.ad=some c;exact .inr (.inl aO);by_cases ar:L.bD.ad=some c;exact absurd (by simp only[iI,if_neg dH,if_neg aO,if_pos ar]) E;refine .inr (.inr ⟨λcq=>E ?_,ar⟩);simp only[iI,if_neg dH,if_neg aO,if_neg ar,cq]
 have cW:∀{c},ab c≠some .log->c≠b:=λE e=>E (by rw[e];exact t.iV)
 have cur:∀{c o},u c=some o->ab c≠some .kV->c≠b->(z.ins b L'.obj) c=some o:=λE ht Z=>by rw[aL _ _ Z];exact cQ _ _ E λe=>ht (t.dZ _ e)
 have FB:∀c,q.ad=some c->c≠b:=λc E e=>by rcases lr c E with ar|ar;rw[e,t.iV] at ar;cases ar;exact h.log.known b (by rw[t.iV];simp) (e▸ar)
 have Uz:∀c,fd c≠none->ab c=none:=λc E=>by
  cases e:ab c with
  |none=>rfl|some iy=>exact absurd (h.apart c (by rw[e];simp)) E
 have mB:Y.le (z.ins b L'.obj):=λc o E=>by
  have M:ab c=none:=by
   cases e:ab c with
   |none=>rfl|some iy=>have:=h.log.out c (by rw[e];simp);rw[this] at E;cases E
  exact cur (h.log.le c o E) (by rw[M];simp) (cW (by rw[M];simp))
 refine⟨iI,⟨⟨⟨⟨aS _ _ _,?_,λx I=>?_⟩,ny _ _ t.iV (by simp),?_,λx I=>?_⟩,mB,λc E=>?_,λc E=>?_⟩,?_,λc E=>?_⟩,λc o E M=>?_,λc E=>?_⟩
 rw[ar,cq]
 exact ay.own.le λg o N U=>by rw[aL _ _ (FB g N)];exact U
 rw[cq] at I
 rcases List.mem_append.1 I with I|I
 exact cur (t.is.each x I) (by rw[t.r0 x I];simp) (cW (by rw[t.r0 x I];simp))
 rw[List.mem_singleton.1 I]
 exact cur hs (by rw[df];simp) (cW (by rw[df];simp))
 rw[ar];exact agT
 rw[cq] at I
 rcases List.mem_append.1 I with I|I
 exact ny _ _ (t.r0 x I) (by simp)
 rw[List.mem_singleton.1 I];exact aB
 rcases fn c E with e|e|e
 rw[e];exact se
 rcases lr c e with e|e
 exact h.log.out c (by rw[e];simp)
 exact h.log.le.none e
 exact h.log.out c e.1
 by_cases nv:c=b
 rw[nv,aS];simp
 rcases fn c E with e|e|e
 rw[e,cur hs (by rw[df];simp) (cW (by rw[df];simp))];simp
 rw[aL _ _ nv]
 rcases ay.own.is with h0|⟨g,s8,ap,N,_⟩
 rw[h0] at e;cases e
 have ar:some g=some c:=by unfold J.ad at e;rw[ap] at e;exact e
 rw[<-Option.some.inj ar,N];simp
 obtain⟨o,U⟩:=Option.ne_none_iff_exists'.1 (h.log.known c e.1)
 rw[aL _ _ nv,cQ c o U e.2];simp
 rw[aO]
 exact h.ki.same b1.bd (λc o E M=>cur E (by rw[Uz c M];simp) (cW (by rw[Uz c M];simp))) mB
 rcases fn c E with e|e|e
 rw[e];exact dh
 rcases lr c e with e|e
 exact h.apart c (by rw[e];simp)
 exact h.ki.fresh e
 exact h.apart c e.1
 have hw:=h0.bd c o E M
 have dp:¬own ab fd c:=λe=>by rcases h0.grow c e with e|e;exact M e;rw[e] at E;cases E
 have kK:ab c=none:=Classical.byContradiction λe=>dp (.inl e)
 exact cur hw (by rw[kK];simp) (cW (by rw[kK];simp))
 rcases E with E|E
 rcases fn c E with e|e|e
 exact .inr (by rw[e];exact av)
 rcases lr c e with e|e
 exact h0.grow c (.inl (by rw[e];simp))
 by_cases aj:D0 c
 exact .inl aj
 refine .inr ?_
 cases ar:v c with
 |none=>rfl
 |some o=>rw[h0.bd c o ar aj] at e;cases e
 exact h0.grow c (.inl e.1)
 exact h0.grow c (.inr E)
def ln(l:List fI):Int:=match l.getLast? with
 |some g=>g.len|none=>0
structure Ok(L:dy)(T:b1.ak)(c:Int):Prop where
 ki:b1.dj T
 room:T.room=4194304
 steps:T.steps<=c
 db:(T.db.length:Int)<=c
 used:T.used<=c
 nd:(L.bj.map (·.ad)).Nodup
 iH:(L.bj.length:Int)*16384+ln L.bj<=c+16384
 each:∀s∈L.bj,0<=s.len/\0<s.next/\s.next<=c
 names:L.bj.map (·.name)=(List.range L.bj.length).map fe
 seq:L.seq=L.bj.length
 now:T.now.map (·.1)=L.bj.map (·.name)
def Ok.Y5{T:b1.ak}(h:Ok L T c):0<=ln L.bj:=by
 unfold ln;cases e:L.bj.getLast? with
 |none=>exact Int.le_refl _|some g=>exact(h.each g (List.mem_of_getLast? e)).1
def Ok.short{T:b1.ak}(h:Ok L T c)(E:c<=1000000):L.bj.length<=62:=by have:=h.iH;have:=h.Y5;omega
def Jr{l:List fI}(h:l.getLast?=some s):l[l.length-1]?=some s:=by rw[<-h,List.getLast?_eq_getElem?]
def QY{l:List fI}{s':fI}(h:l.getLast?=some s):(l.set (l.length-1) s').getLast?=some s':=by have h1:=(List.getElem?_eq_some_iff.1 (Jr h)).1;rw[List.getLast?_eq_getElem?,List.length_set,List.getElem?_set,if_pos rfl,if_pos h1]
def Ok.lay{T T':b1.ak}{n:Int}(h:Ok L T c)(hs:L.bj.getLast?=some s)(h0:0<=n)(t1:b1.dj T')(t2:T'.room=T.room)(t3:T'.steps=T.steps+1)(t4:T'.db=T.db)(t5:T'.used=T.used+n)(t6:T'.now=T.now):
  Ok {L with bj:=L.bj.set (L.bj.length-1) {s with len:=s.len+n,next:=s.next+1,qG:=true}} T' (c+n+1):=by
 have ap:=Jr hs
 have hm:=List.mem_of_getLast? hs
 have h1:=h.steps;have h2:=h.db;have h3:=h.used;have aZ:=h.iH;have bJ:=h.each s hm
 have ai:ln L.bj=s.len:=by unfold ln;rw[hs]
 obtain⟨s',dz⟩:∃s':fI,s'={s with len:=s.len+n,next:=s.next+1,qG:=true}:=⟨_,rfl⟩
 rw[<-dz]
 have eQ:s'.ad=s.ad:=by rw[dz]
 have eI:s'.name=s.name:=by rw[dz]
 have mi:s'.len=s.len+n:=by rw[dz]
 have qD:s'.next=s.next+1:=by rw[dz]
 refine⟨t1,t2.trans h.room,by omega,by rw[t4];omega,by omega,?_,?_,λx I=>?_,?_,?_,?_⟩
 show((L.bj.set _ _).map _).Nodup
 rw[w4 _ ap eQ];exact h.nd
 show(((L.bj.set _ _).length:Nat):Int)*16384+ln (L.bj.set _ _)<=_
 have:ln (L.bj.set (L.bj.length-1) s')=s.len+n:=by unfold ln;rw[QY hs];exact mi
 rw[List.length_set,this]
 omega
 rcases List.mem_or_eq_of_mem_set I with I|rfl
 have:=h.each x I;omega
 omega
 show(L.bj.set _ _).map _=(List.range (L.bj.set _ _).length).map fe
 rw[w4 _ ap eI,List.length_set];exact h.names
 show L.seq=(((L.bj.set _ _).length:Nat):Int)
 rw[List.length_set];exact h.seq
 show T'.now.map _=(L.bj.set _ _).map _
 rw[w4 _ ap eI,t6];exact h.now
def Ok.begin{T T':b1.ak}{q:J}{d:Bool}{m:Nat}(h:Ok L T c)(E:0<=c)(ai:L.bj=[]∨16384<ln L.bj)(hs:s.len=16/\0<s.next/\s.next<=c+20)(Z:s.ad∉L.bj.map (·.ad))(ac:s.name=fe L.bj.length)
  (t1:b1.dj T') (t2:T'.room=T.room) (t3:T'.steps=T.steps+2) (t4:T'.db.length=T.db.length+1) (t5:T'.used=T.used+16) (t6:T'.now=T.now++ [(s.name,m)]):
  Ok {L with bD:=q,bj:=L.bj++ [s],dir:=d,seq:=L.seq+1} T' (c+20):=by
 have h1:=h.steps;have h2:=h.db;have h3:=h.used;have aZ:=h.iH;have bJ:=h.Y5;have e0:=h.seq
 refine⟨t1,t2.trans h.room,by omega,by omega,by omega,?_,?_,λx I=>?_,?_,?_,?_⟩
 show((L.bj++ [s]).map _).Nodup
 rw[List.map_append]
 exact List.nodup_append.2 ⟨h.nd,by simp,λa ap b jd e=>Z (by have dz:a=s.ad:=e.trans (List.mem_singleton.1 jd);rw[<-dz];exact ap)⟩
 have:ln (L.bj++ [s])=16:=by unfold ln;rw[List.getLast?_concat];exact hs.1
 show(((L.bj++ [s]).length:Nat):Int)*16384+ln (L.bj++ [s])<=_
 rw[this,List.length_append]
 rcases ai with ai|ai
 rw[ai];simp;omega
 simp only[List.length_cons,List.length_nil];omega
 rcases List.mem_append.1 I with I|I
 have:=h.each x I;omega
 rw[List.mem_singleton.1 I];omega
 show(L.bj++ [s]).map _=(List.range (L.bj++ [s]).length).map fe
 rw[List.map_append,List.length_append,h.names,List.length_cons,List.length_nil,List.range_succ,List.map_append]
 simp[ac]
 show L.seq+1=(((L.bj++ [s]).length:Nat):Int)
 rw[List.length_append];simp only[List.length_cons,List.length_nil];omega
 show T'.now.map _=(L.bj++ [s]).map _
 rw[t6,List.map_append,List.map_append,h.now];rfl
end
end dn
section
variable {τ:Type}
abbrev part(f:Nat->Option τ)(i:τ)(c:Nat):Prop:=f c=some i
structure pI(Y u:H)(f:Nat->Option τ):Prop where
 le:Y.le u
 out:∀c,f c≠none->Y c=none
 known:∀c,f c≠none->u c≠none
def pI.mono{Y u u':H}{f:Nat->Option τ}(h:pI Y u f)(hu:u.le u'):pI Y u' f:=⟨h.le.trans hu,h.out,λc E e=>by obtain⟨o,U⟩:=Option.ne_none_iff_exists'.1 (h.known c E);rw[hu c o U] at e;cases e⟩
structure Ul(Y u:H)(f:Nat->Option τ)(i:τ)(u':H)(D':Nat->Prop)(bl:Nat->Option τ):Prop where
 own:pI Y u' bl
 is:part bl i=D'
 eA:∀j,j≠i->part bl j=part f j
 bd:∀c o,u c=some o->f c≠some i->u' c=some o
 cL:cD u (λc=>f c≠none) u' λc=>bl c≠none
def BI{Y u u':H}{f:Nat->Option τ}{i:τ}{D':Nat->Prop}(h:pI Y u f)(t:cD u (part f i) u' D')(hk:∀c,D' c->u' c≠none):∃bl,Ul Y u f i u' D' bl:=by
 classical
 let bl:Nat->Option τ:=λc=>if D' c then some i else if f c=some i then none else f c
 have aO:∀c,bl c=some i↔D' c:=λc=>by by_cases aj:D' c;simp[bl,aj];by_cases M:f c=some i<;>simp[bl,aj,M]
 have ar:∀c,¬D' c->f c≠some i->bl c=f c:=λc aj M=>by simp[bl,aj,M]
 have nd:∀c j,j≠i->f c=some j->¬D' c:=λc j aH M aj=>by rcases t.grow c aj with h1|h1;have h2:f c=some i:=h1;rw[M] at h2;exact aH (Option.some.inj h2);exact h.known c (by rw[M];simp) h1
 have iJ:∀c,bl c≠none->f c≠none∨u c=none:=λc E=>by by_cases aj:D' c;rcases t.grow c aj with h1|h1;have h2:f c=some i:=h1;exact .inl (by rw[h2];simp);exact .inr h1;by_cases M:f c=some i;exact .inl (by rw[M];simp);rw[ar c aj M] at E;exact .inl E
 have mB:Y.le u':=λc o E=>t.bd c o (h.le c o E) λM=>by have h2:f c=some i:=M;rw[h.out c (by rw[h2];simp)] at E;cases E
 refine⟨bl,⟨mB,λc E=>?_,λc E=>?_⟩,funext λc=>propext (aO c),λj aH=>funext λc=>propext ⟨λM=>?_,λM=>?_⟩,t.bd,⟨λc o E M=>t.bd c o E λaj=>?_,iJ⟩⟩;rcases iJ c E with h1|h1;exact h.out c h1;exact h.le.none h1;by_cases aj:D' c;exact hk c aj;by_cases M:f c=some i;exact absurd (by simp[bl,aj,M]) E;rw[ar c aj M] at E;obtain⟨o,U⟩:=Option.ne_none_iff_exists'.1 (h.known c E);rw[t.bd c o U M];simp;have b5:bl c=some j:=M;by_cases aj:D' c;rw[(aO c).2 aj] at b5;exact absurd (Option.some.inj b5).symm aH;by_cases h2:f c=some i;exact absurd b5 (by simp[bl,aj,h2]);rw[ar c aj h2] at b5;exact b5;have gw:f c=some j:=M;show bl c=some j;rw[ar c (nd c j aH gw) (by rw[gw];exact λe=>aH (Option.some.inj e))];exact gw;have h2:f c=some i:=aj;exact M (by rw[h2];simp)
end
section
variable{u Y v u':H}{dF:List bk}{seen q:List Int}{rest:List cc}{n k e:Nat}{ax ss a7:J}{x y j w:Int}{D:List J}{L:List aT}{K:H->Prop}{xs:List Value}
def CC(d:List Int):Prop:=d.length=8/\∀x∈d,0<=x/\x<65536
def CC.set{d:List Int}(h:CC d){i:Nat}(h0:0<=x)(h1:x<65536):CC (d.set i x):=
 ⟨by rw[List.length_set];exact h.1,λy af=>by rcases List.mem_or_eq_of_mem_set af with h2|h2;exact h.2 y h2;omega⟩
def CC.get{d:List Int}(h:CC d){i:Nat}(hi:i<8):0<=d.getD i 0/\d.getD i 0<65536:=by
 have ai:i<d.length:=by rw[h.1];exact hi
 rw[List.getD_eq_getElem?_getD,List.getElem?_eq_getElem ai];exact h.2 _ (List.getElem_mem ai)
def rt(w:Int):Int:=(least λn=>w<((n:Int)+1)*((n:Int)+1):Nat)
def aqs(h0:0<=x)(h:x<y):x*x<y*y:=by have h1:x*x<=x*y:=Int.mul_le_mul_of_nonneg_left (by omega) h0;have h2:x*y<y*y:=Int.mul_lt_mul_of_pos_right h (by omega);omega
def B6(h0:0<=x)(h:x<=y):x*x<=y*y:=Int.mul_le_mul h h h0 (by omega)
theorem w1(h0:0<=w):0<=rt w/\rt w*rt w<=w/\w<(rt w+1)*(rt w+1):=by
 have hex:∃n:Nat,w<((n:Int)+1)*((n:Int)+1):=⟨w.toNat,by
  grind⟩
 have h1:=Bp hex;unfold rt;generalize ac:(least λn=>w<((n:Int)+1)*((n:Int)+1))=n at*;refine⟨by omega,?_,h1⟩;cases n with
 |zero=>simpa using h0|succ m=>
  have hm:¬w<((m:Int)+1)*((m:Int)+1):=λbh=>by have:=least_le (P:=λn:Nat=>w<((n:Int)+1)*((n:Int)+1)) bh;omega
  grind
def rt_eq{s:Int}(h0:0<=s)(h1:s*s<=w)(h2:w<(s+1)*(s+1)):s=rt w:=by
 have hw:0<=w:=by have:=Int.mul_nonneg h0 h0;omega
 obtain⟨lu,jS,iw⟩:=w1 hw;by_cases ap:s<rt w;have:=B6 (show 0<=s+1 by omega) (show s+1<=rt w by omega);omega;by_cases Z:rt w<s;have:=B6 (show 0<=rt w+1 by omega) (show rt w+1<=s by omega);omega;omega
def RT(h:kC w):rt w<18446744073709551616:=by obtain⟨lu,jS,iw⟩:=w1 h.1;by_cases Z:18446744073709551616<=rt w;have:=B6 (show(0:Int)<=18446744073709551616 by omega) Z;have:=h.2;omega;omega
def qF(bz hi q:List Int):Nat->Int
 |0=>0|n+1=>qF bz hi q n+(if q.getD n 0<bz.getD n 0 then pB (bz.getD n 0) (q.getD n 0) else 0)+(if hi.getD n 0<q.getD n 0 then pB (q.getD n 0) (hi.getD n 0) else 0)
def UO{bz hi:List Int}(ai:ej bz)(bW:ej hi)(ay:ej q)(aO:bz.length=q.length)(ar:hi.length=q.length):∀n,n<=q.length->0<=qF bz hi q n/\qF bz hi q n<=n*36893488113059364872:=by
 intro n;induction n with
 |zero=>intro _;simp[qF]
 |succ n aG=>intro ac;obtain⟨i0,i1⟩:=aG (by omega);have O:=Sz (ai.2 n (by omega)) (ay.2 n (by omega));have a2:=Sz (ay.2 n (by omega)) (bW.2 n (by omega));unfold qF;split<;>split<;>omega
def zR(d ch:Int):Int:=if(if rt ch*rt ch=ch then rt ch else rt ch+1)<rt d then(rt d-(if rt ch*rt ch=ch then rt ch else rt ch+1))*(rt d-(if rt ch*rt ch=ch then rt ch else rt ch+1)) else 0
def l0(r:cc)(q:List Int):Int:=if r.ax=2 then qF r.bz r.hi q q.length else if r.ax=3 then zR (gS r.bz q r.bz.length) r.ch else 0
def aeF{d ch:Int}(aj:kC d)(W:kC ch):kC (zR d ch):=by
 unfold zR;have h1:=RT aj;have h2:=(w1 aj.1).1;have h3:=(w1 W.1).1;generalize ht:(if rt ch*rt ch=ch then rt ch else rt ch+1)=t;have t0:0<=t:=by omega
 split;rename_i bh;refine⟨Int.mul_nonneg (by omega) (by omega),?_⟩;have:=B6 (show 0<=rt d-t by omega) (show rt d-t<=18446744073709551615 by omega);omega;exact⟨by omega,by omega⟩
def amz{r:cc}(W:k5 r q.length)(ay:ej q):kC (l0 r q):=by unfold l0;rcases W.shape with⟨e,_⟩|⟨e,_,v1,v2,b9,cZ,hle⟩|⟨e,ar,v1,b9,wK⟩;rw[if_neg (by omega),if_neg (by omega)];exact⟨by omega,by omega⟩;rw[if_pos e];have:=UO v1 v2 ay (by omega) (by omega) q.length (Nat.le_refl _);have:=ay.1;exact⟨by omega,by omega⟩;rw[if_neg (by omega),if_pos e];exact aeF (F5 v1 ay (by omega)) wK
def K1(_hx:cS x)(af:cS y):x=cK (dY x y)/\y=cO (dY x y):=by unfold cS at*;unfold cK cO dY;omega
def ajh(h1:cK x=cK y)(h2:cO x=cO y):x=y:=by rw[<-oR x,<-oR y,h1,h2]
def oT(q:List Int)(k:Int)(dF:List bk)(rest:List cc):Prop:=rest=[]∨(k<=dF.length/\∀r∈rest,(dF.getD (k-1).toNat default).2<l0 r q)
def eP(a b:J):Prop:=∀g,a.ad=some g->b.ad≠some g
def eP.symm{a b:J}(h:eP a b):eP b a:=λg N hJ=>h g hJ N
def qy(D:List J)(u v:H):Prop:=∀b o,u b=some o->(∀s∈D,s.ad≠some b)->v b=some o
def qy.refl(D:List J)(u:H):qy D u u:=λ_ _ h _=>h
def qy.trans{w:H}(h:qy D u v)(k:qy D v w):qy D u w:=λb o Z aj=>k b o (h b o Z aj) aj
def e8.bd{s:J}(h:e8 u v s)(hs:s∈D):qy D u v:=λb o Z aj=>h b o Z (aj s hs)
theorem qy.own{t:J}(hk:qy D u v)(h:aE Y u e k t xs)(M:∀s∈D,∀g,s.ad=some g->Y g=none)(aj:∀s∈D,eP s t):aE Y v e k t xs:=
 ⟨h.own.le λb o Z hu=>hk b o hu λs hs N=>aj s hs b N Z,λb o Z=>hk b o (h.le b o Z) λs hs N=>(by grind),h.fresh⟩
def aE.eR{aI:H}{dz c7:Nat}{s t:J}{cM:List Value}(h:aE Y u e k s xs)(hu:u.le aI)(bx:aE aI v dz c7 t cM):eP s t:=λg N hJ=>by
 have h1:=bx.fresh g hJ;have h2:=fj h N;cases I:u g with
 |none=>exact h2 I|some o=>rw[hu _ _ I] at h1;cases h1
def cc.ho(r:cc):List J:=[r.ls,r.hs,r.is]
structure uu(Y u:H)(r:cc):Prop where
 l:aE Y u 3 1 r.ls (r.bz.flatMap encI)
 h:aE Y u 3 1 r.hs (r.hi.flatMap encI)
 i:aE Y u 3 1 r.is (r.ids.flatMap encI)
def qy.am5{r:cc}(hk:qy D u v)(h:uu Y u r)(M:∀s∈D,∀g,s.ad=some g->Y g=none)(aj:∀s∈D,∀t∈r.ho,eP s t):uu Y v r:=
 ⟨hk.own h.l M λs hs=>aj s hs _ (by simp[cc.ho]),hk.own h.h M λs hs=>aj s hs _ (by simp[cc.ho]),hk.own h.i M λs hs=>aj s hs _ (by simp[cc.ho])⟩
def n5(ax ss a7:J)(rest:List cc):List J:=ax::ss::a7::rest.flatMap cc.ho
structure kb(Y u:H)(ax ss a7:J)(dF:List bk)(seen:List Int)(rest:List cc):Prop where
 h:aE Y u 83 3 ax (dF.flatMap ey)
 s:aE Y u 3 1 ss (seen.flatMap encI)
 r:aE Y u 205 6 a7 (rest.flatMap tf)
 g:∀r∈rest,uu Y u r
 eR:(n5 ax ss a7 rest).Pairwise eP
def kb.fresh(h:kb Y u ax ss a7 dF seen rest):∀s∈n5 ax ss a7 rest,∀g,s.ad=some g->Y g=none:=by intro s hs;simp only[n5,List.mem_cons,List.mem_flatMap] at hs;rcases hs with rfl|rfl|rfl|⟨r,W,hs⟩;exact h.h.fresh;exact h.s.fresh;exact h.r.fresh;have:=h.g r W;simp only[cc.ho,List.mem_cons,List.not_mem_nil,or_false] at hs;rcases hs with rfl|rfl|rfl;exact this.l.fresh;exact this.h.fresh;exact this.i.fresh
def kb.known(h:kb Y u ax ss a7 dF seen rest):∀s∈n5 ax ss a7 rest,∀g,s.ad=some g->u g≠none:=by intro s hs g N;simp only[n5,List.mem_cons,List.mem_flatMap] at hs;rcases hs with rfl|rfl|rfl|⟨r,W,hs⟩;exact fj h.h N;exact fj h.s N;exact fj h.r N;have:=h.g r W;simp only[cc.ho,List.mem_cons,List.not_mem_nil,or_false] at hs;rcases hs with rfl|rfl|rfl;exact fj this.l N;exact fj this.h N;exact fj this.i N
def kb.mono(h:kb Y u ax ss a7 dF seen rest)(k:u.le u'):kb Y u' ax ss a7 dF seen rest:=
 ⟨h.h.mono k,h.s.mono k,h.r.mono k,λr W=>⟨(h.g r W).l.mono k,(h.g r W).h.mono k,(h.g r W).i.mono k⟩,h.eR⟩
def kb.le(h:kb Y u ax ss a7 dF seen rest):Y.le u:=h.h.le
def kb.read(h:kb Y u ax ss a7 dF seen rest):sP u ax ss a7 dF seen rest:=
 ⟨h.h.fN,h.s.ints,h.r.own.bR,λr W=>⟨(h.g r W).l.ints,(h.g r W).h.ints,(h.g r W).i.ints⟩⟩
def kb.else(h:kb Y u ax ss a7 dF seen rest)(he:∀b o,Y b=none->u b=some o->u' b=some o):sP u' ax ss a7 dF seen rest:=by
 have one:∀{e k:Nat} {s:J} {xs:List Value},aE Y u e k s xs->bb u' s k xs:=λU=>(U.own.le (u':=u') λb o Z hu=>he b o (U.fresh b Z) hu).bR;have ints:∀{e:Nat} {s:J} {l:List Int},aE Y u e 1 s (l.flatMap encI)->Ints u' s l:=λU=>by have:=one U;rw[tk] at this;exact this
 exact⟨one h.h,ints h.s,one h.r,λr W=>⟨ints (h.g r W).l,ints (h.g r W).h,ints (h.g r W).i⟩⟩
def cc.core(r:cc):Int×Int×List Int×List Int×List Int:=(r.ax,r.ch,r.bz,r.hi,r.ids)
def k6(x y:Nat->Int):Nat->Int
 |0=>0|n+1=>k6 x y n+x n*y n
def M7(x:Nat->Int)(n:Nat):0<=k6 x x n:=by
 induction n with
 |zero=>exact Int.le_refl _|succ n aG=>
  have:0<=x n*x n:=by by_cases h:0<=x n;exact Int.mul_nonneg h h;exact Int.mul_nonneg_of_nonpos_of_nonpos (by omega) (by omega)
  unfold k6;omega
theorem afU(a b:Int)(x y:Nat->Int)(n:Nat):k6 (λi=>a*x i-b*y i) (λi=>a*x i-b*y i) n=a*a*k6 x x n-2*(a*b)*k6 x y n+b*b*k6 y y n:=by
 induction n with
 |zero=>simp[k6]|succ n aG=>
  unfold k6
  grind
theorem aff(x y:Nat->Int)(n:Nat):k6 x y n*k6 x y n<=k6 x x n*k6 y y n:=by
 have I:=M7 x n;have af:=M7 y n;have h:=λa b=>(afU a b x y n)▸M7 (λi=>a*x i-b*y i) n;generalize k6 x x n=p at*;generalize k6 y y n=r at*;generalize k6 x y n=q at*;by_cases W:0<r;have h1:=h r q;have e:r*r*p-2*(r*q)*q+q*q*r=r*(p*r-q*q):=by grind
 rw[e] at h1;by_cases E:0<=p*r-q*q;omega;have:=Int.mul_neg_of_pos_of_neg W (show p*r-q*q<0 by omega);omega;have j1:r=0:=by omega
 subst j1;have h1:=h 1 (p+1);have h2:=h 1 (-(p+1));have aO:(1:Int)*1*p-2*(1*(p+1))*q+(p+1)*(p+1)*0=p-2*((p+1)*q):=by grind
 have ar:(1:Int)*1*p-2*(1*(-(p+1)))*q+(-(p+1))*(-(p+1))*0=p+2*((p+1)*q):=by grind
 rw[aO] at h1;rw[ar] at h2;have ay:q=0:=by by_cases h3:1<=q;have:(p+1)*1<=(p+1)*q:=Int.mul_le_mul_of_nonneg_left h3 (by omega);omega;by_cases aZ:q<=-1;have:(p+1)*q<=(p+1)*(-1):=Int.mul_le_mul_of_nonneg_left aZ (by omega);omega;omega
 rw[ay];omega
def abA(a b:List Int)(n:Nat):gS a b n=k6 (λi=>a.getD i 0-b.getD i 0) (λi=>a.getD i 0-b.getD i 0) n:=by
 induction n with
 |zero=>rfl|succ n aG=>unfold gS k6;rw[aG];rfl
theorem aqr(c v q:List Int)(n:Nat):gS c q n=gS c v n+gS v q n+2*k6 (λi=>c.getD i 0-v.getD i 0) (λi=>v.getD i 0-q.getD i 0) n:=by
 induction n with
 |zero=>rfl|succ n aG=>
  unfold gS k6 pB
  grind
theorem aeG{D au F P ch:Int}(fb:D=au+F+2*P)(hY:0<=au)(ij:0<=F)(uL:0<=D)(avV:P*P<=au*F)(NR:au<=ch):zR D ch<=F:=by
 obtain⟨s0,s1,_⟩:=w1 uL;obtain⟨t0,t1,t2⟩:=w1 (show 0<=ch by omega);unfold zR;generalize aJ:(if rt ch*rt ch=ch then rt ch else rt ch+1)=T;have pL:0<=T/\ch<=T*T:=by grind
 generalize rt D=s at*;split;rename_i bh;by_cases E:(s-T)*(s-T)<=F;exact E;exfalso;by_cases aa:P<=T*(s-T)
 grind
 have aP:0<=T*(s-T):=Int.mul_nonneg pL.1 (by omega);have h1:=aqs aP (show T*(s-T)<P by omega);have h2:au*F<=(T*T)*((s-T)*(s-T)):=Int.mul_le_mul (by omega) (by omega) ij (by omega)
 grind
 exact ij
theorem aeO{bz hi v:List Int}:∀n,(∀i,i<n->bz.getD i 0<=v.getD i 0/\v.getD i 0<=hi.getD i 0)->qF bz hi q n<=gS v q n:=by
 intro n;induction n with
 |zero=>intro _;exact Int.le_refl _
 |succ n aG=>
  intro h;have h1:=aG λi hi=>h i (by omega);obtain⟨h2,h3⟩:=h n (by omega);unfold qF gS pB;generalize bz.getD n 0=a at*;generalize hi.getD n 0=b at*;generalize v.getD n 0=x at*;generalize q.getD n 0=y at*;have aP:0<=(x-y)*(x-y):=by by_cases h:0<=x-y;exact Int.mul_nonneg h h;exact Int.mul_nonneg_of_nonpos_of_nonpos (by omega) (by omega)
  have aO:y<a->(a-y)*(a-y)<=(x-y)*(x-y):=λ_=>B6 (by omega) (by omega);have ar:b<y->(y-b)*(y-b)<=(x-y)*(x-y):=λ_=>by
   have:=B6 (show 0<=y-b by omega) (show y-b<=y-x by omega)
   grind
  split<;>split<;>omega
def amB{r:cc}{v:List Int}(W:k5 r q.length)(av:v.length=q.length)(u7:ej v)(ay:ej q)(cr:mf r v):l0 r q<=gS v q v.length:=by
 unfold l0;have ij:=(F4 u7 ay v.length (Nat.le_refl _) (by omega)).1;rcases W.shape with⟨e,_⟩|⟨e,_,v1,v2,b9,cZ,hle⟩|⟨e,ar,v1,b9,wK⟩;omega;rw[if_pos e,<-av];exact aeO _ λi hi=>cr.1 e i hi;rw[if_neg (by omega),if_pos e];have ai:r.bz.length=v.length:=by omega
 have hY:=(F4 v1 u7 r.bz.length (Nat.le_refl _) (by omega)).1;have fb:=(F4 v1 ay r.bz.length (Nat.le_refl _) (by omega)).1;have h3:=aqr r.bz v q r.bz.length;have NR:=cr.2 e;rw[ai] at hY fb h3 NR ⊢;refine aeG h3 hY ij fb ?_ NR;rw[abA r.bz v,abA v q];exact aff _ _ _
theorem rowsOf:∀(S:List Int) (L:List aT),S.Perm (L.map (·.id))->∃m:List aT,m.Perm L/\m.map (·.id)=S:=by
 intro S;induction S with
 |nil=>
  simp_all|cons x S aG=>
  intro L h;obtain⟨r,W,I⟩:=List.mem_map.1 (h.mem_iff.1 (List.mem_cons_self ..));obtain⟨A,B,rfl⟩:=List.append_of_mem W;have bJ:S.Perm ((A++B).map (·.id)):=by
   have e0:(x::S).Perm (x::(A++B).map (·.id)):=by refine h.trans ?_;rw[List.map_append,List.map_cons,List.map_append,I];exact List.perm_middle
   exact(List.perm_cons x).1 e0
  obtain⟨m,AI,Pf⟩:=aG _ bJ;exact⟨r::m,(AI.cons r).trans List.perm_middle.symm,by grind⟩
def aq1{a:List bk}(ap:k<=a.length):∀{b:List bk},(∀x∈b,∀y∈dX k a,bh x y=false)->dX k (b++a)=dX k a:=by
 intro b;induction b with
 |nil=>intro _;rfl
 |cons x b aG=>intro h;have h1:=aG λz aP=>h z (List.mem_cons_of_mem _ aP);rw[List.cons_append,SO (by rw[List.length_append];omega) (by rw[h1];exact h x (List.mem_cons_self ..)),h1]
theorem Sound.parts{k:Int}(h:Sound L q k dF seen rest):∃m1 m2:List aT,(m1++m2).Perm L/\m1.map (·.id)=seen/\m2.map (·.id)=rest.flatMap (·.ids)/\dF=dX k.toNat (m1.map (hh q)):=by
 obtain⟨m,AI,Pf⟩:=rowsOf _ L h.all;have hs:(m.take seen.length).map (·.id)=seen:=by simp_all
 have aj:(m.drop seen.length).map (·.id)=rest.flatMap (·.ids):=by simp_all
 refine⟨m.take seen.length,m.drop seen.length,by simp_all,hs,aj,?_⟩;exact h.first _ (λr W=>AI.mem_iff.1 (List.mem_of_mem_take W)) hs
def Sound.afT{k:Int}(h:Sound L q k dF seen rest)(ay:jH L q):∀g∈dF,kC g.2:=by obtain⟨m1,m2,aa,_,_,e⟩:=h.parts;intro g N;rw[e] at N;obtain⟨r,W,rfl⟩:=List.mem_map.1 (aq2 N);exact ay.gh (aa.mem_iff.1 (List.mem_append_left _ W))
theorem Sound.co{k:Int}(h:Sound L q k dF seen rest):∀r∈rest,(∀x∈r.bz,kh x)/\∀x∈r.hi,kh x:=by
 intro r W;have all:∀{v:List Int},ej v->∀x∈v,kh x:=λav x I=>by obtain⟨i,hi,rfl⟩:=List.getElem_of_mem I;have:=av.2 i hi;rwa[List.getD_eq_getElem?_getD,List.getElem?_eq_getElem hi] at this
 rcases(h.jC r W).1.shape with⟨_,aO,ar,_⟩|⟨_,_,v1,v2,_,_,_⟩|⟨_,ar,v1,_,_⟩
 grind
 grind
 grind
theorem Sound.afy{k:Int}(h:Sound L q k dF seen rest)(ay:jH L q)(hk:1<=k)(E:oT q k dF rest):dF=dX k.toNat (L.map (hh q)):=by
 obtain⟨m1,m2,aa,hs,aj,e⟩:=h.parts;have tI:((m2++m1).map (hh q)).Perm (L.map (hh q)):=(List.perm_append_comm.trans aa).map _;rw[<-xa tI,List.map_append];rcases E with E|⟨hlen,E⟩
 simp_all
 have ai:(dX k.toNat (m1.map (hh q))).length=k.toNat:=by rw[<-e];have:=uf k.toNat (m1.map (hh q));rw[<-e] at this;omega
 have mY:k.toNat<=(m1.map (hh q)).length:=by have:=uf k.toNat (m1.map (hh q));omega
 rw[aq1 mY λx I y af=>?_,e];obtain⟨w,hw,rfl⟩:=List.mem_map.1 I;have akV:w∈L:=aa.mem_iff.1 (List.mem_append_right _ hw);have hid:w.id∈rest.flatMap (·.ids):=by grind
 obtain⟨r,W,mv⟩:=List.mem_flatMap.1 hid;obtain⟨AW,_,ep⟩:=h.jC r W;obtain⟨aw,jm,he,cr⟩:=ep _ mv;have Af:aw=w:=by
  have bX:=ay.rows.nodup;rw[List.nodup_iff_pairwise_ne,List.pairwise_map,List.pairwise_iff_getElem] at bX;obtain⟨i,hi,rfl⟩:=List.getElem_of_mem jm;obtain⟨j,aH,rfl⟩:=List.getElem_of_mem akV;by_cases h1:i<j
  grind
  grind
 subst Af;obtain⟨wM,u7⟩:=ay.rows.v _ jm;have aww:=amB AW (by omega) u7 ay.Cg cr;have tv:=E r W;have wx:y.2<=(dF.getD (k-1).toNat default).2:=by
  have p7:=KK k.toNat (m1.map (hh q));rw[<-e] at p7 af ai;obtain⟨i,hi,rfl⟩:=List.getElem_of_mem af;have AG:(k-1).toNat<dF.length:=by omega
  rw[List.getD_eq_getElem?_getD,List.getElem?_eq_getElem AG];show dF[i].2<=dF[(k-1).toNat].2;by_cases hK:i=(k-1).toNat
  grind
  have:=List.pairwise_iff_getElem.1 p7 i (k-1).toNat hi AG (by omega);rw[wy] at this;omega
 rw[wy];left;show y.2<gS aw.v q aw.v.length;omega
def JZ{L':List aT}{d:Int}(aj:1<=d/\d<=64)(hlen:L'.length<=512)(bX:(L'.map (·.id)).Nodup)(h:∀p∈L'.map aT.bV,1<=p.1/\p.1<=1000000000/\(p.2.length:Int)=d/\ej p.2):hp L' d:=
 ⟨aj,hlen,λr W=>⟨(h r.bV (List.mem_map_of_mem W)).1,(h r.bV (List.mem_map_of_mem W)).2.1⟩,bX,λr W=>(h r.bV (List.mem_map_of_mem W)).2.2⟩
def amp:kT Tryz.prog 395 "Len" 244 false=true:=by kernel_rfl
def amq:kT Tryz.prog 395 "Less" 428 false=true:=by kernel_rfl
def nSwap:kT Tryz.prog 395 "Swap" 429 false=true:=by kernel_rfl
def ams:kT Tryz.prog 395 "Push" 431 true=true:=by kernel_rfl
def amr:kT Tryz.prog 395 "Pop" 430 true=true:=by kernel_rfl
def aoM:nj Tryz.prog 393=some (.one .slice):=by kernel_rfl
def SZ:Tryz.prog.underlying 395=some (.pointer 393):=by kernel_rfl
def abR:iG Tryz.prog 393=some (83,3,24,[.int .i64 0,.int .u64 0,.int .u64 0]):=by kernel_rfl
def US(x y z:Int):hF Tryz.prog 393 1 #[(0,.agg #[.int .i64 x,.int .u64 y,.int .u64 z])]=some (83,[.int .i64 x,.int .u64 y,.int .u64 z]):=by kernel_rfl
def amt:fi Tryz.prog 244=true:=by kernel_rfl
def amu:fi Tryz.prog 428=true:=by kernel_rfl
def amx:fi Tryz.prog 429=true:=by kernel_rfl
def amw:fi Tryz.prog 431=true:=by kernel_rfl
def amv:fi Tryz.prog 430=true:=by kernel_rfl
def aE.front{s:J}(h:aE Y u e k s xs){m:Nat}(hm:m<=s.n):aE Y u e k (s.part 0 m s.c k) (xs.take (m*k))/\(s.part 0 m s.c k).ad=s.ad/\(s.part 0 m s.c k).n=m:=by
 have ap:(s.part 0 m s.c k).a=s.a:=by unfold J.part;simp only;split;rfl;rw[Nat.zero_mul];cases s.a<;>simp[Addr.add_zero']
 have Z:(s.part 0 m s.c k).ad=s.ad:=by unfold J.ad;rw[ap]
 refine⟨⟨⟨?_,?_⟩,h.le,λg N=>h.fresh g (Z▸N)⟩,Z,rfl⟩;show _=(m-0)*k;rw[List.length_take,h.own.len,Nat.sub_zero,Nat.min_eq_left (Nat.mul_le_mul_right _ hm)];rcases h.own.is with h0|⟨g,cur,aO,ar,cq,eD,e6,ob⟩;left;subst h0;have:m=0:=by simpa using hm
 subst this;simp[J.part];right;refine⟨g,cur,ap.trans aO,ar,?_,?_,?_,?_⟩;show m-0<=s.c-0;omega;show s.c-0<=_;omega;show cur.size=(s.c-0)*k;omega;show cur.toList.take ((m-0)*k)=_;rw[Nat.sub_zero,<-ob,List.take_take,Nat.min_eq_left (Nat.mul_le_mul_right _ hm)]
structure nq(Y:H)(n:Nat)(u:H)(l:List bk):Prop where
 ex:∃s:J,u n=some (.cells #[.slice s.a s.n s.c] 393 (0,0))/\aE Y u 83 3 s (l.flatMap ey)/\s.ad≠some n
 out:Y n=none
 small:l.length<=1000000
def Rh(n:Nat):Value:=.iface 395 (.pointer (some (Addr.mk n 0 none)))
def Ri{s:J}{name:String}{f:FuncId}(hm:kT Tryz.prog 395 name f false=true)(ac:u n=some (.cells #[.slice s.a s.n s.c] 393 (0,0)))(w:World)(hw:Sub u w):
  (method (Tryz.prog.types.size+Made.depth) 395 (.pointer (some (Addr.mk n 0 none))) name).run Tryz.prog w=.ok (f,.slice s.a s.n s.c) w:=by
 obtain⟨i,m,h1,h2,h3,aZ⟩:=vg hm
 obtain⟨c7,cR⟩:=uJ
 rw[cR]
 refine RU h1 h2 h3 aZ SZ ?_
 have E:u.cell? (Addr.mk n 0 none)=some (.slice s.a s.n s.c):=aV ac 0
 have ts:=hw.cell E
 exact Br aoM (Addr.mk n 0 none) (vs:=[.slice s.a s.n s.c]) rfl (run_loadCellsFrom_list _ _ _ _ _ rfl (λj v aH=>by
  cases j with
  |zero=>simp at aH;subst aH;exact ts|succ j=>simp at aH)) (λc E=>⟨_,rfl,ts⟩)
def apK{s:J}{l:List bk}{i:Int}{K:Bool->H->Prop}(hs:iZ u s l)(i0:0<=i)(i1:i<l.length)(eL:0<=j)(gI:j<l.length)
  (h:K (bh (l.getD i.toNat default) (l.getD j.toNat default)) u):TE s i j u K:=by
 have ac:=hs.len
 apply asF
 obtain⟨p,aa,x,I,c0,c1,c2⟩:=hs.at eL (show j<(s.n:Int) by omega)
 obtain⟨q,ay,y,af,d0,d1,d2⟩:=hs.at i0 (show i<(s.n:Int) by omega)
 rw[HU I,HU af] at h
 exact⟨q,ay,⟨i0,by omega⟩,p,aa,⟨eL,by omega⟩,_,d0,_,d1,_,d2,_,c0,_,c1,_,c2,F3 h⟩
theorem apL{s:J}{l:List bk}{i:Int}(U:aE Y u 83 3 s (l.flatMap ey))(i0:0<=i)(i1:i<l.length)(eL:0<=j)(gI:j<l.length)
  (h:∀u',aE Y u' 83 3 s ((hN l i.toNat j.toNat).flatMap ey)->e8 u u' s->K u'):TF s i j u K:=by
 have hs:=U.fN
 have ac:=hs.len
 apply asI
 obtain⟨p,aa,x,I,c0,c1,c2⟩:=hs.at eL (show j<(s.n:Int) by omega)
 obtain⟨q,ay,y,af,d0,d1,d2⟩:=hs.at i0 (show i<(s.n:Int) by omega)
 refine⟨p,aa,⟨eL,by omega⟩,q,ay,⟨i0,by omega⟩,_,c0,_,c1,_,c2,_,d0,_,d1,_,d2,q,ay,⟨i0,by omega⟩,?_⟩
 refine aE.store (enc:=ey) oc U (by decide) (i:=i.toNat) (by omega) (y:=x) (xH x) ay λaI hz tu _=>⟨p,aa,⟨eL,by omega⟩,?_⟩
 refine aE.store (enc:=ey) oc hz (by decide) (i:=j.toNat) (by simp;omega) (y:=y) (xH y) aa λbE dD h4 _=>h bE ?_ (λb o Z ah=>h4 b o (tu b o Z ah) ah)
 have dC:i.toNat<l.length:=by omega
 have jK:j.toNat<l.length:=by omega
 have ex:l[j.toNat]=x:=by grind
 have uI:l[i.toNat]=y:=by grind
 rw[B7 dC jK,ex,uI]
 exact dD
def nq.set{l bi:List bk}{s:J}(h:nq Y n u l)(ac:u n=some (.cells #[.slice s.a s.n s.c] 393 (0,0)))(hs:s.ad≠some n)
  (U:aE Y u' 83 3 s (bi.flatMap ey)) (he:e8 u u' s) (ai:bi.length=l.length):nq Y n u' bi:=
 ⟨⟨s,he _ _ ac hs,U,hs⟩,h.out,by rw[ai];exact h.small⟩
def Zt(Y:H)(n:Nat):qx (Rh n) (nq Y n) bh where
 len:=by intro u l K h ae;obtain⟨s,ac,U,_⟩:=h.ex;refine⟨_,_,_,_,rfl,λw hw=>Ri amp ac w hw,fg amt,acB s u K ?_⟩;rw[U.fN.len];exact ae
 less:=by intro u l i j K h i0 i1 eL gI ae;obtain⟨s,ac,U,_⟩:=h.ex;exact⟨_,_,_,_,rfl,λw hw=>Ri amq ac w hw,fg amu,apK U.fN i0 i1 eL gI ae⟩
 swap:=by intro u l i j K h i0 i1 eL gI ae;obtain⟨s,ac,U,ah⟩:=h.ex;exact⟨_,_,_,_,rfl,λw hw=>Ri nSwap ac w hw,fg amx,apL U i0 i1 eL gI λu' bG he=>ae u' (h.set ac ah bG he (nm _ _ _))⟩
 small:=λh=>by have:=h.small;omega
def Zu:lE bh where
 asymm:=λ_ _ h=>AH h
 trans:=λ_ _ _ h k=>ye h k
def aeg(h:bk)(w:World):(Instr.typeAssert (.iface 83 (.agg #[.int .i64 h.1,.int .u64 (cK h.2),.int .u64 (cO h.2)])) 20 83 false).run Tryz.prog w=
  .ok (.agg #[.int .i64 h.1,.int .u64 (cK h.2),.int .u64 (cO h.2)]) w:=by kernel_rfl
def wv(h:bk):Value:=.iface 83 (.agg #[.int .i64 h.1,.int .u64 (cK h.2),.int .u64 (cO h.2)])
def aaz{h:bk}{K:Int->Int->Int->H->Prop}(ae:K h.1 (cK h.2) (cO h.2) u):cx Tryz.prog (Instr.typeAssert (wv h) 20 83 false) [.agg [.int .i64,.int .u64,.int .u64]] u K:=
 cx.pure [.int .i64 h.1,.int .u64 (cK h.2),.int .u64 (cO h.2)] (λw _=>aeg h w) (.cons (t:=.int .i64) _ (.cons (t:=.int .u64) _ (.cons (t:=.int .u64) _ .nil))) ae
theorem amD{l:List bk}{x:bk}(h:nq Y n u l)(ai:l.length<1000000)(ae:∀u',nq Y n u' (l++ [x])->K u'):
  lB Tryz.prog (Rh n) "Push" #[wv x] [] u K:=by
 obtain⟨s,ac,U,ah⟩:=h.ex
 obtain⟨i,m,h1,h2,h3,aZ⟩:=vg ams
 obtain⟨c7,cR⟩:=uJ
 refine⟨_,_,_,_,rfl,λw _=>by rw[cR];exact BR h1 h2 h3 aZ SZ,fg amw,?_⟩
 refine asH (some (Addr.mk n 0 none)) _ u K ?_
 refine⟨_,rfl,s,aV ac 0,aaz ⟨H.le.refl u,?_⟩⟩
 have aa:=vp (P:=Tryz.prog) (K:=λft qs=>∃FC:Addr,some (Addr.mk n 0 none)=some FC/\H.an qs FC [.slice ft.a ft.n ft.c] K) abR (US x.1 (cK x.2) (cO x.2)) (by decide) rfl (by simp[Value.oneCell']) U (by have:=U.fN.len;omega) (by have:=U.fN.len;omega) λs' u' bG im he hblk _=>⟨_,rfl,?_⟩
 exact aa
 have ef:=he _ _ ac ah
 have jx:s'.ad≠some n:=λe=>by
  grind
 refine⟨_,_,ef,rfl,by simp,by simp[Value.oneCell'],ae _ ⟨⟨s',aS _ _ _,⟨?_,?_,bG.fresh⟩,jx⟩,h.out,by simp;omega⟩⟩
 rw[VS] at bG
 exact bG.own.le λb o Z cy=>by rw[aL _ _ (λe=>jx (by rw[Z,e]))];exact cy
 intro b o Z
 rw[aL _ _ (λe=>by rw[e,h.out] at Z;cases Z)]
 exact bG.le b o Z
theorem amC{l:List bk}{K:Value->H->Prop}(h:nq Y n u l)(ai:0<l.length)(ae:∀u',nq Y n u' l.dropLast->K (wv (l.getD (l.length-1) default)) u'):
  lB Tryz.prog (Rh n) "Pop" #[] [.one .val] u K:=by
 obtain⟨s,ac,U,ah⟩:=h.ex
 obtain⟨i,m,h1,h2,h3,aZ⟩:=vg amr
 obtain⟨c7,cR⟩:=uJ
 refine⟨_,_,_,_,rfl,λw _=>by rw[cR];exact BR h1 h2 h3 aZ SZ,fg amv,?_⟩
 refine asG (some (Addr.mk n 0 none)) u K ?_
 have cY:=U.fN.len
 have E:u.cell? (Addr.mk n 0 none)=some (.slice s.a s.n s.c):=aV ac 0
 have fc:=h.small
 obtain⟨p,aa,x,I,c0,c1,c2⟩:=U.fN.at (x:=(s.n:Int)-1) (by omega) (by omega)
 have gm:l.getD (l.length-1) default=x:=by simp_all
 intro jF hv
 refine⟨_,rfl,_,rfl,s,E,s,E,⟨by omega,by omega⟩,p,aa,⟨by omega,by omega⟩,_,c0,_,c1,_,c2,λm hm=>⟨bN _ hm,?_⟩⟩
 have nF:m≠n:=λe=>by grind
 refine⟨_,_,aS _ _ _,rfl,by simp,by simp[Value.oneCell'],hv _ _ ⟨_,rfl,_,rfl,s,?_,s,?_,⟨by omega,by omega⟩,?_⟩⟩
 simp only[H.cell?,aL _ _ (Ne.symm nF)];simpa[H.cell?] using E
 simp only[H.cell?,aL _ _ (Ne.symm nF)];simpa[H.cell?] using E
 have hI:s.n<=s.c:=(bb.cap U.own.bR)
 obtain⟨M,uQ,pW⟩:=U.front (m:=s.n-1) (by omega)
 refine oM (P:=Tryz.prog) abR (l:=0) (h:=s.n-1) (m:=s.c) (.inl ⟨rfl,rfl⟩) (.inr ?_) (.inl ⟨rfl,rfl⟩) (by omega) (by omega) (Nat.le_refl _) hI ⟨_,rfl,?_⟩
 grind
 refine⟨_,_,by simp only[];rw[aL _ _ (Ne.symm nF),aL _ _ (Ne.symm nF)];exact ac,rfl,by simp,by simp[Value.oneCell'],?_⟩
 have dU:∀(j:Nat) v,([.int .i64 x.1,.int .u64 (cK x.2),.int .u64 (cO x.2)]:List Value)[j]?=some v->H.cell? ((((u.ins m (.cells #[.int .i64 0,.int .u64 0,.int .u64 0] 83 (0,0))).ins m (.cells (wr #[.int .i64 0,.int .u64 0,.int .u64 0] 0 [.int .i64 x.1,.int .u64 (cK x.2),.int .u64 (cO x.2)]) 83 (0,0))).ins n
   (.cells (wr #[.slice s.a s.n s.c] 0 [.slice (s.part 0 (s.n-1) s.c 3).a (s.part 0 (s.n-1) s.c 3).n (s.part 0 (s.n-1) s.c 3).c]) 393 (0,0)))) ((Addr.mk m 0 none).add j)=some v:=by
  intro j v aH
  simp only[H.cell?,Addr.add_lit,Nat.zero_add,aL _ _ nF,aS]
  rcases j with _|_|_|j
  simpa[wr] using aH
  simpa[wr] using aH
  simpa[wr] using aH
  simp at aH
 have d0:=dU 0 _ rfl
 have d1:=dU 1 _ rfl
 have d2:=dU 2 _ rfl
 rw[Addr.add_zero'] at d0
 refine⟨_,d0,_,d1,_,d2,?_⟩
 have e:wv x=wv (l.getD (l.length-1) default):=by rw[gm]
 show K (wv x) _
 rw[e]
 have wN:(l.flatMap ey).take ((s.n-1)*3)=l.dropLast.flatMap ey:=by rw[vZ oc,cY,List.dropLast_eq_take]
 rw[wN] at M
 have fL:(s.part 0 (s.n-1) s.c 3).ad≠some n:=by rw[uQ];exact ah
 refine ae _ ⟨⟨_,aS _ _ _,⟨?_,?_,M.fresh⟩,fL⟩,h.out,by simp;omega⟩
 refine M.own.le λb o Z cy=>?_
 rw[aL _ _ (λe=>fL (by rw[Z,e])),aL _ _ (λe=>by grind),aL _ _ (λe=>by grind)]
 exact cy
 intro b o Z
 have Ii:=M.le b o Z
 rw[aL _ _ (λe=>by rw[e,h.out] at Z;cases Z),aL _ _ (λe=>by grind),aL _ _ (λe=>by grind)]
 exact Ii
theorem apA{α:Type}[Inhabited α]{recv:Value}{an:H->List α->Prop}{lt:α->α->Bool}(cu:qx recv an lt)(L:lE lt){V:α->Value}{l:List α}{K:Value->H->Prop}(hs:an u l)(bW:gb lt l.length l)(ah:0<l.length)
  (PJ:∀{u':H} {bi:List α} {K:Value->H->Prop},an u' bi->0<bi.length->(∀gL,an gL bi.dropLast->K (V (bi.getD (bi.length-1) default)) gL)->lB Tryz.prog recv "Pop" #[] [.one .val] u' K)
  (ae:∀u' bi x,an u' bi->(x::bi).Perm l->gb lt bi.length bi->(∀y∈bi,lt y x=false)->K (V x) u'):xf recv u K:=by
 apply acw
 have fc:=cu.small hs
 refine cu.len hs ⟨⟨by omega,by omega⟩,cu.swap hs (by omega) (by omega) (by omega) (by omega) λaI df=>?_⟩
 obtain⟨n,ac⟩:∃n,l.length=n+1:=⟨l.length-1,by omega⟩
 have aO:(((l.length:Int)-1).toNat)=n:=by omega
 rw[aO] at df
 have h0:(0:Int).toNat=0:=rfl
 rw[h0] at df
 have gi:(hN l 0 n).length=n+1:=by rw[nm,ac]
 refine abc cu L df (by omega) (by omega) (by rw[aO];refine⟨by omega,λi i0 i1 i2=>?_,λi i0 i1 i2 h=>by simp at h⟩;have QE:cj i≠0:=i2;rw[w8 (by omega) (by omega) (by omega),w8 (by omega) (by omega) (by unfold cj;omega)];rw[if_neg (by omega),if_neg (by omega),if_neg (by unfold cj;omega),if_neg QE];exact bW i i0 (by omega)) (λb bE cZ dh fD ty gP=>?_) (.inr (by omega))
 rw[aO] at ty
 have fX:cZ.length=n+1:=by grind
 have I:cZ.getD (cZ.length-1) default=l.getD 0 default:=by have:=gP n (by omega);rw[List.getD_eq_getElem?_getD,fX,Nat.add_sub_cancel,this,<-List.getD_eq_getElem?_getD,w8 (by omega) (by omega) (by omega)];split;rfl;omega
 refine PJ dh (by omega) λdm se=>?_
 rw[I]
 have wx:cZ.dropLast++ [l.getD 0 default]=cZ:=by
  rw[<-I];have tG:cZ≠[]:=λe=>by grind
  have:=List.dropLast_concat_getLast tG;rw[List.getLast_eq_getElem] at this;rw[List.getD_eq_getElem?_getD,List.getElem?_eq_getElem (by omega)];exact this
 have jj:(l.getD 0 default::cZ.dropLast).Perm l:=by refine List.Perm.trans ?_ (fD.trans (zf (by omega) (by omega)));rw[<-wx,List.dropLast_concat];exact(List.perm_append_singleton _ _).symm
 refine ae _ _ _ se jj (λi i0 i1=>?_) λy af=>?_
 have Ou:cZ.dropLast.length=n:=by simp[fX]
 have g:∀k,k<n->cZ.dropLast.getD k default=cZ.getD k default:=λk hk=>by
  grind
 rw[g i (by omega),g _ (by unfold cj;omega)]
 exact ty i i0 (by omega)
 have yG:y∈l:=jj.mem_iff.1 (List.mem_cons_of_mem _ af)
 obtain⟨i,hi,rfl⟩:=List.mem_iff_getElem.1 yG
 have:=bW.root L i hi
 grind
section
variable {α:Type} [Inhabited α] (lt:α->α->Bool)
def nY(l:List α)(j:Nat):List α:=
 if _h:j=0 then l else if lt (l.getD j default) (l.getD (cj j) default) then nY (hN l (cj j) j) (cj j) else l
termination_by j
decreasing_by unfold cj;omega
def lm(n:Nat)(l:List α)(i:Nat):Nat:=if 2*i+2<n/\lt (l.getD (2*i+2) default) (l.getD (2*i+1) default)=true then 2*i+2 else 2*i+1
def jJ(n:Nat)(l:List α)(i:Nat):List α:=
 if _h:2*i+1<n then(if lt (l.getD (lm lt n l i) default) (l.getD i default) then jJ n (hN l i (lm lt n l i)) (lm lt n l i) else l) else l
termination_by n-i
decreasing_by unfold lm;split<;>omega
def tX(l:List α)(y:α):List α:=nY lt (l++ [y]) l.length
def iN(l:List α):List α:=(jJ lt (l.length-1) (hN l 0 (l.length-1)) 0).dropLast
end
section
variable {α:Type} [Inhabited α] {lt:α->α->Bool}
def aca:∀(j:Nat) (l:List α),j<l.length->(nY lt l j).Perm l:=by
 intro j;induction j using Nat.strongRecOn with
 |ind j aG=>
  intro l aH;unfold nY;split;exact .refl _;split;have aa:cj j<j:=by unfold cj;omega
  exact(aG (cj j) aa _ (by rw[nm];omega)).trans (zf (by omega) aH);exact .refl _
def arm(L:lE lt):∀(j:Nat) (l:List α),uy lt l j->gb lt (nY lt l j).length (nY lt l j):=by
 intro j;induction j using Nat.strongRecOn with
 |ind j aG=>intro l hu;unfold nY;split;rename_i h;exact hu.done (.inl h);split;rename_i h ai;exact aG (cj j) (by unfold cj;omega) _ (hu.step L (by omega) ai);rename_i h ai;exact hu.done (.inr (by simpa using ai))
def QR{i:Nat}{l:List α}(h:2*i+1<n):0<lm lt n l i/\lm lt n l i<n/\cj (lm lt n l i)=i/\i<lm lt n l i:=by unfold lm cj;split<;>omega
theorem YV(L:lE lt){i:Nat}{l:List α}(h:2*i+1<n):∀x,0<x->x<n->cj x=i->lt (l.getD x default) (l.getD (lm lt n l i) default)=false:=by
 have EU:∀a,lt a a=false:=λa=>by
  cases e:lt a a with
  |false=>rfl|true=>have:=L.asymm _ _ e;grind
 intro x b0 cJ c8;have two:x=2*i+1∨x=2*i+2:=by unfold cj at c8;omega
 unfold lm;split;rename_i E;rcases two with rfl|rfl;exact L.asymm _ _ E.2;exact EU _
 grind
def afV(n:Nat):∀(m:Nat) (i:Nat) (l:List α),n-i<=m->(jJ lt n l i).length=l.length:=by
 intro m;induction m with
 |zero=>intro i l h;unfold jJ;rw[dif_neg (by omega)]
 |succ m aG=>intro i l h;unfold jJ;split;rename_i E;split;obtain⟨_,_,_,hk⟩:=QR (lt:=lt) (l:=l) E;rw[aG _ _ (by omega),nm];rfl;rfl
def afX(L:lE lt):∀(m:Nat) (i:Nat) (l:List α),n-i<=m->rF lt n l i->n<=l.length->(i<n∨i=0)->
  (jJ lt n l i).Perm l/\gb lt n (jJ lt n l i)/\∀k,n<=k->(jJ lt n l i)[k]?=l[k]?:=by
 intro m
 induction m with
 |zero=>intro i l h aj ac hi;unfold jJ;rw[dif_neg (by omega)];exact⟨.refl _,aj.done (λx b0 cJ c8=>by unfold cj at c8;omega),λ_ _=>rfl⟩
 |succ m aG=>intro i l h aj ac hi;unfold jJ;split;rename_i E;obtain⟨iq,cv,cI,pr⟩:=QR (lt:=lt) (l:=l) E;split;rename_i ai;obtain⟨h1,h2,h3⟩:=aG (lm lt n l i) (hN l i (lm lt n l i)) (by omega) (aj.step L iq cv cI ai (YV L E)) (by rw[nm];exact ac) (.inl cv);refine⟨h1.trans (zf (by omega) (by omega)),h2,λk hk=>?_⟩;rw[h3 k hk,abM (by omega) (by omega)];rename_i ai;refine⟨.refl _,aj.done (λx b0 cJ c8=>?_),λ_ _=>rfl⟩;exact L.trans _ _ _ (by simpa using ai) (YV L E x b0 cJ c8);rename_i E;exact⟨.refl _,aj.done (λx b0 cJ c8=>by unfold cj at c8;omega),λ_ _=>rfl⟩
theorem ans{l:List α}{y:α}(bW:gb lt l.length l):uy lt (l++ [y]) l.length:=by
 refine⟨by simp,λi i0 i1 i2=>?_,λi i0 i1 i2=>?_⟩;simp only[List.length_append,List.length_singleton] at i1;have hi:i<l.length:=by omega
 have g:∀k,k<l.length->(l++ [y]).getD k default=l.getD k default:=λk hk=>by
  grind
 rw[g i hi,g _ (by unfold cj;omega)];exact bW i i0 hi
 grind
def anr(L:lE lt){l:List α}{y:α}(bW:gb lt l.length l):(tX lt l y).Perm (l++ [y])/\gb lt (tX lt l y).length (tX lt l y):=
 ⟨aca _ _ (by simp),arm L _ _ (ans bW)⟩
def ank{l:List α}(bW:gb lt l.length l)(ah:0<l.length):rF lt (l.length-1) (hN l 0 (l.length-1)) 0:=by refine⟨by rw[nm];omega,λi i0 i1 i2=>?_,λi i0 i1 i2 h=>by simp at h⟩;have QE:cj i≠0:=i2;rw[w8 (by omega) (by omega) (by omega),w8 (by omega) (by omega) (by unfold cj;omega)];rw[if_neg (by omega),if_neg (by omega),if_neg (by unfold cj;omega),if_neg QE];exact bW i i0 (by omega)
theorem Fz(L:lE lt){l:List α}(bW:gb lt l.length l)(ah:0<l.length):(l.getD 0 default::iN lt l).Perm l/\gb lt (iN lt l).length (iN lt l)/\(∀y∈iN lt l,lt y (l.getD 0 default)=false)/\
  jJ lt (l.length-1) (hN l 0 (l.length-1)) 0=iN lt l++ [l.getD 0 default]:=by
 have aj:=ank bW ah
 obtain⟨h1,h2,h3⟩:=afX L (l.length-1) 0 _ (by omega) aj (by rw[nm];omega) (.inr rfl)
 have hlen:=afV (lt:=lt) (l.length-1) (l.length-1) 0 (hN l 0 (l.length-1)) (by omega)
 rw[nm] at hlen
 have e:jJ lt (l.length-1) (hN l 0 (l.length-1)) 0=iN lt l++ [l.getD 0 default]:=by
  unfold iN;generalize fb:jJ lt (l.length-1) (hN l 0 (l.length-1)) 0=D at*;have tG:D≠[]:=λe=>by grind
  have wx:=List.dropLast_concat_getLast tG;rw[List.getLast_eq_getElem] at wx;have I:D[D.length-1]'(by omega)=l.getD 0 default:=by
   have aZ:=h3 (l.length-1) (Nat.le_refl _);rw[List.getElem?_eq_getElem (by omega),List.getElem?_eq_getElem (by rw[nm];omega)] at aZ;have bJ:D[l.length-1]'(by omega)=(hN l 0 (l.length-1)).getD (l.length-1) default:=by grind
   rw[w8 (by omega) (by omega) (by omega),if_pos rfl] at bJ;rw[<-bJ];congr 1;omega
  rw[I] at wx;exact wx.symm
 have aa:(l.getD 0 default::iN lt l).Perm l:=by have:=h1.trans (zf (by omega) (by omega));rw[e] at this;exact(List.perm_append_singleton _ _).symm.trans this
 have awx:(iN lt l).length=l.length-1:=by grind
 refine⟨aa,λi i0 i1=>?_,λy af=>?_,e⟩
 have bJ:=h2 i i0 (by omega)
 grind
 have yG:y∈l:=aa.mem_iff.1 (List.mem_cons_of_mem _ af)
 obtain⟨i,hi,rfl⟩:=List.getElem_of_mem yG
 have:=bW.root L i hi
 grind
variable {recv:Value} {an:H->List α->Prop}
theorem apE(cu:qx recv an lt){l:List α}(hs:an u l)(h0:0<=j)(aH:j<l.length)(ae:∀u',an u' (nY lt l j.toNat)->K u'):Cr recv j u K:=by
 have fc:=cu.small hs;apply acz;refine⟨λx v=>0<=x/\∃bi,an v bi/\bi.length=l.length/\x<l.length/\nY lt bi x.toNat=nY lt l j.toNat,λx _=>x.toNat,⟨h0,l,hs,rfl,aH,rfl⟩,?_⟩;rintro x v ⟨b0,bi,eT,hlen,cr,he⟩;refine⟨⟨by omega,by omega⟩,by decide,?_⟩;by_cases I:x=0;subst I;refine⟨⟨by decide,by decide⟩,λ_=>ae _ ?_,λh=>absurd (by decide) h⟩;rw[<-he];unfold nY;rw[dif_pos (by rfl)];exact eT
 .have ht:Int.tdiv (x-1) 2=(x-1)/2:=Int.tdiv_eq_ediv_of_nonneg (by omega);have nH:((x-1)/2).toNat=cj x.toNat:=by unfold cj;omega
  rw[ht];refine⟨⟨by omega,by omega⟩,λh=>by omega,λ_=>cu.less eT b0 (by omega) (by omega) (by omega) ?_⟩;rw[nH];refine⟨λZ=>ae _ ?_,λZ=>cu.swap eT (by omega) (by omega) b0 (by omega) λu' dh=>⟨⟨by omega,_,dh,by rw[nm];exact hlen,by omega,?_⟩,by dsimp only;omega⟩⟩;rw[<-he];unfold nY;rw[dif_neg (by omega),if_neg Z];exact eT
  .rw[nH,<-he]
   conv=>rhs;unfold nY
   grind
theorem apD(cu:qx recv an lt){l:List α}{n:Int}{K:Bool->H->Prop}(hs:an u l)(h0:0<=j)(ac:n<=l.length)(ae:∀b u',an u' (jJ lt n.toNat l j.toNat)->K b u')(aH:j<n∨j<=0)(ajm:j<l.length):Cq recv j n u K:=by
 have fc:=cu.small hs;apply acy;intro jF hv;refine⟨λx v=>0<=x/\(x<n∨x<=0)/\x<l.length/\∃bi,an v bi/\bi.length=l.length/\jJ lt n.toNat bi x.toNat=jJ lt n.toNat l j.toNat,λx _=>(n-x).toNat,⟨h0,aH,ajm,l,hs,rfl,rfl⟩,?_⟩;rintro x v ⟨b0,Je,gm,bi,eT,hlen,he⟩;have done:jJ lt n.toNat bi x.toNat=bi->jF x v:=λh=>hv _ _ (ae _ _ (by rw[<-he,h];exact eT));refine⟨⟨by omega,by omega⟩,⟨by omega,by omega⟩,λG2 xR=>⟨λh=>done ?_,λh=>⟨λh2=>by omega,λ_=>xR _ ?_⟩⟩⟩;unfold jJ;rw[dif_neg (by omega)];clear xR G2;intro CF Dw;have cL:∀c:Int,c.toNat=lm lt n.toNat bi x.toNat->0<c->c<n->x<c->CF c v:=by
  intro c E c0 c1 xZ;refine Dw _ _ (cu.less eT (by omega) (by omega) b0 (by omega) ⟨λZ=>done ?_,λZ=>cu.swap eT b0 (by omega) (by omega) (by omega) λu' dh=>⟨⟨by omega,.inl c1,by omega,_,dh,by rw[nm];exact hlen,?_⟩,by dsimp only;omega⟩⟩);unfold jJ
  grind
  .rw[<-he]
   conv=>rhs;unfold jJ
   grind
 clear Dw;have aO:(2*x+1).toNat=2*x.toNat+1:=by omega
 have ar:(2*x+1+1).toNat=2*x.toNat+2:=by omega
 refine⟨⟨by omega,by omega⟩,λh2=>cu.less eT (by omega) (by omega) (by omega) (by omega) ⟨λZ=>cL _ ?_ (by omega) h2 (by omega),λZ=>cL _ ?_ (by omega) (by omega) (by omega)⟩,λh2=>cL _ ?_ (by omega) (by omega) (by omega)⟩;rw[aO,ar] at Z;unfold lm
 grind
 rw[aO,ar] at Z;unfold lm
 grind
 unfold lm
 grind
theorem apC(cu:qx recv an lt){l:List α}{x:Value}{y:α}
  (PK:∀{K:H->Prop},(∀u',an u' (l++ [y])->K u')->lB Tryz.prog recv "Push" #[x] [] u K)
  (ae:∀u',an u' (tX lt l y)->K u'):uo recv x u K:=by
 apply acx
 refine PK λu' hs=>cu.len hs ?_
 have fc:=cu.small hs
 simp only[List.length_append,List.length_singleton] at fc ⊢
 refine⟨⟨by omega,by omega⟩,apE cu hs (by omega) (by grind) λbE h2=>ae bE ?_⟩
 have e:(((l.length+1:Nat):Int)-1).toNat=l.length:=by omega
 rw[e] at h2
 exact h2
def apB(cu:qx recv an lt)(L:lE lt){V:α->Value}{l:List α}{K:Value->H->Prop}(hs:an u l)(bW:gb lt l.length l)(ah:0<l.length)
  (PJ:∀{u':H} {bi:List α} {x:α} {K:Value->H->Prop},an u' (bi++ [x])->(∀gL,an gL bi->K (V x) gL)->lB Tryz.prog recv "Pop" #[] [.one .val] u' K)
  (ae:∀u',an u' (iN lt l)->K (V (l.getD 0 default)) u'):xf recv u K:=by
 obtain⟨_,_,_,he⟩:=Fz L bW ah
 apply acw
 have fc:=cu.small hs
 refine cu.len hs ⟨⟨by omega,by omega⟩,cu.swap hs (by omega) (by omega) (by omega) (by omega) λaI df=>?_⟩
 have aO:(((l.length:Int)-1).toNat)=l.length-1:=by omega
 rw[aO,show(0:Int).toNat=0 from rfl] at df
 refine apD cu df (by omega) (by rw[nm];omega) (λb bE dh=>?_) (.inr (by omega)) (by rw[nm];omega)
 rw[aO,show(0:Int).toNat=0 from rfl,he] at dh
 exact PJ dh ae
end
end
section
variable{q:List Int}{b k d:Int}
abbrev iC:=Int×List Int
inductive bf where
 |mk (ax:Int) (bz hi:List Int) (ch:Int) (rows:List iC) (kids:List bf)
instance:Inhabited bf:=⟨.mk 1 [] [] 0 [] []⟩
namespace bf
def ax:bf->Int| .mk s _ _ _ _ _=>s
def bz:bf->List Int| .mk _ l _ _ _ _=>l
def hi:bf->List Int| .mk _ _ h _ _ _=>h
def ch:bf->Int| .mk _ _ _ r _ _=>r
def rows:bf->List iC| .mk _ _ _ _ r _=>r
def kids:bf->List bf| .mk _ _ _ _ _ k=>k
mutual
def all:bf->List iC
 | .mk _ _ _ _ rows kids=>rows++hV kids
def hV:List bf->List iC
 | []=>[]|p::bZ=>p.all++hV bZ
end
mutual
def size:bf->Nat
 | .mk _ _ _ _ _ kids=>1+fu kids
def fu:List bf->Nat
 | []=>0|p::bZ=>p.size+fu bZ
end
def fP(p:bf)(ids:List Int):cc:=⟨p.ax,⟨none,0,0⟩,⟨none,0,0⟩,p.ch,⟨none,0,0⟩,p.bz,p.hi,ids⟩
def all_eq(p:bf):p.all=p.rows++hV p.kids:=by cases p;rfl
def size_eq(p:bf):p.size=1+fu p.kids:=by cases p;rfl
end bf
def axr(x:iC):aT:=⟨x.1,⟨none,0,0⟩,x.2⟩
def ww(q:List Int)(x:iC):bk:=(x.1,gS x.2 q x.2.length)
def awm(q:List Int)(r:aT):ww q r.bV=hh q r:=rfl
inductive fp(d:Int):bf->Prop where
 |mk {p:bf} (jC:k5 (p.fP []) d) (ins:∀x∈p.all,mf (p.fP []) x.2) (kids:∀k∈p.kids,fp d k):fp d p
def fp.jC{p:bf}(h:fp d p):k5 (p.fP []) d:=by cases h;assumption
def fp.ins{p:bf}(h:fp d p):∀x∈p.all,mf (p.fP []) x.2:=by cases h;assumption
def fp.kids{p:bf}(h:fp d p):∀k∈p.kids,fp d k:=by cases h;assumption
abbrev ja:=Int×bf
def blt(a b:ja):Bool:=decide (a.1<b.1)
def xx:lE blt where
 asymm a b h:=by simp[blt] at*;omega
 trans a b c h k:=by simp[blt] at*;omega
def mh(q:List Int)(l:List ja)(p:bf):List ja:=tX blt l (l0 (p.fP []) q,p)
structure ke where
 heap:List ja
 seen:List iC
 rest:List (bf×List iC)
def ue(q:List Int)(k:Int)(s:ke):List bk:=dX k.toNat (s.seen.map (ww q))
def Dg(q:List Int)(k:Int)(s:ke)(b:Int):Prop:=k<=(s.seen.length:Int)/\((ue q k s).getD (k.toNat-1) default).2<b
def to(q:List Int)(k b:Int)(s:ke):Prop:=s.heap≠[]/\(s.seen.length:Int)<b/\¬Dg q k s (s.heap.getD 0 default).1
def mF(q:List Int)(b:Int)(s:ke):ke:=
 ⟨(s.heap.getD 0 default).2.kids.foldl (mh q) (iN blt s.heap),s.seen++(s.heap.getD 0 default).2.rows.take (b-s.seen.length).toNat,
  if((s.heap.getD 0 default).2.rows.length:Int)<=b-s.seen.length then s.rest else s.rest++ [((s.heap.getD 0 default).2,(s.heap.getD 0 default).2.rows.drop (b-s.seen.length).toNat)]⟩
open Classical in
def qg(q:List Int)(k b:Int):Nat->ke->ke
 |0,s=>s|f+1,s=>if to q k b s then qg q k b f (mF q b s) else s
def KC(q:List Int)(bZ:List bf):ke:=⟨bZ.foldl (mh q) [],[],[]⟩
def l9(q:List Int)(k b:Int)(bZ:List bf):ke:=qg q k b (bf.fu bZ) (KC q bZ)
def lo(s:ke):List (bf×List iC):=s.rest++(s.heap.map λx=>(x.2,x.2.all)).filter λx=>!x.2.isEmpty
structure o1(q:List Int)(b:Int)(P:List iC)(s:ke):Prop where
 aa:gb blt s.heap.length s.heap
 vi:∀x∈s.heap,x.1=l0 (x.2.fP []) q/\fp q.length x.2
 perm:(s.seen++(s.rest.flatMap (·.2)++s.heap.flatMap λx=>x.2.all)).Perm P
 iH:(s.seen.length:Int)<=b
 cut:s.rest≠[]->(s.seen.length:Int)=b
 left:∀x∈s.rest,fp q.length x.1/\x.2≠[]/\∀y∈x.2,y∈x.1.all
theorem foldl_add:∀(bZ:List bf) (l:List ja),gb blt l.length l->gb blt (bZ.foldl (mh q) l).length (bZ.foldl (mh q) l)/\(bZ.foldl (mh q) l).Perm (l++bZ.map λp=>(l0 (p.fP []) q,p)):=by
 intro bZ;induction bZ with
 |nil=>simp_all|cons p bZ aG=>
  intro l h;obtain⟨h1,h2⟩:=anr xx (y:=((l0 (p.fP []) q,p):ja)) h;obtain⟨h3,aZ⟩:=aG _ h2;refine⟨h3,aZ.trans ?_⟩;rw[List.map_cons];refine(h1.append_right _).trans ?_
  simp_all
def s5(bZ:List bf):bf.hV bZ=bZ.flatMap λp=>p.all:=by
 induction bZ with
 |nil=>rfl|cons p bZ aG=>rw[List.flatMap_cons,<-aG];rfl
def abF{bZ:List bf}(Z:0<=b)(h:∀p∈bZ,fp q.length p):o1 q b (bf.hV bZ) (KC q bZ):=by
 have h0:gb blt ([]:List ja).length []:=λi _ hi=>by simp at hi
 obtain⟨h1,h2⟩:=foldl_add (q:=q) bZ [] h0;rw[List.nil_append] at h2;refine⟨h1,λx I=>?_,?_,by show((0:Nat):Int)<=b;omega,λe=>absurd rfl e,λx I=>by cases I⟩;obtain⟨p,aa,rfl⟩:=List.mem_map.1 (h2.mem_iff.1 I);exact⟨rfl,h p aa⟩;show([]++([]++_)).Perm _;rw[List.nil_append,List.nil_append,s5];refine(h2.flatMap_right _).trans (List.Perm.of_eq ?_);rw[List.flatMap_map]
theorem agY{α:Type}[Inhabited α]{l:List α}(h:l≠[]):l.getD 0 default∈l:=by
 grind
theorem abH{P:List iC}{s:ke}(h:o1 q b P s)(N:to q k b s):o1 q b P (mF q b s):=by
 obtain⟨ah,bh,_⟩:=N;have ai:0<s.heap.length:=List.length_pos_iff.2 ah;obtain⟨fk,da,vk,_⟩:=Fz xx h.aa ai;have j1:s.rest=[]:=by by_cases e:s.rest=[];exact e;have:=h.cut e;omega
 obtain⟨Ja,Jb⟩:=h.vi _ (agY ah);unfold mF;generalize I:s.heap.getD 0 default=x at*;obtain⟨f1,f2⟩:=foldl_add (q:=q) x.2.kids _ da;refine⟨f1,λy af=>?_,?_,?_,λe=>?_,λy af=>?_⟩;rcases List.mem_append.1 (f2.mem_iff.1 af) with h1|h1;exact h.vi y (fk.mem_iff.1 (List.mem_cons_of_mem _ h1));obtain⟨p,aa,rfl⟩:=List.mem_map.1 h1;exact⟨rfl,Jb.kids p aa⟩;have jj:=h.perm;rw[j1,List.flatMap_nil,List.nil_append] at jj;refine List.Perm.trans ?_ jj;show((s.seen++x.2.rows.take (b-s.seen.length).toNat)++(List.flatMap (λy:bf×List iC=>y.2) (if(x.2.rows.length:Int)<=b-s.seen.length then s.rest else s.rest++ [(x.2,x.2.rows.drop (b-s.seen.length).toNat)])++List.flatMap (λx=>x.2.all) (x.2.kids.foldl (mh q) (iN blt s.heap)))).Perm _;rw[List.append_assoc];refine List.Perm.append_left _ ?_;have awd:(List.flatMap (λx=>x.2.all) (x.2.kids.foldl (mh q) (iN blt s.heap))).Perm ((iN blt s.heap).flatMap (λx=>x.2.all)++bf.hV x.2.kids):=by refine(f2.flatMap_right _).trans ?_;rw[List.flatMap_append,List.flatMap_map,s5]
 have hold:(s.heap.flatMap λx=>x.2.all).Perm (x.2.all++(iN blt s.heap).flatMap λx=>x.2.all):=by grind
 refine List.Perm.trans ?_ hold.symm;rw[bf.all_eq];have key:(x.2.rows.take (b-s.seen.length).toNat++List.flatMap (·.2) (if(x.2.rows.length:Int)<=b-s.seen.length then s.rest else s.rest++ [(x.2,x.2.rows.drop (b-s.seen.length).toNat)]))=x.2.rows:=by rw[j1];split;rw[List.flatMap_nil,List.append_nil,List.take_of_length_le (by omega)];simp
 rw[<-List.append_assoc,key]
 grind
 grind
 grind
 change y∈(if(x.2.rows.length:Int)<=b-s.seen.length then s.rest else s.rest++ [(x.2,x.2.rows.drop (b-s.seen.length).toNat)]) at af;rw[j1] at af;split at af;cases af;rename_i E;rw[List.nil_append] at af;have:=List.mem_singleton.1 af;subst this;refine⟨Jb,λe=>?_,λz aP=>?_⟩;have:=congrArg List.length e
 grind
 rw[bf.all_eq]
 grind
def aoP(a b:List bf):bf.fu (a++b)=bf.fu a+bf.fu b:=by
 induction a with
 |nil=>simp[bf.fu]|cons p a aG=>simp only[List.cons_append,bf.fu,aG];omega
def Kc{a b:List bf}(h:a.Perm b):bf.fu a=bf.fu b:=by
 induction h with
 |nil=>rfl|cons x _ aG=>simp only[bf.fu,aG]|swap x y l=>simp only[bf.fu];omega|trans _ _ h1 h2=>exact h1.trans h2
def abJ{P:List iC}{s:ke}(h:o1 q b P s)(N:to q k b s):bf.fu ((mF q b s).heap.map (·.2))+1=bf.fu (s.heap.map (·.2)):=by
 have ai:0<s.heap.length:=List.length_pos_iff.2 N.1;obtain⟨fk,da,vk,_⟩:=Fz xx h.aa ai;obtain⟨f1,f2⟩:=foldl_add (q:=q) (s.heap.getD 0 default).2.kids _ da;have aO:bf.fu ((mF q b s).heap.map (·.2))=bf.fu ((iN blt s.heap).map (·.2))+bf.fu (s.heap.getD 0 default).2.kids:=by show bf.fu (List.map (λx=>x.2) (List.foldl (mh q) (iN blt s.heap) (s.heap.getD 0 default).2.kids))=_;rw[Kc (f2.map _),List.map_append,aoP,List.map_map];congr 2;exact List.map_id' _
 have ar:bf.fu (s.heap.map (·.2))=(s.heap.getD 0 default).2.size+bf.fu ((iN blt s.heap).map (·.2)):=by rw[<-Kc (fk.map _),List.map_cons];rfl
 rw[aO,ar,bf.size_eq];omega
theorem al0{P:List iC}:∀(f:Nat) (s:ke),o1 q b P s->bf.fu (s.heap.map (·.2))<=f->o1 q b P (qg q k b f s)/\¬to q k b (qg q k b f s):=by
 intro f;induction f with
 |zero=>
  intro s h hs;refine⟨h,λN=>?_⟩;have ah:=N.1;cases e:s.heap with
  |nil=>exact ah e|cons x l=>rw[e] at hs;simp only[List.map_cons,bf.fu] at hs;have:=bf.size_eq x.2;omega
 |succ f aG=>
  intro s h hs;unfold qg;split;rename_i N;have:=abJ h N;exact aG _ (abH h N) (by omega)
  grind
def auH{bZ:List bf}(Z:0<=b)(h:∀p∈bZ,fp q.length p):o1 q b (bf.hV bZ) (l9 q k b bZ)/\¬to q k b (l9 q k b bZ):=by
 refine al0 _ _ (abF Z h) ?_;have h0:gb blt ([]:List ja).length []:=λi _ hi=>by simp at hi
 obtain⟨h1,h2⟩:=foldl_add (q:=q) bZ [] h0;rw[List.nil_append] at h2;show bf.fu ((bZ.foldl (mh q) []).map (·.2))<=_;rw[Kc (h2.map _),List.map_map];exact Nat.le_of_eq (congrArg _ (List.map_id' _))
end
section
variable{u Y v:H}{s t:J}{n:Nat}{K:H->Prop}{r:cc}{q:List Int}{p:bf}
def anz:kT Tryz.prog 483 "Len" 370 false=true:=by kernel_rfl
def anA:kT Tryz.prog 483 "Less" 434 false=true:=by kernel_rfl
def anD:kT Tryz.prog 483 "Swap" 435 false=true:=by kernel_rfl
def anC:kT Tryz.prog 483 "Push" 437 true=true:=by kernel_rfl
def anB:kT Tryz.prog 483 "Pop" 436 true=true:=by kernel_rfl
def aoN:nj Tryz.prog 482=some (.one .slice):=by kernel_rfl
def S0:Tryz.prog.underlying 483=some (.pointer 482):=by kernel_rfl
def abS:iG Tryz.prog 482=some (485,3,24,[.pointer none,.int .u64 0,.int .u64 0]):=by kernel_rfl
def ae1(x:Option Addr)(y z:Int):hF Tryz.prog 482 1 #[(0,.agg #[.pointer x,.int .u64 y,.int .u64 z])]=some (485,[.pointer x,.int .u64 y,.int .u64 z]):=by kernel_rfl
def anE:fi Tryz.prog 370=true:=by kernel_rfl
def anF:fi Tryz.prog 434=true:=by kernel_rfl
def anI:fi Tryz.prog 435=true:=by kernel_rfl
def anH:fi Tryz.prog 437=true:=by kernel_rfl
def anG:fi Tryz.prog 436=true:=by kernel_rfl
abbrev iD:=Addr×ja
instance:Inhabited iD:=⟨(⟨0,0,none⟩,default)⟩
def sE(a b:iD):Bool:=blt a.2 b.2
def nw(e:iD):List Value:=[.pointer (some e.1),.int .u64 (cK e.2.1),.int .u64 (cO e.2.1)]
def C8(e:iD):(nw e).length=3:=rfl
def Vw(e:iD):∀v∈nw e,v.oneCell'=true:=by simp[nw,Value.oneCell']
def zK(u:H)(s:J)(l:List iD):Prop:=bb u s 3 (l.flatMap nw)
def zK.len{l:List iD}(h:zK u s l):s.n=l.length:=fx C8 (by decide) h
def aE.jR{e:Nat}{l:List iD}(h:aE Y u e 3 s (l.flatMap nw)):zK u s l:=h.own.bR
def zK.at{l:List iD}(h:zK u s l){x:Int}(h0:0<=x)(h1:x<(s.n:Int)):∃p,s.a=some p/\∃q:iD,l[x.toNat]?=some q/\
  u.cell? (p.add (x.toNat*3))=some (.pointer (some q.1))/\u.cell? ((p.add (x.toNat*3)).add 1)=some (.int .u64 (cK q.2.1))/\u.cell? ((p.add (x.toNat*3)).add 2)=some (.int .u64 (cO q.2.1)):=by
 have ac:=h.len
 have ai:x.toNat<l.length:=by omega
 obtain⟨p,aa,E⟩:=bb.elem C8 (by decide) h (List.getElem?_eq_getElem ai)
 exact⟨p,aa,_,List.getElem?_eq_getElem ai,E 0 _ rfl,E 1 _ rfl,E 2 _ rfl⟩
def agH(l:List iD)(x:iD):l.flatMap nw++ [.pointer (some x.1),.int .u64 (cK x.2.1),.int .u64 (cO x.2.1)]=(l++ [x]).flatMap nw:=by simp[nw]
structure uw(Y:H)(n:Nat)(u:H)(l:List iD):Prop where
 ex:∃s:J,u n=some (.cells #[.slice s.a s.n s.c] 482 (0,0))/\aE Y u 485 3 s (l.flatMap nw)/\s.ad≠some n
 out:Y n=none
 small:l.length<=10000000
def y0(n:Nat):Value:=.iface 483 (.pointer (some (Addr.mk n 0 none)))
def RK{name:String}{f:FuncId}(hm:kT Tryz.prog 483 name f false=true)(ac:u n=some (.cells #[.slice s.a s.n s.c] 482 (0,0)))(w:World)(hw:Sub u w):
  (method (Tryz.prog.types.size+Made.depth) 483 (.pointer (some (Addr.mk n 0 none))) name).run Tryz.prog w=.ok (f,.slice s.a s.n s.c) w:=by
 obtain⟨i,m,h1,h2,h3,aZ⟩:=vg hm
 obtain⟨c7,cR⟩:=uJ
 rw[cR]
 refine RU h1 h2 h3 aZ S0 ?_
 have E:u.cell? (Addr.mk n 0 none)=some (.slice s.a s.n s.c):=aV ac 0
 have ts:=hw.cell E
 exact Br aoN (Addr.mk n 0 none) (vs:=[.slice s.a s.n s.c]) rfl (run_loadCellsFrom_list _ _ _ _ _ rfl (λj v aH=>by
  cases j with
  |zero=>simp at aH;subst aH;exact ts|succ j=>simp at aH)) (λc E=>⟨_,rfl,ts⟩)
theorem apt{l:List iD}{i j:Int}{K:Bool->H->Prop}(hs:zK u s l)(i0:0<=i)(i1:i<l.length)(eL:0<=j)(gI:j<l.length)
  (h:K (sE (l.getD i.toNat default) (l.getD j.toNat default)) u):TA s i j u K:=by
 have ac:=hs.len
 apply asl
 obtain⟨p,aa,x,I,c0,c1,c2⟩:=hs.at eL (show j<(s.n:Int) by omega)
 obtain⟨q,ay,y,af,d0,d1,d2⟩:=hs.at i0 (show i<(s.n:Int) by omega)
 rw[show l.getD i.toNat default=y by grind,show l.getD j.toNat default=x by grind] at h
 refine⟨q,ay,⟨i0,by omega⟩,p,aa,⟨eL,by omega⟩,_,d1,_,by rw[Addr.uB];exact d2,_,c1,_,by rw[Addr.uB];exact c2,w7 (tN _) (tN _) ?_⟩
 rw[oR,oR]
 have key:∀z:Int,(z<0↔y.2.1<x.2.1)->K (decide (z<0)) u:=λz aP=>by
  have:decide (z<0)=sE y x:=by unfold sE blt;simp[aP]
  rw[this];exact h
 refine key _ ?_
 omega
theorem apu{l:List iD}{i j:Int}(U:aE Y u 485 3 s (l.flatMap nw))(i0:0<=i)(i1:i<l.length)(eL:0<=j)(gI:j<l.length)
  (h:∀u',aE Y u' 485 3 s ((hN l i.toNat j.toNat).flatMap nw)->e8 u u' s->K u'):TB s i j u K:=by
 have hs:=U.jR
 have ac:=hs.len
 apply aso
 obtain⟨p,aa,x,I,c0,c1,c2⟩:=hs.at eL (show j<(s.n:Int) by omega)
 obtain⟨q,ay,y,af,d0,d1,d2⟩:=hs.at i0 (show i<(s.n:Int) by omega)
 refine⟨p,aa,⟨eL,by omega⟩,q,ay,⟨i0,by omega⟩,_,c0,_,c1,_,c2,_,d0,_,d1,_,d2,q,ay,⟨i0,by omega⟩,?_⟩
 refine aE.store (enc:=nw) C8 U (by decide) (i:=i.toNat) (by omega) (y:=x) (Vw x) ay λaI hz tu _=>⟨p,aa,⟨eL,by omega⟩,?_⟩
 refine aE.store (enc:=nw) C8 hz (by decide) (i:=j.toNat) (by simp;omega) (y:=y) (Vw y) aa λbE dD h4 _=>h bE ?_ (λb o Z ah=>h4 b o (tu b o Z ah) ah)
 have dC:i.toNat<l.length:=by omega
 have jK:j.toNat<l.length:=by omega
 have ex:l[j.toNat]=x:=by grind
 have uI:l[i.toNat]=y:=by grind
 rw[B7 dC jK,ex,uI]
 exact dD
def uw.set{u':H}{l bi:List iD}(h:uw Y n u l)(ac:u n=some (.cells #[.slice s.a s.n s.c] 482 (0,0)))(hs:s.ad≠some n)
  (U:aE Y u' 485 3 s (bi.flatMap nw)) (he:e8 u u' s) (ai:bi.length=l.length):uw Y n u' bi:=
 ⟨⟨s,he _ _ ac hs,U,hs⟩,h.out,by rw[ai];exact h.small⟩
def ZU(Y:H)(n:Nat):qx (y0 n) (uw Y n) sE where
 len:=by intro u l K h ae;obtain⟨s,ac,U,_⟩:=h.ex;refine⟨_,_,_,_,rfl,λw hw=>RK anz ac w hw,fg anE,acv s u K ?_⟩;rw[U.jR.len];exact ae
 less:=by intro u l i j K h i0 i1 eL gI ae;obtain⟨s,ac,U,_⟩:=h.ex;exact⟨_,_,_,_,rfl,λw hw=>RK anA ac w hw,fg anF,apt U.jR i0 i1 eL gI ae⟩
 swap:=by intro u l i j K h i0 i1 eL gI ae;obtain⟨s,ac,U,ah⟩:=h.ex;exact⟨_,_,_,_,rfl,λw hw=>RK anD ac w hw,fg anI,apu U i0 i1 eL gI λu' bG he=>ae u' (h.set ac ah bG he (nm _ _ _))⟩
 small:=λh=>by have:=h.small;omega
def ZV:lE sE where
 asymm:=λ_ _ h=>xx.asymm _ _ h
 trans:=λ_ _ _ h k=>xx.trans _ _ _ h k
def aeh(h:iD)(w:World):(Instr.typeAssert (.iface 485 (.agg #[.pointer (some h.1),.int .u64 (cK h.2.1),.int .u64 (cO h.2.1)])) 20 485 false).run Tryz.prog w=
  .ok (.agg #[.pointer (some h.1),.int .u64 (cK h.2.1),.int .u64 (cO h.2.1)]) w:=by kernel_rfl
def rh(h:iD):Value:=.iface 485 (.agg #[.pointer (some h.1),.int .u64 (cK h.2.1),.int .u64 (cO h.2.1)])
def aaA{h:iD}{K:Option Addr->Int->Int->H->Prop}(ae:K (some h.1) (cK h.2.1) (cO h.2.1) u):cx Tryz.prog (Instr.typeAssert (rh h) 20 485 false) [.agg [.ptr,.int .u64,.int .u64]] u K:=
 cx.pure [.pointer (some h.1),.int .u64 (cK h.2.1),.int .u64 (cO h.2.1)] (λw _=>aeh h w) (.cons (t:=.ptr) (some h.1) (.cons (t:=.int .u64) _ (.cons (t:=.int .u64) _ .nil))) ae
def anL{l:List iD}{x:iD}(h:uw Y n u l)(ai:l.length<10000000)(ae:∀u',uw Y n u' (l++ [x])->K u'):
  lB Tryz.prog (y0 n) "Push" #[rh x] [] u K:=by
 obtain⟨s,ac,U,ah⟩:=h.ex
 obtain⟨i,m,h1,h2,h3,aZ⟩:=vg anC
 obtain⟨c7,cR⟩:=uJ
 refine⟨_,_,_,_,rfl,λw _=>by rw[cR];exact BR h1 h2 h3 aZ S0,fg anH,?_⟩
 refine asn (some (Addr.mk n 0 none)) _ u K ?_
 refine⟨_,rfl,s,aV ac 0,aaA ⟨H.le.refl u,?_⟩⟩
 have aa:=vp (P:=Tryz.prog) (K:=λft qs=>∃FC:Addr,some (Addr.mk n 0 none)=some FC/\H.an qs FC [.slice ft.a ft.n ft.c] K) abS (ae1 (some x.1) (cK x.2.1) (cO x.2.1)) (by decide) rfl (by simp[Value.oneCell']) U (by have:=U.jR.len;omega) (by have:=U.jR.len;omega) λs' u' bG im he hblk _=>⟨_,rfl,?_⟩
 exact aa
 have ef:=he _ _ ac ah
 have jx:s'.ad≠some n:=λe=>by rcases hblk n e with h|h;exact ah h;rw[ac] at h;cases h
 refine⟨_,_,ef,rfl,by simp,by simp[Value.oneCell'],ae _ ⟨⟨s',aS _ _ _,⟨?_,?_,bG.fresh⟩,jx⟩,h.out,by simp;omega⟩⟩
 rw[agH] at bG
 exact bG.own.le λb o Z cy=>by rw[aL _ _ (λe=>jx (by rw[Z,e]))];exact cy
 intro b o Z
 rw[aL _ _ (λe=>by rw[e,h.out] at Z;cases Z)]
 exact bG.le b o Z
theorem anK{l:List iD}{K:Value->H->Prop}(h:uw Y n u l)(ai:0<l.length)(ae:∀u',uw Y n u' l.dropLast->K (rh (l.getD (l.length-1) default)) u'):
  lB Tryz.prog (y0 n) "Pop" #[] [.one .val] u K:=by
 obtain⟨s,ac,U,ah⟩:=h.ex
 obtain⟨i,m,h1,h2,h3,aZ⟩:=vg anB
 obtain⟨c7,cR⟩:=uJ
 refine⟨_,_,_,_,rfl,λw _=>by rw[cR];exact BR h1 h2 h3 aZ S0,fg anG,?_⟩
 refine asm (some (Addr.mk n 0 none)) u K ?_
 have cY:=U.jR.len
 have E:u.cell? (Addr.mk n 0 none)=some (.slice s.a s.n s.c):=aV ac 0
 have fc:=h.small
 obtain⟨p,aa,x,I,c0,c1,c2⟩:=U.jR.at (x:=(s.n:Int)-1) (by omega) (by omega)
 have gm:l.getD (l.length-1) default=x:=by simp_all
 intro jF hv
 refine⟨_,rfl,_,rfl,s,E,s,E,⟨by omega,by omega⟩,p,aa,⟨by omega,by omega⟩,_,c0,_,c1,_,c2,λm hm=>⟨bN _ hm,?_⟩⟩
 have nF:m≠n:=λe=>by grind
 refine⟨_,_,aS _ _ _,rfl,by simp,by simp[Value.oneCell'],hv _ _ ⟨_,rfl,_,rfl,s,?_,s,?_,⟨by omega,by omega⟩,?_⟩⟩
 simp only[H.cell?,aL _ _ (Ne.symm nF)];simpa[H.cell?] using E
 simp only[H.cell?,aL _ _ (Ne.symm nF)];simpa[H.cell?] using E
 have hI:s.n<=s.c:=(bb.cap U.own.bR)
 obtain⟨M,uQ,pW⟩:=U.front (m:=s.n-1) (by omega)
 refine oM (P:=Tryz.prog) abS (l:=0) (h:=s.n-1) (m:=s.c) (.inl ⟨rfl,rfl⟩) (.inr ?_) (.inl ⟨rfl,rfl⟩) (by omega) (by omega) (Nat.le_refl _) hI ⟨_,rfl,?_⟩
 grind
 refine⟨_,_,by simp only[];rw[aL _ _ (Ne.symm nF),aL _ _ (Ne.symm nF)];exact ac,rfl,by simp,by simp[Value.oneCell'],?_⟩
 have dU:∀(j:Nat) v,([.pointer (some x.1),.int .u64 (cK x.2.1),.int .u64 (cO x.2.1)]:List Value)[j]?=some v->H.cell? ((((u.ins m (.cells #[.pointer none,.int .u64 0,.int .u64 0] 485 (0,0))).ins m (.cells (wr #[.pointer none,.int .u64 0,.int .u64 0] 0 [.pointer (some x.1),.int .u64 (cK x.2.1),.int .u64 (cO x.2.1)]) 485 (0,0))).ins n
   (.cells (wr #[.slice s.a s.n s.c] 0 [.slice (s.part 0 (s.n-1) s.c 3).a (s.part 0 (s.n-1) s.c 3).n (s.part 0 (s.n-1) s.c 3).c]) 482 (0,0)))) ((Addr.mk m 0 none).add j)=some v:=by
  intro j v aH
  simp only[H.cell?,Addr.add_lit,Nat.zero_add,aL _ _ nF,aS]
  rcases j with _|_|_|j
  simpa[wr] using aH
  simpa[wr] using aH
  simpa[wr] using aH
  simp at aH
 have d0:=dU 0 _ rfl
 have d1:=dU 1 _ rfl
 have d2:=dU 2 _ rfl
 rw[Addr.add_zero'] at d0
 refine⟨_,d0,_,d1,_,d2,?_⟩
 have e:rh x=rh (l.getD (l.length-1) default):=by rw[gm]
 show K (rh x) _
 rw[e]
 have wN:(l.flatMap nw).take ((s.n-1)*3)=l.dropLast.flatMap nw:=by rw[vZ C8,cY,List.dropLast_eq_take]
 rw[wN] at M
 have fL:(s.part 0 (s.n-1) s.c 3).ad≠some n:=by rw[uQ];exact ah
 refine ae _ ⟨⟨_,aS _ _ _,⟨?_,?_,M.fresh⟩,fL⟩,h.out,by simp;omega⟩
 refine M.own.le λb o Z cy=>?_
 rw[aL _ _ (λe=>fL (by rw[Z,e])),aL _ _ (λe=>by grind),aL _ _ (λe=>by grind)]
 exact cy
 intro b o Z
 have Ii:=M.le b o Z
 rw[aL _ _ (λe=>by rw[e,h.out] at Z;cases Z),aL _ _ (λe=>by grind),aL _ _ (λe=>by grind)]
 exact Ii
def da(k:Nat):Int:=((2 ^ k:Nat):Int)
def ZK(k:Nat):1<=da k:=Int.natCast_pos.2 (Nat.pow_pos (by decide))
def JP(k:Nat):da (k+1)=2*da k:=by show((2 ^ (k+1):Nat):Int)=2*((2 ^ k:Nat):Int);omega
def am8{k:Nat}(h:k<=63):da k<=9223372036854775808:=by have h1:(2 ^ k:Nat)<=2 ^ 63:=Nat.pow_le_pow_right (by decide) h;have h2:da k<=((2 ^ 63:Nat):Int):=Int.ofNat_le.2 h1;omega
theorem aby{a b:Int}{K:Int->H->Prop}(ap:cS a)(Z:cS b)(h:K (rt (dY a b)) u):GX a b u K:=by
 apply auC;have lX:0<=dY a b:=by unfold dY;obtain⟨_,_⟩:=ap;obtain⟨_,_⟩:=Z;omega
 have Yr:dY a b<340282366920938463463374607431768211456:=by unfold dY;obtain⟨_,_⟩:=ap;obtain⟨_,_⟩:=Z;omega
 refine⟨λr x v=>v=u/\∃(k:Nat) (c:Int),k<=63/\x=da k/\0<=c/\r=c*da (k+1)/\r+da (k+1)<=18446744073709551616/\r*r<=dY a b/\dY a b<(r+da (k+1))*(r+da (k+1)),λ_ x _=>x.toNat,
  ⟨rfl,63,0,by omega,by decide,by omega,by simp,by decide,by simpa using lX,?_⟩,?_⟩
 have e:da (63+1)=18446744073709551616:=by decide
 rw[e];omega;rintro r x v ⟨rfl,k,c,hk,rfl,E,W,awT,h1,h2⟩;have aa:=ZK k;have ji:=JP k;have jk:=am8 hk;have j1:0<=r:=by rw[W];exact Int.mul_nonneg E (by omega)
 have ajS:bits .or .u64 r (da k)=r+da k:=by
  have ar:(2:Int) ^ (k+1)=da (k+1):=by simp[da]
  have Vp:(2:Int) ^ 64=18446744073709551616:=by decide
  refine bits_join .u64 64 (by decide) (λn h0 h1=>wraps_u64 n h0 h1) (k+1) r (da k) j1 ?_ (by rw[Vp];omega) (by omega) (by rw[ar];omega) (by rw[Vp];omega);rw[ar,W];exact Int.mul_emod_left _ _
 rw[ajS];have Yb:cS (r+da k):=⟨by omega,by omega⟩;refine KA Yb Yb λx y I af mx=>⟨H.le.refl _,w7 af Z ?_⟩;rw[mx];have wm:k≠0->Int.fdiv (da k) (2 ^ 1)=da (k-1):=λnE=>by obtain⟨m,rfl⟩:∃m,k=m+1:=⟨k-1,by omega⟩;rw[JP,Int.fdiv_eq_ediv_of_nonneg _ (by decide)];simp
 have Iy:da k=1->k=0:=λe=>by by_cases nE:k=0;exact nE;exfalso;obtain⟨m,rfl⟩:∃m,k=m+1:=⟨k-1,by omega⟩;rw[JP] at e;omega
 have dH:da 0=1:=by decide
 have step:∀(eB:Int),0<=eB->eB*eB<=dY a b->dY a b<(eB+da k)*(eB+da k)->(∃c',0<=c'/\eB=c'*da k)->eB+da k<=18446744073709551616->
   ((da k=1)->K eB v)/\((¬(da k=1))->((0:Int)<=1)/\((v=v/\∃(c7:Nat) (c:Int),c7<=63/\Int.fdiv (da k) (2 ^ 1)=da c7/\0<=c/\eB=c*da (c7+1)/\eB+da (c7+1)<=18446744073709551616/\eB*eB<=dY a b/\dY a b<(eB+da (c7+1))*(eB+da (c7+1)))/\((Int.fdiv (da k) (2 ^ 1)).toNat<(da k).toNat))):=by
  intro eB lu jS iw ⟨c',e2,qX⟩ oH
  refine⟨λe=>?_,λah=>?_⟩
  rw[e] at iw
  rw[rt_eq lu jS iw]
  exact h
  have nE:k≠0:=λe=>ah (by rw[e];exact dH)
  have Iz:k-1+1=k:=by omega
  have qW:=ZK (k-1)
  have yq:=JP (k-1)
  rw[Iz] at yq
  refine⟨by decide,⟨rfl,k-1,c',by omega,wm nE,e2,by rw[Iz];exact qX,by rw[Iz];exact oH,jS,by rw[Iz];exact iw⟩,?_⟩
  rw[wm nE]
  omega
 by_cases hle:(r+da k)*(r+da k)<=dY a b;have s:=step (r+da k) (by omega) hle (by rw[show r+da k+da k=r+da (k+1) by omega];exact h2) ⟨2*c+1,by omega,by rw[W,ji];grind⟩ (by omega);refine⟨λ_=>s,λI=>absurd ?_ I⟩;omega;have s:=step r j1 h1 (by omega) ⟨2*c,by omega,by rw[W,ji];grind⟩ (by omega);refine⟨λI=>absurd I ?_,λ_=>s⟩;omega
def Cf{l:List Int}{d:Int}(av:ej l)(ai:(l.length:Int)=d)(aj:1<=d/\d<=64):fV l d=0:=by rw[<-ai];exact BG av (by omega)
def zE(u:H)(t:J):Prop:=t.n=0∨∃L,Ints u t L/\vL L/\∀x∈L,1<=x/\x<=1000000000
def zE.get(h:zE u t):∃L:List Int,(∀x:Int,0<=x->x<(t.n:Int)->(t.n:Int)<=9223372036854775807/\∃p,t.a=some p/\∃y,L[x.toNat]?=some y/\u.cell? (p.add (x.toNat*1))=some (.int .i64 y))/\vL L/\∀x∈L,1<=x/\x<=1000000000:=by rcases h with h|⟨L,a,b,c⟩;exact⟨[],λx h0 h1=>by omega,.nil,λ_ h=>by cases h⟩;have:=a.max;exact⟨L,λx h0 h1=>⟨by omega,a.get h0 h1⟩,b,c⟩
def abt{d:Int}{K:Int->H->Prop}(h1:Ints u r.ls r.bz)(h2:Ints u r.hs r.hi)(W:k5 r d)(ht:zE u t)(h:K 0 u):GP r.ax r.ls r.hs (cK r.ch) (cO r.ch) t d u K:=by
 refine fW.forget (ss:=[.one (.int .i64)]) ?_;have cb:=h1.len;have di:=h2.len;have aj:=W.ao;have fin:∀{v:H},u.le v->u.le v/\K 0 u:=λav=>⟨av,h⟩;apply at3;refine Sy ?_;rw[decide_eq_true aj];obtain⟨L,cE,mv,hid⟩:=ht.get;refine⟨λI=>absurd rfl I,λ_=>⟨λ_ eJ ky v=>v=u/\0<=ky/\∀y,L[ky.toNat]?=some y->eJ<y,λ_ _ ky _=>((t.n:Int)-ky).toNat,⟨rfl,by omega,λy af=>by have:=hid y (List.mem_of_getElem? af);omega⟩,λfy eJ ky v av=>?_⟩⟩;obtain⟨rfl,Yz,bh⟩:=av;refine⟨λI=>?_,λ_=>?_⟩;obtain⟨hm,p,aa,y,af,c0⟩:=cE ky Yz I;have:=bh y af;have:=hid y (List.mem_of_getElem? af);refine⟨p,aa,⟨Yz,I⟩,y,c0,λh=>by omega,λ_=>⟨λh=>by omega,λ_=>⟨⟨by omega,by omega⟩,⟨rfl,by omega,λz aP=>?_⟩,by dsimp only;omega⟩⟩⟩;obtain⟨g1,aO⟩:=List.getElem?_eq_some_iff.1 af;obtain⟨g2,ar⟩:=List.getElem?_eq_some_iff.1 aP;rw[<-aO,<-ar];exact List.pairwise_iff_getElem.1 mv _ _ g1 g2 (by omega);intro adP Dn avc H2;rcases W.shape with⟨e,aO,ar,cq⟩|⟨e,dH,v1,v2,b9,cZ,hle⟩|⟨e,ar,v1,b9,wK⟩;have fz:r.bz.length=0:=by rw[aO];rfl
 have z2:r.hi.length=0:=by rw[ar];rfl
 refine⟨λ_=>⟨⟨by omega,by omega⟩,λ_=>H2 _ _ ⟨λ_=>fin (H.le.refl _),λM=>absurd ⟨by rw[cq];rfl,by rw[cq];rfl⟩ (of_decide_eq_false M)⟩,λac=>absurd (by rw[cb,di,aO,ar];rfl) ac⟩,λac=>absurd e ac⟩;refine⟨λI=>absurd I (by omega),λ_=>H2 _ _ ⟨λI=>(by cases I),λ_=>?_⟩⟩;intro adU NH;refine⟨λI=>absurd I (by omega),λ_=>NH _ _ ⟨λI=>(by cases I),λ_=>⟨λI=>absurd e I,λ_=>⟨λI=>absurd ⟨by rw[dH];rfl,by rw[dH];rfl⟩ I,λ_=>Dn _ _ ?_⟩⟩⟩⟩;refine nU (UT _ _) λg N=>?_;generalize kq:v.ins g _=u';have D6:v.le u':=by subst kq;exact bN _ N
 have c:∀j w,(#[Value.slice r.ls.a r.ls.n r.ls.c,Value.slice r.hs.a r.hs.n r.hs.c]:Array Value)[j]?=some w->u'.cell? ⟨g,j,none⟩=some w:=by intro j w hw;subst kq;exact(aV (aS _ _ _) j).trans hw
 clear kq N;refine⟨λ_ i w=>w=u'/\0<=i/\i<=2,λ_ i _=>(2-i).toNat,⟨rfl,by omega,by omega⟩,?_⟩;rintro _ i w ⟨rfl,i0,i1⟩;refine⟨λhi=>⟨_,rfl,⟨i0,hi⟩,?_⟩,λhi=>?_⟩;have hi:i<2:=hi;have E:i=0∨i=1:=by omega
 rcases E with rfl|rfl;refine⟨r.ls,c 0 _ rfl,pA (h1.mono D6) ⟨λah=>absurd (Cf v1 b9 aj) ah,λ_=>⟨⟨by omega,by omega⟩,⟨rfl,by omega,by omega⟩,by dsimp only;omega⟩⟩⟩;refine⟨r.hs,c 1 _ rfl,pA (h2.mono D6) ⟨λah=>absurd (Cf v2 cZ aj) ah,λ_=>⟨⟨by omega,by omega⟩,⟨rfl,by omega,by omega⟩,by dsimp only;omega⟩⟩⟩;refine⟨λ_ i aw=>aw=w/\0<=i,λ_ i _=>((r.ls.n:Int)-i).toNat,⟨rfl,by omega⟩,?_⟩;rintro _ i aw ⟨rfl,i0⟩;refine⟨λhi=>?_,λ_=>⟨D6,h⟩⟩;obtain⟨fk,gj,c1⟩:=(h1.mono D6).at i0 hi;obtain⟨da,fD,c2⟩:=(h2.mono D6).at i0 (show i<(r.hs.n:Int) by omega);have:=hle i.toNat (by omega);exact⟨fk,gj,⟨i0,hi⟩,_,c1,da,fD,⟨i0,by omega⟩,_,c2,λI=>by omega,λ_=>⟨⟨by omega,by omega⟩,⟨rfl,by omega⟩,by dsimp only;omega⟩⟩;refine⟨λI=>absurd I (by omega),λ_=>H2 _ _ ⟨λI=>(by cases I),λ_=>?_⟩⟩;intro adU NH;refine⟨λ_=>NH _ _ ⟨λ_=>pA h1 ?_,λM=>?_⟩,λI=>absurd e I⟩;rw[Cf v1 b9 aj];exact fin (H.le.refl _);exact absurd (by rw[di,ar];rfl) (of_decide_eq_false M)
def abu{K:Int->H->Prop}(h1:Ints u r.ls r.bz)(h2:Ints u r.hs r.hi)(W:k5 r q.length)(ht:zE u t)(hs:Ints u s q)(ay:ej q)(h:K 0 u):GQ r.ax r.ls r.hs (cK r.ch) (cO r.ch) t s u K:=by have ac:=hs.len;apply at7;rw[ac];refine abt h1 h2 W ht ⟨λI=>absurd rfl I,λ_=>pA hs ?_⟩;rw[Cf ay rfl W.ao];exact h
theorem Kx{K:Int->Int->Int->H->Prop}(h1:Ints u r.ls r.bz)(h2:Ints u r.hs r.hi)(W:k5 r q.length)(ht:zE u t)(hs:Ints u s q)(ay:ej q)
  (h:K (cK (l0 r q)) (cO (l0 r q)) 0 u):vC r.ax r.ls r.hs (cK r.ch) (cO r.ch) t s u K:=by
 have cb:=h1.len
 have di:=h2.len
 have wU:=hs.len
 have aj:=W.ao
 have z:cS 0:=⟨by omega,by omega⟩
 unfold l0 at h
 apply at0
 refine abu h1 h2 W ht hs ay ⟨λI=>absurd rfl I,λ_=>?_⟩
 intro js hc
 rcases W.shape with⟨e,_⟩|⟨e,_,v1,v2,b9,cZ,hle⟩|⟨e,ar,v1,b9,wK⟩
 rw[if_neg (by omega),if_neg (by omega)] at h
 exact⟨λh=>by omega,λ_=>⟨λh=>by omega,λ_=>hc _ _ _ h⟩⟩
 rw[if_pos e] at h
 refine⟨λ_=>?_,λah=>absurd e ah⟩
 refine⟨λi x y w=>w=u/\0<=i/\i<=s.n/\cS x/\cS y/\dY x y=qF r.bz r.hi q i.toNat,λi _ _ _=>((s.n:Int)-i).toNat,⟨rfl,by omega,by omega,z,z,rfl⟩,?_⟩
 rintro i x y w ⟨rfl,i0,i1,I,af,hw⟩
 refine⟨λhi=>?_,λhi=>?_⟩
 obtain⟨p,aa,c0⟩:=hs.at i0 hi
 obtain⟨fk,gj,c1⟩:=h1.at i0 (show i<(r.ls.n:Int) by omega)
 obtain⟨da,fD,c2⟩:=h2.at i0 (show i<(r.hs.n:Int) by omega)
 have iq:=ay.2 i.toNat (by omega)
 have cv:=v1.2 i.toNat (by omega)
 have cI:=v2.2 i.toNat (by omega)
 have Z:=UO v1 v2 ay (by omega) (by omega) i.toNat (by omega)
 have NJ:=ay.1
 have qV:=hle i.toNat (by omega)
 have nv:qF r.bz r.hi q (i+1).toNat=qF r.bz r.hi q i.toNat+(if q.getD i.toNat 0<r.bz.getD i.toNat 0 then pB (r.bz.getD i.toNat 0) (q.getD i.toNat 0) else 0)+(if r.hi.getD i.toNat 0<q.getD i.toNat 0 then pB (q.getD i.toNat 0) (r.hi.getD i.toNat 0) else 0):=by rw[show(i+1).toNat=i.toNat+1 by omega];rfl
 have pc:qF r.bz r.hi q i.toNat<=64*36893488113059364872:=by omega
 refine⟨p,aa,⟨i0,hi⟩,_,c0,fk,gj,⟨i0,by omega⟩,_,c1,da,fD,⟨i0,by omega⟩,_,c2,?_⟩
 generalize q.getD i.toNat 0=a at*
 generalize r.bz.getD i.toNat 0=b at*
 generalize r.hi.getD i.toNat 0=c at*
 have ain:kh (if c<(if b>a then b else a) then c else(if b>a then b else a)):=by unfold kh at*;split<;>split<;>omega
 refine abw I af iq ain (by omega) λx' qu dV jL jm=>⟨⟨by omega,by omega⟩,⟨rfl,by omega,by omega,dV,jL,?_⟩,by dsimp only;omega⟩
 rw[jm,hw,nv]
 unfold pB
 grind
 have:i.toNat=q.length:=by omega
 rw[this] at hw
 obtain⟨g1,g2⟩:=K1 I af
 rw[hw] at g1 g2
 rw[g1,g2]
 exact hc _ _ _ h
 rw[if_neg (by omega),if_pos e] at h
 refine⟨λh=>by omega,λ_=>⟨λ_=>?_,λah=>absurd e ah⟩⟩
 refine Kz h1 hs v1 ay (by omega) λx y I af hw=>⟨H.le.refl _,?_⟩
 have WN:=F5 v1 ay (show r.bz.length=q.length by omega)
 refine aby I af ⟨H.le.refl _,aby (Xd wK) (tN _) ?_⟩
 rw[oR,hw]
 have s0:=w1 WN.1
 have s1:=RT WN
 have t0:=w1 wK.1
 have t1:=RT wK
 unfold zR at h
 generalize q0:rt (gS r.bz q r.bz.length)=S at*
 generalize awZ:rt r.ch=hB at*
 intro zG H0
 have fin:∀z:Int,0<=z->z<18446744073709551616->K (cK (z*z)) (cO (z*z)) 0 u->xk z z u λ(auX:Int) (auY:Int) (ab2:H)=>js auX auY ab2:=λz z0 fz aP=>KA ⟨z0,fz⟩ ⟨z0,fz⟩ λx y I af mx=>by obtain⟨g1,g2⟩:=K1 I af;rw[mx] at g1 g2;rw[g1,g2];exact hc _ _ _ aP
 have go:∀T:Int,0<=T->(K (cK (if T<S then(S-T)*(S-T) else 0)) (cO (if T<S then(S-T)*(S-T) else 0)) 0 u)->zG T u:=λT aJ H8=>by refine H0 _ _ ⟨λbh=>?_,λhg=>?_⟩;rw[if_pos bh] at H8;have aO:IntKind.wrap .u64 (S-T)=S-T:=IntWalk.u64_in _ (by omega);rw[aO];exact fin _ (by omega) (by omega) H8;rw[if_neg hg] at H8;exact hc _ _ _ H8
 refine⟨λbh=>?_,λhg=>⟨H.le.refl _,?_⟩⟩
 refine KA ⟨t0.1,by omega⟩ ⟨t0.1,by omega⟩ λx' qu dV jL mx=>⟨H.le.refl _,?_⟩
 obtain⟨g1,g2⟩:=K1 dV jL
 rw[mx] at g1 g2
 refine⟨λah=>?_,λhe=>?_⟩
 have jx:¬hB*hB=r.ch:=λVr=>ah (by grind)
 rw[if_neg jx] at h
 have aO:IntKind.wrap .u64 (hB+1)=hB+1:=IntWalk.u64_in _ (by omega)
 rw[aO]
 exact go _ (by omega) h
 have eY:hB*hB=r.ch:=ajh (by rw[<-g1];exact he.1) (by rw[<-g2];exact he.2)
 rw[if_pos eY] at h
 exact go _ t0.1 h
 refine go _ t0.1 ?_
 rw[if_neg hg]
 rw[if_neg (by split<;>omega)] at h
 exact h
def H.le.cell(h:v.le u){a:Addr}{x:Value}(E:v.cell? a=some x):u.cell? a=some x:=by unfold H.cell? at E ⊢;split at E;rename_i c t f I;rw[h _ _ I];exact E;cases E
section
variable {α β:Type} [Inhabited α] [Inhabited β] {lt:α->α->Bool} {q8:β->β->Bool} {f:α->β}
theorem getD_map'(aj:f default=default)(l:List α)(i:Nat):(l.map f).getD i default=f (l.getD i default):=by
 grind
omit [Inhabited α] [Inhabited β] in
theorem SH(l:List α)(i j:Nat):(hN l i j).map f=hN (l.map f) i j:=by unfold hN;rw[List.getElem?_map,List.getElem?_map];cases l[i]?<;>cases l[j]?<;>simp[List.map_set]
def arn(aj:f default=default)(ai:∀a b,q8 (f a) (f b)=lt a b):∀(j:Nat) (l:List α),(nY lt l j).map f=nY q8 (l.map f) j:=by
 intro j;induction j using Nat.strongRecOn with
 |ind j aG=>intro l;unfold nY;by_cases h:j=0;rw[dif_pos h,dif_pos h];rw[dif_neg h,dif_neg h,getD_map' aj,getD_map' aj,ai];split;rw[aG (cj j) (by unfold cj;omega),SH];rfl
theorem alB(aj:f default=default)(ai:∀a b,q8 (f a) (f b)=lt a b)(n:Nat)(l:List α)(i:Nat):lm q8 n (l.map f) i=lm lt n l i:=by
 unfold lm
 grind
theorem afW(aj:f default=default)(ai:∀a b,q8 (f a) (f b)=lt a b)(n:Nat):∀(m:Nat) (i:Nat) (l:List α),n-i<=m->(jJ lt n l i).map f=jJ q8 n (l.map f) i:=by
 intro m;induction m with
 |zero=>
  intro i l h;unfold jJ
  grind
 |succ m aG=>
  intro i l h;unfold jJ;by_cases E:2*i+1<n;rw[dif_pos E,dif_pos E,alB aj ai,getD_map' aj,getD_map' aj,ai];split;obtain⟨_,_,_,hk⟩:=QR (lt:=lt) (l:=l) E;rw[aG _ _ (by omega),SH];rfl
  grind
def anq(aj:f default=default)(ai:∀a b,q8 (f a) (f b)=lt a b)(l:List α)(y:α):(tX lt l y).map f=tX q8 (l.map f) (f y):=by unfold tX;rw[arn aj ai,List.map_append,List.length_map];rfl
def anj(aj:f default=default)(ai:∀a b,q8 (f a) (f b)=lt a b)(l:List α):(iN lt l).map f=iN q8 (l.map f):=by unfold iN;rw[List.map_dropLast,afW aj ai _ _ _ _ (Nat.le_refl _),SH,List.length_map]
end
inductive k4(u:H):Nat->bf->Prop where
 |mk {n:Nat} {p:bf} (ls hs is rs ks:J) (rows:List aT) (bZ:List Nat)
   (cell:u n=some (.cells #[.int .i64 p.ax,.slice ls.a ls.n ls.c,.slice hs.a hs.n hs.c,.int .u64 (cK p.ch),.int .u64 (cO p.ch),.slice is.a is.n is.c,.slice rs.a rs.n rs.c,.slice ks.a ks.n ks.c] 336 (0,0)))
   (va:is.n=0) (bz:Ints u ls p.bz) (hi:Ints u hs p.hi) (at':ev u rs rows) (bV:rows.map aT.bV=p.rows)
   (kids:bb u ks 1 (bZ.map λn=>.pointer (some ⟨n,0,none⟩))) (len:bZ.length=p.kids.length) (each:∀(i:Nat) m k,bZ[i]?=some m->p.kids[i]?=some k->k4 u m k):k4 u n p
def k4.mono{u':H}(h:k4 u n p)(hu:u.le u'):k4 u' n p:=by
 induction h with
 |mk ls hs is rs ks rows bZ cell va bz hi at' bV kids len each aG=>exact .mk ls hs is rs ks rows bZ (hu _ _ cell) va (bz.mono hu) (hi.mono hu) (at'.mono hu) bV (kids.mono hu) len aG
structure oX(v u:H)(n:Nat)(l:List ja):Prop where
 ex:∃L:List iD,uw v n u L/\L.map (·.2)=l/\∀e∈L,∃m,e.1=⟨m,0,none⟩/\k4 v m e.2.2
theorem apS{m:Nat}{l:List ja}{b:Int}(h:oX v u n l)(ai:l.length<10000000)(aa:k4 v m p)(ae:∀u',oX v u' n (tX blt l (b,p))->K u'):
  uo (y0 n) (rh ((⟨m,0,none⟩:Addr),(b,p))) u K:=by
 obtain⟨L,ed,cE,ep⟩:=h.ex
 have hlen:L.length=l.length:=by grind
 refine apC (ZU v n) (y:=((⟨m,0,none⟩:Addr),((b,p):ja))) (λhk=>anL ed (by omega) hk) λu' hs=>ae u' ⟨tX sE L ((⟨m,0,none⟩:Addr),((b,p):ja)),hs,?_,λe he=>?_⟩
 have e:=anq (α:=iD) (β:=ja) (lt:=sE) (q8:=blt) (f:=λe:iD=>e.2) rfl (λ_ _=>rfl) L ((⟨m,0,none⟩:Addr),((b,p):ja))
 rw[cE] at e
 exact e
 have jj:=aca (lt:=sE) L.length (L++ [((⟨m,0,none⟩:Addr),((b,p):ja))]) (by simp)
 rcases List.mem_append.1 (jj.mem_iff.1 he) with h1|h1
 exact ep e h1
 grind
def apq{m n0:Nat}{l:List ja}(h:oX v u n l)(av:v.le u)(ai:l.length<10000000)(aa:k4 v m p)(bL:k5 (p.fP []) q.length)(ay:ej q)
  (et:u.cell? ⟨n0,0,none⟩=some (.slice s.a s.n s.c)) (hs:Ints u s q) (ae:∀u',oX v u' n (mh q l p)->K u'):Lw (some ⟨m,0,none⟩) ⟨n0,0,none⟩ ⟨n,0,none⟩ u K:=by
 cases aa with
 |mk ls eT is rs ks rows bZ cell va bz hi at' bV kids len each=>
 have E:=av _ _ cell
 have AW:k5 (⟨p.ax,ls,eT,p.ch,is,p.bz,p.hi,[]⟩:cc) q.length:=⟨bL.ao,bL.ids,bL.id,bL.shape⟩
 apply asf
 have push:uo (y0 n) (rh ((⟨m,0,none⟩:Addr),(l0 (p.fP []) q,p))) u K:=apS h ai (.mk ls eT is rs ks rows bZ cell va bz hi at' bV kids len each) λu' kq=>ae u' kq
 have Pt:l0 (⟨p.ax,ls,eT,p.ch,is,p.bz,p.hi,[]⟩:cc) q=l0 (p.fP []) q:=rfl
 refine⟨_,rfl,_,aV E 0,ls,aV E 1,eT,aV E 2,_,aV E 3,_,aV E 4,is,aV E 5,s,et,?_,H.le.refl u,?_⟩
 exact Kx (r:=⟨p.ax,ls,eT,p.ch,is,p.bz,p.hi,[]⟩) (bz.mono av) (hi.mono av) AW (.inl va) hs ay ⟨H.le.refl u,push⟩
 exact Kx (r:=⟨p.ax,ls,eT,p.ch,is,p.bz,p.hi,[]⟩) (bz.mono av) (hi.mono av) AW (.inl va) hs ay push
end
section
variable{u u':H}
structure en where
 b:Nat
 ax:Int
 bD:J
 e7:J
 bz:List Int
 hi:List Int
 ch:Int
 a7:J
 rows:List aT
 dw:J
def en.cT(h:en):List Nat:=h.b::(h.bD.ad.toList++h.e7.ad.toList++h.a7.ad.toList++h.dw.ad.toList)
inductive aq where
 |mk (h:en) (kids:List aq)
namespace aq
def h:aq->en| .mk h _=>h
def kids:aq->List aq| .mk _ k=>k
def b(n:aq):Nat:=n.h.b
mutual
def br:aq->bf
 | .mk h kids=>.mk h.ax h.bz h.hi h.ch (h.rows.map aT.bV) (JR kids)
def JR:List aq->List bf
 | []=>[]|n::fY=>n.br::JR fY
end
mutual
def bC:aq->List (en×List Nat)
 | .mk h kids=>(h,kids.map aq.b)::om kids
def om:List aq->List (en×List Nat)
 | []=>[]|n::fY=>n.bC++om fY
end
def ZQ:∀fY:List aq,JR fY=fY.map br
 | []=>rfl|n::fY=>by rw[JR,ZQ fY,List.map_cons]
def Io:∀fY:List aq,om fY=fY.flatMap bC
 | []=>rfl|n::fY=>by rw[om,Io fY,List.flatMap_cons]
def gg(n:aq):n.bC=(n.h,n.kids.map b)::n.kids.flatMap bC:=by cases n;rw[bC,Io];rfl
def gR(n:aq):n.br=.mk n.h.ax n.h.bz n.h.hi n.h.ch (n.h.rows.map aT.bV) (n.kids.map br):=by cases n;rw[br,ZQ];rfl
def WV(n:aq):0<n.bC.length:=by rw[gg];simp
def ind{P:aq->Prop}(h:∀n,(∀k∈n.kids,P k)->P n):∀n,P n:=by intro n;exact aq.rec (motive_1:=P) (motive_2:=λfY=>∀k∈fY,P k) (λ_ _ aG=>h _ aG) (λk hk=>(by cases hk)) (λn fY h1 h2 k hk=>by rcases List.mem_cons.1 hk with rfl|hk;exact h1;exact h2 k hk) n
def tW(n:aq):n.br.all=n.bC.flatMap λx=>x.1.rows.map aT.bV:=by
 induction n using ind with
 |h n aG=>rw[gR,gg,List.flatMap_cons,bf.all];congr 1;rw[s5,List.flatMap_map,List.flatMap_assoc];rw[List.flatMap_def,List.flatMap_def];exact congrArg List.flatten (List.map_congr_left λk hk=>aG k hk)
def BJ(n:aq):n.br.size=n.bC.length:=by
 induction n using ind with
 |h n aG=>
  rw[gR,gg,List.length_cons,bf.size,Nat.add_comm];congr 1;obtain⟨ks,ou⟩:∃ks,ks=n.kids:=⟨_,rfl⟩;rw[<-ou] at aG ⊢;clear ou;induction ks with
  |nil=>rfl|cons k ks A8=>rw[List.map_cons,bf.fu,List.flatMap_cons,List.length_append,aG k (List.mem_cons_self ..),A8 λj aH=>aG j (List.mem_cons_of_mem _ aH)]
def own(n:aq):List Nat:=n.bC.flatMap λx=>x.1.cT
def pu(n:aq):n.own=n.h.cT++n.kids.flatMap own:=by unfold own;rw[gg,List.flatMap_cons,List.flatMap_assoc]
end aq
def fl(h:en):List Value:=[.int .i64 h.ax,.slice h.bD.a h.bD.n h.bD.c,.slice h.e7.a h.e7.n h.e7.c,.int .u64 (cK h.ch),.int .u64 (cO h.ch),.slice none 0 0,.slice h.a7.a h.a7.n h.a7.c,.slice h.dw.a h.dw.n h.dw.c]
structure gY(u:H)(x:en×List Nat):Prop where
 cell:u x.1.b=some (.cells (fl x.1).toArray 336 (0,0))
 bz:Own u 3 1 x.1.bD (x.1.bz.flatMap encI)
 hi:Own u 3 1 x.1.e7 (x.1.hi.flatMap encI)
 rws:Own u 34 2 x.1.a7 (x.1.rows.flatMap cG)
 vec:∀r∈x.1.rows,Ints u r.s r.v
 nf:bb u x.1.dw 1 (x.2.map λn=>.pointer (some ⟨n,0,none⟩))
def gY.bd{x:en×List Nat}(h:gY u x)(hu:∀c o,c∈x.1.cT->u c=some o->u' c=some o)(av:∀r∈x.1.rows,Ints u' r.s r.v):gY u' x where
 cell:=hu _ _ (List.mem_cons_self ..) h.cell
 bz:=h.bz.le λc o E U=>hu c o (by simp[en.cT,E]) U
 hi:=h.hi.le λc o E U=>hu c o (by simp[en.cT,E]) U
 rws:=h.rws.le λc o E U=>hu c o (by simp[en.cT,E]) U
 vec:=av
 nf:=bb.else h.nf λc o E U=>hu c o (by simp[en.cT,E]) U
structure uv(u:H)(n:aq):Prop where
 one:∀x∈n.bC,gY u x
 nodup:n.own.Nodup
def uv.bd{n:aq}(h:uv u n)(hu:∀c o,c∈n.own->u c=some o->u' c=some o)(av:∀x∈n.bC,∀r∈x.1.rows,Ints u' r.s r.v):uv u' n:=
 ⟨λx I=>(h.one x I).bd (λc o E U=>hu c o (List.mem_flatMap.2 ⟨x,I,E⟩) U) (av x I),h.nodup⟩
def uv.mono{n:aq}(h:uv u n)(hu:u.le u'):uv u' n:=h.bd (λc o _ U=>hu c o U) λx I r W=>((h.one x I).vec r W).mono hu
theorem uv.part{n:aq}(h:∀x∈n.bC,gY u x):k4 u n.b n.br:=by
 induction n using aq.ind with
 |h n aG=>
  have h0:=h (n.h,n.kids.map aq.b) (by rw[aq.gg];grind);rw[aq.gR];refine .mk n.h.bD n.h.e7 ⟨none,0,0⟩ n.h.a7 n.h.dw n.h.rows (n.kids.map aq.b) h0.cell rfl h0.bz.f.ints h0.hi.f.ints ⟨h0.rws.bR,h0.vec⟩ rfl h0.nf (by simp[bf.kids]) λi m k hm hk=>?_;have cR:(n.kids.map aq.br)[i]?=some k:=hk;rw[List.getElem?_map] at hm cR;cases e:n.kids[i]? with
  |none=>rw[e] at hm;cases hm
  |some z=>rw[e] at hm cR;obtain rfl:=Option.some.inj hm;obtain rfl:=Option.some.inj cR;have aP:=List.mem_of_getElem? e;exact aG z aP λx I=>h x (by rw[aq.gg];grind)
structure jr where
 h:en
 pre:List aq
 post:List aq
def jr.fill(f:jr)(n:aq):aq:=.mk f.h (f.pre++n::f.post)
def oG:List jr->aq->aq
 | [],n=>n|f::aB,n=>oG aB (f.fill n)
def jr.bC(f:jr)(b:Nat):List (en×List Nat):=(f.h,f.pre.map aq.b++b::f.post.map aq.b)::(f.pre++f.post).flatMap aq.bC
def hG:List jr->Nat->List (en×List Nat)
 | [],_=>[]|f::aB,b=>f.bC b++hG aB f.h.b
def VK(f:jr)(n:aq):(f.fill n).bC.Perm (n.bC++f.bC n.b):=by unfold jr.fill jr.bC;rw[aq.gg];show((f.h,(f.pre++n::f.post).map aq.b)::(f.pre++n::f.post).flatMap aq.bC).Perm _;rw[List.map_append,List.map_cons,List.flatMap_append,List.flatMap_append,List.flatMap_cons];refine List.Perm.trans (List.Perm.cons _ ?_) List.perm_middle.symm;refine List.perm_append_comm_assoc _ _ _|>.trans ?_;exact .refl _
def yZ:∀(aB:List jr) (n:aq),(oG aB n).bC.Perm (n.bC++hG aB n.b)
 | [],n=>by rw[hG,List.append_nil];exact .refl _|f::aB,n=>by show(oG aB (f.fill n)).bC.Perm _;refine(yZ aB (f.fill n)).trans ?_;rw[hG,<-List.append_assoc];exact(VK f n).append_right _
def RD:∀(aB:List jr) {n n':aq},n.b=n'.b->(oG aB n).b=(oG aB n').b
 | [],_,_,h=>h|f::aB,n,n',_=>RD aB (n:=f.fill n) (n':=f.fill n') rfl
end
section
variable{u:H}{l:List aT}
def aba{ax hw lw:Int}{ls hs is rs:J}{bz hi:List Int}{rows:List aT}{K:Int->J->J->Int->Int->J->H->Prop}(h1:Ints u ls bz)(h2:Ints u hs hi)(W:ev u rs rows)(eQ:bz.length<=64)(eI:hi.length<=64)(mi:rows.length<=1000000)
  (ae:∀a b c u',aE u u' 3 1 a (bz.flatMap encI)->aE u u' 3 1 b (hi.flatMap encI)->aE u u' 3 1 c ((dM (rows.map (·.id))).flatMap encI)->eP a b->eP a c->eP b c->K ax a b hw lw c u'):GA ax ls hs hw lw is rs u K:=by
 have cb:=h1.len
 have di:=h2.len
 have nP:=W.len
 apply asp
 refine rq h1 (by omega) λs0 aI dk _=>⟨dk.le,rq (h2.mono dk.le) (by omega) λs2 dm fq _=>?_⟩
 have Et:=W.mono (dk.le.trans fq.le)
 refine⟨λi ka ft j8 Te acT FG w=>0<=i/\i<=rs.n/\ka=ax/\ft=s0/\j8=s2/\Te=hw/\acT=lw/\aE dm w 3 1 FG (((rows.take i.toNat).map (·.id)).flatMap encI),λi _ _ _ _ _ _ _=>((rs.n:Int)-i).toNat,
  ⟨by omega,by omega,rfl,rfl,rfl,rfl,rfl,by simpa using aE.nil (H.le.refl dm) 3 1⟩,?_⟩
 rintro i ka ft j8 Te acT FG w ⟨i0,i1,aO,ar,cq,eD,e6,U⟩
 have ajB:=U.ints.len
 rw[List.length_map,List.length_take] at ajB
 refine⟨λhi=>?_,λhi=>?_⟩
 obtain⟨p,aa,r,Ev,c0,c1,_⟩:=(Et.mono U.le).at i0 hi
 refine⟨p,aa,⟨i0,hi⟩,_,c0,_,c1,rn pE (xy _) (by decide) rfl (by simp[Value.oneCell']) U (by omega) (by omega) λs' u' dD ef cQ ee _=>⟨⟨by omega,by omega⟩,⟨by omega,by omega,aO,ar,cq,eD,e6,?_⟩,by dsimp only;omega⟩⟩
 have e:rows.take (i+1).toNat=rows.take i.toNat++ [r]:=by rw[show(i+1).toNat=i.toNat+1 by omega,List.take_add_one,Ev];rfl
 rw[e,List.map_append,List.flatMap_append]
 exact dD
 have ep:rows.take i.toNat=rows:=List.take_of_length_le (by omega)
 rw[ep] at U
 subst aO ar cq eD e6
 refine Ku U (by simp;omega) λdN p4 av9=>?_
 have M:∀g,FG.ad=some g->dm g=none:=U.fresh
 have f13:eP ft FG:=aE.eR (dk.mono fq.le) (H.le.refl dm) U
 have f23:eP j8 FG:=aE.eR fq (H.le.refl dm) U
 have f12:eP ft j8:=aE.eR dk (H.le.refl aI) fq
 have yN:dm.le dN:=p4.le
 exact ae _ _ _ dN ((dk.mono fq.le).mono yN) ((fq.weaken dk.le).mono yN) (p4.weaken (dk.le.trans fq.le)) f12 f13 f23
def ae3:hF Tryz.prog 22 0 #[]=some (34,[]):=by kernel_rfl
def VP:∀y∈l.flatMap cG,y.oneCell'=true:=by intro y af;obtain⟨h,_,af⟩:=List.mem_flatMap.1 af;exact Nh h y af
def F1{s:J}{K:J->H->Prop}(hs:bb u s 2 (l.flatMap cG))(Z:s.n<=1099511627776)(ae:∀s' u',aE u u' 34 2 s' (l.flatMap cG)->s'.n=s.n->K s' u'):kA s u K:=by
 apply ata;refine⟨λac=>?_,λ_=>R9 nV ae3 (by decide) hs VP (by omega) ae⟩;have ai:=R5 hs ac;have fX:s.n=0:=by have:=bb.len hs;rw[ai] at this;simp at this;omega
 refine ae _ _ ?_ fX.symm;rw[ai];exact aE.nil (H.le.refl u) _ _
def aed{bZ:List bf}{i:Nat}{k:bf}(h:bZ[i]?=some k):bf.hV (bZ.take (i+1))=bf.hV (bZ.take i)++k.all:=by rw[List.take_add_one,h,s5,s5];simp
def aec(bZ:List bf)(i:Nat):(bf.hV (bZ.take i)).length<=(bf.hV bZ).length:=by
 conv=>rhs;rw[<-List.take_append_drop i bZ]
 rw[s5,s5,List.flatMap_append,List.length_append];omega
theorem apo{v:H}{n:Nat}{p:bf}(aa:k4 v n p):∀{u:H} {K:J->H->Prop},v.le u->p.all.length<=1000000->
  (∀(s:J) (L:List aT) (u':H),aE u u' 34 2 s (L.flatMap cG)->L.map aT.bV=p.all->(∀r∈L,Ints v r.s r.v)->K s u')->Gz (some ⟨n,0,none⟩) u K:=by
 induction aa with
 |@mk n p ls hs is rs ks rows bZ cell va bz hi at' bV kids len each aG=>
 intro u K av Z ae
 have E:=av _ _ cell
 have qY:p.rows.length=rows.length:=by grind
 rw[bf.all_eq] at Z ae
 rw[List.length_append] at Z
 have AX:=at'.len
 apply asc
 refine⟨_,rfl,rs,aV E 6,F1 (bb.mono at'.1 av) (by omega) λs2 dm fq _=>⟨_,rfl,ks,aV (fq.le _ _ E) 7,?_⟩⟩
 have ot:=Nat.le_trans (bb.cap kids) (bb.max kids)
 have il:ks.n=bZ.length:=by have:=kids.len;simpa using this.symm
 refine⟨λft x w=>0<=x/\x<=ks.n/\∃L:List aT,aE u w 34 2 ft (L.flatMap cG)/\L.map aT.bV=p.rows++bf.hV (p.kids.take x.toNat)/\∀r∈L,Ints v r.s r.v,λ_ x _=>((ks.n:Int)-x).toNat,
  ⟨by omega,by omega,rows,fq,by simpa[bf.hV] using bV,λr W=>at'.2 r W⟩,?_⟩
 rintro ft x w ⟨b0,cJ,L,U,cE,bQ⟩
 refine⟨λI=>?_,λI=>?_⟩
 have gm:x.toNat<bZ.length:=by omega
 obtain⟨k,hk⟩:∃k,p.kids[x.toNat]?=some k:=⟨_,List.getElem?_eq_getElem (by omega)⟩
 have hm:bZ[x.toNat]?=some bZ[x.toNat]:=List.getElem?_eq_getElem gm
 obtain⟨a,ap,gO⟩:=bb.elem (enc:=λn:Nat=>[Value.pointer (some ⟨n,0,none⟩)]) (k:=1) (λ_=>rfl) (by decide) (xs:=bZ) (by
  have e:bZ.flatMap (λn:Nat=>[Value.pointer (some ⟨n,0,none⟩)])=bZ.map λn=>Value.pointer (some ⟨n,0,none⟩):=by
   generalize bZ=z;induction z with
   |nil=>rfl|cons y z aG=>grind
  rw[e];exact kids.mono (av.trans U.le)) hm
 have ep:=aed hk
 have hle:=aec p.kids (x.toNat+1)
 rw[ep,List.length_append] at hle
 have wa:=congrArg List.length cE
 rw[List.length_map,List.length_append] at wa
 have AM:ft.n=L.length:=fx fh (by decide) U.own.bR
 refine⟨a,ap,⟨b0,I⟩,_,gO 0 _ rfl,aG _ _ _ hm hk (av.trans U.le) (by omega) λnT ia l7 dD kj ahp=>?_⟩
 have fX:=congrArg List.length kj
 rw[List.length_map] at fX
 have yh:=fx fh (by decide) dD.own.bR
 refine aay nV (by decide) (U.mono dD.le) dD.own.bR VP (by omega) (by omega) λaod u16 nG _=>⟨⟨by omega,by omega⟩,⟨by omega,by omega,L++ia,by rw[List.flatMap_append];exact nG,?_,λr W=>?_⟩,by dsimp only;omega⟩
 grind
 rcases List.mem_append.1 W with h|h
 exact bQ r h
 exact ahp r h
 rw[List.take_of_length_le (by omega)] at cE
 exact ae _ L w U cE bQ
def G8(ub:H)(fv:Value)(p:aT->Bool):Prop:=∀(r:aT) (v:H) (K:Bool->H->Prop),ub.le v->K (p r) v->mc Tryz.prog fv #[.agg #[.int .i64 r.id,.slice r.s.a r.s.n r.s.c]] [.one .bool] v K
theorem ap6{ub:H}{s:J}{fv:Value}{p:aT->Bool}{K:Int->H->Prop}(hs:bb u s 2 (l.flatMap cG))(aa:G8 ub fv p)(cy:ub.le u)
  (ae:∀(i:Nat) r,l[i]?=some r->(∀(k:Nat) eB,k<i->l[k]?=some eB->p eB=false)->p r=true->K i u) (de:(∀r∈l,p r=false)->K (-1) u):LS s fv u K:=by
 have ac:s.n=l.length:=fx fh (by decide) hs
 have hm:s.n<=9223372036854775807:=Nat.le_trans (bb.cap hs) (bb.max hs)
 apply ati
 refine⟨λ_ i v=>v=u/\0<=i/\i<=l.length/\∀(k:Nat) eB,k<i.toNat->l[k]?=some eB->p eB=false,λ_ i _=>l.length-i.toNat,⟨rfl,by omega,by omega,λk eB hk=>by simp at hk⟩,?_⟩
 rintro _ i v ⟨rfl,i0,i1,hk⟩
 refine⟨λdC=>?_,λhg=>de λr W=>?_⟩
 have ai:i.toNat<l.length:=by omega
 have I:l[i.toNat]?=some l[i.toNat]:=List.getElem?_eq_getElem ai
 obtain⟨q,ay,E⟩:=bb.elem fh (by decide) hs I
 have c0:=E 0 _ rfl
 rw[Addr.add_zero'] at c0
 refine⟨q,ay,⟨i0,dC⟩,_,c0,_,E 1 _ rfl,aa _ _ _ cy ⟨λZ=>?_,λZ=>⟨⟨by omega,by omega⟩,⟨rfl,by omega,by omega,λk eB cR ek=>?_⟩,by dsimp only;omega⟩⟩⟩
 have:=ae i.toNat _ I hk Z
 rw[show((i.toNat:Nat):Int)=i by omega] at this
 exact this
 grind
 obtain⟨k,cR,rfl⟩:=List.getElem_of_mem W
 grind
end
