/- Texts of mine, joined and packed by pack.py. -/
import Derived.Test.YtnaemgklhjkdhaaGreatDoorMna8
set_option linter.all false
set_option maxRecDepth 100000
noncomputable section
namespace Go.Proofs.YtnaemgklhjkdhaaGreatDoor
open H
section
variable{u v u' Y:H}{k b:Int}{a7 ss:J}{l:List ja}{ck n6:Nat}{S:List bk}{R:List cc}{ids q:List Int}{r:cc}{s:ke}{p:bf}{rows Q:List iC}{K:J->H->Prop}{e:ja}
def aqP:iG Tryz.prog 122=some (205,6,96,[.int .i64 0,.slice none 0 0,.slice none 0 0,.int .u64 0,.int .u64 0,.slice none 0 0]):=by kernel_rfl
structure pJ(Y u:H)(a7:J)(rest:List cc):Prop where
 own:aE Y u 205 6 a7 (rest.flatMap tf)
 each:∀r∈rest,uu Y u r
 eR:(a7::rest.flatMap cc.ho).Pairwise eP
def pJ.mono{rest:List cc}(h:pJ Y u a7 rest)(k:u.le u'):pJ Y u' a7 rest:=
 ⟨h.own.mono k,λr W=>⟨(h.each r W).l.mono k,(h.each r W).h.mono k,(h.each r W).i.mono k⟩,h.eR⟩
theorem pJ.nil(h:Y.le u):pJ Y u ⟨none,0,0⟩ []:=⟨aE.nil h _ _,λr W=>(by cases W),by grind⟩
def yX(h:uu Y u r):∀s∈r.ho,∃xs,aE Y u 3 1 s xs:=by intro s hs;simp only[cc.ho,List.mem_cons,List.not_mem_nil,or_false] at hs;rcases hs with rfl|rfl|rfl;exact⟨_,h.l⟩;exact⟨_,h.h⟩;exact⟨_,h.i⟩
theorem anV{aI:H}{rest:List cc}(h:pJ Y aI a7 rest)(hu:aI.le u)(W:uu aI u r)(f1:eP r.ls r.hs)(f2:eP r.ls r.is)(f3:eP r.hs r.is)(ai:rest.length<=10000000)
  (ae:∀s' u',pJ Y u' s' (rest++ [r])->e8 u u' a7->(∀g,s'.ad=some g->a7.ad=some g∨u g=none)->K s' u'):
  cx Tryz.prog (Instr.buildSlice 122 1 #[(0,.agg #[.int .i64 r.ax,.slice r.ls.a r.ls.n r.ls.c,.slice r.hs.a r.hs.n r.hs.c,.int .u64 (cK r.ch),.int .u64 (cO r.ch),.slice r.is.a r.is.n r.is.c])]) [.one .slice] u λs1 v1=>u.le v1/\cx Tryz.prog (Builtin.append_ #[122,122] 122 #[.slice a7.a a7.n a7.c,.slice s1.a s1.n s1.c]) [.one .slice] v1 K:=by
 have hm:=h.mono hu
 have ac:a7.n=rest.length:=fx Ng (by decide) hm.own.own.bR
 have SP:Y.le aI:=h.own.le
 have j1:uu Y u r:=⟨W.l.weaken SP,W.h.weaken SP,W.i.weaken SP⟩
 have ep:∀x∈rest++ [r],uu Y u x:=λx I=>by rcases List.mem_append.1 I with I|I;exact hm.each x I;rw[List.mem_singleton.1 I];exact j1
 have Np:∀s∈r.ho,eP a7 s/\∀t∈rest.flatMap cc.ho,eP t s:=λs hs=>by obtain⟨xs,I⟩:=yX W s hs;refine⟨aE.eR h.own (H.le.refl aI) I,λt ht=>?_⟩;obtain⟨y,af,yz⟩:=List.mem_flatMap.1 ht;obtain⟨cM,ak3⟩:=yX (h.each y af) t yz;exact aE.eR ak3 (H.le.refl aI) I
 have M:=h.eR
 rw[List.pairwise_cons] at M
 refine vp aqP (ae2 r.ls r.hs r.is r.ax (cK r.ch) (cO r.ch)) (by decide) rfl (by simp[Value.oneCell']) hm.own (by omega) (by omega) λs' u' U im cQ ee _=>ae s' u' ⟨?_,λx I=>?_,?_⟩ cQ ee
 rw[List.flatMap_append]
 exact U
 have hk:qy [a7] u u':=λb o Z aj=>cQ b o Z (aj a7 (List.mem_cons_self ..))
 refine hk.am5 (ep x I) (λs hs g N=>by rw[List.mem_singleton.1 hs] at N;exact hm.own.fresh g N) λs hs t ht=>?_
 rw[List.mem_singleton.1 hs]
 rcases List.mem_append.1 I with I|I
 exact M.1 t (List.mem_flatMap.2 ⟨x,I,ht⟩)
 rw[List.mem_singleton.1 I] at ht;exact(Np t ht).1
 rw[List.flatMap_append,List.pairwise_cons]
 have akl:[r].flatMap cc.ho=r.ho:=by simp
 rw[akl]
 refine⟨λt ht=>?_,List.pairwise_append.2 ⟨M.2,?_,λt ht s hs=>(Np s hs).2 t ht⟩⟩
 intro g N hJ
 have tv:eP a7 t:=by rcases List.mem_append.1 ht with h1|h1;exact M.1 t h1;exact(Np t h1).1
 have jh:∃xs,aE Y u 3 1 t xs:=by rcases List.mem_append.1 ht with h1|h1;obtain⟨y,af,yz⟩:=List.mem_flatMap.1 h1;exact yX (hm.each y af) t yz;exact yX j1 t h1
 obtain⟨xs,I⟩:=jh
 rcases ee g N with h1|h1
 exact tv g h1 hJ
 exact fj I hJ h1
 simp only[cc.ho,List.pairwise_cons,List.mem_cons,List.not_mem_nil,or_false,forall_eq_or_imp,forall_eq,List.Pairwise.nil,and_true]
 grind
theorem sU.beside{a b3 b:H}(M:sU a u b3 u')(akQ:v.le b3)(Z:b.le u)(yD:v.le b)(hy:∀c,a c≠none->b c≠none->v c≠none):b.le u'/\∀c,b3 c≠none->b c≠none->v c≠none:=by
 refine⟨λc o E=>?_,λc h1 h2=>?_⟩;cases e:a c with
 |none=>exact(M.out c o e (Z c o E)).2|some bn=>obtain⟨fq,h2⟩:=Option.ne_none_iff_exists'.1 (hy c (by rw[e];simp) (by rw[E];simp));have h3:=yD c fq h2;rw[E] at h3;cases h3;exact M.le c o (akQ c o h2)
 cases e:a c with
 |none=>obtain⟨o,U⟩:=Option.ne_none_iff_exists'.1 h2;exact absurd (M.out c o e (Z c o U)).1 h1
 |some bn=>grind
structure ha(v u:H)(ck n6:Nat)(k:Int)(S:List bk)(l:List ja)(ids:List Int)(ss a7:J)(R:List cc):Prop where
 ex:∃gT iO,gT.le u/\iO.le u/\v.le gT/\v.le iO/\(∀c,gT c≠none->iO c≠none->v c≠none)/\gZ v ck k gT S/\oX v iO n6 l/\(∀s∈ss::a7::R.flatMap cc.ho,∀g,s.ad=some g->gT g=none/\iO g=none)
 seen:aE v u 3 1 ss (ids.flatMap encI)
 rest:pJ v u a7 R
 eR:∀s∈a7::R.flatMap cc.ho,eP ss s
def ha.le(h:ha v u ck n6 k S l ids ss a7 R):v.le u:=h.seen.le
def ha.known(h:ha v u ck n6 k S l ids ss a7 R):∀s∈ss::a7::R.flatMap cc.ho,∀g,s.ad=some g->u g≠none:=by intro s hs g N;rcases List.mem_cons.1 hs with rfl|hs;exact fj h.seen N;rcases List.mem_cons.1 hs with rfl|hs;exact fj h.rest.own N;obtain⟨y,af,yz⟩:=List.mem_flatMap.1 hs;obtain⟨xs,I⟩:=yX (h.rest.each y af) s yz;exact fj I N
def pJ.stay(h:pJ v u a7 R)(av:v.le u')(hs:∀s∈a7::R.flatMap cc.ho,∀g o,s.ad=some g->u g=some o->u' g=some o):pJ v u' a7 R:=by have one:∀{e k:Nat} {s:J} {xs:List Value},aE v u e k s xs->s∈a7::R.flatMap cc.ho->aE v u' e k s xs:=λU hm=>⟨U.own.le λb o Z hu=>hs _ hm b o Z hu,av,U.fresh⟩;refine⟨one h.own (List.mem_cons_self ..),λr W=>?_,h.eR⟩;have hm:∀s∈r.ho,s∈a7::R.flatMap cc.ho:=λs hs=>List.mem_cons_of_mem _ (List.mem_flatMap.2 ⟨r,W,hs⟩);exact⟨one (h.each r W).l (hm _ (by simp[cc.ho])),one (h.each r W).h (hm _ (by simp[cc.ho])),one (h.each r W).i (hm _ (by simp[cc.ho]))⟩
theorem aqm{x:bk}{K:Bool->H->Prop}(h:ha v u ck n6 k S l ids ss a7 R)(cv:1<=k)(cI:k<=64)
  (ae:∀b u',ha v u' ck n6 k (x::S) l ids ss a7 R->K b u'):xh (some ⟨ck,0,none⟩) x.1 (cK x.2) (cO x.2) u K:=by
 obtain⟨gT,iO,t1,cC,t2,cz,hy,aJ,ed,dK⟩:=h.ex
 have E:=Kv (K:=λ_ u'=>gZ v ck k u' (x::S)) aJ cv cI λb u' bx=>bx
 refine E.frame t1 ?_
 intro b ab5 u' M eS
 have eg:=eS.le
 obtain⟨eQ,eI⟩:=M.beside eg cC cz hy
 have stay:∀s∈ss::a7::R.flatMap cc.ho,∀g o,s.ad=some g->u g=some o->ab5 g=none/\u' g=some o:=λs hs g o N U=>M.out g o (dK s hs g N).1 U
 refine ae b u' ⟨⟨ab5,iO,M.le,eQ,eg,cz,eI,eS,ed,λs hs g N=>?_⟩,⟨h.seen.own.le λg o N U=>(stay _ (List.mem_cons_self ..) g o N U).2,eg.trans M.le,h.seen.fresh⟩,h.rest.stay (eg.trans M.le) λs hs g o N U=>(stay s (List.mem_cons_of_mem _ hs) g o N U).2,h.eR⟩
 obtain⟨o,U⟩:=Option.ne_none_iff_exists'.1 (h.known s hs g N)
 grind
theorem ha.queue{gT iO zi:H}{bi:List ja}(h:ha v u ck n6 k S l ids ss a7 R)(t1:gT.le u)(t2:v.le gT)(hy:∀c,gT c≠none->iO c≠none->v c≠none)
  (aJ:gZ v ck k gT S) (dK:∀s∈ss::a7::R.flatMap cc.ho,∀g,s.ad=some g->gT g=none/\iO g=none) (M:sU iO u zi u') (eg:v.le zi) (xT:oX v zi n6 bi):ha v u' ck n6 k S bi ids ss a7 R:=by
 obtain⟨eQ,eI⟩:=M.beside eg t1 t2 λc h1 h2=>hy c h2 h1
 have stay:∀s∈ss::a7::R.flatMap cc.ho,∀g o,s.ad=some g->u g=some o->zi g=none/\u' g=some o:=λs hs g o N U=>M.out g o (dK s hs g N).2 U
 refine⟨⟨gT,zi,eQ,M.le,t2,eg,λc h1 h2=>eI c h2 h1,aJ,xT,λs hs g N=>?_⟩,⟨h.seen.own.le λg o N U=>(stay _ (List.mem_cons_self ..) g o N U).2,eg.trans M.le,h.seen.fresh⟩,h.rest.stay (eg.trans M.le) λs hs g o N U=>(stay s (List.mem_cons_of_mem _ hs) g o N U).2,h.eR⟩
 obtain⟨o,U⟩:=Option.ne_none_iff_exists'.1 (h.known s hs g N)
 grind
def oX.le{n:Nat}(h:oX v u n l):v.le u:=by obtain⟨L,ed,_,_⟩:=h.ex;obtain⟨s,_,U,_⟩:=ed.ex;exact U.le
def abx{n0 m:Nat}{s:J}{K:H->Prop}(h:ha v u ck n6 k S l ids ss a7 R)(ai:l.length<10000000)(aa:k4 v m p)
  (bL:k5 (p.fP []) q.length) (ay:ej q) (et:v.cell? ⟨n0,0,none⟩=some (.slice s.a s.n s.c)) (hs:Ints v s q) (ae:∀u',ha v u' ck n6 k S (mh q l p) ids ss a7 R->K u'):Lw (some ⟨m,0,none⟩) ⟨n0,0,none⟩ ⟨n6,0,none⟩ u K:=by
 obtain⟨gT,iO,t1,cC,t2,cz,hy,aJ,ed,dK⟩:=h.ex
 have E:=apq (K:=λu'=>oX v u' n6 (mh q l p)) ed cz ai aa bL ay (cz.cell et) (hs.mono cz) λu' bx=>bx
 refine E.frame cC ?_
 intro zi u' M xT
 exact ae u' (h.queue t1 t2 hy aJ dK M xT.le xT)
def aqo{K:Value->H->Prop}(h:ha v u ck n6 k S l ids ss a7 R)(bW:gb blt l.length l)(ah:0<l.length)
  (ae:∀u' m,ha v u' ck n6 k S (iN blt l) ids ss a7 R->k4 v m (l.getD 0 default).2->K (rh ((⟨m,0,none⟩:Addr),l.getD 0 default)) u'):xf (y0 n6) u K:=by
 obtain⟨gT,iO,t1,cC,t2,cz,hy,aJ,ed,dK⟩:=h.ex
 have E:=apR (K:=λx u'=>∃m,x=rh ((⟨m,0,none⟩:Addr),l.getD 0 default)/\oX v u' n6 (iN blt l)/\k4 v m (l.getD 0 default).2) ed bW ah λu' m h1 h2=>⟨m,rfl,h1,h2⟩
 refine E.frame cC ?_
 rintro x zi u' M ⟨m,rfl,xT,aa⟩
 exact ae u' m (h.queue t1 t2 hy aJ dK M xT.le xT) aa
def gZ.whole{gT:H}(h:gZ v ck k gT S)(hu:gT.le u):gZ v ck k u S:=h.mono hu
def aqn{dr:Nat}{hi bz:Int}{K:Bool->H->Prop}(h:ha v u ck n6 k S l ids ss a7 R)(cv:1<=k)(aj:∀g∈S,kC g.2)
  (mZ:v.cell? ⟨dr,0,none⟩=some (.pointer (some ⟨ck,0,none⟩))) (h1:cS hi) (h2:cS bz) (ae:∀cF:Bool,(cF=true↔k<=(S.length:Int)/\((dX k.toNat S).getD (k.toNat-1) default).2<dY hi bz)->K cF u):Lx hi bz ⟨dr,0,none⟩ u K:=by
 obtain⟨gT,iO,t1,cC,t2,cz,hy,aJ,ed,dK⟩:=h.ex
 exact apr (aJ.whole t1) cv aj (h.le.cell mZ) h1 h2 ae
theorem le_none{a:H}(h:a.le u){g:Nat}(N:u g=none):a g=none:=by
 cases e:a g with
 |none=>rfl|some o=>have:=h g o e;grind
theorem auL{x:Int}(h:ha v u ck n6 k S l ids ss a7 R)(ai:ids.length<10000000)
  (ae:∀s' u',ha v u' ck n6 k S l (ids++ [x]) s' a7 R->K s' u'):
  cx Tryz.prog (Instr.buildSlice 23 1 #[(0,.int .i64 x)]) [.one .slice] u λs1 aI=>cx Tryz.prog (Builtin.append_ #[23,23] 23 #[.slice ss.a ss.n ss.c,.slice s1.a s1.n s1.c]) [.one .slice] aI K:=by
 obtain⟨gT,iO,t1,cC,t2,cz,hy,aJ,ed,dK⟩:=h.ex
 have ac:=h.seen.ints.len
 refine rn pE (xy _) (by decide) rfl (by simp[Value.oneCell']) h.seen (by omega) (by omega) λs' u' U im cQ ee _=>ae s' u' ?_
 have fresh:∀g,s'.ad=some g->gT g=none/\iO g=none:=λg N=>by
  rcases ee g N with h1|h1
  grind
  exact⟨le_none t1 h1,le_none cC h1⟩
 have abG:∀{w:H},w.le u->(∀g,ss.ad=some g->w g=none)->w.le u':=λhw N b o Z=>cQ b o (hw b o Z) λe=>by grind
 have agz:∀s∈a7::R.flatMap cc.ho,eP s' s:=λs hs g N hJ=>by rcases ee g N with h1|h1;exact h.eR s hs g h1 hJ;exact h.known s (List.mem_cons_of_mem _ hs) g hJ h1
 refine⟨⟨gT,iO,abG t1 λg N=>(dK ss (List.mem_cons_self ..) g N).1,abG cC λg N=>(dK ss (List.mem_cons_self ..) g N).2,t2,cz,hy,aJ,ed,λs hs g N=>?_⟩,?_,h.rest.stay U.le λs hs g o N bG=>cQ g o bG λe=>h.eR s hs g e N,agz⟩
 grind
 rw[List.flatMap_append]
 exact U
theorem acO{w:H}(h:ha v u ck n6 k S l ids ss a7 R)(hw:u.le w)(W:uu u w r)(f1:eP r.ls r.hs)(f2:eP r.ls r.is)(f3:eP r.hs r.is)(ai:R.length<=10000000)
  (ae:∀s' u',ha v u' ck n6 k S l ids ss s' (R++ [r])->e8 w u' a7->(∀g,s'.ad=some g->a7.ad=some g∨w g=none)->K s' u'):
  cx Tryz.prog (Instr.buildSlice 122 1 #[(0,.agg #[.int .i64 r.ax,.slice r.ls.a r.ls.n r.ls.c,.slice r.hs.a r.hs.n r.hs.c,.int .u64 (cK r.ch),.int .u64 (cO r.ch),.slice r.is.a r.is.n r.is.c])]) [.one .slice] w λs1 v1=>w.le v1/\cx Tryz.prog (Builtin.append_ #[122,122] 122 #[.slice a7.a a7.n a7.c,.slice s1.a s1.n s1.c]) [.one .slice] v1 K:=by
 obtain⟨gT,iO,t1,cC,t2,cz,hy,aJ,ed,dK⟩:=h.ex
 refine anV h.rest hw W f1 f2 f3 ai λs' u' b8 cQ ee=>ae s' u' ?_ cQ ee
 have Zv:∀s∈r.ho,∃xs,aE u w 3 1 s xs:=yX W
 have fresh:∀s∈ss::s'::(R++ [r]).flatMap cc.ho,∀g,s.ad=some g->gT g=none/\iO g=none:=λs hs g N=>by
  rcases List.mem_cons.1 hs with rfl|hs
  grind
  rcases List.mem_cons.1 hs with rfl|hs;rcases ee g N with h1|h1
  grind
  exact⟨le_none (t1.trans hw) h1,le_none (cC.trans hw) h1⟩;rw[List.flatMap_append] at hs;rcases List.mem_append.1 hs with hs|hs
  grind
  obtain⟨xs,I⟩:=Zv s (by simpa using hs);exact⟨le_none t1 (I.fresh g N),le_none cC (I.fresh g N)⟩
 have VI:eP ss a7:=h.eR a7 (List.mem_cons_self ..)
 have bd:∀{z:H},z.le u->(∀g,a7.ad=some g->z g=none)->z.le u':=λaP N b o Z=>cQ b o (hw b o (aP b o Z)) λe=>by grind
 refine⟨⟨gT,iO,bd t1 λg N=>(dK a7 (by simp) g N).1,bd cC λg N=>(dK a7 (by simp) g N).2,t2,cz,hy,aJ,ed,fresh⟩,⟨h.seen.own.le λb o Z U=>cQ b o (hw b o U) λe=>VI b Z e,b8.own.le,h.seen.fresh⟩,b8,λs hs=>?_⟩
 rcases List.mem_cons.1 hs with rfl|hs
 intro g N hJ
 rcases ee g hJ with h1|h1
 exact VI g N h1
 have:=fj h.seen N
 exact this (le_none hw h1)
 rw[List.flatMap_append] at hs
 rcases List.mem_append.1 hs with hs|hs
 exact h.eR s (List.mem_cons_of_mem _ hs)
 obtain⟨xs,I⟩:=Zv s (by simpa using hs)
 exact aE.eR h.seen (H.le.refl u) I
theorem oX.slice{n:Nat}(h:oX v u n l):∃s:J,u.cell? ⟨n,0,none⟩=some (.slice s.a s.n s.c)/\s.n=l.length/\∀x:Int,0<=x->x<(s.n:Int)->∃p m e,s.a=some p/\l[x.toNat]?=some e/\k4 v m e.2/\
  u.cell? (p.add (x.toNat*3))=some (.pointer (some ⟨m,0,none⟩))/\u.cell? ((p.add (x.toNat*3)).add 1)=some (.int .u64 (cK e.1))/\u.cell? ((p.add (x.toNat*3)).add 2)=some (.int .u64 (cO e.1)):=by
 obtain⟨L,ed,cE,ep⟩:=h.ex
 obtain⟨s,ac,U,_⟩:=ed.ex
 refine⟨s,aV ac 0,by rw[U.jR.len,<-cE,List.length_map],λx b0 cJ=>?_⟩
 obtain⟨p,aa,y,af,c0,c1,c2⟩:=U.jR.at b0 cJ
 obtain⟨m,hm,PC⟩:=ep y (List.mem_of_getElem? af)
 grind
def ha.slice(h:ha v u ck n6 k S l ids ss a7 R):∃s:J,u.cell? ⟨n6,0,none⟩=some (.slice s.a s.n s.c)/\s.n=l.length/\∀x:Int,0<=x->x<(s.n:Int)->∃p m e,s.a=some p/\l[x.toNat]?=some e/\k4 v m e.2/\
  u.cell? (p.add (x.toNat*3))=some (.pointer (some ⟨m,0,none⟩))/\u.cell? ((p.add (x.toNat*3)).add 1)=some (.int .u64 (cK e.1))/\u.cell? ((p.add (x.toNat*3)).add 2)=some (.int .u64 (cO e.1)):=by
 obtain⟨gT,iO,t1,cC,t2,cz,hy,aJ,ed,dK⟩:=h.ex
 obtain⟨s,h1,h2,h3⟩:=ed.slice
 refine⟨s,cC.cell h1,h2,λx b0 cJ=>?_⟩
 obtain⟨p,m,e,g1,g2,g3,g4,g5,g6⟩:=h3 x b0 cJ
 exact⟨p,m,e,g1,g2,g3,cC.cell g4,cC.cell g5,cC.cell g6⟩
def ha.mono(h:ha v u ck n6 k S l ids ss a7 R)(hu:u.le u'):ha v u' ck n6 k S l ids ss a7 R:=by obtain⟨gT,iO,t1,cC,t2,cz,hy,aJ,ed,dK⟩:=h.ex;exact⟨⟨gT,iO,t1.trans hu,cC.trans hu,t2,cz,hy,aJ,ed,dK⟩,h.seen.mono hu,h.rest.mono hu,h.eR⟩
def mR(x:bf×List iC):Int×Int×List Int×List Int×List Int:=(x.1.ax,x.1.ch,x.1.bz,x.1.hi,dM (x.2.map (·.1)))
def Hv(h:r.core=mR (p,rows)):r.ax=p.ax/\r.ch=p.ch/\r.bz=p.bz/\r.hi=p.hi/\r.ids=dM (rows.map (·.1)):=by simp only[cc.core,mR,Prod.mk.injEq] at h;omega
theorem amA(h:r.core=mR (p,rows))(q:List Int):l0 r q=l0 (p.fP []) q:=by
 obtain⟨h1,h2,h3,aZ,_⟩:=Hv h;unfold l0 bf.fP
 grind
theorem alk(h:r.core=mR (p,rows)){v:List Int}(hi:mf (p.fP []) v):mf r v:=by
 obtain⟨h1,h2,h3,aZ,_⟩:=Hv h;unfold mf bf.fP at*
 grind
theorem anT{d:Int}(h:r.core=mR (p,rows))(aa:k5 (p.fP []) d)(ac:(rows.map (·.1)).Nodup)(hid:∀x∈rows,1<=x.1/\x.1<=1000000000):k5 r d:=by
 obtain⟨h1,h2,h3,aZ,bJ⟩:=Hv h;refine⟨aa.ao,by rw[bJ];exact Kf ac,λx I=>?_,?_⟩;rw[bJ] at I;obtain⟨y,af,rfl⟩:=List.mem_map.1 ((pz _).mem_iff.1 I);exact hid y af;have:=aa.shape;unfold bf.fP at this
 simp_all
theorem anh{L:List aT}:∀{S:List iC},(∀x∈S,x∈L.map aT.bV)->∃m:List aT,m.map aT.bV=S/\∀r∈m,r∈L:=by
 intro S;induction S with
 |nil=>simp_all|cons x S aG=>
  intro h;obtain⟨m,h1,h2⟩:=aG λy af=>h y (List.mem_cons_of_mem _ af);obtain⟨r,W,e⟩:=List.mem_map.1 (h x (List.mem_cons_self ..));exact⟨r::m,by rw[List.map_cons,h1,e],λy af=>by
   grind⟩
theorem Q1(s:ke):(lo s).flatMap (·.2)=s.rest.flatMap (·.2)++s.heap.flatMap λx=>x.2.all:=by
 unfold lo;rw[List.flatMap_append];congr 1;generalize s.heap=l;induction l with
 |nil=>rfl|cons x l aG=>
  grind
theorem Q2{P:List iC}(h:o1 q b P s):∀x∈lo s,fp q.length x.1/\x.2≠[]/\(∀y∈x.2,y∈x.1.all):=by
 intro x I;unfold lo at I;rcases List.mem_append.1 I with h1|h1;exact h.left x h1;obtain⟨h2,h3⟩:=List.mem_filter.1 h1;obtain⟨y,af,rfl⟩:=List.mem_map.1 h2;refine⟨(h.vi y af).2,λe=>?_,λz aP=>aP⟩
 grind
theorem aqH{α β:Type}{f:α->List β}{x:α}:∀{l:List α},x∈l->List.Sublist (f x) (l.flatMap f):=by
 intro l;induction l with
 |nil=>intro h;cases h
 |cons y l aG=>
  grind
theorem acM{bZ:List bf}{L:List aT}{rs:List cc}(Z:0<=b)(hk:1<=k)(ajZ:∀p∈bZ,fp q.length p)(ay:jH L q)(cE:(L.map aT.bV).Perm (bf.hV bZ))(W:rs.map cc.core=(lo (l9 q k b bZ)).map mR):
  Sound L q k (ue q k (l9 q k b bZ)) (dM ((l9 q k b bZ).seen.map (·.1))) rs/\((dM ((l9 q k b bZ).seen.map (·.1))).length:Int)<=b/\
   (((dM ((l9 q k b bZ).seen.map (·.1))).length:Int)=b∨(dM ((l9 q k b bZ).seen.map (·.1))).length=L.length∨oT q k (ue q k (l9 q k b bZ)) rs):=by
 obtain⟨hw,pU⟩:=auH (k:=k) Z ajZ
 generalize l9 q k b bZ=s at*
 have jk:=hw.perm
 rw[<-Q1] at jk
 have ep:=jk.trans cE.symm
 have awg:(L.map aT.bV).map (·.1)=L.map (·.id):=by rw[List.map_map];rfl
 have iS:(s.seen.map (·.1)++((lo s).flatMap (·.2)).map (·.1)).Perm (L.map (·.id)):=by grind
 have bX:=iS.nodup_iff.2 ay.rows.nodup
 have XH:=(List.nodup_append.1 bX).1
 have II:=(List.nodup_append.1 bX).2.1
 have DK:∀r∈rs,∃x∈lo s,r.core=mR x:=λr gx=>by
  have:r.core∈(lo s).map mR:=by grind
  grind
 have Xz:∀x∈lo s,∀y∈x.2,y∈L.map aT.bV:=λx I y af=>ep.mem_iff.1 (List.mem_append_right _ (List.mem_flatMap.2 ⟨x,I,af⟩))
 have XX:∀r∈rs,∃x∈lo s,r.core=mR x/\k5 r q.length:=λr gx=>by
  obtain⟨x,I,e⟩:=DK r gx;obtain⟨h1,h2,h3⟩:=Q2 hw x I;refine⟨x,I,e,anT (p:=x.1) (rows:=x.2) e h1.jC ?_ λy af=>?_⟩
  grind
  obtain⟨w,jm,Af⟩:=List.mem_map.1 (Xz x I y af);rw[<-Af];exact ay.rows.id w jm
 have DT:(rs.flatMap (·.ids)).Perm (((lo s).flatMap (·.2)).map (·.1)):=by
  have aO:rs.flatMap (·.ids)=(rs.map cc.core).flatMap λz=>z.2.2.2.2:=by rw[List.flatMap_map];rfl
  rw[aO,W,List.flatMap_map];generalize lo s=l;induction l with
  |nil=>exact .refl _|cons x l aG=>rw[List.flatMap_cons,List.flatMap_cons,List.map_append];exact(pz _).append aG
 have hlen:(dM (s.seen.map (·.1))).length=s.seen.length:=by rw[B3,List.length_map]
 obtain⟨ms,AI,Pf⟩:=anh (L:=L) (S:=s.seen) λx I=>ep.mem_iff.1 (List.mem_append_left _ I)
 have nb:ue q k s=dX k.toNat (ms.map (hh q)):=by unfold ue;rw[<-AI,List.map_map];rfl
 refine⟨⟨Kf XH,λr gx=>?_,?_,λm hm Ec=>?_⟩,by rw[hlen];exact hw.iH,?_⟩
 obtain⟨x,I,e,AW⟩:=XX r gx
 obtain⟨h1,h2,h3⟩:=Q2 hw x I
 obtain⟨_,_,_,_,e6⟩:=Hv (p:=x.1) (rows:=x.2) e
 refine⟨AW,λac=>?_,λy af=>?_⟩
 rw[e6] at ac
 have:=congrArg List.length ac
 rw[B3,List.length_map,List.length_nil] at this
 grind
 rw[e6] at af
 obtain⟨z,aP,rfl⟩:=List.mem_map.1 ((pz _).mem_iff.1 af)
 obtain⟨w,jm,Af⟩:=List.mem_map.1 (Xz x I z aP)
 refine⟨w,jm,by rw[<-Af];rfl,alk (p:=x.1) (rows:=x.2) e ?_⟩
 have:=h1.ins z (h3 z aP)
 rw[<-Af] at this
 exact this
 exact((pz _).append DT).trans iS
 rw[nb]
 have aa:m.Perm ms:=by refine an4 ay.rows.nodup hm Pf ?_;rw[Ec];refine(pz _).trans (List.Perm.of_eq ?_);rw[<-AI,List.map_map];rfl
 exact xa (aa.symm.map _)
 rw[hlen]
 have qR:=hw.iH
 by_cases r2:s.rest=[]
 by_cases jd:b<=(s.seen.length:Int)
 left;omega
 by_cases bW:s.heap=[]
 right;left
 have h1:=iS.length_eq
 rw[Q1,r2,bW] at h1
 simpa using h1
 right;right
 have tw:Dg q k s (s.heap.getD 0 default).1:=by by_cases M:Dg q k s (s.heap.getD 0 default).1;exact M;exact absurd ⟨bW,by omega,M⟩ pU
 obtain⟨f1,f2⟩:=tw
 right
 refine⟨?_,λr gx=>?_⟩
 unfold ue
 rw[uf,List.length_map]
 omega
 obtain⟨x,I,e,_⟩:=XX r gx
 rw[amA (p:=x.1) (rows:=x.2) e]
 unfold lo at I
 rw[r2,List.nil_append] at I
 obtain⟨y,af,rfl⟩:=List.mem_map.1 (List.mem_filter.1 I).1
 obtain⟨i,hi,rfl⟩:=List.getElem_of_mem af
 have nJ:=hw.aa.root xx i hi
 rw[List.getD_eq_getElem?_getD,List.getElem?_eq_getElem hi] at nJ
 have hg:(s.heap.getD 0 default).1<=s.heap[i].1:=by have:¬s.heap[i].1<(s.heap.getD 0 default).1:=of_decide_eq_false nJ;omega
 have:=(hw.vi _ af).1
 rw[show(k-1).toNat=k.toNat-1 by omega]
 grind
 left
 exact hw.cut r2
def UH:fi Tryz.prog 367=true:=by kernel_rfl
def aeD:fi Tryz.prog 368=true:=by kernel_rfl
def Jx(P:List bf):P.length<=bf.fu P:=by
 induction P with
 |nil=>exact Nat.le_refl _|cons p P aG=>simp only[bf.fu,List.length_cons];have:=bf.size_eq p;omega
theorem JS{s:J}{bZ:List Nat}(h:bb u s 1 (bZ.map λn=>.pointer (some ⟨n,0,none⟩))){i:Nat}(hi:i<bZ.length):∃a,s.a=some a/\u.cell? (a.add (i*1))=some (.pointer (some ⟨bZ[i],0,none⟩)):=by
 obtain⟨a,ap,E⟩:=bb.elem (enc:=λn:Nat=>[Value.pointer (some ⟨n,0,none⟩)]) (k:=1) (λ_=>rfl) (by decide) (xs:=bZ) (by
  have e:bZ.flatMap (λn:Nat=>[Value.pointer (some ⟨n,0,none⟩)])=bZ.map λn=>Value.pointer (some ⟨n,0,none⟩):=by
   generalize bZ=z;induction z with
   |nil=>rfl|cons y z aG=>grind
  rw[e];exact h) (List.getElem?_eq_getElem hi)
 exact⟨a,ap,E 0 _ rfl⟩
def aqA(q:List Int)(P:List bf):bf.fu ((KC q P).heap.map (·.2))<=bf.fu P:=by
 have h0:gb blt ([]:List ja).length []:=λi _ hi=>by simp at hi
 obtain⟨h1,h2⟩:=foldl_add (q:=q) P [] h0;rw[List.nil_append] at h2;show bf.fu ((P.foldl (mh q) []).map (·.2))<=_;rw[Kc (h2.map _),List.map_map];exact Nat.le_of_eq (congrArg _ (List.map_id' _))
def al2(h:¬to q k b s):∀f,qg q k b f s=s:=by
 intro f;cases f with
 |zero=>rfl|succ f=>unfold qg;rw[if_neg h]
def al1(h:to q k b s)(f:Nat):qg q k b (f+1) s=qg q k b f (mF q b s):=by
 conv=>lhs;unfold qg
 rw[if_pos h]
structure At(v w:H)(ck n6:Nat)(k b:Int)(q:List Int)(P:List bf)(f:Nat)(ax ss a7:J):Prop where
 dF:ax=⟨none,0,0⟩
 ex:∃(bo:ke) (S:List bk) (R:List cc),ha v w ck n6 k S bo.heap (bo.seen.map (·.1)) ss a7 R/\S.Perm (bo.seen.map (ww q))/\o1 q b (bf.hV P) bo/\R.map cc.core=bo.rest.map mR/\qg q k b f bo=l9 q k b P/\bf.fu (bo.heap.map (·.2))<=f/\f<=bf.fu P
theorem ha.start(aJ:gZ v ck k u [])(ac:u n6=none):ha v (u.ins n6 (.cells #[.slice none 0 0] 482 (0,0))) ck n6 k [] [] [] ⟨none,0,0⟩ ⟨none,0,0⟩ []:=by
 have av:=aJ.le;have Qo:v n6=none:=le_none av ac;have hle:=bN (u:=u) (b:=n6) (.cells #[.slice none 0 0] 482 (0,0)) ac;have ph:=bN (u:=v) (b:=n6) (.cells #[.slice none 0 0] 482 (0,0)) Qo;refine⟨⟨u,v.ins n6 (.cells #[.slice none 0 0] 482 (0,0)),hle,λc o E=>?_,av,ph,λc h1 h2=>?_,aJ,⟨[],⟨⟨⟨none,0,0⟩,aS _ _ _,aE.nil ph _ _,by simp[J.ad]⟩,Qo,by simp⟩,rfl,λe he=>(by cases he)⟩,λs hs g N=>?_⟩,aE.nil (av.trans hle) _ _,pJ.nil (av.trans hle),λs hs=>?_⟩;by_cases e:c=n6;subst e;rw[aS] at E ⊢;exact E;rw[aL _ _ e] at E ⊢;exact av c o E;by_cases e:c=n6
 grind
 rw[aL _ _ e] at h2;exact h2;simp at hs;subst hs;simp[J.ad] at N;intro g N;simp[J.ad] at N
theorem agG{α:Type}{L:List (α×List iC)}(h:∀x∈L,x.2≠[]):L.length<=(L.flatMap (·.2)).length:=by
 induction L with
 |nil=>exact Nat.le_refl _|cons x L aG=>
  have h1:=aG λy af=>h y (List.mem_cons_of_mem _ af);have h2:0<x.2.length:=List.length_pos_iff.2 (h x (List.mem_cons_self ..))
  grind
def alX(h:o1 q b Q s):(lo s).length<=Q.length:=by have h1:=agG λx I=>(Q2 h x I).2.1;have h2:=h.perm.length_eq;rw[<-Q1,List.length_append] at h2;omega
def sq(s:ke)(x:Nat):List (bf×List iC):=s.rest++((s.heap.take x).map λy=>(y.2,y.2.all)).filter λy=>!y.2.isEmpty
def alV(h:o1 q b Q s)(x:Nat):(sq s x).length<=Q.length:=by refine Nat.le_trans (List.Sublist.length_le ?_) (alX h);unfold sq lo;exact(List.Sublist.refl _).append (((List.take_sublist x s.heap).map _).filter _)
def alU(s:ke){x:Nat}(h:s.heap.length<=x):sq s x=lo s:=by unfold sq lo;rw[List.take_of_length_le h]
theorem alW{x:Nat}(h:s.heap[x]?=some e):sq s (x+1)=sq s x++(if e.2.all=[] then[] else[(e.2,e.2.all)]):=by
 unfold sq;rw[List.take_add_one,h,Option.toList,List.map_append,List.filter_append,List.append_assoc]
 grind
theorem WX(h:o1 q b Q s)(he:e∈s.heap):e.2.all.length<=Q.length:=by
 have h1:=(aqH (f:=λx:ja=>x.2.all) he).length_le;have h2:=h.perm.length_eq
 grind
theorem aiF(he:e∈l):e.2.size<=bf.fu (l.map (·.2)):=by
 induction l with
 |nil=>cases he
 |cons x l aG=>
  simp only[List.map_cons,bf.fu]
  grind
def aag{d:Int}(h:k5 (p.fP []) d):p.bz.length<=64/\p.hi.length<=64:=by have aj:=h.ao;rcases h.shape with⟨_,h1,h2,_⟩|⟨_,_,h1,h2,_⟩|⟨_,h1,h2,_⟩;have o9:p.bz=[]:=h1;have tp:p.hi=[]:=h2;rw[o9,tp];simp;exact⟨h1.1,h2.1⟩;have o9:p.hi=[]:=h1;rw[o9];exact⟨h2.1,by simp⟩
def auK{z aI bE:H}{YE:List Int}{ax:J}{H1:List bk}(st:u.le v)(gv:ha v z ck n6 k S l ids ss a7 R)
  (h1:aE v aI 3 1 ss (YE.flatMap encI)) (he:e8 z aI ss) (h2:aE aI bE 83 3 ax (H1.flatMap ey)):kb u bE ax ss a7 H1 YE R:=by
 have N1:pJ v aI a7 R:=gv.rest.stay h1.le λs hs g o N U=>he g o U λe=>gv.eR s hs g e N
 have og:=N1.mono h2.le
 have q0:=h1.mono h2.le
 refine⟨h2.weaken (st.trans h1.le),q0.weaken st,og.own.weaken st,λr W=>⟨(og.each r W).l.weaken st,(og.each r W).h.weaken st,(og.each r W).i.weaken st⟩,?_⟩
 have kn:∀s∈ss::a7::R.flatMap cc.ho,∀g,s.ad=some g->aI g≠none:=by intro s hs g N;rcases List.mem_cons.1 hs with rfl|hs;exact fj h1 N;rcases List.mem_cons.1 hs with rfl|hs;exact fj N1.own N;obtain⟨y,af,yz⟩:=List.mem_flatMap.1 hs;obtain⟨xs,I⟩:=yX (N1.each y af) s yz;exact fj I N
 unfold n5
 refine List.pairwise_cons.2 ⟨λs hs g N hJ=>kn s hs g hJ (h2.fresh g N),List.pairwise_cons.2 ⟨λs hs=>gv.eR s hs,og.eR⟩⟩
def aei{P:List bf}{bo:ke}{f:Nat}(pd:to q k b bo)(bL:o1 q b (bf.hV P) bo)(ai:qg q k b f bo=l9 q k b P)(hs:bf.fu (bo.heap.map (·.2))<=f):
  ∃bl,f=bl+1/\qg q k b bl (mF q b bo)=l9 q k b P/\bf.fu ((mF q b bo).heap.map (·.2))<=bl/\o1 q b (bf.hV P) (mF q b bo):=by
 have h1:=abJ bL pd
 cases f with
 |zero=>omega
 |succ f=>exact⟨f,rfl,by rw[<-al1 pd];exact ai,by omega,abH bL pd⟩
def aa9{s0 t:J}{ms:List Nat}{P:List bf}{K:J->J->J->H->Prop}(hs:bb u s0 1 (ms.map λn=>.pointer (some ⟨n,0,none⟩)))(hlen:ms.length=P.length)
  (aa:∀(i:Nat) m p,ms[i]?=some m->P[i]?=some p->k4 u m p) (bL:∀p∈P,fp q.length p) (ht:Ints u t q) (ay:ej q) (cv:1<=k) (cI:k<=64) (fJ:0<=b) (eQ:b<=1000000) (cA:bf.fu P<=4000000) (wg:(bf.hV P).length<=100000)
  (oz:∀x∈bf.hV P,(x.2.length:Int)=q.length/\ej x.2)
  (ae:∀ax ss a7 R u',kb u u' ax ss a7 (ue q k (l9 q k b P)) (dM ((l9 q k b P).seen.map (·.1))) R->R.map cc.core=(lo (l9 q k b P)).map mR->K ax ss a7 u'):zt s0 t k b u K:=by
 apply ase
 intro n0 et
 refine Kw (λI=>absurd I (by omega)) λ_ _ ck dm qe de oh=>?_
 intro dr mZ
 refine⟨_,_,aS _ _ _,rfl,by simp,by simp[Value.oneCell'],?_⟩
 intro n6 na
 rw[yJ] at na ⊢
 obtain⟨Fm,XK⟩:∃Fm,Fm=(Obj.cells (wr #[Value.pointer none] 0 [Value.pointer (some ⟨ck,0,none⟩)]) 129 (0,0)):=⟨_,rfl⟩
 rw[<-XK] at na ⊢
 obtain⟨eV,iT⟩:∃eV,eV=(Obj.cells #[Value.slice t.a t.n t.c] 23 (0,0)):=⟨_,rfl⟩
 rw[<-iT] at oh qe de
 have aJ:=oh.lx mZ Fm
 have Ym:(u.ins n0 eV) dr=none:=le_none qe mZ
 obtain⟨v,av⟩:∃v,v=(u.ins n0 eV).ins dr Fm:=⟨_,rfl⟩
 rw[<-av] at aJ
 have st:u.le v:=by rw[av];exact(bN _ et).trans (bN _ Ym)
 have MN:v.cell? ⟨n0,0,none⟩=some (.slice t.a t.n t.c):=by
  have h1:(u.ins n0 eV) n0=some eV:=aS _ _ _;have h2:v n0=some eV:=by rw[av];exact bN _ Ym _ _ h1
  rw[iT] at h2;exact aV h2 0
 have MO:v.cell? ⟨dr,0,none⟩=some (.pointer (some ⟨ck,0,none⟩)):=by
  have h2:v dr=some Fm:=by rw[av];exact aS _ _ _
  rw[XK] at h2;exact aV h2 0
 have aea:=ha.start aJ na
 have Qc:=ht.mono st
 have Ep:∀(i:Nat) m p,ms[i]?=some m->P[i]?=some p->k4 v m p:=λi m p h1 h2=>(aa i m p h1 h2).mono st
 have cY:s0.n=ms.length:=by have:=hs.len;simpa using this.symm
 have fc:=Nat.le_trans (bb.cap hs) (bb.max hs)
 refine⟨λx w=>0<=x/\x<=s0.n/\ha v w ck n6 k [] ((P.take x.toNat).foldl (mh q) []) [] ⟨none,0,0⟩ ⟨none,0,0⟩ [],λx _=>((s0.n:Int)-x).toNat,⟨by omega,by omega,aea⟩,λx w bQ=>⟨λI=>?_,λI=>?_⟩⟩
 obtain⟨b0,cJ,bm⟩:=bQ
 have gm:x.toNat<ms.length:=by omega
 obtain⟨a,ap,E⟩:=JS (hs.mono (st.trans bm.le)) gm
 have cB:P[x.toNat]?=some P[x.toNat]:=List.getElem?_eq_getElem (by omega)
 have sd:=bL _ (List.getElem_mem (show x.toNat<P.length by omega))
 have yb:((P.take x.toNat).foldl (mh q) []).length<10000000:=by
  have ag6:gb blt ([]:List ja).length []:=λi _ hi=>by simp at hi
  have h1:=(foldl_add (q:=q) (P.take x.toNat) [] ag6).2.length_eq;rw[List.nil_append,List.length_map,List.length_take] at h1;have h2:=Jx P;omega
 refine⟨a,ap,⟨b0,I⟩,_,E,.inl ⟨_,_,_,rfl,fg UH,abx bm yb (Ep _ _ _ (List.getElem?_eq_getElem gm) cB) sd.jC ay MN Qc λu' gv=>⟨⟨by omega,by omega⟩,⟨by omega,by omega,?_⟩,by dsimp only;omega⟩⟩⟩
 rw[show(x+1).toNat=x.toNat+1 by omega,List.take_add_one,cB,List.foldl_append]
 exact gv
 .obtain⟨b0,cJ,bm⟩:=bQ;rw[List.take_of_length_le (by omega)] at bm;intro adR NE;refine⟨λua pw qn w=>∃f,At v w ck n6 k b q P f ua pw qn,λua pw qn w=>least λf=>At v w ck n6 k b q P f ua pw qn,⟨bf.fu P,rfl,KC q P,[],[],bm,.refl _,abF fJ bL,rfl,rfl,aqA q P,Nat.le_refl _⟩,λua pw qn w bQ=>?_⟩;have M:=Bp bQ;generalize hf:(least λf=>At v w ck n6 k b q P f ua pw qn)=f at M;obtain⟨NI,bo,S,R,gv,aW,qb,b8,Xp,jy,oo⟩:=M;obtain rfl:ua=⟨none,0,0⟩:=NI;intro avg ahg;obtain⟨jo,aO,ar,cq⟩:=gv.slice;have Ew:pw.n=bo.seen.length:=by have h:=gv.seen.ints.len;rw[List.length_map] at h;exact h
  have awe:bo.heap.length<=4000000:=by have h:=Jx (bo.heap.map (·.2));rw[List.length_map] at h;omega
  have aju:∀x∈bo.seen,x∈bf.hV P:=λx I=>qb.perm.mem_iff.1 (List.mem_append_left _ I);have aiv:∀g∈S,kC g.2:=λg N=>by obtain⟨x,I,rfl⟩:=List.mem_map.1 (aW.mem_iff.1 N);obtain⟨g1,g2⟩:=oz x (aju x I);exact F5 g2 ay (by omega)
  have nb:ue q k bo=dX k.toNat S:=xa aW.symm;have N2:R.length=bo.rest.length:=by have:=congrArg List.length b8;simpa using this
  have fin:¬to q k b bo->adR ⟨none,0,0⟩ pw qn w:=λajH=>by
   have dc:l9 q k b P=bo:=by rw[<-Xp,al2 ajH]
   obtain⟨gT,iO,t1,cC,t2,cz,hy,ahW,ed,dK⟩:=gv.ex;obtain⟨jo,aO,ar,cq⟩:=ed.slice;refine NE ⟨none,0,0⟩ pw qn w ⟨jo,cC.cell aO,λx RV y3 hl z=>0<=x/\x<=jo.n/\RV=⟨none,0,0⟩/\y3=pw/\gT.le z/\iO.le z/\(∀g,hl.ad=some g->gT g=none/\iO g=none)/\∃rH,ha v z ck n6 k S bo.heap (bo.seen.map (·.1)) pw hl rH/\rH.map cc.core=(sq bo x.toNat).map mR,λx _ _ _ _=>((jo.n:Int)-x).toNat,
    ⟨by omega,by omega,rfl,rfl,t1,cC,λg N=>dK qn (by simp) g N,R,gv,by rw[b8];simp[sq]⟩,?_⟩
   rintro x RV y3 hl z ⟨b0,cJ,aha,NG,KP,BL,aP,rH,we,Au⟩;obtain rfl:RV=⟨none,0,0⟩:=aha;obtain rfl:y3=pw:=NG;have av0:rH.length=(sq bo x.toNat).length:=by have:=congrArg List.length Au;simpa using this
   have qR:=alV qb x.toNat;refine⟨λI=>?_,λI=>?_⟩
   .obtain⟨p,m,e,g1,g2,g3,g4,g5,g6⟩:=cq x b0 I;have mo:e∈bo.heap:=List.mem_of_getElem? g2;have av3:=WX qb mo;obtain⟨Vv,Ab⟩:=qb.vi e mo;have IX:=alW g2;refine⟨p,g1,⟨b0,I⟩,_,BL.cell g4,_,BL.cell g5,_,BL.cell g6,apo g3 we.le (by omega) λaoe L u32 sB cE bQ=>⟨λmu=>?_,λdp=>?_⟩⟩
    .have pZ:=fx fh (by decide) sB.own.bR;have wa:L.length=e.2.all.length:=by rw[<-cE,List.length_map]
     have ah:e.2.all≠[]:=λh0=>by rw[h0] at wa;simp at wa;rw[wa] at pZ;simp at pZ;omega
     rw[if_neg ah] at IX;cases g3 with
     |mk ls eT is rs ks rows bZ cell va bz hi at' bV kids len each=>
     have bB:v.le u32:=we.le.trans sB.le;have E:=bB _ _ cell;obtain⟨Q4,OV⟩:=aag Ab.jC;have oA:ev u32 aoe L:=⟨sB.own.bR,λr W=>(bQ r W).mono bB⟩;have iS:dM (L.map (·.id))=dM (e.2.all.map (·.1)):=by rw[<-cE,List.map_map];rfl
     refine⟨_,rfl,_,aV E 0,ls,aV E 1,eT,aV E 2,_,aV E 3,_,aV E 4,is,aV E 5,
      aba (bz.mono bB) (hi.mono bB) oA Q4 OV (by omega) λa xu c kZ ng re Rn f1 f2 f3=>⟨ng.le,?_⟩⟩
     have N6:=we.mono sB.le;have:=acO (r:=⟨e.2.ax,a,xu,e.2.ch,c,e.2.bz,e.2.hi,dM (L.map (·.id))⟩) N6 ng.le ⟨ng,re,Rn⟩ f1 f2 f3 (by omega)
      (K:=λ(RX:J) (KS:H)=>ba (x+1)/\(0<=x+1/\x+1<=(jo.n:Int)/\(⟨none,0,0⟩:J)=⟨none,0,0⟩/\y3=y3/\gT.le KS/\iO.le KS/\(∀g,RX.ad=some g->gT g=none/\iO g=none)/\∃rH,ha v KS ck n6 k S bo.heap (bo.seen.map (·.1)) y3 RX rH/\rH.map cc.core=(sq bo (x+1).toNat).map mR)/\((jo.n:Int)-(x+1)).toNat<((jo.n:Int)-x).toNat)
      λRX KS N7 cQ ee=>⟨⟨by omega,by omega⟩,⟨by omega,by omega,rfl,rfl,λg o N=>cQ g o (ng.le _ _ (sB.le _ _ (KP g o N))) λdH=>(by rw[(aP g dH).1] at N;cases N),λg o N=>cQ g o (ng.le _ _ (sB.le _ _ (BL g o N))) λdH=>(by rw[(aP g dH).2] at N;cases N),λg N=>?_,_,N7,?_⟩,by omega⟩
     exact cx.Sj this λs1 v1 h=>⟨ng.le.trans h.1,h.2⟩;rcases ee g N with h1|h1;exact aP g h1;have h2:=le_none (sB.le.trans ng.le) h1;exact⟨le_none KP h2,le_none BL h2⟩;rw[show(x+1).toNat=x.toNat+1 by omega,IX,List.map_append,List.map_append,Au];simp only[List.map_cons,List.map_nil,cc.core,mR,iS]
    have pZ:=fx fh (by decide) sB.own.bR;have wa:L.length=e.2.all.length:=by rw[<-cE,List.length_map]
    have u0:e.2.all=[]:=List.eq_nil_of_length_eq_zero (by omega);rw[if_pos u0,List.append_nil] at IX;exact⟨⟨by omega,by omega⟩,⟨by omega,by omega,rfl,rfl,KP.trans sB.le,BL.trans sB.le,aP,rH,we.mono sB.le,by rw[show(x+1).toNat=x.toNat+1 by omega,IX];exact Au⟩,by dsimp only;omega⟩
   have mw:=qb.iH;rw[alU bo (by omega)] at Au;refine Ku we.seen (by rw[List.length_map];omega) λarc XJ WU=>⟨_,XJ.le.cell MO,?_⟩;have aqR:gT.le arc:=λg o N=>WU g o (KP g o N) λdH=>by rw[(dK y3 (by simp) g dH).1] at N;cases N
   refine F2 (ahW.whole aqR) λaxs axD amU=>?_;have Wz:=auK st we XJ WU amU;rw[<-nb,<-dc] at Wz;rw[<-dc] at Au;exact ae _ _ _ _ _ Wz Au
  have Av:S.length=bo.seen.length:=by have:=aW.length_eq;rwa[List.length_map] at this
  refine⟨jo,aO,acv _ _ _ ⟨λhlen=>⟨λZ=>?_,λZ=>fin λN=>by have:=N.2.1;omega⟩,λhlen=>fin λN=>?_⟩⟩
  .obtain⟨p,m,e,g1,g2,g3,g4,g5,g6⟩:=cq 0 (by omega) (by omega);have C7:bo.heap.getD 0 default=e:=by rw[List.getD_eq_getElem?_getD];rw[show(0:Int).toNat=0 from rfl] at g2;rw[g2];rfl
   have mo:e∈bo.heap:=List.mem_of_getElem? g2;obtain⟨Vv,Ab⟩:=qb.vi e mo;have Oo:kC e.1:=by rw[Vv];exact amz Ab.jC ay
   refine⟨jo,aO,p,g1,⟨by omega,by omega⟩,_,g5,_,by rw[Addr.uB];exact g6,.inl ⟨_,_,_,rfl,fg aeD,aqn gv cv aiv MO (Xd Oo) (tN _) λcF pc=>?_⟩⟩;rw[oR,Av] at pc;have tw:cF=true↔Dg q k bo (bo.heap.getD 0 default).1:=by rw[pc,C7];unfold Dg;rw[nb]
   refine⟨λbX=>ahg _ ?_,λaj=>fin λN=>N.2.2 (tw.1 aj)⟩;have pd:to q k b bo:=⟨λdH=>(by rw[dH] at mo;cases mo),by omega,λM=>bX (tw.2 M)⟩;clear fin NE tw;obtain⟨bl,W1,Xq,X6,Yv⟩:=aei pd qb Xp jy;have Xb:0<bo.heap.length:=List.length_pos_iff.2 pd.1;have akd:bo.rest=[]:=by by_cases dH:bo.rest=[];exact dH;have:=qb.cut dH;omega
   have Xy:∀{BZ ga R4:J} {z:H},At v z ck n6 k b q P bl BZ ga R4->least (λf=>At v z ck n6 k b q P f BZ ga R4)<least λf=>At v w ck n6 k b q P f ⟨none,0,0⟩ pw qn:=λ{BZ ga R4 z} h=>by rw[hf];exact Nat.lt_of_le_of_lt (least_le h) (by omega)
   refine aqo gv qb.aa Xb λu64 m1 kl PC=>aaA ?_;rw[C7] at PC ⊢;have ep:=WX qb mo;rw[bf.all_eq,List.length_append] at ep;obtain⟨fk,da,vk,_⟩:=Fz xx qb.aa Xb;have EC:=aiF mo;have akx:=Jx (bo.heap.map (·.2));rw[List.length_map] at akx;rw[bf.size_eq] at EC;have lb:=Jx e.2.kids;have jk:=fk.length_eq;rw[List.length_cons] at jk;cases PC with
   |mk ls eT is rs ks rows bZ cell va bz hi at' bV kids len each=>
   have il:ks.n=bZ.length:=by have:=kids.len;simpa using this.symm
   have qY:e.2.rows.length=rows.length:=by rw[<-bV,List.length_map]
   have AX:=at'.len;refine⟨_,rfl,ks,aV (kl.le _ _ cell) 7,λx z=>0<=x/\x<=ks.n/\ha v z ck n6 k S ((e.2.kids.take x.toNat).foldl (mh q) (iN blt bo.heap)) (bo.seen.map (·.1)) pw qn R,λx _=>((ks.n:Int)-x).toNat,⟨by omega,by omega,by simpa using kl⟩,?_⟩;rintro x z ⟨b0,cJ,xX⟩;refine⟨λI=>?_,λI=>?_⟩;have gm:x.toNat<bZ.length:=by omega
   obtain⟨a,ap,E⟩:=JS (kids.mono xX.le) gm;have cB:e.2.kids[x.toNat]?=some e.2.kids[x.toNat]:=List.getElem?_eq_getElem (by omega);have sd:=Ab.kids _ (List.getElem_mem (show x.toNat<e.2.kids.length by omega));have yb:((e.2.kids.take x.toNat).foldl (mh q) (iN blt bo.heap)).length<10000000:=by have h1:=(foldl_add (q:=q) (e.2.kids.take x.toNat) _ da).2.length_eq;rw[List.length_append,List.length_map,List.length_take] at h1;omega
   refine⟨a,ap,⟨b0,I⟩,_,E,.inl ⟨_,_,_,rfl,fg UH,abx xX yb (each _ _ _ (List.getElem?_eq_getElem gm) cB) sd.jC ay MN Qc λu' gv=>⟨⟨by omega,by omega⟩,⟨by omega,by omega,?_⟩,by dsimp only;omega⟩⟩⟩;rw[show(x+1).toNat=x.toNat+1 by omega,List.take_add_one,cB,List.foldl_append];exact gv;rw[List.take_of_length_le (by omega)] at xX;have akt:(mF q b bo).heap=e.2.kids.foldl (mh q) (iN blt bo.heap):=by unfold mF;rw[C7]
   have A0:(mF q b bo).seen=bo.seen++e.2.rows.take (b-bo.seen.length).toNat:=by unfold mF;rw[C7]
   have IW:(mF q b bo).rest=if(e.2.rows.length:Int)<=b-bo.seen.length then bo.rest else bo.rest++ [(e.2,e.2.rows.drop (b-bo.seen.length).toNat)]:=by unfold mF;rw[C7]
   rw[<-akt] at xX;refine⟨_,rfl,rs,aV (xX.le _ _ cell) 6,λx uc y5 FN z=>0<=x/\x<=rs.n/\uc=⟨none,0,0⟩/\FN=qn/\bo.seen.length+x<=b/\∃zL,ha v z ck n6 k zL (mF q b bo).heap ((bo.seen++e.2.rows.take x.toNat).map (·.1)) y5 qn R/\zL.Perm ((bo.seen++e.2.rows.take x.toNat).map (ww q)),
    λx _ _ _ _=>((rs.n:Int)-x).toNat,⟨by omega,by omega,rfl,rfl,by have:=qb.iH;omega,S,by simpa using xX,by simpa using aW⟩,?_⟩
   clear b0 cJ I xX x z;rintro x uc y5 FN z ⟨b0,cJ,ahk,ahl,axU,zL,pT,Ie⟩;obtain rfl:uc=⟨none,0,0⟩:=ahk;obtain rfl:FN=qn:=ahl;have awI:y5.n=bo.seen.length+min x.toNat e.2.rows.length:=by have h:=pT.seen.ints.len;rw[List.length_map,List.length_append,List.length_take] at h;exact h
   refine⟨λI=>?_,λI=>?_⟩;obtain⟨pp,lT,r,W,c0,c1,c2⟩:=(at'.mono pT.le).at b0 I;have Ev:e.2.rows[x.toNat]?=some r.bV:=by rw[<-bV,List.getElem?_map,W];rfl
   have akb:r.bV∈bf.hV P:=qb.perm.mem_iff.1 (List.mem_append_right _ (List.mem_append_right _ (List.mem_flatMap.2 ⟨e,mo,by rw[bf.all_eq];exact List.mem_append_left _ (List.mem_of_getElem? Ev)⟩)));obtain⟨aoa,aob⟩:=oz _ akb;have axq:(r.v.length:Int)=q.length:=aoa;have aoc:ej r.v:=aob;refine⟨pp,lT,⟨b0,I⟩,_,c0,_,c1,λaid=>?_,λaid=>?_⟩;have E:=pT.le _ _ cell;obtain⟨Q4,OV⟩:=aag Ab.jC;have Of:(b-bo.seen.length).toNat=x.toNat:=by omega
   have r2:¬(e.2.rows.length:Int)<=b-bo.seen.length:=by omega
   rw[if_neg r2,Of] at IW;rw[Of] at A0;have AU:=(at'.mono pT.le).part (l:=x.toNat) (h:=rs.n) (m:=rs.c) (by omega) (Nat.le_refl _) at'.1.cap (Nat.le_refl _);have nK:(rows.drop x.toNat).take (rs.n-x.toNat)=rows.drop x.toNat:=List.take_of_length_le (by rw[List.length_drop];omega);rw[nK] at AU;have iS:dM ((rows.drop x.toNat).map (·.id))=dM ((e.2.rows.drop x.toNat).map (·.1)):=by rw[<-bV,<-List.map_drop,List.map_map];rfl
   refine⟨_,rfl,_,rfl,_,aV E 0,ls,aV E 1,eT,aV E 2,_,aV E 3,_,aV E 4,is,aV E 5,rs,aV E 6,
    oM nV (l:=x.toNat) (h:=rs.n) (m:=rs.c) (.inr (by rw[Int.toNat_of_nonneg b0])) (.inl ⟨rfl,rfl⟩) (.inl ⟨rfl,rfl⟩) (by omega) at'.1.cap (Nat.le_refl _) at'.1.cap ⟨H.le.refl _,
    aba (bz.mono pT.le) (hi.mono pT.le) AU Q4 OV (by rw[List.length_drop];omega) λa xu c kZ ng re Rn f1 f2 f3=>⟨ng.le,?_⟩⟩⟩
   have:=acO (r:=⟨e.2.ax,a,xu,e.2.ch,c,e.2.bz,e.2.hi,dM ((rows.drop x.toNat).map (·.id))⟩) pT ng.le ⟨ng,re,Rn⟩ f1 f2 f3 (by rw[N2,akd];simp)
    (K:=λ(J1:J) (sM:H)=>(∃f,At v sM ck n6 k b q P f ⟨none,0,0⟩ y5 J1)/\(least λf=>At v sM ck n6 k b q P f ⟨none,0,0⟩ y5 J1)<least λf=>At v w ck n6 k b q P f ⟨none,0,0⟩ pw FN)
    λJ1 sM N7 _ _=>?_
   exact cx.Sj this λs1 v1 h=>⟨ng.le.trans h.1,h.2⟩;have Ds:At v sM ck n6 k b q P bl ⟨none,0,0⟩ y5 J1:=⟨rfl,mF q b bo,zL,_,by rw[A0];exact N7,by rw[A0];exact Ie,Yv,by rw[IW,List.map_append,List.map_append,b8];simp only[List.map_cons,List.map_nil,cc.core,mR,iS],Xq,X6,by omega⟩;exact⟨⟨bl,Ds⟩,Xy Ds⟩;refine⟨t,pT.le.cell MN,Ky c2 (Qc.mono pT.le) aoc (by have:=Ab.jC.ao;omega) ay (by omega) λacU acV Yx Yy hw=>⟨_,pT.le.cell MO,?_⟩⟩;have af6:acU=cK (ww q r.bV).2:=by show acU=cK (gS r.v q r.v.length);rw[<-hw,OW Yy]
   have Na:acV=cO (ww q r.bV).2:=by show acV=cO (gS r.v q r.v.length);rw[<-hw,Q5 Yy]
   rw[af6,Na];refine aqm (x:=ww q r.bV) pT cv cI λcF axA ah4=>auL ah4 (by rw[List.length_map,List.length_append,List.length_take];omega) λs' axB ah5=>⟨⟨by omega,by omega⟩,⟨by omega,by omega,rfl,rfl,by omega,ww q r.bV::zL,?_,?_⟩,by dsimp only;omega⟩;have Ae:e.2.rows.take (x+1).toNat=e.2.rows.take x.toNat++ [r.bV]:=by rw[show(x+1).toNat=x.toNat+1 by omega,List.take_add_one,Ev];rfl
   rw[Ae,<-List.append_assoc,List.map_append];exact ah5;have Ae:e.2.rows.take (x+1).toNat=e.2.rows.take x.toNat++ [r.bV]:=by rw[show(x+1).toNat=x.toNat+1 by omega,List.take_add_one,Ev];rfl
   rw[Ae,<-List.append_assoc,List.map_append];exact(List.Perm.cons _ Ie).trans (List.perm_append_singleton _ _).symm;have AA:(e.2.rows.length:Int)<=b-bo.seen.length:=by omega
   rw[if_pos AA] at IW;rw[List.take_of_length_le (by omega)] at pT Ie;rw[List.take_of_length_le (by omega)] at A0;have Ds:At v z ck n6 k b q P bl ⟨none,0,0⟩ y5 FN:=⟨rfl,mF q b bo,zL,R,by rw[A0];exact pT,by rw[A0];exact Ie,Yv,by rw[IW];exact b8,Xq,X6,by omega⟩;exact⟨⟨bl,Ds⟩,Xy Ds⟩
  have ah:=N.1;have:=List.length_pos_iff.2 ah;omega
end
namespace pO
theorem l1{α:Type}:∀{a b:List α},a.Nodup->(∀x∈a,x∈b)->a.length<=b.length/\(b.length<=a.length->a.Perm b)
 | [],b,_,_=>⟨Nat.zero_le _,λh=>by
  simp_all⟩|x::a,b,ac,hs=>by
  obtain⟨s,t,rfl⟩:=List.append_of_mem (hs x (List.mem_cons_self ..));rw[List.nodup_cons] at ac;have eT:∀y∈a,y∈s++t:=λy af=>by
   grind
  obtain⟨h1,h2⟩:=l1 ac.2 eT;rw[List.length_append] at h1 h2;refine⟨by simp;omega,λai=>?_⟩;have:=h2 (by simp at ai;omega);exact(List.Perm.cons x this).trans List.perm_middle.symm
def sy{α β:Type}{f:α->β}:∀{l:List α},(l.map f).Nodup->l.Nodup
 | [],_=>.nil|x::l,h=>by rw[List.map_cons,List.nodup_cons] at h;rw[List.nodup_cons];exact⟨λI=>h.1 (List.mem_map_of_mem I),sy h.2⟩
def parts(X:ak):List bf:=(X.root.map aq.br).toList
def Ta(X:ak)(q:List Int)(k aQ:Int):ke:=l9 q k aQ (parts X)
def kO(X:ak)(q:List Int)(k aQ:Int):List bk:=ue q k (Ta X q k aQ)
def h5(X:ak)(q:List Int)(k aQ:Int):List Int:=dM ((Ta X q k aQ).seen.map (·.1))
def nc(X:ak)(q:List Int)(k aQ:Int):List (Int×Int×List Int×List Int×List Int):=(lo (Ta X q k aQ)).map mR
def yY(X:ak):bf.hV (parts X)=l4 X:=by
 unfold parts l4;cases X.root with
 |none=>rfl|some n=>show n.br.all++ []=_;rw[List.append_nil]
def SJ:iG Tryz.prog 334=some (236,1,8,[.pointer none]):=by kernel_rfl
def MK(n:Nat):hF Tryz.prog 334 1 #[(0,.pointer (some ⟨n,0,none⟩))]=some (236,[.pointer (some ⟨n,0,none⟩)]):=by kernel_rfl
theorem Kk{Y u:H}{ab:Nat->Option aN}{b:Nat}{T:ak}{t:J}{q:List Int}{k aQ:Int}{K:J->J->J->Int->H->Prop}(h:In Y u ab b T)(aJ:dj T)(kL:T.ez<=2700)(ht:Ints u t q)
  (dT:iE q T.ao k aQ≠0->K ⟨none,0,0⟩ ⟨none,0,0⟩ ⟨none,0,0⟩ (iE q T.ao k aQ) u)
  (bL:iE q T.ao k aQ=0->∀ax ss a7 rest u',kb u u' ax ss a7 (kO T q k aQ) (h5 T q k aQ) rest->rest.map cc.core=nc T q k aQ->K ax ss a7 0 u'):Ua (some ⟨b,0,none⟩) t k aQ u K:=by
 apply aui
 refine⟨λe=>(by cases e),λ_=>⟨_,rfl,_,aV h.az.cell 0,Sr ht ⟨λah=>dT ah,λhe=>?_⟩⟩⟩
 obtain⟨av,cv,cI,fJ,eQ⟩:=CR.1 he
 obtain⟨_,_,Es,Qp⟩:=rz av
 have bL:=bL he
 have wg:(bf.hV (parts T)).length<=100000:=by rw[yY,aJ.rows.length_eq];have:=aJ.small;simp[b7];omega
 have oz:∀x∈bf.hV (parts T),(x.2.length:Int)=q.length/\ej x.2:=λx I=>by
  rw[yY] at I;obtain⟨e,eY,rfl⟩:=List.mem_map.1 (aJ.rows.mem_iff.1 I);obtain⟨v1,v2⟩:=aJ.vec e eY
  grind
 have cA:bf.fu (parts T)<=4000000:=by
  unfold parts;cases W:T.root with
  |none=>show 0<=_;omega|some n=>have:=aJ.size n W;show n.br.size+0<=_;rw[aq.BJ];omega
 have PI:∀p∈parts T,fp q.length p:=λp aa=>by
  unfold parts at aa;cases W:T.root with
  |none=>rw[W] at aa;cases aa
  |some n=>
   rw[W] at aa;obtain rfl:p=n.br:=by simpa using aa
   rw[Es];exact aJ.ok n W
 have walk:∀(s:J) (ms:List Nat) (z:H),u.le z->bb z s 1 (ms.map λn=>.pointer (some ⟨n,0,none⟩))->ms.length=(parts T).length->(∀(i:Nat) m p,ms[i]?=some m->(parts T)[i]?=some p->k4 z m p)->zt s t k aQ z (λBS sG ft qs=>K BS sG ft 0 qs):=by intro s ms z aP hs hlen aa;refine aa9 hs hlen aa PI (ht.mono aP) Qp cv cI fJ eQ cA wg oz λax ss a7 R u' ap DK=>bL ax ss a7 R u' ?_ DK;exact⟨ap.h.weaken aP,ap.s.weaken aP,ap.r.weaken aP,λr W=>⟨(ap.g r W).l.weaken aP,(ap.g r W).h.weaken aP,(ap.g r W).i.weaken aP⟩,ap.eR⟩
 obtain⟨vl,tH⟩:∃vl:Option Addr,vl=T.root.map λn=>⟨n.b,0,none⟩:=⟨_,rfl⟩
 have s8:u.cell? ((Addr.mk b 0 none).add 3)=some (.pointer vl):=by rw[tH];exact aV h.az.cell 3
 refine⟨_,rfl,vl,s8,λmn=>?_,λah=>⟨_,rfl,vl,s8,?_⟩⟩
 cases W:T.root with
 |some n=>rw[W] at tH;rw[mn] at tH;cases tH
 |none=>exact walk ⟨none,0,0⟩ [] u (H.le.refl u) ⟨rfl,Nat.le_refl _,by decide,.inl rfl⟩ (by unfold parts;rw[W];rfl) λi m p hm=>by simp at hm
 cases W:T.root with
 |none=>rw[W] at tH;exact absurd tH ah
 |some n=>
  rw[W] at tH;rw[show vl=some ⟨n.b,0,none⟩ from tH];refine nU (MK n.b) λg N=>?_;obtain⟨cC,_⟩:=h.az.one n W;have b9:=bN (u:=u) (b:=g) (.cells [Value.pointer (some ⟨n.b,0,none⟩)].toArray 236 (0,0)) N;have mk:=aE.make (k:=1) (H.le.refl u) N (cells:=[Value.pointer (some ⟨n.b,0,none⟩)].toArray) (e:=236) (n:=1) (by omega) rfl;refine walk _ [n.b] _ b9 mk.own.bR (by unfold parts;rw[W];rfl) λi m p hm aa=>?_;have hi:i=0:=by grind
  subst hi;obtain rfl:n.b=m:=Option.some.inj hm;have ji:p=n.br:=by unfold parts at aa;rw[W] at aa;exact(Option.some.inj aa).symm
  rw[ji];exact(uv.part cC).mono b9
def abY{X:ak}(h:dj X){q:List Int}{k aQ:Int}(hk:1<=k)(Z:0<=aQ)(aj:(q.length:Int)=X.ao){L:List aT}(cE:(L.map aT.bV).Perm (b7 X))(ay:jH L q){rest:List cc}(W:rest.map cc.core=nc X q k aQ):
  Sound L q k (kO X q k aQ) (h5 X q k aQ) rest/\((h5 X q k aQ).length:Int)<=aQ/\(((h5 X q k aQ).length:Int)=aQ∨(h5 X q k aQ).length=L.length∨oT q k (kO X q k aQ) rest):=by
 refine acM Z hk (λp aa=>?_) ay ?_ W
 unfold parts at aa
 cases ek:X.root with
 |none=>rw[ek] at aa;cases aa
 |some n=>
  rw[ek] at aa;obtain rfl:p=n.br:=by simpa using aa
  rw[aj];exact h.ok n ek
 rw[yY]
 exact cE.trans h.rows.symm
end pO
section
variable{Y u:H}{s:J}{cs:List (J×List Int)}{i:Nat}
structure mg(Y u:H)(s:J)(cs:List (J×List Int)):Prop where
 own:aE Y u 23 1 s (cs.flatMap λc=>encS c.1)
 inner:∀c∈cs,aE Y u 3 1 c.1 (c.2.flatMap encI)
 eR:∀c∈cs,eP s c.1
 apart:cs.Pairwise λa b=>eP a.1 b.1
def mg.auD(h:mg Y u s cs):uz u s cs:=⟨h.own.own.bR,λc E=>(h.inner c E).ints⟩
def mg.mono{u':H}(h:mg Y u s cs)(k:u.le u'):mg Y u' s cs:=⟨h.own.mono k,λc E=>(h.inner c E).mono k,h.eR,h.apart⟩
def mg.weaken{aI:H}(h:mg aI u s cs)(k:Y.le aI):mg Y u s cs:=⟨h.own.weaken k,λc E=>(h.inner c E).weaken k,h.eR,h.apart⟩
def mg.len(h:mg Y u s cs):s.n=cs.length:=h.auD.len
def mg.else{u':H}{t:J}(h:mg Y u s cs)(he:e8 u u' t)(ht:∀g,t.ad=some g->Y g=none)(h1:eP t s)(h2:∀c∈cs,eP t c.1):mg Y u' s cs:=
 ⟨aE.else h.own he ht h1,λc E=>aE.else (h.inner c E) he ht (h2 c E),h.eR,h.apart⟩
def mg.none{k:Nat}(h:aE Y u 23 1 s ((List.replicate k ((⟨none,0,0⟩:J),([]:List Int))).flatMap λc=>encS c.1)):mg Y u s (List.replicate k (⟨none,0,0⟩,[])):=by refine⟨h,λc E=>?_,λc E=>?_,?_⟩;rw[(List.mem_replicate.1 E).2];exact aE.nil h.le _ _;rw[(List.mem_replicate.1 E).2];intro g _ N;simp[J.ad] at N;rw[List.pairwise_replicate];exact .inr λg N=>by simp[J.ad] at N
def anb{α:Type}{R:α->α->Prop}{l:List α}(h:l.Pairwise R)(hs:∀a b,R a b->R b a){y:α}(af:∀j z,j≠i->l[j]?=some z->R z y):(l.set i y).Pairwise R:=by rw[List.pairwise_iff_getElem];intro a b ap Z Aw;rw[List.length_set] at ap Z;rw[List.getElem_set,List.getElem_set];split;rename_i e;split;omega;rename_i ar;exact hs _ _ (af b _ (Ne.symm ar) (List.getElem?_eq_getElem Z));rename_i e;split;exact af a _ (Ne.symm e) (List.getElem?_eq_getElem ap);exact List.pairwise_iff_getElem.1 h a b ap Z Aw
def mem_set{α:Type}{l:List α}{y z:α}(h:z∈l.set i y):z=y∨∃j,j≠i/\l[j]?=some z:=by obtain⟨j,aH,rfl⟩:=List.getElem_of_mem h;rw[List.length_set] at aH;rw[List.getElem_set];split;exact .inl rfl;rename_i e;exact .inr ⟨j,Ne.symm e,List.getElem?_eq_getElem aH⟩
def mg.put{aI:H}{t:J}{v:List Int}(h:mg Y u s cs)(ht:aE u aI 3 1 t (v.flatMap encI))(hi:i<cs.length){p:Addr}(aa:s.a=some p){f:H->Prop}
  (M:∀u',mg Y u' s (cs.set i (t,v))->e8 aI u' s->f u'):H.an aI (p.add (i*1)) [.slice t.a t.n t.c] f:=by
 have h1:=h.mono ht.le
 have p8:Y.le u:=h.own.le
 have Nq:∀{e k:Nat} {x:J} {xs:List Value},aE Y u e k x xs->eP x t:=λI=>aE.eR I (H.le.refl u) ht
 refine aE.store (enc:=λc:J×List Int=>encS c.1) Ni h1.own (by decide) (i:=i) hi (y:=(t,v)) (by simp[encS,Value.oneCell']) aa λu' U he _=>M u' ⟨U,λz aP=>?_,λz aP=>?_,?_⟩ he
 rcases mem_set aP with rfl|⟨k,hk,aP⟩
 exact aE.else (ht.weaken p8) he h.own.fresh (Nq h.own)
 exact aE.else (h1.inner z (List.mem_of_getElem? aP)) he h.own.fresh (h.eR z (List.mem_of_getElem? aP))
 rcases mem_set aP with rfl|⟨k,hk,aP⟩
 exact Nq h.own
 exact h.eR z (List.mem_of_getElem? aP)
 exact anb h.apart (λa b h=>h.symm) λk z hk aP=>Nq (h.inner z (List.mem_of_getElem? aP))
end
namespace ns
section
variable{u u' Y:H}
open pO (du od l1 sy gJ rZ)
abbrev dn:=List (Int×(J×List Int))
def sI(w:dn)(id:Int)(x:J×List Int):dn:=if id∈w.map (·.1) then w.map (λp=>if p.1=id then(id,x) else p) else w++ [(id,x)]
def Nj(w:dn):(du w).map (·.1)=w.map (·.1):=by unfold du;rw[List.map_map];rfl
def agj(w:dn)(id:Int)(s:J)(v:List Int):Bu (du w) id (.slice s.a s.n s.c)=du (sI w id (s,v)):=by unfold Bu sI;rw[Nj];split;unfold du;rw[List.map_map,List.map_map];refine List.map_congr_left λp _=>?_;simp only[Function.comp];by_cases e:p.1=id;rw[if_pos e,if_pos e];rw[if_neg e,if_neg e];unfold du;rw[List.map_append];rfl
def Sh{w:dn}{id:Int}{x:J×List Int}{e:Int×(J×List Int)}(h:e∈sI w id x):e=(id,x)∨(e∈w/\e.1≠id):=by unfold sI at h;split at h;obtain⟨p,aa,rfl⟩:=List.mem_map.1 h;by_cases e:p.1=id;rw[if_pos e];exact .inl rfl;rw[if_neg e];exact .inr ⟨aa,e⟩;rename_i ac;rcases List.mem_append.1 h with h|h;exact .inr ⟨h,λe=>ac (List.mem_map.2 ⟨_,h,e⟩)⟩;exact .inl (List.mem_singleton.1 h)
def aaM(w:dn)(id:Int)(x:J×List Int):(id∈w.map (·.1)->(sI w id x).length=w.length)/\(id∉w.map (·.1)->(sI w id x).length=w.length+1):=by unfold sI;exact⟨λh=>by rw[if_pos h,List.length_map],λh=>by rw[if_neg h,List.length_append];rfl⟩
def VL{w:dn}{id:Int}(h:id∉w.map (·.1)):w.filter (λe=>e.1 !=id)=w:=List.filter_eq_self.2 λq ay=>by have:q.1≠id:=λe=>h (List.mem_map.2 ⟨q,ay,e⟩);simpa using this
def aoI{id:Int}{x:J×List Int}:∀{w:dn},(w.map (·.1)).Nodup->(sI w id x).Perm ((id,x)::w.filter λe=>e.1 !=id):=by
 intro w ac;unfold sI;split;rename_i cr;induction w with
 |nil=>cases cr
 |cons p w aG=>
  have h3:=List.nodup_cons.1 ac;rw[List.map_cons];by_cases e:p.1=id;have p3:id∉w.map (·.1):=by rw[<-e];exact h3.1
  have:w.map (λp=>if p.1=id then(id,x) else p)=w.map _root_.id:=List.map_congr_left λq ay=>by have:q.1≠id:=λe=>p3 (List.mem_map.2 ⟨q,ay,e⟩);rw[if_neg this];rfl
  rw[if_pos e,this,List.map_id,List.filter_cons_of_neg (by simpa using e),VL p3];rw[if_neg e,List.filter_cons_of_pos (by simpa using e)];have pe:id∈w.map (·.1):=(List.mem_cons.1 (by rw[<-List.map_cons];exact cr)).resolve_left λh=>e h.symm;exact(List.Perm.cons p (aG h3.2 pe)).trans (List.Perm.swap _ _ _)
 rename_i cr;rw[VL cr];exact List.perm_append_singleton _ _
inductive aN where
 |obj|map|vec|code
structure zB where
 b:Nat
 ga:J
 jt:List (J×List (J×List Int))
structure qv where
 JB:Nat
 acN:dn
 co:Option zB
structure ak where
 ao:Int
 m:Nat
 w:dn
 s7:Option qv
def qv.ptr(c:qv):Option Addr:=c.co.map λk=>⟨k.b,0,none⟩
def ak.obj(T:ak):Obj:=match T.s7 with
 |none=>.cells #[.int .i64 T.ao,.map (some T.m)] 167 (0,0)|some c=>.cells #[.int .i64 T.ao,.map (some T.m),.pointer c.ptr,.map (some c.JB)] 172 (0,0)
structure rD(ab:Nat->Option aN)(u:H)(d:Int)(k:zB):Prop where
 cell:u k.b=some (.cells #[.int .i64 d,.slice k.ga.a k.ga.n k.ga.c] 260 (0,0))
 gM:ab k.b=some .code
 bD:bb u k.ga 1 (k.jt.flatMap λc=>encS c.1)
 dZ:∀g,k.ga.ad=some g->ab g=some .code
 CV:∀c∈k.jt,uz u c.1 c.2
 eh:∀c∈k.jt,(∀g,c.1.ad=some g->ab g=some .code)/\∀x∈c.2,∀g,x.1.ad=some g->ab g=some .code
def rD.bd{ab aM:Nat->Option aN}{d:Int}{k:zB}(h:rD ab u d k)(M:∀c,ab c=some .code->aM c=some .code)(hu:∀c o,u c=some o->ab c=some .code->u' c=some o):rD aM u' d k where
 cell:=hu _ _ h.cell h.gM
 gM:=M _ h.gM
 bD:=bb.else h.bD λg o N U=>hu g o U (h.dZ g N)
 dZ g N:=M _ (h.dZ g N)
 CV c E:=⟨bb.else (h.CV c E).bR λg o N U=>hu g o U ((h.eh c E).1 g N),λx I=>bb.else ((h.CV c E).ints x I) λg o N U=>hu g o U ((h.eh c E).2 x I g N)⟩
 eh c E:=⟨λg N=>M _ ((h.eh c E).1 g N),λx I g N=>M _ ((h.eh c E).2 x I g N)⟩
def zO(ab:Nat->Option aN)(u:H)(w:dn):Prop:=∀e∈w,Ints u e.2.1 e.2.2/\∀g,e.2.1.ad=some g->ab g=some .vec
def zO.bd{ab aM:Nat->Option aN}{w:dn}(h:zO ab u w)(M:∀c,ab c=some .vec->aM c=some .vec)(hu:∀c o,u c=some o->ab c=some .vec->u' c=some o):zO aM u' w:=λe he=>
 ⟨bb.else (h e he).1 λg o N U=>hu g o U ((h e he).2 g N),λg N=>M g ((h e he).2 g N)⟩
structure GY(ab:Nat->Option aN)(u:H)(d:Int)(m:Nat)(c:qv):Prop where
 map:dI u c.JB (du c.acN)
 dq:ab c.JB=some .map
 ne:c.JB≠m
 vec:zO ab u c.acN
 co:∀k,c.co=some k->rD ab u d k
structure cP(ab:Nat->Option aN)(u:H)(b:Nat)(T:ak):Prop where
 cell:u b=some T.obj
 eh:ab b=some .obj
 map:dI u T.m (du T.w)
 dq:ab T.m=some .map
 vec:zO ab u T.w
 MX:∀c,T.s7=some c->GY ab u T.ao T.m c
def GY.bd{ab aM:Nat->Option aN}{d:Int}{m:Nat}{c:qv}(h:GY ab u d m c)(M:∀c,ab c≠none->aM c=ab c)(hu:∀c o,u c=some o->ab c≠none->u' c=some o):GY aM u' d m c where
 map:=h.map.else λo U=>hu _ _ U (by rw[h.dq];simp)
 dq:=by rw[M _ (by rw[h.dq];simp)];exact h.dq
 ne:=h.ne
 vec:=h.vec.bd (λc E=>by rw[M _ (by rw[E];simp)];exact E) λc o E ht=>hu c o E (by rw[ht];simp)
 co k hk:=(h.co k hk).bd (λc E=>by rw[M _ (by rw[E];simp)];exact E) λc o E ht=>hu c o E (by rw[ht];simp)
def cP.bd{ab aM:Nat->Option aN}{b:Nat}{T:ak}(h:cP ab u b T)(M:∀c,ab c≠none->aM c=ab c)(hu:∀c o,u c=some o->ab c≠none->u' c=some o):cP aM u' b T where
 cell:=hu _ _ h.cell (by rw[h.eh];simp)
 eh:=by rw[M _ (by rw[h.eh];simp)];exact h.eh
 map:=h.map.else λo U=>hu _ _ U (by rw[h.dq];simp)
 dq:=by rw[M _ (by rw[h.dq];simp)];exact h.dq
 vec:=h.vec.bd (λc E=>by rw[M _ (by rw[E];simp)];exact E) λc o E ht=>hu c o E (by rw[ht];simp)
 MX c E:=(h.MX c E).bd M hu
def bd:rG cP:=⟨λh M hu=>h.bd M hu⟩
abbrev In:=jT cP
def b7(X:ak):List (Int×List Int):=X.w.map λe=>(e.1,e.2.2)
structure ac6(d:Int)(jt:List (J×List (J×List Int))):Prop where
 many:1<=jt.length/\jt.length<=8
 Vl:∃n:Nat,1<=n/\((jt.length*n:Nat):Int)=d/\∀c∈jt,adJ c.2 n
structure dj(T:ak):Prop where
 ii:1<=T.ao/\T.ao<=64
 ids:∀e∈T.w,1<=e.1/\e.1<=1000000000
 vec:∀e∈T.w,(e.2.2.length:Int)=T.ao/\ej e.2.2
 small:T.w.length<=512
 CV:∀c k,T.s7=some c->c.co=some k->ac6 T.ao k.jt
def cP.zk{ab:Nat->Option aN}{b:Nat}{T:ak}(h:cP ab u b T):(T.w.map (·.1)).Nodup:=by obtain⟨es,cl,_,he⟩:=h.map;have:=he.nodup;rw[Nj] at this;exact this
def vd(T:ak):(b7 T).map (·.1)=T.w.map (·.1):=by unfold b7;rw[List.map_map];rfl
def ak.c0{b:Nat}{T:ak}(h:u b=some T.obj):u.cell? ⟨b,0,none⟩=some (.int .i64 T.ao):=by
 unfold ak.obj at h;cases e:T.s7 with
 |none=>rw[e] at h;exact aV h 0|some c=>rw[e] at h;exact aV h 0
def ak.c1{b:Nat}{T:ak}(h:u b=some T.obj):u.cell? ((Addr.mk b 0 none).add 1)=some (.map (some T.m)):=by
 unfold ak.obj at h;cases e:T.s7 with
 |none=>rw[e] at h;exact aV h 1|some c=>rw[e] at h;exact aV h 1
def Ki{ab:Nat->Option aN}{b:Nat}{T:ak}{K:Int->H->Prop}(h:In Y u ab b T)(ae:K (b7 T).length u):Ts (some ⟨b,0,none⟩) u K:=by apply arz;refine⟨_,rfl,_,ak.c1 h.az.cell,sH gJ h.az.map ?_⟩;rw[show(du T.w).length=(b7 T).length by simp[du,b7]];exact ae
def gu.map{ab:Nat->Option aN}{m:Nat}(hm:ab m=some .map)(o:Obj):gu u ab (u.ins m o) ab:=
 ⟨λc bn E M=>by rw[aL _ _ λe=>by rw[e,hm] at M;cases M];exact E,λ_ h=>.inl h⟩
def In.ins{ab:Nat->Option aN}{b:Nat}{T T':ak}{m:Nat}{o:Obj}(h:In Y u ab b T)(hm:ab m≠none)(ht:cP ab (u.ins m o) b T'):In Y (u.ins m o) ab b T':=
 ⟨ht,λc bn E=>by rw[aL _ _ λe=>by rw[e,h.out m hm] at E;cases E];exact h.le c bn E,h.out,λc E=>by by_cases e:c=m;rw[e,aS];simp;rw[aL _ _ e];exact h.known c E⟩
structure xl(Y u:H)(ab:Nat->Option aN)(b:Nat)(T:ak)(id:Int)(u':H)(T':ak):Prop where
 is:In Y u' ab b T'
 cL:gu u ab u' ab
 ok:dj T'
 rows:b7 T'=(b7 T).filter λx=>x.1 !=id
 ao:T'.ao=T.ao
 s7:T'.s7=T.s7
def vt{ab:Nat->Option aN}{b:Nat}{T:ak}{id:Int}{K:Bool->Int->H->Prop}(h:In Y u ab b T)(aJ:dj T)(dp:id∉T.w.map (·.1)->K false 0 u)
  (jM:id∈T.w.map (·.1)->∀u' T',xl Y u ab b T id u' T'->K true 0 u'):Tr (some ⟨b,0,none⟩) id u K:=by
 have az:=h.az
 have AK:ab T.m≠none:=by rw[az.dq];simp
 apply ary
 rcases od T.w id with⟨N,hm⟩|⟨e,he,hid,N⟩
 refine⟨_,rfl,_,ak.c1 az.cell,mE gJ az.map (ct:=.slice) (⟨none,0,0⟩:J) (by rw[N];rfl) ⟨_,rfl,_,ak.c1 az.cell,aov gJ az.map N ?_⟩⟩
 rw[N]
 exact dp hm
 refine⟨_,rfl,_,ak.c1 az.cell,mE gJ az.map (ct:=.slice) e.2.1 (by rw[N];rfl) ⟨_,rfl,_,ak.c1 az.cell,?_⟩⟩
 rw[N]
 refine B0 gJ az.map λo kp=>jM (List.mem_map.2 ⟨e,he,hid⟩) _ {T with w:=T.w.filter λe=>e.1 !=id} ⟨h.ins AK ?_,gu.map az.dq o,⟨aJ.ii,λe he=>aJ.ids e (List.mem_filter.1 he).1,λe he=>aJ.vec e (List.mem_filter.1 he).1,Nat.le_trans (List.length_filter_le _ _) aJ.small,aJ.CV⟩,?_,rfl,rfl⟩
 have eA:∀{c bn},u c=some bn->c≠T.m->(u.ins T.m o) c=some bn:=λE ah=>by rw[aL _ _ ah];exact E
 have KO:∀{c t},ab c=some t->t≠.map->c≠T.m:=λE ht e=>by rw[e,az.dq] at E;exact ht (Option.some.inj E).symm
 refine⟨eA az.cell (KO az.eh (by simp)),az.eh,?_,az.dq,?_,λc E=>?_⟩
 rw[rZ] at kp
 exact kp
 have h1:zO ab (u.ins T.m o) T.w:=az.vec.bd (λ_ h=>h) λc bn E ht=>eA E (KO ht (by simp))
 exact λe he=>h1 e (List.mem_filter.1 he).1
 have e2:=az.MX c E
 exact⟨e2.map.else λbn U=>eA U e2.ne,e2.dq,e2.ne,e2.vec.bd (λ_ h=>h) λc bn E ht=>eA E (KO ht (by simp)),λk hk=>(e2.co k hk).bd (λ_ h=>h) λc bn E ht=>eA E (KO ht (by simp))⟩
 show(T.w.filter _).map _=(T.w.map _).filter _
 rw[List.filter_map]
 rfl
def Kj{ab:Nat->Option aN}{b:Nat}{T:ak}{K:J->H->Prop}(h:In Y u ab b T)(aJ:dj T)(ae:∀s ls u',rJ u u' s ls->(ls.map aT.bV).Perm (b7 T)->(ls.Pairwise λa b=>a.id<=b.id)->K s u'):
  Tt (some ⟨b,0,none⟩) u K:=by
 have fc:=aJ.small
 apply arA
 refine⟨_,rfl,_,ak.c1 h.az.cell,B1 gJ h.az.map λr o W r9=>?_⟩
 have jN:=bN (u:=u) (b:=r) o W
 refine⟨λs w=>∃rw:List aT,jU w r T.m (du T.w) (rw.map λx=>(x.id,.slice x.s.a x.s.n x.s.c))/\aE u w 34 2 s (rw.flatMap cG)/\s.ad≠some r/\∀x∈rw,(x.id,(x.s,x.v))∈T.w,λs _=>1000000-s.n,
  ⟨[],r9,aE.nil jN _ _,by simp[J.ad],λx I=>(by cases I)⟩,?_⟩
 rintro s w ⟨rw,gh,U,yv,oA⟩
 have cY:s.n=rw.length:=fx fh (by decide) U.own.bR
 have qY:rw.length<=512:=by have h2:=gh.z7;rw[List.map_map] at h2;have h3:(rw.map (·.id)).length<=(T.w.map (·.1)).length:=(l1 h2 λx I=>by obtain⟨y,af,rfl⟩:=List.mem_map.1 I;exact List.mem_map.2 ⟨_,oA y af,rfl⟩).1;rw[List.length_map,List.length_map] at h3;omega
 refine BC gh (λjj=>?_) λp fq aa pk nD=>?_
 have b8:ev w s rw:=⟨U.own.bR,λx I=>((h.az.vec _ (oA x I)).1).mono U.le⟩
 have wG:(rw.map aT.bV).Perm (b7 T):=by
  have bX:=gh.z7;rw[List.map_map] at bX;have hlen:=jj.length_eq;simp only[List.length_map,du] at hlen;have gH:∀x∈rw.map aT.bV,x∈b7 T:=λx I=>by obtain⟨y,af,rfl⟩:=List.mem_map.1 I;exact List.mem_map.2 ⟨_,oA y af,rfl⟩
  have pj:(rw.map aT.bV).Nodup:=by have:(rw.map (·.id)).Nodup:=bX;rw[show rw.map (·.id)=(rw.map aT.bV).map (·.1) by rw[List.map_map];rfl] at this;exact sy this
  exact(l1 pj gH).2 (by simp[b7];omega)
 refine Kr b8 (λx I=>aJ.ids _ (oA x I)) (by omega) (λx I=>?_) λs2 ls bE og fD dh=>?_
 have k8:(x.v.length:Int)=T.ao:=(aJ.vec _ (oA x I)).1
 have:=aJ.ii
 omega
 exact ae s2 ls bE ⟨og.own.weaken U.le,λr W=>(og.inner r W).weaken U.le,og.eR,og.apart⟩ (fD.trans wG) dh
 obtain⟨e,he,PD⟩:=List.mem_map.1 aa
 subst PD
 refine C9 nD ?_
 have dD:aE u (w.ins r fq) 34 2 s (rw.flatMap cG):=U.ES W yv fq
 refine rn nV (CY e.1 e.2.1) (by decide) rfl (by simp[Value.oneCell']) dD (by show s.n<_;omega) (by show(s.n+1)*_<=_;omega) λs' u' bG im eY ee _=>⟨⟨rw++ [⟨e.1,e.2.1,e.2.2⟩],?_,?_,λar=>?_,λx I=>?_⟩,?_⟩
 rw[List.map_append]
 refine nD.else (λbn nG=>eY _ _ nG λcq=>?_) λbn nG=>eY _ _ nG yv
 have:=U.fresh _ cq
 exact h.known T.m (by rw[h.az.dq];simp) this
 rw[List.flatMap_append];exact bG
 rcases ee r ar with aZ|aZ
 exact yv aZ
 rw[aS] at aZ;cases aZ
 rcases List.mem_append.1 I with I|I
 exact oA x I
 obtain rfl:=List.mem_singleton.1 I
 exact he
 show 1000000-s'.n<1000000-s.n
 omega
end
end ns
namespace dn
structure vH(Y u:H)(D:Nat->Prop)(b d:Nat)(L:dy)(c:Int):Prop where
 ex:∃ab fd T,(∀x,D x↔own ab fd x)/\gr Y u ab fd b L T/\Ok L T c/\L.d=d/\L.bj≠[]
def vH.base{Y u:H}{D:Nat->Prop}{b d:Nat}{L:dy}{c:Int}(h:vH Y u D b d L c):Y.le u/\(∀x,D x->Y x=none)/\∀x,D x->u x≠none:=by obtain⟨ab,fd,T,h1,h2,_⟩:=h.ex;exact⟨h2.log.le,λx I=>((h1 x).1 I).elim (h2.log.out x) (h2.ki.out x),λx I=>((h1 x).1 I).elim (h2.log.known x) (h2.ki.known x)⟩
def vH.same{Y u u':H}{D:Nat->Prop}{b d:Nat}{L:dy}{c:Int}(h:vH Y u D b d L c)(hu:∀x o,u x=some o->D x->u' x=some o)(hle:Y.le u'):vH Y u' D b d L c:=by obtain⟨ab,fd,T,h1,h2,h3⟩:=h.ex;exact⟨ab,fd,T,h1,⟨h2.log.same bd (λx o I M=>hu x o I ((h1 x).2 (.inl M))) hle,h2.ki.same b1.bd (λx o I M=>hu x o I ((h1 x).2 (.inr M))) hle,h2.apart⟩,h3⟩
end dn
namespace an
section
variable{u Y:H}{b:Nat}
open pO (du od l1 sy gJ rZ)
inductive aN where
 |obj|map|vec|db|log
structure ak where
 ao:Int
 d:Nat
 lY:Nat
 m:Nat
 w:ns.dn
 first:Int
 safe:Int
 cs:J
def ak.obj(T:ak):Obj:=.cells #[.int .i64 T.ao,.pointer (some ⟨T.d,0,none⟩),.pointer (some ⟨T.lY,0,none⟩),.map (some T.m),.int .i64 T.first,.int .i64 T.safe,.slice T.cs.a T.cs.n T.cs.c] 143 (0,0)
def ak.c{T:ak}(h:u b=some T.obj)(i:Nat):u.cell? ⟨b,i,none⟩=(#[Value.int .i64 T.ao,.pointer (some ⟨T.d,0,none⟩),.pointer (some ⟨T.lY,0,none⟩),.map (some T.m),.int .i64 T.first,.int .i64 T.safe,.slice T.cs.a T.cs.n T.cs.c]:Array Value)[i]?:=aV h i
def rowsOf(T:ak):List (Int×List Int):=T.w.map λe=>(e.1,e.2.2)
structure At(Y u:H)(f:Nat->Option aN)(b:Nat)(T:ak)(L:dn.dy)(c:Int):Prop where
 own:pI Y u f
 cell:u b=some T.obj
 fU:f b=some .obj
 map:dI u T.m (du T.w)
 dq:f T.m=some .map
 vec:∀e∈T.w,Ints u e.2.1 e.2.2/\∀g,e.2.1.ad=some g->f g=some .vec
 db:∃vs,Own u 98 3 T.cs vs
 gM:∀g,T.cs.ad=some g->f g=some .db
 log:dn.vH Y u (part f .log) T.lY T.d L c
structure Ok(T:ak)(c:Int):Prop where
 ii:1<=T.ao/\T.ao<=64
 ids:∀e∈T.w,1<=e.1/\e.1<=1000000000
 vec:∀e∈T.w,(e.2.2.length:Int)=T.ao/\ej e.2.2
 small:T.w.length<=512
 first:0<=T.first/\T.first+T.cs.n<=c
def At.zk{f:Nat->Option aN}{T:ak}{L:dn.dy}{c:Int}(h:At Y u f b T L c):(T.w.map (·.1)).Nodup:=by obtain⟨es,cl,_,he⟩:=h.map;have:=he.nodup;rw[ns.Nj] at this;exact this
def At.mono{u':H}{f:Nat->Option aN}{T:ak}{L:dn.dy}{c:Int}(h:At Y u f b T L c)(ai:u.le u'):At Y u' f b T L c:=by obtain⟨vs,ll⟩:=h.db;exact⟨h.own.mono ai,ai _ _ h.cell,h.fU,h.map.mono ai,h.dq,λe he=>⟨((h.vec e he).1).mono ai,(h.vec e he).2⟩,⟨vs,ll.le λg o _ U=>ai _ _ U⟩,h.gM,h.log.same (λx o U _=>ai _ _ U) (h.own.le.trans ai)⟩
def E1(T:ak):(rowsOf T).map (·.1)=T.w.map (·.1):=by unfold rowsOf;rw[List.map_map];rfl
def At.cL{u':H}{f:Nat->Option aN}{T:ak}{L L':dn.dy}{c c':Int}{D':Nat->Prop}(h:At Y u f b T L c)(t:cD u (part f .log) u' D')(ai:dn.vH Y u' D' T.lY T.d L' c'):
  ∃bl,At Y u' bl b T L' c'/\cD u (λx=>f x≠none) u' λx=>bl x≠none:=by
 obtain⟨bl,p⟩:=BI h.own t ai.base.2.2
 have w9:∀{x j},j≠.log->f x=some j->bl x=some j:=λ{x j} aH I=>(congrFun (p.eA j aH) x).mpr I
 have kQ:∀{x o j},j≠.log->u x=some o->f x=some j->u' x=some o:=λaH U I=>p.bd _ _ U (by rw[I];exact λe=>aH (Option.some.inj e))
 obtain⟨vs,av⟩:=h.db
 refine⟨bl,⟨p.own,kQ (by simp) h.cell h.fU,w9 (by simp) h.fU,h.map.else λo U=>kQ (by simp) U h.dq,w9 (by simp) h.dq,λe he=>?_,⟨vs,av.le λg o N U=>kQ (by simp) U (h.gM g N)⟩,λg N=>w9 (by simp) (h.gM g N),by rw[p.is];exact ai⟩,p.cL⟩
 obtain⟨h1,h2⟩:=h.vec e he
 exact⟨bb.else h1 λg o N U=>kQ (by simp) U (h2 g N),λg N=>w9 (by simp) (h2 g N)⟩
def pI.put{τ:Type}{f:Nat->Option τ}{m:Nat}(h:pI Y u f)(hm:f m≠none)(o:Obj):pI Y (u.ins m o) f/\cD u (λx=>f x≠none) (u.ins m o) λx=>f x≠none:=by refine⟨⟨λc bn E=>?_,h.out,λc E=>?_⟩,λc bn E M=>?_,λc E=>.inl E⟩;rw[aL _ _ λe=>by rw[e,h.out m hm] at E;cases E];exact h.le c bn E;by_cases e:c=m;rw[e,aS];simp;rw[aL _ _ e];exact h.known c E;rw[aL _ _ λe=>M (by rw[e];exact hm)];exact E
def At.obj{f:Nat->Option aN}{T T':ak}{L:dn.dy}{c:Int}(h:At Y u f b T L c)(aO:T'.lY=T.lY)(ar:T'.d=T.d)(cq:T'.m=T.m)(eD:T'.w=T.w)(e6:T'.cs=T.cs):
  At Y (u.ins b T'.obj) f b T' L c/\cD u (λx=>f x≠none) (u.ins b T'.obj) λx=>f x≠none:=by
 obtain⟨fk,da⟩:=pI.put h.own (by rw[h.fU];simp) T'.obj
 have eA:∀{x o j},j≠.obj->u x=some o->f x=some j->(u.ins b T'.obj) x=some o:=λaH U I=>by rw[aL _ _ λe=>by rw[e,h.fU] at I;exact aH (Option.some.inj I).symm];exact U
 obtain⟨vs,av⟩:=h.db
 refine⟨⟨fk,aS _ _ _,h.fU,?_,by rw[cq];exact h.dq,?_,⟨vs,?_⟩,by rw[e6];exact h.gM,?_⟩,da⟩
 rw[cq,eD];exact h.map.else λo U=>eA (by simp) U h.dq
 rw[eD]
 intro e he
 obtain⟨h1,h2⟩:=h.vec e he
 exact⟨bb.else h1 λg o N U=>eA (by simp) U (h2 g N),h2⟩
 rw[e6];exact av.le λg o N U=>eA (by simp) U (h.gM g N)
 rw[aO,ar];exact h.log.same (λx o U I=>eA (by simp) U I) fk.le
def At.put{f:Nat->Option aN}{T:ak}{L:dn.dy}{c:Int}{o:Obj}{aw:ns.dn}{s:J}(h:At Y u f b T L c)(hm:dI (u.ins T.m o) T.m (du aw))(hs:∀g,s.ad=some g->f g=none/\Y g=none/\u g≠none)
  (hw:∀e∈aw,e∈T.w∨(e.2.1=s/\Ints u s e.2.2)) {v:H} {D0:Nat->Prop} (h0:cD v D0 u λx=>f x≠none) (av:∀g,s.ad=some g->v g=none):
  ∃bl,At Y (u.ins T.m o) bl b {T with w:=aw} L c/\cD v D0 (u.ins T.m o) λx=>bl x≠none:=by
 classical
 let bl:Nat->Option aN:=λx=>if s.ad=some x then some .vec else f x
 have ny:∀{x j},f x=some j->bl x=some j:=λ{x j} I=>by
  have:s.ad≠some x:=λe=>by rw[(hs x e).1] at I;cases I
  simp only[bl,if_neg this,I]
 have aB:∀x,s.ad=some x->bl x=some .vec:=λx I=>if_pos I
 have fn:∀x,bl x≠none->s.ad=some x∨f x≠none:=λx I=>by by_cases e:s.ad=some x;exact .inl e;refine .inr λar=>I ?_;simp only[bl,if_neg e,ar]
 have br:∀j,j≠.vec->part bl j=part f j:=λj aH=>funext λx=>propext ⟨λI=>by have dV:bl x=some j:=I;by_cases e:s.ad=some x;rw[aB x e] at dV;exact absurd (Option.some.inj dV).symm aH;simp only[bl,if_neg e] at dV;exact dV,λI=>ny I⟩
 have mt:=h.dq
 have sm:s.ad≠some T.m:=λe=>by rw[(hs _ e).1] at mt;cases mt
 have eA:∀{x bn j},j≠.map->u x=some bn->f x=some j->(u.ins T.m o) x=some bn:=λaH U I=>by rw[aL _ _ λe=>by rw[e,mt] at I;exact aH (Option.some.inj I).symm];exact U
 have AZ:∀{g bn},s.ad=some g->u g=some bn->(u.ins T.m o) g=some bn:=λN U=>by rw[aL _ _ λe=>sm (by rw[<-e];exact N)];exact U
 have mB:Y.le (u.ins T.m o):=λx bn I=>by rw[aL _ _ λe=>by rw[e,h.own.out T.m (by rw[mt];simp)] at I;cases I];exact h.own.le x bn I
 obtain⟨vs,ll⟩:=h.db
 refine⟨bl,⟨⟨mB,λx I=>?_,λx I=>?_⟩,eA (by simp) h.cell h.fU,ny h.fU,hm,ny mt,λe he=>?_,⟨vs,ll.le λg bn N U=>eA (by simp) U (h.gM g N)⟩,λg N=>ny (h.gM g N),?_⟩,λx bn I aj=>?_,λx I=>?_⟩
 exact(fn x I).elim (λe=>(hs x e).2.1) (h.own.out x)
 by_cases e:x=T.m
 rw[e,aS];simp
 rw[aL _ _ e];exact(fn x I).elim (λe=>(hs x e).2.2) (h.own.known x)
 rcases hw e he with h1|⟨h1,h2⟩
 obtain⟨h3,aZ⟩:=h.vec e h1
 exact⟨bb.else h3 λg bn N U=>eA (by simp) U (aZ g N),λg N=>ny (aZ g N)⟩
 rw[h1];exact⟨bb.else h2 λg bn N U=>AZ N U,aB⟩
 rw[br _ (by simp)];exact h.log.same (λx bn U I=>eA (by simp) U I) mB
 have h1:=h0.bd x bn I aj
 rw[aL _ _ λe=>?_]
 exact h1
 rcases h0.grow x (by rw[e,mt];simp) with h2|h2
 exact aj h2
 rw[h2] at I;cases I
 rcases fn x I with e|e
 exact .inr (av x e)
 exact h0.grow x e
def At.afA{z:H}{f:Nat->Option aN}{T:ak}{L:dn.dy}{c:Int}{q:J}{vs:List Value}(h:At Y u f b T L c)(ay:Own z 98 3 q vs)(cQ:∀x o,u x=some o->T.cs.ad≠some x->z x=some o)(ee:∀g,q.ad=some g->T.cs.ad=some g∨u g=none):
  ∃bl,At Y (z.ins b (ak.obj {T with cs:=q})) bl b {T with cs:=q} L c/\cD u (λx=>f x≠none) (z.ins b (ak.obj {T with cs:=q})) λx=>bl x≠none:=by
 classical
 obtain⟨gW,hO⟩:∃gW,gW=ak.obj {T with cs:=q}:=⟨_,rfl⟩
 let bl:Nat->Option aN:=λx=>if q.ad=some x then some .db else if T.cs.ad=some x then none else f x
 have lr:∀x,q.ad=some x->f x=some .db∨u x=none:=λx I=>(ee x I).imp (h.gM x) id
 have iI:∀x,q.ad=some x->bl x=some .db:=λx I=>if_pos I
 have wU:∀{x j},f x=some j->j≠.db->q.ad≠some x/\T.cs.ad≠some x:=λ{x j} I aH=>⟨λe=>by rcases lr x e with e|e;rw[I] at e;exact aH (Option.some.inj e);exact h.own.known x (by rw[I];simp) e,λe=>by have:=h.gM x e;rw[I] at this;exact aH (Option.some.inj this)⟩
 have ny:∀{x j},f x=some j->j≠.db->bl x=some j:=λI aH=>by obtain⟨cb,di⟩:=wU I aH;simp only[bl,if_neg cb,if_neg di,I]
 have fn:∀x,bl x≠none->q.ad=some x∨(f x≠none/\T.cs.ad≠some x):=λx I=>by by_cases aO:q.ad=some x;exact .inl aO;by_cases ar:T.cs.ad=some x;exact absurd (by simp only[bl,if_neg aO,if_pos ar]) I;refine .inr ⟨λcq=>I ?_,ar⟩;simp only[bl,if_neg aO,if_neg ar,cq]
 have br:∀j,j≠.db->part bl j=part f j:=λj aH=>funext λx=>propext ⟨λI=>by have dV:bl x=some j:=I;by_cases aO:q.ad=some x;rw[iI x aO] at dV;exact absurd (Option.some.inj dV).symm aH;by_cases ar:T.cs.ad=some x;simp only[bl,if_neg aO,if_pos ar] at dV;cases dV;simp only[bl,if_neg aO,if_neg ar] at dV;exact dV,λI=>ny I aH⟩
 have cur:∀{x o j},u x=some o->f x=some j->j≠.db->j≠.obj->(z.ins b gW) x=some o:=λU I h1 h2=>by rw[aL _ _ λe=>by rw[e,h.fU] at I;exact h2 (Option.some.inj I).symm];exact cQ _ _ U (wU I h1).2
 have FB:∀x,q.ad=some x->x≠b:=λx I e=>(wU h.fU (by simp)).1 (e▸I)
 have mB:Y.le (z.ins b gW):=λx o I=>by
  have M:f x=none:=by
   cases e:f x with
   |none=>rfl|some j=>have:=h.own.out x (by rw[e];simp);rw[this] at I;cases I
  rw[aL _ _ λe=>by rw[e,h.fU] at M;cases M];exact cQ _ _ (h.own.le x o I) λe=>by rw[h.gM x e] at M;cases M
 rw[<-hO]
 refine⟨bl,⟨⟨mB,λx I=>?_,λx I=>?_⟩,by rw[hO];exact aS _ _ _,ny h.fU (by simp),h.map.else λo U=>cur U h.dq (by simp) (by simp),ny h.dq (by simp),λe he=>?_,⟨vs,ay.le λg o N U=>by rw[aL _ _ (FB g N)];exact U⟩,iI,?_⟩,λx o I M=>?_,λx I=>?_⟩
 rcases fn x I with e|e
 rcases lr x e with e|e
 exact h.own.out x (by rw[e];simp)
 exact h.own.le.none e
 exact h.own.out x e.1
 by_cases nv:x=b
 rw[nv,aS];simp
 rw[aL _ _ nv]
 rcases fn x I with e|e
 rcases ay.is with h0|⟨g,s8,ap,N,_⟩
 rw[h0] at e;cases e
 have ar:some g=some x:=by unfold J.ad at e;rw[ap] at e;exact e
 rw[<-Option.some.inj ar,N];simp
 obtain⟨o,U⟩:=Option.ne_none_iff_exists'.1 (h.own.known x e.1)
 rw[cQ x o U e.2];simp
 obtain⟨h1,h2⟩:=h.vec e he
 exact⟨bb.else h1 λg o N U=>cur U (h2 g N) (by simp) (by simp),λg N=>ny (h2 g N) (by simp)⟩
 rw[br _ (by simp)];exact h.log.same (λx o U I=>cur U I (by simp) (by simp)) mB
 have kK:f x=none:=Classical.byContradiction M
 rw[aL _ _ λe=>by rw[e,h.fU] at kK;cases kK]
 exact cQ _ _ I λe=>by rw[h.gM x e] at kK;cases kK
 rcases fn x I with e|e
 exact(lr x e).imp (λe=>by rw[e];simp) id
 exact .inl e.1
end
end an
section
variable{d:Int}{u:H}{e k:Nat}{xs:List Value}
structure oV(u:H)(e k:Nat)(s:J)(xs:List Value):Prop where
 bR:bb u s k xs
 is:s=⟨none,0,0⟩∨∃g o cur,s.a=some ⟨g,o,none⟩/\u g=some (.cells cur e (0,0))/\o+s.c*k<=cur.size
def Own.off{s:J}(h:Own u e k s xs):oV u e k s xs:=
 ⟨h.bR,h.is.imp id λ⟨g,cur,h1,h2,_,_,h3,_⟩=>⟨g,0,cur,h1,h2,by omega⟩⟩
def oV.same{u':H}{s:J}(h:oV u e k s xs)(hu:∀g o,s.ad=some g->u g=some o->u' g=some o):oV u' e k s xs:=
 ⟨bb.else h.bR hu,h.is.imp id λ⟨g,o,cur,h1,h2,h3⟩=>⟨g,o,cur,h1,hu g _ (by simp[J.ad,h1]) h2,h3⟩⟩
def oV.cut{s:J}{x:List Value}(h:oV u e k s (x++xs))(I:x.length=k)(ac:1<=s.n):oV u e k (s.part 1 s.n s.c k) xs:=by
 have E:=bb.cap h.bR;have ai:=h.bR.len;have aa:=bb.part h.bR (l:=1) (h:=s.n) (m:=s.c) ac (Nat.le_refl _) E (Nat.le_refl _);rw[Nat.one_mul,List.drop_left' I,List.take_of_length_le] at aa
 .refine⟨aa,?_⟩;rcases h.is with h0|⟨g,o,cur,h1,h2,h3⟩;rw[h0] at ac;exact absurd ac (by simp)
  .right;have aO:s.c*k=(s.c-1)*k+k:=by
    conv=>lhs;rw[show s.c=(s.c-1)+1 by omega]
    rw[Nat.succ_mul]
   by_cases e:s.c=1;exact⟨g,o,cur,by unfold J.part;rw[if_pos e];exact h1,h2,by show o+(s.c-1)*k<=_;omega⟩;exact⟨g,o+k,cur,by unfold J.part;rw[if_neg e,h1,Nat.one_mul];simp[Addr.add_lit],h2,by show o+k+(s.c-1)*k<=_;omega⟩
 .rw[List.length_append,I] at ai;have:s.n*k=(s.n-1)*k+k:=by
   conv=>lhs;rw[show s.n=(s.n-1)+1 by omega]
   rw[Nat.succ_mul]
  omega
def an7{P:Program}(w:World)(t eO e:TypeId)(i:TypeInfo)(ht:P.underlying t=some (.slice e))(hi:P.info? e=some i)
  (g o y6 R0:Nat) (cur:Array Value) (N:w.heap[g]?=some (.cells cur e (0,0))) (a:Addr) (m c:Nat) (news:List Value) (ai:news.length=m*i.size) (IH:∀j u,news[j]?=some u->w.cell? (a.add j)=some u) (h1:∀u∈news,u.oneCell'=true)
  (lc:y6+m<=R0) (AA:o+y6*i.size+news.length<=cur.size):
  (Builtin.append_ #[t,t] eO #[.slice (some ⟨g,o,none⟩) y6 R0,.slice (some a) m c]).run P w=
   .ok (.slice (some ⟨g,o,none⟩) (y6+m) R0) (w.setRow g (cur.toList.take (o+y6*i.size)++news++cur.toList.drop (o+y6*i.size+news.length)).toArray):=by
 have M:=run_firstCells_some (P:=P) w i.size m a m c news ai IH
 have dc:=run_storeCells_at P g (o+y6*i.size) e news 0 cur w N (by simpa using AA) h1
 simp only[Nat.add_zero] at dc
 simp[Builtin.append_,run_underlying ht,sizeOf,typeInfo,hi,Builtin.lenOf,lc,M,Addr.add_lit,dc]
def aaE{P:Program}{t e:TypeId}{size bytes:Nat}{zs cM:List Value}{bZ:Array (Nat×Value)}(aJ:iG P t=some (e,size,bytes,zs))(b4:hF P t 1 bZ=some (e,cM))(cA:0<size)
  (af:cM.length=size) (h1:∀y∈cM,y.oneCell'=true) {u:H} {s:J} {xs:List Value} (h:oV u e size s xs) (hm:s.n<9223372036854775807) (Z:(s.n+1)*bytes<=140737488355328) {K:J->H->Prop}
  (ae:∀s' u',oV u' e size s' (xs++cM)->s'.n=s.n+1->(∀b o,u b=some o->s.ad≠some b->u' b=some o)->(∀g,s'.ad=some g->s.ad=some g∨u g=none)->K s' u'):
  cx P (Instr.buildSlice t 1 bZ) [.one .slice] u λs1 aI=>u.le aI/\cx P (Builtin.append_ #[t,t] t #[.slice s.a s.n s.c,.slice s1.a s1.n s1.c]) [.one .slice] aI K:=by
 obtain⟨ht,i,z,hi,aP,jy,tr,u9,_⟩:=qH aJ
 refine nU b4 λg0 oq=>⟨bN _ oq,?_⟩
 obtain⟨v,av⟩:∃v,v=u.ins g0 (.cells cM.toArray e (0,0)):=⟨_,rfl⟩
 have lv:u.le v:=by rw[av];exact bN _ oq
 have I:bb v ⟨some ⟨g0,0,none⟩,1,1⟩ size cM:=by rw[av];have:=(aE.make (k:=size) (H.le.refl u) oq (cells:=cM.toArray) (e:=e) (n:=1) (by omega) (by simp[af])).own.bR;simpa using this
 rw[<-av]
 have hs:oV v e size s xs:=h.same λg o _ U=>lv _ _ U
 have gm:=hs.bR.len
 by_cases lc:s.n+1<=s.c
 rcases hs.is with h0|⟨g,o,cur,ap,N,E⟩
 rw[h0] at lc;exact absurd lc (by simp)
 refine .one (c:=.slice) λw hw=>?_
 have hmul:(s.n+1)*size<=s.c*size:=Nat.mul_le_mul_right _ lc
 rw[Nat.succ_mul] at hmul
 have W:=an7 (P:=P) w t t e i ht hi g o s.n s.c cur (hw _ _ N) ⟨g0,0,none⟩ 1 1 cM (by rw[jy,af];omega) (I.world hw rfl) h1 lc (by rw[jy,af];omega)
 rw[jy] at W
 rw[ap,W]
 obtain⟨cs,kJ⟩:∃cs:List Value,cs=cur.toList.take (o+s.n*size)++cM++cur.toList.drop (o+s.n*size+cM.length):=⟨_,rfl⟩
 rw[<-kJ]
 have fT:cs.length=cur.size:=by rw[kJ];simp only[List.length_append,List.length_take,List.length_drop,Array.length_toList,af];omega
 refine⟨⟨some ⟨g,o,none⟩,s.n+1,s.c⟩,_,v.ins g (.cells cs.toArray e (0,0)),rfl,ae _ _ ⟨⟨?_,lc,hs.bR.max,.inr ⟨_,rfl,λj x aH=>?_⟩⟩,.inr ⟨g,o,_,rfl,aS _ _ _,by simpa[fT] using E⟩⟩ rfl (λb bn Z ah=>?_) λbS cH=>.inl ?_,SE hw N _⟩
 rw[List.length_append,gm,af,Nat.succ_mul]
 rw[Addr.add_lit,Hr]
 have aiP:=(hs.bR.world hw ap)
 simp only[List.getElem?_toArray]
 rw[kJ,List.append_assoc]
 by_cases jK:j<xs.length
 rw[List.getElem?_append_left (by simp only[List.length_take,Array.length_toList];omega),List.getElem?_take_of_lt (by omega)]
 rw[List.getElem?_append_left jK] at aH
 have gO:=aiP j x aH
 rw[Addr.add_lit] at gO
 have akX:=hw _ _ N
 rw[cell_of_row w g (o+j) cur e (0,0) akX] at gO
 rw[Array.getElem?_toList];exact gO
 have Yd:(cur.toList.take (o+s.n*size)).length=o+s.n*size:=by rw[List.length_take,Array.length_toList];omega
 rw[List.getElem?_append_right (by rw[Yd];omega),Yd]
 rw[List.getElem?_append_right (by omega)] at aH
 rw[show o+j-(o+s.n*size)=j-xs.length by omega]
 have ai9:j-xs.length<cM.length:=(List.getElem?_eq_some_iff.1 aH).1
 rw[List.getElem?_append_left ai9];exact aH
 rw[aL _ _ λar=>ah (by rw[ar];simp[J.ad,ap])];exact lv _ _ Z
 simpa[J.ad,ap] using cH
 have gk:s=⟨none,0,0⟩∨s.a≠none:=hs.is.imp id λ⟨g,o,cur,ap,_⟩=>by rw[ap];simp
 refine R7 (x:=⟨some ⟨g0,0,none⟩,1,1⟩) aJ hs.bR I (by simp only;omega) gk (by simp) (by simp only;omega) (by simpa using Z) λg c cur N jh=>ae _ _ jh.off (by simp) (λb o e _=>?_) λbS cH=>.inr ?_
 rw[aL v _ (λh=>by rw[h] at e;rw[lv _ _ e] at N;cases N)]
 exact lv _ _ e
 obtain rfl:g=bS:=by simpa[J.ad] using cH
 exact lv.none N
abbrev kD:=Int×List Int
def ev.nil(u:H):ev u ⟨none,0,0⟩ []:=⟨⟨rfl,Nat.le_refl _,by decide,.inl rfl⟩,λ_ h=>by cases h⟩
structure np where
 kind:Int
 id:Int
 s:J
 v:List Int
def te(c:np):List Value:=[.int .i64 c.kind,.int .i64 c.id,.slice c.s.a c.s.n c.s.c]
def Ac(c:np):(te c).length=3:=rfl
def avE(c:np):∀v∈te c,v.oneCell'=true:=by simp[te,Value.oneCell']
def o3(P:List kD)(c:np):List kD:=if c.kind=2 then P.filter (λx=>x.1 !=c.id) else(c.id,c.v)::P.filter λx=>x.1 !=c.id
def wX(d:Int)(P:List kD)(c:np):Prop:=c.kind=2∨(c.kind=1/\hA c.id c.v d (decide (c.id∈P.map (·.1))) P.length=0)
def Hi{P oW:List kD}(h:P.Perm oW)(c:np):(o3 P c).Perm (o3 oW c):=by unfold o3;split;exact h.filter _;exact(h.filter _).cons _
def Rq{P oW:List kD}(h:P.Perm oW){c:np}(k:wX d P c):wX d oW c:=by unfold wX at k ⊢;have aO:(c.id∈P.map (·.1))↔(c.id∈oW.map (·.1)):=(h.map _).mem_iff;rw[h.length_eq] at k;simp only[aO] at k;exact k
def n1(d:Int):List kD->List np->List kD->Prop
 |P,[],R=>P.Perm R|P,c::l,R=>wX d P c/\n1 d (o3 P c) l R
def n1.perm:∀{l:List np} {P oW R rH:List kD},n1 d P l R->P.Perm oW->R.Perm rH->n1 d oW l rH
 | [],_,_,_,_,h,aa,W=>(aa.symm.trans h).trans W|c::_,_,_,_,_,h,aa,W=>⟨Rq aa h.1,n1.perm h.2 (Hi aa c) W⟩
def n1.snoc{c:np}:∀{l:List np} {P R:List kD},n1 d P l R->wX d R c->n1 d P (l++ [c]) (o3 R c)
 | [],_,_,h,E=>⟨Rq h.symm E,Hi h c⟩|_::_,_,_,h,E=>⟨h.1,n1.snoc h.2 E⟩
def filter_none{P:List kD}{id:Int}(h:id∉P.map (·.1)):P.filter (λx=>x.1 !=id)=P:=List.filter_eq_self.2 λq ay=>by have:q.1≠id:=λe=>h (List.mem_map.2 ⟨q,ay,e⟩);simpa using this
def nS(r:aT):np:=⟨1,r.id,r.s,r.v⟩
def n1.table:∀{L:List aT} {A:List kD},(∀r∈L,1<=r.id/\r.id<=1000000000/\fV r.v d=0)->((A.map (·.1))++L.map (·.id)).Nodup->A.length+L.length<=512->n1 d A (L.map nS) (L.map aT.bV++A)
 | [],_,_,_,_=>.refl _|r::L,A,av,ac,ai=>by
  have W:=av r (.head _);have ef:=List.nodup_append.1 ac;have aj8:r.id∉A.map (·.1):=λh=>ef.2.2 _ h _ (List.mem_cons_self) rfl;rw[List.length_cons] at ai;refine⟨.inr ⟨rfl,?_⟩,?_⟩;unfold hA nS;simp only[W.2.2];rw[if_neg (by omega),if_neg (by simp),if_neg (by omega)];have e:o3 A (nS r)=r.bV::A:=by unfold o3 nS;simp only;rw[if_neg (by decide),filter_none aj8];rfl
  rw[e];refine(n1.table (L:=L) (A:=r.bV::A) (λx I=>av x (.tail _ I)) ?_ (by rw[List.length_cons];omega)).perm (.refl _) ?_;rw[List.map_cons];have h3:((A.map (·.1))++r.id::L.map (·.id)).Nodup:=ac;exact(List.perm_middle.nodup_iff).1 h3;rw[List.map_cons];exact List.perm_middle
structure G0(ub u:H)(s:J)(l:List aT)(d:Int)(u':H)(n:aq):Prop where
 one:∀x∈n.bC,gY u' x
 nodup:n.own.Nodup
 out:∀c∈n.own,ub c=none/\u' c≠none
 all:n.br.all.Perm (l.map aT.bV)
 ok:fp d n.br
 rows:∀x∈n.bC,∀r∈x.1.rows,r∈l
 size:n.bC.length+1<=2*l.length
 uG:∀c o,u c=some o->s.ad≠some c->u' c=some o
namespace k2
def CT:fi Tryz.prog 184=true:=by kernel_rfl
def MD:fi Tryz.prog 187=true:=by kernel_rfl
def MJ(a b:Nat):hF Tryz.prog 334 2 #[(0,.pointer (some ⟨a,0,none⟩)),(1,.pointer (some ⟨b,0,none⟩))]=some (236,[.pointer (some ⟨a,0,none⟩),.pointer (some ⟨b,0,none⟩)]):=by kernel_rfl
abbrev s9(n0 cb:Nat):Value:=.func (.func 184) #[] #[.pointer (some ⟨n0,0,none⟩),.pointer (some ⟨cb,0,none⟩)]
structure rE(ub:H)(n0 cb iz:Nat)(d leaf:Int):Prop where
 c0:ub.cell? ⟨n0,0,none⟩=some (.pointer (some ⟨iz,0,none⟩))
 c1:ub.cell? ⟨cb,0,none⟩=some (s9 n0 cb)
 B8:ub.cell? ⟨iz,0,none⟩=some (.int .i64 d)
 ry:ub.cell? ((Addr.mk iz 0 none).add 1)=some (.int .i64 leaf)
def rE.mono{ub:H}{n0 cb iz:Nat}{leaf:Int}(h:rE ub n0 cb iz d leaf)(k:ub.le u):rE u n0 cb iz d leaf:=⟨H.le.cell k h.c0,H.le.cell k h.c1,H.le.cell k h.B8,H.le.cell k h.ry⟩
def M0{ub:H}{n11:Nat}{wd:Int}{l:List aT}(E:ub.cell? ⟨n11,0,none⟩=some (.int .i64 wd))(h0:0<=wd)(h1:wd<d)(av:∀r∈l,Ints ub r.s r.v)(bL:hp l d):
  Cz ub l (.func (.func 187) #[] #[.pointer (some ⟨n11,0,none⟩)]):=by
 intro a b v K ap Z hle ae
 refine⟨_,_,_,rfl,fg MD,asS a.id a.s b.id b.s ⟨n11,0,none⟩ v K ?_⟩
 have ui:=(av a ap).mono hle
 have oQ:=(av b Z).mono hle
 obtain⟨O,a2⟩:=bL.v a ap
 obtain⟨eQ,eI⟩:=bL.v b Z
 have aK:=ui.len
 have UM:=oQ.len
 obtain⟨p,aa,I⟩:=ui.at (x:=wd) h0 (by omega)
 obtain⟨q,ay,af⟩:=oQ.at (x:=wd) h0 (by omega)
 have aO:=a2.2 wd.toNat (by omega)
 have ar:=eI.2 wd.toNat (by omega)
 have U1:=H.le.cell hle E
 exact⟨wd,U1,p,aa,⟨h0,by omega⟩,_,I,wd,U1,q,ay,⟨h0,by omega⟩,_,af,⟨by have:=aO.1;have:=aO.2;have:=ar.1;have:=ar.2;omega,by have:=aO.1;have:=aO.2;have:=ar.1;have:=ar.2;omega⟩,ae _⟩
theorem Sp{n0 cb iz:Nat}{leaf:Int}(qU:1<=leaf):∀(ck:Nat) {ub u:H} {s:J} {l:List aT} {K:Option Addr->H->Prop},l.length<=ck->rE ub n0 cb iz d leaf->aE ub u 34 2 s (l.flatMap cG)->(∀r∈l,Ints ub r.s r.v)->hp l d->
  (l=[]->K none u)->(l≠[]->∀u' n,G0 ub u s l d u' n->jG 2 n.br->K (some ⟨n.b,0,none⟩) u')->TK s ⟨n0,0,none⟩ ⟨cb,0,none⟩ u K:=by
 intro ck
 induction ck with
 |zero=>intro ub u s l K de cr U av bL h0 _;have ai:l=[]:=List.eq_nil_of_length_eq_zero (by omega);have cY:s.n=l.length:=fx fh (by decide) U.own.bR;apply acC;refine⟨λ_=>h0 ai,λah=>absurd (by rw[cY,ai];rfl) ah⟩
 |succ ck aG=>
  intro ub u s l K de cr U av bL h0 ae;have cY:s.n=l.length:=fx fh (by decide) U.own.bR;have aj:=bL.ao;have Wa:=bL.len;apply acC;refine⟨λaP=>h0 (List.eq_nil_of_length_eq_zero (by omega)),λPw=>?_⟩;have ah:l≠[]:=λe=>Pw (by rw[cY,e];rfl);have ae:=ae ah;have cy:=U.le;have b8:ev u s l:=⟨U.own.bR,λr W=>(av r W).mono cy⟩;refine⟨_,H.le.cell cy cr.c0,_,rfl,d,H.le.cell cy cr.B8,?_⟩;refine aqk b8 bL ah λbD ax ly hP h1 h2 h3 f1 f2 f3=>?_;obtain⟨eQ,eI,mi,qD,vR,vS⟩:=aeP bL ah;have QZ:u.le hP:=h1.le;have awv:bD.n=(lL l).length:=h1.ints.len;have Iu:ax.n=(lK l).length:=h2.ints.len;intro n11 yg;refine oN (zs:=[.int .i64 0]) rfl (by simp[Value.oneCell']) ?_;have Jm:=bN (u:=hP) (b:=n11) (.cells [Value.int .i64 0].toArray 3 (0,0)) yg;have aw0:ub n11=none:=cy.none (QZ.none yg);refine⟨λx w=>0<=x/\hP.le w/\∃wd:Int,0<=wd/\wd<d/\w n11=some (.cells #[.int .i64 wd] 3 (0,0)),λx _=>(d-x).toNat,⟨by omega,Jm,0,by omega,by omega,aS _ _ _⟩,?_⟩;rintro x w ⟨b0,lw,wd,mG,gq,hw⟩;have Hx:w.cell? ⟨n11,0,none⟩=some (.int .i64 wd):=aV hw 0;have qV:=(h1.mono lw).ints;have tz:=(h2.mono lw).ints;have ie:∀{v:List Int} {i:Nat},ej v->i<v.length->-2147483647<=v.getD i 0/\v.getD i 0<=2147483647:=λav hi=>av.2 _ hi;obtain⟨cz,IP,mT⟩:=tz.at (x:=wd) mG (by omega);obtain⟨cC,XT,iR⟩:=qV.at (x:=wd) mG (by omega);have g3:=ie mi (i:=wd.toNat) (by omega);have g4:=ie qD (i:=wd.toNat) (by omega);refine⟨λI=>?_,λI=>?_⟩;obtain⟨fk,gj,r3⟩:=qV.at (x:=x) b0 I;obtain⟨da,fD,DM⟩:=tz.at (x:=x) b0 (by omega);have g1:=ie mi (i:=x.toNat) (by omega);have g2:=ie qD (i:=x.toNat) (by omega);refine⟨da,fD,⟨b0,by omega⟩,_,DM,fk,gj,⟨b0,I⟩,_,r3,⟨by omega,by omega⟩,wd,Hx,cz,IP,⟨mG,by omega⟩,_,mT,wd,Hx,cC,XT,⟨mG,by omega⟩,_,iR,⟨by omega,by omega⟩,λ_=>?_,λ_=>⟨⟨by omega,by omega⟩,⟨by omega,lw,wd,mG,gq,hw⟩,by dsimp only;omega⟩⟩;refine ze hw (by simp[Value.oneCell']) ⟨⟨by omega,by omega⟩,⟨by omega,λc o E=>?_,x,b0,by omega,aS _ _ _⟩,by dsimp only;omega⟩;rw[aL _ _ (λe=>by grind)];exact lw c o E;have Bs:u.le w:=QZ.trans lw;have jl:ub.le w:=cy.trans Bs;intro zG H0;have jC:∀kids:List bf,k5 ((bf.mk 2 (lL l) (lK l) 0 (l.map aT.bV) kids).fP []) d/\∀rows:List iC,k5 ((bf.mk 2 (lL l) (lK l) 0 rows kids).fP []) d:=λkids=>
   ⟨⟨aj,List.Pairwise.nil,λx I=>(by cases I),.inr (.inl ⟨rfl,rfl,mi,qD,eQ,eI,vR⟩)⟩,λrows=>⟨aj,List.Pairwise.nil,λx I=>(by cases I),.inr (.inl ⟨rfl,rfl,mi,qD,eQ,eI,vR⟩)⟩⟩
  have ins:∀rows kids,∀z∈l.map aT.bV,mf ((bf.mk 2 (lL l) (lK l) 0 rows kids).fP []) z.2:=λrows kids z aP=>by obtain⟨r,W,rfl⟩:=List.mem_map.1 aP;refine⟨λ_ i hi=>vS r W i ?_,λh=>(by cases h)⟩;have:=(bL.v r W).1;have nC:i<r.v.length:=hi;omega
  have E9:zG true w:=by
   refine H0 true w ⟨λ_ n31 pZ=>?_,λe=>(by cases e)⟩;obtain⟨mV,gD⟩:∃bW:en,bW=⟨n31,2,bD,ax,lL l,lK l,0,s,l,⟨none,0,0⟩⟩:=⟨_,rfl⟩;have nN:=bN (u:=w) (b:=n31) (.cells (fl mV).toArray 336 (0,0)) pZ;have key:=ae (w.ins n31 (.cells (fl mV).toArray 336 (0,0))) (.mk mV []);have dw:∀g,s.ad=some g->u g≠none:=λg N=>fj U N;have awJ:∀{t:J},(∀g,t.ad=some g->w g≠none)->∀g,t.ad=some g->g≠n31:=λht g N e=>ht g N (by rw[e];exact pZ);have wP:∀g,bD.ad=some g->w g≠none:=λg N=>fj (h1.mono lw) N;have Bg:∀g,ax.ad=some g->w g≠none:=λg N=>fj (h2.mono lw) N;have ks:∀g,s.ad=some g->w g≠none:=λg N=>fj (U.mono Bs) N;have jh:(aq.mk mV []).own=n31::(bD.ad.toList++ax.ad.toList++s.ad.toList):=by rw[aq.pu,gD];simp[aq.h,aq.kids,en.cT,J.ad]
   refine(show K (some ⟨n31,0,none⟩) _ from ?_);have gO:(Obj.cells #[.int .i64 2,.slice bD.a bD.n bD.c,.slice ax.a ax.n ax.c,.int .u64 0,.int .u64 0,.slice none 0 0,.slice s.a s.n s.c,.slice none 0 0] 336 (0,0))=.cells (fl mV).toArray 336 (0,0):=by rw[gD];rfl
   rw[gO];have Ob:(aq.mk mV []).b=n31:=by rw[gD];rfl
   rw[Ob] at key;refine key ⟨λy af=>?_,?_,λc E=>?_,?_,?_,λy af r W=>?_,?_,λc o E jx=>nN c o (Bs c o E)⟩ (by rw[aq.gR,gD];exact .mk rfl λk hk=>(by cases hk));rw[aq.gg] at af;obtain rfl:y=(mV,[]):=by simpa[aq.h,aq.kids] using af
   subst gD;exact⟨aS _ _ _,((h1.mono lw).mono nN).own,((h2.mono lw).mono nN).own,((U.mono Bs).mono nN).own,λr W=>(av r W).mono (jl.trans nN),⟨rfl,Nat.le_refl _,by grind,.inl rfl⟩⟩;rw[jh,List.nodup_cons];refine⟨λhm=>?_,?_⟩
   grind
   have dk:∀o:Option Nat,o.toList.Nodup:=λo=>by cases o<;>simp
   rw[List.nodup_append,List.nodup_append];refine⟨⟨dk _,dk _,λa ap b Z e=>?_⟩,dk _,λa ap b Z e=>?_⟩
   grind
   rw[Option.mem_toList] at Z;simp only[List.mem_append,Option.mem_toList] at ap;subst e;rcases ap with ap|ap;exact dw a Z (h1.fresh a ap);exact dw a Z (h2.fresh a ap);rw[jh] at E;simp only[List.mem_cons,List.mem_append,Option.mem_toList] at E;rcases E with rfl|(E|E)|E;exact⟨jl.none pZ,by rw[aS];simp⟩;exact⟨cy.none (h1.fresh c E),λe=>wP c E (nN.none e)⟩;exact⟨cy.none (h2.fresh c E),λe=>Bg c E (nN.none e)⟩;exact⟨U.fresh c E,λe=>ks c E (nN.none e)⟩;rw[aq.tW,aq.gg];subst gD;simp[aq.h,aq.kids];rw[aq.gR];subst gD;refine .mk (jC []).1 (λz aP=>ins _ _ z ?_) λk hk=>(by cases hk);rw[bf.all_eq] at aP;have Qz:z∈l.map aT.bV++ []:=aP
   grind
   rw[aq.gg] at af;obtain rfl:y=(mV,[]):=by simpa[aq.h,aq.kids] using af
   grind
   rw[aq.gg];have:=List.length_pos_iff.2 ah;simp[aq.kids];omega
  have inner:leaf<s.n->zG false w:=by
   intro bh;refine H0 false w ⟨λe=>(by cases e),λ_=>?_⟩;obtain⟨oP,yB⟩:∃oP:H,oP=λc=>if c=n11 then w n11 else ub c:=⟨_,rfl⟩;have arh:oP n11=w n11:=by grind
   have ab4:∀{c},c≠n11->oP c=ub c:=λ{c} E=>by grind
   have bg:ub.le oP:=λc o E=>by grind
   have alJ:oP.le w:=λc o E=>by
    by_cases e:c=n11
    grind
    rw[ab4 e] at E;exact jl c o E
   have akj:∀b,s.ad=some b->oP b=none:=λb Z=>by rw[ab4 (λe=>fj U Z (by rw[e];exact QZ.none yg))];exact U.fresh b Z
   have afb:oP.cell? ⟨n11,0,none⟩=some (.int .i64 wd):=aV (arh.trans hw) 0;refine abo (U.mono Bs) alJ akj (M0 afb mG gq (λr W=>(av r W).mono bg) bL) (by omega) λu32 m aa mq uP=>?_;have mY:=aa.length_eq;have j2:ub.le u32:=λc o E=>uP c o (jl c o E) λe=>by grind
   have Pk:hp m d:=bL.mix aa;have tD:∀r∈m,Ints ub r.s r.v:=λr W=>av r (aa.mem_iff.1 W);have ai1:=cr.mono j2;have Ic:ev u32 s m:=⟨mq.own.bR,λr W=>(tD r W).mono j2⟩;have hI:=bb.cap mq.own.bR;obtain⟨dG,tC⟩:∃dG:Nat,dG=s.n/2:=⟨_,rfl⟩;have Nc:Int.tdiv (s.n:Int) 2=(dG:Int):=by grind
   rw[Nc];have cE:ev u32 (s.part 0 dG s.c 2) (m.take dG):=by have:=Ic.part (l:=0) (h:=dG) (m:=s.c) (by omega) (by omega) (by omega) (Nat.le_refl _);simpa using this
   have xU:ev u32 (s.part dG s.n s.c 2) (m.drop dG):=by have:=Ic.part (l:=dG) (h:=s.n) (m:=s.c) (by omega) (Nat.le_refl _) hI (Nat.le_refl _);rwa[List.take_of_length_le (by grind)] at this
   have FX:∀{z:H} {Q:J->H->Prop},Q (s.part 0 dG s.c 2) z->cx Tryz.prog (Instr.sliceAt 22 (.slice s.a s.n s.c) none (some (.int .i64 (dG:Int))) none) [.one .slice] z Q:=λed=>
    oM (P:=Tryz.prog) nV (l:=0) (h:=dG) (m:=s.c) (.inl ⟨rfl,rfl⟩) (.inr rfl) (.inl ⟨rfl,rfl⟩) (by omega) (by omega) (Nat.le_refl _) hI ed
   have vr:∀{z:H} {Q:J->H->Prop},Q (s.part dG s.n s.c 2) z->cx Tryz.prog (Instr.sliceAt 22 (.slice s.a s.n s.c) (some (.int .i64 (dG:Int))) none none) [.one .slice] z Q:=λed=>
    oM (P:=Tryz.prog) nV (l:=dG) (h:=s.n) (m:=s.c) (.inr rfl) (.inl ⟨rfl,rfl⟩) (.inl ⟨rfl,rfl⟩) (by omega) hI (Nat.le_refl _) hI ed
   have gi:(m.take dG).length=dG:=by rw[List.length_take];omega
   have fX:(m.drop dG).length=m.length-dG:=by rw[List.length_drop]
   have yk:m.take dG≠[]:=λe=>by grind
   have tG:m.drop dG≠[]:=λe=>by rw[e] at fX;simp at fX;omega
   have wZ:∀{z eK:H} {t:J} {k:List aT} {Q:Option Addr->H->Prop},u32.le z->aE z eK 34 2 t (k.flatMap cG)->k≠[]->k.length<=ck->k.Sublist m->(∀u' n,G0 z eK t k d u' n->jG 2 n.br->z.le u'->Q (some ⟨n.b,0,none⟩) u')->
     fQ Tryz.prog (s9 n0 cb) #[.slice t.a t.n t.c] [.one .ptr] eK Q:=λ{z eK t k Q} aP gG hk O3 ot ed=>
    ⟨_,_,_,rfl,fg CT,aG O3 (ai1.mono aP) gG (λr W=>(tD r (ot.mem W)).mono (j2.trans aP)) (Pk.sub ot) (λe=>absurd e hk) λ_ u' n E eG=>ed u' n E eG λc o bG=>E.uG c o (gG.le c o bG) λe=>by have:=gG.fresh c e;grind⟩
   have Fw:Own u32 3 1 bD ((lL l).flatMap encI):=(h1.mono lw).own.le λc o E bG=>uP c o bG λe=>fj U e (h1.fresh c E);have ZI:Own u32 3 1 ax ((lK l).flatMap encI):=(h2.mono lw).own.le λc o E bG=>uP c o bG λe=>fj U e (h2.fresh c E);have second:∀{z fz:H} {t:J} {dL:aq},u32.le z->G0 u32 fz t (m.take dG) d z dL->jG 2 dL.br->kA (s.part dG s.n s.c 2) z (λ(oL:J) (zg:H)=>(H.le u32 zg)/\(fQ Tryz.prog (s9 n0 cb) #[.slice oL.a oL.n oL.c] [.one .ptr] zg (λ(Rx:Option Addr) (kZ:H)=>(H.le u32 kZ)/\(cx Tryz.prog (Instr.buildSlice 334 2 #[(0,.pointer (some ⟨dL.b,0,none⟩)),(1,.pointer Rx)]) [.one .slice] kZ (λ(y4:J) (fH:H)=>(H.le u32 fH)/\(∀n49:Nat,(fH n49=none)->K (some ⟨n49,0,none⟩) (fH.ins n49 (.cells #[.int .i64 2,.slice bD.a bD.n bD.c,.slice ax.a ax.n ax.c,.int .u64 0,.int .u64 0,.slice none 0 0,.slice none 0 0,.slice y4.a y4.n y4.c] 336 (0,0))))))))):=by
    intro z fz t dL aP E sf;refine F1 (xU.1.mono aP) (by show s.n-dG<=_;omega) λoL zg El _=>⟨aP.trans El.le,wZ aP El tG (by omega) (List.drop_sublist _ _) λkZ bO Z kN q7=>⟨aP.trans q7,?_⟩⟩;refine nU (MJ dL.b bO.b) λg N=>?_;have ps:=bN (u:=kZ) (b:=g) (.cells [Value.pointer (some ⟨dL.b,0,none⟩),.pointer (some ⟨bO.b,0,none⟩)].toArray 236 (0,0)) N;have mk:=aE.make (k:=1) (H.le.refl kZ) N (cells:=[Value.pointer (some ⟨dL.b,0,none⟩),.pointer (some ⟨bO.b,0,none⟩)].toArray) (e:=236) (n:=2) (by omega) rfl;obtain⟨fH,EG⟩:∃fH,fH=kZ.ins g (.cells [Value.pointer (some ⟨dL.b,0,none⟩),.pointer (some ⟨bO.b,0,none⟩)].toArray 236 (0,0)):=⟨_,rfl⟩;have OO:fH g≠none:=by rw[EG,aS];simp
    rw[<-EG] at ps mk ⊢;refine⟨(aP.trans q7).trans ps,λn49 wA=>?_⟩;obtain⟨hZ,gD⟩:∃bW:en,bW=⟨n49,2,bD,ax,lL l,lK l,0,⟨none,0,0⟩,[],⟨some ⟨g,0,none⟩,2,2⟩⟩:=⟨_,rfl⟩;have gO:(Obj.cells #[.int .i64 2,.slice bD.a bD.n bD.c,.slice ax.a ax.n ax.c,.int .u64 0,.int .u64 0,.slice none 0 0,.slice none 0 0,.slice (some ⟨g,0,none⟩) 2 2] 336 (0,0))=.cells (fl hZ).toArray 336 (0,0):=by rw[gD];rfl
    show K (some ⟨n49,0,none⟩) (fH.ins n49 (Obj.cells #[.int .i64 2,.slice bD.a bD.n bD.c,.slice ax.a ax.n ax.c,.int .u64 0,.int .u64 0,.slice none 0 0,.slice none 0 0,.slice (some ⟨g,0,none⟩) 2 2] 336 (0,0)));rw[gO];have tM:=bN (u:=fH) (b:=n49) (.cells (fl hZ).toArray 336 (0,0)) wA;have key:=ae (fH.ins n49 (.cells (fl hZ).toArray 336 (0,0))) (.mk hZ [dL,bO]);have Oc:(aq.mk hZ [dL,bO]).b=n49:=by rw[gD];rfl
    rw[Oc] at key;have E3:u32.le (fH.ins n49 (.cells (fl hZ).toArray 336 (0,0))):=((aP.trans q7).trans ps).trans tM;have wP:∀c,bD.ad=some c->u32 c≠none:=λc E=>Ru Fw E;have Bg:∀c,ax.ad=some c->u32 c≠none:=λc E=>Ru ZI E;have Bi:∀{c},u32 c≠none->z c≠none:=λE e=>E (aP.none e);have Bd:∀{c},z c≠none->kZ c≠none:=λE e=>E (q7.none e);have yK:∀{c},kZ c≠none->fH c≠none:=λE e=>E (ps.none e);have alr:∀{c},fH c≠none->(fH.ins n49 (.cells (fl hZ).toArray 336 (0,0))) c≠none:=λE e=>E (tM.none e);have jh:(aq.mk hZ [dL,bO]).own=n49::((bD.ad.toList++ax.ad.toList++ [g])++(dL.own++bO.own)):=by rw[aq.pu,gD];simp[aq.h,aq.kids,en.cT,J.ad]
    have x3:(aq.mk hZ [dL,bO]).bC=(hZ,[dL.b,bO.b])::(dL.bC++bO.bC):=by rw[aq.gg];simp[aq.h,aq.kids]
    have QQ:∀c∈(bD.ad.toList++ax.ad.toList++ [g])++(dL.own++bO.own),ub c=none/\fH c≠none:=λc dU=>by simp only[List.mem_append,Option.mem_toList,List.mem_singleton] at dU;rcases dU with((dU|dU)|rfl)|dU|dU;exact⟨cy.none (h1.fresh c dU),yK (Bd (Bi (wP c dU)))⟩;exact⟨cy.none (h2.fresh c dU),yK (Bd (Bi (Bg c dU)))⟩;exact⟨j2.none (aP.none (q7.none N)),OO⟩;exact⟨j2.none (E.out c dU).1,yK (Bd (E.out c dU).2)⟩;exact⟨j2.none (aP.none (Z.out c dU).1),yK (Z.out c dU).2⟩
    refine key ⟨λy af=>?_,?_,λc dU=>?_,?_,?_,λy af r W=>?_,?_,λc o On jx=>E3 c o (uP c o (Bs c o On) jx)⟩ (by rw[aq.gR,gD];refine .mk rfl λk hk=>?_;have cR:k∈[dL.br,bO.br]:=hk;simp only[List.mem_cons,List.not_mem_nil,or_false] at cR;rcases cR with rfl|rfl;exact sf;exact kN)
    rw[x3] at af;rcases List.mem_cons.1 af with rfl|af;subst gD;exact⟨aS _ _ _,Fw.le λc o _ bG=>E3 c o bG,ZI.le λc o _ bG=>E3 c o bG,Own.nil _ _ _,λr W=>(by cases W),(mk.mono tM).own.bR⟩;rcases List.mem_append.1 af with af|af;exact(E.one y af).bd (λc o _ bG=>tM c o (ps c o (q7 c o bG))) λr W=>(tD r (List.mem_of_mem_take (E.rows y af r W))).mono (j2.trans E3);exact(Z.one y af).bd (λc o _ bG=>tM c o (ps c o bG)) λr W=>(tD r (List.mem_of_mem_drop (Z.rows y af r W))).mono (j2.trans E3);rw[jh,List.nodup_cons];refine⟨λhm=>(QQ n49 hm).2 wA,?_⟩;have dk:∀o:Option Nat,o.toList.Nodup:=λo=>by cases o<;>simp
    rw[List.nodup_append,List.nodup_append,List.nodup_append,List.nodup_append];refine⟨⟨⟨dk _,dk _,λa ap b dJ e=>?_⟩,by simp,λa ap b dJ e=>?_⟩,⟨E.nodup,Z.nodup,λa ap b dJ e=>?_⟩,λa ap b dJ e=>?_⟩
    grind
    rw[List.mem_singleton] at dJ;simp only[List.mem_append,Option.mem_toList] at ap;rw[<-e] at dJ;subst dJ;rcases ap with ap|ap;exact Bd (Bi (wP _ ap)) N;exact Bd (Bi (Bg _ ap)) N;subst e;exact(E.out a ap).2 (Z.out a dJ).1;subst e;simp only[List.mem_append,Option.mem_toList,List.mem_singleton] at ap dJ;rcases ap with(ap|ap)|rfl;rcases dJ with dJ|dJ;exact wP a ap (E.out a dJ).1;exact Bi (wP a ap) (Z.out a dJ).1;rcases dJ with dJ|dJ;exact Bg a ap (E.out a dJ).1;exact Bi (Bg a ap) (Z.out a dJ).1;rcases dJ with dJ|dJ;exact Bd (E.out a dJ).2 N;exact(Z.out a dJ).2 N;rw[jh] at dU;rcases List.mem_cons.1 dU with rfl|dU;exact⟨j2.none (((aP.trans q7).trans ps).none wA),by rw[aS];simp⟩
    grind
    rw[aq.gR,bf.all_eq,gD];show([]++bf.hV ([dL,bO].map aq.br)).Perm _;rw[List.nil_append];show(dL.br.all++(bO.br.all++ [])).Perm _;rw[List.append_nil];refine(E.all.append Z.all).trans ?_;rw[<-List.map_append,List.take_append_drop];exact aa.map _;rw[aq.gR];have ep:∀x,x∈(bf.mk hZ.ax hZ.bz hZ.hi hZ.ch (hZ.rows.map aT.bV) ([dL,bO].map aq.br)).all->x∈l.map aT.bV:=λx I=>by
     rw[bf.all_eq] at I;subst gD;have dV:x∈[]++(dL.br.all++(bO.br.all++ [])):=I;rw[List.nil_append,List.append_nil] at dV;refine(aa.map aT.bV).mem_iff.1 ?_;rcases List.mem_append.1 dV with dV|dV;obtain⟨r,W,rfl⟩:=List.mem_map.1 (E.all.mem_iff.1 dV)
     grind
     obtain⟨r,W,rfl⟩:=List.mem_map.1 (Z.all.mem_iff.1 dV)
     grind
    subst gD;refine .mk ((jC []).2 []) (λx I=>ins [] [] x (ep x I)) λk hk=>?_;have cR:k∈[dL.br,bO.br]:=hk;simp only[List.mem_cons,List.not_mem_nil,or_false] at cR;rcases cR with rfl|rfl;exact E.ok;exact Z.ok;rw[x3] at af;rcases List.mem_cons.1 af with rfl|af;subst gD;cases W;rcases List.mem_append.1 af with af|af;exact aa.mem_iff.1 (List.mem_of_mem_take (E.rows y af r W));exact aa.mem_iff.1 (List.mem_of_mem_drop (Z.rows y af r W));rw[x3,List.length_cons,List.length_append];have aO:=E.size;have ar:=Z.size;omega
   have left:∀{z:H} {Q:J->H->Prop},u32.le z->(∀t eK,aE z eK 34 2 t ((m.take dG).flatMap cG)->Q t eK)->kA (s.part 0 dG s.c 2) z Q:=λ{z Q} aP ed=>
    F1 (cE.1.mono aP) (by show dG-0<=_;omega) λs' u' bG _=>ed s' u' bG
   have v:=H.le.cell j2 cr.c1;refine⟨by decide,⟨by omega,by omega⟩,_,v,_,v,?_,?_⟩;refine FX ⟨H.le.refl _,left (H.le.refl _) λt eK gG=>⟨gG.le,?_,?_⟩,?_⟩;refine wZ (H.le.refl _) gG yk (by omega) (List.take_sublist _ _) λu' dL E sf hle=>⟨hle,vr ⟨hle,second hle E sf⟩⟩;refine vr ⟨gG.le,wZ (H.le.refl _) gG yk (by omega) (List.take_sublist _ _) λu' dL E sf hle=>⟨hle,second hle E sf⟩⟩;refine vr ⟨H.le.refl _,left (H.le.refl _) λt eK gG=>⟨gG.le,wZ (H.le.refl _) gG yk (by omega) (List.take_sublist _ _) λu' dL E sf hle=>⟨hle,second hle E sf⟩⟩⟩;refine vr ⟨H.le.refl _,FX ⟨H.le.refl _,left (H.le.refl _) λt eK gG=>⟨gG.le,wZ (H.le.refl _) gG yk (by omega) (List.take_sublist _ _) λu' dL E sf hle=>⟨hle,second hle E sf⟩⟩⟩⟩
  refine⟨_,H.le.cell jl cr.c0,_,rfl,leaf,H.le.cell jl cr.ry,λhle=>E9,λuS=>⟨wd,Hx,cC,XT,⟨mG,by omega⟩,_,iR,wd,Hx,cz,IP,⟨mG,by omega⟩,_,mT,?_⟩⟩;by_cases e:(lL l).getD wd.toNat 0=(lK l).getD wd.toNat 0;dsimp only;rw[decide_eq_true e];exact E9;dsimp only;rw[decide_eq_false e];exact inner (by omega)
end k2
end
namespace k2
section
variable{u ub:H}{b:Nat}
def CU:fi Tryz.prog 359=true:=by kernel_rfl
def ME:fi Tryz.prog 361=true:=by kernel_rfl
def M9{n0:Nat}{id:Int}(c0:ub.cell? ⟨n0,0,none⟩=some (.int .i64 id)):G8 ub (.func (.func 361) #[] #[.pointer (some ⟨n0,0,none⟩)]) λr=>decide (r.id=id):=λr v K av ae=>
 .inl ⟨_,_,_,rfl,fg ME,asM r.id r.s ⟨n0,0,none⟩ v K ⟨_,H.le.cell (show ub.le v from av) c0,ae⟩⟩
theorem Sq{n0 cb:Nat}{id:Int}(c0:ub.cell? ⟨n0,0,none⟩=some (.int .i64 id))(c1:ub.cell? ⟨cb,0,none⟩=some (.func (.func 359) #[] #[.pointer (some ⟨n0,0,none⟩),.pointer (some ⟨cb,0,none⟩)])):
  ∀(n:aq) {u:H} {K:H->Prop},ub.le u->(∀x∈n.bC,gY u x)->n.own.Nodup->(∀c∈n.own,ub c=none)->(∀x∈n.bC,∀r∈x.1.rows,Ints ub r.s r.v)->n.bC.length<=10000000->(∀u' n',zC id n u' n'->(∀c o,u c=some o->c∉n.own->u' c=some o)->(∀c,u c≠none->u' c≠none)->K u')->
   TG (some ⟨n.b,0,none⟩) ⟨n0,0,none⟩ ⟨cb,0,none⟩ u K:=by
 intro n
 induction n using aq.ind with
 |h n aG=>
  intro u K cy p5 bX mr lk cA ae;have bW:(n.h,n.kids.map aq.b)∈n.bC:=by rw[aq.gg];exact List.mem_cons_self ..
  have h0:=p5 _ bW;have Z:n.b=n.h.b:=rfl;rw[aq.pu] at bX mr;have p2:=bX;rw[List.nodup_append] at p2;obtain⟨gF,ef,pj⟩:=p2;have EA:∀g,n.h.a7.ad=some g->g∈n.h.cT:=λg N=>by simp[en.cT,N]
  have EB:n.h.a7.ad≠some n.h.b:=λe=>by
   unfold en.cT at gF
   grind
  have alD:n.kids.length<=10000000:=by
   have h1:n.bC.length=1+(n.kids.flatMap aq.bC).length:=by rw[aq.gg,List.length_cons];omega
   have h2:∀ks:List aq,ks.length<=(ks.flatMap aq.bC).length:=λks=>by
    induction ks with
    |nil=>simp|cons k ks A8=>rw[List.flatMap_cons,List.length_append,List.length_cons];have:=k.WV;omega
   have:=h2 n.kids;omega
  apply asL;refine⟨_,rfl,n.h.a7,aV h0.cell 6,?_⟩;refine abn h0.rws.f (M9 c0) cy (λg N=>mr g (List.mem_append_left _ (EA g N))) λs2 dm dD jd h4=>?_;have uR:(n.h.rows.filter λr=>!decide (r.id=id))=n.h.rows.filter λr=>r.id !=id:=List.filter_congr λr _=>by grind
  rw[uR] at dD;refine⟨_,rfl,?_⟩;have Oi:dm n.h.b=some (.cells (fl n.h).toArray 336 (0,0)):=h4 _ _ h0.cell EB;refine SC Oi s2 (n.h.rows.filter λr=>r.id !=id) ?_;obtain⟨bx,ko⟩:∃bx:en,bx={n.h with a7:=s2,rows:=n.h.rows.filter λr=>r.id !=id}:=⟨_,rfl⟩;rw[<-ko];have dJ:bx.b=n.h.b:=by rw[ko]
  have DI:bx.cT=n.h.cT:=by rw[ko];unfold en.cT;simp[jd]
  obtain⟨dN,q2⟩:∃dN,dN=dm.ins n.h.b (.cells (fl bx).toArray 336 (0,0)):=⟨_,rfl⟩;rw[<-q2];have qm:dN n.h.b=some (.cells (fl bx).toArray 336 (0,0)):=by rw[q2];exact aS _ _ _
  have pQ:∀c o,dm c=some o->c≠n.h.b->dN c=some o:=λc o E ah=>by rw[q2,aL _ _ ah];exact E
  have e6:∀c o,u c=some o->c∉n.h.cT->dN c=some o:=λc o E ah=>pQ c o (h4 c o E λe=>ah (EA c e)) λe=>ah (by rw[e];exact List.mem_cons_self ..);have QS:∀c,u c≠none->dN c≠none:=λc E=>by by_cases e:c=n.h.b;rw[e,qm];simp;obtain⟨o,U⟩:=Option.ne_none_iff_exists'.1 E;by_cases ar:n.h.a7.ad=some c;obtain⟨wV,nG⟩:=Option.ne_none_iff_exists'.1 (fj dD (g:=c) (by rw[jd];exact ar));rw[pQ c wV nG e];simp;rw[pQ c o (h4 c o U ar) e];simp
  have q3:ub.le dN:=λc o E=>e6 c o (cy c o E) λhm=>by grind
  have Fx:∀{e k:Nat} {s:J} {xs:List Value},Own u e k s xs->(∀g,s.ad=some g->g≠n.h.b/\n.h.a7.ad≠some g)->Own dN e k s xs:=λU ah=>U.le λc o E hu=>pQ c o (h4 c o hu λe=>(ah c E).2 e) (ah c E).1;have hy:(∀g,n.h.bD.ad=some g->g≠n.h.b/\n.h.a7.ad≠some g)/\(∀g,n.h.e7.ad=some g->g≠n.h.b/\n.h.a7.ad≠some g)/\(∀g,n.h.dw.ad=some g->g≠n.h.b/\n.h.a7.ad≠some g):=by unfold en.cT at gF;rw[List.nodup_cons] at gF;obtain⟨cC,cz⟩:=gF;have ay:∀g,g∈n.h.bD.ad.toList++n.h.e7.ad.toList++n.h.a7.ad.toList++n.h.dw.ad.toList->g≠n.h.b:=λg N e=>cC (by rw[<-e];exact N);rw[List.nodup_append,List.nodup_append,List.nodup_append] at cz;obtain⟨⟨⟨_,_,ff⟩,_,jn⟩,_,iv⟩:=cz;refine⟨λg N=>⟨ay g (by simp[N]),λe=>jn g (by simp[N]) g (by simp[e]) rfl⟩,λg N=>⟨ay g (by simp[N]),λe=>jn g (by simp[N]) g (by simp[e]) rfl⟩,λg N=>⟨ay g (by simp[N]),λe=>iv g (by simp[e]) g (by simp[N]) rfl⟩⟩
  have Dz:∀sl,sl=n.kids.map aq.b->gY dN (bx,sl):=λsl O4=>by subst O4;subst ko;refine⟨qm,Fx h0.bz hy.1,Fx h0.hi hy.2.1,dD.own.le λc o E hu=>pQ c o hu λe=>EB (by rw[<-jd,E,e]),λr W=>(lk _ bW r (List.mem_filter.1 W).1).mono q3,bb.else h0.nf λg o N U=>pQ g o (h4 g o U λe=>(hy.2.2 g N).2 e) (hy.2.2 g N).1⟩
  have yu:bx.dw=n.h.dw:=by rw[ko]
  refine⟨_,rfl,bx.dw,by rw[Z];exact aV qm 7,?_⟩;refine⟨λx w=>0<=x/\x<=n.kids.length/\(∀c o,dN c=some o->c∉n.kids.flatMap aq.own->w c=some o)/\(∀c,dN c≠none->w c≠none)/\∃ds:List aq,ds.length=x.toNat/\(∀(i:Nat) d k,ds[i]?=some d->n.kids[i]?=some k->zC id k w d)/\(∀(i:Nat) k,x.toNat<=i->n.kids[i]?=some k->∀y∈k.bC,gY w y),
   λx _=>((n.kids.length:Int)-x).toNat,⟨by omega,by omega,λc o E _=>E,λc E=>E,[],rfl,λi d k aj=>by simp at aj,λi k _ hk y af=>?_⟩,?_⟩
  obtain⟨fz,z2⟩:k.own ⊆ n.kids.flatMap aq.own/\True:=⟨λc E=>List.mem_flatMap.2 ⟨k,List.mem_of_getElem? hk,E⟩,trivial⟩;have EN:y∈n.bC:=by rw[aq.gg];exact List.mem_cons_of_mem _ (List.mem_flatMap.2 ⟨k,List.mem_of_getElem? hk,af⟩)
  refine(p5 y EN).bd (λc o E U=>e6 c o U λhm=>pj c hm c (fz (List.mem_flatMap.2 ⟨y,af,E⟩)) rfl) λr W=>(lk y EN r W).mono q3;rintro x w ⟨b0,cJ,ow,lR,ds,Ou,r4,tJ⟩;have jl:ub.le w:=λc o E=>ow c o (q3 c o E) λhm=>by grind
  have X7:bx.dw.n=n.kids.length:=by rw[yu];have:=h0.nf.len;simp at this;omega
  have x8:∀{z:Nat} {k:aq},n.kids[z]?=some k->(∀y∈k.bC,y∈n.bC)/\(∀c∈k.own,c∈n.kids.flatMap aq.own):=λhk=>⟨λy af=>by rw[aq.gg];grind,λc E=>List.mem_flatMap.2 ⟨_,List.mem_of_getElem? hk,E⟩⟩;refine⟨λI=>?_,λI=>?_⟩;have gm:x.toNat<n.kids.length:=by omega
  obtain⟨k,hk⟩:∃k,n.kids[x.toNat]?=some k:=⟨_,List.getElem?_eq_getElem gm⟩;have PY:bb dN n.h.dw 1 ((n.kids.map aq.b).map λn=>.pointer (some ⟨n,0,none⟩)):=(Dz _ rfl).nf|>λh=>by rw[yu] at h;exact h
  have P0:bb w n.h.dw 1 ((n.kids.map aq.b).map λn=>.pointer (some ⟨n,0,none⟩)):=bb.else PY λg o N U=>ow g o U λhm=>pj g (by simp[en.cT,N]) g hm rfl;have r8:((n.kids.map aq.b).map λn=>Value.pointer (some ⟨n,0,none⟩))[x.toNat]?=some (.pointer (some ⟨k.b,0,none⟩)):=by simp[hk]
  obtain⟨p,aa,gO⟩:=P0.at'|>.resolve_left (λe=>by grind);have xZ:=gO _ _ r8;obtain⟨cv,cI⟩:=x8 hk;have il:k.own.Nodup:=ef.sublist (List.sublist_flatten_of_mem (List.mem_map_of_mem (f:=aq.own) (List.mem_of_getElem? hk)));have EC:k.bC.length<=10000000:=by
   have h1:n.bC.length=1+(n.kids.flatMap aq.bC).length:=by rw[aq.gg,List.length_cons];omega
   have h2:k.bC.length<=(n.kids.flatMap aq.bC).length:=(List.sublist_flatten_of_mem (List.mem_map_of_mem (f:=aq.bC) (List.mem_of_getElem? hk))).length_le;omega
  refine⟨p,by rw[yu];exact aa,⟨b0,by omega⟩,_,by unfold aR;rw[Nat.mul_one];exact xZ,_,jl.cell c1,.inl ⟨_,_,_,rfl,fg CU,?_⟩⟩;refine aG k (List.mem_of_getElem? hk) jl (tJ x.toNat k (Nat.le_refl _) hk) il (λc E=>mr c (List.mem_append_right _ (cI c E))) (λy af=>lk y (cv y af)) EC λaw d aj cQ AE=>?_;have EH:ub.le aw:=λc o E=>cQ c o (jl c o E) λe=>by grind
  have other:∀{i:Nat} {c7:aq},n.kids[i]?=some c7->i≠x.toNat->∀c∈c7.own,c∉k.own:=λcR ah c E=>VQ ef cR hk ah E;refine⟨⟨by omega,by omega⟩,⟨by omega,by omega,λc o E hm=>cQ c o (ow c o E hm) λe=>hm (cI c e),λc E=>AE c (lR c E),ds++ [d],by grind,λi jc c7 hd cR=>?_,λi c7 hi cR y af=>?_⟩,by dsimp only;omega⟩;by_cases e:i<ds.length;rw[List.getElem?_append_left e] at hd;have hold:=r4 i jc c7 hd cR;have ah:=other cR (by omega);refine⟨λy af=>(hold.one y af).bd (λc o E U=>cQ c o U (ah c (by rw[<-hold.own];exact List.mem_flatMap.2 ⟨y,af,E⟩))) λr W=>?_,hold.own,hold.b,hold.br,hold.rows⟩;obtain⟨z,aP,qZ⟩:=hold.rows y af r W;exact(lk z ((x8 cR).1 z aP) r qZ).mono EH;have dC:i<(ds++ [d]).length:=(List.getElem?_eq_some_iff.1 hd).1;rw[List.length_append,List.length_singleton] at dC;have HC:i=x.toNat:=by omega
  rw[List.getElem?_append_right (by omega),show i-ds.length=0 by omega] at hd;obtain rfl:=Option.some.inj (show some d=some jc from hd);rw[HC,hk] at cR;obtain rfl:=Option.some.inj cR;exact aj;refine(tJ i c7 (by omega) cR y af).bd (λc o E U=>cQ c o U (other cR (by omega) c (List.mem_flatMap.2 ⟨y,af,E⟩))) λr W=>(lk y ((x8 cR).1 y af) r W).mono EH;have gm:x.toNat=n.kids.length:=by omega
  have aiu:ds.length=n.kids.length:=by omega
  have xG:∀{γ:Type} (f g:aq->γ),(∀(i:Nat) d k,ds[i]?=some d->n.kids[i]?=some k->f d=g k)->ds.map f=n.kids.map g:=λf g OJ=>by
   apply List.ext_getElem?
   grind
  have nv:ds.map aq.b=n.kids.map aq.b:=xG _ _ λi d k h1 h2=>(r4 i d k h1 h2).b;have Nl:ds.flatMap aq.own=n.kids.flatMap aq.own:=by rw[List.flatMap_def,List.flatMap_def,xG aq.own aq.own λi d k h1 h2=>(r4 i d k h1 h2).own]
  have xK:ds.map aq.br=n.kids.map λk=>k.br.del id:=xG _ _ λi d k h1 h2=>(r4 i d k h1 h2).br;have mem:∀d∈ds,∃k∈n.kids,zC id k w d:=λd aj=>by obtain⟨i,hi,rfl⟩:=List.getElem_of_mem aj;exact⟨_,List.getElem_mem (show i<n.kids.length by omega),r4 i _ _ (List.getElem?_eq_getElem hi) (List.getElem?_eq_getElem (by omega))⟩
  refine ae w (.mk bx ds) ⟨λy af=>?_,?_,dJ,?_,λy af r W=>?_⟩ (λc o E hm=>?_) λc E=>lR c (QS c E);rw[aq.gg] at af;rcases List.mem_cons.1 af with rfl|af;refine(Dz _ nv).bd (λc o E U=>ow c o U λhm=>pj c (by rw[<-DI];exact E) c hm rfl) λr W=>?_;have ek:r∈n.h.rows:=by grind
  exact(lk _ bW r ek).mono jl;obtain⟨d,aj,af⟩:=List.mem_flatMap.1 af;obtain⟨k,_,hk⟩:=mem d aj;exact hk.one y af;rw[aq.pu,aq.pu];show bx.cT++ds.flatMap aq.own=_;rw[DI,Nl];rw[aq.gR,aq.gR,bf.del_eq];show bf.mk bx.ax bx.bz bx.hi bx.ch (bx.rows.map aT.bV) (ds.map aq.br)=bf.mk n.h.ax n.h.bz n.h.hi n.h.ch ((n.h.rows.map aT.bV).filter λx=>x.1 !=id) ((n.kids.map aq.br).map (bf.del id));rw[xK,List.map_map,List.filter_map,ko];rfl;rw[aq.gg] at af;rcases List.mem_cons.1 af with rfl|af;have ek:r∈n.h.rows:=by have:r∈bx.rows:=W;rw[ko] at this;exact(List.mem_filter.1 this).1
  exact⟨_,bW,ek⟩;obtain⟨d,aj,af⟩:=List.mem_flatMap.1 af;obtain⟨k,ot,hk⟩:=mem d aj;obtain⟨z,aP,qZ⟩:=hk.rows y af r W;exact⟨z,by rw[aq.gg];grind,qZ⟩;rw[aq.pu] at hm
  grind
theorem Kl{iz:Nat}{d leaf:Int}{s:J}{l:List aT}{K:Option Addr->H->Prop}(qU:1<=leaf)(B8:ub.cell? ⟨iz,0,none⟩=some (.int .i64 d))(ry:ub.cell? ((Addr.mk iz 0 none).add 1)=some (.int .i64 leaf))
  (U:aE ub u 34 2 s (l.flatMap cG)) (av:∀r∈l,Ints ub r.s r.v) (bL:hp l d) (h0:l=[]->∀u',u.le u'->K none u') (ae:l≠[]->∀u' n,G0 ub u s l d u' n->jG 2 n.br->K (some ⟨n.b,0,none⟩) u'):zv (some ⟨iz,0,none⟩) s u K:=by
 have cy:=U.le
 apply asR
 intro n0 et cb gF
 obtain⟨eV,iT⟩:∃eV,eV=(Obj.cells #[Value.pointer (some ⟨iz,0,none⟩)] 154 (0,0)):=⟨_,rfl⟩
 rw[<-iT] at gF ⊢
 have Ed:n0≠cb:=λe=>by rw[<-e,aS] at gF;cases gF
 have Ef:u cb=none:=by rw[aL _ _ (Ne.symm Ed)] at gF;exact gF
 refine oN (zs:=[.nilFunc]) rfl (by simp[Value.oneCell']) ?_
 obtain⟨dk,hz⟩:∃dk,dk=(Obj.cells [s9 n0 cb].toArray 239 (0,0)):=⟨_,rfl⟩
 rw[<-hz]
 obtain⟨bE,oB⟩:∃bE,bE=(u.ins n0 eV).ins cb dk:=⟨_,rfl⟩
 rw[<-oB]
 have tO:u.le bE:=by rw[oB];exact(bN _ et).trans (bN _ gF)
 have d0:bE n0=some eV:=by rw[oB,aL _ _ Ed,aS]
 have d1:bE cb=some dk:=by rw[oB,aS]
 obtain⟨jq,akI⟩:∃jq:H,jq=λc=>if c=n0 then some eV else if c=cb then some dk else ub c:=⟨_,rfl⟩
 have fJ:jq n0=some eV:=by grind
 have eQ:jq cb=some dk:=by grind
 have eI:∀{c},c≠n0->c≠cb->jq c=ub c:=λ{c} h1 h2=>by
  grind
 have lY:ub.le jq:=λc o E=>by rw[eI (λe=>by rw[e,cy.none et] at E;cases E) (λe=>by rw[e,cy.none Ef] at E;cases E)];exact E
 have E7:jq.le bE:=λc o E=>by
  by_cases dH:c=n0
  grind
  by_cases aO:c=cb
  grind
  rw[eI dH aO] at E;exact tO c o (cy c o E)
 have dD:aE jq bE 34 2 s (l.flatMap cG):=⟨(U.mono tO).own,E7,λg N=>by rw[eI (λe=>fj U N (by rw[e];exact et)) (λe=>fj U N (by rw[e];exact Ef))];exact U.fresh g N⟩
 have cr:rE jq n0 cb iz d leaf:=⟨by rw[iT] at fJ;exact aV fJ 0,by rw[hz] at eQ;exact aV eQ 0,H.le.cell lY B8,H.le.cell lY ry⟩
 refine⟨_,H.le.cell E7 cr.c1,.inl ⟨_,_,_,rfl,fg CT,?_⟩⟩
 exact Sp qU l.length (Nat.le_refl _) cr dD (λr W=>(av r W).mono lY) bL (λe=>h0 e bE tO) λah u' n E eG=>ae ah u' n ⟨E.one,E.nodup,λc hm=>⟨lY.none (E.out c hm).1,(E.out c hm).2⟩,E.all,E.ok,E.rows,E.size,λc o h1 h2=>E.uG c o (tO c o h1) h2⟩ eG
inductive aN where
 |tree|map|node|vec
structure ak where
 ao:Int
 leaf:Int
 root:Option aq
 m:Nat
 w:List (Int×(J×List Int))
 ez:Nat
def ak.bU(T:ak):Int:=T.leaf
def fw(T:ak):List Value:=[.int .i64 T.ao,.int .i64 T.leaf,.pointer (T.root.map λn=>⟨n.b,0,none⟩),.map (some T.m)]
def du(w:List (Int×(J×List Int))):List (Int×Value):=w.map λe=>(e.1,.slice e.2.1.a e.2.1.n e.2.1.c)
structure cP(ab:Nat->Option aN)(u:H)(b:Nat)(T:ak):Prop where
 cell:u b=some (.cells (fw T).toArray 238 (0,0))
 eh:ab b=some .tree
 map:dI u T.m (du T.w)
 dq:ab T.m=some .map
 vec:∀e∈T.w,Ints u e.2.1 e.2.2/\∀g,e.2.1.ad=some g->ab g=some .vec
 one:∀n,T.root=some n->(∀x∈n.bC,gY u x)/\n.own.Nodup/\(∀c∈n.own,ab c=some .node)/\∀x∈n.bC,∀r∈x.1.rows,∀g,r.s.ad=some g->ab g=some .vec
theorem cP.bd{ab aM:Nat->Option aN}{u':H}{T:ak}(h:cP ab u b T)(M:∀c,ab c≠none->aM c=ab c)(hu:∀c o,u c=some o->ab c≠none->u' c=some o):cP aM u' b T where
 cell:=hu _ _ h.cell (by rw[h.eh];simp)
 eh:=by rw[M _ (by rw[h.eh];simp)];exact h.eh
 map:=h.map.else λo U=>hu _ _ U (by rw[h.dq];simp)
 dq:=by rw[M _ (by rw[h.dq];simp)];exact h.dq
 vec e he:=by obtain⟨h1,h2⟩:=h.vec e he;exact⟨bb.else h1 λg o N U=>hu g o U (by rw[h2 g N];simp),λg N=>by grind⟩
 one n ac:=by obtain⟨h1,h2,h3,aZ⟩:=h.one n ac;refine⟨λx I=>(h1 x I).bd (λc o E U=>hu c o U (by rw[h3 c (List.mem_flatMap.2 ⟨x,I,E⟩)];simp)) λr W=>bb.else ((h1 x I).vec r W) λg o N U=>hu g o U (by grind),h2,λc E=>by grind,λx I r W g N=>by grind⟩
def bd:rG cP:=⟨λh M hu=>h.bd M hu⟩
abbrev In:=jT cP
def l4(T:ak):List iC:=match T.root with
 |none=>[]|some n=>n.br.all
def b7(X:ak):List (Int×List Int):=X.w.map λe=>(e.1,e.2.2)
structure dj(T:ak):Prop where
 ii:1<=T.ao/\T.ao<=64
 lf:1<=T.leaf/\T.leaf<=64
 ids:∀e∈T.w,1<=e.1/\e.1<=1000000000
 vec:∀e∈T.w,(e.2.2.length:Int)=T.ao/\ej e.2.2
 small:T.w.length<=512
 rows:(l4 T).Perm (b7 T)
 ok:∀n,T.root=some n->fp T.ao n.br
 py:∀n,T.root=some n->jG 2 n.br
 size:∀n,T.root=some n->n.bC.length<=1100*T.ez+2000
def gJ:vI Tryz.prog 141 3 23 (.slice none 0 0):=⟨by kernel_rfl,by kernel_rfl,λ_=>by kernel_rfl⟩
def HH(T:ak):(du T.w).length=(b7 T).length:=by simp[du,b7]
theorem cP.zk{ab:Nat->Option aN}{T:ak}(h:cP ab u b T):((b7 T).map (·.1)).Nodup:=by
 obtain⟨es,cl,_,he⟩:=h.map;have:=he.nodup;unfold du at this;rw[List.map_map] at this;unfold b7
 grind
def Ki{Y:H}{ab:Nat->Option aN}{T:ak}{K:Int->H->Prop}(h:In Y u ab b T)(ae:K (b7 T).length u):TH (some ⟨b,0,none⟩) u K:=by apply asN;refine⟨λe=>(by cases e),λ_=>⟨_,rfl,_,aV h.az.cell 3,sH gJ h.az.map ?_⟩⟩;rw[HH];exact ae
end
end k2
