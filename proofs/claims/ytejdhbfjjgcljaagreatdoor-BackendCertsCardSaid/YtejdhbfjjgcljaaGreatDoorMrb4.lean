/- Texts of mine, joined and packed by pack.py. -/
import Derived.Test.YtejdhbfjjgcljaaGreatDoorMrb3
set_option linter.all false
open Go renaming Program->dT,Value->ao,World->cg,TypeId->dF,FuncId->jQ,Addr->bc
open _root_ renaming Nat->N,List->M,Option->aA,Array->cv,Int->o,Bool->aD,False->ed,absurd->aV,inferInstance->tD
open Bool renaming true->ak,false->ax,not->wx
open Go.Obj renaming cells->bj,deferred->u9
open Go.IntKind renaming i64->bY,wrap->bV,u64->bo
open Go.Instr renaming lookup->gz,mapUpdate->kh,makeMap->pE,makeSlice->rX,sliceAt->hP,buildSlice->dI,typeAssert->tE,range->rY
open Go.Builtin renaming append_->ee,delete_->rZ,len_->qc,clear_->qd
open Go.Value renaming iface->l3,agg->cD,bool->hl,map->dH,int->cJ,func->iQ,nilFunc->J2,pointer->hn,slice->ea,oneCell'->cK
open Go.Proofs.Tryz renaming prog->aH
open Go.Fn renaming func->jC
open Int renaming tmod->k8,tdiv->ff,fdiv->ev
open Go.BinOp renaming and->DN,xor->GS
open List.Perm renaming cons->j3,swap->TT
open List.Pairwise renaming nil->oZ
open Go.Addr renaming mk->cw
set_option maxRecDepth 100000
noncomputable section
namespace Go.Proofs.YtejdhbfjjgcljaaGreatDoor
open H
def oD:=@Go.IntWalk.u64_in
def J3:=@Go.IntWalk.i64_in
open _root_.Go.Proofs.Tryz
def aDe(a0 Z:o)(u:H)(K:o->o->Q)(h:(0:o)<=32/\(0:o)<=32/\(0:o)<=32/\(0:o)<=32/\(0:o)<=32/\K (bV bo (bV bo (bV bo (ev a0 (2^32)*ev Z (2^32))+ev (bV bo (bV bo (ev a0 (2^32)*bits DN bo Z 4294967295)+ev (bV bo (bits DN bo a0 4294967295*bits DN bo Z 4294967295)) (2^32))) (2^32))+ev (bV bo (bits DN bo (bV bo (bV bo (ev a0 (2^32)*bits DN bo Z 4294967295)+ev (bV bo (bits DN bo a0 4294967295*bits DN bo Z 4294967295)) (2^32))) 4294967295+bV bo (bits DN bo a0 4294967295*ev Z (2^32)))) (2^32))) (bV bo (a0*Z)) u):Vs a0 Z u K:=aW [] func121 [] h
def an9(a0:U)(Z a2:bc)(u:H)(K:b1->Q)(h:aP ((a0.n:o)=0) (K none u) (eM u Z λa=>br a λb=>ba u b λc=>QH a0 c u λd e f g i _ _ j=>dW j λk=>H.aO (j.ins k (bj #[ah 0] 3 (0,0))) (am k) [ah 0] λl=>gP o 0 l λm n z=>aP (n<(e.n:o)) (bu f n λp=>ba z (aR p n 1) λq=>bu e n λr=>ba z (aR r n 1) λs=>bh (q-s)/\ba z (am k) λt=>bu f t λv=>ba z (aR v t 1) λw=>ba z (am k) λx=>bu e x λy=>ba z (aR y x 1) λY=>bh (w-Y)/\aP (w-Y<q-s) (H.aO z (am k) [ah n] λbX=>bh (n+1)/\m (n+1) bX) (bh (n+1)/\m (n+1) z)) (hN aD (λp q=>dX p (dW q λr=>K (some (am r)) (q.ins r (bj #[ah d,vs e,vs f,bA g,bA i,vs bt,vs a0,vs bt] 213 (0,0)))) (QA a0 (iQ (jC 125) #[] #[aZ (some (am k))]) q λr=>(2:o)≠0/\bh (ff (a0.n:o) 2)/\p8 r a2 λs=>p8 r a2 λt=>(bl (hP 22 (vs a0) none (some (ah (ff (a0.n:o) 2))) none) bg r λ(v:U)w=>H.le r w/\(n2 v w λx y=>H.le r y/\(h8 aH s #[vs x] eI y λ(Y:aA bc)(bX:H)=>H.le r bX/\bl (hP 22 (vs a0) (some (ah (ff (a0.n:o) 2))) none none) bg bX λ(b0:U)cj=>H.le r cj/\n2 b0 cj λcE ch=>H.le r ch/\h8 aH t #[vs cE] eI ch λ(cG:aA bc)(cR:H)=>H.le r cR/\bl (dI 211 2 #[(0,aZ Y),(1,aZ cG)]) bg cR λ(dg:U)cB=>H.le r cB/\dW cB λdn=>K (some (am dn)) (cB.ins dn (bj #[ah d,vs e,vs f,bA g,bA i,vs bt,vs bt,vs dg] 213 (0,0))))/\bl (hP 22 (vs a0) (some (ah (ff (a0.n:o) 2))) none none) bg y λ(Y:U)bX=>H.le r bX/\h8 aH s #[vs x] eI bX λ(b0:aA bc)(cj:H)=>H.le r cj/\n2 Y cj λcE ch=>H.le r ch/\h8 aH t #[vs cE] eI ch λ(cG:aA bc)(cR:H)=>H.le r cR/\bl (dI 211 2 #[(0,aZ b0),(1,aZ cG)]) bg cR λ(dg:U)cB=>H.le r cB/\dW cB λdn=>K (some (am dn)) (cB.ins dn (bj #[ah d,vs e,vs f,bA g,bA i,vs bt,vs bt,vs dg] 213 (0,0))))/\bl (hP 22 (vs a0) (some (ah (ff (a0.n:o) 2))) none none) bg w λ(x:U)y=>H.le r y/\n2 v y λY bX=>H.le r bX/\h8 aH s #[vs Y] eI bX λ(b0:aA bc)(cj:H)=>H.le r cj/\n2 x cj λcE ch=>H.le r ch/\h8 aH t #[vs cE] eI ch λ(cG:aA bc)(cR:H)=>H.le r cR/\bl (dI 211 2 #[(0,aZ b0),(1,aZ cG)]) bg cR λ(dg:U)cB=>H.le r cB/\dW cB λdn=>K (some (am dn)) (cB.ins dn (bj #[ah d,vs e,vs f,bA g,bA i,vs bt,vs bt,vs dg] 213 (0,0))))/\bl (hP 22 (vs a0) (some (ah (ff (a0.n:o) 2))) none none) bg r λ(v:U)w=>H.le r w/\bl (hP 22 (vs a0) none (some (ah (ff (a0.n:o) 2))) none) bg w λ(x:U)y=>H.le r y/\n2 x y λY bX=>H.le r bX/\h8 aH s #[vs Y] eI bX λ(b0:aA bc)(cj:H)=>H.le r cj/\n2 v cj λcE ch=>H.le r ch/\h8 aH t #[vs cE] eI ch λ(cG:aA bc)(cR:H)=>H.le r cR/\bl (dI 211 2 #[(0,aZ b0),(1,aZ cG)]) bg cR λ(dg:U)cB=>H.le r cB/\dW cB λdn=>K (some (am dn)) (cB.ins dn (bj #[ah d,vs e,vs f,bA g,bA i,vs bt,vs bt,vs dg] 213 (0,0))))) λp=>eM z Z λq=>br q λr=>ba z (r.add 1) λs=>aP ((a0.n:o)<=s) (p ak z) (ba z (am k) λt=>bu e t λv=>ba z (aR v t 1) λw=>ba z (am k) λx=>bu f x λy=>ba z (aR y x 1) λY=>p (decide (w=Y)) z)))):aeB a0 Z a2 u K:=nD 1 [7,77,99] func122 [aX 506 [(26,bT)],aX 254 [(73,.bool)]] h
def aFy(a0:U)(Z:o)(u:H)(K:o->U->U->o->o->U->o->Q)(h:K6 Z u λa b=>cN (a=ak) (K 0 bt bt 0 0 bt 30 b) (aP ((a0.n:o)=0) (K 0 bt bt 0 0 bt 1 b) (QK a0 Z b λc d e=>cN (d=0) (K 0 bt bt 0 0 bt d e) (bu a0 0 λf=>bu a0 0 λg=>bn e ((f.add 0).add 1) λi=>bn e ((g.add 0).add 1) λj=>o8 i e λk l=>H.le e l/\o8 j l λm n=>gP o 0 n λz p q=>aP (p<(a0.n:o)) (bu a0 p λr=>ba q (aR r p 2) λ_=>bn q ((aR r p 2).add 1) λs=>gP o 0 q λt v w=>aP (v<(s.n:o)) (bu s v λx=>ba w (aR x v 1) λy=>bu k v λY=>bu m v λbX=>ba w (aR Y v 1) λb0=>ba w (aR bX v 1) λcj=>bu k v λcE=>H.aO w (aR cE v 1) [ah (ite (y<b0) y b0)] λch=>bu m v λcG=>H.aO ch (aR cG v 1) [ah (ite (y>cj) y cj)] λcR=>bh (v+1)/\t (v+1) cR) (bh (p+1)/\z (p+1) w)) (K 2 k m 0 0 c 0 q))))):QH a0 Z u K:=aW [] func123 [aX 506 [(46,bT)],aX 129638 [(53,bT)]] h
def aER(a0:U)(Z:ao)(u:H)(K:Q)(h:aeI a0 (a0.n:o) Z u λa=>K a):QA a0 Z u K:=aW [] func124 [] h
def aEg(bI:o)(bN:U)(cc:o)(cp:U)(a2:bc)(u:H)(K:o->Q)(h:ba u a2 λa=>bu bN a λb=>ba u (aR b a 1) λc=>ba u a2 λd=>bu cp d λe=>ba u (aR e d 1) λf=>bh (c-f)/\K (c-f) u):aoL bI bN cc cp a2 u K:=nD 2 [] func125 [] h
def aEG(a0:U)(u:H)(K:U->Q)(h:aP (a0.a=none) (K bt u) (bl (dI 22 0 #[]) bg u λ(a:U)b=>bl (ee #[22,22] 22 #[vs a,vs a0]) bg b λ(c:U)d=>K c d)):n2 a0 u K:=aW [] func126 [] h
def aod(a0:U)(Z a2:bc)(u:H)(K:b1->Q)(h:aP ((a0.n:o)=0) (K none u) (eM u Z λa=>br a λb=>eM u (b.add 2) λc=>VP c (a0.n:o) u λd _ e=>bu a0 d λf=>bn e ((aR f d 2).add 1) λg=>o8 g e λi j=>dW j λk=>H.aO (j.ins k (bj #[vs bt] 30 (0,0))) (am k) [vs i] λl=>bn l (am k) λm=>QG m a0 l λn z p q r _ _ s=>hN (aA bc) (λ_ t=>dW t λv=>H.aO (t.ins v (bj #[J2] 219 (0,0))) (am v) [iQ (jC 130) #[] #[aZ (some (am k))]] λw=>QA a0 (iQ (jC 131) #[] #[aZ (some (am v))]) w λx=>(2:o)≠0/\bh (ff (a0.n:o) 2)/\∃y:H,H.le y x/\p8 y a2 λY=>p8 y a2 λbX=>(bl (hP 22 (vs a0) none (some (ah (ff (a0.n:o) 2))) none) bg x λ(b0:U)cj=>H.le y cj/\(n2 b0 cj λcE ch=>H.le y ch/\(h8 aH Y #[vs cE] eI ch λ(cG:aA bc)(cR:H)=>H.le y cR/\bl (hP 22 (vs a0) (some (ah (ff (a0.n:o) 2))) none none) bg cR λ(dg:U)cB=>H.le y cB/\n2 dg cB λdn bU=>H.le y bU/\h8 aH bX #[vs dn] eI bU λ(aX:aA bc)(eO:H)=>H.le y eO/\bl (dI 211 2 #[(0,aZ cG),(1,aZ aX)]) bg eO λ(eC:U)fb=>H.le y fb/\dW fb λft=>K (some (am ft)) (fb.ins ft (bj #[ah n,vs z,vs p,bA q,bA r,vs bt,vs bt,vs eC] 213 (0,0))))/\bl (hP 22 (vs a0) (some (ah (ff (a0.n:o) 2))) none none) bg ch λ(cG:U)cR=>H.le y cR/\h8 aH Y #[vs cE] eI cR λ(dg:aA bc)(cB:H)=>H.le y cB/\n2 cG cB λdn bU=>H.le y bU/\h8 aH bX #[vs dn] eI bU λ(aX:aA bc)(eO:H)=>H.le y eO/\bl (dI 211 2 #[(0,aZ dg),(1,aZ aX)]) bg eO λ(eC:U)fb=>H.le y fb/\dW fb λft=>K (some (am ft)) (fb.ins ft (bj #[ah n,vs z,vs p,bA q,bA r,vs bt,vs bt,vs eC] 213 (0,0))))/\bl (hP 22 (vs a0) (some (ah (ff (a0.n:o) 2))) none none) bg cj λ(cE:U)ch=>H.le y ch/\n2 b0 ch λcG cR=>H.le y cR/\h8 aH Y #[vs cG] eI cR λ(dg:aA bc)(cB:H)=>H.le y cB/\n2 cE cB λdn bU=>H.le y bU/\h8 aH bX #[vs dn] eI bU λ(aX:aA bc)(eO:H)=>H.le y eO/\bl (dI 211 2 #[(0,aZ dg),(1,aZ aX)]) bg eO λ(eC:U)fb=>H.le y fb/\dW fb λft=>K (some (am ft)) (fb.ins ft (bj #[ah n,vs z,vs p,bA q,bA r,vs bt,vs bt,vs eC] 213 (0,0))))/\bl (hP 22 (vs a0) (some (ah (ff (a0.n:o) 2))) none none) bg x λ(b0:U)cj=>H.le y cj/\bl (hP 22 (vs a0) none (some (ah (ff (a0.n:o) 2))) none) bg cj λ(cE:U)ch=>H.le y ch/\n2 cE ch λcG cR=>H.le y cR/\h8 aH Y #[vs cG] eI cR λ(dg:aA bc)(cB:H)=>H.le y cB/\n2 b0 cB λdn bU=>H.le y bU/\h8 aH bX #[vs dn] eI bU λ(aX:aA bc)(eO:H)=>H.le y eO/\bl (dI 211 2 #[(0,aZ dg),(1,aZ aX)]) bg eO λ(eC:U)fb=>H.le y fb/\dW fb λft=>K (some (am ft)) (fb.ins ft (bj #[ah n,vs z,vs p,bA q,bA r,vs bt,vs bt,vs eC] 213 (0,0)))) λt=>eM s Z λv=>br v λw=>ba s (w.add 1) λx=>aP ((a0.n:o)<=x) (dW s λy=>K (some (am y)) (s.ins y (bj #[ah n,vs z,vs p,bA q,bA r,vs bt,vs a0,vs bt] 213 (0,0)))) (aP (q=0/\r=0) (dW s λy=>K (some (am y)) (s.ins y (bj #[ah n,vs z,vs p,bA q,bA r,vs bt,vs a0,vs bt] 213 (0,0)))) (t none s)))):aeT a0 Z a2 u K:=LV 1 (C:={P:=aH,exp:=[7,54,10,77],wrap:=ax,iv:=iv,oO:=[],oY:=[],part:=ak}) (args:=[(ea a0.a a0.n a0.c),(hn (some Z)),(hn (some a2))]) (oh _ _) func127 (by kernel_rfl) [aX 127 [(4,.ptr)]] (by kernel_rfl) (by kernel_rfl) (Eq.mp (by kernel_rfl) h)
def aEy(a0:b1)(Z:o)(u:H)(K:o->o->Q)(h:Qx a0 Z 1 1000000000 u λa b=>cN (a=0) (K 0 a b) (Hy a0 b λc d=>bV bo Z≠0/\K (bV bY (k8 c (bV bo Z))) 0 d)):VP a0 Z u K:=aW [] func128 [] h
def aFw(a0 Z:U)(u:H)(K:o->U->U->o->o->U->o->Q)(h:qv a0 (a0.n:o) u λa b=>cN (a=0) (K 0 bt bt 0 0 bt a b) (QK Z (a0.n:o) b λc d e=>cN (d=0) (K 0 bt bt 0 0 bt d e) (sx o o o 0 0 0 e λf g i j k=>aP (g<(Z.n:o)) (bu Z g λl=>ba k (aR l g 2) λ_=>bn k ((aR l g 2).add 1) λm=>HB a0 m k λn z p=>sR n z i j p λq r=>aP ((0:o)<q) (bh (g+1)/\f (g+1) n z r) (bh (g+1)/\f (g+1) i j r)) (o8 a0 k λl m=>H.le k m/\K 3 l bt i j c 0 m)))):QG a0 Z u K:=aW [] func129 [(506,⟨[(34,bT)],[(1,[.int .u64,.int .u64])]⟩)] h
def aFS(bI:o)(bN:U)(Z:bc)(u:H)(K:o->o->Q)(h:bn u Z λa=>sa a bN u λb c _ d=>K b c d):aoV bI bN Z u K:=nD 1 [] func130 [] h
def aFT(bI:o)(bN:U)(cc:o)(cp:U)(a2:bc)(u:H)(K:o->Q)(h:p8 u a2 λa=>p8 u a2 λb=>h8 aH a #[cD #[ah bI,vs bN]] [bf.agg [aE.int bo,aE.int bo]] u λ(c:o)(d:o)(e:H)=>H.le u e/\h8 aH b #[cD #[ah cc,vs cp]] [bf.agg [aE.int bo,aE.int bo]] e λ(f:o)(g:o)(i:H)=>sR c d f g i λj k=>K j k):aoW bI bN cc cp a2 u K:=nD 2 [] func131 [] h
def aEk(a0:U)(Z:o)(u:H)(K:o->Q)(h:iz o o 0 0 u λa b c d=>aP (c<(a0.n:o)) (bu a0 c λe=>bn d (aR e c 1) λf=>qv f Z d λg i=>cN (g=0) (K g i) (bh (c+1)/\a b (c+1) i)) (K 0 d)):Qs a0 Z u K:=aW [] func132 [aX 26 [(4,bT),(10,bT)]] h
def aEA(a0:b1)(Z:o)(u:H)(K:U->o->Q)(h:Qx a0 Z 0 65536 u λa b=>cN (a=0) (K bt a b) (bl (rX 30 (ah Z) (ah Z)) bg b λ(c:U)d=>dW d λe=>H.aO (d.ins e (bj #[vs bt] 30 (0,0))) (am e) [vs c] λf=>bn f (am e) λg=>gP o 0 f λi j k=>aP (j<(g.n:o)) (bn k (am e) λl=>bu l j λm=>H.aO k (aR m j 1) [ah j] λn=>bh (j+1)/\i (j+1) n) (aeE a0 Z k λl m=>nw aH (Kl (Tryz.f133.body.getD Code.skip)) 49 [(31,l),(30,ah Z),(29,aZ a0),(22,hl ax),(21,ah j),(20,ah (g.n:o)),(19,vs g),(7,aZ (some (am e))),(18,vs c),(17,ah Z),(15,hl ax),(14,ah a),(6,ah a),(13,ah a),(12,ah Z),(11,aZ a0),(5,ah 0),(4,vs bt),(0,aZ a0),(1,ah Z)] m λ(n:N)(z:H)=>bn z (am e) λp=>z n=some (u9 (some []))/\K p 0 (z.ins n (u9 none))))):VR a0 Z u K:=aW [7] func133 [aX 122 [(21,bT)]] h
def aEj(a0 Z a2 a3:bc)(u:H)(K:Q)(h:ba u a0 λa=>bl (rX 133 (ah a) (ah a)) bg u λ(b:U)c=>ba c a0 λd=>bl (rX 30 (ah d) (ah d)) bg c λ(e:U)f=>ba f a0 λg=>gP o 0 f λi j k=>aP (j<g) (ba k Z λl=>bl (rX 30 (ah l) (ah l)) bg k λ(m:U)n=>bu b j λz=>H.aO n (aR z j 1) [vs m] λp=>bh (j+1)/\i (j+1) p) (bn k a2 λl=>gP o 0 k λm n z=>aP (n<(l.n:o)) (bu l n λp=>bn z (aR p n 1) λq=>bn z a3 λr=>Qt r q z λs _ _ t=>bu e s λv=>ba t (aR v s 1) λw=>bh (w+1)/\bu e s λx=>H.aO t (aR x s 1) [ah (w+1)] λy=>ba y Z λY=>gP o 0 y λbX b0 cj=>aP (b0<Y) (bu b s λcE=>bu q b0 λch=>bn cj (aR cE s 1) λcG=>bu cG b0 λcR=>ba cj (aR cR b0 1) λdg=>ba cj (aR ch b0 1) λcB=>bh (dg+cB)/\bu cG b0 λdn=>H.aO cj (aR dn b0 1) [ah (dg+cB)] λbU=>bh (b0+1)/\bX (b0+1) bU) (bh (n+1)/\m (n+1) cj)) (ba z a0 λp=>gP o 0 z λq r s=>aP (r<p) (ba s Z λt=>gP o 0 s λv w x=>aP (w<t) (bu e r λy=>ba x (aR y r 1) λY=>aP ((0:o)<Y) (bu b r λbX=>bu e r λb0=>bn x a3 λcj=>bu cj r λcE=>bn x (aR cE r 1) λch=>bn x (aR bX r 1) λcG=>bu cG w λcR=>ba x (aR cR w 1) λdg=>ba x (aR b0 r 1) λcB=>VI dg cB x λdn bU=>H.le x bU/\bu ch w λaX=>H.aO bU (aR aX w 1) [ah dn] λeO=>bh (w+1)/\v (w+1) eO) (bh (w+1)/\v (w+1) x)) (bh (r+1)/\q (r+1) x)) (K s)))):aeC a0 Z a2 a3 u K:=nD 0 [] func134 [aX 58 [(19,bT)],aX 122 [(30,bT)],aX 125342 [(47,bT)],aX 126 [(66,bT)],aX 32358 [(70,bT)]] h
def aEm(a0 Z:U)(u:H)(K:o->o->o->Q)(h:zt o o o o 0 0 0 0 u λa b c d e f=>aP (c<(a0.n:o)) (bu a0 c λg=>bn f (aR g c 1) λi=>sa i Z f λj k _ l=>aP (c=0) (bh (c+1)/\a c (c+1) j k l) (sR j k d e l λm n=>aP (m<0) (bh (c+1)/\a c (c+1) j k n) (bh (c+1)/\a b (c+1) d e n))) (K b d e f)):Qt a0 Z u K:=aW [] func135 [(26,⟨[(4,bT),(12,bT)],[(0,[.int .u64,.int .u64])]⟩)] h
def aEl(a0 Z:o)(u:H)(K:o->Q)(h:Z≠0/\bh (ff a0 Z)/\Z≠0/\aP (k8 a0 Z<0) (bh (ff a0 Z-1)/\K (ff a0 Z-1) u) (K (ff a0 Z) u)):VI a0 Z u K:=aW [] func136 [] h
def aoa(a0 Z:U)(u:H)(K:o->o->o->o->Q)(h:VJ a0 u λa b=>cN (a=0) (K 0 0 0 a b) (bu a0 0 λc=>bn b (c.add 0) λd=>qv Z (d.n:o) b λe f=>cN (e=0) (K 0 0 0 e f) (Qt a0 Z f λg i j k=>K g i j 0 k))):Hx a0 Z u K:=aW [] func137 [] h
def aEz(a0:b1)(Z:o)(u:H)(K:o->o->Q)(h:Qx a0 Z 0 30 u λa b=>cN (a=0) (K 0 a b) (Hy a0 b λc d=>aej c d λe f=>(2:o)≠0/\bh (ff e 2)/\K (ite (Z<ff e 2) Z (ff e 2)) 0 f)):VQ a0 Z u K:=aW [] func138 [] h
def aDM(a0:b1)(Z:o)(a2:U)(a3:o)(a4:ao)(u:H)(K:Q)(h:bl (pE 166 none) [bf.one aE.map] u λ(a:aA N)b=>bl (unit (kh 166 (dH a) (ah Z) (hl ak))) [] b λc=>yu a0 Z a2 c λd e f g=>bl (dI 263 1 #[(0,cD #[ah d,bA e,bA f])]) bg g λ(i:U)j=>dW j λk=>H.aO (j.ins k (bj #[vs bt] 263 (0,0))) (am k) [vs i] λl=>Ot l λm n=>bn n (am k) λz=>aep z n λp q=>aP ((0:o)<p) (Ep (l3 265 (aZ (some (am k)))) q λr s=>bl (tE r 20 68 ax) [bf.agg [aE.int bY,aE.int bo,aE.int bo]] s λ(t:o)(v:o)(w:o)x=>l9 a4 #[cD #[ah t,bA v,bA w]] eH x λ(y:aD)Y=>cN (y=ak) (K Y) (br a0 λbX=>e5 Y (bX.add 3) λb0=>bl (gz 182 (dH b0) (ah t) ax) eI Y λ(cj:aA bc)cE=>br cj λch=>2<=31/\((0:o)<=a3/\a3<(31:o))/\bn cE (aR (ch.add 1) a3 1) λcG=>gP o 0 cE λcR dg cB=>aP (dg<(cG.n:o)) (bu cG dg λdn=>ba cB (aR dn dg 1) λbU=>bl (gz 166 (dH a) (ah bU) ax) eH cB λ(aX:aD)eO=>cN (aX=ak) (bl (unit (kh 166 (dH a) (ah bU) (hl ak))) [] eO λeC=>yu a0 bU a2 eC λfb ft gB gM=>Ah (l3 265 (aZ (some (am k)))) (l3 68 (cD #[ah fb,bA ft,bA gB])) gM λiE=>bh (dg+1)/\cR (dg+1) iE) (bh (dg+1)/\cR (dg+1) eO)) (m cB))) (K q)):KY a0 Z a2 a3 a4 u K:=aW [11] func139 [aX 14 [],aX 1838 [(46,bT)]] h
def aDT(a0:b1)(Z:U)(a2:o)(u:H)(K:o->Q)(h:br a0 λa=>ba u (a.add 4) λb=>br a0 λc=>e5 u (c.add 3) λd=>bl (gz 182 (dH d) (ah b) ax) eI u λ(e:aA bc)f=>br e λg=>ba f (g.add 32) λi=>iz o o b i f λj k l m=>aP (a2<l) (VE a0 k Z l m λn z=>bh (l-1)/\j n (l-1) z) (K k m)):Qp a0 Z a2 u K:=aW [] func140 [aX 58 [(7,bT),(8,bT)]] h
def aDR(bI bN da:o)(Z a2 a3:bc)(u:H)(K:aD->Q)(h:eM u Z λa=>Ai a bI bN da u λ_ b=>ba b a2 λc=>bh (c+1)/\H.aO b a2 [ah (c+1)] λd=>ba d a2 λe=>eM d a3 λf=>br f λg=>ba d (g.add 1) λi=>bh (4*i)/\K (decide (e<4*i)) d):aoF bI bN da Z a2 a3 u K:=nD 1 [] func141 [] h
def aDO(a0:b1)(Z a2 a3:o)(u:H)(K:Q)(h:dW u λa=>eM (u.ins a (bj #[aZ a0] 122 (0,0))) (am a) λb=>br b λc=>e5 (u.ins a (bj #[aZ a0] 122 (0,0))) (c.add 3) λd=>bl (gz 182 (dH d) (ah Z) ax) eI (u.ins a (bj #[aZ a0] 122 (0,0))) λ(e:aA bc)f=>dW f λg=>H.aO (f.ins g (bj #[aZ none] 227 (0,0))) (am g) [aZ e] λi=>eM i (am g) λj=>br j λk=>2<=31/\((0:o)<=a3/\a3<(31:o))/\bn i (aR (k.add 1) a3 1) λl=>bl (dI 30 1 #[(0,ah a2)]) bg i λ(m:U)n=>bl (ee #[30,30] 30 #[vs l,vs m]) bg n λ(z:U)p=>hN U (λq r=>eM r (am g) λs=>br s λt=>2<=31/\((0:o)<=a3/\a3<(31:o))/\H.aO r (aR (t.add 1) a3 1) [vs q] λv=>K v) λq=>eM p (am a) λr=>Qo r a3 p λs t=>aP (s<(z.n:o)) (aeG z (iQ (jC 176) #[] #[aZ (some (am a)),aZ (some (am g))]) t λv=>eM v (am a) λw=>Qo w a3 v λx y=>bl (hP 30 (vs z) none (some (ah x)) none) bg y λ(Y:U)bX=>q Y bX) (q z t)):Qn a0 Z a2 a3 u K:=aW [4,8] func142 [aX 15 [(9,.slice)]] h
def an1(a0:o)(u:H)(K:aD->Q)(h:K (wx (decide (a0=a0))) u):Vw a0 u K:=aW [] func160 [] h
def aFc(bI bN da ei fH gm l6 l7:o)(l8:aD)(Z a2:o)(u:H)(K:o->o->o->o->o->o->o->o->aD->Q)(h:dW u λa=>∃b:o->o->o->o->o->o->o->o->o->o->aD->H->Prop,∃c:o->o->o->o->o->o->o->o->o->o->aD->H->N,b a2 Z 0 0 0 0 0 0 0 0 ax (u.ins a (bj #[ah bI,ah bN,ah da,ah ei,ah fH,ah gm,ah l6,ah l7,hl l8] 155 (0,0)))/\∀d:o,∀e:o,∀f:o,∀g:o,∀i:o,∀j:o,∀k:o,∀l:o,∀m:o,∀n:o,∀z:aD,∀p:H,b d e f g i j k l m n z p->aP ((0:o)<d) (aP ((8:o)<=e) (H.aO p ((am a).add 8) [hl ak] λq=>ba q (am a) λr=>ba q ((am a).add 1) λs=>ba q ((am a).add 2) λt=>ba q ((am a).add 3) λv=>ba q ((am a).add 4) λw=>ba q ((am a).add 5) λx=>ba q ((am a).add 6) λy=>ba q ((am a).add 7) λY=>uU q ((am a).add 8) λbX=>K r s t v w x y Y bX q) (2<=8/\((0:o)<=e/\e<(8:o))/\ba p (aR (am a) e 1) λq=>bh (d+q)/\(65536:o)≠0/\2<=8/\((0:o)<=e/\e<(8:o))/\H.aO p (aR (am a) e 1) [ah (k8 (d+q) 65536)] λr=>(65536:o)≠0/\bh (ff (d+q) 65536)/\bh (e+1)/\b (ff (d+q) 65536) (e+1) f g i j k l m n z r/\c (ff (d+q) 65536) (e+1) f g i j k l m n z r<c d e f g i j k l m n z p)) (ba p (am a) λq=>ba p ((am a).add 1) λr=>ba p ((am a).add 2) λs=>ba p ((am a).add 3) λt=>ba p ((am a).add 4) λv=>ba p ((am a).add 5) λw=>ba p ((am a).add 6) λx=>ba p ((am a).add 7) λy=>uU p ((am a).add 8) λY=>K q r s t v w x y Y p)):V9 bI bN da ei fH gm l6 l7 l8 Z a2 u K:=aW [3] func161 [(26,⟨[(2,bT),(7,bT)],[(0,[.int .i64,.int .i64,.int .i64,.int .i64,.int .i64,.int .i64,.int .i64,.int .i64,.bool])]⟩)] h
def aFH(a0:U)(Z:o)(u:H)(K:U->o->Q)(h:aP ((512:o)<(a0.n:o)) (K bt 2 u) (bl (pE 166 none) [bf.one aE.map] u λ(a:aA N)b=>zt U o U o bt 0 bt 0 b λc d e f g i=>aP (g<(a0.n:o)) (bu a0 g λj=>ba i (aR j g 2) λk=>bn i ((aR j g 2).add 1) λl=>ts U o (λm n z=>qv l Z z λp q=>cN (p=0) (K bt p q) (bl (unit (kh 166 (dH a) (ah k) (hl ak))) [] q λr=>bl (dI 30 1 #[(0,ah k)]) bg r λ(s:U)t=>bl (ee #[30,30] 30 #[vs f,vs s]) bg t λ(v:U)w=>bh (g+1)/\c m n v (g+1) w)) λm=>aP (k<1) (K bt 50 i) (aP ((1000000000:o)<k) (K bt 50 i) (bl (gz 166 (dH a) (ah k) ax) eH i λ(n:aD)z=>dX n (K bt 50 z) (m d e z)))) (Cq f i λj=>K f 0 j))):QK a0 Z u K:=aW [] func163 [aX 250 [(4,.slice),(5,bT),(7,.slice),(17,bT)],aX 16025 [(4,.slice),(5,bT)]] h
def aEV(a0:U)(Z:o)(a2:ao)(u:H)(K:Q)(h:iz o o 0 20 u λa b c d=>aP (c<=Z) (QB a0 b c a2 d λe=>bh (c+20)/\a c (c+20) e) (QB a0 b Z a2 d λe=>sx o o o b c 20 e λf _ _ g i=>aP (g<Z) (bh (2*g)/\iz o o 0 (2*g) i λj k l m=>aP (l<=Z) (bh (k+g)/\Hz a0 k (k+g) l a2 m λn=>bh (2*g)/\bh (l+2*g)/\j l (l+2*g) n) (bh (k+g)/\aP (k+g<Z) (Hz a0 k (k+g) Z a2 m λn=>bh (g*2)/\f k l (g*2) n) (bh (g*2)/\f k l (g*2) m))) (K i))):aeI a0 Z a2 u K:=aW [] func164 [aX 28 [(7,bT),(8,bT)],aX 62 [(7,bT),(8,bT),(6,bT)],aX 3988 [(7,bT),(8,bT)]] h
def adW(a0:b1)(Z a2 a3:o)(u:H)(K:o->Q)(h:aP (a0=none) (K 3 u) (aP (Z<a2) (K 1 u) (aP (a3<Z) (K 1 u) (K 0 u)))):Qx a0 Z a2 a3 u K:=aW [] func165 [] h
def aoc(a0:b1)(u:H)(K:o->Q)(h:aP (a0=none) (K 0 u) (br a0 λa=>dA u a λb=>br a0 λc=>H.aO u c [bA (bV bo (b+11400714819323198485))] λd=>br a0 λe=>dA d e λf=>(0:o)<=30/\(0:o)<=27/\(0:o)<=31/\K (bits GS bo (bV bo (bits GS bo (bV bo (bits GS bo f (ev f (2^30))*13787848793156543929)) (ev (bV bo (bits GS bo f (ev f (2^30))*13787848793156543929)) (2^27))*10723151780598845931)) (ev (bV bo (bits GS bo (bV bo (bits GS bo f (ev f (2^30))*13787848793156543929)) (ev (bV bo (bits GS bo f (ev f (2^30))*13787848793156543929)) (2^27))*10723151780598845931)) (2^31))) d)):Hy a0 u K:=aW [] func166 [] h
def aEB(a0:b1)(Z:o)(u:H)(K:ao->Q)(h:dW u λa=>∀b:N,u.ins a (bj #[aZ a0] 171 (0,0)) b=none->K (iQ (jC 195) #[] #[aZ (some (am b)),aZ (some (am a))]) ((u.ins a (bj #[aZ a0] 171 (0,0))).ins b (bj #[ah Z] 3 (0,0)))):aeE a0 Z u K:=aW [2,3] func167 [] h
def aob(a0:U)(u:H)(K:o->Q)(h:hN o (λ_ a=>bu a0 0 λb=>bn a (b.add 0) λc=>Qs a0 (c.n:o) a λd e=>K d e) λa=>aP ((a0.n:o)=0) (K 1 u) (aP ((64:o)<(a0.n:o)) (K 1 u) (a 0 u))):VJ a0 u K:=aW [] func168 [aX 3 [(2,bT)]] h
def aDN(a0:b1)(Z:o)(a2:U)(u:H)(K:o->o->o->Q)(h:br a0 λa=>e5 u (a.add 3) λb=>bl (gz 182 (dH b) (ah Z) ax) eI u λ(c:aA bc)d=>br c λe=>bn d e λf=>sa f a2 d λg i _ j=>K Z g i j):yu a0 Z a2 u K:=aW [] func170 [] h
def an8(a0:U)(u:H)(K:o->Q)(h:K (a0.n:o) u):aep a0 u K:=aW [] func171 [] h
def an3(a0:ao)(u:H)(K:ao->Q)(h:qD a0 "Len" #[] cx u λ(a:o)b=>bh (a-1)/\qD a0 "Swap" #[ah 0,ah (a-1)] [] b λc=>KV a0 0 (a-1) c λ_ d=>qD a0 "Pop" #[] [bf.one aE.val] d λ(e:ao)f=>K e f):Ep a0 u K:=aW [] func172 [] h
def aDL(a0:b1)(Z:o)(a2:U)(a3:o)(u:H)(K:o->Q)(h:yu a0 Z a2 u λa b c d=>zt aD o o o ak a b c d λe f g i j k=>dX f (br a0 λl=>e5 k (l.add 3) λm=>bl (gz 182 (dH m) (ah g) ax) eI k λ(n:aA bc)z=>br n λp=>2<=31/\((0:o)<=a3/\a3<(31:o))/\bn z (aR (p.add 1) a3 1) λq=>akt aD o o o o ax 0 g i j z λr s t v w x y=>aP (t<(q.n:o)) (bu q t λY=>ba y (aR Y t 1) λbX=>yu a0 bX a2 y λb0 cj cE ch=>Cs b0 cj cE v w x ch λcG cR=>dX cG (bh (t+1)/\r ak (t+1) b0 cj cE cR) (bh (t+1)/\r s (t+1) v w x cR)) (e s v w x y)) (K g k)):VE a0 Z a2 a3 u K:=aW [] func173 [(58,⟨[(10,.bool)],[(0,[.int .i64,.int .u64,.int .u64])]⟩),(3734,⟨[(10,.bool),(32,bT)],[(0,[.int .i64,.int .u64,.int .u64])]⟩)] h
def aDS(a0:b1)(Z:o)(u:H)(K:o->Q)(h:aP (Z=0) (br a0 λa=>ba u (a.add 1) λb=>bh (2*b)/\K (2*b) u) (br a0 λa=>ba u (a.add 1) λb=>K b u)):Qo a0 Z u K:=aW [] func174 [] h
def aDP(a0 Z:o)(a2 a3:bc)(u:H)(K:o->Q)(h:eM u a2 λa=>eM u a3 λb=>br b λc=>bn u c λd=>eM u a2 λe=>eM u a3 λf=>br f λg=>bn u g λi=>yu a a0 d u λj k l m=>H.le u m/\yu e Z i m λn z p q=>Cs j k l n z p q λr s=>dX r (K (-1) s) (K 1 s)):aeo a0 Z a2 a3 u K:=nD 2 [] func176 [] h
def aET(a0:U)(Z a2:o)(a3:ao)(u:H)(K:Q)(h:bh (Z+1)/\gP o (Z+1) u λa b c=>aP (b<a2) (gP o b c λd e f=>we (λg=>bh (e-1)/\bh (e-1)/\bu a0 (e-1) λi=>bu a0 e λj=>ba g (aR i (e-1) 2) λk=>bn g ((aR i (e-1) 2).add 1) λl=>ba g (aR j e 2) λm=>bn g ((aR j e 2).add 1) λn=>bu a0 e λz=>H.aO g (aR z e 2) [ah k,vs l] λp=>bu a0 (e-1) λq=>H.aO p (aR q (e-1) 2) [ah m,vs n] λr=>bh (e-1)/\d (e-1) r) λg=>aP (Z<e) (bu a0 e λi=>bh (e-1)/\bu a0 (e-1) λj=>ba f (aR i e 2) λk=>bn f ((aR i e 2).add 1) λl=>ba f (aR j (e-1) 2) λm=>bn f ((aR j (e-1) 2).add 1) λn=>h8 aH a3 #[cD #[ah k,vs l],cD #[ah m,vs n]] cx f λ(z:o)(p:H)=>aP (z<0) (g p) (bh (b+1)/\a (b+1) p)) (bh (b+1)/\a (b+1) f)) (K c)):QB a0 Z a2 a3 u K:=aW [] func177 [aX 6 [(8,bT)],aX 402 [(9,bT)],aX 804 []] h
def aEX(a0:U)(Z a2 a3:o)(a4:ao)(u:H)(K:Q)(h:bh (a2-Z)/\aP (a2-Z=1) (iz o o a2 a3 u λa b c d=>aP (b<c) (bh (b+c)/\(0:o)<=1/\bu a0 (bV bY (ev (bV bo (b+c)) (2^1))) λe=>bu a0 Z λf=>ba d (aR e (bV bY (ev (bV bo (b+c)) (2^1))) 2) λg=>bn d ((aR e (bV bY (ev (bV bo (b+c)) (2^1))) 2).add 1) λi=>ba d (aR f Z 2) λj=>bn d ((aR f Z 2).add 1) λk=>h8 aH a4 #[cD #[ah g,vs i],cD #[ah j,vs k]] cx d λ(l:o)(m:H)=>aP (l<0) (bh (bV bY (ev (bV bo (b+c)) (2^1))+1)/\a (bV bY (ev (bV bo (b+c)) (2^1))+1) c m) (a b (bV bY (ev (bV bo (b+c)) (2^1))) m)) (gP o Z d λe f g=>bh (b-1)/\aP (f<b-1) (bh (f+1)/\bh (f+1)/\bu a0 (f+1) λi=>bu a0 f λj=>ba g (aR i (f+1) 2) λk=>bn g ((aR i (f+1) 2).add 1) λl=>ba g (aR j f 2) λm=>bn g ((aR j f 2).add 1) λn=>bu a0 f λz=>H.aO g (aR z f 2) [ah k,vs l] λp=>bu a0 (f+1) λq=>H.aO p (aR q (f+1) 2) [ah m,vs n] λr=>bh (f+1)/\e (f+1) r) (K g))) (bh (a3-a2)/\aP (a3-a2=1) (iz o o Z a2 u λa b c d=>aP (b<c) (bh (b+c)/\(0:o)<=1/\bu a0 a2 λe=>bu a0 (bV bY (ev (bV bo (b+c)) (2^1))) λf=>ba d (aR e a2 2) λg=>bn d ((aR e a2 2).add 1) λi=>ba d (aR f (bV bY (ev (bV bo (b+c)) (2^1))) 2) λj=>bn d ((aR f (bV bY (ev (bV bo (b+c)) (2^1))) 2).add 1) λk=>h8 aH a4 #[cD #[ah g,vs i],cD #[ah j,vs k]] cx d λ(l:o)(m:H)=>cN (l<0) (bh (bV bY (ev (bV bo (b+c)) (2^1))+1)/\a (bV bY (ev (bV bo (b+c)) (2^1))+1) c m) (a b (bV bY (ev (bV bo (b+c)) (2^1))) m)) (gP o a2 d λe f g=>aP (b<f) (bh (f-1)/\bh (f-1)/\bu a0 (f-1) λi=>bu a0 f λj=>ba g (aR i (f-1) 2) λk=>bn g ((aR i (f-1) 2).add 1) λl=>ba g (aR j f 2) λm=>bn g ((aR j f 2).add 1) λn=>bu a0 f λz=>H.aO g (aR z f 2) [ah k,vs l] λp=>bu a0 (f-1) λq=>H.aO p (aR q (f-1) 2) [ah m,vs n] λr=>bh (f-1)/\e (f-1) r) (K g))) (bh (Z+a3)/\(0:o)<=1/\bh (bV bY (ev (bV bo (Z+a3)) (2^1))+a2)/\ts o o (λa b c=>bh (bV bY (ev (bV bo (Z+a3)) (2^1))+a2-1)/\iz o o a b c λd e f g=>aP (e<f) (bh (e+f)/\(0:o)<=1/\bh (bV bY (ev (bV bo (Z+a3)) (2^1))+a2-1-bV bY (ev (bV bo (e+f)) (2^1)))/\bu a0 (bV bY (ev (bV bo (Z+a3)) (2^1))+a2-1-bV bY (ev (bV bo (e+f)) (2^1))) λi=>bu a0 (bV bY (ev (bV bo (e+f)) (2^1))) λj=>ba g (aR i (bV bY (ev (bV bo (Z+a3)) (2^1))+a2-1-bV bY (ev (bV bo (e+f)) (2^1))) 2) λk=>bn g ((aR i (bV bY (ev (bV bo (Z+a3)) (2^1))+a2-1-bV bY (ev (bV bo (e+f)) (2^1))) 2).add 1) λl=>ba g (aR j (bV bY (ev (bV bo (e+f)) (2^1))) 2) λm=>bn g ((aR j (bV bY (ev (bV bo (e+f)) (2^1))) 2).add 1) λn=>h8 aH a4 #[cD #[ah k,vs l],cD #[ah m,vs n]] cx g λ(z:o)(p:H)=>cN (z<0) (bh (bV bY (ev (bV bo (e+f)) (2^1))+1)/\d (bV bY (ev (bV bo (e+f)) (2^1))+1) f p) (d e (bV bY (ev (bV bo (e+f)) (2^1))) p)) (bh (bV bY (ev (bV bo (Z+a3)) (2^1))+a2-e)/\we (λi=>we (λj=>aP (bV bY (ev (bV bo (Z+a3)) (2^1))<bV bY (ev (bV bo (Z+a3)) (2^1))+a2-e) (aP (bV bY (ev (bV bo (Z+a3)) (2^1))+a2-e<a3) (Hz a0 (bV bY (ev (bV bo (Z+a3)) (2^1))) (bV bY (ev (bV bo (Z+a3)) (2^1))+a2-e) a3 a4 j λk=>K k) (K j)) (K j)) λj=>aP (Z<e) (aP (e<bV bY (ev (bV bo (Z+a3)) (2^1))) (Hz a0 Z e (bV bY (ev (bV bo (Z+a3)) (2^1))) a4 i λk=>j k) (j i)) (j i)) λi=>aP (e<a2) (aP (a2<bV bY (ev (bV bo (Z+a3)) (2^1))+a2-e) (V2 a0 e a2 (bV bY (ev (bV bo (Z+a3)) (2^1))+a2-e) a4 g λj=>i j) (i g)) (i g))) λa=>aP (bV bY (ev (bV bo (Z+a3)) (2^1))<a2) (bh (bV bY (ev (bV bo (Z+a3)) (2^1))+a2-a3)/\a (bV bY (ev (bV bo (Z+a3)) (2^1))+a2-a3) (bV bY (ev (bV bo (Z+a3)) (2^1))) u) (a Z a2 u)))):Hz a0 Z a2 a3 a4 u K:=aW [] func194 [aX 172 [(10,bT),(11,bT)],aX 698 [(13,bT)],aX 428 [(14,bT),(15,bT)],aX 1722 [(17,bT)],aX 63 [(20,bT),(21,bT)],aX 1020 [(20,bT),(21,bT)],aX 1023 [],aX 2047 []] h
def aEC(a0:ao)(Z a2:bc)(u:H)(K:Q)(h:ba u Z λa=>bh (a-1)/\gP o (a-1) u λb c d=>aP ((1:o)<=c) (eM d a2 λe=>Hy e d λf g=>bh (c+1)/\bV bo (c+1)≠0/\l9 a0 #[ah c,ah (bV bY (k8 f (bV bo (c+1))))] eH g λ(i:aD)j=>cN (i=ak) (K j) (bh (c-1)/\b (c-1) j)) (K d)):aoQ a0 Z a2 u K:=nD 1 [] func195 [aX 6 [(4,bT)]] h
def aEU(a0:U)(Z a2 a3:o)(a4:ao)(u:H)(K:Q)(h:bh (a2-Z)/\bh (a3-a2)/\iz o o (a2-Z) (a3-a2) u λa b c d=>cN (b=c) (aP (c<b) (bh (a2-b)/\K1 a0 (a2-b) a2 c a4 d λe=>bh (b-c)/\a (b-c) c e) (bh (a2-b)/\bh (a2+c)/\bh (a2+c-b)/\K1 a0 (a2-b) (a2+c-b) b a4 d λe=>bh (c-b)/\a b (c-b) e)) (bh (a2-b)/\K1 a0 (a2-b) a2 b a4 d λe=>K e)):V2 a0 Z a2 a3 a4 u K:=aW [] func204 [aX 28 [(10,bT),(11,bT)]] h
def aEW(a0:U)(Z a2 a3:o)(a4:ao)(u:H)(K:Q)(h:gP o 0 u λa b c=>aP (b<a3) (bh (Z+b)/\bh (a2+b)/\bh (a2+b)/\bu a0 (a2+b) λd=>bh (Z+b)/\bu a0 (Z+b) λe=>ba c (aR d (a2+b) 2) λf=>bn c ((aR d (a2+b) 2).add 1) λg=>ba c (aR e (Z+b) 2) λi=>bn c ((aR e (Z+b) 2).add 1) λj=>bu a0 (Z+b) λk=>H.aO c (aR k (Z+b) 2) [ah f,vs g] λl=>bu a0 (a2+b) λm=>H.aO l (aR m (a2+b) 2) [ah i,vs j] λn=>bh (b+1)/\a (b+1) n) (K c)):K1 a0 Z a2 a3 a4 u K:=aW [] func223 [aX 6 [(10,bT)]] h
def aFk(a0:b1)(u:H)(K:aD->Q)(h:cN (a0=none) (br a0 λa=>br a0 λb=>bn u (a.add 1) λc=>ba u b λd=>K (decide ((c.n:o)=d)) u) (H.le u u/\K ax u)):Wd a0 u K:=aW [] func249 [] h
def aFl(a0:b1)(u:H)(K:o->Q)(h:aP (a0=none) (K 0 u) (br a0 λa=>bn u (a.add 1) λb=>K (b.n:o) u)):We a0 u K:=aW [] func250 [] h
def aD7(a0:b1)(Z:o)(u:H)(K:aD->o->Q)(h:dW u λa=>aP (a0=none) (K ax 3 (u.ins a (bj #[ah Z] 3 (0,0)))) (br a0 λb=>e5 (u.ins a (bj #[ah Z] 3 (0,0))) (b.add 3) λc=>ba (u.ins a (bj #[ah Z] 3 (0,0))) (am a) λd=>bl (gz 125 (dH c) (ah d) ak) [bf.one aE.slice,bf.one aE.bool] (u.ins a (bj #[ah Z] 3 (0,0))) λ(_:U)(e:aD)f=>cN (e=ak) (K ax 0 f) (br a0 λg=>e5 f (g.add 3) λi=>ba f (am a) λj=>bl (rZ #[125,3] 0 #[dH i,ah j]) [] f λk=>dW k λl=>H.aO (k.ins l (bj #[J2] 324 (0,0))) (am l) [iQ (jC 256) #[] #[aZ (some (am a)),aZ (some (am l))]] λm=>br a0 λn=>p8 m (am l) λz=>eM m (n.add 2) λp=>h8 aH z #[aZ p] [] m λ(q:H)=>K ak 0 q))):Qq a0 Z u K:=aW [3,8] func251 [] h
def aEa(a0:b1)(u:H)(K:o->Q)(h:aP (a0=none) (K 0 u) (br a0 λa=>e5 u (a.add 3) λb=>bl (qc #[125] 3 #[dH b]) cx u λ(c:o)d=>K c d)):aex a0 u K:=aW [] func252 [] h
def aEb(a0:b1)(cc:o)(cp:U)(u:H)(K:aD->o->Q)(h:aP (a0=none) (K ax 3 u) (br a0 λa=>e5 u (a.add 3) λb=>bl (gz 125 (dH b) (ah cc) ak) [bf.one aE.slice,bf.one aE.bool] u λ(_:U)(c:aD)d=>br a0 λe=>br a0 λf=>ba d e λg=>e5 d (f.add 3) λi=>bl (qc #[125] 3 #[dH i]) cx d λ(j:o)k=>H.le d k/\El cc cp g c j k λl m=>cN (l=0) (K ax l m) (Qq a0 cc m λ_ _ n=>o8 cp n λz p=>br a0 λq=>e5 p (q.add 3) λr=>bl (unit (kh 125 (dH r) (ah cc) (vs z))) [] p λs=>br a0 λt=>eM s (t.add 2) λv=>aP (v=none) (bl (dI 22 1 #[(0,cD #[ah cc,vs z])]) bg s λ(w:U)x=>Hw a0 w x λy Y=>br a0 λbX=>H.aO Y (bX.add 2) [aZ y] λb0=>K (wx (decide (c=ak))) 0 b0) (br a0 λw=>eM s (w.add 2) λx=>gP (aA bc) x s λy Y bX=>gP o 0 bX λb0 cj cE=>aP (cj<(z.n:o)) (bu z cj λch=>ba cE (aR ch cj 1) λcG=>br Y λcR=>br Y λdg=>bn cE (cR.add 1) λcB=>bn cE (dg.add 1) λdn=>bu dn cj λbU=>ba cE (aR bU cj 1) λaX=>bu cB cj λeO=>H.aO cE (aR eO cj 1) [ah (ite (cG<aX) cG aX)] λeC=>br Y λfb=>br Y λft=>bn eC (fb.add 2) λgB=>bn eC (ft.add 2) λgM=>bu gM cj λiE=>ba eC (aR iE cj 1) λiF=>bu gB cj λj7=>H.aO eC (aR j7 cj 1) [ah (ite (cG>iF) cG iF)] λkp=>bh (cj+1)/\b0 (cj+1) kp) (br Y λch=>bn cE (ch.add 7) λcG=>aP ((cG.n:o)=0) (br Y λcR=>bn cE (cR.add 6) λdg=>bl (dI 22 1 #[(0,cD #[ah cc,vs z])]) bg cE λ(cB:U)dn=>H.le cE dn/\bl (ee #[22,22] 22 #[vs dg,vs cB]) bg dn λ(bU:U)aX=>br Y λeO=>H.aO aX (eO.add 6) [vs bU] λeC=>br Y λfb=>br a0 λft=>bn eC (fb.add 6) λgB=>ba eC (ft.add 1) λgM=>aP (gM<(gB.n:o)) (br Y λiE=>bn eC (iE.add 6) λiF=>Hw a0 iF eC λj7 kp=>br j7 λdp=>ba kp dp λnB=>bn kp (dp.add 1) λjK=>bn kp (dp.add 2) λbe=>dA kp (dp.add 3) λhJ=>dA kp (dp.add 4) λkY=>bn kp (dp.add 5) λmL=>bn kp (dp.add 6) λkZ=>bn kp (dp.add 7) λEF=>br Y λeR=>H.aO kp eR [ah nB,vs jK,vs be,bA hJ,bA kY,vs mL,vs kZ,vs EF] λvB=>K (wx (decide (c=ak))) 0 vB) (K (wx (decide (c=ak))) 0 eC)) (br Y λcR=>bn cE (cR.add 7) λdg=>bu dg 0 λcB=>eM cE (cB.add 0) λdn=>br dn λbU=>ba cE bU λaX=>bn cE (bU.add 1) λeO=>bn cE (bU.add 2) λeC=>dA cE (bU.add 3) λfb=>dA cE (bU.add 4) λft=>bn cE (bU.add 5) λgB=>Ct aX eO eC fb ft gB z cE λgM iE _ iF=>br Y λj7=>bn iF (j7.add 7) λkp=>bl (hP 211 (vs kp) (some (ah 1)) none none) bg iF λ(dp:U)nB=>zt (aA bc) o o o dn 0 gM iE nB λjK be hJ kY mL kZ=>aP (hJ<(dp.n:o)) (bu dp hJ λEF=>eM kZ (aR EF hJ 1) λeR=>br eR λvB=>ba kZ vB λtZ=>bn kZ (vB.add 1) λQ7=>bn kZ (vB.add 2) λWL=>dA kZ (vB.add 3) λWN=>dA kZ (vB.add 4) λap4=>bn kZ (vB.add 5) λbs=>Ct tZ Q7 WL WN ap4 bs z kZ λWO bv _ WS=>hN aD (λoN afy=>dX oN (bh (hJ+1)/\jK eR (hJ+1) WO bv afy) (bh (hJ+1)/\jK be (hJ+1) kY mL afy)) λoN=>aP (WO<kY) (oN ak WS) (aP (WO=kY) (oN (decide (bv<mL)) WS) (oN ax WS))) (y be kZ))))))):aey a0 cc cp u K:=aW [] func253 [aX 8188 [(11,.ptr)],aX 262018 [(86,bT)],(4192378,⟨[(14,.ptr),(153,bT)],[(2,[.int .u64,.int .u64])]⟩),aX 536624435 [(184,.bool)]] h
def aEc(a0:b1)(u:H)(K:U->Q)(h:aP (a0=none) (K bt u) (br a0 λa=>e5 u (a.add 3) λb=>bl (rY 125 (dH b)) eI u λ(c:aA bc)d=>gP U bt d λe f g=>wZ aH (aZ c) g (λ(i:H)=>r9 f i λj k=>K j k) λ(_:ao)(_:ao)(i:H)=>wY aH (aZ c) i λ(j:ao)(k:ao)(l:H)=>sY (aE.int bY) j λ(m:o)=>sY aE.slice k λ(n:U)=>bl (dI 22 1 #[(0,cD #[ah m,vs n])]) bg l λ(z:U)p=>bl (ee #[22,22] 22 #[vs f,vs z]) bg p λ(q:U)r=>e q r)):aez a0 u K:=EV (C:={P:=aH,exp:=[],wrap:=ax,iv:=iv,oO:=[15],oY:=[13]}) (args:=[(hn a0)]) (oh _ _) func254 (by kernel_rfl) [aX 122 [(3,.slice)]] (by kernel_rfl) (by kernel_rfl) (Eq.mp (by kernel_rfl) h)
def aEd(a0:b1)(Z:U)(a2 a3:o)(u:H)(K:U->U->U->o->Q)(h:aP (a0=none) (K bt bt bt 3 u) (br a0 λa=>ba u a λb=>Co Z b a2 a3 u λc d=>cN (c=0) (K bt bt bt c d) (dW d λe=>we (λf=>bn f (am e) λg=>l9 (iQ (jC 262) #[aZ a0] #[]) #[vs g,vs Z,ah a2,ah a3] [bf.agg [aE.slice,aE.slice,aE.slice]] f λ(i:U)(j:U)(k:U)l=>K i j k 0 l) λf=>br a0 λg=>eM (d.ins e (bj #[vs bt] 211 (0,0))) (g.add 2) λi=>cN (i=none) (br a0 λj=>eM (d.ins e (bj #[vs bt] 211 (0,0))) (j.add 2) λk=>l9 (iQ (jC 261) #[] #[aZ (some (am e))]) #[aZ k] [] (d.ins e (bj #[vs bt] 211 (0,0))) λl=>f l) (f (d.ins e (bj #[vs bt] 211 (0,0))))))):aeA a0 Z a2 a3 u K:=aW [11] func255 [aX 63 []] h
def aD8(a0:b1)(Z a2:bc)(u:H)(K:Q)(h:br a0 λa=>bn u (a.add 6) λb=>Qy b (iQ (jC 258) #[] #[aZ (some Z)]) u λc d=>br a0 λe=>H.aO d (e.add 6) [vs c] λf=>br a0 λg=>bn f (g.add 7) λi=>gP o 0 f λj k l=>aP (k<(i.n:o)) (bu i k λm=>eM l (aR m k 1) λn=>p8 l a2 λz=>l9 z #[aZ n] [] l λp=>bh (k+1)/\j (k+1) p) (K l)):aew a0 Z a2 u K:=nD 1 [] func256 [aX 14 [(20,bT)]] h
def aEL(a0:U)(Z:ao)(u:H)(K:U->Q)(h:Qz a0 Z u λa b=>aP (a=-1) (K a0 b) (bh (a+1)/\iz o o a (a+1) b λc d e f=>aP (e<(a0.n:o)) (bu a0 e λg=>ba f (aR g e 2) λi=>bn f ((aR g e 2).add 1) λj=>l9 Z #[cD #[ah i,vs j]] eH f λ(k:aD)l=>cN (k=ak) (bu a0 d λm=>H.aO l (aR m d 2) [ah i,vs j] λn=>bh (d+1)/\bh (e+1)/\c (d+1) (e+1) n) (bh (e+1)/\c d (e+1) l)) (bl (hP 22 (vs a0) (some (ah d)) none none) bg f λ(g:U)i=>bl (qd #[22] 0 #[vs g]) [] i λj=>bl (hP 22 (vs a0) none (some (ah d)) none) bg j λ(k:U)l=>K k l))):Qy a0 Z u K:=aW [] func257 [aX 122 [(5,bT),(6,bT)]] h
def aD9(bI:o)(bN:U)(Z:bc)(u:H)(K:aD->Q)(h:ba u Z λa=>K (decide (bI=a)) u):aoJ bI bN Z u K:=nD 1 [] func258 [] h
def aDm(bI:o)(bN:U)(Z:o)(a2:aD)(a3:o)(u:H)(K:o->Q)(h:qv bN Z u λa b=>hN aD (λc d=>dX c (K 50 d) (cN (a=0) (K a d) (cN (a2=ak) (aP ((512:o)<=a3) (K 2 d) (K 0 d)) (K 0 d)))) λc=>aP (bI<1) (c ak b) (c (decide ((1000000000:o)<bI)) b)):El bI bN Z a2 a3 u K:=aW [] func259 [aX 26 [(14,.bool)]] h
def aDk(a0:U)(Z a2 a3:o)(u:H)(K:o->Q)(h:qv a0 Z u λa b=>cN (a=0) (K a b) (aP (a2<1) (K 1 b) (aP ((64:o)<a2) (K 1 b) (aP (a3<0) (K 1 b) (aP ((1000000:o)<a3) (K 1 b) (K 0 b)))))):Co a0 Z a2 a3 u K:=aW [] func260 [] h
def aEe(a0:b1)(Z:bc)(u:H)(K:Q)(h:bn u Z λa=>bl (dI 211 1 #[(0,aZ a0)]) bg u λ(b:U)c=>bl (ee #[211,211] 211 #[vs a,vs b]) bg c λ(d:U)e=>H.aO e Z [vs d] λf=>K f):aoK a0 Z u K:=nD 1 [] func261 [] h
def aEh(a0:b1)(Z a2:U)(a3 a4:o)(u:H)(K:U->U->U->Q)(h:Eo Z a2 a3 a4 u λa b c d=>K a b c d):aoM a0 Z a2 a3 a4 u K:=aW [] func262 [] h
def aEP(a0:U)(Z:ao)(u:H)(K:o->Q)(h:iz o o 0 0 u λa b c d=>aP (c<(a0.n:o)) (bu a0 c λe=>ba d (aR e c 2) λf=>bn d ((aR e c 2).add 1) λg=>l9 Z #[cD #[ah f,vs g]] eH d λ(i:aD)j=>dX i (K c j) (bh (c+1)/\a b (c+1) j)) (K (-1) d)):Qz a0 Z u K:=aW [] func263 [aX 26 [(4,bT),(8,bT)]] h
def aDs(a0 Z:U)(a2 a3:o)(u:H)(K:U->U->U->Q)(h:dW u λa=>Er a2 (u.ins a (bj #[vs Z] 30 (0,0))) λb _ c=>dW c λd=>H.aO (c.ins d (bj #[aZ none] 90 (0,0))) (am d) [aZ b] λe=>dW e λf=>gP o 0 (e.ins f (bj #[vs bt] 331 (0,0))) λg i j=>aP (i<(a0.n:o)) (bu a0 i λk=>eM j (aR k i 1) λl=>l9 (iQ (jC 265) #[] #[aZ (some (am a)),aZ (some (am f))]) #[aZ l] [] j λm=>bh (i+1)/\g (i+1) m) (aaS U U U (λk l m n=>bn n (am f) λz=>zt o U U U 0 k l m n λp q r s t v=>aP (q<(z.n:o)) (bu z q λw=>eM v (aR w q 3) λx=>dA v ((aR w q 3).add 1) λ_=>dA v ((aR w q 3).add 2) λ_=>Qh x v λy Y=>aP ((0:o)<(y.n:o)) (br x λbX=>ba Y bX λb0=>bn Y (bX.add 1) λcj=>bn Y (bX.add 2) λcE=>dA Y (bX.add 3) λch=>dA Y (bX.add 4) λcG=>bn Y (bX.add 5) λcR=>Qk b0 cj cE ch cG cR y Y λdg cB dn bU aX eO eC=>H.le Y eC/\bl (dI 39 1 #[(0,cD #[ah dg,vs cB,vs dn,bA bU,bA aX,vs eO])]) bg eC λ(fb:U)ft=>H.le Y ft/\bl (ee #[39,39] 39 #[vs t,vs fb]) bg ft λ(gB:U)gM=>bh (q+1)/\p (q+1) r s gB gM) (bh (q+1)/\p (q+1) r s t Y)) (Cq s v λw=>eM w (am d) λx=>Cr x w λy Y=>K y s t Y)) λk=>sx U U U bt bt bt j λl m n z p=>we (λq=>Ep (l3 332 (aZ (some (am f)))) q λr s=>bl (tE r 20 334 ax) [bf.agg [aE.ptr,aE.int bo,aE.int bo]] s λ(t:aA bc)(_:o)(_:o)v=>br t λw=>bn v (w.add 7) λx=>gP o 0 v λy Y bX=>aP (Y<(x.n:o)) (bu x Y λb0=>eM bX (aR b0 Y 1) λcj=>l9 (iQ (jC 265) #[] #[aZ (some (am a)),aZ (some (am f))]) #[aZ cj] [] bX λcE=>bh (Y+1)/\y (Y+1) cE) (br t λb0=>bn bX (b0.add 6) λcj=>zt o U U U 0 m n z bX λcE ch cG cR dg cB=>aP (ch<(cj.n:o)) (bu cj ch λdn=>ba cB (aR dn ch 2) λbU=>bn cB ((aR dn ch 2).add 1) λaX=>aP ((cR.n:o)=a3) (br t λeO=>br t λeC=>ba cB eO λfb=>bn cB (eO.add 1) λft=>bn cB (eO.add 2) λgB=>dA cB (eO.add 3) λgM=>dA cB (eO.add 4) λiE=>bn cB (eO.add 5) λiF=>bn cB (eC.add 6) λj7=>bl (hP 22 (vs j7) (some (ah ch)) none none) bg cB λ(kp:U)dp=>H.le cB dp/\Qk fb ft gB gM iE iF kp dp λnB jK be hJ kY mL kZ=>H.le cB kZ/\bl (dI 39 1 #[(0,cD #[ah nB,vs jK,vs be,bA hJ,bA kY,vs mL])]) bg kZ λ(EF:U)eR=>H.le cB eR/\bl (ee #[39,39] 39 #[vs dg,vs EF]) bg eR λ(vB:U)tZ=>l cG cR vB tZ) (bn cB (am a) λeO=>sa aX eO cB λeC fb _ ft=>eM ft (am d) λgB=>Ai gB bU eC fb ft λ_ gM=>bl (dI 30 1 #[(0,ah bU)]) bg gM λ(iE:U)iF=>bl (ee #[30,30] 30 #[vs cR,vs iE]) bg iF λ(j7:U)kp=>bh (ch+1)/\cE (ch+1) cG j7 dg kp)) (l cG cR dg cB))) λq=>bn p (am f) λr=>ael r p λs t=>aP ((0:o)<s) (aP ((n.n:o)<a3) (bn t (am f) λv=>bu v 0 λw=>dA t ((w.add 0).add 1) λx=>dA t (((w.add 0).add 1).add 1) λy=>l9 (iQ (jC 266) #[] #[aZ (some (am d))]) #[cD #[bA x,bA y]] eH t λ(Y:aD)bX=>cN (Y=ak) (q bX) (k m n z bX)) (k m n z t)) (k m n z t))):Eo a0 Z a2 a3 u K:=aW [5,10,12] func264 [aX 506 [(35,bT)],(255,⟨[],[(1,[.slice,.slice,.slice])]⟩),(4090,⟨[(134,bT)],[(1,[.slice,.slice,.slice])]⟩),(1020,⟨[],[(1,[.slice,.slice,.slice])]⟩),aX 2040 [],aX 130602 [(72,bT)],(130606,⟨[(85,bT)],[(1,[.slice,.slice,.slice])]⟩)] h
def aDt(a0:b1)(Z a2:bc)(u:H)(K:Q)(h:br a0 λa=>ba u a λb=>bn u (a.add 1) λc=>bn u (a.add 2) λd=>dA u (a.add 3) λe=>dA u (a.add 4) λf=>bn u (a.add 5) λg=>bn u Z λi=>(Ct b c d e f g i u λj k _ l=>H.le u l/\Ah (l3 332 (aZ (some a2))) (l3 334 (cD #[aZ a0,bA j,bA k])) l λm=>K m)/\H.le u u/\Ct b c d e f g i u λj k _ l=>Ah (l3 332 (aZ (some a2))) (l3 334 (cD #[aZ a0,bA j,bA k])) l λm=>K m):Vy a0 Z a2 u K:=nD 1 [] func265 [] h
def aDu(bI bN:o)(Z:bc)(u:H)(K:aD->Q)(h:eM u Z λa=>aeL a u λ_ b c _ d=>eM d Z λe=>Wd e d λf g=>dX f (sR bI bN b c g λi j=>K (decide ((0:o)<i)) j) (K ax g)):Vz bI bN Z u K:=nD 1 [] func266 [] h
def aFo(a0:b1)(u:H)(K:o->o->o->aD->Q)(h:We a0 u λa b=>aP (a=0) (K 0 0 0 ax b) (br a0 λc=>bn b (c.add 1) λd=>bu d 0 λe=>ba b (e.add 0) λf=>dA b ((e.add 0).add 1) λg=>dA b ((e.add 0).add 2) λi=>K f g i ak b)):aeL a0 u K:=aW [] func267 [] h
def an2(a0:U)(u:H)(K:o->Q)(h:K (a0.n:o) u):ael a0 u K:=aW [] func268 [] h
def aDC(bI:o)(bN da:U)(ei fH:o)(gm Z:U)(u:H)(K:o->U->U->o->o->U->Q)(h:o8 bN u λa b=>H.le u b/\o8 da b λc d=>axO o o U U o o U 0 bI a c ei fH bt d λe f g i j k l m n=>aP (f<(Z.n:o)) (bu Z f λz=>ba n (aR z f 2) λp=>bn n ((aR z f 2).add 1) λ_=>bl (dI 30 1 #[(0,ah p)]) bg n λ(q:U)r=>bl (ee #[30,30] 30 #[vs m,vs q]) bg r λ(s:U)t=>bh (f+1)/\e (f+1) g i j k l s t) (Cq m n λz=>K g i j k l m z)):Qk bI bN da ei fH gm Z u K:=aW [] func269 [(58,⟨[(18,bT)],[(0,[.int .i64,.slice,.slice,.int .u64,.int .u64,.slice])]⟩)] h
def aDp(a0:b1)(u:H)(K:U->Q)(h:br a0 λa=>bn u (a.add 6) λb=>n2 b u λc d=>br a0 λe=>bn d (e.add 7) λf=>iz U o c 0 d λg i j k=>aP (j<(f.n:o)) (bu f j λl=>eM k (aR l j 1) λm=>Qh m k λn z=>bl (ee #[22,22] 22 #[vs i,vs n]) bg z λ(p:U)q=>bh (j+1)/\g p (j+1) q) (K i k)):Qh a0 u K:=aW [] func270 [aX 58 [(3,.slice),(16,bT)]] h
def aFK(a0:b1)(Z:o)(u:H)(K:aD->o->Q)(h:dW u λa=>aP (a0=none) (K ax 3 (u.ins a (bj #[ah Z] 3 (0,0)))) (br a0 λb=>e5 (u.ins a (bj #[ah Z] 3 (0,0))) (b.add 4) λc=>ba (u.ins a (bj #[ah Z] 3 (0,0))) (am a) λd=>bl (gz 125 (dH c) (ah d) ak) [bf.one aE.slice,bf.one aE.bool] (u.ins a (bj #[ah Z] 3 (0,0))) λ(_:U)(e:aD)f=>cN (e=ak) (K ax 0 f) (br a0 λg=>e5 f (g.add 4) λi=>ba f (am a) λj=>bl (rZ #[125,3] 0 #[dH i,ah j]) [] f λk=>dW k λl=>H.aO (k.ins l (bj #[J2] 324 (0,0))) (am l) [iQ (jC 276) #[] #[aZ (some (am a)),aZ (some (am l))]] λm=>br a0 λn=>p8 m (am l) λz=>eM m (n.add 3) λp=>h8 aH z #[aZ p] [] m λ(q:H)=>K ak 0 q))):QM a0 Z u K:=aW [3,8] func271 [] h
def aFN(a0:b1)(u:H)(K:o->Q)(h:aP (a0=none) (K 0 u) (br a0 λa=>e5 u (a.add 4) λb=>bl (qc #[125] 3 #[dH b]) cx u λ(c:o)d=>K c d)):aeP a0 u K:=aW [] func272 [] h
def aFO(a0:b1)(cc:o)(cp:U)(u:H)(K:aD->o->Q)(h:aP (a0=none) (K ax 3 u) (br a0 λa=>e5 u (a.add 4) λb=>bl (gz 125 (dH b) (ah cc) ak) [bf.one aE.slice,bf.one aE.bool] u λ(_:U)(c:aD)d=>br a0 λe=>br a0 λf=>ba d e λg=>e5 d (f.add 4) λi=>bl (qc #[125] 3 #[dH i]) cx d λ(j:o)k=>H.le d k/\El cc cp g c j k λl m=>cN (l=0) (K ax l m) (QM a0 cc m λ_ _ n=>hN bc (λz p=>br a0 λq=>e5 p (q.add 4) λr=>ba p z λs=>bn p (z.add 1) λt=>bl (unit (kh 125 (dH r) (ah s) (vs t))) [] p λv=>br a0 λw=>eM v (w.add 3) λx=>aP (x=none) (ba v z λy=>bn v (z.add 1) λY=>bl (dI 22 1 #[(0,cD #[ah y,vs Y])]) bg v λ(bX:U)b0=>HC a0 bX b0 λcj cE=>br a0 λch=>H.aO cE (ch.add 3) [aZ cj] λcG=>K (wx (decide (c=ak))) 0 cG) (br a0 λy=>eM v (y.add 3) λY=>gP (aA bc) Y v λbX b0 cj=>bn cj (z.add 1) λcE=>Wi b0 cE cj λ_ _ ch=>br b0 λcG=>bn ch (cG.add 7) λcR=>aP ((cR.n:o)=0) (br b0 λdg=>bn ch (dg.add 6) λcB=>ba ch z λdn=>bn ch (z.add 1) λbU=>bl (dI 22 1 #[(0,cD #[ah dn,vs bU])]) bg ch λ(aX:U)eO=>H.le ch eO/\bl (ee #[22,22] 22 #[vs cB,vs aX]) bg eO λ(eC:U)fb=>br b0 λft=>H.aO fb (ft.add 6) [vs eC] λgB=>br b0 λgM=>br a0 λiE=>bn gB (gM.add 6) λiF=>ba gB (iE.add 1) λj7=>aP (j7<(iF.n:o)) (br b0 λkp=>bn gB (kp.add 6) λdp=>HC a0 dp gB λnB jK=>br nB λbe=>ba jK be λhJ=>bn jK (be.add 1) λkY=>bn jK (be.add 2) λmL=>dA jK (be.add 3) λkZ=>dA jK (be.add 4) λEF=>bn jK (be.add 5) λeR=>bn jK (be.add 6) λvB=>bn jK (be.add 7) λtZ=>br b0 λQ7=>H.aO jK Q7 [ah hJ,vs kY,vs mL,bA kZ,bA EF,vs eR,vs vB,vs tZ] λWL=>K (wx (decide (c=ak))) 0 WL) (K (wx (decide (c=ak))) 0 gB)) (hN bc (λdg cB=>hN bc (λdn bU=>dA bU dg λaX=>dA bU (dg.add 1) λeO=>dA bU dn λeC=>dA bU (dn.add 1) λfb=>sR aX eO eC fb bU λft gB=>aP (ft<=0) (br b0 λgM=>bn gB (gM.add 7) λiE=>bu iE 0 λiF=>eM gB (iF.add 0) λj7=>bX j7 gB) (br b0 λgM=>bn gB (gM.add 7) λiE=>bu iE 1 λiF=>eM gB (iF.add 1) λj7=>bX j7 gB)) λdn=>br b0 λbU=>bn cB (bU.add 7) λaX=>bu aX 1 λeO=>eM cB (eO.add 1) λeC=>br eC λfb=>bn cB (fb.add 1) λft=>bn cB (z.add 1) λgB=>(sa ft gB cB λgM iE _ iF=>dW iF λj7=>H.le cB (iF.ins j7 (bj #[bA 0,bA 0] 66 (0,0)))/\H.aO (iF.ins j7 (bj #[bA 0,bA 0] 66 (0,0))) (am j7) [bA gM,bA iE] λkp=>dn (am j7) kp)/\dW cB λgM=>H.le cB (cB.ins gM (bj #[bA 0,bA 0] 66 (0,0)))/\sa ft gB (cB.ins gM (bj #[bA 0,bA 0] 66 (0,0))) λiE iF _ j7=>H.aO j7 (am gM) [bA iE,bA iF] λkp=>dn (am gM) kp) λdg=>br b0 λcB=>bn ch (cB.add 7) λdn=>bu dn 0 λbU=>eM ch (bU.add 0) λaX=>br aX λeO=>bn ch (eO.add 1) λeC=>bn ch (z.add 1) λfb=>(sa eC fb ch λft gB _ gM=>dW gM λiE=>H.le ch (gM.ins iE (bj #[bA 0,bA 0] 66 (0,0)))/\H.aO (gM.ins iE (bj #[bA 0,bA 0] 66 (0,0))) (am iE) [bA ft,bA gB] λiF=>dg (am iE) iF)/\dW ch λft=>H.le ch (ch.ins ft (bj #[bA 0,bA 0] 66 (0,0)))/\sa eC fb (ch.ins ft (bj #[bA 0,bA 0] 66 (0,0))) λgB gM _ iE=>H.aO iE (am ft) [bA gB,bA gM] λiF=>dg (am ft) iF))) λz=>(o8 cp n λp q=>H.le n q/\dW q λr=>H.le n (q.ins r (bj #[ah 0,vs bt] 52 (0,0)))/\H.aO (q.ins r (bj #[ah 0,vs bt] 52 (0,0))) (am r) [ah cc,vs p] λs=>z (am r) s)/\dW n λp=>H.le n (n.ins p (bj #[ah 0,vs bt] 52 (0,0)))/\o8 cp (n.ins p (bj #[ah 0,vs bt] 52 (0,0))) λq r=>H.le n r/\H.aO r (am p) [ah cc,vs q] λs=>z (am p) s))):aeQ a0 cc cp u K:=aW [9,11,13] func273 [aX 111 [(9,.addr)],aX 14332 [(10,.ptr)],aX 229315 [(11,.addr)],aX 458631 [(13,.addr)]] h
def aFP(a0:b1)(u:H)(K:U->Q)(h:aP (a0=none) (K bt u) (br a0 λa=>e5 u (a.add 4) λb=>bl (rY 125 (dH b)) eI u λ(c:aA bc)d=>gP U bt d λe f g=>wZ aH (aZ c) g (λ(i:H)=>r9 f i λj k=>K j k) λ(_:ao)(_:ao)(i:H)=>wY aH (aZ c) i λ(j:ao)(k:ao)(l:H)=>sY (aE.int bY) j λ(m:o)=>sY aE.slice k λ(n:U)=>bl (dI 22 1 #[(0,cD #[ah m,vs n])]) bg l λ(z:U)p=>bl (ee #[22,22] 22 #[vs f,vs z]) bg p λ(q:U)r=>e q r)):aeR a0 u K:=EV (C:={P:=aH,exp:=[],wrap:=ax,iv:=iv,oO:=[15],oY:=[13]}) (args:=[(hn a0)]) (oh _ _) func274 (by kernel_rfl) [aX 122 [(3,.slice)]] (by kernel_rfl) (by kernel_rfl) (Eq.mp (by kernel_rfl) h)
def aFQ(a0:b1)(Z:U)(a2 a3:o)(u:H)(K:U->U->U->o->Q)(h:aP (a0=none) (K bt bt bt 3 u) (br a0 λa=>ba u a λb=>Co Z b a2 a3 u λc d=>cN (c=0) (K bt bt bt c d) (br a0 λe=>eM d (e.add 3) λf=>aP (f=none) (Eo bt Z a2 a3 d λg i j k=>K g i j 0 k) (br a0 λg=>eM d (g.add 3) λi=>bl (dI 211 1 #[(0,aZ i)]) bg d λ(j:U)k=>Eo j Z a2 a3 k λl m n z=>K l m n 0 z)))):aeS a0 Z a2 a3 u K:=aW [] func275 [] h
def aFL(a0:b1)(Z a2:bc)(u:H)(K:Q)(h:br a0 λa=>bn u (a.add 6) λb=>Qy b (iQ (jC 277) #[] #[aZ (some Z)]) u λc d=>br a0 λe=>H.aO d (e.add 6) [vs c] λf=>br a0 λg=>bn f (g.add 7) λi=>gP o 0 f λj k l=>aP (k<(i.n:o)) (bu i k λm=>eM l (aR m k 1) λn=>p8 l a2 λz=>l9 z #[aZ n] [] l λp=>bh (k+1)/\j (k+1) p) (K l)):aeO a0 Z a2 u K:=nD 1 [] func276 [aX 14 [(20,bT)]] h
def aFM(bI:o)(bN:U)(Z:bc)(u:H)(K:aD->Q)(h:ba u Z λa=>K (decide (bI=a)) u):aoU bI bN Z u K:=nD 1 [] func277 [] h
def aFU(a0:b1)(Z:U)(u:H)(K:o->o->Q)(h:br a0 λa=>bn u (a.add 1) λb=>sa b Z u λc d _ e=>br a0 λf=>dA e (f.add 3) λg=>dA e ((f.add 3).add 1) λi=>sR c d g i e λj k=>aP ((0:o)<j) (br a0 λl=>H.aO k (l.add 3) [bA c,bA d] λm=>K c d m) (K c d k)):Wi a0 Z u K:=aW [] func278 [] h
def aDZ(a0:b1)(Z:o)(u:H)(K:aD->o->Q)(h:dW u λa=>aP (a0=none) (K ax 3 (u.ins a (bj #[ah Z] 3 (0,0)))) (br a0 λb=>e5 (u.ins a (bj #[ah Z] 3 (0,0))) (b.add 3) λc=>ba (u.ins a (bj #[ah Z] 3 (0,0))) (am a) λd=>bl (gz 175 (dH c) (ah d) ak) [bf.one (aE.int bY),bf.one aE.bool] (u.ins a (bj #[ah Z] 3 (0,0))) λ(e:o)(f:aD)g=>cN (f=ak) (K ax 0 g) (br a0 λi=>e5 g (i.add 3) λj=>ba g (am a) λk=>bl (rZ #[175,3] 0 #[dH j,ah k]) [] g λl=>br a0 λm=>bn l (m.add 2) λn=>bu n e λz=>bn l (aR z e 1) λp=>Qz p (iQ (jC 284) #[] #[aZ (some (am a))]) l λq r=>br a0 λs=>bh (q+1)/\bn r (s.add 2) λt=>(bl (hP 22 (vs p) none (some (ah q)) (some (ah q))) bg r λ(v:U)w=>H.le r w/\bl (hP 22 (vs p) (some (ah (q+1))) none none) bg w λ(x:U)y=>H.le r y/\bl (ee #[22,22] 22 #[vs v,vs x]) bg y λ(Y:U)bX=>H.le r bX/\bu t e λb0=>H.aO bX (aR b0 e 1) [vs Y] λcj=>K ak 0 cj)/\bl (hP 22 (vs p) (some (ah (q+1))) none none) bg r λ(v:U)w=>H.le r w/\bl (hP 22 (vs p) none (some (ah q)) (some (ah q))) bg w λ(x:U)y=>H.le r y/\bl (ee #[22,22] 22 #[vs x,vs v]) bg y λ(Y:U)bX=>H.le r bX/\bu t e λb0=>H.aO bX (aR b0 e 1) [vs Y] λcj=>K ak 0 cj))):VG a0 Z u K:=aW [3] func279 [] h
def aD1(a0:b1)(u:H)(K:o->Q)(h:aP (a0=none) (K 0 u) (br a0 λa=>e5 u (a.add 3) λb=>bl (qc #[175] 3 #[dH b]) cx u λ(c:o)d=>K c d)):aes a0 u K:=aW [] func280 [] h
def aD2(a0:b1)(cc:o)(cp:U)(u:H)(K:aD->o->Q)(h:aP (a0=none) (K ax 3 u) (br a0 λa=>e5 u (a.add 3) λb=>bl (gz 175 (dH b) (ah cc) ak) [bf.one (aE.int bY),bf.one aE.bool] u λ(_:o)(c:aD)d=>br a0 λe=>br a0 λf=>ba d e λg=>e5 d (f.add 3) λi=>bl (qc #[175] 3 #[dH i]) cx d λ(j:o)k=>H.le d k/\El cc cp g c j k λl m=>cN (l=0) (K ax l m) (VG a0 cc m λ_ _ n=>o8 cp n λz p=>H.le n p/\KZ a0 cc z p λq=>K (wx (decide (c=ak))) 0 q))):aet a0 cc cp u K:=aW [] func281 [] h
def aD3(a0:b1)(u:H)(K:U->Q)(h:aP (a0=none) (K bt u) (br a0 λa=>bn u (a.add 2) λb=>VU b u λc d=>r9 c d λe f=>K e f)):aeu a0 u K:=aW [] func282 [] h
def aD4(a0:b1)(Z:U)(a2 a3:o)(u:H)(K:U->U->U->o->Q)(h:aP (a0=none) (K bt bt bt 3 u) (br a0 λa=>ba u a λb=>Co Z b a2 a3 u λc d=>cN (c=0) (K bt bt bt c d) (br a0 λe=>bn d (e.add 2) λf=>iz U o bt 0 d λg i j k=>aP (j<(f.n:o)) (bu f j λl=>bn k (aR l j 1) λm=>br a0 λn=>bn k (n.add 1) λz=>bu z j λp=>bn k (aR p j 1) λq=>QG q m k λr s t v w _ _ x=>dW x λy=>bl (dI 211 1 #[(0,aZ (some (am y)))]) bg (x.ins y (bj #[ah r,vs s,vs t,bA v,bA w,vs bt,vs m,vs bt] 213 (0,0))) λ(Y:U)bX=>bl (ee #[211,211] 211 #[vs i,vs Y]) bg bX λ(b0:U)cj=>bh (j+1)/\g b0 (j+1) cj) (Eo i Z a2 a3 k λl m n z=>K l m n 0 z)))):aev a0 Z a2 a3 u K:=aW [58] func283 [aX 250 [(11,.slice),(36,bT)]] h
def aD0(bI:o)(bN:U)(Z:bc)(u:H)(K:aD->Q)(h:ba u Z λa=>K (decide (bI=a)) u):aoI bI bN Z u K:=nD 1 [] func284 [] h
def aEI(a0:U)(u:H)(K:U->Q)(h:iz o o 0 0 u λa b c d=>aP (c<(a0.n:o)) (bu a0 c λe=>bn d (aR e c 1) λf=>bh (b+(f.n:o))/\aP (b+(f.n:o)<0) ed (bh (c+1)/\a (b+(f.n:o)) (c+1) d)) (VY bt b d λe f=>iz U o e 0 f λg i j k=>aP (j<(a0.n:o)) (bu a0 j λl=>bn k (aR l j 1) λm=>bl (ee #[22,22] 22 #[vs i,vs m]) bg k λ(n:U)z=>bh (j+1)/\g n (j+1) z) (K i k))):VU a0 u K:=aW [] func285 [aX 58 [(3,bT),(11,bT)],aX 250 [(6,.slice),(27,bT)]] h
def aEN(a0:U)(Z:o)(u:H)(K:U->Q)(h:we (λa=>bh ((a0.c:o)-(a0.n:o))/\bh (Z-((a0.c:o)-(a0.n:o)))/\aP ((0:o)<Z-((a0.c:o)-(a0.n:o))) (bl (hP 22 (vs a0) none (some (ah (a0.c:o))) none) bg a λ(b:U)c=>bl (ee #[22,3] 22 #[vs b,ah (Z-((a0.c:o)-(a0.n:o)))]) bg c λ(d:U)e=>bl (hP 22 (vs d) none (some (ah (a0.n:o))) none) bg e λ(f:U)g=>K f g) (K a0 a)) λa=>aP (Z<0) ed (a u)):VY a0 Z u K:=aW [] func286 [aX 3 []] h
def aDF(a0:b1)(Z:o)(u:H)(K:aD->o->Q)(h:dW u λa=>aP (a0=none) (K ax 3 (u.ins a (bj #[ah Z] 3 (0,0)))) (br a0 λb=>e5 (u.ins a (bj #[ah Z] 3 (0,0))) (b.add 3) λc=>ba (u.ins a (bj #[ah Z] 3 (0,0))) (am a) λd=>bl (gz 182 (dH c) (ah d) ak) [bf.one aE.ptr,bf.one aE.bool] (u.ins a (bj #[ah Z] 3 (0,0))) λ(e:aA bc)(f:aD)g=>cN (f=ak) (K ax 0 g) (br a0 λi=>e5 g (i.add 3) λj=>ba g (am a) λk=>bl (rZ #[182,3] 0 #[dH j,ah k]) [] g λl=>br a0 λm=>e5 l (m.add 3) λn=>bl (rY 182 (dH n)) eI l λ(z:aA bc)p=>Ot p λq r=>wZ aH (aZ z) r (λ(s:H)=>gP o 0 s λt v w=>aP (v<31) (br e λx=>2<=31/\((0:o)<=v/\v<(31:o))/\bn w (aR (x.add 1) v 1) λy=>gP o 1 w λY bX b0=>aP (bX<(y.n:o)) (hN aD (λcj cE=>dX cj (bh (bX-1)/\bu y (bX-1) λch=>bu y bX λcG=>ba cE (aR ch (bX-1) 1) λcR=>ba cE (aR cG bX 1) λdg=>Qn a0 cR dg v cE λcB=>bh (bX+1)/\Y (bX+1) cB) (bh (bX+1)/\Y (bX+1) cE)) λcj=>bh (bX-1)/\bu y (bX-1) λcE=>ba b0 (aR cE (bX-1) 1) λch=>ba b0 (am a) λcG=>cN (ch=cG) (bu y bX λcR=>ba b0 (aR cR bX 1) λdg=>ba b0 (am a) λcB=>cN (dg=cB) (br a0 λdn=>bh (bX-1)/\bu y (bX-1) λbU=>bu y bX λaX=>e5 b0 (dn.add 3) λeO=>ba b0 (aR bU (bX-1) 1) λeC=>ba b0 (aR aX bX 1) λfb=>bl (gz 182 (dH eO) (ah eC) ax) eI b0 λ(ft:aA bc)gB=>H.le b0 gB/\br ft λgM=>2<=31/\((0:o)<=v/\v<(31:o))/\bn gB (aR (gM.add 1) v 1) λiE=>H.le b0 gB/\VV iE fb gB λiF j7=>cj (wx (decide (iF=ak))) j7) (H.le b0 b0/\H.le b0 b0/\cj ax b0)) (H.le b0 b0/\H.le b0 b0/\cj ax b0)) (bh (v+1)/\t (v+1) b0)) (br a0 λx=>ba w (x.add 4) λy=>ba w (am a) λY=>aP (y=Y) (br a0 λbX=>H.aO w (bX.add 4) [ah 0] λb0=>br a0 λcj=>e5 b0 (cj.add 3) λcE=>Qu cE b0 λch cG=>vp ch cG λcR dg=>gP o 0 dg λcB dn bU=>aP (dn<(cR.n:o)) (bu cR dn λaX=>ba bU (aR aX dn 1) λeO=>hN aD (λeC fb=>dX eC (br a0 λft=>H.aO fb (ft.add 4) [ah eO] λgB=>bh (dn+1)/\cB (dn+1) gB) (bh (dn+1)/\cB (dn+1) fb)) λeC=>br a0 λfb=>ba bU (fb.add 4) λft=>aP (ft=0) ((H.le bU bU/\(H.le bU bU/\H.le bU bU/\H.le bU bU/\eC ak bU)/\H.le bU bU/\(H.le bU bU/\H.le bU bU/\eC ak bU)/\H.le bU bU/\H.le bU bU/\eC ak bU)/\H.le bU bU/\(H.le bU bU/\(H.le bU bU/\H.le bU bU/\eC ak bU)/\H.le bU bU/\H.le bU bU/\eC ak bU)/\H.le bU bU/\H.le bU bU/\H.le bU bU/\eC ak bU) (br a0 λgB=>br a0 λgM=>br a0 λiE=>e5 bU (gB.add 3) λiF=>e5 bU (gM.add 3) λj7=>ba bU (iE.add 4) λkp=>(bl (gz 182 (dH iF) (ah eO) ax) eI bU λ(dp:aA bc)nB=>H.le bU nB/\br dp λjK=>(ba nB (jK.add 32) λbe=>H.le bU nB/\bl (gz 182 (dH j7) (ah kp) ax) eI nB λ(hJ:aA bc)kY=>H.le bU kY/\br hJ λmL=>ba kY (mL.add 32) λkZ=>H.le bU kY/\eC (decide (kZ<be)) kY)/\bl (gz 182 (dH j7) (ah kp) ax) eI nB λ(be:aA bc)hJ=>H.le bU hJ/\br be λkY=>(ba hJ (jK.add 32) λmL=>H.le bU hJ/\ba hJ (kY.add 32) λkZ=>H.le bU hJ/\eC (decide (kZ<mL)) hJ)/\ba hJ (kY.add 32) λmL=>H.le bU hJ/\ba hJ (jK.add 32) λkZ=>H.le bU hJ/\eC (decide (mL<kZ)) hJ)/\bl (gz 182 (dH j7) (ah kp) ax) eI bU λ(dp:aA bc)nB=>H.le bU nB/\br dp λjK=>(bl (gz 182 (dH iF) (ah eO) ax) eI nB λ(be:aA bc)hJ=>H.le bU hJ/\br be λkY=>(ba hJ (kY.add 32) λmL=>H.le bU hJ/\ba hJ (jK.add 32) λkZ=>H.le bU hJ/\eC (decide (kZ<mL)) hJ)/\ba hJ (jK.add 32) λmL=>H.le bU hJ/\ba hJ (kY.add 32) λkZ=>H.le bU hJ/\eC (decide (mL<kZ)) hJ)/\ba nB (jK.add 32) λbe=>H.le bU nB/\bl (gz 182 (dH iF) (ah eO) ax) eI nB λ(hJ:aA bc)kY=>H.le bU kY/\br hJ λmL=>ba kY (mL.add 32) λkZ=>H.le bU kY/\eC (decide (be<kZ)) kY)) (K ak 0 bU)) (K ak 0 w))) λ(_:ao)(_:ao)(s:H)=>wY aH (aZ z) s λ(_:ao)(t:ao)(v:H)=>sY aE.ptr t λ(w:aA bc)=>gP o 0 v λx y Y=>aP (y<31) (br w λbX=>2<=31/\((0:o)<=y/\y<(31:o))/\br w λb0=>bn Y (aR (bX.add 1) y 1) λcj=>VW cj (iQ (jC 293) #[] #[aZ (some (am a))]) Y λcE ch=>2<=31/\((0:o)<=y/\y<(31:o))/\H.aO ch (aR (b0.add 1) y 1) [vs cE] λcG=>bh (y+1)/\x (y+1) cG) (q Y)))):Qm a0 Z u K:=EV (C:={P:=aH,exp:=[3],wrap:=ax,iv:=iv,oO:=[41],oY:=[39]}) (args:=[(hn a0),(cJ bY Z)]) (oh _ _) func287 (by kernel_rfl) [aX 506 [],aX 1018 [(60,bT)],aX 521422 [(13,bT)],aX 8342756 [(112,.bool)],aX 16342 [(142,bT)],aX 1045913 [(174,.bool)],aX 64822 [(43,bT)]] (by kernel_rfl) (by kernel_rfl) (Eq.mp (by kernel_rfl) h)
def aDH(a0:b1)(u:H)(K:o->Q)(h:aP (a0=none) (K 0 u) (br a0 λa=>e5 u (a.add 3) λb=>bl (qc #[182] 3 #[dH b]) cx u λ(c:o)d=>K c d)):VB a0 u K:=aW [] func288 [] h
def an7(a0:b1)(cc:o)(cp:U)(u:H)(K:aD->o->Q)(h:aP (a0=none) (K ax 3 u) (br a0 λa=>e5 u (a.add 3) λb=>bl (gz 182 (dH b) (ah cc) ak) [bf.one aE.ptr,bf.one aE.bool] u λ(_:aA bc)(c:aD)d=>br a0 λe=>br a0 λf=>ba d e λg=>e5 d (f.add 3) λi=>bl (qc #[182] 3 #[dH i]) cx d λ(j:o)k=>H.le d k/\El cc cp g c j k λl m=>cN (l=0) (K ax l m) (Qm a0 cc m λ_ _ n=>o8 cp n λz p=>H.le n p/\Hv a0 cc z p λq=>K (wx (decide (c=ak))) 0 q))):KX a0 cc cp u K:=aW [] func289 [] h
def aDI(a0:b1)(u:H)(K:U->Q)(h:aP (a0=none) (K bt u) (br a0 λa=>e5 u (a.add 3) λb=>bl (rY 182 (dH b)) eI u λ(c:aA bc)d=>gP U bt d λe f g=>wZ aH (aZ c) g (λ(i:H)=>r9 f i λj k=>K j k) λ(_:ao)(_:ao)(i:H)=>wY aH (aZ c) i λ(j:ao)(k:ao)(l:H)=>sY (aE.int bY) j λ(m:o)=>sY aE.ptr k λ(n:aA bc)=>br n λz=>bn l z λp=>bl (dI 22 1 #[(0,cD #[ah m,vs p])]) bg l λ(q:U)r=>bl (ee #[22,22] 22 #[vs f,vs q]) bg r λ(s:U)t=>e s t)):VC a0 u K:=EV (C:={P:=aH,exp:=[],wrap:=ax,iv:=iv,oO:=[15],oY:=[13]}) (args:=[(hn a0)]) (oh _ _) func290 (by kernel_rfl) [aX 122 [(3,.slice)]] (by kernel_rfl) (by kernel_rfl) (Eq.mp (by kernel_rfl) h)
def aDJ(a0:b1)(Z:U)(a2 a3:o)(u:H)(K:U->U->U->o->Q)(h:dW u λa=>aP (a0=none) (K bt bt bt 3 (u.ins a (bj #[ah a3] 3 (0,0)))) (br a0 λb=>ba (u.ins a (bj #[ah a3] 3 (0,0))) b λc=>ba (u.ins a (bj #[ah a3] 3 (0,0))) (am a) λd=>Co Z c a2 d (u.ins a (bj #[ah a3] 3 (0,0))) λe f=>cN (e=0) (K bt bt bt e f) (Er a2 f λg _ i=>dW i λj=>H.aO (i.ins j (bj #[aZ none] 90 (0,0))) (am j) [aZ g] λk=>bl (pE 166 none) [bf.one aE.map] k λ(l:aA N)m=>dW m λn=>H.aO (m.ins n (bj #[dH none] 166 (0,0))) (am n) [dH l] λz=>we (λp=>br a0 λq=>e5 p (q.add 3) λr=>Qu r p λs t=>vp s t λv w=>iz U o bt 0 w λx y Y bX=>aP (Y<(v.n:o)) (bu v Y λb0=>ba bX (aR b0 Y 1) λcj=>e5 bX (am n) λcE=>bl (gz 166 (dH cE) (ah cj) ax) eH bX λ(ch:aD)cG=>cN (ch=ak) (yu a0 cj Z cG λcR dg cB dn=>l9 (iQ (jC 297) #[] #[aZ (some (am n)),aZ (some (am a)),aZ (some (am j))]) #[cD #[ah cR,bA dg,bA cB]] eH dn λ(bU:aD)aX=>cN (bU=ak) (bl (dI 30 1 #[(0,ah cj)]) bg aX λ(eO:U)eC=>bl (ee #[30,30] 30 #[vs y,vs eO]) bg eC λ(fb:U)ft=>bh (Y+1)/\x fb (Y+1) ft) (bh (Y+1)/\x y (Y+1) aX)) (bh (Y+1)/\x y (Y+1) cG)) (hN bc (λb0 cj=>aP ((0:o)<(y.n:o)) (bl (dI 39 1 #[(0,cD #[ah 1,vs bt,vs bt,bA 0,bA 0,vs y])]) bg cj λ(cE:U)ch=>H.aO ch (b0.add 2) [vs cE] λcG=>bn cG b0 λcR=>bn cG (b0.add 1) λdg=>bn cG (b0.add 2) λcB=>K cR dg cB 0 cG) (bn cj b0 λcE=>bn cj (b0.add 1) λch=>bn cj (b0.add 2) λcG=>K cE ch cG 0 cj)) λb0=>eM bX (am j) λcj=>e5 bX (am n) λcE=>(Cr cj bX λch cG=>H.le bX cG/\(Qv cE cG λcR dg=>(vp cR dg λcB dn=>dW dn λbU=>H.le bX (dn.ins bU (bj #[vs bt,vs bt,vs bt] 41 (0,0)))/\H.aO (dn.ins bU (bj #[vs bt,vs bt,vs bt] 41 (0,0))) (am bU) [vs ch,vs cB,vs bt] λaX=>b0 (am bU) aX)/\dW dg λcB=>H.le bX (dg.ins cB (bj #[vs bt,vs bt,vs bt] 41 (0,0)))/\vp cR (dg.ins cB (bj #[vs bt,vs bt,vs bt] 41 (0,0))) λdn bU=>H.aO bU (am cB) [vs ch,vs dn,vs bt] λaX=>b0 (am cB) aX)/\dW cG λcR=>H.le bX (cG.ins cR (bj #[vs bt,vs bt,vs bt] 41 (0,0)))/\Qv cE (cG.ins cR (bj #[vs bt,vs bt,vs bt] 41 (0,0))) λdg cB=>vp dg cB λdn bU=>H.aO bU (am cR) [vs ch,vs dn,vs bt] λaX=>b0 (am cR) aX)/\dW bX λch=>H.le bX (bX.ins ch (bj #[vs bt,vs bt,vs bt] 41 (0,0)))/\Cr cj (bX.ins ch (bj #[vs bt,vs bt,vs bt] 41 (0,0))) λcG cR=>H.le bX cR/\Qv cE cR λdg cB=>vp dg cB λdn bU=>H.aO bU (am ch) [vs cG,vs dn,vs bt] λaX=>b0 (am ch) aX)) λp=>br a0 λq=>ba z (q.add 4) λr=>cN (r=0) (Qp a0 Z 0 z λs t=>KY a0 s Z 0 (iQ (jC 297) #[] #[aZ (some (am n)),aZ (some (am a)),aZ (some (am j))]) t λv=>p v) (p z)))):VD a0 Z a2 a3 u K:=aW [7,11,13,18] func291 [aX 127 [],aX 4090 [(15,.slice),(60,bT)],aX 1023 [(18,.addr)]] h
def aEK(a0:U)(Z:ao)(u:H)(K:U->Q)(h:VZ a0 Z u λa b=>aP (a=-1) (K a0 b) (bh (a+1)/\iz o o a (a+1) b λc d e f=>aP (e<(a0.n:o)) (bu a0 e λg=>ba f (aR g e 1) λi=>l9 Z #[ah i] eH f λ(j:aD)k=>cN (j=ak) (bu a0 d λl=>H.aO k (aR l d 1) [ah i] λm=>bh (d+1)/\bh (e+1)/\c (d+1) (e+1) m) (bh (e+1)/\c d (e+1) k)) (bl (hP 30 (vs a0) (some (ah d)) none none) bg f λ(g:U)i=>bl (qd #[30] 0 #[vs g]) [] i λj=>bl (hP 30 (vs a0) none (some (ah d)) none) bg j λ(k:U)l=>K k l))):VW a0 Z u K:=aW [] func292 [aX 122 [(5,bT),(6,bT)]] h
def aDG(a0:o)(Z:bc)(u:H)(K:aD->Q)(h:ba u Z λa=>K (decide (a0=a)) u):aoD a0 Z u K:=nD 1 [] func293 [] h
def aEJ(a0:U)(Z:o)(u:H)(K:aD->Q)(h:V0 a0 Z u λa b=>K (decide ((0:o)<=a)) b):VV a0 Z u K:=aW [] func294 [] h
def aES(a0:ao)(u:H)(K:U->Q)(h:VT a0 u λa b=>Cq a b λc=>K a c):vp a0 u K:=aW [] func295 [] h
def aEn(a0:aA N)(u:H)(K:ao->Q)(h:dW u λa=>K (iQ (jC 302) #[] #[aZ (some (am a))]) (u.ins a (bj #[dH a0] 182 (0,0)))):Qu a0 u K:=aW [1] func296 [] h
def aDK(bI bN da:o)(Z a2 a3:bc)(u:H)(K:aD->Q)(h:e5 u Z λa=>bl (qc #[166] 3 #[dH a]) cx u λ(b:o)c=>ba c a2 λd=>aP (b=d) (K ax c) (e5 c Z λe=>bl (gz 166 (dH e) (ah bI) ax) eH c λ(f:aD)g=>cN (f=ak) (e5 g Z λi=>bl (unit (kh 166 (dH i) (ah bI) (hl ak))) [] g λj=>eM j a3 λk=>Ai k bI bN da j λ_ l=>K ak l) (K ak g))):aoE bI bN da Z a2 a3 u K:=nD 1 [] func297 [] h
def adU(a0:aA N)(u:H)(K:ao->Q)(h:dW u λa=>K (iQ (jC 303) #[] #[aZ (some (am a))]) (u.ins a (bj #[dH a0] 166 (0,0)))):Qv a0 u K:=aW [1] func298 [] h
def aEO(a0:U)(Z:ao)(u:H)(K:o->Q)(h:iz o o 0 0 u λa b c d=>aP (c<(a0.n:o)) (bu a0 c λe=>ba d (aR e c 1) λf=>l9 Z #[ah f] eH d λ(g:aD)i=>dX g (K c i) (bh (c+1)/\a b (c+1) i)) (K (-1) d)):VZ a0 Z u K:=aW [] func299 [aX 26 [(4,bT),(8,bT)]] h
def aEQ(a0:U)(Z:o)(u:H)(K:o->Q)(h:iz o o 0 0 u λa b c d=>aP (c<(a0.n:o)) (bu a0 c λe=>ba d (aR e c 1) λf=>aP (Z=f) (K c d) (bh (c+1)/\a b (c+1) d)) (K (-1) d)):V0 a0 Z u K:=aW [] func300 [aX 26 [(4,bT),(8,bT)]] h
def aEH(a0:ao)(u:H)(K:U->Q)(h:aeF bt a0 u λa b=>K a b):VT a0 u K:=aW [] func301 [] h
def aEo(a0:ao)(Z:bc)(u:H)(K:Q)(h:e5 u Z λa=>bl (rY 182 (dH a)) eI u λ(b:aA bc)c=>Ot c λd e=>wZ aH (aZ b) e (λ(f:H)=>K f) λ(_:ao)(_:ao)(f:H)=>wY aH (aZ b) f λ(g:ao)(_:ao)(i:H)=>sY (aE.int bY) g λ(j:o)=>l9 a0 #[ah j] eH i λ(k:aD)l=>cN (k=ak) (K l) (d l)):aoN a0 Z u K:=LV 1 (C:={P:=aH,exp:=[],wrap:=ax,iv:=iv,oO:=[8],oY:=[6]}) (args:=[a0,(hn (some Z))]) (oh _ _) func302 (by kernel_rfl) [aX 6 []] (by kernel_rfl) (by kernel_rfl) (Eq.mp (by kernel_rfl) h)
def aEr(a0:ao)(Z:bc)(u:H)(K:Q)(h:e5 u Z λa=>bl (rY 166 (dH a)) eI u λ(b:aA bc)c=>Ot c λd e=>wZ aH (aZ b) e (λ(f:H)=>K f) λ(_:ao)(_:ao)(f:H)=>wY aH (aZ b) f λ(g:ao)(_:ao)(i:H)=>sY (aE.int bY) g λ(j:o)=>l9 a0 #[ah j] eH i λ(k:aD)l=>cN (k=ak) (K l) (d l)):aoP a0 Z u K:=LV 1 (C:={P:=aH,exp:=[],wrap:=ax,iv:=iv,oO:=[8],oY:=[6]}) (args:=[a0,(hn (some Z))]) (oh _ _) func303 (by kernel_rfl) [aX 6 []] (by kernel_rfl) (by kernel_rfl) (Eq.mp (by kernel_rfl) h)
def aED(a0:U)(Z:ao)(u:H)(K:U->Q)(h:dW u λa=>nw aH (Kl (Tryz.f304.body.getD Code.skip)) 13 [(6,Z),(4,vs bt),(2,aZ (some (am a))),(0,vs a0),(1,Z)] (u.ins a (bj #[vs a0] 30 (0,0))) λ(b:N)(c:H)=>bn c (am a) λd=>c b=some (u9 (some []))/\K d (c.ins b (u9 none))):aeF a0 Z u K:=aW [2] func304 [] h
def aC9(a0:b1)(Z:o)(u:H)(K:aD->o->Q)(h:br a0 λa=>e5 u (a.add 1) λb=>bl (gz 125 (dH b) (ah Z) ak) [bf.one aE.slice,bf.one aE.bool] u λ(_:U)(c:aD)d=>br a0 λe=>e5 d (e.add 1) λf=>bl (rZ #[125,3] 0 #[dH f,ah Z]) [] d λg=>K c 0 g):aeg a0 Z u K:=aW [] func305 [] h
def aDa(a0:b1)(u:H)(K:o->Q)(h:br a0 λa=>e5 u (a.add 1) λb=>bl (qc #[125] 3 #[dH b]) cx u λ(c:o)d=>K c d):aeh a0 u K:=aW [] func306 [] h
def aDb(a0:b1)(cc:o)(cp:U)(u:H)(K:aD->o->Q)(h:br a0 λa=>e5 u (a.add 1) λb=>bl (gz 125 (dH b) (ah cc) ak) [bf.one aE.slice,bf.one aE.bool] u λ(_:U)(c:aD)d=>br a0 λe=>br a0 λf=>ba d e λg=>e5 d (f.add 1) λi=>bl (qc #[125] 3 #[dH i]) cx d λ(j:o)k=>H.le d k/\El cc cp g c j k λl m=>cN (l=0) (K ax l m) (br a0 λn=>e5 m (n.add 1) λz=>o8 cp m λp q=>H.le m q/\bl (unit (kh 125 (dH z) (ah cc) (vs p))) [] q λr=>K (wx (decide (c=ak))) 0 r)):Vq a0 cc cp u K:=aW [] func307 [] h
def aDc(a0:b1)(u:H)(K:U->Q)(h:br a0 λa=>e5 u (a.add 1) λb=>bl (rY 125 (dH b)) eI u λ(c:aA bc)d=>gP U bt d λe f g=>wZ aH (aZ c) g (λ(i:H)=>r9 f i λj k=>K j k) λ(_:ao)(_:ao)(i:H)=>wY aH (aZ c) i λ(j:ao)(k:ao)(l:H)=>sY (aE.int bY) j λ(m:o)=>sY aE.slice k λ(n:U)=>bl (dI 22 1 #[(0,cD #[ah m,vs n])]) bg l λ(z:U)p=>bl (ee #[22,22] 22 #[vs f,vs z]) bg p λ(q:U)r=>e q r):Vr a0 u K:=EV (C:={P:=aH,exp:=[],wrap:=ax,iv:=iv,oO:=[13],oY:=[11]}) (args:=[(hn a0)]) (oh _ _) func308 (by kernel_rfl) [aX 58 [(3,.slice)]] (by kernel_rfl) (by kernel_rfl) (Eq.mp (by kernel_rfl) h)
def aDd(a0:b1)(Z:U)(a2 a3:o)(u:H)(K:U->U->U->o->Q)(h:br a0 λa=>ba u a λb=>Co Z b a2 a3 u λc d=>cN (c=0) (K bt bt bt c d) (Vr a0 d λe f=>Qi e Z a2 a3 f λg i j k l=>K g i j k l)):aei a0 Z a2 a3 u K:=aW [] func309 [] h
def aDq(a0 Z:U)(a2 a3:o)(u:H)(K:U->U->U->o->Q)(h:Qj a0 Z u λa b=>cN (a=0) (K bt bt bt a b) (hN aD (λc d=>dX c (K bt bt bt 1 d) (bl (hP 22 (vs a0) none (some (ah (ite ((a0.n:o)<a3) (a0.n:o) a3))) none) bg d λ(e:U)f=>Em e Z a2 f λg _ i=>zt o U U U 0 g bt bt i λj k l m n z=>aP (k<(e.n:o)) (bu e k λp=>ba z (aR p k 2) λq=>bn z ((aR p k 2).add 1) λ_=>bl (dI 30 1 #[(0,ah q)]) bg z λ(r:U)s=>bl (ee #[30,30] 30 #[vs m,vs r]) bg s λ(t:U)v=>bh (k+1)/\j (k+1) l t n v) (Cq m z λp=>bl (hP 22 (vs a0) (some (ah (e.n:o))) none none) bg p λ(q:U)r=>aP ((0:o)<(q.n:o)) (QH q (Z.n:o) r λs t v w x y Y bX=>cN (Y=0) (K bt bt bt Y bX) (bl (dI 39 1 #[(0,cD #[ah s,vs t,vs v,bA w,bA x,vs y])]) bg bX λ(b0:U)cj=>K l m b0 0 cj)) (K l m n 0 r)))) λc=>aP (a2<1) (c ak b) (aP ((64:o)<a2) (c ak b) (aP (a3<0) (c ak b) (c (decide ((1000000:o)<a3)) b))))):Qi a0 Z a2 a3 u K:=aW [] func310 [aX 14 [(38,.bool)],(1018,⟨[(56,bT)],[(1,[.slice,.slice,.slice])]⟩)] h
def aC6(a0:b1)(cc:o)(cp:U)(u:H)(K:aD->o->Q)(h:br a0 λa=>Vq (some a) cc cp u λb c d=>hN aD (λe f=>dX e (br a0 λg=>br a0 λi=>e5 f (g.add 3) λj=>eM f (i.add 2) λk=>VL k cp f λl _ m=>H.le f m/\bl (unit (kh 125 (dH j) (ah cc) (vs l))) [] m λn=>K b c n) (K b c f)) λe=>aP (c=0) (br a0 λf=>eM d (f.add 2) λg=>e (wx (decide (g=none))) d) (e ax d)):aed a0 cc cp u K:=aW [] func311 [aX 14 [(24,.bool)]] h
section
variable{u u':H}{d a b x c y:o}{K:o->H->Prop}{t:U}{k:N}{l q:M o}
def aC7(a0:b1)(Z:U)(a2 a3:o)(u:H)(K:U->U->U->o->Q)(h:br a0 λa=>ba u a λb=>Co Z b a2 a3 u λc d=>cN (c=0) (K bt bt bt c d) (hN U (λe f=>br a0 λg=>e5 f (g.add 1) λi=>VK i f λj k=>vp j k λl m=>iz U o bt 0 m λn z p q=>aP (p<(l.n:o)) (bu l p λr=>ba q (aR r p 1) λs=>br a0 λt=>eM q (t.add 2) λv=>cN (v=none) (br a0 λw=>e5 q (w.add 3) λx=>bl (gz 125 (dH x) (ah s) ax) bg q λ(y:U)Y=>VN e y Y λbX b0 _ cj=>bl (dI 38 1 #[(0,cD #[ah s,bA bX,bA b0])]) bg cj λ(cE:U)ch=>bl (ee #[38,38] 38 #[vs z,vs cE]) bg ch λ(cG:U)cR=>bh (p+1)/\n cG (p+1) cR) (bl (dI 38 1 #[(0,cD #[ah s,bA 0,bA 0])]) bg q λ(w:U)x=>bl (ee #[38,38] 38 #[vs z,vs w]) bg x λ(y:U)Y=>bh (p+1)/\n y (p+1) Y)) (V1 z (iQ (jC 317) #[] #[]) q λr=>Er a2 r λs _ t=>akt U o U U U bt 0 bt bt bt t λv w x y Y bX b0=>aP (x<(z.n:o)) (bu z x λcj=>ba b0 (aR cj x 3) λcE=>dA b0 ((aR cj x 3).add 1) λ_=>dA b0 ((aR cj x 3).add 2) λ_=>aP (a3<=x) (bl (dI 30 1 #[(0,ah cE)]) bg b0 λ(ch:U)cG=>bl (ee #[30,30] 30 #[vs w,vs ch]) bg cG λ(cR:U)dg=>bh (x+1)/\v cR (x+1) y Y bX dg) (br a0 λch=>e5 b0 (ch.add 1) λcG=>bl (gz 125 (dH cG) (ah cE) ax) bg b0 λ(cR:U)dg=>sa cR Z dg λcB dn _ bU=>Ai s cE cB dn bU λ_ aX=>bl (dI 30 1 #[(0,ah cE)]) bg aX λ(eO:U)eC=>bl (ee #[30,30] 30 #[vs Y,vs eO]) bg eC λ(fb:U)ft=>bh (x+1)/\v w (x+1) y fb bX ft)) (Cq Y b0 λcj=>aaS U U U (λ_ cE ch cG=>Cr s cG λcR dg=>K cR cE ch 0 dg) λcE=>aP ((0:o)<(w.n:o)) (Cq w cj λch=>bl (dI 39 1 #[(0,cD #[ah 1,vs bt,vs bt,bA 0,bA 0,vs w])]) bg ch λ(cG:U)cR=>cE y Y cG cR) (cE y Y bX cj)))) λe=>br a0 λf=>eM d (f.add 2) λg=>cN (g=none) (br a0 λi=>eM d (i.add 2) λj=>VM j Z d λk _ l=>e k l) (e bt d))):aee a0 Z a2 a3 u K:=aW [] func312 [aX 31 [(12,.slice)],aX 506 [(11,.slice),(57,bT)],(16378,⟨[(19,.slice),(94,bT)],[(1,[.slice,.slice,.slice])]⟩),(8191,⟨[],[(1,[.slice,.slice,.slice])]⟩)] h
def aEs(a0:b1)(Z:U)(u:H)(K:U->o->Q)(h:aP (a0=none) (K bt 3 u) (br a0 λa=>ba u a λb=>qv Z b u λc d=>cN (c=0) (K bt c d) (br a0 λe=>bn d (e.add 1) λf=>iz U o bt 0 d λg i j k=>aP (j<(f.n:o)) (bu f j λl=>bn k (aR l j 1) λm=>br a0 λn=>bn k (n.add 1) λz=>K0 Z (z.n:o) j k λp q=>Hx m p q λr _ _ _ s=>bl (dI 30 1 #[(0,ah r)]) bg s λ(t:U)v=>bl (ee #[30,30] 30 #[vs i,vs t]) bg v λ(w:U)x=>bh (j+1)/\g w (j+1) x) (K i 0 k)))):VL a0 Z u K:=aW [] func313 [aX 250 [(7,.slice),(29,bT)]] h
def aEt(a0:b1)(Z:U)(u:H)(K:U->o->Q)(h:aP (a0=none) (K bt 3 u) (br a0 λa=>ba u a λb=>qv Z b u λc d=>cN (c=0) (K bt c d) (br a0 λe=>bn d (e.add 1) λf=>iz U o bt 0 d λg i j k=>aP (j<(f.n:o)) (bu f j λl=>bn k (aR l j 1) λm=>iz U o bt 0 k λn z p q=>aP (p<(m.n:o)) (bu m p λr=>bn q (aR r p 1) λs=>br a0 λt=>bn q (t.add 1) λv=>K0 Z (v.n:o) j q λw x=>sa w s x λy Y _ bX=>bl (dI 359 1 #[(0,cD #[bA y,bA Y])]) bg bX λ(b0:U)cj=>bl (ee #[359,359] 359 #[vs z,vs b0]) bg cj λ(cE:U)ch=>bh (p+1)/\n cE (p+1) ch) (bl (dI 354 1 #[(0,vs z)]) bg q λ(r:U)s=>bl (ee #[354,354] 354 #[vs i,vs r]) bg s λ(t:U)v=>bh (j+1)/\g t (j+1) v)) (K i 0 k)))):VM a0 Z u K:=aW [] func314 [aX 250 [(7,.slice),(31,bT)],aX 256410 [(10,.slice),(38,bT)]] h
def aEp(a0:aA N)(u:H)(K:ao->Q)(h:dW u λa=>K (iQ (jC 318) #[] #[aZ (some (am a))]) (u.ins a (bj #[dH a0] 125 (0,0)))):VK a0 u K:=aW [1] func315 [] h
def aEu(a0 Z:U)(u:H)(K:o->o->o->Q)(h:cN ((a0.n:o)=(Z.n:o)) (K 0 0 101 u) (zt o o o o 0 0 0 0 u λa b c d e f=>aP (c<(Z.n:o)) (bu Z c λg=>ba f (aR g c 1) λi=>aP (i<0) (K 0 0 101 f) (bu a0 c λj=>bn f (aR j c 1) λk=>aP ((k.n:o)<=i) (K 0 0 101 f) (bh (c+1)/\a b (c+1) d e f))) (axN o o o o o o b 0 0 0 d e f λg i j k l m n z=>aP (j<(Z.n:o)) (bu Z j λp=>ba z (aR p j 1) λq=>bu a0 j λr=>bn z (aR r j 1) λs=>bu s q λt=>dA z (aR t q 2) λv=>dA z ((aR t q 2).add 1) λw=>QN k l v w z λx y Y bX=>cN (Y=0) (K 0 0 Y bX) (bh (j+1)/\g i (j+1) x y m n bX)) (K k l 0 z)))):VN a0 Z u K:=aW [] func316 [(58,⟨[(5,bT),(20,bT)],[(0,[.int .u64,.int .u64])]⟩),(250,⟨[(5,bT),(40,bT)],[(1,[.int .u64,.int .u64]),(0,[.int .u64,.int .u64])]⟩)] h
def aC8(bI bN da cc cp hI:o)(u:H)(K:o->Q)(h:Cs bI bN da cc cp hI u λa b=>dX a (K (-1) b) (K 1 b)):aef bI bN da cc cp hI u K:=aW [] func317 [] h
def aEq(a0:ao)(Z:bc)(u:H)(K:Q)(h:e5 u Z λa=>bl (rY 125 (dH a)) eI u λ(b:aA bc)c=>Ot c λd e=>wZ aH (aZ b) e (λ(f:H)=>K f) λ(_:ao)(_:ao)(f:H)=>wY aH (aZ b) f λ(g:ao)(_:ao)(i:H)=>sY (aE.int bY) g λ(j:o)=>l9 a0 #[ah j] eH i λ(k:aD)l=>cN (k=ak) (K l) (d l)):aoO a0 Z u K:=LV 1 (C:={P:=aH,exp:=[],wrap:=ax,iv:=iv,oO:=[8],oY:=[6]}) (args:=[a0,(hn (some Z))]) (oh _ _) func318 (by kernel_rfl) [aX 6 []] (by kernel_rfl) (by kernel_rfl) (Eq.mp (by kernel_rfl) h)
def aFs(a0:U)(u:H)(K:o->Q)(h:K (a0.n:o) u):aoR a0 u K:=aW [] func320 [] h
def aFt(a0:U)(Z a2:o)(u:H)(K:aD->Q)(h:bu a0 a2 λa=>bu a0 Z λb=>ba u (aR a a2 3) λc=>dA u ((aR a a2 3).add 1) λd=>dA u ((aR a a2 3).add 2) λe=>ba u (aR b Z 3) λf=>dA u ((aR b Z 3).add 1) λg=>dA u ((aR b Z 3).add 2) λi=>Cs c d e f g i u λj k=>K j k):aeM a0 Z a2 u K:=aW [] func321 [] h
def aFv(a0:U)(Z a2:o)(u:H)(K:Q)(h:bu a0 a2 λa=>bu a0 Z λb=>ba u (aR a a2 3) λc=>dA u ((aR a a2 3).add 1) λd=>dA u ((aR a a2 3).add 2) λe=>ba u (aR b Z 3) λf=>dA u ((aR b Z 3).add 1) λg=>dA u ((aR b Z 3).add 2) λi=>bu a0 Z λj=>H.aO u (aR j Z 3) [ah c,bA d,bA e] λk=>bu a0 a2 λl=>H.aO k (aR l a2 3) [ah f,bA g,bA i] λm=>K m):aeN a0 Z a2 u K:=aW [] func322 [] h
def aFu(a0:b1)(Z:ao)(u:H)(K:Q)(h:bl (tE Z 20 68 ak) [bf.agg [aE.int bY,aE.int bo,aE.int bo],bf.one aE.bool] u λ(a:o)(b:o)(c:o)(d:aD)e=>dX d (br a0 λf=>bn e f λg=>bl (dI 141 1 #[(0,cD #[ah a,bA b,bA c])]) bg e λ(i:U)j=>H.le e j/\bl (ee #[141,141] 141 #[vs g,vs i]) bg j λ(k:U)l=>br a0 λm=>H.aO l m [vs k] λn=>K n) (K e)):aoS a0 Z u K:=aW [] func324 [] h
def aDU(a0:U)(Z a2:o)(u:H)(K:aD->Q)(h:bu a0 Z λa=>bu a0 a2 λb=>ba u (aR a Z 3) λc=>dA u ((aR a Z 3).add 1) λd=>dA u ((aR a Z 3).add 2) λe=>ba u (aR b a2 3) λf=>dA u ((aR b a2 3).add 1) λg=>dA u ((aR b a2 3).add 2) λi=>Cs c d e f g i u λj k=>K j k):aeq a0 Z a2 u K:=aW [] func325 [] h
def aDX(a0:U)(Z a2:o)(u:H)(K:Q)(h:bu a0 a2 λa=>bu a0 Z λb=>ba u (aR a a2 3) λc=>dA u ((aR a a2 3).add 1) λd=>dA u ((aR a a2 3).add 2) λe=>ba u (aR b Z 3) λf=>dA u ((aR b Z 3).add 1) λg=>dA u ((aR b Z 3).add 2) λi=>bu a0 Z λj=>H.aO u (aR j Z 3) [ah c,bA d,bA e] λk=>bu a0 a2 λl=>H.aO k (aR l a2 3) [ah f,bA g,bA i] λm=>K m):aer a0 Z a2 u K:=aW [] func326 [] h
def aDV(a0:b1)(u:H)(K:ao->Q)(h:hN bc (λa b=>br a0 λc=>br a0 λd=>bn b c λe=>bn b d λf=>bh ((f.n:o)-1)/\bl (hP 263 (vs e) none (some (ah ((f.n:o)-1))) none) bg b λ(g:U)i=>br a0 λj=>H.aO i j [vs g] λk=>ba k a λl=>dA k (a.add 1) λm=>dA k (a.add 2) λn=>K (l3 68 (cD #[ah l,bA m,bA n])) k) λa=>br a0 λb=>br a0 λc=>bn u b λd=>bn u c λe=>bh ((e.n:o)-1)/\bu d ((e.n:o)-1) λf=>ba u (aR f ((e.n:o)-1) 3) λg=>dA u ((aR f ((e.n:o)-1) 3).add 1) λi=>dA u ((aR f ((e.n:o)-1) 3).add 2) λj=>dW u λk=>H.le u (u.ins k (bj #[ah 0,bA 0,bA 0] 68 (0,0)))/\H.aO (u.ins k (bj #[ah 0,bA 0,bA 0] 68 (0,0))) (am k) [ah g,bA i,bA j] λl=>a (am k) l):aoG a0 u K:=aW [3] func327 [aX 3 [(3,.addr)]] h
def aDW(a0:b1)(Z:ao)(u:H)(K:Q)(h:br a0 λa=>bn u a λb=>bl (tE Z 20 68 ax) [bf.agg [aE.int bY,aE.int bo,aE.int bo]] u λ(c:o)(d:o)(e:o)f=>H.le u f/\bl (dI 263 1 #[(0,cD #[ah c,bA d,bA e])]) bg f λ(g:U)i=>H.le u i/\bl (ee #[263,263] 263 #[vs b,vs g]) bg i λ(j:U)k=>br a0 λl=>H.aO k l [vs j] λm=>K m):aoH a0 Z u K:=aW [] func328 [] h
def aDy(a0:U)(Z a2:o)(u:H)(K:aD->Q)(h:bu a0 Z λa=>bu a0 a2 λb=>dA u ((aR a Z 3).add 1) λc=>dA u (((aR a Z 3).add 1).add 1) λd=>dA u ((aR b a2 3).add 1) λe=>dA u (((aR b a2 3).add 1).add 1) λf=>sR c d e f u λg i=>K (decide (g<0)) i):aem a0 Z a2 u K:=aW [] func330 [] h
def aDB(a0:U)(Z a2:o)(u:H)(K:Q)(h:bu a0 a2 λa=>bu a0 Z λb=>eM u (aR a a2 3) λc=>dA u ((aR a a2 3).add 1) λd=>dA u ((aR a a2 3).add 2) λe=>eM u (aR b Z 3) λf=>dA u ((aR b Z 3).add 1) λg=>dA u ((aR b Z 3).add 2) λi=>bu a0 Z λj=>H.aO u (aR j Z 3) [aZ c,bA d,bA e] λk=>bu a0 a2 λl=>H.aO k (aR l a2 3) [aZ f,bA g,bA i] λm=>K m):aen a0 Z a2 u K:=aW [] func331 [] h
def aDz(a0:b1)(u:H)(K:ao->Q)(h:hN bc (λa b=>br a0 λc=>br a0 λd=>bn b c λe=>bn b d λf=>bh ((f.n:o)-1)/\bl (hP 331 (vs e) none (some (ah ((f.n:o)-1))) none) bg b λ(g:U)i=>br a0 λj=>H.aO i j [vs g] λk=>eM k a λl=>dA k (a.add 1) λm=>dA k (a.add 2) λn=>K (l3 334 (cD #[aZ l,bA m,bA n])) k) λa=>br a0 λb=>br a0 λc=>bn u b λd=>bn u c λe=>bh ((e.n:o)-1)/\bu d ((e.n:o)-1) λf=>eM u (aR f ((e.n:o)-1) 3) λg=>dA u ((aR f ((e.n:o)-1) 3).add 1) λi=>dA u ((aR f ((e.n:o)-1) 3).add 2) λj=>dW u λk=>H.le u (u.ins k (bj #[aZ none,bA 0,bA 0] 334 (0,0)))/\H.aO (u.ins k (bj #[aZ none,bA 0,bA 0] 334 (0,0))) (am k) [aZ g,bA i,bA j] λl=>a (am k) l):aoB a0 u K:=aW [3] func332 [aX 3 [(3,.addr)]] h
def aDA(a0:b1)(Z:ao)(u:H)(K:Q)(h:br a0 λa=>bn u a λb=>bl (tE Z 20 334 ax) [bf.agg [aE.ptr,aE.int bo,aE.int bo]] u λ(c:aA bc)(d:o)(e:o)f=>H.le u f/\bl (dI 331 1 #[(0,cD #[aZ c,bA d,bA e])]) bg f λ(g:U)i=>H.le u i/\bl (ee #[331,331] 331 #[vs b,vs g]) bg i λ(j:U)k=>br a0 λl=>H.aO k l [vs j] λm=>K m):aoC a0 Z u K:=aW [] func333 [] h
def cz(x:o):Prop:=0<=x/\x<18446744073709551616
def dy(hi bm:o):o:=hi*18446744073709551616+bm
def yl(ay:cz b)(aa:cz d)
  (h:K (if dy a b<dy c d then -1 else if dy c d<dy a b then 1 else 0) u):sR a b c d u K:=by
 apply aFW
 have key:∀Y,(if dy a b<dy c d then(-1:o) else if dy c d<dy a b then 1 else 0)=Y->K Y u:=λY e=>e▸h
 simp only[cz,dy] at*
 refine⟨λh=>key _ ?_,λh=>⟨λh1=>key _ ?_,λh1=>⟨λh2=>⟨λh3=>key _ ?_,λh3=>key _ ?_⟩,λh2=>key _ ?_⟩⟩⟩
 all_goals (repeat' split)<;>omega
def ae9{K:o->o->H->Prop}(ay:cz a)(aa:cz b)(pj:0<=c)(I:c<=1)
  (h:K ((a+b+c)%18446744073709551616) ((a+b+c)/18446744073709551616) u):
  c9 aH (Ay 162 #[.int .u64 a,.int .u64 b,.int .u64 c]) [.one (.int .u64),.one (.int .u64)] u K:=by
 refine c9.pure [.int .u64 ((a+b+c)%18446744073709551616),.int .u64 ((a+b+c)/18446744073709551616)] (λw _=>?_) (.cons (t:=.int .u64) _ (.cons (t:=.int .u64) _ .nil)) h
 unfold Ay
 rw[eW,run_callFunc_extern func162 (by kernel_rfl) (by kernel_rfl) (by kernel_rfl) (e:=add64Entry) (by kernel_rfl),run_add64 a b c ay.1 aa.1 pj I]
 rfl
def am6{K:o->o->o->H->Prop}(ay:cz a)(aa:cz b)(I:cz c)(ar:cz d)
  (h1:∀x y,cz x->cz y->dy x y=dy a b+dy c d->K x y 0 u) (h2:340282366920938463463374607431768211456<=dy a b+dy c d->K 0 0 10 u):QN a b c d u K:=by
 apply aFV
 simp only[cz,dy] at*
 refine ae9 aa ar (by omega) (by omega) (ae9 ay I (by omega) (by omega) ⟨λh=>h2 (by omega),λh=>h1 _ _ (by omega) (by omega) (by omega)⟩)
def aAO{K:o->o->H->Prop}(ay:cz a)(aa:cz b)
  (h:K (a*b/18446744073709551616) (a*b%18446744073709551616) u):Vs a b u K:=by
 apply aDe
 refine⟨by omega,by omega,by omega,by omega,by omega,?_⟩
 have e:=mul64_arith a b ay.1 ay.2 aa.1 aa.2
 have w:∀Y,bV .u64 Y=Y%18446744073709551616:=IntKind.wrap_u64
 have bU:∀Y,0<=Y->Y<18446744073709551616->bits .and .u64 Y 4294967295=Y%4294967296:=and_low32
 have p:(2:o) ^ 32=4294967296:=by decide
 have fd:∀Y:o,ev Y 4294967296=Y/4294967296:=λY=>acb Y (by decide)
 simp only[w,p,fd,bU a ay.1 ay.2,bU b aa.1 aa.2]
 rw[bU _ (by omega) (by omega),e]
 exact h
def UP{K:o->o->H->Prop}(ay:cz a)(aa:cz b)
  (h:∀x y,cz x->cz y->dy x y=a*b->K x y u):Es a b u K:=by
 apply aFX
 refine aAO ay aa (h _ _ ?_ ?_ ?_)
 obtain⟨h1,h2⟩:=ay
 obtain⟨h3,a7⟩:=aa
 have:=r2 h1 h3
 have:a*b<=18446744073709551615*18446744073709551615:=zO (by omega) (by omega) h3 (by omega)
 constructor<;>omega
 constructor<;>omega
 unfold dy;omega
def ma(x:o):Prop:= -2147483647<=x/\x<=2147483647
instance(x:o):Decidable (ma x):=inferInstanceAs (Decidable (_/\_))
def lO(x y:o):o:=(x-y)*(x-y)
def am4{K:o->o->H->Prop}(ay:cz a)(aa:cz b)(J:ma x)(ai:ma y)
  (ag:dy a b+18446744073709551616<340282366920938463463374607431768211456)
  (h:∀c d,cz c->cz d->dy c d=dy a b+lO x y->K c d u):QL a b x y u K:=by
 apply aFI
 have e:(ite (y>x) y x)-(ite (y<x) y x)=if x<y then y-x else x-y:=by(repeat' split)<;>omega
 rw[e]
 unfold ma at J ai
 have d1:∃Y:o,Y=(if x<y then y-x else x-y)/\0<=Y/\Y<=4294967294/\Y*Y=lO x y:=by refine⟨_,rfl,?_,?_,?_⟩;split<;>omega;split<;>omega;unfold lO;split<;>grind
 obtain⟨Y,aC,h0,h2,h3⟩:=d1
 rw[<-aC]
 refine⟨⟨by omega,by omega⟩,?_⟩
 have hw:bV .u64 Y=Y:=oD Y ⟨h0,by omega⟩
 rw[hw]
 have aC:cz Y:=⟨h0,by omega⟩
 refine UP aC aC λp q ad aL he=>⟨H.le.refl u,?_⟩
 have ajY:0<=Y*Y/\Y*Y<=18446744056529682436:=⟨r2 h0 h0,by have:=zO h2 h2 h0 (by omega);omega⟩
 refine am6 ay aa ad aL (λc d I ar kb=>h c d I ar (by rw[kb,he,h3])) λb5=>?_
 exfalso
 omega
def KB(J:ma x)(ai:ma y):0<=lO x y/\lO x y<=18446744056529682436:=by
 unfold ma at J ai;unfold lO;constructor;rcases Int.le_total 0 (x-y) with h|h;exact r2 h h;exact acd h h;rcases Int.le_total 0 (x-y) with h|h;have:=zO (show x-y<=4294967294 by omega) (show x-y<=4294967294 by omega) h (by omega);omega;have e:(x-y)*(x-y)=(y-x)*(y-x):=by grind
 have:=zO (show y-x<=4294967294 by omega) (show y-x<=4294967294 by omega) (by omega) (by omega);omega
def hv(l:M o)(d:o):o:=
 if 1<=d/\d<=64/\(l.length:o)=d then(if ∀i,i<l.length->ma (l.getD i 0) then 0 else 31) else 30
def adq{K:aD->H->Prop}(h:K (decide (1<=d/\d<=64)) u):K6 d u K:=by
 apply aFF;refine⟨λh1=>?_,λh1=>?_⟩;have:@decide (d<=64) (@tD _ (Int.decLe d 64))=decide (1<=d/\d<=64):=by simp[h1]
 rw[this];exact h;have:decide (1<=d/\d<=64)=ax:=by simp;omega
 rw[this] at h;exact h
def qj{s:U}(ag:Ints u s l)(h:K (hv l d) u):qv s d u K:=by
 have key:∀Y,hv l d=Y->K Y u:=λY e=>e▸h;have ae:=ag.len;have xA:=ag.max;apply aFz;intro nr nE;refine adq ⟨λaa=>key _ ?_,λaa=>⟨λap=>key _ ?_,λap=>nE _ _ ?_⟩⟩;have:¬(1<=d/\d<=64):=by simpa using aa
 unfold hv;rw[aG (λh=>this ⟨h.1,h.2.1⟩)];unfold hv;rw[aG (λh=>ap (by rw[ae];exact h.2.2))];have ar:1<=d/\d<=64:=by simpa using aa
 have aB:hv l d=if ∀i,i<l.length->ma (l.getD i 0) then 0 else 31:=by unfold hv;rw[a1 ⟨ar.1,ar.2,by rw[<-ap,ae]⟩]
 refine⟨λ_ i u'=>u'=u/\0<=i/\i<=(s.n:o)/\∀j,j<i.toNat->ma (l.getD j 0),λ_ i _=>s.n-i.toNat,⟨rfl,by omega,by omega,λj aN=>by simp at aN⟩,?_⟩;rintro _ i u' ⟨rfl,h0,h1,ad⟩;refine⟨λhi=>?_,λhi=>key _ ?_⟩;obtain⟨p,jx,I⟩:=ag.at h0 hi;have bad:¬ma (l.getD i.toNat 0)->K 31 u':=λaa=>key _ (by rw[aB,aG (λef=>aa (ef _ (by omega)))]);refine⟨p,jx,⟨h0,hi⟩,_,I,λJ=>bad (λaa=>by unfold ma at aa;omega),λJ=>⟨λai=>bad (λaa=>by unfold ma at aa;omega),λai=>⟨⟨by omega,by omega⟩,⟨rfl,by omega,by omega,?_⟩,by dsimp only;omega⟩⟩⟩;intro j aN;rcases kB j i.toNat with kL|kL;exact ad j kL;have:j=i.toNat:=by omega
 subst this;exact⟨by omega,by omega⟩;rw[aB,a1];intro j aN;exact ad j (by omega)
def fG(a b:M o):N->o
 |0=>0|n+1=>fG a b n+lO (a.getD n 0) (b.getD n 0)
def c8(l:M o):Prop:=l.length<=64/\∀i,i<l.length->ma (l.getD i 0)
def Hf{a b:M o}(ay:c8 a)(aa:c8 b):∀n,n<=a.length->n<=b.length->0<=fG a b n/\fG a b n<=n*18446744056529682436:=by
 intro n;induction n with
 |zero=>intro _ _;simp[fG]
 |succ n aM=>intro h1 h2;obtain⟨i1,i2⟩:=aM (by omega) (by omega);have:=KB (ay.2 n (by omega)) (aa.2 n (by omega));simp only[fG];constructor<;>omega
def UO{s:U}{a b:M o}{K:o->o->H->Prop}(ag:Ints u s a)(ht:Ints u t b)(ay:c8 a)(aa:c8 b)(ap:a.length=b.length)
  (h:∀x y,cz x->cz y->dy x y=fG a b a.length->K x y u):HB s t u K:=by
 have ae:=ag.len
 have hm:=ht.len
 have Ig:=ay.1
 apply aFG
 refine⟨λi x y u'=>u'=u/\0<=i/\i<=(s.n:o)/\cz x/\cz y/\dy x y=fG a b i.toNat,λi _ _ _=>s.n-i.toNat,⟨rfl,by omega,by omega,⟨by omega,by omega⟩,⟨by omega,by omega⟩,rfl⟩,?_⟩
 rintro i x y u' ⟨rfl,h0,h1,J,ai,hw⟩
 refine⟨λhi=>?_,λhi=>?_⟩
 obtain⟨p,ad,I⟩:=ag.at h0 hi
 obtain⟨q,aL,ar⟩:=ht.at h0 (show i<(t.n:o) by omega)
 have hle:=Hf ay aa i.toNat (by omega) (by omega)
 refine⟨p,ad,⟨h0,hi⟩,q,aL,⟨h0,by omega⟩,_,I,_,ar,am4 J ai (ay.2 _ (by omega)) (aa.2 _ (by omega)) (by omega) λc d I ar kb=>⟨⟨by omega,by omega⟩,⟨rfl,by omega,by omega,I,ar,?_⟩,by dsimp only;omega⟩⟩
 rw[kb,hw,show(i+1).toNat=i.toNat+1 by omega]
 rfl
 have:i.toNat=a.length:=by omega
 exact h x y J ai (by rw[hw,this])
def adp{K:o->o->H->Prop}(ay:cz a)(aa:cz b)(I:cz c)(ar:cz d)(ag:dy a b+dy c d<340282366920938463463374607431768211456)
  (h:∀x y,cz x->cz y->dy x y=dy a b+dy c d->K x y u):K5 a b c d u K:=by
 apply aFi
 simp only[IntKind.wrap_u64,cz,dy] at*
 exact⟨λbw=>h _ _ (by omega) (by omega) (by omega),λbw=>h _ _ (by omega) (by omega) (by omega)⟩
def ado{Y:o}{K:o->o->H->Prop}(aC:-4294967294<=Y/\Y<=4294967294)(h:K 0 (Y*Y) u):K4 Y u K:=by
 apply aFh;intro nr nE;have key:∀x:o,0<=x->x<=4294967294->x*x=Y*Y->K 0 (bV .u64 (bV .u64 x*bV .u64 x)) u:=by intro x h0 h1 J;have hw:bV .u64 x=x:=oD x ⟨h0,by omega⟩;have aaB:0<=x*x/\x*x<=18446744056529682436:=⟨r2 h0 h0,by have:=zO h1 h1 h0 (by omega);omega⟩;rw[hw,oD (x*x) ⟨aaB.1,by omega⟩,J];exact h
 refine⟨λae=>nE _ _ ?_,λae=>nE _ _ (key _ (by omega) (by omega) rfl)⟩;rw[J3 (0-Y) (by omega)];exact key _ (by omega) (by omega) (by grind)
def aBH{s:U}{a b:M o}{K:o->o->H->Prop}(ag:Ints u s a)(ht:Ints u t b)(ay:c8 a)(aa:c8 b)(ap:a.length=b.length)
  (h:∀x y,cz x->cz y->dy x y=fG a b a.length->K x y u):Wa s t u K:=by
 have ae:=ag.len
 have hm:=ht.len
 have Ig:=ay.1
 apply aFe
 refine⟨λi x y u'=>u'=u/\0<=i/\i<=(s.n:o)/\cz x/\cz y/\dy x y=fG a b i.toNat,λi _ _ _=>s.n-i.toNat,⟨rfl,by omega,by omega,⟨by omega,by omega⟩,⟨by omega,by omega⟩,rfl⟩,?_⟩
 rintro i x y u' ⟨rfl,h0,h1,J,ai,hw⟩
 refine⟨λhi=>?_,λhi=>?_⟩
 obtain⟨p,ad,I⟩:=ag.at h0 hi
 obtain⟨q,aL,ar⟩:=ht.at h0 (show i<(t.n:o) by omega)
 have hle:=Hf ay aa i.toNat (by omega) (by omega)
 have c1:=ay.2 i.toNat (by omega)
 have c2:=aa.2 i.toNat (by omega)
 have ajm:=KB c1 c2
 unfold ma at c1 c2
 refine⟨p,ad,⟨h0,hi⟩,q,aL,⟨h0,by omega⟩,_,I,_,ar,⟨by omega,by omega⟩,ado (by omega) ⟨H.le.refl _,?_⟩⟩
 have hu:cz ((a.getD i.toNat 0-b.getD i.toNat 0)*(a.getD i.toNat 0-b.getD i.toNat 0)):=⟨ajm.1,by have:=ajm.2;unfold lO at this;omega⟩
 have ajJ:dy 0 ((a.getD i.toNat 0-b.getD i.toNat 0)*(a.getD i.toNat 0-b.getD i.toNat 0))=lO (a.getD i.toNat 0) (b.getD i.toNat 0):=by unfold dy lO;omega
 refine adp J ai ⟨by omega,by omega⟩ hu (by rw[ajJ];omega) λc d I ar kb=>⟨⟨by omega,by omega⟩,⟨rfl,by omega,by omega,I,ar,?_⟩,by dsimp only;omega⟩
 rw[kb,hw,ajJ,show(i+1).toNat=i.toNat+1 by omega]
 rfl
 have:i.toNat=a.length:=by omega
 exact h x y J ai (by rw[hw,this])
abbrev bP:=o×o
def bw(a b:bP):aD:=decide (a.2<b.2) ||(decide (a.2=b.2) && decide (a.1<b.1))
def FB{a b:bP}:bw a b=ak↔a.2<b.2∨(a.2=b.2/\a.1<b.1):=by simp[bw]
def De{a b:bP}:bw a b=ax↔b.2<a.2∨(b.2=a.2/\b.1<=a.1):=by rw[<-ace,FB];omega
def IN(a:bP):bw a a=ax:=De.2 (.inr ⟨rfl,mw _⟩)
def IM{a b:bP}(h:bw a b=ak):bw b a=ax:=by rw[FB] at h;rw[De];omega
def FC{a b c:bP}(h:bw b a=ax)(k:bw c b=ax):bw c a=ax:=by rw[De] at*;omega
def M6{a b c:bP}(h:bw a b=ak)(k:bw b c=ak):bw a c=ak:=by rw[FB] at*;omega
def aHi{a b c:bP}(h:bw a b=ak)(k:bw c b=ax):bw a c=ak:=by rw[FB] at*;rw[De] at k;omega
def aHh{a b c:bP}(h:bw b a=ax)(k:bw b c=ak):bw a c=ak:=by rw[FB] at*;rw[De] at h;omega
def Zb{a b:bP}(h:bw b a=ax)(k:bw a b=ax):a=b:=by rw[De] at*;obtain⟨Z,a2⟩:=a;obtain⟨ga,fu⟩:=b;simp only[GP] at*;omega
def qB(l:M bP):Prop:=l.Pairwise λa b=>bw b a=ax
def qB.eq{a b:M bP}(ay:qB a)(aa:qB b)(h:a.Perm b):a=b:=
 h.eq_of_pairwise (le:=λx y=>bw y x=ax) (λ_ _ _ _ h k=>Zb h k) ay aa
def p7(h:bP):M bP->M bP
 | []=>[h]|x::l=>if bw h x then h::x::l else x::p7 h l
def ng:M bP->M bP
 | []=>[]|h::l=>p7 h (ng l)
def Gb(h:bP)(l:M bP):(p7 h l).Perm (h::l):=by
 induction l with
 |nil=>exact .refl _|cons x l aM=>simp only[p7];split;exact .refl _;exact((j3 x aM).trans (TT h x l))
def aj6{h:bP}{l:M bP}(ap:qB l):qB (p7 h l):=by
 induction l with
 |nil=>exact O1 _ _|cons x l aM=>have h1:=k9.1 ap;simp only[p7];split;rename_i J;refine k9.2 ⟨λy ai=>?_,ap⟩;rcases cP.1 ai with rfl|ai;exact IM J;exact FC (IM J) (h1.1 y ai);rename_i J;refine k9.2 ⟨λy ai=>?_,aM h1.2⟩;rcases cP.1 ((Gb h l).mem_iff.1 ai) with rfl|ai;simpa using J;exact h1.1 y ai
def vm(l:M bP):(ng l).Perm l:=by
 induction l with
 |nil=>exact .refl _|cons x l aM=>exact(Gb x _).trans (j3 x aM)
def UF(l:M bP):qB (ng l):=by
 induction l with
 |nil=>exact oZ|cons x l aM=>exact aj6 aM
def amk{a b:M bP}(h:a.Perm b):ng a=ng b:=
 (UF a).eq (UF b) ((vm a).trans (h.trans (vm b).symm))
def ac3{a b:M bP}(h:a.Perm b)(ag:qB a):a=ng b:=ag.eq (UF b) (h.trans (vm b).symm)
def PF(l:M bP):(ng l).length=l.length:=(vm l).length_eq
def e6(k:N)(l:M bP):M bP:=(ng l).take k
def U4(k:N)(l:M bP):qB (e6 k l):=List.Pairwise.sublist (r3 _ _) (UF l)
def Ab(k:N)(l:M bP):(e6 k l).length=min k l.length:=by simp[e6,PF]
def Ce{a b:M bP}(h:a.Perm b):e6 k a=e6 k b:=by simp only[e6,amk h]
def qB.append{a b:M bP}(h:qB (a++b)):qB a/\qB b/\∀x∈a,∀y∈b,bw y x=ax:=J4.1 h
def axd(h:bP):∀(k:N) (l:M bP),(p7 h l).take k=(p7 h (l.take k)).take k:=by
 intro k l;induction l generalizing k with
 |nil=>simp|cons x l aM=>
  cases k with
  |zero=>simp|succ k=>
   simp only[p7,BM];split;simp only[BM];cases k with
   |zero=>simp|succ k=>simp only[BM,GN];congr 3;omega
   simp only[BM,aM k]
def aCA(k:N)(x:bP)(l:M bP):e6 k (x::l)=e6 k (x::e6 k l):=by have h:ng (e6 k l)=e6 k l:=(ac3 (.refl _) (U4 k l)).symm;show(p7 x (ng l)).take k=(p7 x (ng (e6 k l))).take k;rw[h,axd];rfl
def aCD{l:M bP}{x:bP}(h:l.length<k):(e6 k (x::l)).Perm (x::l)/\(e6 k l).Perm l:=by have e:∀m:M bP,m.length<=k->e6 k m=ng m:=λm hm=>gY (by rw[PF];exact hm);rw[e _ (by simp;omega),e _ (by omega)];exact⟨vm _,vm _⟩
def adH{l:M bP}{x:bP}(hk:k<=l.length)(h:∀y∈e6 k l,bw x y=ax):e6 k (x::l)=e6 k l:=by
 show(p7 x (ng l)).take k=(ng l).take k;have key:∀(k:N) (s:M bP),k<=s.length->(∀y∈s.take k,bw x y=ax)->(p7 x s).take k=s.take k:=by
  intro k s;induction s generalizing k with
  |nil=>
   intro hk _;have:k=0:=by simpa using hk
   subst this;simp
  |cons y s aM=>
   intro hk h;cases k with
   |zero=>simp|succ k=>have h0:=h y (by simp);simp only[p7,h0,DJ,BL,BM];rw[aM k (by simpa using hk) (λY aC=>h Y (by simp[aC]))]
 exact key k _ (by rw[PF];exact hk) h
def aCz{l t:M bP}{x m:bP}(ad:(m::t).Perm (e6 k l))(hm:∀y∈m::t,bw m y=ax)(J:bw x m=ak)(hk:(e6 k l).length=k):
  (x::t).Perm (e6 k (x::l)):=by
 rw[aCA]
 have h1:e6 k (x::e6 k l)=e6 k (m::x::t):=Ce ((j3 x ad.symm).trans (TT _ _ _))
 have ap:t.length+1=k:=by rw[<-hk,<-ad.length_eq];simp
 have h2:e6 k (m::x::t)=e6 k (x::t):=by refine adH (by simp[ap]) λy ai=>?_;have:y∈x::t:=(vm _).mem_iff.1 (mx ai);rcases cP.1 this with rfl|h;exact IM J;exact hm y (by simp[h])
 rw[h1,h2]
 have e:e6 k (x::t)=ng (x::t):=gY (by rw[PF];simp[ap])
 rw[e]
 exact(vm _).symm
def Step.shrink{bs db:M N}{w w':cg}(h:Step u bs w u' db w')(k:u.le u'):Step u bs w u db w':=
 ⟨h.sub.mono k,h.os,h.tape,h.output,h.drawn,h.size,h.rest,λ_ _ e=>e,h.more⟩
def aaX(u:H):(cr:M aE)->hy cr (H->Prop)->hy cr (H->Prop)
 | [],r=>λu'=>u.le u'/\r u|_::cr,K=>λx=>aaX u cr (K x)
def aCS:∀(cr:M aE) (K:hy cr (H->Prop)) (vs:M ao),(hY cr (aaX u cr K) vs λr=>r u')->pO cr vs->u.le u'/\hY cr K vs λr=>r u:=by
 intro cr;induction cr with
 |nil=>intro K vs h k;cases k;exact h
 |cons t cr aM=>
  intro K vs h k;cases k with
  |cons x Gf=>simp only[hY,aE.ra] at h ⊢;exact aM (K x) _ h Gf
def hx.forget{P:dT}{f:jQ}{args:cv ao}{ss:M bf}{K:hy (gT ss) (H->Prop)}(h:hx P f args ss u (aaX u (gT ss) K)):hx P f args ss u K:=by intro w hw;refine(h w hw).mono ?_;rintro e w' ⟨v,u',he,⟨vs,hk,aB,I⟩,ag⟩;obtain⟨hle,dd⟩:=aCS _ _ _ I hk;exact⟨v,u,he,⟨vs,hk,aB,dd⟩,ag.shrink hle⟩
def gO(x:o)(i:N):o:=x/(65536 ^ i:N)%65536
def aqS(x:o)(i:N):0<=gO x i/\gO x i<65536:=by unfold gO;omega
def aBD{a0 Z a2 a3 a4 a5 As Au fA ga fu oa pQ rk pR vA:o}{z p:aD}
  (h:(Au=vA->As=pR->a5=rk->a4=pQ->a3=oa->a2=fu->Z=ga->a0=fA->K 0 u)
   /\((Au<vA∨Au=vA/\(As<pR∨As=pR/\(a5<rk∨a5=rk/\(a4<pQ∨a4=pQ/\(a3<oa∨a3=oa/\(a2<fu∨a2=fu/\(Z<ga∨Z=ga/\a0<fA)))))))->K (-1) u)
   /\((vA<Au∨Au=vA/\(pR<As∨As=pR/\(rk<a5∨a5=rk/\(pQ<a4∨a4=pQ/\(oa<a3∨a3=oa/\(fu<a2∨a2=fu/\(ga<Z∨Z=ga/\fA<a0)))))))->K 1 u)):
  V6 a0 Z a2 a3 a4 a5 As Au z fA ga fu oa pQ rk pR vA p u K:=by
 refine hx.forget (ss:=[.one (.int .i64)]) ?_
 apply aE7
 intro n ae m hm
 have lY:m≠n:=λe=>by rw[e,bi] at hm;cases hm
 generalize k4:((u.ins n _).ins m _)=u'
 have hle:u.le u':=by subst k4;exact(bZ _ ae).trans (bZ _ hm)
 have yI:∀j v,(#[cJ .i64 a0,.int .i64 Z,.int .i64 a2,.int .i64 a3,.int .i64 a4,.int .i64 a5,.int .i64 As,.int .i64 Au,.bool z]:cv ao)[j]?=some v->u'.cell? ⟨n,j,none⟩=some v:=by intro j v aB;subst k4;exact(a8 (by rw[bq _ _ (dG lY)];exact bi _ _ _) j).trans aB
 have lT:∀j v,(#[cJ .i64 fA,.int .i64 ga,.int .i64 fu,.int .i64 oa,.int .i64 pQ,.int .i64 rk,.int .i64 pR,.int .i64 vA,.bool p]:cv ao)[j]?=some v->u'.cell? ⟨m,j,none⟩=some v:=by intro j v aB;subst k4;exact(a8 (bi _ _ _) j).trans aB
 clear k4 hm ae
 obtain⟨h0,h1,h2⟩:=h
 refine⟨λ_ i v=>v=u'/\ -1<=i/\i<=7/\(i<7->Au=vA)/\(i<6->As=pR)/\(i<5->a5=rk)/\(i<4->a4=pQ)/\(i<3->a3=oa)/\(i<2->a2=fu)/\(i<1->Z=ga)/\(i<0->a0=fA),
  λ_ i _=>(i+1).toNat,⟨rfl,by omega,by omega,by omega,by omega,by omega,by omega,by omega,by omega,by omega,by omega⟩,?_⟩
 rintro _ i v ⟨rfl,iy,ej,Xj,mc,gA,fJ,cW,aF,aQ,eK⟩
 refine⟨λhi=>?_,λhi=>⟨hle,h0 (Xj (by omega)) (mc (by omega)) (gA (by omega)) (fJ (by omega)) (cW (by omega)) (aF (by omega)) (aQ (by omega)) (eK (by omega))⟩⟩
 obtain⟨x,y,HW,yN,cq,cH,kP⟩:∃x y:o,v.cell? ((cw n 0 none).add (i.toNat*1))=some (.int .i64 x)/\v.cell? ((cw m 0 none).add (i.toNat*1))=some (.int .i64 y)/\
   (x<y->K (-1) u)/\(y<x->K 1 u)/\(x=y->-1<=(i-1)/\(i-1)<=7/\((i-1)<7->Au=vA)/\((i-1)<6->As=pR)/\((i-1)<5->a5=rk)/\((i-1)<4->a4=pQ)/\((i-1)<3->a3=oa)/\((i-1)<2->a2=fu)/\((i-1)<1->Z=ga)/\((i-1)<0->a0=fA)):=by
  have I:i=0∨i=1∨i=2∨i=3∨i=4∨i=5∨i=6∨i=7:=by omega
  rcases I with rfl|rfl|rfl|rfl|rfl|rfl|rfl|rfl
  exact⟨_,_,yI 0 _ rfl,lT 0 _ rfl,λap=>h1 (by omega),λap=>h2 (by omega),λhe=>by omega⟩
  exact⟨_,_,yI 1 _ rfl,lT 1 _ rfl,λap=>h1 (by omega),λap=>h2 (by omega),λhe=>by omega⟩
  exact⟨_,_,yI 2 _ rfl,lT 2 _ rfl,λap=>h1 (by omega),λap=>h2 (by omega),λhe=>by omega⟩
  exact⟨_,_,yI 3 _ rfl,lT 3 _ rfl,λap=>h1 (by omega),λap=>h2 (by omega),λhe=>by omega⟩
  exact⟨_,_,yI 4 _ rfl,lT 4 _ rfl,λap=>h1 (by omega),λap=>h2 (by omega),λhe=>by omega⟩
  exact⟨_,_,yI 5 _ rfl,lT 5 _ rfl,λap=>h1 (by omega),λap=>h2 (by omega),λhe=>by omega⟩
  exact⟨_,_,yI 6 _ rfl,lT 6 _ rfl,λap=>h1 (by omega),λap=>h2 (by omega),λhe=>by omega⟩
  exact⟨_,_,yI 7 _ rfl,lT 7 _ rfl,λap=>h1 (by omega),λap=>h2 (by omega),λhe=>by omega⟩
 refine⟨by decide,⟨hi,by omega⟩,by decide,⟨hi,by omega⟩,x,HW,y,yN,λan=>⟨by decide,⟨hi,by omega⟩,by decide,⟨hi,by omega⟩,x,HW,y,yN,λap=>⟨hle,cq ap⟩,λap=>⟨hle,cH (by omega)⟩⟩,
  λhe=>⟨⟨by omega,by omega⟩,⟨rfl,kP he⟩,by dsimp only;omega⟩⟩
def iN(d:M o):cv ao:=(d.map (λx=>cJ .i64 x)++ [hl ax]).toArray
def H.S8(u:H)(n:N)(a b:Obj):(u.ins n a).ins n b=u.ins n b:=by funext x;unfold H.ins;split<;>rfl
def adv{n:N}{d:M o}{T:dF}(ar:d.length=8){i:N}(hi:i<8){f:H->Prop}(ac:f (u.ins n (.cells (iN (d.set i x)) T (0,0)))):
  H.aO (u.ins n (.cells (iN d) T (0,0))) ((cw n 0 none).add (i*1)) [.int .i64 x] f:=by
 rw[wu,iP,ki]
 refine⟨iN d,T,bi _ _ _,rfl,by simp[iN,ar];omega,by simp[cK],?_⟩
 rw[H.S8]
 have:wr (iN d) i [.int .i64 x]=iN (d.set i x):=by show(iN d).setIfInBounds i (.int .i64 x)=_;unfold iN;simp only[alc];rw[List.set_append_left _ _ (by simp[ar,hi]),DO]
 show f (u.ins n (.cells (wr (iN d) i [.int .i64 x]) T (0,0)))
 rw[this];exact ac
def UM{K:o->o->o->o->o->o->o->o->aD->H->Prop}(ay:cz a)(aa:cz b)
  (h:K (gO b 0) (gO b 1) (gO b 2) (gO b 3) (gO a 0) (gO a 1) (gO a 2) (gO a 3) ax u):HA a b u K:=by
 refine hx.forget (ss:=[.agg [.int .i64,.int .i64,.int .i64,.int .i64,.int .i64,.int .i64,.int .i64,.int .i64,.bool]]) ?_
 apply aFd
 intro n ae
 refine⟨λi x y v=>0<=i/\i<=4/\x=a/(65536 ^ i.toNat:N)/\y=b/(65536 ^ i.toNat:N)/\∃d:M o,d.length=8/\v=u.ins n (.cells (iN d) 155 (0,0))/\∀j,j<i.toNat->d[j]?=some (gO b j)/\d[4+j]?=some (gO a j),
  λi _ _ _=>(4-i).toNat,⟨by omega,by omega,by simp,by simp,[0,0,0,0,0,0,0,0],rfl,rfl,λj aN=>by simp at aN⟩,?_⟩
 rintro i x y v ⟨iy,ej,rfl,rfl,d,ar,rfl,I⟩
 obtain⟨y1,um⟩:=ay
 obtain⟨AP,io⟩:=aa
 refine⟨λhi=>?_,λhi=>?_⟩
 have ad:(0:o)<(65536 ^ i.toNat:N):=acf.2 (Nat.pow_pos (by decide))
 have uQ:0<=a/(65536 ^ i.toNat:N):=acg y1 (by omega)
 have ajS:0<=b/(65536 ^ i.toNat:N):=acg AP (by omega)
 have Oa:a/(65536 ^ i.toNat:N)<=a:=Int.ediv_le_self _ y1
 have aHO:b/(65536 ^ i.toNat:N)<=b:=Int.ediv_le_self _ AP
 have nF:a/(65536 ^ i.toNat:N)/65536=a/(65536 ^ (i+1).toNat:N):=by rw[Int.ediv_ediv_of_nonneg (by omega),show(i+1).toNat=i.toNat+1 by omega,TU];rfl
 have y8:b/(65536 ^ i.toNat:N)/65536=b/(65536 ^ (i+1).toNat:N):=by rw[Int.ediv_ediv_of_nonneg (by omega),show(i+1).toNat=i.toNat+1 by omega,TU];rfl
 have ex:gO a i.toNat=a/(65536 ^ i.toNat:N)%65536:=rfl
 have tb:gO b i.toNat=b/(65536 ^ i.toNat:N)%65536:=rfl
 generalize a/(65536 ^ i.toNat:N)=x at*
 generalize b/(65536 ^ i.toNat:N)=y at*
 have t1:k8 y 65536=y%65536:=O2 ajS
 have t2:k8 x 65536=x%65536:=O2 uQ
 have t3:ff y 65536=y/65536:=zP ajS
 have t4:ff x 65536=x/65536:=zP uQ
 rw[t1,t2,t3,t4,J3 (y%65536) (by omega),J3 (x%65536) (by omega),oD (y/65536) (by omega),oD (x/65536) (by omega)]
 refine⟨by decide,by decide,⟨iy,by omega⟩,adv ar (by omega) ⟨by decide,⟨by omega,by omega⟩,by decide,by decide,⟨by omega,by omega⟩,adv (by simp[ar]) (by omega)
  ⟨by decide,⟨by omega,by omega⟩,⟨by omega,by omega,nF,y8,_,?_,rfl,?_⟩,by dsimp only;omega⟩⟩⟩
 simp[ar]
 intro j aN
 have fJ:(4+i).toNat=4+i.toNat:=by omega
 rw[fJ]
 simp only[zK]
 by_cases iT:j=i.toNat
 subst iT
 rw[aG (by omega),a1 rfl,a1 (by omega),a1 rfl,a1 (by simp[ar];omega),tb,ex]
 exact⟨rfl,rfl⟩
 rw[aG (by omega),aG (by omega),aG (by omega),aG (by omega)]
 exact I j (by omega)
 have a7:i.toNat=4:=by omega
 rw[a7] at I
 have g:∀j Y,d[j]?=some Y->j<8->((u.ins n (.cells (iN d) 155 (0,0))).cell? ⟨n,j,none⟩=some (.int .i64 Y)):=by intro j Y aC aN;rw[Lt];simp[iN,TH,ar,aN];exact(iB.1 aC).2
 have bM:=I 0 (by omega)
 have c1:=I 1 (by omega)
 have c2:=I 2 (by omega)
 have fc:=I 3 (by omega)
 refine⟨_,g 0 _ bM.1 (by omega),_,g 1 _ c1.1 (by omega),_,g 2 _ c2.1 (by omega),_,g 3 _ fc.1 (by omega),_,g 4 _ bM.2 (by omega),_,g 5 _ c1.2 (by omega),_,g 6 _ c2.2 (by omega),_,g 7 _ fc.2 (by omega),ax,?_,bZ _ ae,h⟩
 show(u.ins n _).cell? ⟨n,8,none⟩=_
 rw[Lt]
 simp[iN,ar]
def amW{K:aD->H->Prop}(ay:cz a)(aa:cz b)(I:cz c)(ar:cz d)(h:K (decide (dy a b<dy c d)) u):QE a b c d u K:=by
 apply aE8;refine UM ay aa ⟨H.le.refl _,UM I ar (aBD ?_)⟩;have key:∀Y:o,(Y<0↔dy a b<dy c d)->K (decide (Y<0)) u:=λY aC=>by
  have:decide (Y<0)=decide (dy a b<dy c d):=by simp[aC]
  rw[this];exact h
 simp only[cz,dy,gO,Nat.reducePow] at*;refine⟨λ_ _ _ _ _ _ _ _=>key 0 (by omega),λ_=>key (-1) (by omega),λ_=>key 1 (by omega)⟩
def Addr.add_zero'(p:bc):p.add 0=p:=rfl
def cZ(d:o):o:=d/18446744073709551616
def c5(d:o):o:=d%18446744073709551616
def lh(d:o):Prop:=0<=d/\d<340282366920938463463374607431768211456
def mD(d:o):dy (cZ d) (c5 d)=d:=by unfold dy cZ c5;omega
def rQ(d:o):cz (c5 d):=by unfold cz c5;omega
def Fs(h:lh d):cz (cZ d):=by unfold lh at h;unfold cz cZ;omega
def YX(ai:cz y):cZ (dy x y)=x:=by unfold cz at ai;unfold cZ dy;omega
def abj(ai:cz y):c5 (dy x y)=y:=by unfold cz at ai;unfold c5 dy;omega
def aGs(J:cz x)(ai:cz y):lh (dy x y):=by unfold cz at J ai;unfold lh dy;omega
def fX(h:bP):M ao:=[.int .i64 h.1,.int .u64 (cZ h.2),.int .u64 (c5 h.2)]
def se(h:bP):(fX h).length=3:=rfl
def EQ(h:bP):∀v∈fX h,v.oneCell'=ak:=by simp[fX,cK]
def aik{a b:bP}:(a.1=b.1/\cZ a.2=cZ b.2/\c5 a.2=c5 b.2)↔a=b:=by
 constructor;rintro⟨h1,h2,h3⟩;have:a.2=b.2:=by rw[<-mD a.2,<-mD b.2,h2,h3]
 exact Prod.ext h1 this;rintro rfl;exact⟨rfl,rfl,rfl⟩
def lP(u:H)(s:U)(l:M bP):Prop:=bz u s 3 (l.flatMap fX)
def lP.len{s:U}{l:M bP}(h:lP u s l):s.n=l.length:=gU se (by decide) h
def lP.max{s:U}{l:M bP}(h:lP u s l):s.n<=9223372036854775807:=jo (bz.cap h) (bz.max h)
def lP.mono{s:U}{l:M bP}(h:lP u s l)(k:u.le u'):lP u' s l:=bz.mono h k
def lP.at{s:U}{l:M bP}(h:lP u s l)(h0:0<=x)(h1:x<(s.n:o)):∃p,s.a=some p/\∃q:bP,l[x.toNat]?=some q/\
  u.cell? (p.add (x.toNat*3))=some (.int .i64 q.1)/\u.cell? ((p.add (x.toNat*3)).add 1)=some (.int .u64 (cZ q.2))/\u.cell? ((p.add (x.toNat*3)).add 2)=some (.int .u64 (c5 q.2)):=by
 have ae:=h.len
 have ap:x.toNat<l.length:=by omega
 obtain⟨p,ad,I⟩:=bz.elem se (by decide) h (cy ap)
 exact⟨p,ad,_,cy ap,I 0 _ rfl,I 1 _ rfl,I 2 _ rfl⟩
structure az where
 id:o
 s:U
 v:M o
def cO(r:az):M ao:=[.int .i64 r.id,.slice r.s.a r.s.n r.s.c]
def fM(r:az):(cO r).length=2:=rfl
def Xp(r:az):∀v∈cO r,v.oneCell'=ak:=by simp[cO,cK]
def eF(u:H)(s:U)(l:M az):Prop:=bz u s 2 (l.flatMap cO)/\∀r∈l,Ints u r.s r.v
def eF.len{s:U}{l:M az}(h:eF u s l):s.n=l.length:=gU fM (by decide) h.1
def eF.max{s:U}{l:M az}(h:eF u s l):s.n<=9223372036854775807:=jo (bz.cap h.1) (bz.max h.1)
def eF.mono{s:U}{l:M az}(h:eF u s l)(k:u.le u'):eF u' s l:=⟨bz.mono h.1 k,λr O=>(h.2 r O).mono k⟩
def eF.at{s:U}{l:M az}(h:eF u s l)(h0:0<=x)(h1:x<(s.n:o)):∃p,s.a=some p/\∃q:az,l[x.toNat]?=some q/\
  u.cell? (p.add (x.toNat*2))=some (.int .i64 q.id)/\u.cell? ((p.add (x.toNat*2)).add 1)=some (.slice q.s.a q.s.n q.s.c)/\Ints u q.s q.v:=by
 have ae:=h.len
 have ap:x.toNat<l.length:=by omega
 obtain⟨p,ad,I⟩:=bz.elem fM (by decide) h.1 (cy ap)
 exact⟨p,ad,_,cy ap,I 0 _ rfl,I 1 _ rfl,h.2 _ (kD ap)⟩
def aAT(h:K (if a<b then -1 else if b<a then 1 else 0) u):Vu a b u K:=by have key:∀Y,(if a<b then(-1:o) else if b<a then 1 else 0)=Y->K Y u:=λY e=>e▸h;apply aDh;apply an1;apply an1;simp only[decide_true,Bool.not_true];refine⟨λh=>by simp at h,λ_=>⟨λh=>by simp at h,λ_=>⟨λh1=>key _ (by simp[h1]),λh1=>⟨λh2=>key _ (by simp[h1,h2]),λh2=>key _ (by simp[h1,h2])⟩⟩⟩⟩
def aAU{s:U}(ag:Ints u s [a,b])(h:K (if a≠0 then a else b) u):Vv s u K:=by
 have ae:=ag.len;simp only[hX,oB,ki,Nat.reduceAdd] at ae;apply aDi;refine⟨λ_ i v=>v=u/\0<=i/\i<=2/\(0<i->a=0)/\(1<i->b=0),λ_ i _=>(2-i).toNat,⟨rfl,by omega,by omega,by omega,by omega⟩,?_⟩;rintro _ i v ⟨rfl,h0,h1,h2,h3⟩;refine⟨λhi=>?_,λhi=>?_⟩;obtain⟨p,ad,I⟩:=ag.at h0 hi;refine⟨p,ad,⟨h0,hi⟩,_,I,?_⟩;have I:i=0∨i=1:=by omega
 rcases I with rfl|rfl;refine⟨λan=>?_,λhe=>⟨⟨by omega,by omega⟩,⟨rfl,by omega,by omega,λ_=>he,by omega⟩,by dsimp only;omega⟩⟩;have an:a≠0:=an;rw[a1 an] at h;exact h;have ay:=h2 (by omega);rw[aG (by omega)] at h;refine⟨λan=>h,λhe=>⟨⟨by omega,by omega⟩,⟨rfl,by omega,by omega,λ_=>ay,λ_=>he⟩,by dsimp only;omega⟩⟩;have ay:=h2 (by omega);have aa:=h3 (by omega);rw[aG (by omega),aa] at h;exact h
def o4:kI aH 30=some (3,1,8,[.int .i64 0]):=by kernel_rfl
def CI(a b:o):kH aH 30 2 #[(0,.int .i64 a),(1,.int .i64 b)]=some (3,[.int .i64 a,.int .i64 b]):=by kernel_rfl
def Jl{aj:H}(h:aj.le u){g:N}(W:u g=none)(l:M o)(e:dF)(ap:l.length<=9223372036854775807):
  Ints (u.ins g (.cells (l.map λx=>cJ .i64 x).toArray e (0,0))) ⟨some ⟨g,0,none⟩,l.length,l.length⟩ l:=by
 have:=(aK.make (k:=1) h W (cells:=(l.map λx=>cJ .i64 x).toArray) (e:=e) (n:=l.length) ap (by simp)).own.cI
 simpa[Ints] using this
def amY{a b:bP}(h:∀Y:o,(Y<0↔bw a b=ak)->(0<Y↔bw b a=ak)->-1<=Y->Y<=1->K Y u):Wf a.1 (cZ a.2) (c5 a.2) b.1 (cZ b.2) (c5 b.2) u K:=by
 refine hx.forget (ss:=[.one (.int .i64)]) ?_;apply aFr;refine yl (rQ _) (rQ _) ⟨H.le.refl _,aAT (mA (CI _ _) λg W=>?_)⟩;refine aAU (Jl (H.le.refl u) W [_,_] 3 (by simp)) ⟨bZ _ W,h _ ?_ ?_ ?_ ?_⟩;rw[mD,mD,FB]
 (repeat' split)<;>omega
 rw[mD,mD,FB]
 (repeat' split)<;>omega
 (repeat' split)<;>omega
 (repeat' split)<;>omega
def KA{a b:bP}{K:aD->H->Prop}(h:K (bw a b) u):Cs a.1 (cZ a.2) (c5 a.2) b.1 (cZ b.2) (c5 b.2) u K:=by
 apply aFp;refine amY λY aC _ _ _=>?_;have:decide (Y<0)=bw a b:=by cases aa:bw a b<;>simp[aC,aa]
 rw[this];exact h
def aBA{s:U}{a b:M bP}{K:aD->H->Prop}(ag:lP u s a)(ht:lP u t b)(h:K (decide (a=b)) u):V3 s t u K:=by
 have key:∀Y,decide (a=b)=Y->K Y u:=λY e=>e▸h;have ae:=ag.len;have hm:=ht.len;have xA:=ag.max;apply aEY;refine⟨λan=>key _ ?_,λhe=>?_⟩;have:a≠b:=λe=>an (by rw[ae,hm,e]);simp[this];refine⟨λ_ i v=>v=u/\0<=i/\i<=(s.n:o)/\a.take i.toNat=b.take i.toNat,λ_ i _=>s.n-i.toNat,⟨rfl,by omega,by omega,by simp⟩,?_⟩;rintro _ i v ⟨rfl,h0,h1,ad⟩;refine⟨λhi=>?_,λhi=>key _ ?_⟩;obtain⟨p,gD,x,J,bM,c1,c2⟩:=ag.at h0 hi;obtain⟨q,ND,y,ai,d0,d1,d2⟩:=ht.at h0 (show i<(t.n:o) by omega);refine⟨p,gD,⟨h0,hi⟩,q,ND,⟨h0,by omega⟩,_,bM,_,c1,_,c2,_,d0,_,d1,_,d2,λan=>key _ ?_,λiV=>⟨⟨by omega,by omega⟩,⟨rfl,by omega,by omega,?_⟩,by dsimp only;omega⟩⟩;have iV:x≠y:=λe=>an (aik.2 e);have:a≠b:=λe=>by rw[e,ai] at J;cases J;exact iV rfl
 simp[this];have:x=y:=aik.1 iV;have aQ:(i+1).toNat=i.toNat+1:=by omega
 rw[aQ,gJ,gJ,ad,J,ai,this];have aQ:i.toNat=a.length:=by omega
 rw[aQ,oE,<-ae,show s.n=b.length by omega,oE] at ad;simp[ad]
def yg(d:o):M o->M az->o
 |_,[]=>0|seen,r::l=>if r.id<1∨1000000000<r.id∨r.id∈seen then 50 else if hv r.v d≠0 then hv r.v d else yg d (seen++ [r.id]) l
def o2(l:M az)(d:o):o:=if d<1∨64<d then 30 else if 512<l.length then 2 else yg d [] l
def azE{l:M az}{i:N}{r:az}(h:l[i]?=some r):yg d ((l.take i).map (·.id)) (l.drop i)=
  if r.id<1∨1000000000<r.id∨r.id∈(l.take i).map (·.id) then 50 else if hv r.v d≠0 then hv r.v d else yg d ((l.take (i+1)).map (·.id)) (l.drop (i+1)):=by
 have hi:i<l.length:=(iB.1 h).1
 have O:l[i]=r:=(iB.1 h).2
 rw[tF hi,O]
 simp only[yg]
 rw[gJ,h]
 simp
def Ha:Ex aH 166 3 4:=⟨by kernel_rfl,by kernel_rfl,λ_=>by kernel_rfl⟩
def Kw{s:U}{l:M az}(ag:eF u s l)(h:K (o2 l d) u):Cp s d u K:=by
 have key:∀Y,o2 l d=Y->K Y u:=λY e=>e▸h;have ae:=ag.len;have xA:=ag.max;refine hx.forget (ss:=[.one (.int .i64)]) ?_;apply aDl;intro nr nE;have hle:=H.le.refl u;refine⟨λh1=>⟨hle,key _ (a1 (.inl h1))⟩,λh1=>⟨λh2=>⟨hle,key _ (a1 (.inr h2))⟩,λh2=>⟨λh3=>⟨hle,key _ ?_⟩,λh3=>nE _ _ ?_⟩⟩⟩;unfold o2;rw[aG (by omega),a1 (by omega)];have O:o2 l d=yg d [] l:=by unfold o2;rw[aG (by omega),aG (by omega)]
 rw[O] at key;clear nE nr;refine acY λb aa kx=>?_;refine⟨λ_ i v=>0<=i/\i<=(s.n:o)/\u.le v/\tV v b ((l.take i.toNat).map (·.id))/\yg d ((l.take i.toNat).map (·.id)) (l.drop i.toNat)=yg d [] l,λ_ i _=>s.n-i.toNat,
  ⟨by omega,by omega,bZ _ aa,by simpa using kx,by simp⟩,?_⟩
 rintro _ i v ⟨h0,rB,aB,kx,ad⟩;refine⟨λhi=>?_,λhi=>⟨aB,key _ ?_⟩⟩;obtain⟨p,gD,r,dz,bM,c1,auT⟩:=(ag.mono aB).at h0 hi;rw[azE dz] at ad;refine⟨p,gD,⟨h0,hi⟩,_,bM,_,c1,λaGx asX=>⟨λa7=>⟨aB,key _ ?_⟩,λa7=>⟨λbO=>⟨aB,key _ ?_⟩,λbO=>acX Ha kx ⟨λe7=>⟨aB,key _ ?_⟩,λe7=>asX _ _ ?_⟩⟩⟩⟩;rw[a1 (.inl a7)] at ad;exact ad.symm;rw[a1 (.inr (.inl bO))] at ad;exact ad.symm;rw[a1 (.inr (.inr (by simpa using e7)))] at ad;exact ad.symm;have e7:r.id∉(l.take i.toNat).map (·.id):=by simpa using e7
 rw[aG (λh=>h.elim (λh=>by omega) λh=>h.elim (λh=>by omega) λh=>e7 h)] at ad;refine qj auT ⟨λan=>⟨aB,key _ ?_⟩,λhe=>UB Ha kx e7 λb6 NO pn _=>⟨⟨by omega,by omega⟩,⟨by omega,by omega,?_,?_,?_⟩,by dsimp only;omega⟩⟩;rw[a1 an] at ad;exact ad.symm;exact λg z W=>pn g z (aB g z W) (λe=>by rw[e,aa] at W;cases W);rw[show(i+1).toNat=i.toNat+1 by omega,gJ,dz];simpa using NO;rw[aG (by simpa using he)] at ad;rw[show(i+1).toNat=i.toNat+1 by omega];exact ad;rw[sC (by omega)] at ad;exact ad.symm
def asked(l:M az)(q:M o):o:=if hv q q.length≠0 then hv q q.length else o2 l q.length
def amt{s:U}{l:M az}(ag:eF u s l)(ht:Ints u t q)(h:K (asked l q) u):Qj s t u K:=by have key:∀Y,asked l q=Y->K Y u:=λY e=>e▸h;apply aDv;rw[show(t.n:o)=(q.length:o) by rw[ht.len]];refine qj ht ⟨λan=>key _ (a1 an),λhe=>Kw ag (key _ (aG (by simpa using he)))⟩
def oL(h:hv l d=0):1<=d/\d<=64/\(l.length:o)=d/\c8 l:=by unfold hv at h;split at h;rename_i h1;split at h;rename_i h2;exact⟨h1.1,h1.2.1,h1.2.2,by omega,h2⟩;cases h;cases h
def BF(h:c8 l)(h1:1<=l.length):hv l l.length=0:=by unfold hv;rw[a1 ⟨by omega,by have:=h.1;omega,rfl⟩,a1 h.2]
structure hp(l:M az)(d:o):Prop where
 aq:1<=d/\d<=64
 len:l.length<=512
 id:∀r∈l,1<=r.id/\r.id<=1000000000
 nodup:(l.map (·.id)).Nodup
 v:∀r∈l,(r.v.length:o)=d/\c8 r.v
def alB:∀{l:M az} {seen:M o},yg d seen l=0↔((∀r∈l,1<=r.id/\r.id<=1000000000/\r.id∉seen/\hv r.v d=0)/\(l.map (·.id)).Nodup):=by
 intro l;induction l with
 |nil=>intro seen;simp[yg]
 |cons r l aM=>intro seen;simp only[yg];split;rename_i h;refine⟨λh=>(by cases h),λ⟨h1,_⟩=>?_⟩;have:=h1 r (by simp);exfalso;rcases h with h|h|h;omega;omega;exact this.2.2.1 h;rename_i h;split;rename_i aB;exact⟨λh=>aV h aB,λ⟨h1,_⟩=>aV (h1 r (by simp)).2.2.2 aB⟩;rename_i aB;rw[aM];simp only[cP,J5,gR,h6,cM,qe,qf,not_or];constructor;rintro⟨h1,h2⟩;refine⟨⟨⟨by omega,by omega,λhm=>h (.inr (.inr hm)),by simpa using aB⟩,λx J=>⟨(h1 x J).1,(h1 x J).2.1,(h1 x J).2.2.1.1,(h1 x J).2.2.2⟩⟩,?_,h2⟩;intro hm;obtain⟨x,J,he⟩:=bk.1 hm;exact(h1 x J).2.2.1.2 he;rintro⟨⟨_,h1⟩,h2,h3⟩;refine⟨λx J=>⟨(h1 x J).1,(h1 x J).2.1,⟨(h1 x J).2.2.1,λhe=>h2 (bk.2 ⟨x,J,he⟩)⟩,(h1 x J).2.2.2⟩,h3⟩
def B0{l:M az}:o2 l d=0↔hp l d:=by unfold o2;constructor;intro h;split at h;cases h;split at h;cases h;rename_i h1 h2;obtain⟨h3,a7⟩:=alB.1 h;exact⟨by omega,by omega,λr O=>⟨(h3 r O).1,(h3 r O).2.1⟩,a7,λr O=>⟨(oL (h3 r O).2.2.2).2.2.1,(oL (h3 r O).2.2.2).2.2.2⟩⟩;intro h;have:=h.aq;have:=h.len;rw[aG (by omega),aG (by omega)];refine alB.2 ⟨λr O=>⟨(h.id r O).1,(h.id r O).2,by simp,?_⟩,h.nodup⟩;obtain⟨h1,h2⟩:=h.v r O;rw[<-h1];exact BF h2 (by omega)
structure jt(l:M az)(q:M o):Prop where
 Ht:c8 q
 rows:hp l q.length
def w7{l:M az}:asked l q=0↔jt l q:=by unfold asked;constructor;intro h;split at h;rename_i an;exact aV h an;rename_i he;exact⟨(oL (by simpa using he)).2.2.2,B0.1 h⟩;intro⟨h1,h2⟩;have aB:=BF h1 (by have:=h2.aq;omega);rw[aG (by simp[aB])];exact B0.2 h2
def afx(s t:U):kH aH 133 2 #[(0,.slice s.a s.n s.c),(1,.slice t.a t.n t.c)]=some (30,[.slice s.a s.n s.c,.slice t.a t.n t.c]):=by kernel_rfl
def B6{s:U}{a b:M o}{K:o->o->o->H->Prop}(ag:Ints u s a)(ht:Ints u t b)(ay:c8 a)(h1:1<=a.length)(aa:c8 b)(ap:a.length=b.length)
  (h:∀x y,cz x->cz y->dy x y=fG a b a.length->K x y 0 u):sa s t u K:=by
 refine hx.forget (ss:=[.agg [.int .u64,.int .u64],.one (.int .i64)]) ?_
 apply aFB
 refine mA (afx _ _) λg W=>?_
 generalize k4:u.ins g _=u'
 have hle:u.le u':=by subst k4;exact bZ _ W
 have c:∀j v,(#[ea s.a s.n s.c,ea t.a t.n t.c]:cv ao)[j]?=some v->u'.cell? ⟨g,j,none⟩=some v:=by intro j v aB;subst k4;exact(a8 (bi _ _ _) j).trans aB
 clear k4 W
 refine⟨λ_ i _ _ v=>v=u'/\0<=i/\i<=2,λ_ i _ _ _=>(2-i).toNat,⟨rfl,by omega,by omega⟩,?_⟩
 rintro _ i _ _ v ⟨rfl,iy,ej⟩
 rw[show(s.n:o)=(a.length:o) by rw[ag.len]]
 have Ae:=BF ay h1
 have rb:hv b a.length=0:=by rw[ap];exact BF aa (by omega)
 refine⟨λhi=>⟨_,rfl,⟨iy,hi⟩,?_⟩,λhi=>UO (ag.mono hle) (ht.mono hle) ay aa ap λx y J ai hw=>⟨hle,h x y J ai hw⟩⟩
 have hi:i<2:=hi
 have I:i=0∨i=1:=by omega
 rcases I with rfl|rfl
 refine⟨s,c 0 _ rfl,qj (ag.mono hle) ⟨λan=>aV Ae an,λ_=>⟨⟨by omega,by omega⟩,⟨rfl,by omega,by omega⟩,by dsimp only;omega⟩⟩⟩
 refine⟨t,c 1 _ rfl,qj (ht.mono hle) ⟨λan=>aV rb an,λ_=>⟨⟨by omega,by omega⟩,⟨rfl,by omega,by omega⟩,by dsimp only;omega⟩⟩⟩
def Hg{a b:M o}(ay:c8 a)(aa:c8 b)(ap:a.length=b.length):lh (fG a b a.length):=by have:=Hf ay aa a.length (by omega) (by omega);have:=ay.1;unfold lh;constructor<;>omega
def hM(q:M o)(r:az):bP:=(r.id,fG r.v q r.v.length)
def jt.iK{l:M az}(h:jt l q){r:az}(O:r∈l):lh (hM q r).2:=
 Hg (h.rows.v r O).2 h.Ht (by have:=(h.rows.v r O).1;omega)
end
