/- Texts of mine, joined and packed by pack.py. -/
import Derived.Test.YtejdhbfjjgcljaaGreatDoorMrd3
set_option linter.all false
open _root_ renaming List->J,Nat->O,Option->aA,Array->cA,Int->o,Bool->ay,False->eg,absurd->bf,inferInstance->tL
open Go renaming Program->dL,Value->ap,World->ci,Addr->a8,FuncId->j8,TypeId->dC
open Bool renaming true->ai,false->ao,not->sx
open Go.Obj renaming cells->bt,deferred->vk
open Go.IntKind renaming i64->b2,wrap->bS,u64->bu
open Go.Instr renaming lookup->gY,mapUpdate->kW,makeMap->pr,makeSlice->qU,sliceAt->fZ,buildSlice->dA,typeAssert->so,range->rL
open Go.Builtin renaming append_->dO,delete_->tN,len_->rM,clear_->qc
open Go.Value renaming iface->mj,agg->cz,bool->gZ,map->dP,int->cN,func->js,nilFunc->JH,pointer->ha,slice->ed,oneCell'->cI
open Go.Proofs.Tryz renaming prog->aH
open Int renaming tmod->lE,tdiv->ff,fdiv->et
open Go.BinOp renaming xor->zH,and->Dy
open Go.Fn renaming func->ko
open List.Perm renaming cons->j9
open List.Pairwise renaming nil->mG
open Go.Addr renaming mk->cp
set_option maxRecDepth 100000
noncomputable section
namespace Go.Proofs.YtejdhbfjjgcljaaGreatDoor
open H
def ox:=@Go.IntWalk.u64_in
def JI:=@Go.IntWalk.i64_in
open _root_.Go.Proofs.Tryz
def aEB(a0 Y:o)(u:H)(K:o->o->Q)(h:(0:o)<=32/\(0:o)<=32/\(0:o)<=32/\(0:o)<=32/\(0:o)<=32/\K (bS bu (bS bu (bS bu (et a0 (2^32)*et Y (2^32))+et (bS bu (bS bu (et a0 (2^32)*bits Dy bu Y 4294967295)+et (bS bu (bits Dy bu a0 4294967295*bits Dy bu Y 4294967295)) (2^32))) (2^32))+et (bS bu (bits Dy bu (bS bu (bS bu (et a0 (2^32)*bits Dy bu Y 4294967295)+et (bS bu (bits Dy bu a0 4294967295*bits Dy bu Y 4294967295)) (2^32))) 4294967295+bS bu (bits Dy bu a0 4294967295*et Y (2^32)))) (2^32))) (bS bu (a0*Y)) u):U8 a0 Y u K:=aQ [] func121 [] h
def aoh(a0:N)(Y a2:a8)(u:H)(K:bU->Q)(h:aF ((a0.n:o)=0) (K none u) (eF u Y λa=>bl a λb=>aS u b λc=>Qd a0 c u λd e f g i _ _ j=>dW j λk=>H.aM (j.ins k (bt #[af 0] 3 (0,0))) (am k) [af 0] λl=>fD o 0 l λm n z=>aF (n<(e.n:o)) (a1 f n λp=>aS z (aG p n 1) λq=>a1 e n λr=>aS z (aG r n 1) λs=>a7 (q-s)/\aS z (am k) λt=>a1 f t λv=>aS z (aG v t 1) λw=>aS z (am k) λx=>a1 e x λy=>aS z (aG y x 1) λW=>a7 (w-W)/\aF (w-W<q-s) (H.aM z (am k) [af n] λbW=>a7 (n+1)/\m (n+1) bW) (a7 (n+1)/\m (n+1) z)) (fl ay (λp q=>dx p (dW q λr=>K (some (am r)) (q.ins r (bt #[af d,vs e,vs f,bj g,bj i,vs bp,vs a0,vs bp] 213 (0,0)))) (P3 a0 (js (ko 125) #[] #[aX (some (am k))]) q λr=>(2:o)≠0/\a7 (ff (a0.n:o) 2)/\p7 r a2 λs=>p7 r a2 λt=>(bd (fZ 22 (vs a0) none (some (af (ff (a0.n:o) 2))) none) bb r λ(v:N)w=>H.le r w/\(n4 v w λx y=>H.le r y/\(h6 aH s #[vs x] ep y λ(W:aA a8)(bW:H)=>H.le r bW/\bd (fZ 22 (vs a0) (some (af (ff (a0.n:o) 2))) none none) bb bW λ(b0:N)cr=>H.le r cr/\n4 b0 cr λcL cc=>H.le r cc/\h6 aH t #[vs cL] ep cc λ(cM:aA a8)(cP:H)=>H.le r cP/\bd (dA 211 2 #[(0,aX W),(1,aX cM)]) bb cP λ(db:N)cG=>H.le r cG/\dW cG λdD=>K (some (am dD)) (cG.ins dD (bt #[af d,vs e,vs f,bj g,bj i,vs bp,vs bp,vs db] 213 (0,0))))/\bd (fZ 22 (vs a0) (some (af (ff (a0.n:o) 2))) none none) bb y λ(W:N)bW=>H.le r bW/\h6 aH s #[vs x] ep bW λ(b0:aA a8)(cr:H)=>H.le r cr/\n4 W cr λcL cc=>H.le r cc/\h6 aH t #[vs cL] ep cc λ(cM:aA a8)(cP:H)=>H.le r cP/\bd (dA 211 2 #[(0,aX b0),(1,aX cM)]) bb cP λ(db:N)cG=>H.le r cG/\dW cG λdD=>K (some (am dD)) (cG.ins dD (bt #[af d,vs e,vs f,bj g,bj i,vs bp,vs bp,vs db] 213 (0,0))))/\bd (fZ 22 (vs a0) (some (af (ff (a0.n:o) 2))) none none) bb w λ(x:N)y=>H.le r y/\n4 v y λW bW=>H.le r bW/\h6 aH s #[vs W] ep bW λ(b0:aA a8)(cr:H)=>H.le r cr/\n4 x cr λcL cc=>H.le r cc/\h6 aH t #[vs cL] ep cc λ(cM:aA a8)(cP:H)=>H.le r cP/\bd (dA 211 2 #[(0,aX b0),(1,aX cM)]) bb cP λ(db:N)cG=>H.le r cG/\dW cG λdD=>K (some (am dD)) (cG.ins dD (bt #[af d,vs e,vs f,bj g,bj i,vs bp,vs bp,vs db] 213 (0,0))))/\bd (fZ 22 (vs a0) (some (af (ff (a0.n:o) 2))) none none) bb r λ(v:N)w=>H.le r w/\bd (fZ 22 (vs a0) none (some (af (ff (a0.n:o) 2))) none) bb w λ(x:N)y=>H.le r y/\n4 x y λW bW=>H.le r bW/\h6 aH s #[vs W] ep bW λ(b0:aA a8)(cr:H)=>H.le r cr/\n4 v cr λcL cc=>H.le r cc/\h6 aH t #[vs cL] ep cc λ(cM:aA a8)(cP:H)=>H.le r cP/\bd (dA 211 2 #[(0,aX b0),(1,aX cM)]) bb cP λ(db:N)cG=>H.le r cG/\dW cG λdD=>K (some (am dD)) (cG.ins dD (bt #[af d,vs e,vs f,bj g,bj i,vs bp,vs bp,vs db] 213 (0,0))))) λp=>eF z Y λq=>bl q λr=>aS z (r.add 1) λs=>aF ((a0.n:o)<=s) (p ai z) (aS z (am k) λt=>a1 e t λv=>aS z (aG v t 1) λw=>aS z (am k) λx=>a1 f x λy=>aS z (aG y x 1) λW=>p (decide (w=W)) z)))):aeF a0 Y a2 u K:=oL 1 [7,77,99] func122 [aO 506 [(26,bE)],aO 254 [(73,.bool)]] h
def aHr(a0:N)(Y:o)(u:H)(K:o->N->N->o->o->N->o->Q)(h:KK Y u λa b=>b4 (a=ai) (K 0 bp bp 0 0 bp 30 b) (aF ((a0.n:o)=0) (K 0 bp bp 0 0 bp 1 b) (Qe a0 Y b λc d e=>b4 (d=0) (K 0 bp bp 0 0 bp d e) (a1 a0 0 λf=>a1 a0 0 λg=>bc e ((f.add 0).add 1) λi=>bc e ((g.add 0).add 1) λj=>o3 i e λk l=>H.le e l/\o3 j l λm n=>fD o 0 n λz p q=>aF (p<(a0.n:o)) (a1 a0 p λr=>aS q (aG r p 2) λ_=>bc q ((aG r p 2).add 1) λs=>fD o 0 q λt v w=>aF (v<(s.n:o)) (a1 s v λx=>aS w (aG x v 1) λy=>a1 k v λW=>a1 m v λbW=>aS w (aG W v 1) λb0=>aS w (aG bW v 1) λcr=>a1 k v λcL=>H.aM w (aG cL v 1) [af (ite (y<b0) y b0)] λcc=>a1 m v λcM=>H.aM cc (aG cM v 1) [af (ite (y>cr) y cr)] λcP=>a7 (v+1)/\t (v+1) cP) (a7 (p+1)/\z (p+1) w)) (K 2 k m 0 0 c 0 q))))):Qd a0 Y u K:=aQ [] func123 [aO 506 [(46,bE)],aO 129638 [(53,bE)]] h
def aGb(a0:N)(Y:ap)(u:H)(K:Q)(h:aeM a0 (a0.n:o) Y u λa=>K a):P3 a0 Y u K:=aQ [] func124 [] h
def aFB(bg:o)(bo:N)(bY:o)(b6:N)(a2:a8)(u:H)(K:o->Q)(h:aS u a2 λa=>a1 bo a λb=>aS u (aG b a 1) λc=>aS u a2 λd=>a1 b6 d λe=>aS u (aG e d 1) λf=>a7 (c-f)/\K (c-f) u):aoS bg bo bY b6 a2 u K:=oL 2 [] func125 [] h
def aF1(a0:N)(u:H)(K:N->Q)(h:aF (a0.a=none) (K bp u) (bd (dA 22 0 #[]) bb u λ(a:N)b=>bd (dO #[22,22] 22 #[vs a,vs a0]) bb b λ(c:N)d=>K c d)):n4 a0 u K:=aQ [] func126 [] h
def aol(a0:N)(Y a2:a8)(u:H)(K:bU->Q)(h:aF ((a0.n:o)=0) (K none u) (eF u Y λa=>bl a λb=>eF u (b.add 2) λc=>Vv c (a0.n:o) u λd _ e=>a1 a0 d λf=>bc e ((aG f d 2).add 1) λg=>o3 g e λi j=>dW j λk=>H.aM (j.ins k (bt #[vs bp] 30 (0,0))) (am k) [vs i] λl=>bc l (am k) λm=>Qc m a0 l λn z p q r _ _ s=>fl (aA a8) (λ_ t=>dW t λv=>H.aM (t.ins v (bt #[JH] 219 (0,0))) (am v) [js (ko 130) #[] #[aX (some (am k))]] λw=>P3 a0 (js (ko 131) #[] #[aX (some (am v))]) w λx=>(2:o)≠0/\a7 (ff (a0.n:o) 2)/\∃y:H,H.le y x/\p7 y a2 λW=>p7 y a2 λbW=>(bd (fZ 22 (vs a0) none (some (af (ff (a0.n:o) 2))) none) bb x λ(b0:N)cr=>H.le y cr/\(n4 b0 cr λcL cc=>H.le y cc/\(h6 aH W #[vs cL] ep cc λ(cM:aA a8)(cP:H)=>H.le y cP/\bd (fZ 22 (vs a0) (some (af (ff (a0.n:o) 2))) none none) bb cP λ(db:N)cG=>H.le y cG/\n4 db cG λdD bV=>H.le y bV/\h6 aH bW #[vs dD] ep bV λ(aO:aA a8)(eR:H)=>H.le y eR/\bd (dA 211 2 #[(0,aX cM),(1,aX aO)]) bb eR λ(eD:N)fh=>H.le y fh/\dW fh λfG=>K (some (am fG)) (fh.ins fG (bt #[af n,vs z,vs p,bj q,bj r,vs bp,vs bp,vs eD] 213 (0,0))))/\bd (fZ 22 (vs a0) (some (af (ff (a0.n:o) 2))) none none) bb cc λ(cM:N)cP=>H.le y cP/\h6 aH W #[vs cL] ep cP λ(db:aA a8)(cG:H)=>H.le y cG/\n4 cM cG λdD bV=>H.le y bV/\h6 aH bW #[vs dD] ep bV λ(aO:aA a8)(eR:H)=>H.le y eR/\bd (dA 211 2 #[(0,aX db),(1,aX aO)]) bb eR λ(eD:N)fh=>H.le y fh/\dW fh λfG=>K (some (am fG)) (fh.ins fG (bt #[af n,vs z,vs p,bj q,bj r,vs bp,vs bp,vs eD] 213 (0,0))))/\bd (fZ 22 (vs a0) (some (af (ff (a0.n:o) 2))) none none) bb cr λ(cL:N)cc=>H.le y cc/\n4 b0 cc λcM cP=>H.le y cP/\h6 aH W #[vs cM] ep cP λ(db:aA a8)(cG:H)=>H.le y cG/\n4 cL cG λdD bV=>H.le y bV/\h6 aH bW #[vs dD] ep bV λ(aO:aA a8)(eR:H)=>H.le y eR/\bd (dA 211 2 #[(0,aX db),(1,aX aO)]) bb eR λ(eD:N)fh=>H.le y fh/\dW fh λfG=>K (some (am fG)) (fh.ins fG (bt #[af n,vs z,vs p,bj q,bj r,vs bp,vs bp,vs eD] 213 (0,0))))/\bd (fZ 22 (vs a0) (some (af (ff (a0.n:o) 2))) none none) bb x λ(b0:N)cr=>H.le y cr/\bd (fZ 22 (vs a0) none (some (af (ff (a0.n:o) 2))) none) bb cr λ(cL:N)cc=>H.le y cc/\n4 cL cc λcM cP=>H.le y cP/\h6 aH W #[vs cM] ep cP λ(db:aA a8)(cG:H)=>H.le y cG/\n4 b0 cG λdD bV=>H.le y bV/\h6 aH bW #[vs dD] ep bV λ(aO:aA a8)(eR:H)=>H.le y eR/\bd (dA 211 2 #[(0,aX db),(1,aX aO)]) bb eR λ(eD:N)fh=>H.le y fh/\dW fh λfG=>K (some (am fG)) (fh.ins fG (bt #[af n,vs z,vs p,bj q,bj r,vs bp,vs bp,vs eD] 213 (0,0)))) λt=>eF s Y λv=>bl v λw=>aS s (w.add 1) λx=>aF ((a0.n:o)<=x) (dW s λy=>K (some (am y)) (s.ins y (bt #[af n,vs z,vs p,bj q,bj r,vs bp,vs a0,vs bp] 213 (0,0)))) (aF (q=0/\r=0) (dW s λy=>K (some (am y)) (s.ins y (bt #[af n,vs z,vs p,bj q,bj r,vs bp,vs a0,vs bp] 213 (0,0)))) (t none s)))):aeW a0 Y a2 u K:=Lt 1 (C:={P:=aH,exp:=[7,54,10,77],wrap:=ao,io:=io,oK:=[],oU:=[],part:=ai}) (args:=[(ed a0.a a0.n a0.c),(ha (some Y)),(ha (some a2))]) (od _ _) func127 (by kernel_rfl) [aO 127 [(4,.ptr)]] (by kernel_rfl) (by kernel_rfl) (Eq.mp (by kernel_rfl) h)
def aFT(a0:bU)(Y:o)(u:H)(K:o->o->Q)(h:P0 a0 Y 1 1000000000 u λa b=>b4 (a=0) (K 0 a b) (Hi a0 b λc d=>bS bu Y≠0/\K (bS b2 (lE c (bS bu Y))) 0 d)):Vv a0 Y u K:=aQ [] func128 [] h
def aHp(a0 Y:N)(u:H)(K:o->N->N->o->o->N->o->Q)(h:qs a0 (a0.n:o) u λa b=>b4 (a=0) (K 0 bp bp 0 0 bp a b) (Qe Y (a0.n:o) b λc d e=>b4 (d=0) (K 0 bp bp 0 0 bp d e) (wj o o o 0 0 0 e λf g i j k=>aF (g<(Y.n:o)) (a1 Y g λl=>aS k (aG l g 2) λ_=>bc k ((aG l g 2).add 1) λm=>KL a0 m k λn z p=>vz n z i j p λq r=>aF ((0:o)<q) (a7 (g+1)/\f (g+1) n z r) (a7 (g+1)/\f (g+1) i j r)) (o3 a0 k λl m=>H.le k m/\K 3 l bp i j c 0 m)))):Qc a0 Y u K:=aQ [] func129 [(506,⟨[(34,bE)],[(1,[.int .u64,.int .u64])]⟩)] h
def aHJ(bg:o)(bo:N)(Y:a8)(u:H)(K:o->o->Q)(h:bc u Y λa=>rZ a bo u λb c _ d=>K b c d):ao1 bg bo Y u K:=oL 1 [] func130 [] h
def aHK(bg:o)(bo:N)(bY:o)(b6:N)(a2:a8)(u:H)(K:o->Q)(h:p7 u a2 λa=>p7 u a2 λb=>h6 aH a #[cz #[af bg,vs bo]] [bk.agg [aI.int bu,aI.int bu]] u λ(c:o)(d:o)(e:H)=>H.le u e/\h6 aH b #[cz #[af bY,vs b6]] [bk.agg [aI.int bu,aI.int bu]] e λ(f:o)(g:o)(i:H)=>vz c d f g i λj k=>K j k):ao2 bg bo bY b6 a2 u K:=oL 2 [] func131 [] h
def aFF(a0:N)(Y:o)(u:H)(K:o->Q)(h:gj o o 0 0 u λa b c d=>aF (c<(a0.n:o)) (a1 a0 c λe=>bc d (aG e c 1) λf=>qs f Y d λg i=>b4 (g=0) (K g i) (a7 (c+1)/\a b (c+1) i)) (K 0 d)):PV a0 Y u K:=aQ [] func132 [aO 26 [(4,bE),(10,bE)]] h
def aFV(a0:bU)(Y:o)(u:H)(K:N->o->Q)(h:P0 a0 Y 0 65536 u λa b=>b4 (a=0) (K bp a b) (bd (qU 30 (af Y) (af Y)) bb b λ(c:N)d=>dW d λe=>H.aM (d.ins e (bt #[vs bp] 30 (0,0))) (am e) [vs c] λf=>bc f (am e) λg=>fD o 0 f λi j k=>aF (j<(g.n:o)) (bc k (am e) λl=>a1 l j λm=>H.aM k (aG m j 1) [af j] λn=>a7 (j+1)/\i (j+1) n) (aeI a0 Y k λl m=>nB aH (J0 (Tryz.f133.body.getD Code.skip)) 49 [(31,l),(30,af Y),(29,aX a0),(22,gZ ao),(21,af j),(20,af (g.n:o)),(19,vs g),(7,aX (some (am e))),(18,vs c),(17,af Y),(15,gZ ao),(14,af a),(6,af a),(13,af a),(12,af Y),(11,aX a0),(5,af 0),(4,vs bp),(0,aX a0),(1,af Y)] m λ(n:O)(z:H)=>bc z (am e) λp=>z n=some (vk (some []))/\K p 0 (z.ins n (vk none))))):Vx a0 Y u K:=aQ [7] func133 [aO 122 [(21,bE)]] h
def aFE(a0 Y a2 a3:a8)(u:H)(K:Q)(h:aS u a0 λa=>bd (qU 133 (af a) (af a)) bb u λ(b:N)c=>aS c a0 λd=>bd (qU 30 (af d) (af d)) bb c λ(e:N)f=>aS f a0 λg=>fD o 0 f λi j k=>aF (j<g) (aS k Y λl=>bd (qU 30 (af l) (af l)) bb k λ(m:N)n=>a1 b j λz=>H.aM n (aG z j 1) [vs m] λp=>a7 (j+1)/\i (j+1) p) (bc k a2 λl=>fD o 0 k λm n z=>aF (n<(l.n:o)) (a1 l n λp=>bc z (aG p n 1) λq=>bc z a3 λr=>PW r q z λs _ _ t=>a1 e s λv=>aS t (aG v s 1) λw=>a7 (w+1)/\a1 e s λx=>H.aM t (aG x s 1) [af (w+1)] λy=>aS y Y λW=>fD o 0 y λbW b0 cr=>aF (b0<W) (a1 b s λcL=>a1 q b0 λcc=>bc cr (aG cL s 1) λcM=>a1 cM b0 λcP=>aS cr (aG cP b0 1) λdb=>aS cr (aG cc b0 1) λcG=>a7 (db+cG)/\a1 cM b0 λdD=>H.aM cr (aG dD b0 1) [af (db+cG)] λbV=>a7 (b0+1)/\bW (b0+1) bV) (a7 (n+1)/\m (n+1) cr)) (aS z a0 λp=>fD o 0 z λq r s=>aF (r<p) (aS s Y λt=>fD o 0 s λv w x=>aF (w<t) (a1 e r λy=>aS x (aG y r 1) λW=>aF ((0:o)<W) (a1 b r λbW=>a1 e r λb0=>bc x a3 λcr=>a1 cr r λcL=>bc x (aG cL r 1) λcc=>bc x (aG bW r 1) λcM=>a1 cM w λcP=>aS x (aG cP w 1) λdb=>aS x (aG b0 r 1) λcG=>Vo db cG x λdD bV=>H.le x bV/\a1 cc w λaO=>H.aM bV (aG aO w 1) [af dD] λeR=>a7 (w+1)/\v (w+1) eR) (a7 (w+1)/\v (w+1) x)) (a7 (r+1)/\q (r+1) x)) (K s)))):aeG a0 Y a2 a3 u K:=oL 0 [] func134 [aO 58 [(19,bE)],aO 122 [(30,bE)],aO 125342 [(47,bE)],aO 126 [(66,bE)],aO 32358 [(70,bE)]] h
def aFH(a0 Y:N)(u:H)(K:o->o->o->Q)(h:zl o o o o 0 0 0 0 u λa b c d e f=>aF (c<(a0.n:o)) (a1 a0 c λg=>bc f (aG g c 1) λi=>rZ i Y f λj k _ l=>aF (c=0) (a7 (c+1)/\a c (c+1) j k l) (vz j k d e l λm n=>aF (m<0) (a7 (c+1)/\a c (c+1) j k n) (a7 (c+1)/\a b (c+1) d e n))) (K b d e f)):PW a0 Y u K:=aQ [] func135 [(26,⟨[(4,bE),(12,bE)],[(0,[.int .u64,.int .u64])]⟩)] h
def aFG(a0 Y:o)(u:H)(K:o->Q)(h:Y≠0/\a7 (ff a0 Y)/\Y≠0/\aF (lE a0 Y<0) (a7 (ff a0 Y-1)/\K (ff a0 Y-1) u) (K (ff a0 Y) u)):Vo a0 Y u K:=aQ [] func136 [] h
def aoi(a0 Y:N)(u:H)(K:o->o->o->o->Q)(h:Vp a0 u λa b=>b4 (a=0) (K 0 0 0 a b) (a1 a0 0 λc=>bc b (c.add 0) λd=>qs Y (d.n:o) b λe f=>b4 (e=0) (K 0 0 0 e f) (PW a0 Y f λg i j k=>K g i j 0 k))):Hh a0 Y u K:=aQ [] func137 [] h
def aFU(a0:bU)(Y:o)(u:H)(K:o->o->Q)(h:P0 a0 Y 0 30 u λa b=>b4 (a=0) (K 0 a b) (Hi a0 b λc d=>aen c d λe f=>(2:o)≠0/\a7 (ff e 2)/\K (ite (Y<ff e 2) Y (ff e 2)) 0 f)):Vw a0 Y u K:=aQ [] func138 [] h
def aE7(a0:bU)(Y:o)(a2:N)(a3:o)(a4:ap)(u:H)(K:Q)(h:bd (pr 166 none) [bk.one aI.map] u λ(a:aA O)b=>bd (unit (kW 166 (dP a) (af Y) (gZ ai))) [] b λc=>yq a0 Y a2 c λd e f g=>bd (dA 263 1 #[(0,cz #[af d,bj e,bj f])]) bb g λ(i:N)j=>dW j λk=>H.aM (j.ins k (bt #[vs bp] 263 (0,0))) (am k) [vs i] λl=>NO l λm n=>bc n (am k) λz=>aet z n λp q=>aF ((0:o)<p) (D4 (mj 265 (aX (some (am k)))) q λr s=>bd (so r 20 68 ao) [bk.agg [aI.int b2,aI.int bu,aI.int bu]] s λ(t:o)(v:o)(w:o)x=>oa a4 #[cz #[af t,bj v,bj w]] cH x λ(y:ay)W=>b4 (y=ai) (K W) (bl a0 λbW=>fm W (bW.add 3) λb0=>bd (gY 182 (dP b0) (af t) ao) ep W λ(cr:aA a8)cL=>bl cr λcc=>2<=31/\((0:o)<=a3/\a3<(31:o))/\bc cL (aG (cc.add 1) a3 1) λcM=>fD o 0 cL λcP db cG=>aF (db<(cM.n:o)) (a1 cM db λdD=>aS cG (aG dD db 1) λbV=>bd (gY 166 (dP a) (af bV) ao) cH cG λ(aO:ay)eR=>b4 (aO=ai) (bd (unit (kW 166 (dP a) (af bV) (gZ ai))) [] eR λeD=>yq a0 bV a2 eD λfh fG gN hN=>Ab (mj 265 (aX (some (am k)))) (mj 68 (cz #[af fh,bj fG,bj gN])) hN λiA=>a7 (db+1)/\cP (db+1) iA) (a7 (db+1)/\cP (db+1) eR)) (m cG))) (K q)):Kx a0 Y a2 a3 a4 u K:=aQ [11] func139 [aO 14 [],aO 1838 [(46,bE)]] h
def aFe(a0:bU)(Y:N)(a2:o)(u:H)(K:o->Q)(h:bl a0 λa=>aS u (a.add 4) λb=>bl a0 λc=>fm u (c.add 3) λd=>bd (gY 182 (dP d) (af b) ao) ep u λ(e:aA a8)f=>bl e λg=>aS f (g.add 32) λi=>gj o o b i f λj k l m=>aF (a2<l) (Vk a0 k Y l m λn z=>a7 (l-1)/\j n (l-1) z) (K k m)):PS a0 Y a2 u K:=aQ [] func140 [aO 58 [(7,bE),(8,bE)]] h
def aFc(bg bo ca:o)(Y a2 a3:a8)(u:H)(K:ay->Q)(h:eF u Y λa=>Ad a bg bo ca u λ_ b=>aS b a2 λc=>a7 (c+1)/\H.aM b a2 [af (c+1)] λd=>aS d a2 λe=>eF d a3 λf=>bl f λg=>aS d (g.add 1) λi=>a7 (4*i)/\K (decide (e<4*i)) d):aoM bg bo ca Y a2 a3 u K:=oL 1 [] func141 [] h
def aE9(a0:bU)(Y a2 a3:o)(u:H)(K:Q)(h:dW u λa=>eF (u.ins a (bt #[aX a0] 122 (0,0))) (am a) λb=>bl b λc=>fm (u.ins a (bt #[aX a0] 122 (0,0))) (c.add 3) λd=>bd (gY 182 (dP d) (af Y) ao) ep (u.ins a (bt #[aX a0] 122 (0,0))) λ(e:aA a8)f=>dW f λg=>H.aM (f.ins g (bt #[aX none] 227 (0,0))) (am g) [aX e] λi=>eF i (am g) λj=>bl j λk=>2<=31/\((0:o)<=a3/\a3<(31:o))/\bc i (aG (k.add 1) a3 1) λl=>bd (dA 30 1 #[(0,af a2)]) bb i λ(m:N)n=>bd (dO #[30,30] 30 #[vs l,vs m]) bb n λ(z:N)p=>fl N (λq r=>eF r (am g) λs=>bl s λt=>2<=31/\((0:o)<=a3/\a3<(31:o))/\H.aM r (aG (t.add 1) a3 1) [vs q] λv=>K v) λq=>eF p (am a) λr=>PR r a3 p λs t=>aF (s<(z.n:o)) (aeK z (js (ko 176) #[] #[aX (some (am a)),aX (some (am g))]) t λv=>eF v (am a) λw=>PR w a3 v λx y=>bd (fZ 30 (vs z) none (some (af x)) none) bb y λ(W:N)bW=>q W bW) (q z t)):PQ a0 Y a2 a3 u K:=aQ [4,8] func142 [aO 15 [(9,.slice)]] h
def aGU(a0:N)(Y:o)(u:H)(K:N->Q)(h:fl o (λa b=>bd (fZ 30 (vs a0) none (some (af a)) none) bb b λ(c:N)d=>bd (dO #[30,30] 30 #[vs bp,vs c]) bb d λ(e:N)f=>bd (dA 30 1 #[(0,af Y)]) bb f λ(g:N)i=>bd (dO #[30,30] 30 #[vs e,vs g]) bb i λ(j:N)k=>bd (fZ 30 (vs a0) (some (af a)) none none) bb k λ(l:N)m=>bd (dO #[30,30] 30 #[vs j,vs l]) bb m λ(n:N)z=>K n z) λa=>fD o 0 u λb c d=>aF (c<(a0.n:o)) (a1 a0 c λe=>aS d (aG e c 1) λf=>aF (f<Y) (a7 (c+1)/\b (c+1) d) (a c d)) (a c d)):KF a0 Y u K:=aQ [] func144 [aO 7 [(5,bE)],aO 28 [(5,bE)]] h
def aG9(a0:N)(bY:o)(b6 fU:N)(mT mU:o)(lP:N)(a2:o)(u:H)(K:ay->Q)(h:fl ay (λa b=>gj ay o a 0 b λc d e f=>aF (e<(lP.n:o)) (a1 lP e λg=>aS f (aG g e 1) λi=>KJ a0 i f λj k=>aF (j<0) (K ao k) (a1 a0 j λl=>bc k ((aG l j 2).add 1) λm=>VZ bY b6 fU mT mU lP m k λn z=>b4 (n=ai) (K ao z) (a7 (e+1)/\c d (e+1) z))) (K ai f)) λa=>VX bY b6 fU mT mU lP a2 u λb c=>b4 (b=0) (K ao c) (aF ((lP.n:o)=0) (K ao c) (a ao c))):Wb a0 bY b6 fU mT mU lP a2 u K:=aQ [] func145 [aO 3 [(6,.bool)],aO 58 [(6,.bool),(7,bE)]] h
def aG0(a0:N)(Y:o)(u:H)(K:N->Q)(h:aF (Y<(a0.n:o)) (bd (fZ 38 (vs a0) none (some (af Y)) none) bb u λ(a:N)b=>K a b) (K a0 u)):V8 a0 Y u K:=aQ [] func146 [] h
def aG1(a0 Y:N)(u:H)(K:N->Q)(h:gj N o bp 0 u λa b c d=>aF (c<(a0.n:o)) (fl a8 (λe f=>aS f e λg=>c8 f (e.add 1) λi=>c8 f (e.add 2) λj=>bd (dA 38 1 #[(0,cz #[af g,bj i,bj j])]) bb f λ(k:N)l=>bd (dO #[38,38] 38 #[vs b,vs k]) bb l λ(m:N)n=>fD o (b.n:o) n λz p q=>ty (λr=>a7 (p-1)/\a1 m (p-1) λs=>aS r (aG s (p-1) 3) λt=>c8 r ((aG s (p-1) 3).add 1) λv=>c8 r ((aG s (p-1) 3).add 2) λw=>a1 m p λx=>H.aM r (aG x p 3) [af t,bj v,bj w] λy=>a7 (p-1)/\z (p-1) y) λr=>aF ((0:o)<p) (a7 (p-1)/\a1 m (p-1) λs=>aS q e λt=>c8 q (e.add 1) λv=>c8 q (e.add 2) λw=>aS q (aG s (p-1) 3) λx=>c8 q ((aG s (p-1) 3).add 1) λy=>c8 q ((aG s (p-1) 3).add 2) λW=>V5 t v w x y W q λbW b0=>dx bW (r b0) (aS b0 e λcr=>c8 b0 (e.add 1) λcL=>c8 b0 (e.add 2) λcc=>a1 m p λcM=>H.aM b0 (aG cM p 3) [af cr,bj cL,bj cc] λcP=>a7 (c+1)/\a m (c+1) cP)) (aS q e λs=>c8 q (e.add 1) λt=>c8 q (e.add 2) λv=>a1 m p λw=>H.aM q (aG w p 3) [af s,bj t,bj v] λx=>a7 (c+1)/\a m (c+1) x)) λe=>a1 a0 c λf=>a1 a0 c λg=>aS d (aG f c 2) λi=>bc d ((aG g c 2).add 1) λj=>(Hm j Y d λk l m=>H.le d m/\dW m λn=>H.le d (m.ins n (bt #[af 0,bj 0,bj 0] 68 (0,0)))/\H.aM (m.ins n (bt #[af 0,bj 0,bj 0] 68 (0,0))) (am n) [af i,bj k,bj l] λz=>e (am n) z)/\dW d λk=>H.le d (d.ins k (bt #[af 0,bj 0,bj 0] 68 (0,0)))/\Hm j Y (d.ins k (bt #[af 0,bj 0,bj 0] 68 (0,0))) λl m n=>H.le d n/\H.aM n (am k) [af i,bj l,bj m] λz=>e (am k) z) (K b d)):V9 a0 Y u K:=aQ [7] func147 [aO 58 [(5,.slice),(6,bE)],aO 932 [(7,.addr)],aO 29852 [(8,bE)],aO 59704 []] h
def aGO(a0 Y:N)(u:H)(K:ay->Q)(h:b4 ((a0.n:o)=(Y.n:o)) (K ao u) (gj ay o ao 0 u λa b c d=>aF (c<(a0.n:o)) (a1 a0 c λe=>a1 Y c λf=>aS d (aG e c 1) λg=>aS d (aG f c 1) λi=>b4 (g=i) (K ao d) (a7 (c+1)/\a b (c+1) d)) (K ai d))):V0 a0 Y u K:=aQ [] func148 [aO 58 [(4,.bool),(5,bE)]] h
def aGM(a0:N)(u:H)(K:N->Q)(h:gj N o bp 0 u λa b c d=>aF (c<(a0.n:o)) (a1 a0 c λe=>aS d (aG e c 2) λf=>KF b f d λg i=>a7 (c+1)/\a g (c+1) i) (K b d)):VY a0 u K:=aQ [] func149 [aO 58 [(3,.slice),(4,bE)]] h
def an9(a0:o)(u:H)(K:ay->Q)(h:K (sx (decide (a0=a0))) u):Vb a0 u K:=aQ [] func160 [] h
def aGG(bg bo ca dc ew eU mr mu:o)(mv:ay)(Y a2:o)(u:H)(K:o->o->o->o->o->o->o->o->ay->Q)(h:dW u λa=>∃b:o->o->o->o->o->o->o->o->o->o->ay->H->Prop,∃c:o->o->o->o->o->o->o->o->o->o->ay->H->O,b a2 Y 0 0 0 0 0 0 0 0 ao (u.ins a (bt #[af bg,af bo,af ca,af dc,af ew,af eU,af mr,af mu,gZ mv] 155 (0,0)))/\∀d:o,∀e:o,∀f:o,∀g:o,∀i:o,∀j:o,∀k:o,∀l:o,∀m:o,∀n:o,∀z:ay,∀p:H,b d e f g i j k l m n z p->aF ((0:o)<d) (aF ((8:o)<=e) (H.aM p ((am a).add 8) [gZ ai] λq=>aS q (am a) λr=>aS q ((am a).add 1) λs=>aS q ((am a).add 2) λt=>aS q ((am a).add 3) λv=>aS q ((am a).add 4) λw=>aS q ((am a).add 5) λx=>aS q ((am a).add 6) λy=>aS q ((am a).add 7) λW=>u6 q ((am a).add 8) λbW=>K r s t v w x y W bW q) (2<=8/\((0:o)<=e/\e<(8:o))/\aS p (aG (am a) e 1) λq=>a7 (d+q)/\(65536:o)≠0/\2<=8/\((0:o)<=e/\e<(8:o))/\H.aM p (aG (am a) e 1) [af (lE (d+q) 65536)] λr=>(65536:o)≠0/\a7 (ff (d+q) 65536)/\a7 (e+1)/\b (ff (d+q) 65536) (e+1) f g i j k l m n z r/\c (ff (d+q) 65536) (e+1) f g i j k l m n z r<c d e f g i j k l m n z p)) (aS p (am a) λq=>aS p ((am a).add 1) λr=>aS p ((am a).add 2) λs=>aS p ((am a).add 3) λt=>aS p ((am a).add 4) λv=>aS p ((am a).add 5) λw=>aS p ((am a).add 6) λx=>aS p ((am a).add 7) λy=>u6 p ((am a).add 8) λW=>K q r s t v w x y W p)):VW bg bo ca dc ew eU mr mu mv Y a2 u K:=aQ [3] func161 [(26,⟨[(2,bE),(7,bE)],[(0,[.int .i64,.int .i64,.int .i64,.int .i64,.int .i64,.int .i64,.int .i64,.int .i64,.bool])]⟩)] h
def aHy(a0:N)(Y:o)(u:H)(K:N->o->Q)(h:aF ((512:o)<(a0.n:o)) (K bp 2 u) (bd (pr 166 none) [bk.one aI.map] u λ(a:aA O)b=>zl N o N o bp 0 bp 0 b λc d e f g i=>aF (g<(a0.n:o)) (a1 a0 g λj=>aS i (aG j g 2) λk=>bc i ((aG j g 2).add 1) λl=>u2 N o (λm n z=>qs l Y z λp q=>b4 (p=0) (K bp p q) (bd (unit (kW 166 (dP a) (af k) (gZ ai))) [] q λr=>bd (dA 30 1 #[(0,af k)]) bb r λ(s:N)t=>bd (dO #[30,30] 30 #[vs f,vs s]) bb t λ(v:N)w=>a7 (g+1)/\c m n v (g+1) w)) λm=>aF (k<1) (K bp 50 i) (aF ((1000000000:o)<k) (K bp 50 i) (bd (gY 166 (dP a) (af k) ao) cH i λ(n:ay)z=>dx n (K bp 50 z) (m d e z)))) (B7 f i λj=>K f 0 j))):Qe a0 Y u K:=aQ [] func163 [aO 250 [(4,.slice),(5,bE),(7,.slice),(17,bE)],aO 16025 [(4,.slice),(5,bE)]] h
def aGf(a0:N)(Y:o)(a2:ap)(u:H)(K:Q)(h:gj o o 0 20 u λa b c d=>aF (c<=Y) (P4 a0 b c a2 d λe=>a7 (c+20)/\a c (c+20) e) (P4 a0 b Y a2 d λe=>wj o o o b c 20 e λf _ _ g i=>aF (g<Y) (a7 (2*g)/\gj o o 0 (2*g) i λj k l m=>aF (l<=Y) (a7 (k+g)/\Hj a0 k (k+g) l a2 m λn=>a7 (2*g)/\a7 (l+2*g)/\j l (l+2*g) n) (a7 (k+g)/\aF (k+g<Y) (Hj a0 k (k+g) Y a2 m λn=>a7 (g*2)/\f k l (g*2) n) (a7 (g*2)/\f k l (g*2) m))) (K i))):aeM a0 Y a2 u K:=aQ [] func164 [aO 28 [(7,bE),(8,bE)],aO 62 [(7,bE),(8,bE),(6,bE)],aO 3988 [(7,bE),(8,bE)]] h
def ad1(a0:bU)(Y a2 a3:o)(u:H)(K:o->Q)(h:aF (a0=none) (K 3 u) (aF (Y<a2) (K 1 u) (aF (a3<Y) (K 1 u) (K 0 u)))):P0 a0 Y a2 a3 u K:=aQ [] func165 [] h
def aok(a0:bU)(u:H)(K:o->Q)(h:aF (a0=none) (K 0 u) (bl a0 λa=>c8 u a λb=>bl a0 λc=>H.aM u c [bj (bS bu (b+11400714819323198485))] λd=>bl a0 λe=>c8 d e λf=>(0:o)<=30/\(0:o)<=27/\(0:o)<=31/\K (bits zH bu (bS bu (bits zH bu (bS bu (bits zH bu f (et f (2^30))*13787848793156543929)) (et (bS bu (bits zH bu f (et f (2^30))*13787848793156543929)) (2^27))*10723151780598845931)) (et (bS bu (bits zH bu (bS bu (bits zH bu f (et f (2^30))*13787848793156543929)) (et (bS bu (bits zH bu f (et f (2^30))*13787848793156543929)) (2^27))*10723151780598845931)) (2^31))) d)):Hi a0 u K:=aQ [] func166 [] h
def aFW(a0:bU)(Y:o)(u:H)(K:ap->Q)(h:dW u λa=>∀b:O,u.ins a (bt #[aX a0] 171 (0,0)) b=none->K (js (ko 195) #[] #[aX (some (am b)),aX (some (am a))]) ((u.ins a (bt #[aX a0] 171 (0,0))).ins b (bt #[af Y] 3 (0,0)))):aeI a0 Y u K:=aQ [2,3] func167 [] h
def aoj(a0:N)(u:H)(K:o->Q)(h:fl o (λ_ a=>a1 a0 0 λb=>bc a (b.add 0) λc=>PV a0 (c.n:o) a λd e=>K d e) λa=>aF ((a0.n:o)=0) (K 1 u) (aF ((64:o)<(a0.n:o)) (K 1 u) (a 0 u))):Vp a0 u K:=aQ [] func168 [aO 3 [(2,bE)]] h
def aE8(a0:bU)(Y:o)(a2:N)(u:H)(K:o->o->o->Q)(h:bl a0 λa=>fm u (a.add 3) λb=>bd (gY 182 (dP b) (af Y) ao) ep u λ(c:aA a8)d=>bl c λe=>bc d e λf=>rZ f a2 d λg i _ j=>K Y g i j):yq a0 Y a2 u K:=aQ [] func170 [] h
def aog(a0:N)(u:H)(K:o->Q)(h:K (a0.n:o) u):aet a0 u K:=aQ [] func171 [] h
def aob(a0:ap)(u:H)(K:ap->Q)(h:qB a0 "Len" #[] cv u λ(a:o)b=>a7 (a-1)/\qB a0 "Swap" #[af 0,af (a-1)] [] b λc=>Kv a0 0 (a-1) c λ_ d=>qB a0 "Pop" #[] [bk.one aI.val] d λ(e:ap)f=>K e f):D4 a0 u K:=aQ [] func172 [] h
def aE6(a0:bU)(Y:o)(a2:N)(a3:o)(u:H)(K:o->Q)(h:yq a0 Y a2 u λa b c d=>zl ay o o o ai a b c d λe f g i j k=>dx f (bl a0 λl=>fm k (l.add 3) λm=>bd (gY 182 (dP m) (af g) ao) ep k λ(n:aA a8)z=>bl n λp=>2<=31/\((0:o)<=a3/\a3<(31:o))/\bc z (aG (p.add 1) a3 1) λq=>akw ay o o o o ao 0 g i j z λr s t v w x y=>aF (t<(q.n:o)) (a1 q t λW=>aS y (aG W t 1) λbW=>yq a0 bW a2 y λb0 cr cL cc=>Ca b0 cr cL v w x cc λcM cP=>dx cM (a7 (t+1)/\r ai (t+1) b0 cr cL cP) (a7 (t+1)/\r s (t+1) v w x cP)) (e s v w x y)) (K g k)):Vk a0 Y a2 a3 u K:=aQ [] func173 [(58,⟨[(10,.bool)],[(0,[.int .i64,.int .u64,.int .u64])]⟩),(3734,⟨[(10,.bool),(32,bE)],[(0,[.int .i64,.int .u64,.int .u64])]⟩)] h
def aFd(a0:bU)(Y:o)(u:H)(K:o->Q)(h:aF (Y=0) (bl a0 λa=>aS u (a.add 1) λb=>a7 (2*b)/\K (2*b) u) (bl a0 λa=>aS u (a.add 1) λb=>K b u)):PR a0 Y u K:=aQ [] func174 [] h
def aFa(a0 Y:o)(a2 a3:a8)(u:H)(K:o->Q)(h:eF u a2 λa=>eF u a3 λb=>bl b λc=>bc u c λd=>eF u a2 λe=>eF u a3 λf=>bl f λg=>bc u g λi=>yq a a0 d u λj k l m=>H.le u m/\yq e Y i m λn z p q=>Ca j k l n z p q λr s=>dx r (K (-1) s) (K 1 s)):aes a0 Y a2 a3 u K:=oL 2 [] func176 [] h
def aGd(a0:N)(Y a2:o)(a3:ap)(u:H)(K:Q)(h:a7 (Y+1)/\fD o (Y+1) u λa b c=>aF (b<a2) (fD o b c λd e f=>ty (λg=>a7 (e-1)/\a7 (e-1)/\a1 a0 (e-1) λi=>a1 a0 e λj=>aS g (aG i (e-1) 2) λk=>bc g ((aG i (e-1) 2).add 1) λl=>aS g (aG j e 2) λm=>bc g ((aG j e 2).add 1) λn=>a1 a0 e λz=>H.aM g (aG z e 2) [af k,vs l] λp=>a1 a0 (e-1) λq=>H.aM p (aG q (e-1) 2) [af m,vs n] λr=>a7 (e-1)/\d (e-1) r) λg=>aF (Y<e) (a1 a0 e λi=>a7 (e-1)/\a1 a0 (e-1) λj=>aS f (aG i e 2) λk=>bc f ((aG i e 2).add 1) λl=>aS f (aG j (e-1) 2) λm=>bc f ((aG j (e-1) 2).add 1) λn=>h6 aH a3 #[cz #[af k,vs l],cz #[af m,vs n]] cv f λ(z:o)(p:H)=>aF (z<0) (g p) (a7 (b+1)/\a (b+1) p)) (a7 (b+1)/\a (b+1) f)) (K c)):P4 a0 Y a2 a3 u K:=aQ [] func177 [aO 6 [(8,bE)],aO 402 [(9,bE)],aO 804 []] h
def aGJ(bg:o)(bo ca:N)(dc ew:o)(eU:N)(Y:o)(u:H)(K:o->Q)(h:fl o (λa b=>fl o (λc d=>aF (bg=1) (K 0 d) (D5 bo Y d λe f=>fl o (λg i=>D5 ca Y i λj k=>b4 (j=0) (K j k) (gj o o g 0 k λl m n z=>aF (n<Y) (a1 bo n λp=>aS z (aG p n 1) λq=>a1 ca n λr=>aS z (aG r n 1) λs=>aF (s<q) (K 32 z) (a7 (n+1)/\l m (n+1) z)) (K 0 z))) λg=>b4 (e=0) (K e f) (aF (bg=3) (K e f) (g c f)))) λc=>V3 bg bo ca dc ew eU b λd e=>b4 (d=ai) (K 32 e) (V4 eU e λf g=>b4 (f=ai) (K 32 g) (c a g))) λa=>aF (Y<1) (K 30 u) (aF ((64:o)<Y) (K 30 u) (a 0 u))):VX bg bo ca dc ew eU Y u K:=aQ [] func185 [aO 3 [(4,bE)],aO 7 [(4,bE)],aO 63 [(4,bE)],aO 4090 [(4,bE),(6,bE)]] h
def aGN(bg:o)(bo ca:N)(dc ew:o)(eU Y:N)(u:H)(K:ay->Q)(h:aF (bg=2) (gj ay o ao 0 u λa b c d=>aF (c<(Y.n:o)) (fl ay (λe f=>a7 (c+1)/\a e (c+1) f) λe=>a1 Y c λf=>aS d (aG f c 1) λg=>a1 bo c λi=>aS d (aG i c 1) λj=>aF (g<j) (K ao d) (a1 Y c λk=>aS d (aG k c 1) λl=>a1 ca c λm=>aS d (aG m c 1) λn=>aF (n<l) (K ao d) (e b d))) (K ai d)) (aF (bg=3) (Hm bo Y u λa b c=>H.le u c/\Hk dc ew a b c λd e=>K (sx (decide (d=ai))) e) (K ai u))):VZ bg bo ca dc ew eU Y u K:=aQ [] func186 [aO 426 [(4,.bool),(5,bE)],aO 1705 [(4,.bool)]] h
def aGX(bg bo ca bY b6 fU:o)(u:H)(K:ay->Q)(h:b4 (bo=b6/\ca=fU) (Hk bo ca b6 fU u λa b=>K a b) (K (decide (bg<bY)) u)):V5 bg bo ca bY b6 fU u K:=aQ [] func187 [] h
def aGh(a0:N)(Y a2 a3:o)(a4:ap)(u:H)(K:Q)(h:a7 (a2-Y)/\aF (a2-Y=1) (gj o o a2 a3 u λa b c d=>aF (b<c) (a7 (b+c)/\(0:o)<=1/\a1 a0 (bS b2 (et (bS bu (b+c)) (2^1))) λe=>a1 a0 Y λf=>aS d (aG e (bS b2 (et (bS bu (b+c)) (2^1))) 2) λg=>bc d ((aG e (bS b2 (et (bS bu (b+c)) (2^1))) 2).add 1) λi=>aS d (aG f Y 2) λj=>bc d ((aG f Y 2).add 1) λk=>h6 aH a4 #[cz #[af g,vs i],cz #[af j,vs k]] cv d λ(l:o)(m:H)=>aF (l<0) (a7 (bS b2 (et (bS bu (b+c)) (2^1))+1)/\a (bS b2 (et (bS bu (b+c)) (2^1))+1) c m) (a b (bS b2 (et (bS bu (b+c)) (2^1))) m)) (fD o Y d λe f g=>a7 (b-1)/\aF (f<b-1) (a7 (f+1)/\a7 (f+1)/\a1 a0 (f+1) λi=>a1 a0 f λj=>aS g (aG i (f+1) 2) λk=>bc g ((aG i (f+1) 2).add 1) λl=>aS g (aG j f 2) λm=>bc g ((aG j f 2).add 1) λn=>a1 a0 f λz=>H.aM g (aG z f 2) [af k,vs l] λp=>a1 a0 (f+1) λq=>H.aM p (aG q (f+1) 2) [af m,vs n] λr=>a7 (f+1)/\e (f+1) r) (K g))) (a7 (a3-a2)/\aF (a3-a2=1) (gj o o Y a2 u λa b c d=>aF (b<c) (a7 (b+c)/\(0:o)<=1/\a1 a0 a2 λe=>a1 a0 (bS b2 (et (bS bu (b+c)) (2^1))) λf=>aS d (aG e a2 2) λg=>bc d ((aG e a2 2).add 1) λi=>aS d (aG f (bS b2 (et (bS bu (b+c)) (2^1))) 2) λj=>bc d ((aG f (bS b2 (et (bS bu (b+c)) (2^1))) 2).add 1) λk=>h6 aH a4 #[cz #[af g,vs i],cz #[af j,vs k]] cv d λ(l:o)(m:H)=>b4 (l<0) (a7 (bS b2 (et (bS bu (b+c)) (2^1))+1)/\a (bS b2 (et (bS bu (b+c)) (2^1))+1) c m) (a b (bS b2 (et (bS bu (b+c)) (2^1))) m)) (fD o a2 d λe f g=>aF (b<f) (a7 (f-1)/\a7 (f-1)/\a1 a0 (f-1) λi=>a1 a0 f λj=>aS g (aG i (f-1) 2) λk=>bc g ((aG i (f-1) 2).add 1) λl=>aS g (aG j f 2) λm=>bc g ((aG j f 2).add 1) λn=>a1 a0 f λz=>H.aM g (aG z f 2) [af k,vs l] λp=>a1 a0 (f-1) λq=>H.aM p (aG q (f-1) 2) [af m,vs n] λr=>a7 (f-1)/\e (f-1) r) (K g))) (a7 (Y+a3)/\(0:o)<=1/\a7 (bS b2 (et (bS bu (Y+a3)) (2^1))+a2)/\u2 o o (λa b c=>a7 (bS b2 (et (bS bu (Y+a3)) (2^1))+a2-1)/\gj o o a b c λd e f g=>aF (e<f) (a7 (e+f)/\(0:o)<=1/\a7 (bS b2 (et (bS bu (Y+a3)) (2^1))+a2-1-bS b2 (et (bS bu (e+f)) (2^1)))/\a1 a0 (bS b2 (et (bS bu (Y+a3)) (2^1))+a2-1-bS b2 (et (bS bu (e+f)) (2^1))) λi=>a1 a0 (bS b2 (et (bS bu (e+f)) (2^1))) λj=>aS g (aG i (bS b2 (et (bS bu (Y+a3)) (2^1))+a2-1-bS b2 (et (bS bu (e+f)) (2^1))) 2) λk=>bc g ((aG i (bS b2 (et (bS bu (Y+a3)) (2^1))+a2-1-bS b2 (et (bS bu (e+f)) (2^1))) 2).add 1) λl=>aS g (aG j (bS b2 (et (bS bu (e+f)) (2^1))) 2) λm=>bc g ((aG j (bS b2 (et (bS bu (e+f)) (2^1))) 2).add 1) λn=>h6 aH a4 #[cz #[af k,vs l],cz #[af m,vs n]] cv g λ(z:o)(p:H)=>b4 (z<0) (a7 (bS b2 (et (bS bu (e+f)) (2^1))+1)/\d (bS b2 (et (bS bu (e+f)) (2^1))+1) f p) (d e (bS b2 (et (bS bu (e+f)) (2^1))) p)) (a7 (bS b2 (et (bS bu (Y+a3)) (2^1))+a2-e)/\ty (λi=>ty (λj=>aF (bS b2 (et (bS bu (Y+a3)) (2^1))<bS b2 (et (bS bu (Y+a3)) (2^1))+a2-e) (aF (bS b2 (et (bS bu (Y+a3)) (2^1))+a2-e<a3) (Hj a0 (bS b2 (et (bS bu (Y+a3)) (2^1))) (bS b2 (et (bS bu (Y+a3)) (2^1))+a2-e) a3 a4 j λk=>K k) (K j)) (K j)) λj=>aF (Y<e) (aF (e<bS b2 (et (bS bu (Y+a3)) (2^1))) (Hj a0 Y e (bS b2 (et (bS bu (Y+a3)) (2^1))) a4 i λk=>j k) (j i)) (j i)) λi=>aF (e<a2) (aF (a2<bS b2 (et (bS bu (Y+a3)) (2^1))+a2-e) (VH a0 e a2 (bS b2 (et (bS bu (Y+a3)) (2^1))+a2-e) a4 g λj=>i j) (i g)) (i g))) λa=>aF (bS b2 (et (bS bu (Y+a3)) (2^1))<a2) (a7 (bS b2 (et (bS bu (Y+a3)) (2^1))+a2-a3)/\a (bS b2 (et (bS bu (Y+a3)) (2^1))+a2-a3) (bS b2 (et (bS bu (Y+a3)) (2^1))) u) (a Y a2 u)))):Hj a0 Y a2 a3 a4 u K:=aQ [] func194 [aO 172 [(10,bE),(11,bE)],aO 698 [(13,bE)],aO 428 [(14,bE),(15,bE)],aO 1722 [(17,bE)],aO 63 [(20,bE),(21,bE)],aO 1020 [(20,bE),(21,bE)],aO 1023 [],aO 2047 []] h
def aFX(a0:ap)(Y a2:a8)(u:H)(K:Q)(h:aS u Y λa=>a7 (a-1)/\fD o (a-1) u λb c d=>aF ((1:o)<=c) (eF d a2 λe=>Hi e d λf g=>a7 (c+1)/\bS bu (c+1)≠0/\oa a0 #[af c,af (bS b2 (lE f (bS bu (c+1))))] cH g λ(i:ay)j=>b4 (i=ai) (K j) (a7 (c-1)/\b (c-1) j)) (K d)):aoX a0 Y a2 u K:=oL 1 [] func195 [aO 6 [(4,bE)]] h
def aGV(bg:o)(bo ca:N)(dc ew:o)(eU:N)(u:H)(K:ay->Q)(h:aF (bg=1) (aF ((bo.n:o)=0) (aF ((ca.n:o)=0) (K (decide (dc=0/\ew=0)) u) (K ao u)) (K ao u)) (aF (bg=2) (K (decide (dc=0/\ew=0)) u) (aF (bg=3) (K (decide ((ca.n:o)=0)) u) (K ao u)))):V3 bg bo ca dc ew eU u K:=aQ [] func200 [] h
def aGW(a0:N)(u:H)(K:ay->Q)(h:gj ay o ao 0 u λa b c d=>aF (c<(a0.n:o)) (fl ay (λe f=>a7 (c+1)/\a e (c+1) f) λe=>a1 a0 c λf=>aS d (aG f c 1) λg=>KC g d λi j=>b4 (i=ai) (K ao j/\K ao j) (aF ((0:o)<c) (a7 (c-1)/\a1 a0 (c-1) λk=>a1 a0 c λl=>(aS j (aG k (c-1) 1) λm=>aS j (aG l c 1) λn=>aF (n<=m) (K ao j) (e b j))/\aS j (aG l c 1) λm=>aS j (aG k (c-1) 1) λn=>aF (m<=n) (K ao j) (e b j)) (e b j/\e b j))) (K ai d)):V4 a0 u K:=aQ [] func201 [aO 26 [(2,.bool),(3,bE)],aO 105 [(2,.bool)]] h
def aGe(a0:N)(Y a2 a3:o)(a4:ap)(u:H)(K:Q)(h:a7 (a2-Y)/\a7 (a3-a2)/\gj o o (a2-Y) (a3-a2) u λa b c d=>b4 (b=c) (aF (c<b) (a7 (a2-b)/\KA a0 (a2-b) a2 c a4 d λe=>a7 (b-c)/\a (b-c) c e) (a7 (a2-b)/\a7 (a2+c)/\a7 (a2+c-b)/\KA a0 (a2-b) (a2+c-b) b a4 d λe=>a7 (c-b)/\a b (c-b) e)) (a7 (a2-b)/\KA a0 (a2-b) a2 b a4 d λe=>K e)):VH a0 Y a2 a3 a4 u K:=aQ [] func204 [aO 28 [(10,bE),(11,bE)]] h
def aGg(a0:N)(Y a2 a3:o)(a4:ap)(u:H)(K:Q)(h:fD o 0 u λa b c=>aF (b<a3) (a7 (Y+b)/\a7 (a2+b)/\a7 (a2+b)/\a1 a0 (a2+b) λd=>a7 (Y+b)/\a1 a0 (Y+b) λe=>aS c (aG d (a2+b) 2) λf=>bc c ((aG d (a2+b) 2).add 1) λg=>aS c (aG e (Y+b) 2) λi=>bc c ((aG e (Y+b) 2).add 1) λj=>a1 a0 (Y+b) λk=>H.aM c (aG k (Y+b) 2) [af f,vs g] λl=>a1 a0 (a2+b) λm=>H.aM l (aG m (a2+b) 2) [af i,vs j] λn=>a7 (b+1)/\a (b+1) n) (K c)):KA a0 Y a2 a3 a4 u K:=aQ [] func223 [aO 6 [(10,bE)]] h
def aHd(a0:bU)(u:H)(K:ay->Q)(h:b4 (a0=none) (bl a0 λa=>bl a0 λb=>bc u (a.add 1) λc=>aS u b λd=>K (decide ((c.n:o)=d)) u) (H.le u u/\K ao u)):We a0 u K:=aQ [] func249 [] h
def aHe(a0:bU)(u:H)(K:o->Q)(h:aF (a0=none) (K 0 u) (bl a0 λa=>bc u (a.add 1) λb=>K (b.n:o) u)):Wf a0 u K:=aQ [] func250 [] h
def aFs(a0:bU)(Y:o)(u:H)(K:ay->o->Q)(h:dW u λa=>aF (a0=none) (K ao 3 (u.ins a (bt #[af Y] 3 (0,0)))) (bl a0 λb=>fm (u.ins a (bt #[af Y] 3 (0,0))) (b.add 3) λc=>aS (u.ins a (bt #[af Y] 3 (0,0))) (am a) λd=>bd (gY 125 (dP c) (af d) ai) [bk.one aI.slice,bk.one aI.bool] (u.ins a (bt #[af Y] 3 (0,0))) λ(_:N)(e:ay)f=>b4 (e=ai) (K ao 0 f) (bl a0 λg=>fm f (g.add 3) λi=>aS f (am a) λj=>bd (tN #[125,3] 0 #[dP i,af j]) [] f λk=>dW k λl=>H.aM (k.ins l (bt #[JH] 324 (0,0))) (am l) [js (ko 256) #[] #[aX (some (am a)),aX (some (am l))]] λm=>bl a0 λn=>p7 m (am l) λz=>eF m (n.add 2) λp=>h6 aH z #[aX p] [] m λ(q:H)=>K ai 0 q))):PT a0 Y u K:=aQ [3,8] func251 [] h
def aFv(a0:bU)(u:H)(K:o->Q)(h:aF (a0=none) (K 0 u) (bl a0 λa=>fm u (a.add 3) λb=>bd (rM #[125] 3 #[dP b]) cv u λ(c:o)d=>K c d)):aeB a0 u K:=aQ [] func252 [] h
def aFw(a0:bU)(bY:o)(b6:N)(u:H)(K:ay->o->Q)(h:aF (a0=none) (K ao 3 u) (bl a0 λa=>fm u (a.add 3) λb=>bd (gY 125 (dP b) (af bY) ai) [bk.one aI.slice,bk.one aI.bool] u λ(_:N)(c:ay)d=>bl a0 λe=>bl a0 λf=>aS d e λg=>fm d (f.add 3) λi=>bd (rM #[125] 3 #[dP i]) cv d λ(j:o)k=>H.le d k/\D2 bY b6 g c j k λl m=>b4 (l=0) (K ao l m) (PT a0 bY m λ_ _ n=>o3 b6 n λz p=>bl a0 λq=>fm p (q.add 3) λr=>bd (unit (kW 125 (dP r) (af bY) (vs z))) [] p λs=>bl a0 λt=>eF s (t.add 2) λv=>aF (v=none) (bd (dA 22 1 #[(0,cz #[af bY,vs z])]) bb s λ(w:N)x=>Hg a0 w x λy W=>bl a0 λbW=>H.aM W (bW.add 2) [aX y] λb0=>K (sx (decide (c=ai))) 0 b0) (bl a0 λw=>eF s (w.add 2) λx=>fD (aA a8) x s λy W bW=>fD o 0 bW λb0 cr cL=>aF (cr<(z.n:o)) (a1 z cr λcc=>aS cL (aG cc cr 1) λcM=>bl W λcP=>bl W λdb=>bc cL (cP.add 1) λcG=>bc cL (db.add 1) λdD=>a1 dD cr λbV=>aS cL (aG bV cr 1) λaO=>a1 cG cr λeR=>H.aM cL (aG eR cr 1) [af (ite (cM<aO) cM aO)] λeD=>bl W λfh=>bl W λfG=>bc eD (fh.add 2) λgN=>bc eD (fG.add 2) λhN=>a1 hN cr λiA=>aS eD (aG iA cr 1) λiB=>a1 gN cr λkf=>H.aM eD (aG kf cr 1) [af (ite (cM>iB) cM iB)] λkt=>a7 (cr+1)/\b0 (cr+1) kt) (bl W λcc=>bc cL (cc.add 7) λcM=>aF ((cM.n:o)=0) (bl W λcP=>bc cL (cP.add 6) λdb=>bd (dA 22 1 #[(0,cz #[af bY,vs z])]) bb cL λ(cG:N)dD=>H.le cL dD/\bd (dO #[22,22] 22 #[vs db,vs cG]) bb dD λ(bV:N)aO=>bl W λeR=>H.aM aO (eR.add 6) [vs bV] λeD=>bl W λfh=>bl a0 λfG=>bc eD (fh.add 6) λgN=>aS eD (fG.add 1) λhN=>aF (hN<(gN.n:o)) (bl W λiA=>bc eD (iA.add 6) λiB=>Hg a0 iB eD λkf kt=>bl kf λc0=>aS kt c0 λnD=>bc kt (c0.add 1) λj3=>bc kt (c0.add 2) λbe=>c8 kt (c0.add 3) λhE=>c8 kt (c0.add 4) λk8=>bc kt (c0.add 5) λmX=>bc kt (c0.add 6) λk9=>bc kt (c0.add 7) λEo=>bl W λeV=>H.aM kt eV [af nD,vs j3,vs be,bj hE,bj k8,vs mX,vs k9,vs Eo] λvG=>K (sx (decide (c=ai))) 0 vG) (K (sx (decide (c=ai))) 0 eD)) (bl W λcP=>bc cL (cP.add 7) λdb=>a1 db 0 λcG=>eF cL (cG.add 0) λdD=>bl dD λbV=>aS cL bV λaO=>bc cL (bV.add 1) λeR=>bc cL (bV.add 2) λeD=>c8 cL (bV.add 3) λfh=>c8 cL (bV.add 4) λfG=>bc cL (bV.add 5) λgN=>D7 aO eR eD fh fG gN z cL λhN iA _ iB=>bl W λkf=>bc iB (kf.add 7) λkt=>bd (fZ 211 (vs kt) (some (af 1)) none none) bb iB λ(c0:N)nD=>zl (aA a8) o o o dD 0 hN iA nD λj3 be hE k8 mX k9=>aF (hE<(c0.n:o)) (a1 c0 hE λEo=>eF k9 (aG Eo hE 1) λeV=>bl eV λvG=>aS k9 vG λvH=>bc k9 (vG.add 1) λQD=>bc k9 (vG.add 2) λWJ=>c8 k9 (vG.add 3) λaqb=>c8 k9 (vG.add 4) λaqc=>bc k9 (vG.add 5) λbs=>D7 vH QD WJ aqb aqc bs z k9 λWL bv _ WO=>fl ay (λoG afD=>dx oG (a7 (hE+1)/\j3 eV (hE+1) WL bv afD) (a7 (hE+1)/\j3 be (hE+1) k8 mX afD)) λoG=>aF (WL<k8) (oG ai WO) (aF (WL=k8) (oG (decide (bv<mX)) WO) (oG ao WO))) (y be k9))))))):aeC a0 bY b6 u K:=aQ [] func253 [aO 8188 [(11,.ptr)],aO 262018 [(86,bE)],(4192378,⟨[(14,.ptr),(153,bE)],[(2,[.int .u64,.int .u64])]⟩),aO 536624435 [(184,.bool)]] h
def aFx(a0:bU)(u:H)(K:N->Q)(h:aF (a0=none) (K bp u) (bl a0 λa=>fm u (a.add 3) λb=>bd (rL 125 (dP b)) ep u λ(c:aA a8)d=>fD N bp d λe f g=>w1 aH (aX c) g (λ(i:H)=>rY f i λj k=>K j k) λ(_:ap)(_:ap)(i:H)=>wZ aH (aX c) i λ(j:ap)(k:ap)(l:H)=>sT (aI.int b2) j λ(m:o)=>sT aI.slice k λ(n:N)=>bd (dA 22 1 #[(0,cz #[af m,vs n])]) bb l λ(z:N)p=>bd (dO #[22,22] 22 #[vs f,vs z]) bb p λ(q:N)r=>e q r)):aeD a0 u K:=EG (C:={P:=aH,exp:=[],wrap:=ao,io:=io,oK:=[15],oU:=[13]}) (args:=[(ha a0)]) (od _ _) func254 (by kernel_rfl) [aO 122 [(3,.slice)]] (by kernel_rfl) (by kernel_rfl) (Eq.mp (by kernel_rfl) h)
def aFy(a0:bU)(Y:N)(a2 a3:o)(u:H)(K:N->N->N->o->Q)(h:aF (a0=none) (K bp bp bp 3 u) (bl a0 λa=>aS u a λb=>B5 Y b a2 a3 u λc d=>b4 (c=0) (K bp bp bp c d) (dW d λe=>ty (λf=>bc f (am e) λg=>oa (js (ko 262) #[aX a0] #[]) #[vs g,vs Y,af a2,af a3] [bk.agg [aI.slice,aI.slice,aI.slice]] f λ(i:N)(j:N)(k:N)l=>K i j k 0 l) λf=>bl a0 λg=>eF (d.ins e (bt #[vs bp] 211 (0,0))) (g.add 2) λi=>b4 (i=none) (bl a0 λj=>eF (d.ins e (bt #[vs bp] 211 (0,0))) (j.add 2) λk=>oa (js (ko 261) #[] #[aX (some (am e))]) #[aX k] [] (d.ins e (bt #[vs bp] 211 (0,0))) λl=>f l) (f (d.ins e (bt #[vs bp] 211 (0,0))))))):aeE a0 Y a2 a3 u K:=aQ [11] func255 [aO 63 []] h
def aFt(a0:bU)(Y a2:a8)(u:H)(K:Q)(h:bl a0 λa=>bc u (a.add 6) λb=>P1 b (js (ko 258) #[] #[aX (some Y)]) u λc d=>bl a0 λe=>H.aM d (e.add 6) [vs c] λf=>bl a0 λg=>bc f (g.add 7) λi=>fD o 0 f λj k l=>aF (k<(i.n:o)) (a1 i k λm=>eF l (aG m k 1) λn=>p7 l a2 λz=>oa z #[aX n] [] l λp=>a7 (k+1)/\j (k+1) p) (K l)):aeA a0 Y a2 u K:=oL 1 [] func256 [aO 14 [(20,bE)]] h
def aF6(a0:N)(Y:ap)(u:H)(K:N->Q)(h:P2 a0 Y u λa b=>aF (a=-1) (K a0 b) (a7 (a+1)/\gj o o a (a+1) b λc d e f=>aF (e<(a0.n:o)) (a1 a0 e λg=>aS f (aG g e 2) λi=>bc f ((aG g e 2).add 1) λj=>oa Y #[cz #[af i,vs j]] cH f λ(k:ay)l=>b4 (k=ai) (a1 a0 d λm=>H.aM l (aG m d 2) [af i,vs j] λn=>a7 (d+1)/\a7 (e+1)/\c (d+1) (e+1) n) (a7 (e+1)/\c d (e+1) l)) (bd (fZ 22 (vs a0) (some (af d)) none none) bb f λ(g:N)i=>bd (qc #[22] 0 #[vs g]) [] i λj=>bd (fZ 22 (vs a0) none (some (af d)) none) bb j λ(k:N)l=>K k l))):P1 a0 Y u K:=aQ [] func257 [aO 122 [(5,bE),(6,bE)]] h
def aFu(bg:o)(bo:N)(Y:a8)(u:H)(K:ay->Q)(h:aS u Y λa=>K (decide (bg=a)) u):aoQ bg bo Y u K:=oL 1 [] func258 [] h
def aEH(bg:o)(bo:N)(Y:o)(a2:ay)(a3:o)(u:H)(K:o->Q)(h:qs bo Y u λa b=>fl ay (λc d=>dx c (K 50 d) (b4 (a=0) (K a d) (b4 (a2=ai) (aF ((512:o)<=a3) (K 2 d) (K 0 d)) (K 0 d)))) λc=>aF (bg<1) (c ai b) (c (decide ((1000000000:o)<bg)) b)):D2 bg bo Y a2 a3 u K:=aQ [] func259 [aO 26 [(14,.bool)]] h
def aEF(a0:N)(Y a2 a3:o)(u:H)(K:o->Q)(h:qs a0 Y u λa b=>b4 (a=0) (K a b) (aF (a2<1) (K 1 b) (aF ((64:o)<a2) (K 1 b) (aF (a3<0) (K 1 b) (aF ((1000000:o)<a3) (K 1 b) (K 0 b)))))):B5 a0 Y a2 a3 u K:=aQ [] func260 [] h
def aFz(a0:bU)(Y:a8)(u:H)(K:Q)(h:bc u Y λa=>bd (dA 211 1 #[(0,aX a0)]) bb u λ(b:N)c=>bd (dO #[211,211] 211 #[vs a,vs b]) bb c λ(d:N)e=>H.aM e Y [vs d] λf=>K f):aoR a0 Y u K:=oL 1 [] func261 [] h
def aFC(a0:bU)(Y a2:N)(a3 a4:o)(u:H)(K:N->N->N->Q)(h:D3 Y a2 a3 a4 u λa b c d=>K a b c d):aoT a0 Y a2 a3 a4 u K:=aQ [] func262 [] h
def aF9(a0:N)(Y:ap)(u:H)(K:o->Q)(h:gj o o 0 0 u λa b c d=>aF (c<(a0.n:o)) (a1 a0 c λe=>aS d (aG e c 2) λf=>bc d ((aG e c 2).add 1) λg=>oa Y #[cz #[af f,vs g]] cH d λ(i:ay)j=>dx i (K c j) (a7 (c+1)/\a b (c+1) j)) (K (-1) d)):P2 a0 Y u K:=aQ [] func263 [aO 26 [(4,bE),(8,bE)]] h
def aEN(a0 Y:N)(a2 a3:o)(u:H)(K:N->N->N->Q)(h:dW u λa=>D6 a2 (u.ins a (bt #[vs Y] 30 (0,0))) λb _ c=>dW c λd=>H.aM (c.ins d (bt #[aX none] 90 (0,0))) (am d) [aX b] λe=>dW e λf=>fD o 0 (e.ins f (bt #[vs bp] 331 (0,0))) λg i j=>aF (i<(a0.n:o)) (a1 a0 i λk=>eF j (aG k i 1) λl=>oa (js (ko 265) #[] #[aX (some (am a)),aX (some (am f))]) #[aX l] [] j λm=>a7 (i+1)/\g (i+1) m) (aa4 N N N (λk l m n=>bc n (am f) λz=>zl o N N N 0 k l m n λp q r s t v=>aF (q<(z.n:o)) (a1 z q λw=>eF v (aG w q 3) λx=>c8 v ((aG w q 3).add 1) λ_=>c8 v ((aG w q 3).add 2) λ_=>PI x v λy W=>aF ((0:o)<(y.n:o)) (bl x λbW=>aS W bW λb0=>bc W (bW.add 1) λcr=>bc W (bW.add 2) λcL=>c8 W (bW.add 3) λcc=>c8 W (bW.add 4) λcM=>bc W (bW.add 5) λcP=>PL b0 cr cL cc cM cP y W λdb cG dD bV aO eR eD=>H.le W eD/\bd (dA 39 1 #[(0,cz #[af db,vs cG,vs dD,bj bV,bj aO,vs eR])]) bb eD λ(fh:N)fG=>H.le W fG/\bd (dO #[39,39] 39 #[vs t,vs fh]) bb fG λ(gN:N)hN=>a7 (q+1)/\p (q+1) r s gN hN) (a7 (q+1)/\p (q+1) r s t W)) (B7 s v λw=>eF w (am d) λx=>B9 x w λy W=>K y s t W)) λk=>wj N N N bp bp bp j λl m n z p=>ty (λq=>D4 (mj 332 (aX (some (am f)))) q λr s=>bd (so r 20 334 ao) [bk.agg [aI.ptr,aI.int bu,aI.int bu]] s λ(t:aA a8)(_:o)(_:o)v=>bl t λw=>bc v (w.add 7) λx=>fD o 0 v λy W bW=>aF (W<(x.n:o)) (a1 x W λb0=>eF bW (aG b0 W 1) λcr=>oa (js (ko 265) #[] #[aX (some (am a)),aX (some (am f))]) #[aX cr] [] bW λcL=>a7 (W+1)/\y (W+1) cL) (bl t λb0=>bc bW (b0.add 6) λcr=>zl o N N N 0 m n z bW λcL cc cM cP db cG=>aF (cc<(cr.n:o)) (a1 cr cc λdD=>aS cG (aG dD cc 2) λbV=>bc cG ((aG dD cc 2).add 1) λaO=>aF ((cP.n:o)=a3) (bl t λeR=>bl t λeD=>aS cG eR λfh=>bc cG (eR.add 1) λfG=>bc cG (eR.add 2) λgN=>c8 cG (eR.add 3) λhN=>c8 cG (eR.add 4) λiA=>bc cG (eR.add 5) λiB=>bc cG (eD.add 6) λkf=>bd (fZ 22 (vs kf) (some (af cc)) none none) bb cG λ(kt:N)c0=>H.le cG c0/\PL fh fG gN hN iA iB kt c0 λnD j3 be hE k8 mX k9=>H.le cG k9/\bd (dA 39 1 #[(0,cz #[af nD,vs j3,vs be,bj hE,bj k8,vs mX])]) bb k9 λ(Eo:N)eV=>H.le cG eV/\bd (dO #[39,39] 39 #[vs db,vs Eo]) bb eV λ(vG:N)vH=>l cM cP vG vH) (bc cG (am a) λeR=>rZ aO eR cG λeD fh _ fG=>eF fG (am d) λgN=>Ad gN bV eD fh fG λ_ hN=>bd (dA 30 1 #[(0,af bV)]) bb hN λ(iA:N)iB=>bd (dO #[30,30] 30 #[vs cP,vs iA]) bb iB λ(kf:N)kt=>a7 (cc+1)/\cL (cc+1) cM kf db kt)) (l cM cP db cG))) λq=>bc p (am f) λr=>aep r p λs t=>aF ((0:o)<s) (aF ((n.n:o)<a3) (bc t (am f) λv=>a1 v 0 λw=>c8 t ((w.add 0).add 1) λx=>c8 t (((w.add 0).add 1).add 1) λy=>oa (js (ko 266) #[] #[aX (some (am d))]) #[cz #[bj x,bj y]] cH t λ(W:ay)bW=>b4 (W=ai) (q bW) (k m n z bW)) (k m n z t)) (k m n z t))):D3 a0 Y a2 a3 u K:=aQ [5,10,12] func264 [aO 506 [(35,bE)],(255,⟨[],[(1,[.slice,.slice,.slice])]⟩),(4090,⟨[(134,bE)],[(1,[.slice,.slice,.slice])]⟩),(1020,⟨[],[(1,[.slice,.slice,.slice])]⟩),aO 2040 [],aO 130602 [(72,bE)],(130606,⟨[(85,bE)],[(1,[.slice,.slice,.slice])]⟩)] h
def aEO(a0:bU)(Y a2:a8)(u:H)(K:Q)(h:bl a0 λa=>aS u a λb=>bc u (a.add 1) λc=>bc u (a.add 2) λd=>c8 u (a.add 3) λe=>c8 u (a.add 4) λf=>bc u (a.add 5) λg=>bc u Y λi=>(D7 b c d e f g i u λj k _ l=>H.le u l/\Ab (mj 332 (aX (some a2))) (mj 334 (cz #[aX a0,bj j,bj k])) l λm=>K m)/\H.le u u/\D7 b c d e f g i u λj k _ l=>Ab (mj 332 (aX (some a2))) (mj 334 (cz #[aX a0,bj j,bj k])) l λm=>K m):Ve a0 Y a2 u K:=oL 1 [] func265 [] h
def aEP(bg bo:o)(Y:a8)(u:H)(K:ay->Q)(h:eF u Y λa=>aeO a u λ_ b c _ d=>eF d Y λe=>We e d λf g=>dx f (vz bg bo b c g λi j=>K (decide ((0:o)<i)) j) (K ao g)):Vf bg bo Y u K:=oL 1 [] func266 [] h
def aHh(a0:bU)(u:H)(K:o->o->o->ay->Q)(h:Wf a0 u λa b=>aF (a=0) (K 0 0 0 ao b) (bl a0 λc=>bc b (c.add 1) λd=>a1 d 0 λe=>aS b (e.add 0) λf=>c8 b ((e.add 0).add 1) λg=>c8 b ((e.add 0).add 2) λi=>K f g i ai b)):aeO a0 u K:=aQ [] func267 [] h
def aoa(a0:N)(u:H)(K:o->Q)(h:K (a0.n:o) u):aep a0 u K:=aQ [] func268 [] h
def aEX(bg:o)(bo ca:N)(dc ew:o)(eU Y:N)(u:H)(K:o->N->N->o->o->N->Q)(h:o3 bo u λa b=>H.le u b/\o3 ca b λc d=>ayq o o N N o o N 0 bg a c dc ew bp d λe f g i j k l m n=>aF (f<(Y.n:o)) (a1 Y f λz=>aS n (aG z f 2) λp=>bc n ((aG z f 2).add 1) λ_=>bd (dA 30 1 #[(0,af p)]) bb n λ(q:N)r=>bd (dO #[30,30] 30 #[vs m,vs q]) bb r λ(s:N)t=>a7 (f+1)/\e (f+1) g i j k l s t) (B7 m n λz=>K g i j k l m z)):PL bg bo ca dc ew eU Y u K:=aQ [] func269 [(58,⟨[(18,bE)],[(0,[.int .i64,.slice,.slice,.int .u64,.int .u64,.slice])]⟩)] h
def aEK(a0:bU)(u:H)(K:N->Q)(h:bl a0 λa=>bc u (a.add 6) λb=>n4 b u λc d=>bl a0 λe=>bc d (e.add 7) λf=>gj N o c 0 d λg i j k=>aF (j<(f.n:o)) (a1 f j λl=>eF k (aG l j 1) λm=>PI m k λn z=>bd (dO #[22,22] 22 #[vs i,vs n]) bb z λ(p:N)q=>a7 (j+1)/\g p (j+1) q) (K i k)):PI a0 u K:=aQ [] func270 [aO 58 [(3,.slice),(16,bE)]] h
def aHB(a0:bU)(Y:o)(u:H)(K:ay->o->Q)(h:dW u λa=>aF (a0=none) (K ao 3 (u.ins a (bt #[af Y] 3 (0,0)))) (bl a0 λb=>fm (u.ins a (bt #[af Y] 3 (0,0))) (b.add 4) λc=>aS (u.ins a (bt #[af Y] 3 (0,0))) (am a) λd=>bd (gY 125 (dP c) (af d) ai) [bk.one aI.slice,bk.one aI.bool] (u.ins a (bt #[af Y] 3 (0,0))) λ(_:N)(e:ay)f=>b4 (e=ai) (K ao 0 f) (bl a0 λg=>fm f (g.add 4) λi=>aS f (am a) λj=>bd (tN #[125,3] 0 #[dP i,af j]) [] f λk=>dW k λl=>H.aM (k.ins l (bt #[JH] 324 (0,0))) (am l) [js (ko 276) #[] #[aX (some (am a)),aX (some (am l))]] λm=>bl a0 λn=>p7 m (am l) λz=>eF m (n.add 3) λp=>h6 aH z #[aX p] [] m λ(q:H)=>K ai 0 q))):Qg a0 Y u K:=aQ [3,8] func271 [] h
def aHE(a0:bU)(u:H)(K:o->Q)(h:aF (a0=none) (K 0 u) (bl a0 λa=>fm u (a.add 4) λb=>bd (rM #[125] 3 #[dP b]) cv u λ(c:o)d=>K c d)):aeS a0 u K:=aQ [] func272 [] h
def aHF(a0:bU)(bY:o)(b6:N)(u:H)(K:ay->o->Q)(h:aF (a0=none) (K ao 3 u) (bl a0 λa=>fm u (a.add 4) λb=>bd (gY 125 (dP b) (af bY) ai) [bk.one aI.slice,bk.one aI.bool] u λ(_:N)(c:ay)d=>bl a0 λe=>bl a0 λf=>aS d e λg=>fm d (f.add 4) λi=>bd (rM #[125] 3 #[dP i]) cv d λ(j:o)k=>H.le d k/\D2 bY b6 g c j k λl m=>b4 (l=0) (K ao l m) (Qg a0 bY m λ_ _ n=>fl a8 (λz p=>bl a0 λq=>fm p (q.add 4) λr=>aS p z λs=>bc p (z.add 1) λt=>bd (unit (kW 125 (dP r) (af s) (vs t))) [] p λv=>bl a0 λw=>eF v (w.add 3) λx=>aF (x=none) (aS v z λy=>bc v (z.add 1) λW=>bd (dA 22 1 #[(0,cz #[af y,vs W])]) bb v λ(bW:N)b0=>Ho a0 bW b0 λcr cL=>bl a0 λcc=>H.aM cL (cc.add 3) [aX cr] λcM=>K (sx (decide (c=ai))) 0 cM) (bl a0 λy=>eF v (y.add 3) λW=>fD (aA a8) W v λbW b0 cr=>bc cr (z.add 1) λcL=>Wk b0 cL cr λ_ _ cc=>bl b0 λcM=>bc cc (cM.add 7) λcP=>aF ((cP.n:o)=0) (bl b0 λdb=>bc cc (db.add 6) λcG=>aS cc z λdD=>bc cc (z.add 1) λbV=>bd (dA 22 1 #[(0,cz #[af dD,vs bV])]) bb cc λ(aO:N)eR=>H.le cc eR/\bd (dO #[22,22] 22 #[vs cG,vs aO]) bb eR λ(eD:N)fh=>bl b0 λfG=>H.aM fh (fG.add 6) [vs eD] λgN=>bl b0 λhN=>bl a0 λiA=>bc gN (hN.add 6) λiB=>aS gN (iA.add 1) λkf=>aF (kf<(iB.n:o)) (bl b0 λkt=>bc gN (kt.add 6) λc0=>Ho a0 c0 gN λnD j3=>bl nD λbe=>aS j3 be λhE=>bc j3 (be.add 1) λk8=>bc j3 (be.add 2) λmX=>c8 j3 (be.add 3) λk9=>c8 j3 (be.add 4) λEo=>bc j3 (be.add 5) λeV=>bc j3 (be.add 6) λvG=>bc j3 (be.add 7) λvH=>bl b0 λQD=>H.aM j3 QD [af hE,vs k8,vs mX,bj k9,bj Eo,vs eV,vs vG,vs vH] λWJ=>K (sx (decide (c=ai))) 0 WJ) (K (sx (decide (c=ai))) 0 gN)) (fl a8 (λdb cG=>fl a8 (λdD bV=>c8 bV db λaO=>c8 bV (db.add 1) λeR=>c8 bV dD λeD=>c8 bV (dD.add 1) λfh=>vz aO eR eD fh bV λfG gN=>aF (fG<=0) (bl b0 λhN=>bc gN (hN.add 7) λiA=>a1 iA 0 λiB=>eF gN (iB.add 0) λkf=>bW kf gN) (bl b0 λhN=>bc gN (hN.add 7) λiA=>a1 iA 1 λiB=>eF gN (iB.add 1) λkf=>bW kf gN)) λdD=>bl b0 λbV=>bc cG (bV.add 7) λaO=>a1 aO 1 λeR=>eF cG (eR.add 1) λeD=>bl eD λfh=>bc cG (fh.add 1) λfG=>bc cG (z.add 1) λgN=>(rZ fG gN cG λhN iA _ iB=>dW iB λkf=>H.le cG (iB.ins kf (bt #[bj 0,bj 0] 66 (0,0)))/\H.aM (iB.ins kf (bt #[bj 0,bj 0] 66 (0,0))) (am kf) [bj hN,bj iA] λkt=>dD (am kf) kt)/\dW cG λhN=>H.le cG (cG.ins hN (bt #[bj 0,bj 0] 66 (0,0)))/\rZ fG gN (cG.ins hN (bt #[bj 0,bj 0] 66 (0,0))) λiA iB _ kf=>H.aM kf (am hN) [bj iA,bj iB] λkt=>dD (am hN) kt) λdb=>bl b0 λcG=>bc cc (cG.add 7) λdD=>a1 dD 0 λbV=>eF cc (bV.add 0) λaO=>bl aO λeR=>bc cc (eR.add 1) λeD=>bc cc (z.add 1) λfh=>(rZ eD fh cc λfG gN _ hN=>dW hN λiA=>H.le cc (hN.ins iA (bt #[bj 0,bj 0] 66 (0,0)))/\H.aM (hN.ins iA (bt #[bj 0,bj 0] 66 (0,0))) (am iA) [bj fG,bj gN] λiB=>db (am iA) iB)/\dW cc λfG=>H.le cc (cc.ins fG (bt #[bj 0,bj 0] 66 (0,0)))/\rZ eD fh (cc.ins fG (bt #[bj 0,bj 0] 66 (0,0))) λgN hN _ iA=>H.aM iA (am fG) [bj gN,bj hN] λiB=>db (am fG) iB))) λz=>(o3 b6 n λp q=>H.le n q/\dW q λr=>H.le n (q.ins r (bt #[af 0,vs bp] 52 (0,0)))/\H.aM (q.ins r (bt #[af 0,vs bp] 52 (0,0))) (am r) [af bY,vs p] λs=>z (am r) s)/\dW n λp=>H.le n (n.ins p (bt #[af 0,vs bp] 52 (0,0)))/\o3 b6 (n.ins p (bt #[af 0,vs bp] 52 (0,0))) λq r=>H.le n r/\H.aM r (am p) [af bY,vs q] λs=>z (am p) s))):aeT a0 bY b6 u K:=aQ [9,11,13] func273 [aO 111 [(9,.addr)],aO 14332 [(10,.ptr)],aO 229315 [(11,.addr)],aO 458631 [(13,.addr)]] h
def aHG(a0:bU)(u:H)(K:N->Q)(h:aF (a0=none) (K bp u) (bl a0 λa=>fm u (a.add 4) λb=>bd (rL 125 (dP b)) ep u λ(c:aA a8)d=>fD N bp d λe f g=>w1 aH (aX c) g (λ(i:H)=>rY f i λj k=>K j k) λ(_:ap)(_:ap)(i:H)=>wZ aH (aX c) i λ(j:ap)(k:ap)(l:H)=>sT (aI.int b2) j λ(m:o)=>sT aI.slice k λ(n:N)=>bd (dA 22 1 #[(0,cz #[af m,vs n])]) bb l λ(z:N)p=>bd (dO #[22,22] 22 #[vs f,vs z]) bb p λ(q:N)r=>e q r)):aeU a0 u K:=EG (C:={P:=aH,exp:=[],wrap:=ao,io:=io,oK:=[15],oU:=[13]}) (args:=[(ha a0)]) (od _ _) func274 (by kernel_rfl) [aO 122 [(3,.slice)]] (by kernel_rfl) (by kernel_rfl) (Eq.mp (by kernel_rfl) h)
def aHH(a0:bU)(Y:N)(a2 a3:o)(u:H)(K:N->N->N->o->Q)(h:aF (a0=none) (K bp bp bp 3 u) (bl a0 λa=>aS u a λb=>B5 Y b a2 a3 u λc d=>b4 (c=0) (K bp bp bp c d) (bl a0 λe=>eF d (e.add 3) λf=>aF (f=none) (D3 bp Y a2 a3 d λg i j k=>K g i j 0 k) (bl a0 λg=>eF d (g.add 3) λi=>bd (dA 211 1 #[(0,aX i)]) bb d λ(j:N)k=>D3 j Y a2 a3 k λl m n z=>K l m n 0 z)))):aeV a0 Y a2 a3 u K:=aQ [] func275 [] h
def aHC(a0:bU)(Y a2:a8)(u:H)(K:Q)(h:bl a0 λa=>bc u (a.add 6) λb=>P1 b (js (ko 277) #[] #[aX (some Y)]) u λc d=>bl a0 λe=>H.aM d (e.add 6) [vs c] λf=>bl a0 λg=>bc f (g.add 7) λi=>fD o 0 f λj k l=>aF (k<(i.n:o)) (a1 i k λm=>eF l (aG m k 1) λn=>p7 l a2 λz=>oa z #[aX n] [] l λp=>a7 (k+1)/\j (k+1) p) (K l)):aeR a0 Y a2 u K:=oL 1 [] func276 [aO 14 [(20,bE)]] h
def aHD(bg:o)(bo:N)(Y:a8)(u:H)(K:ay->Q)(h:aS u Y λa=>K (decide (bg=a)) u):ao0 bg bo Y u K:=oL 1 [] func277 [] h
def aHL(a0:bU)(Y:N)(u:H)(K:o->o->Q)(h:bl a0 λa=>bc u (a.add 1) λb=>rZ b Y u λc d _ e=>bl a0 λf=>c8 e (f.add 3) λg=>c8 e ((f.add 3).add 1) λi=>vz c d g i e λj k=>aF ((0:o)<j) (bl a0 λl=>H.aM k (l.add 3) [bj c,bj d] λm=>K c d m) (K c d k)):Wk a0 Y u K:=aQ [] func278 [] h
def aFk(a0:bU)(Y:o)(u:H)(K:ay->o->Q)(h:dW u λa=>aF (a0=none) (K ao 3 (u.ins a (bt #[af Y] 3 (0,0)))) (bl a0 λb=>fm (u.ins a (bt #[af Y] 3 (0,0))) (b.add 3) λc=>aS (u.ins a (bt #[af Y] 3 (0,0))) (am a) λd=>bd (gY 175 (dP c) (af d) ai) [bk.one (aI.int b2),bk.one aI.bool] (u.ins a (bt #[af Y] 3 (0,0))) λ(e:o)(f:ay)g=>b4 (f=ai) (K ao 0 g) (bl a0 λi=>fm g (i.add 3) λj=>aS g (am a) λk=>bd (tN #[175,3] 0 #[dP j,af k]) [] g λl=>bl a0 λm=>bc l (m.add 2) λn=>a1 n e λz=>bc l (aG z e 1) λp=>P2 p (js (ko 284) #[] #[aX (some (am a))]) l λq r=>bl a0 λs=>a7 (q+1)/\bc r (s.add 2) λt=>(bd (fZ 22 (vs p) none (some (af q)) (some (af q))) bb r λ(v:N)w=>H.le r w/\bd (fZ 22 (vs p) (some (af (q+1))) none none) bb w λ(x:N)y=>H.le r y/\bd (dO #[22,22] 22 #[vs v,vs x]) bb y λ(W:N)bW=>H.le r bW/\a1 t e λb0=>H.aM bW (aG b0 e 1) [vs W] λcr=>K ai 0 cr)/\bd (fZ 22 (vs p) (some (af (q+1))) none none) bb r λ(v:N)w=>H.le r w/\bd (fZ 22 (vs p) none (some (af q)) (some (af q))) bb w λ(x:N)y=>H.le r y/\bd (dO #[22,22] 22 #[vs x,vs v]) bb y λ(W:N)bW=>H.le r bW/\a1 t e λb0=>H.aM bW (aG b0 e 1) [vs W] λcr=>K ai 0 cr))):Vm a0 Y u K:=aQ [3] func279 [] h
def aFm(a0:bU)(u:H)(K:o->Q)(h:aF (a0=none) (K 0 u) (bl a0 λa=>fm u (a.add 3) λb=>bd (rM #[175] 3 #[dP b]) cv u λ(c:o)d=>K c d)):aew a0 u K:=aQ [] func280 [] h
def aFn(a0:bU)(bY:o)(b6:N)(u:H)(K:ay->o->Q)(h:aF (a0=none) (K ao 3 u) (bl a0 λa=>fm u (a.add 3) λb=>bd (gY 175 (dP b) (af bY) ai) [bk.one (aI.int b2),bk.one aI.bool] u λ(_:o)(c:ay)d=>bl a0 λe=>bl a0 λf=>aS d e λg=>fm d (f.add 3) λi=>bd (rM #[175] 3 #[dP i]) cv d λ(j:o)k=>H.le d k/\D2 bY b6 g c j k λl m=>b4 (l=0) (K ao l m) (Vm a0 bY m λ_ _ n=>o3 b6 n λz p=>H.le n p/\Ky a0 bY z p λq=>K (sx (decide (c=ai))) 0 q))):aex a0 bY b6 u K:=aQ [] func281 [] h
def aFo(a0:bU)(u:H)(K:N->Q)(h:aF (a0=none) (K bp u) (bl a0 λa=>bc u (a.add 2) λb=>VA b u λc d=>rY c d λe f=>K e f)):aey a0 u K:=aQ [] func282 [] h
def aFp(a0:bU)(Y:N)(a2 a3:o)(u:H)(K:N->N->N->o->Q)(h:aF (a0=none) (K bp bp bp 3 u) (bl a0 λa=>aS u a λb=>B5 Y b a2 a3 u λc d=>b4 (c=0) (K bp bp bp c d) (bl a0 λe=>bc d (e.add 2) λf=>gj N o bp 0 d λg i j k=>aF (j<(f.n:o)) (a1 f j λl=>bc k (aG l j 1) λm=>bl a0 λn=>bc k (n.add 1) λz=>a1 z j λp=>bc k (aG p j 1) λq=>Qc q m k λr s t v w _ _ x=>dW x λy=>bd (dA 211 1 #[(0,aX (some (am y)))]) bb (x.ins y (bt #[af r,vs s,vs t,bj v,bj w,vs bp,vs m,vs bp] 213 (0,0))) λ(W:N)bW=>bd (dO #[211,211] 211 #[vs i,vs W]) bb bW λ(b0:N)cr=>a7 (j+1)/\g b0 (j+1) cr) (D3 i Y a2 a3 k λl m n z=>K l m n 0 z)))):aez a0 Y a2 a3 u K:=aQ [58] func283 [aO 250 [(11,.slice),(36,bE)]] h
def aFl(bg:o)(bo:N)(Y:a8)(u:H)(K:ay->Q)(h:aS u Y λa=>K (decide (bg=a)) u):aoP bg bo Y u K:=oL 1 [] func284 [] h
def aF3(a0:N)(u:H)(K:N->Q)(h:gj o o 0 0 u λa b c d=>aF (c<(a0.n:o)) (a1 a0 c λe=>bc d (aG e c 1) λf=>a7 (b+(f.n:o))/\aF (b+(f.n:o)<0) eg (a7 (c+1)/\a (b+(f.n:o)) (c+1) d)) (VD bp b d λe f=>gj N o e 0 f λg i j k=>aF (j<(a0.n:o)) (a1 a0 j λl=>bc k (aG l j 1) λm=>bd (dO #[22,22] 22 #[vs i,vs m]) bb k λ(n:N)z=>a7 (j+1)/\g n (j+1) z) (K i k))):VA a0 u K:=aQ [] func285 [aO 58 [(3,bE),(11,bE)],aO 250 [(6,.slice),(27,bE)]] h
def aF7(a0:N)(Y:o)(u:H)(K:N->Q)(h:ty (λa=>a7 ((a0.c:o)-(a0.n:o))/\a7 (Y-((a0.c:o)-(a0.n:o)))/\aF ((0:o)<Y-((a0.c:o)-(a0.n:o))) (bd (fZ 22 (vs a0) none (some (af (a0.c:o))) none) bb a λ(b:N)c=>bd (dO #[22,3] 22 #[vs b,af (Y-((a0.c:o)-(a0.n:o)))]) bb c λ(d:N)e=>bd (fZ 22 (vs d) none (some (af (a0.n:o))) none) bb e λ(f:N)g=>K f g) (K a0 a)) λa=>aF (Y<0) eg (a u)):VD a0 Y u K:=aQ [] func286 [aO 3 []] h
def aE0(a0:bU)(Y:o)(u:H)(K:ay->o->Q)(h:dW u λa=>aF (a0=none) (K ao 3 (u.ins a (bt #[af Y] 3 (0,0)))) (bl a0 λb=>fm (u.ins a (bt #[af Y] 3 (0,0))) (b.add 3) λc=>aS (u.ins a (bt #[af Y] 3 (0,0))) (am a) λd=>bd (gY 182 (dP c) (af d) ai) [bk.one aI.ptr,bk.one aI.bool] (u.ins a (bt #[af Y] 3 (0,0))) λ(e:aA a8)(f:ay)g=>b4 (f=ai) (K ao 0 g) (bl a0 λi=>fm g (i.add 3) λj=>aS g (am a) λk=>bd (tN #[182,3] 0 #[dP j,af k]) [] g λl=>bl a0 λm=>fm l (m.add 3) λn=>bd (rL 182 (dP n)) ep l λ(z:aA a8)p=>NO p λq r=>w1 aH (aX z) r (λ(s:H)=>fD o 0 s λt v w=>aF (v<31) (bl e λx=>2<=31/\((0:o)<=v/\v<(31:o))/\bc w (aG (x.add 1) v 1) λy=>fD o 1 w λW bW b0=>aF (bW<(y.n:o)) (fl ay (λcr cL=>dx cr (a7 (bW-1)/\a1 y (bW-1) λcc=>a1 y bW λcM=>aS cL (aG cc (bW-1) 1) λcP=>aS cL (aG cM bW 1) λdb=>PQ a0 cP db v cL λcG=>a7 (bW+1)/\W (bW+1) cG) (a7 (bW+1)/\W (bW+1) cL)) λcr=>a7 (bW-1)/\a1 y (bW-1) λcL=>aS b0 (aG cL (bW-1) 1) λcc=>aS b0 (am a) λcM=>b4 (cc=cM) (a1 y bW λcP=>aS b0 (aG cP bW 1) λdb=>aS b0 (am a) λcG=>b4 (db=cG) (bl a0 λdD=>a7 (bW-1)/\a1 y (bW-1) λbV=>a1 y bW λaO=>fm b0 (dD.add 3) λeR=>aS b0 (aG bV (bW-1) 1) λeD=>aS b0 (aG aO bW 1) λfh=>bd (gY 182 (dP eR) (af eD) ao) ep b0 λ(fG:aA a8)gN=>H.le b0 gN/\bl fG λhN=>2<=31/\((0:o)<=v/\v<(31:o))/\bc gN (aG (hN.add 1) v 1) λiA=>H.le b0 gN/\VB iA fh gN λiB kf=>cr (sx (decide (iB=ai))) kf) (H.le b0 b0/\H.le b0 b0/\cr ao b0)) (H.le b0 b0/\H.le b0 b0/\cr ao b0)) (a7 (v+1)/\t (v+1) b0)) (bl a0 λx=>aS w (x.add 4) λy=>aS w (am a) λW=>aF (y=W) (bl a0 λbW=>H.aM w (bW.add 4) [af 0] λb0=>bl a0 λcr=>fm b0 (cr.add 3) λcL=>PX cL b0 λcc cM=>vy cc cM λcP db=>fD o 0 db λcG dD bV=>aF (dD<(cP.n:o)) (a1 cP dD λaO=>aS bV (aG aO dD 1) λeR=>fl ay (λeD fh=>dx eD (bl a0 λfG=>H.aM fh (fG.add 4) [af eR] λgN=>a7 (dD+1)/\cG (dD+1) gN) (a7 (dD+1)/\cG (dD+1) fh)) λeD=>bl a0 λfh=>aS bV (fh.add 4) λfG=>aF (fG=0) ((H.le bV bV/\(H.le bV bV/\H.le bV bV/\H.le bV bV/\eD ai bV)/\H.le bV bV/\(H.le bV bV/\H.le bV bV/\eD ai bV)/\H.le bV bV/\H.le bV bV/\eD ai bV)/\H.le bV bV/\(H.le bV bV/\(H.le bV bV/\H.le bV bV/\eD ai bV)/\H.le bV bV/\H.le bV bV/\eD ai bV)/\H.le bV bV/\H.le bV bV/\H.le bV bV/\eD ai bV) (bl a0 λgN=>bl a0 λhN=>bl a0 λiA=>fm bV (gN.add 3) λiB=>fm bV (hN.add 3) λkf=>aS bV (iA.add 4) λkt=>(bd (gY 182 (dP iB) (af eR) ao) ep bV λ(c0:aA a8)nD=>H.le bV nD/\bl c0 λj3=>(aS nD (j3.add 32) λbe=>H.le bV nD/\bd (gY 182 (dP kf) (af kt) ao) ep nD λ(hE:aA a8)k8=>H.le bV k8/\bl hE λmX=>aS k8 (mX.add 32) λk9=>H.le bV k8/\eD (decide (k9<be)) k8)/\bd (gY 182 (dP kf) (af kt) ao) ep nD λ(be:aA a8)hE=>H.le bV hE/\bl be λk8=>(aS hE (j3.add 32) λmX=>H.le bV hE/\aS hE (k8.add 32) λk9=>H.le bV hE/\eD (decide (k9<mX)) hE)/\aS hE (k8.add 32) λmX=>H.le bV hE/\aS hE (j3.add 32) λk9=>H.le bV hE/\eD (decide (mX<k9)) hE)/\bd (gY 182 (dP kf) (af kt) ao) ep bV λ(c0:aA a8)nD=>H.le bV nD/\bl c0 λj3=>(bd (gY 182 (dP iB) (af eR) ao) ep nD λ(be:aA a8)hE=>H.le bV hE/\bl be λk8=>(aS hE (k8.add 32) λmX=>H.le bV hE/\aS hE (j3.add 32) λk9=>H.le bV hE/\eD (decide (k9<mX)) hE)/\aS hE (j3.add 32) λmX=>H.le bV hE/\aS hE (k8.add 32) λk9=>H.le bV hE/\eD (decide (mX<k9)) hE)/\aS nD (j3.add 32) λbe=>H.le bV nD/\bd (gY 182 (dP iB) (af eR) ao) ep nD λ(hE:aA a8)k8=>H.le bV k8/\bl hE λmX=>aS k8 (mX.add 32) λk9=>H.le bV k8/\eD (decide (be<k9)) k8)) (K ai 0 bV)) (K ai 0 w))) λ(_:ap)(_:ap)(s:H)=>wZ aH (aX z) s λ(_:ap)(t:ap)(v:H)=>sT aI.ptr t λ(w:aA a8)=>fD o 0 v λx y W=>aF (y<31) (bl w λbW=>2<=31/\((0:o)<=y/\y<(31:o))/\bl w λb0=>bc W (aG (bW.add 1) y 1) λcr=>VC cr (js (ko 293) #[] #[aX (some (am a))]) W λcL cc=>2<=31/\((0:o)<=y/\y<(31:o))/\H.aM cc (aG (b0.add 1) y 1) [vs cL] λcM=>a7 (y+1)/\x (y+1) cM) (q W)))):PN a0 Y u K:=EG (C:={P:=aH,exp:=[3],wrap:=ao,io:=io,oK:=[41],oU:=[39]}) (args:=[(ha a0),(cN b2 Y)]) (od _ _) func287 (by kernel_rfl) [aO 506 [],aO 1018 [(60,bE)],aO 521422 [(13,bE)],aO 8342756 [(112,.bool)],aO 16342 [(142,bE)],aO 1045913 [(174,.bool)],aO 64822 [(43,bE)]] (by kernel_rfl) (by kernel_rfl) (Eq.mp (by kernel_rfl) h)
def aE2(a0:bU)(u:H)(K:o->Q)(h:aF (a0=none) (K 0 u) (bl a0 λa=>fm u (a.add 3) λb=>bd (rM #[182] 3 #[dP b]) cv u λ(c:o)d=>K c d)):Vh a0 u K:=aQ [] func288 [] h
def aof(a0:bU)(bY:o)(b6:N)(u:H)(K:ay->o->Q)(h:aF (a0=none) (K ao 3 u) (bl a0 λa=>fm u (a.add 3) λb=>bd (gY 182 (dP b) (af bY) ai) [bk.one aI.ptr,bk.one aI.bool] u λ(_:aA a8)(c:ay)d=>bl a0 λe=>bl a0 λf=>aS d e λg=>fm d (f.add 3) λi=>bd (rM #[182] 3 #[dP i]) cv d λ(j:o)k=>H.le d k/\D2 bY b6 g c j k λl m=>b4 (l=0) (K ao l m) (PN a0 bY m λ_ _ n=>o3 b6 n λz p=>H.le n p/\Hf a0 bY z p λq=>K (sx (decide (c=ai))) 0 q))):PO a0 bY b6 u K:=aQ [] func289 [] h
def aE3(a0:bU)(u:H)(K:N->Q)(h:aF (a0=none) (K bp u) (bl a0 λa=>fm u (a.add 3) λb=>bd (rL 182 (dP b)) ep u λ(c:aA a8)d=>fD N bp d λe f g=>w1 aH (aX c) g (λ(i:H)=>rY f i λj k=>K j k) λ(_:ap)(_:ap)(i:H)=>wZ aH (aX c) i λ(j:ap)(k:ap)(l:H)=>sT (aI.int b2) j λ(m:o)=>sT aI.ptr k λ(n:aA a8)=>bl n λz=>bc l z λp=>bd (dA 22 1 #[(0,cz #[af m,vs p])]) bb l λ(q:N)r=>bd (dO #[22,22] 22 #[vs f,vs q]) bb r λ(s:N)t=>e s t)):Vi a0 u K:=EG (C:={P:=aH,exp:=[],wrap:=ao,io:=io,oK:=[15],oU:=[13]}) (args:=[(ha a0)]) (od _ _) func290 (by kernel_rfl) [aO 122 [(3,.slice)]] (by kernel_rfl) (by kernel_rfl) (Eq.mp (by kernel_rfl) h)
def aE4(a0:bU)(Y:N)(a2 a3:o)(u:H)(K:N->N->N->o->Q)(h:dW u λa=>aF (a0=none) (K bp bp bp 3 (u.ins a (bt #[af a3] 3 (0,0)))) (bl a0 λb=>aS (u.ins a (bt #[af a3] 3 (0,0))) b λc=>aS (u.ins a (bt #[af a3] 3 (0,0))) (am a) λd=>B5 Y c a2 d (u.ins a (bt #[af a3] 3 (0,0))) λe f=>b4 (e=0) (K bp bp bp e f) (D6 a2 f λg _ i=>dW i λj=>H.aM (i.ins j (bt #[aX none] 90 (0,0))) (am j) [aX g] λk=>bd (pr 166 none) [bk.one aI.map] k λ(l:aA O)m=>dW m λn=>H.aM (m.ins n (bt #[dP none] 166 (0,0))) (am n) [dP l] λz=>ty (λp=>bl a0 λq=>fm p (q.add 3) λr=>PX r p λs t=>vy s t λv w=>gj N o bp 0 w λx y W bW=>aF (W<(v.n:o)) (a1 v W λb0=>aS bW (aG b0 W 1) λcr=>fm bW (am n) λcL=>bd (gY 166 (dP cL) (af cr) ao) cH bW λ(cc:ay)cM=>b4 (cc=ai) (yq a0 cr Y cM λcP db cG dD=>oa (js (ko 297) #[] #[aX (some (am n)),aX (some (am a)),aX (some (am j))]) #[cz #[af cP,bj db,bj cG]] cH dD λ(bV:ay)aO=>b4 (bV=ai) (bd (dA 30 1 #[(0,af cr)]) bb aO λ(eR:N)eD=>bd (dO #[30,30] 30 #[vs y,vs eR]) bb eD λ(fh:N)fG=>a7 (W+1)/\x fh (W+1) fG) (a7 (W+1)/\x y (W+1) aO)) (a7 (W+1)/\x y (W+1) cM)) (fl a8 (λb0 cr=>aF ((0:o)<(y.n:o)) (bd (dA 39 1 #[(0,cz #[af 1,vs bp,vs bp,bj 0,bj 0,vs y])]) bb cr λ(cL:N)cc=>H.aM cc (b0.add 2) [vs cL] λcM=>bc cM b0 λcP=>bc cM (b0.add 1) λdb=>bc cM (b0.add 2) λcG=>K cP db cG 0 cM) (bc cr b0 λcL=>bc cr (b0.add 1) λcc=>bc cr (b0.add 2) λcM=>K cL cc cM 0 cr)) λb0=>eF bW (am j) λcr=>fm bW (am n) λcL=>(B9 cr bW λcc cM=>H.le bW cM/\(PY cL cM λcP db=>(vy cP db λcG dD=>dW dD λbV=>H.le bW (dD.ins bV (bt #[vs bp,vs bp,vs bp] 41 (0,0)))/\H.aM (dD.ins bV (bt #[vs bp,vs bp,vs bp] 41 (0,0))) (am bV) [vs cc,vs cG,vs bp] λaO=>b0 (am bV) aO)/\dW db λcG=>H.le bW (db.ins cG (bt #[vs bp,vs bp,vs bp] 41 (0,0)))/\vy cP (db.ins cG (bt #[vs bp,vs bp,vs bp] 41 (0,0))) λdD bV=>H.aM bV (am cG) [vs cc,vs dD,vs bp] λaO=>b0 (am cG) aO)/\dW cM λcP=>H.le bW (cM.ins cP (bt #[vs bp,vs bp,vs bp] 41 (0,0)))/\PY cL (cM.ins cP (bt #[vs bp,vs bp,vs bp] 41 (0,0))) λdb cG=>vy db cG λdD bV=>H.aM bV (am cP) [vs cc,vs dD,vs bp] λaO=>b0 (am cP) aO)/\dW bW λcc=>H.le bW (bW.ins cc (bt #[vs bp,vs bp,vs bp] 41 (0,0)))/\B9 cr (bW.ins cc (bt #[vs bp,vs bp,vs bp] 41 (0,0))) λcM cP=>H.le bW cP/\PY cL cP λdb cG=>vy db cG λdD bV=>H.aM bV (am cc) [vs cM,vs dD,vs bp] λaO=>b0 (am cc) aO)) λp=>bl a0 λq=>aS z (q.add 4) λr=>b4 (r=0) (PS a0 Y 0 z λs t=>Kx a0 s Y 0 (js (ko 297) #[] #[aX (some (am n)),aX (some (am a)),aX (some (am j))]) t λv=>p v) (p z)))):Vj a0 Y a2 a3 u K:=aQ [7,11,13,18] func291 [aO 127 [],aO 4090 [(15,.slice),(60,bE)],aO 1023 [(18,.addr)]] h
def aF5(a0:N)(Y:ap)(u:H)(K:N->Q)(h:VE a0 Y u λa b=>aF (a=-1) (K a0 b) (a7 (a+1)/\gj o o a (a+1) b λc d e f=>aF (e<(a0.n:o)) (a1 a0 e λg=>aS f (aG g e 1) λi=>oa Y #[af i] cH f λ(j:ay)k=>b4 (j=ai) (a1 a0 d λl=>H.aM k (aG l d 1) [af i] λm=>a7 (d+1)/\a7 (e+1)/\c (d+1) (e+1) m) (a7 (e+1)/\c d (e+1) k)) (bd (fZ 30 (vs a0) (some (af d)) none none) bb f λ(g:N)i=>bd (qc #[30] 0 #[vs g]) [] i λj=>bd (fZ 30 (vs a0) none (some (af d)) none) bb j λ(k:N)l=>K k l))):VC a0 Y u K:=aQ [] func292 [aO 122 [(5,bE),(6,bE)]] h
def aE1(a0:o)(Y:a8)(u:H)(K:ay->Q)(h:aS u Y λa=>K (decide (a0=a)) u):aoK a0 Y u K:=oL 1 [] func293 [] h
def aF4(a0:N)(Y:o)(u:H)(K:ay->Q)(h:VF a0 Y u λa b=>K (decide ((0:o)<=a)) b):VB a0 Y u K:=aQ [] func294 [] h
def aGc(a0:ap)(u:H)(K:N->Q)(h:Vz a0 u λa b=>B7 a b λc=>K a c):vy a0 u K:=aQ [] func295 [] h
def aFI(a0:aA O)(u:H)(K:ap->Q)(h:dW u λa=>K (js (ko 302) #[] #[aX (some (am a))]) (u.ins a (bt #[dP a0] 182 (0,0)))):PX a0 u K:=aQ [1] func296 [] h
def aE5(bg bo ca:o)(Y a2 a3:a8)(u:H)(K:ay->Q)(h:fm u Y λa=>bd (rM #[166] 3 #[dP a]) cv u λ(b:o)c=>aS c a2 λd=>aF (b=d) (K ao c) (fm c Y λe=>bd (gY 166 (dP e) (af bg) ao) cH c λ(f:ay)g=>b4 (f=ai) (fm g Y λi=>bd (unit (kW 166 (dP i) (af bg) (gZ ai))) [] g λj=>eF j a3 λk=>Ad k bg bo ca j λ_ l=>K ai l) (K ai g))):aoL bg bo ca Y a2 a3 u K:=oL 1 [] func297 [] h
def adZ(a0:aA O)(u:H)(K:ap->Q)(h:dW u λa=>K (js (ko 303) #[] #[aX (some (am a))]) (u.ins a (bt #[dP a0] 166 (0,0)))):PY a0 u K:=aQ [1] func298 [] h
def aF8(a0:N)(Y:ap)(u:H)(K:o->Q)(h:gj o o 0 0 u λa b c d=>aF (c<(a0.n:o)) (a1 a0 c λe=>aS d (aG e c 1) λf=>oa Y #[af f] cH d λ(g:ay)i=>dx g (K c i) (a7 (c+1)/\a b (c+1) i)) (K (-1) d)):VE a0 Y u K:=aQ [] func299 [aO 26 [(4,bE),(8,bE)]] h
def aGa(a0:N)(Y:o)(u:H)(K:o->Q)(h:gj o o 0 0 u λa b c d=>aF (c<(a0.n:o)) (a1 a0 c λe=>aS d (aG e c 1) λf=>aF (Y=f) (K c d) (a7 (c+1)/\a b (c+1) d)) (K (-1) d)):VF a0 Y u K:=aQ [] func300 [aO 26 [(4,bE),(8,bE)]] h
def aF2(a0:ap)(u:H)(K:N->Q)(h:aeJ bp a0 u λa b=>K a b):Vz a0 u K:=aQ [] func301 [] h
def aFJ(a0:ap)(Y:a8)(u:H)(K:Q)(h:fm u Y λa=>bd (rL 182 (dP a)) ep u λ(b:aA a8)c=>NO c λd e=>w1 aH (aX b) e (λ(f:H)=>K f) λ(_:ap)(_:ap)(f:H)=>wZ aH (aX b) f λ(g:ap)(_:ap)(i:H)=>sT (aI.int b2) g λ(j:o)=>oa a0 #[af j] cH i λ(k:ay)l=>b4 (k=ai) (K l) (d l)):aoU a0 Y u K:=Lt 1 (C:={P:=aH,exp:=[],wrap:=ao,io:=io,oK:=[8],oU:=[6]}) (args:=[a0,(ha (some Y))]) (od _ _) func302 (by kernel_rfl) [aO 6 []] (by kernel_rfl) (by kernel_rfl) (Eq.mp (by kernel_rfl) h)
def aFM(a0:ap)(Y:a8)(u:H)(K:Q)(h:fm u Y λa=>bd (rL 166 (dP a)) ep u λ(b:aA a8)c=>NO c λd e=>w1 aH (aX b) e (λ(f:H)=>K f) λ(_:ap)(_:ap)(f:H)=>wZ aH (aX b) f λ(g:ap)(_:ap)(i:H)=>sT (aI.int b2) g λ(j:o)=>oa a0 #[af j] cH i λ(k:ay)l=>b4 (k=ai) (K l) (d l)):aoW a0 Y u K:=Lt 1 (C:={P:=aH,exp:=[],wrap:=ao,io:=io,oK:=[8],oU:=[6]}) (args:=[a0,(ha (some Y))]) (od _ _) func303 (by kernel_rfl) [aO 6 []] (by kernel_rfl) (by kernel_rfl) (Eq.mp (by kernel_rfl) h)
def aFY(a0:N)(Y:ap)(u:H)(K:N->Q)(h:dW u λa=>nB aH (J0 (Tryz.f304.body.getD Code.skip)) 13 [(6,Y),(4,vs bp),(2,aX (some (am a))),(0,vs a0),(1,Y)] (u.ins a (bt #[vs a0] 30 (0,0))) λ(b:O)(c:H)=>bc c (am a) λd=>c b=some (vk (some []))/\K d (c.ins b (vk none))):aeJ a0 Y u K:=aQ [2] func304 [] h
def aEw(a0:bU)(Y:o)(u:H)(K:ay->o->Q)(h:bl a0 λa=>fm u (a.add 1) λb=>bd (gY 125 (dP b) (af Y) ai) [bk.one aI.slice,bk.one aI.bool] u λ(_:N)(c:ay)d=>bl a0 λe=>fm d (e.add 1) λf=>bd (tN #[125,3] 0 #[dP f,af Y]) [] d λg=>K c 0 g):aek a0 Y u K:=aQ [] func305 [] h
def aEx(a0:bU)(u:H)(K:o->Q)(h:bl a0 λa=>fm u (a.add 1) λb=>bd (rM #[125] 3 #[dP b]) cv u λ(c:o)d=>K c d):ael a0 u K:=aQ [] func306 [] h
def aEy(a0:bU)(bY:o)(b6:N)(u:H)(K:ay->o->Q)(h:bl a0 λa=>fm u (a.add 1) λb=>bd (gY 125 (dP b) (af bY) ai) [bk.one aI.slice,bk.one aI.bool] u λ(_:N)(c:ay)d=>bl a0 λe=>bl a0 λf=>aS d e λg=>fm d (f.add 1) λi=>bd (rM #[125] 3 #[dP i]) cv d λ(j:o)k=>H.le d k/\D2 bY b6 g c j k λl m=>b4 (l=0) (K ao l m) (bl a0 λn=>fm m (n.add 1) λz=>o3 b6 m λp q=>H.le m q/\bd (unit (kW 125 (dP z) (af bY) (vs p))) [] q λr=>K (sx (decide (c=ai))) 0 r)):U6 a0 bY b6 u K:=aQ [] func307 [] h
def aEz(a0:bU)(u:H)(K:N->Q)(h:bl a0 λa=>fm u (a.add 1) λb=>bd (rL 125 (dP b)) ep u λ(c:aA a8)d=>fD N bp d λe f g=>w1 aH (aX c) g (λ(i:H)=>rY f i λj k=>K j k) λ(_:ap)(_:ap)(i:H)=>wZ aH (aX c) i λ(j:ap)(k:ap)(l:H)=>sT (aI.int b2) j λ(m:o)=>sT aI.slice k λ(n:N)=>bd (dA 22 1 #[(0,cz #[af m,vs n])]) bb l λ(z:N)p=>bd (dO #[22,22] 22 #[vs f,vs z]) bb p λ(q:N)r=>e q r):U7 a0 u K:=EG (C:={P:=aH,exp:=[],wrap:=ao,io:=io,oK:=[13],oU:=[11]}) (args:=[(ha a0)]) (od _ _) func308 (by kernel_rfl) [aO 58 [(3,.slice)]] (by kernel_rfl) (by kernel_rfl) (Eq.mp (by kernel_rfl) h)
def aEA(a0:bU)(Y:N)(a2 a3:o)(u:H)(K:N->N->N->o->Q)(h:bl a0 λa=>aS u a λb=>B5 Y b a2 a3 u λc d=>b4 (c=0) (K bp bp bp c d) (U7 a0 d λe f=>PJ e Y a2 a3 f λg i j k l=>K g i j k l)):aem a0 Y a2 a3 u K:=aQ [] func309 [] h
def aEL(a0 Y:N)(a2 a3:o)(u:H)(K:N->N->N->o->Q)(h:PK a0 Y u λa b=>b4 (a=0) (K bp bp bp a b) (fl ay (λc d=>dx c (K bp bp bp 1 d) (bd (fZ 22 (vs a0) none (some (af (ite ((a0.n:o)<a3) (a0.n:o) a3))) none) bb d λ(e:N)f=>Vd e Y a2 f λg _ i=>zl o N N N 0 g bp bp i λj k l m n z=>aF (k<(e.n:o)) (a1 e k λp=>aS z (aG p k 2) λq=>bc z ((aG p k 2).add 1) λ_=>bd (dA 30 1 #[(0,af q)]) bb z λ(r:N)s=>bd (dO #[30,30] 30 #[vs m,vs r]) bb s λ(t:N)v=>a7 (k+1)/\j (k+1) l t n v) (B7 m z λp=>bd (fZ 22 (vs a0) (some (af (e.n:o))) none none) bb p λ(q:N)r=>aF ((0:o)<(q.n:o)) (Qd q (Y.n:o) r λs t v w x y W bW=>b4 (W=0) (K bp bp bp W bW) (bd (dA 39 1 #[(0,cz #[af s,vs t,vs v,bj w,bj x,vs y])]) bb bW λ(b0:N)cr=>K l m b0 0 cr)) (K l m n 0 r)))) λc=>aF (a2<1) (c ai b) (aF ((64:o)<a2) (c ai b) (aF (a3<0) (c ai b) (c (decide ((1000000:o)<a3)) b))))):PJ a0 Y a2 a3 u K:=aQ [] func310 [aO 14 [(38,.bool)],(1018,⟨[(56,bE)],[(1,[.slice,.slice,.slice])]⟩)] h
def aEt(a0:bU)(bY:o)(b6:N)(u:H)(K:ay->o->Q)(h:bl a0 λa=>U6 (some a) bY b6 u λb c d=>fl ay (λe f=>dx e (bl a0 λg=>bl a0 λi=>fm f (g.add 3) λj=>eF f (i.add 2) λk=>Vr k b6 f λl _ m=>H.le f m/\bd (unit (kW 125 (dP j) (af bY) (vs l))) [] m λn=>K b c n) (K b c f)) λe=>aF (c=0) (bl a0 λf=>eF d (f.add 2) λg=>e (sx (decide (g=none))) d) (e ao d)):aeh a0 bY b6 u K:=aQ [] func311 [aO 14 [(24,.bool)]] h
section
variable{u u':H}{d a b x c y:o}{K:o->H->Prop}{t:N}{l q:J o}{k:O}
def aEu(a0:bU)(Y:N)(a2 a3:o)(u:H)(K:N->N->N->o->Q)(h:bl a0 λa=>aS u a λb=>B5 Y b a2 a3 u λc d=>b4 (c=0) (K bp bp bp c d) (fl N (λe f=>bl a0 λg=>fm f (g.add 1) λi=>Vq i f λj k=>vy j k λl m=>gj N o bp 0 m λn z p q=>aF (p<(l.n:o)) (a1 l p λr=>aS q (aG r p 1) λs=>bl a0 λt=>eF q (t.add 2) λv=>b4 (v=none) (bl a0 λw=>fm q (w.add 3) λx=>bd (gY 125 (dP x) (af s) ao) bb q λ(y:N)W=>Vt e y W λbW b0 _ cr=>bd (dA 38 1 #[(0,cz #[af s,bj bW,bj b0])]) bb cr λ(cL:N)cc=>bd (dO #[38,38] 38 #[vs z,vs cL]) bb cc λ(cM:N)cP=>a7 (p+1)/\n cM (p+1) cP) (bd (dA 38 1 #[(0,cz #[af s,bj 0,bj 0])]) bb q λ(w:N)x=>bd (dO #[38,38] 38 #[vs z,vs w]) bb x λ(y:N)W=>a7 (p+1)/\n y (p+1) W)) (VG z (js (ko 317) #[] #[]) q λr=>D6 a2 r λs _ t=>akw N o N N N bp 0 bp bp bp t λv w x y W bW b0=>aF (x<(z.n:o)) (a1 z x λcr=>aS b0 (aG cr x 3) λcL=>c8 b0 ((aG cr x 3).add 1) λ_=>c8 b0 ((aG cr x 3).add 2) λ_=>aF (a3<=x) (bd (dA 30 1 #[(0,af cL)]) bb b0 λ(cc:N)cM=>bd (dO #[30,30] 30 #[vs w,vs cc]) bb cM λ(cP:N)db=>a7 (x+1)/\v cP (x+1) y W bW db) (bl a0 λcc=>fm b0 (cc.add 1) λcM=>bd (gY 125 (dP cM) (af cL) ao) bb b0 λ(cP:N)db=>rZ cP Y db λcG dD _ bV=>Ad s cL cG dD bV λ_ aO=>bd (dA 30 1 #[(0,af cL)]) bb aO λ(eR:N)eD=>bd (dO #[30,30] 30 #[vs W,vs eR]) bb eD λ(fh:N)fG=>a7 (x+1)/\v w (x+1) y fh bW fG)) (B7 W b0 λcr=>aa4 N N N (λ_ cL cc cM=>B9 s cM λcP db=>K cP cL cc 0 db) λcL=>aF ((0:o)<(w.n:o)) (B7 w cr λcc=>bd (dA 39 1 #[(0,cz #[af 1,vs bp,vs bp,bj 0,bj 0,vs w])]) bb cc λ(cM:N)cP=>cL y W cM cP) (cL y W bW cr)))) λe=>bl a0 λf=>eF d (f.add 2) λg=>b4 (g=none) (bl a0 λi=>eF d (i.add 2) λj=>Vs j Y d λk _ l=>e k l) (e bp d))):aei a0 Y a2 a3 u K:=aQ [] func312 [aO 31 [(12,.slice)],aO 506 [(11,.slice),(57,bE)],(16378,⟨[(19,.slice),(94,bE)],[(1,[.slice,.slice,.slice])]⟩),(8191,⟨[],[(1,[.slice,.slice,.slice])]⟩)] h
def aFN(a0:bU)(Y:N)(u:H)(K:N->o->Q)(h:aF (a0=none) (K bp 3 u) (bl a0 λa=>aS u a λb=>qs Y b u λc d=>b4 (c=0) (K bp c d) (bl a0 λe=>bc d (e.add 1) λf=>gj N o bp 0 d λg i j k=>aF (j<(f.n:o)) (a1 f j λl=>bc k (aG l j 1) λm=>bl a0 λn=>bc k (n.add 1) λz=>Kz Y (z.n:o) j k λp q=>Hh m p q λr _ _ _ s=>bd (dA 30 1 #[(0,af r)]) bb s λ(t:N)v=>bd (dO #[30,30] 30 #[vs i,vs t]) bb v λ(w:N)x=>a7 (j+1)/\g w (j+1) x) (K i 0 k)))):Vr a0 Y u K:=aQ [] func313 [aO 250 [(7,.slice),(29,bE)]] h
def aFO(a0:bU)(Y:N)(u:H)(K:N->o->Q)(h:aF (a0=none) (K bp 3 u) (bl a0 λa=>aS u a λb=>qs Y b u λc d=>b4 (c=0) (K bp c d) (bl a0 λe=>bc d (e.add 1) λf=>gj N o bp 0 d λg i j k=>aF (j<(f.n:o)) (a1 f j λl=>bc k (aG l j 1) λm=>gj N o bp 0 k λn z p q=>aF (p<(m.n:o)) (a1 m p λr=>bc q (aG r p 1) λs=>bl a0 λt=>bc q (t.add 1) λv=>Kz Y (v.n:o) j q λw x=>rZ w s x λy W _ bW=>bd (dA 359 1 #[(0,cz #[bj y,bj W])]) bb bW λ(b0:N)cr=>bd (dO #[359,359] 359 #[vs z,vs b0]) bb cr λ(cL:N)cc=>a7 (p+1)/\n cL (p+1) cc) (bd (dA 354 1 #[(0,vs z)]) bb q λ(r:N)s=>bd (dO #[354,354] 354 #[vs i,vs r]) bb s λ(t:N)v=>a7 (j+1)/\g t (j+1) v)) (K i 0 k)))):Vs a0 Y u K:=aQ [] func314 [aO 250 [(7,.slice),(31,bE)],aO 256410 [(10,.slice),(38,bE)]] h
def aFK(a0:aA O)(u:H)(K:ap->Q)(h:dW u λa=>K (js (ko 318) #[] #[aX (some (am a))]) (u.ins a (bt #[dP a0] 125 (0,0)))):Vq a0 u K:=aQ [1] func315 [] h
def aFP(a0 Y:N)(u:H)(K:o->o->o->Q)(h:b4 ((a0.n:o)=(Y.n:o)) (K 0 0 101 u) (zl o o o o 0 0 0 0 u λa b c d e f=>aF (c<(Y.n:o)) (a1 Y c λg=>aS f (aG g c 1) λi=>aF (i<0) (K 0 0 101 f) (a1 a0 c λj=>bc f (aG j c 1) λk=>aF ((k.n:o)<=i) (K 0 0 101 f) (a7 (c+1)/\a b (c+1) d e f))) (ayp o o o o o o b 0 0 0 d e f λg i j k l m n z=>aF (j<(Y.n:o)) (a1 Y j λp=>aS z (aG p j 1) λq=>a1 a0 j λr=>bc z (aG r j 1) λs=>a1 s q λt=>c8 z (aG t q 2) λv=>c8 z ((aG t q 2).add 1) λw=>Qh k l v w z λx y W bW=>b4 (W=0) (K 0 0 W bW) (a7 (j+1)/\g i (j+1) x y m n bW)) (K k l 0 z)))):Vt a0 Y u K:=aQ [] func316 [(58,⟨[(5,bE),(20,bE)],[(0,[.int .u64,.int .u64])]⟩),(250,⟨[(5,bE),(40,bE)],[(1,[.int .u64,.int .u64]),(0,[.int .u64,.int .u64])]⟩)] h
def aEv(bg bo ca bY b6 fU:o)(u:H)(K:o->Q)(h:Ca bg bo ca bY b6 fU u λa b=>dx a (K (-1) b) (K 1 b)):aej bg bo ca bY b6 fU u K:=aQ [] func317 [] h
def aFL(a0:ap)(Y:a8)(u:H)(K:Q)(h:fm u Y λa=>bd (rL 125 (dP a)) ep u λ(b:aA a8)c=>NO c λd e=>w1 aH (aX b) e (λ(f:H)=>K f) λ(_:ap)(_:ap)(f:H)=>wZ aH (aX b) f λ(g:ap)(_:ap)(i:H)=>sT (aI.int b2) g λ(j:o)=>oa a0 #[af j] cH i λ(k:ay)l=>b4 (k=ai) (K l) (d l)):aoV a0 Y u K:=Lt 1 (C:={P:=aH,exp:=[],wrap:=ao,io:=io,oK:=[8],oU:=[6]}) (args:=[a0,(ha (some Y))]) (od _ _) func318 (by kernel_rfl) [aO 6 []] (by kernel_rfl) (by kernel_rfl) (Eq.mp (by kernel_rfl) h)
def aHl(a0:N)(u:H)(K:o->Q)(h:K (a0.n:o) u):aoY a0 u K:=aQ [] func320 [] h
def aHm(a0:N)(Y a2:o)(u:H)(K:ay->Q)(h:a1 a0 a2 λa=>a1 a0 Y λb=>aS u (aG a a2 3) λc=>c8 u ((aG a a2 3).add 1) λd=>c8 u ((aG a a2 3).add 2) λe=>aS u (aG b Y 3) λf=>c8 u ((aG b Y 3).add 1) λg=>c8 u ((aG b Y 3).add 2) λi=>Ca c d e f g i u λj k=>K j k):aeP a0 Y a2 u K:=aQ [] func321 [] h
def aHo(a0:N)(Y a2:o)(u:H)(K:Q)(h:a1 a0 a2 λa=>a1 a0 Y λb=>aS u (aG a a2 3) λc=>c8 u ((aG a a2 3).add 1) λd=>c8 u ((aG a a2 3).add 2) λe=>aS u (aG b Y 3) λf=>c8 u ((aG b Y 3).add 1) λg=>c8 u ((aG b Y 3).add 2) λi=>a1 a0 Y λj=>H.aM u (aG j Y 3) [af c,bj d,bj e] λk=>a1 a0 a2 λl=>H.aM k (aG l a2 3) [af f,bj g,bj i] λm=>K m):aeQ a0 Y a2 u K:=aQ [] func322 [] h
def aHn(a0:bU)(Y:ap)(u:H)(K:Q)(h:bd (so Y 20 68 ai) [bk.agg [aI.int b2,aI.int bu,aI.int bu],bk.one aI.bool] u λ(a:o)(b:o)(c:o)(d:ay)e=>dx d (bl a0 λf=>bc e f λg=>bd (dA 141 1 #[(0,cz #[af a,bj b,bj c])]) bb e λ(i:N)j=>H.le e j/\bd (dO #[141,141] 141 #[vs g,vs i]) bb j λ(k:N)l=>bl a0 λm=>H.aM l m [vs k] λn=>K n) (K e)):aoZ a0 Y u K:=aQ [] func324 [] h
def aFf(a0:N)(Y a2:o)(u:H)(K:ay->Q)(h:a1 a0 Y λa=>a1 a0 a2 λb=>aS u (aG a Y 3) λc=>c8 u ((aG a Y 3).add 1) λd=>c8 u ((aG a Y 3).add 2) λe=>aS u (aG b a2 3) λf=>c8 u ((aG b a2 3).add 1) λg=>c8 u ((aG b a2 3).add 2) λi=>Ca c d e f g i u λj k=>K j k):aeu a0 Y a2 u K:=aQ [] func325 [] h
def aFi(a0:N)(Y a2:o)(u:H)(K:Q)(h:a1 a0 a2 λa=>a1 a0 Y λb=>aS u (aG a a2 3) λc=>c8 u ((aG a a2 3).add 1) λd=>c8 u ((aG a a2 3).add 2) λe=>aS u (aG b Y 3) λf=>c8 u ((aG b Y 3).add 1) λg=>c8 u ((aG b Y 3).add 2) λi=>a1 a0 Y λj=>H.aM u (aG j Y 3) [af c,bj d,bj e] λk=>a1 a0 a2 λl=>H.aM k (aG l a2 3) [af f,bj g,bj i] λm=>K m):aev a0 Y a2 u K:=aQ [] func326 [] h
def aFg(a0:bU)(u:H)(K:ap->Q)(h:fl a8 (λa b=>bl a0 λc=>bl a0 λd=>bc b c λe=>bc b d λf=>a7 ((f.n:o)-1)/\bd (fZ 263 (vs e) none (some (af ((f.n:o)-1))) none) bb b λ(g:N)i=>bl a0 λj=>H.aM i j [vs g] λk=>aS k a λl=>c8 k (a.add 1) λm=>c8 k (a.add 2) λn=>K (mj 68 (cz #[af l,bj m,bj n])) k) λa=>bl a0 λb=>bl a0 λc=>bc u b λd=>bc u c λe=>a7 ((e.n:o)-1)/\a1 d ((e.n:o)-1) λf=>aS u (aG f ((e.n:o)-1) 3) λg=>c8 u ((aG f ((e.n:o)-1) 3).add 1) λi=>c8 u ((aG f ((e.n:o)-1) 3).add 2) λj=>dW u λk=>H.le u (u.ins k (bt #[af 0,bj 0,bj 0] 68 (0,0)))/\H.aM (u.ins k (bt #[af 0,bj 0,bj 0] 68 (0,0))) (am k) [af g,bj i,bj j] λl=>a (am k) l):aoN a0 u K:=aQ [3] func327 [aO 3 [(3,.addr)]] h
def aFh(a0:bU)(Y:ap)(u:H)(K:Q)(h:bl a0 λa=>bc u a λb=>bd (so Y 20 68 ao) [bk.agg [aI.int b2,aI.int bu,aI.int bu]] u λ(c:o)(d:o)(e:o)f=>H.le u f/\bd (dA 263 1 #[(0,cz #[af c,bj d,bj e])]) bb f λ(g:N)i=>H.le u i/\bd (dO #[263,263] 263 #[vs b,vs g]) bb i λ(j:N)k=>bl a0 λl=>H.aM k l [vs j] λm=>K m):aoO a0 Y u K:=aQ [] func328 [] h
def aET(a0:N)(Y a2:o)(u:H)(K:ay->Q)(h:a1 a0 Y λa=>a1 a0 a2 λb=>c8 u ((aG a Y 3).add 1) λc=>c8 u (((aG a Y 3).add 1).add 1) λd=>c8 u ((aG b a2 3).add 1) λe=>c8 u (((aG b a2 3).add 1).add 1) λf=>vz c d e f u λg i=>K (decide (g<0)) i):aeq a0 Y a2 u K:=aQ [] func330 [] h
def aEW(a0:N)(Y a2:o)(u:H)(K:Q)(h:a1 a0 a2 λa=>a1 a0 Y λb=>eF u (aG a a2 3) λc=>c8 u ((aG a a2 3).add 1) λd=>c8 u ((aG a a2 3).add 2) λe=>eF u (aG b Y 3) λf=>c8 u ((aG b Y 3).add 1) λg=>c8 u ((aG b Y 3).add 2) λi=>a1 a0 Y λj=>H.aM u (aG j Y 3) [aX c,bj d,bj e] λk=>a1 a0 a2 λl=>H.aM k (aG l a2 3) [aX f,bj g,bj i] λm=>K m):aer a0 Y a2 u K:=aQ [] func331 [] h
def aEU(a0:bU)(u:H)(K:ap->Q)(h:fl a8 (λa b=>bl a0 λc=>bl a0 λd=>bc b c λe=>bc b d λf=>a7 ((f.n:o)-1)/\bd (fZ 331 (vs e) none (some (af ((f.n:o)-1))) none) bb b λ(g:N)i=>bl a0 λj=>H.aM i j [vs g] λk=>eF k a λl=>c8 k (a.add 1) λm=>c8 k (a.add 2) λn=>K (mj 334 (cz #[aX l,bj m,bj n])) k) λa=>bl a0 λb=>bl a0 λc=>bc u b λd=>bc u c λe=>a7 ((e.n:o)-1)/\a1 d ((e.n:o)-1) λf=>eF u (aG f ((e.n:o)-1) 3) λg=>c8 u ((aG f ((e.n:o)-1) 3).add 1) λi=>c8 u ((aG f ((e.n:o)-1) 3).add 2) λj=>dW u λk=>H.le u (u.ins k (bt #[aX none,bj 0,bj 0] 334 (0,0)))/\H.aM (u.ins k (bt #[aX none,bj 0,bj 0] 334 (0,0))) (am k) [aX g,bj i,bj j] λl=>a (am k) l):aoI a0 u K:=aQ [3] func332 [aO 3 [(3,.addr)]] h
def aEV(a0:bU)(Y:ap)(u:H)(K:Q)(h:bl a0 λa=>bc u a λb=>bd (so Y 20 334 ao) [bk.agg [aI.ptr,aI.int bu,aI.int bu]] u λ(c:aA a8)(d:o)(e:o)f=>H.le u f/\bd (dA 331 1 #[(0,cz #[aX c,bj d,bj e])]) bb f λ(g:N)i=>H.le u i/\bd (dO #[331,331] 331 #[vs b,vs g]) bb i λ(j:N)k=>bl a0 λl=>H.aM k l [vs j] λm=>K m):aoJ a0 Y u K:=aQ [] func333 [] h
def cE(x:o):Prop:=0<=x/\x<18446744073709551616
def dw(hi bm:o):o:=hi*18446744073709551616+bm
def BO(az:cE b)(aa:cE d)
  (h:K (if dw a b<dw c d then -1 else if dw c d<dw a b then 1 else 0) u):vz a b c d u K:=by
 apply aHN
 have key:∀W,(if dw a b<dw c d then(-1:o) else if dw c d<dw a b then 1 else 0)=W->K W u:=λW e=>e▸h
 simp only[cE,dw] at*
 refine⟨λh=>key _ ?_,λh=>⟨λh1=>key _ ?_,λh1=>⟨λh2=>⟨λh3=>key _ ?_,λh3=>key _ ?_⟩,λh2=>key _ ?_⟩⟩⟩
 all_goals (repeat' split)<;>omega
def afc{K:o->o->H->Prop}(az:cE a)(aa:cE b)(pd:0<=c)(I:c<=1)
  (h:K ((a+b+c)%18446744073709551616) ((a+b+c)/18446744073709551616) u):
  c7 aH (Ar 162 #[.int .u64 a,.int .u64 b,.int .u64 c]) [.one (.int .u64),.one (.int .u64)] u K:=by
 refine c7.pure [.int .u64 ((a+b+c)%18446744073709551616),.int .u64 ((a+b+c)/18446744073709551616)] (λw _=>?_) (.cons (t:=.int .u64) _ (.cons (t:=.int .u64) _ .nil)) h
 unfold Ar
 rw[eN,run_callFunc_extern func162 (by kernel_rfl) (by kernel_rfl) (by kernel_rfl) (e:=add64Entry) (by kernel_rfl),run_add64 a b c az.1 aa.1 pd I]
 rfl
def ane{K:o->o->o->H->Prop}(az:cE a)(aa:cE b)(I:cE c)(av:cE d)
  (h1:∀x y,cE x->cE y->dw x y=dw a b+dw c d->K x y 0 u) (h2:340282366920938463463374607431768211456<=dw a b+dw c d->K 0 0 10 u):Qh a b c d u K:=by
 apply aHM
 simp only[cE,dw] at*
 refine afc aa av (by omega) (by omega) (afc az I (by omega) (by omega) ⟨λh=>h2 (by omega),λh=>h1 _ _ (by omega) (by omega) (by omega)⟩)
def aBF{K:o->o->H->Prop}(az:cE a)(aa:cE b)
  (h:K (a*b/18446744073709551616) (a*b%18446744073709551616) u):U8 a b u K:=by
 apply aEB
 refine⟨by omega,by omega,by omega,by omega,by omega,?_⟩
 have e:=mul64_arith a b az.1 az.2 aa.1 aa.2
 have w:∀W,bS .u64 W=W%18446744073709551616:=IntKind.wrap_u64
 have bV:∀W,0<=W->W<18446744073709551616->bits .and .u64 W 4294967295=W%4294967296:=and_low32
 have p:(2:o) ^ 32=4294967296:=by decide
 have fd:∀W:o,et W 4294967296=W/4294967296:=λW=>aca W (by decide)
 simp only[w,p,fd,bV a az.1 az.2,bV b aa.1 aa.2]
 rw[bV _ (by omega) (by omega),e]
 exact h
def Up{K:o->o->H->Prop}(az:cE a)(aa:cE b)
  (h:∀x y,cE x->cE y->dw x y=a*b->K x y u):D8 a b u K:=by
 apply aHO
 refine aBF az aa (h _ _ ?_ ?_ ?_)
 obtain⟨h1,h2⟩:=az
 obtain⟨h3,br⟩:=aa
 have:=sy h1 h3
 have:a*b<=18446744073709551615*18446744073709551615:=By (by omega) (by omega) h3 (by omega)
 constructor<;>omega
 constructor<;>omega
 unfold dw;omega
def jP(x:o):Prop:= -2147483647<=x/\x<=2147483647
instance(x:o):Decidable (jP x):=inferInstanceAs (Decidable (_/\_))
def lY(x y:o):o:=(x-y)*(x-y)
theorem anb{K:o->o->H->Prop}(az:cE a)(aa:cE b)(M:jP x)(aj:jP y)
  (ae:dw a b+18446744073709551616<340282366920938463463374607431768211456)
  (h:∀c d,cE c->cE d->dw c d=dw a b+lY x y->K c d u):Qf a b x y u K:=by
 apply aHz
 have e:(ite (y>x) y x)-(ite (y<x) y x)=if x<y then y-x else x-y:=by omega
 rw[e]
 unfold jP at M aj
 have d1:∃W:o,W=(if x<y then y-x else x-y)/\0<=W/\W<=4294967294/\W*W=lY x y:=by refine⟨_,rfl,?_,?_,?_⟩;split<;>omega;split<;>omega;unfold lY;split<;>grind
 obtain⟨W,aE,h0,h2,h3⟩:=d1
 rw[<-aE]
 refine⟨⟨by omega,by omega⟩,?_⟩
 have hw:bS .u64 W=W:=ox W ⟨h0,by omega⟩
 rw[hw]
 have aE:cE W:=⟨h0,by omega⟩
 refine Up aE aE λp q ad aL he=>⟨H.le.refl u,?_⟩
 have aj6:0<=W*W/\W*W<=18446744056529682436:=⟨sy h0 h0,by have:=By h2 h2 h0 (by omega);omega⟩
 refine ane az aa ad aL (λc d I av kQ=>h c d I av (by rw[kQ,he,h3])) λcb=>?_
 exfalso
 omega
theorem Kh(M:jP x)(aj:jP y):0<=lY x y/\lY x y<=18446744056529682436:=by
 unfold jP at M aj;unfold lY;constructor;rcases Int.le_total 0 (x-y) with h|h;exact sy h h;exact acb h h;rcases Int.le_total 0 (x-y) with h|h;have:=By (show x-y<=4294967294 by omega) (show x-y<=4294967294 by omega) h (by omega);omega;have e:(x-y)*(x-y)=(y-x)*(y-x):=by grind
 have:=By (show y-x<=4294967294 by omega) (show y-x<=4294967294 by omega) (by omega) (by omega);omega
def gx(l:J o)(d:o):o:=
 if 1<=d/\d<=64/\(l.length:o)=d then(if ∀i,i<l.length->jP (l.getD i 0) then 0 else 31) else 30
def ads{K:ay->H->Prop}(h:K (decide (1<=d/\d<=64)) u):KK d u K:=by
 apply aHw;refine⟨λh1=>?_,λh1=>?_⟩;have:@decide (d<=64) (@tL _ (Int.decLe d 64))=decide (1<=d/\d<=64):=by simp[h1]
 rw[this];exact h;have:decide (1<=d/\d<=64)=ao:=by simp;omega
 rw[this] at h;exact h
theorem qg{s:N}(ae:Ints u s l)(h:K (gx l d) u):qs s d u K:=by
 have key:∀W,gx l d=W->K W u:=λW e=>e▸h;have ag:=ae.len;have tk:=ae.max;apply aHs;intro iK iM;refine ads ⟨λaa=>key _ ?_,λaa=>⟨λaq=>key _ ?_,λaq=>iM _ _ ?_⟩⟩;have:¬(1<=d/\d<=64):=by simpa using aa
 unfold gx;omega;unfold gx;omega;have av:1<=d/\d<=64:=by simpa using aa
 have aB:gx l d=if ∀i,i<l.length->jP (l.getD i 0) then 0 else 31:=by unfold gx;omega
 refine⟨λ_ i u'=>u'=u/\0<=i/\i<=(s.n:o)/\∀j,j<i.toNat->jP (l.getD j 0),λ_ i _=>s.n-i.toNat,⟨rfl,by omega,by omega,λj aP=>by simp at aP⟩,?_⟩;rintro _ i u' ⟨rfl,h0,h1,ad⟩;refine⟨λhi=>?_,λhi=>key _ ?_⟩;obtain⟨p,fL,I⟩:=ae.at h0 hi;have bad:¬jP (l.getD i.toNat 0)->K 31 u':=λaa=>key _ (by grind);refine⟨p,fL,⟨h0,hi⟩,_,I,λM=>bad (λaa=>by unfold jP at aa;omega),λM=>⟨λaj=>bad (λaa=>by unfold jP at aa;omega),λaj=>⟨⟨by omega,by omega⟩,⟨rfl,by omega,by omega,?_⟩,by dsimp only;omega⟩⟩⟩;intro j aP;rcases tK j i.toNat with kB|kB;exact ad j kB;have:j=i.toNat:=by omega
 subst this;exact⟨by omega,by omega⟩
 grind
theorem Ke{s:N}(ae:Ints u s l)(h:K (gx l d) u):D5 s d u K:=by
 have key:∀W,gx l d=W->K W u:=λW e=>e▸h;have ag:=ae.len;have tk:=ae.max;apply aGI;intro iK iM;refine⟨λaa=>key _ ?_,λaa=>⟨λiN=>key _ ?_,λiN=>⟨λaq=>key _ ?_,λaq=>iM _ _ ?_⟩⟩⟩;unfold gx;omega;unfold gx;omega;unfold gx;omega;have aB:gx l d=if ∀i,i<l.length->jP (l.getD i 0) then 0 else 31:=by unfold gx;omega
 refine⟨λ_ i u'=>u'=u/\0<=i/\i<=(s.n:o)/\∀j,j<i.toNat->jP (l.getD j 0),λ_ i _=>s.n-i.toNat,⟨rfl,by omega,by omega,λj aP=>by simp at aP⟩,?_⟩;rintro _ i u' ⟨rfl,h0,h1,ad⟩;refine⟨λhi=>?_,λhi=>key _ ?_⟩;obtain⟨p,fL,I⟩:=ae.at h0 hi;have bad:¬jP (l.getD i.toNat 0)->K 31 u':=λaa=>key _ (by grind);refine⟨p,fL,⟨h0,hi⟩,_,I,λM=>bad (λaa=>by unfold jP at aa;omega),λM=>⟨p,fL,⟨h0,hi⟩,_,I,λaj=>bad (λaa=>by unfold jP at aa;omega),λaj=>⟨⟨by omega,by omega⟩,⟨rfl,by omega,by omega,?_⟩,by dsimp only;omega⟩⟩⟩;intro j aP;rcases tK j i.toNat with kB|kB;exact ad j kB;have:j=i.toNat:=by omega
 subst this;exact⟨by omega,by omega⟩
 grind
def gb(a b:J o):O->o
 |0=>0|n+1=>gb a b n+lY (a.getD n 0) (b.getD n 0)
def cY(l:J o):Prop:=l.length<=64/\∀i,i<l.length->jP (l.getD i 0)
def GR{a b:J o}(az:cY a)(aa:cY b):∀n,n<=a.length->n<=b.length->0<=gb a b n/\gb a b n<=n*18446744056529682436:=by
 intro n;induction n with
 |zero=>intro _ _;simp[gb]
 |succ n aW=>intro h1 h2;obtain⟨i1,i2⟩:=aW (by omega) (by omega);have:=Kh (az.2 n (by omega)) (aa.2 n (by omega));simp only[gb];constructor<;>omega
def adt{s:N}{a b:J o}{K:o->o->H->Prop}(ae:Ints u s a)(ht:Ints u t b)(az:cY a)(aa:cY b)(aq:a.length=b.length)
  (h:∀x y,cE x->cE y->dw x y=gb a b a.length->K x y u):KL s t u K:=by
 have ag:=ae.len
 have hm:=ht.len
 have EL:=az.1
 apply aHx
 refine⟨λi x y u'=>u'=u/\0<=i/\i<=(s.n:o)/\cE x/\cE y/\dw x y=gb a b i.toNat,λi _ _ _=>s.n-i.toNat,⟨rfl,by omega,by omega,⟨by omega,by omega⟩,⟨by omega,by omega⟩,rfl⟩,?_⟩
 rintro i x y u' ⟨rfl,h0,h1,M,aj,hw⟩
 refine⟨λhi=>?_,λhi=>?_⟩
 obtain⟨p,ad,I⟩:=ae.at h0 hi
 obtain⟨q,aL,av⟩:=ht.at h0 (show i<(t.n:o) by omega)
 have hle:=GR az aa i.toNat (by omega) (by omega)
 refine⟨p,ad,⟨h0,hi⟩,q,aL,⟨h0,by omega⟩,_,I,_,av,anb M aj (az.2 _ (by omega)) (aa.2 _ (by omega)) (by omega) λc d I av kQ=>⟨⟨by omega,by omega⟩,⟨rfl,by omega,by omega,I,av,?_⟩,by dsimp only;omega⟩⟩
 rw[kQ,hw,show(i+1).toNat=i.toNat+1 by omega]
 rfl
 have:i.toNat=a.length:=by omega
 exact h x y M aj (by rw[hw,this])
def ado{K:o->o->H->Prop}(az:cE a)(aa:cE b)(I:cE c)(av:cE d)(ae:dw a b+dw c d<340282366920938463463374607431768211456)
  (h:∀x y,cE x->cE y->dw x y=dw a b+dw c d->K x y u):KE a b c d u K:=by
 apply aGT
 simp only[IntKind.wrap_u64,cE,dw] at*
 exact⟨λbP=>h _ _ (by omega) (by omega) (by omega),λbP=>h _ _ (by omega) (by omega) (by omega)⟩
theorem adn{W:o}{K:o->o->H->Prop}(aE:-4294967294<=W/\W<=4294967294)(h:K 0 (W*W) u):KD W u K:=by
 apply aGS;intro iK iM;have key:∀x:o,0<=x->x<=4294967294->x*x=W*W->K 0 (bS .u64 (bS .u64 x*bS .u64 x)) u:=by intro x h0 h1 M;have hw:bS .u64 x=x:=ox x ⟨h0,by omega⟩;have aaP:0<=x*x/\x*x<=18446744056529682436:=⟨sy h0 h0,by have:=By h1 h1 h0 (by omega);omega⟩;rw[hw,ox (x*x) ⟨aaP.1,by omega⟩,M];exact h
 refine⟨λag=>iM _ _ ?_,λag=>iM _ _ (key _ (by omega) (by omega) rfl)⟩;rw[JI (0-W) (by omega)];exact key _ (by omega) (by omega) (by grind)
def Uo{s:N}{a b:J o}{K:o->o->H->Prop}(ae:Ints u s a)(ht:Ints u t b)(az:cY a)(aa:cY b)(aq:a.length=b.length)
  (h:∀x y,cE x->cE y->dw x y=gb a b a.length->K x y u):Hm s t u K:=by
 have ag:=ae.len
 have hm:=ht.len
 have EL:=az.1
 apply aGK
 refine⟨λi x y u'=>u'=u/\0<=i/\i<=(s.n:o)/\cE x/\cE y/\dw x y=gb a b i.toNat,λi _ _ _=>s.n-i.toNat,⟨rfl,by omega,by omega,⟨by omega,by omega⟩,⟨by omega,by omega⟩,rfl⟩,?_⟩
 rintro i x y u' ⟨rfl,h0,h1,M,aj,hw⟩
 refine⟨λhi=>?_,λhi=>?_⟩
 obtain⟨p,ad,I⟩:=ae.at h0 hi
 obtain⟨q,aL,av⟩:=ht.at h0 (show i<(t.n:o) by omega)
 have hle:=GR az aa i.toNat (by omega) (by omega)
 have c1:=az.2 i.toNat (by omega)
 have c2:=aa.2 i.toNat (by omega)
 have aju:=Kh c1 c2
 unfold jP at c1 c2
 refine⟨p,ad,⟨h0,hi⟩,q,aL,⟨h0,by omega⟩,_,I,_,av,⟨by omega,by omega⟩,adn (by omega) ⟨H.le.refl _,?_⟩⟩
 have hu:cE ((a.getD i.toNat 0-b.getD i.toNat 0)*(a.getD i.toNat 0-b.getD i.toNat 0)):=⟨aju.1,by have:=aju.2;unfold lY at this;omega⟩
 have ajV:dw 0 ((a.getD i.toNat 0-b.getD i.toNat 0)*(a.getD i.toNat 0-b.getD i.toNat 0))=lY (a.getD i.toNat 0) (b.getD i.toNat 0):=by unfold dw lY;omega
 refine ado M aj ⟨by omega,by omega⟩ hu (by rw[ajV];omega) λc d I av kQ=>⟨⟨by omega,by omega⟩,⟨rfl,by omega,by omega,I,av,?_⟩,by dsimp only;omega⟩
 rw[kQ,hw,ajV,show(i+1).toNat=i.toNat+1 by omega]
 rfl
 have:i.toNat=a.length:=by omega
 exact h x y M aj (by rw[hw,this])
abbrev bN:=o×o
def bP(a b:bN):ay:=decide (a.2<b.2) ||(decide (a.2=b.2) && decide (a.1<b.1))
def Fi{a b:bN}:bP a b=ai↔a.2<b.2∨(a.2=b.2/\a.1<b.1):=by simp[bP]
def C3{a b:bN}:bP a b=ao↔b.2<a.2∨(b.2=a.2/\b.1<=a.1):=by rw[<-Bool.not_eq_true,Fi];omega
def Mz(a:bN):bP a a=ao:=C3.2 (.inr ⟨rfl,ps _⟩)
def Fh{a b:bN}(h:bP a b=ai):bP b a=ao:=by rw[Fi] at h;rw[C3];omega
def C2{a b c:bN}(h:bP b a=ao)(k:bP c b=ao):bP c a=ao:=by rw[C3] at*;omega
def MA{a b c:bN}(h:bP a b=ai)(k:bP b c=ai):bP a c=ai:=by rw[Fi] at*;omega
def aJs{a b c:bN}(h:bP a b=ai)(k:bP c b=ao):bP a c=ai:=by rw[Fi] at*;rw[C3] at k;omega
def aJr{a b c:bN}(h:bP b a=ao)(k:bP b c=ai):bP a c=ai:=by rw[Fi] at*;rw[C3] at h;omega
theorem Zo{a b:bN}(h:bP b a=ao)(k:bP a b=ao):a=b:=by
 rw[C3] at*
 grind
def o7(l:J bN):Prop:=l.Pairwise λa b=>bP b a=ao
def o7.eq{a b:J bN}(az:o7 a)(aa:o7 b)(h:a.Perm b):a=b:=
 h.eq_of_pairwise (le:=λx y=>bP y x=ao) (λ_ _ _ _ h k=>Zo h k) az aa
def p5(h:bN):J bN->J bN
 | []=>[h]|x::l=>if bP h x then h::x::l else x::p5 h l
def mL:J bN->J bN
 | []=>[]|h::l=>p5 h (mL l)
theorem FM(h:bN)(l:J bN):(p5 h l).Perm (h::l):=by
 induction l with
 |nil=>exact .refl _|cons x l aW=>
  simp only[p5]
  grind
def ake{h:bN}{l:J bN}(aq:o7 l):o7 (p5 h l):=by
 induction l with
 |nil=>exact TA _ _|cons x l aW=>have h1:=ix.1 aq;simp only[p5];split;rename_i M;refine ix.2 ⟨λy aj=>?_,aq⟩;rcases dM.1 aj with rfl|aj;exact Fh M;exact C2 (Fh M) (h1.1 y aj);rename_i M;refine ix.2 ⟨λy aj=>?_,aW h1.2⟩;rcases dM.1 ((FM h l).mem_iff.1 aj) with rfl|aj;simpa using M;exact h1.1 y aj
def vu(l:J bN):(mL l).Perm l:=by
 induction l with
 |nil=>exact .refl _|cons x l aW=>exact(FM x _).trans (j9 x aW)
def Ud(l:J bN):o7 (mL l):=by
 induction l with
 |nil=>exact mG|cons x l aW=>exact ake aW
def amq{a b:J bN}(h:a.Perm b):mL a=mL b:=
 (Ud a).eq (Ud b) ((vu a).trans (h.trans (vu b).symm))
def Uc{a b:J bN}(h:a.Perm b)(ae:o7 a):a=mL b:=ae.eq (Ud b) (h.trans (vu b).symm)
def O8(l:J bN):(mL l).length=l.length:=(vu l).length_eq
def e1(k:O)(l:J bN):J bN:=(mL l).take k
def UG(k:O)(l:J bN):o7 (e1 k l):=List.Pairwise.sublist (sz _ _) (Ud l)
def zX(k:O)(l:J bN):(e1 k l).length=min k l.length:=by simp[e1,O8]
def DS{a b:J bN}(h:a.Perm b):e1 k a=e1 k b:=by simp only[e1,amq h]
def o7.append{a b:J bN}(h:o7 (a++b)):o7 a/\o7 b/\∀x∈a,∀y∈b,bP y x=ao:=tP.1 h
theorem axP(h:bN):∀(k:O) (l:J bN),(p5 h l).take k=(p5 h (l.take k)).take k:=by
 intro k l;induction l generalizing k with
 |nil=>simp|cons x l aW=>
  cases k with
  |zero=>simp|succ k=>
   simp only[p5,Jw];split;simp only[Jw];cases k with
   |zero=>simp|succ k=>grind
   grind
def aDT(k:O)(x:bN)(l:J bN):e1 k (x::l)=e1 k (x::e1 k l):=by have h:mL (e1 k l)=e1 k l:=(Uc (.refl _) (UG k l)).symm;show(p5 x (mL l)).take k=(p5 x (mL (e1 k l))).take k;rw[h,axP];rfl
def aDW{l:J bN}{x:bN}(h:l.length<k):(e1 k (x::l)).Perm (x::l)/\(e1 k l).Perm l:=by have e:∀m:J bN,m.length<=k->e1 k m=mL m:=λm hm=>gC (by rw[O8];exact hm);rw[e _ (by simp;omega),e _ (by omega)];exact⟨vu _,vu _⟩
theorem adM{l:J bN}{x:bN}(hk:k<=l.length)(h:∀y∈e1 k l,bP x y=ao):e1 k (x::l)=e1 k l:=by
 show(p5 x (mL l)).take k=(mL l).take k;have key:∀(k:O) (s:J bN),k<=s.length->(∀y∈s.take k,bP x y=ao)->(p5 x s).take k=s.take k:=by
  intro k s;induction s generalizing k with
  |nil=>grind|cons y s aW=>
   intro hk h;cases k with
   |zero=>simp|succ k=>
    have h0:=h y (by simp);simp only[p5,h0,Dw,Gn,Jw]
    grind
 exact key k _ (by rw[O8];exact hk) h
def aDS{l t:J bN}{x m:bN}(ad:(m::t).Perm (e1 k l))(hm:∀y∈m::t,bP m y=ao)(M:bP x m=ai)(hk:(e1 k l).length=k):
  (x::t).Perm (e1 k (x::l)):=by
 rw[aDT]
 have h1:e1 k (x::e1 k l)=e1 k (m::x::t):=DS ((j9 x ad.symm).trans (List.Perm.swap _ _ _))
 have aq:t.length+1=k:=by rw[<-hk,<-ad.length_eq];simp
 have h2:e1 k (m::x::t)=e1 k (x::t):=by refine adM (by simp[aq]) λy aj=>?_;have:y∈x::t:=(vu _).mem_iff.1 (oW aj);rcases dM.1 this with rfl|h;exact Fh M;exact hm y (by simp[h])
 rw[h1,h2]
 have e:e1 k (x::t)=mL (x::t):=gC (by rw[O8];simp[aq])
 rw[e]
 exact(vu _).symm
def Step.shrink{bs da:J O}{w w':ci}(h:Step u bs w u' da w')(k:u.le u'):Step u bs w u da w':=
 ⟨h.sub.mono k,h.os,h.tape,h.output,h.drawn,h.size,h.rest,λ_ _ e=>e,h.more⟩
def aa9(u:H):(cg:J aI)->hp cg (H->Prop)->hp cg (H->Prop)
 | [],r=>λu'=>u.le u'/\r u|_::cg,K=>λx=>aa9 u cg (K x)
def aEe:∀(cg:J aI) (K:hp cg (H->Prop)) (vs:J ap),(hU cg (aa9 u cg K) vs λr=>r u')->pG cg vs->u.le u'/\hU cg K vs λr=>r u:=by
 intro cg;induction cg with
 |nil=>intro K vs h k;cases k;exact h
 |cons t cg aW=>
  intro K vs h k;cases k with
  |cons x FT=>simp only[hU,aI.vx] at h ⊢;exact aW (K x) _ h FT
def hD.forget{P:dL}{f:j8}{args:cA ap}{ss:J bk}{K:hp (gW ss) (H->Prop)}(h:hD P f args ss u (aa9 u (gW ss) K)):hD P f args ss u K:=by intro w hw;refine(h w hw).mono ?_;rintro e w' ⟨v,u',he,⟨vs,hk,aB,I⟩,ae⟩;obtain⟨hle,dI⟩:=aEe _ _ _ I hk;exact⟨v,u,he,⟨vs,hk,aB,dI⟩,ae.shrink hle⟩
def gP(x:o)(i:O):o:=x/(65536 ^ i:O)%65536
def aq1(x:o)(i:O):0<=gP x i/\gP x i<65536:=by unfold gP;omega
def aCE{a0 Y a2 a3 a4 a5 An Ao fH e7 fy mV pJ rh pK vF:o}{z p:ay}
  (h:(Ao=vF->An=pK->a5=rh->a4=pJ->a3=mV->a2=fy->Y=e7->a0=fH->K 0 u)
   /\((Ao<vF∨Ao=vF/\(An<pK∨An=pK/\(a5<rh∨a5=rh/\(a4<pJ∨a4=pJ/\(a3<mV∨a3=mV/\(a2<fy∨a2=fy/\(Y<e7∨Y=e7/\a0<fH)))))))->K (-1) u)
   /\((vF<Ao∨Ao=vF/\(pK<An∨An=pK/\(rh<a5∨a5=rh/\(pJ<a4∨a4=pJ/\(mV<a3∨a3=mV/\(fy<a2∨a2=fy/\(e7<Y∨Y=e7/\fH<a0)))))))->K 1 u)):
  VT a0 Y a2 a3 a4 a5 An Ao z fH e7 fy mV pJ rh pK vF p u K:=by
 refine hD.forget (ss:=[.one (.int .i64)]) ?_
 apply aGB
 intro n ag m hm
 have nJ:m≠n:=λe=>by rw[e,bh] at hm;cases hm
 generalize kE:((u.ins n _).ins m _)=u'
 have hle:u.le u':=by subst kE;exact(bX _ ag).trans (bX _ hm)
 have yB:∀j v,(#[cN .i64 a0,.int .i64 Y,.int .i64 a2,.int .i64 a3,.int .i64 a4,.int .i64 a5,.int .i64 An,.int .i64 Ao,.bool z]:cA ap)[j]?=some v->u'.cell? ⟨n,j,none⟩=some v:=by intro j v aB;subst kE;exact(aZ (by rw[bz _ _ (e3 nJ)];exact bh _ _ _) j).trans aB
 have l5:∀j v,(#[cN .i64 fH,.int .i64 e7,.int .i64 fy,.int .i64 mV,.int .i64 pJ,.int .i64 rh,.int .i64 pK,.int .i64 vF,.bool p]:cA ap)[j]?=some v->u'.cell? ⟨m,j,none⟩=some v:=by intro j v aB;subst kE;exact(aZ (bh _ _ _) j).trans aB
 clear kE hm ag
 obtain⟨h0,h1,h2⟩:=h
 refine⟨λ_ i v=>v=u'/\ -1<=i/\i<=7/\(i<7->Ao=vF)/\(i<6->An=pK)/\(i<5->a5=rh)/\(i<4->a4=pJ)/\(i<3->a3=mV)/\(i<2->a2=fy)/\(i<1->Y=e7)/\(i<0->a0=fH),
  λ_ i _=>(i+1).toNat,⟨rfl,by omega,by omega,by omega,by omega,by omega,by omega,by omega,by omega,by omega,by omega⟩,?_⟩
 rintro _ i v ⟨rfl,iG,dN,Xi,nE,gI,gz,dG,aN,aT,fi⟩
 refine⟨λhi=>?_,λhi=>⟨hle,h0 (Xi (by omega)) (nE (by omega)) (gI (by omega)) (gz (by omega)) (dG (by omega)) (aN (by omega)) (aT (by omega)) (fi (by omega))⟩⟩
 obtain⟨x,y,HJ,yF,cB,cW,nP⟩:∃x y:o,v.cell? ((cp n 0 none).add (i.toNat*1))=some (.int .i64 x)/\v.cell? ((cp m 0 none).add (i.toNat*1))=some (.int .i64 y)/\
   (x<y->K (-1) u)/\(y<x->K 1 u)/\(x=y->-1<=(i-1)/\(i-1)<=7/\((i-1)<7->Ao=vF)/\((i-1)<6->An=pK)/\((i-1)<5->a5=rh)/\((i-1)<4->a4=pJ)/\((i-1)<3->a3=mV)/\((i-1)<2->a2=fy)/\((i-1)<1->Y=e7)/\((i-1)<0->a0=fH)):=by
  have I:i=0∨i=1∨i=2∨i=3∨i=4∨i=5∨i=6∨i=7:=by omega
  rcases I with rfl|rfl|rfl|rfl|rfl|rfl|rfl|rfl
  exact⟨_,_,yB 0 _ rfl,l5 0 _ rfl,λaq=>h1 (by omega),λaq=>h2 (by omega),λhe=>by omega⟩
  exact⟨_,_,yB 1 _ rfl,l5 1 _ rfl,λaq=>h1 (by omega),λaq=>h2 (by omega),λhe=>by omega⟩
  exact⟨_,_,yB 2 _ rfl,l5 2 _ rfl,λaq=>h1 (by omega),λaq=>h2 (by omega),λhe=>by omega⟩
  exact⟨_,_,yB 3 _ rfl,l5 3 _ rfl,λaq=>h1 (by omega),λaq=>h2 (by omega),λhe=>by omega⟩
  exact⟨_,_,yB 4 _ rfl,l5 4 _ rfl,λaq=>h1 (by omega),λaq=>h2 (by omega),λhe=>by omega⟩
  exact⟨_,_,yB 5 _ rfl,l5 5 _ rfl,λaq=>h1 (by omega),λaq=>h2 (by omega),λhe=>by omega⟩
  exact⟨_,_,yB 6 _ rfl,l5 6 _ rfl,λaq=>h1 (by omega),λaq=>h2 (by omega),λhe=>by omega⟩
  exact⟨_,_,yB 7 _ rfl,l5 7 _ rfl,λaq=>h1 (by omega),λaq=>h2 (by omega),λhe=>by omega⟩
 refine⟨by decide,⟨hi,by omega⟩,by decide,⟨hi,by omega⟩,x,HJ,y,yF,λan=>⟨by decide,⟨hi,by omega⟩,by decide,⟨hi,by omega⟩,x,HJ,y,yF,λaq=>⟨hle,cB aq⟩,λaq=>⟨hle,cW (by omega)⟩⟩,
  λhe=>⟨⟨by omega,by omega⟩,⟨rfl,nP he⟩,by dsimp only;omega⟩⟩
def iH(d:J o):cA ap:=(d.map (λx=>cN .i64 x)++ [gZ ao]).toArray
def H.FN(u:H)(n:O)(a b:Obj):(u.ins n a).ins n b=u.ins n b:=by funext x;unfold H.ins;split<;>rfl
theorem adA{n:O}{d:J o}{T:dC}(av:d.length=8){i:O}(hi:i<8){f:H->Prop}(ab:f (u.ins n (.cells (iH (d.set i x)) T (0,0)))):
  H.aM (u.ins n (.cells (iH d) T (0,0))) ((cp n 0 none).add (i*1)) [.int .i64 x] f:=by
 rw[wz,ib,kY]
 refine⟨iH d,T,bh _ _ _,rfl,by simp[iH,av];omega,by simp[cI],?_⟩
 rw[H.FN]
 have:wr (iH d) i [.int .i64 x]=iH (d.set i x):=by
  show(iH d).setIfInBounds i (.int .i64 x)=_;unfold iH;simp only[alf]
  grind
 show f (u.ins n (.cells (wr (iH d) i [.int .i64 x]) T (0,0)))
 rw[this];exact ab
theorem Un{K:o->o->o->o->o->o->o->o->ay->H->Prop}(az:cE a)(aa:cE b)
  (h:K (gP b 0) (gP b 1) (gP b 2) (gP b 3) (gP a 0) (gP a 1) (gP a 2) (gP a 3) ao u):Hl a b u K:=by
 refine hD.forget (ss:=[.agg [.int .i64,.int .i64,.int .i64,.int .i64,.int .i64,.int .i64,.int .i64,.int .i64,.bool]]) ?_
 apply aGH
 intro n ag
 refine⟨λi x y v=>0<=i/\i<=4/\x=a/(65536 ^ i.toNat:O)/\y=b/(65536 ^ i.toNat:O)/\∃d:J o,d.length=8/\v=u.ins n (.cells (iH d) 155 (0,0))/\∀j,j<i.toNat->d[j]?=some (gP b j)/\d[4+j]?=some (gP a j),
  λi _ _ _=>(4-i).toNat,⟨by omega,by omega,by simp,by simp,[0,0,0,0,0,0,0,0],rfl,rfl,λj aP=>by simp at aP⟩,?_⟩
 rintro i x y v ⟨iG,dN,rfl,rfl,d,av,rfl,I⟩
 obtain⟨yQ,AL⟩:=az
 obtain⟨EW,j6⟩:=aa
 refine⟨λhi=>?_,λhi=>?_⟩
 have ad:(0:o)<(65536 ^ i.toNat:O):=acd.2 (Nat.pow_pos (by decide))
 have tw:0<=a/(65536 ^ i.toNat:O):=ace yQ (by omega)
 have aj0:0<=b/(65536 ^ i.toNat:O):=ace EW (by omega)
 have aaJ:a/(65536 ^ i.toNat:O)<=a:=Int.ediv_le_self _ yQ
 have aKc:b/(65536 ^ i.toNat:O)<=b:=Int.ediv_le_self _ EW
 have nH:a/(65536 ^ i.toNat:O)/65536=a/(65536 ^ (i+1).toNat:O):=by rw[Int.ediv_ediv_of_nonneg (by omega),show(i+1).toNat=i.toNat+1 by omega,Nat.pow_succ];rfl
 have yU:b/(65536 ^ i.toNat:O)/65536=b/(65536 ^ (i+1).toNat:O):=by rw[Int.ediv_ediv_of_nonneg (by omega),show(i+1).toNat=i.toNat+1 by omega,Nat.pow_succ];rfl
 have ex:gP a i.toNat=a/(65536 ^ i.toNat:O)%65536:=rfl
 have r2:gP b i.toNat=b/(65536 ^ i.toNat:O)%65536:=rfl
 generalize a/(65536 ^ i.toNat:O)=x at*
 generalize b/(65536 ^ i.toNat:O)=y at*
 have t1:lE y 65536=y%65536:=TB aj0
 have t2:lE x 65536=x%65536:=TB tw
 have t3:ff y 65536=y/65536:=Dz aj0
 have t4:ff x 65536=x/65536:=Dz tw
 rw[t1,t2,t3,t4,JI (y%65536) (by omega),JI (x%65536) (by omega),ox (y/65536) (by omega),ox (x/65536) (by omega)]
 refine⟨by decide,by decide,⟨iG,by omega⟩,adA av (by omega) ⟨by decide,⟨by omega,by omega⟩,by decide,by decide,⟨by omega,by omega⟩,adA (by simp[av]) (by omega)
  ⟨by decide,⟨by omega,by omega⟩,⟨by omega,by omega,nH,yU,_,?_,rfl,?_⟩,by dsimp only;omega⟩⟩⟩
 simp[av]
 intro j aP
 have gz:(4+i).toNat=4+i.toNat:=by omega
 rw[gz]
 simp only[Jy]
 grind
 have br:i.toNat=4:=by omega
 rw[br] at I
 have g:∀j W,d[j]?=some W->j<8->((u.ins n (.cells (iH d) 155 (0,0))).cell? ⟨n,j,none⟩=some (.int .i64 W)):=by intro j W aE aP;rw[HE];simp[iH,Tp,av,aP];exact(hG.1 aE).2
 have bA:=I 0 (by omega)
 have c1:=I 1 (by omega)
 have c2:=I 2 (by omega)
 have fc:=I 3 (by omega)
 refine⟨_,g 0 _ bA.1 (by omega),_,g 1 _ c1.1 (by omega),_,g 2 _ c2.1 (by omega),_,g 3 _ fc.1 (by omega),_,g 4 _ bA.2 (by omega),_,g 5 _ c1.2 (by omega),_,g 6 _ c2.2 (by omega),_,g 7 _ fc.2 (by omega),ao,?_,bX _ ag,h⟩
 show(u.ins n _).cell? ⟨n,8,none⟩=_
 rw[HE]
 simp[iH,av]
def Um{K:ay->H->Prop}(az:cE a)(aa:cE b)(I:cE c)(av:cE d)(h:K (decide (dw a b<dw c d)) u):Hk a b c d u K:=by
 apply aGC;refine Un az aa ⟨H.le.refl _,Un I av (aCE ?_)⟩;have key:∀W:o,(W<0↔dw a b<dw c d)->K (decide (W<0)) u:=λW aE=>by
  have:decide (W<0)=decide (dw a b<dw c d):=by simp[aE]
  rw[this];exact h
 simp only[cE,dw,gP,Nat.reducePow] at*;refine⟨λ_ _ _ _ _ _ _ _=>key 0 (by omega),λ_=>key (-1) (by omega),λ_=>key 1 (by omega)⟩
def Addr.add_zero'(p:a8):p.add 0=p:=rfl
def cQ(d:o):o:=d/18446744073709551616
def cS(d:o):o:=d%18446744073709551616
def jJ(d:o):Prop:=0<=d/\d<340282366920938463463374607431768211456
def l0(d:o):dw (cQ d) (cS d)=d:=by unfold dw cQ cS;omega
def rF(d:o):cE (cS d):=by unfold cE cS;omega
def yZ(h:jJ d):cE (cQ d):=by unfold jJ at h;unfold cE cQ;omega
def RX(aj:cE y):cQ (dw x y)=x:=by unfold cE at aj;unfold cQ dw;omega
def S2(aj:cE y):cS (dw x y)=y:=by unfold cE at aj;unfold cS dw;omega
def aIf(M:cE x)(aj:cE y):jJ (dw x y):=by unfold cE at M aj;unfold jJ dw;omega
def eO(h:bN):J ap:=[.int .i64 h.1,.int .u64 (cQ h.2),.int .u64 (cS h.2)]
def pO(h:bN):(eO h).length=3:=rfl
def yH(h:bN):∀v∈eO h,v.oneCell'=ai:=by simp[eO,cI]
theorem au0{a b:bN}:(a.1=b.1/\cQ a.2=cQ b.2/\cS a.2=cS b.2)↔a=b:=by
 constructor;rintro⟨h1,h2,h3⟩;have:a.2=b.2:=by rw[<-l0 a.2,<-l0 b.2,h2,h3]
 exact Prod.ext h1 this
 grind
def lL(u:H)(s:N)(l:J bN):Prop:=bw u s 3 (l.flatMap eO)
def lL.len{s:N}{l:J bN}(h:lL u s l):s.n=l.length:=hf pO (by decide) h
def lL.max{s:N}{l:J bN}(h:lL u s l):s.n<=9223372036854775807:=jW (bw.cap h) (bw.max h)
def lL.mono{s:N}{l:J bN}(h:lL u s l)(k:u.le u'):lL u' s l:=bw.mono h k
def lL.at{s:N}{l:J bN}(h:lL u s l)(h0:0<=x)(h1:x<(s.n:o)):∃p,s.a=some p/\∃q:bN,l[x.toNat]?=some q/\
  u.cell? (p.add (x.toNat*3))=some (.int .i64 q.1)/\u.cell? ((p.add (x.toNat*3)).add 1)=some (.int .u64 (cQ q.2))/\u.cell? ((p.add (x.toNat*3)).add 2)=some (.int .u64 (cS q.2)):=by
 have ag:=h.len
 have aq:x.toNat<l.length:=by omega
 obtain⟨p,ad,I⟩:=bw.elem pO (by decide) h (dj aq)
 exact⟨p,ad,_,dj aq,I 0 _ rfl,I 1 _ rfl,I 2 _ rfl⟩
structure ax where
 id:o
 s:N
 v:J o
def cJ(r:ax):J ap:=[.int .i64 r.id,.slice r.s.a r.s.n r.s.c]
def fO(r:ax):(cJ r).length=2:=rfl
def HQ(r:ax):∀v∈cJ r,v.oneCell'=ai:=by simp[cJ,cI]
def dU(u:H)(s:N)(l:J ax):Prop:=bw u s 2 (l.flatMap cJ)/\∀r∈l,Ints u r.s r.v
def dU.len{s:N}{l:J ax}(h:dU u s l):s.n=l.length:=hf fO (by decide) h.1
def dU.max{s:N}{l:J ax}(h:dU u s l):s.n<=9223372036854775807:=jW (bw.cap h.1) (bw.max h.1)
def dU.mono{s:N}{l:J ax}(h:dU u s l)(k:u.le u'):dU u' s l:=⟨bw.mono h.1 k,λr U=>(h.2 r U).mono k⟩
def dU.at{s:N}{l:J ax}(h:dU u s l)(h0:0<=x)(h1:x<(s.n:o)):∃p,s.a=some p/\∃q:ax,l[x.toNat]?=some q/\
  u.cell? (p.add (x.toNat*2))=some (.int .i64 q.id)/\u.cell? ((p.add (x.toNat*2)).add 1)=some (.slice q.s.a q.s.n q.s.c)/\Ints u q.s q.v:=by
 have ag:=h.len
 have aq:x.toNat<l.length:=by omega
 obtain⟨p,ad,I⟩:=bw.elem fO (by decide) h.1 (dj aq)
 exact⟨p,ad,_,dj aq,I 0 _ rfl,I 1 _ rfl,h.2 _ (ln aq)⟩
theorem aCQ{a b:bN}{K:ay->H->Prop}(az:jJ a.2)(aa:jJ b.2)(h:K (bP a b) u):V5 a.1 (cQ a.2) (cS a.2) b.1 (cQ b.2) (cS b.2) u K:=by
 apply aGX;have key:∀W,bP a b=W->K W u:=λW e=>e▸h;refine⟨λag=>Um (yZ az) (rF _) (yZ aa) (rF _) (key _ ?_),λhe=>key _ ?_⟩;rw[l0,l0];have:a.2≠b.2:=λe=>ag (by grind);simp[bP,this];have:a.2=b.2:=by rw[<-l0 a.2,<-l0 b.2,he.1,he.2]
 simp[bP,this]
def aBJ(h:K (if a<b then -1 else if b<a then 1 else 0) u):U9 a b u K:=by have key:∀W,(if a<b then(-1:o) else if b<a then 1 else 0)=W->K W u:=λW e=>e▸h;apply aEC;apply an9;apply an9;simp only[decide_true,Bool.not_true];refine⟨λh=>by simp at h,λ_=>⟨λh=>by simp at h,λ_=>⟨λh1=>key _ (by simp[h1]),λh1=>⟨λh2=>key _ (by simp[h1,h2]),λh2=>key _ (by simp[h1,h2])⟩⟩⟩⟩
def aBK{s:N}(ae:Ints u s [a,b])(h:K (if a≠0 then a else b) u):Va s u K:=by
 have ag:=ae.len;simp only[jq,sw,kY,Nat.reduceAdd] at ag;apply aED;refine⟨λ_ i v=>v=u/\0<=i/\i<=2/\(0<i->a=0)/\(1<i->b=0),λ_ i _=>(2-i).toNat,⟨rfl,by omega,by omega,by omega,by omega⟩,?_⟩;rintro _ i v ⟨rfl,h0,h1,h2,h3⟩;refine⟨λhi=>?_,λhi=>?_⟩;obtain⟨p,ad,I⟩:=ae.at h0 hi;refine⟨p,ad,⟨h0,hi⟩,_,I,?_⟩;have I:i=0∨i=1:=by omega
 rcases I with rfl|rfl;refine⟨λan=>?_,λhe=>⟨⟨by omega,by omega⟩,⟨rfl,by omega,by omega,λ_=>he,by omega⟩,by dsimp only;omega⟩⟩;have an:a≠0:=an;rw[b3 an] at h;exact h;have az:=h2 (by omega);rw[bF (by omega)] at h;refine⟨λan=>h,λhe=>⟨⟨by omega,by omega⟩,⟨rfl,by omega,by omega,λ_=>az,λ_=>he⟩,by dsimp only;omega⟩⟩;have az:=h2 (by omega);have aa:=h3 (by omega);rw[bF (by omega),aa] at h;exact h
def kK:ku aH 30=some (3,1,8,[.int .i64 0]):=by kernel_rfl
def Ct(a b:o):kO aH 30 2 #[(0,.int .i64 a),(1,.int .i64 b)]=some (3,[.int .i64 a,.int .i64 b]):=by kernel_rfl
def I3{ak:H}(h:ak.le u){g:O}(Z:u g=none)(l:J o)(e:dC)(aq:l.length<=9223372036854775807):
  Ints (u.ins g (.cells (l.map λx=>cN .i64 x).toArray e (0,0))) ⟨some ⟨g,0,none⟩,l.length,l.length⟩ l:=by
 have:=(aD.make (k:=1) h Z (cells:=(l.map λx=>cN .i64 x).toArray) (e:=e) (n:=l.length) aq (by simp)).own.cK
 simpa[Ints] using this
def am7{a b:bN}(h:∀W:o,(W<0↔bP a b=ai)->(0<W↔bP b a=ai)->-1<=W->W<=1->K W u):Wg a.1 (cQ a.2) (cS a.2) b.1 (cQ b.2) (cS b.2) u K:=by
 refine hD.forget (ss:=[.one (.int .i64)]) ?_;apply aHk;refine BO (rF _) (rF _) ⟨H.le.refl _,aBJ (mK (Ct _ _) λg Z=>?_)⟩;refine aBK (I3 (H.le.refl u) Z [_,_] 3 (by simp)) ⟨bX _ Z,h _ ?_ ?_ ?_ ?_⟩;rw[l0,l0,Fi]
 (repeat' split)<;>omega
 rw[l0,l0,Fi]
 (repeat' split)<;>omega
 (repeat' split)<;>omega
 omega
theorem Kg{a b:bN}{K:ay->H->Prop}(h:K (bP a b) u):Ca a.1 (cQ a.2) (cS a.2) b.1 (cQ b.2) (cS b.2) u K:=by
 apply aHi;refine am7 λW aE _ _ _=>?_;have:decide (W<0)=bP a b:=by grind
 rw[this];exact h
theorem aCt{s:N}{a b:J bN}{K:ay->H->Prop}(ae:lL u s a)(ht:lL u t b)(h:K (decide (a=b)) u):VI s t u K:=by
 have key:∀W,decide (a=b)=W->K W u:=λW e=>e▸h;have ag:=ae.len;have hm:=ht.len;have tk:=ae.max;apply aGk;refine⟨λan=>key _ ?_,λhe=>?_⟩
 grind
 refine⟨λ_ i v=>v=u/\0<=i/\i<=(s.n:o)/\a.take i.toNat=b.take i.toNat,λ_ i _=>s.n-i.toNat,⟨rfl,by omega,by omega,by simp⟩,?_⟩;rintro _ i v ⟨rfl,h0,h1,ad⟩;refine⟨λhi=>?_,λhi=>key _ ?_⟩;obtain⟨p,ft,x,M,bA,c1,c2⟩:=ae.at h0 hi;obtain⟨q,xE,y,aj,d0,d1,d2⟩:=ht.at h0 (show i<(t.n:o) by omega);refine⟨p,ft,⟨h0,hi⟩,q,xE,⟨h0,by omega⟩,_,bA,_,c1,_,c2,_,d0,_,d1,_,d2,λan=>key _ ?_,λir=>⟨⟨by omega,by omega⟩,⟨rfl,by omega,by omega,?_⟩,by dsimp only;omega⟩⟩
 grind
 have:x=y:=au0.1 ir;have aT:(i+1).toNat=i.toNat+1:=by omega
 rw[aT,fN,fN,ad,M,aj,this];have aT:i.toNat=a.length:=by omega
 grind
def sD(d:o):J o->J ax->o
 |_,[]=>0|seen,r::l=>if r.id<1∨1000000000<r.id∨r.id∈seen then 50 else if gx r.v d≠0 then gx r.v d else sD d (seen++ [r.id]) l
def nr(l:J ax)(d:o):o:=if d<1∨64<d then 30 else if 512<l.length then 2 else sD d [] l
def alI{l:J ax}{i:O}{r:ax}(h:l[i]?=some r):sD d ((l.take i).map (·.id)) (l.drop i)=
  if r.id<1∨1000000000<r.id∨r.id∈(l.take i).map (·.id) then 50 else if gx r.v d≠0 then gx r.v d else sD d ((l.take (i+1)).map (·.id)) (l.drop (i+1)):=by
 have hi:i<l.length:=(hG.1 h).1
 have U:l[i]=r:=(hG.1 h).2
 rw[qV hi,U]
 simp only[sD]
 rw[fN,h]
 simp
def adm{K:ay->H->Prop}(h:K (decide (1<=x/\x<=1000000000)) u):KC x u K:=by
 apply aGL;refine⟨λh1=>?_,λh1=>?_⟩;have:decide (1<=x/\x<=1000000000)=decide (x<=1000000000):=by simp[h1]
 rw[this] at h;exact h;have:decide (1<=x/\x<=1000000000)=ao:=by simp;omega
 rw[this] at h;exact h
theorem aCN{s:N}{l:J ax}(ae:dU u s l)(h:K (if 512<l.length then 2 else sD d [] l) u):V2 s d u K:=by
 have ag:=ae.len;apply aGR;refine⟨λh1=>?_,λh1=>?_⟩;rw[b3 (by omega)] at h;exact h;rw[bF (by omega)] at h;have key:∀W,sD d [] l=W->K W u:=λW e=>e▸h;refine⟨λ_ i v=>v=u/\0<=i/\i<=(s.n:o)/\sD d ((l.take i.toNat).map (·.id)) (l.drop i.toNat)=sD d [] l,λ_ i _=>s.n-i.toNat,⟨rfl,by omega,by omega,by simp⟩,?_⟩;rintro _ i v ⟨rfl,h0,h2,ad⟩;refine⟨λhi=>?_,λhi=>key _ ?_⟩;obtain⟨p,ft,r,U,bA,c1,aB⟩:=ae.at h0 hi;rw[alI U] at ad;refine⟨p,ft,⟨h0,hi⟩,_,bA,adm ⟨λaa=>key _ ?_,λaa=>?_⟩⟩
 grind
 have aa:1<=r.id/\r.id<=1000000000:=by simpa using aa
 refine⟨λ_ k w=>w=v/\0<=k/\k<=i/\r.id∉(l.take k.toNat).map (·.id),λ_ k _=>(i-k).toNat,⟨rfl,by omega,by omega,by simp⟩,?_⟩;rintro _ k w ⟨rfl,iu,cB,hk⟩;refine⟨λy2=>?_,λy2=>?_⟩;obtain⟨q,xE,qf,xF,d0,_,_⟩:=ae.at iu (show k<(s.n:o) by omega);refine⟨q,xE,⟨iu,by omega⟩,p,ft,⟨h0,hi⟩,_,d0,_,bA,λhe=>key _ ?_,λan=>⟨⟨by omega,by omega⟩,⟨rfl,by omega,by omega,?_⟩,by dsimp only;omega⟩⟩;have mb:r.id∈(l.take i.toNat).map (·.id):=by refine bQ.2 ⟨qf,?_,he⟩;refine dz (i:=k.toNat) ?_;rw[Tq,b3 (by omega)];exact xF
 grind
 rw[show(k+1).toNat=k.toNat+1 by omega,fN,xF]
 grind
 have y2:k=i:=by omega
 subst y2;rw[bF (λh=>h.elim (λh=>by omega) λh=>h.elim (λh=>by omega) λh=>hk h)] at ad;refine⟨p,ft,⟨h0,hi⟩,_,c1,Ke aB ⟨λan=>key _ ?_,λhe=>⟨⟨by omega,by omega⟩,⟨rfl,by omega,by omega,?_⟩,by dsimp only;omega⟩⟩⟩;omega
 grind
 rw[vi (by omega)] at ad;exact ad.symm
def GM:Ee aH 166 3 4:=⟨by kernel_rfl,by kernel_rfl,λ_=>by kernel_rfl⟩
def aCS{s:N}{l:J ax}(ae:dU u s l)(h:K (nr l d) u):V7 s d u K:=by have key:∀W,nr l d=W->K W u:=λW e=>e▸h;apply aGZ;refine⟨λh1=>key _ (b3 (.inl h1)),λh1=>⟨λh2=>key _ (b3 (.inr h2)),λh2=>aCN ae (key _ ?_)⟩⟩;unfold nr;rw[bF (by omega)]
theorem Kb{s:N}{l:J ax}(ae:dU u s l)(h:K (nr l d) u):B6 s d u K:=by
 have key:∀W,nr l d=W->K W u:=λW e=>e▸h;have ag:=ae.len;have tk:=ae.max;refine hD.forget (ss:=[.one (.int .i64)]) ?_;apply aEG;intro iK iM;have hle:=H.le.refl u;refine⟨λh1=>⟨hle,key _ (b3 (.inl h1))⟩,λh1=>⟨λh2=>⟨hle,key _ (b3 (.inr h2))⟩,λh2=>⟨λh3=>⟨hle,key _ ?_⟩,λh3=>iM _ _ ?_⟩⟩⟩;unfold nr;omega;have U:nr l d=sD d [] l:=by unfold nr;omega
 rw[U] at key;clear iM iK;refine acX λb aa j7=>?_;refine⟨λ_ i v=>0<=i/\i<=(s.n:o)/\u.le v/\ui v b ((l.take i.toNat).map (·.id))/\sD d ((l.take i.toNat).map (·.id)) (l.drop i.toNat)=sD d [] l,λ_ i _=>s.n-i.toNat,
  ⟨by omega,by omega,bX _ aa,by simpa using j7,by simp⟩,?_⟩
 rintro _ i v ⟨h0,qM,aB,j7,ad⟩;refine⟨λhi=>?_,λhi=>⟨aB,key _ ?_⟩⟩;obtain⟨p,ft,r,cU,bA,c1,RZ⟩:=(ae.mono aB).at h0 hi;rw[alI cU] at ad;refine⟨p,ft,⟨h0,hi⟩,_,bA,_,c1,λaIj asY=>⟨λbr=>⟨aB,key _ ?_⟩,λbr=>⟨λbL=>⟨aB,key _ ?_⟩,λbL=>acW GM j7 ⟨λgA=>⟨aB,key _ ?_⟩,λgA=>asY _ _ ?_⟩⟩⟩⟩;omega;omega
 grind
 have gA:r.id∉(l.take i.toNat).map (·.id):=by simpa using gA
 rw[bF (λh=>h.elim (λh=>by omega) λh=>h.elim (λh=>by omega) λh=>gA h)] at ad;refine qg RZ ⟨λan=>⟨aB,key _ ?_⟩,λhe=>T8 GM j7 gA λb9 M9 mz _=>⟨⟨by omega,by omega⟩,⟨by omega,by omega,?_,?_,?_⟩,by dsimp only;omega⟩⟩;omega;exact λg z Z=>mz g z (aB g z Z) (λe=>by grind);rw[show(i+1).toNat=i.toNat+1 by omega,fN,cU];simpa using M9
 grind
 rw[vi (by omega)] at ad;exact ad.symm
def asked(l:J ax)(q:J o):o:=if gx q q.length≠0 then gx q q.length else nr l q.length
def amy{s:N}{l:J ax}(ae:dU u s l)(ht:Ints u t q)(h:K (asked l q) u):PK s t u K:=by have key:∀W,asked l q=W->K W u:=λW e=>e▸h;apply aEQ;rw[show(t.n:o)=(q.length:o) by rw[ht.len]];refine qg ht ⟨λan=>key _ (b3 an),λhe=>Kb ae (key _ (bF (by simpa using he)))⟩
def n1(h:gx l d=0):1<=d/\d<=64/\(l.length:o)=d/\cY l:=by unfold gx at h;split at h;rename_i h1;split at h;rename_i h2;exact⟨h1.1,h1.2.1,h1.2.2,by omega,h2⟩;cases h;cases h
def xY(h:cY l)(h1:1<=l.length):gx l l.length=0:=by unfold gx;rw[b3 ⟨by omega,by have:=h.1;omega,rfl⟩,b3 h.2]
structure gD(l:J ax)(d:o):Prop where
 dim:1<=d/\d<=64
 len:l.length<=512
 id:∀r∈l,1<=r.id/\r.id<=1000000000
 nodup:(l.map (·.id)).Nodup
 v:∀r∈l,(r.v.length:o)=d/\cY r.v
theorem alH:∀{l:J ax} {seen:J o},sD d seen l=0↔((∀r∈l,1<=r.id/\r.id<=1000000000/\r.id∉seen/\gx r.v d=0)/\(l.map (·.id)).Nodup):=by
 intro l;induction l with
 |nil=>intro seen;simp[sD]
 |cons r l aW=>
  intro seen;simp only[sD]
  grind
def DF{l:J ax}:nr l d=0↔gD l d:=by unfold nr;constructor;intro h;split at h;cases h;split at h;cases h;rename_i h1 h2;obtain⟨h3,br⟩:=alH.1 h;exact⟨by omega,by omega,λr U=>⟨(h3 r U).1,(h3 r U).2.1⟩,br,λr U=>⟨(n1 (h3 r U).2.2.2).2.2.1,(n1 (h3 r U).2.2.2).2.2.2⟩⟩;intro h;have:=h.dim;have:=h.len;rw[bF (by omega),bF (by omega)];refine alH.2 ⟨λr U=>⟨(h.id r U).1,(h.id r U).2,by simp,?_⟩,h.nodup⟩;obtain⟨h1,h2⟩:=h.v r U;rw[<-h1];exact xY h2 (by omega)
structure jx(l:J ax)(q:J o):Prop where
 Ha:cY q
 rows:gD l q.length
def Hz{l:J ax}:asked l q=0↔jx l q:=by unfold asked;constructor;intro h;split at h;rename_i an;exact bf h an;rename_i he;exact⟨(n1 (by simpa using he)).2.2.2,DF.1 h⟩;intro⟨h1,h2⟩;have aB:=xY h1 (by have:=h2.dim;omega);rw[bF (by simp[aB])];exact DF.2 h2
def afC(s t:N):kO aH 133 2 #[(0,.slice s.a s.n s.c),(1,.slice t.a t.n t.c)]=some (30,[.slice s.a s.n s.c,.slice t.a t.n t.c]):=by kernel_rfl
def BN{s:N}{a b:J o}{K:o->o->o->H->Prop}(ae:Ints u s a)(ht:Ints u t b)(az:cY a)(h1:1<=a.length)(aa:cY b)(aq:a.length=b.length)
  (h:∀x y,cE x->cE y->dw x y=gb a b a.length->K x y 0 u):rZ s t u K:=by
 refine hD.forget (ss:=[.agg [.int .u64,.int .u64],.one (.int .i64)]) ?_
 apply aHu
 refine mK (afC _ _) λg Z=>?_
 generalize kE:u.ins g _=u'
 have hle:u.le u':=by subst kE;exact bX _ Z
 have c:∀j v,(#[ed s.a s.n s.c,ed t.a t.n t.c]:cA ap)[j]?=some v->u'.cell? ⟨g,j,none⟩=some v:=by intro j v aB;subst kE;exact(aZ (bh _ _ _) j).trans aB
 clear kE Z
 refine⟨λ_ i _ _ v=>v=u'/\0<=i/\i<=2,λ_ i _ _ _=>(2-i).toNat,⟨rfl,by omega,by omega⟩,?_⟩
 rintro _ i _ _ v ⟨rfl,iG,dN⟩
 rw[show(s.n:o)=(a.length:o) by rw[ae.len]]
 have z6:=xY az h1
 have q9:gx b a.length=0:=by rw[aq];exact xY aa (by omega)
 refine⟨λhi=>⟨_,rfl,⟨iG,hi⟩,?_⟩,λhi=>adt (ae.mono hle) (ht.mono hle) az aa aq λx y M aj hw=>⟨hle,h x y M aj hw⟩⟩
 have hi:i<2:=hi
 have I:i=0∨i=1:=by omega
 rcases I with rfl|rfl
 refine⟨s,c 0 _ rfl,qg (ae.mono hle) ⟨λan=>bf z6 an,λ_=>⟨⟨by omega,by omega⟩,⟨rfl,by omega,by omega⟩,by dsimp only;omega⟩⟩⟩
 refine⟨t,c 1 _ rfl,qg (ht.mono hle) ⟨λan=>bf q9 an,λ_=>⟨⟨by omega,by omega⟩,⟨rfl,by omega,by omega⟩,by dsimp only;omega⟩⟩⟩
def DP{a b:J o}(az:cY a)(aa:cY b)(aq:a.length=b.length):jJ (gb a b a.length):=by have:=GR az aa a.length (by omega) (by omega);have:=az.1;unfold jJ;constructor<;>omega
def hj(q:J o)(r:ax):bN:=(r.id,gb r.v q r.v.length)
def jx.fs{l:J ax}(h:jx l q){r:ax}(U:r∈l):jJ (hj q r).2:=
 DP (h.rows.v r U).2 h.Ha (by have:=(h.rows.v r U).1;omega)
end
