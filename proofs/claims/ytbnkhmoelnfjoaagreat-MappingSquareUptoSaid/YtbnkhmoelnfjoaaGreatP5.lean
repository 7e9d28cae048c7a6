/- Part. -/
import Derived.Test.YtbnkhmoelnfjoaaGreatP4
import Derived.KernelRfl
set_option linter.all false
set_option maxRecDepth 100000
open List renaming length->O
open Option renaming bind->M,some->V,none->A
open Bool renaming false->U,true->I
open Decidable renaming decide->A'
open Go.Proofs.YtbnkhmoelnfjoaaGreat.af renaming mk->EY
open Go.Proofs.YtbnkhmoelnfjoaaGreat.ah renaming mk->Jl
open ByteArray renaming empty->I',mk->NB
open Go.Proofs.YtbnkhmoelnfjoaaGreat.aJ renaming mk->MH
open Go.Proofs.YtbnkhmoelnfjoaaGreat.aj renaming mk->zg
open Go.IntKind renaming wrap->Hk
open Go.Utf8 renaming encode->MX,decode->Lg
noncomputable section
namespace Go.Proofs.YtbnkhmoelnfjoaaGreat
open Go.bM
variable (a:Nat) (b d:Int) (c:aJ) (i:af) (j:aN) (g:Int) (t:bC) (o x:Int) (p:aj) (q:bz) (u:ah) (y:bA) (m s:Int) (rt:aU) (C:aF) (w R:af) (J:dr) (K:G Bool) (F:aG) (D:Int) (ae:Bool) (pu:af) (S:bR) (B aa:Int) (H:cj) (T:ah) (qr:bC) (ab:gM) (vQ:Int) (ul:xN) (au aT:Int) (aw:bA) (E W:ah) (N:dr) (ad:aU) (or:bR) (ai:aN) (ax:bC) (ak:Int) (al:Nat) (ay:aJ) (am:aj) (aW:aba) (a2:Eh) (an:Nat) (ac:Int) (Y:nE) (Z:aj) (pp:bA) (bd:aG) (P:af) (ao:aF) (ap:ah) (az:aP) (bf:mh) (aA:Int) (a3:aN) (bg:gM) (a4 a5 cq:Int) (bh:HC) (bi:af) (bj:aiR) (a6:Nat) (bk:Bool) (aO:bz) (bm:af) (a7:bC) (a8:aj) (bo:cj) (bs:aiQ) (a9:bP) (cs:ah) (bx:Nat) (ct:dr) (bB:Int) (cu:bA) (cv:bC) (cw:aaY) (cx:dA) (bF cz:Int) (bG:af) (bb:aF) (bI:ah) (bJ:Nat) (bO:br) (bQ:aN) (aR:aj) (cB:G Int) (bS:bR) (bT:OM) (cC:auy) (cF:auD) (cG:Nat) (cI:bC) (bV cb:Int) (cK:auB) (cL:abc) (cM:aEP) (cc:Nat) (ce:Int) (cN:aU) (ch cO:Int) (ci:ah) (cR:Tg) (cl:aE) (cT:Nat) (cU:Wf0) (cW:auF) (c9:bz) (db:List (xN×Bool)) (dc:aJ) (cn:aj) (ds:auz) (dv:OM) (co:Nat) (cp dd:Int) (de:bR) (df:af) (dy:gM) (di:aP) (dk:xN) (dl:(Bool×aJ)) (dD:adV) (dF dH:Int) (dm:gU) (dJ:auA) (dL:ZO) (dM:aIQ) (dN:Nat) (dO:bC) (dQ:Wf34) (dR:Wf27) (dS:Nat) (dT:Wf24) (dV:Nat) (dW dX:Int) (d0:aIS) (d1:br) (dn:Nat) (d2:auE) (d3:aJ) (dp:bC) (d4:G Bool) (d5:auG) (d6:af) (d7:aN) (d8:aj) (d9 ea:Int) (ec:List (xN×Bool)) (ed:gg) (ee:ah) (ef:aEQ) (eg:Wf36) (ei:(gg×Int)) (ej:(cj×aG)) (ek:(ah×dr×bR×bA)) (em:(af×cj×gg×Int×aG)) (en:(aN×aN)) (eo:(Bool×Int))
def Ja:AV:=.slice 3 1 (O j) (dP j)
def x216:=fx E0 Tryz.f216 []
def Ps:=Ax x216 Ja bE
def Ba:LS:=⟨[(0,.slice 3 1 (O j) (dP j)),(1,iI g),(5,iI o)],[]⟩
def anW:LS:=⟨[(0,.slice 3 1 (O j) (dP j)),(1,iI g)],[]⟩
def O3 (bw:aER) (f7:aER) (n:Nat) (l0:aN) (n1 i5:Int):G aN:=
 ite (A' (i5<(O l0:Int))) (M (idx l0 i5) λx8=>ite (A' (x8<n1)) (f7 l0 n1 (ba (i5+1))) (bw l0 n1 i5)) (bw l0 n1 i5)
def aNr {bw} (cQ:KK (Ps [1,1,1]) Ba bw) {f7} (aL:KK (Ps (aI 19)) Ba f7) (n:Nat):KK (Ps (aI 19)) Ba (O3 bw f7 n):=λ_ _ _ r h=>ie h (λc0 h=>be h λ_ lr h=>ie h (λc1 h=>ra (aL h) [aZ c0,(3,R3.idx lr),aS c1]) λc1 h=>ra (cQ h) [aZ c0,(3,R3.idx lr),aS c1]) λc0 h=>ra (cQ h) [aZ c0]
def Gg (bw:aER):Nat->aN->Int->Int->G aN
 |0=>dK.z
 |n+1=>O3 bw (Gg bw n) n
def ayX {bw} (cQ:KK (Ps [1,1,1]) Ba bw):∀n:Nat,KK (Ps (aI 19)) Ba (Gg bw n)
 |0=>KC.h
 |n+1=>aNr cQ (ayX cQ n) n
def O2 (n:Nat) (l0:aN) (n1 i5:Int):G aN:=
 M (cut l0 A (V i5)) λx3=>M (app [] x3) λx5=>M (app x5 [n1]) λx9=>M (cut l0 (V i5) A) λdZ=>M (app x9 dZ) λgG=>V gG
def aAP:KK (Ps (aI 31)) Ba (O2 a):=λ_ _ _ r h=>be h λ_ eP h=>be h λ_ jI h=>be h λ_ ir h=>be h λ_ gj h=>be h λgG lD h=>rr h [(0,.born [] [] 36 I 3 1),(2,R3.cut eP),(0,R3.app (xs:= []) jI),(2,R3.kq ir),(2,R3.cut gj),(0,R3.app lD),(1,R3.eD 36 gG),(0,.pN 4 (.sl 0 0 0 0 []))]
def Ws:G aN:=
 ite (A' (o<(O j:Int))) (M (idx j o) λx8=>ite (x8==g) (V j) (O2 a j g o)) (O2 a j g o)
def aNq:KK (Ps [1,1,1]) Ba (Ws a):=λ_ _ _ r h=>ie h (λc0 h=>be h λ_ lr h=>ie h (λc1 h=>rr h [aZ c0,(3,R3.idx lr),aS c1]) λc1 h=>ra (aAP a h) [aZ c0,(3,R3.idx lr),aS c1]) λc0 h=>ra (aAP a h) [aZ c0]
def aly:G aN:=
 Gg (Ws a) a j g 0
def aNp:KK (Ps []) anW (aly a):=λ_ _ r h=>ra (ayX (aNq a) a h) []
def YE:=aly
def aTb:KK (Cx E0 216 Ja bE) anW (YE a):=λ_ _ _ h=>ca (X:=x216) (aNp a h)
def x195:=fx E0 Tryz.f195 []
def BO:=Ax x195 Ja bE
def OZ:=Cx E0 195 Ja bE
def auK (wP:v8):LS:=⟨[(1,.slice 3 1 (O j) (dP j)),aV 2,(15,.ms 15 5 0 (O wP)),(16,iI 2),(17,iI g)],[(2,ll (gC p)),(15,.rows U 105 5 (P6 wP))]⟩
def auL:LS:=⟨[(1,.slice 3 1 (O j) (dP j)),aV 2,(36,iI g),(37,iI o)],[(2,ll (gC p))]⟩
def auM:LS:=⟨[(1,.slice 3 1 (O j) (dP j))],[]⟩
def auR:LS:=⟨[(1,.slice 3 1 (O j) (dP j)),aV 2],[(2,ll (gC p))]⟩
def xd:LS:=⟨[(0,.agg (gC p)),(1,.slice 3 1 (O ai) (dP ai))],[]⟩
def Kw (jk:Tg) (bD:YK) (f7:aN->Int->aj->v8->G aN) (n:Nat) (l1:aN) (a0:Int) (b2:aj) (wP:v8):G aN:=
 ite (A' (a0<2)) (M (eT (O wP) a0) λx2=>M (wP[0+x2]?) λx4=>ite (x4.aB==1) (ite (!A' (x4.dw<0)) (M (YE n l1 x4.dw) λkO=>f7 kO (ba (a0+1)) b2 wP) (f7 l1 (ba (a0+1)) b2 wP)) (f7 l1 (ba (a0+1)) b2 wP)) (bD l1 b2)
def aNB {jk} (qp:KK OZ xd jk) {bD} (cV:KK (BO [1,1]) auR bD) {f7} (aL:KK (BO (aI 85)) auK f7) (n:Nat):KK (BO (aI 85)) auK (Kw jk bD f7 n):=λ_ _ _ _ r h=>ie h (λc0 h=>be h λ_ dq h=>be h λ_ ic h=>let zA:SE:=[aD c0,(0,du dq),(0,YH.row ic)];ie h (λc1 h=>ie h (λc2 h=>be h λ_ mY h=>cD (aL h) zA [bl c1,aZ c2,lY (aTb n mY)]) λc2 h=>cD (aL h) zA [bl c1,aZ c2]) λc1 h=>cD (aL h) zA [bl c1]) λc0 h=>ra (cV h) [aD c0]
def ya (jk:Tg) (bD:YK):Nat->aN->Int->aj->v8->G aN
 |0=>dK.z
 |n+1=>Kw jk bD (ya jk bD n) n
def ayZ {jk} (qp:KK OZ xd jk) {bD} (cV:KK (BO [1,1]) auR bD):∀n:Nat,KK (BO (aI 85)) auK (ya jk bD n)
 |0=>KC.h
 |n+1=>aNB qp cV (ayZ qp cV n) n
def Wx (f7:aN->Int->Int->aj->G aN) (n:Nat) (l1:aN) (a0 L:Int) (b2:aj):G aN:=
 ite (A' (L<a0)) (M (idx b2.fArgs L) λx7=>M (cR x7 l1) λdG=>f7 dG a0 (ba (L+1)) b2) (cU l1)
def aNA {jk} (qp:KK OZ xd jk) {bw} (cQ:KK (BO [1,1,1]) auM bw) {f7} (aL:KK (BO (aI 43)) auL f7) (n:Nat):KK (BO (aI 43)) auL (Wx jk bw f7 n):=λ_ _ _ _ r h=>ie h (λc0 h=>be h λ_ j7 h=>be h λ_ fR h=>ra (aL h) [aD c0,(5,fE.idx j7),jl (qp fR)]) λc0 h=>ra (cQ h) [aD c0]
def JN (jk:Tg) (bw:Wf0):Nat->aN->Int->Int->aj->G aN
 |0=>dK.z
 |n+1=>Wx jk bw (JN jk bw n) n
def ayY {jk} (qp:KK OZ xd jk) {bw} (cQ:KK (BO [1,1,1]) auM bw):∀n:Nat,KK (BO (aI 43)) auL (JN jk bw n)
 |0=>KC.h
 |n+1=>aNA qp cQ (ayY qp cQ n) n
def Ww (jk:Tg) (n:Nat) (l1:aN):G aN:=
 V l1
def aNz {jk} (qp:KK OZ xd jk) (n:Nat):KK (BO [1,1,1]) auM (Ww jk n):=λ_ r h=>rr h []
def Kv:G aN:=
 JN cR (Ww cR cT) cT d7 (O d8.fArgs:Int) 0 d8
def aAQ {jk} (qp:KK OZ xd jk) (n:Nat):KK (BO [1,1]) auR (Kv jk n):=λ_ _ r h=>ra (ayY qp (aNz qp n) n h) []
def alC:G aN:=
 ite (cn.aQ==3) (ya cR (Kv cR cT) cT d7 0 cn [cn.cS,cn.cA]) (Kv cR cT d7 cn)
def aNy {jk} (qp:KK OZ xd jk) (n:Nat):KK (BO []) xd (alC jk n):=λ_ _ r h=>ie h (λc0 h=>ra (ayZ qp (aAQ qp n) n h) [bl c0]) λc0 h=>ra (aAQ qp n h) [bl c0]
def Iu:Nat->aj->aN->G aN
 |0,_,_=>A
 |n+1,p0,l1=>alC (Iu n) n p0 l1
def aHt:∀n:Nat,KK OZ xd (Iu n)
 |0=>λ_ _ _ h=>nz h
 |n+1=>λ_ _ _ h=>ca (X:=x195) (aNy (aHt n) n h)
def x176:=fx E0 Tryz.f176 []
def A176:=Ax x176 Ja bE
def alO:G aN:=
 M (Iu a p []) λx4=>V x4
def aOc:KK (A176 []) Ez (alO a):=λ_ r h=>be h λ_ ic h=>rr h [jN (aHt a ic)]
def Y3:=alO
def aTl:KK (Cx E0 176 Ja bE) Ez (Y3 a):=λ_ _ h=>ca (X:=x176) (aOc a h)
def x143:=fx E0 Tryz.f143 []
def o8:=Ax x143 dj bE
def aes:LS:=⟨[(1,iI b),aV 2,(14,.slice 121 2 (O S) (eK S)),(15,iI B),(16,iI aa),(21,.slice 3 1 (O ai) (dP ai)),(22,iI ak),(23,iI ac)],[(2,iJ (jO ap))]⟩
def Bg:LS:=⟨[(1,iI b),aV 2,(14,.slice 121 2 (O S) (eK S)),(15,iI B),(16,iI aa)],[(2,iJ (jO T))]⟩
def aet:LS:=⟨[(1,iI b),(33,.slice 107 13 (O y) (eh y)),(34,iI m),(35,iI s),(40,.slice 3 1 (O ai) (dP ai)),(41,iI ak),(42,iI ac)],[]⟩
def Bf:LS:=⟨[(1,iI b),(33,.slice 107 13 (O y) (eh y)),(34,iI m),(35,iI s)],[]⟩
def aeu:LS:=⟨[],[]⟩
def aev:LS:=⟨[(1,ck b),aV 2],[(2,iJ (jO u))]⟩
def aop:LS:=⟨[(0,.agg (jO u)),(1,ck m)],[]⟩
def Xr (f7:Int->bR->Int->Int->aN->Int->Int->ah->G Bool) (n:Nat) (gY:Int) (a0:bR) (L ag:Int) (aq:aN) (ar av:Int) (b2:ah):G Bool:=
 ite (A' (av<ar)) (M (idx aq av) λx2=>ite (x2==gY) (V I) (f7 gY a0 L ag aq ar (ba (av+1)) b2)) (d5 gY a0 L ag b2)
def aPE {aH} (aY:KK (o8 (aI 485)) Bg aH) {f7} (aL:KK (o8 (aI 5733)) aes f7) (n:Nat):KK (o8 (aI 5733)) aes (Xr aH f7 n):=λ_ _ _ _ _ _ _ _ r h=>ie h (λc0 h=>be h λ_ dq h=>ie h (λc1 h=>rr h [aD c0,(0,R3.idx dq),bl c1]) λc1 h=>ra (aL h) [aD c0,(0,R3.idx dq),bl c1]) λc0 h=>ra (aY h) [aD c0]
def J6 (aH:auG):Nat->Int->bR->Int->Int->aN->Int->Int->ah->G Bool
 |0=>dK.z
 |n+1=>Xr aH (J6 aH n) n
def azF {aH} (aY:KK (o8 (aI 485)) Bg aH):∀n:Nat,KK (o8 (aI 5733)) aes (J6 aH n)
 |0=>KC.h
 |n+1=>aPE aY (azF aY n) n
def Xq (n:Nat) (gY:Int) (a0:bR) (L ag:Int) (b2:ah):G Bool:=
 d5 gY a0 L (ba (ag+1)) b2
def aPD {bw} (cQ:KK (o8 (aI 21)) Bg bw) (n:Nat):KK (o8 (aI 485)) Bg (Xq bw n):=λ_ _ _ _ _ r h=>ra (cQ h) []
def Xp (mJ:Int->ah->G Bool) (f7:auG) (n:Nat) (gY:Int) (a0:bR) (ag aq:Int) (b2:ah):G Bool:=
 ite (A' (aq<ag)) (M (idx a0 aq) λx2=>J6 (Xq f7 n) n gY a0 ag aq x2.L (O x2.L:Int) 0 b2) (mJ gY b2)
def aPC {mJ} (uL:KK (o8 [1,1]) aev mJ) {f7} (aL:KK (o8 (aI 21)) Bg f7) (n:Nat):KK (o8 (aI 21)) Bg (Xp mJ f7 n):=λ_ _ _ _ _ r h=>ie h (λc0 h=>be h λ_ dq h=>ra (azF (aPD aL n) n h) [aD c0,(0,fT.idx dq)]) λc0 h=>ra (uL h) [aD c0]
def Gs (mJ:Int->ah->G Bool):Nat->Int->bR->Int->Int->ah->G Bool
 |0=>dK.z
 |n+1=>Xp mJ (Gs mJ n) n
def azE {mJ} (uL:KK (o8 [1,1]) aev mJ):∀n:Nat,KK (o8 (aI 21)) Bg (Gs mJ n)
 |0=>KC.h
 |n+1=>aPC uL (azE uL n) n
def Xo (f7:Int->bA->Int->Int->aN->Int->Int->G Bool) (n:Nat) (gY:Int) (a0:bA) (L ag:Int) (aq:aN) (ar av:Int):G Bool:=
 ite (A' (av<ar)) (M (idx aq av) λx2=>ite (x2==gY) (V I) (f7 gY a0 L ag aq ar (ba (av+1)))) (cW gY a0 L ag)
def aPB {cZ} (fy:KK (o8 (aI 971)) Bf cZ) {f7} (aL:KK (o8 (aI 11467)) aet f7) (n:Nat):KK (o8 (aI 11467)) aet (Xo cZ f7 n):=λ_ _ _ _ _ _ _ r h=>ie h (λc0 h=>be h λ_ dq h=>ie h (λc1 h=>rr h [aD c0,(0,R3.idx dq),bl c1]) λc1 h=>ra (aL h) [aD c0,(0,R3.idx dq),bl c1]) λc0 h=>ra (fy h) [aD c0]
def J5 (cZ:auF):Nat->Int->bA->Int->Int->aN->Int->Int->G Bool
 |0=>dK.z
 |n+1=>Xo cZ (J5 cZ n) n
def azD {cZ} (fy:KK (o8 (aI 971)) Bf cZ):∀n:Nat,KK (o8 (aI 11467)) aet (J5 cZ n)
 |0=>KC.h
 |n+1=>aPB fy (azD fy n) n
def Xn (n:Nat) (gY:Int) (a0:bA) (L ag:Int):G Bool:=
 cW gY a0 L (ba (ag+1))
def aPA {dC} (fS:KK (o8 (aI 43)) Bf dC) (n:Nat):KK (o8 (aI 971)) Bf (Xn dC n):=λ_ _ _ _ r h=>ra (fS h) []
def Xm (a0:bA) (L ag:Int):G Bool:=
 ite (A' (ag<L)) (M (idx a0 ag) λx2=>M (Y3 co x2) λx8=>J5 (Xn cW co) co cp a0 L ag x8 (O x8:Int) 0) K
def aPz {iB} (mN:KK (o8 [1,1,1]) aeu iB) {f7} (aL:KK (o8 (aI 43)) Bf f7) (n:Nat):KK (o8 (aI 43)) Bf (Xm iB f7 n):=λ_ _ _ _ r h=>ie h (λc0 h=>be h λ_ dq h=>be h λ_ lr h=>ra (azD (aPA aL n) n h) [aD c0,(0,fE.idx dq),lY (aTl n lr)]) λc0 h=>ra (mN h) [aD c0]
def Gr (iB:G Bool):Nat->Int->bA->Int->Int->G Bool
 |0=>dK.z
 |n+1=>Xm iB (Gr iB n) n
def azC {iB} (mN:KK (o8 [1,1,1]) aeu iB):∀n:Nat,KK (o8 (aI 43)) Bf (Gr iB n)
 |0=>KC.h
 |n+1=>aPz mN (azC mN n) n
def Xl (n:Nat):G Bool:=
 V U
def aPy:KK (o8 [1,1,1]) aeu (Xl a):=λr h=>rr h []
def Xk:G Bool:=
 Gr (Xl a) a b u.aM (O u.aM:Int) 0
def aPx:KK (o8 [1,1]) aev (Xk a):=λ_ _ r h=>ra (azC (aPy a) a h) []
def amt:G Bool:=
 Gs (Xk a) a m u.ar (O u.ar:Int) 0 u
def aPw:KK (o8 []) aop (amt a):=λ_ _ r h=>ra (azE (aPx a) a h) []
def Dw:=amt
def aHP:KK (Cx E0 143 dj bE) aop (Dw a):=λ_ _ _ h=>ca (X:=x143) (aPw a h)
def Jb:AV:=.agg (gC p)
def x177:=fx E0 Tryz.f177 []
def Iz:=Ax x177 Jb bE
def TB:=Cx E0 177 Jb bE
def atU (b6:aj):LS:=⟨[(1,ck b),(2,ck d),aV 3,aV 6],[(3,ll (gC p)),(6,q2_)]⟩
def atc:LS:=⟨[(1,iI b),(2,iI d),aV 3,aV 6,(7,.ms 50 13 0 (O pp)),(38,.slice 107 13 (O y) (eh y)),(39,iI m),(40,iI s)],[(3,ll (gC am)),(6,ll (fO Z .bY)),(50,HZ pp)]⟩
def atd:LS:=⟨[aV 3,aV 6,(7,.ms 50 13 0 (O pp))],[(3,ll (gC p)),(6,ll (fO am .bY)),(50,HZ pp)]⟩
def yZ:LS:=⟨[(0,.agg (gC p)),(1,ck m),(2,ck s)],[]⟩
def O6 (jZ:aaY) (bD:Int->Int->aj->aj->G aj) (n:Nat) (ey iQ:Int) (b3 b6:aj):G aj:=
 ite (b3.cA.aB==1) (M (Mm n b3.cA.dw ey iQ) λfA=>bD ey iQ (zg b3.aQ b3.fZ b3.cS (bP.mk b3.cA.aB fA b3.cA.bp) b3.fArgs) s8) (bD ey iQ b3 s8)
def aAS {jZ} (rj:KK TB yZ jZ) {bD} (cV:KK (Iz [1,1]) atU bD) (n:Nat):KK (Iz (aI 53)) atU (O6 jZ bD n):=λ_ _ _ _ r h=>ie h (λc0 h=>be h λ_ iY h=>ra (cV h) [aZ c0,lX (Vm n iY)]) λc0 h=>ra (cV h) [aZ c0]
def WK (f7:Int->Int->bA->Int->Int->aj->aj->bA->G aj) (n:Nat) (ey iQ:Int) (a0:bA) (L ag:Int) (b3 b6:aj) (qK:bA):G aj:=
 ite (A' (ag<L)) (M (idx a0 ag) λx2=>M (cw x2 ey iQ) λdG=>M (app qK [dG]) λkz=>f7 ey iQ a0 L (ba (ag+1)) b3 (zg b6.aQ b6.fZ b6.cS b6.cA []) kz) (d2 b3 (zg b6.aQ b6.fZ b6.cS b6.cA []) qK)
def aOb {jZ} (rj:KK TB yZ jZ) {bw} (cQ:KK (Iz (aI 31)) atd bw) {f7} (aL:KK (Iz (aI 87)) atc f7) (n:Nat):KK (Iz (aI 87)) atc (WK jZ bw f7 n):=λ_ _ _ _ _ _ _ _ r h=>ie h (λc0 h=>be h λ_ dq h=>be h λdG fR h=>be h λ_ jK h=>ra (aL h) [aD c0,(0,fE.idx dq),uI (rj fR),(0,.laid (bH (Bx.rows U 107 13) (fE.map [dG]).symm)),(0,fE.kq jK)]) λc0 h=>ra (cQ h) [aD c0]
def JS (jZ:aaY) (bw:auE):Nat->Int->Int->bA->Int->Int->aj->aj->bA->G aj
 |0=>dK.z
 |n+1=>WK jZ bw (JS jZ bw n) n
def azg {jZ} (rj:KK TB yZ jZ) {bw} (cQ:KK (Iz (aI 31)) atd bw):∀n:Nat,KK (Iz (aI 87)) atc (JS jZ bw n)
 |0=>KC.h
 |n+1=>aOb rj cQ (azg rj cQ n) n
def alN (jZ:aaY) (n:Nat) (b3 b6:aj) (qK:bA):G aj:=
 V (zg b3.aQ b3.fZ b3.cS b3.cA qK)
def aOa {jZ} (rj:KK TB yZ jZ) (n:Nat):KK (Iz (aI 31)) atd (alN jZ n):=λ_ _ qK r h=>rr h [(5,fE.eD 50 qK),(0,.kH 6 (.flat 0 (uu 12 [.sl 0 0 0 0 []])))]
def GD (b6:aj):G aj:=
 JS cw (alN cw bJ) bJ bV cb cn.fArgs (O cn.fArgs:Int) 0 cn s8 []
def ajH {jZ} (rj:KK TB yZ jZ) (n:Nat):KK (Iz [1,1]) atU (GD jZ n):=λ_ _ _ _ r h=>ra (azg rj (aOa rj n) n h) [(5,.born [7] [] 50 I 107 13)]
def alM:G aj:=
 ite (aR.aQ==3) (ite (aR.cS.aB==1) (M (Mm bJ aR.cS.dw bV cb) λgG=>O6 cw (GD cw bJ) bJ bV cb (zg aR.aQ aR.fZ (bP.mk aR.cS.aB gG aR.cS.bp) aR.cA aR.fArgs) s8) (O6 cw (GD cw bJ) bJ bV cb aR s8)) (GD cw bJ bV cb aR s8)
def aNZ {jZ} (rj:KK TB yZ jZ) (n:Nat):KK (Iz []) yZ (alM jZ n):=λ_ _ _ r h=>ie h (λc0 h=>ie h (λc1 h=>be h λ_ lD h=>ra (aAS rj (ajH rj n) n h) [bl c0,aZ c1,lX (Vm n lD)]) λc1 h=>ra (aAS rj (ajH rj n) n h) [bl c0,aZ c1]) λc0 h=>ra (ajH rj n h) [bl c0]
def Iv:Nat->aj->Int->Int->G aj
 |0,_,_,_=>A
 |n+1,p0,ey,iQ=>alM (Iv n) n p0 ey iQ
def aHB:∀n:Nat,KK TB yZ (Iv n)
 |0=>λ_ _ _ _ h=>nz h
 |n+1=>λ_ _ _ _ h=>ca (X:=x177) (aNZ (aHB n) n h)
def axV:AV:=.agg (fw ek.1 (.ms qC 2 0 (O ek.2.1)) (.ms mQ 2 0 (O ek.2.2.1)) (.ms qB 13 0 (O ek.2.2.2)))
def aoY:List (Nat×Bx):= [(qC,yu ek.2.1),(mQ,DE ek.2.2.1),(qB,Fl ek.2.2.2)]
def x144:=fx E0 Tryz.f144 [qC,mQ,qB]
def ud:=Ax x144 axV aoY
def aew:LS:=⟨[(1,ck b),(2,ck d),aV 3,aV 6,aV 8,(12,.ms mQ 2 0 (O bS)),(13,ck g),(14,ck o),(20,ck x),(21,ck m)],[(3,iJ (fw E (.ms qC 2 0 (O J)) (.ms mQ 2 0 (O bS)) (.ms qB 13 0 (O aw)))),(6,iJ (fw W .bY .bY .bY)),(8,.flat 121 [sR Fu (O bQ),ck bO.aq]),(qC,yu J),(mQ,.tree 121 2 UR (((eK bS)).set dn (qZ d1.aq)) [(dn*2+0,sR Fu (O bQ))]),(qB,Fl aw),(Fu,DD bQ)]⟩
def Be:LS:=⟨[(1,ck b),(2,ck d),aV 3,aV 6,(12,.ms mQ 2 0 (O or)),(13,ck g),(14,ck o)],[(3,iJ (fw E (.ms qC 2 0 (O J)) (.ms mQ 2 0 (O or)) (.ms qB 13 0 (O aw)))),(6,iJ (fw W .bY .bY .bY)),(qC,yu J),(mQ,DE or),(qB,Fl aw)]⟩
def aex:LS:=⟨[(1,ck b),(2,ck d),aV 3,aV 6,(40,ck g),(41,ck o)],[(3,iJ (fw E (.ms qC 2 0 (O J)) (.ms mQ 2 0 (O or)) (.ms qB 13 0 (O aw)))),(6,iJ (fw W .bY .bY .bY)),(qC,yu J),(mQ,DE or),(qB,Fl aw)]⟩
def aey:LS:=⟨[aV 3,aV 6],[(3,iJ (fw E (.ms qC 2 0 (O J)) (.ms mQ 2 0 (O or)) (.ms qB 13 0 (O aw)))),(6,iJ (fw W .bY .bY .bY)),(qC,yu J),(mQ,DE or),(qB,Fl aw)]⟩
def aez:LS:=⟨[(1,ck b),(2,ck d),aV 3,aV 6],[(3,iJ (fw E (.ms qC 2 0 (O J)) (.ms mQ 2 0 (O or)) (.ms qB 13 0 (O aw)))),(6,iJ (fw W .bY .bY .bY)),(qC,yu J),(mQ,DE or),(qB,Fl aw)]⟩
def aoo:LS:=⟨[(0,.agg (fw u (.ms qC 2 0 (O u.L)) (.ms mQ 2 0 (O u.ar)) (.ms qB 13 0 (O u.aM)))),(1,ck m),(2,ck s)],(q19_ qC u mQ qB)⟩
def Xj (f7:Int->Int->Int->Int->Int->Int->dr->bA->ah->ah->br->aN->bR->br->Nat->G (ah×dr×bR×bA)) (n:Nat) (ey iQ a0 L ag ar:Int) (fh:dr) (eW:bA) (b3 b6:ah) (b8:br) (yi:aN) (eM:bR) (wQ:br) (uv:Nat):G (ah×dr×bR×bA):=
 ite (A' (ar<ag)) (M (eT (O yi) ar) λfA=>M (yi[0+fA]?) λiK=>M (Mm n iK ey iQ) λgF=>M (eT (O yi) ar) λjo=>M (yi[0+jo]?) λlK=>M (setAt yi (0+jo) gF) λaB=>f7 ey iQ a0 L ag (ba (ar+1)) fh eW (Jl b3.aK fh b3.av eM eW) (Jl b6.aK [] b6.av [] []) (br.mk aB b8.aq) aB eM (br.mk [] wQ.aq) uv) (M (setAt eM uv (br.mk yi wQ.aq)) λz2=>dL ey iQ a0 L fh eW (Jl b3.aK fh b3.av z2 eW) (Jl b6.aK [] b6.av [] []) z2)
def aPv {aH} (aY:KK (ud (aI 485)) Be aH) {f7} (aL:KK (ud (aI 5733)) aew f7) (n:Nat):KK (ud (aI 5733)) aew (Xj aH f7 n):=λ_ _ _ _ _ _ fh eW b3 _ b8 yi eM wQ uv r h=>ie h (λc0 h=>be h λ_ iY h=>be h λ_ gR h=>be h λgF iC h=>be h λ_ jW h=>be h λ_ j8 h=>be h λ_ zX h=>ra (aL h) [aD c0,(8,du iY),(0,R3.row gR),jl (Vm n iC),(0,du jW),(0,R3.uj 0 [ck gF] j8 zX),(2,.beq 8 (bH (λn_=>(Bx.flat 121 [sR Fu n_,ck b8.aq])) (eB zX))),(0,.beq mQ (bH (λn_=>(Bx.tree 121 2 UR (((eK eM)).set uv (qZ wQ.aq)) [(uv*2+0,sR Fu n_)])) (eB zX)))]) λc0 h=>be h λ_ mo h=>ra (aY h) [aD c0,(0,fT.jf R3 (r:= (qZ wQ.aq)) mQ Fu 0 U 3 1 yi mo),(0,.seq 12 (bH (AV.ms mQ 2 0) (eB mo))),(0,.beq 3 (bH (λn_=>((iJ (fw b3 (.ms qC 2 0 (O fh)) (.ms mQ 2 0 n_) (.ms qB 13 0 (O eW)))))) (eB mo)))]
def J4 (aH:ZO):Nat->Int->Int->Int->Int->Int->Int->dr->bA->ah->ah->br->aN->bR->br->Nat->G (ah×dr×bR×bA)
 |0=>dK.z
 |n+1=>Xj aH (J4 aH n) n
def azB {aH} (aY:KK (ud (aI 485)) Be aH):∀n:Nat,KK (ud (aI 5733)) aew (J4 aH n)
 |0=>KC.h
 |n+1=>aPv aY (azB aY n) n
def Xi (n:Nat) (ey iQ a0 L:Int) (fh:dr) (eW:bA) (b3 b6:ah) (eM:bR):G (ah×dr×bR×bA):=
 dL ey iQ a0 (ba (L+1)) fh eW (Jl b3.aK fh b3.av eM eW) (Jl b6.aK [] b6.av [] []) eM
def aPu {bw} (cQ:KK (ud (aI 21)) Be bw) (n:Nat):KK (ud (aI 485)) Be (Xi bw n):=λ_ _ _ _ _ _ _ _ _ r h=>ra (cQ h) []
def Xh (dC:Wf20) (f7:ZO) (n:Nat) (ey iQ a0 ag:Int) (fh:dr) (eW:bA) (b3 b6:ah) (eM:bR):G (ah×dr×bR×bA):=
 ite (A' (ag<a0)) (M (eT (O eM) ag) λx2=>M (eM[0+x2]?) λu5=>J4 (Xi f7 n) n ey iQ a0 ag (O u5.L:Int) 0 fh eW (Jl b3.aK fh b3.av eM eW) (Jl b6.aK [] b6.av [] []) u5 u5.L eM (br.mk [] u5.aq) (0+x2)) (dC ey iQ fh eW (Jl b3.aK fh b3.av eM eW) (Jl b6.aK [] b6.av [] []) eM)
def aPt {dC} (fS:KK (ud [1,1]) aez dC) {f7} (aL:KK (ud (aI 21)) Be f7) (n:Nat):KK (ud (aI 21)) Be (Xh dC f7 n):=λ_ _ _ _ _ _ _ _ _ r h=>ie h (λc0 h=>be h λ_ dq h=>be h λu5 xR h=>ra (azB (aPu aL n) n h) [aD c0,(0,du dq),(0,fT.pc R3 mQ Fu 0 U 3 1 u5.L xR (qZ u5.aq)),(0,fT.Dd [0] (qZ u5.aq) xR)]) λc0 h=>ra (fS h) [aD c0]
def Gq (dC:Wf20):Nat->Int->Int->Int->Int->dr->bA->ah->ah->bR->G (ah×dr×bR×bA)
 |0=>dK.z
 |n+1=>Xh dC (Gq dC n) n
def azA {dC} (fS:KK (ud [1,1]) aez dC):∀n:Nat,KK (ud (aI 21)) Be (Gq dC n)
 |0=>KC.h
 |n+1=>aPt fS (azA fS n) n
def Xg (cZ:Wf21) (f7:ZO) (n:Nat) (ey iQ a0 L:Int) (fh:dr) (eW:bA) (b3 b6:ah) (eM:bR):G (ah×dr×bR×bA):=
 ite (A' (L<a0)) (M (eT (O eW) L) λfA=>M (eW[0+fA]?) λiK=>M (Iv n iK ey iQ) λgF=>M (eT (O eW) L) λjo=>M (eW[0+jo]?) λlK=>M (setAt eW (0+jo) gF) λag=>f7 ey iQ a0 (ba (L+1)) fh ag (Jl b3.aK fh b3.av eM ag) (Jl b6.aK [] b6.av [] []) eM) (cZ fh eW (Jl b3.aK fh b3.av eM eW) (Jl b6.aK [] b6.av [] []) eM)
def aPs {cZ} (fy:KK (ud [1,1,1]) aey cZ) {f7} (aL:KK (ud (aI 43)) aex f7) (n:Nat):KK (ud (aI 43)) aex (Xg cZ f7 n):=λ_ _ _ _ fh _ b3 _ eM r h=>ie h (λc0 h=>be h λ_ iY h=>be h λ_ gR h=>be h λgF iC h=>be h λ_ jW h=>be h λ_ j8 h=>be h λ_ zX h=>ra (aL h) [aD c0,(8,du iY),(0,fE.row gR),jl (aHB n iC),(0,du jW),(0,fE.uj 0 (gC gF) j8 zX),(2,.beq 3 (bH (λn_=>((iJ (fw b3 (.ms qC 2 0 (O fh)) (.ms mQ 2 0 (O eM)) (.ms qB 13 0 n_))))) (eB zX)))]) λc0 h=>ra (fy h) [aD c0]
def J3 (cZ:Wf21):Nat->Int->Int->Int->Int->dr->bA->ah->ah->bR->G (ah×dr×bR×bA)
 |0=>dK.z
 |n+1=>Xg cZ (J3 cZ n) n
def azz {cZ} (fy:KK (ud [1,1,1]) aey cZ):∀n:Nat,KK (ud (aI 43)) aex (J3 cZ n)
 |0=>KC.h
 |n+1=>aPs fy (azz fy n) n
def ams (n:Nat) (fh:dr) (eW:bA) (b3 b6:ah) (eM:bR):G (ah×dr×bR×bA):=
 V ((Jl b3.aK fh b3.av eM eW),fh,eM,eW)
def aPr:KK (ud [1,1,1]) aey (ams a):=λ_ _ _ _ _ r h=>rr h []
def Xf:G (ah×dr×bR×bA):=
 J3 (ams a) a b d (O aw:Int) 0 J aw (Jl E.aK J E.av or aw) (Jl W.aK [] W.av [] []) or
def aPq:KK (ud [1,1]) aez (Xf a):=λ_ _ _ _ _ _ _ r h=>ra (azz (aPr a) a h) []
def amr:G (ah×dr×bR×bA):=
 Gq (Xf a) a m s (O u.ar:Int) 0 u.L u.aM u (Jl I' [] 0 [] []) u.ar
def aPp:KK (ud []) aoo (amr a):=λ_ _ _ r h=>ra (azA (aPq a) a h) []
def F9:=amr
def aHO:KK (Cx E0 144 axV aoY) aoo (F9 a):=λ_ _ _ _ h=>ca (X:=x144) (aPp a h)
def ZB:=fx E0 Tryz.f145 []
def xG:=Ax ZB dj bE
def aJG (td:gU):LS:=⟨[(0,.slice 110 6 (O ab) (kJ ab)),(1,iI vQ),aV 6,(7,iI au),(8,iI aT),aV 10,(19,.slice 110 6 (O bg) (kJ bg)),(20,iI a4),(21,iI a5),(30,.loc 6 0),(31,.loc 6 0),(32,iI cq),(33,iI bB),(34,.bool U),(36,.slice 110 6 (O dy) (kJ dy)),(37,iI dF),(38,iI dH)],[(6,.flat 110 (CV dm)),(10,.flat 110 (CV td))]⟩
def PQ:LS:=⟨[(0,.slice 110 6 (O ab) (kJ ab)),(1,iI vQ),aV 6,(7,iI au),(8,iI aT),(19,.slice 110 6 (O bg) (kJ bg)),(20,iI a4),(21,iI a5),(30,.loc 6 0),(31,.loc 6 0),(32,iI cq),(33,iI bB),(34,.bool U),(36,.slice 110 6 (O dy) (kJ dy)),(37,iI dF),(38,iI dH)],[(6,.flat 110 (CV dm))]⟩
def afa:LS:=⟨[(0,.slice 110 6 (O ab) (kJ ab)),(1,iI vQ),(7,iI au),(8,iI aT),(19,.slice 110 6 (O bg) (kJ bg)),(20,iI a4),(21,iI a5),(30,.loc 6 0),(31,.loc 6 0),(32,iI cq),(33,iI bB),(34,.bool U)],[(6,.flat 110 (CV dm))]⟩
def PO:LS:=⟨[(0,.slice 110 6 (O ab) (kJ ab)),(1,iI vQ),(19,.slice 110 6 (O bg) (kJ bg)),(20,iI a4),(21,iI a5)],[]⟩
def afb:LS:=⟨[],[]⟩
def aon:LS:=⟨[(0,.slice 110 6 (O ab) (kJ ab)),(1,iI vQ)],[]⟩
def Xe (aH:Wf22) (n:Nat) (l0:gM) (iW p6 oc:Int) (a0:gM) (L ag aq ar:Int) (av:gM) (aC aK:Int) (b6 td:gU):G Bool:=
 ite ((td.f1.aB==b6.f0.aB)&&((td.f1.dt==b6.f0.dt)&&((A' (td.f1.cH=b6.f0.cH))&&I))) (aH l0 iW p6 (ba (oc+1)) a0 L ag aq ar av aC (ba (aK+1)) b6) (aH l0 iW p6 oc a0 L ag aq ar av aC (ba (aK+1)) b6)
def aAX {aH} (aY:KK (xG (aI 89291)) PQ aH) (n:Nat):KK (xG (aI 15097035)) aJG (Xe aH n):=λ_ _ _ _ _ _ _ _ _ _ _ _ _ _ r h=>ie h (λc0 h=>ra (aY h) [bl c0]) λc0 h=>ra (aY h) [bl c0]
def Xd (bw:Wf23) (f7:Wf22) (n:Nat) (l0:gM) (iW p6 oc:Int) (a0:gM) (L ag aq ar:Int) (av:gM) (aC aH:Int) (b6:gU):G Bool:=
 ite (A' (aH<aC)) (M (idx av aH) λx2=>ite ((x2.f0.aB==b6.f0.aB)&&((x2.f0.dt==b6.f0.dt)&&((A' (x2.f0.cH=b6.f0.cH))&&I))) (Xe f7 n l0 iW (ba (p6+1)) oc a0 L ag aq ar av aC aH b6 x2) (Xe f7 n l0 iW p6 oc a0 L ag aq ar av aC aH b6 x2)) (bw l0 iW p6 oc a0 L ag aq ar b6)
def aPo {bw} (cQ:KK (xG (aI 31947)) afa bw) {f7} (aL:KK (xG (aI 89291)) PQ f7) (n:Nat):KK (xG (aI 89291)) PQ (Xd bw f7 n):=λ_ _ _ _ _ _ _ _ _ _ _ _ _ r h=>ie h (λc0 h=>be h λ_ dq h=>ie h (λc1 h=>ra (aAX aL n h) [aD c0,(0,Ge.idx dq),hI c1]) λc1 h=>ra (aAX aL n h) [aD c0,(0,Ge.idx dq),hI c1]) λc0 h=>ra (cQ h) [aD c0]
def J2 (bw:Wf23):Nat->gM->Int->Int->Int->gM->Int->Int->Int->Int->gM->Int->Int->gU->G Bool
 |0=>dK.z
 |n+1=>Xd bw (J2 bw n) n
def azy {bw} (cQ:KK (xG (aI 31947)) afa bw):∀n:Nat,KK (xG (aI 89291)) PQ (J2 bw n)
 |0=>KC.h
 |n+1=>aPo cQ (azy cQ n) n
def Xc (n:Nat) (l0:gM) (iW p6 oc:Int) (a0:gM) (L ag aq ar:Int) (b6:gU):G Bool:=
 ite (p6 !=1) (V U) (ite (oc !=1) (V U) (dT l0 iW a0 L (ba (ag+1))))
def aPn {bD} (cV:KK (xG (aI 43)) PO bD) (n:Nat):KK (xG (aI 31947)) afa (Xc bD n):=λ_ _ _ _ _ _ _ _ _ _ r h=>ie h (λc0 h=>rr h [aX c0]) λc0 h=>ie h (λc1 h=>rr h [aX c0,aS c1]) λc1 h=>ra (cV h) [aX c0,aS c1]
def Xb (l0:gM) (iW:Int) (a0:gM) (L ag:Int):G Bool:=
 ite (A' (ag<L)) (M (idx a0 ag) λx2=>M (Tw dV x2.f0) λx9=>ite (!x9) (V U) (ite (x2.f0.aB !=iW) (V U) (J2 (Xc dT dV) dV l0 iW 0 0 a0 L ag x2.f0.aB iW l0 (O l0:Int) 0 x2))) K
def aPm {cZ} (fy:KK (xG [1,1,1]) afb cZ) {f7} (aL:KK (xG (aI 43)) PO f7) (n:Nat):KK (xG (aI 43)) PO (Xb cZ f7 n):=λ_ _ _ _ _ r h=>ie h (λc0 h=>be h λ_ dq h=>be h λ_ ir h=>let zA:SE:=[aD c0,(0,Ge.idx dq),lX (adJ n ir)];ie h (λc1 h=>bt h zA [aD c1]) λc1 h=>ie h (λc2 h=>bt h zA [aD c1,bN c2]) λc2 h=>cD (azy (aPn aL n) n h) zA [aD c1,bN c2]) λc0 h=>ra (fy h) [aD c0]
def Gn (cZ:G Bool):Nat->gM->Int->gM->Int->Int->G Bool
 |0=>dK.z
 |n+1=>Xb cZ (Gn cZ n) n
def azx {cZ} (fy:KK (xG [1,1,1]) afb cZ):∀n:Nat,KK (xG (aI 43)) PO (Gn cZ n)
 |0=>KC.h
 |n+1=>aPm fy (azx fy n) n
def Pc (n:Nat):G Bool:=
 V I
def aPl:KK (xG [1,1,1]) afb (Pc a):=λr h=>rr h []
def amq:G Bool:=
 ite (A' ((O ab:Int)<1)) (V U) (ite (A' (16<(O ab:Int))) (V U) (Gn (Pc a) a ab vQ ab (O ab:Int) 0))
def aPk:KK (xG []) aon (amq a):=λ_ _ r h=>ie h (λc0 h=>rr h [aZ c0]) λc0 h=>ie h (λc1 h=>rr h [aZ c0,aZ c1]) λc1 h=>ra (azx (aPl a) a h) [aZ c0,aZ c1]
def X5:=amq
def aTB:KK (Cx E0 145 dj bE) aon (X5 a):=λ_ _ _ h=>ca (X:=ZB) (aPk a h)
def adj (r:(af×Bool)):AV:=.dh [.agg (cX r.1),.bool r.2]
def x95:=fx E0 Tryz.f95 []
def qL:=Ax x95 adj bE
def age:LS:=⟨[aV 2,aV 3,aV 4,aV 6,(28,.slice 44 5 (O t) (dI t)),(29,iI o),(30,iI x)],[(2,fW (cX w)),(3,vK (oN ao)),(4,Bp bi),(6,tP bm cm (O a7)),(cm,AL a7)]⟩
def agd:LS:=⟨[aV 3,aV 4,aV 6,(9,.el cm 5 a 0),(12,.ms 231 2 0 (O J)),(235,.ms jM 2 0 (O N)),(236,ck b),(237,ck d)],[(3,vK (oN C)),(4,Bp w),(6,tP R cm (O ax)),(231,yu J),(cm,US (((dI ax)).set a (bZ ap)) (a*5+1) jM (O N)),(jM,yu N)]⟩
def agc:LS:=⟨[aV 3,aV 4,aV 6,(9,.el cm 5 a 0),(12,.ms 231 2 0 (O J))],[(3,vK (oN C)),(4,Bp w),(6,tP R cm (O qr)),(231,yu J),(cm,AL qr)]⟩
def agb:LS:=⟨[aV 2,aV 3,aV 4,aV 6,(15,wu 500340 (O cv)),aV 17,(298,wu 520061 (O cI)),(299,ck b),(300,ck d),(311,ck g),(312,ck o)],[(2,fW (cX w)),(3,vK (oN ao)),(4,Bp bi),(6,tP bm 520061 (O cI)),(17,iJ (fw cs (.ms 1000611 2 0 (O ct)) (.ms 1000613 2 0 (O de)) (.ms 1000614 13 0 (O cu)))),(500340,AL cv),(520061,H3 (((gone o9 co (dI cI))).set cT (cP ci)) (cT*5+4) 1000614 (O cu) (cT*5+3) 1000613 (O de) (cT*5+1) 1000611 (O ct)),(1000611,yu ct),(1000613,DE de),(1000614,Fl cu)]⟩
def aga:LS:=⟨[aV 2,aV 3,aV 4,aV 6,(15,wu 500340 (O a7)),aV 17,(298,wu 520061 (O cv)),(299,ck b),(300,ck d)],[(2,fW (cX i)),(3,vK (oN C)),(4,Bp w),(6,tP R 520061 (O cv)),(17,iJ (fw T (.ms 1000611 2 0 (O N)) (.ms 1000613 2 0 (O de)) (.ms 1000614 13 0 (O pp)))),(500340,AL a7),(520061,H3 (((gone o9 cG (dI cv))).set bJ (cP bI)) (bJ*5+4) 1000614 (O pp) (bJ*5+3) 1000613 (O de) (bJ*5+1) 1000611 (O N)),(1000611,yu N),(1000613,DE de),(1000614,Fl pp)]⟩
def awW:LS:=⟨[aV 2,aV 3,aV 4,aV 6,(15,wu 500340 (O qr)),(298,wu 520061 (O ax)),(299,ck b),(300,ck d)],[(2,fW (cX i)),(3,vK (oN C)),(4,Bp w),(6,tP R 520061 (O ax)),(500340,AL qr),(520061,.tree 44 5 o9 (gone o9 al (dI ax)) [])]⟩
def Uf:LS:=⟨[aV 2,aV 3,aV 4,aV 6,(15,wu 500340 (O qr)),(298,wu 520061 (O ax)),(299,ck b),(300,ck d)],[(2,fW (cX i)),(3,vK (oN C)),(4,Bp w),(6,tP R 520061 (O ax)),(500340,AL qr),(520061,.tree 44 5 o9 (gone o9 al (dI ax)) [])]⟩
def afZ:LS:=⟨[aV 4,aV 6,(15,wu 500340 (O qr))],[(4,Bp i),(6,tP w 520061 (O ax)),(500340,AL qr),(520061,.tree 44 5 o9 (gone o9 al (dI ax)) [])]⟩
def afY:LS:=⟨[aV 4,aV 6],[(4,Bp i),(6,tP w ql (O qr)),(ql,AL qr)]⟩
def aLI:LS:=⟨[aV 2,aV 3,aV 4,aV 6,(9,.el cm 5 a 0),(10,ck b),(11,.bool ae)],[(2,fW (cX pu)),(3,vK (oN ao)),(4,Bp bi),(6,tP bm cm (O a7)),(cm,AL a7)]⟩
def asF:LS:=⟨[aV 2,aV 3,aV 4,aV 6],[(2,fW (cX i)),(3,vK (oN C)),(4,Bp w),(6,tP R cm (O qr)),(cm,AL qr)]⟩
def PF:LS:=⟨(HX (cX i) (oN C)),[]⟩
def zy (H7:Wf25) (f7:bC->Int->Int->af->aF->af->af->bC->G (af×Bool)) (n:Nat) (a0:bC) (L ag:Int) (b2:af) (b3:aF) (b4 b6:af) (bX:bC):G (af×Bool):=
 ite (A' (ag<L)) (M (idx a0 ag) λx2=>M (Dj n x2) λfA=>M (app bX [fA]) λdZ=>M (setAt dZ (O bX) fA) λxJ=>f7 a0 L (ba (ag+1)) b2 b3 (EY b4.aC []) (EY b6.aC xJ) xJ) (H7 b2 b3 (EY b4.aC []) (EY b6.aC bX) bX)
def aUl {H7} (adE:KK (qL (aI 31)) asF H7) {f7} (aL:KK (qL (aI 87)) age f7) (n:Nat):KK (qL (aI 87)) age (zy H7 f7 n):=λ_ _ _ _ _ _ b6 bX r h=>ie h (λc0 h=>be h λ_ dq h=>be h λfA iY h=>be h λ_ gj h=>be h λ_ pC h=>ra (aL h) [aD c0,(0,cy.idx dq),(6,.call (aHQ n iY) [] [(330370001,vi),(330370003,201003),(330370004,201004)]),(1,cy.Nn gj),(2,.beq cm (bH (λq_=>Bx.tree 44 5 o9 q_ (ZI (O bX*5+1) 330370001 fA (O bX*5+3) 330370003 (O bX*5+4) 330370004)) (cy.apS (r:= (cP fA)) gj))),(0,cy.kQ fI (r:= (cP fA)) cm 330370001 1 U 73 2 fA.L pC (ug fA)),(0,cy.kQ fT (r:= (ug fA)) cm 330370003 3 U 121 2 fA.ar pC (oE fA)),(0,cy.jf fE (r:= (oE fA)) cm 330370004 4 U 107 13 fA.aM pC),(2,.beq 6 (bH (tP b6 cm) (((cy.apL gj).trans (eB pC)))))]) λc0 h=>ra (adE h) [aD c0]
def QK (H7:Wf25):Nat->bC->Int->Int->af->aF->af->af->bC->G (af×Bool)
 |0=>dK.z
 |n+1=>zy H7 (QK H7 n) n
def aGh {H7} (adE:KK (qL (aI 31)) asF H7):∀n:Nat,KK (qL (aI 87)) age (QK H7 n)
 |0=>KC.h
 |n+1=>aUl adE (aGh adE n) n
def aeh (bw:Wf26) (f7:Nat->Int->Int->aF->af->af->dr->dr->bC->ah->G (af×Bool)) (n:Nat) (nQ:Nat) (a0 L:Int) (b3:aF) (b4 b6:af) (Dx kp:dr) (bX:bC) (gm:ah):G (af×Bool):=
 ite (A' (L<a0)) (M (eT (O kp) L) λx3=>M (kp[0+x3]?) λx5=>M (Mm n L b3.bc b3.kY) λgF=>M (eT (O Dx) gF) λkO=>M (Dx[0+kO]?) λnP=>M (setAt Dx (0+kO) x5) λag=>f7 nQ a0 (ba (L+1)) b3 (EY b4.aC []) (EY b6.aC bX) ag kp bX (Jl gm.aK [] gm.av gm.ar gm.aM)) (M (setAt bX nQ (Jl gm.aK kp gm.av gm.ar gm.aM)) λz2=>bw nQ b3 (EY b4.aC []) (EY b6.aC z2) Dx z2)
def aUk {bw} (cQ:KK (qL (aI 4060671)) agc bw) {f7} (aL:KK (qL (aI 11400703)) agd f7) (n:Nat):KK (qL (aI 11400703)) agd (aeh bw f7 n):=λ_ _ _ _ _ b6 _ kp _ gm r h=>ie h (λc0 h=>be h λ_ eP h=>be h λx5 jI h=>be h λ_ iC h=>be h λ_ mY h=>be h λ_ pE h=>be h λ_ yz h=>ra (aL h) [aD c0,(1,du eP),(0,fI.row jI),(3,.ord [0,1,2,3,4,5,7,6,8,9]),uI (Vm n iC),(0,du mY),(0,fI.uj 0 (LJ x5) pE yz),(2,.seq 12 (bH (AV.ms 231 2 0) (eB yz)))]) λc0 h=>be h λ_ mo h=>ra (cQ h) [aD c0,(0,cy.jf fI (r:= (bZ gm)) cm jM 1 U 73 2 kp mo),(0,.beq 6 (bH (tP b6 cm) (eB mo)))]
def QJ (bw:Wf26):Nat->Nat->Int->Int->aF->af->af->dr->dr->bC->ah->G (af×Bool)
 |0=>dK.z
 |n+1=>aeh bw (QJ bw n) n
def aGg {bw} (cQ:KK (qL (aI 4060671)) agc bw):∀n:Nat,KK (qL (aI 11400703)) agd (QJ bw n)
 |0=>KC.h
 |n+1=>aUk cQ (aGg cQ n) n
def Rp (b3:aF) (b4 b6:af) (Dx:dr) (bX:bC):G (af×Bool):=
 M (bX[dV]?) λu5=>M (F9 dS (Jl u5.aK Dx u5.av u5.ar u5.aM) b3.bc b3.kY) λgG=>M (setAt bX dV (Jl gG.1.aK gG.2.1 gG.1.av gG.2.2.1 gG.2.2.2)) λa0=>dR (EY b4.aC []) (EY b6.aC a0) a0
def aUj {zc} (N7:KK (qL (aI 2047)) afY zc) (n:Nat):KK (qL (aI 4060671)) agc (Rp zc n):=λ_ _ _ b6 _ _ r h=>be h λu5 xR h=>be h λgG lD h=>be h λ_ Dp h=>ra (N7 h) [(4,cy.holF 1 (bZ u5) xR),(0,cy.ye fT (r:= (bZ u5)) cm nI 3 U 121 2 u5.ar xR (fu u5)),(0,cy.ye fE (r:= (fu u5)) cm nH 4 U 107 13 u5.aM xR (cP u5)),(3,cy.Dd [4,3,1] (cP u5) xR),(4,.call (aHO n lD) [(231,qC),(nI,mQ),(nH,qB)] []),(1,cy.hrwS (cP u5) (cP gG.1) xR),(0,cy.kQ fI (r:= (cP gG.1)) cm 231 1 U 73 2 gG.2.1 Dp (yU gG.1 (.slice 73 2 (O gG.2.1) (eY gG.2.1)))),(0,cy.kQ fT (r:= (yU gG.1 (.slice 73 2 (O gG.2.1) (eY gG.2.1)))) cm nI 3 U 121 2 gG.2.2.1 Dp (yV gG.1 (.slice 73 2 (O gG.2.1) (eY gG.2.1)) (.slice 121 2 (O gG.2.2.1) (eK gG.2.2.1)))),(0,cy.jf fE (r:= (yV gG.1 (.slice 73 2 (O gG.2.1) (eY gG.2.1)) (.slice 121 2 (O gG.2.2.1) (eK gG.2.2.1)))) cm nH 4 U 107 13 gG.2.2.2 Dp),(0,.iS cm ql),(0,.beq 6 (bH (tP b6 ql) (eB Dp)))]
def VV (cZ:Wf28) (f7:Int->Int->Int->Int->af->aF->af->af->ah->dr->bA->bC->bC->ah->Nat->Nat->bR->G (af×Bool)) (n:Nat) (a0 ag ar Sa:Int) (b2:af) (b3:aF) (b4 b6:af) (rQ:ah) (kp:dr) (sZ:bA) (mf bX:bC) (gm:ah) (ju iD:Nat) (o6:bR):G (af×Bool):=
 ite (A' (Sa<ar)) (M (eT (O o6) Sa) λx7=>M (o6[0+x7]?) λfA=>ite (fA.aq==b3.aq) (M (nG ju iD) λaH=>M (setAt bX ju (Jl gm.aK [] gm.av [] [])) λaL=>V (b2,U)) (M (eT (O o6) Sa) λnP=>M (o6[0+nP]?) λDB=>M (Mm n DB.aq b3.aq (-1)) λmm=>M (eT (O o6) Sa) λse=>M (o6[0+se]?) λaB=>M (setAt o6 (0+se) (br.mk aB.L mm)) λaM=>f7 a0 ag ar (ba (Sa+1)) b2 b3 (EY b4.aC []) (EY b6.aC bX) (Jl rQ.aK kp rQ.av aM sZ) kp sZ mf bX (Jl gm.aK [] gm.av [] []) ju iD aM)) (cZ a0 ag b2 b3 (EY b4.aC []) (EY b6.aC bX) (Jl rQ.aK kp rQ.av o6 sZ) kp sZ mf bX (Jl gm.aK [] gm.av [] []) ju iD o6)
def aUi {cZ} (fy:KK (qL (aI 130551903743)) aga cZ) {f7} (aL:KK (qL (aI 371070072319)) agb f7) (n:Nat):KK (qL (aI 371070072319)) agb (VV cZ f7 n):=λ_ _ _ _ _ _ _ _ rQ kp sZ _ bX gm ju iD _ r h=>ie h (λc0 h=>be h λ_ j7 h=>be h λ_ iY h=>let zA:SE:=[aD c0,(5,du j7),(1,fT.row iY)];ie h (λc1 h=>be h λ_ hw14 h=>be h λ_ Fy h=>bt h zA [aS c1,(0,.kH cm (.tree 44 5 o9 [] [])),(0,.beq cm (bH (λq_=>Bx.tree 44 5 o9 q_ []) (cy.asW (l:= o9) (r:= (cP gm)) hw14 Fy)))]) λc1 h=>be h λ_ pE h=>be h λ_ yD h=>be h λmm oK h=>be h λ_ yB h=>be h λ_ hu33 h=>be h λ_ aDc h=>cD (aL h) zA [aS c1,(6,du pE),(1,fT.row yD),jl (Vm n oK),(0,du yB),(1,fT.uj 1 [ck mm] hu33 aDc),(2,.beq 17 (bH (λn_=>((iJ (fw rQ (.ms jM 2 0 (O kp)) (.ms nI 2 0 n_) (.ms nH 13 0 (O sZ)))))) (eB aDc))),(0,.beq cm (bH (λn_=>((H3 (((gone o9 iD (dI bX))).set ju (cP gm)) (ju*5+4) nH (O sZ) (ju*5+3) nI n_ (ju*5+1) jM (O kp)))) (eB aDc)))]) λc0 h=>ra (fy h) [aD c0]
def L6 (cZ:Wf28):Nat->Int->Int->Int->Int->af->aF->af->af->ah->dr->bA->bC->bC->ah->Nat->Nat->bR->G (af×Bool)
 |0=>dK.z
 |n+1=>VV cZ (L6 cZ n) n
def aGf {cZ} (fy:KK (qL (aI 130551903743)) aga cZ):∀n:Nat,KK (qL (aI 371070072319)) agb (L6 cZ n)
 |0=>KC.h
 |n+1=>aUi fy (aGf fy n) n
def aeg (n:Nat) (a0 L:Int) (b2:af) (b3:aF) (b4 b6:af) (rQ:ah) (kp:dr) (sZ:bA) (mf bX:bC) (gm:ah) (ju iD:Nat) (o6:bR):G (af×Bool):=
 M (app mf [(Jl rQ.aK kp rQ.av o6 sZ)]) λx4=>M (setAt x4 (O mf) (Jl rQ.aK kp rQ.av o6 sZ)) λz7=>M (nG ju iD) λw8=>M (setAt bX ju (Jl gm.aK [] gm.av [] [])) λz9=>ef a0 L b2 b3 (EY b4.aC []) (EY b6.aC z9) z7 z9 (iD+1)
def aUh {dC} (fS:KK (qL (aI 8145335807)) awW dC) (n:Nat):KK (qL (aI 130551903743)) aga (aeg dC n):=λ_ _ _ _ _ b6 rQ kp sZ mf _ gm _ _ o6 r h=>be h λ_ ic h=>be h λ_ hz7 h=>be h λ_ hw8 h=>be h λ_ hz9 h=>ra (fS h) [(3,cy.Nn ic),(0,.beq 500340 (bH (λq_=>Bx.tree 44 5 o9 q_ [(O mf*5+1,.ms jM 2 0 (O kp)),(O mf*5+3,.ms nI 2 0 (O o6)),(O mf*5+4,.ms nH 13 0 (O sZ))]) (cy.apS (r:= (cP rQ)) ic))),(1,cy.kQ fI (r:= (cP rQ)) 500340 jM 1 U 73 2 kp hz7 (yU rQ (.slice 73 2 (O kp) (eY kp)))),(0,cy.kQ fT (r:= (yU rQ (.slice 73 2 (O kp) (eY kp)))) 500340 nI 3 U 121 2 o6 hz7 (yV rQ (.slice 73 2 (O kp) (eY kp)) (.slice 121 2 (O o6) (eK o6)))),(0,cy.jf fE (r:= (yV rQ (.slice 73 2 (O kp) (eY kp)) (.slice 121 2 (O o6) (eK o6)))) 500340 nH 4 U 107 13 sZ hz7),(0,.kH cm (.tree 44 5 o9 [] [])),(0,.beq cm (bH (λq_=>Bx.tree 44 5 o9 q_ []) (cy.asW (l:= o9) (r:= (cP gm)) hw8 hz9))),(0,.seq 15 (bH (AV.ms 500340 5 0) (((cy.apL ic).trans (eB hz7))))),(0,.seq 298 (bH (AV.ms cm 5 0) (eB hz9))),(0,.beq 6 (bH (tP b6 cm) (eB hz9)))]
def Ro (n:Nat) (a0 L:Int) (b2:af) (b3:aF) (b4 b6:af) (mf bX:bC) (iD:Nat):G (af×Bool):=
 ef a0 (ba (L+1)) b2 b3 (EY b4.aC []) (EY b6.aC bX) mf bX iD
def aIo {iB} (mN:KK (qL (aI 360707583)) Uf iB) (n:Nat):KK (qL (aI 8145335807)) awW (Ro iB n):=λ_ _ _ _ _ _ _ _ _ r h=>ra (mN h) []
def VU (mJ:Wf30) (f7:aEQ) (n:Nat) (a0 ag:Int) (b2:af) (b3:aF) (b4 b6:af) (mf bX:bC) (iD:Nat):G (af×Bool):=
 ite (A' (ag<a0)) (M (eT (O bX) ag) λx3=>M (bX[0+x3]?) λu6=>M (nG (0+x3) iD) λw7=>ite (ag==b3.aq) (M (setAt bX (0+x3) (Jl u6.aK [] u6.av [] [])) λaB=>Ro f7 n a0 ag b2 b3 (EY b4.aC []) (EY b6.aC aB) mf aB (iD+1)) (L6 (aeg (Ro f7 n) n) n a0 ag (O u6.ar:Int) 0 b2 b3 (EY b4.aC []) (EY b6.aC bX) u6 u6.L u6.aM mf bX (Jl u6.aK [] u6.av [] []) (0+x3) iD u6.ar)) (mJ (EY b4.aC []) (EY b6.aC bX) mf bX iD)
def aUg {mJ} (uL:KK (qL (aI 125826559)) afZ mJ) {f7} (aL:KK (qL (aI 360707583)) Uf f7) (n:Nat):KK (qL (aI 360707583)) Uf (VU mJ f7 n):=λ_ _ _ _ _ b6 _ _ _ r h=>ie h (λc0 h=>be h λ_ eP h=>be h λu6 CG h=>be h λ_ hw7 h=>let zA:SE:=[aD c0,(1,du eP),(0,cy.aLD fI o9 hw7 cm jM 1 U 73 2 u6.L CG (bZ u6)),(0,cy.awN fT o9 hw7 (bZ u6) cm nI 3 U 121 2 u6.ar CG (fu u6)),(0,cy.awN fE o9 hw7 (fu u6) cm nH 4 U 107 13 u6.aM CG (cP u6)),(0,cy.aRX o9 hw7 [4,3,1] (cP u6) CG)];ie h (λc1 h=>be h λ_ Fy h=>cD (aIo aL n h) zA [dz c1,(0,.kH cm (.tree 44 5 o9 [] [])),(0,.beq cm (bH (λq_=>Bx.tree 44 5 o9 q_ []) (cy.asW (l:= o9) (r:= (cP u6)) hw7 Fy))),(0,.seq 298 (bH (AV.ms cm 5 0) (eB Fy))),(0,.beq 6 (bH (tP b6 cm) (eB Fy)))]) λc1 h=>cD (aGf (aUh (aIo aL n) n) n h) zA [dz c1]) λc0 h=>ra (uL h) [aD c0]
def HD (mJ:Wf30):Nat->Int->Int->af->aF->af->af->bC->bC->Nat->G (af×Bool)
 |0=>dK.z
 |n+1=>VU mJ (HD mJ n) n
def aGe {mJ} (uL:KK (qL (aI 125826559)) afZ mJ):∀n:Nat,KK (qL (aI 360707583)) Uf (HD mJ n)
 |0=>KC.h
 |n+1=>aUg uL (aGe uL n) n
def Rn (n:Nat) (b4 b6:af) (mf bX:bC) (iD:Nat):G (af×Bool):=
 dR (EY b4.aC []) (EY b6.aC mf) mf
def aUf {zc} (N7:KK (qL (aI 2047)) afY zc) (n:Nat):KK (qL (aI 125826559)) afZ (Rn zc n):=λ_ _ _ _ _ r h=>ra (N7 h) [(3,.iS 500340 ql)]
def oA (b4 b6:af) (Tc:bC):G (af×Bool):=
 M (F94 a (EY b6.aC Tc)) λx3=>V ((EY b6.aC Tc),x3==0)
def LX:KK (qL (aI 2047)) afY (oA a):=λ_ _ Tc r h=>be h λ_ eP h=>rr h [(0,cy.tfr U ql Tc),jl (aDT a eP)]
def xv (bX:bC):G (af×Bool):=
 ite (bb.aQ==1) (M (Tw a bb.bp) λx7=>ite (!x7) (V (bm,U)) (ite (bb.bp.aB !=bb.aB) (V (bm,U)) (M (bX[al]?) λCn=>M (app Cn.L [(bW.mk bb.aK bb.aB)]) λrN=>M (setAt bX al (Jl Cn.aK rN Cn.av Cn.ar Cn.aM)) λaY=>oA a (EY df.aC []) (EY d6.aC aY) aY))) (ite (bb.aQ==2) (M (bX[al]?) λu7=>ite (!bk) (M (setAt bX al u7) λxJ=>V (bm,U)) (M (Tw a bb.bp) λkz=>ite (!kz) (M (setAt bX al u7) λaq=>V (bm,U)) (M (eT (O u7.L) bb.bc) λmm=>M (u7.L[0+mm]?) λrN=>ite (bb.bp.aB !=rN.aB) (M (setAt bX al u7) λb0=>V (bm,U)) (M (Dw a u7 bb.bc) λIW=>ite IW (M (setAt bX al u7) λxI=>V (bm,U)) (M (setAt bX al u7) λxI=>M (xI[al]?) λvN=>M (ou (O vN.L) bb.bc) λx55=>M (yH (O vN.L) (ba (bb.bc+1))) λx64=>M (BK vN.L x55 (List.take (O vN.L-x64) (List.drop (0+x64) vN.L))) λx66=>M (F9 a (Jl vN.aK x66 vN.av vN.ar vN.aM) bb.bc (-1)) λpL=>M (setAt xI al (Jl pL.1.aK pL.2.1 pL.1.av pL.2.2.1 pL.2.2.2)) λb4=>oA a (EY df.aC []) (EY d6.aC b4) b4))))) (ite (bb.aQ==3) (ite (!bk) (V (bm,U)) (M (bX[al]?) λjh=>ite (A' (bb.kY<jh.av)) (V (bm,U)) (ite (!A' (bb.kY<ac)) (V (bm,U)) (M (rT ac ((bW.mk I' 0):bW)) λmm=>M (bX[al]?) λa0=>QJ (Rp (oA a) a) a al (O a0.L:Int) 0 bb (EY df.aC []) (EY d6.aC bX) mm a0.L bX (Jl a0.aK [] a0.av a0.ar a0.aM))))) (ite (bb.aQ==4) (ite (A' (bb.bc<0)) (V (bm,U)) (ite (!A' (bb.bc<ac)) (V (bm,U)) (M (bX[al]?) λMI=>M (eT (O MI.L) bb.bc) λse=>M (MI.L[0+se]?) λoD=>M (setAt MI.L (0+se) (bW.mk bb.aK oD.aB)) λaL=>M (setAt bX al (Jl MI.aK aL MI.av MI.ar MI.aM)) λaY=>oA a (EY df.aC []) (EY d6.aC aY) aY))) (ite (bb.aQ==5) (M (bX[al]?) λCn=>M (setAt bX al (Jl bb.aK Cn.L Cn.av Cn.ar Cn.aM)) λag=>oA a (EY df.aC []) (EY d6.aC ag) ag) (ite (bb.aQ==7) (HD (Rn (oA a) a) a (O bX:Int) 0 bm bb (EY df.aC []) (EY d6.aC bX) [] bX 0) (M (bX[al]?) λkC=>ite (!bk) (M (setAt bX al kC) λaH=>V (bm,U)) (M (eT (O kC.L) bb.bc) λmm=>M (kC.L[0+mm]?) λrN=>M (X5 a bb.cg rN.aB) λoD=>ite (!oD) (M (setAt bX al kC) λb1=>V (bm,U)) (M (Dw a kC bb.bc) λNa=>ite Na (M (setAt bX al kC) λb2=>V (bm,U)) (M (setAt bX al kC) λb2=>oA a (EY df.aC []) (EY d6.aC b2) b2)))))))))
def aIn:KK (qL (aI 1023)) aLI (xv a):=λnQ _ _ _ b3 _ b6 bX r h=>ie h (λc0 h=>be h λ_ j7 h=>let zA:SE:=[aS c0,jN (adJ a j7)];ie h (λc1 h=>bt h zA [aD c1]) λc1 h=>ie h (λc2 h=>bt h zA [aD c1,dz c2]) λc2 h=>be h λCn Yw h=>be h λrN uJ h=>be h λaq QF h=>cD (LX a h) zA [aD c1,dz c2,(1,cy.pc fI cm jM 1 U 73 2 Cn.L Yw (bZ Cn)),(11,fI.kq uJ),(2,cy.zZ 1 (bZ Cn) (bZ Cn) Yw),(0,cy.jf fI (r:= (bZ Cn)) cm jM 1 U 73 2 rN QF),(0,.iS cm ql),(0,.beq 6 (bH (tP b6 ql) (eB QF)))]) λc0 h=>let zA:SE:=[aS c0];ie h (λc1 h=>be h λu7 NZ h=>let zB:SE:=dx zA [aX c1,(1,cy.pc fI cm jM 1 U 73 2 u7.L NZ (bZ u7)),(0,cy.ye fT (r:= (bZ u7)) cm nI 3 U 121 2 u7.ar NZ (fu u7)),(0,cy.ye fE (r:= (fu u7)) cm nH 4 U 107 13 u7.aM NZ (cP u7))];ie h (λc2 h=>be h λ_ pC h=>bt h zB [aX c2,(6,cy.kQ fE (r:= (cP u7)) cm nH 4 U 107 13 u7.aM pC (fu u7)),(0,cy.kQ fT (r:= (fu u7)) cm nI 3 U 121 2 u7.ar pC (bZ u7)),(0,cy.jf fI (r:= (bZ u7)) cm jM 1 U 73 2 u7.L pC)]) λc2 h=>be h λ_ jK h=>let zC:SE:=dx zB [aX c2,jN (adJ a jK)];ie h (λc3 h=>be h λ_ yz h=>bt h zC [aD c3,(5,cy.kQ fE (r:= (cP u7)) cm nH 4 U 107 13 u7.aM yz (fu u7)),(0,cy.kQ fT (r:= (fu u7)) cm nI 3 U 121 2 u7.ar yz (bZ u7)),(0,cy.jf fI (r:= (bZ u7)) cm jM 1 U 73 2 u7.L yz)]) λc3 h=>be h λmm oK h=>be h λrN uJ h=>let zD:SE:=dx zC [aD c3,(8,cy.Dd [4,3,1] (cP u7) NZ),(2,du oK),(1,fI.row uJ)];ie h (λc4 h=>be h λ_ aDb h=>bt h zD [aD c4,(3,cy.kQ fE (r:= (cP u7)) cm nH 4 U 107 13 u7.aM aDb (fu u7)),(0,cy.kQ fT (r:= (fu u7)) cm nI 3 U 121 2 u7.ar aDb (bZ u7)),(0,cy.jf fI (r:= (bZ u7)) cm jM 1 U 73 2 u7.L aDb)]) λc4 h=>be h λ_ SQ h=>let zE:SE:=dx zD [aD c4,(4,cy.Dd [4,3,1] (cP u7) NZ),(2,.Aj (aHP a SQ) [fI.eD jM u7.L,fT.tfr U nI u7.ar,fE.eD nH u7.aM] trivial [] [])];ie h (λc5 bq=>by subst c5;exact (be bq λxI sX bq=>bt bq zE [(1,cy.kQ fE (r:= (cP u7)) cm nH 4 U 107 13 u7.aM sX (fu u7)),(0,cy.kQ fT (r:= (fu u7)) cm nI 3 U 121 2 u7.ar sX (bZ u7)),(0,cy.jf fI (r:= (bZ u7)) cm jM 1 U 73 2 u7.L sX)])) λc5 bq=>by subst c5;exact (be bq λxI sX bq=>be bq λvN VK bq=>be bq λx55 hx55 bq=>be bq λx64 Yx bq=>be bq λx66 aDh bq=>be bq λpL aDf bq=>be bq λaB Z0 bq=>cD (LX a bq) zE [(1,cy.kQ fE (r:= (cP u7)) cm nH 4 U 107 13 u7.aM sX (fu u7)),(0,cy.kQ fT (r:= (fu u7)) cm nI 3 U 121 2 u7.ar sX (bZ u7)),(0,cy.jf fI (r:= (bZ u7)) cm jM 1 U 73 2 u7.L sX),(0,cy.pc fI cm jM 1 U 73 2 vN.L VK (bZ vN)),(7,fI.ou (xs:=vN.L) hx55 (qz rfl)),(7,fI.yH (xs:=vN.L) Yx (qz rfl)),(0,fI.appB aDh (apP Yx (qz rfl))),(2,cy.zZ 1 (bZ vN) (bZ vN) VK),(0,cy.ye fT (r:= (bZ vN)) cm nI 3 U 121 2 vN.ar VK (fu vN)),(0,cy.ye fE (r:= (fu vN)) cm nH 4 U 107 13 vN.aM VK (cP vN)),(3,cy.Dd [4,3,1] (cP vN) VK),(2,.call (aHO a aDf) [(jM,qC),(nI,mQ),(nH,qB)] []),(1,cy.hrwS (cP vN) (cP pL.1) VK),(0,cy.kQ fI (r:= (cP pL.1)) cm jM 1 U 73 2 pL.2.1 Z0 (yU pL.1 (.slice 73 2 (O pL.2.1) (eY pL.2.1)))),(0,cy.kQ fT (r:= (yU pL.1 (.slice 73 2 (O pL.2.1) (eY pL.2.1)))) cm nI 3 U 121 2 pL.2.2.1 Z0 (yV pL.1 (.slice 73 2 (O pL.2.1) (eY pL.2.1)) (.slice 121 2 (O pL.2.2.1) (eK pL.2.2.1)))),(0,cy.jf fE (r:= (yV pL.1 (.slice 73 2 (O pL.2.1) (eY pL.2.1)) (.slice 121 2 (O pL.2.2.1) (eK pL.2.2.1)))) cm nH 4 U 107 13 pL.2.2.2 Z0),(0,.iS cm ql),(0,.beq 6 (bH (tP b6 ql) (((py Z0).trans (py sX)).symm)))])) λc1 h=>let zB:SE:=dx zA [aX c1];ie h (λc2 h=>let zC:SE:=dx zB [aX c2];ie h (λc3 h=>bt h zC [aS c3]) λc3 h=>be h λ_ iX h=>let zD:SE:=dx zC [aS c3,(6,cy.row iX)];ie h (λc4 h=>bt h zD [aD c4]) λc4 h=>ie h (λc5 h=>bt h zD [aD c4,bN c5]) λc5 h=>be h λmm oK h=>be h λa0 hu35 h=>cD (aGg (aUj (LX a) a) a h) zD [aD c4,bN c5,(2,fI.made oK),(0,.seq 231 (bH (AV.ms 231 2 0) ((K0 oK)))),(4,cy.pc fI cm jM 1 U 73 2 a0.L hu35 (bZ a0))]) λc2 h=>let zC:SE:=dx zB [aX c2];ie h (λc3 h=>ie h (λc4 h=>bt h zC [aX c3,aZ c4]) λc4 h=>ie h (λc5 h=>bt h zC [aX c3,aZ c4,bl c5]) λc5 h=>be h λMI hu20 h=>be h λ_ yB h=>be h λoD xE h=>be h λag hz34 h=>be h λaq QF h=>cD (LX a h) zC [aX c3,aZ c4,bl c5,(1,cy.pc fI cm jM 1 U 73 2 MI.L hu20 (bZ MI)),(8,du yB),(1,fI.uj 0 [.str b3.aK] xE hz34),(0,.beq cm (bH (US (((dI bX)).set nQ (bZ MI)) (nQ*5+1) jM) (eB hz34))),(0,cy.jf fI (r:= (bZ MI)) cm jM 1 U 73 2 ag QF),(0,.iS cm ql),(0,.beq 6 (bH (tP b6 ql) (eB QF)))]) λc3 h=>let zD:SE:=dx zC [aX c3];ie h (λc4 h=>be h λCn Yw h=>be h λ_ Lp h=>cD (LX a h) zD [aX c4,(6,cy.uj 0 [.str b3.aK] Yw Lp),(0,.iS cm ql),(0,.beq 6 (bH (tP b6 ql) (eB Lp)))]) λc4 h=>let zE:SE:=dx zD [aX c4];ie h (λc5 h=>cD (aGe (aUf (LX a) a) a h) zE [aX c5,(6,.beq cm (bH (λq_=>Bx.tree 44 5 o9 q_ []) (aMM (l:= o9) (Q:=dI bX)))),(0,.born [15] [] 500340 I 44 5)]) λc5 h=>be h λkC On h=>let zF:SE:=dx zE [aX c5,(1,cy.pc fI cm jM 1 U 73 2 kC.L On (bZ kC)),(0,cy.ye fT (r:= (bZ kC)) cm nI 3 U 121 2 kC.ar On (fu kC)),(0,cy.ye fE (r:= (fu kC)) cm nH 4 U 107 13 kC.aM On (cP kC))];ie h (λc6 h=>be h λ_ Vi h=>bt h zF [aX c6,(4,cy.kQ fE (r:= (cP kC)) cm nH 4 U 107 13 kC.aM Vi (fu kC)),(0,cy.kQ fT (r:= (fu kC)) cm nI 3 U 121 2 kC.ar Vi (bZ kC)),(0,cy.jf fI (r:= (bZ kC)) cm jM 1 U 73 2 kC.L Vi)]) λc6 h=>be h λmm oK h=>be h λrN uJ h=>be h λoD xE h=>let zG:SE:=dx zF [aX c6,(6,cy.Dd [4,3,1] (cP kC) On),(2,du oK),(1,fI.row uJ),kj (aTB a xE)];ie h (λc7 h=>be h λ_ aDa h=>bt h zG [aD c7,(3,cy.kQ fE (r:= (cP kC)) cm nH 4 U 107 13 kC.aM aDa (fu kC)),(0,cy.kQ fT (r:= (fu kC)) cm nI 3 U 121 2 kC.ar aDa (bZ kC)),(0,cy.jf fI (r:= (bZ kC)) cm jM 1 U 73 2 kC.L aDa)]) λc7 h=>be h λ_ SP h=>let zH:SE:=dx zG [aD c7,(4,cy.Dd [4,3,1] (cP kC) On),(2,.Aj (aHP a SP) [fI.eD jM kC.L,fT.tfr U nI kC.ar,fE.eD nH kC.aM] trivial [] [])];ie h (λc8 bq=>by subst c8;exact (be bq λav NX bq=>bt bq zH [(1,cy.kQ fE (r:= (cP kC)) cm nH 4 U 107 13 kC.aM NX (fu kC)),(0,cy.kQ fT (r:= (fu kC)) cm nI 3 U 121 2 kC.ar NX (bZ kC)),(0,cy.jf fI (r:= (bZ kC)) cm jM 1 U 73 2 kC.L NX)])) λc8 bq=>by subst c8;exact (be bq λav NX bq=>cD (LX a bq) zH [(1,cy.kQ fE (r:= (cP kC)) cm nH 4 U 107 13 kC.aM NX (fu kC)),(0,cy.kQ fT (r:= (fu kC)) cm nI 3 U 121 2 kC.ar NX (bZ kC)),(0,cy.jf fI (r:= (bZ kC)) cm jM 1 U 73 2 kC.L NX),(0,.iS cm ql),(0,.beq 6 (bH (tP b6 ql) (eB NX)))])
def C7:G (af×Bool):=
 ite (C.aQ==6) (M (Dj a C.bu) λx8=>M (app qr [x8]) λdG=>M (setAt dG (O qr) x8) λa0=>M (F94 a (EY R.aC a0)) λkO=>V ((EY R.aC a0),kO==0)) (ite (A' (C.aq<0)) (V (i,U)) (ite (!A' (C.aq<(O i.ag:Int))) (V (i,U)) (M (eT (O qr) C.aq) λkO=>M (qr[0+kO]?) λrO=>ite (!A' (C.bc<rO.av)) (M (setAt qr (0+kO) rO) λxI=>xv a (0+kO) (O rO.L:Int) (A' (C.bc<(O rO.L:Int))) i C (EY w.aC []) (EY R.aC xI) xI) (M (setAt qr (0+kO) rO) λar=>xv a (0+kO) (O rO.L:Int) U i C (EY w.aC []) (EY R.aC ar) ar))))
def aNa:KK (qL (aI 31)) asF (C7 a):=λ_ _ _ b6 bX r h=>ie h (λc0 h=>be h λx8 lr h=>be h λ_ fR h=>be h λa0 Fy h=>be h λkO mY h=>rr h [aS c0,(4,.call (aHQ a lr) [] [(330490001,vi),(330490003,201003),(330490004,201004)]),(1,cy.Nn fR),(2,.beq cm (bH (λq_=>Bx.tree 44 5 o9 q_ (ZI (O bX*5+1) 330490001 x8 (O bX*5+3) 330490003 (O bX*5+4) 330490004)) (cy.apS (r:= (cP x8)) fR))),(0,cy.kQ fI (r:= (cP x8)) cm 330490001 1 U 73 2 x8.L Fy (ug x8)),(0,cy.kQ fT (r:= (ug x8)) cm 330490003 3 U 121 2 x8.ar Fy (oE x8)),(0,cy.jf fE (r:= (oE x8)) cm 330490004 4 U 107 13 x8.aM Fy),(0,.seq 51 (bH (AV.ms cm 5 0) (((cy.apL fR).trans (eB Fy))))),(0,.beq 6 (bH (tP b6 cm) (((cy.apL fR).trans (eB Fy))))),(0,cy.tfr U cm a0),jl (aDT a mY)]) λc0 h=>ie h (λc1 h=>rr h [aS c0,aS c1]) λc1 h=>let zA:SE:=[aS c0,aS c1];ie h (λc2 h=>bt h zA [dz c2]) λc2 h=>be h λkO mY h=>be h λrO VH h=>let zB:SE:=dx zA [dz c2,(5,du mY),(4,cy.pc fI cm jM 1 U 73 2 rO.L VH (bZ rO)),(8,cy.rowS (bZ rO) VH)];ie h (λc3 h=>be h λ_ sX h=>cD (aIn a h) zB [aD c3,(7,cy.jf fI (r:= (bZ rO)) cm jM 1 U 73 2 rO.L sX),(0,.beq 6 (bH (tP b6 cm) (eB sX)))]) λc3 h=>be h λ_ hz40 h=>cD (aIn a h) zB [aD c3,(3,cy.jf fI (r:= (bZ rO)) cm jM 1 U 73 2 rO.L hz40),(0,.beq 6 (bH (tP b6 cm) (eB hz40)))]
def VW:G (af×Bool):=
 M (RL a C) λx6=>ite (!x6) (V (i,U)) (QK (C7 a) a i.ag (O i.ag:Int) 0 i C (EY 0 []) (EY (ba (i.aC+1)) []) [])
def aMZ:KK (qL []) PF (VW a):=λ_ _ r h=>be h λ_ km h=>ie h (λc0 h=>rr h [lX (aHR a km),aD c0]) λc0 h=>ra (aGh (aNa a) a h) [lX (aHR a km),aD c0,(10,.born [] [(6,1)] cm I 44 5)]
def F95:=VW
def ev95:KK (Cx E0 95 adj bE) PF (F95 a):=λ_ _ _ h=>ca (X:=x95) (aMZ a h)
def adn:AV:=.dh [.ms bL 2 0 (O ei.1),ck ei.2]
def UM:List (Nat×Bx):= [(bL,UK ei.1)]
def x40:=fx E0 Tryz.f40 [1]
def A40:=AxS x40 [1] adn UM
def C40:=CxS E0 40 [1] adn UM
def agL:LS:=⟨[(7,.ms 29 2 0 (O ed)),(30,.ms 1 15 0 (O H)),(31,ck b),(32,ck d)],[(1,Fj H),(29,UK ed)]⟩
def agK:LS:=⟨[(7,.ms 29 2 0 (O ed))],[(1,Fj H),(29,UK ed)]⟩
def axq:LS:=⟨[(0,.agg (cX i)),(1,.ms 1 15 0 (O H))],[(1,Fj H)]⟩
def Rv (aH:Wt9_) (f7:Int->Int->cj->gg->G (gg×Int)) (n:Nat) (a0 L:Int) (dg:cj) (nT:gg):G (gg×Int):=
 ite (A' (L<a0)) (M (eT (O dg) L) λx2=>M (dg[0+x2]?) λx4=>M (eT (O nT) (ba ((O nT:Int)-1))) λiK=>M (nT[0+iK]?) λkz=>M (F95 n kz x4) λjh=>ite (!jh.2) (V ([],280)) (M (app nT [jh.1]) λse=>f7 a0 (ba (L+1)) dg se)) (aH dg nT)
def aVW {aH} (aY:KK (A40 (aI 63)) agK aH) {f7} (aL:KK (A40 (aI 175)) agL f7) (n:Nat):KK (A40 (aI 175)) agL (Rv aH f7 n):=λ_ _ _ _ r h=>ie h (λc0 h=>be h λ_ dq h=>be h λ_ ic h=>be h λ_ gR h=>be h λ_ jK h=>be h λ_ iX h=>let zA:SE:=[aD c0,(0,du dq),(0,OP.row ic),(2,.ord [0,1,2,3,4,5,6,11,7,8,9,10,12,13]),(4,du gR),(0,DQ.row jK),jl (ev95 n iX)];ie h (λc1 h=>MM h (dx zA [dz c1,(2,.born [4] [] bL U 25 2)])) λc1 h=>be h λ_ yB h=>Je (aL h) bv (dx zA [dz c1,(3,DQ.kq yB)])) λc0 h=>Je (aY h) bv [aD c0]
def Ej (aH:Wt9_):Nat->Int->Int->cj->gg->G (gg×Int)
 |0=>dK.z
 |n+1=>Rv aH (Ej aH n) n
def aGF {aH} (aY:KK (A40 (aI 63)) agK aH):∀n:Nat,KK (A40 (aI 175)) agL (Ej aH n)
 |0=>KC.h
 |n+1=>aVW aY (aGF aY n) n
def Ru (n:Nat) (dg:cj) (nT:gg):G (gg×Int):=
 V (nT,0)
def aVV:KK (A40 (aI 63)) agK (Ru a):=λ_ _ r h=>MM h [(3,.iS 29 bL)]
def aeS:G (gg×Int):=
 M (F94 a i) λx5=>ite (x5 !=0) (V ([],x5)) (ite (A' (8<(O H:Int))) (V ([],2)) (ite (A' (1000<(ba (i.aC+(O H:Int))))) (V ([],2)) (Ej (Ru a) a (O H:Int) 0 H [i])))
def aVU:KK (A40 []) axq (aeS a):=λ_ _ r h=>be h λ_ jI h=>let zA:SE:=[lY (aDT a jI)];ie h (λc0 h=>MM h (dx zA [aS c0,(3,.born [4] [] bL U 25 2)])) λc0 h=>ie h (λc1 h=>MM h (dx zA [aS c0,aS c1,(4,.born [4] [] bL U 25 2)])) λc1 h=>ie h (λc2 h=>MM h (dx zA [aS c0,aS c1,dz c2,(3,.born [4] [] bL U 25 2)])) λc2 h=>Je (aGF (aVV a) a h) bv (dx zA [aS c0,aS c1,dz c2])
def F40:=aeS
def aDZ:KK C40 axq (F40 a):=λ_ _ _ h=>caS (X:=x40) (aVU a h)
def aFM:AV:=.ms bL 15 0 (O ej.1)
def ays:List (Nat×Bx):= [(0,kn (eN ej.2)),(bL,Fj ej.1)]
def xw:=fx E0 Tryz.f39 [0]
def Da:=Ax xw aFM ays
def aMe:LS:=⟨[aV 0,aV 4,(7,.ms 227 15 0 (O H)),(8,ck b),aV 12],[(0,kn (eN F)),(4,fW (cX pu)),(12,vK (oN ao)),(227,Fj H)]⟩
def zu:LS:=⟨[aV 0,aV 4,(7,.ms 227 15 0 (O H)),(8,ck b)],[(0,kn (eN F)),(4,fW (cX pu)),(227,Fj H)]⟩
def aMd:LS:=⟨[aV 0,aV 4,(7,.ms 227 15 0 (O H)),(8,ck b),aV 11,aV 12],[(0,kn (eN F)),(4,fW (cX pu)),(11,fW (cX P)),(12,vK (oN ao)),(227,Fj H)]⟩
def aMc:LS:=⟨[aV 0,aV 4,(7,.ms 227 15 0 (O H)),(8,ck b),aV 11,aV 12,aV 13],[(0,kn (eN F)),(4,fW (cX pu)),(11,fW (cX P)),(12,vK (ae9 ao (iI 0) (iI 0) (.str I') (iI 0) (iI 0) (iI 0) (.str I') (.str I') (iI 0))),(13,iJ (jO ap)),(227,Fj H)]⟩
def aMb:LS:=⟨[aV 0,aV 4,(7,.ms 227 15 0 (O H)),(8,ck b),aV 11,aV 12],[(0,kn (eN F)),(4,fW (cX pu)),(11,fW (cX P)),(12,vK (ae9 ao (iI 0) (iI 0) (.str I') (iI 0) (iI 0) (iI 0) (.str I') (.str I') (iI 0))),(227,Fj H)]⟩
def agM:LS:=⟨[(7,.ms 227 15 0 (O H))],[(0,kn (eN F)),(227,Fj H)]⟩
def axr:LS:=⟨[aV 0,(1,.agg (cX pu)),(2,ck B)],(sS (eN F))⟩
def We:G (cj×aG):=
 M (app [] bo) λx3=>M (app x3 [bb]) λx7=>M (F40 an P x7) λx9=>ite (x9.2==0) (M (app bo [bb]) λlK=>aW ac bd P lK) (aW ac bd P bo)
def aIB {aH} (aY:KK (Da (aI 459)) zu aH) (n:Nat):KK (Da (aI 2096715)) aMe (We aH n):=λ_ _ _ _ _ r h=>be h λ_ eP h=>be h λ_ j7 h=>be h λ_ ir h=>let zA:SE:=[(0,.born [] [] 215 I 46 15),(2,OP.kq (xs:= []) eP),(2,OP.kq j7),(0,.call (aDZ n ir) [(215,1)] [(321900,bL)])];ie h (λda h=>be h λ_ j8 h=>cD (aY h) zA [bN da,(3,OP.kq j8)]) λda h=>cD (aY h) zA [bN da]
def HL (n:Nat) (n8:Int) (b0:aG) (b4:af) (ij:cj):G (cj×aG):=
 aW (ba (n8-1)) b0 b4 ij
def atY {dC} (fS:KK (Da (aI 43)) zu dC) (n:Nat):KK (Da (aI 459)) zu (HL dC n):=λ_ _ _ _ r h=>ra (fS h) []
def uU:G (cj×aG):=
 ite (bb.aQ==7) (ite (A' ((O bG.ag:Int)<2)) (HL aW an ac bd P bo) (We (HL aW an) an ac bd P bo bb)) (We (HL aW an) an ac bd P bo bb)
def Ak {dC} (fS:KK (Da (aI 43)) zu dC) (n:Nat):KK (Da (aI 1048139)) aMd (uU dC n):=λ_ _ _ _ _ _ r h=>ie h (λda h=>ie h (λc1 h=>ra (atY fS n h) [aS da,bl c1]) λc1 h=>ra (aIB (atY fS n) n h) [aS da,bl c1]) λda h=>ra (aIB (atY fS n) n h) [aS da]
def Wd:G (cj×aG):=
 M (rS an bd (ite (1<(ba ((O bI.L:Int)-bI.av))) (ba ((O bI.L:Int)-bI.av)) 1)) λdG=>M (cat (NB #[110]) (MX (Hk .i32 (ba (97+(O bo:Int)))))) λlK=>M (rS an dG.2 26) λiq=>M (cat ((NB #[110])++(MX (Hk .i32 (ba (97+(O bo:Int)))))) (MX (Hk .i32 (ba (97+iq.1))))) λmm=>ite (bb.aQ==1) (M (rS an iq.2 3) λuZ=>M (F93 an uZ.2 (ba (3+uZ.1))) λIV=>uU aW an ac IV.2 P bo bG (aF.mk bb.aQ bb.aq 0 0 (((NB #[110])++(MX (Hk .i32 (ba (97+(O bo:Int))))))++(MX (Hk .i32 (ba (97+iq.1))))) (ba (3+uZ.1)) IV.1 bb.cg (Jl I' bb.bu.L 0 bb.bu.ar bb.bu.aM))) (ite (bb.aQ==2) (ite (A' ((ba (bI.av+dG.1))<(O bI.L:Int))) (M (idx bI.L (ba (bI.av+dG.1))) λx49=>M (F93 an iq.2 x49.aB) λa0=>uU aW an ac a0.2 P bo bG (aF.mk bb.aQ bb.aq (ba (bI.av+dG.1)) 0 I' 0 a0.1 bb.cg (Jl I' bb.bu.L 0 bb.bu.ar bb.bu.aM))) (uU aW an ac iq.2 P bo bG (aF.mk bb.aQ bb.aq (ba (bI.av+dG.1)) 0 I' 0 pr bb.cg (Jl I' bb.bu.L 0 bb.bu.ar bb.bu.aM)))) (ite (bb.aQ==3) (M (rS an iq.2 (ite (1<(ba ((O bI.L:Int)-bI.av))) (ba ((O bI.L:Int)-bI.av)) 1)) λx50=>uU aW an ac x50.2 P bo bG (aF.mk bb.aQ bb.aq (ba (bI.av+dG.1)) (ba (bI.av+x50.1)) I' 0 pr bb.cg (Jl I' bb.bu.L 0 bb.bu.ar bb.bu.aM))) (ite (bb.aQ==4) (M (rS an iq.2 (ite (1<(O bI.L:Int)) (O bI.L:Int) 1)) λDz=>uU aW an ac Dz.2 P bo bG (aF.mk bb.aQ bb.aq Dz.1 0 (((NB #[110])++(MX (Hk .i32 (ba (97+(O bo:Int))))))++(MX (Hk .i32 (ba (97+iq.1))))) 0 pr bb.cg (Jl I' bb.bu.L 0 bb.bu.ar bb.bu.aM))) (ite (bb.aQ==5) (uU aW an ac iq.2 P bo bG (aF.mk bb.aQ bb.aq 0 0 (((NB #[110])++(MX (Hk .i32 (ba (97+(O bo:Int))))))++(MX (Hk .i32 (ba (97+iq.1))))) 0 pr bb.cg (Jl I' bb.bu.L 0 bb.bu.ar bb.bu.aM))) (ite (bb.aQ==6) (M (Gz an (NB #[105,100]) 4) λDz=>M (Gz an (NB #[110,111,116,101]) 5) λx48=>uU aW an ac iq.2 P bo bG (aF.mk bb.aQ 0 0 0 I' 0 pr bb.cg (Jl (((NB #[110])++(MX (Hk .i32 (ba (97+(O bo:Int))))))++(MX (Hk .i32 (ba (97+iq.1))))) [Dz,x48] 1 [] []))) (ite (bb.aQ==8) (ite (A' ((ba (bI.av+dG.1))<(O bI.L:Int))) (M (idx bI.L (ba (bI.av+dG.1))) λag=>M (F93 an iq.2 ag.aB) λqX=>M (F93 an qX.2 ag.aB) λs9=>ite ((qX.1.aB==s9.1.aB)&&((qX.1.dt==s9.1.dt)&&((A' (qX.1.cH=s9.1.cH))&&I))) (M (ou 2 1) λaC=>uU aW an ac s9.2 P bo bG (aF.mk bb.aQ bb.aq (ba (bI.av+dG.1)) 0 I' 0 pr ([(gU.mk qX.1 s9.1),(gU.mk s9.1 qX.1)].take aC) (Jl I' bb.bu.L 0 bb.bu.ar bb.bu.aM))) (uU aW an ac s9.2 P bo bG (aF.mk bb.aQ bb.aq (ba (bI.av+dG.1)) 0 I' 0 pr [(gU.mk qX.1 s9.1),(gU.mk s9.1 qX.1)] (Jl I' bb.bu.L 0 bb.bu.ar bb.bu.aM)))) (uU aW an ac iq.2 P bo bG (aF.mk bb.aQ bb.aq (ba (bI.av+dG.1)) 0 I' 0 pr bb.cg (Jl I' bb.bu.L 0 bb.bu.ar bb.bu.aM)))) (uU aW an ac iq.2 P bo bG (aF.mk bb.aQ bb.aq 0 0 I' 0 pr bb.cg (Jl I' bb.bu.L 0 bb.bu.ar bb.bu.aM)))))))))
def aIA {dC} (fS:KK (Da (aI 43)) zu dC) (n:Nat):KK (Da (aI 130635)) aMc (Wd dC n):=λ_ _ _ _ _ cJ lM r h=>be h λdG fR h=>be h λ_ j8 h=>be h λ_ oo h=>be h λ_ oK h=>let zA:SE:=[(10,.call (o5 n fR) [(0,0)] []),(7,.cat (LR j8).1),(1,.call (o5 n oo) [(0,0)] []),(3,.cat (LR oK).1)];ie h (λda h=>be h λ_ yA h=>be h λ_ aDm h=>cD (Ak fS n h) zA [aZ da,(3,.call (o5 n yA) [(0,0)] []),(8,.call (S1 n aDm) [(0,0)] [])]) λda h=>let zB:SE:=dx zA [aZ da];ie h (λc1 h=>ie h (λc2 h=>be h λ_ hx49 h=>be h λ_ aDk h=>cD (Ak fS n h) zB [aX c1,iO c2,(4,fI.idx hx49),(2,.call (S1 n aDk) [(0,0)] [])]) λc2 h=>cD (Ak fS n h) zB [aX c1,iO c2]) λc1 h=>let zC:SE:=dx zB [aX c1];ie h (λc2 h=>be h λ_ hx50 h=>cD (Ak fS n h) zC [aX c2,(1,.ord [0,1,2,3,4,5,6,7,8,9,10,13,11,12,14,15,16]),(12,.call (o5 n hx50) [(0,0)] [])]) λc2 h=>let zD:SE:=dx zC [aX c2];ie h (λc3 h=>be h λDz SN h=>cD (Ak fS n h) zD [aX c3,(6,.call (o5 n SN) [(0,0)] [])]) λc3 h=>let zE:SE:=dx zD [aX c3];ie h (λc4 h=>cD (Ak fS n h) zE [aX c4]) λc4 h=>let zF:SE:=dx zE [aX c4];ie h (λc5 h=>be h λDz SN h=>be h λx48 aDl h=>cD (Ak fS n h) zF [aX c5,jl (FV n SN),kj (FV n aDl),(6,fI.eD 163 [Dz,x48])]) λc5 h=>let zG:SE:=dx zF [aX c5];ie h (λc6 h=>ie h (λc7 h=>be h λ_ hx58 h=>be h λqX aDi h=>be h λs9 hx69 h=>let zH:SE:=dx zG [aX c6,iO c7,(3,fI.idx hx58),(5,.call (S1 n aDi) [(0,0)] []),(2,.call (S1 n hx69) [(0,0)] [])];ie h (λc8 h=>be h λa0 aDe h=>cD (Ak fS n h) zH [(15,eb c8),(2,Ge.ou (xs:= [(gU.mk qX.1 s9.1),(gU.mk s9.1 qX.1)]) aDe (qz rfl)),(2,.pN 194 (.undef)),(0,.pN 200 (.undef)),(0,.shr 194 (Ge.take [(gU.mk qX.1 s9.1),(gU.mk s9.1 qX.1)] a0)),(0,.seq 201 (bH (AV.ms 194 6 0) ((Co (xs:= [(gU.mk qX.1 s9.1),(gU.mk s9.1 qX.1)]) (lO (uq aDe).2 (qz rfl))).symm))),(0,.beq 12 (bH (λn_=>(Bx.flat 46 [iI cJ.aQ,iI cJ.aq,iI (ba (lM.av+dG.1)),iI 0,.str I',iI 0,iI 0,iI 0,.str I',.ms 194 6 0 n_,.str I',.slice 73 2 (O cJ.bu.L) (eY cJ.bu.L),iI 0,.slice 121 2 (O cJ.bu.ar) (eK cJ.bu.ar),.slice 107 13 (O cJ.bu.aM) (eh cJ.bu.aM)])) ((Co (xs:= [(gU.mk qX.1 s9.1),(gU.mk s9.1 qX.1)]) (lO (uq aDe).2 (qz rfl))).symm))),(0,Ge.eD 194 ([(gU.mk qX.1 s9.1),(gU.mk s9.1 qX.1)].take a0))]) λc8 h=>cD (Ak fS n h) zH [(15,eb c8),(0,Ge.eD 194 [(gU.mk qX.1 s9.1),(gU.mk s9.1 qX.1)])]) λc7 h=>cD (Ak fS n h) zG [aX c6,iO c7]) λc6 h=>cD (Ak fS n h) zG [aX c6]
def Wc:G (cj×aG):=
 ite (A' (0<(O bG.ag:Int))) (M (idx bG.ag bb.aq) λfA=>Wd aW an ac bd P bo bG (aF.mk bb.aQ bb.aq 0 0 I' 0 pr bb.cg (Jl I' bb.bu.L 0 bb.bu.ar bb.bu.aM)) fA) (Wd aW an ac bd P bo bG (aF.mk bb.aQ bb.aq 0 0 I' 0 pr bb.cg (Jl I' bb.bu.L 0 bb.bu.ar bb.bu.aM)) (Jl I' [] 0 [] []))
def aIz {dC} (fS:KK (Da (aI 43)) zu dC) (n:Nat):KK (Da (aI 32331)) aMb (Wc dC n):=λ_ _ _ _ _ _ r h=>ie h (λda h=>be h λ_ iY h=>ra (aIA fS n h) [bl da,(4,cy.idx iY)]) λda h=>ra (aIA fS n h) [bl da]
def aeT (iB:Wf32) (f7:aba) (n:Nat) (n8:Int) (b0:aG) (b4:af) (ij:cj):G (cj×aG):=
 ite (A' (0<n8)) (M (F40 n b4 ij) λx5=>ite (x5.2 !=0) (V ([],b0)) (M (eT (O x5.1) (ba ((O x5.1:Int)-1))) λjo=>M (x5.1[0+jo]?) λlK=>M (rS n b0 10) λim=>M (rS n im.2 (ite (1<(O lK.ag:Int)) (O lK.ag:Int) 1)) λoD=>ite (A' (8<(ba (1+im.1)))) (M (rS n oD.2 2) λx42=>Wc f7 n n8 x42.2 b4 ij lK (aF.mk (ba (1+(ba (7*x42.1)))) oD.1 0 0 I' 0 pr [] (Jl I' [] 0 [] []))) (Wc f7 n n8 oD.2 b4 ij lK (aF.mk (ba (1+im.1)) oD.1 0 0 I' 0 pr [] (Jl I' [] 0 [] []))))) (iB b0 ij)
def aVZ {iB} (mN:KK (Da [1,1,1]) agM iB) {f7} (aL:KK (Da (aI 43)) zu f7) (n:Nat):KK (Da (aI 43)) zu (aeT iB f7 n):=λ_ _ _ _ r h=>ie h (λda h=>be h λ_ jI h=>let zA:SE:=[aX da,(2,.call (aDZ n jI) [(227,1)] [(303000,bL)])];ie h (λc1 h=>bt h zA [dz c1,(1,.born [6] [] bL U 46 15)]) λc1 h=>be h λ_ jW h=>be h λ_ j8 h=>be h λ_ mc h=>be h λ_ xE h=>let zB:SE:=dx zA [dz c1,(4,du jW),(0,DQ.row j8),(2,.ord [0,3,4,5,6,7,10,1,2,8,9,11]),(7,.call (o5 n mc) [(0,0)] []),(1,.call (o5 n xE) [(0,0)] [])];ie h (λc2 h=>be h λ_ aDn h=>cD (aIz aL n h) zB [bl c2,(1,.call (o5 n aDn) [(0,0)] [])]) λc2 h=>cD (aIz aL n h) zB [bl c2]) λda h=>ra (mN h) [aX da]
def HF (iB:Wf32):Nat->Int->aG->af->cj->G (cj×aG)
 |0=>dK.z
 |n+1=>aeT iB (HF iB n) n
def aGG {iB} (mN:KK (Da [1,1,1]) agM iB):∀n:Nat,KK (Da (aI 43)) zu (HF iB n)
 |0=>KC.h
 |n+1=>aVZ mN (aGG mN n) n
def Rw (n:Nat) (b0:aG) (ij:cj):G (cj×aG):=
 V (ij,b0)
def aVY:KK (Da [1,1,1]) agM (Rw a):=λ_ _ r h=>rr h [(2,.iS 227 bL)]
def awn:G (cj×aG):=
 M (rS a F (ba (B+1))) λx7=>HF (Rw a) a x7.1 x7.2 pu []
def aVX:KK (Da []) axr (awn a):=λ_ _ _ r h=>be h λ_ j7 h=>ra (aGG (aVY a) a h) [(6,.call (o5 a j7) [(0,0)] []),(1,.born [7] [] 227 I 46 15)]
def F39:=awn
def ev39:KK (Cx E0 39 aFM ays) axr (F39 a):=λ_ _ _ _ h=>ca (X:=xw) (aVX a h)
def aFS:AV:=.dh [.agg (cX em.1),.ms 200001 15 0 (O em.2.1),.ms 200002 2 0 (O em.2.2.1),ck em.2.2.2.1]
def ayA:List (Nat×Bx):= [(0,kn (eN em.2.2.2.2)),(200001,Fj em.2.1),(200002,UK em.2.2.1)]
def iK:=fx E0 Tryz.f12 [0]
def A12:=Ax iK aFS ayA
def awD:G (af×cj×gg×Int×aG):=
 M (F38 a F) λx6=>M (F39 a x6.2 x6.1 5) λaBT=>M (F40 a x6.1 aBT.1) λjh=>M (rS a aBT.2 (O jh.1:Int)) λse=>V (x6.1,aBT.1,jh.1,se.1,se.2)
def aXg:KK (A12 []) y6 (awD a):=λ_ r h=>be h λ_ km h=>be h λ_ gR h=>be h λ_ iX h=>be h λ_ yB h=>rr h [(5,.call (ev38 a km) [(0,0)] []),(4,.call (ev39 a gR) [(0,0)] [(14,bL)]),(3,.call (aDZ a iX) [(14,1)] [(301800,bL)]),(11,.call (o5 a yB) [(0,0)] []),(4,.iS 14 200001),(0,.iS 301800 200002)]
def F12:=awD
def ev12:KK (Cx E0 12 aFS ayA) y6 (F12 a):=λ_ _ h=>ca (X:=iK) (aXg a h)
def aFR (r:aG):AV:=.loc bL 0
def ayz:List (Nat×Bx):= [(bL,kn (eN F))]
def dZ:=fx E0 Tryz.f13 []
def A13:=Ax dZ aFR ayz
def axE:LS:=⟨[(0,.tN 5 1 (O j) (BW j)),(1,iI g)],[]⟩
def awC (n:Nat) (aej:aN) (adu:Int):G aG:=
 M (cut aej A (V (ite (adu<(O aej:Int)) adu (O aej:Int)))) λx7=>M (app [] x7) λx9=>V (aG.mk x9 0)
def aXf:KK (A13 []) axE (awC a):=λ_ _ r h=>be h λ_ j7 h=>be h λx9 ir h=>rr h [(6,R5.cut j7),(0,.born [] [] 11 I 5 1),(0,R5.app (xs:= []) ir),(3,.iS 13 bL),(0,R5.eD 11 x9),(0,.kH bL (.flat 0 [.sl 2 0 0 0 []]))]
def F13:=awC
def ev13:KK (Cx E0 13 aFR ayz) axE (F13 a):=λ_ _ _ h=>ca (X:=dZ) (aXf a h)
def x99:=fx E0 Tryz.f99 []
def A99:=Ax x99 dj bE
def aLF:LS:=⟨[(3,ck b),(4,.int .i32 d),(5,.bool ae),(15,.it 15)],[(15,.iter ul al)]⟩
def Ue:LS:=⟨[(15,.it 15)],[(15,.iter ul al)]⟩
def afT:LS:=⟨[],[]⟩
def VT (n:Nat) (i3 c4:Int) (aaz:Bool) (sJ:xN) (qE:Nat):G Bool:=
 ite (!aaz) (ite (i3==0) (V U) (ite (c4 !=95) (ite (A' (c4<48)) (V U) (ite (A' (57<c4)) (V U) (d0 sJ qE))) (d0 sJ qE))) (d0 sJ qE)
def aIm {aH} (aY:KK (A99 (aI 43)) Ue aH) (n:Nat):KK (A99 (aI 3787)) aLF (VT aH n):=λ_ _ _ _ _ r h=>ie h (λc0 h=>ie h (λc1 h=>rr h [aX c0,aS c1]) λc1 h=>let zA:SE:=[aX c0,aS c1];ie h (λc2 h=>ie h (λc3 h=>bt h zA [aS c2,aS c3]) λc3 h=>ie h (λc4_ h=>bt h zA [aS c2,aS c3,aS c4_]) λc4_ h=>cD (aY h) zA [aS c2,aS c3,aS c4_]) λc2 h=>cD (aY h) zA [aS c2]) λc0 h=>ra (aY h) [aX c0]
def aec (sJ:xN) (qE:Nat):G Bool:=
 ite (A' (qE<sJ.size)) (ite (!A' (((Lg sJ qE).1:Int)<97)) (VT d0 dn (qE:Int) ((Lg sJ qE).1:Int) (!A' (122<((Lg sJ qE).1:Int))) sJ (qE+(Lg sJ qE).2)) (VT d0 dn (qE:Int) ((Lg sJ qE).1:Int) U sJ (qE+(Lg sJ qE).2))) K
def aTX {bw} (cQ:KK (A99 [1,1,1]) afT bw) {f7} (aL:KK (A99 (aI 43)) Ue f7) (n:Nat):KK (A99 (aI 43)) Ue (aec bw f7 n):=λ_ _ r h=>ie h (λc0 h=>ie h (λc1 h=>ra (aIm aL n h) [(0,.nxt (ux c0)),dz c1]) λc1 h=>ra (aIm aL n h) [(0,.nxt (ux c0)),dz c1]) λc0 h=>ra (cQ h) [(0,.fin (Pu c0))]
def Ei (bw:G Bool):Nat->xN->Nat->G Bool
 |0=>dK.z
 |n+1=>aec bw (Ei bw n) n
def aGb {bw} (cQ:KK (A99 [1,1,1]) afT bw):∀n:Nat,KK (A99 (aI 43)) Ue (Ei bw n)
 |0=>KC.h
 |n+1=>aTX cQ (aGb cQ n) n
def Mr (n:Nat):G Bool:=
 V I
def aTW:KK (A99 [1,1,1]) afT (Mr a):=λr h=>rr h []
def avC:G Bool:=
 ite (A' ((ul.size:Int)<1)) (V U) (ite (A' (32<(ul.size:Int))) (V U) (Ei (Mr a) a ul 0))
def aTV:KK (A99 []) EA (avC a):=λ_ r h=>ie h (λc0 h=>rr h [aZ c0]) λc0 h=>ie h (λc1 h=>rr h [aZ c0,aZ c1]) λc1 h=>ra (aGb (aTW a) a h) [aZ c0,aZ c1]
def F99:=avC
def ev99:KK (Cx E0 99 dj bE) EA (F99 a):=λ_ _ h=>ca (X:=x99) (aTV a h)
def Na:=fx E0 Tryz.f43 []
def HP:=Ax Na dj bE
def agH:LS:=⟨[(3,.mp 9),(6,.mp 43),(11,.slice 44 5 (O t) (dI t)),(12,iI o),(13,iI x),(22,.mp 9),(23,.loc 5 0),(24,.str ul),(25,.bool U),(28,.loc 5 2),(29,iI au),(30,.bool U),(33,.loc 5 2),(34,iI aT),(35,.loc 5 1),(36,.slice 73 2 (O N) (eY N)),(37,iI ak),(38,.bool U),(45,.slice 73 2 (O ct) (eY ct)),(46,iI bB),(47,iI bF)],[(5,.flat 44 (jO ee)),(9,.map (gO AV.bool db)),(43,.map (gO AV.bool ec))]⟩
def agG:LS:=⟨[(3,.mp 9),(11,.slice 44 5 (O t) (dI t)),(12,iI o),(13,iI x),(22,.mp 9),(23,.loc 5 0),(24,.str ul),(25,.bool U),(28,.loc 5 2),(29,iI au),(30,.bool U),(33,.loc 5 2),(34,iI aT),(35,.loc 5 1),(36,.slice 73 2 (O N) (eY N)),(37,iI ak),(38,.bool U)],[(5,.flat 44 (jO ee)),(9,.map (gO AV.bool db))]⟩
def Um:LS:=⟨[(3,.mp 9),(11,.slice 44 5 (O t) (dI t)),(12,iI o),(13,iI x)],[(9,.map (gO AV.bool db))]⟩
def agF:LS:=⟨[],[]⟩
def aeQ (aH:aIR) (f7:bC->Int->Int->xN->Int->Int->dr->Int->dr->Int->Int->(List (xN×Bool))->(List (xN×Bool))->ah->G Bool) (n:Nat) (a0:bC) (L ag:Int) (aq:xN) (ar av:Int) (aC:dr) (aL:Int) (aM:dr) (aQ aY:Int) (b9 DM:List (xN×Bool)) (b5:ah):G Bool:=
 ite (A' (aY<aQ)) (M (idx aM aY) λx2=>M (F99 n x2.aK) λx9=>ite (!x9) (V U) (ite (gB DM x2.aK U) (V U) (ite (x2.aB !=3) (ite (x2.aB !=4) (ite (x2.aB !=5) (V U) (f7 a0 L ag aq ar av aC aL aM aQ (ba (aY+1)) b9 (jx DM x2.aK I) b5)) (f7 a0 L ag aq ar av aC aL aM aQ (ba (aY+1)) b9 (jx DM x2.aK I) b5)) (f7 a0 L ag aq ar av aC aL aM aQ (ba (aY+1)) b9 (jx DM x2.aK I) b5)))) (aH a0 L ag aq ar av aC aL b9 b5)
def aVP {aH} (aY:KK (HP (aI 971)) agG aH) {f7} (aL:KK (HP (aI 97483)) agH f7) (n:Nat):KK (HP (aI 97483)) agH (aeQ aH f7 n):=λ_ _ _ _ _ _ _ _ _ _ _ _ DM _ r h=>ie h (λc0 h=>be h λx2 dq h=>be h λ_ ir h=>let zA:SE:=[aD c0,(0,fI.idx dq),lX (ev99 n ir)];ie h (λc1 h=>bt h zA [aD c1]) λc1 h=>let zB:SE:=dx zA [aD c1];ie h (λc2 h=>bt h zB [(4,.lkp U (D8 c2))]) λc2 h=>let zC:SE:=dx zB [(4,.lkp U (D8 c2)),(4,.j4 (CU (f:=AV.bool) (k:=x2.aK) (v:=I) DM))];ie h (λc3 h=>ie h (λc4 h=>ie h (λc5 h=>bt h zC [aS c3,aZ c4,bl c5]) λc5 h=>cD (aL h) zC [aS c3,aZ c4,bl c5]) λc4 h=>cD (aL h) zC [aS c3,aZ c4]) λc3 h=>cD (aL h) zC [aS c3]) λc0 h=>ra (aY h) [aD c0]
def QY (aH:aIR):Nat->bC->Int->Int->xN->Int->Int->dr->Int->dr->Int->Int->(List (xN×Bool))->(List (xN×Bool))->ah->G Bool
 |0=>dK.z
 |n+1=>aeQ aH (QY aH n) n
def aGD {aH} (aY:KK (HP (aI 971)) agG aH):∀n:Nat,KK (HP (aI 97483)) agH (QY aH n)
 |0=>KC.h
 |n+1=>aVP aY (aGD aY n) n
def aeP (n:Nat) (a0:bC) (L ag:Int) (aq:xN) (ar av:Int) (aB:dr) (aC:Int) (b9:List (xN×Bool)) (b5:ah):G Bool:=
 dM a0 L (ba (ag+1)) b9
def aVO {bw} (cQ:KK (HP (aI 43)) Um bw) (n:Nat):KK (HP (aI 971)) agG (aeP bw n):=λ_ _ _ _ _ _ _ _ _ _ r h=>ra (cQ h) []
def aeO:G Bool:=
 ite (A' (dX<dW)) (M (idx dO dX) λx2=>M (F99 dN x2.aK) λx9=>ite (!x9) (V U) (ite (gB ec x2.aK U) (V U) (ite (A' (x2.av<1)) (V U) (ite (A' ((O x2.L:Int)<x2.av)) (V U) (QY (aeP dM dN) dN dO dW dX x2.aK x2.av x2.av x2.L (O x2.L:Int) x2.L (O x2.L:Int) 0 (jx ec x2.aK I) [] x2))))) K
def aVN {bD} (cV:KK (HP [1,1,1]) agF bD) {f7} (aL:KK (HP (aI 43)) Um f7) (n:Nat):KK (HP (aI 43)) Um (aeO bD f7 n):=λ_ _ _ b9 r h=>ie h (λc0 h=>be h λx2 dq h=>be h λ_ ir h=>let zA:SE:=[aD c0,(0,cy.idx dq),lX (ev99 n ir)];ie h (λc1 h=>bt h zA [aD c1]) λc1 h=>let zB:SE:=dx zA [aD c1];ie h (λc2 h=>bt h zB [(4,.lkp U (D8 c2))]) λc2 h=>let zC:SE:=dx zB [(4,.lkp U (D8 c2))];ie h (λc3 h=>bt h zC [bl c3]) λc3 h=>ie h (λc4 h=>bt h zC [bl c3,hI c4]) λc4 h=>cD (aGD (aVO aL n) n h) zC [bl c3,hI c4,(4,.j4 (CU (f:=AV.bool) (k:=x2.aK) (v:=I) b9))]) λc0 h=>ra (cV h) [aD c0]
def Mc (bD:G Bool):Nat->bC->Int->Int->(List (xN×Bool))->G Bool
 |0=>dK.z
 |n+1=>aeO bD (Mc bD n) n
def aGC {bD} (cV:KK (HP [1,1,1]) agF bD):∀n:Nat,KK (HP (aI 43)) Um (Mc bD n)
 |0=>KC.h
 |n+1=>aVN cV (aGC cV n) n
def Wb (n:Nat):G Bool:=
 V I
def aVM:KK (HP [1,1,1]) agF (Wb a):=λr h=>rr h []
def aJk:G Bool:=
 Mc (Wb a) a i.ag (O i.ag:Int) 0 []
def aVL:KK (HP []) vF (aJk a):=λ_ r h=>ra (aGC (aVM a) a h) []
def F43:=aJk
def ev43:KK (Cx E0 43 dj bE) vF (F43 a):=λ_ _ h=>ca (X:=Na) (aVL a h)
def EW:=fx E0 Tryz.f44 []
def yd:=Ax EW dj bE
def agE:LS:=⟨[aV 1,aV 4,aV 7,(11,.slice 44 5 (O t) (dI t)),(12,iI o),(13,iI x),(18,.slice 121 2 (O S) (eK S)),(19,iI B),(20,iI aa),(28,.loc 6 1),(29,iI vQ),(30,.loc 1 1),(31,.slice 44 5 (O ax) (dI ax)),(32,iI ak),(33,.bool U),(48,.slice 3 1 (O a3) (dP a3)),(49,iI a4),(50,iI a5)],[(1,fW (cX bi)),(4,iJ (jO cs)),(6,.flat 121 (FZ bO)),(7,iJ (jO bI))]⟩
def agD:LS:=⟨[aV 1,aV 4,(11,.slice 44 5 (O t) (dI t)),(12,iI o),(13,iI x),(18,.slice 121 2 (O S) (eK S)),(19,iI B),(20,iI aa),(28,.loc 6 1),(29,iI vQ),(30,.loc 1 1),(31,.slice 44 5 (O ax) (dI ax)),(32,iI ak),(33,.bool U)],[(1,fW (cX P)),(4,iJ (jO ap)),(6,.flat 121 (FZ bO))]⟩
def Ul:LS:=⟨[aV 1,aV 4,(11,.slice 44 5 (O t) (dI t)),(12,iI o),(13,iI x),(18,.slice 121 2 (O S) (eK S)),(19,iI B),(20,iI aa)],[(1,fW (cX P)),(4,iJ (jO ap))]⟩
def E4:LS:=⟨[aV 1,(11,.slice 44 5 (O t) (dI t)),(12,iI o),(13,iI x)],[(1,fW (cX w))]⟩
def agC:LS:=⟨[],[]⟩
def aeN (aH:Wf33) (f7:bC->Int->Int->bR->Int->Int->Int->bC->Int->aN->Int->Int->af->ah->ah->br->G Bool) (n:Nat) (a0:bC) (ag aq:Int) (ar:bR) (av aC aK:Int) (aL:bC) (aM:Int) (aQ:aN) (aY b0:Int) (b1:af) (b4 b7:ah) (b6:br):G Bool:=
 ite (A' (b0<aY)) (M (idx aQ b0) λx3=>ite (A' (x3<0)) (V U) (ite (!A' (x3<(O b4.L:Int))) (V U) (M (idx b4.L x3) λnP=>M (idx b7.L b0) λmm=>ite (nP.aB !=mm.aB) (V U) (f7 a0 ag aq ar av aC aK aL aM aQ aY (ba (b0+1)) b1 b4 b7 b6)))) (aH a0 ag aq ar av aC aK aL aM b1 b4 b6)
def aVK {aH} (aY:KK (yd (aI 124517)) agD aH) {f7} (aL:KK (yd (aI 12478053)) agE f7) (n:Nat):KK (yd (aI 12478053)) agE (aeN aH f7 n):=λ_ _ _ _ _ _ _ _ _ _ _ _ _ _ _ _ r h=>ie h (λc0 h=>be h λ_ eP h=>let zA:SE:=[aD c0,(1,R3.idx eP)];ie h (λc1 h=>bt h zA [bl c1]) λc1 h=>ie h (λc2 h=>bt h zA [bl c1,bN c2]) λc2 h=>be h λ_ pE h=>be h λ_ oK h=>let zB:SE:=dx zA [bl c1,bN c2,(5,fI.idx pE),(5,fI.idx oK)];ie h (λc3 h=>bt h zB [aS c3]) λc3 h=>cD (aL h) zB [aS c3]) λc0 h=>ra (aY h) [aD c0]
def QX (aH:Wf33):Nat->bC->Int->Int->bR->Int->Int->Int->bC->Int->aN->Int->Int->af->ah->ah->br->G Bool
 |0=>dK.z
 |n+1=>aeN aH (QX aH n) n
def aGB {aH} (aY:KK (yd (aI 124517)) agD aH):∀n:Nat,KK (yd (aI 12478053)) agE (QX aH n)
 |0=>KC.h
 |n+1=>aVK aY (aGB aY n) n
def aeM (n:Nat) (a0:bC) (L ag:Int) (aq:bR) (ar av aB:Int) (aC:bC) (aH:Int) (b1:af) (b4:ah) (b6:br):G Bool:=
 dQ a0 L ag aq ar (ba (av+1)) b1 b4
def aVJ {bw} (cQ:KK (yd (aI 5733)) Ul bw) (n:Nat):KK (yd (aI 124517)) agD (aeM bw n):=λ_ _ _ _ _ _ _ _ _ _ _ _ r h=>ra (cQ h) []
def aeL (a0:bR) (ar aB:Int) (b1:af) (b4:ah):G Bool:=
 ite (A' (aB<ar)) (M (idx a0 aB) λx2=>ite (A' (x2.aq<0)) (V U) (ite (!A' (x2.aq<(O b1.ag:Int))) (V U) (M (idx b1.ag x2.aq) λqh=>ite ((O x2.L:Int) !=qh.av) (V U) (QX (aeM dQ dS) dS dp d9 ea a0 ar aB x2.aq b1.ag (O b1.ag:Int) x2.L (O x2.L:Int) 0 b1 b4 qh x2)))) (cF dp d9 ea b1)
def aVI {bD} (cV:KK (yd (aI 485)) E4 bD) {f7} (aL:KK (yd (aI 5733)) Ul f7) (n:Nat):KK (yd (aI 5733)) Ul (aeL bD f7 n):=λ_ _ _ _ _ _ _ _ r h=>ie h (λc0 h=>be h λ_ dq h=>let zA:SE:=[aD c0,(0,fT.idx dq)];ie h (λc1 h=>bt h zA [bN c1]) λc1 h=>ie h (λc2 h=>bt h zA [bN c1,dz c2]) λc2 h=>be h λ_ pD h=>let zB:SE:=dx zA [bN c1,dz c2,(5,cy.idx pD)];ie h (λc3 h=>bt h zB [iO c3]) λc3 h=>cD (aGB (aVJ aL n) n h) zB [iO c3]) λc0 h=>ra (cV h) [aD c0]
def Mb (bD:auD):Nat->bC->Int->Int->bR->Int->Int->af->ah->G Bool
 |0=>dK.z
 |n+1=>aeL bD (Mb bD n) n
def aGA {bD} (cV:KK (yd (aI 485)) E4 bD):∀n:Nat,KK (yd (aI 5733)) Ul (Mb bD n)
 |0=>KC.h
 |n+1=>aVI cV (aGA cV n) n
def aeK (n:Nat) (a0:bC) (L ag:Int) (b1:af):G Bool:=
 cF a0 L (ba (ag+1)) b1
def aVH {cZ} (fy:KK (yd (aI 21)) E4 cZ) (n:Nat):KK (yd (aI 485)) E4 (aeK cZ n):=λ_ _ _ _ r h=>ra (fy h) []
def aeJ:G Bool:=
 ite (A' (cb<bV)) (M (idx cI cb) λx2=>Mb (aeK cF cG) cG cI bV cb x2.ar (O x2.ar:Int) 0 df x2) K
def aVG {dC} (fS:KK (yd [1,1]) agC dC) {f7} (aL:KK (yd (aI 21)) E4 f7) (n:Nat):KK (yd (aI 21)) E4 (aeJ dC f7 n):=λ_ _ _ _ r h=>ie h (λc0 h=>be h λ_ dq h=>ra (aGA (aVH aL n) n h) [aD c0,(0,cy.idx dq)]) λc0 h=>ra (fS h) [aD c0]
def Ma (dC:G Bool):Nat->bC->Int->Int->af->G Bool
 |0=>dK.z
 |n+1=>aeJ dC (Ma dC n) n
def aGz {dC} (fS:KK (yd [1,1]) agC dC):∀n:Nat,KK (yd (aI 21)) E4 (Ma dC n)
 |0=>KC.h
 |n+1=>aVG fS (aGz fS n) n
def Wa (n:Nat):G Bool:=
 V I
def aVF:KK (yd [1,1]) agC (Wa a):=λr h=>rr h []
def aJj:G Bool:=
 Ma (Wa a) a i.ag (O i.ag:Int) 0 i
def aVE:KK (yd []) vF (aJj a):=λ_ r h=>ra (aGz (aVF a) a h) []
def F44:=aJj
def ev44:KK (Cx E0 44 dj bE) vF (F44 a):=λ_ _ h=>ca (X:=EW) (aVE a h)
def x100:=fx E0 Tryz.f100 []
def A100:=Ax x100 dj bE
def amV (n:Nat) (s0:af) (dB:Int):G Bool:=
 ite (!A' (dB<0)) (V (A' (dB<(O s0.ag:Int)))) (V U)
def aRi:KK (A100 []) Cs (amV a):=λ_ _ r h=>ie h (λc0 h=>rr h [aZ c0]) λc0 h=>rr h [aZ c0]
def Mn:=amV
def LG:KK (Cx E0 100 dj bE) Cs (Mn a):=λ_ _ _ h=>ca (X:=x100) (aRi a h)
def CA:List (Nat×Bx):= [(bL,DD j)]
def x45:=fx E0 Tryz.f45 []
def A45:=Ax x45 BX CA
def agB:LS:=⟨[(5,.ms 19 1 0 (O ai)),(25,.slice 73 2 (O J) (eY J)),(26,iI D),(27,iI B)],[(19,DD ai)]⟩
def agA:LS:=⟨[(5,.ms 19 1 0 (O j))],[(19,DD j)]⟩
def aeI (f7:Wt0_) (n:Nat) (L:dr) (ag aq:Int) (a0:aN):G aN:=
 ite (A' (aq<ag)) (M (idx L aq) λx2=>M (app a0 [x2.aB]) λdG=>f7 L ag (ba (aq+1)) dG) (cU a0)
def aVD {aH} (aY:KK (A45 (aI 31)) agA aH) {f7} (aL:KK (A45 (aI 87)) agB f7) (n:Nat):KK (A45 (aI 87)) agB (aeI aH f7 n):=λ_ _ _ _ r h=>ie h (λc0 h=>be h λ_ dq h=>be h λ_ fR h=>ra (aL h) [aD c0,(0,fI.idx dq),(7,R3.kq fR)]) λc0 h=>ra (aY h) [aD c0]
def QW (aH:Wf0):Nat->dr->Int->Int->aN->G aN
 |0=>dK.z
 |n+1=>aeI aH (QW aH n) n
def aGy {aH} (aY:KK (A45 (aI 31)) agA aH):∀n:Nat,KK (A45 (aI 87)) agB (QW aH n)
 |0=>KC.h
 |n+1=>aVD aY (aGy aY n) n
def aeH (n:Nat) (a0:aN):G aN:=
 V a0
def aVC:KK (A45 (aI 31)) agA (aeH a):=λ_ r h=>rr h [(2,.iS 19 bL)]
def awj:G aN:=
 M (Mn a i g) λx5=>ite (!x5) (V []) (M (idx i.ag g) λdG=>M (rT (O dG.L:Int) (0:Int)) λgF=>M (idx i.ag g) λqh=>QW (aeH a) a qh.L (O qh.L:Int) 0 [])
def aVB:KK (A45 []) Cs (awj a):=λ_ _ r h=>be h λ_ jI h=>ie h (λc0 h=>rr h [lY (LG a jI),aD c0,(1,.born [4] [] bL U 3 1)]) λc0 h=>be h λ_ fR h=>be h λ_ iC h=>be h λ_ pD h=>ra (aGy (aVC a) a h) [lY (LG a jI),aD c0,(3,cy.idx fR),(3,R3.aSr iC),(4,cy.idx pD)]
def F45:=awj
def aDY:KK (Cx E0 45 BX CA) Cs (F45 a):=λ_ _ _ h=>ca (X:=x45) (aVB a h)
def Z8:=fx E0 Tryz.f101 []
def TZ:=Ax Z8 dj bE
def ary:LS:=⟨[],[]⟩
def aoD:LS:=⟨[(0,.slice 3 1 (O j) (dP j))],[]⟩
def X4 (f7:aN->Int->Int->G Bool) (n:Nat) (t5:aN) (t6 t7:Int):G Bool:=
 ite (A' (t7<t6)) (M (idx t5 t7) λx2=>ite (x2 !=3) (ite (x2 !=4) (ite (x2 !=5) (V U) (f7 t5 t6 (ba (t7+1)))) (f7 t5 t6 (ba (t7+1)))) (f7 t5 t6 (ba (t7+1)))) K
def aRh {aH} (aY:KK (TZ [1,1]) ary aH) {f7} (aL:KK (TZ (aI 21)) EB f7) (n:Nat):KK (TZ (aI 21)) EB (X4 aH f7 n):=λ_ _ _ r h=>ie h (λc0 h=>be h λ_ dq h=>let zA:SE:=[aD c0,(0,R3.idx dq)];ie h (λc1 h=>ie h (λc2 h=>ie h (λc3 h=>bt h zA [aZ c1,aS c2,aZ c3]) λc3 h=>cD (aL h) zA [aZ c1,aS c2,aZ c3]) λc2 h=>cD (aL h) zA [aZ c1,aS c2]) λc1 h=>cD (aL h) zA [aZ c1]) λc0 h=>ra (aY h) [aD c0]
def Kl (aH:G Bool):Nat->aN->Int->Int->G Bool
 |0=>dK.z
 |n+1=>X4 aH (Kl aH n) n
def aAd {aH} (aY:KK (TZ [1,1]) ary aH):∀n:Nat,KK (TZ (aI 21)) EB (Kl aH n)
 |0=>KC.h
 |n+1=>aRh aY (aAd aY n) n
def amU (n:Nat):G Bool:=
 V I
def aRg:KK (TZ [1,1]) ary (amU a):=λr h=>rr h []
def amT:G Bool:=
 Kl (amU a) a j (O j:Int) 0
def aRf:KK (TZ []) aoD (amT a):=λ_ r h=>ra (aAd (aRg a) a h) []
def l4:=amT
def aId:KK (Cx E0 101 dj bE) aoD (l4 a):=λ_ _ h=>ca (X:=Z8) (aRf a h)
def ayd:AV:=.bool eo.1
def ape:List (Nat×Bx):= [(2,.flat 3 [ck eo.2])]
def x102:=fx E0 Tryz.f102 [2]
def TY:=Ax x102 ayd ape
def Vj:=Cx E0 102 ayd ape
def arz:LS:=⟨[(1,iI b),aV 2,(23,.slice 107 13 (O y) (eh y)),(24,iI m),(25,iI s)],[(2,.flat 3 [ck D])]⟩
def asA:LS:=⟨[],[(2,.flat 3 [ck b])]⟩
def EF:LS:=⟨[(0,.agg (gC p)),(1,ck m),aV 2],[(2,.flat 3 [ck s])]⟩
def X3 (aH:Int->G (Bool×Int)) (f7:Int->bA->Int->Int->Int->G (Bool×Int)) (n:Nat) (wC:Int) (a0:bA) (L ag b2:Int):G (Bool×Int):=
 ite (A' (ag<L)) (M (idx a0 ag) λx2=>M (dD x2 (ba (wC+1)) b2) λdG=>ite (!dG.1) (V (U,dG.2)) (f7 wC a0 L (ba (ag+1)) dG.2)) (aH b2)
def aRe {pT} (CJ:KK Vj EF pT) {aH} (aY:KK (TY (aI 31)) asA aH) {f7} (aL:KK (TY (aI 87)) arz f7) (n:Nat):KK (TY (aI 87)) arz (X3 pT aH f7 n):=λ_ _ _ _ _ r h=>ie h (λc0 h=>be h λ_ dq h=>be h λ_ fR h=>let zA:SE:=[aD c0,(0,fE.idx dq),(7,.call (CJ fR) [(2,2)] [])];ie h (λc1 h=>bt h zA [aD c1]) λc1 h=>cD (aL h) zA [aD c1]) λc0 h=>ra (aY h) [aD c0]
def Kk (pT:adV) (aH:Int->G (Bool×Int)):Nat->Int->bA->Int->Int->Int->G (Bool×Int)
 |0=>dK.z
 |n+1=>X3 pT aH (Kk pT aH n) n
def aAc {pT} (CJ:KK Vj EF pT) {aH} (aY:KK (TY (aI 31)) asA aH):∀n:Nat,KK (TY (aI 87)) arz (Kk pT aH n)
 |0=>KC.h
 |n+1=>aRe CJ aY (aAc CJ aY n) n
def aBR (pT:adV) (n:Nat) (b2:Int):G (Bool×Int):=
 V (I,b2)
def aRd {pT} (CJ:KK Vj EF pT) (n:Nat):KK (TY (aI 31)) asA (aBR pT n):=λ_ r h=>rr h []
def amS:G (Bool×Int):=
 ite (A' ((ba (ea-1))<0)) (V (U,ba (ea-1))) (ite (A' (8<d9)) (V (U,ba (ea-1))) (Kk dD (aBR dD dN) dN d9 d8.fArgs (O d8.fArgs:Int) 0 (ba (ea-1))))
def aRc {pT} (CJ:KK Vj EF pT) (n:Nat):KK (TY []) EF (amS pT n):=λ_ _ _ r h=>ie h (λc0 h=>rr h [(11,eb c0)]) λc0 h=>ie h (λc1 h=>rr h [(11,eb c0),aS c1]) λc1 h=>ra (aAc CJ (aRd CJ n) n h) [(11,eb c0),aS c1]
def T9:Nat->aj->Int->Int->G (Bool×Int)
 |0,_,_,_=>A
 |n+1,p0,wC,ae5=>amS (T9 n) n p0 wC ae5
def aIc:∀n:Nat,KK Vj EF (T9 n)
 |0=>λ_ _ _ _ h=>nz h
 |n+1=>λ_ _ _ _ h=>ca (X:=x102) (aRc (aIc n) n h)
def x114:=fx E0 Tryz.f114 []
def A114:=Ax x114 dj bE
def aBQ (n:Nat) (v0:aP):G Bool:=
 ite (v0.aB==1) (ite (v0.dt==0) (V (A' (v0.cH=I'))) (V U)) (ite (v0.aB==2) (ite (v0.dt==0) (V (A' (v0.cH=I'))) (V U)) (ite (v0.aB==3) (ite (v0.dt==0) (V (A' (v0.cH=I'))) (ite (v0.dt==1) (V (A' (v0.cH=I'))) (V U))) (ite (v0.aB==4) (V (A' (v0.cH=I'))) (ite (v0.aB==5) (ite (v0.dt==0) (V (!A' (64<(v0.cH.size:Int)))) (V U)) (V U)))))
def aQK:KK (A114 []) y4 (aBQ a):=λ_ r h=>ie h (λc0 h=>ie h (λc1 h=>rr h [bl c0,aZ c1]) λc1 h=>rr h [bl c0,aZ c1]) λc0 h=>ie h (λc1 h=>ie h (λc2 h=>rr h [bl c0,aX c1,aZ c2]) λc2 h=>rr h [bl c0,aX c1,aZ c2]) λc1 h=>let zA:SE:=[bl c0,aX c1];ie h (λc2 h=>ie h (λc3 h=>bt h zA [aX c2,aZ c3]) λc3 h=>ie h (λc4 h=>bt h zA [aX c2,aZ c3,aZ c4]) λc4 h=>bt h zA [aX c2,aZ c3,aZ c4]) λc2 h=>let zB:SE:=dx zA [aX c2];ie h (λc3 h=>bt h zB [aX c3]) λc3 h=>ie h (λc4 h=>ie h (λc5 h=>bt h zB [aX c3,aX c4,aZ c5]) λc5 h=>bt h zB [aX c3,aX c4,aZ c5]) λc4 h=>bt h zB [aX c3,aX c4]
def St:=aBQ
def aHX:KK (Cx E0 114 dj bE) y4 (St a):=λ_ _ h=>ca (X:=x114) (aQK a h)
def x163:=fx E0 Tryz.f163 []
def A163:=Ax x163 dj bE
def alZ:G Bool:=
 M (St a az) λx4=>ite x4 (ite (az.aB !=1) (V (az.aB !=2)) (V U)) (V U)
def aOC:KK (A163 []) y4 (alZ a):=λ_ r h=>be h λ_ ic h=>let zA:SE:=[jN (aHX a ic)];ie h (λc0 bq=>by subst c0;exact (ie bq (λc1 bq=>bt bq zA [aZ c1]) λc1 bq=>bt bq zA [aZ c1])) λc0 bq=>by subst c0;exact (rr bq zA)
def Tu:=alZ
def adI:KK (Cx E0 163 dj bE) y4 (Tu a):=λ_ _ h=>ca (X:=x163) (aOC a h)
def ZC:=fx E0 Tryz.f156 []
def A156:=Ax ZC dU bE
def aJF:LS:=⟨[aV 3,(5,.slice 3 1 (O j) (dP j))],[(3,.flat 105 (sF a9))]⟩
def aoj:LS:=⟨(HX (Ou Y) (sF a9)),[]⟩
def WZ (n:Nat) (aaS:aN) (b3:bP):G Int:=
 ite (A' (b3.dw<0)) (V 0) (ite (!A' (b3.dw<(O aaS:Int))) (V 0) (ite (!((b3.bp.aB==0)&&((b3.bp.dt==0)&&((A' (b3.bp.cH=I'))&&I)))) (V 0) (M (idx aaS b3.dw) λlK=>V lK)))
def aAU:KK (A156 [1,1,1]) aJF (WZ a):=λ_ _ r h=>ie h (λc0 h=>rr h [aS c0]) λc0 h=>ie h (λc1 h=>rr h [aS c0,bN c1]) λc1 h=>ie h (λc2 h=>rr h [aS c0,bN c1,bN c2]) λc2 h=>be h λ_ j8 h=>rr h [aS c0,bN c1,bN c2,(4,R3.idx j8)]
def amf:G Int:=
 ite (a9.aB==3) (ite (a9.dw !=0) (V 0) (M (Tu a a9.bp) λjh=>ite (!jh) (V 0) (V a9.bp.aB))) (ite (a9.aB==2) (WZ a Y.oZ a9) (ite (a9.aB==1) (WZ a Y.mZ a9) (V 0)))
def aOL:KK (A156 []) aoj (amf a):=λ_ _ r h=>ie h (λc0 h=>ie h (λc1 h=>rr h [iO c0,aZ c1]) λc1 h=>be h λ_ iX h=>let zA:SE:=[iO c0,aZ c1,jN (adI a iX)];ie h (λc2 h=>bt h zA [aD c2]) λc2 h=>bt h zA [aD c2]) λc0 h=>ie h (λc1 h=>ra (aAU a h) [iO c0,aX c1]) λc1 h=>ie h (λc2 h=>ra (aAU a h) [iO c0,aX c1,aX c2]) λc2 h=>rr h [iO c0,aX c1,aX c2]
def Ip:=amf
def aHL:KK (Cx E0 156 dU bE) aoj (Ip a):=λ_ _ _ h=>ca (X:=ZC) (aOL a h)
def Z9:=fx E0 Tryz.f103 []
def yN:=Ax Z9 dj bE
def Ix:=Cx E0 103 dj bE
def EE:LS:=⟨[aV 2,(76,.slice 107 13 (O y) (eh y)),(77,iI m),(78,iI s)],[(2,.flat 193 (Ou Y))]⟩
def asB:LS:=⟨[],[]⟩
def aJO:LS:=⟨[aV 2,aV 3,(50,.bool ae)],[(2,.flat 193 (Ou Y)),(3,ll (gC Z))]⟩
def asC:LS:=⟨[],[]⟩
def aJN:LS:=⟨[aV 2,aV 3],[(2,.flat 193 (Ou Y)),(3,ll (gC Z))]⟩
def tM:LS:=⟨(HX (Ou Y) (gC Z)),[]⟩
def X2 (n:Nat) (a0:bA) (L ag:Int) (b2:nE):G Bool:=
 ite (A' (ag<L)) (M (idx a0 ag) λx2=>M (a2 b2 x2) λx9=>ite (!x9) (V U) (eg a0 L (ba (ag+1)) b2)) d4
def aRb {gw} (lE:KK Ix tM gw) {aH} (aY:KK (yN (aI 31)) asB aH) {f7} (aL:KK (yN (aI 87)) EE f7) (n:Nat):KK (yN (aI 87)) EE (X2 gw aH f7 n):=λ_ _ _ _ r h=>ie h (λc0 h=>be h λ_ dq h=>be h λ_ ir h=>let zA:SE:=[aD c0,(0,fE.idx dq),lX (lE ir)];ie h (λc1 h=>bt h zA [aD c1]) λc1 h=>cD (aL h) zA [aD c1]) λc0 h=>ra (aY h) [aD c0]
def C5 (gw:Eh) (aH:G Bool):Nat->bA->Int->Int->nE->G Bool
 |0=>dK.z
 |n+1=>X2 gw aH (C5 gw aH n) n
def aAb {gw} (lE:KK Ix tM gw) {aH} (aY:KK (yN (aI 31)) asB aH):∀n:Nat,KK (yN (aI 87)) EE (C5 gw aH n)
 |0=>KC.h
 |n+1=>aRb lE aY (aAb lE aY n) n
def X1 (gw:Eh) (n:Nat):G Bool:=
 V I
def aRa {gw} (lE:KK Ix tM gw) (n:Nat):KK (yN (aI 31)) asB (X1 gw n):=λr h=>rr h []
def Pp (b2:nE) (b3:aj):G Bool:=
 ite bk (V U) (ite (b3.fZ !=0) (V U) (ite (!((b3.cS.aB==0)&&((b3.cS.dw==0)&&(((b3.cS.bp.aB==0)&&((b3.cS.bp.dt==0)&&((A' (b3.cS.bp.cH=I'))&&I)))&&I)))) (V U) (ite (!((b3.cA.aB==0)&&((b3.cA.dw==0)&&(((b3.cA.bp.aB==0)&&((b3.cA.bp.dt==0)&&((A' (b3.cA.bp.cH=I'))&&I)))&&I)))) (V U) (C5 a2 (X1 a2 an) an b3.fArgs (O b3.fArgs:Int) 0 b2))))
def aBb {gw} (lE:KK Ix tM gw) (n:Nat):KK (yN (aI 885)) aJO (Pp gw n):=λ_ _ _ r h=>ie h (λc0 bq=>by subst c0;exact (rr bq [])) λc0 bq=>by subst c0;exact (ie bq (λc1 bq=>rr bq [aS c1]) λc1 bq=>ie bq (λc2 bq=>rr bq [aS c1,bl c2]) λc2 bq=>ie bq (λc3 bq=>rr bq [aS c1,bl c2,bN c3]) λc3 bq=>ra (aAb lE (aRa lE n) n bq) [aS c1,bl c2,bN c3])
def X0 (n:Nat) (a0:bA) (L ag:Int) (b2:nE):G Bool:=
 ite (A' (ag<L)) (M (idx a0 ag) λx2=>M (a2 b2 x2) λx9=>ite (!x9) (V U) (eg a0 L (ba (ag+1)) b2)) d4
def aQZ {gw} (lE:KK Ix tM gw) {cZ} (fy:KK (yN (aI 31)) asC cZ) {f7} (aL:KK (yN (aI 87)) EE f7) (n:Nat):KK (yN (aI 87)) EE (X0 gw cZ f7 n):=λ_ _ _ _ r h=>ie h (λc0 h=>be h λ_ dq h=>be h λ_ ir h=>let zA:SE:=[aD c0,(0,fE.idx dq),lX (lE ir)];ie h (λc1 h=>bt h zA [aD c1]) λc1 h=>cD (aL h) zA [aD c1]) λc0 h=>ra (fy h) [aD c0]
def C4 (gw:Eh) (cZ:G Bool):Nat->bA->Int->Int->nE->G Bool
 |0=>dK.z
 |n+1=>X0 gw cZ (C4 gw cZ n) n
def aAa {gw} (lE:KK Ix tM gw) {cZ} (fy:KK (yN (aI 31)) asC cZ):∀n:Nat,KK (yN (aI 87)) EE (C4 gw cZ n)
 |0=>KC.h
 |n+1=>aQZ lE fy (aAa lE fy n) n
def XZ (gw:Eh) (n:Nat):G Bool:=
 V I
def aQY {gw} (lE:KK Ix tM gw) (n:Nat):KK (yN (aI 31)) asC (XZ gw n):=λr h=>rr h []
def KI:G Bool:=
 ite (Z.fZ !=0) (V U) (ite (!((Z.cS.aB==0)&&((Z.cS.dw==0)&&(((Z.cS.bp.aB==0)&&((Z.cS.bp.dt==0)&&((A' (Z.cS.bp.cH=I'))&&I)))&&I)))) (V U) (ite (!((Z.cA.aB==0)&&((Z.cA.dw==0)&&(((Z.cA.bp.aB==0)&&((Z.cA.bp.dt==0)&&((A' (Z.cA.bp.cH=I'))&&I)))&&I)))) (V U) (C4 a2 (XZ a2 an) an Z.fArgs (O Z.fArgs:Int) 0 Y)))
def ajJ {gw} (lE:KK Ix tM gw) (n:Nat):KK (yN [1,1]) aJN (KI gw n):=λ_ _ r h=>ie h (λc0 h=>rr h [aS c0]) λc0 h=>ie h (λc1 h=>rr h [aS c0,bl c1]) λc1 h=>ie h (λc2 h=>rr h [aS c0,bl c1,bN c2]) λc2 h=>ra (aAa lE (aQY lE n) n h) [aS c0,bl c1,bN c2]
def amR:G Bool:=
 ite (Z.aQ==3) (M (Ip an Y Z.cS) λdG=>M (Ip an Y Z.cA) λgF=>ite ((O Z.fArgs:Int)==0) (ite (!A' (Z.fZ<1)) (ite (!A' (6<Z.fZ)) (ite (dG !=0) (V (dG==gF)) (V U)) (V U)) (V U)) (V U)) (ite (Z.aQ==1) (Pp a2 an ((O Z.fArgs:Int) !=0) Y Z) (ite (Z.aQ==2) (Pp a2 an ((O Z.fArgs:Int) !=0) Y Z) (ite (Z.aQ==6) (ite ((O Z.fArgs:Int) !=1) (V U) (KI a2 an Y Z)) (ite (Z.aQ==4) (KI a2 an Y Z) (ite (Z.aQ==5) (KI a2 an Y Z) (V U))))))
def aQX {gw} (lE:KK Ix tM gw) (n:Nat):KK (yN []) tM (amR gw n):=λ_ _ r h=>ie h (λc0 h=>be h λ_ fR h=>be h λ_ iC h=>let zA:SE:=[bN c0,(1,.ord [0,1,2,4,5,6,3,7,8,9]),vU (aHL n fR),kj (aHL n iC)];ie h (λc1 h=>let zB:SE:=dx zA [bN c1];ie h (λc2 h=>ie h (λc3 h=>ie h (λc4 h=>bt h zB [aZ c2,bl c3,aZ c4]) λc4 h=>bt h zB [aZ c2,bl c3,aZ c4]) λc3 h=>bt h zB [aZ c2,bl c3]) λc2 h=>bt h zB [aZ c2]) λc1 h=>bt h zA [bN c1]) λc0 h=>ie h (λc1 h=>ra (aBb lE n h) [bN c0,aX c1]) λc1 h=>let zA:SE:=[bN c0,aX c1];ie h (λc2 h=>cD (aBb lE n h) zA [aX c2]) λc2 h=>let zB:SE:=dx zA [aX c2];ie h (λc3 h=>ie h (λc4 h=>bt h zB [aX c3,bl c4]) λc4 h=>cD (ajJ lE n h) zB [aX c3,bl c4]) λc3 h=>ie h (λc4 h=>cD (ajJ lE n h) zB [aX c3,aX c4]) λc4 h=>ie h (λc5 h=>cD (ajJ lE n h) zB [aX c3,aX c4,aX c5]) λc5 h=>bt h zB [aX c3,aX c4,aX c5]
def yL:Nat->nE->aj->G Bool
 |0,_,_=>A
 |n+1,k0,p1=>amR (yL n) n k0 p1
def aIb:∀n:Nat,KK Ix tM (yL n)
 |0=>λ_ _ _ h=>nz h
 |n+1=>λ_ _ _ h=>ca (X:=Z9) (aQX (aIb n) n h)
def Dz:=fx E0 Tryz.f46 []
def A46:=Ax Dz dU bE
def awi:G Int:=
 M (l4 a j) λx4=>ite (!x4) (V 1) (M (l4 a ai) λx9=>ite (!x9) (V 1) (M (T9 a am 1 24) λgF=>ite (!gF.1) (V 2) (M (yL a (nE.mk j ai) am) λiq=>ite (!iq) (V 50) (V 0))))
def aVA:KK (A46 []) tK (awi a):=λ_ _ _ r h=>be h λ_ ic h=>let zA:SE:=[jN (aId a ic)];ie h (λc0 h=>bt h zA [aD c0]) λc0 h=>be h λ_ ir h=>let zB:SE:=dx zA [aD c0,jl (aId a ir)];ie h (λc1 h=>bt h zB [aD c1]) λc1 h=>be h λ_ iC h=>let zC:SE:=dx zB [aD c1,(4,.call (aIc a iC) [(7,2)] [])];ie h (λc2 h=>bt h zC [aD c2]) λc2 h=>be h λ_ oo h=>let zD:SE:=dx zC [aD c2,lY (aIb a oo)];ie h (λc3 h=>bt h zD [aD c3]) λc3 h=>bt h zD [aD c3]
def F46:=awi
def ev46:KK (Cx E0 46 dU bE) tK (F46 a):=λ_ _ _ _ h=>ca (X:=Dz) (aVA a h)
def gG:=fx E0 Tryz.f15 []
def zl:=Ax gG dU bE
def ahl:LS:=⟨[aV 1,(7,.slice 3 1 (O j) (dP j)),(58,.slice 44 5 (O t) (dI t)),(59,iI o),(60,iI x),(69,.slice 107 13 (O y) (eh y)),(70,iI m),(71,iI s)],[(1,fW (cX w))]⟩
def Fa:LS:=⟨[aV 1,(58,.slice 44 5 (O t) (dI t)),(59,iI o),(60,iI x)],[(1,fW (cX w))]⟩
def ahk:LS:=⟨[],[]⟩
def ZR (dC:ON) (f7:abc) (n:Nat) (a0:bC) (ag aq:Int) (b1:af):G Int:=
 ite (A' (aq<ag)) (M (idx a0 aq) λx2=>ite (A' (8<(O x2.L:Int))) (V 2) (ite (A' (4<(O x2.ar:Int))) (V 2) (ite (A' (4<(O x2.aM:Int))) (V 2) (f7 a0 ag (ba (aq+1)) b1)))) (dC b1)
def aXb {dC} (fS:KK (zl [1,1,1]) u9 dC) {f7} (aL:KK (zl (aI 43)) I3 f7) (n:Nat):KK (zl (aI 43)) I3 (ZR dC f7 n):=λ_ _ _ _ r h=>ie h (λc0 h=>be h λ_ dq h=>let zA:SE:=[aD c0,(0,cy.idx dq)];ie h (λc1 h=>bt h zA [dz c1]) λc1 h=>ie h (λc2 h=>bt h zA [dz c1,bl c2]) λc2 h=>ie h (λc3 h=>bt h zA [dz c1,bl c2,bN c3]) λc3 h=>cD (aL h) zA [dz c1,bl c2,bN c3]) λc0 h=>ra (fS h) [aD c0]
def Re (dC:ON):Nat->bC->Int->Int->af->G Int
 |0=>dK.z
 |n+1=>ZR dC (Re dC n) n
def aHb {dC} (fS:KK (zl [1,1,1]) u9 dC):∀n:Nat,KK (zl (aI 43)) I3 (Re dC n)
 |0=>KC.h
 |n+1=>aXb fS (aHb fS n) n
def ZS (f7:aN->bC->Int->Int->bA->Int->Int->af->G Int) (n:Nat) (ac2:aN) (a0:bC) (L ag:Int) (aq:bA) (ar av:Int) (b1:af):G Int:=
 ite (A' (av<ar)) (M (idx aq av) λx2=>M (F46 n ac2 [] x2) λx9=>ite (x9 !=0) (V x9) (f7 ac2 a0 L ag aq ar (ba (av+1)) b1)) (cL a0 L ag b1)
def aXa {bw} (cQ:KK (zl (aI 3887)) Fa bw) {f7} (aL:KK (zl (aI 95023)) ahl f7) (n:Nat):KK (zl (aI 95023)) ahl (ZS bw f7 n):=λ_ _ _ _ _ _ _ _ r h=>ie h (λc0 h=>be h λ_ dq h=>be h λ_ ir h=>let zA:SE:=[aD c0,(0,fE.idx dq),lX (ev46 n ir)];ie h (λc1 h=>bt h zA [aS c1]) λc1 h=>cD (aL h) zA [aS c1]) λc0 h=>ra (cQ h) [aD c0]
def Rc (bw:abc):Nat->aN->bC->Int->Int->bA->Int->Int->af->G Int
 |0=>dK.z
 |n+1=>ZS bw (Rc bw n) n
def aHa {bw} (cQ:KK (zl (aI 3887)) Fa bw):∀n:Nat,KK (zl (aI 95023)) ahl (Rc bw n)
 |0=>KC.h
 |n+1=>aXa cQ (aHa cQ n) n
def ZT (n:Nat) (a0:bC) (L ag:Int) (b1:af):G Int:=
 cL a0 L (ba (ag+1)) b1
def aWZ {bD} (cV:KK (zl (aI 175)) Fa bD) (n:Nat):KK (zl (aI 3887)) Fa (ZT bD n):=λ_ _ _ _ r h=>ra (cV h) []
def ZU:G Int:=
 ite (A' (dX<dW)) (M (idx dO dX) λx3=>M (F45 cc d6 dX) λdG=>Rc (ZT cL cc) cc dG dO dW dX x3.aM (O x3.aM:Int) 0 d6) cB
def aWY {cZ} (fy:KK (zl (aI 63)) ahk cZ) {f7} (aL:KK (zl (aI 175)) Fa f7) (n:Nat):KK (zl (aI 175)) Fa (ZU cZ f7 n):=λ_ _ _ _ r h=>ie h (λc0 h=>be h λ_ eP h=>be h λdG fR h=>ra (aHa (aWZ aL n) n h) [aD c0,(1,cy.idx eP),(6,.call (aDY n fR) [] [(67,bL)]),(5,R3.eD 67 dG)]) λc0 h=>ra (fy h) [aD c0]
def Mk (cZ:G Int):Nat->bC->Int->Int->af->G Int
 |0=>dK.z
 |n+1=>ZU cZ (Mk cZ n) n
def aGZ {cZ} (fy:KK (zl (aI 63)) ahk cZ):∀n:Nat,KK (zl (aI 175)) Fa (Mk cZ n)
 |0=>KC.h
 |n+1=>aWY fy (aGZ fy n) n
def WY (n:Nat):G Int:=
 V 0
def aWX:KK (zl (aI 63)) ahk (WY a):=λr h=>rr h []
def ZV:G Int:=
 ite (A' (i.aC<0)) (V 70) (ite (A' (1000<i.aC)) (V 70) (M (F43 a i) λdG=>ite (!dG) (V 70) (M (F44 a i) λjh=>ite (!jh) (V 70) (Mk (WY a) a i.ag (O i.ag:Int) 0 i))))
def aWW:KK (zl [1,1,1]) u9 (ZV a):=λ_ r h=>ie h (λc0 h=>rr h [aS c0]) λc0 h=>ie h (λc1 h=>rr h [aS c0,aZ c1]) λc1 h=>be h λ_ fR h=>let zA:SE:=[aS c0,aZ c1,jN (ev43 a fR)];ie h (λc2 h=>bt h zA [aD c2]) λc2 h=>be h λ_ iX h=>let zB:SE:=dx zA [aD c2,jN (ev44 a iX)];ie h (λc3 h=>bt h zB [aD c3]) λc3 h=>cD (aGZ (aWX a) a h) zB [aD c3]
def awA:G Int:=
 ite (A' (8<(O i.ag:Int))) (V 2) (Re (ZV a) a i.ag (O i.ag:Int) 0 i)
def aWV:KK (zl []) vF (awA a):=λ_ r h=>ie h (λc0 h=>rr h [bN c0]) λc0 h=>ra (aHb (aWW a) a h) [bN c0]
def Kq:=awA
def YN:KK (Cx E0 15 dU bE) vF (Kq a):=λ_ _ h=>ca (X:=gG) (aWV a h)
def x64:=fx E0 Tryz.f64 []
def A64:=Ax x64 dU bE
def axj:LS:=⟨[(0,.agg (cX i)),(1,ck g)],[]⟩
def awa:G Int:=
 M (Kq a i) λx4=>ite (x4 !=0) (V x4) (ite (g !=1) (ite (g !=2) (ite (g !=3) (V 1) (V 0)) (V 0)) (V 0))
def aVd:KK (A64 []) axj (awa a):=λ_ _ r h=>be h λ_ ic h=>let zA:SE:=[jN (YN a ic)];ie h (λc0 h=>bt h zA [aS c0]) λc0 h=>let zB:SE:=dx zA [aS c0];ie h (λc1 h=>ie h (λc2 h=>ie h (λc3 h=>bt h zB [aX c1,aS c2,aZ c3]) λc3 h=>bt h zB [aX c1,aS c2,aZ c3]) λc2 h=>bt h zB [aX c1,aS c2]) λc1 h=>bt h zB [aX c1]
def F64:=awa
def ev64:KK (Cx E0 64 dU bE) axj (F64 a):=λ_ _ _ h=>ca (X:=x64) (aVd a h)
def qX:=fx E0 Tryz.f65 []
def A65:=Ax qX dU bE
def ags:LS:=⟨[(3,iI b),(7,.slice 68 1 (O cx) (wk cx)),(8,iI bF),(9,iI cz)],[]⟩
def agr:LS:=⟨[(3,ck b)],[]⟩
def axi:LS:=⟨[(0,.agg (kV cl))],[]⟩
def Zm (aH:Wf6) (f7:Int->dA->Int->Int->G Int) (n:Nat) (n3:Int) (t7:dA) (t8 t9:Int):G Int:=
 ite (A' (t9<t8)) (M (idx t7 t9) λx2=>f7 (ba (n3+(O x2:Int))) t7 t8 (ba (t9+1))) (aH n3)
def aVc {aH} (aY:KK (A65 [1,1,1]) agr aH) {f7} (aL:KK (A65 (aI 43)) ags f7) (n:Nat):KK (A65 (aI 43)) ags (Zm aH f7 n):=λ_ _ _ _ r h=>ie h (λc0 h=>be h λ_ dq h=>ra (aL h) [aD c0,(0,p9.idx dq)]) λc0 h=>ra (aY h) [aD c0]
def QT (aH:Wf6):Nat->Int->dA->Int->Int->G Int
 |0=>dK.z
 |n+1=>Zm aH (QT aH n) n
def aGs {aH} (aY:KK (A65 [1,1,1]) agr aH):∀n:Nat,KK (A65 (aI 43)) ags (QT aH n)
 |0=>KC.h
 |n+1=>aVc aY (aGs aY n) n
def V8 (n:Nat) (n3:Int):G Int:=
 V n3
def aVb:KK (A65 [1,1,1]) agr (V8 a):=λ_ r h=>rr h []
def Zn:G Int:=
 QT (V8 a) a 0 cl.ag (O cl.ag:Int) 0
def aVa:KK (A65 []) axi (Zn a):=λ_ r h=>ra (aGs (aVb a) a h) []
def F65:=Zn
def ev65:KK (Cx E0 65 dU bE) axi (F65 a):=λ_ _ h=>ca (X:=qX) (aVa a h)
def x66:=fx E0 Tryz.f66 []
def M1:=Ax x66 dj bE
def aLT:LS:=⟨[(3,iI b),aV 9,(10,iI d),aV 11,(12,.bool ae),(13,.bool bk),(41,.slice 38 3 (O cN) (cY cN)),(42,iI ch),(43,iI cO)],[(9,iJ (jO ci)),(11,yq (iF di))]⟩
def aLS:LS:=⟨[(3,iI b),aV 9,(10,iI d),aV 11,(12,.bool ae),(41,.slice 38 3 (O ad) (cY ad)),(42,iI ak),(43,iI ac)],[(9,iJ (jO ap)),(11,yq (iF az))]⟩
def Nr:LS:=⟨[(3,iI b),aV 9,(41,.slice 38 3 (O rt) (cY rt)),(42,iI D),(43,iI B)],[(9,iJ (jO T))]⟩
def agq:LS:=⟨[],[]⟩
def aLR:LS:=⟨[(1,iI b),(2,.slice 38 3 (O rt) (cY rt)),(3,iI D),aV 4,(29,.bool ae)],[(4,fW (cX pu))]⟩
def axh:LS:=⟨[(0,.agg (cX i)),(1,iI g),(2,.slice 38 3 (O rt) (cY rt)),(3,iI D)],[]⟩
def V7 (n:Nat) (eZ a0:Int) (uM ae6:Bool) (ag:aU) (aq ar:Int) (b9:ah) (gD:aP):G Bool:=
 M (idx b9.L a0) λx6=>ite (gD.aB !=x6.aB) (ite (!uM) (ite (!ae6) (V U) (cM eZ ag aq (ba (ar+1)) b9)) (cM eZ ag aq (ba (ar+1)) b9)) (cM eZ ag aq (ba (ar+1)) b9)
def atW {bw} (cQ:KK (M1 (aI 175)) Nr bw) (n:Nat):KK (M1 (aI 127791)) aLT (V7 bw n):=λ_ _ _ _ _ _ _ _ _ r h=>be h λ_ km h=>let zA:SE:=[(5,fI.idx km)];ie h (λc0 h=>ie h (λc1 h=>ie h (λc2 h=>bt h zA [aS c0,aS c1,aZ c2]) λc2 h=>cD (cQ h) zA [aS c0,aS c1,aZ c2]) λc1 h=>cD (cQ h) zA [aS c0,aS c1]) λc0 h=>cD (cQ h) zA [aS c0]
def Rq (uM:Bool) (a0:aU) (L ag:Int) (b9:ah) (gD:aP):G Bool:=
 ite (gD.aB==1) (ite (ce==3) (V7 cM cc ce ch uM (!A' (ch<b9.av)) a0 L ag b9 gD) (V7 cM cc ce ch uM U a0 L ag b9 gD)) (V7 cM cc ce ch uM U a0 L ag b9 gD)
def atV {bw} (cQ:KK (M1 (aI 175)) Nr bw) (n:Nat):KK (M1 (aI 62255)) aLS (Rq bw n):=λ_ _ _ _ _ _ _ _ r h=>ie h (λc0 h=>ie h (λc1 h=>ra (atW cQ n h) [aS c0,aS c1]) λc1 h=>ra (atW cQ n h) [aS c0,aS c1]) λc0 h=>ra (atW cQ n h) [aS c0]
def Zo:G Bool:=
 ite (A' (cO<ch)) (M (idx cN cO) λx3=>M (St cc x3) λfA=>ite (!fA) (V U) (ite (x3.aB==2) (ite (ce !=1) (Rq cM cc ce cO (!A' (cO<ci.av)) cN ch cO ci x3) (Rq cM cc ce cO U cN ch cO ci x3)) (Rq cM cc ce cO U cN ch cO ci x3))) K
def aUZ {bD} (cV:KK (M1 (aI 63)) agq bD) {f7} (aL:KK (M1 (aI 175)) Nr f7) (n:Nat):KK (M1 (aI 175)) Nr (Zo bD f7 n):=λ_ _ _ _ _ r h=>ie h (λc0 h=>be h λ_ eP h=>be h λ_ iY h=>let zA:SE:=[aD c0,(1,iG.idx eP),lX (aHX n iY)];ie h (λc1 h=>bt h zA [aD c1]) λc1 h=>ie h (λc2 h=>ie h (λc3 h=>cD (atV aL n h) zA [aD c1,aS c2,aS c3]) λc3 h=>cD (atV aL n h) zA [aD c1,aS c2,aS c3]) λc2 h=>cD (atV aL n h) zA [aD c1,aS c2]) λc0 h=>ra (cV h) [aD c0]
def L8 (bD:G Bool):Nat->Int->aU->Int->Int->ah->G Bool
 |0=>dK.z
 |n+1=>Zo bD (L8 bD n) n
def aGr {bD} (cV:KK (M1 (aI 63)) agq bD):∀n:Nat,KK (M1 (aI 175)) Nr (L8 bD n)
 |0=>KC.h
 |n+1=>aUZ cV (aGr cV n) n
def V6 (n:Nat):G Bool:=
 V I
def aUY:KK (M1 (aI 63)) agq (V6 a):=λr h=>rr h []
def Mu:G Bool:=
 ite ae (V U) (M (idx pu.ag b) λx4=>ite ((O rt:Int) !=(O x4.L:Int)) (V U) (L8 (V6 a) a D rt (O rt:Int) 0 x4))
def adR:KK (M1 [1,0,1]) aLR (Mu a):=λ_ _ _ _ _ r h=>ie h (λc0 bq=>by subst c0;exact (rr bq [])) λc0 bq=>by subst c0;exact (be bq λx4 ic bq=>ie bq (λc1 bq=>rr bq [(3,cy.idx ic),iO c1]) λc1 bq=>ra (aGr (aUY a) a bq) [(3,cy.idx ic),iO c1])
def avZ:G Bool:=
 ite (D !=1) (ite (D !=2) (ite (D !=3) (Mu a g rt D I i) (M (Mn a i g) λgF=>Mu a g rt D (!gF) i)) (M (Mn a i g) λkz=>Mu a g rt D (!kz) i)) (M (Mn a i g) λiK=>Mu a g rt D (!iK) i)
def aUX:KK (M1 []) axh (avZ a):=λ_ _ _ _ r h=>ie h (λc0 h=>ie h (λc1 h=>ie h (λc2 h=>ra (adR a h) [aZ c0,aS c1,aZ c2]) λc2 h=>be h λ_ iC h=>ra (adR a h) [aZ c0,aS c1,aZ c2,lY (LG a iC)]) λc1 h=>be h λ_ jK h=>ra (adR a h) [aZ c0,aS c1,vU (LG a jK)]) λc0 h=>be h λ_ gR h=>ra (adR a h) [aZ c0,uI (LG a gR)]
def F66:=avZ
def aDW:KK (Cx E0 66 dj bE) axh (F66 a):=λ_ _ _ _ _ h=>ca (X:=x66) (aUX a h)
def x187:=fx E0 Tryz.f187 []
def A187:=Ax x187 dj bE
def PK:LS:=⟨[(0,ck b)],[]⟩
def alH (n:Nat) (x0:Int):G Bool:=
 V (x0 !=x0)
def aNH:KK (A187 []) PK (alH a):=λ_ r h=>rr h []
def Y4:=alH
def aHw:KK (Cx E0 187 dj bE) PK (Y4 a):=λ_ _ h=>ca (X:=x187) (aNH a h)
def x160:=fx E0 Tryz.f160 []
def A160:=Ax x160 dU bE
def PM:LS:=⟨[(0,ck b),(1,ck d)],[]⟩
def amc:G Int:=
 M (Y4 a b) λx3=>M (Y4 a d) λx7=>ite x3 (ite x7 (V 0) (V (-1))) (ite x7 (V 1) (ite (A' (b<d)) (V (-1)) (ite (A' (d<b)) (V 1) (V 0))))
def aOF:KK (A160 []) PM (amc a):=λ_ _ r h=>be h λ_ eP h=>be h λ_ j7 h=>let zA:SE:=[jl (aHw a eP),jl (aHw a j7)];ie h (λc0 bq=>by subst c0;exact (ie bq (λc1 rn=>by subst c1;exact (rr rn zA)) λc1 rn=>by subst c1;exact (rr rn zA))) λc0 bq=>by subst c0;exact (ie bq (λc1 rn=>by subst c1;exact (rr rn zA)) λc1 rn=>by subst c1;exact (ie rn (λc2 rn=>bt rn zA [bN c2]) λc2 rn=>ie rn (λc3 rn=>bt rn zA [bN c2,aS c3]) λc3 rn=>bt rn zA [bN c2,aS c3]))
def X8:=amc
def aTr:KK (Cx E0 160 dU bE) PM (X8 a):=λ_ _ _ h=>ca (X:=x160) (aOF a h)
def x188:=fx E0 Tryz.f188 []
def A188:=Ax x188 dj bE
def alG (n:Nat) (x0:Int):G Bool:=
 V (x0 !=x0)
def aNG:KK (A188 []) PK (alG a):=λ_ r h=>rr h []
def Y5:=alG
def aHv:KK (Cx E0 188 dj bE) PK (Y5 a):=λ_ _ h=>ca (X:=x188) (aNG a h)
def x161:=fx E0 Tryz.f161 []
def A161:=Ax x161 dU bE
def amb:G Int:=
 M (Y5 a b) λx3=>M (Y5 a d) λx7=>ite x3 (ite x7 (V 0) (V (-1))) (ite x7 (V 1) (ite (A' (b<d)) (V (-1)) (ite (A' (d<b)) (V 1) (V 0))))
def aOE:KK (A161 []) PM (amb a):=λ_ _ r h=>be h λ_ eP h=>be h λ_ j7 h=>let zA:SE:=[jl (aHv a eP),jl (aHv a j7)];ie h (λc0 bq=>by subst c0;exact (ie bq (λc1 rn=>by subst c1;exact (rr rn zA)) λc1 rn=>by subst c1;exact (rr rn zA))) λc0 bq=>by subst c0;exact (ie bq (λc1 rn=>by subst c1;exact (rr rn zA)) λc1 rn=>by subst c1;exact (ie rn (λc2 rn=>bt rn zA [bN c2]) λc2 rn=>ie rn (λc3 rn=>bt rn zA [bN c2,aS c3]) λc3 rn=>bt rn zA [bN c2,aS c3]))
def X9:=amb
def aTq:KK (Cx E0 161 dU bE) PM (X9 a):=λ_ _ _ h=>ca (X:=x161) (aOE a h)
def x189:=fx E0 Tryz.f189 []
def A189:=Ax x189 dU bE
def PJ:LS:=⟨[(0,.str ul),(1,.str dk)],[]⟩
def alF:G Int:=
 M (YD a ul dk) λx4=>V x4
def aNF:KK (A189 []) PJ (alF a):=λ_ _ r h=>be h λ_ ic h=>rr h [jN (aTd a ic)]
def aFc:=alF
def aTi:KK (Cx E0 189 dU bE) PJ (aFc a):=λ_ _ _ h=>ca (X:=x189) (aNF a h)
def Sf:=fx E0 Tryz.f162 []
def A162:=Ax Sf dU bE
def ama:G Int:=
 M (aFc a ul dk) λx4=>V x4
def aOD:KK (A162 []) PJ (ama a):=λ_ _ r h=>be h λ_ ic h=>rr h [jN (aTi a ic)]
def aFg:=ama
def aTp:KK (Cx E0 162 dU bE) PJ (aFg a):=λ_ _ _ h=>ca (X:=Sf) (aOD a h)
def x116:=fx E0 Tryz.f116 []
def A116:=Ax x116 dU bE
def PX:LS:=⟨(HX (iF az) (iF di)),[]⟩
def amN:G Int:=
 ite ((az.aB==di.aB)&&((az.dt==di.dt)&&((A' (az.cH=di.cH))&&I))) (V 0) (M (X8 a az.aB di.aB) λdG=>ite (dG !=0) (V dG) (M (X9 a az.dt di.dt) λlK=>ite (lK !=0) (V lK) (M (aFg a az.cH di.cH) λEX=>V EX)))
def aQG:KK (A116 []) PX (amN a):=λ_ _ r h=>ie h (λc0 h=>rr h [bN c0]) λc0 h=>be h λ_ fR h=>let zA:SE:=[bN c0,lY (aTr a fR)];ie h (λc1 h=>bt h zA [aS c1]) λc1 h=>be h λ_ j8 h=>let zB:SE:=dx zA [aS c1,lY (aTq a j8)];ie h (λc2 h=>bt h zB [aS c2]) λc2 h=>be h λ_ Bw h=>bt h zB [aS c2,lY (aTp a Bw)]
def Su:=amN
def aTM:KK (Cx E0 116 dU bE) PX (Su a):=λ_ _ _ h=>ca (X:=x116) (aQG a h)
def x115:=fx E0 Tryz.f115 []
def TV:=Ax x115 dU bE
def afq:LS:=⟨[(0,.slice 38 3 (O rt) (cY rt)),(1,.slice 38 3 (O ad) (cY ad)),(2,.fn 116 [] []),(11,.slice 38 3 (O cN) (cY cN)),(12,iI ch),(13,iI cO)],[]⟩
def afr:LS:=⟨[(0,.slice 38 3 (O rt) (cY rt)),(1,.slice 38 3 (O ad) (cY ad))],[]⟩
def aoy:LS:=⟨[(0,.slice 38 3 (O rt) (cY rt)),(1,.slice 38 3 (O ad) (cY ad)),(2,.fn 116 [] [])],[]⟩
def XS (aH:YL) (f7:aU->aU->aU->Int->Int->G Int) (n:Nat) (Cw Cv a0:aU) (L ag:Int):G Int:=
 ite (A' (ag<L)) (M (idx a0 ag) λx3=>ite (!A' (ag<(O Cv:Int))) (V 1) (M (idx Cv ag) λgG=>M (Su n x3 gG) λiq=>ite (iq !=0) (V iq) (f7 Cw Cv a0 L (ba (ag+1))))) (aH Cw Cv)
def aQJ {aH} (aY:KK (TV [1,1]) afr aH) {f7} (aL:KK (TV (aI 21)) afq f7) (n:Nat):KK (TV (aI 21)) afq (XS aH f7 n):=λ_ _ _ _ _ r h=>ie h (λc0 h=>be h λ_ eP h=>let zA:SE:=[aD c0,(1,iG.idx eP)];ie h (λc1 h=>bt h zA [hI c1]) λc1 h=>be h λ_ lD h=>be h λ_ oo h=>let zB:SE:=dx zA [hI c1,(2,iG.idx lD),vU (aTM n oo)];ie h (λc2 h=>bt h zB [aS c2]) λc2 h=>cD (aL h) zB [aS c2]) λc0 h=>ra (aY h) [aD c0]
def Gw (aH:YL):Nat->aU->aU->aU->Int->Int->G Int
 |0=>dK.z
 |n+1=>XS aH (Gw aH n) n
def azW {aH} (aY:KK (TV [1,1]) afr aH):∀n:Nat,KK (TV (aI 21)) afq (Gw aH n)
 |0=>KC.h
 |n+1=>aQJ aY (azW aY n) n
def Pm (n:Nat) (Cw Cv:aU):G Int:=
 ite (A' ((O Cw:Int)<(O Cv:Int))) (V (-1)) (V 0)
def aQI:KK (TV [1,1]) afr (Pm a):=λ_ _ r h=>ie h (λc0 h=>rr h [bl c0]) λc0 h=>rr h [bl c0]
def aBP:G Int:=
 Gw (Pm a) a rt ad rt (O rt:Int) 0
def aQH:KK (TV []) aoy (aBP a):=λ_ _ r h=>ra (azW (aQI a) a h) []
def F115:=aBP
def aTN:KK (Cx E0 115 dU bE) aoy (F115 a):=λ_ _ _ h=>ca (X:=x115) (aQH a h)
def x67:=fx E0 Tryz.f67 []
def A67:=Ax x67 dU bE
def zt:LS:=⟨[(0,.slice 38 3 (O rt) (cY rt)),(1,.slice 38 3 (O ad) (cY ad))],[]⟩
def aJd:G Int:=
 M (F115 a rt ad) λx4=>V x4
def aUW:KK (A67 []) zt (aJd a):=λ_ _ r h=>be h λ_ ic h=>rr h [jN (aTN a ic)]
def Ko:=aJd
def Ig:KK (Cx E0 67 dU bE) zt (Ko a):=λ_ _ _ h=>ca (X:=x67) (aUW a h)
def adl:AV:=.slice 38 3 (O rt) (cY rt)
def x68:=fx E0 Tryz.f68 []
def A68:=Ax x68 adl bE
def I4:LS:=⟨[(0,.agg (cX i)),(1,iI g),(2,.slice 38 3 (O rt) (cY rt))],[]⟩
def avY (n:Nat) (s0:af) (dB:Int) (l9:aU):G aU:=
 ite (A' (dB<0)) (V []) (ite (!A' (dB<(O s0.ag:Int))) (V []) (M (idx s0.ag dB) λgF=>M (cut l9 A (V (ite (0<(ite ((O l9:Int)<gF.av) (O l9:Int) gF.av)) (ite ((O l9:Int)<gF.av) (O l9:Int) gF.av) 0))) λDB=>V DB))
def aUV:KK (A68 []) I4 (avY a):=λ_ _ _ r h=>ie h (λc0 h=>rr h [aZ c0,(3,.pN 6 (.sl 0 38 3 0 []))]) λc0 h=>ie h (λc1 h=>rr h [aZ c0,bN c1,(2,.pN 6 (.sl 0 38 3 0 []))]) λc1 h=>be h λ_ iC h=>be h λ_ yD h=>rr h [aZ c0,bN c1,(5,cy.idx iC),(6,iG.cut yD)]
def OW:=avY
def Oq:KK (Cx E0 68 adl bE) I4 (OW a):=λ_ _ _ _ h=>ca (X:=x68) (aUV a h)
def yQ:=fx E0 Tryz.f26 []
def HQ:=Ax yQ dU bE
def ahd:LS:=⟨[(1,iI b),aV 3,(8,iI d),(9,.slice 70 1 (O q) (je q)),(29,.slice 68 1 (O cx) (wk cx)),(30,iI bF),(31,iI cz),(36,.slice 70 1 (O c9) (je c9)),(37,iI cp),(38,iI dd)],[(3,fW (cX df))]⟩
def E7:LS:=⟨[(1,iI b),aV 3,(29,.slice 68 1 (O cx) (wk cx)),(30,iI bF),(31,iI cz)],[(3,fW (cX bG))]⟩
def ahc:LS:=⟨[],[]⟩
def axy:LS:=⟨[(0,.agg (cX i)),(1,ck g),(2,.agg (kV cl))],[]⟩
def Zd (f7:Int->Int->bz->dA->Int->Int->bz->Int->Int->af->G Int) (n:Nat) (dY t8:Int) (aiS:bz) (a0:dA) (L ag:Int) (aq:bz) (ar av:Int) (b3:af):G Int:=
 ite (A' (av<ar)) (M (idx aq av) λx3=>M (F66 n b3 t8 x3 dY) λiK=>ite (!iK) (V 80) (ite (A' (0<av)) (M (idx aiS (ba (av-1))) λiq=>M (OW n b3 t8 iq) λx26_=>M (OW n b3 t8 x3) λrN=>M (Ko n x26_ rN) λoD=>ite (!A' (oD<0)) (V 80) (f7 dY t8 aiS a0 L ag aq ar (ba (av+1)) b3)) (f7 dY t8 aiS a0 L ag aq ar (ba (av+1)) b3))) (cK dY a0 L ag b3)
def aWG {aH} (aY:KK (HQ (aI 3887)) E7 aH) {f7} (aL:KK (HQ (aI 45871)) ahd f7) (n:Nat):KK (HQ (aI 45871)) ahd (Zd aH f7 n):=λ_ _ _ _ _ _ _ _ _ _ r h=>ie h (λc0 h=>be h λ_ eP h=>be h λ_ gR h=>let zA:SE:=[aD c0,(1,ke.idx eP),uI (aDW n gR)];ie h (λc1 h=>bt h zA [aD c1]) λc1 h=>let zB:SE:=dx zA [aD c1,(0,.ord [0,1,2,3,4,5,6,7,8,9,11,12,13,10,14,15,16,17])];ie h (λc2 h=>be h λ_ oo h=>be h λ_ yC h=>be h λ_ uJ h=>be h λ_ xE h=>let zC:SE:=dx zB [aX c2,(6,ke.idx oo),lY (Oq n yC),kj (Oq n uJ),kj (Ig n xE)];ie h (λc3 h=>bt h zC [aD c3]) λc3 h=>cD (aL h) zC [aD c3]) λc2 h=>cD (aL h) zB [aX c2]) λc0 h=>ra (aY h) [aD c0]
def Q8 (aH:auB):Nat->Int->Int->bz->dA->Int->Int->bz->Int->Int->af->G Int
 |0=>dK.z
 |n+1=>Zd aH (Q8 aH n) n
def aGT {aH} (aY:KK (HQ (aI 3887)) E7 aH):∀n:Nat,KK (HQ (aI 45871)) ahd (Q8 aH n)
 |0=>KC.h
 |n+1=>aWG aY (aGT aY n) n
def Ze (n:Nat) (dY:Int) (a0:dA) (L ag:Int) (b3:af):G Int:=
 cK dY a0 L (ba (ag+1)) b3
def aWF {bw} (cQ:KK (HQ (aI 175)) E7 bw) (n:Nat):KK (HQ (aI 3887)) E7 (Ze bw n):=λ_ _ _ _ _ r h=>ra (cQ h) []
def Zf (a0:dA) (L ag:Int) (b3:af):G Int:=
 ite (A' (ag<L)) (M (idx a0 ag) λx3=>Q8 (Ze cK cc) cc ce ag x3 a0 L ag x3 (O x3:Int) 0 b3) cB
def aWE {bD} (cV:KK (HQ (aI 63)) ahc bD) {f7} (aL:KK (HQ (aI 175)) E7 f7) (n:Nat):KK (HQ (aI 175)) E7 (Zf bD f7 n):=λ_ _ _ _ _ r h=>ie h (λc0 h=>be h λ_ eP h=>ra (aGT (aWF aL n) n h) [aD c0,(1,p9.idx eP)]) λc0 h=>ra (cV h) [aD c0]
def Mi (bD:G Int):Nat->Int->dA->Int->Int->af->G Int
 |0=>dK.z
 |n+1=>Zf bD (Mi bD n) n
def aGS {bD} (cV:KK (HQ (aI 63)) ahc bD):∀n:Nat,KK (HQ (aI 175)) E7 (Mi bD n)
 |0=>KC.h
 |n+1=>aWE cV (aGS cV n) n
def Wl (n:Nat):G Int:=
 V 0
def aWD:KK (HQ (aI 63)) ahc (Wl a):=λr h=>rr h []
def awv:G Int:=
 M (F64 a i g) λx6=>ite (x6 !=0) (V x6) (M (F65 a cl) λiK=>ite (A' (512<iK)) (V 2) (ite ((O cl.ag:Int) !=(O i.ag:Int)) (V 80) (Mi (Wl a) a g cl.ag (O cl.ag:Int) 0 i)))
def aWC:KK (HQ []) axy (awv a):=λ_ _ _ r h=>be h λ_ km h=>let zA:SE:=[lX (ev64 a km)];ie h (λc0 h=>bt h zA [aS c0]) λc0 h=>be h λ_ gR h=>let zB:SE:=dx zA [aS c0,rJ (ev65 a gR)];ie h (λc1 h=>bt h zB [aD c1]) λc1 h=>ie h (λc2 h=>bt h zB [aD c1,dz c2]) λc2 h=>cD (aGS (aWD a) a h) zB [aD c1,dz c2]
def F26:=awv
def YO:KK (Cx E0 26 dU bE) axy (F26 a):=λ_ _ _ _ h=>ca (X:=yQ) (aWC a h)
def x147:=fx E0 Tryz.f147 []
def A147:=Ax x147 dU bE
def aol:LS:=⟨[(0,ck b)],[]⟩
def aBL (n:Nat) (c0:Int):G Int:=
 V c0
def aPg:KK (A147 []) aol (aBL a):=λ_ r h=>rr h []
def Fe:=aBL
def aHM:KK (Cx E0 147 dU bE) aol (Fe a):=λ_ _ h=>ca (X:=x147) (aPg a h)
def x146:=fx E0 Tryz.f146 []
def MF:=Ax x146 Jb bE
def TD:=Cx E0 146 Jb bE
def afc:LS:=⟨[(1,.fn 147 [] []),aV 4,aV 5,(33,.slice 107 13 (O y) (eh y)),(34,iI m),(35,iI s)],[(4,ll (fO am .bY)),(5,ll (fO Z (.ms 45 13 0 (O pp)))),(45,HZ pp)]⟩
def afd:LS:=⟨[aV 4,aV 5],[(4,ll (fO p .bY)),(5,ll (fO am (.ms 45 13 0 (O pp)))),(45,HZ pp)]⟩
def aom (b4 b5:aj):LS:=⟨[(1,.fn 147 [] []),aV 2,aV 4,aV 5],[(2,ll (gC p)),(4,q2_),(5,ll (gC b5))]⟩
def y5:LS:=⟨[(0,.agg (gC p)),(1,.fn 147 [] [])],[]⟩
def Xa (f7:bA->Int->Int->aj->aj->bA->G aj) (n:Nat) (a0:bA) (L ag:Int) (b4 b5:aj) (gf:bA):G aj:=
 ite (A' (ag<L)) (M (idx a0 ag) λx2=>M (bs x2) λdG=>M (app gf [dG]) λkz=>f7 a0 L (ba (ag+1)) (zg b4.aQ b4.fZ b4.cS b4.cA []) (zg b5.aQ b5.fZ b5.cS b5.cA kz) kz) (d2 (zg b4.aQ b4.fZ b4.cS b4.cA []) (zg b5.aQ b5.fZ b5.cS b5.cA gf) gf)
def aPj {ki} (sC:KK TD y5 ki) {aH} (aY:KK (MF (aI 127)) afd aH) {f7} (aL:KK (MF (aI 351)) afc f7) (n:Nat):KK (MF (aI 351)) afc (Xa ki aH f7 n):=λ_ _ _ _ _ _ r h=>ie h (λc0 h=>be h λ_ dq h=>be h λdG fR h=>be h λ_ jK h=>ra (aL h) [aD c0,(0,fE.idx dq),uI (sC fR),(0,.laid (bH (Bx.rows U 107 13) (fE.map [dG]).symm)),(0,fE.kq jK)]) λc0 h=>ra (aY h) [aD c0]
def J1 (ki:aiQ) (aH:auE):Nat->bA->Int->Int->aj->aj->bA->G aj
 |0=>dK.z
 |n+1=>Xa ki aH (J1 ki aH n) n
def azw {ki} (sC:KK TD y5 ki) {aH} (aY:KK (MF (aI 127)) afd aH):∀n:Nat,KK (MF (aI 351)) afc (J1 ki aH n)
 |0=>KC.h
 |n+1=>aPj sC aY (azw sC aY n) n
def W9 (ki:aiQ) (n:Nat) (b4 b5:aj) (gf:bA):G aj:=
 V (zg b5.aQ b5.fZ b5.cS b5.cA gf)
def aPi {ki} (sC:KK TD y5 ki) (n:Nat):KK (MF (aI 127)) afd (W9 ki n):=λ_ _ gf r h=>rr h [(2,fE.eD 45 gf),(0,.kH 4 (.flat 0 (uu 12 [.sl 0 0 0 0 []])))]
def Pb (b4 b5:aj):G aj:=
 J1 bs (W9 bs bx) bx aR.fArgs (O aR.fArgs:Int) 0 s8 (zg b5.aQ b5.fZ b5.cS b5.cA []) []
def aAW {ki} (sC:KK TD y5 ki) (n:Nat):KK (MF (aI 31)) aom (Pb ki n):=λ_ _ _ r h=>ra (azw sC (aPi sC n) n h) [(6,.born [] [(5,12)] 45 I 107 13)]
def Pa (b4 b5:aj):G aj:=
 ite (b5.cA.aB==1) (M (Fe bx b5.cA.dw) λx9=>Pb bs bx aR s8 (zg b5.aQ b5.fZ b5.cS (bP.mk b5.cA.aB x9 b5.cA.bp) b5.fArgs)) (Pb bs bx aR s8 b5)
def aAV {ki} (sC:KK TD y5 ki) (n:Nat):KK (MF [1,1,1]) aom (Pa ki n):=λ_ _ _ r h=>ie h (λc0 h=>be h λ_ ir h=>ra (aAW sC n h) [aZ c0,lY (aHM n ir)]) λc0 h=>ra (aAW sC n h) [aZ c0]
def amp:G aj:=
 ite (aR.cS.aB==1) (M (Fe bx aR.cS.dw) λkz=>Pa bs bx aR s8 (zg aR.aQ aR.fZ (bP.mk aR.cS.aB kz aR.cS.bp) aR.cA aR.fArgs)) (Pa bs bx aR s8 aR)
def aPh {ki} (sC:KK TD y5 ki) (n:Nat):KK (MF []) y5 (amp ki n):=λ_ r h=>ie h (λc0 h=>be h λ_ jK h=>ra (aAV sC n h) [iO c0,lY (aHM n jK)]) λc0 h=>ra (aAV sC n h) [iO c0]
def Ml:Nat->aj->G aj
 |0,_=>A
 |n+1,p0=>amp (Ml n) n p0
def aHN:∀n:Nat,KK TD y5 (Ml n)
 |0=>λ_ _ h=>nz h
 |n+1=>λ_ _ h=>ca (X:=x146) (aPh (aHN n) n h)
def x159:=fx E0 Tryz.f159 []
def A159:=Ax x159 dU bE
def aJD:LS:=⟨[(0,ck b),(23,.bool ae)],[]⟩
def aoh:LS:=⟨[(0,ck b),(1,ck d),(2,ck g)],[]⟩
def Kz (n:Nat) (alg:Int) (a0:Bool):G Int:=
 ite a0 (V (ba (alg+1))) (V alg)
def Vz:KK (A159 (aI 505)) aJD (Kz a):=λ_ _ r h=>ie h (λc0 bq=>by subst c0;exact (rr bq [])) λc0 bq=>by subst c0;exact (rr bq [])
def amd:G Int:=
 ite (b==d) (V g) (ite (A' (d<b)) (ite (!A' (g<b)) (V (ba (b-1))) (ite (!A' (b<g)) (Kz a b (A' (b<d))) (Kz a b U))) (ite (!A' (b<g)) (Kz a b (A' (b<d))) (Kz a b U)))
def aOG:KK (A159 []) aoh (amd a):=λ_ _ _ r h=>ie h (λc0 h=>rr h [aZ c0]) λc0 h=>ie h (λc1 h=>let zA:SE:=[aZ c0,aZ c1];ie h (λc2 h=>bt h zA [aZ c2]) λc2 h=>ie h (λc3 h=>cD (Vz a h) zA [aZ c2,bl c3]) λc3 h=>cD (Vz a h) zA [aZ c2,bl c3]) λc1 h=>ie h (λc2 h=>ra (Vz a h) [aZ c0,aZ c1,bN c2]) λc2 h=>ra (Vz a h) [aZ c0,aZ c1,bN c2]
def X7:=amd
def aTs:KK (Cx E0 159 dU bE) aoh (X7 a):=λ_ _ _ _ h=>ca (X:=x159) (aOG a h)
def ayb (r:(Int×Int×Bool)):AV:=.dh [ck r.1,ck r.2.1,.bool r.2.2]
def x113:=fx E0 Tryz.f113 []
def A113:=Ax x113 ayb bE
def aoz:LS:=⟨[(0,.agg (oN C)),(1,ck D),(2,ck B)],[]⟩
def XT:G (Int×Int×Bool):=
 ite (C.aQ==7) (ite (D==C.aq) (V ((-1),(-1),U)) (ite (A' (C.aq<D)) (V (ba (D-1),B,I)) (V (D,B,I)))) (ite (C.aQ==2) (ite (D==C.aq) (ite (!A' (B<0)) (ite (B==C.bc) (V (D,(-1),U)) (ite (A' (C.bc<B)) (V (D,ba (B-1),I)) (V (D,B,I)))) (V (D,B,I))) (V (D,B,I))) (ite (C.aQ==3) (ite (D==C.aq) (ite (!A' (B<0)) (M (X7 a B C.bc C.kY) λyQ=>V (D,yQ,I)) (V (D,B,I))) (V (D,B,I))) (V (D,B,I))))
def aQL:KK (A113 []) aoz (XT a):=λ_ _ _ r h=>ie h (λc0 h=>ie h (λc1 h=>rr h [dz c0,bl c1]) λc1 h=>ie h (λc2 h=>rr h [dz c0,bl c1,aZ c2]) λc2 h=>rr h [dz c0,bl c1,aZ c2]) λc0 h=>ie h (λc1 h=>let zA:SE:=[dz c0,aX c1];ie h (λc2 h=>let zB:SE:=dx zA [bl c2];ie h (λc3 h=>ie h (λc4 h=>bt h zB [aS c3,bl c4]) λc4 h=>ie h (λc5 h=>bt h zB [aS c3,bl c4,aZ c5]) λc5 h=>bt h zB [aS c3,bl c4,aZ c5]) λc3 h=>bt h zB [aS c3]) λc2 h=>bt h zA [bl c2]) λc1 h=>let zA:SE:=[dz c0,aX c1];ie h (λc2 h=>ie h (λc3 h=>ie h (λc4 h=>be h λ_ yC h=>bt h zA [aX c2,bl c3,aS c4,vU (aTs a yC)]) λc4 h=>bt h zA [aX c2,bl c3,aS c4]) λc3 h=>bt h zA [aX c2,bl c3]) λc2 h=>bt h zA [aX c2]
def R6:=XT
def aHY:KK (Cx E0 113 ayb bE) aoz (R6 a):=λ_ _ _ _ h=>ca (X:=x113) (aQL a h)
def x198:=fx E0 Tryz.f198 [1,9000]
def A198:=AxS x198 [1,9000] dU bE
def C198:=CxS E0 198 [1,9000] dU bE
def anZ:LS:=⟨[(0,ck b),aV 1],[(1,S9),(9000,mG (bn c (.ms Fv 5 0 (O c.cf.ag))))]⟩
def alz:G Int:=
 M (R6 a c.fm c.fm.aq b) λiK=>V iK.2.1
def aNv:KK (A198 []) anZ (alz a):=λ_ _ r h=>be h λ_ gR h=>MM h [(11,uk (aHY a gR))]
def To:=alz
def ati:KK C198 anZ (To a):=λ_ _ _ h=>caS (X:=x198) (aNv a h)
def aFr:=fx E0 Tryz.f146 [9000,ly]
def En:=AxS aFr [9000,100100] Jb bE
def Mq:=CxS E0 146 [9000,100100] Jb bE
def ad5:LS:=⟨[(1,.fn 198 [] [.loc ly 0]),aV 4,aV 5,(33,.slice 107 13 (O y) (eh y)),(34,iI m),(35,iI s)],[(4,ll (fO am .bY)),(5,ll (fO Z (.ms 45 13 0 (O pp)))),(45,HZ pp),(9000,mG (bn ay (.ms Fv 5 0 (O ay.cf.ag)))),(ly,S9)]⟩
def ad7:LS:=⟨[aV 4,aV 5],[(4,ll (fO p .bY)),(5,ll (fO am (.ms 45 13 0 (O pp)))),(45,HZ pp),(9000,mG (bn c (.ms Fv 5 0 (O c.cf.ag)))),(ly,S9)]⟩
def ahp (b4 b5:aj):LS:=⟨[(1,.fn 198 [] [.loc ly 0]),aV 2,aV 4,aV 5],[(2,ll (gC p)),(4,q2_),(5,ll (gC b5)),(9000,mG (bn c (.ms Fv 5 0 (O c.cf.ag)))),(ly,S9)]⟩
def wh:LS:=⟨[(0,.agg (gC p)),(1,.fn 198 [] [.loc ly 0])],[(9000,mG (bn ay (.ms Fv 5 0 (O ay.cf.ag)))),(ly,S9)]⟩
def RI (aH:Wf40) (f7:bA->Int->Int->aJ->aj->aj->bA->G aj) (n:Nat) (a0:bA) (L ag:Int) (lz:aJ) (b4 b5:aj) (gf:bA):G aj:=
 ite (A' (ag<L)) (M (idx a0 ag) λx2=>M (bj x2 lz) λdG=>M (app gf [dG]) λkz=>f7 a0 L (ba (ag+1)) lz (zg b4.aQ b4.fZ b4.cS b4.cA []) (zg b5.aQ b5.fZ b5.cS b5.cA kz) kz) (aH lz (zg b4.aQ b4.fZ b4.cS b4.cA []) (zg b5.aQ b5.fZ b5.cS b5.cA gf) gf)
def aKU {jd} (pX:KK Mq wh jd) {aH} (aY:KK (En (aI 127)) ad7 aH) {f7} (aL:KK (En (aI 351)) ad5 f7) (n:Nat):KK (En (aI 351)) ad5 (RI jd aH f7 n):=λ_ _ _ _ _ _ _ r h=>ie h (λc0 h=>be h λ_ dq h=>be h λdG fR h=>be h λ_ jK h=>Je (aL h) bv [aD c0,(0,fE.idx dq),(7,.call (pX fR) [(9000,9000),(ly,ly)] []),(0,.laid (bH (Bx.rows U 107 13) (fE.map [dG]).symm)),(0,fE.kq jK)]) λc0 h=>Je (aY h) bv [aD c0]
def EO (jd:aiR) (aH:Wf40):Nat->bA->Int->Int->aJ->aj->aj->bA->G aj
 |0=>dK.z
 |n+1=>RI jd aH (EO jd aH n) n
def apB {jd} (pX:KK Mq wh jd) {aH} (aY:KK (En (aI 127)) ad7 aH):∀n:Nat,KK (En (aI 351)) ad5 (EO jd aH n)
 |0=>KC.h
 |n+1=>aKU pX aY (apB pX aY n) n
def RH (jd:aiR) (n:Nat) (lz:aJ) (b4 b5:aj) (gf:bA):G aj:=
 V (zg b5.aQ b5.fZ b5.cS b5.cA gf)
def aKT {jd} (pX:KK Mq wh jd) (n:Nat):KK (En (aI 127)) ad7 (RH jd n):=λ_ _ _ gf r h=>MM h [(2,fE.eD 45 gf),(0,.kH 4 (.flat 0 (uu 12 [.sl 0 0 0 0 []])))]
def KF (b4 b5:aj):G aj:=
 EO bj (RH bj a6) a6 cn.fArgs (O cn.fArgs:Int) 0 dc s8 (zg b5.aQ b5.fZ b5.cS b5.cA []) []
def aqb {jd} (pX:KK Mq wh jd) (n:Nat):KK (En (aI 31)) ahp (KF jd n):=λ_ _ _ _ r h=>Je (apB pX (aKT pX n) n h) bv [(6,.born [] [(5,12)] 45 I 107 13)]
def KD (b4 b5:aj):G aj:=
 ite (b5.cA.aB==1) (M (To a6 b5.cA.dw dc) λx9=>KF bj a6 dc cn s8 (zg b5.aQ b5.fZ b5.cS (bP.mk b5.cA.aB x9 b5.cA.bp) b5.fArgs)) (KF bj a6 dc cn s8 b5)
def aqa {jd} (pX:KK Mq wh jd) (n:Nat):KK (En [1,1,1]) ahp (KD jd n):=λ_ _ _ _ r h=>ie h (λc0 h=>be h λ_ ir h=>Je (aqb pX n h) bv [aZ c0,(4,.call (ati n ir) [(ly,1),(9000,9000)] [])]) λc0 h=>Je (aqb pX n h) bv [aZ c0]
def abG:G aj:=
 ite (a8.cS.aB==1) (M (To a6 a8.cS.dw dc) λkz=>KD bj a6 dc a8 s8 (zg a8.aQ a8.fZ (bP.mk a8.cS.aB kz a8.cS.bp) a8.cA a8.fArgs)) (KD bj a6 dc a8 s8 a8)
def aKS {jd} (pX:KK Mq wh jd) (n:Nat):KK (En []) wh (abG jd n):=λ_ _ r h=>ie h (λc0 h=>be h λ_ jK h=>Je (aqa pX n h) bv [iO c0,(4,.call (ati n jK) [(ly,1),(9000,9000)] [])]) λc0 h=>Je (aqa pX n h) bv [iO c0]
def Ek:Nat->aj->aJ->G aj
 |0,_,_=>A
 |n+1,p0,lz=>abG (Ek n) n p0 lz
def aAs:∀n:Nat,KK Mq wh (Ek n)
 |0=>λ_ _ _ h=>nz h
 |n+1=>λ_ _ _ h=>caS (X:=aFr) (aKS (aAs n) n h)
def x96:=fx E0 Tryz.f96 []
def KL:=Ax x96 Uy P9
def afX:LS:=⟨[aV 1,aV 2,aV 3,(17,.slice 121 2 (O S) (eK S)),(18,iI B),(19,iI aa)],[(1,iJ (jO T)),(2,iJ (fw E .bY .bY .bY)),(3,iJ (fw W (.ms 12 2 0 (O N)) (.ms tV 2 0 (O or)) .bY)),(12,ZM N),(tV,DE or)]⟩
def afW:LS:=⟨[aV 2,aV 3,(36,.slice 107 13 (O y) (eh y)),(37,iI m),(38,iI s)],[(2,iJ (fw T .bY .bY .bY)),(3,iJ (fw E (.ms 12 2 0 (O N)) (.ms tV 2 0 (O bS)) (.ms 47 13 0 (O pp)))),(12,ZM N),(47,HZ pp),(tV,DE bS)]⟩
def afV:LS:=⟨[aV 2,aV 3],[(2,iJ (fw u .bY .bY .bY)),(3,iJ (fw T (.ms 12 2 0 (O N)) (.ms tV 2 0 (O bS)) (.ms 47 13 0 (O pp)))),(12,ZM N),(47,HZ pp),(tV,DE bS)]⟩
def afU:LS:=⟨[aV 1,aV 2,aV 3],[(1,iJ (jO u)),(2,iJ (fw T .bY .bY .bY)),(3,iJ (fw E (.ms 12 2 0 (O N)) (.ms tV 2 0 (O or)) .bY)),(12,ZM N),(tV,DE or)]⟩
def aef (bD:Wf41) (f7:bR->Int->Int->ah->ah->ah->dr->bR->G ah) (n:Nat) (a0:bR) (ag ar:Int) (b1 b2 b3:ah) (cJ:dr) (jV:bR):G ah:=
 ite (A' (ar<ag)) (M (idx a0 ar) λx2=>M (app [] x2.L) λdG=>M (app jV [(br.mk dG x2.aq)]) λjh=>M (setAt jh (O jV) (br.mk dG x2.aq)) λaB=>f7 a0 ag (ba (ar+1)) b1 (Jl b2.aK [] b2.av [] []) (Jl b3.aK cJ b3.av aB []) cJ aB) (bD b1 (Jl b2.aK [] b2.av [] []) (Jl b3.aK cJ b3.av jV []) cJ jV)
def aUe {bD} (cV:KK (KL [1,1,1]) afU bD) {f7} (aL:KK (KL (aI 43)) afX f7) (n:Nat):KK (KL (aI 43)) afX (aef bD f7 n):=λ_ _ _ _ _ b3 cJ jV r h=>ie h (λc0 h=>be h λx2 dq h=>be h λdG fR h=>be h λ_ iX h=>be h λ_ zX h=>ra (aL h) [aD c0,(0,fT.idx dq),(3,.born [] [] 27 I 3 1),(4,R3.app (xs:= []) fR),(4,fT.Nn iX),(2,.beq tV (bH (λq_=>Bx.tree 121 2 UR q_ [(O jV*2+0,.ms 27 1 0 (O dG))]) (fT.apS (r:= (qZ x2.aq)) iX))),(0,fT.jf R3 (r:= (qZ x2.aq)) tV 27 0 U 3 1 dG zX),(2,.beq 3 (bH (λn_=>((iJ (fw b3 (.ms 12 2 0 (O cJ)) (.ms tV 2 0 n_) .bY)))) (((fT.apL iX).trans (eB zX)))))]) λc0 h=>ra (cV h) [aD c0]
def QI (bD:Wf41):Nat->bR->Int->Int->ah->ah->ah->dr->bR->G ah
 |0=>dK.z
 |n+1=>aef bD (QI bD n) n
def aGd {bD} (cV:KK (KL [1,1,1]) afU bD):∀n:Nat,KK (KL (aI 43)) afX (QI bD n)
 |0=>KC.h
 |n+1=>aUe cV (aGd cV n) n
def aee (bw:Wf42) (f7:bA->Int->Int->ah->ah->dr->bA->bR->G ah) (n:Nat) (a0:bA) (L ag:Int) (b2 b3:ah) (cJ:dr) (OH:bA) (jV:bR):G ah:=
 ite (A' (ag<L)) (M (idx a0 ag) λx2=>M (Ml n x2) λfA=>M (app OH [fA]) λdZ=>f7 a0 L (ba (ag+1)) (Jl b2.aK [] b2.av [] []) (Jl b3.aK cJ b3.av jV dZ) cJ dZ jV) (bw (Jl b2.aK [] b2.av [] []) (Jl b3.aK cJ b3.av jV OH) cJ OH jV)
def aUd {bw} (cQ:KK (KL (aI 31)) afV bw) {f7} (aL:KK (KL (aI 87)) afW f7) (n:Nat):KK (KL (aI 87)) afW (aee bw f7 n):=λ_ _ _ _ _ _ _ _ r h=>ie h (λc0 h=>be h λ_ dq h=>be h λfA iY h=>be h λ_ gj h=>ra (aL h) [aD c0,(0,fE.idx dq),vU (aHN n iY),(0,.laid (bH (Bx.rows U 107 13) (fE.map [fA]).symm)),(0,fE.kq gj)]) λc0 h=>ra (cQ h) [aD c0]
def QH (bw:Wf42):Nat->bA->Int->Int->ah->ah->dr->bA->bR->G ah
 |0=>dK.z
 |n+1=>aee bw (QH bw n) n
def aGc {bw} (cQ:KK (KL (aI 31)) afV bw):∀n:Nat,KK (KL (aI 87)) afW (QH bw n)
 |0=>KC.h
 |n+1=>aUd cQ (aGc cQ n) n
def avF (n:Nat) (b2 b3:ah) (cJ:dr) (OH:bA) (jV:bR):G ah:=
 V (Jl b3.aK cJ b3.av jV OH)
def aUc:KK (KL (aI 31)) afV (avF a):=λ_ _ _ _ _ r h=>rr h [(2,.iS 12 vi),(0,.iS tV 201003),(0,.iS 47 201004)]
def aed:G ah:=
 QH (avF a) a u.aM (O u.aM:Int) 0 (Jl T.aK [] T.av [] []) (Jl E.aK N E.av or []) N [] or
def aUb:KK (KL [1,1,1]) afU (aed a):=λ_ _ _ _ _ r h=>ra (aGc (aUc a) a h) [(4,.born [] [(3,4)] 47 I 107 13)]
def avE:G ah:=
 M (app [] u.L) λx7=>QI (aed a) a u.ar (O u.ar:Int) 0 u (Jl I' [] 0 [] []) (Jl u.aK x7 u.av [] []) x7 []
def aUa:KK (KL []) PR (avE a):=λ_ r h=>be h λ_ j7 h=>ra (aGd (aUb a) a h) [(2,.born [] [] 12 I 73 2),(4,fI.app (xs:= []) j7),(9,.born [] [(3,3)] tV I 121 2)]
def F96:=avE
def ev96:KK (Cx E0 96 Uy P9) PR (F96 a):=λ_ _ h=>ca (X:=x96) (aUa a h)
def aFL:AV:=.agg [q4_ i,wu vi (O i.ag)]
def ayr:List (Nat×Bx):= [(vi,.tree 44 5 o9 (dI i.ag) [])]
def IW:=fx E0 Tryz.f41 []
def A41:=Ax IW aFL ayr
def agJ:LS:=⟨[aV 2,aV 3,(10,.slice 44 5 (O t) (dI t)),(11,iI o),(12,iI x)],[(2,Bp w),(3,tP R wD (O qr)),(wD,AL qr)]⟩
def agI:LS:=⟨[aV 2,aV 3],[(2,Bp i),(3,tP w wD (O qr)),(wD,AL qr)]⟩
def aeR (aH:Wf43) (f7:bC->Int->Int->af->af->bC->G af) (n:Nat) (a0:bC) (L ag:Int) (b2 b3:af) (qw:bC):G af:=
 ite (A' (ag<L)) (M (idx a0 ag) λx2=>M (F96 n x2) λfA=>M (app qw [fA]) λdZ=>M (setAt dZ (O qw) fA) λxJ=>f7 a0 L (ba (ag+1)) (EY b2.aC []) (EY b3.aC xJ) xJ) (aH (EY b2.aC []) (EY b3.aC qw) qw)
def aVT {aH} (aY:KK (A41 [1,1,1]) agI aH) {f7} (aL:KK (A41 (aI 43)) agJ f7) (n:Nat):KK (A41 (aI 43)) agJ (aeR aH f7 n):=λ_ _ _ _ b3 qw r h=>ie h (λc0 h=>be h λ_ dq h=>be h λfA iY h=>be h λ_ gj h=>be h λ_ pC h=>ra (aL h) [aD c0,(0,cy.idx dq),(6,.call (ev96 n iY) [] [(330190001,vi),(330190003,201003),(330190004,201004)]),(1,cy.Nn gj),(2,.beq wD (bH (λq_=>Bx.tree 44 5 o9 q_ (ZI (O qw*5+1) 330190001 fA (O qw*5+3) 330190003 (O qw*5+4) 330190004)) (cy.apS (r:= (cP fA)) gj))),(0,cy.kQ fI (r:= (cP fA)) wD 330190001 1 U 73 2 fA.L pC (ug fA)),(0,cy.kQ fT (r:= (ug fA)) wD 330190003 3 U 121 2 fA.ar pC (oE fA)),(0,cy.jf fE (r:= (oE fA)) wD 330190004 4 U 107 13 fA.aM pC),(2,.beq 3 (bH (tP b3 wD) (((cy.apL gj).trans (eB pC)))))]) λc0 h=>ra (aY h) [aD c0]
def QZ (aH:Wf43):Nat->bC->Int->Int->af->af->bC->G af
 |0=>dK.z
 |n+1=>aeR aH (QZ aH n) n
def aGE {aH} (aY:KK (A41 [1,1,1]) agI aH):∀n:Nat,KK (A41 (aI 43)) agJ (QZ aH n)
 |0=>KC.h
 |n+1=>aVT aY (aGE aY n) n
def awm (n:Nat) (b2 b3:af) (qw:bC):G af:=
 V (EY b3.aC qw)
def aVS:KK (A41 [1,1,1]) agI (awm a):=λ_ _ _ r h=>rr h [(2,.iS wD vi)]
def awl:G af:=
 QZ (awm a) a i.ag (O i.ag:Int) 0 (EY 0 []) (EY i.aC []) []
def aVR:KK (A41 []) vF (awl a):=λ_ r h=>ra (aGE (aVS a) a h) [(11,.born [] [(3,1)] wD I 44 5)]
def F41:=awl
def LD:KK (Cx E0 41 aFL ayr) vF (F41 a):=λ_ _ h=>ca (X:=IW) (aVR a h)
def axS:AV:=.el bK 5 a 0
def x178:=fxR E0 Tryz.f178 [0,bK]
def A178:=AxS x178 [0,8589934592] axS bE
def C178:=CxSR E0 178 [0,8589934592] axS bE
def oC:LS:=⟨[aV 0],(q7_ (bn c (.ms bK 5 0 (O c.cf.ag))) bK c)⟩
def WJ (n:Nat) (g0:aJ):G Nat:=
 M (eT (O g0.cf.ag) g0.fm.aq) λiK=>V (0+iK)
def aNY:KK (A178 []) oC (WJ a):=λ_ r h=>be h λ_ gR h=>MM h [(11,du gR)]
def GA:=WJ
def Qs:KK C178 oC (GA a):=λ_ _ h=>caSR (X:=x178) (aNY a h)
def aoI:AV:=.kX (jO u)
def aFq:=fx E0 Tryz.f178 []
def aXz:=Ax aFq aoI bE
def Bh:LS:=⟨[(0,.kX (FY c))],[]⟩
def abF (n:Nat) (g0:aJ):G ah:=
 M (idx g0.cf.ag g0.fm.aq) λiK=>V iK
def aKR:KK (aXz []) Bh (abF a):=λ_ r h=>be h λ_ gR h=>rr h [(11,cy.idx gR)]
def Rj:=abF
def Vl:KK (Cx E0 178 aoI bE) Bh (Rj a):=λ_ _ h=>ca (X:=aFq) (aKR a h)
def x179:=fx E0 Tryz.f179 []
def A179:=Ax x179 dj bE
def aod:LS:=⟨[(0,.agg (iF az)),(1,ck aA)],[]⟩
def alL:G Bool:=
 M (Tu a az) λx4=>ite x4 (V (az.aB==aA)) (V U)
def aNX:KK (A179 []) aod (alL a):=λ_ _ r h=>be h λ_ ic h=>ie h (λc0 bq=>by subst c0;exact (rr bq [jN (adI a ic)])) λc0 bq=>by subst c0;exact (rr bq [jN (adI a ic)])
def RO:=alL
def atj:KK (Cx E0 179 dj bE) aod (RO a):=λ_ _ _ h=>ca (X:=x179) (aNX a h)
def sj:AV:=.bool dl.1
def r8:List (Nat×Bx):= (q7_ (bn dl.2 (.ms bK 5 0 (O dl.2.cf.ag))) bK dl.2)
def x148:=fx E0 Tryz.f148 [0,bK]
def A148:=Ax x148 sj r8
def amo:G (Bool×aJ):=
 M (GA a c) λx3=>M (c.cf.ag[x3]?) λu6=>M (app u6.L [(bW.mk c.fm.aK c.fm.aB)]) λim=>M (RO a c.fm.bp c.fm.aB) λx40=>M (setAt c.cf.ag x3 (Jl u6.aK im u6.av u6.ar u6.aM)) λa0=>V (x40,(MH (EY c.cf.aC a0) c.fm))
def aPf:KK (A148 []) oC (amo a):=λg0 r h=>be h λ_ eP h=>be h λu6 CG h=>be h λim mc h=>be h λ_ aDo h=>be h λ_ hz43 h=>rr h [(2,.call (Qs a eP) [(0,0),(bK,bK)] []),(1,cy.pc fI bK js 1 U 73 2 u6.L CG (bZ u6)),(17,fI.kq mc),(2,cy.zZ 1 (bZ u6) (bZ u6) CG),(10,uk (atj a aDo)),(1,cy.jf fI (r:= (bZ u6)) bK js 1 U 73 2 im hz43),(0,.beq 0 (bH (λn_=>((mG (bn g0 (.ms bK 5 0 n_))))) (eB hz43)))]
def Fo:=amo
def aTA:KK (Cx E0 148 sj r8) oC (Fo a):=λ_ _ h=>ca (X:=x148) (aPf a h)
def x180:=fx E0 Tryz.f180 []
def A180:=Ax x180 dj bE
def aoc:LS:=⟨[(0,.kX (FY c)),(1,ck g)],[]⟩
def alK:G Bool:=
 M (Rj a c) λx3=>ite (!A' (g<x3.av)) (V (A' (g<(O x3.L:Int)))) (V U)
def aNW:KK (A180 []) aoc (alK a):=λ_ _ r h=>be h λ_ eP h=>ie h (λc0 h=>rr h [jl (Vl a eP),dz c0]) λc0 h=>rr h [jl (Vl a eP),dz c0]
def Tt:=alK
def adH:KK (Cx E0 180 dj bE) aoc (Tt a):=λ_ _ _ h=>ca (X:=x180) (aNW a h)
def x217:=fx E0 Tryz.f217 []
def TF:=Ax x217 dU bE
def auX:LS:=⟨[(0,.slice 3 1 (O j) (dP j)),(1,iI g),(7,iI o),(8,iI x)],[]⟩
def auY:LS:=⟨[],[]⟩
def PH:LS:=⟨[(0,.slice 3 1 (O j) (dP j)),(1,iI g)],[]⟩
def Wq (f7:aN->Int->Int->Int->G Int) (n:Nat) (s0:aN) (v1 t7 t8:Int):G Int:=
 ite (A' (t8<t7)) (M (idx s0 t8) λx7=>ite (v1==x7) (V t8) (f7 s0 v1 t7 (ba (t8+1)))) cB
def aNo {aH} (aY:KK (TF [1,1]) auY aH) {f7} (aL:KK (TF (aI 21)) auX f7) (n:Nat):KK (TF (aI 21)) auX (Wq aH f7 n):=λ_ _ _ _ r h=>ie h (λc0 h=>be h λ_ j7 h=>ie h (λc1 h=>rr h [aD c0,(5,R3.idx j7),aX c1]) λc1 h=>ra (aL h) [aD c0,(5,R3.idx j7),aX c1]) λc0 h=>ra (aY h) [aD c0]
def JM (aH:G Int):Nat->aN->Int->Int->Int->G Int
 |0=>dK.z
 |n+1=>Wq aH (JM aH n) n
def ayW {aH} (aY:KK (TF [1,1]) auY aH):∀n:Nat,KK (TF (aI 21)) auX (JM aH n)
 |0=>KC.h
 |n+1=>aNo aY (ayW aY n) n
def Wp (n:Nat):G Int:=
 V (-1)
def aNn:KK (TF [1,1]) auY (Wp a):=λr h=>rr h []
def alx:G Int:=
 JM (Wp a) a j g (O j:Int) 0
def aNm:KK (TF []) PH (alx a):=λ_ _ r h=>ra (ayW (aNn a) a h) []
def aEZ:=alx
def aTa:KK (Cx E0 217 dU bE) PH (aEZ a):=λ_ _ _ h=>ca (X:=x217) (aNm a h)
def x196:=fx E0 Tryz.f196 []
def A196:=Ax x196 dj bE
def alB:G Bool:=
 M (aEZ a j g) λx4=>V (!A' (x4<0))
def aNx:KK (A196 []) PH (alB a):=λ_ _ r h=>be h λ_ ic h=>rr h [jN (aTa a ic)]
def Lk:=alB
def aHs:KK (Cx E0 196 dj bE) PH (Lk a):=λ_ _ _ h=>ca (X:=x196) (aNx a h)
def x214:=fx E0 Tryz.f214 []
def A214:=Ax x214 dU bE
def PI:LS:=⟨[(0,.int .u64 b)],[]⟩
def aBE (n:Nat) (x0:Int):G Int:=
 ite (!A' (x0<4294967296)) A (ite (!A' (x0<65536)) A (ite (!A' (x0<256)) A (M (H8 (NB #[0,1,2,2,3,3,3,3,4,4,4,4,4,4,4,4,5,5,5,5,5,5,5,5,5,5,5,5,5,5,5,5,6,6,6,6,6,6,6,6,6,6,6,6,6,6,6,6,6,6,6,6,6,6,6,6,6,6,6,6,6,6,6,6,7,7,7,7,7,7,7,7,7,7,7,7,7,7,7,7,7,7,7,7,7,7,7,7,7,7,7,7,7,7,7,7,7,7,7,7,7,7,7,7,7,7,7,7,7,7,7,7,7,7,7,7,7,7,7,7,7,7,7,7,7,7,7,7,8,8,8,8,8,8,8,8,8,8,8,8,8,8,8,8,8,8,8,8,8,8,8,8,8,8,8,8,8,8,8,8,8,8,8,8,8,8,8,8,8,8,8,8,8,8,8,8,8,8,8,8,8,8,8,8,8,8,8,8,8,8,8,8,8,8,8,8,8,8,8,8,8,8,8,8,8,8,8,8,8,8,8,8,8,8,8,8,8,8,8,8,8,8,8,8,8,8,8,8,8,8,8,8,8,8,8,8,8,8,8,8,8,8,8,8,8,8,8,8,8,8,8,8,8,8,8,8]) (Hk .u8 (x0))) λdG=>V (ba (0+(ba ((dG.toNat:Int))))))))
def aNs:KK (A214 []) PI (aBE a):=λ_ r h=>ie h (λc0 h=>nz h) λc0 h=>ie h (λc1 h=>nz h) λc1 h=>ie h (λc2 h=>nz h) λc2 h=>be h λ_ fR h=>rr h [aS c0,aX c1,aX c2,(3,.chr (fR))]
def F214:=aBE
def aTc:KK (Cx E0 214 dU bE) PI (F214 a):=λ_ _ h=>ca (X:=x214) (aNs a h)
def x191:=fx E0 Tryz.f191 []
def A191:=Ax x191 dU bE
def aBF:G Int:=
 M (F214 a b) λx3=>V x3
def aNE:KK (A191 []) PI (aBF a):=λ_ r h=>be h λ_ eP h=>rr h [jl (aTc a eP)]
def RP:=aBF
def aTh:KK (Cx E0 191 dU bE) PI (RP a):=λ_ _ h=>ca (X:=x191) (aNE a h)
def axQ:AV:=.ms jy 1 0 (O en.2)
def aoR:List (Nat×Bx):= [(jy,DD en.2)]
def x218:=fx E0 Tryz.f218 [jy]
def yM:=Ax x218 axQ aoR
def Mp:=Cx E0 218 axQ aoR
def aJu:LS:=⟨[(0,sR jy (O a3)),aV 3,aV 6,(16,.agg (Vo bf)),(17,ck aA)],[(3,ll (gC a8)),(6,.flat 105 (sF a9)),(jy,DD a3)]⟩
def PG:LS:=⟨[(0,sR jy (O a3)),aV 3,(16,.agg (Vo bf)),(17,ck aA)],[(3,ll (gC a8)),(jy,DD a3)]⟩
def auZ:LS:=⟨[(0,.ms jy 1 0 (O ai)),(35,.slice 107 13 (O y) (eh y)),(36,iI m),(37,iI s)],[(jy,DD ai)]⟩
def aug:LS:=⟨[(0,sR jy (O j))],[(jy,DD j)]⟩
def aui:LS:=⟨[(0,sR jy (O j)),aV 3],[(3,ll (gC p)),(jy,DD j)]⟩
def vG:LS:=⟨[(0,sR jy (O j)),(1,.agg (gC p))],[(jy,DD j)]⟩
def O1 (iu:HC) (aH:Wf44) (n:Nat) (a0:mh) (L:Int) (jq:aN) (b3:aj) (b6:bP):G (aN×aN):=
 ite (b6.aB==1) (ite (!A' (b6.dw<0)) (M (app jq [b6.dw]) λdZ=>aH a0 (ba (L+1)) dZ b3) (aH a0 (ba (L+1)) jq b3)) (aH a0 (ba (L+1)) jq b3)
def aAO {iu} (oq:KK Mp vG iu) {aH} (aY:KK (yM (aI 85)) PG aH) (n:Nat):KK (yM (aI 6549)) aJu (O1 iu aH n):=λ_ _ _ _ _ r h=>ie h (λc0 h=>ie h (λc1 h=>be h λ_ gj h=>ra (aY h) [aS c0,aZ c1,(5,R3.kq gj)]) λc1 h=>ra (aY h) [aS c0,aZ c1]) λc0 h=>ra (aY h) [aS c0]
def aBD (cZ:Wf45) (f7:Wf44) (n:Nat) (a0:mh) (L:Int) (jq:aN) (b3:aj):G (aN×aN):=
 ite (A' (L<2)) (ite (L==0) (O1 bh f7 n a0 0 jq b3 a0.f0) (ite (L==1) (O1 bh f7 n a0 1 jq b3 a0.f1) A)) (cZ jq b3)
def aNl {iu} (oq:KK Mp vG iu) {cZ} (fy:KK (yM [1,1]) aui cZ) {f7} (aL:KK (yM (aI 85)) PG f7) (n:Nat):KK (yM (aI 85)) PG (aBD iu cZ f7 n):=λ_ _ _ _ r h=>ie h (λc0 h=>ie h (λc1 bq=>by have c1:=eq_of_beq c1;subst c1;exact (
 ra (aAO oq aL n bq) [])) λc1 h=>ie h (λc2 bq=>by have c2:=eq_of_beq c2;subst c2;exact (
 ra (aAO oq aL n bq) [])) λc2 h=>nz h) λc0 h=>ra (fy h) [aD c0]
def xZ (iu:HC) (cZ:Wf45):Nat->mh->Int->aN->aj->G (aN×aN)
 |0=>dK.z
 |n+1=>aBD iu cZ (xZ iu cZ n) n
def ayV {iu} (oq:KK Mp vG iu) {cZ} (fy:KK (yM [1,1]) aui cZ):∀n:Nat,KK (yM (aI 85)) PG (xZ iu cZ n)
 |0=>KC.h
 |n+1=>aNl oq fy (ayV oq fy n) n
def Wo (bD:aN->G (aN×aN)) (f7:bA->Int->Int->aN->G (aN×aN)) (n:Nat) (a0:bA) (L ag:Int) (jq:aN):G (aN×aN):=
 ite (A' (ag<L)) (M (idx a0 ag) λx2=>M (bh jq x2) λx9=>f7 a0 L (ba (ag+1)) x9.2) (bD jq)
def aNk {iu} (oq:KK Mp vG iu) {bD} (cV:KK (yM [1,1,1]) aug bD) {f7} (aL:KK (yM (aI 43)) auZ f7) (n:Nat):KK (yM (aI 43)) auZ (Wo iu bD f7 n):=λ_ _ _ _ r h=>ie h (λc0 h=>be h λ_ dq h=>be h λ_ ir h=>ra (aL h) [aD c0,(0,fE.idx dq),(5,.call (oq ir) [(jy,jy)] [])]) λc0 h=>ra (cV h) [aD c0]
def JL (iu:HC) (bD:aN->G (aN×aN)):Nat->bA->Int->Int->aN->G (aN×aN)
 |0=>dK.z
 |n+1=>Wo iu bD (JL iu bD n) n
def ayU {iu} (oq:KK Mp vG iu) {bD} (cV:KK (yM [1,1,1]) aug bD):∀n:Nat,KK (yM (aI 43)) auZ (JL iu bD n)
 |0=>KC.h
 |n+1=>aNk oq cV (ayU oq cV n) n
def Wn (iu:HC) (n:Nat) (jq:aN):G (aN×aN):=
 V (jq,jq)
def aNj {iu} (oq:KK Mp vG iu) (n:Nat):KK (yM [1,1,1]) aug (Wn iu n):=λ_ r h=>rr h []
def Ku:G (aN×aN):=
 JL bh (Wn bh a6) a6 aR.fArgs (O aR.fArgs:Int) 0 bQ
def aAN {iu} (oq:KK Mp vG iu) (n:Nat):KK (yM [1,1]) aui (Ku iu n):=λ_ _ r h=>ra (ayU oq (aNj oq n) n h) []
def alw:G (aN×aN):=
 ite (aR.aQ==3) (xZ bh (Ku bh a6) a6 (mh.mk aR.cS aR.cA) 0 bQ aR) (Ku bh a6 bQ aR)
def aNi {iu} (oq:KK Mp vG iu) (n:Nat):KK (yM []) vG (alw iu n):=λ_ _ r h=>ie h (λc0 h=>ra (ayV oq (aAN oq n) n h) [bl c0]) λc0 h=>ra (aAN oq n h) [bl c0]
def Is:Nat->aN->aj->G (aN×aN)
 |0,_,_=>A
 |n+1,ae8,p1=>alw (Is n) n ae8 p1
def aHr:∀n:Nat,KK Mp vG (Is n)
 |0=>λ_ _ _ h=>nz h
 |n+1=>λ_ _ _ h=>ca (X:=x218) (aNi (aHr n) n h)
def aFp:=fx E0 Tryz.f218 []
def uV:=Ax aFp BX CA
def aCd:LS:=⟨[(0,.ms 32 1 0 (O a3)),aV 3,aV 6,(16,.agg (Vo bf)),(17,ck aA)],[(3,ll (gC a8)),(6,.flat 105 (sF a9)),(32,Dh a3)]⟩
def KU:LS:=⟨[(0,.ms 32 1 0 (O a3)),aV 3,(16,.agg (Vo bf)),(17,ck aA)],[(3,ll (gC a8)),(32,Dh a3)]⟩
def afE:LS:=⟨[(0,.ms 32 1 0 (O ai)),(35,.slice 107 13 (O y) (eh y)),(36,iI m),(37,iI s)],[(32,DD ai)]⟩
def afF:LS:=⟨[(0,.ms 32 1 0 (O j))],[(32,DD j)]⟩
def afG:LS:=⟨[(0,.ms 32 1 0 (O j)),aV 3],[(3,ll (gC p)),(32,Dh j)]⟩
def aho:LS:=⟨[(0,.bY),(1,.agg (gC p))],[]⟩
def KA (aH:Wf46) (n:Nat) (a0:mh) (L:Int) (cE:aN) (b3:aj) (b6:bP):G aN:=
 ite (b6.aB==1) (ite (!A' (b6.dw<0)) (M (app cE [b6.dw]) λdZ=>aH a0 (ba (L+1)) dZ b3) (aH a0 (ba (L+1)) cE b3)) (aH a0 (ba (L+1)) cE b3)
def apZ {aH} (aY:KK (uV (aI 85)) KU aH) (n:Nat):KK (uV (aI 6549)) aCd (KA aH n):=λ_ _ _ _ _ r h=>ie h (λc0 h=>ie h (λc1 h=>be h λ_ gj h=>ra (aY h) [aS c0,aZ c1,(5,R3.kq gj)]) λc1 h=>ra (aY h) [aS c0,aZ c1]) λc0 h=>ra (aY h) [aS c0]
def ard (cZ:YK) (f7:Wf46) (n:Nat) (a0:mh) (L:Int) (cE:aN) (b3:aj):G aN:=
 ite (A' (L<2)) (ite (L==0) (KA f7 n a0 0 cE b3 a0.f0) (ite (L==1) (KA f7 n a0 1 cE b3 a0.f1) A)) (cZ cE b3)
def aKQ {cZ} (fy:KK (uV [1,1]) afG cZ) {f7} (aL:KK (uV (aI 85)) KU f7) (n:Nat):KK (uV (aI 85)) KU (ard cZ f7 n):=λ_ _ _ _ r h=>ie h (λc0 h=>ie h (λc1 bq=>by have c1:=eq_of_beq c1;subst c1;exact (
 ra (apZ aL n bq) [])) λc1 h=>ie h (λc2 bq=>by have c2:=eq_of_beq c2;subst c2;exact (
 ra (apZ aL n bq) [])) λc2 h=>nz h) λc0 h=>ra (fy h) [aD c0]
def vJ (cZ:YK):Nat->mh->Int->aN->aj->G aN
 |0=>dK.z
 |n+1=>ard cZ (vJ cZ n) n
def apA {cZ} (fy:KK (uV [1,1]) afG cZ):∀n:Nat,KK (uV (aI 85)) KU (vJ cZ n)
 |0=>KC.h
 |n+1=>aKQ fy (apA fy n) n
def RG (f7:bA->Int->Int->aN->G aN) (n:Nat) (a0:bA) (L ag:Int) (cE:aN):G aN:=
 ite (A' (ag<L)) (M (idx a0 ag) λx2=>M (Is n cE x2) λx9=>f7 a0 L (ba (ag+1)) x9.2) (cU cE)
def aKP {bD} (cV:KK (uV [1,1,1]) afF bD) {f7} (aL:KK (uV (aI 43)) afE f7) (n:Nat):KK (uV (aI 43)) afE (RG bD f7 n):=λ_ _ _ _ r h=>ie h (λc0 h=>be h λ_ dq h=>be h λ_ ir h=>ra (aL h) [aD c0,(0,fE.idx dq),(5,.call (aHr n ir) [(32,jy)] [])]) λc0 h=>ra (cV h) [aD c0]
def EN (bD:Wf0):Nat->bA->Int->Int->aN->G aN
 |0=>dK.z
 |n+1=>RG bD (EN bD n) n
def apz {bD} (cV:KK (uV [1,1,1]) afF bD):∀n:Nat,KK (uV (aI 43)) afE (EN bD n)
 |0=>KC.h
 |n+1=>aKP cV (apz cV n) n
def RF (n:Nat) (cE:aN):G aN:=
 V cE
def aKO:KK (uV [1,1,1]) afF (RF a):=λ_ r h=>rr h [(2,.iS 32 bL)]
def ER:G aN:=
 EN (RF a) a p.fArgs (O p.fArgs:Int) 0 j
def apY:KK (uV [1,1]) afG (ER a):=λ_ _ r h=>ra (apz (aKO a) a h) []
def abE:G aN:=
 ite (p.aQ==3) (vJ (ER a) a (mh.mk p.cS p.cA) 0 [] p) (ER a [] p)
def aKN:KK (uV []) aho (abE a):=λ_ r h=>ie h (λc0 h=>ra (apA (apY a) a h) [bl c0,(6,.born [0] [] 32 I 3 1)]) λc0 h=>ra (apY a h) [bl c0,(0,.born [0] [] 32 I 3 1)]
def aea:=abE
def aMN:KK (Cx E0 218 BX CA) aho (aea a):=λ_ _ h=>ca (X:=aFp) (aKN a h)
def x197:=fx E0 Tryz.f197 []
def A197:=Ax x197 BX CA
def alA:G aN:=
 M (aea a p) λx4=>M (K3 a x4) λx8=>M (nG (O x8) (O x4)) λw9=>M (Ln a x8) λiK=>V iK.2
def aNw:KK (A197 []) Ez (alA a):=λ_ r h=>be h λ_ ic h=>be h λ_ lr h=>be h λ_ hw9 h=>be h λ_ gR h=>rr h [(3,.call (aMN a ic) [] [(5,bL)]),(2,.call (aTn a lr) [(5,0)] []),(1,.seq 8 (bH (AV.ms 5 1 0) ((Bj hw9).symm))),(0,.call (aSZ a gR) [(5,0)] []),(1,.iS 5 bL)]
def YC:=alA
def aTg:KK (Cx E0 197 BX CA) Ez (YC a):=λ_ _ h=>ca (X:=x197) (aNw a h)
def x181:=fx E0 Tryz.f181 []
def BP:=Ax x181 dj bE
def ate:LS:=⟨[(0,.kX (FY c)),(3,.kX (jO u)),(13,.slice 121 2 (O S) (eK S)),(14,iI B),(15,iI aa)],[]⟩
def atf:LS:=⟨[(0,.kX (FY c)),(31,.slice 107 13 (O y) (eh y)),(32,iI m),(33,iI s)],[]⟩
def atg:LS:=⟨[],[]⟩
def ath:LS:=⟨[(0,.kX (FY c)),(3,.kX (jO u))],[]⟩
def WI (bD:aIP) (f7:aJ->ah->bR->Int->Int->G Bool) (n:Nat) (g0:aJ) (t3:ah) (a0:bR) (ag aq:Int):G Bool:=
 ite (A' (aq<ag)) (M (idx a0 aq) λx2=>M (Lk n x2.L g0.fm.bc) λkz=>ite kz (V I) (f7 g0 t3 a0 ag (ba (aq+1)))) (bD g0 t3)
def aNV {bD} (cV:KK (BP [1,1,1]) ath bD) {f7} (aL:KK (BP (aI 43)) ate f7) (n:Nat):KK (BP (aI 43)) ate (WI bD f7 n):=λ_ _ _ _ _ r h=>ie h (λc0 h=>be h λ_ dq h=>be h λ_ jK h=>let zA:SE:=[aD c0,(0,fT.idx dq),(10,uk (aHs n jK))];ie h (λc1 bq=>by subst c1;exact (rr bq zA)) λc1 bq=>by subst c1;exact (ra (aL bq) zA)) λc0 h=>ra (cV h) [aD c0]
def JR (bD:aIP):Nat->aJ->ah->bR->Int->Int->G Bool
 |0=>dK.z
 |n+1=>WI bD (JR bD n) n
def azf {bD} (cV:KK (BP [1,1,1]) ath bD):∀n:Nat,KK (BP (aI 43)) ate (JR bD n)
 |0=>KC.h
 |n+1=>aNV cV (azf cV n) n
def WH (f7:aJ->bA->Int->Int->G Bool) (n:Nat) (g0:aJ) (a0:bA) (L ag:Int):G Bool:=
 ite (A' (ag<L)) (M (idx a0 ag) λx2=>M (YC n x2) λx8=>M (Lk n x8 g0.fm.bc) λgG=>ite gG (V I) (f7 g0 a0 L (ba (ag+1)))) K
def aNU {bw} (cQ:KK (BP (aI 31)) atg bw) {f7} (aL:KK (BP (aI 87)) atf f7) (n:Nat):KK (BP (aI 87)) atf (WH bw f7 n):=λ_ _ _ _ r h=>ie h (λc0 h=>be h λ_ dq h=>be h λx8 lr h=>be h λ_ lD h=>let zA:SE:=[aD c0,(0,fE.idx dq),(3,.ord [0,2,3,4,5,6,1,7]),(6,uk (cd (e:=3) (z:=U) (Q:=dP x8) (aTg n lr) (R3.len x8))),kj (aHs n lD)];ie h (λc1 bq=>by subst c1;exact (rr bq zA)) λc1 bq=>by subst c1;exact (ra (aL bq) zA)) λc0 h=>ra (cQ h) [aD c0]
def JQ (bw:G Bool):Nat->aJ->bA->Int->Int->G Bool
 |0=>dK.z
 |n+1=>WH bw (JQ bw n) n
def aze {bw} (cQ:KK (BP (aI 31)) atg bw):∀n:Nat,KK (BP (aI 87)) atf (JQ bw n)
 |0=>KC.h
 |n+1=>aNU cQ (aze cQ n) n
def WG (n:Nat):G Bool:=
 V U
def aNT:KK (BP (aI 31)) atg (WG a):=λr h=>rr h []
def WE:G Bool:=
 JQ (WG a) a c u.aM (O u.aM:Int) 0
def aNS:KK (BP [1,1,1]) ath (WE a):=λ_ _ r h=>ra (aze (aNT a) a h) []
def alJ:G Bool:=
 M (Rj a c) λx3=>JR (WE a) a c x3 x3.ar (O x3.ar:Int) 0
def aNR:KK (BP []) Bh (alJ a):=λ_ r h=>be h λ_ eP h=>ra (azf (aNS a) a h) [jl (Vl a eP)]
def LO:=alJ
def aHA:KK (Cx E0 181 dj bE) Bh (LO a):=λ_ _ h=>ca (X:=x181) (aNR a h)
def axR (r:aJ):AV:=.dh []
def aoU:List (Nat×Bx):= (q7_ (bn c (.ms bK 5 0 (O c.cf.ag))) bK c)
def x183:=fx E0 Tryz.f183 [0,bK]
def wV:=Ax x183 axR aoU
def atk:LS:=⟨[(2,.el bK 5 a 0),(3,ZK),aV 5,(16,.ms fX 2 0 (O de)),(17,ck b),(18,ck d),(23,sR qo (O bQ)),(24,ck g),(25,ck o)],[(0,mG (bn ay (.ms bK 5 0 (O cI)))),(1,ZL),(5,.flat 121 [sR qo (O bQ),ck bO.aq]),(bK,US (((dI cI)).set a (Cm ci)) (a*5+3) fX (O de)),(fX,.tree 121 2 UR (((eK de)).set dn (qZ d1.aq)) [(dn*2+0,sR qo (O bQ))]),(qo,DD bQ)]⟩
def Bb:LS:=⟨[(2,.el bK 5 a 0),(3,ZK),(16,.ms fX 2 0 (O S)),(17,ck b),(18,ck d)],[(0,mG (bn c (.ms bK 5 0 (O t)))),(1,ZL),(bK,US (((dI t)).set a (Cm u)) (a*5+3) fX (O S)),(fX,DE S)]⟩
def atw:LS:=⟨[(2,.el bK 5 a 0),(3,ZK),(42,.ms lg 13 0 (O y)),(43,ck b),(44,ck d)],[(0,mG (bn c (.ms bK 5 0 (O qr)))),(1,ZL),(bK,.tree 44 5 o9 (((dI qr)).set a (oE E)) [(a*5+4,.ms lg 13 0 (O y))]),(lg,Fl y)]⟩
def auC:LS:=⟨[(2,.el bK 5 a 0),(3,ZK)],[(0,mG (bn c (.ms bK 5 0 (O t)))),(1,ZL),(bK,AL t)]⟩
def WD (f7:Nat->Int->Int->Int->Int->aJ->br->aN->bC->ah->bR->br->Nat->G aJ) (n:Nat) (lq:Nat) (a0 ag ar aB:Int) (b0:aJ) (b5:br) (ua:aN) (cr:bC) (bU:ah) (er:bR) (yI:br) (wO:Nat):G aJ:=
 ite (A' (aB<ar)) (M (eT (O ua) aB) λx3=>M (ua[0+x3]?) λx5=>M (To n x5 (MH (EY b0.cf.aC cr) b0.fm)) λkz=>M (eT (O ua) aB) λgF=>M (ua[0+gF]?) λjo=>M (setAt ua (0+gF) kz) λaH=>f7 lq a0 ag ar (ba (aB+1)) (MH (EY b0.cf.aC cr) b0.fm) (br.mk aH b5.aq) aH cr (Jl bU.aK bU.L bU.av [] bU.aM) er (br.mk [] yI.aq) wO) (M (setAt er wO (br.mk ua yI.aq)) λz2=>dJ lq a0 ag (MH (EY b0.cf.aC cr) b0.fm) cr (Jl bU.aK bU.L bU.av [] bU.aM) z2)
def aNQ {aH} (aY:KK (wV (aI 1943)) Bb aH) {f7} (aL:KK (wV (aI 22935)) atk f7) (n:Nat):KK (wV (aI 22935)) atk (WD aH f7 n):=λlq _ _ _ _ _ b5 ua cr bU er yI wO r h=>ie h (λc0 h=>be h λ_ eP h=>be h λ_ jI h=>be h λkz jK h=>be h λ_ iC h=>be h λ_ jW h=>be h λ_ Dp h=>ra (aL h) [aD c0,(1,du eP),(0,R3.row jI),(7,.call (ati n jK) [(1,1),(0,9000)] [(bK,Fv)]),(0,du iC),(0,R3.uj 0 [ck kz] jW Dp),(2,.seq 23 (bH (AV.ms qo 1 0) (eB Dp))),(0,.beq 5 (bH (λn_=>(Bx.flat 121 [sR qo n_,ck b5.aq])) (eB Dp))),(0,.beq fX (bH (λn_=>(Bx.tree 121 2 UR (((eK er)).set wO (qZ yI.aq)) [(wO*2+0,sR qo n_)])) (eB Dp)))]) λc0 h=>be h λ_ mo h=>ra (aY h) [aD c0,(0,fT.jf R3 (r:= (qZ yI.aq)) fX qo 0 U 3 1 ua mo),(0,.seq 16 (bH (AV.ms fX 2 0) (eB mo))),(0,.beq bK (bH (US (((dI cr)).set lq (Cm bU)) (lq*5+3) fX) (eB mo)))]
def JP (aH:auA):Nat->Nat->Int->Int->Int->Int->aJ->br->aN->bC->ah->bR->br->Nat->G aJ
 |0=>dK.z
 |n+1=>WD aH (JP aH n) n
def azd {aH} (aY:KK (wV (aI 1943)) Bb aH):∀n:Nat,KK (wV (aI 22935)) atk (JP aH n)
 |0=>KC.h
 |n+1=>aNQ aY (azd aY n) n
def WC (n:Nat) (lq:Nat) (a0 ag:Int) (b0:aJ) (cr:bC) (bU:ah) (er:bR):G aJ:=
 dJ lq a0 (ba (ag+1)) (MH (EY b0.cf.aC cr) b0.fm) cr (Jl bU.aK bU.L bU.av [] bU.aM) er
def aNP {bw} (cQ:KK (wV (aI 87)) Bb bw) (n:Nat):KK (wV (aI 1943)) Bb (WC bw n):=λ_ _ _ _ _ _ _ r h=>ra (cQ h) []
def WB (cZ:Nat->aJ->bC->G aJ) (f7:auA) (n:Nat) (lq:Nat) (a0 ag:Int) (b0:aJ) (cr:bC) (bU:ah) (er:bR):G aJ:=
 ite (A' (ag<a0)) (M (eT (O er) ag) λx2=>M (er[0+x2]?) λu5=>JP (WC f7 n) n lq a0 ag (O u5.L:Int) 0 (MH (EY b0.cf.aC cr) b0.fm) u5 u5.L cr (Jl bU.aK bU.L bU.av [] bU.aM) er (br.mk [] u5.aq) (0+x2)) (M (setAt cr lq (Jl bU.aK bU.L bU.av er bU.aM)) λz2=>cZ lq (MH (EY b0.cf.aC z2) b0.fm) z2)
def aNO {cZ} (fy:KK (wV (aI 31)) auC cZ) {f7} (aL:KK (wV (aI 87)) Bb f7) (n:Nat):KK (wV (aI 87)) Bb (WB cZ f7 n):=λ_ _ _ b0 _ bU er r h=>ie h (λc0 h=>be h λ_ dq h=>be h λu5 xR h=>ra (azd (aNP aL n) n h) [aD c0,(0,du dq),(0,fT.pc R3 fX qo 0 U 3 1 u5.L xR (qZ u5.aq)),(0,fT.Dd [0] (qZ u5.aq) xR)]) λc0 h=>be h λ_ mo h=>ra (fy h) [aD c0,(0,cy.jf fT (r:= (Cm bU)) bK fX 3 U 121 2 er mo),(0,.beq 0 (bH (λn_=>((mG (bn b0 (.ms bK 5 0 n_))))) (eB mo)))]
def Gi (cZ:Nat->aJ->bC->G aJ):Nat->Nat->Int->Int->aJ->bC->ah->bR->G aJ
 |0=>dK.z
 |n+1=>WB cZ (Gi cZ n) n
def azc {cZ} (fy:KK (wV (aI 31)) auC cZ):∀n:Nat,KK (wV (aI 87)) Bb (Gi cZ n)
 |0=>KC.h
 |n+1=>aNO fy (azc fy n) n
def WA (f7:Nat->Int->Int->aJ->bA->bC->ah->G aJ) (n:Nat) (lq:Nat) (a0 ag:Int) (b0:aJ) (dE:bA) (cr:bC) (bU:ah):G aJ:=
 ite (A' (ag<a0)) (M (eT (O dE) ag) λx3=>M (dE[0+x3]?) λx5=>M (Ek n x5 (MH (EY b0.cf.aC cr) b0.fm)) λjh=>M (eT (O dE) ag) λkO=>M (dE[0+kO]?) λnP=>M (setAt dE (0+kO) jh) λaq=>f7 lq a0 (ba (ag+1)) (MH (EY b0.cf.aC cr) b0.fm) aq cr (Jl bU.aK bU.L bU.av bU.ar [])) (M (setAt cr lq (Jl bU.aK bU.L bU.av bU.ar dE)) λz2=>V (MH (EY b0.cf.aC z2) b0.fm))
def aNN {f7} (aL:KK (wV (aI 95)) atw f7) (n:Nat):KK (wV (aI 95)) atw (WA f7 n):=λlq _ _ b0 dE cr bU r h=>ie h (λc0 h=>be h λ_ eP h=>be h λ_ jI h=>be h λjh iX h=>be h λ_ mY h=>be h λ_ pE h=>be h λ_ yz h=>ra (aL h) [aD c0,(1,du eP),(0,fE.row jI),(10,.call (aAs n iX) [(0,9000),(1,ly)] [(bK,Fv)]),(0,du mY),(0,fE.uj 0 (gC jh) pE yz),(2,.seq 42 (bH (AV.ms lg 13 0) (eB yz))),(0,.beq bK (bH (λn_=>(Bx.tree 44 5 o9 (((dI cr)).set lq (oE bU)) [(lq*5+4,.ms lg 13 0 n_)])) (eB yz)))]) λc0 h=>be h λ_ mo h=>rr h [aD c0,(0,cy.jf fE (r:= (oE bU)) bK lg 4 U 107 13 dE mo),(0,.beq 0 (bH (λn_=>((mG (bn b0 (.ms bK 5 0 n_))))) (eB mo)))]
def JO:Nat->Nat->Int->Int->aJ->bA->bC->ah->G aJ
 |0=>dK.z
 |n+1=>WA (JO n) n
def azb:∀n:Nat,KK (wV (aI 95)) atw (JO n)
 |0=>KC.h
 |n+1=>aNN (azb n) n
def Wz:G aJ:=
 M (a7[al]?) λu5=>JO a al (O u5.aM:Int) 0 (MH (EY ay.cf.aC a7) ay.fm) u5.aM a7 (Jl u5.aK u5.L u5.av u5.ar [])
def aNM:KK (wV (aI 31)) auC (Wz a):=λ_ _ _ r h=>be h λu5 xR h=>ra (azb a h) [(3,cy.pc fE bK lg 4 U 107 13 u5.aM xR (oE u5))]
def alI:G aJ:=
 M (GA a c) λx3=>M (c.cf.ag[x3]?) λmE=>Gi (Wz a) a x3 (O mE.ar:Int) 0 c c.cf.ag (Jl mE.aK mE.L mE.av [] mE.aM) mE.ar
def aNL:KK (wV []) oC (alI a):=λ_ r h=>be h λ_ eP h=>be h λmE VF h=>ra (azc (aNM a) a h) [(2,.call (Qs a eP) [(0,0),(bK,bK)] []),(6,cy.pc fT bK fX 3 U 121 2 mE.ar VF (Cm mE))]
def LW:=alI
def aHy:KK (Cx E0 183 axR aoU) oC (LW a):=λ_ _ h=>ca (X:=x183) (aNL a h)
def x149:=fx E0 Tryz.f149 [0,bK]
def A149:=Ax x149 sj r8
def amn:G (Bool×aJ):=
 M (GA a c) λx3=>M (c.cf.ag[x3]?) λmE=>M (setAt c.cf.ag x3 mE) λxJ=>M (Tt a (MH (EY c.cf.aC xJ) c.fm) c.fm.bc) λjo=>ite (!jo) (M (setAt c.cf.ag x3 mE) λa0=>V (U,(MH (EY c.cf.aC a0) c.fm))) (M (eT (O mE.L) c.fm.bc) λx32=>M (mE.L[0+x32]?) λDA=>M (RO a c.fm.bp DA.aB) λuZ=>ite (!uZ) (M (setAt c.cf.ag x3 mE) λxI=>V (U,(MH (EY c.cf.aC xI) c.fm))) (M (setAt c.cf.ag x3 mE) λxI=>M (LO a (MH (EY c.cf.aC xI) c.fm)) λx45=>ite x45 (M (setAt c.cf.ag x3 mE) λaq=>V (U,(MH (EY c.cf.aC aq) c.fm))) (M (LU a mE.L c.fm.bc (ba (c.fm.bc+1))) λx56=>M (setAt c.cf.ag x3 (Jl mE.aK x56.2 mE.av mE.ar mE.aM)) λaH=>M (LW a (MH (EY c.cf.aC aH) c.fm)) λx64=>V (I,x64))))
def aPe:KK (A149 []) oC (amn a):=λg0 r h=>be h λ_ eP h=>be h λmE VF h=>be h λxJ pC h=>be h λ_ jW h=>let zA:SE:=[(1,.ord [0,2,3,4,5,6,1,7,8]),(6,.call (Qs a eP) [(0,0),(bK,bK)] []),(2,cy.pc fI bK js 1 U 73 2 mE.L VF (bZ mE)),(2,.Aj (iE.aIi (adH a jW) ((show _=((q33_ (bn g0 (.sl 0 44 5 (O xJ) (dI xJ))) g0):List AV) by kernel_rfl).trans (bH (λn_=>((q33_ (bn g0 (.sl 0 44 5 n_ (dI xJ))) g0):List AV)) (eB pC).symm))) [cy.jf fI (r:= (bZ mE)) bK js 1 U 73 2 mE.L pC,cy.frzN U bK xJ (eB pC),.eD 0 (Q:= []) (n:=0) rfl] trivial [] [])];ie h (λc0 h=>be h λ_ P4 h=>bt h zA [aD c0,(5,cy.jf fI (r:= (bZ mE)) bK js 1 U 73 2 mE.L P4),(0,.beq 0 (bH (λn_=>((mG (bn g0 (.ms bK 5 0 n_))))) (eB P4)))]) λc0 h=>be h λ_ Ov h=>be h λ_ Lq h=>be h λ_ yA h=>let zB:SE:=dx zA [aD c0,(11,du Ov),(1,fI.row Lq),kj (atj a yA)];ie h (λc1 h=>be h λxI sX h=>bt h zB [aD c1,(4,cy.jf fI (r:= (bZ mE)) bK js 1 U 73 2 mE.L sX),(0,.beq 0 (bH (λn_=>((mG (bn g0 (.ms bK 5 0 n_))))) (eB sX)))]) λc1 h=>be h λxI sX h=>be h λ_ hx45 h=>let zC:SE:=dx zB [aD c1,(3,.Aj (iE.aIi (aHA a hx45) ((show _=([.kX (bn g0 (.sl 0 44 5 (O xI) (dI xI)))]:List AV) by kernel_rfl).trans (bH (λn_=>([.kX (bn g0 (.sl 0 44 5 n_ (dI xI)))]:List AV)) (eB sX).symm))) [cy.jf fI (r:= (bZ mE)) bK js 1 U 73 2 mE.L sX,cy.frzN U bK xI (eB sX),.eD 0 (Q:= []) (n:=0) rfl] trivial [] [])];ie h (λc2 bq=>by subst c2;exact (be bq λa0 QG bq=>bt bq zC [(2,cy.jf fI (r:= (bZ mE)) bK js 1 U 73 2 mE.L QG),(0,.beq 0 (bH (λn_=>((mG (bn g0 (.ms bK 5 0 n_))))) (eB QG)))])) λc2 bq=>by subst c2;exact (be bq λx56 Ox bq=>be bq λag hz63 bq=>be bq λx64 Yx bq=>bt bq zC [(9,.call (aHz a Ox) [(js,0)] []),(2,cy.zZ 1 (bZ mE) (bZ mE) VF),(1,cy.jf fI (r:= (bZ mE)) bK js 1 U 73 2 x56.2 hz63),(0,.beq 0 (bH (λn_=>((mG (bn g0 (.ms bK 5 0 n_))))) (eB hz63))),(0,.call (aHy a Yx) [(0,0),(bK,bK)] [])])
def Fp:=amn
def aTz:KK (Cx E0 149 sj r8) oC (Fp a):=λ_ _ h=>ca (X:=x149) (aPe a h)
def x150:=fx E0 Tryz.f150 [0,bK]
def A150:=Ax x150 sj r8
def amm:G (Bool×aJ):=
 M (GA a c) λx3=>M (Tt a c c.fm.bc) λiK=>ite (!iK) (V (U,c)) (M (Tt a c c.fm.kY) λqh=>ite (!qh) (V (U,c)) (M (c.cf.ag[x3]?) λrO=>M (eT (O rO.L) c.fm.bc) λuZ=>M (rO.L[0+uZ]?) λxw=>M (LU a rO.L c.fm.bc (ba (c.fm.bc+1))) λa0=>M (aFf a a0.2 c.fm.kY [xw]) λx76=>M (setAt c.cf.ag x3 (Jl rO.aK x76.2 rO.av rO.ar rO.aM)) λaB=>M (LW a (MH (EY c.cf.aC aB) c.fm)) λaq=>V (I,aq)))
def aPd:KK (A150 []) oC (amm a):=λg0 r h=>be h λ_ eP h=>be h λ_ gR h=>let zA:SE:=[(2,.call (Qs a eP) [(0,0),(bK,bK)] []),(7,.Aj (adH a gR) [cy.tfr U bK g0.cf.ag,.eD 0 (Q:= []) (n:=0) rfl] trivial [] [])];ie h (λc0 h=>bt h zA [aD c0]) λc0 h=>be h λ_ pD h=>let zB:SE:=dx zA [aD c0,(7,.Aj (adH a pD) [cy.tfr U bK g0.cf.ag,.eD 0 (Q:= []) (n:=0) rfl] trivial [] [])];ie h (λc1 h=>bt h zB [aD c1]) λc1 h=>be h λrO VH h=>be h λ_ yA h=>be h λ_ Fz h=>be h λ_ aDj h=>be h λx76 aDg h=>be h λ_ hz83 h=>be h λ_ hx84 h=>bt h zB [aD c1,(1,cy.pc fI bK js 1 U 73 2 rO.L VH (bZ rO)),(9,du yA),(0,fI.row Fz),(18,.call (aHz a aDj) [(js,0)] []),(2,cy.zZ 1 (bZ rO) (bZ rO) VH),(12,.call (aTk a aDg) [(66,2),(js,jy)] []),(2,cy.zZ 1 (bZ rO) (bZ rO) VH),(1,cy.jf fI (r:= (bZ rO)) bK js 1 U 73 2 x76.2 hz83),(0,.beq 0 (bH (λn_=>((mG (bn g0 (.ms bK 5 0 n_))))) (eB hz83))),(0,.call (aHy a hx84) [(0,0),(bK,bK)] [])]
def H4:=amm
def aTy:KK (Cx E0 150 sj r8) oC (H4 a):=λ_ _ h=>ca (X:=x150) (aPd a h)
def x151:=fx E0 Tryz.f151 [0,bK]
def A151:=Ax x151 sj r8
def aml:G (Bool×aJ):=
 M (GA a c) λx3=>M (c.cf.ag[x3]?) λu6=>ite (A' (c.fm.bc<0)) (M (setAt c.cf.ag x3 u6) λxJ=>V (U,(MH (EY c.cf.aC xJ) c.fm))) (ite (!A' (c.fm.bc<(O u6.L:Int))) (M (setAt c.cf.ag x3 u6) λa0=>V (U,(MH (EY c.cf.aC a0) c.fm))) (M (eT (O u6.L) c.fm.bc) λIW=>M (u6.L[0+IW]?) λEW=>M (setAt u6.L (0+IW) (bW.mk c.fm.aK EW.aB)) λaq=>M (setAt c.cf.ag x3 (Jl u6.aK aq u6.av u6.ar u6.aM)) λaH=>V (I,(MH (EY c.cf.aC aH) c.fm))))
def aPc:KK (A151 []) oC (aml a):=λg0 r h=>be h λx3 eP h=>be h λu6 CG h=>let zA:SE:=[(2,.call (Qs a eP) [(0,0),(bK,bK)] []),(1,cy.pc fI bK js 1 U 73 2 u6.L CG (bZ u6))];ie h (λc0 h=>be h λ_ pC h=>bt h zA [bN c0,(3,cy.jf fI (r:= (bZ u6)) bK js 1 U 73 2 u6.L pC),(0,.beq 0 (bH (λn_=>((mG (bn g0 (.ms bK 5 0 n_))))) (eB pC)))]) λc0 h=>ie h (λc1 h=>be h λ_ zW h=>bt h zA [bN c0,(11,eb c1),(2,cy.jf fI (r:= (bZ u6)) bK js 1 U 73 2 u6.L zW),(0,.beq 0 (bH (λn_=>((mG (bn g0 (.ms bK 5 0 n_))))) (eB zW)))]) λc1 h=>be h λ_ SQ h=>be h λ_ Ve h=>be h λa0 hz45 h=>be h λ_ hz48 h=>bt h zA [bN c0,(11,eb c1),(15,du SQ),(1,fI.uj 0 [.str g0.fm.aK] Ve hz45),(1,.beq bK (bH (US (((dI g0.cf.ag)).set x3 (bZ u6)) (x3*5+1) js) (eB hz45))),(0,cy.jf fI (r:= (bZ u6)) bK js 1 U 73 2 a0 hz48),(0,.beq 0 (bH (λn_=>((mG (bn g0 (.ms bK 5 0 n_))))) (eB hz48)))]
def HW:=aml
def aTx:KK (Cx E0 151 sj r8) oC (HW a):=λ_ _ h=>ca (X:=x151) (aPc a h)
def x152:=fx E0 Tryz.f152 [0,bK]
def A152:=Ax x152 sj r8
def amk:G (Bool×aJ):=
 M (GA a c) λx3=>M (c.cf.ag[x3]?) λmE=>M (setAt c.cf.ag x3 (Jl c.fm.aK mE.L mE.av mE.ar mE.aM)) λa0=>V (I,(MH (EY c.cf.aC a0) c.fm))
def aPb:KK (A152 []) oC (amk a):=λg0 r h=>be h λ_ eP h=>be h λ_ VF h=>be h λ_ hz14 h=>rr h [(1,.ord [0,2,3,4,5,6,1,7,8,9]),(6,.call (Qs a eP) [(0,0),(bK,bK)] []),(2,cy.uj 0 [.str g0.fm.aK] VF hz14),(1,.beq 0 (bH (λn_=>((mG (bn g0 (.ms bK 5 0 n_))))) (eB hz14)))]
def Ic:=amk
def aTw:KK (Cx E0 152 sj r8) oC (Ic a):=λ_ _ h=>ca (X:=x152) (aPb a h)
def aoX:List (Nat×Bx):= (q7_ (bn dl.2 (.ms jy 5 0 (O dl.2.cf.ag))) jy dl.2)
def x153:=fx E0 Tryz.f153 [0,jy]
def A153:=Ax x153 sj aoX
def aok:LS:=⟨[aV 0],(q7_ (bn c (.ms jy 5 0 (O c.cf.ag))) jy c)⟩
def amj:G (Bool×aJ):=
 M (F96 a c.fm.bu) λdZ=>M (app c.cf.ag [dZ]) λgF=>M (setAt gF (O c.cf.ag) dZ) λa0=>V (I,(MH (EY c.cf.aC a0) c.fm))
def aPa:KK (A153 []) aok (amj a):=λg0 r h=>be h λdZ gj h=>be h λ_ iC h=>be h λ_ yz h=>rr h [(12,.call (ev96 a gj) [] [(330140001,vi),(330140003,201003),(330140004,201004)]),(1,cy.Nn iC),(4,.beq jy (bH (λq_=>Bx.tree 44 5 o9 q_ (ZI (O g0.cf.ag*5+1) 330140001 dZ (O g0.cf.ag*5+3) 330140003 (O g0.cf.ag*5+4) 330140004)) (cy.apS (r:= (cP dZ)) iC))),(0,cy.kQ fI (r:= (cP dZ)) jy 330140001 1 U 73 2 dZ.L yz (ug dZ)),(0,cy.kQ fT (r:= (ug dZ)) jy 330140003 3 U 121 2 dZ.ar yz (oE dZ)),(0,cy.jf fE (r:= (oE dZ)) jy 330140004 4 U 107 13 dZ.aM yz),(1,.beq 0 (bH (λn_=>((mG (bn g0 (.ms jy 5 0 n_))))) (((cy.apL iC).trans (eB yz)))))]
def Ih:=amj
def aTv:KK (Cx E0 153 sj aoX) aok (Ih a):=λ_ _ h=>ca (X:=x153) (aPa a h)
def Yq:=fx E0 Tryz.f154 [0,bK]
def o7:=Ax Yq sj r8
def afe (jE:dr) (er:bR):LS:=⟨[aV 0,(3,ck b),(15,wu bK (O a7)),(16,ck d),(17,ck g),(23,.ms fX 2 0 (O er)),(24,ck o),(25,ck x)],[(0,mG (bn ay (.ms bK 5 0 (O a7)))),(bK,H3 (((dI a7)).set bx (cP cs)) (bx*5+4) lg (O cu) (bx*5+3) fX (O er) (bx*5+1) js (O jE)),(js,yu jE),(fX,DE er),(lg,Fl cu)]⟩
def Bd:LS:=⟨[aV 0,(15,wu bK (O t)),(16,ck b),(17,ck d)],[(0,mG (bn c (.ms bK 5 0 (O t)))),(bK,AL t)]⟩
def aff:LS:=⟨[aV 0,aV 8,(73,wu bK (O cv)),(74,ck b),(75,ck d),(80,.ms fX 2 0 (O bS)),(81,ck g),(82,ck o)],[(0,mG (bn ay (.ms bK 5 0 (O cv)))),(8,iJ (fw ap (.ms js 2 0 (O ct)) (.ms fX 2 0 (O bS)) (.ms lg 13 0 (O cu)))),(bK,H3 (((dI cv)).set bJ (cP bI)) (bJ*5+4) lg (O cu) (bJ*5+3) fX (O bS) (bJ*5+1) js (O ct)),(js,yu ct),(fX,DE bS),(lg,Fl cu)]⟩
def Bc:LS:=⟨[aV 0,(73,wu bK (O t)),(74,ck b),(75,ck d)],[(0,mG (bn c (.ms bK 5 0 (O t)))),(bK,AL t)]⟩
def afg:LS:=⟨[],[(0,mG (bn c (.ms bK 5 0 (O t)))),(bK,AL t)]⟩
def afh:LS:=⟨[aV 0],[(0,mG (bn c (.ms bK 5 0 (O t)))),(bK,AL t)]⟩
def W8 (f7:Int->Int->Int->Int->Int->aJ->bC->ah->Nat->bA->dr->bR->G (Bool×aJ)) (n:Nat) (i3 a0 L ag ar:Int) (b0:aJ) (cr:bC) (bU:ah) (eH:Nat) (dE:bA) (jE:dr) (er:bR):G (Bool×aJ):=
 ite (A' (ar<ag)) (M (eT (O er) ar) λx2=>M (er[0+x2]?) λu5=>ite (i3 !=b0.fm.aq) (ite (u5.aq==b0.fm.aq) (M (setAt er (0+x2) u5) λaH=>M (setAt cr eH (Jl bU.aK jE bU.av aH dE)) λaL=>V (U,(MH (EY b0.cf.aC aL) b0.fm))) (M (setAt er (0+x2) u5) λaL=>f7 i3 a0 L ag (ba (ar+1)) (MH (EY b0.cf.aC cr) b0.fm) cr (Jl bU.aK [] bU.av [] []) eH dE jE aL)) (M (setAt er (0+x2) u5) λaB=>f7 i3 a0 L ag (ba (ar+1)) (MH (EY b0.cf.aC cr) b0.fm) cr (Jl bU.aK [] bU.av [] []) eH dE jE aB)) (M (setAt cr eH (Jl bU.aK jE bU.av er dE)) λz2=>bT a0 L (MH (EY b0.cf.aC z2) b0.fm) z2)
def aOZ {aH} (aY:KK (o7 (aI 485)) Bd aH) {f7} (aL:KK (o7 (aI 5733)) afe f7) (n:Nat):KK (o7 (aI 5733)) afe (W8 aH f7 n):=λ_ _ _ _ _ b0 cr bU eH dE jE er r h=>ie h (λc0 h=>be h λ_ dq h=>be h λu5 xR h=>let zA:SE:=[aD c0,(0,du dq),(0,fT.pc R3 fX qo 0 U 3 1 u5.L xR (qZ u5.aq)),(0,fT.Dd [0] (qZ u5.aq) xR)];ie h (λc1 h=>ie h (λc2 h=>be h λa0 P4 h=>be h λag zW h=>bt h zA [iO c1,iO c2,(1,fT.jf R3 (r:= (qZ u5.aq)) fX qo 0 U 3 1 u5.L P4),(0,.beq bK (bH (λn_=>((H3 (((dI cr)).set eH (cP bU)) (eH*5+4) lg (O dE) (eH*5+3) fX n_ (eH*5+1) js (O jE)))) (eB P4))),(0,cy.kQ fE (r:= (cP bU)) bK lg 4 U 107 13 dE zW (yS bU (.slice 107 13 (O dE) (eh dE)))),(0,cy.kQ fT (r:= (yS bU (.slice 107 13 (O dE) (eh dE)))) bK fX 3 U 121 2 a0 zW (yT bU (.slice 121 2 (O a0) (eK a0)) (.slice 107 13 (O dE) (eh dE)))),(0,cy.jf fI (r:= (yT bU (.slice 121 2 (O a0) (eK a0)) (.slice 107 13 (O dE) (eh dE)))) bK js 1 U 73 2 jE zW),(1,.beq 0 (bH (λn_=>((mG (bn b0 (.ms bK 5 0 n_))))) (eB zW)))]) λc2 h=>be h λag zW h=>cD (aL h) zA [iO c1,iO c2,(3,fT.jf R3 (r:= (qZ u5.aq)) fX qo 0 U 3 1 u5.L zW),(0,.seq 23 (bH (AV.ms fX 2 0) (eB zW))),(0,.beq bK (bH (λn_=>((H3 (((dI cr)).set eH (cP bU)) (eH*5+4) lg (O dE) (eH*5+3) fX n_ (eH*5+1) js (O jE)))) (eB zW)))]) λc1 h=>be h λ_ Lp h=>cD (aL h) zA [iO c1,(4,fT.jf R3 (r:= (qZ u5.aq)) fX qo 0 U 3 1 u5.L Lp),(0,.seq 23 (bH (AV.ms fX 2 0) (eB Lp))),(0,.beq bK (bH (λn_=>((H3 (((dI cr)).set eH (cP bU)) (eH*5+4) lg (O dE) (eH*5+3) fX n_ (eH*5+1) js (O jE)))) (eB Lp)))]) λc0 h=>be h λ_ mo h=>ra (aY h) [aD c0,(0,cy.kQ fE (r:= (cP bU)) bK lg 4 U 107 13 dE mo (yS bU (.slice 107 13 (O dE) (eh dE)))),(0,cy.kQ fT (r:= (yS bU (.slice 107 13 (O dE) (eh dE)))) bK fX 3 U 121 2 er mo (yT bU (.slice 121 2 (O er) (eK er)) (.slice 107 13 (O dE) (eh dE)))),(0,cy.jf fI (r:= (yT bU (.slice 121 2 (O er) (eK er)) (.slice 107 13 (O dE) (eh dE)))) bK js 1 U 73 2 jE mo),(0,.seq 15 (bH (AV.ms bK 5 0) (eB mo))),(0,.beq 0 (bH (λn_=>((mG (bn b0 (.ms bK 5 0 n_))))) (eB mo)))]
def J0 (aH:OM):Nat->Int->Int->Int->Int->Int->aJ->bC->ah->Nat->bA->dr->bR->G (Bool×aJ)
 |0=>dK.z
 |n+1=>W8 aH (J0 aH n) n
def azv {aH} (aY:KK (o7 (aI 485)) Bd aH):∀n:Nat,KK (o7 (aI 5733)) afe (J0 aH n)
 |0=>KC.h
 |n+1=>aOZ aY (azv aY n) n
def W7 (n:Nat) (a0 L:Int) (b0:aJ) (cr:bC):G (Bool×aJ):=
 bT a0 (ba (L+1)) (MH (EY b0.cf.aC cr) b0.fm) cr
def aOY {bw} (cQ:KK (o7 (aI 21)) Bd bw) (n:Nat):KK (o7 (aI 485)) Bd (W7 bw n):=λ_ _ _ _ r h=>ra (cQ h) []
def W6:G (Bool×aJ):=
 ite (A' (dd<cp)) (M (eT (O dp) dd) λx3=>M (dp[0+x3]?) λu6=>J0 (W7 dv co) co dd cp dd (O u6.ar:Int) 0 (MH (EY d3.cf.aC dp) d3.fm) dp (Jl u6.aK [] u6.av [] []) (0+x3) u6.aM u6.L u6.ar) (ds (MH (EY d3.cf.aC dp) d3.fm) dp)
def aOX {mJ} (uL:KK (o7 [1,1]) afh mJ) {f7} (aL:KK (o7 (aI 21)) Bd f7) (n:Nat):KK (o7 (aI 21)) Bd (W6 mJ f7 n):=λ_ _ _ _ r h=>ie h (λc0 h=>be h λ_ eP h=>be h λu6 CG h=>ra (azv (aOY aL n) n h) [aD c0,(1,du eP),(0,cy.pc fI bK js 1 U 73 2 u6.L CG (bZ u6)),(0,cy.ye fT (r:= (bZ u6)) bK fX 3 U 121 2 u6.ar CG (fu u6)),(0,cy.ye fE (r:= (fu u6)) bK lg 4 U 107 13 u6.aM CG (cP u6)),(0,cy.Dd [4,3,1] (cP u6) CG)]) λc0 h=>ra (uL h) [aD c0]
def Gm (mJ:auz):Nat->Int->Int->aJ->bC->G (Bool×aJ)
 |0=>dK.z
 |n+1=>W6 mJ (Gm mJ n) n
def azu {mJ} (uL:KK (o7 [1,1]) afh mJ):∀n:Nat,KK (o7 (aI 21)) Bd (Gm mJ n)
 |0=>KC.h
 |n+1=>aOX uL (azu uL n) n
def O9 (f7:Int->Int->Int->Int->aJ->ah->dr->bA->bC->ah->Nat->bR->G (Bool×aJ)) (n:Nat) (a0 ag ar aB:Int) (b0:aJ) (b8:ah) (jE:dr) (dE:bA) (cr:bC) (bU:ah) (eH:Nat) (er:bR):G (Bool×aJ):=
 ite (A' (aB<ar)) (M (eT (O er) aB) λx3=>M (er[0+x3]?) λu6=>ite (A' (b0.fm.aq<u6.aq)) (M (eT (O er) aB) λim=>M (setAt er (0+x3) u6) λaM=>M (aM[0+im]?) λaH=>M (setAt aM (0+im) (br.mk aH.L (ba (u6.aq-1)))) λaQ=>f7 a0 ag ar (ba (aB+1)) (MH (EY b0.cf.aC cr) b0.fm) (Jl b8.aK jE b8.av aQ dE) jE dE cr (Jl bU.aK [] bU.av [] []) eH aQ) (M (setAt er (0+x3) u6) λaL=>f7 a0 ag ar (ba (aB+1)) (MH (EY b0.cf.aC cr) b0.fm) (Jl b8.aK jE b8.av aL dE) jE dE cr (Jl bU.aK [] bU.av [] []) eH aL)) (M (setAt cr eH (Jl bU.aK jE bU.av er dE)) λz2=>bT a0 ag (MH (EY b0.cf.aC z2) b0.fm) z2)
def aOW {cZ} (fy:KK (o7 (aI 1943)) Bc cZ) {f7} (aL:KK (o7 (aI 22935)) aff f7) (n:Nat):KK (o7 (aI 22935)) aff (O9 cZ f7 n):=λ_ _ _ _ b0 b8 jE dE cr bU eH er r h=>ie h (λc0 h=>be h λ_ eP h=>be h λu6 CG h=>let zA:SE:=[aD c0,(1,du eP),(0,fT.pc R3 fX qo 0 U 3 1 u6.L CG (qZ u6.aq)),(0,fT.Dd [0] (qZ u6.aq) CG)];ie h (λc1 h=>be h λ_ mc h=>be h λ_ Yy h=>be h λ_ hu30 h=>be h λ_ Yz h=>cD (aL h) zA [(10,eb c1),(6,du mc),(1,fT.jf R3 (r:= (qZ u6.aq)) fX qo 0 U 3 1 u6.L Yy),(0,fT.uj 1 [ck (ba (u6.aq-1))] hu30 Yz),(2,.seq 80 (bH (AV.ms fX 2 0) (((py Yz).trans (py Yy)).symm))),(0,.beq 8 (bH (λn_=>((iJ (fw b8 (.ms js 2 0 (O jE)) (.ms fX 2 0 n_) (.ms lg 13 0 (O dE)))))) (((py Yz).trans (py Yy)).symm))),(0,.beq bK (bH (λn_=>((H3 (((dI cr)).set eH (cP bU)) (eH*5+4) lg (O dE) (eH*5+3) fX n_ (eH*5+1) js (O jE)))) (((py Yz).trans (py Yy)).symm)))]) λc1 h=>be h λ_ zX h=>cD (aL h) zA [(10,eb c1),(2,fT.jf R3 (r:= (qZ u6.aq)) fX qo 0 U 3 1 u6.L zX),(0,.seq 80 (bH (AV.ms fX 2 0) (eB zX))),(0,.beq 8 (bH (λn_=>((iJ (fw b8 (.ms js 2 0 (O jE)) (.ms fX 2 0 n_) (.ms lg 13 0 (O dE)))))) (eB zX))),(0,.beq bK (bH (λn_=>((H3 (((dI cr)).set eH (cP bU)) (eH*5+4) lg (O dE) (eH*5+3) fX n_ (eH*5+1) js (O jE)))) (eB zX)))]) λc0 h=>be h λ_ mo h=>ra (fy h) [aD c0,(0,cy.kQ fE (r:= (cP bU)) bK lg 4 U 107 13 dE mo (yS bU (.slice 107 13 (O dE) (eh dE)))),(0,cy.kQ fT (r:= (yS bU (.slice 107 13 (O dE) (eh dE)))) bK fX 3 U 121 2 er mo (yT bU (.slice 121 2 (O er) (eK er)) (.slice 107 13 (O dE) (eh dE)))),(0,cy.jf fI (r:= (yT bU (.slice 121 2 (O er) (eK er)) (.slice 107 13 (O dE) (eh dE)))) bK js 1 U 73 2 jE mo),(0,.seq 73 (bH (AV.ms bK 5 0) (eB mo))),(0,.beq 0 (bH (λn_=>((mG (bn b0 (.ms bK 5 0 n_))))) (eB mo)))]
def Gl (cZ:OM):Nat->Int->Int->Int->Int->aJ->ah->dr->bA->bC->ah->Nat->bR->G (Bool×aJ)
 |0=>dK.z
 |n+1=>O9 cZ (Gl cZ n) n
def azt {cZ} (fy:KK (o7 (aI 1943)) Bc cZ):∀n:Nat,KK (o7 (aI 22935)) aff (Gl cZ n)
 |0=>KC.h
 |n+1=>aOW fy (azt fy n) n
def W5 (n:Nat) (a0 L:Int) (b0:aJ) (cr:bC):G (Bool×aJ):=
 bT a0 (ba (L+1)) (MH (EY b0.cf.aC cr) b0.fm) cr
def aOV {dC} (fS:KK (o7 (aI 87)) Bc dC) (n:Nat):KK (o7 (aI 1943)) Bc (W5 dC n):=λ_ _ _ _ r h=>ra (fS h) []
def W4:G (Bool×aJ):=
 ite (A' (dd<cp)) (M (eT (O dp) dd) λx2=>M (dp[0+x2]?) λu5=>Gl (W5 dv co) co cp dd (O u5.ar:Int) 0 (MH (EY d3.cf.aC dp) d3.fm) u5 u5.L u5.aM dp (Jl u5.aK [] u5.av [] []) (0+x2) u5.ar) (ds (MH (EY d3.cf.aC dp) d3.fm) dp)
def aOU {iB} (mN:KK (o7 (aI 31)) afg iB) {f7} (aL:KK (o7 (aI 87)) Bc f7) (n:Nat):KK (o7 (aI 87)) Bc (W4 iB f7 n):=λ_ _ _ _ r h=>ie h (λc0 h=>be h λ_ dq h=>be h λu5 xR h=>ra (azt (aOV aL n) n h) [aD c0,(0,du dq),(0,cy.pc fI bK js 1 U 73 2 u5.L xR (bZ u5)),(0,cy.ye fT (r:= (bZ u5)) bK fX 3 U 121 2 u5.ar xR (fu u5)),(0,cy.ye fE (r:= (fu u5)) bK lg 4 U 107 13 u5.aM xR (cP u5)),(0,cy.Dd [4,3,1] (cP u5) xR)]) λc0 h=>ra (mN h) [aD c0]
def Gk (iB:auz):Nat->Int->Int->aJ->bC->G (Bool×aJ)
 |0=>dK.z
 |n+1=>W4 iB (Gk iB n) n
def azs {iB} (mN:KK (o7 (aI 31)) afg iB):∀n:Nat,KK (o7 (aI 87)) Bc (Gk iB n)
 |0=>KC.h
 |n+1=>aOU mN (azs mN n) n
def ami (n:Nat) (b0:aJ) (cr:bC):G (Bool×aJ):=
 V (I,(MH (EY b0.cf.aC cr) b0.fm))
def aOT:KK (o7 (aI 31)) afg (ami a):=λ_ _ r h=>rr h []
def W3:G (Bool×aJ):=
 M (aFe a t c.fm.aq (ba (c.fm.aq+1))) λjo=>Gk (ami a) a (O jo.2:Int) 0 (MH (EY c.cf.aC jo.2) c.fm) jo.2
def aOS:KK (o7 [1,1]) afh (W3 a):=λ_ _ r h=>be h λ_ jW h=>ra (azs (aOT a) a h) [(17,.call (aTj a jW) [(bK,0)] [])]
def amh:G (Bool×aJ):=
 Gm (W3 a) a (O c.cf.ag:Int) 0 c c.cf.ag
def aOR:KK (o7 []) oC (amh a):=λ_ r h=>ra (azu (aOS a) a h) []
def Ik:=amh
def aTu:KK (Cx E0 154 sj r8) oC (Ik a):=λ_ _ h=>ca (X:=Yq) (aOR a h)
def Ux:AV:=.ms bL 1 0 (O q)
def aoS:List (Nat×Bx):= [(bL,K6 q)]
def x201:=fx E0 Tryz.f201 []
def A201:=Ax x201 Ux aoS
def anY:LS:=⟨[(0,.slice 70 1 (O q) (je q))],[]⟩
def Wu (n:Nat) (s0:bz):G bz:=
 M (awL s0) λx3=>M (app [] s0) λx7=>V x7
def aNu:KK (A201 []) anY (Wu a):=λ_ r h=>be h λ_ eP h=>be h λ_ j7 h=>rr h [(2,.seq 3 (bH (λq_=>(AV.slice 70 1 (O q_) (je q_))) (awK eP))),(3,ke.app j7),(1,.iS 5 bL)]
def RR:=Wu
def aTf:KK (Cx E0 201 Ux aoS) anY (RR a):=λ_ _ h=>ca (X:=x201) (aNu a h)
def I9 (r:bz):AV:=.dh []
def EG:List (Nat×Bx):= [(0,K6 q)]
def x228:=fx E0 Tryz.f228 [0]
def GH:=Ax x228 I9 EG
def asE:LS:=⟨[(0,.ms 0 1 0 (O q)),(1,ck b),(2,ck d),(3,UT),(8,ck g),(9,ck o)],[(0,K6 q)]⟩
def A9:LS:=⟨[(0,.ms 0 1 0 (O q)),(1,ck b),(2,ck d),(3,UT),(8,ck g)],[(0,K6 q)]⟩
def anU:LS:=⟨[(0,.ms 0 1 0 (O q)),(1,ck m),(2,ck s),(3,UT)],[(0,K6 q)]⟩
def Ks (f7:Int->Int->Int->Int->bz->G bz) (n:Nat) (a1 b2 i8 j9:Int) (b0:bz):G bz:=
 ite (A' (a1<j9)) (M (eT (O b0) j9) λx8=>M (b0[0+x8]?) λfA=>M (eT (O b0) (ba (j9-1))) λgG=>M (b0[0+gG]?) λjh=>M (Ko n fA jh) λkO=>ite (A' (kO<0)) (M (eT (O b0) (ba (j9-1))) λrN=>M (b0[0+rN]?) λoD=>M (eT (O b0) j9) λuZ=>M (b0[0+uZ]?) λxw=>M (eT (O b0) j9) λIW=>M (b0[0+IW]?) λNa=>M (setAt b0 (0+IW) oD) λxI=>M (eT (O b0) (ba (j9-1))) λDz=>M (xI[0+Dz]?) λx48=>M (setAt xI (0+Dz) xw) λa0=>f7 a1 b2 i8 (ba (j9-1)) a0) (cC a1 b2 i8 b0)) (cC a1 b2 i8 b0)
def aNf {aH} (aY:KK (GH (aI 57)) A9 aH) {f7} (aL:KK (GH (aI 329)) asE f7) (n:Nat):KK (GH (aI 329)) asE (Ks aH f7 n):=λ_ _ _ _ _ r h=>ie h (λc0 h=>be h λ_ lr h=>be h λ_ iY h=>be h λ_ lD h=>be h λ_ iX h=>be h λ_ mY h=>let zA:SE:=[aS c0,(4,du lr),(0,ke.row iY),(3,du lD),(0,ke.row iX),kj (Ig n mY)];ie h (λc1 h=>be h λ_ uJ h=>be h λoD xE h=>be h λ_ yA h=>be h λxw Fz h=>be h λ_ SQ h=>be h λ_ SP h=>be h λ_ sX h=>be h λ_ SN h=>be h λ_ aDl h=>be h λ_ QG h=>cD (aL h) zA [aD c1,(9,du uJ),(0,ke.row xE),(2,du yA),(0,ke.row Fz),(0,du SQ),(0,ke.uj 0 [.slice 38 3 (O oD) (cY oD)] SP sX),(0,du SN),(0,ke.uj 0 [.slice 38 3 (O xw) (cY xw)] aDl QG),(3,.seq 0 (bH (AV.ms 0 1 0) (((py QG).trans (py sX)).symm)))]) λc1 h=>cD (aY h) zA [aD c1]) λc0 h=>ra (aY h) [aS c0]
def JK (aH:auy):Nat->Int->Int->Int->Int->bz->G bz
 |0=>dK.z
 |n+1=>Ks aH (JK aH n) n
def ayS {aH} (aY:KK (GH (aI 57)) A9 aH):∀n:Nat,KK (GH (aI 329)) asE (JK aH n)
 |0=>KC.h
 |n+1=>aNf aY (ayS aY n) n
def AD (n:Nat) (a1 b2 i8:Int) (b0:bz):G bz:=
 cC a1 b2 (ba (i8+1)) b0
def aNe {bw} (cQ:KK (GH [0,1]) A9 bw) (n:Nat):KK (GH (aI 57)) A9 (AD bw n):=λ_ _ _ _ r h=>ra (cQ h) []
def Kr:G bz:=
 ite (A' (ce<cb)) (JK (AD cC cG) cG bV cb ce ce c9) (V c9)
def aNd {f7} (aL:KK (GH [0,1]) A9 f7) (n:Nat):KK (GH [0,1]) A9 (Kr f7 n):=λ_ _ _ _ r h=>ie h (λc0 h=>ra (ayS (aNe aL n) n h) [aS c0]) λc0 h=>rr h [aS c0]
def vt:Nat->Int->Int->Int->bz->G bz
 |0=>dK.z
 |n+1=>Kr (vt n) n
def ayR:∀n:Nat,KK (GH [0,1]) A9 (vt n)
 |0=>KC.h
 |n+1=>aNd (ayR n) n
def Wm:G bz:=
 vt a m s (ba (m+1)) q
def aNc:KK (GH []) anU (Wm a):=λ_ _ _ r h=>ra (ayR a h) []
def Tn:=Wm
def aSX:KK (Cx E0 228 I9 EG) anU (Tn a):=λ_ _ _ _ h=>ca (X:=x228) (aNc a h)
def x221:=fx E0 Tryz.f221 [0]
def Sn:=Ax x221 I9 EG
def asD:LS:=⟨[(0,.ms 0 1 0 (O aO)),(1,ck b),(2,ck d),(3,ck g),(4,UT),(10,.bool ae),(11,.bool bk)],[(0,K6 aO)]⟩
def anV:LS:=⟨[(0,.ms 0 1 0 (O q)),(1,ck m),(2,ck s),(3,ck D),(4,UT)],[(0,K6 q)]⟩
def Kt (f7:Int->Int->Int->Bool->Bool->bz->G bz) (n:Nat) (a1 b2 ae3:Int) (ae4 ae2:Bool) (b0:bz):G bz:=
 ite (!A' (12<(ba (b2-a1)))) (M (Tn n b0 a1 b2) λdG=>M (nG (O dG) (O b0)) λa0=>V dG) A
def aNh {f7} (aL:KK (Sn [0,1,1]) asD f7) (n:Nat):KK (Sn [0,1,1]) asD (Kt f7 n):=λ_ _ _ _ _ _ r h=>ie h (λc0 h=>be h λ_ fR h=>be h λ_ hw12 h=>rr h [bN c0,(4,.call (aSX n fR) [(0,0)] [])]) λc0 h=>nz h
def OS:Nat->Int->Int->Int->Bool->Bool->bz->G bz
 |0=>dK.z
 |n+1=>Kt (OS n) n
def ayT:∀n:Nat,KK (Sn [0,1,1]) asD (OS n)
 |0=>KC.h
 |n+1=>aNh (ayT n) n
def aBC:G bz:=
 OS a m s D I I q
def aNg:KK (Sn []) anV (aBC a):=λ_ _ _ _ r h=>ra (ayT a h) []
def RT:=aBC
def aSY:KK (Cx E0 221 I9 EG) anV (RT a):=λ_ _ _ _ _ h=>ca (X:=x221) (aNg a h)
def x202:=fx E0 Tryz.f202 [0]
def A202:=Ax x202 I9 EG
def anX:LS:=⟨[(0,.ms 0 1 0 (O q)),(1,UT)],[(0,K6 q)]⟩
def Wt:G bz:=
 M (RP a (Hk .u64 ((O q:Int)))) λx8=>M (RT a q 0 (O q:Int) x8) λdG=>M (nG (O dG) (O q)) λa0=>V dG
def aNt:KK (A202 []) anX (Wt a):=λ_ r h=>be h λ_ lr h=>be h λ_ fR h=>be h λ_ hw12 h=>rr h [uI (aTh a lr),(1,.call (aSY a fR) [(0,0)] [])]
def RS:=Wt
def aTe:KK (Cx E0 202 I9 EG) anX (RS a):=λ_ _ h=>ca (X:=x202) (aNt a h)
def aoT:List (Nat×Bx):= [(bL,Bq q)]
def x186:=fx E0 Tryz.f186 []
def TH:=Ax x186 Ux aoT
def auH:LS:=⟨[(3,.ms 8 1 0 (O q)),(4,.ms 35 1 0 (O aO)),(11,.ms 8 1 0 (O q)),(12,ck b),(13,ck d)],[(8,K6 q),(35,Bq aO)]⟩
def auI:LS:=⟨[(4,.ms 35 1 0 (O q))],[(35,Bq q)]⟩
def aob:LS:=⟨[(0,.slice 70 1 (O q) (je q))],[]⟩
def vw (aH:bz->G bz) (f7:Int->Int->bz->bz->G bz) (n:Nat) (a0 L:Int) (b8 MZ:bz):G bz:=
 ite (A' (L<a0)) (M (eT (O b8) L) λx3=>M (b8[0+x3]?) λx5=>ite (L==0) (M (app [] x5) λgF=>M (app MZ [gF]) λkO=>f7 a0 (ba (L+1)) b8 kO) (M (eT (O b8) (ba (L-1))) λgG=>M (b8[0+gG]?) λjh=>M (Ko n jh x5) λlK=>ite (lK !=0) (M (app [] x5) λtI=>M (app MZ [tI]) λse=>f7 a0 (ba (L+1)) b8 se) (f7 a0 (ba (L+1)) b8 MZ))) (aH MZ)
def aNK {aH} (aY:KK (TH (aI 63)) auI aH) {f7} (aL:KK (TH (aI 175)) auH f7) (n:Nat):KK (TH (aI 175)) auH (vw aH f7 n):=λ_ _ _ _ r h=>ie h (λc0 h=>be h λ_ eP h=>be h λ_ jI h=>let zA:SE:=[aD c0,(1,du eP),(0,ke.row jI)];ie h (λc1 h=>be h λgF iC h=>be h λ_ mY h=>cD (aL h) zA [aZ c1,(5,iG.app iC),(0,iG.eD 31 gF),(1,ke.kq mY)]) λc1 h=>be h λ_ lD h=>be h λ_ iX h=>be h λ_ j8 h=>let zB:SE:=dx zA [aZ c1,(4,du lD),(0,ke.row iX),rJ (Ig n j8)];ie h (λc2 h=>be h λtI FA h=>be h λ_ yB h=>cD (aL h) zB [aD c2,(4,iG.app FA),(0,iG.eD 31 tI),(1,ke.kq yB)]) λc2 h=>cD (aL h) zB [aD c2]) λc0 h=>ra (aY h) [aD c0]
def Aq (aH:bz->G bz):Nat->Int->Int->bz->bz->G bz
 |0=>dK.z
 |n+1=>vw aH (Aq aH n) n
def aza {aH} (aY:KK (TH (aI 63)) auI aH):∀n:Nat,KK (TH (aI 175)) auH (Aq aH n)
 |0=>KC.h
 |n+1=>aNK aY (aza aY n) n
def rD (n:Nat) (MZ:bz):G bz:=
 V MZ
def aNJ:KK (TH (aI 63)) auI (rD a):=λ_ r h=>rr h [(2,.iS 35 bL)]
def Wy:G bz:=
 M (RR a q) λx3=>M (RS a x3) λx7=>M (nG (O x7) (O x3)) λw8=>Aq (rD a) a (O x3:Int) 0 x7 []
def aNI:KK (TH []) aob (Wy a):=λ_ r h=>be h λ_ eP h=>be h λ_ j7 h=>be h λ_ hw8 h=>ra (aza (aNJ a) a h) [(2,.call (aTf a eP) [] [(8,bL)]),(2,.call (aTe a j7) [(8,0)] []),(4,.born [4] [] 35 I 70 1),(0,.seq 3 (bH (AV.ms 8 1 0) ((Bj hw8).symm))),(0,.seq 11 (bH (AV.ms 8 1 0) ((Bj hw8).symm)))]
def Tp:=Wy
def aHx:KK (Cx E0 186 Ux aoT) aob (Tp a):=λ_ _ h=>ca (X:=x186) (aNI a h)
def x155:=fx E0 Tryz.f155 []
def BR:=Ax x155 dj bE
def afi:LS:=⟨[(0,.kX (FY c)),(3,.kX (jO u)),(4,iI m),(5,.ms 70 1 0 (O aO)),(6,.ms 76 1 0 (O c9)),(47,.slice 110 6 (O ab) (kJ ab)),(48,iI vQ),(49,iI au)],[(70,Bq aO),(76,Bq c9)]⟩
def afj:LS:=⟨[(5,.ms 79 1 0 (O q)),(6,.ms 81 1 0 (O aO)),(99,ck b),(100,ck d)],[(79,Bq q),(81,Bq aO)]⟩
def afk:LS:=⟨[],[]⟩
def afl:LS:=⟨[(0,.kX (FY c)),(5,.ms 70 1 0 (O q)),(6,.ms 76 1 0 (O aO))],[(70,Bq q),(76,Bq aO)]⟩
def W0 (bD:aIO) (f7:aJ->ah->Int->gM->Int->Int->bz->bz->G Bool) (n:Nat) (g0:aJ) (t3:ah) (c4:Int) (a0:gM) (ag aq:Int) (zj zi:bz):G Bool:=
 ite (A' (aq<ag)) (M (idx a0 aq) λx2=>M (idx t3.L c4) λkz=>M (RO n x2.f0 kz.aB) λjo=>ite (!jo) (V U) (M (app zj [[x2.f0]]) λyQ=>M (app zi [[x2.f1]]) λIX=>f7 g0 t3 c4 a0 ag (ba (aq+1)) yQ IX)) (bD g0 zj zi)
def aOQ {bD} (cV:KK (BR (aI 63)) afl bD) {f7} (aL:KK (BR (aI 175)) afi f7) (n:Nat):KK (BR (aI 175)) afi (W0 bD f7 n):=λ_ _ _ _ _ _ _ _ r h=>ie h (λc0 h=>be h λx2 dq h=>be h λ_ jK h=>be h λ_ jW h=>let zA:SE:=[aD c0,(0,Ge.idx dq),(10,fI.idx jK),jl (atj n jW)];ie h (λc1 h=>bt h zA [aD c1]) λc1 h=>be h λ_ yC h=>be h λ_ H9 h=>cD (aL h) zA [aD c1,(4,iG.eD 68 [x2.f0]),(1,ke.kq yC),(5,iG.eD 74 [x2.f1]),(1,ke.kq H9)]) λc0 h=>ra (cV h) [aD c0]
def JZ (bD:aIO):Nat->aJ->ah->Int->gM->Int->Int->bz->bz->G Bool
 |0=>dK.z
 |n+1=>W0 bD (JZ bD n) n
def azr {bD} (cV:KK (BR (aI 63)) afl bD):∀n:Nat,KK (BR (aI 175)) afi (JZ bD n)
 |0=>KC.h
 |n+1=>aOQ cV (azr cV n) n
def vx (f7:Int->Int->bz->bz->G Bool) (n:Nat) (aq ag:Int) (a0 L:bz):G Bool:=
 ite (A' (ag<aq)) (M (eT (O a0) ag) λx6=>M (a0[0+x6]?) λx8=>M (idx x8 0) λfA=>M (eT (O L) ag) λgG=>M (L[0+gG]?) λjh=>M (idx jh 0) λkO=>ite (!((fA.aB==kO.aB)&&((fA.dt==kO.dt)&&((A' (fA.cH=kO.cH))&&I)))) (V U) (f7 aq (ba (ag+1)) a0 L)) K
def aOP {bw} (cQ:KK (BR (aI 511)) afk bw) {f7} (aL:KK (BR (aI 1407)) afj f7) (n:Nat):KK (BR (aI 1407)) afj (vx bw f7 n):=λ_ _ _ _ r h=>ie h (λc0 h=>be h λ_ km h=>be h λ_ lr h=>be h λ_ iY h=>be h λ_ lD h=>be h λ_ iX h=>be h λ_ mY h=>let zA:SE:=[aD c0,(4,du km),(0,ke.row lr),(0,iG.idx iY),(3,du lD),(0,ke.row iX),(0,iG.idx mY)];ie h (λc1 h=>bt h zA [aX c1]) λc1 h=>cD (aL h) zA [aX c1]) λc0 h=>ra (cQ h) [aD c0]
def yb (bw:G Bool):Nat->Int->Int->bz->bz->G Bool
 |0=>dK.z
 |n+1=>vx bw (yb bw n) n
def azq {bw} (cQ:KK (BR (aI 511)) afk bw):∀n:Nat,KK (BR (aI 1407)) afj (yb bw n)
 |0=>KC.h
 |n+1=>aOP cQ (azq cQ n) n
def qy (n:Nat):G Bool:=
 V I
def aOO:KK (BR (aI 511)) afk (qy a):=λr h=>rr h []
def O8:G Bool:=
 M (Tp a q) λx2=>M (Tp a aO) λx5=>ite ((O x2:Int) !=(O c.fm.cg:Int)) (V U) (ite ((O x5:Int) !=(O x2:Int)) (V U) (yb (qy a) a (O x2:Int) 0 x2 x5))
def aON:KK (BR (aI 63)) afl (O8 a):=λ_ zj zi r h=>be h λ_ dq h=>be h λ_ jI h=>let zA:SE:=[(1,ke.eD 70 zj),(0,.call (aHx a dq) [] [(79,bL)]),(1,ke.eD 76 zi),(0,.call (aHx a jI) [] [(81,bL)])];ie h (λc0 h=>bt h zA [(10,eb c0)]) λc0 h=>ie h (λc1 h=>bt h zA [(10,eb c0),bN c1]) λc1 h=>cD (azq (aOO a) a h) zA [(10,eb c0),bN c1]
def amg:G Bool:=
 M (Rj a c) λx3=>M (Tt a c c.fm.bc) λkz=>ite (!kz) (V U) (M (LO a c) λkO=>ite kO (V U) (ite (A' ((O c.fm.cg:Int)<1)) (V U) (ite (A' (16<(O c.fm.cg:Int))) (V U) (JZ (O8 a) a c x3 c.fm.bc c.fm.cg (O c.fm.cg:Int) 0 [] []))))
def aOM:KK (BR []) Bh (amg a):=λ_ r h=>be h λ_ eP h=>be h λ_ jK h=>let zA:SE:=[(1,.ord [0,2,3,4,5,6,1,7,8]),vU (Vl a eP),lY (adH a jK)];ie h (λc0 h=>bt h zA [aD c0]) λc0 h=>be h λ_ mY h=>let zB:SE:=dx zA [aD c0,jl (aHA a mY)];ie h (λc1 bq=>by subst c1;exact (rr bq zB)) λc1 bq=>by subst c1;exact (ie bq (λc2 bq=>bt bq zB [iO c2]) λc2 bq=>ie bq (λc3 bq=>bt bq zB [iO c2,iO c3]) λc3 bq=>cD (azr (aON a) a bq) zB [iO c2,iO c3,(10,.born [5] [] 70 I 70 1),(0,.born [6] [] 76 I 70 1)])
def Il:=amg
def aTt:KK (Cx E0 155 dj bE) Bh (Il a):=λ_ _ h=>ca (X:=x155) (aOM a h)
end Go.Proofs.YtbnkhmoelnfjoaaGreat
end
