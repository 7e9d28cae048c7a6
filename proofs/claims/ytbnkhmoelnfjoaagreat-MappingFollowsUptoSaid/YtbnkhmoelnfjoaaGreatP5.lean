/- Part. -/
import Derived.Test.YtbnkhmoelnfjoaaGreatP4
import Derived.KernelRfl
set_option linter.all false
set_option maxRecDepth 100000
open Bool renaming false->B,true->M
open Option renaming some->V,none->G
open Decidable renaming decide->U
open Go.Proofs.YtbnkhmoelnfjoaaGreat.ae renaming mk->ad0
open Go.Proofs.YtbnkhmoelnfjoaaGreat.ai renaming mk->ad1
open ByteArray renaming empty->vp,mk->xp
open Go.Proofs.YtbnkhmoelnfjoaaGreat.aJ renaming mk->ad2
open Go.Proofs.YtbnkhmoelnfjoaaGreat.aj renaming mk->ad3
open Go.IntKind renaming wrap->U'
open Go.Utf8 renaming encode->Y',decode->V'
noncomputable section
namespace Go.Proofs.YtbnkhmoelnfjoaaGreat
open Go.bL
variable (a:Nat) (b d:Int) (c:aJ) (i:ae) (j:aP) (g:Int) (t:bD) (o x:Int) (p:aj) (q:bn) (u:ai) (y:bw) (m s:Int) (f9:bp) (C:aG) (w R:ae) (J:di) (K:A Bool) (F:aN) (D:Int) (L:Bool) (ge:ae) (S:bQ) (g6 aa:Int) (H:cH) (T:ai) (I:bD) (ab:gq) (f8:Int) (g8:Z) (aq aR:Int) (au:bw) (E ac:ai) (N:di) (ad:bp) (f7:bQ) (af:aP) (ax:bD) (ak:Int) (al:Nat) (ay:aJ) (am:aj) (aS:ZF) (aZ:Dn) (an:Nat) (W:Int) (Y:mQ) (g7:aj) (O:bw) (bc:aN) (P:ae) (ao:aG) (ap:ai) (az:aT) (bd:lS) (aC:Int) (a2:aP) (bf:gq) (a3 a4 cn:Int) (bi:Gw) (bm:ae) (bo:PG) (a5:Nat) (bs:Bool) (aF:bn) (bv:ae) (a6:bD) (a7:aj) (bx:cH) (bz:PH) (a8:bO) (co:ai) (bA:Nat) (cp:di) (bB:Int) (cq:bw) (cs:bD) (ct:ZD) (cu:cf) (bC cv:Int) (bJ:ae) (a9:aG) (bK:ai) (bN:Nat) (bP:bq) (bT:aP) (aO:aj) (cw:A Int) (bU:bQ) (bV:Nx) (cz:asO) (cB:asM) (cE:Nat) (cI:bD) (bY cJ:Int) (cK:asJ) (cR:aDm) (cS:Nat) (cT:Int) (cU:bp) (bb cb:Int) (cc:ai) (cW:ZH) (cX:R4) (ce:Nat) (ch:aw) (cZ:Wf0) (c9:asQ) (da:bn) (dc:List (Z×Bool)) (dd:aJ) (ci:aj) (dC:asK) (dD:Nx) (cj:Nat) (cl df:Int) (dh:bQ) (dl:ae) (dE:gq) (dn:aT) (dp:Z) (dr:(Bool×aJ)) (dF:acb) (dH dJ:Int) (ds:iH) (dK:asL) (dL:aij) (dN:aHr) (dO:Nat) (dP:bD) (dQ:Wf34) (dR:Wf27) (dS:Nat) (dT:Wf24) (dU:Nat) (dW dY:Int) (d0:aHt) (d1:bq) (dt:Nat) (d2:asP) (d3:aJ) (dz:bD) (d4:A Bool) (d5:asR) (d6:ae) (d7:aP) (d8:aj) (d9 ea:Int) (ec:List (Z×Bool)) (ee:gZ) (ef:ai) (eg:aDn) (ei:Wf36) (ej:(gZ×Int)) (ek:(cH×aN)) (em:(ai×di×bQ×bw)) (en:(ae×cH×gZ×Int×aN)) (eo:(aP×aP)) (ep:(Bool×Int))
def HQ:AV:=.slice 3 1 j.length (dM j)
def x216:=fx E0 Tryz.f216 []
def Oh:=Ax x216 HQ bG
def Al:LS:=⟨[(0,.slice 3 1 j.length (dM j)),(1,iI g),(5,iI o)],[]⟩
def ame:LS:=⟨[(0,.slice 3 1 j.length (dM j)),(1,iI g)],[]⟩
def NS (bh:aDo) (back:aDo) (n:Nat) (l0:aP) (n1 i5:Int):A aP:=
 if U (i5<(l0.length:Int)) then
 (idx l0 i5).bind λx8=>if U (x8<n1) then
 back l0 n1 (aV (i5+1))
 else
 bh l0 n1 i5
 else
 bh l0 n1 i5
def aMd {bh} (cL:KK (Oh [1,1,1]) Al bh) {back} (aK:KK (Oh [0,0,1,1]) Al back) (n:Nat):KK (Oh [0,0,1,1]) Al (NS bh back n):=λ_ _ _ r h=>ie h (λc0 h=>be h λ_ lj h=>ie h (λc1 h=>ra (aK h) [aX c0,(3,R3.idx lj),aQ c1]) λc1 h=>ra (cL h) [aX c0,(3,R3.idx lj),aQ c1]) λc0 h=>ra (cL h) [aX c0]
def Fa (bh:aDo):Nat->aP->Int->Int->A aP
 |0=>dw.z
 |n+1=>NS bh (Fa bh n) n
def axj {bh} (cL:KK (Oh [1,1,1]) Al bh):∀n:Nat,KK (Oh [0,0,1,1]) Al (Fa bh n)
 |0=>KC.h
 |n+1=>aMd cL (axj cL n) n
def NR (n:Nat) (l0:aP) (n1 i5:Int):A aP:=
 (cut l0 G (V i5)).bind λx3=>(app [] x3).bind λx5=>(app x5 [n1]).bind λx9=>(cut l0 (V i5) G).bind λdB=>(app x9 dB).bind λga=>V ga
def azg:KK (Oh [1,1,1,1]) Al (NR a):=λ_ _ _ r h=>be h λ_ eP h=>be h λ_ iw h=>be h λ_ iq h=>be h λ_ fG h=>be h λga lu h=>rr h [(0,.born [] [] 36 M 3 1),(2,R3.cut eP),(0,R3.app (xs:= []) iw),(2,R3.jU iq),(2,R3.cut fG),(0,R3.app lu),(1,R3.eB 36 ga),(0,.qc 4 (.sl 0 0 0 0 []))]
def Ve:A aP:=
 if U (o<(j.length:Int)) then
 (idx j o).bind λx8=>if x8==g then
 V j
 else
 NR a j g o
 else
 NR a j g o
def aMc:KK (Oh [1,1,1]) Al (Ve a):=λ_ _ _ r h=>ie h (λc0 h=>be h λ_ lj h=>ie h (λc1 h=>rr h [aX c0,(3,R3.idx lj),aQ c1]) λc1 h=>ra (azg a h) [aX c0,(3,R3.idx lj),aQ c1]) λc0 h=>ra (azg a h) [aX c0]
def ajR:A aP:=
 Fa (Ve a) a j g 0
def aMb:KK (Oh []) ame (ajR a):=λ_ _ r h=>ra (axj (aMc a) a h) []
def atf:=ajR
def aRE:KK (Cx E0 216 HQ bG) ame (atf a):=λ_ _ _ h=>ca (X:=x216) (aMb a h)
def x195:=fx E0 Tryz.f195 []
def A5:=Ax x195 HQ bG
def NO:=Cx E0 195 HQ bG
def Xo (qf:vB):LS:=⟨[(1,.slice 3 1 j.length (dM j)),aY 2,(15,.ms 15 5 0 qf.length),(16,iI 2),(17,iI g)],[(2,kY (fW p)),(15,.rows B 105 5 (O4 qf))]⟩
def Xn:LS:=⟨[(1,.slice 3 1 j.length (dM j)),aY 2,(36,iI g),(37,iI o)],[(2,kY (fW p))]⟩
def Xm:LS:=⟨[(1,.slice 3 1 j.length (dM j))],[]⟩
def Xl:LS:=⟨[(1,.slice 3 1 j.length (dM j)),aY 2],[(2,kY (fW p))]⟩
def wE:LS:=⟨[(0,.agg (fW p)),(1,.slice 3 1 af.length (dM af))],[]⟩
def Jo (iY:R4) (br:asS) (back:aP->Int->aj->vB->A aP) (n:Nat) (l1:aP) (t17:Int) (b2:aj) (qf:vB):A aP:=
 if U (t17<2) then
 (eh qf.length t17).bind λx2=>(qf[0+x2]?).bind λx4=>if x4.aE==1 then
 if !U (x4.dk<0) then
 (atf n l1 x4.dk).bind λlg=>back lg (aV (t17+1)) b2 qf
 else
 back l1 (aV (t17+1)) b2 qf
 else
 back l1 (aV (t17+1)) b2 qf
 else
 br l1 b2
def aMn {iY} (pM:KK NO wE iY) {br} (cO:KK (A5 [1,1]) Xl br) {back} (aK:KK (A5 (aI 85)) Xo back) (n:Nat):KK (A5 (aI 85)) Xo (Jo iY br back n):=λ_ _ _ _ r h=>ie h (λc0 h=>be h λ_ dg h=>be h λ_ iB h=>let zA:SE:=[aD c0,(0,de dg),(0,asV.row iB)];ie h (λc1 h=>ie h (λc2 h=>be h λ_ nu h=>cC (aK h) zA [bl c1,aX c2,ku (aRE n nu)]) λc2 h=>cC (aK h) zA [bl c1,aX c2]) λc1 h=>cC (aK h) zA [bl c1]) λc0 h=>ra (cO h) [aD c0]
def xz (iY:R4) (br:asS):Nat->aP->Int->aj->vB->A aP
 |0=>dw.z
 |n+1=>Jo iY br (xz iY br n) n
def axl {iY} (pM:KK NO wE iY) {br} (cO:KK (A5 [1,1]) Xl br):∀n:Nat,KK (A5 (aI 85)) Xo (xz iY br n)
 |0=>KC.h
 |n+1=>aMn pM cO (axl pM cO n) n
def Vj (back:aP->Int->Int->aj->A aP) (n:Nat) (l1:aP) (t36 t37:Int) (b2:aj):A aP:=
 if U (t37<t36) then
 (idx b2.fArgs t37).bind λx7=>(cX x7 l1).bind λdu=>back du t36 (aV (t37+1)) b2
 else
 cZ l1
def aMm {iY} (pM:KK NO wE iY) {bh} (cL:KK (A5 [1,1,1]) Xm bh) {back} (aK:KK (A5 [0,1,0,1,1]) Xn back) (n:Nat):KK (A5 [0,1,0,1,1]) Xn (Vj iY bh back n):=λ_ _ _ _ r h=>ie h (λc0 h=>be h λ_ iQ h=>be h λ_ fB h=>ra (aK h) [aD c0,(5,fa.idx iQ),jj (pM fB)]) λc0 h=>ra (cL h) [aD c0]
def IE (iY:R4) (bh:Wf0):Nat->aP->Int->Int->aj->A aP
 |0=>dw.z
 |n+1=>Vj iY bh (IE iY bh n) n
def axk {iY} (pM:KK NO wE iY) {bh} (cL:KK (A5 [1,1,1]) Xm bh):∀n:Nat,KK (A5 [0,1,0,1,1]) Xn (IE iY bh n)
 |0=>KC.h
 |n+1=>aMm pM cL (axk pM cL n) n
def Vi (iY:R4) (n:Nat) (l1:aP):A aP:=
 V l1
def aMl {iY} (pM:KK NO wE iY) (n:Nat):KK (A5 [1,1,1]) Xm (Vi iY n):=λ_ r h=>rr h []
def Jn:A aP:=
 IE cX (Vi cX ce) ce d7 (d8.fArgs.length:Int) 0 d8
def azh {iY} (pM:KK NO wE iY) (n:Nat):KK (A5 [1,1]) Xl (Jn iY n):=λ_ _ r h=>ra (axk pM (aMl pM n) n h) []
def ajV:A aP:=
 if ci.bg==3 then
 xz cX (Jn cX ce) ce d7 0 ci [ci.cQ,ci.cx]
 else
 Jn cX ce d7 ci
def aMk {iY} (pM:KK NO wE iY) (n:Nat):KK (A5 []) wE (ajV iY n):=λ_ _ r h=>ie h (λc0 h=>ra (axl pM (azh pM n) n h) [bl c0]) λc0 h=>ra (azh pM n h) [bl c0]
def Hj:Nat->aj->aP->A aP
 |0,_,_=>G
 |n+1,p0,l1=>ajV (Hj n) n p0 l1
def aFW:∀n:Nat,KK NO wE (Hj n)
 |0=>λ_ _ _ h=>nz h
 |n+1=>λ_ _ _ h=>ca (X:=x195) (aMk (aFW n) n h)
def x176:=fx E0 Tryz.f176 []
def A176:=Ax x176 HQ bG
def akh:A aP:=
 (Hj a p []).bind λx4=>V x4
def aMO:KK (A176 []) DC (akh a):=λ_ r h=>be h λ_ iB h=>rr h [ky (aFW a iB)]
def atk:=akh
def aRO:KK (Cx E0 176 HQ bG) DC (atk a):=λ_ _ h=>ca (X:=x176) (aMO a h)
def x143:=fx E0 Tryz.f143 []
def ov:=Ax x143 cY bG
def X8:LS:=⟨[(1,iI b),aY 2,(14,.slice 121 2 S.length (eD S)),(15,iI g6),(16,iI aa),(21,.slice 3 1 af.length (dM af)),(22,iI ak),(23,iI W)],[(2,ia (jN ap))]⟩
def As:LS:=⟨[(1,iI b),aY 2,(14,.slice 121 2 S.length (eD S)),(15,iI g6),(16,iI aa)],[(2,ia (jN T))]⟩
def X7:LS:=⟨[(1,iI b),(33,.slice 107 13 y.length (dV y)),(34,iI m),(35,iI s),(40,.slice 3 1 af.length (dM af)),(41,iI ak),(42,iI W)],[]⟩
def Ar:LS:=⟨[(1,iI b),(33,.slice 107 13 y.length (dV y)),(34,iI m),(35,iI s)],[]⟩
def X6:LS:=⟨[],[]⟩
def X5:LS:=⟨[(1,bM b),aY 2],[(2,ia (jN u))]⟩
def amy:LS:=⟨[(0,.agg (jN u)),(1,bM m)],[]⟩
def Wa (back:Int->bQ->Int->Int->aP->Int->Int->ai->A Bool) (n:Nat) (gF:Int) (t14:bQ) (t15 t16:Int) (t21:aP) (t22 t23:Int) (b2:ai):A Bool:=
 if U (t23<t22) then
 (idx t21 t23).bind λx2=>if x2==gF then
 V M
 else
 back gF t14 t15 t16 t21 t22 (aV (t23+1)) b2
 else
 d5 gF t14 t15 t16 b2
def aOr {aB} (aU:KK (ov (aI 485)) As aB) {back} (aK:KK (ov (aI 5733)) X8 back) (n:Nat):KK (ov (aI 5733)) X8 (Wa aB back n):=λ_ _ _ _ _ _ _ _ r h=>ie h (λc0 h=>be h λ_ dg h=>ie h (λc1 h=>rr h [aD c0,(0,R3.idx dg),bl c1]) λc1 h=>ra (aK h) [aD c0,(0,R3.idx dg),bl c1]) λc0 h=>ra (aU h) [aD c0]
def IZ (aB:asR):Nat->Int->bQ->Int->Int->aP->Int->Int->ai->A Bool
 |0=>dw.z
 |n+1=>Wa aB (IZ aB n) n
def axS {aB} (aU:KK (ov (aI 485)) As aB):∀n:Nat,KK (ov (aI 5733)) X8 (IZ aB n)
 |0=>KC.h
 |n+1=>aOr aU (axS aU n) n
def V9 (n:Nat) (gF:Int) (t14:bQ) (t15 t16:Int) (b2:ai):A Bool:=
 d5 gF t14 t15 (aV (t16+1)) b2
def aOq {bh} (cL:KK (ov [0,1,0,1]) As bh) (n:Nat):KK (ov (aI 485)) As (V9 bh n):=λ_ _ _ _ _ r h=>ra (cL h) []
def V8 (l6:Int->ai->A Bool) (back:asR) (n:Nat) (gF:Int) (t14:bQ) (t15 t16:Int) (b2:ai):A Bool:=
 if U (t16<t15) then
 (idx t14 t16).bind λx2=>IZ (V9 back n) n gF t14 t15 t16 x2.ag (x2.ag.length:Int) 0 b2
 else
 l6 gF b2
def aOp {l6} (ua:KK (ov [1,1]) X5 l6) {back} (aK:KK (ov [0,1,0,1]) As back) (n:Nat):KK (ov [0,1,0,1]) As (V8 l6 back n):=λ_ _ _ _ _ r h=>ie h (λc0 h=>be h λ_ dg h=>ra (axS (aOq aK n) n h) [aD c0,(0,fD.idx dg)]) λc0 h=>ra (ua h) [aD c0]
def Fk (l6:Int->ai->A Bool):Nat->Int->bQ->Int->Int->ai->A Bool
 |0=>dw.z
 |n+1=>V8 l6 (Fk l6 n) n
def axR {l6} (ua:KK (ov [1,1]) X5 l6):∀n:Nat,KK (ov [0,1,0,1]) As (Fk l6 n)
 |0=>KC.h
 |n+1=>aOp ua (axR ua n) n
def V7 (back:Int->bw->Int->Int->aP->Int->Int->A Bool) (n:Nat) (gF:Int) (t33:bw) (t34 t35:Int) (t40:aP) (t41 t42:Int):A Bool:=
 if U (t42<t41) then
 (idx t40 t42).bind λx2=>if x2==gF then
 V M
 else
 back gF t33 t34 t35 t40 t41 (aV (t42+1))
 else
 c9 gF t33 t34 t35
def aOo {cV} (eX:KK (ov (aI 971)) Ar cV) {back} (aK:KK (ov (aI 11467)) X7 back) (n:Nat):KK (ov (aI 11467)) X7 (V7 cV back n):=λ_ _ _ _ _ _ _ r h=>ie h (λc0 h=>be h λ_ dg h=>ie h (λc1 h=>rr h [aD c0,(0,R3.idx dg),bl c1]) λc1 h=>ra (aK h) [aD c0,(0,R3.idx dg),bl c1]) λc0 h=>ra (eX h) [aD c0]
def IY (cV:asQ):Nat->Int->bw->Int->Int->aP->Int->Int->A Bool
 |0=>dw.z
 |n+1=>V7 cV (IY cV n) n
def axQ {cV} (eX:KK (ov (aI 971)) Ar cV):∀n:Nat,KK (ov (aI 11467)) X7 (IY cV n)
 |0=>KC.h
 |n+1=>aOo eX (axQ eX n) n
def V6 (n:Nat) (gF:Int) (t33:bw) (t34 t35:Int):A Bool:=
 c9 gF t33 t34 (aV (t35+1))
def aOn {eA} (gV:KK (ov [0,1,0,1,1]) Ar eA) (n:Nat):KK (ov (aI 971)) Ar (V6 eA n):=λ_ _ _ _ r h=>ra (gV h) []
def V5 (t33:bw) (t34 t35:Int):A Bool:=
 if U (t35<t34) then
 (idx t33 t35).bind λx2=>(atk cj x2).bind λx8=>IY (V6 c9 cj) cj cl t33 t34 t35 x8 (x8.length:Int) 0
 else
 K
def aOm {ju} (oS:KK (ov [1,1,1]) X6 ju) {back} (aK:KK (ov [0,1,0,1,1]) Ar back) (n:Nat):KK (ov [0,1,0,1,1]) Ar (V5 ju back n):=λ_ _ _ _ r h=>ie h (λc0 h=>be h λ_ dg h=>be h λ_ lj h=>ra (axQ (aOn aK n) n h) [aD c0,(0,fa.idx dg),ku (aRO n lj)]) λc0 h=>ra (oS h) [aD c0]
def Fj (ju:A Bool):Nat->Int->bw->Int->Int->A Bool
 |0=>dw.z
 |n+1=>V5 ju (Fj ju n) n
def axP {ju} (oS:KK (ov [1,1,1]) X6 ju):∀n:Nat,KK (ov [0,1,0,1,1]) Ar (Fj ju n)
 |0=>KC.h
 |n+1=>aOm oS (axP oS n) n
def V4 (n:Nat):A Bool:=
 V B
def aOl:KK (ov [1,1,1]) X6 (V4 a):=λr h=>rr h []
def V3:A Bool:=
 Fj (V4 a) a b u.aL (u.aL.length:Int) 0
def aOk:KK (ov [1,1]) X5 (V3 a):=λ_ _ r h=>ra (axP (aOl a) a h) []
def akL:A Bool:=
 Fk (V3 a) a m u.ar (u.ar.length:Int) 0 u
def aOj:KK (ov []) amy (akL a):=λ_ _ r h=>ra (axR (aOk a) a h) []
def ajv:=akL
def aGt:KK (Cx E0 143 cY bG) amy (ajv a):=λ_ _ _ h=>ca (X:=x143) (aOj a h)
def HS:AV:=.agg (fW p)
def x177:=fx E0 Tryz.f177 []
def Hn:=Ax x177 HS bG
def Sj:=Cx E0 177 HS bG
def XA (b6:aj):LS:=⟨[(1,bM b),(2,bM d),aY 3,aY 6],[(3,kY (fW p)),(6,q2_)]⟩
def Xz:LS:=⟨[(1,iI b),(2,iI d),aY 3,aY 6,(7,.ms 50 13 0 O.length),(38,.slice 107 13 y.length (dV y)),(39,iI m),(40,iI s)],[(3,kY (fW am)),(6,kY (fy g7 .cr)),(50,GX O)]⟩
def Xy:LS:=⟨[aY 3,aY 6,(7,.ms 50 13 0 O.length)],[(3,kY (fW p)),(6,kY (fy am .cr)),(50,GX O)]⟩
def yv:LS:=⟨[(0,.agg (fW p)),(1,bM m),(2,bM s)],[]⟩
def NV (jY:ZD) (br:Int->Int->aj->aj->A aj) (n:Nat) (ed iv:Int) (b3 b6:aj):A aj:=
 if b3.cx.aE==1 then
 (K5 n b3.cx.dk ed iv).bind λeW=>br ed iv (ad3 b3.bg b3.fI b3.cQ (bO.mk b3.cx.aE eW b3.cx.bk) b3.fArgs) sw
 else
 br ed iv b3 sw
def azj {jY} (qB:KK Sj yv jY) {br} (cO:KK (Hn [1,1]) XA br) (n:Nat):KK (Hn [1,0,1,0,1]) XA (NV jY br n):=λ_ _ _ _ r h=>ie h (λc0 h=>be h λ_ iF h=>ra (cO h) [aX c0,mh (Ua n iF)]) λc0 h=>ra (cO h) [aX c0]
def Vv (back:Int->Int->bw->Int->Int->aj->aj->bw->A aj) (n:Nat) (ed iv:Int) (t38:bw) (t39 t40:Int) (b3 b6:aj) (LF:bw):A aj:=
 if U (t40<t39) then
 (idx t38 t40).bind λx2=>(ct x2 ed iv).bind λdu=>(app LF [du]).bind λiK=>back ed iv t38 t39 (aV (t40+1)) b3 (ad3 b6.bg b6.fI b6.cQ b6.cx []) iK
 else
 d2 b3 (ad3 b6.bg b6.fI b6.cQ b6.cx []) LF
def aMN {jY} (qB:KK Sj yv jY) {bh} (cL:KK (Hn [1,1,1,1]) Xy bh) {back} (aK:KK (Hn (aI 87)) Xz back) (n:Nat):KK (Hn (aI 87)) Xz (Vv jY bh back n):=λ_ _ _ _ _ _ _ _ r h=>ie h (λc0 h=>be h λ_ dg h=>be h λdu fB h=>be h λ_ iO h=>ra (aK h) [aD c0,(0,fa.idx dg),vt (qB fB),(0,.laid (bH (Bx.rows B 107 13) (fa.map [du]).symm)),(0,fa.jU iO)]) λc0 h=>ra (cL h) [aD c0]
def IJ (jY:ZD) (bh:asP):Nat->Int->Int->bw->Int->Int->aj->aj->bw->A aj
 |0=>dw.z
 |n+1=>Vv jY bh (IJ jY bh n) n
def axs {jY} (qB:KK Sj yv jY) {bh} (cL:KK (Hn [1,1,1,1]) Xy bh):∀n:Nat,KK (Hn (aI 87)) Xz (IJ jY bh n)
 |0=>KC.h
 |n+1=>aMN qB cL (axs qB cL n) n
def akg (jY:ZD) (n:Nat) (b3 b6:aj) (LF:bw):A aj:=
 V (ad3 b3.bg b3.fI b3.cQ b3.cx LF)
def aMM {jY} (qB:KK Sj yv jY) (n:Nat):KK (Hn [1,1,1,1]) Xy (akg jY n):=λ_ _ LF r h=>rr h [(5,fa.eB 50 LF),(0,.nQ 6 (.flat 0 (zx 12 [.sl 0 0 0 0 []])))]
def Fw (b6:aj):A aj:=
 IJ ct (akg ct bN) bN bY cJ ci.fArgs (ci.fArgs.length:Int) 0 ci sw []
def ahW {jY} (qB:KK Sj yv jY) (n:Nat):KK (Hn [1,1]) XA (Fw jY n):=λ_ _ _ _ r h=>ra (axs qB (aMM qB n) n h) [(5,.born [7] [] 50 M 107 13)]
def akf:A aj:=
 if aO.bg==3 then
 if aO.cQ.aE==1 then
 (K5 bN aO.cQ.dk bY cJ).bind λga=>NV ct (Fw ct bN) bN bY cJ (ad3 aO.bg aO.fI (bO.mk aO.cQ.aE ga aO.cQ.bk) aO.cx aO.fArgs) sw
 else
 NV ct (Fw ct bN) bN bY cJ aO sw
 else
 Fw ct bN bY cJ aO sw
def aML {jY} (qB:KK Sj yv jY) (n:Nat):KK (Hn []) yv (akf jY n):=λ_ _ _ r h=>ie h (λc0 h=>ie h (λc1 h=>be h λ_ lu h=>ra (azj qB (ahW qB n) n h) [bl c0,aX c1,mh (Ua n lu)]) λc1 h=>ra (azj qB (ahW qB n) n h) [bl c0,aX c1]) λc0 h=>ra (ahW qB n h) [bl c0]
def Hk:Nat->aj->Int->Int->A aj
 |0,_,_,_=>G
 |n+1,p0,ed,iv=>akf (Hk n) n p0 ed iv
def aGe:∀n:Nat,KK Sj yv (Hk n)
 |0=>λ_ _ _ _ h=>nz h
 |n+1=>λ_ _ _ _ h=>ca (X:=x177) (aML (aGe n) n h)
def awc:AV:=.agg (eT em.1 (.ms pW 2 0 em.2.1.length) (.ms mc 2 0 em.2.2.1.length) (.ms pU 13 0 em.2.2.2.length))
def anj:List (Nat×Bx):= [(pW,xO em.2.1),(mc,CP em.2.2.1),(pU,Em em.2.2.2)]
def x144:=fx E0 Tryz.f144 [pW,mc,pU]
def tD:=Ax x144 awc anj
def X4:LS:=⟨[(1,bM b),(2,bM d),aY 3,aY 6,aY 8,(12,.ms mc 2 0 bU.length),(13,bM g),(14,bM o),(20,bM x),(21,bM m)],[(3,ia (eT E (.ms pW 2 0 J.length) (.ms mc 2 0 bU.length) (.ms pU 13 0 au.length))),(6,ia (eT ac .cr .cr .cr)),(8,.flat 121 [tQ Ew bT.length,bM bP.av]),(pW,xO J),(mc,.tree 121 2 YZ (((eD bU)).set dt (qu d1.av)) [(dt*2+0,tQ Ew bT.length)]),(pU,Em au),(Ew,wZ bT)]⟩
def Aq:LS:=⟨[(1,bM b),(2,bM d),aY 3,aY 6,(12,.ms mc 2 0 f7.length),(13,bM g),(14,bM o)],[(3,ia (eT E (.ms pW 2 0 J.length) (.ms mc 2 0 f7.length) (.ms pU 13 0 au.length))),(6,ia (eT ac .cr .cr .cr)),(pW,xO J),(mc,CP f7),(pU,Em au)]⟩
def X3:LS:=⟨[(1,bM b),(2,bM d),aY 3,aY 6,(40,bM g),(41,bM o)],[(3,ia (eT E (.ms pW 2 0 J.length) (.ms mc 2 0 f7.length) (.ms pU 13 0 au.length))),(6,ia (eT ac .cr .cr .cr)),(pW,xO J),(mc,CP f7),(pU,Em au)]⟩
def X2:LS:=⟨[aY 3,aY 6],[(3,ia (eT E (.ms pW 2 0 J.length) (.ms mc 2 0 f7.length) (.ms pU 13 0 au.length))),(6,ia (eT ac .cr .cr .cr)),(pW,xO J),(mc,CP f7),(pU,Em au)]⟩
def X1:LS:=⟨[(1,bM b),(2,bM d),aY 3,aY 6],[(3,ia (eT E (.ms pW 2 0 J.length) (.ms mc 2 0 f7.length) (.ms pU 13 0 au.length))),(6,ia (eT ac .cr .cr .cr)),(pW,xO J),(mc,CP f7),(pU,Em au)]⟩
def amx:LS:=⟨[(0,.agg (eT u (.ms pW 2 0 u.ag.length) (.ms mc 2 0 u.ar.length) (.ms pU 13 0 u.aL.length))),(1,bM m),(2,bM s)],(q22_ pW u mc pU)⟩
def V2 (back:Int->Int->Int->Int->Int->Int->di->bw->ai->ai->bq->aP->bQ->bq->Nat->A (ai×di×bQ×bw)) (n:Nat) (ed iv t13 t14 t20 t21:Int) (eO:di) (eH:bw) (b3 b6:ai) (b8:bq) (xG:aP) (eE:bQ) (wg:bq) (tO:Nat):A (ai×di×bQ×bw):=
 if U (t21<t20) then
 (eh xG.length t21).bind λeW=>(xG[0+eW]?).bind λj8=>(K5 n j8 ed iv).bind λfN=>(eh xG.length t21).bind λgS=>(xG[0+gS]?).bind λlM=>(setAt xG (0+gS) fN).bind λz21=>back ed iv t13 t14 t20 (aV (t21+1)) eO eH (ad1 b3.aM eO b3.aH eE eH) (ad1 b6.aM [] b6.aH [] []) (bq.mk z21 b8.av) z21 eE (bq.mk [] wg.av) tO
 else
 (setAt eE tO (bq.mk xG wg.av)).bind λz2=>dL ed iv t13 t14 eO eH (ad1 b3.aM eO b3.aH z2 eH) (ad1 b6.aM [] b6.aH [] []) z2
def aOi {aB} (aU:KK (tD (aI 485)) Aq aB) {back} (aK:KK (tD (aI 5733)) X4 back) (n:Nat):KK (tD (aI 5733)) X4 (V2 aB back n):=λ_ _ _ _ _ _ eO eH b3 _ b8 xG eE wg tO r h=>ie h (λc0 h=>be h λ_ iF h=>be h λ_ jc h=>be h λfN gU h=>be h λ_ jl h=>be h λ_ j5 h=>be h λ_ zg h=>ra (aK h) [aD c0,(8,de iF),(0,R3.row jc),jj (Ua n gU),(0,de jl),(0,R3.ur 0 [bM fN] j5 zg),(2,.beq 8 (bH (λn_=>(Bx.flat 121 [tQ Ew n_,bM b8.av])) (eG zg))),(0,.beq mc (bH (λn_=>(Bx.tree 121 2 YZ (((eD eE)).set tO (qu wg.av)) [(tO*2+0,tQ Ew n_)])) (eG zg)))]) λc0 h=>be h λ_ nM h=>ra (aU h) [aD c0,(0,fD.iN R3 (r:= (qu wg.av)) mc Ew 0 B 3 1 xG nM),(0,.seq 12 (bH (AV.ms mc 2 0) (eG nM))),(0,.beq 3 (bH (λn_=>((ia (eT b3 (.ms pW 2 0 eO.length) (.ms mc 2 0 n_) (.ms pU 13 0 eH.length))))) (eG nM)))]
def IX (aB:aij):Nat->Int->Int->Int->Int->Int->Int->di->bw->ai->ai->bq->aP->bQ->bq->Nat->A (ai×di×bQ×bw)
 |0=>dw.z
 |n+1=>V2 aB (IX aB n) n
def axO {aB} (aU:KK (tD (aI 485)) Aq aB):∀n:Nat,KK (tD (aI 5733)) X4 (IX aB n)
 |0=>KC.h
 |n+1=>aOi aU (axO aU n) n
def V1 (n:Nat) (ed iv t13 t14:Int) (eO:di) (eH:bw) (b3 b6:ai) (eE:bQ):A (ai×di×bQ×bw):=
 dL ed iv t13 (aV (t14+1)) eO eH (ad1 b3.aM eO b3.aH eE eH) (ad1 b6.aM [] b6.aH [] []) eE
def aOh {bh} (cL:KK (tD [0,1,0,1]) Aq bh) (n:Nat):KK (tD (aI 485)) Aq (V1 bh n):=λ_ _ _ _ _ _ _ _ _ r h=>ra (cL h) []
def V0 (eA:Wf20) (back:aij) (n:Nat) (ed iv t13 t14:Int) (eO:di) (eH:bw) (b3 b6:ai) (eE:bQ):A (ai×di×bQ×bw):=
 if U (t14<t13) then
 (eh eE.length t14).bind λx2=>(eE[0+x2]?).bind λu5=>IX (V1 back n) n ed iv t13 t14 (u5.ag.length:Int) 0 eO eH (ad1 b3.aM eO b3.aH eE eH) (ad1 b6.aM [] b6.aH [] []) u5 u5.ag eE (bq.mk [] u5.av) (0+x2)
 else
 eA ed iv eO eH (ad1 b3.aM eO b3.aH eE eH) (ad1 b6.aM [] b6.aH [] []) eE
def aOg {eA} (gV:KK (tD [1,1]) X1 eA) {back} (aK:KK (tD [0,1,0,1]) Aq back) (n:Nat):KK (tD [0,1,0,1]) Aq (V0 eA back n):=λ_ _ _ _ _ _ _ _ _ r h=>ie h (λc0 h=>be h λ_ dg h=>be h λu5 xr h=>ra (axO (aOh aK n) n h) [aD c0,(0,de dg),(0,fD.oC R3 mc Ew 0 B 3 1 u5.ag xr (qu u5.av)),(0,fD.Cq [0] (qu u5.av) xr)]) λc0 h=>ra (gV h) [aD c0]
def Fi (eA:Wf20):Nat->Int->Int->Int->Int->di->bw->ai->ai->bQ->A (ai×di×bQ×bw)
 |0=>dw.z
 |n+1=>V0 eA (Fi eA n) n
def axN {eA} (gV:KK (tD [1,1]) X1 eA):∀n:Nat,KK (tD [0,1,0,1]) Aq (Fi eA n)
 |0=>KC.h
 |n+1=>aOg gV (axN gV n) n
def VZ (cV:Wf21) (back:aij) (n:Nat) (ed iv t40 t41:Int) (eO:di) (eH:bw) (b3 b6:ai) (eE:bQ):A (ai×di×bQ×bw):=
 if U (t41<t40) then
 (eh eH.length t41).bind λeW=>(eH[0+eW]?).bind λj8=>(Hk n j8 ed iv).bind λfN=>(eh eH.length t41).bind λgS=>(eH[0+gS]?).bind λlM=>(setAt eH (0+gS) fN).bind λz21=>back ed iv t40 (aV (t41+1)) eO z21 (ad1 b3.aM eO b3.aH eE z21) (ad1 b6.aM [] b6.aH [] []) eE
 else
 cV eO eH (ad1 b3.aM eO b3.aH eE eH) (ad1 b6.aM [] b6.aH [] []) eE
def aOf {cV} (eX:KK (tD [1,1,1]) X2 cV) {back} (aK:KK (tD [0,1,0,1,1]) X3 back) (n:Nat):KK (tD [0,1,0,1,1]) X3 (VZ cV back n):=λ_ _ _ _ eO _ b3 _ eE r h=>ie h (λc0 h=>be h λ_ iF h=>be h λ_ jc h=>be h λfN gU h=>be h λ_ jl h=>be h λ_ j5 h=>be h λ_ zg h=>ra (aK h) [aD c0,(8,de iF),(0,fa.row jc),jj (aGe n gU),(0,de jl),(0,fa.ur 0 (fW fN) j5 zg),(2,.beq 3 (bH (λn_=>((ia (eT b3 (.ms pW 2 0 eO.length) (.ms mc 2 0 eE.length) (.ms pU 13 0 n_))))) (eG zg)))]) λc0 h=>ra (eX h) [aD c0]
def IW (cV:Wf21):Nat->Int->Int->Int->Int->di->bw->ai->ai->bQ->A (ai×di×bQ×bw)
 |0=>dw.z
 |n+1=>VZ cV (IW cV n) n
def axM {cV} (eX:KK (tD [1,1,1]) X2 cV):∀n:Nat,KK (tD [0,1,0,1,1]) X3 (IW cV n)
 |0=>KC.h
 |n+1=>aOf eX (axM eX n) n
def akK (n:Nat) (eO:di) (eH:bw) (b3 b6:ai) (eE:bQ):A (ai×di×bQ×bw):=
 V ((ad1 b3.aM eO b3.aH eE eH),eO,eE,eH)
def aOe:KK (tD [1,1,1]) X2 (akK a):=λ_ _ _ _ _ r h=>rr h []
def VY:A (ai×di×bQ×bw):=
 IW (akK a) a b d (au.length:Int) 0 J au (ad1 E.aM J E.aH f7 au) (ad1 ac.aM [] ac.aH [] []) f7
def aOd:KK (tD [1,1]) X1 (VY a):=λ_ _ _ _ _ _ _ r h=>ra (axM (aOe a) a h) []
def akJ:A (ai×di×bQ×bw):=
 Fi (VY a) a m s (u.ar.length:Int) 0 u.ag u.aL u (ad1 vp [] 0 [] []) u.ar
def aOc:KK (tD []) amx (akJ a):=λ_ _ _ r h=>ra (axN (aOd a) a h) []
def aju:=akJ
def aGs:KK (Cx E0 144 awc anj) amx (aju a):=λ_ _ _ _ h=>ca (X:=x144) (aOc a h)
def apx:=fx E0 Tryz.f145 []
def xe:=Ax apx cY bG
def aIx (sF:iH):LS:=⟨[(0,.slice 110 6 ab.length (kr ab)),(1,iI f8),aY 6,(7,iI aq),(8,iI aR),aY 10,(19,.slice 110 6 bf.length (kr bf)),(20,iI a3),(21,iI a4),(30,.loc 6 0),(31,.loc 6 0),(32,iI cn),(33,iI bB),(34,.bool B),(36,.slice 110 6 dE.length (kr dE)),(37,iI dH),(38,iI dJ)],[(6,.flat 110 (B7 ds)),(10,.flat 110 (B7 sF))]⟩
def OO:LS:=⟨[(0,.slice 110 6 ab.length (kr ab)),(1,iI f8),aY 6,(7,iI aq),(8,iI aR),(19,.slice 110 6 bf.length (kr bf)),(20,iI a3),(21,iI a4),(30,.loc 6 0),(31,.loc 6 0),(32,iI cn),(33,iI bB),(34,.bool B),(36,.slice 110 6 dE.length (kr dE)),(37,iI dH),(38,iI dJ)],[(6,.flat 110 (B7 ds))]⟩
def X0:LS:=⟨[(0,.slice 110 6 ab.length (kr ab)),(1,iI f8),(7,iI aq),(8,iI aR),(19,.slice 110 6 bf.length (kr bf)),(20,iI a3),(21,iI a4),(30,.loc 6 0),(31,.loc 6 0),(32,iI cn),(33,iI bB),(34,.bool B)],[(6,.flat 110 (B7 ds))]⟩
def ON:LS:=⟨[(0,.slice 110 6 ab.length (kr ab)),(1,iI f8),(19,.slice 110 6 bf.length (kr bf)),(20,iI a3),(21,iI a4)],[]⟩
def XZ:LS:=⟨[],[]⟩
def amw:LS:=⟨[(0,.slice 110 6 ab.length (kr ab)),(1,iI f8)],[]⟩
def VX (aB:Wf22) (n:Nat) (l0:gq) (iE pd nh:Int) (t19:gq) (t20 t21 t32 t33:Int) (t36:gq) (t37 t38:Int) (b6 sF:iH):A Bool:=
 if ((sF.f1.aE==b6.f0.aE)&&((sF.f1.dj==b6.f0.dj)&&((U (sF.f1.cM=b6.f0.cM))&&M))) then
 aB l0 iE pd (aV (nh+1)) t19 t20 t21 t32 t33 t36 t37 (aV (t38+1)) b6
 else
 aB l0 iE pd nh t19 t20 t21 t32 t33 t36 t37 (aV (t38+1)) b6
def azo {aB} (aU:KK (xe (aI 89291)) OO aB) (n:Nat):KK (xe (aI 15097035)) aIx (VX aB n):=λ_ _ _ _ _ _ _ _ _ _ _ _ _ _ r h=>ie h (λc0 h=>ra (aU h) [bl c0]) λc0 h=>ra (aU h) [bl c0]
def VW (bh:Wf23) (back:Wf22) (n:Nat) (l0:gq) (iE pd nh:Int) (t19:gq) (t20 t21 t32 t33:Int) (t36:gq) (t37 t38:Int) (b6:iH):A Bool:=
 if U (t38<t37) then
 (idx t36 t38).bind λx2=>if ((x2.f0.aE==b6.f0.aE)&&((x2.f0.dj==b6.f0.dj)&&((U (x2.f0.cM=b6.f0.cM))&&M))) then
 VX back n l0 iE (aV (pd+1)) nh t19 t20 t21 t32 t33 t36 t37 t38 b6 x2
 else
 VX back n l0 iE pd nh t19 t20 t21 t32 t33 t36 t37 t38 b6 x2
 else
 bh l0 iE pd nh t19 t20 t21 t32 t33 b6
def aOb {bh} (cL:KK (xe (aI 31947)) X0 bh) {back} (aK:KK (xe (aI 89291)) OO back) (n:Nat):KK (xe (aI 89291)) OO (VW bh back n):=λ_ _ _ _ _ _ _ _ _ _ _ _ _ r h=>ie h (λc0 h=>be h λ_ dg h=>ie h (λc1 h=>ra (azo aK n h) [aD c0,(0,E8.idx dg),il c1]) λc1 h=>ra (azo aK n h) [aD c0,(0,E8.idx dg),il c1]) λc0 h=>ra (cL h) [aD c0]
def IV (bh:Wf23):Nat->gq->Int->Int->Int->gq->Int->Int->Int->Int->gq->Int->Int->iH->A Bool
 |0=>dw.z
 |n+1=>VW bh (IV bh n) n
def axL {bh} (cL:KK (xe (aI 31947)) X0 bh):∀n:Nat,KK (xe (aI 89291)) OO (IV bh n)
 |0=>KC.h
 |n+1=>aOb cL (axL cL n) n
def VV (n:Nat) (l0:gq) (iE pd nh:Int) (t19:gq) (t20 t21 t32 t33:Int) (b6:iH):A Bool:=
 if pd !=1 then
 V B
 else
 if nh !=1 then
 V B
 else
 dT l0 iE t19 t20 (aV (t21+1))
def aOa {br} (cO:KK (xe [0,1,0,1,1]) ON br) (n:Nat):KK (xe (aI 31947)) X0 (VV br n):=λ_ _ _ _ _ _ _ _ _ _ r h=>ie h (λc0 h=>rr h [aW c0]) λc0 h=>ie h (λc1 h=>rr h [aW c0,aQ c1]) λc1 h=>ra (cO h) [aW c0,aQ c1]
def VU (l0:gq) (iE:Int) (t19:gq) (t20 t21:Int):A Bool:=
 if U (t21<t20) then
 (idx t19 t21).bind λx2=>(Sf dU x2.f0).bind λx9=>if !x9 then
 V B
 else
 if x2.f0.aE !=iE then
 V B
 else
 IV (VV dT dU) dU l0 iE 0 0 t19 t20 t21 x2.f0.aE iE l0 (l0.length:Int) 0 x2
 else
 K
def aNZ {cV} (eX:KK (xe [1,1,1]) XZ cV) {back} (aK:KK (xe [0,1,0,1,1]) ON back) (n:Nat):KK (xe [0,1,0,1,1]) ON (VU cV back n):=λ_ _ _ _ _ r h=>ie h (λc0 h=>be h λ_ dg h=>be h λ_ iq h=>let zA:SE:=[aD c0,(0,E8.idx dg),mh (abQ n iq)];ie h (λc1 h=>bu h zA [aD c1]) λc1 h=>ie h (λc2 h=>bu h zA [aD c1,bS c2]) λc2 h=>cC (axL (aOa aK n) n h) zA [aD c1,bS c2]) λc0 h=>ra (eX h) [aD c0]
def Fh (cV:A Bool):Nat->gq->Int->gq->Int->Int->A Bool
 |0=>dw.z
 |n+1=>VU cV (Fh cV n) n
def axK {cV} (eX:KK (xe [1,1,1]) XZ cV):∀n:Nat,KK (xe [0,1,0,1,1]) ON (Fh cV n)
 |0=>KC.h
 |n+1=>aNZ eX (axK eX n) n
def N3 (n:Nat):A Bool:=
 V M
def aNY:KK (xe [1,1,1]) XZ (N3 a):=λr h=>rr h []
def akI:A Bool:=
 if U ((ab.length:Int)<1) then
 V B
 else
 if U (16<(ab.length:Int)) then
 V B
 else
 Fh (N3 a) a ab f8 ab (ab.length:Int) 0
def aNX:KK (xe []) amw (akI a):=λ_ _ r h=>ie h (λc0 h=>rr h [aX c0]) λc0 h=>ie h (λc1 h=>rr h [aX c0,aX c1]) λc1 h=>ra (axK (aNY a) a h) [aX c0,aX c1]
def atq:=akI
def aSd:KK (Cx E0 145 cY bG) amw (atq a):=λ_ _ _ h=>ca (X:=apx) (aNX a h)
def abr (r:(ae×Bool)):AV:=.dq [.agg (cG r.1),.bool r.2]
def x95:=fx E0 Tryz.f95 []
def qg:=Ax x95 abr bG
def aer:LS:=⟨[aY 2,aY 3,aY 4,aY 6,(28,.slice 44 5 t.length (dG t)),(29,iI o),(30,iI x)],[(2,ij (cG w)),(3,vd (nU ao)),(4,AB bm),(6,td bv cg a6.length),(cg,zZ a6)]⟩
def aeq:LS:=⟨[aY 3,aY 4,aY 6,(9,.el cg 5 a 0),(12,.ms 231 2 0 J.length),(235,.ms jL 2 0 N.length),(236,bM b),(237,bM d)],[(3,vd (nU C)),(4,AB w),(6,td R cg ax.length),(231,xO J),(cg,YY (((dG ax)).set a (bX ap)) (a*5+1) jL N.length),(jL,xO N)]⟩
def aep:LS:=⟨[aY 3,aY 4,aY 6,(9,.el cg 5 a 0),(12,.ms 231 2 0 J.length)],[(3,vd (nU C)),(4,AB w),(6,td R cg I.length),(231,xO J),(cg,zZ I)]⟩
def aeo:LS:=⟨[aY 2,aY 3,aY 4,aY 6,(15,.ms 500340 5 0 cs.length),aY 17,(298,.ms 520061 5 0 cI.length),(299,bM b),(300,bM d),(311,bM g),(312,bM o)],[(2,ij (cG w)),(3,vd (nU ao)),(4,AB bm),(6,td bv 520061 cI.length),(17,ia (eT co (.ms 1000611 2 0 cp.length) (.ms 1000613 2 0 dh.length) (.ms 1000614 13 0 cq.length))),(500340,zZ cs),(520061,GY (((gone ow cj (dG cI))).set ce (cP cc)) (ce*5+4) 1000614 cq.length (ce*5+3) 1000613 dh.length (ce*5+1) 1000611 cp.length),(1000611,xO cp),(1000613,CP dh),(1000614,Em cq)]⟩
def aen:LS:=⟨[aY 2,aY 3,aY 4,aY 6,(15,.ms 500340 5 0 a6.length),aY 17,(298,.ms 520061 5 0 cs.length),(299,bM b),(300,bM d)],[(2,ij (cG i)),(3,vd (nU C)),(4,AB w),(6,td R 520061 cs.length),(17,ia (eT T (.ms 1000611 2 0 N.length) (.ms 1000613 2 0 dh.length) (.ms 1000614 13 0 O.length))),(500340,zZ a6),(520061,GY (((gone ow cE (dG cs))).set bN (cP bK)) (bN*5+4) 1000614 O.length (bN*5+3) 1000613 dh.length (bN*5+1) 1000611 N.length),(1000611,xO N),(1000613,CP dh),(1000614,Em O)]⟩
def avd:LS:=⟨[aY 2,aY 3,aY 4,aY 6,(15,.ms 500340 5 0 I.length),(298,.ms 520061 5 0 ax.length),(299,bM b),(300,bM d)],[(2,ij (cG i)),(3,vd (nU C)),(4,AB w),(6,td R 520061 ax.length),(500340,zZ I),(520061,.tree 44 5 ow (gone ow al (dG ax)) [])]⟩
def SR:LS:=⟨[aY 2,aY 3,aY 4,aY 6,(15,.ms 500340 5 0 I.length),(298,.ms 520061 5 0 ax.length),(299,bM b),(300,bM d)],[(2,ij (cG i)),(3,vd (nU C)),(4,AB w),(6,td R 520061 ax.length),(500340,zZ I),(520061,.tree 44 5 ow (gone ow al (dG ax)) [])]⟩
def aem:LS:=⟨[aY 4,aY 6,(15,.ms 500340 5 0 I.length)],[(4,AB i),(6,td w 520061 ax.length),(500340,zZ I),(520061,.tree 44 5 ow (gone ow al (dG ax)) [])]⟩
def ael:LS:=⟨[aY 4,aY 6],[(4,AB i),(6,td w pK I.length),(pK,zZ I)]⟩
def aKy:LS:=⟨[aY 2,aY 3,aY 4,aY 6,(9,.el cg 5 a 0),(10,bM b),(11,.bool L)],[(2,ij (cG ge)),(3,vd (nU ao)),(4,AB bm),(6,td bv cg a6.length),(cg,zZ a6)]⟩
def Xd:LS:=⟨[aY 2,aY 3,aY 4,aY 6],[(2,ij (cG i)),(3,vd (nU C)),(4,AB w),(6,td R cg I.length),(cg,zZ I)]⟩
def OE:LS:=⟨(GV (cG i) (nU C)),[]⟩
def acp (G2:Wf25) (back:bD->Int->Int->ae->aG->ae->ae->bD->A (ae×Bool)) (n:Nat) (t28:bD) (t29 t30:Int) (b2:ae) (b3:aG) (b4 b6:ae) (bW:bD):A (ae×Bool):=
 if U (t30<t29) then
 (idx t28 t30).bind λx2=>(ajw n x2).bind λeW=>(app bW [eW]).bind λdB=>(setAt dB bW.length eW).bind λxh=>back t28 t29 (aV (t30+1)) b2 b3 (ad0 b4.aA []) (ad0 b6.aA xh) xh
 else
 G2 b2 b3 (ad0 b4.aA []) (ad0 b6.aA bW) bW
def aSN {G2} (abL:KK (qg [1,1,1,1]) Xd G2) {back} (aK:KK (qg (aI 87)) aer back) (n:Nat):KK (qg (aI 87)) aer (acp G2 back n):=λ_ _ _ _ _ _ b6 bW r h=>ie h (λc0 h=>be h λ_ dg h=>be h λeW iF h=>be h λ_ fG h=>be h λ_ oP h=>ra (aK h) [aD c0,(0,cy.idx dg),(6,.call (aGu n iF) [] [(330370001,uA),(330370003,201003),(330370004,201004)]),(1,cy.L5 fG),(2,.beq cg (bH (λq_=>Bx.tree 44 5 ow q_ (aqo (bW.length*5+1) 330370001 eW (bW.length*5+3) 330370003 (bW.length*5+4) 330370004)) (cy.apS (r:= (cP eW)) fG))),(0,cy.kF fk (r:= (cP eW)) cg 330370001 1 B 73 2 eW.ag oP (tH eW)),(0,cy.kF fD (r:= (tH eW)) cg 330370003 3 B 121 2 eW.ar oP (nI eW)),(0,cy.iN fa (r:= (nI eW)) cg 330370004 4 B 107 13 eW.aL oP),(2,.beq 6 (bH (td b6 cg) (((cy.apL fG).trans (eG oP)))))]) λc0 h=>ra (abL h) [aD c0]
def PM (G2:Wf25):Nat->bD->Int->Int->ae->aG->ae->ae->bD->A (ae×Bool)
 |0=>dw.z
 |n+1=>acp G2 (PM G2 n) n
def aEJ {G2} (abL:KK (qg [1,1,1,1]) Xd G2):∀n:Nat,KK (qg (aI 87)) aer (PM G2 n)
 |0=>KC.h
 |n+1=>aSN abL (aEJ abL n) n
def aco (bh:Wf26) (back:Nat->Int->Int->aG->ae->ae->di->di->bD->ai->A (ae×Bool)) (n:Nat) (mY:Nat) (t236 t237:Int) (b3:aG) (b4 b6:ae) (CI ke:di) (bW:bD) (fL:ai):A (ae×Bool):=
 if U (t237<t236) then
 (eh ke.length t237).bind λx3=>(ke[0+x3]?).bind λx5=>(K5 n t237 b3.ba b3.kM).bind λfN=>(eh CI.length fN).bind λlg=>(CI[0+lg]?).bind λmX=>(setAt CI (0+lg) x5).bind λz22=>back mY t236 (aV (t237+1)) b3 (ad0 b4.aA []) (ad0 b6.aA bW) z22 ke bW (ad1 fL.aM [] fL.aH fL.ar fL.aL)
 else
 (setAt bW mY (ad1 fL.aM ke fL.aH fL.ar fL.aL)).bind λz2=>bh mY b3 (ad0 b4.aA []) (ad0 b6.aA z2) CI z2
def aSM {bh} (cL:KK (qg (aI 4060671)) aep bh) {back} (aK:KK (qg (aI 11400703)) aeq back) (n:Nat):KK (qg (aI 11400703)) aeq (aco bh back n):=λ_ _ _ _ _ b6 _ ke _ fL r h=>ie h (λc0 h=>be h λ_ eP h=>be h λx5 iw h=>be h λ_ gU h=>be h λ_ nu h=>be h λ_ py h=>be h λ_ xU h=>ra (aK h) [aD c0,(1,de eP),(0,fk.row iw),(3,.ord [0,1,2,3,4,5,7,6,8,9]),vt (Ua n gU),(0,de nu),(0,fk.ur 0 (Ks x5) py xU),(2,.seq 12 (bH (AV.ms 231 2 0) (eG xU)))]) λc0 h=>be h λ_ nM h=>ra (cL h) [aD c0,(0,cy.iN fk (r:= (bX fL)) cg jL 1 B 73 2 ke nM),(0,.beq 6 (bH (td b6 cg) (eG nM)))]
def PL (bh:Wf26):Nat->Nat->Int->Int->aG->ae->ae->di->di->bD->ai->A (ae×Bool)
 |0=>dw.z
 |n+1=>aco bh (PL bh n) n
def aEI {bh} (cL:KK (qg (aI 4060671)) aep bh):∀n:Nat,KK (qg (aI 11400703)) aeq (PL bh n)
 |0=>KC.h
 |n+1=>aSM cL (aEI cL n) n
def Qp (b3:aG) (b4 b6:ae) (CI:di) (bW:bD):A (ae×Bool):=
 (bW[dU]?).bind λu5=>(aju dS (ad1 u5.aM CI u5.aH u5.ar u5.aL) b3.ba b3.kM).bind λga=>(setAt bW dU (ad1 ga.1.aM ga.2.1 ga.1.aH ga.2.2.1 ga.2.2.2)).bind λz19=>dR (ad0 b4.aA []) (ad0 b6.aA z19) z19
def aSL {yD} (MR:KK (qg (aI 2047)) ael yD) (n:Nat):KK (qg (aI 4060671)) aep (Qp yD n):=λ_ _ _ b6 _ _ r h=>be h λu5 xr h=>be h λga lu h=>be h λ_ J9 h=>ra (MR h) [(4,cy.holF 1 (bX u5) xr),(0,cy.xC fD (r:= (bX u5)) cg mS 3 B 121 2 u5.ar xr (eR u5)),(0,cy.xC fa (r:= (eR u5)) cg mR 4 B 107 13 u5.aL xr (cP u5)),(3,cy.Cq [4,3,1] (cP u5) xr),(4,.call (aGs n lu) [(231,pW),(mS,mc),(mR,pU)] []),(1,cy.hrwS (cP u5) (cP ga.1) xr),(0,cy.kF fk (r:= (cP ga.1)) cg 231 1 B 73 2 ga.2.1 J9 (ym ga.1 (.slice 73 2 ga.2.1.length (eK ga.2.1)))),(0,cy.kF fD (r:= (ym ga.1 (.slice 73 2 ga.2.1.length (eK ga.2.1)))) cg mS 3 B 121 2 ga.2.2.1 J9 (yn ga.1 (.slice 73 2 ga.2.1.length (eK ga.2.1)) (.slice 121 2 ga.2.2.1.length (eD ga.2.2.1)))),(0,cy.iN fa (r:= (yn ga.1 (.slice 73 2 ga.2.1.length (eK ga.2.1)) (.slice 121 2 ga.2.2.1.length (eD ga.2.2.1)))) cg mR 4 B 107 13 ga.2.2.2 J9),(0,.ja cg pK),(0,.beq 6 (bH (td b6 pK) (eG J9)))]
def UK (cV:Wf28) (back:Int->Int->Int->Int->ae->aG->ae->ae->ai->di->bw->bD->bD->ai->Nat->Nat->bQ->A (ae×Bool)) (n:Nat) (t299 t300 t311 Q6:Int) (b2:ae) (b3:aG) (b4 b6:ae) (rb:ai) (ke:di) (su:bw) (lQ bW:bD) (fL:ai) (jm gY:Nat) (ot:bQ):A (ae×Bool):=
 if U (Q6<t311) then
 (eh ot.length Q6).bind λx7=>(ot[0+x7]?).bind λeW=>if eW.av==b3.av then
 (iP jm gY).bind λw14=>(setAt bW jm (ad1 fL.aM [] fL.aH [] [])).bind λz15=>V (b2,B)
 else
 (eh ot.length Q6).bind λmX=>(ot[0+mX]?).bind λLR=>(K5 n LR.av b3.av (-1)).bind λqb=>(eh ot.length Q6).bind λlY=>(ot[0+lY]?).bind λu33=>(setAt ot (0+lY) (bq.mk u33.ag qb)).bind λz35=>back t299 t300 t311 (aV (Q6+1)) b2 b3 (ad0 b4.aA []) (ad0 b6.aA bW) (ad1 rb.aM ke rb.aH z35 su) ke su lQ bW (ad1 fL.aM [] fL.aH [] []) jm gY z35
 else
 cV t299 t300 b2 b3 (ad0 b4.aA []) (ad0 b6.aA bW) (ad1 rb.aM ke rb.aH ot su) ke su lQ bW (ad1 fL.aM [] fL.aH [] []) jm gY ot
def aSK {cV} (eX:KK (qg (aI 130551903743)) aen cV) {back} (aK:KK (qg (aI 371070072319)) aeo back) (n:Nat):KK (qg (aI 371070072319)) aeo (UK cV back n):=λ_ _ _ _ _ _ _ _ rb ke su _ bW fL jm gY _ r h=>ie h (λc0 h=>be h λ_ iQ h=>be h λ_ iF h=>let zA:SE:=[aD c0,(5,de iQ),(1,fD.row iF)];ie h (λc1 h=>be h λ_ ahj h=>be h λ_ EB h=>bu h zA [aQ c1,(0,.nQ cg (.tree 44 5 ow [] [])),(0,.beq cg (bH (λq_=>Bx.tree 44 5 ow q_ []) (cy.arn (l:= ow) (r:= (cP fL)) ahj EB)))]) λc1 h=>be h λ_ py h=>be h λ_ EC h=>be h λqb tn h=>be h λ_ tX h=>be h λ_ hu33 h=>be h λ_ aBE h=>cC (aK h) zA [aQ c1,(6,de py),(1,fD.row EC),jj (Ua n tn),(0,de tX),(1,fD.ur 1 [bM qb] hu33 aBE),(2,.beq 17 (bH (λn_=>((ia (eT rb (.ms jL 2 0 ke.length) (.ms mS 2 0 n_) (.ms mR 13 0 su.length))))) (eG aBE))),(0,.beq cg (bH (λn_=>((GY (((gone ow gY (dG bW))).set jm (cP fL)) (jm*5+4) mR su.length (jm*5+3) mS n_ (jm*5+1) jL ke.length))) (eG aBE)))]) λc0 h=>ra (eX h) [aD c0]
def KN (cV:Wf28):Nat->Int->Int->Int->Int->ae->aG->ae->ae->ai->di->bw->bD->bD->ai->Nat->Nat->bQ->A (ae×Bool)
 |0=>dw.z
 |n+1=>UK cV (KN cV n) n
def aEH {cV} (eX:KK (qg (aI 130551903743)) aen cV):∀n:Nat,KK (qg (aI 371070072319)) aeo (KN cV n)
 |0=>KC.h
 |n+1=>aSK eX (aEH eX n) n
def acn (n:Nat) (t299 t300:Int) (b2:ae) (b3:aG) (b4 b6:ae) (rb:ai) (ke:di) (su:bw) (lQ bW:bD) (fL:ai) (jm gY:Nat) (ot:bQ):A (ae×Bool):=
 (app lQ [(ad1 rb.aM ke rb.aH ot su)]).bind λx4=>(setAt x4 lQ.length (ad1 rb.aM ke rb.aH ot su)).bind λz7=>(iP jm gY).bind λw8=>(setAt bW jm (ad1 fL.aM [] fL.aH [] [])).bind λz9=>eg t299 t300 b2 b3 (ad0 b4.aA []) (ad0 b6.aA z9) z7 z9 (gY+1)
def aSJ {eA} (gV:KK (qg (aI 8145335807)) avd eA) (n:Nat):KK (qg (aI 130551903743)) aen (acn eA n):=λ_ _ _ _ _ b6 rb ke su lQ _ fL _ _ ot r h=>be h λ_ iB h=>be h λ_ hz7 h=>be h λ_ hw8 h=>be h λ_ hz9 h=>ra (gV h) [(3,cy.L5 iB),(0,.beq 500340 (bH (λq_=>Bx.tree 44 5 ow q_ [(lQ.length*5+1,.ms jL 2 0 ke.length),(lQ.length*5+3,.ms mS 2 0 ot.length),(lQ.length*5+4,.ms mR 13 0 su.length)]) (cy.apS (r:= (cP rb)) iB))),(1,cy.kF fk (r:= (cP rb)) 500340 jL 1 B 73 2 ke hz7 (ym rb (.slice 73 2 ke.length (eK ke)))),(0,cy.kF fD (r:= (ym rb (.slice 73 2 ke.length (eK ke)))) 500340 mS 3 B 121 2 ot hz7 (yn rb (.slice 73 2 ke.length (eK ke)) (.slice 121 2 ot.length (eD ot)))),(0,cy.iN fa (r:= (yn rb (.slice 73 2 ke.length (eK ke)) (.slice 121 2 ot.length (eD ot)))) 500340 mR 4 B 107 13 su hz7),(0,.nQ cg (.tree 44 5 ow [] [])),(0,.beq cg (bH (λq_=>Bx.tree 44 5 ow q_ []) (cy.arn (l:= ow) (r:= (cP fL)) hw8 hz9))),(0,.seq 15 (bH (AV.ms 500340 5 0) (((cy.apL iB).trans (eG hz7))))),(0,.seq 298 (bH (AV.ms cg 5 0) (eG hz9))),(0,.beq 6 (bH (td b6 cg) (eG hz9)))]
def Qo (n:Nat) (t299 t300:Int) (b2:ae) (b3:aG) (b4 b6:ae) (lQ bW:bD) (gY:Nat):A (ae×Bool):=
 eg t299 (aV (t300+1)) b2 b3 (ad0 b4.aA []) (ad0 b6.aA bW) lQ bW gY
def aGQ {ju} (oS:KK (qg (aI 360707583)) SR ju) (n:Nat):KK (qg (aI 8145335807)) avd (Qo ju n):=λ_ _ _ _ _ _ _ _ _ r h=>ra (oS h) []
def UJ (l6:Wf30) (back:aDn) (n:Nat) (t299 t300:Int) (b2:ae) (b3:aG) (b4 b6:ae) (lQ bW:bD) (gY:Nat):A (ae×Bool):=
 if U (t300<t299) then
 (eh bW.length t300).bind λx3=>(bW[0+x3]?).bind λu6=>(iP (0+x3) gY).bind λw7=>if t300==b3.av then
 (setAt bW (0+x3) (ad1 u6.aM [] u6.aH [] [])).bind λz15=>Qo back n t299 t300 b2 b3 (ad0 b4.aA []) (ad0 b6.aA z15) lQ z15 (gY+1)
 else
 KN (acn (Qo back n) n) n t299 t300 (u6.ar.length:Int) 0 b2 b3 (ad0 b4.aA []) (ad0 b6.aA bW) u6 u6.ag u6.aL lQ bW (ad1 u6.aM [] u6.aH [] []) (0+x3) gY u6.ar
 else
 l6 (ad0 b4.aA []) (ad0 b6.aA bW) lQ bW gY
def aSI {l6} (ua:KK (qg (aI 125826559)) aem l6) {back} (aK:KK (qg (aI 360707583)) SR back) (n:Nat):KK (qg (aI 360707583)) SR (UJ l6 back n):=λ_ _ _ _ _ b6 _ _ _ r h=>ie h (λc0 h=>be h λ_ eP h=>be h λu6 BQ h=>be h λ_ hw7 h=>let zA:SE:=[aD c0,(1,de eP),(0,cy.aKt fk ow hw7 cg jL 1 B 73 2 u6.ag BQ (bX u6)),(0,cy.auU fD ow hw7 (bX u6) cg mS 3 B 121 2 u6.ar BQ (eR u6)),(0,cy.auU fa ow hw7 (eR u6) cg mR 4 B 107 13 u6.aL BQ (cP u6)),(0,cy.aQD ow hw7 [4,3,1] (cP u6) BQ)];ie h (λc1 h=>be h λ_ EB h=>cC (aGQ aK n h) zA [dm c1,(0,.nQ cg (.tree 44 5 ow [] [])),(0,.beq cg (bH (λq_=>Bx.tree 44 5 ow q_ []) (cy.arn (l:= ow) (r:= (cP u6)) hw7 EB))),(0,.seq 298 (bH (AV.ms cg 5 0) (eG EB))),(0,.beq 6 (bH (td b6 cg) (eG EB)))]) λc1 h=>cC (aEH (aSJ (aGQ aK n) n) n h) zA [dm c1]) λc0 h=>ra (ua h) [aD c0]
def Gx (l6:Wf30):Nat->Int->Int->ae->aG->ae->ae->bD->bD->Nat->A (ae×Bool)
 |0=>dw.z
 |n+1=>UJ l6 (Gx l6 n) n
def aEG {l6} (ua:KK (qg (aI 125826559)) aem l6):∀n:Nat,KK (qg (aI 360707583)) SR (Gx l6 n)
 |0=>KC.h
 |n+1=>aSI ua (aEG ua n) n
def Qn (n:Nat) (b4 b6:ae) (lQ bW:bD) (gY:Nat):A (ae×Bool):=
 dR (ad0 b4.aA []) (ad0 b6.aA lQ) lQ
def aSH {yD} (MR:KK (qg (aI 2047)) ael yD) (n:Nat):KK (qg (aI 125826559)) aem (Qn yD n):=λ_ _ _ _ _ r h=>ra (MR h) [(3,.ja 500340 pK)]
def nE (b4 b6:ae) (R1:bD):A (ae×Bool):=
 (F94 a (ad0 b6.aA R1)).bind λx3=>V ((ad0 b6.aA R1),x3==0)
def KD:KK (qg (aI 2047)) ael (nE a):=λ_ _ R1 r h=>be h λ_ eP h=>rr h [(0,cy.tfr B pK R1),jj (aCv a eP)]
def wT (bW:bD):A (ae×Bool):=
 if a9.bg==1 then
 (Sf a a9.bk).bind λx7=>if !x7 then
 V (bv,B)
 else
 if a9.bk.aE !=a9.aE then
 V (bv,B)
 else
 (bW[al]?).bind λBD=>(app BD.ag [(cF.mk a9.aM a9.aE)]).bind λvj=>(setAt bW al (ad1 BD.aM vj BD.aH BD.ar BD.aL)).bind λz36=>nE a (ad0 dl.aA []) (ad0 d6.aA z36) z36
 else
 if a9.bg==2 then
 (bW[al]?).bind λu7=>if !bs then
 (setAt bW al u7).bind λxh=>V (bv,B)
 else
 (Sf a a9.bk).bind λiK=>if !iK then
 (setAt bW al u7).bind λz22=>V (bv,B)
 else
 (eh u7.ag.length a9.ba).bind λqb=>(u7.ag[0+qb]?).bind λvj=>if a9.bk.aE !=vj.aE then
 (setAt bW al u7).bind λz37=>V (bv,B)
 else
 (ajv a u7 a9.ba).bind λCM=>if CM then
 (setAt bW al u7).bind λvh=>V (bv,B)
 else
 (setAt bW al u7).bind λvh=>(vh[al]?).bind λvm=>(so vm.ag.length a9.ba).bind λx55=>(EY vm.ag.length (aV (a9.ba+1))).bind λx64=>(KG vm.ag x55 ((vm.ag.drop (0+x64)).take (vm.ag.length-x64))).bind λx66=>(aju a (ad1 vm.aM x66 vm.aH vm.ar vm.aL) a9.ba (-1)).bind λoX=>(setAt vh al (ad1 oX.1.aM oX.2.1 oX.1.aH oX.2.2.1 oX.2.2.2)).bind λz81=>nE a (ad0 dl.aA []) (ad0 d6.aA z81) z81
 else
 if a9.bg==3 then
 if !bs then
 V (bv,B)
 else
 (bW[al]?).bind λiZ=>if U (a9.kM<iZ.aH) then
 V (bv,B)
 else
 if !U (a9.kM<W) then
 V (bv,B)
 else
 (rh W ((cF.mk vp 0):cF)).bind λqb=>(bW[al]?).bind λu35=>PL (Qp (nE a) a) a al (u35.ag.length:Int) 0 a9 (ad0 dl.aA []) (ad0 d6.aA bW) qb u35.ag bW (ad1 u35.aM [] u35.aH u35.ar u35.aL)
 else
 if a9.bg==4 then
 if U (a9.ba<0) then
 V (bv,B)
 else
 if !U (a9.ba<W) then
 V (bv,B)
 else
 (bW[al]?).bind λLr=>(eh Lr.ag.length a9.ba).bind λlY=>(Lr.ag[0+lY]?).bind λkQ=>(setAt Lr.ag (0+lY) (cF.mk a9.aM kQ.aE)).bind λz34=>(setAt bW al (ad1 Lr.aM z34 Lr.aH Lr.ar Lr.aL)).bind λz36=>nE a (ad0 dl.aA []) (ad0 d6.aA z36) z36
 else
 if a9.bg==5 then
 (bW[al]?).bind λBD=>(setAt bW al (ad1 a9.aM BD.ag BD.aH BD.ar BD.aL)).bind λz20=>nE a (ad0 dl.aA []) (ad0 d6.aA z20) z20
 else
 if a9.bg==7 then
 Gx (Qn (nE a) a) a (bW.length:Int) 0 bv a9 (ad0 dl.aA []) (ad0 d6.aA bW) [] bW 0
 else
 (bW[al]?).bind λkj=>if !bs then
 (setAt bW al kj).bind λz23=>V (bv,B)
 else
 (eh kj.ag.length a9.ba).bind λqb=>(kj.ag[0+qb]?).bind λvj=>(atq a a9.cA vj.aE).bind λkQ=>if !kQ then
 (setAt bW al kj).bind λz39=>V (bv,B)
 else
 (ajv a kj a9.ba).bind λx43=>if x43 then
 (setAt bW al kj).bind λz46=>V (bv,B)
 else
 (setAt bW al kj).bind λz46=>nE a (ad0 dl.aA []) (ad0 d6.aA z46) z46
def aGP:KK (qg (aI 1023)) aKy (wT a):=λmY _ _ _ b3 _ b6 bW r h=>ie h (λc0 h=>be h λ_ iQ h=>let zA:SE:=[aQ c0,ky (abQ a iQ)];ie h (λc1 h=>bu h zA [aD c1]) λc1 h=>ie h (λc2 h=>bu h zA [aD c1,dm c2]) λc2 h=>be h λBD aqY h=>be h λvj tW h=>be h λz36 ahe h=>cC (KD a h) zA [aD c1,dm c2,(1,cy.oC fk cg jL 1 B 73 2 BD.ag aqY (bX BD)),(11,fk.jU tW),(2,cy.zi 1 (bX BD) (bX BD) aqY),(0,cy.iN fk (r:= (bX BD)) cg jL 1 B 73 2 vj ahe),(0,.ja cg pK),(0,.beq 6 (bH (td b6 pK) (eG ahe)))]) λc0 h=>let zA:SE:=[aQ c0];ie h (λc1 h=>be h λu7 MO h=>let zB:SE:=dv zA [aW c1,(1,cy.oC fk cg jL 1 B 73 2 u7.ag MO (bX u7)),(0,cy.xC fD (r:= (bX u7)) cg mS 3 B 121 2 u7.ar MO (eR u7)),(0,cy.xC fa (r:= (eR u7)) cg mR 4 B 107 13 u7.aL MO (cP u7))];ie h (λc2 h=>be h λ_ oP h=>bu h zB [aW c2,(6,cy.kF fa (r:= (cP u7)) cg mR 4 B 107 13 u7.aL oP (eR u7)),(0,cy.kF fD (r:= (eR u7)) cg mS 3 B 121 2 u7.ar oP (bX u7)),(0,cy.iN fk (r:= (bX u7)) cg jL 1 B 73 2 u7.ag oP)]) λc2 h=>be h λ_ iO h=>let zC:SE:=dv zB [aW c2,ky (abQ a iO)];ie h (λc3 h=>be h λ_ xU h=>bu h zC [aD c3,(5,cy.kF fa (r:= (cP u7)) cg mR 4 B 107 13 u7.aL xU (eR u7)),(0,cy.kF fD (r:= (eR u7)) cg mS 3 B 121 2 u7.ar xU (bX u7)),(0,cy.iN fk (r:= (bX u7)) cg jL 1 B 73 2 u7.ag xU)]) λc3 h=>be h λqb tn h=>be h λvj tW h=>let zD:SE:=dv zC [aD c3,(8,cy.Cq [4,3,1] (cP u7) MO),(2,de tn),(1,fk.row tW)];ie h (λc4 h=>be h λ_ aBD h=>bu h zD [aD c4,(3,cy.kF fa (r:= (cP u7)) cg mR 4 B 107 13 u7.aL aBD (eR u7)),(0,cy.kF fD (r:= (eR u7)) cg mS 3 B 121 2 u7.ar aBD (bX u7)),(0,cy.iN fk (r:= (bX u7)) cg jL 1 B 73 2 u7.ag aBD)]) λc4 h=>be h λ_ Ka h=>let zE:SE:=dv zD [aD c4,(4,cy.Cq [4,3,1] (cP u7) MO),(2,.zw (aGt a Ka) [fk.eB jL u7.ag,fD.tfr B mS u7.ar,fa.eB mR u7.aL] trivial [] [])];ie h (λc5 bE=>by subst c5;exact (be bE λvh pZ bE=>bu bE zE [(1,cy.kF fa (r:= (cP u7)) cg mR 4 B 107 13 u7.aL pZ (eR u7)),(0,cy.kF fD (r:= (eR u7)) cg mS 3 B 121 2 u7.ar pZ (bX u7)),(0,cy.iN fk (r:= (bX u7)) cg jL 1 B 73 2 u7.ag pZ)])) λc5 bE=>by subst c5;exact (be bE λvh pZ bE=>be bE λvm Zi bE=>be bE λx55 aBO bE=>be bE λx64 aqV bE=>be bE λx66 aBI bE=>be bE λoX aBH bE=>be bE λz81 aqS bE=>cC (KD a bE) zE [(1,cy.kF fa (r:= (cP u7)) cg mR 4 B 107 13 u7.aL pZ (eR u7)),(0,cy.kF fD (r:= (eR u7)) cg mS 3 B 121 2 u7.ar pZ (bX u7)),(0,cy.iN fk (r:= (bX u7)) cg jL 1 B 73 2 u7.ag pZ),(0,cy.oC fk cg jL 1 B 73 2 vm.ag Zi (bX vm)),(7,fk.so (xs:=vm.ag) aBO (tP rfl)),(7,fk.EY (xs:=vm.ag) aqV (tP rfl)),(0,fk.appB aBI (aJx aqV (tP rfl))),(2,cy.zi 1 (bX vm) (bX vm) Zi),(0,cy.xC fD (r:= (bX vm)) cg mS 3 B 121 2 vm.ar Zi (eR vm)),(0,cy.xC fa (r:= (eR vm)) cg mR 4 B 107 13 vm.aL Zi (cP vm)),(3,cy.Cq [4,3,1] (cP vm) Zi),(2,.call (aGs a aBH) [(jL,pW),(mS,mc),(mR,pU)] []),(1,cy.hrwS (cP vm) (cP oX.1) Zi),(0,cy.kF fk (r:= (cP oX.1)) cg jL 1 B 73 2 oX.2.1 aqS (ym oX.1 (.slice 73 2 oX.2.1.length (eK oX.2.1)))),(0,cy.kF fD (r:= (ym oX.1 (.slice 73 2 oX.2.1.length (eK oX.2.1)))) cg mS 3 B 121 2 oX.2.2.1 aqS (yn oX.1 (.slice 73 2 oX.2.1.length (eK oX.2.1)) (.slice 121 2 oX.2.2.1.length (eD oX.2.2.1)))),(0,cy.iN fa (r:= (yn oX.1 (.slice 73 2 oX.2.1.length (eK oX.2.1)) (.slice 121 2 oX.2.2.1.length (eD oX.2.2.1)))) cg mR 4 B 107 13 oX.2.2.2 aqS),(0,.ja cg pK),(0,.beq 6 (bH (td b6 pK) (((mH aqS).trans (mH pZ)).symm)))])) λc1 h=>let zB:SE:=dv zA [aW c1];ie h (λc2 h=>let zC:SE:=dv zB [aW c2];ie h (λc3 h=>bu h zC [aQ c3]) λc3 h=>be h λ_ iW h=>let zD:SE:=dv zC [aQ c3,(6,cy.row iW)];ie h (λc4 h=>bu h zD [aD c4]) λc4 h=>ie h (λc5 h=>bu h zD [aD c4,bS c5]) λc5 h=>be h λqb tn h=>be h λu35 hu35 h=>cC (aEI (aSL (KD a) a) a h) zD [aD c4,bS c5,(2,fk.made tn),(0,.seq 231 (bH (AV.ms 231 2 0) ((JK tn)))),(4,cy.oC fk cg jL 1 B 73 2 u35.ag hu35 (bX u35))]) λc2 h=>let zC:SE:=dv zB [aW c2];ie h (λc3 h=>ie h (λc4 h=>bu h zC [aW c3,aX c4]) λc4 h=>ie h (λc5 h=>bu h zC [aW c3,aX c4,bl c5]) λc5 h=>be h λLr hu20 h=>be h λ_ tX h=>be h λkQ p6 h=>be h λz34 hz34 h=>be h λz36 ahe h=>cC (KD a h) zC [aW c3,aX c4,bl c5,(1,cy.oC fk cg jL 1 B 73 2 Lr.ag hu20 (bX Lr)),(8,de tX),(1,fk.ur 0 [.str b3.aM] p6 hz34),(0,.beq cg (bH (YY (((dG bW)).set mY (bX Lr)) (mY*5+1) jL) (eG hz34))),(0,cy.iN fk (r:= (bX Lr)) cg jL 1 B 73 2 z34 ahe),(0,.ja cg pK),(0,.beq 6 (bH (td b6 pK) (eG ahe)))]) λc3 h=>let zD:SE:=dv zC [aW c3];ie h (λc4 h=>be h λBD aqY h=>be h λ_ J8 h=>cC (KD a h) zD [aW c4,(6,cy.ur 0 [.str b3.aM] aqY J8),(0,.ja cg pK),(0,.beq 6 (bH (td b6 pK) (eG J8)))]) λc4 h=>let zE:SE:=dv zD [aW c4];ie h (λc5 h=>cC (aEG (aSH (KD a) a) a h) zE [aW c5,(6,.beq cg (bH (λq_=>Bx.tree 44 5 ow q_ []) (aLA (l:= ow) (Q:=dG bW)))),(0,.born [15] [] 500340 M 44 5)]) λc5 h=>be h λkj ahk h=>let zF:SE:=dv zE [aW c5,(1,cy.oC fk cg jL 1 B 73 2 kj.ag ahk (bX kj)),(0,cy.xC fD (r:= (bX kj)) cg mS 3 B 121 2 kj.ar ahk (eR kj)),(0,cy.xC fa (r:= (eR kj)) cg mR 4 B 107 13 kj.aL ahk (cP kj))];ie h (λc6 h=>be h λ_ aBF h=>bu h zF [aW c6,(4,cy.kF fa (r:= (cP kj)) cg mR 4 B 107 13 kj.aL aBF (eR kj)),(0,cy.kF fD (r:= (eR kj)) cg mS 3 B 121 2 kj.ar aBF (bX kj)),(0,cy.iN fk (r:= (bX kj)) cg jL 1 B 73 2 kj.ag aBF)]) λc6 h=>be h λqb tn h=>be h λvj tW h=>be h λkQ p6 h=>let zG:SE:=dv zF [aW c6,(6,cy.Cq [4,3,1] (cP kj) ahk),(2,de tn),(1,fk.row tW),jM (aSd a p6)];ie h (λc7 h=>be h λ_ aBC h=>bu h zG [aD c7,(3,cy.kF fa (r:= (cP kj)) cg mR 4 B 107 13 kj.aL aBC (eR kj)),(0,cy.kF fD (r:= (eR kj)) cg mS 3 B 121 2 kj.ar aBC (bX kj)),(0,cy.iN fk (r:= (bX kj)) cg jL 1 B 73 2 kj.ag aBC)]) λc7 h=>be h λ_ RF h=>let zH:SE:=dv zG [aD c7,(4,cy.Cq [4,3,1] (cP kj) ahk),(2,.zw (aGt a RF) [fk.eB jL kj.ag,fD.tfr B mS kj.ar,fa.eB mR kj.aL] trivial [] [])];ie h (λc8 bE=>by subst c8;exact (be bE λz46 ML bE=>bu bE zH [(1,cy.kF fa (r:= (cP kj)) cg mR 4 B 107 13 kj.aL ML (eR kj)),(0,cy.kF fD (r:= (eR kj)) cg mS 3 B 121 2 kj.ar ML (bX kj)),(0,cy.iN fk (r:= (bX kj)) cg jL 1 B 73 2 kj.ag ML)])) λc8 bE=>by subst c8;exact (be bE λz46 ML bE=>cC (KD a bE) zH [(1,cy.kF fa (r:= (cP kj)) cg mR 4 B 107 13 kj.aL ML (eR kj)),(0,cy.kF fD (r:= (eR kj)) cg mS 3 B 121 2 kj.ar ML (bX kj)),(0,cy.iN fk (r:= (bX kj)) cg jL 1 B 73 2 kj.ag ML),(0,.ja cg pK),(0,.beq 6 (bH (td b6 pK) (eG ML)))])
def Ck:A (ae×Bool):=
 if C.bg==6 then
 (ajw a C.bt).bind λx8=>(app I [x8]).bind λdu=>(setAt du I.length x8).bind λz15=>(F94 a (ad0 R.aA z15)).bind λlg=>V ((ad0 R.aA z15),lg==0)
 else
 if U (C.av<0) then
 V (i,B)
 else
 if !U (C.av<(i.ah.length:Int)) then
 V (i,B)
 else
 (eh I.length C.av).bind λlg=>(I[0+lg]?).bind λqY=>if !U (C.ba<qY.aH) then
 (setAt I (0+lg) qY).bind λvh=>wT a (0+lg) (qY.ag.length:Int) (U (C.ba<(qY.ag.length:Int))) i C (ad0 w.aA []) (ad0 R.aA vh) vh
 else
 (setAt I (0+lg) qY).bind λz40=>wT a (0+lg) (qY.ag.length:Int) B i C (ad0 w.aA []) (ad0 R.aA z40) z40
def aLM:KK (qg [1,1,1,1]) Xd (Ck a):=λ_ _ _ b6 bW r h=>ie h (λc0 h=>be h λx8 lj h=>be h λ_ fB h=>be h λz15 EB h=>be h λlg nu h=>rr h [aQ c0,(4,.call (aGu a lj) [] [(330490001,uA),(330490003,201003),(330490004,201004)]),(1,cy.L5 fB),(2,.beq cg (bH (λq_=>Bx.tree 44 5 ow q_ (aqo (bW.length*5+1) 330490001 x8 (bW.length*5+3) 330490003 (bW.length*5+4) 330490004)) (cy.apS (r:= (cP x8)) fB))),(0,cy.kF fk (r:= (cP x8)) cg 330490001 1 B 73 2 x8.ag EB (tH x8)),(0,cy.kF fD (r:= (tH x8)) cg 330490003 3 B 121 2 x8.ar EB (nI x8)),(0,cy.iN fa (r:= (nI x8)) cg 330490004 4 B 107 13 x8.aL EB),(0,.seq 51 (bH (AV.ms cg 5 0) (((cy.apL fB).trans (eG EB))))),(0,.beq 6 (bH (td b6 cg) (((cy.apL fB).trans (eG EB))))),(0,cy.tfr B cg z15),jj (aCv a nu)]) λc0 h=>ie h (λc1 h=>rr h [aQ c0,aQ c1]) λc1 h=>let zA:SE:=[aQ c0,aQ c1];ie h (λc2 h=>bu h zA [dm c2]) λc2 h=>be h λlg nu h=>be h λqY Zj h=>let zB:SE:=dv zA [dm c2,(5,de nu),(4,cy.oC fk cg jL 1 B 73 2 qY.ag Zj (bX qY)),(8,cy.rowS (bX qY) Zj)];ie h (λc3 h=>be h λ_ pZ h=>cC (aGP a h) zB [aD c3,(7,cy.iN fk (r:= (bX qY)) cg jL 1 B 73 2 qY.ag pZ),(0,.beq 6 (bH (td b6 cg) (eG pZ)))]) λc3 h=>be h λ_ hz40 h=>cC (aGP a h) zB [aD c3,(3,cy.iN fk (r:= (bX qY)) cg jL 1 B 73 2 qY.ag hz40),(0,.beq 6 (bH (td b6 cg) (eG hz40)))]
def UL:A (ae×Bool):=
 (ZX a C).bind λx6=>if !x6 then
 V (i,B)
 else
 PM (Ck a) a i.ah (i.ah.length:Int) 0 i C (ad0 0 []) (ad0 (aV (i.aA+1)) []) []
def aLL:KK (qg []) OE (UL a):=λ_ _ r h=>be h λ_ jV h=>ie h (λc0 h=>rr h [mh (aGv a jV),aD c0]) λc0 h=>ra (aEJ (aLM a) a h) [mh (aGv a jV),aD c0,(10,.born [] [(6,1)] cg M 44 5)]
def F95:=UL
def ev95:KK (Cx E0 95 abr bG) OE (F95 a):=λ_ _ _ h=>ca (X:=x95) (aLL a h)
def abv:AV:=.dq [.ms bF 2 0 ej.1.length,bM ej.2]
def Tp:List (Nat×Bx):= [(bF,Y1 ej.1)]
def x40:=fx E0 Tryz.f40 [1]
def A40:=AxS x40 [1] abv Tp
def C40:=CxS E0 40 [1] abv Tp
def afe:LS:=⟨[(7,.ms 29 2 0 ee.length),(30,.ms 1 15 0 H.length),(31,bM b),(32,bM d)],[(1,El H),(29,Y1 ee)]⟩
def afd:LS:=⟨[(7,.ms 29 2 0 ee.length)],[(1,El H),(29,Y1 ee)]⟩
def avy:LS:=⟨[(0,.agg (cG i)),(1,.ms 1 15 0 H.length)],[(1,El H)]⟩
def Qv (aB:Wt9_) (back:Int->Int->cH->gZ->A (gZ×Int)) (n:Nat) (t31 t32:Int) (cN:cH) (na:gZ):A (gZ×Int):=
 if U (t32<t31) then
 (eh cN.length t32).bind λx2=>(cN[0+x2]?).bind λx4=>(eh na.length (aV ((na.length:Int)-1))).bind λj8=>(na[0+j8]?).bind λiK=>(F95 n iK x4).bind λiZ=>if !iZ.2 then
 V ([],280)
 else
 (app na [iZ.1]).bind λlY=>back t31 (aV (t32+1)) cN lY
 else
 aB cN na
def aUL {aB} (aU:KK (A40 [1,1,1,1,1]) afd aB) {back} (aK:KK (A40 (aI 175)) afe back) (n:Nat):KK (A40 (aI 175)) afe (Qv aB back n):=λ_ _ _ _ r h=>ie h (λc0 h=>be h λ_ dg h=>be h λ_ iB h=>be h λ_ jc h=>be h λ_ iO h=>be h λ_ iW h=>let zA:SE:=[aD c0,(0,de dg),(0,NA.row iB),(2,.ord [0,1,2,3,4,5,6,11,7,8,9,10,12,13]),(4,de jc),(0,IA.row iO),jj (ev95 n iW)];ie h (λc1 h=>Lu h (dv zA [dm c1,(2,.born [4] [] bF B 25 2)])) λc1 h=>be h λ_ tX h=>HV (aK h) (by kernel_rfl) (dv zA [dm c1,(3,IA.jU tX)])) λc0 h=>HV (aU h) (by kernel_rfl) [aD c0]
def Dq (aB:Wt9_):Nat->Int->Int->cH->gZ->A (gZ×Int)
 |0=>dw.z
 |n+1=>Qv aB (Dq aB n) n
def aFl {aB} (aU:KK (A40 [1,1,1,1,1]) afd aB):∀n:Nat,KK (A40 (aI 175)) afe (Dq aB n)
 |0=>KC.h
 |n+1=>aUL aU (aFl aU n) n
def Qu (n:Nat) (cN:cH) (na:gZ):A (gZ×Int):=
 V (na,0)
def aUK:KK (A40 [1,1,1,1,1]) afd (Qu a):=λ_ _ r h=>Lu h [(3,.ja 29 bF)]
def ade:A (gZ×Int):=
 (F94 a i).bind λx5=>if x5 !=0 then
 V ([],x5)
 else
 if U (8<(H.length:Int)) then
 V ([],2)
 else
 if U (1000<(aV (i.aA+(H.length:Int)))) then
 V ([],2)
 else
 Dq (Qu a) a (H.length:Int) 0 H [i]
def aUJ:KK (A40 []) avy (ade a):=λ_ _ r h=>be h λ_ iw h=>let zA:SE:=[ku (aCv a iw)];ie h (λc0 h=>Lu h (dv zA [aQ c0,(3,.born [4] [] bF B 25 2)])) λc0 h=>ie h (λc1 h=>Lu h (dv zA [aQ c0,aQ c1,(4,.born [4] [] bF B 25 2)])) λc1 h=>ie h (λc2 h=>Lu h (dv zA [aQ c0,aQ c1,dm c2,(3,.born [4] [] bF B 25 2)])) λc2 h=>HV (aFl (aUK a) a h) (by kernel_rfl) (dv zA [aQ c0,aQ c1,dm c2])
def F40:=ade
def aCz:KK C40 avy (F40 a):=λ_ _ _ h=>caS (X:=x40) (aUJ a h)
def aEq:AV:=.ms bF 15 0 ek.1.length
def awH:List (Nat×Bx):= [(0,mV (fA ek.2)),(bF,El ek.1)]
def tF:=fx E0 Tryz.f39 [0]
def Cm:=Ax tF aEq awH
def aKU:LS:=⟨[aY 0,aY 4,(7,.ms 227 15 0 H.length),(8,bM b),(12,Mj)],[(0,mV (fA F)),(4,ij (cG ge)),(12,vd (nU ao)),(227,El H)]⟩
def yX:LS:=⟨[aY 0,aY 4,(7,.ms 227 15 0 H.length),(8,bM b)],[(0,mV (fA F)),(4,ij (cG ge)),(227,El H)]⟩
def aKT:LS:=⟨[aY 0,aY 4,(7,.ms 227 15 0 H.length),(8,bM b),(11,Mk),(12,Mj)],[(0,mV (fA F)),(4,ij (cG ge)),(11,ij (cG P)),(12,vd (nU ao)),(227,El H)]⟩
def aKS:LS:=⟨[aY 0,aY 4,(7,.ms 227 15 0 H.length),(8,bM b),(11,Mk),(12,Mj),aY 13],[(0,mV (fA F)),(4,ij (cG ge)),(11,ij (cG P)),(12,vd (zX ao (iI 0) (iI 0) (.str vp) (iI 0) (iI 0) (iI 0) (.str vp) (.str vp) (iI 0))),(13,ia (jN ap)),(227,El H)]⟩
def aKR:LS:=⟨[aY 0,aY 4,(7,.ms 227 15 0 H.length),(8,bM b),(11,Mk),(12,Mj)],[(0,mV (fA F)),(4,ij (cG ge)),(11,ij (cG P)),(12,vd (zX ao (iI 0) (iI 0) (.str vp) (iI 0) (iI 0) (iI 0) (.str vp) (.str vp) (iI 0))),(227,El H)]⟩
def aff:LS:=⟨[(7,.ms 227 15 0 H.length)],[(0,mV (fA F)),(227,El H)]⟩
def avz:LS:=⟨[aY 0,(1,.agg (cG ge)),(2,bM g6)],(ta (fA F))⟩
def U3:A (cH×aN):=
 (app [] bx).bind λx3=>(app x3 [a9]).bind λx7=>(F40 an P x7).bind λx9=>if x9.2==0 then
 (app bx [a9]).bind λlM=>aS W bc P lM
 else
 aS W bc P bx
def aHd {aB} (aU:KK (Cm (aI 459)) yX aB) (n:Nat):KK (Cm (aI 2096715)) aKU (U3 aB n):=λ_ _ _ _ _ r h=>be h λ_ eP h=>be h λ_ iQ h=>be h λ_ iq h=>let zA:SE:=[(0,.born [] [] 215 M 46 15),(2,NA.jU (xs:= []) eP),(2,NA.jU iQ),(0,.call (aCz n iq) [(215,1)] [(321900,bF)])];ie h (λdy h=>be h λ_ j5 h=>cC (aU h) zA [bS dy,(3,NA.jU j5)]) λdy h=>cC (aU h) zA [bS dy]
def GF (n:Nat) (n8:Int) (b0:aN) (b4:ae) (gI:cH):A (cH×aN):=
 aS (aV (n8-1)) b0 b4 gI
def asj {eA} (gV:KK (Cm [0,1,0,1,1]) yX eA) (n:Nat):KK (Cm (aI 459)) yX (GF eA n):=λ_ _ _ _ r h=>ra (gV h) []
def uk:A (cH×aN):=
 if a9.bg==7 then
 if U ((bJ.ah.length:Int)<2) then
 GF aS an W bc P bx
 else
 U3 (GF aS an) an W bc P bx a9
 else
 U3 (GF aS an) an W bc P bx a9
def zy {eA} (gV:KK (Cm [0,1,0,1,1]) yX eA) (n:Nat):KK (Cm (aI 1048139)) aKT (uk eA n):=λ_ _ _ _ _ _ r h=>ie h (λdy h=>ie h (λc1 h=>ra (asj gV n h) [aQ dy,bl c1]) λc1 h=>ra (aHd (asj gV n) n h) [aQ dy,bl c1]) λdy h=>ra (aHd (asj gV n) n h) [aQ dy]
def U2:A (cH×aN):=
 (rf an bc (if 1<(aV ((bK.ag.length:Int)-bK.aH)) then (aV ((bK.ag.length:Int)-bK.aH)) else 1)).bind λdu=>(cat (xp #[110]) (Y' (U' .i32 (aV (97+(bx.length:Int)))))).bind λlM=>(rf an du.2 26).bind λhY=>(cat ((xp #[110])++(Y' (U' .i32 (aV (97+(bx.length:Int)))))) (Y' (U' .i32 (aV (97+hY.1))))).bind λqb=>if a9.bg==1 then
 (rf an hY.2 3).bind λvi=>(F93 an vi.2 (aV (3+vi.1))).bind λx47=>uk aS an W x47.2 P bx bJ (aG.mk a9.bg a9.av 0 0 (((xp #[110])++(Y' (U' .i32 (aV (97+(bx.length:Int))))))++(Y' (U' .i32 (aV (97+hY.1))))) (aV (3+vi.1)) x47.1 a9.cA (ad1 vp a9.bt.ag 0 a9.bt.ar a9.bt.aL))
 else
 if a9.bg==2 then
 if U ((aV (bK.aH+du.1))<(bK.ag.length:Int)) then
 (idx bK.ag (aV (bK.aH+du.1))).bind λx49=>(F93 an hY.2 x49.aE).bind λx53=>uk aS an W x53.2 P bx bJ (aG.mk a9.bg a9.av (aV (bK.aH+du.1)) 0 vp 0 x53.1 a9.cA (ad1 vp a9.bt.ag 0 a9.bt.ar a9.bt.aL))
 else
 uk aS an W hY.2 P bx bJ (aG.mk a9.bg a9.av (aV (bK.aH+du.1)) 0 vp 0 oJ a9.cA (ad1 vp a9.bt.ag 0 a9.bt.ar a9.bt.aL))
 else
 if a9.bg==3 then
 (rf an hY.2 (if 1<(aV ((bK.ag.length:Int)-bK.aH)) then (aV ((bK.ag.length:Int)-bK.aH)) else 1)).bind λHG=>uk aS an W HG.2 P bx bJ (aG.mk a9.bg a9.av (aV (bK.aH+du.1)) (aV (bK.aH+HG.1)) vp 0 oJ a9.cA (ad1 vp a9.bt.ag 0 a9.bt.ar a9.bt.aL))
 else
 if a9.bg==4 then
 (rf an hY.2 (if 1<(bK.ag.length:Int) then (bK.ag.length:Int) else 1)).bind λBA=>uk aS an W BA.2 P bx bJ (aG.mk a9.bg a9.av BA.1 0 (((xp #[110])++(Y' (U' .i32 (aV (97+(bx.length:Int))))))++(Y' (U' .i32 (aV (97+hY.1))))) 0 oJ a9.cA (ad1 vp a9.bt.ag 0 a9.bt.ar a9.bt.aL))
 else
 if a9.bg==5 then
 uk aS an W hY.2 P bx bJ (aG.mk a9.bg a9.av 0 0 (((xp #[110])++(Y' (U' .i32 (aV (97+(bx.length:Int))))))++(Y' (U' .i32 (aV (97+hY.1))))) 0 oJ a9.cA (ad1 vp a9.bt.ag 0 a9.bt.ar a9.bt.aL))
 else
 if a9.bg==6 then
 (Fs an (xp #[105,100]) 4).bind λBA=>(Fs an (xp #[110,111,116,101]) 5).bind λx48=>uk aS an W hY.2 P bx bJ (aG.mk a9.bg 0 0 0 vp 0 oJ a9.cA (ad1 (((xp #[110])++(Y' (U' .i32 (aV (97+(bx.length:Int))))))++(Y' (U' .i32 (aV (97+hY.1))))) [BA,x48] 1 [] []))
 else
 if a9.bg==8 then
 if U ((aV (bK.aH+du.1))<(bK.ag.length:Int)) then
 (idx bK.ag (aV (bK.aH+du.1))).bind λx58=>(F93 an hY.2 x58.aE).bind λqq=>(F93 an qq.2 x58.aE).bind λsx=>if ((qq.1.aE==sx.1.aE)&&((qq.1.dj==sx.1.dj)&&((U (qq.1.cM=sx.1.cM))&&M))) then
 (so 2 1).bind λx89=>uk aS an W sx.2 P bx bJ (aG.mk a9.bg a9.av (aV (bK.aH+du.1)) 0 vp 0 oJ ([(iH.mk qq.1 sx.1),(iH.mk sx.1 qq.1)].take x89) (ad1 vp a9.bt.ag 0 a9.bt.ar a9.bt.aL))
 else
 uk aS an W sx.2 P bx bJ (aG.mk a9.bg a9.av (aV (bK.aH+du.1)) 0 vp 0 oJ [(iH.mk qq.1 sx.1),(iH.mk sx.1 qq.1)] (ad1 vp a9.bt.ag 0 a9.bt.ar a9.bt.aL))
 else
 uk aS an W hY.2 P bx bJ (aG.mk a9.bg a9.av (aV (bK.aH+du.1)) 0 vp 0 oJ a9.cA (ad1 vp a9.bt.ag 0 a9.bt.ar a9.bt.aL))
 else
 uk aS an W hY.2 P bx bJ (aG.mk a9.bg a9.av 0 0 vp 0 oJ a9.cA (ad1 vp a9.bt.ag 0 a9.bt.ar a9.bt.aL))
def aHc {eA} (gV:KK (Cm [0,1,0,1,1]) yX eA) (n:Nat):KK (Cm (aI 130635)) aKS (U2 eA n):=λ_ _ _ _ _ cD lA r h=>be h λdu fB h=>be h λ_ j5 h=>be h λ_ oj h=>be h λ_ tn h=>let zA:SE:=[(10,.call (oq n fB) [(0,0)] []),(7,.cat (Ky j5).1),(1,.call (oq n oj) [(0,0)] []),(3,.cat (Ky tn).1)];ie h (λdy h=>be h λ_ AL h=>be h λ_ hx47 h=>cC (zy gV n h) zA [aX dy,(3,.call (oq n AL) [(0,0)] []),(8,.call (RO n hx47) [(0,0)] [])]) λdy h=>let zB:SE:=dv zA [aX dy];ie h (λc1 h=>ie h (λc2 h=>be h λ_ hx49 h=>be h λ_ aBP h=>cC (zy gV n h) zB [aW c1,iS c2,(4,fk.idx hx49),(2,.call (RO n aBP) [(0,0)] [])]) λc2 h=>cC (zy gV n h) zB [aW c1,iS c2]) λc1 h=>let zC:SE:=dv zB [aW c1];ie h (λc2 h=>be h λ_ aqW h=>cC (zy gV n h) zC [aW c2,(1,.ord [0,1,2,3,4,5,6,7,8,9,10,13,11,12,14,15,16]),(12,.call (oq n aqW) [(0,0)] [])]) λc2 h=>let zD:SE:=dv zC [aW c2];ie h (λc3 h=>be h λBA RE h=>cC (zy gV n h) zD [aW c3,(6,.call (oq n RE) [(0,0)] [])]) λc3 h=>let zE:SE:=dv zD [aW c3];ie h (λc4 h=>cC (zy gV n h) zE [aW c4]) λc4 h=>let zF:SE:=dv zE [aW c4];ie h (λc5 h=>be h λBA RE h=>be h λx48 ahh h=>cC (zy gV n h) zF [aW c5,jj (ET n RE),jM (ET n ahh),(6,fk.eB 163 [BA,x48])]) λc5 h=>let zG:SE:=dv zF [aW c5];ie h (λc6 h=>ie h (λc7 h=>be h λ_ aBL h=>be h λqq aBJ h=>be h λsx hx69 h=>let zH:SE:=dv zG [aW c6,iS c7,(3,fk.idx aBL),(5,.call (RO n aBJ) [(0,0)] []),(2,.call (RO n hx69) [(0,0)] [])];ie h (λc8 h=>be h λx89 aBG h=>cC (zy gV n h) zH [(15,eb c8),(2,E8.so (xs:= [(iH.mk qq.1 sx.1),(iH.mk sx.1 qq.1)]) aBG (tP rfl)),(2,.qc 194 (.undef)),(0,.qc 200 (.undef)),(0,.shr 194 (E8.take [(iH.mk qq.1 sx.1),(iH.mk sx.1 qq.1)] x89)),(0,.seq 201 (bH (AV.ms 194 6 0) ((yp (xs:= [(iH.mk qq.1 sx.1),(iH.mk sx.1 qq.1)]) (kP (tM aBG).2 (tP rfl))).symm))),(0,.beq 12 (bH (λn_=>(Bx.flat 46 [iI cD.bg,iI cD.av,iI (aV (lA.aH+du.1)),iI 0,.str vp,iI 0,iI 0,iI 0,.str vp,.ms 194 6 0 n_,.str vp,.slice 73 2 cD.bt.ag.length (eK cD.bt.ag),iI 0,.slice 121 2 cD.bt.ar.length (eD cD.bt.ar),.slice 107 13 cD.bt.aL.length (dV cD.bt.aL)])) ((yp (xs:= [(iH.mk qq.1 sx.1),(iH.mk sx.1 qq.1)]) (kP (tM aBG).2 (tP rfl))).symm))),(0,E8.eB 194 ([(iH.mk qq.1 sx.1),(iH.mk sx.1 qq.1)].take x89))]) λc8 h=>cC (zy gV n h) zH [(15,eb c8),(0,E8.eB 194 [(iH.mk qq.1 sx.1),(iH.mk sx.1 qq.1)])]) λc7 h=>cC (zy gV n h) zG [aW c6,iS c7]) λc6 h=>cC (zy gV n h) zG [aW c6]
def U1:A (cH×aN):=
 if U (0<(bJ.ah.length:Int)) then
 (idx bJ.ah a9.av).bind λeW=>U2 aS an W bc P bx bJ (aG.mk a9.bg a9.av 0 0 vp 0 oJ a9.cA (ad1 vp a9.bt.ag 0 a9.bt.ar a9.bt.aL)) eW
 else
 U2 aS an W bc P bx bJ (aG.mk a9.bg a9.av 0 0 vp 0 oJ a9.cA (ad1 vp a9.bt.ag 0 a9.bt.ar a9.bt.aL)) (ad1 vp [] 0 [] [])
def aHb {eA} (gV:KK (Cm [0,1,0,1,1]) yX eA) (n:Nat):KK (Cm (aI 32331)) aKR (U1 eA n):=λ_ _ _ _ _ _ r h=>ie h (λdy h=>be h λ_ iF h=>ra (aHc gV n h) [bl dy,(4,cy.idx iF)]) λdy h=>ra (aHc gV n h) [bl dy]
def adf (ju:Wf32) (back:ZF) (n:Nat) (n8:Int) (b0:aN) (b4:ae) (gI:cH):A (cH×aN):=
 if U (0<n8) then
 (F40 n b4 gI).bind λx5=>if x5.2 !=0 then
 V ([],b0)
 else
 (eh x5.1.length (aV ((x5.1.length:Int)-1))).bind λgS=>(x5.1[0+gS]?).bind λlM=>(rf n b0 10).bind λgw=>(rf n gw.2 (if 1<(lM.ah.length:Int) then (lM.ah.length:Int) else 1)).bind λkQ=>if U (8<(aV (1+gw.1))) then
 (rf n kQ.2 2).bind λLo=>U1 back n n8 Lo.2 b4 gI lM (aG.mk (aV (1+(aV (7*Lo.1)))) kQ.1 0 0 vp 0 oJ [] (ad1 vp [] 0 [] []))
 else
 U1 back n n8 kQ.2 b4 gI lM (aG.mk (aV (1+gw.1)) kQ.1 0 0 vp 0 oJ [] (ad1 vp [] 0 [] []))
 else
 ju b0 gI
def aUO {ju} (oS:KK (Cm [1,1,1]) aff ju) {back} (aK:KK (Cm [0,1,0,1,1]) yX back) (n:Nat):KK (Cm [0,1,0,1,1]) yX (adf ju back n):=λ_ _ _ _ r h=>ie h (λdy h=>be h λ_ iw h=>let zA:SE:=[aW dy,(2,.call (aCz n iw) [(227,1)] [(303000,bF)])];ie h (λc1 h=>bu h zA [dm c1,(1,.born [6] [] bF B 46 15)]) λc1 h=>be h λ_ jl h=>be h λ_ j5 h=>be h λ_ ld h=>be h λ_ p6 h=>let zB:SE:=dv zA [dm c1,(4,de jl),(0,IA.row j5),(2,.ord [0,3,4,5,6,7,10,1,2,8,9,11]),(7,.call (oq n ld) [(0,0)] []),(1,.call (oq n p6) [(0,0)] [])];ie h (λc2 h=>be h λ_ ahi h=>cC (aHb aK n h) zB [bl c2,(1,.call (oq n ahi) [(0,0)] [])]) λc2 h=>cC (aHb aK n h) zB [bl c2]) λdy h=>ra (oS h) [aW dy]
def Gz (ju:Wf32):Nat->Int->aN->ae->cH->A (cH×aN)
 |0=>dw.z
 |n+1=>adf ju (Gz ju n) n
def aFm {ju} (oS:KK (Cm [1,1,1]) aff ju):∀n:Nat,KK (Cm [0,1,0,1,1]) yX (Gz ju n)
 |0=>KC.h
 |n+1=>aUO oS (aFm oS n) n
def Qw (n:Nat) (b0:aN) (gI:cH):A (cH×aN):=
 V (gI,b0)
def aUN:KK (Cm [1,1,1]) aff (Qw a):=λ_ _ r h=>rr h [(2,.ja 227 bF)]
def auw:A (cH×aN):=
 (rf a F (aV (g6+1))).bind λx7=>Gz (Qw a) a x7.1 x7.2 ge []
def aUM:KK (Cm []) avz (auw a):=λ_ _ _ r h=>be h λ_ iQ h=>ra (aFm (aUN a) a h) [(6,.call (oq a iQ) [(0,0)] []),(1,.born [7] [] 227 M 46 15)]
def F39:=auw
def ev39:KK (Cx E0 39 aEq awH) avz (F39 a):=λ_ _ _ _ h=>ca (X:=tF) (aUM a h)
def aEw:AV:=.dq [.agg (cG en.1),.ms 200001 15 0 en.2.1.length,.ms 200002 2 0 en.2.2.1.length,bM en.2.2.2.1]
def awN:List (Nat×Bx):= [(0,mV (fA en.2.2.2.2)),(200001,El en.2.1),(200002,Y1 en.2.2.1)]
def j8:=fx E0 Tryz.f12 [0]
def A12:=Ax j8 aEw awN
def auL:A (ae×cH×gZ×Int×aN):=
 (F38 a F).bind λx6=>(F39 a x6.2 x6.1 5).bind λaAy=>(F40 a x6.1 aAy.1).bind λiZ=>(rf a aAy.2 (iZ.1.length:Int)).bind λlY=>V (x6.1,aAy.1,iZ.1,lY.1,lY.2)
def aVU:KK (A12 []) yy (auL a):=λ_ r h=>be h λ_ jV h=>be h λ_ jc h=>be h λ_ iW h=>be h λ_ tX h=>rr h [(5,.call (ev38 a jV) [(0,0)] []),(4,.call (ev39 a jc) [(0,0)] [(14,bF)]),(3,.call (aCz a iW) [(14,1)] [(301800,bF)]),(11,.call (oq a tX) [(0,0)] []),(4,.ja 14 200001),(0,.ja 301800 200002)]
def F12:=auL
def ev12:KK (Cx E0 12 aEw awN) yy (F12 a):=λ_ _ h=>ca (X:=j8) (aVU a h)
def aEv (r:aN):AV:=.loc bF 0
def awM:List (Nat×Bx):= [(bF,mV (fA F))]
def dB:=fx E0 Tryz.f13 []
def A13:=Ax dB aEv awM
def avM:LS:=⟨[(0,.sy 5 1 j.length (Bd j)),(1,iI g)],[]⟩
def auK (n:Nat) (wa:aP) (abB:Int):A aN:=
 (cut wa G (V (if abB<(wa.length:Int) then abB else (wa.length:Int)))).bind λx7=>(app [] x7).bind λx9=>V (aN.mk x9 0)
def aVT:KK (A13 []) avM (auK a):=λ_ _ r h=>be h λ_ iQ h=>be h λx9 iq h=>rr h [(6,R5.cut iQ),(0,.born [] [] 11 M 5 1),(0,R5.app (xs:= []) iq),(3,.ja 13 bF),(0,R5.eB 11 x9),(0,.nQ bF (.flat 0 [.sl 2 0 0 0 []]))]
def F13:=auK
def ev13:KK (Cx E0 13 aEv awM) avM (F13 a):=λ_ _ _ h=>ca (X:=dB) (aVT a h)
def x99:=fx E0 Tryz.f99 []
def A99:=Ax x99 cY bG
def aKv:LS:=⟨[(3,bM b),(4,.int .i32 d),(5,.bool L),(15,.it 15)],[(15,.iter g8 al)]⟩
def SQ:LS:=⟨[(15,.it 15)],[(15,.iter g8 al)]⟩
def aeg:LS:=⟨[],[]⟩
def UI (n:Nat) (i3 c4:Int) (Zf:Bool) (r8:Z) (p9:Nat):A Bool:=
 if !Zf then
 if i3==0 then
 V B
 else
 if c4 !=95 then
 if U (c4<48) then
 V B
 else
 if U (57<c4) then
 V B
 else
 d0 r8 p9
 else
 d0 r8 p9
 else
 d0 r8 p9
def aGO {aB} (aU:KK (A99 [0,1,0,1,1]) SQ aB) (n:Nat):KK (A99 (aI 3787)) aKv (UI aB n):=λ_ _ _ _ _ r h=>ie h (λc0 h=>ie h (λc1 h=>rr h [aW c0,aQ c1]) λc1 h=>let zA:SE:=[aW c0,aQ c1];ie h (λc2 h=>ie h (λc3 h=>bu h zA [aQ c2,aQ c3]) λc3 h=>ie h (λc4_ h=>bu h zA [aQ c2,aQ c3,aQ c4_]) λc4_ h=>cC (aU h) zA [aQ c2,aQ c3,aQ c4_]) λc2 h=>cC (aU h) zA [aQ c2]) λc0 h=>ra (aU h) [aW c0]
def aci (r8:Z) (p9:Nat):A Bool:=
 if U (p9<r8.size) then
 if !U (((V' r8 p9).1:Int)<97) then
 UI d0 dt (p9:Int) ((V' r8 p9).1:Int) (!U (122<((V' r8 p9).1:Int))) r8 (p9+(V' r8 p9).2)
 else
 UI d0 dt (p9:Int) ((V' r8 p9).1:Int) B r8 (p9+(V' r8 p9).2)
 else
 K
def aSz {bh} (cL:KK (A99 [1,1,1]) aeg bh) {back} (aK:KK (A99 [0,1,0,1,1]) SQ back) (n:Nat):KK (A99 [0,1,0,1,1]) SQ (aci bh back n):=λ_ _ r h=>ie h (λc0 h=>ie h (λc1 h=>ra (aGO aK n h) [(0,.nxt (rH c0)),dm c1]) λc1 h=>ra (aGO aK n h) [(0,.nxt (rH c0)),dm c1]) λc0 h=>ra (cL h) [(0,.fin (Oj c0))]
def Dp (bh:A Bool):Nat->Z->Nat->A Bool
 |0=>dw.z
 |n+1=>aci bh (Dp bh n) n
def aED {bh} (cL:KK (A99 [1,1,1]) aeg bh):∀n:Nat,KK (A99 [0,1,0,1,1]) SQ (Dp bh n)
 |0=>KC.h
 |n+1=>aSz cL (aED cL n) n
def La (n:Nat):A Bool:=
 V M
def aSy:KK (A99 [1,1,1]) aeg (La a):=λr h=>rr h []
def atG:A Bool:=
 if U ((g8.size:Int)<1) then
 V B
 else
 if U (32<(g8.size:Int)) then
 V B
 else
 Dp (La a) a g8 0
def aSx:KK (A99 []) DD (atG a):=λ_ r h=>ie h (λc0 h=>rr h [aX c0]) λc0 h=>ie h (λc1 h=>rr h [aX c0,aX c1]) λc1 h=>ra (aED (aSy a) a h) [aX c0,aX c1]
def F99:=atG
def ev99:KK (Cx E0 99 cY bG) DD (F99 a):=λ_ _ h=>ca (X:=x99) (aSx a h)
def x43:=fx E0 Tryz.f43 []
def GJ:=Ax x43 cY bG
def afa:LS:=⟨[(3,.mp 9),(6,.mp 43),(11,.slice 44 5 t.length (dG t)),(12,iI o),(13,iI x),(22,.mp 9),(23,.loc 5 0),(24,.str g8),(25,.bool B),(28,.loc 5 2),(29,iI aq),(30,.bool B),(33,.loc 5 2),(34,iI aR),(35,.loc 5 1),(36,.slice 73 2 N.length (eK N)),(37,iI ak),(38,.bool B),(45,.slice 73 2 cp.length (eK cp)),(46,iI bB),(47,iI bC)],[(5,.flat 44 (jN ef)),(9,.map (gn AV.bool dc)),(43,.map (gn AV.bool ec))]⟩
def aeZ:LS:=⟨[(3,.mp 9),(11,.slice 44 5 t.length (dG t)),(12,iI o),(13,iI x),(22,.mp 9),(23,.loc 5 0),(24,.str g8),(25,.bool B),(28,.loc 5 2),(29,iI aq),(30,.bool B),(33,.loc 5 2),(34,iI aR),(35,.loc 5 1),(36,.slice 73 2 N.length (eK N)),(37,iI ak),(38,.bool B)],[(5,.flat 44 (jN ef)),(9,.map (gn AV.bool dc))]⟩
def S2:LS:=⟨[(3,.mp 9),(11,.slice 44 5 t.length (dG t)),(12,iI o),(13,iI x)],[(9,.map (gn AV.bool dc))]⟩
def aeY:LS:=⟨[],[]⟩
def ada (aB:aHs) (back:bD->Int->Int->Z->Int->Int->di->Int->di->Int->Int->(List (Z×Bool))->(List (Z×Bool))->ai->A Bool) (n:Nat) (t11:bD) (t12 t13:Int) (t24:Z) (t29 t34:Int) (t36:di) (t37:Int) (t45:di) (t46 t47:Int) (b9 CX:List (Z×Bool)) (b5:ai):A Bool:=
 if U (t47<t46) then
 (idx t45 t47).bind λx2=>(F99 n x2.aM).bind λx9=>if !x9 then
 V B
 else
 if (np CX x2.aM B) then
 V B
 else
 if x2.aE !=3 then
 if x2.aE !=4 then
 if x2.aE !=5 then
 V B
 else
 back t11 t12 t13 t24 t29 t34 t36 t37 t45 t46 (aV (t47+1)) b9 (nk CX x2.aM M) b5
 else
 back t11 t12 t13 t24 t29 t34 t36 t37 t45 t46 (aV (t47+1)) b9 (nk CX x2.aM M) b5
 else
 back t11 t12 t13 t24 t29 t34 t36 t37 t45 t46 (aV (t47+1)) b9 (nk CX x2.aM M) b5
 else
 aB t11 t12 t13 t24 t29 t34 t36 t37 b9 b5
def aUE {aB} (aU:KK (GJ (aI 971)) aeZ aB) {back} (aK:KK (GJ (aI 97483)) afa back) (n:Nat):KK (GJ (aI 97483)) afa (ada aB back n):=λ_ _ _ _ _ _ _ _ _ _ _ _ CX _ r h=>ie h (λc0 h=>be h λx2 dg h=>be h λ_ iq h=>let zA:SE:=[aD c0,(0,fk.idx dg),mh (ev99 n iq)];ie h (λc1 h=>bu h zA [aD c1]) λc1 h=>let zB:SE:=dv zA [aD c1];ie h (λc2 h=>bu h zB [(4,.lkp B (Dg c2))]) λc2 h=>let zC:SE:=dv zB [(4,.lkp B (Dg c2)),(4,.kS (B6 (f:=AV.bool) (k:=x2.aM) (v:=M) CX))];ie h (λc3 h=>ie h (λc4 h=>ie h (λc5 h=>bu h zC [aQ c3,aX c4,bl c5]) λc5 h=>cC (aK h) zC [aQ c3,aX c4,bl c5]) λc4 h=>cC (aK h) zC [aQ c3,aX c4]) λc3 h=>cC (aK h) zC [aQ c3]) λc0 h=>ra (aU h) [aD c0]
def P4 (aB:aHs):Nat->bD->Int->Int->Z->Int->Int->di->Int->di->Int->Int->(List (Z×Bool))->(List (Z×Bool))->ai->A Bool
 |0=>dw.z
 |n+1=>ada aB (P4 aB n) n
def aFj {aB} (aU:KK (GJ (aI 971)) aeZ aB):∀n:Nat,KK (GJ (aI 97483)) afa (P4 aB n)
 |0=>KC.h
 |n+1=>aUE aU (aFj aU n) n
def acZ (n:Nat) (t11:bD) (t12 t13:Int) (t24:Z) (t29 t34:Int) (t36:di) (t37:Int) (b9:List (Z×Bool)) (b5:ai):A Bool:=
 dN t11 t12 (aV (t13+1)) b9
def aUD {bh} (cL:KK (GJ [0,1,0,1,1]) S2 bh) (n:Nat):KK (GJ (aI 971)) aeZ (acZ bh n):=λ_ _ _ _ _ _ _ _ _ _ r h=>ra (cL h) []
def acY:A Bool:=
 if U (dY<dW) then
 (idx dP dY).bind λx2=>(F99 dO x2.aM).bind λx9=>if !x9 then
 V B
 else
 if (np ec x2.aM B) then
 V B
 else
 if U (x2.aH<1) then
 V B
 else
 if U ((x2.ag.length:Int)<x2.aH) then
 V B
 else
 P4 (acZ dN dO) dO dP dW dY x2.aM x2.aH x2.aH x2.ag (x2.ag.length:Int) x2.ag (x2.ag.length:Int) 0 (nk ec x2.aM M) [] x2
 else
 K
def aUC {br} (cO:KK (GJ [1,1,1]) aeY br) {back} (aK:KK (GJ [0,1,0,1,1]) S2 back) (n:Nat):KK (GJ [0,1,0,1,1]) S2 (acY br back n):=λ_ _ _ b9 r h=>ie h (λc0 h=>be h λx2 dg h=>be h λ_ iq h=>let zA:SE:=[aD c0,(0,cy.idx dg),mh (ev99 n iq)];ie h (λc1 h=>bu h zA [aD c1]) λc1 h=>let zB:SE:=dv zA [aD c1];ie h (λc2 h=>bu h zB [(4,.lkp B (Dg c2))]) λc2 h=>let zC:SE:=dv zB [(4,.lkp B (Dg c2))];ie h (λc3 h=>bu h zC [bl c3]) λc3 h=>ie h (λc4 h=>bu h zC [bl c3,il c4]) λc4 h=>cC (aFj (aUD aK n) n h) zC [bl c3,il c4,(4,.kS (B6 (f:=AV.bool) (k:=x2.aM) (v:=M) b9))]) λc0 h=>ra (cO h) [aD c0]
def KW (br:A Bool):Nat->bD->Int->Int->(List (Z×Bool))->A Bool
 |0=>dw.z
 |n+1=>acY br (KW br n) n
def aFi {br} (cO:KK (GJ [1,1,1]) aeY br):∀n:Nat,KK (GJ [0,1,0,1,1]) S2 (KW br n)
 |0=>KC.h
 |n+1=>aUC cO (aFi cO n) n
def U0 (n:Nat):A Bool:=
 V M
def aUB:KK (GJ [1,1,1]) aeY (U0 a):=λr h=>rr h []
def aHY:A Bool:=
 KW (U0 a) a i.ah (i.ah.length:Int) 0 []
def aUA:KK (GJ []) uU (aHY a):=λ_ r h=>ra (aFi (aUB a) a h) []
def F43:=aHY
def ev43:KK (Cx E0 43 cY bG) uU (F43 a):=λ_ _ h=>ca (X:=x43) (aUA a h)
def D2:=fx E0 Tryz.f44 []
def xB:=Ax D2 cY bG
def aeX:LS:=⟨[aY 1,aY 4,aY 7,(11,.slice 44 5 t.length (dG t)),(12,iI o),(13,iI x),(18,.slice 121 2 S.length (eD S)),(19,iI g6),(20,iI aa),(28,.loc 6 1),(29,iI f8),(30,.loc 1 1),(31,.slice 44 5 ax.length (dG ax)),(32,iI ak),(33,.bool B),(48,.slice 3 1 a2.length (dM a2)),(49,iI a3),(50,iI a4)],[(1,ij (cG bm)),(4,ia (jN co)),(6,.flat 121 (EW bP)),(7,ia (jN bK))]⟩
def aeW:LS:=⟨[aY 1,aY 4,(11,.slice 44 5 t.length (dG t)),(12,iI o),(13,iI x),(18,.slice 121 2 S.length (eD S)),(19,iI g6),(20,iI aa),(28,.loc 6 1),(29,iI f8),(30,.loc 1 1),(31,.slice 44 5 ax.length (dG ax)),(32,iI ak),(33,.bool B)],[(1,ij (cG P)),(4,ia (jN ap)),(6,.flat 121 (EW bP))]⟩
def S1:LS:=⟨[aY 1,aY 4,(11,.slice 44 5 t.length (dG t)),(12,iI o),(13,iI x),(18,.slice 121 2 S.length (eD S)),(19,iI g6),(20,iI aa)],[(1,ij (cG P)),(4,ia (jN ap))]⟩
def D7:LS:=⟨[aY 1,(11,.slice 44 5 t.length (dG t)),(12,iI o),(13,iI x)],[(1,ij (cG w))]⟩
def aeV:LS:=⟨[],[]⟩
def acX (aB:Wf33) (back:bD->Int->Int->bQ->Int->Int->Int->bD->Int->aP->Int->Int->ae->ai->ai->bq->A Bool) (n:Nat) (t11:bD) (t12 t13:Int) (t18:bQ) (t19 t20 t29:Int) (t31:bD) (t32:Int) (t48:aP) (t49 t50:Int) (b1:ae) (b4 b7:ai) (b6:bq):A Bool:=
 if U (t50<t49) then
 (idx t48 t50).bind λx3=>if U (x3<0) then
 V B
 else
 if !U (x3<(b4.ag.length:Int)) then
 V B
 else
 (idx b4.ag x3).bind λmX=>(idx b7.ag t50).bind λqb=>if mX.aE !=qb.aE then
 V B
 else
 back t11 t12 t13 t18 t19 t20 t29 t31 t32 t48 t49 (aV (t50+1)) b1 b4 b7 b6
 else
 aB t11 t12 t13 t18 t19 t20 t29 t31 t32 b1 b4 b6
def aUz {aB} (aU:KK (xB (aI 124517)) aeW aB) {back} (aK:KK (xB (aI 12478053)) aeX back) (n:Nat):KK (xB (aI 12478053)) aeX (acX aB back n):=λ_ _ _ _ _ _ _ _ _ _ _ _ _ _ _ _ r h=>ie h (λc0 h=>be h λ_ eP h=>let zA:SE:=[aD c0,(1,R3.idx eP)];ie h (λc1 h=>bu h zA [bl c1]) λc1 h=>ie h (λc2 h=>bu h zA [bl c1,bS c2]) λc2 h=>be h λ_ py h=>be h λ_ tn h=>let zB:SE:=dv zA [bl c1,bS c2,(5,fk.idx py),(5,fk.idx tn)];ie h (λc3 h=>bu h zB [aQ c3]) λc3 h=>cC (aK h) zB [aQ c3]) λc0 h=>ra (aU h) [aD c0]
def P3 (aB:Wf33):Nat->bD->Int->Int->bQ->Int->Int->Int->bD->Int->aP->Int->Int->ae->ai->ai->bq->A Bool
 |0=>dw.z
 |n+1=>acX aB (P3 aB n) n
def aFh {aB} (aU:KK (xB (aI 124517)) aeW aB):∀n:Nat,KK (xB (aI 12478053)) aeX (P3 aB n)
 |0=>KC.h
 |n+1=>aUz aU (aFh aU n) n
def acW (n:Nat) (t11:bD) (t12 t13:Int) (t18:bQ) (t19 t20 t29:Int) (t31:bD) (t32:Int) (b1:ae) (b4:ai) (b6:bq):A Bool:=
 dQ t11 t12 t13 t18 t19 (aV (t20+1)) b1 b4
def aUy {bh} (cL:KK (xB (aI 5733)) S1 bh) (n:Nat):KK (xB (aI 124517)) aeW (acW bh n):=λ_ _ _ _ _ _ _ _ _ _ _ _ r h=>ra (cL h) []
def acV (t18:bQ) (t19 t20:Int) (b1:ae) (b4:ai):A Bool:=
 if U (t20<t19) then
 (idx t18 t20).bind λx2=>if U (x2.av<0) then
 V B
 else
 if !U (x2.av<(b1.ah.length:Int)) then
 V B
 else
 (idx b1.ah x2.av).bind λmF=>if (x2.ag.length:Int) !=mF.aH then
 V B
 else
 P3 (acW dQ dS) dS dz d9 ea t18 t19 t20 x2.av b1.ah (b1.ah.length:Int) x2.ag (x2.ag.length:Int) 0 b1 b4 mF x2
 else
 cz dz d9 ea b1
def aUx {br} (cO:KK (xB (aI 485)) D7 br) {back} (aK:KK (xB (aI 5733)) S1 back) (n:Nat):KK (xB (aI 5733)) S1 (acV br back n):=λ_ _ _ _ _ _ _ _ r h=>ie h (λc0 h=>be h λ_ dg h=>let zA:SE:=[aD c0,(0,fD.idx dg)];ie h (λc1 h=>bu h zA [bS c1]) λc1 h=>ie h (λc2 h=>bu h zA [bS c1,dm c2]) λc2 h=>be h λ_ nR h=>let zB:SE:=dv zA [bS c1,dm c2,(5,cy.idx nR)];ie h (λc3 h=>bu h zB [iS c3]) λc3 h=>cC (aFh (aUy aK n) n h) zB [iS c3]) λc0 h=>ra (cO h) [aD c0]
def KV (br:asO):Nat->bD->Int->Int->bQ->Int->Int->ae->ai->A Bool
 |0=>dw.z
 |n+1=>acV br (KV br n) n
def aFg {br} (cO:KK (xB (aI 485)) D7 br):∀n:Nat,KK (xB (aI 5733)) S1 (KV br n)
 |0=>KC.h
 |n+1=>aUx cO (aFg cO n) n
def acU (n:Nat) (t11:bD) (t12 t13:Int) (b1:ae):A Bool:=
 cz t11 t12 (aV (t13+1)) b1
def aUw {cV} (eX:KK (xB [0,1,0,1]) D7 cV) (n:Nat):KK (xB (aI 485)) D7 (acU cV n):=λ_ _ _ _ r h=>ra (eX h) []
def acT:A Bool:=
 if U (cJ<bY) then
 (idx cI cJ).bind λx2=>KV (acU cz cE) cE cI bY cJ x2.ar (x2.ar.length:Int) 0 dl x2
 else
 K
def aUv {eA} (gV:KK (xB [1,1]) aeV eA) {back} (aK:KK (xB [0,1,0,1]) D7 back) (n:Nat):KK (xB [0,1,0,1]) D7 (acT eA back n):=λ_ _ _ _ r h=>ie h (λc0 h=>be h λ_ dg h=>ra (aFg (aUw aK n) n h) [aD c0,(0,cy.idx dg)]) λc0 h=>ra (gV h) [aD c0]
def KU (eA:A Bool):Nat->bD->Int->Int->ae->A Bool
 |0=>dw.z
 |n+1=>acT eA (KU eA n) n
def aFf {eA} (gV:KK (xB [1,1]) aeV eA):∀n:Nat,KK (xB [0,1,0,1]) D7 (KU eA n)
 |0=>KC.h
 |n+1=>aUv gV (aFf gV n) n
def UZ (n:Nat):A Bool:=
 V M
def aUu:KK (xB [1,1]) aeV (UZ a):=λr h=>rr h []
def aHX:A Bool:=
 KU (UZ a) a i.ah (i.ah.length:Int) 0 i
def aUt:KK (xB []) uU (aHX a):=λ_ r h=>ra (aFf (aUu a) a h) []
def F44:=aHX
def ev44:KK (Cx E0 44 cY bG) uU (F44 a):=λ_ _ h=>ca (X:=D2) (aUt a h)
def x100:=fx E0 Tryz.f100 []
def A100:=Ax x100 cY bG
def alj (n:Nat) (s0:ae) (dx:Int):A Bool:=
 if !U (dx<0) then
 V (U (dx<(s0.ah.length:Int)))
 else
 V B
def aPV:KK (A100 []) BG (alj a):=λ_ _ r h=>ie h (λc0 h=>rr h [aX c0]) λc0 h=>rr h [aX c0]
def K6:=alj
def Kp:KK (Cx E0 100 cY bG) BG (K6 a):=λ_ _ _ h=>ca (X:=x100) (aPV a h)
def BM:List (Nat×Bx):= [(bF,wZ j)]
def x45:=fx E0 Tryz.f45 []
def A45:=Ax x45 Be BM
def aeU:LS:=⟨[(5,.ms 19 1 0 af.length),(25,.slice 73 2 J.length (eK J)),(26,iI D),(27,iI g6)],[(19,wZ af)]⟩
def aeT:LS:=⟨[(5,.ms 19 1 0 j.length)],[(19,wZ j)]⟩
def acS (back:Wt0_) (n:Nat) (t25:di) (t26 t27:Int) (b19:aP):A aP:=
 if U (t27<t26) then
 (idx t25 t27).bind λx2=>(app b19 [x2.aE]).bind λdu=>back t25 t26 (aV (t27+1)) du
 else
 cZ b19
def aUs {aB} (aU:KK (A45 [1,1,1,1]) aeT aB) {back} (aK:KK (A45 (aI 87)) aeU back) (n:Nat):KK (A45 (aI 87)) aeU (acS aB back n):=λ_ _ _ _ r h=>ie h (λc0 h=>be h λ_ dg h=>be h λ_ fB h=>ra (aK h) [aD c0,(0,fk.idx dg),(7,R3.jU fB)]) λc0 h=>ra (aU h) [aD c0]
def P0 (aB:Wf0):Nat->di->Int->Int->aP->A aP
 |0=>dw.z
 |n+1=>acS aB (P0 aB n) n
def aFe {aB} (aU:KK (A45 [1,1,1,1]) aeT aB):∀n:Nat,KK (A45 (aI 87)) aeU (P0 aB n)
 |0=>KC.h
 |n+1=>aUs aU (aFe aU n) n
def acR (n:Nat) (b19:aP):A aP:=
 V b19
def aUr:KK (A45 [1,1,1,1]) aeT (acR a):=λ_ r h=>rr h [(2,.ja 19 bF)]
def aus:A aP:=
 (K6 a i g).bind λx5=>if !x5 then
 V []
 else
 (idx i.ah g).bind λdu=>(rh (du.ag.length:Int) (0:Int)).bind λfN=>(idx i.ah g).bind λmF=>P0 (acR a) a mF.ag (mF.ag.length:Int) 0 []
def aUq:KK (A45 []) BG (aus a):=λ_ _ r h=>be h λ_ iw h=>ie h (λc0 h=>rr h [ku (Kp a iw),aD c0,(1,.born [4] [] bF B 3 1)]) λc0 h=>be h λ_ fB h=>be h λ_ gU h=>be h λ_ nR h=>ra (aFe (aUr a) a h) [ku (Kp a iw),aD c0,(3,cy.idx fB),(3,R3.aQZ gU),(4,cy.idx nR)]
def F45:=aus
def aCy:KK (Cx E0 45 Be BM) BG (F45 a):=λ_ _ _ h=>ca (X:=x45) (aUq a h)
def apA:=fx E0 Tryz.f101 []
def SC:=Ax apA cY bG
def YL:LS:=⟨[],[]⟩
def amL:LS:=⟨[(0,.slice 3 1 j.length (dM j))],[]⟩
def WH (back:aP->Int->Int->A Bool) (n:Nat) (t5:aP) (t6 t7:Int):A Bool:=
 if U (t7<t6) then
 (idx t5 t7).bind λx2=>if x2 !=3 then
 if x2 !=4 then
 if x2 !=5 then
 V B
 else
 back t5 t6 (aV (t7+1))
 else
 back t5 t6 (aV (t7+1))
 else
 back t5 t6 (aV (t7+1))
 else
 K
def aPU {aB} (aU:KK (SC [1,1]) YL aB) {back} (aK:KK (SC [0,1,0,1]) DE back) (n:Nat):KK (SC [0,1,0,1]) DE (WH aB back n):=λ_ _ _ r h=>ie h (λc0 h=>be h λ_ dg h=>let zA:SE:=[aD c0,(0,R3.idx dg)];ie h (λc1 h=>ie h (λc2 h=>ie h (λc3 h=>bu h zA [aX c1,aQ c2,aX c3]) λc3 h=>cC (aK h) zA [aX c1,aQ c2,aX c3]) λc2 h=>cC (aK h) zA [aX c1,aQ c2]) λc1 h=>cC (aK h) zA [aX c1]) λc0 h=>ra (aU h) [aD c0]
def Jb (aB:A Bool):Nat->aP->Int->Int->A Bool
 |0=>dw.z
 |n+1=>WH aB (Jb aB n) n
def ays {aB} (aU:KK (SC [1,1]) YL aB):∀n:Nat,KK (SC [0,1,0,1]) DE (Jb aB n)
 |0=>KC.h
 |n+1=>aPU aU (ays aU n) n
def ali (n:Nat):A Bool:=
 V M
def aPT:KK (SC [1,1]) YL (ali a):=λr h=>rr h []
def alh:A Bool:=
 Jb (ali a) a j (j.length:Int) 0
def aPS:KK (SC []) amL (alh a):=λ_ r h=>ra (ays (aPT a) a h) []
def ajB:=alh
def aGG:KK (Cx E0 101 cY bG) amL (ajB a):=λ_ _ h=>ca (X:=apA) (aPS a h)
def awk:AV:=.bool ep.1
def anr:List (Nat×Bx):= [(2,GU ep.2)]
def x102:=fx E0 Tryz.f102 [2]
def SB:=Ax x102 awk anr
def ajG:=Cx E0 102 awk anr
def YK:LS:=⟨[(1,iI b),aY 2,(23,.slice 107 13 y.length (dV y)),(24,iI m),(25,iI s)],[(2,GU D)]⟩
def YJ:LS:=⟨[],[(2,GU b)]⟩
def DI:LS:=⟨[(0,.agg (fW p)),(1,bM m),aY 2],[(2,GU s)]⟩
def WG (aB:Int->A (Bool×Int)) (back:Int->bw->Int->Int->Int->A (Bool×Int)) (n:Nat) (vP:Int) (t23:bw) (t24 t25 b2:Int):A (Bool×Int):=
 if U (t25<t24) then
 (idx t23 t25).bind λx2=>(dF x2 (aV (vP+1)) b2).bind λdu=>if !du.1 then
 V (B,du.2)
 else
 back vP t23 t24 (aV (t25+1)) du.2
 else
 aB b2
def aPR {o6} (BT:KK ajG DI o6) {aB} (aU:KK (SB [1,1,1,1]) YJ aB) {back} (aK:KK (SB (aI 87)) YK back) (n:Nat):KK (SB (aI 87)) YK (WG o6 aB back n):=λ_ _ _ _ _ r h=>ie h (λc0 h=>be h λ_ dg h=>be h λ_ fB h=>let zA:SE:=[aD c0,(0,fa.idx dg),(7,.call (BT fB) [(2,2)] [])];ie h (λc1 h=>bu h zA [aD c1]) λc1 h=>cC (aK h) zA [aD c1]) λc0 h=>ra (aU h) [aD c0]
def Ja (o6:acb) (aB:Int->A (Bool×Int)):Nat->Int->bw->Int->Int->Int->A (Bool×Int)
 |0=>dw.z
 |n+1=>WG o6 aB (Ja o6 aB n) n
def ayr {o6} (BT:KK ajG DI o6) {aB} (aU:KK (SB [1,1,1,1]) YJ aB):∀n:Nat,KK (SB (aI 87)) YK (Ja o6 aB n)
 |0=>KC.h
 |n+1=>aPR BT aU (ayr BT aU n) n
def aAw (o6:acb) (n:Nat) (b2:Int):A (Bool×Int):=
 V (M,b2)
def aPQ {o6} (BT:KK ajG DI o6) (n:Nat):KK (SB [1,1,1,1]) YJ (aAw o6 n):=λ_ r h=>rr h []
def alg:A (Bool×Int):=
 if U ((aV (ea-1))<0) then
 V (B,aV (ea-1))
 else
 if U (8<d9) then
 V (B,aV (ea-1))
 else
 Ja dF (aAw dF dO) dO d9 d8.fArgs (d8.fArgs.length:Int) 0 (aV (ea-1))
def aPP {o6} (BT:KK ajG DI o6) (n:Nat):KK (SB []) DI (alg o6 n):=λ_ _ _ r h=>ie h (λc0 h=>rr h [(11,eb c0)]) λc0 h=>ie h (λc1 h=>rr h [(11,eb c0),aQ c1]) λc1 h=>ra (ayr BT (aPQ BT n) n h) [(11,eb c0),aQ c1]
def Z1:Nat->aj->Int->Int->A (Bool×Int)
 |0,_,_,_=>G
 |n+1,p0,vP,yK=>alg (Z1 n) n p0 vP yK
def aGF:∀n:Nat,KK ajG DI (Z1 n)
 |0=>λ_ _ _ _ h=>nz h
 |n+1=>λ_ _ _ _ h=>ca (X:=x102) (aPP (aGF n) n h)
def x114:=fx E0 Tryz.f114 []
def A114:=Ax x114 cY bG
def aAv (n:Nat) (v0:aT):A Bool:=
 if v0.aE==1 then
 if v0.dj==0 then
 V (U (v0.cM=vp))
 else
 V B
 else
 if v0.aE==2 then
 if v0.dj==0 then
 V (U (v0.cM=vp))
 else
 V B
 else
 if v0.aE==3 then
 if v0.dj==0 then
 V (U (v0.cM=vp))
 else
 if v0.dj==1 then
 V (U (v0.cM=vp))
 else
 V B
 else
 if v0.aE==4 then
 V (U (v0.cM=vp))
 else
 if v0.aE==5 then
 if v0.dj==0 then
 V (!U (64<(v0.cM.size:Int)))
 else
 V B
 else
 V B
def aPx:KK (A114 []) yw (aAv a):=λ_ r h=>ie h (λc0 h=>ie h (λc1 h=>rr h [bl c0,aX c1]) λc1 h=>rr h [bl c0,aX c1]) λc0 h=>ie h (λc1 h=>ie h (λc2 h=>rr h [bl c0,aW c1,aX c2]) λc2 h=>rr h [bl c0,aW c1,aX c2]) λc1 h=>let zA:SE:=[bl c0,aW c1];ie h (λc2 h=>ie h (λc3 h=>bu h zA [aW c2,aX c3]) λc3 h=>ie h (λc4 h=>bu h zA [aW c2,aX c3,aX c4]) λc4 h=>bu h zA [aW c2,aX c3,aX c4]) λc2 h=>let zB:SE:=dv zA [aW c2];ie h (λc3 h=>bu h zB [aW c3]) λc3 h=>ie h (λc4 h=>ie h (λc5 h=>bu h zB [aW c3,aW c4,aX c5]) λc5 h=>bu h zB [aW c3,aW c4,aX c5]) λc4 h=>bu h zB [aW c3,aW c4]
def atz:=aAv
def aGA:KK (Cx E0 114 cY bG) yw (atz a):=λ_ _ h=>ca (X:=x114) (aPx a h)
def x163:=fx E0 Tryz.f163 []
def A163:=Ax x163 cY bG
def akr:A Bool:=
 (atz a az).bind λx4=>if x4 then
 if az.aE !=1 then
 V (az.aE !=2)
 else
 V B
 else
 V B
def aNp:KK (A163 []) yw (akr a):=λ_ r h=>be h λ_ iB h=>let zA:SE:=[ky (aGA a iB)];ie h (λc0 bE=>by subst c0;exact (ie bE (λc1 bE=>bu bE zA [aX c1]) λc1 bE=>bu bE zA [aX c1])) λc0 bE=>by subst c0;exact (rr bE zA)
def ZV:=akr
def abP:KK (Cx E0 163 cY bG) yw (ZV a):=λ_ _ h=>ca (X:=x163) (aNp a h)
def x156:=fx E0 Tryz.f156 []
def A156:=Ax x156 dX bG
def aIw:LS:=⟨[aY 3,(5,.slice 3 1 j.length (dM j))],[(3,.flat 105 (rY a8))]⟩
def ams:LS:=⟨(GV (Nc Y) (rY a8)),[]⟩
def VJ (n:Nat) (TH:aP) (b3:bO):A Int:=
 if U (b3.dk<0) then
 V 0
 else
 if !U (b3.dk<(TH.length:Int)) then
 V 0
 else
 if !((b3.bk.aE==0)&&((b3.bk.dj==0)&&((U (b3.bk.cM=vp))&&M))) then
 V 0
 else
 (idx TH b3.dk).bind λlM=>V lM
def azl:KK (A156 [1,1,1]) aIw (VJ a):=λ_ _ r h=>ie h (λc0 h=>rr h [aQ c0]) λc0 h=>ie h (λc1 h=>rr h [aQ c0,bS c1]) λc1 h=>ie h (λc2 h=>rr h [aQ c0,bS c1,bS c2]) λc2 h=>be h λ_ j5 h=>rr h [aQ c0,bS c1,bS c2,(4,R3.idx j5)]
def akx:A Int:=
 if a8.aE==3 then
 if a8.dk !=0 then
 V 0
 else
 (ZV a a8.bk).bind λiZ=>if !iZ then
 V 0
 else
 V a8.bk.aE
 else
 if a8.aE==2 then
 VJ a Y.oo a8
 else
 if a8.aE==1 then
 VJ a Y.mu a8
 else
 V 0
def aNy:KK (A156 []) ams (akx a):=λ_ _ r h=>ie h (λc0 h=>ie h (λc1 h=>rr h [iS c0,aX c1]) λc1 h=>be h λ_ iW h=>let zA:SE:=[iS c0,aX c1,ky (abP a iW)];ie h (λc2 h=>bu h zA [aD c2]) λc2 h=>bu h zA [aD c2]) λc0 h=>ie h (λc1 h=>ra (azl a h) [iS c0,aW c1]) λc1 h=>ie h (λc2 h=>ra (azl a h) [iS c0,aW c1,aW c2]) λc2 h=>rr h [iS c0,aW c1,aW c2]
def ajk:=akx
def aGp:KK (Cx E0 156 dX bG) ams (ajk a):=λ_ _ _ h=>ca (X:=x156) (aNy a h)
def apz:=fx E0 Tryz.f103 []
def ye:=Ax apz cY bG
def Hm:=Cx E0 103 cY bG
def DH:LS:=⟨[aY 2,(76,.slice 107 13 y.length (dV y)),(77,iI m),(78,iI s)],[(2,.flat 193 (Nc Y))]⟩
def YI:LS:=⟨[],[]⟩
def aIF:LS:=⟨[aY 2,aY 3,(50,.bool L)],[(2,.flat 193 (Nc Y)),(3,kY (fW g7))]⟩
def YH:LS:=⟨[],[]⟩
def aIE:LS:=⟨aqm,[(2,.flat 193 (Nc Y)),(3,kY (fW g7))]⟩
def sZ:LS:=⟨(GV (Nc Y) (fW g7)),[]⟩
def WE (n:Nat) (t76:bw) (t77 t78:Int) (b2:mQ):A Bool:=
 if U (t78<t77) then
 (idx t76 t78).bind λx2=>(aZ b2 x2).bind λx9=>if !x9 then
 V B
 else
 ei t76 t77 (aV (t78+1)) b2
 else
 d4
def aPO {fO} (lx:KK Hm sZ fO) {aB} (aU:KK (ye [1,1,1,1]) YI aB) {back} (aK:KK (ye (aI 87)) DH back) (n:Nat):KK (ye (aI 87)) DH (WE fO aB back n):=λ_ _ _ _ r h=>ie h (λc0 h=>be h λ_ dg h=>be h λ_ iq h=>let zA:SE:=[aD c0,(0,fa.idx dg),mh (lx iq)];ie h (λc1 h=>bu h zA [aD c1]) λc1 h=>cC (aK h) zA [aD c1]) λc0 h=>ra (aU h) [aD c0]
def Cj (fO:Dn) (aB:A Bool):Nat->bw->Int->Int->mQ->A Bool
 |0=>dw.z
 |n+1=>WE fO aB (Cj fO aB n) n
def ayq {fO} (lx:KK Hm sZ fO) {aB} (aU:KK (ye [1,1,1,1]) YI aB):∀n:Nat,KK (ye (aI 87)) DH (Cj fO aB n)
 |0=>KC.h
 |n+1=>aPO lx aU (ayq lx aU n) n
def WD (fO:Dn) (n:Nat):A Bool:=
 V M
def aPN {fO} (lx:KK Hm sZ fO) (n:Nat):KK (ye [1,1,1,1]) YI (WD fO n):=λr h=>rr h []
def Od (b2:mQ) (b3:aj):A Bool:=
 if bs then
 V B
 else
 if b3.fI !=0 then
 V B
 else
 if !((b3.cQ.aE==0)&&((b3.cQ.dk==0)&&(((b3.cQ.bk.aE==0)&&((b3.cQ.bk.dj==0)&&((U (b3.cQ.bk.cM=vp))&&M)))&&M))) then
 V B
 else
 if !((b3.cx.aE==0)&&((b3.cx.dk==0)&&(((b3.cx.bk.aE==0)&&((b3.cx.bk.dj==0)&&((U (b3.cx.bk.cM=vp))&&M)))&&M))) then
 V B
 else
 Cj aZ (WD aZ an) an b3.fArgs (b3.fArgs.length:Int) 0 b2
def azs {fO} (lx:KK Hm sZ fO) (n:Nat):KK (ye (aI 885)) aIF (Od fO n):=λ_ _ _ r h=>ie h (λc0 bE=>by subst c0;exact (rr bE [])) λc0 bE=>by subst c0;exact (ie bE (λc1 bE=>rr bE [aQ c1]) λc1 bE=>ie bE (λc2 bE=>rr bE [aQ c1,bl c2]) λc2 bE=>ie bE (λc3 bE=>rr bE [aQ c1,bl c2,bS c3]) λc3 bE=>ra (ayq lx (aPN lx n) n bE) [aQ c1,bl c2,bS c3])
def WC (n:Nat) (t76:bw) (t77 t78:Int) (b2:mQ):A Bool:=
 if U (t78<t77) then
 (idx t76 t78).bind λx2=>(aZ b2 x2).bind λx9=>if !x9 then
 V B
 else
 ei t76 t77 (aV (t78+1)) b2
 else
 d4
def aPM {fO} (lx:KK Hm sZ fO) {cV} (eX:KK (ye [1,1,1,1]) YH cV) {back} (aK:KK (ye (aI 87)) DH back) (n:Nat):KK (ye (aI 87)) DH (WC fO cV back n):=λ_ _ _ _ r h=>ie h (λc0 h=>be h λ_ dg h=>be h λ_ iq h=>let zA:SE:=[aD c0,(0,fa.idx dg),mh (lx iq)];ie h (λc1 h=>bu h zA [aD c1]) λc1 h=>cC (aK h) zA [aD c1]) λc0 h=>ra (eX h) [aD c0]
def Ci (fO:Dn) (cV:A Bool):Nat->bw->Int->Int->mQ->A Bool
 |0=>dw.z
 |n+1=>WC fO cV (Ci fO cV n) n
def ayp {fO} (lx:KK Hm sZ fO) {cV} (eX:KK (ye [1,1,1,1]) YH cV):∀n:Nat,KK (ye (aI 87)) DH (Ci fO cV n)
 |0=>KC.h
 |n+1=>aPM lx eX (ayp lx eX n) n
def WB (fO:Dn) (n:Nat):A Bool:=
 V M
def aPL {fO} (lx:KK Hm sZ fO) (n:Nat):KK (ye [1,1,1,1]) YH (WB fO n):=λr h=>rr h []
def Jz:A Bool:=
 if g7.fI !=0 then
 V B
 else
 if !((g7.cQ.aE==0)&&((g7.cQ.dk==0)&&(((g7.cQ.bk.aE==0)&&((g7.cQ.bk.dj==0)&&((U (g7.cQ.bk.cM=vp))&&M)))&&M))) then
 V B
 else
 if !((g7.cx.aE==0)&&((g7.cx.dk==0)&&(((g7.cx.bk.aE==0)&&((g7.cx.bk.dj==0)&&((U (g7.cx.bk.cM=vp))&&M)))&&M))) then
 V B
 else
 Ci aZ (WB aZ an) an g7.fArgs (g7.fArgs.length:Int) 0 Y
def ahY {fO} (lx:KK Hm sZ fO) (n:Nat):KK (ye [1,1]) aIE (Jz fO n):=λ_ _ r h=>ie h (λc0 h=>rr h [aQ c0]) λc0 h=>ie h (λc1 h=>rr h [aQ c0,bl c1]) λc1 h=>ie h (λc2 h=>rr h [aQ c0,bl c1,bS c2]) λc2 h=>ra (ayp lx (aPL lx n) n h) [aQ c0,bl c1,bS c2]
def alf:A Bool:=
 if g7.bg==3 then
 (ajk an Y g7.cQ).bind λdu=>(ajk an Y g7.cx).bind λfN=>if (g7.fArgs.length:Int)==0 then
 if !U (g7.fI<1) then
 if !U (6<g7.fI) then
 if du !=0 then
 V (du==fN)
 else
 V B
 else
 V B
 else
 V B
 else
 V B
 else
 if g7.bg==1 then
 Od aZ an ((g7.fArgs.length:Int) !=0) Y g7
 else
 if g7.bg==2 then
 Od aZ an ((g7.fArgs.length:Int) !=0) Y g7
 else
 if g7.bg==6 then
 if (g7.fArgs.length:Int) !=1 then
 V B
 else
 Jz aZ an Y g7
 else
 if g7.bg==4 then
 Jz aZ an Y g7
 else
 if g7.bg==5 then
 Jz aZ an Y g7
 else
 V B
def aPK {fO} (lx:KK Hm sZ fO) (n:Nat):KK (ye []) sZ (alf fO n):=λ_ _ r h=>ie h (λc0 h=>be h λ_ fB h=>be h λ_ gU h=>let zA:SE:=[bS c0,(1,.ord [0,1,2,4,5,6,3,7,8,9]),ze (aGp n fB),jM (aGp n gU)];ie h (λc1 h=>let zB:SE:=dv zA [bS c1];ie h (λc2 h=>ie h (λc3 h=>ie h (λc4 h=>bu h zB [aX c2,bl c3,aX c4]) λc4 h=>bu h zB [aX c2,bl c3,aX c4]) λc3 h=>bu h zB [aX c2,bl c3]) λc2 h=>bu h zB [aX c2]) λc1 h=>bu h zA [bS c1]) λc0 h=>ie h (λc1 h=>ra (azs lx n h) [bS c0,aW c1]) λc1 h=>let zA:SE:=[bS c0,aW c1];ie h (λc2 h=>cC (azs lx n h) zA [aW c2]) λc2 h=>let zB:SE:=dv zA [aW c2];ie h (λc3 h=>ie h (λc4 h=>bu h zB [aW c3,bl c4]) λc4 h=>cC (ahY lx n h) zB [aW c3,bl c4]) λc3 h=>ie h (λc4 h=>cC (ahY lx n h) zB [aW c3,aW c4]) λc4 h=>ie h (λc5 h=>cC (ahY lx n h) zB [aW c3,aW c4,aW c5]) λc5 h=>bu h zB [aW c3,aW c4,aW c5]
def yc:Nat->mQ->aj->A Bool
 |0,_,_=>G
 |n+1,k0,p1=>alf (yc n) n k0 p1
def aGE:∀n:Nat,KK Hm sZ (yc n)
 |0=>λ_ _ _ h=>nz h
 |n+1=>λ_ _ _ h=>ca (X:=apz) (aPK (aGE n) n h)
def BA:=fx E0 Tryz.f46 []
def A46:=Ax BA dX bG
def aur:A Int:=
 (ajB a j).bind λx4=>if !x4 then
 V 1
 else
 (ajB a af).bind λx9=>if !x9 then
 V 1
 else
 (Z1 a am 1 24).bind λfN=>if !fN.1 then
 V 2
 else
 (yc a (mQ.mk j af) am).bind λhY=>if !hY then
 V 50
 else
 V 0
def aUp:KK (A46 []) sX (aur a):=λ_ _ _ r h=>be h λ_ iB h=>let zA:SE:=[ky (aGG a iB)];ie h (λc0 h=>bu h zA [aD c0]) λc0 h=>be h λ_ iq h=>let zB:SE:=dv zA [aD c0,jj (aGG a iq)];ie h (λc1 h=>bu h zB [aD c1]) λc1 h=>be h λ_ gU h=>let zC:SE:=dv zB [aD c1,(4,.call (aGF a gU) [(7,2)] [])];ie h (λc2 h=>bu h zC [aD c2]) λc2 h=>be h λ_ oj h=>let zD:SE:=dv zC [aD c2,ku (aGE a oj)];ie h (λc3 h=>bu h zD [aD c3]) λc3 h=>bu h zD [aD c3]
def F46:=aur
def ev46:KK (Cx E0 46 dX bG) sX (F46 a):=λ_ _ _ _ h=>ca (X:=BA) (aUp a h)
def ga:=fx E0 Tryz.f15 []
def yT:=Ax ga dX bG
def afA:LS:=⟨[aY 1,(7,.slice 3 1 j.length (dM j)),(58,.slice 44 5 t.length (dG t)),(59,iI o),(60,iI x),(69,.slice 107 13 y.length (dV y)),(70,iI m),(71,iI s)],[(1,ij (cG w))]⟩
def Ed:LS:=⟨[aY 1,(58,.slice 44 5 t.length (dG t)),(59,iI o),(60,iI x)],[(1,ij (cG w))]⟩
def afz:LS:=⟨[],[]⟩
def adG (eA:Ny) (back:ZH) (n:Nat) (t16:bD) (t17 t18:Int) (b1:ae):A Int:=
 if U (t18<t17) then
 (idx t16 t18).bind λx2=>if U (8<(x2.ag.length:Int)) then
 V 2
 else
 if U (4<(x2.ar.length:Int)) then
 V 2
 else
 if U (4<(x2.aL.length:Int)) then
 V 2
 else
 back t16 t17 (aV (t18+1)) b1
 else
 eA b1
def aVP {eA} (gV:KK (yT [1,1,1]) uu eA) {back} (aK:KK (yT [0,1,0,1,1]) HK back) (n:Nat):KK (yT [0,1,0,1,1]) HK (adG eA back n):=λ_ _ _ _ r h=>ie h (λc0 h=>be h λ_ dg h=>let zA:SE:=[aD c0,(0,cy.idx dg)];ie h (λc1 h=>bu h zA [dm c1]) λc1 h=>ie h (λc2 h=>bu h zA [dm c1,bl c2]) λc2 h=>ie h (λc3 h=>bu h zA [dm c1,bl c2,bS c3]) λc3 h=>cC (aK h) zA [dm c1,bl c2,bS c3]) λc0 h=>ra (gV h) [aD c0]
def Qg (eA:Ny):Nat->bD->Int->Int->ae->A Int
 |0=>dw.z
 |n+1=>adG eA (Qg eA n) n
def aFG {eA} (gV:KK (yT [1,1,1]) uu eA):∀n:Nat,KK (yT [0,1,0,1,1]) HK (Qg eA n)
 |0=>KC.h
 |n+1=>aVP gV (aFG gV n) n
def adF (back:aP->bD->Int->Int->bw->Int->Int->ae->A Int) (n:Nat) (ME:aP) (t58:bD) (t59 t60:Int) (t69:bw) (t70 t71:Int) (b1:ae):A Int:=
 if U (t71<t70) then
 (idx t69 t71).bind λx2=>(F46 n ME [] x2).bind λx9=>if x9 !=0 then
 V x9
 else
 back ME t58 t59 t60 t69 t70 (aV (t71+1)) b1
 else
 cW t58 t59 t60 b1
def aVO {bh} (cL:KK (yT (aI 3887)) Ed bh) {back} (aK:KK (yT (aI 95023)) afA back) (n:Nat):KK (yT (aI 95023)) afA (adF bh back n):=λ_ _ _ _ _ _ _ _ r h=>ie h (λc0 h=>be h λ_ dg h=>be h λ_ iq h=>let zA:SE:=[aD c0,(0,fa.idx dg),mh (ev46 n iq)];ie h (λc1 h=>bu h zA [aQ c1]) λc1 h=>cC (aK h) zA [aQ c1]) λc0 h=>ra (cL h) [aD c0]
def Qf (bh:ZH):Nat->aP->bD->Int->Int->bw->Int->Int->ae->A Int
 |0=>dw.z
 |n+1=>adF bh (Qf bh n) n
def aFF {bh} (cL:KK (yT (aI 3887)) Ed bh):∀n:Nat,KK (yT (aI 95023)) afA (Qf bh n)
 |0=>KC.h
 |n+1=>aVO cL (aFF cL n) n
def adE (n:Nat) (t58:bD) (t59 t60:Int) (b1:ae):A Int:=
 cW t58 t59 (aV (t60+1)) b1
def aVN {br} (cO:KK (yT (aI 175)) Ed br) (n:Nat):KK (yT (aI 3887)) Ed (adE br n):=λ_ _ _ _ r h=>ra (cO h) []
def adD:A Int:=
 if U (dY<dW) then
 (idx dP dY).bind λx3=>(F45 ce d6 dY).bind λdu=>Qf (adE cW ce) ce du dP dW dY x3.aL (x3.aL.length:Int) 0 d6
 else
 cw
def aVM {cV} (eX:KK (yT [1,1,1,1,1]) afz cV) {back} (aK:KK (yT (aI 175)) Ed back) (n:Nat):KK (yT (aI 175)) Ed (adD cV back n):=λ_ _ _ _ r h=>ie h (λc0 h=>be h λ_ eP h=>be h λdu fB h=>ra (aFF (aVN aK n) n h) [aD c0,(1,cy.idx eP),(6,.call (aCy n fB) [] [(67,bF)]),(5,R3.eB 67 du)]) λc0 h=>ra (eX h) [aD c0]
def K1 (cV:A Int):Nat->bD->Int->Int->ae->A Int
 |0=>dw.z
 |n+1=>adD cV (K1 cV n) n
def aFE {cV} (eX:KK (yT [1,1,1,1,1]) afz cV):∀n:Nat,KK (yT (aI 175)) Ed (K1 cV n)
 |0=>KC.h
 |n+1=>aVM eX (aFE eX n) n
def VI (n:Nat):A Int:=
 V 0
def aVL:KK (yT [1,1,1,1,1]) afz (VI a):=λr h=>rr h []
def adC:A Int:=
 if U (i.aA<0) then
 V 70
 else
 if U (1000<i.aA) then
 V 70
 else
 (F43 a i).bind λdu=>if !du then
 V 70
 else
 (F44 a i).bind λiZ=>if !iZ then
 V 70
 else
 K1 (VI a) a i.ah (i.ah.length:Int) 0 i
def aVK:KK (yT [1,1,1]) uu (adC a):=λ_ r h=>ie h (λc0 h=>rr h [aQ c0]) λc0 h=>ie h (λc1 h=>rr h [aQ c0,aX c1]) λc1 h=>be h λ_ fB h=>let zA:SE:=[aQ c0,aX c1,ky (ev43 a fB)];ie h (λc2 h=>bu h zA [aD c2]) λc2 h=>be h λ_ iW h=>let zB:SE:=dv zA [aD c2,ky (ev44 a iW)];ie h (λc3 h=>bu h zB [aD c3]) λc3 h=>cC (aFE (aVL a) a h) zB [aD c3]
def auI:A Int:=
 if U (8<(i.ah.length:Int)) then
 V 2
 else
 Qg (adC a) a i.ah (i.ah.length:Int) 0 i
def aVJ:KK (yT []) uU (auI a):=λ_ r h=>ie h (λc0 h=>rr h [bS c0]) λc0 h=>ra (aFG (aVK a) a h) [bS c0]
def Jh:=auI
def arA:KK (Cx E0 15 dX bG) uU (Jh a):=λ_ _ h=>ca (X:=ga) (aVJ a h)
def x64:=fx E0 Tryz.f64 []
def A64:=Ax x64 dX bG
def avr:LS:=⟨[(0,.agg (cG i)),(1,bM g)],[]⟩
def auj:A Int:=
 (Jh a i).bind λx4=>if x4 !=0 then
 V x4
 else
 if g !=1 then
 if g !=2 then
 if g !=3 then
 V 1
 else
 V 0
 else
 V 0
 else
 V 0
def aTS:KK (A64 []) avr (auj a):=λ_ _ r h=>be h λ_ iB h=>let zA:SE:=[ky (arA a iB)];ie h (λc0 h=>bu h zA [aQ c0]) λc0 h=>let zB:SE:=dv zA [aQ c0];ie h (λc1 h=>ie h (λc2 h=>ie h (λc3 h=>bu h zB [aW c1,aQ c2,aX c3]) λc3 h=>bu h zB [aW c1,aQ c2,aX c3]) λc2 h=>bu h zB [aW c1,aQ c2]) λc1 h=>bu h zB [aW c1]
def F64:=auj
def ev64:KK (Cx E0 64 dX bG) avr (F64 a):=λ_ _ _ h=>ca (X:=x64) (aTS a h)
def qq:=fx E0 Tryz.f65 []
def A65:=Ax qq dX bG
def aeL:LS:=⟨[(3,iI b),(7,.slice 68 1 cu.length (pH cu)),(8,iI bC),(9,iI cv)],[]⟩
def aeK:LS:=⟨[(3,bM b)],[]⟩
def SY:LS:=⟨[(0,.agg (vz ch))],[]⟩
def acJ (aB:Wf6) (back:Int->cf->Int->Int->A Int) (n:Nat) (n3:Int) (t7:cf) (t8 t9:Int):A Int:=
 if U (t9<t8) then
 (idx t7 t9).bind λx2=>back (aV (n3+(x2.length:Int))) t7 t8 (aV (t9+1))
 else
 aB n3
def aTR {aB} (aU:KK (A65 [1,1,1]) aeK aB) {back} (aK:KK (A65 [0,1,0,1,1]) aeL back) (n:Nat):KK (A65 [0,1,0,1,1]) aeL (acJ aB back n):=λ_ _ _ _ r h=>ie h (λc0 h=>be h λ_ dg h=>ra (aK h) [aD c0,(0,po.idx dg)]) λc0 h=>ra (aU h) [aD c0]
def PX (aB:Wf6):Nat->Int->cf->Int->Int->A Int
 |0=>dw.z
 |n+1=>acJ aB (PX aB n) n
def aEY {aB} (aU:KK (A65 [1,1,1]) aeK aB):∀n:Nat,KK (A65 [0,1,0,1,1]) aeL (PX aB n)
 |0=>KC.h
 |n+1=>aTR aU (aEY aU n) n
def UX (n:Nat) (n3:Int):A Int:=
 V n3
def aTQ:KK (A65 [1,1,1]) aeK (UX a):=λ_ r h=>rr h []
def acI:A Int:=
 PX (UX a) a 0 ch.ah (ch.ah.length:Int) 0
def aTP:KK (A65 []) SY (acI a):=λ_ r h=>ra (aEY (aTQ a) a h) []
def F65:=acI
def ev65:KK (Cx E0 65 dX bG) SY (F65 a):=λ_ _ h=>ca (X:=qq) (aTP a h)
def x66:=fx E0 Tryz.f66 []
def LI:=Ax x66 cY bG
def aKJ:LS:=⟨[(3,iI b),aY 9,(10,iI d),aY 11,(12,.bool L),(13,.bool bs),(41,.slice 38 3 cU.length (db cU)),(42,iI bb),(43,iI cb)],[(9,ia (jN cc)),(11,xM (ir dn))]⟩
def aKI:LS:=⟨[(3,iI b),aY 9,(10,iI d),aY 11,(12,.bool L),(41,.slice 38 3 ad.length (db ad)),(42,iI ak),(43,iI W)],[(9,ia (jN ap)),(11,xM (ir az))]⟩
def L9:LS:=⟨[(3,iI b),aY 9,(41,.slice 38 3 f9.length (db f9)),(42,iI D),(43,iI g6)],[(9,ia (jN T))]⟩
def aeJ:LS:=⟨[],[]⟩
def aKH:LS:=⟨[(1,iI b),(2,.slice 38 3 f9.length (db f9)),(3,iI D),aY 4,(29,.bool L)],[(4,ij (cG ge))]⟩
def avq:LS:=⟨[(0,.agg (cG i)),(1,iI g),(2,.slice 38 3 f9.length (db f9)),(3,iI D)],[]⟩
def UW (n:Nat) (eu i10:Int) (ub Mr:Bool) (t41:bp) (t42 t43:Int) (b9:ai) (fj:aT):A Bool:=
 (idx b9.ag i10).bind λx6=>if fj.aE !=x6.aE then
 if !ub then
 if !Mr then
 V B
 else
 cR eu t41 t42 (aV (t43+1)) b9
 else
 cR eu t41 t42 (aV (t43+1)) b9
 else
 cR eu t41 t42 (aV (t43+1)) b9
def ash {bh} (cL:KK (LI (aI 175)) L9 bh) (n:Nat):KK (LI (aI 127791)) aKJ (UW bh n):=λ_ _ _ _ _ _ _ _ _ r h=>be h λ_ jV h=>let zA:SE:=[(5,fk.idx jV)];ie h (λc0 h=>ie h (λc1 h=>ie h (λc2 h=>bu h zA [aQ c0,aQ c1,aX c2]) λc2 h=>cC (cL h) zA [aQ c0,aQ c1,aX c2]) λc1 h=>cC (cL h) zA [aQ c0,aQ c1]) λc0 h=>cC (cL h) zA [aQ c0]
def Qq (ub:Bool) (t41:bp) (t42 t43:Int) (b9:ai) (fj:aT):A Bool:=
 if fj.aE==1 then
 if cT==3 then
 UW cR cS cT bb ub (!U (bb<b9.aH)) t41 t42 t43 b9 fj
 else
 UW cR cS cT bb ub B t41 t42 t43 b9 fj
 else
 UW cR cS cT bb ub B t41 t42 t43 b9 fj
def asf {bh} (cL:KK (LI (aI 175)) L9 bh) (n:Nat):KK (LI (aI 62255)) aKI (Qq bh n):=λ_ _ _ _ _ _ _ _ r h=>ie h (λc0 h=>ie h (λc1 h=>ra (ash cL n h) [aQ c0,aQ c1]) λc1 h=>ra (ash cL n h) [aQ c0,aQ c1]) λc0 h=>ra (ash cL n h) [aQ c0]
def acH:A Bool:=
 if U (cb<bb) then
 (idx cU cb).bind λx3=>(atz cS x3).bind λeW=>if !eW then
 V B
 else
 if x3.aE==2 then
 if cT !=1 then
 Qq cR cS cT cb (!U (cb<cc.aH)) cU bb cb cc x3
 else
 Qq cR cS cT cb B cU bb cb cc x3
 else
 Qq cR cS cT cb B cU bb cb cc x3
 else
 K
def aTO {br} (cO:KK (LI [1,1,1,1,1]) aeJ br) {back} (aK:KK (LI (aI 175)) L9 back) (n:Nat):KK (LI (aI 175)) L9 (acH br back n):=λ_ _ _ _ _ r h=>ie h (λc0 h=>be h λ_ eP h=>be h λ_ iF h=>let zA:SE:=[aD c0,(1,jh.idx eP),mh (aGA n iF)];ie h (λc1 h=>bu h zA [aD c1]) λc1 h=>ie h (λc2 h=>ie h (λc3 h=>cC (asf aK n h) zA [aD c1,aQ c2,aQ c3]) λc3 h=>cC (asf aK n h) zA [aD c1,aQ c2,aQ c3]) λc2 h=>cC (asf aK n h) zA [aD c1,aQ c2]) λc0 h=>ra (cO h) [aD c0]
def KR (br:A Bool):Nat->Int->bp->Int->Int->ai->A Bool
 |0=>dw.z
 |n+1=>acH br (KR br n) n
def aEX {br} (cO:KK (LI [1,1,1,1,1]) aeJ br):∀n:Nat,KK (LI (aI 175)) L9 (KR br n)
 |0=>KC.h
 |n+1=>aTO cO (aEX cO n) n
def UU (n:Nat):A Bool:=
 V M
def aTN:KK (LI [1,1,1,1,1]) aeJ (UU a):=λr h=>rr h []
def Lc:A Bool:=
 if L then
 V B
 else
 (idx ge.ah b).bind λx4=>if (f9.length:Int) !=(x4.ag.length:Int) then
 V B
 else
 KR (UU a) a D f9 (f9.length:Int) 0 x4
def abY:KK (LI [1,0,1]) aKH (Lc a):=λ_ _ _ _ _ r h=>ie h (λc0 bE=>by subst c0;exact (rr bE [])) λc0 bE=>by subst c0;exact (be bE λx4 iB bE=>ie bE (λc1 bE=>rr bE [(3,cy.idx iB),iS c1]) λc1 bE=>ra (aEX (aTN a) a bE) [(3,cy.idx iB),iS c1])
def aui:A Bool:=
 if D !=1 then
 if D !=2 then
 if D !=3 then
 Lc a g f9 D M i
 else
 (K6 a i g).bind λfN=>Lc a g f9 D (!fN) i
 else
 (K6 a i g).bind λiK=>Lc a g f9 D (!iK) i
 else
 (K6 a i g).bind λj8=>Lc a g f9 D (!j8) i
def aTM:KK (LI []) avq (aui a):=λ_ _ _ _ r h=>ie h (λc0 h=>ie h (λc1 h=>ie h (λc2 h=>ra (abY a h) [aX c0,aQ c1,aX c2]) λc2 h=>be h λ_ gU h=>ra (abY a h) [aX c0,aQ c1,aX c2,ku (Kp a gU)]) λc1 h=>be h λ_ iO h=>ra (abY a h) [aX c0,aQ c1,ze (Kp a iO)]) λc0 h=>be h λ_ jc h=>ra (abY a h) [aX c0,vt (Kp a jc)]
def F66:=aui
def aCw:KK (Cx E0 66 cY bG) avq (F66 a):=λ_ _ _ _ _ h=>ca (X:=x66) (aTM a h)
def x187:=fx E0 Tryz.f187 []
def A187:=Ax x187 cY bG
def OJ:LS:=⟨[(0,bM b)],[]⟩
def aka (n:Nat) (x0:Int):A Bool:=
 V (x0 !=x0)
def aMt:KK (A187 []) OJ (aka a):=λ_ r h=>rr h []
def atj:=aka
def aFZ:KK (Cx E0 187 cY bG) OJ (atj a):=λ_ _ h=>ca (X:=x187) (aMt a h)
def x160:=fx E0 Tryz.f160 []
def A160:=Ax x160 dX bG
def OL:LS:=⟨[(0,bM b),(1,bM d)],[]⟩
def aku:A Int:=
 (atj a b).bind λx3=>(atj a d).bind λx7=>if x3 then
 if x7 then
 V 0
 else
 V (-1)
 else
 if x7 then
 V 1
 else
 if U (b<d) then
 V (-1)
 else
 if U (d<b) then
 V 1
 else
 V 0
def aNs:KK (A160 []) OL (aku a):=λ_ _ r h=>be h λ_ eP h=>be h λ_ iQ h=>let zA:SE:=[jj (aFZ a eP),jj (aFZ a iQ)];ie h (λc0 bE=>by subst c0;exact (ie bE (λc1 qF=>by subst c1;exact (rr qF zA)) λc1 qF=>by subst c1;exact (rr qF zA))) λc0 bE=>by subst c0;exact (ie bE (λc1 qF=>by subst c1;exact (rr qF zA)) λc1 qF=>by subst c1;exact (ie qF (λc2 qF=>bu qF zA [bS c2]) λc2 qF=>ie qF (λc3 qF=>bu qF zA [bS c2,aQ c3]) λc3 qF=>bu qF zA [bS c2,aQ c3]))
def atn:=aku
def aRT:KK (Cx E0 160 dX bG) OL (atn a):=λ_ _ _ h=>ca (X:=x160) (aNs a h)
def x188:=fx E0 Tryz.f188 []
def A188:=Ax x188 cY bG
def ajZ (n:Nat) (x0:Int):A Bool:=
 V (x0 !=x0)
def aMs:KK (A188 []) OJ (ajZ a):=λ_ r h=>rr h []
def ati:=ajZ
def aFY:KK (Cx E0 188 cY bG) OJ (ati a):=λ_ _ h=>ca (X:=x188) (aMs a h)
def x161:=fx E0 Tryz.f161 []
def A161:=Ax x161 dX bG
def akt:A Int:=
 (ati a b).bind λx3=>(ati a d).bind λx7=>if x3 then
 if x7 then
 V 0
 else
 V (-1)
 else
 if x7 then
 V 1
 else
 if U (b<d) then
 V (-1)
 else
 if U (d<b) then
 V 1
 else
 V 0
def aNr:KK (A161 []) OL (akt a):=λ_ _ r h=>be h λ_ eP h=>be h λ_ iQ h=>let zA:SE:=[jj (aFY a eP),jj (aFY a iQ)];ie h (λc0 bE=>by subst c0;exact (ie bE (λc1 qF=>by subst c1;exact (rr qF zA)) λc1 qF=>by subst c1;exact (rr qF zA))) λc0 bE=>by subst c0;exact (ie bE (λc1 qF=>by subst c1;exact (rr qF zA)) λc1 qF=>by subst c1;exact (ie qF (λc2 qF=>bu qF zA [bS c2]) λc2 qF=>ie qF (λc3 qF=>bu qF zA [bS c2,aQ c3]) λc3 qF=>bu qF zA [bS c2,aQ c3]))
def atm:=akt
def aRS:KK (Cx E0 161 dX bG) OL (atm a):=λ_ _ _ h=>ca (X:=x161) (aNr a h)
def x189:=fx E0 Tryz.f189 []
def A189:=Ax x189 dX bG
def OI:LS:=⟨[(0,.str g8),(1,.str dp)],[]⟩
def ajY:A Int:=
 (atg a g8 dp).bind λx4=>V x4
def aMr:KK (A189 []) OI (ajY a):=λ_ _ r h=>be h λ_ iB h=>rr h [ky (aRG a iB)]
def aDA:=ajY
def aRL:KK (Cx E0 189 dX bG) OI (aDA a):=λ_ _ _ h=>ca (X:=x189) (aMr a h)
def x162:=fx E0 Tryz.f162 []
def A162:=Ax x162 dX bG
def aks:A Int:=
 (aDA a g8 dp).bind λx4=>V x4
def aNq:KK (A162 []) OI (aks a):=λ_ _ r h=>be h λ_ iB h=>rr h [ky (aRL a iB)]
def aDE:=aks
def aRR:KK (Cx E0 162 dX bG) OI (aDE a):=λ_ _ _ h=>ca (X:=x162) (aNq a h)
def x116:=fx E0 Tryz.f116 []
def A116:=Ax x116 dX bG
def OX:LS:=⟨(GV (ir az) (ir dn)),[]⟩
def alb:A Int:=
 if ((az.aE==dn.aE)&&((az.dj==dn.dj)&&((U (az.cM=dn.cM))&&M))) then
 V 0
 else
 (atn a az.aE dn.aE).bind λdu=>if du !=0 then
 V du
 else
 (atm a az.dj dn.dj).bind λlM=>if lM !=0 then
 V lM
 else
 (aDE a az.cM dn.cM).bind λx29=>V x29
def aPt:KK (A116 []) OX (alb a):=λ_ _ r h=>ie h (λc0 h=>rr h [bS c0]) λc0 h=>be h λ_ fB h=>let zA:SE:=[bS c0,ku (aRT a fB)];ie h (λc1 h=>bu h zA [aQ c1]) λc1 h=>be h λ_ j5 h=>let zB:SE:=dv zA [aQ c1,ku (aRS a j5)];ie h (λc2 h=>bu h zB [aQ c2]) λc2 h=>be h λ_ Kc h=>bu h zB [aQ c2,ku (aRR a Kc)]
def aty:=alb
def aSp:KK (Cx E0 116 dX bG) OX (aty a):=λ_ _ _ h=>ca (X:=x116) (aPt a h)
def x115:=fx E0 Tryz.f115 []
def Sy:=Ax x115 dX bG
def YC:LS:=⟨[(0,.slice 38 3 f9.length (db f9)),(1,.slice 38 3 ad.length (db ad)),(2,.fn 116 [] []),(11,.slice 38 3 cU.length (db cU)),(12,iI bb),(13,iI cb)],[]⟩
def YB:LS:=⟨[(0,.slice 38 3 f9.length (db f9)),(1,.slice 38 3 ad.length (db ad))],[]⟩
def amG:LS:=⟨[(0,.slice 38 3 f9.length (db f9)),(1,.slice 38 3 ad.length (db ad)),(2,.fn 116 [] [])],[]⟩
def Wu (aB:asN) (back:bp->bp->bp->Int->Int->A Int) (n:Nat) (BK BJ t11:bp) (t12 t13:Int):A Int:=
 if U (t13<t12) then
 (idx t11 t13).bind λx3=>if !U (t13<(BJ.length:Int)) then
 V 1
 else
 (idx BJ t13).bind λga=>(aty n x3 ga).bind λhY=>if hY !=0 then
 V hY
 else
 back BK BJ t11 t12 (aV (t13+1))
 else
 aB BK BJ
def aPw {aB} (aU:KK (Sy [1,1]) YB aB) {back} (aK:KK (Sy [0,1,0,1]) YC back) (n:Nat):KK (Sy [0,1,0,1]) YC (Wu aB back n):=λ_ _ _ _ _ r h=>ie h (λc0 h=>be h λ_ eP h=>let zA:SE:=[aD c0,(1,jh.idx eP)];ie h (λc1 h=>bu h zA [il c1]) λc1 h=>be h λ_ lu h=>be h λ_ oj h=>let zB:SE:=dv zA [il c1,(2,jh.idx lu),ze (aSp n oj)];ie h (λc2 h=>bu h zB [aQ c2]) λc2 h=>cC (aK h) zB [aQ c2]) λc0 h=>ra (aU h) [aD c0]
def Fo (aB:asN):Nat->bp->bp->bp->Int->Int->A Int
 |0=>dw.z
 |n+1=>Wu aB (Fo aB n) n
def ayl {aB} (aU:KK (Sy [1,1]) YB aB):∀n:Nat,KK (Sy [0,1,0,1]) YC (Fo aB n)
 |0=>KC.h
 |n+1=>aPw aU (ayl aU n) n
def Oa (n:Nat) (BK BJ:bp):A Int:=
 if U ((BK.length:Int)<(BJ.length:Int)) then
 V (-1)
 else
 V 0
def aPv:KK (Sy [1,1]) YB (Oa a):=λ_ _ r h=>ie h (λc0 h=>rr h [bl c0]) λc0 h=>rr h [bl c0]
def aAu:A Int:=
 Fo (Oa a) a f9 ad f9 (f9.length:Int) 0
def aPu:KK (Sy []) amG (aAu a):=λ_ _ r h=>ra (ayl (aPv a) a h) []
def F115:=aAu
def aSq:KK (Cx E0 115 dX bG) amG (F115 a):=λ_ _ _ h=>ca (X:=x115) (aPu a h)
def x67:=fx E0 Tryz.f67 []
def A67:=Ax x67 dX bG
def vG:LS:=⟨[(0,.slice 38 3 f9.length (db f9)),(1,.slice 38 3 ad.length (db ad))],[]⟩
def aHR:A Int:=
 (F115 a f9 ad).bind λx4=>V x4
def aTL:KK (A67 []) vG (aHR a):=λ_ _ r h=>be h λ_ iB h=>rr h [ky (aSq a iB)]
def F67:=aHR
def Na:KK (Cx E0 67 dX bG) vG (F67 a):=λ_ _ _ h=>ca (X:=x67) (aTL a h)
def abt:AV:=.slice 38 3 f9.length (db f9)
def x68:=fx E0 Tryz.f68 []
def A68:=Ax x68 abt bG
def HL:LS:=⟨[(0,.agg (cG i)),(1,iI g),(2,.slice 38 3 f9.length (db f9))],[]⟩
def auh (n:Nat) (s0:ae) (dx:Int) (lO:bp):A bp:=
 if U (dx<0) then
 V []
 else
 if !U (dx<(s0.ah.length:Int)) then
 V []
 else
 (idx s0.ah dx).bind λfN=>(cut lO G (V (if 0<(if (lO.length:Int)<fN.aH then (lO.length:Int) else fN.aH) then (if (lO.length:Int)<fN.aH then (lO.length:Int) else fN.aH) else 0))).bind λLR=>V LR
def aTK:KK (A68 []) HL (auh a):=λ_ _ _ r h=>ie h (λc0 h=>rr h [aX c0,(3,.qc 6 (.sl 0 38 3 0 []))]) λc0 h=>ie h (λc1 h=>rr h [aX c0,bS c1,(2,.qc 6 (.sl 0 38 3 0 []))]) λc1 h=>be h λ_ gU h=>be h λ_ EC h=>rr h [aX c0,bS c1,(5,cy.idx gU),(6,jh.cut EC)]
def F68:=auh
def RP:KK (Cx E0 68 abt bG) HL (F68 a):=λ_ _ _ _ h=>ca (X:=x68) (aTK a h)
def vk:=fx E0 Tryz.f26 []
def GM:=Ax vk dX bG
def afs:LS:=⟨[(1,iI b),aY 3,(8,iI d),(9,.slice 70 1 q.length (iM q)),(29,.slice 68 1 cu.length (pH cu)),(30,iI bC),(31,iI cv),(36,.slice 70 1 da.length (iM da)),(37,iI cl),(38,iI df)],[(3,ij (cG dl))]⟩
def Ea:LS:=⟨[(1,iI b),aY 3,(29,.slice 68 1 cu.length (pH cu)),(30,iI bC),(31,iI cv)],[(3,ij (cG bJ))]⟩
def afr:LS:=⟨[],[]⟩
def avG:LS:=⟨[(0,.agg (cG i)),(1,bM g),(2,.agg (vz ch))],[]⟩
def adu (back:Int->Int->bn->cf->Int->Int->bn->Int->Int->ae->A Int) (n:Nat) (dI t8:Int) (O2:bn) (t29:cf) (t30 t31:Int) (t36:bn) (t37 t38:Int) (b3:ae):A Int:=
 if U (t38<t37) then
 (idx t36 t38).bind λx3=>(F66 n b3 t8 x3 dI).bind λj8=>if !j8 then
 V 80
 else
 if U (0<t38) then
 (idx O2 (aV (t38-1))).bind λhY=>(F68 n b3 t8 hY).bind λx26_=>(F68 n b3 t8 x3).bind λvj=>(F67 n x26_ vj).bind λkQ=>if !U (kQ<0) then
 V 80
 else
 back dI t8 O2 t29 t30 t31 t36 t37 (aV (t38+1)) b3
 else
 back dI t8 O2 t29 t30 t31 t36 t37 (aV (t38+1)) b3
 else
 cB dI t29 t30 t31 b3
def aVu {aB} (aU:KK (GM (aI 3887)) Ea aB) {back} (aK:KK (GM (aI 45871)) afs back) (n:Nat):KK (GM (aI 45871)) afs (adu aB back n):=λ_ _ _ _ _ _ _ _ _ _ r h=>ie h (λc0 h=>be h λ_ eP h=>be h λ_ jc h=>let zA:SE:=[aD c0,(1,jW.idx eP),vt (aCw n jc)];ie h (λc1 h=>bu h zA [aD c1]) λc1 h=>let zB:SE:=dv zA [aD c1,(0,.ord [0,1,2,3,4,5,6,7,8,9,11,12,13,10,14,15,16,17])];ie h (λc2 h=>be h λ_ oj h=>be h λ_ tY h=>be h λ_ tW h=>be h λ_ p6 h=>let zC:SE:=dv zB [aW c2,(6,jW.idx oj),ku (RP n tY),jM (RP n tW),jM (Na n p6)];ie h (λc3 h=>bu h zC [aD c3]) λc3 h=>cC (aK h) zC [aD c3]) λc2 h=>cC (aK h) zB [aW c2]) λc0 h=>ra (aU h) [aD c0]
def Qb (aB:asM):Nat->Int->Int->bn->cf->Int->Int->bn->Int->Int->ae->A Int
 |0=>dw.z
 |n+1=>adu aB (Qb aB n) n
def aFy {aB} (aU:KK (GM (aI 3887)) Ea aB):∀n:Nat,KK (GM (aI 45871)) afs (Qb aB n)
 |0=>KC.h
 |n+1=>aVu aU (aFy aU n) n
def adt (n:Nat) (dI:Int) (t29:cf) (t30 t31:Int) (b3:ae):A Int:=
 cB dI t29 t30 (aV (t31+1)) b3
def aVt {bh} (cL:KK (GM (aI 175)) Ea bh) (n:Nat):KK (GM (aI 3887)) Ea (adt bh n):=λ_ _ _ _ _ r h=>ra (cL h) []
def ads (t29:cf) (t30 t31:Int) (b3:ae):A Int:=
 if U (t31<t30) then
 (idx t29 t31).bind λx3=>Qb (adt cB cE) cE bY t31 x3 t29 t30 t31 x3 (x3.length:Int) 0 b3
 else
 cw
def aVs {br} (cO:KK (GM [1,1,1,1,1]) afr br) {back} (aK:KK (GM (aI 175)) Ea back) (n:Nat):KK (GM (aI 175)) Ea (ads br back n):=λ_ _ _ _ _ r h=>ie h (λc0 h=>be h λ_ eP h=>ra (aFy (aVt aK n) n h) [aD c0,(1,po.idx eP)]) λc0 h=>ra (cO h) [aD c0]
def KZ (br:A Int):Nat->Int->cf->Int->Int->ae->A Int
 |0=>dw.z
 |n+1=>ads br (KZ br n) n
def aFx {br} (cO:KK (GM [1,1,1,1,1]) afr br):∀n:Nat,KK (GM (aI 175)) Ea (KZ br n)
 |0=>KC.h
 |n+1=>aVs cO (aFx cO n) n
def U8 (n:Nat):A Int:=
 V 0
def aVr:KK (GM [1,1,1,1,1]) afr (U8 a):=λr h=>rr h []
def auD:A Int:=
 (F64 a i g).bind λx6=>if x6 !=0 then
 V x6
 else
 (F65 a ch).bind λj8=>if U (512<j8) then
 V 2
 else
 if (ch.ah.length:Int) !=(i.ah.length:Int) then
 V 80
 else
 KZ (U8 a) a g ch.ah (ch.ah.length:Int) 0 i
def aVq:KK (GM []) avG (auD a):=λ_ _ _ r h=>be h λ_ jV h=>let zA:SE:=[mh (ev64 a jV)];ie h (λc0 h=>bu h zA [aQ c0]) λc0 h=>be h λ_ jc h=>let zB:SE:=dv zA [aQ c0,qT (ev65 a jc)];ie h (λc1 h=>bu h zB [aD c1]) λc1 h=>ie h (λc2 h=>bu h zB [aD c1,dm c2]) λc2 h=>cC (aFx (aVr a) a h) zB [aD c1,dm c2]
def F26:=auD
def aCB:KK (Cx E0 26 dX bG) avG (F26 a):=λ_ _ _ _ h=>ca (X:=vk) (aVq a h)
def x147:=fx E0 Tryz.f147 []
def A147:=Ax x147 dX bG
def amu:LS:=⟨[(0,bM b)],[]⟩
def aAc (n:Nat) (c0:Int):A Int:=
 V c0
def aNT:KK (A147 []) amu (aAc a):=λ_ r h=>rr h []
def ajt:=aAc
def aGq:KK (Cx E0 147 dX bG) amu (ajt a):=λ_ _ h=>ca (X:=x147) (aNT a h)
def x146:=fx E0 Tryz.f146 []
def Lm:=Ax x146 HS bG
def Sk:=Cx E0 146 HS bG
def XY:LS:=⟨[(1,.fn 147 [] []),aY 4,aY 5,(33,.slice 107 13 y.length (dV y)),(34,iI m),(35,iI s)],[(4,kY (fy am .cr)),(5,kY (fy g7 (.ms 45 13 0 O.length))),(45,GX O)]⟩
def XX:LS:=⟨[aY 4,aY 5],[(4,kY (fy p .cr)),(5,kY (fy am (.ms 45 13 0 O.length))),(45,GX O)]⟩
def amv (b4 b5:aj):LS:=⟨[(1,.fn 147 [] []),aY 2,aY 4,aY 5],[(2,kY (fW p)),(4,q2_),(5,kY (fW b5))]⟩
def yx:LS:=⟨[(0,.agg (fW p)),(1,.fn 147 [] [])],[]⟩
def VT (back:bw->Int->Int->aj->aj->bw->A aj) (n:Nat) (t33:bw) (t34 t35:Int) (b4 b5:aj) (fK:bw):A aj:=
 if U (t35<t34) then
 (idx t33 t35).bind λx2=>(bz x2).bind λdu=>(app fK [du]).bind λiK=>back t33 t34 (aV (t35+1)) (ad3 b4.bg b4.fI b4.cQ b4.cx []) (ad3 b5.bg b5.fI b5.cQ b5.cx iK) iK
 else
 d2 (ad3 b4.bg b4.fI b4.cQ b4.cx []) (ad3 b5.bg b5.fI b5.cQ b5.cx fK) fK
def aNW {ka} (rT:KK Sk yx ka) {aB} (aU:KK (Lm (aI 127)) XX aB) {back} (aK:KK (Lm (aI 351)) XY back) (n:Nat):KK (Lm (aI 351)) XY (VT ka aB back n):=λ_ _ _ _ _ _ r h=>ie h (λc0 h=>be h λ_ dg h=>be h λdu fB h=>be h λ_ iO h=>ra (aK h) [aD c0,(0,fa.idx dg),vt (rT fB),(0,.laid (bH (Bx.rows B 107 13) (fa.map [du]).symm)),(0,fa.jU iO)]) λc0 h=>ra (aU h) [aD c0]
def IU (ka:PH) (aB:asP):Nat->bw->Int->Int->aj->aj->bw->A aj
 |0=>dw.z
 |n+1=>VT ka aB (IU ka aB n) n
def axJ {ka} (rT:KK Sk yx ka) {aB} (aU:KK (Lm (aI 127)) XX aB):∀n:Nat,KK (Lm (aI 351)) XY (IU ka aB n)
 |0=>KC.h
 |n+1=>aNW rT aU (axJ rT aU n) n
def VS (ka:PH) (n:Nat) (b4 b5:aj) (fK:bw):A aj:=
 V (ad3 b5.bg b5.fI b5.cQ b5.cx fK)
def aNV {ka} (rT:KK Sk yx ka) (n:Nat):KK (Lm (aI 127)) XX (VS ka n):=λ_ _ fK r h=>rr h [(2,fa.eB 45 fK),(0,.nQ 4 (.flat 0 (zx 12 [.sl 0 0 0 0 []])))]
def N2 (b4 b5:aj):A aj:=
 IU bz (VS bz bA) bA aO.fArgs (aO.fArgs.length:Int) 0 sw (ad3 b5.bg b5.fI b5.cQ b5.cx []) []
def azn {ka} (rT:KK Sk yx ka) (n:Nat):KK (Lm [1,1,1,1]) amv (N2 ka n):=λ_ _ _ r h=>ra (axJ rT (aNV rT n) n h) [(6,.born [] [(5,12)] 45 M 107 13)]
def N1 (b4 b5:aj):A aj:=
 if b5.cx.aE==1 then
 (ajt bA b5.cx.dk).bind λx9=>N2 bz bA aO sw (ad3 b5.bg b5.fI b5.cQ (bO.mk b5.cx.aE x9 b5.cx.bk) b5.fArgs)
 else
 N2 bz bA aO sw b5
def azm {ka} (rT:KK Sk yx ka) (n:Nat):KK (Lm [1,1,1]) amv (N1 ka n):=λ_ _ _ r h=>ie h (λc0 h=>be h λ_ iq h=>ra (azn rT n h) [aX c0,ku (aGq n iq)]) λc0 h=>ra (azn rT n h) [aX c0]
def akH:A aj:=
 if aO.cQ.aE==1 then
 (ajt bA aO.cQ.dk).bind λiK=>N1 bz bA aO sw (ad3 aO.bg aO.fI (bO.mk aO.cQ.aE iK aO.cQ.bk) aO.cx aO.fArgs)
 else
 N1 bz bA aO sw aO
def aNU {ka} (rT:KK Sk yx ka) (n:Nat):KK (Lm []) yx (akH ka n):=λ_ r h=>ie h (λc0 h=>be h λ_ iO h=>ra (azm rT n h) [iS c0,ku (aGq n iO)]) λc0 h=>ra (azm rT n h) [iS c0]
def K4:Nat->aj->A aj
 |0,_=>G
 |n+1,p0=>akH (K4 n) n p0
def aGr:∀n:Nat,KK Sk yx (K4 n)
 |0=>λ_ _ h=>nz h
 |n+1=>λ_ _ h=>ca (X:=x146) (aNU (aGr n) n h)
def x159:=fx E0 Tryz.f159 []
def A159:=Ax x159 dX bG
def aIu:LS:=⟨[(0,bM b),(23,.bool L)],[]⟩
def amq:LS:=⟨[(0,bM b),(1,bM d),(2,bM g)],[]⟩
def Jr (n:Nat) (lJ:Int) (t23:Bool):A Int:=
 if t23 then
 V (aV (lJ+1))
 else
 V lJ
def Uo:KK (A159 (aI 505)) aIu (Jr a):=λ_ _ r h=>ie h (λc0 bE=>by subst c0;exact (rr bE [])) λc0 bE=>by subst c0;exact (rr bE [])
def akv:A Int:=
 if b==d then
 V g
 else
 if U (d<b) then
 if !U (g<b) then
 V (aV (b-1))
 else
 if !U (b<g) then
 Jr a b (U (b<d))
 else
 Jr a b B
 else
 if !U (b<g) then
 Jr a b (U (b<d))
 else
 Jr a b B
def aNt:KK (A159 []) amq (akv a):=λ_ _ _ r h=>ie h (λc0 h=>rr h [aX c0]) λc0 h=>ie h (λc1 h=>let zA:SE:=[aX c0,aX c1];ie h (λc2 h=>bu h zA [aX c2]) λc2 h=>ie h (λc3 h=>cC (Uo a h) zA [aX c2,bl c3]) λc3 h=>cC (Uo a h) zA [aX c2,bl c3]) λc1 h=>ie h (λc2 h=>ra (Uo a h) [aX c0,aX c1,bS c2]) λc2 h=>ra (Uo a h) [aX c0,aX c1,bS c2]
def ato:=akv
def aRU:KK (Cx E0 159 dX bG) amq (ato a):=λ_ _ _ _ h=>ca (X:=x159) (aNt a h)
def awi (r:(Int×Int×Bool)):AV:=.dq [bM r.1,bM r.2.1,.bool r.2.2]
def x113:=fx E0 Tryz.f113 []
def A113:=Ax x113 awi bG
def amH:LS:=⟨[(0,.agg (nU C)),(1,bM D),(2,bM g6)],[]⟩
def Wv:A (Int×Int×Bool):=
 if C.bg==7 then
 if D==C.av then
 V ((-1),(-1),B)
 else
 if U (C.av<D) then
 V (aV (D-1),g6,M)
 else
 V (D,g6,M)
 else
 if C.bg==2 then
 if D==C.av then
 if !U (g6<0) then
 if g6==C.ba then
 V (D,(-1),B)
 else
 if U (C.ba<g6) then
 V (D,aV (g6-1),M)
 else
 V (D,g6,M)
 else
 V (D,g6,M)
 else
 V (D,g6,M)
 else
 if C.bg==3 then
 if D==C.av then
 if !U (g6<0) then
 (ato a g6 C.ba C.kM).bind λvk=>V (D,vk,M)
 else
 V (D,g6,M)
 else
 V (D,g6,M)
 else
 V (D,g6,M)
def aPy:KK (A113 []) amH (Wv a):=λ_ _ _ r h=>ie h (λc0 h=>ie h (λc1 h=>rr h [dm c0,bl c1]) λc1 h=>ie h (λc2 h=>rr h [dm c0,bl c1,aX c2]) λc2 h=>rr h [dm c0,bl c1,aX c2]) λc0 h=>ie h (λc1 h=>let zA:SE:=[dm c0,aW c1];ie h (λc2 h=>let zB:SE:=dv zA [bl c2];ie h (λc3 h=>ie h (λc4 h=>bu h zB [aQ c3,bl c4]) λc4 h=>ie h (λc5 h=>bu h zB [aQ c3,bl c4,aX c5]) λc5 h=>bu h zB [aQ c3,bl c4,aX c5]) λc3 h=>bu h zB [aQ c3]) λc2 h=>bu h zA [bl c2]) λc1 h=>let zA:SE:=[dm c0,aW c1];ie h (λc2 h=>ie h (λc3 h=>ie h (λc4 h=>be h λ_ tY h=>bu h zA [aW c2,bl c3,aQ c4,ze (aRU a tY)]) λc4 h=>bu h zA [aW c2,bl c3,aQ c4]) λc3 h=>bu h zA [aW c2,bl c3]) λc2 h=>bu h zA [aW c2]
def ZZ:=Wv
def aGB:KK (Cx E0 113 awi bG) amH (ZZ a):=λ_ _ _ _ h=>ca (X:=x113) (aPy a h)
def x198:=fx E0 Tryz.f198 [1,9000]
def A198:=AxS x198 [1,9000] dX bG
def C198:=CxS E0 198 [1,9000] dX bG
def amh:LS:=⟨[(0,bM b),aY 1],[(1,age),(9000,l4 (bj c (.ms Ey 5 0 c.bZ.ah.length)))]⟩
def ajS:A Int:=
 (ZZ a c.fm c.fm.av b).bind λj8=>V j8.2.1
def aMh:KK (A198 []) amh (ajS a):=λ_ _ r h=>be h λ_ jc h=>Lu h [(11,uC (aGB a jc))]
def Sb:=ajS
def ary:KK C198 amh (Sb a):=λ_ _ _ h=>caS (X:=x198) (aMh a h)
def aDQ:=fx E0 Tryz.f146 [9000,eZ]
def Dw:=AxS aDQ [9000,100100] HS bG
def K9:=CxS E0 146 [9000,100100] HS bG
def Re:LS:=⟨[(1,.fn 198 [] [.loc eZ 0]),aY 4,aY 5,(33,.slice 107 13 y.length (dV y)),(34,iI m),(35,iI s)],[(4,kY (fy am .cr)),(5,kY (fy g7 (.ms 45 13 0 O.length))),(45,GX O),(9000,l4 (bj ay (.ms Ey 5 0 ay.bZ.ah.length))),(eZ,age)]⟩
def Rc:LS:=⟨[aY 4,aY 5],[(4,kY (fy p .cr)),(5,kY (fy am (.ms 45 13 0 O.length))),(45,GX O),(9000,l4 (bj c (.ms Ey 5 0 c.bZ.ah.length))),(eZ,age)]⟩
def afF (b4 b5:aj):LS:=⟨[(1,.fn 198 [] [.loc eZ 0]),aY 2,aY 4,aY 5],[(2,kY (fW p)),(4,q2_),(5,kY (fW b5)),(9000,l4 (bj c (.ms Ey 5 0 c.bZ.ah.length))),(eZ,age)]⟩
def vH:LS:=⟨[(0,.agg (fW p)),(1,.fn 198 [] [.loc eZ 0])],[(9000,l4 (bj ay (.ms Ey 5 0 ay.bZ.ah.length))),(eZ,age)]⟩
def QH (aB:Wf40) (back:bw->Int->Int->aJ->aj->aj->bw->A aj) (n:Nat) (t33:bw) (t34 t35:Int) (jk:aJ) (b4 b5:aj) (fK:bw):A aj:=
 if U (t35<t34) then
 (idx t33 t35).bind λx2=>(bo x2 jk).bind λdu=>(app fK [du]).bind λiK=>back t33 t34 (aV (t35+1)) jk (ad3 b4.bg b4.fI b4.cQ b4.cx []) (ad3 b5.bg b5.fI b5.cQ b5.cx iK) iK
 else
 aB jk (ad3 b4.bg b4.fI b4.cQ b4.cx []) (ad3 b5.bg b5.fI b5.cQ b5.cx fK) fK
def aJN {iL} (o8:KK K9 vH iL) {aB} (aU:KK (Dw (aI 127)) Rc aB) {back} (aK:KK (Dw (aI 351)) Re back) (n:Nat):KK (Dw (aI 351)) Re (QH iL aB back n):=λ_ _ _ _ _ _ _ r h=>ie h (λc0 h=>be h λ_ dg h=>be h λdu fB h=>be h λ_ iO h=>HV (aK h) (by kernel_rfl) [aD c0,(0,fa.idx dg),(7,.call (o8 fB) [(9000,9000),(eZ,eZ)] []),(0,.laid (bH (Bx.rows B 107 13) (fa.map [du]).symm)),(0,fa.jU iO)]) λc0 h=>HV (aU h) (by kernel_rfl) [aD c0]
def DU (iL:PG) (aB:Wf40):Nat->bw->Int->Int->aJ->aj->aj->bw->A aj
 |0=>dw.z
 |n+1=>QH iL aB (DU iL aB n) n
def anO {iL} (o8:KK K9 vH iL) {aB} (aU:KK (Dw (aI 127)) Rc aB):∀n:Nat,KK (Dw (aI 351)) Re (DU iL aB n)
 |0=>KC.h
 |n+1=>aJN o8 aU (anO o8 aU n) n
def QG (iL:PG) (n:Nat) (jk:aJ) (b4 b5:aj) (fK:bw):A aj:=
 V (ad3 b5.bg b5.fI b5.cQ b5.cx fK)
def aJM {iL} (o8:KK K9 vH iL) (n:Nat):KK (Dw (aI 127)) Rc (QG iL n):=λ_ _ _ fK r h=>Lu h [(2,fa.eB 45 fK),(0,.nQ 4 (.flat 0 (zx 12 [.sl 0 0 0 0 []])))]
def Jw (b4 b5:aj):A aj:=
 DU bo (QG bo a5) a5 ci.fArgs (ci.fArgs.length:Int) 0 dd sw (ad3 b5.bg b5.fI b5.cQ b5.cx []) []
def aon {iL} (o8:KK K9 vH iL) (n:Nat):KK (Dw [1,1,1,1]) afF (Jw iL n):=λ_ _ _ _ r h=>HV (anO o8 (aJM o8 n) n h) (by kernel_rfl) [(6,.born [] [(5,12)] 45 M 107 13)]
def Jv (b4 b5:aj):A aj:=
 if b5.cx.aE==1 then
 (Sb a5 b5.cx.dk dd).bind λx9=>Jw bo a5 dd ci sw (ad3 b5.bg b5.fI b5.cQ (bO.mk b5.cx.aE x9 b5.cx.bk) b5.fArgs)
 else
 Jw bo a5 dd ci sw b5
def aom {iL} (o8:KK K9 vH iL) (n:Nat):KK (Dw [1,1,1]) afF (Jv iL n):=λ_ _ _ _ r h=>ie h (λc0 h=>be h λ_ iq h=>HV (aon o8 n h) (by kernel_rfl) [aX c0,(4,.call (ary n iq) [(eZ,1),(9000,9000)] [])]) λc0 h=>HV (aon o8 n h) (by kernel_rfl) [aX c0]
def Z6:A aj:=
 if a7.cQ.aE==1 then
 (Sb a5 a7.cQ.dk dd).bind λiK=>Jv bo a5 dd a7 sw (ad3 a7.bg a7.fI (bO.mk a7.cQ.aE iK a7.cQ.bk) a7.cx a7.fArgs)
 else
 Jv bo a5 dd a7 sw a7
def aJL {iL} (o8:KK K9 vH iL) (n:Nat):KK (Dw []) vH (Z6 iL n):=λ_ _ r h=>ie h (λc0 h=>be h λ_ iO h=>HV (aom o8 n h) (by kernel_rfl) [iS c0,(4,.call (ary n iO) [(eZ,1),(9000,9000)] [])]) λc0 h=>HV (aom o8 n h) (by kernel_rfl) [iS c0]
def Ds:Nat->aj->aJ->A aj
 |0,_,_=>G
 |n+1,p0,jk=>Z6 (Ds n) n p0 jk
def ayG:∀n:Nat,KK K9 vH (Ds n)
 |0=>λ_ _ _ h=>nz h
 |n+1=>λ_ _ _ h=>caS (X:=aDQ) (aJL (ayG n) n h)
def x96:=fx E0 Tryz.f96 []
def JA:=Ax x96 Td O7
def aek:LS:=⟨[aY 1,aY 2,aY 3,(17,.slice 121 2 S.length (eD S)),(18,iI g6),(19,iI aa)],[(1,ia (jN T)),(2,ia (eT E .cr .cr .cr)),(3,ia (eT ac (.ms 12 2 0 N.length) (.ms ti 2 0 f7.length) .cr)),(12,aqi N),(ti,CP f7)]⟩
def aej:LS:=⟨[aY 2,aY 3,(36,.slice 107 13 y.length (dV y)),(37,iI m),(38,iI s)],[(2,ia (eT T .cr .cr .cr)),(3,ia (eT E (.ms 12 2 0 N.length) (.ms ti 2 0 bU.length) (.ms 47 13 0 O.length))),(12,aqi N),(47,GX O),(ti,CP bU)]⟩
def aei:LS:=⟨aqm,[(2,ia (eT u .cr .cr .cr)),(3,ia (eT T (.ms 12 2 0 N.length) (.ms ti 2 0 bU.length) (.ms 47 13 0 O.length))),(12,aqi N),(47,GX O),(ti,CP bU)]⟩
def aeh:LS:=⟨[aY 1,aY 2,aY 3],[(1,ia (jN u)),(2,ia (eT T .cr .cr .cr)),(3,ia (eT E (.ms 12 2 0 N.length) (.ms ti 2 0 f7.length) .cr)),(12,aqi N),(ti,CP f7)]⟩
def acm (br:Wf41) (back:bQ->Int->Int->ai->ai->ai->di->bQ->A ai) (n:Nat) (t17:bQ) (t18 t19:Int) (b1 b2 b3:ai) (cD:di) (jS:bQ):A ai:=
 if U (t19<t18) then
 (idx t17 t19).bind λx2=>(app [] x2.ag).bind λdu=>(app jS [(bq.mk du x2.av)]).bind λiZ=>(setAt iZ jS.length (bq.mk du x2.av)).bind λz21=>back t17 t18 (aV (t19+1)) b1 (ad1 b2.aM [] b2.aH [] []) (ad1 b3.aM cD b3.aH z21 []) cD z21
 else
 br b1 (ad1 b2.aM [] b2.aH [] []) (ad1 b3.aM cD b3.aH jS []) cD jS
def aSG {br} (cO:KK (JA [1,1,1]) aeh br) {back} (aK:KK (JA [0,1,0,1,1]) aek back) (n:Nat):KK (JA [0,1,0,1,1]) aek (acm br back n):=λ_ _ _ _ _ b3 cD jS r h=>ie h (λc0 h=>be h λx2 dg h=>be h λdu fB h=>be h λ_ iW h=>be h λ_ zg h=>ra (aK h) [aD c0,(0,fD.idx dg),(3,.born [] [] 27 M 3 1),(4,R3.app (xs:= []) fB),(4,fD.L5 iW),(2,.beq ti (bH (λq_=>Bx.tree 121 2 YZ q_ [(jS.length*2+0,.ms 27 1 0 du.length)]) (fD.apS (r:= (qu x2.av)) iW))),(0,fD.iN R3 (r:= (qu x2.av)) ti 27 0 B 3 1 du zg),(2,.beq 3 (bH (λn_=>((ia (eT b3 (.ms 12 2 0 cD.length) (.ms ti 2 0 n_) .cr)))) (((fD.apL iW).trans (eG zg)))))]) λc0 h=>ra (cO h) [aD c0]
def PK (br:Wf41):Nat->bQ->Int->Int->ai->ai->ai->di->bQ->A ai
 |0=>dw.z
 |n+1=>acm br (PK br n) n
def aEF {br} (cO:KK (JA [1,1,1]) aeh br):∀n:Nat,KK (JA [0,1,0,1,1]) aek (PK br n)
 |0=>KC.h
 |n+1=>aSG cO (aEF cO n) n
def ack (bh:Wf42) (back:bw->Int->Int->ai->ai->di->bw->bQ->A ai) (n:Nat) (t36:bw) (t37 t38:Int) (b2 b3:ai) (cD:di) (Ns:bw) (jS:bQ):A ai:=
 if U (t38<t37) then
 (idx t36 t38).bind λx2=>(K4 n x2).bind λeW=>(app Ns [eW]).bind λdB=>back t36 t37 (aV (t38+1)) (ad1 b2.aM [] b2.aH [] []) (ad1 b3.aM cD b3.aH jS dB) cD dB jS
 else
 bh (ad1 b2.aM [] b2.aH [] []) (ad1 b3.aM cD b3.aH jS Ns) cD Ns jS
def aSF {bh} (cL:KK (JA [1,1,1,1]) aei bh) {back} (aK:KK (JA (aI 87)) aej back) (n:Nat):KK (JA (aI 87)) aej (ack bh back n):=λ_ _ _ _ _ _ _ _ r h=>ie h (λc0 h=>be h λ_ dg h=>be h λeW iF h=>be h λ_ fG h=>ra (aK h) [aD c0,(0,fa.idx dg),ze (aGr n iF),(0,.laid (bH (Bx.rows B 107 13) (fa.map [eW]).symm)),(0,fa.jU fG)]) λc0 h=>ra (cL h) [aD c0]
def PJ (bh:Wf42):Nat->bw->Int->Int->ai->ai->di->bw->bQ->A ai
 |0=>dw.z
 |n+1=>ack bh (PJ bh n) n
def aEE {bh} (cL:KK (JA [1,1,1,1]) aei bh):∀n:Nat,KK (JA (aI 87)) aej (PJ bh n)
 |0=>KC.h
 |n+1=>aSF cL (aEE cL n) n
def atJ (n:Nat) (b2 b3:ai) (cD:di) (Ns:bw) (jS:bQ):A ai:=
 V (ad1 b3.aM cD b3.aH jS Ns)
def aSE:KK (JA [1,1,1,1]) aei (atJ a):=λ_ _ _ _ _ r h=>rr h [(2,.ja 12 uA),(0,.ja ti 201003),(0,.ja 47 201004)]
def acj:A ai:=
 PJ (atJ a) a u.aL (u.aL.length:Int) 0 (ad1 T.aM [] T.aH [] []) (ad1 E.aM N E.aH f7 []) N [] f7
def aSD:KK (JA [1,1,1]) aeh (acj a):=λ_ _ _ _ _ r h=>ra (aEE (aSE a) a h) [(4,.born [] [(3,4)] 47 M 107 13)]
def atI:A ai:=
 (app [] u.ag).bind λx7=>PK (acj a) a u.ar (u.ar.length:Int) 0 u (ad1 vp [] 0 [] []) (ad1 u.aM x7 u.aH [] []) x7 []
def aSC:KK (JA []) OP (atI a):=λ_ r h=>be h λ_ iQ h=>ra (aEF (aSD a) a h) [(2,.born [] [] 12 M 73 2),(4,fk.app (xs:= []) iQ),(9,.born [] [(3,3)] ti M 121 2)]
def F96:=atI
def ev96:KK (Cx E0 96 Td O7) OP (F96 a):=λ_ _ h=>ca (X:=x96) (aSC a h)
def aEp:AV:=.agg [q4_ i,.ms uA 5 0 i.ah.length]
def awG:List (Nat×Bx):= [(uA,.tree 44 5 ow (dG i.ah) [])]
def CM:=fx E0 Tryz.f41 []
def A41:=Ax CM aEp awG
def afc:LS:=⟨[aY 2,aY 3,(10,.slice 44 5 t.length (dG t)),(11,iI o),(12,iI x)],[(2,AB w),(3,td R vQ I.length),(vQ,zZ I)]⟩
def afb:LS:=⟨aqm,[(2,AB i),(3,td w vQ I.length),(vQ,zZ I)]⟩
def adb (aB:Wf43) (back:bD->Int->Int->ae->ae->bD->A ae) (n:Nat) (t10:bD) (t11 t12:Int) (b2 b3:ae) (pO:bD):A ae:=
 if U (t12<t11) then
 (idx t10 t12).bind λx2=>(F96 n x2).bind λeW=>(app pO [eW]).bind λdB=>(setAt dB pO.length eW).bind λxh=>back t10 t11 (aV (t12+1)) (ad0 b2.aA []) (ad0 b3.aA xh) xh
 else
 aB (ad0 b2.aA []) (ad0 b3.aA pO) pO
def aUI {aB} (aU:KK (A41 [1,1,1]) afb aB) {back} (aK:KK (A41 [0,1,0,1,1]) afc back) (n:Nat):KK (A41 [0,1,0,1,1]) afc (adb aB back n):=λ_ _ _ _ b3 pO r h=>ie h (λc0 h=>be h λ_ dg h=>be h λeW iF h=>be h λ_ fG h=>be h λ_ oP h=>ra (aK h) [aD c0,(0,cy.idx dg),(6,.call (ev96 n iF) [] [(330190001,uA),(330190003,201003),(330190004,201004)]),(1,cy.L5 fG),(2,.beq vQ (bH (λq_=>Bx.tree 44 5 ow q_ (aqo (pO.length*5+1) 330190001 eW (pO.length*5+3) 330190003 (pO.length*5+4) 330190004)) (cy.apS (r:= (cP eW)) fG))),(0,cy.kF fk (r:= (cP eW)) vQ 330190001 1 B 73 2 eW.ag oP (tH eW)),(0,cy.kF fD (r:= (tH eW)) vQ 330190003 3 B 121 2 eW.ar oP (nI eW)),(0,cy.iN fa (r:= (nI eW)) vQ 330190004 4 B 107 13 eW.aL oP),(2,.beq 3 (bH (td b3 vQ) (((cy.apL fG).trans (eG oP)))))]) λc0 h=>ra (aU h) [aD c0]
def P5 (aB:Wf43):Nat->bD->Int->Int->ae->ae->bD->A ae
 |0=>dw.z
 |n+1=>adb aB (P5 aB n) n
def aFk {aB} (aU:KK (A41 [1,1,1]) afb aB):∀n:Nat,KK (A41 [0,1,0,1,1]) afc (P5 aB n)
 |0=>KC.h
 |n+1=>aUI aU (aFk aU n) n
def auv (n:Nat) (b2 b3:ae) (pO:bD):A ae:=
 V (ad0 b3.aA pO)
def aUH:KK (A41 [1,1,1]) afb (auv a):=λ_ _ _ r h=>rr h [(2,.ja vQ uA)]
def auu:A ae:=
 P5 (auv a) a i.ah (i.ah.length:Int) 0 (ad0 0 []) (ad0 i.aA []) []
def aUG:KK (A41 []) uU (auu a):=λ_ r h=>ra (aFk (aUH a) a h) [(11,.born [] [(3,1)] vQ M 44 5)]
def F41:=auu
def Ko:KK (Cx E0 41 aEp awG) uU (F41 a):=λ_ _ h=>ca (X:=CM) (aUG a h)
def awa:AV:=.el bI 5 a 0
def x178:=fxR E0 Tryz.f178 [0,bI]
def A178:=AxS x178 [0,8589934592] awa bG
def C178:=CxSR E0 178 [0,8589934592] awa bG
def nG:LS:=⟨[aY 0],(q6_ (bj c (.ms bI 5 0 c.bZ.ah.length)) bI c)⟩
def Vu (n:Nat) (g0:aJ):A Nat:=
 (eh g0.bZ.ah.length g0.fm.av).bind λj8=>V (0+j8)
def aMK:KK (A178 []) nG (Vu a):=λ_ r h=>be h λ_ jc h=>Lu h [(11,de jc)]
def Fu:=Vu
def Pt:KK C178 nG (Fu a):=λ_ _ h=>caSR (X:=x178) (aMK a h)
def amR:AV:=.kH (jN u)
def aDP:=fx E0 Tryz.f178 []
def aWl:=Ax aDP amR bG
def Au:LS:=⟨[(0,.kH (EV c))],[]⟩
def Z5 (n:Nat) (g0:aJ):A ai:=
 (idx g0.bZ.ah g0.fm.av).bind λj8=>V j8
def aJK:KK (aWl []) Au (Z5 a):=λ_ r h=>be h λ_ jc h=>rr h [(11,cy.idx jc)]
def Ql:=Z5
def T9:KK (Cx E0 178 amR bG) Au (Ql a):=λ_ _ h=>ca (X:=aDP) (aJK a h)
def x179:=fx E0 Tryz.f179 []
def A179:=Ax x179 cY bG
def aml:LS:=⟨[(0,.agg (ir az)),(1,bM aC)],[]⟩
def ake:A Bool:=
 (ZV a az).bind λx4=>if x4 then
 V (az.aE==aC)
 else
 V B
def aMJ:KK (A179 []) aml (ake a):=λ_ _ r h=>be h λ_ iB h=>ie h (λc0 bE=>by subst c0;exact (rr bE [ky (abP a iB)])) λc0 bE=>by subst c0;exact (rr bE [ky (abP a iB)])
def ZT:=ake
def arz:KK (Cx E0 179 cY bG) aml (ZT a):=λ_ _ _ h=>ca (X:=x179) (aMJ a h)
def rM:AV:=.bool dr.1
def rC:List (Nat×Bx):= (q6_ (bj dr.2 (.ms bI 5 0 dr.2.bZ.ah.length)) bI dr.2)
def x148:=fx E0 Tryz.f148 [0,bI]
def A148:=Ax x148 rM rC
def akG:A (Bool×aJ):=
 (Fu a c).bind λx3=>(c.bZ.ah[x3]?).bind λu6=>(app u6.ag [(cF.mk c.fm.aM c.fm.aE)]).bind λgw=>(ZT a c.fm.bk c.fm.aE).bind λx40=>(setAt c.bZ.ah x3 (ad1 u6.aM gw u6.aH u6.ar u6.aL)).bind λz43=>V (x40,(ad2 (ad0 c.bZ.aA z43) c.fm))
def aNS:KK (A148 []) nG (akG a):=λg0 r h=>be h λ_ eP h=>be h λu6 BQ h=>be h λgw ld h=>be h λ_ aBR h=>be h λ_ hz43 h=>rr h [(2,.call (Pt a eP) [(0,0),(bI,bI)] []),(1,cy.oC fk bI gM 1 B 73 2 u6.ag BQ (bX u6)),(17,fk.jU ld),(2,cy.zi 1 (bX u6) (bX u6) BQ),(10,uC (arz a aBR)),(1,cy.iN fk (r:= (bX u6)) bI gM 1 B 73 2 gw hz43),(0,.beq 0 (bH (λn_=>((l4 (bj g0 (.ms bI 5 0 n_))))) (eG hz43)))]
def ajs:=akG
def aSc:KK (Cx E0 148 rM rC) nG (ajs a):=λ_ _ h=>ca (X:=x148) (aNS a h)
def x180:=fx E0 Tryz.f180 []
def A180:=Ax x180 cY bG
def amk:LS:=⟨[(0,.kH (EV c)),(1,bM g)],[]⟩
def akd:A Bool:=
 (Ql a c).bind λx3=>if !U (g<x3.aH) then
 V (U (g<(x3.ag.length:Int)))
 else
 V B
def aMI:KK (A180 []) amk (akd a):=λ_ _ r h=>be h λ_ eP h=>ie h (λc0 h=>rr h [jj (T9 a eP),dm c0]) λc0 h=>rr h [jj (T9 a eP),dm c0]
def Se:=akd
def abO:KK (Cx E0 180 cY bG) amk (Se a):=λ_ _ _ h=>ca (X:=x180) (aMI a h)
def x217:=fx E0 Tryz.f217 []
def Sm:=Ax x217 dX bG
def Xk:LS:=⟨[(0,.slice 3 1 j.length (dM j)),(1,iI g),(7,iI o),(8,iI x)],[]⟩
def Xj:LS:=⟨[],[]⟩
def OG:LS:=⟨[(0,.slice 3 1 j.length (dM j)),(1,iI g)],[]⟩
def Vd (back:aP->Int->Int->Int->A Int) (n:Nat) (s0:aP) (v1 t7 t8:Int):A Int:=
 if U (t8<t7) then
 (idx s0 t8).bind λx7=>if v1==x7 then
 V t8
 else
 back s0 v1 t7 (aV (t8+1))
 else
 cw
def aMa {aB} (aU:KK (Sm [1,1]) Xj aB) {back} (aK:KK (Sm [0,1,0,1]) Xk back) (n:Nat):KK (Sm [0,1,0,1]) Xk (Vd aB back n):=λ_ _ _ _ r h=>ie h (λc0 h=>be h λ_ iQ h=>ie h (λc1 h=>rr h [aD c0,(5,R3.idx iQ),aW c1]) λc1 h=>ra (aK h) [aD c0,(5,R3.idx iQ),aW c1]) λc0 h=>ra (aU h) [aD c0]
def ID (aB:A Int):Nat->aP->Int->Int->Int->A Int
 |0=>dw.z
 |n+1=>Vd aB (ID aB n) n
def axi {aB} (aU:KK (Sm [1,1]) Xj aB):∀n:Nat,KK (Sm [0,1,0,1]) Xk (ID aB n)
 |0=>KC.h
 |n+1=>aMa aU (axi aU n) n
def Vc (n:Nat):A Int:=
 V (-1)
def aLZ:KK (Sm [1,1]) Xj (Vc a):=λr h=>rr h []
def ajQ:A Int:=
 ID (Vc a) a j g (j.length:Int) 0
def aLY:KK (Sm []) OG (ajQ a):=λ_ _ r h=>ra (axi (aLZ a) a h) []
def aDx:=ajQ
def aRD:KK (Cx E0 217 dX bG) OG (aDx a):=λ_ _ _ h=>ca (X:=x217) (aLY a h)
def x196:=fx E0 Tryz.f196 []
def A196:=Ax x196 cY bG
def ajU:A Bool:=
 (aDx a j g).bind λx4=>V (!U (x4<0))
def aMj:KK (A196 []) OG (ajU a):=λ_ _ r h=>be h λ_ iB h=>rr h [ky (aRD a iB)]
def aiX:=ajU
def aFV:KK (Cx E0 196 cY bG) OG (aiX a):=λ_ _ _ h=>ca (X:=x196) (aMj a h)
def x214:=fx E0 Tryz.f214 []
def A214:=Ax x214 dX bG
def OH:LS:=⟨[(0,.int .u64 b)],[]⟩
def azU (n:Nat) (x0:Int):A Int:=
 if !U (x0<4294967296) then
 G
 else
 if !U (x0<65536) then
 G
 else
 if !U (x0<256) then
 G
 else
 (G3 (xp #[0,1,2,2,3,3,3,3,4,4,4,4,4,4,4,4,5,5,5,5,5,5,5,5,5,5,5,5,5,5,5,5,6,6,6,6,6,6,6,6,6,6,6,6,6,6,6,6,6,6,6,6,6,6,6,6,6,6,6,6,6,6,6,6,7,7,7,7,7,7,7,7,7,7,7,7,7,7,7,7,7,7,7,7,7,7,7,7,7,7,7,7,7,7,7,7,7,7,7,7,7,7,7,7,7,7,7,7,7,7,7,7,7,7,7,7,7,7,7,7,7,7,7,7,7,7,7,7,8,8,8,8,8,8,8,8,8,8,8,8,8,8,8,8,8,8,8,8,8,8,8,8,8,8,8,8,8,8,8,8,8,8,8,8,8,8,8,8,8,8,8,8,8,8,8,8,8,8,8,8,8,8,8,8,8,8,8,8,8,8,8,8,8,8,8,8,8,8,8,8,8,8,8,8,8,8,8,8,8,8,8,8,8,8,8,8,8,8,8,8,8,8,8,8,8,8,8,8,8,8,8,8,8,8,8,8,8,8,8,8,8,8,8,8,8,8,8,8,8,8,8,8,8,8,8,8]) (U' .u8 (x0))).bind λdu=>V (aV (0+(aV ((du.toNat:Int)))))
def aMe:KK (A214 []) OH (azU a):=λ_ r h=>ie h (λc0 h=>nz h) λc0 h=>ie h (λc1 h=>nz h) λc1 h=>ie h (λc2 h=>nz h) λc2 h=>be h λ_ fB h=>rr h [aQ c0,aW c1,aW c2,(3,.chr (fB))]
def F214:=azU
def aRF:KK (Cx E0 214 dX bG) OH (F214 a):=λ_ _ h=>ca (X:=x214) (aMe a h)
def x191:=fx E0 Tryz.f191 []
def A191:=Ax x191 dX bG
def azV:A Int:=
 (F214 a b).bind λx3=>V x3
def aMq:KK (A191 []) OH (azV a):=λ_ r h=>be h λ_ eP h=>rr h [jj (aRF a eP)]
def ZR:=azV
def aRK:KK (Cx E0 191 dX bG) OH (ZR a):=λ_ _ h=>ca (X:=x191) (aMq a h)
def avY:AV:=.ms jt 1 0 eo.2.length
def amZ:List (Nat×Bx):= [(jt,wZ eo.2)]
def x218:=fx E0 Tryz.f218 [jt]
def yd:=Ax x218 avY amZ
def K8:=Cx E0 218 avY amZ
def aIl:LS:=⟨[(0,tQ jt a2.length),aY 3,aY 6,(16,.agg (Ud bd)),(17,bM aC)],[(3,kY (fW a7)),(6,.flat 105 (rY a8)),(jt,wZ a2)]⟩
def OF:LS:=⟨[(0,tQ jt a2.length),aY 3,(16,.agg (Ud bd)),(17,bM aC)],[(3,kY (fW a7)),(jt,wZ a2)]⟩
def Xi:LS:=⟨[(0,.ms jt 1 0 af.length),(35,.slice 107 13 y.length (dV y)),(36,iI m),(37,iI s)],[(jt,wZ af)]⟩
def Xh:LS:=⟨[(0,tQ jt j.length)],[(jt,wZ j)]⟩
def Xg:LS:=⟨[(0,tQ jt j.length),aY 3],[(3,kY (fW p)),(jt,wZ j)]⟩
def uV:LS:=⟨[(0,tQ jt j.length),(1,.agg (fW p))],[(jt,wZ j)]⟩
def NQ (gO:Gw) (aB:Wf44) (n:Nat) (t16:lS) (t17:Int) (jg:aP) (b3:aj) (b6:bO):A (aP×aP):=
 if b6.aE==1 then
 if !U (b6.dk<0) then
 (app jg [b6.dk]).bind λdB=>aB t16 (aV (t17+1)) dB b3
 else
 aB t16 (aV (t17+1)) jg b3
 else
 aB t16 (aV (t17+1)) jg b3
def azf {gO} (nv:KK K8 uV gO) {aB} (aU:KK (yd (aI 85)) OF aB) (n:Nat):KK (yd (aI 6549)) aIl (NQ gO aB n):=λ_ _ _ _ _ r h=>ie h (λc0 h=>ie h (λc1 h=>be h λ_ fG h=>ra (aU h) [aQ c0,aX c1,(5,R3.jU fG)]) λc1 h=>ra (aU h) [aQ c0,aX c1]) λc0 h=>ra (aU h) [aQ c0]
def azT (cV:Wf45) (back:Wf44) (n:Nat) (t16:lS) (t17:Int) (jg:aP) (b3:aj):A (aP×aP):=
 if U (t17<2) then
 if t17==0 then
 NQ bi back n t16 0 jg b3 t16.f0
 else
 if t17==1 then
 NQ bi back n t16 1 jg b3 t16.f1
 else
 G
 else
 cV jg b3
def aLX {gO} (nv:KK K8 uV gO) {cV} (eX:KK (yd [1,1]) Xg cV) {back} (aK:KK (yd (aI 85)) OF back) (n:Nat):KK (yd (aI 85)) OF (azT gO cV back n):=λ_ _ _ _ r h=>ie h (λc0 h=>ie h (λc1 bE=>by have c1:=eq_of_beq c1;subst c1;exact (
 ra (azf nv aK n bE) [])) λc1 h=>ie h (λc2 bE=>by have c2:=eq_of_beq c2;subst c2;exact (
 ra (azf nv aK n bE) [])) λc2 h=>nz h) λc0 h=>ra (eX h) [aD c0]
def xy (gO:Gw) (cV:Wf45):Nat->lS->Int->aP->aj->A (aP×aP)
 |0=>dw.z
 |n+1=>azT gO cV (xy gO cV n) n
def axh {gO} (nv:KK K8 uV gO) {cV} (eX:KK (yd [1,1]) Xg cV):∀n:Nat,KK (yd (aI 85)) OF (xy gO cV n)
 |0=>KC.h
 |n+1=>aLX nv eX (axh nv eX n) n
def Vb (br:aP->A (aP×aP)) (back:bw->Int->Int->aP->A (aP×aP)) (n:Nat) (t35:bw) (t36 t37:Int) (jg:aP):A (aP×aP):=
 if U (t37<t36) then
 (idx t35 t37).bind λx2=>(bi jg x2).bind λx9=>back t35 t36 (aV (t37+1)) x9.2
 else
 br jg
def aLW {gO} (nv:KK K8 uV gO) {br} (cO:KK (yd [1,1,1]) Xh br) {back} (aK:KK (yd [0,1,0,1,1]) Xi back) (n:Nat):KK (yd [0,1,0,1,1]) Xi (Vb gO br back n):=λ_ _ _ _ r h=>ie h (λc0 h=>be h λ_ dg h=>be h λ_ iq h=>ra (aK h) [aD c0,(0,fa.idx dg),(5,.call (nv iq) [(jt,jt)] [])]) λc0 h=>ra (cO h) [aD c0]
def IC (gO:Gw) (br:aP->A (aP×aP)):Nat->bw->Int->Int->aP->A (aP×aP)
 |0=>dw.z
 |n+1=>Vb gO br (IC gO br n) n
def axg {gO} (nv:KK K8 uV gO) {br} (cO:KK (yd [1,1,1]) Xh br):∀n:Nat,KK (yd [0,1,0,1,1]) Xi (IC gO br n)
 |0=>KC.h
 |n+1=>aLW nv cO (axg nv cO n) n
def Va (gO:Gw) (n:Nat) (jg:aP):A (aP×aP):=
 V (jg,jg)
def aLV {gO} (nv:KK K8 uV gO) (n:Nat):KK (yd [1,1,1]) Xh (Va gO n):=λ_ r h=>rr h []
def Jm:A (aP×aP):=
 IC bi (Va bi a5) a5 aO.fArgs (aO.fArgs.length:Int) 0 bT
def aze {gO} (nv:KK K8 uV gO) (n:Nat):KK (yd [1,1]) Xg (Jm gO n):=λ_ _ r h=>ra (axg nv (aLV nv n) n h) []
def ajP:A (aP×aP):=
 if aO.bg==3 then
 xy bi (Jm bi a5) a5 (lS.mk aO.cQ aO.cx) 0 bT aO
 else
 Jm bi a5 bT aO
def aLU {gO} (nv:KK K8 uV gO) (n:Nat):KK (yd []) uV (ajP gO n):=λ_ _ r h=>ie h (λc0 h=>ra (axh nv (aze nv n) n h) [bl c0]) λc0 h=>ra (aze nv n h) [bl c0]
def Hi:Nat->aP->aj->A (aP×aP)
 |0,_,_=>G
 |n+1,wM,p1=>ajP (Hi n) n wM p1
def aFU:∀n:Nat,KK K8 uV (Hi n)
 |0=>λ_ _ _ h=>nz h
 |n+1=>λ_ _ _ h=>ca (X:=x218) (aLU (aFU n) n h)
def aDO:=fx E0 Tryz.f218 []
def um:=Ax aDO Be BM
def aAI:LS:=⟨[(0,.ms 32 1 0 a2.length),aY 3,aY 6,(16,.agg (Ud bd)),(17,bM aC)],[(3,kY (fW a7)),(6,.flat 105 (rY a8)),(32,Ml a2)]⟩
def JE:LS:=⟨[(0,.ms 32 1 0 a2.length),aY 3,(16,.agg (Ud bd)),(17,bM aC)],[(3,kY (fW a7)),(32,Ml a2)]⟩
def Rb:LS:=⟨[(0,.ms 32 1 0 af.length),(35,.slice 107 13 y.length (dV y)),(36,iI m),(37,iI s)],[(32,wZ af)]⟩
def Ra:LS:=⟨[(0,.ms 32 1 0 j.length)],[(32,wZ j)]⟩
def Q9:LS:=⟨[(0,.ms 32 1 0 j.length),aY 3],[(3,kY (fW p)),(32,Ml j)]⟩
def afD:LS:=⟨[(0,.cr),(1,.agg (fW p))],[]⟩
def Ju (aB:Wf46) (n:Nat) (t16:lS) (t17:Int) (cm:aP) (b3:aj) (b6:bO):A aP:=
 if b6.aE==1 then
 if !U (b6.dk<0) then
 (app cm [b6.dk]).bind λdB=>aB t16 (aV (t17+1)) dB b3
 else
 aB t16 (aV (t17+1)) cm b3
 else
 aB t16 (aV (t17+1)) cm b3
def aol {aB} (aU:KK (um (aI 85)) JE aB) (n:Nat):KK (um (aI 6549)) aAI (Ju aB n):=λ_ _ _ _ _ r h=>ie h (λc0 h=>ie h (λc1 h=>be h λ_ fG h=>ra (aU h) [aQ c0,aX c1,(5,R3.jU fG)]) λc1 h=>ra (aU h) [aQ c0,aX c1]) λc0 h=>ra (aU h) [aQ c0]
def aps (cV:asS) (back:Wf46) (n:Nat) (t16:lS) (t17:Int) (cm:aP) (b3:aj):A aP:=
 if U (t17<2) then
 if t17==0 then
 Ju back n t16 0 cm b3 t16.f0
 else
 if t17==1 then
 Ju back n t16 1 cm b3 t16.f1
 else
 G
 else
 cV cm b3
def aJJ {cV} (eX:KK (um [1,1]) Q9 cV) {back} (aK:KK (um (aI 85)) JE back) (n:Nat):KK (um (aI 85)) JE (aps cV back n):=λ_ _ _ _ r h=>ie h (λc0 h=>ie h (λc1 bE=>by have c1:=eq_of_beq c1;subst c1;exact (
 ra (aol aK n bE) [])) λc1 h=>ie h (λc2 bE=>by have c2:=eq_of_beq c2;subst c2;exact (
 ra (aol aK n bE) [])) λc2 h=>nz h) λc0 h=>ra (eX h) [aD c0]
def u9 (cV:asS):Nat->lS->Int->aP->aj->A aP
 |0=>dw.z
 |n+1=>aps cV (u9 cV n) n
def anN {cV} (eX:KK (um [1,1]) Q9 cV):∀n:Nat,KK (um (aI 85)) JE (u9 cV n)
 |0=>KC.h
 |n+1=>aJJ eX (anN eX n) n
def QF (back:bw->Int->Int->aP->A aP) (n:Nat) (t35:bw) (t36 t37:Int) (cm:aP):A aP:=
 if U (t37<t36) then
 (idx t35 t37).bind λx2=>(Hi n cm x2).bind λx9=>back t35 t36 (aV (t37+1)) x9.2
 else
 cZ cm
def aJI {br} (cO:KK (um [1,1,1]) Ra br) {back} (aK:KK (um [0,1,0,1,1]) Rb back) (n:Nat):KK (um [0,1,0,1,1]) Rb (QF br back n):=λ_ _ _ _ r h=>ie h (λc0 h=>be h λ_ dg h=>be h λ_ iq h=>ra (aK h) [aD c0,(0,fa.idx dg),(5,.call (aFU n iq) [(32,jt)] [])]) λc0 h=>ra (cO h) [aD c0]
def DT (br:Wf0):Nat->bw->Int->Int->aP->A aP
 |0=>dw.z
 |n+1=>QF br (DT br n) n
def anM {br} (cO:KK (um [1,1,1]) Ra br):∀n:Nat,KK (um [0,1,0,1,1]) Rb (DT br n)
 |0=>KC.h
 |n+1=>aJI cO (anM cO n) n
def QE (n:Nat) (cm:aP):A aP:=
 V cm
def aJH:KK (um [1,1,1]) Ra (QE a):=λ_ r h=>rr h [(2,.ja 32 bF)]
def DW:A aP:=
 DT (QE a) a p.fArgs (p.fArgs.length:Int) 0 j
def aok:KK (um [1,1]) Q9 (DW a):=λ_ _ r h=>ra (anM (aJH a) a h) []
def Z4:A aP:=
 if p.bg==3 then
 u9 (DW a) a (lS.mk p.cQ p.cx) 0 [] p
 else
 DW a [] p
def aJG:KK (um []) afD (Z4 a):=λ_ r h=>ie h (λc0 h=>ra (anN (aok a) a h) [bl c0,(6,.born [0] [] 32 M 3 1)]) λc0 h=>ra (aok a h) [bl c0,(0,.born [0] [] 32 M 3 1)]
def acg:=Z4
def aLB:KK (Cx E0 218 Be BM) afD (acg a):=λ_ _ h=>ca (X:=aDO) (aJG a h)
def x197:=fx E0 Tryz.f197 []
def A197:=Ax x197 Be BM
def ajT:A aP:=
 (acg a p).bind λx4=>(ajh a x4).bind λx8=>(iP x8.length x4.length).bind λw9=>(aiW a x8).bind λj8=>V j8.2
def aMi:KK (A197 []) DC (ajT a):=λ_ r h=>be h λ_ iB h=>be h λ_ lj h=>be h λ_ hw9 h=>be h λ_ jc h=>rr h [(3,.call (aLB a iB) [] [(5,bF)]),(2,.call (aRP a lj) [(5,0)] []),(1,.seq 8 (bH (AV.ms 5 1 0) ((pq hw9).symm))),(0,.call (aRC a jc) [(5,0)] []),(1,.ja 5 bF)]
def ath:=ajT
def aRJ:KK (Cx E0 197 Be BM) DC (ath a):=λ_ _ h=>ca (X:=x197) (aMi a h)
def x181:=fx E0 Tryz.f181 []
def A6:=Ax x181 cY bG
def Xx:LS:=⟨[(0,.kH (EV c)),(3,.kH (jN u)),(13,.slice 121 2 S.length (eD S)),(14,iI g6),(15,iI aa)],[]⟩
def Xw:LS:=⟨[(0,.kH (EV c)),(31,.slice 107 13 y.length (dV y)),(32,iI m),(33,iI s)],[]⟩
def Xv:LS:=⟨[],[]⟩
def Xu:LS:=⟨[(0,.kH (EV c)),(3,.kH (jN u))],[]⟩
def Vt (br:aHq) (back:aJ->ai->bQ->Int->Int->A Bool) (n:Nat) (g0:aJ) (t3:ai) (t13:bQ) (t14 t15:Int):A Bool:=
 if U (t15<t14) then
 (idx t13 t15).bind λx2=>(aiX n x2.ag g0.fm.ba).bind λiK=>if iK then
 V M
 else
 back g0 t3 t13 t14 (aV (t15+1))
 else
 br g0 t3
def aMH {br} (cO:KK (A6 [1,1,1]) Xu br) {back} (aK:KK (A6 [0,1,0,1,1]) Xx back) (n:Nat):KK (A6 [0,1,0,1,1]) Xx (Vt br back n):=λ_ _ _ _ _ r h=>ie h (λc0 h=>be h λ_ dg h=>be h λ_ iO h=>let zA:SE:=[aD c0,(0,fD.idx dg),(10,uC (aFV n iO))];ie h (λc1 bE=>by subst c1;exact (rr bE zA)) λc1 bE=>by subst c1;exact (ra (aK bE) zA)) λc0 h=>ra (cO h) [aD c0]
def II (br:aHq):Nat->aJ->ai->bQ->Int->Int->A Bool
 |0=>dw.z
 |n+1=>Vt br (II br n) n
def axr {br} (cO:KK (A6 [1,1,1]) Xu br):∀n:Nat,KK (A6 [0,1,0,1,1]) Xx (II br n)
 |0=>KC.h
 |n+1=>aMH cO (axr cO n) n
def Vs (back:aJ->bw->Int->Int->A Bool) (n:Nat) (g0:aJ) (t31:bw) (t32 t33:Int):A Bool:=
 if U (t33<t32) then
 (idx t31 t33).bind λx2=>(ath n x2).bind λx8=>(aiX n x8 g0.fm.ba).bind λga=>if ga then
 V M
 else
 back g0 t31 t32 (aV (t33+1))
 else
 K
def aMG {bh} (cL:KK (A6 [1,1,1,1]) Xv bh) {back} (aK:KK (A6 (aI 87)) Xw back) (n:Nat):KK (A6 (aI 87)) Xw (Vs bh back n):=λ_ _ _ _ r h=>ie h (λc0 h=>be h λ_ dg h=>be h λx8 lj h=>be h λ_ lu h=>let zA:SE:=[aD c0,(0,fa.idx dg),(3,.ord [0,2,3,4,5,6,1,7]),(6,uC (cd (e:=3) (z:=B) (Q:=dM x8) (aRJ n lj) (R3.len x8))),jM (aFV n lu)];ie h (λc1 bE=>by subst c1;exact (rr bE zA)) λc1 bE=>by subst c1;exact (ra (aK bE) zA)) λc0 h=>ra (cL h) [aD c0]
def IH (bh:A Bool):Nat->aJ->bw->Int->Int->A Bool
 |0=>dw.z
 |n+1=>Vs bh (IH bh n) n
def axq {bh} (cL:KK (A6 [1,1,1,1]) Xv bh):∀n:Nat,KK (A6 (aI 87)) Xw (IH bh n)
 |0=>KC.h
 |n+1=>aMG cL (axq cL n) n
def Vr (n:Nat):A Bool:=
 V B
def aMF:KK (A6 [1,1,1,1]) Xv (Vr a):=λr h=>rr h []
def Vq:A Bool:=
 IH (Vr a) a c u.aL (u.aL.length:Int) 0
def aME:KK (A6 [1,1,1]) Xu (Vq a):=λ_ _ r h=>ra (axq (aMF a) a h) []
def akc:A Bool:=
 (Ql a c).bind λx3=>II (Vq a) a c x3 x3.ar (x3.ar.length:Int) 0
def aMD:KK (A6 []) Au (akc a):=λ_ r h=>be h λ_ eP h=>ra (axr (aME a) a h) [jj (T9 a eP)]
def ajc:=akc
def aGd:KK (Cx E0 181 cY bG) Au (ajc a):=λ_ _ h=>ca (X:=x181) (aMD a h)
def avZ (r:aJ):AV:=.dq []
def ane:List (Nat×Bx):= (q6_ (bj c (.ms bI 5 0 c.bZ.ah.length)) bI c)
def x183:=fx E0 Tryz.f183 [0,bI]
def wj:=Ax x183 avZ ane
def Xt:LS:=⟨[(2,.el bI 5 a 0),(3,aqk),aY 5,(16,.ms fF 2 0 dh.length),(17,bM b),(18,bM d),(23,tQ pL bT.length),(24,bM g),(25,bM o)],[(0,l4 (bj ay (.ms bI 5 0 cI.length))),(1,aqj),(5,.flat 121 [tQ pL bT.length,bM bP.av]),(bI,YY (((dG cI)).set a (BC cc)) (a*5+3) fF dh.length),(fF,.tree 121 2 YZ (((eD dh)).set dt (qu d1.av)) [(dt*2+0,tQ pL bT.length)]),(pL,wZ bT)]⟩
def Am:LS:=⟨[(2,.el bI 5 a 0),(3,aqk),(16,.ms fF 2 0 S.length),(17,bM b),(18,bM d)],[(0,l4 (bj c (.ms bI 5 0 t.length))),(1,aqj),(bI,YY (((dG t)).set a (BC u)) (a*5+3) fF S.length),(fF,CP S)]⟩
def Xs:LS:=⟨[(2,.el bI 5 a 0),(3,aqk),(42,.ms kT 13 0 y.length),(43,bM b),(44,bM d)],[(0,l4 (bj c (.ms bI 5 0 I.length))),(1,aqj),(bI,.tree 44 5 ow (((dG I)).set a (nI E)) [(a*5+4,.ms kT 13 0 y.length)]),(kT,Em y)]⟩
def Xr:LS:=⟨[(2,.el bI 5 a 0),(3,aqk)],[(0,l4 (bj c (.ms bI 5 0 t.length))),(1,aqj),(bI,zZ t)]⟩
def Vp (back:Nat->Int->Int->Int->Int->aJ->bq->aP->bD->ai->bQ->bq->Nat->A aJ) (n:Nat) (lh:Nat) (t17 t18 t24 t25:Int) (b0:aJ) (b5:bq) (tq:aP) (ck:bD) (bR:ai) (dZ:bQ) (xY:bq) (we:Nat):A aJ:=
 if U (t25<t24) then
 (eh tq.length t25).bind λx3=>(tq[0+x3]?).bind λx5=>(Sb n x5 (ad2 (ad0 b0.bZ.aA ck) b0.fm)).bind λiK=>(eh tq.length t25).bind λfN=>(tq[0+fN]?).bind λgS=>(setAt tq (0+fN) iK).bind λz19=>back lh t17 t18 t24 (aV (t25+1)) (ad2 (ad0 b0.bZ.aA ck) b0.fm) (bq.mk z19 b5.av) z19 ck (ad1 bR.aM bR.ag bR.aH [] bR.aL) dZ (bq.mk [] xY.av) we
 else
 (setAt dZ we (bq.mk tq xY.av)).bind λz2=>dK lh t17 t18 (ad2 (ad0 b0.bZ.aA ck) b0.fm) ck (ad1 bR.aM bR.ag bR.aH [] bR.aL) z2
def aMC {aB} (aU:KK (wj (aI 1943)) Am aB) {back} (aK:KK (wj (aI 22935)) Xt back) (n:Nat):KK (wj (aI 22935)) Xt (Vp aB back n):=λlh _ _ _ _ _ b5 tq ck bR dZ xY we r h=>ie h (λc0 h=>be h λ_ eP h=>be h λ_ iw h=>be h λiK iO h=>be h λ_ gU h=>be h λ_ jl h=>be h λ_ J9 h=>ra (aK h) [aD c0,(1,de eP),(0,R3.row iw),(7,.call (ary n iO) [(1,1),(0,9000)] [(bI,Ey)]),(0,de gU),(0,R3.ur 0 [bM iK] jl J9),(2,.seq 23 (bH (AV.ms pL 1 0) (eG J9))),(0,.beq 5 (bH (λn_=>(Bx.flat 121 [tQ pL n_,bM b5.av])) (eG J9))),(0,.beq fF (bH (λn_=>(Bx.tree 121 2 YZ (((eD dZ)).set we (qu xY.av)) [(we*2+0,tQ pL n_)])) (eG J9)))]) λc0 h=>be h λ_ nM h=>ra (aU h) [aD c0,(0,fD.iN R3 (r:= (qu xY.av)) fF pL 0 B 3 1 tq nM),(0,.seq 16 (bH (AV.ms fF 2 0) (eG nM))),(0,.beq bI (bH (YY (((dG ck)).set lh (BC bR)) (lh*5+3) fF) (eG nM)))]
def IG (aB:asL):Nat->Nat->Int->Int->Int->Int->aJ->bq->aP->bD->ai->bQ->bq->Nat->A aJ
 |0=>dw.z
 |n+1=>Vp aB (IG aB n) n
def axp {aB} (aU:KK (wj (aI 1943)) Am aB):∀n:Nat,KK (wj (aI 22935)) Xt (IG aB n)
 |0=>KC.h
 |n+1=>aMC aU (axp aU n) n
def Vo (n:Nat) (lh:Nat) (t17 t18:Int) (b0:aJ) (ck:bD) (bR:ai) (dZ:bQ):A aJ:=
 dK lh t17 (aV (t18+1)) (ad2 (ad0 b0.bZ.aA ck) b0.fm) ck (ad1 bR.aM bR.ag bR.aH [] bR.aL) dZ
def aMB {bh} (cL:KK (wj (aI 87)) Am bh) (n:Nat):KK (wj (aI 1943)) Am (Vo bh n):=λ_ _ _ _ _ _ _ r h=>ra (cL h) []
def Vn (cV:Nat->aJ->bD->A aJ) (back:asL) (n:Nat) (lh:Nat) (t17 t18:Int) (b0:aJ) (ck:bD) (bR:ai) (dZ:bQ):A aJ:=
 if U (t18<t17) then
 (eh dZ.length t18).bind λx2=>(dZ[0+x2]?).bind λu5=>IG (Vo back n) n lh t17 t18 (u5.ag.length:Int) 0 (ad2 (ad0 b0.bZ.aA ck) b0.fm) u5 u5.ag ck (ad1 bR.aM bR.ag bR.aH [] bR.aL) dZ (bq.mk [] u5.av) (0+x2)
 else
 (setAt ck lh (ad1 bR.aM bR.ag bR.aH dZ bR.aL)).bind λz2=>cV lh (ad2 (ad0 b0.bZ.aA z2) b0.fm) z2
def aMA {cV} (eX:KK (wj [1,1,1,1]) Xr cV) {back} (aK:KK (wj (aI 87)) Am back) (n:Nat):KK (wj (aI 87)) Am (Vn cV back n):=λ_ _ _ b0 _ bR dZ r h=>ie h (λc0 h=>be h λ_ dg h=>be h λu5 xr h=>ra (axp (aMB aK n) n h) [aD c0,(0,de dg),(0,fD.oC R3 fF pL 0 B 3 1 u5.ag xr (qu u5.av)),(0,fD.Cq [0] (qu u5.av) xr)]) λc0 h=>be h λ_ nM h=>ra (eX h) [aD c0,(0,cy.iN fD (r:= (BC bR)) bI fF 3 B 121 2 dZ nM),(0,.beq 0 (bH (λn_=>((l4 (bj b0 (.ms bI 5 0 n_))))) (eG nM)))]
def Fb (cV:Nat->aJ->bD->A aJ):Nat->Nat->Int->Int->aJ->bD->ai->bQ->A aJ
 |0=>dw.z
 |n+1=>Vn cV (Fb cV n) n
def axo {cV} (eX:KK (wj [1,1,1,1]) Xr cV):∀n:Nat,KK (wj (aI 87)) Am (Fb cV n)
 |0=>KC.h
 |n+1=>aMA eX (axo eX n) n
def Vm (back:Nat->Int->Int->aJ->bw->bD->ai->A aJ) (n:Nat) (lh:Nat) (t43 t44:Int) (b0:aJ) (dA:bw) (ck:bD) (bR:ai):A aJ:=
 if U (t44<t43) then
 (eh dA.length t44).bind λx3=>(dA[0+x3]?).bind λx5=>(Ds n x5 (ad2 (ad0 b0.bZ.aA ck) b0.fm)).bind λiZ=>(eh dA.length t44).bind λlg=>(dA[0+lg]?).bind λmX=>(setAt dA (0+lg) iZ).bind λz22=>back lh t43 (aV (t44+1)) (ad2 (ad0 b0.bZ.aA ck) b0.fm) z22 ck (ad1 bR.aM bR.ag bR.aH bR.ar [])
 else
 (setAt ck lh (ad1 bR.aM bR.ag bR.aH bR.ar dA)).bind λz2=>V (ad2 (ad0 b0.bZ.aA z2) b0.fm)
def aMz {back} (aK:KK (wj (aI 95)) Xs back) (n:Nat):KK (wj (aI 95)) Xs (Vm back n):=λlh _ _ b0 dA ck bR r h=>ie h (λc0 h=>be h λ_ eP h=>be h λ_ iw h=>be h λiZ iW h=>be h λ_ nu h=>be h λ_ py h=>be h λ_ xU h=>ra (aK h) [aD c0,(1,de eP),(0,fa.row iw),(10,.call (ayG n iW) [(0,9000),(1,eZ)] [(bI,Ey)]),(0,de nu),(0,fa.ur 0 (fW iZ) py xU),(2,.seq 42 (bH (AV.ms kT 13 0) (eG xU))),(0,.beq bI (bH (λn_=>(Bx.tree 44 5 ow (((dG ck)).set lh (nI bR)) [(lh*5+4,.ms kT 13 0 n_)])) (eG xU)))]) λc0 h=>be h λ_ nM h=>rr h [aD c0,(0,cy.iN fa (r:= (nI bR)) bI kT 4 B 107 13 dA nM),(0,.beq 0 (bH (λn_=>((l4 (bj b0 (.ms bI 5 0 n_))))) (eG nM)))]
def IF:Nat->Nat->Int->Int->aJ->bw->bD->ai->A aJ
 |0=>dw.z
 |n+1=>Vm (IF n) n
def axn:∀n:Nat,KK (wj (aI 95)) Xs (IF n)
 |0=>KC.h
 |n+1=>aMz (axn n) n
def Vl:A aJ:=
 (a6[al]?).bind λu5=>IF a al (u5.aL.length:Int) 0 (ad2 (ad0 ay.bZ.aA a6) ay.fm) u5.aL a6 (ad1 u5.aM u5.ag u5.aH u5.ar [])
def aMy:KK (wj [1,1,1,1]) Xr (Vl a):=λ_ _ _ r h=>be h λu5 xr h=>ra (axn a h) [(3,cy.oC fa bI kT 4 B 107 13 u5.aL xr (nI u5))]
def akb:A aJ:=
 (Fu a c).bind λx3=>(c.bZ.ah[x3]?).bind λlZ=>Fb (Vl a) a x3 (lZ.ar.length:Int) 0 c c.bZ.ah (ad1 lZ.aM lZ.ag lZ.aH [] lZ.aL) lZ.ar
def aMx:KK (wj []) nG (akb a):=λ_ r h=>be h λ_ eP h=>be h λlZ Zk h=>ra (axo (aMy a) a h) [(2,.call (Pt a eP) [(0,0),(bI,bI)] []),(6,cy.oC fD bI fF 3 B 121 2 lZ.ar Zk (BC lZ))]
def aja:=akb
def aGb:KK (Cx E0 183 avZ ane) nG (aja a):=λ_ _ h=>ca (X:=x183) (aMx a h)
def x149:=fx E0 Tryz.f149 [0,bI]
def A149:=Ax x149 rM rC
def akF:A (Bool×aJ):=
 (Fu a c).bind λx3=>(c.bZ.ah[x3]?).bind λlZ=>(setAt c.bZ.ah x3 lZ).bind λxh=>(Se a (ad2 (ad0 c.bZ.aA xh) c.fm) c.fm.ba).bind λgS=>if !gS then
 (setAt c.bZ.ah x3 lZ).bind λz26=>V (B,(ad2 (ad0 c.bZ.aA z26) c.fm))
 else
 (eh lZ.ag.length c.fm.ba).bind λx32=>(lZ.ag[0+x32]?).bind λCN=>(ZT a c.fm.bk CN.aE).bind λvi=>if !vi then
 (setAt c.bZ.ah x3 lZ).bind λvh=>V (B,(ad2 (ad0 c.bZ.aA vh) c.fm))
 else
 (setAt c.bZ.ah x3 lZ).bind λvh=>(ajc a (ad2 (ad0 c.bZ.aA vh) c.fm)).bind λx45=>if x45 then
 (setAt c.bZ.ah x3 lZ).bind λz49=>V (B,(ad2 (ad0 c.bZ.aA z49) c.fm))
 else
 (ajb a lZ.ag c.fm.ba (aV (c.fm.ba+1))).bind λx56=>(setAt c.bZ.ah x3 (ad1 lZ.aM x56.2 lZ.aH lZ.ar lZ.aL)).bind λz63=>(aja a (ad2 (ad0 c.bZ.aA z63) c.fm)).bind λx64=>V (M,x64)
def aNR:KK (A149 []) nG (akF a):=λg0 r h=>be h λ_ eP h=>be h λlZ Zk h=>be h λxh oP h=>be h λ_ jl h=>let zA:SE:=[(1,.ord [0,2,3,4,5,6,1,7,8]),(6,.call (Pt a eP) [(0,0),(bI,bI)] []),(2,cy.oC fk bI gM 1 B 73 2 lZ.ag Zk (bX lZ)),(2,.zw (iA.aGK (abO a jl) ((show _=((q36_ (bj g0 (.sl 0 44 5 xh.length (dG xh))) g0):List AV) by kernel_rfl).trans (bH (λn_=>((q36_ (bj g0 (.sl 0 44 5 n_ (dG xh))) g0):List AV)) (eG oP).symm))) [cy.iN fk (r:= (bX lZ)) bI gM 1 B 73 2 lZ.ag oP,cy.frzN B bI xh (eG oP),.eB 0 (Q:= []) (n:=0) rfl] trivial [] [])];ie h (λc0 h=>be h λ_ ahf h=>bu h zA [aD c0,(5,cy.iN fk (r:= (bX lZ)) bI gM 1 B 73 2 lZ.ag ahf),(0,.beq 0 (bH (λn_=>((l4 (bj g0 (.ms bI 5 0 n_))))) (eG ahf)))]) λc0 h=>be h λ_ aBT h=>be h λ_ Kb h=>be h λ_ AL h=>let zB:SE:=dv zA [aD c0,(11,de aBT),(1,fk.row Kb),jM (arz a AL)];ie h (λc1 h=>be h λvh pZ h=>bu h zB [aD c1,(4,cy.iN fk (r:= (bX lZ)) bI gM 1 B 73 2 lZ.ag pZ),(0,.beq 0 (bH (λn_=>((l4 (bj g0 (.ms bI 5 0 n_))))) (eG pZ)))]) λc1 h=>be h λvh pZ h=>be h λ_ aBQ h=>let zC:SE:=dv zB [aD c1,(3,.zw (iA.aGK (aGd a aBQ) ((show _=([.kH (bj g0 (.sl 0 44 5 vh.length (dG vh)))]:List AV) by kernel_rfl).trans (bH (λn_=>([.kH (bj g0 (.sl 0 44 5 n_ (dG vh)))]:List AV)) (eG pZ).symm))) [cy.iN fk (r:= (bX lZ)) bI gM 1 B 73 2 lZ.ag pZ,cy.frzN B bI vh (eG pZ),.eB 0 (Q:= []) (n:=0) rfl] trivial [] [])];ie h (λc2 bE=>by subst c2;exact (be bE λz49 MK bE=>bu bE zC [(2,cy.iN fk (r:= (bX lZ)) bI gM 1 B 73 2 lZ.ag MK),(0,.beq 0 (bH (λn_=>((l4 (bj g0 (.ms bI 5 0 n_))))) (eG MK)))])) λc2 bE=>by subst c2;exact (be bE λx56 aBN bE=>be bE λz63 hz63 bE=>be bE λx64 aqV bE=>bu bE zC [(9,.call (aGc a aBN) [(gM,0)] []),(2,cy.zi 1 (bX lZ) (bX lZ) Zk),(1,cy.iN fk (r:= (bX lZ)) bI gM 1 B 73 2 x56.2 hz63),(0,.beq 0 (bH (λn_=>((l4 (bj g0 (.ms bI 5 0 n_))))) (eG hz63))),(0,.call (aGb a aqV) [(0,0),(bI,bI)] [])])
def ajr:=akF
def aSb:KK (Cx E0 149 rM rC) nG (ajr a):=λ_ _ h=>ca (X:=x149) (aNR a h)
def x150:=fx E0 Tryz.f150 [0,bI]
def A150:=Ax x150 rM rC
def akE:A (Bool×aJ):=
 (Fu a c).bind λx3=>(Se a c c.fm.ba).bind λj8=>if !j8 then
 V (B,c)
 else
 (Se a c c.fm.kM).bind λmF=>if !mF then
 V (B,c)
 else
 (c.bZ.ah[x3]?).bind λqY=>(eh qY.ag.length c.fm.ba).bind λvi=>(qY.ag[0+vi]?).bind λtF=>(ajb a qY.ag c.fm.ba (aV (c.fm.ba+1))).bind λx59=>(aDD a x59.2 c.fm.kM [tF]).bind λx76=>(setAt c.bZ.ah x3 (ad1 qY.aM x76.2 qY.aH qY.ar qY.aL)).bind λz83=>(aja a (ad2 (ad0 c.bZ.aA z83) c.fm)).bind λx84=>V (M,x84)
def aNQ:KK (A150 []) nG (akE a):=λg0 r h=>be h λ_ eP h=>be h λ_ jc h=>let zA:SE:=[(2,.call (Pt a eP) [(0,0),(bI,bI)] []),(7,.zw (abO a jc) [cy.tfr B bI g0.bZ.ah,.eB 0 (Q:= []) (n:=0) rfl] trivial [] [])];ie h (λc0 h=>bu h zA [aD c0]) λc0 h=>be h λ_ nR h=>let zB:SE:=dv zA [aD c0,(7,.zw (abO a nR) [cy.tfr B bI g0.bZ.ah,.eB 0 (Q:= []) (n:=0) rfl] trivial [] [])];ie h (λc1 h=>bu h zB [aD c1]) λc1 h=>be h λqY Zj h=>be h λ_ AL h=>be h λ_ AK h=>be h λ_ aBK h=>be h λx76 hx76 h=>be h λ_ hz83 h=>be h λ_ hx84 h=>bu h zB [aD c1,(1,cy.oC fk bI gM 1 B 73 2 qY.ag Zj (bX qY)),(9,de AL),(0,fk.row AK),(18,.call (aGc a aBK) [(gM,0)] []),(2,cy.zi 1 (bX qY) (bX qY) Zj),(12,.call (aRN a hx76) [(66,2),(gM,jt)] []),(2,cy.zi 1 (bX qY) (bX qY) Zj),(1,cy.iN fk (r:= (bX qY)) bI gM 1 B 73 2 x76.2 hz83),(0,.beq 0 (bH (λn_=>((l4 (bj g0 (.ms bI 5 0 n_))))) (eG hz83))),(0,.call (aGb a hx84) [(0,0),(bI,bI)] [])]
def ajq:=akE
def aSa:KK (Cx E0 150 rM rC) nG (ajq a):=λ_ _ h=>ca (X:=x150) (aNQ a h)
def x151:=fx E0 Tryz.f151 [0,bI]
def A151:=Ax x151 rM rC
def akD:A (Bool×aJ):=
 (Fu a c).bind λx3=>(c.bZ.ah[x3]?).bind λu6=>if U (c.fm.ba<0) then
 (setAt c.bZ.ah x3 u6).bind λxh=>V (B,(ad2 (ad0 c.bZ.aA xh) c.fm))
 else
 if !U (c.fm.ba<(u6.ag.length:Int)) then
 (setAt c.bZ.ah x3 u6).bind λz28=>V (B,(ad2 (ad0 c.bZ.aA z28) c.fm))
 else
 (eh u6.ag.length c.fm.ba).bind λCM=>(u6.ag[0+CM]?).bind λD2=>(setAt u6.ag (0+CM) (cF.mk c.fm.aM D2.aE)).bind λz45=>(setAt c.bZ.ah x3 (ad1 u6.aM z45 u6.aH u6.ar u6.aL)).bind λz48=>V (M,(ad2 (ad0 c.bZ.aA z48) c.fm))
def aNP:KK (A151 []) nG (akD a):=λg0 r h=>be h λx3 eP h=>be h λu6 BQ h=>let zA:SE:=[(2,.call (Pt a eP) [(0,0),(bI,bI)] []),(1,cy.oC fk bI gM 1 B 73 2 u6.ag BQ (bX u6))];ie h (λc0 h=>be h λ_ oP h=>bu h zA [bS c0,(3,cy.iN fk (r:= (bX u6)) bI gM 1 B 73 2 u6.ag oP),(0,.beq 0 (bH (λn_=>((l4 (bj g0 (.ms bI 5 0 n_))))) (eG oP)))]) λc0 h=>ie h (λc1 h=>be h λ_ zf h=>bu h zA [bS c0,(11,eb c1),(2,cy.iN fk (r:= (bX u6)) bI gM 1 B 73 2 u6.ag zf),(0,.beq 0 (bH (λn_=>((l4 (bj g0 (.ms bI 5 0 n_))))) (eG zf)))]) λc1 h=>be h λ_ Ka h=>be h λ_ Zh h=>be h λz45 hz45 h=>be h λ_ hz48 h=>bu h zA [bS c0,(11,eb c1),(15,de Ka),(1,fk.ur 0 [.str g0.fm.aM] Zh hz45),(1,.beq bI (bH (YY (((dG g0.bZ.ah)).set x3 (bX u6)) (x3*5+1) gM) (eG hz45))),(0,cy.iN fk (r:= (bX u6)) bI gM 1 B 73 2 z45 hz48),(0,.beq 0 (bH (λn_=>((l4 (bj g0 (.ms bI 5 0 n_))))) (eG hz48)))]
def ajp:=akD
def aRZ:KK (Cx E0 151 rM rC) nG (ajp a):=λ_ _ h=>ca (X:=x151) (aNP a h)
def x152:=fx E0 Tryz.f152 [0,bI]
def A152:=Ax x152 rM rC
def akC:A (Bool×aJ):=
 (Fu a c).bind λx3=>(c.bZ.ah[x3]?).bind λlZ=>(setAt c.bZ.ah x3 (ad1 c.fm.aM lZ.ag lZ.aH lZ.ar lZ.aL)).bind λz14=>V (M,(ad2 (ad0 c.bZ.aA z14) c.fm))
def aNO:KK (A152 []) nG (akC a):=λg0 r h=>be h λ_ eP h=>be h λ_ Zk h=>be h λ_ hz14 h=>rr h [(1,.ord [0,2,3,4,5,6,1,7,8,9]),(6,.call (Pt a eP) [(0,0),(bI,bI)] []),(2,cy.ur 0 [.str g0.fm.aM] Zk hz14),(1,.beq 0 (bH (λn_=>((l4 (bj g0 (.ms bI 5 0 n_))))) (eG hz14)))]
def ajo:=akC
def aRY:KK (Cx E0 152 rM rC) nG (ajo a):=λ_ _ h=>ca (X:=x152) (aNO a h)
def ani:List (Nat×Bx):= (q6_ (bj dr.2 (.ms jt 5 0 dr.2.bZ.ah.length)) jt dr.2)
def x153:=fx E0 Tryz.f153 [0,jt]
def A153:=Ax x153 rM ani
def amt:LS:=⟨[aY 0],(q6_ (bj c (.ms jt 5 0 c.bZ.ah.length)) jt c)⟩
def akB:A (Bool×aJ):=
 (F96 a c.fm.bt).bind λdB=>(app c.bZ.ah [dB]).bind λfN=>(setAt fN c.bZ.ah.length dB).bind λz22=>V (M,(ad2 (ad0 c.bZ.aA z22) c.fm))
def aNN:KK (A153 []) amt (akB a):=λg0 r h=>be h λdB fG h=>be h λ_ gU h=>be h λ_ xU h=>rr h [(12,.call (ev96 a fG) [] [(330140001,uA),(330140003,201003),(330140004,201004)]),(1,cy.L5 gU),(4,.beq jt (bH (λq_=>Bx.tree 44 5 ow q_ (aqo (g0.bZ.ah.length*5+1) 330140001 dB (g0.bZ.ah.length*5+3) 330140003 (g0.bZ.ah.length*5+4) 330140004)) (cy.apS (r:= (cP dB)) gU))),(0,cy.kF fk (r:= (cP dB)) jt 330140001 1 B 73 2 dB.ag xU (tH dB)),(0,cy.kF fD (r:= (tH dB)) jt 330140003 3 B 121 2 dB.ar xU (nI dB)),(0,cy.iN fa (r:= (nI dB)) jt 330140004 4 B 107 13 dB.aL xU),(1,.beq 0 (bH (λn_=>((l4 (bj g0 (.ms jt 5 0 n_))))) (((cy.apL gU).trans (eG xU)))))]
def ajn:=akB
def aRX:KK (Cx E0 153 rM ani) amt (ajn a):=λ_ _ h=>ca (X:=x153) (aNN a h)
def apw:=fx E0 Tryz.f154 [0,bI]
def ou:=Ax apw rM rC
def XW (jz:di) (dZ:bQ):LS:=⟨[aY 0,(3,bM b),(15,.ms bI 5 0 a6.length),(16,bM d),(17,bM g),(23,.ms fF 2 0 dZ.length),(24,bM o),(25,bM x)],[(0,l4 (bj ay (.ms bI 5 0 a6.length))),(bI,GY (((dG a6)).set bA (cP co)) (bA*5+4) kT cq.length (bA*5+3) fF dZ.length (bA*5+1) gM jz.length),(gM,xO jz),(fF,CP dZ),(kT,Em cq)]⟩
def Ap:LS:=⟨[aY 0,(15,.ms bI 5 0 t.length),(16,bM b),(17,bM d)],[(0,l4 (bj c (.ms bI 5 0 t.length))),(bI,zZ t)]⟩
def XV:LS:=⟨[aY 0,aY 8,(73,.ms bI 5 0 cs.length),(74,bM b),(75,bM d),(80,.ms fF 2 0 bU.length),(81,bM g),(82,bM o)],[(0,l4 (bj ay (.ms bI 5 0 cs.length))),(8,ia (eT ap (.ms gM 2 0 cp.length) (.ms fF 2 0 bU.length) (.ms kT 13 0 cq.length))),(bI,GY (((dG cs)).set bN (cP bK)) (bN*5+4) kT cq.length (bN*5+3) fF bU.length (bN*5+1) gM cp.length),(gM,xO cp),(fF,CP bU),(kT,Em cq)]⟩
def Ao:LS:=⟨[aY 0,(73,.ms bI 5 0 t.length),(74,bM b),(75,bM d)],[(0,l4 (bj c (.ms bI 5 0 t.length))),(bI,zZ t)]⟩
def XU:LS:=⟨[],[(0,l4 (bj c (.ms bI 5 0 t.length))),(bI,zZ t)]⟩
def XT:LS:=⟨[aY 0],[(0,l4 (bj c (.ms bI 5 0 t.length))),(bI,zZ t)]⟩
def VQ (back:Int->Int->Int->Int->Int->aJ->bD->ai->Nat->bw->di->bQ->A (Bool×aJ)) (n:Nat) (i3 t16 t17 t24 t25:Int) (b0:aJ) (ck:bD) (bR:ai) (er:Nat) (dA:bw) (jz:di) (dZ:bQ):A (Bool×aJ):=
 if U (t25<t24) then
 (eh dZ.length t25).bind λx2=>(dZ[0+x2]?).bind λu5=>if i3 !=b0.fm.av then
 if u5.av==b0.fm.av then
 (setAt dZ (0+x2) u5).bind λz26=>(setAt ck er (ad1 bR.aM jz bR.aH z26 dA)).bind λz28=>V (B,(ad2 (ad0 b0.bZ.aA z28) b0.fm))
 else
 (setAt dZ (0+x2) u5).bind λz28=>back i3 t16 t17 t24 (aV (t25+1)) (ad2 (ad0 b0.bZ.aA ck) b0.fm) ck (ad1 bR.aM [] bR.aH [] []) er dA jz z28
 else
 (setAt dZ (0+x2) u5).bind λz20=>back i3 t16 t17 t24 (aV (t25+1)) (ad2 (ad0 b0.bZ.aA ck) b0.fm) ck (ad1 bR.aM [] bR.aH [] []) er dA jz z20
 else
 (setAt ck er (ad1 bR.aM jz bR.aH dZ dA)).bind λz2=>bV t16 t17 (ad2 (ad0 b0.bZ.aA z2) b0.fm) z2
def aNM {aB} (aU:KK (ou (aI 485)) Ap aB) {back} (aK:KK (ou (aI 5733)) XW back) (n:Nat):KK (ou (aI 5733)) XW (VQ aB back n):=λ_ _ _ _ _ b0 ck bR er dA jz dZ r h=>ie h (λc0 h=>be h λ_ dg h=>be h λu5 xr h=>let zA:SE:=[aD c0,(0,de dg),(0,fD.oC R3 fF pL 0 B 3 1 u5.ag xr (qu u5.av)),(0,fD.Cq [0] (qu u5.av) xr)];ie h (λc1 h=>ie h (λc2 h=>be h λz26 ahf h=>be h λz28 zf h=>bu h zA [iS c1,iS c2,(1,fD.iN R3 (r:= (qu u5.av)) fF pL 0 B 3 1 u5.ag ahf),(0,.beq bI (bH (λn_=>((GY (((dG ck)).set er (cP bR)) (er*5+4) kT dA.length (er*5+3) fF n_ (er*5+1) gM jz.length))) (eG ahf))),(0,cy.kF fa (r:= (cP bR)) bI kT 4 B 107 13 dA zf (yk bR (.slice 107 13 dA.length (dV dA)))),(0,cy.kF fD (r:= (yk bR (.slice 107 13 dA.length (dV dA)))) bI fF 3 B 121 2 z26 zf (yl bR (.slice 121 2 z26.length (eD z26)) (.slice 107 13 dA.length (dV dA)))),(0,cy.iN fk (r:= (yl bR (.slice 121 2 z26.length (eD z26)) (.slice 107 13 dA.length (dV dA)))) bI gM 1 B 73 2 jz zf),(1,.beq 0 (bH (λn_=>((l4 (bj b0 (.ms bI 5 0 n_))))) (eG zf)))]) λc2 h=>be h λz28 zf h=>cC (aK h) zA [iS c1,iS c2,(3,fD.iN R3 (r:= (qu u5.av)) fF pL 0 B 3 1 u5.ag zf),(0,.seq 23 (bH (AV.ms fF 2 0) (eG zf))),(0,.beq bI (bH (λn_=>((GY (((dG ck)).set er (cP bR)) (er*5+4) kT dA.length (er*5+3) fF n_ (er*5+1) gM jz.length))) (eG zf)))]) λc1 h=>be h λ_ J8 h=>cC (aK h) zA [iS c1,(4,fD.iN R3 (r:= (qu u5.av)) fF pL 0 B 3 1 u5.ag J8),(0,.seq 23 (bH (AV.ms fF 2 0) (eG J8))),(0,.beq bI (bH (λn_=>((GY (((dG ck)).set er (cP bR)) (er*5+4) kT dA.length (er*5+3) fF n_ (er*5+1) gM jz.length))) (eG J8)))]) λc0 h=>be h λ_ nM h=>ra (aU h) [aD c0,(0,cy.kF fa (r:= (cP bR)) bI kT 4 B 107 13 dA nM (yk bR (.slice 107 13 dA.length (dV dA)))),(0,cy.kF fD (r:= (yk bR (.slice 107 13 dA.length (dV dA)))) bI fF 3 B 121 2 dZ nM (yl bR (.slice 121 2 dZ.length (eD dZ)) (.slice 107 13 dA.length (dV dA)))),(0,cy.iN fk (r:= (yl bR (.slice 121 2 dZ.length (eD dZ)) (.slice 107 13 dA.length (dV dA)))) bI gM 1 B 73 2 jz nM),(0,.seq 15 (bH (AV.ms bI 5 0) (eG nM))),(0,.beq 0 (bH (λn_=>((l4 (bj b0 (.ms bI 5 0 n_))))) (eG nM)))]
def IT (aB:Nx):Nat->Int->Int->Int->Int->Int->aJ->bD->ai->Nat->bw->di->bQ->A (Bool×aJ)
 |0=>dw.z
 |n+1=>VQ aB (IT aB n) n
def axI {aB} (aU:KK (ou (aI 485)) Ap aB):∀n:Nat,KK (ou (aI 5733)) XW (IT aB n)
 |0=>KC.h
 |n+1=>aNM aU (axI aU n) n
def VP (n:Nat) (t16 t17:Int) (b0:aJ) (ck:bD):A (Bool×aJ):=
 bV t16 (aV (t17+1)) (ad2 (ad0 b0.bZ.aA ck) b0.fm) ck
def aNL {bh} (cL:KK (ou [0,1,0,1]) Ap bh) (n:Nat):KK (ou (aI 485)) Ap (VP bh n):=λ_ _ _ _ r h=>ra (cL h) []
def VO:A (Bool×aJ):=
 if U (df<cl) then
 (eh dz.length df).bind λx3=>(dz[0+x3]?).bind λu6=>IT (VP dD cj) cj df cl df (u6.ar.length:Int) 0 (ad2 (ad0 d3.bZ.aA dz) d3.fm) dz (ad1 u6.aM [] u6.aH [] []) (0+x3) u6.aL u6.ag u6.ar
 else
 dC (ad2 (ad0 d3.bZ.aA dz) d3.fm) dz
def aNK {l6} (ua:KK (ou [1,1]) XT l6) {back} (aK:KK (ou [0,1,0,1]) Ap back) (n:Nat):KK (ou [0,1,0,1]) Ap (VO l6 back n):=λ_ _ _ _ r h=>ie h (λc0 h=>be h λ_ eP h=>be h λu6 BQ h=>ra (axI (aNL aK n) n h) [aD c0,(1,de eP),(0,cy.oC fk bI gM 1 B 73 2 u6.ag BQ (bX u6)),(0,cy.xC fD (r:= (bX u6)) bI fF 3 B 121 2 u6.ar BQ (eR u6)),(0,cy.xC fa (r:= (eR u6)) bI kT 4 B 107 13 u6.aL BQ (cP u6)),(0,cy.Cq [4,3,1] (cP u6) BQ)]) λc0 h=>ra (ua h) [aD c0]
def Fg (l6:asK):Nat->Int->Int->aJ->bD->A (Bool×aJ)
 |0=>dw.z
 |n+1=>VO l6 (Fg l6 n) n
def axH {l6} (ua:KK (ou [1,1]) XT l6):∀n:Nat,KK (ou [0,1,0,1]) Ap (Fg l6 n)
 |0=>KC.h
 |n+1=>aNK ua (axH ua n) n
def N0 (back:Int->Int->Int->Int->aJ->ai->di->bw->bD->ai->Nat->bQ->A (Bool×aJ)) (n:Nat) (t74 t75 t81 t82:Int) (b0:aJ) (b8:ai) (jz:di) (dA:bw) (ck:bD) (bR:ai) (er:Nat) (dZ:bQ):A (Bool×aJ):=
 if U (t82<t81) then
 (eh dZ.length t82).bind λx3=>(dZ[0+x3]?).bind λu6=>if U (b0.fm.av<u6.av) then
 (eh dZ.length t82).bind λgw=>(setAt dZ (0+x3) u6).bind λz29=>(z29[0+gw]?).bind λu30=>(setAt z29 (0+gw) (bq.mk u30.ag (aV (u6.av-1)))).bind λz32=>back t74 t75 t81 (aV (t82+1)) (ad2 (ad0 b0.bZ.aA ck) b0.fm) (ad1 b8.aM jz b8.aH z32 dA) jz dA ck (ad1 bR.aM [] bR.aH [] []) er z32
 else
 (setAt dZ (0+x3) u6).bind λz21=>back t74 t75 t81 (aV (t82+1)) (ad2 (ad0 b0.bZ.aA ck) b0.fm) (ad1 b8.aM jz b8.aH z21 dA) jz dA ck (ad1 bR.aM [] bR.aH [] []) er z21
 else
 (setAt ck er (ad1 bR.aM jz bR.aH dZ dA)).bind λz2=>bV t74 t75 (ad2 (ad0 b0.bZ.aA z2) b0.fm) z2
def aNJ {cV} (eX:KK (ou (aI 1943)) Ao cV) {back} (aK:KK (ou (aI 22935)) XV back) (n:Nat):KK (ou (aI 22935)) XV (N0 cV back n):=λ_ _ _ _ b0 b8 jz dA ck bR er dZ r h=>ie h (λc0 h=>be h λ_ eP h=>be h λu6 BQ h=>let zA:SE:=[aD c0,(1,de eP),(0,fD.oC R3 fF pL 0 B 3 1 u6.ag BQ (qu u6.av)),(0,fD.Cq [0] (qu u6.av) BQ)];ie h (λc1 h=>be h λ_ ld h=>be h λ_ aqU h=>be h λ_ hu30 h=>be h λ_ aqT h=>cC (aK h) zA [(10,eb c1),(6,de ld),(1,fD.iN R3 (r:= (qu u6.av)) fF pL 0 B 3 1 u6.ag aqU),(0,fD.ur 1 [bM (aV (u6.av-1))] hu30 aqT),(2,.seq 80 (bH (AV.ms fF 2 0) (((mH aqT).trans (mH aqU)).symm))),(0,.beq 8 (bH (λn_=>((ia (eT b8 (.ms gM 2 0 jz.length) (.ms fF 2 0 n_) (.ms kT 13 0 dA.length))))) (((mH aqT).trans (mH aqU)).symm))),(0,.beq bI (bH (λn_=>((GY (((dG ck)).set er (cP bR)) (er*5+4) kT dA.length (er*5+3) fF n_ (er*5+1) gM jz.length))) (((mH aqT).trans (mH aqU)).symm)))]) λc1 h=>be h λ_ zg h=>cC (aK h) zA [(10,eb c1),(2,fD.iN R3 (r:= (qu u6.av)) fF pL 0 B 3 1 u6.ag zg),(0,.seq 80 (bH (AV.ms fF 2 0) (eG zg))),(0,.beq 8 (bH (λn_=>((ia (eT b8 (.ms gM 2 0 jz.length) (.ms fF 2 0 n_) (.ms kT 13 0 dA.length))))) (eG zg))),(0,.beq bI (bH (λn_=>((GY (((dG ck)).set er (cP bR)) (er*5+4) kT dA.length (er*5+3) fF n_ (er*5+1) gM jz.length))) (eG zg)))]) λc0 h=>be h λ_ nM h=>ra (eX h) [aD c0,(0,cy.kF fa (r:= (cP bR)) bI kT 4 B 107 13 dA nM (yk bR (.slice 107 13 dA.length (dV dA)))),(0,cy.kF fD (r:= (yk bR (.slice 107 13 dA.length (dV dA)))) bI fF 3 B 121 2 dZ nM (yl bR (.slice 121 2 dZ.length (eD dZ)) (.slice 107 13 dA.length (dV dA)))),(0,cy.iN fk (r:= (yl bR (.slice 121 2 dZ.length (eD dZ)) (.slice 107 13 dA.length (dV dA)))) bI gM 1 B 73 2 jz nM),(0,.seq 73 (bH (AV.ms bI 5 0) (eG nM))),(0,.beq 0 (bH (λn_=>((l4 (bj b0 (.ms bI 5 0 n_))))) (eG nM)))]
def Ff (cV:Nx):Nat->Int->Int->Int->Int->aJ->ai->di->bw->bD->ai->Nat->bQ->A (Bool×aJ)
 |0=>dw.z
 |n+1=>N0 cV (Ff cV n) n
def axG {cV} (eX:KK (ou (aI 1943)) Ao cV):∀n:Nat,KK (ou (aI 22935)) XV (Ff cV n)
 |0=>KC.h
 |n+1=>aNJ eX (axG eX n) n
def VN (n:Nat) (t74 t75:Int) (b0:aJ) (ck:bD):A (Bool×aJ):=
 bV t74 (aV (t75+1)) (ad2 (ad0 b0.bZ.aA ck) b0.fm) ck
def aNI {eA} (gV:KK (ou (aI 87)) Ao eA) (n:Nat):KK (ou (aI 1943)) Ao (VN eA n):=λ_ _ _ _ r h=>ra (gV h) []
def VM:A (Bool×aJ):=
 if U (df<cl) then
 (eh dz.length df).bind λx2=>(dz[0+x2]?).bind λu5=>Ff (VN dD cj) cj cl df (u5.ar.length:Int) 0 (ad2 (ad0 d3.bZ.aA dz) d3.fm) u5 u5.ag u5.aL dz (ad1 u5.aM [] u5.aH [] []) (0+x2) u5.ar
 else
 dC (ad2 (ad0 d3.bZ.aA dz) d3.fm) dz
def aNH {ju} (oS:KK (ou [1,1,1,1]) XU ju) {back} (aK:KK (ou (aI 87)) Ao back) (n:Nat):KK (ou (aI 87)) Ao (VM ju back n):=λ_ _ _ _ r h=>ie h (λc0 h=>be h λ_ dg h=>be h λu5 xr h=>ra (axG (aNI aK n) n h) [aD c0,(0,de dg),(0,cy.oC fk bI gM 1 B 73 2 u5.ag xr (bX u5)),(0,cy.xC fD (r:= (bX u5)) bI fF 3 B 121 2 u5.ar xr (eR u5)),(0,cy.xC fa (r:= (eR u5)) bI kT 4 B 107 13 u5.aL xr (cP u5)),(0,cy.Cq [4,3,1] (cP u5) xr)]) λc0 h=>ra (oS h) [aD c0]
def Fe (ju:asK):Nat->Int->Int->aJ->bD->A (Bool×aJ)
 |0=>dw.z
 |n+1=>VM ju (Fe ju n) n
def axF {ju} (oS:KK (ou [1,1,1,1]) XU ju):∀n:Nat,KK (ou (aI 87)) Ao (Fe ju n)
 |0=>KC.h
 |n+1=>aNH oS (axF oS n) n
def akA (n:Nat) (b0:aJ) (ck:bD):A (Bool×aJ):=
 V (M,(ad2 (ad0 b0.bZ.aA ck) b0.fm))
def aNG:KK (ou [1,1,1,1]) XU (akA a):=λ_ _ r h=>rr h []
def VL:A (Bool×aJ):=
 (aDC a t c.fm.av (aV (c.fm.av+1))).bind λgS=>Fe (akA a) a (gS.2.length:Int) 0 (ad2 (ad0 c.bZ.aA gS.2) c.fm) gS.2
def aNF:KK (ou [1,1]) XT (VL a):=λ_ _ r h=>be h λ_ jl h=>ra (axF (aNG a) a h) [(17,.call (aRM a jl) [(bI,0)] [])]
def akz:A (Bool×aJ):=
 Fg (VL a) a (c.bZ.ah.length:Int) 0 c c.bZ.ah
def aNE:KK (ou []) nG (akz a):=λ_ r h=>ra (axH (aNF a) a h) []
def ajm:=akz
def aRW:KK (Cx E0 154 rM rC) nG (ajm a):=λ_ _ h=>ca (X:=apw) (aNE a h)
def Tc:AV:=.ms bF 1 0 q.length
def ana:List (Nat×Bx):= [(bF,JP q)]
def x201:=fx E0 Tryz.f201 []
def A201:=Ax x201 Tc ana
def amg:LS:=⟨[(0,.slice 70 1 q.length (iM q))],[]⟩
def Vg (n:Nat) (s0:bn):A bn:=
 (auS s0).bind λx3=>(app [] s0).bind λx7=>V x7
def aMg:KK (A201 []) amg (Vg a):=λ_ r h=>be h λ_ eP h=>be h λ_ iQ h=>rr h [(2,.seq 3 (bH (λq_=>(AV.slice 70 1 q_.length (iM q_))) (auR eP))),(3,jW.app iQ),(1,.ja 5 bF)]
def ZP:=Vg
def aRI:KK (Cx E0 201 Tc ana) amg (ZP a):=λ_ _ h=>ca (X:=x201) (aMg a h)
def HP (r:bn):AV:=.dq []
def DJ:List (Nat×Bx):= [(0,JP q)]
def x228:=fx E0 Tryz.f228 [0]
def Fz:=Ax x228 HP DJ
def Xe:LS:=⟨[(0,.ms 0 1 0 q.length),(1,bM b),(2,bM d),(3,YX),(8,bM g),(9,bM o)],[(0,JP q)]⟩
def Ak:LS:=⟨[(0,.ms 0 1 0 q.length),(1,bM b),(2,bM d),(3,YX),(8,bM g)],[(0,JP q)]⟩
def amc:LS:=⟨[(0,.ms 0 1 0 q.length),(1,bM m),(2,bM s),(3,YX)],[(0,JP q)]⟩
def Jk (back:Int->Int->Int->Int->bn->A bn) (n:Nat) (a1 b2 i8 j9:Int) (b0:bn):A bn:=
 if U (a1<j9) then
 (eh b0.length j9).bind λx8=>(b0[0+x8]?).bind λeW=>(eh b0.length (aV (j9-1))).bind λga=>(b0[0+ga]?).bind λiZ=>(F67 n eW iZ).bind λlg=>if U (lg<0) then
 (eh b0.length (aV (j9-1))).bind λvj=>(b0[0+vj]?).bind λkQ=>(eh b0.length j9).bind λvi=>(b0[0+vi]?).bind λtF=>(eh b0.length j9).bind λCM=>(b0[0+CM]?).bind λx43=>(setAt b0 (0+CM) kQ).bind λvh=>(eh b0.length (aV (j9-1))).bind λBA=>(vh[0+BA]?).bind λx48=>(setAt vh (0+BA) tF).bind λz49=>back a1 b2 i8 (aV (j9-1)) z49
 else
 cK a1 b2 i8 b0
 else
 cK a1 b2 i8 b0
def aLR {aB} (aU:KK (Fz [1,1,0,0,1]) Ak aB) {back} (aK:KK (Fz (aI 329)) Xe back) (n:Nat):KK (Fz (aI 329)) Xe (Jk aB back n):=λ_ _ _ _ _ r h=>ie h (λc0 h=>be h λ_ lj h=>be h λ_ iF h=>be h λ_ lu h=>be h λ_ iW h=>be h λ_ nu h=>let zA:SE:=[aQ c0,(4,de lj),(0,jW.row iF),(3,de lu),(0,jW.row iW),jM (Na n nu)];ie h (λc1 h=>be h λ_ tW h=>be h λkQ p6 h=>be h λ_ AL h=>be h λtF AK h=>be h λ_ Ka h=>be h λ_ RF h=>be h λ_ pZ h=>be h λ_ RE h=>be h λ_ ahh h=>be h λ_ MK h=>cC (aK h) zA [aD c1,(9,de tW),(0,jW.row p6),(2,de AL),(0,jW.row AK),(0,de Ka),(0,jW.ur 0 [.slice 38 3 kQ.length (db kQ)] RF pZ),(0,de RE),(0,jW.ur 0 [.slice 38 3 tF.length (db tF)] ahh MK),(3,.seq 0 (bH (AV.ms 0 1 0) (((mH MK).trans (mH pZ)).symm)))]) λc1 h=>cC (aU h) zA [aD c1]) λc0 h=>ra (aU h) [aQ c0]
def IB (aB:asJ):Nat->Int->Int->Int->Int->bn->A bn
 |0=>dw.z
 |n+1=>Jk aB (IB aB n) n
def axe {aB} (aU:KK (Fz [1,1,0,0,1]) Ak aB):∀n:Nat,KK (Fz (aI 329)) Xe (IB aB n)
 |0=>KC.h
 |n+1=>aLR aU (axe aU n) n
def zS (n:Nat) (a1 b2 i8:Int) (b0:bn):A bn:=
 cK a1 b2 (aV (i8+1)) b0
def aLQ {bh} (cL:KK (Fz [0,1]) Ak bh) (n:Nat):KK (Fz [1,1,0,0,1]) Ak (zS bh n):=λ_ _ _ _ r h=>ra (cL h) []
def Jj:A bn:=
 if U (cb<bb) then
 IB (zS cK cS) cS cT bb cb cb da
 else
 V da
def aLP {back} (aK:KK (Fz [0,1]) Ak back) (n:Nat):KK (Fz [0,1]) Ak (Jj back n):=λ_ _ _ _ r h=>ie h (λc0 h=>ra (axe (aLQ aK n) n h) [aQ c0]) λc0 h=>rr h [aQ c0]
def uI:Nat->Int->Int->Int->bn->A bn
 |0=>dw.z
 |n+1=>Jj (uI n) n
def axd:∀n:Nat,KK (Fz [0,1]) Ak (uI n)
 |0=>KC.h
 |n+1=>aLP (axd n) n
def U9:A bn:=
 uI a m s (aV (m+1)) q
def aLO:KK (Fz []) amc (U9 a):=λ_ _ _ r h=>ra (axd a h) []
def Sa:=U9
def aRA:KK (Cx E0 228 HP DJ) amc (Sa a):=λ_ _ _ _ h=>ca (X:=x228) (aLO a h)
def x221:=fx E0 Tryz.f221 [0]
def auN:=Ax x221 HP DJ
def Xf:LS:=⟨[(0,.ms 0 1 0 aF.length),(1,bM b),(2,bM d),(3,bM g),(4,YX),(10,.bool L),(11,.bool bs)],[(0,JP aF)]⟩
def amd:LS:=⟨[(0,.ms 0 1 0 q.length),(1,bM m),(2,bM s),(3,bM D),(4,YX)],[(0,JP q)]⟩
def Jl (back:Int->Int->Int->Bool->Bool->bn->A bn) (n:Nat) (a1 b2 H8:Int) (Lq D3:Bool) (b0:bn):A bn:=
 if !U (12<(aV (b2-a1))) then
 (Sa n b0 a1 b2).bind λdu=>(iP du.length b0.length).bind λw12=>V du
 else
 G
def aLT {back} (aK:KK (auN [0,1,1]) Xf back) (n:Nat):KK (auN [0,1,1]) Xf (Jl back n):=λ_ _ _ _ _ _ r h=>ie h (λc0 h=>be h λ_ fB h=>be h λ_ hw12 h=>rr h [bS c0,(4,.call (aRA n fB) [(0,0)] [])]) λc0 h=>nz h
def ND:Nat->Int->Int->Int->Bool->Bool->bn->A bn
 |0=>dw.z
 |n+1=>Jl (ND n) n
def axf:∀n:Nat,KK (auN [0,1,1]) Xf (ND n)
 |0=>KC.h
 |n+1=>aLT (axf n) n
def azS:A bn:=
 ND a m s D M M q
def aLS:KK (auN []) amd (azS a):=λ_ _ _ _ r h=>ra (axf a h) []
def ZN:=azS
def aRB:KK (Cx E0 221 HP DJ) amd (ZN a):=λ_ _ _ _ _ h=>ca (X:=x221) (aLS a h)
def x202:=fx E0 Tryz.f202 [0]
def A202:=Ax x202 HP DJ
def amf:LS:=⟨[(0,.ms 0 1 0 q.length),(1,YX)],[(0,JP q)]⟩
def Vf:A bn:=
 (ZR a (U' .u64 ((q.length:Int)))).bind λx8=>(ZN a q 0 (q.length:Int) x8).bind λdu=>(iP du.length q.length).bind λw12=>V du
def aMf:KK (A202 []) amf (Vf a):=λ_ r h=>be h λ_ lj h=>be h λ_ fB h=>be h λ_ hw12 h=>rr h [vt (aRK a lj),(1,.call (aRB a fB) [(0,0)] [])]
def ZO:=Vf
def aRH:KK (Cx E0 202 HP DJ) amf (ZO a):=λ_ _ h=>ca (X:=x202) (aMf a h)
def anb:List (Nat×Bx):= [(bF,xN q)]
def x186:=fx E0 Tryz.f186 []
def Sn:=Ax x186 Tc anb
def Xq:LS:=⟨[(3,.ms 8 1 0 q.length),(4,.ms 35 1 0 aF.length),(11,.ms 8 1 0 q.length),(12,bM b),(13,bM d)],[(8,JP q),(35,xN aF)]⟩
def Xp:LS:=⟨[(4,.ms 35 1 0 q.length)],[(35,xN q)]⟩
def amj:LS:=⟨[(0,.slice 70 1 q.length (iM q))],[]⟩
def uJ (aB:bn->A bn) (back:Int->Int->bn->bn->A bn) (n:Nat) (t12 t13:Int) (b8 LG:bn):A bn:=
 if U (t13<t12) then
 (eh b8.length t13).bind λx3=>(b8[0+x3]?).bind λx5=>if t13==0 then
 (app [] x5).bind λfN=>(app LG [fN]).bind λlg=>back t12 (aV (t13+1)) b8 lg
 else
 (eh b8.length (aV (t13-1))).bind λga=>(b8[0+ga]?).bind λiZ=>(F67 n iZ x5).bind λlM=>if lM !=0 then
 (app [] x5).bind λwU=>(app LG [wU]).bind λlY=>back t12 (aV (t13+1)) b8 lY
 else
 back t12 (aV (t13+1)) b8 LG
 else
 aB LG
def aMw {aB} (aU:KK (Sn [1,1,1,1,1]) Xp aB) {back} (aK:KK (Sn (aI 175)) Xq back) (n:Nat):KK (Sn (aI 175)) Xq (uJ aB back n):=λ_ _ _ _ r h=>ie h (λc0 h=>be h λ_ eP h=>be h λ_ iw h=>let zA:SE:=[aD c0,(1,de eP),(0,jW.row iw)];ie h (λc1 h=>be h λfN gU h=>be h λ_ nu h=>cC (aK h) zA [aX c1,(5,jh.app gU),(0,jh.eB 31 fN),(1,jW.jU nu)]) λc1 h=>be h λ_ lu h=>be h λ_ iW h=>be h λ_ j5 h=>let zB:SE:=dv zA [aX c1,(4,de lu),(0,jW.row iW),qT (Na n j5)];ie h (λc2 h=>be h λwU Kd h=>be h λ_ tX h=>cC (aK h) zB [aD c2,(4,jh.app Kd),(0,jh.eB 31 wU),(1,jW.jU tX)]) λc2 h=>cC (aK h) zB [aD c2]) λc0 h=>ra (aU h) [aD c0]
def zN (aB:bn->A bn):Nat->Int->Int->bn->bn->A bn
 |0=>dw.z
 |n+1=>uJ aB (zN aB n) n
def axm {aB} (aU:KK (Sn [1,1,1,1,1]) Xp aB):∀n:Nat,KK (Sn (aI 175)) Xq (zN aB n)
 |0=>KC.h
 |n+1=>aMw aU (axm aU n) n
def qO (n:Nat) (LG:bn):A bn:=
 V LG
def aMv:KK (Sn [1,1,1,1,1]) Xp (qO a):=λ_ r h=>rr h [(2,.ja 35 bF)]
def Vk:A bn:=
 (ZP a q).bind λx3=>(ZO a x3).bind λx7=>(iP x7.length x3.length).bind λw8=>zN (qO a) a (x3.length:Int) 0 x7 []
def aMu:KK (Sn []) amj (Vk a):=λ_ r h=>be h λ_ eP h=>be h λ_ iQ h=>be h λ_ hw8 h=>ra (axm (aMv a) a h) [(2,.call (aRI a eP) [] [(8,bF)]),(2,.call (aRH a iQ) [(8,0)] []),(4,.born [4] [] 35 M 70 1),(0,.seq 3 (bH (AV.ms 8 1 0) ((pq hw8).symm))),(0,.seq 11 (bH (AV.ms 8 1 0) ((pq hw8).symm)))]
def Sd:=Vk
def aGa:KK (Cx E0 186 Tc anb) amj (Sd a):=λ_ _ h=>ca (X:=x186) (aMu a h)
def x155:=fx E0 Tryz.f155 []
def A8:=Ax x155 cY bG
def XS:LS:=⟨[(0,.kH (EV c)),(3,.kH (jN u)),(4,iI m),(5,.ms 70 1 0 aF.length),(6,.ms 76 1 0 da.length),(47,.slice 110 6 ab.length (kr ab)),(48,iI f8),(49,iI aq)],[(70,xN aF),(76,xN da)]⟩
def XR:LS:=⟨[(5,.ms 79 1 0 q.length),(6,.ms 81 1 0 aF.length),(99,bM b),(100,bM d)],[(79,xN q),(81,xN aF)]⟩
def XQ:LS:=⟨[],[]⟩
def XP:LS:=⟨[(0,.kH (EV c)),(5,.ms 70 1 0 q.length),(6,.ms 76 1 0 aF.length)],[(70,xN q),(76,xN aF)]⟩
def VK (br:aHp) (back:aJ->ai->Int->gq->Int->Int->bn->bn->A Bool) (n:Nat) (g0:aJ) (t3:ai) (c4:Int) (t47:gq) (t48 t49:Int) (yQ yP:bn):A Bool:=
 if U (t49<t48) then
 (idx t47 t49).bind λx2=>(idx t3.ag c4).bind λiK=>(ZT n x2.f0 iK.aE).bind λgS=>if !gS then
 V B
 else
 (app yQ [[x2.f0]]).bind λvk=>(app yP [[x2.f1]]).bind λLp=>back g0 t3 c4 t47 t48 (aV (t49+1)) vk Lp
 else
 br g0 yQ yP
def aND {br} (cO:KK (A8 [1,1,1,1,1]) XP br) {back} (aK:KK (A8 (aI 175)) XS back) (n:Nat):KK (A8 (aI 175)) XS (VK br back n):=λ_ _ _ _ _ _ _ _ r h=>ie h (λc0 h=>be h λx2 dg h=>be h λ_ iO h=>be h λ_ jl h=>let zA:SE:=[aD c0,(0,E8.idx dg),(10,fk.idx iO),jj (arz n jl)];ie h (λc1 h=>bu h zA [aD c1]) λc1 h=>be h λ_ tY h=>be h λ_ MM h=>cC (aK h) zA [aD c1,(4,jh.eB 68 [x2.f0]),(1,jW.jU tY),(5,jh.eB 74 [x2.f1]),(1,jW.jU MM)]) λc0 h=>ra (cO h) [aD c0]
def IS (br:aHp):Nat->aJ->ai->Int->gq->Int->Int->bn->bn->A Bool
 |0=>dw.z
 |n+1=>VK br (IS br n) n
def axE {br} (cO:KK (A8 [1,1,1,1,1]) XP br):∀n:Nat,KK (A8 (aI 175)) XS (IS br n)
 |0=>KC.h
 |n+1=>aND cO (axE cO n) n
def uK (back:Int->Int->bn->bn->A Bool) (n:Nat) (t99 t100:Int) (b79 b81:bn):A Bool:=
 if U (t100<t99) then
 (eh b79.length t100).bind λx6=>(b79[0+x6]?).bind λx8=>(idx x8 0).bind λeW=>(eh b81.length t100).bind λga=>(b81[0+ga]?).bind λiZ=>(idx iZ 0).bind λlg=>if !((eW.aE==lg.aE)&&((eW.dj==lg.dj)&&((U (eW.cM=lg.cM))&&M))) then
 V B
 else
 back t99 (aV (t100+1)) b79 b81
 else
 K
def aNC {bh} (cL:KK (A8 (aI 511)) XQ bh) {back} (aK:KK (A8 (aI 1407)) XR back) (n:Nat):KK (A8 (aI 1407)) XR (uK bh back n):=λ_ _ _ _ r h=>ie h (λc0 h=>be h λ_ jV h=>be h λ_ lj h=>be h λ_ iF h=>be h λ_ lu h=>be h λ_ iW h=>be h λ_ nu h=>let zA:SE:=[aD c0,(4,de jV),(0,jW.row lj),(0,jh.idx iF),(3,de lu),(0,jW.row iW),(0,jh.idx nu)];ie h (λc1 h=>bu h zA [aW c1]) λc1 h=>cC (aK h) zA [aW c1]) λc0 h=>ra (cL h) [aD c0]
def xA (bh:A Bool):Nat->Int->Int->bn->bn->A Bool
 |0=>dw.z
 |n+1=>uK bh (xA bh n) n
def axD {bh} (cL:KK (A8 (aI 511)) XQ bh):∀n:Nat,KK (A8 (aI 1407)) XR (xA bh n)
 |0=>KC.h
 |n+1=>aNC cL (axD cL n) n
def pP (n:Nat):A Bool:=
 V M
def aNB:KK (A8 (aI 511)) XQ (pP a):=λr h=>rr h []
def NZ:A Bool:=
 (Sd a q).bind λx2=>(Sd a aF).bind λx5=>if (x2.length:Int) !=(c.fm.cA.length:Int) then
 V B
 else
 if (x5.length:Int) !=(x2.length:Int) then
 V B
 else
 xA (pP a) a (x2.length:Int) 0 x2 x5
def aNA:KK (A8 [1,1,1,1,1]) XP (NZ a):=λ_ yQ yP r h=>be h λ_ dg h=>be h λ_ iw h=>let zA:SE:=[(1,jW.eB 70 yQ),(0,.call (aGa a dg) [] [(79,bF)]),(1,jW.eB 76 yP),(0,.call (aGa a iw) [] [(81,bF)])];ie h (λc0 h=>bu h zA [(10,eb c0)]) λc0 h=>ie h (λc1 h=>bu h zA [(10,eb c0),bS c1]) λc1 h=>cC (axD (aNB a) a h) zA [(10,eb c0),bS c1]
def aky:A Bool:=
 (Ql a c).bind λx3=>(Se a c c.fm.ba).bind λiK=>if !iK then
 V B
 else
 (ajc a c).bind λlg=>if lg then
 V B
 else
 if U ((c.fm.cA.length:Int)<1) then
 V B
 else
 if U (16<(c.fm.cA.length:Int)) then
 V B
 else
 IS (NZ a) a c x3 c.fm.ba c.fm.cA (c.fm.cA.length:Int) 0 [] []
def aNz:KK (A8 []) Au (aky a):=λ_ r h=>be h λ_ eP h=>be h λ_ iO h=>let zA:SE:=[(1,.ord [0,2,3,4,5,6,1,7,8]),ze (T9 a eP),ku (abO a iO)];ie h (λc0 h=>bu h zA [aD c0]) λc0 h=>be h λ_ nu h=>let zB:SE:=dv zA [aD c0,jj (aGd a nu)];ie h (λc1 bE=>by subst c1;exact (rr bE zB)) λc1 bE=>by subst c1;exact (ie bE (λc2 bE=>bu bE zB [iS c2]) λc2 bE=>ie bE (λc3 bE=>bu bE zB [iS c2,iS c3]) λc3 bE=>cC (axE (aNA a) a bE) zB [iS c2,iS c3,(10,.born [5] [] 70 M 70 1),(0,.born [6] [] 76 M 70 1)])
def ajl:=aky
def aRV:KK (Cx E0 155 cY bG) Au (ajl a):=λ_ _ h=>ca (X:=x155) (aNz a h)
end Go.Proofs.YtbnkhmoelnfjoaaGreat
end
