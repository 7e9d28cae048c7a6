/- Part. -/
import Derived.Test.YtbnkhmoelnfjoaaGreatP4
import Derived.KernelRfl
set_option linter.all false
set_option maxRecDepth 100000
open Bool renaming false->I,true->M
open Option renaming some->V,none->G
open Decidable renaming decide->iL
open Go.Proofs.YtbnkhmoelnfjoaaGreat.ae renaming mk->ad2
open Go.Proofs.YtbnkhmoelnfjoaaGreat.ai renaming mk->ad3
open ByteArray renaming empty->A',mk->Bk
open Go.Proofs.YtbnkhmoelnfjoaaGreat.aJ renaming mk->ad4
open Go.Proofs.YtbnkhmoelnfjoaaGreat.aj renaming mk->ad5
open Go.IntKind renaming wrap->Y'
open Go.Utf8 renaming encode->aaI,decode->Z'
noncomputable section
namespace Go.Proofs.YtbnkhmoelnfjoaaGreat
open Go.bM
variable (a:Nat) (b d:Int) (c:aJ) (i:ae) (j:aP) (g:Int) (t:bw) (o x:Int) (p:aj) (q:bK) (u:ai) (y:br) (m s:Int) (A:bt) (C:aE) (w R:ae) (J:cY) (K:Z Bool) (F:aN) (D:Int) (L:Bool) (f9:ae) (S:bL) (B aa:Int) (H:bX) (T:ai) (ge:bw) (ab:gf) (f7:Int) (g6:U) (aq aR:Int) (au:br) (E ac:ai) (N:cY) (ad:bt) (ex:bL) (af:aP) (aw:bw) (ak:Int) (al:Nat) (ax:aJ) (am:aj) (aT:YM) (a2:CQ) (an:Nat) (W:Int) (Y:mo) (f8:aj) (O:br) (bc:aN) (P:ae) (ao:aE) (ap:ai) (az:aS) (bd:lF) (aC:Int) (a3:aP) (bi:gf) (a4 a5 cp:Int) (bm:FW) (bo:ae) (bs:O0) (a6:Nat) (bu:Bool) (aG:bK) (bv:ae) (a7:bw) (a8:aj) (bx:bX) (bz:O1) (a9:bI) (cr:ai) (bB:Nat) (cs:cY) (bG:Int) (ct:br) (cu:bw) (cv:YK) (cw:cJ) (bJ cy:Int) (bO:ae) (ba:aE) (bQ:ai) (bR:Nat) (bT:bl) (bU:aP) (aO:aj) (cz:Z Int) (bY:bL) (cb:MU) (cC:arM) (cD:arK) (cE:Nat) (cH:bw) (cc cK:Int) (cQ:arH) (cR:aCb) (cT:Nat) (cU:Int) (cV:bt) (bb ce:Int) (cg:ai) (cW:YO) (cZ:Rl) (ch:Nat) (ci:aF) (c9:Wf0) (da:arO) (dc:bK) (dd:List (U×Bool)) (de:aJ) (cl:aj) (dA:arI) (dB:MU) (cn:Nat) (co df:Int) (dl:bL) (dn:ae) (dD:gf) (dp:aS) (dq:U) (ds:(Bool×aJ)) (dE:abc) (dG dH:Int) (dx:iq) (dI:arJ) (dK:ahp) (dL:aFZ) (dM:Nat) (dO:bw) (dQ:Wf34) (dT:Wf27) (dU:Nat) (dW:Wf24) (dY:Nat) (d0 d1:Int) (d2:aGb) (d3:bl) (dy:Nat) (d4:arN) (d5:aJ) (dz:bw) (d6:Z Bool) (d7:arP) (d8:ae) (d9:aP) (ea:aj) (ec ee:Int) (ef:List (U×Bool)) (eg:fU) (eh:ai) (ei:aCc) (ej:Wf36) (ek:(fU×Int)) (em:(bX×aN)) (en:(ai×cY×bL×br)) (eq:(ae×bX×fU×Int×aN)) (es:(aP×aP)) (et:(Bool×Int))
def Hr:AV:=.slice 3 1 j.length (dJ j)
def x216:=fx E0 Tryz.f216 []
def NI:=Ax x216 Hr bC
def zL:LS:=⟨[(0,.slice 3 1 j.length (dJ j)),(1,iI g),(5,iI o)],[]⟩
def ale:LS:=⟨[(0,.slice 3 1 j.length (dJ j)),(1,iI g)],[]⟩
def Nh (bh:aCd) (back:aCd) (n:Nat) (l0:aP) (n1 i5:Int):Z aP:=
 if iL (i5<(l0.length:Int)) then
 (idx l0 i5).bind λx8=>if iL (x8<n1) then
 back l0 n1 (aW (i5+1))
 else
 bh l0 n1 i5
 else
 bh l0 n1 i5
def aKF {bh} (cF:KK (NI [1,1,1]) zL bh) {back} (aK:KK (NI [0,0,1,1]) zL back) (n:Nat):KK (NI [0,0,1,1]) zL (Nh bh back n):=λ_ _ _ r h=>ie h (λc0 h=>be h λ_ lN h=>ie h (λc1 h=>ra (aK h) [aZ c0,(3,R3.idx lN),aQ c1]) λc1 h=>ra (cF h) [aZ c0,(3,R3.idx lN),aQ c1]) λc0 h=>ra (cF h) [aZ c0]
def EF (bh:aCd):Nat->aP->Int->Int->Z aP
 |0=>dv.z
 |n+1=>Nh bh (EF bh n) n
def awj {bh} (cF:KK (NI [1,1,1]) zL bh):∀n:Nat,KK (NI [0,0,1,1]) zL (EF bh n)
 |0=>KC.h
 |n+1=>aKF cF (awj cF n) n
def Ng (n:Nat) (l0:aP) (n1 i5:Int):Z aP:=
 (cut l0 G (V i5)).bind λx3=>(app [] x3).bind λx5=>(app x5 [n1]).bind λx9=>(cut l0 (V i5) G).bind λdC=>(app x9 dC).bind λfT=>V fT
def aye:KK (NI [1,1,1,1]) zL (Ng a):=λ_ _ _ r h=>be h λ_ eM h=>be h λ_ ic h=>be h λ_ iS h=>be h λ_ fE h=>be h λfT kU h=>rr h [(0,.born [] [] 36 M 3 1),(2,R3.cut eM),(0,R3.app (xs:= []) ic),(2,R3.jS iS),(2,R3.cut fE),(0,R3.app kU),(1,R3.er 36 fT),(0,.tU 4 (.sl 0 0 0 0 []))]
def Uq:Z aP:=
 if iL (o<(j.length:Int)) then
 (idx j o).bind λx8=>if x8==g then
 V j
 else
 Ng a j g o
 else
 Ng a j g o
def aKE:KK (NI [1,1,1]) zL (Uq a):=λ_ _ _ r h=>ie h (λc0 h=>be h λ_ lN h=>ie h (λc1 h=>rr h [aZ c0,(3,R3.idx lN),aQ c1]) λc1 h=>ra (aye a h) [aZ c0,(3,R3.idx lN),aQ c1]) λc0 h=>ra (aye a h) [aZ c0]
def aiU:Z aP:=
 EF (Uq a) a j g 0
def aKD:KK (NI []) ale (aiU a):=λ_ _ r h=>ra (awj (aKE a) a h) []
def ash:=aiU
def aPU:KK (Cx E0 216 Hr bC) ale (ash a):=λ_ _ _ h=>ca (X:=x216) (aKD a h)
def x195:=fx E0 Tryz.f195 []
def Av:=Ax x195 Hr bC
def Nc:=Cx E0 195 Hr bC
def Wy (pP:vf):LS:=⟨[(1,.slice 3 1 j.length (dJ j)),aX 2,(15,.ms 15 5 0 pP.length),(16,iI 2),(17,iI g)],[(2,kM (fR p)),(15,.rows I 105 5 (On pP))]⟩
def Wx:LS:=⟨[(1,.slice 3 1 j.length (dJ j)),aX 2,(36,iI g),(37,iI o)],[(2,kM (fR p))]⟩
def Ww:LS:=⟨[(1,.slice 3 1 j.length (dJ j))],[]⟩
def Wv:LS:=⟨[(1,.slice 3 1 j.length (dJ j)),aX 2],[(2,kM (fR p))]⟩
def we:LS:=⟨[(0,.agg (fR p)),(1,.slice 3 1 af.length (dJ af))],[]⟩
def IX (iN:Rl) (bn:arQ) (back:aP->Int->aj->vf->Z aP) (n:Nat) (l1:aP) (t17:Int) (b2:aj) (pP:vf):Z aP:=
 if iL (t17<2) then
 (dX pP.length t17).bind λx2=>(pP[0+x2]?).bind λx4=>if x4.aD==1 then
 if !iL (x4.dj<0) then
 (ash n l1 x4.dj).bind λkO=>back kO (aW (t17+1)) b2 pP
 else
 back l1 (aW (t17+1)) b2 pP
 else
 back l1 (aW (t17+1)) b2 pP
 else
 bn l1 b2
def aKP {iN} (pw:KK Nc we iN) {bn} (cM:KK (Av [1,1]) Wv bn) {back} (aK:KK (Av (aI 85)) Wy back) (n:Nat):KK (Av (aI 85)) Wy (IX iN bn back n):=λ_ _ _ _ r h=>ie h (λc0 h=>be h λ_ di h=>be h λ_ iF h=>let zA:SE:=[aB c0,(0,cX di),(0,arT.row iF)];ie h (λc1 h=>ie h (λc2 h=>be h λ_ mV h=>cB (aK h) zA [bk c1,aZ c2,j2 (aPU n mV)]) λc2 h=>cB (aK h) zA [bk c1,aZ c2]) λc1 h=>cB (aK h) zA [bk c1]) λc0 h=>ra (cM h) [aB c0]
def xf (iN:Rl) (bn:arQ):Nat->aP->Int->aj->vf->Z aP
 |0=>dv.z
 |n+1=>IX iN bn (xf iN bn n) n
def awl {iN} (pw:KK Nc we iN) {bn} (cM:KK (Av [1,1]) Wv bn):∀n:Nat,KK (Av (aI 85)) Wy (xf iN bn n)
 |0=>KC.h
 |n+1=>aKP pw cM (awl pw cM n) n
def Uv (back:aP->Int->Int->aj->Z aP) (n:Nat) (l1:aP) (t36 t37:Int) (b2:aj):Z aP:=
 if iL (t37<t36) then
 (idx b2.fArgs t37).bind λx7=>(cZ x7 l1).bind λdN=>back dN t36 (aW (t37+1)) b2
 else
 c9 l1
def aKO {iN} (pw:KK Nc we iN) {bh} (cF:KK (Av [1,1,1]) Ww bh) {back} (aK:KK (Av [0,1,0,1,1]) Wx back) (n:Nat):KK (Av [0,1,0,1,1]) Wx (Uv iN bh back n):=λ_ _ _ _ r h=>ie h (λc0 h=>be h λ_ iE h=>be h λ_ fN h=>ra (aK h) [aB c0,(5,eR.idx iE),im (pw fN)]) λc0 h=>ra (cF h) [aB c0]
def Ia (iN:Rl) (bh:Wf0):Nat->aP->Int->Int->aj->Z aP
 |0=>dv.z
 |n+1=>Uv iN bh (Ia iN bh n) n
def awk {iN} (pw:KK Nc we iN) {bh} (cF:KK (Av [1,1,1]) Ww bh):∀n:Nat,KK (Av [0,1,0,1,1]) Wx (Ia iN bh n)
 |0=>KC.h
 |n+1=>aKO pw cF (awk pw cF n) n
def Uu (iN:Rl) (n:Nat) (l1:aP):Z aP:=
 V l1
def aKN {iN} (pw:KK Nc we iN) (n:Nat):KK (Av [1,1,1]) Ww (Uu iN n):=λ_ r h=>rr h []
def IW:Z aP:=
 Ia cZ (Uu cZ ch) ch d9 (ea.fArgs.length:Int) 0 ea
def ayf {iN} (pw:KK Nc we iN) (n:Nat):KK (Av [1,1]) Wv (IW iN n):=λ_ _ r h=>ra (awk pw (aKN pw n) n h) []
def aiY:Z aP:=
 if cl.bf==3 then
 xf cZ (IW cZ ch) ch d9 0 cl [cl.cO,cl.cj]
 else
 IW cZ ch d9 cl
def aKM {iN} (pw:KK Nc we iN) (n:Nat):KK (Av []) we (aiY iN n):=λ_ _ r h=>ie h (λc0 h=>ra (awl pw (ayf pw n) n h) [bk c0]) λc0 h=>ra (ayf pw n h) [bk c0]
def GN:Nat->aj->aP->Z aP
 |0,_,_=>G
 |n+1,p0,l1=>aiY (GN n) n p0 l1
def aEK:∀n:Nat,KK Nc we (GN n)
 |0=>λ_ _ _ h=>nz h
 |n+1=>λ_ _ _ h=>ca (X:=x195) (aKM (aEK n) n h)
def x176:=fx E0 Tryz.f176 []
def A176:=Ax x176 Hr bC
def ajk:Z aP:=
 (GN a p []).bind λx4=>V x4
def aLq:KK (A176 []) C6 (ajk a):=λ_ r h=>be h λ_ iF h=>rr h [j3 (aEK a iF)]
def asn:=ajk
def aQe:KK (Cx E0 176 Hr bC) C6 (asn a):=λ_ _ h=>ca (X:=x176) (aLq a h)
def x143:=fx E0 Tryz.f143 []
def nZ:=Ax x143 cP bC
def Xn:LS:=⟨[(1,iI b),aX 2,(14,.slice 121 2 S.length (eo S)),(15,iI B),(16,iI aa),(21,.slice 3 1 af.length (dJ af)),(22,iI ak),(23,iI W)],[(2,gP (jv ap))]⟩
def zS:LS:=⟨[(1,iI b),aX 2,(14,.slice 121 2 S.length (eo S)),(15,iI B),(16,iI aa)],[(2,gP (jv T))]⟩
def Xm:LS:=⟨[(1,iI b),(33,.slice 107 13 y.length (dP y)),(34,iI m),(35,iI s),(40,.slice 3 1 af.length (dJ af)),(41,iI ak),(42,iI W)],[]⟩
def zR:LS:=⟨[(1,iI b),(33,.slice 107 13 y.length (dP y)),(34,iI m),(35,iI s)],[]⟩
def Xl:LS:=⟨[],[]⟩
def Xk:LS:=⟨[(1,bH b),aX 2],[(2,gP (jv u))]⟩
def alA:LS:=⟨[(0,.agg (jv u)),(1,bH m)],[]⟩
def Vm (back:Int->bL->Int->Int->aP->Int->Int->ai->Z Bool) (n:Nat) (gx:Int) (t14:bL) (t15 t16:Int) (t21:aP) (t22 t23:Int) (b2:ai):Z Bool:=
 if iL (t23<t22) then
 (idx t21 t23).bind λx2=>if x2==gx then
 V M
 else
 back gx t14 t15 t16 t21 t22 (aW (t23+1)) b2
 else
 d7 gx t14 t15 t16 b2
def aMT {aA} (aU:KK (nZ (aI 485)) zS aA) {back} (aK:KK (nZ (aI 5733)) Xn back) (n:Nat):KK (nZ (aI 5733)) Xn (Vm aA back n):=λ_ _ _ _ _ _ _ _ r h=>ie h (λc0 h=>be h λ_ di h=>ie h (λc1 h=>rr h [aB c0,(0,R3.idx di),bk c1]) λc1 h=>ra (aK h) [aB c0,(0,R3.idx di),bk c1]) λc0 h=>ra (aU h) [aB c0]
def Ix (aA:arP):Nat->Int->bL->Int->Int->aP->Int->Int->ai->Z Bool
 |0=>dv.z
 |n+1=>Vm aA (Ix aA n) n
def awS {aA} (aU:KK (nZ (aI 485)) zS aA):∀n:Nat,KK (nZ (aI 5733)) Xn (Ix aA n)
 |0=>KC.h
 |n+1=>aMT aU (awS aU n) n
def Vl (n:Nat) (gx:Int) (t14:bL) (t15 t16:Int) (b2:ai):Z Bool:=
 d7 gx t14 t15 (aW (t16+1)) b2
def aMS {bh} (cF:KK (nZ [0,1,0,1]) zS bh) (n:Nat):KK (nZ (aI 485)) zS (Vl bh n):=λ_ _ _ _ _ r h=>ra (cF h) []
def Vk (lM:Int->ai->Z Bool) (back:arP) (n:Nat) (gx:Int) (t14:bL) (t15 t16:Int) (b2:ai):Z Bool:=
 if iL (t16<t15) then
 (idx t14 t16).bind λx2=>Ix (Vl back n) n gx t14 t15 t16 x2.ag (x2.ag.length:Int) 0 b2
 else
 lM gx b2
def aMR {lM} (tH:KK (nZ [1,1]) Xk lM) {back} (aK:KK (nZ [0,1,0,1]) zS back) (n:Nat):KK (nZ [0,1,0,1]) zS (Vk lM back n):=λ_ _ _ _ _ r h=>ie h (λc0 h=>be h λ_ di h=>ra (awS (aMS aK n) n h) [aB c0,(0,fj.idx di)]) λc0 h=>ra (tH h) [aB c0]
def EO (lM:Int->ai->Z Bool):Nat->Int->bL->Int->Int->ai->Z Bool
 |0=>dv.z
 |n+1=>Vk lM (EO lM n) n
def awR {lM} (tH:KK (nZ [1,1]) Xk lM):∀n:Nat,KK (nZ [0,1,0,1]) zS (EO lM n)
 |0=>KC.h
 |n+1=>aMR tH (awR tH n) n
def Vj (back:Int->br->Int->Int->aP->Int->Int->Z Bool) (n:Nat) (gx:Int) (t33:br) (t34 t35:Int) (t40:aP) (t41 t42:Int):Z Bool:=
 if iL (t42<t41) then
 (idx t40 t42).bind λx2=>if x2==gx then
 V M
 else
 back gx t33 t34 t35 t40 t41 (aW (t42+1))
 else
 da gx t33 t34 t35
def aMQ {db} (fh:KK (nZ (aI 971)) zR db) {back} (aK:KK (nZ (aI 11467)) Xm back) (n:Nat):KK (nZ (aI 11467)) Xm (Vj db back n):=λ_ _ _ _ _ _ _ r h=>ie h (λc0 h=>be h λ_ di h=>ie h (λc1 h=>rr h [aB c0,(0,R3.idx di),bk c1]) λc1 h=>ra (aK h) [aB c0,(0,R3.idx di),bk c1]) λc0 h=>ra (fh h) [aB c0]
def Iw (db:arO):Nat->Int->br->Int->Int->aP->Int->Int->Z Bool
 |0=>dv.z
 |n+1=>Vj db (Iw db n) n
def awQ {db} (fh:KK (nZ (aI 971)) zR db):∀n:Nat,KK (nZ (aI 11467)) Xm (Iw db n)
 |0=>KC.h
 |n+1=>aMQ fh (awQ fh n) n
def Vi (n:Nat) (gx:Int) (t33:br) (t34 t35:Int):Z Bool:=
 da gx t33 t34 (aW (t35+1))
def aMP {eO} (iD:KK (nZ [0,1,0,1,1]) zR eO) (n:Nat):KK (nZ (aI 971)) zR (Vi eO n):=λ_ _ _ _ r h=>ra (iD h) []
def Vh (t33:br) (t34 t35:Int):Z Bool:=
 if iL (t35<t34) then
 (idx t33 t35).bind λx2=>(asn cn x2).bind λx8=>Iw (Vi da cn) cn co t33 t34 t35 x8 (x8.length:Int) 0
 else
 K
def aMO {jh} (oB:KK (nZ [1,1,1]) Xl jh) {back} (aK:KK (nZ [0,1,0,1,1]) zR back) (n:Nat):KK (nZ [0,1,0,1,1]) zR (Vh jh back n):=λ_ _ _ _ r h=>ie h (λc0 h=>be h λ_ di h=>be h λ_ lN h=>ra (awQ (aMP aK n) n h) [aB c0,(0,eR.idx di),j2 (aQe n lN)]) λc0 h=>ra (oB h) [aB c0]
def EN (jh:Z Bool):Nat->Int->br->Int->Int->Z Bool
 |0=>dv.z
 |n+1=>Vh jh (EN jh n) n
def awP {jh} (oB:KK (nZ [1,1,1]) Xl jh):∀n:Nat,KK (nZ [0,1,0,1,1]) zR (EN jh n)
 |0=>KC.h
 |n+1=>aMO oB (awP oB n) n
def Vg (n:Nat):Z Bool:=
 V I
def aMN:KK (nZ [1,1,1]) Xl (Vg a):=λr h=>rr h []
def Vf:Z Bool:=
 EN (Vg a) a b u.aL (u.aL.length:Int) 0
def aMM:KK (nZ [1,1]) Xk (Vf a):=λ_ _ r h=>ra (awP (aMN a) a h) []
def ajO:Z Bool:=
 EO (Vf a) a m u.ar (u.ar.length:Int) 0 u
def aML:KK (nZ []) alA (ajO a):=λ_ _ r h=>ra (awR (aMM a) a h) []
def aiB:=ajO
def aFh:KK (Cx E0 143 cP bC) alA (aiB a):=λ_ _ _ h=>ca (X:=x143) (aML a h)
def Hs:AV:=.agg (fR p)
def x177:=fx E0 Tryz.f177 []
def GR:=Ax x177 Hs bC
def Rz:=Cx E0 177 Hs bC
def WL (b6:aj):LS:=⟨[(1,bH b),(2,bH d),aX 3,aX 6],[(3,kM (fR p)),(6,q2_)]⟩
def WK:LS:=⟨[(1,iI b),(2,iI d),aX 3,aX 6,(7,.ms 50 13 0 O.length),(38,.slice 107 13 y.length (dP y)),(39,iI m),(40,iI s)],[(3,kM (fR am)),(6,kM (fa f8 .cq)),(50,Gs O)]⟩
def WJ:LS:=⟨[aX 3,aX 6,(7,.ms 50 13 0 O.length)],[(3,kM (fR p)),(6,kM (fa am .cq)),(50,Gs O)]⟩
def xZ:LS:=⟨[(0,.agg (fR p)),(1,bH m),(2,bH s)],[]⟩
def Nk (jH:YK) (bn:Int->Int->aj->aj->Z aj) (n:Nat) (dV gZ:Int) (b3 b6:aj):Z aj:=
 if b3.cj.aD==1 then
 (Kt n b3.cj.dj dV gZ).bind λeN=>bn dV gZ (ad5 b3.bf b3.fA b3.cO (bI.mk b3.cj.aD eN b3.cj.bj) b3.fArgs) rV
 else
 bn dV gZ b3 rV
def ayh {jH} (qf:KK Rz xZ jH) {bn} (cM:KK (GR [1,1]) WL bn) (n:Nat):KK (GR [1,0,1,0,1]) WL (Nk jH bn n):=λ_ _ _ _ r h=>ie h (λc0 h=>be h λ_ iK h=>ra (cM h) [aZ c0,mw (Ti n iK)]) λc0 h=>ra (cM h) [aZ c0]
def UI (back:Int->Int->br->Int->Int->aj->aj->br->Z aj) (n:Nat) (dV gZ:Int) (t38:br) (t39 t40:Int) (b3 b6:aj) (K6:br):Z aj:=
 if iL (t40<t39) then
 (idx t38 t40).bind λx2=>(cv x2 dV gZ).bind λdN=>(app K6 [dN]).bind λiv=>back dV gZ t38 t39 (aW (t40+1)) b3 (ad5 b6.bf b6.fA b6.cO b6.cj []) iv
 else
 d4 b3 (ad5 b6.bf b6.fA b6.cO b6.cj []) K6
def aLp {jH} (qf:KK Rz xZ jH) {bh} (cF:KK (GR [1,1,1,1]) WJ bh) {back} (aK:KK (GR (aI 87)) WK back) (n:Nat):KK (GR (aI 87)) WK (UI jH bh back n):=λ_ _ _ _ _ _ _ _ r h=>ie h (λc0 h=>be h λ_ di h=>be h λdN fN h=>be h λ_ iC h=>ra (aK h) [aB c0,(0,eR.idx di),yM (qf fN),(0,.laid (bF (Bx.rows I 107 13) (eR.map [dN]).symm)),(0,eR.jS iC)]) λc0 h=>ra (cF h) [aB c0]
def Ih (jH:YK) (bh:arN):Nat->Int->Int->br->Int->Int->aj->aj->br->Z aj
 |0=>dv.z
 |n+1=>UI jH bh (Ih jH bh n) n
def aws {jH} (qf:KK Rz xZ jH) {bh} (cF:KK (GR [1,1,1,1]) WJ bh):∀n:Nat,KK (GR (aI 87)) WK (Ih jH bh n)
 |0=>KC.h
 |n+1=>aLp qf cF (aws qf cF n) n
def ajj (jH:YK) (n:Nat) (b3 b6:aj) (K6:br):Z aj:=
 V (ad5 b3.bf b3.fA b3.cO b3.cj K6)
def aLo {jH} (qf:KK Rz xZ jH) (n:Nat):KK (GR [1,1,1,1]) WJ (ajj jH n):=λ_ _ K6 r h=>rr h [(5,eR.er 50 K6),(0,.oV 6 (.flat 0 (y6 12 [.sl 0 0 0 0 []])))]
def EY (b6:aj):Z aj:=
 Ih cv (ajj cv bR) bR cc cK cl.fArgs (cl.fArgs.length:Int) 0 cl rV []
def ahd {jH} (qf:KK Rz xZ jH) (n:Nat):KK (GR [1,1]) WL (EY jH n):=λ_ _ _ _ r h=>ra (aws qf (aLo qf n) n h) [(5,.born [7] [] 50 M 107 13)]
def aji:Z aj:=
 if aO.bf==3 then
 if aO.cO.aD==1 then
 (Kt bR aO.cO.dj cc cK).bind λfT=>Nk cv (EY cv bR) bR cc cK (ad5 aO.bf aO.fA (bI.mk aO.cO.aD fT aO.cO.bj) aO.cj aO.fArgs) rV
 else
 Nk cv (EY cv bR) bR cc cK aO rV
 else
 EY cv bR cc cK aO rV
def aLn {jH} (qf:KK Rz xZ jH) (n:Nat):KK (GR []) xZ (aji jH n):=λ_ _ _ r h=>ie h (λc0 h=>ie h (λc1 h=>be h λ_ kU h=>ra (ayh qf (ahd qf n) n h) [bk c0,aZ c1,mw (Ti n kU)]) λc1 h=>ra (ayh qf (ahd qf n) n h) [bk c0,aZ c1]) λc0 h=>ra (ahd qf n h) [bk c0]
def GO:Nat->aj->Int->Int->Z aj
 |0,_,_,_=>G
 |n+1,p0,dV,gZ=>aji (GO n) n p0 dV gZ
def aES:∀n:Nat,KK Rz xZ (GO n)
 |0=>λ_ _ _ _ h=>nz h
 |n+1=>λ_ _ _ _ h=>ca (X:=x177) (aLn (aES n) n h)
def avg:AV:=.agg (eK en.1 (.ms pE 2 0 en.2.1.length) (.ms lT 2 0 en.2.2.1.length) (.ms pD 13 0 en.2.2.2.length))
def amj:List (Nat×Bx):= [(pE,xy en.2.1),(lT,Ci en.2.2.1),(pD,DO en.2.2.2)]
def x144:=fx E0 Tryz.f144 [pE,lT,pD]
def sY:=Ax x144 avg amj
def Xj:LS:=⟨[(1,bH b),(2,bH d),aX 3,aX 6,aX 8,(12,.ms lT 2 0 bY.length),(13,bH g),(14,bH o),(20,bH x),(21,bH m)],[(3,gP (eK E (.ms pE 2 0 J.length) (.ms lT 2 0 bY.length) (.ms pD 13 0 au.length))),(6,gP (eK ac .cq .cq .cq)),(8,.flat 121 [tv DY bU.length,bH bT.av]),(pE,xy J),(lT,.tree 121 2 Ya (((eo bY)).set dy (qa d3.av)) [(dy*2+0,tv DY bU.length)]),(pD,DO au),(DY,wF bU)]⟩
def zQ:LS:=⟨[(1,bH b),(2,bH d),aX 3,aX 6,(12,.ms lT 2 0 ex.length),(13,bH g),(14,bH o)],[(3,gP (eK E (.ms pE 2 0 J.length) (.ms lT 2 0 ex.length) (.ms pD 13 0 au.length))),(6,gP (eK ac .cq .cq .cq)),(pE,xy J),(lT,Ci ex),(pD,DO au)]⟩
def Xi:LS:=⟨[(1,bH b),(2,bH d),aX 3,aX 6,(40,bH g),(41,bH o)],[(3,gP (eK E (.ms pE 2 0 J.length) (.ms lT 2 0 ex.length) (.ms pD 13 0 au.length))),(6,gP (eK ac .cq .cq .cq)),(pE,xy J),(lT,Ci ex),(pD,DO au)]⟩
def Xh:LS:=⟨[aX 3,aX 6],[(3,gP (eK E (.ms pE 2 0 J.length) (.ms lT 2 0 ex.length) (.ms pD 13 0 au.length))),(6,gP (eK ac .cq .cq .cq)),(pE,xy J),(lT,Ci ex),(pD,DO au)]⟩
def Xg:LS:=⟨[(1,bH b),(2,bH d),aX 3,aX 6],[(3,gP (eK E (.ms pE 2 0 J.length) (.ms lT 2 0 ex.length) (.ms pD 13 0 au.length))),(6,gP (eK ac .cq .cq .cq)),(pE,xy J),(lT,Ci ex),(pD,DO au)]⟩
def alz:LS:=⟨[(0,.agg (eK u (.ms pE 2 0 u.ag.length) (.ms lT 2 0 u.ar.length) (.ms pD 13 0 u.aL.length))),(1,bH m),(2,bH s)],(q21_ pE u lT pD)⟩
def Ve (back:Int->Int->Int->Int->Int->Int->cY->br->ai->ai->bl->aP->bL->bl->Nat->Z (ai×cY×bL×br)) (n:Nat) (dV gZ t13 t14 t20 t21:Int) (eI:cY) (ew:br) (b3 b6:ai) (b8:bl) (xl:aP) (ep:bL) (vO:bl) (tn:Nat):Z (ai×cY×bL×br):=
 if iL (t21<t20) then
 (dX xl.length t21).bind λeN=>(xl[0+eN]?).bind λjd=>(Kt n jd dV gZ).bind λgd=>(dX xl.length t21).bind λja=>(xl[0+ja]?).bind λlx=>(setAt xl (0+ja) gd).bind λz21=>back dV gZ t13 t14 t20 (aW (t21+1)) eI ew (ad3 b3.aM eI b3.aH ep ew) (ad3 b6.aM [] b6.aH [] []) (bl.mk z21 b8.av) z21 ep (bl.mk [] vO.av) tn
 else
 (setAt ep tn (bl.mk xl vO.av)).bind λz2=>dK dV gZ t13 t14 eI ew (ad3 b3.aM eI b3.aH z2 ew) (ad3 b6.aM [] b6.aH [] []) z2
def aMK {aA} (aU:KK (sY (aI 485)) zQ aA) {back} (aK:KK (sY (aI 5733)) Xj back) (n:Nat):KK (sY (aI 5733)) Xj (Ve aA back n):=λ_ _ _ _ _ _ eI ew b3 _ b8 xl ep vO tn r h=>ie h (λc0 h=>be h λ_ iK h=>be h λ_ hI h=>be h λgd iB h=>be h λ_ jN h=>be h λ_ jM h=>be h λ_ yO h=>ra (aK h) [aB c0,(8,cX iK),(0,R3.row hI),im (Ti n iB),(0,cX jN),(0,R3.uR 0 [bH gd] jM yO),(2,.beq 8 (bF (λn_=>(Bx.flat 121 [tv DY n_,bH b8.av])) (ey yO))),(0,.beq lT (bF (λn_=>(Bx.tree 121 2 Ya (((eo ep)).set tn (qa vO.av)) [(tn*2+0,tv DY n_)])) (ey yO)))]) λc0 h=>be h λ_ nj h=>ra (aU h) [aB c0,(0,fj.iH R3 (r:= (qa vO.av)) lT DY 0 I 3 1 xl nj),(0,.seq 12 (bF (AV.ms lT 2 0) (ey nj))),(0,.beq 3 (bF (λn_=>((gP (eK b3 (.ms pE 2 0 eI.length) (.ms lT 2 0 n_) (.ms pD 13 0 ew.length))))) (ey nj)))]
def Iv (aA:ahp):Nat->Int->Int->Int->Int->Int->Int->cY->br->ai->ai->bl->aP->bL->bl->Nat->Z (ai×cY×bL×br)
 |0=>dv.z
 |n+1=>Ve aA (Iv aA n) n
def awO {aA} (aU:KK (sY (aI 485)) zQ aA):∀n:Nat,KK (sY (aI 5733)) Xj (Iv aA n)
 |0=>KC.h
 |n+1=>aMK aU (awO aU n) n
def Vd (n:Nat) (dV gZ t13 t14:Int) (eI:cY) (ew:br) (b3 b6:ai) (ep:bL):Z (ai×cY×bL×br):=
 dK dV gZ t13 (aW (t14+1)) eI ew (ad3 b3.aM eI b3.aH ep ew) (ad3 b6.aM [] b6.aH [] []) ep
def aMJ {bh} (cF:KK (sY [0,1,0,1]) zQ bh) (n:Nat):KK (sY (aI 485)) zQ (Vd bh n):=λ_ _ _ _ _ _ _ _ _ r h=>ra (cF h) []
def Vc (eO:Wf20) (back:ahp) (n:Nat) (dV gZ t13 t14:Int) (eI:cY) (ew:br) (b3 b6:ai) (ep:bL):Z (ai×cY×bL×br):=
 if iL (t14<t13) then
 (dX ep.length t14).bind λx2=>(ep[0+x2]?).bind λu5=>Iv (Vd back n) n dV gZ t13 t14 (u5.ag.length:Int) 0 eI ew (ad3 b3.aM eI b3.aH ep ew) (ad3 b6.aM [] b6.aH [] []) u5 u5.ag ep (bl.mk [] u5.av) (0+x2)
 else
 eO dV gZ eI ew (ad3 b3.aM eI b3.aH ep ew) (ad3 b6.aM [] b6.aH [] []) ep
def aMI {eO} (iD:KK (sY [1,1]) Xg eO) {back} (aK:KK (sY [0,1,0,1]) zQ back) (n:Nat):KK (sY [0,1,0,1]) zQ (Vc eO back n):=λ_ _ _ _ _ _ _ _ _ r h=>ie h (λc0 h=>be h λ_ di h=>be h λu5 wZ h=>ra (awO (aMJ aK n) n h) [aB c0,(0,cX di),(0,fj.oJ R3 lT DY 0 I 3 1 u5.ag wZ (qa u5.av)),(0,fj.BS [0] (qa u5.av) wZ)]) λc0 h=>ra (iD h) [aB c0]
def EM (eO:Wf20):Nat->Int->Int->Int->Int->cY->br->ai->ai->bL->Z (ai×cY×bL×br)
 |0=>dv.z
 |n+1=>Vc eO (EM eO n) n
def awN {eO} (iD:KK (sY [1,1]) Xg eO):∀n:Nat,KK (sY [0,1,0,1]) zQ (EM eO n)
 |0=>KC.h
 |n+1=>aMI iD (awN iD n) n
def Vb (db:Wf21) (back:ahp) (n:Nat) (dV gZ t40 t41:Int) (eI:cY) (ew:br) (b3 b6:ai) (ep:bL):Z (ai×cY×bL×br):=
 if iL (t41<t40) then
 (dX ew.length t41).bind λeN=>(ew[0+eN]?).bind λjd=>(GO n jd dV gZ).bind λgd=>(dX ew.length t41).bind λja=>(ew[0+ja]?).bind λlx=>(setAt ew (0+ja) gd).bind λz21=>back dV gZ t40 (aW (t41+1)) eI z21 (ad3 b3.aM eI b3.aH ep z21) (ad3 b6.aM [] b6.aH [] []) ep
 else
 db eI ew (ad3 b3.aM eI b3.aH ep ew) (ad3 b6.aM [] b6.aH [] []) ep
def aMH {db} (fh:KK (sY [1,1,1]) Xh db) {back} (aK:KK (sY [0,1,0,1,1]) Xi back) (n:Nat):KK (sY [0,1,0,1,1]) Xi (Vb db back n):=λ_ _ _ _ eI _ b3 _ ep r h=>ie h (λc0 h=>be h λ_ iK h=>be h λ_ hI h=>be h λgd iB h=>be h λ_ jN h=>be h λ_ jM h=>be h λ_ yO h=>ra (aK h) [aB c0,(8,cX iK),(0,eR.row hI),im (aES n iB),(0,cX jN),(0,eR.uR 0 (fR gd) jM yO),(2,.beq 3 (bF (λn_=>((gP (eK b3 (.ms pE 2 0 eI.length) (.ms lT 2 0 ep.length) (.ms pD 13 0 n_))))) (ey yO)))]) λc0 h=>ra (fh h) [aB c0]
def Iu (db:Wf21):Nat->Int->Int->Int->Int->cY->br->ai->ai->bL->Z (ai×cY×bL×br)
 |0=>dv.z
 |n+1=>Vb db (Iu db n) n
def awM {db} (fh:KK (sY [1,1,1]) Xh db):∀n:Nat,KK (sY [0,1,0,1,1]) Xi (Iu db n)
 |0=>KC.h
 |n+1=>aMH fh (awM fh n) n
def ajN (n:Nat) (eI:cY) (ew:br) (b3 b6:ai) (ep:bL):Z (ai×cY×bL×br):=
 V ((ad3 b3.aM eI b3.aH ep ew),eI,ep,ew)
def aMG:KK (sY [1,1,1]) Xh (ajN a):=λ_ _ _ _ _ r h=>rr h []
def Va:Z (ai×cY×bL×br):=
 Iu (ajN a) a b d (au.length:Int) 0 J au (ad3 E.aM J E.aH ex au) (ad3 ac.aM [] ac.aH [] []) ex
def aMF:KK (sY [1,1]) Xg (Va a):=λ_ _ _ _ _ _ _ r h=>ra (awM (aMG a) a h) []
def ajM:Z (ai×cY×bL×br):=
 EM (Va a) a m s (u.ar.length:Int) 0 u.ag u.aL u (ad3 A' [] 0 [] []) u.ar
def aME:KK (sY []) alz (ajM a):=λ_ _ _ r h=>ra (awN (aMF a) a h) []
def aiA:=ajM
def aFg:KK (Cx E0 144 avg amj) alz (aiA a):=λ_ _ _ _ h=>ca (X:=x144) (aME a h)
def aov:=fx E0 Tryz.f145 []
def wL:=Ax aov cP bC
def aHd (nP:iq):LS:=⟨[(0,.slice 110 6 ab.length (j1 ab)),(1,iI f7),aX 6,(7,iI aq),(8,iI aR),aX 10,(19,.slice 110 6 bi.length (j1 bi)),(20,iI a4),(21,iI a5),(30,.loc 6 0),(31,.loc 6 0),(32,iI cp),(33,iI bG),(34,.bool I),(36,.slice 110 6 dD.length (j1 dD)),(37,iI dG),(38,iI dH)],[(6,.flat 110 (BC dx)),(10,.flat 110 (BC nP))]⟩
def N8:LS:=⟨[(0,.slice 110 6 ab.length (j1 ab)),(1,iI f7),aX 6,(7,iI aq),(8,iI aR),(19,.slice 110 6 bi.length (j1 bi)),(20,iI a4),(21,iI a5),(30,.loc 6 0),(31,.loc 6 0),(32,iI cp),(33,iI bG),(34,.bool I),(36,.slice 110 6 dD.length (j1 dD)),(37,iI dG),(38,iI dH)],[(6,.flat 110 (BC dx))]⟩
def Xf:LS:=⟨[(0,.slice 110 6 ab.length (j1 ab)),(1,iI f7),(7,iI aq),(8,iI aR),(19,.slice 110 6 bi.length (j1 bi)),(20,iI a4),(21,iI a5),(30,.loc 6 0),(31,.loc 6 0),(32,iI cp),(33,iI bG),(34,.bool I)],[(6,.flat 110 (BC dx))]⟩
def N7:LS:=⟨[(0,.slice 110 6 ab.length (j1 ab)),(1,iI f7),(19,.slice 110 6 bi.length (j1 bi)),(20,iI a4),(21,iI a5)],[]⟩
def Xe:LS:=⟨[],[]⟩
def aly:LS:=⟨[(0,.slice 110 6 ab.length (j1 ab)),(1,iI f7)],[]⟩
def U9 (aA:Wf22) (n:Nat) (l0:gf) (il oU mM:Int) (t19:gf) (t20 t21 t32 t33:Int) (t36:gf) (t37 t38:Int) (b6 nP:iq):Z Bool:=
 if ((nP.f1.aD==b6.f0.aD)&&((nP.f1.dh==b6.f0.dh)&&((iL (nP.f1.cG=b6.f0.cG))&&M))) then
 aA l0 il oU (aW (mM+1)) t19 t20 t21 t32 t33 t36 t37 (aW (t38+1)) b6
 else
 aA l0 il oU mM t19 t20 t21 t32 t33 t36 t37 (aW (t38+1)) b6
def aym {aA} (aU:KK (wL (aI 89291)) N8 aA) (n:Nat):KK (wL (aI 15097035)) aHd (U9 aA n):=λ_ _ _ _ _ _ _ _ _ _ _ _ _ _ r h=>ie h (λc0 h=>ra (aU h) [bk c0]) λc0 h=>ra (aU h) [bk c0]
def U8 (bh:Wf23) (back:Wf22) (n:Nat) (l0:gf) (il oU mM:Int) (t19:gf) (t20 t21 t32 t33:Int) (t36:gf) (t37 t38:Int) (b6:iq):Z Bool:=
 if iL (t38<t37) then
 (idx t36 t38).bind λx2=>if ((x2.f0.aD==b6.f0.aD)&&((x2.f0.dh==b6.f0.dh)&&((iL (x2.f0.cG=b6.f0.cG))&&M))) then
 U9 back n l0 il (aW (oU+1)) mM t19 t20 t21 t32 t33 t36 t37 t38 b6 x2
 else
 U9 back n l0 il oU mM t19 t20 t21 t32 t33 t36 t37 t38 b6 x2
 else
 bh l0 il oU mM t19 t20 t21 t32 t33 b6
def aMD {bh} (cF:KK (wL (aI 31947)) Xf bh) {back} (aK:KK (wL (aI 89291)) N8 back) (n:Nat):KK (wL (aI 89291)) N8 (U8 bh back n):=λ_ _ _ _ _ _ _ _ _ _ _ _ _ r h=>ie h (λc0 h=>be h λ_ di h=>ie h (λc1 h=>ra (aym aK n h) [aB c0,(0,ED.idx di),iO c1]) λc1 h=>ra (aym aK n h) [aB c0,(0,ED.idx di),iO c1]) λc0 h=>ra (cF h) [aB c0]
def Is (bh:Wf23):Nat->gf->Int->Int->Int->gf->Int->Int->Int->Int->gf->Int->Int->iq->Z Bool
 |0=>dv.z
 |n+1=>U8 bh (Is bh n) n
def awL {bh} (cF:KK (wL (aI 31947)) Xf bh):∀n:Nat,KK (wL (aI 89291)) N8 (Is bh n)
 |0=>KC.h
 |n+1=>aMD cF (awL cF n) n
def U7 (n:Nat) (l0:gf) (il oU mM:Int) (t19:gf) (t20 t21 t32 t33:Int) (b6:iq):Z Bool:=
 if oU !=1 then
 V I
 else
 if mM !=1 then
 V I
 else
 dW l0 il t19 t20 (aW (t21+1))
def aMC {bn} (cM:KK (wL [0,1,0,1,1]) N7 bn) (n:Nat):KK (wL (aI 31947)) Xf (U7 bn n):=λ_ _ _ _ _ _ _ _ _ _ r h=>ie h (λc0 h=>rr h [aV c0]) λc0 h=>ie h (λc1 h=>rr h [aV c0,aQ c1]) λc1 h=>ra (cM h) [aV c0,aQ c1]
def U6 (l0:gf) (il:Int) (t19:gf) (t20 t21:Int):Z Bool:=
 if iL (t21<t20) then
 (idx t19 t21).bind λx2=>(Rv dY x2.f0).bind λx9=>if !x9 then
 V I
 else
 if x2.f0.aD !=il then
 V I
 else
 Is (U7 dW dY) dY l0 il 0 0 t19 t20 t21 x2.f0.aD il l0 (l0.length:Int) 0 x2
 else
 K
def aMB {db} (fh:KK (wL [1,1,1]) Xe db) {back} (aK:KK (wL [0,1,0,1,1]) N7 back) (n:Nat):KK (wL [0,1,0,1,1]) N7 (U6 db back n):=λ_ _ _ _ _ r h=>ie h (λc0 h=>be h λ_ di h=>be h λ_ iS h=>let zA:SE:=[aB c0,(0,ED.idx di),mw (aaR n iS)];ie h (λc1 h=>bq h zA [aB c1]) λc1 h=>ie h (λc2 h=>bq h zA [aB c1,bP c2]) λc2 h=>cB (awL (aMC aK n) n h) zA [aB c1,bP c2]) λc0 h=>ra (fh h) [aB c0]
def EL (db:Z Bool):Nat->gf->Int->gf->Int->Int->Z Bool
 |0=>dv.z
 |n+1=>U6 db (EL db n) n
def awK {db} (fh:KK (wL [1,1,1]) Xe db):∀n:Nat,KK (wL [0,1,0,1,1]) N7 (EL db n)
 |0=>KC.h
 |n+1=>aMB fh (awK fh n) n
def Nt (n:Nat):Z Bool:=
 V M
def aMA:KK (wL [1,1,1]) Xe (Nt a):=λr h=>rr h []
def ajL:Z Bool:=
 if iL ((ab.length:Int)<1) then
 V I
 else
 if iL (16<(ab.length:Int)) then
 V I
 else
 EL (Nt a) a ab f7 ab (ab.length:Int) 0
def aMz:KK (wL []) aly (ajL a):=λ_ _ r h=>ie h (λc0 h=>rr h [aZ c0]) λc0 h=>ie h (λc1 h=>rr h [aZ c0,aZ c1]) λc1 h=>ra (awK (aMA a) a h) [aZ c0,aZ c1]
def asu:=ajL
def aQt:KK (Cx E0 145 cP bC) aly (asu a):=λ_ _ _ h=>ca (X:=aov) (aMz a h)
def aav (r:(ae×Bool)):AV:=.dr [.agg (cI r.1),.bool r.2]
def x95:=fx E0 Tryz.f95 []
def pQ:=Ax x95 aav bC
def adq:LS:=⟨[aX 2,aX 3,aX 4,aX 6,(28,.slice 44 5 t.length (dF t)),(29,iI o),(30,iI x)],[(2,iU (cI w)),(3,uH (ny ao)),(4,z6 bo),(6,sH bv bZ a7.length),(bZ,zn a7)]⟩
def adp:LS:=⟨[aX 3,aX 4,aX 6,(9,.el bZ 5 a 0),(12,.ms 231 2 0 J.length),(235,.ms ju 2 0 N.length),(236,bH b),(237,bH d)],[(3,uH (ny C)),(4,z6 w),(6,sH R bZ aw.length),(231,xy J),(bZ,X9 (((dF aw)).set a (bV ap)) (a*5+1) ju N.length),(ju,xy N)]⟩
def ado:LS:=⟨[aX 3,aX 4,aX 6,(9,.el bZ 5 a 0),(12,.ms 231 2 0 J.length)],[(3,uH (ny C)),(4,z6 w),(6,sH R bZ ge.length),(231,xy J),(bZ,zn ge)]⟩
def adn:LS:=⟨[aX 2,aX 3,aX 4,aX 6,(15,.ms 500340 5 0 cu.length),aX 17,(298,.ms 520061 5 0 cH.length),(299,bH b),(300,bH d),(311,bH g),(312,bH o)],[(2,iU (cI w)),(3,uH (ny ao)),(4,z6 bo),(6,sH bv 520061 cH.length),(17,gP (eK cr (.ms 1000611 2 0 cs.length) (.ms 1000613 2 0 dl.length) (.ms 1000614 13 0 ct.length))),(500340,zn cu),(520061,Gt (((gone oa cn (dF cH))).set ch (cN cg)) (ch*5+4) 1000614 ct.length (ch*5+3) 1000613 dl.length (ch*5+1) 1000611 cs.length),(1000611,xy cs),(1000613,Ci dl),(1000614,DO ct)]⟩
def adm:LS:=⟨[aX 2,aX 3,aX 4,aX 6,(15,.ms 500340 5 0 a7.length),aX 17,(298,.ms 520061 5 0 cu.length),(299,bH b),(300,bH d)],[(2,iU (cI i)),(3,uH (ny C)),(4,z6 w),(6,sH R 520061 cu.length),(17,gP (eK T (.ms 1000611 2 0 N.length) (.ms 1000613 2 0 dl.length) (.ms 1000614 13 0 O.length))),(500340,zn a7),(520061,Gt (((gone oa cE (dF cu))).set bR (cN bQ)) (bR*5+4) 1000614 O.length (bR*5+3) 1000613 dl.length (bR*5+1) 1000611 N.length),(1000611,xy N),(1000613,Ci dl),(1000614,DO O)]⟩
def aue:LS:=⟨[aX 2,aX 3,aX 4,aX 6,(15,.ms 500340 5 0 ge.length),(298,.ms 520061 5 0 aw.length),(299,bH b),(300,bH d)],[(2,iU (cI i)),(3,uH (ny C)),(4,z6 w),(6,sH R 520061 aw.length),(500340,zn ge),(520061,.tree 44 5 oa (gone oa al (dF aw)) [])]⟩
def R1:LS:=⟨[aX 2,aX 3,aX 4,aX 6,(15,.ms 500340 5 0 ge.length),(298,.ms 520061 5 0 aw.length),(299,bH b),(300,bH d)],[(2,iU (cI i)),(3,uH (ny C)),(4,z6 w),(6,sH R 520061 aw.length),(500340,zn ge),(520061,.tree 44 5 oa (gone oa al (dF aw)) [])]⟩
def adl:LS:=⟨[aX 4,aX 6,(15,.ms 500340 5 0 ge.length)],[(4,z6 i),(6,sH w 520061 aw.length),(500340,zn ge),(520061,.tree 44 5 oa (gone oa al (dF aw)) [])]⟩
def adk:LS:=⟨[aX 4,aX 6],[(4,z6 i),(6,sH w pr ge.length),(pr,zn ge)]⟩
def aJd:LS:=⟨[aX 2,aX 3,aX 4,aX 6,(9,.el bZ 5 a 0),(10,bH b),(11,.bool L)],[(2,iU (cI f9)),(3,uH (ny ao)),(4,z6 bo),(6,sH bv bZ a7.length),(bZ,zn a7)]⟩
def Wm:LS:=⟨[aX 2,aX 3,aX 4,aX 6],[(2,iU (cI i)),(3,uH (ny C)),(4,z6 w),(6,sH R bZ ge.length),(bZ,zn ge)]⟩
def NY:LS:=⟨(Gq (cI i) (ny C)),[]⟩
def abo (Gx:Wf25) (back:bw->Int->Int->ae->aE->ae->ae->bw->Z (ae×Bool)) (n:Nat) (t28:bw) (t29 t30:Int) (b2:ae) (b3:aE) (b4 b6:ae) (bS:bw):Z (ae×Bool):=
 if iL (t30<t29) then
 (idx t28 t30).bind λx2=>(aiC n x2).bind λeN=>(app bS [eN]).bind λdC=>(setAt dC bS.length eN).bind λwP=>back t28 t29 (aW (t30+1)) b2 b3 (ad2 b4.ay []) (ad2 b6.ay wP) wP
 else
 Gx b2 b3 (ad2 b4.ay []) (ad2 b6.ay bS) bS
def aRc {Gx} (aaN:KK (pQ [1,1,1,1]) Wm Gx) {back} (aK:KK (pQ (aI 87)) adq back) (n:Nat):KK (pQ (aI 87)) adq (abo Gx back n):=λ_ _ _ _ _ _ b6 bS r h=>ie h (λc0 h=>be h λ_ di h=>be h λeN iK h=>be h λ_ fE h=>be h λ_ ow h=>ra (aK h) [aB c0,(0,cm.idx di),(6,.call (aFi n iK) [] [(330370001,ub),(330370003,201003),(330370004,201004)]),(1,cm.Lr fE),(2,.beq bZ (bF (λq_=>Bx.tree 44 5 oa q_ (apk (bS.length*5+1) 330370001 eN (bS.length*5+3) 330370003 (bS.length*5+4) 330370004)) (cm.apS (r:= (cN eN)) fE))),(0,cm.ke eW (r:= (cN eN)) bZ 330370001 1 I 73 2 eN.ag ow (ta eN)),(0,cm.ke fj (r:= (ta eN)) bZ 330370003 3 I 121 2 eN.ar ow (ni eN)),(0,cm.iH eR (r:= (ni eN)) bZ 330370004 4 I 107 13 eN.aL ow),(2,.beq 6 (bF (sH b6 bZ) (((cm.apL fE).trans (ey ow)))))]) λc0 h=>ra (aaN h) [aB c0]
def O6 (Gx:Wf25):Nat->bw->Int->Int->ae->aE->ae->ae->bw->Z (ae×Bool)
 |0=>dv.z
 |n+1=>abo Gx (O6 Gx n) n
def aDy {Gx} (aaN:KK (pQ [1,1,1,1]) Wm Gx):∀n:Nat,KK (pQ (aI 87)) adq (O6 Gx n)
 |0=>KC.h
 |n+1=>aRc aaN (aDy aaN n) n
def abn (bh:Wf26) (back:Nat->Int->Int->aE->ae->ae->cY->cY->bw->ai->Z (ae×Bool)) (n:Nat) (mF:Nat) (t236 t237:Int) (b3:aE) (b4 b6:ae) (Cd jW:cY) (bS:bw) (fF:ai):Z (ae×Bool):=
 if iL (t237<t236) then
 (dX jW.length t237).bind λx3=>(jW[0+x3]?).bind λx5=>(Kt n t237 b3.aY b3.kr).bind λgd=>(dX Cd.length gd).bind λkO=>(Cd[0+kO]?).bind λnh=>(setAt Cd (0+kO) x5).bind λz22=>back mF t236 (aW (t237+1)) b3 (ad2 b4.ay []) (ad2 b6.ay bS) z22 jW bS (ad3 fF.aM [] fF.aH fF.ar fF.aL)
 else
 (setAt bS mF (ad3 fF.aM jW fF.aH fF.ar fF.aL)).bind λz2=>bh mF b3 (ad2 b4.ay []) (ad2 b6.ay z2) Cd z2
def aRb {bh} (cF:KK (pQ (aI 4060671)) ado bh) {back} (aK:KK (pQ (aI 11400703)) adp back) (n:Nat):KK (pQ (aI 11400703)) adp (abn bh back n):=λ_ _ _ _ _ b6 _ jW _ fF r h=>ie h (λc0 h=>be h λ_ eM h=>be h λx5 ic h=>be h λ_ iB h=>be h λ_ mV h=>be h λ_ o7 h=>be h λ_ xD h=>ra (aK h) [aB c0,(1,cX eM),(0,eW.row ic),(3,.ord [0,1,2,3,4,5,7,6,8,9]),yM (Ti n iB),(0,cX mV),(0,eW.uR 0 (J0 x5) o7 xD),(2,.seq 12 (bF (AV.ms 231 2 0) (ey xD)))]) λc0 h=>be h λ_ nj h=>ra (cF h) [aB c0,(0,cm.iH eW (r:= (bV fF)) bZ ju 1 I 73 2 jW nj),(0,.beq 6 (bF (sH b6 bZ) (ey nj)))]
def O5 (bh:Wf26):Nat->Nat->Int->Int->aE->ae->ae->cY->cY->bw->ai->Z (ae×Bool)
 |0=>dv.z
 |n+1=>abn bh (O5 bh n) n
def aDx {bh} (cF:KK (pQ (aI 4060671)) ado bh):∀n:Nat,KK (pQ (aI 11400703)) adp (O5 bh n)
 |0=>KC.h
 |n+1=>aRb cF (aDx cF n) n
def PH (b3:aE) (b4 b6:ae) (Cd:cY) (bS:bw):Z (ae×Bool):=
 (bS[dY]?).bind λu5=>(aiA dU (ad3 u5.aM Cd u5.aH u5.ar u5.aL) b3.aY b3.kr).bind λfT=>(setAt bS dY (ad3 fT.1.aM fT.2.1 fT.1.aH fT.2.2.1 fT.2.2.2)).bind λz19=>dT (ad2 b4.ay []) (ad2 b6.ay z19) z19
def aRa {yh} (Mi:KK (pQ (aI 2047)) adk yh) (n:Nat):KK (pQ (aI 4060671)) ado (PH yh n):=λ_ _ _ b6 _ _ r h=>be h λu5 wZ h=>be h λfT kU h=>be h λ_ JI h=>ra (Mi h) [(4,cm.holF 1 (bV u5) wZ),(0,cm.xi fj (r:= (bV u5)) bZ mu 3 I 121 2 u5.ar wZ (eJ u5)),(0,cm.xi eR (r:= (eJ u5)) bZ mr 4 I 107 13 u5.aL wZ (cN u5)),(3,cm.BS [4,3,1] (cN u5) wZ),(4,.call (aFg n kU) [(231,pE),(mu,lT),(mr,pD)] []),(1,cm.hrwS (cN u5) (cN fT.1) wZ),(0,cm.ke eW (r:= (cN fT.1)) bZ 231 1 I 73 2 fT.2.1 JI (xT fT.1 (.slice 73 2 fT.2.1.length (eD fT.2.1)))),(0,cm.ke fj (r:= (xT fT.1 (.slice 73 2 fT.2.1.length (eD fT.2.1)))) bZ mu 3 I 121 2 fT.2.2.1 JI (xU fT.1 (.slice 73 2 fT.2.1.length (eD fT.2.1)) (.slice 121 2 fT.2.2.1.length (eo fT.2.2.1)))),(0,cm.iH eR (r:= (xU fT.1 (.slice 73 2 fT.2.1.length (eD fT.2.1)) (.slice 121 2 fT.2.2.1.length (eo fT.2.2.1)))) bZ mr 4 I 107 13 fT.2.2.2 JI),(0,.iR bZ pr),(0,.beq 6 (bF (sH b6 pr) (ey JI)))]
def TX (db:Wf28) (back:Int->Int->Int->Int->ae->aE->ae->ae->ai->cY->br->bw->bw->ai->Nat->Nat->bL->Z (ae×Bool)) (n:Nat) (t299 t300 t311 Qp:Int) (b2:ae) (b3:aE) (b4 b6:ae) (qG:ai) (jW:cY) (rU:br) (lD bS:bw) (fF:ai) (iZ gN:Nat) (nX:bL):Z (ae×Bool):=
 if iL (Qp<t311) then
 (dX nX.length Qp).bind λx7=>(nX[0+x7]?).bind λeN=>if eN.av==b3.av then
 (gU iZ gN).bind λw14=>(setAt bS iZ (ad3 fF.aM [] fF.aH [] [])).bind λz15=>V (b2,I)
 else
 (dX nX.length Qp).bind λnh=>(nX[0+nh]?).bind λHd=>(Kt n Hd.av b3.av (-1)).bind λpL=>(dX nX.length Qp).bind λlu=>(nX[0+lu]?).bind λu33=>(setAt nX (0+lu) (bl.mk u33.ag pL)).bind λz35=>back t299 t300 t311 (aW (Qp+1)) b2 b3 (ad2 b4.ay []) (ad2 b6.ay bS) (ad3 qG.aM jW qG.aH z35 rU) jW rU lD bS (ad3 fF.aM [] fF.aH [] []) iZ gN z35
 else
 db t299 t300 b2 b3 (ad2 b4.ay []) (ad2 b6.ay bS) (ad3 qG.aM jW qG.aH nX rU) jW rU lD bS (ad3 fF.aM [] fF.aH [] []) iZ gN nX
def aQZ {db} (fh:KK (pQ (aI 130551903743)) adm db) {back} (aK:KK (pQ (aI 371070072319)) adn back) (n:Nat):KK (pQ (aI 371070072319)) adn (TX db back n):=λ_ _ _ _ _ _ _ _ qG jW rU _ bS fF iZ gN _ r h=>ie h (λc0 h=>be h λ_ iE h=>be h λ_ iK h=>let zA:SE:=[aB c0,(5,cX iE),(1,fj.row iK)];ie h (λc1 h=>be h λ_ ago h=>be h λ_ D3 h=>bq h zA [aQ c1,(0,.oV bZ (.tree 44 5 oa [] [])),(0,.beq bZ (bF (λq_=>Bx.tree 44 5 oa q_ []) (cm.aqm (l:= oa) (r:= (cN fF)) ago D3)))]) λc1 h=>be h λ_ o7 h=>be h λ_ Af h=>be h λpL sO h=>be h λ_ rP h=>be h λ_ hu33 h=>be h λ_ aAE h=>cB (aK h) zA [aQ c1,(6,cX o7),(1,fj.row Af),im (Ti n sO),(0,cX rP),(1,fj.uR 1 [bH pL] hu33 aAE),(2,.beq 17 (bF (λn_=>((gP (eK qG (.ms ju 2 0 jW.length) (.ms mu 2 0 n_) (.ms mr 13 0 rU.length))))) (ey aAE))),(0,.beq bZ (bF (λn_=>((Gt (((gone oa gN (dF bS))).set iZ (cN fF)) (iZ*5+4) mr rU.length (iZ*5+3) mu n_ (iZ*5+1) ju jW.length))) (ey aAE)))]) λc0 h=>ra (fh h) [aB c0]
def Kg (db:Wf28):Nat->Int->Int->Int->Int->ae->aE->ae->ae->ai->cY->br->bw->bw->ai->Nat->Nat->bL->Z (ae×Bool)
 |0=>dv.z
 |n+1=>TX db (Kg db n) n
def aDw {db} (fh:KK (pQ (aI 130551903743)) adm db):∀n:Nat,KK (pQ (aI 371070072319)) adn (Kg db n)
 |0=>KC.h
 |n+1=>aQZ fh (aDw fh n) n
def abm (n:Nat) (t299 t300:Int) (b2:ae) (b3:aE) (b4 b6:ae) (qG:ai) (jW:cY) (rU:br) (lD bS:bw) (fF:ai) (iZ gN:Nat) (nX:bL):Z (ae×Bool):=
 (app lD [(ad3 qG.aM jW qG.aH nX rU)]).bind λx4=>(setAt x4 lD.length (ad3 qG.aM jW qG.aH nX rU)).bind λz7=>(gU iZ gN).bind λw8=>(setAt bS iZ (ad3 fF.aM [] fF.aH [] [])).bind λz9=>ei t299 t300 b2 b3 (ad2 b4.ay []) (ad2 b6.ay z9) z7 z9 (gN+1)
def aQY {eO} (iD:KK (pQ (aI 8145335807)) aue eO) (n:Nat):KK (pQ (aI 130551903743)) adm (abm eO n):=λ_ _ _ _ _ b6 qG jW rU lD _ fF _ _ nX r h=>be h λ_ iF h=>be h λ_ hz7 h=>be h λ_ hw8 h=>be h λ_ hz9 h=>ra (iD h) [(3,cm.Lr iF),(0,.beq 500340 (bF (λq_=>Bx.tree 44 5 oa q_ [(lD.length*5+1,.ms ju 2 0 jW.length),(lD.length*5+3,.ms mu 2 0 nX.length),(lD.length*5+4,.ms mr 13 0 rU.length)]) (cm.apS (r:= (cN qG)) iF))),(1,cm.ke eW (r:= (cN qG)) 500340 ju 1 I 73 2 jW hz7 (xT qG (.slice 73 2 jW.length (eD jW)))),(0,cm.ke fj (r:= (xT qG (.slice 73 2 jW.length (eD jW)))) 500340 mu 3 I 121 2 nX hz7 (xU qG (.slice 73 2 jW.length (eD jW)) (.slice 121 2 nX.length (eo nX)))),(0,cm.iH eR (r:= (xU qG (.slice 73 2 jW.length (eD jW)) (.slice 121 2 nX.length (eo nX)))) 500340 mr 4 I 107 13 rU hz7),(0,.oV bZ (.tree 44 5 oa [] [])),(0,.beq bZ (bF (λq_=>Bx.tree 44 5 oa q_ []) (cm.aqm (l:= oa) (r:= (cN fF)) hw8 hz9))),(0,.seq 15 (bF (AV.ms 500340 5 0) (((cm.apL iF).trans (ey hz7))))),(0,.seq 298 (bF (AV.ms bZ 5 0) (ey hz9))),(0,.beq 6 (bF (sH b6 bZ) (ey hz9)))]
def PG (n:Nat) (t299 t300:Int) (b2:ae) (b3:aE) (b4 b6:ae) (lD bS:bw) (gN:Nat):Z (ae×Bool):=
 ei t299 (aW (t300+1)) b2 b3 (ad2 b4.ay []) (ad2 b6.ay bS) lD bS gN
def aFD {jh} (oB:KK (pQ (aI 360707583)) R1 jh) (n:Nat):KK (pQ (aI 8145335807)) aue (PG jh n):=λ_ _ _ _ _ _ _ _ _ r h=>ra (oB h) []
def TW (lM:Wf30) (back:aCc) (n:Nat) (t299 t300:Int) (b2:ae) (b3:aE) (b4 b6:ae) (lD bS:bw) (gN:Nat):Z (ae×Bool):=
 if iL (t300<t299) then
 (dX bS.length t300).bind λx3=>(bS[0+x3]?).bind λu6=>(gU (0+x3) gN).bind λw7=>if t300==b3.av then
 (setAt bS (0+x3) (ad3 u6.aM [] u6.aH [] [])).bind λz15=>PG back n t299 t300 b2 b3 (ad2 b4.ay []) (ad2 b6.ay z15) lD z15 (gN+1)
 else
 Kg (abm (PG back n) n) n t299 t300 (u6.ar.length:Int) 0 b2 b3 (ad2 b4.ay []) (ad2 b6.ay bS) u6 u6.ag u6.aL lD bS (ad3 u6.aM [] u6.aH [] []) (0+x3) gN u6.ar
 else
 lM (ad2 b4.ay []) (ad2 b6.ay bS) lD bS gN
def aQX {lM} (tH:KK (pQ (aI 125826559)) adl lM) {back} (aK:KK (pQ (aI 360707583)) R1 back) (n:Nat):KK (pQ (aI 360707583)) R1 (TW lM back n):=λ_ _ _ _ _ b6 _ _ _ r h=>ie h (λc0 h=>be h λ_ eM h=>be h λu6 Bo h=>be h λ_ hw7 h=>let zA:SE:=[aB c0,(1,cX eM),(0,cm.aIY eW oa hw7 bZ ju 1 I 73 2 u6.ag Bo (bV u6)),(0,cm.atU fj oa hw7 (bV u6) bZ mu 3 I 121 2 u6.ar Bo (eJ u6)),(0,cm.atU eR oa hw7 (eJ u6) bZ mr 4 I 107 13 u6.aL Bo (cN u6)),(0,cm.aOY oa hw7 [4,3,1] (cN u6) Bo)];ie h (λc1 h=>be h λ_ D3 h=>cB (aFD aK n h) zA [dg c1,(0,.oV bZ (.tree 44 5 oa [] [])),(0,.beq bZ (bF (λq_=>Bx.tree 44 5 oa q_ []) (cm.aqm (l:= oa) (r:= (cN u6)) hw7 D3))),(0,.seq 298 (bF (AV.ms bZ 5 0) (ey D3))),(0,.beq 6 (bF (sH b6 bZ) (ey D3)))]) λc1 h=>cB (aDw (aQY (aFD aK n) n) n h) zA [dg c1]) λc0 h=>ra (tH h) [aB c0]
def FX (lM:Wf30):Nat->Int->Int->ae->aE->ae->ae->bw->bw->Nat->Z (ae×Bool)
 |0=>dv.z
 |n+1=>TW lM (FX lM n) n
def aDv {lM} (tH:KK (pQ (aI 125826559)) adl lM):∀n:Nat,KK (pQ (aI 360707583)) R1 (FX lM n)
 |0=>KC.h
 |n+1=>aQX tH (aDv tH n) n
def PF (n:Nat) (b4 b6:ae) (lD bS:bw) (gN:Nat):Z (ae×Bool):=
 dT (ad2 b4.ay []) (ad2 b6.ay lD) lD
def aQW {yh} (Mi:KK (pQ (aI 2047)) adk yh) (n:Nat):KK (pQ (aI 125826559)) adl (PF yh n):=λ_ _ _ _ _ r h=>ra (Mi h) [(3,.iR 500340 pr)]
def nc (b4 b6:ae) (Rj:bw):Z (ae×Bool):=
 (F94 a (ad2 b6.ay Rj)).bind λx3=>V ((ad2 b6.ay Rj),x3==0)
def Ka:KK (pQ (aI 2047)) adk (nc a):=λ_ _ Rj r h=>be h λ_ eM h=>rr h [(0,cm.tfr I pr Rj),im (aBo a eM)]
def wA (bS:bw):Z (ae×Bool):=
 if ba.bf==1 then
 (Rv a ba.bj).bind λx7=>if !x7 then
 V (bv,I)
 else
 if ba.bj.aD !=ba.aD then
 V (bv,I)
 else
 (bS[al]?).bind λBc=>(app Bc.ag [(cA.mk ba.aM ba.aD)]).bind λqY=>(setAt bS al (ad3 Bc.aM qY Bc.aH Bc.ar Bc.aL)).bind λz36=>nc a (ad2 dn.ay []) (ad2 d8.ay z36) z36
 else
 if ba.bf==2 then
 (bS[al]?).bind λu7=>if !bu then
 (setAt bS al u7).bind λwP=>V (bv,I)
 else
 (Rv a ba.bj).bind λiv=>if !iv then
 (setAt bS al u7).bind λz22=>V (bv,I)
 else
 (dX u7.ag.length ba.aY).bind λpL=>(u7.ag[0+pL]?).bind λqY=>if ba.bj.aD !=qY.aD then
 (setAt bS al u7).bind λz37=>V (bv,I)
 else
 (aiB a u7 ba.aY).bind λHb=>if Hb then
 (setAt bS al u7).bind λuN=>V (bv,I)
 else
 (setAt bS al u7).bind λuN=>(uN[al]?).bind λuQ=>(rR uQ.ag.length ba.aY).bind λx55=>(Er uQ.ag.length (aW (ba.aY+1))).bind λx64=>(Kc uQ.ag x55 ((uQ.ag.drop (0+x64)).take (uQ.ag.length-x64))).bind λx66=>(aiA a (ad3 uQ.aM x66 uQ.aH uQ.ar uQ.aL) ba.aY (-1)).bind λoH=>(setAt uN al (ad3 oH.1.aM oH.2.1 oH.1.aH oH.2.2.1 oH.2.2.2)).bind λz81=>nc a (ad2 dn.ay []) (ad2 d8.ay z81) z81
 else
 if ba.bf==3 then
 if !bu then
 V (bv,I)
 else
 (bS[al]?).bind λiQ=>if iL (ba.kr<iQ.aH) then
 V (bv,I)
 else
 if !iL (ba.kr<W) then
 V (bv,I)
 else
 (tu W ((cA.mk A' 0):cA)).bind λpL=>(bS[al]?).bind λu35=>O5 (PH (nc a) a) a al (u35.ag.length:Int) 0 ba (ad2 dn.ay []) (ad2 d8.ay bS) pL u35.ag bS (ad3 u35.aM [] u35.aH u35.ar u35.aL)
 else
 if ba.bf==4 then
 if iL (ba.aY<0) then
 V (bv,I)
 else
 if !iL (ba.aY<W) then
 V (bv,I)
 else
 (bS[al]?).bind λKQ=>(dX KQ.ag.length ba.aY).bind λlu=>(KQ.ag[0+lu]?).bind λkC=>(setAt KQ.ag (0+lu) (cA.mk ba.aM kC.aD)).bind λz34=>(setAt bS al (ad3 KQ.aM z34 KQ.aH KQ.ar KQ.aL)).bind λz36=>nc a (ad2 dn.ay []) (ad2 d8.ay z36) z36
 else
 if ba.bf==5 then
 (bS[al]?).bind λBc=>(setAt bS al (ad3 ba.aM Bc.ag Bc.aH Bc.ar Bc.aL)).bind λz20=>nc a (ad2 dn.ay []) (ad2 d8.ay z20) z20
 else
 if ba.bf==7 then
 FX (PF (nc a) a) a (bS.length:Int) 0 bv ba (ad2 dn.ay []) (ad2 d8.ay bS) [] bS 0
 else
 (bS[al]?).bind λjY=>if !bu then
 (setAt bS al jY).bind λz23=>V (bv,I)
 else
 (dX jY.ag.length ba.aY).bind λpL=>(jY.ag[0+pL]?).bind λqY=>(asu a ba.ck qY.aD).bind λkC=>if !kC then
 (setAt bS al jY).bind λz39=>V (bv,I)
 else
 (aiB a jY ba.aY).bind λx43=>if x43 then
 (setAt bS al jY).bind λz46=>V (bv,I)
 else
 (setAt bS al jY).bind λz46=>nc a (ad2 dn.ay []) (ad2 d8.ay z46) z46
def aFC:KK (pQ (aI 1023)) aJd (wA a):=λmF _ _ _ b3 _ b6 bS r h=>ie h (λc0 h=>be h λ_ iE h=>let zA:SE:=[aQ c0,j3 (aaR a iE)];ie h (λc1 h=>bq h zA [aB c1]) λc1 h=>ie h (λc2 h=>bq h zA [aB c1,dg c2]) λc2 h=>be h λBc apZ h=>be h λqY rO h=>be h λz36 agh h=>cB (Ka a h) zA [aB c1,dg c2,(1,cm.oJ eW bZ ju 1 I 73 2 Bc.ag apZ (bV Bc)),(11,eW.jS rO),(2,cm.Aj 1 (bV Bc) (bV Bc) apZ),(0,cm.iH eW (r:= (bV Bc)) bZ ju 1 I 73 2 qY agh),(0,.iR bZ pr),(0,.beq 6 (bF (sH b6 pr) (ey agh)))]) λc0 h=>let zA:SE:=[aQ c0];ie h (λc1 h=>be h λu7 hu7 h=>let zB:SE:=dk zA [aV c1,(1,cm.oJ eW bZ ju 1 I 73 2 u7.ag hu7 (bV u7)),(0,cm.xi fj (r:= (bV u7)) bZ mu 3 I 121 2 u7.ar hu7 (eJ u7)),(0,cm.xi eR (r:= (eJ u7)) bZ mr 4 I 107 13 u7.aL hu7 (cN u7))];ie h (λc2 h=>be h λ_ ow h=>bq h zB [aV c2,(6,cm.ke eR (r:= (cN u7)) bZ mr 4 I 107 13 u7.aL ow (eJ u7)),(0,cm.ke fj (r:= (eJ u7)) bZ mu 3 I 121 2 u7.ar ow (bV u7)),(0,cm.iH eW (r:= (bV u7)) bZ ju 1 I 73 2 u7.ag ow)]) λc2 h=>be h λ_ iC h=>let zC:SE:=dk zB [aV c2,j3 (aaR a iC)];ie h (λc3 h=>be h λ_ xD h=>bq h zC [aB c3,(5,cm.ke eR (r:= (cN u7)) bZ mr 4 I 107 13 u7.aL xD (eJ u7)),(0,cm.ke fj (r:= (eJ u7)) bZ mu 3 I 121 2 u7.ar xD (bV u7)),(0,cm.iH eW (r:= (bV u7)) bZ ju 1 I 73 2 u7.ag xD)]) λc3 h=>be h λpL sO h=>be h λqY rO h=>let zD:SE:=dk zC [aB c3,(8,cm.BS [4,3,1] (cN u7) hu7),(2,cX sO),(1,eW.row rO)];ie h (λc4 h=>be h λ_ aAD h=>bq h zD [aB c4,(3,cm.ke eR (r:= (cN u7)) bZ mr 4 I 107 13 u7.aL aAD (eJ u7)),(0,cm.ke fj (r:= (eJ u7)) bZ mu 3 I 121 2 u7.ar aAD (bV u7)),(0,cm.iH eW (r:= (bV u7)) bZ ju 1 I 73 2 u7.ag aAD)]) λc4 h=>be h λ_ QV h=>let zE:SE:=dk zD [aB c4,(4,cm.BS [4,3,1] (cN u7) hu7),(2,.AS (aFh a QV) [eW.er ju u7.ag,fj.tfr I mu u7.ar,eR.er mr u7.aL] trivial [] [])];ie h (λc5 bE=>by subst c5;exact (be bE λuN pH bE=>bq bE zE [(1,cm.ke eR (r:= (cN u7)) bZ mr 4 I 107 13 u7.aL pH (eJ u7)),(0,cm.ke fj (r:= (eJ u7)) bZ mu 3 I 121 2 u7.ar pH (bV u7)),(0,cm.iH eW (r:= (bV u7)) bZ ju 1 I 73 2 u7.ag pH)])) λc5 bE=>by subst c5;exact (be bE λuN pH bE=>be bE λuQ Ys bE=>be bE λx55 hx55 bE=>be bE λx64 apV bE=>be bE λx66 hx66 bE=>be bE λoH aAH bE=>be bE λz81 apR bE=>cB (Ka a bE) zE [(1,cm.ke eR (r:= (cN u7)) bZ mr 4 I 107 13 u7.aL pH (eJ u7)),(0,cm.ke fj (r:= (eJ u7)) bZ mu 3 I 121 2 u7.ar pH (bV u7)),(0,cm.iH eW (r:= (bV u7)) bZ ju 1 I 73 2 u7.ag pH),(0,cm.oJ eW bZ ju 1 I 73 2 uQ.ag Ys (bV uQ)),(7,eW.rR (xs:=uQ.ag) hx55 (tp rfl)),(7,eW.Er (xs:=uQ.ag) apV (tp rfl)),(0,eW.appB hx66 (aIc apV (tp rfl))),(2,cm.Aj 1 (bV uQ) (bV uQ) Ys),(0,cm.xi fj (r:= (bV uQ)) bZ mu 3 I 121 2 uQ.ar Ys (eJ uQ)),(0,cm.xi eR (r:= (eJ uQ)) bZ mr 4 I 107 13 uQ.aL Ys (cN uQ)),(3,cm.BS [4,3,1] (cN uQ) Ys),(2,.call (aFg a aAH) [(ju,pE),(mu,lT),(mr,pD)] []),(1,cm.hrwS (cN uQ) (cN oH.1) Ys),(0,cm.ke eW (r:= (cN oH.1)) bZ ju 1 I 73 2 oH.2.1 apR (xT oH.1 (.slice 73 2 oH.2.1.length (eD oH.2.1)))),(0,cm.ke fj (r:= (xT oH.1 (.slice 73 2 oH.2.1.length (eD oH.2.1)))) bZ mu 3 I 121 2 oH.2.2.1 apR (xU oH.1 (.slice 73 2 oH.2.1.length (eD oH.2.1)) (.slice 121 2 oH.2.2.1.length (eo oH.2.2.1)))),(0,cm.iH eR (r:= (xU oH.1 (.slice 73 2 oH.2.1.length (eD oH.2.1)) (.slice 121 2 oH.2.2.1.length (eo oH.2.2.1)))) bZ mr 4 I 107 13 oH.2.2.2 apR),(0,.iR bZ pr),(0,.beq 6 (bF (sH b6 pr) (((l8 apR).trans (l8 pH)).symm)))])) λc1 h=>let zB:SE:=dk zA [aV c1];ie h (λc2 h=>let zC:SE:=dk zB [aV c2];ie h (λc3 h=>bq h zC [aQ c3]) λc3 h=>be h λ_ iJ h=>let zD:SE:=dk zC [aQ c3,(6,cm.row iJ)];ie h (λc4 h=>bq h zD [aB c4]) λc4 h=>ie h (λc5 h=>bq h zD [aB c4,bP c5]) λc5 h=>be h λpL sO h=>be h λu35 hu35 h=>cB (aDx (aRa (Ka a) a) a h) zD [aB c4,bP c5,(2,eW.made sO),(0,.seq 231 (bF (AV.ms 231 2 0) ((QB sO)))),(4,cm.oJ eW bZ ju 1 I 73 2 u35.ag hu35 (bV u35))]) λc2 h=>let zC:SE:=dk zB [aV c2];ie h (λc3 h=>ie h (λc4 h=>bq h zC [aV c3,aZ c4]) λc4 h=>ie h (λc5 h=>bq h zC [aV c3,aZ c4,bk c5]) λc5 h=>be h λKQ hu20 h=>be h λ_ rP h=>be h λkC pI h=>be h λz34 hz34 h=>be h λz36 agh h=>cB (Ka a h) zC [aV c3,aZ c4,bk c5,(1,cm.oJ eW bZ ju 1 I 73 2 KQ.ag hu20 (bV KQ)),(8,cX rP),(1,eW.uR 0 [.str b3.aM] pI hz34),(0,.beq bZ (bF (X9 (((dF bS)).set mF (bV KQ)) (mF*5+1) ju) (ey hz34))),(0,cm.iH eW (r:= (bV KQ)) bZ ju 1 I 73 2 z34 agh),(0,.iR bZ pr),(0,.beq 6 (bF (sH b6 pr) (ey agh)))]) λc3 h=>let zD:SE:=dk zC [aV c3];ie h (λc4 h=>be h λBc apZ h=>be h λ_ JH h=>cB (Ka a h) zD [aV c4,(6,cm.uR 0 [.str b3.aM] apZ JH),(0,.iR bZ pr),(0,.beq 6 (bF (sH b6 pr) (ey JH)))]) λc4 h=>let zE:SE:=dk zD [aV c4];ie h (λc5 h=>cB (aDv (aQW (Ka a) a) a h) zE [aV c5,(6,.beq bZ (bF (λq_=>Bx.tree 44 5 oa q_ []) (aKc (l:= oa) (Q:=dF bS)))),(0,.born [15] [] 500340 M 44 5)]) λc5 h=>be h λjY agp h=>let zF:SE:=dk zE [aV c5,(1,cm.oJ eW bZ ju 1 I 73 2 jY.ag agp (bV jY)),(0,cm.xi fj (r:= (bV jY)) bZ mu 3 I 121 2 jY.ar agp (eJ jY)),(0,cm.xi eR (r:= (eJ jY)) bZ mr 4 I 107 13 jY.aL agp (cN jY))];ie h (λc6 h=>be h λ_ aAF h=>bq h zF [aV c6,(4,cm.ke eR (r:= (cN jY)) bZ mr 4 I 107 13 jY.aL aAF (eJ jY)),(0,cm.ke fj (r:= (eJ jY)) bZ mu 3 I 121 2 jY.ar aAF (bV jY)),(0,cm.iH eW (r:= (bV jY)) bZ ju 1 I 73 2 jY.ag aAF)]) λc6 h=>be h λpL sO h=>be h λqY rO h=>be h λkC pI h=>let zG:SE:=dk zF [aV c6,(6,cm.BS [4,3,1] (cN jY) agp),(2,cX sO),(1,eW.row rO),iX (aQt a pI)];ie h (λc7 h=>be h λ_ aAC h=>bq h zG [aB c7,(3,cm.ke eR (r:= (cN jY)) bZ mr 4 I 107 13 jY.aL aAC (eJ jY)),(0,cm.ke fj (r:= (eJ jY)) bZ mu 3 I 121 2 jY.ar aAC (bV jY)),(0,cm.iH eW (r:= (bV jY)) bZ ju 1 I 73 2 jY.ag aAC)]) λc7 h=>be h λ_ JK h=>let zH:SE:=dk zG [aB c7,(4,cm.BS [4,3,1] (cN jY) agp),(2,.AS (aFh a JK) [eW.er ju jY.ag,fj.tfr I mu jY.ar,eR.er mr jY.aL] trivial [] [])];ie h (λc8 bE=>by subst c8;exact (be bE λz46 Mb bE=>bq bE zH [(1,cm.ke eR (r:= (cN jY)) bZ mr 4 I 107 13 jY.aL Mb (eJ jY)),(0,cm.ke fj (r:= (eJ jY)) bZ mu 3 I 121 2 jY.ar Mb (bV jY)),(0,cm.iH eW (r:= (bV jY)) bZ ju 1 I 73 2 jY.ag Mb)])) λc8 bE=>by subst c8;exact (be bE λz46 Mb bE=>cB (Ka a bE) zH [(1,cm.ke eR (r:= (cN jY)) bZ mr 4 I 107 13 jY.aL Mb (eJ jY)),(0,cm.ke fj (r:= (eJ jY)) bZ mu 3 I 121 2 jY.ar Mb (bV jY)),(0,cm.iH eW (r:= (bV jY)) bZ ju 1 I 73 2 jY.ag Mb),(0,.iR bZ pr),(0,.beq 6 (bF (sH b6 pr) (ey Mb)))])
def BN:Z (ae×Bool):=
 if C.bf==6 then
 (aiC a C.bp).bind λx8=>(app ge [x8]).bind λdN=>(setAt dN ge.length x8).bind λz15=>(F94 a (ad2 R.ay z15)).bind λkO=>V ((ad2 R.ay z15),kO==0)
 else
 if iL (C.av<0) then
 V (i,I)
 else
 if !iL (C.av<(i.ah.length:Int)) then
 V (i,I)
 else
 (dX ge.length C.av).bind λkO=>(ge[0+kO]?).bind λqB=>if !iL (C.aY<qB.aH) then
 (setAt ge (0+kO) qB).bind λuN=>wA a (0+kO) (qB.ag.length:Int) (iL (C.aY<(qB.ag.length:Int))) i C (ad2 w.ay []) (ad2 R.ay uN) uN
 else
 (setAt ge (0+kO) qB).bind λz40=>wA a (0+kO) (qB.ag.length:Int) I i C (ad2 w.ay []) (ad2 R.ay z40) z40
def aKo:KK (pQ [1,1,1,1]) Wm (BN a):=λ_ _ _ b6 bS r h=>ie h (λc0 h=>be h λx8 lN h=>be h λ_ fN h=>be h λz15 D3 h=>be h λkO mV h=>rr h [aQ c0,(4,.call (aFi a lN) [] [(330490001,ub),(330490003,201003),(330490004,201004)]),(1,cm.Lr fN),(2,.beq bZ (bF (λq_=>Bx.tree 44 5 oa q_ (apk (bS.length*5+1) 330490001 x8 (bS.length*5+3) 330490003 (bS.length*5+4) 330490004)) (cm.apS (r:= (cN x8)) fN))),(0,cm.ke eW (r:= (cN x8)) bZ 330490001 1 I 73 2 x8.ag D3 (ta x8)),(0,cm.ke fj (r:= (ta x8)) bZ 330490003 3 I 121 2 x8.ar D3 (ni x8)),(0,cm.iH eR (r:= (ni x8)) bZ 330490004 4 I 107 13 x8.aL D3),(0,.seq 51 (bF (AV.ms bZ 5 0) (((cm.apL fN).trans (ey D3))))),(0,.beq 6 (bF (sH b6 bZ) (((cm.apL fN).trans (ey D3))))),(0,cm.tfr I bZ z15),im (aBo a mV)]) λc0 h=>ie h (λc1 h=>rr h [aQ c0,aQ c1]) λc1 h=>let zA:SE:=[aQ c0,aQ c1];ie h (λc2 h=>bq h zA [dg c2]) λc2 h=>be h λkO mV h=>be h λqB Yt h=>let zB:SE:=dk zA [dg c2,(5,cX mV),(4,cm.oJ eW bZ ju 1 I 73 2 qB.ag Yt (bV qB)),(8,cm.rowS (bV qB) Yt)];ie h (λc3 h=>be h λ_ pH h=>cB (aFC a h) zB [aB c3,(7,cm.iH eW (r:= (bV qB)) bZ ju 1 I 73 2 qB.ag pH),(0,.beq 6 (bF (sH b6 bZ) (ey pH)))]) λc3 h=>be h λ_ hz40 h=>cB (aFC a h) zB [aB c3,(3,cm.iH eW (r:= (bV qB)) bZ ju 1 I 73 2 qB.ag hz40),(0,.beq 6 (bF (sH b6 bZ) (ey hz40)))]
def TY:Z (ae×Bool):=
 (Y2 a C).bind λx6=>if !x6 then
 V (i,I)
 else
 O6 (BN a) a i.ah (i.ah.length:Int) 0 i C (ad2 0 []) (ad2 (aW (i.ay+1)) []) []
def aKn:KK (pQ []) NY (TY a):=λ_ _ r h=>be h λ_ jL h=>ie h (λc0 h=>rr h [mw (aFj a jL),aB c0]) λc0 h=>ra (aDy (aKo a) a h) [mw (aFj a jL),aB c0,(10,.born [] [(6,1)] bZ M 44 5)]
def F95:=TY
def ev95:KK (Cx E0 95 aav bC) NY (F95 a):=λ_ _ _ h=>ca (X:=x95) (aKn a h)
def aay:AV:=.dr [.ms bA 2 0 ek.1.length,bH ek.2]
def SB:List (Nat×Bx):= [(bA,LH ek.1)]
def x40:=fx E0 Tryz.f40 [1]
def A40:=AxS x40 [1] aay SB
def C40:=CxS E0 40 [1] aay SB
def aed:LS:=⟨[(7,.ms 29 2 0 eg.length),(30,.ms 1 15 0 H.length),(31,bH b),(32,bH d)],[(1,DN H),(29,LH eg)]⟩
def aec:LS:=⟨[(7,.ms 29 2 0 eg.length)],[(1,DN H),(29,LH eg)]⟩
def auz:LS:=⟨[(0,.agg (cI i)),(1,.ms 1 15 0 H.length)],[(1,DN H)]⟩
def PN (aA:Wt9_) (back:Int->Int->bX->fU->Z (fU×Int)) (n:Nat) (t31 t32:Int) (cL:bX) (mI:fU):Z (fU×Int):=
 if iL (t32<t31) then
 (dX cL.length t32).bind λx2=>(cL[0+x2]?).bind λx4=>(dX mI.length (aW ((mI.length:Int)-1))).bind λjd=>(mI[0+jd]?).bind λiv=>(F95 n iv x4).bind λiQ=>if !iQ.2 then
 V ([],280)
 else
 (app mI [iQ.1]).bind λlu=>back t31 (aW (t32+1)) cL lu
 else
 aA cL mI
def aSZ {aA} (aU:KK (A40 [1,1,1,1,1]) aec aA) {back} (aK:KK (A40 (aI 175)) aed back) (n:Nat):KK (A40 (aI 175)) aed (PN aA back n):=λ_ _ _ _ r h=>ie h (λc0 h=>be h λ_ di h=>be h λ_ iF h=>be h λ_ hI h=>be h λ_ iC h=>be h λ_ iJ h=>let zA:SE:=[aB c0,(0,cX di),(0,H6.row iF),(2,.ord [0,1,2,3,4,5,6,11,7,8,9,10,12,13]),(4,cX hI),(0,BI.row iC),im (ev95 n iJ)];ie h (λc1 h=>KU h (dk zA [dg c1,(2,.born [4] [] bA I 25 2)])) λc1 h=>be h λ_ rP h=>Hv (aK h) (by kernel_rfl) (dk zA [dg c1,(3,BI.jS rP)])) λc0 h=>Hv (aU h) (by kernel_rfl) [aB c0]
def CT (aA:Wt9_):Nat->Int->Int->bX->fU->Z (fU×Int)
 |0=>dv.z
 |n+1=>PN aA (CT aA n) n
def aEa {aA} (aU:KK (A40 [1,1,1,1,1]) aec aA):∀n:Nat,KK (A40 (aI 175)) aed (CT aA n)
 |0=>KC.h
 |n+1=>aSZ aU (aEa aU n) n
def PM (n:Nat) (cL:bX) (mI:fU):Z (fU×Int):=
 V (mI,0)
def aSY:KK (A40 [1,1,1,1,1]) aec (PM a):=λ_ _ r h=>KU h [(3,.iR 29 bA)]
def acb:Z (fU×Int):=
 (F94 a i).bind λx5=>if x5 !=0 then
 V ([],x5)
 else
 if iL (8<(H.length:Int)) then
 V ([],2)
 else
 if iL (1000<(aW (i.ay+(H.length:Int)))) then
 V ([],2)
 else
 CT (PM a) a (H.length:Int) 0 H [i]
def aSX:KK (A40 []) auz (acb a):=λ_ _ r h=>be h λ_ ic h=>let zA:SE:=[j2 (aBo a ic)];ie h (λc0 h=>KU h (dk zA [aQ c0,(3,.born [4] [] bA I 25 2)])) λc0 h=>ie h (λc1 h=>KU h (dk zA [aQ c0,aQ c1,(4,.born [4] [] bA I 25 2)])) λc1 h=>ie h (λc2 h=>KU h (dk zA [aQ c0,aQ c1,dg c2,(3,.born [4] [] bA I 25 2)])) λc2 h=>Hv (aEa (aSY a) a h) (by kernel_rfl) (dk zA [aQ c0,aQ c1,dg c2])
def F40:=acb
def aBs:KK C40 auz (F40 a):=λ_ _ _ h=>caS (X:=x40) (aSX a h)
def aDe:AV:=.ms bA 15 0 em.1.length
def avI:List (Nat×Bx):= [(0,mD (fg em.2)),(bA,DN em.1)]
def uO:=fx E0 Tryz.f39 [0]
def BP:=Ax uO aDe avI
def aJw:LS:=⟨[aX 0,aX 4,(7,.ms 227 15 0 H.length),(8,bH b),(12,LF)],[(0,mD (fg F)),(4,iU (cI f9)),(12,uH (ny ao)),(227,DN H)]⟩
def yB:LS:=⟨[aX 0,aX 4,(7,.ms 227 15 0 H.length),(8,bH b)],[(0,mD (fg F)),(4,iU (cI f9)),(227,DN H)]⟩
def aJv:LS:=⟨[aX 0,aX 4,(7,.ms 227 15 0 H.length),(8,bH b),aX 11,(12,LF)],[(0,mD (fg F)),(4,iU (cI f9)),(11,iU (cI P)),(12,uH (ny ao)),(227,DN H)]⟩
def aJu:LS:=⟨[aX 0,aX 4,(7,.ms 227 15 0 H.length),(8,bH b),aX 11,(12,LF),aX 13],[(0,mD (fg F)),(4,iU (cI f9)),(11,iU (cI P)),(12,uH (zl ao (iI 0) (iI 0) (.str A') (iI 0) (iI 0) (iI 0) (.str A') (.str A') (iI 0))),(13,gP (jv ap)),(227,DN H)]⟩
def aJt:LS:=⟨[aX 0,aX 4,(7,.ms 227 15 0 H.length),(8,bH b),aX 11,(12,LF)],[(0,mD (fg F)),(4,iU (cI f9)),(11,iU (cI P)),(12,uH (zl ao (iI 0) (iI 0) (.str A') (iI 0) (iI 0) (iI 0) (.str A') (.str A') (iI 0))),(227,DN H)]⟩
def aee:LS:=⟨[(7,.ms 227 15 0 H.length)],[(0,mD (fg F)),(227,DN H)]⟩
def auA:LS:=⟨[aX 0,(1,.agg (cI f9)),(2,bH B)],(sG (fg F))⟩
def Ue:Z (bX×aN):=
 (app [] bx).bind λx3=>(app x3 [ba]).bind λx7=>(F40 an P x7).bind λx9=>if x9.2==0 then
 (app bx [ba]).bind λlx=>aT W bc P lx
 else
 aT W bc P bx
def aFN {aA} (aU:KK (BP (aI 459)) yB aA) (n:Nat):KK (BP (aI 2096715)) aJw (Ue aA n):=λ_ _ _ _ _ r h=>be h λ_ eM h=>be h λ_ iE h=>be h λ_ iS h=>let zA:SE:=[(0,.born [] [] 215 M 46 15),(2,H6.jS (xs:= []) eM),(2,H6.jS iE),(0,.call (aBs n iS) [(215,1)] [(321900,bA)])];ie h (λdu h=>be h λ_ jM h=>cB (aU h) zA [bP du,(3,H6.jS jM)]) λdu h=>cB (aU h) zA [bP du]
def F6 (n:Nat) (n8:Int) (b0:aN) (b4:ae) (gC:bX):Z (bX×aN):=
 aT (aW (n8-1)) b0 b4 gC
def arl {eO} (iD:KK (BP [0,1,0,1,1]) yB eO) (n:Nat):KK (BP (aI 459)) yB (F6 eO n):=λ_ _ _ _ r h=>ra (iD h) []
def tP:Z (bX×aN):=
 if ba.bf==7 then
 if iL ((bO.ah.length:Int)<2) then
 F6 aT an W bc P bx
 else
 Ue (F6 aT an) an W bc P bx ba
 else
 Ue (F6 aT an) an W bc P bx ba
def y7 {eO} (iD:KK (BP [0,1,0,1,1]) yB eO) (n:Nat):KK (BP (aI 1048139)) aJv (tP eO n):=λ_ _ _ _ _ _ r h=>ie h (λdu h=>ie h (λc1 h=>ra (arl iD n h) [aQ du,bk c1]) λc1 h=>ra (aFN (arl iD n) n h) [aQ du,bk c1]) λdu h=>ra (aFN (arl iD n) n h) [aQ du]
def Ud:Z (bX×aN):=
 (qJ an bc (if 1<(aW ((bQ.ag.length:Int)-bQ.aH)) then (aW ((bQ.ag.length:Int)-bQ.aH)) else 1)).bind λdN=>(cat (Bk #[110]) (aaI (Y' .i32 (aW (97+(bx.length:Int)))))).bind λlx=>(qJ an dN.2 26).bind λiP=>(cat ((Bk #[110])++(aaI (Y' .i32 (aW (97+(bx.length:Int)))))) (aaI (Y' .i32 (aW (97+iP.1))))).bind λpL=>if ba.bf==1 then
 (qJ an iP.2 3).bind λrX=>(F93 an rX.2 (aW (3+rX.1))).bind λx47=>tP aT an W x47.2 P bx bO (aE.mk ba.bf ba.av 0 0 (((Bk #[110])++(aaI (Y' .i32 (aW (97+(bx.length:Int))))))++(aaI (Y' .i32 (aW (97+iP.1))))) (aW (3+rX.1)) x47.1 ba.ck (ad3 A' ba.bp.ag 0 ba.bp.ar ba.bp.aL))
 else
 if ba.bf==2 then
 if iL ((aW (bQ.aH+dN.1))<(bQ.ag.length:Int)) then
 (idx bQ.ag (aW (bQ.aH+dN.1))).bind λx49=>(F93 an iP.2 x49.aD).bind λG9=>tP aT an W G9.2 P bx bO (aE.mk ba.bf ba.av (aW (bQ.aH+dN.1)) 0 A' 0 G9.1 ba.ck (ad3 A' ba.bp.ag 0 ba.bp.ar ba.bp.aL))
 else
 tP aT an W iP.2 P bx bO (aE.mk ba.bf ba.av (aW (bQ.aH+dN.1)) 0 A' 0 om ba.ck (ad3 A' ba.bp.ag 0 ba.bp.ar ba.bp.aL))
 else
 if ba.bf==3 then
 (qJ an iP.2 (if 1<(aW ((bQ.ag.length:Int)-bQ.aH)) then (aW ((bQ.ag.length:Int)-bQ.aH)) else 1)).bind λHa=>tP aT an W Ha.2 P bx bO (aE.mk ba.bf ba.av (aW (bQ.aH+dN.1)) (aW (bQ.aH+Ha.1)) A' 0 om ba.ck (ad3 A' ba.bp.ag 0 ba.bp.ar ba.bp.aL))
 else
 if ba.bf==4 then
 (qJ an iP.2 (if 1<(bQ.ag.length:Int) then (bQ.ag.length:Int) else 1)).bind λyz=>tP aT an W yz.2 P bx bO (aE.mk ba.bf ba.av yz.1 0 (((Bk #[110])++(aaI (Y' .i32 (aW (97+(bx.length:Int))))))++(aaI (Y' .i32 (aW (97+iP.1))))) 0 om ba.ck (ad3 A' ba.bp.ag 0 ba.bp.ar ba.bp.aL))
 else
 if ba.bf==5 then
 tP aT an W iP.2 P bx bO (aE.mk ba.bf ba.av 0 0 (((Bk #[110])++(aaI (Y' .i32 (aW (97+(bx.length:Int))))))++(aaI (Y' .i32 (aW (97+iP.1))))) 0 om ba.ck (ad3 A' ba.bp.ag 0 ba.bp.ar ba.bp.aL))
 else
 if ba.bf==6 then
 (EV an (Bk #[105,100]) 4).bind λyz=>(EV an (Bk #[110,111,116,101]) 5).bind λx48=>tP aT an W iP.2 P bx bO (aE.mk ba.bf 0 0 0 A' 0 om ba.ck (ad3 (((Bk #[110])++(aaI (Y' .i32 (aW (97+(bx.length:Int))))))++(aaI (Y' .i32 (aW (97+iP.1))))) [yz,x48] 1 [] []))
 else
 if ba.bf==8 then
 if iL ((aW (bQ.aH+dN.1))<(bQ.ag.length:Int)) then
 (idx bQ.ag (aW (bQ.aH+dN.1))).bind λx58=>(F93 an iP.2 x58.aD).bind λp8=>(F93 an p8.2 x58.aD).bind λrW=>if ((p8.1.aD==rW.1.aD)&&((p8.1.dh==rW.1.dh)&&((iL (p8.1.cG=rW.1.cG))&&M))) then
 (rR 2 1).bind λx89=>tP aT an W rW.2 P bx bO (aE.mk ba.bf ba.av (aW (bQ.aH+dN.1)) 0 A' 0 om ([(iq.mk p8.1 rW.1),(iq.mk rW.1 p8.1)].take x89) (ad3 A' ba.bp.ag 0 ba.bp.ar ba.bp.aL))
 else
 tP aT an W rW.2 P bx bO (aE.mk ba.bf ba.av (aW (bQ.aH+dN.1)) 0 A' 0 om [(iq.mk p8.1 rW.1),(iq.mk rW.1 p8.1)] (ad3 A' ba.bp.ag 0 ba.bp.ar ba.bp.aL))
 else
 tP aT an W iP.2 P bx bO (aE.mk ba.bf ba.av (aW (bQ.aH+dN.1)) 0 A' 0 om ba.ck (ad3 A' ba.bp.ag 0 ba.bp.ar ba.bp.aL))
 else
 tP aT an W iP.2 P bx bO (aE.mk ba.bf ba.av 0 0 A' 0 om ba.ck (ad3 A' ba.bp.ag 0 ba.bp.ar ba.bp.aL))
def aFM {eO} (iD:KK (BP [0,1,0,1,1]) yB eO) (n:Nat):KK (BP (aI 130635)) aJu (Ud eO n):=λ_ _ _ _ _ cx jR r h=>be h λdN fN h=>be h λ_ jM h=>be h λ_ o6 h=>be h λ_ sO h=>let zA:SE:=[(10,.call (nW n fN) [(0,0)] []),(7,.cat (J6 jM).1),(1,.call (nW n o6) [(0,0)] []),(3,.cat (J6 sO).1)];ie h (λdu h=>be h λ_ xE h=>be h λ_ agm h=>cB (y7 iD n h) zA [aZ du,(3,.call (nW n xE) [(0,0)] []),(8,.call (Q6 n agm) [(0,0)] [])]) λdu h=>let zB:SE:=dk zA [aZ du];ie h (λc1 h=>ie h (λc2 h=>be h λ_ aAK h=>be h λ_ QT h=>cB (y7 iD n h) zB [aV c1,iG c2,(4,eW.idx aAK),(2,.call (Q6 n QT) [(0,0)] [])]) λc2 h=>cB (y7 iD n h) zB [aV c1,iG c2]) λc1 h=>let zC:SE:=dk zB [aV c1];ie h (λc2 h=>be h λ_ apW h=>cB (y7 iD n h) zC [aV c2,(1,.ord [0,1,2,3,4,5,6,7,8,9,10,13,11,12,14,15,16]),(12,.call (nW n apW) [(0,0)] [])]) λc2 h=>let zD:SE:=dk zC [aV c2];ie h (λc3 h=>be h λyz JJ h=>cB (y7 iD n h) zD [aV c3,(6,.call (nW n JJ) [(0,0)] [])]) λc3 h=>let zE:SE:=dk zD [aV c3];ie h (λc4 h=>cB (y7 iD n h) zE [aV c4]) λc4 h=>let zF:SE:=dk zE [aV c4];ie h (λc5 h=>be h λyz JJ h=>be h λx48 agl h=>cB (y7 iD n h) zF [aV c5,im (El n JJ),iX (El n agl),(6,eW.er 163 [yz,x48])]) λc5 h=>let zG:SE:=dk zF [aV c5];ie h (λc6 h=>ie h (λc7 h=>be h λ_ hx58 h=>be h λp8 aAI h=>be h λrW hx69 h=>let zH:SE:=dk zG [aV c6,iG c7,(3,eW.idx hx58),(5,.call (Q6 n aAI) [(0,0)] []),(2,.call (Q6 n hx69) [(0,0)] [])];ie h (λc8 h=>be h λx89 aAG h=>cB (y7 iD n h) zH [(15,eb c8),(2,ED.rR (xs:= [(iq.mk p8.1 rW.1),(iq.mk rW.1 p8.1)]) aAG (tp rfl)),(2,.tU 194 (.undef)),(0,.tU 200 (.undef)),(0,.shr 194 (ED.take [(iq.mk p8.1 rW.1),(iq.mk rW.1 p8.1)] x89)),(0,.seq 201 (bF (AV.ms 194 6 0) ((xW (xs:= [(iq.mk p8.1 rW.1),(iq.mk rW.1 p8.1)]) (kY (ti aAG).2 (tp rfl))).symm))),(0,.beq 12 (bF (λn_=>(Bx.flat 46 [iI cx.bf,iI cx.av,iI (aW (jR.aH+dN.1)),iI 0,.str A',iI 0,iI 0,iI 0,.str A',.ms 194 6 0 n_,.str A',.slice 73 2 cx.bp.ag.length (eD cx.bp.ag),iI 0,.slice 121 2 cx.bp.ar.length (eo cx.bp.ar),.slice 107 13 cx.bp.aL.length (dP cx.bp.aL)])) ((xW (xs:= [(iq.mk p8.1 rW.1),(iq.mk rW.1 p8.1)]) (kY (ti aAG).2 (tp rfl))).symm))),(0,ED.er 194 ([(iq.mk p8.1 rW.1),(iq.mk rW.1 p8.1)].take x89))]) λc8 h=>cB (y7 iD n h) zH [(15,eb c8),(0,ED.er 194 [(iq.mk p8.1 rW.1),(iq.mk rW.1 p8.1)])]) λc7 h=>cB (y7 iD n h) zG [aV c6,iG c7]) λc6 h=>cB (y7 iD n h) zG [aV c6]
def Uc:Z (bX×aN):=
 if iL (0<(bO.ah.length:Int)) then
 (idx bO.ah ba.av).bind λeN=>Ud aT an W bc P bx bO (aE.mk ba.bf ba.av 0 0 A' 0 om ba.ck (ad3 A' ba.bp.ag 0 ba.bp.ar ba.bp.aL)) eN
 else
 Ud aT an W bc P bx bO (aE.mk ba.bf ba.av 0 0 A' 0 om ba.ck (ad3 A' ba.bp.ag 0 ba.bp.ar ba.bp.aL)) (ad3 A' [] 0 [] [])
def aFL {eO} (iD:KK (BP [0,1,0,1,1]) yB eO) (n:Nat):KK (BP (aI 32331)) aJt (Uc eO n):=λ_ _ _ _ _ _ r h=>ie h (λdu h=>be h λ_ iK h=>ra (aFM iD n h) [bk du,(4,cm.idx iK)]) λdu h=>ra (aFM iD n h) [bk du]
def acd (jh:Wf32) (back:YM) (n:Nat) (n8:Int) (b0:aN) (b4:ae) (gC:bX):Z (bX×aN):=
 if iL (0<n8) then
 (F40 n b4 gC).bind λx5=>if x5.2 !=0 then
 V ([],b0)
 else
 (dX x5.1.length (aW ((x5.1.length:Int)-1))).bind λja=>(x5.1[0+ja]?).bind λlx=>(qJ n b0 10).bind λfK=>(qJ n fK.2 (if 1<(lx.ah.length:Int) then (lx.ah.length:Int) else 1)).bind λkC=>if iL (8<(aW (1+fK.1))) then
 (qJ n kC.2 2).bind λE4=>Uc back n n8 E4.2 b4 gC lx (aE.mk (aW (1+(aW (7*E4.1)))) kC.1 0 0 A' 0 om [] (ad3 A' [] 0 [] []))
 else
 Uc back n n8 kC.2 b4 gC lx (aE.mk (aW (1+fK.1)) kC.1 0 0 A' 0 om [] (ad3 A' [] 0 [] []))
 else
 jh b0 gC
def aTc {jh} (oB:KK (BP [1,1,1]) aee jh) {back} (aK:KK (BP [0,1,0,1,1]) yB back) (n:Nat):KK (BP [0,1,0,1,1]) yB (acd jh back n):=λ_ _ _ _ r h=>ie h (λdu h=>be h λ_ ic h=>let zA:SE:=[aV du,(2,.call (aBs n ic) [(227,1)] [(303000,bA)])];ie h (λc1 h=>bq h zA [dg c1,(1,.born [6] [] bA I 46 15)]) λc1 h=>be h λ_ jN h=>be h λ_ jM h=>be h λ_ ki h=>be h λ_ pI h=>let zB:SE:=dk zA [dg c1,(4,cX jN),(0,BI.row jM),(2,.ord [0,3,4,5,6,7,10,1,2,8,9,11]),(7,.call (nW n ki) [(0,0)] []),(1,.call (nW n pI) [(0,0)] [])];ie h (λc2 h=>be h λ_ QU h=>cB (aFL aK n h) zB [bk c2,(1,.call (nW n QU) [(0,0)] [])]) λc2 h=>cB (aFL aK n h) zB [bk c2]) λdu h=>ra (oB h) [aV du]
def FZ (jh:Wf32):Nat->Int->aN->ae->bX->Z (bX×aN)
 |0=>dv.z
 |n+1=>acd jh (FZ jh n) n
def aEb {jh} (oB:KK (BP [1,1,1]) aee jh):∀n:Nat,KK (BP [0,1,0,1,1]) yB (FZ jh n)
 |0=>KC.h
 |n+1=>aTc oB (aEb oB n) n
def PO (n:Nat) (b0:aN) (gC:bX):Z (bX×aN):=
 V (gC,b0)
def aTb:KK (BP [1,1,1]) aee (PO a):=λ_ _ r h=>rr h [(2,.iR 227 bA)]
def atv:Z (bX×aN):=
 (qJ a F (aW (B+1))).bind λx7=>FZ (PO a) a x7.1 x7.2 f9 []
def aTa:KK (BP []) auA (atv a):=λ_ _ _ r h=>be h λ_ iE h=>ra (aEb (aTb a) a h) [(6,.call (nW a iE) [(0,0)] []),(1,.born [7] [] 227 M 46 15)]
def F39:=atv
def ev39:KK (Cx E0 39 aDe avI) auA (F39 a):=λ_ _ _ _ h=>ca (X:=uO) (aTa a h)
def aDl:AV:=.dr [.agg (cI eq.1),.ms 200001 15 0 eq.2.1.length,.ms 200002 2 0 eq.2.2.1.length,bH eq.2.2.2.1]
def avO:List (Nat×Bx):= [(0,mD (fg eq.2.2.2.2)),(200001,DN eq.2.1),(200002,LH eq.2.2.1)]
def jd:=fx E0 Tryz.f12 [0]
def A12:=Ax jd aDl avO
def atJ:Z (ae×bX×fU×Int×aN):=
 (F38 a F).bind λx6=>(F39 a x6.2 x6.1 5).bind λazx=>(F40 a x6.1 azx.1).bind λiQ=>(qJ a azx.2 (iQ.1.length:Int)).bind λlu=>V (x6.1,azx.1,iQ.1,lu.1,lu.2)
def aUe:KK (A12 []) yc (atJ a):=λ_ r h=>be h λ_ jL h=>be h λ_ hI h=>be h λ_ iJ h=>be h λ_ rP h=>rr h [(5,.call (ev38 a jL) [(0,0)] []),(4,.call (ev39 a hI) [(0,0)] [(14,bA)]),(3,.call (aBs a iJ) [(14,1)] [(301800,bA)]),(11,.call (nW a rP) [(0,0)] []),(4,.iR 14 200001),(0,.iR 301800 200002)]
def F12:=atJ
def ev12:KK (Cx E0 12 aDl avO) yc (F12 a):=λ_ _ h=>ca (X:=jd) (aUe a h)
def aDk (r:aN):AV:=.loc bA 0
def avN:List (Nat×Bx):= [(bA,mD (fg F))]
def dC:=fx E0 Tryz.f13 []
def A13:=Ax dC aDk avN
def auN:LS:=⟨[(0,.rY 5 1 j.length (AF j)),(1,iI g)],[]⟩
def atI (n:Nat) (vL:aP) (aaD:Int):Z aN:=
 (cut vL G (V (if aaD<(vL.length:Int) then aaD else (vL.length:Int)))).bind λx7=>(app [] x7).bind λx9=>V (aN.mk x9 0)
def aUd:KK (A13 []) auN (atI a):=λ_ _ r h=>be h λ_ iE h=>be h λx9 iS h=>rr h [(6,R5.cut iE),(0,.born [] [] 11 M 5 1),(0,R5.app (xs:= []) iS),(3,.iR 13 bA),(0,R5.er 11 x9),(0,.oV bA (.flat 0 [.sl 2 0 0 0 []]))]
def F13:=atI
def ev13:KK (Cx E0 13 aDk avN) auN (F13 a):=λ_ _ _ h=>ca (X:=dC) (aUd a h)
def x99:=fx E0 Tryz.f99 []
def A99:=Ax x99 cP bC
def aJa:LS:=⟨[(3,bH b),(4,.int .i32 d),(5,.bool L),(15,.it 15)],[(15,.iter g6 al)]⟩
def R0:LS:=⟨[(15,.it 15)],[(15,.iter g6 al)]⟩
def adf:LS:=⟨[],[]⟩
def TV (n:Nat) (i3 c4:Int) (Yo:Bool) (rH:U) (pK:Nat):Z Bool:=
 if !Yo then
 if i3==0 then
 V I
 else
 if c4 !=95 then
 if iL (c4<48) then
 V I
 else
 if iL (57<c4) then
 V I
 else
 d2 rH pK
 else
 d2 rH pK
 else
 d2 rH pK
def aFB {aA} (aU:KK (A99 [0,1,0,1,1]) R0 aA) (n:Nat):KK (A99 (aI 3787)) aJa (TV aA n):=λ_ _ _ _ _ r h=>ie h (λc0 h=>ie h (λc1 h=>rr h [aV c0,aQ c1]) λc1 h=>let zA:SE:=[aV c0,aQ c1];ie h (λc2 h=>ie h (λc3 h=>bq h zA [aQ c2,aQ c3]) λc3 h=>ie h (λc4_ h=>bq h zA [aQ c2,aQ c3,aQ c4_]) λc4_ h=>cB (aU h) zA [aQ c2,aQ c3,aQ c4_]) λc2 h=>cB (aU h) zA [aQ c2]) λc0 h=>ra (aU h) [aV c0]
def abi (rH:U) (pK:Nat):Z Bool:=
 if iL (pK<rH.size) then
 if !iL (((Z' rH pK).1:Int)<97) then
 TV d2 dy (pK:Int) ((Z' rH pK).1:Int) (!iL (122<((Z' rH pK).1:Int))) rH (pK+(Z' rH pK).2)
 else
 TV d2 dy (pK:Int) ((Z' rH pK).1:Int) I rH (pK+(Z' rH pK).2)
 else
 K
def aQO {bh} (cF:KK (A99 [1,1,1]) adf bh) {back} (aK:KK (A99 [0,1,0,1,1]) R0 back) (n:Nat):KK (A99 [0,1,0,1,1]) R0 (abi bh back n):=λ_ _ r h=>ie h (λc0 h=>ie h (λc1 h=>ra (aFB aK n h) [(0,.nxt (tq c0)),dg c1]) λc1 h=>ra (aFB aK n h) [(0,.nxt (tq c0)),dg c1]) λc0 h=>ra (cF h) [(0,.fin (NK c0))]
def CS (bh:Z Bool):Nat->U->Nat->Z Bool
 |0=>dv.z
 |n+1=>abi bh (CS bh n) n
def aDs {bh} (cF:KK (A99 [1,1,1]) adf bh):∀n:Nat,KK (A99 [0,1,0,1,1]) R0 (CS bh n)
 |0=>KC.h
 |n+1=>aQO cF (aDs cF n) n
def Ky (n:Nat):Z Bool:=
 V M
def aQN:KK (A99 [1,1,1]) adf (Ky a):=λr h=>rr h []
def asI:Z Bool:=
 if iL ((g6.size:Int)<1) then
 V I
 else
 if iL (32<(g6.size:Int)) then
 V I
 else
 CS (Ky a) a g6 0
def aQM:KK (A99 []) C7 (asI a):=λ_ r h=>ie h (λc0 h=>rr h [aZ c0]) λc0 h=>ie h (λc1 h=>rr h [aZ c0,aZ c1]) λc1 h=>ra (aDs (aQN a) a h) [aZ c0,aZ c1]
def F99:=asI
def ev99:KK (Cx E0 99 cP bC) C7 (F99 a):=λ_ _ h=>ca (X:=x99) (aQM a h)
def x43:=fx E0 Tryz.f43 []
def Gc:=Ax x43 cP bC
def adZ:LS:=⟨[(3,.mp 9),(6,.mp 43),(11,.slice 44 5 t.length (dF t)),(12,iI o),(13,iI x),(22,.mp 9),(23,.loc 5 0),(24,.str g6),(25,.bool I),(28,.loc 5 2),(29,iI aq),(30,.bool I),(33,.loc 5 2),(34,iI aR),(35,.loc 5 1),(36,.slice 73 2 N.length (eD N)),(37,iI ak),(38,.bool I),(45,.slice 73 2 cs.length (eD cs)),(46,iI bG),(47,iI bJ)],[(5,.flat 44 (jv eh)),(9,.map (ga AV.bool dd)),(43,.map (ga AV.bool ef))]⟩
def adY:LS:=⟨[(3,.mp 9),(11,.slice 44 5 t.length (dF t)),(12,iI o),(13,iI x),(22,.mp 9),(23,.loc 5 0),(24,.str g6),(25,.bool I),(28,.loc 5 2),(29,iI aq),(30,.bool I),(33,.loc 5 2),(34,iI aR),(35,.loc 5 1),(36,.slice 73 2 N.length (eD N)),(37,iI ak),(38,.bool I)],[(5,.flat 44 (jv eh)),(9,.map (ga AV.bool dd))]⟩
def Sd:LS:=⟨[(3,.mp 9),(11,.slice 44 5 t.length (dF t)),(12,iI o),(13,iI x)],[(9,.map (ga AV.bool dd))]⟩
def adX:LS:=⟨[],[]⟩
def abZ (aA:aGa) (back:bw->Int->Int->U->Int->Int->cY->Int->cY->Int->Int->(List (U×Bool))->(List (U×Bool))->ai->Z Bool) (n:Nat) (t11:bw) (t12 t13:Int) (t24:U) (t29 t34:Int) (t36:cY) (t37:Int) (t45:cY) (t46 t47:Int) (b9 Cr:List (U×Bool)) (b5:ai):Z Bool:=
 if iL (t47<t46) then
 (idx t45 t47).bind λx2=>(F99 n x2.aM).bind λx9=>if !x9 then
 V I
 else
 if (mS Cr x2.aM I) then
 V I
 else
 if x2.aD !=3 then
 if x2.aD !=4 then
 if x2.aD !=5 then
 V I
 else
 back t11 t12 t13 t24 t29 t34 t36 t37 t45 t46 (aW (t47+1)) b9 (mQ Cr x2.aM M) b5
 else
 back t11 t12 t13 t24 t29 t34 t36 t37 t45 t46 (aW (t47+1)) b9 (mQ Cr x2.aM M) b5
 else
 back t11 t12 t13 t24 t29 t34 t36 t37 t45 t46 (aW (t47+1)) b9 (mQ Cr x2.aM M) b5
 else
 aA t11 t12 t13 t24 t29 t34 t36 t37 b9 b5
def aSS {aA} (aU:KK (Gc (aI 971)) adY aA) {back} (aK:KK (Gc (aI 97483)) adZ back) (n:Nat):KK (Gc (aI 97483)) adZ (abZ aA back n):=λ_ _ _ _ _ _ _ _ _ _ _ _ Cr _ r h=>ie h (λc0 h=>be h λx2 di h=>be h λ_ iS h=>let zA:SE:=[aB c0,(0,eW.idx di),mw (ev99 n iS)];ie h (λc1 h=>bq h zA [aB c1]) λc1 h=>let zB:SE:=dk zA [aB c1];ie h (λc2 h=>bq h zB [(4,.lkp I (CK c2))]) λc2 h=>let zC:SE:=dk zB [(4,.lkp I (CK c2)),(4,.ly (BB (f:=AV.bool) (k:=x2.aM) (v:=M) Cr))];ie h (λc3 h=>ie h (λc4 h=>ie h (λc5 h=>bq h zC [aQ c3,aZ c4,bk c5]) λc5 h=>cB (aK h) zC [aQ c3,aZ c4,bk c5]) λc4 h=>cB (aK h) zC [aQ c3,aZ c4]) λc3 h=>cB (aK h) zC [aQ c3]) λc0 h=>ra (aU h) [aB c0]
def Pm (aA:aGa):Nat->bw->Int->Int->U->Int->Int->cY->Int->cY->Int->Int->(List (U×Bool))->(List (U×Bool))->ai->Z Bool
 |0=>dv.z
 |n+1=>abZ aA (Pm aA n) n
def aDY {aA} (aU:KK (Gc (aI 971)) adY aA):∀n:Nat,KK (Gc (aI 97483)) adZ (Pm aA n)
 |0=>KC.h
 |n+1=>aSS aU (aDY aU n) n
def abY (n:Nat) (t11:bw) (t12 t13:Int) (t24:U) (t29 t34:Int) (t36:cY) (t37:Int) (b9:List (U×Bool)) (b5:ai):Z Bool:=
 dL t11 t12 (aW (t13+1)) b9
def aSR {bh} (cF:KK (Gc [0,1,0,1,1]) Sd bh) (n:Nat):KK (Gc (aI 971)) adY (abY bh n):=λ_ _ _ _ _ _ _ _ _ _ r h=>ra (cF h) []
def abX:Z Bool:=
 if iL (d1<d0) then
 (idx dO d1).bind λx2=>(F99 dM x2.aM).bind λx9=>if !x9 then
 V I
 else
 if (mS ef x2.aM I) then
 V I
 else
 if iL (x2.aH<1) then
 V I
 else
 if iL ((x2.ag.length:Int)<x2.aH) then
 V I
 else
 Pm (abY dL dM) dM dO d0 d1 x2.aM x2.aH x2.aH x2.ag (x2.ag.length:Int) x2.ag (x2.ag.length:Int) 0 (mQ ef x2.aM M) [] x2
 else
 K
def aSQ {bn} (cM:KK (Gc [1,1,1]) adX bn) {back} (aK:KK (Gc [0,1,0,1,1]) Sd back) (n:Nat):KK (Gc [0,1,0,1,1]) Sd (abX bn back n):=λ_ _ _ b9 r h=>ie h (λc0 h=>be h λx2 di h=>be h λ_ iS h=>let zA:SE:=[aB c0,(0,cm.idx di),mw (ev99 n iS)];ie h (λc1 h=>bq h zA [aB c1]) λc1 h=>let zB:SE:=dk zA [aB c1];ie h (λc2 h=>bq h zB [(4,.lkp I (CK c2))]) λc2 h=>let zC:SE:=dk zB [(4,.lkp I (CK c2))];ie h (λc3 h=>bq h zC [bk c3]) λc3 h=>ie h (λc4 h=>bq h zC [bk c3,iO c4]) λc4 h=>cB (aDY (aSR aK n) n h) zC [bk c3,iO c4,(4,.ly (BB (f:=AV.bool) (k:=x2.aM) (v:=M) b9))]) λc0 h=>ra (cM h) [aB c0]
def Kn (bn:Z Bool):Nat->bw->Int->Int->(List (U×Bool))->Z Bool
 |0=>dv.z
 |n+1=>abX bn (Kn bn n) n
def aDX {bn} (cM:KK (Gc [1,1,1]) adX bn):∀n:Nat,KK (Gc [0,1,0,1,1]) Sd (Kn bn n)
 |0=>KC.h
 |n+1=>aSQ cM (aDX cM n) n
def Ub (n:Nat):Z Bool:=
 V M
def aSP:KK (Gc [1,1,1]) adX (Ub a):=λr h=>rr h []
def aGE:Z Bool:=
 Kn (Ub a) a i.ah (i.ah.length:Int) 0 []
def aSO:KK (Gc []) uz (aGE a):=λ_ r h=>ra (aDX (aSP a) a h) []
def F43:=aGE
def ev43:KK (Cx E0 43 cP bC) uz (F43 a):=λ_ _ h=>ca (X:=x43) (aSO a h)
def Du:=fx E0 Tryz.f44 []
def xh:=Ax Du cP bC
def adW:LS:=⟨[aX 1,aX 4,aX 7,(11,.slice 44 5 t.length (dF t)),(12,iI o),(13,iI x),(18,.slice 121 2 S.length (eo S)),(19,iI B),(20,iI aa),(28,.loc 6 1),(29,iI f7),(30,.loc 1 1),(31,.slice 44 5 aw.length (dF aw)),(32,iI ak),(33,.bool I),(48,.slice 3 1 a3.length (dJ a3)),(49,iI a4),(50,iI a5)],[(1,iU (cI bo)),(4,gP (jv cr)),(6,.flat 121 (Eo bT)),(7,gP (jv bQ))]⟩
def adV:LS:=⟨[aX 1,aX 4,(11,.slice 44 5 t.length (dF t)),(12,iI o),(13,iI x),(18,.slice 121 2 S.length (eo S)),(19,iI B),(20,iI aa),(28,.loc 6 1),(29,iI f7),(30,.loc 1 1),(31,.slice 44 5 aw.length (dF aw)),(32,iI ak),(33,.bool I)],[(1,iU (cI P)),(4,gP (jv ap)),(6,.flat 121 (Eo bT))]⟩
def Sb:LS:=⟨[aX 1,aX 4,(11,.slice 44 5 t.length (dF t)),(12,iI o),(13,iI x),(18,.slice 121 2 S.length (eo S)),(19,iI B),(20,iI aa)],[(1,iU (cI P)),(4,gP (jv ap))]⟩
def DA:LS:=⟨[aX 1,(11,.slice 44 5 t.length (dF t)),(12,iI o),(13,iI x)],[(1,iU (cI w))]⟩
def adU:LS:=⟨[],[]⟩
def abW (aA:Wf33) (back:bw->Int->Int->bL->Int->Int->Int->bw->Int->aP->Int->Int->ae->ai->ai->bl->Z Bool) (n:Nat) (t11:bw) (t12 t13:Int) (t18:bL) (t19 t20 t29:Int) (t31:bw) (t32:Int) (t48:aP) (t49 t50:Int) (b1:ae) (b4 b7:ai) (b6:bl):Z Bool:=
 if iL (t50<t49) then
 (idx t48 t50).bind λx3=>if iL (x3<0) then
 V I
 else
 if !iL (x3<(b4.ag.length:Int)) then
 V I
 else
 (idx b4.ag x3).bind λnh=>(idx b7.ag t50).bind λpL=>if nh.aD !=pL.aD then
 V I
 else
 back t11 t12 t13 t18 t19 t20 t29 t31 t32 t48 t49 (aW (t50+1)) b1 b4 b7 b6
 else
 aA t11 t12 t13 t18 t19 t20 t29 t31 t32 b1 b4 b6
def aSN {aA} (aU:KK (xh (aI 124517)) adV aA) {back} (aK:KK (xh (aI 12478053)) adW back) (n:Nat):KK (xh (aI 12478053)) adW (abW aA back n):=λ_ _ _ _ _ _ _ _ _ _ _ _ _ _ _ _ r h=>ie h (λc0 h=>be h λ_ eM h=>let zA:SE:=[aB c0,(1,R3.idx eM)];ie h (λc1 h=>bq h zA [bk c1]) λc1 h=>ie h (λc2 h=>bq h zA [bk c1,bP c2]) λc2 h=>be h λ_ o7 h=>be h λ_ sO h=>let zB:SE:=dk zA [bk c1,bP c2,(5,eW.idx o7),(5,eW.idx sO)];ie h (λc3 h=>bq h zB [aQ c3]) λc3 h=>cB (aK h) zB [aQ c3]) λc0 h=>ra (aU h) [aB c0]
def Pk (aA:Wf33):Nat->bw->Int->Int->bL->Int->Int->Int->bw->Int->aP->Int->Int->ae->ai->ai->bl->Z Bool
 |0=>dv.z
 |n+1=>abW aA (Pk aA n) n
def aDW {aA} (aU:KK (xh (aI 124517)) adV aA):∀n:Nat,KK (xh (aI 12478053)) adW (Pk aA n)
 |0=>KC.h
 |n+1=>aSN aU (aDW aU n) n
def abV (n:Nat) (t11:bw) (t12 t13:Int) (t18:bL) (t19 t20 t29:Int) (t31:bw) (t32:Int) (b1:ae) (b4:ai) (b6:bl):Z Bool:=
 dQ t11 t12 t13 t18 t19 (aW (t20+1)) b1 b4
def aSM {bh} (cF:KK (xh (aI 5733)) Sb bh) (n:Nat):KK (xh (aI 124517)) adV (abV bh n):=λ_ _ _ _ _ _ _ _ _ _ _ _ r h=>ra (cF h) []
def abU (t18:bL) (t19 t20:Int) (b1:ae) (b4:ai):Z Bool:=
 if iL (t20<t19) then
 (idx t18 t20).bind λx2=>if iL (x2.av<0) then
 V I
 else
 if !iL (x2.av<(b1.ah.length:Int)) then
 V I
 else
 (idx b1.ah x2.av).bind λl7=>if (x2.ag.length:Int) !=l7.aH then
 V I
 else
 Pk (abV dQ dU) dU dz ec ee t18 t19 t20 x2.av b1.ah (b1.ah.length:Int) x2.ag (x2.ag.length:Int) 0 b1 b4 l7 x2
 else
 cC dz ec ee b1
def aSL {bn} (cM:KK (xh (aI 485)) DA bn) {back} (aK:KK (xh (aI 5733)) Sb back) (n:Nat):KK (xh (aI 5733)) Sb (abU bn back n):=λ_ _ _ _ _ _ _ _ r h=>ie h (λc0 h=>be h λ_ di h=>let zA:SE:=[aB c0,(0,fj.idx di)];ie h (λc1 h=>bq h zA [bP c1]) λc1 h=>ie h (λc2 h=>bq h zA [bP c1,dg c2]) λc2 h=>be h λ_ nr h=>let zB:SE:=dk zA [bP c1,dg c2,(5,cm.idx nr)];ie h (λc3 h=>bq h zB [iG c3]) λc3 h=>cB (aDW (aSM aK n) n h) zB [iG c3]) λc0 h=>ra (cM h) [aB c0]
def Km (bn:arM):Nat->bw->Int->Int->bL->Int->Int->ae->ai->Z Bool
 |0=>dv.z
 |n+1=>abU bn (Km bn n) n
def aDV {bn} (cM:KK (xh (aI 485)) DA bn):∀n:Nat,KK (xh (aI 5733)) Sb (Km bn n)
 |0=>KC.h
 |n+1=>aSL cM (aDV cM n) n
def abT (n:Nat) (t11:bw) (t12 t13:Int) (b1:ae):Z Bool:=
 cC t11 t12 (aW (t13+1)) b1
def aSK {db} (fh:KK (xh [0,1,0,1]) DA db) (n:Nat):KK (xh (aI 485)) DA (abT db n):=λ_ _ _ _ r h=>ra (fh h) []
def abS:Z Bool:=
 if iL (cK<cc) then
 (idx cH cK).bind λx2=>Km (abT cC cE) cE cH cc cK x2.ar (x2.ar.length:Int) 0 dn x2
 else
 K
def aSJ {eO} (iD:KK (xh [1,1]) adU eO) {back} (aK:KK (xh [0,1,0,1]) DA back) (n:Nat):KK (xh [0,1,0,1]) DA (abS eO back n):=λ_ _ _ _ r h=>ie h (λc0 h=>be h λ_ di h=>ra (aDV (aSK aK n) n h) [aB c0,(0,cm.idx di)]) λc0 h=>ra (iD h) [aB c0]
def Kl (eO:Z Bool):Nat->bw->Int->Int->ae->Z Bool
 |0=>dv.z
 |n+1=>abS eO (Kl eO n) n
def aDU {eO} (iD:KK (xh [1,1]) adU eO):∀n:Nat,KK (xh [0,1,0,1]) DA (Kl eO n)
 |0=>KC.h
 |n+1=>aSJ iD (aDU iD n) n
def Ua (n:Nat):Z Bool:=
 V M
def aSI:KK (xh [1,1]) adU (Ua a):=λr h=>rr h []
def aGD:Z Bool:=
 Kl (Ua a) a i.ah (i.ah.length:Int) 0 i
def aSH:KK (xh []) uz (aGD a):=λ_ r h=>ra (aDU (aSI a) a h) []
def F44:=aGD
def ev44:KK (Cx E0 44 cP bC) uz (F44 a):=λ_ _ h=>ca (X:=Du) (aSH a h)
def x100:=fx E0 Tryz.f100 []
def A100:=Ax x100 cP bC
def akk (n:Nat) (s0:ae) (dt:Int):Z Bool:=
 if !iL (dt<0) then
 V (iL (dt<(s0.ah.length:Int)))
 else
 V I
def aOt:KK (A100 []) Bf (akk a):=λ_ _ r h=>ie h (λc0 h=>rr h [aZ c0]) λc0 h=>rr h [aZ c0]
def Ku:=akk
def JX:KK (Cx E0 100 cP bC) Bf (Ku a):=λ_ _ _ h=>ca (X:=x100) (aOt a h)
def Bl:List (Nat×Bx):= [(bA,wF j)]
def x45:=fx E0 Tryz.f45 []
def A45:=Ax x45 AG Bl
def adT:LS:=⟨[(5,.ms 19 1 0 af.length),(25,.slice 73 2 J.length (eD J)),(26,iI D),(27,iI B)],[(19,wF af)]⟩
def adS:LS:=⟨[(5,.ms 19 1 0 j.length)],[(19,wF j)]⟩
def abR (back:Wt0_) (n:Nat) (t25:cY) (t26 t27:Int) (b19:aP):Z aP:=
 if iL (t27<t26) then
 (idx t25 t27).bind λx2=>(app b19 [x2.aD]).bind λdN=>back t25 t26 (aW (t27+1)) dN
 else
 c9 b19
def aSG {aA} (aU:KK (A45 [1,1,1,1]) adS aA) {back} (aK:KK (A45 (aI 87)) adT back) (n:Nat):KK (A45 (aI 87)) adT (abR aA back n):=λ_ _ _ _ r h=>ie h (λc0 h=>be h λ_ di h=>be h λ_ fN h=>ra (aK h) [aB c0,(0,eW.idx di),(7,R3.jS fN)]) λc0 h=>ra (aU h) [aB c0]
def Pj (aA:Wf0):Nat->cY->Int->Int->aP->Z aP
 |0=>dv.z
 |n+1=>abR aA (Pj aA n) n
def aDT {aA} (aU:KK (A45 [1,1,1,1]) adS aA):∀n:Nat,KK (A45 (aI 87)) adT (Pj aA n)
 |0=>KC.h
 |n+1=>aSG aU (aDT aU n) n
def abQ (n:Nat) (b19:aP):Z aP:=
 V b19
def aSF:KK (A45 [1,1,1,1]) adS (abQ a):=λ_ r h=>rr h [(2,.iR 19 bA)]
def atr:Z aP:=
 (Ku a i g).bind λx5=>if !x5 then
 V []
 else
 (idx i.ah g).bind λdN=>(tu (dN.ag.length:Int) (0:Int)).bind λgd=>(idx i.ah g).bind λl7=>Pj (abQ a) a l7.ag (l7.ag.length:Int) 0 []
def aSE:KK (A45 []) Bf (atr a):=λ_ _ r h=>be h λ_ ic h=>ie h (λc0 h=>rr h [j2 (JX a ic),aB c0,(1,.born [4] [] bA I 3 1)]) λc0 h=>be h λ_ fN h=>be h λ_ iB h=>be h λ_ nr h=>ra (aDT (aSF a) a h) [j2 (JX a ic),aB c0,(3,cm.idx fN),(3,R3.aPu iB),(4,cm.idx nr)]
def F45:=atr
def aBr:KK (Cx E0 45 AG Bl) Bf (F45 a):=λ_ _ _ h=>ca (X:=x45) (aSE a h)
def x101:=fx E0 Tryz.f101 []
def RQ:=Ax x101 cP bC
def XY:LS:=⟨[],[]⟩
def alL:LS:=⟨[(0,.slice 3 1 j.length (dJ j))],[]⟩
def VT (back:aP->Int->Int->Z Bool) (n:Nat) (t5:aP) (t6 t7:Int):Z Bool:=
 if iL (t7<t6) then
 (idx t5 t7).bind λx2=>if x2 !=3 then
 if x2 !=4 then
 if x2 !=5 then
 V I
 else
 back t5 t6 (aW (t7+1))
 else
 back t5 t6 (aW (t7+1))
 else
 back t5 t6 (aW (t7+1))
 else
 K
def aOs {aA} (aU:KK (RQ [1,1]) XY aA) {back} (aK:KK (RQ [0,1,0,1]) C8 back) (n:Nat):KK (RQ [0,1,0,1]) C8 (VT aA back n):=λ_ _ _ r h=>ie h (λc0 h=>be h λ_ di h=>let zA:SE:=[aB c0,(0,R3.idx di)];ie h (λc1 h=>ie h (λc2 h=>ie h (λc3 h=>bq h zA [aZ c1,aQ c2,aZ c3]) λc3 h=>cB (aK h) zA [aZ c1,aQ c2,aZ c3]) λc2 h=>cB (aK h) zA [aZ c1,aQ c2]) λc1 h=>cB (aK h) zA [aZ c1]) λc0 h=>ra (aU h) [aB c0]
def II (aA:Z Bool):Nat->aP->Int->Int->Z Bool
 |0=>dv.z
 |n+1=>VT aA (II aA n) n
def axr {aA} (aU:KK (RQ [1,1]) XY aA):∀n:Nat,KK (RQ [0,1,0,1]) C8 (II aA n)
 |0=>KC.h
 |n+1=>aOs aU (axr aU n) n
def akj (n:Nat):Z Bool:=
 V M
def aOr:KK (RQ [1,1]) XY (akj a):=λr h=>rr h []
def aki:Z Bool:=
 II (akj a) a j (j.length:Int) 0
def aOq:KK (RQ []) alL (aki a):=λ_ r h=>ra (axr (aOr a) a h) []
def aiG:=aki
def aFt:KK (Cx E0 101 cP bC) alL (aiG a):=λ_ _ h=>ca (X:=x101) (aOq a h)
def avm:AV:=.bool et.1
def amp:List (Nat×Bx):= [(2,Gn et.2)]
def x102:=fx E0 Tryz.f102 [2]
def RP:=Ax x102 avm amp
def aiL:=Cx E0 102 avm amp
def XX:LS:=⟨[(1,iI b),aX 2,(23,.slice 107 13 y.length (dP y)),(24,iI m),(25,iI s)],[(2,Gn D)]⟩
def XW:LS:=⟨[],[(2,Gn b)]⟩
def Dc:LS:=⟨[(0,.agg (fR p)),(1,bH m),aX 2],[(2,Gn s)]⟩
def VS (aA:Int->Z (Bool×Int)) (back:Int->br->Int->Int->Int->Z (Bool×Int)) (n:Nat) (vA:Int) (t23:br) (t24 t25 b2:Int):Z (Bool×Int):=
 if iL (t25<t24) then
 (idx t23 t25).bind λx2=>(dE x2 (aW (vA+1)) b2).bind λdN=>if !dN.1 then
 V (I,dN.2)
 else
 back vA t23 t24 (aW (t25+1)) dN.2
 else
 aA b2
def aOp {oN} (Br:KK aiL Dc oN) {aA} (aU:KK (RP [1,1,1,1]) XW aA) {back} (aK:KK (RP (aI 87)) XX back) (n:Nat):KK (RP (aI 87)) XX (VS oN aA back n):=λ_ _ _ _ _ r h=>ie h (λc0 h=>be h λ_ di h=>be h λ_ fN h=>let zA:SE:=[aB c0,(0,eR.idx di),(7,.call (Br fN) [(2,2)] [])];ie h (λc1 h=>bq h zA [aB c1]) λc1 h=>cB (aK h) zA [aB c1]) λc0 h=>ra (aU h) [aB c0]
def IH (oN:abc) (aA:Int->Z (Bool×Int)):Nat->Int->br->Int->Int->Int->Z (Bool×Int)
 |0=>dv.z
 |n+1=>VS oN aA (IH oN aA n) n
def axq {oN} (Br:KK aiL Dc oN) {aA} (aU:KK (RP [1,1,1,1]) XW aA):∀n:Nat,KK (RP (aI 87)) XX (IH oN aA n)
 |0=>KC.h
 |n+1=>aOp Br aU (axq Br aU n) n
def azv (oN:abc) (n:Nat) (b2:Int):Z (Bool×Int):=
 V (M,b2)
def aOo {oN} (Br:KK aiL Dc oN) (n:Nat):KK (RP [1,1,1,1]) XW (azv oN n):=λ_ r h=>rr h []
def akh:Z (Bool×Int):=
 if iL ((aW (ee-1))<0) then
 V (I,aW (ee-1))
 else
 if iL (8<ec) then
 V (I,aW (ee-1))
 else
 IH dE (azv dE dM) dM ec ea.fArgs (ea.fArgs.length:Int) 0 (aW (ee-1))
def aOn {oN} (Br:KK aiL Dc oN) (n:Nat):KK (RP []) Dc (akh oN n):=λ_ _ _ r h=>ie h (λc0 h=>rr h [(11,eb c0)]) λc0 h=>ie h (λc1 h=>rr h [(11,eb c0),aQ c1]) λc1 h=>ra (axq Br (aOo Br n) n h) [(11,eb c0),aQ c1]
def Y6:Nat->aj->Int->Int->Z (Bool×Int)
 |0,_,_,_=>G
 |n+1,p0,vA,ym=>akh (Y6 n) n p0 vA ym
def aFs:∀n:Nat,KK aiL Dc (Y6 n)
 |0=>λ_ _ _ _ h=>nz h
 |n+1=>λ_ _ _ _ h=>ca (X:=x102) (aOn (aFs n) n h)
def x114:=fx E0 Tryz.f114 []
def A114:=Ax x114 cP bC
def azu (n:Nat) (v0:aS):Z Bool:=
 if v0.aD==1 then
 if v0.dh==0 then
 V (iL (v0.cG=A'))
 else
 V I
 else
 if v0.aD==2 then
 if v0.dh==0 then
 V (iL (v0.cG=A'))
 else
 V I
 else
 if v0.aD==3 then
 if v0.dh==0 then
 V (iL (v0.cG=A'))
 else
 if v0.dh==1 then
 V (iL (v0.cG=A'))
 else
 V I
 else
 if v0.aD==4 then
 V (iL (v0.cG=A'))
 else
 if v0.aD==5 then
 if v0.dh==0 then
 V (!iL (64<(v0.cG.size:Int)))
 else
 V I
 else
 V I
def aNV:KK (A114 []) ya (azu a):=λ_ r h=>ie h (λc0 h=>ie h (λc1 h=>rr h [bk c0,aZ c1]) λc1 h=>rr h [bk c0,aZ c1]) λc0 h=>ie h (λc1 h=>ie h (λc2 h=>rr h [bk c0,aV c1,aZ c2]) λc2 h=>rr h [bk c0,aV c1,aZ c2]) λc1 h=>let zA:SE:=[bk c0,aV c1];ie h (λc2 h=>ie h (λc3 h=>bq h zA [aV c2,aZ c3]) λc3 h=>ie h (λc4 h=>bq h zA [aV c2,aZ c3,aZ c4]) λc4 h=>bq h zA [aV c2,aZ c3,aZ c4]) λc2 h=>let zB:SE:=dk zA [aV c2];ie h (λc3 h=>bq h zB [aV c3]) λc3 h=>ie h (λc4 h=>ie h (λc5 h=>bq h zB [aV c3,aV c4,aZ c5]) λc5 h=>bq h zB [aV c3,aV c4,aZ c5]) λc4 h=>bq h zB [aV c3,aV c4]
def asC:=azu
def aFn:KK (Cx E0 114 cP bC) ya (asC a):=λ_ _ h=>ca (X:=x114) (aNV a h)
def x163:=fx E0 Tryz.f163 []
def A163:=Ax x163 cP bC
def aju:Z Bool:=
 (asC a az).bind λx4=>if x4 then
 if az.aD !=1 then
 V (az.aD !=2)
 else
 V I
 else
 V I
def aLR:KK (A163 []) ya (aju a):=λ_ r h=>be h λ_ iF h=>let zA:SE:=[j3 (aFn a iF)];ie h (λc0 bE=>by subst c0;exact (ie bE (λc1 bE=>bq bE zA [aZ c1]) λc1 bE=>bq bE zA [aZ c1])) λc0 bE=>by subst c0;exact (rr bE zA)
def Y0:=aju
def aaQ:KK (Cx E0 163 cP bC) ya (Y0 a):=λ_ _ h=>ca (X:=x163) (aLR a h)
def x156:=fx E0 Tryz.f156 []
def A156:=Ax x156 dR bC
def aHc:LS:=⟨[aX 3,(5,.slice 3 1 j.length (dJ j))],[(3,.flat 105 (rE a9))]⟩
def alu:LS:=⟨(Gq (MD Y) (rE a9)),[]⟩
def UW (n:Nat) (SS:aP) (b3:bI):Z Int:=
 if iL (b3.dj<0) then
 V 0
 else
 if !iL (b3.dj<(SS.length:Int)) then
 V 0
 else
 if !((b3.bj.aD==0)&&((b3.bj.dh==0)&&((iL (b3.bj.cG=A'))&&M))) then
 V 0
 else
 (idx SS b3.dj).bind λlx=>V lx
def ayj:KK (A156 [1,1,1]) aHc (UW a):=λ_ _ r h=>ie h (λc0 h=>rr h [aQ c0]) λc0 h=>ie h (λc1 h=>rr h [aQ c0,bP c1]) λc1 h=>ie h (λc2 h=>rr h [aQ c0,bP c1,bP c2]) λc2 h=>be h λ_ jM h=>rr h [aQ c0,bP c1,bP c2,(4,R3.idx jM)]
def ajA:Z Int:=
 if a9.aD==3 then
 if a9.dj !=0 then
 V 0
 else
 (Y0 a a9.bj).bind λiQ=>if !iQ then
 V 0
 else
 V a9.bj.aD
 else
 if a9.aD==2 then
 UW a Y.nV a9
 else
 if a9.aD==1 then
 UW a Y.l3 a9
 else
 V 0
def aMa:KK (A156 []) alu (ajA a):=λ_ _ r h=>ie h (λc0 h=>ie h (λc1 h=>rr h [iG c0,aZ c1]) λc1 h=>be h λ_ iJ h=>let zA:SE:=[iG c0,aZ c1,j3 (aaQ a iJ)];ie h (λc2 h=>bq h zA [aB c2]) λc2 h=>bq h zA [aB c2]) λc0 h=>ie h (λc1 h=>ra (ayj a h) [iG c0,aV c1]) λc1 h=>ie h (λc2 h=>ra (ayj a h) [iG c0,aV c1,aV c2]) λc2 h=>rr h [iG c0,aV c1,aV c2]
def aiq:=ajA
def aFd:KK (Cx E0 156 dR bC) alu (aiq a):=λ_ _ _ h=>ca (X:=x156) (aMa a h)
def aow:=fx E0 Tryz.f103 []
def xN:=Ax aow cP bC
def GQ:=Cx E0 103 cP bC
def Db:LS:=⟨[aX 2,(76,.slice 107 13 y.length (dP y)),(77,iI m),(78,iI s)],[(2,.flat 193 (MD Y))]⟩
def XV:LS:=⟨[],[]⟩
def aHl:LS:=⟨[aX 2,aX 3,(50,.bool L)],[(2,.flat 193 (MD Y)),(3,kM (fR f8))]⟩
def XU:LS:=⟨[],[]⟩
def aHk:LS:=⟨api,[(2,.flat 193 (MD Y)),(3,kM (fR f8))]⟩
def sE:LS:=⟨(Gq (MD Y) (fR f8)),[]⟩
def VQ (n:Nat) (t76:br) (t77 t78:Int) (b2:mo):Z Bool:=
 if iL (t78<t77) then
 (idx t76 t78).bind λx2=>(a2 b2 x2).bind λx9=>if !x9 then
 V I
 else
 ej t76 t77 (aW (t78+1)) b2
 else
 d6
def aOm {fH} (kV:KK GQ sE fH) {aA} (aU:KK (xN [1,1,1,1]) XV aA) {back} (aK:KK (xN (aI 87)) Db back) (n:Nat):KK (xN (aI 87)) Db (VQ fH aA back n):=λ_ _ _ _ r h=>ie h (λc0 h=>be h λ_ di h=>be h λ_ iS h=>let zA:SE:=[aB c0,(0,eR.idx di),mw (kV iS)];ie h (λc1 h=>bq h zA [aB c1]) λc1 h=>cB (aK h) zA [aB c1]) λc0 h=>ra (aU h) [aB c0]
def BM (fH:CQ) (aA:Z Bool):Nat->br->Int->Int->mo->Z Bool
 |0=>dv.z
 |n+1=>VQ fH aA (BM fH aA n) n
def axp {fH} (kV:KK GQ sE fH) {aA} (aU:KK (xN [1,1,1,1]) XV aA):∀n:Nat,KK (xN (aI 87)) Db (BM fH aA n)
 |0=>KC.h
 |n+1=>aOm kV aU (axp kV aU n) n
def VP (fH:CQ) (n:Nat):Z Bool:=
 V M
def aOl {fH} (kV:KK GQ sE fH) (n:Nat):KK (xN [1,1,1,1]) XV (VP fH n):=λr h=>rr h []
def ND (b2:mo) (b3:aj):Z Bool:=
 if bu then
 V I
 else
 if b3.fA !=0 then
 V I
 else
 if !((b3.cO.aD==0)&&((b3.cO.dj==0)&&(((b3.cO.bj.aD==0)&&((b3.cO.bj.dh==0)&&((iL (b3.cO.bj.cG=A'))&&M)))&&M))) then
 V I
 else
 if !((b3.cj.aD==0)&&((b3.cj.dj==0)&&(((b3.cj.bj.aD==0)&&((b3.cj.bj.dh==0)&&((iL (b3.cj.bj.cG=A'))&&M)))&&M))) then
 V I
 else
 BM a2 (VP a2 an) an b3.fArgs (b3.fArgs.length:Int) 0 b2
def ayq {fH} (kV:KK GQ sE fH) (n:Nat):KK (xN (aI 885)) aHl (ND fH n):=λ_ _ _ r h=>ie h (λc0 bE=>by subst c0;exact (rr bE [])) λc0 bE=>by subst c0;exact (ie bE (λc1 bE=>rr bE [aQ c1]) λc1 bE=>ie bE (λc2 bE=>rr bE [aQ c1,bk c2]) λc2 bE=>ie bE (λc3 bE=>rr bE [aQ c1,bk c2,bP c3]) λc3 bE=>ra (axp kV (aOl kV n) n bE) [aQ c1,bk c2,bP c3])
def VO (n:Nat) (t76:br) (t77 t78:Int) (b2:mo):Z Bool:=
 if iL (t78<t77) then
 (idx t76 t78).bind λx2=>(a2 b2 x2).bind λx9=>if !x9 then
 V I
 else
 ej t76 t77 (aW (t78+1)) b2
 else
 d6
def aOk {fH} (kV:KK GQ sE fH) {db} (fh:KK (xN [1,1,1,1]) XU db) {back} (aK:KK (xN (aI 87)) Db back) (n:Nat):KK (xN (aI 87)) Db (VO fH db back n):=λ_ _ _ _ r h=>ie h (λc0 h=>be h λ_ di h=>be h λ_ iS h=>let zA:SE:=[aB c0,(0,eR.idx di),mw (kV iS)];ie h (λc1 h=>bq h zA [aB c1]) λc1 h=>cB (aK h) zA [aB c1]) λc0 h=>ra (fh h) [aB c0]
def BL (fH:CQ) (db:Z Bool):Nat->br->Int->Int->mo->Z Bool
 |0=>dv.z
 |n+1=>VO fH db (BL fH db n) n
def axo {fH} (kV:KK GQ sE fH) {db} (fh:KK (xN [1,1,1,1]) XU db):∀n:Nat,KK (xN (aI 87)) Db (BL fH db n)
 |0=>KC.h
 |n+1=>aOk kV fh (axo kV fh n) n
def VN (fH:CQ) (n:Nat):Z Bool:=
 V M
def aOj {fH} (kV:KK GQ sE fH) (n:Nat):KK (xN [1,1,1,1]) XU (VN fH n):=λr h=>rr h []
def I8:Z Bool:=
 if f8.fA !=0 then
 V I
 else
 if !((f8.cO.aD==0)&&((f8.cO.dj==0)&&(((f8.cO.bj.aD==0)&&((f8.cO.bj.dh==0)&&((iL (f8.cO.bj.cG=A'))&&M)))&&M))) then
 V I
 else
 if !((f8.cj.aD==0)&&((f8.cj.dj==0)&&(((f8.cj.bj.aD==0)&&((f8.cj.bj.dh==0)&&((iL (f8.cj.bj.cG=A'))&&M)))&&M))) then
 V I
 else
 BL a2 (VN a2 an) an f8.fArgs (f8.fArgs.length:Int) 0 Y
def ahf {fH} (kV:KK GQ sE fH) (n:Nat):KK (xN [1,1]) aHk (I8 fH n):=λ_ _ r h=>ie h (λc0 h=>rr h [aQ c0]) λc0 h=>ie h (λc1 h=>rr h [aQ c0,bk c1]) λc1 h=>ie h (λc2 h=>rr h [aQ c0,bk c1,bP c2]) λc2 h=>ra (axo kV (aOj kV n) n h) [aQ c0,bk c1,bP c2]
def akg:Z Bool:=
 if f8.bf==3 then
 (aiq an Y f8.cO).bind λdN=>(aiq an Y f8.cj).bind λgd=>if (f8.fArgs.length:Int)==0 then
 if !iL (f8.fA<1) then
 if !iL (6<f8.fA) then
 if dN !=0 then
 V (dN==gd)
 else
 V I
 else
 V I
 else
 V I
 else
 V I
 else
 if f8.bf==1 then
 ND a2 an ((f8.fArgs.length:Int) !=0) Y f8
 else
 if f8.bf==2 then
 ND a2 an ((f8.fArgs.length:Int) !=0) Y f8
 else
 if f8.bf==6 then
 if (f8.fArgs.length:Int) !=1 then
 V I
 else
 I8 a2 an Y f8
 else
 if f8.bf==4 then
 I8 a2 an Y f8
 else
 if f8.bf==5 then
 I8 a2 an Y f8
 else
 V I
def aOi {fH} (kV:KK GQ sE fH) (n:Nat):KK (xN []) sE (akg fH n):=λ_ _ r h=>ie h (λc0 h=>be h λ_ fN h=>be h λ_ iB h=>let zA:SE:=[bP c0,(1,.ord [0,1,2,4,5,6,3,7,8,9]),AM (aFd n fN),iX (aFd n iB)];ie h (λc1 h=>let zB:SE:=dk zA [bP c1];ie h (λc2 h=>ie h (λc3 h=>ie h (λc4 h=>bq h zB [aZ c2,bk c3,aZ c4]) λc4 h=>bq h zB [aZ c2,bk c3,aZ c4]) λc3 h=>bq h zB [aZ c2,bk c3]) λc2 h=>bq h zB [aZ c2]) λc1 h=>bq h zA [bP c1]) λc0 h=>ie h (λc1 h=>ra (ayq kV n h) [bP c0,aV c1]) λc1 h=>let zA:SE:=[bP c0,aV c1];ie h (λc2 h=>cB (ayq kV n h) zA [aV c2]) λc2 h=>let zB:SE:=dk zA [aV c2];ie h (λc3 h=>ie h (λc4 h=>bq h zB [aV c3,bk c4]) λc4 h=>cB (ahf kV n h) zB [aV c3,bk c4]) λc3 h=>ie h (λc4 h=>cB (ahf kV n h) zB [aV c3,aV c4]) λc4 h=>ie h (λc5 h=>cB (ahf kV n h) zB [aV c3,aV c4,aV c5]) λc5 h=>bq h zB [aV c3,aV c4,aV c5]
def xL:Nat->mo->aj->Z Bool
 |0,_,_=>G
 |n+1,k0,p1=>akg (xL n) n k0 p1
def aFr:∀n:Nat,KK GQ sE (xL n)
 |0=>λ_ _ _ h=>nz h
 |n+1=>λ_ _ _ h=>ca (X:=aow) (aOi (aFr n) n h)
def yz:=fx E0 Tryz.f46 []
def A46:=Ax yz dR bC
def atq:Z Int:=
 (aiG a j).bind λx4=>if !x4 then
 V 1
 else
 (aiG a af).bind λx9=>if !x9 then
 V 1
 else
 (Y6 a am 1 24).bind λgd=>if !gd.1 then
 V 2
 else
 (xL a (mo.mk j af) am).bind λiP=>if !iP then
 V 50
 else
 V 0
def aSD:KK (A46 []) sC (atq a):=λ_ _ _ r h=>be h λ_ iF h=>let zA:SE:=[j3 (aFt a iF)];ie h (λc0 h=>bq h zA [aB c0]) λc0 h=>be h λ_ iS h=>let zB:SE:=dk zA [aB c0,im (aFt a iS)];ie h (λc1 h=>bq h zB [aB c1]) λc1 h=>be h λ_ iB h=>let zC:SE:=dk zB [aB c1,(4,.call (aFs a iB) [(7,2)] [])];ie h (λc2 h=>bq h zC [aB c2]) λc2 h=>be h λ_ o6 h=>let zD:SE:=dk zC [aB c2,j2 (aFr a o6)];ie h (λc3 h=>bq h zD [aB c3]) λc3 h=>bq h zD [aB c3]
def F46:=atq
def ev46:KK (Cx E0 46 dR bC) sC (F46 a):=λ_ _ _ _ h=>ca (X:=yz) (aSD a h)
def fT:=fx E0 Tryz.f15 []
def yv:=Ax fT dR bC
def aex:LS:=⟨[aX 1,(7,.slice 3 1 j.length (dJ j)),(58,.slice 44 5 t.length (dF t)),(59,iI o),(60,iI x),(69,.slice 107 13 y.length (dP y)),(70,iI m),(71,iI s)],[(1,iU (cI w))]⟩
def DF:LS:=⟨[aX 1,(58,.slice 44 5 t.length (dF t)),(59,iI o),(60,iI x)],[(1,iU (cI w))]⟩
def aew:LS:=⟨[],[]⟩
def acC (eO:MV) (back:YO) (n:Nat) (t16:bw) (t17 t18:Int) (b1:ae):Z Int:=
 if iL (t18<t17) then
 (idx t16 t18).bind λx2=>if iL (8<(x2.ag.length:Int)) then
 V 2
 else
 if iL (4<(x2.ar.length:Int)) then
 V 2
 else
 if iL (4<(x2.aL.length:Int)) then
 V 2
 else
 back t16 t17 (aW (t18+1)) b1
 else
 eO b1
def aTZ {eO} (iD:KK (yv [1,1,1]) tV eO) {back} (aK:KK (yv [0,1,0,1,1]) Hh back) (n:Nat):KK (yv [0,1,0,1,1]) Hh (acC eO back n):=λ_ _ _ _ r h=>ie h (λc0 h=>be h λ_ di h=>let zA:SE:=[aB c0,(0,cm.idx di)];ie h (λc1 h=>bq h zA [dg c1]) λc1 h=>ie h (λc2 h=>bq h zA [dg c1,bk c2]) λc2 h=>ie h (λc3 h=>bq h zA [dg c1,bk c2,bP c3]) λc3 h=>cB (aK h) zA [dg c1,bk c2,bP c3]) λc0 h=>ra (iD h) [aB c0]
def Pw (eO:MV):Nat->bw->Int->Int->ae->Z Int
 |0=>dv.z
 |n+1=>acC eO (Pw eO n) n
def aEt {eO} (iD:KK (yv [1,1,1]) tV eO):∀n:Nat,KK (yv [0,1,0,1,1]) Hh (Pw eO n)
 |0=>KC.h
 |n+1=>aTZ iD (aEt iD n) n
def acB (back:aP->bw->Int->Int->br->Int->Int->ae->Z Int) (n:Nat) (L4:aP) (t58:bw) (t59 t60:Int) (t69:br) (t70 t71:Int) (b1:ae):Z Int:=
 if iL (t71<t70) then
 (idx t69 t71).bind λx2=>(F46 n L4 [] x2).bind λx9=>if x9 !=0 then
 V x9
 else
 back L4 t58 t59 t60 t69 t70 (aW (t71+1)) b1
 else
 cW t58 t59 t60 b1
def aTY {bh} (cF:KK (yv (aI 3887)) DF bh) {back} (aK:KK (yv (aI 95023)) aex back) (n:Nat):KK (yv (aI 95023)) aex (acB bh back n):=λ_ _ _ _ _ _ _ _ r h=>ie h (λc0 h=>be h λ_ di h=>be h λ_ iS h=>let zA:SE:=[aB c0,(0,eR.idx di),mw (ev46 n iS)];ie h (λc1 h=>bq h zA [aQ c1]) λc1 h=>cB (aK h) zA [aQ c1]) λc0 h=>ra (cF h) [aB c0]
def Pv (bh:YO):Nat->aP->bw->Int->Int->br->Int->Int->ae->Z Int
 |0=>dv.z
 |n+1=>acB bh (Pv bh n) n
def aEs {bh} (cF:KK (yv (aI 3887)) DF bh):∀n:Nat,KK (yv (aI 95023)) aex (Pv bh n)
 |0=>KC.h
 |n+1=>aTY cF (aEs cF n) n
def acA (n:Nat) (t58:bw) (t59 t60:Int) (b1:ae):Z Int:=
 cW t58 t59 (aW (t60+1)) b1
def aTX {bn} (cM:KK (yv (aI 175)) DF bn) (n:Nat):KK (yv (aI 3887)) DF (acA bn n):=λ_ _ _ _ r h=>ra (cM h) []
def acz:Z Int:=
 if iL (d1<d0) then
 (idx dO d1).bind λx3=>(F45 ch d8 d1).bind λdN=>Pv (acA cW ch) ch dN dO d0 d1 x3.aL (x3.aL.length:Int) 0 d8
 else
 cz
def aTW {db} (fh:KK (yv [1,1,1,1,1]) aew db) {back} (aK:KK (yv (aI 175)) DF back) (n:Nat):KK (yv (aI 175)) DF (acz db back n):=λ_ _ _ _ r h=>ie h (λc0 h=>be h λ_ eM h=>be h λdN fN h=>ra (aEs (aTX aK n) n h) [aB c0,(1,cm.idx eM),(6,.call (aBr n fN) [] [(67,bA)]),(5,R3.er 67 dN)]) λc0 h=>ra (fh h) [aB c0]
def Kr (db:Z Int):Nat->bw->Int->Int->ae->Z Int
 |0=>dv.z
 |n+1=>acz db (Kr db n) n
def aEr {db} (fh:KK (yv [1,1,1,1,1]) aew db):∀n:Nat,KK (yv (aI 175)) DF (Kr db n)
 |0=>KC.h
 |n+1=>aTW fh (aEr fh n) n
def UU (n:Nat):Z Int:=
 V 0
def aTV:KK (yv [1,1,1,1,1]) aew (UU a):=λr h=>rr h []
def acy:Z Int:=
 if iL (i.ay<0) then
 V 70
 else
 if iL (1000<i.ay) then
 V 70
 else
 (F43 a i).bind λdN=>if !dN then
 V 70
 else
 (F44 a i).bind λiQ=>if !iQ then
 V 70
 else
 Kr (UU a) a i.ah (i.ah.length:Int) 0 i
def aTU:KK (yv [1,1,1]) tV (acy a):=λ_ r h=>ie h (λc0 h=>rr h [aQ c0]) λc0 h=>ie h (λc1 h=>rr h [aQ c0,aZ c1]) λc1 h=>be h λ_ fN h=>let zA:SE:=[aQ c0,aZ c1,j3 (ev43 a fN)];ie h (λc2 h=>bq h zA [aB c2]) λc2 h=>be h λ_ iJ h=>let zB:SE:=dk zA [aB c2,j3 (ev44 a iJ)];ie h (λc3 h=>bq h zB [aB c3]) λc3 h=>cB (aEr (aTV a) a h) zB [aB c3]
def atG:Z Int:=
 if iL (8<(i.ah.length:Int)) then
 V 2
 else
 Pw (acy a) a i.ah (i.ah.length:Int) 0 i
def aTT:KK (yv []) uz (atG a):=λ_ r h=>ie h (λc0 h=>rr h [bP c0]) λc0 h=>ra (aEt (aTU a) a h) [bP c0]
def IP:=atG
def aqA:KK (Cx E0 15 dR bC) uz (IP a):=λ_ _ h=>ca (X:=fT) (aTT a h)
def x64:=fx E0 Tryz.f64 []
def A64:=Ax x64 dR bC
def aur:LS:=⟨[(0,.agg (cI i)),(1,bH g)],[]⟩
def ati:Z Int:=
 (IP a i).bind λx4=>if x4 !=0 then
 V x4
 else
 if g !=1 then
 if g !=2 then
 if g !=3 then
 V 1
 else
 V 0
 else
 V 0
 else
 V 0
def aSg:KK (A64 []) aur (ati a):=λ_ _ r h=>be h λ_ iF h=>let zA:SE:=[j3 (aqA a iF)];ie h (λc0 h=>bq h zA [aQ c0]) λc0 h=>let zB:SE:=dk zA [aQ c0];ie h (λc1 h=>ie h (λc2 h=>ie h (λc3 h=>bq h zB [aV c1,aQ c2,aZ c3]) λc3 h=>bq h zB [aV c1,aQ c2,aZ c3]) λc2 h=>bq h zB [aV c1,aQ c2]) λc1 h=>bq h zB [aV c1]
def F64:=ati
def ev64:KK (Cx E0 64 dR bC) aur (F64 a):=λ_ _ _ h=>ca (X:=x64) (aSg a h)
def p8:=fx E0 Tryz.f65 []
def A65:=Ax p8 dR bC
def adK:LS:=⟨[(3,iI b),(7,.slice 68 1 cw.length (re cw)),(8,iI bJ),(9,iI cy)],[]⟩
def adJ:LS:=⟨[(3,bH b)],[]⟩
def R8:LS:=⟨[(0,.agg (rD ci))],[]⟩
def abI (aA:Wf6) (back:Int->cJ->Int->Int->Z Int) (n:Nat) (n3:Int) (t7:cJ) (t8 t9:Int):Z Int:=
 if iL (t9<t8) then
 (idx t7 t9).bind λx2=>back (aW (n3+(x2.length:Int))) t7 t8 (aW (t9+1))
 else
 aA n3
def aSf {aA} (aU:KK (A65 [1,1,1]) adJ aA) {back} (aK:KK (A65 [0,1,0,1,1]) adK back) (n:Nat):KK (A65 [0,1,0,1,1]) adK (abI aA back n):=λ_ _ _ _ r h=>ie h (λc0 h=>be h λ_ di h=>ra (aK h) [aB c0,(0,vh.idx di)]) λc0 h=>ra (aU h) [aB c0]
def Pf (aA:Wf6):Nat->Int->cJ->Int->Int->Z Int
 |0=>dv.z
 |n+1=>abI aA (Pf aA n) n
def aDN {aA} (aU:KK (A65 [1,1,1]) adJ aA):∀n:Nat,KK (A65 [0,1,0,1,1]) adK (Pf aA n)
 |0=>KC.h
 |n+1=>aSf aU (aDN aU n) n
def abH (n:Nat) (n3:Int):Z Int:=
 V n3
def aSe:KK (A65 [1,1,1]) adJ (abH a):=λ_ r h=>rr h []
def ath:Z Int:=
 Pf (abH a) a 0 ci.ah (ci.ah.length:Int) 0
def aSd:KK (A65 []) R8 (ath a):=λ_ r h=>ra (aDN (aSe a) a h) []
def F65:=ath
def ev65:KK (Cx E0 65 dR bC) R8 (F65 a):=λ_ _ h=>ca (X:=p8) (aSd a h)
def x66:=fx E0 Tryz.f66 []
def K9:=Ax x66 cP bC
def aJl:LS:=⟨[(3,iI b),aX 9,(10,iI d),aX 11,(12,.bool L),(13,.bool bu),(41,.slice 38 3 cV.length (dm cV)),(42,iI bb),(43,iI ce)],[(9,gP (jv cg)),(11,xv (gV dp))]⟩
def aJk:LS:=⟨[(3,iI b),aX 9,(10,iI d),aX 11,(12,.bool L),(41,.slice 38 3 ad.length (dm ad)),(42,iI ak),(43,iI W)],[(9,gP (jv ap)),(11,xv (gV az))]⟩
def Lv:LS:=⟨[(3,iI b),aX 9,(41,.slice 38 3 A.length (dm A)),(42,iI D),(43,iI B)],[(9,gP (jv T))]⟩
def adI:LS:=⟨[],[]⟩
def aJj:LS:=⟨[(1,iI b),(2,.slice 38 3 A.length (dm A)),(3,iI D),aX 4,(29,.bool L)],[(4,iU (cI f9))]⟩
def auq:LS:=⟨[(0,.agg (cI i)),(1,iI g),(2,.slice 38 3 A.length (dm A)),(3,iI D)],[]⟩
def T8 (n:Nat) (ed i10:Int) (tI LO:Bool) (t41:bt) (t42 t43:Int) (b9:ai) (fZ:aS):Z Bool:=
 (idx b9.ag i10).bind λx6=>if fZ.aD !=x6.aD then
 if !tI then
 if !LO then
 V I
 else
 cR ed t41 t42 (aW (t43+1)) b9
 else
 cR ed t41 t42 (aW (t43+1)) b9
 else
 cR ed t41 t42 (aW (t43+1)) b9
def arj {bh} (cF:KK (K9 (aI 175)) Lv bh) (n:Nat):KK (K9 (aI 127791)) aJl (T8 bh n):=λ_ _ _ _ _ _ _ _ _ r h=>be h λ_ jL h=>let zA:SE:=[(5,eW.idx jL)];ie h (λc0 h=>ie h (λc1 h=>ie h (λc2 h=>bq h zA [aQ c0,aQ c1,aZ c2]) λc2 h=>cB (cF h) zA [aQ c0,aQ c1,aZ c2]) λc1 h=>cB (cF h) zA [aQ c0,aQ c1]) λc0 h=>cB (cF h) zA [aQ c0]
def PI (tI:Bool) (t41:bt) (t42 t43:Int) (b9:ai) (fZ:aS):Z Bool:=
 if fZ.aD==1 then
 if cU==3 then
 T8 cR cT cU bb tI (!iL (bb<b9.aH)) t41 t42 t43 b9 fZ
 else
 T8 cR cT cU bb tI I t41 t42 t43 b9 fZ
 else
 T8 cR cT cU bb tI I t41 t42 t43 b9 fZ
def ari {bh} (cF:KK (K9 (aI 175)) Lv bh) (n:Nat):KK (K9 (aI 62255)) aJk (PI bh n):=λ_ _ _ _ _ _ _ _ r h=>ie h (λc0 h=>ie h (λc1 h=>ra (arj cF n h) [aQ c0,aQ c1]) λc1 h=>ra (arj cF n h) [aQ c0,aQ c1]) λc0 h=>ra (arj cF n h) [aQ c0]
def abG:Z Bool:=
 if iL (ce<bb) then
 (idx cV ce).bind λx3=>(asC cT x3).bind λeN=>if !eN then
 V I
 else
 if x3.aD==2 then
 if cU !=1 then
 PI cR cT cU ce (!iL (ce<cg.aH)) cV bb ce cg x3
 else
 PI cR cT cU ce I cV bb ce cg x3
 else
 PI cR cT cU ce I cV bb ce cg x3
 else
 K
def aSc {bn} (cM:KK (K9 [1,1,1,1,1]) adI bn) {back} (aK:KK (K9 (aI 175)) Lv back) (n:Nat):KK (K9 (aI 175)) Lv (abG bn back n):=λ_ _ _ _ _ r h=>ie h (λc0 h=>be h λ_ eM h=>be h λ_ iK h=>let zA:SE:=[aB c0,(1,jm.idx eM),mw (aFn n iK)];ie h (λc1 h=>bq h zA [aB c1]) λc1 h=>ie h (λc2 h=>ie h (λc3 h=>cB (ari aK n h) zA [aB c1,aQ c2,aQ c3]) λc3 h=>cB (ari aK n h) zA [aB c1,aQ c2,aQ c3]) λc2 h=>cB (ari aK n h) zA [aB c1,aQ c2]) λc0 h=>ra (cM h) [aB c0]
def Kj (bn:Z Bool):Nat->Int->bt->Int->Int->ai->Z Bool
 |0=>dv.z
 |n+1=>abG bn (Kj bn n) n
def aDM {bn} (cM:KK (K9 [1,1,1,1,1]) adI bn):∀n:Nat,KK (K9 (aI 175)) Lv (Kj bn n)
 |0=>KC.h
 |n+1=>aSc cM (aDM cM n) n
def T7 (n:Nat):Z Bool:=
 V M
def aSb:KK (K9 [1,1,1,1,1]) adI (T7 a):=λr h=>rr h []
def KA:Z Bool:=
 if L then
 V I
 else
 (idx f9.ah b).bind λx4=>if (A.length:Int) !=(x4.ag.length:Int) then
 V I
 else
 Kj (T7 a) a D A (A.length:Int) 0 x4
def aaZ:KK (K9 [1,0,1]) aJj (KA a):=λ_ _ _ _ _ r h=>ie h (λc0 bE=>by subst c0;exact (rr bE [])) λc0 bE=>by subst c0;exact (be bE λx4 iF bE=>ie bE (λc1 bE=>rr bE [(3,cm.idx iF),iG c1]) λc1 bE=>ra (aDM (aSb a) a bE) [(3,cm.idx iF),iG c1])
def atg:Z Bool:=
 if D !=1 then
 if D !=2 then
 if D !=3 then
 KA a g A D M i
 else
 (Ku a i g).bind λgd=>KA a g A D (!gd) i
 else
 (Ku a i g).bind λiv=>KA a g A D (!iv) i
 else
 (Ku a i g).bind λjd=>KA a g A D (!jd) i
def aSa:KK (K9 []) auq (atg a):=λ_ _ _ _ r h=>ie h (λc0 h=>ie h (λc1 h=>ie h (λc2 h=>ra (aaZ a h) [aZ c0,aQ c1,aZ c2]) λc2 h=>be h λ_ iB h=>ra (aaZ a h) [aZ c0,aQ c1,aZ c2,j2 (JX a iB)]) λc1 h=>be h λ_ iC h=>ra (aaZ a h) [aZ c0,aQ c1,AM (JX a iC)]) λc0 h=>be h λ_ hI h=>ra (aaZ a h) [aZ c0,yM (JX a hI)]
def F66:=atg
def aBp:KK (Cx E0 66 cP bC) auq (F66 a):=λ_ _ _ _ _ h=>ca (X:=x66) (aSa a h)
def x187:=fx E0 Tryz.f187 []
def A187:=Ax x187 cP bC
def N3:LS:=⟨[(0,bH b)],[]⟩
def ajd (n:Nat) (x0:Int):Z Bool:=
 V (x0 !=x0)
def aKV:KK (A187 []) N3 (ajd a):=λ_ r h=>rr h []
def asm:=ajd
def aEN:KK (Cx E0 187 cP bC) N3 (asm a):=λ_ _ h=>ca (X:=x187) (aKV a h)
def x160:=fx E0 Tryz.f160 []
def A160:=Ax x160 dR bC
def N5:LS:=⟨[(0,bH b),(1,bH d)],[]⟩
def ajx:Z Int:=
 (asm a b).bind λx3=>(asm a d).bind λx7=>if x3 then
 if x7 then
 V 0
 else
 V (-1)
 else
 if x7 then
 V 1
 else
 if iL (b<d) then
 V (-1)
 else
 if iL (d<b) then
 V 1
 else
 V 0
def aLU:KK (A160 []) N5 (ajx a):=λ_ _ r h=>be h λ_ eM h=>be h λ_ iE h=>let zA:SE:=[im (aEN a eM),im (aEN a iE)];ie h (λc0 bE=>by subst c0;exact (ie bE (λc1 nM=>by subst c1;exact (rr nM zA)) λc1 nM=>by subst c1;exact (rr nM zA))) λc0 bE=>by subst c0;exact (ie bE (λc1 nM=>by subst c1;exact (rr nM zA)) λc1 nM=>by subst c1;exact (ie nM (λc2 nM=>bq nM zA [bP c2]) λc2 nM=>ie nM (λc3 nM=>bq nM zA [bP c2,aQ c3]) λc3 nM=>bq nM zA [bP c2,aQ c3]))
def asr:=ajx
def aQj:KK (Cx E0 160 dR bC) N5 (asr a):=λ_ _ _ h=>ca (X:=x160) (aLU a h)
def x188:=fx E0 Tryz.f188 []
def A188:=Ax x188 cP bC
def ajc (n:Nat) (x0:Int):Z Bool:=
 V (x0 !=x0)
def aKU:KK (A188 []) N3 (ajc a):=λ_ r h=>rr h []
def asl:=ajc
def aEM:KK (Cx E0 188 cP bC) N3 (asl a):=λ_ _ h=>ca (X:=x188) (aKU a h)
def x161:=fx E0 Tryz.f161 []
def A161:=Ax x161 dR bC
def ajw:Z Int:=
 (asl a b).bind λx3=>(asl a d).bind λx7=>if x3 then
 if x7 then
 V 0
 else
 V (-1)
 else
 if x7 then
 V 1
 else
 if iL (b<d) then
 V (-1)
 else
 if iL (d<b) then
 V 1
 else
 V 0
def aLT:KK (A161 []) N5 (ajw a):=λ_ _ r h=>be h λ_ eM h=>be h λ_ iE h=>let zA:SE:=[im (aEM a eM),im (aEM a iE)];ie h (λc0 bE=>by subst c0;exact (ie bE (λc1 nM=>by subst c1;exact (rr nM zA)) λc1 nM=>by subst c1;exact (rr nM zA))) λc0 bE=>by subst c0;exact (ie bE (λc1 nM=>by subst c1;exact (rr nM zA)) λc1 nM=>by subst c1;exact (ie nM (λc2 nM=>bq nM zA [bP c2]) λc2 nM=>ie nM (λc3 nM=>bq nM zA [bP c2,aQ c3]) λc3 nM=>bq nM zA [bP c2,aQ c3]))
def asq:=ajw
def aQi:KK (Cx E0 161 dR bC) N5 (asq a):=λ_ _ _ h=>ca (X:=x161) (aLT a h)
def x189:=fx E0 Tryz.f189 []
def A189:=Ax x189 dR bC
def N2:LS:=⟨[(0,.str g6),(1,.str dq)],[]⟩
def ajb:Z Int:=
 (asi a g6 dq).bind λx4=>V x4
def aKT:KK (A189 []) N2 (ajb a):=λ_ _ r h=>be h λ_ iF h=>rr h [j3 (aPW a iF)]
def aCp:=ajb
def aQb:KK (Cx E0 189 dR bC) N2 (aCp a):=λ_ _ _ h=>ca (X:=x189) (aKT a h)
def x162:=fx E0 Tryz.f162 []
def A162:=Ax x162 dR bC
def ajv:Z Int:=
 (aCp a g6 dq).bind λx4=>V x4
def aLS:KK (A162 []) N2 (ajv a):=λ_ _ r h=>be h λ_ iF h=>rr h [j3 (aQb a iF)]
def aCt:=ajv
def aQh:KK (Cx E0 162 dR bC) N2 (aCt a):=λ_ _ _ h=>ca (X:=x162) (aLS a h)
def x116:=fx E0 Tryz.f116 []
def A116:=Ax x116 dR bC
def Og:LS:=⟨(Gq (gV az) (gV dp)),[]⟩
def akc:Z Int:=
 if ((az.aD==dp.aD)&&((az.dh==dp.dh)&&((iL (az.cG=dp.cG))&&M))) then
 V 0
 else
 (asr a az.aD dp.aD).bind λdN=>if dN !=0 then
 V dN
 else
 (asq a az.dh dp.dh).bind λlx=>if lx !=0 then
 V lx
 else
 (aCt a az.cG dp.cG).bind λx29=>V x29
def aNR:KK (A116 []) Og (akc a):=λ_ _ r h=>ie h (λc0 h=>rr h [bP c0]) λc0 h=>be h λ_ fN h=>let zA:SE:=[bP c0,j2 (aQj a fN)];ie h (λc1 h=>bq h zA [aQ c1]) λc1 h=>be h λ_ jM h=>let zB:SE:=dk zA [aQ c1,j2 (aQi a jM)];ie h (λc2 h=>bq h zB [aQ c2]) λc2 h=>be h λ_ QW h=>bq h zB [aQ c2,j2 (aQh a QW)]
def asB:=akc
def aQE:KK (Cx E0 116 dR bC) Og (asB a):=λ_ _ _ h=>ca (X:=x116) (aNR a h)
def x115:=fx E0 Tryz.f115 []
def RM:=Ax x115 dR bC
def XP:LS:=⟨[(0,.slice 38 3 A.length (dm A)),(1,.slice 38 3 ad.length (dm ad)),(2,.fn 116 [] []),(11,.slice 38 3 cV.length (dm cV)),(12,iI bb),(13,iI ce)],[]⟩
def XO:LS:=⟨[(0,.slice 38 3 A.length (dm A)),(1,.slice 38 3 ad.length (dm ad))],[]⟩
def alG:LS:=⟨[(0,.slice 38 3 A.length (dm A)),(1,.slice 38 3 ad.length (dm ad)),(2,.fn 116 [] [])],[]⟩
def VF (aA:arL) (back:bt->bt->bt->Int->Int->Z Int) (n:Nat) (Bj Bi t11:bt) (t12 t13:Int):Z Int:=
 if iL (t13<t12) then
 (idx t11 t13).bind λx3=>if !iL (t13<(Bi.length:Int)) then
 V 1
 else
 (idx Bi t13).bind λfT=>(asB n x3 fT).bind λiP=>if iP !=0 then
 V iP
 else
 back Bj Bi t11 t12 (aW (t13+1))
 else
 aA Bj Bi
def aNU {aA} (aU:KK (RM [1,1]) XO aA) {back} (aK:KK (RM [0,1,0,1]) XP back) (n:Nat):KK (RM [0,1,0,1]) XP (VF aA back n):=λ_ _ _ _ _ r h=>ie h (λc0 h=>be h λ_ eM h=>let zA:SE:=[aB c0,(1,jm.idx eM)];ie h (λc1 h=>bq h zA [iO c1]) λc1 h=>be h λ_ kU h=>be h λ_ o6 h=>let zB:SE:=dk zA [iO c1,(2,jm.idx kU),AM (aQE n o6)];ie h (λc2 h=>bq h zB [aQ c2]) λc2 h=>cB (aK h) zB [aQ c2]) λc0 h=>ra (aU h) [aB c0]
def ES (aA:arL):Nat->bt->bt->bt->Int->Int->Z Int
 |0=>dv.z
 |n+1=>VF aA (ES aA n) n
def axk {aA} (aU:KK (RM [1,1]) XO aA):∀n:Nat,KK (RM [0,1,0,1]) XP (ES aA n)
 |0=>KC.h
 |n+1=>aNU aU (axk aU n) n
def NA (n:Nat) (Bj Bi:bt):Z Int:=
 if iL ((Bj.length:Int)<(Bi.length:Int)) then
 V (-1)
 else
 V 0
def aNT:KK (RM [1,1]) XO (NA a):=λ_ _ r h=>ie h (λc0 h=>rr h [bk c0]) λc0 h=>rr h [bk c0]
def azt:Z Int:=
 ES (NA a) a A ad A (A.length:Int) 0
def aNS:KK (RM []) alG (azt a):=λ_ _ r h=>ra (axk (aNT a) a h) []
def F115:=azt
def aQF:KK (Cx E0 115 dR bC) alG (F115 a):=λ_ _ _ h=>ca (X:=x115) (aNS a h)
def x67:=fx E0 Tryz.f67 []
def A67:=Ax x67 dR bC
def vo:LS:=⟨[(0,.slice 38 3 A.length (dm A)),(1,.slice 38 3 ad.length (dm ad))],[]⟩
def aGx:Z Int:=
 (F115 a A ad).bind λx4=>V x4
def aRZ:KK (A67 []) vo (aGx a):=λ_ _ r h=>be h λ_ iF h=>rr h [j3 (aQF a iF)]
def F67:=aGx
def Q7:KK (Cx E0 67 dR bC) vo (F67 a):=λ_ _ _ h=>ca (X:=x67) (aRZ a h)
def aaw:AV:=.slice 38 3 A.length (dm A)
def x68:=fx E0 Tryz.f68 []
def A68:=Ax x68 aaw bC
def Hi:LS:=⟨[(0,.agg (cI i)),(1,iI g),(2,.slice 38 3 A.length (dm A))],[]⟩
def atf (n:Nat) (s0:ae) (dt:Int) (lB:bt):Z bt:=
 if iL (dt<0) then
 V []
 else
 if !iL (dt<(s0.ah.length:Int)) then
 V []
 else
 (idx s0.ah dt).bind λgd=>(cut lB G (V (if 0<(if (lB.length:Int)<gd.aH then (lB.length:Int) else gd.aH) then (if (lB.length:Int)<gd.aH then (lB.length:Int) else gd.aH) else 0))).bind λHd=>V Hd
def aRY:KK (A68 []) Hi (atf a):=λ_ _ _ r h=>ie h (λc0 h=>rr h [aZ c0,(3,.tU 6 (.sl 0 38 3 0 []))]) λc0 h=>ie h (λc1 h=>rr h [aZ c0,bP c1,(2,.tU 6 (.sl 0 38 3 0 []))]) λc1 h=>be h λ_ iB h=>be h λ_ Af h=>rr h [aZ c0,bP c1,(5,cm.idx iB),(6,jm.cut Af)]
def F68:=atf
def YC:KK (Cx E0 68 aaw bC) Hi (F68 a):=λ_ _ _ _ h=>ca (X:=x68) (aRY a h)
def s8:=fx E0 Tryz.f26 []
def Ge:=Ax s8 dR bC
def aep:LS:=⟨[(1,iI b),aX 3,(8,iI d),(9,.slice 70 1 q.length (l9 q)),(29,.slice 68 1 cw.length (re cw)),(30,iI bJ),(31,iI cy),(36,.slice 70 1 dc.length (l9 dc)),(37,iI co),(38,iI df)],[(3,iU (cI dn))]⟩
def DC:LS:=⟨[(1,iI b),aX 3,(29,.slice 68 1 cw.length (re cw)),(30,iI bJ),(31,iI cy)],[(3,iU (cI bO))]⟩
def aeo:LS:=⟨[],[]⟩
def auH:LS:=⟨[(0,.agg (cI i)),(1,bH g),(2,.agg (rD ci))],[]⟩
def acp (back:Int->Int->bK->cJ->Int->Int->bK->Int->Int->ae->Z Int) (n:Nat) (fX t8:Int) (Ol:bK) (t29:cJ) (t30 t31:Int) (t36:bK) (t37 t38:Int) (b3:ae):Z Int:=
 if iL (t38<t37) then
 (idx t36 t38).bind λx3=>(F66 n b3 t8 x3 fX).bind λjd=>if !jd then
 V 80
 else
 if iL (0<t38) then
 (idx Ol (aW (t38-1))).bind λiP=>(F68 n b3 t8 iP).bind λx26_=>(F68 n b3 t8 x3).bind λqY=>(F67 n x26_ qY).bind λkC=>if !iL (kC<0) then
 V 80
 else
 back fX t8 Ol t29 t30 t31 t36 t37 (aW (t38+1)) b3
 else
 back fX t8 Ol t29 t30 t31 t36 t37 (aW (t38+1)) b3
 else
 cD fX t29 t30 t31 b3
def aTE {aA} (aU:KK (Ge (aI 3887)) DC aA) {back} (aK:KK (Ge (aI 45871)) aep back) (n:Nat):KK (Ge (aI 45871)) aep (acp aA back n):=λ_ _ _ _ _ _ _ _ _ _ r h=>ie h (λc0 h=>be h λ_ eM h=>be h λ_ hI h=>let zA:SE:=[aB c0,(1,na.idx eM),yM (aBp n hI)];ie h (λc1 h=>bq h zA [aB c1]) λc1 h=>let zB:SE:=dk zA [aB c1,(0,.ord [0,1,2,3,4,5,6,7,8,9,11,12,13,10,14,15,16,17])];ie h (λc2 h=>be h λ_ o6 h=>be h λ_ rQ h=>be h λ_ rO h=>be h λ_ pI h=>let zC:SE:=dk zB [aV c2,(6,na.idx o6),j2 (YC n rQ),iX (YC n rO),iX (Q7 n pI)];ie h (λc3 h=>bq h zC [aB c3]) λc3 h=>cB (aK h) zC [aB c3]) λc2 h=>cB (aK h) zB [aV c2]) λc0 h=>ra (aU h) [aB c0]
def Pr (aA:arK):Nat->Int->Int->bK->cJ->Int->Int->bK->Int->Int->ae->Z Int
 |0=>dv.z
 |n+1=>acp aA (Pr aA n) n
def aEl {aA} (aU:KK (Ge (aI 3887)) DC aA):∀n:Nat,KK (Ge (aI 45871)) aep (Pr aA n)
 |0=>KC.h
 |n+1=>aTE aU (aEl aU n) n
def aco (n:Nat) (fX:Int) (t29:cJ) (t30 t31:Int) (b3:ae):Z Int:=
 cD fX t29 t30 (aW (t31+1)) b3
def aTD {bh} (cF:KK (Ge (aI 175)) DC bh) (n:Nat):KK (Ge (aI 3887)) DC (aco bh n):=λ_ _ _ _ _ r h=>ra (cF h) []
def acn (t29:cJ) (t30 t31:Int) (b3:ae):Z Int:=
 if iL (t31<t30) then
 (idx t29 t31).bind λx3=>Pr (aco cD cE) cE cc t31 x3 t29 t30 t31 x3 (x3.length:Int) 0 b3
 else
 cz
def aTC {bn} (cM:KK (Ge [1,1,1,1,1]) aeo bn) {back} (aK:KK (Ge (aI 175)) DC back) (n:Nat):KK (Ge (aI 175)) DC (acn bn back n):=λ_ _ _ _ _ r h=>ie h (λc0 h=>be h λ_ eM h=>ra (aEl (aTD aK n) n h) [aB c0,(1,vh.idx eM)]) λc0 h=>ra (cM h) [aB c0]
def Kp (bn:Z Int):Nat->Int->cJ->Int->Int->ae->Z Int
 |0=>dv.z
 |n+1=>acn bn (Kp bn n) n
def aEk {bn} (cM:KK (Ge [1,1,1,1,1]) aeo bn):∀n:Nat,KK (Ge (aI 175)) DC (Kp bn n)
 |0=>KC.h
 |n+1=>aTC cM (aEk cM n) n
def Uj (n:Nat):Z Int:=
 V 0
def aTB:KK (Ge [1,1,1,1,1]) aeo (Uj a):=λr h=>rr h []
def atA:Z Int:=
 (F64 a i g).bind λx6=>if x6 !=0 then
 V x6
 else
 (F65 a ci).bind λjd=>if iL (512<jd) then
 V 2
 else
 if (ci.ah.length:Int) !=(i.ah.length:Int) then
 V 80
 else
 Kp (Uj a) a g ci.ah (ci.ah.length:Int) 0 i
def aTA:KK (Ge []) auH (atA a):=λ_ _ _ r h=>be h λ_ jL h=>let zA:SE:=[mw (ev64 a jL)];ie h (λc0 h=>bq h zA [aQ c0]) λc0 h=>be h λ_ hI h=>let zB:SE:=dk zA [aQ c0,sf (ev65 a hI)];ie h (λc1 h=>bq h zB [aB c1]) λc1 h=>ie h (λc2 h=>bq h zB [aB c1,dg c2]) λc2 h=>cB (aEk (aTB a) a h) zB [aB c1,dg c2]
def F26:=atA
def ev26:KK (Cx E0 26 dR bC) auH (F26 a):=λ_ _ _ _ h=>ca (X:=s8) (aTA a h)
def x147:=fx E0 Tryz.f147 []
def A147:=Ax x147 dR bC
def alw:LS:=⟨[(0,bH b)],[]⟩
def azb (n:Nat) (c0:Int):Z Int:=
 V c0
def aMv:KK (A147 []) alw (azb a):=λ_ r h=>rr h []
def aiz:=azb
def aFe:KK (Cx E0 147 dR bC) alw (aiz a):=λ_ _ h=>ca (X:=x147) (aMv a h)
def x146:=fx E0 Tryz.f146 []
def KL:=Ax x146 Hs bC
def RA:=Cx E0 146 Hs bC
def Xd:LS:=⟨[(1,.fn 147 [] []),aX 4,aX 5,(33,.slice 107 13 y.length (dP y)),(34,iI m),(35,iI s)],[(4,kM (fa am .cq)),(5,kM (fa f8 (.ms 45 13 0 O.length))),(45,Gs O)]⟩
def Xc:LS:=⟨[aX 4,aX 5],[(4,kM (fa p .cq)),(5,kM (fa am (.ms 45 13 0 O.length))),(45,Gs O)]⟩
def alx (b4 b5:aj):LS:=⟨[(1,.fn 147 [] []),aX 2,aX 4,aX 5],[(2,kM (fR p)),(4,q2_),(5,kM (fR b5))]⟩
def yb:LS:=⟨[(0,.agg (fR p)),(1,.fn 147 [] [])],[]⟩
def U5 (back:br->Int->Int->aj->aj->br->Z aj) (n:Nat) (t33:br) (t34 t35:Int) (b4 b5:aj) (fD:br):Z aj:=
 if iL (t35<t34) then
 (idx t33 t35).bind λx2=>(bz x2).bind λdN=>(app fD [dN]).bind λiv=>back t33 t34 (aW (t35+1)) (ad5 b4.bf b4.fA b4.cO b4.cj []) (ad5 b5.bf b5.fA b5.cO b5.cj iv) iv
 else
 d4 (ad5 b4.bf b4.fA b4.cO b4.cj []) (ad5 b5.bf b5.fA b5.cO b5.cj fD) fD
def aMy {jU} (rq:KK RA yb jU) {aA} (aU:KK (KL (aI 127)) Xc aA) {back} (aK:KK (KL (aI 351)) Xd back) (n:Nat):KK (KL (aI 351)) Xd (U5 jU aA back n):=λ_ _ _ _ _ _ r h=>ie h (λc0 h=>be h λ_ di h=>be h λdN fN h=>be h λ_ iC h=>ra (aK h) [aB c0,(0,eR.idx di),yM (rq fN),(0,.laid (bF (Bx.rows I 107 13) (eR.map [dN]).symm)),(0,eR.jS iC)]) λc0 h=>ra (aU h) [aB c0]
def Ir (jU:O1) (aA:arN):Nat->br->Int->Int->aj->aj->br->Z aj
 |0=>dv.z
 |n+1=>U5 jU aA (Ir jU aA n) n
def awJ {jU} (rq:KK RA yb jU) {aA} (aU:KK (KL (aI 127)) Xc aA):∀n:Nat,KK (KL (aI 351)) Xd (Ir jU aA n)
 |0=>KC.h
 |n+1=>aMy rq aU (awJ rq aU n) n
def U4 (jU:O1) (n:Nat) (b4 b5:aj) (fD:br):Z aj:=
 V (ad5 b5.bf b5.fA b5.cO b5.cj fD)
def aMx {jU} (rq:KK RA yb jU) (n:Nat):KK (KL (aI 127)) Xc (U4 jU n):=λ_ _ fD r h=>rr h [(2,eR.er 45 fD),(0,.oV 4 (.flat 0 (y6 12 [.sl 0 0 0 0 []])))]
def Ns (b4 b5:aj):Z aj:=
 Ir bz (U4 bz bB) bB aO.fArgs (aO.fArgs.length:Int) 0 rV (ad5 b5.bf b5.fA b5.cO b5.cj []) []
def ayl {jU} (rq:KK RA yb jU) (n:Nat):KK (KL [1,1,1,1]) alx (Ns jU n):=λ_ _ _ r h=>ra (awJ rq (aMx rq n) n h) [(6,.born [] [(5,12)] 45 M 107 13)]
def Nr (b4 b5:aj):Z aj:=
 if b5.cj.aD==1 then
 (aiz bB b5.cj.dj).bind λx9=>Ns bz bB aO rV (ad5 b5.bf b5.fA b5.cO (bI.mk b5.cj.aD x9 b5.cj.bj) b5.fArgs)
 else
 Ns bz bB aO rV b5
def ayk {jU} (rq:KK RA yb jU) (n:Nat):KK (KL [1,1,1]) alx (Nr jU n):=λ_ _ _ r h=>ie h (λc0 h=>be h λ_ iS h=>ra (ayl rq n h) [aZ c0,j2 (aFe n iS)]) λc0 h=>ra (ayl rq n h) [aZ c0]
def ajK:Z aj:=
 if aO.cO.aD==1 then
 (aiz bB aO.cO.dj).bind λiv=>Nr bz bB aO rV (ad5 aO.bf aO.fA (bI.mk aO.cO.aD iv aO.cO.bj) aO.cj aO.fArgs)
 else
 Nr bz bB aO rV aO
def aMw {jU} (rq:KK RA yb jU) (n:Nat):KK (KL []) yb (ajK jU n):=λ_ r h=>ie h (λc0 h=>be h λ_ iC h=>ra (ayk rq n h) [iG c0,j2 (aFe n iC)]) λc0 h=>ra (ayk rq n h) [iG c0]
def Ks:Nat->aj->Z aj
 |0,_=>G
 |n+1,p0=>ajK (Ks n) n p0
def aFf:∀n:Nat,KK RA yb (Ks n)
 |0=>λ_ _ h=>nz h
 |n+1=>λ_ _ h=>ca (X:=x146) (aMw (aFf n) n h)
def x159:=fx E0 Tryz.f159 []
def A159:=Ax x159 dR bC
def aHa:LS:=⟨[(0,bH b),(23,.bool L)],[]⟩
def alr:LS:=⟨[(0,bH b),(1,bH d),(2,bH g)],[]⟩
def I0 (n:Nat) (lq:Int) (t23:Bool):Z Int:=
 if t23 then
 V (aW (lq+1))
 else
 V lq
def Tz:KK (A159 (aI 505)) aHa (I0 a):=λ_ _ r h=>ie h (λc0 bE=>by subst c0;exact (rr bE [])) λc0 bE=>by subst c0;exact (rr bE [])
def ajy:Z Int:=
 if b==d then
 V g
 else
 if iL (d<b) then
 if !iL (g<b) then
 V (aW (b-1))
 else
 if !iL (b<g) then
 I0 a b (iL (b<d))
 else
 I0 a b I
 else
 if !iL (b<g) then
 I0 a b (iL (b<d))
 else
 I0 a b I
def aLV:KK (A159 []) alr (ajy a):=λ_ _ _ r h=>ie h (λc0 h=>rr h [aZ c0]) λc0 h=>ie h (λc1 h=>let zA:SE:=[aZ c0,aZ c1];ie h (λc2 h=>bq h zA [aZ c2]) λc2 h=>ie h (λc3 h=>cB (Tz a h) zA [aZ c2,bk c3]) λc3 h=>cB (Tz a h) zA [aZ c2,bk c3]) λc1 h=>ie h (λc2 h=>ra (Tz a h) [aZ c0,aZ c1,bP c2]) λc2 h=>ra (Tz a h) [aZ c0,aZ c1,bP c2]
def ass:=ajy
def aQk:KK (Cx E0 159 dR bC) alr (ass a):=λ_ _ _ _ h=>ca (X:=x159) (aLV a h)
def avk (r:(Int×Int×Bool)):AV:=.dr [bH r.1,bH r.2.1,.bool r.2.2]
def x113:=fx E0 Tryz.f113 []
def A113:=Ax x113 avk bC
def alH:LS:=⟨[(0,.agg (ny C)),(1,bH D),(2,bH B)],[]⟩
def VG:Z (Int×Int×Bool):=
 if C.bf==7 then
 if D==C.av then
 V ((-1),(-1),I)
 else
 if iL (C.av<D) then
 V (aW (D-1),B,M)
 else
 V (D,B,M)
 else
 if C.bf==2 then
 if D==C.av then
 if !iL (B<0) then
 if B==C.aY then
 V (D,(-1),I)
 else
 if iL (C.aY<B) then
 V (D,aW (B-1),M)
 else
 V (D,B,M)
 else
 V (D,B,M)
 else
 V (D,B,M)
 else
 if C.bf==3 then
 if D==C.av then
 if !iL (B<0) then
 (ass a B C.aY C.kr).bind λs8=>V (D,s8,M)
 else
 V (D,B,M)
 else
 V (D,B,M)
 else
 V (D,B,M)
def aNW:KK (A113 []) alH (VG a):=λ_ _ _ r h=>ie h (λc0 h=>ie h (λc1 h=>rr h [dg c0,bk c1]) λc1 h=>ie h (λc2 h=>rr h [dg c0,bk c1,aZ c2]) λc2 h=>rr h [dg c0,bk c1,aZ c2]) λc0 h=>ie h (λc1 h=>let zA:SE:=[dg c0,aV c1];ie h (λc2 h=>let zB:SE:=dk zA [bk c2];ie h (λc3 h=>ie h (λc4 h=>bq h zB [aQ c3,bk c4]) λc4 h=>ie h (λc5 h=>bq h zB [aQ c3,bk c4,aZ c5]) λc5 h=>bq h zB [aQ c3,bk c4,aZ c5]) λc3 h=>bq h zB [aQ c3]) λc2 h=>bq h zA [bk c2]) λc1 h=>let zA:SE:=[dg c0,aV c1];ie h (λc2 h=>ie h (λc3 h=>ie h (λc4 h=>be h λ_ rQ h=>bq h zA [aV c2,bk c3,aQ c4,AM (aQk a rQ)]) λc4 h=>bq h zA [aV c2,bk c3,aQ c4]) λc3 h=>bq h zA [aV c2,bk c3]) λc2 h=>bq h zA [aV c2]
def Y4:=VG
def aFo:KK (Cx E0 113 avk bC) alH (Y4 a):=λ_ _ _ _ h=>ca (X:=x113) (aNW a h)
def x198:=fx E0 Tryz.f198 [1,9000]
def A198:=AxS x198 [1,9000] dR bC
def C198:=CxS E0 198 [1,9000] dR bC
def alh:LS:=⟨[(0,bH b),aX 1],[(1,afc),(9000,lK (bg c (.ms DZ 5 0 c.bW.ah.length)))]⟩
def aiV:Z Int:=
 (Y4 a c.fm c.fm.av b).bind λjd=>V jd.2.1
def aKJ:KK (A198 []) alh (aiV a):=λ_ _ r h=>be h λ_ hI h=>KU h [(11,vD (aFo a hI))]
def Rs:=aiV
def aqy:KK C198 alh (Rs a):=λ_ _ _ h=>caS (X:=x198) (aKJ a h)
def aCF:=fx E0 Tryz.f146 [9000,eQ]
def CY:=AxS aCF [9000,100100] Hs bC
def Kx:=CxS E0 146 [9000,100100] Hs bC
def Qw:LS:=⟨[(1,.fn 198 [] [.loc eQ 0]),aX 4,aX 5,(33,.slice 107 13 y.length (dP y)),(34,iI m),(35,iI s)],[(4,kM (fa am .cq)),(5,kM (fa f8 (.ms 45 13 0 O.length))),(45,Gs O),(9000,lK (bg ax (.ms DZ 5 0 ax.bW.ah.length))),(eQ,afc)]⟩
def Qv:LS:=⟨[aX 4,aX 5],[(4,kM (fa p .cq)),(5,kM (fa am (.ms 45 13 0 O.length))),(45,Gs O),(9000,lK (bg c (.ms DZ 5 0 c.bW.ah.length))),(eQ,afc)]⟩
def aeB (b4 b5:aj):LS:=⟨[(1,.fn 198 [] [.loc eQ 0]),aX 2,aX 4,aX 5],[(2,kM (fR p)),(4,q2_),(5,kM (fR b5)),(9000,lK (bg c (.ms DZ 5 0 c.bW.ah.length))),(eQ,afc)]⟩
def vp:LS:=⟨[(0,.agg (fR p)),(1,.fn 198 [] [.loc eQ 0])],[(9000,lK (bg ax (.ms DZ 5 0 ax.bW.ah.length))),(eQ,afc)]⟩
def PZ (aA:Wf40) (back:br->Int->Int->aJ->aj->aj->br->Z aj) (n:Nat) (t33:br) (t34 t35:Int) (iY:aJ) (b4 b5:aj) (fD:br):Z aj:=
 if iL (t35<t34) then
 (idx t33 t35).bind λx2=>(bs x2 iY).bind λdN=>(app fD [dN]).bind λiv=>back t33 t34 (aW (t35+1)) iY (ad5 b4.bf b4.fA b4.cO b4.cj []) (ad5 b5.bf b5.fA b5.cO b5.cj iv) iv
 else
 aA iY (ad5 b4.bf b4.fA b4.cO b4.cj []) (ad5 b5.bf b5.fA b5.cO b5.cj fD) fD
def aIs {iw} (oQ:KK Kx vp iw) {aA} (aU:KK (CY (aI 127)) Qv aA) {back} (aK:KK (CY (aI 351)) Qw back) (n:Nat):KK (CY (aI 351)) Qw (PZ iw aA back n):=λ_ _ _ _ _ _ _ r h=>ie h (λc0 h=>be h λ_ di h=>be h λdN fN h=>be h λ_ iC h=>Hv (aK h) (by kernel_rfl) [aB c0,(0,eR.idx di),(7,.call (oQ fN) [(9000,9000),(eQ,eQ)] []),(0,.laid (bF (Bx.rows I 107 13) (eR.map [dN]).symm)),(0,eR.jS iC)]) λc0 h=>Hv (aU h) (by kernel_rfl) [aB c0]
def Dn (iw:O0) (aA:Wf40):Nat->br->Int->Int->aJ->aj->aj->br->Z aj
 |0=>dv.z
 |n+1=>PZ iw aA (Dn iw aA n) n
def amL {iw} (oQ:KK Kx vp iw) {aA} (aU:KK (CY (aI 127)) Qv aA):∀n:Nat,KK (CY (aI 351)) Qw (Dn iw aA n)
 |0=>KC.h
 |n+1=>aIs oQ aU (amL oQ aU n) n
def PY (iw:O0) (n:Nat) (iY:aJ) (b4 b5:aj) (fD:br):Z aj:=
 V (ad5 b5.bf b5.fA b5.cO b5.cj fD)
def aIr {iw} (oQ:KK Kx vp iw) (n:Nat):KK (CY (aI 127)) Qv (PY iw n):=λ_ _ _ fD r h=>KU h [(2,eR.er 45 fD),(0,.oV 4 (.flat 0 (y6 12 [.sl 0 0 0 0 []])))]
def I5 (b4 b5:aj):Z aj:=
 Dn bs (PY bs a6) a6 cl.fArgs (cl.fArgs.length:Int) 0 de rV (ad5 b5.bf b5.fA b5.cO b5.cj []) []
def ann {iw} (oQ:KK Kx vp iw) (n:Nat):KK (CY [1,1,1,1]) aeB (I5 iw n):=λ_ _ _ _ r h=>Hv (amL oQ (aIr oQ n) n h) (by kernel_rfl) [(6,.born [] [(5,12)] 45 M 107 13)]
def I4 (b4 b5:aj):Z aj:=
 if b5.cj.aD==1 then
 (Rs a6 b5.cj.dj de).bind λx9=>I5 bs a6 de cl rV (ad5 b5.bf b5.fA b5.cO (bI.mk b5.cj.aD x9 b5.cj.bj) b5.fArgs)
 else
 I5 bs a6 de cl rV b5
def anm {iw} (oQ:KK Kx vp iw) (n:Nat):KK (CY [1,1,1]) aeB (I4 iw n):=λ_ _ _ _ r h=>ie h (λc0 h=>be h λ_ iS h=>Hv (ann oQ n h) (by kernel_rfl) [aZ c0,(4,.call (aqy n iS) [(eQ,1),(9000,9000)] [])]) λc0 h=>Hv (ann oQ n h) (by kernel_rfl) [aZ c0]
def Zb:Z aj:=
 if a8.cO.aD==1 then
 (Rs a6 a8.cO.dj de).bind λiv=>I4 bs a6 de a8 rV (ad5 a8.bf a8.fA (bI.mk a8.cO.aD iv a8.cO.bj) a8.cj a8.fArgs)
 else
 I4 bs a6 de a8 rV a8
def aIq {iw} (oQ:KK Kx vp iw) (n:Nat):KK (CY []) vp (Zb iw n):=λ_ _ r h=>ie h (λc0 h=>be h λ_ iC h=>Hv (anm oQ n h) (by kernel_rfl) [iG c0,(4,.call (aqy n iC) [(eQ,1),(9000,9000)] [])]) λc0 h=>Hv (anm oQ n h) (by kernel_rfl) [iG c0]
def CV:Nat->aj->aJ->Z aj
 |0,_,_=>G
 |n+1,p0,iY=>Zb (CV n) n p0 iY
def axF:∀n:Nat,KK Kx vp (CV n)
 |0=>λ_ _ _ h=>nz h
 |n+1=>λ_ _ _ h=>caS (X:=aCF) (aIq (axF n) n h)
def x96:=fx E0 Tryz.f96 []
def I9:=Ax x96 Sq Ot
def adj:LS:=⟨[aX 1,aX 2,aX 3,(17,.slice 121 2 S.length (eo S)),(18,iI B),(19,iI aa)],[(1,gP (jv T)),(2,gP (eK E .cq .cq .cq)),(3,gP (eK ac (.ms 12 2 0 N.length) (.ms sL 2 0 ex.length) .cq)),(12,ape N),(sL,Ci ex)]⟩
def adi:LS:=⟨[aX 2,aX 3,(36,.slice 107 13 y.length (dP y)),(37,iI m),(38,iI s)],[(2,gP (eK T .cq .cq .cq)),(3,gP (eK E (.ms 12 2 0 N.length) (.ms sL 2 0 bY.length) (.ms 47 13 0 O.length))),(12,ape N),(47,Gs O),(sL,Ci bY)]⟩
def adh:LS:=⟨api,[(2,gP (eK u .cq .cq .cq)),(3,gP (eK T (.ms 12 2 0 N.length) (.ms sL 2 0 bY.length) (.ms 47 13 0 O.length))),(12,ape N),(47,Gs O),(sL,Ci bY)]⟩
def adg:LS:=⟨[aX 1,aX 2,aX 3],[(1,gP (jv u)),(2,gP (eK T .cq .cq .cq)),(3,gP (eK E (.ms 12 2 0 N.length) (.ms sL 2 0 ex.length) .cq)),(12,ape N),(sL,Ci ex)]⟩
def abl (bn:Wf41) (back:bL->Int->Int->ai->ai->ai->cY->bL->Z ai) (n:Nat) (t17:bL) (t18 t19:Int) (b1 b2 b3:ai) (cx:cY) (jE:bL):Z ai:=
 if iL (t19<t18) then
 (idx t17 t19).bind λx2=>(app [] x2.ag).bind λdN=>(app jE [(bl.mk dN x2.av)]).bind λiQ=>(setAt iQ jE.length (bl.mk dN x2.av)).bind λz21=>back t17 t18 (aW (t19+1)) b1 (ad3 b2.aM [] b2.aH [] []) (ad3 b3.aM cx b3.aH z21 []) cx z21
 else
 bn b1 (ad3 b2.aM [] b2.aH [] []) (ad3 b3.aM cx b3.aH jE []) cx jE
def aQV {bn} (cM:KK (I9 [1,1,1]) adg bn) {back} (aK:KK (I9 [0,1,0,1,1]) adj back) (n:Nat):KK (I9 [0,1,0,1,1]) adj (abl bn back n):=λ_ _ _ _ _ b3 cx jE r h=>ie h (λc0 h=>be h λx2 di h=>be h λdN fN h=>be h λ_ iJ h=>be h λ_ yO h=>ra (aK h) [aB c0,(0,fj.idx di),(3,.born [] [] 27 M 3 1),(4,R3.app (xs:= []) fN),(4,fj.Lr iJ),(2,.beq sL (bF (λq_=>Bx.tree 121 2 Ya q_ [(jE.length*2+0,.ms 27 1 0 dN.length)]) (fj.apS (r:= (qa x2.av)) iJ))),(0,fj.iH R3 (r:= (qa x2.av)) sL 27 0 I 3 1 dN yO),(2,.beq 3 (bF (λn_=>((gP (eK b3 (.ms 12 2 0 cx.length) (.ms sL 2 0 n_) .cq)))) (((fj.apL iJ).trans (ey yO)))))]) λc0 h=>ra (cM h) [aB c0]
def O4 (bn:Wf41):Nat->bL->Int->Int->ai->ai->ai->cY->bL->Z ai
 |0=>dv.z
 |n+1=>abl bn (O4 bn n) n
def aDu {bn} (cM:KK (I9 [1,1,1]) adg bn):∀n:Nat,KK (I9 [0,1,0,1,1]) adj (O4 bn n)
 |0=>KC.h
 |n+1=>aQV cM (aDu cM n) n
def abk (bh:Wf42) (back:br->Int->Int->ai->ai->cY->br->bL->Z ai) (n:Nat) (t36:br) (t37 t38:Int) (b2 b3:ai) (cx:cY) (MQ:br) (jE:bL):Z ai:=
 if iL (t38<t37) then
 (idx t36 t38).bind λx2=>(Ks n x2).bind λeN=>(app MQ [eN]).bind λdC=>back t36 t37 (aW (t38+1)) (ad3 b2.aM [] b2.aH [] []) (ad3 b3.aM cx b3.aH jE dC) cx dC jE
 else
 bh (ad3 b2.aM [] b2.aH [] []) (ad3 b3.aM cx b3.aH jE MQ) cx MQ jE
def aQU {bh} (cF:KK (I9 [1,1,1,1]) adh bh) {back} (aK:KK (I9 (aI 87)) adi back) (n:Nat):KK (I9 (aI 87)) adi (abk bh back n):=λ_ _ _ _ _ _ _ _ r h=>ie h (λc0 h=>be h λ_ di h=>be h λeN iK h=>be h λ_ fE h=>ra (aK h) [aB c0,(0,eR.idx di),AM (aFf n iK),(0,.laid (bF (Bx.rows I 107 13) (eR.map [eN]).symm)),(0,eR.jS fE)]) λc0 h=>ra (cF h) [aB c0]
def O3 (bh:Wf42):Nat->br->Int->Int->ai->ai->cY->br->bL->Z ai
 |0=>dv.z
 |n+1=>abk bh (O3 bh n) n
def aDt {bh} (cF:KK (I9 [1,1,1,1]) adh bh):∀n:Nat,KK (I9 (aI 87)) adi (O3 bh n)
 |0=>KC.h
 |n+1=>aQU cF (aDt cF n) n
def asL (n:Nat) (b2 b3:ai) (cx:cY) (MQ:br) (jE:bL):Z ai:=
 V (ad3 b3.aM cx b3.aH jE MQ)
def aQT:KK (I9 [1,1,1,1]) adh (asL a):=λ_ _ _ _ _ r h=>rr h [(2,.iR 12 ub),(0,.iR sL 201003),(0,.iR 47 201004)]
def abj:Z ai:=
 O3 (asL a) a u.aL (u.aL.length:Int) 0 (ad3 T.aM [] T.aH [] []) (ad3 E.aM N E.aH ex []) N [] ex
def aQS:KK (I9 [1,1,1]) adg (abj a):=λ_ _ _ _ _ r h=>ra (aDt (aQT a) a h) [(4,.born [] [(3,4)] 47 M 107 13)]
def asK:Z ai:=
 (app [] u.ag).bind λx7=>O4 (abj a) a u.ar (u.ar.length:Int) 0 u (ad3 A' [] 0 [] []) (ad3 u.aM x7 u.aH [] []) x7 []
def aQR:KK (I9 []) N9 (asK a):=λ_ r h=>be h λ_ iE h=>ra (aDu (aQS a) a h) [(2,.born [] [] 12 M 73 2),(4,eW.app (xs:= []) iE),(9,.born [] [(3,3)] sL M 121 2)]
def F96:=asK
def ev96:KK (Cx E0 96 Sq Ot) N9 (F96 a):=λ_ _ h=>ca (X:=x96) (aQR a h)
def aDd:AV:=.agg [q4_ i,.ms ub 5 0 i.ah.length]
def avH:List (Nat×Bx):= [(ub,.tree 44 5 oa (dF i.ah) [])]
def Hb:=fx E0 Tryz.f41 []
def A41:=Ax Hb aDd avH
def aeb:LS:=⟨[aX 2,aX 3,(10,.slice 44 5 t.length (dF t)),(11,iI o),(12,iI x)],[(2,z6 w),(3,sH R vB ge.length),(vB,zn ge)]⟩
def aea:LS:=⟨api,[(2,z6 i),(3,sH w vB ge.length),(vB,zn ge)]⟩
def aca (aA:Wf43) (back:bw->Int->Int->ae->ae->bw->Z ae) (n:Nat) (t10:bw) (t11 t12:Int) (b2 b3:ae) (pA:bw):Z ae:=
 if iL (t12<t11) then
 (idx t10 t12).bind λx2=>(F96 n x2).bind λeN=>(app pA [eN]).bind λdC=>(setAt dC pA.length eN).bind λwP=>back t10 t11 (aW (t12+1)) (ad2 b2.ay []) (ad2 b3.ay wP) wP
 else
 aA (ad2 b2.ay []) (ad2 b3.ay pA) pA
def aSW {aA} (aU:KK (A41 [1,1,1]) aea aA) {back} (aK:KK (A41 [0,1,0,1,1]) aeb back) (n:Nat):KK (A41 [0,1,0,1,1]) aeb (aca aA back n):=λ_ _ _ _ b3 pA r h=>ie h (λc0 h=>be h λ_ di h=>be h λeN iK h=>be h λ_ fE h=>be h λ_ ow h=>ra (aK h) [aB c0,(0,cm.idx di),(6,.call (ev96 n iK) [] [(330190001,ub),(330190003,201003),(330190004,201004)]),(1,cm.Lr fE),(2,.beq vB (bF (λq_=>Bx.tree 44 5 oa q_ (apk (pA.length*5+1) 330190001 eN (pA.length*5+3) 330190003 (pA.length*5+4) 330190004)) (cm.apS (r:= (cN eN)) fE))),(0,cm.ke eW (r:= (cN eN)) vB 330190001 1 I 73 2 eN.ag ow (ta eN)),(0,cm.ke fj (r:= (ta eN)) vB 330190003 3 I 121 2 eN.ar ow (ni eN)),(0,cm.iH eR (r:= (ni eN)) vB 330190004 4 I 107 13 eN.aL ow),(2,.beq 3 (bF (sH b3 vB) (((cm.apL fE).trans (ey ow)))))]) λc0 h=>ra (aU h) [aB c0]
def Pn (aA:Wf43):Nat->bw->Int->Int->ae->ae->bw->Z ae
 |0=>dv.z
 |n+1=>aca aA (Pn aA n) n
def aDZ {aA} (aU:KK (A41 [1,1,1]) aea aA):∀n:Nat,KK (A41 [0,1,0,1,1]) aeb (Pn aA n)
 |0=>KC.h
 |n+1=>aSW aU (aDZ aU n) n
def atu (n:Nat) (b2 b3:ae) (pA:bw):Z ae:=
 V (ad2 b3.ay pA)
def aSV:KK (A41 [1,1,1]) aea (atu a):=λ_ _ _ r h=>rr h [(2,.iR vB ub)]
def att:Z ae:=
 Pn (atu a) a i.ah (i.ah.length:Int) 0 (ad2 0 []) (ad2 i.ay []) []
def aSU:KK (A41 []) uz (att a):=λ_ r h=>ra (aDZ (aSV a) a h) [(11,.born [] [(3,1)] vB M 44 5)]
def F41:=att
def JW:KK (Cx E0 41 aDd avH) uz (F41 a):=λ_ _ h=>ca (X:=Hb) (aSU a h)
def ave:AV:=.el bD 5 a 0
def x178:=fxR E0 Tryz.f178 [0,bD]
def A178:=AxS x178 [0,8589934592] ave bC
def C178:=CxSR E0 178 [0,8589934592] ave bC
def ng:LS:=⟨[aX 0],(q6_ (bg c (.ms bD 5 0 c.bW.ah.length)) bD c)⟩
def UH (n:Nat) (g0:aJ):Z Nat:=
 (dX g0.bW.ah.length g0.fm.av).bind λjd=>V (0+jd)
def aLm:KK (A178 []) ng (UH a):=λ_ r h=>be h λ_ hI h=>KU h [(11,cX hI)]
def EW:=UH
def OL:KK C178 ng (EW a):=λ_ _ h=>caSR (X:=x178) (aLm a h)
def alT:AV:=.kh (jv u)
def aCE:=fx E0 Tryz.f178 []
def aUu:=Ax aCE alT bC
def zU:LS:=⟨[(0,.kh (En c))],[]⟩
def Za (n:Nat) (g0:aJ):Z ai:=
 (idx g0.bW.ah g0.fm.av).bind λjd=>V jd
def aIp:KK (aUu []) zU (Za a):=λ_ r h=>be h λ_ hI h=>rr h [(11,cm.idx hI)]
def PD:=Za
def Th:KK (Cx E0 178 alT bC) zU (PD a):=λ_ _ h=>ca (X:=aCE) (aIp a h)
def x179:=fx E0 Tryz.f179 []
def A179:=Ax x179 cP bC
def alm:LS:=⟨[(0,.agg (gV az)),(1,bH aC)],[]⟩
def ajh:Z Bool:=
 (Y0 a az).bind λx4=>if x4 then
 V (az.aD==aC)
 else
 V I
def aLl:KK (A179 []) alm (ajh a):=λ_ _ r h=>be h λ_ iF h=>ie h (λc0 bE=>by subst c0;exact (rr bE [j3 (aaQ a iF)])) λc0 bE=>by subst c0;exact (rr bE [j3 (aaQ a iF)])
def YY:=ajh
def aqz:KK (Cx E0 179 cP bC) alm (YY a):=λ_ _ _ h=>ca (X:=x179) (aLl a h)
def rf:AV:=.bool ds.1
def qU:List (Nat×Bx):= (q6_ (bg ds.2 (.ms bD 5 0 ds.2.bW.ah.length)) bD ds.2)
def x148:=fx E0 Tryz.f148 [0,bD]
def A148:=Ax x148 rf qU
def ajJ:Z (Bool×aJ):=
 (EW a c).bind λx3=>(c.bW.ah[x3]?).bind λu6=>(app u6.ag [(cA.mk c.fm.aM c.fm.aD)]).bind λfK=>(YY a c.fm.bj c.fm.aD).bind λx40=>(setAt c.bW.ah x3 (ad3 u6.aM fK u6.aH u6.ar u6.aL)).bind λz43=>V (x40,(ad4 (ad2 c.bW.ay z43) c.fm))
def aMu:KK (A148 []) ng (ajJ a):=λg0 r h=>be h λ_ eM h=>be h λu6 Bo h=>be h λfK ki h=>be h λ_ aAM h=>be h λ_ hz43 h=>rr h [(2,.call (OL a eM) [(0,0),(bD,bD)] []),(1,cm.oJ eW bD gE 1 I 73 2 u6.ag Bo (bV u6)),(17,eW.jS ki),(2,cm.Aj 1 (bV u6) (bV u6) Bo),(10,vD (aqz a aAM)),(1,cm.iH eW (r:= (bV u6)) bD gE 1 I 73 2 fK hz43),(0,.beq 0 (bF (λn_=>((lK (bg g0 (.ms bD 5 0 n_))))) (ey hz43)))]
def aiy:=ajJ
def aQs:KK (Cx E0 148 rf qU) ng (aiy a):=λ_ _ h=>ca (X:=x148) (aMu a h)
def x180:=fx E0 Tryz.f180 []
def A180:=Ax x180 cP bC
def alk:LS:=⟨[(0,.kh (En c)),(1,bH g)],[]⟩
def ajg:Z Bool:=
 (PD a c).bind λx3=>if !iL (g<x3.aH) then
 V (iL (g<(x3.ag.length:Int)))
 else
 V I
def aLk:KK (A180 []) alk (ajg a):=λ_ _ r h=>be h λ_ eM h=>ie h (λc0 h=>rr h [im (Th a eM),dg c0]) λc0 h=>rr h [im (Th a eM),dg c0]
def Ru:=ajg
def aaP:KK (Cx E0 180 cP bC) alk (Ru a):=λ_ _ _ h=>ca (X:=x180) (aLk a h)
def x217:=fx E0 Tryz.f217 []
def RC:=Ax x217 dR bC
def Wu:LS:=⟨[(0,.slice 3 1 j.length (dJ j)),(1,iI g),(7,iI o),(8,iI x)],[]⟩
def Wt:LS:=⟨[],[]⟩
def N0:LS:=⟨[(0,.slice 3 1 j.length (dJ j)),(1,iI g)],[]⟩
def Uo (back:aP->Int->Int->Int->Z Int) (n:Nat) (s0:aP) (v1 t7 t8:Int):Z Int:=
 if iL (t8<t7) then
 (idx s0 t8).bind λx7=>if v1==x7 then
 V t8
 else
 back s0 v1 t7 (aW (t8+1))
 else
 cz
def aKC {aA} (aU:KK (RC [1,1]) Wt aA) {back} (aK:KK (RC [0,1,0,1]) Wu back) (n:Nat):KK (RC [0,1,0,1]) Wu (Uo aA back n):=λ_ _ _ _ r h=>ie h (λc0 h=>be h λ_ iE h=>ie h (λc1 h=>rr h [aB c0,(5,R3.idx iE),aV c1]) λc1 h=>ra (aK h) [aB c0,(5,R3.idx iE),aV c1]) λc0 h=>ra (aU h) [aB c0]
def H9 (aA:Z Int):Nat->aP->Int->Int->Int->Z Int
 |0=>dv.z
 |n+1=>Uo aA (H9 aA n) n
def awi {aA} (aU:KK (RC [1,1]) Wt aA):∀n:Nat,KK (RC [0,1,0,1]) Wu (H9 aA n)
 |0=>KC.h
 |n+1=>aKC aU (awi aU n) n
def Un (n:Nat):Z Int:=
 V (-1)
def aKB:KK (RC [1,1]) Wt (Un a):=λr h=>rr h []
def aiT:Z Int:=
 H9 (Un a) a j g (j.length:Int) 0
def aKA:KK (RC []) N0 (aiT a):=λ_ _ r h=>ra (awi (aKB a) a h) []
def aCm:=aiT
def aPT:KK (Cx E0 217 dR bC) N0 (aCm a):=λ_ _ _ h=>ca (X:=x217) (aKA a h)
def x196:=fx E0 Tryz.f196 []
def A196:=Ax x196 cP bC
def aiX:Z Bool:=
 (aCm a j g).bind λx4=>V (!iL (x4<0))
def aKL:KK (A196 []) N0 (aiX a):=λ_ _ r h=>be h λ_ iF h=>rr h [j3 (aPT a iF)]
def aic:=aiX
def aEJ:KK (Cx E0 196 cP bC) N0 (aic a):=λ_ _ _ h=>ca (X:=x196) (aKL a h)
def x214:=fx E0 Tryz.f214 []
def A214:=Ax x214 dR bC
def N1:LS:=⟨[(0,.int .u64 b)],[]⟩
def ayT (n:Nat) (x0:Int):Z Int:=
 if !iL (x0<4294967296) then
 G
 else
 if !iL (x0<65536) then
 G
 else
 if !iL (x0<256) then
 G
 else
 (Gy (Bk #[0,1,2,2,3,3,3,3,4,4,4,4,4,4,4,4,5,5,5,5,5,5,5,5,5,5,5,5,5,5,5,5,6,6,6,6,6,6,6,6,6,6,6,6,6,6,6,6,6,6,6,6,6,6,6,6,6,6,6,6,6,6,6,6,7,7,7,7,7,7,7,7,7,7,7,7,7,7,7,7,7,7,7,7,7,7,7,7,7,7,7,7,7,7,7,7,7,7,7,7,7,7,7,7,7,7,7,7,7,7,7,7,7,7,7,7,7,7,7,7,7,7,7,7,7,7,7,7,8,8,8,8,8,8,8,8,8,8,8,8,8,8,8,8,8,8,8,8,8,8,8,8,8,8,8,8,8,8,8,8,8,8,8,8,8,8,8,8,8,8,8,8,8,8,8,8,8,8,8,8,8,8,8,8,8,8,8,8,8,8,8,8,8,8,8,8,8,8,8,8,8,8,8,8,8,8,8,8,8,8,8,8,8,8,8,8,8,8,8,8,8,8,8,8,8,8,8,8,8,8,8,8,8,8,8,8,8,8,8,8,8,8,8,8,8,8,8,8,8,8,8,8,8,8,8,8]) (Y' .u8 (x0))).bind λdN=>V (aW (0+(aW ((dN.toNat:Int)))))
def aKG:KK (A214 []) N1 (ayT a):=λ_ r h=>ie h (λc0 h=>nz h) λc0 h=>ie h (λc1 h=>nz h) λc1 h=>ie h (λc2 h=>nz h) λc2 h=>be h λ_ fN h=>rr h [aQ c0,aV c1,aV c2,(3,.chr (fN))]
def F214:=ayT
def aPV:KK (Cx E0 214 dR bC) N1 (F214 a):=λ_ _ h=>ca (X:=x214) (aKG a h)
def x191:=fx E0 Tryz.f191 []
def A191:=Ax x191 dR bC
def ayU:Z Int:=
 (F214 a b).bind λx3=>V x3
def aKS:KK (A191 []) N1 (ayU a):=λ_ r h=>be h λ_ eM h=>rr h [im (aPV a eM)]
def YW:=ayU
def aQa:KK (Cx E0 191 dR bC) N1 (YW a):=λ_ _ h=>ca (X:=x191) (aKS a h)
def avc:AV:=.ms jg 1 0 es.2.length
def amb:List (Nat×Bx):= [(jg,wF es.2)]
def x218:=fx E0 Tryz.f218 [jg]
def xM:=Ax x218 avc amb
def Kw:=Cx E0 218 avc amb
def aGR:LS:=⟨[(0,tv jg a3.length),aX 3,aX 6,(16,.agg (Tl bd)),(17,bH aC)],[(3,kM (fR a8)),(6,.flat 105 (rE a9)),(jg,wF a3)]⟩
def NZ:LS:=⟨[(0,tv jg a3.length),aX 3,(16,.agg (Tl bd)),(17,bH aC)],[(3,kM (fR a8)),(jg,wF a3)]⟩
def Ws:LS:=⟨[(0,.ms jg 1 0 af.length),(35,.slice 107 13 y.length (dP y)),(36,iI m),(37,iI s)],[(jg,wF af)]⟩
def Wq:LS:=⟨[(0,tv jg j.length)],[(jg,wF j)]⟩
def Wp:LS:=⟨[(0,tv jg j.length),aX 3],[(3,kM (fR p)),(jg,wF j)]⟩
def uA:LS:=⟨[(0,tv jg j.length),(1,.agg (fR p))],[(jg,wF j)]⟩
def Nf (gH:FW) (aA:Wf44) (n:Nat) (t16:lF) (t17:Int) (iV:aP) (b3:aj) (b6:bI):Z (aP×aP):=
 if b6.aD==1 then
 if !iL (b6.dj<0) then
 (app iV [b6.dj]).bind λdC=>aA t16 (aW (t17+1)) dC b3
 else
 aA t16 (aW (t17+1)) iV b3
 else
 aA t16 (aW (t17+1)) iV b3
def ayd {gH} (mW:KK Kw uA gH) {aA} (aU:KK (xM (aI 85)) NZ aA) (n:Nat):KK (xM (aI 6549)) aGR (Nf gH aA n):=λ_ _ _ _ _ r h=>ie h (λc0 h=>ie h (λc1 h=>be h λ_ fE h=>ra (aU h) [aQ c0,aZ c1,(5,R3.jS fE)]) λc1 h=>ra (aU h) [aQ c0,aZ c1]) λc0 h=>ra (aU h) [aQ c0]
def ayS (db:Wf45) (back:Wf44) (n:Nat) (t16:lF) (t17:Int) (iV:aP) (b3:aj):Z (aP×aP):=
 if iL (t17<2) then
 if t17==0 then
 Nf bm back n t16 0 iV b3 t16.f0
 else
 if t17==1 then
 Nf bm back n t16 1 iV b3 t16.f1
 else
 G
 else
 db iV b3
def aKz {gH} (mW:KK Kw uA gH) {db} (fh:KK (xM [1,1]) Wp db) {back} (aK:KK (xM (aI 85)) NZ back) (n:Nat):KK (xM (aI 85)) NZ (ayS gH db back n):=λ_ _ _ _ r h=>ie h (λc0 h=>ie h (λc1 bE=>by have c1:=eq_of_beq c1;subst c1;exact (
 ra (ayd mW aK n bE) [])) λc1 h=>ie h (λc2 bE=>by have c2:=eq_of_beq c2;subst c2;exact (
 ra (ayd mW aK n bE) [])) λc2 h=>nz h) λc0 h=>ra (fh h) [aB c0]
def xe (gH:FW) (db:Wf45):Nat->lF->Int->aP->aj->Z (aP×aP)
 |0=>dv.z
 |n+1=>ayS gH db (xe gH db n) n
def awh {gH} (mW:KK Kw uA gH) {db} (fh:KK (xM [1,1]) Wp db):∀n:Nat,KK (xM (aI 85)) NZ (xe gH db n)
 |0=>KC.h
 |n+1=>aKz mW fh (awh mW fh n) n
def Um (bn:aP->Z (aP×aP)) (back:br->Int->Int->aP->Z (aP×aP)) (n:Nat) (t35:br) (t36 t37:Int) (iV:aP):Z (aP×aP):=
 if iL (t37<t36) then
 (idx t35 t37).bind λx2=>(bm iV x2).bind λx9=>back t35 t36 (aW (t37+1)) x9.2
 else
 bn iV
def aKy {gH} (mW:KK Kw uA gH) {bn} (cM:KK (xM [1,1,1]) Wq bn) {back} (aK:KK (xM [0,1,0,1,1]) Ws back) (n:Nat):KK (xM [0,1,0,1,1]) Ws (Um gH bn back n):=λ_ _ _ _ r h=>ie h (λc0 h=>be h λ_ di h=>be h λ_ iS h=>ra (aK h) [aB c0,(0,eR.idx di),(5,.call (mW iS) [(jg,jg)] [])]) λc0 h=>ra (cM h) [aB c0]
def H8 (gH:FW) (bn:aP->Z (aP×aP)):Nat->br->Int->Int->aP->Z (aP×aP)
 |0=>dv.z
 |n+1=>Um gH bn (H8 gH bn n) n
def awg {gH} (mW:KK Kw uA gH) {bn} (cM:KK (xM [1,1,1]) Wq bn):∀n:Nat,KK (xM [0,1,0,1,1]) Ws (H8 gH bn n)
 |0=>KC.h
 |n+1=>aKy mW cM (awg mW cM n) n
def Ul (gH:FW) (n:Nat) (iV:aP):Z (aP×aP):=
 V (iV,iV)
def aKx {gH} (mW:KK Kw uA gH) (n:Nat):KK (xM [1,1,1]) Wq (Ul gH n):=λ_ r h=>rr h []
def IV:Z (aP×aP):=
 H8 bm (Ul bm a6) a6 aO.fArgs (aO.fArgs.length:Int) 0 bU
def ayc {gH} (mW:KK Kw uA gH) (n:Nat):KK (xM [1,1]) Wp (IV gH n):=λ_ _ r h=>ra (awg mW (aKx mW n) n h) []
def aiS:Z (aP×aP):=
 if aO.bf==3 then
 xe bm (IV bm a6) a6 (lF.mk aO.cO aO.cj) 0 bU aO
 else
 IV bm a6 bU aO
def aKw {gH} (mW:KK Kw uA gH) (n:Nat):KK (xM []) uA (aiS gH n):=λ_ _ r h=>ie h (λc0 h=>ra (awh mW (ayc mW n) n h) [bk c0]) λc0 h=>ra (ayc mW n h) [bk c0]
def GM:Nat->aP->aj->Z (aP×aP)
 |0,_,_=>G
 |n+1,wv,p1=>aiS (GM n) n wv p1
def aEI:∀n:Nat,KK Kw uA (GM n)
 |0=>λ_ _ _ h=>nz h
 |n+1=>λ_ _ _ h=>ca (X:=x218) (aKw (aEI n) n h)
def aCD:=fx E0 Tryz.f218 []
def tQ:=Ax aCD AG Bl
def azH:LS:=⟨[(0,Jp a3.length),aX 3,aX 6,(16,.agg (Tl bd)),(17,bH aC)],[(3,kM (fR a8)),(6,.flat 105 (rE a9)),(32,LG a3)]⟩
def Jd:LS:=⟨[(0,Jp a3.length),aX 3,(16,.agg (Tl bd)),(17,bH aC)],[(3,kM (fR a8)),(32,LG a3)]⟩
def Qu:LS:=⟨[(0,.ms 32 1 0 af.length),(35,.slice 107 13 y.length (dP y)),(36,iI m),(37,iI s)],[(32,wF af)]⟩
def Qt:LS:=⟨[(0,Jp j.length)],[(32,wF j)]⟩
def Qs:LS:=⟨[(0,Jp j.length),aX 3],[(3,kM (fR p)),(32,LG j)]⟩
def aeA:LS:=⟨[(0,.cq),(1,.agg (fR p))],[]⟩
def I3 (aA:Wf46) (n:Nat) (t16:lF) (t17:Int) (cS:aP) (b3:aj) (b6:bI):Z aP:=
 if b6.aD==1 then
 if !iL (b6.dj<0) then
 (app cS [b6.dj]).bind λdC=>aA t16 (aW (t17+1)) dC b3
 else
 aA t16 (aW (t17+1)) cS b3
 else
 aA t16 (aW (t17+1)) cS b3
def anl {aA} (aU:KK (tQ (aI 85)) Jd aA) (n:Nat):KK (tQ (aI 6549)) azH (I3 aA n):=λ_ _ _ _ _ r h=>ie h (λc0 h=>ie h (λc1 h=>be h λ_ fE h=>ra (aU h) [aQ c0,aZ c1,(5,R3.jS fE)]) λc1 h=>ra (aU h) [aQ c0,aZ c1]) λc0 h=>ra (aU h) [aQ c0]
def aoq (db:arQ) (back:Wf46) (n:Nat) (t16:lF) (t17:Int) (cS:aP) (b3:aj):Z aP:=
 if iL (t17<2) then
 if t17==0 then
 I3 back n t16 0 cS b3 t16.f0
 else
 if t17==1 then
 I3 back n t16 1 cS b3 t16.f1
 else
 G
 else
 db cS b3
def aIo {db} (fh:KK (tQ [1,1]) Qs db) {back} (aK:KK (tQ (aI 85)) Jd back) (n:Nat):KK (tQ (aI 85)) Jd (aoq db back n):=λ_ _ _ _ r h=>ie h (λc0 h=>ie h (λc1 bE=>by have c1:=eq_of_beq c1;subst c1;exact (
 ra (anl aK n bE) [])) λc1 h=>ie h (λc2 bE=>by have c2:=eq_of_beq c2;subst c2;exact (
 ra (anl aK n bE) [])) λc2 h=>nz h) λc0 h=>ra (fh h) [aB c0]
def uG (db:arQ):Nat->lF->Int->aP->aj->Z aP
 |0=>dv.z
 |n+1=>aoq db (uG db n) n
def amK {db} (fh:KK (tQ [1,1]) Qs db):∀n:Nat,KK (tQ (aI 85)) Jd (uG db n)
 |0=>KC.h
 |n+1=>aIo fh (amK fh n) n
def PX (back:br->Int->Int->aP->Z aP) (n:Nat) (t35:br) (t36 t37:Int) (cS:aP):Z aP:=
 if iL (t37<t36) then
 (idx t35 t37).bind λx2=>(GM n cS x2).bind λx9=>back t35 t36 (aW (t37+1)) x9.2
 else
 c9 cS
def aIn {bn} (cM:KK (tQ [1,1,1]) Qt bn) {back} (aK:KK (tQ [0,1,0,1,1]) Qu back) (n:Nat):KK (tQ [0,1,0,1,1]) Qu (PX bn back n):=λ_ _ _ _ r h=>ie h (λc0 h=>be h λ_ di h=>be h λ_ iS h=>ra (aK h) [aB c0,(0,eR.idx di),(5,.call (aEI n iS) [(32,jg)] [])]) λc0 h=>ra (cM h) [aB c0]
def Dm (bn:Wf0):Nat->br->Int->Int->aP->Z aP
 |0=>dv.z
 |n+1=>PX bn (Dm bn n) n
def amJ {bn} (cM:KK (tQ [1,1,1]) Qt bn):∀n:Nat,KK (tQ [0,1,0,1,1]) Qu (Dm bn n)
 |0=>KC.h
 |n+1=>aIn cM (amJ cM n) n
def PV (n:Nat) (cS:aP):Z aP:=
 V cS
def aIm:KK (tQ [1,1,1]) Qt (PV a):=λ_ r h=>rr h [(2,.iR 32 bA)]
def Dq:Z aP:=
 Dm (PV a) a p.fArgs (p.fArgs.length:Int) 0 j
def ank:KK (tQ [1,1]) Qs (Dq a):=λ_ _ r h=>ra (amJ (aIm a) a h) []
def Y9:Z aP:=
 if p.bf==3 then
 uG (Dq a) a (lF.mk p.cO p.cj) 0 [] p
 else
 Dq a [] p
def aIl:KK (tQ []) aeA (Y9 a):=λ_ r h=>ie h (λc0 h=>ra (amK (ank a) a h) [bk c0,(6,.born [0] [] 32 M 3 1)]) λc0 h=>ra (ank a h) [bk c0,(0,.born [0] [] 32 M 3 1)]
def abg:=Y9
def aKd:KK (Cx E0 218 AG Bl) aeA (abg a):=λ_ _ h=>ca (X:=aCD) (aIl a h)
def x197:=fx E0 Tryz.f197 []
def A197:=Ax x197 AG Bl
def aiW:Z aP:=
 (abg a p).bind λx4=>(ain a x4).bind λx8=>(gU x8.length x4.length).bind λw9=>(aib a x8).bind λjd=>V jd.2
def aKK:KK (A197 []) C6 (aiW a):=λ_ r h=>be h λ_ iF h=>be h λ_ lN h=>be h λ_ hw9 h=>be h λ_ hI h=>rr h [(3,.call (aKd a iF) [] [(5,bA)]),(2,.call (aQf a lN) [(5,0)] []),(1,.seq 8 (bF (AV.ms 5 1 0) ((oY hw9).symm))),(0,.call (aPS a hI) [(5,0)] []),(1,.iR 5 bA)]
def asj:=aiW
def aPZ:KK (Cx E0 197 AG Bl) C6 (asj a):=λ_ _ h=>ca (X:=x197) (aKK a h)
def x181:=fx E0 Tryz.f181 []
def Aw:=Ax x181 cP bC
def WI:LS:=⟨[(0,.kh (En c)),(3,.kh (jv u)),(13,.slice 121 2 S.length (eo S)),(14,iI B),(15,iI aa)],[]⟩
def WH:LS:=⟨[(0,.kh (En c)),(31,.slice 107 13 y.length (dP y)),(32,iI m),(33,iI s)],[]⟩
def WG:LS:=⟨[],[]⟩
def WE:LS:=⟨[(0,.kh (En c)),(3,.kh (jv u))],[]⟩
def UG (bn:aFY) (back:aJ->ai->bL->Int->Int->Z Bool) (n:Nat) (g0:aJ) (t3:ai) (t13:bL) (t14 t15:Int):Z Bool:=
 if iL (t15<t14) then
 (idx t13 t15).bind λx2=>(aic n x2.ag g0.fm.aY).bind λiv=>if iv then
 V M
 else
 back g0 t3 t13 t14 (aW (t15+1))
 else
 bn g0 t3
def aLj {bn} (cM:KK (Aw [1,1,1]) WE bn) {back} (aK:KK (Aw [0,1,0,1,1]) WI back) (n:Nat):KK (Aw [0,1,0,1,1]) WI (UG bn back n):=λ_ _ _ _ _ r h=>ie h (λc0 h=>be h λ_ di h=>be h λ_ iC h=>let zA:SE:=[aB c0,(0,fj.idx di),(10,vD (aEJ n iC))];ie h (λc1 bE=>by subst c1;exact (rr bE zA)) λc1 bE=>by subst c1;exact (ra (aK bE) zA)) λc0 h=>ra (cM h) [aB c0]
def Ig (bn:aFY):Nat->aJ->ai->bL->Int->Int->Z Bool
 |0=>dv.z
 |n+1=>UG bn (Ig bn n) n
def awr {bn} (cM:KK (Aw [1,1,1]) WE bn):∀n:Nat,KK (Aw [0,1,0,1,1]) WI (Ig bn n)
 |0=>KC.h
 |n+1=>aLj cM (awr cM n) n
def UF (back:aJ->br->Int->Int->Z Bool) (n:Nat) (g0:aJ) (t31:br) (t32 t33:Int):Z Bool:=
 if iL (t33<t32) then
 (idx t31 t33).bind λx2=>(asj n x2).bind λx8=>(aic n x8 g0.fm.aY).bind λfT=>if fT then
 V M
 else
 back g0 t31 t32 (aW (t33+1))
 else
 K
def aLi {bh} (cF:KK (Aw [1,1,1,1]) WG bh) {back} (aK:KK (Aw (aI 87)) WH back) (n:Nat):KK (Aw (aI 87)) WH (UF bh back n):=λ_ _ _ _ r h=>ie h (λc0 h=>be h λ_ di h=>be h λx8 lN h=>be h λ_ kU h=>let zA:SE:=[aB c0,(0,eR.idx di),(3,.ord [0,2,3,4,5,6,1,7]),(6,vD (cd (e:=3) (z:=I) (Q:=dJ x8) (aPZ n lN) (R3.len x8))),iX (aEJ n kU)];ie h (λc1 bE=>by subst c1;exact (rr bE zA)) λc1 bE=>by subst c1;exact (ra (aK bE) zA)) λc0 h=>ra (cF h) [aB c0]
def Ie (bh:Z Bool):Nat->aJ->br->Int->Int->Z Bool
 |0=>dv.z
 |n+1=>UF bh (Ie bh n) n
def awq {bh} (cF:KK (Aw [1,1,1,1]) WG bh):∀n:Nat,KK (Aw (aI 87)) WH (Ie bh n)
 |0=>KC.h
 |n+1=>aLi cF (awq cF n) n
def UE (n:Nat):Z Bool:=
 V I
def aLh:KK (Aw [1,1,1,1]) WG (UE a):=λr h=>rr h []
def UC:Z Bool:=
 Ie (UE a) a c u.aL (u.aL.length:Int) 0
def aLg:KK (Aw [1,1,1]) WE (UC a):=λ_ _ r h=>ra (awq (aLh a) a h) []
def ajf:Z Bool:=
 (PD a c).bind λx3=>Ig (UC a) a c x3 x3.ar (x3.ar.length:Int) 0
def aLf:KK (Aw []) zU (ajf a):=λ_ r h=>be h λ_ eM h=>ra (awr (aLg a) a h) [im (Th a eM)]
def aii:=ajf
def aER:KK (Cx E0 181 cP bC) zU (aii a):=λ_ _ h=>ca (X:=x181) (aLf a h)
def avd (r:aJ):AV:=.dr []
def ame:List (Nat×Bx):= (q6_ (bg c (.ms bD 5 0 c.bW.ah.length)) bD c)
def x183:=fx E0 Tryz.f183 [0,bD]
def vS:=Ax x183 avd ame
def WD:LS:=⟨[(2,.el bD 5 a 0),(3,apg),aX 5,(16,.ms fu 2 0 dl.length),(17,bH b),(18,bH d),(23,tv pt bU.length),(24,bH g),(25,bH o)],[(0,lK (bg ax (.ms bD 5 0 cH.length))),(1,apf),(5,.flat 121 [tv pt bU.length,bH bT.av]),(bD,X9 (((dF cH)).set a (Bb cg)) (a*5+3) fu dl.length),(fu,.tree 121 2 Ya (((eo dl)).set dy (qa d3.av)) [(dy*2+0,tv pt bU.length)]),(pt,wF bU)]⟩
def zM:LS:=⟨[(2,.el bD 5 a 0),(3,apg),(16,.ms fu 2 0 S.length),(17,bH b),(18,bH d)],[(0,lK (bg c (.ms bD 5 0 t.length))),(1,apf),(bD,X9 (((dF t)).set a (Bb u)) (a*5+3) fu S.length),(fu,Ci S)]⟩
def WC:LS:=⟨[(2,.el bD 5 a 0),(3,apg),(42,.ms kF 13 0 y.length),(43,bH b),(44,bH d)],[(0,lK (bg c (.ms bD 5 0 ge.length))),(1,apf),(bD,.tree 44 5 oa (((dF ge)).set a (ni E)) [(a*5+4,.ms kF 13 0 y.length)]),(kF,DO y)]⟩
def WB:LS:=⟨[(2,.el bD 5 a 0),(3,apg)],[(0,lK (bg c (.ms bD 5 0 t.length))),(1,apf),(bD,zn t)]⟩
def UB (back:Nat->Int->Int->Int->Int->aJ->bl->aP->bw->ai->bL->bl->Nat->Z aJ) (n:Nat) (kP:Nat) (t17 t18 t24 t25:Int) (b0:aJ) (b5:bl) (sS:aP) (cf:bw) (bN:ai) (dS:bL) (xH:bl) (vN:Nat):Z aJ:=
 if iL (t25<t24) then
 (dX sS.length t25).bind λx3=>(sS[0+x3]?).bind λx5=>(Rs n x5 (ad4 (ad2 b0.bW.ay cf) b0.fm)).bind λiv=>(dX sS.length t25).bind λgd=>(sS[0+gd]?).bind λja=>(setAt sS (0+gd) iv).bind λz19=>back kP t17 t18 t24 (aW (t25+1)) (ad4 (ad2 b0.bW.ay cf) b0.fm) (bl.mk z19 b5.av) z19 cf (ad3 bN.aM bN.ag bN.aH [] bN.aL) dS (bl.mk [] xH.av) vN
 else
 (setAt dS vN (bl.mk sS xH.av)).bind λz2=>dI kP t17 t18 (ad4 (ad2 b0.bW.ay cf) b0.fm) cf (ad3 bN.aM bN.ag bN.aH [] bN.aL) z2
def aLe {aA} (aU:KK (vS (aI 1943)) zM aA) {back} (aK:KK (vS (aI 22935)) WD back) (n:Nat):KK (vS (aI 22935)) WD (UB aA back n):=λkP _ _ _ _ _ b5 sS cf bN dS xH vN r h=>ie h (λc0 h=>be h λ_ eM h=>be h λ_ ic h=>be h λiv iC h=>be h λ_ iB h=>be h λ_ jN h=>be h λ_ JI h=>ra (aK h) [aB c0,(1,cX eM),(0,R3.row ic),(7,.call (aqy n iC) [(1,1),(0,9000)] [(bD,DZ)]),(0,cX iB),(0,R3.uR 0 [bH iv] jN JI),(2,.seq 23 (bF (AV.ms pt 1 0) (ey JI))),(0,.beq 5 (bF (λn_=>(Bx.flat 121 [tv pt n_,bH b5.av])) (ey JI))),(0,.beq fu (bF (λn_=>(Bx.tree 121 2 Ya (((eo dS)).set vN (qa xH.av)) [(vN*2+0,tv pt n_)])) (ey JI)))]) λc0 h=>be h λ_ nj h=>ra (aU h) [aB c0,(0,fj.iH R3 (r:= (qa xH.av)) fu pt 0 I 3 1 sS nj),(0,.seq 16 (bF (AV.ms fu 2 0) (ey nj))),(0,.beq bD (bF (X9 (((dF cf)).set kP (Bb bN)) (kP*5+3) fu) (ey nj)))]
def Ic (aA:arJ):Nat->Nat->Int->Int->Int->Int->aJ->bl->aP->bw->ai->bL->bl->Nat->Z aJ
 |0=>dv.z
 |n+1=>UB aA (Ic aA n) n
def awp {aA} (aU:KK (vS (aI 1943)) zM aA):∀n:Nat,KK (vS (aI 22935)) WD (Ic aA n)
 |0=>KC.h
 |n+1=>aLe aU (awp aU n) n
def UA (n:Nat) (kP:Nat) (t17 t18:Int) (b0:aJ) (cf:bw) (bN:ai) (dS:bL):Z aJ:=
 dI kP t17 (aW (t18+1)) (ad4 (ad2 b0.bW.ay cf) b0.fm) cf (ad3 bN.aM bN.ag bN.aH [] bN.aL) dS
def aLd {bh} (cF:KK (vS (aI 87)) zM bh) (n:Nat):KK (vS (aI 1943)) zM (UA bh n):=λ_ _ _ _ _ _ _ r h=>ra (cF h) []
def Uz (db:Nat->aJ->bw->Z aJ) (back:arJ) (n:Nat) (kP:Nat) (t17 t18:Int) (b0:aJ) (cf:bw) (bN:ai) (dS:bL):Z aJ:=
 if iL (t18<t17) then
 (dX dS.length t18).bind λx2=>(dS[0+x2]?).bind λu5=>Ic (UA back n) n kP t17 t18 (u5.ag.length:Int) 0 (ad4 (ad2 b0.bW.ay cf) b0.fm) u5 u5.ag cf (ad3 bN.aM bN.ag bN.aH [] bN.aL) dS (bl.mk [] u5.av) (0+x2)
 else
 (setAt cf kP (ad3 bN.aM bN.ag bN.aH dS bN.aL)).bind λz2=>db kP (ad4 (ad2 b0.bW.ay z2) b0.fm) z2
def aLc {db} (fh:KK (vS [1,1,1,1]) WB db) {back} (aK:KK (vS (aI 87)) zM back) (n:Nat):KK (vS (aI 87)) zM (Uz db back n):=λ_ _ _ b0 _ bN dS r h=>ie h (λc0 h=>be h λ_ di h=>be h λu5 wZ h=>ra (awp (aLd aK n) n h) [aB c0,(0,cX di),(0,fj.oJ R3 fu pt 0 I 3 1 u5.ag wZ (qa u5.av)),(0,fj.BS [0] (qa u5.av) wZ)]) λc0 h=>be h λ_ nj h=>ra (fh h) [aB c0,(0,cm.iH fj (r:= (Bb bN)) bD fu 3 I 121 2 dS nj),(0,.beq 0 (bF (λn_=>((lK (bg b0 (.ms bD 5 0 n_))))) (ey nj)))]
def EG (db:Nat->aJ->bw->Z aJ):Nat->Nat->Int->Int->aJ->bw->ai->bL->Z aJ
 |0=>dv.z
 |n+1=>Uz db (EG db n) n
def awo {db} (fh:KK (vS [1,1,1,1]) WB db):∀n:Nat,KK (vS (aI 87)) zM (EG db n)
 |0=>KC.h
 |n+1=>aLc fh (awo fh n) n
def Uy (back:Nat->Int->Int->aJ->br->bw->ai->Z aJ) (n:Nat) (kP:Nat) (t43 t44:Int) (b0:aJ) (dw:br) (cf:bw) (bN:ai):Z aJ:=
 if iL (t44<t43) then
 (dX dw.length t44).bind λx3=>(dw[0+x3]?).bind λx5=>(CV n x5 (ad4 (ad2 b0.bW.ay cf) b0.fm)).bind λiQ=>(dX dw.length t44).bind λkO=>(dw[0+kO]?).bind λnh=>(setAt dw (0+kO) iQ).bind λz22=>back kP t43 (aW (t44+1)) (ad4 (ad2 b0.bW.ay cf) b0.fm) z22 cf (ad3 bN.aM bN.ag bN.aH bN.ar [])
 else
 (setAt cf kP (ad3 bN.aM bN.ag bN.aH bN.ar dw)).bind λz2=>V (ad4 (ad2 b0.bW.ay z2) b0.fm)
def aLb {back} (aK:KK (vS (aI 95)) WC back) (n:Nat):KK (vS (aI 95)) WC (Uy back n):=λkP _ _ b0 dw cf bN r h=>ie h (λc0 h=>be h λ_ eM h=>be h λ_ ic h=>be h λiQ iJ h=>be h λ_ mV h=>be h λ_ o7 h=>be h λ_ xD h=>ra (aK h) [aB c0,(1,cX eM),(0,eR.row ic),(10,.call (axF n iJ) [(0,9000),(1,eQ)] [(bD,DZ)]),(0,cX mV),(0,eR.uR 0 (fR iQ) o7 xD),(2,.seq 42 (bF (AV.ms kF 13 0) (ey xD))),(0,.beq bD (bF (λn_=>(Bx.tree 44 5 oa (((dF cf)).set kP (ni bN)) [(kP*5+4,.ms kF 13 0 n_)])) (ey xD)))]) λc0 h=>be h λ_ nj h=>rr h [aB c0,(0,cm.iH eR (r:= (ni bN)) bD kF 4 I 107 13 dw nj),(0,.beq 0 (bF (λn_=>((lK (bg b0 (.ms bD 5 0 n_))))) (ey nj)))]
def Ib:Nat->Nat->Int->Int->aJ->br->bw->ai->Z aJ
 |0=>dv.z
 |n+1=>Uy (Ib n) n
def awn:∀n:Nat,KK (vS (aI 95)) WC (Ib n)
 |0=>KC.h
 |n+1=>aLb (awn n) n
def Ux:Z aJ:=
 (a7[al]?).bind λu5=>Ib a al (u5.aL.length:Int) 0 (ad4 (ad2 ax.bW.ay a7) ax.fm) u5.aL a7 (ad3 u5.aM u5.ag u5.aH u5.ar [])
def aLa:KK (vS [1,1,1,1]) WB (Ux a):=λ_ _ _ r h=>be h λu5 wZ h=>ra (awn a h) [(3,cm.oJ eR bD kF 4 I 107 13 u5.aL wZ (ni u5))]
def aje:Z aJ:=
 (EW a c).bind λx3=>(c.bW.ah[x3]?).bind λlI=>EG (Ux a) a x3 (lI.ar.length:Int) 0 c c.bW.ah (ad3 lI.aM lI.ag lI.aH [] lI.aL) lI.ar
def aKZ:KK (vS []) ng (aje a):=λ_ r h=>be h λ_ eM h=>be h λlI Yu h=>ra (awo (aLa a) a h) [(2,.call (OL a eM) [(0,0),(bD,bD)] []),(6,cm.oJ fj bD fu 3 I 121 2 lI.ar Yu (Bb lI))]
def aif:=aje
def aEP:KK (Cx E0 183 avd ame) ng (aif a):=λ_ _ h=>ca (X:=x183) (aKZ a h)
def x149:=fx E0 Tryz.f149 [0,bD]
def A149:=Ax x149 rf qU
def ajI:Z (Bool×aJ):=
 (EW a c).bind λx3=>(c.bW.ah[x3]?).bind λlI=>(setAt c.bW.ah x3 lI).bind λwP=>(Ru a (ad4 (ad2 c.bW.ay wP) c.fm) c.fm.aY).bind λja=>if !ja then
 (setAt c.bW.ah x3 lI).bind λz26=>V (I,(ad4 (ad2 c.bW.ay z26) c.fm))
 else
 (dX lI.ag.length c.fm.aY).bind λx32=>(lI.ag[0+x32]?).bind λCg=>(YY a c.fm.bj Cg.aD).bind λrX=>if !rX then
 (setAt c.bW.ah x3 lI).bind λuN=>V (I,(ad4 (ad2 c.bW.ay uN) c.fm))
 else
 (setAt c.bW.ah x3 lI).bind λuN=>(aii a (ad4 (ad2 c.bW.ay uN) c.fm)).bind λx45=>if x45 then
 (setAt c.bW.ah x3 lI).bind λz49=>V (I,(ad4 (ad2 c.bW.ay z49) c.fm))
 else
 (aih a lI.ag c.fm.aY (aW (c.fm.aY+1))).bind λx56=>(setAt c.bW.ah x3 (ad3 lI.aM x56.2 lI.aH lI.ar lI.aL)).bind λz63=>(aif a (ad4 (ad2 c.bW.ay z63) c.fm)).bind λx64=>V (M,x64)
def aMt:KK (A149 []) ng (ajI a):=λg0 r h=>be h λ_ eM h=>be h λlI Yu h=>be h λwP ow h=>be h λ_ jN h=>let zA:SE:=[(1,.ord [0,2,3,4,5,6,1,7,8]),(6,.call (OL a eM) [(0,0),(bD,bD)] []),(2,cm.oJ eW bD gE 1 I 73 2 lI.ag Yu (bV lI)),(2,.AS (iy.aFx (aaP a jN) ((show _=((q34_ (bg g0 (.sl 0 44 5 wP.length (dF wP))) g0):List AV) by kernel_rfl).trans (bF (λn_=>((q34_ (bg g0 (.sl 0 44 5 n_ (dF wP))) g0):List AV)) (ey ow).symm))) [cm.iH eW (r:= (bV lI)) bD gE 1 I 73 2 lI.ag ow,cm.frzN I bD wP (ey ow),.er 0 (Q:= []) (n:=0) rfl] trivial [] [])];ie h (λc0 h=>be h λ_ agi h=>bq h zA [aB c0,(5,cm.iH eW (r:= (bV lI)) bD gE 1 I 73 2 lI.ag agi),(0,.beq 0 (bF (λn_=>((lK (bg g0 (.ms bD 5 0 n_))))) (ey agi)))]) λc0 h=>be h λ_ aAN h=>be h λ_ JL h=>be h λ_ xE h=>let zB:SE:=dk zA [aB c0,(11,cX aAN),(1,eW.row JL),iX (aqz a xE)];ie h (λc1 h=>be h λuN pH h=>bq h zB [aB c1,(4,cm.iH eW (r:= (bV lI)) bD gE 1 I 73 2 lI.ag pH),(0,.beq 0 (bF (λn_=>((lK (bg g0 (.ms bD 5 0 n_))))) (ey pH)))]) λc1 h=>be h λuN pH h=>be h λ_ aAL h=>let zC:SE:=dk zB [aB c1,(3,.AS (iy.aFx (aER a aAL) ((show _=([.kh (bg g0 (.sl 0 44 5 uN.length (dF uN)))]:List AV) by kernel_rfl).trans (bF (λn_=>([.kh (bg g0 (.sl 0 44 5 n_ (dF uN)))]:List AV)) (ey pH).symm))) [cm.iH eW (r:= (bV lI)) bD gE 1 I 73 2 lI.ag pH,cm.frzN I bD uN (ey pH),.er 0 (Q:= []) (n:=0) rfl] trivial [] [])];ie h (λc2 bE=>by subst c2;exact (be bE λz49 Ma bE=>bq bE zC [(2,cm.iH eW (r:= (bV lI)) bD gE 1 I 73 2 lI.ag Ma),(0,.beq 0 (bF (λn_=>((lK (bg g0 (.ms bD 5 0 n_))))) (ey Ma)))])) λc2 bE=>by subst c2;exact (be bE λx56 hx56 bE=>be bE λz63 hz63 bE=>be bE λx64 apV bE=>bq bE zC [(9,.call (aEQ a hx56) [(gE,0)] []),(2,cm.Aj 1 (bV lI) (bV lI) Yu),(1,cm.iH eW (r:= (bV lI)) bD gE 1 I 73 2 x56.2 hz63),(0,.beq 0 (bF (λn_=>((lK (bg g0 (.ms bD 5 0 n_))))) (ey hz63))),(0,.call (aEP a apV) [(0,0),(bD,bD)] [])])
def aix:=ajI
def aQr:KK (Cx E0 149 rf qU) ng (aix a):=λ_ _ h=>ca (X:=x149) (aMt a h)
def x150:=fx E0 Tryz.f150 [0,bD]
def A150:=Ax x150 rf qU
def ajH:Z (Bool×aJ):=
 (EW a c).bind λx3=>(Ru a c c.fm.aY).bind λjd=>if !jd then
 V (I,c)
 else
 (Ru a c c.fm.kr).bind λl7=>if !l7 then
 V (I,c)
 else
 (c.bW.ah[x3]?).bind λqB=>(dX qB.ag.length c.fm.aY).bind λrX=>(qB.ag[0+rX]?).bind λuO=>(aih a qB.ag c.fm.aY (aW (c.fm.aY+1))).bind λx59=>(aCs a x59.2 c.fm.kr [uO]).bind λx76=>(setAt c.bW.ah x3 (ad3 qB.aM x76.2 qB.aH qB.ar qB.aL)).bind λz83=>(aif a (ad4 (ad2 c.bW.ay z83) c.fm)).bind λx84=>V (M,x84)
def aMs:KK (A150 []) ng (ajH a):=λg0 r h=>be h λ_ eM h=>be h λ_ hI h=>let zA:SE:=[(2,.call (OL a eM) [(0,0),(bD,bD)] []),(7,.AS (aaP a hI) [cm.tfr I bD g0.bW.ah,.er 0 (Q:= []) (n:=0) rfl] trivial [] [])];ie h (λc0 h=>bq h zA [aB c0]) λc0 h=>be h λ_ nr h=>let zB:SE:=dk zA [aB c0,(7,.AS (aaP a nr) [cm.tfr I bD g0.bW.ah,.er 0 (Q:= []) (n:=0) rfl] trivial [] [])];ie h (λc1 h=>bq h zB [aB c1]) λc1 h=>be h λqB Yt h=>be h λ_ xE h=>be h λ_ D4 h=>be h λ_ agj h=>be h λx76 hx76 h=>be h λ_ hz83 h=>be h λ_ hx84 h=>bq h zB [aB c1,(1,cm.oJ eW bD gE 1 I 73 2 qB.ag Yt (bV qB)),(9,cX xE),(0,eW.row D4),(18,.call (aEQ a agj) [(gE,0)] []),(2,cm.Aj 1 (bV qB) (bV qB) Yt),(12,.call (aQd a hx76) [(66,2),(gE,jg)] []),(2,cm.Aj 1 (bV qB) (bV qB) Yt),(1,cm.iH eW (r:= (bV qB)) bD gE 1 I 73 2 x76.2 hz83),(0,.beq 0 (bF (λn_=>((lK (bg g0 (.ms bD 5 0 n_))))) (ey hz83))),(0,.call (aEP a hx84) [(0,0),(bD,bD)] [])]
def aiw:=ajH
def aQq:KK (Cx E0 150 rf qU) ng (aiw a):=λ_ _ h=>ca (X:=x150) (aMs a h)
def x151:=fx E0 Tryz.f151 [0,bD]
def A151:=Ax x151 rf qU
def ajG:Z (Bool×aJ):=
 (EW a c).bind λx3=>(c.bW.ah[x3]?).bind λu6=>if iL (c.fm.aY<0) then
 (setAt c.bW.ah x3 u6).bind λwP=>V (I,(ad4 (ad2 c.bW.ay wP) c.fm))
 else
 if !iL (c.fm.aY<(u6.ag.length:Int)) then
 (setAt c.bW.ah x3 u6).bind λz28=>V (I,(ad4 (ad2 c.bW.ay z28) c.fm))
 else
 (dX u6.ag.length c.fm.aY).bind λHb=>(u6.ag[0+Hb]?).bind λDu=>(setAt u6.ag (0+Hb) (cA.mk c.fm.aM Du.aD)).bind λz45=>(setAt c.bW.ah x3 (ad3 u6.aM z45 u6.aH u6.ar u6.aL)).bind λz48=>V (M,(ad4 (ad2 c.bW.ay z48) c.fm))
def aMr:KK (A151 []) ng (ajG a):=λg0 r h=>be h λx3 eM h=>be h λu6 Bo h=>let zA:SE:=[(2,.call (OL a eM) [(0,0),(bD,bD)] []),(1,cm.oJ eW bD gE 1 I 73 2 u6.ag Bo (bV u6))];ie h (λc0 h=>be h λ_ ow h=>bq h zA [bP c0,(3,cm.iH eW (r:= (bV u6)) bD gE 1 I 73 2 u6.ag ow),(0,.beq 0 (bF (λn_=>((lK (bg g0 (.ms bD 5 0 n_))))) (ey ow)))]) λc0 h=>ie h (λc1 h=>be h λ_ yN h=>bq h zA [bP c0,(11,eb c1),(2,cm.iH eW (r:= (bV u6)) bD gE 1 I 73 2 u6.ag yN),(0,.beq 0 (bF (λn_=>((lK (bg g0 (.ms bD 5 0 n_))))) (ey yN)))]) λc1 h=>be h λ_ QV h=>be h λ_ Yq h=>be h λz45 hz45 h=>be h λ_ hz48 h=>bq h zA [bP c0,(11,eb c1),(15,cX QV),(1,eW.uR 0 [.str g0.fm.aM] Yq hz45),(1,.beq bD (bF (X9 (((dF g0.bW.ah)).set x3 (bV u6)) (x3*5+1) gE) (ey hz45))),(0,cm.iH eW (r:= (bV u6)) bD gE 1 I 73 2 z45 hz48),(0,.beq 0 (bF (λn_=>((lK (bg g0 (.ms bD 5 0 n_))))) (ey hz48)))]
def aiv:=ajG
def aQp:KK (Cx E0 151 rf qU) ng (aiv a):=λ_ _ h=>ca (X:=x151) (aMr a h)
def x152:=fx E0 Tryz.f152 [0,bD]
def A152:=Ax x152 rf qU
def ajF:Z (Bool×aJ):=
 (EW a c).bind λx3=>(c.bW.ah[x3]?).bind λlI=>(setAt c.bW.ah x3 (ad3 c.fm.aM lI.ag lI.aH lI.ar lI.aL)).bind λz14=>V (M,(ad4 (ad2 c.bW.ay z14) c.fm))
def aMq:KK (A152 []) ng (ajF a):=λg0 r h=>be h λ_ eM h=>be h λ_ Yu h=>be h λ_ hz14 h=>rr h [(1,.ord [0,2,3,4,5,6,1,7,8,9]),(6,.call (OL a eM) [(0,0),(bD,bD)] []),(2,cm.uR 0 [.str g0.fm.aM] Yu hz14),(1,.beq 0 (bF (λn_=>((lK (bg g0 (.ms bD 5 0 n_))))) (ey hz14)))]
def aiu:=ajF
def aQo:KK (Cx E0 152 rf qU) ng (aiu a):=λ_ _ h=>ca (X:=x152) (aMq a h)
def ami:List (Nat×Bx):= (q6_ (bg ds.2 (.ms jg 5 0 ds.2.bW.ah.length)) jg ds.2)
def x153:=fx E0 Tryz.f153 [0,jg]
def A153:=Ax x153 rf ami
def alv:LS:=⟨[aX 0],(q6_ (bg c (.ms jg 5 0 c.bW.ah.length)) jg c)⟩
def ajE:Z (Bool×aJ):=
 (F96 a c.fm.bp).bind λdC=>(app c.bW.ah [dC]).bind λgd=>(setAt gd c.bW.ah.length dC).bind λz22=>V (M,(ad4 (ad2 c.bW.ay z22) c.fm))
def aMp:KK (A153 []) alv (ajE a):=λg0 r h=>be h λdC fE h=>be h λ_ iB h=>be h λ_ xD h=>rr h [(12,.call (ev96 a fE) [] [(330140001,ub),(330140003,201003),(330140004,201004)]),(1,cm.Lr iB),(4,.beq jg (bF (λq_=>Bx.tree 44 5 oa q_ (apk (g0.bW.ah.length*5+1) 330140001 dC (g0.bW.ah.length*5+3) 330140003 (g0.bW.ah.length*5+4) 330140004)) (cm.apS (r:= (cN dC)) iB))),(0,cm.ke eW (r:= (cN dC)) jg 330140001 1 I 73 2 dC.ag xD (ta dC)),(0,cm.ke fj (r:= (ta dC)) jg 330140003 3 I 121 2 dC.ar xD (ni dC)),(0,cm.iH eR (r:= (ni dC)) jg 330140004 4 I 107 13 dC.aL xD),(1,.beq 0 (bF (λn_=>((lK (bg g0 (.ms jg 5 0 n_))))) (((cm.apL iB).trans (ey xD)))))]
def ait:=ajE
def aQn:KK (Cx E0 153 rf ami) alv (ait a):=λ_ _ h=>ca (X:=x153) (aMp a h)
def aou:=fx E0 Tryz.f154 [0,bD]
def nY:=Ax aou rf qU
def Xb (jk:cY) (dS:bL):LS:=⟨[aX 0,(3,bH b),(15,.ms bD 5 0 a7.length),(16,bH d),(17,bH g),(23,.ms fu 2 0 dS.length),(24,bH o),(25,bH x)],[(0,lK (bg ax (.ms bD 5 0 a7.length))),(bD,Gt (((dF a7)).set bB (cN cr)) (bB*5+4) kF ct.length (bB*5+3) fu dS.length (bB*5+1) gE jk.length),(gE,xy jk),(fu,Ci dS),(kF,DO ct)]⟩
def zP:LS:=⟨[aX 0,(15,.ms bD 5 0 t.length),(16,bH b),(17,bH d)],[(0,lK (bg c (.ms bD 5 0 t.length))),(bD,zn t)]⟩
def Xa:LS:=⟨[aX 0,aX 8,(73,.ms bD 5 0 cu.length),(74,bH b),(75,bH d),(80,.ms fu 2 0 bY.length),(81,bH g),(82,bH o)],[(0,lK (bg ax (.ms bD 5 0 cu.length))),(8,gP (eK ap (.ms gE 2 0 cs.length) (.ms fu 2 0 bY.length) (.ms kF 13 0 ct.length))),(bD,Gt (((dF cu)).set bR (cN bQ)) (bR*5+4) kF ct.length (bR*5+3) fu bY.length (bR*5+1) gE cs.length),(gE,xy cs),(fu,Ci bY),(kF,DO ct)]⟩
def zO:LS:=⟨[aX 0,(73,.ms bD 5 0 t.length),(74,bH b),(75,bH d)],[(0,lK (bg c (.ms bD 5 0 t.length))),(bD,zn t)]⟩
def W9:LS:=⟨[],[(0,lK (bg c (.ms bD 5 0 t.length))),(bD,zn t)]⟩
def W8:LS:=⟨[aX 0],[(0,lK (bg c (.ms bD 5 0 t.length))),(bD,zn t)]⟩
def U3 (back:Int->Int->Int->Int->Int->aJ->bw->ai->Nat->br->cY->bL->Z (Bool×aJ)) (n:Nat) (i3 t16 t17 t24 t25:Int) (b0:aJ) (cf:bw) (bN:ai) (dZ:Nat) (dw:br) (jk:cY) (dS:bL):Z (Bool×aJ):=
 if iL (t25<t24) then
 (dX dS.length t25).bind λx2=>(dS[0+x2]?).bind λu5=>if i3 !=b0.fm.av then
 if u5.av==b0.fm.av then
 (setAt dS (0+x2) u5).bind λz26=>(setAt cf dZ (ad3 bN.aM jk bN.aH z26 dw)).bind λz28=>V (I,(ad4 (ad2 b0.bW.ay z28) b0.fm))
 else
 (setAt dS (0+x2) u5).bind λz28=>back i3 t16 t17 t24 (aW (t25+1)) (ad4 (ad2 b0.bW.ay cf) b0.fm) cf (ad3 bN.aM [] bN.aH [] []) dZ dw jk z28
 else
 (setAt dS (0+x2) u5).bind λz20=>back i3 t16 t17 t24 (aW (t25+1)) (ad4 (ad2 b0.bW.ay cf) b0.fm) cf (ad3 bN.aM [] bN.aH [] []) dZ dw jk z20
 else
 (setAt cf dZ (ad3 bN.aM jk bN.aH dS dw)).bind λz2=>cb t16 t17 (ad4 (ad2 b0.bW.ay z2) b0.fm) z2
def aMo {aA} (aU:KK (nY (aI 485)) zP aA) {back} (aK:KK (nY (aI 5733)) Xb back) (n:Nat):KK (nY (aI 5733)) Xb (U3 aA back n):=λ_ _ _ _ _ b0 cf bN dZ dw jk dS r h=>ie h (λc0 h=>be h λ_ di h=>be h λu5 wZ h=>let zA:SE:=[aB c0,(0,cX di),(0,fj.oJ R3 fu pt 0 I 3 1 u5.ag wZ (qa u5.av)),(0,fj.BS [0] (qa u5.av) wZ)];ie h (λc1 h=>ie h (λc2 h=>be h λz26 agi h=>be h λz28 yN h=>bq h zA [iG c1,iG c2,(1,fj.iH R3 (r:= (qa u5.av)) fu pt 0 I 3 1 u5.ag agi),(0,.beq bD (bF (λn_=>((Gt (((dF cf)).set dZ (cN bN)) (dZ*5+4) kF dw.length (dZ*5+3) fu n_ (dZ*5+1) gE jk.length))) (ey agi))),(0,cm.ke eR (r:= (cN bN)) bD kF 4 I 107 13 dw yN (xR bN (.slice 107 13 dw.length (dP dw)))),(0,cm.ke fj (r:= (xR bN (.slice 107 13 dw.length (dP dw)))) bD fu 3 I 121 2 z26 yN (xS bN (.slice 121 2 z26.length (eo z26)) (.slice 107 13 dw.length (dP dw)))),(0,cm.iH eW (r:= (xS bN (.slice 121 2 z26.length (eo z26)) (.slice 107 13 dw.length (dP dw)))) bD gE 1 I 73 2 jk yN),(1,.beq 0 (bF (λn_=>((lK (bg b0 (.ms bD 5 0 n_))))) (ey yN)))]) λc2 h=>be h λz28 yN h=>cB (aK h) zA [iG c1,iG c2,(3,fj.iH R3 (r:= (qa u5.av)) fu pt 0 I 3 1 u5.ag yN),(0,.seq 23 (bF (AV.ms fu 2 0) (ey yN))),(0,.beq bD (bF (λn_=>((Gt (((dF cf)).set dZ (cN bN)) (dZ*5+4) kF dw.length (dZ*5+3) fu n_ (dZ*5+1) gE jk.length))) (ey yN)))]) λc1 h=>be h λ_ JH h=>cB (aK h) zA [iG c1,(4,fj.iH R3 (r:= (qa u5.av)) fu pt 0 I 3 1 u5.ag JH),(0,.seq 23 (bF (AV.ms fu 2 0) (ey JH))),(0,.beq bD (bF (λn_=>((Gt (((dF cf)).set dZ (cN bN)) (dZ*5+4) kF dw.length (dZ*5+3) fu n_ (dZ*5+1) gE jk.length))) (ey JH)))]) λc0 h=>be h λ_ nj h=>ra (aU h) [aB c0,(0,cm.ke eR (r:= (cN bN)) bD kF 4 I 107 13 dw nj (xR bN (.slice 107 13 dw.length (dP dw)))),(0,cm.ke fj (r:= (xR bN (.slice 107 13 dw.length (dP dw)))) bD fu 3 I 121 2 dS nj (xS bN (.slice 121 2 dS.length (eo dS)) (.slice 107 13 dw.length (dP dw)))),(0,cm.iH eW (r:= (xS bN (.slice 121 2 dS.length (eo dS)) (.slice 107 13 dw.length (dP dw)))) bD gE 1 I 73 2 jk nj),(0,.seq 15 (bF (AV.ms bD 5 0) (ey nj))),(0,.beq 0 (bF (λn_=>((lK (bg b0 (.ms bD 5 0 n_))))) (ey nj)))]
def Iq (aA:MU):Nat->Int->Int->Int->Int->Int->aJ->bw->ai->Nat->br->cY->bL->Z (Bool×aJ)
 |0=>dv.z
 |n+1=>U3 aA (Iq aA n) n
def awI {aA} (aU:KK (nY (aI 485)) zP aA):∀n:Nat,KK (nY (aI 5733)) Xb (Iq aA n)
 |0=>KC.h
 |n+1=>aMo aU (awI aU n) n
def U2 (n:Nat) (t16 t17:Int) (b0:aJ) (cf:bw):Z (Bool×aJ):=
 cb t16 (aW (t17+1)) (ad4 (ad2 b0.bW.ay cf) b0.fm) cf
def aMn {bh} (cF:KK (nY [0,1,0,1]) zP bh) (n:Nat):KK (nY (aI 485)) zP (U2 bh n):=λ_ _ _ _ r h=>ra (cF h) []
def U1:Z (Bool×aJ):=
 if iL (df<co) then
 (dX dz.length df).bind λx3=>(dz[0+x3]?).bind λu6=>Iq (U2 dB cn) cn df co df (u6.ar.length:Int) 0 (ad4 (ad2 d5.bW.ay dz) d5.fm) dz (ad3 u6.aM [] u6.aH [] []) (0+x3) u6.aL u6.ag u6.ar
 else
 dA (ad4 (ad2 d5.bW.ay dz) d5.fm) dz
def aMm {lM} (tH:KK (nY [1,1]) W8 lM) {back} (aK:KK (nY [0,1,0,1]) zP back) (n:Nat):KK (nY [0,1,0,1]) zP (U1 lM back n):=λ_ _ _ _ r h=>ie h (λc0 h=>be h λ_ eM h=>be h λu6 Bo h=>ra (awI (aMn aK n) n h) [aB c0,(1,cX eM),(0,cm.oJ eW bD gE 1 I 73 2 u6.ag Bo (bV u6)),(0,cm.xi fj (r:= (bV u6)) bD fu 3 I 121 2 u6.ar Bo (eJ u6)),(0,cm.xi eR (r:= (eJ u6)) bD kF 4 I 107 13 u6.aL Bo (cN u6)),(0,cm.BS [4,3,1] (cN u6) Bo)]) λc0 h=>ra (tH h) [aB c0]
def EK (lM:arI):Nat->Int->Int->aJ->bw->Z (Bool×aJ)
 |0=>dv.z
 |n+1=>U1 lM (EK lM n) n
def awH {lM} (tH:KK (nY [1,1]) W8 lM):∀n:Nat,KK (nY [0,1,0,1]) zP (EK lM n)
 |0=>KC.h
 |n+1=>aMm tH (awH tH n) n
def Nq (back:Int->Int->Int->Int->aJ->ai->cY->br->bw->ai->Nat->bL->Z (Bool×aJ)) (n:Nat) (t74 t75 t81 t82:Int) (b0:aJ) (b8:ai) (jk:cY) (dw:br) (cf:bw) (bN:ai) (dZ:Nat) (dS:bL):Z (Bool×aJ):=
 if iL (t82<t81) then
 (dX dS.length t82).bind λx3=>(dS[0+x3]?).bind λu6=>if iL (b0.fm.av<u6.av) then
 (dX dS.length t82).bind λfK=>(setAt dS (0+x3) u6).bind λz29=>(z29[0+fK]?).bind λu30=>(setAt z29 (0+fK) (bl.mk u30.ag (aW (u6.av-1)))).bind λz32=>back t74 t75 t81 (aW (t82+1)) (ad4 (ad2 b0.bW.ay cf) b0.fm) (ad3 b8.aM jk b8.aH z32 dw) jk dw cf (ad3 bN.aM [] bN.aH [] []) dZ z32
 else
 (setAt dS (0+x3) u6).bind λz21=>back t74 t75 t81 (aW (t82+1)) (ad4 (ad2 b0.bW.ay cf) b0.fm) (ad3 b8.aM jk b8.aH z21 dw) jk dw cf (ad3 bN.aM [] bN.aH [] []) dZ z21
 else
 (setAt cf dZ (ad3 bN.aM jk bN.aH dS dw)).bind λz2=>cb t74 t75 (ad4 (ad2 b0.bW.ay z2) b0.fm) z2
def aMl {db} (fh:KK (nY (aI 1943)) zO db) {back} (aK:KK (nY (aI 22935)) Xa back) (n:Nat):KK (nY (aI 22935)) Xa (Nq db back n):=λ_ _ _ _ b0 b8 jk dw cf bN dZ dS r h=>ie h (λc0 h=>be h λ_ eM h=>be h λu6 Bo h=>let zA:SE:=[aB c0,(1,cX eM),(0,fj.oJ R3 fu pt 0 I 3 1 u6.ag Bo (qa u6.av)),(0,fj.BS [0] (qa u6.av) Bo)];ie h (λc1 h=>be h λ_ ki h=>be h λ_ apU h=>be h λ_ hu30 h=>be h λ_ apT h=>cB (aK h) zA [(10,eb c1),(6,cX ki),(1,fj.iH R3 (r:= (qa u6.av)) fu pt 0 I 3 1 u6.ag apU),(0,fj.uR 1 [bH (aW (u6.av-1))] hu30 apT),(2,.seq 80 (bF (AV.ms fu 2 0) (((l8 apT).trans (l8 apU)).symm))),(0,.beq 8 (bF (λn_=>((gP (eK b8 (.ms gE 2 0 jk.length) (.ms fu 2 0 n_) (.ms kF 13 0 dw.length))))) (((l8 apT).trans (l8 apU)).symm))),(0,.beq bD (bF (λn_=>((Gt (((dF cf)).set dZ (cN bN)) (dZ*5+4) kF dw.length (dZ*5+3) fu n_ (dZ*5+1) gE jk.length))) (((l8 apT).trans (l8 apU)).symm)))]) λc1 h=>be h λ_ yO h=>cB (aK h) zA [(10,eb c1),(2,fj.iH R3 (r:= (qa u6.av)) fu pt 0 I 3 1 u6.ag yO),(0,.seq 80 (bF (AV.ms fu 2 0) (ey yO))),(0,.beq 8 (bF (λn_=>((gP (eK b8 (.ms gE 2 0 jk.length) (.ms fu 2 0 n_) (.ms kF 13 0 dw.length))))) (ey yO))),(0,.beq bD (bF (λn_=>((Gt (((dF cf)).set dZ (cN bN)) (dZ*5+4) kF dw.length (dZ*5+3) fu n_ (dZ*5+1) gE jk.length))) (ey yO)))]) λc0 h=>be h λ_ nj h=>ra (fh h) [aB c0,(0,cm.ke eR (r:= (cN bN)) bD kF 4 I 107 13 dw nj (xR bN (.slice 107 13 dw.length (dP dw)))),(0,cm.ke fj (r:= (xR bN (.slice 107 13 dw.length (dP dw)))) bD fu 3 I 121 2 dS nj (xS bN (.slice 121 2 dS.length (eo dS)) (.slice 107 13 dw.length (dP dw)))),(0,cm.iH eW (r:= (xS bN (.slice 121 2 dS.length (eo dS)) (.slice 107 13 dw.length (dP dw)))) bD gE 1 I 73 2 jk nj),(0,.seq 73 (bF (AV.ms bD 5 0) (ey nj))),(0,.beq 0 (bF (λn_=>((lK (bg b0 (.ms bD 5 0 n_))))) (ey nj)))]
def EJ (db:MU):Nat->Int->Int->Int->Int->aJ->ai->cY->br->bw->ai->Nat->bL->Z (Bool×aJ)
 |0=>dv.z
 |n+1=>Nq db (EJ db n) n
def awG {db} (fh:KK (nY (aI 1943)) zO db):∀n:Nat,KK (nY (aI 22935)) Xa (EJ db n)
 |0=>KC.h
 |n+1=>aMl fh (awG fh n) n
def U0 (n:Nat) (t74 t75:Int) (b0:aJ) (cf:bw):Z (Bool×aJ):=
 cb t74 (aW (t75+1)) (ad4 (ad2 b0.bW.ay cf) b0.fm) cf
def aMk {eO} (iD:KK (nY (aI 87)) zO eO) (n:Nat):KK (nY (aI 1943)) zO (U0 eO n):=λ_ _ _ _ r h=>ra (iD h) []
def UZ:Z (Bool×aJ):=
 if iL (df<co) then
 (dX dz.length df).bind λx2=>(dz[0+x2]?).bind λu5=>EJ (U0 dB cn) cn co df (u5.ar.length:Int) 0 (ad4 (ad2 d5.bW.ay dz) d5.fm) u5 u5.ag u5.aL dz (ad3 u5.aM [] u5.aH [] []) (0+x2) u5.ar
 else
 dA (ad4 (ad2 d5.bW.ay dz) d5.fm) dz
def aMj {jh} (oB:KK (nY [1,1,1,1]) W9 jh) {back} (aK:KK (nY (aI 87)) zO back) (n:Nat):KK (nY (aI 87)) zO (UZ jh back n):=λ_ _ _ _ r h=>ie h (λc0 h=>be h λ_ di h=>be h λu5 wZ h=>ra (awG (aMk aK n) n h) [aB c0,(0,cX di),(0,cm.oJ eW bD gE 1 I 73 2 u5.ag wZ (bV u5)),(0,cm.xi fj (r:= (bV u5)) bD fu 3 I 121 2 u5.ar wZ (eJ u5)),(0,cm.xi eR (r:= (eJ u5)) bD kF 4 I 107 13 u5.aL wZ (cN u5)),(0,cm.BS [4,3,1] (cN u5) wZ)]) λc0 h=>ra (oB h) [aB c0]
def EI (jh:arI):Nat->Int->Int->aJ->bw->Z (Bool×aJ)
 |0=>dv.z
 |n+1=>UZ jh (EI jh n) n
def awF {jh} (oB:KK (nY [1,1,1,1]) W9 jh):∀n:Nat,KK (nY (aI 87)) zO (EI jh n)
 |0=>KC.h
 |n+1=>aMj oB (awF oB n) n
def ajD (n:Nat) (b0:aJ) (cf:bw):Z (Bool×aJ):=
 V (M,(ad4 (ad2 b0.bW.ay cf) b0.fm))
def aMi:KK (nY [1,1,1,1]) W9 (ajD a):=λ_ _ r h=>rr h []
def UY:Z (Bool×aJ):=
 (aCr a t c.fm.av (aW (c.fm.av+1))).bind λja=>EI (ajD a) a (ja.2.length:Int) 0 (ad4 (ad2 c.bW.ay ja.2) c.fm) ja.2
def aMh:KK (nY [1,1]) W8 (UY a):=λ_ _ r h=>be h λ_ jN h=>ra (awF (aMi a) a h) [(17,.call (aQc a jN) [(bD,0)] [])]
def ajC:Z (Bool×aJ):=
 EK (UY a) a (c.bW.ah.length:Int) 0 c c.bW.ah
def aMg:KK (nY []) ng (ajC a):=λ_ r h=>ra (awH (aMh a) a h) []
def ais:=ajC
def aQm:KK (Cx E0 154 rf qU) ng (ais a):=λ_ _ h=>ca (X:=aou) (aMg a h)
def Sp:AV:=.ms bA 1 0 q.length
def amc:List (Nat×Bx):= [(bA,Jq q)]
def x201:=fx E0 Tryz.f201 []
def A201:=Ax x201 Sp amc
def alg:LS:=⟨[(0,.slice 70 1 q.length (l9 q))],[]⟩
def Us (n:Nat) (s0:bK):Z bK:=
 (atQ s0).bind λx3=>(app [] s0).bind λx7=>V x7
def aKI:KK (A201 []) alg (Us a):=λ_ r h=>be h λ_ eM h=>be h λ_ iE h=>rr h [(2,.seq 3 (bF (λq_=>(AV.slice 70 1 q_.length (l9 q_))) (atP eM))),(3,na.app iE),(1,.iR 5 bA)]
def YU:=Us
def aPY:KK (Cx E0 201 Sp amc) alg (YU a):=λ_ _ h=>ca (X:=x201) (aKI a h)
def Ho (r:bK):AV:=.dr []
def Dd:List (Nat×Bx):= [(0,Jq q)]
def x228:=fx E0 Tryz.f228 [0]
def E1:=Ax x228 Ho Dd
def Wn:LS:=⟨[(0,.ms 0 1 0 q.length),(1,bH b),(2,bH d),(3,X8),(8,bH g),(9,bH o)],[(0,Jq q)]⟩
def zK:LS:=⟨[(0,.ms 0 1 0 q.length),(1,bH b),(2,bH d),(3,X8),(8,bH g)],[(0,Jq q)]⟩
def alc:LS:=⟨[(0,.ms 0 1 0 q.length),(1,bH m),(2,bH s),(3,X8)],[(0,Jq q)]⟩
def IT (back:Int->Int->Int->Int->bK->Z bK) (n:Nat) (a1 b2 i8 j9:Int) (b0:bK):Z bK:=
 if iL (a1<j9) then
 (dX b0.length j9).bind λx8=>(b0[0+x8]?).bind λeN=>(dX b0.length (aW (j9-1))).bind λfT=>(b0[0+fT]?).bind λiQ=>(F67 n eN iQ).bind λkO=>if iL (kO<0) then
 (dX b0.length (aW (j9-1))).bind λqY=>(b0[0+qY]?).bind λkC=>(dX b0.length j9).bind λrX=>(b0[0+rX]?).bind λuO=>(dX b0.length j9).bind λHb=>(b0[0+Hb]?).bind λx43=>(setAt b0 (0+Hb) kC).bind λuN=>(dX b0.length (aW (j9-1))).bind λyz=>(uN[0+yz]?).bind λx48=>(setAt uN (0+yz) uO).bind λz49=>back a1 b2 i8 (aW (j9-1)) z49
 else
 cQ a1 b2 i8 b0
 else
 cQ a1 b2 i8 b0
def aKt {aA} (aU:KK (E1 [1,1,0,0,1]) zK aA) {back} (aK:KK (E1 (aI 329)) Wn back) (n:Nat):KK (E1 (aI 329)) Wn (IT aA back n):=λ_ _ _ _ _ r h=>ie h (λc0 h=>be h λ_ lN h=>be h λ_ iK h=>be h λ_ kU h=>be h λ_ iJ h=>be h λ_ mV h=>let zA:SE:=[aQ c0,(4,cX lN),(0,na.row iK),(3,cX kU),(0,na.row iJ),iX (Q7 n mV)];ie h (λc1 h=>be h λ_ rO h=>be h λkC pI h=>be h λ_ xE h=>be h λuO D4 h=>be h λ_ QV h=>be h λ_ JK h=>be h λ_ pH h=>be h λ_ JJ h=>be h λ_ agl h=>be h λ_ Ma h=>cB (aK h) zA [aB c1,(9,cX rO),(0,na.row pI),(2,cX xE),(0,na.row D4),(0,cX QV),(0,na.uR 0 [.slice 38 3 kC.length (dm kC)] JK pH),(0,cX JJ),(0,na.uR 0 [.slice 38 3 uO.length (dm uO)] agl Ma),(3,.seq 0 (bF (AV.ms 0 1 0) (((l8 Ma).trans (l8 pH)).symm)))]) λc1 h=>cB (aU h) zA [aB c1]) λc0 h=>ra (aU h) [aQ c0]
def H7 (aA:arH):Nat->Int->Int->Int->Int->bK->Z bK
 |0=>dv.z
 |n+1=>IT aA (H7 aA n) n
def awe {aA} (aU:KK (E1 [1,1,0,0,1]) zK aA):∀n:Nat,KK (E1 (aI 329)) Wn (H7 aA n)
 |0=>KC.h
 |n+1=>aKt aU (awe aU n) n
def zh (n:Nat) (a1 b2 i8:Int) (b0:bK):Z bK:=
 cQ a1 b2 (aW (i8+1)) b0
def aKs {bh} (cF:KK (E1 [0,1]) zK bh) (n:Nat):KK (E1 [1,1,0,0,1]) zK (zh bh n):=λ_ _ _ _ r h=>ra (cF h) []
def IS:Z bK:=
 if iL (ce<bb) then
 H7 (zh cQ cT) cT cU bb ce ce dc
 else
 V dc
def aKr {back} (aK:KK (E1 [0,1]) zK back) (n:Nat):KK (E1 [0,1]) zK (IS back n):=λ_ _ _ _ r h=>ie h (λc0 h=>ra (awe (aKs aK n) n h) [aQ c0]) λc0 h=>rr h [aQ c0]
def uh:Nat->Int->Int->Int->bK->Z bK
 |0=>dv.z
 |n+1=>IS (uh n) n
def awd:∀n:Nat,KK (E1 [0,1]) zK (uh n)
 |0=>KC.h
 |n+1=>aKr (awd n) n
def Uk:Z bK:=
 uh a m s (aW (m+1)) q
def aKq:KK (E1 []) alc (Uk a):=λ_ _ _ r h=>ra (awd a h) []
def Rr:=Uk
def aPQ:KK (Cx E0 228 Ho Dd) alc (Rr a):=λ_ _ _ _ h=>ca (X:=x228) (aKq a h)
def x221:=fx E0 Tryz.f221 [0]
def atL:=Ax x221 Ho Dd
def Wo:LS:=⟨[(0,.ms 0 1 0 aG.length),(1,bH b),(2,bH d),(3,bH g),(4,X8),(10,.bool L),(11,.bool bu)],[(0,Jq aG)]⟩
def ald:LS:=⟨[(0,.ms 0 1 0 q.length),(1,bH m),(2,bH s),(3,bH D),(4,X8)],[(0,Jq q)]⟩
def IU (back:Int->Int->Int->Bool->Bool->bK->Z bK) (n:Nat) (a1 b2 HE:Int) (KO Dw:Bool) (b0:bK):Z bK:=
 if !iL (12<(aW (b2-a1))) then
 (Rr n b0 a1 b2).bind λdN=>(gU dN.length b0.length).bind λw12=>V dN
 else
 G
def aKv {back} (aK:KK (atL [0,1,1]) Wo back) (n:Nat):KK (atL [0,1,1]) Wo (IU back n):=λ_ _ _ _ _ _ r h=>ie h (λc0 h=>be h λ_ fN h=>be h λ_ hw12 h=>rr h [bP c0,(4,.call (aPQ n fN) [(0,0)] [])]) λc0 h=>nz h
def MZ:Nat->Int->Int->Int->Bool->Bool->bK->Z bK
 |0=>dv.z
 |n+1=>IU (MZ n) n
def awf:∀n:Nat,KK (atL [0,1,1]) Wo (MZ n)
 |0=>KC.h
 |n+1=>aKv (awf n) n
def ayR:Z bK:=
 MZ a m s D M M q
def aKu:KK (atL []) ald (ayR a):=λ_ _ _ _ r h=>ra (awf a h) []
def YS:=ayR
def aPR:KK (Cx E0 221 Ho Dd) ald (YS a):=λ_ _ _ _ _ h=>ca (X:=x221) (aKu a h)
def x202:=fx E0 Tryz.f202 [0]
def A202:=Ax x202 Ho Dd
def alf:LS:=⟨[(0,.ms 0 1 0 q.length),(1,X8)],[(0,Jq q)]⟩
def Ur:Z bK:=
 (YW a (Y' .u64 ((q.length:Int)))).bind λx8=>(YS a q 0 (q.length:Int) x8).bind λdN=>(gU dN.length q.length).bind λw12=>V dN
def aKH:KK (A202 []) alf (Ur a):=λ_ r h=>be h λ_ lN h=>be h λ_ fN h=>be h λ_ hw12 h=>rr h [yM (aQa a lN),(1,.call (aPR a fN) [(0,0)] [])]
def YT:=Ur
def aPX:KK (Cx E0 202 Ho Dd) alf (YT a):=λ_ _ h=>ca (X:=x202) (aKH a h)
def amd:List (Nat×Bx):= [(bA,xw q)]
def x186:=fx E0 Tryz.f186 []
def RD:=Ax x186 Sp amd
def WA:LS:=⟨[(3,.ms 8 1 0 q.length),(4,.ms 35 1 0 aG.length),(11,.ms 8 1 0 q.length),(12,bH b),(13,bH d)],[(8,Jq q),(35,xw aG)]⟩
def Wz:LS:=⟨[(4,.ms 35 1 0 q.length)],[(35,xw q)]⟩
def alj:LS:=⟨[(0,.slice 70 1 q.length (l9 q))],[]⟩
def uj (aA:bK->Z bK) (back:Int->Int->bK->bK->Z bK) (n:Nat) (t12 t13:Int) (b8 K7:bK):Z bK:=
 if iL (t13<t12) then
 (dX b8.length t13).bind λx3=>(b8[0+x3]?).bind λx5=>if t13==0 then
 (app [] x5).bind λgd=>(app K7 [gd]).bind λkO=>back t12 (aW (t13+1)) b8 kO
 else
 (dX b8.length (aW (t13-1))).bind λfT=>(b8[0+fT]?).bind λiQ=>(F67 n iQ x5).bind λlx=>if lx !=0 then
 (app [] x5).bind λuP=>(app K7 [uP]).bind λlu=>back t12 (aW (t13+1)) b8 lu
 else
 back t12 (aW (t13+1)) b8 K7
 else
 aA K7
def aKY {aA} (aU:KK (RD [1,1,1,1,1]) Wz aA) {back} (aK:KK (RD (aI 175)) WA back) (n:Nat):KK (RD (aI 175)) WA (uj aA back n):=λ_ _ _ _ r h=>ie h (λc0 h=>be h λ_ eM h=>be h λ_ ic h=>let zA:SE:=[aB c0,(1,cX eM),(0,na.row ic)];ie h (λc1 h=>be h λgd iB h=>be h λ_ mV h=>cB (aK h) zA [aZ c1,(5,jm.app iB),(0,jm.er 31 gd),(1,na.jS mV)]) λc1 h=>be h λ_ kU h=>be h λ_ iJ h=>be h λ_ jM h=>let zB:SE:=dk zA [aZ c1,(4,cX kU),(0,na.row iJ),sf (Q7 n jM)];ie h (λc2 h=>be h λuP D5 h=>be h λ_ rP h=>cB (aK h) zB [aB c2,(4,jm.app D5),(0,jm.er 31 uP),(1,na.jS rP)]) λc2 h=>cB (aK h) zB [aB c2]) λc0 h=>ra (aU h) [aB c0]
def zc (aA:bK->Z bK):Nat->Int->Int->bK->bK->Z bK
 |0=>dv.z
 |n+1=>uj aA (zc aA n) n
def awm {aA} (aU:KK (RD [1,1,1,1,1]) Wz aA):∀n:Nat,KK (RD (aI 175)) WA (zc aA n)
 |0=>KC.h
 |n+1=>aKY aU (awm aU n) n
def qt (n:Nat) (K7:bK):Z bK:=
 V K7
def aKX:KK (RD [1,1,1,1,1]) Wz (qt a):=λ_ r h=>rr h [(2,.iR 35 bA)]
def Uw:Z bK:=
 (YU a q).bind λx3=>(YT a x3).bind λx7=>(gU x7.length x3.length).bind λw8=>zc (qt a) a (x3.length:Int) 0 x7 []
def aKW:KK (RD []) alj (Uw a):=λ_ r h=>be h λ_ eM h=>be h λ_ iE h=>be h λ_ hw8 h=>ra (awm (aKX a) a h) [(2,.call (aPY a eM) [] [(8,bA)]),(2,.call (aPX a iE) [(8,0)] []),(4,.born [4] [] 35 M 70 1),(0,.seq 3 (bF (AV.ms 8 1 0) ((oY hw8).symm))),(0,.seq 11 (bF (AV.ms 8 1 0) ((oY hw8).symm)))]
def Rt:=Uw
def aEO:KK (Cx E0 186 Sp amd) alj (Rt a):=λ_ _ h=>ca (X:=x186) (aKW a h)
def x155:=fx E0 Tryz.f155 []
def Az:=Ax x155 cP bC
def W7:LS:=⟨[(0,.kh (En c)),(3,.kh (jv u)),(4,iI m),(5,.ms 70 1 0 aG.length),(6,.ms 76 1 0 dc.length),(47,.slice 110 6 ab.length (j1 ab)),(48,iI f7),(49,iI aq)],[(70,xw aG),(76,xw dc)]⟩
def W6:LS:=⟨[(5,.ms 79 1 0 q.length),(6,.ms 81 1 0 aG.length),(99,bH b),(100,bH d)],[(79,xw q),(81,xw aG)]⟩
def W5:LS:=⟨[],[]⟩
def W4:LS:=⟨[(0,.kh (En c)),(5,.ms 70 1 0 q.length),(6,.ms 76 1 0 aG.length)],[(70,xw q),(76,xw aG)]⟩
def UX (bn:aFX) (back:aJ->ai->Int->gf->Int->Int->bK->bK->Z Bool) (n:Nat) (g0:aJ) (t3:ai) (c4:Int) (t47:gf) (t48 t49:Int) (yr yq:bK):Z Bool:=
 if iL (t49<t48) then
 (idx t47 t49).bind λx2=>(idx t3.ag c4).bind λiv=>(YY n x2.f0 iv.aD).bind λja=>if !ja then
 V I
 else
 (app yr [[x2.f0]]).bind λs8=>(app yq [[x2.f1]]).bind λKN=>back g0 t3 c4 t47 t48 (aW (t49+1)) s8 KN
 else
 bn g0 yr yq
def aMf {bn} (cM:KK (Az [1,1,1,1,1]) W4 bn) {back} (aK:KK (Az (aI 175)) W7 back) (n:Nat):KK (Az (aI 175)) W7 (UX bn back n):=λ_ _ _ _ _ _ _ _ r h=>ie h (λc0 h=>be h λx2 di h=>be h λ_ iC h=>be h λ_ jN h=>let zA:SE:=[aB c0,(0,ED.idx di),(10,eW.idx iC),im (aqz n jN)];ie h (λc1 h=>bq h zA [aB c1]) λc1 h=>be h λ_ rQ h=>be h λ_ Mc h=>cB (aK h) zA [aB c1,(4,jm.er 68 [x2.f0]),(1,na.jS rQ),(5,jm.er 74 [x2.f1]),(1,na.jS Mc)]) λc0 h=>ra (cM h) [aB c0]
def Ip (bn:aFX):Nat->aJ->ai->Int->gf->Int->Int->bK->bK->Z Bool
 |0=>dv.z
 |n+1=>UX bn (Ip bn n) n
def awE {bn} (cM:KK (Az [1,1,1,1,1]) W4 bn):∀n:Nat,KK (Az (aI 175)) W7 (Ip bn n)
 |0=>KC.h
 |n+1=>aMf cM (awE cM n) n
def uk (back:Int->Int->bK->bK->Z Bool) (n:Nat) (t99 t100:Int) (b79 b81:bK):Z Bool:=
 if iL (t100<t99) then
 (dX b79.length t100).bind λx6=>(b79[0+x6]?).bind λx8=>(idx x8 0).bind λeN=>(dX b81.length t100).bind λfT=>(b81[0+fT]?).bind λiQ=>(idx iQ 0).bind λkO=>if !((eN.aD==kO.aD)&&((eN.dh==kO.dh)&&((iL (eN.cG=kO.cG))&&M))) then
 V I
 else
 back t99 (aW (t100+1)) b79 b81
 else
 K
def aMe {bh} (cF:KK (Az (aI 511)) W5 bh) {back} (aK:KK (Az (aI 1407)) W6 back) (n:Nat):KK (Az (aI 1407)) W6 (uk bh back n):=λ_ _ _ _ r h=>ie h (λc0 h=>be h λ_ jL h=>be h λ_ lN h=>be h λ_ iK h=>be h λ_ kU h=>be h λ_ iJ h=>be h λ_ mV h=>let zA:SE:=[aB c0,(4,cX jL),(0,na.row lN),(0,jm.idx iK),(3,cX kU),(0,na.row iJ),(0,jm.idx mV)];ie h (λc1 h=>bq h zA [aV c1]) λc1 h=>cB (aK h) zA [aV c1]) λc0 h=>ra (cF h) [aB c0]
def xg (bh:Z Bool):Nat->Int->Int->bK->bK->Z Bool
 |0=>dv.z
 |n+1=>uk bh (xg bh n) n
def awD {bh} (cF:KK (Az (aI 511)) W5 bh):∀n:Nat,KK (Az (aI 1407)) W6 (xg bh n)
 |0=>KC.h
 |n+1=>aMe cF (awD cF n) n
def pB (n:Nat):Z Bool:=
 V M
def aMd:KK (Az (aI 511)) W5 (pB a):=λr h=>rr h []
def Np:Z Bool:=
 (Rt a q).bind λx2=>(Rt a aG).bind λx5=>if (x2.length:Int) !=(c.fm.ck.length:Int) then
 V I
 else
 if (x5.length:Int) !=(x2.length:Int) then
 V I
 else
 xg (pB a) a (x2.length:Int) 0 x2 x5
def aMc:KK (Az [1,1,1,1,1]) W4 (Np a):=λ_ yr yq r h=>be h λ_ di h=>be h λ_ ic h=>let zA:SE:=[(1,na.er 70 yr),(0,.call (aEO a di) [] [(79,bA)]),(1,na.er 76 yq),(0,.call (aEO a ic) [] [(81,bA)])];ie h (λc0 h=>bq h zA [(10,eb c0)]) λc0 h=>ie h (λc1 h=>bq h zA [(10,eb c0),bP c1]) λc1 h=>cB (awD (aMd a) a h) zA [(10,eb c0),bP c1]
def ajB:Z Bool:=
 (PD a c).bind λx3=>(Ru a c c.fm.aY).bind λiv=>if !iv then
 V I
 else
 (aii a c).bind λkO=>if kO then
 V I
 else
 if iL ((c.fm.ck.length:Int)<1) then
 V I
 else
 if iL (16<(c.fm.ck.length:Int)) then
 V I
 else
 Ip (Np a) a c x3 c.fm.aY c.fm.ck (c.fm.ck.length:Int) 0 [] []
def aMb:KK (Az []) zU (ajB a):=λ_ r h=>be h λ_ eM h=>be h λ_ iC h=>let zA:SE:=[(1,.ord [0,2,3,4,5,6,1,7,8]),AM (Th a eM),j2 (aaP a iC)];ie h (λc0 h=>bq h zA [aB c0]) λc0 h=>be h λ_ mV h=>let zB:SE:=dk zA [aB c0,im (aER a mV)];ie h (λc1 bE=>by subst c1;exact (rr bE zB)) λc1 bE=>by subst c1;exact (ie bE (λc2 bE=>bq bE zB [iG c2]) λc2 bE=>ie bE (λc3 bE=>bq bE zB [iG c2,iG c3]) λc3 bE=>cB (awE (aMc a) a bE) zB [iG c2,iG c3,(10,.born [5] [] 70 M 70 1),(0,.born [6] [] 76 M 70 1)])
def air:=ajB
def aQl:KK (Cx E0 155 cP bC) zU (air a):=λ_ _ h=>ca (X:=x155) (aMb a h)
end Go.Proofs.YtbnkhmoelnfjoaaGreat
end
