/- Part. -/
import Derived.Test.YtbnkhmoelnfjoaaGreatP5
import Derived.KernelRfl
import Derived.Test.YtbnkhmoelnfjoaaGreatP3
import Derived.Test.YtbnkhmoelnfjoaaGreatP4
import Derived.IntWalk
import Derived.Laws.RangeString
import Derived.Laws.RangeAny
set_option linter.all false
set_option maxRecDepth 100000
open Option renaming some->V,none->G
open Bool renaming true->M,false->I
open Decidable renaming decide->iL
open Go.Proofs.YtbnkhmoelnfjoaaGreat.aF renaming mk->ad6
open ByteArray renaming empty->A',mk->Bk
open Go.Proofs.YtbnkhmoelnfjoaaGreat.cy renaming mk->ad7
open Go.Proofs.YtbnkhmoelnfjoaaGreat.ae renaming mk->ad2
open Go.Op renaming bytesLess->N'
open Go.Proofs.YtbnkhmoelnfjoaaGreat.dL renaming mk->ad8
open Go.Proofs.YtbnkhmoelnfjoaaGreat.aE renaming mk->ad9
open Go.Lib renaming compareBytes->aa2
noncomputable section
namespace Go.Proofs.YtbnkhmoelnfjoaaGreat
open Go.bM
variable (u:Nat) (w:Int) (B:ae) (C:Int) (E:bt) (F:bu) (f7:bX) (D H:Int) (ge:aP) (aa:eE) (R al aq:cy) (ab:aN) (N:ae) (O:Int) (S:bu) (g6:aF) (ac:cr) (am:kJ) (ex:Int) (W:bt) (ad:aS) (an:List (Int×aS)) (Y:aP) (ap:Int) (af:bt) (az:dL) (ao:aS) (ba:Bool) (bs:bK) (aT:Int) (bb:cJ) (bc:Int) (bd:qH) (bR:Z Bool) (bi:ae) (bm:aE) (bv:bI) (bx:U) (cf:bu) (bz:Int) (ch:gf) (ci:Rn) (bS:ai) (bU:aj) (cw:YL) (cl:dL) (cn:sW) (co:bt) (cp:Int) (bV:bK) (bD:Int) (bZ:aS) (cc:Int) (ct:cr) (bJ:ae) (ce:fU) (bo:aF) (cz:Nat) (cC:arE) (cD:eE) (cE:qH) (cH:UInt8) (cK:cJ) (cN:aN) (cu:ae) (cT:U) (cW:Nat) (dc df:Int) (dH:aBY) (dM:Nat) (dl dO:Int) (dn:bw) (ds:Int) (dw:bu) (dy:aN) (bN:ae) (dA:bt) (dB:aF) (dD:(bu×ae)) (dP:GL) (dQ:aN->aP->aP->Int->Z (aj×aN)) (dS:arG) (dT:arF) (dU:arD) (dV:aCa) (dE:Nat) (dZ:aBZ) (d0:Wf51) (d1:Nat) (cv:Int) (d2:ae) (d3:UInt8) (d4:cr) (d5:aS) (d6:TypeId) (d7:List AV) (d8:(qH×Int×Int)) (d9:(bu×aF×aN)) (ea:(bu×Int)) (eb:(bt×aN)) (ec:(bt×Bool×cJ)) (ee:(aF×cJ)) (ef:(aF×aN)) (eg:(List Nat)) (ei:(Int×cJ)) (ej:(Int×ae×Int)) (ek:(Int×ae)) (el:(Bool×ae×Int)) (em:(Bool×ae))
variable {x k:Int} {J A:Type} {v:aS} {xs:br} {i d p:Nat} {l cols params:aP} {seen:List U}
def aCM:AV:=.ms bA 1 0 eg.length
def avt:List (Nat×Bx):= [(bA,.rows I 185 1 (Om eg))]
def x97:=fx E0 Tryz.f97 []
def A97:=Ax x97 aCM avt
def aud:LS:=⟨[],[]⟩
def aGl (n:Nat):Z (List Nat):=
 V [148,149,150,151,152,153,154,155]
def aQQ:KK (A97 []) aud (aGl u):=λr h=>rr h [(3,.iR 1 bA)]
def F97:=aGl
def ev97:KK (Cx E0 97 aCM avt) aud (F97 u):=λ_ h=>ca (X:=x97) (aQQ u h)
def x98:=fx E0 Tryz.f98 []
def A98:=Ax x98 cP bC
def aJc:LS:=⟨[aX 1,(5,.bool ba)],[(1,uH (ny bm))]⟩
def aJb:LS:=⟨[aX 1],[(1,uH (ny bm))]⟩
def Kz (n:Nat) (Rc:Bool) (b1:aE):Z Bool:=
 if b1.av==0 then
 if b1.aY==0 then
 if b1.kr==0 then
 if iL (b1.aM=A') then
 if b1.aD==0 then
 if ((b1.bj.aD==0)&&((b1.bj.dh==0)&&((iL (b1.bj.cG=A'))&&M))) then
 if (b1.ck.length:Int)==0 then
 V (!Rc)
 else
 V I
 else
 V I
 else
 V I
 else
 V I
 else
 V I
 else
 V I
 else
 V I
def Tx:KK (A98 (aI 127)) aJc (Kz u):=λ_ _ r h=>ie h (λc0 h=>ie h (λc1 h=>let zA:SE:=[aQ c0,aZ c1];ie h (λc2 h=>let zB:SE:=dk zA [bk c2];ie h (λc3 h=>let zC:SE:=dk zB [bk c3];ie h (λc4 h=>ie h (λc5 h=>ie h (λc6 h=>bq h zC [bk c4,bP c5,bP c6]) λc6 h=>bq h zC [bk c4,bP c5,bP c6]) λc5 h=>bq h zC [bk c4,bP c5]) λc4 h=>bq h zC [bk c4]) λc3 h=>bq h zB [bk c3]) λc2 h=>bq h zA [bk c2]) λc1 h=>rr h [aQ c0,aZ c1]) λc0 h=>rr h [aQ c0]
def zg:Z Bool:=
 if !iL (bm.bp.aM=A') then
 Kz u M bm
 else
 if iL (0<(bm.bp.ag.length:Int)) then
 Kz u M bm
 else
 if bm.bp.aH !=0 then
 Kz u M bm
 else
 if iL (0<(bm.bp.ar.length:Int)) then
 Kz u M bm
 else
 Kz u (iL (0<(bm.bp.aL.length:Int))) bm
def FO:KK (A98 [1,1,1,1]) aJb (zg u):=λ_ r h=>ie h (λc0 h=>ra (Tx u h) [dg c0]) λc0 h=>ie h (λc1 h=>ra (Tx u h) [dg c0,bk c1]) λc1 h=>let zA:SE:=[dg c0,bk c1];ie h (λc2 h=>cB (Tx u h) zA [bk c2]) λc2 h=>ie h (λc3 h=>cB (Tx u h) zA [bk c2,bP c3]) λc3 h=>cB (Tx u h) zA [bk c2,bP c3]
def asJ:Z Bool:=
 if bm.bf==1 then
 zg u (ad9 bm.bf 0 bm.aY bm.kr A' 0 om bm.ck bm.bp)
 else
 if bm.bf==2 then
 zg u (ad9 bm.bf 0 0 bm.kr bm.aM bm.aD om bm.ck bm.bp)
 else
 if bm.bf==3 then
 zg u (ad9 bm.bf 0 0 0 bm.aM bm.aD bm.bj bm.ck bm.bp)
 else
 if bm.bf==4 then
 zg u (ad9 bm.bf 0 0 bm.kr A' bm.aD bm.bj bm.ck bm.bp)
 else
 if bm.bf==5 then
 zg u (ad9 bm.bf 0 bm.aY bm.kr A' bm.aD bm.bj bm.ck bm.bp)
 else
 if bm.bf==6 then
 zg u (ad9 bm.bf bm.av bm.aY bm.kr bm.aM bm.aD bm.bj bm.ck (ai.mk A' [] 0 [] []))
 else
 if bm.bf==8 then
 zg u (ad9 bm.bf 0 0 bm.kr bm.aM bm.aD bm.bj [] bm.bp)
 else
 zg u (ad9 bm.bf 0 bm.aY bm.kr bm.aM bm.aD bm.bj bm.ck bm.bp)
def aQP:KK (A98 []) Oa (asJ u):=λ_ r h=>ie h (λc0 h=>ra (FO u h) [Tn c0]) λc0 h=>ie h (λc1 h=>ra (FO u h) [Tn c0,aV c1]) λc1 h=>let zA:SE:=[Tn c0,aV c1];ie h (λc2 h=>cB (FO u h) zA [aV c2]) λc2 h=>let zB:SE:=dk zA [aV c2];ie h (λc3 h=>cB (FO u h) zB [aV c3]) λc3 h=>let zC:SE:=dk zB [aV c3];ie h (λc4 h=>cB (FO u h) zC [aV c4]) λc4 h=>ie h (λc5 h=>cB (FO u h) zC [aV c4,aV c5]) λc5 h=>ie h (λc6 h=>cB (FO u h) zC [aV c4,aV c5,aV c6]) λc6 h=>cB (FO u h) zC [aV c4,aV c5,aV c6]
def F98:=asJ
def ev98:KK (Cx E0 98 cP bC) Oa (F98 u):=λ_ _ h=>ca (X:=x98) (aQP u h)
def E4:=fx E0 Tryz.f42 []
def A42:=Ax E4 aav bC
def aJs (b4:ae) (b49:aJ) (H3:bw):LS:=⟨[aX 4,(8,.loc 49 0),(65,.bool ba)],[(4,afd),(49,lK (bg b49 (.ms 330460001 5 0 H3.length))),(330460001,zn H3)]⟩
def aJr (b4:ae) (b9:List Nat):LS:=⟨[aX 2,aX 3,aX 4,(6,.ms 9 1 0 b9.length),(7,bH w)],[(2,iU (cI B)),(3,uH (ny bm)),(4,afd),(9,.rows I 185 1 (Om b9))]⟩
def CX (n:Nat) (t65:Bool) (b4:ae) (b49:aJ) (H3:bw):Z (ae×Bool):=
 if t65 then
 V ((ad2 0 []),I)
 else
 V ((ad2 b49.bW.ay H3),M)
def FP:KK (A42 (aI 895)) aJs (CX u):=λ_ _ _ H3 r h=>ie h (λc0 bE=>by subst c0;exact (rr bE [(3,.oV 4 (.flat 0 [.bool M,.sl 0 44 5 0 []]))])) λc0 bE=>by subst c0;exact (rr bE [(6,cm.tfr I 330460001 H3)])
def xp (b4:ae) (b9:List Nat):Z (ae×Bool):=
 (F41 u B).bind λx2=>(dX b9.length w).bind λlx=>(b9[0+lx]?).bind λl7=>if l7==148 then
 (aiy u (aJ.mk (ad2 (aW (x2.ay+1)) x2.ah) bm)).bind λfK=>CX u (!fK.1) (ad2 0 []) fK.2 fK.2.bW.ah
 else
 if l7==149 then
 (aix u (aJ.mk (ad2 (aW (x2.ay+1)) x2.ah) bm)).bind λfK=>CX u (!fK.1) (ad2 0 []) fK.2 fK.2.bW.ah
 else
 if l7==150 then
 (aiw u (aJ.mk (ad2 (aW (x2.ay+1)) x2.ah) bm)).bind λfK=>CX u (!fK.1) (ad2 0 []) fK.2 fK.2.bW.ah
 else
 if l7==151 then
 (aiv u (aJ.mk (ad2 (aW (x2.ay+1)) x2.ah) bm)).bind λfK=>CX u (!fK.1) (ad2 0 []) fK.2 fK.2.bW.ah
 else
 if l7==152 then
 (aiu u (aJ.mk (ad2 (aW (x2.ay+1)) x2.ah) bm)).bind λfK=>CX u (!fK.1) (ad2 0 []) fK.2 fK.2.bW.ah
 else
 if l7==153 then
 (ait u (aJ.mk (ad2 (aW (x2.ay+1)) x2.ah) bm)).bind λfK=>CX u (!fK.1) (ad2 0 []) fK.2 fK.2.bW.ah
 else
 if l7==154 then
 (ais u (aJ.mk (ad2 (aW (x2.ay+1)) x2.ah) bm)).bind λfK=>CX u (!fK.1) (ad2 0 []) fK.2 fK.2.bW.ah
 else
 if l7==155 then
 (air u (aJ.mk (ad2 (aW (x2.ay+1)) x2.ah) bm)).bind λfK=>CX u (!fK) (ad2 0 []) (aJ.mk (ad2 (aW (x2.ay+1)) x2.ah) bm) x2.ah
 else
 G
def aFK:KK (A42 [1,1,1,1,1]) aJr (xp u):=λ_ _ _ _ _ r h=>be h λx2 di h=>be h λ_ jM h=>be h λ_ nr h=>ie h (λc0 bE=>by have c0:=eq_of_beq c0;subst c0;exact (
 be bE λfK ki bE=>ra (FP u bE) [(0,.ord [0,2,1,3,4,5]),(2,.call (JW u di) [] [(330460001,201001)]),(15,cX jM),(0,MX.row nr),(1,.call (aQs u ki) [(49,0),(330460001,8589934592)] [])])) λc0 h=>ie h (λc1 bE=>by have c1:=eq_of_beq c1;subst c1;exact (
 be bE λfK ki bE=>ra (FP u bE) [(0,.ord [0,2,1,3,4,5]),(2,.call (JW u di) [] [(330460001,201001)]),(15,cX jM),(0,MX.row nr),(1,.call (aQr u ki) [(49,0),(330460001,8589934592)] [])])) λc1 h=>ie h (λc2 bE=>by have c2:=eq_of_beq c2;subst c2;exact (
 be bE λfK ki bE=>ra (FP u bE) [(0,.ord [0,2,1,3,4,5]),(2,.call (JW u di) [] [(330460001,201001)]),(15,cX jM),(0,MX.row nr),(1,.call (aQq u ki) [(49,0),(330460001,8589934592)] [])])) λc2 h=>ie h (λc3 bE=>by have c3:=eq_of_beq c3;subst c3;exact (
 be bE λfK ki bE=>ra (FP u bE) [(0,.ord [0,2,1,3,4,5]),(2,.call (JW u di) [] [(330460001,201001)]),(15,cX jM),(0,MX.row nr),(1,.call (aQp u ki) [(49,0),(330460001,8589934592)] [])])) λc3 h=>ie h (λc4 bE=>by have c4:=eq_of_beq c4;subst c4;exact (
 be bE λfK ki bE=>ra (FP u bE) [(0,.ord [0,2,1,3,4,5]),(2,.call (JW u di) [] [(330460001,201001)]),(15,cX jM),(0,MX.row nr),(1,.call (aQo u ki) [(49,0),(330460001,8589934592)] [])])) λc4 h=>ie h (λc5 bE=>by have c5:=eq_of_beq c5;subst c5;exact (
 be bE λfK ki bE=>ra (FP u bE) [(0,.ord [0,2,1,3,4,5]),(2,.call (JW u di) [] [(330460001,201001)]),(15,cX jM),(0,MX.row nr),(1,.call (aQn u ki) [(49,0),(330460001,4294967296)] [])])) λc5 h=>ie h (λc6 bE=>by have c6:=eq_of_beq c6;subst c6;exact (
 be bE λfK ki bE=>ra (FP u bE) [(0,.ord [0,2,1,3,4,5]),(2,.call (JW u di) [] [(330460001,201001)]),(15,cX jM),(0,MX.row nr),(1,.call (aQm u ki) [(49,0),(330460001,8589934592)] [])])) λc6 h=>ie h (λc7 bE=>by have c7:=eq_of_beq c7;subst c7;exact (
 be bE λfK ki bE=>ra (FP u bE) [(0,.ord [0,2,1,3,4,5]),(2,.call (JW u di) [] [(330460001,201001)]),(15,cX jM),(0,MX.row nr),(1,.AS (aQl u ki) [cm.tfr I 330460001 x2.ah,.er 49 (Q:= []) (n:=0) rfl] trivial [] [])])) λc7 h=>nz h
def ats:Z (ae×Bool):=
 (F97 u).bind λx5=>if iL (bm.bf<1) then
 V ((ad2 0 []),I)
 else
 if !iL ((aW (bm.bf-1))<(x5.length:Int)) then
 V ((ad2 0 []),I)
 else
 (F98 u bm).bind λiP=>if !iP then
 V ((ad2 0 []),I)
 else
 if bm.bf !=6 then
 if iL (bm.av<0) then
 V ((ad2 0 []),I)
 else
 if !iL (bm.av<(B.ah.length:Int)) then
 V ((ad2 0 []),I)
 else
 xp u (aW (bm.bf-1)) B bm (ad2 0 []) x5
 else
 xp u (aW (bm.bf-1)) B bm (ad2 0 []) x5
def aST:KK (A42 []) NY (ats u):=λ_ _ r h=>be h λ_ ic h=>let zA:SE:=[(4,.call (ev97 u ic) [] [(9,bA)])];ie h (λc0 h=>bq h zA [iO c0,(7,.oV 4 (.flat 0 [.bool M,.sl 0 44 5 0 []]))]) λc0 h=>let zB:SE:=dk zA [iO c0];ie h (λc1 h=>bq h zB [bk c1,(6,.oV 4 (.flat 0 [.bool M,.sl 0 44 5 0 []]))]) λc1 h=>be h λ_ o6 h=>let zC:SE:=dk zB [bk c1,j3 (ev98 u o6)];ie h (λc2 h=>bq h zC [aB c2,(4,.oV 4 (.flat 0 [.bool M,.sl 0 44 5 0 []]))]) λc2 h=>let zD:SE:=dk zC [aB c2];ie h (λc3 h=>ie h (λc4 h=>bq h zD [aZ c3,aZ c4,(6,.oV 4 (.flat 0 [.bool M,.sl 0 44 5 0 []]))]) λc4 h=>ie h (λc5 h=>bq h zD [aZ c3,aZ c4,dg c5,(5,.oV 4 (.flat 0 [.bool M,.sl 0 44 5 0 []]))]) λc5 h=>cB (aFK u h) zD [aZ c3,aZ c4,dg c5]) λc3 h=>cB (aFK u h) zD [aZ c3]
def F42:=ats
def ev42:KK (Cx E0 42 aav bC) NY (F42 u):=λ_ _ _ h=>ca (X:=E4) (aST u h)
def iv:=fx E0 Tryz.f14 []
def A14:=Ax iv aay SB
def aez:LS:=⟨[(7,.ms 30 2 0 ce.length),(31,.rY 46 15 f7.length (ot f7)),(32,iI D),(33,iI H)],[(30,LH ce)]⟩
def aey:LS:=⟨[(7,.ms 30 2 0 ce.length)],[(30,LH ce)]⟩
def auM:LS:=⟨[(0,.agg (cI B)),(1,.rY 46 15 f7.length (ot f7))],[]⟩
def acE (aA:fU->Z (fU×Int)) (back:bX->Int->Int->fU->Z (fU×Int)) (n:Nat) (t31:bX) (t32 t33:Int) (H5:fU):Z (fU×Int):=
 if iL (t33<t32) then
 (idx t31 t33).bind λx2=>(dX H5.length (aW ((H5.length:Int)-1))).bind λdN=>(H5[0+dN]?).bind λdC=>(F42 n dC x2).bind λgd=>if !gd.2 then
 V ([],280)
 else
 (IP n gd.1).bind λpL=>if pL !=0 then
 V ([],280)
 else
 (app H5 [gd.1]).bind λCg=>back t31 t32 (aW (t33+1)) Cg
 else
 aA H5
def aUc {aA} (aU:KK (A14 [1,1,1,1,1]) aey aA) {back} (aK:KK (A14 (aI 175)) aez back) (n:Nat):KK (A14 (aI 175)) aez (acE aA back n):=λ_ _ _ _ r h=>ie h (λc0 h=>be h λ_ di h=>be h λ_ fN h=>be h λ_ fE h=>be h λ_ iB h=>let zA:SE:=[aB c0,(0,H6.idx di),(3,.ord [0,1,2,3,4,5,6,11,7,8,9,10,12,13]),(4,cX fN),(0,BI.row fE),im (ev42 n iB)];ie h (λc1 h=>bq h zA [dg c1,(4,.born [4] [] bA I 25 2)]) λc1 h=>be h λ_ sO h=>let zB:SE:=dk zA [dg c1,im (aqA n sO)];ie h (λc2 h=>bq h zB [aB c2,(3,.born [4] [] bA I 25 2)]) λc2 h=>be h λ_ JL h=>cB (aK h) zB [aB c2,(4,BI.jS JL)]) λc0 h=>ra (aU h) [aB c0]
def Px (aA:fU->Z (fU×Int)):Nat->bX->Int->Int->fU->Z (fU×Int)
 |0=>dv.z
 |n+1=>acE aA (Px aA n) n
def aEu {aA} (aU:KK (A14 [1,1,1,1,1]) aey aA):∀n:Nat,KK (A14 (aI 175)) aez (Px aA n)
 |0=>KC.h
 |n+1=>aUc aU (aEu aU n) n
def acD (n:Nat) (H5:fU):Z (fU×Int):=
 V (H5,0)
def aUb:KK (A14 [1,1,1,1,1]) aey (acD u):=λ_ r h=>rr h [(3,.iR 30 bA)]
def atH:Z (fU×Int):=
 (IP u B).bind λx5=>if x5 !=0 then
 V ([],x5)
 else
 if iL (8<(f7.length:Int)) then
 V ([],2)
 else
 if iL (1000<(aW (B.ay+(f7.length:Int)))) then
 V ([],2)
 else
 (F41 u B).bind λl7=>Px (acD u) u f7 (f7.length:Int) 0 [l7]
def aUa:KK (A14 []) auM (atH u):=λ_ _ r h=>be h λ_ ic h=>let zA:SE:=[j2 (aqA u ic)];ie h (λc0 h=>bq h zA [aQ c0,(3,.born [4] [] bA I 25 2)]) λc0 h=>ie h (λc1 h=>bq h zA [aQ c0,aQ c1,(4,.born [4] [] bA I 25 2)]) λc1 h=>ie h (λc2 h=>bq h zA [aQ c0,aQ c1,dg c2,(3,.born [4] [] bA I 25 2)]) λc2 h=>be h λl7 nr h=>cB (aEu (aUb u) u h) zA [aQ c0,aQ c1,dg c2,(2,.call (JW u nr) [] [(330290001,ub)]),(0,cm.tfr I 330290001 l7.ah)]
def F14:=atH
def ev14:KK (Cx E0 14 aay SB) auM (F14 u):=λ_ _ _ h=>ca (X:=iv) (aUa u h)
def aDa (r:(eE×Int)):AV:=.dr [.agg (qk r.1),bH r.2]
def Lj:=fx E0 Tryz.f54 []
def A54:=Ax Lj aDa bC
def auu:LS:=⟨[(0,.agg (cI B)),(1,.rY 46 15 f7.length (ot f7)),(2,iI D)],[]⟩
def atm:Z (eE×Int):=
 (F14 u B f7).bind λx6=>if x6.2 !=0 then
 V ((eE.mk [] []),x6.2)
 else
 if iL (D<B.ay) then
 V ((eE.mk [] []),1)
 else
 if !iL ((aW (D-B.ay))<(x6.1.length:Int)) then
 V ((eE.mk [] []),1)
 else
 (cut x6.1 (V (aW (D-B.ay))) G).bind λCg=>(cut f7 (V (aW (D-B.ay))) G).bind λuO=>V ((eE.mk Cg uO),0)
def aSq:KK (A54 []) auu (atm u):=λ_ _ _ r h=>be h λx6 jL h=>let zA:SE:=[(5,.call (ev14 u jL) [] [(301400,bA)])];ie h (λc0 h=>bq h zA [dg c0,(4,.oV 6 (.flat 0 [.sl 2 25 2 0 [],.sl 2 46 15 0 []]))]) λc0 h=>ie h (λc1 h=>bq h zA [dg c0,aZ c1,(5,.oV 6 (.flat 0 [.sl 2 25 2 0 [],.sl 2 46 15 0 []]))]) λc1 h=>ie h (λc2 h=>bq h zA [dg c0,aZ c1,iO c2,(4,.oV 6 (.flat 0 [.sl 2 25 2 0 [],.sl 2 46 15 0 []]))]) λc2 h=>be h λ_ JL h=>be h λ_ D4 h=>bq h zA [dg c0,aZ c1,iO c2,(6,BI.er 301400 x6.1),(2,BI.cut JL),(2,H6.cut D4)]
def F54:=atm
def aBq:KK (Cx E0 54 aDa bC) auu (F54 u):=λ_ _ _ _ h=>ca (X:=Lj) (aSq u h)
def aax:AV:=.agg (cI B)
def x55:=fx E0 Tryz.f55 []
def A55:=Ax x55 aax bC
def R9:LS:=⟨[(0,.agg (qk aa))],[]⟩
def atl (n:Nat) (l0:eE):Z ae:=
 (idx l0.Ak (aW ((l0.Ak.length:Int)-1))).bind λx9=>V x9
def aSp:KK (A55 []) R9 (atl u):=λ_ r h=>be h λ_ iS h=>rr h [(8,BI.idx iS)]
def F55:=atl
def ev55:KK (Cx E0 55 aax bC) R9 (F55 u):=λ_ _ h=>ca (X:=x55) (aSp u h)
def x56:=fx E0 Tryz.f56 []
def A56:=Ax x56 aax bC
def aGz (n:Nat) (l0:eE):Z ae:=
 (idx l0.Ak 0).bind λx5=>V x5
def aSo:KK (A56 []) R9 (aGz u):=λ_ r h=>be h λ_ ic h=>rr h [(4,BI.idx ic)]
def F56:=aGz
def aqu:KK (Cx E0 56 aax bC) R9 (F56 u):=λ_ _ h=>ca (X:=x56) (aSo u h)
def wR:AV:=.agg (gV ad)
def aot:=fx E0 Tryz.f157 []
def KJ:=Ax aot wR bC
def aHb (t19:Bool) (b4 b6:aS) (b8:iq):LS:=⟨[(2,iI w),aX 4,aX 6,aX 8,(9,.slice 110 6 ch.length (j1 ch)),(10,iI cp),(11,iI bD),(19,.bool t19)],[(4,xv (gV b4)),(6,xv (gV b6)),(8,.flat 110 (BC b8))]⟩
def N6:LS:=⟨[(2,iI w),aX 4,aX 6,(9,.slice 110 6 ch.length (j1 ch)),(10,iI cp),(11,iI bD)],[(4,xv (gV bZ)),(6,xv (gV d5))]⟩
def W3:LS:=⟨[aX 4,aX 6],[(4,xv (gV ad)),(6,xv (gV ao))]⟩
def als:LS:=⟨[(0,.slice 110 6 ch.length (j1 ch)),(1,.agg (gV bZ)),(2,iI cc)],[]⟩
def No (n:Nat) (uT:Int) (t9:gf) (t10 t11:Int) (t19:Bool) (b4 b6:aS) (b8:iq):Z aS:=
 if t19 then
 if (aW (1-uT))==0 then
 V b8.f0
 else
 if (aW (1-uT))==1 then
 V b8.f1
 else
 G
 else
 d0 uT t9 t10 (aW (t11+1)) b4 b6
def ayi {aA} (aU:KK (KJ [0,1,0,1]) N6 aA) (n:Nat):KK (KJ (aI 3685)) aHb (No aA n):=λ_ _ _ _ _ _ _ _ r h=>ie h (λc0 bE=>by subst c0;exact (ie bE (λc1 bE=>rr bE [(1,en (k:=.i64) c1)]) λc1 bE=>ie bE (λc2 bE=>rr bE [(1,en (k:=.i64) c2)]) λc2 bE=>nz bE)) λc0 bE=>by subst c0;exact (ra (aU bE) [])
def I2 (t9:gf) (t10 t11:Int) (b4 b6:aS):Z aS:=
 if iL (t11<t10) then
 (idx t9 t11).bind λx2=>if cv==0 then
 No d0 d1 0 t9 t10 t11 ((x2.f0.aD==b4.aD)&&((x2.f0.dh==b4.dh)&&((iL (x2.f0.cG=b4.cG))&&M))) b4 b6 x2
 else
 if cv==1 then
 No d0 d1 1 t9 t10 t11 ((x2.f1.aD==b4.aD)&&((x2.f1.dh==b4.dh)&&((iL (x2.f1.cG=b4.cG))&&M))) b4 b6 x2
 else
 G
 else
 cw b4 b6
def aLZ {bh} (cF:KK (KJ [1,1]) W3 bh) {back} (aK:KK (KJ [0,1,0,1]) N6 back) (n:Nat):KK (KJ [0,1,0,1]) N6 (I2 bh back n):=λ_ _ _ _ _ _ r h=>ie h (λc0 h=>be h λ_ di h=>ie h (λc1 bE=>by have c1:=eq_of_beq c1;subst c1;exact (
 ra (ayi aK n bE) [aB c0,(0,ED.idx di)])) λc1 h=>ie h (λc2 bE=>by have c2:=eq_of_beq c2;subst c2;exact (
 ra (ayi aK n bE) [aB c0,(0,ED.idx di)])) λc2 h=>nz h) λc0 h=>ra (cF h) [aB c0]
def zd (bh:YL):Nat->Int->gf->Int->Int->aS->aS->Z aS
 |0=>dv.z
 |n+1=>I2 bh (zd bh n) n
def awC {bh} (cF:KK (KJ [1,1]) W3 bh):∀n:Nat,KK (KJ [0,1,0,1]) N6 (zd bh n)
 |0=>KC.h
 |n+1=>aLZ cF (awC cF n) n
def I1 (n:Nat) (b4 b6:aS):Z aS:=
 V b4
def aLY:KK (KJ [1,1]) W3 (I1 u):=λ_ _ r h=>rr h []
def ayZ:Z aS:=
 zd (I1 u) u cc ch (ch.length:Int) 0 bZ om
def aLX:KK (KJ []) als (ayZ u):=λ_ _ _ r h=>ra (awC (aLY u) u h) []
def aip:=ayZ
def aFc:KK (Cx E0 157 wR bC) als (aip u):=λ_ _ _ _ h=>ca (X:=aot) (aLX u h)
def x107:=fx E0 Tryz.f107 []
def RN:=Ax x107 wR bC
def XQ:LS:=⟨[aX 2,aX 3,aX 4,(5,bH w)],[(2,.flat 140 (HU az)),(3,xv (gV ao)),(4,xv (gV bZ))]⟩
def Da:LS:=⟨[aX 3,aX 4],[(3,xv (gV ad)),(4,xv (gV ao))]⟩
def Oh:LS:=⟨(Gq (HU az) (gV ao)),[]⟩
def I7 (back:Int->dL->aS->aS->Z aS) (n:Nat) (i5:Int) (b2:dL) (b3 b4:aS):Z aS:=
 if !iL (i5<0) then
 (idx b2.cR i5).bind λx6=>(aip n x6 b3 1).bind λeN=>back (aW (i5-1)) b2 eN b4
 else
 cw b3 b4
def aOa {aA} (aU:KK (RN [1,1]) Da aA) {back} (aK:KK (RN [0,1,0,1]) XQ back) (n:Nat):KK (RN [0,1,0,1]) XQ (I7 aA back n):=λ_ _ _ _ r h=>ie h (λc0 h=>be h λ_ jL h=>be h λ_ iK h=>ra (aK h) [aV c0,(3,R39.idx jL),im (aFc n iK)]) λc0 h=>ra (aU h) [aV c0]
def ze (aA:YL):Nat->Int->dL->aS->aS->Z aS
 |0=>dv.z
 |n+1=>I7 aA (ze aA n) n
def axl {aA} (aU:KK (RN [1,1]) Da aA):∀n:Nat,KK (RN [0,1,0,1]) XQ (ze aA n)
 |0=>KC.h
 |n+1=>aOa aU (axl aU n) n
def I6 (n:Nat) (b3 b4:aS):Z aS:=
 V b3
def aNZ:KK (RN [1,1]) Da (I6 u):=λ_ _ r h=>rr h []
def VI:Z aS:=
 ze (I6 u) u (aW ((az.cR.length:Int)-1)) az ao om
def aNY:KK (RN []) Oh (VI u):=λ_ _ r h=>ra (axl (aNZ u) u h) []
def Ry:=VI
def aFp:KK (Cx E0 107 wR bC) Oh (Ry u):=λ_ _ _ h=>ca (X:=x107) (aNY u h)
def aCY:AV:=.agg (HU az)
def x63:=fx E0 Tryz.f63 []
def NF:=Ax x63 aCY bC
def aJn:LS:=⟨[aX 6,aX 7,(10,iI w),(11,iI C),(16,.rY 46 15 f7.length (ot f7)),(17,iI D),(18,iI H)],(azY (oq az .cq) (oq cl (.ms 44 1 0 cn.length)) cn)⟩
def aJm (b9:aE) (od:sW):LS:=⟨[aX 6,aX 7,aX 9,(16,.rY 46 15 f7.length (ot f7)),(17,iI D),(18,iI H)],[(6,.flat 140 (oq az .cq)),(7,.flat 140 (oq cl (.ms 44 1 0 od.length))),(9,uH (ny b9)),(44,.rows M 39 1 (Hn od))]⟩
def Lw:LS:=⟨[aX 6,aX 7,(16,.rY 46 15 f7.length (ot f7)),(17,iI D),(18,iI H)],(azY (oq az .cq) (oq cl (.ms 44 1 0 cn.length)) cn)⟩
def adL:LS:=⟨[aX 6,aX 7],(azY (oq az .cq) (oq cl (.ms 44 1 0 cn.length)) cn)⟩
def aus:LS:=⟨[(0,.rY 46 15 f7.length (ot f7)),(1,iI D),(2,iI H)],[]⟩
def KB (n:Nat) (t10 c11:Int) (t16:bX) (t17 t18:Int) (b6 b7:dL) (od:sW):Z dL:=
 dV t16 t17 (aW (t18+1)) (ad8 b6.gM b6.fP b6.dI b6.fO []) (ad8 t10 c11 b7.dI b7.fO od) od
def aFI {bh} (cF:KK (NF [0,1,0,1,1]) Lw bh) (n:Nat):KK (NF (aI 64715)) aJn (KB bh n):=λ_ _ _ _ _ _ _ _ r h=>ra (cF h) []
def AX (t16:bX) (t17 t18:Int) (b6 b7:dL) (b9:aE) (od:sW):Z dL:=
 (Y4 dE b9 b7.gM b7.fP).bind λx6=>if iL (x6.1<0) then
 V (ad8 (-1) (-1) I om [])
 else
 if !x6.2.2 then
 (Ry dE (ad8 b7.gM b7.fP b7.dI b7.fO od) b9.bj).bind λl7=>KB dV dE x6.1 x6.2.1 t16 t17 t18 (ad8 b6.gM b6.fP b6.dI b6.fO []) (ad8 b7.gM b7.fP I l7 od) od
 else
 KB dV dE x6.1 x6.2.1 t16 t17 t18 (ad8 b6.gM b6.fP b6.dI b6.fO []) (ad8 b7.gM b7.fP b7.dI b7.fO od) od
def aba {bh} (cF:KK (NF [0,1,0,1,1]) Lw bh) (n:Nat):KK (NF (aI 7371)) aJm (AX bh n):=λ_ _ _ _ _ _ od r h=>be h λ_ jL h=>let zA:SE:=[mw (aFo n jL)];ie h (λc0 h=>bq h zA [iG c0,(2,.oV 6 (.flat 0 (y6 6 [.sl 0 39 1 0 []])))]) λc0 h=>ie h (λc1 h=>be h λ_ nr h=>cB (aFI cF n h) zA [iG c0,aV c1,(3,.AS (aFp n nr) [R39.er 44 od] trivial [] [])]) λc1 h=>cB (aFI cF n h) zA [iG c0,aV c1]
def PJ (bn:Wf54) (back:aCa) (n:Nat) (t16:bX) (t17 t18:Int) (b6 b7:dL) (od:sW):Z dL:=
 if iL (t18<t17) then
 (idx t16 t18).bind λx2=>if x2.bf==8 then
 if x2.av==b7.gM then
 if x2.aY==b7.fP then
 (app od [x2.ck]).bind λx29=>AX back n t16 t17 t18 (ad8 b6.gM b6.fP b6.dI b6.fO []) (ad8 b7.gM b7.fP b7.dI b7.fO x29) x2 x29
 else
 AX back n t16 t17 t18 (ad8 b6.gM b6.fP b6.dI b6.fO []) (ad8 b7.gM b7.fP b7.dI b7.fO od) x2 od
 else
 AX back n t16 t17 t18 (ad8 b6.gM b6.fP b6.dI b6.fO []) (ad8 b7.gM b7.fP b7.dI b7.fO od) x2 od
 else
 AX back n t16 t17 t18 (ad8 b6.gM b6.fP b6.dI b6.fO []) (ad8 b7.gM b7.fP b7.dI b7.fO od) x2 od
 else
 bn (ad8 b6.gM b6.fP b6.dI b6.fO []) (ad8 b7.gM b7.fP b7.dI b7.fO od) od
def aSj {bn} (cM:KK (NF [1,1,1]) adL bn) {back} (aK:KK (NF [0,1,0,1,1]) Lw back) (n:Nat):KK (NF [0,1,0,1,1]) Lw (PJ bn back n):=λ_ _ _ _ _ _ r h=>ie h (λc0 h=>be h λ_ di h=>let zA:SE:=[aB c0,(0,H6.idx di)];ie h (λc1 h=>ie h (λc2 h=>ie h (λc3 h=>be h λ_ QW h=>cB (aba aK n h) zA [bP c1,bP c2,dg c3,(6,R39.jS QW)]) λc3 h=>cB (aba aK n h) zA [bP c1,bP c2,dg c3]) λc2 h=>cB (aba aK n h) zA [bP c1,bP c2]) λc1 h=>cB (aba aK n h) zA [bP c1]) λc0 h=>ra (cM h) [aB c0]
def xn (bn:Wf54):Nat->bX->Int->Int->dL->dL->sW->Z dL
 |0=>dv.z
 |n+1=>PJ bn (xn bn n) n
def aDO {bn} (cM:KK (NF [1,1,1]) adL bn):∀n:Nat,KK (NF [0,1,0,1,1]) Lw (xn bn n)
 |0=>KC.h
 |n+1=>aSj cM (aDO cM n) n
def CW (n:Nat) (b6 b7:dL) (od:sW):Z dL:=
 V (ad8 b7.gM b7.fP b7.dI b7.fO od)
def aSi:KK (NF [1,1,1]) adL (CW u):=λ_ _ od r h=>rr h [(2,R39.er 44 od),(0,.oV 6 (.flat 0 (y6 6 [.sl 0 0 0 0 []])))]
def aGy:Z dL:=
 xn (CW u) u f7 (f7.length:Int) 0 (ad8 0 0 I om []) (ad8 D H M om []) []
def aSh:KK (NF []) aus (aGy u):=λ_ _ _ r h=>ra (aDO (aSi u) u h) [(9,.born [] [(7,6)] 44 M 39 1)]
def F63:=aGy
def aqt:KK (Cx E0 63 aCY bC) aus (F63 u):=λ_ _ _ _ h=>ca (X:=x63) (aSh u h)
def avl:AV:=.ms bA 7 0 am.length
def amo:List (Nat×Bx):= [(bA,.rows M 140 7 (uC am))]
def x105:=fx E0 Tryz.f105 []
def RO:=Ax x105 avl amo
def XT:LS:=⟨[(1,bH w),aX 2,(5,.ms 25 7 0 am.length),(14,bH C),(15,bH D)],[(2,.flat 123 (qk aa)),(25,.rows M 140 7 (uC am))]⟩
def XS:LS:=⟨[(5,.ms 25 7 0 am.length)],[(25,.rows M 140 7 (uC am))]⟩
def Oj:LS:=⟨[(0,.agg (qk aa)),(1,bH O)],[]⟩
def VM (aA:kJ->Z kJ) (back:Int->Int->Int->eE->kJ->Z kJ) (n:Nat) (t1 t14 t15:Int) (b2:eE) (b25:kJ):Z kJ:=
 if iL (t15<t14) then
 (F63 n b2.BA t1 t15).bind λx9=>(app b25 [x9]).bind λjd=>back t1 t14 (aW (t15+1)) b2 jd
 else
 aA b25
def aOg {aA} (aU:KK (RO [1,1,1]) XS aA) {back} (aK:KK (RO [0,1,0,1,1]) XT back) (n:Nat):KK (RO [0,1,0,1,1]) XT (VM aA back n):=λ_ _ _ _ _ r h=>ie h (λc0 h=>be h λ_ iS h=>be h λ_ hI h=>ra (aK h) [aB c0,yM (aqt n iS),(1,ahr.jS hI)]) λc0 h=>ra (aU h) [aB c0]
def IG (aA:kJ->Z kJ):Nat->Int->Int->Int->eE->kJ->Z kJ
 |0=>dv.z
 |n+1=>VM aA (IG aA n) n
def axn {aA} (aU:KK (RO [1,1,1]) XS aA):∀n:Nat,KK (RO [0,1,0,1,1]) XT (IG aA n)
 |0=>KC.h
 |n+1=>aOg aU (axn aU n) n
def VL (n:Nat) (b25:kJ):Z kJ:=
 V b25
def aOf:KK (RO [1,1,1]) XS (VL u):=λ_ r h=>rr h [(2,.iR 25 bA)]
def ake:Z kJ:=
 (F56 u aa).bind λx5=>(idx x5.ah O).bind λx9=>IG (VL u) u O (x9.ag.length:Int) 0 aa []
def aOe:KK (RO []) Oj (ake u):=λ_ _ r h=>be h λ_ ic h=>be h λ_ iS h=>ra (axn (aOf u) u h) [j2 (aqu u ic),(2,cm.idx iS),(4,.born [5] [] 25 M 140 7)]
def asD:=ake
def aFq:KK (Cx E0 105 avl amo) Oj (asD u):=λ_ _ _ h=>ca (X:=x105) (aOe u h)
def wS:AV:=.ms bA 3 0 E.length
def ye:List (Nat×Bx):= [(bA,BW E)]
def x106:=fx E0 Tryz.f106 []
def KM:=Ax x106 wS ye
def aHj:LS:=⟨[(0,.slice 38 3 E.length (dm E)),(4,.ms 31 3 0 af.length),aX 7,(11,.slice 140 7 am.length (uC am)),(12,iI ex),(13,iI ap)],[(7,xv (gV ao)),(31,BW af)]⟩
def Oi:LS:=⟨[(0,.slice 38 3 E.length (dm E)),(4,.ms 31 3 0 af.length),(11,.slice 140 7 am.length (uC am)),(12,iI ex),(13,iI ap)],[(31,BW af)]⟩
def XR:LS:=⟨[(4,.ms 31 3 0 E.length)],[(31,BW E)]⟩
def alJ:LS:=⟨[(0,.slice 38 3 E.length (dm E)),(1,.kh (Tm am))],[]⟩
def NC (aA:Wf55) (n:Nat) (mO:bt) (t11:kJ) (t12 t13:Int) (Cs:bt) (b7:aS):Z bt:=
 (app Cs [b7]).bind λx4=>aA mO t11 t12 (aW (t13+1)) x4
def ayp {aA} (aU:KK (KM (aI 87)) Oi aA) (n:Nat):KK (KM (aI 31127)) aHj (NC aA n):=λ_ _ _ _ _ _ r h=>be h λ_ iF h=>ra (aU h) [(3,jm.jS iF)]
def VK (bh:bt->Z bt) (back:Wf55) (n:Nat) (mO:bt) (t11:kJ) (t12 t13:Int) (Cs:bt):Z bt:=
 if iL (t13<t12) then
 (idx t11 t13).bind λx2=>if x2.dI then
 (idx mO x2.fP).bind λiQ=>(Ry n x2 iQ).bind λlx=>NC back n mO t11 t12 t13 Cs lx
 else
 NC back n mO t11 t12 t13 Cs x2.fO
 else
 bh Cs
def aOd {bh} (cF:KK (KM [1,1,1,1]) XR bh) {back} (aK:KK (KM (aI 87)) Oi back) (n:Nat):KK (KM (aI 87)) Oi (VK bh back n):=λ_ _ _ _ _ r h=>ie h (λc0 h=>be h λ_ di h=>ie h (λc1 h=>be h λ_ iJ h=>be h λ_ jM h=>ra (ayp aK n h) [aB c0,(0,ahr.idx di),iG c1,(4,jm.idx iJ),sf (aFp n jM)]) λc1 h=>ra (ayp aK n h) [aB c0,(0,ahr.idx di),iG c1]) λc0 h=>ra (cF h) [aB c0]
def ET (bh:bt->Z bt):Nat->bt->kJ->Int->Int->bt->Z bt
 |0=>dv.z
 |n+1=>VK bh (ET bh n) n
def axm {bh} (cF:KK (KM [1,1,1,1]) XR bh):∀n:Nat,KK (KM (aI 87)) Oi (ET bh n)
 |0=>KC.h
 |n+1=>aOd cF (axm cF n) n
def NB (n:Nat) (Cs:bt):Z bt:=
 V Cs
def aOc:KK (KM [1,1,1,1]) XR (NB u):=λ_ r h=>rr h [(2,.iR 31 bA)]
def VJ:Z bt:=
 if (E.length:Int)==0 then
 V []
 else
 ET (NB u) u E am (am.length:Int) 0 []
def aOb:KK (KM []) alJ (VJ u):=λ_ _ r h=>ie h (λc0 h=>rr h [aZ c0,(1,.born [3] [] bA M 38 3)]) λc0 h=>ra (axm (aOc u) u h) [aZ c0,(4,.born [4] [] 31 M 38 3)]
def M9:=VJ
def aqC:KK (Cx E0 106 wS ye) alJ (M9 u):=λ_ _ _ h=>ca (X:=x106) (aOb u h)
def aCZ (r:(Int×kJ)):AV:=.dr [bH r.1,.fn 106 [] [.kh (Tm r.2)]]
def G8:=fx E0 Tryz.f57 []
def A57:=Ax G8 aCZ bC
def atk:Z (Int×kJ):=
 (asD u aa O).bind λx6=>(F63 u aa.BA O (-1)).bind λdC=>V (dC.gM,x6)
def aSn:KK (A57 []) Oj (atk u):=λ_ _ r h=>be h λx6 jL h=>be h λ_ fE h=>rr h [(5,.call (aFq u jL) [] [(9,bA)]),mw (aqt u fE),(4,ahr.er 9 x6),(0,.oV 6 (.flat 0 [.sl 0 0 0 0 []])),(0,.er 6 (Q:= []) (n:=0) rfl)]
def F57:=atk
def ev57:KK (Cx E0 57 aCZ bC) Oj (F57 u):=λ_ _ _ h=>ca (X:=G8) (aSn u h)
def aDi (r:(aF×Int)):AV:=.dr [.agg (rD r.1),bH r.2]
def nh:=fx E0 Tryz.f21 []
def Gf:=Ax nh aDi bC
def aet (nP:aF) (cx:eE) (pP:aF) (fD:cJ):LS:=⟨[aX 9,aX 10,aX 12,aX 15,(16,iI w),(18,.fn 106 [] [.kh (Tm am)]),(49,iI ex),(50,iI ap),(65,.slice 70 1 bs.length (l9 bs)),(66,iI aT),(67,iI bc)],[(9,.flat 51 (rD bo)),(10,vt),(12,.flat 123 (qk cx)),(15,.flat 51 [.ms 45 1 0 fD.length]),(45,azX fD)]⟩
def DD (nP:aF) (cx:eE) (pP:aF) (fD:cJ):LS:=⟨[aX 9,aX 10,(12,LF),aX 15,(49,bH w),(50,bH C)],[(9,.flat 51 (rD g6)),(10,vt),(12,.flat 123 (qk cx)),(15,.flat 51 [.ms 45 1 0 fD.length]),(45,azX fD)]⟩
def aes (nP pP:aF) (fD:cJ):LS:=⟨[aX 10,aX 15],[(10,vt),(15,.flat 51 [.ms 45 1 0 fD.length]),(45,azX fD)]⟩
def auJ:LS:=⟨[(0,.agg (cI B)),(1,.rY 46 15 f7.length (ot f7)),(2,iI D),(3,iI H),(4,.agg (rD g6))],[]⟩
def acu (back:Int->kJ->Int->Int->bK->Int->Int->aF->aF->eE->aF->cJ->Z (aF×Int)) (n:Nat) (t16:Int) (o5:kJ) (t49 t50:Int) (t65:bK) (t66 t67:Int) (b9 nP:aF) (cx:eE) (pP:aF) (fD:cJ):Z (aF×Int):=
 if iL (t67<t66) then
 (idx t65 t67).bind λx2=>(dX fD.length t16).bind λx5=>(fD[0+x5]?).bind λu7=>(M9 n x2 o5).bind λkO=>(app u7 [kO]).bind λl7=>(setAt fD (0+x5) l7).bind λz28=>back t16 o5 t49 t50 t65 t66 (aW (t67+1)) b9 (ad6 []) cx (ad6 z28) z28
 else
 dS t49 t50 b9 (ad6 []) cx (ad6 fD) fD
def aTL {aA} (aU:KK (Gf (aI 7775)) DD aA) {back} (aK:KK (Gf (aI 386655)) aet back) (n:Nat):KK (Gf (aI 386655)) aet (acu aA back n):=λ_ _ _ _ _ _ _ _ _ _ _ _ r h=>ie h (λc0 h=>be h λ_ di h=>be h λ_ ic h=>be h λu7 hu7 h=>be h λkO mV h=>be h λl7 nr h=>be h λ_ yN h=>ra (aK h) [aB c0,(0,na.idx di),(2,vh.oJ na 45 800450 0 I 70 1 u7 hu7 [.undef]),(6,cX ic),(3,vD (iy.res (.sl 0 38 3 0 []) (cd (e:=38) (z:=M) (Q:=dm kO) (aqC n mV) (jm.len kO)))),(1,na.jS nr),(0,cX ic),(0,vh.Aj 0 [.undef] [.undef] hu7),(2,vh.iH na (r:= [.undef]) 45 800450 0 I 70 1 l7 yN),(0,.beq 15 (bF (λn_=>(Bx.flat 51 [.ms 45 1 0 n_])) (ey yN)))]) λc0 h=>ra (aU h) [aB c0]
def Pt (aA:arG):Nat->Int->kJ->Int->Int->bK->Int->Int->aF->aF->eE->aF->cJ->Z (aF×Int)
 |0=>dv.z
 |n+1=>acu aA (Pt aA n) n
def aEo {aA} (aU:KK (Gf (aI 7775)) DD aA):∀n:Nat,KK (Gf (aI 386655)) aet (Pt aA n)
 |0=>KC.h
 |n+1=>aTL aU (aEo aU n) n
def PU (n:Nat) (t49 t50:Int) (b9 nP:aF) (cx:eE) (pP:aF) (fD:cJ):Z (aF×Int):=
 dS t49 (aW (t50+1)) b9 (ad6 []) cx (ad6 fD) fD
def aFR {bh} (cF:KK (Gf (aI 351)) DD bh) (n:Nat):KK (Gf (aI 7775)) DD (PU bh n):=λ_ _ _ _ _ _ _ r h=>ra (cF h) []
def acs (bn:Wf57) (back:arG) (n:Nat) (t49 t50:Int) (b9 nP:aF) (cx:eE) (pP:aF) (fD:cJ):Z (aF×Int):=
 if iL (t50<t49) then
 (F57 n cx t50).bind λx6=>if iL (x6.1<0) then
 PU back n t49 t50 b9 (ad6 []) cx (ad6 fD) fD
 else
 (idx b9.ah x6.1).bind λja=>Pt (PU back n) n t50 x6.2 t49 t50 ja (ja.length:Int) 0 b9 (ad6 []) cx (ad6 fD) fD
 else
 bn (ad6 []) (ad6 fD) fD
def aTK {bn} (cM:KK (Gf (aI 127)) aes bn) {back} (aK:KK (Gf (aI 351)) DD back) (n:Nat):KK (Gf (aI 351)) DD (acs bn back n):=λ_ _ _ _ _ _ _ r h=>ie h (λc0 h=>be h λ_ jL h=>let zA:SE:=[aB c0,j2 (ev57 n jL)];ie h (λc1 h=>cB (aFR aK n h) zA [dg c1]) λc1 h=>be h λ_ jN h=>cB (aEo (aFR aK n) n h) zA [dg c1,(3,vh.idx jN)]) λc0 h=>ra (cM h) [aB c0]
def F3 (bn:Wf57):Nat->Int->Int->aF->aF->eE->aF->cJ->Z (aF×Int)
 |0=>dv.z
 |n+1=>acs bn (F3 bn n) n
def aEn {bn} (cM:KK (Gf (aI 127)) aes bn):∀n:Nat,KK (Gf (aI 351)) DD (F3 bn n)
 |0=>KC.h
 |n+1=>aTK cM (aEn cM n) n
def PT (n:Nat) (nP pP:aF) (fD:cJ):Z (aF×Int):=
 V ((ad6 fD),0)
def aTJ:KK (Gf (aI 127)) aes (PT u):=λ_ _ fD r h=>rr h [(3,vh.tfr I 45 fD)]
def atC:Z (aF×Int):=
 (F54 u B f7 D).bind λx8=>if x8.2 !=0 then
 V ((ad6 []),x8.2)
 else
 (F55 u x8.1).bind λkO=>(F26 u kO H g6).bind λiP=>if iP !=0 then
 V ((ad6 []),iP)
 else
 (F56 u x8.1).bind λx29=>(tu (x29.ah.length:Int) ([]:bK)).bind λkC=>F3 (PT u) u (kC.length:Int) 0 g6 (ad6 []) x8.1 (ad6 kC) kC
def aTI:KK (Gf []) auJ (atC u):=λ_ _ _ _ _ r h=>be h λ_ lN h=>let zA:SE:=[yM (aBq u lN)];ie h (λc0 h=>bq h zA [iO c0,(4,.oV 10 (.flat 0 [.sl 0 68 1 0 []]))]) λc0 h=>be h λ_ mV h=>be h λ_ o6 h=>let zB:SE:=dk zA [iO c0,(0,.ord [0,2,3,1,4,5]),j3 (ev55 u mV),iX (ev26 u o6)];ie h (λc1 h=>bq h zB [aQ c1,(4,.oV 10 (.flat 0 [.sl 0 68 1 0 []]))]) λc1 h=>be h λ_ QW h=>be h λ_ pI h=>cB (aEn (aTJ u) u h) zB [aQ c1,sf (aqu u QW),(2,vh.made pI [.o I [.d]]),(0,.seq 45 (bF (AV.ms 45 1 0) ((QB pI))))]
def F21:=atC
def aqx:KK (Cx E0 21 aDi bC) auJ (F21 u):=λ_ _ _ _ _ _ h=>ca (X:=nh) (aTI u h)
def Lk:=fx E0 Tryz.f118 []
def RK:=Ax Lk cP bC
def XL:LS:=⟨[(1,.slice 3 1 ge.length (dJ ge)),(12,.slice 38 3 W.length (dm W)),(13,iI ap),(14,iI aT)],[]⟩
def XK:LS:=⟨[],[]⟩
def alF:LS:=⟨[(0,.slice 38 3 E.length (dm E)),(1,.slice 3 1 ge.length (dJ ge))],[]⟩
def azs (back:aP->bt->Int->Int->Z Bool) (n:Nat) (ou:aP) (t12:bt) (t13 t14:Int):Z Bool:=
 if iL (t14<t13) then
 (idx t12 t14).bind λx3=>(Y0 n x3).bind λeN=>if !eN then
 V I
 else
 (idx ou t14).bind λja=>if x3.aD !=ja then
 V I
 else
 back ou t12 t13 (aW (t14+1))
 else
 bR
def aNN {aA} (aU:KK (RK [1,1,1]) XK aA) {back} (aK:KK (RK [0,1,0,1,1]) XL back) (n:Nat):KK (RK [0,1,0,1,1]) XL (azs aA back n):=λ_ _ _ _ r h=>ie h (λc0 h=>be h λ_ eM h=>be h λ_ iK h=>let zA:SE:=[aB c0,(1,jm.idx eM),mw (aaQ n iK)];ie h (λc1 h=>bq h zA [aB c1]) λc1 h=>be h λ_ jN h=>ie h (λc2 h=>bq h zA [aB c1,(5,R3.idx jN),aV c2]) λc2 h=>cB (aK h) zA [aB c1,(5,R3.idx jN),aV c2]) λc0 h=>ra (aU h) [aB c0]
def ahX (aA:Z Bool):Nat->aP->bt->Int->Int->Z Bool
 |0=>dv.z
 |n+1=>azs aA (ahX aA n) n
def axi {aA} (aU:KK (RK [1,1,1]) XK aA):∀n:Nat,KK (RK [0,1,0,1,1]) XL (ahX aA n)
 |0=>KC.h
 |n+1=>aNN aU (axi aU n) n
def azr (n:Nat):Z Bool:=
 V M
def aNM:KK (RK [1,1,1]) XK (azr u):=λr h=>rr h []
def azq:Z Bool:=
 if (E.length:Int) !=(ge.length:Int) then
 V I
 else
 ahX (azr u) u ge E (E.length:Int) 0
def aNL:KK (RK []) alF (azq u):=λ_ _ r h=>ie h (λc0 h=>rr h [bP c0]) λc0 h=>ra (axi (aNM u) u h) [bP c0]
def aCx:=azq
def aFm:KK (Cx E0 118 cP bC) alF (aCx u):=λ_ _ _ h=>ca (X:=Lk) (aNL u h)
def x119:=fx E0 Tryz.f119 []
def A119:=Ax x119 AG Bl
def azp:Z aP:=
 (F45 u B C).bind λx5=>(Ku u B C).bind λeN=>if !eN then
 V []
 else
 (idx B.ah C).bind λiQ=>if iL (iQ.aH<0) then
 V []
 else
 (idx B.ah C).bind λuP=>(rR x5.length (if (x5.length:Int)<uP.aH then (x5.length:Int) else uP.aH)).bind λKN=>V (x5.take KN)
def aNK:KK (A119 []) Bf (azp u):=λ_ _ r h=>be h λx5 ic h=>be h λ_ iK h=>let zA:SE:=[(4,.call (aBr u ic) [] [(8,bA)]),j3 (JX u iK)];ie h (λc0 h=>bq h zA [aB c0,(3,.born [4] [] bA I 3 1)]) λc0 h=>be h λ_ iJ h=>ie h (λc1 h=>bq h zA [aB c0,(4,cm.idx iJ),aQ c1,(2,.born [4] [] bA I 3 1)]) λc1 h=>be h λ_ D5 h=>be h λKN Mc h=>bq h zA [aB c0,(4,cm.idx iJ),aQ c1,(5,cm.idx D5),(5,R3.rR (xs:=x5) Mc (tp rfl)),(1,.iR 8 bA),(0,.shr bA (R3.take x5 KN)),(0,.seq 4 (bF (AV.ms bA 1 0) ((xW (xs:=x5) (kY (ti Mc).2 (tp rfl))).symm)))]
def F119:=azp
def aQC:KK (Cx E0 119 AG Bl) Bf (F119 u):=λ_ _ _ h=>ca (X:=x119) (aNK u h)
def amh:List (Nat×Bx):= [(bA,.rows I 38 3 (dm E))]
def x164:=fx E0 Tryz.f164 []
def A164:=Ax x164 wS amh
def ayY:Z bt:=
 (Ku u B C).bind λx5=>if !x5 then
 V []
 else
 (idx B.ah C).bind λjd=>if iL (jd.aH<0) then
 V []
 else
 (idx B.ah C).bind λiP=>(cut E G (V (if (E.length:Int)<iP.aH then (E.length:Int) else iP.aH))).bind λlu=>(app [] lu).bind λx32=>V x32
def aLQ:KK (A164 []) Hi (ayY u):=λ_ _ _ r h=>be h λ_ ic h=>let zA:SE:=[j2 (JX u ic)];ie h (λc0 h=>bq h zA [aB c0,(3,.born [6] [] bA I 38 3)]) λc0 h=>be h λ_ hI h=>ie h (λc1 h=>bq h zA [aB c0,(4,cm.idx hI),aQ c1,(2,.born [6] [] bA I 38 3)]) λc1 h=>be h λ_ o6 h=>be h λ_ rP h=>be h λ_ aAN h=>bq h zA [aB c0,(4,cm.idx hI),aQ c1,(6,cm.idx o6),(5,jm.cut rP),(0,jm.app aAN),(1,.iR 20 bA)]
def F164:=ayY
def aQg:KK (Cx E0 164 wS amh) Hi (F164 u):=λ_ _ _ _ h=>ca (X:=x164) (aLQ u h)
def x120:=fx E0 Tryz.f120 []
def RJ:=Ax x120 cP bC
def XJ (b3:cy) (Cr K5:aP):LS:=⟨[aX 3,(5,.ms 43 1 0 Cr.length),(6,.ms 74 1 0 K5.length),(7,iI w),(53,.slice 3 1 ge.length (dJ ge)),(54,iI O),(55,iI ex)],[(3,.flat 113 (oC b3)),(43,wF Cr),(74,LG K5)]⟩
def XI:LS:=⟨[aX 3,(6,.ms 74 1 0 Y.length)],[(3,.flat 113 (oC R)),(74,LG Y)]⟩
def alE:LS:=⟨(Gq (cI B) (oC R)),[]⟩
def azo (aA:cy->aP->Z Bool) (back:Int->aP->Int->Int->cy->aP->aP->Z Bool) (n:Nat) (apG:Int) (t53:aP) (t54 t55:Int) (b3:cy) (Cr K5:aP):Z Bool:=
 if iL (t55<t54) then
 (idx t53 t55).bind λx2=>if !iL (apG<x2) then
 V I
 else
 if !iL (x2<(Cr.length:Int)) then
 V I
 else
 (dX Cr.length x2).bind λja=>(Cr[0+ja]?).bind λlx=>(app K5 [lx]).bind λiP=>back x2 t53 t54 (aW (t55+1)) b3 Cr iP
 else
 aA b3 K5
def aNJ {aA} (aU:KK (RJ (aI 8053)) XI aA) {back} (aK:KK (RJ (aI 22389)) XJ back) (n:Nat):KK (RJ (aI 22389)) XJ (azo aA back n):=λ_ _ _ _ _ _ _ r h=>ie h (λc0 h=>be h λ_ di h=>let zA:SE:=[aB c0,(0,R3.idx di)];ie h (λc1 h=>bq h zA [bk c1]) λc1 h=>ie h (λc2 h=>bq h zA [bk c1,bk c2]) λc2 h=>be h λ_ jN h=>be h λ_ jM h=>be h λ_ o6 h=>cB (aK h) zA [bk c1,bk c2,(4,cX jN),(0,R3.row jM),(1,R3.jS o6)]) λc0 h=>ra (aU h) [aB c0]
def ahW (aA:cy->aP->Z Bool):Nat->Int->aP->Int->Int->cy->aP->aP->Z Bool
 |0=>dv.z
 |n+1=>azo aA (ahW aA n) n
def axh {aA} (aU:KK (RJ (aI 8053)) XI aA):∀n:Nat,KK (RJ (aI 22389)) XJ (ahW aA n)
 |0=>KC.h
 |n+1=>aNJ aU (axh aU n) n
def azn:Z Bool:=
 (aCx u R.xb Y).bind λx4=>V x4
def aNI:KK (RJ (aI 8053)) XI (azn u):=λ_ K5 r h=>be h λ_ iF h=>rr h [(3,R3.er 74 K5),iX (aFm u iF)]
def azm:Z Bool:=
 if R.bf==1 then
 if (R.ag.length:Int)==0 then
 (F66 u B R.av R.xb 1).bind λja=>if ja then
 (F164 u B R.av R.xb).bind λuP=>(F67 u uP R.aH).bind λqY=>V (qY==0)
 else
 V I
 else
 V I
 else
 if R.bf==2 then
 (F45 u B R.av).bind λdC=>(idx B.ah R.av).bind λnh=>ahW (azn u) u (aW (nh.aH-1)) R.ag (R.ag.length:Int) 0 R dC []
 else
 if (R.ag.length:Int)==0 then
 V ((R.xb.length:Int)==0)
 else
 V I
def aNH:KK (RJ []) alE (azm u):=λ_ _ r h=>ie h (λc0 h=>let zA:SE:=[bP c0,(1,.ord [0,1,2,3,4,5,6,7,8,9,10,11,12,13,14,15,16,17,19,20,18,21,22,23,24])];ie h (λc1 h=>be h λ_ jN h=>let zB:SE:=dk zA [aZ c1,AM (aBp u jN)];ie h (λc2 bE=>by subst c2;exact (be bE λuP D5 bE=>be bE λqY rO bE=>bq bE zB [(9,vD (cd (e:=38) (z:=I) (Q:=dm uP) (aQg u D5) (jm.len uP))),iX (Q7 u rO)])) λc2 bE=>by subst c2;exact (rr bE zB)) λc1 h=>bq h zA [aZ c1]) λc0 h=>ie h (λc1 h=>be h λ_ fE h=>be h λ_ o7 h=>ra (axh (aNI u) u h) [bP c0,aV c1,(4,.call (aBr u fE) [] [(43,bA)]),(6,cm.idx o7),(8,.born [6] [] 74 M 3 1)]) λc1 h=>ie h (λc2 h=>rr h [bP c0,aV c1,bk c2]) λc2 h=>rr h [bP c0,aV c1,bk c2]
def F120:=azm
def aQB:KK (Cx E0 120 cP bC) alE (F120 u):=λ_ _ _ h=>ca (X:=x120) (aNH u h)
def x121:=fx E0 Tryz.f121 []
def A121:=Ax x121 dR bC
def alD:LS:=⟨(Gq (oC R) (oC al)),[]⟩
def azl:Z Int:=
 if R.av !=al.av then
 if iL (R.av<al.av) then
 V (-1)
 else
 V 1
 else
 (F67 u R.aH al.aH).bind λdC=>V dC
def aNG:KK (A121 []) alD (azl u):=λ_ _ r h=>ie h (λc0 h=>ie h (λc1 h=>rr h [iO c0,bk c1]) λc1 h=>rr h [iO c0,bk c1]) λc0 h=>be h λ_ fE h=>rr h [iO c0,j2 (Q7 u fE)]
def F121:=azl
def aQA:KK (Cx E0 121 dR bC) alD (F121 u):=λ_ _ _ h=>ca (X:=x121) (aNG u h)
def x73:=fx E0 Tryz.f73 []
def A73:=Ax x73 dR bC
def adH:LS:=⟨[(1,.slice 113 5 bd.length (sF bd)),aX 2,(16,.slice 113 5 cE.length (sF cE)),(17,iI dc),(18,iI df)],[(2,iU (cI bN))]⟩
def adG:LS:=⟨[],[]⟩
def aup:LS:=⟨[(0,.agg (cI B)),(1,.slice 113 5 bd.length (sF bd))],[]⟩
def aGw (aA:Z Int) (back:qH->qH->Int->Int->ae->Z Int) (n:Nat) (oI t16:qH) (t17 t18:Int) (b2:ae):Z Int:=
 if iL (t18<t17) then
 (idx t16 t18).bind λx3=>if iL (x3.bf<1) then
 V 1
 else
 if iL (3<x3.bf) then
 V 1
 else
 if iL (x3.av<0) then
 V 1
 else
 if !iL (x3.av<(b2.ah.length:Int)) then
 V 1
 else
 (F119 n b2 x3.av).bind λCg=>(aCx n x3.aH Cg).bind λrX=>if !rX then
 V 270
 else
 (F120 n b2 x3).bind λx43=>if !x43 then
 V 270
 else
 if iL (0<t18) then
 (idx oI (aW (t18-1))).bind λG9=>(F121 n G9 x3).bind λG8=>if !iL (G8<0) then
 V 270
 else
 back oI t16 t17 (aW (t18+1)) b2
 else
 back oI t16 t17 (aW (t18+1)) b2
 else
 aA
def aRU {aA} (aU:KK (A73 [1,1,1,1]) adG aA) {back} (aK:KK (A73 (aI 87)) adH back) (n:Nat):KK (A73 (aI 87)) adH (aGw aA back n):=λ_ _ _ _ _ r h=>ie h (λc0 h=>be h λ_ eM h=>let zA:SE:=[aB c0,(1,MY.idx eM)];ie h (λc1 h=>bq h zA [dg c1]) λc1 h=>let zB:SE:=dk zA [dg c1];ie h (λc2 h=>bq h zB [aZ c2]) λc2 h=>let zC:SE:=dk zB [aZ c2];ie h (λc3 h=>bq h zC [bk c3]) λc3 h=>let zD:SE:=dk zC [bk c3];ie h (λc4 h=>bq h zD [iO c4]) λc4 h=>be h λCg JL h=>be h λ_ xE h=>let zE:SE:=dk zD [iO c4,(6,vD (cd (e:=3) (z:=I) (Q:=dJ Cg) (aQC n JL) (R3.len Cg))),iX (aFm n xE)];ie h (λc5 h=>bq h zE [aB c5]) λc5 h=>be h λ_ JK h=>let zF:SE:=dk zE [aB c5,j3 (aQB n JK)];ie h (λc6 h=>bq h zF [aB c6]) λc6 h=>ie h (λc7 h=>be h λ_ QT h=>be h λ_ agk h=>let zG:SE:=dk zF [aB c6,aQ c7,(4,MY.idx QT),im (aQA n agk)];ie h (λc8 h=>bq h zG [aB c8]) λc8 h=>cB (aK h) zG [aB c8]) λc7 h=>cB (aK h) zF [aB c6,aQ c7]) λc0 h=>ra (aU h) [aB c0]
def arX (aA:Z Int):Nat->qH->qH->Int->Int->ae->Z Int
 |0=>dv.z
 |n+1=>aGw aA (arX aA n) n
def aDL {aA} (aU:KK (A73 [1,1,1,1]) adG aA):∀n:Nat,KK (A73 (aI 87)) adH (arX aA n)
 |0=>KC.h
 |n+1=>aRU aU (aDL aU n) n
def aGv (n:Nat):Z Int:=
 V 0
def aRT:KK (A73 [1,1,1,1]) adG (aGv u):=λr h=>rr h []
def aGu:Z Int:=
 (IP u B).bind λx4=>if x4 !=0 then
 V x4
 else
 if iL (64<(bd.length:Int)) then
 V 2
 else
 arX (aGv u) u bd bd (bd.length:Int) 0 B
def aRS:KK (A73 []) aup (aGu u):=λ_ _ r h=>be h λ_ iF h=>let zA:SE:=[j3 (aqA u iF)];ie h (λc0 h=>bq h zA [aQ c0]) λc0 h=>ie h (λc1 h=>bq h zA [aQ c0,aQ c1]) λc1 h=>cB (aDL (aRT u) u h) zA [aQ c0,aQ c1]
def F73:=aGu
def ev73:KK (Cx E0 73 dR bC) aup (F73 u):=λ_ _ _ h=>ca (X:=x73) (aRS u h)
def x122:=fx E0 Tryz.f122 []
def RI:=Ax x122 wR bC
def XH:LS:=⟨[aX 3,aX 4,(8,.slice 39 1 cn.length (Hn cn)),(9,iI cp),(10,iI bD)],[(3,xv (gV bZ)),(4,xv (gV d5))]⟩
def azk (back:sW->Int->Int->aS->aS->Z aS) (n:Nat) (t8:sW) (t9 t10:Int) (b3 b4:aS):Z aS:=
 if iL (t10<t9) then
 (idx t8 t10).bind λx2=>(aip n x2 b3 0).bind λx8=>back t8 t9 (aW (t10+1)) x8 b4
 else
 cw b3 b4
def aNF {aA} (aU:KK (RI [1,1]) Da aA) {back} (aK:KK (RI [0,1,0,1]) XH back) (n:Nat):KK (RI [0,1,0,1]) XH (azk aA back n):=λ_ _ _ _ _ r h=>ie h (λc0 h=>be h λ_ di h=>be h λ_ lN h=>ra (aK h) [aB c0,(0,R39.idx di),j2 (aFc n lN)]) λc0 h=>ra (aU h) [aB c0]
def ahV (aA:YL):Nat->sW->Int->Int->aS->aS->Z aS
 |0=>dv.z
 |n+1=>azk aA (ahV aA n) n
def axg {aA} (aU:KK (RI [1,1]) Da aA):∀n:Nat,KK (RI [0,1,0,1]) XH (ahV aA n)
 |0=>KC.h
 |n+1=>aNF aU (axg aU n) n
def azj (n:Nat) (b3 b4:aS):Z aS:=
 V b3
def aNE:KK (RI [1,1]) Da (azj u):=λ_ _ r h=>rr h []
def azi:Z aS:=
 ahV (azj u) u az.cR (az.cR.length:Int) 0 ao om
def aND:KK (RI []) Oh (azi u):=λ_ _ r h=>ra (axg (aNE u) u h) []
def aCv:=azi
def aFl:KK (Cx E0 122 wR bC) Oh (aCv u):=λ_ _ _ h=>ca (X:=x122) (aND u h)
def avi (r:(List (Int×aS))):AV:=.dr []
def amm (r:(List (Int×aS))):List (Nat×Bx):= [(2,.map (ga (λv_=>AV.agg (gV v_)) r))]
def x123:=fx E0 Tryz.f123 [2]
def atM:=Ax x123 avi amm
def XG:LS:=⟨[(1,iI w),(2,.mp 2),aX 3,(11,.rY 46 15 f7.length (ot f7)),(12,iI D),(13,iI H)],[(2,.map (ga (λv_=>AV.agg (gV v_)) an)),(3,.flat 123 (qk cD))]⟩
def alC:LS:=⟨[(0,.agg (qk aa)),(1,bH O),(2,.mp 2)],[(2,.map (ga (λv_=>AV.agg (gV v_)) an))]⟩
def azh (back:Int->bX->Int->Int->(List (Int×aS))->eE->Z (List (Int×aS))) (n:Nat) (Lp:Int) (t11:bX) (t12 t13:Int) (b2:List (Int×aS)) (b3:eE):Z (List (Int×aS)):=
 if iL (t13<t12) then
 (idx t11 t13).bind λx3=>if x3.bf !=1 then
 back Lp t11 t12 (aW (t13+1)) b2 b3
 else
 (idx b3.Ak t13).bind λfT=>(idx fT.ah x3.av).bind λnh=>(cut b3.BA (V (aW (t13+1))) G).bind λqY=>(F63 n qY x3.av (nh.ag.length:Int)).bind λHc=>if Hc.dI then
 if Hc.gM==Lp then
 (aCv n Hc x3.bj).bind λLj=>back Lp t11 t12 (aW (t13+1)) (mQ b2 Hc.fP Lj) b3
 else
 back Lp t11 t12 (aW (t13+1)) b2 b3
 else
 back Lp t11 t12 (aW (t13+1)) b2 b3
 else
 V b2
def aNC {back} (aK:KK (atM [0,1,1]) XG back) (n:Nat):KK (atM [0,1,1]) XG (azh back n):=λ_ _ _ _ b2 _ r h=>ie h (λc0 h=>be h λ_ eM h=>let zA:SE:=[aB c0,(1,H6.idx eM)];ie h (λc1 h=>cB (aK h) zA [dg c1]) λc1 h=>be h λ_ kU h=>be h λ_ o7 h=>be h λ_ rO h=>be h λHc agn h=>let zB:SE:=dk zA [dg c1,(3,BI.idx kU),(4,cm.idx o7),(4,.ord [0,1,2,3,4,5,6,7,9,8,10]),(4,H6.cut rO),j2 (aqt n agn)];ie h (λc2 h=>ie h (λc3 h=>be h λLj aAJ h=>cB (aK h) zB [aQ c2,bk c3,yM (aFl n aAJ),(0,.ly (BB (f:=(λv_=>AV.agg (gV v_))) (k:=Hc.fP) (v:=Lj) b2))]) λc3 h=>cB (aK h) zB [aQ c2,bk c3]) λc2 h=>cB (aK h) zB [aQ c2]) λc0 h=>rr h [aB c0]
def ahU:Nat->Int->bX->Int->Int->(List (Int×aS))->eE->Z (List (Int×aS))
 |0=>dv.z
 |n+1=>azh (ahU n) n
def axf:∀n:Nat,KK (atM [0,1,1]) XG (ahU n)
 |0=>KC.h
 |n+1=>aNC (axf n) n
def azg:Z (List (Int×aS)):=
 ahU u O aa.BA (aa.BA.length:Int) 0 an aa
def aNB:KK (atM []) alC (azg u):=λ_ _ _ r h=>ra (axf u h) []
def F123:=azg
def aQz:KK (Cx E0 123 avi amm) alC (F123 u):=λ_ _ _ _ h=>ca (X:=x123) (aNB u h)
def aCV (r:(cy×Bool)):AV:=.dr [.agg (oC r.1),.bool r.2]
def x74:=fx E0 Tryz.f74 []
def BO:=Ax x74 aCV bC
def aJi:LS:=⟨[aX 2,aX 3,aX 4,(6,iI w),aX 7,(8,.ms 41 7 0 am.length),(9,.mp 42),aX 11,(12,iI C),(44,.slice 38 3 E.length (dm E)),(45,iI D),(46,iI H)],[(2,.flat 123 (qk aa)),(3,.flat 113 (oC R)),(4,.flat 113 (kE al .cq .cq .cq)),(7,.flat 113 (kE aq (.ms 32 3 0 co.length) .cq .cq)),(11,.flat 38 (gV ao)),(32,.rows M 38 3 (dm co)),(41,.rows M 140 7 (uC am)),(42,.map (ga (λv_=>AV.agg (gV v_)) an))]⟩
def R7:LS:=⟨[aX 2,aX 3,aX 4,(6,iI w),aX 7,(8,.ms 41 7 0 am.length),(9,.mp 42),(44,.slice 38 3 E.length (dm E)),(45,iI D),(46,iI H)],[(2,.flat 123 (qk aa)),(3,.flat 113 (oC R)),(4,.flat 113 (kE al .cq .cq .cq)),(7,.flat 113 (kE aq (.ms 32 3 0 af.length) .cq .cq)),(32,.rows M 38 3 (dm af)),(41,.rows M 140 7 (uC am)),(42,.map (ga (λv_=>AV.agg (gV v_)) an))]⟩
def adF:LS:=⟨[aX 3,aX 4,aX 7,(9,.mp 42),(14,.ms 14 1 0 Y.length),(97,.ms 14 1 0 Y.length),(98,bH w),(99,bH C)],[(3,.flat 113 (oC R)),(4,.flat 113 (kE al .cq .cq .cq)),(7,.flat 113 (kE aq (.ms 32 3 0 af.length) .cq (.ms 109 3 0 co.length))),(14,.rows I 3 1 (dJ Y)),(32,.rows M 38 3 (dm af)),(42,.map (ga (λv_=>AV.agg (gV v_)) an)),(109,.rows M 38 3 (dm co))]⟩
def adE:LS:=⟨[aX 3,aX 4,aX 7,(14,.ms 14 1 0 Y.length)],[(3,.flat 113 (oC R)),(4,.flat 113 (kE al .cq .cq .cq)),(7,.flat 113 (kE aq (.ms 32 3 0 af.length) .cq (.ms 109 3 0 co.length))),(14,wF Y),(32,BW af),(109,BW co)]⟩
def aJh:LS:=⟨[aX 3,aX 4,aX 7,(9,.mp 42),(14,.ms 14 1 0 Y.length)],[(3,.flat 113 (oC R)),(4,.flat 113 (kE al .cq .cq .cq)),(7,.flat 113 (kE aq (.ms 32 3 0 af.length) .cq .cq)),(14,.rows I 3 1 (dJ Y)),(32,.rows M 38 3 (dm af)),(42,.map (ga (λv_=>AV.agg (gV v_)) an))]⟩
def aJg:LS:=⟨[aX 3,aX 4,aX 7,(9,.mp 42)],[(3,.flat 113 (oC R)),(4,.flat 113 (kE al .cq .cq .cq)),(7,.flat 113 (kE aq (.ms 32 3 0 af.length) .cq .cq)),(32,.rows M 38 3 (dm af)),(42,.map (ga (λv_=>AV.agg (gV v_)) an))]⟩
def adD:LS:=⟨[aX 2,aX 3,aX 4,(6,bH w),aX 7,(9,.mp 42)],[(2,.flat 123 (qk aa)),(3,.flat 113 (oC R)),(4,.flat 113 (kE al .cq .cq .cq)),(7,.flat 113 (kE aq (.ms 32 3 0 af.length) .cq .cq)),(32,.rows M 38 3 (dm af)),(42,.map (ga (λv_=>AV.agg (gV v_)) an))]⟩
def auo:LS:=⟨(Gq (qk aa) (oC R)),[]⟩
def atb (aA:aFW) (n:Nat) (E5 c12:Int) (t44:bt) (t45 t46:Int) (b2:eE) (b3 b4 b7:cy) (H4:kJ) (oW:List (Int×aS)) (fZ:aS) (cS:bt):Z (cy×Bool):=
 (dX H4.length c12).bind λx3=>(H4[0+x3]?).bind λx5=>if x5.dI then
 (aCv n x5 fZ).bind λgd=>aA E5 t44 t45 (aW (t46+1)) b2 b3 (ad7 b4.bf b4.av [] [] []) (ad7 b7.bf b7.av cS [] []) H4 (mQ oW x5.fP gd) cS
 else
 if !((fZ.aD==x5.fO.aD)&&((fZ.dh==x5.fO.dh)&&((iL (fZ.cG=x5.fO.cG))&&M))) then
 V ((ad7 0 0 [] [] []),I)
 else
 aA E5 t44 t45 (aW (t46+1)) b2 b3 (ad7 b4.bf b4.av [] [] []) (ad7 b7.bf b7.av cS [] []) H4 oW cS
def aFH {aA} (aU:KK (BO (aI 1407)) R7 aA) (n:Nat):KK (BO (aI 498047)) aJi (atb aA n):=λ_ _ _ _ _ _ _ _ _ _ oW _ _ r h=>be h λ_ eM h=>be h λx5 ic h=>let zA:SE:=[(2,cX eM),(0,ahr.row ic)];ie h (λc0 h=>be h λgd iB h=>cB (aU h) zA [aZ c0,mw (aFl n iB),(0,.ly (BB (f:=(λv_=>AV.agg (gV v_))) (k:=x5.fP) (v:=gd) oW))]) λc0 h=>ie h (λc1 h=>bq h zA [aZ c0,aZ c1,(3,.oV 4 (.flat 0 [.bool M,.bool M,.sl 0 38 3 0 [],.sl 0 3 1 0 [],.sl 0 38 3 0 []]))]) λc1 h=>cB (aU h) zA [aZ c0,aZ c1]
def aGt (jh:aFV) (back:aFW) (n:Nat) (E5:Int) (t44:bt) (t45 t46:Int) (b2:eE) (b3 b4 b7:cy) (H4:kJ) (oW:List (Int×aS)) (cS:bt):Z (cy×Bool):=
 if iL (t46<t45) then
 (idx t44 t46).bind λx3=>if b3.bf==2 then
 (idx b3.ag t46).bind λiQ=>atb back n E5 iQ t44 t45 t46 b2 b3 (ad7 b4.bf b4.av [] [] []) (ad7 b7.bf b7.av cS [] []) H4 oW x3 cS
 else
 atb back n E5 t46 t44 t45 t46 b2 b3 (ad7 b4.bf b4.av [] [] []) (ad7 b7.bf b7.av cS [] []) H4 oW x3 cS
 else
 jh E5 b2 b3 (ad7 b4.bf b4.av [] [] []) (ad7 b7.bf b7.av cS [] []) oW cS
def aRR {jh} (oB:KK (BO (aI 511)) adD jh) {back} (aK:KK (BO (aI 1407)) R7 back) (n:Nat):KK (BO (aI 1407)) R7 (aGt jh back n):=λ_ _ _ _ _ _ _ _ _ _ _ r h=>ie h (λc0 h=>be h λ_ eM h=>ie h (λc1 h=>be h λ_ iJ h=>ra (aFH aK n h) [aB c0,(1,jm.idx eM),iG c1,(3,R3.idx iJ)]) λc1 h=>ra (aFH aK n h) [aB c0,(1,jm.idx eM),iG c1]) λc0 h=>ra (oB h) [aB c0]
def arW (jh:aFV):Nat->Int->bt->Int->Int->eE->cy->cy->cy->kJ->(List (Int×aS))->bt->Z (cy×Bool)
 |0=>dv.z
 |n+1=>aGt jh (arW jh n) n
def aDK {jh} (oB:KK (BO (aI 511)) adD jh):∀n:Nat,KK (BO (aI 1407)) R7 (arW jh n)
 |0=>KC.h
 |n+1=>aRR oB (aDK oB n) n
def aGs (bn:Wf58) (back:Int->Int->cy->cy->cy->(List (Int×aS))->aP->bt->bt->Z (cy×Bool)) (n:Nat) (t98 t99:Int) (b3 b4 b7:cy) (oW:List (Int×aS)) (gz:aP) (cS xI:bt):Z (cy×Bool):=
 if iL (t99<t98) then
 (dX gz.length t99).bind λx2=>(gz[0+x2]?).bind λx4=>(app xI [(mS oW x4 om)]).bind λdC=>back t98 (aW (t99+1)) b3 (ad7 b4.bf b4.av [] [] []) (ad7 b7.bf b7.av cS [] dC) oW gz cS dC
 else
 bn b3 (ad7 b4.bf b4.av [] [] []) (ad7 b7.bf b7.av cS [] xI) gz cS xI
def aRQ {bn} (cM:KK (BO (aI 16383)) adE bn) {back} (aK:KK (BO (aI 45055)) adF back) (n:Nat):KK (BO (aI 45055)) adF (aGs bn back n):=λ_ _ _ _ _ oW _ _ _ r h=>ie h (λc0 h=>be h λ_ di h=>be h λx4 iF h=>be h λ_ fE h=>ra (aK h) [aB c0,(0,cX di),(0,R3.row iF),(5,.lkp I (Mz (f:=(λv_=>AV.agg (gV v_))) (k:=x4) (d:=om) oW)),(1,jm.jS fE)]) λc0 h=>ra (cM h) [aB c0]
def arV (bn:Wf58):Nat->Int->Int->cy->cy->cy->(List (Int×aS))->aP->bt->bt->Z (cy×Bool)
 |0=>dv.z
 |n+1=>aGs bn (arV bn n) n
def aDJ {bn} (cM:KK (BO (aI 16383)) adE bn):∀n:Nat,KK (BO (aI 45055)) adF (arV bn n)
 |0=>KC.h
 |n+1=>aRQ cM (aDJ cM n) n
def aGr (n:Nat) (b3 b4 b7:cy) (gz:aP) (cS xI:bt):Z (cy×Bool):=
 if b3.bf==2 then
 V ((ad7 b7.bf b7.av cS gz xI),M)
 else
 V ((ad7 b7.bf b7.av cS [] xI),M)
def aRP:KK (BO (aI 16383)) adE (aGr u):=λ_ _ _ gz cS xI r h=>ie h (λc0 h=>rr h [aQ c0,(6,jm.er 32 cS),(0,R3.er 14 gz),(0,jm.er 109 xI),(0,.oV 4 (.flat 0 [.bool M,.bool M,.sl 0 0 0 0 [],.bool M,.sl 0 0 0 0 []]))]) λc0 h=>rr h [aQ c0,(3,jm.er 32 cS),(0,jm.er 109 xI),(0,.oV 4 (.flat 0 [.bool M,.bool M,.sl 0 0 0 0 [],.sl 0 3 1 0 [],.sl 0 0 0 0 []]))]
def aGq:Z (cy×Bool):=
 arV (aGr u) u (Y.length:Int) 0 R (ad7 al.bf al.av [] [] []) (ad7 aq.bf aq.av af [] []) an Y af []
def aRO:KK (BO (aI 8191)) aJh (aGq u):=λ_ _ _ _ _ _ r h=>ra (aDJ (aRP u) u h) [(3,.born [] [(7,4)] 109 M 38 3)]
def ata:Z (cy×Bool):=
 (aoQ an).bind λx0=>aGq u R (ad7 al.bf al.av [] [] []) (ad7 aq.bf aq.av af [] []) an x0 af
def aFG:KK (BO (aI 1023)) aJg (ata u):=λ_ _ _ _ _ r h=>be h λ_ Me h=>pc74 (f:=(λv_=>AV.agg (gV v_))) (K:=42) (aRO u h) Me
def aGp:Z (cy×Bool):=
 if R.bf==1 then
 (F123 u aa w an).bind λx7=>ata u R (ad7 al.bf al.av [] [] []) (ad7 aq.bf aq.av af [] []) x7 af
 else
 ata u R (ad7 al.bf al.av [] [] []) (ad7 aq.bf aq.av af [] []) an af
def aRN:KK (BO (aI 511)) adD (aGp u):=λ_ _ _ _ _ _ _ r h=>ie h (λc0 h=>be h λ_ iE h=>ra (aFG u h) [aQ c0,(3,.call (aQz u iE) [(42,2)] [])]) λc0 h=>ra (aFG u h) [aQ c0]
def aGo:Z (cy×Bool):=
 (F63 u aa.BA R.av (-1)).bind λx9=>if iL (x9.gM<0) then
 V ((ad7 0 0 [] [] []),I)
 else
 (app [] R.aH).bind λlx=>if R.bf==3 then
 V ((ad7 R.bf x9.gM lx [] []),M)
 else
 (asD u aa R.av).bind λqY=>arW (aGp u) u x9.gM R.xb (R.xb.length:Int) 0 aa R (ad7 0 0 [] [] []) (ad7 R.bf x9.gM lx [] []) qY [] lx
def aRM:KK (BO []) auo (aGo u):=λ_ _ r h=>be h λ_ iS h=>let zA:SE:=[aPC (aqt u iS)];ie h (λc0 h=>bq h zA [aZ c0,(3,.oV 4 (.flat 0 [.bool M,.bool M,.sl 0 38 3 0 [],.sl 0 3 1 0 [],.sl 0 38 3 0 []]))]) λc0 h=>be h λlx jM h=>let zB:SE:=dk zA [aZ c0,(0,.born [] [] 32 M 38 3),(5,jm.app (xs:= []) jM)];ie h (λc1 h=>bq h zB [bP c1,(3,jm.er 32 lx),(0,.oV 4 (.flat 0 [.bool M,.bool M,.sl 0 0 0 0 [],.sl 0 3 1 0 [],.sl 0 38 3 0 []]))]) λc1 h=>be h λ_ rO h=>cB (aDK (aRN u) u h) zB [bP c1,(3,.call (aFq u rO) [] [(41,bA)])]
def F74:=aGo
def ev74:KK (Cx E0 74 aCV bC) auo (F74 u):=λ_ _ _ h=>ca (X:=x74) (aRM u h)
def aDh:AV:=.dr [.ms bA 5 0 d8.1.length,bH d8.2.1,bH d8.2.2]
def avL:List (Nat×Bx):= [(bA,.rows M 113 5 (sF d8.1))]
def lu:=fx E0 Tryz.f30 [3]
def A30:=AxS lu [3] aDh avL
def C30:=CxS E0 30 [3] aDh avL
def aem:LS:=⟨[aX 11,(14,.ms 55 5 0 cE.length),(36,.ms 3 5 0 bd.length),(37,bH w),(38,bH C)],[(3,.rows I 113 5 (sF bd)),(11,.flat 123 (qk cD)),(55,.rows M 113 5 (sF cE))]⟩
def ael:LS:=⟨[(14,.ms 55 5 0 cE.length)],[(3,.rows I 113 5 (sF bd)),(55,.rows M 113 5 (sF cE))]⟩
def auG:LS:=⟨[(0,.agg (cI B)),(1,.rY 46 15 f7.length (ot f7)),(2,iI D),(3,.ms 3 5 0 bd.length)],[(3,.rows I 113 5 (sF bd))]⟩
def aGH (aA:aFU) (back:Int->Int->qH->eE->qH->Z (qH×Int×Int)) (n:Nat) (t37 t38:Int) (lg:qH) (fZ:eE) (b55:qH):Z (qH×Int×Int):=
 if iL (t38<t37) then
 (dX lg.length t38).bind λx3=>(lg[0+x3]?).bind λx5=>(F74 n fZ x5).bind λjd=>if !jd.2 then
 V ([],t38,281)
 else
 (app b55 [jd.1]).bind λfK=>back t37 (aW (t38+1)) lg fZ fK
 else
 aA lg b55
def aTw {aA} (aU:KK (A30 (aI 127)) ael aA) {back} (aK:KK (A30 (aI 351)) aem back) (n:Nat):KK (A30 (aI 351)) aem (aGH aA back n):=λ_ _ _ _ _ r h=>ie h (λc0 h=>be h λ_ eM h=>be h λ_ ic h=>be h λ_ hI h=>let zA:SE:=[aB c0,(1,cX eM),(0,MY.row ic),mw (ev74 n hI)];ie h (λc1 h=>KU h (dk zA [iO c1,(4,.born [8] [] bA M 113 5)])) λc1 h=>be h λ_ ki h=>Hv (aK h) (by kernel_rfl) (dk zA [iO c1,(3,MY.jS ki)])) λc0 h=>Hv (aU h) (by kernel_rfl) [aB c0]
def asa (aA:aFU):Nat->Int->Int->qH->eE->qH->Z (qH×Int×Int)
 |0=>dv.z
 |n+1=>aGH aA (asa aA n) n
def aEi {aA} (aU:KK (A30 (aI 127)) ael aA):∀n:Nat,KK (A30 (aI 351)) aem (asa aA n)
 |0=>KC.h
 |n+1=>aTw aU (aEi aU n) n
def aGG (n:Nat) (lg b55:qH):Z (qH×Int×Int):=
 V (b55,0,0)
def aTv:KK (A30 (aI 127)) ael (aGG u):=λ_ _ r h=>KU h [(4,.iR 55 bA)]
def aGF:Z (qH×Int×Int):=
 (F54 u B f7 D).bind λx8=>if x8.2 !=0 then
 V ([],0,x8.2)
 else
 (F56 u x8.1).bind λkO=>(F73 u kO bd).bind λl7=>if l7 !=0 then
 V ([],0,l7)
 else
 asa (aGG u) u (bd.length:Int) 0 bd x8.1 []
def aTu:KK (A30 []) auG (aGF u):=λ_ _ _ lg r h=>be h λ_ lN h=>let zA:SE:=[yM (aBq u lN)];ie h (λc0 h=>KU h (dk zA [iO c0,(4,.born [8] [] bA M 113 5)])) λc0 h=>be h λ_ mV h=>be h λ_ nr h=>let zB:SE:=dk zA [iO c0,sf (aqu u mV),(1,.AS (ev73 u nr) [MY.er 3 lg] trivial [] [])];ie h (λc1 h=>KU h (dk zB [aQ c1,(4,.born [8] [] bA M 113 5)])) λc1 h=>Hv (aEi (aTv u) u h) (by kernel_rfl) (dk zB [aQ c1,(4,.born [14] [] 55 M 113 5)])
def F30:=aGF
def ev30:KK C30 auG (F30 u):=λ_ _ _ _ _ h=>caS (X:=lu) (aTu u h)
def x47:=fx E0 Tryz.f47 []
def A47:=Ax x47 wR bC
def auy:LS:=⟨[(0,bH w)],[]⟩
def aGC (n:Nat) (n0:Int):Z aS:=
 V (aS.mk 4 n0 A')
def aSC:KK (A47 []) auy (aGC u):=λ_ r h=>rr h []
def K8:=aGC
def Em:KK (Cx E0 47 wR bC) auy (K8 u):=λ_ _ h=>ca (X:=x47) (aSC u h)
def x48:=fx E0 Tryz.f48 []
def A48:=Ax x48 wR bC
def aGB (n:Nat) (s0:U):Z aS:=
 V (aS.mk 5 0 s0)
def aSB:KK (A48 []) C7 (aGB u):=λ_ r h=>rr h []
def F48:=aGB
def aqw:KK (Cx E0 48 wR bC) C7 (F48 u):=λ_ _ h=>ca (X:=x48) (aSB u h)
def iQ:=fx E0 Tryz.f17 []
def A17:=Ax iQ cP bC
def auL:LS:=⟨[],[]⟩
def aGJ:Z Bool:=
 (K8 u 0).bind λeN=>(K8 u 0).bind λdC=>(K8 u 1).bind λfT=>(K8 u 1).bind λja=>(K8 u 0).bind λlx=>(F48 u (Bk #[45])).bind λfK=>(K8 u 7).bind λlu=>(K8 u 7).bind λkC=>(F48 u (Bk #[45])).bind λCg=>(F30 u (ad2 0 [(ai.mk (Bk #[116,97,115,107,115]) [(cA.mk (Bk #[105,100]) 4),(cA.mk (Bk #[116,105,116,108,101]) 5)] 1 [] [])]) [(ad9 1 0 0 0 (Bk #[115,116,97,116,101]) 4 eN [] (ai.mk A' [] 0 [] [])),(ad9 8 0 2 0 A' 0 om [(iq.mk dC fT),(iq.mk ja lx)] (ai.mk A' [] 0 [] [])),(ad9 2 0 1 0 A' 0 fK [] (ai.mk A' [] 0 [] []))] 0 [(ad7 1 0 [lu] [] [kC,Cg])]).bind λDu=>if Du.2.2 !=0 then
 V I
 else
 if (Du.1.length:Int) !=1 then
 V I
 else
 (dX Du.1.length 0).bind λx62=>(Du.1[0+x62]?).bind λp8=>if (p8.xb.length:Int) !=2 then
 V I
 else
 (dX Du.1.length 0).bind λx72=>(Du.1[0+x72]?).bind λx75=>(idx x75.xb 1).bind λoH=>(K8 u 1).bind λx80=>if !((oH.aD==x80.aD)&&((oH.dh==x80.dh)&&((iL (oH.cG=x80.cG))&&M))) then
 V I
 else
 (K8 u 7).bind λx85=>(F48 u (Bk #[97])).bind λx87=>(dX 1 0).bind λx90=>([(ad7 1 0 [lu] [] [kC,Cg])][0+x90]?).bind λx93=>(setAt [(ad7 1 0 [lu] [] [kC,Cg])] (0+x90) (ad7 x93.bf x93.av x93.aH x93.ag [x85,x87])).bind λz94=>(F30 u (ad2 0 [(ai.mk (Bk #[116,97,115,107,115]) [(cA.mk (Bk #[105,100]) 4),(cA.mk (Bk #[116,105,116,108,101]) 5)] 1 [] [])]) [(ad9 1 0 0 0 (Bk #[115,116,97,116,101]) 4 eN [] (ai.mk A' [] 0 [] [])),(ad9 8 0 2 0 A' 0 om [(iq.mk dC fT),(iq.mk ja lx)] (ai.mk A' [] 0 [] [])),(ad9 2 0 1 0 A' 0 fK [] (ai.mk A' [] 0 [] []))] 0 z94).bind λx99=>(K8 u 7).bind λGi=>(K8 u 1).bind λacO=>(F21 u (ad2 0 [(ai.mk (Bk #[116,97,115,107,115]) [(cA.mk (Bk #[105,100]) 4),(cA.mk (Bk #[116,105,116,108,101]) 5)] 1 [] [])]) [(ad9 1 0 0 0 (Bk #[115,116,97,116,101]) 4 eN [] (ai.mk A' [] 0 [] [])),(ad9 8 0 2 0 A' 0 om [(iq.mk dC fT),(iq.mk ja lx)] (ai.mk A' [] 0 [] [])),(ad9 2 0 1 0 A' 0 fK [] (ai.mk A' [] 0 [] []))] 0 1 (ad6 [[[Gi,acO]]])).bind λLk=>if x99.2.2==281 then
 if x99.2.1==0 then
 if Lk.2==0 then
 if (Lk.1.ah.length:Int)==1 then
 (idx Lk.1.ah 0).bind λaov=>if (aov.length:Int)==1 then
 (idx Lk.1.ah 0).bind λaou=>(idx aou 0).bind λaot=>if (aot.length:Int)==2 then
 (idx Lk.1.ah 0).bind λx166=>(idx x166 0).bind λaos=>(idx aos 1).bind λWi=>(F48 u (Bk #[45])).bind λWh=>V ((Wi.aD==Wh.aD)&&((Wi.dh==Wh.dh)&&((iL (Wi.cG=Wh.cG))&&M)))
 else
 V I
 else
 V I
 else
 V I
 else
 V I
 else
 V I
 else
 V I
def aTS:KK (A17 []) auL (aGJ u):=λr h=>be h λeN iK h=>be h λdC fE h=>be h λfT kU h=>be h λja jN h=>be h λlx jM h=>be h λfK ki h=>be h λlu rP h=>be h λkC pI h=>be h λCg JL h=>be h λ_ Yq h=>let zA:SE:=[(5,eW.er 14 [(cA.mk (Bk #[105,100]) 4),(cA.mk (Bk #[116,105,116,108,101]) 5)]),(0,.tU 15 (.agg (y6 3 [.sl 0 121 2 0 [],.sl 0 107 13 0 []]))),j2 (Em u iK),sf (Em u fE),iX (Em u kU),sf (Em u jN),iX (Em u jM),j3 (aqw u ki),(1,.tU 19 (.agg (y6 9 [.sl 0 110 6 0 [],.bool M,.sl 0 73 2 0 [],.bool M,.sl 0 121 2 0 [],.sl 0 107 13 0 []]))),(0,ED.er 26 [(iq.mk dC fT),(iq.mk ja lx)]),(0,.tU 27 (.agg (y6 11 [.sl 0 73 2 0 [],.bool M,.sl 0 121 2 0 [],.sl 0 107 13 0 []]))),(0,.tU 29 (.agg (y6 9 [.sl 0 110 6 0 [],.bool M,.sl 0 73 2 0 [],.bool M,.sl 0 121 2 0 [],.sl 0 107 13 0 []]))),im (Em u rP),sf (Em u pI),iX (aqw u JL),(2,jm.er 32 [lu]),(0,jm.er 35 [kC,Cg]),(0,.tU 36 (.agg (y6 3 [.sl 0 3 1 0 []]))),(5,cm.er 16 [(ai.mk (Bk #[116,97,115,107,115]) [(cA.mk (Bk #[105,100]) 4),(cA.mk (Bk #[116,105,116,108,101]) 5)] 1 [] [])]),(0,H6.er 30 [(ad9 1 0 0 0 (Bk #[115,116,97,116,101]) 4 eN [] (ai.mk A' [] 0 [] [])),(ad9 8 0 2 0 A' 0 om [(iq.mk dC fT),(iq.mk ja lx)] (ai.mk A' [] 0 [] [])),(ad9 2 0 1 0 A' 0 fK [] (ai.mk A' [] 0 [] []))]),(0,.call (ev30 u Yq) [(37,3)] [(304200,bA)])];ie h (λc0 h=>bq h zA [iG c0]) λc0 h=>let zB:SE:=dk zA [iG c0];ie h (λc1 h=>bq h zB [aZ c1]) λc1 h=>be h λ_ hx62 h=>be h λ_ aAI h=>let zC:SE:=dk zB [aZ c1,(3,cX hx62),(1,MY.row aAI)];ie h (λc2 h=>bq h zC [aV c2]) λc2 h=>be h λ_ hx72 h=>be h λ_ hx75 h=>be h λ_ aAH h=>be h λ_ hx80 h=>let zD:SE:=dk zC [aV c2,(3,cX hx72),(1,MY.row hx75),(0,jm.idx aAH),(1,.J8 (Em u hx80))];ie h (λc3 h=>bq h zD [aB c3]) λc3 h=>be h λx85 hx85 h=>be h λx87 hx87 h=>be h λ_ hx90 h=>be h λ_ hx93 h=>be h λ_ hz94 h=>be h λ_ hx99 h=>be h λGi apX h=>be h λacO aPL h=>be h λ_ aPK h=>let zE:SE:=dk zD [aB c3,im (Em u hx85),iX (aqw u hx87),(1,cX hx90),(1,jm.er 74 [x85,x87]),(0,MY.uR 4 [.slice 38 3 [x85,x87].length (dm [x85,x87])] hx93 hz94),(3,.seq 80 (bF (AV.ms 37 5 0) (ey hz94))),(0,.call (ev30 u hx99) [(37,3)] [(308100,bA)]),(7,.ord [0,1,2,3,12,4,5,6,7,8,9,10,11,13,14]),(2,.J8 (Em u apX)),(0,.J8 (Em u aPL)),(1,.bsF 90 3 2 [jm.er 90 [Gi,acO]]),(0,.bsF 91 1 1 [na.er 91 [[Gi,acO]]]),(0,.bsF 92 1 1 [vh.er 92 [[[Gi,acO]]]]),sf (aqx u aPK)];ie h (λc4 h=>let zF:SE:=dk zE [dg c4];ie h (λc5 h=>let zG:SE:=dk zF [aQ c5];ie h (λc6 h=>let zH:SE:=dk zG [aZ c6];ie h (λc7 h=>be h λ_ aPJ h=>let zI:SE:=dk zH [bP c7,(4,vh.idx aPJ)];ie h (λc8 h=>be h λ_ aPI h=>be h λ_ aPH h=>let zJ:SE:=dk zI [aQ c8,(4,vh.idx aPI),(1,na.idx aPH)];ie h (λc9 h=>be h λ_ aPG h=>be h λ_ aPF h=>be h λ_ aPE h=>be h λ_ aPD h=>bq h zJ [aQ c9,(4,vh.idx aPG),(1,na.idx aPF),(1,jm.idx aPE),(1,.J8 (aqw u aPD))]) λc9 h=>bq h zJ [aQ c9]) λc8 h=>bq h zI [aQ c8]) λc7 h=>bq h zH [bP c7]) λc6 h=>bq h zG [aZ c6]) λc5 h=>bq h zF [aQ c5]) λc4 h=>bq h zE [dg c4]
def F17:=aGJ
def ev17:KK (Cx E0 17 cP bC) auL (F17 u):=λ_ h=>ca (X:=iQ) (aTS u h)
def aDc:AV:=.ms bA 3 0 eb.1.length
def avG:List (Nat×Bx):= [(0,mD (fg eb.2)),(bA,BW eb.1)]
def x49:=fx E0 Tryz.f49 [0]
def NG:=Ax x49 aDc avG
def aJq:LS:=⟨[aX 0,(2,iI w),(3,iI C),(9,.ms 9 3 0 dA.length),(11,iI D),(12,.slice 3 1 ge.length (dJ ge)),(13,iI O),(14,iI ex),(41,.bool ba)],[(0,mD (fg cN)),(9,BW dA)]⟩
def Hj:LS:=⟨[aX 0,(2,iI w),(3,iI C),(9,.ms 9 3 0 dA.length),(12,.slice 3 1 ge.length (dJ ge)),(13,iI O),(14,iI ex)],[(0,mD (fg cN)),(9,BW dA)]⟩
def adR:LS:=⟨[(9,.ms 9 3 0 W.length)],[(0,mD (fg ab)),(9,BW W)]⟩
def auw:LS:=⟨[aX 0,(1,.slice 3 1 Y.length (dJ Y)),(2,iI ap),(3,iI aT)],(sG (fg ab))⟩
def F5 (ed k11:Int) (t12:aP) (t13 t14:Int) (t41:Bool) (b0:aN) (b9:bt):Z (bt×aN):=
 if t41 then
 (app b9 [(aS.mk 1 0 A')]).bind λx4=>dZ cv ed t12 t13 t14 b0 x4
 else
 (F93 d1 b0 k11).bind λx4=>(app b9 [x4.1]).bind λx7=>dZ cv ed t12 t13 t14 x4.2 x7
def Ty {aA} (aU:KK (NG (aI 971)) Hj aA) (n:Nat):KK (NG (aI 62667)) aJq (F5 aA n):=λ_ _ _ _ _ _ _ _ _ r h=>ie h (λdu bE=>by subst du;exact (be bE λx4 iF bE=>ra (aU bE) [(3,jm.jS iF)])) λdu bE=>by subst du;exact (be bE λx4 iF bE=>be bE λx7 iE bE=>ra (aU bE) [(3,.call (Q6 n iF) [(0,0)] []),(1,jm.jS iE)])
def AY (n:Nat) (jF ed:Int) (t12:aP) (t13 t14:Int) (b0:aN) (b9:bt):Z (bt×aN):=
 dZ jF ed t12 t13 (aW (t14+1)) b0 b9
def OV {bh} (cF:KK (NG [0,1,0,1,1]) Hj bh) (n:Nat):KK (NG (aI 971)) Hj (AY bh n):=λ_ _ _ _ _ _ _ r h=>ra (cF h) []
def abP (bn:aFT) (back:aBZ) (n:Nat) (jF ed:Int) (t12:aP) (t13 t14:Int) (b0:aN) (b9:bt):Z (bt×aN):=
 if iL (t14<t13) then
 (idx t12 t14).bind λx3=>if !iL (t14<jF) then
 if ed !=1 then
 (Cu n b0 5).bind λiQ=>if iQ.1 then
 (app b9 [(aS.mk 2 0 A')]).bind λHd=>AY back n jF ed t12 t13 t14 iQ.2 Hd
 else
 if ed==3 then
 (Cu n iQ.2 5).bind λlu=>F5 (AY back n) n jF ed x3 t12 t13 t14 lu.1 lu.2 b9
 else
 F5 (AY back n) n jF ed x3 t12 t13 t14 I iQ.2 b9
 else
 if ed==3 then
 (Cu n b0 5).bind λuP=>F5 (AY back n) n jF ed x3 t12 t13 t14 uP.1 uP.2 b9
 else
 F5 (AY back n) n jF ed x3 t12 t13 t14 I b0 b9
 else
 F5 (AY back n) n jF ed x3 t12 t13 t14 I b0 b9
 else
 bn b0 b9
def aSA {bn} (cM:KK (NG [1,1,1]) adR bn) {back} (aK:KK (NG [0,1,0,1,1]) Hj back) (n:Nat):KK (NG [0,1,0,1,1]) Hj (abP bn back n):=λ_ _ _ _ _ _ _ r h=>ie h (λdu h=>be h λ_ eM h=>let zA:SE:=[aB du,(1,R3.idx eM)];ie h (λc1 h=>let zB:SE:=dk zA [bP c1];ie h (λc2 h=>be h λ_ iJ h=>ie h (λc3 h=>be h λ_ Af h=>cB (OV aK n h) zB [aQ c2,(3,.call (cb (qi n iJ) c3) [(0,0)] []),(5,jm.jS Af)]) λc3 h=>let zC:SE:=dk zB [aQ c2,(3,.call (cb (qi n iJ) c3) [(0,0)] []),bk c1];ie h (λc4 h=>be h λ_ rP h=>cB (Ty (OV aK n) n h) zC [aQ c4,(3,.call (qi n rP) [(0,0)] [])]) λc4 h=>cB (Ty (OV aK n) n h) zC [aQ c4]) λc2 h=>ie h (λc3 h=>be h λ_ D5 h=>cB (Ty (OV aK n) n h) zB [aQ c2,dg c1,aQ c3,(3,.call (qi n D5) [(0,0)] [])]) λc3 h=>cB (Ty (OV aK n) n h) zB [aQ c2,dg c1,aQ c3]) λc1 h=>cB (Ty (OV aK n) n h) zA [bP c1,iO c1]) λdu h=>ra (cM h) [aB du]
def FY (bn:aFT):Nat->Int->Int->aP->Int->Int->aN->bt->Z (bt×aN)
 |0=>dv.z
 |n+1=>abP bn (FY bn n) n
def aDS {bn} (cM:KK (NG [1,1,1]) adR bn):∀n:Nat,KK (NG [0,1,0,1,1]) Hj (FY bn n)
 |0=>KC.h
 |n+1=>aSA cM (aDS cM n) n
def PL (n:Nat) (b0:aN) (b9:bt):Z (bt×aN):=
 V (b9,b0)
def aSz:KK (NG [1,1,1]) adR (PL u):=λ_ _ r h=>rr h [(2,.iR 9 bA)]
def aGA:Z (bt×aN):=
 FY (PL u) u ap aT Y (Y.length:Int) 0 ab []
def aSy:KK (NG []) auw (aGA u):=λ_ _ _ _ r h=>ra (aDS (aSz u) u h) [(5,.born [9] [] 9 M 38 3)]
def F49:=aGA
def ev49:KK (Cx E0 49 aDc avG) auw (F49 u):=λ_ _ _ _ _ h=>ca (X:=x49) (aSy u h)
def rW:=fx E0 Tryz.f69 []
def A69:=Ax rW dR bC
def ate (n:Nat) (a0 b1:aS):Z Int:=
 if iL (a0.aD<b1.aD) then
 V (-1)
 else
 if iL (b1.aD<a0.aD) then
 V 1
 else
 if iL (a0.dh<b1.dh) then
 V (-1)
 else
 if iL (b1.dh<a0.dh) then
 V 1
 else
 if N' a0.cG.toList b1.cG.toList then
 V (-1)
 else
 if !(N' a0.cG.toList b1.cG.toList||a0.cG.toList==b1.cG.toList) then
 V 1
 else
 V 0
def aRX:KK (A69 []) Og (ate u):=λ_ _ r h=>ie h (λc0 h=>rr h [iO c0]) λc0 h=>ie h (λc1 h=>rr h [iO c0,bP c1]) λc1 h=>let zA:SE:=[iO c0,bP c1];ie h (λc2 h=>bq h zA [bP c2]) λc2 h=>let zB:SE:=dk zA [bP c2];ie h (λc3 h=>bq h zB [bP c3]) λc3 h=>ie h (λc4 h=>bq h zB [bP c3,bP c4]) λc4 h=>ie h (λc5 h=>bq h zB [bP c3,bP c4,bP c5]) λc5 h=>bq h zB [bP c3,bP c4,bP c5]
def F69:=ate
def ev69:KK (Cx E0 69 dR bC) Og (F69 u):=λ_ _ _ h=>ca (X:=rW) (aRX u h)
def uP:=fx E0 Tryz.f27 []
def A27:=Ax uP dR bC
def aen:LS:=⟨[(0,.slice 38 3 E.length (dm E)),(1,.slice 38 3 W.length (dm W)),(5,iI ap)],[]⟩
def acm (aA:arL) (back:bt->bt->Int->Z Int) (n:Nat) (a0 b1:bt) (i5:Int):Z Int:=
 if iL (i5<(a0.length:Int)) then
 if iL (i5<(b1.length:Int)) then
 (idx a0 i5).bind λdC=>(idx b1 i5).bind λja=>(F69 n dC ja).bind λnh=>if nh !=0 then
 V nh
 else
 back a0 b1 (aW (i5+1))
 else
 aA a0 b1
 else
 aA a0 b1
def aTz {aA} (aU:KK (A27 [1,1]) vo aA) {back} (aK:KK (A27 [0,1,0,1]) aen back) (n:Nat):KK (A27 [0,1,0,1]) aen (acm aA back n):=λ_ _ _ r h=>ie h (λc0 h=>ie h (λc1 h=>be h λ_ fE h=>be h λ_ jN h=>be h λ_ o7 h=>let zA:SE:=[aZ c0,bk c1,(3,jm.idx fE),(3,jm.idx jN),sf (ev69 n o7)];ie h (λc2 h=>bq h zA [aQ c2]) λc2 h=>cB (aK h) zA [aQ c2]) λc1 h=>ra (aU h) [aZ c0,bk c1]) λc0 h=>ra (aU h) [aZ c0]
def Pq (aA:arL):Nat->bt->bt->Int->Z Int
 |0=>dv.z
 |n+1=>acm aA (Pq aA n) n
def aEj {aA} (aU:KK (A27 [1,1]) vo aA):∀n:Nat,KK (A27 [0,1,0,1]) aen (Pq aA n)
 |0=>KC.h
 |n+1=>aTz aU (aEj aU n) n
def Ui (n:Nat) (a0 b1:bt):Z Int:=
 if iL ((a0.length:Int)<(b1.length:Int)) then
 V (-1)
 else
 if iL ((b1.length:Int)<(a0.length:Int)) then
 V 1
 else
 V 0
def aTy:KK (A27 [1,1]) vo (Ui u):=λ_ _ r h=>ie h (λc0 h=>rr h [bk c0]) λc0 h=>ie h (λc1 h=>rr h [bk c0,bP c1]) λc1 h=>rr h [bk c0,bP c1]
def aGI:Z Int:=
 Pq (Ui u) u E W 0
def aTx:KK (A27 []) vo (aGI u):=λ_ _ r h=>ra (aEj (aTy u) u h) []
def F27:=aGI
def agK:KK (Cx E0 27 dR bC) vo (F27 u):=λ_ _ _ h=>ca (X:=uP) (aTx u h)
def x104:=fx E0 Tryz.f104 []
def A104:=Ax x104 wS ye
def alK:LS:=⟨[(0,.slice 38 3 E.length (dm E))],[]⟩
def akf (n:Nat) (r0:bt):Z bt:=
 (app [] r0).bind λx3=>V x3
def aOh:KK (A104 []) alK (akf u):=λ_ r h=>be h λ_ eM h=>rr h [(2,.born [] [] 4 M 38 3),(0,jm.app (xs:= []) eM),(1,.iR 4 bA)]
def Na:=akf
def Tj:KK (Cx E0 104 wS ye) alK (Na u):=λ_ _ h=>ca (X:=x104) (aOh u h)
def x52:=fx E0 Tryz.f52 []
def A52:=Ax x52 wS ye
def atn:Z bt:=
 if iL (C<0) then
 V []
 else
 if !iL (C<(B.ah.length:Int)) then
 V []
 else
 (idx B.ah C).bind λgd=>(cut E G (V (if 0<(if (E.length:Int)<gd.aH then (E.length:Int) else gd.aH) then (if (E.length:Int)<gd.aH then (E.length:Int) else gd.aH) else 0))).bind λHd=>(Na u Hd).bind λs8=>V s8
def aSr:KK (A52 []) Hi (atn u):=λ_ _ _ r h=>ie h (λc0 h=>rr h [aZ c0,(3,.born [6] [] bA M 38 3)]) λc0 h=>ie h (λc1 h=>rr h [aZ c0,bP c1,(2,.born [6] [] bA M 38 3)]) λc1 h=>be h λ_ iB h=>be h λ_ Af h=>be h λ_ rQ h=>rr h [aZ c0,bP c1,(5,cm.idx iB),(6,jm.cut Af),(0,.call (Tj u rQ) [] [(28,bA)]),(1,.iR 28 bA)]
def F52:=atn
def agJ:KK (Cx E0 52 wS ye) Hi (F52 u):=λ_ _ _ _ h=>ca (X:=x52) (aSr u h)
def aDb:AV:=.agg [tv eQ ee.2.length]
def avE:List (Nat×Bx):= [(eQ,xx ee.2)]
def x51:=fx E0 Tryz.f51 [eQ]
def A51:=Ax x51 aDb avE
def aJp (b6 nP:aF) (fD:bK):LS:=⟨[(2,iI w),(3,.slice 38 3 E.length (dm E)),(4,.slice 38 3 W.length (dm W)),aX 5,aX 6,aX 10,(11,.ms 45 1 0 fD.length),(12,.bool ba),(14,.slice 38 3 co.length (dm co)),(15,iI cp),(23,.slice 70 1 bV.length (l9 bV)),(24,iI bD),(25,iI cc)],[(5,iU (cI cu)),(6,DM eQ cK.length),(10,vt),(45,xw fD),(eQ,xx cK)]⟩
def Sa (b6 nP:aF) (fD:bK):LS:=⟨[(2,iI w),(3,.slice 38 3 E.length (dm E)),(4,.slice 38 3 W.length (dm W)),aX 5,aX 6,aX 10,(11,.ms 45 1 0 fD.length),(12,.bool ba),(23,.slice 70 1 bs.length (l9 bs)),(24,iI aT),(25,iI bc)],[(5,iU (cI cu)),(6,DM eQ cK.length),(10,vt),(45,xw fD),(eQ,xx cK)]⟩
def aJo (b6 nP:aF) (fD:bK):LS:=⟨[(2,bH w),aX 6,aX 10,(11,.ms 45 1 0 fD.length)],[(6,DM eQ bb.length),(10,vt),(45,xw fD),(eQ,xx bb)]⟩
def adO (b6 nP:aF) (fD:bK):LS:=⟨[(2,iI w),(4,.slice 38 3 E.length (dm E)),aX 6,aX 10,(11,.ms 45 1 0 fD.length),(12,.bool ba)],[(6,DM eQ bb.length),(10,vt),(45,xw fD),(eQ,xx bb)]⟩
def auv:LS:=⟨[(0,.agg (cI B)),(1,.agg [tv eQ g6.ah.length]),(2,iI ex),(3,.slice 38 3 W.length (dm W)),(4,.slice 38 3 af.length (dm af))],[(eQ,azW g6)]⟩
def PK (aA:Wf60) (n:Nat) (fB:Int) (lZ o4:bt) (ql:Bool) (r14:bt) (c15:Int) (t23:bK) (t24 t25:Int) (dG:cJ) (b5:ae) (b6 nP:aF) (fD:bK):Z (aF×cJ):=
 if c15 !=0 then
 (app fD [r14]).bind λx6=>aA fB lZ o4 ql t23 t24 (aW (t25+1)) dG b5 (ad6 dG) (ad6 []) x6
 else
 aA fB lZ o4 ql t23 t24 (aW (t25+1)) dG b5 (ad6 dG) (ad6 []) fD
def ark {aA} (aU:KK (A51 (aI 87)) Sa aA) (n:Nat):KK (A51 (aI 31127)) aJp (PK aA n):=λ_ _ _ _ _ _ _ _ _ _ _ _ _ _ r h=>ie h (λc0 h=>be h λ_ jL h=>ra (aU h) [aV c0,(3,na.jS jL)]) λc0 h=>ra (aU h) [aV c0]
def abM (bn:Wf61) (back:Wf60) (n:Nat) (fB:Int) (lZ o4:bt) (ql:Bool) (t23:bK) (t24 t25:Int) (dG:cJ) (b5:ae) (b6 nP:aF) (fD:bK):Z (aF×cJ):=
 if iL (t25<t24) then
 (idx t23 t25).bind λx2=>(F52 n b5 fB x2).bind λx9=>(F27 n x9 lZ).bind λjd=>if !iL (jd<0) then
 if !ql then
 (Na n o4).bind λiP=>(app fD [iP]).bind λs8=>PK back n fB lZ o4 M x2 jd t23 t24 t25 dG b5 (ad6 dG) (ad6 []) s8
 else
 PK back n fB lZ o4 ql x2 jd t23 t24 t25 dG b5 (ad6 dG) (ad6 []) fD
 else
 PK back n fB lZ o4 ql x2 jd t23 t24 t25 dG b5 (ad6 dG) (ad6 []) fD
 else
 bn fB o4 ql dG (ad6 dG) (ad6 []) fD
def aSu {bn} (cM:KK (A51 [1,1,1,1]) adO bn) {back} (aK:KK (A51 (aI 87)) Sa back) (n:Nat):KK (A51 (aI 87)) Sa (abM bn back n):=λ_ _ _ _ _ _ _ _ _ _ _ _ r h=>ie h (λc0 h=>be h λ_ di h=>be h λx9 iS h=>be h λ_ hI h=>let zA:SE:=[aB c0,(0,na.idx di),(5,.call (agJ n iS) [] [(32,bA)]),(1,jm.er 32 x9),iX (agK n hI)];ie h (λc1 h=>ie h (λc2 h=>be h λiP o6 h=>be h λ_ rQ h=>cB (ark aK n h) zA [aQ c1,aQ c2,(3,.call (Tj n o6) [] [(43,bA)]),(0,jm.er 43 iP),(0,.tU 43 (.sl 0 0 0 0 [])),(1,na.jS rQ)]) λc2 h=>cB (ark aK n h) zA [aQ c1,aQ c2]) λc1 h=>cB (ark aK n h) zA [aQ c1]) λc0 h=>ra (cM h) [aB c0]
def Kk (bn:Wf61):Nat->Int->bt->bt->Bool->bK->Int->Int->cJ->ae->aF->aF->bK->Z (aF×cJ)
 |0=>dv.z
 |n+1=>abM bn (Kk bn n) n
def aDQ {bn} (cM:KK (A51 [1,1,1,1]) adO bn):∀n:Nat,KK (A51 (aI 87)) Sa (Kk bn n)
 |0=>KC.h
 |n+1=>aSu cM (aDQ cM n) n
def abL (n:Nat) (fB:Int) (dG:cJ) (b6 nP:aF) (fD:bK):Z (aF×cJ):=
 (dX dG.length fB).bind λx5=>(dG[0+x5]?).bind λx7=>(setAt dG (0+x5) fD).bind λz8=>V ((ad6 z8),z8)
def aFJ:KK (A51 [1,1,1,1,1]) aJo (abL u):=λ_ _ _ _ fD r h=>be h λ_ ic h=>be h λ_ iE h=>be h λ_ hz8 h=>rr h [(4,cX ic),(0,na.er 45 fD),(0,.tU 63 (.sl 0 0 0 0 [])),(0,vh.uR 0 [.slice 70 1 fD.length (l9 fD)] iE hz8),(2,.beq 10 (bF (DM eQ) (ey hz8)))]
def T9 (b6 nP:aF) (fD:bK):Z (aF×cJ):=
 if !ba then
 (Na u E).bind λx5=>(app fD [x5]).bind λx8=>abL u w bb (ad6 bb) (ad6 []) x8
 else
 abL u w bb (ad6 bb) (ad6 []) fD
def aSt:KK (A51 [1,1,1,1]) adO (T9 u):=λ_ _ _ _ _ _ _ r h=>ie h (λc0 h=>be h λx5 ic h=>be h λ_ lN h=>ra (aFJ u h) [aV c0,(2,.call (Tj u ic) [] [(57,bA)]),(0,jm.er 57 x5),(0,.tU 57 (.sl 0 0 0 0 [])),(1,na.jS lN)]) λc0 h=>ra (aFJ u h) [aV c0]
def ato:Z (aF×cJ):=
 (dX g6.ah.length ex).bind λjd=>(g6.ah[0+jd]?).bind λiv=>Kk (T9 u) u ex W af ((af.length:Int)==0) iv (iv.length:Int) 0 g6.ah B g6 (ad6 []) []
def aSs:KK (A51 []) auv (ato u):=λ_ _ _ _ _ r h=>be h λ_ hI h=>be h λ_ iC h=>ra (aDQ (aSt u) u h) [(11,cX hI),(0,vh.row iC),(2,.born [11] [] 45 M 70 1)]
def F51:=ato
def ev51:KK (Cx E0 51 aDb avE) auv (F51 u):=λ_ _ _ _ _ _ h=>ca (X:=x51) (aSs u h)
def aDj:AV:=.agg (rD ef.1)
def avM:List (Nat×Bx):= (sG (fg ef.2))
def kO:=fx E0 Tryz.f19 [0]
def Gg:=Ax kO aDj avM
def aev (b6 b7:aF) (gz:cJ):LS:=⟨[aX 0,(2,bH w),aX 4,aX 6,aX 7,(8,bH C),(9,bH D),(18,bH H),(19,bH O)],[(0,mD (fg cN)),(4,iU (cI cu)),(6,vt),(7,.flat 51 [.ms 14 1 0 gz.length]),(14,xx gz)]⟩
def DE (b6 b7:aF) (gz:cJ):LS:=⟨[aX 0,(2,bH w),aX 4,aX 6,aX 7,(18,bH C),(19,bH D)],[(0,mD (fg ab)),(4,iU (cI N)),(6,vt),(7,.flat 51 [.ms 14 1 0 gz.length]),(14,xx gz)]⟩
def aeu (b6 b7:aF) (gz:cJ):LS:=⟨[aX 6,aX 7],[(0,mD (fg ab)),(6,vt),(7,.flat 51 [.ms 14 1 0 gz.length]),(14,xx gz)]⟩
def auK:LS:=⟨[aX 0,(1,.agg (cI N)),(2,bH O)],(sG (fg ab))⟩
def acx (back:Int->Int->Int->Int->Int->aN->ae->aF->aF->cJ->Z (aF×aN)) (n:Nat) (iW t8 n9 t18 t19:Int) (b0:aN) (b4:ae) (b6 b7:aF) (gz:cJ):Z (aF×aN):=
 if iL (0<n9) then
 (F50 n b4 t8).bind λx6=>(idx b4.ah t8).bind λdN=>(F49 n b0 x6 dN.aH iW).bind λgd=>(F52 n b4 t8 gd.1).bind λfK=>(F51 n b4 (ad6 gz) t8 fK gd.1).bind λpL=>back iW t8 (aW (n9-1)) t18 t19 gd.2 b4 (ad6 []) (ad6 pL.2) pL.2
 else
 dT iW t18 t19 b0 b4 (ad6 []) (ad6 gz) gz
def aTQ {aA} (aU:KK (Gg (aI 971)) DE aA) {back} (aK:KK (Gg (aI 11467)) aev back) (n:Nat):KK (Gg (aI 11467)) aev (acx aA back n):=λ_ _ _ _ _ _ _ _ _ _ r h=>ie h (λdu h=>be h λx6 jL h=>be h λ_ fN h=>be h λgd iB h=>be h λfK ki h=>be h λ_ sO h=>ra (aK h) [aV du,(0,.ord [0,1,2,4,5,6,7,8,9,10,3,11,12]),(6,cm.idx fN),(3,vD (cd (e:=3) (z:=M) (Q:=dJ x6) (aqv n jL) (R3.len x6))),(0,.call (ev49 n iB) [(0,0)] [(39,bA)]),(1,jm.er 39 gd.1),(0,.ord [0,1,2,3,4,5,7,6,8,9]),(7,vD (cd (e:=38) (z:=M) (Q:=dm fK) (agJ n ki) (jm.len fK))),(0,.call (ev51 n sO) [(14,eQ)] [])]) λdu h=>ra (aU h) [aV du]
def Pu (aA:arF):Nat->Int->Int->Int->Int->Int->aN->ae->aF->aF->cJ->Z (aF×aN)
 |0=>dv.z
 |n+1=>acx aA (Pu aA n) n
def aEq {aA} (aU:KK (Gg (aI 971)) DE aA):∀n:Nat,KK (Gg (aI 11467)) aev (Pu aA n)
 |0=>KC.h
 |n+1=>aTQ aU (aEq aU n) n
def acw (n:Nat) (iW t18 t19:Int) (b0:aN) (b4:ae) (b6 b7:aF) (gz:cJ):Z (aF×aN):=
 dT iW t18 (aW (t19+1)) b0 b4 (ad6 []) (ad6 gz) gz
def aTP {bh} (cF:KK (Gg [0,1,0,1,1]) DE bh) (n:Nat):KK (Gg (aI 971)) DE (acw bh n):=λ_ _ _ _ _ _ _ _ r h=>ra (cF h) []
def acv (bn:Wf63) (back:arF) (n:Nat) (iW t18 t19:Int) (b0:aN) (b4:ae) (b6 b7:aF) (gz:cJ):Z (aF×aN):=
 if iL (t19<t18) then
 (qJ n b0 5).bind λx5=>Pu (acw back n) n iW t19 x5.1 t18 t19 x5.2 b4 (ad6 []) (ad6 gz) gz
 else
 bn b0 (ad6 []) (ad6 gz) gz
def aTO {bn} (cM:KK (Gg [1,1,1]) aeu bn) {back} (aK:KK (Gg [0,1,0,1,1]) DE back) (n:Nat):KK (Gg [0,1,0,1,1]) DE (acv bn back n):=λ_ _ _ _ _ _ _ _ r h=>ie h (λdu h=>be h λ_ ic h=>ra (aEq (aTP aK n) n h) [aB du,(3,.call (nW n ic) [(0,0)] [])]) λdu h=>ra (cM h) [aB du]
def Kq (bn:Wf63):Nat->Int->Int->Int->aN->ae->aF->aF->cJ->Z (aF×aN)
 |0=>dv.z
 |n+1=>acv bn (Kq bn n) n
def aEp {bn} (cM:KK (Gg [1,1,1]) aeu bn):∀n:Nat,KK (Gg [0,1,0,1,1]) DE (Kq bn n)
 |0=>KC.h
 |n+1=>aTO cM (aEp cM n) n
def Ut (n:Nat) (b0:aN) (b6 b7:aF) (gz:cJ):Z (aF×aN):=
 V ((ad6 gz),b0)
def aTN:KK (Gg [1,1,1]) aeu (Ut u):=λ_ _ _ gz r h=>rr h [(2,vh.er 14 gz)]
def atD:Z (aF×aN):=
 (tu (N.ah.length:Int) ([]:bK)).bind λx6=>Kq (Ut u) u O (N.ah.length:Int) 0 ab N (ad6 []) (ad6 x6) x6
def aTM:KK (Gg []) auK (atD u):=λ_ _ _ r h=>be h λ_ jL h=>ra (aEp (aTN u) u h) [(5,vh.made jL),(0,.seq 14 (bF (AV.ms 14 1 0) ((QB jL))))]
def F19:=atD
def ev19:KK (Cx E0 19 aDj avM) auK (F19 u):=λ_ _ _ _ h=>ca (X:=kO) (aTM u h)
def x62:=fx E0 Tryz.f62 []
def A62:=Ax x62 cP bC
def adN:LS:=⟨[(0,.slice 70 1 bs.length (l9 bs)),(1,.slice 70 1 bV.length (l9 bV)),(12,iI bD),(13,iI cc)],[]⟩
def adM:LS:=⟨[],[]⟩
def aut:LS:=⟨[(0,.slice 70 1 bs.length (l9 bs)),(1,.slice 70 1 bV.length (l9 bV))],[]⟩
def abK (back:bK->bK->Int->Int->Z Bool) (n:Nat) (a0 b1:bK) (t12 t13:Int):Z Bool:=
 if iL (t13<t12) then
 (idx a0 t13).bind λx6=>(idx b1 t13).bind λdN=>(F27 n x6 dN).bind λiv=>if iv !=0 then
 V I
 else
 back a0 b1 t12 (aW (t13+1))
 else
 bR
def aSm {aA} (aU:KK (A62 [1,1,1]) adM aA) {back} (aK:KK (A62 [0,1,0,1,1]) adN back) (n:Nat):KK (A62 [0,1,0,1,1]) adN (abK aA back n):=λ_ _ _ _ r h=>ie h (λc0 h=>be h λ_ jL h=>be h λ_ fN h=>be h λ_ iC h=>let zA:SE:=[aB c0,(4,na.idx jL),(3,na.idx fN),sf (agK n iC)];ie h (λc1 h=>bq h zA [aB c1]) λc1 h=>cB (aK h) zA [aB c1]) λc0 h=>ra (aU h) [aB c0]
def Pg (aA:Z Bool):Nat->bK->bK->Int->Int->Z Bool
 |0=>dv.z
 |n+1=>abK aA (Pg aA n) n
def aDP {aA} (aU:KK (A62 [1,1,1]) adM aA):∀n:Nat,KK (A62 [0,1,0,1,1]) adN (Pg aA n)
 |0=>KC.h
 |n+1=>aSm aU (aDP aU n) n
def abJ (n:Nat):Z Bool:=
 V M
def aSl:KK (A62 [1,1,1]) adM (abJ u):=λr h=>rr h []
def atj:Z Bool:=
 if (bs.length:Int) !=(bV.length:Int) then
 V I
 else
 Pg (abJ u) u bs bV (bs.length:Int) 0
def aSk:KK (A62 []) aut (atj u):=λ_ _ r h=>ie h (λc0 h=>rr h [bP c0]) λc0 h=>ra (aDP (aSl u) u h) [bP c0]
def F62:=atj
def ev62:KK (Cx E0 62 cP bC) aut (F62 u):=λ_ _ _ h=>ca (X:=x62) (aSk u h)
def iP:=fx E0 Tryz.f23 []
def A23:=Ax iP cP bC
def aer:LS:=⟨[aX 2,aX 3,(15,bH w),(16,bH C)],[(2,.flat 51 (rD g6)),(3,.flat 51 (rD bo))]⟩
def aeq:LS:=⟨[],[]⟩
def auI:LS:=⟨(Gq (rD g6) (rD bo)),[]⟩
def acr (back:Int->Int->aF->aF->Z Bool) (n:Nat) (t15 t16:Int) (b2 b3:aF):Z Bool:=
 if iL (t16<t15) then
 (idx b2.ah t16).bind λx7=>(idx b3.ah t16).bind λdC=>(F62 n x7 dC).bind λgd=>if !gd then
 V I
 else
 back t15 (aW (t16+1)) b2 b3
 else
 bR
def aTH {aA} (aU:KK (A23 [1,1,1]) aeq aA) {back} (aK:KK (A23 [0,1,0,1,1]) aer back) (n:Nat):KK (A23 [0,1,0,1,1]) aer (acr aA back n):=λ_ _ _ _ r h=>ie h (λc0 h=>be h λ_ iE h=>be h λ_ fE h=>be h λ_ iB h=>let zA:SE:=[aB c0,(5,vh.idx iE),(4,vh.idx fE),sf (ev62 n iB)];ie h (λc1 h=>bq h zA [aB c1]) λc1 h=>cB (aK h) zA [aB c1]) λc0 h=>ra (aU h) [aB c0]
def Ps (aA:Z Bool):Nat->Int->Int->aF->aF->Z Bool
 |0=>dv.z
 |n+1=>acr aA (Ps aA n) n
def aEm {aA} (aU:KK (A23 [1,1,1]) aeq aA):∀n:Nat,KK (A23 [0,1,0,1,1]) aer (Ps aA n)
 |0=>KC.h
 |n+1=>aTH aU (aEm aU n) n
def acq (n:Nat):Z Bool:=
 V M
def aTG:KK (A23 [1,1,1]) aeq (acq u):=λr h=>rr h []
def atB:Z Bool:=
 if (g6.ah.length:Int) !=(bo.ah.length:Int) then
 V I
 else
 Ps (acq u) u (g6.ah.length:Int) 0 g6 bo
def aTF:KK (A23 []) auI (atB u):=λ_ _ r h=>ie h (λc0 h=>rr h [Tn c0]) λc0 h=>ra (aEm (aTG u) u h) [Tn c0]
def F23:=atB
def ev23:KK (Cx E0 23 cP bC) auI (F23 u):=λ_ _ _ h=>ca (X:=iP) (aTF u h)
def avj:AV:=.int .i64 ei.1
def amn:List (Nat×Bx):= [(eQ,xx ei.2)]
def x117:=fx E0 Tryz.f117 [eQ]
def RL:=Ax x117 avj amn
def XN:LS:=⟨[(2,iI w),(3,.slice 38 3 E.length (dm E)),aX 4,(31,.slice 70 1 bs.length (l9 bs)),(32,iI aT),(33,iI bc)],[(4,iU (cI cu)),(eQ,xx cK)]⟩
def XM:LS:=⟨[],[(eQ,xx bb)]⟩
def Of:LS:=⟨[(0,.agg (cI B)),(1,.agg [tv eQ g6.ah.length]),(2,iI ex),(3,.slice 38 3 W.length (dm W))],[(eQ,azW g6)]⟩
def VE (aA:cJ->Z (Int×cJ)) (back:Int->bt->bK->Int->Int->cJ->ae->Z (Int×cJ)) (n:Nat) (fB:Int) (lZ:bt) (t31:bK) (t32 t33:Int) (dG:cJ) (b4:ae):Z (Int×cJ):=
 if iL (t33<t32) then
 (idx t31 t33).bind λx3=>(F52 n b4 fB x3).bind λdN=>(F27 n dN lZ).bind λiv=>if iv==0 then
 V (t33,dG)
 else
 back fB lZ t31 t32 (aW (t33+1)) dG b4
 else
 aA dG
def aNQ {aA} (aU:KK (RL [1,1,1]) XM aA) {back} (aK:KK (RL [0,1,0,1,1]) XN back) (n:Nat):KK (RL [0,1,0,1,1]) XN (VE aA back n):=λ_ _ _ _ _ _ _ r h=>ie h (λc0 h=>be h λ_ eM h=>be h λdN fN h=>be h λ_ iC h=>let zA:SE:=[aB c0,(1,na.idx eM),(6,.call (agJ n fN) [] [(41,bA)]),(1,jm.er 41 dN),iX (agK n iC)];ie h (λc1 h=>bq h zA [aB c1]) λc1 h=>cB (aK h) zA [aB c1]) λc0 h=>ra (aU h) [aB c0]
def IF (aA:cJ->Z (Int×cJ)):Nat->Int->bt->bK->Int->Int->cJ->ae->Z (Int×cJ)
 |0=>dv.z
 |n+1=>VE aA (IF aA n) n
def axj {aA} (aU:KK (RL [1,1,1]) XM aA):∀n:Nat,KK (RL [0,1,0,1,1]) XN (IF aA n)
 |0=>KC.h
 |n+1=>aNQ aU (axj aU n) n
def VD (n:Nat) (dG:cJ):Z (Int×cJ):=
 V ((-1),dG)
def aNP:KK (RL [1,1,1]) XM (VD u):=λ_ r h=>rr h []
def akb:Z (Int×cJ):=
 if iL (ex<0) then
 V ((-1),g6.ah)
 else
 if !iL (ex<(B.ah.length:Int)) then
 V ((-1),g6.ah)
 else
 if !iL (ex<(g6.ah.length:Int)) then
 V ((-1),g6.ah)
 else
 (dX g6.ah.length ex).bind λiP=>(g6.ah[0+iP]?).bind λfK=>IF (VD u) u ex W fK (fK.length:Int) 0 g6.ah B
def aNO:KK (RL []) Of (akb u):=λ_ _ _ _ r h=>ie h (λc0 h=>rr h [bk c0]) λc0 h=>ie h (λc1 h=>rr h [bk c0,bP c1]) λc1 h=>ie h (λc2 h=>rr h [bk c0,bP c1,dg c2]) λc2 h=>be h λ_ o6 h=>be h λ_ ki h=>ra (axj (aNP u) u h) [bk c0,bP c1,dg c2,(4,cX o6),(0,vh.row ki)]
def asA:=akb
def aQD:KK (Cx E0 117 avj amn) Of (asA u):=λ_ _ _ _ _ h=>ca (X:=x117) (aNO u h)
def aCW:AV:=.dr [.ms bA 3 0 ec.1.length,.bool ec.2.1]
def avC:List (Nat×Bx):= [(eQ,xx ec.2.2),(bA,BW ec.1)]
def x71:=fx E0 Tryz.f71 [eQ]
def A71:=Ax x71 aCW avC
def atc:Z (bt×Bool×cJ):=
 (asA u B g6 ex W).bind λx9=>(gU x9.2.length g6.ah.length).bind λw10=>if iL (x9.1<0) then
 V ([],I,x9.2)
 else
 (dX g6.ah.length ex).bind λja=>(x9.2[0+ja]?).bind λlx=>(idx lx x9.1).bind λiP=>(Na u iP).bind λs8=>V (s8,M,x9.2)
def aRV:KK (A71 []) Of (atc u):=λ_ _ _ _ r h=>be h λ_ iS h=>be h λ_ hw10 h=>let zA:SE:=[(8,.call (aQD u iS) [(eQ,eQ)] [])];ie h (λc0 h=>bq h zA [aQ c0,(2,.born [8] [] bA M 38 3)]) λc0 h=>be h λ_ jN h=>be h λ_ jM h=>be h λ_ o6 h=>be h λ_ rQ h=>bq h zA [aQ c0,(3,cX jN),(0,vh.row jM),(1,na.idx o6),(1,.call (Tj u rQ) [] [(26,bA)]),(2,.iR 26 bA)]
def F71:=atc
def ev71:KK (Cx E0 71 aCW avC) Of (F71 u):=λ_ _ _ _ _ h=>ca (X:=x71) (aRV u h)
def aCU:AV:=.agg [tv 201000 g6.ah.length]
def avB:List (Nat×Bx):= [(201000,azW g6)]
def x80:=fx E0 Tryz.f80 []
def Ga:=Ax x80 aCU avB
def adB (b2 b3:aF) (lQ:bK) (cS:cJ):LS:=⟨[aX 2,aX 3,(6,.ms 26 1 0 lQ.length),(10,.slice 68 1 bb.length (re bb)),(11,iI bc),(12,iI bz),(16,.slice 70 1 bV.length (l9 bV)),(17,iI bD),(18,iI cc)],[(2,vt),(3,.flat 51 [Jp cS.length]),(26,xw lQ),(32,apd cS)]⟩
def adA (b2 b3:aF) (lQ:bK) (cS:cJ):LS:=⟨[aX 2,aX 3,(6,.ms 26 1 0 lQ.length),(10,.slice 68 1 bb.length (re bb)),(11,iI bc),(12,iI bz)],[(2,vt),(3,.flat 51 [Jp cS.length]),(26,xw lQ),(32,apd cS)]⟩
def R4 (b2 b3:aF) (cS:cJ):LS:=⟨[aX 2,aX 3,(10,.slice 68 1 bb.length (re bb)),(11,iI bc),(12,iI bz)],[(2,vt),(3,.flat 51 [Jp cS.length]),(32,apd cS)]⟩
def adz (b2 b3:aF) (cS:cJ):LS:=⟨api,[(2,vt),(3,.flat 51 [Jp cS.length]),(32,apd cS)]⟩
def abF (aA:Wf64) (back:cJ->Int->Int->bK->Int->Int->aF->aF->bK->cJ->Z aF) (n:Nat) (t10:cJ) (t11 t12:Int) (t16:bK) (t17 t18:Int) (b2 b3:aF) (lQ:bK) (cS:cJ):Z aF:=
 if iL (t18<t17) then
 (idx t16 t18).bind λx2=>(Na n x2).bind λx8=>(app lQ [x8]).bind λdN=>back t10 t11 t12 t16 t17 (aW (t18+1)) (ad6 []) (ad6 cS) dN cS
 else
 aA t10 t11 t12 (ad6 []) (ad6 cS) lQ cS
def aRH {aA} (aU:KK (Ga (aI 15563)) adA aA) {back} (aK:KK (Ga (aI 44235)) adB back) (n:Nat):KK (Ga (aI 44235)) adB (abF aA back n):=λ_ _ _ _ _ _ _ _ _ _ r h=>ie h (λc0 h=>be h λ_ di h=>be h λx8 lN h=>be h λ_ fN h=>ra (aK h) [aB c0,(0,na.idx di),(4,.call (Tj n lN) [] [(24,bA)]),(0,jm.er 24 x8),(0,.tU 24 (.sl 0 0 0 0 [])),(1,na.jS fN)]) λc0 h=>ra (aU h) [aB c0]
def Pd (aA:Wf64):Nat->cJ->Int->Int->bK->Int->Int->aF->aF->bK->cJ->Z aF
 |0=>dv.z
 |n+1=>abF aA (Pd aA n) n
def aDH {aA} (aU:KK (Ga (aI 15563)) adA aA):∀n:Nat,KK (Ga (aI 44235)) adB (Pd aA n)
 |0=>KC.h
 |n+1=>aRH aU (aDH aU n) n
def abE (bh:Wf65) (n:Nat) (t10:cJ) (t11 t12:Int) (b2 b3:aF) (lQ:bK) (cS:cJ):Z aF:=
 (app cS [lQ]).bind λx5=>bh t10 t11 (aW (t12+1)) (ad6 []) (ad6 x5) x5
def aRG {bh} (cF:KK (Ga [0,1,0,1,1]) R4 bh) (n:Nat):KK (Ga (aI 15563)) adA (abE bh n):=λ_ _ _ _ _ lQ _ r h=>be h λ_ ic h=>ra (cF h) [(3,na.er 26 lQ),(0,.tU 30 (.sl 0 0 0 0 [])),(1,vh.jS ic)]
def abD (bn:Wf66) (back:Wf65) (n:Nat) (t10:cJ) (t11 t12:Int) (b2 b3:aF) (cS:cJ):Z aF:=
 if iL (t12<t11) then
 (idx t10 t12).bind λx2=>Pd (abE back n) n t10 t11 t12 x2 (x2.length:Int) 0 (ad6 []) (ad6 cS) [] cS
 else
 bn (ad6 []) (ad6 cS) cS
def aRF {bn} (cM:KK (Ga [1,1,1]) adz bn) {back} (aK:KK (Ga [0,1,0,1,1]) R4 back) (n:Nat):KK (Ga [0,1,0,1,1]) R4 (abD bn back n):=λ_ _ _ _ _ _ r h=>ie h (λc0 h=>be h λ_ di h=>ra (aDH (aRG aK n) n h) [aB c0,(0,vh.idx di),(6,.born [6] [] 26 M 70 1)]) λc0 h=>ra (cM h) [aB c0]
def Ki (bn:Wf66):Nat->cJ->Int->Int->aF->aF->cJ->Z aF
 |0=>dv.z
 |n+1=>abD bn (Ki bn n) n
def aDG {bn} (cM:KK (Ga [1,1,1]) adz bn):∀n:Nat,KK (Ga [0,1,0,1,1]) R4 (Ki bn n)
 |0=>KC.h
 |n+1=>aRF cM (aDG cM n) n
def T3 (n:Nat) (b2 b3:aF) (cS:cJ):Z aF:=
 V (ad6 cS)
def aRE:KK (Ga [1,1,1]) adz (T3 u):=λ_ _ _ r h=>rr h [(2,.iR 32 201000)]
def aGn:Z aF:=
 Ki (T3 u) u g6.ah (g6.ah.length:Int) 0 (ad6 []) (ad6 []) []
def aRD:KK (Ga []) R8 (aGn u):=λ_ r h=>ra (aDG (aRE u) u h) [(7,.born [] [(3,0)] 32 M 68 1)]
def F80:=aGn
def ev80:KK (Cx E0 80 aCU avB) R8 (F80 u):=λ_ _ h=>ca (X:=x80) (aRD u h)
def aDg:AV:=.dr [.ms bA 3 0 d9.1.length,.agg (rD d9.2.1)]
def avK:List (Nat×Bx):= [(0,mD (fg d9.2.2)),(bA,Aa d9.1)]
def kC:=fx E0 Tryz.f33 [0]
def NH:=Ax kC aDg avK
def aJB (b8 fZ:aF) (pb:bu) (gz:cr) (lE:cJ) (OU:bt):LS:=⟨[aX 0,(2,iI w),aX 6,aX 8,aX 11,(12,.ms 111 3 0 pb.length),(13,iI C),aX 14,(18,.sln 38 3 E.length (dm E)),(28,.loc 6 1),(29,.slice 44 5 dn.length (dF dn)),(30,iI ds),(31,.bool M)],[(0,.flat 97 (fg dy)),(6,.flat 25 (cI bN)),(8,.flat 51 [tv qe lE.length]),(11,.flat 51 [.cq]),(14,.flat 156 [iI gz.av,.ms 309300 3 0 OU.length,.slice 38 3 gz.eH.length (dm gz.eH)]),(111,.rows M 156 3 (lj pb)),(309300,.rows M 38 3 (dm OU)),(qe,.rows I 68 1 (re lE))]⟩
def aJA (b8 fZ:aF) (pb:bu) (gz:cr) (b54:bt) (lE:cJ):LS:=⟨[aX 0,(2,iI w),aX 6,aX 8,aX 11,(12,.ms 111 3 0 pb.length),(13,iI C),aX 14,(15,.ms 54 3 0 b54.length),(28,.loc 6 1),(29,.slice 44 5 dn.length (dF dn)),(30,iI ds),(31,.bool M)],[(0,mD (fg dy)),(6,iU (cI bN)),(8,DM qe lE.length),(11,vt),(14,.flat 156 [bH gz.av,.cq,.cq]),(54,BW b54),(111,Aa pb),(qe,xx lE)]⟩
def Lx (b8 fZ:aF) (pb:bu) (lE:cJ):LS:=⟨[aX 0,(2,bH w),aX 6,aX 8,aX 11,(12,.ms 111 3 0 pb.length),(13,bH C)],[(0,mD (fg ab)),(6,iU (cI N)),(8,DM qe lE.length),(11,vt),(111,Aa pb),(qe,xx lE)]⟩
def aek (b8 fZ:aF) (pb:bu) (lE:cJ):LS:=⟨[aX 8,aX 11,(12,.ms 111 3 0 pb.length)],[(0,mD (fg ab)),(8,DM qe lE.length),(11,vt),(111,Aa pb),(qe,xx lE)]⟩
def auF:LS:=⟨[aX 0,(1,.agg (cI N)),(2,bH O),(3,.agg (rD g6)),(4,bH ex)],(sG (fg ab))⟩
def PS (t29:bw) (t30:Int) (b0:aN) (b6:ae) (b8 fZ:aF) (pb:bu) (gz:cr) (lE:cJ) (OU:bt):Z (bu×aF×aN):=
 (app pb [(cr.mk gz.av OU gz.eH)]).bind λx4=>(F51 dM b6 (ad6 lE) gz.av dA gz.eH).bind λiv=>dH dl (aW (dO-1)) b0 b6 (ad6 iv.2) (ad6 []) x4 iv.2
def arq {bh} (cF:KK (NH (aI 87)) Lx bh) (n:Nat):KK (NH (aI 130199)) aJB (PS bh n):=λ_ _ _ _ _ _ _ _ _ _ _ _ OU r h=>be h λ_ iF h=>be h λ_ iC h=>ra (cF h) [(2,jm.er 309300 OU),(0,.tU 109 (.agg [.bool M,.sl 0 0 0 0 []])),(1,lR.jS iF),(8,.call (ev51 n iC) [(qe,eQ)] [])]
def PR (b8 fZ:aF) (pb:bu) (gz:cr) (b54:bt) (lE:cJ):Z (bu×aF×aN):=
 (F52 dM bN gz.av b54).bind λx5=>(F71 dM bN (ad6 lE) gz.av x5).bind λdC=>(gU dC.2.2.length lE.length).bind λw14=>if (dC.1.length:Int)==0 then
 PS dH dM dl dO x5 dn ds dy bN (ad6 dC.2.2) (ad6 []) pb (cr.mk gz.av dC.1 b54) dC.2.2 dC.1
 else
 (Cu dM dy 3).bind λuP=>if !uP.1 then
 PS dH dM dl dO x5 dn ds uP.2 bN (ad6 dC.2.2) (ad6 []) pb (cr.mk gz.av dC.1 b54) dC.2.2 dC.1
 else
 PS dH dM dl dO x5 dn ds uP.2 bN (ad6 dC.2.2) (ad6 []) pb (cr.mk gz.av dC.1 []) dC.2.2 dC.1
def arp {bh} (cF:KK (NH (aI 87)) Lx bh) (n:Nat):KK (NH (aI 15511)) aJA (PR bh n):=λ_ _ _ _ _ _ _ _ _ _ b54 _ r h=>be h λx5 ic h=>be h λ_ fE h=>be h λ_ ago h=>let zA:SE:=[(4,jm.er 54 b54),(0,.call (agJ n ic) [] [(86,bA)]),(6,jm.er 86 x5),(0,.call (ev71 n fE) [(qe,eQ)] [(309300,bA)])];ie h (λdu h=>cB (arq cF n h) zA [iG du,(5,.beq 8 (bF (DM qe) ((oY ago).symm)))]) λdu h=>be h λ_ D5 h=>let zB:SE:=dk zA [iG du,(2,.call (qi n D5) [(0,0)] [])];ie h (λc1 h=>cB (arq cF n h) zB [aB c1,(4,.beq 8 (bF (DM qe) ((oY ago).symm)))]) λc1 h=>cB (arq cF n h) zB [aB c1,(1,.beq 8 (bF (DM qe) ((oY ago).symm)))]
def ack (bn:Wf68) (back:aBY) (n:Nat) (iW wU:Int) (b0:aN) (b6:ae) (b8 fZ:aF) (pb:bu) (lE:cJ):Z (bu×aF×aN):=
 if iL (0<wU) then
 if iL (0<(b6.ah.length:Int)) then
 (qJ n b0 (b6.ah.length:Int)).bind λdC=>(F50 n b6 dC.1).bind λl7=>(idx b6.ah dC.1).bind λpL=>(F49 n dC.2 l7 pL.aH iW).bind λacN=>(dX lE.length dC.1).bind λx40=>(lE[0+x40]?).bind λE4=>if iL (0<(E4.length:Int)) then
 (Cu n acN.2 2).bind λHa=>if Ha.1 then
 (qJ n Ha.2 (E4.length:Int)).bind λG8=>(idx E4 G8.1).bind λx59=>(F52 n b6 dC.1 x59).bind λx68=>(FE acN.1 x68).bind λx70=>PR back n iW wU b6.ah (b6.ah.length:Int) G8.2 b6 (ad6 lE) (ad6 []) pb (cr.mk dC.1 [] []) x70 lE
 else
 PR back n iW wU b6.ah (b6.ah.length:Int) Ha.2 b6 (ad6 lE) (ad6 []) pb (cr.mk dC.1 [] []) acN.1 lE
 else
 PR back n iW wU b6.ah (b6.ah.length:Int) acN.2 b6 (ad6 lE) (ad6 []) pb (cr.mk dC.1 [] []) acN.1 lE
 else
 bn b0 (ad6 lE) (ad6 []) pb lE
 else
 bn b0 (ad6 lE) (ad6 []) pb lE
def aTt {bn} (cM:KK (NH [1,1,1,1]) aek bn) {back} (aK:KK (NH (aI 87)) Lx back) (n:Nat):KK (NH (aI 87)) Lx (ack bn back n):=λ_ _ _ _ _ _ _ _ r h=>ie h (λdu h=>ie h (λc1 h=>be h λ_ fE h=>be h λl7 nr h=>be h λ_ sO h=>be h λ_ pI h=>be h λ_ aAM h=>be h λ_ QU h=>let zA:SE:=[aV du,bk c1,(5,.call (nW n fE) [(0,0)] []),(3,.ord [0,1,2,3,5,6,7,8,9,10,11,12,4,13,14]),(8,cm.idx sO),(3,vD (cd (e:=3) (z:=M) (Q:=dJ l7) (aqv n nr) (R3.len l7))),(0,.call (ev49 n pI) [(0,0)] [(54,bA)]),(5,cX aAM),(0,vh.row QU)];ie h (λc2 h=>be h λ_ apW h=>ie h (λc3 h=>be h λ_ agk h=>be h λ_ agj h=>be h λ_ hx68 h=>be h λ_ hx70 h=>cB (arp aK n h) zA [aZ c2,(2,.call (cb (qi n apW) c3) [(0,0)] []),(5,.call (nW n agk) [(0,0)] []),(0,na.idx agj),(7,.call (agJ n hx68) [] [(80,bA)]),(0,jm.cpyW hx70),(0,.seq 15 (bF (AV.ms 54 3 0) ((aIe hx70).symm)))]) λc3 h=>cB (arp aK n h) zA [aZ c2,(2,.call (cb (qi n apW) c3) [(0,0)] [])]) λc2 h=>cB (arp aK n h) zA [aZ c2]) λc1 h=>ra (cM h) [aV du,bk c1]) λdu h=>ra (cM h) [aV du]
def F0 (bn:Wf68):Nat->Int->Int->aN->ae->aF->aF->bu->cJ->Z (bu×aF×aN)
 |0=>dv.z
 |n+1=>ack bn (F0 bn n) n
def aEh {bn} (cM:KK (NH [1,1,1,1]) aek bn):∀n:Nat,KK (NH (aI 87)) Lx (F0 bn n)
 |0=>KC.h
 |n+1=>aTt cM (aEh cM n) n
def KH (n:Nat) (b0:aN) (b8 fZ:aF) (pb:bu) (lE:cJ):Z (bu×aF×aN):=
 V (pb,(ad6 lE),b0)
def aTs:KK (NH [1,1,1,1]) aek (KH u):=λ_ _ _ _ lE r h=>rr h [(4,.iR 111 bA),(0,vh.er qe lE)]
def atz:Z (bu×aF×aN):=
 (F80 u g6).bind λx7=>(qJ u ab (aW (ex+1))).bind λdC=>F0 (KH u) u O dC.1 dC.2 N x7 (ad6 []) [] x7.ah
def aTr:KK (NH []) auF (atz u):=λ_ _ _ _ _ r h=>be h λ_ iE h=>be h λ_ fE h=>ra (aEh (aTs u) u h) [(6,.call (ev80 u iE) [] [(qe,201000)]),(4,.call (nW u fE) [(0,0)] []),(1,.born [12] [] 111 M 156 3)]
def F33:=atz
def ev33:KK (Cx E0 33 aDg avK) auF (F33 u):=λ_ _ _ _ _ _ h=>ca (X:=kC) (aTr u h)
def oH:=fx E0 Tryz.f77 []
def A77:=Ax oH wS ye
def aun:LS:=⟨[(0,.slice 38 3 E.length (dm E))],[]⟩
def asZ (n:Nat) (mO:bt):Z bt:=
 (app [] mO).bind λx3=>V x3
def aRL:KK (A77 []) aun (asZ u):=λ_ r h=>be h λ_ eM h=>rr h [(2,.born [] [] 4 M 38 3),(0,jm.app (xs:= []) eM),(1,.iR 4 bA)]
def F77:=asZ
def ev77:KK (Cx E0 77 wS ye) aun (F77 u):=λ_ _ h=>ca (X:=oH) (aRL u h)
def x87:=fx E0 Tryz.f87 []
def A87:=Ax x87 cP bC
def asS:Z Bool:=
 (F67 u E W).bind λx4=>V (x4==0)
def aRt:KK (A87 []) vo (asS u):=λ_ _ r h=>be h λ_ iF h=>rr h [j3 (Q7 u iF)]
def F87:=asS
def agI:KK (Cx E0 87 cP bC) vo (F87 u):=λ_ _ _ h=>ca (X:=x87) (aRt u h)
def x78:=fx E0 Tryz.f78 []
def A78:=Ax x78 cP bC
def aJf:LS:=⟨[(1,iI w),aX 3,aX 5,(8,.slice 38 3 E.length (dm E)),(36,.agg (axK dP)),(37,iI cv)],[(3,iU (cI d2)),(5,.flat 156 (px d4))]⟩
def R6:LS:=⟨[(1,bH w),aX 3,aX 5,(36,.agg (axK dP)),(37,bH cv)],[(3,iU (cI d2)),(5,.flat 156 (px d4))]⟩
def adC:LS:=⟨[aX 3,aX 5],[(3,iU (cI B)),(5,.flat 156 (px ac))]⟩
def aJe:LS:=⟨[(1,bH w),aX 3,aX 5],[(3,iU (cI B)),(5,.flat 156 (px ac))]⟩
def aum:LS:=⟨[(0,.agg (cI B)),(1,bH C),(2,.agg (px ac))],[]⟩
def T6 (aA:Wf69) (n:Nat) (fX:Int) (aeS:bt) (t36:GL) (t37:Int) (b3:ae) (b5:cr):Z Bool:=
 if iL (0<(aeS.length:Int)) then
 (F66 n b3 b5.av aeS fX).bind λeN=>if !eN then
 V I
 else
 aA fX t36 (aW (t37+1)) b3 b5
 else
 aA fX t36 (aW (t37+1)) b3 b5
def aFF {aA} (aU:KK (A78 [0,1,0,1,1]) R6 aA) (n:Nat):KK (A78 (aI 3275)) aJf (T6 aA n):=λ_ _ _ _ _ _ r h=>ie h (λc0 h=>be h λ_ iK h=>let zA:SE:=[aQ c0,AM (aBp n iK)];ie h (λc1 h=>bq h zA [aB c1]) λc1 h=>cB (aU h) zA [aB c1]) λc0 h=>ra (aU h) [aQ c0]
def T5 (bh:aFS) (back:Wf69) (n:Nat) (fX:Int) (t36:GL) (t37:Int) (b3:ae) (b5:cr):Z Bool:=
 if iL (t37<2) then
 if t37==0 then
 T6 back n fX t36.f0 t36 0 b3 b5
 else
 if t37==1 then
 T6 back n fX t36.f1 t36 1 b3 b5
 else
 G
 else
 bh b3 b5
def aRK {bh} (cF:KK (A78 [1,1,1]) adC bh) {back} (aK:KK (A78 [0,1,0,1,1]) R6 back) (n:Nat):KK (A78 [0,1,0,1,1]) R6 (T5 bh back n):=λ_ _ _ _ _ r h=>ie h (λc0 h=>ie h (λc1 bE=>by have c1:=eq_of_beq c1;subst c1;exact (
 ra (aFF aK n bE) [])) λc1 h=>ie h (λc2_ bE=>by have c2_:=eq_of_beq c2_;subst c2_;exact (
 ra (aFF aK n bE) [])) λc2_ h=>nz h) λc0 h=>ra (cF h) [aB c0]
def Pe (bh:aFS):Nat->Int->GL->Int->ae->cr->Z Bool
 |0=>dv.z
 |n+1=>T5 bh (Pe bh n) n
def aDI {bh} (cF:KK (A78 [1,1,1]) adC bh):∀n:Nat,KK (A78 [0,1,0,1,1]) R6 (Pe bh n)
 |0=>KC.h
 |n+1=>aRK cF (aDI cF n) n
def asY:Z Bool:=
 if (ac.dY.length:Int)==0 then
 V M
 else
 if (ac.eH.length:Int)==0 then
 V M
 else
 (F68 u B ac.av ac.dY).bind λiQ=>(F68 u B ac.av ac.eH).bind λHd=>(F87 u iQ Hd).bind λs8=>V s8
def aRJ:KK (A78 [1,1,1]) adC (asY u):=λ_ _ r h=>let zA:SE:=[(0,.ord [0,1,2,3,4,5,6,7,8,9,10,11,12,13,14,15,17,18,19,20,21,16,22,23,24,25])];ie h (λc0 h=>bq h zA [aZ c0]) λc0 h=>ie h (λc1 h=>bq h zA [aZ c0,bk c1]) λc1 h=>be h λ_ iJ h=>be h λ_ Af h=>be h λ_ rQ h=>bq h zA [aZ c0,bk c1,(12,vD (YC u iJ)),iX (YC u Af),iX (agI u rQ)]
def T4:Z Bool:=
 Pe (asY u) u w (GL.mk ac.dY ac.eH) 0 B ac
def aFE:KK (A78 [1,1]) aJe (T4 u):=λ_ _ _ r h=>ra (aDI (aRJ u) u h) []
def asX:Z Bool:=
 if iL (ac.av<0) then
 V I
 else
 if !iL (ac.av<(B.ah.length:Int)) then
 V I
 else
 if (ac.dY.length:Int)==0 then
 if (ac.eH.length:Int)==0 then
 V I
 else
 T4 u C B ac
 else
 T4 u C B ac
def aRI:KK (A78 []) aum (asX u):=λ_ _ _ r h=>ie h (λc0 h=>rr h [bP c0]) λc0 h=>ie h (λc1 h=>rr h [bP c0,dg c1]) λc1 h=>let zA:SE:=[bP c0,dg c1];ie h (λc2_ h=>ie h (λc3 h=>bq h zA [bP c2_,bk c3]) λc3 h=>cB (aFE u h) zA [bP c2_,bk c3]) λc2_ h=>cB (aFE u h) zA [bP c2_]
def F78:=asX
def ev78:KK (Cx E0 78 cP bC) aum (F78 u):=λ_ _ _ _ h=>ca (X:=x78) (aRI u h)
def aCS:AV:=.bool el.1
def avz:List (Nat×Bx):= [(1,iU (cI el.2.1)),(2,Gn el.2.2)]
def x84:=fx E0 Tryz.f84 [1,2]
def A84:=Ax x84 aCS avz
def auk:LS:=⟨[(0,.agg (px ac)),aX 1,aX 2],[(1,iU (cI bi)),(2,Gn bz)]⟩
def asU:Z (Bool×ae×Int):=
 (F78 u bi bz ac).bind λx6=>V (!x6,bi,bz)
def aRw:KK (A84 []) auk (asU u):=λ_ _ _ r h=>be h λ_ jL h=>rr h [mw (ev78 u jL)]
def F84:=asU
def ev84:KK (Cx E0 84 aCS avz) auk (F84 u):=λ_ _ _ _ h=>ca (X:=x84) (aRw u h)
def aCT:AV:=.int .i64 ej.1
def avA:List (Nat×Bx):= [(eQ,iU (cI ej.2.1)),(AK,Gn ej.2.2)]
def x83:=fx E0 Tryz.f83 [eQ,AK]
def A83:=Ax x83 aCT avA
def adw:LS:=⟨[(0,.slice 156 3 F.length (lj F)),(1,.fn 84 [] [.loc eQ 0,.loc AK 0]),(7,iI D),(8,iI H)],[(eQ,iU (cI N)),(AK,Gn O)]⟩
def adv:LS:=⟨[],[(eQ,iU (cI B)),(AK,Gn C)]⟩
def aul:LS:=⟨[(0,.slice 156 3 F.length (lj F)),(1,.fn 84 [] [.loc eQ 0,.loc AK 0])],[(eQ,iU (cI N)),(AK,Gn O)]⟩
def abB (aA:Wf70) (back:bu->Int->Int->ae->Int->Z (Int×ae×Int)) (n:Nat) (s0:bu) (t7 t8:Int) (dG:ae) (yu:Int):Z (Int×ae×Int):=
 if iL (t8<t7) then
 (idx s0 t8).bind λx7=>(F84 n x7 dG yu).bind λeN=>if eN.1 then
 V (t8,eN.2.1,eN.2.2)
 else
 back s0 t7 (aW (t8+1)) eN.2.1 eN.2.2
 else
 aA dG yu
def aRz {aA} (aU:KK (A83 [1,1]) adv aA) {back} (aK:KK (A83 [0,1,0,1]) adw back) (n:Nat):KK (A83 [0,1,0,1]) adw (abB aA back n):=λ_ _ _ _ _ r h=>ie h (λc0 h=>be h λ_ iE h=>be h λ_ iK h=>ie h (λc1 h=>rr h [aB c0,(5,lR.idx iE),(1,.call (cb (ev84 n iK) c1) [(eQ,1),(AK,2)] [])]) λc1 h=>ra (aK h) [aB c0,(5,lR.idx iE),(1,.call (cb (ev84 n iK) c1) [(eQ,1),(AK,2)] [])]) λc0 h=>ra (aU h) [aB c0]
def Pb (aA:Wf70):Nat->bu->Int->Int->ae->Int->Z (Int×ae×Int)
 |0=>dv.z
 |n+1=>abB aA (Pb aA n) n
def aDE {aA} (aU:KK (A83 [1,1]) adv aA):∀n:Nat,KK (A83 [0,1,0,1]) adw (Pb aA n)
 |0=>KC.h
 |n+1=>aRz aU (aDE aU n) n
def abA (n:Nat) (dG:ae) (yu:Int):Z (Int×ae×Int):=
 V ((-1),dG,yu)
def aRy:KK (A83 [1,1]) adv (abA u):=λ_ _ r h=>rr h []
def asV:Z (Int×ae×Int):=
 Pb (abA u) u F (F.length:Int) 0 N O
def aRx:KK (A83 []) aul (asV u):=λ_ _ _ r h=>ra (aDE (aRy u) u h) []
def F83:=asV
def ev83:KK (Cx E0 83 aCT avA) aul (F83 u):=λ_ _ _ _ h=>ca (X:=x83) (aRx u h)
def aCR:AV:=.ms bA 3 0 F.length
def avy:List (Nat×Bx):= [(bA,aph F)]
def x85:=fx E0 Tryz.f85 []
def A85:=Ax x85 aCR avy
def auj:LS:=⟨[(0,.sln 156 3 F.length (lj F))],[]⟩
def asT (n:Nat) (s0:bu):Z bu:=
 if s0.isEmpty then
 V []
 else
 (app [] s0).bind λx6=>V x6
def aRv:KK (A85 []) auj (asT u):=λs0 r h=>ie h (λc0 h=>rr h [(2,.eqv ((lR.nilB s0).trans (bF AV.bool c0))),(1,.born [2] [] bA I 156 3)]) λc0 h=>be h λ_ jL h=>rr h [(2,.eqv ((lR.nilB s0).trans (bF AV.bool c0))),(2,lR.app jL),(1,.iR 5 bA)]
def F85:=asT
def ev85:KK (Cx E0 85 aCR avy) auj (F85 u):=λ_ _ h=>ca (X:=x85) (aRv u h)
def x88:=fx E0 Tryz.f88 []
def A88:=Ax x88 aaw bC
def aui:LS:=⟨(Gq (cI B) (px ac)),[]⟩
def asR:Z bt:=
 if iL (0<(ac.dY.length:Int)) then
 (F68 u B ac.av ac.dY).bind λdC=>V dC
 else
 (F68 u B ac.av ac.eH).bind λdC=>V dC
def aRs:KK (A88 []) aui (asR u):=λ_ _ r h=>ie h (λc0 h=>be h λdC fE h=>rr h [dg c0,mw (YC u fE)]) λc0 h=>be h λdC fE h=>rr h [dg c0,mw (YC u fE)]
def F88:=asR
def aqs:KK (Cx E0 88 aaw bC) aui (F88 u):=λ_ _ _ h=>ca (X:=x88) (aRs u h)
def aCQ:AV:=.bool em.1
def avx:List (Nat×Bx):= [(2,iU (cI em.2))]
def x86:=fx E0 Tryz.f86 [2]
def A86:=Ax x86 aCQ avx
def R2:LS:=⟨[(0,.agg (px ac)),(1,.agg (px ct)),aX 2],[(2,iU (cI bJ))]⟩
def abz:Z (Bool×ae):=
 if ac.av==ct.av then
 (F88 u bJ ac).bind λjd=>(F88 u bJ ct).bind λgd=>(F87 u jd gd).bind λja=>V (ja,bJ)
 else
 V (I,bJ)
def aRu:KK (A86 []) R2 (abz u):=λ_ _ _ r h=>let zA:SE:=[(3,.ord [0,1,2,3,4,5,6,7,9,10,8,11,12,13,14])];ie h (λc0 h=>be h λ_ hI h=>be h λ_ iB h=>be h λ_ jN h=>bq h zA [bk c0,mw (aqs u hI),iX (aqs u iB),iX (agI u jN)]) λc0 h=>bq h zA [bk c0]
def F86:=abz
def ev86:KK (Cx E0 86 aCQ avx) R2 (F86 u):=λ_ _ _ _ h=>ca (X:=x86) (aRu u h)
def aCP:AV:=.int .i64 ek.1
def avv:List (Nat×Bx):= [(2,iU (cI ek.2))]
def x90:=fx E0 Tryz.f90 [2]
def A90:=Ax x90 aCP avv
def asP:Z (Int×ae):=
 if ac.av !=ct.av then
 V (aW (ac.av-ct.av),bJ)
 else
 (F88 u bJ ac).bind λdN=>(F88 u bJ ct).bind λfT=>(F67 u dN fT).bind λiQ=>V (iQ,bJ)
def aRq:KK (A90 []) R2 (asP u):=λ_ _ _ r h=>ie h (λc0 h=>rr h [iO c0]) λc0 h=>be h λ_ fN h=>be h λ_ kU h=>be h λ_ iJ h=>rr h [iO c0,(0,.ord [0,1,3,4,2,5,6,7]),j2 (aqs u fN),iX (aqs u kU),iX (Q7 u iJ)]
def F90:=asP
def ev90:KK (Cx E0 90 aCP avv) R2 (F90 u):=λ_ _ _ _ h=>ca (X:=x90) (aRq u h)
def Ht (r:(bu×ae)):AV:=.dr []
def amg:List (Nat×Bx):= (Hw dD.1 yL (cI dD.2))
def x167:=fx E0 Tryz.f167 [0,yL]
def E2:=Ax x167 Ht amg
def W0:LS:=⟨[(0,.ms 0 3 0 S.length),(1,bH w),(2,bH C),(3,Gr yL),(8,bH D),(9,bH H)],(Hw S yL (cI bi))⟩
def zN:LS:=⟨[(0,.ms 0 3 0 S.length),(1,bH w),(2,bH C),(3,Gr yL),(8,bH D)],(Hw S yL (cI bi))⟩
def alq:LS:=⟨[(0,.ms 0 3 0 F.length),(1,bH D),(2,bH H),(3,Gr yL)],(Hw F yL (cI N))⟩
def UT (back:Wf72) (n:Nat) (a1 b2 i8 j9:Int) (b0:bu) (sU:ae):Z (bu×ae):=
 if iL (a1<j9) then
 (dX b0.length j9).bind λx8=>(b0[0+x8]?).bind λeN=>(dX b0.length (aW (j9-1))).bind λfT=>(b0[0+fT]?).bind λiQ=>(F90 n eN iQ sU).bind λkO=>if iL (kO.1<0) then
 (dX b0.length (aW (j9-1))).bind λqY=>(b0[0+qY]?).bind λkC=>(dX b0.length j9).bind λrX=>(b0[0+rX]?).bind λuO=>(dX b0.length j9).bind λHb=>(b0[0+Hb]?).bind λx43=>(setAt b0 (0+Hb) kC).bind λuN=>(dX b0.length (aW (j9-1))).bind λyz=>(uN[0+yz]?).bind λx48=>(setAt uN (0+yz) uO).bind λz49=>back a1 b2 i8 (aW (j9-1)) z49 kO.2
 else
 ci a1 b2 i8 b0 kO.2
 else
 ci a1 b2 i8 b0 sU
def aLP {aA} (aU:KK (E2 [1,1,0,0,1]) zN aA) {back} (aK:KK (E2 (aI 329)) W0 back) (n:Nat):KK (E2 (aI 329)) W0 (UT aA back n):=λ_ _ _ _ _ _ r h=>ie h (λc0 h=>be h λ_ lN h=>be h λ_ iK h=>be h λ_ kU h=>be h λ_ iJ h=>be h λ_ mV h=>let zA:SE:=[aQ c0,(4,cX lN),(0,lR.row iK),(3,cX kU),(0,lR.row iJ),(0,.call (ev90 n mV) [(yL,2)] [])];ie h (λc1 h=>be h λ_ rO h=>be h λkC pI h=>be h λ_ xE h=>be h λuO D4 h=>be h λ_ QV h=>be h λ_ JK h=>be h λ_ pH h=>be h λ_ JJ h=>be h λ_ agl h=>be h λ_ Ma h=>cB (aK h) zA [aB c1,(9,cX rO),(0,lR.row pI),(2,cX xE),(0,lR.row D4),(0,cX QV),(0,lR.uR 0 (px kC) JK pH),(0,cX JJ),(0,lR.uR 0 (px uO) agl Ma),(3,.seq 0 (bF (AV.ms 0 3 0) (((l8 Ma).trans (l8 pH)).symm)))]) λc1 h=>cB (aU h) zA [aB c1]) λc0 h=>ra (aU h) [aQ c0]
def Io (aA:Rn):Nat->Int->Int->Int->Int->bu->ae->Z (bu×ae)
 |0=>dv.z
 |n+1=>UT aA (Io aA n) n
def awB {aA} (aU:KK (E2 [1,1,0,0,1]) zN aA):∀n:Nat,KK (E2 (aI 329)) W0 (Io aA n)
 |0=>KC.h
 |n+1=>aLP aU (awB aU n) n
def US (n:Nat) (a1 b2 i8:Int) (b0:bu) (sU:ae):Z (bu×ae):=
 ci a1 b2 (aW (i8+1)) b0 sU
def aLO {bh} (cF:KK (E2 [0,1]) zN bh) (n:Nat):KK (E2 [1,1,0,0,1]) zN (US bh n):=λ_ _ _ _ _ r h=>ra (cF h) []
def Nn:Z (bu×ae):=
 if iL (dl<df) then
 Io (US ci cz) cz dc df dl dl dw bN
 else
 V (dw,bN)
def aLN {back} (aK:KK (E2 [0,1]) zN back) (n:Nat):KK (E2 [0,1]) zN (Nn back n):=λ_ _ _ _ _ r h=>ie h (λc0 h=>ra (awB (aLO aK n) n h) [aQ c0]) λc0 h=>rr h [aQ c0]
def BK:Nat->Int->Int->Int->bu->ae->Z (bu×ae)
 |0=>dv.z
 |n+1=>Nn (BK n) n
def awA:∀n:Nat,KK (E2 [0,1]) zN (BK n)
 |0=>KC.h
 |n+1=>aLN (awA n) n
def ajt:Z (bu×ae):=
 BK u D H (aW (D+1)) F N
def aLM:KK (E2 []) alq (ajt u):=λ_ _ _ _ r h=>ra (awA u h) []
def aim:=ajt
def aFa:KK (Cx E0 167 Ht amg) alq (aim u):=λ_ _ _ _ _ h=>ca (X:=x167) (aLM u h)
def aml:List (Nat×Bx):= (Hw dD.1 rn (cI dD.2))
def x133:=fx E0 Tryz.f133 [0,rn]
def vT:=Ax x133 Ht aml
def XF:LS:=⟨[(0,.ms 0 3 0 S.length),(1,bH w),(2,Gr rn),(6,iI 20),(7,bH C),(8,bH D)],(Hw S rn (cI bi))⟩
def XE:LS:=⟨[(0,.ms 0 3 0 S.length),(1,bH w),(2,Gr rn),(6,bH C),(7,bH D),(8,bH H)],(Hw S rn (cI bi))⟩
def XD:LS:=⟨[(0,.ms 0 3 0 S.length),(1,bH w),(2,Gr rn),(6,bH C),(7,bH D)],(Hw S rn (cI bi))⟩
def Oe:LS:=⟨[(0,.ms 0 3 0 F.length),(1,bH w),(2,Gr rn),(6,bH C)],(Hw F rn (cI N))⟩
def XC:LS:=⟨[(0,.ms 0 3 0 F.length),(1,bH w),(2,Gr rn),(6,iI 20),(7,bH C)],(Hw F rn (cI N))⟩
def alB:LS:=⟨[(0,.ms 0 3 0 F.length),(1,bH D),(2,Gr rn)],(Hw F rn (cI N))⟩
def aka (back:Rn) (n:Nat) (n1 a7 b8:Int) (b0:bu) (kq:ae):Z (bu×ae):=
 if !iL (n1<b8) then
 (aim n b0 a7 b8 kq).bind λx8=>(gU x8.1.length b0.length).bind λw9=>back n1 b8 (aW (b8+20)) x8.1 x8.2
 else
 cC n1 a7 b0 kq
def aNA {db} (fh:KK (vT [1,1,1]) XC db) {back} (aK:KK (vT [0,0,1,1]) XF back) (n:Nat):KK (vT [0,0,1,1]) XF (aka db back n):=λ_ _ _ _ _ r h=>ie h (λc0 h=>be h λ_ lN h=>be h λ_ hw9 h=>ra (aK h) [aQ c0,(4,.call (aFa n lN) [(0,0),(rn,yL)] []),(6,.seq 0 (bF (AV.ms 0 3 0) ((oY hw9).symm)))]) λc0 h=>ra (fh h) [aQ c0]
def TO (db:arE):Nat->Int->Int->Int->bu->ae->Z (bu×ae)
 |0=>dv.z
 |n+1=>aka db (TO db n) n
def axe {db} (fh:KK (vT [1,1,1]) XC db):∀n:Nat,KK (vT [0,0,1,1]) XF (TO db n)
 |0=>KC.h
 |n+1=>aNA fh (axe fh n) n
def azf (back:Wf72) (n:Nat) (n1 kI a7 b8:Int) (b0:bu) (kq:ae):Z (bu×ae):=
 if !iL (n1<b8) then
 G
 else
 ci n1 kI a7 b0 kq
def aNz {bh} (cF:KK (vT (aI 1871)) XD bh) {back} (aK:KK (vT (aI 2383)) XE back) (n:Nat):KK (vT (aI 2383)) XE (azf bh back n):=λ_ _ _ _ _ _ r h=>ie h (λc0 h=>nz h) λc0 h=>ra (cF h) [aQ c0]
def ahT (bh:Rn):Nat->Int->Int->Int->Int->bu->ae->Z (bu×ae)
 |0=>dv.z
 |n+1=>azf bh (ahT bh n) n
def axd {bh} (cF:KK (vT (aI 1871)) XD bh):∀n:Nat,KK (vT (aI 2383)) XE (ahT bh n)
 |0=>KC.h
 |n+1=>aNz cF (axd cF n) n
def aze (n:Nat) (n1 kI a7:Int) (b0:bu) (kq:ae):Z (bu×ae):=
 if iL ((aW (a7+kI))<n1) then
 G
 else
 cC n1 (aW (kI*2)) b0 kq
def aNy {bn} (cM:KK (vT [0,1,1,1,1]) Oe bn) (n:Nat):KK (vT (aI 1871)) XD (aze bn n):=λ_ _ _ _ _ r h=>ie h (λc0 h=>nz h) λc0 h=>ra (cM h) [dg c0]
def ajZ:Z (bu×ae):=
 if iL (df<dc) then
 ahT (aze cC cW) cW dc df 0 (aW (2*df)) dw bN
 else
 V (dw,bN)
def aNx {back} (aK:KK (vT [0,1,1,1,1]) Oe back) (n:Nat):KK (vT [0,1,1,1,1]) Oe (ajZ back n):=λ_ _ _ _ r h=>ie h (λc0 h=>ra (axd (aNy aK n) n h) [aQ c0]) λc0 h=>rr h [aQ c0]
def TN:Nat->Int->Int->bu->ae->Z (bu×ae)
 |0=>dv.z
 |n+1=>ajZ (TN n) n
def axc:∀n:Nat,KK (vT [0,1,1,1,1]) Oe (TN n)
 |0=>KC.h
 |n+1=>aNx (axc n) n
def ajY:Z (bu×ae):=
 (aim u F C w N).bind λx5=>(gU x5.1.length F.length).bind λw6=>TN u w 20 x5.1 x5.2
def aNw:KK (vT [1,1,1]) XC (ajY u):=λ_ _ _ _ r h=>be h λ_ ic h=>be h λ_ hw6 h=>ra (axc u h) [(4,.call (aFa u ic) [(0,0),(rn,yL)] []),(0,.seq 0 (bF (AV.ms 0 3 0) ((oY hw6).symm)))]
def ajX:Z (bu×ae):=
 TO (ajY u) u D 0 20 F N
def aNv:KK (vT []) alB (ajX u):=λ_ _ _ r h=>ra (axe (aNw u) u h) []
def asz:=ajX
def aQy:KK (Cx E0 133 Ht aml) alB (asz u):=λ_ _ _ _ h=>ca (X:=x133) (aNv u h)
def avw:List (Nat×Bx):= (Hw dD.1 eQ (cI dD.2))
def x89:=fx E0 Tryz.f89 [0,eQ]
def A89:=Ax x89 Ht avw
def auh:LS:=⟨[(0,.ms 0 3 0 F.length),(1,Gr eQ)],(Hw F eQ (cI N))⟩
def asQ:Z (bu×ae):=
 (asz u F (F.length:Int) N).bind λx5=>(gU x5.1.length F.length).bind λw6=>V (x5.1,x5.2)
def aRr:KK (A89 []) auh (asQ u):=λ_ _ r h=>be h λ_ ic h=>be h λ_ hw6 h=>rr h [(4,.call (aQy u ic) [(0,0),(eQ,rn)] [])]
def F89:=asQ
def ev89:KK (Cx E0 89 Ht avw) auh (F89 u):=λ_ _ _ h=>ca (X:=x89) (aRr u h)
def aaz:AV:=.dr [.ms bA 3 0 ea.1.length,bH ea.2]
def SC:List (Nat×Bx):= [(bA,Aa ea.1)]
def rX:=fx E0 Tryz.f37 []
def EZ:=Ax rX aaz SC
def Hk:LS:=⟨[(9,bH w),(10,.ms 26 3 0 F.length),(11,.fn 86 [] [.loc 3 0]),(12,.ms 92 3 0 S.length),(13,bH C),aX 14,aX 15],[(3,iU (cI N)),(14,.flat 156 (px ac)),(15,.flat 156 (px ct)),(26,aph F),(92,Aa S)]⟩
def Se:LS:=⟨[(9,bH w),(10,.ms 26 3 0 F.length),(11,.fn 86 [] [.loc 3 0]),(12,.ms 92 3 0 S.length),(13,bH C)],[(3,iU (cI N)),(26,aph F),(92,Aa S)]⟩
def aef:LS:=⟨[(9,bH w),(12,.ms 92 3 0 F.length)],[(92,Aa F)]⟩
def aJz:LS:=⟨[aX 3,(9,bH w),(10,.ms 26 3 0 F.length)],[(3,iU (cI B)),(26,aph F)]⟩
def auC:LS:=⟨[(0,.agg (cI B)),(1,iI C),(2,.sln 156 3 F.length (lj F))],[]⟩
def PQ (aA:aBX) (back:aBX) (n:Nat) (rT i13:Int) (lQ:bu) (b3:ae) (yo:bu) (gz pP:cr):Z (bu×Int):=
 if iL (i13<(lQ.length:Int)) then
 (dX lQ.length i13).bind λeN=>(lQ[0+eN]?).bind λjd=>(F86 n gz jd b3).bind λiv=>if iv.1 then
 (dX lQ.length i13).bind λnh=>(lQ[0+nh]?).bind λHd=>(F87 n pP.eH Hd.dY).bind λs8=>if !s8 then
 V ([],81)
 else
 (dX lQ.length i13).bind λqY=>(lQ[0+qY]?).bind λkC=>back rT (aW (i13+1)) lQ iv.2 yo gz kC
 else
 aA rT i13 lQ iv.2 yo gz pP
 else
 aA rT i13 lQ b3 yo gz pP
def aTi {aA} (aU:KK (EZ (aI 250623)) Hk aA) {back} (aK:KK (EZ (aI 709375)) Hk back) (n:Nat):KK (EZ (aI 709375)) Hk (PQ aA back n):=λ_ _ _ _ _ _ _ r h=>ie h (λc0 h=>be h λ_ iK h=>be h λ_ hI h=>be h λ_ iC h=>let zA:SE:=[aZ c0,(5,cX iK),(0,lR.row hI)];ie h (λc1 h=>be h λ_ o7 h=>be h λ_ Af h=>be h λ_ rQ h=>let zB:SE:=dk zA [(0,.call (cb (ev86 n iC) c1) [(3,2)] []),(5,cX o7),(1,lR.row Af),iX (agI n rQ)];ie h (λc2 h=>bq h zB [aB c2,(2,.born [6] [] bA M 156 3)]) λc2 h=>be h λ_ rO h=>be h λ_ pI h=>cB (aK h) zB [aB c2,(2,cX rO),(0,lR.row pI)]) λc1 h=>cB (aU h) zA [(0,.call (cb (ev86 n iC) c1) [(3,2)] [])]) λc0 h=>ra (aU h) [aZ c0]
def CU (aA:aBX):Nat->Int->Int->bu->ae->bu->cr->cr->Z (bu×Int)
 |0=>dv.z
 |n+1=>PQ aA (CU aA n) n
def aEd {aA} (aU:KK (EZ (aI 250623)) Hk aA):∀n:Nat,KK (EZ (aI 709375)) Hk (CU aA n)
 |0=>KC.h
 |n+1=>aTi aU (aEd aU n) n
def F9 (bh:Wf75) (n:Nat) (rT i13:Int) (lQ:bu) (b3:ae) (yo:bu) (gz pP:cr):Z (bu×Int):=
 (F87 n gz.dY pP.eH).bind λx5=>if !x5 then
 (F77 n gz.dY).bind λdC=>(F77 n pP.eH).bind λiQ=>(app yo [(cr.mk gz.av dC iQ)]).bind λnh=>bh rT i13 lQ b3 nh
 else
 bh rT i13 lQ b3 yo
def aTh {bh} (cF:KK (EZ (aI 2815)) Se bh) (n:Nat):KK (EZ (aI 250623)) Hk (F9 bh n):=λ_ _ _ _ _ _ _ r h=>be h λ_ ic h=>ie h (λc0 h=>be h λdC fE h=>be h λiQ iJ h=>be h λ_ o7 h=>ra (cF h) [j2 (agI n ic),aB c0,(0,.ord [0,1,2,3,4,6,7,5,8,9,10,11,12]),(7,vD (iy.res (.sl 0 38 3 0 []) (cd (e:=38) (z:=M) (Q:=dm dC) (ev77 n fE) (jm.len dC)))),(0,vD (iy.res (.sl 0 38 3 0 []) (cd (e:=38) (z:=M) (Q:=dm iQ) (ev77 n iJ) (jm.len iQ)))),(2,lR.jS o7)]) λc0 h=>ra (cF h) [j2 (agI n ic),aB c0]
def F8 (bn:Int->bu->Z (bu×Int)) (back:Wf75) (n:Nat) (rT i13:Int) (lQ:bu) (b3:ae) (yo:bu):Z (bu×Int):=
 if iL (i13<(lQ.length:Int)) then
 (dX lQ.length i13).bind λx7=>(lQ[0+x7]?).bind λx9=>CU (F9 back n) n rT (aW (i13+1)) lQ b3 yo x9 x9
 else
 bn rT yo
def aTg {bn} (cM:KK (EZ (aI 1023)) aef bn) {back} (aK:KK (EZ (aI 2815)) Se back) (n:Nat):KK (EZ (aI 2815)) Se (F8 bn back n):=λ_ _ _ _ _ r h=>ie h (λc0 h=>be h λ_ iE h=>be h λ_ iS h=>ra (aEd (aTh aK n) n h) [aZ c0,(2,cX iE),(0,lR.row iS)]) λc0 h=>ra (cM h) [aZ c0]
def vi (bn:Int->bu->Z (bu×Int)):Nat->Int->Int->bu->ae->bu->Z (bu×Int)
 |0=>dv.z
 |n+1=>F8 bn (vi bn n) n
def aEc {bn} (cM:KK (EZ (aI 1023)) aef bn):∀n:Nat,KK (EZ (aI 2815)) Se (vi bn n)
 |0=>KC.h
 |n+1=>aTg cM (aEc cM n) n
def AZ (n:Nat) (rT:Int) (yo:bu):Z (bu×Int):=
 if !iL (rT<0) then
 V ([],71)
 else
 V (yo,0)
def aTf:KK (EZ (aI 1023)) aef (AZ u):=λ_ _ r h=>ie h (λc0 h=>rr h [aV c0,(2,.born [6] [] bA M 156 3)]) λc0 h=>rr h [aV c0,(3,.iR 92 bA)]
def Ug:Z (bu×Int):=
 (F89 u F B).bind λx5=>(gU x5.1.length F.length).bind λw6=>vi (AZ u) u w 0 x5.1 x5.2 []
def aFQ:KK (EZ [1,1,1,1,1]) aJz (Ug u):=λ_ _ _ r h=>be h λ_ ic h=>be h λ_ hw6 h=>ra (aEc (aTf u) u h) [(4,.call (ev89 u ic) [(26,0),(3,eQ)] []),(2,.born [12] [] 92 M 156 3),(0,.seq 10 (bF (AV.ms 26 3 0) ((oY hw6).symm)))]
def ace:Z (bu×Int):=
 (F64 u B C).bind λx7=>if x7 !=0 then
 V ([],x7)
 else
 (F83 u F B C).bind λiv=>(F85 u F).bind λja=>if !iL (iv.1<0) then
 (rR ja.length iv.1).bind λfK=>Ug u iv.1 iv.2.1 (ja.take fK)
 else
 Ug u iv.1 iv.2.1 ja
def aTe:KK (EZ []) auC (ace u):=λ_ _ _ r h=>be h λ_ iE h=>let zA:SE:=[AM (ev64 u iE)];ie h (λc0 h=>bq h zA [aQ c0,(3,.born [6] [] bA M 156 3)]) λc0 h=>be h λ_ iC h=>be h λja jN h=>let zB:SE:=dk zA [aQ c0,(2,.call (ev83 u iC) [(3,eQ),(4,AK)] []),(2,.call (ev85 u jN) [] [(26,bA)])];ie h (λc1 h=>be h λfK ki h=>cB (aFQ u h) zB [aQ c1,(2,lR.rR (xs:=ja) ki (tp rfl)),(1,.shr 26 (lR.take ja fK)),(0,.seq 10 (bF (AV.ms 26 3 0) ((xW (xs:=ja) (kY (ti ki).2 (tp rfl))).symm)))]) λc1 h=>cB (aFQ u h) zB [aQ c1]
def F37:=ace
def ev37:KK (Cx E0 37 aaz SC) auC (F37 u):=λ_ _ _ _ h=>ca (X:=rX) (aTe u h)
def x81:=fx E0 Tryz.f81 []
def A81:=Ax x81 cP bC
def ady:LS:=⟨[(0,.slice 38 3 E.length (dm E)),(1,.slice 38 3 W.length (dm W)),(12,iI ap),(13,iI aT)],[]⟩
def adx:LS:=⟨[],[]⟩
def abC (back:bt->bt->Int->Int->Z Bool) (n:Nat) (a0 b1:bt) (t12 t13:Int):Z Bool:=
 if iL (t13<t12) then
 (idx a0 t13).bind λx6=>(idx b1 t13).bind λdN=>if !((x6.aD==dN.aD)&&((x6.dh==dN.dh)&&((iL (x6.cG=dN.cG))&&M))) then
 V I
 else
 back a0 b1 t12 (aW (t13+1))
 else
 bR
def aRC {aA} (aU:KK (A81 [1,1,1]) adx aA) {back} (aK:KK (A81 [0,1,0,1,1]) ady back) (n:Nat):KK (A81 [0,1,0,1,1]) ady (abC aA back n):=λ_ _ _ _ r h=>ie h (λc0 h=>be h λ_ jL h=>be h λ_ fN h=>let zA:SE:=[aB c0,(4,jm.idx jL),(3,jm.idx fN)];ie h (λc1 h=>bq h zA [aV c1]) λc1 h=>cB (aK h) zA [aV c1]) λc0 h=>ra (aU h) [aB c0]
def Pc (aA:Z Bool):Nat->bt->bt->Int->Int->Z Bool
 |0=>dv.z
 |n+1=>abC aA (Pc aA n) n
def aDF {aA} (aU:KK (A81 [1,1,1]) adx aA):∀n:Nat,KK (A81 [0,1,0,1,1]) ady (Pc aA n)
 |0=>KC.h
 |n+1=>aRC aU (aDF aU n) n
def aGm (n:Nat):Z Bool:=
 V M
def aRB:KK (A81 [1,1,1]) adx (aGm u):=λr h=>rr h []
def asW:Z Bool:=
 if (E.length:Int) !=(W.length:Int) then
 V I
 else
 Pc (aGm u) u E W (E.length:Int) 0
def aRA:KK (A81 []) vo (asW u):=λ_ _ r h=>ie h (λc0 h=>rr h [bP c0]) λc0 h=>ra (aDF (aRB u) u h) [bP c0]
def F81:=asW
def ev81:KK (Cx E0 81 cP bC) vo (F81 u):=λ_ _ _ h=>ca (X:=x81) (aRA u h)
def KN:=fx E0 Tryz.f34 []
def Gd:=Ax KN aaz SC
def aej (yp:bu):LS:=⟨[(12,LF),(14,.ms 303700 3 0 dw.length),(15,.ms 85 3 0 yp.length),(16,bH w),(17,bH C),(18,.fn 106 [] [.kh (Tm am)]),(46,bH ex),(47,bH ap),(56,.ms 303700 3 0 dw.length),(57,bH aT),(58,bH bc)],[(12,.flat 123 (qk cD)),(85,Aa yp),(303700,Aa dw)]⟩
def DB:LS:=⟨[(12,LF),(14,.ms 303700 3 0 S.length),(15,.ms 85 3 0 cf.length),(46,bH w),(47,bH C)],[(12,.flat 123 (qk aa)),(85,Aa cf),(303700,Aa S)]⟩
def aei:LS:=⟨[(15,.ms 85 3 0 F.length)],[(85,Aa F)]⟩
def auE:LS:=⟨[(0,.agg (cI B)),(1,.rY 46 15 f7.length (ot f7)),(2,iI D),(3,iI H),(4,.sln 156 3 S.length (lj S))],[]⟩
def acj (back:Int->Int->kJ->Int->Int->Int->Int->eE->bu->bu->Z (bu×Int)) (n:Nat) (t16 HP:Int) (o5:kJ) (t46 t47 t57 t58:Int) (cx:eE) (qz yp:bu):Z (bu×Int):=
 if iL (t58<t57) then
 (dX qz.length t58).bind λx2=>(qz[0+x2]?).bind λx4=>if x4.av !=HP then
 back t16 HP o5 t46 t47 t57 (aW (t58+1)) cx qz yp
 else
 (M9 n x4.dY o5).bind λgd=>(M9 n x4.eH o5).bind λnh=>(F81 n gd nh).bind λlu=>if !lu then
 (app yp [(cr.mk t16 gd nh)]).bind λHc=>back t16 HP o5 t46 t47 t57 (aW (t58+1)) cx qz Hc
 else
 back t16 HP o5 t46 t47 t57 (aW (t58+1)) cx qz yp
 else
 dU t46 t47 cx qz yp
def aTq {aA} (aU:KK (Gd (aI 15551)) DB aA) {back} (aK:KK (Gd (aI 380095)) aej back) (n:Nat):KK (Gd (aI 380095)) aej (acj aA back n):=λ_ _ _ _ _ _ _ _ _ _ r h=>ie h (λc0 h=>be h λ_ di h=>be h λ_ iF h=>let zA:SE:=[aB c0,(0,cX di),(0,lR.row iF)];ie h (λc1 h=>cB (aK h) zA [bP c1]) λc1 h=>be h λgd iB h=>be h λnh o7 h=>be h λ_ rP h=>let zB:SE:=dk zA [bP c1,(0,.ord [0,1,2,3,5,6,7,10,4,8,9,11]),(8,.call (aqC n iB) [] [(70,bA)]),(0,.call (aqC n o7) [] [(74,bA)]),(6,jm.er 70 gd),(0,jm.er 74 nh),iX (ev81 n rP)];ie h (λc2 h=>be h λ_ agn h=>cB (aK h) zB [aB c2,(2,.tU 83 (.agg [.bool M,.sl 0 0 0 0 [],.sl 0 0 0 0 []])),(1,lR.jS agn)]) λc2 h=>cB (aK h) zB [aB c2]) λc0 h=>ra (aU h) [aB c0]
def Pp (aA:arD):Nat->Int->Int->kJ->Int->Int->Int->Int->eE->bu->bu->Z (bu×Int)
 |0=>dv.z
 |n+1=>acj aA (Pp aA n) n
def aEg {aA} (aU:KK (Gd (aI 15551)) DB aA):∀n:Nat,KK (Gd (aI 380095)) aej (Pp aA n)
 |0=>KC.h
 |n+1=>aTq aU (aEg aU n) n
def aci (n:Nat) (t46 t47:Int) (cx:eE) (qz yp:bu):Z (bu×Int):=
 dU t46 (aW (t47+1)) cx qz yp
def aTp {bh} (cF:KK (Gd (aI 703)) DB bh) (n:Nat):KK (Gd (aI 15551)) DB (aci bh n):=λ_ _ _ _ _ r h=>ra (cF h) []
def ach (bn:bu->Z (bu×Int)) (back:arD) (n:Nat) (t46 t47:Int) (cx:eE) (qz yp:bu):Z (bu×Int):=
 if iL (t47<t46) then
 (F57 n cx t47).bind λx6=>Pp (aci back n) n t47 x6.1 x6.2 t46 t47 (qz.length:Int) 0 cx qz yp
 else
 bn yp
def aTo {bn} (cM:KK (Gd (aI 255)) aei bn) {back} (aK:KK (Gd (aI 703)) DB back) (n:Nat):KK (Gd (aI 703)) DB (ach bn back n):=λ_ _ _ _ _ r h=>ie h (λc0 h=>be h λ_ jL h=>ra (aEg (aTp aK n) n h) [aB c0,j2 (ev57 n jL)]) λc0 h=>ra (cM h) [aB c0]
def Ko (bn:bu->Z (bu×Int)):Nat->Int->Int->eE->bu->bu->Z (bu×Int)
 |0=>dv.z
 |n+1=>ach bn (Ko bn n) n
def aEf {bn} (cM:KK (Gd (aI 255)) aei bn):∀n:Nat,KK (Gd (aI 703)) DB (Ko bn n)
 |0=>KC.h
 |n+1=>aTo cM (aEf cM n) n
def Uh (n:Nat) (yp:bu):Z (bu×Int):=
 V (yp,0)
def aTn:KK (Gd (aI 255)) aei (Uh u):=λ_ r h=>rr h [(3,.iR 85 bA)]
def aty:Z (bu×Int):=
 (F54 u B f7 D).bind λx7=>if x7.2 !=0 then
 V ([],x7.2)
 else
 (F55 u x7.1).bind λja=>(F37 u ja H S).bind λl7=>if l7.2 !=0 then
 V ([],l7.2)
 else
 (F56 u x7.1).bind λkC=>Ko (Uh u) u (kC.ah.length:Int) 0 x7.1 l7.1 []
def aTm:KK (Gd []) auE (aty u):=λ_ _ _ _ _ r h=>be h λ_ iE h=>let zA:SE:=[AM (aBq u iE)];ie h (λc0 h=>bq h zA [iO c0,(3,.born [10] [] bA M 156 3)]) λc0 h=>be h λ_ jN h=>be h λ_ nr h=>let zB:SE:=dk zA [iO c0,sf (ev55 u jN),(2,.call (ev37 u nr) [] [(303700,bA)])];ie h (λc1 h=>bq h zB [dg c1,(3,.born [10] [] bA M 156 3)]) λc1 h=>be h λ_ pI h=>cB (aEf (aTn u) u h) zB [dg c1,im (aqu u pI),(3,.born [15] [] 85 M 156 3)]
def F34:=aty
def aBt:KK (Cx E0 34 aaz SC) auE (F34 u):=λ_ _ _ _ _ _ h=>ca (X:=KN) (aTm u h)
def Hc:=fx E0 Tryz.f36 []
def A36:=Ax Hc cP bC
def aeh:LS:=⟨[(0,.slice 156 3 F.length (lj F)),(1,.slice 156 3 S.length (lj S)),(12,iI ex),(13,iI ap)],[]⟩
def aeg:LS:=⟨[],[]⟩
def auD:LS:=⟨[(0,.slice 156 3 F.length (lj F)),(1,.slice 156 3 S.length (lj S))],[]⟩
def acg (back:bu->bu->Int->Int->Z Bool) (n:Nat) (a0 b1:bu) (t12 t13:Int):Z Bool:=
 if iL (t13<t12) then
 (idx a0 t13).bind λx6=>(idx b1 t13).bind λjd=>if x6.av !=jd.av then
 V I
 else
 (idx a0 t13).bind λlx=>(idx b1 t13).bind λs8=>(F27 n lx.dY s8.dY).bind λlu=>if lu !=0 then
 V I
 else
 (idx a0 t13).bind λrX=>(idx b1 t13).bind λx43=>(F27 n rX.eH x43.eH).bind λx47=>if x47 !=0 then
 V I
 else
 back a0 b1 t12 (aW (t13+1))
 else
 bR
def aTl {aA} (aU:KK (A36 [1,1,1]) aeg aA) {back} (aK:KK (A36 [0,1,0,1,1]) aeh back) (n:Nat):KK (A36 [0,1,0,1,1]) aeh (acg aA back n):=λ_ _ _ _ r h=>ie h (λc0 h=>be h λ_ jL h=>be h λ_ hI h=>let zA:SE:=[aB c0,(4,lR.idx jL),(4,lR.idx hI)];ie h (λc1 h=>bq h zA [aQ c1]) λc1 h=>be h λ_ jM h=>be h λ_ rQ h=>be h λ_ rP h=>let zB:SE:=dk zA [aQ c1,(3,lR.idx jM),(4,lR.idx rQ),im (agK n rP)];ie h (λc2 h=>bq h zB [aB c2]) λc2 h=>be h λ_ xE h=>be h λ_ JK h=>be h λ_ agm h=>let zC:SE:=dk zB [aB c2,(4,lR.idx xE),(4,lR.idx JK),im (agK n agm)];ie h (λc3 h=>bq h zC [aB c3]) λc3 h=>cB (aK h) zC [aB c3]) λc0 h=>ra (aU h) [aB c0]
def Po (aA:Z Bool):Nat->bu->bu->Int->Int->Z Bool
 |0=>dv.z
 |n+1=>acg aA (Po aA n) n
def aEe {aA} (aU:KK (A36 [1,1,1]) aeg aA):∀n:Nat,KK (A36 [0,1,0,1,1]) aeh (Po aA n)
 |0=>KC.h
 |n+1=>aTl aU (aEe aU n) n
def acf (n:Nat):Z Bool:=
 V M
def aTk:KK (A36 [1,1,1]) aeg (acf u):=λr h=>rr h []
def atx:Z Bool:=
 if (F.length:Int) !=(S.length:Int) then
 V I
 else
 Po (acf u) u F S (F.length:Int) 0
def aTj:KK (A36 []) auD (atx u):=λ_ _ r h=>ie h (λc0 h=>rr h [bP c0]) λc0 h=>ra (aEe (aTk u) u h) [bP c0]
def F36:=atx
def ev36:KK (Cx E0 36 cP bC) auD (F36 u):=λ_ _ _ h=>ca (X:=Hc) (aTj u h)
def eN:=fx E0 Tryz.f10 []
def A10:=Ax eN cP bC
def aeE:LS:=⟨[aX 4,(5,.rY 46 15 f7.length (ot f7)),(6,.ms 302802 2 0 ce.length),(7,iI D),(9,iI H),aX 10,(11,.sln 156 3 S.length (lj S)),aX 13,(15,.sln 156 3 cf.length (lj cf)),(19,iI bz)],[(4,iU (cI bJ)),(10,.flat 51 (rD bo)),(13,.flat 51 (rD dB)),(302802,LH ce)]⟩
def aeD:LS:=⟨[aX 4,(5,.rY 46 15 f7.length (ot f7)),(6,.ms 302802 2 0 ce.length),(7,iI D),(9,iI H),aX 10,(11,.sln 156 3 S.length (lj S)),aX 13,(15,.sln 156 3 cf.length (lj cf))],[(4,iU (cI bJ)),(10,.flat 51 (rD bo)),(13,.flat 51 (rD dB)),(302802,LH ce)]⟩
def aeC:LS:=⟨[(0,.rY 5 1 ge.length (AF ge))],[]⟩
def acF (aA:Wf77) (back:bX->Int->Int->bu->bu->Int->ae->fU->aF->aF->Z Bool) (n:Nat) (m5:bX) (k7 yJ:Int) (pO y15:bu) (i19:Int) (b4:ae) (oh:fU) (nP jR:aF):Z Bool:=
 if !iL (i19<k7) then
 (dX oh.length i19).bind λx6=>(oh[0+x6]?).bind λx8=>(cut m5 (V i19) (V (aW (i19+1)))).bind λiv=>(dX oh.length i19).bind λja=>(oh[0+ja]?).bind λnh=>(F21 n x8 iv nh.ay yJ jR).bind λfK=>(dX oh.length i19).bind λKN=>(oh[0+KN]?).bind λHc=>(cut m5 (V i19) (V (aW (i19+1)))).bind λE4=>(dX oh.length i19).bind λyz=>(oh[0+yz]?).bind λx49=>(F34 n Hc E4 x49.ay yJ y15).bind λG9=>if fK.2 !=0 then
 V I
 else
 if G9.2 !=0 then
 V I
 else
 back m5 k7 yJ pO G9.1 (aW (i19-1)) b4 oh nP fK.1
 else
 aA m5 k7 yJ pO y15 b4 oh nP jR
def aUh {aA} (aU:KK (A10 (aI 8191)) aeD aA) {back} (aK:KK (A10 (aI 22527)) aeE back) (n:Nat):KK (A10 (aI 22527)) aeE (acF aA back n):=λ_ _ _ _ _ _ _ _ _ _ r h=>ie h (λc0 h=>be h λ_ jL h=>be h λ_ lN h=>be h λ_ iC h=>be h λ_ jN h=>be h λ_ o7 h=>be h λ_ ki h=>be h λ_ Mc h=>be h λ_ agn h=>be h λ_ QU h=>be h λ_ JJ h=>be h λ_ aAK h=>be h λG9 QT h=>let zA:SE:=[aQ c0,(2,cX jL),(0,BI.row lN),(4,H6.cut iC),(2,cX jN),(1,BI.row o7),im (aqx n ki),(7,cX Mc),(0,BI.row agn),(4,H6.cut QU),(2,cX JJ),(1,BI.row aAK),(2,.call (aBt n QT) [] [(314800,bA)])];ie h (λc1 h=>bq h zA [dg c1]) λc1 h=>ie h (λc2 h=>bq h zA [dg c1,aQ c2]) λc2 h=>cB (aK h) zA [dg c1,aQ c2,(4,lR.er 314800 G9.1)]) λc0 h=>ra (aU h) [aQ c0]
def Py (aA:Wf77):Nat->bX->Int->Int->bu->bu->Int->ae->fU->aF->aF->Z Bool
 |0=>dv.z
 |n+1=>acF aA (Py aA n) n
def aEv {aA} (aU:KK (A10 (aI 8191)) aeD aA):∀n:Nat,KK (A10 (aI 22527)) aeE (Py aA n)
 |0=>KC.h
 |n+1=>aUh aU (aEv aU n) n
def VH:Z Bool:=
 (dX ce.length D).bind λx5=>(ce[0+x5]?).bind λx8=>(F21 u bJ f7 x8.ay H bo).bind λjd=>(dX ce.length D).bind λHd=>(ce[0+Hd]?).bind λuP=>(F34 u bJ f7 uP.ay H S).bind λqY=>if jd.2==0 then
 if qY.2==0 then
 (F23 u jd.1 dB).bind λx47=>if x47 then
 (F36 u qY.1 cf).bind λG9=>if G9 then
 (F17 u).bind λG8=>V G8
 else
 V I
 else
 V I
 else
 V I
 else
 V I
def aUg:KK (A10 (aI 8191)) aeD (VH u):=λ_ _ _ _ _ _ _ _ _ r h=>be h λ_ ic h=>be h λ_ lN h=>be h λ_ hI h=>be h λ_ Af h=>be h λ_ D5 h=>be h λqY rO h=>let zA:SE:=[(0,.ord [0,1,2,3,4,5,6,7,8,13,9,10,11,12,14,15]),(4,cX ic),(1,BI.row lN),j3 (aqx u hI),(9,cX Af),(1,BI.row D5),(2,.call (aBt u rO) [] [(318000,bA)])];ie h (λc0 h=>let zB:SE:=dk zA [dg c0];ie h (λc1 h=>be h λ_ agm h=>let zC:SE:=dk zB [aQ c1,j2 (ev23 u agm)];ie h (λc2 bE=>by subst c2;exact (be bE λG9 QT bE=>let zD:SE:=dk zC [(4,lR.er 318000 qY.1),iX (ev36 u QT)];ie bE (λc3 nM=>by subst c3;exact (be nM λG8 agk nM=>bq nM zD [im (ev17 u agk)])) λc3 nM=>by subst c3;exact (rr nM zD))) λc2 bE=>by subst c2;exact (rr bE zC)) λc1 h=>bq h zB [aQ c1]) λc0 h=>bq h zA [dg c0]
def atK:Z Bool:=
 (F13 u ge 400).bind λx3=>(F12 u x3).bind λx7=>(dX x7.2.2.1.length (aW ((x7.2.2.1.length:Int)-1))).bind λiP=>(x7.2.2.1[0+iP]?).bind λfK=>(qJ u x7.2.2.2.2 3).bind λlu=>(F19 u lu.2 fK (aW (1+lu.1))).bind λrX=>(F33 u rX.2 fK (aW (1+lu.1)) rX.1 4).bind λx45=>(F21 u x7.1 x7.2.1 fK.ay (aW (1+lu.1)) rX.1).bind λx59=>(F34 u x7.1 x7.2.1 fK.ay (aW (1+lu.1)) x45.1).bind λx73=>(F37 u fK (aW (1+lu.1)) x45.1).bind λx83=>if x59.2 !=0 then
 V I
 else
 if x73.2 !=0 then
 V I
 else
 if x83.2 !=0 then
 V I
 else
 (F23 u x59.1 rX.1).bind λaow=>if !aow then
 V I
 else
 (F36 u x73.1 x83.1).bind λGi=>if !Gi then
 V I
 else
 Py (VH u) u x7.2.1 x7.2.2.2.1 (aW (1+lu.1)) x45.1 x73.1 (aW ((x7.2.1.length:Int)-1)) x7.1 x7.2.2.1 rX.1 x59.1
def aUf:KK (A10 []) aeC (atK u):=λ_ r h=>be h λ_ eM h=>be h λx7 iE h=>be h λ_ o6 h=>be h λ_ ki h=>be h λ_ rP h=>be h λ_ xE h=>be h λx45 aAL h=>be h λ_ agj h=>be h λx73 hx73 h=>be h λx83 hx83 h=>let zA:SE:=[(2,.call (ev13 u eM) [] [(25,bA)]),(2,.call (ev12 u iE) [(25,0)] [(302801,200001),(302802,200002)]),(14,cX o6),(0,BI.row ki),(3,.call (nW u rP) [(25,0)] []),(5,.call (ev19 u xE) [(25,0)] []),(6,.call (ev33 u aAL) [(25,0)] [(305100,bA)]),(12,H6.er 302801 x7.2.1),iX (aqx u agj),(12,lR.er 305100 x45.1),(0,.call (aBt u hx73) [] [(307100,bA)]),(8,.call (ev37 u hx83) [] [(307800,bA)])];ie h (λc0 h=>bq h zA [dg c0]) λc0 h=>let zB:SE:=dk zA [dg c0];ie h (λc1 h=>bq h zB [aQ c1]) λc1 h=>let zC:SE:=dk zB [aQ c1];ie h (λc2 h=>bq h zC [aZ c2]) λc2 h=>be h λ_ aPM h=>let zD:SE:=dk zC [aZ c2,j2 (ev23 u aPM)];ie h (λc3 h=>bq h zD [aB c3]) λc3 h=>be h λ_ apX h=>let zE:SE:=dk zD [aB c3,(4,lR.er 307100 x73.1),(0,lR.er 307800 x83.1),iX (ev36 u apX)];ie h (λc4 h=>bq h zE [aB c4]) λc4 h=>cB (aEv (aUg u) u h) zE [aB c4]
def F10:=atK
def ev10:KK (Cx E0 10 cP bC) aeC (F10 u):=λ_ _ h=>ca (X:=eN) (aUf u h)
def art:Bool:= [5,22].contains d6
def aOZ (h:art d6=M):Lq Tryz.prog art d6=M:=by
 have gS:([5,22].all λd6=>Lq Tryz.prog art d6)=M:=by kernel_rfl
 exact jJ.1 gS d6 (List.contains_iff_mem.1 h)
def ty5 (h:kK Tryz.prog u 5 d7):∃x,d7=agP x:=by
 match u,h with
 |u+1,h=>
  simp only[kK,Tryz.underlying5] at h;obtain ⟨x,rfl,_⟩:=h;exact ⟨x,rfl⟩
def ty22 (h:kK Tryz.prog u 22 d7):∃x,d7= [.rY 5 1 x.length (AF x)]:=by
 match u,h with
 |u+1,h=>
  simp only[kK,Tryz.underlying22] at h;obtain ⟨rows,rfl,hr⟩:=h;obtain ⟨y,rfl⟩:=aHo λr lA=>ty5 u r (hr r lA)
  exact ⟨y,by rw[mL,Zq,show Tryz.prog.cellsOf 5=1 from by kernel_rfl];try rfl⟩
def cU (h1: -9223372036854775808<=x) (h2:x<=9223372036854775807):aW x=x:=IntWalk.i64_in x ⟨h1,h2⟩
def bB (xs:List J) (i:Nat):idx xs (i:Int)=xs[i]? :=by simp[idx]
mutual
def fY:aj->Nat
 |⟨_,_,_,_,args⟩=>2+lJ args
def lJ:br->Nat
 | []=>0
 |x::xs=>1+fY x+lJ xs
end
def qR (xs:br):xs.length<=lJ xs:=by
 induction xs with
 |nil=>simp[lJ]
 |cons x xs ih=>simp[lJ];omega
def zv:aS:=om
def oo (v:aS):Bool:=
 if v.aD==1||v.aD==2 then v.dh==0&&iL (v.cG=A')
 else if v.aD==3 then (v.dh==0||v.dh==1)&&iL (v.cG=A')
 else if v.aD==4 then iL (v.cG=A')
 else if v.aD==5 then v.dh==0&&iL ((v.cG.size:Int)<=64)
 else I
def jt:Bool:=oo ad&&iL (3<=ad.aD)
def aoe:ast u ad=V (oo ad):=by
 unfold ast ajz oo;by_cases h1:ad.aD=1<;>by_cases h2:ad.aD=2<;>by_cases h3:ad.aD=3<;>by_cases h4:ad.aD=4<;>by_cases h5:ad.aD=5<;>by_cases h6:ad.dh=0<;>by_cases h7:ad.dh=1<;>simp_all<;>simp[<-Int.not_le]
def aoi:asC u ad=V (oo ad):=by
 have:=aoe u ad;exact this
def akm (h:oo v=M):1<=v.aD/\v.aD<=5:=by
 unfold oo at h;split at h
 ·rename_i h1;simp at h1;omega
 ·split at h
  ·rename_i h1;simp at h1;omega
  ·split at h
   ·rename_i h1;simp at h1;omega
   ·split at h
    ·rename_i h1;simp at h1;omega
    ·simp at h
def Dp:Rv u ad=V (jt ad):=by
 unfold Rv ajP;rw[aoe];simp only[ak,jt];cases oo ad<;>simp<;>simp[<-Int.not_le]
def aoc:Y0 u ad=V (jt ad):=by
 unfold Y0 aju;rw[aoi];simp only[ak,jt];cases h:oo ad with
 |false=>simp
 |true=>
  have:=akm h;by_cases h1:ad.aD=1
  ·simp[h1]
  ·by_cases h2:ad.aD=2
   ·simp[h2]
   ·have:3<=ad.aD:=by omega
    simp[h1,h2,this]
def ZN:∀a b:List UInt8,aa2 a b=if N' a b then -1 else if a=b then 0 else 1
 | [],[]=>by simp[aa2,N']
 | [],_::_=>by simp[aa2,N']
 |_::_,[]=>by simp[aa2,N']
 |a::l,b::m=>by
  rw[aa2,N',ZN l m];by_cases h:a<b
  ·simp[h]
  ·by_cases h2:b<a
   ·have cQ:a≠b:=λe=>by subst e;exact absurd h2 (zw _)
    simp[h,h2,cQ]
   ·have he:a=b:=UInt8.le_antisymm (NR.1 h2) (NR.1 h);subst he;simp[zw]
def lY (a b:aS):Int:=
 if a.aD<b.aD then -1 else if b.aD<a.aD then 1
 else if a.dh<b.dh then -1 else if b.dh<a.dh then 1
 else if N' a.cG.toList b.cG.toList then -1 else if a.cG=b.cG then 0 else 1
def qo:∀a:List UInt8,N' a a=I
 | []=>by simp[N']
 |a::l=>by simp[N',qo l,zw]
def Cc {a b:U} (h:a.data.toList=b.data.toList):a=b:=by
 cases a;cases b;simp at h;simp[h]
def yn:bx.toList=bx.data.toList:=by
 exact ByteArray.toList_eq bx
def aCn:asi u bx cT=V (if N' bx.toList cT.toList then -1 else if bx=cT then 0 else 1):=by
 unfold asi;rw[ZN,yn,yn];by_cases h:bx=cT
 ·subst h;simp
 ·have:bx.data.toList≠cT.data.toList:=λe=>h (Cc e)
  simp[h,this]
def aIF:asr u w C=V (if w<C then -1 else if C<w then 1 else 0):=by
 unfold asr ajx asm ajd;by_cases h1:w<C
 ·simp[h1]
 ·by_cases h2:C<w<;>simp[h1,h2]
def aIE:asq u w C=V (if w<C then -1 else if C<w then 1 else 0):=by
 unfold asq ajw asl ajc;by_cases h1:w<C
 ·simp[h1]
 ·by_cases h2:C<w<;>simp[h1,h2]
def aIV:asB u ad ao=V (lY ad ao):=by
 unfold asB akc aCt ajv aCp ajb;rw[aIF,aIE,aCn];let ⟨k,i,t⟩:=ad;let ⟨k',i',t'⟩:=ao;unfold lY;simp only[ak];by_cases h1:k<k'
 ·have:k≠k':=by omega
  simp[h1,this]
 ·by_cases h2:k'<k
  ·have:k≠k':=by omega
   simp[h1,h2,this]
  ·have hk:k=k':=by omega
   subst hk;by_cases h3:i<i'
   ·have:i≠i':=by omega
    simp[h3,this]
   ·by_cases h4:i'<i
    ·have:i≠i':=by omega
     simp[h3,h4,this]
    ·have hi:i=i':=by omega
     subst hi;by_cases h5:t=t'
     ·subst h5;simp[qo]
     ·simp[h5]
def qg {xs:List J} {x:J} {l:List J} (h:xs.drop i=x::l):xs[i]? =V x/\xs.drop (i+1)=l/\i<xs.length:=by
 have h1:i<xs.length:=by
  by_cases hl:i<xs.length
  ·exact hl
  ·rw[p7 (by omega)] at h;simp at h
 rw[sr h1] at h;let ⟨q1,q2⟩:=aar h;exact ⟨by simp[h1,q1],q2,h1⟩
def eA {l:List A} (h:l.drop i=[]):l.length<=i/\¬((i:Int)<(l.length:Int)):=by
 have:l.length<=i:=by simpa using h
 exact ⟨this,by omega⟩
def dK {l x:List A} {a:A} (h:l.drop i=a::x):l[i]? =V a/\l.drop (i+1)=x/\i<l.length/\(i:Int)<(l.length:Int):=by
 let ⟨p,q,r⟩:=qg h
 exact ⟨p,q,r,by omega⟩
def uy {x:aj} (h:x∈xs):fY x+xs.length<=lJ xs:=by
 induction xs with
 |nil=>simp at h
 |cons y ys ih=>
  have hl:=qR ys;simp only[lJ,iu];rcases da.1 h with rfl|h
  ·omega
  ·have:=ih h;omega
def Ok {J:Type} (x:Z J) (P:J->Prop):Prop:=∃a,x=V a/\P a
def Ok.pure {a:J} {P:J->Prop} (h:P a):Ok (V a) P:=⟨a,rfl,h⟩
def Ok.bind {f8:Type} {x:Z J} {f:J->Z f8} {P:J->Prop} {Q:f8->Prop} (h:Ok x P) (k:∀a,P a->Ok (f a) Q):Ok (x.bind f) Q:=by
 obtain ⟨a,rfl,ha⟩:=h;exact k a ha
def Ok.mono {x:Z J} {P Q:J->Prop} (h:Ok x P) (k:∀a,P a->Q a):Ok x Q:=by
 let ⟨a,h1,h2⟩:=h;exact ⟨a,h1,k a h2⟩
def Ok.ite {b:Bool} {x y:Z J} {P:J->Prop} (h1:b=M->Ok x P) (h2:b=I->Ok y P):Ok (if b=M then x else y) P:=by
 cases b with
 |true=>simpa using h1 rfl
 |false=>simpa using h2 rfl
structure cV (c:aN):Prop where
 lo:0<=c.Cq
 hi:c.Cq<=c.qh.length
 len:c.qh.length<=1000
 byte:∀x∈c.qh,0<=x/\x<=255
def dx (xs ys:List J) (h:xs.length+ys.length<=1000000):app xs ys=V (xs++ys):=by unfold app;rw[aG (by omega)]
def aOT (hb:∀x∈ge,0<=x/\x<=255) (h0:0<=O) (h1:O<=1000):Ok (F13 u ge O) cV:=by
 unfold F13 atI;have hc:∃k:Nat,(if O<(ge.length:Int) then O else (ge.length:Int))=(k:Int)/\k<=ge.length/\k<=1000:=by
  by_cases h:O<(ge.length:Int)
  ·exact ⟨O.toNat,by rw[aG h];omega,by omega,by omega⟩
  ·exact ⟨ge.length,by rw[aC h],de _,by omega⟩
 let ⟨k,e,k1,k2⟩:=hc;rw[e];have h2:cut ge G (V (k:Int))=V (ge.take k):=by simp[cut,k1]
 rw[h2,ak,dx _ _ (by simp;omega),ak]
 refine Ok.pure ⟨Int.le_refl _,by simp,by simp;omega,λx hx=> ?_⟩
 exact hb x (oG (by simpa using hx))
def jT (h:cV ab):Ok (qJ u ab O) λr=>cV r.2/\0<=r.1/\(1<=O->r.1<O)/\(O<1->r.1=0)/\r.1<=255:=by
 unfold qJ atE;refine Ok.ite (λh1=>Ok.pure ⟨h,Int.le_refl _,λh=>by omega,λ_=>rfl,by omega⟩) λh1=> ?_
 simp at h1;refine Ok.ite (λh2=>Ok.pure ⟨h,Int.le_refl _,λh=>by omega,λ_=>rfl,by omega⟩) λh2=> ?_
 simp at h2;have h3:=h.lo;have h4:=h.len;rw[cU (x:=ab.Cq+1) (by omega) (by omega),cU (by omega) (by omega)]
 have e:ab.Cq+1-1=(ab.Cq.toNat:Int):=by omega
 have dq:ab.Cq.toNat<ab.qh.length:=by omega
 rw[e,bB,cZ dq,ak];have hb:=h.byte (ab.qh[ab.Cq.toNat]) (p6 _);rw[cU (by omega) (by omega)]
 have hm:O≠0:=by omega
 simp only[rem,hm,au,ak];have q1:=Int.tmod_nonneg O hb.1;have q2:=Int.tmod_lt_of_pos ab.qh[ab.Cq.toNat] (by omega:0<O)
 have q3:ab.qh[ab.Cq.toNat].tmod O<=ab.qh[ab.Cq.toNat]:=by
  rw[Int.tmod_eq_emod_of_nonneg hb.1];have:=Int.emod_add_mul_ediv ab.qh[ab.Cq.toNat] O;have h5:0<=O*(ab.qh[ab.Cq.toNat] / O):=Int.mul_nonneg (by omega) (Int.ediv_nonneg hb.1 (by omega))
  omega
 exact Ok.pure ⟨⟨by simp;omega,by simp;omega,h4,h.byte⟩,q1,λ_=>q2,λh=>by omega,by simp;omega⟩
def sX (h:cV ab):Ok (Cu u ab O) λr=>cV r.2:=by
 unfold Cu atd;refine Ok.bind (jT u ab O h) λr hr=> ?_
 exact Ok.pure hr.1
def aIU (h:cV ab):Ok (asy u ab) λr=>cV r.2/\ -9223372036854775808<=r.1/\r.1<=9223372036854775807:=by
 unfold asy ajU;refine Ok.bind (jT u ab 12 h) λr ⟨hr,h0,_,_,h2⟩=> ?_
 refine Ok.ite (λ_=>Ok.pure ⟨hr,by simp,by simp⟩) λ_=> ?_
 refine Ok.ite (λ_=>Ok.pure ⟨hr,by simp,by simp⟩) λ_=> ?_
 refine Ok.ite (λ_=>Ok.pure ⟨hr,by simp,by simp⟩) λ_=> ?_
 have q1:=Int.tmod_nonneg 4 h0;have q2:=Int.tmod_lt_of_pos r.1 (by omega:(0:Int)<4)
 exact Ok.pure ⟨hr,by simp;omega,by simp;omega⟩
def aah (c:aN):∀(k n:Nat) (s:U) (i:Int),i=64-k->k<=64->s.size=64-k->k<n->Ok (ID (λl b=>V (l,b)) n s i c) λr=>r.2=c/\r.1.size<=64
 |0,n+1,s,i,hi,_,hs,_=>by
  have h:¬i<64:=by omega
  simp only[ID,Vz,h,aR,ax,au];exact Ok.pure ⟨rfl,by simp;omega⟩
 |k+1,n+1,s,i,hi,hk,hs,hn=>by
  have h:i<64:=by omega
  simp only[ID,Vz,h,aO,aw];have hc:cat s (Bk #[255])=V (s++Bk #[255]):=by
   have:(Bk #[255]).size=1:=rfl;unfold cat;rw[aG (by omega)]
  rw[hc,ak,cU (by omega) (by omega)]
  have oA:(s++Bk #[255]).size=s.size+1:=by rw[V1];rfl
  exact aah c k n _ _ (by omega) (by omega) (by omega) (by omega)
 |_,0,_,_,_,_,_,hn=>by simp at hn
def aag (c:aN):∀(k n:Nat) (s:U) (i:Int),i=64-k->k<=64->s.size=64-k->k<n->Ok (IC (λl b=>V (l,b)) n s i c) λr=>r.2=c/\r.1.size<=64
 |0,n+1,s,i,hi,_,hs,_=>by
  have h:¬i<64:=by omega
  simp only[IC,Vy,h,aR,ax,au];exact Ok.pure ⟨rfl,by simp;omega⟩
 |k+1,n+1,s,i,hi,hk,hs,hn=>by
  have h:i<64:=by omega
  simp only[IC,Vy,h,aO,aw];have hc:cat s (Bk #[98])=V (s++Bk #[98]):=by
   have:(Bk #[98]).size=1:=rfl;unfold cat;rw[aG (by omega)]
  rw[hc,ak,cU (by omega) (by omega)]
  have oA:(s++Bk #[98]).size=s.size+1:=by rw[V1];rfl
  exact aag c k n _ _ (by omega) (by omega) (by omega) (by omega)
 |_,0,_,_,_,_,_,hn=>by simp at hn
def aIT (hn:100<=u) (c:aN) (h:cV c):Ok (asx u c) λr=>cV r.2/\r.1.size<=64:=by
 unfold asx ajT;refine Ok.bind (jT u c 10 h) λr ⟨hr,_⟩=> ?_
 refine Ok.ite (λ_=>Ok.pure ⟨hr,wN rfl⟩) λ_=> ?_
 refine Ok.ite (λ_=>Ok.pure ⟨hr,wN rfl⟩) λ_=> ?_
 refine Ok.ite (λ_=>Ok.pure ⟨hr,wN rfl⟩) λ_=> ?_
 refine Ok.ite (λ_=>Ok.pure ⟨hr,wN rfl⟩) λ_=> ?_
 refine Ok.ite (λ_=>Ok.pure ⟨hr,wN rfl⟩) λ_=> ?_
 refine Ok.ite (λ_=>Ok.pure ⟨hr,wN rfl⟩) λ_=> ?_
 refine Ok.ite (λ_=>Ok.pure ⟨hr,wN rfl⟩) λ_=> ?_
 refine Ok.ite (λ_=>Ok.pure ⟨hr,wN rfl⟩) λ_=> ?_
 refine Ok.ite (λ_=> ?_) λ_=> ?_
 ·exact (aah r.2 64 u A' 0 (by omega) (by omega) rfl (by omega)).mono λx ⟨e,hx⟩=>⟨by rw[e];exact hr,hx⟩
 ·exact (aag r.2 64 u A' 0 (by omega) (by omega) rfl (by omega)).mono λx ⟨e,hx⟩=>⟨by rw[e];exact hr,hx⟩
def EU (hn:100<=u) (c:aN) (k:Int) (h:cV c) (hk:3<=k) (jO:k<=5):Ok (F93 u c k) λr=>cV r.2/\r.1.aD=k/\jt r.1=M:=by
 unfold F93 asM;refine Ok.ite (λh3=> ?_) λh3=> ?_
 ·simp at h3;refine Ok.bind (jT u c 2 h) λr ⟨hr,h0,h1,_⟩=>Ok.pure ⟨hr,rfl,?_⟩
  have h1:=h1 (by omega)
  have:r.1=0\/r.1=1:=by omega
  rcases this with e|e<;>simp[jt,oo,h3,e]
 ·simp at h3;refine Ok.ite (λh4=> ?_) λh4=> ?_
  ·simp at h4;refine Ok.bind (aIU u c h) λr ⟨hr,_⟩=>Ok.pure ⟨hr,rfl,by simp[jt,oo,h4]⟩
  ·simp at h4;refine Ok.bind (aIT u hn c h) λr ⟨hr,hs⟩=>Ok.pure ⟨hr,by simp;omega,?_⟩
   have:(r.1.size:Int)<=64:=by omega
   simp[jt,oo,this]
def Ck:Bool:=w==3||w==4||w==5
def nS:Bool:=ge.all Ck
def bT {L:Nat} (h:i<L) (hl:L<4294967296):aW ((i:Int)+1)=((i+1:Nat):Int):=by rw[cU (by omega) (by omega)];rfl
def anV:aij u w=V (Ck w):=by
 unfold aij ajl Ck;by_cases h3:w=3
 ·simp[h3]
 ·by_cases h4:w=4
  ·simp[h4]
  ·simp[h3,h4]
def anG (xs:aP) (hl:xs.length<4294967296):∀(l:aP) (i n:Nat),xs.drop i=l->l.length<n->Ik (V M) n xs (xs.length:Int) (i:Int)=V (nS l)
 | [],i,n+1,hd,hn=>by
  let ⟨this,h⟩:=eA hd
  simp[Ik,UO,h,nS]
 |x::l,i,n+1,hd,hn=>by
  let ⟨h1,h2,h3,h⟩:=dK hd
  have ih:=anG xs hl l (i+1) n h2 (by simp at hn;omega)
  simp only[Ik,UO,h,aO,aw,bB,h1,ak,anV,bT h3 hl,ih];simp only[nS,qQ];cases Ck x<;>simp
 |_,_,0,_,hn=>by simp at hn
def aoa (hl:ge.length<4294967296) (hn:ge.length<u):ail u ge=V (nS ge):=by
 have:=anG ge hl ge 0 u rfl hn;simpa[ail,ajr,ajs] using this
def anL (xs:aP) (hl:xs.length<4294967296):∀(l:aP) (i n:Nat),xs.drop i=l->l.length<n->II (V M) n xs (xs.length:Int) (i:Int)=V (nS l)
 | [],i,n+1,hd,hn=>by
  let ⟨this,h⟩:=eA hd
  simp[II,VT,h,nS]
 |x::l,i,n+1,hd,hn=>by
  let ⟨h1,h2,h3,h⟩:=dK hd
  have ih:=anL xs hl l (i+1) n h2 (by simp at hn;omega)
  simp only[II,VT,h,aO,aw,bB,h1,ak,bT h3 hl,ih];simp only[nS,qQ,Ck];by_cases q3:x=3
  ·simp[q3]
  ·by_cases q4:x=4
   ·simp[q4]
   ·by_cases q5:x=5<;>simp[q3,q4,q5]
 |_,_,0,_,hn=>by simp at hn
def aom (hl:ge.length<4294967296) (hn:ge.length<u):aiG u ge=V (nS ge):=by
 have:=anL ge hl ge 0 u rfl hn;simpa[aiG,aki,akj] using this
mutual
def sJ:aj->Nat
 |⟨_,_,_,_,args⟩=>1+rk args
def rk:br->Nat
 | []=>0
 |x::xs=>sJ x+rk xs
end
mutual
def wD:aj->Nat
 |⟨_,_,_,_,args⟩=>1+vK args
def vK:br->Nat
 | []=>0
 |x::xs=>max (wD x) (vK xs)
end
def amy:1<=sJ bU:=by let ⟨_,_,_,_,_⟩:=bU;simp[sJ]
def anZ:∀(n:Nat) (p:aj) (m:Int),fY p<=n->fY p<4294967296->0<=m->m<=24->Ok (YZ n p m) λr=>r<=25/\(m+sJ p<=24->r=m+sJ p)/\(24<m+sJ p->24<r)
 |0,⟨_,_,_,_,_⟩,_,h,_,_,_=>by simp[fY] at h
 |n+1,⟨op,c,l,r,args⟩,m,h,hb,h0,h1=>by
  simp only[fY] at h hb;have hlen:=qR args;have loop:∀(xs:br) (i k:Nat) (m:Int),args.drop i=xs->xs.length<k->0<=m->m<=25->
    Ok (Ij (YZ n) (λr=>V r) k m (i:Int) ⟨op,c,l,r,args⟩) λr=>r<=25/\(m+rk xs<=24->r=m+rk xs)/\(24<m+rk xs->24<r):=by
   intro xs;induction xs with
   |nil=>
    intro i k m hd hk m0 m1;let ⟨this,hq⟩:=eA hd
    cases k with
    |zero=>simp at hk
    |succ k=>
     simp only[Ij,UN,hq,aR,ax,au];exact Ok.pure ⟨m1,λ_=>by simp[rk],λh=>by simp[rk] at h;exact h⟩
   |cons x xs ih=>
    intro i k m hd hk m0 m1;let ⟨g1,g2,g3,hq⟩:=dK hd
    cases k with
    |zero=>simp at hk
    |succ k=>
     simp only[Ij,UN,hq,aO,aw];have hx:x∈args:=bQ g1;have hs:=uy hx;have Fs:=amy x;refine Ok.ite (λhm=> ?_) λhm=> ?_
     ·simp at hm;rw[bB,g1,ak];refine Ok.bind (anZ n x m (by omega) (by omega) m0 hm) λr ⟨r1,r2,r3⟩=> ?_
      rw[bT g3 (by omega)]
      have hr0:0<=r:=by
       by_cases hz:m+sJ x<=24
       ·have:=r2 hz;omega
       ·have:=r3 (by omega);omega
      refine (ih (i+1) k r g2 (by simp at hk;omega) hr0 r1).mono λr' ⟨q1,q2,q3⟩=>⟨q1,λhle=> ?_,λdq=> ?_⟩
      ·simp only[rk] at hle ⊢;have e:=r2 (by omega)
       have:=q2 (by omega)
       omega
      ·simp only[rk] at dq;by_cases hz:m+sJ x<=24
       ·have e:=r2 hz;exact q3 (by omega)
       ·have e:=r3 (by omega)
        exact q3 (by omega)
     ·simp at hm;exact Ok.pure ⟨m1,λhle=>by simp only[rk] at hle;omega,λ_=>hm⟩
  unfold YZ ajq;rw[cU (by omega) (by omega)]
  refine (loop args 0 n (m+1) rfl (by omega) (by omega) (by omega)).mono λr' ⟨q1,q2,q3⟩=>⟨q1,λhle=> ?_,λdq=> ?_⟩
  ·simp only[sJ] at hle ⊢;have:=q2 (by omega)
   omega
  ·simp only[sJ] at dq;exact q3 (by omega)
def anY:∀(n:Nat) (p:aj) (m:Nat),fY p<=n->fY p<4294967296->m<=1000->M8 n p (m:Int)=V (iL (m<wD p))
 |0,⟨_,_,_,_,_⟩,_,h,_,_=>by simp[fY] at h
 |n+1,⟨op,c,l,r,args⟩,0,h,hb,hm=>by
  have:0<wD ⟨op,c,l,r,args⟩:=by simp only[wD];omega
  simp[M8,UL,this]
 |n+1,⟨op,c,l,r,args⟩,m+1,h,hb,hm=>by
  simp only[fY] at h hb;have hlen:=qR args;have loop:∀(xs:br) (i k:Nat),args.drop i=xs->xs.length<k->
    Ii (M8 n) (V I) k ((m+1:Nat):Int) (args.length:Int) (i:Int) ⟨op,c,l,r,args⟩=V (iL (m<vK xs)):=by
   intro xs;induction xs with
   |nil=>
    intro i k hd hk;let ⟨this,hq⟩:=eA hd
    cases k with
    |zero=>simp at hk
    |succ k=>simp[Ii,UM,hq,vK]
   |cons x xs ih=>
    intro i k hd hk;let ⟨g1,g2,g3,hq⟩:=dK hd
    cases k with
    |zero=>simp at hk
    |succ k=>
     have hx:x∈args:=bQ g1;have hs:=uy hx;have hw:aW (((m+1:Nat):Int)-1)=(m:Int):=by rw[cU (by omega) (by omega)];omega
     simp only[Ii,UM,hq,aO,aw,bB,g1,ak,hw,anY n x m (by omega) (by omega) (by omega),bT g3 (by omega:args.length<4294967296),
      ih (i+1) k g2 (by simp at hk;omega)]
     by_cases Ef:m<wD x
     ·have:m<vK (x::xs):=by simp only[vK];omega
      simp[Ef,this]
     ·have:(m<vK (x::xs))↔m<vK xs:=by simp only[vK];omega
      simp[Ef,this]
  have cQ:¬(((m+1:Nat):Int)=0):=by omega
  have hl:=loop args 0 n rfl (by omega)
  have e:(m+1<wD ⟨op,c,l,r,args⟩)↔m<vK args:=by simp only[wD];omega
  simp only[M8,UL,sq,cQ,au,ajp];rw[show ((0:Int))=((0:Nat):Int) from rfl,hl];simp[e]
def aol:∀(n:Nat) (p:aj) (v b:Int),fY p<=n->fY p<4294967296->1<=v->v<=9->0<=b->b<=24->
  Ok (Y6 n p v b) λr=>(r.1=M↔((sJ p:Int)<=b/\v+wD p<=9))/\(r.1=M->r.2=b-sJ p)
 |0,⟨_,_,_,_,_⟩,_,_,h,_,_,_,_,_=>by simp[fY] at h
 |n+1,⟨op,c,l,r,args⟩,v,b,h,hb,v1,v2,b1,b2=>by
  simp only[fY] at h hb;have hlen:=qR args;have loop:∀(xs:br) (i k:Nat) (b:Int),args.drop i=xs->xs.length<k->v<=8->0<=b->b<=24->
    Ok (IH (Y6 n) (λb=>V (M,b)) k v args (args.length:Int) (i:Int) b) λr=>(r.1=M↔((rk xs:Int)<=b/\v+vK xs<=8))/\(r.1=M->r.2=b-rk xs):=by
   intro xs;induction xs with
   |nil=>
    intro i k b hd hk hv b1 b2;let ⟨this,hq⟩:=eA hd
    cases k with
    |zero=>simp at hk
    |succ k=>
     simp only[IH,VS,hq,aR,ax,au];exact Ok.pure ⟨by simp[rk,vK];omega,by simp[rk]⟩
   |cons x xs ih=>
    intro i k b hd hk hv b1 b2;let ⟨g1,g2,g3,hq⟩:=dK hd
    cases k with
    |zero=>simp at hk
    |succ k=>
     have hx:x∈args:=bQ g1;have hs:=uy hx;simp only[IH,VS,hq,aO,aw,bB,g1,ak];rw[cU (x:=v+1) (by omega) (by omega)]
     refine Ok.bind (aol n x (v+1) b (by omega) (by omega) (by omega) (by omega) b1 b2) λr ⟨r1,r2⟩=> ?_
     refine Ok.ite (λhr=> ?_) λhr=> ?_
     ·simp at hr;refine Ok.pure ⟨⟨λh=>by simp at h,λ⟨h1,h2⟩=> ?_⟩,λh=>by simp at h⟩
      simp only[rk,vK] at h1 h2;have:=r1.2 ⟨by omega,by omega⟩
      rw[hr] at this;exact absurd this (by simp)
     ·simp at hr;have e:=r2 hr;have q:=r1.1 hr;rw[bT g3 (by omega)]
      have Fs:=amy x;refine (ih (i+1) k r.2 g2 (by simp at hk;omega) hv (by omega) (by omega)).mono λr' ⟨q1,q2⟩=>⟨⟨λh=> ?_,λ⟨h1,h2⟩=> ?_⟩,λh=> ?_⟩
      ·have:=q1.1 h;simp only[rk,vK];omega
      ·simp only[rk,vK] at h1 h2;exact q1.2 ⟨by omega,by omega⟩
      ·have:=q2 h;simp only[rk];omega
  unfold Y6 akh;rw[cU (by omega) (by omega)]
  simp only[sJ,wD];refine Ok.ite (λqF=> ?_) λqF=> ?_
  ·simp at qF;refine Ok.pure ⟨⟨λh=>by simp at h,λh=> ?_⟩,λh=>by simp at h⟩
   omega
  ·simp at qF;refine Ok.ite (λhv=> ?_) λhv=> ?_
   ·simp at hv;refine Ok.pure ⟨⟨λh=>by simp at h,λh=> ?_⟩,λh=>by simp at h⟩
    omega
   ·simp at hv;refine (loop args 0 n (b-1) rfl (by omega) hv (by omega) (by omega)).mono λr' ⟨q1,q2⟩=>⟨⟨λh=> ?_,λ⟨h1,h2⟩=> ?_⟩,λh=> ?_⟩
    ·have:=q1.1 h;omega
    ·exact q1.2 ⟨by omega,by omega⟩
    ·have:=q2 h;omega
def AI:Bool:=ad.aD==0&&(ad.dh==0&&(iL (ad.cG=A')&&M))
def CC:Bool:=bv.aD==0&&(bv.dj==0&&(AI bv.bj&&M))
def kAt:Int:=if 0<=bv.dj/\bv.dj<ge.length/\AI bv.bj=M then (ge[bv.dj.toNat]?).getD 0 else 0
def lS:Int:=
 if bv.aD==3 then (if bv.dj==0&&jt bv.bj then bv.bj.aD else 0) else if bv.aD==2 then kAt Y bv else if bv.aD==1 then kAt ge bv else 0
def Ni:Nj u ge bv=V (kAt ge bv):=by
 unfold Nj kAt;by_cases h1:bv.dj<0
 ·have:¬0<=bv.dj:=by omega
  simp[h1,this]
 ·by_cases h2:(ge.length:Int)<=bv.dj
  ·have:¬bv.dj<ge.length:=by omega
   simp[h1,h2,this]
  ·have e1:0<=bv.dj:=by omega
   have e2:bv.dj<ge.length:=by omega
   have e3:bv.dj.toNat<ge.length:=by omega
   have ji:idx ge bv.dj=V (ge[bv.dj.toNat]):=by simp[idx,e1,e3]
   cases h3:AI bv.bj with
   |false=>
    simp only[AI] at h3;simp only[h1,h2,aR,ax,au,ge_iff_le,h3,gq,aw,and_false,e2,aO,dd]
   |true=>
    simp only[AI] at h3;simp only[h1,h2,aR,ax,au,ge_iff_le,h3,dd,ji,ak,e1,e2,and_self,aw,aO,dd];simp[e3]
def aIC:aid u ge Y bv=V (lS ge Y bv):=by
 unfold aid aiZ lS;rw[Ni,Ni,Dp];simp only[ak];by_cases h3:bv.aD=3
 ·by_cases hi:bv.dj=0<;>cases jt bv.bj<;>simp[h3,hi]
 ·by_cases h2:bv.aD=2
  ·simp[h2]
  ·by_cases h1:bv.aD=1<;>simp[h1,h2,h3]
def aIH (k:mo) (o:bI):aiq u k o=V (lS k.l3 k.nV o):=by
 have h0:∀l,UW u l o=V (kAt l o):=λl=>by rw[<-Ni u l o];rfl
 unfold aiq ajA lS;rw[h0,h0,aoc];simp only[ak];by_cases h3:o.aD=3
 ·by_cases hi:o.dj=0<;>cases jt o.bj<;>simp[h3,hi]
 ·by_cases h2:o.aD=2
  ·simp[h2]
  ·by_cases h1:o.aD=1<;>simp[h1,h2,h3]
def lL (r:bI):Bool:=w==0&&CC bv&&CC r
mutual
def pV (cols params:aP):aj->Bool
 |⟨op,c,l,r,args⟩=>
  if op==1||op==2 then lL c l r&&args.length==0
  else if op==3 then args.length==0&&iL (1<=c)&&iL (c<=6)&&lS cols params l !=0&&lS cols params l==lS cols params r
  else if op==4||op==5 then lL c l r&&rj cols params args
  else if op==6 then args.length==1&&(lL c l r&&rj cols params args)
  else I
def rj (cols params:aP):br->Bool
 | []=>M
 |x::xs=>pV cols params x&&rj cols params xs
end
def anR:YV u bU=V (lL bU.fA bU.cO bU.cj):=by
 unfold YV aja lL CC AI;by_cases h:bU.fA=0
 ·simp only[h,iz,aw,iT];split
  ·rename_i h1;simp only[h1,iT]
  ·rename_i h1;rw[acL] at h1;simp only[h1,gJ]
 ·simp[h]
def anX (cols params:aP):∀(n:Nat) (p:aj),fY p<=n->fY p<4294967296->M7 n cols params p=V (pV cols params p)
 |0,⟨_,_,_,_,_⟩,h,_=>by simp[fY] at h
 |n+1,⟨op,c,l,r,args⟩,h,hb=>by
  simp only[fY] at h hb;have hlen:=qR args;have loop:∀(xs:br) (i k:Nat),args.drop i=xs->xs.length<k->
    EH (M7 n) (V M) k cols params (args.length:Int) (i:Int) ⟨op,c,l,r,args⟩=V (rj cols params xs):=by
   intro xs;induction xs with
   |nil=>
    intro i k hd hk;let ⟨this,hq⟩:=eA hd
    cases k with
    |zero=>simp at hk
    |succ k=>simp[EH,UK,hq,rj]
   |cons x xs ih=>
    intro i k hd hk;let ⟨g1,g2,g3,hq⟩:=dK hd
    cases k with
    |zero=>simp at hk
    |succ k=>
     have hx:x∈args:=bQ g1;have hs:=uy hx;simp only[EH,UK,hq,aO,aw,bB,g1,ak,anX cols params n x (by omega) (by omega),bT g3 (by omega:args.length<4294967296),
      ih (i+1) k g2 (by simp at hk;omega),rj]
     cases pV cols params x<;>simp
  have hl:=loop args 0 n rfl (by omega)
  have hl:EH (M7 n) (V M) n cols params (args.length:Int) 0 ⟨op,c,l,r,args⟩=V (rj cols params args):=hl;have hB:IZ (M7 n) n cols params ⟨op,c,l,r,args⟩=V (lL c l r&&rj cols params args):=by
   unfold IZ ajo;rw[anR,ak,hl];cases lL c l r<;>simp
  unfold M7 ajn;simp only[anR,aIC,ak,hB];unfold pV;have hz:((args.length:Int)==0)=(args.length==0):=by
   rw[nJ];simp
  have ho:((args.length:Int) !=1)= !(args.length==1):=by
   rw[nJ];simp;omega
  simp only[hz,ho];by_cases h1:op=1
  ·cases hp:lL c l r<;>simp[h1]
  ·by_cases h2:op=2
   ·cases hp:lL c l r<;>simp[h2]
   ·by_cases h3:op=3
    ·cases ha:(args.length==0) with
     |false=>simp[h3]
     |true=>
      by_cases c1:1<=c
      ·by_cases c2:c<=6
       ·by_cases c3:lS cols params l=0<;>simp[h3,c1,c2,c3]
       ·simp[h3,c1,c2]
      ·simp[h3,c1]
    ·by_cases h4:op=4
     ·simp[h4]
     ·by_cases h5:op=5
      ·simp[h5]
      ·by_cases h6:op=6
       ·cases ha:(args.length==1)<;>simp[h6]
       ·simp[h1,h2,h3,h4,h5,h6]
def Y5 (k:mo):∀(n:Nat) (p:aj),fY p<=n->fY p<4294967296->xL n k p=V (pV k.l3 k.nV p)
 |0,⟨_,_,_,_,_⟩,h,_=>by simp[fY] at h
 |n+1,⟨op,c,l,r,args⟩,h,hb=>by
  simp only[fY] at h hb;have hlen:=qR args;have aPw:∀(xs:br) (i m:Nat),args.drop i=xs->xs.length<m->
    BM (xL n) (V M) m args (args.length:Int) (i:Int) k=V (rj k.l3 k.nV xs):=by
   intro xs;induction xs with
   |nil=>
    intro i m hd hk;let ⟨this,hq⟩:=eA hd
    cases m with
    |zero=>simp at hk
    |succ m=>simp[BM,VQ,hq,rj]
   |cons x xs ih=>
    intro i m hd hk;let ⟨g1,g2,g3,hq⟩:=dK hd
    cases m with
    |zero=>simp at hk
    |succ m=>
     have hx:x∈args:=bQ g1;have hs:=uy hx;simp only[BM,VQ,hq,aO,aw,bB,g1,ak,Y5 k n x (by omega) (by omega),bT g3 (by omega:args.length<4294967296),
      ih (i+1) m g2 (by simp at hk;omega),rj]
     cases pV k.l3 k.nV x<;>simp
  have aPv:∀(xs:br) (i m:Nat),args.drop i=xs->xs.length<m->
    BL (xL n) (V M) m args (args.length:Int) (i:Int) k=V (rj k.l3 k.nV xs):=by
   intro xs;induction xs with
   |nil=>
    intro i m hd hk;let ⟨this,hq⟩:=eA hd
    cases m with
    |zero=>simp at hk
    |succ m=>simp[BL,VO,hq,rj]
   |cons x xs ih=>
    intro i m hd hk;let ⟨g1,g2,g3,hq⟩:=dK hd
    cases m with
    |zero=>simp at hk
    |succ m=>
     have hx:x∈args:=bQ g1;have hs:=uy hx;simp only[BL,VO,hq,aO,aw,bB,g1,ak,Y5 k n x (by omega) (by omega),bT g3 (by omega:args.length<4294967296),
      ih (i+1) m g2 (by simp at hk;omega),rj]
     cases pV k.l3 k.nV x<;>simp
  have zt:BM (xL n) (V M) n args (args.length:Int) 0 k=V (rj k.l3 k.nV args):=aPw args 0 n rfl (by omega)
  have hl3:BL (xL n) (V M) n args (args.length:Int) 0 k=V (rj k.l3 k.nV args):=aPv args 0 n rfl (by omega)
  have axA:∀X:Z Bool,(if c !=0 then V I else if !(CC l) then V I else if !(CC r) then V I else X)=if lL c l r then X else V I:=by
   intro X;unfold lL;by_cases hc:c=0
   ·cases CC l<;>cases CC r<;>simp[hc]
   ·simp[hc]
  have hB5:I8 (xL n) n k ⟨op,c,l,r,args⟩=V (lL c l r&&rj k.l3 k.nV args):=by
   have:=axA (BL (xL n) (VN (xL n) n) n args (args.length:Int) 0 k);unfold I8;refine G0 this ?_;unfold VN;rw[hl3];cases lL c l r<;>simp
  have hB2:∀b,ND (xL n) n b k ⟨op,c,l,r,args⟩=V (!b&&(lL c l r&&rj k.l3 k.nV args)):=by
   intro b;have:=axA (BM (xL n) (VP (xL n) n) n args (args.length:Int) 0 k);unfold ND;cases b with
   |true=>simp
   |false=>
    simp only[ax,au,gq,iT];refine G0 this ?_;unfold VP;rw[zt];cases lL c l r<;>simp
  unfold xL akg;simp only[aIH,ak,hB5,hB2];unfold pV;have hz:((args.length:Int)==0)=(args.length==0):=by
   rw[nJ];simp
  have hz':((args.length:Int) !=0)= !(args.length==0):=by
   rw[nJ];simp
  have ho:((args.length:Int) !=1)= !(args.length==1):=by
   rw[nJ];simp;omega
  simp only[hz,hz',ho];have he:(args.length==0)=M->rj k.l3 k.nV args=M:=by
   intro h;have:args= []:=by simpa using h
   simp[this,rj]
  by_cases h3:op=3
  ·cases ha:(args.length==0) with
   |false=>simp[h3]
   |true=>
    by_cases c1:1<=c
    ·by_cases c2:c<=6
     ·by_cases c3:lS k.l3 k.nV l=0<;>simp[h3,c1,c2,c3]
     ·simp[h3,c1,c2]
    ·simp[h3,c1]
  ·by_cases h1:op=1
   ·cases ha:(args.length==0) with
    |false=>simp[h1]
    |true=>simp[h1,he ha]
   ·by_cases h2:op=2
    ·cases ha:(args.length==0) with
     |false=>simp[h2]
     |true=>simp[h2,he ha]
    ·by_cases h6:op=6
     ·cases ha:(args.length==1)<;>simp[h6]
     ·by_cases h4:op=4
      ·simp[h4]
      ·by_cases h5:op=5
       ·simp[h5]
       ·simp[h1,h2,h3,h4,h5,h6]
def uI:Int:=
 if !nS ge then 1 else if !nS Y then 1 else if iL (24<sJ bU)||decide (8<wD bU) then 2 else if !pV ge Y bU then 50 else 0
def aoh (h1:ge.length<u) (h2:Y.length<u) (h3:fY bU<=u) (h4:u<4294967296):aiD u ge Y bU=V (uI ge Y bU):=by
 let ⟨r,e,r1,r2,r3⟩:=anZ u bU 0 h3 (by omega) (by omega) (by omega)
 have hd:=anY u bU 8 h3 (by omega) (by omega)
 have hd:M8 u bU 8=V (iL (8<wD bU)):=hd;unfold aiD ajV uI;simp only[aoa u ge (by omega) h1,aoa u Y (by omega) h2,e,hd,anX ge Y u bU h3 (by omega),ak]
 cases nS ge<;>cases nS Y<;>simp
 by_cases hn:24<sJ bU
 ·have:=r3 (by omega)
  simp[hn,this]
 ·have:=r2 (by omega)
  have h24:¬24<r:=by omega
  by_cases h8:8<wD bU<;>cases pV ge Y bU<;>simp[hn,h24,h8]
def aOG (h1:ge.length<u) (h2:Y.length<u) (h3:fY bU<=u) (h4:u<4294967296):F46 u ge Y bU=V (uI ge Y bU):=by
 let ⟨r,e,r1,r2⟩:=aol u bU 1 24 h3 (by omega) (by omega) (by omega) (by omega) (by omega)
 unfold F46 atq uI;simp only[aom u ge (by omega) h1,aom u Y (by omega) h2,e,Y5 ⟨ge,Y⟩ u bU h3 (by omega),ak]
 cases nS ge<;>cases nS Y<;>simp
 cases hr:r.1 with
 |true=>
  have:=r1.1 hr;have e1:¬24<sJ bU:=by omega
  have e2:¬8<wD bU:=by omega
  cases pV ge Y bU<;>simp[e1,e2]
 |false=>
  have:¬((sJ bU:Int)<=24/\(1:Int)+wD bU<=9):=λh=>by rw[r1.2 h] at hr;simp at hr
  have e1:24<sJ bU\/8<wD bU:=by omega
  rcases e1 with h|h<;>simp[h]
def Fm (h:Ck k=M):3<=k/\k<=5:=by simp[Ck] at h;omega
def afO (h:nS l=M) (hx:l[i]? =V x):Ck x=M:=by
 simp only[nS,jJ] at h;exact h x (bQ hx)
def aAb (l:vf):Prop:=∀o∈l,lS ge Y o=ap
def avU (h:cols[i]? =V k):lS cols params ⟨1,(i:Int),⟨0,0,A'⟩⟩=k:=by
 have hi:i<cols.length:=(bO.1 h).1;have:(i:Int)<(cols.length:Int):=by omega
 simp[lS,kAt,AI,this,h]
def avT (h:params[i]? =V k):lS cols params ⟨2,(i:Int),⟨0,0,A'⟩⟩=k:=by
 have hi:i<params.length:=(bO.1 h).1;have:(i:Int)<(params.length:Int):=by omega
 simp[lS,kAt,AI,this,h]
def ayX (hn:300<=u) (cols params:aP) (k:Int) (hk:Ck k=M) (l:vf) (c:aN) (hc:cV c) (hl:l.length<=300) (ho:aAb cols params k l) (z:bI):
  Ok (Nl u k c z l) λr=>cV r.2/\lS cols params r.1=k:=by
 have hkr:=Fm hk;unfold Nl;rw[cU (by omega) (by omega)]
 refine Ok.bind (jT u c ((l.length:Int)+1) hc) λr ⟨hr,r0,r1,_⟩=> ?_
 have r1:=r1 (by omega)
 refine Ok.ite (λh=> ?_) λh=> ?_
 ·simp at h;have dq:r.1.toNat<l.length:=by omega
  have:dX l.length r.1=V r.1.toNat:=by simp[dX,r0,dq]
  rw[this,ak,cg,cZ dq,ak];exact Ok.pure ⟨hr,ho _ (p6 _)⟩
 ·refine Ok.bind (EU u (by omega) r.2 k hr hkr.1 hkr.2) λx ⟨hx,kx,rx⟩=>Ok.pure ⟨hx,?_⟩
  simp[lS,rx,kx]
def M0 (n:Nat) (hn:300<=n) (cols params:aP) (k:Int) (hk:Ck k=M) (hp:params.length<=100) (z:bI):∀(xs:aP) (i m:Nat) (l:vf) (c:aN),params.drop i=xs->xs.length<m->cV c->l.length+xs.length<=300->aAb cols params k l->
  Ok (Il (Nl n) m k params (params.length:Int) (i:Int) c z l) λr=>cV r.2/\lS cols params r.1=k
 | [],i,m+1,l,c,hd,hm,hc,hl,ho=>by
  let ⟨this,hq⟩:=eA hd
  simp only[Il,UQ,hq,aR,ax,au];exact ayX n hn cols params k hk l c hc (by simp at hl;omega) ho z
 |x::xs,i,m+1,l,c,hd,hm,hc,hl,ho=>by
  let ⟨g1,g2,g3,hq⟩:=dK hd
  simp only[Il,UQ,hq,aO,aw,bB,g1,ak];simp at hm hl;refine Ok.ite (λh=> ?_) λh=> ?_
  ·simp at h;subst h;rw[dx _ _ (by simp;omega),ak,bT g3 (by omega)]
   refine M0 n hn cols params x hk hp z xs (i+1) m _ c g2 (by omega) hc (by simp;omega) λo hx=> ?_
   rcases eV.1 hx with hx|hx
   ·exact ho o hx
   ·simp at hx;subst hx;exact avT g1
  ·rw[bT g3 (by omega)]
   exact M0 n hn cols params k hk hp z xs (i+1) m l c g2 (by omega) hc (by omega) ho
 |_,_,0,_,_,_,hm,_,_,_=>by simp at hm
def M1 (n:Nat) (hn:300<=n) (cols params:aP) (k:Int) (hk:Ck k=M) (hp:params.length<=100) (eY:cols.length<=100) (z:bI):∀(xs:aP) (i m:Nat) (l:vf) (c:aN),cols.drop i=xs->xs.length<m->cV c->l.length+xs.length<=100->aAb cols params k l->
  Ok (Im (UP n) m params k cols (cols.length:Int) (i:Int) c z l) λr=>cV r.2/\lS cols params r.1=k
 | [],i,m+1,l,c,hd,hm,hc,hl,ho=>by
  let ⟨this,hq⟩:=eA hd
  simp only[Im,UR,hq,aR,ax,au,UP];exact M0 n hn cols params k hk hp z params 0 n l c rfl (by omega) hc (by simp at hl;omega) ho
 |x::xs,i,m+1,l,c,hd,hm,hc,hl,ho=>by
  let ⟨g1,g2,g3,hq⟩:=dK hd
  simp only[Im,UR,hq,aO,aw,bB,g1,ak];simp at hm hl;refine Ok.ite (λh=> ?_) λh=> ?_
  ·simp at h;subst h;rw[dx _ _ (by simp;omega),ak,bT g3 (by omega)]
   refine M1 n hn cols params x hk hp eY z xs (i+1) m _ c g2 (by omega) hc (by simp;omega) λo hx=> ?_
   rcases eV.1 hx with hx|hx
   ·exact ho o hx
   ·simp at hx;subst hx;exact avU g1
  ·rw[bT g3 (by omega)]
   exact M1 n hn cols params k hk hp eY z xs (i+1) m l c g2 (by omega) hc (by omega) ho
 |_,_,0,_,_,_,hm,_,_,_=>by simp at hm
def aob (hn:300<=u) (c:aN) (cols params:aP) (k:Int) (hk:Ck k=M) (hc:cV c) (eY:cols.length<=100) (hp:params.length<=100):Ok (aso u c cols params k) λr=>cV r.2/\lS cols params r.1=k:=
 M1 u hn cols params k hk hp eY _ cols 0 u [] c rfl (by omega) hc (by simp;omega) (λo h=>by simp at h)
def nB:Nat->Nat
 |0=>1
 |d+1=>1+3*nB d
def sB:Nat->Nat
 |0=>2
 |d+1=>2+3*(1+sB d)
def aJQ:1<=nB u:=by cases u<;>simp[nB]
def aJE:2<=sB u:=by cases u<;>simp[sB]
structure vP (cols params:aP) (d:Nat) (r:aj×aN):Prop where
 case:cV r.2
 val:pV cols params r.1=M
 dp:wD r.1<=d+1
 nd:sJ r.1<=nB d
 sz:fY r.1<=sB d
def afN {op c:Int} {l r:bI} {x:aN} (hx:cV x) (hv:pV cols params ⟨op,c,l,r,[]⟩=M):vP cols params d (⟨op,c,l,r,[]⟩,x):=
 ⟨hx,hv,by simp[wD,vK],by simp[sJ,rk];exact aJQ d,by simp[fY,lJ];exact aJE d⟩
def zo:bI:=⟨0,0,⟨0,0,A'⟩⟩
def QD:lL 0 zo zo=M:=by decide
def aak (cols params:aP) (d:Nat) (x:aN) (hx:cV x) (c:Int) (l r:bI) (h1:1<=c) (h2:c<=6) (h3:lS cols params l≠0) (h4:lS cols params l=lS cols params r) (z:aj):
  Ok (Ny dQ dE x z ⟨3,c,l,r,[]⟩) (vP cols params d):=by
 unfold Ny;refine Ok.bind (sX dE x 6 hx) λb hb=> ?_
 refine Ok.ite (λ_=>Ok.pure (afN hb ?_)) λ_=>Ok.pure (afN hb ?_)
 ·simp[pV,h1,h2,<-h4,h3]
 ·simp[pV,h1,h2,<-h4,h3]
def aaj (hn:300<=dE) (cols params:aP) (eY:cols.length<=100) (hp:params.length<=100) (d:Nat) (k:Int) (hk:Ck k=M) (x:aN) (hx:cV x) (z:aj):
  Ok (Nx dQ dE cols params k x z) (vP cols params d):=by
 have hkr:=Fm hk;unfold Nx;refine Ok.bind (jT dE x 6 hx) λr ⟨hr,r0,r1,_⟩=> ?_
 have r1:=r1 (by omega)
 rw[cU (by omega) (by omega)]
 refine Ok.bind (aob dE hn r.2 cols params k hk hr eY hp) λl ⟨hl,kl⟩=> ?_
 refine Ok.bind (EU dE (by omega) l.2 k hl hkr.1 hkr.2) λv ⟨hv,kv,rv⟩=> ?_
 refine Ok.bind (sX dE v.2 3 hv) λb hb=> ?_
 refine Ok.ite (λ_=> ?_) λ_=> ?_
 ·refine Ok.bind (aob dE hn b.2 cols params k hk hb eY hp) λo ⟨ho,ko⟩=> ?_
  exact aak dQ dE cols params d o.2 ho _ _ _ (by omega) (by omega) (by omega) (by omega) _
 ·refine aak dQ dE cols params d b.2 hb _ _ _ (by omega) (by omega) (by omega) ?_ _
  simp[lS,rv,kv] at kl ⊢;exact kl
def aai (s:aN->aP->aP->Int->Z (aj×aN)) (cols params:aP) (d:Nat) (hd:d<=1000)
  (hs:∀c,cV c->Ok (s c cols params (d:Int)) (vP cols params d)) (n0:Nat):∀(j n:Nat) (op:Int) (args:br) (c:aN) (z:aj) (a0:br),cV c->j<n->args.length+j<=3->rj cols params args=M->vK args<=d+1->rk args<=args.length*nB d->lJ args<=args.length*(1+sB d)->(op=4\/op=5)->
  Ok (IE s (VB s n0) n cols params ((d+1:Nat):Int) ((j:Int)-1) c z ⟨op,0,zo,zo,a0⟩ args) (vP cols params (d+1))
 |0,n+1,op,args,c,z,a0,hc,_,hj,h1,h2,h3,h4,gu=>by
  have:((0:Nat):Int)-1<0:=by omega
  simp only[IE,VC,VB,this,aO,dd,ax,au];have e3:args.length*nB d<=3*nB d:=js _ (by omega)
  have e4:args.length*(1+sB d)<=3*(1+sB d):=js _ (by omega)
  refine Ok.pure ⟨hc,?_,by simp only[wD];omega,by simp only[sJ,nB];omega,by simp only[fY,sB];omega⟩
  rcases gu with rfl|rfl<;>simp[pV,QD,h1]
 |j+1,n+1,op,args,c,z,a0,hc,hn,hj,h1,h2,h3,h4,gu=>by
  have:¬(((j+1:Nat):Int)-1<0):=by omega
  simp only[IE,VC,this,aR,gq,aw];have hw:aW (((d+1:Nat):Int)-1)=(d:Int):=by rw[cU (by omega) (by omega)];omega
  have hw2:aW (((j+1:Nat):Int)-1-1)=(j:Int)-1:=by rw[cU (by omega) (by omega)];omega
  rw[hw,hw2];refine Ok.bind (hs c hc) λx hx=> ?_
  rw[dx _ _ (by simp;omega),ak]
  have key:∀(l:br) (y:aj),rj cols params (l++ [y])=(rj cols params l&&pV cols params y)/\vK (l++ [y])=max (vK l) (wD y)/\rk (l++ [y])=rk l+sJ y/\lJ (l++ [y])=lJ l+(1+fY y):=by
   intro l y;induction l with
   |nil=>simp[rj,vK,rk,lJ]
   |cons a l ih=>
    let ⟨i1,i2,i3,i4⟩:=ih;simp only[wa,rj,vK,rk,lJ,i1,i2,i3,i4];refine ⟨by rw[Bool.and_assoc],by omega,by omega,by omega⟩
  let ⟨k1,k2,k3,k4⟩:=key args x.1;refine aai s cols params d hd hs n0 j n op _ x.2 _ _ hx.case (by omega) (by simp;omega) (by rw[k1,h1,hx.val];rfl) (by rw[k2];have:=hx.dp;omega) ?_ ?_ gu
  ·rw[k3,gy];have:=hx.nd;simp only[iu,C3,fW];omega
  ·rw[k4,gy];have:=hx.sz;simp only[iu,C3,fW];omega
 |_,0,_,_,_,_,_,_,hn,_,_,_,_,_,_=>by simp at hn
def vP.up {r:aj×aN} {e:Nat} (h:vP cols params d r) (hd:d<=e):vP cols params e r:=by
 have hn:∀k,nB d<=nB (d+k):=by
  intro k;induction k with
  |zero=>simp
  |succ k ih=>rw[<-gD];simp only[nB];omega
 have hs:∀k,sB d<=sB (d+k):=by
  intro k;induction k with
  |zero=>simp
  |succ k ih=>rw[<-gD];simp only[sB];omega
 have e1:d+(e-d)=e:=by omega
 have a:=hn (e-d);have b:=hs (e-d);rw[e1] at a b;exact ⟨h.case,h.val,by have:=h.dp;omega,by have:=h.nd;omega,by have:=h.sz;omega⟩
def Y3 (cols params:aP) (hk:nS cols=M) (eY:cols.length<=100) (hp:params.length<=100):∀(d n:Nat) (c:aN),cV c->300+d<n->d<=100->Ok (EX n c cols params (d:Int)) (vP cols params d)
 |d,0,c,hc,hn,_=>by omega
 |d,n+1,c,hc,hn,hd=>by
  have leaf:∀(op:Int) (x:aN) (z:aj),cV x->Ok (zj (EX n) n cols params (d:Int) op M x z) (vP cols params d):=by
   intro op x z hx;unfold zj;simp only[aw];refine Ok.ite (λh=> ?_) λh=> ?_
   ·simp at h;refine Ok.bind (jT n x (cols.length:Int) hx) λr ⟨hr,r0,r1,_⟩=> ?_
    have r1:=r1 (by omega)
    have dq:r.1.toNat<cols.length:=by omega
    have ji:idx cols r.1=V (cols[r.1.toNat]):=by simp[idx,r0,dq]
    rw[ji,ak];exact aaj (EX n) n (by omega) cols params eY hp d _ (afO hk (i:=r.1.toNat) (by simp[dq])) r.2 hr _
   ·exact aaj (EX n) n (by omega) cols params eY hp d 4 rfl x hx _
  have inner:∀(op:Int) (x:aN) (z:aj),6<=op->op<=8->cV x->Ok (zj (EX n) n cols params (d:Int) op (iL ((d:Int)<1)) x z) (vP cols params d):=by
   intro op x z o1 o2 hx;cases d with
   |zero=>simpa using leaf op x z hx
   |succ d=>
    have Fs:¬(((d+1:Nat):Int)<1):=by omega
    have hw:aW (((d+1:Nat):Int)-1)=(d:Int):=by rw[cU (by omega) (by omega)];omega
    have ih:=λc hc=>Y3 cols params hk eY hp d n c hc (by omega) (by omega)
    unfold zj;simp only[Fs,aR,ax,au];refine Ok.ite (λh6=> ?_) λh6=> ?_
    ·rw[hw];refine Ok.bind (ih x hx) λr hr=>Ok.pure ⟨hr.case,?_,?_,?_,?_⟩
     ·have:lL 0 ⟨0,0,⟨0,0,A'⟩⟩ ⟨0,0,⟨0,0,A'⟩⟩=M:=QD;simp[pV,this,rj,hr.val]
     ·simp only[wD,vK];have:=hr.dp;omega
     ·simp only[sJ,rk,nB];have:=hr.nd;omega
     ·simp only[fY,lJ,sB];have:=hr.sz;omega
    ·simp at h6;refine Ok.bind (jT n x 3 hx) λr ⟨hr,r0,r1,_⟩=> ?_
     have r1:=r1 (by omega)
     rw[cU (x:=4+op) (by omega) (by omega),cU (by omega) (by omega)]
     have e:r.1=((r.1.toNat+1:Nat):Int)-1:=by omega
     rw[e];exact aai (EX n) cols params d (by omega) ih n (r.1.toNat+1) n (4+op-7) [] r.2 _ _ hr (by omega) (by simp;omega) rfl (by simp[vK]) (by simp[rk]) (by simp[lJ]) (by omega)
  unfold EX ajW;refine Ok.bind (jT n c 9 hc) λr ⟨hr,r0,r1,_⟩=> ?_
  have r1:=r1 (by omega)
  refine Ok.ite (λh0=> ?_) λh0=> ?_
  ·simp at h0;refine Ok.bind (sX n r.2 2 hr) λb hb=> ?_
   refine Ok.ite (λ_=> ?_) λ_=> ?_
   ·refine Ok.bind (jT n b.2 2 hb) λq ⟨hq,q0,q1,_⟩=> ?_
    have q1:=q1 (by omega)
    rw[cU (by omega) (by omega)]
    refine Ok.pure (afN hq ?_);have hz:lL 0 ⟨0,0,⟨0,0,A'⟩⟩ ⟨0,0,⟨0,0,A'⟩⟩=M:=QD;have:q.1=0\/q.1=1:=by omega
    rcases this with e|e<;>simp[pV,e,hz]
   ·refine Ok.ite (λ_=>leaf _ _ _ hb) λh6=> ?_
    simp at h6;omega
  ·refine Ok.ite (λ_=>leaf _ _ _ hr) λh6=> ?_
   simp at h6;exact inner r.1 r.2 _ h6 (by omega) hr
def aOB (hk:nS ge=M) (jO:nS Y=M) (eY:ge.length<=100) (hp:Y.length<=100) (d n:Nat) (c:aN) (hc:cV c) (hn:1000<=n) (fw:n<4294967296) (Ef:1<=d) (hd:d<=3):
  Ok (F92 n c ge Y (d:Int)) λr=>cV r.2/\uI ge Y r.1=0/\fY r.1<=119:=by
 unfold F92 asN;refine Ok.bind (Y3 ge Y hk eY hp d n c hc (by omega) (by omega)) λr hr=> ?_
 have hs:fY r.1<=119:=(hr.up hd).sz;rw[aoh n ge Y r.1 (by omega) (by omega) (by omega) fw,ak]
 refine Ok.ite (λh2=> ?_) λh2=> ?_
 ·refine Ok.bind (Y3 ge Y hk eY hp 1 n r.2 hr.case (by omega) (by omega)) λq hq=>Ok.pure ⟨hq.case,?_,(hq.up (by omega:1<=3)).sz⟩
  have h1:=hq.nd;have h2:=hq.dp;have e1:¬24<sJ q.1:=by simp[nB] at h1;omega
  have e2:¬8<wD q.1:=by omega
  simp[uI,hk,jO,e1,e2,hq.val]
 ·refine Ok.pure ⟨hr.case,?_,hs⟩;have:uI ge Y r.1=2\/uI ge Y r.1=0:=by
   unfold uI;cases iL (24<sJ r.1)||decide (8<wD r.1)<;>simp[hk,jO,hr.val]
  simp at h2;exact this.resolve_left h2
section
def YI (a b:List UInt8):N' (cH::a) (d3::b)=(iL (cH<d3)||(cH==d3&&N' a b)):=by simp[N']
def FM:∀{a b:List UInt8},N' a b=M->N' b a=I
 | [],[],h=>by simp[N'] at h
 | [],_::_,_=>by simp[N']
 |_::_,[],h=>by simp[N'] at h
 |x::a,y::b,h=>by
  rw[YI] at h ⊢;by_cases h1:x<y
  ·have h2:¬y<x:=λh2=>zw x (UInt8.lt_trans h1 h2)
   have h3:¬y=x:=λe=>by subst e;exact zw _ h1
   simp[h2,h3]
  ·by_cases h3:x=y
   ·subst h3;simp[zw] at h ⊢;exact FM h
   ·simp[h1,h3] at h
def FK:∀{a b:List UInt8},N' a b=I->a≠b->N' b a=M
 | [],[],_,h=>absurd rfl h
 | [],_::_,h,_=>by simp[N'] at h
 |_::_,[],_,_=>by simp[N']
 |x::a,y::b,h,cQ=>by
  rw[YI] at h ⊢;by_cases h1:x<y
  ·simp[h1] at h
  ·by_cases h2:y<x
   ·simp[h2]
   ·have:x=y:=UInt8.le_antisymm (NR.1 h2) (NR.1 h1);subst this;simp[zw] at h ⊢;exact FK h (λe=>cQ (by rw[e]))
def acQ (a b:aS):lY b a= - lY a b:=by
 unfold lY;by_cases h1:a.aD<b.aD
 ·have:¬b.aD<a.aD:=by omega
  simp[h1,this]
 ·by_cases h2:b.aD<a.aD
  ·simp[h1,h2]
  ·by_cases h3:a.dh<b.dh
   ·have:¬b.dh<a.dh:=by omega
    simp[h1,h2,h3,this]
   ·by_cases h4:b.dh<a.dh
    ·simp[h1,h2,h3,h4]
    ·cases h5:N' a.cG.toList b.cG.toList with
     |true=>
      have h6:=FM h5;have h7:¬b.cG=a.cG:=λe=>by rw[e,qo] at h5;cases h5
      simp[h1,h2,h3,h4,h6,h7]
     |false=>
      by_cases h6:a.cG=b.cG
      ·simp[h1,h2,h3,h4,h6,qo]
      ·have h7:N' b.cG.toList a.cG.toList=M:=FK h5 (λe=>h6 (Cc (by rw[yn,yn] at e;exact e)))
       simp[h1,h2,h3,h4,h6,h7]
def aoA:lY ad ao= -1\/lY ad ao=0\/lY ad ao=1:=by
 unfold lY;repeat' split
 all_goals simp
def dW:bt->bt->Int
 | [],[]=>0
 | [],_::_=> -1
 |_::_,[]=>1
 |a::x,b::y=>if lY a b=0 then dW x y else lY a b
def xu:∀(x y:bt),dW y x= - dW x y
 | [],[]=>rfl
 | [],_::_=>rfl
 |_::_,[]=>rfl
 |a::x,b::y=>by
  have h:=acQ a b;simp only[dW];rw[xu x y,h];by_cases h1:lY a b=0
  ·simp[h1]
  ·have:¬ -lY a b=0:=by omega
   simp[h1,this]
def Jo:∀(x y:bt),dW x y= -1\/dW x y=0\/dW x y=1
 | [],[]=>by simp[dW]
 | [],_::_=>by simp[dW]
 |_::_,[]=>by simp[dW]
 |a::x,b::y=>by
  simp only[dW];split
  ·exact Jo x y
  ·exact aoA a b
def te:dW E E=0:=by have:=xu E E;omega
def anI (n0:Nat) (a b:bt) (ha:a.length<4294967296):∀(x:bt) (i m:Nat),a.drop i=x->i<=a.length->i<=b.length->x.length<m->ES (NA n0) m a b a (a.length:Int) (i:Int)=V (dW (a.drop i) (b.drop i))
 | [],i,m+1,hd,h1,h2,hm=>by
  let ⟨hl,hq⟩:=eA hd
  simp only[ES,VF,NA,hq,aR,ax,au];rw[hd];cases hb:b.drop i with
  |nil=>
   have:b.length<=i:=by simpa using hb
   have e1:¬(a.length:Int)<b.length:=by omega
   simp[e1,dW]
  |cons y l=>
   let ⟨_,_,g3⟩:=qg hb;have e1:(a.length:Int)<b.length:=by omega
   simp[e1,dW]
 |x::xs,i,m+1,hd,h1,h2,hm=>by
  let ⟨g1,g2,g3,hq⟩:=dK hd
  simp only[ES,VF,hq,aO,aw,bB,g1,ak];cases hb:b.drop i with
  |nil=>
   have hl:b.length<=i:=by simpa using hb
   have e0:¬(i:Int)<b.length:=by omega
   simp[e0,hd,dW]
  |cons y l=>
   let ⟨k1,k2,k3⟩:=qg hb;have e0:(i:Int)<b.length:=by omega
   simp only[e0,aO,dd,ax,au,k1,ak,aIV];rw[hd,bT g3 ha];simp only[dW];by_cases h:lY x y=0
   ·simp only[h,ia,ax,au,aw];rw[anI n0 a b ha xs (i+1) m g2 (by omega) (by omega) (by simp at hm;omega),g2,k2]
   ·have:(lY x y !=0)=M:=by simpa using h
    simp only[this,h,aw,au]
 |_,_,0,_,_,_,hm=>by simp at hm
def M4 (ha:E.length<4294967296) (hn:E.length<u):F67 u E W=V (dW E W):=by
 have:=anI u E W ha E 0 u rfl (by omega) (by omega) hn
 simp only[ph] at this;show (ES (NA u) u E W E (E.length:Int) 0).bind (λx=>V x)=_
 rw[show (0:Int)=((0:Nat):Int) from rfl,this];rfl
def eh:aP:=bS.ag.map (·.aD)
def D2 {xs:List J} {i:Int} {x:J} (h:idx xs i=V x):0<=i/\i.toNat<xs.length/\xs[i.toNat]? =V x:=by
 unfold idx at h;split at h
 ·exact ⟨by assumption,(bO.1 h).1,h⟩
 ·cases h
def ayx (n0:Nat) (cs:cY) (hl:cs.length<=1000):∀(x:cY) (i m:Nat) (out:aP),cs.drop i=x->x.length<m->out=(cs.take i).map (·.aD)->Ph (abN n0) m cs (cs.length:Int) (i:Int) out=V (cs.map (·.aD))
 | [],i,m+1,out,hd,hm,ho=>by
  let ⟨hl,hq⟩:=eA hd
  simp only[Ph,abO,abN,hq,aR,ax,au];rw[ho,jz hl]
 |x::xs,i,m+1,out,hd,hm,ho=>by
  let ⟨g1,g2,g3,hq⟩:=dK hd
  simp only[Ph,abO,hq,aO,aw,bB,g1,ak];rw[dx _ _ (by rw[ho];simp;omega),ak,bT g3 (by omega)]
  refine ayx n0 cs hl xs (i+1) m _ g2 (by simp at hm;omega) ?_
  rw[ho,G2,g1];simp
 |_,_,0,_,_,hm,_=>by simp at hm
def ayy (n0:Nat) (cs:cY) (hl:cs.length<=1000):∀(x:cY) (i m:Nat) (out:aP),cs.drop i=x->x.length<m->out=(cs.take i).map (·.aD)->Pj (abQ n0) m cs (cs.length:Int) (i:Int) out=V (cs.map (·.aD))
 | [],i,m+1,out,hd,hm,ho=>by
  let ⟨hl,hq⟩:=eA hd
  simp only[Pj,abR,abQ,hq,aR,ax,au];rw[ho,jz hl]
 |x::xs,i,m+1,out,hd,hm,ho=>by
  let ⟨g1,g2,g3,hq⟩:=dK hd
  simp only[Pj,abR,hq,aO,aw,bB,g1,ak];rw[dx _ _ (by rw[ho];simp;omega),ak,bT g3 (by omega)]
  refine ayy n0 cs hl xs (i+1) m _ g2 (by simp at hm;omega) ?_
  rw[ho,G2,g1];simp
 |_,_,0,_,_,hm,_=>by simp at hm
section
variable {s:ae} {t:Int} {T:ai} {n:Nat}
def aHT {xs:List J} {i:Int} (h0:0<=i) (h:¬i<(xs.length:Int)):idx xs i=G:=by
 unfold idx;rw[aG h0,qP (by omega)]
def aon (hT:idx s.ah t=V T):Ku n s t=V M:=by
 let ⟨h0,h1,_⟩:=D2 hT;have e1:¬t<0:=by omega
 have e2:t<(s.ah.length:Int):=by omega
 simp[Ku,akk,e1,e2]
def TS (hT:idx s.ah t=V T) (hl:T.ag.length<=1000) (hn:1000<n):F50 n s t=V (eh T):=by
 let ⟨h0,h1,_⟩:=D2 hT;have e1:¬t<0:=by omega
 have e2:t<(s.ah.length:Int):=by omega
 simp only[F50,atp,e1,e2,aR,aO,dd,ax,au,hT,ak];exact ayx n T.ag hl T.ag 0 n [] rfl (by omega) rfl
def aOH (hT:idx s.ah t=V T) (hl:T.ag.length<=1000) (hn:1000<n):F45 n s t=V (eh T):=by
 simp only[F45,atr,aon hT,ak,dd,ax,au,hT];have:tu (T.ag.length:Int) (0:Int)=V (List.replicate T.ag.length 0):=by simp[tu];omega
 rw[this,ak];exact ayy n T.ag hl T.ag 0 n [] rfl (by omega) rfl
structure km (T:ai):Prop where
 uL:1<=T.aH
 jF:T.aH<=(T.ag.length:Int)
 cols:T.ag.length<=8
 ks:nS (eh T)=M
def pF:(eh bS).length=bS.ag.length:=by simp[eh]
def axS {xs:List J} (h0:0<=k) (h:k.toNat<=xs.length):cut xs G (V k)=V (xs.take k.toNat):=by
 obtain ⟨m,rfl⟩:∃m:Nat,k=m:=⟨k.toNat,by omega⟩
 simp at h;simp[cut,h]
end
end
def Cj:Bool:=iL (97<=cH.toNat)&&iL (cH.toNat<=122)
def Fc:Bool:=Cj cH||((iL (48<=cH.toNat)&&iL (cH.toNat<=57))||decide (cH.toNat=95))
def SJ:List UInt8->Bool
 | []=>I
 |b::l=>Cj b&&l.all Fc
def AJ:Bool:=iL (bx.size<=32)&&SJ bx.data.toList
def xd:bx.data.toList.length=bx.size:=by simp
def aKm {s:U} {b:UInt8} (h:s.data.toList[p]? =V b):∃hp:p<s.size,s[p]'hp=b:=by
 have h1:=(bO.1 h);let ⟨q1,q2⟩:=h1;have hp:p<s.size:=by simpa using q1
 have q3:s.data[p]=b:=by simpa using q2
 exact ⟨hp,q3⟩
def aiM (k:U->Nat->Z Bool) (m:Nat) (s:U) (p:Nat) (q:Nat) (c:Int) (l:Bool):TV k m (p:Int) c l s q=if l=M then k s q else if p=0 then V I else if c=95\/(48<=c/\c<=57) then k s q else V I:=by
 unfold TV;cases l with
 |true=>simp
 |false=>
  by_cases hp:p=0
  ·simp[hp]
  ·have Bt:¬(p:Int)=0:=by omega
   by_cases h1:c=95
   ·simp[hp,h1]
   ·by_cases h2:c<48
    ·have:¬48<=c:=by omega
     simp[hp,h1,h2,this]
    ·by_cases h3:57<c
     ·have:¬c<=57:=by omega
      simp[hp,h1,h2,h3,this]
     ·have HO:48<=c:=by omega
      have Mq:c<=57:=by omega
      simp[hp,h1,h2,h3,HO,Mq]
def ahs (hb:cT.data.toList[cW]? =V d3):CS (Ky u) (cz+1) cT cW=if Cj d3=M then CS (Ky u) cz cT (cW+1) else if cW=0 then V I else if Fc d3=M then CS (Ky u) cz cT (cW+1) else V I:=by
 let ⟨hp,he⟩:=aKm hb;simp only[CS,abi,hp,aO,aw];rw[aiM,aiM];by_cases ha:d3.toNat<128
 ·have hd:=decode_ascii cT cW hp (by rw[he];exact ha)
  rw[he] at hd;rw[hd];simp only[Cj,Fc];by_cases h1:97<=d3.toNat
  ·have u9:¬((d3.toNat:Int)<97):=by omega
   by_cases h2:d3.toNat<=122
   ·have HO:¬(122<(d3.toNat:Int)):=by omega
    simp[h1,u9,h2,HO]
   ·have HO:(122<(d3.toNat:Int)):=by omega
    have e1:¬(d3.toNat:Int)=95:=by omega
    have e2:¬(d3.toNat:Int)<=57:=by omega
    have e3:¬d3.toNat<=57:=by omega
    have e4:¬d3.toNat=95:=by omega
    simp[h1,u9,h2,HO,e1,e2,e3,e4]
  ·have u9:((d3.toNat:Int)<97):=by omega
   by_cases e1:d3.toNat=95
   ·simp[h1,u9,e1]
   ·have e1':¬(d3.toNat:Int)=95:=by omega
    by_cases e2:48<=d3.toNat
    ·have ME:48<=(d3.toNat:Int):=by omega
     by_cases e3:d3.toNat<=57
     ·have e3':(d3.toNat:Int)<=57:=by omega
      simp[h1,u9,e1,e1',e2,ME,e3,e3']
     ·have e3':¬(d3.toNat:Int)<=57:=by omega
      simp[h1,u9,e1,e1',e2,ME,e3,e3']
    ·have ME:¬48<=(d3.toNat:Int):=by omega
     simp[h1,u9,e1,e1',e2,ME]
 ·have hd:=(decode_high cT cW hp (by rw[he];omega)).1
  generalize (Utf8.decode cT cW)=d at hd;let ⟨c,q⟩:=d;simp only at hd;have a1:¬((c:Int)<97):=by omega
  have a2:122<(c:Int):=by omega
  have a3:¬((c:Int)=95\/(48<=(c:Int)/\(c:Int)<=57)):=by omega
  have b1:Cj d3=I:=by simp[Cj];omega
  have b2:Fc d3=I:=by simp[Fc,b1];omega
  simp[a1,a2,a3,b1,b2]
def ayu (n0:Nat) (s:U):∀(x:List UInt8) (p m:Nat),s.data.toList.drop p=x->0<p->x.length<m->CS (Ky n0) m s p=V (x.all Fc)
 | [],p,m+1,hd,hp,hm=>by
  have:s.data.toList.length<=p:=by simpa using hd
  have hq:¬p<s.size:=by rw[xd] at this;omega
  simp only[CS,abi,Ky,hq,aR,ax,au];rfl
 |b::x,p,m+1,hd,hp,hm=>by
  let ⟨g1,g2,g3⟩:=qg hd;have ih:=ayu n0 s x (p+1) m g2 (by omega) (by simp at hm;omega)
  rw[ahs n0 m s p b g1,aC (by omega:¬p=0),ih]
  simp only[qQ];have:Cj b=M->Fc b=M:=λh=>by simp[Fc,h]
  cases hl:Cj b with
  |true=>simp[this hl]
  |false=>cases hc:Fc b<;>simp
 |_,_,0,_,_,hm=>by simp at hm
def ayI (hn:100<u):F99 u bx=V (AJ bx):=by
 unfold F99 asI AJ;by_cases h0:bx.size=0
 ·have:bx.data.toList= []:=by
   have:=xd bx;exact v8 (by omega)
  simp[h0,this,SJ]
 ·have e1:¬(bx.size:Int)<1:=by omega
  by_cases h1:bx.size<=32
  ·have e2:¬32<(bx.size:Int):=by omega
   simp only[e1,e2,aR,ax,au,h1,aO,iT];obtain ⟨m,rfl⟩:∃m,u=m+1:=⟨u-1,by omega⟩
   cases hx:bx.data.toList with
   |nil=>have:=xd bx;rw[hx] at this;simp at this;omega
   |cons b l=>
    have hl:l.length<32:=by have:=xd bx;rw[hx] at this;simp at this;omega
    rw[ahs (m+1) m bx 0 b (by rw[hx];rfl)]
    simp only[aw,SJ];cases hb:Cj b with
    |false=>simp
    |true=>
     simp only[aw,iT];exact ayu (m+1) bx l 1 m (by rw[hx];rfl) (by omega) (by omega)
  ·have e2:32<(bx.size:Int):=by omega
   simp only[e1,e2,aR,aO,ax,au,aw,h1,gJ]
def ayC (hs:cT.size<4294967296) (b:UInt8) (hb:cT.data.toList[cW]? =V b):BJ (IY u) (cz+1) cT (cW:Int)=if Fc b=M then BJ (IY u) cz cT ((cW+1:Nat):Int) else V I:=by
 have hp:cW<cT.size:=by have:=(bO.1 hb).1;rwa[xd] at this
 have hq:(cW:Int)<(cT.size:Int):=by omega
 have hi:Gy cT (cW:Int)=V b:=by simp[Gy];simpa using hb
 simp only[BJ,UJ,zi,hq,aO,aw,hi,ak,bT hp hs];simp only[Fc,Cj];by_cases h1:97<=b.toNat
 ·have u9:¬((b.toNat:Int)<97):=by omega
  by_cases h2:b.toNat<=122
  ·have HO:¬(122<(b.toNat:Int)):=by omega
   simp[h1,u9,h2,HO]
  ·have HO:(122<(b.toNat:Int)):=by omega
   have e1:¬(b.toNat:Int)=95:=by omega
   have e2:¬(b.toNat:Int)<48:=by omega
   have e5:57<(b.toNat:Int):=by omega
   have e3:¬b.toNat<=57:=by omega
   have e4:¬b.toNat=95:=by omega
   simp[h1,u9,h2,HO,e1,e2,e3,e4,e5]
 ·have u9:((b.toNat:Int)<97):=by omega
  by_cases e2:48<=b.toNat
  ·have ME:¬(b.toNat:Int)<48:=by omega
   by_cases e3:b.toNat<=57
   ·have e3':¬57<(b.toNat:Int):=by omega
    simp[h1,u9,e2,ME,e3,e3']
   ·have e3':57<(b.toNat:Int):=by omega
    by_cases e1:b.toNat=95
    ·simp[e1]
    ·have e1':¬(b.toNat:Int)=95:=by omega
     simp[h1,u9,e2,ME,e3,e3',e1,e1']
  ·have ME:(b.toNat:Int)<48:=by omega
   have e1:¬b.toNat=95:=by omega
   have e1':¬(b.toNat:Int)=95:=by omega
   simp[h1,u9,e2,ME,e1,e1']
def anF (n0:Nat) (s:U) (hs:s.size<4294967296):∀(x:List UInt8) (p m:Nat),s.data.toList.drop p=x->x.length<m->BJ (IY n0) m s (p:Int)=V (x.all Fc)
 | [],p,m+1,hd,hm=>by
  have:s.data.toList.length<=p:=by simpa using hd
  have hq:¬(p:Int)<(s.size:Int):=by rw[xd] at this;omega
  simp only[BJ,UJ,IY,hq,aR,ax,au];rfl
 |b::x,p,m+1,hd,hm=>by
  let ⟨g1,g2,g3⟩:=qg hd;have ih:=anF n0 s hs x (p+1) m g2 (by simp at hm;omega)
  rw[ayC n0 m s p hs b g1,ih];simp only[qQ];cases hc:Fc b<;>simp
 |_,_,0,_,hm=>by simp at hm
def anW (hn:100<u):aik u bx=V (AJ bx):=by
 unfold aik ajm AJ;by_cases h0:bx.size=0
 ·have:bx.data.toList= []:=by
   have:=xd bx;exact v8 (by omega)
  simp[h0,this,SJ]
 ·have e1:((bx.size:Int)==0)=I:=by rw[beq_eq_false_iff_ne];omega
  by_cases h1:bx.size<=32
  ·have e2:¬32<(bx.size:Int):=by omega
   simp only[e1,e2,aR,ax,au,h1,aO,iT];cases hx:bx.data.toList with
   |nil=>have:=xd bx;rw[hx] at this;simp at this;omega
   |cons b l=>
    have hi:Gy bx 0=V b:=by simp only[Gy,hx];rfl
    have hl:l.length<32:=by have:=xd bx;rw[hx] at this;simp at this;omega
    simp only[hi,ak,SJ];have:=anF u bx (by omega) bx.data.toList 0 u rfl (by rw[xd];omega)
    rw[show ((0:Nat):Int)=0 from rfl,hx,qQ] at this;rw[this];by_cases h3:97<=b.toNat
    ·have Mq:¬((b.toNat:Int)<97):=by omega
     by_cases h4:b.toNat<=122
     ·have h4':¬(122<(b.toNat:Int)):=by omega
      have hb:Cj b=M:=by simp[Cj,h3,h4]
      simp[Mq,h4',hb,Fc]
     ·have h4':(122<(b.toNat:Int)):=by omega
      have hb:Cj b=I:=by simp[Cj];omega
      simp[Mq,h4',hb]
    ·have Mq:((b.toNat:Int)<97):=by omega
     have hb:Cj b=I:=by simp[Cj];omega
     simp[Mq,hb]
  ·have e2:32<(bx.size:Int):=by omega
   simp only[e1,e2,aR,aO,ax,au,aw,h1,gJ]
def SN {f8:Type} (d:f8) (k:U) (v:f8) (x:U):∀m:List (U×f8),mS (mQ m k v) x d=if x=k then v else mS m x d
 | []=>by simp[mQ,mS]
 |p::m=>by
  simp only[mQ];by_cases h:k=p.1
  ·simp only[h,aw,mS];by_cases h2:x=p.1
   ·simp[h2]
   ·simp[h2]
  ·simp only[h,au,mS];by_cases h2:x=p.1
   ·have:¬x=k:=λe=>h (e.symm.trans h2)
    simp[h2];intro e;exact absurd e.symm h
   ·simp only[h2,au];exact SN d k v x m
def qd (x:U):List U->Bool
 | []=>I
 |y::l=>iL (x=y)||qd x l
def afD (x:U):∀(a b:List U),qd x (a++b)=(qd x a||qd x b)
 | [],b=>by simp[qd]
 |y::a,b=>by simp[qd,afD x a b,Bool.or_assoc]
def yV:List U->cY->Bool
 |_,[]=>M
 |seen,c::cs=>AJ c.aM&&(!qd c.aM seen&&(Ck c.aD&&yV (seen++ [c.aM]) cs))
def Qo (seen:List U) (T:ai):Bool:=AJ T.aM&&(!qd T.aM seen&&(iL (1<=T.aH)&&(iL (T.aH<=(T.ag.length:Int))&&yV [] T.ag)))
def r8:List U->bw->Bool
 |_,[]=>M
 |seen,T::Ts=>Qo seen T&&r8 (seen++ [T.aM]) Ts
def Sk (m:List (U×Bool)) (seen:List U):Prop:=∀x,mS m x I=qd x seen
def Sk.put {m:List (U×Bool)} (h:Sk m seen) (k:U):Sk (mQ m k M) (seen++ [k]):=λx=>by
 rw[SN,h x,afD];by_cases hx:x=k
 ·simp[hx,qd]
 ·simp[hx,qd]
def ahG (k:bw->Int->Int->U->Int->Int->cY->Int->List (U×Bool)->ai->Z Bool) (cs:cY) (hl:cs.length<=8) (a1:bw) (a2 a3:Int) (a4:U) (a5 a6:Int) (a7:cY) (a8:Int) (a9:List (U×Bool)) (T:ai):∀(x:cY) (i m:Nat) (mp:List (U×Bool)) (seen:List U),cs.drop i=x->x.length+200<m->Sk mp seen->
  Pm k m a1 a2 a3 a4 a5 a6 a7 a8 cs (cs.length:Int) (i:Int) a9 mp T=if yV seen x=M then k a1 a2 a3 a4 a5 a6 a7 a8 a9 T else V I
 | [],i,m+1,mp,seen,hd,hm,hs=>by
  let ⟨this,hq⟩:=eA hd
  simp only[Pm,abZ,hq,aR,ax,au,yV,aw]
 |c::x,i,m+1,mp,seen,hd,hm,hs=>by
  let ⟨g1,g2,g3,hq⟩:=dK hd
  simp at hm;have ih:=ahG k cs hl a1 a2 a3 a4 a5 a6 a7 a8 a9 T x (i+1) m _ _ g2 (by omega) (hs.put c.aM)
  simp only[Pm,abZ,hq,aO,aw,bB,g1,ak,ayI m c.aM (by omega),hs c.aM,bT g3 (by omega),ih,yV]
  rcases kZ (AJ c.aM) with hv|hv<;>rcases kZ (qd c.aM seen) with h2|h2<;>by_cases h3:c.aD=3<;>by_cases h4:c.aD=4<;>by_cases h5:c.aD=5<;>simp[hv,h2,h3,h4,h5,Ck]
 |_,_,0,_,_,_,hm,_=>by simp at hm
def ahF (n0:Nat) (ts:bw) (hl:ts.length<=8) (hc:∀T∈ts,T.ag.length<=8):∀(x:bw) (i m:Nat) (mp:List (U×Bool)) (seen:List U),ts.drop i=x->x.length+1000<m->Sk mp seen->
  Kn (Ub n0) m ts (ts.length:Int) (i:Int) mp=V (r8 seen x)
 | [],i,m+1,mp,seen,hd,hm,hs=>by
  let ⟨this,hq⟩:=eA hd
  simp only[Kn,abX,Ub,hq,aR,ax,au,r8]
 |T::x,i,m+1,mp,seen,hd,hm,hs=>by
  let ⟨g1,g2,g3,hq⟩:=dK hd
  simp at hm;have hT:=hc T (bQ g1);have ih:=ahF n0 ts hl hc x (i+1) m _ _ g2 (by omega) (hs.put T.aM)
  have GB:=ahG (abY (Kn (Ub n0) m) m) T.ag hT ts (ts.length:Int) (i:Int) T.aM T.aH T.aH T.ag (T.ag.length:Int) (mQ mp T.aM M) T T.ag 0 m [] [] rfl (by omega) (λx=>by simp[mS,qd])
  rw[show ((0:Nat):Int)=0 from rfl] at GB;simp only[Kn,abX,hq,aO,aw,bB,g1,ak,ayI m T.aM (by omega),hs T.aM,GB,abY,bT g3 (by omega),ih,r8,Qo]
  have q1:iL (T.aH<1)= !iL (1<=T.aH):=by rw[<-decide_not];exact NQ.2 (by omega)
  have q2:iL ((T.ag.length:Int)<T.aH)= !iL (T.aH<=(T.ag.length:Int)):=by rw[<-decide_not];exact NQ.2 (by omega)
  rw[q1,q2];rcases kZ (AJ T.aM) with hv|hv<;>rcases kZ (qd T.aM seen) with h2|h2<;>rcases kZ (iL (1<=T.aH)) with h3|h3<;>rcases kZ (iL (T.aH<=(T.ag.length:Int))) with h4|h4<;>rcases kZ (yV [] T.ag) with h5|h5<;>simp only[hv,h2,h3,h4,h5,dd,gq,ax,au,aw,iT,gJ]
 |_,_,0,_,_,_,hm,_=>by simp at hm
def aOJ (hl:B.ah.length<=8) (hc:∀T∈B.ah,T.ag.length<=8) (hn:2000<u):F43 u B=V (r8 [] B.ah):=
 ahF u B.ah hl hc B.ah 0 u [] [] rfl (by omega) (λx=>by simp[mS,qd])
def aaf (k:ai->Z Bool) (s:ae) (hl:s.ah.length<=8) (i:Nat) (hi:i<=s.ah.length) (T:ai):∀(x:bw) (j m:Nat),(s.ah.take i).drop j=x->x.length<m->j<=i->IB k m (i:Int) (j:Int) s T=if qd T.aM (x.map (·.aM))=M then V I else k T
 | [],j,m+1,hd,hm,hj=>by
  have:(s.ah.take i).length<=j:=by simpa using hd
  rw[dz] at this;have hq:¬((j:Int)<(i:Int)):=by omega
  simp only[IB,Vx,hq,aR,ax,au,wM,qd]
 |f9::x,j,m+1,hd,hm,hj=>by
  let ⟨g1,g2,g3⟩:=qg hd;rw[dz] at g3;have hq:(j:Int)<(i:Int):=by omega
  have hg:s.ah[j]? =V f9:=by rw[eZ,aG (by omega)] at g1;exact g1
  have ih:=aaf k s hl i hi T x (j+1) m g2 (by simp at hm;omega) (by omega)
  have hw:aW ((j:Int)+1)=((j+1:Nat):Int):=by rw[cU (by omega) (by omega)];rfl
  simp only[IB,Vx,hq,aO,aw,bB,hg,ak,hw,ih,jX,qd];by_cases h:f9.aM=T.aM
  ·simp[h]
  ·have h':¬T.aM=f9.aM:=λe=>h e.symm
   simp[h,h']
 |_,_,0,_,hm,_=>by simp at hm
def aae (k:Int->Int->cY->Int->cA->cA->Int->Bool->ai->Z Bool) (T:ai) (hl:T.ag.length<=8) (i:Nat) (c:cA) (hc:T.ag[i]? =V c) (a1 a2:Int) (a3:cY) (a4:Int) (a5 a6:cA) (a7:Int) (a8:Bool):∀(x:cY) (j m:Nat),(T.ag.take i).drop j=x->x.length<m->j<=i->
  IA k m (i:Int) (j:Int) a1 a2 a3 a4 a5 a6 a7 a8 T=if qd c.aM (x.map (·.aM))=M then V I else k a1 a2 a3 a4 a5 a6 a7 a8 T
 | [],j,m+1,hd,hm,hj=>by
  have:(T.ag.take i).length<=j:=by simpa using hd
  have hi:=(bO.1 hc).1;rw[dz] at this;have hq:¬((j:Int)<(i:Int)):=by omega
  simp only[IA,Vw,hq,aR,ax,au,wM,qd]
 |f9::x,j,m+1,hd,hm,hj=>by
  let ⟨g1,g2,g3⟩:=qg hd;have hi:=(bO.1 hc).1;rw[dz] at g3;have hq:(j:Int)<(i:Int):=by omega
  have hg:T.ag[j]? =V f9:=by rw[eZ,aG (by omega)] at g1;exact g1
  have ih:=aae k T hl i c hc a1 a2 a3 a4 a5 a6 a7 a8 x (j+1) m g2 (by simp at hm;omega) (by omega)
  have hw:aW ((j:Int)+1)=((j+1:Nat):Int):=by rw[cU (by omega) (by omega)];rfl
  simp only[IA,Vw,hq,aO,aw,bB,hg,hc,ak,hw,ih,jX,qd];by_cases h:f9.aM=c.aM
  ·simp[h]
  ·have h':¬c.aM=f9.aM:=λe=>h e.symm
   simp[h,h']
 |_,_,0,_,hm,_=>by simp at hm
def aad (n0:Nat) (T:ai) (hl:T.ag.length<=8):∀(x:cY) (i m:Nat),T.ag.drop i=x->x.length+200<m->ER (Nv n0) m (T.ag.length:Int) (i:Int) T=V (yV ((T.ag.take i).map (·.aM)) x)
 | [],i,m+1,hd,hm=>by
  let ⟨this,hq⟩:=eA hd
  simp only[ER,Vu,Nv,hq,aR,ax,au,yV]
 |c::x,i,m+1,hd,hm=>by
  let ⟨g1,g2,g3,hq⟩:=dK hd
  simp at hm;have ih:=aad n0 T hl x (i+1) m g2 (by omega)
  have jq:=λb=>aae (Vv (ER (Nv n0) m) m) T hl i c g1 (T.ag.length:Int) (i:Int) T.ag (i:Int) c c c.aD b (T.ag.take i) 0 m rfl (by simp;omega) (by omega)
  rw[show ((0:Nat):Int)=0 from rfl] at jq;rw[G2,g1] at ih;simp only[G1,ka,jX,wM] at ih;simp only[ER,Vu,hq,aO,aw,bB,g1,ak,anW m c.aM (by omega),anV,jq,Vv,bT g3 (by omega),ih,yV]
  rcases kZ (AJ c.aM) with hv|hv<;>rcases kZ (Ck c.aD) with h3|h3<;>rcases kZ (qd c.aM ((T.ag.take i).map (·.aM))) with h2|h2<;>simp only[hv,h2,h3,dd,gq,ax,au,aw,iT,gJ]
 |_,_,0,_,hm=>by simp at hm
def aIS (hl:B.ah.length<=8) (i:Nat) (T:ai) (hT:B.ah[i]? =V T) (hc:T.ag.length<=8) (hn:1000<u):asw u B (i:Int)=V (Qo ((B.ah.take i).map (·.aM)) T):=by
 have hi:=(bO.1 hT).1;unfold asw ajS Qo;simp only[bB,hT,ak,anW u T.aM (by omega)]
 rcases kZ (AJ T.aM) with apY|apY
 rotate_left
 ·simp[apY]
 ·simp only[apY,dd,ax,au,iT];have h0:=aaf (Vt u) B hl i (by omega) T (B.ah.take i) 0 u rfl (by simp;omega) (by omega)
  rw[show ((0:Nat):Int)=0 from rfl] at h0;have h1:=aad u T hc T.ag 0 u rfl (by omega)
  rw[show ((0:Nat):Int)=0 from rfl,yx,wM] at h1;simp only[h0,Vt,h1];by_cases e0:T.ag.length=0
  ·have e1:((T.ag.length:Int)==0)=M:=by simp[e0]
   by_cases h3:1<=T.aH
   ·have:¬T.aH<=(T.ag.length:Int):=by omega
    simp only[e1,aw,this,aR,gJ,C0]
   ·simp only[e1,aw,h3,aR,gJ,C0]
  ·have e1:((T.ag.length:Int)==0)=I:=by rw[beq_eq_false_iff_ne];omega
   simp only[e1,ax,au];by_cases h3:T.aH<1
   ·have:¬1<=T.aH:=by omega
    simp[h3,this]
   ·have Mq:1<=T.aH:=by omega
    by_cases h4:(T.ag.length:Int)<T.aH
    ·have:¬T.aH<=(T.ag.length:Int):=by omega
     simp[h3,Mq,h4,this]
    ·have h4':T.aH<=(T.ag.length:Int):=by omega
     rcases kZ (qd T.aM ((B.ah.take i).map (·.aM))) with h2|h2<;>simp only[h2,h3,Mq,h4,h4',aO,aR,dd,gq,ax,au,aw,iT,gJ]
def agX:∀{cs:cY} {seen:List U},yV seen cs=M->nS (cs.map (·.aD))=M
 | [],_,_=>rfl
 |c::cs,seen,h=>by
  simp only[yV,bG] at h;simp only[jX,nS,qQ,bG];exact ⟨h.2.2.1,agX h.2.2.2⟩
def aGN {T:ai} (hc:T.ag.length<=8) (h:Qo seen T=M):km T:=by
 simp only[Qo,bG,jA] at h;exact ⟨h.2.2.1,h.2.2.2.1,hc,agX h.2.2.2.2⟩
def Qn:∀{ts:bw} {seen:List U},(∀T∈ts,T.ag.length<=8)->r8 seen ts=M->∀T∈ts,km T
 | [],_,_,_,T,hT=>by simp at hT
 |f9::ts,seen,hc,h,T,hT=>by
  simp only[r8,bG] at h;rcases da.1 hT with rfl|hT
  ·exact aGN (hc _ (by simp)) h.1
  ·exact Qn (λT hT=>hc T (by simp[hT])) h.2 T hT
def qT (tc:cY):cY->aP->Bool
 |_,[]=>M
 | [],_::_=>I
 |g::gs,c::cs=>match idx tc c with|none=>I|some x=>x.aD==g.aD&&qT tc gs cs
def afa (r:bl):Bool:=match idx B.ah r.av with|none=>I|some f9=>((r.ag.length:Int)==f9.aH)&&qT bS.ag f9.ag r.ag
def uV (s:ae) (T:ai):bL->Bool
 | []=>M
 |r::rs=>afa s T r&&uV s T rs
def allRefs (s:ae):bw->Bool
 | []=>M
 |T::ts=>uV s T T.ar&&allRefs s ts
def Fo (xs:List J) (i:Int):(i<0/\idx xs i=G)\/(¬i<0/\¬i<(xs.length:Int)/\idx xs i=G)\/(¬i<0/\i<(xs.length:Int)/\∃x,idx xs i=V x):=by
 by_cases h:i<0
 ·exact .inl ⟨h,by unfold idx;rw[aC (by omega)]⟩
 ·by_cases h2:i<(xs.length:Int)
  ·refine .inr (.inr ⟨h,h2,xs[i.toNat]'(by omega),?_⟩)
   unfold idx;rw[aG (by omega),cZ (by omega)]
  ·exact .inr (.inl ⟨h,h2,aHT (by omega) h2⟩)
def ahE (k:bw->Int->Int->bL->Int->Int->Int->bw->Int->ae->ai->bl->Z Bool) (T f9:ai) (cs:aP) (hc:cs.length<=f9.ag.length) (hg:f9.ag.length<=8) (a1:bw) (a2 a3:Int) (a4:bL) (a5 a6 a7:Int) (a8:bw) (a9:Int) (s:ae) (r:bl):∀(x:aP) (i m:Nat),cs.drop i=x->x.length<m->
  Pk k m a1 a2 a3 a4 a5 a6 a7 a8 a9 cs (cs.length:Int) (i:Int) s T f9 r=if qT T.ag (f9.ag.drop i) x=M then k a1 a2 a3 a4 a5 a6 a7 a8 a9 s T r else V I
 | [],i,m+1,hd,hm=>by
  let ⟨this,hq⟩:=eA hd
  simp only[Pk,abW,hq,aR,ax,au,qT,aw]
 |c::x,i,m+1,hd,hm=>by
  let ⟨g1,g2,g3,hq⟩:=dK hd
  have dq:i<f9.ag.length:=by omega
  have hgi:f9.ag[i]? =V f9.ag[i]:=cZ dq;have hdr:f9.ag.drop i=f9.ag[i]::f9.ag.drop (i+1):=sr dq;generalize f9.ag[i]=g at hgi hdr;have ih:=ahE k T f9 cs hc hg a1 a2 a3 a4 a5 a6 a7 a8 a9 s r x (i+1) m g2 (by simp at hm;omega)
  simp only[Pk,abW,hq,aO,aw,bB,g1,hgi,ak,bT g3 (by omega),ih]
  rw[hdr];simp only[qT];rcases Fo T.ag c with ⟨h1,h2⟩|⟨h1,h3,h2⟩|⟨h1,h3,y,h2⟩
  ·simp only[h1,h2,aO,aw,ax,au]
  ·simp only[h1,h2,h3,aR,gq,aw,ax,au]
  ·simp only[h1,h2,h3,aR,aO,dd,ax,au,ak];by_cases h4:y.aD=g.aD
   ·simp[h4]
   ·simp[h4]
 |_,_,0,_,hm=>by simp at hm
def ahD (k:bw->Int->Int->ae->Z Bool) (s:ae) (hs:∀t f9,idx s.ah t=V f9->km f9) (T:ai) (rs:bL) (hl:rs.length<=8) (a1:bw) (a2 a3:Int):∀(x:bL) (i m:Nat),rs.drop i=x->x.length+100<m->
  Km k m a1 a2 a3 rs (rs.length:Int) (i:Int) s T=if uV s T x=M then k a1 a2 a3 s else V I
 | [],i,m+1,hd,hm=>by
  let ⟨this,hq⟩:=eA hd
  simp only[Km,abU,hq,aR,ax,au,uV,aw]
 |r::x,i,m+1,hd,hm=>by
  let ⟨g1,g2,g3,hq⟩:=dK hd
  simp at hm;have ih:=ahD k s hs T rs hl a1 a2 a3 x (i+1) m g2 (by omega)
  simp only[Km,abU,hq,aO,aw,bB,g1,ak,uV,afa];rcases Fo s.ah r.av with ⟨h1,h2⟩|⟨h1,h3,h2⟩|⟨h1,h3,f9,h2⟩
  ·simp only[h1,h2,aO,aw,gJ,ax,au]
  ·simp only[h1,h2,h3,aR,gq,aw,gJ,ax,au]
  ·have hG:=hs _ _ h2;have k2:=hG.jF;have k3:=hG.cols;simp only[h1,h2,h3,aR,aO,dd,ax,au,ak];by_cases h4:(r.ag.length:Int)=f9.aH
   ·have e:((r.ag.length:Int) !=f9.aH)=I:=by simp[h4]
    have e':((r.ag.length:Int)==f9.aH)=M:=by simp[h4]
    have jq:=ahE (abV (Km k m) m) T f9 r.ag (by omega) k3 a1 a2 a3 rs (rs.length:Int) (i:Int) r.av s.ah (s.ah.length:Int) s r r.ag 0 m rfl (by omega)
    rw[show ((0:Nat):Int)=0 from rfl,ph] at jq;simp only[e,e',ax,au,jq,abV,bT g3 (by omega),ih,iT]
    rcases kZ (qT T.ag f9.ag r.ag) with hv|hv<;>simp only[hv,aw,iT,gJ,ax,au]
   ·have e:((r.ag.length:Int) !=f9.aH)=M:=by simpa using h4
    have e':((r.ag.length:Int)==f9.aH)=I:=by simpa using h4
    simp only[e,e',aw,gJ,ax,au]
 |_,_,0,_,hm=>by simp at hm
def ahC (n0:Nat) (s:ae) (hs:∀t f9,idx s.ah t=V f9->km f9) (ts:bw) (hl:ts.length<=8) (hr:∀T∈ts,T.ar.length<=4):∀(x:bw) (i m:Nat),ts.drop i=x->x.length+200<m->
  Kl (Ua n0) m ts (ts.length:Int) (i:Int) s=V (allRefs s x)
 | [],i,m+1,hd,hm=>by
  let ⟨this,hq⟩:=eA hd
  simp only[Kl,abS,Ua,hq,aR,ax,au,allRefs]
 |T::x,i,m+1,hd,hm=>by
  let ⟨g1,g2,g3,hq⟩:=dK hd
  simp at hm;have hT:=hr T (bQ g1);have ih:=ahC n0 s hs ts hl hr x (i+1) m g2 (by omega)
  have jq:=ahD (abT (Kl (Ua n0) m) m) s hs T T.ar (by omega) ts (ts.length:Int) (i:Int) T.ar 0 m rfl (by omega)
  rw[show ((0:Nat):Int)=0 from rfl] at jq;simp only[Kl,abS,hq,aO,aw,bB,g1,ak,jq,abT,bT g3 (by omega),ih,allRefs]
  rcases kZ (uV s T T.ar) with hv|hv<;>simp only[hv,aw,iT,gJ,ax,au]
 |_,_,0,_,hm=>by simp at hm
def aOI (hs:∀t f9,idx B.ah t=V f9->km f9) (hl:B.ah.length<=8) (hr:∀T∈B.ah,T.ar.length<=4) (hn:1000<u):F44 u B=V (allRefs B B.ah):=
 ahC u B hs B.ah hl hr B.ah 0 u rfl (by omega)
def aac (k:bL->Int->Int->Int->bw->Int->aP->Int->bw->Int->ai->ai->Int->ae->ai->bl->Z Bool) (s:ae) (T f9:ai) (r:bl) (hG:idx s.ah r.av=V f9) (cs:aP) (hc:cs.length<=f9.ag.length) (hg:f9.ag.length<=8) (a1:bL) (a2 a3 a4:Int) (a5:bw) (a6:Int) (a7:aP) (a8:Int) (a9:bw) (FV:Int) (a11 a12:ai) (a13:Int):∀(x:aP) (i m:Nat),cs.drop i=x->x.length<m->
  Iz k m a1 a2 a3 a4 a5 a6 a7 a8 a9 FV a11 a12 a13 cs (cs.length:Int) (i:Int) s T r=if qT T.ag (f9.ag.drop i) x=M then k a1 a2 a3 a4 a5 a6 a7 a8 a9 FV a11 a12 a13 s T r else V I
 | [],i,m+1,hd,hm=>by
  let ⟨this,hq⟩:=eA hd
  simp only[Iz,Vs,hq,aR,ax,au,qT,aw]
 |c::x,i,m+1,hd,hm=>by
  let ⟨g1,g2,g3,hq⟩:=dK hd
  have dq:i<f9.ag.length:=by omega
  have hgi:f9.ag[i]? =V f9.ag[i]:=cZ dq;have hdr:f9.ag.drop i=f9.ag[i]::f9.ag.drop (i+1):=sr dq;generalize f9.ag[i]=g at hgi hdr;have ih:=aac k s T f9 r hG cs hc hg a1 a2 a3 a4 a5 a6 a7 a8 a9 FV a11 a12 a13 x (i+1) m g2 (by simp at hm;omega)
  simp only[Iz,Vs,hq,aO,aw,bB,g1,hG,hgi,ak,bT g3 (by omega),ih]
  rw[hdr];simp only[qT];rcases Fo T.ag c with ⟨h1,h2⟩|⟨h1,h3,h2⟩|⟨h1,h3,y,h2⟩
  ·simp only[h1,h2,aO,aw,ax,au]
  ·simp only[h1,h2,h3,aR,gq,aw,ax,au]
  ·simp only[h1,h2,h3,aR,aO,dd,ax,au,ak];by_cases h4:y.aD=g.aD
   ·simp[h4]
   ·simp[h4]
 |_,_,0,_,hm=>by simp at hm
def aab (n0:Nat) (s:ae) (hs:∀t f9,idx s.ah t=V f9->km f9) (T:ai) (rs:bL) (hl:rs.length<=8):∀(x:bL) (i m:Nat),rs.drop i=x->x.length+100<m->
  EP (Nu n0) m rs (rs.length:Int) (i:Int) s T=V (uV s T x)
 | [],i,m+1,hd,hm=>by
  let ⟨this,hq⟩:=eA hd
  simp only[EP,Vq,Nu,hq,aR,ax,au,uV]
 |r::x,i,m+1,hd,hm=>by
  let ⟨g1,g2,g3,hq⟩:=dK hd
  simp at hm;have ih:=aab n0 s hs T rs hl x (i+1) m g2 (by omega)
  simp only[EP,Vq,hq,aO,aw,bB,g1,ak,uV,afa];rcases Fo s.ah r.av with ⟨h1,h2⟩|⟨h1,h3,h2⟩|⟨h1,h3,f9,h2⟩
  ·simp only[h1,h2,aO,aw,gJ]
  ·simp only[h1,h2,h3,aR,gq,aw,gJ,ax,au]
  ·have hG:=hs _ _ h2;have k2:=hG.jF;have k3:=hG.cols;simp only[h1,h2,h3,aR,aO,dd,ax,au,ak];by_cases h4:(r.ag.length:Int)=f9.aH
   ·have e:((r.ag.length:Int) !=f9.aH)=I:=by simp[h4]
    have e':((r.ag.length:Int)==f9.aH)=M:=by simp[h4]
    have jq:=aac (Vr (EP (Nu n0) m) m) s T f9 r h2 r.ag (by omega) k3 rs (rs.length:Int) (i:Int) r.av s.ah (s.ah.length:Int) r.ag (r.ag.length:Int) s.ah r.av f9 f9 f9.aH r.ag 0 m rfl (by omega)
    rw[show ((0:Nat):Int)=0 from rfl,ph] at jq;simp only[e,e',ax,au,jq,Vr,bT g3 (by omega),ih,iT]
    rcases kZ (qT T.ag f9.ag r.ag) with hv|hv<;>simp only[hv,aw,iT,gJ,ax,au]
   ·have e:((r.ag.length:Int) !=f9.aH)=M:=by simpa using h4
    have e':((r.ag.length:Int)==f9.aH)=I:=by simpa using h4
    simp only[e,e',aw,gJ]
 |_,_,0,_,hm=>by simp at hm
def aIR (hs:∀t f9,idx B.ah t=V f9->km f9) (i:Nat) (T:ai) (hT:B.ah[i]? =V T) (hr:T.ar.length<=4) (hn:1000<u):asv u B (i:Int)=V (uV B T T.ar):=by
 unfold asv ajR;simp only[bB,hT,ak];exact aab u B hs T T.ar (by omega) T.ar 0 u rfl (by omega)
def tM (ks:aP):br->Int
 | []=>0
 |p::ps=>if uI ks [] p=0 then tM ks ps else uI ks [] p
def Cb:bw->Int
 | []=>0
 |T::ts=>if tM (eh T) T.aL=0 then Cb ts else tM (eh T) T.aL
def ahQ (k:bw->Int->Int->ae->Z Int) (ks:aP) (hk:ks.length<=8) (s:ae) (ps:br) (hl:ps.length<=4) (hp:∀p∈ps,fY p<=1500000) (a1:bw) (a2 a3:Int):∀(x:br) (i m:Nat),ps.drop i=x->x.length+1500000<m->m<4294967296->
  Pv k m ks a1 a2 a3 ps (ps.length:Int) (i:Int) s=if tM ks x=0 then k a1 a2 a3 s else V (tM ks x)
 | [],i,m+1,hd,hm,ry=>by
  let ⟨this,hq⟩:=eA hd
  simp only[Pv,acB,hq,aR,ax,au,tM,aw]
 |p::x,i,m+1,hd,hm,ry=>by
  let ⟨g1,g2,g3,hq⟩:=dK hd
  simp at hm;have ih:=ahQ k ks hk s ps hl hp a1 a2 a3 x (i+1) m g2 (by omega) (by omega)
  have hpp:=hp p (bQ g1);simp only[Pv,acB,hq,aO,aw,bB,g1,ak,aOG m ks [] p (by omega) (by simp;omega) (by omega) (by omega),bT g3 (by omega),ih,tM]
  by_cases h:uI ks [] p=0
  ·simp only[h,ia,ax,au,aw]
  ·have:(uI ks [] p !=0)=M:=by simpa using h
   simp only[h,this,aw,au]
 |_,_,0,_,hm,_=>by simp at hm
def ahx (k:Int->Int->ae->Z Int) (T:ai) (s:ae) (t:Int) (hT:idx s.ah t=V T) (hk:T.ag.length<=8) (ps:br) (hl:ps.length<=4) (hp:∀p∈ps,fY p<=1500000) (a1 a2:Int):∀(x:br) (i m:Nat),ps.drop i=x->x.length+1500000<m->m<4294967296->
  O7 k m t a1 a2 ps (ps.length:Int) (i:Int) s=if tM (eh T) x=0 then k a1 a2 s else V (tM (eh T) x)
 | [],i,m+1,hd,hm,ry=>by
  let ⟨this,hq⟩:=eA hd
  simp only[O7,abv,hq,aR,ax,au,tM,aw]
 |p::x,i,m+1,hd,hm,ry=>by
  let ⟨g1,g2,g3,hq⟩:=dK hd
  simp at hm;have ih:=ahx k T s t hT hk ps hl hp a1 a2 x (i+1) m g2 (by omega) (by omega)
  have hpp:=hp p (bQ g1);have hkl:=pF T;simp only[O7,abv,hq,aO,aw,bB,g1,ak,TS hT (by omega) (by omega:1000<m),aoh m (eh T) [] p (by omega) (by simp;omega) (by omega) (by omega),bT g3 (by omega),ih,tM]
  by_cases h:uI (eh T) [] p=0
  ·simp only[h,ia,ax,au,aw]
  ·have:(uI (eh T) [] p !=0)=M:=by simpa using h
   simp only[h,this,aw,au]
 |_,_,0,_,hm,_=>by simp at hm
def wI:Bool:=iL (bS.ag.length<=8)&&(iL (bS.ar.length<=4)&&iL (bS.aL.length<=4))
def rN {T:ai} (h:wI T=M):T.ag.length<=8/\T.ar.length<=4/\T.aL.length<=4:=by simpa[wI] using h
def Bd:Prop:=∀p∈bS.aL,fY p<=1500000
def ahP (n0:Nat) (s:ae) (hl:s.ah.length<=8) (hb:∀T∈s.ah,wI T=M) (hz:∀T∈s.ah,Bd T):∀(x:bw) (i m:Nat),s.ah.drop i=x->x.length+1500010<m->m<4294967296->
  Kr (UU n0) m s.ah (s.ah.length:Int) (i:Int) s=V (Cb x)
 | [],i,m+1,hd,hm,ry=>by
  let ⟨this,hq⟩:=eA hd
  simp only[Kr,acz,UU,hq,aR,ax,au,Cb]
 |T::x,i,m+1,hd,hm,ry=>by
  let ⟨g1,g2,g3,hq⟩:=dK hd
  simp at hm;have Mh:=bQ g1;let ⟨b1,b2,b3⟩:=rN (hb T Mh);have hT:idx s.ah (i:Int)=V T:=by rw[bB];exact g1
  have hkl:=pF T;have ih:=ahP n0 s hl hb hz x (i+1) m g2 (by omega) (by omega)
  have jq:=ahQ (acA (Kr (UU n0) m) m) (eh T) (by omega) s T.aL b3 (hz T Mh) s.ah (s.ah.length:Int) (i:Int) T.aL 0 m rfl (by omega) (by omega)
  rw[show ((0:Nat):Int)=0 from rfl] at jq;simp only[Kr,acz,hq,aO,aw,hT,ak,aOH hT (by omega) (by omega:1000<m),jq,acA,bT g3 (by omega),ih,Cb]
  by_cases h:tM (eh T) T.aL=0
  ·simp only[h,aw]
  ·simp only[h,au]
 |_,_,0,_,hm,_=>by simp at hm
def ahw (n0:Nat) (s:ae) (hl:s.ah.length<=8) (hb:∀T∈s.ah,wI T=M) (hz:∀T∈s.ah,Bd T):∀(x:bw) (i m:Nat),s.ah.drop i=x->x.length+1500010<m->m<4294967296->
  Kh (TZ n0) m (s.ah.length:Int) (i:Int) s=V (Cb x)
 | [],i,m+1,hd,hm,ry=>by
  let ⟨this,hq⟩:=eA hd
  simp only[Kh,abt,TZ,hq,aR,ax,au,Cb]
 |T::x,i,m+1,hd,hm,ry=>by
  let ⟨g1,g2,g3,hq⟩:=dK hd
  simp at hm;have Mh:=bQ g1;let ⟨b1,b2,b3⟩:=rN (hb T Mh);have hT:idx s.ah (i:Int)=V T:=by rw[bB];exact g1
  have ih:=ahw n0 s hl hb hz x (i+1) m g2 (by omega) (by omega)
  have jq:=ahx (abu (Kh (TZ n0) m) m) T s (i:Int) hT b1 T.aL b3 (hz T Mh) (s.ah.length:Int) (i:Int) T.aL 0 m rfl (by omega) (by omega)
  rw[show ((0:Nat):Int)=0 from rfl] at jq;simp only[Kh,abt,hq,aO,aw,hT,ak,jq,abu,bT g3 (by omega),ih,Cb]
  by_cases h:tM (eh T) T.aL=0
  ·simp only[h,aw]
  ·simp only[h,au]
 |_,_,0,_,hm,_=>by simp at hm
def ahR (k:ae->Z Int) (s:ae) (ts:bw) (hl:ts.length<=8):∀(x:bw) (i m:Nat),ts.drop i=x->x.length<m->Pw k m ts (ts.length:Int) (i:Int) s=if x.all wI=M then k s else V 2
 | [],i,m+1,hd,hm=>by
  let ⟨this,hq⟩:=eA hd
  simp only[Pw,acC,hq,aR,ax,au,List.all_nil,aw]
 |T::x,i,m+1,hd,hm=>by
  let ⟨g1,g2,g3,hq⟩:=dK hd
  have ih:=ahR k s ts hl x (i+1) m g2 (by simp at hm;omega)
  simp only[Pw,acC,hq,aO,aw,bB,g1,ak,bT g3 (by omega),ih,qQ,wI]
  by_cases h1:T.ag.length<=8
  ·have e1:¬(8:Int)<(T.ag.length:Int):=by omega
   by_cases h2:T.ar.length<=4
   ·have e2:¬(4:Int)<(T.ar.length:Int):=by omega
    by_cases h3:T.aL.length<=4
    ·have e3:¬(4:Int)<(T.aL.length:Int):=by omega
     simp only[h1,h2,h3,e1,e2,e3,aO,aR,ax,au,pT,iT]
    ·have e3:(4:Int)<(T.aL.length:Int):=by omega
     simp only[h1,h2,h3,e1,e2,e3,aO,aR,ax,au,aw,C0,gJ]
   ·have e2:(4:Int)<(T.ar.length:Int):=by omega
    simp only[h1,h2,e1,e2,aO,aR,ax,au,aw,C0,gJ]
  ·have e1:(8:Int)<(T.ag.length:Int):=by omega
   simp only[h1,e1,aO,aR,ax,au,aw,gJ]
 |_,_,0,_,hm=>by simp at hm
def ahA (k:ae->Z Int) (s:ae) (ts:bw) (hl:ts.length<=8):∀(x:bw) (i m:Nat),ts.drop i=x->x.length<m->Pa k m ts (ts.length:Int) (i:Int) s=if x.all wI=M then k s else V 2
 | [],i,m+1,hd,hm=>by
  let ⟨this,hq⟩:=eA hd
  simp only[Pa,aby,hq,aR,ax,au,List.all_nil,aw]
 |T::x,i,m+1,hd,hm=>by
  let ⟨g1,g2,g3,hq⟩:=dK hd
  have ih:=ahA k s ts hl x (i+1) m g2 (by simp at hm;omega)
  simp only[Pa,aby,hq,aO,aw,bB,g1,ak,bT g3 (by omega),ih,qQ,wI]
  by_cases h1:T.ag.length<=8
  ·have e1:¬(8:Int)<(T.ag.length:Int):=by omega
   by_cases h2:T.ar.length<=4
   ·have e2:¬(4:Int)<(T.ar.length:Int):=by omega
    by_cases h3:T.aL.length<=4
    ·have e3:¬(4:Int)<(T.aL.length:Int):=by omega
     simp only[h1,h2,h3,e1,e2,e3,aO,aR,ax,au,pT,iT]
    ·have e3:(4:Int)<(T.aL.length:Int):=by omega
     simp only[h1,h2,h3,e1,e2,e3,aO,aR,ax,au,aw,C0,gJ]
   ·have e2:(4:Int)<(T.ar.length:Int):=by omega
    simp only[h1,h2,e1,e2,aO,aR,ax,au,aw,C0,gJ]
  ·have e1:(8:Int)<(T.ag.length:Int):=by omega
   simp only[h1,e1,aO,aR,ax,au,aw,gJ]
 |_,_,0,_,hm=>by simp at hm
def ahz (k:ae->Z Int) (s:ae) (hl:s.ah.length<=8) (hc:∀T∈s.ah,wI T=M):∀(x:bw) (i m:Nat),s.ah.drop i=x->x.length+2000<m->O9 k m (s.ah.length:Int) (i:Int) s=if r8 ((s.ah.take i).map (·.aM)) x=M then k s else V 70
 | [],i,m+1,hd,hm=>by
  let ⟨this,hq⟩:=eA hd
  simp only[O9,abx,hq,aR,ax,au,r8,aw]
 |T::x,i,m+1,hd,hm=>by
  let ⟨g1,g2,g3,hq⟩:=dK hd
  simp at hm;have ih:=ahz k s hl hc x (i+1) m g2 (by omega)
  rw[G2,g1] at ih;simp only[G1,ka,jX,wM] at ih;simp only[O9,abx,hq,aO,aw,aIS m s hl i T g1 (rN (hc T (bQ g1))).1 (by omega),ak,bT g3 (by omega),ih,r8]
  rcases kZ (Qo ((s.ah.take i).map (·.aM)) T) with hv|hv<;>simp only[hv,dd,gq,ax,aw,au,iT,gJ]
 |_,_,0,_,hm=>by simp at hm
def ahy (k:ae->Z Int) (s:ae) (hs:∀t f9,idx s.ah t=V f9->km f9) (hl:s.ah.length<=8) (hc:∀T∈s.ah,wI T=M):∀(x:bw) (i m:Nat),s.ah.drop i=x->x.length+2000<m->O8 k m (s.ah.length:Int) (i:Int) s=if allRefs s x=M then k s else V 70
 | [],i,m+1,hd,hm=>by
  let ⟨this,hq⟩:=eA hd
  simp only[O8,abw,hq,aR,ax,au,allRefs,aw]
 |T::x,i,m+1,hd,hm=>by
  let ⟨g1,g2,g3,hq⟩:=dK hd
  simp at hm;have ih:=ahy k s hs hl hc x (i+1) m g2 (by omega)
  simp only[O8,abw,hq,aO,aw,aIR m s hs i T g1 (rN (hc T (bQ g1))).2.1 (by omega),ak,bT g3 (by omega),ih,allRefs]
  rcases kZ (uV s T T.ar) with hv|hv<;>simp only[hv,dd,gq,ax,aw,au,iT,gJ]
 |_,_,0,_,hm=>by simp at hm
def fL:Int:=
 if 8<B.ah.length then 2
 else if B.ah.all wI=M then
  (if B.ay<0 then 70 else if 1000<B.ay then 70
   else if r8 [] B.ah=M then (if allRefs B B.ah=M then Cb B.ah else 70) else 70)
 else 2
def Wl {s:ae} (hb:∀T∈s.ah,wI T=M) (h:r8 [] s.ah=M):∀t f9,idx s.ah t=V f9->km f9:=λt f9 hG=>
 Qn (λT hT=>(rN (hb T hT)).1) h f9 (bQ (D2 hG).2.2)
structure qI (s:ae):Prop where
 len:s.ah.length<=8
 bY:∀t T,idx s.ah t=V T->km T
def vq {s:ae} (h:fL s=0):qI s:=by
 unfold fL at h;split at h
 ·cases h
 ·rename_i h8;split at h
  ·rename_i hb;rw[jJ] at hb;split at h
   ·cases h
   ·split at h
    ·cases h
    ·split at h
     ·rename_i ht;exact ⟨by omega,Wl hb ht⟩
     ·cases h
  ·cases h
def TT (hz:∀T∈B.ah,Bd T) (hn:1600000<u) (fw:u<4294967296):IP u B=V (fL B):=by
 unfold IP atG fL;by_cases h8:8<B.ah.length
 ·have:(8:Int)<(B.ah.length:Int):=by omega
  simp only[h8,this,aO,aw]
 ·have h8':¬(8:Int)<(B.ah.length:Int):=by omega
  have h0:=ahR (acy u) B B.ah (by omega) B.ah 0 u rfl (by omega)
  rw[show ((0:Nat):Int)=0 from rfl] at h0;simp only[h8,h8',aR,ax,au,h0];by_cases hb:B.ah.all wI=M
  ·simp only[hb,aw,acy];have np:=jJ.1 hb;by_cases v1:B.ay<0
   ·simp only[v1,aO,aw]
   ·by_cases v2:1000<B.ay
    ·simp only[v1,v2,aO,aR,ax,au,aw]
    ·simp only[v1,v2,aR,ax,au,aOJ u B (by omega) (λT hT=>(rN (np T hT)).1) (by omega),ak]
     by_cases ht:r8 [] B.ah=M
     ·simp only[ht,dd,ax,au,aw,aOI u B (Wl np ht) (by omega) (λT hT=>(rN (np T hT)).2.1) (by omega),ak]
      by_cases hr:allRefs B B.ah=M
      ·have h3:=ahP u B (by omega) np hz B.ah 0 u rfl (by omega) fw
       rw[show ((0:Nat):Int)=0 from rfl] at h3;simp only[hr,dd,ax,au,aw,h3]
      ·simp only[hr,acL] at hr ⊢;simp[hr]
     ·have ht':r8 [] B.ah=I:=by simpa using ht
      simp[ht']
  ·simp only[hb,au,ax]
def IK (hz:∀T∈B.ah,Bd T) (hn:1600000<u) (fw:u<4294967296):F94 u B=V (fL B):=by
 unfold F94 aiN fL;by_cases h8:8<B.ah.length
 ·have:(8:Int)<(B.ah.length:Int):=by omega
  simp only[h8,this,aO,aw]
 ·have h8':¬(8:Int)<(B.ah.length:Int):=by omega
  have h0:=ahA (abp u) B B.ah (by omega) B.ah 0 u rfl (by omega)
  rw[show ((0:Nat):Int)=0 from rfl] at h0;simp only[h8,h8',aR,ax,au,h0];by_cases hb:B.ah.all wI=M
  ·simp only[hb,aw,abp];have np:=jJ.1 hb;by_cases v1:B.ay<0
   ·simp only[v1,aO,aw]
   ·by_cases v2:1000<B.ay
    ·simp only[v1,v2,aO,aR,ax,au,aw]
    ·have h1:=ahz (abq u) B (by omega) np B.ah 0 u rfl (by omega)
     rw[show ((0:Nat):Int)=0 from rfl,yx,wM] at h1;simp only[v1,v2,aR,ax,au,h1];by_cases ht:r8 [] B.ah=M
     ·have h2:=ahy (abr u) B (Wl np ht) (by omega) np B.ah 0 u rfl (by omega)
      rw[show ((0:Nat):Int)=0 from rfl] at h2;simp only[ht,aw,abq,h2];by_cases hr:allRefs B B.ah=M
      ·have h3:=ahw u B (by omega) np hz B.ah 0 u rfl (by omega) fw
       rw[show ((0:Nat):Int)=0 from rfl] at h3;simp only[hr,aw,abr,h3]
      ·simp only[hr,au,ax]
     ·simp only[ht,au,ax]
  ·simp only[hb,au,ax]
end Go.Proofs.YtbnkhmoelnfjoaaGreat
end
