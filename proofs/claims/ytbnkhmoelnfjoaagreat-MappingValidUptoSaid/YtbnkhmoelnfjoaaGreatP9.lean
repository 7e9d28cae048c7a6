/- Part. -/
import Derived.Test.YtbnkhmoelnfjoaaGreatP8
import Derived.KernelRfl
set_option linter.all false
set_option maxRecDepth 100000
noncomputable section
namespace Go.Proofs.YtbnkhmoelnfjoaaGreat
open Go.bQ
def x114:=fx E0 Tryz.f114 [] []
def A114:=Ax x114 dq cu
def asf (n:Nat) (v0:bj):Option Bool:=
 if v0.aC==1 then
 if v0.dw==0 then
 some (decide (v0.cP=ByteArray.empty))
 else
 some false
 else
 if v0.aC==2 then
 if v0.dw==0 then
 some (decide (v0.cP=ByteArray.empty))
 else
 some false
 else
 if v0.aC==3 then
 if v0.dw==0 then
 some (decide (v0.cP=ByteArray.empty))
 else
 if v0.dw==1 then
 some (decide (v0.cP=ByteArray.empty))
 else
 some false
 else
 if v0.aC==4 then
 some (decide (v0.cP=ByteArray.empty))
 else
 if v0.aC==5 then
 if v0.dw==0 then
 some (!decide (64<(v0.cP.size:Int)))
 else
 some false
 else
 some false
def aHg (n:Nat):K1 (A114 []) wJ (asf n):=λv0 r h=>ie h (λc0 h=>ie h (λc1 h=>rr h [bT c0,bw c1]) (λc1 h=>rr h [bT c0,bw c1])) (λc0 h=>ie h (λc1 h=>ie h (λc2 h=>rr h [bT c0,aU c1,bw c2]) (λc2 h=>rr h [bT c0,aU c1,bw c2])) (λc1 h=>let zA:SE:=[bT c0,aU c1];ie h (λc2 h=>ie h (λc3 h=>bG h zA [aU c2,bw c3]) (λc3 h=>ie h (λc4 h=>bG h zA [aU c2,bw c3,bw c4]) (λc4 h=>bG h zA [aU c2,bw c3,bw c4]))) (λc2 h=>let zB:SE:=dk zA [aU c2];ie h (λc3 h=>bG h zB [aU c3]) (λc3 h=>ie h (λc4 h=>ie h (λc5 h=>bG h zB [aU c3,aU c4,bw c5]) (λc5 h=>bG h zB [aU c3,aU c4,bw c5])) (λc4 h=>bG h zB [aU c3,aU c4])))))
def avJ:=asf
def aJb (n:Nat):K1 (Cx E0 114 dq cu) wJ (avJ n):=λ_ _ h=>ca (X:=x114) (aHg n h)
def x163:=fx E0 Tryz.f163 [] []
def A163:=Ax x163 dq cu
def aeR (n:Nat) (v0:bj):Option Bool:=
 (avJ n v0).bind λx4=>if x4 then
 if v0.aC !=1 then
 some (v0.aC !=2)
 else
 some false
 else
 some false
def aFB (n:Nat):K1 (A163 []) wJ (aeR n):=λv0 r h=>be h λx4 kY h=>let zA:SE:=[na (aJb n kY)];ie h (λc0 bO=>by subst c0;exact (ie bO (λc1 bO=>bG bO zA [bw c1]) (λc1 bO=>bG bO zA [bw c1]))) (λc0 bO=>by subst c0;exact (rr bO zA))
def adQ:=aeR
def axI (n:Nat):K1 (Cx E0 163 dq cu) wJ (adQ n):=λ_ _ h=>ca (X:=x163) (aFB n h)
def x156:=fx E0 Tryz.f156 [] []
def A156:=Ax x156 eB cu
def azt (Mh:aH) (b3:aL):LS:=⟨[(3,.loc 3 0),(5,iR Mh)],[(3,.flat 105 (qn b3))]⟩
def ahm (k0:iF) (o1:aL):LS:=⟨[(0,.agg (Ki k0)),(1,.agg (qn o1))],[]⟩
def Rt (n:Nat) (Mh:aH) (b3:aL):Option Int:=
 if decide (b3.cJ<0) then
 some 0
 else
 if !decide (b3.cJ<(Mh.length:Int)) then
 some 0
 else
 if !((b3.aV.aC==0) && ((b3.aV.dw==0) && ((decide (b3.aV.cP=ByteArray.empty)) && true))) then
 some 0
 else
 (idx Mh b3.cJ).bind λmW=>some mW
def ary (n:Nat):K2 (A156 [1,1,1]) azt (Rt n):=λMh b3 r h=>ie h (λc0 h=>rr h [bq c0]) (λc0 h=>let zA:SE:=[bq c0,(4,R3.cw Mh)];ie h (λc1 h=>bG h zA [aw c1]) (λc1 h=>ie h (λc2 h=>bG h zA [aw c1,fL c2]) (λc2 h=>be h λmW mq h=>bG h zA [aw c1,fL c2,(4,R3.idx mq)])))
def aeX (n:Nat) (k0:iF) (o1:aL):Option Int:=
 if o1.aC==3 then
 if o1.cJ !=0 then
 some 0
 else
 (adQ n o1.aV).bind λjA=>if !jA then
 some 0
 else
 some o1.aV.aC
 else
 if o1.aC==2 then
 Rt n k0.nP o1
 else
 if o1.aC==1 then
 Rt n k0.my o1
 else
 some 0
def aFH (n:Nat):K2 (A156 []) ahm (aeX n):=λk0 o1 r h=>ie h (λc0 h=>ie h (λc1 h=>rr h [tw c0,bw c1]) (λc1 h=>be h λjA mr h=>let zA:SE:=[tw c0,bw c1,na (axI n mr)];ie h (λc2 h=>bG h zA [aw c2]) (λc2 h=>bG h zA [aw c2]))) (λc0 h=>ie h (λc1 h=>ra (ary n h) [tw c0,aU c1]) (λc1 h=>ie h (λc2 h=>ra (ary n h) [tw c0,aU c1,aU c2]) (λc2 h=>rr h [tw c0,aU c1,aU c2])))
def adS:=aeX
def axJ (n:Nat):K2 (Cx E0 156 eB cu) ahm (adS n):=λ_ _ _ h=>ca (X:=x156) (aFH n h)
def x103:=fx E0 Tryz.f103 [] []
def VG:=Ax x103 dq cu
def C103:=Cx E0 103 dq cu
def aAs (t76:bJ) (t77 t78:Int) (b2:iF):LS:=⟨[(2,.loc 2 0),(76,B3 t76),(77,aN t77),(78,aN t78)],[(2,.flat 193 (Ki b2))]⟩
def aAr:LS:=⟨[],[]⟩
def aAq (t50:Bool) (b2:iF) (b3:ag):LS:=⟨[(2,.loc 2 0),(3,.loc 3 0),(50,.bool t50)],[(2,.flat 193 (Ki b2)),(3,pE (eX b3))]⟩
def aAp:LS:=⟨[],[]⟩
def aAo (b2:iF) (b3:ag):LS:=⟨[(2,.loc 2 0),(3,.loc 3 0)],[(2,.flat 193 (Ki b2)),(3,pE (eX b3))]⟩
def ahE (k0:iF) (p1:ag):LS:=⟨[(0,.agg (Ki k0)),(1,.agg (eX p1))],[]⟩
def Si (eN:iF->ag->Option Bool) (aR:Option Bool) (back:Wf35) (n:Nat) (t76:bJ) (t77 t78:Int) (b2:iF):Option Bool:=
 if decide (t78<t77) then
 (idx t76 t78).bind λx2=>(eN b2 x2).bind λx9=>if !x9 then
 some false
 else
 back t76 t77 (bh (t78+1)) b2
 else
 aR
def sL:=K2 C103 ahE
def TL:=K0 (VG [1,1,1,1]) aAr
def Bz:=K4 (VG (cZ 87)) aAs
def aHn {eN} (j4:sL eN) {aR} (bK:TL aR) {back} (aS:Bz back) (n:Nat):Bz (Si eN aR back n):=λt76 t77 t78 b2 r h=>ie h (λc0 h=>be h λx2 cW h=>be h λx9 kD h=>let zA:SE:=[aw c0,(0,cT.idx cW),vP (j4 kD)];ie h (λc1 h=>bG h zA [aw c1]) (λc1 h=>cL (aS h) zA [aw c1])) (λc0 h=>ra (bK h) [aw c0])
def Ak (eN:iF->ag->Option Bool) (aR:Option Bool):Nat->bJ->Int->Int->iF->Option Bool
 |0=>λ_ _ _ _=>none
 |n+1=>Si eN aR (Ak eN aR n) n
def aqz {eN} (j4:sL eN) {aR} (bK:TL aR):∀n:Nat,Bz (Ak eN aR n)
 |0=>λ_ _ _ _ _ h=>nz h
 |n+1=>aHn j4 bK (aqz j4 bK n) n
def Sg (eN:iF->ag->Option Bool) (n:Nat):Option Bool:=
 some true
def aHm {eN} (j4:sL eN) (n:Nat):TL (Sg eN n):=λr h=>rr h []
def Lh (eN:iF->ag->Option Bool) (n:Nat) (t50:Bool) (b2:iF) (b3:ag):Option Bool:=
 if t50 then
 some false
 else
 if b3.eC !=0 then
 some false
 else
 if !((b3.bW.aC==0) && ((b3.bW.cJ==0) && (((b3.bW.aV.aC==0) && ((b3.bW.aV.dw==0) && ((decide (b3.bW.aV.cP=ByteArray.empty)) && true))) && true))) then
 some false
 else
 if !((b3.bF.aC==0) && ((b3.bF.cJ==0) && (((b3.bF.aV.aC==0) && ((b3.bF.aV.dw==0) && ((decide (b3.bF.aV.cP=ByteArray.empty)) && true))) && true))) then
 some false
 else
 Ak eN (Sg eN n) n b3.fArgs (b3.fArgs.length:Int) 0 b2
def arE {eN} (j4:sL eN) (n:Nat):K3 (VG (cZ 885)) aAq (Lh eN n):=λt50 b2 b3 r h=>ie h (λc0 bO=>by subst c0;exact (rr bO [])) (λc0 bO=>by subst c0;exact (ie bO (λc1 bO=>rr bO [bq c1]) (λc1 bO=>ie bO (λc2 bO=>rr bO [bq c1,bT c2]) (λc2 bO=>ie bO (λc3 bO=>rr bO [bq c1,bT c2,fL c3]) (λc3 bO=>ra (aqz j4 (aHm j4 n) n bO) [bq c1,bT c2,fL c3,(3,cT.cw b3.fArgs)])))))
def Sf (eN:iF->ag->Option Bool) (cV:Option Bool) (back:Wf35) (n:Nat) (t76:bJ) (t77 t78:Int) (b2:iF):Option Bool:=
 if decide (t78<t77) then
 (idx t76 t78).bind λx2=>(eN b2 x2).bind λx9=>if !x9 then
 some false
 else
 back t76 t77 (bh (t78+1)) b2
 else
 cV
def TK:=K0 (VG [1,1,1,1]) aAp
def aHl {eN} (j4:sL eN) {cV} (eZ:TK cV) {back} (aS:Bz back) (n:Nat):Bz (Sf eN cV back n):=λt76 t77 t78 b2 r h=>ie h (λc0 h=>be h λx2 cW h=>be h λx9 kD h=>let zA:SE:=[aw c0,(0,cT.idx cW),vP (j4 kD)];ie h (λc1 h=>bG h zA [aw c1]) (λc1 h=>cL (aS h) zA [aw c1])) (λc0 h=>ra (eZ h) [aw c0])
def Aj (eN:iF->ag->Option Bool) (cV:Option Bool):Nat->bJ->Int->Int->iF->Option Bool
 |0=>λ_ _ _ _=>none
 |n+1=>Sf eN cV (Aj eN cV n) n
def aqy {eN} (j4:sL eN) {cV} (eZ:TK cV):∀n:Nat,Bz (Aj eN cV n)
 |0=>λ_ _ _ _ _ h=>nz h
 |n+1=>aHl j4 eZ (aqy j4 eZ n) n
def Se (eN:iF->ag->Option Bool) (n:Nat):Option Bool:=
 some true
def aHk {eN} (j4:sL eN) (n:Nat):TK (Se eN n):=λr h=>rr h []
def GJ (eN:iF->ag->Option Bool) (n:Nat) (b2:iF) (b3:ag):Option Bool:=
 if b3.eC !=0 then
 some false
 else
 if !((b3.bW.aC==0) && ((b3.bW.cJ==0) && (((b3.bW.aV.aC==0) && ((b3.bW.aV.dw==0) && ((decide (b3.bW.aV.cP=ByteArray.empty)) && true))) && true))) then
 some false
 else
 if !((b3.bF.aC==0) && ((b3.bF.cJ==0) && (((b3.bF.aV.aC==0) && ((b3.bF.aV.dw==0) && ((decide (b3.bF.aV.cP=ByteArray.empty)) && true))) && true))) then
 some false
 else
 Aj eN (Se eN n) n b3.fArgs (b3.fArgs.length:Int) 0 b2
def acP {eN} (j4:sL eN) (n:Nat):K2 (VG [1,1]) aAo (GJ eN n):=λb2 b3 r h=>ie h (λc0 h=>rr h [bq c0]) (λc0 h=>ie h (λc1 h=>rr h [bq c0,bT c1]) (λc1 h=>ie h (λc2 h=>rr h [bq c0,bT c1,fL c2]) (λc2 h=>ra (aqy j4 (aHk j4 n) n h) [bq c0,bT c1,fL c2,(3,cT.cw b3.fArgs)])))
def afy (eN:iF->ag->Option Bool) (n:Nat) (k0:iF) (p1:ag):Option Bool:=
 if p1.bu==3 then
 (adS n k0 p1.bW).bind λdn=>(adS n k0 p1.bF).bind λgA=>if (p1.fArgs.length:Int)==0 then
 if !decide (p1.eC<1) then
 if !decide (6<p1.eC) then
 if dn !=0 then
 some (dn==gA)
 else
 some false
 else
 some false
 else
 some false
 else
 some false
 else
 if p1.bu==1 then
 Lh eN n ((p1.fArgs.length:Int) !=0) k0 p1
 else
 if p1.bu==2 then
 Lh eN n ((p1.fArgs.length:Int) !=0) k0 p1
 else
 if p1.bu==6 then
 if (p1.fArgs.length:Int) !=1 then
 some false
 else
 GJ eN n k0 p1
 else
 if p1.bu==4 then
 GJ eN n k0 p1
 else
 if p1.bu==5 then
 GJ eN n k0 p1
 else
 some false
def aHj {eN} (j4:sL eN) (n:Nat):K2 (VG []) ahE (afy eN n):=λk0 p1 r h=>ie h (λc0 h=>be h λdn gh h=>be h λgA kZ h=>let zA:SE:=[fL c0,qS (axJ n gh),na (axJ n kZ),(4,cT.cw p1.fArgs)];ie h (λc1 h=>let zB:SE:=dk zA [aw c1];ie h (λc2 h=>ie h (λc3 h=>ie h (λc4 h=>bG h zB [bw c2,bT c3,bw c4]) (λc4 h=>bG h zB [bw c2,bT c3,bw c4])) (λc3 h=>bG h zB [bw c2,bT c3])) (λc2 h=>bG h zB [bw c2])) (λc1 h=>bG h zA [aw c1])) (λc0 h=>ie h (λc1 h=>ra (arE j4 n h) [fL c0,aU c1,(3,cT.cw p1.fArgs)]) (λc1 h=>let zA:SE:=[fL c0,aU c1];ie h (λc2 h=>cL (arE j4 n h) zA [aU c2,(3,cT.cw p1.fArgs)]) (λc2 h=>let zB:SE:=dk zA [aU c2];ie h (λc3 h=>let zC:SE:=dk zB [aU c3,(3,cT.cw p1.fArgs)];ie h (λc4 h=>bG h zC [aw c4]) (λc4 h=>cL (acP j4 n h) zC [aw c4])) (λc3 h=>ie h (λc4 h=>cL (acP j4 n h) zB [aU c3,aU c4]) (λc4 h=>ie h (λc5 h=>cL (acP j4 n h) zB [aU c3,aU c4,aU c5]) (λc5 h=>bG h zB [aU c3,aU c4,aU c5]))))))
def wx:Nat->iF->ag->Option Bool
 |0,_,_=>none
 |n+1,k0,p1=>afy (wx n) n k0 p1
def axQ:∀n:Nat,sL (wx n)
 |0=>λ_ _ _ h=>nz h
 |n+1=>λ_ _ _ h=>ca (X:=x103) (aHj (axQ n) n h)
def vh:=fx E0 Tryz.f46 [] []
def A46:=Ax vh eB cu
def anA (n:Nat) (eu params1:aH) (p2:ag):Option Int:=
 (aeh n eu).bind λx4=>if !x4 then
 some 1
 else
 (aeh n params1).bind λx9=>if !x9 then
 some 1
 else
 (Vx n p2 1 24).bind λgA=>if !gA.1 then
 some 2
 else
 (wx n (iF.mk eu params1) p2).bind λkQ=>if !kQ then
 some 50
 else
 some 0
def aJS (n:Nat):K3 (A46 []) By (anA n):=λeu params1 p2 r h=>be h λx4 kY h=>let zA:SE:=[na (axS n kY)];ie h (λc0 h=>bG h zA [aw c0]) (λc0 h=>be h λx9 kD h=>let zB:SE:=dk zA [aw c0,jK (axS n kD)];ie h (λc1 h=>bG h zB [aw c1]) (λc1 h=>be h λgA kZ h=>let zC:SE:=dk zB [aw c1,(4,dh (axR n kZ) [(7,2)])];ie h (λc2 h=>bG h zC [aw c2]) (λc2 h=>be h λkQ Hl h=>let zD:SE:=dk zC [aw c2,qS (axQ n Hl)];ie h (λc3 h=>bG h zD [aw c3]) (λc3 h=>bG h zD [aw c3]))))
def F46:=anA
def ev46 (n:Nat):K3 (Cx E0 46 eB cu) By (F46 n):=λ_ _ _ _ h=>ca (X:=vh) (aJS n h)
def fq:=fx E0 Tryz.f15 [] []
def A15:=Ax fq eB cu
def aDk (JF:aH) (t58:bl) (t59 t60:Int) (t69:bJ) (t70 t71:Int) (b1:af):LS:=⟨[(1,.loc 1 0),(7,iR JF),(58,sS t58),(59,aN t59),(60,aN t60),(69,B3 t69),(70,aN t70),(71,aN t71)],[(1,jD (eP b1))]⟩
def aoo (t58:bl) (t59 t60:Int) (b1:af):LS:=⟨[(1,.loc 1 0),(58,sS t58),(59,aN t59),(60,aN t60)],[(1,jD (eP b1))]⟩
def aDj:LS:=⟨[],[]⟩
def Yz (dZ:KA) (back:Vl) (n:Nat) (t16:bl) (t17 t18:Int) (b1:af):Option Int:=
 if decide (t18<t17) then
 (idx t16 t18).bind λx2=>if decide (8<(x2.ae.length:Int)) then
 some 2
 else
 if decide (4<(x2.ak.length:Int)) then
 some 2
 else
 if decide (4<(x2.aD.length:Int)) then
 some 2
 else
 back t16 t17 (bh (t18+1)) b1
 else
 dZ b1
def TJ:=K1 (A15 [1,1,1]) OO
def TH:=K4 (A15 [0,1,0,1,1]) aof
def aKD {dZ} (gH:TJ dZ) {back} (aS:TH back) (n:Nat):TH (Yz dZ back n):=λt16 t17 t18 b1 r h=>ie h (λc0 h=>be h λx2 cW h=>let zA:SE:=[aw c0,(0,bI.idx cW),(5,dv.cw x2.ae)];ie h (λc1 h=>bG h zA [aw c1]) (λc1 h=>let zB:SE:=dk zA [aw c1,(3,dM.cw x2.ak)];ie h (λc2 h=>bG h zB [aw c2]) (λc2 h=>let zC:SE:=dk zB [aw c2,(4,cT.cw x2.aD)];ie h (λc3 h=>bG h zC [aw c3]) (λc3 h=>cL (aS h) zC [aw c3])))) (λc0 h=>ra (gH h) [aw c0])
def MT (dZ:KA):Nat->bl->Int->Int->af->Option Int
 |0=>λ_ _ _ _=>none
 |n+1=>Yz dZ (MT dZ n) n
def awX {dZ} (gH:TJ dZ):∀n:Nat,TH (MT dZ n)
 |0=>λ_ _ _ _ _ h=>nz h
 |n+1=>aKD gH (awX gH n) n
def Yy (bR:Vl) (back:aH->bl->Int->Int->bJ->Int->Int->af->Option Int) (n:Nat) (JF:aH) (t58:bl) (t59 t60:Int) (t69:bJ) (t70 t71:Int) (b1:af):Option Int:=
 if decide (t71<t70) then
 (idx t69 t71).bind λx2=>(F46 n JF [] x2).bind λx9=>if x9 !=0 then
 some x9
 else
 back JF t58 t59 t60 t69 t70 (bh (t71+1)) b1
 else
 bR t58 t59 t60 b1
def TF:=K4 (A15 (cZ 3887)) aoo
def TE:=K8 (A15 (cZ 95023)) aDk
def aKC {bR} (dA:TF bR) {back} (aS:TE back) (n:Nat):TE (Yy bR back n):=λJF t58 t59 t60 t69 t70 t71 b1 r h=>ie h (λc0 h=>be h λx2 cW h=>be h λx9 kD h=>let zA:SE:=[aw c0,(0,cT.idx cW),(5,atT (ev46 n kD) [.one .same,.one (.sl 3 1)])];ie h (λc1 h=>bG h zA [bq c1]) (λc1 h=>cL (aS h) zA [bq c1])) (λc0 h=>ra (dA h) [aw c0])
def MS (bR:Vl):Nat->aH->bl->Int->Int->bJ->Int->Int->af->Option Int
 |0=>λ_ _ _ _ _ _ _ _=>none
 |n+1=>Yy bR (MS bR n) n
def awW {bR} (dA:TF bR):∀n:Nat,TE (MS bR n)
 |0=>λ_ _ _ _ _ _ _ _ _ h=>nz h
 |n+1=>aKC dA (awW dA n) n
def Yx (cA:Vl) (n:Nat) (t58:bl) (t59 t60:Int) (b1:af):Option Int:=
 cA t58 t59 (bh (t60+1)) b1
def L2:=K4 (A15 (cZ 175)) aoo
def aKB {cA} (dX:L2 cA) (n:Nat):TF (Yx cA n):=λt58 t59 t60 b1 r h=>ra (dX h) []
def Yw (cV:Option Int) (back:Vl) (n:Nat) (t58:bl) (t59 t60:Int) (b1:af):Option Int:=
 if decide (t60<t59) then
 (idx t58 t60).bind λx3=>(F45 n b1 t60).bind λdn=>MS (Yx back n) n dn t58 t59 t60 x3.aD (x3.aD.length:Int) 0 b1
 else
 cV
def TD:=K0 (A15 [1,1,1,1,1]) aDj
def aKA {cV} (eZ:TD cV) {back} (aS:L2 back) (n:Nat):L2 (Yw cV back n):=λt58 t59 t60 b1 r h=>ie h (λc0 h=>be h λx3 fX h=>be h λdn gh h=>ra (awW (aKB aS n) n h) [aw c0,(1,bI.idx fX),(6,rT (ev45 n gh) [(67,dg)]),(3,cT.cw x3.aD),(1,R3.gx 67 dn)]) (λc0 h=>ra (eZ h) [aw c0])
def H6 (cV:Option Int):Nat->bl->Int->Int->af->Option Int
 |0=>λ_ _ _ _=>none
 |n+1=>Yw cV (H6 cV n) n
def awV {cV} (eZ:TD cV):∀n:Nat,L2 (H6 cV n)
 |0=>λ_ _ _ _ _ h=>nz h
 |n+1=>aKA eZ (awV eZ n) n
def Rr (n:Nat):Option Int:=
 some 0
def aKz (n:Nat):TD (Rr n):=λr h=>rr h []
def Yv (n:Nat) (b1:af):Option Int:=
 if decide (b1.av<0) then
 some 70
 else
 if decide (1000<b1.av) then
 some 70
 else
 (F43 n b1).bind λdn=>if !dn then
 some 70
 else
 (F44 n b1).bind λjA=>if !jA then
 some 70
 else
 H6 (Rr n) n b1.ai (b1.ai.length:Int) 0 b1
def aKy (n:Nat):TJ (Yv n):=λb1 r h=>ie h (λc0 h=>rr h [bq c0]) (λc0 h=>ie h (λc1 h=>rr h [bq c0,bw c1]) (λc1 h=>be h λdn gh h=>let zA:SE:=[bq c0,bw c1,na (ev43 n gh)];ie h (λc2 h=>bG h zA [aw c2]) (λc2 h=>be h λjA mr h=>let zB:SE:=dk zA [aw c2,na (ev44 n mr)];ie h (λc3 h=>bG h zB [aw c3]) (λc3 h=>cL (awV (aKz n) n h) zB [aw c3,(3,bI.cw b1.ai)]))))
def anK (n:Nat) (s0:af):Option Int:=
 if decide (8<(s0.ai.length:Int)) then
 some 2
 else
 MT (Yv n) n s0.ai (s0.ai.length:Int) 0 s0
def aKx (n:Nat):K1 (A15 []) pM (anK n):=λs0 r h=>ie h (λc0 h=>rr h [(4,bI.cw s0.ai),aw c0]) (λc0 h=>ra (awX (aKy n) n h) [(4,bI.cw s0.ai),aw c0,(2,bI.cw s0.ai)])
def F15:=anK
def auM (n:Nat):K1 (Cx E0 15 eB cu) pM (F15 n):=λ_ _ h=>ca (X:=fq) (aKx n h)
def x147:=fx E0 Tryz.f147 [] []
def A147:=Ax x147 eB cu
def ahq (c0:Int):LS:=⟨[(0,aN c0)],[]⟩
def asb (n:Nat) (c0:Int):Option Int:=
 some c0
def aGc (n:Nat):K1 (A147 []) ahq (asb n):=λc0 r h=>rr h []
def aeb:=asb
def axK (n:Nat):K1 (Cx E0 147 eB cu) ahq (aeb n):=λ_ _ h=>ca (X:=x147) (aGc n h)
def x146:=fx E0 Tryz.f146 [] []
def afJ:=Ax x146 Fb cu
def C146:=Cx E0 146 Fb cu
def azD (t33:bJ) (t34 t35:Int) (b4 b5:ag) (qt:bJ):LS:=⟨[(1,.fn 147 [] []),(4,.loc 4 0),(5,.loc 5 0),(33,B3 t33),(34,aN t34),(35,aN t35)],[(4,q9_ b4),(5,aku b5 qt.length),(45,Jh qt)]⟩
def azC (b4 b5:ag) (qt:bJ):LS:=⟨[(4,.loc 4 0),(5,.loc 5 0)],[(4,q9_ b4),(5,aku b5 qt.length),(45,Jh qt)]⟩
def ahs (b2 b4 b5:ag):LS:=⟨[(1,.fn 147 [] []),(2,.loc 2 0),(4,.loc 4 0),(5,.loc 5 0)],[(2,pE (eX b2)),(4,Uk),(5,pE (eX b5))]⟩
def ahr (p0:ag):LS:=⟨[(0,.agg (eX p0)),(1,.fn 147 [] [])],[]⟩
def RC (iX:ag->Option ag) (aR:amK) (back:bJ->Int->Int->ag->ag->bJ->Option ag) (n:Nat) (t33:bJ) (t34 t35:Int) (b4 b5:ag) (qt:bJ):Option ag:=
 if decide (t35<t34) then
 (idx t33 t35).bind λx2=>(iX x2).bind λdn=>(app qt [dn]).bind λja=>back t33 t34 (bh (t35+1)) (ag.mk b4.bu b4.eC b4.bW b4.bF []) (ag.mk b5.bu b5.eC b5.bW b5.bF ja) ja
 else
 aR (ag.mk b4.bu b4.eC b4.bW b4.bF []) (ag.mk b5.bu b5.eC b5.bW b5.bF qt) qt
def yz:=K1 C146 ahr
def TB:=K3 (afJ (cZ 127)) azC
def TA:=K6 (afJ (cZ 351)) azD
def aGf {iX} (qk:yz iX) {aR} (bK:TB aR) {back} (aS:TA back) (n:Nat):TA (RC iX aR back n):=λt33 t34 t35 b4 b5 qt r h=>ie h (λc0 h=>be h λx2 cW h=>be h λdn gh h=>be h λja lC h=>ra (aS h) [aw c0,(0,cT.idx cW),XA (qk gh),(0,.laid (bA (Bx.rows false 107 13) (cT.map [dn]).symm)),(0,cT.app lC (cT.tK [dn]))]) (λc0 h=>ra (bK h) [aw c0])
def Gc (iX:ag->Option ag) (aR:amK):Nat->bJ->Int->Int->ag->ag->bJ->Option ag
 |0=>λ_ _ _ _ _ _=>none
 |n+1=>RC iX aR (Gc iX aR n) n
def aqe {iX} (qk:yz iX) {aR} (bK:TB aR):∀n:Nat,TA (Gc iX aR n)
 |0=>λ_ _ _ _ _ _ _ h=>nz h
 |n+1=>aGf qk bK (aqe qk bK n) n
def RB (iX:ag->Option ag) (n:Nat) (b4 b5:ag) (qt:bJ):Option ag:=
 some (ag.mk b5.bu b5.eC b5.bW b5.bF qt)
def aGe {iX} (qk:yz iX) (n:Nat):TB (RB iX n):=λb4 b5 qt r h=>rr h [(2,cT.gx 45 qt),(0,.norm [] [(4,.flat [.same,.same,.same,.same,.same,.same,.same,.same,.same,.same,.same,.same,.sl 0 0])])]
def KZ (iX:ag->Option ag) (n:Nat) (b2 b4 b5:ag):Option ag:=
 Gc iX (RB iX n) n b2.fArgs (b2.fArgs.length:Int) 0 (ag.mk 0 0 (aL.mk 0 0 (bj.mk 0 0 ByteArray.empty)) (aL.mk 0 0 (bj.mk 0 0 ByteArray.empty)) []) (ag.mk b5.bu b5.eC b5.bW b5.bF []) []
def arA {iX} (qk:yz iX) (n:Nat):K3 (afJ [1,1,1,1]) ahs (KZ iX n):=λb2 b4 b5 r h=>ra (aqe qk (aGe qk n) n h) [(4,cT.cw b2.fArgs),(1,.born [] [(5,12)] 45 true 107 13)]
def KY (iX:ag->Option ag) (n:Nat) (b2 b4 b5:ag):Option ag:=
 if b5.bF.aC==1 then
 (aeb n b5.bF.cJ).bind λx9=>KZ iX n b2 (ag.mk 0 0 (aL.mk 0 0 (bj.mk 0 0 ByteArray.empty)) (aL.mk 0 0 (bj.mk 0 0 ByteArray.empty)) []) (ag.mk b5.bu b5.eC b5.bW (aL.mk b5.bF.aC x9 b5.bF.aV) b5.fArgs)
 else
 KZ iX n b2 (ag.mk 0 0 (aL.mk 0 0 (bj.mk 0 0 ByteArray.empty)) (aL.mk 0 0 (bj.mk 0 0 ByteArray.empty)) []) b5
def arz {iX} (qk:yz iX) (n:Nat):K3 (afJ [1,1,1]) ahs (KY iX n):=λb2 b4 b5 r h=>ie h (λc0 h=>be h λx9 kD h=>ra (arA qk n h) [bw c0,qS (axK n kD)]) (λc0 h=>ra (arA qk n h) [bw c0])
def afh (iX:ag->Option ag) (n:Nat) (p0:ag):Option ag:=
 if p0.bW.aC==1 then
 (aeb n p0.bW.cJ).bind λja=>KY iX n p0 (ag.mk 0 0 (aL.mk 0 0 (bj.mk 0 0 ByteArray.empty)) (aL.mk 0 0 (bj.mk 0 0 ByteArray.empty)) []) (ag.mk p0.bu p0.eC (aL.mk p0.bW.aC ja p0.bW.aV) p0.bF p0.fArgs)
 else
 KY iX n p0 (ag.mk 0 0 (aL.mk 0 0 (bj.mk 0 0 ByteArray.empty)) (aL.mk 0 0 (bj.mk 0 0 ByteArray.empty)) []) p0
def aGd {iX} (qk:yz iX) (n:Nat):K1 (afJ []) ahr (afh iX n):=λp0 r h=>ie h (λc0 h=>be h λja lC h=>ra (arz qk n h) [tw c0,qS (axK n lC)]) (λc0 h=>ra (arz qk n h) [tw c0])
def H7:Nat->ag->Option ag
 |0,_=>none
 |n+1,p0=>afh (H7 n) n p0
def axL:∀n:Nat,yz (H7 n)
 |0=>λ_ _ h=>nz h
 |n+1=>λ_ _ h=>ca (X:=x146) (aGd (axL n) n h)
def x159:=fx E0 Tryz.f159 [] []
def A159:=Ax x159 eB cu
def azs (jy:Int) (t23:Bool):LS:=⟨[(0,aN jy),(23,.bool t23)],[]⟩
def ahl (jy db fu:Int):LS:=⟨[(0,aN jy),(1,aN db),(2,aN fu)],[]⟩
def GF (n:Nat) (jy:Int) (t23:Bool):Option Int:=
 if t23 then
 some (bh (jy+1))
 else
 some jy
def Qt (n:Nat):K2 (A159 (cZ 505)) azs (GF n):=λjy t23 r h=>ie h (λc0 bO=>by subst c0;exact (rr bO [])) (λc0 bO=>by subst c0;exact (rr bO []))
def aeV (n:Nat) (jy db fu:Int):Option Int:=
 if jy==db then
 some fu
 else
 if decide (db<jy) then
 if !decide (fu<jy) then
 some (bh (jy - 1))
 else
 if !decide (jy<fu) then
 GF n jy (decide (jy<db))
 else
 GF n jy false
 else
 if !decide (jy<fu) then
 GF n jy (decide (jy<db))
 else
 GF n jy false
def aFF (n:Nat):K3 (A159 []) ahl (aeV n):=λjy db fu r h=>ie h (λc0 h=>rr h [bw c0]) (λc0 h=>ie h (λc1 h=>ie h (λc2 h=>rr h [bw c0,bw c1,bw c2]) (λc2 h=>ie h (λc3 h=>ra (Qt n h) [bw c0,bw c1,bw c2,bT c3]) (λc3 h=>ra (Qt n h) [bw c0,bw c1,bw c2,bT c3]))) (λc1 h=>ie h (λc2 h=>ra (Qt n h) [bw c0,bw c1,fL c2]) (λc2 h=>ra (Qt n h) [bw c0,bw c1,fL c2])))
def anb:=aeV
def aIJ (n:Nat):K3 (Cx E0 159 eB cu) ahl (anb n):=λ_ _ _ _ h=>ca (X:=x159) (aFF n h)
def aoL (r:(Int×Int×Bool)):AV:=.cm [aN r.1,aN r.2.1,.bool r.2.2]
def x113:=fx E0 Tryz.f113 [] []
def A113:=Ax x113 aoL cu
def ahC (m0:aE) (gk lT:Int):LS:=⟨[(0,.agg (ng m0)),(1,aN gk),(2,aN lT)],[]⟩
def afw (n:Nat) (m0:aE) (gk lT:Int):Option (Int×Int×Bool):=
 if m0.bu==7 then
 if gk==m0.aO then
 some ((-1),(-1),false)
 else
 if decide (m0.aO<gk) then
 some (bh (gk - 1),lT,true)
 else
 some (gk,lT,true)
 else
 if m0.bu==2 then
 if gk==m0.aO then
 if !decide (lT<0) then
 if lT==m0.aX then
 some (gk,(-1),false)
 else
 if decide (m0.aX<lT) then
 some (gk,bh (lT - 1),true)
 else
 some (gk,lT,true)
 else
 some (gk,lT,true)
 else
 some (gk,lT,true)
 else
 if m0.bu==3 then
 if gk==m0.aO then
 if !decide (lT<0) then
 (anb n lT m0.aX m0.jo).bind λBL=>some (gk,BL,true)
 else
 some (gk,lT,true)
 else
 some (gk,lT,true)
 else
 some (gk,lT,true)
def aHh (n:Nat):K3 (A113 []) ahC (afw n):=λm0 gk lT r h=>ie h (λc0 h=>ie h (λc1 h=>rr h [jj c0,bT c1]) (λc1 h=>ie h (λc2 h=>rr h [jj c0,bT c1,bw c2]) (λc2 h=>rr h [jj c0,bT c1,bw c2]))) (λc0 h=>ie h (λc1 h=>let zA:SE:=[jj c0,aU c1];ie h (λc2 h=>let zB:SE:=dk zA [bT c2];ie h (λc3 h=>ie h (λc4 h=>bG h zB [bq c3,bT c4]) (λc4 h=>ie h (λc5 h=>bG h zB [bq c3,bT c4,bw c5]) (λc5 h=>bG h zB [bq c3,bT c4,bw c5]))) (λc3 h=>bG h zB [bq c3])) (λc2 h=>bG h zA [bT c2])) (λc1 h=>let zA:SE:=[jj c0,aU c1];ie h (λc2 h=>ie h (λc3 h=>ie h (λc4 h=>be h λBL N3 h=>bG h zA [aU c2,bT c3,bq c4,aly (aIJ n N3)]) (λc4 h=>bG h zA [aU c2,bT c3,bq c4])) (λc3 h=>bG h zA [aU c2,bT c3])) (λc2 h=>bG h zA [aU c2])))
def avK:=afw
def aJc (n:Nat):K3 (Cx E0 113 aoL cu) ahC (avK n):=λ_ _ _ _ h=>ca (X:=x113) (aHh n h)
def x198:=fx E0 Tryz.f198 [1,9000] [1,9000]
def A198:=AxS x198 [1,9000] eB cu
def C198:=CxS E0 198 [1,9000] eB cu
def agY (c0:Int) (t1:az):LS:=⟨[(0,aN c0),(1,.loc 1 0)],[(1,aao),(9000,q0_ t1 xp)]⟩
def aet (n:Nat) (c0:Int) (t1:az):Option Int:=
 (avK n t1.fm t1.fm.aO c0).bind λly=>some ly.2.1
def aEy (n:Nat):K2 (A198 []) agY (aet n):=λc0 t1 r h=>be h λly nU h=>rrS h [(11,Dx (aJc n nU))]
def Oq:=aet
def alV (n:Nat):K2 C198 agY (Oq n):=λ_ _ _ h=>caS (X:=x198) (aEy n h)
def awb:=fx E0 Tryz.f146 [9000,th] [9000,th]
def Sl:=AxS awb [9000,100100] Fb cu
def aKL:=CxS E0 146 [9000,100100] Fb cu
def asy (t33:bJ) (t34 t35:Int) (jM:az) (b4 b5:ag) (qt:bJ):LS:=⟨[(1,.fn 198 [] [.loc th 0]),(4,.loc 4 0),(5,.loc 5 0),(33,B3 t33),(34,aN t34),(35,aN t35)],[(4,q9_ b4),(5,aku b5 qt.length),(45,Jh qt),(9000,q0_ jM xp),(th,aao)]⟩
def asx (jM:az) (b4 b5:ag) (qt:bJ):LS:=⟨[(4,.loc 4 0),(5,.loc 5 0)],[(4,q9_ b4),(5,aku b5 qt.length),(45,Jh qt),(9000,q0_ jM xp),(th,aao)]⟩
def YU (jM:az) (b2 b4 b5:ag):LS:=⟨[(1,.fn 198 [] [.loc th 0]),(2,.loc 2 0),(4,.loc 4 0),(5,.loc 5 0)],[(2,pE (eX b2)),(4,Uk),(5,pE (eX b5)),(9000,q0_ jM xp),(th,aao)]⟩
def YT (p0:ag) (jM:az):LS:=⟨[(0,.agg (eX p0)),(1,.fn 198 [] [.loc th 0])],[(9000,q0_ jM xp),(th,aao)]⟩
def M6 (gB:ag->az->Option ag) (aR:Wf36) (back:bJ->Int->Int->az->ag->ag->bJ->Option ag) (n:Nat) (t33:bJ) (t34 t35:Int) (jM:az) (b4 b5:ag) (qt:bJ):Option ag:=
 if decide (t35<t34) then
 (idx t33 t35).bind λx2=>(gB x2 jM).bind λdn=>(app qt [dn]).bind λja=>back t33 t34 (bh (t35+1)) jM (ag.mk b4.bu b4.eC b4.bW b4.bF []) (ag.mk b5.bu b5.eC b5.bW b5.bF ja) ja
 else
 aR jM (ag.mk b4.bu b4.eC b4.bW b4.bF []) (ag.mk b5.bu b5.eC b5.bW b5.bF qt) qt
def yy:=K2 aKL YT
def Tz:=K4 (Sl (cZ 127)) asx
def Ty:=K7 (Sl (cZ 351)) asy
def aBA {gB} (nN:yy gB) {aR} (bK:Tz aR) {back} (aS:Ty back) (n:Nat):Ty (M6 gB aR back n):=λt33 t34 t35 jM b4 b5 qt r h=>ie h (λc0 h=>be h λx2 cW h=>be h λdn gh h=>be h λja lC h=>raS (aS h) (by kernel_rfl) [aw c0,(0,cT.idx cW),(7,dh (nN gh) [(9000,9000),(th,th)]),(0,.laid (bA (Bx.rows false 107 13) (cT.map [dn]).symm)),(0,cT.app lC (cT.tK [dn]))]) (λc0 h=>raS (bK h) (by kernel_rfl) [aw c0])
def BH (gB:ag->az->Option ag) (aR:Wf36):Nat->bJ->Int->Int->az->ag->ag->bJ->Option ag
 |0=>λ_ _ _ _ _ _ _=>none
 |n+1=>M6 gB aR (BH gB aR n) n
def aiq {gB} (nN:yy gB) {aR} (bK:Tz aR):∀n:Nat,Ty (BH gB aR n)
 |0=>λ_ _ _ _ _ _ _ _ h=>nz h
 |n+1=>aBA nN bK (aiq nN bK n) n
def M5 (gB:ag->az->Option ag) (n:Nat) (jM:az) (b4 b5:ag) (qt:bJ):Option ag:=
 some (ag.mk b5.bu b5.eC b5.bW b5.bF qt)
def aBz {gB} (nN:yy gB) (n:Nat):Tz (M5 gB n):=λjM b4 b5 qt r h=>rrS h [(2,cT.gx 45 qt),(0,.norm [] [(4,.flat [.same,.same,.same,.same,.same,.same,.same,.same,.same,.same,.same,.same,.sl 0 0])])]
def GI (gB:ag->az->Option ag) (n:Nat) (jM:az) (b2 b4 b5:ag):Option ag:=
 BH gB (M5 gB n) n b2.fArgs (b2.fArgs.length:Int) 0 jM (ag.mk 0 0 (aL.mk 0 0 (bj.mk 0 0 ByteArray.empty)) (aL.mk 0 0 (bj.mk 0 0 ByteArray.empty)) []) (ag.mk b5.bu b5.eC b5.bW b5.bF []) []
def aiG {gB} (nN:yy gB) (n:Nat):K4 (Sl [1,1,1,1]) YU (GI gB n):=λjM b2 b4 b5 r h=>raS (aiq nN (aBz nN n) n h) (by kernel_rfl) [(4,cT.cw b2.fArgs),(1,.born [] [(5,12)] 45 true 107 13)]
def GH (gB:ag->az->Option ag) (n:Nat) (jM:az) (b2 b4 b5:ag):Option ag:=
 if b5.bF.aC==1 then
 (Oq n b5.bF.cJ jM).bind λx9=>GI gB n jM b2 (ag.mk 0 0 (aL.mk 0 0 (bj.mk 0 0 ByteArray.empty)) (aL.mk 0 0 (bj.mk 0 0 ByteArray.empty)) []) (ag.mk b5.bu b5.eC b5.bW (aL.mk b5.bF.aC x9 b5.bF.aV) b5.fArgs)
 else
 GI gB n jM b2 (ag.mk 0 0 (aL.mk 0 0 (bj.mk 0 0 ByteArray.empty)) (aL.mk 0 0 (bj.mk 0 0 ByteArray.empty)) []) b5
def aiF {gB} (nN:yy gB) (n:Nat):K4 (Sl [1,1,1]) YU (GH gB n):=λjM b2 b4 b5 r h=>ie h (λc0 h=>be h λx9 kD h=>raS (aiG nN n h) (by kernel_rfl) [bw c0,(4,dh (alV n kD) [(th,1),(9000,9000)])]) (λc0 h=>raS (aiG nN n h) (by kernel_rfl) [bw c0])
def VB (gB:ag->az->Option ag) (n:Nat) (p0:ag) (jM:az):Option ag:=
 if p0.bW.aC==1 then
 (Oq n p0.bW.cJ jM).bind λja=>GH gB n jM p0 (ag.mk 0 0 (aL.mk 0 0 (bj.mk 0 0 ByteArray.empty)) (aL.mk 0 0 (bj.mk 0 0 ByteArray.empty)) []) (ag.mk p0.bu p0.eC (aL.mk p0.bW.aC ja p0.bW.aV) p0.bF p0.fArgs)
 else
 GH gB n jM p0 (ag.mk 0 0 (aL.mk 0 0 (bj.mk 0 0 ByteArray.empty)) (aL.mk 0 0 (bj.mk 0 0 ByteArray.empty)) []) p0
def aBy {gB} (nN:yy gB) (n:Nat):K2 (Sl []) YT (VB gB n):=λp0 jM r h=>ie h (λc0 h=>be h λja lC h=>raS (aiF nN n h) (by kernel_rfl) [tw c0,(4,dh (alV n lC) [(th,1),(9000,9000)])]) (λc0 h=>raS (aiF nN n h) (by kernel_rfl) [tw c0])
def Bn:Nat->ag->az->Option ag
 |0,_,_=>none
 |n+1,p0,jM=>VB (Bn n) n p0 jM
def aqY:∀n:Nat,yy (Bn n)
 |0=>λ_ _ _ h=>nz h
 |n+1=>λ_ _ _ h=>caS (X:=awb) (aBy (aqY n) n h)
def x96:=fx E0 Tryz.f96 [] [nZ,vo,tU]
def A96:=Ax x96 O9 L8
def aCs (t17:cf) (t18 t19:Int) (b1 b2 b3:ah) (cx:cG) (gR:cf):LS:=⟨[(1,.loc 1 0),(2,.loc 2 0),(3,.loc 3 0),(17,xj t17),(18,aN t18),(19,aN t19)],[(1,sR (ji b1)),(2,Ji b2.ar b2),(3,.flat 44 [.str b3.ar,.ms 12 2 0 cx.length,tN b3,lB qj gR.length,.cR]),(12,akk cx),(qj,yD gR)]⟩
def aCr (t36:bJ) (t37 t38:Int) (b2 b3:ah) (cx:cG) (FP:bJ) (gR:cf):LS:=⟨[(2,.loc 2 0),(3,.loc 3 0),(36,B3 t36),(37,aN t37),(38,aN t38)],[(2,Ji b2.ar b2),(3,.flat 44 [.str b3.ar,.ms 12 2 0 cx.length,tN b3,lB qj gR.length,.ms 47 13 0 FP.length]),(12,akk cx),(47,Jh FP),(qj,yD gR)]⟩
def aCq (b2 b3:ah) (cx:cG) (FP:bJ) (gR:cf):LS:=⟨[(2,.loc 2 0),(3,.loc 3 0)],[(2,Ji b2.ar b2),(3,.flat 44 [.str b3.ar,.ms 12 2 0 cx.length,tN b3,lB qj gR.length,.ms 47 13 0 FP.length]),(12,akk cx),(47,Jh FP),(qj,yD gR)]⟩
def aCp (b1 b2 b3:ah) (cx:cG) (gR:cf):LS:=⟨[(1,.loc 1 0),(2,.loc 2 0),(3,.loc 3 0)],[(1,sR (ji b1)),(2,Ji b2.ar b2),(3,.flat 44 [.str b3.ar,.ms 12 2 0 cx.length,tN b3,lB qj gR.length,.cR]),(12,akk cx),(qj,yD gR)]⟩
def XY (cA:Wf37) (back:cf->Int->Int->ah->ah->ah->cG->cf->Option ah) (n:Nat) (t17:cf) (t18 t19:Int) (b1 b2 b3:ah) (cx:cG) (gR:cf):Option ah:=
 if decide (t19<t18) then
 (idx t17 t19).bind λx2=>(app [] x2.ae).bind λdn=>(app gR [(bf.mk dn x2.aO)]).bind λjA=>(setAt jA gR.length (bf.mk dn x2.aO)).bind λz21=>back t17 t18 (bh (t19+1)) b1 (ah.mk b2.ar [] b2.aP [] []) (ah.mk b3.ar cx b3.aP z21 []) cx z21
 else
 cA b1 (ah.mk b2.ar [] b2.aP [] []) (ah.mk b3.ar cx b3.aP gR []) cx gR
def Tx:=K5 (A96 [1,1,1]) aCp
def Tw:=K8 (A96 [0,1,0,1,1]) aCs
def aJs {cA} (dX:Tx cA) {back} (aS:Tw back) (n:Nat):Tw (XY cA back n):=λt17 t18 t19 b1 b2 b3 cx gR r h=>ie h (λc0 h=>be h λx2 cW h=>be h λdn gh h=>be h λjA mr h=>be h λz21 xw h=>ra (aS h) [aw c0,(0,dM.idx cW),(3,.born [] [] 27 true 3 1),(4,R3.app (xs:= []) gh .CB),(4,dM.IX mr),(2,.beq qj (bA (λq_=>Bx.tree 121 2 aaq q_ [(gR.length*2+0,.ms 27 1 0 dn.length)]) (dM.apS (r:= (oj x2.aO)) mr))),(0,.ey 27 [.d]),(0,dM.ij R3 (r:= (oj x2.aO)) qj 27 0 false 3 1 dn xw),(2,.beq 3 (bA (λn_=>(Bx.flat 44 [.str b3.ar,.ms 12 2 0 cx.length,tN b3,lB qj n_,.cR])) (((dM.apL mr).trans (ep xw)))))]) (λc0 h=>ra (dX h) [aw c0])
def ME (cA:Wf37):Nat->cf->Int->Int->ah->ah->ah->cG->cf->Option ah
 |0=>λ_ _ _ _ _ _ _ _=>none
 |n+1=>XY cA (ME cA n) n
def awA {cA} (dX:Tx cA):∀n:Nat,Tw (ME cA n)
 |0=>λ_ _ _ _ _ _ _ _ _ h=>nz h
 |n+1=>aJs dX (awA dX n) n
def XX (bR:Wf38) (back:bJ->Int->Int->ah->ah->cG->bJ->cf->Option ah) (n:Nat) (t36:bJ) (t37 t38:Int) (b2 b3:ah) (cx:cG) (FP:bJ) (gR:cf):Option ah:=
 if decide (t38<t37) then
 (idx t36 t38).bind λx2=>(H7 n x2).bind λeA=>(app FP [eA]).bind λeT=>back t36 t37 (bh (t38+1)) (ah.mk b2.ar [] b2.aP [] []) (ah.mk b3.ar cx b3.aP gR eT) cx eT gR
 else
 bR (ah.mk b2.ar [] b2.aP [] []) (ah.mk b3.ar cx b3.aP gR FP) cx FP gR
def Tv:=K5 (A96 [1,1,1,1]) aCq
def Tu:=K8 (A96 (cZ 87)) aCr
def aJr {bR} (dA:Tv bR) {back} (aS:Tu back) (n:Nat):Tu (XX bR back n):=λt36 t37 t38 b2 b3 cx FP gR r h=>ie h (λc0 h=>be h λx2 cW h=>be h λeA mH h=>be h λeT jE h=>ra (aS h) [aw c0,(0,cT.idx cW),aly (axL n mH),(0,.laid (bA (Bx.rows false 107 13) (cT.map [eA]).symm)),(0,cT.app jE (cT.tK [eA]))]) (λc0 h=>ra (dA h) [aw c0])
def MD (bR:Wf38):Nat->bJ->Int->Int->ah->ah->cG->bJ->cf->Option ah
 |0=>λ_ _ _ _ _ _ _ _=>none
 |n+1=>XX bR (MD bR n) n
def awz {bR} (dA:Tv bR):∀n:Nat,Tu (MD bR n)
 |0=>λ_ _ _ _ _ _ _ _ _ h=>nz h
 |n+1=>aJr dA (awz dA n) n
def ant (n:Nat) (b2 b3:ah) (cx:cG) (FP:bJ) (gR:cf):Option ah:=
 some (ah.mk b3.ar cx b3.aP gR FP)
def aJq (n:Nat):Tv (ant n):=λb2 b3 cx FP gR r h=>rr h [(2,.fO 12 nZ),(0,.norm [] [(nZ,.any)]),(0,.fO qj vo),(0,.fO 47 tU),(0,.norm [] [(tU,.any)])]
def XW (n:Nat) (b1 b2 b3:ah) (cx:cG) (gR:cf):Option ah:=
 MD (ant n) n b1.aD (b1.aD.length:Int) 0 (ah.mk b2.ar [] b2.aP [] []) (ah.mk b3.ar cx b3.aP gR []) cx [] gR
def aJp (n:Nat):Tx (XW n):=λb1 b2 b3 cx gR r h=>ra (awz (aJq n) n h) [(2,cT.cw b1.aD),(1,.born [] [(3,4)] 47 true 107 13)]
def ans (n:Nat) (t0:ah):Option ah:=
 (app [] t0.ae).bind λx7=>ME (XW n) n t0.ak (t0.ak.length:Int) 0 t0 (ah.mk ByteArray.empty [] 0 [] []) (ah.mk t0.ar x7 t0.aP [] []) x7 []
def aJo (n:Nat):K1 (A96 []) LP (ans n):=λt0 r h=>be h λx7 kX h=>ra (awA (aJp n) n h) [(2,.born [] [] 12 true 73 2),(4,dv.app (xs:= []) kX .CB),(7,dM.cw t0.ak),(1,.born [] [(3,3)] qj true 121 2),(0,.ey qj aaq)]
def F96:=ans
def ev96 (n:Nat):K1 (Cx E0 96 O9 L8) LP (F96 n):=λ_ _ h=>ca (X:=x96) (aJo n h)
def awo (r:af):AV:=.agg [aas r,.ms nZ 5 0 r.ai.length]
def aoZ (r:af):List (Nat×Bx):= [(nZ,.tree 44 5 l8 (dy r.ai) [])]
def EX:=fx E0 Tryz.f41 [] [nZ]
def A41:=Ax EX awo aoZ
def aCW (t10:bl) (t11 t12:Int) (b2 b3:af) (nG:bl):LS:=⟨[(2,.loc 2 0),(3,.loc 3 0),(10,sS t10),(11,aN t11),(12,aN t12)],[(2,yC b2),(3,mS b3 so nG.length),(so,sU nG)]⟩
def aCV (b2 b3:af) (nG:bl):LS:=⟨[(2,.loc 2 0),(3,.loc 3 0)],[(2,yC b2),(3,mS b3 so nG.length),(so,sU nG)]⟩
def Yp (aR:Wf39) (back:bl->Int->Int->af->af->bl->Option af) (n:Nat) (t10:bl) (t11 t12:Int) (b2 b3:af) (nG:bl):Option af:=
 if decide (t12<t11) then
 (idx t10 t12).bind λx2=>(F96 n x2).bind λeA=>(app nG [eA]).bind λeT=>(setAt eT nG.length eA).bind λwF=>back t10 t11 (bh (t12+1)) (af.mk b2.av []) (af.mk b3.av wF) wF
 else
 aR (af.mk b2.av []) (af.mk b3.av nG) nG
def Tt:=K3 (A41 [1,1,1]) aCV
def Tq:=K6 (A41 [0,1,0,1,1]) aCW
def aKl {aR} (bK:Tt aR) {back} (aS:Tq back) (n:Nat):Tq (Yp aR back n):=λt10 t11 t12 b2 b3 nG r h=>ie h (λc0 h=>be h λx2 cW h=>be h λeA mH h=>be h λeT jE h=>be h λwF pF h=>ra (aS h) [aw c0,(0,bI.idx cW),(6,rT (ev96 n mH) [(330190001,nZ),(330190003,vo),(330190004,tU)]),(1,bI.IX jE),(2,.beq so (bA (λq_=>Bx.tree 44 5 l8 q_ [(nG.length*5+1,lB 330190001 eA.ae.length),(nG.length*5+3,.ms 330190003 2 0 eA.ak.length),(nG.length*5+4,.ms 330190004 13 0 eA.aD.length)]) (bI.apS (r:= (fF eA.ar eA)) jE))),(0,.ey 330190001 [.d,.d]),(0,bI.jr dv (r:= (fF eA.ar eA)) so 330190001 1 false 73 2 eA.ae pF (Jg eA.ar eA)),(0,bI.jr dM (r:= (Jg eA.ar eA)) so 330190003 3 false 121 2 eA.ak pF (yE eA)),(0,.ey 330190004 sV),(0,bI.ij cT (r:= (yE eA)) so 330190004 4 false 107 13 eA.aD pF),(2,.beq 3 (bA (mS b3 so) (((bI.apL jE).trans (ep pF)))))]) (λc0 h=>ra (bK h) [aw c0])
def MP (aR:Wf39):Nat->bl->Int->Int->af->af->bl->Option af
 |0=>λ_ _ _ _ _ _=>none
 |n+1=>Yp aR (MP aR n) n
def awR {aR} (bK:Tt aR):∀n:Nat,Tq (MP aR n)
 |0=>λ_ _ _ _ _ _ _ h=>nz h
 |n+1=>aKl bK (awR bK n) n
def anE (n:Nat) (b2 b3:af) (nG:bl):Option af:=
 some (af.mk b3.av nG)
def aKk (n:Nat):Tt (anE n):=λb2 b3 nG r h=>rr h [(2,.fO so nZ)]
def anD (n:Nat) (s0:af):Option af:=
 MP (anE n) n s0.ai (s0.ai.length:Int) 0 (af.mk 0 []) (af.mk s0.av []) []
def aKj (n:Nat):K1 (A41 []) pM (anD n):=λs0 r h=>ra (awR (aKk n) n h) [(9,bI.cw s0.ai),(1,.born [] [(3,1)] so true 44 5),(0,.ey so l8)]
def F41:=anD
def HB (n:Nat):K1 (Cx E0 41 awo aoZ) pM (F41 n):=λ_ _ h=>ca (X:=EX) (aKj n h)
def aoH (r:Nat):AV:=.el bp 5 r 0
def x178:=fx E0 Tryz.f178 [0,bp] [0,bp]
def A178:=AxS x178 [0,8589934592] aoH cu
def C178:=CxS E0 178 [0,8589934592] aoH cu
def mB (g0:az):LS:=⟨[(0,.loc 0 0)],(NN g0 bp)⟩
def Rg (n:Nat) (g0:az):Option Nat:=
 (fE g0.br.ai.length g0.fm.aO).bind λly=>some (0+ly)
def aFb (n:Nat):K1 (A178 []) mB (Rg n):=λg0 r h=>be h λly nU h=>rrS h [(11,dO nU)]
def C4:=Rg
def Mp (n:Nat):K1 C178 mB (C4 n):=λ_ _ h=>caS (X:=x178) (aFb n h)
def ahR (r:ah):AV:=.iw (ji r)
def awa:=fx E0 Tryz.f178 [] []
def aKM:=Ax awa ahR cu
def yw (g0:az):LS:=⟨[(0,.iw (Cv g0))],[]⟩
def Vz (n:Nat) (g0:az):Option ah:=
 (idx g0.br.ai g0.fm.aO).bind λly=>some ly
def aBx (n:Nat):K1 (aKM []) yw (Vz n):=λg0 r h=>be h λly nU h=>rr h [(11,bI.idx nU)]
def Ea:=Vz
def Kh (n:Nat):K1 (Cx E0 178 ahR cu) yw (Ea n):=λ_ _ h=>ca (X:=awa) (aBx n h)
def x179:=fx E0 Tryz.f179 [] []
def A179:=Ax x179 dq cu
def ahe (v0:bj) (fy:Int):LS:=⟨[(0,.agg (DK v0)),(1,aN fy)],[]⟩
def aeF (n:Nat) (v0:bj) (fy:Int):Option Bool:=
 (adQ n v0).bind λx4=>if x4 then
 some (v0.aC==fy)
 else
 some false
def aFa (n:Nat):K2 (A179 []) ahe (aeF n):=λv0 fy r h=>be h λx4 kY h=>let zA:SE:=[na (axI n kY)];ie h (λc0 bO=>by subst c0;exact (rr bO zA)) (λc0 bO=>by subst c0;exact (rr bO zA))
def Vt:=aeF
def alX (n:Nat):K2 (Cx E0 179 dq cu) ahe (Vt n):=λ_ _ _ h=>ca (X:=x179) (aFa n h)
def qe (r:(Bool×az)):AV:=.bool r.1
def pP (r:(Bool×az)):List (Nat×Bx):= (NN r.2 bp)
def x148:=fx E0 Tryz.f148 [0,bp] [0,bp]
def A148:=Ax x148 qe pP
def afg (n:Nat) (g0:az):Option (Bool×az):=
 (C4 n g0).bind λx3=>(g0.br.ai[x3]?).bind λu6=>(app u6.ae [(cO.mk g0.fm.ar g0.fm.aC)]).bind λiG=>(Vt n g0.fm.aV g0.fm.aC).bind λx40=>(setAt g0.br.ai x3 (ah.mk u6.ar iG u6.aP u6.ak u6.aD)).bind λz43=>some (x40,(az.mk (af.mk g0.br.av z43) g0.fm))
def aGb (n:Nat):K1 (A148 []) mB (afg n):=λg0 r h=>be h λx3 fX h=>be h λu6 zW h=>be h λiG oS h=>be h λx40 hx40 h=>be h λz43 hz43 h=>rr h [(2,dh (Mp n fX) [(0,0),(bp,bp)]),(1,bI.oh dv bp fg 1 false 73 2 u6.ae zW (fB u6)),(17,dv.app oS (dv.tK [(cO.mk g0.fm.ar g0.fm.aC)])),(2,bI.UN 1 (fB u6) (fB u6) zW),(10,Dx (alX n hx40)),(1,.ey fg [.d,.d]),(0,bI.ij dv (r:= (fB u6)) bp fg 1 false 73 2 iG hz43),(0,.beq 0 (bA (rh g0 bp) (ep hz43)))]
def aea:=afg
def aIS (n:Nat):K1 (Cx E0 148 qe pP) mB (aea n):=λ_ _ h=>ca (X:=x148) (aGb n h)
def x180:=fx E0 Tryz.f180 [] []
def A180:=Ax x180 dq cu
def ahd (g0:az) (c1:Int):LS:=⟨[(0,.iw (Cv g0)),(1,aN c1)],[]⟩
def aeE (n:Nat) (g0:az) (c1:Int):Option Bool:=
 (Ea n g0).bind λx3=>if !decide (c1<x3.aP) then
 some (decide (c1<(x3.ae.length:Int)))
 else
 some false
def aEZ (n:Nat):K2 (A180 []) ahd (aeE n):=λg0 c1 r h=>be h λx3 fX h=>let zA:SE:=[jK (Kh n fX)];ie h (λc0 h=>bG h zA [jj c0,(6,dv.cw x3.ae)]) (λc0 h=>bG h zA [jj c0])
def Ou:=aeE
def XH (n:Nat):K2 (Cx E0 180 dq cu) ahd (Ou n):=λ_ _ _ h=>ca (X:=x180) (aEZ n h)
def x217:=fx E0 Tryz.f217 [] []
def avP:=Ax x217 eB cu
def ayH (s0:aH) (v1 t7 t8:Int):LS:=⟨[(0,iR s0),(1,aN v1),(7,aN t7),(8,aN t8)],[]⟩
def ayG:LS:=⟨[],[]⟩
def LI (s0:aH) (v1:Int):LS:=⟨[(0,iR s0),(1,aN v1)],[]⟩
def QX (aR:Option Int) (back:aH->Int->Int->Int->Option Int) (n:Nat) (s0:aH) (v1 t7 t8:Int):Option Int:=
 if decide (t8<t7) then
 (idx s0 t8).bind λx7=>if v1==x7 then
 some t8
 else
 back s0 v1 t7 (bh (t8+1))
 else
 aR
def Tp:=K0 (avP [1,1]) ayG
def To:=K4 (avP [0,1,0,1]) ayH
def aEr {aR} (bK:Tp aR) {back} (aS:To back) (n:Nat):To (QX aR back n):=λs0 v1 t7 t8 r h=>ie h (λc0 h=>be h λx7 kX h=>ie h (λc1 h=>rr h [aw c0,(5,R3.idx kX),aU c1]) (λc1 h=>ra (aS h) [aw c0,(5,R3.idx kX),aU c1])) (λc0 h=>ra (bK h) [aw c0])
def FU (aR:Option Int):Nat->aH->Int->Int->Int->Option Int
 |0=>λ_ _ _ _=>none
 |n+1=>QX aR (FU aR n) n
def apE {aR} (bK:Tp aR):∀n:Nat,To (FU aR n)
 |0=>λ_ _ _ _ _ h=>nz h
 |n+1=>aEr bK (apE bK n) n
def QW (n:Nat):Option Int:=
 some (-1)
def aEq (n:Nat):Tp (QW n):=λr h=>rr h []
def aer (n:Nat) (s0:aH) (v1:Int):Option Int:=
 FU (QW n) n s0 v1 (s0.length:Int) 0
def aEp (n:Nat):K2 (avP []) LI (aer n):=λs0 v1 r h=>ra (apE (aEq n) n h) [(2,R3.cw s0)]
def avB:=aer
def aIt (n:Nat):K2 (Cx E0 217 eB cu) LI (avB n):=λ_ _ _ h=>ca (X:=x217) (aEp n h)
def x196:=fx E0 Tryz.f196 [] []
def A196:=Ax x196 dq cu
def aev (n:Nat) (s0:aH) (v1:Int):Option Bool:=
 (avB n s0 v1).bind λx4=>some (!decide (x4<0))
def aEA (n:Nat):K2 (A196 []) LI (aev n):=λs0 v1 r h=>be h λx4 kY h=>rr h [na (aIt n kY)]
def adG:=aev
def axr (n:Nat):K2 (Cx E0 196 dq cu) LI (adG n):=λ_ _ _ h=>ca (X:=x196) (aEA n h)
def x214:=fx E0 Tryz.f214 [] []
def A214:=Ax x214 eB cu
def LJ (x0:Int):LS:=⟨[(0,.int .u64 x0)],[]⟩
def arV (n:Nat) (x0:Int):Option Int:=
 if !decide (x0<4294967296) then
 none
 else
 if !decide (x0<65536) then
 none
 else
 if !decide (x0<256) then
 none
 else
 (Hb (ByteArray.mk #[0,1,2,2,3,3,3,3,4,4,4,4,4,4,4,4,5,5,5,5,5,5,5,5,5,5,5,5,5,5,5,5,6,6,6,6,6,6,6,6,6,6,6,6,6,6,6,6,6,6,6,6,6,6,6,6,6,6,6,6,6,6,6,6,7,7,7,7,7,7,7,7,7,7,7,7,7,7,7,7,7,7,7,7,7,7,7,7,7,7,7,7,7,7,7,7,7,7,7,7,7,7,7,7,7,7,7,7,7,7,7,7,7,7,7,7,7,7,7,7,7,7,7,7,7,7,7,7,8,8,8,8,8,8,8,8,8,8,8,8,8,8,8,8,8,8,8,8,8,8,8,8,8,8,8,8,8,8,8,8,8,8,8,8,8,8,8,8,8,8,8,8,8,8,8,8,8,8,8,8,8,8,8,8,8,8,8,8,8,8,8,8,8,8,8,8,8,8,8,8,8,8,8,8,8,8,8,8,8,8,8,8,8,8,8,8,8,8,8,8,8,8,8,8,8,8,8,8,8,8,8,8,8,8,8,8,8,8,8,8,8,8,8,8,8,8,8,8,8,8,8,8,8,8,8,8]) (IntKind.wrap .u8 (x0))).bind λdn=>some (bh (0+(bh ((dn.toNat:Int)))))
def aEv (n:Nat):K1 (A214 []) LJ (arV n):=λx0 r h=>ie h (λc0 h=>nz h) (λc0 h=>ie h (λc1 h=>nz h) (λc1 h=>ie h (λc2 h=>nz h) (λc2 h=>be h λdn gh h=>rr h [bq c0,aU c1,aU c2,(3,.chr (Dv gh))])))
def F214:=arV
def aIv (n:Nat):K1 (Cx E0 214 eB cu) LJ (F214 n):=λ_ _ h=>ca (X:=x214) (aEv n h)
def x191:=fx E0 Tryz.f191 [] []
def A191:=Ax x191 eB cu
def arW (n:Nat) (x0:Int):Option Int:=
 (F214 n x0).bind λx3=>some x3
def aEH (n:Nat):K1 (A191 []) LJ (arW n):=λx0 r h=>be h λx3 fX h=>rr h [jK (aIv n fX)]
def Vr:=arW
def aIA (n:Nat):K1 (Cx E0 191 eB cu) LJ (Vr n):=λ_ _ h=>ca (X:=x191) (aEH n h)
def aoF (r:(aH×aH)):AV:=.ms im 1 0 r.2.length
def ahV (r:(aH×aH)):List (Nat×Bx):= [(im,v8 r.2)]
def x218:=fx E0 Tryz.f218 [im] [im]
def VC:=Ax x218 aoF ahV
def C218:=Cx E0 218 aoF ahV
def ayF (t16:kC) (t17:Int) (gd:aH) (b3:ag) (b6:aL):LS:=⟨[(0,.ms im 1 0 gd.length),(3,.loc 3 0),(6,.loc 6 0),(16,.agg (Qc t16)),(17,aN t17)],[(3,pE (eX b3)),(6,.flat 105 (qn b6)),(im,v8 gd)]⟩
def ayE (t16:kC) (t17:Int) (gd:aH) (b3:ag):LS:=⟨[(0,.ms im 1 0 gd.length),(3,.loc 3 0),(16,.agg (Qc t16)),(17,aN t17)],[(3,pE (eX b3)),(im,v8 gd)]⟩
def ayD (t35:bJ) (t36 t37:Int) (gd:aH):LS:=⟨[(0,.ms im 1 0 gd.length),(35,B3 t35),(36,aN t36),(37,aN t37)],[(im,v8 gd)]⟩
def ayC (gd:aH):LS:=⟨[(0,.ms im 1 0 gd.length)],[(im,v8 gd)]⟩
def ayB (gd:aH) (b3:ag):LS:=⟨[(0,.ms im 1 0 gd.length),(3,.loc 3 0)],[(3,pE (eX b3)),(im,v8 gd)]⟩
def agU (rR:aH) (p1:ag):LS:=⟨[(0,.ms im 1 0 rR.length),(1,.agg (eX p1))],[(im,v8 rR)]⟩
def KO (fR:aH->ag->Option (aH×aH)) (aR:Wf40) (n:Nat) (t16:kC) (t17:Int) (gd:aH) (b3:ag) (b6:aL):Option (aH×aH):=
 if b6.aC==1 then
 if !decide (b6.cJ<0) then
 (app gd [b6.cJ]).bind λeT=>aR t16 (bh (t17+1)) eT b3
 else
 aR t16 (bh (t17+1)) gd b3
 else
 aR t16 (bh (t17+1)) gd b3
def uz:=K2 C218 agU
def L1:=K4 (VC (cZ 85)) ayE
def art {fR} (mu:uz fR) {aR} (bK:L1 aR) (n:Nat):K5 (VC (cZ 6549)) ayF (KO fR aR n):=λt16 t17 gd b3 b6 r h=>ie h (λc0 h=>ie h (λc1 h=>be h λeT jE h=>ra (bK h) [bq c0,bw c1,(5,R3.app jE (R3.tK [b6.cJ]))]) (λc1 h=>ra (bK h) [bq c0,bw c1])) (λc0 h=>ra (bK h) [bq c0])
def arU (fR:aH->ag->Option (aH×aH)) (cV:Wf41) (back:Wf40) (n:Nat) (t16:kC) (t17:Int) (gd:aH) (b3:ag):Option (aH×aH):=
 if decide (t17<2) then
 if t17==0 then
 KO fR back n t16 0 gd b3 t16.f0
 else
 if t17==1 then
 KO fR back n t16 1 gd b3 t16.f1
 else
 none
 else
 cV gd b3
def Tn:=K2 (VC [1,1]) ayB
def aEo {fR} (mu:uz fR) {cV} (eZ:Tn cV) {back} (aS:L1 back) (n:Nat):L1 (arU fR cV back n):=λt16 t17 gd b3 r h=>ie h (λc0 h=>ie h (λc1 bO=>by have c1:=eq_of_beq c1;subst c1;exact (
 ra (art mu aS n bO) [])) (λc1 h=>ie h (λc2 bO=>by have c2:=eq_of_beq c2;subst c2;exact (
 ra (art mu aS n bO) [])) (λc2 h=>nz h))) (λc0 h=>ra (eZ h) [aw c0])
def vF (fR:aH->ag->Option (aH×aH)) (cV:Wf41):Nat->kC->Int->aH->ag->Option (aH×aH)
 |0=>λ_ _ _ _=>none
 |n+1=>arU fR cV (vF fR cV n) n
def apD {fR} (mu:uz fR) {cV} (eZ:Tn cV):∀n:Nat,L1 (vF fR cV n)
 |0=>λ_ _ _ _ _ h=>nz h
 |n+1=>aEo mu eZ (apD mu eZ n) n
def QV (fR:aH->ag->Option (aH×aH)) (cA:aH->Option (aH×aH)) (back:bJ->Int->Int->aH->Option (aH×aH)) (n:Nat) (t35:bJ) (t36 t37:Int) (gd:aH):Option (aH×aH):=
 if decide (t37<t36) then
 (idx t35 t37).bind λx2=>(fR gd x2).bind λx9=>back t35 t36 (bh (t37+1)) x9.2
 else
 cA gd
def Tm:=K1 (VC [1,1,1]) ayC
def Tl:=K4 (VC [0,1,0,1,1]) ayD
def aEn {fR} (mu:uz fR) {cA} (dX:Tm cA) {back} (aS:Tl back) (n:Nat):Tl (QV fR cA back n):=λt35 t36 t37 gd r h=>ie h (λc0 h=>be h λx2 cW h=>be h λx9 kD h=>ra (aS h) [aw c0,(0,cT.idx cW),(5,dh (mu kD) [(im,im)])]) (λc0 h=>ra (dX h) [aw c0])
def FT (fR:aH->ag->Option (aH×aH)) (cA:aH->Option (aH×aH)):Nat->bJ->Int->Int->aH->Option (aH×aH)
 |0=>λ_ _ _ _=>none
 |n+1=>QV fR cA (FT fR cA n) n
def apC {fR} (mu:uz fR) {cA} (dX:Tm cA):∀n:Nat,Tl (FT fR cA n)
 |0=>λ_ _ _ _ _ h=>nz h
 |n+1=>aEn mu dX (apC mu dX n) n
def QU (fR:aH->ag->Option (aH×aH)) (n:Nat) (gd:aH):Option (aH×aH):=
 some (gd,gd)
def aEm {fR} (mu:uz fR) (n:Nat):Tm (QU fR n):=λgd r h=>rr h []
def Gz (fR:aH->ag->Option (aH×aH)) (n:Nat) (gd:aH) (b3:ag):Option (aH×aH):=
 FT fR (QU fR n) n b3.fArgs (b3.fArgs.length:Int) 0 gd
def ars {fR} (mu:uz fR) (n:Nat):Tn (Gz fR n):=λgd b3 r h=>ra (apC mu (aEm mu n) n h) [(2,cT.cw b3.fArgs)]
def aeq (fR:aH->ag->Option (aH×aH)) (n:Nat) (rR:aH) (p1:ag):Option (aH×aH):=
 if p1.bu==3 then
 vF fR (Gz fR n) n (kC.mk p1.bW p1.bF) 0 rR p1
 else
 Gz fR n rR p1
def aEl {fR} (mu:uz fR) (n:Nat):K2 (VC []) agU (aeq fR n):=λrR p1 r h=>ie h (λc0 h=>ra (apD mu (ars mu n) n h) [bT c0]) (λc0 h=>ra (ars mu n h) [bT c0])
def EA:Nat->aH->ag->Option (aH×aH)
 |0,_,_=>none
 |n+1,rR,p1=>aeq (EA n) n rR p1
def axq:∀n:Nat,uz (EA n)
 |0=>λ_ _ _ h=>nz h
 |n+1=>λ_ _ _ h=>ca (X:=x218) (aEl (axq n) n h)
def avZ:=fx E0 Tryz.f218 [] [dg]
def M7:=Ax avZ Dd Fg
def asw (t16:kC) (t17:Int) (eY:aH) (b3:ag) (b6:aL):LS:=⟨[(0,.ms 32 1 0 eY.length),(3,.loc 3 0),(6,.loc 6 0),(16,.agg (Qc t16)),(17,aN t17)],[(3,pE (eX b3)),(6,.flat 105 (qn b6)),(32,Ui eY)]⟩
def asv (t16:kC) (t17:Int) (eY:aH) (b3:ag):LS:=⟨[(0,.ms 32 1 0 eY.length),(3,.loc 3 0),(16,.agg (Qc t16)),(17,aN t17)],[(3,pE (eX b3)),(32,Ui eY)]⟩
def asu (t35:bJ) (t36 t37:Int) (eY:aH):LS:=⟨[(0,.ms 32 1 0 eY.length),(35,B3 t35),(36,aN t36),(37,aN t37)],[(32,v8 eY)]⟩
def ast (eY:aH):LS:=⟨[(0,.ms 32 1 0 eY.length)],[(32,v8 eY)]⟩
def ass (eY:aH) (b3:ag):LS:=⟨[(0,.ms 32 1 0 eY.length),(3,.loc 3 0)],[(3,pE (eX b3)),(32,Ui eY)]⟩
def YS (p1:ag):LS:=⟨[(0,.cR),(1,.agg (eX p1))],[]⟩
def GG (aR:Wf42) (n:Nat) (t16:kC) (t17:Int) (eY:aH) (b3:ag) (b6:aL):Option aH:=
 if b6.aC==1 then
 if !decide (b6.cJ<0) then
 (app eY [b6.cJ]).bind λeT=>aR t16 (bh (t17+1)) eT b3
 else
 aR t16 (bh (t17+1)) eY b3
 else
 aR t16 (bh (t17+1)) eY b3
def L0:=K4 (M7 (cZ 85)) asv
def aiE {aR} (bK:L0 aR) (n:Nat):K5 (M7 (cZ 6549)) asw (GG aR n):=λt16 t17 eY b3 b6 r h=>ie h (λc0 h=>ie h (λc1 h=>be h λeT jE h=>ra (bK h) [bq c0,bw c1,(5,R3.app jE (R3.tK [b6.cJ]))]) (λc1 h=>ra (bK h) [bq c0,bw c1])) (λc0 h=>ra (bK h) [bq c0])
def ajm (cV:amN) (back:Wf42) (n:Nat) (t16:kC) (t17:Int) (eY:aH) (b3:ag):Option aH:=
 if decide (t17<2) then
 if t17==0 then
 GG back n t16 0 eY b3 t16.f0
 else
 if t17==1 then
 GG back n t16 1 eY b3 t16.f1
 else
 none
 else
 cV eY b3
def Tk:=K2 (M7 [1,1]) ass
def aBw {cV} (eZ:Tk cV) {back} (aS:L0 back) (n:Nat):L0 (ajm cV back n):=λt16 t17 eY b3 r h=>ie h (λc0 h=>ie h (λc1 bO=>by have c1:=eq_of_beq c1;subst c1;exact (
 ra (aiE aS n bO) [])) (λc1 h=>ie h (λc2 bO=>by have c2:=eq_of_beq c2;subst c2;exact (
 ra (aiE aS n bO) [])) (λc2 h=>nz h))) (λc0 h=>ra (eZ h) [aw c0])
def sQ (cV:amN):Nat->kC->Int->aH->ag->Option aH
 |0=>λ_ _ _ _=>none
 |n+1=>ajm cV (sQ cV n) n
def aip {cV} (eZ:Tk cV):∀n:Nat,L0 (sQ cV n)
 |0=>λ_ _ _ _ _ h=>nz h
 |n+1=>aBw eZ (aip eZ n) n
def M4 (cA:Wf0) (back:bJ->Int->Int->aH->Option aH) (n:Nat) (t35:bJ) (t36 t37:Int) (eY:aH):Option aH:=
 if decide (t37<t36) then
 (idx t35 t37).bind λx2=>(EA n eY x2).bind λx9=>back t35 t36 (bh (t37+1)) x9.2
 else
 cA eY
def Tj:=K1 (M7 [1,1,1]) ast
def Ti:=K4 (M7 [0,1,0,1,1]) asu
def aBv {cA} (dX:Tj cA) {back} (aS:Ti back) (n:Nat):Ti (M4 cA back n):=λt35 t36 t37 eY r h=>ie h (λc0 h=>be h λx2 cW h=>be h λx9 kD h=>ra (aS h) [aw c0,(0,cT.idx cW),(5,dh (axq n kD) [(32,im)])]) (λc0 h=>ra (dX h) [aw c0])
def BG (cA:Wf0):Nat->bJ->Int->Int->aH->Option aH
 |0=>λ_ _ _ _=>none
 |n+1=>M4 cA (BG cA n) n
def aio {cA} (dX:Tj cA):∀n:Nat,Ti (BG cA n)
 |0=>λ_ _ _ _ _ h=>nz h
 |n+1=>aBv dX (aio dX n) n
def M3 (n:Nat) (eY:aH):Option aH:=
 some eY
def aBu (n:Nat):Tj (M3 n):=λeY r h=>rr h [(2,.fO 32 dg)]
def BI (n:Nat) (eY:aH) (b3:ag):Option aH:=
 BG (M3 n) n b3.fArgs (b3.fArgs.length:Int) 0 eY
def aiD (n:Nat):Tk (BI n):=λeY b3 r h=>ra (aio (aBu n) n h) [(2,cT.cw b3.fArgs)]
def Vy (n:Nat) (p1:ag):Option aH:=
 if p1.bu==3 then
 sQ (BI n) n (kC.mk p1.bW p1.bF) 0 [] p1
 else
 BI n [] p1
def aBt (n:Nat):K1 (M7 []) YS (Vy n):=λp1 r h=>ie h (λc0 h=>ra (aip (aiD n) n h) [bT c0,(6,.born [0] [] 32 true 3 1)]) (λc0 h=>ra (aiD n h) [bT c0,(0,.born [0] [] 32 true 3 1)])
def XU:=Vy
def aDV (n:Nat):K1 (Cx E0 218 Dd Fg) YS (XU n):=λ_ _ h=>ca (X:=avZ) (aBt n h)
def x197:=fx E0 Tryz.f197 [] [dg]
def A197:=Ax x197 Dd Fg
def aeu (n:Nat) (p0:ag):Option aH:=
 (XU n p0).bind λx4=>(adP n x4).bind λx8=>(lZ x8.length x4.length).bind λw9=>(adF n x8).bind λly=>some ly.2
def aEz (n:Nat):K1 (A197 []) Bw (aeu n):=λp0 r h=>be h λx4 kY h=>be h λx8 ss h=>be h λw9 hw9 h=>be h λly nU h=>rr h [(3,rT (aDV n kY) [(5,dg)]),(2,dh (aIF n ss) [(5,0)]),(1,.seq 8 (bA (AV.ms 5 1 0) ((yB hw9).symm))),(0,dh (aIs n nU) [(5,0)]),(1,.fO 5 dg)]
def amU:=aeu
def aIz (n:Nat):K1 (Cx E0 197 Dd Fg) Bw (amU n):=λ_ _ h=>ca (X:=x197) (aEz n h)
def x181:=fx E0 Tryz.f181 [] []
def afF:=Ax x181 dq cu
def ayZ (g0:az) (t3:ah) (t13:cf) (t14 t15:Int):LS:=⟨[(0,.iw (Cv g0)),(3,.iw (ji t3)),(13,xj t13),(14,aN t14),(15,aN t15)],[]⟩
def ayY (g0:az) (t31:bJ) (t32 t33:Int):LS:=⟨[(0,.iw (Cv g0)),(31,B3 t31),(32,aN t32),(33,aN t33)],[]⟩
def ayX:LS:=⟨[],[]⟩
def ayW (g0:az) (t3:ah):LS:=⟨[(0,.iw (Cv g0)),(3,.iw (ji t3))],[]⟩
def Rf (cA:az->ah->Option Bool) (back:az->ah->cf->Int->Int->Option Bool) (n:Nat) (g0:az) (t3:ah) (t13:cf) (t14 t15:Int):Option Bool:=
 if decide (t15<t14) then
 (idx t13 t15).bind λx2=>(adG n x2.ae g0.fm.aX).bind λja=>if ja then
 some true
 else
 back g0 t3 t13 t14 (bh (t15+1))
 else
 cA g0 t3
def Th:=K2 (afF [1,1,1]) ayW
def Tg:=K5 (afF [0,1,0,1,1]) ayZ
def aEY {cA} (dX:Th cA) {back} (aS:Tg back) (n:Nat):Tg (Rf cA back n):=λg0 t3 t13 t14 t15 r h=>ie h (λc0 h=>be h λx2 cW h=>be h λja lC h=>let zA:SE:=[aw c0,(0,dM.idx cW),(10,Dx (axr n lC))];ie h (λc1 bO=>by subst c1;exact (rr bO zA)) (λc1 bO=>by subst c1;exact (ra (aS bO) zA))) (λc0 h=>ra (dX h) [aw c0])
def FZ (cA:az->ah->Option Bool):Nat->az->ah->cf->Int->Int->Option Bool
 |0=>λ_ _ _ _ _=>none
 |n+1=>Rf cA (FZ cA n) n
def apO {cA} (dX:Th cA):∀n:Nat,Tg (FZ cA n)
 |0=>λ_ _ _ _ _ _ h=>nz h
 |n+1=>aEY dX (apO dX n) n
def Re (bR:Option Bool) (back:az->bJ->Int->Int->Option Bool) (n:Nat) (g0:az) (t31:bJ) (t32 t33:Int):Option Bool:=
 if decide (t33<t32) then
 (idx t31 t33).bind λx2=>(amU n x2).bind λx8=>(adG n x8 g0.fm.aX).bind λfq=>if fq then
 some true
 else
 back g0 t31 t32 (bh (t33+1))
 else
 bR
def Te:=K0 (afF [1,1,1,1]) ayX
def Td:=K4 (afF (cZ 87)) ayY
def aEX {bR} (dA:Te bR) {back} (aS:Td back) (n:Nat):Td (Re bR back n):=λg0 t31 t32 t33 r h=>ie h (λc0 h=>be h λx2 cW h=>be h λx8 ss h=>be h λfq mU h=>let zA:SE:=[aw c0,(0,cT.idx cW),(4,Dx (cd (e:=3) (z:=false) (Q:=nL x8) (aIz n ss) (R3.len x8))),vP (axr n mU)];ie h (λc1 bO=>by subst c1;exact (rr bO zA)) (λc1 bO=>by subst c1;exact (ra (aS bO) zA))) (λc0 h=>ra (dA h) [aw c0])
def FY (bR:Option Bool):Nat->az->bJ->Int->Int->Option Bool
 |0=>λ_ _ _ _=>none
 |n+1=>Re bR (FY bR n) n
def apN {bR} (dA:Te bR):∀n:Nat,Td (FY bR n)
 |0=>λ_ _ _ _ _ h=>nz h
 |n+1=>aEX dA (apN dA n) n
def Rb (n:Nat):Option Bool:=
 some false
def aEW (n:Nat):Te (Rb n):=λr h=>rr h []
def Ra (n:Nat) (g0:az) (t3:ah):Option Bool:=
 FY (Rb n) n g0 t3.aD (t3.aD.length:Int) 0
def aEV (n:Nat):Th (Ra n):=λg0 t3 r h=>ra (apN (aEW n) n h) [(4,cT.cw t3.aD)]
def aeD (n:Nat) (g0:az):Option Bool:=
 (Ea n g0).bind λx3=>FZ (Ra n) n g0 x3 x3.ak (x3.ak.length:Int) 0
def aEU (n:Nat):K1 (afF []) yw (aeD n):=λg0 r h=>be h λx3 fX h=>ra (apO (aEV n) n h) [jK (Kh n fX),(5,dM.cw x3.ak)]
def adL:=aeD
def axz (n:Nat):K1 (Cx E0 181 dq cu) yw (adL n):=λ_ _ h=>ca (X:=x181) (aEU n h)
def aoG (r:az):AV:=.cm []
def ahY (r:az):List (Nat×Bx):= (NN r bp)
def x183:=fx E0 Tryz.f183 [0,bp] [0,bp]
def VD:=Ax x183 aoG ahY
def ayU (iQ:Nat) (t17 t18 t24 t25:Int) (b0:az) (b5:bf) (pb:aH) (bC:bl) (ba:ah) (dB:cf) (uh:bf) (qE:Nat):LS:=⟨[(2,.el bp 5 iQ 0),(3,akn),(5,.loc 5 0),(16,lB fJ dB.length),(17,aN t17),(18,aN t18),(23,.ms j3 1 0 pb.length),(24,aN t24),(25,aN t25)],[(0,rh b0 bp bC.length),(1,akl),(5,.flat 121 [.ms j3 1 0 pb.length,aN b5.aO]),(bp,NM (((dy bC)).set iQ (Uj ba)) (iQ*5+3) fJ dB.length),(fJ,aam (((hJ dB)).set qE (oj uh.aO)) (qE*2+0) j3 pb.length),(j3,v8 pb)]⟩
def ahc (iQ:Nat) (t17 t18:Int) (b0:az) (bC:bl) (ba:ah) (dB:cf):LS:=⟨[(2,.el bp 5 iQ 0),(3,akn),(16,lB fJ dB.length),(17,aN t17),(18,aN t18)],[(0,rh b0 bp bC.length),(1,akl),(bp,NM (((dy bC)).set iQ (Uj ba)) (iQ*5+3) fJ dB.length),(fJ,yD dB)]⟩
def ayT (iQ:Nat) (t43 t44:Int) (b0:az) (dz:bJ) (bC:bl) (ba:ah):LS:=⟨[(2,.el bp 5 iQ 0),(3,akn),(42,.ms jJ 13 0 dz.length),(43,aN t43),(44,aN t44)],[(0,rh b0 bp bC.length),(1,akl),(bp,.tree 44 5 l8 (((dy bC)).set iQ (yE ba)) [(iQ*5+4,.ms jJ 13 0 dz.length)]),(jJ,GX dz)]⟩
def ayS (iQ:Nat) (b0:az) (bC:bl):LS:=⟨[(2,.el bp 5 iQ 0),(3,akn)],[(0,rh b0 bp bC.length),(1,akl),(bp,sU bC)]⟩
def Q9 (aR:amI) (back:Nat->Int->Int->Int->Int->az->bf->aH->bl->ah->cf->bf->Nat->Option az) (n:Nat) (iQ:Nat) (t17 t18 t24 t25:Int) (b0:az) (b5:bf) (pb:aH) (bC:bl) (ba:ah) (dB:cf) (uh:bf) (qE:Nat):Option az:=
 if decide (t25<t24) then
 (fE pb.length t25).bind λx3=>(pb[0+x3]?).bind λx5=>(Oq n x5 (az.mk (af.mk b0.br.av bC) b0.fm)).bind λja=>(fE pb.length t25).bind λgA=>(pb[0+gA]?).bind λov=>(setAt pb (0+gA) ja).bind λz19=>back iQ t17 t18 t24 (bh (t25+1)) (az.mk (af.mk b0.br.av bC) b0.fm) (bf.mk z19 b5.aO) z19 bC (ah.mk ba.ar ba.ae ba.aP [] ba.aD) dB (bf.mk [] uh.aO) qE
 else
 (setAt dB qE (bf.mk pb uh.aO)).bind λz2=>aR iQ t17 t18 (az.mk (af.mk b0.br.av bC) b0.fm) bC (ah.mk ba.ar ba.ae ba.aP [] ba.aD) z2
def Tc:=K7 (VD (cZ 1943)) ahc
def Tb:=K13 (VD (cZ 22935)) ayU
def aET {aR} (bK:Tc aR) {back} (aS:Tb back) (n:Nat):Tb (Q9 aR back n):=λiQ t17 t18 t24 t25 b0 b5 pb bC ba dB uh qE r h=>ie h (λc0 h=>be h λx3 fX h=>be h λx5 n9 h=>be h λja lC h=>be h λgA kZ h=>be h λov wh h=>be h λz19 Hg h=>ra (aS h) [aw c0,(1,dO fX),(0,R3.row n9),(7,.call (bP.frame (bx:= [(xp,NM (((dy bC)).set iQ (Uj ba)) (iQ*5+3) 720001 dB.length),(720001,aam (((hJ dB)).set qE (oj uh.aO)) (qE*2+0) 720002 pb.length),(720002,v8 pb)]) (alV n lC) (by kernel_rfl)) [] [(1,1),(0,9000),(bp,xp),(fJ,720001),(j3,720002)] []),(0,dO kZ),(0,R3.AB 0 [aN ja] wh Hg),(2,.seq 23 (bA (AV.ms j3 1 0) (ep Hg))),(0,.beq 5 (bA (λn_=>(Bx.flat 121 [.ms j3 1 0 n_,aN b5.aO])) (ep Hg))),(0,.beq fJ (bA (aam (((hJ dB)).set qE (oj uh.aO)) (qE*2+0) j3) (ep Hg)))]) (λc0 h=>be h λz2 lP h=>ra (bK h) [aw c0,(0,.ey j3 [.d]),(0,dM.ij R3 (r:= (oj uh.aO)) fJ j3 0 false 3 1 pb lP),(0,.seq 16 (bA (AV.ms fJ 2 0) (ep lP))),(0,.beq bp (bA (NM (((dy bC)).set iQ (Uj ba)) (iQ*5+3) fJ) (ep lP)))])
def FX (aR:amI):Nat->Nat->Int->Int->Int->Int->az->bf->aH->bl->ah->cf->bf->Nat->Option az
 |0=>λ_ _ _ _ _ _ _ _ _ _ _ _ _=>none
 |n+1=>Q9 aR (FX aR n) n
def apM {aR} (bK:Tc aR):∀n:Nat,Tb (FX aR n)
 |0=>λ_ _ _ _ _ _ _ _ _ _ _ _ _ _ h=>nz h
 |n+1=>aET bK (apM bK n) n
def Q8 (bR:amI) (n:Nat) (iQ:Nat) (t17 t18:Int) (b0:az) (bC:bl) (ba:ah) (dB:cf):Option az:=
 bR iQ t17 (bh (t18+1)) (az.mk (af.mk b0.br.av bC) b0.fm) bC (ah.mk ba.ar ba.ae ba.aP [] ba.aD) dB
def LZ:=K7 (VD (cZ 87)) ahc
def aES {bR} (dA:LZ bR) (n:Nat):Tc (Q8 bR n):=λiQ t17 t18 b0 bC ba dB r h=>ra (dA h) []
def Q7 (cV:Nat->az->bl->Option az) (back:amI) (n:Nat) (iQ:Nat) (t17 t18:Int) (b0:az) (bC:bl) (ba:ah) (dB:cf):Option az:=
 if decide (t18<t17) then
 (fE dB.length t18).bind λx2=>(dB[0+x2]?).bind λu5=>FX (Q8 back n) n iQ t17 t18 (u5.ae.length:Int) 0 (az.mk (af.mk b0.br.av bC) b0.fm) u5 u5.ae bC (ah.mk ba.ar ba.ae ba.aP [] ba.aD) dB (bf.mk [] u5.aO) (0+x2)
 else
 (setAt bC iQ (ah.mk ba.ar ba.ae ba.aP dB ba.aD)).bind λz2=>cV iQ (az.mk (af.mk b0.br.av z2) b0.fm) z2
def Ta:=K3 (VD [1,1,1,1]) ayS
def aER {cV} (eZ:Ta cV) {back} (aS:LZ back) (n:Nat):LZ (Q7 cV back n):=λiQ t17 t18 b0 bC ba dB r h=>ie h (λc0 h=>be h λx2 cW h=>be h λu5 vq h=>ra (apM (aES aS n) n h) [aw c0,(0,dO cW),(0,dM.oh R3 fJ j3 0 false 3 1 u5.ae vq (oj u5.aO)),(0,dM.Ao [0] (oj u5.aO) vq)]) (λc0 h=>be h λz2 lP h=>ra (eZ h) [aw c0,(0,bI.ij dM (r:= (Uj ba)) bp fJ 3 false 121 2 dB lP),(0,.beq 0 (bA (rh b0 bp) (ep lP)))])
def CO (cV:Nat->az->bl->Option az):Nat->Nat->Int->Int->az->bl->ah->cf->Option az
 |0=>λ_ _ _ _ _ _ _=>none
 |n+1=>Q7 cV (CO cV n) n
def apK {cV} (eZ:Ta cV):∀n:Nat,LZ (CO cV n)
 |0=>λ_ _ _ _ _ _ _ _ h=>nz h
 |n+1=>aER eZ (apK eZ n) n
def Q6 (back:Nat->Int->Int->az->bJ->bl->ah->Option az) (n:Nat) (iQ:Nat) (t43 t44:Int) (b0:az) (dz:bJ) (bC:bl) (ba:ah):Option az:=
 if decide (t44<t43) then
 (fE dz.length t44).bind λx3=>(dz[0+x3]?).bind λx5=>(Bn n x5 (az.mk (af.mk b0.br.av bC) b0.fm)).bind λjA=>(fE dz.length t44).bind λjz=>(dz[0+jz]?).bind λuK=>(setAt dz (0+jz) jA).bind λz22=>back iQ t43 (bh (t44+1)) (az.mk (af.mk b0.br.av bC) b0.fm) z22 bC (ah.mk ba.ar ba.ae ba.aP ba.ak [])
 else
 (setAt bC iQ (ah.mk ba.ar ba.ae ba.aP ba.ak dz)).bind λz2=>some (az.mk (af.mk b0.br.av z2) b0.fm)
def S9:=K7 (VD (cZ 95)) ayT
def aEQ {back} (aS:S9 back) (n:Nat):S9 (Q6 back n):=λiQ t43 t44 b0 dz bC ba r h=>ie h (λc0 h=>be h λx3 fX h=>be h λx5 n9 h=>be h λjA mr h=>be h λjz nT h=>be h λuK Cj h=>be h λz22 wg h=>ra (aS h) [aw c0,(1,dO fX),(0,cT.row n9),(10,.call (bP.frame (bx:= [(xp,.tree 44 5 l8 (((dy bC)).set iQ (yE ba)) [(iQ*5+4,.ms 720001 13 0 dz.length)]),(720001,GX dz)]) (aqY n mr) (by kernel_rfl)) [] [(0,9000),(1,th),(bp,xp),(jJ,720001)] []),(0,dO nT),(0,cT.AB 0 (eX jA) Cj wg),(2,.seq 42 (bA (AV.ms jJ 13 0) (ep wg))),(0,.beq bp (bA (λn_=>(Bx.tree 44 5 l8 (((dy bC)).set iQ (yE ba)) [(iQ*5+4,.ms jJ 13 0 n_)])) (ep wg)))]) (λc0 h=>be h λz2 lP h=>rr h [aw c0,(0,.ey jJ sV),(0,bI.ij cT (r:= (yE ba)) bp jJ 4 false 107 13 dz lP),(0,.beq 0 (bA (rh b0 bp) (ep lP)))])
def FW:Nat->Nat->Int->Int->az->bJ->bl->ah->Option az
 |0=>λ_ _ _ _ _ _ _=>none
 |n+1=>Q6 (FW n) n
def apJ:∀n:Nat,S9 (FW n)
 |0=>λ_ _ _ _ _ _ _ _ h=>nz h
 |n+1=>aEQ (apJ n) n
def Q5 (n:Nat) (iQ:Nat) (b0:az) (bC:bl):Option az:=
 (bC[iQ]?).bind λu5=>FW n iQ (u5.aD.length:Int) 0 (az.mk (af.mk b0.br.av bC) b0.fm) u5.aD bC (ah.mk u5.ar u5.ae u5.aP u5.ak [])
def aEP (n:Nat):Ta (Q5 n):=λiQ b0 bC r h=>be h λu5 vq h=>ra (apJ n h) [(3,bI.oh cT bp jJ 4 false 107 13 u5.aD vq (yE u5))]
def aeC (n:Nat) (g0:az):Option az:=
 (C4 n g0).bind λx3=>(g0.br.ai[x3]?).bind λu12=>CO (Q5 n) n x3 (u12.ak.length:Int) 0 g0 g0.br.ai (ah.mk u12.ar u12.ae u12.aP [] u12.aD) u12.ak
def aEO (n:Nat):K1 (VD []) mB (aeC n):=λg0 r h=>be h λx3 fX h=>be h λu12 hu12 h=>ra (apK (aEP n) n h) [(2,dh (Mp n fX) [(0,0),(bp,bp)]),(6,bI.oh dM bp fJ 3 false 121 2 u12.ak hu12 (Uj u12))]
def adJ:=aeC
def axx (n:Nat):K1 (Cx E0 183 aoG ahY) mB (adJ n):=λ_ _ h=>ca (X:=x183) (aEO n h)
def x149:=fx E0 Tryz.f149 [0,bp] [0,bp]
def A149:=Ax x149 qe pP
def aff (n:Nat) (g0:az):Option (Bool×az):=
 (C4 n g0).bind λx3=>(Ea n g0).bind λx4=>(g0.br.ai[x3]?).bind λjm=>(setAt g0.br.ai x3 jm).bind λz18=>(Ou n (az.mk (af.mk g0.br.av z18) g0.fm) g0.fm.aX).bind λjz=>if !jz then
 (setAt g0.br.ai x3 jm).bind λz27=>some (false,(az.mk (af.mk g0.br.av z27) g0.fm))
 else
 (fE jm.ae.length g0.fm.aX).bind λpA=>(jm.ae[0+pA]?).bind λx36=>(Vt n g0.fm.aV x36.aC).bind λx38=>if !x38 then
 (setAt g0.br.ai x3 jm).bind λz45=>some (false,(az.mk (af.mk g0.br.av z45) g0.fm))
 else
 (setAt g0.br.ai x3 jm).bind λz45=>(adL n (az.mk (af.mk g0.br.av z45) g0.fm)).bind λvh=>if vh then
 (setAt g0.br.ai x3 jm).bind λz50=>some (false,(az.mk (af.mk g0.br.av z50) g0.fm))
 else
 (adK n jm.ae g0.fm.aX (bh (g0.fm.aX+1))).bind λx57=>(setAt g0.br.ai x3 (ah.mk jm.ar x57.2 jm.aP jm.ak jm.aD)).bind λz64=>(adJ n (az.mk (af.mk g0.br.av z64) g0.fm)).bind λrb=>some (true,rb)
def aGa (n:Nat):K1 (A149 []) mB (aff n):=λg0 r h=>be h λx3 fX h=>be h λx4 kY h=>be h λjm alE h=>be h λz18 JO h=>be h λjz nT h=>let zA:SE:=[(2,.DP (bP.awt (lo:= []) (n:=4) (bs:= (NN g0 bp)) (xs:= [.loc 0 0]) (P:=(dy g0.br.ai).length=g0.br.ai.length/\True) (Kh n kY) (Mp n fX) (by kernel_rfl) (by kernel_rfl) ⟨bI.len g0.br.ai,trivial⟩ (by kernel_rfl) (by kernel_rfl)) [] [(0,0),(bp,bp)]),(7,bI.oh dv bp fg 1 false 73 2 jm.ae alE (fB jm)),(2,dh (bP.yI (lo:= []) (n:=4) (bs:= (q24_ mP g0 qi (((dy g0.br.ai)).set x3 (fB jm)) (x3*5+1) vk jm)) (xs:= [.loc mP 0,akr g0]) (P:=((dy g0.br.ai).set x3 (fB jm)).length=g0.br.ai.length/\(eU jm.ae).length=jm.ae.length/\True) (XH n nT) ((show _= [q8_ g0 (uD 5 ((dy g0.br.ai).set x3 (fB jm)) (Jp x3 5 [(1,.slice 73 2 (eU jm.ae))])),akr g0] by kernel_rfl).trans (bA (λq_=>([q4_ g0 q_,akr g0]:List AV)) (bI.fill (sz:=5) (o:= [(1,aau jm)]) (λ_=>rfl) JO (by kernel_rfl) rfl (by kernel_rfl)))) (by kernel_rfl) ⟨bI.yJ g0.br.ai x3 (fB jm),dv.len jm.ae,trivial⟩ (by kernel_rfl) (by kernel_rfl)) [(0,mP),(bp,qi),(fg,vk)])];ie h (λc0 h=>be h λz27 hz27 h=>bG h zA [aw c0,(5,.ey fg [.d,.d]),(0,bI.ij dv (r:= (fB jm)) bp fg 1 false 73 2 jm.ae hz27),(0,.beq 0 (bA (rh g0 bp) (ep hz27)))]) (λc0 h=>be h λpA Ci h=>be h λx36 hx36 h=>be h λx38 aub h=>let zB:SE:=dk zA [aw c0,(11,dO Ci),(1,dv.row hx36),vQ (alX n aub)];ie h (λc1 h=>be h λz45 N0 h=>bG h zB [aw c1,(4,.ey fg [.d,.d]),(0,bI.ij dv (r:= (fB jm)) bp fg 1 false 73 2 jm.ae N0),(0,.beq 0 (bA (rh g0 bp) (ep N0)))]) (λc1 h=>be h λz45 N0 h=>be h λvh Hh h=>let zC:SE:=dk zB [aw c1,(3,dh (bP.yI (lo:= []) (n:=4) (bs:= (q24_ mP g0 qi (((dy g0.br.ai)).set x3 (fB jm)) (x3*5+1) vk jm)) (xs:= [.loc mP 0]) (P:=((dy g0.br.ai).set x3 (fB jm)).length=g0.br.ai.length/\(eU jm.ae).length=jm.ae.length/\True) (axz n Hh) ((show _= [q8_ g0 (uD 5 ((dy g0.br.ai).set x3 (fB jm)) (Jp x3 5 [(1,.slice 73 2 (eU jm.ae))]))] by kernel_rfl).trans (bA (λq_=>([q4_ g0 q_]:List AV)) (bI.fill (sz:=5) (o:= [(1,aau jm)]) (λ_=>rfl) N0 (by kernel_rfl) rfl (by kernel_rfl)))) (by kernel_rfl) ⟨bI.yJ g0.br.ai x3 (fB jm),dv.len jm.ae,trivial⟩ (by kernel_rfl) (by kernel_rfl)) [(0,mP),(bp,qi),(fg,vk)])];ie h (λc2 bO=>by subst c2;exact (be bO λz50 hz50 bO=>bG bO zC [(2,.ey fg [.d,.d]),(0,bI.ij dv (r:= (fB jm)) bp fg 1 false 73 2 jm.ae hz50),(0,.beq 0 (bA (rh g0 bp) (ep hz50)))])) (λc2 bO=>by subst c2;exact (be bO λx57 hx57 bO=>be bO λz64 hz64 bO=>be bO λrb atY bO=>bG bO zC [(9,dh (axy n hx57) [(fg,0)]),(2,bI.UN 1 (fB jm) (fB jm) alE),(1,.ey fg [.d,.d]),(0,bI.ij dv (r:= (fB jm)) bp fg 1 false 73 2 x57.2 hz64),(0,.beq 0 (bA (rh g0 bp) (ep hz64))),(0,dh (axx n atY) [(0,0),(bp,bp)])]))))
def adZ:=aff
def aIR (n:Nat):K1 (Cx E0 149 qe pP) mB (adZ n):=λ_ _ h=>ca (X:=x149) (aGa n h)
def x150:=fx E0 Tryz.f150 [0,bp] [0,bp]
def A150:=Ax x150 qe pP
def afe (n:Nat) (g0:az):Option (Bool×az):=
 (C4 n g0).bind λx3=>(Ou n g0 g0.fm.aX).bind λly=>if !ly then
 some (false,g0)
 else
 (Ou n g0 g0.fm.jo).bind λpX=>if !pX then
 some (false,g0)
 else
 (g0.br.ai[x3]?).bind λpC=>(fE pC.ae.length g0.fm.aX).bind λDb=>(pC.ae[0+Db]?).bind λsi=>(adK n pC.ae g0.fm.aX (bh (g0.fm.aX+1))).bind λx59=>(avG n x59.2 g0.fm.jo [si]).bind λx76=>(setAt g0.br.ai x3 (ah.mk pC.ar x76.2 pC.aP pC.ak pC.aD)).bind λz83=>(adJ n (az.mk (af.mk g0.br.av z83) g0.fm)).bind λx84=>some (true,x84)
def aFZ (n:Nat):K1 (A150 []) mB (afe n):=λg0 r h=>be h λx3 fX h=>be h λly nU h=>let zA:SE:=[(2,dh (Mp n fX) [(0,0),(bp,bp)]),(7,dh (bP.yI (lo:= []) (n:=4) (bs:= (q46_ mP g0 qi)) (xs:= [.loc mP 0,akr g0]) (P:=(dy g0.br.ai).length=g0.br.ai.length/\True) (XH n nU) (by kernel_rfl) (by kernel_rfl) ⟨bI.len g0.br.ai,trivial⟩ (by kernel_rfl) (by kernel_rfl)) [(0,mP),(bp,qi)])];ie h (λc0 h=>bG h zA [aw c0]) (λc0 h=>be h λpX sX h=>let zB:SE:=dk zA [aw c0,(7,dh (bP.yI (lo:= []) (n:=4) (bs:= (q46_ mP g0 qi)) (xs:= [.loc mP 0,.int .i64 g0.fm.jo]) (P:=(dy g0.br.ai).length=g0.br.ai.length/\True) (XH n sX) (by kernel_rfl) (by kernel_rfl) ⟨bI.len g0.br.ai,trivial⟩ (by kernel_rfl) (by kernel_rfl)) [(0,mP),(bp,qi)])];ie h (λc1 h=>bG h zB [aw c1]) (λc1 h=>be h λpC UL h=>be h λDb abH h=>be h λsi Hi h=>be h λx59 hx59 h=>be h λx76 hx76 h=>be h λz83 hz83 h=>be h λx84 hx84 h=>bG h zB [aw c1,(1,bI.oh dv bp fg 1 false 73 2 pC.ae UL (fB pC)),(9,dO abH),(0,dv.row Hi),(18,dh (axy n hx59) [(fg,0)]),(2,bI.UN 1 (fB pC) (fB pC) UL),(12,dh (aID n hx76) [(66,2),(fg,im)]),(2,bI.UN 1 (fB pC) (fB pC) UL),(1,.ey fg [.d,.d]),(0,bI.ij dv (r:= (fB pC)) bp fg 1 false 73 2 x76.2 hz83),(0,.beq 0 (bA (rh g0 bp) (ep hz83))),(0,dh (axx n hx84) [(0,0),(bp,bp)])]))
def adY:=afe
def aIQ (n:Nat):K1 (Cx E0 150 qe pP) mB (adY n):=λ_ _ h=>ca (X:=x150) (aFZ n h)
def x151:=fx E0 Tryz.f151 [0,bp] [0,bp]
def A151:=Ax x151 qe pP
def afd (n:Nat) (g0:az):Option (Bool×az):=
 (C4 n g0).bind λx3=>(g0.br.ai[x3]?).bind λu6=>if decide (g0.fm.aX<0) then
 (setAt g0.br.ai x3 u6).bind λwF=>some (false,(az.mk (af.mk g0.br.av wF) g0.fm))
 else
 if !decide (g0.fm.aX<(u6.ae.length:Int)) then
 (setAt g0.br.ai x3 u6).bind λz28=>some (false,(az.mk (af.mk g0.br.av z28) g0.fm))
 else
 (fE u6.ae.length g0.fm.aX).bind λEX=>(u6.ae[0+EX]?).bind λEW=>(setAt u6.ae (0+EX) (cO.mk g0.fm.ar EW.aC)).bind λz45=>(setAt g0.br.ai x3 (ah.mk u6.ar z45 u6.aP u6.ak u6.aD)).bind λz48=>some (true,(az.mk (af.mk g0.br.av z48) g0.fm))
def aFY (n:Nat):K1 (A151 []) mB (afd n):=λg0 r h=>be h λx3 fX h=>be h λu6 zW h=>let zA:SE:=[(2,dh (Mp n fX) [(0,0),(bp,bp)]),(1,bI.oh dv bp fg 1 false 73 2 u6.ae zW (fB u6))];ie h (λc0 h=>be h λwF pF h=>bG h zA [fL c0,(3,.ey fg [.d,.d]),(0,bI.ij dv (r:= (fB u6)) bp fg 1 false 73 2 u6.ae pF),(0,.beq 0 (bA (rh g0 bp) (ep pF)))]) (λc0 h=>ie h (λc1 h=>be h λz28 Cg h=>bG h zA [fL c0,(11,eb c1),(2,.ey fg [.d,.d]),(0,bI.ij dv (r:= (fB u6)) bp fg 1 false 73 2 u6.ae Cg),(0,.beq 0 (bA (rh g0 bp) (ep Cg)))]) (λc1 h=>be h λEX abG h=>be h λEW UI h=>be h λz45 N0 h=>be h λz48 hz48 h=>bG h zA [fL c0,(11,eb c1),(15,dO abG),(1,dv.AB 0 [.str g0.fm.ar] UI N0),(1,.beq bp (bA (NM (((dy g0.br.ai)).set x3 (fB u6)) (x3*5+1) fg) (ep N0))),(0,.ey fg [.d,.d]),(0,bI.ij dv (r:= (fB u6)) bp fg 1 false 73 2 z45 hz48),(0,.beq 0 (bA (rh g0 bp) (ep hz48)))]))
def adX:=afd
def aIP (n:Nat):K1 (Cx E0 151 qe pP) mB (adX n):=λ_ _ h=>ca (X:=x151) (aFY n h)
def x152:=fx E0 Tryz.f152 [0,bp] [0,bp]
def A152:=Ax x152 qe pP
def afc (n:Nat) (g0:az):Option (Bool×az):=
 (C4 n g0).bind λx3=>(Ea n g0).bind λx4=>(g0.br.ai[x3]?).bind λjm=>(setAt g0.br.ai x3 (ah.mk g0.fm.ar jm.ae jm.aP jm.ak jm.aD)).bind λz16=>some (true,(az.mk (af.mk g0.br.av z16) g0.fm))
def aFX (n:Nat):K1 (A152 []) mB (afc n):=λg0 r h=>be h λx3 fX h=>be h λx4 kY h=>be h λjm alE h=>be h λz16 hz16 h=>rr h [(2,.DP (bP.awt (lo:= []) (n:=4) (bs:= (NN g0 bp)) (xs:= [.loc 0 0]) (P:=(dy g0.br.ai).length=g0.br.ai.length/\True) (Kh n kY) (Mp n fX) (by kernel_rfl) (by kernel_rfl) ⟨bI.len g0.br.ai,trivial⟩ (by kernel_rfl) (by kernel_rfl)) [] [(0,0),(bp,bp)]),(7,bI.abO 0 (akp jm) alE),(1,bI.ajA (r:= (akp jm)) bp 0 (.str g0.fm.ar) hz16),(0,.beq 0 (bA (rh g0 bp) (ep hz16)))]
def adW:=afc
def aIO (n:Nat):K1 (Cx E0 152 qe pP) mB (adW n):=λ_ _ h=>ca (X:=x152) (aFX n h)
def aia (r:(Bool×az)):List (Nat×Bx):= (NN r.2 im)
def x153:=fx E0 Tryz.f153 [0,im] [0,im]
def A153:=Ax x153 qe aia
def ahp (g0:az):LS:=⟨[(0,.loc 0 0)],(NN g0 im)⟩
def afb (n:Nat) (g0:az):Option (Bool×az):=
 (F96 n g0.fm.aZ).bind λeT=>(app g0.br.ai [eT]).bind λgA=>(setAt gA g0.br.ai.length eT).bind λz22=>some (true,(az.mk (af.mk g0.br.av z22) g0.fm))
def aFW (n:Nat):K1 (A153 []) ahp (afb n):=λg0 r h=>be h λeT jE h=>be h λgA kZ h=>be h λz22 wg h=>rr h [(12,rT (ev96 n jE) [(330140001,nZ),(330140003,vo),(330140004,tU)]),(1,bI.IX kZ),(4,.beq im (bA (λq_=>Bx.tree 44 5 l8 q_ [(g0.br.ai.length*5+1,lB 330140001 eT.ae.length),(g0.br.ai.length*5+3,.ms 330140003 2 0 eT.ak.length),(g0.br.ai.length*5+4,.ms 330140004 13 0 eT.aD.length)]) (bI.apS (r:= (fF eT.ar eT)) kZ))),(0,.ey 330140001 [.d,.d]),(0,bI.jr dv (r:= (fF eT.ar eT)) im 330140001 1 false 73 2 eT.ae wg (Jg eT.ar eT)),(0,bI.jr dM (r:= (Jg eT.ar eT)) im 330140003 3 false 121 2 eT.ak wg (yE eT)),(0,.ey 330140004 sV),(0,bI.ij cT (r:= (yE eT)) im 330140004 4 false 107 13 eT.aD wg),(1,.beq 0 (bA (rh g0 im) (((bI.apL kZ).trans (ep wg)))))]
def adV:=afb
def aIN (n:Nat):K1 (Cx E0 153 qe aia) ahp (adV n):=λ_ _ h=>ca (X:=x153) (aFW n h)
def x154:=fx E0 Tryz.f154 [0,bp] [0,bp]
def Ig:=Ax x154 qe pP
def azB (i3 t16 t17 t24 t25:Int) (b0:az) (bC:bl) (ba:ah) (dH:Nat) (dz:bJ) (iv:cG) (dB:cf):LS:=⟨[(0,.loc 0 0),(3,aN i3),(15,.ms bp 5 0 bC.length),(16,aN t16),(17,aN t17),(23,lB fJ dB.length),(24,aN t24),(25,aN t25)],[(0,rh b0 bp bC.length),(bp,Ek (((dy bC)).set dH (fF ba.ar ba)) (dH*5+4) jJ dz.length (dH*5+3) fJ dB.length (dH*5+1) fg iv.length),(fg,As iv),(fJ,yD dB),(jJ,GX dz)]⟩
def aho (t16 t17:Int) (b0:az) (bC:bl):LS:=⟨[(0,.loc 0 0),(15,.ms bp 5 0 bC.length),(16,aN t16),(17,aN t17)],[(0,rh b0 bp bC.length),(bp,sU bC)]⟩
def azA (t74 t75 t81 t82:Int) (b0:az) (b8:ah) (iv:cG) (dz:bJ) (bC:bl) (ba:ah) (dH:Nat) (dB:cf):LS:=⟨[(0,.loc 0 0),(8,.loc 8 0),(73,.ms bp 5 0 bC.length),(74,aN t74),(75,aN t75),(80,lB fJ dB.length),(81,aN t81),(82,aN t82)],[(0,rh b0 bp bC.length),(8,El b8.ar fg iv.length b8 fJ dB.length jJ dz.length),(bp,Ek (((dy bC)).set dH (fF ba.ar ba)) (dH*5+4) jJ dz.length (dH*5+3) fJ dB.length (dH*5+1) fg iv.length),(fg,As iv),(fJ,yD dB),(jJ,GX dz)]⟩
def ahn (t74 t75:Int) (b0:az) (bC:bl):LS:=⟨[(0,.loc 0 0),(73,.ms bp 5 0 bC.length),(74,aN t74),(75,aN t75)],[(0,rh b0 bp bC.length),(bp,sU bC)]⟩
def azz (b0:az) (bC:bl):LS:=⟨[],[(0,rh b0 bp bC.length),(bp,sU bC)]⟩
def azy (b0:az) (bC:bl):LS:=⟨[(0,.loc 0 0)],[(0,rh b0 bp bC.length),(bp,sU bC)]⟩
def RA (aR:Kz) (back:Int->Int->Int->Int->Int->az->bl->ah->Nat->bJ->cG->cf->Option (Bool×az)) (n:Nat) (i3 t16 t17 t24 t25:Int) (b0:az) (bC:bl) (ba:ah) (dH:Nat) (dz:bJ) (iv:cG) (dB:cf):Option (Bool×az):=
 if decide (t25<t24) then
 (fE dB.length t25).bind λx2=>(dB[0+x2]?).bind λu5=>if i3 !=b0.fm.aO then
 if u5.aO==b0.fm.aO then
 (setAt dB (0+x2) u5).bind λz26=>(setAt bC dH (ah.mk ba.ar iv ba.aP z26 dz)).bind λz28=>some (false,(az.mk (af.mk b0.br.av z28) b0.fm))
 else
 (setAt dB (0+x2) u5).bind λz28=>back i3 t16 t17 t24 (bh (t25+1)) (az.mk (af.mk b0.br.av bC) b0.fm) bC (ah.mk ba.ar [] ba.aP [] []) dH dz iv z28
 else
 (setAt dB (0+x2) u5).bind λz20=>back i3 t16 t17 t24 (bh (t25+1)) (az.mk (af.mk b0.br.av bC) b0.fm) bC (ah.mk ba.ar [] ba.aP [] []) dH dz iv z20
 else
 (setAt bC dH (ah.mk ba.ar iv ba.aP dB dz)).bind λz2=>aR t16 t17 (az.mk (af.mk b0.br.av z2) b0.fm) z2
def S8:=K4 (Ig (cZ 485)) aho
def S7:=K12 (Ig (cZ 5733)) azB
def aFV {aR} (bK:S8 aR) {back} (aS:S7 back) (n:Nat):S7 (RA aR back n):=λi3 t16 t17 t24 t25 b0 bC ba dH dz iv dB r h=>ie h (λc0 h=>be h λx2 cW h=>be h λu5 vq h=>let zA:SE:=[aw c0,(0,dO cW),(0,dM.oh R3 fJ j3 0 false 3 1 u5.ae vq (oj u5.aO)),(0,dM.Ao [0] (oj u5.aO) vq)];ie h (λc1 h=>ie h (λc2 h=>be h λz26 hz26 h=>be h λz28 Cg h=>bG h zA [tw c1,tw c2,(1,.ey j3 [.d]),(0,dM.ij R3 (r:= (oj u5.aO)) fJ j3 0 false 3 1 u5.ae hz26),(0,.beq bp (bA (λn_=>((Ek (((dy bC)).set dH (fF ba.ar ba)) (dH*5+4) jJ dz.length (dH*5+3) fJ n_ (dH*5+1) fg iv.length))) (ep hz26))),(0,.ey jJ sV),(0,bI.jr cT (r:= (fF ba.ar ba)) bp jJ 4 false 107 13 dz Cg (Ug ba.ar ba dz)),(0,bI.jr dM (r:= (Ug ba.ar ba dz)) bp fJ 3 false 121 2 z26 Cg (Ud ba.ar ba z26 dz)),(0,.ey fg [.d,.d]),(0,bI.ij dv (r:= (Ud ba.ar ba z26 dz)) bp fg 1 false 73 2 iv Cg),(1,.beq 0 (bA (rh b0 bp) (ep Cg)))]) (λc2 h=>be h λz28 Cg h=>cL (aS h) zA [tw c1,tw c2,(3,.ey j3 [.d]),(0,dM.ij R3 (r:= (oj u5.aO)) fJ j3 0 false 3 1 u5.ae Cg),(0,.seq 23 (bA (AV.ms fJ 2 0) (ep Cg))),(0,.beq bp (bA (λn_=>((Ek (((dy bC)).set dH (fF ba.ar ba)) (dH*5+4) jJ dz.length (dH*5+3) fJ n_ (dH*5+1) fg iv.length))) (ep Cg)))])) (λc1 h=>be h λz20 He h=>cL (aS h) zA [tw c1,(4,.ey j3 [.d]),(0,dM.ij R3 (r:= (oj u5.aO)) fJ j3 0 false 3 1 u5.ae He),(0,.seq 23 (bA (AV.ms fJ 2 0) (ep He))),(0,.beq bp (bA (λn_=>((Ek (((dy bC)).set dH (fF ba.ar ba)) (dH*5+4) jJ dz.length (dH*5+3) fJ n_ (dH*5+1) fg iv.length))) (ep He)))])) (λc0 h=>be h λz2 lP h=>ra (bK h) [aw c0,(0,.ey jJ sV),(0,bI.jr cT (r:= (fF ba.ar ba)) bp jJ 4 false 107 13 dz lP (Ug ba.ar ba dz)),(0,bI.jr dM (r:= (Ug ba.ar ba dz)) bp fJ 3 false 121 2 dB lP (Ud ba.ar ba dB dz)),(0,.ey fg [.d,.d]),(0,bI.ij dv (r:= (Ud ba.ar ba dB dz)) bp fg 1 false 73 2 iv lP),(0,.seq 15 (bA (AV.ms bp 5 0) (ep lP))),(0,.beq 0 (bA (rh b0 bp) (ep lP)))])
def Ga (aR:Kz):Nat->Int->Int->Int->Int->Int->az->bl->ah->Nat->bJ->cG->cf->Option (Bool×az)
 |0=>λ_ _ _ _ _ _ _ _ _ _ _ _=>none
 |n+1=>RA aR (Ga aR n) n
def aqd {aR} (bK:S8 aR):∀n:Nat,S7 (Ga aR n)
 |0=>λ_ _ _ _ _ _ _ _ _ _ _ _ _ h=>nz h
 |n+1=>aFV bK (aqd bK n) n
def Rz (bR:Kz) (n:Nat) (t16 t17:Int) (b0:az) (bC:bl):Option (Bool×az):=
 bR t16 (bh (t17+1)) (az.mk (af.mk b0.br.av bC) b0.fm) bC
def LY:=K4 (Ig [0,1,0,1]) aho
def aFU {bR} (dA:LY bR) (n:Nat):S8 (Rz bR n):=λt16 t17 b0 bC r h=>ra (dA h) []
def Ry (kV:amH) (back:Kz) (n:Nat) (t16 t17:Int) (b0:az) (bC:bl):Option (Bool×az):=
 if decide (t17<t16) then
 (fE bC.length t17).bind λx3=>(bC[0+x3]?).bind λu6=>Ga (Rz back n) n t17 t16 t17 (u6.ak.length:Int) 0 (az.mk (af.mk b0.br.av bC) b0.fm) bC (ah.mk u6.ar [] u6.aP [] []) (0+x3) u6.aD u6.ae u6.ak
 else
 kV (az.mk (af.mk b0.br.av bC) b0.fm) bC
def S6:=K2 (Ig [1,1]) azy
def aFT {kV} (rV:S6 kV) {back} (aS:LY back) (n:Nat):LY (Ry kV back n):=λt16 t17 b0 bC r h=>ie h (λc0 h=>be h λx3 fX h=>be h λu6 zW h=>ra (aqd (aFU aS n) n h) [aw c0,(1,dO fX),(0,bI.oh dv bp fg 1 false 73 2 u6.ae zW (fB u6)),(0,bI.vK dM (r:= (fB u6)) bp fJ 3 false 121 2 u6.ak zW (ow u6)),(0,bI.vK cT (r:= (ow u6)) bp jJ 4 false 107 13 u6.aD zW (fF u6.ar u6)),(0,bI.Ao [4,3,1] (fF u6.ar u6) zW)]) (λc0 h=>ra (rV h) [aw c0])
def CT (kV:amH):Nat->Int->Int->az->bl->Option (Bool×az)
 |0=>λ_ _ _ _=>none
 |n+1=>Ry kV (CT kV n) n
def aqc {kV} (rV:S6 kV):∀n:Nat,LY (CT kV n)
 |0=>λ_ _ _ _ _ h=>nz h
 |n+1=>aFT rV (aqc rV n) n
def KX (cV:Kz) (back:Int->Int->Int->Int->az->ah->cG->bJ->bl->ah->Nat->cf->Option (Bool×az)) (n:Nat) (t74 t75 t81 t82:Int) (b0:az) (b8:ah) (iv:cG) (dz:bJ) (bC:bl) (ba:ah) (dH:Nat) (dB:cf):Option (Bool×az):=
 if decide (t82<t81) then
 (fE dB.length t82).bind λx3=>(dB[0+x3]?).bind λu6=>if decide (b0.fm.aO<u6.aO) then
 (fE dB.length t82).bind λiG=>(setAt dB (0+x3) u6).bind λz29=>(z29[0+iG]?).bind λu30=>(setAt z29 (0+iG) (bf.mk u30.ae (bh (u6.aO - 1)))).bind λz34=>back t74 t75 t81 (bh (t82+1)) (az.mk (af.mk b0.br.av bC) b0.fm) (ah.mk b8.ar iv b8.aP z34 dz) iv dz bC (ah.mk ba.ar [] ba.aP [] []) dH z34
 else
 (setAt dB (0+x3) u6).bind λz21=>back t74 t75 t81 (bh (t82+1)) (az.mk (af.mk b0.br.av bC) b0.fm) (ah.mk b8.ar iv b8.aP z21 dz) iv dz bC (ah.mk ba.ar [] ba.aP [] []) dH z21
 else
 (setAt bC dH (ah.mk ba.ar iv ba.aP dB dz)).bind λz2=>cV t74 t75 (az.mk (af.mk b0.br.av z2) b0.fm) z2
def S5:=K4 (Ig (cZ 1943)) ahn
def S4:=K12 (Ig (cZ 22935)) azA
def aFS {cV} (eZ:S5 cV) {back} (aS:S4 back) (n:Nat):S4 (KX cV back n):=λt74 t75 t81 t82 b0 b8 iv dz bC ba dH dB r h=>ie h (λc0 h=>be h λx3 fX h=>be h λu6 zW h=>let zA:SE:=[aw c0,(1,dO fX),(0,dM.oh R3 fJ j3 0 false 3 1 u6.ae zW (oj u6.aO)),(0,dM.Ao [0] (oj u6.aO) zW)];ie h (λc1 h=>be h λiG oS h=>be h λz29 alA h=>be h λu30 hu30 h=>be h λz34 N2 h=>cL (aS h) zA [(10,eb c1),(6,dO oS),(1,.ey j3 [.d]),(0,dM.ij R3 (r:= (oj u6.aO)) fJ j3 0 false 3 1 u6.ae alA),(0,dM.abO 1 (ako u30) hu30),(2,dM.ajA (r:= (ako u30)) fJ 1 (.int .i64 (bh (u6.aO - 1))) N2),(0,.seq 80 (bA (AV.ms fJ 2 0) (((nv N2).trans (nv alA)).symm))),(0,.beq 8 (bA (λn_=>((El b8.ar fg iv.length b8 fJ n_ jJ dz.length))) (((nv N2).trans (nv alA)).symm))),(0,.beq bp (bA (λn_=>((Ek (((dy bC)).set dH (fF ba.ar ba)) (dH*5+4) jJ dz.length (dH*5+3) fJ n_ (dH*5+1) fg iv.length))) (((nv N2).trans (nv alA)).symm)))]) (λc1 h=>be h λz21 xw h=>cL (aS h) zA [(10,eb c1),(2,.ey j3 [.d]),(0,dM.ij R3 (r:= (oj u6.aO)) fJ j3 0 false 3 1 u6.ae xw),(0,.seq 80 (bA (AV.ms fJ 2 0) (ep xw))),(0,.beq 8 (bA (λn_=>((El b8.ar fg iv.length b8 fJ n_ jJ dz.length))) (ep xw))),(0,.beq bp (bA (λn_=>((Ek (((dy bC)).set dH (fF ba.ar ba)) (dH*5+4) jJ dz.length (dH*5+3) fJ n_ (dH*5+1) fg iv.length))) (ep xw)))])) (λc0 h=>be h λz2 lP h=>ra (eZ h) [aw c0,(0,.ey jJ sV),(0,bI.jr cT (r:= (fF ba.ar ba)) bp jJ 4 false 107 13 dz lP (Ug ba.ar ba dz)),(0,bI.jr dM (r:= (Ug ba.ar ba dz)) bp fJ 3 false 121 2 dB lP (Ud ba.ar ba dB dz)),(0,.ey fg [.d,.d]),(0,bI.ij dv (r:= (Ud ba.ar ba dB dz)) bp fg 1 false 73 2 iv lP),(0,.seq 73 (bA (AV.ms bp 5 0) (ep lP))),(0,.beq 0 (bA (rh b0 bp) (ep lP)))])
def CS (cV:Kz):Nat->Int->Int->Int->Int->az->ah->cG->bJ->bl->ah->Nat->cf->Option (Bool×az)
 |0=>λ_ _ _ _ _ _ _ _ _ _ _ _=>none
 |n+1=>KX cV (CS cV n) n
def aqb {cV} (eZ:S5 cV):∀n:Nat,S4 (CS cV n)
 |0=>λ_ _ _ _ _ _ _ _ _ _ _ _ _ h=>nz h
 |n+1=>aFS eZ (aqb eZ n) n
def Rx (dZ:Kz) (n:Nat) (t74 t75:Int) (b0:az) (bC:bl):Option (Bool×az):=
 dZ t74 (bh (t75+1)) (az.mk (af.mk b0.br.av bC) b0.fm) bC
def LX:=K4 (Ig (cZ 87)) ahn
def aFR {dZ} (gH:LX dZ) (n:Nat):S5 (Rx dZ n):=λt74 t75 b0 bC r h=>ra (gH h) []
def Rw (jT:amH) (back:Kz) (n:Nat) (t74 t75:Int) (b0:az) (bC:bl):Option (Bool×az):=
 if decide (t75<t74) then
 (fE bC.length t75).bind λx2=>(bC[0+x2]?).bind λu5=>CS (Rx back n) n t74 t75 (u5.ak.length:Int) 0 (az.mk (af.mk b0.br.av bC) b0.fm) u5 u5.ae u5.aD bC (ah.mk u5.ar [] u5.aP [] []) (0+x2) u5.ak
 else
 jT (az.mk (af.mk b0.br.av bC) b0.fm) bC
def S3:=K2 (Ig [1,1,1,1]) azz
def aFQ {jT} (qA:S3 jT) {back} (aS:LX back) (n:Nat):LX (Rw jT back n):=λt74 t75 b0 bC r h=>ie h (λc0 h=>be h λx2 cW h=>be h λu5 vq h=>ra (aqb (aFR aS n) n h) [aw c0,(0,dO cW),(0,bI.oh dv bp fg 1 false 73 2 u5.ae vq (fB u5)),(0,bI.vK dM (r:= (fB u5)) bp fJ 3 false 121 2 u5.ak vq (ow u5)),(0,bI.vK cT (r:= (ow u5)) bp jJ 4 false 107 13 u5.aD vq (fF u5.ar u5)),(0,bI.Ao [4,3,1] (fF u5.ar u5) vq)]) (λc0 h=>ra (qA h) [aw c0])
def CQ (jT:amH):Nat->Int->Int->az->bl->Option (Bool×az)
 |0=>λ_ _ _ _=>none
 |n+1=>Rw jT (CQ jT n) n
def aqa {jT} (qA:S3 jT):∀n:Nat,LX (CQ jT n)
 |0=>λ_ _ _ _ _ h=>nz h
 |n+1=>aFQ qA (aqa qA n) n
def afa (n:Nat) (b0:az) (bC:bl):Option (Bool×az):=
 some (true,(az.mk (af.mk b0.br.av bC) b0.fm))
def aFP (n:Nat):S3 (afa n):=λb0 bC r h=>rr h []
def Rv (n:Nat) (b0:az) (bC:bl):Option (Bool×az):=
 (avF n bC b0.fm.aO (bh (b0.fm.aO+1))).bind λov=>CQ (afa n) n (ov.2.length:Int) 0 (az.mk (af.mk b0.br.av ov.2) b0.fm) ov.2
def aFO (n:Nat):S6 (Rv n):=λb0 bC r h=>be h λov wh h=>ra (aqa (aFP n) n h) [(17,dh (aIC n wh) [(bp,0)])]
def aeZ (n:Nat) (g0:az):Option (Bool×az):=
 CT (Rv n) n (g0.br.ai.length:Int) 0 g0 g0.br.ai
def aFN (n:Nat):K1 (Ig []) mB (aeZ n):=λg0 r h=>ra (aqc (aFO n) n h) []
def adU:=aeZ
def aIM (n:Nat):K1 (Cx E0 154 qe pP) mB (adU n):=λ_ _ h=>ca (X:=x154) (aFN n h)
def x187:=fx E0 Tryz.f187 [] []
def A187:=Ax x187 dq cu
def LL (x0:Int):LS:=⟨[(0,aN x0)],[]⟩
def aeB (n:Nat) (x0:Int):Option Bool:=
 some (x0 !=x0)
def aEK (n:Nat):K1 (A187 []) LL (aeB n):=λx0 r h=>rr h []
def amW:=aeB
def axv (n:Nat):K1 (Cx E0 187 dq cu) LL (amW n):=λ_ _ h=>ca (X:=x187) (aEK n h)
def x160:=fx E0 Tryz.f160 [] []
def A160:=Ax x160 eB cu
def LO (x0 y1:Int):LS:=⟨[(0,aN x0),(1,aN y1)],[]⟩
def aeU (n:Nat) (x0 y1:Int):Option Int:=
 (amW n x0).bind λx3=>(amW n y1).bind λx7=>if x3 then
 if x7 then
 some 0
 else
 some (-1)
 else
 if x7 then
 some 1
 else
 if decide (x0<y1) then
 some (-1)
 else
 if decide (y1<x0) then
 some 1
 else
 some 0
def aFE (n:Nat):K2 (A160 []) LO (aeU n):=λx0 y1 r h=>be h λx3 fX h=>be h λx7 kX h=>let zA:SE:=[jK (axv n fX),jK (axv n kX)];ie h (λc0 bO=>by subst c0;exact (ie bO (λc1 oW=>by subst c1;exact (rr oW zA)) (λc1 oW=>by subst c1;exact (rr oW zA)))) (λc0 bO=>by subst c0;exact (ie bO (λc1 oW=>by subst c1;exact (rr oW zA)) (λc1 oW=>by subst c1;exact (ie oW (λc2 oW=>bG oW zA [fL c2]) (λc2 oW=>ie oW (λc3 oW=>bG oW zA [fL c2,bq c3]) (λc3 oW=>bG oW zA [fL c2,bq c3]))))))
def ana:=aeU
def aII (n:Nat):K2 (Cx E0 160 eB cu) LO (ana n):=λ_ _ _ h=>ca (X:=x160) (aFE n h)
def x188:=fx E0 Tryz.f188 [] []
def A188:=Ax x188 dq cu
def aeA (n:Nat) (x0:Int):Option Bool:=
 some (x0 !=x0)
def aEJ (n:Nat):K1 (A188 []) LL (aeA n):=λx0 r h=>rr h []
def amV:=aeA
def axu (n:Nat):K1 (Cx E0 188 dq cu) LL (amV n):=λ_ _ h=>ca (X:=x188) (aEJ n h)
def x161:=fx E0 Tryz.f161 [] []
def A161:=Ax x161 eB cu
def aeT (n:Nat) (x0 y1:Int):Option Int:=
 (amV n x0).bind λx3=>(amV n y1).bind λx7=>if x3 then
 if x7 then
 some 0
 else
 some (-1)
 else
 if x7 then
 some 1
 else
 if decide (x0<y1) then
 some (-1)
 else
 if decide (y1<x0) then
 some 1
 else
 some 0
def aFD (n:Nat):K2 (A161 []) LO (aeT n):=λx0 y1 r h=>be h λx3 fX h=>be h λx7 kX h=>let zA:SE:=[jK (axu n fX),jK (axu n kX)];ie h (λc0 bO=>by subst c0;exact (ie bO (λc1 oW=>by subst c1;exact (rr oW zA)) (λc1 oW=>by subst c1;exact (rr oW zA)))) (λc0 bO=>by subst c0;exact (ie bO (λc1 oW=>by subst c1;exact (rr oW zA)) (λc1 oW=>by subst c1;exact (ie oW (λc2 oW=>bG oW zA [fL c2]) (λc2 oW=>ie oW (λc3 oW=>bG oW zA [fL c2,bq c3]) (λc3 oW=>bG oW zA [fL c2,bq c3]))))))
def amZ:=aeT
def aIH (n:Nat):K2 (Cx E0 161 eB cu) LO (amZ n):=λ_ _ _ h=>ca (X:=x161) (aFD n h)
def x189:=fx E0 Tryz.f189 [] []
def A189:=Ax x189 eB cu
def LK (a0 b1:ByteArray):LS:=⟨[(0,.str a0),(1,.str b1)],[]⟩
def aez (n:Nat) (a0 b1:ByteArray):Option Int:=
 (amT n a0 b1).bind λx4=>some x4
def aEI (n:Nat):K2 (A189 []) LK (aez n):=λa0 b1 r h=>be h λx4 kY h=>rr h [na (aIw n kY)]
def avD:=aez
def aIB (n:Nat):K2 (Cx E0 189 eB cu) LK (avD n):=λ_ _ _ h=>ca (X:=x189) (aEI n h)
def x162:=fx E0 Tryz.f162 [] []
def A162:=Ax x162 eB cu
def aeS (n:Nat) (a0 b1:ByteArray):Option Int:=
 (avD n a0 b1).bind λx4=>some x4
def aFC (n:Nat):K2 (A162 []) LK (aeS n):=λa0 b1 r h=>be h λx4 kY h=>rr h [na (aIB n kY)]
def avH:=aeS
def aIG (n:Nat):K2 (Cx E0 162 eB cu) LK (avH n):=λ_ _ _ h=>ca (X:=x162) (aFC n h)
def x116:=fx E0 Tryz.f116 [] []
def A116:=Ax x116 eB cu
def ahA (a0 b1:bj):LS:=⟨[(0,.agg (DK a0)),(1,.agg (DK b1))],[]⟩
def afv (n:Nat) (a0 b1:bj):Option Int:=
 if ((a0.aC==b1.aC) && ((a0.dw==b1.dw) && ((decide (a0.cP=b1.cP)) && true))) then
 some 0
 else
 (ana n a0.aC b1.aC).bind λdn=>if dn !=0 then
 some dn
 else
 (amZ n a0.dw b1.dw).bind λmW=>if mW !=0 then
 some mW
 else
 (avH n a0.cP b1.cP).bind λx29=>some x29
def aHc (n:Nat):K2 (A116 []) ahA (afv n):=λa0 b1 r h=>ie h (λc0 h=>rr h [fL c0]) (λc0 h=>be h λdn gh h=>let zA:SE:=[fL c0,qS (aII n gh)];ie h (λc1 h=>bG h zA [bq c1]) (λc1 h=>be h λmW mq h=>let zB:SE:=dk zA [bq c1,qS (aIH n mq)];ie h (λc2 h=>bG h zB [bq c2]) (λc2 h=>be h λx29 auc h=>bG h zB [bq c2,qS (aIG n auc)])))
def anl:=afv
def aIZ (n:Nat):K2 (Cx E0 116 eB cu) ahA (anl n):=λ_ _ _ h=>ca (X:=x116) (aHc n h)
def x115:=fx E0 Tryz.f115 [] []
def avV:=Ax x115 eB cu
def aAm (xi xh t11:qu) (t12 t13:Int):LS:=⟨[(0,B1 xi),(1,B1 xh),(2,.fn 116 [] []),(11,B1 t11),(12,aN t12),(13,aN t13)],[]⟩
def aAl (xi xh:qu):LS:=⟨[(0,B1 xi),(1,B1 xh)],[]⟩
def ahB (xi xh:qu):LS:=⟨[(0,B1 xi),(1,B1 xh),(2,.fn 116 [] [])],[]⟩
def Sd (aR:qu->qu->Option Int) (back:qu->qu->qu->Int->Int->Option Int) (n:Nat) (xi xh t11:qu) (t12 t13:Int):Option Int:=
 if decide (t13<t12) then
 (idx t11 t13).bind λx3=>if !decide (t13<(xh.length:Int)) then
 some 1
 else
 (idx xh t13).bind λfq=>(anl n x3 fq).bind λkQ=>if kQ !=0 then
 some kQ
 else
 back xi xh t11 t12 (bh (t13+1))
 else
 aR xi xh
def S2:=K2 (avV [1,1]) aAl
def S1:=K5 (avV [0,1,0,1]) aAm
def aHf {aR} (bK:S2 aR) {back} (aS:S1 back) (n:Nat):S1 (Sd aR back n):=λxi xh t11 t12 t13 r h=>ie h (λc0 h=>be h λx3 fX h=>let zA:SE:=[aw c0,(1,D6.idx fX),(6,D6.cw xh)];ie h (λc1 h=>bG h zA [aw c1]) (λc1 h=>be h λfq mU h=>be h λkQ Hl h=>let zB:SE:=dk zA [aw c1,(2,D6.idx mU),aly (aIZ n Hl)];ie h (λc2 h=>bG h zB [bq c2]) (λc2 h=>cL (aS h) zB [bq c2]))) (λc0 h=>ra (bK h) [aw c0])
def C0 (aR:qu->qu->Option Int):Nat->qu->qu->qu->Int->Int->Option Int
 |0=>λ_ _ _ _ _=>none
 |n+1=>Sd aR (C0 aR n) n
def aqx {aR} (bK:S2 aR):∀n:Nat,S1 (C0 aR n)
 |0=>λ_ _ _ _ _ _ h=>nz h
 |n+1=>aHf bK (aqx bK n) n
def Lg (n:Nat) (xi xh:qu):Option Int:=
 if decide ((xi.length:Int)<(xh.length:Int)) then
 some (-1)
 else
 some 0
def aHe (n:Nat):S2 (Lg n):=λxi xh r h=>let zA:SE:=[(1,D6.cw xi),(1,D6.cw xh)];ie h (λc0 h=>bG h zA [aw c0]) (λc0 h=>bG h zA [aw c0])
def ase (n:Nat) (xi xh:qu):Option Int:=
 C0 (Lg n) n xi xh xi (xi.length:Int) 0
def aHd (n:Nat):K2 (avV []) ahB (ase n):=λxi xh r h=>ra (aqx (aHe n) n h) [(2,D6.cw xi)]
def F115:=ase
def aJa (n:Nat):K2 (Cx E0 115 eB cu) ahB (F115 n):=λ_ _ _ h=>ca (X:=x115) (aHd n h)
def x67:=fx E0 Tryz.f67 [] []
def A67:=Ax x67 eB cu
def aoi (a0 b1:qu):LS:=⟨[(0,B1 a0),(1,B1 b1)],[]⟩
def aym (n:Nat) (a0 b1:qu):Option Int:=
 (F115 n a0 b1).bind λx4=>some x4
def aJO (n:Nat):K2 (A67 []) aoi (aym n):=λa0 b1 r h=>be h λx4 kY h=>rr h [na (aJa n kY)]
def F67:=aym
def ev67 (n:Nat):K2 (Cx E0 67 eB cu) aoi (F67 n):=λ_ _ _ h=>ca (X:=x67) (aJO n h)
def O8 (r:dC):AV:=.ms dg 1 0 r.length
def ahW (r:dC):List (Nat×Bx):= [(dg,GW r)]
def x201:=fx E0 Tryz.f201 [] [dg]
def A201:=Ax x201 O8 ahW
def agX (s0:dC):LS:=⟨[(0,.slice 70 1 (BZ s0))],[]⟩
def Q1 (n:Nat) (s0:dC):Option dC:=
 (anV s0).bind λx3=>(app [] s0).bind λx7=>some x7
def aEx (n:Nat):K1 (A201 []) agX (Q1 n):=λs0 r h=>be h λx3 fX h=>be h λx7 kX h=>rr h [(2,.seq 3 (bA (λq_=>(AV.slice 70 1 (BZ q_))) (anU fX))),(3,vE.app kX .CB),(1,.fO 5 dg)]
def Vp:=Q1
def aIy (n:Nat):K1 (Cx E0 201 O8 ahW) agX (Vp n):=λ_ _ h=>ca (X:=x201) (aEx n h)
def E9 (r:dC):AV:=.cm []
def BB (r:dC):List (Nat×Bx):= [(0,GW r)]
def x228:=fx E0 Tryz.f228 [0] [0]
def anO:=Ax x228 E9 BB
def ayy (a1 b2 i8 j9:Int) (b0:dC):LS:=⟨[(0,.ms 0 1 0 b0.length),(1,aN a1),(2,aN b2),(3,Ue),(8,aN i8),(9,aN j9)],[(0,GW b0)]⟩
def agS (a1 b2 i8:Int) (b0:dC):LS:=⟨[(0,.ms 0 1 0 b0.length),(1,aN a1),(2,aN b2),(3,Ue),(8,aN i8)],[(0,GW b0)]⟩
def agR (xD:dC) (a1 b2:Int):LS:=⟨[(0,.ms 0 1 0 xD.length),(1,aN a1),(2,aN b2),(3,Ue)],[(0,GW xD)]⟩
def Gx (aR:amG) (back:Int->Int->Int->Int->dC->Option dC) (n:Nat) (a1 b2 i8 j9:Int) (b0:dC):Option dC:=
 if decide (a1<j9) then
 (fE b0.length j9).bind λx8=>(b0[0+x8]?).bind λeA=>(fE b0.length (bh (j9 - 1))).bind λfq=>(b0[0+fq]?).bind λjA=>(F67 n eA jA).bind λjz=>if decide (jz<0) then
 (fE b0.length (bh (j9 - 1))).bind λBK=>(b0[0+BK]?).bind λpA=>(fE b0.length j9).bind λDb=>(b0[0+Db]?).bind λsi=>(fE b0.length j9).bind λEX=>(b0[0+EX]?).bind λx43=>(setAt b0 (0+EX) pA).bind λEV=>(fE b0.length (bh (j9 - 1))).bind λvh=>(EV[0+vh]?).bind λIi=>(setAt EV (0+vh) si).bind λz49=>back a1 b2 i8 (bh (j9 - 1)) z49
 else
 aR a1 b2 i8 b0
 else
 aR a1 b2 i8 b0
def S0:=K4 (anO [1,1,0,0,1]) agS
def SZ:=K5 (anO (cZ 329)) ayy
def aEi {aR} (bK:S0 aR) {back} (aS:SZ back) (n:Nat):SZ (Gx aR back n):=λa1 b2 i8 j9 b0 r h=>ie h (λc0 h=>be h λx8 ss h=>be h λeA mH h=>be h λfq mU h=>be h λjA mr h=>be h λjz nT h=>let zA:SE:=[bq c0,(4,dO ss),(0,vE.row mH),(3,dO mU),(0,vE.row mr),vQ (ev67 n nT)];ie h (λc1 h=>be h λBK Hj h=>be h λpA Ci h=>be h λDb abH h=>be h λsi Hi h=>be h λEX abG h=>be h λx43 atZ h=>be h λEV xv h=>be h λvh Hh h=>be h λIi abF h=>be h λz49 hz49 h=>cL (aS h) zA [aw c1,(9,dO Hj),(0,vE.row Ci),(2,dO abH),(0,vE.row Hi),(0,dO abG),(0,vE.AB 0 [B1 pA] atZ xv),(0,dO Hh),(0,vE.AB 0 [B1 si] abF hz49),(3,.seq 0 (bA (AV.ms 0 1 0) (((nv hz49).trans (nv xv)).symm)))]) (λc1 h=>cL (bK h) zA [aw c1])) (λc0 h=>ra (bK h) [bq c0])
def FQ (aR:amG):Nat->Int->Int->Int->Int->dC->Option dC
 |0=>λ_ _ _ _ _=>none
 |n+1=>Gx aR (FQ aR n) n
def apA {aR} (bK:S0 aR):∀n:Nat,SZ (FQ aR n)
 |0=>λ_ _ _ _ _ _ h=>nz h
 |n+1=>aEi bK (apA bK n) n
def xX (bR:amG) (n:Nat) (a1 b2 i8:Int) (b0:dC):Option dC:=
 bR a1 b2 (bh (i8+1)) b0
def LW:=K4 (anO [0,1]) agS
def aEh {bR} (dA:LW bR) (n:Nat):S0 (xX bR n):=λa1 b2 i8 b0 r h=>ra (dA h) []
def Gw (back:amG) (n:Nat) (a1 b2 i8:Int) (b0:dC):Option dC:=
 if decide (i8<b2) then
 FQ (xX back n) n a1 b2 i8 i8 b0
 else
 some b0
def aEg {back} (aS:LW back) (n:Nat):LW (Gw back n):=λa1 b2 i8 b0 r h=>ie h (λc0 h=>ra (apA (aEh aS n) n h) [bq c0]) (λc0 h=>rr h [bq c0])
def sD:Nat->Int->Int->Int->dC->Option dC
 |0=>λ_ _ _ _=>none
 |n+1=>Gw (sD n) n
def apz:∀n:Nat,LW (sD n)
 |0=>λ_ _ _ _ _ h=>nz h
 |n+1=>aEg (apz n) n
def QT (n:Nat) (xD:dC) (a1 b2:Int):Option dC:=
 sD n a1 b2 (bh (a1+1)) xD
def aEf (n:Nat):K3 (anO []) agR (QT n):=λxD a1 b2 r h=>ra (apz n h) []
def Oo:=QT
def aIq (n:Nat):K3 (Cx E0 228 E9 BB) agR (Oo n):=λ_ _ _ _ h=>ca (X:=x228) (aEf n h)
def x221:=fx E0 Tryz.f221 [0] [0]
def A221:=Ax x221 E9 BB
def ayz (a1 b2 zO:Int) (Am vU:Bool) (b0:dC):LS:=⟨[(0,.ms 0 1 0 b0.length),(1,aN a1),(2,aN b2),(3,aN zO),(4,Ue),(10,.bool Am),(11,.bool vU)],[(0,GW b0)]⟩
def agT (xD:dC) (a1 b2 zO:Int):LS:=⟨[(0,.ms 0 1 0 xD.length),(1,aN a1),(2,aN b2),(3,aN zO),(4,Ue)],[(0,GW xD)]⟩
def Gy (back:Int->Int->Int->Bool->Bool->dC->Option dC) (n:Nat) (a1 b2 zO:Int) (Am vU:Bool) (b0:dC):Option dC:=
 if !decide (12<(bh (b2 - a1))) then
 (Oo n b0 a1 b2).bind λdn=>(lZ dn.length b0.length).bind λw12=>some dn
 else
 none
def SY:=K6 (A221 [0,1,1]) ayz
def aEk {back} (aS:SY back) (n:Nat):SY (Gy back n):=λa1 b2 zO Am vU b0 r h=>ie h (λc0 h=>be h λdn gh h=>be h λw12 hw12 h=>rr h [fL c0,(4,dh (aIq n gh) [(0,0)])]) (λc0 h=>nz h)
def KF:Nat->Int->Int->Int->Bool->Bool->dC->Option dC
 |0=>λ_ _ _ _ _ _=>none
 |n+1=>Gy (KF n) n
def apB:∀n:Nat,SY (KF n)
 |0=>λ_ _ _ _ _ _ _ h=>nz h
 |n+1=>aEk (apB n) n
def arT (n:Nat) (xD:dC) (a1 b2 zO:Int):Option dC:=
 KF n a1 b2 zO true true xD
def aEj (n:Nat):K4 (A221 []) agT (arT n):=λxD a1 b2 zO r h=>ra (apB n h) []
def Vn:=arT
def aIr (n:Nat):K4 (Cx E0 221 E9 BB) agT (Vn n):=λ_ _ _ _ _ h=>ca (X:=x221) (aEj n h)
def x202:=fx E0 Tryz.f202 [0] [0]
def A202:=Ax x202 E9 BB
def agW (x0:dC):LS:=⟨[(0,.ms 0 1 0 x0.length),(1,Ue)],[(0,GW x0)]⟩
def QZ (n:Nat) (x0:dC):Option dC:=
 (Vr n (IntKind.wrap .u64 ((x0.length:Int)))).bind λx8=>(Vn n x0 0 (x0.length:Int) x8).bind λdn=>(lZ dn.length x0.length).bind λw12=>some dn
def aEw (n:Nat):K1 (A202 []) agW (QZ n):=λx0 r h=>be h λx8 ss h=>be h λdn gh h=>be h λw12 hw12 h=>rr h [XA (aIA n ss),(1,dh (aIr n gh) [(0,0)])]
def Vo:=QZ
def aIx (n:Nat):K1 (Cx E0 202 E9 BB) agW (Vo n):=λ_ _ h=>ca (X:=x202) (aEw n h)
def ahX (r:dC):List (Nat×Bx):= [(dg,GU r)]
def x186:=fx E0 Tryz.f186 [] [dg]
def avQ:=Ax x186 O8 ahX
def ayP (t12 t13:Int) (b8 DZ:dC):LS:=⟨[(3,.ms 8 1 0 b8.length),(4,.ms 35 1 0 DZ.length),(11,.ms 8 1 0 b8.length),(12,aN t12),(13,aN t13)],[(8,GW b8),(35,GU DZ)]⟩
def ayO (DZ:dC):LS:=⟨[(4,.ms 35 1 0 DZ.length)],[(35,GU DZ)]⟩
def ahb (Xk:dC):LS:=⟨[(0,.slice 70 1 (BZ Xk))],[]⟩
def sF (aR:dC->Option dC) (back:Int->Int->dC->dC->Option dC) (n:Nat) (t12 t13:Int) (b8 DZ:dC):Option dC:=
 if decide (t13<t12) then
 (fE b8.length t13).bind λx3=>(b8[0+x3]?).bind λx5=>if t13==0 then
 (app [] x5).bind λgA=>(app DZ [gA]).bind λjz=>back t12 (bh (t13+1)) b8 jz
 else
 (fE b8.length (bh (t13 - 1))).bind λfq=>(b8[0+fq]?).bind λjA=>(F67 n jA x5).bind λmW=>if mW !=0 then
 (app [] x5).bind λx27=>(app DZ [x27]).bind λya=>back t12 (bh (t13+1)) b8 ya
 else
 back t12 (bh (t13+1)) b8 DZ
 else
 aR DZ
def SX:=K1 (avQ [1,1,1,1,1]) ayO
def SW:=K4 (avQ (cZ 175)) ayP
def aEN {aR} (bK:SX aR) {back} (aS:SW back) (n:Nat):SW (sF aR back n):=λt12 t13 b8 DZ r h=>ie h (λc0 h=>be h λx3 fX h=>be h λx5 n9 h=>let zA:SE:=[aw c0,(1,dO fX),(0,vE.row n9)];ie h (λc1 h=>be h λgA kZ h=>be h λjz nT h=>cL (aS h) zA [bw c1,(5,D6.app kZ .CB),(0,D6.gx 31 gA),(1,vE.app nT (vE.tK [gA]))]) (λc1 h=>be h λfq mU h=>be h λjA mr h=>be h λmW mq h=>let zB:SE:=dk zA [bw c1,(4,dO mU),(0,vE.row mr),PU (ev67 n mq)];ie h (λc2 h=>be h λx27 hx27 h=>be h λya Hk h=>cL (aS h) zB [aw c2,(4,D6.app hx27 .CB),(0,D6.gx 31 x27),(1,vE.app Hk (vE.tK [x27]))]) (λc2 h=>cL (aS h) zB [aw c2]))) (λc0 h=>ra (bK h) [aw c0])
def xS (aR:dC->Option dC):Nat->Int->Int->dC->dC->Option dC
 |0=>λ_ _ _ _=>none
 |n+1=>sF aR (xS aR n) n
def apI {aR} (bK:SX aR):∀n:Nat,SW (xS aR n)
 |0=>λ_ _ _ _ _ h=>nz h
 |n+1=>aEN bK (apI bK n) n
def pd (n:Nat) (DZ:dC):Option dC:=
 some DZ
def aEM (n:Nat):SX (pd n):=λDZ r h=>rr h [(2,.fO 35 dg)]
def Q4 (n:Nat) (Xk:dC):Option dC:=
 (Vp n Xk).bind λx3=>(Vo n x3).bind λx7=>(lZ x7.length x3.length).bind λw8=>xS (pd n) n (x3.length:Int) 0 x7 []
def aEL (n:Nat):K1 (avQ []) ahb (Q4 n):=λXk r h=>be h λx3 fX h=>be h λx7 kX h=>be h λw8 hw8 h=>ra (apI (aEM n) n h) [(2,rT (aIy n fX) [(8,dg)]),(2,dh (aIx n kX) [(8,0)]),(4,.born [4] [] 35 true 70 1),(0,.seq 3 (bA (AV.ms 8 1 0) ((yB hw8).symm))),(0,.seq 11 (bA (AV.ms 8 1 0) ((yB hw8).symm)))]
def Ot:=Q4
def axw (n:Nat):K1 (Cx E0 186 O8 ahX) ahb (Ot n):=λ_ _ h=>ca (X:=x186) (aEL n h)
def x155:=fx E0 Tryz.f155 [] []
def afI:=Ax x155 dq cu
def azx (g0:az) (t3:ah) (c4:Int) (t47:iK) (t48 t49:Int) (vC vB:dC):LS:=⟨[(0,.iw (Cv g0)),(3,.iw (ji t3)),(4,aN c4),(5,.ms 70 1 0 vC.length),(6,.ms 76 1 0 vB.length),(47,Ar t47),(48,aN t48),(49,aN t49)],[(70,GU vC),(76,GU vB)]⟩
def azw (t99 t100:Int) (b79 b81:dC):LS:=⟨[(5,.ms 79 1 0 b79.length),(6,.ms 81 1 0 b81.length),(99,aN t99),(100,aN t100)],[(79,GU b79),(81,GU b81)]⟩
def azv:LS:=⟨[],[]⟩
def azu (g0:az) (vC vB:dC):LS:=⟨[(0,.iw (Cv g0)),(5,.ms 70 1 0 vC.length),(6,.ms 76 1 0 vB.length)],[(70,GU vC),(76,GU vB)]⟩
def Ru (cA:az->dC->dC->Option Bool) (back:az->ah->Int->iK->Int->Int->dC->dC->Option Bool) (n:Nat) (g0:az) (t3:ah) (c4:Int) (t47:iK) (t48 t49:Int) (vC vB:dC):Option Bool:=
 if decide (t49<t48) then
 (idx t47 t49).bind λx2=>(idx t3.ae c4).bind λja=>(Vt n x2.f0 ja.aC).bind λov=>if !ov then
 some false
 else
 (app vC [[x2.f0]]).bind λBL=>(app vB [[x2.f1]]).bind λEY=>back g0 t3 c4 t47 t48 (bh (t49+1)) BL EY
 else
 cA g0 vC vB
def SU:=K3 (afI [1,1,1,1,1]) azu
def SS:=K8 (afI (cZ 175)) azx
def aFM {cA} (dX:SU cA) {back} (aS:SS back) (n:Nat):SS (Ru cA back n):=λg0 t3 c4 t47 t48 t49 vC vB r h=>ie h (λc0 h=>be h λx2 cW h=>be h λja lC h=>be h λov wh h=>let zA:SE:=[aw c0,(0,sZ.idx cW),(10,dv.idx lC),jK (alX n wh)];ie h (λc1 h=>bG h zA [aw c1]) (λc1 h=>be h λBL N3 h=>be h λEY abI h=>cL (aS h) zA [aw c1,(4,D6.gx 68 [x2.f0]),(1,vE.app N3 (vE.tK [[x2.f0]])),(5,D6.gx 74 [x2.f1]),(1,vE.app abI (vE.tK [[x2.f1]]))])) (λc0 h=>ra (dX h) [aw c0])
def F9 (cA:az->dC->dC->Option Bool):Nat->az->ah->Int->iK->Int->Int->dC->dC->Option Bool
 |0=>λ_ _ _ _ _ _ _ _=>none
 |n+1=>Ru cA (F9 cA n) n
def apZ {cA} (dX:SU cA):∀n:Nat,SS (F9 cA n)
 |0=>λ_ _ _ _ _ _ _ _ _ h=>nz h
 |n+1=>aFM dX (apZ dX n) n
def sG (bR:Option Bool) (back:Int->Int->dC->dC->Option Bool) (n:Nat) (t99 t100:Int) (b79 b81:dC):Option Bool:=
 if decide (t100<t99) then
 (fE b79.length t100).bind λx6=>(b79[0+x6]?).bind λx8=>(idx x8 0).bind λeA=>(fE b81.length t100).bind λfq=>(b81[0+fq]?).bind λjA=>(idx jA 0).bind λjz=>if !((eA.aC==jz.aC) && ((eA.dw==jz.dw) && ((decide (eA.cP=jz.cP)) && true))) then
 some false
 else
 back t99 (bh (t100+1)) b79 b81
 else
 bR
def SR:=K0 (afI (cZ 511)) azv
def SQ:=K4 (afI (cZ 1407)) azw
def aFL {bR} (dA:SR bR) {back} (aS:SQ back) (n:Nat):SQ (sG bR back n):=λt99 t100 b79 b81 r h=>ie h (λc0 h=>be h λx6 xx h=>be h λx8 ss h=>be h λeA mH h=>be h λfq mU h=>be h λjA mr h=>be h λjz nT h=>let zA:SE:=[aw c0,(4,dO xx),(0,vE.row ss),(0,D6.idx mH),(3,dO mU),(0,vE.row mr),(0,D6.idx nT)];ie h (λc1 h=>bG h zA [aU c1]) (λc1 h=>cL (aS h) zA [aU c1])) (λc0 h=>ra (dA h) [aw c0])
def vH (bR:Option Bool):Nat->Int->Int->dC->dC->Option Bool
 |0=>λ_ _ _ _=>none
 |n+1=>sG bR (vH bR n) n
def apY {bR} (dA:SR bR):∀n:Nat,SQ (vH bR n)
 |0=>λ_ _ _ _ _ h=>nz h
 |n+1=>aFL dA (apY dA n) n
def oe (n:Nat):Option Bool:=
 some true
def aFK (n:Nat):SR (oe n):=λr h=>rr h []
def KW (n:Nat) (g0:az) (vC vB:dC):Option Bool:=
 (Ot n vC).bind λx2=>(Ot n vB).bind λx5=>if (x2.length:Int) !=(g0.fm.cI.length:Int) then
 some false
 else
 if (x5.length:Int) !=(x2.length:Int) then
 some false
 else
 vH (oe n) n (x2.length:Int) 0 x2 x5
def aFJ (n:Nat):SU (KW n):=λg0 vC vB r h=>be h λx2 cW h=>be h λx5 n9 h=>let zA:SE:=[(1,vE.gx 70 vC),(0,.call (bP.L (axw n cW)) [.one (.sl 0 0)] [] [(79,dg)]),(1,vE.gx 76 vB),(0,.call (bP.L (axw n n9)) [.one (.sl 0 0)] [] [(81,dg)]),(9,sZ.cw g0.fm.cI)];ie h (λc0 h=>bG h zA [aw c0]) (λc0 h=>ie h (λc1 h=>bG h zA [aw c0,fL c1]) (λc1 h=>cL (apY (aFK n) n h) zA [aw c0,fL c1]))
def aeY (n:Nat) (g0:az):Option Bool:=
 (Ea n g0).bind λx3=>(Ou n g0 g0.fm.aX).bind λja=>if !ja then
 some false
 else
 (adL n g0).bind λjz=>if jz then
 some false
 else
 if decide ((g0.fm.cI.length:Int)<1) then
 some false
 else
 if decide (16<(g0.fm.cI.length:Int)) then
 some false
 else
 F9 (KW n) n g0 x3 g0.fm.aX g0.fm.cI (g0.fm.cI.length:Int) 0 [] []
def aFI (n:Nat):K1 (afI []) yw (aeY n):=λg0 r h=>be h λx3 fX h=>be h λja lC h=>let zA:SE:=[jK (Kh n fX),axc (XH n lC)];ie h (λc0 h=>bG h zA [aw c0]) (λc0 h=>be h λjz nT h=>let zB:SE:=dk zA [aw c0,jK (axz n nT)];ie h (λc1 bO=>by subst c1;exact (rr bO zB)) (λc1 bO=>by subst c1;exact (let zC:SE:=dk zB [(7,sZ.cw g0.fm.cI)];ie bO (λc2 bO=>bG bO zC [aw c2]) (λc2 bO=>let zD:SE:=dk zC [aw c2,(7,sZ.cw g0.fm.cI)];ie bO (λc3 bO=>bG bO zD [aw c3]) (λc3 bO=>cL (apZ (aFJ n) n bO) zD [aw c3,(8,sZ.cw g0.fm.cI),(1,.born [5] [] 70 true 70 1),(0,.born [6] [] 76 true 70 1)])))))
def adT:=aeY
def aIL (n:Nat):K1 (Cx E0 155 dq cu) yw (adT n):=λ_ _ h=>ca (X:=x155) (aFI n h)
def awk (r:(List Nat)):AV:=.ms dg 1 0 r.length
def aoV (r:(List Nat)):List (Nat×Bx):= [(dg,.rows false 185 1 (L5 r))]
def x97:=fx E0 Tryz.f97 [] [dg]
def A97:=Ax x97 awk aoV
def aod:LS:=⟨[],[]⟩
def ayl (n:Nat):Option (List Nat):=
 some [148,149,150,151,152,153,154,155]
def aJn (n:Nat):K0 (A97 []) aod (ayl n):=λr h=>rr h [(3,.fO 1 dg)]
def F97:=ayl
def ev97 (n:Nat):K0 (Cx E0 97 awk aoV) aod (F97 n):=λ_ h=>ca (X:=x97) (aJn n h)
def x98:=fx E0 Tryz.f98 [] []
def A98:=Ax x98 dq cu
def aCo (HG:Bool) (b1:aE):LS:=⟨[(1,.loc 1 0),(5,.bool HG)],[(1,v7 (ng b1))]⟩
def aCn (b1:aE):LS:=⟨[(1,.loc 1 0)],[(1,v7 (ng b1))]⟩
def Ia (n:Nat) (HG:Bool) (b1:aE):Option Bool:=
 if b1.aO==0 then
 if b1.aX==0 then
 if b1.jo==0 then
 if decide (b1.ar=ByteArray.empty) then
 if b1.aC==0 then
 if ((b1.aV.aC==0) && ((b1.aV.dw==0) && ((decide (b1.aV.cP=ByteArray.empty)) && true))) then
 if (b1.cI.length:Int)==0 then
 some (!HG)
 else
 some false
 else
 some false
 else
 some false
 else
 some false
 else
 some false
 else
 some false
 else
 some false
def Qs (n:Nat):K2 (A98 (cZ 127)) aCo (Ia n):=λHG b1 r h=>ie h (λc0 h=>ie h (λc1 h=>let zA:SE:=[bq c0,bw c1];ie h (λc2 h=>let zB:SE:=dk zA [bT c2];ie h (λc3 h=>let zC:SE:=dk zB [bT c3];ie h (λc4 h=>ie h (λc5 h=>let zD:SE:=dk zC [bT c4,fL c5,(4,sZ.cw b1.cI)];ie h (λc6 h=>bG h zD [aw c6]) (λc6 h=>bG h zD [aw c6])) (λc5 h=>bG h zC [bT c4,fL c5])) (λc4 h=>bG h zC [bT c4])) (λc3 h=>bG h zB [bT c3])) (λc2 h=>bG h zA [bT c2])) (λc1 h=>rr h [bq c0,bw c1])) (λc0 h=>rr h [bq c0])
def xW (n:Nat) (b1:aE):Option Bool:=
 if !decide (b1.aZ.ar=ByteArray.empty) then
 Ia n true b1
 else
 if decide (0<(b1.aZ.ae.length:Int)) then
 Ia n true b1
 else
 if b1.aZ.aP !=0 then
 Ia n true b1
 else
 if decide (0<(b1.aZ.ak.length:Int)) then
 Ia n true b1
 else
 Ia n (decide (0<(b1.aZ.aD.length:Int))) b1
def DX (n:Nat):K1 (A98 [1,1,1,1]) aCn (xW n):=λb1 r h=>ie h (λc0 h=>ra (Qs n h) [jj c0]) (λc0 h=>let zA:SE:=[jj c0,(3,dv.cw b1.aZ.ae)];ie h (λc1 h=>cL (Qs n h) zA [aw c1]) (λc1 h=>ie h (λc2 h=>cL (Qs n h) zA [aw c1,bT c2]) (λc2 h=>let zB:SE:=dk zA [aw c1,bT c2,(4,dM.cw b1.aZ.ak)];ie h (λc3 h=>cL (Qs n h) zB [aw c3]) (λc3 h=>cL (Qs n h) zB [aw c3,(4,cT.cw b1.aZ.aD)]))))
def anr (n:Nat) (m0:aE):Option Bool:=
 if m0.bu==1 then
 xW n (aE.mk m0.bu 0 m0.aX m0.jo ByteArray.empty 0 (bj.mk 0 0 ByteArray.empty) m0.cI m0.aZ)
 else
 if m0.bu==2 then
 xW n (aE.mk m0.bu 0 0 m0.jo m0.ar m0.aC (bj.mk 0 0 ByteArray.empty) m0.cI m0.aZ)
 else
 if m0.bu==3 then
 xW n (aE.mk m0.bu 0 0 0 m0.ar m0.aC m0.aV m0.cI m0.aZ)
 else
 if m0.bu==4 then
 xW n (aE.mk m0.bu 0 0 m0.jo ByteArray.empty m0.aC m0.aV m0.cI m0.aZ)
 else
 if m0.bu==5 then
 xW n (aE.mk m0.bu 0 m0.aX m0.jo ByteArray.empty m0.aC m0.aV m0.cI m0.aZ)
 else
 if m0.bu==6 then
 xW n (aE.mk m0.bu m0.aO m0.aX m0.jo m0.ar m0.aC m0.aV m0.cI (ah.mk ByteArray.empty [] 0 [] []))
 else
 if m0.bu==8 then
 xW n (aE.mk m0.bu 0 0 m0.jo m0.ar m0.aC m0.aV [] m0.aZ)
 else
 xW n (aE.mk m0.bu 0 m0.aX m0.jo m0.ar m0.aC m0.aV m0.cI m0.aZ)
def aJm (n:Nat):K1 (A98 []) LQ (anr n):=λm0 r h=>ie h (λc0 h=>ra (DX n h) [ame c0]) (λc0 h=>ie h (λc1 h=>ra (DX n h) [ame c0,aU c1]) (λc1 h=>let zA:SE:=[ame c0,aU c1];ie h (λc2 h=>cL (DX n h) zA [aU c2]) (λc2 h=>let zB:SE:=dk zA [aU c2];ie h (λc3 h=>cL (DX n h) zB [aU c3]) (λc3 h=>let zC:SE:=dk zB [aU c3];ie h (λc4 h=>cL (DX n h) zC [aU c4]) (λc4 h=>ie h (λc5 h=>cL (DX n h) zC [aU c4,aU c5]) (λc5 h=>ie h (λc6 h=>cL (DX n h) zC [aU c4,aU c5,aU c6]) (λc6 h=>cL (DX n h) zC [aU c4,aU c5,aU c6])))))))
def F98:=anr
def ev98 (n:Nat):K1 (Cx E0 98 dq cu) LQ (F98 n):=λ_ _ h=>ca (X:=x98) (aJm n h)
def x42:=fx E0 Tryz.f42 [] []
def A42:=Ax x42 Xm cu
def aCU (t65:Bool) (b4:af) (b49:az) (FN:bl):LS:=⟨[(4,.loc 4 0),(8,.loc 49 0),(65,.bool t65)],[(4,aap),(49,rh b49 330460001 FN.length),(330460001,sU FN)]⟩
def aCT (i7:Int) (b2:af) (b3:aE) (b4:af) (b9:List Nat):LS:=⟨[(2,.loc 2 0),(3,.loc 3 0),(4,.loc 4 0),(6,.ms 9 1 0 b9.length),(7,aN i7)],[(2,jD (eP b2)),(3,v7 (ng b3)),(4,aap),(9,.rows false 185 1 (L5 b9))]⟩
def Bo (n:Nat) (t65:Bool) (b4:af) (b49:az) (FN:bl):Option (af×Bool):=
 if t65 then
 some ((af.mk 0 []),false)
 else
 some ((af.mk b49.br.av FN),true)
def DY (n:Nat):K4 (A42 (cZ 895)) aCU (Bo n):=λt65 b4 b49 FN r h=>ie h (λc0 bO=>by subst c0;exact (rr bO [(3,.norm [] [(4,.flat [.same,.sl 44 5])])])) (λc0 bO=>by subst c0;exact (rr bO [(6,bI.tfr false 330460001 FN)]))
def vT (n:Nat) (i7:Int) (b2:af) (b3:aE) (b4:af) (b9:List Nat):Option (af×Bool):=
 (F41 n b2).bind λx2=>(fE b9.length i7).bind λmW=>(b9[0+mW]?).bind λpX=>if pX==148 then
 (aea n (az.mk (af.mk (bh (x2.av+1)) x2.ai) b3)).bind λiG=>Bo n (!iG.1) (af.mk 0 []) iG.2 iG.2.br.ai
 else
 if pX==149 then
 (adZ n (az.mk (af.mk (bh (x2.av+1)) x2.ai) b3)).bind λiG=>Bo n (!iG.1) (af.mk 0 []) iG.2 iG.2.br.ai
 else
 if pX==150 then
 (adY n (az.mk (af.mk (bh (x2.av+1)) x2.ai) b3)).bind λiG=>Bo n (!iG.1) (af.mk 0 []) iG.2 iG.2.br.ai
 else
 if pX==151 then
 (adX n (az.mk (af.mk (bh (x2.av+1)) x2.ai) b3)).bind λiG=>Bo n (!iG.1) (af.mk 0 []) iG.2 iG.2.br.ai
 else
 if pX==152 then
 (adW n (az.mk (af.mk (bh (x2.av+1)) x2.ai) b3)).bind λiG=>Bo n (!iG.1) (af.mk 0 []) iG.2 iG.2.br.ai
 else
 if pX==153 then
 (adV n (az.mk (af.mk (bh (x2.av+1)) x2.ai) b3)).bind λiG=>Bo n (!iG.1) (af.mk 0 []) iG.2 iG.2.br.ai
 else
 if pX==154 then
 (adU n (az.mk (af.mk (bh (x2.av+1)) x2.ai) b3)).bind λiG=>Bo n (!iG.1) (af.mk 0 []) iG.2 iG.2.br.ai
 else
 if pX==155 then
 (adT n (az.mk (af.mk (bh (x2.av+1)) x2.ai) b3)).bind λiG=>Bo n (!iG) (af.mk 0 []) (az.mk (af.mk (bh (x2.av+1)) x2.ai) b3) x2.ai
 else
 none
def aye (n:Nat):K5 (A42 [1,1,1,1,1]) aCT (vT n):=λi7 b2 b3 b4 b9 r h=>be h λx2 cW h=>be h λmW mq h=>be h λpX sX h=>ie h (λc0 bO=>by have c0:=eq_of_beq c0;subst c0;exact (
 be bO λiG oS bO=>ra (DY n bO) [(1,rT (HB n cW) [(330460001,201001)]),(16,dO mq),(0,KC.row sX),(1,dh (aIS n oS) [(49,0),(330460001,8589934592)])])) (λc0 h=>ie h (λc1 bO=>by have c1:=eq_of_beq c1;subst c1;exact (
 be bO λiG oS bO=>ra (DY n bO) [(1,rT (HB n cW) [(330460001,201001)]),(16,dO mq),(0,KC.row sX),(1,dh (aIR n oS) [(49,0),(330460001,8589934592)])])) (λc1 h=>ie h (λc2 bO=>by have c2:=eq_of_beq c2;subst c2;exact (
 be bO λiG oS bO=>ra (DY n bO) [(1,rT (HB n cW) [(330460001,201001)]),(16,dO mq),(0,KC.row sX),(1,dh (aIQ n oS) [(49,0),(330460001,8589934592)])])) (λc2 h=>ie h (λc3 bO=>by have c3:=eq_of_beq c3;subst c3;exact (
 be bO λiG oS bO=>ra (DY n bO) [(1,rT (HB n cW) [(330460001,201001)]),(16,dO mq),(0,KC.row sX),(1,dh (aIP n oS) [(49,0),(330460001,8589934592)])])) (λc3 h=>ie h (λc4 bO=>by have c4:=eq_of_beq c4;subst c4;exact (
 be bO λiG oS bO=>ra (DY n bO) [(1,rT (HB n cW) [(330460001,201001)]),(16,dO mq),(0,KC.row sX),(1,dh (aIO n oS) [(49,0),(330460001,8589934592)])])) (λc4 h=>ie h (λc5 bO=>by have c5:=eq_of_beq c5;subst c5;exact (
 be bO λiG oS bO=>ra (DY n bO) [(1,rT (HB n cW) [(330460001,201001)]),(16,dO mq),(0,KC.row sX),(1,dh (aIN n oS) [(49,0),(330460001,4294967296)])])) (λc5 h=>ie h (λc6 bO=>by have c6:=eq_of_beq c6;subst c6;exact (
 be bO λiG oS bO=>ra (DY n bO) [(1,rT (HB n cW) [(330460001,201001)]),(16,dO mq),(0,KC.row sX),(1,dh (aIM n oS) [(49,0),(330460001,8589934592)])])) (λc6 h=>ie h (λc7 bO=>by have c7:=eq_of_beq c7;subst c7;exact (
 be bO λiG oS bO=>ra (DY n bO) [(1,rT (HB n cW) [(330460001,201001)]),(16,dO mq),(0,KC.row sX),(1,dh (bP.yI (lo:= []) (n:=4) (bs:= [(710000,.flat 184 [aN (bh (x2.av+1)),.ms 710001 5 0 x2.ai.length,aN b3.bu,aN b3.aO,.int .i64 b3.aX,.int .i64 b3.jo,.str b3.ar,aN b3.aC,aN b3.aV.aC,aN b3.aV.dw,.str b3.aV.cP,.slice 110 6 (pN b3.cI),.str b3.aZ.ar,.slice 73 2 (eU b3.aZ.ae),.int .i64 b3.aZ.aP,.slice 121 2 (hJ b3.aZ.ak),.slice 107 13 (fH b3.aZ.aD)]),(710001,.tree 44 5 l8 (dy x2.ai) [])]) (xs:= [.loc 710000 0]) (P:=(dy x2.ai).length=x2.ai.length/\True) (aIL n oS) (by kernel_rfl) (by kernel_rfl) ⟨bI.len x2.ai,trivial⟩ (by kernel_rfl) (by kernel_rfl)) [(49,710000),(330460001,710001)])])) (λc7 h=>nz h))))))))
def anC (n:Nat) (s0:af) (m1:aE):Option (af×Bool):=
 (F97 n).bind λx5=>if decide (m1.bu<1) then
 some ((af.mk 0 []),false)
 else
 if !decide ((bh (m1.bu - 1))<(x5.length:Int)) then
 some ((af.mk 0 []),false)
 else
 (F98 n m1).bind λkQ=>if !kQ then
 some ((af.mk 0 []),false)
 else
 if m1.bu !=6 then
 if decide (m1.aO<0) then
 some ((af.mk 0 []),false)
 else
 if !decide (m1.aO<(s0.ai.length:Int)) then
 some ((af.mk 0 []),false)
 else
 vT n (bh (m1.bu - 1)) s0 m1 (af.mk 0 []) x5
 else
 vT n (bh (m1.bu - 1)) s0 m1 (af.mk 0 []) x5
def aKi (n:Nat):K2 (A42 []) LH (anC n):=λs0 m1 r h=>be h λx5 n9 h=>let zA:SE:=[(4,rT (ev97 n n9) [(9,dg)])];ie h (λc0 h=>bG h zA [qV c0,(7,.norm [] [(4,.flat [.same,.sl 44 5])])]) (λc0 h=>let zB:SE:=dk zA [qV c0];ie h (λc1 h=>bG h zB [bT c1,(6,.norm [] [(4,.flat [.same,.sl 44 5])])]) (λc1 h=>be h λkQ Hl h=>let zC:SE:=dk zB [bT c1,na (ev98 n Hl)];ie h (λc2 h=>bG h zC [aw c2,(4,.norm [] [(4,.flat [.same,.sl 44 5])])]) (λc2 h=>let zD:SE:=dk zC [aw c2];ie h (λc3 h=>ie h (λc4 h=>bG h zD [bw c3,bw c4,(6,.norm [] [(4,.flat [.same,.sl 44 5])])]) (λc4 h=>let zE:SE:=dk zD [bw c3,bw c4,(5,bI.cw s0.ai)];ie h (λc5 h=>bG h zE [aw c5,(5,.norm [] [(4,.flat [.same,.sl 44 5])])]) (λc5 h=>cL (aye n h) zE [aw c5]))) (λc3 h=>cL (aye n h) zD [bw c3]))))
def F42:=anC
def ev42 (n:Nat):K2 (Cx E0 42 Xm cu) LH (F42 n):=λ_ _ _ h=>ca (X:=x42) (aKi n h)
def ja:=fx E0 Tryz.f14 [] [dg]
def A14:=Ax ja Xn Pl
def aDm (t31:eG) (t32 t33:Int) (CG:iJ):LS:=⟨[(7,.ms 30 2 0 CG.length),(31,aan t31),(32,aN t32),(33,aN t33)],[(30,GV CG)]⟩
def aDl (CG:iJ):LS:=⟨[(7,.ms 30 2 0 CG.length)],[(30,GV CG)]⟩
def aop (ru:af) (dr:eG):LS:=⟨[(0,.agg (eP ru)),(1,aan dr)],[]⟩
def YB (aR:iJ->Option (iJ×Int)) (back:eG->Int->Int->iJ->Option (iJ×Int)) (n:Nat) (t31:eG) (t32 t33:Int) (CG:iJ):Option (iJ×Int):=
 if decide (t33<t32) then
 (idx t31 t33).bind λx2=>(fE CG.length (bh ((CG.length:Int) - 1))).bind λdn=>(CG[0+dn]?).bind λeT=>(F42 n eT x2).bind λgA=>if !gA.2 then
 some ([],280)
 else
 (F15 n gA.1).bind λpB=>if pB !=0 then
 some ([],280)
 else
 (app CG [gA.1]).bind λx35=>back t31 t32 (bh (t33+1)) x35
 else
 aR CG
def SP:=K1 (A14 [1,1,1,1,1]) aDl
def SN:=K4 (A14 (cZ 175)) aDm
def aKG {aR} (bK:SP aR) {back} (aS:SN back) (n:Nat):SN (YB aR back n):=λt31 t32 t33 CG r h=>ie h (λc0 h=>be h λx2 cW h=>be h λdn gh h=>be h λeT jE h=>be h λgA kZ h=>let zA:SE:=[aw c0,(0,AT.idx cW),(7,dO gh),(0,KB.row jE),PU (ev42 n kZ)];ie h (λc1 h=>bG h zA [qV c1,(4,.born [4] [] dg false 25 2)]) (λc1 h=>be h λpB uW h=>let zB:SE:=dk zA [qV c1,jK (auM n uW)];ie h (λc2 h=>bG h zB [aw c2,(3,.born [4] [] dg false 25 2)]) (λc2 h=>be h λx35 hx35 h=>cL (aS h) zB [aw c2,(4,KB.app hx35 (KB.tK [gA.1]))]))) (λc0 h=>ra (bK h) [aw c0])
def MU (aR:iJ->Option (iJ×Int)):Nat->eG->Int->Int->iJ->Option (iJ×Int)
 |0=>λ_ _ _ _=>none
 |n+1=>YB aR (MU aR n) n
def awY {aR} (bK:SP aR):∀n:Nat,SN (MU aR n)
 |0=>λ_ _ _ _ _ h=>nz h
 |n+1=>aKG bK (awY bK n) n
def YA (n:Nat) (CG:iJ):Option (iJ×Int):=
 some (CG,0)
def aKF (n:Nat):SP (YA n):=λCG r h=>rr h [(3,.fO 30 dg)]
def anL (n:Nat) (ru:af) (dr:eG):Option (iJ×Int):=
 (F15 n ru).bind λx5=>if x5 !=0 then
 some ([],x5)
 else
 if decide (8<(dr.length:Int)) then
 some ([],2)
 else
 if decide (1000<(bh (ru.av+(dr.length:Int)))) then
 some ([],2)
 else
 (F41 n ru).bind λpX=>MU (YA n) n dr (dr.length:Int) 0 [pX]
def aKE (n:Nat):K2 (A14 []) aop (anL n):=λru dr r h=>be h λx5 n9 h=>let zA:SE:=[qS (auM n n9)];ie h (λc0 h=>bG h zA [bq c0,(3,.born [4] [] dg false 25 2)]) (λc0 h=>let zB:SE:=dk zA [bq c0,(1,AT.cw dr)];ie h (λc1 h=>bG h zB [aw c1,(4,.born [4] [] dg false 25 2)]) (λc1 h=>let zC:SE:=dk zB [aw c1,(4,AT.cw dr)];ie h (λc2 h=>bG h zC [aU c2,(3,.born [4] [] dg false 25 2)]) (λc2 h=>be h λpX sX h=>cL (awY (aKF n) n h) zC [aU c2,(2,rT (HB n sX) [(330290001,nZ)]),(0,bI.tfr false 330290001 pX.ai),(3,AT.cw dr)])))
def F14:=anL
def ev14 (n:Nat):K2 (Cx E0 14 Xn Pl) aop (F14 n):=λ_ _ _ h=>ca (X:=ja) (aKE n h)
def gA:=fx E0 Tryz.f16 [] []
def A16:=Ax gA eB cu
def aDi (n3:Int) (t7:bl) (t8 t9:Int):LS:=⟨[(3,aN n3),(7,.slice 44 5 (dy t7)),(8,aN t8),(9,aN t9)],[]⟩
def aDh (n3:Int):LS:=⟨[(3,aN n3)],[]⟩
def Yu (aR:Wf6) (back:Int->bl->Int->Int->Option Int) (n:Nat) (n3:Int) (t7:bl) (t8 t9:Int):Option Int:=
 if decide (t9<t8) then
 (idx t7 t9).bind λx2=>back (bh (n3+(x2.ae.length:Int))) t7 t8 (bh (t9+1))
 else
 aR n3
def SM:=K1 (A16 [1,1,1]) aDh
def SL:=K4 (A16 [0,1,0,1,1]) aDi
def aKw {aR} (bK:SM aR) {back} (aS:SL back) (n:Nat):SL (Yu aR back n):=λn3 t7 t8 t9 r h=>ie h (λc0 h=>be h λx2 cW h=>ra (aS h) [aw c0,(0,bI.idx cW),(6,dv.cw x2.ae)]) (λc0 h=>ra (bK h) [aw c0])
def MR (aR:Wf6):Nat->Int->bl->Int->Int->Option Int
 |0=>λ_ _ _ _=>none
 |n+1=>Yu aR (MR aR n) n
def awU {aR} (bK:SM aR):∀n:Nat,SL (MR aR n)
 |0=>λ_ _ _ _ _ h=>nz h
 |n+1=>aKw bK (awU bK n) n
def Yt (n:Nat) (n3:Int):Option Int:=
 some n3
def aKv (n:Nat):SM (Yt n):=λn3 r h=>rr h []
def ayp (n:Nat) (s0:af):Option Int:=
 MR (Yt n) n 0 s0.ai (s0.ai.length:Int) 0
def aKu (n:Nat):K1 (A16 []) pM (ayp n):=λs0 r h=>ra (awU (aKv n) n h) [(5,bI.cw s0.ai)]
def F16:=ayp
def ev16 (n:Nat):K1 (Cx E0 16 eB cu) pM (F16 n):=λ_ _ h=>ca (X:=gA) (aKu n h)
def x3:=fx E0 Tryz.f3 [] []
def A3:=Ax x3 dq cu
def aHT (m4:eG) (GO Mt t38 t39 t49 t51 t52 t53:Int) (b3:af) (iO:iJ) (CI:af):LS:=⟨[(3,.loc 3 0),(4,aan m4),(7,lB vn iO.length),(11,aN GO),(12,aN Mt),(37,lB vn iO.length),(38,aN t38),(39,aN t39),(48,.loc 10 0),(49,aN t49),(50,.loc 3 0),(51,aN t51),(52,aN t52),(53,aN t53),(54,rL)],[(3,jD (eP b3)),(10,jD (eP CI)),(vn,GV iO)]⟩
def aHS (m4:eG) (t38 t39 t49 t51 t52 t53:Int) (b3:af) (iO:iJ) (CI:af):LS:=⟨[(3,.loc 3 0),(4,aan m4),(7,lB vn iO.length),(37,lB vn iO.length),(38,aN t38),(39,aN t39),(48,.loc 10 0),(49,aN t49),(50,.loc 3 0),(51,aN t51),(52,aN t52),(53,aN t53),(54,rL)],[(3,jD (eP b3)),(10,jD (eP CI)),(vn,GV iO)]⟩
def aHR (m4:eG) (t38 t39:Int) (b3:af) (iO:iJ):LS:=⟨[(3,.loc 3 0),(4,aan m4),(7,lB vn iO.length),(37,lB vn iO.length),(38,aN t38),(39,aN t39)],[(3,jD (eP b3)),(vn,GV iO)]⟩
def aHQ:LS:=⟨[],[]⟩
def ajG (sA:aH):LS:=⟨[(0,.iW 5 1 (y5 sA))],[]⟩
def Ow (aR:eG->Int->Int->Int->Int->Int->Int->af->iJ->af->Option Bool) (n:Nat) (m4:eG) (GO Mt t38 t39 t49 t51 t52 t53:Int) (b3:af) (iO:iJ) (CI:af):Option Bool:=
 if GO !=0 then
 some false
 else
 if Mt !=0 then
 some false
 else
 aR m4 t38 t39 t49 t51 t52 t53 b3 iO CI
def ahI:=K10 (A3 (cZ 3887)) aHS
def acM {aR} (bK:ahI aR) (n:Nat):K12 (A3 (cZ 258863)) aHT (Ow aR n):=λm4 GO Mt t38 t39 t49 t51 t52 t53 b3 iO CI r h=>ie h (λc0 h=>rr h [aU c0]) (λc0 h=>ie h (λc1 h=>rr h [aU c0,bq c1]) (λc1 h=>ra (bK h) [aU c0,bq c1]))
def EE (bR:Wf47) (n:Nat) (m4:eG) (t38 t39 t49 t51 t52 t53:Int) (b3:af) (iO:iJ) (CI:af):Option Bool:=
 bR m4 t38 (bh (t39+1)) b3 iO
def LV:=K5 (A3 (cZ 175)) aHR
def Vh {bR} (dA:LV bR) (n:Nat):ahI (EE bR n):=λm4 t38 t39 t49 t51 t52 t53 b3 iO CI r h=>ra (dA h) []
def anG (cA:Option Bool) (back:Wf47) (n:Nat) (m4:eG) (t38 t39:Int) (b3:af) (iO:iJ):Option Bool:=
 if decide (t39<t38) then
 (fE iO.length t39).bind λx3_=>(iO[0+x3_]?).bind λx5=>(F15 n x5).bind λdn=>if dn !=0 then
 some false
 else
 if x5.av !=(bh (b3.av+t39)) then
 some false
 else
 if t39==0 then
 EE back n m4 t38 t39 x5.av b3.av t39 (bh (b3.av+t39)) b3 iO x5
 else
 (fE iO.length (bh (t39 - 1))).bind λBK=>(iO[0+BK]?).bind λEY=>(F16 n x5).bind λsi=>(fE iO.length (bh (t39 - 1))).bind λEW=>(iO[0+EW]?).bind λvh=>(F16 n vh).bind λIi=>(idx m4 (bh (t39 - 1))).bind λx56=>if x56.bu==1 then
 Ow (EE back n) n m4 (bh ((x5.ai.length:Int) - (EY.ai.length:Int))) (bh ((bh (si - Ii)) - 1)) t38 t39 x5.av b3.av t39 (bh (b3.av+t39)) b3 iO x5
 else
 if x56.bu==2 then
 Ow (EE back n) n m4 (bh ((x5.ai.length:Int) - (EY.ai.length:Int))) (bh ((bh (si - Ii))+1)) t38 t39 x5.av b3.av t39 (bh (b3.av+t39)) b3 iO x5
 else
 if x56.bu==6 then
 (idx m4 (bh (t39 - 1))).bind λx72=>Ow (EE back n) n m4 (bh ((bh ((x5.ai.length:Int) - (EY.ai.length:Int))) - 1)) (bh ((bh (si - Ii)) - (x72.aZ.ae.length:Int))) t38 t39 x5.av b3.av t39 (bh (b3.av+t39)) b3 iO x5
 else
 if x56.bu==7 then
 (fE iO.length (bh (t39 - 1))).bind λx74=>(iO[0+x74]?).bind λpy=>(idx m4 (bh (t39 - 1))).bind λx82=>(idx py.ai x82.aO).bind λx86=>Ow (EE back n) n m4 (bh ((bh ((x5.ai.length:Int) - (EY.ai.length:Int)))+1)) (bh ((bh (si - Ii))+(x86.ae.length:Int))) t38 t39 x5.av b3.av t39 (bh (b3.av+t39)) b3 iO x5
 else
 Ow (EE back n) n m4 (bh ((x5.ai.length:Int) - (EY.ai.length:Int))) (bh (si - Ii)) t38 t39 x5.av b3.av t39 (bh (b3.av+t39)) b3 iO x5
 else
 cA
def SK:=K0 (A3 [1,1,1,1,1]) aHQ
def b3_2 {cA} (dX:SK cA) {back} (aS:LV back) (n:Nat):LV (anG cA back n):=λm4 t38 t39 b3 iO r h=>ie h (λc0 h=>be h λx3_ fX h=>be h λx5 n9 h=>be h λdn gh h=>let zA:SE:=[aw c0,(1,dO fX),(0,KB.row n9),qS (auM n gh)];ie h (λc1 h=>bG h zA [aw c1]) (λc1 h=>let zB:SE:=dk zA [aw c1];ie h (λc2 h=>bG h zB [qV c2]) (λc2 h=>let zC:SE:=dk zB [qV c2];ie h (λc3 h=>cL (Vh aS n h) zC [bq c3]) (λc3 h=>be h λBK Hj h=>be h λEY abI h=>be h λsi Hi h=>be h λEW UI h=>be h λvh Hh h=>be h λIi abF h=>be h λx56 hx56 h=>let zD:SE:=dk zC [bq c3,(2,bI.cw x5.ai),(3,dO Hj),(1,KB.row abI),(0,bI.cw EY.ai),jK (ev16 n Hi),(3,dO UI),(0,KB.row Hh),vQ (ev16 n abF),(6,AT.idx hx56)];ie h (λc4 h=>cL (acM (Vh aS n) n h) zD [bq c4]) (λc4 h=>let zE:SE:=dk zD [bq c4];ie h (λc5 h=>cL (acM (Vh aS n) n h) zE [aU c5]) (λc5 h=>ie h (λc6 h=>be h λx72 hx72 h=>cL (acM (Vh aS n) n h) zE [aU c5,aU c6,(7,AT.idx hx72),(3,dv.cw x72.aZ.ae)]) (λc6 h=>ie h (λc7 h=>be h λx74 hx74 h=>be h λpy atX h=>be h λx82 hx82 h=>be h λx86 hx86 h=>cL (acM (Vh aS n) n h) zE [aU c5,aU c6,aU c7,(7,dO hx74),(1,KB.row atX),(3,AT.idx hx82),(2,bI.idx hx86),(2,dv.cw x86.ae)]) (λc7 h=>cL (acM (Vh aS n) n h) zE [aU c5,aU c6,aU c7])))))))) (λc0 h=>ra (dX h) [aw c0])
def KD (cA:Option Bool):Nat->eG->Int->Int->af->iJ->Option Bool
 |0=>λ_ _ _ _ _=>none
 |n+1=>anG cA (KD cA n) n
def l3_2 {cA} (dX:SK cA):∀n:Nat,LV (KD cA n)
 |0=>λ_ _ _ _ _ _ h=>nz h
 |n+1=>b3_2 dX (l3_2 dX n) n
def ael (n:Nat):Option Bool:=
 (F17 n).bind λx1=>some x1
def b3_3 (n:Nat):SK (ael n):=λr h=>be h λx1 AH h=>rr h [vQ (ev17 n AH)]
def avN (n:Nat) (sA:aH):Option Bool:=
 (F13 n sA 300).bind λx3_=>(F12 n x3_).bind λx5=>(F14 n x5.1 x5.2.1).bind λjz=>if jz.2 !=0 then
 some false
 else
 if (jz.1.length:Int) !=(bh ((x5.2.1.length:Int)+1)) then
 some false
 else
 KD (ael n) n x5.2.1 (jz.1.length:Int) 0 x5.1 jz.1
def b3_4 (n:Nat):K1 (A3 []) ajG (avN n):=λsA r h=>be h λx3_ fX h=>be h λx5 n9 h=>be h λjz nT h=>let zA:SE:=[(2,rT (ev13 n fX) [(15,dg)]),(0,.call (bP.L (ev12 n n9)) [] [(15,0)] [(301601,200001),(301602,200002)]),(12,AT.gx 301601 x5.2.1),(0,rT (ev14 n nT) [(vn,dg)])];ie h (λc0 h=>bG h zA [jj c0]) (λc0 h=>let zB:SE:=dk zA [jj c0,(4,AT.cw x5.2.1)];ie h (λc1 h=>bG h zB [aU c1]) (λc1 h=>cL (l3_2 (b3_3 n) n h) zB [aU c1]))
def F3:=avN
def ev3 (n:Nat):K1 (Cx E0 3 dq cu) ajG (F3 n):=λ_ _ h=>ca (X:=x3) (b3_4 n h)
end Go.Proofs.YtbnkhmoelnfjoaaGreat
end
