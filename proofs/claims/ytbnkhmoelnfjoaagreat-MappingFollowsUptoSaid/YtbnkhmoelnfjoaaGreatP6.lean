/- Part. -/
import Derived.Test.YtbnkhmoelnfjoaaGreatP5
import Derived.KernelRfl
import Derived.Test.YtbnkhmoelnfjoaaGreatP3
import Derived.Test.YtbnkhmoelnfjoaaGreatP4
import Derived.IntWalk
import Derived.Laws.RangeString
import Derived.Laws.RangeAny
set_option linter.all false
set_option maxRecDepth 100000
open Option renaming some->V,none->G
open Bool renaming true->M,false->B
open Decidable renaming decide->U
open Go.Proofs.YtbnkhmoelnfjoaaGreat.aw renaming mk->ad4
open ByteArray renaming empty->vp,mk->xp
open Go.Proofs.YtbnkhmoelnfjoaaGreat.cE renaming mk->ad5
open Go.Proofs.YtbnkhmoelnfjoaaGreat.ae renaming mk->ad0
open Go.Op renaming bytesLess->Kx
open Go.Proofs.YtbnkhmoelnfjoaaGreat.dR renaming mk->ad6
open Go.Proofs.YtbnkhmoelnfjoaaGreat.aG renaming mk->ad7
open Go.Lib renaming compareBytes->aa0
noncomputable section
namespace Go.Proofs.YtbnkhmoelnfjoaaGreat
open Go.bL
variable (g:Nat) (u:Int) (w:ae) (g6:Int) (C:bp) (D:bC) (O:Int) (F:aP) (R:cH) (E aa:Int) (S:bn) (g8:bp) (H:ae) (I:bB) (f7:aN) (W:aw) (f8:Int) (ab:eM) (N an aS:cE) (af:aP) (ac:Int) (ao:lz) (ad:aT) (ap:List (Int×aT)) (al:bp) (aq:bC) (Y:ae) (am:Int) (bc:Bool) (aZ:cf) (bd:Int) (bf:dR) (ay:aT) (bm:bn) (bi:Int) (bb:bB) (bo:re) (bq:bp) (bs:aG) (bQ:Int) (bv:aw) (bx:bO) (bz:ae) (bI:Z) (bW:A Bool) (bX:gq) (bY:R7) (cc:Int) (bR:aj) (cp:ZE) (ce:dR) (cg:tw) (ch:aP) (ct:Int) (bT:aT) (cu:bn) (bN cv:Int) (cw:Nat) (cz:asE) (cB:eM) (cI:re) (cJ:UInt8) (cK:Z) (cP:Nat) (cW cZ:Int) (dc:bC) (dD:asH) (df:asI) (dF:aDj) (dl:Nat) (ci dn:Int) (ds:bD) (cj:bp) (dt:Int) (ck:aN) (bP:ae) (dA:(bC×ae)) (dJ:Hh) (dK:aN->aP->aP->Int->A (aj×aN)) (dN:asG) (dQ:asF) (dT:asD) (dU:aDl) (dC:Nat) (dV:aDk) (dW:Wf51) (dY:Nat) (cl:Int) (dZ:cf) (cn:ae) (co:bB) (d0:UInt8) (d1:bC) (d2:aT) (d3:gZ) (d4:bp) (d5:ai) (d6:TypeId) (d7:List AV) (d8:(re×Int×Int)) (d9:(bp×aN)) (ea:(bp×Bool×cf)) (ec:(bC×aw×aN)) (ed:(bC×Int)) (ef:(aw×cf)) (eg:(aw×aN)) (ei:(List Nat)) (ej:(Int×cf)) (ek:(Int×ae×bB)) (el:(Int×ae×Int)) (em:(Int×ae)) (eo:(Int×Bool×ae×bB)) (ep:(Bool×ae×Int)) (eq:(Bool×ae))
variable {x k:Int} {J f9:Type} {v:aT} {xs:bw} {i d p:Nat} {l cols params:aP} {seen:List Z}
def aDX:AV:=.ms bF 1 0 ei.length
def aws:List (Nat×Bx):= [(bF,.rows B 185 1 (O3 ei))]
def x97:=fx E0 Tryz.f97 []
def A97:=Ax x97 aDX aws
def avc:LS:=⟨[],[]⟩
def aHF (n:Nat):A (List Nat):=
 V [148,149,150,151,152,153,154,155]
def aSB:KK (A97 []) avc (aHF g):=λr h=>rr h [(3,.ja 1 bF)]
def F97:=aHF
def ev97:KK (Cx E0 97 aDX aws) avc (F97 g):=λ_ h=>ca (X:=x97) (aSB g h)
def x98:=fx E0 Tryz.f98 []
def A98:=Ax x98 cY bG
def aKx:LS:=⟨[aY 1,(5,.bool bc)],[(1,vd (nU bs))]⟩
def aKw:LS:=⟨[aY 1],[(1,vd (nU bs))]⟩
def Lb (n:Nat) (RU:Bool) (b1:aG):A Bool:=
 if b1.av==0 then
 if b1.ba==0 then
 if b1.kM==0 then
 if U (b1.aM=vp) then
 if b1.aE==0 then
 if ((b1.bk.aE==0)&&((b1.bk.dj==0)&&((U (b1.bk.cM=vp))&&M))) then
 if (b1.cA.length:Int)==0 then
 V (!RU)
 else
 V B
 else
 V B
 else
 V B
 else
 V B
 else
 V B
 else
 V B
 else
 V B
def Um:KK (A98 (aI 127)) aKx (Lb g):=λ_ _ r h=>ie h (λc0 h=>ie h (λc1 h=>let zA:SE:=[aQ c0,aX c1];ie h (λc2 h=>let zB:SE:=dv zA [bl c2];ie h (λc3 h=>let zC:SE:=dv zB [bl c3];ie h (λc4 h=>ie h (λc5 h=>ie h (λc6 h=>bu h zC [bl c4,bS c5,bS c6]) λc6 h=>bu h zC [bl c4,bS c5,bS c6]) λc5 h=>bu h zC [bl c4,bS c5]) λc4 h=>bu h zC [bl c4]) λc3 h=>bu h zB [bl c3]) λc2 h=>bu h zA [bl c2]) λc1 h=>rr h [aQ c0,aX c1]) λc0 h=>rr h [aQ c0]
def zR:A Bool:=
 if !U (bs.bt.aM=vp) then
 Lb g M bs
 else
 if U (0<(bs.bt.ag.length:Int)) then
 Lb g M bs
 else
 if bs.bt.aH !=0 then
 Lb g M bs
 else
 if U (0<(bs.bt.ar.length:Int)) then
 Lb g M bs
 else
 Lb g (U (0<(bs.bt.aL.length:Int))) bs
def Gq:KK (A98 [1,1,1,1]) aKw (zR g):=λ_ r h=>ie h (λc0 h=>ra (Um g h) [dm c0]) λc0 h=>ie h (λc1 h=>ra (Um g h) [dm c0,bl c1]) λc1 h=>let zA:SE:=[dm c0,bl c1];ie h (λc2 h=>cC (Um g h) zA [bl c2]) λc2 h=>ie h (λc3 h=>cC (Um g h) zA [bl c2,bS c3]) λc3 h=>cC (Um g h) zA [bl c2,bS c3]
def atH:A Bool:=
 if bs.bg==1 then
 zR g (ad7 bs.bg 0 bs.ba bs.kM vp 0 oJ bs.cA bs.bt)
 else
 if bs.bg==2 then
 zR g (ad7 bs.bg 0 0 bs.kM bs.aM bs.aE oJ bs.cA bs.bt)
 else
 if bs.bg==3 then
 zR g (ad7 bs.bg 0 0 0 bs.aM bs.aE bs.bk bs.cA bs.bt)
 else
 if bs.bg==4 then
 zR g (ad7 bs.bg 0 0 bs.kM vp bs.aE bs.bk bs.cA bs.bt)
 else
 if bs.bg==5 then
 zR g (ad7 bs.bg 0 bs.ba bs.kM vp bs.aE bs.bk bs.cA bs.bt)
 else
 if bs.bg==6 then
 zR g (ad7 bs.bg bs.av bs.ba bs.kM bs.aM bs.aE bs.bk bs.cA (ai.mk vp [] 0 [] []))
 else
 if bs.bg==8 then
 zR g (ad7 bs.bg 0 0 bs.kM bs.aM bs.aE bs.bk [] bs.bt)
 else
 zR g (ad7 bs.bg 0 bs.ba bs.kM bs.aM bs.aE bs.bk bs.cA bs.bt)
def aSA:KK (A98 []) OQ (atH g):=λ_ r h=>ie h (λc0 h=>ra (Gq g h) [Uf c0]) λc0 h=>ie h (λc1 h=>ra (Gq g h) [Uf c0,aW c1]) λc1 h=>let zA:SE:=[Uf c0,aW c1];ie h (λc2 h=>cC (Gq g h) zA [aW c2]) λc2 h=>let zB:SE:=dv zA [aW c2];ie h (λc3 h=>cC (Gq g h) zB [aW c3]) λc3 h=>let zC:SE:=dv zB [aW c3];ie h (λc4 h=>cC (Gq g h) zC [aW c4]) λc4 h=>ie h (λc5 h=>cC (Gq g h) zC [aW c4,aW c5]) λc5 h=>ie h (λc6 h=>cC (Gq g h) zC [aW c4,aW c5,aW c6]) λc6 h=>cC (Gq g h) zC [aW c4,aW c5,aW c6]
def F98:=atH
def ev98:KK (Cx E0 98 cY bG) OQ (F98 g):=λ_ _ h=>ca (X:=x98) (aSA g h)
def Lo:=fx E0 Tryz.f42 []
def A42:=Ax Lo abr bG
def aKQ (b4:ae) (b49:aJ) (Ix:bD):LS:=⟨[aY 4,(8,.loc 49 0),(65,.bool bc)],[(4,agf),(49,l4 (bj b49 (.ms 330460001 5 0 Ix.length))),(330460001,zZ Ix)]⟩
def aKP (b4:ae) (b9:List Nat):LS:=⟨[aY 2,aY 3,aY 4,(6,.ms 9 1 0 b9.length),(7,bM u)],[(2,ij (cG w)),(3,vd (nU bs)),(4,agf),(9,.rows B 185 1 (O3 b9))]⟩
def Du (n:Nat) (t65:Bool) (b4:ae) (b49:aJ) (Ix:bD):A (ae×Bool):=
 if t65 then
 V ((ad0 0 []),B)
 else
 V ((ad0 b49.bZ.aA Ix),M)
def Gr:KK (A42 (aI 895)) aKQ (Du g):=λ_ _ _ Ix r h=>ie h (λc0 bE=>by subst c0;exact (rr bE [(3,.nQ 4 (.flat 0 [.bool M,.sl 0 44 5 0 []]))])) λc0 bE=>by subst c0;exact (rr bE [(6,cy.tfr B 330460001 Ix)])
def xI (b4:ae) (b9:List Nat):A (ae×Bool):=
 (F41 g w).bind λx2=>(eh b9.length u).bind λlM=>(b9[0+lM]?).bind λmF=>if mF==148 then
 (ajs g (aJ.mk (ad0 (aV (x2.aA+1)) x2.ah) bs)).bind λgw=>Du g (!gw.1) (ad0 0 []) gw.2 gw.2.bZ.ah
 else
 if mF==149 then
 (ajr g (aJ.mk (ad0 (aV (x2.aA+1)) x2.ah) bs)).bind λgw=>Du g (!gw.1) (ad0 0 []) gw.2 gw.2.bZ.ah
 else
 if mF==150 then
 (ajq g (aJ.mk (ad0 (aV (x2.aA+1)) x2.ah) bs)).bind λgw=>Du g (!gw.1) (ad0 0 []) gw.2 gw.2.bZ.ah
 else
 if mF==151 then
 (ajp g (aJ.mk (ad0 (aV (x2.aA+1)) x2.ah) bs)).bind λgw=>Du g (!gw.1) (ad0 0 []) gw.2 gw.2.bZ.ah
 else
 if mF==152 then
 (ajo g (aJ.mk (ad0 (aV (x2.aA+1)) x2.ah) bs)).bind λgw=>Du g (!gw.1) (ad0 0 []) gw.2 gw.2.bZ.ah
 else
 if mF==153 then
 (ajn g (aJ.mk (ad0 (aV (x2.aA+1)) x2.ah) bs)).bind λgw=>Du g (!gw.1) (ad0 0 []) gw.2 gw.2.bZ.ah
 else
 if mF==154 then
 (ajm g (aJ.mk (ad0 (aV (x2.aA+1)) x2.ah) bs)).bind λgw=>Du g (!gw.1) (ad0 0 []) gw.2 gw.2.bZ.ah
 else
 if mF==155 then
 (ajl g (aJ.mk (ad0 (aV (x2.aA+1)) x2.ah) bs)).bind λgw=>Du g (!gw) (ad0 0 []) (aJ.mk (ad0 (aV (x2.aA+1)) x2.ah) bs) x2.ah
 else
 G
def aHa:KK (A42 [1,1,1,1,1]) aKP (xI g):=λ_ _ _ _ _ r h=>be h λx2 dg h=>be h λ_ j5 h=>be h λ_ nR h=>ie h (λc0 bE=>by have c0:=eq_of_beq c0;subst c0;exact (
 be bE λgw ld bE=>ra (Gr g bE) [(0,.ord [0,2,1,3,4,5]),(2,.call (Ko g dg) [] [(330460001,201001)]),(15,de j5),(0,NB.row nR),(1,.call (aSc g ld) [(49,0),(330460001,8589934592)] [])])) λc0 h=>ie h (λc1 bE=>by have c1:=eq_of_beq c1;subst c1;exact (
 be bE λgw ld bE=>ra (Gr g bE) [(0,.ord [0,2,1,3,4,5]),(2,.call (Ko g dg) [] [(330460001,201001)]),(15,de j5),(0,NB.row nR),(1,.call (aSb g ld) [(49,0),(330460001,8589934592)] [])])) λc1 h=>ie h (λc2 bE=>by have c2:=eq_of_beq c2;subst c2;exact (
 be bE λgw ld bE=>ra (Gr g bE) [(0,.ord [0,2,1,3,4,5]),(2,.call (Ko g dg) [] [(330460001,201001)]),(15,de j5),(0,NB.row nR),(1,.call (aSa g ld) [(49,0),(330460001,8589934592)] [])])) λc2 h=>ie h (λc3 bE=>by have c3:=eq_of_beq c3;subst c3;exact (
 be bE λgw ld bE=>ra (Gr g bE) [(0,.ord [0,2,1,3,4,5]),(2,.call (Ko g dg) [] [(330460001,201001)]),(15,de j5),(0,NB.row nR),(1,.call (aRZ g ld) [(49,0),(330460001,8589934592)] [])])) λc3 h=>ie h (λc4 bE=>by have c4:=eq_of_beq c4;subst c4;exact (
 be bE λgw ld bE=>ra (Gr g bE) [(0,.ord [0,2,1,3,4,5]),(2,.call (Ko g dg) [] [(330460001,201001)]),(15,de j5),(0,NB.row nR),(1,.call (aRY g ld) [(49,0),(330460001,8589934592)] [])])) λc4 h=>ie h (λc5 bE=>by have c5:=eq_of_beq c5;subst c5;exact (
 be bE λgw ld bE=>ra (Gr g bE) [(0,.ord [0,2,1,3,4,5]),(2,.call (Ko g dg) [] [(330460001,201001)]),(15,de j5),(0,NB.row nR),(1,.call (aRX g ld) [(49,0),(330460001,4294967296)] [])])) λc5 h=>ie h (λc6 bE=>by have c6:=eq_of_beq c6;subst c6;exact (
 be bE λgw ld bE=>ra (Gr g bE) [(0,.ord [0,2,1,3,4,5]),(2,.call (Ko g dg) [] [(330460001,201001)]),(15,de j5),(0,NB.row nR),(1,.call (aRW g ld) [(49,0),(330460001,8589934592)] [])])) λc6 h=>ie h (λc7 bE=>by have c7:=eq_of_beq c7;subst c7;exact (
 be bE λgw ld bE=>ra (Gr g bE) [(0,.ord [0,2,1,3,4,5]),(2,.call (Ko g dg) [] [(330460001,201001)]),(15,de j5),(0,NB.row nR),(1,.zw (aRV g ld) [cy.tfr B 330460001 x2.ah,.eB 49 (Q:= []) (n:=0) rfl] trivial [] [])])) λc7 h=>nz h
def aut:A (ae×Bool):=
 (F97 g).bind λx5=>if U (bs.bg<1) then
 V ((ad0 0 []),B)
 else
 if !U ((aV (bs.bg-1))<(x5.length:Int)) then
 V ((ad0 0 []),B)
 else
 (F98 g bs).bind λhY=>if !hY then
 V ((ad0 0 []),B)
 else
 if bs.bg !=6 then
 if U (bs.av<0) then
 V ((ad0 0 []),B)
 else
 if !U (bs.av<(w.ah.length:Int)) then
 V ((ad0 0 []),B)
 else
 xI g (aV (bs.bg-1)) w bs (ad0 0 []) x5
 else
 xI g (aV (bs.bg-1)) w bs (ad0 0 []) x5
def aUF:KK (A42 []) OE (aut g):=λ_ _ r h=>be h λ_ iw h=>let zA:SE:=[(4,.call (ev97 g iw) [] [(9,bF)])];ie h (λc0 h=>bu h zA [il c0,(7,.nQ 4 (.flat 0 [.bool M,.sl 0 44 5 0 []]))]) λc0 h=>let zB:SE:=dv zA [il c0];ie h (λc1 h=>bu h zB [bl c1,(6,.nQ 4 (.flat 0 [.bool M,.sl 0 44 5 0 []]))]) λc1 h=>be h λ_ oj h=>let zC:SE:=dv zB [bl c1,ky (ev98 g oj)];ie h (λc2 h=>bu h zC [aD c2,(4,.nQ 4 (.flat 0 [.bool M,.sl 0 44 5 0 []]))]) λc2 h=>let zD:SE:=dv zC [aD c2];ie h (λc3 h=>ie h (λc4 h=>bu h zD [aX c3,aX c4,(6,.nQ 4 (.flat 0 [.bool M,.sl 0 44 5 0 []]))]) λc4 h=>ie h (λc5 h=>bu h zD [aX c3,aX c4,dm c5,(5,.nQ 4 (.flat 0 [.bool M,.sl 0 44 5 0 []]))]) λc5 h=>cC (aHa g h) zD [aX c3,aX c4,dm c5]) λc3 h=>cC (aHa g h) zD [aX c3]
def F42:=aut
def ev42:KK (Cx E0 42 abr bG) OE (F42 g):=λ_ _ _ h=>ca (X:=Lo) (aUF g h)
def iK:=fx E0 Tryz.f14 []
def A14:=Ax iK abv Tp
def afC:LS:=⟨[(7,.ms 30 2 0 d3.length),(31,.sy 46 15 R.length (qt R)),(32,iI E),(33,iI aa)],[(30,Y1 d3)]⟩
def afB:LS:=⟨[(7,.ms 30 2 0 d3.length)],[(30,Y1 d3)]⟩
def avL:LS:=⟨[(0,.agg (cG w)),(1,.sy 46 15 R.length (qt R))],[]⟩
def adI (aB:gZ->A (gZ×Int)) (back:cH->Int->Int->gZ->A (gZ×Int)) (n:Nat) (t31:cH) (t32 t33:Int) (Iz:gZ):A (gZ×Int):=
 if U (t33<t32) then
 (idx t31 t33).bind λx2=>(eh Iz.length (aV ((Iz.length:Int)-1))).bind λdu=>(Iz[0+du]?).bind λdB=>(F42 n dB x2).bind λfN=>if !fN.2 then
 V ([],280)
 else
 (Jh n fN.1).bind λqb=>if qb !=0 then
 V ([],280)
 else
 (app Iz [fN.1]).bind λCN=>back t31 t32 (aV (t33+1)) CN
 else
 aB Iz
def aVS {aB} (aU:KK (A14 [1,1,1,1,1]) afB aB) {back} (aK:KK (A14 (aI 175)) afC back) (n:Nat):KK (A14 (aI 175)) afC (adI aB back n):=λ_ _ _ _ r h=>ie h (λc0 h=>be h λ_ dg h=>be h λ_ fB h=>be h λ_ fG h=>be h λ_ gU h=>let zA:SE:=[aD c0,(0,NA.idx dg),(3,.ord [0,1,2,3,4,5,6,11,7,8,9,10,12,13]),(4,de fB),(0,IA.row fG),jj (ev42 n gU)];ie h (λc1 h=>bu h zA [dm c1,(4,.born [4] [] bF B 25 2)]) λc1 h=>be h λ_ tn h=>let zB:SE:=dv zA [dm c1,jj (arA n tn)];ie h (λc2 h=>bu h zB [aD c2,(3,.born [4] [] bF B 25 2)]) λc2 h=>be h λ_ Kb h=>cC (aK h) zB [aD c2,(4,IA.jU Kb)]) λc0 h=>ra (aU h) [aD c0]
def Qh (aB:gZ->A (gZ×Int)):Nat->cH->Int->Int->gZ->A (gZ×Int)
 |0=>dw.z
 |n+1=>adI aB (Qh aB n) n
def aFH {aB} (aU:KK (A14 [1,1,1,1,1]) afB aB):∀n:Nat,KK (A14 (aI 175)) afC (Qh aB n)
 |0=>KC.h
 |n+1=>aVS aU (aFH aU n) n
def adH (n:Nat) (Iz:gZ):A (gZ×Int):=
 V (Iz,0)
def aVR:KK (A14 [1,1,1,1,1]) afB (adH g):=λ_ r h=>rr h [(3,.ja 30 bF)]
def auJ:A (gZ×Int):=
 (Jh g w).bind λx5=>if x5 !=0 then
 V ([],x5)
 else
 if U (8<(R.length:Int)) then
 V ([],2)
 else
 if U (1000<(aV (w.aA+(R.length:Int)))) then
 V ([],2)
 else
 (F41 g w).bind λmF=>Qh (adH g) g R (R.length:Int) 0 [mF]
def aVQ:KK (A14 []) avL (auJ g):=λ_ _ r h=>be h λ_ iw h=>let zA:SE:=[ku (arA g iw)];ie h (λc0 h=>bu h zA [aQ c0,(3,.born [4] [] bF B 25 2)]) λc0 h=>ie h (λc1 h=>bu h zA [aQ c0,aQ c1,(4,.born [4] [] bF B 25 2)]) λc1 h=>ie h (λc2 h=>bu h zA [aQ c0,aQ c1,dm c2,(3,.born [4] [] bF B 25 2)]) λc2 h=>be h λmF nR h=>cC (aFH (aVR g) g h) zA [aQ c0,aQ c1,dm c2,(2,.call (Ko g nR) [] [(330290001,uA)]),(0,cy.tfr B 330290001 mF.ah)]
def F14:=auJ
def ev14:KK (Cx E0 14 abv Tp) avL (F14 g):=λ_ _ _ h=>ca (X:=iK) (aVQ g h)
def aEm (r:(eM×Int)):AV:=.dq [.agg (qJ r.1),bM r.2]
def FC:=fx E0 Tryz.f54 []
def A54:=Ax FC aEm bG
def avu:LS:=⟨[(0,.agg (cG w)),(1,.sy 46 15 R.length (qt R)),(2,iI E)],[]⟩
def aun:A (eM×Int):=
 (F14 g w R).bind λx6=>if x6.2 !=0 then
 V ((eM.mk [] []),x6.2)
 else
 if U (E<w.aA) then
 V ((eM.mk [] []),1)
 else
 if !U ((aV (E-w.aA))<(x6.1.length:Int)) then
 V ((eM.mk [] []),1)
 else
 (cut x6.1 (V (aV (E-w.aA))) G).bind λCN=>(cut R (V (aV (E-w.aA))) G).bind λtF=>V ((eM.mk CN tF),0)
def aUc:KK (A54 []) avu (aun g):=λ_ _ _ r h=>be h λx6 jV h=>let zA:SE:=[(5,.call (ev14 g jV) [] [(301400,bF)])];ie h (λc0 h=>bu h zA [dm c0,(4,.nQ 6 (.flat 0 [.sl 2 25 2 0 [],.sl 2 46 15 0 []]))]) λc0 h=>ie h (λc1 h=>bu h zA [dm c0,aX c1,(5,.nQ 6 (.flat 0 [.sl 2 25 2 0 [],.sl 2 46 15 0 []]))]) λc1 h=>ie h (λc2 h=>bu h zA [dm c0,aX c1,il c2,(4,.nQ 6 (.flat 0 [.sl 2 25 2 0 [],.sl 2 46 15 0 []]))]) λc2 h=>be h λ_ Kb h=>be h λ_ AK h=>bu h zA [dm c0,aX c1,il c2,(6,IA.eB 301400 x6.1),(2,IA.cut Kb),(2,NA.cut AK)]
def F54:=aun
def aCx:KK (Cx E0 54 aEm bG) avu (F54 g):=λ_ _ _ _ h=>ca (X:=FC) (aUc g h)
def abu:AV:=.agg (cG w)
def x55:=fx E0 Tryz.f55 []
def A55:=Ax x55 abu bG
def SZ:LS:=⟨[(0,.agg (qJ ab))],[]⟩
def aum (n:Nat) (l0:eM):A ae:=
 (idx l0.AO (aV ((l0.AO.length:Int)-1))).bind λx9=>V x9
def aUb:KK (A55 []) SZ (aum g):=λ_ r h=>be h λ_ iq h=>rr h [(8,IA.idx iq)]
def F55:=aum
def ev55:KK (Cx E0 55 abu bG) SZ (F55 g):=λ_ _ h=>ca (X:=x55) (aUb g h)
def x56:=fx E0 Tryz.f56 []
def A56:=Ax x56 abu bG
def aHT (n:Nat) (l0:eM):A ae:=
 (idx l0.AO 0).bind λx5=>V x5
def aUa:KK (A56 []) SZ (aHT g):=λ_ r h=>be h λ_ iw h=>rr h [(4,IA.idx iw)]
def F56:=aHT
def arv:KK (Cx E0 56 abu bG) SZ (F56 g):=λ_ _ h=>ca (X:=x56) (aUa g h)
def xj:AV:=.agg (ir ad)
def apv:=fx E0 Tryz.f157 []
def Ll:=Ax apv xj bG
def aIv (t19:Bool) (b4 b6:aT) (b8:iH):LS:=⟨[(2,iI u),aY 4,aY 6,aY 8,(9,.slice 110 6 bX.length (kr bX)),(10,iI cc),(11,iI ct),(19,.bool t19)],[(4,xM (ir b4)),(6,xM (ir b6)),(8,.flat 110 (B7 b8))]⟩
def OM:LS:=⟨[(2,iI u),aY 4,aY 6,(9,.slice 110 6 bX.length (kr bX)),(10,iI cc),(11,iI ct)],[(4,xM (ir bT)),(6,xM (ir d2))]⟩
def XO:LS:=⟨[aY 4,aY 6],[(4,xM (ir ad)),(6,xM (ir ay))]⟩
def amr:LS:=⟨[(0,.slice 110 6 bX.length (kr bX)),(1,.agg (ir bT)),(2,iI bN)],[]⟩
def NY (n:Nat) (vo:Int) (t9:gq) (t10 t11:Int) (t19:Bool) (b4 b6:aT) (b8:iH):A aT:=
 if t19 then
 if (aV (1-vo))==0 then
 V b8.f0
 else
 if (aV (1-vo))==1 then
 V b8.f1
 else
 G
 else
 dW vo t9 t10 (aV (t11+1)) b4 b6
def azk {aB} (aU:KK (Ll [0,1,0,1]) OM aB) (n:Nat):KK (Ll (aI 3685)) aIv (NY aB n):=λ_ _ _ _ _ _ _ _ r h=>ie h (λc0 bE=>by subst c0;exact (ie bE (λc1 bE=>rr bE [(1,en (k:=.i64) c1)]) λc1 bE=>ie bE (λc2 bE=>rr bE [(1,en (k:=.i64) c2)]) λc2 bE=>nz bE)) λc0 bE=>by subst c0;exact (ra (aU bE) [])
def Jt (t9:gq) (t10 t11:Int) (b4 b6:aT):A aT:=
 if U (t11<t10) then
 (idx t9 t11).bind λx2=>if cl==0 then
 NY dW dY 0 t9 t10 t11 ((x2.f0.aE==b4.aE)&&((x2.f0.dj==b4.dj)&&((U (x2.f0.cM=b4.cM))&&M))) b4 b6 x2
 else
 if cl==1 then
 NY dW dY 1 t9 t10 t11 ((x2.f1.aE==b4.aE)&&((x2.f1.dj==b4.dj)&&((U (x2.f1.cM=b4.cM))&&M))) b4 b6 x2
 else
 G
 else
 cp b4 b6
def aNx {bh} (cL:KK (Ll [1,1]) XO bh) {back} (aK:KK (Ll [0,1,0,1]) OM back) (n:Nat):KK (Ll [0,1,0,1]) OM (Jt bh back n):=λ_ _ _ _ _ _ r h=>ie h (λc0 h=>be h λ_ dg h=>ie h (λc1 bE=>by have c1:=eq_of_beq c1;subst c1;exact (
 ra (azk aK n bE) [aD c0,(0,E8.idx dg)])) λc1 h=>ie h (λc2 bE=>by have c2:=eq_of_beq c2;subst c2;exact (
 ra (azk aK n bE) [aD c0,(0,E8.idx dg)])) λc2 h=>nz h) λc0 h=>ra (cL h) [aD c0]
def zO (bh:ZE):Nat->Int->gq->Int->Int->aT->aT->A aT
 |0=>dw.z
 |n+1=>Jt bh (zO bh n) n
def axC {bh} (cL:KK (Ll [1,1]) XO bh):∀n:Nat,KK (Ll [0,1,0,1]) OM (zO bh n)
 |0=>KC.h
 |n+1=>aNx cL (axC cL n) n
def Js (n:Nat) (b4 b6:aT):A aT:=
 V b4
def aNw:KK (Ll [1,1]) XO (Js g):=λ_ _ r h=>rr h []
def aAa:A aT:=
 zO (Js g) g bN bX (bX.length:Int) 0 bT oJ
def aNv:KK (Ll []) amr (aAa g):=λ_ _ _ r h=>ra (axC (aNw g) g h) []
def ajj:=aAa
def aGo:KK (Cx E0 157 xj bG) amr (ajj g):=λ_ _ _ _ h=>ca (X:=apv) (aNv g h)
def x107:=fx E0 Tryz.f107 []
def Sz:=Ax x107 xj bG
def YD:LS:=⟨[aY 2,aY 3,aY 4,(5,bM u)],[(2,.flat 140 (Ir bf)),(3,xM (ir ay)),(4,xM (ir bT))]⟩
def DG:LS:=⟨[aY 3,aY 4],[(3,xM (ir ad)),(4,xM (ir ay))]⟩
def OY:LS:=⟨(GV (Ir bf) (ir ay)),[]⟩
def Jy (back:Int->dR->aT->aT->A aT) (n:Nat) (i5:Int) (b2:dR) (b3 b4:aT):A aT:=
 if !U (i5<0) then
 (idx b2.cU i5).bind λx6=>(ajj n x6 b3 1).bind λeW=>back (aV (i5-1)) b2 eW b4
 else
 cp b3 b4
def aPC {aB} (aU:KK (Sz [1,1]) DG aB) {back} (aK:KK (Sz [0,1,0,1]) YD back) (n:Nat):KK (Sz [0,1,0,1]) YD (Jy aB back n):=λ_ _ _ _ r h=>ie h (λc0 h=>be h λ_ jV h=>be h λ_ iF h=>ra (aK h) [aW c0,(3,R39.idx jV),jj (aGo n iF)]) λc0 h=>ra (aU h) [aW c0]
def zP (aB:ZE):Nat->Int->dR->aT->aT->A aT
 |0=>dw.z
 |n+1=>Jy aB (zP aB n) n
def aym {aB} (aU:KK (Sz [1,1]) DG aB):∀n:Nat,KK (Sz [0,1,0,1]) YD (zP aB n)
 |0=>KC.h
 |n+1=>aPC aU (aym aU n) n
def Jx (n:Nat) (b3 b4:aT):A aT:=
 V b3
def aPB:KK (Sz [1,1]) DG (Jx g):=λ_ _ r h=>rr h []
def Ww:A aT:=
 zP (Jx g) g (aV ((bf.cU.length:Int)-1)) bf ay oJ
def aPA:KK (Sz []) OY (Ww g):=λ_ _ r h=>ra (aym (aPB g) g h) []
def Si:=Ww
def aGC:KK (Cx E0 107 xj bG) OY (Si g):=λ_ _ _ h=>ca (X:=x107) (aPA g h)
def aEk:AV:=.agg (Ir bf)
def x63:=fx E0 Tryz.f63 []
def Oe:=Ax x63 aEk bG
def aKL:LS:=⟨[aY 6,aY 7,(10,iI u),(11,iI g6),(16,.sy 46 15 R.length (qt R)),(17,iI E),(18,iI aa)],(aAX (oL bf .cr) (oL ce (.ms 44 1 0 cg.length)) cg)⟩
def aKK (b9:aG) (oB:tw):LS:=⟨[aY 6,aY 7,aY 9,(16,.sy 46 15 R.length (qt R)),(17,iI E),(18,iI aa)],[(6,.flat 140 (oL bf .cr)),(7,.flat 140 (oL ce (.ms 44 1 0 oB.length))),(9,vd (nU b9)),(44,.rows M 39 1 (HO oB))]⟩
def Ma:LS:=⟨[aY 6,aY 7,(16,.sy 46 15 R.length (qt R)),(17,iI E),(18,iI aa)],(aAX (oL bf .cr) (oL ce (.ms 44 1 0 cg.length)) cg)⟩
def aeM:LS:=⟨[aY 6,aY 7],(aAX (oL bf .cr) (oL ce (.ms 44 1 0 cg.length)) cg)⟩
def avs:LS:=⟨[(0,.sy 46 15 R.length (qt R)),(1,iI E),(2,iI aa)],[]⟩
def Ld (n:Nat) (t10 c11:Int) (t16:cH) (t17 t18:Int) (b6 b7:dR) (oB:tw):A dR:=
 dU t16 t17 (aV (t18+1)) (ad6 b6.gX b6.fV b6.dL b6.fU []) (ad6 t10 c11 b7.dL b7.fU oB) oB
def aGY {bh} (cL:KK (Oe [0,1,0,1,1]) Ma bh) (n:Nat):KK (Oe (aI 64715)) aKL (Ld bh n):=λ_ _ _ _ _ _ _ _ r h=>ra (cL h) []
def Bq (t16:cH) (t17 t18:Int) (b6 b7:dR) (b9:aG) (oB:tw):A dR:=
 (ZZ dC b9 b7.gX b7.fV).bind λx6=>if U (x6.1<0) then
 V (ad6 (-1) (-1) B oJ [])
 else
 if !x6.2.2 then
 (Si dC (ad6 b7.gX b7.fV b7.dL b7.fU oB) b9.bk).bind λmF=>Ld dU dC x6.1 x6.2.1 t16 t17 t18 (ad6 b6.gX b6.fV b6.dL b6.fU []) (ad6 b7.gX b7.fV B mF oB) oB
 else
 Ld dU dC x6.1 x6.2.1 t16 t17 t18 (ad6 b6.gX b6.fV b6.dL b6.fU []) (ad6 b7.gX b7.fV b7.dL b7.fU oB) oB
def abZ {bh} (cL:KK (Oe [0,1,0,1,1]) Ma bh) (n:Nat):KK (Oe (aI 7371)) aKK (Bq bh n):=λ_ _ _ _ _ _ oB r h=>be h λ_ jV h=>let zA:SE:=[mh (aGB n jV)];ie h (λc0 h=>bu h zA [iS c0,(2,.nQ 6 (.flat 0 (zx 6 [.sl 0 39 1 0 []])))]) λc0 h=>ie h (λc1 h=>be h λ_ nR h=>cC (aGY cL n h) zA [iS c0,aW c1,(3,.zw (aGC n nR) [R39.eB 44 oB] trivial [] [])]) λc1 h=>cC (aGY cL n h) zA [iS c0,aW c1]
def Qr (br:Wf54) (back:aDl) (n:Nat) (t16:cH) (t17 t18:Int) (b6 b7:dR) (oB:tw):A dR:=
 if U (t18<t17) then
 (idx t16 t18).bind λx2=>if x2.bg==8 then
 if x2.av==b7.gX then
 if x2.ba==b7.fV then
 (app oB [x2.cA]).bind λx29=>Bq back n t16 t17 t18 (ad6 b6.gX b6.fV b6.dL b6.fU []) (ad6 b7.gX b7.fV b7.dL b7.fU x29) x2 x29
 else
 Bq back n t16 t17 t18 (ad6 b6.gX b6.fV b6.dL b6.fU []) (ad6 b7.gX b7.fV b7.dL b7.fU oB) x2 oB
 else
 Bq back n t16 t17 t18 (ad6 b6.gX b6.fV b6.dL b6.fU []) (ad6 b7.gX b7.fV b7.dL b7.fU oB) x2 oB
 else
 Bq back n t16 t17 t18 (ad6 b6.gX b6.fV b6.dL b6.fU []) (ad6 b7.gX b7.fV b7.dL b7.fU oB) x2 oB
 else
 br (ad6 b6.gX b6.fV b6.dL b6.fU []) (ad6 b7.gX b7.fV b7.dL b7.fU oB) oB
def aTV {br} (cO:KK (Oe [1,1,1]) aeM br) {back} (aK:KK (Oe [0,1,0,1,1]) Ma back) (n:Nat):KK (Oe [0,1,0,1,1]) Ma (Qr br back n):=λ_ _ _ _ _ _ r h=>ie h (λc0 h=>be h λ_ dg h=>let zA:SE:=[aD c0,(0,NA.idx dg)];ie h (λc1 h=>ie h (λc2 h=>ie h (λc3 h=>be h λ_ Kc h=>cC (abZ aK n h) zA [bS c1,bS c2,dm c3,(6,R39.jU Kc)]) λc3 h=>cC (abZ aK n h) zA [bS c1,bS c2,dm c3]) λc2 h=>cC (abZ aK n h) zA [bS c1,bS c2]) λc1 h=>cC (abZ aK n h) zA [bS c1]) λc0 h=>ra (cO h) [aD c0]
def xH (br:Wf54):Nat->cH->Int->Int->dR->dR->tw->A dR
 |0=>dw.z
 |n+1=>Qr br (xH br n) n
def aEZ {br} (cO:KK (Oe [1,1,1]) aeM br):∀n:Nat,KK (Oe [0,1,0,1,1]) Ma (xH br n)
 |0=>KC.h
 |n+1=>aTV cO (aEZ cO n) n
def Dt (n:Nat) (b6 b7:dR) (oB:tw):A dR:=
 V (ad6 b7.gX b7.fV b7.dL b7.fU oB)
def aTU:KK (Oe [1,1,1]) aeM (Dt g):=λ_ _ oB r h=>rr h [(2,R39.eB 44 oB),(0,.nQ 6 (.flat 0 (zx 6 [.sl 0 0 0 0 []])))]
def aHS:A dR:=
 xH (Dt g) g R (R.length:Int) 0 (ad6 0 0 B oJ []) (ad6 E aa M oJ []) []
def aTT:KK (Oe []) avs (aHS g):=λ_ _ _ r h=>ra (aEZ (aTU g) g h) [(9,.born [] [(7,6)] 44 M 39 1)]
def F63:=aHS
def aru:KK (Cx E0 63 aEk bG) avs (F63 g):=λ_ _ _ _ h=>ca (X:=x63) (aTT g h)
def awj:AV:=.ms bF 7 0 ao.length
def anq:List (Nat×Bx):= [(bF,.rows M 140 7 (uW ao))]
def x105:=fx E0 Tryz.f105 []
def SA:=Ax x105 awj anq
def YG:LS:=⟨[(1,bM u),aY 2,(5,.ms 25 7 0 ao.length),(14,bM g6),(15,bM O)],[(2,.flat 123 (qJ ab)),(25,.rows M 140 7 (uW ao))]⟩
def YF:LS:=⟨[(5,.ms 25 7 0 ao.length)],[(25,.rows M 140 7 (uW ao))]⟩
def O0:LS:=⟨[(0,.agg (qJ ab)),(1,bM ac)],[]⟩
def WA (aB:lz->A lz) (back:Int->Int->Int->eM->lz->A lz) (n:Nat) (t1 t14 t15:Int) (b2:eM) (b25:lz):A lz:=
 if U (t15<t14) then
 (F63 n b2.B5 t1 t15).bind λx9=>(app b25 [x9]).bind λj8=>back t1 t14 (aV (t15+1)) b2 j8
 else
 aB b25
def aPI {aB} (aU:KK (SA [1,1,1]) YF aB) {back} (aK:KK (SA [0,1,0,1,1]) YG back) (n:Nat):KK (SA [0,1,0,1,1]) YG (WA aB back n):=λ_ _ _ _ _ r h=>ie h (λc0 h=>be h λ_ iq h=>be h λ_ jc h=>ra (aK h) [aD c0,vt (aru n iq),(1,ail.jU jc)]) λc0 h=>ra (aU h) [aD c0]
def I9 (aB:lz->A lz):Nat->Int->Int->Int->eM->lz->A lz
 |0=>dw.z
 |n+1=>WA aB (I9 aB n) n
def ayo {aB} (aU:KK (SA [1,1,1]) YF aB):∀n:Nat,KK (SA [0,1,0,1,1]) YG (I9 aB n)
 |0=>KC.h
 |n+1=>aPI aU (ayo aU n) n
def Wz (n:Nat) (b25:lz):A lz:=
 V b25
def aPH:KK (SA [1,1,1]) YF (Wz g):=λ_ r h=>rr h [(2,.ja 25 bF)]
def ald:A lz:=
 (F56 g ab).bind λx5=>(idx x5.ah ac).bind λx9=>I9 (Wz g) g ac (x9.ag.length:Int) 0 ab []
def aPG:KK (SA []) O0 (ald g):=λ_ _ r h=>be h λ_ iw h=>be h λ_ iq h=>ra (ayo (aPH g) g h) [ku (arv g iw),(2,cy.idx iq),(4,.born [5] [] 25 M 140 7)]
def atA:=ald
def aGD:KK (Cx E0 105 awj anq) O0 (atA g):=λ_ _ _ h=>ca (X:=x105) (aPG g h)
def xk:AV:=.ms bF 3 0 C.length
def yA:List (Nat×Bx):= [(bF,Cu C)]
def x106:=fx E0 Tryz.f106 []
def Ln:=Ax x106 xk yA
def aID:LS:=⟨[(0,.slice 38 3 C.length (db C)),(4,.ms 31 3 0 bq.length),aY 7,(11,.slice 140 7 ao.length (uW ao)),(12,iI am),(13,iI bd)],[(7,xM (ir bT)),(31,Cu bq)]⟩
def OZ:LS:=⟨[(0,.slice 38 3 C.length (db C)),(4,.ms 31 3 0 bq.length),(11,.slice 140 7 ao.length (uW ao)),(12,iI am),(13,iI bd)],[(31,Cu bq)]⟩
def YE:LS:=⟨[(4,.ms 31 3 0 C.length)],[(31,Cu C)]⟩
def amJ:LS:=⟨[(0,.slice 38 3 C.length (db C)),(1,.kH (Ue ao))],[]⟩
def Oc (aB:Wf55) (n:Nat) (lF:bp) (t11:lz) (t12 t13:Int) (CY:bp) (b7:aT):A bp:=
 (app CY [b7]).bind λx4=>aB lF t11 t12 (aV (t13+1)) x4
def azr {aB} (aU:KK (Ln (aI 87)) OZ aB) (n:Nat):KK (Ln (aI 31127)) aID (Oc aB n):=λ_ _ _ _ _ _ r h=>be h λ_ iB h=>ra (aU h) [(3,jh.jU iB)]
def Wy (bh:bp->A bp) (back:Wf55) (n:Nat) (lF:bp) (t11:lz) (t12 t13:Int) (CY:bp):A bp:=
 if U (t13<t12) then
 (idx t11 t13).bind λx2=>if x2.dL then
 (idx lF x2.fV).bind λiZ=>(Si n x2 iZ).bind λlM=>Oc back n lF t11 t12 t13 CY lM
 else
 Oc back n lF t11 t12 t13 CY x2.fU
 else
 bh CY
def aPF {bh} (cL:KK (Ln [1,1,1,1]) YE bh) {back} (aK:KK (Ln (aI 87)) OZ back) (n:Nat):KK (Ln (aI 87)) OZ (Wy bh back n):=λ_ _ _ _ _ r h=>ie h (λc0 h=>be h λ_ dg h=>ie h (λc1 h=>be h λ_ iW h=>be h λ_ j5 h=>ra (azr aK n h) [aD c0,(0,ail.idx dg),iS c1,(4,jh.idx iW),qT (aGC n j5)]) λc1 h=>ra (azr aK n h) [aD c0,(0,ail.idx dg),iS c1]) λc0 h=>ra (cL h) [aD c0]
def Fp (bh:bp->A bp):Nat->bp->lz->Int->Int->bp->A bp
 |0=>dw.z
 |n+1=>Wy bh (Fp bh n) n
def ayn {bh} (cL:KK (Ln [1,1,1,1]) YE bh):∀n:Nat,KK (Ln (aI 87)) OZ (Fp bh n)
 |0=>KC.h
 |n+1=>aPF cL (ayn cL n) n
def Ob (n:Nat) (CY:bp):A bp:=
 V CY
def aPE:KK (Ln [1,1,1,1]) YE (Ob g):=λ_ r h=>rr h [(2,.ja 31 bF)]
def Wx:A bp:=
 if (C.length:Int)==0 then
 V []
 else
 Fp (Ob g) g C ao (ao.length:Int) 0 []
def aPD:KK (Ln []) amJ (Wx g):=λ_ _ r h=>ie h (λc0 h=>rr h [aX c0,(1,.born [3] [] bF M 38 3)]) λc0 h=>ra (ayn (aPE g) g h) [aX c0,(4,.born [4] [] 31 M 38 3)]
def NL:=Wx
def arC:KK (Cx E0 106 xk yA) amJ (NL g):=λ_ _ _ h=>ca (X:=x106) (aPD g h)
def aEl (r:(Int×lz)):AV:=.dq [bM r.1,.fn 106 [] [.kH (Ue r.2)]]
def x57:=fx E0 Tryz.f57 []
def A57:=Ax x57 aEl bG
def aul:A (Int×lz):=
 (atA g ab ac).bind λx6=>(F63 g ab.B5 ac (-1)).bind λdB=>V (dB.gX,x6)
def aTZ:KK (A57 []) O0 (aul g):=λ_ _ r h=>be h λx6 jV h=>be h λ_ fG h=>rr h [(5,.call (aGD g jV) [] [(9,bF)]),mh (aru g fG),(4,ail.eB 9 x6),(0,.nQ 6 (.flat 0 [.sl 0 0 0 0 []])),(0,.eB 6 (Q:= []) (n:=0) rfl)]
def F57:=aul
def ev57:KK (Cx E0 57 aEl bG) O0 (F57 g):=λ_ _ _ h=>ca (X:=x57) (aTZ g h)
def abx (r:(aw×Int)):AV:=.dq [.agg (vz r.1),bM r.2]
def mX:=fx E0 Tryz.f21 []
def GN:=Ax mX abx bG
def afw (sF:aw) (cD:eM) (qf:aw) (fK:cf):LS:=⟨[aY 9,aY 10,aY 12,aY 15,(16,iI u),(18,.fn 106 [] [.kH (Ue ao)]),(49,iI am),(50,iI bd),(65,.slice 70 1 bm.length (iM bm)),(66,iI bi),(67,iI bQ)],[(9,.flat 51 (vz bv)),(10,rj),(12,.flat 123 (qJ cD)),(15,.flat 51 [.ms 45 1 0 fK.length]),(45,Y2 fK)]⟩
def Eb (sF:aw) (cD:eM) (qf:aw) (fK:cf):LS:=⟨[aY 9,aY 10,(12,Mj),aY 15,(49,bM u),(50,bM g6)],[(9,.flat 51 (vz W)),(10,rj),(12,.flat 123 (qJ cD)),(15,.flat 51 [.ms 45 1 0 fK.length]),(45,Y2 fK)]⟩
def afv (sF qf:aw) (fK:cf):LS:=⟨[aY 10,aY 15],[(10,rj),(15,.flat 51 [.ms 45 1 0 fK.length]),(45,Y2 fK)]⟩
def avI:LS:=⟨[(0,.agg (cG w)),(1,.sy 46 15 R.length (qt R)),(2,iI E),(3,iI aa),(4,.agg (vz W))],[]⟩
def ady (back:Int->lz->Int->Int->bn->Int->Int->aw->aw->eM->aw->cf->A (aw×Int)) (n:Nat) (t16:Int) (pw:lz) (t49 t50:Int) (t65:bn) (t66 t67:Int) (b9 sF:aw) (cD:eM) (qf:aw) (fK:cf):A (aw×Int):=
 if U (t67<t66) then
 (idx t65 t67).bind λx2=>(eh fK.length t16).bind λx5=>(fK[0+x5]?).bind λu7=>(NL n x2 pw).bind λlg=>(app u7 [lg]).bind λmF=>(setAt fK (0+x5) mF).bind λz28=>back t16 pw t49 t50 t65 t66 (aV (t67+1)) b9 (ad4 []) cD (ad4 z28) z28
 else
 df t49 t50 b9 (ad4 []) cD (ad4 fK) fK
def aVB {aB} (aU:KK (GN (aI 7775)) Eb aB) {back} (aK:KK (GN (aI 386655)) afw back) (n:Nat):KK (GN (aI 386655)) afw (ady aB back n):=λ_ _ _ _ _ _ _ _ _ _ _ _ r h=>ie h (λc0 h=>be h λ_ dg h=>be h λ_ iw h=>be h λu7 MO h=>be h λlg nu h=>be h λmF nR h=>be h λ_ zf h=>ra (aK h) [aD c0,(0,jW.idx dg),(2,po.oC jW 45 800450 0 B 70 1 u7 MO [.undef]),(6,de iw),(3,uC (iA.res (.sl 0 38 3 0 []) (cd (e:=38) (z:=M) (Q:=db lg) (arC n nu) (jh.len lg)))),(1,jW.jU nR),(0,de iw),(0,po.zi 0 [.undef] [.undef] MO),(2,po.iN jW (r:= [.undef]) 45 800450 0 B 70 1 mF zf),(0,.beq 15 (bH (λn_=>(Bx.flat 51 [.ms 45 1 0 n_])) (eG zf)))]) λc0 h=>ra (aU h) [aD c0]
def Qd (aB:asI):Nat->Int->lz->Int->Int->bn->Int->Int->aw->aw->eM->aw->cf->A (aw×Int)
 |0=>dw.z
 |n+1=>ady aB (Qd aB n) n
def aFB {aB} (aU:KK (GN (aI 7775)) Eb aB):∀n:Nat,KK (GN (aI 386655)) afw (Qd aB n)
 |0=>KC.h
 |n+1=>aVB aU (aFB aU n) n
def QD (n:Nat) (t49 t50:Int) (b9 sF:aw) (cD:eM) (qf:aw) (fK:cf):A (aw×Int):=
 df t49 (aV (t50+1)) b9 (ad4 []) cD (ad4 fK) fK
def aHh {bh} (cL:KK (GN (aI 351)) Eb bh) (n:Nat):KK (GN (aI 7775)) Eb (QD bh n):=λ_ _ _ _ _ _ _ r h=>ra (cL h) []
def adx (b9 sF:aw) (cD:eM) (qf:aw) (fK:cf):A (aw×Int):=
 if U (dn<ci) then
 (F57 dl cD dn).bind λx6=>if U (x6.1<0) then
 QD df dl ci dn b9 (ad4 []) cD (ad4 fK) fK
 else
 (idx b9.ah x6.1).bind λgS=>Qd (QD df dl) dl dn x6.2 ci dn gS (gS.length:Int) 0 b9 (ad4 []) cD (ad4 fK) fK
 else
 dD (ad4 []) (ad4 fK) fK
def aVA {br} (cO:KK (GN (aI 127)) afv br) {back} (aK:KK (GN (aI 351)) Eb back) (n:Nat):KK (GN (aI 351)) Eb (adx br back n):=λ_ _ _ _ _ _ _ r h=>ie h (λc0 h=>be h λ_ jV h=>let zA:SE:=[aD c0,ku (ev57 n jV)];ie h (λc1 h=>cC (aHh aK n h) zA [dm c1]) λc1 h=>be h λ_ jl h=>cC (aFB (aHh aK n) n h) zA [dm c1,(3,po.idx jl)]) λc0 h=>ra (cO h) [aD c0]
def GB (br:asH):Nat->Int->Int->aw->aw->eM->aw->cf->A (aw×Int)
 |0=>dw.z
 |n+1=>adx br (GB br n) n
def aFA {br} (cO:KK (GN (aI 127)) afv br):∀n:Nat,KK (GN (aI 351)) Eb (GB br n)
 |0=>KC.h
 |n+1=>aVA cO (aFA cO n) n
def QC (n:Nat) (sF qf:aw) (fK:cf):A (aw×Int):=
 V ((ad4 fK),0)
def aVz:KK (GN (aI 127)) afv (QC g):=λ_ _ fK r h=>rr h [(3,po.tfr B 45 fK)]
def auF:A (aw×Int):=
 (F54 g w R E).bind λx8=>if x8.2 !=0 then
 V ((ad4 []),x8.2)
 else
 (F55 g x8.1).bind λlg=>(F26 g lg aa W).bind λhY=>if hY !=0 then
 V ((ad4 []),hY)
 else
 (F56 g x8.1).bind λx29=>(rh (x29.ah.length:Int) ([]:bn)).bind λkQ=>GB (QC g) g (kQ.length:Int) 0 W (ad4 []) x8.1 (ad4 kQ) kQ
def aVy:KK (GN []) avI (auF g):=λ_ _ _ _ _ r h=>be h λ_ lj h=>let zA:SE:=[vt (aCx g lj)];ie h (λc0 h=>bu h zA [il c0,(4,.nQ 10 (.flat 0 [.sl 0 68 1 0 []]))]) λc0 h=>be h λ_ nu h=>be h λ_ oj h=>let zB:SE:=dv zA [il c0,(0,.ord [0,2,3,1,4,5]),ky (ev55 g nu),jM (aCB g oj)];ie h (λc1 h=>bu h zB [aQ c1,(4,.nQ 10 (.flat 0 [.sl 0 68 1 0 []]))]) λc1 h=>be h λ_ Kc h=>be h λ_ p6 h=>cC (aFA (aVz g) g h) zB [aQ c1,qT (arv g Kc),(2,po.made p6 [.o B [.d]]),(0,.seq 45 (bH (AV.ms 45 1 0) ((JK p6))))]
def F21:=auF
def aCC:KK (Cx E0 21 abx bG) avI (F21 g):=λ_ _ _ _ _ _ h=>ca (X:=mX) (aVy g h)
def LU:=fx E0 Tryz.f118 []
def Sw:=Ax LU cY bG
def Yy:LS:=⟨[(1,.slice 3 1 F.length (dM F)),(12,.slice 38 3 g8.length (db g8)),(13,iI f8),(14,iI ac)],[]⟩
def Yx:LS:=⟨[],[]⟩
def amF:LS:=⟨[(0,.slice 38 3 C.length (db C)),(1,.slice 3 1 F.length (dM F))],[]⟩
def aAt (back:aP->bp->Int->Int->A Bool) (n:Nat) (oN:aP) (t12:bp) (t13 t14:Int):A Bool:=
 if U (t14<t13) then
 (idx t12 t14).bind λx3=>(ZV n x3).bind λeW=>if !eW then
 V B
 else
 (idx oN t14).bind λgS=>if x3.aE !=gS then
 V B
 else
 back oN t12 t13 (aV (t14+1))
 else
 bW
def aPp {aB} (aU:KK (Sw [1,1,1]) Yx aB) {back} (aK:KK (Sw [0,1,0,1,1]) Yy back) (n:Nat):KK (Sw [0,1,0,1,1]) Yy (aAt aB back n):=λ_ _ _ _ r h=>ie h (λc0 h=>be h λ_ eP h=>be h λ_ iF h=>let zA:SE:=[aD c0,(1,jh.idx eP),mh (abP n iF)];ie h (λc1 h=>bu h zA [aD c1]) λc1 h=>be h λ_ jl h=>ie h (λc2 h=>bu h zA [aD c1,(5,R3.idx jl),aW c2]) λc2 h=>cC (aK h) zA [aD c1,(5,R3.idx jl),aW c2]) λc0 h=>ra (aU h) [aD c0]
def aiR (aB:A Bool):Nat->aP->bp->Int->Int->A Bool
 |0=>dw.z
 |n+1=>aAt aB (aiR aB n) n
def ayj {aB} (aU:KK (Sw [1,1,1]) Yx aB):∀n:Nat,KK (Sw [0,1,0,1,1]) Yy (aiR aB n)
 |0=>KC.h
 |n+1=>aPp aU (ayj aU n) n
def aAs (n:Nat):A Bool:=
 V M
def aPo:KK (Sw [1,1,1]) Yx (aAs g):=λr h=>rr h []
def aAr:A Bool:=
 if (C.length:Int) !=(F.length:Int) then
 V B
 else
 aiR (aAs g) g F C (C.length:Int) 0
def aPn:KK (Sw []) amF (aAr g):=λ_ _ r h=>ie h (λc0 h=>rr h [bS c0]) λc0 h=>ra (ayj (aPo g) g h) [bS c0]
def aDI:=aAr
def aGz:KK (Cx E0 118 cY bG) amF (aDI g):=λ_ _ _ h=>ca (X:=LU) (aPn g h)
def x119:=fx E0 Tryz.f119 []
def A119:=Ax x119 Be BM
def aAq:A aP:=
 (F45 g w g6).bind λx5=>(K6 g w g6).bind λeW=>if !eW then
 V []
 else
 (idx w.ah g6).bind λiZ=>if U (iZ.aH<0) then
 V []
 else
 (idx w.ah g6).bind λwU=>(so x5.length (if (x5.length:Int)<wU.aH then (x5.length:Int) else wU.aH)).bind λLp=>V (x5.take Lp)
def aPm:KK (A119 []) BG (aAq g):=λ_ _ r h=>be h λx5 iw h=>be h λ_ iF h=>let zA:SE:=[(4,.call (aCy g iw) [] [(8,bF)]),ky (Kp g iF)];ie h (λc0 h=>bu h zA [aD c0,(3,.born [4] [] bF B 3 1)]) λc0 h=>be h λ_ iW h=>ie h (λc1 h=>bu h zA [aD c0,(4,cy.idx iW),aQ c1,(2,.born [4] [] bF B 3 1)]) λc1 h=>be h λ_ Kd h=>be h λLp MM h=>bu h zA [aD c0,(4,cy.idx iW),aQ c1,(5,cy.idx Kd),(5,R3.so (xs:=x5) MM (tP rfl)),(1,.ja 8 bF),(0,.shr bF (R3.take x5 Lp)),(0,.seq 4 (bH (AV.ms bF 1 0) ((yp (xs:=x5) (kP (tM MM).2 (tP rfl))).symm)))]
def F119:=aAq
def aSn:KK (Cx E0 119 Be BM) BG (F119 g):=λ_ _ _ h=>ca (X:=x119) (aPm g h)
def anh:List (Nat×Bx):= [(bF,.rows B 38 3 (db C))]
def x164:=fx E0 Tryz.f164 []
def A164:=Ax x164 xk anh
def azZ:A bp:=
 (K6 g w g6).bind λx5=>if !x5 then
 V []
 else
 (idx w.ah g6).bind λj8=>if U (j8.aH<0) then
 V []
 else
 (idx w.ah g6).bind λhY=>(cut C G (V (if (C.length:Int)<hY.aH then (C.length:Int) else hY.aH))).bind λlY=>(app [] lY).bind λx32=>V x32
def aNo:KK (A164 []) HL (azZ g):=λ_ _ _ r h=>be h λ_ iw h=>let zA:SE:=[ku (Kp g iw)];ie h (λc0 h=>bu h zA [aD c0,(3,.born [6] [] bF B 38 3)]) λc0 h=>be h λ_ jc h=>ie h (λc1 h=>bu h zA [aD c0,(4,cy.idx jc),aQ c1,(2,.born [6] [] bF B 38 3)]) λc1 h=>be h λ_ oj h=>be h λ_ tX h=>be h λ_ aBT h=>bu h zA [aD c0,(4,cy.idx jc),aQ c1,(6,cy.idx oj),(5,jh.cut tX),(0,jh.app aBT),(1,.ja 20 bF)]
def F164:=azZ
def aRQ:KK (Cx E0 164 xk anh) HL (F164 g):=λ_ _ _ _ h=>ca (X:=x164) (aNo g h)
def x120:=fx E0 Tryz.f120 []
def Sv:=Ax x120 cY bG
def Yw:LS:=⟨[aY 3,(5,.ms 43 1 0 af.length),(6,.ms 74 1 0 ch.length),(7,iI u),(53,.slice 3 1 F.length (dM F)),(54,iI E),(55,iI aa)],[(3,.flat 113 (oT N)),(43,wZ af),(74,Ml ch)]⟩
def Yv:LS:=⟨[aY 3,(6,.ms 74 1 0 af.length)],[(3,.flat 113 (oT N)),(74,Ml af)]⟩
def amE:LS:=⟨(GV (cG w) (oT N)),[]⟩
def aAp (aB:cE->aP->A Bool) (back:Int->aP->Int->Int->cE->aP->aP->A Bool) (n:Nat) (aqI:Int) (t53:aP) (t54 t55:Int) (b3:cE) (CX LD:aP):A Bool:=
 if U (t55<t54) then
 (idx t53 t55).bind λx2=>if !U (aqI<x2) then
 V B
 else
 if !U (x2<(CX.length:Int)) then
 V B
 else
 (eh CX.length x2).bind λgS=>(CX[0+gS]?).bind λlM=>(app LD [lM]).bind λhY=>back x2 t53 t54 (aV (t55+1)) b3 CX hY
 else
 aB b3 LD
def aPl {aB} (aU:KK (Sv (aI 8053)) Yv aB) {back} (aK:KK (Sv (aI 22389)) Yw back) (n:Nat):KK (Sv (aI 22389)) Yw (aAp aB back n):=λ_ _ _ _ _ _ _ r h=>ie h (λc0 h=>be h λ_ dg h=>let zA:SE:=[aD c0,(0,R3.idx dg)];ie h (λc1 h=>bu h zA [bl c1]) λc1 h=>ie h (λc2 h=>bu h zA [bl c1,bl c2]) λc2 h=>be h λ_ jl h=>be h λ_ j5 h=>be h λ_ oj h=>cC (aK h) zA [bl c1,bl c2,(4,de jl),(0,R3.row j5),(1,R3.jU oj)]) λc0 h=>ra (aU h) [aD c0]
def aiQ (aB:cE->aP->A Bool):Nat->Int->aP->Int->Int->cE->aP->aP->A Bool
 |0=>dw.z
 |n+1=>aAp aB (aiQ aB n) n
def ayi {aB} (aU:KK (Sv (aI 8053)) Yv aB):∀n:Nat,KK (Sv (aI 22389)) Yw (aiQ aB n)
 |0=>KC.h
 |n+1=>aPl aU (ayi aU n) n
def aAo:A Bool:=
 (aDI g N.xu af).bind λx4=>V x4
def aPk:KK (Sv (aI 8053)) Yv (aAo g):=λ_ LD r h=>be h λ_ iB h=>rr h [(3,R3.eB 74 LD),jM (aGz g iB)]
def aAn:A Bool:=
 if N.bg==1 then
 if (N.ag.length:Int)==0 then
 (F66 g w N.av N.xu 1).bind λgS=>if gS then
 (F164 g w N.av N.xu).bind λwU=>(F67 g wU N.aH).bind λvj=>V (vj==0)
 else
 V B
 else
 V B
 else
 if N.bg==2 then
 (F45 g w N.av).bind λdB=>(idx w.ah N.av).bind λmX=>aiQ (aAo g) g (aV (mX.aH-1)) N.ag (N.ag.length:Int) 0 N dB []
 else
 if (N.ag.length:Int)==0 then
 V ((N.xu.length:Int)==0)
 else
 V B
def aPj:KK (Sv []) amE (aAn g):=λ_ _ r h=>ie h (λc0 h=>let zA:SE:=[bS c0,(1,.ord [0,1,2,3,4,5,6,7,8,9,10,11,12,13,14,15,16,17,19,20,18,21,22,23,24])];ie h (λc1 h=>be h λ_ jl h=>let zB:SE:=dv zA [aX c1,ze (aCw g jl)];ie h (λc2 bE=>by subst c2;exact (be bE λwU Kd bE=>be bE λvj tW bE=>bu bE zB [(9,uC (cd (e:=38) (z:=B) (Q:=db wU) (aRQ g Kd) (jh.len wU))),jM (Na g tW)])) λc2 bE=>by subst c2;exact (rr bE zB)) λc1 h=>bu h zA [aX c1]) λc0 h=>ie h (λc1 h=>be h λ_ fG h=>be h λ_ py h=>ra (ayi (aPk g) g h) [bS c0,aW c1,(4,.call (aCy g fG) [] [(43,bF)]),(6,cy.idx py),(8,.born [6] [] 74 M 3 1)]) λc1 h=>ie h (λc2 h=>rr h [bS c0,aW c1,bl c2]) λc2 h=>rr h [bS c0,aW c1,bl c2]
def F120:=aAn
def aSm:KK (Cx E0 120 cY bG) amE (F120 g):=λ_ _ _ h=>ca (X:=x120) (aPj g h)
def x121:=fx E0 Tryz.f121 []
def A121:=Ax x121 dX bG
def amD:LS:=⟨(GV (oT N) (oT an)),[]⟩
def aAm:A Int:=
 if N.av !=an.av then
 if U (N.av<an.av) then
 V (-1)
 else
 V 1
 else
 (F67 g N.aH an.aH).bind λdB=>V dB
def aPi:KK (A121 []) amD (aAm g):=λ_ _ r h=>ie h (λc0 h=>ie h (λc1 h=>rr h [il c0,bl c1]) λc1 h=>rr h [il c0,bl c1]) λc0 h=>be h λ_ fG h=>rr h [il c0,ku (Na g fG)]
def F121:=aAm
def aSl:KK (Cx E0 121 dX bG) amD (F121 g):=λ_ _ _ h=>ca (X:=x121) (aPi g h)
def x73:=fx E0 Tryz.f73 []
def A73:=Ax x73 dX bG
def aeI:LS:=⟨[(1,.slice 113 5 bo.length (s8 bo)),aY 2,(16,.slice 113 5 cI.length (s8 cI)),(17,iI cW),(18,iI cZ)],[(2,ij (cG bP))]⟩
def aeH:LS:=⟨[],[]⟩
def avp:LS:=⟨[(0,.agg (cG w)),(1,.slice 113 5 bo.length (s8 bo))],[]⟩
def aHQ (aB:A Int) (back:re->re->Int->Int->ae->A Int) (n:Nat) (oY t16:re) (t17 t18:Int) (b2:ae):A Int:=
 if U (t18<t17) then
 (idx t16 t18).bind λx3=>if U (x3.bg<1) then
 V 1
 else
 if U (3<x3.bg) then
 V 1
 else
 if U (x3.av<0) then
 V 1
 else
 if !U (x3.av<(b2.ah.length:Int)) then
 V 1
 else
 (F119 n b2 x3.av).bind λCN=>(aDI n x3.aH CN).bind λvi=>if !vi then
 V 270
 else
 (F120 n b2 x3).bind λx43=>if !x43 then
 V 270
 else
 if U (0<t18) then
 (idx oY (aV (t18-1))).bind λx53=>(F121 n x53 x3).bind λx57=>if !U (x57<0) then
 V 270
 else
 back oY t16 t17 (aV (t18+1)) b2
 else
 back oY t16 t17 (aV (t18+1)) b2
 else
 aB
def aTG {aB} (aU:KK (A73 [1,1,1,1]) aeH aB) {back} (aK:KK (A73 (aI 87)) aeI back) (n:Nat):KK (A73 (aI 87)) aeI (aHQ aB back n):=λ_ _ _ _ _ r h=>ie h (λc0 h=>be h λ_ eP h=>let zA:SE:=[aD c0,(1,NC.idx eP)];ie h (λc1 h=>bu h zA [dm c1]) λc1 h=>let zB:SE:=dv zA [dm c1];ie h (λc2 h=>bu h zB [aX c2]) λc2 h=>let zC:SE:=dv zB [aX c2];ie h (λc3 h=>bu h zC [bl c3]) λc3 h=>let zD:SE:=dv zC [bl c3];ie h (λc4 h=>bu h zD [il c4]) λc4 h=>be h λCN Kb h=>be h λ_ AL h=>let zE:SE:=dv zD [il c4,(6,uC (cd (e:=3) (z:=B) (Q:=dM CN) (aSn n Kb) (R3.len CN))),jM (aGz n AL)];ie h (λc5 h=>bu h zE [aD c5]) λc5 h=>be h λ_ RF h=>let zF:SE:=dv zE [aD c5,ky (aSm n RF)];ie h (λc6 h=>bu h zF [aD c6]) λc6 h=>ie h (λc7 h=>be h λ_ aBP h=>be h λ_ aBM h=>let zG:SE:=dv zF [aD c6,aQ c7,(4,NC.idx aBP),jj (aSl n aBM)];ie h (λc8 h=>bu h zG [aD c8]) λc8 h=>cC (aK h) zG [aD c8]) λc7 h=>cC (aK h) zF [aD c6,aQ c7]) λc0 h=>ra (aU h) [aD c0]
def asZ (aB:A Int):Nat->re->re->Int->Int->ae->A Int
 |0=>dw.z
 |n+1=>aHQ aB (asZ aB n) n
def aEW {aB} (aU:KK (A73 [1,1,1,1]) aeH aB):∀n:Nat,KK (A73 (aI 87)) aeI (asZ aB n)
 |0=>KC.h
 |n+1=>aTG aU (aEW aU n) n
def aHP (n:Nat):A Int:=
 V 0
def aTF:KK (A73 [1,1,1,1]) aeH (aHP g):=λr h=>rr h []
def aHO:A Int:=
 (Jh g w).bind λx4=>if x4 !=0 then
 V x4
 else
 if U (64<(bo.length:Int)) then
 V 2
 else
 asZ (aHP g) g bo bo (bo.length:Int) 0 w
def aTE:KK (A73 []) avp (aHO g):=λ_ _ r h=>be h λ_ iB h=>let zA:SE:=[ky (arA g iB)];ie h (λc0 h=>bu h zA [aQ c0]) λc0 h=>ie h (λc1 h=>bu h zA [aQ c0,aQ c1]) λc1 h=>cC (aEW (aTF g) g h) zA [aQ c0,aQ c1]
def F73:=aHO
def ev73:KK (Cx E0 73 dX bG) avp (F73 g):=λ_ _ _ h=>ca (X:=x73) (aTE g h)
def x122:=fx E0 Tryz.f122 []
def Su:=Ax x122 xj bG
def Yu (b4:aT):LS:=⟨[aY 3,aY 4,(8,.slice 39 1 cg.length (HO cg)),(9,iI ct),(10,iI bN)],[(3,xM (ir d2)),(4,xM (ir b4))]⟩
def aAl (back:tw->Int->Int->aT->aT->A aT) (n:Nat) (t8:tw) (t9 t10:Int) (b3 b4:aT):A aT:=
 if U (t10<t9) then
 (idx t8 t10).bind λx2=>(ajj n x2 b3 0).bind λx8=>back t8 t9 (aV (t10+1)) x8 b4
 else
 cp b3 b4
def aPh {aB} (aU:KK (Su [1,1]) DG aB) {back} (aK:KK (Su [0,1,0,1]) Yu back) (n:Nat):KK (Su [0,1,0,1]) Yu (aAl aB back n):=λ_ _ _ _ _ r h=>ie h (λc0 h=>be h λ_ dg h=>be h λ_ lj h=>ra (aK h) [aD c0,(0,R39.idx dg),ku (aGo n lj)]) λc0 h=>ra (aU h) [aD c0]
def aiP (aB:ZE):Nat->tw->Int->Int->aT->aT->A aT
 |0=>dw.z
 |n+1=>aAl aB (aiP aB n) n
def ayh {aB} (aU:KK (Su [1,1]) DG aB):∀n:Nat,KK (Su [0,1,0,1]) Yu (aiP aB n)
 |0=>KC.h
 |n+1=>aPh aU (ayh aU n) n
def aAk (n:Nat) (b3 b4:aT):A aT:=
 V b3
def aPg:KK (Su [1,1]) DG (aAk g):=λ_ _ r h=>rr h []
def aAj:A aT:=
 aiP (aAk g) g bf.cU (bf.cU.length:Int) 0 ay oJ
def aPf:KK (Su []) OY (aAj g):=λ_ _ r h=>ra (ayh (aPg g) g h) []
def aDG:=aAj
def aGy:KK (Cx E0 122 xj bG) OY (aDG g):=λ_ _ _ h=>ca (X:=x122) (aPf g h)
def awg (r:(List (Int×aT))):AV:=.dq []
def ano (r:(List (Int×aT))):List (Nat×Bx):= [(2,.map (gn (λv_=>AV.agg (ir v_)) r))]
def x123:=fx E0 Tryz.f123 [2]
def auO:=Ax x123 awg ano
def Yt:LS:=⟨[(1,iI u),(2,.mp 2),aY 3,(11,.sy 46 15 R.length (qt R)),(12,iI E),(13,iI aa)],[(2,.map (gn (λv_=>AV.agg (ir v_)) ap)),(3,.flat 123 (qJ cB))]⟩
def amC:LS:=⟨[(0,.agg (qJ ab)),(1,bM ac),(2,.mp 2)],[(2,.map (gn (λv_=>AV.agg (ir v_)) ap))]⟩
def aAi (back:Int->cH->Int->Int->(List (Int×aT))->eM->A (List (Int×aT))) (n:Nat) (L3:Int) (t11:cH) (t12 t13:Int) (b2:List (Int×aT)) (b3:eM):A (List (Int×aT)):=
 if U (t13<t12) then
 (idx t11 t13).bind λx3=>if x3.bg !=1 then
 back L3 t11 t12 (aV (t13+1)) b2 b3
 else
 (idx b3.AO t13).bind λga=>(idx ga.ah x3.av).bind λmX=>(cut b3.B5 (V (aV (t13+1))) G).bind λvj=>(F63 n vj x3.av (mX.ag.length:Int)).bind λx36=>if x36.dL then
 if x36.gX==L3 then
 (aDG n x36 x3.bk).bind λFC=>back L3 t11 t12 (aV (t13+1)) (nk b2 x36.fV FC) b3
 else
 back L3 t11 t12 (aV (t13+1)) b2 b3
 else
 back L3 t11 t12 (aV (t13+1)) b2 b3
 else
 V b2
def aPe {back} (aK:KK (auO [0,1,1]) Yt back) (n:Nat):KK (auO [0,1,1]) Yt (aAi back n):=λ_ _ _ _ b2 _ r h=>ie h (λc0 h=>be h λ_ eP h=>let zA:SE:=[aD c0,(1,NA.idx eP)];ie h (λc1 h=>cC (aK h) zA [dm c1]) λc1 h=>be h λ_ lu h=>be h λ_ py h=>be h λ_ tW h=>be h λx36 aBS h=>let zB:SE:=dv zA [dm c1,(3,IA.idx lu),(4,cy.idx py),(4,.ord [0,1,2,3,4,5,6,7,9,8,10]),(4,NA.cut tW),ku (aru n aBS)];ie h (λc2 h=>ie h (λc3 h=>be h λFC ahg h=>cC (aK h) zB [aQ c2,bl c3,vt (aGy n ahg),(0,.kS (B6 (f:=(λv_=>AV.agg (ir v_))) (k:=x36.fV) (v:=FC) b2))]) λc3 h=>cC (aK h) zB [aQ c2,bl c3]) λc2 h=>cC (aK h) zB [aQ c2]) λc0 h=>rr h [aD c0]
def aiO:Nat->Int->cH->Int->Int->(List (Int×aT))->eM->A (List (Int×aT))
 |0=>dw.z
 |n+1=>aAi (aiO n) n
def ayg:∀n:Nat,KK (auO [0,1,1]) Yt (aiO n)
 |0=>KC.h
 |n+1=>aPe (ayg n) n
def aAh:A (List (Int×aT)):=
 aiO g ac ab.B5 (ab.B5.length:Int) 0 ap ab
def aPd:KK (auO []) amC (aAh g):=λ_ _ _ r h=>ra (ayg g h) []
def F123:=aAh
def aSk:KK (Cx E0 123 awg ano) amC (F123 g):=λ_ _ _ _ h=>ca (X:=x123) (aPd g h)
def aEh (r:(cE×Bool)):AV:=.dq [.agg (oT r.1),.bool r.2]
def x74:=fx E0 Tryz.f74 []
def Cl:=Ax x74 aEh bG
def aKG:LS:=⟨[aY 2,aY 3,aY 4,(6,iI u),aY 7,(8,.ms 41 7 0 ao.length),(9,.mp 42),aY 11,(12,iI g6),(44,.slice 38 3 C.length (db C)),(45,iI O),(46,iI E)],[(2,.flat 123 (qJ ab)),(3,.flat 113 (oT N)),(4,.flat 113 (kR an .cr .cr .cr)),(7,.flat 113 (kR aS (.ms 32 3 0 bq.length) .cr .cr)),(11,.flat 38 (ir ay)),(32,.rows M 38 3 (db bq)),(41,.rows M 140 7 (uW ao)),(42,.map (gn (λv_=>AV.agg (ir v_)) ap))]⟩
def SX:LS:=⟨[aY 2,aY 3,aY 4,(6,iI u),aY 7,(8,.ms 41 7 0 ao.length),(9,.mp 42),(44,.slice 38 3 C.length (db C)),(45,iI O),(46,iI E)],[(2,.flat 123 (qJ ab)),(3,.flat 113 (oT N)),(4,.flat 113 (kR an .cr .cr .cr)),(7,.flat 113 (kR aS (.ms 32 3 0 al.length) .cr .cr)),(32,.rows M 38 3 (db al)),(41,.rows M 140 7 (uW ao)),(42,.map (gn (λv_=>AV.agg (ir v_)) ap))]⟩
def aeG:LS:=⟨[aY 3,aY 4,aY 7,(9,.mp 42),(14,.ms 14 1 0 ch.length),(97,.ms 14 1 0 ch.length),(98,bM u),(99,bM g6)],[(3,.flat 113 (oT N)),(4,.flat 113 (kR an .cr .cr .cr)),(7,.flat 113 (kR aS (.ms 32 3 0 cj.length) .cr (.ms 109 3 0 d4.length))),(14,.rows B 3 1 (dM ch)),(32,.rows M 38 3 (db cj)),(42,.map (gn (λv_=>AV.agg (ir v_)) ap)),(109,.rows M 38 3 (db d4))]⟩
def aeF:LS:=⟨[aY 3,aY 4,aY 7,(14,.ms 14 1 0 af.length)],[(3,.flat 113 (oT N)),(4,.flat 113 (kR an .cr .cr .cr)),(7,.flat 113 (kR aS (.ms 32 3 0 al.length) .cr (.ms 109 3 0 bq.length))),(14,wZ af),(32,Cu al),(109,Cu bq)]⟩
def aKF:LS:=⟨[aY 3,aY 4,aY 7,(9,.mp 42),(14,.ms 14 1 0 ch.length)],[(3,.flat 113 (oT N)),(4,.flat 113 (kR an .cr .cr .cr)),(7,.flat 113 (kR aS (.ms 32 3 0 cj.length) .cr .cr)),(14,.rows B 3 1 (dM ch)),(32,.rows M 38 3 (db cj)),(42,.map (gn (λv_=>AV.agg (ir v_)) ap))]⟩
def aKE:LS:=⟨[aY 3,aY 4,aY 7,(9,.mp 42)],[(3,.flat 113 (oT N)),(4,.flat 113 (kR an .cr .cr .cr)),(7,.flat 113 (kR aS (.ms 32 3 0 al.length) .cr .cr)),(32,.rows M 38 3 (db al)),(42,.map (gn (λv_=>AV.agg (ir v_)) ap))]⟩
def aeE:LS:=⟨[aY 2,aY 3,aY 4,(6,bM u),aY 7,(9,.mp 42)],[(2,.flat 123 (qJ ab)),(3,.flat 113 (oT N)),(4,.flat 113 (kR an .cr .cr .cr)),(7,.flat 113 (kR aS (.ms 32 3 0 al.length) .cr .cr)),(32,.rows M 38 3 (db al)),(42,.map (gn (λv_=>AV.agg (ir v_)) ap))]⟩
def avo:LS:=⟨(GV (qJ ab) (oT N)),[]⟩
def aud (aB:aHo) (n:Nat) (FE c12:Int) (t44:bp) (t45 t46:Int) (b2:eM) (b3 b4 b7:cE) (Iy:lz) (ph:List (Int×aT)) (fj:aT) (cm:bp):A (cE×Bool):=
 (eh Iy.length c12).bind λx3=>(Iy[0+x3]?).bind λx5=>if x5.dL then
 (aDG n x5 fj).bind λfN=>aB FE t44 t45 (aV (t46+1)) b2 b3 (ad5 b4.bg b4.av [] [] []) (ad5 b7.bg b7.av cm [] []) Iy (nk ph x5.fV fN) cm
 else
 if !((fj.aE==x5.fU.aE)&&((fj.dj==x5.fU.dj)&&((U (fj.cM=x5.fU.cM))&&M))) then
 V ((ad5 0 0 [] [] []),B)
 else
 aB FE t44 t45 (aV (t46+1)) b2 b3 (ad5 b4.bg b4.av [] [] []) (ad5 b7.bg b7.av cm [] []) Iy ph cm
def aGX {aB} (aU:KK (Cl (aI 1407)) SX aB) (n:Nat):KK (Cl (aI 498047)) aKG (aud aB n):=λ_ _ _ _ _ _ _ _ _ _ ph _ _ r h=>be h λ_ eP h=>be h λx5 iw h=>let zA:SE:=[(2,de eP),(0,ail.row iw)];ie h (λc0 h=>be h λfN gU h=>cC (aU h) zA [aX c0,mh (aGy n gU),(0,.kS (B6 (f:=(λv_=>AV.agg (ir v_))) (k:=x5.fV) (v:=fN) ph))]) λc0 h=>ie h (λc1 h=>bu h zA [aX c0,aX c1,(3,.nQ 4 (.flat 0 [.bool M,.bool M,.sl 0 38 3 0 [],.sl 0 3 1 0 [],.sl 0 38 3 0 []]))]) λc1 h=>cC (aU h) zA [aX c0,aX c1]
def aHN (ju:aHn) (back:aHo) (n:Nat) (FE:Int) (t44:bp) (t45 t46:Int) (b2:eM) (b3 b4 b7:cE) (Iy:lz) (ph:List (Int×aT)) (cm:bp):A (cE×Bool):=
 if U (t46<t45) then
 (idx t44 t46).bind λx3=>if b3.bg==2 then
 (idx b3.ag t46).bind λiZ=>aud back n FE iZ t44 t45 t46 b2 b3 (ad5 b4.bg b4.av [] [] []) (ad5 b7.bg b7.av cm [] []) Iy ph x3 cm
 else
 aud back n FE t46 t44 t45 t46 b2 b3 (ad5 b4.bg b4.av [] [] []) (ad5 b7.bg b7.av cm [] []) Iy ph x3 cm
 else
 ju FE b2 b3 (ad5 b4.bg b4.av [] [] []) (ad5 b7.bg b7.av cm [] []) ph cm
def aTD {ju} (oS:KK (Cl (aI 511)) aeE ju) {back} (aK:KK (Cl (aI 1407)) SX back) (n:Nat):KK (Cl (aI 1407)) SX (aHN ju back n):=λ_ _ _ _ _ _ _ _ _ _ _ r h=>ie h (λc0 h=>be h λ_ eP h=>ie h (λc1 h=>be h λ_ iW h=>ra (aGX aK n h) [aD c0,(1,jh.idx eP),iS c1,(3,R3.idx iW)]) λc1 h=>ra (aGX aK n h) [aD c0,(1,jh.idx eP),iS c1]) λc0 h=>ra (oS h) [aD c0]
def asY (ju:aHn):Nat->Int->bp->Int->Int->eM->cE->cE->cE->lz->(List (Int×aT))->bp->A (cE×Bool)
 |0=>dw.z
 |n+1=>aHN ju (asY ju n) n
def aEV {ju} (oS:KK (Cl (aI 511)) aeE ju):∀n:Nat,KK (Cl (aI 1407)) SX (asY ju n)
 |0=>KC.h
 |n+1=>aTD oS (aEV oS n) n
def aHM (br:Wf58) (back:Int->Int->cE->cE->cE->(List (Int×aT))->aP->bp->bp->A (cE×Bool)) (n:Nat) (t98 t99:Int) (b3 b4 b7:cE) (ph:List (Int×aT)) (gG:aP) (cm xZ:bp):A (cE×Bool):=
 if U (t99<t98) then
 (eh gG.length t99).bind λx2=>(gG[0+x2]?).bind λx4=>(app xZ [(np ph x4 oJ)]).bind λdB=>back t98 (aV (t99+1)) b3 (ad5 b4.bg b4.av [] [] []) (ad5 b7.bg b7.av cm [] dB) ph gG cm dB
 else
 br b3 (ad5 b4.bg b4.av [] [] []) (ad5 b7.bg b7.av cm [] xZ) gG cm xZ
def aTC {br} (cO:KK (Cl (aI 16383)) aeF br) {back} (aK:KK (Cl (aI 45055)) aeG back) (n:Nat):KK (Cl (aI 45055)) aeG (aHM br back n):=λ_ _ _ _ _ ph _ _ _ r h=>ie h (λc0 h=>be h λ_ dg h=>be h λx4 iB h=>be h λ_ fG h=>ra (aK h) [aD c0,(0,de dg),(0,R3.row iB),(5,.lkp B (M8 (f:=(λv_=>AV.agg (ir v_))) (k:=x4) (d:=oJ) ph)),(1,jh.jU fG)]) λc0 h=>ra (cO h) [aD c0]
def asX (br:Wf58):Nat->Int->Int->cE->cE->cE->(List (Int×aT))->aP->bp->bp->A (cE×Bool)
 |0=>dw.z
 |n+1=>aHM br (asX br n) n
def aEU {br} (cO:KK (Cl (aI 16383)) aeF br):∀n:Nat,KK (Cl (aI 45055)) aeG (asX br n)
 |0=>KC.h
 |n+1=>aTC cO (aEU cO n) n
def aHL (n:Nat) (b3 b4 b7:cE) (gG:aP) (cm xZ:bp):A (cE×Bool):=
 if b3.bg==2 then
 V ((ad5 b7.bg b7.av cm gG xZ),M)
 else
 V ((ad5 b7.bg b7.av cm [] xZ),M)
def aTB:KK (Cl (aI 16383)) aeF (aHL g):=λ_ _ _ gG cm xZ r h=>ie h (λc0 h=>rr h [aQ c0,(6,jh.eB 32 cm),(0,R3.eB 14 gG),(0,jh.eB 109 xZ),(0,.nQ 4 (.flat 0 [.bool M,.bool M,.sl 0 0 0 0 [],.bool M,.sl 0 0 0 0 []]))]) λc0 h=>rr h [aQ c0,(3,jh.eB 32 cm),(0,jh.eB 109 xZ),(0,.nQ 4 (.flat 0 [.bool M,.bool M,.sl 0 0 0 0 [],.sl 0 3 1 0 [],.sl 0 0 0 0 []]))]
def aHK:A (cE×Bool):=
 asX (aHL g) g (ch.length:Int) 0 N (ad5 an.bg an.av [] [] []) (ad5 aS.bg aS.av cj [] []) ap ch cj []
def aTA:KK (Cl (aI 8191)) aKF (aHK g):=λ_ _ _ _ _ _ r h=>ra (aEU (aTB g) g h) [(3,.born [] [(7,4)] 109 M 38 3)]
def auc:A (cE×Bool):=
 (apU ap).bind λx0=>aHK g N (ad5 an.bg an.av [] [] []) (ad5 aS.bg aS.av al [] []) ap x0 al
def aGW:KK (Cl (aI 1023)) aKE (auc g):=λ_ _ _ _ _ r h=>be h λ_ MN h=>pc74 (f:=(λv_=>AV.agg (ir v_))) (K:=42) (aTA g h) MN
def aHJ:A (cE×Bool):=
 if N.bg==1 then
 (F123 g ab u ap).bind λx7=>auc g N (ad5 an.bg an.av [] [] []) (ad5 aS.bg aS.av al [] []) x7 al
 else
 auc g N (ad5 an.bg an.av [] [] []) (ad5 aS.bg aS.av al [] []) ap al
def aTz:KK (Cl (aI 511)) aeE (aHJ g):=λ_ _ _ _ _ _ _ r h=>ie h (λc0 h=>be h λ_ iQ h=>ra (aGW g h) [aQ c0,(3,.call (aSk g iQ) [(42,2)] [])]) λc0 h=>ra (aGW g h) [aQ c0]
def aHI:A (cE×Bool):=
 (F63 g ab.B5 N.av (-1)).bind λx9=>if U (x9.gX<0) then
 V ((ad5 0 0 [] [] []),B)
 else
 (app [] N.aH).bind λlM=>if N.bg==3 then
 V ((ad5 N.bg x9.gX lM [] []),M)
 else
 (atA g ab N.av).bind λvj=>asY (aHJ g) g x9.gX N.xu (N.xu.length:Int) 0 ab N (ad5 0 0 [] [] []) (ad5 N.bg x9.gX lM [] []) vj [] lM
def aTy:KK (Cl []) avo (aHI g):=λ_ _ r h=>be h λ_ iq h=>let zA:SE:=[aRh (aru g iq)];ie h (λc0 h=>bu h zA [aX c0,(3,.nQ 4 (.flat 0 [.bool M,.bool M,.sl 0 38 3 0 [],.sl 0 3 1 0 [],.sl 0 38 3 0 []]))]) λc0 h=>be h λlM j5 h=>let zB:SE:=dv zA [aX c0,(0,.born [] [] 32 M 38 3),(5,jh.app (xs:= []) j5)];ie h (λc1 h=>bu h zB [bS c1,(3,jh.eB 32 lM),(0,.nQ 4 (.flat 0 [.bool M,.bool M,.sl 0 0 0 0 [],.sl 0 3 1 0 [],.sl 0 38 3 0 []]))]) λc1 h=>be h λ_ tW h=>cC (aEV (aTz g) g h) zB [bS c1,(3,.call (aGD g tW) [] [(41,bF)])]
def F74:=aHI
def ev74:KK (Cx E0 74 aEh bG) avo (F74 g):=λ_ _ _ h=>ca (X:=x74) (aTy g h)
def aEt:AV:=.dq [.ms bF 5 0 d8.1.length,bM d8.2.1,bM d8.2.2]
def awK:List (Nat×Bx):= [(bF,.rows M 113 5 (s8 d8.1))]
def lY:=fx E0 Tryz.f30 [3]
def A30:=AxS lY [3] aEt awK
def C30:=CxS E0 30 [3] aEt awK
def afp:LS:=⟨[(11,Mk),(14,.ms 55 5 0 cI.length),(36,.ms 3 5 0 bo.length),(37,bM u),(38,bM g6)],[(3,.rows B 113 5 (s8 bo)),(11,.flat 123 (qJ cB)),(55,.rows M 113 5 (s8 cI))]⟩
def afo:LS:=⟨[(14,.ms 55 5 0 cI.length)],[(3,.rows B 113 5 (s8 bo)),(55,.rows M 113 5 (s8 cI))]⟩
def avF:LS:=⟨[(0,.agg (cG w)),(1,.sy 46 15 R.length (qt R)),(2,iI E),(3,.ms 3 5 0 bo.length)],[(3,.rows B 113 5 (s8 bo))]⟩
def aIb (aB:aHm) (back:Int->Int->re->eM->re->A (re×Int×Int)) (n:Nat) (t37 t38:Int) (lD:re) (fj:eM) (b55:re):A (re×Int×Int):=
 if U (t38<t37) then
 (eh lD.length t38).bind λx3=>(lD[0+x3]?).bind λx5=>(F74 n fj x5).bind λj8=>if !j8.2 then
 V ([],t38,281)
 else
 (app b55 [j8.1]).bind λgw=>back t37 (aV (t38+1)) lD fj gw
 else
 aB lD b55
def aVm {aB} (aU:KK (A30 (aI 127)) afo aB) {back} (aK:KK (A30 (aI 351)) afp back) (n:Nat):KK (A30 (aI 351)) afp (aIb aB back n):=λ_ _ _ _ _ r h=>ie h (λc0 h=>be h λ_ eP h=>be h λ_ iw h=>be h λ_ jc h=>let zA:SE:=[aD c0,(1,de eP),(0,NC.row iw),mh (ev74 n jc)];ie h (λc1 h=>Lu h (dv zA [il c1,(4,.born [8] [] bF M 113 5)])) λc1 h=>be h λ_ ld h=>HV (aK h) (by kernel_rfl) (dv zA [il c1,(3,NC.jU ld)])) λc0 h=>HV (aU h) (by kernel_rfl) [aD c0]
def atc (aB:aHm):Nat->Int->Int->re->eM->re->A (re×Int×Int)
 |0=>dw.z
 |n+1=>aIb aB (atc aB n) n
def aFv {aB} (aU:KK (A30 (aI 127)) afo aB):∀n:Nat,KK (A30 (aI 351)) afp (atc aB n)
 |0=>KC.h
 |n+1=>aVm aU (aFv aU n) n
def aIa (n:Nat) (lD b55:re):A (re×Int×Int):=
 V (b55,0,0)
def aVl:KK (A30 (aI 127)) afo (aIa g):=λ_ _ r h=>Lu h [(4,.ja 55 bF)]
def aHZ:A (re×Int×Int):=
 (F54 g w R E).bind λx8=>if x8.2 !=0 then
 V ([],0,x8.2)
 else
 (F56 g x8.1).bind λlg=>(F73 g lg bo).bind λmF=>if mF !=0 then
 V ([],0,mF)
 else
 atc (aIa g) g (bo.length:Int) 0 bo x8.1 []
def aVk:KK (A30 []) avF (aHZ g):=λ_ _ _ lD r h=>be h λ_ lj h=>let zA:SE:=[vt (aCx g lj)];ie h (λc0 h=>Lu h (dv zA [il c0,(4,.born [8] [] bF M 113 5)])) λc0 h=>be h λ_ nu h=>be h λ_ nR h=>let zB:SE:=dv zA [il c0,qT (arv g nu),(1,.zw (ev73 g nR) [NC.eB 3 lD] trivial [] [])];ie h (λc1 h=>Lu h (dv zB [aQ c1,(4,.born [8] [] bF M 113 5)])) λc1 h=>HV (aFv (aVl g) g h) (by kernel_rfl) (dv zB [aQ c1,(4,.born [14] [] 55 M 113 5)])
def F30:=aHZ
def ev30:KK C30 avF (F30 g):=λ_ _ _ _ _ h=>caS (X:=lY) (aVk g h)
def x47:=fx E0 Tryz.f47 []
def A47:=Ax x47 xj bG
def avx:LS:=⟨[(0,bM u)],[]⟩
def aHW (n:Nat) (n0:Int):A aT:=
 V (aT.mk 4 n0 vp)
def aUo:KK (A47 []) avx (aHW g):=λ_ r h=>rr h []
def LH:=aHW
def EU:KK (Cx E0 47 xj bG) avx (LH g):=λ_ _ h=>ca (X:=x47) (aUo g h)
def x48:=fx E0 Tryz.f48 []
def A48:=Ax x48 xj bG
def aHV (n:Nat) (s0:Z):A aT:=
 V (aT.mk 5 0 s0)
def aUn:KK (A48 []) DD (aHV g):=λ_ r h=>rr h []
def F48:=aHV
def arx:KK (Cx E0 48 xj bG) DD (F48 g):=λ_ _ h=>ca (X:=x48) (aUn g h)
def iZ:=fx E0 Tryz.f17 []
def A17:=Ax iZ cY bG
def avK:LS:=⟨[],[]⟩
def aId:A Bool:=
 (LH g 0).bind λeW=>(LH g 0).bind λdB=>(LH g 1).bind λga=>(LH g 1).bind λgS=>(LH g 0).bind λlM=>(F48 g (xp #[45])).bind λgw=>(LH g 7).bind λlY=>(LH g 7).bind λkQ=>(F48 g (xp #[45])).bind λCN=>(F30 g (ad0 0 [(ai.mk (xp #[116,97,115,107,115]) [(cF.mk (xp #[105,100]) 4),(cF.mk (xp #[116,105,116,108,101]) 5)] 1 [] [])]) [(ad7 1 0 0 0 (xp #[115,116,97,116,101]) 4 eW [] (ai.mk vp [] 0 [] [])),(ad7 8 0 2 0 vp 0 oJ [(iH.mk dB ga),(iH.mk gS lM)] (ai.mk vp [] 0 [] [])),(ad7 2 0 1 0 vp 0 gw [] (ai.mk vp [] 0 [] []))] 0 [(ad5 1 0 [lY] [] [kQ,CN])]).bind λD2=>if D2.2.2 !=0 then
 V B
 else
 if (D2.1.length:Int) !=1 then
 V B
 else
 (eh D2.1.length 0).bind λx62=>(D2.1[0+x62]?).bind λqq=>if (qq.xu.length:Int) !=2 then
 V B
 else
 (eh D2.1.length 0).bind λx72=>(D2.1[0+x72]?).bind λx75=>(idx x75.xu 1).bind λoX=>(LH g 1).bind λx80=>if !((oX.aE==x80.aE)&&((oX.dj==x80.dj)&&((U (oX.cM=x80.cM))&&M))) then
 V B
 else
 (LH g 7).bind λx85=>(F48 g (xp #[97])).bind λx87=>(eh 1 0).bind λx90=>([(ad5 1 0 [lY] [] [kQ,CN])][0+x90]?).bind λx93=>(setAt [(ad5 1 0 [lY] [] [kQ,CN])] (0+x90) (ad5 x93.bg x93.av x93.aH x93.ag [x85,x87])).bind λz94=>(F30 g (ad0 0 [(ai.mk (xp #[116,97,115,107,115]) [(cF.mk (xp #[105,100]) 4),(cF.mk (xp #[116,105,116,108,101]) 5)] 1 [] [])]) [(ad7 1 0 0 0 (xp #[115,116,97,116,101]) 4 eW [] (ai.mk vp [] 0 [] [])),(ad7 8 0 2 0 vp 0 oJ [(iH.mk dB ga),(iH.mk gS lM)] (ai.mk vp [] 0 [] [])),(ad7 2 0 1 0 vp 0 gw [] (ai.mk vp [] 0 [] []))] 0 z94).bind λx99=>(LH g 7).bind λLV=>(LH g 1).bind λadS=>(F21 g (ad0 0 [(ai.mk (xp #[116,97,115,107,115]) [(cF.mk (xp #[105,100]) 4),(cF.mk (xp #[116,105,116,108,101]) 5)] 1 [] [])]) [(ad7 1 0 0 0 (xp #[115,116,97,116,101]) 4 eW [] (ai.mk vp [] 0 [] [])),(ad7 8 0 2 0 vp 0 oJ [(iH.mk dB ga),(iH.mk gS lM)] (ai.mk vp [] 0 [] [])),(ad7 2 0 1 0 vp 0 gw [] (ai.mk vp [] 0 [] []))] 0 1 (ad4 [[[LV,adS]]])).bind λLU=>if x99.2.2==281 then
 if x99.2.1==0 then
 if LU.2==0 then
 if (LU.1.ah.length:Int)==1 then
 (idx LU.1.ah 0).bind λapx=>if (apx.length:Int)==1 then
 (idx LU.1.ah 0).bind λapw=>(idx apw 0).bind λapv=>if (apv.length:Int)==2 then
 (idx LU.1.ah 0).bind λx166=>(idx x166 0).bind λapu=>(idx apu 1).bind λW8=>(F48 g (xp #[45])).bind λW7=>V ((W8.aE==W7.aE)&&((W8.dj==W7.dj)&&((U (W8.cM=W7.cM))&&M)))
 else
 V B
 else
 V B
 else
 V B
 else
 V B
 else
 V B
 else
 V B
def aVI:KK (A17 []) avK (aId g):=λr h=>be h λeW iF h=>be h λdB fG h=>be h λga lu h=>be h λgS jl h=>be h λlM j5 h=>be h λgw ld h=>be h λlY tX h=>be h λkQ p6 h=>be h λCN Kb h=>be h λ_ Zh h=>let zA:SE:=[(5,fk.eB 14 [(cF.mk (xp #[105,100]) 4),(cF.mk (xp #[116,105,116,108,101]) 5)]),(0,.qc 15 (.agg (zx 3 [.sl 0 121 2 0 [],.sl 0 107 13 0 []]))),ku (EU g iF),qT (EU g fG),jM (EU g lu),qT (EU g jl),jM (EU g j5),ky (arx g ld),(1,.qc 19 (.agg (zx 9 [.sl 0 110 6 0 [],.bool M,.sl 0 73 2 0 [],.bool M,.sl 0 121 2 0 [],.sl 0 107 13 0 []]))),(0,E8.eB 26 [(iH.mk dB ga),(iH.mk gS lM)]),(0,.qc 27 (.agg (zx 11 [.sl 0 73 2 0 [],.bool M,.sl 0 121 2 0 [],.sl 0 107 13 0 []]))),(0,.qc 29 (.agg (zx 9 [.sl 0 110 6 0 [],.bool M,.sl 0 73 2 0 [],.bool M,.sl 0 121 2 0 [],.sl 0 107 13 0 []]))),jj (EU g tX),qT (EU g p6),jM (arx g Kb),(2,jh.eB 32 [lY]),(0,jh.eB 35 [kQ,CN]),(0,.qc 36 (.agg (zx 3 [.sl 0 3 1 0 []]))),(5,cy.eB 16 [(ai.mk (xp #[116,97,115,107,115]) [(cF.mk (xp #[105,100]) 4),(cF.mk (xp #[116,105,116,108,101]) 5)] 1 [] [])]),(0,NA.eB 30 [(ad7 1 0 0 0 (xp #[115,116,97,116,101]) 4 eW [] (ai.mk vp [] 0 [] [])),(ad7 8 0 2 0 vp 0 oJ [(iH.mk dB ga),(iH.mk gS lM)] (ai.mk vp [] 0 [] [])),(ad7 2 0 1 0 vp 0 gw [] (ai.mk vp [] 0 [] []))]),(0,.call (ev30 g Zh) [(37,3)] [(304200,bF)])];ie h (λc0 h=>bu h zA [iS c0]) λc0 h=>let zB:SE:=dv zA [iS c0];ie h (λc1 h=>bu h zB [aX c1]) λc1 h=>be h λ_ hx62 h=>be h λ_ aBJ h=>let zC:SE:=dv zB [aX c1,(3,de hx62),(1,NC.row aBJ)];ie h (λc2 h=>bu h zC [aW c2]) λc2 h=>be h λ_ hx72 h=>be h λ_ hx75 h=>be h λ_ aBH h=>be h λ_ hx80 h=>let zD:SE:=dv zC [aW c2,(3,de hx72),(1,NC.row hx75),(0,jh.idx aBH),(1,.KA (EU g hx80))];ie h (λc3 h=>bu h zD [aD c3]) λc3 h=>be h λx85 hx85 h=>be h λx87 hx87 h=>be h λ_ hx90 h=>be h λ_ hx93 h=>be h λ_ hz94 h=>be h λ_ hx99 h=>be h λLV aRt h=>be h λadS aRs h=>be h λ_ aRr h=>let zE:SE:=dv zD [aD c3,jj (EU g hx85),jM (arx g hx87),(1,de hx90),(1,jh.eB 74 [x85,x87]),(0,NC.ur 4 [.slice 38 3 [x85,x87].length (db [x85,x87])] hx93 hz94),(3,.seq 80 (bH (AV.ms 37 5 0) (eG hz94))),(0,.call (ev30 g hx99) [(37,3)] [(308100,bF)]),(7,.ord [0,1,2,3,12,4,5,6,7,8,9,10,11,13,14]),(2,.KA (EU g aRt)),(0,.KA (EU g aRs)),(1,.bsF 90 3 2 [jh.eB 90 [LV,adS]]),(0,.bsF 91 1 1 [jW.eB 91 [[LV,adS]]]),(0,.bsF 92 1 1 [po.eB 92 [[[LV,adS]]]]),qT (aCC g aRr)];ie h (λc4 h=>let zF:SE:=dv zE [dm c4];ie h (λc5 h=>let zG:SE:=dv zF [aQ c5];ie h (λc6 h=>let zH:SE:=dv zG [aX c6];ie h (λc7 h=>be h λ_ aRo h=>let zI:SE:=dv zH [bS c7,(4,po.idx aRo)];ie h (λc8 h=>be h λ_ aRn h=>be h λ_ aRm h=>let zJ:SE:=dv zI [aQ c8,(4,po.idx aRn),(1,jW.idx aRm)];ie h (λc9 h=>be h λ_ aRl h=>be h λ_ aRk h=>be h λ_ aRj h=>be h λ_ aRi h=>bu h zJ [aQ c9,(4,po.idx aRl),(1,jW.idx aRk),(1,jh.idx aRj),(1,.KA (arx g aRi))]) λc9 h=>bu h zJ [aQ c9]) λc8 h=>bu h zI [aQ c8]) λc7 h=>bu h zH [bS c7]) λc6 h=>bu h zG [aX c6]) λc5 h=>bu h zF [aQ c5]) λc4 h=>bu h zE [dm c4]
def F17:=aId
def ev17:KK (Cx E0 17 cY bG) avK (F17 g):=λ_ h=>ca (X:=iZ) (aVI g h)
def aEo:AV:=.ms bF 3 0 d9.1.length
def awF:List (Nat×Bx):= [(0,mV (fA d9.2)),(bF,Cu d9.1)]
def x49:=fx E0 Tryz.f49 [0]
def Of:=Ax x49 aEo awF
def aKO:LS:=⟨[aY 0,(2,iI u),(3,iI g6),(9,.ms 9 3 0 d4.length),(11,iI O),(12,.slice 3 1 F.length (dM F)),(13,iI E),(14,iI aa),(41,.bool bc)],[(0,mV (fA ck)),(9,Cu d4)]⟩
def HM:LS:=⟨[aY 0,(2,iI u),(3,iI g6),(9,.ms 9 3 0 al.length),(12,.slice 3 1 F.length (dM F)),(13,iI E),(14,iI aa)],[(0,mV (fA f7)),(9,Cu al)]⟩
def aeS:LS:=⟨[(9,.ms 9 3 0 al.length)],[(0,mV (fA f7)),(9,Cu al)]⟩
def avw:LS:=⟨[aY 0,(1,.slice 3 1 af.length (dM af)),(2,iI ac),(3,iI am)],(ta (fA f7))⟩
def GD (eu k11:Int) (t12:aP) (t13 t14:Int) (t41:Bool) (b0:aN) (b9:bp):A (bp×aN):=
 if t41 then
 (app b9 [(aT.mk 1 0 vp)]).bind λx4=>dV cl eu t12 t13 t14 b0 x4
 else
 (F93 dY b0 k11).bind λx4=>(app b9 [x4.1]).bind λx7=>dV cl eu t12 t13 t14 x4.2 x7
def Un {aB} (aU:KK (Of (aI 971)) HM aB) (n:Nat):KK (Of (aI 62667)) aKO (GD aB n):=λ_ _ _ _ _ _ _ _ _ r h=>ie h (λdy bE=>by subst dy;exact (be bE λx4 iB bE=>ra (aU bE) [(3,jh.jU iB)])) λdy bE=>by subst dy;exact (be bE λx4 iB bE=>be bE λx7 iQ bE=>ra (aU bE) [(3,.call (RO n iB) [(0,0)] []),(1,jh.jU iQ)])
def Br (n:Nat) (jG eu:Int) (t12:aP) (t13 t14:Int) (b0:aN) (b9:bp):A (bp×aN):=
 dV jG eu t12 t13 (aV (t14+1)) b0 b9
def PC {bh} (cL:KK (Of [0,1,0,1,1]) HM bh) (n:Nat):KK (Of (aI 971)) HM (Br bh n):=λ_ _ _ _ _ _ _ r h=>ra (cL h) []
def acQ (br:aHl) (back:aDk) (n:Nat) (jG eu:Int) (t12:aP) (t13 t14:Int) (b0:aN) (b9:bp):A (bp×aN):=
 if U (t14<t13) then
 (idx t12 t14).bind λx3=>if !U (t14<jG) then
 if eu !=1 then
 (C0 n b0 5).bind λiZ=>if iZ.1 then
 (app b9 [(aT.mk 2 0 vp)]).bind λLR=>Br back n jG eu t12 t13 t14 iZ.2 LR
 else
 if eu==3 then
 (C0 n iZ.2 5).bind λlY=>GD (Br back n) n jG eu x3 t12 t13 t14 lY.1 lY.2 b9
 else
 GD (Br back n) n jG eu x3 t12 t13 t14 B iZ.2 b9
 else
 if eu==3 then
 (C0 n b0 5).bind λwU=>GD (Br back n) n jG eu x3 t12 t13 t14 wU.1 wU.2 b9
 else
 GD (Br back n) n jG eu x3 t12 t13 t14 B b0 b9
 else
 GD (Br back n) n jG eu x3 t12 t13 t14 B b0 b9
 else
 br b0 b9
def aUm {br} (cO:KK (Of [1,1,1]) aeS br) {back} (aK:KK (Of [0,1,0,1,1]) HM back) (n:Nat):KK (Of [0,1,0,1,1]) HM (acQ br back n):=λ_ _ _ _ _ _ _ r h=>ie h (λdy h=>be h λ_ eP h=>let zA:SE:=[aD dy,(1,R3.idx eP)];ie h (λc1 h=>let zB:SE:=dv zA [bS c1];ie h (λc2 h=>be h λ_ iW h=>ie h (λc3 h=>be h λ_ EC h=>cC (PC aK n h) zB [aQ c2,(3,.call (cb (qI n iW) c3) [(0,0)] []),(5,jh.jU EC)]) λc3 h=>let zC:SE:=dv zB [aQ c2,(3,.call (cb (qI n iW) c3) [(0,0)] []),bl c1];ie h (λc4 h=>be h λ_ tX h=>cC (Un (PC aK n) n h) zC [aQ c4,(3,.call (qI n tX) [(0,0)] [])]) λc4 h=>cC (Un (PC aK n) n h) zC [aQ c4]) λc2 h=>ie h (λc3 h=>be h λ_ Kd h=>cC (Un (PC aK n) n h) zB [aQ c2,dm c1,aQ c3,(3,.call (qI n Kd) [(0,0)] [])]) λc3 h=>cC (Un (PC aK n) n h) zB [aQ c2,dm c1,aQ c3]) λc1 h=>cC (Un (PC aK n) n h) zA [bS c1,il c1]) λdy h=>ra (cO h) [aD dy]
def Gy (br:aHl):Nat->Int->Int->aP->Int->Int->aN->bp->A (bp×aN)
 |0=>dw.z
 |n+1=>acQ br (Gy br n) n
def aFd {br} (cO:KK (Of [1,1,1]) aeS br):∀n:Nat,KK (Of [0,1,0,1,1]) HM (Gy br n)
 |0=>KC.h
 |n+1=>aUm cO (aFd cO n) n
def Qt (n:Nat) (b0:aN) (b9:bp):A (bp×aN):=
 V (b9,b0)
def aUl:KK (Of [1,1,1]) aeS (Qt g):=λ_ _ r h=>rr h [(2,.ja 9 bF)]
def aHU:A (bp×aN):=
 Gy (Qt g) g ac am af (af.length:Int) 0 f7 []
def aUk:KK (Of []) avw (aHU g):=λ_ _ _ _ r h=>ra (aFd (aUl g) g h) [(5,.born [9] [] 9 M 38 3)]
def F49:=aHU
def ev49:KK (Cx E0 49 aEo awF) avw (F49 g):=λ_ _ _ _ _ h=>ca (X:=x49) (aUk g h)
def sx:=fx E0 Tryz.f69 []
def A69:=Ax sx dX bG
def aug (n:Nat) (a0 b1:aT):A Int:=
 if U (a0.aE<b1.aE) then
 V (-1)
 else
 if U (b1.aE<a0.aE) then
 V 1
 else
 if U (a0.dj<b1.dj) then
 V (-1)
 else
 if U (b1.dj<a0.dj) then
 V 1
 else
 if Kx a0.cM.toList b1.cM.toList then
 V (-1)
 else
 if !(Kx a0.cM.toList b1.cM.toList||a0.cM.toList==b1.cM.toList) then
 V 1
 else
 V 0
def aTJ:KK (A69 []) OX (aug g):=λ_ _ r h=>ie h (λc0 h=>rr h [il c0]) λc0 h=>ie h (λc1 h=>rr h [il c0,bS c1]) λc1 h=>let zA:SE:=[il c0,bS c1];ie h (λc2 h=>bu h zA [bS c2]) λc2 h=>let zB:SE:=dv zA [bS c2];ie h (λc3 h=>bu h zB [bS c3]) λc3 h=>ie h (λc4 h=>bu h zB [bS c3,bS c4]) λc4 h=>ie h (λc5 h=>bu h zB [bS c3,bS c4,bS c5]) λc5 h=>bu h zB [bS c3,bS c4,bS c5]
def F69:=aug
def ev69:KK (Cx E0 69 dX bG) OX (F69 g):=λ_ _ _ h=>ca (X:=sx) (aTJ g h)
def wU:=fx E0 Tryz.f27 []
def A27:=Ax wU dX bG
def afq:LS:=⟨[(0,.slice 38 3 C.length (db C)),(1,.slice 38 3 g8.length (db g8)),(5,iI f8)],[]⟩
def adr (aB:asN) (back:bp->bp->Int->A Int) (n:Nat) (a0 b1:bp) (i5:Int):A Int:=
 if U (i5<(a0.length:Int)) then
 if U (i5<(b1.length:Int)) then
 (idx a0 i5).bind λdB=>(idx b1 i5).bind λgS=>(F69 n dB gS).bind λmX=>if mX !=0 then
 V mX
 else
 back a0 b1 (aV (i5+1))
 else
 aB a0 b1
 else
 aB a0 b1
def aVp {aB} (aU:KK (A27 [1,1]) vG aB) {back} (aK:KK (A27 [0,1,0,1]) afq back) (n:Nat):KK (A27 [0,1,0,1]) afq (adr aB back n):=λ_ _ _ r h=>ie h (λc0 h=>ie h (λc1 h=>be h λ_ fG h=>be h λ_ jl h=>be h λ_ py h=>let zA:SE:=[aX c0,bl c1,(3,jh.idx fG),(3,jh.idx jl),qT (ev69 n py)];ie h (λc2 h=>bu h zA [aQ c2]) λc2 h=>cC (aK h) zA [aQ c2]) λc1 h=>ra (aU h) [aX c0,bl c1]) λc0 h=>ra (aU h) [aX c0]
def Qa (aB:asN):Nat->bp->bp->Int->A Int
 |0=>dw.z
 |n+1=>adr aB (Qa aB n) n
def aFw {aB} (aU:KK (A27 [1,1]) vG aB):∀n:Nat,KK (A27 [0,1,0,1]) afq (Qa aB n)
 |0=>KC.h
 |n+1=>aVp aU (aFw aU n) n
def U7 (n:Nat) (a0 b1:bp):A Int:=
 if U ((a0.length:Int)<(b1.length:Int)) then
 V (-1)
 else
 if U ((b1.length:Int)<(a0.length:Int)) then
 V 1
 else
 V 0
def aVo:KK (A27 [1,1]) vG (U7 g):=λ_ _ r h=>ie h (λc0 h=>rr h [bl c0]) λc0 h=>ie h (λc1 h=>rr h [bl c0,bS c1]) λc1 h=>rr h [bl c0,bS c1]
def aIc:A Int:=
 Qa (U7 g) g C g8 0
def aVn:KK (A27 []) vG (aIc g):=λ_ _ r h=>ra (aFw (aVo g) g h) []
def F27:=aIc
def aCA:KK (Cx E0 27 dX bG) vG (F27 g):=λ_ _ _ h=>ca (X:=wU) (aVn g h)
def x104:=fx E0 Tryz.f104 []
def A104:=Ax x104 xk yA
def amK:LS:=⟨[(0,.slice 38 3 C.length (db C))],[]⟩
def ale (n:Nat) (r0:bp):A bp:=
 (app [] r0).bind λx3=>V x3
def aPJ:KK (A104 []) amK (ale g):=λ_ r h=>be h λ_ eP h=>rr h [(2,.born [] [] 4 M 38 3),(0,jh.app (xs:= []) eP),(1,.ja 4 bF)]
def NM:=ale
def Ub:KK (Cx E0 104 xk yA) amK (NM g):=λ_ _ h=>ca (X:=x104) (aPJ g h)
def x52:=fx E0 Tryz.f52 []
def A52:=Ax x52 xk yA
def auo:A bp:=
 if U (g6<0) then
 V []
 else
 if !U (g6<(w.ah.length:Int)) then
 V []
 else
 (idx w.ah g6).bind λfN=>(cut C G (V (if 0<(if (C.length:Int)<fN.aH then (C.length:Int) else fN.aH) then (if (C.length:Int)<fN.aH then (C.length:Int) else fN.aH) else 0))).bind λLR=>(NM g LR).bind λvk=>V vk
def aUd:KK (A52 []) HL (auo g):=λ_ _ _ r h=>ie h (λc0 h=>rr h [aX c0,(3,.born [6] [] bF M 38 3)]) λc0 h=>ie h (λc1 h=>rr h [aX c0,bS c1,(2,.born [6] [] bF M 38 3)]) λc1 h=>be h λ_ gU h=>be h λ_ EC h=>be h λ_ tY h=>rr h [aX c0,bS c1,(5,cy.idx gU),(6,jh.cut EC),(0,.call (Ub g tY) [] [(28,bF)]),(1,.ja 28 bF)]
def F52:=auo
def ahE:KK (Cx E0 52 xk yA) HL (F52 g):=λ_ _ _ _ h=>ca (X:=x52) (aUd g h)
def aEn:AV:=.agg [tQ eZ ef.2.length]
def awD:List (Nat×Bx):= [(eZ,vL ef.2)]
def x51:=fx E0 Tryz.f51 [eZ]
def A51:=Ax x51 aEn awD
def aKN (b6 sF:aw) (fK:bn):LS:=⟨[(2,iI u),(3,.slice 38 3 C.length (db C)),(4,.slice 38 3 g8.length (db g8)),aY 5,aY 6,aY 10,(11,.ms 45 1 0 fK.length),(12,.bool bc),(14,.slice 38 3 bq.length (db bq)),(15,iI bQ),(23,.slice 70 1 cu.length (iM cu)),(24,iI bN),(25,iI cv)],[(5,ij (cG cn)),(6,Ej eZ dZ.length),(10,rj),(45,xN fK),(eZ,vL dZ)]⟩
def S0 (b6 sF:aw) (fK:bn):LS:=⟨[(2,iI u),(3,.slice 38 3 C.length (db C)),(4,.slice 38 3 g8.length (db g8)),aY 5,aY 6,aY 10,(11,.ms 45 1 0 fK.length),(12,.bool bc),(23,.slice 70 1 bm.length (iM bm)),(24,iI bi),(25,iI bQ)],[(5,ij (cG cn)),(6,Ej eZ dZ.length),(10,rj),(45,xN fK),(eZ,vL dZ)]⟩
def aKM (b6 sF:aw) (fK:bn):LS:=⟨[(2,bM u),aY 6,aY 10,(11,.ms 45 1 0 fK.length)],[(6,Ej eZ aZ.length),(10,rj),(45,xN fK),(eZ,vL aZ)]⟩
def aeP (b6 sF:aw) (fK:bn):LS:=⟨[(2,iI u),(4,.slice 38 3 C.length (db C)),aY 6,aY 10,(11,.ms 45 1 0 fK.length),(12,.bool bc)],[(6,Ej eZ aZ.length),(10,rj),(45,xN fK),(eZ,vL aZ)]⟩
def avv:LS:=⟨[(0,.agg (cG w)),(1,.agg [tQ eZ W.ah.length]),(2,iI f8),(3,.slice 38 3 al.length (db al)),(4,.slice 38 3 bq.length (db bq))],[(eZ,aAW W)]⟩
def Qs (aB:Wf60) (n:Nat) (fJ:Int) (mr pt:bp) (qK:Bool) (r14:bp) (c15:Int) (t23:bn) (t24 t25:Int) (dH:cf) (b5:ae) (b6 sF:aw) (fK:bn):A (aw×cf):=
 if c15 !=0 then
 (app fK [r14]).bind λx6=>aB fJ mr pt qK t23 t24 (aV (t25+1)) dH b5 (ad4 dH) (ad4 []) x6
 else
 aB fJ mr pt qK t23 t24 (aV (t25+1)) dH b5 (ad4 dH) (ad4 []) fK
def asi {aB} (aU:KK (A51 (aI 87)) S0 aB) (n:Nat):KK (A51 (aI 31127)) aKN (Qs aB n):=λ_ _ _ _ _ _ _ _ _ _ _ _ _ _ r h=>ie h (λc0 h=>be h λ_ jV h=>ra (aU h) [aW c0,(3,jW.jU jV)]) λc0 h=>ra (aU h) [aW c0]
def acN (br:Wf61) (back:Wf60) (n:Nat) (fJ:Int) (mr pt:bp) (qK:Bool) (t23:bn) (t24 t25:Int) (dH:cf) (b5:ae) (b6 sF:aw) (fK:bn):A (aw×cf):=
 if U (t25<t24) then
 (idx t23 t25).bind λx2=>(F52 n b5 fJ x2).bind λx9=>(F27 n x9 mr).bind λj8=>if !U (j8<0) then
 if !qK then
 (NM n pt).bind λhY=>(app fK [hY]).bind λvk=>Qs back n fJ mr pt M x2 j8 t23 t24 t25 dH b5 (ad4 dH) (ad4 []) vk
 else
 Qs back n fJ mr pt qK x2 j8 t23 t24 t25 dH b5 (ad4 dH) (ad4 []) fK
 else
 Qs back n fJ mr pt qK x2 j8 t23 t24 t25 dH b5 (ad4 dH) (ad4 []) fK
 else
 br fJ pt qK dH (ad4 dH) (ad4 []) fK
def aUg {br} (cO:KK (A51 [1,1,1,1]) aeP br) {back} (aK:KK (A51 (aI 87)) S0 back) (n:Nat):KK (A51 (aI 87)) S0 (acN br back n):=λ_ _ _ _ _ _ _ _ _ _ _ _ r h=>ie h (λc0 h=>be h λ_ dg h=>be h λx9 iq h=>be h λ_ jc h=>let zA:SE:=[aD c0,(0,jW.idx dg),(5,.call (ahE n iq) [] [(32,bF)]),(1,jh.eB 32 x9),jM (aCA n jc)];ie h (λc1 h=>ie h (λc2 h=>be h λhY oj h=>be h λ_ tY h=>cC (asi aK n h) zA [aQ c1,aQ c2,(3,.call (Ub n oj) [] [(43,bF)]),(0,jh.eB 43 hY),(0,.qc 43 (.sl 0 0 0 0 [])),(1,jW.jU tY)]) λc2 h=>cC (asi aK n h) zA [aQ c1,aQ c2]) λc1 h=>cC (asi aK n h) zA [aQ c1]) λc0 h=>ra (cO h) [aD c0]
def KS (br:Wf61):Nat->Int->bp->bp->Bool->bn->Int->Int->cf->ae->aw->aw->bn->A (aw×cf)
 |0=>dw.z
 |n+1=>acN br (KS br n) n
def aFb {br} (cO:KK (A51 [1,1,1,1]) aeP br):∀n:Nat,KK (A51 (aI 87)) S0 (KS br n)
 |0=>KC.h
 |n+1=>aUg cO (aFb cO n) n
def acM (n:Nat) (fJ:Int) (dH:cf) (b6 sF:aw) (fK:bn):A (aw×cf):=
 (eh dH.length fJ).bind λx5=>(dH[0+x5]?).bind λx7=>(setAt dH (0+x5) fK).bind λz8=>V ((ad4 z8),z8)
def aGZ:KK (A51 [1,1,1,1,1]) aKM (acM g):=λ_ _ _ _ fK r h=>be h λ_ iw h=>be h λ_ iQ h=>be h λ_ hz8 h=>rr h [(4,de iw),(0,jW.eB 45 fK),(0,.qc 63 (.sl 0 0 0 0 [])),(0,po.ur 0 [.slice 70 1 fK.length (iM fK)] iQ hz8),(2,.beq 10 (bH (Ej eZ) (eG hz8)))]
def UY (b6 sF:aw) (fK:bn):A (aw×cf):=
 if !bc then
 (NM g C).bind λx5=>(app fK [x5]).bind λx8=>acM g u aZ (ad4 aZ) (ad4 []) x8
 else
 acM g u aZ (ad4 aZ) (ad4 []) fK
def aUf:KK (A51 [1,1,1,1]) aeP (UY g):=λ_ _ _ _ _ _ _ r h=>ie h (λc0 h=>be h λx5 iw h=>be h λ_ lj h=>ra (aGZ g h) [aW c0,(2,.call (Ub g iw) [] [(57,bF)]),(0,jh.eB 57 x5),(0,.qc 57 (.sl 0 0 0 0 [])),(1,jW.jU lj)]) λc0 h=>ra (aGZ g h) [aW c0]
def aup:A (aw×cf):=
 (eh W.ah.length f8).bind λj8=>(W.ah[0+j8]?).bind λiK=>KS (UY g) g f8 al bq ((bq.length:Int)==0) iK (iK.length:Int) 0 W.ah w W (ad4 []) []
def aUe:KK (A51 []) avv (aup g):=λ_ _ _ _ _ r h=>be h λ_ jc h=>be h λ_ iO h=>ra (aFb (aUf g) g h) [(11,de jc),(0,po.row iO),(2,.born [11] [] 45 M 70 1)]
def F51:=aup
def ev51:KK (Cx E0 51 aEn awD) avv (F51 g):=λ_ _ _ _ _ _ h=>ca (X:=x51) (aUe g h)
def aEu:AV:=.agg (vz eg.1)
def awL:List (Nat×Bx):= (ta (fA eg.2))
def lg:=fx E0 Tryz.f19 [0]
def GO:=Ax lg aEu awL
def afy (b6 b7:aw) (gG:cf):LS:=⟨[aY 0,(2,bM u),aY 4,aY 6,aY 7,(8,bM g6),(9,bM O),(18,bM E),(19,bM aa)],[(0,mV (fA f7)),(4,ij (cG Y)),(6,rj),(7,.flat 51 [.ms 14 1 0 gG.length]),(14,vL gG)]⟩
def Ec (b6 b7:aw) (gG:cf):LS:=⟨[aY 0,(2,bM u),aY 4,aY 6,aY 7,(18,bM g6),(19,bM O)],[(0,mV (fA f7)),(4,ij (cG Y)),(6,rj),(7,.flat 51 [.ms 14 1 0 gG.length]),(14,vL gG)]⟩
def afx (b6 b7:aw) (gG:cf):LS:=⟨[aY 6,aY 7],[(0,mV (fA f7)),(6,rj),(7,.flat 51 [.ms 14 1 0 gG.length]),(14,vL gG)]⟩
def avJ:LS:=⟨[aY 0,(1,.agg (cG Y)),(2,bM am)],(ta (fA f7))⟩
def adB (back:Int->Int->Int->Int->Int->aN->ae->aw->aw->cf->A (aw×aN)) (n:Nat) (ji t8 n9 t18 t19:Int) (b0:aN) (b4:ae) (b6 b7:aw) (gG:cf):A (aw×aN):=
 if U (0<n9) then
 (F50 n b4 t8).bind λx6=>(idx b4.ah t8).bind λdu=>(F49 n b0 x6 du.aH ji).bind λfN=>(F52 n b4 t8 fN.1).bind λgw=>(F51 n b4 (ad4 gG) t8 gw fN.1).bind λqb=>back ji t8 (aV (n9-1)) t18 t19 fN.2 b4 (ad4 []) (ad4 qb.2) qb.2
 else
 dN ji t18 t19 b0 b4 (ad4 []) (ad4 gG) gG
def aVG {aB} (aU:KK (GO (aI 971)) Ec aB) {back} (aK:KK (GO (aI 11467)) afy back) (n:Nat):KK (GO (aI 11467)) afy (adB aB back n):=λ_ _ _ _ _ _ _ _ _ _ r h=>ie h (λdy h=>be h λx6 jV h=>be h λ_ fB h=>be h λfN gU h=>be h λgw ld h=>be h λ_ tn h=>ra (aK h) [aW dy,(0,.ord [0,1,2,4,5,6,7,8,9,10,3,11,12]),(6,cy.idx fB),(3,uC (cd (e:=3) (z:=M) (Q:=dM x6) (arw n jV) (R3.len x6))),(0,.call (ev49 n gU) [(0,0)] [(39,bF)]),(1,jh.eB 39 fN.1),(0,.ord [0,1,2,3,4,5,7,6,8,9]),(7,uC (cd (e:=38) (z:=M) (Q:=db gw) (ahE n ld) (jh.len gw))),(0,.call (ev51 n tn) [(14,eZ)] [])]) λdy h=>ra (aU h) [aW dy]
def Qe (aB:asG):Nat->Int->Int->Int->Int->Int->aN->ae->aw->aw->cf->A (aw×aN)
 |0=>dw.z
 |n+1=>adB aB (Qe aB n) n
def aFD {aB} (aU:KK (GO (aI 971)) Ec aB):∀n:Nat,KK (GO (aI 11467)) afy (Qe aB n)
 |0=>KC.h
 |n+1=>aVG aU (aFD aU n) n
def adA (n:Nat) (ji t18 t19:Int) (b0:aN) (b4:ae) (b6 b7:aw) (gG:cf):A (aw×aN):=
 dN ji t18 (aV (t19+1)) b0 b4 (ad4 []) (ad4 gG) gG
def aVF {bh} (cL:KK (GO [0,1,0,1,1]) Ec bh) (n:Nat):KK (GO (aI 971)) Ec (adA bh n):=λ_ _ _ _ _ _ _ _ r h=>ra (cL h) []
def adz (br:Wf63) (back:asG) (n:Nat) (ji t18 t19:Int) (b0:aN) (b4:ae) (b6 b7:aw) (gG:cf):A (aw×aN):=
 if U (t19<t18) then
 (rf n b0 5).bind λx5=>Qe (adA back n) n ji t19 x5.1 t18 t19 x5.2 b4 (ad4 []) (ad4 gG) gG
 else
 br b0 (ad4 []) (ad4 gG) gG
def aVE {br} (cO:KK (GO [1,1,1]) afx br) {back} (aK:KK (GO [0,1,0,1,1]) Ec back) (n:Nat):KK (GO [0,1,0,1,1]) Ec (adz br back n):=λ_ _ _ _ _ _ _ _ r h=>ie h (λdy h=>be h λ_ iw h=>ra (aFD (aVF aK n) n h) [aD dy,(3,.call (oq n iw) [(0,0)] [])]) λdy h=>ra (cO h) [aD dy]
def K0 (br:Wf63):Nat->Int->Int->Int->aN->ae->aw->aw->cf->A (aw×aN)
 |0=>dw.z
 |n+1=>adz br (K0 br n) n
def aFC {br} (cO:KK (GO [1,1,1]) afx br):∀n:Nat,KK (GO [0,1,0,1,1]) Ec (K0 br n)
 |0=>KC.h
 |n+1=>aVE cO (aFC cO n) n
def Vh (n:Nat) (b0:aN) (b6 b7:aw) (gG:cf):A (aw×aN):=
 V ((ad4 gG),b0)
def aVD:KK (GO [1,1,1]) afx (Vh g):=λ_ _ _ gG r h=>rr h [(2,po.eB 14 gG)]
def auG:A (aw×aN):=
 (rh (Y.ah.length:Int) ([]:bn)).bind λx6=>K0 (Vh g) g am (Y.ah.length:Int) 0 f7 Y (ad4 []) (ad4 x6) x6
def aVC:KK (GO []) avJ (auG g):=λ_ _ _ r h=>be h λ_ jV h=>ra (aFC (aVD g) g h) [(5,po.made jV),(0,.seq 14 (bH (AV.ms 14 1 0) ((JK jV))))]
def F19:=auG
def ev19:KK (Cx E0 19 aEu awL) avJ (F19 g):=λ_ _ _ _ h=>ca (X:=lg) (aVC g h)
def x62:=fx E0 Tryz.f62 []
def A62:=Ax x62 cY bG
def aeO:LS:=⟨[(0,.slice 70 1 S.length (iM S)),(1,.slice 70 1 bm.length (iM bm)),(12,iI bi),(13,iI bQ)],[]⟩
def aeN:LS:=⟨[],[]⟩
def avt:LS:=⟨[(0,.slice 70 1 S.length (iM S)),(1,.slice 70 1 bm.length (iM bm))],[]⟩
def acL (back:bn->bn->Int->Int->A Bool) (n:Nat) (a0 b1:bn) (t12 t13:Int):A Bool:=
 if U (t13<t12) then
 (idx a0 t13).bind λx6=>(idx b1 t13).bind λdu=>(F27 n x6 du).bind λiK=>if iK !=0 then
 V B
 else
 back a0 b1 t12 (aV (t13+1))
 else
 bW
def aTY {aB} (aU:KK (A62 [1,1,1]) aeN aB) {back} (aK:KK (A62 [0,1,0,1,1]) aeO back) (n:Nat):KK (A62 [0,1,0,1,1]) aeO (acL aB back n):=λ_ _ _ _ r h=>ie h (λc0 h=>be h λ_ jV h=>be h λ_ fB h=>be h λ_ iO h=>let zA:SE:=[aD c0,(4,jW.idx jV),(3,jW.idx fB),qT (aCA n iO)];ie h (λc1 h=>bu h zA [aD c1]) λc1 h=>cC (aK h) zA [aD c1]) λc0 h=>ra (aU h) [aD c0]
def PY (aB:A Bool):Nat->bn->bn->Int->Int->A Bool
 |0=>dw.z
 |n+1=>acL aB (PY aB n) n
def aFa {aB} (aU:KK (A62 [1,1,1]) aeN aB):∀n:Nat,KK (A62 [0,1,0,1,1]) aeO (PY aB n)
 |0=>KC.h
 |n+1=>aTY aU (aFa aU n) n
def acK (n:Nat):A Bool:=
 V M
def aTX:KK (A62 [1,1,1]) aeN (acK g):=λr h=>rr h []
def auk:A Bool:=
 if (S.length:Int) !=(bm.length:Int) then
 V B
 else
 PY (acK g) g S bm (S.length:Int) 0
def aTW:KK (A62 []) avt (auk g):=λ_ _ r h=>ie h (λc0 h=>rr h [bS c0]) λc0 h=>ra (aFa (aTX g) g h) [bS c0]
def F62:=auk
def ev62:KK (Cx E0 62 cY bG) avt (F62 g):=λ_ _ _ h=>ca (X:=x62) (aTW g h)
def hY:=fx E0 Tryz.f23 []
def A23:=Ax hY cY bG
def afu:LS:=⟨[aY 2,aY 3,(15,bM u),(16,bM g6)],[(2,.flat 51 (vz W)),(3,.flat 51 (vz bv))]⟩
def aft:LS:=⟨[],[]⟩
def avH:LS:=⟨(GV (vz W) (vz bv)),[]⟩
def adw (back:Int->Int->aw->aw->A Bool) (n:Nat) (t15 t16:Int) (b2 b3:aw):A Bool:=
 if U (t16<t15) then
 (idx b2.ah t16).bind λx7=>(idx b3.ah t16).bind λdB=>(F62 n x7 dB).bind λfN=>if !fN then
 V B
 else
 back t15 (aV (t16+1)) b2 b3
 else
 bW
def aVx {aB} (aU:KK (A23 [1,1,1]) aft aB) {back} (aK:KK (A23 [0,1,0,1,1]) afu back) (n:Nat):KK (A23 [0,1,0,1,1]) afu (adw aB back n):=λ_ _ _ _ r h=>ie h (λc0 h=>be h λ_ iQ h=>be h λ_ fG h=>be h λ_ gU h=>let zA:SE:=[aD c0,(5,po.idx iQ),(4,po.idx fG),qT (ev62 n gU)];ie h (λc1 h=>bu h zA [aD c1]) λc1 h=>cC (aK h) zA [aD c1]) λc0 h=>ra (aU h) [aD c0]
def Qc (aB:A Bool):Nat->Int->Int->aw->aw->A Bool
 |0=>dw.z
 |n+1=>adw aB (Qc aB n) n
def aFz {aB} (aU:KK (A23 [1,1,1]) aft aB):∀n:Nat,KK (A23 [0,1,0,1,1]) afu (Qc aB n)
 |0=>KC.h
 |n+1=>aVx aU (aFz aU n) n
def adv (n:Nat):A Bool:=
 V M
def aVw:KK (A23 [1,1,1]) aft (adv g):=λr h=>rr h []
def auE:A Bool:=
 if (W.ah.length:Int) !=(bv.ah.length:Int) then
 V B
 else
 Qc (adv g) g (W.ah.length:Int) 0 W bv
def aVv:KK (A23 []) avH (auE g):=λ_ _ r h=>ie h (λc0 h=>rr h [Uf c0]) λc0 h=>ra (aFz (aVw g) g h) [Uf c0]
def F23:=auE
def ev23:KK (Cx E0 23 cY bG) avH (F23 g):=λ_ _ _ h=>ca (X:=hY) (aVv g h)
def oX:=fx E0 Tryz.f77 []
def A77:=Ax oX xk yA
def avn:LS:=⟨[(0,.slice 38 3 C.length (db C))],[]⟩
def aub (n:Nat) (lF:bp):A bp:=
 (app [] lF).bind λx3=>V x3
def aTx:KK (A77 []) avn (aub g):=λ_ r h=>be h λ_ eP h=>rr h [(2,.born [] [] 4 M 38 3),(0,jh.app (xs:= []) eP),(1,.ja 4 bF)]
def F77:=aub
def art:KK (Cx E0 77 xk yA) avn (F77 g):=λ_ _ h=>ca (X:=oX) (aTx g h)
def x87:=fx E0 Tryz.f87 []
def A87:=Ax x87 cY bG
def atT:A Bool:=
 (F67 g C g8).bind λx4=>V (x4==0)
def aTe:KK (A87 []) vG (atT g):=λ_ _ r h=>be h λ_ iB h=>rr h [ky (Na g iB)]
def F87:=atT
def Zs:KK (Cx E0 87 cY bG) vG (F87 g):=λ_ _ _ h=>ca (X:=x87) (aTe g h)
def x78:=fx E0 Tryz.f78 []
def A78:=Ax x78 cY bG
def aKD:LS:=⟨[(1,iI u),aY 3,aY 5,(8,.slice 38 3 C.length (db C)),(36,.agg (ayL dJ)),(37,iI cl)],[(3,ij (cG cn)),(5,y8 (kI co))]⟩
def SW:LS:=⟨[(1,bM u),aY 3,aY 5,(36,.agg (ayL dJ)),(37,bM cl)],[(3,ij (cG cn)),(5,y8 (kI co))]⟩
def aeD:LS:=⟨[aY 3,aY 5],[(3,ij (cG w)),(5,y8 (kI I))]⟩
def aKC:LS:=⟨[(1,bM u),aY 3,aY 5],[(3,ij (cG w)),(5,y8 (kI I))]⟩
def avm:LS:=⟨[(0,.agg (cG w)),(1,bM g6),(2,.agg (kI I))],[]⟩
def UT (aB:Wf64) (n:Nat) (dI:Int) (afU:bp) (t36:Hh) (t37:Int) (b3:ae) (b5:bB):A Bool:=
 if U (0<(afU.length:Int)) then
 (F66 n b3 b5.av afU dI).bind λeW=>if !eW then
 V B
 else
 aB dI t36 (aV (t37+1)) b3 b5
 else
 aB dI t36 (aV (t37+1)) b3 b5
def aGV {aB} (aU:KK (A78 [0,1,0,1,1]) SW aB) (n:Nat):KK (A78 (aI 3275)) aKD (UT aB n):=λ_ _ _ _ _ _ r h=>ie h (λc0 h=>be h λ_ iF h=>let zA:SE:=[aQ c0,ze (aCw n iF)];ie h (λc1 h=>bu h zA [aD c1]) λc1 h=>cC (aU h) zA [aD c1]) λc0 h=>ra (aU h) [aQ c0]
def US (bh:aHk) (back:Wf64) (n:Nat) (dI:Int) (t36:Hh) (t37:Int) (b3:ae) (b5:bB):A Bool:=
 if U (t37<2) then
 if t37==0 then
 UT back n dI t36.f0 t36 0 b3 b5
 else
 if t37==1 then
 UT back n dI t36.f1 t36 1 b3 b5
 else
 G
 else
 bh b3 b5
def aTw {bh} (cL:KK (A78 [1,1,1]) aeD bh) {back} (aK:KK (A78 [0,1,0,1,1]) SW back) (n:Nat):KK (A78 [0,1,0,1,1]) SW (US bh back n):=λ_ _ _ _ _ r h=>ie h (λc0 h=>ie h (λc1 bE=>by have c1:=eq_of_beq c1;subst c1;exact (
 ra (aGV aK n bE) [])) λc1 h=>ie h (λCb bE=>by have Cb:=eq_of_beq Cb;subst Cb;exact (
 ra (aGV aK n bE) [])) λCb h=>nz h) λc0 h=>ra (cL h) [aD c0]
def PV (bh:aHk):Nat->Int->Hh->Int->ae->bB->A Bool
 |0=>dw.z
 |n+1=>US bh (PV bh n) n
def aET {bh} (cL:KK (A78 [1,1,1]) aeD bh):∀n:Nat,KK (A78 [0,1,0,1,1]) SW (PV bh n)
 |0=>KC.h
 |n+1=>aTw cL (aET cL n) n
def aua:A Bool:=
 if (I.dS.length:Int)==0 then
 V M
 else
 if (I.dP.length:Int)==0 then
 V M
 else
 (F68 g w I.av I.dS).bind λiZ=>(F68 g w I.av I.dP).bind λLR=>(F87 g iZ LR).bind λvk=>V vk
def aTv:KK (A78 [1,1,1]) aeD (aua g):=λ_ _ r h=>let zA:SE:=[(0,.ord [0,1,2,3,4,5,6,7,8,9,10,11,12,13,14,15,17,18,19,20,21,16,22,23,24,25])];ie h (λc0 h=>bu h zA [aX c0]) λc0 h=>ie h (λc1 h=>bu h zA [aX c0,bl c1]) λc1 h=>be h λ_ iW h=>be h λ_ EC h=>be h λ_ tY h=>bu h zA [aX c0,bl c1,(12,uC (RP g iW)),jM (RP g EC),jM (Zs g tY)]
def UR:A Bool:=
 PV (aua g) g u (Hh.mk I.dS I.dP) 0 w I
def aGU:KK (A78 [1,1]) aKC (UR g):=λ_ _ _ r h=>ra (aET (aTv g) g h) []
def atZ:A Bool:=
 if U (I.av<0) then
 V B
 else
 if !U (I.av<(w.ah.length:Int)) then
 V B
 else
 if (I.dS.length:Int)==0 then
 if (I.dP.length:Int)==0 then
 V B
 else
 UR g g6 w I
 else
 UR g g6 w I
def aTu:KK (A78 []) avm (atZ g):=λ_ _ _ r h=>ie h (λc0 h=>rr h [bS c0]) λc0 h=>ie h (λc1 h=>rr h [bS c0,dm c1]) λc1 h=>let zA:SE:=[bS c0,dm c1];ie h (λCb h=>ie h (λc3 h=>bu h zA [bS Cb,bl c3]) λc3 h=>cC (aGU g h) zA [bS Cb,bl c3]) λCb h=>cC (aGU g h) zA [bS Cb]
def F78:=atZ
def ev78:KK (Cx E0 78 cY bG) avm (F78 g):=λ_ _ _ _ h=>ca (X:=x78) (aTu g h)
def x88:=fx E0 Tryz.f88 []
def A88:=Ax x88 abt bG
def avh:LS:=⟨(GV (cG w) (kI I)),[]⟩
def atQ:A bp:=
 if U (0<(I.dS.length:Int)) then
 (F68 g w I.av I.dS).bind λdB=>V dB
 else
 (F68 g w I.av I.dP).bind λdB=>V dB
def aTd:KK (A88 []) avh (atQ g):=λ_ _ r h=>ie h (λc0 h=>be h λdB fG h=>rr h [dm c0,mh (RP g fG)]) λc0 h=>be h λdB fG h=>rr h [dm c0,mh (RP g fG)]
def F88:=atQ
def ahD:KK (Cx E0 88 abt bG) avh (F88 g):=λ_ _ _ h=>ca (X:=x88) (aTd g h)
def awe:AV:=.int .i64 ek.1
def anm:List (Nat×Bx):= [(2,ij (cG ek.2.1)),(3,y8 (kI ek.2.2))]
def x130:=fx E0 Tryz.f130 [2,3]
def A130:=Ax x130 awe anm
def amA:LS:=⟨[(0,.slice 38 3 C.length (db C)),(1,.slice 38 3 g8.length (db g8)),aY 2,aY 3],[(2,ij (cG H)),(3,y8 (kI I))]⟩
def akY:A (Int×ae×bB):=
 (F68 g H I.av C).bind λx6=>(F67 g x6 g8).bind λx9=>V (x9,H,I)
def aOZ:KK (A130 []) amA (akY g):=λ_ _ _ _ r h=>be h λ_ jV h=>be h λ_ iq h=>rr h [mh (RP g jV),qT (Na g iq)]
def ajy:=akY
def aGx:KK (Cx E0 130 awe anm) amA (ajy g):=λ_ _ _ _ _ h=>ca (X:=x130) (aOZ g h)
def awf:AV:=.dq [bM eo.1,.bool eo.2.1]
def ann:List (Nat×Bx):= [(lq,ij (cG eo.2.2.1)),(zd,y8 (kI eo.2.2.2))]
def x129:=fx E0 Tryz.f129 [lq,zd]
def St:=Ax x129 awf ann
def Ys:LS:=⟨[(0,.slice 70 1 S.length (iM S)),(1,.slice 38 3 g8.length (db g8)),(2,.fn 130 [] [.loc lq 0,.loc zd 0]),(8,iI f8),(9,iI ac),(10,iI am)],[(lq,ij (cG bz)),(zd,y8 (kI co))]⟩
def Yr:LS:=⟨[(0,.slice 70 1 S.length (iM S)),(1,.slice 38 3 g8.length (db g8)),(2,.fn 130 [] [.loc lq 0,.loc zd 0]),(8,iI f8),(9,iI ac)],[(lq,ij (cG Y)),(zd,y8 (kI bb))]⟩
def amB:LS:=⟨[(0,.slice 70 1 S.length (iM S)),(1,.slice 38 3 g8.length (db g8)),(2,.fn 130 [] [.loc lq 0,.loc zd 0])],[(lq,ij (cG H)),(zd,y8 (kI I))]⟩
def Wq (aB:Wf65) (back:bn->bp->Int->Int->Int->ae->bB->A (Int×Bool×ae×bB)) (n:Nat) (x0:bn) (mG:bp) (n8 i9 j10:Int) (gJ:ae) (wQ:bB):A (Int×Bool×ae×bB):=
 if U (i9<j10) then
 (idx x0 (aV ((Int.fdiv (IntKind.wrap .u64 (aV (i9+j10))) 2)))).bind λiK=>(ajy n iK mG gJ wQ).bind λgS=>if U (gS.1<0) then
 back x0 mG n8 (aV ((aV ((Int.fdiv (IntKind.wrap .u64 (aV (i9+j10))) 2)))+1)) j10 gS.2.1 gS.2.2
 else
 back x0 mG n8 i9 (aV ((Int.fdiv (IntKind.wrap .u64 (aV (i9+j10))) 2))) gS.2.1 gS.2.2
 else
 aB x0 mG n8 i9 gJ wQ
def aPc {aB} (aU:KK (St [1,1,1,1]) Yr aB) {back} (aK:KK (St [0,0,1,1,1]) Ys back) (n:Nat):KK (St [0,0,1,1,1]) Ys (Wq aB back n):=λ_ _ _ _ _ _ _ r h=>ie h (λc0 h=>be h λ_ iO h=>be h λ_ jl h=>let zA:SE:=[aQ c0,(10,jW.idx iO),(2,.call (aGx n jl) [(lq,2),(zd,3)] [])];ie h (λc1 h=>cC (aK h) zA [aD c1]) λc1 h=>cC (aK h) zA [aD c1]) λc0 h=>ra (aU h) [aQ c0]
def I7 (aB:Wf65):Nat->bn->bp->Int->Int->Int->ae->bB->A (Int×Bool×ae×bB)
 |0=>dw.z
 |n+1=>Wq aB (I7 aB n) n
def ayf {aB} (aU:KK (St [1,1,1,1]) Yr aB):∀n:Nat,KK (St [0,0,1,1,1]) Ys (I7 aB n)
 |0=>KC.h
 |n+1=>aPc aU (ayf aU n) n
def N8:A (Int×Bool×ae×bB):=
 if U (ac<f8) then
 (idx S ac).bind λx9=>(ajy g x9 g8 Y bb).bind λdB=>V (ac,dB.1==0,dB.2.1,dB.2.2)
 else
 V (ac,B,Y,bb)
def aPb:KK (St [1,1,1,1]) Yr (N8 g):=λ_ _ _ _ _ _ r h=>ie h (λc0 h=>be h λ_ iq h=>be h λ_ fG h=>rr h [aX c0,(4,jW.idx iq),(2,.call (aGx g fG) [(lq,2),(zd,3)] [])]) λc0 h=>rr h [aX c0]
def akZ:A (Int×Bool×ae×bB):=
 I7 (N8 g) g S g8 (S.length:Int) 0 (S.length:Int) H I
def aPa:KK (St []) amB (akZ g):=λ_ _ _ _ r h=>ra (ayf (aPb g) g h) []
def atw:=akZ
def aSj:KK (Cx E0 129 awf ann) amB (atw g):=λ_ _ _ _ _ h=>ca (X:=x129) (aPa g h)
def aEg (r:(bn×Bool)):AV:=.dq [.slice 70 1 r.1.length (iM r.1),.bool r.2]
def x79:=fx E0 Tryz.f79 []
def A79:=Ax x79 aEg bG
def aKB:LS:=⟨[(10,.slice 70 1 S.length (iM S)),(11,.sy 70 1 bm.length (iM bm))],[]⟩
def aKA:LS:=⟨[aY 5,(10,.slf 70 1 S.length (iM S)),(11,.sy 70 1 bm.length (iM bm))],[(5,y8 (kI bb))]⟩
def aKz:LS:=⟨[(1,.slice 70 1 S.length (iM S)),aY 5,(8,iI f8),(9,.bool bc)],[(5,y8 (kI bb))]⟩
def avl:LS:=⟨[(0,.agg (cG w)),(1,.slice 70 1 S.length (iM S)),(2,.agg (kI I))],[]⟩
def UQ (n:Nat) (uF vF:bn):A (bn×Bool):=
 (Hb uF (uF.length:Int) (uF.length:Int)).bind λx6=>if vF.isEmpty then
 V (x6,M)
 else
 (app x6 vF).bind λx9=>V (x9,M)
def aGT:KK (A79 (aI 127)) aKB (UQ g):=λ_ _ r h=>be h λ_ jV h=>ie h (λc0 h=>rr h [(5,jW.Hb jV),(1,jW.aVX (List.isEmpty_iff.1 c0)),(2,.qc 6 (.sl 0 0 0 0 []))]) λc0 h=>be h λx9 iq h=>rr h [(5,jW.Hb jV),(1,jW.appF iq (List.isEmpty_eq_false_iff.1 c0)),(2,jW.eB 69 x9),(0,.qc 6 (.sl 0 0 0 0 []))]
def UP:A (bn×Bool):=
 if U (0<(bb.dP.length:Int)) then
 (F77 g bb.dP).bind λx8=>(app S [x8]).bind λdu=>UQ g du bm
 else
 UQ g S bm
def aGS:KK (A79 [1,1,1,1,1]) aKA (UP g):=λ_ _ _ r h=>ie h (λc0 h=>be h λx8 lj h=>be h λdu fB h=>ra (aGT g h) [aX c0,(3,.call (art g lj) [] [(59,bF)]),(0,jh.eB 59 x8),(0,.qc 59 (.sl 0 0 0 0 [])),(1,jW.aVW fB (List.cons_ne_nil _ _)),(1,jW.eB 61 du)]) λc0 h=>ra (aGT g h) [aX c0]
def UO:A (bn×Bool):=
 (Hb S f8 f8).bind λx4=>(cut S (V f8) G).bind λx8=>if bc then
 (cut S (V (aV (f8+1))) G).bind λfN=>UP g x4 fN bb
 else
 UP g x4 x8 bb
def aGR:KK (A79 [1,1,1]) aKz (UO g):=λ_ _ _ _ r h=>be h λ_ iB h=>be h λ_ lj h=>let zA:SE:=[(3,jW.Hb iB),(2,jW.cut lj)];ie h (λc0 bE=>by subst c0;exact (be bE λfN gU bE=>cC (aGS g bE) zA [(6,jW.cut gU)])) λc0 bE=>by subst c0;exact (ra (aGS g bE) zA)
def atY:A (bn×Bool):=
 (F88 g w I).bind λx8=>(atw g S x8 w I).bind λdu=>if !(du.2.1==(U (0<(du.2.2.2.dS.length:Int)))) then
 V ([],B)
 else
 if du.2.1 then
 if !(M==(U (0<(du.2.2.2.dS.length:Int)))) then
 V ([],B)
 else
 (idx S du.1).bind λx29=>(F87 g x29 du.2.2.2.dS).bind λLp=>if !Lp then
 V ([],B)
 else
 UO g S du.1 M du.2.2.2
 else
 if !(B==(U (0<(du.2.2.2.dS.length:Int)))) then
 V ([],B)
 else
 UO g S du.1 B du.2.2.2
def aTt:KK (A79 []) avl (atY g):=λ_ _ _ r h=>be h λ_ lj h=>be h λ_ fB h=>let zA:SE:=[vt (ahD g lj),(1,.call (aSj g fB) [(3,lq),(5,zd)] [])];ie h (λc0 h=>bu h zA [(10,eb c0),(4,.qc 6 (.sl 0 70 1 0 []))]) λc0 h=>ie h (λc1 h=>ie h (λCb h=>bu h zA [aQ c1,il Cb,(4,.qc 6 (.sl 0 70 1 0 []))]) λCb h=>be h λ_ Kc h=>be h λ_ MM h=>let zB:SE:=dv zA [aQ c1,il Cb,(5,jW.idx Kc),ky (Zs g MM)];ie h (λc3 h=>bu h zB [aD c3,(4,.qc 6 (.sl 0 70 1 0 []))]) λc3 h=>cC (aGR g h) zB [aD c3]) λc1 h=>ie h (λCb h=>bu h zA [aQ c1,il Cb,(4,.qc 6 (.sl 0 70 1 0 []))]) λCb h=>cC (aGR g h) zA [aQ c1,il Cb]
def F79:=atY
def ev79:KK (Cx E0 79 aEg bG) avl (F79 g):=λ_ _ _ _ h=>ca (X:=x79) (aTt g h)
def x32:=fx E0 Tryz.f32 []
def yS:=Ax x32 abx bG
def afn (b8 fj:aw) (cm:cf):LS:=⟨[(1,iI u),(3,.slice 156 3 D.length (nH D)),aY 4,aY 8,aY 11,(12,iI O),(35,.slice 68 1 aZ.length (pH aZ)),(36,iI bd),(37,iI bi),(42,.slice 70 1 cu.length (iM cu)),(43,iI bN),(44,iI cv)],[(4,ij (cG bP)),(8,rj),(11,Ek cm.length),(32,Y2 cm)]⟩
def D9 (b8 fj:aw) (cm:cf):LS:=⟨[(1,iI u),(3,.slice 156 3 D.length (nH D)),aY 4,aY 8,aY 11,(35,.slice 68 1 aZ.length (pH aZ)),(36,iI bd),(37,iI bi)],[(4,ij (cG bz)),(8,rj),(11,Ek cm.length),(32,Y2 cm)]⟩
def afm (b8 fj:aw) (cm:cf):LS:=⟨[(1,iI u),aY 4,aY 8,aY 11,(16,iI g6),(65,.slice 156 3 D.length (nH D)),(66,iI O),(67,iI E)],[(4,ij (cG H)),(8,rj),(11,Ek cm.length),(32,vL cm)]⟩
def afl (b8 fj:aw) (cm:cf):LS:=⟨[aY 8,(11,Mk)],[(8,rj),(11,Ek cm.length),(32,vL cm)]⟩
def afk (b8 fj:aw) (cm:cf):LS:=⟨[(1,iI u),(3,.slice 156 3 D.length (nH D)),aY 4,aY 8,aY 11],[(4,ij (cG H)),(8,rj),(11,Ek cm.length),(32,Y2 cm)]⟩
def avE:LS:=⟨[(0,.agg (cG w)),(1,iI g6),(2,.agg (vz W)),(3,.slice 156 3 aq.length (nH aq))],[]⟩
def adq (back:Int->bC->Int->cf->Int->Int->bn->Int->Int->ae->aw->aw->cf->A (aw×Int)) (n:Nat) (dI:Int) (iG:bC) (t12:Int) (t35:cf) (t36 t37:Int) (t42:bn) (t43 t44:Int) (b4:ae) (b8 fj:aw) (cm:cf):A (aw×Int):=
 if U (t44<t43) then
 (idx t42 t44).bind λx2=>(eh cm.length t12).bind λx5=>(cm[0+x5]?).bind λu7=>(F77 n x2).bind λgS=>(app u7 [gS]).bind λmX=>(setAt cm (0+x5) mX).bind λz27=>back dI iG t12 t35 t36 t37 t42 t43 (aV (t44+1)) b4 (ad4 []) (ad4 z27) z27
 else
 dQ dI iG t35 t36 t37 b4 (ad4 []) (ad4 cm) cm
def aVj {aB} (aU:KK (yS (aI 1943)) D9 aB) {back} (aK:KK (yS (aI 22935)) afn back) (n:Nat):KK (yS (aI 22935)) afn (adq aB back n):=λ_ _ _ _ _ _ _ _ _ _ _ _ _ r h=>ie h (λc0 h=>be h λ_ dg h=>be h λ_ iw h=>be h λu7 MO h=>be h λgS jl h=>be h λmX py h=>be h λ_ hz27 h=>ra (aK h) [aD c0,(0,jW.idx dg),(2,po.oC jW 32 800320 0 B 70 1 u7 MO [.undef]),(6,de iw),(2,uC (iA.res (.sl 0 38 3 0 []) (cd (e:=38) (z:=M) (Q:=db gS) (art n jl) (jh.len gS)))),(1,jW.jU py),(0,de iw),(0,po.zi 0 [.undef] [.undef] MO),(2,po.iN jW (r:= [.undef]) 32 800320 0 B 70 1 mX hz27),(0,.beq 11 (bH (Ek) (eG hz27)))]) λc0 h=>ra (aU h) [aD c0]
def P9 (aB:asF):Nat->Int->bC->Int->cf->Int->Int->bn->Int->Int->ae->aw->aw->cf->A (aw×Int)
 |0=>dw.z
 |n+1=>adq aB (P9 aB n) n
def aFu {aB} (aU:KK (yS (aI 1943)) D9 aB):∀n:Nat,KK (yS (aI 22935)) afn (P9 aB n)
 |0=>KC.h
 |n+1=>aVj aU (aFu aU n) n
def adp (n:Nat) (dI:Int) (iG:bC) (t35:cf) (t36 t37:Int) (b4:ae) (b8 fj:aw) (cm:cf):A (aw×Int):=
 dQ dI iG t35 t36 (aV (t37+1)) b4 (ad4 []) (ad4 cm) cm
def aVi {bh} (cL:KK (yS (aI 87)) D9 bh) (n:Nat):KK (yS (aI 1943)) D9 (adp bh n):=λ_ _ _ _ _ _ _ _ _ r h=>ra (cL h) []
def ado (eA:Wf67) (back:asF) (n:Nat) (dI:Int) (iG:bC) (t35:cf) (t36 t37:Int) (b4:ae) (b8 fj:aw) (cm:cf):A (aw×Int):=
 if U (t37<t36) then
 (idx t35 t37).bind λx3=>P9 (adp back n) n dI iG t37 t35 t36 t37 x3 (x3.length:Int) 0 b4 (ad4 []) (ad4 cm) cm
 else
 eA dI iG b4 (ad4 []) (ad4 cm) cm
def aVh {eA} (gV:KK (yS [1,1,1,1]) afk eA) {back} (aK:KK (yS (aI 87)) D9 back) (n:Nat):KK (yS (aI 87)) D9 (ado eA back n):=λ_ _ _ _ _ _ _ _ _ r h=>ie h (λc0 h=>be h λ_ eP h=>ra (aFu (aVi aK n) n h) [aD c0,(1,po.idx eP)]) λc0 h=>ra (gV h) [aD c0]
def KY (eA:Wf67):Nat->Int->bC->cf->Int->Int->ae->aw->aw->cf->A (aw×Int)
 |0=>dw.z
 |n+1=>ado eA (KY eA n) n
def aFt {eA} (gV:KK (yS [1,1,1,1]) afk eA):∀n:Nat,KK (yS (aI 87)) D9 (KY eA n)
 |0=>KC.h
 |n+1=>aVh gV (aFt gV n) n
def adn (back:Int->Int->bC->Int->Int->ae->aw->aw->cf->A (aw×Int)) (n:Nat) (dI Pw:Int) (t65:bC) (t66 t67:Int) (b4:ae) (b8 fj:aw) (cm:cf):A (aw×Int):=
 if U (t67<t66) then
 (idx t65 t67).bind λx2=>(F78 n b4 dI x2).bind λeW=>if !eW then
 V ((ad4 []),71)
 else
 (eh cm.length x2.av).bind λgS=>(cm[0+gS]?).bind λlM=>(F79 n b4 lM x2).bind λhY=>if !hY.2 then
 V ((ad4 []),81)
 else
 (eh cm.length x2.av).bind λtF=>(cm[0+tF]?).bind λCM=>if U (512<(aV (Pw+(aV ((hY.1.length:Int)-(CM.length:Int)))))) then
 V ((ad4 []),2)
 else
 (eh cm.length x2.av).bind λFC=>(cm[0+FC]?).bind λx56=>(setAt cm (0+FC) hY.1).bind λz57=>back dI (aV (Pw+(aV ((hY.1.length:Int)-(CM.length:Int))))) t65 t66 (aV (t67+1)) b4 (ad4 []) (ad4 z57) z57
 else
 dD (ad4 []) (ad4 cm) cm
def aVg {cV} (eX:KK (yS (aI 127)) afl cV) {back} (aK:KK (yS (aI 351)) afm back) (n:Nat):KK (yS (aI 351)) afm (adn cV back n):=λ_ _ _ _ _ _ _ _ _ r h=>ie h (λc0 h=>be h λ_ dg h=>be h λ_ iF h=>let zA:SE:=[aD c0,(0,qa.idx dg),ze (ev78 n iF)];ie h (λc1 h=>bu h zA [aD c1,(3,.nQ 8 (.flat 0 [.sl 0 68 1 0 []]))]) λc1 h=>be h λ_ jl h=>be h λ_ j5 h=>be h λhY oj h=>let zB:SE:=dv zA [aD c1,(5,de jl),(0,po.row j5),qT (ev79 n oj)];ie h (λc2 h=>bu h zB [dm c2,(3,.nQ 8 (.flat 0 [.sl 0 68 1 0 []]))]) λc2 h=>be h λ_ AK h=>be h λ_ Ka h=>let zC:SE:=dv zB [dm c2,(7,de AK),(0,po.row Ka)];ie h (λc3 h=>bu h zC [bS c3,(3,.nQ 8 (.flat 0 [.sl 0 68 1 0 []]))]) λc3 h=>be h λ_ ahg h=>be h λ_ aBN h=>be h λ_ hz57 h=>cC (aK h) zC [bS c3,(5,de ahg),(0,po.ur 0 [.slice 70 1 hY.1.length (iM hY.1)] aBN hz57),(2,.beq 11 (bH (Ek) (eG hz57)))]) λc0 h=>ra (eX h) [aD c0]
def P8 (cV:asH):Nat->Int->Int->bC->Int->Int->ae->aw->aw->cf->A (aw×Int)
 |0=>dw.z
 |n+1=>adn cV (P8 cV n) n
def aFs {cV} (eX:KK (yS (aI 127)) afl cV):∀n:Nat,KK (yS (aI 351)) afm (P8 cV n)
 |0=>KC.h
 |n+1=>aVg eX (aFs eX n) n
def adm (n:Nat) (b8 fj:aw) (cm:cf):A (aw×Int):=
 V ((ad4 cm),0)
def aVf:KK (yS (aI 127)) afl (adm g):=λ_ _ cm r h=>rr h [(3,po.eB 32 cm)]
def QB (b8 fj:aw) (cm:cf):A (aw×Int):=
 (F65 g (ad4 cm)).bind λx2=>P8 (adm g) g u x2 D (D.length:Int) 0 H (ad4 []) (ad4 cm) cm
def aVe:KK (yS [1,1,1,1]) afk (QB g):=λ_ _ _ _ _ cm r h=>be h λ_ dg h=>ra (aFs (aVf g) g h) [(0,.thw 32),(1,.zw (ev65 g dg) [po.eB 32 cm] trivial [] [])]
def auC:A (aw×Int):=
 (F26 g w g6 W).bind λx8=>if x8 !=0 then
 V ((ad4 []),x8)
 else
 (rh (W.ah.length:Int) ([]:bn)).bind λfN=>KY (QB g) g g6 aq W.ah (W.ah.length:Int) 0 w (ad4 []) (ad4 fN) fN
def aVd:KK (yS []) avE (auC g):=λ_ _ _ _ r h=>be h λ_ lj h=>ie h (λc0 h=>rr h [vt (aCB g lj),aQ c0,(4,.nQ 8 (.flat 0 [.sl 0 68 1 0 []]))]) λc0 h=>be h λ_ gU h=>ra (aFt (aVe g) g h) [vt (aCB g lj),aQ c0,(3,po.made gU [.o B [.d]]),(0,.seq 32 (bH (AV.ms 32 1 0) ((JK gU))))]
def F32:=auC
def ev32:KK (Cx E0 32 abx bG) avE (F32 g):=λ_ _ _ _ _ h=>ca (X:=x32) (aVd g h)
def awh:AV:=.int .i64 ej.1
def anp:List (Nat×Bx):= [(eZ,vL ej.2)]
def x117:=fx E0 Tryz.f117 [eZ]
def Sx:=Ax x117 awh anp
def YA:LS:=⟨[(2,iI u),(3,.slice 38 3 C.length (db C)),aY 4,(31,.slice 70 1 S.length (iM S)),(32,iI f8),(33,iI ac)],[(4,ij (cG bz)),(eZ,vL aZ)]⟩
def Yz:LS:=⟨[],[(eZ,vL aZ)]⟩
def OW:LS:=⟨[(0,.agg (cG w)),(1,.agg [tQ eZ W.ah.length]),(2,iI f8),(3,.slice 38 3 al.length (db al))],[(eZ,aAW W)]⟩
def Wt (aB:cf->A (Int×cf)) (back:Int->bp->bn->Int->Int->cf->ae->A (Int×cf)) (n:Nat) (fJ:Int) (mr:bp) (t31:bn) (t32 t33:Int) (dH:cf) (b4:ae):A (Int×cf):=
 if U (t33<t32) then
 (idx t31 t33).bind λx3=>(F52 n b4 fJ x3).bind λdu=>(F27 n du mr).bind λiK=>if iK==0 then
 V (t33,dH)
 else
 back fJ mr t31 t32 (aV (t33+1)) dH b4
 else
 aB dH
def aPs {aB} (aU:KK (Sx [1,1,1]) Yz aB) {back} (aK:KK (Sx [0,1,0,1,1]) YA back) (n:Nat):KK (Sx [0,1,0,1,1]) YA (Wt aB back n):=λ_ _ _ _ _ _ _ r h=>ie h (λc0 h=>be h λ_ eP h=>be h λdu fB h=>be h λ_ iO h=>let zA:SE:=[aD c0,(1,jW.idx eP),(6,.call (ahE n fB) [] [(41,bF)]),(1,jh.eB 41 du),jM (aCA n iO)];ie h (λc1 h=>bu h zA [aD c1]) λc1 h=>cC (aK h) zA [aD c1]) λc0 h=>ra (aU h) [aD c0]
def I8 (aB:cf->A (Int×cf)):Nat->Int->bp->bn->Int->Int->cf->ae->A (Int×cf)
 |0=>dw.z
 |n+1=>Wt aB (I8 aB n) n
def ayk {aB} (aU:KK (Sx [1,1,1]) Yz aB):∀n:Nat,KK (Sx [0,1,0,1,1]) YA (I8 aB n)
 |0=>KC.h
 |n+1=>aPs aU (ayk aU n) n
def Ws (n:Nat) (dH:cf):A (Int×cf):=
 V ((-1),dH)
def aPr:KK (Sx [1,1,1]) Yz (Ws g):=λ_ r h=>rr h []
def ala:A (Int×cf):=
 if U (f8<0) then
 V ((-1),W.ah)
 else
 if !U (f8<(w.ah.length:Int)) then
 V ((-1),W.ah)
 else
 if !U (f8<(W.ah.length:Int)) then
 V ((-1),W.ah)
 else
 (eh W.ah.length f8).bind λhY=>(W.ah[0+hY]?).bind λgw=>I8 (Ws g) g f8 al gw (gw.length:Int) 0 W.ah w
def aPq:KK (Sx []) OW (ala g):=λ_ _ _ _ r h=>ie h (λc0 h=>rr h [bl c0]) λc0 h=>ie h (λc1 h=>rr h [bl c0,bS c1]) λc1 h=>ie h (λc2 h=>rr h [bl c0,bS c1,dm c2]) λc2 h=>be h λ_ oj h=>be h λ_ ld h=>ra (ayk (aPr g) g h) [bl c0,bS c1,dm c2,(4,de oj),(0,po.row ld)]
def atx:=ala
def aSo:KK (Cx E0 117 awh anp) OW (atx g):=λ_ _ _ _ _ h=>ca (X:=x117) (aPq g h)
def aEi:AV:=.dq [.ms bF 3 0 ea.1.length,.bool ea.2.1]
def awB:List (Nat×Bx):= [(eZ,vL ea.2.2),(bF,Cu ea.1)]
def x71:=fx E0 Tryz.f71 [eZ]
def A71:=Ax x71 aEi awB
def aue:A (bp×Bool×cf):=
 (atx g w W f8 al).bind λx9=>(iP x9.2.length W.ah.length).bind λw10=>if U (x9.1<0) then
 V ([],B,x9.2)
 else
 (eh W.ah.length f8).bind λgS=>(x9.2[0+gS]?).bind λlM=>(idx lM x9.1).bind λhY=>(NM g hY).bind λvk=>V (vk,M,x9.2)
def aTH:KK (A71 []) OW (aue g):=λ_ _ _ _ r h=>be h λ_ iq h=>be h λ_ hw10 h=>let zA:SE:=[(8,.call (aSo g iq) [(eZ,eZ)] [])];ie h (λc0 h=>bu h zA [aQ c0,(2,.born [8] [] bF M 38 3)]) λc0 h=>be h λ_ jl h=>be h λ_ j5 h=>be h λ_ oj h=>be h λ_ tY h=>bu h zA [aQ c0,(3,de jl),(0,po.row j5),(1,jW.idx oj),(1,.call (Ub g tY) [] [(26,bF)]),(2,.ja 26 bF)]
def F71:=aue
def ev71:KK (Cx E0 71 aEi awB) OW (F71 g):=λ_ _ _ _ _ h=>ca (X:=x71) (aTH g h)
def aEf:AV:=.agg [tQ 201000 W.ah.length]
def awA:List (Nat×Bx):= [(201000,aAW W)]
def x80:=fx E0 Tryz.f80 []
def GH:=Ax x80 aEf awA
def aeC (b2 b3:aw) (l9:bn) (cm:cf):LS:=⟨[aY 2,aY 3,(6,.ms 26 1 0 l9.length),(10,.slice 68 1 aZ.length (pH aZ)),(11,iI bd),(12,iI bi),(16,.slice 70 1 cu.length (iM cu)),(17,iI bN),(18,iI cv)],[(2,rj),(3,Ek cm.length),(26,xN l9),(32,aqh cm)]⟩
def aeB (b2 b3:aw) (l9:bn) (cm:cf):LS:=⟨[aY 2,aY 3,(6,.ms 26 1 0 l9.length),(10,.slice 68 1 aZ.length (pH aZ)),(11,iI bd),(12,iI bi)],[(2,rj),(3,Ek cm.length),(26,xN l9),(32,aqh cm)]⟩
def SU (b2 b3:aw) (cm:cf):LS:=⟨[aY 2,aY 3,(10,.slice 68 1 aZ.length (pH aZ)),(11,iI bd),(12,iI bi)],[(2,rj),(3,Ek cm.length),(32,aqh cm)]⟩
def aeA (b2 b3:aw) (cm:cf):LS:=⟨aqm,[(2,rj),(3,Ek cm.length),(32,aqh cm)]⟩
def acG (aB:Wf68) (back:cf->Int->Int->bn->Int->Int->aw->aw->bn->cf->A aw) (n:Nat) (t10:cf) (t11 t12:Int) (t16:bn) (t17 t18:Int) (b2 b3:aw) (l9:bn) (cm:cf):A aw:=
 if U (t18<t17) then
 (idx t16 t18).bind λx2=>(NM n x2).bind λx8=>(app l9 [x8]).bind λdu=>back t10 t11 t12 t16 t17 (aV (t18+1)) (ad4 []) (ad4 cm) du cm
 else
 aB t10 t11 t12 (ad4 []) (ad4 cm) l9 cm
def aTs {aB} (aU:KK (GH (aI 15563)) aeB aB) {back} (aK:KK (GH (aI 44235)) aeC back) (n:Nat):KK (GH (aI 44235)) aeC (acG aB back n):=λ_ _ _ _ _ _ _ _ _ _ r h=>ie h (λc0 h=>be h λ_ dg h=>be h λx8 lj h=>be h λ_ fB h=>ra (aK h) [aD c0,(0,jW.idx dg),(4,.call (Ub n lj) [] [(24,bF)]),(0,jh.eB 24 x8),(0,.qc 24 (.sl 0 0 0 0 [])),(1,jW.jU fB)]) λc0 h=>ra (aU h) [aD c0]
def PU (aB:Wf68):Nat->cf->Int->Int->bn->Int->Int->aw->aw->bn->cf->A aw
 |0=>dw.z
 |n+1=>acG aB (PU aB n) n
def aES {aB} (aU:KK (GH (aI 15563)) aeB aB):∀n:Nat,KK (GH (aI 44235)) aeC (PU aB n)
 |0=>KC.h
 |n+1=>aTs aU (aES aU n) n
def acF (bh:Wf69) (n:Nat) (t10:cf) (t11 t12:Int) (b2 b3:aw) (l9:bn) (cm:cf):A aw:=
 (app cm [l9]).bind λx5=>bh t10 t11 (aV (t12+1)) (ad4 []) (ad4 x5) x5
def aTr {bh} (cL:KK (GH [0,1,0,1,1]) SU bh) (n:Nat):KK (GH (aI 15563)) aeB (acF bh n):=λ_ _ _ _ _ l9 _ r h=>be h λ_ iw h=>ra (cL h) [(3,jW.eB 26 l9),(0,.qc 30 (.sl 0 0 0 0 [])),(1,po.jU iw)]
def acE (br:Wf70) (back:Wf69) (n:Nat) (t10:cf) (t11 t12:Int) (b2 b3:aw) (cm:cf):A aw:=
 if U (t12<t11) then
 (idx t10 t12).bind λx2=>PU (acF back n) n t10 t11 t12 x2 (x2.length:Int) 0 (ad4 []) (ad4 cm) [] cm
 else
 br (ad4 []) (ad4 cm) cm
def aTq {br} (cO:KK (GH [1,1,1]) aeA br) {back} (aK:KK (GH [0,1,0,1,1]) SU back) (n:Nat):KK (GH [0,1,0,1,1]) SU (acE br back n):=λ_ _ _ _ _ _ r h=>ie h (λc0 h=>be h λ_ dg h=>ra (aES (aTr aK n) n h) [aD c0,(0,po.idx dg),(6,.born [6] [] 26 M 70 1)]) λc0 h=>ra (cO h) [aD c0]
def KQ (br:Wf70):Nat->cf->Int->Int->aw->aw->cf->A aw
 |0=>dw.z
 |n+1=>acE br (KQ br n) n
def aER {br} (cO:KK (GH [1,1,1]) aeA br):∀n:Nat,KK (GH [0,1,0,1,1]) SU (KQ br n)
 |0=>KC.h
 |n+1=>aTq cO (aER cO n) n
def UN (n:Nat) (b2 b3:aw) (cm:cf):A aw:=
 V (ad4 cm)
def aTp:KK (GH [1,1,1]) aeA (UN g):=λ_ _ _ r h=>rr h [(2,.ja 32 201000)]
def aHH:A aw:=
 KQ (UN g) g W.ah (W.ah.length:Int) 0 (ad4 []) (ad4 []) []
def aTo:KK (GH []) SY (aHH g):=λ_ r h=>ra (aER (aTp g) g h) [(7,.born [] [(3,0)] 32 M 68 1)]
def F80:=aHH
def ev80:KK (Cx E0 80 aEf awA) SY (F80 g):=λ_ _ h=>ca (X:=x80) (aTo g h)
def aEs:AV:=.dq [.ms bF 3 0 ec.1.length,.agg (vz ec.2.1)]
def awJ:List (Nat×Bx):= [(0,mV (fA ec.2.2)),(bF,AD ec.1)]
def kQ:=fx E0 Tryz.f33 [0]
def Og:=Ax kQ aEs awJ
def aKZ (b8 fj:aw) (pC:bC) (gG:bB) (lR:cf) (PB:bp):LS:=⟨[aY 0,(2,iI u),aY 6,aY 8,aY 11,(12,.ms 111 3 0 pC.length),(13,iI g6),aY 14,(18,.sln 38 3 C.length (db C)),(28,.loc 6 1),(29,.slice 44 5 ds.length (dG ds)),(30,iI dt),(31,.bool M)],[(0,.flat 97 (fA ck)),(6,.flat 25 (cG bP)),(8,.flat 51 [tQ qy lR.length]),(11,.flat 51 [.cr]),(14,.flat 156 [iI gG.av,.ms 309300 3 0 PB.length,.slice 38 3 gG.dP.length (db gG.dP)]),(111,.rows M 156 3 (nH pC)),(309300,.rows M 38 3 (db PB)),(qy,.rows B 68 1 (pH lR))]⟩
def aKY (b8 fj:aw) (pC:bC) (gG:bB) (b54:bp) (lR:cf):LS:=⟨[aY 0,(2,iI u),aY 6,aY 8,aY 11,(12,.ms 111 3 0 pC.length),(13,iI g6),aY 14,(15,.ms 54 3 0 b54.length),(28,.loc 6 1),(29,.slice 44 5 ds.length (dG ds)),(30,iI dt),(31,.bool M)],[(0,mV (fA ck)),(6,ij (cG bP)),(8,Ej qy lR.length),(11,rj),(14,.flat 156 [bM gG.av,.cr,.cr]),(54,Cu b54),(111,AD pC),(qy,vL lR)]⟩
def Mb (b8 fj:aw) (pC:bC) (lR:cf):LS:=⟨[aY 0,(2,bM u),aY 6,aY 8,(11,Mk),(12,.ms 111 3 0 pC.length),(13,bM g6)],[(0,mV (fA f7)),(6,ij (cG Y)),(8,Ej qy lR.length),(11,rj),(111,AD pC),(qy,vL lR)]⟩
def afj (b8 fj:aw) (pC:bC) (lR:cf):LS:=⟨[aY 8,(11,Mk),(12,.ms 111 3 0 pC.length)],[(0,mV (fA f7)),(8,Ej qy lR.length),(11,rj),(111,AD pC),(qy,vL lR)]⟩
def avD:LS:=⟨[aY 0,(1,.agg (cG Y)),(2,bM am),(3,.agg (vz bv)),(4,bM cc)],(ta (fA f7))⟩
def QA (t29:bD) (t30:Int) (b0:aN) (b6:ae) (b8 fj:aw) (pC:bC) (gG:bB) (lR:cf) (PB:bp):A (bC×aw×aN):=
 (app pC [(bB.mk gG.av PB gG.dP)]).bind λx4=>(F51 dl b6 (ad4 lR) gG.av cj gG.dP).bind λiK=>dF ci (aV (dn-1)) b0 b6 (ad4 iK.2) (ad4 []) x4 iK.2
def aso {bh} (cL:KK (Og (aI 87)) Mb bh) (n:Nat):KK (Og (aI 130199)) aKZ (QA bh n):=λ_ _ _ _ _ _ _ _ _ _ _ _ PB r h=>be h λ_ iB h=>be h λ_ iO h=>ra (cL h) [(2,jh.eB 309300 PB),(0,.qc 109 (.agg [.bool M,.sl 0 0 0 0 []])),(1,qa.jU iB),(8,.call (ev51 n iO) [(qy,eZ)] [])]
def Qz (b8 fj:aw) (pC:bC) (gG:bB) (b54:bp) (lR:cf):A (bC×aw×aN):=
 (F52 dl bP gG.av b54).bind λx5=>(F71 dl bP (ad4 lR) gG.av x5).bind λdB=>(iP dB.2.2.length lR.length).bind λw14=>if (dB.1.length:Int)==0 then
 QA dF dl ci dn x5 ds dt ck bP (ad4 dB.2.2) (ad4 []) pC (bB.mk gG.av dB.1 b54) dB.2.2 dB.1
 else
 (C0 dl ck 3).bind λwU=>if !wU.1 then
 QA dF dl ci dn x5 ds dt wU.2 bP (ad4 dB.2.2) (ad4 []) pC (bB.mk gG.av dB.1 b54) dB.2.2 dB.1
 else
 QA dF dl ci dn x5 ds dt wU.2 bP (ad4 dB.2.2) (ad4 []) pC (bB.mk gG.av dB.1 []) dB.2.2 dB.1
def asn {bh} (cL:KK (Og (aI 87)) Mb bh) (n:Nat):KK (Og (aI 15511)) aKY (Qz bh n):=λ_ _ _ _ _ _ _ _ _ _ b54 _ r h=>be h λx5 iw h=>be h λ_ fG h=>be h λ_ ahj h=>let zA:SE:=[(4,jh.eB 54 b54),(0,.call (ahE n iw) [] [(86,bF)]),(6,jh.eB 86 x5),(0,.call (ev71 n fG) [(qy,eZ)] [(309300,bF)])];ie h (λdy h=>cC (aso cL n h) zA [iS dy,(5,.beq 8 (bH (Ej qy) ((pq ahj).symm)))]) λdy h=>be h λ_ Kd h=>let zB:SE:=dv zA [iS dy,(2,.call (qI n Kd) [(0,0)] [])];ie h (λc1 h=>cC (aso cL n h) zB [aD c1,(4,.beq 8 (bH (Ej qy) ((pq ahj).symm)))]) λc1 h=>cC (aso cL n h) zB [aD c1,(1,.beq 8 (bH (Ej qy) ((pq ahj).symm)))]
def adl (br:Wf72) (back:aDj) (n:Nat) (ji xm:Int) (b0:aN) (b6:ae) (b8 fj:aw) (pC:bC) (lR:cf):A (bC×aw×aN):=
 if U (0<xm) then
 if U (0<(b6.ah.length:Int)) then
 (rf n b0 (b6.ah.length:Int)).bind λdB=>(F50 n b6 dB.1).bind λmF=>(idx b6.ah dB.1).bind λqb=>(F49 n dB.2 mF qb.aH ji).bind λadQ=>(eh lR.length dB.1).bind λx40=>(lR[0+x40]?).bind λLo=>if U (0<(Lo.length:Int)) then
 (C0 n adQ.2 2).bind λHG=>if HG.1 then
 (rf n HG.2 (Lo.length:Int)).bind λx57=>(idx Lo x57.1).bind λx59=>(F52 n b6 dB.1 x59).bind λx68=>(Ge adQ.1 x68).bind λx70=>Qz back n ji xm b6.ah (b6.ah.length:Int) x57.2 b6 (ad4 lR) (ad4 []) pC (bB.mk dB.1 [] []) x70 lR
 else
 Qz back n ji xm b6.ah (b6.ah.length:Int) HG.2 b6 (ad4 lR) (ad4 []) pC (bB.mk dB.1 [] []) adQ.1 lR
 else
 Qz back n ji xm b6.ah (b6.ah.length:Int) adQ.2 b6 (ad4 lR) (ad4 []) pC (bB.mk dB.1 [] []) adQ.1 lR
 else
 br b0 (ad4 lR) (ad4 []) pC lR
 else
 br b0 (ad4 lR) (ad4 []) pC lR
def aVc {br} (cO:KK (Og [1,1,1,1]) afj br) {back} (aK:KK (Og (aI 87)) Mb back) (n:Nat):KK (Og (aI 87)) Mb (adl br back n):=λ_ _ _ _ _ _ _ _ r h=>ie h (λdy h=>ie h (λc1 h=>be h λ_ fG h=>be h λmF nR h=>be h λ_ tn h=>be h λ_ p6 h=>be h λ_ aBR h=>be h λ_ ahi h=>let zA:SE:=[aW dy,bl c1,(5,.call (oq n fG) [(0,0)] []),(3,.ord [0,1,2,3,5,6,7,8,9,10,11,12,4,13,14]),(8,cy.idx tn),(3,uC (cd (e:=3) (z:=M) (Q:=dM mF) (arw n nR) (R3.len mF))),(0,.call (ev49 n p6) [(0,0)] [(54,bF)]),(5,de aBR),(0,po.row ahi)];ie h (λc2 h=>be h λ_ aqW h=>ie h (λc3 h=>be h λ_ aBM h=>be h λ_ aBK h=>be h λ_ hx68 h=>be h λ_ hx70 h=>cC (asn aK n h) zA [aX c2,(2,.call (cb (qI n aqW) c3) [(0,0)] []),(5,.call (oq n aBM) [(0,0)] []),(0,jW.idx aBK),(7,.call (ahE n hx68) [] [(80,bF)]),(0,jh.cpyW hx70),(0,.seq 15 (bH (AV.ms 54 3 0) ((aJz hx70).symm)))]) λc3 h=>cC (asn aK n h) zA [aX c2,(2,.call (cb (qI n aqW) c3) [(0,0)] [])]) λc2 h=>cC (asn aK n h) zA [aX c2]) λc1 h=>ra (cO h) [aW dy,bl c1]) λdy h=>ra (cO h) [aW dy]
def GA (br:Wf72):Nat->Int->Int->aN->ae->aw->aw->bC->cf->A (bC×aw×aN)
 |0=>dw.z
 |n+1=>adl br (GA br n) n
def aFr {br} (cO:KK (Og [1,1,1,1]) afj br):∀n:Nat,KK (Og (aI 87)) Mb (GA br n)
 |0=>KC.h
 |n+1=>aVc cO (aFr cO n) n
def Li (n:Nat) (b0:aN) (b8 fj:aw) (pC:bC) (lR:cf):A (bC×aw×aN):=
 V (pC,(ad4 lR),b0)
def aVb:KK (Og [1,1,1,1]) afj (Li g):=λ_ _ _ _ lR r h=>rr h [(4,.ja 111 bF),(0,po.eB qy lR)]
def auB:A (bC×aw×aN):=
 (F80 g bv).bind λx7=>(rf g f7 (aV (cc+1))).bind λdB=>GA (Li g) g am dB.1 dB.2 Y x7 (ad4 []) [] x7.ah
def aVa:KK (Og []) avD (auB g):=λ_ _ _ _ _ r h=>be h λ_ iQ h=>be h λ_ fG h=>ra (aFr (aVb g) g h) [(6,.call (ev80 g iQ) [] [(qy,201000)]),(4,.call (oq g fG) [(0,0)] []),(1,.born [12] [] 111 M 156 3)]
def F33:=auB
def ev33:KK (Cx E0 33 aEs awJ) avD (F33 g):=λ_ _ _ _ _ _ h=>ca (X:=kQ) (aVa g h)
def aEd:AV:=.bool ep.1
def awy:List (Nat×Bx):= [(1,ij (cG ep.2.1)),(2,GU ep.2.2)]
def x84:=fx E0 Tryz.f84 [1,2]
def A84:=Ax x84 aEd awy
def avj:LS:=⟨[(0,.agg (kI I)),aY 1,aY 2],[(1,ij (cG Y)),(2,GU am)]⟩
def atV:A (Bool×ae×Int):=
 (F78 g Y am I).bind λx6=>V (!x6,Y,am)
def aTh:KK (A84 []) avj (atV g):=λ_ _ _ r h=>be h λ_ jV h=>rr h [mh (ev78 g jV)]
def F84:=atV
def ev84:KK (Cx E0 84 aEd awy) avj (F84 g):=λ_ _ _ _ h=>ca (X:=x84) (aTh g h)
def aEe:AV:=.int .i64 el.1
def awz:List (Nat×Bx):= [(eZ,ij (cG el.2.1)),(Bi,GU el.2.2)]
def x83:=fx E0 Tryz.f83 [eZ,Bi]
def A83:=Ax x83 aEe awz
def aex:LS:=⟨[(0,.slice 156 3 D.length (nH D)),(1,.fn 84 [] [.loc eZ 0,.loc Bi 0]),(7,iI O),(8,iI E)],[(eZ,ij (cG H)),(Bi,GU f8)]⟩
def aew:LS:=⟨[],[(eZ,ij (cG w)),(Bi,GU g6)]⟩
def avk:LS:=⟨[(0,.slice 156 3 D.length (nH D)),(1,.fn 84 [] [.loc eZ 0,.loc Bi 0])],[(eZ,ij (cG H)),(Bi,GU f8)]⟩
def acC (aB:Wf73) (back:bC->Int->Int->ae->Int->A (Int×ae×Int)) (n:Nat) (s0:bC) (t7 t8:Int) (dH:ae) (yR:Int):A (Int×ae×Int):=
 if U (t8<t7) then
 (idx s0 t8).bind λx7=>(F84 n x7 dH yR).bind λeW=>if eW.1 then
 V (t8,eW.2.1,eW.2.2)
 else
 back s0 t7 (aV (t8+1)) eW.2.1 eW.2.2
 else
 aB dH yR
def aTk {aB} (aU:KK (A83 [1,1]) aew aB) {back} (aK:KK (A83 [0,1,0,1]) aex back) (n:Nat):KK (A83 [0,1,0,1]) aex (acC aB back n):=λ_ _ _ _ _ r h=>ie h (λc0 h=>be h λ_ iQ h=>be h λ_ iF h=>ie h (λc1 h=>rr h [aD c0,(5,qa.idx iQ),(1,.call (cb (ev84 n iF) c1) [(eZ,1),(Bi,2)] [])]) λc1 h=>ra (aK h) [aD c0,(5,qa.idx iQ),(1,.call (cb (ev84 n iF) c1) [(eZ,1),(Bi,2)] [])]) λc0 h=>ra (aU h) [aD c0]
def PS (aB:Wf73):Nat->bC->Int->Int->ae->Int->A (Int×ae×Int)
 |0=>dw.z
 |n+1=>acC aB (PS aB n) n
def aEP {aB} (aU:KK (A83 [1,1]) aew aB):∀n:Nat,KK (A83 [0,1,0,1]) aex (PS aB n)
 |0=>KC.h
 |n+1=>aTk aU (aEP aU n) n
def acB (n:Nat) (dH:ae) (yR:Int):A (Int×ae×Int):=
 V ((-1),dH,yR)
def aTj:KK (A83 [1,1]) aew (acB g):=λ_ _ r h=>rr h []
def atW:A (Int×ae×Int):=
 PS (acB g) g D (D.length:Int) 0 H f8
def aTi:KK (A83 []) avk (atW g):=λ_ _ _ r h=>ra (aEP (aTj g) g h) []
def F83:=atW
def ev83:KK (Cx E0 83 aEe awz) avk (F83 g):=λ_ _ _ _ h=>ca (X:=x83) (aTi g h)
def aEc:AV:=.ms bF 3 0 D.length
def awx:List (Nat×Bx):= [(bF,aql D)]
def x85:=fx E0 Tryz.f85 []
def A85:=Ax x85 aEc awx
def avi:LS:=⟨[(0,.sln 156 3 D.length (nH D))],[]⟩
def atU (n:Nat) (s0:bC):A bC:=
 if s0.isEmpty then
 V []
 else
 (app [] s0).bind λx6=>V x6
def aTg:KK (A85 []) avi (atU g):=λs0 r h=>ie h (λc0 h=>rr h [(2,.eqv ((qa.nilB s0).trans (bH AV.bool c0))),(1,.born [2] [] bF B 156 3)]) λc0 h=>be h λ_ jV h=>rr h [(2,.eqv ((qa.nilB s0).trans (bH AV.bool c0))),(2,qa.app jV),(1,.ja 5 bF)]
def F85:=atU
def ev85:KK (Cx E0 85 aEc awx) avi (F85 g):=λ_ _ h=>ca (X:=x85) (aTg g h)
def aEb:AV:=.bool eq.1
def aww:List (Nat×Bx):= [(2,ij (cG eq.2))]
def x86:=fx E0 Tryz.f86 [2]
def A86:=Ax x86 aEb aww
def SS:LS:=⟨[(0,.agg (kI I)),(1,.agg (kI bb)),aY 2],[(2,ij (cG bz))]⟩
def acA:A (Bool×ae):=
 if I.av==bb.av then
 (F88 g bz I).bind λj8=>(F88 g bz bb).bind λfN=>(F87 g j8 fN).bind λgS=>V (gS,bz)
 else
 V (B,bz)
def aTf:KK (A86 []) SS (acA g):=λ_ _ _ r h=>let zA:SE:=[(3,.ord [0,1,2,3,4,5,6,7,9,10,8,11,12,13,14])];ie h (λc0 h=>be h λ_ jc h=>be h λ_ gU h=>be h λ_ jl h=>bu h zA [bl c0,mh (ahD g jc),jM (ahD g gU),jM (Zs g jl)]) λc0 h=>bu h zA [bl c0]
def F86:=acA
def ev86:KK (Cx E0 86 aEb aww) SS (F86 g):=λ_ _ _ _ h=>ca (X:=x86) (aTf g h)
def aEa:AV:=.int .i64 em.1
def awu:List (Nat×Bx):= [(2,ij (cG em.2))]
def x90:=fx E0 Tryz.f90 [2]
def A90:=Ax x90 aEa awu
def atO:A (Int×ae):=
 if I.av !=bb.av then
 V (aV (I.av-bb.av),bz)
 else
 (F88 g bz I).bind λdu=>(F88 g bz bb).bind λga=>(F67 g du ga).bind λiZ=>V (iZ,bz)
def aTb:KK (A90 []) SS (atO g):=λ_ _ _ r h=>ie h (λc0 h=>rr h [il c0]) λc0 h=>be h λ_ fB h=>be h λ_ lu h=>be h λ_ iW h=>rr h [il c0,(0,.ord [0,1,3,4,2,5,6,7]),ku (ahD g fB),jM (ahD g lu),jM (Na g iW)]
def F90:=atO
def ev90:KK (Cx E0 90 aEa awu) SS (F90 g):=λ_ _ _ _ h=>ca (X:=x90) (aTb g h)
def HT (r:(bC×ae)):AV:=.dq []
def ang:List (Nat×Bx):= (HW dA.1 vR (cG dA.2))
def x167:=fx E0 Tryz.f167 [0,vR]
def FA:=Ax x167 HT ang
def XN:LS:=⟨[(0,.ms 0 3 0 aq.length),(1,bM u),(2,bM g6),(3,GW vR),(8,bM O),(9,bM E)],(HW aq vR (cG Y))⟩
def An:LS:=⟨[(0,.ms 0 3 0 aq.length),(1,bM u),(2,bM g6),(3,GW vR),(8,bM O)],(HW aq vR (cG Y))⟩
def amp:LS:=⟨[(0,.ms 0 3 0 D.length),(1,bM O),(2,bM E),(3,GW vR)],(HW D vR (cG H))⟩
def VH (back:Wf75) (n:Nat) (a1 b2 i8 j9:Int) (b0:bC) (tu:ae):A (bC×ae):=
 if U (a1<j9) then
 (eh b0.length j9).bind λx8=>(b0[0+x8]?).bind λeW=>(eh b0.length (aV (j9-1))).bind λga=>(b0[0+ga]?).bind λiZ=>(F90 n eW iZ tu).bind λlg=>if U (lg.1<0) then
 (eh b0.length (aV (j9-1))).bind λvj=>(b0[0+vj]?).bind λkQ=>(eh b0.length j9).bind λvi=>(b0[0+vi]?).bind λtF=>(eh b0.length j9).bind λCM=>(b0[0+CM]?).bind λx43=>(setAt b0 (0+CM) kQ).bind λvh=>(eh b0.length (aV (j9-1))).bind λBA=>(vh[0+BA]?).bind λx48=>(setAt vh (0+BA) tF).bind λz49=>back a1 b2 i8 (aV (j9-1)) z49 lg.2
 else
 bY a1 b2 i8 b0 lg.2
 else
 bY a1 b2 i8 b0 tu
def aNn {aB} (aU:KK (FA [1,1,0,0,1]) An aB) {back} (aK:KK (FA (aI 329)) XN back) (n:Nat):KK (FA (aI 329)) XN (VH aB back n):=λ_ _ _ _ _ _ r h=>ie h (λc0 h=>be h λ_ lj h=>be h λ_ iF h=>be h λ_ lu h=>be h λ_ iW h=>be h λ_ nu h=>let zA:SE:=[aQ c0,(4,de lj),(0,qa.row iF),(3,de lu),(0,qa.row iW),(0,.call (ev90 n nu) [(vR,2)] [])];ie h (λc1 h=>be h λ_ tW h=>be h λkQ p6 h=>be h λ_ AL h=>be h λtF AK h=>be h λ_ Ka h=>be h λ_ RF h=>be h λ_ pZ h=>be h λ_ RE h=>be h λ_ ahh h=>be h λ_ MK h=>cC (aK h) zA [aD c1,(9,de tW),(0,qa.row p6),(2,de AL),(0,qa.row AK),(0,de Ka),(0,qa.ur 0 (kI kQ) RF pZ),(0,de RE),(0,qa.ur 0 (kI tF) ahh MK),(3,.seq 0 (bH (AV.ms 0 3 0) (((mH MK).trans (mH pZ)).symm)))]) λc1 h=>cC (aU h) zA [aD c1]) λc0 h=>ra (aU h) [aQ c0]
def IQ (aB:R7):Nat->Int->Int->Int->Int->bC->ae->A (bC×ae)
 |0=>dw.z
 |n+1=>VH aB (IQ aB n) n
def axB {aB} (aU:KK (FA [1,1,0,0,1]) An aB):∀n:Nat,KK (FA (aI 329)) XN (IQ aB n)
 |0=>KC.h
 |n+1=>aNn aU (axB aU n) n
def VG (n:Nat) (a1 b2 i8:Int) (b0:bC) (tu:ae):A (bC×ae):=
 bY a1 b2 (aV (i8+1)) b0 tu
def aNm {bh} (cL:KK (FA [0,1]) An bh) (n:Nat):KK (FA [1,1,0,0,1]) An (VG bh n):=λ_ _ _ _ _ r h=>ra (cL h) []
def NX (tu:ae):A (bC×ae):=
 if U (ci<cZ) then
 IQ (VG bY cw) cw cW cZ ci ci d1 tu
 else
 V (d1,tu)
def aNl {back} (aK:KK (FA [0,1]) An back) (n:Nat):KK (FA [0,1]) An (NX back n):=λ_ _ _ _ _ r h=>ie h (λc0 h=>ra (axB (aNm aK n) n h) [aQ c0]) λc0 h=>rr h [aQ c0]
def Ch:Nat->Int->Int->Int->bC->ae->A (bC×ae)
 |0=>dw.z
 |n+1=>NX (Ch n) n
def axA:∀n:Nat,KK (FA [0,1]) An (Ch n)
 |0=>KC.h
 |n+1=>aNl (axA n) n
def akq:A (bC×ae):=
 Ch g O E (aV (O+1)) D H
def aNk:KK (FA []) amp (akq g):=λ_ _ _ _ r h=>ra (axA g h) []
def ajg:=akq
def aGm:KK (Cx E0 167 HT ang) amp (ajg g):=λ_ _ _ _ _ h=>ca (X:=x167) (aNk g h)
def anl:List (Nat×Bx):= (HW dA.1 lq (cG dA.2))
def apy:=fx E0 Tryz.f133 [0,lq]
def wk:=Ax apy HT anl
def Yq:LS:=⟨[(0,.ms 0 3 0 aq.length),(1,bM u),(2,GW lq),(6,iI 20),(7,bM g6),(8,bM O)],(HW aq lq (cG Y))⟩
def Yp:LS:=⟨[(0,.ms 0 3 0 aq.length),(1,bM u),(2,GW lq),(6,bM g6),(7,bM O),(8,bM E)],(HW aq lq (cG Y))⟩
def Yo:LS:=⟨[(0,.ms 0 3 0 aq.length),(1,bM u),(2,GW lq),(6,bM g6),(7,bM O)],(HW aq lq (cG Y))⟩
def OV:LS:=⟨[(0,.ms 0 3 0 D.length),(1,bM u),(2,GW lq),(6,bM g6)],(HW D lq (cG H))⟩
def Yn:LS:=⟨[(0,.ms 0 3 0 D.length),(1,bM u),(2,GW lq),(6,iI 20),(7,bM g6)],(HW D lq (cG H))⟩
def amz:LS:=⟨[(0,.ms 0 3 0 D.length),(1,bM O),(2,GW lq)],(HW D lq (cG H))⟩
def akX (back:R7) (n:Nat) (n1 a7 b8:Int) (b0:bC) (gJ:ae):A (bC×ae):=
 if !U (n1<b8) then
 (ajg n b0 a7 b8 gJ).bind λx8=>(iP x8.1.length b0.length).bind λw9=>back n1 b8 (aV (b8+20)) x8.1 x8.2
 else
 cz n1 a7 b0 gJ
def aOY {cV} (eX:KK (wk [1,1,1]) Yn cV) {back} (aK:KK (wk [0,0,1,1]) Yq back) (n:Nat):KK (wk [0,0,1,1]) Yq (akX cV back n):=λ_ _ _ _ _ r h=>ie h (λc0 h=>be h λ_ lj h=>be h λ_ hw9 h=>ra (aK h) [aQ c0,(4,.call (aGm n lj) [(0,0),(lq,vR)] []),(6,.seq 0 (bH (AV.ms 0 3 0) ((pq hw9).symm)))]) λc0 h=>ra (eX h) [aQ c0]
def UB (cV:asE):Nat->Int->Int->Int->bC->ae->A (bC×ae)
 |0=>dw.z
 |n+1=>akX cV (UB cV n) n
def aye {cV} (eX:KK (wk [1,1,1]) Yn cV):∀n:Nat,KK (wk [0,0,1,1]) Yq (UB cV n)
 |0=>KC.h
 |n+1=>aOY eX (aye eX n) n
def aAg (back:Wf75) (n:Nat) (n1 kV a7 b8:Int) (b0:bC) (gJ:ae):A (bC×ae):=
 if !U (n1<b8) then
 G
 else
 bY n1 kV a7 b0 gJ
def aOX {bh} (cL:KK (wk (aI 1871)) Yo bh) {back} (aK:KK (wk (aI 2383)) Yp back) (n:Nat):KK (wk (aI 2383)) Yp (aAg bh back n):=λ_ _ _ _ _ _ r h=>ie h (λc0 h=>nz h) λc0 h=>ra (cL h) [aQ c0]
def aiN (bh:R7):Nat->Int->Int->Int->Int->bC->ae->A (bC×ae)
 |0=>dw.z
 |n+1=>aAg bh (aiN bh n) n
def ayd {bh} (cL:KK (wk (aI 1871)) Yo bh):∀n:Nat,KK (wk (aI 2383)) Yp (aiN bh n)
 |0=>KC.h
 |n+1=>aOX cL (ayd cL n) n
def aAf (n:Nat) (n1 kV a7:Int) (b0:bC) (gJ:ae):A (bC×ae):=
 if U ((aV (a7+kV))<n1) then
 G
 else
 cz n1 (aV (kV*2)) b0 gJ
def aOW {br} (cO:KK (wk [0,1,1,1,1]) OV br) (n:Nat):KK (wk (aI 1871)) Yo (aAf br n):=λ_ _ _ _ _ r h=>ie h (λc0 h=>nz h) λc0 h=>ra (cO h) [dm c0]
def akW:A (bC×ae):=
 if U (cZ<cW) then
 aiN (aAf cz cP) cP cW cZ 0 (aV (2*cZ)) dc bP
 else
 V (dc,bP)
def aOV {back} (aK:KK (wk [0,1,1,1,1]) OV back) (n:Nat):KK (wk [0,1,1,1,1]) OV (akW back n):=λ_ _ _ _ r h=>ie h (λc0 h=>ra (ayd (aOW aK n) n h) [aQ c0]) λc0 h=>rr h [aQ c0]
def UA:Nat->Int->Int->bC->ae->A (bC×ae)
 |0=>dw.z
 |n+1=>akW (UA n) n
def ayc:∀n:Nat,KK (wk [0,1,1,1,1]) OV (UA n)
 |0=>KC.h
 |n+1=>aOV (ayc n) n
def akV:A (bC×ae):=
 (ajg g D g6 u H).bind λx5=>(iP x5.1.length D.length).bind λw6=>UA g u 20 x5.1 x5.2
def aOU:KK (wk [1,1,1]) Yn (akV g):=λ_ _ _ _ r h=>be h λ_ iw h=>be h λ_ hw6 h=>ra (ayc g h) [(4,.call (aGm g iw) [(0,0),(lq,vR)] []),(0,.seq 0 (bH (AV.ms 0 3 0) ((pq hw6).symm)))]
def akU:A (bC×ae):=
 UB (akV g) g O 0 20 D H
def aOT:KK (wk []) amz (akU g):=λ_ _ _ r h=>ra (aye (aOU g) g h) []
def atv:=akU
def aSi:KK (Cx E0 133 HT anl) amz (atv g):=λ_ _ _ _ h=>ca (X:=apy) (aOT g h)
def awv:List (Nat×Bx):= (HW dA.1 eZ (cG dA.2))
def x89:=fx E0 Tryz.f89 [0,eZ]
def A89:=Ax x89 HT awv
def avg:LS:=⟨[(0,.ms 0 3 0 D.length),(1,GW eZ)],(HW D eZ (cG H))⟩
def atP:A (bC×ae):=
 (atv g D (D.length:Int) H).bind λx5=>(iP x5.1.length D.length).bind λw6=>V (x5.1,x5.2)
def aTc:KK (A89 []) avg (atP g):=λ_ _ r h=>be h λ_ iw h=>be h λ_ hw6 h=>rr h [(4,.call (aSi g iw) [(0,0),(eZ,lq)] [])]
def F89:=atP
def ev89:KK (Cx E0 89 HT awv) avg (F89 g):=λ_ _ _ h=>ca (X:=x89) (aTc g h)
def abw:AV:=.dq [.ms bF 3 0 ed.1.length,bM ed.2]
def Tt:List (Nat×Bx):= [(bF,AD ed.1)]
def vi:=fx E0 Tryz.f37 []
def Fy:=Ax vi abw Tt
def HN:LS:=⟨[(9,bM u),(10,.ms 26 3 0 D.length),(11,.fn 86 [] [.loc 3 0]),(12,.ms 92 3 0 aq.length),(13,bM g6),aY 14,aY 15],[(3,ij (cG H)),(14,y8 (kI bb)),(15,y8 (kI co)),(26,aql D),(92,AD aq)]⟩
def S3:LS:=⟨[(9,bM u),(10,.ms 26 3 0 D.length),(11,.fn 86 [] [.loc 3 0]),(12,.ms 92 3 0 aq.length),(13,bM g6)],[(3,ij (cG H)),(26,aql D),(92,AD aq)]⟩
def afg:LS:=⟨[(9,bM u),(12,.ms 92 3 0 D.length)],[(92,AD D)]⟩
def aKX:LS:=⟨[aY 3,(9,bM u),(10,.ms 26 3 0 D.length)],[(3,ij (cG w)),(26,aql D)]⟩
def avB:LS:=⟨[(0,.agg (cG w)),(1,iI g6),(2,.sln 156 3 D.length (nH D))],[]⟩
def adh (aB:aDi) (back:aDi) (n:Nat) (sr i13:Int) (l9:bC) (b3:ae) (yN:bC) (gG qf:bB):A (bC×Int):=
 if U (i13<(l9.length:Int)) then
 (eh l9.length i13).bind λeW=>(l9[0+eW]?).bind λj8=>(F86 n gG j8 b3).bind λiK=>if iK.1 then
 (eh l9.length i13).bind λmX=>(l9[0+mX]?).bind λLR=>(F87 n qf.dP LR.dS).bind λvk=>if !vk then
 V ([],81)
 else
 (eh l9.length i13).bind λvj=>(l9[0+vj]?).bind λkQ=>back sr (aV (i13+1)) l9 iK.2 yN gG kQ
 else
 aB sr i13 l9 iK.2 yN gG qf
 else
 aB sr i13 l9 b3 yN gG qf
def aUU {aB} (aU:KK (Fy (aI 250623)) HN aB) {back} (aK:KK (Fy (aI 709375)) HN back) (n:Nat):KK (Fy (aI 709375)) HN (adh aB back n):=λ_ _ _ _ _ _ _ r h=>ie h (λc0 h=>be h λ_ iF h=>be h λ_ jc h=>be h λ_ iO h=>let zA:SE:=[aX c0,(5,de iF),(0,qa.row jc)];ie h (λc1 h=>be h λ_ py h=>be h λ_ EC h=>be h λ_ tY h=>let zB:SE:=dv zA [(0,.call (cb (ev86 n iO) c1) [(3,2)] []),(5,de py),(1,qa.row EC),jM (Zs n tY)];ie h (λc2 h=>bu h zB [aD c2,(2,.born [6] [] bF M 156 3)]) λc2 h=>be h λ_ tW h=>be h λ_ p6 h=>cC (aK h) zB [aD c2,(2,de tW),(0,qa.row p6)]) λc1 h=>cC (aU h) zA [(0,.call (cb (ev86 n iO) c1) [(3,2)] [])]) λc0 h=>ra (aU h) [aX c0]
def P6 (aB:aDi):Nat->Int->Int->bC->ae->bC->bB->bB->A (bC×Int)
 |0=>dw.z
 |n+1=>adh aB (P6 aB n) n
def aFo {aB} (aU:KK (Fy (aI 250623)) HN aB):∀n:Nat,KK (Fy (aI 709375)) HN (P6 aB n)
 |0=>KC.h
 |n+1=>aUU aU (aFo aU n) n
def U5 (bh:Wf78) (n:Nat) (sr i13:Int) (l9:bC) (b3:ae) (yN:bC) (gG qf:bB):A (bC×Int):=
 (F87 n gG.dS qf.dP).bind λx5=>if !x5 then
 (F77 n gG.dS).bind λdB=>(F77 n qf.dP).bind λiZ=>(app yN [(bB.mk gG.av dB iZ)]).bind λmX=>bh sr i13 l9 b3 mX
 else
 bh sr i13 l9 b3 yN
def aUT {bh} (cL:KK (Fy (aI 2815)) S3 bh) (n:Nat):KK (Fy (aI 250623)) HN (U5 bh n):=λ_ _ _ _ _ _ _ r h=>be h λ_ iw h=>ie h (λc0 h=>be h λdB fG h=>be h λiZ iW h=>be h λ_ py h=>ra (cL h) [ku (Zs n iw),aD c0,(0,.ord [0,1,2,3,4,6,7,5,8,9,10,11,12]),(7,uC (iA.res (.sl 0 38 3 0 []) (cd (e:=38) (z:=M) (Q:=db dB) (art n fG) (jh.len dB)))),(0,uC (iA.res (.sl 0 38 3 0 []) (cd (e:=38) (z:=M) (Q:=db iZ) (art n iW) (jh.len iZ)))),(2,qa.jU py)]) λc0 h=>ra (cL h) [ku (Zs n iw),aD c0]
def Qy (br:Int->bC->A (bC×Int)) (back:Wf78) (n:Nat) (sr i13:Int) (l9:bC) (b3:ae) (yN:bC):A (bC×Int):=
 if U (i13<(l9.length:Int)) then
 (eh l9.length i13).bind λx7=>(l9[0+x7]?).bind λx9=>P6 (U5 back n) n sr (aV (i13+1)) l9 b3 yN x9 x9
 else
 br sr yN
def aUS {br} (cO:KK (Fy (aI 1023)) afg br) {back} (aK:KK (Fy (aI 2815)) S3 back) (n:Nat):KK (Fy (aI 2815)) S3 (Qy br back n):=λ_ _ _ _ _ r h=>ie h (λc0 h=>be h λ_ iQ h=>be h λ_ iq h=>ra (aFo (aUT aK n) n h) [aX c0,(2,de iQ),(0,qa.row iq)]) λc0 h=>ra (cO h) [aX c0]
def Dr (br:Int->bC->A (bC×Int)):Nat->Int->Int->bC->ae->bC->A (bC×Int)
 |0=>dw.z
 |n+1=>Qy br (Dr br n) n
def aFn {br} (cO:KK (Fy (aI 1023)) afg br):∀n:Nat,KK (Fy (aI 2815)) S3 (Dr br n)
 |0=>KC.h
 |n+1=>aUS cO (aFn cO n) n
def Qx (n:Nat) (sr:Int) (yN:bC):A (bC×Int):=
 if !U (sr<0) then
 V ([],71)
 else
 V (yN,0)
def aUR:KK (Fy (aI 1023)) afg (Qx g):=λ_ _ r h=>ie h (λc0 h=>rr h [aW c0,(2,.born [6] [] bF M 156 3)]) λc0 h=>rr h [aW c0,(3,.ja 92 bF)]
def adg:A (bC×Int):=
 (F89 g D w).bind λx5=>(iP x5.1.length D.length).bind λw6=>Dr (Qx g) g u 0 x5.1 x5.2 []
def aHg:KK (Fy [1,1,1,1,1]) aKX (adg g):=λ_ _ _ r h=>be h λ_ iw h=>be h λ_ hw6 h=>ra (aFn (aUR g) g h) [(4,.call (ev89 g iw) [(26,0),(3,eZ)] []),(2,.born [12] [] 92 M 156 3),(0,.seq 10 (bH (AV.ms 26 3 0) ((pq hw6).symm)))]
def auz:A (bC×Int):=
 (F64 g w g6).bind λx7=>if x7 !=0 then
 V ([],x7)
 else
 (F83 g D w g6).bind λiK=>(F85 g D).bind λgS=>if !U (iK.1<0) then
 (so gS.length iK.1).bind λgw=>adg g iK.1 iK.2.1 (gS.take gw)
 else
 adg g iK.1 iK.2.1 gS
def aUQ:KK (Fy []) avB (auz g):=λ_ _ _ r h=>be h λ_ iQ h=>let zA:SE:=[ze (ev64 g iQ)];ie h (λc0 h=>bu h zA [aQ c0,(3,.born [6] [] bF M 156 3)]) λc0 h=>be h λ_ iO h=>be h λgS jl h=>let zB:SE:=dv zA [aQ c0,(2,.call (ev83 g iO) [(3,eZ),(4,Bi)] []),(2,.call (ev85 g jl) [] [(26,bF)])];ie h (λc1 h=>be h λgw ld h=>cC (aHg g h) zB [aQ c1,(2,qa.so (xs:=gS) ld (tP rfl)),(1,.shr 26 (qa.take gS gw)),(0,.seq 10 (bH (AV.ms 26 3 0) ((yp (xs:=gS) (kP (tM ld).2 (tP rfl))).symm)))]) λc1 h=>cC (aHg g h) zB [aQ c1]
def F37:=auz
def ev37:KK (Cx E0 37 abw Tt) avB (F37 g):=λ_ _ _ _ h=>ca (X:=vi) (aUQ g h)
def x81:=fx E0 Tryz.f81 []
def A81:=Ax x81 cY bG
def aez:LS:=⟨[(0,.slice 38 3 C.length (db C)),(1,.slice 38 3 g8.length (db g8)),(12,iI f8),(13,iI ac)],[]⟩
def aey:LS:=⟨[],[]⟩
def acD (back:bp->bp->Int->Int->A Bool) (n:Nat) (a0 b1:bp) (t12 t13:Int):A Bool:=
 if U (t13<t12) then
 (idx a0 t13).bind λx6=>(idx b1 t13).bind λdu=>if !((x6.aE==du.aE)&&((x6.dj==du.dj)&&((U (x6.cM=du.cM))&&M))) then
 V B
 else
 back a0 b1 t12 (aV (t13+1))
 else
 bW
def aTn {aB} (aU:KK (A81 [1,1,1]) aey aB) {back} (aK:KK (A81 [0,1,0,1,1]) aez back) (n:Nat):KK (A81 [0,1,0,1,1]) aez (acD aB back n):=λ_ _ _ _ r h=>ie h (λc0 h=>be h λ_ jV h=>be h λ_ fB h=>let zA:SE:=[aD c0,(4,jh.idx jV),(3,jh.idx fB)];ie h (λc1 h=>bu h zA [aW c1]) λc1 h=>cC (aK h) zA [aW c1]) λc0 h=>ra (aU h) [aD c0]
def PT (aB:A Bool):Nat->bp->bp->Int->Int->A Bool
 |0=>dw.z
 |n+1=>acD aB (PT aB n) n
def aEQ {aB} (aU:KK (A81 [1,1,1]) aey aB):∀n:Nat,KK (A81 [0,1,0,1,1]) aez (PT aB n)
 |0=>KC.h
 |n+1=>aTn aU (aEQ aU n) n
def aHG (n:Nat):A Bool:=
 V M
def aTm:KK (A81 [1,1,1]) aey (aHG g):=λr h=>rr h []
def atX:A Bool:=
 if (C.length:Int) !=(g8.length:Int) then
 V B
 else
 PT (aHG g) g C g8 (C.length:Int) 0
def aTl:KK (A81 []) vG (atX g):=λ_ _ r h=>ie h (λc0 h=>rr h [bS c0]) λc0 h=>ra (aEQ (aTm g) g h) [bS c0]
def F81:=atX
def ev81:KK (Cx E0 81 cY bG) vG (F81 g):=λ_ _ _ h=>ca (X:=x81) (aTl g h)
def Lp:=fx E0 Tryz.f34 []
def GL:=Ax Lp abw Tt
def afi:LS:=⟨[(12,Mj),(14,.ms 303700 3 0 dc.length),(15,.ms 85 3 0 d1.length),(16,bM u),(17,bM g6),(18,.fn 106 [] [.kH (Ue ao)]),(46,bM am),(47,bM bd),(56,.ms 303700 3 0 dc.length),(57,bM bi),(58,bM bQ)],[(12,.flat 123 (qJ cB)),(85,AD d1),(303700,AD dc)]⟩
def D8:LS:=⟨[(12,Mj),(14,.ms 303700 3 0 aq.length),(15,.ms 85 3 0 dc.length),(46,bM u),(47,bM g6)],[(12,.flat 123 (qJ ab)),(85,AD dc),(303700,AD aq)]⟩
def afh:LS:=⟨[(15,.ms 85 3 0 D.length)],[(85,AD D)]⟩
def avC:LS:=⟨[(0,.agg (cG w)),(1,.sy 46 15 R.length (qt R)),(2,iI E),(3,iI aa),(4,.sln 156 3 aq.length (nH aq))],[]⟩
def adk (back:Int->Int->lz->Int->Int->Int->Int->eM->bC->bC->A (bC×Int)) (n:Nat) (t16 Il:Int) (pw:lz) (t46 t47 t57 t58:Int) (cD:eM) (qW yO:bC):A (bC×Int):=
 if U (t58<t57) then
 (eh qW.length t58).bind λx2=>(qW[0+x2]?).bind λx4=>if x4.av !=Il then
 back t16 Il pw t46 t47 t57 (aV (t58+1)) cD qW yO
 else
 (NL n x4.dS pw).bind λfN=>(NL n x4.dP pw).bind λmX=>(F81 n fN mX).bind λlY=>if !lY then
 (app yO [(bB.mk t16 fN mX)]).bind λx36=>back t16 Il pw t46 t47 t57 (aV (t58+1)) cD qW x36
 else
 back t16 Il pw t46 t47 t57 (aV (t58+1)) cD qW yO
 else
 dT t46 t47 cD qW yO
def aUZ {aB} (aU:KK (GL (aI 15551)) D8 aB) {back} (aK:KK (GL (aI 380095)) afi back) (n:Nat):KK (GL (aI 380095)) afi (adk aB back n):=λ_ _ _ _ _ _ _ _ _ _ r h=>ie h (λc0 h=>be h λ_ dg h=>be h λ_ iB h=>let zA:SE:=[aD c0,(0,de dg),(0,qa.row iB)];ie h (λc1 h=>cC (aK h) zA [bS c1]) λc1 h=>be h λfN gU h=>be h λmX py h=>be h λ_ tX h=>let zB:SE:=dv zA [bS c1,(0,.ord [0,1,2,3,5,6,7,10,4,8,9,11]),(8,.call (arC n gU) [] [(70,bF)]),(0,.call (arC n py) [] [(74,bF)]),(6,jh.eB 70 fN),(0,jh.eB 74 mX),jM (ev81 n tX)];ie h (λc2 h=>be h λ_ aBS h=>cC (aK h) zB [aD c2,(2,.qc 83 (.agg [.bool M,.sl 0 0 0 0 [],.sl 0 0 0 0 []])),(1,qa.jU aBS)]) λc2 h=>cC (aK h) zB [aD c2]) λc0 h=>ra (aU h) [aD c0]
def P7 (aB:asD):Nat->Int->Int->lz->Int->Int->Int->Int->eM->bC->bC->A (bC×Int)
 |0=>dw.z
 |n+1=>adk aB (P7 aB n) n
def aFq {aB} (aU:KK (GL (aI 15551)) D8 aB):∀n:Nat,KK (GL (aI 380095)) afi (P7 aB n)
 |0=>KC.h
 |n+1=>aUZ aU (aFq aU n) n
def adj (n:Nat) (t46 t47:Int) (cD:eM) (qW yO:bC):A (bC×Int):=
 dT t46 (aV (t47+1)) cD qW yO
def aUY {bh} (cL:KK (GL (aI 703)) D8 bh) (n:Nat):KK (GL (aI 15551)) D8 (adj bh n):=λ_ _ _ _ _ r h=>ra (cL h) []
def adi (br:bC->A (bC×Int)) (back:asD) (n:Nat) (t46 t47:Int) (cD:eM) (qW yO:bC):A (bC×Int):=
 if U (t47<t46) then
 (F57 n cD t47).bind λx6=>P7 (adj back n) n t47 x6.1 x6.2 t46 t47 (qW.length:Int) 0 cD qW yO
 else
 br yO
def aUX {br} (cO:KK (GL (aI 255)) afh br) {back} (aK:KK (GL (aI 703)) D8 back) (n:Nat):KK (GL (aI 703)) D8 (adi br back n):=λ_ _ _ _ _ r h=>ie h (λc0 h=>be h λ_ jV h=>ra (aFq (aUY aK n) n h) [aD c0,ku (ev57 n jV)]) λc0 h=>ra (cO h) [aD c0]
def KX (br:bC->A (bC×Int)):Nat->Int->Int->eM->bC->bC->A (bC×Int)
 |0=>dw.z
 |n+1=>adi br (KX br n) n
def aFp {br} (cO:KK (GL (aI 255)) afh br):∀n:Nat,KK (GL (aI 703)) D8 (KX br n)
 |0=>KC.h
 |n+1=>aUX cO (aFp cO n) n
def U6 (n:Nat) (yO:bC):A (bC×Int):=
 V (yO,0)
def aUW:KK (GL (aI 255)) afh (U6 g):=λ_ r h=>rr h [(3,.ja 85 bF)]
def auA:A (bC×Int):=
 (F54 g w R E).bind λx7=>if x7.2 !=0 then
 V ([],x7.2)
 else
 (F55 g x7.1).bind λgS=>(F37 g gS aa aq).bind λmF=>if mF.2 !=0 then
 V ([],mF.2)
 else
 (F56 g x7.1).bind λkQ=>KX (U6 g) g (kQ.ah.length:Int) 0 x7.1 mF.1 []
def aUV:KK (GL []) avC (auA g):=λ_ _ _ _ _ r h=>be h λ_ iQ h=>let zA:SE:=[ze (aCx g iQ)];ie h (λc0 h=>bu h zA [il c0,(3,.born [10] [] bF M 156 3)]) λc0 h=>be h λ_ jl h=>be h λ_ nR h=>let zB:SE:=dv zA [il c0,qT (ev55 g jl),(2,.call (ev37 g nR) [] [(303700,bF)])];ie h (λc1 h=>bu h zB [dm c1,(3,.born [10] [] bF M 156 3)]) λc1 h=>be h λ_ p6 h=>cC (aFp (aUW g) g h) zB [dm c1,jj (arv g p6),(3,.born [15] [] 85 M 156 3)]
def F34:=auA
def ev34:KK (Cx E0 34 abw Tt) avC (F34 g):=λ_ _ _ _ _ _ h=>ca (X:=Lp) (aUV g h)
def du:=fx E0 Tryz.f11 []
def A11:=Ax du cY bG
def afE:LS:=⟨[(0,.sy 5 1 F.length (Bd F))],[]⟩
def auM:A Bool:=
 (F13 g F 400).bind λx3=>(F12 g x3).bind λx7=>(eh x7.2.2.1.length (aV ((x7.2.2.1.length:Int)-1))).bind λhY=>(x7.2.2.1[0+hY]?).bind λgw=>(rf g x7.2.2.2.2 3).bind λlY=>(F19 g lY.2 gw (aV (1+lY.1))).bind λvi=>(F33 g vi.2 gw (aV (1+lY.1)) vi.1 5).bind λx45=>(eh x7.2.2.1.length x7.2.2.2.1).bind λx55=>(x7.2.2.1[0+x55]?).bind λx58=>(F21 g x7.1 x7.2.1 x58.aA (aV (1+lY.1)) vi.1).bind λx66=>(F21 g x7.1 x7.2.1 x58.aA (aV (1+lY.1)) x45.2.1).bind λx79=>(F34 g x7.1 x7.2.1 x58.aA (aV (1+lY.1)) x45.1).bind λx92=>(eh x7.2.2.1.length x7.2.2.2.1).bind λapA=>(x7.2.2.1[0+apA]?).bind λapz=>(F32 g apz (aV (1+lY.1)) x66.1 x92.1).bind λx108=>if x66.2==0 then
 if x79.2==0 then
 if x92.2==0 then
 if x108.2==0 then
 (F23 g x108.1 x79.1).bind λapy=>if apy then
 (F17 g).bind λadR=>V adR
 else
 V B
 else
 V B
 else
 V B
 else
 V B
 else
 V B
def aVV:KK (A11 []) afE (auM g):=λ_ r h=>be h λ_ eP h=>be h λx7 iQ h=>be h λ_ oj h=>be h λ_ ld h=>be h λ_ tX h=>be h λ_ AL h=>be h λx45 aBQ h=>be h λ_ aBO h=>be h λ_ aBL h=>be h λ_ aBI h=>be h λ_ hx79 h=>be h λx92 hx92 h=>be h λ_ aRw h=>be h λ_ aRv h=>be h λ_ aRu h=>let zA:SE:=[(2,.call (ev13 g eP) [] [(23,bF)]),(2,.call (ev12 g iQ) [(23,0)] [(302601,200001),(302602,200002)]),(14,de oj),(0,IA.row ld),(3,.call (oq g tX) [(23,0)] []),(5,.call (ev19 g AL) [(23,0)] []),(6,.call (ev33 g aBQ) [(23,0)] [(304900,bF)]),(8,de aBO),(1,IA.row aBL),(6,NA.eB 302601 x7.2.1),jM (aCC g aBI),(11,uC (aCC g hx79)),(11,qa.eB 304900 x45.1),(0,.call (ev34 g hx92) [] [(308100,bF)]),(5,qa.eB 308100 x92.1),(0,.ord [0,1,2,3,4,5,6,11,7,8,9,10,12,13]),(2,de aRw),(0,IA.row aRv),ku (ev32 g aRu)];ie h (λc0 h=>let zB:SE:=dv zA [dm c0];ie h (λc1 h=>let zC:SE:=dv zB [aQ c1];ie h (λc2 h=>ie h (λc3 h=>be h λ_ aRq h=>let zD:SE:=dv zC [aX c2,aX c3,ku (ev23 g aRq)];ie h (λc4 bE=>by subst c4;exact (be bE λadR aRp bE=>bu bE zD [jj (ev17 g aRp)])) λc4 bE=>by subst c4;exact (rr bE zD)) λc3 h=>bu h zC [aX c2,aX c3]) λc2 h=>bu h zC [aX c2]) λc1 h=>bu h zB [aQ c1]) λc0 h=>bu h zA [dm c0]
def F11:=auM
def ev11:KK (Cx E0 11 cY bG) afE (F11 g):=λ_ _ h=>ca (X:=du) (aVV g h)
def asr:Bool:= [5,22].contains d6
def aQE (h:asr d6=M):L4 Tryz.prog asr d6=M:=by
 have im:([5,22].all λd6=>L4 Tryz.prog asr d6)=M:=by kernel_rfl
 exact j1.1 im d6 (List.contains_iff_mem.1 h)
def ty5 (h:kW Tryz.prog g 5 d7):∃x,d7=ahJ x:=by
 match g,h with
 |g+1,h=>
  simp only[kW,Tryz.underlying5] at h;obtain ⟨x,rfl,_⟩:=h;exact ⟨x,rfl⟩
def ty22 (h:kW Tryz.prog g 22 d7):∃x,d7= [.sy 5 1 x.length (Bd x)]:=by
 match g,h with
 |g+1,h=>
  simp only[kW,Tryz.underlying22] at h;obtain ⟨rows,rfl,hr⟩:=h;obtain ⟨y,rfl⟩:=aII λr jf=>ty5 g r (hr r jf)
  exact ⟨y,by rw[my,aah,show Tryz.prog.cellsOf 5=1 from by kernel_rfl];try rfl⟩
def cT (h1: -9223372036854775808<=x) (h2:x<=9223372036854775807):aV x=x:=IntWalk.i64_in x ⟨h1,h2⟩
def bA (xs:List J) (i:Nat):idx xs (i:Int)=xs[i]? :=by simp[idx]
mutual
def gd:aj->Nat
 |⟨_,_,_,_,args⟩=>2+l3 args
def l3:bw->Nat
 | []=>0
 |x::xs=>1+gd x+l3 xs
end
def rz (xs:bw):xs.length<=l3 xs:=by
 induction xs with
 |nil=>simp[l3]
 |cons x xs ih=>simp[l3];omega
def zv:aT:=oJ
def oK (v:aT):Bool:=
 if v.aE==1||v.aE==2 then v.dj==0&&U (v.cM=vp)
 else if v.aE==3 then (v.dj==0||v.dj==1)&&U (v.cM=vp)
 else if v.aE==4 then U (v.cM=vp)
 else if v.aE==5 then v.dj==0&&U ((v.cM.size:Int)<=64)
 else B
def jK:Bool:=oK ad&&U (3<=ad.aE)
def ape:atp g ad=V (oK ad):=by
 unfold atp akw oK;by_cases h1:ad.aE=1<;>by_cases h2:ad.aE=2<;>by_cases h3:ad.aE=3<;>by_cases h4:ad.aE=4<;>by_cases h5:ad.aE=5<;>by_cases h6:ad.dj=0<;>by_cases h7:ad.dj=1<;>simp_all<;>simp[<-Int.not_le]
def apj:atz g ad=V (oK ad):=by
 have:=ape g ad;exact this
def alm (h:oK v=M):1<=v.aE/\v.aE<=5:=by
 unfold oK at h;split at h
 ·rename_i h1;simp at h1;omega
 ·split at h
  ·rename_i h1;simp at h1;omega
  ·split at h
   ·rename_i h1;simp at h1;omega
   ·split at h
    ·rename_i h1;simp at h1;omega
    ·simp at h
def DV:Sf g ad=V (jK ad):=by
 unfold Sf akM;rw[ape];simp only[ak,jK];cases oK ad<;>simp<;>simp[<-Int.not_le]
def apc:ZV g ad=V (jK ad):=by
 unfold ZV akr;rw[apj];simp only[ak,jK];cases h:oK ad with
 |false=>simp
 |true=>
  have:=alm h;by_cases h1:ad.aE=1
  ·simp[h1]
  ·by_cases h2:ad.aE=2
   ·simp[h2]
   ·have:3<=ad.aE:=by omega
    simp[h1,h2,this]
def aaA:∀a b:List UInt8,aa0 a b=if Kx a b then -1 else if a=b then 0 else 1
 | [],[]=>by simp[aa0,Kx]
 | [],_::_=>by simp[aa0,Kx]
 |_::_,[]=>by simp[aa0,Kx]
 |a::l,b::m=>by
  rw[aa0,Kx,aaA l m];by_cases h:a<b
  ·simp[h]
  ·by_cases h2:b<a
   ·have cR:a≠b:=λe=>by subst e;exact absurd h2 (Ah _)
    simp[h,h2,cR]
   ·have he:a=b:=UInt8.le_antisymm (Ov.1 h2) (Ov.1 h);subst he;simp[Ah]
def mn (a b:aT):Int:=
 if a.aE<b.aE then -1 else if b.aE<a.aE then 1
 else if a.dj<b.dj then -1 else if b.dj<a.dj then 1
 else if Kx a.cM.toList b.cM.toList then -1 else if a.cM=b.cM then 0 else 1
def qM:∀a:List UInt8,Kx a a=B
 | []=>by simp[Kx]
 |a::l=>by simp[Kx,qM l,Ah]
def CH {a b:Z} (h:a.data.toList=b.data.toList):a=b:=by
 cases a;cases b;simp at h;simp[h]
def yL:bI.toList=bI.data.toList:=by
 exact ByteArray.toList_eq bI
def aDy:atg g bI cK=V (if Kx bI.toList cK.toList then -1 else if bI=cK then 0 else 1):=by
 unfold atg;rw[aaA,yL,yL];by_cases h:bI=cK
 ·subst h;simp
 ·have:bI.data.toList≠cK.data.toList:=λe=>h (CH e)
  simp[h,this]
def aKa:atn g u g6=V (if u<g6 then -1 else if g6<u then 1 else 0):=by
 unfold atn aku atj aka;by_cases h1:u<g6
 ·simp[h1]
 ·by_cases h2:g6<u<;>simp[h1,h2]
def aJZ:atm g u g6=V (if u<g6 then -1 else if g6<u then 1 else 0):=by
 unfold atm akt ati ajZ;by_cases h1:u<g6
 ·simp[h1]
 ·by_cases h2:g6<u<;>simp[h1,h2]
def aKr:aty g ad ay=V (mn ad ay):=by
 unfold aty alb aDE aks aDA ajY;rw[aKa,aJZ,aDy];let ⟨k,i,t⟩:=ad;let ⟨k',i',t'⟩:=ay;unfold mn;simp only[ak];by_cases h1:k<k'
 ·have:k≠k':=by omega
  simp[h1,this]
 ·by_cases h2:k'<k
  ·have:k≠k':=by omega
   simp[h1,h2,this]
  ·have hk:k=k':=by omega
   subst hk;by_cases h3:i<i'
   ·have:i≠i':=by omega
    simp[h3,this]
   ·by_cases h4:i'<i
    ·have:i≠i':=by omega
     simp[h3,h4,this]
    ·have hi:i=i':=by omega
     subst hi;by_cases h5:t=t'
     ·subst h5;simp[qM]
     ·simp[h5]
def qG {xs:List J} {x:J} {l:List J} (h:xs.drop i=x::l):xs[i]? =V x/\xs.drop (i+1)=l/\i<xs.length:=by
 have h1:i<xs.length:=by
  by_cases hl:i<xs.length
  ·exact hl
  ·rw[uq (by omega)] at h;simp at h
 rw[uL h1] at h;let ⟨q1,q2⟩:=abo h;exact ⟨by simp[h1,q1],q2,h1⟩
def eI {l:List f9} (h:l.drop i=[]):l.length<=i/\¬((i:Int)<(l.length:Int)):=by
 have:l.length<=i:=by simpa using h
 exact ⟨this,by omega⟩
def dO {l x:List f9} {a:f9} (h:l.drop i=a::x):l[i]? =V a/\l.drop (i+1)=x/\i<l.length/\(i:Int)<(l.length:Int):=by
 let ⟨p,q,r⟩:=qG h
 exact ⟨p,q,r,by omega⟩
def uT {x:aj} (h:x∈xs):gd x+xs.length<=l3 xs:=by
 induction xs with
 |nil=>simp at h
 |cons y ys ih=>
  have hl:=rz ys;simp only[l3,iU];rcases da.1 h with rfl|h
  ·omega
  ·have:=ih h;omega
def Ok {J:Type} (x:A J) (P:J->Prop):Prop:=∃a,x=V a/\P a
def Ok.pure {a:J} {P:J->Prop} (h:P a):Ok (V a) P:=⟨a,rfl,h⟩
def Ok.bind {g7:Type} {x:A J} {f:J->A g7} {P:J->Prop} {Q:g7->Prop} (h:Ok x P) (k:∀a,P a->Ok (f a) Q):Ok (x.bind f) Q:=by
 obtain ⟨a,rfl,ha⟩:=h;exact k a ha
def Ok.mono {x:A J} {P Q:J->Prop} (h:Ok x P) (k:∀a,P a->Q a):Ok x Q:=by
 let ⟨a,h1,h2⟩:=h;exact ⟨a,h1,k a h2⟩
def Ok.ite {b:Bool} {x y:A J} {P:J->Prop} (h1:b=M->Ok x P) (h2:b=B->Ok y P):Ok (if b=M then x else y) P:=by
 cases b with
 |true=>simpa using h1 rfl
 |false=>simpa using h2 rfl
structure dd (c:aN):Prop where
 lo:0<=c.CW
 hi:c.CW<=c.qH.length
 len:c.qH.length<=1000
 byte:∀x∈c.qH,0<=x/\x<=255
def dr (xs ys:List J) (h:xs.length+ys.length<=1000000):app xs ys=V (xs++ys):=by unfold app;rw[aF (by omega)]
def aQy (hb:∀x∈F,0<=x/\x<=255) (h0:0<=E) (h1:E<=1000):Ok (F13 g F E) dd:=by
 unfold F13 auK;have hc:∃k:Nat,(if E<(F.length:Int) then E else (F.length:Int))=(k:Int)/\k<=F.length/\k<=1000:=by
  by_cases h:E<(F.length:Int)
  ·exact ⟨E.toNat,by rw[aF h];omega,by omega,by omega⟩
  ·exact ⟨F.length,by rw[aC h],cS _,by omega⟩
 let ⟨k,e,k1,k2⟩:=hc;rw[e];have h2:cut F G (V (k:Int))=V (F.take k):=by simp[cut,k1]
 rw[h2,ak,dr _ _ (by simp;omega),ak]
 refine Ok.pure ⟨Int.le_refl _,by simp,by simp;omega,λx hx=> ?_⟩
 exact hb x (og (by simpa using hx))
def j7 (h:dd f7):Ok (rf g f7 f8) λr=>dd r.2/\0<=r.1/\(1<=f8->r.1<f8)/\(f8<1->r.1=0)/\r.1<=255:=by
 unfold rf auH;refine Ok.ite (λh1=>Ok.pure ⟨h,Int.le_refl _,λh=>by omega,λ_=>rfl,by omega⟩) λh1=> ?_
 simp at h1;refine Ok.ite (λh2=>Ok.pure ⟨h,Int.le_refl _,λh=>by omega,λ_=>rfl,by omega⟩) λh2=> ?_
 simp at h2;have h3:=h.lo;have h4:=h.len;rw[cT (x:=f7.CW+1) (by omega) (by omega),cT (by omega) (by omega)]
 have e:f7.CW+1-1=(f7.CW.toNat:Int):=by omega
 have dz:f7.CW.toNat<f7.qH.length:=by omega
 rw[e,bA,cX dz,ak];have hb:=h.byte (f7.qH[f7.CW.toNat]) (nZ _);rw[cT (by omega) (by omega)]
 have hm:f8≠0:=by omega
 simp only[rem,hm,au,ak];have q1:=Int.tmod_nonneg f8 hb.1;have q2:=Int.tmod_lt_of_pos f7.qH[f7.CW.toNat] (by omega:0<f8)
 have q3:f7.qH[f7.CW.toNat].tmod f8<=f7.qH[f7.CW.toNat]:=by
  rw[Int.tmod_eq_emod_of_nonneg hb.1];have:=Int.emod_add_mul_ediv f7.qH[f7.CW.toNat] f8;have h5:0<=f8*(f7.qH[f7.CW.toNat] / f8):=Int.mul_nonneg (by omega) (Int.ediv_nonneg hb.1 (by omega))
  omega
 exact Ok.pure ⟨⟨by simp;omega,by simp;omega,h4,h.byte⟩,q1,λ_=>q2,λh=>by omega,by simp;omega⟩
def tC (h:dd f7):Ok (C0 g f7 f8) λr=>dd r.2:=by
 unfold C0 auf;refine Ok.bind (j7 g f7 f8 h) λr hr=> ?_
 exact Ok.pure hr.1
def aKp (h:dd f7):Ok (atu g f7) λr=>dd r.2/\ -9223372036854775808<=r.1/\r.1<=9223372036854775807:=by
 unfold atu akR;refine Ok.bind (j7 g f7 12 h) λr ⟨hr,h0,_,_,h2⟩=> ?_
 refine Ok.ite (λ_=>Ok.pure ⟨hr,by simp,by simp⟩) λ_=> ?_
 refine Ok.ite (λ_=>Ok.pure ⟨hr,by simp,by simp⟩) λ_=> ?_
 refine Ok.ite (λ_=>Ok.pure ⟨hr,by simp,by simp⟩) λ_=> ?_
 have q1:=Int.tmod_nonneg 4 h0;have q2:=Int.tmod_lt_of_pos r.1 (by omega:(0:Int)<4)
 exact Ok.pure ⟨hr,by simp;omega,by simp;omega⟩
def abe (c:aN):∀(k n:Nat) (s:Z) (i:Int),i=64-k->k<=64->s.size=64-k->k<n->Ok (I5 (λl b=>V (l,b)) n s i c) λr=>r.2=c/\r.1.size<=64
 |0,n+1,s,i,hi,_,hs,_=>by
  have h:¬i<64:=by omega
  simp only[I5,Wn,h,aR,az,au];exact Ok.pure ⟨rfl,by simp;omega⟩
 |k+1,n+1,s,i,hi,hk,hs,hn=>by
  have h:i<64:=by omega
  simp only[I5,Wn,h,aO,ax];have hc:cat s (xp #[255])=V (s++xp #[255]):=by
   have:(xp #[255]).size=1:=rfl;unfold cat;rw[aF (by omega)]
  rw[hc,ak,cT (by omega) (by omega)]
  have oQ:(s++xp #[255]).size=s.size+1:=by rw[WQ];rfl
  exact abe c k n _ _ (by omega) (by omega) (by omega) (by omega)
 |_,0,_,_,_,_,_,hn=>by simp at hn
def abd (c:aN):∀(k n:Nat) (s:Z) (i:Int),i=64-k->k<=64->s.size=64-k->k<n->Ok (I4 (λl b=>V (l,b)) n s i c) λr=>r.2=c/\r.1.size<=64
 |0,n+1,s,i,hi,_,hs,_=>by
  have h:¬i<64:=by omega
  simp only[I4,Wm,h,aR,az,au];exact Ok.pure ⟨rfl,by simp;omega⟩
 |k+1,n+1,s,i,hi,hk,hs,hn=>by
  have h:i<64:=by omega
  simp only[I4,Wm,h,aO,ax];have hc:cat s (xp #[98])=V (s++xp #[98]):=by
   have:(xp #[98]).size=1:=rfl;unfold cat;rw[aF (by omega)]
  rw[hc,ak,cT (by omega) (by omega)]
  have oQ:(s++xp #[98]).size=s.size+1:=by rw[WQ];rfl
  exact abd c k n _ _ (by omega) (by omega) (by omega) (by omega)
 |_,0,_,_,_,_,_,hn=>by simp at hn
def aKo (hn:100<=g) (c:aN) (h:dd c):Ok (att g c) λr=>dd r.2/\r.1.size<=64:=by
 unfold att akQ;refine Ok.bind (j7 g c 10 h) λr ⟨hr,_⟩=> ?_
 refine Ok.ite (λ_=>Ok.pure ⟨hr,xg rfl⟩) λ_=> ?_
 refine Ok.ite (λ_=>Ok.pure ⟨hr,xg rfl⟩) λ_=> ?_
 refine Ok.ite (λ_=>Ok.pure ⟨hr,xg rfl⟩) λ_=> ?_
 refine Ok.ite (λ_=>Ok.pure ⟨hr,xg rfl⟩) λ_=> ?_
 refine Ok.ite (λ_=>Ok.pure ⟨hr,xg rfl⟩) λ_=> ?_
 refine Ok.ite (λ_=>Ok.pure ⟨hr,xg rfl⟩) λ_=> ?_
 refine Ok.ite (λ_=>Ok.pure ⟨hr,xg rfl⟩) λ_=> ?_
 refine Ok.ite (λ_=>Ok.pure ⟨hr,xg rfl⟩) λ_=> ?_
 refine Ok.ite (λ_=> ?_) λ_=> ?_
 ·exact (abe r.2 64 g vp 0 (by omega) (by omega) rfl (by omega)).mono λx ⟨e,hx⟩=>⟨by rw[e];exact hr,hx⟩
 ·exact (abd r.2 64 g vp 0 (by omega) (by omega) rfl (by omega)).mono λx ⟨e,hx⟩=>⟨by rw[e];exact hr,hx⟩
def Fq (hn:100<=g) (c:aN) (k:Int) (h:dd c) (hk:3<=k) (jv:k<=5):Ok (F93 g c k) λr=>dd r.2/\r.1.aE=k/\jK r.1=M:=by
 unfold F93 atL;refine Ok.ite (λh3=> ?_) λh3=> ?_
 ·simp at h3;refine Ok.bind (j7 g c 2 h) λr ⟨hr,h0,h1,_⟩=>Ok.pure ⟨hr,rfl,?_⟩
  have h1:=h1 (by omega)
  have:r.1=0\/r.1=1:=by omega
  rcases this with e|e<;>simp[jK,oK,h3,e]
 ·simp at h3;refine Ok.ite (λh4=> ?_) λh4=> ?_
  ·simp at h4;refine Ok.bind (aKp g c h) λr ⟨hr,_⟩=>Ok.pure ⟨hr,rfl,by simp[jK,oK,h4]⟩
  ·simp at h4;refine Ok.bind (aKo g hn c h) λr ⟨hr,hs⟩=>Ok.pure ⟨hr,by simp;omega,?_⟩
   have:(r.1.size:Int)<=64:=by omega
   simp[jK,oK,this]
def CS:Bool:=u==3||u==4||u==5
def oh:Bool:=F.all CS
def bV {L:Nat} (h:i<L) (hl:L<4294967296):aV ((i:Int)+1)=((i+1:Nat):Int):=by rw[cT (by omega) (by omega)];rfl
def aoV:ajd g u=V (CS u):=by
 unfold ajd aki CS;by_cases h3:u=3
 ·simp[h3]
 ·by_cases h4:u=4
  ·simp[h4]
  ·simp[h3,h4]
def aoH (xs:aP) (hl:xs.length<4294967296):∀(l:aP) (i n:Nat),xs.drop i=l->l.length<n->IM (V M) n xs (xs.length:Int) (i:Int)=V (oh l)
 | [],i,n+1,hd,hn=>by
  let ⟨this,h⟩:=eI hd
  simp[IM,VC,h,oh]
 |x::l,i,n+1,hd,hn=>by
  let ⟨h1,h2,h3,h⟩:=dO hd
  have ih:=aoH xs hl l (i+1) n h2 (by simp at hn;omega)
  simp only[IM,VC,h,aO,ax,bA,h1,ak,aoV,bV h3 hl,ih];simp only[oh,ry];cases CS x<;>simp
 |_,_,0,_,hn=>by simp at hn
def apa (hl:F.length<4294967296) (hn:F.length<g):ajf g F=V (oh F):=by
 have:=aoH F hl F 0 g rfl hn;simpa[ajf,ako,akp] using this
def aoL (xs:aP) (hl:xs.length<4294967296):∀(l:aP) (i n:Nat),xs.drop i=l->l.length<n->Jb (V M) n xs (xs.length:Int) (i:Int)=V (oh l)
 | [],i,n+1,hd,hn=>by
  let ⟨this,h⟩:=eI hd
  simp[Jb,WH,h,oh]
 |x::l,i,n+1,hd,hn=>by
  let ⟨h1,h2,h3,h⟩:=dO hd
  have ih:=aoL xs hl l (i+1) n h2 (by simp at hn;omega)
  simp only[Jb,WH,h,aO,ax,bA,h1,ak,bV h3 hl,ih];simp only[oh,ry,CS];by_cases q3:x=3
  ·simp[q3]
  ·by_cases q4:x=4
   ·simp[q4]
   ·by_cases q5:x=5<;>simp[q3,q4,q5]
 |_,_,0,_,hn=>by simp at hn
def apn (hl:F.length<4294967296) (hn:F.length<g):ajB g F=V (oh F):=by
 have:=aoL F hl F 0 g rfl hn;simpa[ajB,alh,ali] using this
mutual
def th:aj->Nat
 |⟨_,_,_,_,args⟩=>1+rP args
def rP:bw->Nat
 | []=>0
 |x::xs=>th x+rP xs
end
mutual
def wW:aj->Nat
 |⟨_,_,_,_,args⟩=>1+v8 args
def v8:bw->Nat
 | []=>0
 |x::xs=>max (wW x) (v8 xs)
end
def anC:1<=th bR:=by let ⟨_,_,_,_,_⟩:=bR;simp[th]
def aoZ:∀(n:Nat) (p:aj) (m:Int),gd p<=n->gd p<4294967296->0<=m->m<=24->Ok (ZU n p m) λr=>r<=25/\(m+th p<=24->r=m+th p)/\(24<m+th p->24<r)
 |0,⟨_,_,_,_,_⟩,_,h,_,_,_=>by simp[gd] at h
 |n+1,⟨op,c,l,r,args⟩,m,h,hb,h0,h1=>by
  simp only[gd] at h hb;have hlen:=rz args;have loop:∀(xs:bw) (i k:Nat) (m:Int),args.drop i=xs->xs.length<k->0<=m->m<=25->
    Ok (IL (ZU n) (λr=>V r) k m (i:Int) ⟨op,c,l,r,args⟩) λr=>r<=25/\(m+rP xs<=24->r=m+rP xs)/\(24<m+rP xs->24<r):=by
   intro xs;induction xs with
   |nil=>
    intro i k m hd hk m0 m1;let ⟨this,hq⟩:=eI hd
    cases k with
    |zero=>simp at hk
    |succ k=>
     simp only[IL,VB,hq,aR,az,au];exact Ok.pure ⟨m1,λ_=>by simp[rP],λh=>by simp[rP] at h;exact h⟩
   |cons x xs ih=>
    intro i k m hd hk m0 m1;let ⟨g1,g2,g3,hq⟩:=dO hd
    cases k with
    |zero=>simp at hk
    |succ k=>
     simp only[IL,VB,hq,aO,ax];have hx:x∈args:=bU g1;have hs:=uT hx;have F0:=anC x;refine Ok.ite (λhm=> ?_) λhm=> ?_
     ·simp at hm;rw[bA,g1,ak];refine Ok.bind (aoZ n x m (by omega) (by omega) m0 hm) λr ⟨r1,r2,r3⟩=> ?_
      rw[bV g3 (by omega)]
      have xt:0<=r:=by
       by_cases hz:m+th x<=24
       ·have:=r2 hz;omega
       ·have:=r3 (by omega);omega
      refine (ih (i+1) k r g2 (by simp at hk;omega) xt r1).mono λr' ⟨q1,q2,q3⟩=>⟨q1,λhle=> ?_,λdz=> ?_⟩
      ·simp only[rP] at hle ⊢;have e:=r2 (by omega)
       have:=q2 (by omega)
       omega
      ·simp only[rP] at dz;by_cases hz:m+th x<=24
       ·have e:=r2 hz;exact q3 (by omega)
       ·have e:=r3 (by omega)
        exact q3 (by omega)
     ·simp at hm;exact Ok.pure ⟨m1,λhle=>by simp only[rP] at hle;omega,λ_=>hm⟩
  unfold ZU akn;rw[cT (by omega) (by omega)]
  refine (loop args 0 n (m+1) rfl (by omega) (by omega) (by omega)).mono λr' ⟨q1,q2,q3⟩=>⟨q1,λhle=> ?_,λdz=> ?_⟩
  ·simp only[th] at hle ⊢;have:=q2 (by omega)
   omega
  ·simp only[th] at dz;exact q3 (by omega)
def aoY:∀(n:Nat) (p:aj) (m:Nat),gd p<=n->gd p<4294967296->m<=1000->NK n p (m:Int)=V (U (m<wW p))
 |0,⟨_,_,_,_,_⟩,_,h,_,_=>by simp[gd] at h
 |n+1,⟨op,c,l,r,args⟩,0,h,hb,hm=>by
  have:0<wW ⟨op,c,l,r,args⟩:=by simp only[wW];omega
  simp[NK,Vy,this]
 |n+1,⟨op,c,l,r,args⟩,m+1,h,hb,hm=>by
  simp only[gd] at h hb;have hlen:=rz args;have loop:∀(xs:bw) (i k:Nat),args.drop i=xs->xs.length<k->
    IK (NK n) (V B) k ((m+1:Nat):Int) (args.length:Int) (i:Int) ⟨op,c,l,r,args⟩=V (U (m<v8 xs)):=by
   intro xs;induction xs with
   |nil=>
    intro i k hd hk;let ⟨this,hq⟩:=eI hd
    cases k with
    |zero=>simp at hk
    |succ k=>simp[IK,Vz,hq,v8]
   |cons x xs ih=>
    intro i k hd hk;let ⟨g1,g2,g3,hq⟩:=dO hd
    cases k with
    |zero=>simp at hk
    |succ k=>
     have hx:x∈args:=bU g1;have hs:=uT hx;have hw:aV (((m+1:Nat):Int)-1)=(m:Int):=by rw[cT (by omega) (by omega)];omega
     simp only[IK,Vz,hq,aO,ax,bA,g1,ak,hw,aoY n x m (by omega) (by omega) (by omega),bV g3 (by omega:args.length<4294967296),
      ih (i+1) k g2 (by simp at hk;omega)]
     by_cases EL:m<wW x
     ·have:m<v8 (x::xs):=by simp only[v8];omega
      simp[EL,this]
     ·have:(m<v8 (x::xs))↔m<v8 xs:=by simp only[v8];omega
      simp[EL,this]
  have cR:¬(((m+1:Nat):Int)=0):=by omega
  have hl:=loop args 0 n rfl (by omega)
  have e:(m+1<wW ⟨op,c,l,r,args⟩)↔m<v8 args:=by simp only[wW];omega
  simp only[NK,Vy,sR,cR,au,akm];rw[show ((0:Int))=((0:Nat):Int) from rfl,hl];simp[e]
def apm:∀(n:Nat) (p:aj) (v b:Int),gd p<=n->gd p<4294967296->1<=v->v<=9->0<=b->b<=24->
  Ok (Z1 n p v b) λr=>(r.1=M↔((th p:Int)<=b/\v+wW p<=9))/\(r.1=M->r.2=b-th p)
 |0,⟨_,_,_,_,_⟩,_,_,h,_,_,_,_,_=>by simp[gd] at h
 |n+1,⟨op,c,l,r,args⟩,v,b,h,hb,v1,v2,b1,b2=>by
  simp only[gd] at h hb;have hlen:=rz args;have loop:∀(xs:bw) (i k:Nat) (b:Int),args.drop i=xs->xs.length<k->v<=8->0<=b->b<=24->
    Ok (Ja (Z1 n) (λb=>V (M,b)) k v args (args.length:Int) (i:Int) b) λr=>(r.1=M↔((rP xs:Int)<=b/\v+v8 xs<=8))/\(r.1=M->r.2=b-rP xs):=by
   intro xs;induction xs with
   |nil=>
    intro i k b hd hk hv b1 b2;let ⟨this,hq⟩:=eI hd
    cases k with
    |zero=>simp at hk
    |succ k=>
     simp only[Ja,WG,hq,aR,az,au];exact Ok.pure ⟨by simp[rP,v8];omega,by simp[rP]⟩
   |cons x xs ih=>
    intro i k b hd hk hv b1 b2;let ⟨g1,g2,g3,hq⟩:=dO hd
    cases k with
    |zero=>simp at hk
    |succ k=>
     have hx:x∈args:=bU g1;have hs:=uT hx;simp only[Ja,WG,hq,aO,ax,bA,g1,ak];rw[cT (x:=v+1) (by omega) (by omega)]
     refine Ok.bind (apm n x (v+1) b (by omega) (by omega) (by omega) (by omega) b1 b2) λr ⟨r1,r2⟩=> ?_
     refine Ok.ite (λhr=> ?_) λhr=> ?_
     ·simp at hr;refine Ok.pure ⟨⟨λh=>by simp at h,λ⟨h1,h2⟩=> ?_⟩,λh=>by simp at h⟩
      simp only[rP,v8] at h1 h2;have:=r1.2 ⟨by omega,by omega⟩
      rw[hr] at this;exact absurd this (by simp)
     ·simp at hr;have e:=r2 hr;have q:=r1.1 hr;rw[bV g3 (by omega)]
      have F0:=anC x;refine (ih (i+1) k r.2 g2 (by simp at hk;omega) hv (by omega) (by omega)).mono λr' ⟨q1,q2⟩=>⟨⟨λh=> ?_,λ⟨h1,h2⟩=> ?_⟩,λh=> ?_⟩
      ·have:=q1.1 h;simp only[rP,v8];omega
      ·simp only[rP,v8] at h1 h2;exact q1.2 ⟨by omega,by omega⟩
      ·have:=q2 h;simp only[rP];omega
  unfold Z1 alg;rw[cT (by omega) (by omega)]
  simp only[th,wW];refine Ok.ite (λqZ=> ?_) λqZ=> ?_
  ·simp at qZ;refine Ok.pure ⟨⟨λh=>by simp at h,λh=> ?_⟩,λh=>by simp at h⟩
   omega
  ·simp at qZ;refine Ok.ite (λhv=> ?_) λhv=> ?_
   ·simp at hv;refine Ok.pure ⟨⟨λh=>by simp at h,λh=> ?_⟩,λh=>by simp at h⟩
    omega
   ·simp at hv;refine (loop args 0 n (b-1) rfl (by omega) hv (by omega) (by omega)).mono λr' ⟨q1,q2⟩=>⟨⟨λh=> ?_,λ⟨h1,h2⟩=> ?_⟩,λh=> ?_⟩
    ·have:=q1.1 h;omega
    ·exact q1.2 ⟨by omega,by omega⟩
    ·have:=q2 h;omega
def Bg:Bool:=ad.aE==0&&(ad.dj==0&&(U (ad.cM=vp)&&M))
def C8:Bool:=bx.aE==0&&(bx.dk==0&&(Bg bx.bk&&M))
def kAt:Int:=if 0<=bx.dk/\bx.dk<F.length/\Bg bx.bk=M then (F[bx.dk.toNat]?).getD 0 else 0
def ma:Int:=
 if bx.aE==3 then (if bx.dk==0&&jK bx.bk then bx.bk.aE else 0) else if bx.aE==2 then kAt af bx else if bx.aE==1 then kAt F bx else 0
def NT:NU g F bx=V (kAt F bx):=by
 unfold NU kAt;by_cases h1:bx.dk<0
 ·have:¬0<=bx.dk:=by omega
  simp[h1,this]
 ·by_cases h2:(F.length:Int)<=bx.dk
  ·have:¬bx.dk<F.length:=by omega
   simp[h1,h2,this]
  ·have e1:0<=bx.dk:=by omega
   have e2:bx.dk<F.length:=by omega
   have e3:bx.dk.toNat<F.length:=by omega
   have jw:idx F bx.dk=V (F[bx.dk.toNat]):=by simp[idx,e1,e3]
   cases h3:Bg bx.bk with
   |false=>
    simp only[Bg] at h3;simp only[h1,h2,aR,az,au,ge_iff_le,h3,gB,ax,and_false,e2,aO,dh]
   |true=>
    simp only[Bg] at h3;simp only[h1,h2,aR,az,au,ge_iff_le,h3,dh,jw,ak,e1,e2,and_self,ax,aO,dh];simp[e3]
def aJX:aiY g F af bx=V (ma F af bx):=by
 unfold aiY ajW ma;rw[NT,NT,DV];simp only[ak];by_cases h3:bx.aE=3
 ·by_cases hi:bx.dk=0<;>cases jK bx.bk<;>simp[h3,hi]
 ·by_cases h2:bx.aE=2
  ·simp[h2]
  ·by_cases h1:bx.aE=1<;>simp[h1,h2,h3]
def aKc (k:mQ) (o:bO):ajk g k o=V (ma k.mu k.oo o):=by
 have h0:∀l,VJ g l o=V (kAt l o):=λl=>by rw[<-NT g l o];rfl
 unfold ajk akx ma;rw[h0,h0,apc];simp only[ak];by_cases h3:o.aE=3
 ·by_cases hi:o.dk=0<;>cases jK o.bk<;>simp[h3,hi]
 ·by_cases h2:o.aE=2
  ·simp[h2]
  ·by_cases h1:o.aE=1<;>simp[h1,h2,h3]
def l5 (r:bO):Bool:=u==0&&C8 bx&&C8 r
mutual
def pV (cols params:aP):aj->Bool
 |⟨op,c,l,r,args⟩=>
  if op==1||op==2 then l5 c l r&&args.length==0
  else if op==3 then args.length==0&&U (1<=c)&&U (c<=6)&&ma cols params l !=0&&ma cols params l==ma cols params r
  else if op==4||op==5 then l5 c l r&&rO cols params args
  else if op==6 then args.length==1&&(l5 c l r&&rO cols params args)
  else B
def rO (cols params:aP):bw->Bool
 | []=>M
 |x::xs=>pV cols params x&&rO cols params xs
end
def aoR:ZQ g bR=V (l5 bR.fI bR.cQ bR.cx):=by
 unfold ZQ ajX l5 C8 Bg;by_cases h:bR.fI=0
 ·simp only[h,gQ,ax,jd];split
  ·rename_i h1;simp only[h1,jd]
  ·rename_i h1;rw[adO] at h1;simp only[h1,gR]
 ·simp[h]
def aoX (cols params:aP):∀(n:Nat) (p:aj),gd p<=n->gd p<4294967296->NJ n cols params p=V (pV cols params p)
 |0,⟨_,_,_,_,_⟩,h,_=>by simp[gd] at h
 |n+1,⟨op,c,l,r,args⟩,h,hb=>by
  simp only[gd] at h hb;have hlen:=rz args;have loop:∀(xs:bw) (i k:Nat),args.drop i=xs->xs.length<k->
    Fc (NJ n) (V M) k cols params (args.length:Int) (i:Int) ⟨op,c,l,r,args⟩=V (rO cols params xs):=by
   intro xs;induction xs with
   |nil=>
    intro i k hd hk;let ⟨this,hq⟩:=eI hd
    cases k with
    |zero=>simp at hk
    |succ k=>simp[Fc,Vx,hq,rO]
   |cons x xs ih=>
    intro i k hd hk;let ⟨g1,g2,g3,hq⟩:=dO hd
    cases k with
    |zero=>simp at hk
    |succ k=>
     have hx:x∈args:=bU g1;have hs:=uT hx;simp only[Fc,Vx,hq,aO,ax,bA,g1,ak,aoX cols params n x (by omega) (by omega),bV g3 (by omega:args.length<4294967296),
      ih (i+1) k g2 (by simp at hk;omega),rO]
     cases pV cols params x<;>simp
  have hl:=loop args 0 n rfl (by omega)
  have hl:Fc (NJ n) (V M) n cols params (args.length:Int) 0 ⟨op,c,l,r,args⟩=V (rO cols params args):=hl;have hB:Jq (NJ n) n cols params ⟨op,c,l,r,args⟩=V (l5 c l r&&rO cols params args):=by
   unfold Jq akl;rw[aoR,ak,hl];cases l5 c l r<;>simp
  unfold NJ akk;simp only[aoR,aJX,ak,hB];unfold pV;have hz:((args.length:Int)==0)=(args.length==0):=by
   rw[oa];simp
  have ho:((args.length:Int) !=1)= !(args.length==1):=by
   rw[oa];simp;omega
  simp only[hz,ho];by_cases h1:op=1
  ·cases hp:l5 c l r<;>simp[h1]
  ·by_cases h2:op=2
   ·cases hp:l5 c l r<;>simp[h2]
   ·by_cases h3:op=3
    ·cases ha:(args.length==0) with
     |false=>simp[h3]
     |true=>
      by_cases c1:1<=c
      ·by_cases c2:c<=6
       ·by_cases c3:ma cols params l=0<;>simp[h3,c1,c2,c3]
       ·simp[h3,c1,c2]
      ·simp[h3,c1]
    ·by_cases h4:op=4
     ·simp[h4]
     ·by_cases h5:op=5
      ·simp[h5]
      ·by_cases h6:op=6
       ·cases ha:(args.length==1)<;>simp[h6]
       ·simp[h1,h2,h3,h4,h5,h6]
def Z0 (k:mQ):∀(n:Nat) (p:aj),gd p<=n->gd p<4294967296->yc n k p=V (pV k.mu k.oo p)
 |0,⟨_,_,_,_,_⟩,h,_=>by simp[gd] at h
 |n+1,⟨op,c,l,r,args⟩,h,hb=>by
  simp only[gd] at h hb;have hlen:=rz args;have aRb:∀(xs:bw) (i m:Nat),args.drop i=xs->xs.length<m->
    Cj (yc n) (V M) m args (args.length:Int) (i:Int) k=V (rO k.mu k.oo xs):=by
   intro xs;induction xs with
   |nil=>
    intro i m hd hk;let ⟨this,hq⟩:=eI hd
    cases m with
    |zero=>simp at hk
    |succ m=>simp[Cj,WE,hq,rO]
   |cons x xs ih=>
    intro i m hd hk;let ⟨g1,g2,g3,hq⟩:=dO hd
    cases m with
    |zero=>simp at hk
    |succ m=>
     have hx:x∈args:=bU g1;have hs:=uT hx;simp only[Cj,WE,hq,aO,ax,bA,g1,ak,Z0 k n x (by omega) (by omega),bV g3 (by omega:args.length<4294967296),
      ih (i+1) m g2 (by simp at hk;omega),rO]
     cases pV k.mu k.oo x<;>simp
  have aRa:∀(xs:bw) (i m:Nat),args.drop i=xs->xs.length<m->
    Ci (yc n) (V M) m args (args.length:Int) (i:Int) k=V (rO k.mu k.oo xs):=by
   intro xs;induction xs with
   |nil=>
    intro i m hd hk;let ⟨this,hq⟩:=eI hd
    cases m with
    |zero=>simp at hk
    |succ m=>simp[Ci,WC,hq,rO]
   |cons x xs ih=>
    intro i m hd hk;let ⟨g1,g2,g3,hq⟩:=dO hd
    cases m with
    |zero=>simp at hk
    |succ m=>
     have hx:x∈args:=bU g1;have hs:=uT hx;simp only[Ci,WC,hq,aO,ax,bA,g1,ak,Z0 k n x (by omega) (by omega),bV g3 (by omega:args.length<4294967296),
      ih (i+1) m g2 (by simp at hk;omega),rO]
     cases pV k.mu k.oo x<;>simp
  have zj:Cj (yc n) (V M) n args (args.length:Int) 0 k=V (rO k.mu k.oo args):=aRb args 0 n rfl (by omega)
  have hl3:Ci (yc n) (V M) n args (args.length:Int) 0 k=V (rO k.mu k.oo args):=aRa args 0 n rfl (by omega)
  have ayB:∀X:A Bool,(if c !=0 then V B else if !(C8 l) then V B else if !(C8 r) then V B else X)=if l5 c l r then X else V B:=by
   intro X;unfold l5;by_cases hc:c=0
   ·cases C8 l<;>cases C8 r<;>simp[hc]
   ·simp[hc]
  have hB5:Jz (yc n) n k ⟨op,c,l,r,args⟩=V (l5 c l r&&rO k.mu k.oo args):=by
   have:=ayB (Ci (yc n) (WB (yc n) n) n args (args.length:Int) 0 k);unfold Jz;refine Eq.trans this ?_;unfold WB;rw[hl3];cases l5 c l r<;>simp
  have hB2:∀b,Od (yc n) n b k ⟨op,c,l,r,args⟩=V (!b&&(l5 c l r&&rO k.mu k.oo args)):=by
   intro b;have:=ayB (Cj (yc n) (WD (yc n) n) n args (args.length:Int) 0 k);unfold Od;cases b with
   |true=>simp
   |false=>
    simp only[az,au,gB,jd];refine Eq.trans this ?_;unfold WD;rw[zj];cases l5 c l r<;>simp
  unfold yc alf;simp only[aKc,ak,hB5,hB2];unfold pV;have hz:((args.length:Int)==0)=(args.length==0):=by
   rw[oa];simp
  have hz':((args.length:Int) !=0)= !(args.length==0):=by
   rw[oa];simp
  have ho:((args.length:Int) !=1)= !(args.length==1):=by
   rw[oa];simp;omega
  simp only[hz,hz',ho];have he:(args.length==0)=M->rO k.mu k.oo args=M:=by
   intro h;have:args= []:=by simpa using h
   simp[this,rO]
  by_cases h3:op=3
  ·cases ha:(args.length==0) with
   |false=>simp[h3]
   |true=>
    by_cases c1:1<=c
    ·by_cases c2:c<=6
     ·by_cases c3:ma k.mu k.oo l=0<;>simp[h3,c1,c2,c3]
     ·simp[h3,c1,c2]
    ·simp[h3,c1]
  ·by_cases h1:op=1
   ·cases ha:(args.length==0) with
    |false=>simp[h1]
    |true=>simp[h1,he ha]
   ·by_cases h2:op=2
    ·cases ha:(args.length==0) with
     |false=>simp[h2]
     |true=>simp[h2,he ha]
    ·by_cases h6:op=6
     ·cases ha:(args.length==1)<;>simp[h6]
     ·by_cases h4:op=4
      ·simp[h4]
      ·by_cases h5:op=5
       ·simp[h5]
       ·simp[h1,h2,h3,h4,h5,h6]
def ve:Int:=
 if !oh F then 1 else if !oh af then 1 else if U (24<th bR)||decide (8<wW bR) then 2 else if !pV F af bR then 50 else 0
def aph (h1:F.length<g) (h2:af.length<g) (h3:gd bR<=g) (h4:g<4294967296):ajx g F af bR=V (ve F af bR):=by
 let ⟨r,e,r1,r2,r3⟩:=aoZ g bR 0 h3 (by omega) (by omega) (by omega)
 have hd:=aoY g bR 8 h3 (by omega) (by omega)
 have hd:NK g bR 8=V (U (8<wW bR)):=hd;unfold ajx akS ve;simp only[apa g F (by omega) h1,apa g af (by omega) h2,e,hd,aoX F af g bR h3 (by omega),ak]
 cases oh F<;>cases oh af<;>simp
 by_cases hn:24<th bR
 ·have:=r3 (by omega)
  simp[hn,this]
 ·have:=r2 (by omega)
  have h24:¬24<r:=by omega
  by_cases h8:8<wW bR<;>cases pV F af bR<;>simp[hn,h24,h8]
def aQl (h1:F.length<g) (h2:af.length<g) (h3:gd bR<=g) (h4:g<4294967296):F46 g F af bR=V (ve F af bR):=by
 let ⟨r,e,r1,r2⟩:=apm g bR 1 24 h3 (by omega) (by omega) (by omega) (by omega) (by omega)
 unfold F46 aur ve;simp only[apn g F (by omega) h1,apn g af (by omega) h2,e,Z0 ⟨F,af⟩ g bR h3 (by omega),ak]
 cases oh F<;>cases oh af<;>simp
 cases hr:r.1 with
 |true=>
  have:=r1.1 hr;have e1:¬24<th bR:=by omega
  have e2:¬8<wW bR:=by omega
  cases pV F af bR<;>simp[e1,e2]
 |false=>
  have:¬((th bR:Int)<=24/\(1:Int)+wW bR<=9):=λh=>by rw[r1.2 h] at hr;simp at hr
  have e1:24<th bR\/8<wW bR:=by omega
  rcases e1 with h|h<;>simp[h]
def FW (h:CS k=M):3<=k/\k<=5:=by simp[CS] at h;omega
def agN (h:oh l=M) (hx:l[i]? =V x):CS x=M:=by
 simp only[oh,j1] at h;exact h x (bU hx)
def aBb (l:vB):Prop:=∀o∈l,ma F af o=ac
def awT (h:cols[i]? =V k):ma cols params ⟨1,(i:Int),⟨0,0,vp⟩⟩=k:=by
 have hi:i<cols.length:=(bK.1 h).1;have:(i:Int)<(cols.length:Int):=by omega
 simp[ma,kAt,Bg,this,h]
def awS (h:params[i]? =V k):ma cols params ⟨2,(i:Int),⟨0,0,vp⟩⟩=k:=by
 have hi:i<params.length:=(bK.1 h).1;have:(i:Int)<(params.length:Int):=by omega
 simp[ma,kAt,Bg,this,h]
def azY (hn:300<=g) (cols params:aP) (k:Int) (hk:CS k=M) (l:vB) (c:aN) (hc:dd c) (hl:l.length<=300) (ho:aBb cols params k l) (z:bO):
  Ok (NW g k c z l) λr=>dd r.2/\ma cols params r.1=k:=by
 have hkr:=FW hk;unfold NW;rw[cT (by omega) (by omega)]
 refine Ok.bind (j7 g c ((l.length:Int)+1) hc) λr ⟨hr,r0,r1,_⟩=> ?_
 have r1:=r1 (by omega)
 refine Ok.ite (λh=> ?_) λh=> ?_
 ·simp at h;have dz:r.1.toNat<l.length:=by omega
  have:eh l.length r.1=V r.1.toNat:=by simp[eh,r0,dz]
  rw[this,ak,cq,cX dz,ak];exact Ok.pure ⟨hr,ho _ (nZ _)⟩
 ·refine Ok.bind (Fq g (by omega) r.2 k hr hkr.1 hkr.2) λx ⟨hx,kx,rx⟩=>Ok.pure ⟨hx,?_⟩
  simp[ma,rx,kx]
def NF (n:Nat) (hn:300<=n) (cols params:aP) (k:Int) (hk:CS k=M) (hp:params.length<=100) (z:bO):∀(xs:aP) (i m:Nat) (l:vB) (c:aN),params.drop i=xs->xs.length<m->dd c->l.length+xs.length<=300->aBb cols params k l->
  Ok (IN (NW n) m k params (params.length:Int) (i:Int) c z l) λr=>dd r.2/\ma cols params r.1=k
 | [],i,m+1,l,c,hd,hm,hc,hl,ho=>by
  let ⟨this,hq⟩:=eI hd
  simp only[IN,VE,hq,aR,az,au];exact azY n hn cols params k hk l c hc (by simp at hl;omega) ho z
 |x::xs,i,m+1,l,c,hd,hm,hc,hl,ho=>by
  let ⟨g1,g2,g3,hq⟩:=dO hd
  simp only[IN,VE,hq,aO,ax,bA,g1,ak];simp at hm hl;refine Ok.ite (λh=> ?_) λh=> ?_
  ·simp at h;subst h;rw[dr _ _ (by simp;omega),ak,bV g3 (by omega)]
   refine NF n hn cols params x hk hp z xs (i+1) m _ c g2 (by omega) hc (by simp;omega) λo hx=> ?_
   rcases eV.1 hx with hx|hx
   ·exact ho o hx
   ·simp at hx;subst hx;exact awS g1
  ·rw[bV g3 (by omega)]
   exact NF n hn cols params k hk hp z xs (i+1) m l c g2 (by omega) hc (by omega) ho
 |_,_,0,_,_,_,hm,_,_,_=>by simp at hm
def NG (n:Nat) (hn:300<=n) (cols params:aP) (k:Int) (hk:CS k=M) (hp:params.length<=100) (fg:cols.length<=100) (z:bO):∀(xs:aP) (i m:Nat) (l:vB) (c:aN),cols.drop i=xs->xs.length<m->dd c->l.length+xs.length<=100->aBb cols params k l->
  Ok (IP (VD n) m params k cols (cols.length:Int) (i:Int) c z l) λr=>dd r.2/\ma cols params r.1=k
 | [],i,m+1,l,c,hd,hm,hc,hl,ho=>by
  let ⟨this,hq⟩:=eI hd
  simp only[IP,VF,hq,aR,az,au,VD];exact NF n hn cols params k hk hp z params 0 n l c rfl (by omega) hc (by simp at hl;omega) ho
 |x::xs,i,m+1,l,c,hd,hm,hc,hl,ho=>by
  let ⟨g1,g2,g3,hq⟩:=dO hd
  simp only[IP,VF,hq,aO,ax,bA,g1,ak];simp at hm hl;refine Ok.ite (λh=> ?_) λh=> ?_
  ·simp at h;subst h;rw[dr _ _ (by simp;omega),ak,bV g3 (by omega)]
   refine NG n hn cols params x hk hp fg z xs (i+1) m _ c g2 (by omega) hc (by simp;omega) λo hx=> ?_
   rcases eV.1 hx with hx|hx
   ·exact ho o hx
   ·simp at hx;subst hx;exact awT g1
  ·rw[bV g3 (by omega)]
   exact NG n hn cols params k hk hp fg z xs (i+1) m l c g2 (by omega) hc (by omega) ho
 |_,_,0,_,_,_,hm,_,_,_=>by simp at hm
def apb (hn:300<=g) (c:aN) (cols params:aP) (k:Int) (hk:CS k=M) (hc:dd c) (fg:cols.length<=100) (hp:params.length<=100):Ok (atl g c cols params k) λr=>dd r.2/\ma cols params r.1=k:=
 NG g hn cols params k hk hp fg _ cols 0 g [] c rfl (by omega) hc (by simp;omega) (λo h=>by simp at h)
def nB:Nat->Nat
 |0=>1
 |d+1=>1+3*nB d
def sB:Nat->Nat
 |0=>2
 |d+1=>2+3*(1+sB d)
def aLo:1<=nB g:=by cases g<;>simp[nB]
def aLc:2<=sB g:=by cases g<;>simp[sB]
structure wh (cols params:aP) (d:Nat) (r:aj×aN):Prop where
 case:dd r.2
 val:pV cols params r.1=M
 dp:wW r.1<=d+1
 nd:th r.1<=nB d
 sz:gd r.1<=sB d
def agM {op c:Int} {l r:bO} {x:aN} (hx:dd x) (hv:pV cols params ⟨op,c,l,r,[]⟩=M):wh cols params d (⟨op,c,l,r,[]⟩,x):=
 ⟨hx,hv,by simp[wW,v8],by simp[th,rP];exact aLo d,by simp[gd,l3];exact aLc d⟩
def zo:bO:=⟨0,0,⟨0,0,vp⟩⟩
def Rm:l5 0 zo zo=M:=by decide
def abh (cols params:aP) (d:Nat) (x:aN) (hx:dd x) (c:Int) (l r:bO) (h1:1<=c) (h2:c<=6) (h3:ma cols params l≠0) (h4:ma cols params l=ma cols params r) (z:aj):
  Ok (N7 dK dC x z ⟨3,c,l,r,[]⟩) (wh cols params d):=by
 unfold N7;refine Ok.bind (tC dC x 6 hx) λb hb=> ?_
 refine Ok.ite (λ_=>Ok.pure (agM hb ?_)) λ_=>Ok.pure (agM hb ?_)
 ·simp[pV,h1,h2,<-h4,h3]
 ·simp[pV,h1,h2,<-h4,h3]
def abg (hn:300<=dC) (cols params:aP) (fg:cols.length<=100) (hp:params.length<=100) (d:Nat) (k:Int) (hk:CS k=M) (x:aN) (hx:dd x) (z:aj):
  Ok (N6 dK dC cols params k x z) (wh cols params d):=by
 have hkr:=FW hk;unfold N6;refine Ok.bind (j7 dC x 6 hx) λr ⟨hr,r0,r1,_⟩=> ?_
 have r1:=r1 (by omega)
 rw[cT (by omega) (by omega)]
 refine Ok.bind (apb dC hn r.2 cols params k hk hr fg hp) λl ⟨hl,kl⟩=> ?_
 refine Ok.bind (Fq dC (by omega) l.2 k hl hkr.1 hkr.2) λv ⟨hv,kv,rv⟩=> ?_
 refine Ok.bind (tC dC v.2 3 hv) λb hb=> ?_
 refine Ok.ite (λ_=> ?_) λ_=> ?_
 ·refine Ok.bind (apb dC hn b.2 cols params k hk hb fg hp) λo ⟨ho,ko⟩=> ?_
  exact abh dK dC cols params d o.2 ho _ _ _ (by omega) (by omega) (by omega) (by omega) _
 ·refine abh dK dC cols params d b.2 hb _ _ _ (by omega) (by omega) (by omega) ?_ _
  simp[ma,rv,kv] at kl ⊢;exact kl
def abf (s:aN->aP->aP->Int->A (aj×aN)) (cols params:aP) (d:Nat) (hd:d<=1000)
  (hs:∀c,dd c->Ok (s c cols params (d:Int)) (wh cols params d)) (n0:Nat):∀(j n:Nat) (op:Int) (args:bw) (c:aN) (z:aj) (a0:bw),dd c->j<n->args.length+j<=3->rO cols params args=M->v8 args<=d+1->rP args<=args.length*nB d->l3 args<=args.length*(1+sB d)->(op=4\/op=5)->
  Ok (I6 s (Wo s n0) n cols params ((d+1:Nat):Int) ((j:Int)-1) c z ⟨op,0,zo,zo,a0⟩ args) (wh cols params (d+1))
 |0,n+1,op,args,c,z,a0,hc,_,hj,h1,h2,h3,h4,gC=>by
  have:((0:Nat):Int)-1<0:=by omega
  simp only[I6,Wp,Wo,this,aO,dh,az,au];have e3:args.length*nB d<=3*nB d:=jn _ (by omega)
  have e4:args.length*(1+sB d)<=3*(1+sB d):=jn _ (by omega)
  refine Ok.pure ⟨hc,?_,by simp only[wW];omega,by simp only[th,nB];omega,by simp only[gd,sB];omega⟩
  rcases gC with rfl|rfl<;>simp[pV,Rm,h1]
 |j+1,n+1,op,args,c,z,a0,hc,hn,hj,h1,h2,h3,h4,gC=>by
  have:¬(((j+1:Nat):Int)-1<0):=by omega
  simp only[I6,Wp,this,aR,gB,ax];have hw:aV (((d+1:Nat):Int)-1)=(d:Int):=by rw[cT (by omega) (by omega)];omega
  have hw2:aV (((j+1:Nat):Int)-1-1)=(j:Int)-1:=by rw[cT (by omega) (by omega)];omega
  rw[hw,hw2];refine Ok.bind (hs c hc) λx hx=> ?_
  rw[dr _ _ (by simp;omega),ak]
  have key:∀(l:bw) (y:aj),rO cols params (l++ [y])=(rO cols params l&&pV cols params y)/\v8 (l++ [y])=max (v8 l) (wW y)/\rP (l++ [y])=rP l+th y/\l3 (l++ [y])=l3 l+(1+gd y):=by
   intro l y;induction l with
   |nil=>simp[rO,v8,rP,l3]
   |cons a l ih=>
    let ⟨i1,i2,i3,i4⟩:=ih;simp only[wC,rO,v8,rP,l3,i1,i2,i3,i4];refine ⟨by rw[Bool.and_assoc],by omega,by omega,by omega⟩
  let ⟨k1,k2,k3,k4⟩:=key args x.1;refine abf s cols params d hd hs n0 j n op _ x.2 _ _ hx.case (by omega) (by simp;omega) (by rw[k1,h1,hx.val];rfl) (by rw[k2];have:=hx.dp;omega) ?_ ?_ gC
  ·rw[k3,gf];have:=hx.nd;simp only[iU,DA,fS];omega
  ·rw[k4,gf];have:=hx.sz;simp only[iU,DA,fS];omega
 |_,0,_,_,_,_,_,_,hn,_,_,_,_,_,_=>by simp at hn
def wh.up {r:aj×aN} {e:Nat} (h:wh cols params d r) (hd:d<=e):wh cols params e r:=by
 have hn:∀k,nB d<=nB (d+k):=by
  intro k;induction k with
  |zero=>simp
  |succ k ih=>rw[<-gL];simp only[nB];omega
 have hs:∀k,sB d<=sB (d+k):=by
  intro k;induction k with
  |zero=>simp
  |succ k ih=>rw[<-gL];simp only[sB];omega
 have e1:d+(e-d)=e:=by omega
 have a:=hn (e-d);have b:=hs (e-d);rw[e1] at a b;exact ⟨h.case,h.val,by have:=h.dp;omega,by have:=h.nd;omega,by have:=h.sz;omega⟩
def ZY (cols params:aP) (hk:oh cols=M) (fg:cols.length<=100) (hp:params.length<=100):∀(d n:Nat) (c:aN),dd c->300+d<n->d<=100->Ok (Fv n c cols params (d:Int)) (wh cols params d)
 |d,0,c,hc,hn,_=>by omega
 |d,n+1,c,hc,hn,hd=>by
  have leaf:∀(op:Int) (x:aN) (z:aj),dd x->Ok (zV (Fv n) n cols params (d:Int) op M x z) (wh cols params d):=by
   intro op x z hx;unfold zV;simp only[ax];refine Ok.ite (λh=> ?_) λh=> ?_
   ·simp at h;refine Ok.bind (j7 n x (cols.length:Int) hx) λr ⟨hr,r0,r1,_⟩=> ?_
    have r1:=r1 (by omega)
    have dz:r.1.toNat<cols.length:=by omega
    have jw:idx cols r.1=V (cols[r.1.toNat]):=by simp[idx,r0,dz]
    rw[jw,ak];exact abg (Fv n) n (by omega) cols params fg hp d _ (agN hk (i:=r.1.toNat) (by simp[dz])) r.2 hr _
   ·exact abg (Fv n) n (by omega) cols params fg hp d 4 rfl x hx _
  have inner:∀(op:Int) (x:aN) (z:aj),6<=op->op<=8->dd x->Ok (zV (Fv n) n cols params (d:Int) op (U ((d:Int)<1)) x z) (wh cols params d):=by
   intro op x z o1 o2 hx;cases d with
   |zero=>simpa using leaf op x z hx
   |succ d=>
    have F0:¬(((d+1:Nat):Int)<1):=by omega
    have hw:aV (((d+1:Nat):Int)-1)=(d:Int):=by rw[cT (by omega) (by omega)];omega
    have ih:=λc hc=>ZY cols params hk fg hp d n c hc (by omega) (by omega)
    unfold zV;simp only[F0,aR,az,au];refine Ok.ite (λh6=> ?_) λh6=> ?_
    ·rw[hw];refine Ok.bind (ih x hx) λr hr=>Ok.pure ⟨hr.case,?_,?_,?_,?_⟩
     ·have:l5 0 ⟨0,0,⟨0,0,vp⟩⟩ ⟨0,0,⟨0,0,vp⟩⟩=M:=Rm;simp[pV,this,rO,hr.val]
     ·simp only[wW,v8];have:=hr.dp;omega
     ·simp only[th,rP,nB];have:=hr.nd;omega
     ·simp only[gd,l3,sB];have:=hr.sz;omega
    ·simp at h6;refine Ok.bind (j7 n x 3 hx) λr ⟨hr,r0,r1,_⟩=> ?_
     have r1:=r1 (by omega)
     rw[cT (x:=4+op) (by omega) (by omega),cT (by omega) (by omega)]
     have e:r.1=((r.1.toNat+1:Nat):Int)-1:=by omega
     rw[e];exact abf (Fv n) cols params d (by omega) ih n (r.1.toNat+1) n (4+op-7) [] r.2 _ _ hr (by omega) (by simp;omega) rfl (by simp[v8]) (by simp[rP]) (by simp[l3]) (by omega)
  unfold Fv akT;refine Ok.bind (j7 n c 9 hc) λr ⟨hr,r0,r1,_⟩=> ?_
  have r1:=r1 (by omega)
  refine Ok.ite (λh0=> ?_) λh0=> ?_
  ·simp at h0;refine Ok.bind (tC n r.2 2 hr) λb hb=> ?_
   refine Ok.ite (λ_=> ?_) λ_=> ?_
   ·refine Ok.bind (j7 n b.2 2 hb) λq ⟨hq,q0,q1,_⟩=> ?_
    have q1:=q1 (by omega)
    rw[cT (by omega) (by omega)]
    refine Ok.pure (agM hq ?_);have hz:l5 0 ⟨0,0,⟨0,0,vp⟩⟩ ⟨0,0,⟨0,0,vp⟩⟩=M:=Rm;have:q.1=0\/q.1=1:=by omega
    rcases this with e|e<;>simp[pV,e,hz]
   ·refine Ok.ite (λ_=>leaf _ _ _ hb) λh6=> ?_
    simp at h6;omega
  ·refine Ok.ite (λ_=>leaf _ _ _ hr) λh6=> ?_
   simp at h6;exact inner r.1 r.2 _ h6 (by omega) hr
def aQd (hk:oh F=M) (jv:oh af=M) (fg:F.length<=100) (hp:af.length<=100) (d n:Nat) (c:aN) (hc:dd c) (hn:1000<=n) (fP:n<4294967296) (EL:1<=d) (hd:d<=3):
  Ok (F92 n c F af (d:Int)) λr=>dd r.2/\ve F af r.1=0/\gd r.1<=119:=by
 unfold F92 atM;refine Ok.bind (ZY F af hk fg hp d n c hc (by omega) (by omega)) λr hr=> ?_
 have hs:gd r.1<=119:=(hr.up hd).sz;rw[aph n F af r.1 (by omega) (by omega) (by omega) fP,ak]
 refine Ok.ite (λh2=> ?_) λh2=> ?_
 ·refine Ok.bind (ZY F af hk fg hp 1 n r.2 hr.case (by omega) (by omega)) λq hq=>Ok.pure ⟨hq.case,?_,(hq.up (by omega:1<=3)).sz⟩
  have h1:=hq.nd;have h2:=hq.dp;have e1:¬24<th q.1:=by simp[nB] at h1;omega
  have e2:¬8<wW q.1:=by omega
  simp[ve,hk,jv,e1,e2,hq.val]
 ·refine Ok.pure ⟨hr.case,?_,hs⟩;have:ve F af r.1=2\/ve F af r.1=0:=by
   unfold ve;cases U (24<th r.1)||decide (8<wW r.1)<;>simp[hk,jv,hr.val]
  simp at h2;exact this.resolve_left h2
section
def ZB (a b:List UInt8):Kx (cJ::a) (d0::b)=(U (cJ<d0)||(cJ==d0&&Kx a b)):=by simp[Kx]
def Gm:∀{a b:List UInt8},Kx a b=M->Kx b a=B
 | [],[],h=>by simp[Kx] at h
 | [],_::_,_=>by simp[Kx]
 |_::_,[],h=>by simp[Kx] at h
 |x::a,y::b,h=>by
  rw[ZB] at h ⊢;by_cases h1:x<y
  ·have h2:¬y<x:=λh2=>Ah x (UInt8.lt_trans h1 h2)
   have h3:¬y=x:=λe=>by subst e;exact Ah _ h1
   simp[h2,h3]
  ·by_cases h3:x=y
   ·subst h3;simp[Ah] at h ⊢;exact Gm h
   ·simp[h1,h3] at h
def Gl:∀{a b:List UInt8},Kx a b=B->a≠b->Kx b a=M
 | [],[],_,h=>absurd rfl h
 | [],_::_,h,_=>by simp[Kx] at h
 |_::_,[],_,_=>by simp[Kx]
 |x::a,y::b,h,cR=>by
  rw[ZB] at h ⊢;by_cases h1:x<y
  ·simp[h1] at h
  ·by_cases h2:y<x
   ·simp[h2]
   ·have:x=y:=UInt8.le_antisymm (Ov.1 h2) (Ov.1 h1);subst this;simp[Ah] at h ⊢;exact Gl h (λe=>cR (by rw[e]))
def adU (a b:aT):mn b a= - mn a b:=by
 unfold mn;by_cases h1:a.aE<b.aE
 ·have:¬b.aE<a.aE:=by omega
  simp[h1,this]
 ·by_cases h2:b.aE<a.aE
  ·simp[h1,h2]
  ·by_cases h3:a.dj<b.dj
   ·have:¬b.dj<a.dj:=by omega
    simp[h1,h2,h3,this]
   ·by_cases h4:b.dj<a.dj
    ·simp[h1,h2,h3,h4]
    ·cases h5:Kx a.cM.toList b.cM.toList with
     |true=>
      have h6:=Gm h5;have h7:¬b.cM=a.cM:=λe=>by rw[e,qM] at h5;cases h5
      simp[h1,h2,h3,h4,h6,h7]
     |false=>
      by_cases h6:a.cM=b.cM
      ·simp[h1,h2,h3,h4,h6,qM]
      ·have h7:Kx b.cM.toList a.cM.toList=M:=Gl h5 (λe=>h6 (CH (by rw[yL,yL] at e;exact e)))
       simp[h1,h2,h3,h4,h6,h7]
def apE:mn ad ay= -1\/mn ad ay=0\/mn ad ay=1:=by
 unfold mn;repeat' split
 all_goals simp
def ee:bp->bp->Int
 | [],[]=>0
 | [],_::_=> -1
 |_::_,[]=>1
 |a::x,b::y=>if mn a b=0 then ee x y else mn a b
def xL:∀(x y:bp),ee y x= - ee x y
 | [],[]=>rfl
 | [],_::_=>rfl
 |_::_,[]=>rfl
 |a::x,b::y=>by
  have h:=adU a b;simp only[ee];rw[xL x y,h];by_cases h1:mn a b=0
  ·simp[h1]
  ·have:¬ -mn a b=0:=by omega
   simp[h1,this]
def JO:∀(x y:bp),ee x y= -1\/ee x y=0\/ee x y=1
 | [],[]=>by simp[ee]
 | [],_::_=>by simp[ee]
 |_::_,[]=>by simp[ee]
 |a::x,b::y=>by
  simp only[ee];split
  ·exact JO x y
  ·exact apE a b
def tK:ee C C=0:=by have:=xL C C;omega
def aoJ (n0:Nat) (a b:bp) (ha:a.length<4294967296):∀(x:bp) (i m:Nat),a.drop i=x->i<=a.length->i<=b.length->x.length<m->Fo (Oa n0) m a b a (a.length:Int) (i:Int)=V (ee (a.drop i) (b.drop i))
 | [],i,m+1,hd,h1,h2,hm=>by
  let ⟨hl,hq⟩:=eI hd
  simp only[Fo,Wu,Oa,hq,aR,az,au];rw[hd];cases hb:b.drop i with
  |nil=>
   have:b.length<=i:=by simpa using hb
   have e1:¬(a.length:Int)<b.length:=by omega
   simp[e1,ee]
  |cons y l=>
   let ⟨_,_,g3⟩:=qG hb;have e1:(a.length:Int)<b.length:=by omega
   simp[e1,ee]
 |x::xs,i,m+1,hd,h1,h2,hm=>by
  let ⟨g1,g2,g3,hq⟩:=dO hd
  simp only[Fo,Wu,hq,aO,ax,bA,g1,ak];cases hb:b.drop i with
  |nil=>
   have hl:b.length<=i:=by simpa using hb
   have e0:¬(i:Int)<b.length:=by omega
   simp[e0,hd,ee]
  |cons y l=>
   let ⟨k1,k2,k3⟩:=qG hb;have e0:(i:Int)<b.length:=by omega
   simp only[e0,aO,dh,az,au,k1,ak,aKr];rw[hd,bV g3 ha];simp only[ee];by_cases h:mn x y=0
   ·simp only[h,jJ,az,au,ax];rw[aoJ n0 a b ha xs (i+1) m g2 (by omega) (by omega) (by simp at hm;omega),g2,k2]
   ·have:(mn x y !=0)=M:=by simpa using h
    simp only[this,h,ax,au]
 |_,_,0,_,_,_,hm=>by simp at hm
def Jf (ha:C.length<4294967296) (hn:C.length<g):F67 g C g8=V (ee C g8):=by
 have:=aoJ g C g8 ha C 0 g rfl (by omega) (by omega) hn
 simp only[pF] at this;show (Fo (Oa g) g C g8 C (C.length:Int) 0).bind (λx=>V x)=_
 rw[show (0:Int)=((0:Nat):Int) from rfl,this];rfl
def ey:aP:=d5.ag.map (·.aE)
def EA {xs:List J} {i:Int} {x:J} (h:idx xs i=V x):0<=i/\i.toNat<xs.length/\xs[i.toNat]? =V x:=by
 unfold idx at h;split at h
 ·exact ⟨by assumption,(bK.1 h).1,h⟩
 ·cases h
def azz (n0:Nat) (cs:di) (hl:cs.length<=1000):∀(x:di) (i m:Nat) (out:aP),cs.drop i=x->x.length<m->out=(cs.take i).map (·.aE)->PZ (acO n0) m cs (cs.length:Int) (i:Int) out=V (cs.map (·.aE))
 | [],i,m+1,out,hd,hm,ho=>by
  let ⟨hl,hq⟩:=eI hd
  simp only[PZ,acP,acO,hq,aR,az,au];rw[ho,iT hl]
 |x::xs,i,m+1,out,hd,hm,ho=>by
  let ⟨g1,g2,g3,hq⟩:=dO hd
  simp only[PZ,acP,hq,aO,ax,bA,g1,ak];rw[dr _ _ (by rw[ho];simp;omega),ak,bV g3 (by omega)]
  refine azz n0 cs hl xs (i+1) m _ g2 (by simp at hm;omega) ?_
  rw[ho,HB,g1];simp
 |_,_,0,_,_,hm,_=>by simp at hm
def azA (n0:Nat) (cs:di) (hl:cs.length<=1000):∀(x:di) (i m:Nat) (out:aP),cs.drop i=x->x.length<m->out=(cs.take i).map (·.aE)->P0 (acR n0) m cs (cs.length:Int) (i:Int) out=V (cs.map (·.aE))
 | [],i,m+1,out,hd,hm,ho=>by
  let ⟨hl,hq⟩:=eI hd
  simp only[P0,acS,acR,hq,aR,az,au];rw[ho,iT hl]
 |x::xs,i,m+1,out,hd,hm,ho=>by
  let ⟨g1,g2,g3,hq⟩:=dO hd
  simp only[P0,acS,hq,aO,ax,bA,g1,ak];rw[dr _ _ (by rw[ho];simp;omega),ak,bV g3 (by omega)]
  refine azA n0 cs hl xs (i+1) m _ g2 (by simp at hm;omega) ?_
  rw[ho,HB,g1];simp
 |_,_,0,_,_,hm,_=>by simp at hm
section
variable {s:ae} {t:Int} {T:ai} {n:Nat}
def aJp {xs:List J} {i:Int} (h0:0<=i) (h:¬i<(xs.length:Int)):idx xs i=G:=by
 unfold idx;rw[aF h0,oW (by omega)]
def apo (hT:idx s.ah t=V T):K6 n s t=V M:=by
 let ⟨h0,h1,_⟩:=EA hT;have e1:¬t<0:=by omega
 have e2:t<(s.ah.length:Int):=by omega
 simp[K6,alj,e1,e2]
def UF (hT:idx s.ah t=V T) (hl:T.ag.length<=1000) (hn:1000<n):F50 n s t=V (ey T):=by
 let ⟨h0,h1,_⟩:=EA hT;have e1:¬t<0:=by omega
 have e2:t<(s.ah.length:Int):=by omega
 simp only[F50,auq,e1,e2,aR,aO,dh,az,au,hT,ak];exact azz n T.ag hl T.ag 0 n [] rfl (by omega) rfl
def aQm (hT:idx s.ah t=V T) (hl:T.ag.length<=1000) (hn:1000<n):F45 n s t=V (ey T):=by
 simp only[F45,aus,apo hT,ak,dh,az,au,hT];have:rh (T.ag.length:Int) (0:Int)=V (List.replicate T.ag.length 0):=by simp[rh];omega
 rw[this,ak];exact azA n T.ag hl T.ag 0 n [] rfl (by omega) rfl
structure jT (T:ai):Prop where
 pY:1<=T.aH
 jG:T.aH<=(T.ag.length:Int)
 cols:T.ag.length<=8
 ks:oh (ey T)=M
def pX:(ey d5).length=d5.ag.length:=by simp[ey]
def ayT {xs:List J} (h0:0<=k) (h:k.toNat<=xs.length):cut xs G (V k)=V (xs.take k.toNat):=by
 obtain ⟨m,rfl⟩:∃m:Nat,k=m:=⟨k.toNat,by omega⟩
 simp at h;simp[cut,h]
end
end
def CQ:Bool:=U (97<=cJ.toNat)&&U (cJ.toNat<=122)
def FK:Bool:=CQ cJ||((U (48<=cJ.toNat)&&U (cJ.toNat<=57))||decide (cJ.toNat=95))
def Tx:List UInt8->Bool
 | []=>B
 |b::l=>CQ b&&l.all FK
def Bh:Bool:=U (bI.size<=32)&&Tx bI.data.toList
def xx:bI.data.toList.length=bI.size:=by simp
def aLK {s:Z} {b:UInt8} (h:s.data.toList[p]? =V b):∃hp:p<s.size,s[p]'hp=b:=by
 have h1:=(bK.1 h);let ⟨q1,q2⟩:=h1;have hp:p<s.size:=by simpa using q1
 have q3:s.data[p]=b:=by simpa using q2
 exact ⟨hp,q3⟩
def ajH (k:Z->Nat->A Bool) (m:Nat) (s:Z) (p:Nat) (q:Nat) (c:Int) (l:Bool):UI k m (p:Int) c l s q=if l=M then k s q else if p=0 then V B else if c=95\/(48<=c/\c<=57) then k s q else V B:=by
 unfold UI;cases l with
 |true=>simp
 |false=>
  by_cases hp:p=0
  ·simp[hp]
  ·have BW:¬(p:Int)=0:=by omega
   by_cases h1:c=95
   ·simp[hp,h1]
   ·by_cases h2:c<48
    ·have:¬48<=c:=by omega
     simp[hp,h1,h2,this]
    ·by_cases h3:57<c
     ·have:¬c<=57:=by omega
      simp[hp,h1,h2,h3,this]
     ·have Ik:48<=c:=by omega
      have M1:c<=57:=by omega
      simp[hp,h1,h2,h3,Ik,M1]
def aim (hb:cK.data.toList[cP]? =V d0):Dp (La g) (cw+1) cK cP=if CQ d0=M then Dp (La g) cw cK (cP+1) else if cP=0 then V B else if FK d0=M then Dp (La g) cw cK (cP+1) else V B:=by
 let ⟨hp,he⟩:=aLK hb;simp only[Dp,aci,hp,aO,ax];rw[ajH,ajH];by_cases ha:d0.toNat<128
 ·have hd:=decode_ascii cK cP hp (by rw[he];exact ha)
  rw[he] at hd;rw[hd];simp only[CQ,FK];by_cases h1:97<=d0.toNat
  ·have vy:¬((d0.toNat:Int)<97):=by omega
   by_cases h2:d0.toNat<=122
   ·have Ik:¬(122<(d0.toNat:Int)):=by omega
    simp[h1,vy,h2,Ik]
   ·have Ik:(122<(d0.toNat:Int)):=by omega
    have e1:¬(d0.toNat:Int)=95:=by omega
    have e2:¬(d0.toNat:Int)<=57:=by omega
    have e3:¬d0.toNat<=57:=by omega
    have e4:¬d0.toNat=95:=by omega
    simp[h1,vy,h2,Ik,e1,e2,e3,e4]
  ·have vy:((d0.toNat:Int)<97):=by omega
   by_cases e1:d0.toNat=95
   ·simp[h1,vy,e1]
   ·have e1':¬(d0.toNat:Int)=95:=by omega
    by_cases e2:48<=d0.toNat
    ·have Nd:48<=(d0.toNat:Int):=by omega
     by_cases e3:d0.toNat<=57
     ·have e3':(d0.toNat:Int)<=57:=by omega
      simp[h1,vy,e1,e1',e2,Nd,e3,e3']
     ·have e3':¬(d0.toNat:Int)<=57:=by omega
      simp[h1,vy,e1,e1',e2,Nd,e3,e3']
    ·have Nd:¬48<=(d0.toNat:Int):=by omega
     simp[h1,vy,e1,e1',e2,Nd]
 ·have hd:=(decode_high cK cP hp (by rw[he];omega)).1
  generalize (Utf8.decode cK cP)=d at hd;let ⟨c,q⟩:=d;simp only at hd;have a1:¬((c:Int)<97):=by omega
  have a2:122<(c:Int):=by omega
  have a3:¬((c:Int)=95\/(48<=(c:Int)/\(c:Int)<=57)):=by omega
  have b1:CQ d0=B:=by simp[CQ];omega
  have b2:FK d0=B:=by simp[FK,b1];omega
  simp[a1,a2,a3,b1,b2]
def azx (n0:Nat) (s:Z):∀(x:List UInt8) (p m:Nat),s.data.toList.drop p=x->0<p->x.length<m->Dp (La n0) m s p=V (x.all FK)
 | [],p,m+1,hd,hp,hm=>by
  have:s.data.toList.length<=p:=by simpa using hd
  have hq:¬p<s.size:=by rw[xx] at this;omega
  simp only[Dp,aci,La,hq,aR,az,au];rfl
 |b::x,p,m+1,hd,hp,hm=>by
  let ⟨g1,g2,g3⟩:=qG hd;have ih:=azx n0 s x (p+1) m g2 (by omega) (by simp at hm;omega)
  rw[aim n0 m s p b g1,aC (by omega:¬p=0),ih]
  simp only[ry];have:CQ b=M->FK b=M:=λh=>by simp[FK,h]
  cases hl:CQ b with
  |true=>simp[this hl]
  |false=>cases hc:FK b<;>simp
 |_,_,0,_,_,hm=>by simp at hm
def azK (hn:100<g):F99 g bI=V (Bh bI):=by
 unfold F99 atG Bh;by_cases h0:bI.size=0
 ·have:bI.data.toList= []:=by
   have:=xx bI;exact uP (by omega)
  simp[h0,this,Tx]
 ·have e1:¬(bI.size:Int)<1:=by omega
  by_cases h1:bI.size<=32
  ·have e2:¬32<(bI.size:Int):=by omega
   simp only[e1,e2,aR,az,au,h1,aO,jd];obtain ⟨m,rfl⟩:∃m,g=m+1:=⟨g-1,by omega⟩
   cases hx:bI.data.toList with
   |nil=>have:=xx bI;rw[hx] at this;simp at this;omega
   |cons b l=>
    have hl:l.length<32:=by have:=xx bI;rw[hx] at this;simp at this;omega
    rw[aim (m+1) m bI 0 b (by rw[hx];rfl)]
    simp only[ax,Tx];cases hb:CQ b with
    |false=>simp
    |true=>
     simp only[ax,jd];exact azx (m+1) bI l 1 m (by rw[hx];rfl) (by omega) (by omega)
  ·have e2:32<(bI.size:Int):=by omega
   simp only[e1,e2,aR,aO,az,au,ax,h1,gR]
def azE (hs:cK.size<4294967296) (b:UInt8) (hb:cK.data.toList[cP]? =V b):Cg (Jp g) (cw+1) cK (cP:Int)=if FK b=M then Cg (Jp g) cw cK ((cP+1:Nat):Int) else V B:=by
 have hp:cP<cK.size:=by have:=(bK.1 hb).1;rwa[xx] at this
 have hq:(cP:Int)<(cK.size:Int):=by omega
 have hi:G3 cK (cP:Int)=V b:=by simp[G3];simpa using hb
 simp only[Cg,Vw,zU,hq,aO,ax,hi,ak,bV hp hs];simp only[FK,CQ];by_cases h1:97<=b.toNat
 ·have vy:¬((b.toNat:Int)<97):=by omega
  by_cases h2:b.toNat<=122
  ·have Ik:¬(122<(b.toNat:Int)):=by omega
   simp[h1,vy,h2,Ik]
  ·have Ik:(122<(b.toNat:Int)):=by omega
   have e1:¬(b.toNat:Int)=95:=by omega
   have e2:¬(b.toNat:Int)<48:=by omega
   have e5:57<(b.toNat:Int):=by omega
   have e3:¬b.toNat<=57:=by omega
   have e4:¬b.toNat=95:=by omega
   simp[h1,vy,h2,Ik,e1,e2,e3,e4,e5]
 ·have vy:((b.toNat:Int)<97):=by omega
  by_cases e2:48<=b.toNat
  ·have Nd:¬(b.toNat:Int)<48:=by omega
   by_cases e3:b.toNat<=57
   ·have e3':¬57<(b.toNat:Int):=by omega
    simp[h1,vy,e2,Nd,e3,e3']
   ·have e3':57<(b.toNat:Int):=by omega
    by_cases e1:b.toNat=95
    ·simp[e1]
    ·have e1':¬(b.toNat:Int)=95:=by omega
     simp[h1,vy,e2,Nd,e3,e3',e1,e1']
  ·have Nd:(b.toNat:Int)<48:=by omega
   have e1:¬b.toNat=95:=by omega
   have e1':¬(b.toNat:Int)=95:=by omega
   simp[h1,vy,e2,Nd,e1,e1']
def aoG (n0:Nat) (s:Z) (hs:s.size<4294967296):∀(x:List UInt8) (p m:Nat),s.data.toList.drop p=x->x.length<m->Cg (Jp n0) m s (p:Int)=V (x.all FK)
 | [],p,m+1,hd,hm=>by
  have:s.data.toList.length<=p:=by simpa using hd
  have hq:¬(p:Int)<(s.size:Int):=by rw[xx] at this;omega
  simp only[Cg,Vw,Jp,hq,aR,az,au];rfl
 |b::x,p,m+1,hd,hm=>by
  let ⟨g1,g2,g3⟩:=qG hd;have ih:=aoG n0 s hs x (p+1) m g2 (by simp at hm;omega)
  rw[azE n0 m s p hs b g1,ih];simp only[ry];cases hc:FK b<;>simp
 |_,_,0,_,hm=>by simp at hm
def aoW (hn:100<g):aje g bI=V (Bh bI):=by
 unfold aje akj Bh;by_cases h0:bI.size=0
 ·have:bI.data.toList= []:=by
   have:=xx bI;exact uP (by omega)
  simp[h0,this,Tx]
 ·have e1:((bI.size:Int)==0)=B:=by rw[WO];omega
  by_cases h1:bI.size<=32
  ·have e2:¬32<(bI.size:Int):=by omega
   simp only[e1,e2,aR,az,au,h1,aO,jd];cases hx:bI.data.toList with
   |nil=>have:=xx bI;rw[hx] at this;simp at this;omega
   |cons b l=>
    have hi:G3 bI 0=V b:=by simp only[G3,hx];rfl
    have hl:l.length<32:=by have:=xx bI;rw[hx] at this;simp at this;omega
    simp only[hi,ak,Tx];have:=aoG g bI (by omega) bI.data.toList 0 g rfl (by rw[xx];omega)
    rw[show ((0:Nat):Int)=0 from rfl,hx,ry] at this;rw[this];by_cases h3:97<=b.toNat
    ·have M1:¬((b.toNat:Int)<97):=by omega
     by_cases h4:b.toNat<=122
     ·have h4':¬(122<(b.toNat:Int)):=by omega
      have hb:CQ b=M:=by simp[CQ,h3,h4]
      simp[M1,h4',hb,FK]
     ·have h4':(122<(b.toNat:Int)):=by omega
      have hb:CQ b=B:=by simp[CQ];omega
      simp[M1,h4',hb]
    ·have M1:((b.toNat:Int)<97):=by omega
     have hb:CQ b=B:=by simp[CQ];omega
     simp[M1,hb]
  ·have e2:32<(bI.size:Int):=by omega
   simp only[e1,e2,aR,aO,az,au,ax,h1,gR]
def TB {g7:Type} (d:g7) (k:Z) (v:g7) (x:Z):∀m:List (Z×g7),np (nk m k v) x d=if x=k then v else np m x d
 | []=>by simp[nk,np]
 |p::m=>by
  simp only[nk];by_cases h:k=p.1
  ·simp only[h,ax,np];by_cases h2:x=p.1
   ·simp[h2]
   ·simp[h2]
  ·simp only[h,au,np];by_cases h2:x=p.1
   ·have:¬x=k:=λe=>h (e.symm.trans h2)
    simp[h2];intro e;exact absurd e.symm h
   ·simp only[h2,au];exact TB d k v x m
def qx (x:Z):List Z->Bool
 | []=>B
 |y::l=>U (x=y)||qx x l
def agC (x:Z):∀(a b:List Z),qx x (a++b)=(qx x a||qx x b)
 | [],b=>by simp[qx]
 |y::a,b=>by simp[qx,agC x a b,Bool.or_assoc]
def zq:List Z->di->Bool
 |_,[]=>M
 |seen,c::cs=>Bh c.aM&&(!qx c.aM seen&&(CS c.aE&&zq (seen++ [c.aM]) cs))
def Q5 (seen:List Z) (T:ai):Bool:=Bh T.aM&&(!qx T.aM seen&&(U (1<=T.aH)&&(U (T.aH<=(T.ag.length:Int))&&zq [] T.ag)))
def sI:List Z->bD->Bool
 |_,[]=>M
 |seen,T::Ts=>Q5 seen T&&sI (seen++ [T.aM]) Ts
def S8 (m:List (Z×Bool)) (seen:List Z):Prop:=∀x,np m x B=qx x seen
def S8.put {m:List (Z×Bool)} (h:S8 m seen) (k:Z):S8 (nk m k M) (seen++ [k]):=λx=>by
 rw[TB,h x,agC];by_cases hx:x=k
 ·simp[hx,qx]
 ·simp[hx,qx]
def aiB (k:bD->Int->Int->Z->Int->Int->di->Int->List (Z×Bool)->ai->A Bool) (cs:di) (hl:cs.length<=8) (a1:bD) (a2 a3:Int) (a4:Z) (a5 a6:Int) (a7:di) (a8:Int) (a9:List (Z×Bool)) (T:ai):∀(x:di) (i m:Nat) (mp:List (Z×Bool)) (seen:List Z),cs.drop i=x->x.length+200<m->S8 mp seen->
  P4 k m a1 a2 a3 a4 a5 a6 a7 a8 cs (cs.length:Int) (i:Int) a9 mp T=if zq seen x=M then k a1 a2 a3 a4 a5 a6 a7 a8 a9 T else V B
 | [],i,m+1,mp,seen,hd,hm,hs=>by
  let ⟨this,hq⟩:=eI hd
  simp only[P4,ada,hq,aR,az,au,zq,ax]
 |c::x,i,m+1,mp,seen,hd,hm,hs=>by
  let ⟨g1,g2,g3,hq⟩:=dO hd
  simp at hm;have ih:=aiB k cs hl a1 a2 a3 a4 a5 a6 a7 a8 a9 T x (i+1) m _ _ g2 (by omega) (hs.put c.aM)
  simp only[P4,ada,hq,aO,ax,bA,g1,ak,azK m c.aM (by omega),hs c.aM,bV g3 (by omega),ih,zq]
  rcases lC (Bh c.aM) with hv|hv<;>rcases lC (qx c.aM seen) with h2|h2<;>by_cases h3:c.aE=3<;>by_cases h4:c.aE=4<;>by_cases h5:c.aE=5<;>simp[hv,h2,h3,h4,h5,CS]
 |_,_,0,_,_,_,hm,_=>by simp at hm
def aiA (n0:Nat) (ts:bD) (hl:ts.length<=8) (hc:∀T∈ts,T.ag.length<=8):∀(x:bD) (i m:Nat) (mp:List (Z×Bool)) (seen:List Z),ts.drop i=x->x.length+1000<m->S8 mp seen->
  KW (U0 n0) m ts (ts.length:Int) (i:Int) mp=V (sI seen x)
 | [],i,m+1,mp,seen,hd,hm,hs=>by
  let ⟨this,hq⟩:=eI hd
  simp only[KW,acY,U0,hq,aR,az,au,sI]
 |T::x,i,m+1,mp,seen,hd,hm,hs=>by
  let ⟨g1,g2,g3,hq⟩:=dO hd
  simp at hm;have hT:=hc T (bU g1);have ih:=aiA n0 ts hl hc x (i+1) m _ _ g2 (by omega) (hs.put T.aM)
  have G7:=aiB (acZ (KW (U0 n0) m) m) T.ag hT ts (ts.length:Int) (i:Int) T.aM T.aH T.aH T.ag (T.ag.length:Int) (nk mp T.aM M) T T.ag 0 m [] [] rfl (by omega) (λx=>by simp[np,qx])
  rw[show ((0:Nat):Int)=0 from rfl] at G7;simp only[KW,acY,hq,aO,ax,bA,g1,ak,azK m T.aM (by omega),hs T.aM,G7,acZ,bV g3 (by omega),ih,sI,Q5]
  have q1:U (T.aH<1)= !U (1<=T.aH):=by rw[<-decide_not];exact Ou.2 (by omega)
  have q2:U ((T.ag.length:Int)<T.aH)= !U (T.aH<=(T.ag.length:Int)):=by rw[<-decide_not];exact Ou.2 (by omega)
  rw[q1,q2];rcases lC (Bh T.aM) with hv|hv<;>rcases lC (qx T.aM seen) with h2|h2<;>rcases lC (U (1<=T.aH)) with h3|h3<;>rcases lC (U (T.aH<=(T.ag.length:Int))) with h4|h4<;>rcases lC (zq [] T.ag) with h5|h5<;>simp only[hv,h2,h3,h4,h5,dh,gB,az,au,ax,jd,gR]
 |_,_,0,_,_,_,hm,_=>by simp at hm
def aQo (hl:w.ah.length<=8) (hc:∀T∈w.ah,T.ag.length<=8) (hn:2000<g):F43 g w=V (sI [] w.ah):=
 aiA g w.ah hl hc w.ah 0 g [] [] rfl (by omega) (λx=>by simp[np,qx])
def abc (k:ai->A Bool) (s:ae) (hl:s.ah.length<=8) (i:Nat) (hi:i<=s.ah.length) (T:ai):∀(x:bD) (j m:Nat),(s.ah.take i).drop j=x->x.length<m->j<=i->I3 k m (i:Int) (j:Int) s T=if qx T.aM (x.map (·.aM))=M then V B else k T
 | [],j,m+1,hd,hm,hj=>by
  have:(s.ah.take i).length<=j:=by simpa using hd
  rw[dE] at this;have hq:¬((j:Int)<(i:Int)):=by omega
  simp only[I3,Wl,hq,aR,az,au,xf,qx]
 |ge::x,j,m+1,hd,hm,hj=>by
  let ⟨g1,g2,g3⟩:=qG hd;rw[dE] at g3;have hq:(j:Int)<(i:Int):=by omega
  have hg:s.ah[j]? =V ge:=by rw[fw,aF (by omega)] at g1;exact g1
  have ih:=abc k s hl i hi T x (j+1) m g2 (by simp at hm;omega) (by omega)
  have hw:aV ((j:Int)+1)=((j+1:Nat):Int):=by rw[cT (by omega) (by omega)];rfl
  simp only[I3,Wl,hq,aO,ax,bA,hg,ak,hw,ih,ki,qx];by_cases h:ge.aM=T.aM
  ·simp[h]
  ·have h':¬T.aM=ge.aM:=λe=>h e.symm
   simp[h,h']
 |_,_,0,_,hm,_=>by simp at hm
def abb (k:Int->Int->di->Int->cF->cF->Int->Bool->ai->A Bool) (T:ai) (hl:T.ag.length<=8) (i:Nat) (c:cF) (hc:T.ag[i]? =V c) (a1 a2:Int) (a3:di) (a4:Int) (a5 a6:cF) (a7:Int) (a8:Bool):∀(x:di) (j m:Nat),(T.ag.take i).drop j=x->x.length<m->j<=i->
  I2 k m (i:Int) (j:Int) a1 a2 a3 a4 a5 a6 a7 a8 T=if qx c.aM (x.map (·.aM))=M then V B else k a1 a2 a3 a4 a5 a6 a7 a8 T
 | [],j,m+1,hd,hm,hj=>by
  have:(T.ag.take i).length<=j:=by simpa using hd
  have hi:=(bK.1 hc).1;rw[dE] at this;have hq:¬((j:Int)<(i:Int)):=by omega
  simp only[I2,Wk,hq,aR,az,au,xf,qx]
 |ge::x,j,m+1,hd,hm,hj=>by
  let ⟨g1,g2,g3⟩:=qG hd;have hi:=(bK.1 hc).1;rw[dE] at g3;have hq:(j:Int)<(i:Int):=by omega
  have hg:T.ag[j]? =V ge:=by rw[fw,aF (by omega)] at g1;exact g1
  have ih:=abb k T hl i c hc a1 a2 a3 a4 a5 a6 a7 a8 x (j+1) m g2 (by simp at hm;omega) (by omega)
  have hw:aV ((j:Int)+1)=((j+1:Nat):Int):=by rw[cT (by omega) (by omega)];rfl
  simp only[I2,Wk,hq,aO,ax,bA,hg,hc,ak,hw,ih,ki,qx];by_cases h:ge.aM=c.aM
  ·simp[h]
  ·have h':¬c.aM=ge.aM:=λe=>h e.symm
   simp[h,h']
 |_,_,0,_,hm,_=>by simp at hm
def aba (n0:Nat) (T:ai) (hl:T.ag.length<=8):∀(x:di) (i m:Nat),T.ag.drop i=x->x.length+200<m->Fm (N5 n0) m (T.ag.length:Int) (i:Int) T=V (zq ((T.ag.take i).map (·.aM)) x)
 | [],i,m+1,hd,hm=>by
  let ⟨this,hq⟩:=eI hd
  simp only[Fm,Wi,N5,hq,aR,az,au,zq]
 |c::x,i,m+1,hd,hm=>by
  let ⟨g1,g2,g3,hq⟩:=dO hd
  simp at hm;have ih:=aba n0 T hl x (i+1) m g2 (by omega)
  have jD:=λb=>abb (Wj (Fm (N5 n0) m) m) T hl i c g1 (T.ag.length:Int) (i:Int) T.ag (i:Int) c c c.aE b (T.ag.take i) 0 m rfl (by simp;omega) (by omega)
  rw[show ((0:Nat):Int)=0 from rfl] at jD;rw[HB,g1] at ih;simp only[HA,kh,ki,xf] at ih;simp only[Fm,Wi,hq,aO,ax,bA,g1,ak,aoW m c.aM (by omega),aoV,jD,Wj,bV g3 (by omega),ih,zq]
  rcases lC (Bh c.aM) with hv|hv<;>rcases lC (CS c.aE) with h3|h3<;>rcases lC (qx c.aM ((T.ag.take i).map (·.aM))) with h2|h2<;>simp only[hv,h2,h3,dh,gB,az,au,ax,jd,gR]
 |_,_,0,_,hm=>by simp at hm
def aKn (hl:w.ah.length<=8) (i:Nat) (T:ai) (hT:w.ah[i]? =V T) (hc:T.ag.length<=8) (hn:1000<g):ats g w (i:Int)=V (Q5 ((w.ah.take i).map (·.aM)) T):=by
 have hi:=(bK.1 hT).1;unfold ats akP Q5;simp only[bA,hT,ak,aoW g T.aM (by omega)]
 rcases lC (Bh T.aM) with aqX|aqX
 rotate_left
 ·simp[aqX]
 ·simp only[aqX,dh,az,au,jd];have h0:=abc (Wh g) w hl i (by omega) T (w.ah.take i) 0 g rfl (by simp;omega) (by omega)
  rw[show ((0:Nat):Int)=0 from rfl] at h0;have h1:=aba g T hc T.ag 0 g rfl (by omega)
  rw[show ((0:Nat):Int)=0 from rfl,yV,xf] at h1;simp only[h0,Wh,h1];by_cases e0:T.ag.length=0
  ·have e1:((T.ag.length:Int)==0)=M:=by simp[e0]
   by_cases h3:1<=T.aH
   ·have:¬T.aH<=(T.ag.length:Int):=by omega
    simp only[e1,ax,this,aR,gR,Dx]
   ·simp only[e1,ax,h3,aR,gR,Dx]
  ·have e1:((T.ag.length:Int)==0)=B:=by rw[WO];omega
   simp only[e1,az,au];by_cases h3:T.aH<1
   ·have:¬1<=T.aH:=by omega
    simp[h3,this]
   ·have M1:1<=T.aH:=by omega
    by_cases h4:(T.ag.length:Int)<T.aH
    ·have:¬T.aH<=(T.ag.length:Int):=by omega
     simp[h3,M1,h4,this]
    ·have h4':T.aH<=(T.ag.length:Int):=by omega
     rcases lC (qx T.aM ((w.ah.take i).map (·.aM))) with h2|h2<;>simp only[h2,h3,M1,h4,h4',aO,aR,dh,gB,az,au,ax,jd,gR]
def ahQ:∀{cs:di} {seen:List Z},zq seen cs=M->oh (cs.map (·.aE))=M
 | [],_,_=>rfl
 |c::cs,seen,h=>by
  simp only[zq,bJ] at h;simp only[ki,oh,ry,bJ];exact ⟨h.2.2.1,ahQ h.2.2.2⟩
def aIh {T:ai} (hc:T.ag.length<=8) (h:Q5 seen T=M):jT T:=by
 simp only[Q5,bJ,j2] at h;exact ⟨h.2.2.1,h.2.2.2.1,hc,ahQ h.2.2.2.2⟩
def Q4:∀{ts:bD} {seen:List Z},(∀T∈ts,T.ag.length<=8)->sI seen ts=M->∀T∈ts,jT T
 | [],_,_,_,T,hT=>by simp at hT
 |ge::ts,seen,hc,h,T,hT=>by
  simp only[sI,bJ] at h;rcases da.1 hT with rfl|hT
  ·exact aIh (hc _ (by simp)) h.1
  ·exact Q4 (λT hT=>hc T (by simp[hT])) h.2 T hT
end Go.Proofs.YtbnkhmoelnfjoaaGreat
end
