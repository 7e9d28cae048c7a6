/- Part. -/
import Derived.Test.YtbnkhmoelnfjoaaGreatP5
import Derived.KernelRfl
import Derived.Test.YtbnkhmoelnfjoaaGreatP3
import Derived.Test.YtbnkhmoelnfjoaaGreatP4
import Derived.IntWalk
import Derived.Laws.RangeString
import Derived.Laws.RangeAny
set_option linter.all false
set_option maxRecDepth 100000
open List renaming length->O,drop->B',take->C'
open Option renaming bind->M,some->V,none->A
open Bool renaming true->I,false->U
open Decidable renaming decide->A'
open Int renaming toNat->Eb
open Go.Proofs.YtbnkhmoelnfjoaaGreat.aE renaming mk->NH
open Go.Proofs.YtbnkhmoelnfjoaaGreat.aW renaming mk->RJ
open ByteArray renaming empty->I',mk->NB
open Go.Proofs.YtbnkhmoelnfjoaaGreat.af renaming mk->EY
open Go.Op renaming bytesLess->Sx
open Go.Proofs.YtbnkhmoelnfjoaaGreat.dF renaming mk->xm
open Go.Proofs.YtbnkhmoelnfjoaaGreat.aF renaming mk->AJ
open Go.Lib renaming compareBytes->Hn
noncomputable section
namespace Go.Proofs.YtbnkhmoelnfjoaaGreat
open Go.bM
variable (g:Nat) (u:Int) (w:af) (B:aU) (C:Int) (E:aN) (S:bz) (vQ:Int) (F:aU) (J:aG) (H:aE) (D:Int) (N:aW) (ac:cj) (qr:Int) (ul:dk) (ab:ga) (R:Int) (Z bb:aW) (aa:af) (or:cG) (ad:aN) (ak:aP) (bd:Bool) (bf:Int) (al:aU) (bi:dF) (bj:lJ) (bg:aP) (bs:List (Int×aP)) (bK:Int) (bx:bz) (bO:jX) (bB:Int) (bG:aE) (cc:bC) (ao:Int) (bm:aG) (aA:af) (bo:aE) (aT:dk) (br:aW) (an:aU) (bQ:dA) (bR:aN) (bU:aF) (bV:bP) (bX:aU) (bZ:xN) (co:gM) (ce ch:Int) (ci:aP) (cl:aj) (cC:aaZ) (cF:G Bool) (cp:dF) (cq:qF) (cK:aur) (cr:Nat) (cm:Int) (ct:cG) (cu:af) (cP:pI) (cW:dO) (dc:auq) (de:UInt8) (df:xN) (di:Nat) (d1:auu) (dl:auv) (d2:aus) (dn:aEM) (d3:G Int) (ds:jX) (d4:Nat) (cv d5:Int) (d6:bC) (d7:Int) (dy:aG) (d8:af) (cw:aE) (cx:dk) (dD:ah) (dE:(dk×aG)) (dH:(aU×Bool)) (d9:bz) (dJ dL:Int) (ea:Iq) (ec:lJ) (cz:List (Int×aP)) (cn:aU) (dM:aP) (ed:auw) (ee:aG->aN->aN->Int->G (aj×aG)) (ef:Bool) (eg:aut) (eh:aup) (ei:af) (ej:aW) (ek:aEO) (dR:Nat) (dS:aN) (dT:aU) (el:aEN) (em:Wf55) (eo:Nat) (dV:Int) (ep:Wf51) (eq:aE) (er:af) (d0:cG) (es:aP) (et:UInt8) (ev:gg) (ew:TypeId) (ex:List AV) (ey:(jX×dO×Int)) (ez:(dk×Int×Int)) (eA:(aU×aG)) (eC:(aE×dA)) (eE:(aE×aG)) (eF:(List Nat)) (eG:(Int×af×cG)) (eH:(Int×Bool×af×cG))
variable {x k:Int} {Y rt:Type} {v:aP} {xs:bA} {i d p:Nat} {l ip g7:aN} {ol:List xN}
def aFy:AV:=.ms bL 1 0 (O eF)
def ayl:List (Nat×Bx):= [(bL,.rows U 185 1 (P5 eF))]
def x97:=fx E0 Tryz.f97 []
def A97:=Ax x97 aFy ayl
def awV:LS:=⟨[],[]⟩
def aJc (n:Nat):G (List Nat):=
 V [148,149,150,151,152,153,154,155]
def aTZ:KK (A97 []) awV (aJc g):=λr h=>rr h [(3,.iS 1 bL)]
def F97:=aJc
def ev97:KK (Cx E0 97 aFy ayl) awV (F97 g):=λ_ h=>ca (X:=x97) (aTZ g h)
def x98:=fx E0 Tryz.f98 []
def A98:=Ax x98 dj bE
def aLH:LS:=⟨[aV 1,(5,.bool bd)],[(1,vK (oN bU))]⟩
def aLG:LS:=⟨[aV 1],[(1,vK (oN bU))]⟩
def Ms (n:Nat) (aae:Bool) (b1:aF):G Bool:=
 ite (b1.aq==0) (ite (b1.bc==0) (ite (b1.kY==0) (ite (A' (b1.aK=I')) (ite (b1.aB==0) (ite ((b1.bp.aB==0)&&((b1.bp.dt==0)&&((A' (b1.bp.cH=I'))&&I))) (ite ((O b1.cg:Int)==0) (V (!aae)) (V U)) (V U)) (V U)) (V U)) (V U)) (V U)) (V U)
def Vx:KK (A98 (aI 127)) aLH (Ms g):=λ_ _ r h=>ie h (λc0 h=>ie h (λc1 h=>let zA:SE:=[aS c0,aZ c1];ie h (λc2 h=>let zB:SE:=dx zA [bl c2];ie h (λc3 h=>let zC:SE:=dx zB [bl c3];ie h (λc4 h=>ie h (λc5 h=>ie h (λc6 h=>bt h zC [bl c4,bN c5,bN c6]) λc6 h=>bt h zC [bl c4,bN c5,bN c6]) λc5 h=>bt h zC [bl c4,bN c5]) λc4 h=>bt h zC [bl c4]) λc3 h=>bt h zB [bl c3]) λc2 h=>bt h zA [bl c2]) λc1 h=>rr h [aS c0,aZ c1]) λc0 h=>rr h [aS c0]
def AA:G Bool:=
 ite (!A' (bU.bu.aK=I')) (Ms g I bU) (ite (A' (0<(O bU.bu.L:Int))) (Ms g I bU) (ite (bU.bu.av !=0) (Ms g I bU) (ite (A' (0<(O bU.bu.ar:Int))) (Ms g I bU) (Ms g (A' (0<(O bU.bu.aM:Int))) bU))))
def Hw:KK (A98 (aI 31)) aLG (AA g):=λ_ r h=>ie h (λc0 h=>ra (Vx g h) [dz c0]) λc0 h=>ie h (λc1 h=>ra (Vx g h) [dz c0,bl c1]) λc1 h=>let zA:SE:=[dz c0,bl c1];ie h (λc2 h=>cD (Vx g h) zA [bl c2]) λc2 h=>ie h (λc3 h=>cD (Vx g h) zA [bl c2,bN c3]) λc3 h=>cD (Vx g h) zA [bl c2,bN c3]
def avD:G Bool:=
 ite (bU.aQ==1) (AA g (AJ bU.aQ 0 bU.bc bU.kY I' 0 pr bU.cg bU.bu)) (ite (bU.aQ==2) (AA g (AJ bU.aQ 0 0 bU.kY bU.aK bU.aB pr bU.cg bU.bu)) (ite (bU.aQ==3) (AA g (AJ bU.aQ 0 0 0 bU.aK bU.aB bU.bp bU.cg bU.bu)) (ite (bU.aQ==4) (AA g (AJ bU.aQ 0 0 bU.kY I' bU.aB bU.bp bU.cg bU.bu)) (ite (bU.aQ==5) (AA g (AJ bU.aQ 0 bU.bc bU.kY I' bU.aB bU.bp bU.cg bU.bu)) (ite (bU.aQ==6) (AA g (AJ bU.aQ bU.aq bU.bc bU.kY bU.aK bU.aB bU.bp bU.cg (ah.mk I' [] 0 [] []))) (ite (bU.aQ==8) (AA g (AJ bU.aQ 0 0 bU.kY bU.aK bU.aB bU.bp [] bU.bu)) (AA g (AJ bU.aQ 0 bU.bc bU.kY bU.aK bU.aB bU.bp bU.cg bU.bu))))))))
def aTY:KK (A98 []) PS (avD g):=λ_ r h=>ie h (λc0 h=>ra (Hw g h) [LL c0]) λc0 h=>ie h (λc1 h=>ra (Hw g h) [LL c0,aX c1]) λc1 h=>let zA:SE:=[LL c0,aX c1];ie h (λc2 h=>cD (Hw g h) zA [aX c2]) λc2 h=>let zB:SE:=dx zA [aX c2];ie h (λc3 h=>cD (Hw g h) zB [aX c3]) λc3 h=>let zC:SE:=dx zB [aX c3];ie h (λc4 h=>cD (Hw g h) zC [aX c4]) λc4 h=>ie h (λc5 h=>cD (Hw g h) zC [aX c4,aX c5]) λc5 h=>ie h (λc6 h=>cD (Hw g h) zC [aX c4,aX c5,aX c6]) λc6 h=>cD (Hw g h) zC [aX c4,aX c5,aX c6]
def F98:=avD
def ev98:KK (Cx E0 98 dj bE) PS (F98 g):=λ_ _ h=>ca (X:=x98) (aTY g h)
def x42:=fx E0 Tryz.f42 []
def A42:=Ax x42 adj bE
def aMa (b4:af) (a0:aJ) (JH:bC):LS:=⟨[aV 4,(8,.loc 49 0),(65,.bool bd)],[(4,S8),(49,mG (bn a0 (.ms 330460001 5 0 (O JH)))),(330460001,AL JH)]⟩
def aLZ (b4:af) (b9:List Nat):LS:=⟨[aV 2,aV 3,aV 4,(6,.ms 9 1 0 (O b9)),(7,ck u)],[(2,fW (cX w)),(3,vK (oN bU)),(4,S8),(9,.rows U 185 1 (P5 b9))]⟩
def Em (n:Nat) (a2:Bool) (b4:af) (a0:aJ) (JH:bC):G (af×Bool):=
 ite a2 (V ((EY 0 []),U)) (V ((EY a0.cf.aC JH),I))
def Hx:KK (A42 (aI 895)) aMa (Em g):=λ_ _ _ JH r h=>ie h (λc0 bq=>by subst c0;exact (rr bq [(3,.kH 4 (.flat 0 [.bool I,.sl 0 44 5 0 []]))])) λc0 bq=>by subst c0;exact (rr bq [(6,cy.tfr U 330460001 JH)])
def yl (b4:af) (b9:List Nat):G (af×Bool):=
 M (F41 g w) λx2=>M (eT (O b9) u) λlK=>M (b9[0+lK]?) λqh=>ite (qh==148) (M (Fo g (aJ.mk (EY (ba (x2.aC+1)) x2.ag) bU)) λim=>Em g (!im.1) (EY 0 []) im.2 im.2.cf.ag) (ite (qh==149) (M (Fp g (aJ.mk (EY (ba (x2.aC+1)) x2.ag) bU)) λim=>Em g (!im.1) (EY 0 []) im.2 im.2.cf.ag) (ite (qh==150) (M (H4 g (aJ.mk (EY (ba (x2.aC+1)) x2.ag) bU)) λim=>Em g (!im.1) (EY 0 []) im.2 im.2.cf.ag) (ite (qh==151) (M (HW g (aJ.mk (EY (ba (x2.aC+1)) x2.ag) bU)) λim=>Em g (!im.1) (EY 0 []) im.2 im.2.cf.ag) (ite (qh==152) (M (Ic g (aJ.mk (EY (ba (x2.aC+1)) x2.ag) bU)) λim=>Em g (!im.1) (EY 0 []) im.2 im.2.cf.ag) (ite (qh==153) (M (Ih g (aJ.mk (EY (ba (x2.aC+1)) x2.ag) bU)) λim=>Em g (!im.1) (EY 0 []) im.2 im.2.cf.ag) (ite (qh==154) (M (Ik g (aJ.mk (EY (ba (x2.aC+1)) x2.ag) bU)) λim=>Em g (!im.1) (EY 0 []) im.2 im.2.cf.ag) (ite (qh==155) (M (Il g (aJ.mk (EY (ba (x2.aC+1)) x2.ag) bU)) λim=>Em g (!im) (EY 0 []) (aJ.mk (EY (ba (x2.aC+1)) x2.ag) bU) x2.ag) A)))))))
def aIy:KK (A42 (aI 63)) aLZ (yl g):=λ_ _ _ _ _ r h=>be h λx2 dq h=>be h λ_ j8 h=>be h λ_ pD h=>ie h (λc0 bq=>by have c0:=eq_of_beq c0;subst c0;exact (
 be bq λim mc bq=>ra (Hx g bq) [(0,.ord [0,2,1,3,4,5]),(2,.call (LD g dq) [] [(330460001,201001)]),(15,du j8),(0,OQ.row pD),(1,.call (aTA g mc) [(49,0),(330460001,8589934592)] [])])) λc0 h=>ie h (λc1 bq=>by have c1:=eq_of_beq c1;subst c1;exact (
 be bq λim mc bq=>ra (Hx g bq) [(0,.ord [0,2,1,3,4,5]),(2,.call (LD g dq) [] [(330460001,201001)]),(15,du j8),(0,OQ.row pD),(1,.call (aTz g mc) [(49,0),(330460001,8589934592)] [])])) λc1 h=>ie h (λc2 bq=>by have c2:=eq_of_beq c2;subst c2;exact (
 be bq λim mc bq=>ra (Hx g bq) [(0,.ord [0,2,1,3,4,5]),(2,.call (LD g dq) [] [(330460001,201001)]),(15,du j8),(0,OQ.row pD),(1,.call (aTy g mc) [(49,0),(330460001,8589934592)] [])])) λc2 h=>ie h (λc3 bq=>by have c3:=eq_of_beq c3;subst c3;exact (
 be bq λim mc bq=>ra (Hx g bq) [(0,.ord [0,2,1,3,4,5]),(2,.call (LD g dq) [] [(330460001,201001)]),(15,du j8),(0,OQ.row pD),(1,.call (aTx g mc) [(49,0),(330460001,8589934592)] [])])) λc3 h=>ie h (λc4 bq=>by have c4:=eq_of_beq c4;subst c4;exact (
 be bq λim mc bq=>ra (Hx g bq) [(0,.ord [0,2,1,3,4,5]),(2,.call (LD g dq) [] [(330460001,201001)]),(15,du j8),(0,OQ.row pD),(1,.call (aTw g mc) [(49,0),(330460001,8589934592)] [])])) λc4 h=>ie h (λc5 bq=>by have c5:=eq_of_beq c5;subst c5;exact (
 be bq λim mc bq=>ra (Hx g bq) [(0,.ord [0,2,1,3,4,5]),(2,.call (LD g dq) [] [(330460001,201001)]),(15,du j8),(0,OQ.row pD),(1,.call (aTv g mc) [(49,0),(330460001,4294967296)] [])])) λc5 h=>ie h (λc6 bq=>by have c6:=eq_of_beq c6;subst c6;exact (
 be bq λim mc bq=>ra (Hx g bq) [(0,.ord [0,2,1,3,4,5]),(2,.call (LD g dq) [] [(330460001,201001)]),(15,du j8),(0,OQ.row pD),(1,.call (aTu g mc) [(49,0),(330460001,8589934592)] [])])) λc6 h=>ie h (λc7 bq=>by have c7:=eq_of_beq c7;subst c7;exact (
 be bq λim mc bq=>ra (Hx g bq) [(0,.ord [0,2,1,3,4,5]),(2,.call (LD g dq) [] [(330460001,201001)]),(15,du j8),(0,OQ.row pD),(1,.Aj (aTt g mc) [cy.tfr U 330460001 x2.ag,.eD 49 (Q:= []) (n:=0) rfl] trivial [] [])])) λc7 h=>nz h
def awk:G (af×Bool):=
 M (F97 g) λx5=>ite (A' (bU.aQ<1)) (V ((EY 0 []),U)) (ite (!A' ((ba (bU.aQ-1))<(O x5:Int))) (V ((EY 0 []),U)) (M (F98 g bU) λiq=>ite (!iq) (V ((EY 0 []),U)) (ite (bU.aQ !=6) (ite (A' (bU.aq<0)) (V ((EY 0 []),U)) (ite (!A' (bU.aq<(O w.ag:Int))) (V ((EY 0 []),U)) (yl g (ba (bU.aQ-1)) w bU (EY 0 []) x5))) (yl g (ba (bU.aQ-1)) w bU (EY 0 []) x5))))
def aVQ:KK (A42 []) PF (awk g):=λ_ _ r h=>be h λ_ jI h=>let zA:SE:=[(4,.call (ev97 g jI) [] [(9,bL)])];ie h (λc0 h=>bt h zA [hI c0,(7,.kH 4 (.flat 0 [.bool I,.sl 0 44 5 0 []]))]) λc0 h=>let zB:SE:=dx zA [hI c0];ie h (λc1 h=>bt h zB [bl c1,(6,.kH 4 (.flat 0 [.bool I,.sl 0 44 5 0 []]))]) λc1 h=>be h λ_ oo h=>let zC:SE:=dx zB [bl c1,jN (ev98 g oo)];ie h (λc2 h=>bt h zC [aD c2,(4,.kH 4 (.flat 0 [.bool I,.sl 0 44 5 0 []]))]) λc2 h=>let zD:SE:=dx zC [aD c2];ie h (λc3 h=>ie h (λc4 h=>bt h zD [aZ c3,aZ c4,(6,.kH 4 (.flat 0 [.bool I,.sl 0 44 5 0 []]))]) λc4 h=>ie h (λc5 h=>bt h zD [aZ c3,aZ c4,dz c5,(5,.kH 4 (.flat 0 [.bool I,.sl 0 44 5 0 []]))]) λc5 h=>cD (aIy g h) zD [aZ c3,aZ c4,dz c5]) λc3 h=>cD (aIy g h) zD [aZ c3]
def F42:=awk
def ev42:KK (Cx E0 42 adj bE) PF (F42 g):=λ_ _ _ h=>ca (X:=x42) (aVQ g h)
def kz:=fx E0 Tryz.f14 []
def A14:=Ax kz adn UM
def ahn:LS:=⟨[(7,.ms 30 2 0 (O ev)),(31,.tN 46 15 (O ac) (si ac)),(32,iI qr),(33,iI R)],[(30,UK ev)]⟩
def ahm:LS:=⟨[(7,.ms 30 2 0 (O ev))],[(30,UK ev)]⟩
def axD:LS:=⟨[(0,.agg (cX w)),(1,.tN 46 15 (O ac) (si ac))],[]⟩
def ZP (aH:gg->G (gg×Int)) (f7:cj->Int->Int->gg->G (gg×Int)) (n:Nat) (a0:cj) (a2 a3:Int) (JJ:gg):G (gg×Int):=
 ite (A' (a3<a2)) (M (idx a0 a3) λx2=>M (eT (O JJ) (ba ((O JJ:Int)-1))) λdG=>M (JJ[0+dG]?) λdZ=>M (F42 n dZ x2) λgF=>ite (!gF.2) (V ([],280)) (M (Kq n gF.1) λmm=>ite (mm !=0) (V ([],280)) (M (app JJ [gF.1]) λDA=>f7 a0 a2 (ba (a3+1)) DA))) (aH JJ)
def aXe {aH} (aY:KK (A14 (aI 63)) ahm aH) {f7} (aL:KK (A14 (aI 175)) ahn f7) (n:Nat):KK (A14 (aI 175)) ahn (ZP aH f7 n):=λ_ _ _ _ r h=>ie h (λc0 h=>be h λ_ dq h=>be h λ_ fR h=>be h λ_ gj h=>be h λ_ iC h=>let zA:SE:=[aD c0,(0,OP.idx dq),(3,.ord [0,1,2,3,4,5,6,11,7,8,9,10,12,13]),(4,du fR),(0,DQ.row gj),jl (ev42 n iC)];ie h (λc1 h=>bt h zA [dz c1,(4,.born [4] [] bL U 25 2)]) λc1 h=>be h λ_ oK h=>let zB:SE:=dx zA [dz c1,jl (YN n oK)];ie h (λc2 h=>bt h zB [aD c2,(3,.born [4] [] bL U 25 2)]) λc2 h=>be h λ_ Lq h=>cD (aL h) zB [aD c2,(4,DQ.kq Lq)]) λc0 h=>ra (aY h) [aD c0]
def Rf (aH:gg->G (gg×Int)):Nat->cj->Int->Int->gg->G (gg×Int)
 |0=>dK.z
 |n+1=>ZP aH (Rf aH n) n
def aHc {aH} (aY:KK (A14 (aI 63)) ahm aH):∀n:Nat,KK (A14 (aI 175)) ahn (Rf aH n)
 |0=>KC.h
 |n+1=>aXe aY (aHc aY n) n
def ZQ (n:Nat) (JJ:gg):G (gg×Int):=
 V (JJ,0)
def aXd:KK (A14 (aI 63)) ahm (ZQ g):=λ_ r h=>rr h [(3,.iS 30 bL)]
def awB:G (gg×Int):=
 M (Kq g w) λx5=>ite (x5 !=0) (V ([],x5)) (ite (A' (8<(O ac:Int))) (V ([],2)) (ite (A' (1000<(ba (w.aC+(O ac:Int))))) (V ([],2)) (M (F41 g w) λqh=>Rf (ZQ g) g ac (O ac:Int) 0 [qh])))
def aXc:KK (A14 []) axD (awB g):=λ_ _ r h=>be h λ_ jI h=>let zA:SE:=[lY (YN g jI)];ie h (λc0 h=>bt h zA [aS c0,(3,.born [4] [] bL U 25 2)]) λc0 h=>ie h (λc1 h=>bt h zA [aS c0,aS c1,(4,.born [4] [] bL U 25 2)]) λc1 h=>ie h (λc2 h=>bt h zA [aS c0,aS c1,dz c2,(3,.born [4] [] bL U 25 2)]) λc2 h=>be h λqh pD h=>cD (aHc (aXd g) g h) zA [aS c0,aS c1,dz c2,(2,.call (LD g pD) [] [(330290001,vi)]),(0,cy.tfr U 330290001 qh.ag)]
def F14:=awB
def ev14:KK (Cx E0 14 adn UM) axD (F14 g):=λ_ _ _ h=>ca (X:=kz) (aXc g h)
def aFI (r:(ga×Int)):AV:=.dh [.agg (tZ r.1),ck r.2]
def Ck:=fx E0 Tryz.f54 []
def A54:=Ax Ck aFI bE
def axm:LS:=⟨[(0,.agg (cX w)),(1,.tN 46 15 (O ac) (si ac)),(2,iI qr)],[]⟩
def awe:G (ga×Int):=
 M (F14 g w ac) λx6=>ite (x6.2 !=0) (V ((ga.mk [] []),x6.2)) (ite (A' (qr<w.aC)) (V ((ga.mk [] []),1)) (ite (!A' ((ba (qr-w.aC))<(O x6.1:Int))) (V ((ga.mk [] []),1)) (M (cut x6.1 (V (ba (qr-w.aC))) A) λDA=>M (cut ac (V (ba (qr-w.aC))) A) λxw=>V ((ga.mk DA xw),0))))
def aVn:KK (A54 []) axm (awe g):=λ_ _ _ r h=>be h λx6 km h=>let zA:SE:=[(5,.call (ev14 g km) [] [(301400,bL)])];ie h (λc0 h=>bt h zA [dz c0,(4,.kH 6 (.flat 0 [.sl 2 25 2 0 [],.sl 2 46 15 0 []]))]) λc0 h=>ie h (λc1 h=>bt h zA [dz c0,aZ c1,(5,.kH 6 (.flat 0 [.sl 2 25 2 0 [],.sl 2 46 15 0 []]))]) λc1 h=>ie h (λc2 h=>bt h zA [dz c0,aZ c1,hI c2,(4,.kH 6 (.flat 0 [.sl 2 25 2 0 [],.sl 2 46 15 0 []]))]) λc2 h=>be h λ_ Lq h=>be h λ_ Fz h=>bt h zA [dz c0,aZ c1,hI c2,(6,DQ.eD 301400 x6.1),(2,DQ.cut Lq),(2,OP.cut Fz)]
def F54:=awe
def ev54:KK (Cx E0 54 aFI bE) axm (F54 g):=λ_ _ _ _ h=>ca (X:=Ck) (aVn g h)
def adm:AV:=.agg (cX w)
def x55:=fx E0 Tryz.f55 []
def A55:=Ax x55 adm bE
def Uj:LS:=⟨[(0,.agg (tZ ab))],[]⟩
def awd (n:Nat) (l0:ga):G af:=
 M (idx l0.BB (ba ((O l0.BB:Int)-1))) λx9=>V x9
def aVm:KK (A55 []) Uj (awd g):=λ_ r h=>be h λ_ ir h=>rr h [(8,DQ.idx ir)]
def F55:=awd
def ev55:KK (Cx E0 55 adm bE) Uj (F55 g):=λ_ _ h=>ca (X:=x55) (aVm g h)
def x56:=fx E0 Tryz.f56 []
def A56:=Ax x56 adm bE
def aJf (n:Nat) (l0:ga):G af:=
 M (idx l0.BB 0) λx5=>V x5
def aVl:KK (A56 []) Uj (aJf g):=λ_ r h=>be h λ_ jI h=>rr h [(4,DQ.idx jI)]
def F56:=aJf
def aDX:KK (Cx E0 56 adm bE) Uj (F56 g):=λ_ _ h=>ca (X:=x56) (aVl g h)
def xL:AV:=.agg (iF ak)
def ZD:=fx E0 Tryz.f157 []
def ME:=Ax ZD xL bE
def aJE (b6:aP) (b8:gU):LS:=⟨[(2,iI u),aV 4,aV 6,aV 8,(9,.slice 110 6 (O co) (kJ co)),(10,iI ce),(11,iI ch),(19,.bool ef)],[(4,yq (iF es)),(6,yq (iF b6)),(8,.flat 110 (CV b8))]⟩
def PN:LS:=⟨[(2,iI u),aV 4,aV 6,(9,.slice 110 6 (O co) (kJ co)),(10,iI ce),(11,iI ch)],[(4,yq (iF ci)),(6,yq (iF dM))]⟩
def aun:LS:=⟨[aV 4,aV 6],[(4,yq (iF ak)),(6,yq (iF bg))]⟩
def aoi:LS:=⟨[(0,.slice 110 6 (O co) (kJ co)),(1,.agg (iF ci)),(2,iI cm)],[]⟩
def GF (n:Nat) (vP:Int) (t9:gM) (a0 a2:Int) (a3:Bool) (b4 b6:aP) (b8:gU):G aP:=
 ite a3 (ite ((ba (1-vP))==0) (V b8.f0) (ite ((ba (1-vP))==1) (V b8.f1) A)) (ep vP t9 a0 (ba (a2+1)) b4 b6)
def aAT {aH} (aY:KK (ME (aI 21)) PN aH) (n:Nat):KK (ME (aI 3685)) aJE (GF aH n):=λ_ _ _ _ _ _ _ _ r h=>ie h (λc0 bq=>by subst c0;exact (ie bq (λc1 bq=>rr bq [(1,en (k:=.i64) c1)]) λc1 bq=>ie bq (λc2 bq=>rr bq [(1,en (k:=.i64) c2)]) λc2 bq=>nz bq)) λc0 bq=>by subst c0;exact (ra (aY bq) [])
def C8 (n:Nat) (vP:Int) (t9:gM) (a0 a2:Int) (b4 b6:aP):G aP:=
 ite (A' (a2<a0)) (M (idx t9 a2) λx2=>ite (vP==0) (GF ep n 0 t9 a0 a2 ((x2.f0.aB==b4.aB)&&((x2.f0.dt==b4.dt)&&((A' (x2.f0.cH=b4.cH))&&I))) b4 b6 x2) (ite (vP==1) (GF ep n 1 t9 a0 a2 ((x2.f1.aB==b4.aB)&&((x2.f1.dt==b4.dt)&&((A' (x2.f1.cH=b4.cH))&&I))) b4 b6 x2) A)) (cC b4 b6)
def aOK {bw} (cQ:KK (ME [1,1]) aun bw) {f7} (aL:KK (ME (aI 21)) PN f7) (n:Nat):KK (ME (aI 21)) PN (C8 bw f7 n):=λ_ _ _ _ _ _ r h=>ie h (λc0 h=>be h λ_ dq h=>ie h (λc1 bq=>by have c1:=eq_of_beq c1;subst c1;exact (
 ra (aAT aL n bq) [aD c0,(0,Ge.idx dq)])) λc1 h=>ie h (λc2 bq=>by have c2:=eq_of_beq c2;subst c2;exact (
 ra (aAT aL n bq) [aD c0,(0,Ge.idx dq)])) λc2 h=>nz h) λc0 h=>ra (cQ h) [aD c0]
def vu (bw:aaZ):Nat->Int->gM->Int->Int->aP->aP->G aP
 |0=>dK.z
 |n+1=>C8 bw (vu bw n) n
def azp {bw} (cQ:KK (ME [1,1]) aun bw):∀n:Nat,KK (ME (aI 21)) PN (vu bw n)
 |0=>KC.h
 |n+1=>aOK cQ (azp cQ n) n
def AF (n:Nat) (b4 b6:aP):G aP:=
 V b4
def aOJ:KK (ME [1,1]) aun (AF g):=λ_ _ r h=>rr h []
def aBJ:G aP:=
 vu (AF g) g cm co (O co:Int) 0 ci pr
def aOI:KK (ME []) aoi (aBJ g):=λ_ _ _ r h=>ra (azp (aOJ g) g h) []
def RM:=aBJ
def aHK:KK (Cx E0 157 xL bE) aoi (RM g):=λ_ _ _ _ h=>ca (X:=ZD) (aOI g h)
def x107:=fx E0 Tryz.f107 []
def TW:=Ax x107 xL bE
def afp:LS:=⟨[aV 2,aV 3,aV 4,(5,ck u)],[(2,.flat 140 (JB bi)),(3,yq (iF bg)),(4,yq (iF ci))]⟩
def ED:LS:=⟨[aV 3,aV 4],[(3,yq (iF ak)),(4,yq (iF bg))]⟩
def PY:LS:=⟨(HX (JB bi) (iF bg)),[]⟩
def KH (f7:Int->dF->aP->aP->G aP) (n:Nat) (i5:Int) (b2:dF) (b3 b4:aP):G aP:=
 ite (!A' (i5<0)) (M (idx b2.bT i5) λx6=>M (RM n x6 b3 1) λfA=>f7 (ba (i5-1)) b2 fA b4) (cC b3 b4)
def aQP {aH} (aY:KK (TW [1,1]) ED aH) {f7} (aL:KK (TW (aI 21)) afp f7) (n:Nat):KK (TW (aI 21)) afp (KH aH f7 n):=λ_ _ _ _ r h=>ie h (λc0 h=>be h λ_ km h=>be h λ_ iY h=>ra (aL h) [aX c0,(3,R39.idx km),jl (aHK n iY)]) λc0 h=>ra (aY h) [aX c0]
def As (aH:aaZ):Nat->Int->dF->aP->aP->G aP
 |0=>dK.z
 |n+1=>KH aH (As aH n) n
def azX {aH} (aY:KK (TW [1,1]) ED aH):∀n:Nat,KK (TW (aI 21)) afp (As aH n)
 |0=>KC.h
 |n+1=>aQP aY (azX aY n) n
def KG (n:Nat) (b3 b4:aP):G aP:=
 V b3
def aQO:KK (TW [1,1]) ED (KG g):=λ_ _ r h=>rr h []
def XU:G aP:=
 As (KG g) g (ba ((O bi.bT:Int)-1)) bi bg pr
def aQN:KK (TW []) PY (XU g):=λ_ _ r h=>ra (azX (aQO g) g h) []
def Tz:=XU
def aHZ:KK (Cx E0 107 xL bE) PY (Tz g):=λ_ _ _ h=>ca (X:=x107) (aQN g h)
def aFG:AV:=.agg (JB bi)
def x63:=fx E0 Tryz.f63 []
def Pq:=Ax x63 aFG bE
def aLV:LS:=⟨[aV 6,aV 7,(10,iI u),(11,iI C),(16,.tN 46 15 (O ac) (si ac)),(17,iI qr),(18,iI R)],(aCs (pt bi .bY) (pt cp (.ms 44 1 0 (O cq))) cq)⟩
def aLU (b9:aF) (iT:qF):LS:=⟨[aV 6,aV 7,aV 9,(16,.tN 46 15 (O ac) (si ac)),(17,iI qr),(18,iI R)],[(6,.flat 140 (pt bi .bY)),(7,.flat 140 (pt cp (.ms 44 1 0 (O iT)))),(9,vK (oN b9)),(44,.rows I 39 1 (I8 iT))]⟩
def Ns:LS:=⟨[aV 6,aV 7,(16,.tN 46 15 (O ac) (si ac)),(17,iI qr),(18,iI R)],(aCs (pt bi .bY) (pt cp (.ms 44 1 0 (O cq))) cq)⟩
def agt:LS:=⟨[aV 6,aV 7],(aCs (pt bi .bY) (pt cp (.ms 44 1 0 (O cq))) cq)⟩
def axk:LS:=⟨[(0,.tN 46 15 (O ac) (si ac)),(1,iI qr),(2,iI R)],[]⟩
def Mv (n:Nat) (a2 a0:Int) (a3:cj) (a4 a5:Int) (b6 b7:dF) (iT:qF):G dF:=
 ek a3 a4 (ba (a5+1)) (xm b6.gd b6.dQ b6.cI b6.eQ []) (xm a2 a0 b7.cI b7.eQ iT) iT
def aIw {bw} (cQ:KK (Pq (aI 43)) Ns bw) (n:Nat):KK (Pq (aI 64715)) aLV (Mv bw n):=λ_ _ _ _ _ _ _ _ r h=>ra (cQ h) []
def Cc (a0:cj) (a2 a3:Int) (b6 b7:dF) (b9:aF) (iT:qF):G dF:=
 M (R6 dR b9 b7.gd b7.dQ) λx6=>ite (A' (x6.1<0)) (V (xm (-1) (-1) U pr [])) (ite (!x6.2.2) (M (Tz dR (xm b7.gd b7.dQ b7.cI b7.eQ iT) b9.bp) λqh=>Mv ek dR x6.1 x6.2.1 a0 a2 a3 (xm b6.gd b6.dQ b6.cI b6.eQ []) (xm b7.gd b7.dQ U qh iT) iT) (Mv ek dR x6.1 x6.2.1 a0 a2 a3 (xm b6.gd b6.dQ b6.cI b6.eQ []) (xm b7.gd b7.dQ b7.cI b7.eQ iT) iT))
def adS {bw} (cQ:KK (Pq (aI 43)) Ns bw) (n:Nat):KK (Pq (aI 7371)) aLU (Cc bw n):=λ_ _ _ _ _ _ iT r h=>be h λ_ km h=>let zA:SE:=[lX (aHY n km)];ie h (λc0 h=>bt h zA [iO c0,(2,.kH 6 (.flat 0 (uu 6 [.sl 0 39 1 0 []])))]) λc0 h=>ie h (λc1 h=>be h λ_ pD h=>cD (aIw cQ n h) zA [iO c0,aX c1,(3,.Aj (aHZ n pD) [R39.eD 44 iT] trivial [] [])]) λc1 h=>cD (aIw cQ n h) zA [iO c0,aX c1]
def Rr (bD:Wf54) (f7:aEO) (n:Nat) (a0:cj) (a2 a3:Int) (b6 b7:dF) (iT:qF):G dF:=
 ite (A' (a3<a2)) (M (idx a0 a3) λx2=>ite (x2.aQ==8) (ite (x2.aq==b7.gd) (ite (x2.bc==b7.dQ) (M (app iT [x2.cg]) λEX=>Cc f7 n a0 a2 a3 (xm b6.gd b6.dQ b6.cI b6.eQ []) (xm b7.gd b7.dQ b7.cI b7.eQ EX) x2 EX) (Cc f7 n a0 a2 a3 (xm b6.gd b6.dQ b6.cI b6.eQ []) (xm b7.gd b7.dQ b7.cI b7.eQ iT) x2 iT)) (Cc f7 n a0 a2 a3 (xm b6.gd b6.dQ b6.cI b6.eQ []) (xm b7.gd b7.dQ b7.cI b7.eQ iT) x2 iT)) (Cc f7 n a0 a2 a3 (xm b6.gd b6.dQ b6.cI b6.eQ []) (xm b7.gd b7.dQ b7.cI b7.eQ iT) x2 iT)) (bD (xm b6.gd b6.dQ b6.cI b6.eQ []) (xm b7.gd b7.dQ b7.cI b7.eQ iT) iT)
def aVg {bD} (cV:KK (Pq [1,1,1]) agt bD) {f7} (aL:KK (Pq (aI 43)) Ns f7) (n:Nat):KK (Pq (aI 43)) Ns (Rr bD f7 n):=λ_ _ _ _ _ _ r h=>ie h (λc0 h=>be h λ_ dq h=>let zA:SE:=[aD c0,(0,OP.idx dq)];ie h (λc1 h=>ie h (λc2 h=>ie h (λc3 h=>be h λ_ Bw h=>cD (adS aL n h) zA [bN c1,bN c2,dz c3,(6,R39.kq Bw)]) λc3 h=>cD (adS aL n h) zA [bN c1,bN c2,dz c3]) λc2 h=>cD (adS aL n h) zA [bN c1,bN c2]) λc1 h=>cD (adS aL n h) zA [bN c1]) λc0 h=>ra (cV h) [aD c0]
def yj (bD:Wf54):Nat->cj->Int->Int->dF->dF->qF->G dF
 |0=>dK.z
 |n+1=>Rr bD (yj bD n) n
def aGt {bD} (cV:KK (Pq [1,1,1]) agt bD):∀n:Nat,KK (Pq (aI 43)) Ns (yj bD n)
 |0=>KC.h
 |n+1=>aVg cV (aGt cV n) n
def El (n:Nat) (b6 b7:dF) (iT:qF):G dF:=
 V (xm b7.gd b7.dQ b7.cI b7.eQ iT)
def aVf:KK (Pq [1,1,1]) agt (El g):=λ_ _ iT r h=>rr h [(2,R39.eD 44 iT),(0,.kH 6 (.flat 0 (uu 6 [.sl 0 0 0 0 []])))]
def aJe:G dF:=
 yj (El g) g ac (O ac:Int) 0 (xm 0 0 U pr []) (xm qr R I pr []) []
def aVe:KK (Pq []) axk (aJe g):=λ_ _ _ r h=>ra (aGt (aVf g) g h) [(9,.born [] [(7,6)] 44 I 39 1)]
def F63:=aJe
def YT:KK (Cx E0 63 aFG bE) axk (F63 g):=λ_ _ _ _ h=>ca (X:=x63) (aVe g h)
def ayc:AV:=.ms bL 7 0 (O bj)
def apd:List (Nat×Bx):= [(bL,.rows I 140 7 (vH bj))]
def ZA:=fx E0 Tryz.f105 []
def TX:=Ax ZA ayc apd
def afm:LS:=⟨[(1,ck u),aV 2,(5,.ms 25 7 0 (O bj)),(14,ck C),(15,ck vQ)],[(2,.flat 123 (tZ ab)),(25,.rows I 140 7 (vH bj))]⟩
def afn:LS:=⟨[(5,.ms 25 7 0 (O bj))],[(25,.rows I 140 7 (vH bj))]⟩
def P0:LS:=⟨[(0,.agg (tZ ab)),(1,ck R)],[]⟩
def XY (aH:lJ->G lJ) (f7:Int->Int->Int->ga->lJ->G lJ) (n:Nat) (t1 a2 a3:Int) (b2:ga) (a0:lJ):G lJ:=
 ite (A' (a3<a2)) (M (F63 n b2.CT t1 a3) λx9=>M (app a0 [x9]) λiK=>f7 t1 a2 (ba (a3+1)) b2 iK) (aH a0)
def aQV {aH} (aY:KK (TX [1,1,1]) afn aH) {f7} (aL:KK (TX (aI 43)) afm f7) (n:Nat):KK (TX (aI 43)) afm (XY aH f7 n):=λ_ _ _ _ _ r h=>ie h (λc0 h=>be h λ_ ir h=>be h λ_ gR h=>ra (aL h) [aD c0,uI (YT n ir),(1,NS.kq gR)]) λc0 h=>ra (aY h) [aD c0]
def Kj (aH:lJ->G lJ):Nat->Int->Int->Int->ga->lJ->G lJ
 |0=>dK.z
 |n+1=>XY aH (Kj aH n) n
def azZ {aH} (aY:KK (TX [1,1,1]) afn aH):∀n:Nat,KK (TX (aI 43)) afm (Kj aH n)
 |0=>KC.h
 |n+1=>aQV aY (azZ aY n) n
def XX (n:Nat) (a0:lJ):G lJ:=
 V a0
def aQU:KK (TX [1,1,1]) afn (XX g):=λ_ r h=>rr h [(2,.iS 25 bL)]
def XW:G lJ:=
 M (F56 g ab) λx5=>M (idx x5.ag R) λx9=>Kj (XX g) g R (O x9.L:Int) 0 ab []
def aQT:KK (TX []) P0 (XW g):=λ_ _ r h=>be h λ_ jI h=>be h λ_ ir h=>ra (azZ (aQU g) g h) [lY (aDX g jI),(2,cy.idx ir),(4,.born [5] [] 25 I 140 7)]
def R4:=XW
def aIa:KK (Cx E0 105 ayc apd) P0 (R4 g):=λ_ _ _ h=>ca (X:=ZA) (aQT g h)
def sm:AV:=.ms bL 3 0 (O B)
def r9:List (Nat×Bx):= [(bL,xx B)]
def x106:=fx E0 Tryz.f106 []
def MG:=Ax x106 sm r9
def aJM:LS:=⟨[(0,.slice 38 3 (O B) (cY B)),(4,.ms 31 3 0 (O an)),aV 7,(11,.slice 140 7 (O bj) (vH bj)),(12,iI bK),(13,iI bB)],[(7,yq (iF ci)),(31,xx an)]⟩
def PZ:LS:=⟨[(0,.slice 38 3 (O B) (cY B)),(4,.ms 31 3 0 (O an)),(11,.slice 140 7 (O bj) (vH bj)),(12,iI bK),(13,iI bB)],[(31,xx an)]⟩
def afo:LS:=⟨[(4,.ms 31 3 0 (O B))],[(31,xx B)]⟩
def aoB:LS:=⟨[(0,.slice 38 3 (O B) (cY B)),(1,.kX (ajt bj))],[]⟩
def Po (n:Nat) (j5:aU) (a0:lJ) (a2 a3:Int) (DN:aU) (b7:aP):G aU:=
 M (app DN [b7]) λx4=>em j5 a0 a2 (ba (a3+1)) x4
def aBa {aH} (aY:KK (MG (aI 87)) PZ aH) (n:Nat):KK (MG (aI 31127)) aJM (Po aH n):=λ_ _ _ _ _ _ r h=>be h λ_ ic h=>ra (aY h) [(3,iG.kq ic)]
def XV (j5:aU) (a0:lJ) (a2 a3:Int) (DN:aU):G aU:=
 ite (A' (a3<a2)) (M (idx a0 a3) λx2=>ite x2.cI (M (idx j5 x2.dQ) λjh=>M (Tz eo x2 jh) λlK=>Po em eo j5 a0 a2 a3 DN lK) (Po em eo j5 a0 a2 a3 DN x2.eQ)) (ed DN)
def aQS {bw} (cQ:KK (MG (aI 31)) afo bw) {f7} (aL:KK (MG (aI 87)) PZ f7) (n:Nat):KK (MG (aI 87)) PZ (XV bw f7 n):=λ_ _ _ _ _ r h=>ie h (λc0 h=>be h λ_ dq h=>ie h (λc1 h=>be h λ_ iX h=>be h λ_ j8 h=>ra (aBa aL n h) [aD c0,(0,NS.idx dq),iO c1,(4,iG.idx iX),rJ (aHZ n j8)]) λc1 h=>ra (aBa aL n h) [aD c0,(0,NS.idx dq),iO c1]) λc0 h=>ra (cQ h) [aD c0]
def Gx (bw:auw):Nat->aU->lJ->Int->Int->aU->G aU
 |0=>dK.z
 |n+1=>XV bw (Gx bw n) n
def azY {bw} (cQ:KK (MG (aI 31)) afo bw):∀n:Nat,KK (MG (aI 87)) PZ (Gx bw n)
 |0=>KC.h
 |n+1=>aQS cQ (azY cQ n) n
def Pn (n:Nat) (DN:aU):G aU:=
 V DN
def aQR:KK (MG (aI 31)) afo (Pn g):=λ_ r h=>rr h [(2,.iS 31 bL)]
def amP:G aU:=
 ite ((O B:Int)==0) (V []) (Gx (Pn g) g B bj (O bj:Int) 0 [])
def aQQ:KK (MG []) aoB (amP g):=λ_ _ r h=>ie h (λc0 h=>rr h [aZ c0,(1,.born [3] [] bL I 38 3)]) λc0 h=>ra (azY (aQR g) g h) [aZ c0,(4,.born [4] [] 31 I 38 3)]
def Sr:=amP
def aTO:KK (Cx E0 106 sm r9) aoB (Sr g):=λ_ _ _ h=>ca (X:=x106) (aQQ g h)
def aFH (r:(Int×lJ)):AV:=.dh [ck r.1,.fn 106 [] [.kX (ajt r.2)]]
def x57:=fx E0 Tryz.f57 []
def A57:=Ax x57 aFH bE
def awc:G (Int×lJ):=
 M (R4 g ab R) λx6=>M (F63 g ab.CT R (-1)) λdZ=>V (dZ.gd,x6)
def aVk:KK (A57 []) P0 (awc g):=λ_ _ r h=>be h λx6 km h=>be h λ_ gj h=>rr h [(5,.call (aIa g km) [] [(9,bL)]),lX (YT g gj),(4,NS.eD 9 x6),(0,.kH 6 (.flat 0 [.sl 0 0 0 0 []])),(0,.eD 6 (Q:= []) (n:=0) rfl)]
def F57:=awc
def ev57:KK (Cx E0 57 aFH bE) P0 (F57 g):=λ_ _ _ h=>ca (X:=x57) (aVk g h)
def adp (r:(aE×Int)):AV:=.dh [.agg (kV r.1),ck r.2]
def nP:=fx E0 Tryz.f21 []
def HS:=Ax nP adp bE
def ahh (td:aE) (cJ:ga) (wP:aE) (gf:dA):LS:=⟨[aV 9,aV 10,aV 12,aV 15,(16,iI u),(18,.fn 106 [] [.kX (ajt bj)]),(49,iI bK),(50,iI bB),(65,.slice 70 1 (O d9) (je d9)),(66,iI dJ),(67,iI dL)],[(9,wv (kV eq)),(10,yr),(12,.flat 123 (tZ cJ)),(15,.flat 51 [.ms 45 1 0 (O gf)]),(45,UH gf)]⟩
def E8 (td:aE) (cJ:ga) (wP:aE) (gf:dA):LS:=⟨[aV 9,aV 10,aV 12,aV 15,(49,ck u),(50,ck C)],[(9,wv (kV H)),(10,yr),(12,.flat 123 (tZ cJ)),(15,.flat 51 [.ms 45 1 0 (O gf)]),(45,UH gf)]⟩
def ahg (td wP:aE) (gf:dA):LS:=⟨[aV 10,aV 15],[(10,yr),(15,.flat 51 [.ms 45 1 0 (O gf)]),(45,UH gf)]⟩
def axA:LS:=⟨[(0,.agg (cX w)),(1,.tN 46 15 (O ac) (si ac)),(2,iI qr),(3,iI R),(4,.agg (kV bG))],[]⟩
def ZZ (f7:Int->lJ->Int->Int->bz->Int->Int->aE->aE->ga->aE->dA->G (aE×Int)) (n:Nat) (a0:Int) (aa8:lJ) (a2 a3:Int) (a4:bz) (a5 a6:Int) (b9 td:aE) (cJ:ga) (wP:aE) (gf:dA):G (aE×Int):=
 ite (A' (a6<a5)) (M (idx a4 a6) λx2=>M (eT (O gf) a0) λx5=>M (gf[0+x5]?) λu7=>M (Sr n x2 aa8) λkO=>M (app u7 [kO]) λqh=>M (setAt gf (0+x5) qh) λa7=>f7 a0 aa8 a2 a3 a4 a5 (ba (a6+1)) b9 (NH []) cJ (NH a7) a7) (dl a2 a3 b9 (NH []) cJ (NH gf) gf)
def aWN {aH} (aY:KK (HS (aI 7775)) E8 aH) {f7} (aL:KK (HS (aI 386655)) ahh f7) (n:Nat):KK (HS (aI 386655)) ahh (ZZ aH f7 n):=λ_ _ _ _ _ _ _ _ _ _ _ _ r h=>ie h (λc0 h=>be h λ_ dq h=>be h λ_ jI h=>be h λu7 NZ h=>be h λkO mY h=>be h λqh pD h=>be h λ_ zW h=>ra (aL h) [aD c0,(0,ke.idx dq),(2,p9.pc ke 45 800450 0 U 70 1 u7 NZ [.undef]),(6,du jI),(3,uk (iE.res (.sl 0 38 3 0 []) (cd (e:=38) (z:=I) (Q:=cY kO) (aTO n mY) (iG.len kO)))),(1,ke.kq pD),(0,du jI),(0,p9.zZ 0 [.undef] [.undef] NZ),(2,p9.jf ke (r:= [.undef]) 45 800450 0 U 70 1 qh zW),(0,.beq 15 (bH (λn_=>(Bx.flat 51 [.ms 45 1 0 n_])) (eB zW)))]) λc0 h=>ra (aY h) [aD c0]
def Ra (aH:auv):Nat->Int->lJ->Int->Int->bz->Int->Int->aE->aE->ga->aE->dA->G (aE×Int)
 |0=>dK.z
 |n+1=>ZZ aH (Ra aH n) n
def aGW {aH} (aY:KK (HS (aI 7775)) E8 aH):∀n:Nat,KK (HS (aI 386655)) ahh (Ra aH n)
 |0=>KC.h
 |n+1=>aWN aY (aGW aY n) n
def RE (n:Nat) (a0 a2:Int) (b9 td:aE) (cJ:ga) (wP:aE) (gf:dA):G (aE×Int):=
 dl a0 (ba (a2+1)) b9 (NH []) cJ (NH gf) gf
def aIG {bw} (cQ:KK (HS (aI 351)) E8 bw) (n:Nat):KK (HS (aI 7775)) E8 (RE bw n):=λ_ _ _ _ _ _ _ r h=>ra (cQ h) []
def Za (td:aE) (cJ:ga) (wP:aE) (gf:dA):G (aE×Int):=
 ite (A' (d5<cv)) (M (F57 d4 cJ d5) λx6=>ite (A' (x6.1<0)) (RE dl d4 cv d5 cw (NH []) cJ (NH gf) gf) (M (idx cw.ag x6.1) λjo=>Ra (RE dl d4) d4 d5 x6.2 cv d5 jo (O jo:Int) 0 cw (NH []) cJ (NH gf) gf)) (d1 (NH []) (NH gf) gf)
def aWM {bD} (cV:KK (HS (aI 127)) ahg bD) {f7} (aL:KK (HS (aI 351)) E8 f7) (n:Nat):KK (HS (aI 351)) E8 (Za bD f7 n):=λ_ _ _ _ _ _ _ r h=>ie h (λc0 h=>be h λ_ km h=>let zA:SE:=[aD c0,lY (ev57 n km)];ie h (λc1 h=>cD (aIG aL n h) zA [dz c1]) λc1 h=>be h λ_ jW h=>cD (aGW (aIG aL n) n h) zA [dz c1,(3,p9.idx jW)]) λc0 h=>ra (cV h) [aD c0]
def HH (bD:auu):Nat->Int->Int->aE->aE->ga->aE->dA->G (aE×Int)
 |0=>dK.z
 |n+1=>Za bD (HH bD n) n
def aGV {bD} (cV:KK (HS (aI 127)) ahg bD):∀n:Nat,KK (HS (aI 351)) E8 (HH bD n)
 |0=>KC.h
 |n+1=>aWM cV (aGV cV n) n
def RD (n:Nat) (td wP:aE) (gf:dA):G (aE×Int):=
 V ((NH gf),0)
def aWL:KK (HS (aI 127)) ahg (RD g):=λ_ _ gf r h=>rr h [(3,p9.tfr U 45 gf)]
def awx:G (aE×Int):=
 M (F54 g w ac qr) λx8=>ite (x8.2 !=0) (V ((NH []),x8.2)) (M (F55 g x8.1) λkO=>M (F26 g kO R bG) λiq=>ite (iq !=0) (V ((NH []),iq)) (M (F56 g x8.1) λEX=>M (rT (O EX.ag:Int) ([]:bz)) λoD=>HH (RD g) g (O oD:Int) 0 bG (NH []) x8.1 (NH oD) oD))
def aWK:KK (HS []) axA (awx g):=λ_ _ _ _ _ r h=>be h λ_ lr h=>let zA:SE:=[uI (ev54 g lr)];ie h (λc0 h=>bt h zA [hI c0,(4,.kH 10 (.flat 0 [.sl 0 68 1 0 []]))]) λc0 h=>be h λ_ mY h=>be h λ_ oo h=>let zB:SE:=dx zA [hI c0,(0,.ord [0,2,3,1,4,5]),jN (ev55 g mY),kj (YO g oo)];ie h (λc1 h=>bt h zB [aS c1,(4,.kH 10 (.flat 0 [.sl 0 68 1 0 []]))]) λc1 h=>be h λ_ Bw h=>be h λ_ xE h=>cD (aGV (aWL g) g h) zB [aS c1,rJ (aDX g Bw),(2,p9.made xE [.o U [.d]]),(0,.seq 45 (bH (AV.ms 45 1 0) ((K0 xE))))]
def F21:=awx
def aEb:KK (Cx E0 21 adp bE) axA (F21 g):=λ_ _ _ _ _ _ h=>ca (X:=nP) (aWK g h)
def Nc:=fx E0 Tryz.f118 []
def TT:=Ax Nc dj bE
def afv:LS:=⟨[(1,.slice 3 1 (O E) (dP E)),(12,.slice 38 3 (O F) (cY F)),(13,iI D),(14,iI qr)],[]⟩
def afw:LS:=⟨[],[]⟩
def aox:LS:=⟨[(0,.slice 38 3 (O B) (cY B)),(1,.slice 3 1 (O E) (dP E))],[]⟩
def XP (f7:aN->aU->Int->Int->G Bool) (n:Nat) (ale:aN) (a0:aU) (a2 a3:Int):G Bool:=
 ite (A' (a3<a2)) (M (idx a0 a3) λx3=>M (Tu n x3) λfA=>ite (!fA) (V U) (M (idx ale a3) λjo=>ite (x3.aB !=jo) (V U) (f7 ale a0 a2 (ba (a3+1))))) cF
def aQC {aH} (aY:KK (TT [1,1,1]) afw aH) {f7} (aL:KK (TT (aI 43)) afv f7) (n:Nat):KK (TT (aI 43)) afv (XP aH f7 n):=λ_ _ _ _ r h=>ie h (λc0 h=>be h λ_ eP h=>be h λ_ iY h=>let zA:SE:=[aD c0,(1,iG.idx eP),lX (adI n iY)];ie h (λc1 h=>bt h zA [aD c1]) λc1 h=>be h λ_ jW h=>ie h (λc2 h=>bt h zA [aD c1,(5,R3.idx jW),aX c2]) λc2 h=>cD (aL h) zA [aD c1,(5,R3.idx jW),aX c2]) λc0 h=>ra (aY h) [aD c0]
def Kh (aH:G Bool):Nat->aN->aU->Int->Int->G Bool
 |0=>dK.z
 |n+1=>XP aH (Kh aH n) n
def azU {aH} (aY:KK (TT [1,1,1]) afw aH):∀n:Nat,KK (TT (aI 43)) afv (Kh aH n)
 |0=>KC.h
 |n+1=>aQC aY (azU aY n) n
def XO (n:Nat):G Bool:=
 V I
def aQB:KK (TT [1,1,1]) afw (XO g):=λr h=>rr h []
def amL:G Bool:=
 ite ((O B:Int) !=(O E:Int)) (V U) (Kh (XO g) g E B (O B:Int) 0)
def aQA:KK (TT []) aox (amL g):=λ_ _ r h=>ie h (λc0 h=>rr h [bN c0]) λc0 h=>ra (azU (aQB g) g h) [bN c0]
def pA:=amL
def aHV:KK (Cx E0 118 dj bE) aox (pA g):=λ_ _ _ h=>ca (X:=Nc) (aQA g h)
def x119:=fx E0 Tryz.f119 []
def A119:=Ax x119 BX CA
def amK:G aN:=
 M (F45 g w C) λx5=>M (Mn g w C) λfA=>ite (!fA) (V []) (M (idx w.ag C) λjh=>ite (A' (jh.av<0)) (V []) (M (idx w.ag C) λtI=>M (ou (O x5) (ite ((O x5:Int)<tI.av) (O x5:Int) tI.av)) λIX=>V (C' IX x5)))
def aQz:KK (A119 []) Cs (amK g):=λ_ _ r h=>be h λx5 jI h=>be h λ_ iY h=>let zA:SE:=[(4,.call (aDY g jI) [] [(8,bL)]),jN (LG g iY)];ie h (λc0 h=>bt h zA [aD c0,(3,.born [4] [] bL U 3 1)]) λc0 h=>be h λ_ iX h=>ie h (λc1 h=>bt h zA [aD c0,(4,cy.idx iX),aS c1,(2,.born [4] [] bL U 3 1)]) λc1 h=>be h λ_ FA h=>be h λIX H9 h=>bt h zA [aD c0,(4,cy.idx iX),aS c1,(5,cy.idx FA),(5,R3.ou (xs:=x5) H9 (qz rfl)),(1,.iS 8 bL),(0,.shr bL (R3.take x5 IX)),(0,.seq 4 (bH (AV.ms bL 1 0) ((Co (xs:=x5) (lO (uq H9).2 (qz rfl))).symm)))]
def wg:=amK
def aTL:KK (Cx E0 119 BX CA) Cs (wg g):=λ_ _ _ h=>ca (X:=x119) (aQz g h)
def aoW:List (Nat×Bx):= [(bL,.rows U 38 3 (cY B))]
def x164:=fx E0 Tryz.f164 []
def A164:=Ax x164 sm aoW
def alY:G aU:=
 M (Mn g w C) λx5=>ite (!x5) (V []) (M (idx w.ag C) λiK=>ite (A' (iK.av<0)) (V []) (M (idx w.ag C) λiq=>M (cut F A (V (ite ((O F:Int)<iq.av) (O F:Int) iq.av))) λse=>M (app [] se) λx32=>V x32))
def aOB:KK (A164 []) I4 (alY g):=λ_ _ _ r h=>be h λ_ jI h=>let zA:SE:=[lY (LG g jI)];ie h (λc0 h=>bt h zA [aD c0,(3,.born [6] [] bL U 38 3)]) λc0 h=>be h λ_ gR h=>ie h (λc1 h=>bt h zA [aD c0,(4,cy.idx gR),aS c1,(2,.born [6] [] bL U 38 3)]) λc1 h=>be h λ_ oo h=>be h λ_ yB h=>be h λ_ Ov h=>bt h zA [aD c0,(4,cy.idx gR),aS c1,(6,cy.idx oo),(5,iG.cut yB),(0,iG.app Ov),(1,.iS 20 bL)]
def Y0:=alY
def aTo:KK (Cx E0 164 sm aoW) I4 (Y0 g):=λ_ _ _ _ h=>ca (X:=x164) (aOB g h)
def x120:=fx E0 Tryz.f120 []
def TS:=Ax x120 dj bE
def afx:LS:=⟨[aV 3,(5,.ms 43 1 0 (O ad)),(6,.ms 74 1 0 (O bR)),(7,iI u),(53,.slice 3 1 (O E) (dP E)),(54,iI vQ),(55,iI D)],[(3,zM (nu N)),(43,DD ad),(74,Dh bR)]⟩
def ajV:LS:=⟨[aV 3,(6,.ms 74 1 0 (O ad))],[(3,zM (nu N)),(74,Dh ad)]⟩
def aow:LS:=⟨(HX (cX w) (nu N)),[]⟩
def XN (aH:aW->aN->G Bool) (f7:Int->aN->Int->Int->aW->aN->aN->G Bool) (n:Nat) (ass:Int) (a0:aN) (a2 a3:Int) (b3:aW) (DM MY:aN):G Bool:=
 ite (A' (a3<a2)) (M (idx a0 a3) λx2=>ite (!A' (ass<x2)) (V U) (ite (!A' (x2<(O DM:Int))) (V U) (M (eT (O DM) x2) λjo=>M (DM[0+jo]?) λlK=>M (app MY [lK]) λiq=>f7 x2 a0 a2 (ba (a3+1)) b3 DM iq))) (aH b3 MY)
def aQy {aH} (aY:KK (TS (aI 8053)) ajV aH) {f7} (aL:KK (TS (aI 22389)) afx f7) (n:Nat):KK (TS (aI 22389)) afx (XN aH f7 n):=λ_ _ _ _ _ _ _ r h=>ie h (λc0 h=>be h λ_ dq h=>let zA:SE:=[aD c0,(0,R3.idx dq)];ie h (λc1 h=>bt h zA [bl c1]) λc1 h=>ie h (λc2 h=>bt h zA [bl c1,bl c2]) λc2 h=>be h λ_ jW h=>be h λ_ j8 h=>be h λ_ oo h=>cD (aL h) zA [bl c1,bl c2,(4,du jW),(0,R3.row j8),(1,R3.kq oo)]) λc0 h=>ra (aY h) [aD c0]
def Gv (aH:aW->aN->G Bool):Nat->Int->aN->Int->Int->aW->aN->aN->G Bool
 |0=>dK.z
 |n+1=>XN aH (Gv aH n) n
def azT {aH} (aY:KK (TS (aI 8053)) ajV aH):∀n:Nat,KK (TS (aI 22389)) afx (Gv aH n)
 |0=>KC.h
 |n+1=>aQy aY (azT aY n) n
def KB:G Bool:=
 M (pA g N.cB ad) λx4=>V x4
def aQx:KK (TS (aI 8053)) ajV (KB g):=λ_ MY r h=>be h λ_ ic h=>rr h [(3,R3.eD 74 MY),kj (aHV g ic)]
def amJ:G Bool:=
 ite (N.aQ==1) (ite ((O N.L:Int)==0) (M (F66 g w N.aq N.cB 1) λjo=>ite jo (M (Y0 g w N.aq N.cB) λtI=>M (Ko g tI N.av) λrN=>V (rN==0)) (V U)) (V U)) (ite (N.aQ==2) (M (F45 g w N.aq) λdZ=>M (idx w.ag N.aq) λnP=>Gv (KB g) g (ba (nP.av-1)) N.L (O N.L:Int) 0 N dZ []) (ite ((O N.L:Int)==0) (V ((O N.cB:Int)==0)) (V U)))
def aQw:KK (TS []) aow (amJ g):=λ_ _ r h=>ie h (λc0 h=>let zA:SE:=[bN c0,(1,.ord [0,1,2,3,4,5,6,7,8,9,10,11,12,13,14,15,16,17,19,20,18,21,22,23,24])];ie h (λc1 h=>be h λ_ jW h=>let zB:SE:=dx zA [aZ c1,vU (aDW g jW)];ie h (λc2 bq=>by subst c2;exact (be bq λtI FA bq=>be bq λrN uJ bq=>bt bq zB [(9,uk (cd (e:=38) (z:=U) (Q:=cY tI) (aTo g FA) (iG.len tI))),kj (Ig g uJ)])) λc2 bq=>by subst c2;exact (rr bq zB)) λc1 h=>bt h zA [aZ c1]) λc0 h=>ie h (λc1 h=>be h λ_ gj h=>be h λ_ pE h=>ra (azT (aQx g) g h) [bN c0,aX c1,(4,.call (aDY g gj) [] [(43,bL)]),(6,cy.idx pE),(8,.born [6] [] 74 I 3 1)]) λc1 h=>ie h (λc2 h=>rr h [bN c0,aX c1,bl c2]) λc2 h=>rr h [bN c0,aX c1,bl c2]
def Sw:=amJ
def aTK:KK (Cx E0 120 dj bE) aow (Sw g):=λ_ _ _ h=>ca (X:=x120) (aQw g h)
def x121:=fx E0 Tryz.f121 []
def A121:=Ax x121 dU bE
def aov:LS:=⟨(HX (nu N) (nu Z)),[]⟩
def amI:G Int:=
 ite (N.aq !=Z.aq) (ite (A' (N.aq<Z.aq)) (V (-1)) (V 1)) (M (Ko g N.av Z.av) λdZ=>V dZ)
def aQv:KK (A121 []) aov (amI g):=λ_ _ r h=>ie h (λc0 h=>ie h (λc1 h=>rr h [hI c0,bl c1]) λc1 h=>rr h [hI c0,bl c1]) λc0 h=>be h λ_ gj h=>rr h [hI c0,lY (Ig g gj)]
def Sz:=amI
def aTJ:KK (Cx E0 121 dU bE) aov (Sz g):=λ_ _ _ h=>ca (X:=x121) (aQv g h)
def x73:=fx E0 Tryz.f73 []
def A73:=Ax x73 dU bE
def agp:LS:=⟨[(1,.slice 113 5 (O ul) (qS ul)),aV 2,(16,.slice 113 5 (O aT) (qS aT)),(17,iI ce),(18,iI ch)],[(2,fW (cX cu))]⟩
def ago:LS:=⟨[],[]⟩
def axf:LS:=⟨[(0,.agg (cX w)),(1,.slice 113 5 (O ul) (qS ul))],[]⟩
def Zp (f7:dk->dk->Int->Int->af->G Int) (n:Nat) (ael a0:dk) (a2 a3:Int) (b2:af):G Int:=
 ite (A' (a3<a2)) (M (idx a0 a3) λx3=>ite (A' (x3.aQ<1)) (V 1) (ite (A' (3<x3.aQ)) (V 1) (ite (A' (x3.aq<0)) (V 1) (ite (!A' (x3.aq<(O b2.ag:Int))) (V 1) (M (wg n b2 x3.aq) λDA=>M (pA n x3.av DA) λuZ=>ite (!uZ) (V 270) (M (Sw n b2 x3) λNa=>ite (!Na) (V 270) (ite (A' (0<a3)) (M (idx ael (ba (a3-1))) λa4=>M (Sz n a4 x3) λx57=>ite (!A' (x57<0)) (V 270) (f7 ael a0 a2 (ba (a3+1)) b2)) (f7 ael a0 a2 (ba (a3+1)) b2)))))))) d3
def aUQ {aH} (aY:KK (A73 (aI 31)) ago aH) {f7} (aL:KK (A73 (aI 87)) agp f7) (n:Nat):KK (A73 (aI 87)) agp (Zp aH f7 n):=λ_ _ _ _ _ r h=>ie h (λc0 h=>be h λ_ eP h=>let zA:SE:=[aD c0,(1,rB.idx eP)];ie h (λc1 h=>bt h zA [dz c1]) λc1 h=>let zB:SE:=dx zA [dz c1];ie h (λc2 h=>bt h zB [aZ c2]) λc2 h=>let zC:SE:=dx zB [aZ c2];ie h (λc3 h=>bt h zC [bl c3]) λc3 h=>let zD:SE:=dx zC [bl c3];ie h (λc4 h=>bt h zD [hI c4]) λc4 h=>be h λDA Lq h=>be h λ_ yA h=>let zE:SE:=dx zD [hI c4,(6,uk (cd (e:=3) (z:=U) (Q:=dP DA) (aTL n Lq) (R3.len DA))),kj (aHV n yA)];ie h (λc5 h=>bt h zE [aD c5]) λc5 h=>be h λ_ SP h=>let zF:SE:=dx zE [aD c5,jN (aTK n SP)];ie h (λc6 h=>bt h zF [aD c6]) λc6 h=>ie h (λc7 h=>be h λ_ aDk h=>be h λ_ hx57 h=>let zG:SE:=dx zF [aD c6,aS c7,(4,rB.idx aDk),jl (aTJ n hx57)];ie h (λc8 h=>bt h zG [aD c8]) λc8 h=>cD (aL h) zG [aD c8]) λc7 h=>cD (aL h) zF [aD c6,aS c7]) λc0 h=>ra (aY h) [aD c0]
def QS (aH:G Int):Nat->dk->dk->Int->Int->af->G Int
 |0=>dK.z
 |n+1=>Zp aH (QS aH n) n
def aGq {aH} (aY:KK (A73 (aI 31)) ago aH):∀n:Nat,KK (A73 (aI 87)) agp (QS aH n)
 |0=>KC.h
 |n+1=>aUQ aY (aGq aY n) n
def Zq (n:Nat):G Int:=
 V 0
def aUP:KK (A73 (aI 31)) ago (Zq g):=λr h=>rr h []
def avT:G Int:=
 M (Kq g w) λx4=>ite (x4 !=0) (V x4) (ite (A' (64<(O ul:Int))) (V 2) (QS (Zq g) g ul ul (O ul:Int) 0 w))
def aUO:KK (A73 []) axf (avT g):=λ_ _ r h=>be h λ_ ic h=>let zA:SE:=[jN (YN g ic)];ie h (λc0 h=>bt h zA [aS c0]) λc0 h=>ie h (λc1 h=>bt h zA [aS c0,aS c1]) λc1 h=>cD (aGq (aUP g) g h) zA [aS c0,aS c1]
def F73:=avT
def ev73:KK (Cx E0 73 dU bE) axf (F73 g):=λ_ _ _ h=>ca (X:=x73) (aUO g h)
def Nb:=fx E0 Tryz.f122 []
def TQ:=Ax Nb xL bE
def arB:LS:=⟨[aV 3,aV 4,(8,.slice 39 1 (O cq) (I8 cq)),(9,iI cm),(10,iI cv)],[(3,yq (iF dM)),(4,yq (iF es))]⟩
def XM (f7:qF->Int->Int->aP->aP->G aP) (n:Nat) (t8:qF) (t9 a0:Int) (b3 b4:aP):G aP:=
 ite (A' (a0<t9)) (M (idx t8 a0) λx2=>M (RM n x2 b3 0) λx8=>f7 t8 t9 (ba (a0+1)) x8 b4) (cC b3 b4)
def aQu {aH} (aY:KK (TQ [1,1]) ED aH) {f7} (aL:KK (TQ (aI 21)) arB f7) (n:Nat):KK (TQ (aI 21)) arB (XM aH f7 n):=λ_ _ _ _ _ r h=>ie h (λc0 h=>be h λ_ dq h=>be h λ_ lr h=>ra (aL h) [aD c0,(0,R39.idx dq),lY (aHK n lr)]) λc0 h=>ra (aY h) [aD c0]
def Kg (aH:aaZ):Nat->qF->Int->Int->aP->aP->G aP
 |0=>dK.z
 |n+1=>XM aH (Kg aH n) n
def azS {aH} (aY:KK (TQ [1,1]) ED aH):∀n:Nat,KK (TQ (aI 21)) arB (Kg aH n)
 |0=>KC.h
 |n+1=>aQu aY (azS aY n) n
def XL (n:Nat) (b3 b4:aP):G aP:=
 V b3
def aQt:KK (TQ [1,1]) ED (XL g):=λ_ _ r h=>rr h []
def amH:G aP:=
 Kg (XL g) g bi.bT (O bi.bT:Int) 0 bg pr
def aQs:KK (TQ []) PY (amH g):=λ_ _ r h=>ra (azS (aQt g) g h) []
def xr:=amH
def aHU:KK (Cx E0 122 xL bE) PY (xr g):=λ_ _ _ h=>ca (X:=Nb) (aQs g h)
def aya (r:(List (Int×aP))):AV:=.dh []
def apc (r:(List (Int×aP))):List (Nat×Bx):= [(2,.map (gO (λv_=>AV.agg (iF v_)) r))]
def x123:=fx E0 Tryz.f123 [2]
def Sm:=Ax x123 aya apc
def arS (b3:ga):LS:=⟨[(1,iI u),(2,.mp 2),aV 3,(11,.tN 46 15 (O ac) (si ac)),(12,iI qr),(13,iI R)],[(2,.map (gO (λv_=>AV.agg (iF v_)) bs)),(3,.flat 123 (tZ b3))]⟩
def aou:LS:=⟨[(0,.agg (tZ ab)),(1,ck R),(2,.mp 2)],[(2,.map (gO (λv_=>AV.agg (iF v_)) bs))]⟩
def XK (f7:Int->cj->Int->Int->(List (Int×aP))->ga->G (List (Int×aP))) (n:Nat) (Nk:Int) (a0:cj) (a2 a3:Int) (b2:List (Int×aP)) (b3:ga):G (List (Int×aP)):=
 ite (A' (a3<a2)) (M (idx a0 a3) λx3=>ite (x3.aQ !=1) (f7 Nk a0 a2 (ba (a3+1)) b2 b3) (M (idx b3.BB a3) λgG=>M (idx gG.ag x3.aq) λnP=>M (cut b3.CT (V (ba (a3+1))) A) λrN=>M (F63 n rN x3.aq (O nP.L:Int)) λa4=>ite a4.cI (ite (a4.gd==Nk) (M (xr n a4 x3.bp) λCk=>f7 Nk a0 a2 (ba (a3+1)) (jx b2 a4.dQ Ck) b3) (f7 Nk a0 a2 (ba (a3+1)) b2 b3)) (f7 Nk a0 a2 (ba (a3+1)) b2 b3))) (V b2)
def aQr {f7} (aL:KK (Sm [0,1,1]) arS f7) (n:Nat):KK (Sm [0,1,1]) arS (XK f7 n):=λ_ _ _ _ b2 _ r h=>ie h (λc0 h=>be h λ_ eP h=>let zA:SE:=[aD c0,(1,OP.idx eP)];ie h (λc1 h=>cD (aL h) zA [dz c1]) λc1 h=>be h λ_ lD h=>be h λ_ pE h=>be h λ_ uJ h=>be h λa0 aDp h=>let zB:SE:=dx zA [dz c1,(3,DQ.idx lD),(4,cy.idx pE),(4,.ord [0,1,2,3,4,5,6,7,9,8,10]),(4,OP.cut uJ),lY (YT n aDp)];ie h (λc2 h=>ie h (λc3 h=>be h λCk SM h=>cD (aL h) zB [aS c2,bl c3,uI (aHU n SM),(0,.j4 (CU (f:=(λv_=>AV.agg (iF v_))) (k:=a0.dQ) (v:=Ck) b2))]) λc3 h=>cD (aL h) zB [aS c2,bl c3]) λc2 h=>cD (aL h) zB [aS c2]) λc0 h=>rr h [aD c0]
def Ar:Nat->Int->cj->Int->Int->(List (Int×aP))->ga->G (List (Int×aP))
 |0=>dK.z
 |n+1=>XK (Ar n) n
def azR:∀n:Nat,KK (Sm [0,1,1]) arS (Ar n)
 |0=>KC.h
 |n+1=>aQr (azR n) n
def aBO:G (List (Int×aP)):=
 Ar g R ab.CT (O ab.CT:Int) 0 bs ab
def aQq:KK (Sm []) aou (aBO g):=λ_ _ _ r h=>ra (azR g h) []
def F123:=aBO
def aTI:KK (Cx E0 123 aya apc) aou (F123 g):=λ_ _ _ _ h=>ca (X:=x123) (aQq g h)
def aFE (r:(aW×Bool)):AV:=.dh [.agg (nu r.1),.bool r.2]
def x74:=fx E0 Tryz.f74 []
def C9:=Ax x74 aFE bE
def aLQ:LS:=⟨[aV 2,aV 3,aV 4,(6,iI u),aV 7,(8,.ms 41 7 0 (O ec)),(9,.mp 42),aV 11,(12,iI C),(44,.slice 38 3 (O F) (cY F)),(45,iI D),(46,iI qr)],[(2,.flat 123 (tZ ab)),(3,.flat 113 (nu Z)),(4,.flat 113 (ld bb .bY .bY .bY)),(7,.flat 113 (ld br (.ms 32 3 0 (O dT)) .bY .bY)),(11,.flat 38 (iF dM)),(32,.rows I 38 3 (cY dT)),(41,.rows I 140 7 (vH ec)),(42,.map (gO (λv_=>AV.agg (iF v_)) cz))]⟩
def Ui:LS:=⟨[aV 2,aV 3,aV 4,(6,iI u),aV 7,(8,.ms 41 7 0 (O ec)),(9,.mp 42),(44,.slice 38 3 (O B) (cY B)),(45,iI C),(46,iI vQ)],[(2,.flat 123 (tZ ab)),(3,.flat 113 (nu Z)),(4,.flat 113 (ld bb .bY .bY .bY)),(7,.flat 113 (ld br (.ms 32 3 0 (O cn)) .bY .bY)),(32,.rows I 38 3 (cY cn)),(41,.rows I 140 7 (vH ec)),(42,.map (gO (λv_=>AV.agg (iF v_)) cz))]⟩
def agn:LS:=⟨[aV 3,aV 4,aV 7,(9,.mp 42),(14,.ms 14 1 0 (O bR)),(97,.ms 14 1 0 (O bR)),(98,ck u),(99,ck C)],[(3,.flat 113 (nu N)),(4,.flat 113 (ld Z .bY .bY .bY)),(7,.flat 113 (ld bb (.ms 32 3 0 (O bX)) .bY (.ms 109 3 0 (O cn)))),(14,.rows U 3 1 (dP bR)),(32,.rows I 38 3 (cY bX)),(42,.map (gO (λv_=>AV.agg (iF v_)) bs)),(109,.rows I 38 3 (cY cn))]⟩
def agm:LS:=⟨[aV 3,aV 4,aV 7,(14,.ms 14 1 0 (O ad))],[(3,zM (nu N)),(4,zM (ld Z .bY .bY .bY)),(7,zM (ld bb (.ms 32 3 0 (O al)) .bY (.ms 109 3 0 (O an)))),(14,DD ad),(32,xx al),(109,xx an)]⟩
def aLP:LS:=⟨[aV 3,aV 4,aV 7,(9,.mp 42),(14,.ms 14 1 0 (O bR))],[(3,.flat 113 (nu N)),(4,.flat 113 (ld Z .bY .bY .bY)),(7,.flat 113 (ld bb (.ms 32 3 0 (O bX)) .bY .bY)),(14,.rows U 3 1 (dP bR)),(32,.rows I 38 3 (cY bX)),(42,.map (gO (λv_=>AV.agg (iF v_)) bs))]⟩
def aLO:LS:=⟨[aV 3,aV 4,aV 7,(9,.mp 42)],[(3,.flat 113 (nu N)),(4,.flat 113 (ld Z .bY .bY .bY)),(7,.flat 113 (ld bb (.ms 32 3 0 (O an)) .bY .bY)),(32,.rows I 38 3 (cY an)),(42,.map (gO (λv_=>AV.agg (iF v_)) bs))]⟩
def agl:LS:=⟨[aV 2,aV 3,aV 4,(6,ck u),aV 7,(9,.mp 42)],[(2,.flat 123 (tZ ab)),(3,.flat 113 (nu Z)),(4,.flat 113 (ld bb .bY .bY .bY)),(7,.flat 113 (ld br (.ms 32 3 0 (O cn)) .bY .bY)),(32,.rows I 38 3 (cY cn)),(42,.map (gO (λv_=>AV.agg (iF v_)) cz))]⟩
def axe:LS:=⟨(HX (tZ ab) (nu Z)),[]⟩
def V5 (aH:aIN) (n:Nat) (GM a0:Int) (a2:aU) (a3 a4:Int) (b2:ga) (b3 b4 b7:aW) (JI:lJ) (p7:List (Int×aP)) (gD:aP) (cE:aU):G (aW×Bool):=
 M (eT (O JI) a0) λx3=>M (JI[0+x3]?) λx5=>ite x5.cI (M (xr n x5 gD) λgF=>aH GM a2 a3 (ba (a4+1)) b2 b3 (RJ b4.aQ b4.aq [] [] []) (RJ b7.aQ b7.aq cE [] []) JI (jx p7 x5.dQ gF) cE) (ite (!((gD.aB==x5.eQ.aB)&&((gD.dt==x5.eQ.dt)&&((A' (gD.cH=x5.eQ.cH))&&I)))) (V ((RJ 0 0 [] [] []),U)) (aH GM a2 a3 (ba (a4+1)) b2 b3 (RJ b4.aQ b4.aq [] [] []) (RJ b7.aQ b7.aq cE [] []) JI p7 cE))
def aIv {aH} (aY:KK (C9 (aI 1407)) Ui aH) (n:Nat):KK (C9 (aI 498047)) aLQ (V5 aH n):=λ_ _ _ _ _ _ _ _ _ _ p7 _ _ r h=>be h λ_ eP h=>be h λx5 jI h=>let zA:SE:=[(2,du eP),(0,NS.row jI)];ie h (λc0 h=>be h λgF iC h=>cD (aY h) zA [aZ c0,lX (aHU n iC),(0,.j4 (CU (f:=(λv_=>AV.agg (iF v_))) (k:=x5.dQ) (v:=gF) p7))]) λc0 h=>ie h (λc1 h=>bt h zA [aZ c0,aZ c1,(3,.kH 4 (.flat 0 [.bool I,.bool I,.sl 0 38 3 0 [],.sl 0 3 1 0 [],.sl 0 38 3 0 []]))]) λc1 h=>cD (aY h) zA [aZ c0,aZ c1]
def Zr (iB:aIM) (f7:aIN) (n:Nat) (GM:Int) (a0:aU) (a2 a3:Int) (b2:ga) (b3 b4 b7:aW) (JI:lJ) (p7:List (Int×aP)) (cE:aU):G (aW×Bool):=
 ite (A' (a3<a2)) (M (idx a0 a3) λx3=>ite (b3.aQ==2) (M (idx b3.L a3) λjh=>V5 f7 n GM jh a0 a2 a3 b2 b3 (RJ b4.aQ b4.aq [] [] []) (RJ b7.aQ b7.aq cE [] []) JI p7 x3 cE) (V5 f7 n GM a3 a0 a2 a3 b2 b3 (RJ b4.aQ b4.aq [] [] []) (RJ b7.aQ b7.aq cE [] []) JI p7 x3 cE)) (iB GM b2 b3 (RJ b4.aQ b4.aq [] [] []) (RJ b7.aQ b7.aq cE [] []) p7 cE)
def aUN {iB} (mN:KK (C9 (aI 511)) agl iB) {f7} (aL:KK (C9 (aI 1407)) Ui f7) (n:Nat):KK (C9 (aI 1407)) Ui (Zr iB f7 n):=λ_ _ _ _ _ _ _ _ _ _ _ r h=>ie h (λc0 h=>be h λ_ eP h=>ie h (λc1 h=>be h λ_ iX h=>ra (aIv aL n h) [aD c0,(1,iG.idx eP),iO c1,(3,R3.idx iX)]) λc1 h=>ra (aIv aL n h) [aD c0,(1,iG.idx eP),iO c1]) λc0 h=>ra (mN h) [aD c0]
def Ap (iB:aIM):Nat->Int->aU->Int->Int->ga->aW->aW->aW->lJ->(List (Int×aP))->aU->G (aW×Bool)
 |0=>dK.z
 |n+1=>Zr iB (Ap iB n) n
def aGp {iB} (mN:KK (C9 (aI 511)) agl iB):∀n:Nat,KK (C9 (aI 1407)) Ui (Ap iB n)
 |0=>KC.h
 |n+1=>aUN mN (aGp mN n) n
def Zs (bD:Wf59) (f7:Int->Int->aW->aW->aW->(List (Int×aP))->aN->aU->aU->G (aW×Bool)) (n:Nat) (a0 a2:Int) (b3 b4 b7:aW) (p7:List (Int×aP)) (lw:aN) (cE yJ:aU):G (aW×Bool):=
 ite (A' (a2<a0)) (M (eT (O lw) a2) λx2=>M (lw[0+x2]?) λx4=>M (app yJ [(gB p7 x4 pr)]) λdZ=>f7 a0 (ba (a2+1)) b3 (RJ b4.aQ b4.aq [] [] []) (RJ b7.aQ b7.aq cE [] dZ) p7 lw cE dZ) (bD b3 (RJ b4.aQ b4.aq [] [] []) (RJ b7.aQ b7.aq cE [] yJ) lw cE yJ)
def aUM {bD} (cV:KK (C9 (aI 16383)) agm bD) {f7} (aL:KK (C9 (aI 45055)) agn f7) (n:Nat):KK (C9 (aI 45055)) agn (Zs bD f7 n):=λ_ _ _ _ _ p7 _ _ _ r h=>ie h (λc0 h=>be h λ_ dq h=>be h λx4 ic h=>be h λ_ gj h=>ra (aL h) [aD c0,(0,du dq),(0,R3.row ic),(5,.lkp U (aiV (f:=(λv_=>AV.agg (iF v_))) (k:=x4) (d:=pr) p7)),(1,iG.kq gj)]) λc0 h=>ra (cV h) [aD c0]
def QQ (bD:Wf59):Nat->Int->Int->aW->aW->aW->(List (Int×aP))->aN->aU->aU->G (aW×Bool)
 |0=>dK.z
 |n+1=>Zs bD (QQ bD n) n
def aGo {bD} (cV:KK (C9 (aI 16383)) agm bD):∀n:Nat,KK (C9 (aI 45055)) agn (QQ bD n)
 |0=>KC.h
 |n+1=>aUM cV (aGo cV n) n
def Zt (n:Nat) (b3 b4 b7:aW) (lw:aN) (cE yJ:aU):G (aW×Bool):=
 ite (b3.aQ==2) (V ((RJ b7.aQ b7.aq cE lw yJ),I)) (V ((RJ b7.aQ b7.aq cE [] yJ),I))
def aUL:KK (C9 (aI 16383)) agm (Zt g):=λ_ _ _ lw cE yJ r h=>ie h (λc0 h=>rr h [aS c0,(6,iG.eD 32 cE),(0,R3.eD 14 lw),(0,iG.eD 109 yJ),(0,.kH 4 (.flat 0 [.bool I,.bool I,.sl 0 0 0 0 [],.bool I,.sl 0 0 0 0 []]))]) λc0 h=>rr h [aS c0,(3,iG.eD 32 cE),(0,iG.eD 109 yJ),(0,.kH 4 (.flat 0 [.bool I,.bool I,.sl 0 0 0 0 [],.sl 0 3 1 0 [],.sl 0 0 0 0 []]))]
def avS:G (aW×Bool):=
 QQ (Zt g) g (O bR:Int) 0 N (RJ Z.aQ Z.aq [] [] []) (RJ bb.aQ bb.aq bX [] []) bs bR bX []
def aUK:KK (C9 (aI 8191)) aLP (avS g):=λ_ _ _ _ _ _ r h=>ra (aGo (aUL g) g h) [(3,.born [] [(7,4)] 109 I 38 3)]
def V4:G (aW×Bool):=
 M (adh bs) λx0=>avS g N (RJ Z.aQ Z.aq [] [] []) (RJ bb.aQ bb.aq an [] []) bs x0 an
def aIu:KK (C9 (aI 1023)) aLO (V4 g):=λ_ _ _ _ _ r h=>be h λ_ G6 h=>pc74 (f:=(λv_=>AV.agg (iF v_))) (K:=42) (aUK g h) G6
def HJ:G (aW×Bool):=
 ite (Z.aQ==1) (M (F123 g ab u cz) λx7=>V4 g Z (RJ bb.aQ bb.aq [] [] []) (RJ br.aQ br.aq cn [] []) x7 cn) (V4 g Z (RJ bb.aQ bb.aq [] [] []) (RJ br.aQ br.aq cn [] []) cz cn)
def aUJ:KK (C9 (aI 511)) agl (HJ g):=λ_ _ _ _ _ _ _ r h=>ie h (λc0 h=>be h λ_ j7 h=>ra (aIu g h) [aS c0,(3,.call (aTI g j7) [(42,2)] [])]) λc0 h=>ra (aIu g h) [aS c0]
def avR:G (aW×Bool):=
 M (F63 g ab.CT Z.aq (-1)) λx9=>ite (A' (x9.gd<0)) (V ((RJ 0 0 [] [] []),U)) (M (app [] Z.av) λlK=>ite (Z.aQ==3) (V ((RJ Z.aQ x9.gd lK [] []),I)) (M (R4 g ab Z.aq) λrN=>Ap (HJ g) g x9.gd Z.cB (O Z.cB:Int) 0 ab Z (RJ 0 0 [] [] []) (RJ Z.aQ x9.gd lK [] []) rN [] lK))
def aUI:KK (C9 []) axe (avR g):=λ_ _ r h=>be h λ_ ir h=>let zA:SE:=[adB (YT g ir)];ie h (λc0 h=>bt h zA [aZ c0,(3,.kH 4 (.flat 0 [.bool I,.bool I,.sl 0 38 3 0 [],.sl 0 3 1 0 [],.sl 0 38 3 0 []]))]) λc0 h=>be h λlK j8 h=>let zB:SE:=dx zA [aZ c0,(0,.born [] [] 32 I 38 3),(5,iG.app (xs:= []) j8)];ie h (λc1 h=>bt h zB [bN c1,(3,iG.eD 32 lK),(0,.kH 4 (.flat 0 [.bool I,.bool I,.sl 0 0 0 0 [],.sl 0 3 1 0 [],.sl 0 38 3 0 []]))]) λc1 h=>be h λ_ uJ h=>cD (aGp (aUJ g) g h) zB [bN c1,(3,.call (aIa g uJ) [] [(41,bL)])]
def F74:=avR
def ev74:KK (Cx E0 74 aFE bE) axe (F74 g):=λ_ _ _ h=>ca (X:=x74) (aUI g h)
def aFP:AV:=.dh [wu bL (O ez.1),ck ez.2.1,ck ez.2.2]
def ayv:List (Nat×Bx):= [(bL,K5 ez.1)]
def se:=fx E0 Tryz.f30 [3]
def A30:=AxS se [3] aFP ayv
def C30:=CxS E0 30 [3] aFP ayv
def agT:LS:=⟨[aV 11,(14,.ms 55 5 0 (O aT)),(36,.ms 3 5 0 (O ul)),(37,ck u),(38,ck C)],[(3,Fk ul),(11,.flat 123 (tZ ab)),(55,K5 aT)]⟩
def agS:LS:=⟨[(14,.ms 55 5 0 (O aT))],[(3,Fk ul),(55,K5 aT)]⟩
def axv:LS:=⟨[(0,.agg (cX w)),(1,.tN 46 15 (O ac) (si ac)),(2,iI qr),(3,.ms 3 5 0 (O ul))],[(3,Fk ul)]⟩
def aeZ (aH:aIL) (f7:Int->Int->dk->ga->dk->G (dk×Int×Int)) (n:Nat) (a2 a3:Int) (lS:dk) (gD:ga) (a0:dk):G (dk×Int×Int):=
 ite (A' (a3<a2)) (M (eT (O lS) a3) λx3=>M (lS[0+x3]?) λx5=>M (F74 n gD x5) λiK=>ite (!iK.2) (V ([],a3,281)) (M (app a0 [iK.1]) λim=>f7 a2 (ba (a3+1)) lS gD im)) (aH lS a0)
def aWn {aH} (aY:KK (A30 (aI 127)) agS aH) {f7} (aL:KK (A30 (aI 351)) agT f7) (n:Nat):KK (A30 (aI 351)) agT (aeZ aH f7 n):=λ_ _ _ _ _ r h=>ie h (λc0 h=>be h λ_ eP h=>be h λ_ jI h=>be h λ_ gR h=>let zA:SE:=[aD c0,(1,du eP),(0,rB.row jI),lX (ev74 n gR)];ie h (λc1 h=>MM h (dx zA [hI c1,(4,.born [8] [] bL I 113 5)])) λc1 h=>be h λ_ mc h=>Je (aL h) bv (dx zA [hI c1,(3,rB.kq mc)])) λc0 h=>Je (aY h) bv [aD c0]
def Mf (aH:aIL):Nat->Int->Int->dk->ga->dk->G (dk×Int×Int)
 |0=>dK.z
 |n+1=>aeZ aH (Mf aH n) n
def aGL {aH} (aY:KK (A30 (aI 127)) agS aH):∀n:Nat,KK (A30 (aI 351)) agT (Mf aH n)
 |0=>KC.h
 |n+1=>aWn aY (aGL aY n) n
def Wg (n:Nat) (lS a0:dk):G (dk×Int×Int):=
 V (a0,0,0)
def aWm:KK (A30 (aI 127)) agS (Wg g):=λ_ _ r h=>MM h [(4,.iS 55 bL)]
def awr:G (dk×Int×Int):=
 M (F54 g w ac qr) λx8=>ite (x8.2 !=0) (V ([],0,x8.2)) (M (F56 g x8.1) λkO=>M (F73 g kO ul) λqh=>ite (qh !=0) (V ([],0,qh)) (Mf (Wg g) g (O ul:Int) 0 ul x8.1 []))
def aWl:KK (A30 []) axv (awr g):=λ_ _ _ lS r h=>be h λ_ lr h=>let zA:SE:=[uI (ev54 g lr)];ie h (λc0 h=>MM h (dx zA [hI c0,(4,.born [8] [] bL I 113 5)])) λc0 h=>be h λ_ mY h=>be h λ_ pD h=>let zB:SE:=dx zA [hI c0,rJ (aDX g mY),(1,.Aj (ev73 g pD) [rB.eD 3 lS] trivial [] [])];ie h (λc1 h=>MM h (dx zB [aS c1,(4,.born [8] [] bL I 113 5)])) λc1 h=>Je (aGL (aWm g) g h) bv (dx zB [aS c1,(4,.born [14] [] 55 I 113 5)])
def F30:=awr
def aEa:KK C30 axv (F30 g):=λ_ _ _ _ _ h=>caS (X:=se) (aWl g h)
def IV:=fx E0 Tryz.f47 []
def A47:=Ax IV xL bE
def axp:LS:=⟨[(0,ck u)],[]⟩
def aJi (n:Nat) (n0:Int):G aP:=
 V (aP.mk 4 n0 I')
def aVz:KK (A47 []) axp (aJi g):=λ_ r h=>rr h []
def M0:=aJi
def FW:KK (Cx E0 47 xL bE) axp (M0 g):=λ_ _ h=>ca (X:=IV) (aVz g h)
def x48:=fx E0 Tryz.f48 []
def A48:=Ax x48 xL bE
def aJh (n:Nat) (s0:xN):G aP:=
 V (aP.mk 5 0 s0)
def aVy:KK (A48 []) EA (aJh g):=λ_ r h=>rr h []
def F48:=aJh
def YQ:KK (Cx E0 48 xL bE) EA (F48 g):=λ_ _ h=>ca (X:=x48) (aVy g h)
def jh:=fx E0 Tryz.f17 []
def A17:=Ax jh dj bE
def axC:LS:=⟨[],[]⟩
def aJm:G Bool:=
 M (M0 g 0) λfA=>M (M0 g 0) λdZ=>M (M0 g 1) λgG=>M (M0 g 1) λjo=>M (M0 g 0) λlK=>M (F48 g (NB #[45])) λim=>M (M0 g 7) λse=>M (M0 g 7) λoD=>M (F48 g (NB #[45])) λDA=>M (F30 g (EY 0 [(ah.mk (NB #[116,97,115,107,115]) [(bW.mk (NB #[105,100]) 4),(bW.mk (NB #[116,105,116,108,101]) 5)] 1 [] [])]) [(AJ 1 0 0 0 (NB #[115,116,97,116,101]) 4 fA [] (ah.mk I' [] 0 [] [])),(AJ 8 0 2 0 I' 0 pr [(gU.mk dZ gG),(gU.mk jo lK)] (ah.mk I' [] 0 [] [])),(AJ 2 0 1 0 I' 0 im [] (ah.mk I' [] 0 [] []))] 0 [(RJ 1 0 [se] [] [oD,DA])]) λEW=>ite (EW.2.2 !=0) (V U) (ite ((O EW.1:Int) !=1) (V U) (M (eT (O EW.1) 0) λx62=>M (EW.1[0+x62]?) λqX=>ite ((O qX.cB:Int) !=2) (V U) (M (eT (O EW.1) 0) λx72=>M (EW.1[0+x72]?) λx75=>M (idx x75.cB 1) λpL=>M (M0 g 1) λa0=>ite (!((pL.aB==a0.aB)&&((pL.dt==a0.dt)&&((A' (pL.cH=a0.cH))&&I)))) (V U) (M (M0 g 7) λa2=>M (F48 g (NB #[97])) λx87=>M (eT 1 0) λa3=>M ([(RJ 1 0 [se] [] [oD,DA])][0+a3]?) λx93=>M (setAt [(RJ 1 0 [se] [] [oD,DA])] (0+a3) (RJ x93.aQ x93.aq x93.av x93.L [a2,x87])) λa4=>M (F30 g (EY 0 [(ah.mk (NB #[116,97,115,107,115]) [(bW.mk (NB #[105,100]) 4),(bW.mk (NB #[116,105,116,108,101]) 5)] 1 [] [])]) [(AJ 1 0 0 0 (NB #[115,116,97,116,101]) 4 fA [] (ah.mk I' [] 0 [] [])),(AJ 8 0 2 0 I' 0 pr [(gU.mk dZ gG),(gU.mk jo lK)] (ah.mk I' [] 0 [] [])),(AJ 2 0 1 0 I' 0 im [] (ah.mk I' [] 0 [] []))] 0 a4) λx99=>M (M0 g 7) λNd=>M (M0 g 1) λSe=>M (F21 g (EY 0 [(ah.mk (NB #[116,97,115,107,115]) [(bW.mk (NB #[105,100]) 4),(bW.mk (NB #[116,105,116,108,101]) 5)] 1 [] [])]) [(AJ 1 0 0 0 (NB #[115,116,97,116,101]) 4 fA [] (ah.mk I' [] 0 [] [])),(AJ 8 0 2 0 I' 0 pr [(gU.mk dZ gG),(gU.mk jo lK)] (ah.mk I' [] 0 [] [])),(AJ 2 0 1 0 I' 0 im [] (ah.mk I' [] 0 [] []))] 0 1 (NH [[[Nd,Se]]])) λNc=>ite (x99.2.2==281) (ite (x99.2.1==0) (ite (Nc.2==0) (ite ((O Nc.1.ag:Int)==1) (M (idx Nc.1.ag 0) λZB=>ite ((O ZB:Int)==1) (M (idx Nc.1.ag 0) λYq=>M (idx Yq 0) λZD=>ite ((O ZD:Int)==2) (M (idx Nc.1.ag 0) λZF=>M (idx ZF 0) λZG=>M (idx ZG 1) λYp=>M (F48 g (NB #[45])) λYo=>V ((Yp.aB==Yo.aB)&&((Yp.dt==Yo.dt)&&((A' (Yp.cH=Yo.cH))&&I)))) (V U)) (V U)) (V U)) (V U)) (V U)) (V U)))))
def aWU:KK (A17 []) axC (aJm g):=λr h=>be h λfA iY h=>be h λdZ gj h=>be h λgG lD h=>be h λjo jW h=>be h λlK j8 h=>be h λim mc h=>be h λse yB h=>be h λoD xE h=>be h λDA Lq h=>be h λ_ Ve h=>let zA:SE:=[(5,fI.eD 14 [(bW.mk (NB #[105,100]) 4),(bW.mk (NB #[116,105,116,108,101]) 5)]),(0,.pN 15 (.agg (uu 3 [.sl 0 121 2 0 [],.sl 0 107 13 0 []]))),lY (FW g iY),rJ (FW g gj),kj (FW g lD),rJ (FW g jW),kj (FW g j8),jN (YQ g mc),(1,.pN 19 (.agg (uu 9 [.sl 0 110 6 0 [],.bool I,.sl 0 73 2 0 [],.bool I,.sl 0 121 2 0 [],.sl 0 107 13 0 []]))),(0,Ge.eD 26 [(gU.mk dZ gG),(gU.mk jo lK)]),(0,.pN 27 (.agg (uu 11 [.sl 0 73 2 0 [],.bool I,.sl 0 121 2 0 [],.sl 0 107 13 0 []]))),(0,.pN 29 (.agg (uu 9 [.sl 0 110 6 0 [],.bool I,.sl 0 73 2 0 [],.bool I,.sl 0 121 2 0 [],.sl 0 107 13 0 []]))),jl (FW g yB),rJ (FW g xE),kj (YQ g Lq),(2,iG.eD 32 [se]),(0,iG.eD 35 [oD,DA]),(0,.pN 36 (.agg (uu 3 [.sl 0 3 1 0 []]))),(5,cy.eD 16 [(ah.mk (NB #[116,97,115,107,115]) [(bW.mk (NB #[105,100]) 4),(bW.mk (NB #[116,105,116,108,101]) 5)] 1 [] [])]),(0,OP.eD 30 [(AJ 1 0 0 0 (NB #[115,116,97,116,101]) 4 fA [] (ah.mk I' [] 0 [] [])),(AJ 8 0 2 0 I' 0 pr [(gU.mk dZ gG),(gU.mk jo lK)] (ah.mk I' [] 0 [] [])),(AJ 2 0 1 0 I' 0 im [] (ah.mk I' [] 0 [] []))]),(0,.call (aEa g Ve) [(37,3)] [(304200,bL)])];ie h (λc0 h=>bt h zA [iO c0]) λc0 h=>let zB:SE:=dx zA [iO c0];ie h (λc1 h=>bt h zB [aZ c1]) λc1 h=>be h λ_ hx62 h=>be h λ_ aDi h=>let zC:SE:=dx zB [aZ c1,(3,du hx62),(1,rB.row aDi)];ie h (λc2 h=>bt h zC [aX c2]) λc2 h=>be h λ_ hx72 h=>be h λ_ hx75 h=>be h λ_ aDf h=>be h λ_ hx80 h=>let zD:SE:=dx zC [aX c2,(3,du hx72),(1,rB.row hx75),(0,iG.idx aDf),(1,.LV (FW g hx80))];ie h (λc3 h=>bt h zD [aD c3]) λc3 h=>be h λa0 hx85 h=>be h λx87 hx87 h=>be h λ_ aDd h=>be h λ_ hx93 h=>be h λ_ hz94 h=>be h λ_ hx99 h=>be h λNd aSO h=>be h λSe aSN h=>be h λ_ aSM h=>let zE:SE:=dx zD [aD c3,jl (FW g hx85),kj (YQ g hx87),(1,du aDd),(1,iG.eD 74 [a0,x87]),(0,rB.uj 4 [.slice 38 3 [a0,x87].length (cY [a0,x87])] hx93 hz94),(3,.seq 80 (bH (AV.ms 37 5 0) (eB hz94))),(0,.call (aEa g hx99) [(37,3)] [(308100,bL)]),(7,.ord [0,1,2,3,12,4,5,6,7,8,9,10,11,13,14]),(2,.LV (FW g aSO)),(0,.LV (FW g aSN)),(1,.bsF 90 3 2 [iG.eD 90 [Nd,Se]]),(0,.bsF 91 1 1 [ke.eD 91 [[Nd,Se]]]),(0,.bsF 92 1 1 [p9.eD 92 [[[Nd,Se]]]]),rJ (aEb g aSM)];ie h (λc4 h=>let zF:SE:=dx zE [dz c4];ie h (λc5 h=>let zG:SE:=dx zF [aS c5];ie h (λc6 h=>let zH:SE:=dx zG [aZ c6];ie h (λc7 h=>be h λ_ aSK h=>let zI:SE:=dx zH [bN c7,(4,p9.idx aSK)];ie h (λc8 h=>be h λ_ asG h=>be h λ_ aSI h=>let zJ:SE:=dx zI [aS c8,(4,p9.idx asG),(1,ke.idx aSI)];ie h (λc9 h=>be h λ_ aSF h=>be h λ_ aSE h=>be h λ_ aSD h=>be h λ_ aSB h=>bt h zJ [aS c9,(4,p9.idx aSF),(1,ke.idx aSE),(1,iG.idx aSD),(1,.LV (YQ g aSB))]) λc9 h=>bt h zJ [aS c9]) λc8 h=>bt h zI [aS c8]) λc7 h=>bt h zH [bN c7]) λc6 h=>bt h zG [aZ c6]) λc5 h=>bt h zF [aS c5]) λc4 h=>bt h zE [dz c4]
def F17:=aJm
def aEc:KK (Cx E0 17 dj bE) axC (F17 g):=λ_ h=>ca (X:=jh) (aWU g h)
def aFK:AV:=.ms bL 3 0 (O eA.1)
def ayq:List (Nat×Bx):= [(0,kn (eN eA.2)),(bL,xx eA.1)]
def x49:=fx E0 Tryz.f49 [0]
def Pr:=Ax x49 aFK ayq
def aLY (b0:aG) (b9:aU):LS:=⟨[aV 0,(2,iI u),(3,iI C),(9,.ms 9 3 0 (O b9)),(11,iI vQ),(12,.slice 3 1 (O ad) (dP ad)),(13,iI bf),(14,iI bK),(41,.bool ef)],[(0,kn (eN b0)),(9,xx b9)]⟩
def I5:LS:=⟨[aV 0,(2,iI u),(3,iI C),(9,.ms 9 3 0 (O an)),(12,.slice 3 1 (O E) (dP E)),(13,iI vQ),(14,iI D)],[(0,kn (eN bm)),(9,xx an)]⟩
def agz:LS:=⟨[(9,.ms 9 3 0 (O al))],[(0,kn (eN J)),(9,xx al)]⟩
def axo:LS:=⟨[aV 0,(1,.slice 3 1 (O ad) (dP ad)),(2,iI bf),(3,iI bK)],(sS (eN J))⟩
def HK (eZ a0:Int) (a2:aN) (a3 a4:Int) (a5:Bool) (b0:aG) (b9:aU):G (aU×aG):=
 ite a5 (M (app b9 [(aP.mk 1 0 I')]) λx4=>el dV eZ a2 a3 a4 b0 x4) (M (F93 eo b0 a0) λx4=>M (app b9 [x4.1]) λx7=>el dV eZ a2 a3 a4 x4.2 x7)
def Vy {aH} (aY:KK (Pr (aI 971)) I5 aH) (n:Nat):KK (Pr (aI 62667)) aLY (HK aH n):=λ_ _ _ _ _ _ _ _ _ r h=>ie h (λda bq=>by subst da;exact (be bq λx4 ic bq=>ra (aY bq) [(3,iG.kq ic)])) λda bq=>by subst da;exact (be bq λx4 ic bq=>be bq λx7 j7 bq=>ra (aY bq) [(3,.call (S1 n ic) [(0,0)] []),(1,iG.kq j7)])
def Cd (n:Nat) (iA eZ:Int) (a0:aN) (a2 a3:Int) (b0:aG) (b9:aU):G (aU×aG):=
 el iA eZ a0 a2 (ba (a3+1)) b0 b9
def QB {bw} (cQ:KK (Pr (aI 43)) I5 bw) (n:Nat):KK (Pr (aI 971)) I5 (Cd bw n):=λ_ _ _ _ _ _ _ r h=>ra (cQ h) []
def aeG (bD:aIK) (f7:aEN) (n:Nat) (iA eZ:Int) (a0:aN) (a2 a3:Int) (b0:aG) (b9:aU):G (aU×aG):=
 ite (A' (a3<a2)) (M (idx a0 a3) λx3=>ite (!A' (a3<iA)) (ite (eZ !=1) (M (Ay n b0 5) λjh=>ite jh.1 (M (app b9 [(aP.mk 2 0 I')]) λDB=>Cd f7 n iA eZ a0 a2 a3 jh.2 DB) (ite (eZ==3) (M (Ay n jh.2 5) λse=>HK (Cd f7 n) n iA eZ x3 a0 a2 a3 se.1 se.2 b9) (HK (Cd f7 n) n iA eZ x3 a0 a2 a3 U jh.2 b9))) (ite (eZ==3) (M (Ay n b0 5) λtI=>HK (Cd f7 n) n iA eZ x3 a0 a2 a3 tI.1 tI.2 b9) (HK (Cd f7 n) n iA eZ x3 a0 a2 a3 U b0 b9))) (HK (Cd f7 n) n iA eZ x3 a0 a2 a3 U b0 b9)) (bD b0 b9)
def aVx {bD} (cV:KK (Pr [1,1,1]) agz bD) {f7} (aL:KK (Pr (aI 43)) I5 f7) (n:Nat):KK (Pr (aI 43)) I5 (aeG bD f7 n):=λ_ _ _ _ _ _ _ r h=>ie h (λda h=>be h λ_ eP h=>let zA:SE:=[aD da,(1,R3.idx eP)];ie h (λc1 h=>let zB:SE:=dx zA [bN c1];ie h (λc2 h=>be h λ_ iX h=>ie h (λc3 h=>be h λ_ yD h=>cD (QB aL n h) zB [aS c2,(3,.call (cb (o4 n iX) c3) [(0,0)] []),(5,iG.kq yD)]) λc3 h=>let zC:SE:=dx zB [aS c2,(3,.call (cb (o4 n iX) c3) [(0,0)] []),bl c1];ie h (λc4 h=>be h λ_ yB h=>cD (Vy (QB aL n) n h) zC [aS c4,(3,.call (o4 n yB) [(0,0)] [])]) λc4 h=>cD (Vy (QB aL n) n h) zC [aS c4]) λc2 h=>ie h (λc3 h=>be h λ_ FA h=>cD (Vy (QB aL n) n h) zB [aS c2,dz c1,aS c3,(3,.call (o4 n FA) [(0,0)] [])]) λc3 h=>cD (Vy (QB aL n) n h) zB [aS c2,dz c1,aS c3]) λc1 h=>cD (Vy (QB aL n) n h) zA [bN c1,hI c1]) λda h=>ra (cV h) [aD da]
def HE (bD:aIK):Nat->Int->Int->aN->Int->Int->aG->aU->G (aU×aG)
 |0=>dK.z
 |n+1=>aeG bD (HE bD n) n
def aGx {bD} (cV:KK (Pr [1,1,1]) agz bD):∀n:Nat,KK (Pr (aI 43)) I5 (HE bD n)
 |0=>KC.h
 |n+1=>aVx cV (aGx cV n) n
def Rt (n:Nat) (b0:aG) (b9:aU):G (aU×aG):=
 V (b9,b0)
def aVw:KK (Pr [1,1,1]) agz (Rt g):=λ_ _ r h=>rr h [(2,.iS 9 bL)]
def aJg:G (aU×aG):=
 HE (Rt g) g bf bK ad (O ad:Int) 0 J []
def aVv:KK (Pr []) axo (aJg g):=λ_ _ _ _ r h=>ra (aGx (aVw g) g h) [(5,.born [9] [] 9 I 38 3)]
def F49:=aJg
def ev49:KK (Cx E0 49 aFK ayq) axo (F49 g):=λ_ _ _ _ _ h=>ca (X:=x49) (aVv g h)
def s9:=fx E0 Tryz.f69 []
def A69:=Ax s9 dU bE
def avX (n:Nat) (a0 b1:aP):G Int:=
 ite (A' (a0.aB<b1.aB)) (V (-1)) (ite (A' (b1.aB<a0.aB)) (V 1) (ite (A' (a0.dt<b1.dt)) (V (-1)) (ite (A' (b1.dt<a0.dt)) (V 1) (ite (Sx a0.cH.toList b1.cH.toList) (V (-1)) (ite (!(Sx a0.cH.toList b1.cH.toList||a0.cH.toList==b1.cH.toList)) (V 1) (V 0))))))
def aUU:KK (A69 []) PX (avX g):=λ_ _ r h=>ie h (λc0 h=>rr h [hI c0]) λc0 h=>ie h (λc1 h=>rr h [hI c0,bN c1]) λc1 h=>let zA:SE:=[hI c0,bN c1];ie h (λc2 h=>bt h zA [bN c2]) λc2 h=>let zB:SE:=dx zA [bN c2];ie h (λc3 h=>bt h zB [bN c3]) λc3 h=>ie h (λc4 h=>bt h zB [bN c3,bN c4]) λc4 h=>ie h (λc5 h=>bt h zB [bN c3,bN c4,bN c5]) λc5 h=>bt h zB [bN c3,bN c4,bN c5]
def F69:=avX
def ev69:KK (Cx E0 69 dU bE) PX (F69 g):=λ_ _ _ h=>ca (X:=s9) (aUU g h)
def tI:=fx E0 Tryz.f27 []
def A27:=Ax tI dU bE
def ahb:LS:=⟨[(0,.slice 38 3 (O B) (cY B)),(1,.slice 38 3 (O F) (cY F)),(5,iI D)],[]⟩
def Zg (aH:YL) (f7:aU->aU->Int->G Int) (n:Nat) (a0 b1:aU) (i5:Int):G Int:=
 ite (A' (i5<(O a0:Int))) (ite (A' (i5<(O b1:Int))) (M (idx a0 i5) λdZ=>M (idx b1 i5) λjo=>M (F69 n dZ jo) λnP=>ite (nP !=0) (V nP) (f7 a0 b1 (ba (i5+1)))) (aH a0 b1)) (aH a0 b1)
def aWB {aH} (aY:KK (A27 [1,1]) zt aH) {f7} (aL:KK (A27 (aI 21)) ahb f7) (n:Nat):KK (A27 (aI 21)) ahb (Zg aH f7 n):=λ_ _ _ r h=>ie h (λc0 h=>ie h (λc1 h=>be h λ_ gj h=>be h λ_ jW h=>be h λ_ pE h=>let zA:SE:=[aZ c0,bl c1,(3,iG.idx gj),(3,iG.idx jW),rJ (ev69 n pE)];ie h (λc2 h=>bt h zA [aS c2]) λc2 h=>cD (aL h) zA [aS c2]) λc1 h=>ra (aY h) [aZ c0,bl c1]) λc0 h=>ra (aY h) [aZ c0]
def Q7 (aH:YL):Nat->aU->aU->Int->G Int
 |0=>dK.z
 |n+1=>Zg aH (Q7 aH n) n
def aGR {aH} (aY:KK (A27 [1,1]) zt aH):∀n:Nat,KK (A27 (aI 21)) ahb (Q7 aH n)
 |0=>KC.h
 |n+1=>aWB aY (aGR aY n) n
def Wk (n:Nat) (a0 b1:aU):G Int:=
 ite (A' ((O a0:Int)<(O b1:Int))) (V (-1)) (ite (A' ((O b1:Int)<(O a0:Int))) (V 1) (V 0))
def aWA:KK (A27 [1,1]) zt (Wk g):=λ_ _ r h=>ie h (λc0 h=>rr h [bl c0]) λc0 h=>ie h (λc1 h=>rr h [bl c0,bN c1]) λc1 h=>rr h [bl c0,bN c1]
def aJl:G Int:=
 Q7 (Wk g) g B F 0
def aWz:KK (A27 []) zt (aJl g):=λ_ _ r h=>ra (aGR (aWA g) g h) []
def F27:=aJl
def YP:KK (Cx E0 27 dU bE) zt (F27 g):=λ_ _ _ h=>ca (X:=tI) (aWz g h)
def x104:=fx E0 Tryz.f104 []
def A104:=Ax x104 sm r9
def aoC:LS:=⟨[(0,.slice 38 3 (O B) (cY B))],[]⟩
def amQ (n:Nat) (r0:aU):G aU:=
 M (app [] r0) λx3=>V x3
def aQW:KK (A104 []) aoC (amQ g):=λ_ r h=>be h λ_ eP h=>rr h [(2,.born [] [] 4 I 38 3),(0,iG.app (xs:= []) eP),(1,.iS 4 bL)]
def TA:=amQ
def adL:KK (Cx E0 104 sm r9) aoC (TA g):=λ_ _ h=>ca (X:=x104) (aQW g h)
def x52:=fx E0 Tryz.f52 []
def A52:=Ax x52 sm r9
def awf:G aU:=
 ite (A' (C<0)) (V []) (ite (!A' (C<(O w.ag:Int))) (V []) (M (idx w.ag C) λgF=>M (cut F A (V (ite (0<(ite ((O F:Int)<gF.av) (O F:Int) gF.av)) (ite ((O F:Int)<gF.av) (O F:Int) gF.av) 0))) λDB=>M (TA g DB) λyQ=>V yQ))
def aVo:KK (A52 []) I4 (awf g):=λ_ _ _ r h=>ie h (λc0 h=>rr h [aZ c0,(3,.born [6] [] bL I 38 3)]) λc0 h=>ie h (λc1 h=>rr h [aZ c0,bN c1,(2,.born [6] [] bL I 38 3)]) λc1 h=>be h λ_ iC h=>be h λ_ yD h=>be h λ_ yC h=>rr h [aZ c0,bN c1,(5,cy.idx iC),(6,iG.cut yD),(0,.call (adL g yC) [] [(28,bL)]),(1,.iS 28 bL)]
def F52:=awf
def YS:KK (Cx E0 52 sm r9) I4 (F52 g):=λ_ _ _ _ h=>ca (X:=x52) (aVo g h)
def aFJ:AV:=.agg [sR ly (O eC.2)]
def ayo:List (Nat×Bx):= [(ly,HY eC.2)]
def x51:=fx E0 Tryz.f51 [ly]
def A51:=Ax x51 aFJ ayo
def aLX (b6 td:aE) (gf:bz):LS:=⟨[(2,iI u),(3,.slice 38 3 (O B) (cY B)),(4,.slice 38 3 (O F) (cY F)),aV 5,aV 6,aV 10,(11,.ms 45 1 0 (O gf)),(12,.bool bd),(14,.slice 38 3 (O al) (cY al)),(15,iI bK),(23,.slice 70 1 (O bx) (je bx)),(24,iI bB),(25,iI ao)],[(5,fW (cX cu)),(6,.flat 51 [sR ly (O bQ)]),(10,yr),(45,Bq gf),(ly,HY bQ)]⟩
def Uk (b6 td:aE) (gf:bz):LS:=⟨[(2,iI u),(3,.slice 38 3 (O B) (cY B)),(4,.slice 38 3 (O F) (cY F)),aV 5,aV 6,aV 10,(11,.ms 45 1 0 (O gf)),(12,.bool bd),(23,.slice 70 1 (O bx) (je bx)),(24,iI bB),(25,iI ao)],[(5,fW (cX cu)),(6,.flat 51 [sR ly (O bQ)]),(10,yr),(45,Bq gf),(ly,HY bQ)]⟩
def aLW (b6 td:aE) (gf:bz):LS:=⟨[(2,ck u),aV 6,aV 10,(11,.ms 45 1 0 (O gf))],[(6,.flat 51 [sR ly (O bQ)]),(10,yr),(45,Bq gf),(ly,HY bQ)]⟩
def agw (b6 td:aE) (gf:bz):LS:=⟨[(2,iI u),(4,.slice 38 3 (O B) (cY B)),aV 6,aV 10,(11,.ms 45 1 0 (O gf)),(12,.bool bd)],[(6,.flat 51 [sR ly (O bQ)]),(10,yr),(45,Bq gf),(ly,HY bQ)]⟩
def axn:LS:=⟨[(0,.agg (cX w)),(1,.agg [sR ly (O H.ag)]),(2,iI D),(3,.slice 38 3 (O al) (cY al)),(4,.slice 38 3 (O an) (cY an))],[(ly,.rows U 68 1 (wk H.ag))]⟩
def Rs (aH:Wf61) (n:Nat) (dW:Int) (jn qc:aU) (ru:Bool) (a2:aU) (a0:Int) (a3:bz) (a4 a5:Int) (gJ:dA) (b5:af) (b6 td:aE) (gf:bz):G (aE×dA):=
 ite (a0 !=0) (M (app gf [a2]) λx6=>aH dW jn qc ru a3 a4 (ba (a5+1)) gJ b5 (NH gJ) (NH []) x6) (aH dW jn qc ru a3 a4 (ba (a5+1)) gJ b5 (NH gJ) (NH []) gf)
def atX {aH} (aY:KK (A51 (aI 87)) Uk aH) (n:Nat):KK (A51 (aI 31127)) aLX (Rs aH n):=λ_ _ _ _ _ _ _ _ _ _ _ _ _ _ r h=>ie h (λc0 h=>be h λ_ km h=>ra (aY h) [aX c0,(3,ke.kq km)]) λc0 h=>ra (aY h) [aX c0]
def aeD (bD:Wf62) (f7:Wf61) (n:Nat) (dW:Int) (jn qc:aU) (ru:Bool) (a0:bz) (a2 a3:Int) (gJ:dA) (b5:af) (b6 td:aE) (gf:bz):G (aE×dA):=
 ite (A' (a3<a2)) (M (idx a0 a3) λx2=>M (F52 n b5 dW x2) λx9=>M (F27 n x9 jn) λiK=>ite (!A' (iK<0)) (ite (!ru) (M (TA n qc) λiq=>M (app gf [iq]) λyQ=>Rs f7 n dW jn qc I x2 iK a0 a2 a3 gJ b5 (NH gJ) (NH []) yQ) (Rs f7 n dW jn qc ru x2 iK a0 a2 a3 gJ b5 (NH gJ) (NH []) gf)) (Rs f7 n dW jn qc ru x2 iK a0 a2 a3 gJ b5 (NH gJ) (NH []) gf)) (bD dW qc ru gJ (NH gJ) (NH []) gf)
def aVr {bD} (cV:KK (A51 (aI 31)) agw bD) {f7} (aL:KK (A51 (aI 87)) Uk f7) (n:Nat):KK (A51 (aI 87)) Uk (aeD bD f7 n):=λ_ _ _ _ _ _ _ _ _ _ _ _ r h=>ie h (λc0 h=>be h λ_ dq h=>be h λx9 ir h=>be h λ_ gR h=>let zA:SE:=[aD c0,(0,ke.idx dq),(5,.call (YS n ir) [] [(32,bL)]),(1,iG.eD 32 x9),kj (YP n gR)];ie h (λc1 h=>ie h (λc2 h=>be h λiq oo h=>be h λ_ yC h=>cD (atX aL n h) zA [aS c1,aS c2,(3,.call (adL n oo) [] [(43,bL)]),(0,iG.eD 43 iq),(0,.pN 43 (.sl 0 0 0 0 [])),(1,ke.kq yC)]) λc2 h=>cD (atX aL n h) zA [aS c1,aS c2]) λc1 h=>cD (atX aL n h) zA [aS c1]) λc0 h=>ra (cV h) [aD c0]
def L9 (bD:Wf62):Nat->Int->aU->aU->Bool->bz->Int->Int->dA->af->aE->aE->bz->G (aE×dA)
 |0=>dK.z
 |n+1=>aeD bD (L9 bD n) n
def aGv {bD} (cV:KK (A51 (aI 31)) agw bD):∀n:Nat,KK (A51 (aI 87)) Uk (L9 bD n)
 |0=>KC.h
 |n+1=>aVr cV (aGv cV n) n
def aeC (n:Nat) (dW:Int) (gJ:dA) (b6 td:aE) (gf:bz):G (aE×dA):=
 M (eT (O gJ) dW) λx5=>M (gJ[0+x5]?) λx7=>M (setAt gJ (0+x5) gf) λz8=>V ((NH z8),z8)
def aIx:KK (A51 (aI 63)) aLW (aeC g):=λ_ _ _ _ gf r h=>be h λ_ jI h=>be h λ_ j7 h=>be h λ_ hz8 h=>rr h [(4,du jI),(0,ke.eD 45 gf),(0,.pN 63 (.sl 0 0 0 0 [])),(0,p9.uj 0 [.slice 70 1 (O gf) (je gf)] j7 hz8),(2,.beq 10 (bH (λn_=>(Bx.flat 51 [sR ly n_])) (eB hz8)))]
def V9 (b6 td:aE) (gf:bz):G (aE×dA):=
 ite (!bd) (M (TA g B) λx5=>M (app gf [x5]) λx8=>aeC g u bQ (NH bQ) (NH []) x8) (aeC g u bQ (NH bQ) (NH []) gf)
def aVq:KK (A51 (aI 31)) agw (V9 g):=λ_ _ _ _ _ _ _ r h=>ie h (λc0 h=>be h λx5 jI h=>be h λ_ lr h=>ra (aIx g h) [aX c0,(2,.call (adL g jI) [] [(57,bL)]),(0,iG.eD 57 x5),(0,.pN 57 (.sl 0 0 0 0 [])),(1,ke.kq lr)]) λc0 h=>ra (aIx g h) [aX c0]
def awg:G (aE×dA):=
 M (eT (O H.ag) D) λiK=>M (H.ag[0+iK]?) λkz=>L9 (V9 g) g D al an ((O an:Int)==0) kz (O kz:Int) 0 H.ag w H (NH []) []
def aVp:KK (A51 []) axn (awg g):=λ_ _ _ _ _ r h=>be h λ_ gR h=>be h λ_ jK h=>ra (aGv (aVq g) g h) [(11,du gR),(0,p9.row jK),(2,.born [11] [] 45 I 70 1)]
def F51:=awg
def ev51:KK (Cx E0 51 aFJ ayo) axn (F51 g):=λ_ _ _ _ _ _ h=>ca (X:=x51) (aVp g h)
def aFQ:AV:=.agg (kV eE.1)
def ayy:List (Nat×Bx):= (sS (eN eE.2))
def kO:=fx E0 Tryz.f19 [0]
def HT:=Ax kO aFQ ayy
def ahj (b6 b7:aE) (lw:dA):LS:=⟨[aV 0,(2,ck u),aV 4,aV 6,aV 7,(8,ck C),(9,ck vQ),(18,ck D),(19,ck qr)],[(0,kn (eN bm)),(4,fW (cX aA)),(6,yr),(7,.flat 51 [.ms 14 1 0 (O lw)]),(14,HY lw)]⟩
def E9 (b6 b7:aE) (lw:dA):LS:=⟨[aV 0,(2,ck u),aV 4,aV 6,aV 7,(18,ck C),(19,ck vQ)],[(0,kn (eN J)),(4,fW (cX aa)),(6,yr),(7,.flat 51 [.ms 14 1 0 (O lw)]),(14,HY lw)]⟩
def ahi (b6 b7:aE) (lw:dA):LS:=⟨[aV 6,aV 7],[(0,kn (eN J)),(6,yr),(7,.flat 51 [.ms 14 1 0 (O lw)]),(14,HY lw)]⟩
def axB:LS:=⟨[aV 0,(1,.agg (cX aa)),(2,ck bf)],(sS (eN J))⟩
def ZW (f7:Int->Int->Int->Int->Int->aG->af->aE->aE->dA->G (aE×aG)) (n:Nat) (uD t8 n9 a0 a2:Int) (b0:aG) (b4:af) (b6 b7:aE) (lw:dA):G (aE×aG):=
 ite (A' (0<n9)) (M (F50 n b4 t8) λx6=>M (idx b4.ag t8) λdG=>M (F49 n b0 x6 dG.av uD) λgF=>M (F52 n b4 t8 gF.1) λim=>M (F51 n b4 (NH lw) t8 im gF.1) λmm=>f7 uD t8 (ba (n9-1)) a0 a2 gF.2 b4 (NH []) (NH mm.2) mm.2) (eg uD a0 a2 b0 b4 (NH []) (NH lw) lw)
def aWS {aH} (aY:KK (HT (aI 971)) E9 aH) {f7} (aL:KK (HT (aI 11467)) ahj f7) (n:Nat):KK (HT (aI 11467)) ahj (ZW aH f7 n):=λ_ _ _ _ _ _ _ _ _ _ r h=>ie h (λda h=>be h λx6 km h=>be h λ_ fR h=>be h λgF iC h=>be h λim mc h=>be h λ_ oK h=>ra (aL h) [aX da,(0,.ord [0,1,2,4,5,6,7,8,9,10,3,11,12]),(6,cy.idx fR),(3,uk (cd (e:=3) (z:=I) (Q:=dP x6) (YR n km) (R3.len x6))),(0,.call (ev49 n iC) [(0,0)] [(39,bL)]),(1,iG.eD 39 gF.1),(0,.ord [0,1,2,3,4,5,7,6,8,9]),(7,uk (cd (e:=38) (z:=I) (Q:=cY im) (YS n mc) (iG.len im))),(0,.call (ev51 n oK) [(14,ly)] [])]) λda h=>ra (aY h) [aX da]
def Rb (aH:aut):Nat->Int->Int->Int->Int->Int->aG->af->aE->aE->dA->G (aE×aG)
 |0=>dK.z
 |n+1=>ZW aH (Rb aH n) n
def aGY {aH} (aY:KK (HT (aI 971)) E9 aH):∀n:Nat,KK (HT (aI 11467)) ahj (Rb aH n)
 |0=>KC.h
 |n+1=>aWS aY (aGY aY n) n
def ZX (n:Nat) (uD a0 a2:Int) (b0:aG) (b4:af) (b6 b7:aE) (lw:dA):G (aE×aG):=
 eg uD a0 (ba (a2+1)) b0 b4 (NH []) (NH lw) lw
def aWR {bw} (cQ:KK (HT (aI 43)) E9 bw) (n:Nat):KK (HT (aI 971)) E9 (ZX bw n):=λ_ _ _ _ _ _ _ _ r h=>ra (cQ h) []
def ZY (bD:Wf64) (f7:aut) (n:Nat) (uD a0 a2:Int) (b0:aG) (b4:af) (b6 b7:aE) (lw:dA):G (aE×aG):=
 ite (A' (a2<a0)) (M (rS n b0 5) λx5=>Rb (ZX f7 n) n uD a2 x5.1 a0 a2 x5.2 b4 (NH []) (NH lw) lw) (bD b0 (NH []) (NH lw) lw)
def aWQ {bD} (cV:KK (HT [1,1,1]) ahi bD) {f7} (aL:KK (HT (aI 43)) E9 f7) (n:Nat):KK (HT (aI 43)) E9 (ZY bD f7 n):=λ_ _ _ _ _ _ _ _ r h=>ie h (λda h=>be h λ_ jI h=>ra (aGY (aWR aL n) n h) [aD da,(3,.call (o5 n jI) [(0,0)] [])]) λda h=>ra (cV h) [aD da]
def Mj (bD:Wf64):Nat->Int->Int->Int->aG->af->aE->aE->dA->G (aE×aG)
 |0=>dK.z
 |n+1=>ZY bD (Mj bD n) n
def aGX {bD} (cV:KK (HT [1,1,1]) ahi bD):∀n:Nat,KK (HT (aI 43)) E9 (Mj bD n)
 |0=>KC.h
 |n+1=>aWQ cV (aGX cV n) n
def Wv (n:Nat) (b0:aG) (b6 b7:aE) (lw:dA):G (aE×aG):=
 V ((NH lw),b0)
def aWP:KK (HT [1,1,1]) ahi (Wv g):=λ_ _ _ lw r h=>rr h [(2,p9.eD 14 lw)]
def awy:G (aE×aG):=
 M (rT (O aa.ag:Int) ([]:bz)) λx6=>Mj (Wv g) g bf (O aa.ag:Int) 0 J aa (NH []) (NH x6) x6
def aWO:KK (HT []) axB (awy g):=λ_ _ _ r h=>be h λ_ km h=>ra (aGX (aWP g) g h) [(5,p9.made km),(0,.seq 14 (bH (AV.ms 14 1 0) ((K0 km))))]
def F19:=awy
def ev19:KK (Cx E0 19 aFQ ayy) axB (F19 g):=λ_ _ _ _ h=>ca (X:=kO) (aWO g h)
def x62:=fx E0 Tryz.f62 []
def A62:=Ax x62 dj bE
def agv:LS:=⟨[(0,.slice 70 1 (O S) (je S)),(1,.slice 70 1 (O bx) (je bx)),(12,iI bB),(13,iI ao)],[]⟩
def agu:LS:=⟨[],[]⟩
def axl:LS:=⟨[(0,.slice 70 1 (O S) (je S)),(1,.slice 70 1 (O bx) (je bx))],[]⟩
def aeB (f7:bz->bz->Int->Int->G Bool) (n:Nat) (a0 b1:bz) (a2 a3:Int):G Bool:=
 ite (A' (a3<a2)) (M (idx a0 a3) λx6=>M (idx b1 a3) λdG=>M (F27 n x6 dG) λkz=>ite (kz !=0) (V U) (f7 a0 b1 a2 (ba (a3+1)))) cF
def aVj {aH} (aY:KK (A62 [1,1,1]) agu aH) {f7} (aL:KK (A62 (aI 43)) agv f7) (n:Nat):KK (A62 (aI 43)) agv (aeB aH f7 n):=λ_ _ _ _ r h=>ie h (λc0 h=>be h λ_ km h=>be h λ_ fR h=>be h λ_ jK h=>let zA:SE:=[aD c0,(4,ke.idx km),(3,ke.idx fR),rJ (YP n jK)];ie h (λc1 h=>bt h zA [aD c1]) λc1 h=>cD (aL h) zA [aD c1]) λc0 h=>ra (aY h) [aD c0]
def QU (aH:G Bool):Nat->bz->bz->Int->Int->G Bool
 |0=>dK.z
 |n+1=>aeB aH (QU aH n) n
def aGu {aH} (aY:KK (A62 [1,1,1]) agu aH):∀n:Nat,KK (A62 (aI 43)) agv (QU aH n)
 |0=>KC.h
 |n+1=>aVj aY (aGu aY n) n
def aeA (n:Nat):G Bool:=
 V I
def aVi:KK (A62 [1,1,1]) agu (aeA g):=λr h=>rr h []
def awb:G Bool:=
 ite ((O S:Int) !=(O bx:Int)) (V U) (QU (aeA g) g S bx (O S:Int) 0)
def aVh:KK (A62 []) axl (awb g):=λ_ _ r h=>ie h (λc0 h=>rr h [bN c0]) λc0 h=>ra (aGu (aVi g) g h) [bN c0]
def F62:=awb
def ev62:KK (Cx E0 62 dj bE) axl (F62 g):=λ_ _ _ h=>ca (X:=x62) (aVh g h)
def iq:=fx E0 Tryz.f23 []
def A23:=Ax iq dj bE
def ahf:LS:=⟨[aV 2,aV 3,(15,ck u),(16,ck C)],[(2,wv (kV H)),(3,wv (kV bG))]⟩
def ahe:LS:=⟨[],[]⟩
def axz:LS:=⟨(HX (kV H) (kV bG)),[]⟩
def Zb (f7:Int->Int->aE->aE->G Bool) (n:Nat) (a0 a2:Int) (b2 b3:aE):G Bool:=
 ite (A' (a2<a0)) (M (idx b2.ag a2) λx7=>M (idx b3.ag a2) λdZ=>M (F62 n x7 dZ) λgF=>ite (!gF) (V U) (f7 a0 (ba (a2+1)) b2 b3)) cF
def aWJ {aH} (aY:KK (A23 [1,1,1]) ahe aH) {f7} (aL:KK (A23 (aI 43)) ahf f7) (n:Nat):KK (A23 (aI 43)) ahf (Zb aH f7 n):=λ_ _ _ _ r h=>ie h (λc0 h=>be h λ_ j7 h=>be h λ_ gj h=>be h λ_ iC h=>let zA:SE:=[aD c0,(5,p9.idx j7),(4,p9.idx gj),rJ (ev62 n iC)];ie h (λc1 h=>bt h zA [aD c1]) λc1 h=>cD (aL h) zA [aD c1]) λc0 h=>ra (aY h) [aD c0]
def Q9 (aH:G Bool):Nat->Int->Int->aE->aE->G Bool
 |0=>dK.z
 |n+1=>Zb aH (Q9 aH n) n
def aGU {aH} (aY:KK (A23 [1,1,1]) ahe aH):∀n:Nat,KK (A23 (aI 43)) ahf (Q9 aH n)
 |0=>KC.h
 |n+1=>aWJ aY (aGU aY n) n
def Zc (n:Nat):G Bool:=
 V I
def aWI:KK (A23 [1,1,1]) ahe (Zc g):=λr h=>rr h []
def aww:G Bool:=
 ite ((O H.ag:Int) !=(O bG.ag:Int)) (V U) (Q9 (Zc g) g (O H.ag:Int) 0 H bG)
def aWH:KK (A23 []) axz (aww g):=λ_ _ r h=>ie h (λc0 h=>rr h [LL c0]) λc0 h=>ra (aGU (aWI g) g h) [LL c0]
def F23:=aww
def ev23:KK (Cx E0 23 dj bE) axz (F23 g):=λ_ _ _ h=>ca (X:=iq) (aWH g h)
def ado:AV:=.ms bL 5 0 (O dE.1)
def ayx:List (Nat×Bx):= [(0,kn (eN dE.2)),(bL,K5 dE.1)]
def mm:=fx E0 Tryz.f28 [0]
def AX:=Ax mm ado ayx
def aMk:LS:=⟨[aV 0,aV 4,(7,.ms 14 5 0 (O aT)),(8,iI u),aV 9,(10,.slice 38 3 (O B) (cY B)),(11,iI C),(12,iI vQ),(15,.ms 14 5 0 (O aT)),(16,iI D),(17,iI qr),(31,.loc 0 0),(32,.bool U),(48,iI R),(49,iI bf)],[(0,kn (eN bm)),(4,wv (kV bo)),(9,zM (zr br (.ms 44 3 0 (O an)))),(14,K5 aT),(44,xx an)]⟩
def Un:LS:=⟨[aV 0,aV 4,(7,.ms 14 5 0 (O aT)),(8,iI u),aV 9,(10,.slice 38 3 (O B) (cY B)),(15,.ms 14 5 0 (O aT)),(16,iI C),(17,iI vQ),(31,.loc 0 0),(32,.bool U),(48,iI D),(49,iI qr)],[(0,kn (eN bm)),(4,wv (kV bo)),(9,zM (zr br (.ms 44 3 0 (O an)))),(14,K5 aT),(44,xx an)]⟩
def aha:LS:=⟨[aV 0,aV 4,(7,.ms 14 5 0 (O ul)),(8,ck u),aV 9,(15,.ms 14 5 0 (O ul)),(16,ck C),(17,ck vQ),(31,.loc 0 0),(32,.bool U)],[(0,kn (eN J)),(4,wv (kV H)),(9,zM (zr Z (.ms 44 3 0 (O al)))),(14,K5 ul),(44,xx al)]⟩
def I7:LS:=⟨[aV 0,aV 4,(7,.ms 14 5 0 (O ul)),(15,.ms 14 5 0 (O ul)),(16,ck u),(17,ck C)],[(0,kn (eN J)),(4,wv (kV H)),(14,K5 ul)]⟩
def agZ:LS:=⟨[(7,.ms 14 5 0 (O ul))],[(0,kn (eN J)),(14,K5 ul)]⟩
def axx:LS:=⟨[aV 0,(1,.agg (kV H)),(2,.slice 113 5 (O ul) (qS ul))],(sS (eN J))⟩
def Wj (aH:Wf65) (n:Nat) (i8:Int) (Jf:aU) (a2 a0 a3 a4 a5 a6:Int) (b0:aG) (b4:aE) (lw:dk) (b9:aW) (iT:aU):G (dk×aG):=
 ite (!A' (a0<(O b9.av:Int))) (M (Ay n b0 3) λx8=>ite (!x8.1) (M (idx Jf a0) λjh=>M (eT (O iT) a2) λlK=>M (iT[0+lK]?) λqh=>M (setAt iT (0+lK) jh) λa7=>aH i8 Jf a3 a4 a5 (ba (a6+1)) x8.2 b4 lw (RJ b9.aQ b9.aq b9.av b9.L a7) a7) (aH i8 Jf a3 a4 a5 (ba (a6+1)) x8.2 b4 lw (RJ b9.aQ b9.aq b9.av b9.L iT) iT)) (aH i8 Jf a3 a4 a5 (ba (a6+1)) b0 b4 lw (RJ b9.aQ b9.aq b9.av b9.L iT) iT)
def aIF {aH} (aY:KK (AX (aI 179403)) Un aH) (n:Nat):KK (AX (aI 63749323)) aMk (Wj aH n):=λ_ _ _ _ _ _ _ _ _ _ _ b9 _ r h=>ie h (λda h=>be h λ_ lr h=>let zA:SE:=[bl da,(2,.call (o4 n lr) [(0,0)] [])];ie h (λc1 h=>be h λjh iX h=>be h λ_ j8 h=>be h λ_ pD h=>be h λ_ Vi h=>cD (aY h) zA [aD c1,(6,iG.idx iX),(1,du j8),(0,iG.uj 0 (iF jh) pD Vi),(2,.beq 9 (bH (λn_=>((zM (zr b9 (.ms 44 3 0 n_))))) (eB Vi)))]) λc1 h=>cD (aY h) zA [aD c1]) λda h=>ra (aY h) [bl da]
def Zh (bw:Wf66) (f7:Wf65) (n:Nat) (i8:Int) (Jf:aU) (a0 a2 a3 a4:Int) (b0:aG) (b4:aE) (lw:dk) (b9:aW) (iT:aU):G (dk×aG):=
 ite (A' (a4<a3)) (ite (b9.aQ==2) (M (idx b9.L a4) λiK=>Wj f7 n i8 Jf a4 iK a0 a2 a3 a4 b0 b4 lw (RJ b9.aQ b9.aq b9.av b9.L iT) iT) (Wj f7 n i8 Jf a4 a4 a0 a2 a3 a4 b0 b4 lw (RJ b9.aQ b9.aq b9.av b9.L iT) iT)) (bw i8 a0 a2 b0 b4 lw (RJ b9.aQ b9.aq b9.av b9.L iT) iT)
def aWy {bw} (cQ:KK (AX (aI 64715)) aha bw) {f7} (aL:KK (AX (aI 179403)) Un f7) (n:Nat):KK (AX (aI 179403)) Un (Zh bw f7 n):=λ_ _ _ _ _ _ _ _ _ _ _ r h=>ie h (λda h=>ie h (λc1 h=>be h λ_ gR h=>ra (aIF aL n h) [aD da,dz c1,(3,R3.idx gR)]) λc1 h=>ra (aIF aL n h) [aD da,dz c1]) λda h=>ra (cQ h) [aD da]
def Mh (bw:Wf66):Nat->Int->aU->Int->Int->Int->Int->aG->aE->dk->aW->aU->G (dk×aG)
 |0=>dK.z
 |n+1=>Zh bw (Mh bw n) n
def aGQ {bw} (cQ:KK (AX (aI 64715)) aha bw):∀n:Nat,KK (AX (aI 179403)) Un (Mh bw n)
 |0=>KC.h
 |n+1=>aWy cQ (aGQ cQ n) n
def awu (n:Nat) (i8 a0 a2:Int) (b0:aG) (b4:aE) (lw:dk) (b9:aW) (iT:aU):G (dk×aG):=
 M (eT (O lw) i8) λx4=>M (lw[0+x4]?) λx6=>M (setAt lw (0+x4) (RJ b9.aQ b9.aq b9.av b9.L iT)) λz7=>dn a0 a2 b0 b4 z7
def aWx {bD} (cV:KK (AX (aI 971)) I7 bD) (n:Nat):KK (AX (aI 64715)) aha (awu bD n):=λ_ _ _ _ _ _ b9 iT r h=>be h λ_ ic h=>be h λ_ km h=>be h λ_ hz7 h=>ra (cV h) [(3,du ic),(0,iG.eD 44 iT),(0,.pN 82 (.agg (uu 4 [.sl 0 0 0 0 []]))),(0,rB.uj 0 (zr b9 (.slice 38 3 (O iT) (cY iT))) km hz7),(0,.seq 7 (bH (AV.ms 14 5 0) (eB hz7))),(0,.seq 15 (bH (AV.ms 14 5 0) (eB hz7)))]
def RC (n:Nat) (a0 a2:Int) (b0:aG) (b4:aE) (lw:dk):G (dk×aG):=
 dn a0 (ba (a2+1)) b0 b4 lw
def aue {cZ} (fy:KK (AX (aI 43)) I7 cZ) (n:Nat):KK (AX (aI 971)) I7 (RC cZ n):=λ_ _ _ _ _ r h=>ra (fy h) []
def Zi:G (dk×aG):=
 ite (A' (d5<cv)) (M (eT (O cx) d5) λx3=>M (cx[0+x3]?) λx5=>M (idx cw.ag x5.aq) λkz=>ite ((O kz:Int)==0) (RC dn d4 cv d5 dy cw cx) (M (Ay d4 dy 4) λnP=>ite nP.1 (RC dn d4 cv d5 nP.2 cw cx) (M (idx cw.ag x5.aq) λx28_=>M (idx x28_ 0) λrN=>M (app [] x5.cB) λuZ=>Mh (awu (RC dn d4) d4) d4 d5 rN cv d5 (O uZ:Int) 0 nP.2 cw cx (RJ x5.aQ x5.aq x5.av x5.L uZ) uZ))) (d2 dy cx)
def aWw {dC} (fS:KK (AX [1,1,1]) agZ dC) {f7} (aL:KK (AX (aI 43)) I7 f7) (n:Nat):KK (AX (aI 43)) I7 (Zi dC f7 n):=λ_ _ _ _ _ r h=>ie h (λda h=>be h λ_ eP h=>be h λ_ jI h=>be h λ_ jK h=>let zA:SE:=[aD da,(1,du eP),(0,rB.row jI),(7,p9.idx jK)];ie h (λc1 h=>cD (aue aL n h) zA [aS c1]) λc1 h=>be h λ_ pE h=>ie h (λc2 h=>cD (aue aL n h) zA [aS c1,(2,.call (cb (o4 n pE) c2) [(0,0)] [])]) λc2 h=>be h λ_ oK h=>be h λ_ uJ h=>be h λ_ yA h=>cD (aGQ (aWx (aue aL n) n) n h) zA [aS c1,(2,.call (cb (o4 n pE) c2) [(0,0)] []),(5,p9.idx oK),(1,ke.idx uJ),(4,.born [] [] 44 I 38 3),(0,iG.app (xs:= []) yA)]) λda h=>ra (fS h) [aD da]
def Mg (dC:aus):Nat->Int->Int->aG->aE->dk->G (dk×aG)
 |0=>dK.z
 |n+1=>Zi dC (Mg dC n) n
def aGP {dC} (fS:KK (AX [1,1,1]) agZ dC):∀n:Nat,KK (AX (aI 43)) I7 (Mg dC n)
 |0=>KC.h
 |n+1=>aWw fS (aGP fS n) n
def Wi (n:Nat) (b0:aG) (lw:dk):G (dk×aG):=
 V (lw,b0)
def aWv:KK (AX [1,1,1]) agZ (Wi g):=λ_ _ r h=>rr h [(2,.iS 14 bL)]
def awt:G (dk×aG):=
 M (app [] ul) λx4=>Mg (Wi g) g (O x4:Int) 0 J H x4
def aWu:KK (AX []) axx (awt g):=λ_ _ _ r h=>be h λ_ ic h=>ra (aGP (aWv g) g h) [(3,.born [] [] 14 I 113 5),(0,rB.app (xs:= []) ic)]
def F28:=awt
def ev28:KK (Cx E0 28 ado ayx) axx (F28 g):=λ_ _ _ _ h=>ca (X:=mm) (aWu g h)
def x117:=fx E0 Tryz.f117 []
def TU:=Ax x117 dU bE
def afs:LS:=⟨[(2,iI u),(3,.slice 38 3 (O B) (cY B)),aV 4,(31,.slice 70 1 (O S) (je S)),(32,iI vQ),(33,iI D)],[(4,fW (cX aa))]⟩
def afu:LS:=⟨[],[]⟩
def y7:LS:=⟨[(0,.agg (cX w)),(1,.agg (kV H)),(2,iI D),(3,.slice 38 3 (O al) (cY al))],[]⟩
def XR (f7:Int->aU->bz->Int->Int->af->G Int) (n:Nat) (dW:Int) (jn:aU) (a0:bz) (a2 a3:Int) (b4:af):G Int:=
 ite (A' (a3<a2)) (M (idx a0 a3) λx3=>M (F52 n b4 dW x3) λdG=>M (F27 n dG jn) λkz=>ite (kz==0) (V a3) (f7 dW jn a0 a2 (ba (a3+1)) b4)) d3
def aQF {aH} (aY:KK (TU [1,1,1]) afu aH) {f7} (aL:KK (TU (aI 43)) afs f7) (n:Nat):KK (TU (aI 43)) afs (XR aH f7 n):=λ_ _ _ _ _ _ r h=>ie h (λc0 h=>be h λ_ eP h=>be h λdG fR h=>be h λ_ jK h=>let zA:SE:=[aD c0,(1,ke.idx eP),(6,.call (YS n fR) [] [(41,bL)]),(1,iG.eD 41 dG),kj (YP n jK)];ie h (λc1 h=>bt h zA [aD c1]) λc1 h=>cD (aL h) zA [aD c1]) λc0 h=>ra (aY h) [aD c0]
def Ki (aH:G Int):Nat->Int->aU->bz->Int->Int->af->G Int
 |0=>dK.z
 |n+1=>XR aH (Ki aH n) n
def azV {aH} (aY:KK (TU [1,1,1]) afu aH):∀n:Nat,KK (TU (aI 43)) afs (Ki aH n)
 |0=>KC.h
 |n+1=>aQF aY (azV aY n) n
def XQ (n:Nat):G Int:=
 V (-1)
def aQE:KK (TU [1,1,1]) afu (XQ g):=λr h=>rr h []
def amM:G Int:=
 ite (A' (D<0)) (V (-1)) (ite (!A' (D<(O w.ag:Int))) (V (-1)) (ite (!A' (D<(O H.ag:Int))) (V (-1)) (M (idx H.ag D) λiq=>Ki (XQ g) g D al iq (O iq:Int) 0 w)))
def aQD:KK (TU []) y7 (amM g):=λ_ _ _ _ r h=>ie h (λc0 h=>rr h [bl c0]) λc0 h=>ie h (λc1 h=>rr h [bl c0,bN c1]) λc1 h=>ie h (λc2 h=>rr h [bl c0,bN c1,dz c2]) λc2 h=>be h λ_ oo h=>ra (azV (aQE g) g h) [bl c0,bN c1,dz c2,(4,p9.idx oo)]
def Sv:=amM
def aHW:KK (Cx E0 117 dU bE) y7 (Sv g):=λ_ _ _ _ _ h=>ca (X:=x117) (aQD g h)
def adk:AV:=.dh [.ms bL 3 0 (O dH.1),.bool dH.2]
def UL:List (Nat×Bx):= [(bL,xx dH.1)]
def x71:=fx E0 Tryz.f71 []
def A71:=Ax x71 adk UL
def avV:G (aU×Bool):=
 M (Sv g w H D al) λx9=>ite (A' (x9<0)) (V ([],U)) (M (idx H.ag D) λjh=>M (idx jh x9) λnP=>M (TA g nP) λDB=>V (DB,I))
def aUS:KK (A71 []) y7 (avV g):=λ_ _ _ _ r h=>be h λ_ ir h=>ie h (λc0 h=>rr h [adB (aHW g ir),aS c0,(2,.born [8] [] bL I 38 3)]) λc0 h=>be h λ_ iX h=>be h λ_ pE h=>be h λ_ yD h=>rr h [adB (aHW g ir),aS c0,(3,p9.idx iX),(2,ke.idx pE),(1,.call (adL g yD) [] [(26,bL)]),(2,.iS 26 bL)]
def F71:=avV
def ev71:KK (Cx E0 71 adk UL) y7 (F71 g):=λ_ _ _ _ _ h=>ca (X:=x71) (aUS g h)
def x72:=fx E0 Tryz.f72 []
def A72:=Ax x72 dU bE
def axg:LS:=⟨[(0,iI u),(1,.slice 38 3 (O B) (cY B)),(2,iI C),(3,.slice 38 3 (O F) (cY F))],[]⟩
def avU:G Int:=
 ite (u !=C) (ite (A' (u<C)) (V (-1)) (V 1)) (M (F27 g B F) λx7=>V x7)
def aUR:KK (A72 []) axg (avU g):=λ_ _ _ _ r h=>ie h (λc0 h=>ie h (λc1 h=>rr h [aZ c0,aS c1]) λc1 h=>rr h [aZ c0,aS c1]) λc0 h=>be h λ_ j7 h=>rr h [aZ c0,jl (YP g j7)]
def F72:=avU
def ev72:KK (Cx E0 72 dU bE) axg (F72 g):=λ_ _ _ _ _ h=>ca (X:=x72) (aUR g h)
def ayw:List (Nat×Bx):= [(0,kn (eN dE.2)),(bL,Fk dE.1)]
def EX:=fx E0 Tryz.f29 [0]
def wU:=Ax EX ado ayw
def agY:LS:=⟨[aV 0,aV 5,aV 6,(9,.ms qm 5 0 (O aT)),(10,iI u),(12,.ms 50 3 0 (O an)),aV 14,(17,iI C),(28,.loc 5 1),(29,.slice 44 5 (O cc) (dI cc)),(30,iI ao),(31,.bool I)],[(0,kn (eN bm)),(5,fW (cX aA)),(6,wv (kV bo)),(14,zM (DR ej (.ms 129 1 0 (O dS)) (.ms 137 3 0 (O dT)))),(50,xx an),(129,Dh dS),(137,xx dT),(qm,Fk aT)]⟩
def agX:LS:=⟨[aV 0,aV 5,aV 6,(9,.ms qm 5 0 (O aT)),(10,iI u),aV 14,(18,iI C),(19,.bool bd),(20,iI bf),(28,.loc 5 1),(29,.slice 44 5 (O cc) (dI cc)),(30,iI ao),(31,.bool I)],[(0,kn (eN bm)),(5,fW (cX aA)),(6,wv (kV bo)),(14,zM (DR br (.ms 129 1 0 (O bR)) (.ms xP 3 0 (O bX)))),(129,Dh bR),(qm,Fk aT),(xP,xx bX)]⟩
def agW:LS:=⟨[aV 0,aV 5,aV 6,(9,.ms qm 5 0 (O aT)),(10,iI u),aV 14,(18,iI C),(19,.bool bd),(28,.loc 5 1),(29,.slice 44 5 (O cc) (dI cc)),(30,iI ao),(31,.bool I)],[(0,kn (eN bm)),(5,fW (cX aA)),(6,wv (kV bo)),(14,zM (DR br (.ms 129 1 0 (O bR)) (.ms xP 3 0 (O bX)))),(129,Dh bR),(qm,Fk aT),(xP,xx bX)]⟩
def agV:LS:=⟨[aV 0,aV 5,aV 6,(9,.ms qm 5 0 (O aT)),(10,iI u),aV 14,(28,.loc 5 1),(29,.slice 44 5 (O cc) (dI cc)),(30,iI ao),(31,.bool I)],[(0,kn (eN bm)),(5,fW (cX aA)),(6,wv (kV bo)),(14,zM (DR br (.ms 129 1 0 (O bR)) (.ms xP 3 0 (O bX)))),(129,Dh bR),(qm,Fk aT),(xP,xx bX)]⟩
def aMj:LS:=⟨[aV 0,aV 5,aV 6,(9,.ms qm 5 0 (O aT)),(10,iI u),(11,iI C),(12,.ms 50 3 0 (O an)),(28,.loc 5 1),(29,.slice 44 5 (O cc) (dI cc)),(30,iI ao),(31,.bool I)],[(0,kn (eN bm)),(5,fW (cX aA)),(6,wv (kV bo)),(50,xx an),(qm,Fk aT)]⟩
def I6:LS:=⟨[aV 0,aV 5,aV 6,(9,wu qm (O aT)),(10,ck u)],[(0,kn (eN J)),(5,fW (cX aa)),(6,wv (kV bG)),(qm,Fk aT)]⟩
def agU:LS:=⟨[(9,wu qm (O ul))],[(0,kn (eN J)),(qm,Fk ul)]⟩
def axw:LS:=⟨[aV 0,(1,.agg (cX aa)),(2,.agg (kV bG)),(3,ck ao)],(sS (eN J))⟩
def Zj (bD:Wf69) (f7:Int->Int->bC->Int->aG->af->aE->dk->aU->aW->aN->aU->G (dk×aG)) (n:Nat) (nS a0:Int) (a2:bC) (a3:Int) (b0:aG) (b5:af) (b6:aE) (b9:dk) (qK:aU) (lw:aW) (mt:aN) (qe:aU):G (dk×aG):=
 ite (A' (a0<(O qK:Int))) (ite (lw.aQ==2) (M (Ay n b0 2) λdG=>ite dG.1 (M (app mt [a0]) λjh=>M (eT (O qK) a0) λiq=>M (qK[0+iq]?) λim=>M (app qe [im]) λmm=>f7 nS (ba (a0+1)) a2 a3 dG.2 b5 b6 b9 qK (RJ lw.aQ lw.aq lw.av jh mm) jh mm) (f7 nS (ba (a0+1)) a2 a3 dG.2 b5 b6 b9 qK (RJ lw.aQ lw.aq lw.av mt qe) mt qe)) (bD nS a2 a3 b0 b5 b6 b9 (RJ lw.aQ lw.aq lw.av mt qe) mt qe)) (bD nS a2 a3 b0 b5 b6 b9 (RJ lw.aQ lw.aq lw.av mt qe) mt qe)
def aWt {bD} (cV:KK (wU (aI 32331)) agV bD) {f7} (aL:KK (wU (aI 1498699)) agY f7) (n:Nat):KK (wU (aI 1498699)) agY (Zj bD f7 n):=λ_ _ _ _ _ _ _ _ _ _ _ _ r h=>ie h (λda h=>ie h (λc1 h=>be h λ_ fR h=>ie h (λc2 h=>be h λ_ iX h=>be h λ_ oo h=>be h λ_ mc h=>be h λ_ oK h=>ra (aL h) [aZ da,aZ c1,(2,.call (cb (o4 n fR) c2) [(0,0)] []),(4,R3.kq iX),(4,du oo),(0,iG.row mc),(1,iG.kq oK)]) λc2 h=>ra (aL h) [aZ da,aZ c1,(2,.call (cb (o4 n fR) c2) [(0,0)] [])]) λc1 h=>ra (cV h) [aZ da,aZ c1,(1,.iS 137 xP)]) λda h=>ra (cV h) [aZ da,(2,.iS 137 xP)]
def Q5 (bD:Wf69):Nat->Int->Int->bC->Int->aG->af->aE->dk->aU->aW->aN->aU->G (dk×aG)
 |0=>dK.z
 |n+1=>Zj bD (Q5 bD n) n
def aGO {bD} (cV:KK (wU (aI 32331)) agV bD):∀n:Nat,KK (wU (aI 1498699)) agY (Q5 bD n)
 |0=>KC.h
 |n+1=>aWt cV (aGO cV n) n
def Zk (bw:Wf70) (f7:Int->Int->Bool->Int->bC->Int->aG->af->aE->dk->aW->aN->aU->G (dk×aG)) (n:Nat) (nS Io:Int) (xc:Bool) (a0:Int) (a2:bC) (a3:Int) (b0:aG) (b5:af) (b6:aE) (b9:dk) (lw:aW) (mt:aN) (nA:aU):G (dk×aG):=
 ite (!A' (a0<0)) (M (eT (O b9) a0) λx9=>M (b9[0+x9]?) λiK=>M (eT (O b9) a0) λgF=>M (b9[0+gF]?) λkO=>M (F72 n lw.aq lw.av iK.aq kO.av) λnP=>ite (nP==0) (f7 nS Io I (ba (a0-1)) a2 a3 b0 b5 b6 b9 (RJ lw.aQ lw.aq lw.av mt nA) mt nA) (ite (nP==(-1)) (f7 nS a0 xc (ba (a0-1)) a2 a3 b0 b5 b6 b9 (RJ lw.aQ lw.aq lw.av mt nA) mt nA) (f7 nS Io xc (ba (a0-1)) a2 a3 b0 b5 b6 b9 (RJ lw.aQ lw.aq lw.av mt nA) mt nA))) (bw nS Io xc a2 a3 b0 b5 b6 b9 (RJ lw.aQ lw.aq lw.av mt nA) mt nA)
def aWs {bw} (cQ:KK (wU (aI 130635)) agW bw) {f7} (aL:KK (wU (aI 360011)) agX f7) (n:Nat):KK (wU (aI 360011)) agX (Zk bw f7 n):=λ_ _ _ _ _ _ _ _ _ _ _ _ _ r h=>ie h (λda h=>be h λ_ ir h=>be h λ_ gR h=>be h λ_ iC h=>be h λ_ mY h=>be h λ_ pE h=>let zA:SE:=[aX da,(6,du ir),(1,rB.row gR),(2,du iC),(1,rB.row mY),kj (ev72 n pE)];ie h (λc1 h=>cD (aL h) zA [aD c1]) λc1 h=>ie h (λc2 h=>cD (aL h) zA [aD c1,aX c2]) λc2 h=>cD (aL h) zA [aD c1,aX c2]) λda h=>ra (cQ h) [aX da]
def Q4 (bw:Wf70):Nat->Int->Int->Bool->Int->bC->Int->aG->af->aE->dk->aW->aN->aU->G (dk×aG)
 |0=>dK.z
 |n+1=>Zk bw (Q4 bw n) n
def aGN {bw} (cQ:KK (wU (aI 130635)) agW bw):∀n:Nat,KK (wU (aI 360011)) agX (Q4 bw n)
 |0=>KC.h
 |n+1=>aWs cQ (aGN cQ n) n
def Wh (n:Nat) (nS Io:Int) (xc:Bool) (a0:bC) (a2:Int) (b0:aG) (b5:af) (b6:aE) (b9:dk) (lw:aW) (mt:aN) (nA:aU):G (dk×aG):=
 ite (!xc) (M (ou (O b9) Io) λx5=>M (yH (O b9) Io) λdG=>M (app [(RJ lw.aQ lw.aq lw.av mt nA)] (C' (O b9-dG) (B' (0+dG) b9))) λdZ=>M (BK b9 x5 dZ) λgG=>cK (ba (nS-1)) b0 b5 b6 gG) (cK (ba (nS-1)) b0 b5 b6 b9)
def aWr {dC} (fS:KK (wU (aI 43)) I6 dC) (n:Nat):KK (wU (aI 130635)) agW (Wh dC n):=λ_ _ _ _ _ _ _ _ b9 _ mt nA r h=>ie h (λda h=>be h λ_ jI h=>be h λ_ fR h=>be h λ_ gj h=>be h λ_ lD h=>ra (fS h) [aX da,(0,R3.eD 129 mt),(0,iG.eD xP nA),(0,.kH 14 (.flat 0 [.bY,.bY,.bY,.sl 0 3 1 0 [],.sl 0 38 3 0 []])),(2,rB.ou (xs:=b9) jI (qz rfl)),(4,rB.yH (xs:=b9) fR (qz rfl)),(0,rB.appS gj (apP fR (qz rfl))),(0,rB.aXh lD)]) λda h=>ra (fS h) [aX da]
def MC:G (dk×aG):=
 Q4 (Wh cK cr) cr cm (O cx:Int) U (ba ((O cx:Int)-1)) d6 d7 dy d8 cw cx (RJ ej.aQ ej.aq ej.av dS dT) dS dT
def aIE {dC} (fS:KK (wU (aI 43)) I6 dC) (n:Nat):KK (wU (aI 32331)) agV (MC dC n):=λ_ _ _ _ _ _ _ _ _ _ r h=>ra (aGN (aWr fS n) n h) []
def MA:G (dk×aG):=
 M (idx d8.ag cv) λx6=>M (ou (O cn) x6.av) λfA=>M (app [] (C' fA (B' 0 cn))) λiK=>M (F71 cr d8 cw cv iK) λiq=>M (Ay cr dy 8) λx32=>ite (!(iq.2==x32.1)) (M (rS cr x32.2 2) λa0=>M (idx d8.ag cv) λDz=>Q5 (MC cK cr) cr cm Dz.av d6 d7 a0.2 d8 cw cx cn (RJ (ba (2+a0.1)) cv iK [] []) [] []) (MC cK cr cm d6 d7 x32.2 d8 cw cx (RJ 1 cv iK [] cn) [] cn)
def aud {dC} (fS:KK (wU (aI 43)) I6 dC) (n:Nat):KK (wU (aI 7755)) aMj (MA dC n):=λ_ _ _ _ _ _ _ _ qK r h=>be h λ_ km h=>be h λ_ iY h=>be h λiK gR h=>be h λ_ oo h=>be h λ_ Ov h=>let zA:SE:=[(5,cy.idx km),(2,iG.ou (xs:=qK) iY (qz rfl)),(0,.born [] [] 85 I 38 3),(0,iG.appS (xs:= []) gR (by rw[cN];exact (lO (uq iY).2 (qz rfl)))),(9,iG.eD 85 iK),(0,.call (ev71 n oo) [] [(309400,bL)]),(7,.call (o4 n Ov) [(0,0)] [])];ie h (λda h=>be h λ_ aDp h=>be h λ_ SN h=>cD (aGO (aIE fS n) n h) zA [aD da,(1,.call (o5 n aDp) [(0,0)] []),(8,cy.idx SN),(3,.born [] [(14,3)] 129 I 3 1),(0,.born [] [(14,4)] 137 I 38 3)]) λda h=>cD (aIE fS n h) zA [aD da,(0,.iS 50 xP),(0,.born [] [(14,3)] 129 I 3 1)]
def Zl (f7:aur) (n:Nat) (nS:Int) (b0:aG) (b5:af) (b6:aE) (b9:dk):G (dk×aG):=
 ite (A' (0<nS)) (ite (A' (0<(O b5.ag:Int))) (M (rS n b0 (O b5.ag:Int)) λdZ=>M (F50 n b5 dZ.1) λkO=>M (idx b5.ag dZ.1) λDB=>M (F49 n dZ.2 kO DB.av 1) λmm=>M (idx b6.ag dZ.1) λIX=>ite (A' (0<(O IX:Int))) (M (Ay n mm.2 3) λNa=>ite (!Na.1) (M (rS n Na.2 (O IX:Int)) λCk=>M (idx IX Ck.1) λx56=>M (F52 n b5 dZ.1 x56) λa0=>M (Hm mm.1 a0) λa2=>MA f7 n nS dZ.1 b5.ag (O b5.ag:Int) Ck.2 b5 b6 b9 a2) (MA f7 n nS dZ.1 b5.ag (O b5.ag:Int) Na.2 b5 b6 b9 mm.1)) (MA f7 n nS dZ.1 b5.ag (O b5.ag:Int) mm.2 b5 b6 b9 mm.1)) (d2 b0 b9)) (d2 b0 b9)
def aWq {iB} (mN:KK (wU [1,1,1]) agU iB) {f7} (aL:KK (wU (aI 43)) I6 f7) (n:Nat):KK (wU (aI 43)) I6 (Zl iB f7 n):=λ_ _ _ _ _ r h=>ie h (λda h=>ie h (λc1 h=>be h λ_ gj h=>be h λkO mY h=>be h λ_ yD h=>be h λ_ oK h=>be h λ_ H9 h=>let zA:SE:=[aX da,bl c1,(5,.call (o5 n gj) [(0,0)] []),(1,.ord [0,1,2,4,5,6,7,8,9,3,10,11]),(6,cy.idx yD),(2,uk (cd (e:=3) (z:=I) (Q:=dP kO) (YR n mY) (R3.len kO))),(0,.call (ev49 n oK) [(0,0)] [(50,bL)]),(4,p9.idx H9)];ie h (λc2 h=>be h λ_ SP h=>let zB:SE:=dx zA [bl c2,(2,.call (o4 n SP) [(0,0)] [])];ie h (λc3 h=>be h λ_ SM h=>be h λ_ Ox h=>be h λ_ aDj h=>be h λ_ hx61 h=>cD (aud aL n h) zB [aD c3,(8,.call (o5 n SM) [(0,0)] []),(0,ke.idx Ox),(1,.call (YS n aDj) [] [(74,bL)]),(0,iG.cpyW hx61),(0,.seq 12 (bH (AV.ms 50 3 0) ((aKG hx61).symm)))]) λc3 h=>cD (aud aL n h) zB [aD c3]) λc2 h=>cD (aud aL n h) zA [bl c2]) λc1 h=>ra (mN h) [aX da,bl c1]) λda h=>ra (mN h) [aX da]
def HG (iB:aus):Nat->Int->aG->af->aE->dk->G (dk×aG)
 |0=>dK.z
 |n+1=>Zl iB (HG iB n) n
def aGM {iB} (mN:KK (wU [1,1,1]) agU iB):∀n:Nat,KK (wU (aI 43)) I6 (HG iB n)
 |0=>KC.h
 |n+1=>aWq mN (aGM mN n) n
def RB (n:Nat) (b0:aG) (b9:dk):G (dk×aG):=
 V (b9,b0)
def aWp:KK (wU [1,1,1]) agU (RB g):=λ_ _ r h=>rr h [(2,.iS qm bL)]
def aws:G (dk×aG):=
 M (rS g J (ba (ao+1))) λx8=>HG (RB g) g x8.1 x8.2 aa bG []
def aWo:KK (wU []) axw (aws g):=λ_ _ _ _ r h=>be h λ_ lr h=>ra (aGM (aWp g) g h) [(7,.call (o5 g lr) [(0,0)] []),(1,.born [9] [] qm I 113 5)]
def F29:=aws
def ev29:KK (Cx E0 29 ado ayw) axw (F29 g):=λ_ _ _ _ _ h=>ca (X:=EX) (aWo g h)
def pL:=fx E0 Tryz.f77 []
def A77:=Ax pL sm r9
def Uh:LS:=⟨[(0,.slice 38 3 (O B) (cY B))],[]⟩
def avO (n:Nat) (j5:aU):G aU:=
 M (app [] j5) λx3=>V x3
def aUF:KK (A77 []) Uh (avO g):=λ_ r h=>be h λ_ eP h=>rr h [(2,.born [] [] 4 I 38 3),(0,iG.app (xs:= []) eP),(1,.iS 4 bL)]
def F77:=avO
def aDU:KK (Cx E0 77 sm r9) Uh (F77 g):=λ_ _ h=>ca (X:=pL) (aUF g h)
def axU:AV:=.dh [.slice 38 3 (O dH.1) (cY dH.1),.bool dH.2]
def ZF:=fx E0 Tryz.f166 []
def TM:=Ax ZF axU bE
def auo:LS:=⟨[(2,iI u),(3,.slice 38 3 (O B) (cY B)),aV 4,(32,.slice 70 1 (O S) (je S)),(33,iI vQ),(34,iI D)],[(4,fW (cX aa))]⟩
def avA:LS:=⟨[],[]⟩
def WX (aH:G (aU×Bool)) (f7:Int->aU->bz->Int->Int->af->G (aU×Bool)) (n:Nat) (dW:Int) (jn:aU) (a0:bz) (a2 a3:Int) (b4:af):G (aU×Bool):=
 ite (A' (a3<a2)) (M (idx a0 a3) λx2=>M (OW n b4 dW x2) λx9=>M (Ko n x9 jn) λiK=>ite (iK==0) (V (x2,I)) (f7 dW jn a0 a2 (ba (a3+1)) b4)) aH
def aOA {aH} (aY:KK (TM [1,1,1]) avA aH) {f7} (aL:KK (TM (aI 43)) auo f7) (n:Nat):KK (TM (aI 43)) auo (WX aH f7 n):=λ_ _ _ _ _ _ r h=>ie h (λc0 h=>be h λ_ dq h=>be h λ_ ir h=>be h λ_ gR h=>let zA:SE:=[aD c0,(0,ke.idx dq),lX (Oq n ir),rJ (Ig n gR)];ie h (λc1 h=>bt h zA [aD c1]) λc1 h=>cD (aL h) zA [aD c1]) λc0 h=>ra (aY h) [aD c0]
def JY (aH:G (aU×Bool)):Nat->Int->aU->bz->Int->Int->af->G (aU×Bool)
 |0=>dK.z
 |n+1=>WX aH (JY aH n) n
def azo {aH} (aY:KK (TM [1,1,1]) avA aH):∀n:Nat,KK (TM (aI 43)) auo (JY aH n)
 |0=>KC.h
 |n+1=>aOA aY (azo aY n) n
def WW (n:Nat):G (aU×Bool):=
 V ([],U)
def aOz:KK (TM [1,1,1]) avA (WW g):=λr h=>rr h [(2,.pN 8 (.sl 0 38 3 0 []))]
def alX:G (aU×Bool):=
 ite (A' (D<0)) (V ([],U)) (ite (!A' (D<(O w.ag:Int))) (V ([],U)) (ite (!A' (D<(O H.ag:Int))) (V ([],U)) (M (idx H.ag D) λDB=>JY (WW g) g D al DB (O DB:Int) 0 w)))
def aOy:KK (TM []) y7 (alX g):=λ_ _ _ _ r h=>ie h (λc0 h=>rr h [bN c0,(6,.pN 8 (.sl 0 38 3 0 []))]) λc0 h=>ie h (λc1 h=>rr h [bN c0,bN c1,(5,.pN 8 (.sl 0 38 3 0 []))]) λc1 h=>ie h (λc2 h=>rr h [bN c0,bN c1,dz c2,(3,.pN 8 (.sl 0 38 3 0 []))]) λc2 h=>be h λ_ yD h=>ra (azo (aOz g) g h) [bN c0,bN c1,dz c2,(4,p9.idx yD)]
def Y1:=alX
def aTm:KK (Cx E0 166 axU bE) y7 (Y1 g):=λ_ _ _ _ _ h=>ca (X:=ZF) (aOy g h)
def x125:=fx E0 Tryz.f125 []
def A125:=Ax x125 adk UL
def amG:G (aU×Bool):=
 M (Y1 g w H D al) λx9=>M (F77 g x9.1) λjh=>V (jh,x9.2)
def aQp:KK (A125 []) y7 (amG g):=λ_ _ _ _ r h=>be h λ_ ir h=>be h λ_ iX h=>rr h [adB (aTm g ir),(6,.call (aDU g iX) [] [(21,bL)]),(3,.iS 21 bL)]
def TE:=amG
def LF:KK (Cx E0 125 adk UL) y7 (TE g):=λ_ _ _ _ _ h=>ca (X:=x125) (aQp g h)
def x127:=fx E0 Tryz.f127 []
def A127:=Ax x127 sm r9
def amF (n:Nat) (j5:aU):G aU:=
 M (app [] j5) λx3=>V x3
def aQn:KK (A127 []) Uh (amF g):=λ_ r h=>be h λ_ eP h=>rr h [(2,.born [] [] 4 I 38 3),(0,iG.app (xs:= []) eP),(1,.iS 4 bL)]
def Tx:=amF
def adK:KK (Cx E0 127 sm r9) Uh (Tx g):=λ_ _ h=>ca (X:=x127) (aQn g h)
def axZ:AV:=(FX cP)
def x126:=fx E0 Tryz.f126 []
def A126:=Ax x126 axZ bE
def aot:LS:=⟨[(0,iI u),(1,iI C),(2,iI vQ),(3,.slice 38 3 (O F) (cY F))],[]⟩
def Pj:G pI:=
 M (Tx g F) λx6=>V (pI.Im (Gc.mk (dO.mk u C vQ x6)))
def aQo:KK (A126 []) aot (Pj g):=λ_ _ _ _ r h=>be h λx6 km h=>rr h [(5,.call (adK g km) [] [(13,bL)]),(2,iG.eD 13 x6),(0,.pN 15 (.agg (uu 3 [.sl 0 0 0 0 []])))]
def RK:=Pj
def Qt:KK (Cx E0 126 axZ bE) aot (RK g):=λ_ _ _ _ _ h=>ca (X:=x126) (aQo g h)
def x128:=fx E0 Tryz.f128 []
def TP:=Ax x128 sm r9
def arT:LS:=⟨[aV 3,(5,.ms 9 3 0 (O al)),(11,.slice 3 1 (O E) (dP E)),(12,iI vQ),(13,iI D)],[(3,zM (nu N)),(9,xx al)]⟩
def arU:LS:=⟨[(5,.ms 9 3 0 (O B))],[(9,xx B)]⟩
def aos:LS:=⟨[(0,.slice 38 3 (O B) (cY B)),(1,.agg (nu N))],[]⟩
def XJ (f7:aN->Int->Int->aW->aU->G aU) (n:Nat) (a0:aN) (a2 a3:Int) (b3:aW) (b9:aU):G aU:=
 ite (A' (a3<a2)) (M (idx a0 a3) λx3=>M (idx b3.cB a3) λdZ=>M (eT (O b9) x3) λgF=>M (b9[0+gF]?) λjo=>M (setAt b9 (0+gF) dZ) λa4=>f7 a0 a2 (ba (a3+1)) b3 a4) (ed b9)
def aQm {aH} (aY:KK (TP [1,1,1]) arU aH) {f7} (aL:KK (TP (aI 43)) arT f7) (n:Nat):KK (TP (aI 43)) arT (XJ aH f7 n):=λ_ _ _ _ _ r h=>ie h (λc0 h=>be h λ_ eP h=>be h λdZ gj h=>be h λ_ iC h=>be h λ_ jW h=>be h λ_ Dp h=>ra (aL h) [aD c0,(1,R3.idx eP),(8,iG.idx gj),(1,du iC),(0,iG.uj 0 (iF dZ) jW Dp),(2,.seq 5 (bH (AV.ms 9 3 0) (eB Dp)))]) λc0 h=>ra (aY h) [aD c0]
def Kf (aH:auw):Nat->aN->Int->Int->aW->aU->G aU
 |0=>dK.z
 |n+1=>XJ aH (Kf aH n) n
def azQ {aH} (aY:KK (TP [1,1,1]) arU aH):∀n:Nat,KK (TP (aI 43)) arT (Kf aH n)
 |0=>KC.h
 |n+1=>aQm aY (azQ aY n) n
def XI (n:Nat) (b9:aU):G aU:=
 V b9
def aQl:KK (TP [1,1,1]) arU (XI g):=λ_ r h=>rr h [(2,.iS 9 bL)]
def amE:G aU:=
 M (Tx g B) λx4=>Kf (XI g) g N.L (O N.L:Int) 0 N x4
def aQk:KK (TP []) aos (amE g):=λ_ _ r h=>be h λ_ ic h=>ra (azQ (aQl g) g h) [(3,.call (adK g ic) [] [(9,bL)])]
def Td:=amE
def aTH:KK (Cx E0 128 sm r9) aos (Td g):=λ_ _ _ h=>ca (X:=x128) (aQk g h)
def aFD (r:(cG×pI)):AV:=.dh [.agg (lh r.1),(FX r.2)]
def x75:=fx E0 Tryz.f75 []
def A75:=Ax x75 aFD bE
def axd:LS:=⟨[(0,.agg (cX w)),(1,.agg (kV H)),(2,.agg (nu N))],[]⟩
def avQ:G (cG×pI):=
 M (TE g w H N.aq N.av) λiK=>ite (N.aQ==1) (ite iK.2 (M (RK g 4 0 N.aq N.av) λmm=>yh mm (
 V ((cG.mk 0 [] []),pI.nil)) (λy2=>V ((cG.mk 0 [] []),(pI.c32 y2))) (λy2=>V ((cG.mk 0 [] []),(pI.Im y2)))) (M (Tx g N.cB) λtI=>V ((cG.mk N.aq [] tI),pI.nil))) (ite (!iK.2) (M (RK g 5 0 N.aq N.av) λEX=>yh EX (
 V ((cG.mk 0 [] []),pI.nil)) (λy2=>V ((cG.mk 0 [] []),(pI.c32 y2))) (λy2=>V ((cG.mk 0 [] []),(pI.Im y2)))) (M (Tx g iK.1) λtI=>ite (N.aQ==2) (M (Td g iK.1 N) λuZ=>V ((cG.mk N.aq tI uZ),pI.nil)) (V ((cG.mk N.aq tI []),pI.nil))))
def aUH:KK (A75 []) axd (avQ g):=λ_ _ _ r h=>be h λiK gR h=>let zA:SE:=[(11,.call (LF g gR) [] [(301800,bL)])];ie h (λc0 h=>ie h (λc1 h=>be h λ_ oK h=>ice h (λc2 bq=>by subst c2;exact (
 rr bq [(11,.call (LF g gR) [] [(301800,200000)]),aS c1,bl c0,vU (Qt g oK),(2,.kH 6 (.flat 0 [.bool I,.sl 0 38 3 0 [],.sl 0 38 3 0 []]))])) (λy2 c2 bq=>by subst c2;exact (
 rr bq [(11,.call (LF g gR) [] [(301800,200000)]),aS c1,bl c0,vU (Qt g oK),(2,.kH 6 (.flat 0 [.bool I,.sl 0 38 3 0 [],.sl 0 38 3 0 []]))])) (λy2 c2 bq=>by subst c2;exact (
 rr bq [(11,.call (LF g gR) [] [(301800,200000)]),aS c1,bl c0,vU (Qt g oK),(2,.kH 6 (.flat 0 [.bool I,.sl 0 38 3 0 [],.sl 0 38 3 0 []]))]))) λc1 h=>be h λtI FA h=>bt h zA [aS c1,bl c0,(5,.call (adK g FA) [] [(35,200000)]),(3,iG.eD 35 tI),(0,.kH 6 (.flat 0 [.bool I,.bool I,.sl 0 0 0 0 []]))]) λc0 h=>ie h (λc1 h=>be h λ_ Bw h=>ice h (λc2 bq=>by subst c2;exact (
 rr bq [(11,.call (LF g gR) [] [(301800,200000)]),hI c0,aX c1,lX (Qt g Bw),(2,.kH 6 (.flat 0 [.bool I,.sl 0 38 3 0 [],.sl 0 38 3 0 []]))])) (λy2 c2 bq=>by subst c2;exact (
 rr bq [(11,.call (LF g gR) [] [(301800,200000)]),hI c0,aX c1,lX (Qt g Bw),(2,.kH 6 (.flat 0 [.bool I,.sl 0 38 3 0 [],.sl 0 38 3 0 []]))])) (λy2 c2 bq=>by subst c2;exact (
 rr bq [(11,.call (LF g gR) [] [(301800,200000)]),hI c0,aX c1,lX (Qt g Bw),(2,.kH 6 (.flat 0 [.bool I,.sl 0 38 3 0 [],.sl 0 38 3 0 []]))]))) λc1 h=>be h λtI FA h=>let zB:SE:=dx zA [hI c0,aX c1,(0,iG.eD 301800 iK.1),(0,.ord [0,1,2,5,3,4,6]),(4,.call (adK g FA) [] [(48,200000)])];ie h (λc2 h=>be h λuZ yA h=>bt h zB [bl c2,(2,.call (aTH g yA) [] [(55,200000)]),(5,iG.eD 48 tI),(0,iG.eD 55 uZ),(0,.kH 6 (.flat 0 [.bool I,.sl 0 0 0 0 [],.sl 0 0 0 0 []]))]) λc2 h=>bt h zB [bl c2,(3,iG.eD 48 tI),(0,.kH 6 (.flat 0 [.bool I,.sl 0 0 0 0 []]))]
def F75:=avQ
def aDV:KK (Cx E0 75 aFD bE) axd (F75 g):=λ_ _ _ _ h=>ca (X:=x75) (aUH g h)
def aFC (r:(dO×Int)):AV:=.dh [.agg (aIf r.1),ck r.2]
def x76:=fx E0 Tryz.f76 []
def A76:=Ax x76 aFC bE
def axc:LS:=⟨[(0,(FX cP))],[]⟩
def avP (n:Nat) (aEd:pI):G (dO×Int):=
 yh aEd (
 V ((dO.mk 0 0 0 []),0)) (λy0=>V ((dO.mk 0 0 0 []),y0)) (λy0=>V (y0.BD,0))
def aUG:KK (A76 []) axc (avP g):=λ_ r h=>ice h (λc0 bq=>by subst c0;exact (
 rr bq [(12,.kH 2 (.flat 0 (uu 3 [.sl 0 38 3 0 []])))])) (λy0 c0 bq=>by subst c0;exact (
 rr bq [(14,.kH 2 (.flat 0 (uu 3 [.sl 0 38 3 0 []])))])) (λy0 c0 bq=>by subst c0;exact (
 rr bq []))
def F76:=avP
def ev76:KK (Cx E0 76 aFC bE) axc (F76 g):=λ_ _ h=>ca (X:=x76) (aUG g h)
def aFO:AV:=.dh [.ms bL 3 0 (O ey.1),.agg (aIf ey.2.1),ck ey.2.2]
def ayu:List (Nat×Bx):= [(bL,SA ey.1)]
def rN:=fx E0 Tryz.f31 []
def KM:=Ax rN aFO ayu
def aMi:LS:=⟨[aV 3,aV 4,aV 7,(11,.ms 75 3 0 (O ds)),aV 14,(32,.slice 113 5 (O ul) (qS ul)),(33,iI R),(34,iI bf)],[(3,fW (cX aA)),(4,wv (kV bo)),(7,.flat 81 (KQ cW .bY)),(14,zL (lh d0)),(75,SA ds)]⟩
def E6:LS:=⟨[aV 3,aV 4,aV 7,(11,.ms 75 3 0 (O ds)),(32,.slice 113 5 (O ul) (qS ul)),(33,iI R),(34,iI bf)],[(3,fW (cX aA)),(4,wv (kV bo)),(7,.flat 81 (KQ cW .bY)),(75,SA ds)]⟩
def aMh (b7:dO) (ub:jX) (lw:cG):LS:=⟨[aV 3,aV 4,aV 7,(11,.ms 75 3 0 (O ub)),aV 14,(15,(FX cP)),(32,.slice 113 5 (O cx) (qS cx)),(33,iI dJ),(34,iI dL)],[(3,fW (cX ei)),(4,wv (kV eq)),(7,.flat 81 (KQ b7 .bY)),(14,zL (lh lw)),(75,SA ub)]⟩
def agR:LS:=⟨[aV 7,(11,.ms 75 3 0 (O ds))],[(7,.flat 81 (KQ cW .bY)),(75,SA ds)]⟩
def axu:LS:=⟨[(0,.agg (cX w)),(1,.agg (kV H)),(2,.slice 113 5 (O ul) (qS ul))],[]⟩
def RA (n:Nat) (a0:dk) (a2 a3:Int) (b3:af) (b4:aE) (b7:dO) (ub:jX) (lw:cG):G (jX×dO×Int):=
 M (app ub [lw]) λx4=>dc a0 a2 a3 b3 b4 (dO.mk b7.jg b7.tp b7.aq []) x4
def auc {aH} (aY:KK (KM (aI 3887)) E6 aH) (n:Nat):KK (KM (aI 127791)) aMi (RA aH n):=λ_ _ _ _ _ _ _ _ r h=>be h λ_ ic h=>ra (aY h) [(3,YI.kq ic)]
def HN (n:Nat) (a0:dk) (a2 a3:Int) (b3:af) (b4:aE) (b7:dO) (ub:jX):G (jX×dO×Int):=
 dc a0 a2 (ba (a3+1)) b3 b4 (dO.mk b7.jg b7.tp b7.aq []) ub
def adT {bD} (cV:KK (KM (aI 175)) E6 bD) (n:Nat):KK (KM (aI 3887)) E6 (HN bD n):=λ_ _ _ _ _ _ _ r h=>ra (cV h) []
def Mz (atm:pI) (a0:dk) (a2 a3:Int) (b3:af) (b4:aE) (b7:dO) (ub:jX) (lw:cG):G (jX×dO×Int):=
 yh atm (
 ite (A' (0<(O lw.jt:Int))) (ite (A' (0<(O lw.iv:Int))) (M (Ko di lw.jt lw.iv) λjo=>ite (jo==0) (HN dc di a0 a2 a3 b3 b4 (dO.mk b7.jg b7.tp b7.aq []) ub) (RA (HN dc di) di a0 a2 a3 b3 b4 (dO.mk b7.jg b7.tp b7.aq []) ub lw)) (RA (HN dc di) di a0 a2 a3 b3 b4 (dO.mk b7.jg b7.tp b7.aq []) ub lw)) (RA (HN dc di) di a0 a2 a3 b3 b4 (dO.mk b7.jg b7.tp b7.aq []) ub lw)) (λy0=>M (F76 di (pI.c32 y0)) λx4=>V ([],x4.1,x4.2)) (λy0=>M (F76 di (pI.Im y0)) λx4=>V ([],x4.1,x4.2))
def aub {bD} (cV:KK (KM (aI 175)) E6 bD) (n:Nat):KK (KM (aI 29487)) aMh (Mz bD n):=λ_ _ _ _ _ _ _ _ _ r h=>ice h (λc0 bq=>by subst c0;exact (
 ie bq (λc1 bq=>ie bq (λc2 bq=>be bq λjo jW bq=>ie bq (λc3 bq=>ra (adT cV n bq) [bN c1,bl c2,vU (Ig n jW),aD c3]) (λc3 bq=>ra (auc (adT cV n) n bq) [bN c1,bl c2,vU (Ig n jW),aD c3])) (λc2 bq=>ra (auc (adT cV n) n bq) [bN c1,bl c2])) (λc1 bq=>ra (auc (adT cV n) n bq) [bN c1]))) (λy0 c0 bq=>by subst c0;exact (
 be bq λx4 ic bq=>rr bq [jN (ev76 n ic),(11,.born [6] [] 200000 I 156 3)])) (λy0 c0 bq=>by subst c0;exact (
 be bq λx4 ic bq=>rr bq [jN (ev76 n ic),(11,.born [6] [] 200000 I 156 3)]))
def Rz (cZ:Wf73) (f7:auq) (n:Nat) (a0:dk) (a2 a3:Int) (b3:af) (b4:aE) (b7:dO) (ub:jX):G (jX×dO×Int):=
 ite (A' (a3<a2)) (M (idx a0 a3) λx2=>M (F75 n b3 b4 x2) λfA=>yh fA.2 (
 Mz f7 n pI.nil a0 a2 a3 b3 b4 (dO.mk b7.jg b7.tp b7.aq []) ub fA.1) (λy1=>Mz f7 n (pI.c32 y1) a0 a2 a3 b3 b4 (dO.mk b7.jg b7.tp b7.aq []) ub fA.1) (λy1=>Mz f7 n (pI.Im y1) a0 a2 a3 b3 b4 (dO.mk b7.jg b7.tp b7.aq []) ub fA.1)) (cZ (dO.mk b7.jg b7.tp b7.aq []) ub)
def aWk {cZ} (fy:KK (KM (aI 63)) agR cZ) {f7} (aL:KK (KM (aI 175)) E6 f7) (n:Nat):KK (KM (aI 175)) E6 (Rz cZ f7 n):=λ_ _ _ _ _ _ _ r h=>ie h (λc0 h=>be h λ_ dq h=>be h λfA iY h=>ice h (λc1 h=>ra (aub aL n h) [aD c0,(0,rB.idx dq),(6,uk (iE.cast (aDV n iY) (bH (λq_=>(AV.dh [.agg (lh fA.1),(FX q_)])) c1)))]) (λy1 c1 h=>ra (aub aL n h) [aD c0,(0,rB.idx dq),(6,uk (iE.cast (aDV n iY) (bH (λq_=>(AV.dh [.agg (lh fA.1),(FX q_)])) c1)))]) (λy1 c1 h=>ra (aub aL n h) [aD c0,(0,rB.idx dq),(6,uk (iE.cast (aDV n iY) (bH (λq_=>(AV.dh [.agg (lh fA.1),(FX q_)])) c1)))])) λc0 h=>ra (fy h) [aD c0]
def uT (cZ:Wf73):Nat->dk->Int->Int->af->aE->dO->jX->G (jX×dO×Int)
 |0=>dK.z
 |n+1=>Rz cZ (uT cZ n) n
def aGK {cZ} (fy:KK (KM (aI 63)) agR cZ):∀n:Nat,KK (KM (aI 175)) E6 (uT cZ n)
 |0=>KC.h
 |n+1=>aWk fy (aGK fy n) n
def AB (n:Nat) (b7:dO) (ub:jX):G (jX×dO×Int):=
 V (ub,(dO.mk 0 0 0 []),0)
def aWj:KK (KM (aI 63)) agR (AB g):=λ_ _ r h=>rr h [(5,.iS 75 bL),(0,.kH 7 (.flat 0 (uu 3 [.sl 0 38 3 0 []])))]
def awq:G (jX×dO×Int):=
 M (F73 g w ul) λx8=>ite (x8 !=0) (V ([],(dO.mk 0 0 0 []),x8)) (M (F26 g w 1 H) λgG=>ite (gG !=0) (V ([],(dO.mk 0 0 0 []),gG)) (uT (AB g) g ul (O ul:Int) 0 w H (dO.mk 0 0 0 []) []))
def aWi:KK (KM []) axu (awq g):=λ_ _ _ r h=>be h λ_ lr h=>let zA:SE:=[uI (ev73 g lr)];ie h (λc0 h=>bt h zA [aS c0,(5,.born [6] [] bL I 156 3),(0,.kH 7 (.flat 0 (uu 3 [.sl 0 38 3 0 []])))]) λc0 h=>be h λ_ lD h=>let zB:SE:=dx zA [aS c0,jl (YO g lD)];ie h (λc1 h=>bt h zB [aS c1,(5,.born [6] [] bL I 156 3),(0,.kH 7 (.flat 0 (uu 3 [.sl 0 38 3 0 []])))]) λc1 h=>cD (aGK (aWj g) g h) zB [aS c1,(4,.born [11] [] 75 I 156 3)]
def F31:=awq
def ev31:KK (Cx E0 31 aFO ayu) axu (F31 g):=λ_ _ _ _ h=>ca (X:=rN) (aWi g h)
def x87:=fx E0 Tryz.f87 []
def A87:=Ax x87 dj bE
def avK:G Bool:=
 M (Ko g B F) λx4=>V (x4==0)
def aUA:KK (A87 []) zt (avK g):=λ_ _ r h=>be h λ_ ic h=>rr h [jN (Ig g ic)]
def F87:=avK
def ev87:KK (Cx E0 87 dj bE) zt (F87 g):=λ_ _ _ h=>ca (X:=x87) (aUA g h)
def x78:=fx E0 Tryz.f78 []
def A78:=Ax x78 dj bE
def aLN:LS:=⟨[(1,iI u),aV 3,aV 5,(8,.slice 38 3 (O B) (cY B)),(36,.agg (aAx ea)),(37,iI dV)],[(3,fW (cX er)),(5,zL (lh d0))]⟩
def Ug:LS:=⟨[(1,ck u),aV 3,aV 5,(36,.agg (aAx ea)),(37,ck dV)],[(3,fW (cX er)),(5,zL (lh d0))]⟩
def agk:LS:=⟨[aV 3,aV 5],[(3,fW (cX w)),(5,zL (lh or))]⟩
def aLM:LS:=⟨[(1,ck u),aV 3,aV 5],[(3,fW (cX w)),(5,zL (lh or))]⟩
def axb:LS:=⟨[(0,.agg (cX w)),(1,ck C),(2,.agg (lh or))],[]⟩
def V3 (aH:Wf74) (n:Nat) (dY:Int) (ahC:aU) (a0:Iq) (a2:Int) (b3:af) (b5:cG):G Bool:=
 ite (A' (0<(O ahC:Int))) (M (F66 n b3 b5.aq ahC dY) λfA=>ite (!fA) (V U) (aH dY a0 (ba (a2+1)) b3 b5)) (aH dY a0 (ba (a2+1)) b3 b5)
def aIt {aH} (aY:KK (A78 (aI 43)) Ug aH) (n:Nat):KK (A78 (aI 3275)) aLN (V3 aH n):=λ_ _ _ _ _ _ r h=>ie h (λc0 h=>be h λ_ iY h=>let zA:SE:=[aS c0,vU (aDW n iY)];ie h (λc1 h=>bt h zA [aD c1]) λc1 h=>cD (aY h) zA [aD c1]) λc0 h=>ra (aY h) [aS c0]
def V2 (bw:aIJ) (f7:Wf74) (n:Nat) (dY:Int) (a0:Iq) (a2:Int) (b3:af) (b5:cG):G Bool:=
 ite (A' (a2<2)) (ite (a2==0) (V3 f7 n dY a0.f0 a0 0 b3 b5) (ite (a2==1) (V3 f7 n dY a0.f1 a0 1 b3 b5) A)) (bw b3 b5)
def aUE {bw} (cQ:KK (A78 [1,1,1]) agk bw) {f7} (aL:KK (A78 (aI 43)) Ug f7) (n:Nat):KK (A78 (aI 43)) Ug (V2 bw f7 n):=λ_ _ _ _ _ r h=>ie h (λc0 h=>ie h (λc1 bq=>by have c1:=eq_of_beq c1;subst c1;exact (
 ra (aIt aL n bq) [])) λc1 h=>ie h (λCZ bq=>by have CZ:=eq_of_beq CZ;subst CZ;exact (
 ra (aIt aL n bq) [])) λCZ h=>nz h) λc0 h=>ra (cQ h) [aD c0]
def QP (bw:aIJ):Nat->Int->Iq->Int->af->cG->G Bool
 |0=>dK.z
 |n+1=>V2 bw (QP bw n) n
def aGn {bw} (cQ:KK (A78 [1,1,1]) agk bw):∀n:Nat,KK (A78 (aI 43)) Ug (QP bw n)
 |0=>KC.h
 |n+1=>aUE cQ (aGn cQ n) n
def avN:G Bool:=
 ite ((O or.jt:Int)==0) (V I) (ite ((O or.iv:Int)==0) (V I) (M (OW g w or.aq or.jt) λjh=>M (OW g w or.aq or.iv) λDB=>M (F87 g jh DB) λyQ=>V yQ))
def aUD:KK (A78 [1,1,1]) agk (avN g):=λ_ _ r h=>let zA:SE:=[(0,.ord [0,1,2,3,4,5,6,7,8,9,10,11,12,13,14,15,17,18,19,20,21,16,22,23,24,25])];ie h (λc0 h=>bt h zA [aZ c0]) λc0 h=>ie h (λc1 h=>bt h zA [aZ c0,bl c1]) λc1 h=>be h λ_ iX h=>be h λ_ yD h=>be h λ_ yC h=>bt h zA [aZ c0,bl c1,(12,uk (Oq g iX)),kj (Oq g yD),kj (ev87 g yC)]
def V1:G Bool:=
 QP (avN g) g u (Iq.mk or.jt or.iv) 0 w or
def aIs:KK (A78 [1,1]) aLM (V1 g):=λ_ _ _ r h=>ra (aGn (aUD g) g h) []
def avM:G Bool:=
 ite (A' (or.aq<0)) (V U) (ite (!A' (or.aq<(O w.ag:Int))) (V U) (ite ((O or.jt:Int)==0) (ite ((O or.iv:Int)==0) (V U) (V1 g C w or)) (V1 g C w or)))
def aUC:KK (A78 []) axb (avM g):=λ_ _ _ r h=>ie h (λc0 h=>rr h [bN c0]) λc0 h=>ie h (λc1 h=>rr h [bN c0,dz c1]) λc1 h=>let zA:SE:=[bN c0,dz c1];ie h (λCZ h=>ie h (λc3 h=>bt h zA [bN CZ,bl c3]) λc3 h=>cD (aIs g h) zA [bN CZ,bl c3]) λCZ h=>cD (aIs g h) zA [bN CZ]
def F78:=avM
def ev78:KK (Cx E0 78 dj bE) axb (F78 g):=λ_ _ _ _ h=>ca (X:=x78) (aUC g h)
def x88:=fx E0 Tryz.f88 []
def A88:=Ax x88 adl bE
def awZ:LS:=⟨(HX (cX w) (lh or)),[]⟩
def avJ:G aU:=
 ite (A' (0<(O or.jt:Int))) (M (OW g w or.aq or.jt) λdZ=>V dZ) (M (OW g w or.aq or.iv) λdZ=>V dZ)
def aUz:KK (A88 []) awZ (avJ g):=λ_ _ r h=>ie h (λc0 h=>be h λdZ gj h=>rr h [dz c0,lX (Oq g gj)]) λc0 h=>be h λdZ gj h=>rr h [dz c0,lX (Oq g gj)]
def F88:=avJ
def ev88:KK (Cx E0 88 adl bE) awZ (F88 g):=λ_ _ _ h=>ca (X:=x88) (aUz g h)
def axX:AV:=.int .i64 eG.1
def apa:List (Nat×Bx):= [(2,fW (cX eG.2.1)),(3,zL (lh eG.2.2))]
def x130:=fx E0 Tryz.f130 [2,3]
def A130:=Ax x130 axX apa
def aoq:LS:=⟨[(0,.slice 38 3 (O B) (cY B)),(1,.slice 38 3 (O F) (cY F)),aV 2,aV 3],[(2,fW (cX aa)),(3,zL (lh or))]⟩
def amC:G (Int×af×cG):=
 M (OW g aa or.aq B) λx6=>M (Ko g x6 F) λx9=>V (x9,aa,or)
def aQg:KK (A130 []) aoq (amC g):=λ_ _ _ _ r h=>be h λ_ km h=>be h λ_ ir h=>rr h [lX (Oq g km),rJ (Ig g ir)]
def xu:=amC
def aHT:KK (Cx E0 130 axX apa) aoq (xu g):=λ_ _ _ _ _ h=>ca (X:=x130) (aQg g h)
def axY:AV:=.dh [ck eH.1,.bool eH.2.1]
def apb:List (Nat×Bx):= [(zU,fW (cX eH.2.2.1)),(zS,zL (lh eH.2.2.2))]
def x129:=fx E0 Tryz.f129 [zU,zS]
def TO:=Ax x129 axY apb
def arV:LS:=⟨[(0,.slice 70 1 (O S) (je S)),(1,.slice 38 3 (O F) (cY F)),(2,.fn 130 [] [.loc zU 0,.loc zS 0]),(8,iI D),(9,iI qr),(10,iI R)],[(zU,fW (cX aa)),(zS,zL (lh or))]⟩
def arW:LS:=⟨[(0,.slice 70 1 (O S) (je S)),(1,.slice 38 3 (O F) (cY F)),(2,.fn 130 [] [.loc zU 0,.loc zS 0]),(8,iI D),(9,iI qr)],[(zU,fW (cX aa)),(zS,zL (lh or))]⟩
def aor:LS:=⟨[(0,.slice 70 1 (O S) (je S)),(1,.slice 38 3 (O F) (cY F)),(2,.fn 130 [] [.loc zU 0,.loc zS 0])],[(zU,fW (cX aa)),(zS,zL (lh or))]⟩
def XH (aH:Wf75) (f7:bz->aU->Int->Int->Int->af->cG->G (Int×Bool×af×cG)) (n:Nat) (x0:bz) (nn:aU) (n8 i9 a0:Int) (alb:af) (alc:cG):G (Int×Bool×af×cG):=
 ite (A' (i9<a0)) (M (idx x0 (ba ((Int.fdiv (IntKind.wrap .u64 (ba (i9+a0))) 2)))) λkz=>M (xu n kz nn alb alc) λjo=>ite (A' (jo.1<0)) (f7 x0 nn n8 (ba ((ba ((Int.fdiv (IntKind.wrap .u64 (ba (i9+a0))) 2)))+1)) a0 jo.2.1 jo.2.2) (f7 x0 nn n8 i9 (ba ((Int.fdiv (IntKind.wrap .u64 (ba (i9+a0))) 2))) jo.2.1 jo.2.2)) (aH x0 nn n8 i9 alb alc)
def aQj {aH} (aY:KK (TO (aI 31)) arW aH) {f7} (aL:KK (TO (aI 39)) arV f7) (n:Nat):KK (TO (aI 39)) arV (XH aH f7 n):=λ_ _ _ _ _ _ _ r h=>ie h (λc0 h=>be h λ_ jK h=>be h λ_ jW h=>let zA:SE:=[aS c0,(10,ke.idx jK),(2,.call (aHT n jW) [(zU,2),(zS,3)] [])];ie h (λc1 h=>cD (aL h) zA [aD c1]) λc1 h=>cD (aL h) zA [aD c1]) λc0 h=>ra (aY h) [aS c0]
def Ke (aH:Wf75):Nat->bz->aU->Int->Int->Int->af->cG->G (Int×Bool×af×cG)
 |0=>dK.z
 |n+1=>XH aH (Ke aH n) n
def azP {aH} (aY:KK (TO (aI 31)) arW aH):∀n:Nat,KK (TO (aI 39)) arV (Ke aH n)
 |0=>KC.h
 |n+1=>aQj aY (azP aY n) n
def Ph:G (Int×Bool×af×cG):=
 ite (A' (qr<D)) (M (idx S qr) λx9=>M (xu g x9 F aa or) λdZ=>V (qr,dZ.1==0,dZ.2.1,dZ.2.2)) (V (qr,U,aa,or))
def aQi:KK (TO (aI 31)) arW (Ph g):=λ_ _ _ _ _ _ r h=>ie h (λc0 h=>be h λ_ ir h=>be h λ_ gj h=>rr h [aZ c0,(4,ke.idx ir),(2,.call (aHT g gj) [(zU,2),(zS,3)] [])]) λc0 h=>rr h [aZ c0]
def amD:G (Int×Bool×af×cG):=
 Ke (Ph g) g S F (O S:Int) 0 (O S:Int) aa or
def aQh:KK (TO []) aor (amD g):=λ_ _ _ _ r h=>ra (azP (aQi g) g h) []
def Tk:=amD
def aTG:KK (Cx E0 129 axY apb) aor (Tk g):=λ_ _ _ _ _ h=>ca (X:=x129) (aQh g h)
def aFB (r:(bz×Bool)):AV:=.dh [.slice 70 1 (O r.1) (je r.1),.bool r.2]
def x79:=fx E0 Tryz.f79 []
def A79:=Ax x79 aFB bE
def aLL:LS:=⟨[(10,.slice 70 1 (O S) (je S)),(11,.tN 70 1 (O bx) (je bx))],[]⟩
def aLK:LS:=⟨[aV 5,(10,.slf 70 1 (O S) (je S)),(11,.tN 70 1 (O bx) (je bx))],[(5,zL (lh ct))]⟩
def aLJ:LS:=⟨[(1,.slice 70 1 (O S) (je S)),aV 5,(8,iI vQ),(9,.bool bd)],[(5,zL (lh ct))]⟩
def axa:LS:=⟨[(0,.agg (cX w)),(1,.slice 70 1 (O S) (je S)),(2,.agg (lh or))],[]⟩
def V0 (n:Nat) (aek ald:bz):G (bz×Bool):=
 M (Ij aek (O aek:Int) (O aek:Int)) λx6=>ite ald.isEmpty (V (x6,I)) (M (app x6 ald) λx9=>V (x9,I))
def aIr:KK (A79 (aI 127)) aLL (V0 g):=λ_ _ r h=>be h λ_ km h=>ie h (λc0 h=>rr h [(5,ke.Ij km),(1,ke.aXj (List.isEmpty_iff.1 c0)),(2,.pN 6 (.sl 0 0 0 0 []))]) λc0 h=>be h λx9 ir h=>rr h [(5,ke.Ij km),(1,ke.appF ir (List.isEmpty_eq_false_iff.1 c0)),(2,ke.eD 69 x9),(0,.pN 6 (.sl 0 0 0 0 []))]
def VZ:G (bz×Bool):=
 ite (A' (0<(O ct.iv:Int))) (M (F77 g ct.iv) λx8=>M (app S [x8]) λdG=>V0 g dG bx) (V0 g S bx)
def aIq:KK (A79 (aI 63)) aLK (VZ g):=λ_ _ _ r h=>ie h (λc0 h=>be h λx8 lr h=>be h λdG fR h=>ra (aIr g h) [aZ c0,(3,.call (aDU g lr) [] [(59,bL)]),(0,iG.eD 59 x8),(0,.pN 59 (.sl 0 0 0 0 [])),(1,ke.aXi fR (List.cons_ne_nil _ _)),(1,ke.eD 61 dG)]) λc0 h=>ra (aIr g h) [aZ c0]
def VY:G (bz×Bool):=
 M (Ij S vQ vQ) λx4=>M (cut S (V vQ) A) λx8=>ite bd (M (cut S (V (ba (vQ+1))) A) λgF=>VZ g x4 gF ct) (VZ g x4 x8 ct)
def aIp:KK (A79 [1,1,1]) aLJ (VY g):=λ_ _ _ _ r h=>be h λ_ ic h=>be h λ_ lr h=>let zA:SE:=[(3,ke.Ij ic),(2,ke.cut lr)];ie h (λc0 bq=>by subst c0;exact (be bq λgF iC bq=>cD (aIq g bq) zA [(6,ke.cut iC)])) λc0 bq=>by subst c0;exact (ra (aIq g bq) zA)
def avL:G (bz×Bool):=
 M (F88 g w or) λx8=>M (Tk g S x8 w or) λdG=>ite (!(dG.2.1==(A' (0<(O dG.2.2.2.jt:Int))))) (V ([],U)) (ite dG.2.1 (ite (!(I==(A' (0<(O dG.2.2.2.jt:Int))))) (V ([],U)) (M (idx S dG.1) λEX=>M (F87 g EX dG.2.2.2.jt) λIX=>ite (!IX) (V ([],U)) (VY g S dG.1 I dG.2.2.2))) (ite (!(U==(A' (0<(O dG.2.2.2.jt:Int))))) (V ([],U)) (VY g S dG.1 U dG.2.2.2)))
def aUB:KK (A79 []) axa (avL g):=λ_ _ _ r h=>be h λ_ lr h=>be h λ_ fR h=>let zA:SE:=[uI (ev88 g lr),(1,.call (aTG g fR) [(3,zU),(5,zS)] [])];ie h (λc0 h=>bt h zA [(10,eb c0),(4,.pN 6 (.sl 0 70 1 0 []))]) λc0 h=>ie h (λc1 h=>ie h (λCZ h=>bt h zA [aS c1,hI CZ,(4,.pN 6 (.sl 0 70 1 0 []))]) λCZ h=>be h λ_ Bw h=>be h λ_ H9 h=>let zB:SE:=dx zA [aS c1,hI CZ,(5,ke.idx Bw),jN (ev87 g H9)];ie h (λc3 h=>bt h zB [aD c3,(4,.pN 6 (.sl 0 70 1 0 []))]) λc3 h=>cD (aIp g h) zB [aD c3]) λc1 h=>ie h (λCZ h=>bt h zA [aS c1,hI CZ,(4,.pN 6 (.sl 0 70 1 0 []))]) λCZ h=>cD (aIp g h) zA [aS c1,hI CZ]
def F79:=avL
def ev79:KK (Cx E0 79 aFB bE) axa (F79 g):=λ_ _ _ _ h=>ca (X:=x79) (aUB g h)
def x32:=fx E0 Tryz.f32 []
def zk:=Ax x32 adp bE
def agQ (b8 gD:aE) (cE:dA):LS:=⟨[(1,iI u),(3,.slice 156 3 (O bO) (y8 bO)),aV 4,aV 8,aV 11,(12,iI bB),(35,.slice 68 1 (O bQ) (wk bQ)),(36,iI ce),(37,iI ch),(42,.slice 70 1 (O d9) (je d9)),(43,iI dJ),(44,iI dL)],[(4,fW (cX ei)),(8,yr),(11,Ss (O cE)),(32,UH cE)]⟩
def E5 (b8 gD:aE) (cE:dA):LS:=⟨[(1,iI u),(3,.slice 156 3 (O bO) (y8 bO)),aV 4,aV 8,aV 11,(35,.slice 68 1 (O bQ) (wk bQ)),(36,iI ce),(37,iI ch)],[(4,fW (cX cu)),(8,yr),(11,Ss (O cE)),(32,UH cE)]⟩
def agP (b8 gD:aE) (cE:dA):LS:=⟨[(1,iI u),aV 4,aV 8,aV 11,(16,iI C),(65,.slice 156 3 (O bO) (y8 bO)),(66,iI bB),(67,iI ao)],[(4,fW (cX aA)),(8,yr),(11,Ss (O cE)),(32,HY cE)]⟩
def agO (b8 gD:aE) (cE:dA):LS:=⟨[aV 8,aV 11],[(8,yr),(11,Ss (O cE)),(32,HY cE)]⟩
def agN (b8 gD:aE) (cE:dA):LS:=⟨[(1,iI u),(3,.slice 156 3 (O bO) (y8 bO)),aV 4,aV 8,aV 11],[(4,fW (cX aA)),(8,yr),(11,Ss (O cE)),(32,UH cE)]⟩
def axt:LS:=⟨[(0,.agg (cX w)),(1,iI C),(2,.agg (kV H)),(3,.slice 156 3 (O bO) (y8 bO))],[]⟩
def aeY (f7:Int->jX->Int->dA->Int->Int->bz->Int->Int->af->aE->aE->dA->G (aE×Int)) (n:Nat) (dY:Int) (iZ:jX) (a0:Int) (a2:dA) (a3 a4:Int) (a5:bz) (a6 a7:Int) (b4:af) (b8 gD:aE) (cE:dA):G (aE×Int):=
 ite (A' (a7<a6)) (M (idx a5 a7) λx2=>M (eT (O cE) a0) λx5=>M (cE[0+x5]?) λu7=>M (F77 n x2) λjo=>M (app u7 [jo]) λnP=>M (setAt cE (0+x5) nP) λa8=>f7 dY iZ a0 a2 a3 a4 a5 a6 (ba (a7+1)) b4 (NH []) (NH a8) a8) (eh dY iZ a2 a3 a4 b4 (NH []) (NH cE) cE)
def aWh {aH} (aY:KK (zk (aI 1943)) E5 aH) {f7} (aL:KK (zk (aI 22935)) agQ f7) (n:Nat):KK (zk (aI 22935)) agQ (aeY aH f7 n):=λ_ _ _ _ _ _ _ _ _ _ _ _ _ r h=>ie h (λc0 h=>be h λ_ dq h=>be h λ_ jI h=>be h λu7 NZ h=>be h λjo jW h=>be h λnP pE h=>be h λ_ hz27 h=>ra (aL h) [aD c0,(0,ke.idx dq),(2,p9.pc ke 32 800320 0 U 70 1 u7 NZ [.undef]),(6,du jI),(2,uk (iE.res (.sl 0 38 3 0 []) (cd (e:=38) (z:=I) (Q:=cY jo) (aDU n jW) (iG.len jo)))),(1,ke.kq pE),(0,du jI),(0,p9.zZ 0 [.undef] [.undef] NZ),(2,p9.jf ke (r:= [.undef]) 32 800320 0 U 70 1 nP hz27),(0,.beq 11 (bH (Ss) (eB hz27)))]) λc0 h=>ra (aY h) [aD c0]
def Q1 (aH:aup):Nat->Int->jX->Int->dA->Int->Int->bz->Int->Int->af->aE->aE->dA->G (aE×Int)
 |0=>dK.z
 |n+1=>aeY aH (Q1 aH n) n
def aGJ {aH} (aY:KK (zk (aI 1943)) E5 aH):∀n:Nat,KK (zk (aI 22935)) agQ (Q1 aH n)
 |0=>KC.h
 |n+1=>aWh aY (aGJ aY n) n
def aeX (n:Nat) (dY:Int) (iZ:jX) (a0:dA) (a2 a3:Int) (b4:af) (b8 gD:aE) (cE:dA):G (aE×Int):=
 eh dY iZ a0 a2 (ba (a3+1)) b4 (NH []) (NH cE) cE
def aWg {bw} (cQ:KK (zk (aI 87)) E5 bw) (n:Nat):KK (zk (aI 1943)) E5 (aeX bw n):=λ_ _ _ _ _ _ _ _ _ r h=>ra (cQ h) []
def aeW (dC:Wf77) (f7:aup) (n:Nat) (dY:Int) (iZ:jX) (a0:dA) (a2 a3:Int) (b4:af) (b8 gD:aE) (cE:dA):G (aE×Int):=
 ite (A' (a3<a2)) (M (idx a0 a3) λx3=>Q1 (aeX f7 n) n dY iZ a3 a0 a2 a3 x3 (O x3:Int) 0 b4 (NH []) (NH cE) cE) (dC dY iZ b4 (NH []) (NH cE) cE)
def aWf {dC} (fS:KK (zk (aI 31)) agN dC) {f7} (aL:KK (zk (aI 87)) E5 f7) (n:Nat):KK (zk (aI 87)) E5 (aeW dC f7 n):=λ_ _ _ _ _ _ _ _ _ r h=>ie h (λc0 h=>be h λ_ eP h=>ra (aGJ (aWg aL n) n h) [aD c0,(1,p9.idx eP)]) λc0 h=>ra (fS h) [aD c0]
def Me (dC:Wf77):Nat->Int->jX->dA->Int->Int->af->aE->aE->dA->G (aE×Int)
 |0=>dK.z
 |n+1=>aeW dC (Me dC n) n
def aGI {dC} (fS:KK (zk (aI 31)) agN dC):∀n:Nat,KK (zk (aI 87)) E5 (Me dC n)
 |0=>KC.h
 |n+1=>aWf fS (aGI fS n) n
def aeV (f7:Int->Int->jX->Int->Int->af->aE->aE->dA->G (aE×Int)) (n:Nat) (dY ac8:Int) (a0:jX) (a2 a3:Int) (b4:af) (b8 gD:aE) (cE:dA):G (aE×Int):=
 ite (A' (a3<a2)) (M (idx a0 a3) λx2=>M (F78 n b4 dY x2) λfA=>ite (!fA) (V ((NH []),71)) (M (eT (O cE) x2.aq) λjo=>M (cE[0+jo]?) λlK=>M (F79 n b4 lK x2) λiq=>ite (!iq.2) (V ((NH []),81)) (M (eT (O cE) x2.aq) λxw=>M (cE[0+xw]?) λIW=>ite (A' (512<(ba (ac8+(ba ((O iq.1:Int)-(O IW:Int))))))) (V ((NH []),2)) (M (eT (O cE) x2.aq) λCk=>M (cE[0+Ck]?) λx56=>M (setAt cE (0+Ck) iq.1) λa4=>f7 dY (ba (ac8+(ba ((O iq.1:Int)-(O IW:Int))))) a0 a2 (ba (a3+1)) b4 (NH []) (NH a4) a4)))) (d1 (NH []) (NH cE) cE)
def aWe {cZ} (fy:KK (zk (aI 127)) agO cZ) {f7} (aL:KK (zk (aI 351)) agP f7) (n:Nat):KK (zk (aI 351)) agP (aeV cZ f7 n):=λ_ _ _ _ _ _ _ _ _ r h=>ie h (λc0 h=>be h λ_ dq h=>be h λ_ iY h=>let zA:SE:=[aD c0,(0,YI.idx dq),vU (ev78 n iY)];ie h (λc1 h=>bt h zA [aD c1,(3,.kH 8 (.flat 0 [.sl 0 68 1 0 []]))]) λc1 h=>be h λ_ jW h=>be h λ_ j8 h=>be h λiq oo h=>let zB:SE:=dx zA [aD c1,(5,du jW),(0,p9.row j8),rJ (ev79 n oo)];ie h (λc2 h=>bt h zB [dz c2,(3,.kH 8 (.flat 0 [.sl 0 68 1 0 []]))]) λc2 h=>be h λ_ Fz h=>be h λ_ SQ h=>let zC:SE:=dx zB [dz c2,(7,du Fz),(0,p9.row SQ)];ie h (λc3 h=>bt h zC [bN c3,(3,.kH 8 (.flat 0 [.sl 0 68 1 0 []]))]) λc3 h=>be h λ_ SM h=>be h λ_ Ox h=>be h λ_ hz57 h=>cD (aL h) zC [bN c3,(5,du SM),(0,p9.uj 0 [.slice 70 1 (O iq.1) (je iq.1)] Ox hz57),(2,.beq 11 (bH (Ss) (eB hz57)))]) λc0 h=>ra (fy h) [aD c0]
def Q0 (cZ:auu):Nat->Int->Int->jX->Int->Int->af->aE->aE->dA->G (aE×Int)
 |0=>dK.z
 |n+1=>aeV cZ (Q0 cZ n) n
def aGH {cZ} (fy:KK (zk (aI 127)) agO cZ):∀n:Nat,KK (zk (aI 351)) agP (Q0 cZ n)
 |0=>KC.h
 |n+1=>aWe fy (aGH fy n) n
def aeU (n:Nat) (b8 gD:aE) (cE:dA):G (aE×Int):=
 V ((NH cE),0)
def aWd:KK (zk (aI 127)) agO (aeU g):=λ_ _ cE r h=>rr h [(3,p9.eD 32 cE)]
def Ry (b8 gD:aE) (cE:dA):G (aE×Int):=
 M (F65 g (NH cE)) λx2=>Q0 (aeU g) g u x2 bO (O bO:Int) 0 aA (NH []) (NH cE) cE
def aWc:KK (zk (aI 31)) agN (Ry g):=λ_ _ _ _ _ cE r h=>be h λ_ dq h=>ra (aGH (aWd g) g h) [(0,.thw 32),(1,.Aj (ev65 g dq) [p9.eD 32 cE] trivial [] [])]
def awp:G (aE×Int):=
 M (F26 g w C H) λx8=>ite (x8 !=0) (V ((NH []),x8)) (M (rT (O H.ag:Int) ([]:bz)) λgF=>Me (Ry g) g C bO H.ag (O H.ag:Int) 0 w (NH []) (NH gF) gF)
def aWb:KK (zk []) axt (awp g):=λ_ _ _ _ r h=>be h λ_ lr h=>ie h (λc0 h=>rr h [uI (YO g lr),aS c0,(4,.kH 8 (.flat 0 [.sl 0 68 1 0 []]))]) λc0 h=>be h λ_ iC h=>ra (aGI (aWc g) g h) [uI (YO g lr),aS c0,(3,p9.made iC [.o U [.d]]),(0,.seq 32 (bH (AV.ms 32 1 0) ((K0 iC))))]
def F32:=awp
def ev32:KK (Cx E0 32 adp bE) axt (F32 g):=λ_ _ _ _ _ h=>ca (X:=x32) (aWb g h)
def x8:=fx E0 Tryz.f8 []
def A8:=Ax x8 dj bE
def arH:LS:=⟨[(0,.tN 5 1 (O E) (BW E))],[]⟩
def aFm:G Bool:=
 M (F13 g E 500) λx3=>M (F12 g x3) λx7=>M (eT (O x7.2.2.1) (ba ((O x7.2.2.1:Int)-1))) λiq=>M (x7.2.2.1[0+iq]?) λim=>M (F19 g x7.2.2.2.2 im 1) λrN=>M (eT (O x7.2.2.1) x7.2.2.2.1) λuZ=>M (x7.2.2.1[0+uZ]?) λx40=>M (F21 g x7.1 x7.2.1 x40.aC 1 rN.1) λIV=>ite (IV.2 !=0) (V U) (M (eT (O x7.2.2.1) x7.2.2.2.1) λx63=>M (x7.2.2.1[0+x63]?) λx66=>ite ((O IV.1.ag:Int) !=(O x66.ag:Int)) (V U) (M (eT (O x7.2.2.1) x7.2.2.2.1) λx76=>M (x7.2.2.1[0+x76]?) λx78=>M (F29 g rN.2 x78 IV.1 4) λa4=>M (F28 g a4.2 IV.1 a4.1) λa5=>M (F30 g x7.1 x7.2.1 x40.aC a5.1) λa6=>ite (a6.2.2==281) (M (F17 g) λZ8=>V Z8) (M (eT (O x7.2.2.1) x7.2.2.2.1) λZ9=>M (x7.2.2.1[0+Z9]?) λZA=>M (F31 g ZA IV.1 a5.1) λYr=>M (F31 g im rN.1 a6.1) λNb=>ite (a6.2.2 !=0) (V U) (ite (Yr.2.2 !=0) (V U) (ite (Nb.2.2 !=0) (V U) (ite (!((Yr.2.1.jg==0)==(Nb.2.1.jg==0))) (V U) (ite (Yr.2.1.jg !=0) (M (F17 g) λYq=>V Yq) (M (eT (O x7.2.2.1) x7.2.2.2.1) λZC=>M (x7.2.2.1[0+ZC]?) λZE=>M (F32 g ZE 1 IV.1 Yr.1) λSf=>M (F32 g im 1 rN.1 Nb.1) λSg=>M (F21 g x7.1 x7.2.1 x40.aC 1 Sg.1) λa0=>ite (Sf.2==0) (ite (Sg.2==0) (ite (a0.2==0) (M (F23 g Sf.1 a0.1) λa2=>ite a2 (M (F17 g) λa3=>V a3) (V U)) (V U)) (V U)) (V U)))))))))
def b8_0:KK (A8 []) arH (aFm g):=λ_ r h=>be h λ_ eP h=>be h λx7 j7 h=>be h λ_ oo h=>be h λ_ mc h=>be h λ_ uJ h=>be h λ_ yA h=>be h λ_ aDo h=>be h λ_ aDm h=>let zA:SE:=[(2,.call (ev13 g eP) [] [(30,bL)]),(2,.call (ev12 g j7) [(30,0)] [(303301,200001),(303302,200002)]),(14,du oo),(0,DQ.row mc),(4,.call (ev19 g uJ) [(30,0)] []),(4,du yA),(1,DQ.row aDo),(5,OP.eD 303301 x7.2.1),kj (aEb g aDm)];ie h (λc0 h=>bt h zA [hI c0]) λc0 h=>be h λ_ hx63 h=>be h λ_ aDh h=>let zB:SE:=dx zA [hI c0,(6,du hx63),(1,DQ.row aDh)];ie h (λc1 h=>bt h zB [aX c1]) λc1 h=>be h λ_ aDg h=>be h λ_ hx78 h=>be h λa4 hx81 h=>be h λa5 hx83 h=>be h λa6 aDd h=>let zC:SE:=dx zB [aX c1,(6,du aDg),(0,DQ.row hx78),(1,.call (cd (e:=113) (z:=U) (Q:=qS a4.1) (ev29 g hx81) (rB.len a4.1)) [(30,0)] []),(0,.call (ev28 g hx83) [(30,0)] [(83,bL)]),(5,.call (aEa g aDd) [(83,3)] [(308900,bL)])];ie h (λc2 h=>be h λ_ aSS h=>bt h zC [iO c2,kj (aEc g aSS)]) λc2 h=>be h λ_ aSR h=>be h λ_ aSQ h=>be h λYr aSP h=>be h λNb aSL h=>let zD:SE:=dx zC [iO c2,(0,rB.eD 83 a5.1),(0,.ord [0,1,2,3,4,5,11,6,7,8,9,10,12,13,14]),(2,du aSR),(0,DQ.row aSQ),(3,.call (ev31 g aSP) [] [(310300,bL)]),(10,rB.eD 308900 a6.1),(0,.call (ev31 g aSL) [] [(311100,bL)])];ie h (λc3 h=>bt h zD [LL c3]) λc3 h=>let zE:SE:=dx zD [LL c3];ie h (λc4 h=>bt h zE [aS c4]) λc4 h=>let zF:SE:=dx zE [aS c4];ie h (λc5 h=>bt h zF [aZ c5]) λc5 h=>let zG:SE:=dx zF [aZ c5];ie h (λc6 h=>bt h zG [iO c6]) λc6 h=>let zH:SE:=dx zG [iO c6];ie h (λc7 h=>be h λ_ asG h=>bt h zH [aZ c7,kj (aEc g asG)]) λc7 h=>be h λ_ aSJ h=>be h λ_ aSH h=>be h λ_ aSG h=>be h λ_ aSC h=>be h λ_ aSA h=>let zI:SE:=dx zH [aZ c7,(0,YI.eD 310300 Yr.1),(0,.ord [0,1,2,3,4,5,10,6,7,8,9,11,12]),(2,du aSJ),(0,DQ.row aSH),jN (ev32 g aSG),(8,YI.eD 311100 Nb.1),kj (ev32 g aSC),(10,uk (aEb g aSA))];ie h (λc8 h=>let zJ:SE:=dx zI [hI c8];ie h (λc9 h=>ie h (λa0 h=>be h λ_ aHf h=>ie h (λa2 bq=>by subst a2;exact (be bq λa3 aSz bq=>bt bq zJ [aS c9,aZ a0,lY (ev23 g aHf),jl (aEc g aSz)])) λa2 bq=>by subst a2;exact (bt bq zJ [aS c9,aZ a0,lY (ev23 g aHf)])) λa0 h=>bt h zJ [aS c9,aZ a0]) λc9 h=>bt h zJ [aS c9]) λc8 h=>bt h zI [hI c8]
def F8:=aFm
def ev8:KK (Cx E0 8 dj bE) arH (F8 g):=λ_ _ h=>ca (X:=x8) (b8_0 g h)
def YB:Bool:= [5,22].contains ew
def aRY (h:YB ew=I):Nl Tryz.prog YB ew=I:=by
 have fH:([5,22].all λew=>Nl Tryz.prog YB ew)=I:=by kernel_rfl
 exact jR.1 fH ew (List.contains_iff_mem.1 h)
def ty5 (h:lj Tryz.prog g 5 ex):∃x,ex=NI x:=by
 match g,h with
 |g+1,h=>
  simp only[lj,Tryz.underlying5] at h;obtain ⟨x,rfl,_⟩:=h;exact ⟨x,rfl⟩
def ty22 (h:lj Tryz.prog g 22 ex):∃x,ex= [.tN 5 1 (O x) (BW x)]:=by
 match g,h with
 |g+1,h=>
  simp only[lj,Tryz.underlying22] at h;obtain ⟨ii,rfl,hr⟩:=h;obtain ⟨y,rfl⟩:=aJU λr iN=>ty5 g r (hr r iN)
  exact ⟨y,by rw[ku,abQ,show Tryz.prog.cellsOf 5=1 from bv];try rfl⟩
def cR (h1: -9223372036854775808<=x) (h2:x<=9223372036854775807):ba x=x:=IntWalk.i64_in x ⟨h1,h2⟩
def bh (xs:List Y) (i:Nat):idx xs (i:Int)=xs[i]? :=by simp[idx]
mutual
def gL:aj->Nat
 |⟨_,_,_,_,ge⟩=>2+mF ge
def mF:bA->Nat
 | []=>0
 |x::xs=>1+gL x+mF xs
end
def r4 (xs:bA):O xs<=mF xs:=by
 induction xs with
 |nil=>simp[mF]
 |cons x xs ih=>simp[mF];omega
def zv:aP:=pr
def oT (v:aP):Bool:=
 ite (v.aB==1||v.aB==2) (v.dt==0&&A' (v.cH=I')) (ite (v.aB==3) ((v.dt==0||v.dt==1)&&A' (v.cH=I')) (ite (v.aB==4) (A' (v.cH=I')) (ite (v.aB==5) (v.dt==0&&A' ((v.cH.size:Int)<=64)) U)))
def fJ:Bool:=oT ak&&A' (3<=ak.aB)
def aqP:X6 g ak=V (oT ak):=by
 unfold X6 ame oT;by_cases h1:ak.aB=1<;>by_cases h2:ak.aB=2<;>by_cases h3:ak.aB=3<;>by_cases h4:ak.aB=4<;>by_cases h5:ak.aB=5<;>by_cases h6:ak.dt=0<;>by_cases h7:ak.dt=1<;>simp_all<;>simp[<-Int.not_le]
def aqV:St g ak=V (oT ak):=by
 have:=aqP g ak;exact this
def amX (h:oT v=I):1<=v.aB/\v.aB<=5:=by
 unfold oT at h;split at h
 .rename_i h1;simp at h1;omega
 .split at h
  .rename_i h1;simp at h1;omega
  .split at h
   .rename_i h1;simp at h1;omega
   .split at h
    .rename_i h1;simp at h1;omega
    .simp at h
def EP:Tw g ak=V (fJ ak):=by
 unfold Tw amu;rw[aqP];simp only[ai,fJ];cases oT ak<;>simp<;>simp[<-Int.not_le]
def abr:Tu g ak=V (fJ ak):=by
 unfold Tu alZ;rw[aqV];simp only[ai,fJ];cases h:oT ak with
 |false=>simp
 |true=>
  have:=amX h;by_cases h1:ak.aB=1
  .simp[h1]
  .by_cases h2:ak.aB=2
   .simp[h2]
   .have:3<=ak.aB:=by omega
    simp[h1,h2,this]
def acm:∀a b:List UInt8,Hn a b=if Sx a b then -1 else if a=b then 0 else 1
 | [],[]=>by simp[Hn,Sx]
 | [],_::_=>by simp[Hn,Sx]
 |_::_,[]=>by simp[Hn,Sx]
 |a::l,b::m=>by
  rw[Hn,Sx,acm l m];by_cases h:a<b
  .simp[h]
  .by_cases h2:b<a
   .have dd:a≠b:=λe=>by subst e;exact absurd h2 (A0 _)
    simp[h,h2,dd]
   .have he:a=b:=UInt8.le_antisymm (Px.1 h2) (Px.1 h);subst he;simp[A0]
def mV (a b:aP):Int:=
 ite (a.aB<b.aB) (-1) (ite (b.aB<a.aB) 1 (ite (a.dt<b.dt) (-1) (ite (b.dt<a.dt) 1 (ite (Sx a.cH.toList b.cH.toList) (-1) (ite (a.cH=b.cH) 0 1)))))
def rz:∀a:List UInt8,Sx a a=U
 | []=>by simp[Sx]
 |a::l=>by simp[Sx,rz l,A0]
def akY {a b:xN} (h:a.data.toList=b.data.toList):a=b:=by
 cases a;cases b;simp at h;simp[h]
def zh:bZ.toList=bZ.data.toList:=by
 exact ByteArray.toList_eq bZ
def aFa:YD g bZ df=V (if Sx bZ.toList df.toList then -1 else if bZ=df then 0 else 1):=by
 unfold YD;rw[acm,zh,zh];by_cases h:bZ=df
 .subst h;simp
 .have:bZ.data.toList≠df.data.toList:=λe=>h (akY e)
  simp[h,this]
def aLh:X8 g u C=V (if u<C then -1 else if C<u then 1 else 0):=by
 unfold X8 amc Y4 alH;by_cases h1:u<C
 .simp[h1]
 .by_cases h2:C<u<;>simp[h1,h2]
def aLg:X9 g u C=V (if u<C then -1 else if C<u then 1 else 0):=by
 unfold X9 amb Y5 alG;by_cases h1:u<C
 .simp[h1]
 .by_cases h2:C<u<;>simp[h1,h2]
def aLy:Su g ak bg=V (mV ak bg):=by
 unfold Su amN aFg ama aFc alF;rw[aLh,aLg,aFa];let ⟨k,i,t⟩:=ak;let ⟨k',i',t'⟩:=bg;unfold mV;simp only[ai];by_cases h1:k<k'
 .have:k≠k':=by omega
  simp[h1,this]
 .by_cases h2:k'<k
  .have:k≠k':=by omega
   simp[h1,h2,this]
  .have hk:k=k':=by omega
   subst hk;by_cases h3:i<i'
   .have:i≠i':=by omega
    simp[h3,this]
   .by_cases h4:i'<i
    .have:i≠i':=by omega
     simp[h3,h4,this]
    .have hi:i=i':=by omega
     subst hi;by_cases h5:t=t'
     .subst h5;simp[rz]
     .simp[h5]
def oY {xs:List Y} {x:Y} {l:List Y} (h:B' i xs=x::l):xs[i]? =V x/\B' (i+1) xs=l/\i<O xs:=by
 have h1:i<O xs:=by
  by_cases hl:i<O xs
  .exact hl
  .rw[xH W] at h;simp at h
 rw[tE h1] at h;let ⟨q1,q2⟩:=List.cons.inj h;exact ⟨by simp[h1,q1],q2,h1⟩
def eu {l:List rt} (h:B' i l=[]):O l<=i/\¬((i:Int)<(O l:Int)):=by
 have:O l<=i:=by simpa using h
 exact ⟨this,W⟩
def dN {l x:List rt} {a:rt} (h:B' i l=a::x):l[i]? =V a/\B' (i+1) l=x/\i<O l/\(i:Int)<(O l:Int):=by
 let ⟨p,q,r⟩:=oY h
 exact ⟨p,q,r,W⟩
def vE {x:aj} (h:x∈xs):gL x+O xs<=mF xs:=by
 induction xs with
 |nil=>simp at h
 |cons y ys ih=>
  have hl:=r4 ys;simp only[mF,l7];rcases cU.1 h with rfl|h
  .omega
  .have:=ih h;omega
def Ok {Y:Type} (x:G Y) (P:Y->Prop):Prop:=∃a,x=V a/\P a
def Ok.pure {a:Y} {P:Y->Prop} (h:P a):Ok (V a) P:=⟨a,rfl,h⟩
def Ok.bind {pp:Type} {x:G Y} {f:Y->G pp} {P:Y->Prop} {Q:pp->Prop} (h:Ok x P) (k:∀a,P a->Ok (f a) Q):Ok (x.bind f) Q:=by
 obtain ⟨a,rfl,ha⟩:=h;exact k a ha
def Ok.mono {x:G Y} {P Q:Y->Prop} (h:Ok x P) (k:∀a,P a->Q a):Ok x Q:=by
 let ⟨a,h1,h2⟩:=h;exact ⟨a,h1,k a h2⟩
def Ok.ite {b:Bool} {x y:G Y} {P:Y->Prop} (h1:b=I->Ok x P) (h2:b=U->Ok y P):Ok (if b=I then x else y) P:=by
 cases b with
 |true=>simpa using h1 rfl
 |false=>simpa using h2 rfl
structure cL (c:aG):Prop where
 lo:0<=c.DL
 hi:c.DL<=c.rp.length
 len:c.rp.length<=1000
 byte:∀x∈c.rp,0<=x/\x<=255
def dm (xs ys:List Y) (h:O xs+O ys<=1000000):app xs ys=V (xs++ys):=by unfold app;rw[ax W]
def aRL (hb:∀x∈E,0<=x/\x<=255) (h0:0<=vQ) (h1:vQ<=1000):Ok (F13 g E vQ) cL:=by
 unfold F13 awC;have hc:∃k:Nat,(if vQ<(O E:Int) then vQ else (O E:Int))=(k:Int)/\k<=O E/\k<=1000:=by
  by_cases h:vQ<(O E:Int)
  .exact ⟨Eb vQ,by rw[ax h];omega,W,W⟩
  .exact ⟨O E,by rw[au h],cM _,W⟩
 let ⟨k,e,k1,k2⟩:=hc;rw[e];have h2:cut E A (V (k:Int))=V (C' k E):=by simp[cut,k1]
 rw[h2,ai,dm _ _ ap,ai]
 refine Ok.pure ⟨Int.le_refl _,am,ap,λx hx=> ?_⟩
 exact hb x (oB (by simpa using hx))
def kg (h:cL J):Ok (rS g J D) λr=>cL r.2/\0<=r.1/\(1<=D->r.1<D)/\(D<1->r.1=0)/\r.1<=255:=by
 unfold rS awz;refine Ok.ite (λh1=>Ok.pure ⟨h,Int.le_refl _,λh=>W,λ_=>rfl,W⟩) λh1=> ?_
 simp at h1;refine Ok.ite (λh2=>Ok.pure ⟨h,Int.le_refl _,λh=>W,λ_=>rfl,W⟩) λh2=> ?_
 simp at h2;have h3:=h.lo;have h4:=h.len;rw[cR (x:=J.DL+1) W W,cR W W]
 have e:J.DL+1-1=(Eb J.DL:Int):=by omega
 have cT:Eb J.DL<O J.rp:=by omega
 rw[e,bh,bJ cT,ai];have hb:=h.byte (J.rp[Eb J.DL]) (nf _);rw[cR W W]
 have hm:D≠0:=by omega
 simp only[rem,hm,aw,ai];have q1:=Int.tmod_nonneg D hb.1;have q2:=Int.tmod_lt_of_pos J.rp[Eb J.DL] (W:0<D)
 have q3:J.rp[Eb J.DL].tmod D<=J.rp[Eb J.DL]:=by
  rw[Int.tmod_eq_emod_of_nonneg hb.1];have:=Int.emod_add_mul_ediv J.rp[Eb J.DL] D;have h5:0<=D*(J.rp[Eb J.DL] / D):=Int.mul_nonneg W (Int.ediv_nonneg hb.1 W)
  omega
 exact Ok.pure ⟨⟨ap,ap,h4,h.byte⟩,q1,λ_=>q2,λh=>W,ap⟩
def qx (h:cL J):Ok (Ay g J D) λr=>cL r.2:=by
 unfold Ay avW;refine Ok.bind (kg g J D h) λr hr=> ?_
 exact Ok.pure hr.1
def aLw (h:cL J):Ok (Tl g J) λr=>cL r.2/\ -9223372036854775808<=r.1/\r.1<=9223372036854775807:=by
 unfold Tl amz;refine Ok.bind (kg g J 12 h) λr ⟨hr,h0,_,_,h2⟩=> ?_
 refine Ok.ite (λ_=>Ok.pure ⟨hr,am,am⟩) λ_=> ?_
 refine Ok.ite (λ_=>Ok.pure ⟨hr,am,am⟩) λ_=> ?_
 refine Ok.ite (λ_=>Ok.pure ⟨hr,am,am⟩) λ_=> ?_
 have q1:=Int.tmod_nonneg 4 h0;have q2:=Int.tmod_lt_of_pos r.1 (W:(0:Int)<4)
 exact Ok.pure ⟨hr,ap,ap⟩
def acR (c:aG):∀(k n:Nat) (s:xN) (i:Int),i=64-k->k<=64->s.size=64-k->k<n->Ok (Kc (λl b=>V (l,b)) n s i c) λr=>r.2=c/\r.1.size<=64
 |0,n+1,s,i,hi,_,hs,_=>by
  have h:¬i<64:=by omega
  simp only[Kc,XE,h,aR,ay,aw];exact Ok.pure ⟨rfl,ap⟩
 |k+1,n+1,s,i,hi,hk,hs,hn=>by
  have h:i<64:=by omega
  simp only[Kc,XE,h,aO,az];have hc:cat s (NB #[255])=V (s++NB #[255]):=by
   have:(NB #[255]).size=1:=rfl;unfold cat;rw[ax W]
  rw[hc,ai,cR W W]
  have oG:(s++NB #[255]).size=s.size+1:=by rw[asl];rfl
  exact acR c k n _ _ W W W W
 |_,0,_,_,_,_,_,hn=>by simp at hn
def acQ (c:aG):∀(k n:Nat) (s:xN) (i:Int),i=64-k->k<=64->s.size=64-k->k<n->Ok (Kb (λl b=>V (l,b)) n s i c) λr=>r.2=c/\r.1.size<=64
 |0,n+1,s,i,hi,_,hs,_=>by
  have h:¬i<64:=by omega
  simp only[Kb,XD,h,aR,ay,aw];exact Ok.pure ⟨rfl,ap⟩
 |k+1,n+1,s,i,hi,hk,hs,hn=>by
  have h:i<64:=by omega
  simp only[Kb,XD,h,aO,az];have hc:cat s (NB #[98])=V (s++NB #[98]):=by
   have:(NB #[98]).size=1:=rfl;unfold cat;rw[ax W]
  rw[hc,ai,cR W W]
  have oG:(s++NB #[98]).size=s.size+1:=by rw[asl];rfl
  exact acQ c k n _ _ W W W W
 |_,0,_,_,_,_,_,hn=>by simp at hn
def aLv (hn:100<=g) (c:aG) (h:cL c):Ok (Tm g c) λr=>cL r.2/\r.1.size<=64:=by
 unfold Tm amy;refine Ok.bind (kg g c 10 h) λr ⟨hr,_⟩=> ?_
 refine Ok.ite (λ_=>Ok.pure ⟨hr,wc rfl⟩) λ_=> ?_
 refine Ok.ite (λ_=>Ok.pure ⟨hr,wc rfl⟩) λ_=> ?_
 refine Ok.ite (λ_=>Ok.pure ⟨hr,wc rfl⟩) λ_=> ?_
 refine Ok.ite (λ_=>Ok.pure ⟨hr,wc rfl⟩) λ_=> ?_
 refine Ok.ite (λ_=>Ok.pure ⟨hr,wc rfl⟩) λ_=> ?_
 refine Ok.ite (λ_=>Ok.pure ⟨hr,wc rfl⟩) λ_=> ?_
 refine Ok.ite (λ_=>Ok.pure ⟨hr,wc rfl⟩) λ_=> ?_
 refine Ok.ite (λ_=>Ok.pure ⟨hr,wc rfl⟩) λ_=> ?_
 refine Ok.ite (λ_=> ?_) λ_=> ?_
 .exact (acR r.2 64 g I' 0 W W rfl W).mono λx ⟨e,hx⟩=>⟨by rw[e];exact hr,hx⟩
 .exact (acQ r.2 64 g I' 0 W W rfl W).mono λx ⟨e,hx⟩=>⟨by rw[e];exact hr,hx⟩
def Gy (hn:100<=g) (c:aG) (k:Int) (h:cL c) (hk:3<=k) (jz:k<=5):Ok (F93 g c k) λr=>cL r.2/\r.1.aB=k/\fJ r.1=I:=by
 unfold F93 avG;refine Ok.ite (λh3=> ?_) λh3=> ?_
 .simp at h3;refine Ok.bind (kg g c 2 h) λr ⟨hr,h0,h1,_⟩=>Ok.pure ⟨hr,rfl,?_⟩
  have h1:=h1 W
  have:r.1=0\/r.1=1:=by omega
  rcases this with e|e<;>simp[fJ,oT,h3,e]
 .simp at h3;refine Ok.ite (λh4=> ?_) λh4=> ?_
  .simp at h4;refine Ok.bind (aLw g c h) λr ⟨hr,_⟩=>Ok.pure ⟨hr,rfl,by simp[fJ,oT,h4]⟩
  .simp at h4;refine Ok.bind (aLv g hn c h) λr ⟨hr,hs⟩=>Ok.pure ⟨hr,ap,?_⟩
   have:(r.1.size:Int)<=64:=by omega
   simp[fJ,oT,this]
def AN:Bool:=u==3||u==4||u==5
def mI:Bool:=E.all AN
def bS {ae:Nat} (h:i<ae) (hl:ae<4294967296):ba ((i:Int)+1)=((i+1:Nat):Int):=by rw[cR W W];rfl
def aqH:LN g u=V (AN u):=by
 unfold LN alP AN;by_cases h3:u=3
 .simp[h3]
 .by_cases h4:u=4
  .simp[h4]
  .simp[h3,h4]
def aqs (xs:aN) (hl:O xs<4294967296):∀(l:aN) (i n:Nat),B' i xs=l->O l<n->JV (V I) n xs (O xs:Int) (i:Int)=V (mI l)
 | [],i,n+1,hd,hn=>by
  let ⟨this,h⟩:=eu hd
  simp[JV,WR,h,mI]
 |x::l,i,n+1,hd,hn=>by
  let ⟨h1,h2,h3,h⟩:=dN hd
  have ih:=aqs xs hl l (i+1) n h2 (by simp at hn;omega)
  simp only[JV,WR,h,aO,az,bh,h1,ai,aqH,bS h3 hl,ih];simp only[mI,rZ];cases AN x<;>simp
 |_,_,0,_,hn=>by simp at hn
def aqM (hl:O E<4294967296) (hn:O E<g):K9 g E=V (mI E):=by
 have:=aqs E hl E 0 g rfl hn;simpa[K9,alV,alW] using this
def aqy (xs:aN) (hl:O xs<4294967296):∀(l:aN) (i n:Nat),B' i xs=l->O l<n->Kl (V I) n xs (O xs:Int) (i:Int)=V (mI l)
 | [],i,n+1,hd,hn=>by
  let ⟨this,h⟩:=eu hd
  simp[Kl,X4,h,mI]
 |x::l,i,n+1,hd,hn=>by
  let ⟨h1,h2,h3,h⟩:=dN hd
  have ih:=aqy xs hl l (i+1) n h2 (by simp at hn;omega)
  simp only[Kl,X4,h,aO,az,bh,h1,ai,bS h3 hl,ih];simp only[mI,rZ,AN];by_cases q3:x=3
  .simp[q3]
  .by_cases q4:x=4
   .simp[q4]
   .by_cases q5:x=5<;>simp[q3,q4,q5]
 |_,_,0,_,hn=>by simp at hn
def aqZ (hl:O E<4294967296) (hn:O E<g):l4 g E=V (mI E):=by
 have:=aqy E hl E 0 g rfl hn;simpa[l4,amT,amU] using this
mutual
def tS:aj->Nat
 |⟨_,_,_,_,ge⟩=>1+su ge
def su:bA->Nat
 | []=>0
 |x::xs=>tS x+su xs
end
mutual
def xA:aj->Nat
 |⟨_,_,_,_,ge⟩=>1+wL ge
def wL:bA->Nat
 | []=>0
 |x::xs=>max (xA x) (wL xs)
end
def apn:1<=tS cl:=by let ⟨_,_,_,_,_⟩:=cl;simp[tS]
def aqL:∀(n:Nat) (p:aj) (m:Int),gL p<=n->gL p<4294967296->0<=m->m<=24->Ok (RN n p m) λr=>r<=25/\(m+tS p<=24->r=m+tS p)/\(24<m+tS p->24<r)
 |0,⟨_,_,_,_,_⟩,_,h,_,_,_=>by simp[gL] at h
 |n+1,⟨op,c,l,r,ge⟩,m,h,hb,h0,h1=>by
  simp only[gL] at h hb;have li:=r4 ge;have loop:∀(xs:bA) (i k:Nat) (m:Int),B' i ge=xs->O xs<k->0<=m->m<=25->
    Ok (JU (RN n) (λr=>V r) k m ↑i ⟨op,c,l,r,ge⟩) λr=>r<=25/\(m+su xs<=24->r=m+su xs)/\(24<m+su xs->24<r):=by
   intro xs;induction xs with
   |nil=>
    intro i k m hd hk m0 m1;let ⟨this,hq⟩:=eu hd
    cases k with
    |zero=>simp at hk
    |succ k=>
     simp only[JU,WQ,hq,aR,ay,aw];exact Ok.pure ⟨m1,λ_=>by simp[su],λh=>by simp[su] at h;exact h⟩
   |cons x xs ih=>
    intro i k m hd hk m0 m1;let ⟨g1,g2,g3,hq⟩:=dN hd
    cases k with
    |zero=>simp at hk
    |succ k=>
     simp only[JU,WQ,hq,aO,az];have hx:x∈ge:=bF g1;have hs:=vE hx;have DI:=apn x;refine Ok.ite (λhm=> ?_) λhm=> ?_
     .simp at hm;rw[bh,g1,ai];refine Ok.bind (aqL n x m W W m0 hm) λr ⟨r1,r2,r3⟩=> ?_
      rw[bS g3 W]
      have AQ:0<=r:=by
       by_cases hz:m+tS x<=24
       .have:=r2 hz;omega
       .have:=r3 W;omega
      refine (ih (i+1) k r g2 (by simp at hk;omega) AQ r1).mono λr' ⟨q1,q2,q3⟩=>⟨q1,λlm=> ?_,λcT=> ?_⟩
      .simp only[su] at lm ⊢;have e:=r2 W
       have:=q2 W
       omega
      .simp only[su] at cT;by_cases hz:m+tS x<=24
       .have e:=r2 hz;exact q3 W
       .have e:=r3 W
        exact q3 W
     .simp at hm;exact Ok.pure ⟨m1,λlm=>by simp only[su] at lm;omega,λ_=>hm⟩
  unfold RN alU;rw[cR W W]
  refine (loop ge 0 n (m+1) rfl W W W).mono λr' ⟨q1,q2,q3⟩=>⟨q1,λlm=> ?_,λcT=> ?_⟩
  .simp only[tS] at lm ⊢;have:=q2 W
   omega
  .simp only[tS] at cT;exact q3 W
def aqK:∀(n:Nat) (p:aj) (m:Nat),gL p<=n->gL p<4294967296->m<=1000->OY n p (m:Int)=V (A' (m<xA p))
 |0,⟨_,_,_,_,_⟩,_,h,_,_=>by simp[gL] at h
 |n+1,⟨op,c,l,r,ge⟩,0,h,hb,hm=>by
  have:0<xA ⟨op,c,l,r,ge⟩:=by simp only[xA];omega
  simp[OY,WN,this]
 |n+1,⟨op,c,l,r,ge⟩,m+1,h,hb,hm=>by
  simp only[gL] at h hb;have li:=r4 ge;have loop:∀(xs:bA) (i k:Nat),B' i ge=xs->O xs<k->
    JT (OY n) (V U) k ((m+1:Nat):Int) (O ge:Int) ↑i ⟨op,c,l,r,ge⟩=V (A' (m<wL xs)):=by
   intro xs;induction xs with
   |nil=>
    intro i k hd hk;let ⟨this,hq⟩:=eu hd
    cases k with
    |zero=>simp at hk
    |succ k=>simp[JT,WO,hq,wL]
   |cons x xs ih=>
    intro i k hd hk;let ⟨g1,g2,g3,hq⟩:=dN hd
    cases k with
    |zero=>simp at hk
    |succ k=>
     have hx:x∈ge:=bF g1;have hs:=vE hx;have hw:ba (((m+1:Nat):Int)-1)=(m:Int):=by rw[cR W W];omega
     simp only[JT,WO,hq,aO,az,bh,g1,ai,hw,aqK n x m W W W,bS g3 (W:O ge<4294967296),
      ih (i+1) k g2 (by simp at hk;omega)]
     by_cases CP:m<xA x
     .have:m<wL (x::xs):=by simp only[wL];omega
      simp[CP,this]
     .have:(m<wL (x::xs))↔m<wL xs:=by simp only[wL];omega
      simp[CP,this]
  have dd:¬(((m+1:Nat):Int)=0):=by omega
  have hl:=loop ge 0 n rfl W
  have e:(m+1<xA ⟨op,c,l,r,ge⟩)↔m<wL ge:=by simp only[xA];omega
  simp only[OY,WN,tD,dd,aw,alT];rw[show ((0:Int))=((0:Nat):Int) from rfl,hl];simp[e]
def aqY:∀(n:Nat) (p:aj) (v b:Int),gL p<=n->gL p<4294967296->1<=v->v<=9->0<=b->b<=24->
  Ok (T9 n p v b) λr=>(r.1=I↔((tS p:Int)<=b/\v+xA p<=9))/\(r.1=I->r.2=b-tS p)
 |0,⟨_,_,_,_,_⟩,_,_,h,_,_,_,_,_=>by simp[gL] at h
 |n+1,⟨op,c,l,r,ge⟩,v,b,h,hb,v1,v2,b1,b2=>by
  simp only[gL] at h hb;have li:=r4 ge;have loop:∀(xs:bA) (i k:Nat) (b:Int),B' i ge=xs->O xs<k->v<=8->0<=b->b<=24->
    Ok (Kk (T9 n) (λb=>V (I,b)) k v ge (O ge:Int) ↑i b) λr=>(r.1=I↔((su xs:Int)<=b/\v+wL xs<=8))/\(r.1=I->r.2=b-su xs):=by
   intro xs;induction xs with
   |nil=>
    intro i k b hd hk hv b1 b2;let ⟨this,hq⟩:=eu hd
    cases k with
    |zero=>simp at hk
    |succ k=>
     simp only[Kk,X3,hq,aR,ay,aw];exact Ok.pure ⟨by simp[su,wL];omega,by simp[su]⟩
   |cons x xs ih=>
    intro i k b hd hk hv b1 b2;let ⟨g1,g2,g3,hq⟩:=dN hd
    cases k with
    |zero=>simp at hk
    |succ k=>
     have hx:x∈ge:=bF g1;have hs:=vE hx;simp only[Kk,X3,hq,aO,az,bh,g1,ai];rw[cR (x:=v+1) W W]
     refine Ok.bind (aqY n x (v+1) b W W W W b1 b2) λr ⟨r1,r2⟩=> ?_
     refine Ok.ite (λhr=> ?_) λhr=> ?_
     .simp at hr;refine Ok.pure ⟨⟨λh=>by simp at h,λ⟨h1,h2⟩=> ?_⟩,λh=>by simp at h⟩
      simp only[su,wL] at h1 h2;have:=r1.2 ⟨W,W⟩
      rw[hr] at this;exact absurd this am
     .simp at hr;have e:=r2 hr;have q:=r1.1 hr;rw[bS g3 W]
      have DI:=apn x;refine (ih (i+1) k r.2 g2 (by simp at hk;omega) hv W W).mono λr' ⟨q1,q2⟩=>⟨⟨λh=> ?_,λ⟨h1,h2⟩=> ?_⟩,λh=> ?_⟩
      .have:=q1.1 h;simp only[su,wL];omega
      .simp only[su,wL] at h1 h2;exact q1.2 ⟨W,W⟩
      .have:=q2 h;simp only[su];omega
  unfold T9 amS;rw[cR W W]
  simp only[tS,xA];refine Ok.ite (λqu=> ?_) λqu=> ?_
  .simp at qu;refine Ok.pure ⟨⟨λh=>by simp at h,λh=> ?_⟩,λh=>by simp at h⟩
   omega
  .simp at qu;refine Ok.ite (λhv=> ?_) λhv=> ?_
   .simp at hv;refine Ok.pure ⟨⟨λh=>by simp at h,λh=> ?_⟩,λh=>by simp at h⟩
    omega
   .simp at hv;refine (loop ge 0 n (b-1) rfl W hv W W).mono λr' ⟨q1,q2⟩=>⟨⟨λh=> ?_,λ⟨h1,h2⟩=> ?_⟩,λh=> ?_⟩
    .have:=q1.1 h;omega
    .exact q1.2 ⟨W,W⟩
    .have:=q2 h;omega
def B0:Bool:=ak.aB==0&&(ak.dt==0&&(A' (ak.cH=I')&&I))
def D0:Bool:=bV.aB==0&&(bV.dw==0&&(B0 bV.bp&&I))
def kAt:Int:=ite (0<=bV.dw/\bV.dw<O E/\B0 bV.bp=I) ((E[Eb bV.dw]?).getD 0) 0
def mP:Int:=
 ite (bV.aB==3) (ite (bV.dw==0&&fJ bV.bp) bV.bp.aB 0) (ite (bV.aB==2) (kAt ad bV) (ite (bV.aB==1) (kAt E bV) 0))
def ajP:O5 g E bV=V (kAt E bV):=by
 unfold O5 kAt;by_cases h1:bV.dw<0
 .have:¬0<=bV.dw:=by omega
  simp[h1,this]
 .by_cases h2:(O E:Int)<=bV.dw
  .have:¬bV.dw<O E:=by omega
   simp[h1,h2,this]
  .have e1:0<=bV.dw:=by omega
   have e2:bV.dw<O E:=by omega
   have e3:Eb bV.dw<O E:=by omega
   have jA:idx E bV.dw=V (E[Eb bV.dw]):=by simp[idx,e1,e3]
   cases h3:B0 bV.bp with
   |false=>
    simp only[B0] at h3;simp only[h1,h2,aR,ay,aw,ge_iff_le,h3,gb,az,and_false,e2,aO,cO]
   |true=>
    simp only[B0] at h3;simp only[h1,h2,aR,ay,aw,ge_iff_le,h3,cO,jA,ai,e1,e2,and_self,az,aO,cO];simp[e3]
def aLe:Lj g E ad bV=V (mP E ad bV):=by
 unfold Lj alD mP;rw[ajP,ajP,EP];simp only[ai];by_cases h3:bV.aB=3
 .by_cases hi:bV.dw=0<;>cases fJ bV.bp<;>simp[h3,hi]
 .by_cases h2:bV.aB=2
  .simp[h2]
  .by_cases h1:bV.aB=1<;>simp[h1,h2,h3]
def aLj (k:nE) (o:bP):Ip g k o=V (mP k.mZ k.oZ o):=by
 have h0:∀l,WZ g l o=V (kAt l o):=λl=>by rw[<-ajP g l o];rfl
 unfold Ip amf mP;rw[h0,h0,abr];simp only[ai];by_cases h3:o.aB=3
 .by_cases hi:o.dw=0<;>cases fJ o.bp<;>simp[h3,hi]
 .by_cases h2:o.aB=2
  .simp[h2]
  .by_cases h1:o.aB=1<;>simp[h1,h2,h3]
def mH (r:bP):Bool:=u==0&&D0 bV&&D0 r
mutual
def pV (ip g7:aN):aj->Bool
 |⟨op,c,l,r,ge⟩=>
  if op==1||op==2 then mH c l r&&O ge==0
  else if op==3 then O ge==0&&A' (1<=c)&&A' (c<=6)&&mP ip g7 l !=0&&mP ip g7 l==mP ip g7 r
  else if op==4||op==5 then mH c l r&&sq ip g7 ge
  else if op==6 then O ge==1&&(mH c l r&&sq ip g7 ge)
  else U
def sq (ip g7:aN):bA->Bool
 | []=>I
 |x::xs=>pV ip g7 x&&sq ip g7 xs
end
def aqD:RQ g cl=V (mH cl.fZ cl.cS cl.cA):=by
 unfold RQ alE mH D0 B0;by_cases h:cl.fZ=0
 .simp only[h,gV,az,jj];split
  .rename_i h1;simp only[h1,jj]
  .rename_i h1;rw[afD] at h1;simp only[h1,ig]
 .simp[h]
def aqJ (ip g7:aN):∀(n:Nat) (p:aj),gL p<=n->gL p<4294967296->OX n ip g7 p=V (pV ip g7 p)
 |0,⟨_,_,_,_,_⟩,h,_=>by simp[gL] at h
 |n+1,⟨op,c,l,r,ge⟩,h,hb=>by
  simp only[gL] at h hb;have li:=r4 ge;have loop:∀(xs:bA) (i k:Nat),B' i ge=xs->O xs<k->
    Gj (OX n) (V I) k ip g7 (O ge:Int) ↑i ⟨op,c,l,r,ge⟩=V (sq ip g7 xs):=by
   intro xs;induction xs with
   |nil=>
    intro i k hd hk;let ⟨this,hq⟩:=eu hd
    cases k with
    |zero=>simp at hk
    |succ k=>simp[Gj,WM,hq,sq]
   |cons x xs ih=>
    intro i k hd hk;let ⟨g1,g2,g3,hq⟩:=dN hd
    cases k with
    |zero=>simp at hk
    |succ k=>
     have hx:x∈ge:=bF g1;have hs:=vE hx;simp only[Gj,WM,hq,aO,az,bh,g1,ai,aqJ ip g7 n x W W,bS g3 (W:O ge<4294967296),
      ih (i+1) k g2 (by simp at hk;omega),sq]
     cases pV ip g7 x<;>simp
  have hl:=loop ge 0 n rfl W
  have hl:Gj (OX n) (V I) n ip g7 (O ge:Int) 0 ⟨op,c,l,r,ge⟩=V (sq ip g7 ge):=hl;have hB:Ky (OX n) n ip g7 ⟨op,c,l,r,ge⟩=V (mH c l r&&sq ip g7 ge):=by
   unfold Ky alS;rw[aqD,ai,hl];cases mH c l r<;>simp
  unfold OX alR;simp only[aqD,aLe,ai,hB];unfold pV;have hz:((O ge:Int)==0)=(O ge==0):=by
   rw[oS];simp
  have ho:((O ge:Int) !=1)= !(O ge==1):=by
   rw[oS];simp;omega
  simp only[hz,ho];by_cases h1:op=1
  .cases hp:mH c l r<;>simp[h1]
  .by_cases h2:op=2
   .cases hp:mH c l r<;>simp[h2]
   .by_cases h3:op=3
    .cases ha:(O ge==0) with
     |false=>simp[h3]
     |true=>
      by_cases c1:1<=c
      .by_cases c2:c<=6
       .by_cases c3:mP ip g7 l=0<;>simp[h3,c1,c2,c3]
       .simp[h3,c1,c2]
      .simp[h3,c1]
    .by_cases h4:op=4
     .simp[h4]
     .by_cases h5:op=5
      .simp[h5]
      .by_cases h6:op=6
       .cases ha:(O ge==1)<;>simp[h6]
       .simp[h1,h2,h3,h4,h5,h6]
def abA (k:nE):∀(n:Nat) (p:aj),gL p<=n->gL p<4294967296->yL n k p=V (pV k.mZ k.oZ p)
 |0,⟨_,_,_,_,_⟩,h,_=>by simp[gL] at h
 |n+1,⟨op,c,l,r,ge⟩,h,hb=>by
  simp only[gL] at h hb;have li:=r4 ge;have aSt:∀(xs:bA) (i m:Nat),B' i ge=xs->O xs<m->
    C5 (yL n) (V I) m ge (O ge:Int) ↑i k=V (sq k.mZ k.oZ xs):=by
   intro xs;induction xs with
   |nil=>
    intro i m hd hk;let ⟨this,hq⟩:=eu hd
    cases m with
    |zero=>simp at hk
    |succ m=>simp[C5,X2,hq,sq]
   |cons x xs ih=>
    intro i m hd hk;let ⟨g1,g2,g3,hq⟩:=dN hd
    cases m with
    |zero=>simp at hk
    |succ m=>
     have hx:x∈ge:=bF g1;have hs:=vE hx;simp only[C5,X2,hq,aO,az,bh,g1,ai,abA k n x W W,bS g3 (W:O ge<4294967296),
      ih (i+1) m g2 (by simp at hk;omega),sq]
     cases pV k.mZ k.oZ x<;>simp
  have aSs:∀(xs:bA) (i m:Nat),B' i ge=xs->O xs<m->
    C4 (yL n) (V I) m ge (O ge:Int) ↑i k=V (sq k.mZ k.oZ xs):=by
   intro xs;induction xs with
   |nil=>
    intro i m hd hk;let ⟨this,hq⟩:=eu hd
    cases m with
    |zero=>simp at hk
    |succ m=>simp[C4,X0,hq,sq]
   |cons x xs ih=>
    intro i m hd hk;let ⟨g1,g2,g3,hq⟩:=dN hd
    cases m with
    |zero=>simp at hk
    |succ m=>
     have hx:x∈ge:=bF g1;have hs:=vE hx;simp only[C4,X0,hq,aO,az,bh,g1,ai,abA k n x W W,bS g3 (W:O ge<4294967296),
      ih (i+1) m g2 (by simp at hk;omega),sq]
     cases pV k.mZ k.oZ x<;>simp
  have AT:C5 (yL n) (V I) n ge (O ge:Int) 0 k=V (sq k.mZ k.oZ ge):=aSt ge 0 n rfl W
  have hl3:C4 (yL n) (V I) n ge (O ge:Int) 0 k=V (sq k.mZ k.oZ ge):=aSs ge 0 n rfl W
  have aAm:∀X:G Bool,(if c !=0 then V U else if !(D0 l) then V U else if !(D0 r) then V U else X)=if mH c l r then X else V U:=by
   intro X;unfold mH;by_cases hc:c=0
   .cases D0 l<;>cases D0 r<;>simp[hc]
   .simp[hc]
  have hB5:KI (yL n) n k ⟨op,c,l,r,ge⟩=V (mH c l r&&sq k.mZ k.oZ ge):=by
   have:=aAm (C4 (yL n) (XZ (yL n) n) n ge (O ge:Int) 0 k);unfold KI;refine Eq.trans this ?_;unfold XZ;rw[hl3];cases mH c l r<;>simp
  have hB2:∀b,Pp (yL n) n b k ⟨op,c,l,r,ge⟩=V (!b&&(mH c l r&&sq k.mZ k.oZ ge)):=by
   intro b;have:=aAm (C5 (yL n) (X1 (yL n) n) n ge (O ge:Int) 0 k);unfold Pp;cases b with
   |true=>simp
   |false=>
    simp only[ay,aw,gb,jj];refine Eq.trans this ?_;unfold X1;rw[AT];cases mH c l r<;>simp
  unfold yL amR;simp only[aLj,ai,hB5,hB2];unfold pV;have hz:((O ge:Int)==0)=(O ge==0):=by
   rw[oS];simp
  have hz':((O ge:Int) !=0)= !(O ge==0):=by
   rw[oS];simp
  have ho:((O ge:Int) !=1)= !(O ge==1):=by
   rw[oS];simp;omega
  simp only[hz,hz',ho];have he:(O ge==0)=I->sq k.mZ k.oZ ge=I:=by
   intro h;have:ge= []:=by simpa using h
   simp[this,sq]
  by_cases h3:op=3
  .cases ha:(O ge==0) with
   |false=>simp[h3]
   |true=>
    by_cases c1:1<=c
    .by_cases c2:c<=6
     .by_cases c3:mP k.mZ k.oZ l=0<;>simp[h3,c1,c2,c3]
     .simp[h3,c1,c2]
    .simp[h3,c1]
  .by_cases h1:op=1
   .cases ha:(O ge==0) with
    |false=>simp[h1]
    |true=>simp[h1,he ha]
   .by_cases h2:op=2
    .cases ha:(O ge==0) with
     |false=>simp[h2]
     |true=>simp[h2,he ha]
    .by_cases h6:op=6
     .cases ha:(O ge==1)<;>simp[h6]
     .by_cases h4:op=4
      .simp[h4]
      .by_cases h5:op=5
       .simp[h5]
       .simp[h1,h2,h3,h4,h5,h6]
def vL:Int:=
 ite (!mI E) 1 (ite (!mI ad) 1 (ite (A' (24<tS cl)||decide (8<xA cl)) 2 (ite (!pV E ad cl) 50 0)))
def aqS (h1:O E<g) (h2:O ad<g) (h3:gL cl<=g) (h4:g<4294967296):Db g E ad cl=V (vL E ad cl):=by
 let ⟨r,e,r1,r2,r3⟩:=aqL g cl 0 h3 W W W
 have hd:=aqK g cl 8 h3 W W
 have hd:OY g cl 8=V (A' (8<xA cl)):=hd;unfold Db amA vL;simp only[aqM g E W h1,aqM g ad W h2,e,hd,aqJ E ad g cl h3 W,ai]
 cases mI E<;>cases mI ad<;>simp
 by_cases hn:24<tS cl
 .have:=r3 W
  simp[hn,this]
 .have:=r2 W
  have h24:¬24<r:=by omega
  by_cases h8:8<xA cl<;>cases pV E ad cl<;>simp[hn,h24,h8]
def aRz (h1:O E<g) (h2:O ad<g) (h3:gL cl<=g) (h4:g<4294967296):F46 g E ad cl=V (vL E ad cl):=by
 let ⟨r,e,r1,r2⟩:=aqY g cl 1 24 h3 W W W W W
 unfold F46 awi vL;simp only[aqZ g E W h1,aqZ g ad W h2,e,abA ⟨E,ad⟩ g cl h3 W,ai]
 cases mI E<;>cases mI ad<;>simp
 cases hr:r.1 with
 |true=>
  have:=r1.1 hr;have e1:¬24<tS cl:=by omega
  have e2:¬8<xA cl:=by omega
  cases pV E ad cl<;>simp[e1,e2]
 |false=>
  have:¬((tS cl:Int)<=24/\(1:Int)+xA cl<=9):=λh=>by rw[r1.2 h] at hr;simp at hr
  have e1:24<tS cl\/8<xA cl:=by omega
  rcases e1 with h|h<;>simp[h]
def CF (h:AN k=I):3<=k/\k<=5:=by simp[AN] at h;omega
def ahI (h:mI l=I) (hx:l[i]? =V x):AN x=I:=by
 simp only[mI,jR] at h;exact h x (bF hx)
def aCx (l:v8):Prop:=∀o∈l,mP E ad o=bf
def ayG (h:ip[i]? =V k):mP ip g7 ⟨1,(i:Int),⟨0,0,I'⟩⟩=k:=by
 have hi:i<O ip:=(bk.1 h).1;have:(i:Int)<(O ip:Int):=by omega
 simp[mP,kAt,B0,this,h]
def ayF (h:g7[i]? =V k):mP ip g7 ⟨2,(i:Int),⟨0,0,I'⟩⟩=k:=by
 have hi:i<O g7:=(bk.1 h).1;have:(i:Int)<(O g7:Int):=by omega
 simp[mP,kAt,B0,this,h]
def aBI (hn:300<=g) (ip g7:aN) (k:Int) (hk:AN k=I) (l:v8) (c:aG) (hc:cL c) (hl:O l<=300) (ho:aCx ip g7 k l) (z:bP):
  Ok (O7 g k c z l) λr=>cL r.2/\mP ip g7 r.1=k:=by
 have N6:=CF hk;unfold O7;rw[cR W W]
 refine Ok.bind (kg g c ((O l:Int)+1) hc) λr ⟨hr,r0,r1,_⟩=> ?_
 have r1:=r1 W
 refine Ok.ite (λh=> ?_) λh=> ?_
 .simp at h;have cT:Eb r.1<O l:=by omega
  have:eT (O l) r.1=V (Eb r.1):=by simp[eT,r0,cT]
  rw[this,ai,cN,bJ cT,ai];exact Ok.pure ⟨hr,ho _ (nf _)⟩
 .refine Ok.bind (Gy g W r.2 k hr N6.1 N6.2) λx ⟨hx,kx,rx⟩=>Ok.pure ⟨hx,?_⟩
  simp[mP,rx,kx]
def aib (n:Nat) (hn:300<=n) (ip g7:aN) (k:Int) (hk:AN k=I) (hp:O g7<=100) (z:bP):∀(xs:aN) (i m:Nat) (l:v8) (c:aG),B' i g7=xs->O xs<m->cL c->O l+O xs<=300->aCx ip g7 k l->
  Ok (JW (O7 n) m k g7 (O g7:Int) (i:Int) c z l) λr=>cL r.2/\mP ip g7 r.1=k
 | [],i,m+1,l,c,hd,hm,hc,hl,ho=>by
  let ⟨this,hq⟩:=eu hd
  simp only[JW,WU,hq,aR,ay,aw];exact aBI n hn ip g7 k hk l c hc (by simp at hl;omega) ho z
 |x::xs,i,m+1,l,c,hd,hm,hc,hl,ho=>by
  let ⟨g1,g2,g3,hq⟩:=dN hd
  simp only[JW,WU,hq,aO,az,bh,g1,ai];simp at hm hl;refine Ok.ite (λh=> ?_) λh=> ?_
  .simp at h;subst h;rw[dm _ _ ap,ai,bS g3 W]
   refine aib n hn ip g7 x hk hp z xs (i+1) m _ c g2 W hc ap λo hx=> ?_
   rcases fk.1 hx with hx|hx
   .exact ho o hx
   .simp at hx;subst hx;exact ayF g1
  .rw[bS g3 W]
   exact aib n hn ip g7 k hk hp z xs (i+1) m l c g2 W hc W ho
 |_,_,0,_,_,_,hm,_,_,_=>by simp at hm
def aiY (n:Nat) (hn:300<=n) (ip g7:aN) (k:Int) (hk:AN k=I) (hp:O g7<=100) (dX:O ip<=100) (z:bP):∀(xs:aN) (i m:Nat) (l:v8) (c:aG),B' i ip=xs->O xs<m->cL c->O l+O xs<=100->aCx ip g7 k l->
  Ok (JX (WT n) m g7 k ip (O ip:Int) (i:Int) c z l) λr=>cL r.2/\mP ip g7 r.1=k
 | [],i,m+1,l,c,hd,hm,hc,hl,ho=>by
  let ⟨this,hq⟩:=eu hd
  simp only[JX,WV,hq,aR,ay,aw,WT];exact aib n hn ip g7 k hk hp z g7 0 n l c rfl W hc (by simp at hl;omega) ho
 |x::xs,i,m+1,l,c,hd,hm,hc,hl,ho=>by
  let ⟨g1,g2,g3,hq⟩:=dN hd
  simp only[JX,WV,hq,aO,az,bh,g1,ai];simp at hm hl;refine Ok.ite (λh=> ?_) λh=> ?_
  .simp at h;subst h;rw[dm _ _ ap,ai,bS g3 W]
   refine aiY n hn ip g7 x hk hp dX z xs (i+1) m _ c g2 W hc ap λo hx=> ?_
   rcases fk.1 hx with hx|hx
   .exact ho o hx
   .simp at hx;subst hx;exact ayG g1
  .rw[bS g3 W]
   exact aiY n hn ip g7 k hk hp dX z xs (i+1) m l c g2 W hc W ho
 |_,_,0,_,_,_,hm,_,_,_=>by simp at hm
def aqN (hn:300<=g) (c:aG) (ip g7:aN) (k:Int) (hk:AN k=I) (hc:cL c) (dX:O ip<=100) (hp:O g7<=100):Ok (Y2 g c ip g7 k) λr=>cL r.2/\mP ip g7 r.1=k:=
 aiY g hn ip g7 k hk hp dX _ ip 0 g [] c rfl W hc ap (λo h=>by simp at h)
def nB:Nat->Nat
 |0=>1
 |d+1=>1+3*nB d
def sB:Nat->Nat
 |0=>2
 |d+1=>2+3*(1+sB d)
def aMA:1<=nB g:=by cases g<;>simp[nB]
def aMn:2<=sB g:=by cases g<;>simp[sB]
structure wR (cols params:aN) (d:Nat) (r:aj×aG):Prop where
 case:cL r.2
 val:pV cols params r.1=I
 dp:xA r.1<=d+1
 nd:tS r.1<=nB d
 sz:gL r.1<=sB d
def aiy {op c:Int} {l r:bP} {x:aG} (hx:cL x) (hv:pV ip g7 ⟨op,c,l,r,[]⟩=I):wR ip g7 d (⟨op,c,l,r,[]⟩,x):=
 ⟨hx,hv,by simp[xA,wL],by simp[tS,su];exact aMA d,by simp[gL,mF];exact aMn d⟩
def zo:bP:=⟨0,0,⟨0,0,I'⟩⟩
def avu:mH 0 zo zo=I:=by decide
def acU (g7:aN) (d:Nat) (x:aG) (hx:cL x) (c:Int) (l r:bP) (h1:1<=c) (h2:c<=6) (h3:mP dS g7 l≠0) (h4:mP dS g7 l=mP dS g7 r) (z:aj):
  Ok (Pg ee dR x z ⟨3,c,l,r,[]⟩) (wR dS g7 d):=by
 unfold Pg;refine Ok.bind (qx dR x 6 hx) λb hb=> ?_
 refine Ok.ite (λ_=>Ok.pure (aiy hb ?_)) λ_=>Ok.pure (aiy hb ?_)
 .simp[pV,h1,h2,<-h4,h3]
 .simp[pV,h1,h2,<-h4,h3]
def acT (hn:300<=dR) (ip g7:aN) (dX:O ip<=100) (hp:O g7<=100) (d:Nat) (k:Int) (hk:AN k=I) (x:aG) (hx:cL x) (z:aj):
  Ok (Pf ee dR ip g7 k x z) (wR ip g7 d):=by
 have N6:=CF hk;unfold Pf;refine Ok.bind (kg dR x 6 hx) λr ⟨hr,r0,r1,_⟩=> ?_
 have r1:=r1 W
 rw[cR W W]
 refine Ok.bind (aqN dR hn r.2 ip g7 k hk hr dX hp) λl ⟨hl,kl⟩=> ?_
 refine Ok.bind (Gy dR W l.2 k hl N6.1 N6.2) λv ⟨hv,kv,rv⟩=> ?_
 refine Ok.bind (qx dR v.2 3 hv) λb hb=> ?_
 refine Ok.ite (λ_=> ?_) λ_=> ?_
 .refine Ok.bind (aqN dR hn b.2 ip g7 k hk hb dX hp) λo ⟨ho,ko⟩=> ?_
  exact acU ee dR ip g7 d o.2 ho _ _ _ W W W W _
 .refine acU ee dR ip g7 d b.2 hb _ _ _ W W W ?_ _
  simp[mP,rv,kv] at kl ⊢;exact kl
def acS (s:aG->aN->aN->Int->G (aj×aG)) (ip g7:aN) (d:Nat) (hd:d<=1000)
  (hs:∀c,cL c->Ok (s c ip g7 (d:Int)) (wR ip g7 d)) (n0:Nat):∀(j n:Nat) (op:Int) (ge:bA) (c:aG) (z:aj) (a0:bA),cL c->j<n->O ge+j<=3->sq ip g7 ge=I->wL ge<=d+1->su ge<=O ge*nB d->mF ge<=O ge*(1+sB d)->(op=4\/op=5)->
  Ok (Kd s (XF s n0) n ip g7 ((d+1:Nat):Int) ((j:Int)-1) c z ⟨op,0,zo,zo,a0⟩ ge) (wR ip g7 (d+1))
 |0,n+1,op,ge,c,z,a0,hc,_,hj,h1,h2,h3,h4,gP=>by
  have:((0:Nat):Int)-1<0:=by omega
  simp only[Kd,XG,XF,this,aO,cO,ay,aw];have e3:O ge*nB d<=3*nB d:=jv _ W
  have e4:O ge*(1+sB d)<=3*(1+sB d):=jv _ W
  refine Ok.pure ⟨hc,?_,by simp only[xA];omega,by simp only[tS,nB];omega,by simp only[gL,sB];omega⟩
  rcases gP with rfl|rfl<;>simp[pV,avu,h1]
 |j+1,n+1,op,ge,c,z,a0,hc,hn,hj,h1,h2,h3,h4,gP=>by
  have:¬(((j+1:Nat):Int)-1<0):=by omega
  simp only[Kd,XG,this,aR,gb,az];have hw:ba (((d+1:Nat):Int)-1)=(d:Int):=by rw[cR W W];omega
  have hw2:ba (((j+1:Nat):Int)-1-1)=(j:Int)-1:=by rw[cR W W];omega
  rw[hw,hw2];refine Ok.bind (hs c hc) λx hx=> ?_
  rw[dm _ _ ap,ai]
  have key:∀(l:bA) (y:aj),sq ip g7 (l++ [y])=(sq ip g7 l&&pV ip g7 y)/\wL (l++ [y])=max (wL l) (xA y)/\su (l++ [y])=su l+tS y/\mF (l++ [y])=mF l+(1+gL y):=by
   intro l y;induction l with
   |nil=>simp[sq,wL,su,mF]
   |cons a l ih=>
    let ⟨i1,i2,i3,i4⟩:=ih;simp only[xa,sq,wL,su,mF,i1,i2,i3,i4];refine ⟨by rw[Bool.and_assoc],W,W,W⟩
  let ⟨k1,k2,k3,k4⟩:=key ge x.1;refine acS s ip g7 d hd hs n0 j n op _ x.2 _ _ hx.case W ap (by rw[k1,h1,hx.val];rfl) (by rw[k2];have:=hx.dp;omega) ?_ ?_ gP
  .rw[k3,gS];have:=hx.nd;simp only[l7,IU,gz];omega
  .rw[k4,gS];have:=hx.sz;simp only[l7,IU,gz];omega
 |_,0,_,_,_,_,_,_,hn,_,_,_,_,_,_=>by simp at hn
def wR.up {r:aj×aG} {e:Nat} (h:wR ip g7 d r) (hd:d<=e):wR ip g7 e r:=by
 have hn:∀k,nB d<=nB (d+k):=by
  intro k;induction k with
  |zero=>simp
  |succ k ih=>rw[<-il];simp only[nB];omega
 have hs:∀k,sB d<=sB (d+k):=by
  intro k;induction k with
  |zero=>simp
  |succ k ih=>rw[<-il];simp only[sB];omega
 have e1:d+(e-d)=e:=by omega
 have a:=hn (e-d);have b:=hs (e-d);rw[e1] at a b;exact ⟨h.case,h.val,by have:=h.dp;omega,by have:=h.nd;omega,by have:=h.sz;omega⟩
def abw (ip g7:aN) (hk:mI ip=I) (dX:O ip<=100) (hp:O g7<=100):∀(d n:Nat) (c:aG),cL c->300+d<n->d<=100->Ok (GB n c ip g7 (d:Int)) (wR ip g7 d)
 |d,0,c,hc,hn,_=>W
 |d,n+1,c,hc,hn,hd=>by
  have leaf:∀(op:Int) (x:aG) (z:aj),cL x->Ok (AG (GB n) n ip g7 (d:Int) op I x z) (wR ip g7 d):=by
   intro op x z hx;unfold AG;simp only[az];refine Ok.ite (λh=> ?_) λh=> ?_
   .simp at h;refine Ok.bind (kg n x (O ip:Int) hx) λr ⟨hr,r0,r1,_⟩=> ?_
    have r1:=r1 W
    have cT:Eb r.1<O ip:=by omega
    have jA:idx ip r.1=V (ip[Eb r.1]):=by simp[idx,r0,cT]
    rw[jA,ai];exact acT (GB n) n W ip g7 dX hp d _ (ahI hk (i:=Eb r.1) (by simp[cT])) r.2 hr _
   .exact acT (GB n) n W ip g7 dX hp d 4 rfl x hx _
  have inner:∀(op:Int) (x:aG) (z:aj),6<=op->op<=8->cL x->Ok (AG (GB n) n ip g7 ↑d op (A' ((d:Int)<1)) x z) (wR ip g7 d):=by
   intro op x z o1 o2 hx;cases d with
   |zero=>simpa using leaf op x z hx
   |succ d=>
    have DI:¬(((d+1:Nat):Int)<1):=by omega
    have hw:ba (((d+1:Nat):Int)-1)=(d:Int):=by rw[cR W W];omega
    have ih:=λc hc=>abw ip g7 hk dX hp d n c hc W W
    unfold AG;simp only[DI,aR,ay,aw];refine Ok.ite (λh6=> ?_) λh6=> ?_
    .rw[hw];refine Ok.bind (ih x hx) λr hr=>Ok.pure ⟨hr.case,?_,?_,?_,?_⟩
     .have:mH 0 ⟨0,0,⟨0,0,I'⟩⟩ ⟨0,0,⟨0,0,I'⟩⟩=I:=avu;simp[pV,this,sq,hr.val]
     .simp only[xA,wL];have:=hr.dp;omega
     .simp only[tS,su,nB];have:=hr.nd;omega
     .simp only[gL,mF,sB];have:=hr.sz;omega
    .simp at h6;refine Ok.bind (kg n x 3 hx) λr ⟨hr,r0,r1,_⟩=> ?_
     have r1:=r1 W
     rw[cR (x:=4+op) W W,cR W W]
     have e:r.1=((Eb r.1+1:Nat):Int)-1:=by omega
     rw[e];exact acS (GB n) ip g7 d W ih n (Eb r.1+1) n (4+op-7) [] r.2 _ _ hr W ap rfl (by simp[wL]) (by simp[su]) (by simp[mF]) W
  unfold GB amB;refine Ok.bind (kg n c 9 hc) λr ⟨hr,r0,r1,_⟩=> ?_
  have r1:=r1 W
  refine Ok.ite (λh0=> ?_) λh0=> ?_
  .simp at h0;refine Ok.bind (qx n r.2 2 hr) λb hb=> ?_
   refine Ok.ite (λ_=> ?_) λ_=> ?_
   .refine Ok.bind (kg n b.2 2 hb) λq ⟨hq,q0,q1,_⟩=> ?_
    have q1:=q1 W
    rw[cR W W]
    refine Ok.pure (aiy hq ?_);have hz:mH 0 ⟨0,0,⟨0,0,I'⟩⟩ ⟨0,0,⟨0,0,I'⟩⟩=I:=avu;have:q.1=0\/q.1=1:=by omega
    rcases this with e|e<;>simp[pV,e,hz]
   .refine Ok.ite (λ_=>leaf _ _ _ hb) λh6=> ?_
    simp at h6;omega
  .refine Ok.ite (λ_=>leaf _ _ _ hr) λh6=> ?_
   simp at h6;exact inner r.1 r.2 _ h6 W hr
def aRs (hk:mI E=I) (jz:mI ad=I) (dX:O E<=100) (hp:O ad<=100) (d n:Nat) (c:aG) (hc:cL c) (hn:1000<=n) (fB:n<4294967296) (CP:1<=d) (hd:d<=3):
  Ok (F92 n c E ad (d:Int)) λr=>cL r.2/\vL E ad r.1=0/\gL r.1<=119:=by
 unfold F92 avH;refine Ok.bind (abw E ad hk dX hp d n c hc W W) λr hr=> ?_
 have hs:gL r.1<=119:=(hr.up hd).sz;rw[aqS n E ad r.1 W W W fB,ai]
 refine Ok.ite (λh2=> ?_) λh2=> ?_
 .refine Ok.bind (abw E ad hk dX hp 1 n r.2 hr.case W W) λq hq=>Ok.pure ⟨hq.case,?_,(hq.up (W:1<=3)).sz⟩
  have h1:=hq.nd;have h2:=hq.dp;have e1:¬24<tS q.1:=by simp[nB] at h1;omega
  have e2:¬8<xA q.1:=by omega
  simp[vL,hk,jz,e1,e2,hq.val]
 .refine Ok.pure ⟨hr.case,?_,hs⟩;have:vL E ad r.1=2\/vL E ad r.1=0:=by
   unfold vL;cases A' (24<tS r.1)||decide (8<xA r.1)<;>simp[hk,jz,hr.val]
  simp at h2;exact this.resolve_left h2
def lU:aN->aU->Bool
 | [],[]=>I
 |k::ks,v::vs=>(fJ v&&v.aB==k)&&lU ks vs
 |_,_=>U
def uA:∀{ks:aN} {vs:aU},lU ks vs=I->O vs=O ks
 | [],[],_=>rfl
 |k::ks,v::vs,h=>by simp[lU] at h;simp[uA h.2]
 | [],_::_,h=>by simp[lU] at h
 |_::_,[],h=>by simp[lU] at h
def abT:∀{ks:aN} {vs:aU} {k:Int} {v:aP},lU ks vs=I->v.aB=k->fJ v=I->lU (ks++ [k]) (vs++ [v])=I
 | [],[],k,v,_,h1,h2=>by simp[lU,h1,h2]
 |k::ks,v::vs,_,_,h,h1,h2=>by
  simp[lU] at h;simp[lU,h.1,abT h.2 h1 h2]
 | [],_::_,_,_,h,_,_=>by simp[lU] at h
 |_::_,[],_,_,h,_,_=>by simp[lU] at h
section
def aaV (a b:List UInt8):Sx (de::a) (et::b)=(A' (de<et)||(de==et&&Sx a b)):=by simp[Sx]
def ab0:∀{a b:List UInt8},Sx a b=I->Sx b a=U
 | [],[],h=>by simp[Sx] at h
 | [],_::_,_=>by simp[Sx]
 |_::_,[],h=>by simp[Sx] at h
 |x::a,y::b,h=>by
  rw[aaV] at h ⊢;by_cases h1:x<y
  .have h2:¬y<x:=λh2=>A0 x (UInt8.lt_trans h1 h2)
   have h3:¬y=x:=λe=>by subst e;exact A0 _ h1
   simp[h2,h3]
  .by_cases h3:x=y
   .subst h3;simp[A0] at h ⊢;exact ab0 h
   .simp[h1,h3] at h
def ab4:∀{a b:List UInt8},Sx a b=U->a≠b->Sx b a=I
 | [],[],_,h=>absurd rfl h
 | [],_::_,h,_=>by simp[Sx] at h
 |_::_,[],_,_=>by simp[Sx]
 |x::a,y::b,h,dd=>by
  rw[aaV] at h ⊢;by_cases h1:x<y
  .simp[h1] at h
  .by_cases h2:y<x
   .simp[h2]
   .have:x=y:=UInt8.le_antisymm (Px.1 h2) (Px.1 h1);subst this;simp[A0] at h ⊢;exact ab4 h (λe=>dd (by rw[e]))
def afH (a b:aP):mV b a= - mV a b:=by
 unfold mV;by_cases h1:a.aB<b.aB
 .have:¬b.aB<a.aB:=by omega
  simp[h1,this]
 .by_cases h2:b.aB<a.aB
  .simp[h1,h2]
  .by_cases h3:a.dt<b.dt
   .have:¬b.dt<a.dt:=by omega
    simp[h1,h2,h3,this]
   .by_cases h4:b.dt<a.dt
    .simp[h1,h2,h3,h4]
    .cases h5:Sx a.cH.toList b.cH.toList with
     |true=>
      have h6:=ab0 h5;have h7:¬b.cH=a.cH:=λe=>by rw[e,rz] at h5;cases h5
      simp[h1,h2,h3,h4,h6,h7]
     |false=>
      by_cases h6:a.cH=b.cH
      .simp[h1,h2,h3,h4,h6,rz]
      .have h7:Sx b.cH.toList a.cH.toList=I:=ab4 h5 (λe=>h6 (akY (by rw[zh,zh] at e;exact e)))
       simp[h1,h2,h3,h4,h6,h7]
def aru:mV ak bg= -1\/mV ak bg=0\/mV ak bg=1:=by
 unfold mV;repeat' split
 all_goals simp
def eJ:aU->aU->Int
 | [],[]=>0
 | [],_::_=> -1
 |_::_,[]=>1
 |a::x,b::y=>if mV a b=0 then eJ x y else mV a b
def Fi:∀(x y:aU),eJ y x= - eJ x y
 | [],[]=>rfl
 | [],_::_=>rfl
 |_::_,[]=>rfl
 |a::x,b::y=>by
  have h:=afH a b;simp only[eJ];rw[Fi x y,h];by_cases h1:mV a b=0
  .simp[h1]
  .have:¬ -mV a b=0:=by omega
   simp[h1,this]
def DY:∀(x y:aU),eJ x y= -1\/eJ x y=0\/eJ x y=1
 | [],[]=>by simp[eJ]
 | [],_::_=>by simp[eJ]
 |_::_,[]=>by simp[eJ]
 |a::x,b::y=>by
  simp only[eJ];split
  .exact DY x y
  .exact aru a b
def sn:eJ B B=0:=by have:=Fi B B;omega
def aqw (n0:Nat) (a b:aU) (ha:O a<4294967296):∀(x:aU) (i m:Nat),B' i a=x->i<=O a->i<=O b->O x<m->Gw (Pm n0) m a b a (O a:Int) (i:Int)=V (eJ (B' i a) (B' i b))
 | [],i,m+1,hd,h1,h2,hm=>by
  let ⟨hl,hq⟩:=eu hd
  simp only[Gw,XS,Pm,hq,aR,ay,aw];rw[hd];cases hb:B' i b with
  |nil=>
   have:O b<=i:=by simpa using hb
   have e1:¬(O a:Int)<O b:=by omega
   simp[e1,eJ]
  |cons y l=>
   let ⟨_,_,g3⟩:=oY hb;have e1:(O a:Int)<O b:=by omega
   simp[e1,eJ]
 |x::xs,i,m+1,hd,h1,h2,hm=>by
  let ⟨g1,g2,g3,hq⟩:=dN hd
  simp only[Gw,XS,hq,aO,az,bh,g1,ai];cases hb:B' i b with
  |nil=>
   have hl:O b<=i:=by simpa using hb
   have e0:¬(i:Int)<O b:=by omega
   simp[e0,hd,eJ]
  |cons y l=>
   let ⟨k1,k2,k3⟩:=oY hb;have e0:(i:Int)<O b:=by omega
   simp only[e0,aO,cO,ay,aw,k1,ai,aLy];rw[hd,bS g3 ha];simp only[eJ];by_cases h:mV x y=0
   .simp only[h,iw,ay,aw,az];rw[aqw n0 a b ha xs (i+1) m g2 W W (by simp at hm;omega),g2,k2]
   .have:(mV x y !=0)=I:=by simpa using h
    simp only[this,h,az,aw]
 |_,_,0,_,_,_,hm=>by simp at hm
def yc (ha:O B<4294967296) (hn:O B<g):Ko g B F=V (eJ B F):=by
 have:=aqw g B F ha B 0 g rfl W W hn
 simp only[oQ] at this;show (Gw (Pm g) g B F B (O B:Int) 0).bind (λx=>V x)=_
 rw[show (0:Int)=((0:Nat):Int) from rfl,this];rfl
def db:aN:=dD.L.map (·.aB)
def Fw {xs:List Y} {i:Int} {x:Y} (h:idx xs i=V x):0<=i/\Eb i<O xs/\xs[Eb i]? =V x:=by
 unfold idx at h;split at h
 .exact ⟨by assumption,(bk.1 h).1,h⟩
 .cases h
def aBh (n0:Nat) (cs:dr) (hl:O cs<=1000):∀(x:dr) (i m:Nat) (out:aN),B' i cs=x->O x<m->out=(C' i cs).map (·.aB)->QV (aeE n0) m cs (O cs:Int) (i:Int) out=V (cs.map (·.aB))
 | [],i,m+1,out,hd,hm,ho=>by
  let ⟨hl,hq⟩:=eu hd
  simp only[QV,aeF,aeE,hq,aR,ay,aw];rw[ho,jc hl]
 |x::xs,i,m+1,out,hd,hm,ho=>by
  let ⟨g1,g2,g3,hq⟩:=dN hd
  simp only[QV,aeF,hq,aO,az,bh,g1,ai];rw[dm _ _ (by rw[ho];simp;omega),ai,bS g3 W]
  refine aBh n0 cs hl xs (i+1) m _ g2 (by simp at hm;omega) ?_
  rw[ho,IN,g1];simp
 |_,_,0,_,_,hm,_=>by simp at hm
def aBi (n0:Nat) (cs:dr) (hl:O cs<=1000):∀(x:dr) (i m:Nat) (out:aN),B' i cs=x->O x<m->out=(C' i cs).map (·.aB)->QW (aeH n0) m cs (O cs:Int) (i:Int) out=V (cs.map (·.aB))
 | [],i,m+1,out,hd,hm,ho=>by
  let ⟨hl,hq⟩:=eu hd
  simp only[QW,aeI,aeH,hq,aR,ay,aw];rw[ho,jc hl]
 |x::xs,i,m+1,out,hd,hm,ho=>by
  let ⟨g1,g2,g3,hq⟩:=dN hd
  simp only[QW,aeI,hq,aO,az,bh,g1,ai];rw[dm _ _ (by rw[ho];simp;omega),ai,bS g3 W]
  refine aBi n0 cs hl xs (i+1) m _ g2 (by simp at hm;omega) ?_
  rw[ho,IN,g1];simp
 |_,_,0,_,_,hm,_=>by simp at hm
section
variable {s:af} {t:Int} {T:ah} {n:Nat}
def aKy {xs:List Y} {i:Int} (h0:0<=i) (h:¬i<(O xs:Int)):idx xs i=A:=by
 unfold idx;rw[ax h0,mw W]
variable (hT:idx s.ag t=V T)
def Rm:Mn n s t=V I:=by
 let ⟨h0,h1,_⟩:=Fw hT;have e1:¬t<0:=by omega
 have e2:t<(O s.ag:Int):=by omega
 simp[Mn,amV,e1,e2]
def VO (hl:O T.L<=1000) (hn:1000<n):F50 n s t=V (db T):=by
 let ⟨h0,h1,_⟩:=Fw hT;have e1:¬t<0:=by omega
 have e2:t<(O s.ag:Int):=by omega
 simp only[F50,awh,e1,e2,aR,aO,cO,ay,aw,hT,ai];exact aBh n T.L hl T.L 0 n [] rfl W rfl
def akB (hl:O T.L<=1000) (hn:1000<n):F45 n s t=V (db T):=by
 simp only[F45,awj,Rm hT,ai,cO,ay,aw,hT];have:rT (O T.L:Int) (0:Int)=V (List.replicate (O T.L) 0):=by simp[rT];omega
 rw[this,ai];exact aBi n T.L hl T.L 0 n [] rfl W rfl
structure fP (T:ah):Prop where
 lV:1<=T.av
 iA:T.av<=(T.L.length:Int)
 cols:T.L.length<=8
 ks:mI (db T)=I
def zV:aN:=C' (Eb dD.av) (db dD)
def kK:O (db dD)=O dD.L:=by simp[db]
def ajx {xs:List Y} (h0:0<=k) (h:Eb k<=O xs):cut xs A (V k)=V (C' (Eb k) xs):=by
 obtain ⟨m,rfl⟩:∃m:Nat,k=m:=⟨Eb k,W⟩
 simp at h;simp[cut,h]
def aCP (hk:AN k=I) (h:v.aB=k):fJ v=oT v:=by
 have:=CF hk;have:3<=v.aB:=by omega
 simp[fJ,this]
def aAe (h:mI l=I) (i:Nat):mI (B' i l)=I:=by
 unfold mI at h ⊢;rw[jR] at h ⊢;exact λx hx=>h x (nh hx)
end
end
def DF:Bool:=A' (97<=de.toNat)&&A' (de.toNat<=122)
def GS:Bool:=DF de||((A' (48<=de.toNat)&&A' (de.toNat<=57))||decide (de.toNat=95))
def UP:List UInt8->Bool
 | []=>U
 |b::l=>DF b&&l.all GS
def B4:Bool:=A' (bZ.size<=32)&&UP bZ.data.toList
def xY:O bZ.data.toList=bZ.size:=am
def aMY {s:xN} {b:UInt8} (h:s.data.toList[p]? =V b):∃hp:p<s.size,s[p]'hp=b:=by
 have h1:=(bk.1 h);let ⟨q1,q2⟩:=h1;have hp:p<s.size:=by simpa using q1
 have q3:s.data[p]=b:=by simpa using q2
 exact ⟨hp,q3⟩
def aln (k:xN->Nat->G Bool) (m:Nat) (s:xN) (p:Nat) (q:Nat) (c:Int) (l:Bool):VT k m (p:Int) c l s q=if l=I then k s q else if p=0 then V U else if c=95\/(48<=c/\c<=57) then k s q else V U:=by
 unfold VT;cases l with
 |true=>simp
 |false=>
  by_cases hp:p=0
  .simp[hp]
  .have CM:¬(p:Int)=0:=by omega
   by_cases h1:c=95
   .simp[hp,h1]
   .by_cases h2:c<48
    .have:¬48<=c:=by omega
     simp[hp,h1,h2,this]
    .by_cases h3:57<c
     .have:¬c<=57:=by omega
      simp[hp,h1,h2,h3,this]
     .have Jw:48<=c:=by omega
      have Of:c<=57:=by omega
      simp[hp,h1,h2,h3,Jw,Of]
def ajY (hb:df.data.toList[di]? =V et):Ei (Mr g) (cr+1) df di=if DF et=I then Ei (Mr g) cr df (di+1) else if di=0 then V U else if GS et=I then Ei (Mr g) cr df (di+1) else V U:=by
 let ⟨hp,he⟩:=aMY hb;simp only[Ei,aec,hp,aO,az];rw[aln,aln];by_cases ha:et.toNat<128
 .have hd:=decode_ascii df di hp (by rw[he];exact ha)
  rw[he] at hd;rw[hd];simp only[DF,GS];by_cases h1:97<=et.toNat
  .have vZ:¬((et.toNat:Int)<97):=by omega
   by_cases h2:et.toNat<=122
   .have Jw:¬(122<(et.toNat:Int)):=by omega
    simp[h1,vZ,h2,Jw]
   .have Jw:(122<(et.toNat:Int)):=by omega
    have e1:¬(et.toNat:Int)=95:=by omega
    have e2:¬(et.toNat:Int)<=57:=by omega
    have e3:¬et.toNat<=57:=by omega
    have e4:¬et.toNat=95:=by omega
    simp[h1,vZ,h2,Jw,e1,e2,e3,e4]
  .have vZ:((et.toNat:Int)<97):=by omega
   by_cases e1:et.toNat=95
   .simp[h1,vZ,e1]
   .have e1':¬(et.toNat:Int)=95:=by omega
    by_cases e2:48<=et.toNat
    .have JC:48<=(et.toNat:Int):=by omega
     by_cases e3:et.toNat<=57
     .have e3':(et.toNat:Int)<=57:=by omega
      simp[h1,vZ,e1,e1',e2,JC,e3,e3']
     .have e3':¬(et.toNat:Int)<=57:=by omega
      simp[h1,vZ,e1,e1',e2,JC,e3,e3']
    .have JC:¬48<=(et.toNat:Int):=by omega
     simp[h1,vZ,e1,e1',e2,JC]
 .have hd:=(decode_high df di hp (by rw[he];omega)).1
  generalize (Utf8.decode df di)=d at hd;let ⟨c,q⟩:=d;simp only at hd;have a1:¬((c:Int)<97):=by omega
  have a2:122<(c:Int):=by omega
  have a3:¬((c:Int)=95\/(48<=(c:Int)/\(c:Int)<=57)):=by omega
  have b1:DF et=U:=by simp[DF];omega
  have b2:GS et=U:=by simp[GS,b1];omega
  simp[a1,a2,a3,b1,b2]
def aBg (n0:Nat) (s:xN):∀(x:List UInt8) (p m:Nat),B' p s.data.toList=x->0<p->O x<m->Ei (Mr n0) m s p=V (x.all GS)
 | [],p,m+1,hd,hp,hm=>by
  have:O s.data.toList<=p:=by simpa using hd
  have hq:¬p<s.size:=by rw[xY] at this;omega
  simp only[Ei,aec,Mr,hq,aR,ay,aw];rfl
 |b::x,p,m+1,hd,hp,hm=>by
  let ⟨g1,g2,g3⟩:=oY hd;have ih:=aBg n0 s x (p+1) m g2 W (by simp at hm;omega)
  rw[ajY n0 m s p b g1,au (W:¬p=0),ih]
  simp only[rZ];have:DF b=I->GS b=I:=λh=>by simp[GS,h]
  cases hl:DF b with
  |true=>simp[this hl]
  |false=>cases hc:GS b<;>simp
 |_,_,0,_,_,hm=>by simp at hm
def aBu (hn:100<g):F99 g bZ=V (B4 bZ):=by
 unfold F99 avC B4;by_cases h0:bZ.size=0
 .have:bZ.data.toList= []:=by
   have:=xY bZ;exact wZ W
  simp[h0,this,UP]
 .have e1:¬(bZ.size:Int)<1:=by omega
  by_cases h1:bZ.size<=32
  .have e2:¬32<(bZ.size:Int):=by omega
   simp only[e1,e2,aR,ay,aw,h1,aO,jj];obtain ⟨m,rfl⟩:∃m,g=m+1:=⟨g-1,W⟩
   cases hx:bZ.data.toList with
   |nil=>have:=xY bZ;rw[hx] at this;simp at this;omega
   |cons b l=>
    have hl:O l<32:=by have:=xY bZ;rw[hx] at this;simp at this;omega
    rw[ajY (m+1) m bZ 0 b (by rw[hx];rfl)]
    simp only[az,UP];cases hb:DF b with
    |false=>simp
    |true=>
     simp only[az,jj];exact aBg (m+1) bZ l 1 m (by rw[hx];rfl) W W
  .have e2:32<(bZ.size:Int):=by omega
   simp only[e1,e2,aR,aO,ay,aw,az,h1,ig]
def aBm (hs:df.size<4294967296) (b:UInt8) (hb:df.data.toList[di]? =V b):C3 (Kx g) (cr+1) df (di:Int)=if GS b=I then C3 (Kx g) cr df ((di+1:Nat):Int) else V U:=by
 have hp:di<df.size:=by have:=(bk.1 hb).1;rwa[xY] at this
 have hq:(di:Int)<(df.size:Int):=by omega
 have hi:H8 df (di:Int)=V b:=by simp[H8];simpa using hb
 simp only[C3,WL,AE,hq,aO,az,hi,ai,bS hp hs];simp only[GS,DF];by_cases h1:97<=b.toNat
 .have vZ:¬((b.toNat:Int)<97):=by omega
  by_cases h2:b.toNat<=122
  .have Jw:¬(122<(b.toNat:Int)):=by omega
   simp[h1,vZ,h2,Jw]
  .have Jw:(122<(b.toNat:Int)):=by omega
   have e1:¬(b.toNat:Int)=95:=by omega
   have e2:¬(b.toNat:Int)<48:=by omega
   have e5:57<(b.toNat:Int):=by omega
   have e3:¬b.toNat<=57:=by omega
   have e4:¬b.toNat=95:=by omega
   simp[h1,vZ,h2,Jw,e1,e2,e3,e4,e5]
 .have vZ:((b.toNat:Int)<97):=by omega
  by_cases e2:48<=b.toNat
  .have JC:¬(b.toNat:Int)<48:=by omega
   by_cases e3:b.toNat<=57
   .have e3':¬57<(b.toNat:Int):=by omega
    simp[h1,vZ,e2,JC,e3,e3']
   .have e3':57<(b.toNat:Int):=by omega
    by_cases e1:b.toNat=95
    .simp[e1]
    .have e1':¬(b.toNat:Int)=95:=by omega
     simp[h1,vZ,e2,JC,e3,e3',e1,e1']
  .have JC:(b.toNat:Int)<48:=by omega
   have e1:¬b.toNat=95:=by omega
   have e1':¬(b.toNat:Int)=95:=by omega
   simp[h1,vZ,e2,JC,e1,e1']
def aqr (n0:Nat) (s:xN) (hs:s.size<4294967296):∀(x:List UInt8) (p m:Nat),B' p s.data.toList=x->O x<m->C3 (Kx n0) m s (p:Int)=V (x.all GS)
 | [],p,m+1,hd,hm=>by
  have:O s.data.toList<=p:=by simpa using hd
  have hq:¬(p:Int)<(s.size:Int):=by rw[xY] at this;omega
  simp only[C3,WL,Kx,hq,aR,ay,aw];rfl
 |b::x,p,m+1,hd,hm=>by
  let ⟨g1,g2,g3⟩:=oY hd;have ih:=aqr n0 s hs x (p+1) m g2 (by simp at hm;omega)
  rw[aBm n0 m s p hs b g1,ih];simp only[rZ];cases hc:GS b<;>simp
 |_,_,0,_,hm=>by simp at hm
def aqI (hn:100<g):LB g bZ=V (B4 bZ):=by
 unfold LB alQ B4;by_cases h0:bZ.size=0
 .have:bZ.data.toList= []:=by
   have:=xY bZ;exact wZ W
  simp[h0,this,UP]
 .have e1:((bZ.size:Int)==0)=U:=by rw[asz];omega
  by_cases h1:bZ.size<=32
  .have e2:¬32<(bZ.size:Int):=by omega
   simp only[e1,e2,aR,ay,aw,h1,aO,jj];cases hx:bZ.data.toList with
   |nil=>have:=xY bZ;rw[hx] at this;simp at this;omega
   |cons b l=>
    have hi:H8 bZ 0=V b:=by simp only[H8,hx];rfl
    have hl:O l<32:=by have:=xY bZ;rw[hx] at this;simp at this;omega
    simp only[hi,ai,UP];have:=aqr g bZ W bZ.data.toList 0 g rfl (by rw[xY];omega)
    rw[show ((0:Nat):Int)=0 from rfl,hx,rZ] at this;rw[this];by_cases h3:97<=b.toNat
    .have Of:¬((b.toNat:Int)<97):=by omega
     by_cases h4:b.toNat<=122
     .have h4':¬(122<(b.toNat:Int)):=by omega
      have hb:DF b=I:=by simp[DF,h3,h4]
      simp[Of,h4',hb,GS]
     .have h4':(122<(b.toNat:Int)):=by omega
      have hb:DF b=U:=by simp[DF];omega
      simp[Of,h4',hb]
    .have Of:((b.toNat:Int)<97):=by omega
     have hb:DF b=U:=by simp[DF];omega
     simp[Of,hb]
  .have e2:32<(bZ.size:Int):=by omega
   simp only[e1,e2,aR,aO,ay,aw,az,h1,ig]
def aag {pp:Type} (d:pp) (k:xN) (v:pp) (x:xN):∀m:List (xN×pp),gB (jx m k v) x d=if x=k then v else gB m x d
 | []=>by simp[jx,gB]
 |p::m=>by
  simp only[jx];by_cases h:k=p.1
  .simp only[h,az,gB];by_cases h2:x=p.1
   .simp[h2]
   .simp[h2]
  .simp only[h,aw,gB];by_cases h2:x=p.1
   .have:¬x=k:=λe=>h (e.symm.trans h2)
    simp[h2];intro e;exact absurd e.symm h
   .simp only[h2,aw];exact aag d k v x m
def rh (x:xN):List xN->Bool
 | []=>U
 |y::l=>A' (x=y)||rh x l
def ain (x:xN):∀(a b:List xN),rh x (a++b)=(rh x a||rh x b)
 | [],b=>by simp[rh]
 |y::a,b=>by simp[rh,ain x a b,Bool.or_assoc]
def Af:List xN->dr->Bool
 |_,[]=>I
 |ol,c::cs=>B4 c.aK&&(!rh c.aK ol&&(AN c.aB&&Af (ol++ [c.aK]) cs))
def R9 (ol:List xN) (T:ah):Bool:=B4 T.aK&&(!rh T.aK ol&&(A' (1<=T.av)&&(A' (T.av<=(O T.L:Int))&&Af [] T.L)))
def th:List xN->bC->Bool
 |_,[]=>I
 |ol,T::Ts=>R9 ol T&&th (ol++ [T.aK]) Ts
def Ut (m:List (xN×Bool)) (ol:List xN):Prop:=∀x,gB m x U=rh x ol
def Ut.put {m:List (xN×Bool)} (h:Ut m ol) (k:xN):Ut (jx m k I) (ol++ [k]):=λx=>by
 rw[aag,h x,ain];by_cases hx:x=k
 .simp[hx,rh]
 .simp[hx,rh]
def akn (k:bC->Int->Int->xN->Int->Int->dr->Int->List (xN×Bool)->ah->G Bool) (cs:dr) (hl:O cs<=8) (a1:bC) (a2 a3:Int) (a4:xN) (a5 a6:Int) (a7:dr) (a8:Int) (a9:List (xN×Bool)) (T:ah):∀(x:dr) (i m:Nat) (mp:List (xN×Bool)) (ol:List xN),B' i cs=x->O x+200<m->Ut mp ol->
  QY k m a1 a2 a3 a4 a5 a6 a7 a8 cs (O cs:Int) (i:Int) a9 mp T=if Af ol x=I then k a1 a2 a3 a4 a5 a6 a7 a8 a9 T else V U
 | [],i,m+1,mp,ol,hd,hm,hs=>by
  let ⟨this,hq⟩:=eu hd
  simp only[QY,aeQ,hq,aR,ay,aw,Af,az]
 |c::x,i,m+1,mp,ol,hd,hm,hs=>by
  let ⟨g1,g2,g3,hq⟩:=dN hd
  simp at hm;have ih:=akn k cs hl a1 a2 a3 a4 a5 a6 a7 a8 a9 T x (i+1) m _ _ g2 W (hs.put c.aK)
  simp only[QY,aeQ,hq,aO,az,bh,g1,ai,aBu m c.aK W,hs c.aK,bS g3 W,ih,Af]
  rcases lQ (B4 c.aK) with hv|hv<;>rcases lQ (rh c.aK ol) with h2|h2<;>by_cases h3:c.aB=3<;>by_cases h4:c.aB=4<;>by_cases h5:c.aB=5<;>simp[hv,h2,h3,h4,h5,AN]
 |_,_,0,_,_,_,hm,_=>by simp at hm
def akm (n0:Nat) (ts:bC) (hl:O ts<=8) (hc:∀T∈ts,O T.L<=8):∀(x:bC) (i m:Nat) (mp:List (xN×Bool)) (ol:List xN),B' i ts=x->O x+1000<m->Ut mp ol->
  Mc (Wb n0) m ts (O ts:Int) (i:Int) mp=V (th ol x)
 | [],i,m+1,mp,ol,hd,hm,hs=>by
  let ⟨this,hq⟩:=eu hd
  simp only[Mc,aeO,Wb,hq,aR,ay,aw,th]
 |T::x,i,m+1,mp,ol,hd,hm,hs=>by
  let ⟨g1,g2,g3,hq⟩:=dN hd
  simp at hm;have hT:=hc T (bF g1);have ih:=akm n0 ts hl hc x (i+1) m _ _ g2 W (hs.put T.aK)
  have rk:=akn (aeP (Mc (Wb n0) m) m) T.L hT ts (O ts:Int) ↑i T.aK T.av T.av T.L (O T.L:Int) (jx mp T.aK I) T T.L 0 m [] [] rfl W (λx=>by simp[gB,rh])
  rw[show ((0:Nat):Int)=0 from rfl] at rk;simp only[Mc,aeO,hq,aO,az,bh,g1,ai,aBu m T.aK W,hs T.aK,rk,aeP,bS g3 W,ih,th,R9]
  have q1:A' (T.av<1)= !A' (1<=T.av):=by rw[<-decide_not];exact Pw.2 W
  have q2:A' ((O T.L:Int)<T.av)= !A' (T.av<=(O T.L:Int)):=by rw[<-decide_not];exact Pw.2 W
  rw[q1,q2];rcases lQ (B4 T.aK) with hv|hv<;>rcases lQ (rh T.aK ol) with h2|h2<;>rcases lQ (A' (1<=T.av)) with h3|h3<;>rcases lQ (A' (T.av<=(O T.L:Int))) with h4|h4<;>rcases lQ (Af [] T.L) with h5|h5<;>simp only[hv,h2,h3,h4,h5,cO,gb,ay,aw,az,jj,ig]
 |_,_,0,_,_,_,hm,_=>by simp at hm
def aRB (hl:O w.ag<=8) (hc:∀T∈w.ag,O T.L<=8) (hn:2000<g):F43 g w=V (th [] w.ag):=
 akm g w.ag hl hc w.ag 0 g [] [] rfl W (λx=>by simp[gB,rh])
def acP (k:ah->G Bool) (s:af) (hl:O s.ag<=8) (i:Nat) (hi:i<=O s.ag) (T:ah):∀(x:bC) (j m:Nat),B' j (C' i s.ag)=x->O x<m->j<=i->Ka k m (i:Int) (j:Int) s T=if rh T.aK (x.map (·.aK))=I then V U else k T
 | [],j,m+1,hd,hm,hj=>by
  have:O (C' i s.ag)<=j:=by simpa using hd
  rw[dv] at this;have hq:¬((j:Int)<(i:Int)):=by omega
  simp only[Ka,XC,hq,aR,ay,aw,wa,rh]
 |pu::x,j,m+1,hd,hm,hj=>by
  let ⟨g1,g2,g3⟩:=oY hd;rw[dv] at g3;have hq:(j:Int)<(i:Int):=by omega
  have hg:s.ag[j]? =V pu:=by rw[eO,ax W] at g1;exact g1
  have ih:=acP k s hl i hi T x (j+1) m g2 (by simp at hm;omega) W
  have hw:ba ((j:Int)+1)=((j+1:Nat):Int):=by rw[cR W W];rfl
  simp only[Ka,XC,hq,aO,az,bh,hg,ai,hw,ih,j2,rh];by_cases h:pu.aK=T.aK
  .simp[h]
  .have h':¬T.aK=pu.aK:=λe=>h e.symm
   simp[h,h']
 |_,_,0,_,hm,_=>by simp at hm
def acO (k:Int->Int->dr->Int->bW->bW->Int->Bool->ah->G Bool) (T:ah) (hl:O T.L<=8) (i:Nat) (c:bW) (hc:T.L[i]? =V c) (a1 a2:Int) (a3:dr) (a4:Int) (a5 a6:bW) (a7:Int) (a8:Bool):∀(x:dr) (j m:Nat),B' j (C' i T.L)=x->O x<m->j<=i->
  J9 k m (i:Int) (j:Int) a1 a2 a3 a4 a5 a6 a7 a8 T=if rh c.aK (x.map (·.aK))=I then V U else k a1 a2 a3 a4 a5 a6 a7 a8 T
 | [],j,m+1,hd,hm,hj=>by
  have:O (C' i T.L)<=j:=by simpa using hd
  have hi:=(bk.1 hc).1;rw[dv] at this;have hq:¬((j:Int)<(i:Int)):=by omega
  simp only[J9,XB,hq,aR,ay,aw,wa,rh]
 |pu::x,j,m+1,hd,hm,hj=>by
  let ⟨g1,g2,g3⟩:=oY hd;have hi:=(bk.1 hc).1;rw[dv] at g3;have hq:(j:Int)<(i:Int):=by omega
  have hg:T.L[j]? =V pu:=by rw[eO,ax W] at g1;exact g1
  have ih:=acO k T hl i c hc a1 a2 a3 a4 a5 a6 a7 a8 x (j+1) m g2 (by simp at hm;omega) W
  have hw:ba ((j:Int)+1)=((j+1:Nat):Int):=by rw[cR W W];rfl
  simp only[J9,XB,hq,aO,az,bh,hg,hc,ai,hw,ih,j2,rh];by_cases h:pu.aK=c.aK
  .simp[h]
  .have h':¬c.aK=pu.aK:=λe=>h e.symm
   simp[h,h']
 |_,_,0,_,hm,_=>by simp at hm
def acN (n0:Nat) (T:ah) (hl:O T.L<=8):∀(x:dr) (i m:Nat),B' i T.L=x->O x+200<m->Gu (Pe n0) m (O T.L:Int) (i:Int) T=V (Af ((C' i T.L).map (·.aK)) x)
 | [],i,m+1,hd,hm=>by
  let ⟨this,hq⟩:=eu hd
  simp only[Gu,Xz,Pe,hq,aR,ay,aw,Af]
 |c::x,i,m+1,hd,hm=>by
  let ⟨g1,g2,g3,hq⟩:=dN hd
  simp at hm;have ih:=acN n0 T hl x (i+1) m g2 W
  have jJ:=λb=>acO (XA (Gu (Pe n0) m) m) T hl i c g1 (O T.L:Int) ↑i T.L ↑i c c c.aB b (C' i T.L) 0 m rfl ap W
  rw[show ((0:Nat):Int)=0 from rfl] at jJ;rw[IN,g1] at ih;simp only[Er,ky,j2,wa] at ih;simp only[Gu,Xz,hq,aO,az,bh,g1,ai,aqI m c.aK W,aqH,jJ,XA,bS g3 W,ih,Af]
  rcases lQ (B4 c.aK) with hv|hv<;>rcases lQ (AN c.aB) with h3|h3<;>rcases lQ (rh c.aK ((C' i T.L).map (·.aK))) with h2|h2<;>simp only[hv,h2,h3,cO,gb,ay,aw,az,jj,ig]
 |_,_,0,_,hm=>by simp at hm
def aLu (hl:O w.ag<=8) (i:Nat) (T:ah) (hT:w.ag[i]? =V T) (hc:O T.L<=8) (hn:1000<g):Tv g w (i:Int)=V (R9 ((C' i w.ag).map (·.aK)) T):=by
 have hi:=(bk.1 hT).1;unfold Tv amx R9;simp only[bh,hT,ai,aqI g T.aK W]
 rcases lQ (B4 T.aK) with asH|asH
 rotate_left
 .simp[asH]
 .simp only[asH,cO,ay,aw,jj];have h0:=acP (Xy g) w hl i W T (C' i w.ag) 0 g rfl ap W
  rw[show ((0:Nat):Int)=0 from rfl] at h0;have h1:=acN g T hc T.L 0 g rfl W
  rw[show ((0:Nat):Int)=0 from rfl,zn,wa] at h1;simp only[h0,Xy,h1];by_cases e0:O T.L=0
  .have e1:((O T.L:Int)==0)=I:=by simp[e0]
   by_cases h3:1<=T.av
   .have:¬T.av<=(O T.L:Int):=by omega
    simp only[e1,az,this,aR,ig,yP]
   .simp only[e1,az,h3,aR,ig,yP]
  .have e1:((O T.L:Int)==0)=U:=by rw[asz];omega
   simp only[e1,ay,aw];by_cases h3:T.av<1
   .have:¬1<=T.av:=by omega
    simp[h3,this]
   .have Of:1<=T.av:=by omega
    by_cases h4:(O T.L:Int)<T.av
    .have:¬T.av<=(O T.L:Int):=by omega
     simp[h3,Of,h4,this]
    .have h4':T.av<=(O T.L:Int):=by omega
     rcases lQ (rh T.aK ((C' i w.ag).map (·.aK))) with h2|h2<;>simp only[h2,h3,Of,h4,h4',aO,aR,cO,gb,ay,aw,az,jj,ig]
def ajB:∀{cs:dr} {ol:List xN},Af ol cs=I->mI (cs.map (·.aB))=I
 | [],_,_=>rfl
 |c::cs,ol,h=>by
  simp only[Af,bI] at h;simp only[j2,mI,rZ,bI];exact ⟨h.2.2.1,ajB h.2.2.2⟩
def aJq {T:ah} (hc:O T.L<=8) (h:R9 ol T=I):fP T:=by
 simp only[R9,bI,lB] at h;exact ⟨h.2.2.1,h.2.2.2.1,hc,ajB h.2.2.2.2⟩
def aiI:∀{ts:bC} {ol:List xN},(∀T∈ts,O T.L<=8)->th ol ts=I->∀T∈ts,fP T
 | [],_,_,_,T,hT=>by simp at hT
 |pu::ts,ol,hc,h,T,hT=>by
  simp only[th,bI] at h;rcases cU.1 hT with rfl|hT
  .exact aJq (hc _ am) h.1
  .exact aiI (λT hT=>hc T (by simp[hT])) h.2 T hT
end Go.Proofs.YtbnkhmoelnfjoaaGreat
end
