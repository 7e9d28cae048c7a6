/- Part. -/
import Derived.Test.YtbnkhmoelnfjoaaGreatP7
import Derived.KernelRfl
set_option linter.all false
set_option maxRecDepth 100000
noncomputable section
namespace Go.Proofs.YtbnkhmoelnfjoaaGreat
open Go.bQ
def x135:=fx E0 Tryz.f135 [] []
def A135:=Ax x135 eB cu
def aft (n:Nat) (eu params1:aH) (p2:ag):Option Int:=
 (adO n eu).bind λx4=>if !x4 then
 some 1
 else
 (adO n params1).bind λx9=>if !x9 then
 some 1
 else
 (Vu n p2 0).bind λja=>if decide (24<ja) then
 some 2
 else
 (KM n p2 8).bind λjz=>if jz then
 some 2
 else
 (KL n eu params1 p2).bind λiG=>if !iG then
 some 50
 else
 some 0
def aGY (n:Nat):K3 (A135 []) By (aft n):=λeu params1 p2 r h=>be h λx4 kY h=>let zA:SE:=[na (axG n kY)];ie h (λc0 h=>bG h zA [aw c0]) (λc0 h=>be h λx9 kD h=>let zB:SE:=dk zA [aw c0,jK (axG n kD)];ie h (λc1 h=>bG h zB [aw c1]) (λc1 h=>be h λja lC h=>let zC:SE:=dk zB [aw c1,jK (axF n lC)];ie h (λc2 h=>bG h zC [aw c2]) (λc2 h=>be h λjz nT h=>let zD:SE:=dk zC [aw c2,jK (axE n nT)];ie h (λc3 bO=>by subst c3;exact (rr bO zD)) (λc3 bO=>by subst c3;exact (be bO λiG oS bO=>let zE:SE:=dk zD [qS (axD n oS)];ie bO (λc4 bO=>bG bO zE [aw c4]) (λc4 bO=>bG bO zE [aw c4]))))))
def aef:=aft
def axP (n:Nat):K3 (Cx E0 135 eB cu) By (aef n):=λ_ _ _ _ h=>ca (X:=x135) (aGY n h)
def x92:=fx E0 Tryz.f92 [0] [0]
def A92:=Ax x92 Pa L9
def anv (n:Nat) (c0:aQ) (de params2:aH) (kG:Int):Option (ag×aQ):=
 (C5 n c0 de params2 kG).bind λx6=>(aef n de params2 x6.1).bind λeT=>if eT==2 then
 (C5 n x6.2 de params2 1).bind λjz=>some (jz.1,jz.2)
 else
 some (x6.1,x6.2)
def aJL (n:Nat):K4 (A92 []) LU (anv n):=λc0 de params2 kG r h=>be h λx6 xx h=>be h λeT jE h=>let zA:SE:=[(5,dh (alY n xx) [(0,0)]),vP (axP n jE)];ie h (λdF h=>be h λjz nT h=>bG h zA [aw dF,(3,dh (alY n nT) [(0,0)])]) (λdF h=>bG h zA [aw dF])
def F92:=anv
def ev92 (n:Nat):K4 (Cx E0 92 Pa L9) LU (F92 n):=λ_ _ _ _ _ h=>ca (X:=x92) (aJL n h)
def awq (r:(af×aQ)):AV:=.agg (eP r.1)
def apb (r:(af×aQ)):List (Nat×Bx):= (uR (gV r.2))
def x38:=fx E0 Tryz.f38 [0] [0]
def A38:=Ax x38 awq apb
def aDf (b0:aQ) (b2 b5:af) (eY:bl):LS:=⟨[(0,.loc 0 0),(2,.loc 2 0),(5,.loc 5 0)],[(0,tO (gV b0)),(2,aap),(5,Uh b5 eY.length),(32,.rows false 44 5 (dy eY))]⟩
def aon (n3:Int) (b0:aQ) (b2 b5:af) (eY:bl):LS:=⟨[(0,.loc 0 0),(2,.loc 2 0),(3,aN n3),(5,.loc 5 0)],[(0,tO (gV b0)),(2,aap),(5,Uh b5 eY.length),(32,.rows false 44 5 (dy eY))]⟩
def aDe (n3 id4:Int) (b0:aQ) (b2:af):LS:=⟨[(0,.loc 0 0),(2,.loc 2 0),(3,aN n3),(4,aN id4)],[(0,tO (gV b0)),(2,aap)]⟩
def Ie (n:Nat) (b0:aQ) (b2 b5:af) (eY:bl):Option (af×aQ):=
 (KK n b0 3).bind λx2=>if x2.1 then
 (F50 n (af.mk b5.av eY) 1).bind λx8=>(F92 n x2.2 x8 [] 1).bind λeA=>(fE eY.length 1).bind λeT=>(eY[0+eT]?).bind λgA=>(setAt eY (0+eT) (ah.mk gA.ar gA.ae gA.aP gA.ak [eA.1])).bind λz18=>some ((af.mk b5.av z18),eA.2)
 else
 some ((af.mk b5.av eY),x2.2)
def amB (n:Nat):K4 (A38 (cZ 1023)) aDf (Ie n):=λb0 b2 b5 eY r h=>be h λx2 cW h=>ie h (λdF h=>be h λx8 ss h=>be h λeA mH h=>be h λeT jE h=>be h λgA kZ h=>be h λz18 JO h=>rr h [(1,dh (cb (uZ n cW) dF) [(0,0)]),(4,dh (cd (e:=3) (z:=true) (Q:=nL x8) (bP.lend (m:=.same) (k:=700000) (z:=false) (e:=44) (s:=5) (Q:=dy eY) (n:=eY.length) (xs:= [.agg [aas b5,.ms 700000 5 0 eY.length],.int .i64 1]) (ev50 n ss) (by kernel_rfl) (bI.len eY) (by kernel_rfl) (by kernel_rfl) (R3.xl (λ_=>by kernel_rfl) x8)) (R3.len x8)) [(32,700000)]),(0,.call (bP.L (ev92 n mH)) [.one .same,.one (.sl 0 0),.one (.sl 3 1)] [(0,0)] []),(0,.laid (bA (Bx.rows false 107 13) (cT.map [eA.1]).symm)),(0,dO jE),(1,bI.Ck 4 kZ),(0,cT.gx 82 [eA.1]),(0,bI.clo 32 4 (.slice 107 13 (fH [eA.1])) .undef kZ JO),(2,.seq 77 (bA (AV.ms 32 5 0) (ep JO))),(0,.seq 79 (bA (λn_=>(AV.agg [aas b5,.ms 32 5 0 n_])) (ep JO))),(0,.seq 85 (bA (λn_=>(AV.agg [aas b5,.ms 32 5 0 n_])) (ep JO))),(0,.beq 2 (bA (Uh b5) (ep JO))),(0,.beq 5 (bA (Uh b5) (ep JO))),(0,bI.gx 32 z18)]) (λdF h=>rr h [(1,dh (cb (uZ n cW) dF) [(0,0)]),(2,bI.gx 32 eY)])
def Ec (n:Nat) (n3:Int) (b0:aQ) (b2 b5:af) (eY:bl):Option (af×aQ):=
 if decide (3<n3) then
 (KK n b0 3).bind λx5=>if x5.1 then
 (fE eY.length 3).bind λeT=>(eY[0+eT]?).bind λgA=>(setAt eY (0+eT) (ah.mk gA.ar gA.ae gA.aP [(bf.mk [0] 1)] gA.aD)).bind λwF=>Ie n x5.2 (af.mk 0 []) (af.mk b5.av wF) wF
 else
 Ie n x5.2 (af.mk 0 []) (af.mk b5.av eY) eY
 else
 Ie n b0 (af.mk 0 []) (af.mk b5.av eY) eY
def amA (n:Nat):K5 (A38 (cZ 511)) aon (Ec n):=λn3 b0 b2 b5 eY r h=>ie h (λdF h=>be h λx5 n9 h=>ie h (λc1 h=>be h λeT jE h=>be h λgA kZ h=>be h λwF pF h=>ra (amB n h) [aU dF,(2,dh (cb (uZ n n9) c1) [(0,0)]),(5,R3.gx 69 [0]),(1,dO jE),(1,dM.gx 71 [(bf.mk [0] 1)]),(0,bI.AB 3 [xj [(bf.mk [0] 1)]] kZ pF),(0,.beq 5 (bA (Uh b5) (ep pF)))]) (λc1 h=>ra (amB n h) [aU dF,(2,dh (cb (uZ n n9) c1) [(0,0)])])) (λdF h=>ra (amB n h) [aU dF])
def Ib (n:Nat) (n3:Int) (b0:aQ) (b2 b5:af) (eY:bl):Option (af×aQ):=
 if decide (2<n3) then
 (KK n b0 3).bind λx5=>if x5.1 then
 (fE eY.length 2).bind λeT=>(eY[0+eT]?).bind λgA=>(setAt eY (0+eT) (ah.mk gA.ar gA.ae gA.aP [(bf.mk [0] 0)] gA.aD)).bind λwF=>Ec n n3 x5.2 (af.mk 0 []) (af.mk b5.av wF) wF
 else
 Ec n n3 x5.2 (af.mk 0 []) (af.mk b5.av eY) eY
 else
 Ec n n3 b0 (af.mk 0 []) (af.mk b5.av eY) eY
def ayj (n:Nat):K5 (A38 (cZ 255)) aon (Ib n):=λn3 b0 b2 b5 eY r h=>ie h (λdF h=>be h λx5 n9 h=>ie h (λc1 h=>be h λeT jE h=>be h λgA kZ h=>be h λwF pF h=>ra (amA n h) [aU dF,(2,dh (cb (uZ n n9) c1) [(0,0)]),(5,R3.gx 56 [0]),(1,dO jE),(1,dM.gx 58 [(bf.mk [0] 0)]),(0,bI.AB 3 [xj [(bf.mk [0] 0)]] kZ pF),(0,.beq 5 (bA (Uh b5) (ep pF)))]) (λc1 h=>ra (amA n h) [aU dF,(2,dh (cb (uZ n n9) c1) [(0,0)])])) (λdF h=>ra (amA n h) [aU dF])
def QS (n:Nat) (n3 id4:Int) (b0:aQ) (b2:af):Option (af×aQ):=
 (sE n b0 3).bind λx2=>(C3 n (ByteArray.mk #[105,100]) 4).bind λx4=>(C3 n (ByteArray.mk #[111,119,110,101,114]) 4).bind λx6=>(C3 n (ByteArray.mk #[105,100]) id4).bind λdn=>(C3 n (ByteArray.mk #[112,114,111,106,101,99,116]) 4).bind λeT=>(C3 n (ByteArray.mk #[116,105,116,108,101]) 5).bind λfq=>(C3 n (ByteArray.mk #[100,111,110,101]) 3).bind λjA=>(C3 n (ByteArray.mk #[112,114,111,106,101,99,116]) 4).bind λuK=>(C3 n (ByteArray.mk #[112,101,114,115,111,110]) 4).bind λkQ=>(C3 n (ByteArray.mk #[116,97,115,107]) id4).bind λpB=>(wo 4 n3).bind λsi=>(KK n x2.2 2).bind λEW=>if EW.1 then
 (fE si 1).bind λx51=>([(ah.mk (ByteArray.mk #[112,114,111,106,101,99,116,115]) [x4,x6] 1 [] []),(ah.mk (ByteArray.mk #[116,97,115,107,115]) [dn,eT,fq,jA] 1 [] []),(ah.mk (ByteArray.mk #[109,101,109,98,101,114,115]) [uK,kQ] 2 [] []),(ah.mk (ByteArray.mk #[97,114,99,104,105,118,101,100]) [pB] 1 [] [])][0+x51]?).bind λx54=>(setAt [(ah.mk (ByteArray.mk #[112,114,111,106,101,99,116,115]) [x4,x6] 1 [] []),(ah.mk (ByteArray.mk #[116,97,115,107,115]) [dn,eT,fq,jA] 1 [] []),(ah.mk (ByteArray.mk #[109,101,109,98,101,114,115]) [uK,kQ] 2 [] []),(ah.mk (ByteArray.mk #[97,114,99,104,105,118,101,100]) [pB] 1 [] [])] (0+x51) (ah.mk x54.ar x54.ae x54.aP [(bf.mk [1] 0)] x54.aD)).bind λz55=>Ib n n3 EW.2 (af.mk 0 []) (af.mk x2.1 (z55.take si)) (z55.take si)
 else
 Ib n n3 EW.2 (af.mk 0 []) (af.mk x2.1 ([(ah.mk (ByteArray.mk #[112,114,111,106,101,99,116,115]) [x4,x6] 1 [] []),(ah.mk (ByteArray.mk #[116,97,115,107,115]) [dn,eT,fq,jA] 1 [] []),(ah.mk (ByteArray.mk #[109,101,109,98,101,114,115]) [uK,kQ] 2 [] []),(ah.mk (ByteArray.mk #[97,114,99,104,105,118,101,100]) [pB] 1 [] [])].take si)) ([(ah.mk (ByteArray.mk #[112,114,111,106,101,99,116,115]) [x4,x6] 1 [] []),(ah.mk (ByteArray.mk #[116,97,115,107,115]) [dn,eT,fq,jA] 1 [] []),(ah.mk (ByteArray.mk #[109,101,109,98,101,114,115]) [uK,kQ] 2 [] []),(ah.mk (ByteArray.mk #[97,114,99,104,105,118,101,100]) [pB] 1 [] [])].take si)
def ayi (n:Nat):K4 (A38 [1,1,1,1]) aDe (QS n):=λn3 id4 b0 b2 r h=>be h λx2 cW h=>be h λx4 kY h=>be h λx6 xx h=>be h λdn gh h=>be h λeT jE h=>be h λfq mU h=>be h λjA mr h=>be h λuK Cj h=>be h λkQ Hl h=>be h λpB uW h=>be h λsi Hi h=>be h λEW UI h=>let zA:SE:=[(1,dh (pG n cW) [(0,0)]),vQ (Cu n kY),vQ (Cu n xx),na (Cu n gh),vQ (Cu n jE),vQ (Cu n mU),vQ (Cu n mr),jK (Cu n Cj),vQ (Cu n Hl),na (Cu n uW),(2,dv.gx 15 [x4,x6]),(0,.norm [(16,.agg [.same,.same,.same,.sl 121 2,.sl 107 13])] []),(0,dv.gx 22 [dn,eT,fq,jA]),(0,.norm [(23,.agg [.same,.same,.same,.sl 121 2,.sl 107 13])] []),(0,dv.gx 26 [uK,kQ]),(0,.norm [(27,.agg [.same,.same,.same,.sl 121 2,.sl 107 13])] []),(0,dv.gx 30 [pB]),(0,.norm [(31,.agg [.same,.same,.same,.sl 121 2,.sl 107 13])] []),(7,bI.wo (xs:= [(ah.mk (ByteArray.mk #[112,114,111,106,101,99,116,115]) [x4,x6] 1 [] []),(ah.mk (ByteArray.mk #[116,97,115,107,115]) [dn,eT,fq,jA] 1 [] []),(ah.mk (ByteArray.mk #[109,101,109,98,101,114,115]) [uK,kQ] 2 [] []),(ah.mk (ByteArray.mk #[97,114,99,104,105,118,101,100]) [pB] 1 [] [])]) Hi (vI rfl))];ie h (λdF h=>be h λx51 hx51 h=>be h λx54 hx54 h=>be h λz55 hz55 h=>cL (ayj n h) zA [(3,dh (cb (uZ n UI) dF) [(0,0)]),(4,R3.gx 43 [1]),(1,dO hx51),(1,dM.gx 45 [(bf.mk [1] 0)]),(0,bI.AB 3 [xj [(bf.mk [1] 0)]] hx54 hz55),(0,.shr 32 (bI.take z55 si)),(0,.beq 5 (bA (λn_=>(Bx.flat 25 [aN x2.1,.ms 32 5 0 n_])) ((IY (xs:=z55) (iL (iL (Ad Hi).2 (vI rfl)) (vI (ep hz55)))).symm)))]) (λdF h=>cL (ayj n h) zA [(3,dh (cb (uZ n UI) dF) [(0,0)]),(0,.shr 32 (bI.take [(ah.mk (ByteArray.mk #[112,114,111,106,101,99,116,115]) [x4,x6] 1 [] []),(ah.mk (ByteArray.mk #[116,97,115,107,115]) [dn,eT,fq,jA] 1 [] []),(ah.mk (ByteArray.mk #[109,101,109,98,101,114,115]) [uK,kQ] 2 [] []),(ah.mk (ByteArray.mk #[97,114,99,104,105,118,101,100]) [pB] 1 [] [])] si)),(0,.beq 5 (bA (λn_=>(Bx.flat 25 [aN x2.1,.ms 32 5 0 n_])) ((IY (xs:= [(ah.mk (ByteArray.mk #[112,114,111,106,101,99,116,115]) [x4,x6] 1 [] []),(ah.mk (ByteArray.mk #[116,97,115,107,115]) [dn,eT,fq,jA] 1 [] []),(ah.mk (ByteArray.mk #[109,101,109,98,101,114,115]) [uK,kQ] 2 [] []),(ah.mk (ByteArray.mk #[97,114,99,104,105,118,101,100]) [pB] 1 [] [])]) (iL (Ad Hi).2 (vI rfl))).symm)))])
def anI (n:Nat) (c0:aQ):Option (af×aQ):=
 (sE n c0 3).bind λx3=>(KK n x3.2 5).bind λx9=>if x9.1 then
 QS n (bh (2+x3.1)) 5 x9.2 (af.mk 0 [])
 else
 QS n (bh (2+x3.1)) 4 x9.2 (af.mk 0 [])
def aKs (n:Nat):K1 (A38 []) wK (anI n):=λc0 r h=>be h λx3 fX h=>be h λx9 kD h=>let zA:SE:=[(2,dh (pG n fX) [(0,0)])];ie h (λdF h=>cL (ayi n h) zA [(4,dh (cb (uZ n kD) dF) [(0,0)])]) (λdF h=>cL (ayi n h) zA [(4,dh (cb (uZ n kD) dF) [(0,0)])])
def F38:=anI
def ev38 (n:Nat):K1 (Cx E0 38 awq apb) wK (F38 n):=λ_ _ h=>ca (X:=x38) (aKs n h)
def x174:=fx E0 Tryz.f174 [] []
def anQ:=Ax x174 dq cu
def aze (s0:ByteArray) (i3:Int) (t49:Bool):LS:=⟨[(0,.str s0),(3,aN i3),(49,.bool t49)],[]⟩
def azd (s0:ByteArray) (i3:Int):LS:=⟨[(0,.str s0),(3,aN i3)],[]⟩
def azc:LS:=⟨[],[]⟩
def LM (s0:ByteArray):LS:=⟨[(0,.str s0)],[]⟩
def xY (aR:ByteArray->Int->Option Bool) (n:Nat) (s0:ByteArray) (i3:Int) (t49:Bool):Option Bool:=
 if t49 then
 some false
 else
 aR s0 (bh (i3+1))
def O2:=K2 (anQ [0,1,0,1,1]) azd
def CH {aR} (bK:O2 aR) (n:Nat):K3 (anQ (cZ 3659)) aze (xY aR n):=λs0 i3 t49 r h=>ie h (λc0 bO=>by subst c0;exact (rr bO [])) (λc0 bO=>by subst c0;exact (ra (bK bO) []))
def Ri (bR:Option Bool) (back:ByteArray->Int->Option Bool) (n:Nat) (s0:ByteArray) (i3:Int):Option Bool:=
 if decide (i3<(s0.size:Int)) then
 (Hb s0 i3).bind λx7=>if decide ((x7.toNat:Int)<97) then
 if decide ((x7.toNat:Int)<48) then
 xY back n s0 i3 ((x7.toNat:Int) !=95)
 else
 if decide (57<(x7.toNat:Int)) then
 xY back n s0 i3 ((x7.toNat:Int) !=95)
 else
 xY back n s0 i3 false
 else
 if decide (122<(x7.toNat:Int)) then
 if decide ((x7.toNat:Int)<48) then
 xY back n s0 i3 ((x7.toNat:Int) !=95)
 else
 if decide (57<(x7.toNat:Int)) then
 xY back n s0 i3 ((x7.toNat:Int) !=95)
 else
 xY back n s0 i3 false
 else
 xY back n s0 i3 false
 else
 bR
def ZR:=K0 (anQ [1,1,1]) azc
def aFj {bR} (dA:ZR bR) {back} (aS:O2 back) (n:Nat):O2 (Ri bR back n):=λs0 i3 r h=>ie h (λc0 h=>be h λx7 kX h=>let zA:SE:=[bw c0,(2,.chr (Dv kX))];ie h (λc1 h=>ie h (λc2 h=>cL (CH aS n h) zA [bq c1,bT c2]) (λc2 h=>ie h (λc3 h=>cL (CH aS n h) zA [bq c1,bT c2,bq c3]) (λc3 h=>cL (CH aS n h) zA [bq c1,bT c2,bq c3]))) (λc1 h=>let zB:SE:=dk zA [bq c1];ie h (λc2 h=>ie h (λc3 h=>cL (CH aS n h) zB [bq c2,bw c3]) (λc3 h=>ie h (λc4 h=>cL (CH aS n h) zB [bq c2,bw c3,bq c4]) (λc4 h=>cL (CH aS n h) zB [bq c2,bw c3,bq c4]))) (λc2 h=>cL (CH aS n h) zB [bq c2]))) (λc0 h=>ra (dA h) [bw c0])
def Ai (bR:Option Bool):Nat->ByteArray->Int->Option Bool
 |0=>λ_ _=>none
 |n+1=>Ri bR (Ai bR n) n
def apQ {bR} (dA:ZR bR):∀n:Nat,O2 (Ai bR n)
 |0=>λ_ _ _ h=>nz h
 |n+1=>aFj dA (apQ dA n) n
def GC (n:Nat):Option Bool:=
 some true
def aFi (n:Nat):ZR (GC n):=λr h=>rr h []
def aeK (n:Nat) (s0:ByteArray):Option Bool:=
 if (s0.size:Int)==0 then
 some false
 else
 if decide (32<(s0.size:Int)) then
 some false
 else
 (Hb s0 0).bind λly=>if decide ((ly.toNat:Int)<97) then
 some false
 else
 (Hb s0 0).bind λov=>if decide (122<(ov.toNat:Int)) then
 some false
 else
 Ai (GC n) n s0 0
def aFh (n:Nat):K1 (anQ []) LM (aeK n):=λs0 r h=>ie h (λc0 h=>rr h [bw c0]) (λc0 h=>ie h (λc1 h=>rr h [bw c0,bw c1]) (λc1 h=>be h λly nU h=>let zA:SE:=[bw c0,bw c1,(3,.chr (Dv nU))];ie h (λc2 h=>bG h zA [aw c2]) (λc2 h=>be h λov wh h=>let zB:SE:=dk zA [aw c2,(3,.chr (Dv wh))];ie h (λc3 h=>bG h zB [aw c3]) (λc3 h=>cL (apQ (aFi n) n h) zB [aw c3]))))
def adN:=aeK
def axC (n:Nat):K1 (Cx E0 174 dq cu) LM (adN n):=λ_ _ h=>ca (X:=x174) (aFh n h)
def x138:=fx E0 Tryz.f138 [] []
def Oz:=Ax x138 dq cu
def aAd (i1 k6:Int) (b2:af) (b5:ah):LS:=⟨[(1,aN i1),(2,.loc 2 0),(5,.loc 5 0),(6,aN k6)],[(2,jD (eP b2)),(5,sR (ji b5))]⟩
def aAc (c7 k8 t53 t54:Int) (t67:cG) (t68:Int) (t69 t70:cO) (t71:Int) (t72:Bool) (b5:ah):LS:=⟨[(5,.loc 5 0),(7,aN c7),(8,aN k8),(53,aN t53),(54,aN t54),(66,.loc 5 1),(67,GY t67),(68,aN t68),(69,.iw (HE t69)),(70,.iw [aN t70.aC]),(71,aN t71),(72,.bool t72),(73,rL)],[(5,sR (ji b5))]⟩
def aAb (t53 t54:Int) (t67:cG) (t68:Int) (t69 t70:cO) (t71:Int) (t72:Bool) (b5:ah):LS:=⟨[(5,.loc 5 0),(53,aN t53),(54,aN t54),(66,.loc 5 1),(67,GY t67),(68,aN t68),(69,.iw (HE t69)),(70,.iw [aN t70.aC]),(71,aN t71),(72,.bool t72),(73,rL)],[(5,sR (ji b5))]⟩
def aAa (t53 t54:Int) (b5:ah):LS:=⟨[(5,.loc 5 0),(53,aN t53),(54,aN t54)],[(5,sR (ji b5))]⟩
def azZ:LS:=⟨[],[]⟩
def azY (b5:ah):LS:=⟨[(5,.loc 5 0)],[(5,sR (ji b5))]⟩
def LR (s0:af) (i1:Int):LS:=⟨[(0,.agg (eP s0)),(1,aN i1)],[]⟩
def R7 (dZ:ah->Option Bool) (back:Int->Int->af->ah->Option Bool) (n:Nat) (i1 k6:Int) (b2:af) (b5:ah):Option Bool:=
 if decide (k6<i1) then
 (idx b2.ai k6).bind λx7=>if decide (x7.ar=b5.ar) then
 some false
 else
 back i1 (bh (k6+1)) b2 b5
 else
 dZ b5
def ZQ:=K1 (Oz [1,1,1,1]) azY
def ZP:=K4 (Oz (cZ 87)) aAd
def aGR {dZ} (gH:ZQ dZ) {back} (aS:ZP back) (n:Nat):ZP (R7 dZ back n):=λi1 k6 b2 b5 r h=>ie h (λc0 h=>be h λx7 kX h=>ie h (λc1 h=>rr h [bq c0,(3,bI.idx kX),bT c1]) (λc1 h=>ra (aS h) [bq c0,(3,bI.idx kX),bT c1])) (λc0 h=>ra (gH h) [bq c0])
def Gm (dZ:ah->Option Bool):Nat->Int->Int->af->ah->Option Bool
 |0=>λ_ _ _ _=>none
 |n+1=>R7 dZ (Gm dZ n) n
def aqt {dZ} (gH:ZQ dZ):∀n:Nat,ZP (Gm dZ n)
 |0=>λ_ _ _ _ _ h=>nz h
 |n+1=>aGR gH (aqt gH n) n
def R6 (bR:Wf7) (back:Int->Int->Int->Int->cG->Int->cO->cO->Int->Bool->ah->Option Bool) (n:Nat) (c7 k8 t53 t54:Int) (t67:cG) (t68:Int) (t69 t70:cO) (t71:Int) (t72:Bool) (b5:ah):Option Bool:=
 if decide (k8<c7) then
 (idx b5.ae k8).bind λx7=>(idx b5.ae c7).bind λja=>if decide (x7.ar=ja.ar) then
 some false
 else
 back c7 (bh (k8+1)) t53 t54 t67 t68 t69 t70 t71 t72 b5
 else
 bR t53 t54 t67 t68 t69 t70 t71 t72 b5
def ZO:=K9 (Oz (cZ 3887)) aAb
def ZN:=K11 (Oz (cZ 95023)) aAc
def aGQ {bR} (dA:ZO bR) {back} (aS:ZN back) (n:Nat):ZN (R6 bR back n):=λc7 k8 t53 t54 t67 t68 t69 t70 t71 t72 b5 r h=>ie h (λc0 h=>be h λx7 kX h=>be h λja lC h=>let zA:SE:=[bq c0,(3,dv.idx kX),(5,dv.idx lC)];ie h (λc1 h=>bG h zA [bq c1]) (λc1 h=>cL (aS h) zA [bq c1])) (λc0 h=>ra (dA h) [bq c0])
def Gl (bR:Wf7):Nat->Int->Int->Int->Int->cG->Int->cO->cO->Int->Bool->ah->Option Bool
 |0=>λ_ _ _ _ _ _ _ _ _ _ _=>none
 |n+1=>R6 bR (Gl bR n) n
def aqs {bR} (dA:ZO bR):∀n:Nat,ZN (Gl bR n)
 |0=>λ_ _ _ _ _ _ _ _ _ _ _ _ h=>nz h
 |n+1=>aGQ dA (aqs dA n) n
def R4 (cA:Int->Int->ah->Option Bool) (n:Nat) (t53 t54:Int) (t67:cG) (t68:Int) (t69 t70:cO) (t71:Int) (t72:Bool) (b5:ah):Option Bool:=
 cA t53 (bh (t54+1)) b5
def O1:=K3 (Oz (cZ 175)) aAa
def aGP {cA} (dX:O1 cA) (n:Nat):ZO (R4 cA n):=λt53 t54 t67 t68 t69 t70 t71 t72 b5 r h=>ra (dX h) []
def R2 (cV:Option Bool) (back:Int->Int->ah->Option Bool) (n:Nat) (t53 t54:Int) (b5:ah):Option Bool:=
 if decide (t54<t53) then
 (idx b5.ae t54).bind λx7=>(adN n x7.ar).bind λdn=>if !dn then
 some false
 else
 (idx b5.ae t54).bind λov=>(adM n ov.aC).bind λpX=>if !pX then
 some false
 else
 Gl (R4 back n) n t54 0 t53 t54 b5.ae t54 ov ov ov.aC pX b5
 else
 cV
def ZM:=K0 (Oz [1,1,1,1,1]) azZ
def aGO {cV} (eZ:ZM cV) {back} (aS:O1 back) (n:Nat):O1 (R2 cV back n):=λt53 t54 b5 r h=>ie h (λc0 h=>be h λx7 kX h=>be h λdn gh h=>let zA:SE:=[aw c0,(5,dv.idx kX),jK (axC n gh)];ie h (λc1 h=>bG h zA [aw c1]) (λc1 h=>be h λov wh h=>be h λpX sX h=>let zB:SE:=dk zA [aw c1,(4,dv.idx wh),jK (axB n sX)];ie h (λc2 h=>bG h zB [aw c2]) (λc2 h=>cL (aqs (aGP aS n) n h) zB [aw c2]))) (λc0 h=>ra (eZ h) [aw c0])
def CZ (cV:Option Bool):Nat->Int->Int->ah->Option Bool
 |0=>λ_ _ _=>none
 |n+1=>R2 cV (CZ cV n) n
def aqr {cV} (eZ:ZM cV):∀n:Nat,O1 (CZ cV n)
 |0=>λ_ _ _ _ h=>nz h
 |n+1=>aGO eZ (aqr eZ n) n
def Lc (n:Nat):Option Bool:=
 some true
def aGN (n:Nat):ZM (Lc n):=λr h=>rr h []
def R1 (n:Nat) (b5:ah):Option Bool:=
 CZ (Lc n) n (b5.ae.length:Int) 0 b5
def aGM (n:Nat):ZQ (R1 n):=λb5 r h=>ra (aqr (aGN n) n h) [(2,dv.cw b5.ae)]
def afq (n:Nat) (s0:af) (i1:Int):Option Bool:=
 (idx s0.ai i1).bind λx6=>(adN n x6.ar).bind λeT=>if !eT then
 some false
 else
 if (x6.ae.length:Int)==0 then
 some false
 else
 if decide (x6.aP<1) then
 some false
 else
 if decide ((x6.ae.length:Int)<x6.aP) then
 some false
 else
 Gm (R1 n) n i1 0 s0 x6
def aGL (n:Nat):K2 (Oz []) LR (afq n):=λs0 i1 r h=>be h λx6 xx h=>be h λeT jE h=>let zA:SE:=[(5,bI.idx xx),vP (axC n jE)];ie h (λc0 h=>bG h zA [aw c0]) (λc0 h=>let zB:SE:=dk zA [aw c0,(3,dv.cw x6.ae)];ie h (λc1 h=>bG h zB [aw c1]) (λc1 h=>ie h (λc2 h=>bG h zB [aw c1,bT c2]) (λc2 h=>let zC:SE:=dk zB [aw c1,bT c2,(6,dv.cw x6.ae)];ie h (λc3 h=>bG h zC [aw c3]) (λc3 h=>cL (aqt (aGM n) n h) zC [aw c3]))))
def ani:=afq
def aIW (n:Nat):K2 (Cx E0 138 dq cu) LR (ani n):=λ_ _ _ h=>ca (X:=x138) (aGL n h)
def x139:=fx E0 Tryz.f139 [] []
def afK:=Ax x139 dq cu
def azX (t16:cf) (t17 t18 t27:Int) (t29:bl) (t30:Int) (t35:aH) (t36:Int) (t38:bl) (t40:Int) (t41 t42:ah) (t43:Int) (t47:aH) (t48 t49:Int) (b2:af) (b5:ah) (b7:bf):LS:=⟨[(2,.loc 2 0),(5,.loc 5 0),(7,.loc 7 0),(16,xj t16),(17,aN t17),(18,aN t18),(26,.loc 7 1),(27,aN t27),(28,.loc 2 1),(29,sS t29),(30,aN t30),(31,rL),(34,.loc 7 0),(35,iR t35),(36,aN t36),(37,.loc 2 1),(38,sS t38),(39,.loc 7 1),(40,aN t40),(41,.iw (ji t41)),(42,.iw [tN t42,aar t42,aat t42]),(43,aN t43),(44,rL),(47,iR t47),(48,aN t48),(49,aN t49)],[(2,jD (eP b2)),(5,sR (ji b5)),(7,.flat 121 (Cw b7))]⟩
def azW (t16:cf) (t17 t18 t27:Int) (t29:bl) (t30:Int) (t35:aH) (t36:Int) (t38:bl) (t40:Int) (t41 t42:ah) (t43:Int) (b2:af) (b5:ah) (b7:bf):LS:=⟨[(2,.loc 2 0),(5,.loc 5 0),(16,xj t16),(17,aN t17),(18,aN t18),(26,.loc 7 1),(27,aN t27),(28,.loc 2 1),(29,sS t29),(30,aN t30),(31,rL),(34,.loc 7 0),(35,iR t35),(36,aN t36),(37,.loc 2 1),(38,sS t38),(39,.loc 7 1),(40,aN t40),(41,.iw (ji t41)),(42,.iw [tN t42,aar t42,aat t42]),(43,aN t43),(44,rL)],[(2,jD (eP b2)),(5,sR (ji b5)),(7,.flat 121 (Cw b7))]⟩
def azV (t16:cf) (t17 t18:Int) (b2:af) (b5:ah):LS:=⟨[(2,.loc 2 0),(5,.loc 5 0),(16,xj t16),(17,aN t17),(18,aN t18)],[(2,jD (eP b2)),(5,sR (ji b5))]⟩
def azU:LS:=⟨[],[]⟩
def RZ (aR:Wf8) (back:cf->Int->Int->Int->bl->Int->aH->Int->bl->Int->ah->ah->Int->aH->Int->Int->af->ah->bf->Option Bool) (n:Nat) (t16:cf) (t17 t18 t27:Int) (t29:bl) (t30:Int) (t35:aH) (t36:Int) (t38:bl) (t40:Int) (t41 t42:ah) (t43:Int) (t47:aH) (t48 t49:Int) (b2:af) (b5:ah) (b7:bf):Option Bool:=
 if decide (t49<t48) then
 (idx t47 t49).bind λx3=>if decide (x3<0) then
 some false
 else
 if !decide (x3<(b5.ae.length:Int)) then
 some false
 else
 (idx b5.ae x3).bind λuK=>(idx b2.ai b7.aO).bind λx29=>(idx x29.ae t49).bind λEY=>if uK.aC !=EY.aC then
 some false
 else
 back t16 t17 t18 t27 t29 t30 t35 t36 t38 t40 t41 t42 t43 t47 t48 (bh (t49+1)) b2 b5 b7
 else
 aR t16 t17 t18 t27 t29 t30 t35 t36 t38 t40 t41 t42 t43 b2 b5 b7
def ZL:=K16 (afK (cZ 971)) azW
def ZK:=K19 (afK (cZ 23755)) azX
def aGK {aR} (bK:ZL aR) {back} (aS:ZK back) (n:Nat):ZK (RZ aR back n):=λt16 t17 t18 t27 t29 t30 t35 t36 t38 t40 t41 t42 t43 t47 t48 t49 b2 b5 b7 r h=>ie h (λc0 h=>be h λx3 fX h=>let zA:SE:=[aw c0,(1,R3.idx fX)];ie h (λc1 h=>bG h zA [bT c1]) (λc1 h=>let zB:SE:=dk zA [bT c1,(4,dv.cw b5.ae)];ie h (λc2 h=>bG h zB [aw c2]) (λc2 h=>be h λuK Cj h=>be h λx29 auc h=>be h λEY abI h=>let zC:SE:=dk zB [aw c2,(5,dv.idx Cj),(6,bI.idx auc),(3,dv.idx abI)];ie h (λc3 h=>bG h zC [bq c3]) (λc3 h=>cL (aS h) zC [bq c3])))) (λc0 h=>ra (bK h) [aw c0])
def Gk (aR:Wf8):Nat->cf->Int->Int->Int->bl->Int->aH->Int->bl->Int->ah->ah->Int->aH->Int->Int->af->ah->bf->Option Bool
 |0=>λ_ _ _ _ _ _ _ _ _ _ _ _ _ _ _ _ _ _ _=>none
 |n+1=>RZ aR (Gk aR n) n
def aqq {aR} (bK:ZL aR):∀n:Nat,ZK (Gk aR n)
 |0=>λ_ _ _ _ _ _ _ _ _ _ _ _ _ _ _ _ _ _ _ _ h=>nz h
 |n+1=>aGK bK (aqq bK n) n
def RY (bR:Wf9) (n:Nat) (t16:cf) (t17 t18 t27:Int) (t29:bl) (t30:Int) (t35:aH) (t36:Int) (t38:bl) (t40:Int) (t41 t42:ah) (t43:Int) (b2:af) (b5:ah) (b7:bf):Option Bool:=
 bR t16 t17 (bh (t18+1)) b2 b5
def O0:=K5 (afK [0,1,0,1,1]) azV
def aGJ {bR} (dA:O0 bR) (n:Nat):ZL (RY bR n):=λt16 t17 t18 t27 t29 t30 t35 t36 t38 t40 t41 t42 t43 b2 b5 b7 r h=>ra (dA h) []
def RX (cA:Option Bool) (back:Wf9) (n:Nat) (t16:cf) (t17 t18:Int) (b2:af) (b5:ah):Option Bool:=
 if decide (t18<t17) then
 (idx t16 t18).bind λx2=>if decide (x2.aO<0) then
 some false
 else
 if !decide (x2.aO<(b2.ai.length:Int)) then
 some false
 else
 (idx b2.ai x2.aO).bind λBL=>if (x2.ae.length:Int) !=BL.aP then
 some false
 else
 Gk (RY back n) n t16 t17 t18 x2.aO b2.ai (b2.ai.length:Int) x2.ae (x2.ae.length:Int) b2.ai x2.aO BL BL BL.aP x2.ae (x2.ae.length:Int) 0 b2 b5 x2
 else
 cA
def ZJ:=K0 (afK [1,1,1]) azU
def aGI {cA} (dX:ZJ cA) {back} (aS:O0 back) (n:Nat):O0 (RX cA back n):=λt16 t17 t18 b2 b5 r h=>ie h (λc0 h=>be h λx2 cW h=>let zA:SE:=[aw c0,(0,dM.idx cW)];ie h (λc1 h=>bG h zA [fL c1]) (λc1 h=>let zB:SE:=dk zA [fL c1,(5,bI.cw b2.ai)];ie h (λc2 h=>bG h zB [aw c2]) (λc2 h=>be h λBL N3 h=>let zC:SE:=dk zB [aw c2,(4,R3.cw x2.ae),(4,bI.idx N3)];ie h (λc3 h=>bG h zC [bq c3]) (λc3 h=>cL (aqq (aGJ aS n) n h) zC [bq c3,(3,R3.cw x2.ae)])))) (λc0 h=>ra (dX h) [aw c0])
def CY (cA:Option Bool):Nat->cf->Int->Int->af->ah->Option Bool
 |0=>λ_ _ _ _ _=>none
 |n+1=>RX cA (CY cA n) n
def aqp {cA} (dX:ZJ cA):∀n:Nat,O0 (CY cA n)
 |0=>λ_ _ _ _ _ _ h=>nz h
 |n+1=>aGI dX (aqp dX n) n
def Lb (n:Nat):Option Bool:=
 some true
def aGH (n:Nat):ZJ (Lb n):=λr h=>rr h []
def afp (n:Nat) (s0:af) (i1:Int):Option Bool:=
 (idx s0.ai i1).bind λx6=>CY (Lb n) n x6.ak (x6.ak.length:Int) 0 s0 x6
def aGG (n:Nat):K2 (afK []) LR (afp n):=λs0 i1 r h=>be h λx6 xx h=>ra (aqp (aGH n) n h) [(5,bI.idx xx),(5,dM.cw x6.ak)]
def anh:=afp
def aIV (n:Nat):K2 (Cx E0 139 dq cu) LR (anh n):=λ_ _ _ h=>ca (X:=x139) (aGG n h)
def x94:=fx E0 Tryz.f94 [] []
def Li:=Ax x94 eB cu
def aof (t16:bl) (t17 t18:Int) (b1:af):LS:=⟨[(1,.loc 1 0),(16,sS t16),(17,aN t17),(18,aN t18)],[(1,jD (eP b1))]⟩
def aCG (t49 t50:Int) (b1:af):LS:=⟨[(1,.loc 1 0),(49,aN t49),(50,aN t50)],[(1,jD (eP b1))]⟩
def aCF (t60 t61:Int) (b1:af):LS:=⟨[(1,.loc 1 0),(60,aN t60),(61,aN t61)],[(1,jD (eP b1))]⟩
def aCE (i7 t71 t72:Int) (t80:bJ) (t81 t82:Int) (b1:af):LS:=⟨[(1,.loc 1 0),(7,aN i7),(71,aN t71),(72,aN t72),(80,B3 t80),(81,aN t81),(82,aN t82)],[(1,jD (eP b1))]⟩
def aoe (t71 t72:Int) (b1:af):LS:=⟨[(1,.loc 1 0),(71,aN t71),(72,aN t72)],[(1,jD (eP b1))]⟩
def aCD:LS:=⟨[],[]⟩
def OO (b1:af):LS:=⟨[(1,.loc 1 0)],[(1,jD (eP b1))]⟩
def pM (s0:af):LS:=⟨[(0,.agg (eP s0))],[]⟩
def Yc (k_9:KA) (back:Vl) (n:Nat) (t16:bl) (t17 t18:Int) (b1:af):Option Int:=
 if decide (t18<t17) then
 (idx t16 t18).bind λx2=>if decide (8<(x2.ae.length:Int)) then
 some 2
 else
 if decide (4<(x2.ak.length:Int)) then
 some 2
 else
 if decide (4<(x2.aD.length:Int)) then
 some 2
 else
 back t16 t17 (bh (t18+1)) b1
 else
 k_9 b1
def ZI:=K1 (Li [1,1,1]) OO
def ZH:=K4 (Li [0,1,0,1,1]) aof
def aJJ {k_9} (alJ:ZI k_9) {back} (aS:ZH back) (n:Nat):ZH (Yc k_9 back n):=λt16 t17 t18 b1 r h=>ie h (λc0 h=>be h λx2 cW h=>let zA:SE:=[aw c0,(0,bI.idx cW),(5,dv.cw x2.ae)];ie h (λc1 h=>bG h zA [aw c1]) (λc1 h=>let zB:SE:=dk zA [aw c1,(3,dM.cw x2.ak)];ie h (λc2 h=>bG h zB [aw c2]) (λc2 h=>let zC:SE:=dk zB [aw c2,(4,cT.cw x2.aD)];ie h (λc3 h=>bG h zC [aw c3]) (λc3 h=>cL (aS h) zC [aw c3])))) (λc0 h=>ra (alJ h) [aw c0])
def MK (k_9:KA):Nat->bl->Int->Int->af->Option Int
 |0=>λ_ _ _ _=>none
 |n+1=>Yc k_9 (MK k_9 n) n
def awJ {k_9} (alJ:ZI k_9):∀n:Nat,ZH (MK k_9 n)
 |0=>λ_ _ _ _ _ h=>nz h
 |n+1=>aJJ alJ (awJ alJ n) n
def Yb (wT:KA) (back:Vk) (n:Nat) (t49 t50:Int) (b1:af):Option Int:=
 if decide (t50<t49) then
 (ani n b1 t50).bind λx6=>if !x6 then
 some 70
 else
 back t49 (bh (t50+1)) b1
 else
 wT b1
def ZG:=K1 (Li [1,1,1,1,1]) OO
def ZF:=K3 (Li (cZ 175)) aCG
def aJI {wT} (JV:ZG wT) {back} (aS:ZF back) (n:Nat):ZF (Yb wT back n):=λt49 t50 b1 r h=>ie h (λc0 h=>be h λx6 xx h=>let zA:SE:=[aw c0,qS (aIW n xx)];ie h (λc1 h=>bG h zA [aw c1]) (λc1 h=>cL (aS h) zA [aw c1])) (λc0 h=>ra (JV h) [aw c0])
def MJ (wT:KA):Nat->Int->Int->af->Option Int
 |0=>λ_ _ _=>none
 |n+1=>Yb wT (MJ wT n) n
def awI {wT} (JV:ZG wT):∀n:Nat,ZF (MJ wT n)
 |0=>λ_ _ _ _ h=>nz h
 |n+1=>aJI JV (awI JV n) n
def Ya (kV:KA) (back:Vk) (n:Nat) (t60 t61:Int) (b1:af):Option Int:=
 if decide (t61<t60) then
 (anh n b1 t61).bind λx6=>if !x6 then
 some 70
 else
 back t60 (bh (t61+1)) b1
 else
 kV b1
def ZE:=K1 (Li (cZ 127)) OO
def ZD:=K3 (Li (cZ 351)) aCF
def aJH {kV} (rV:ZE kV) {back} (aS:ZD back) (n:Nat):ZD (Ya kV back n):=λt60 t61 b1 r h=>ie h (λc0 h=>be h λx6 xx h=>let zA:SE:=[aw c0,qS (aIV n xx)];ie h (λc1 h=>bG h zA [aw c1]) (λc1 h=>cL (aS h) zA [aw c1])) (λc0 h=>ra (rV h) [aw c0])
def MI (kV:KA):Nat->Int->Int->af->Option Int
 |0=>λ_ _ _=>none
 |n+1=>Ya kV (MI kV n) n
def awH {kV} (rV:ZE kV):∀n:Nat,ZD (MI kV n)
 |0=>λ_ _ _ _ h=>nz h
 |n+1=>aJH rV (awH rV n) n
def X9 (cV:Vk) (back:Int->Int->Int->bJ->Int->Int->af->Option Int) (n:Nat) (i7 t71 t72:Int) (t80:bJ) (t81 t82:Int) (b1:af):Option Int:=
 if decide (t82<t81) then
 (idx t80 t82).bind λx2=>(F50 n b1 i7).bind λx9=>(aef n x9 [] x2).bind λly=>if ly !=0 then
 some ly
 else
 back i7 t71 t72 t80 t81 (bh (t82+1)) b1
 else
 cV t71 t72 b1
def ZC:=K3 (Li (cZ 15551)) aoe
def ZB:=K7 (Li (cZ 183487)) aCE
def aJG {cV} (eZ:ZC cV) {back} (aS:ZB back) (n:Nat):ZB (X9 cV back n):=λi7 t71 t72 t80 t81 t82 b1 r h=>ie h (λc0 h=>be h λx2 cW h=>be h λx9 kD h=>be h λly nU h=>let zA:SE:=[aw c0,(0,cT.idx cW),(5,Dx (cd (e:=3) (z:=true) (Q:=nL x9) (ev50 n kD) (R3.len x9))),(1,atT (axP n nU) [.one (.sl 0 0),.one (.sl 3 1)])];ie h (λc1 h=>bG h zA [bq c1]) (λc1 h=>cL (aS h) zA [bq c1])) (λc0 h=>ra (eZ h) [aw c0])
def MH (cV:Vk):Nat->Int->Int->Int->bJ->Int->Int->af->Option Int
 |0=>λ_ _ _ _ _ _ _=>none
 |n+1=>X9 cV (MH cV n) n
def awG {cV} (eZ:ZC cV):∀n:Nat,ZB (MH cV n)
 |0=>λ_ _ _ _ _ _ _ _ h=>nz h
 |n+1=>aJG eZ (awG eZ n) n
def X8 (dZ:Vk) (n:Nat) (t71 t72:Int) (b1:af):Option Int:=
 dZ t71 (bh (t72+1)) b1
def OZ:=K3 (Li (cZ 703)) aoe
def aJF {dZ} (gH:OZ dZ) (n:Nat):ZC (X8 dZ n):=λt71 t72 b1 r h=>ra (gH h) []
def X7 (jT:Option Int) (back:Vk) (n:Nat) (t71 t72:Int) (b1:af):Option Int:=
 if decide (t72<t71) then
 (idx b1.ai t72).bind λx7=>MH (X8 back n) n t72 t71 t72 x7.aD (x7.aD.length:Int) 0 b1
 else
 jT
def ZA:=K0 (Li (cZ 255)) aCD
def aJE {jT} (qA:ZA jT) {back} (aS:OZ back) (n:Nat):OZ (X7 jT back n):=λt71 t72 b1 r h=>ie h (λc0 h=>be h λx7 kX h=>ra (awG (aJF aS n) n h) [aw c0,(5,bI.idx kX),(2,cT.cw x7.aD)]) (λc0 h=>ra (qA h) [aw c0])
def H0 (jT:Option Int):Nat->Int->Int->af->Option Int
 |0=>λ_ _ _=>none
 |n+1=>X7 jT (H0 jT n) n
def awF {jT} (qA:ZA jT):∀n:Nat,OZ (H0 jT n)
 |0=>λ_ _ _ _ h=>nz h
 |n+1=>aJE qA (awF qA n) n
def QM (n:Nat):Option Int:=
 some 0
def aJD (n:Nat):ZA (QM n):=λr h=>rr h []
def X6 (n:Nat) (b1:af):Option Int:=
 H0 (QM n) n (b1.ai.length:Int) 0 b1
def aJC (n:Nat):ZE (X6 n):=λb1 r h=>ra (awF (aJD n) n h) [(2,bI.cw b1.ai)]
def X5 (n:Nat) (b1:af):Option Int:=
 MI (X6 n) n (b1.ai.length:Int) 0 b1
def aJB (n:Nat):ZG (X5 n):=λb1 r h=>ra (awH (aJC n) n h) [(2,bI.cw b1.ai)]
def X4 (n:Nat) (b1:af):Option Int:=
 if decide (b1.av<0) then
 some 70
 else
 if decide (1000<b1.av) then
 some 70
 else
 MJ (X5 n) n (b1.ai.length:Int) 0 b1
def aJA (n:Nat):ZI (X4 n):=λb1 r h=>ie h (λc0 h=>rr h [bq c0]) (λc0 h=>ie h (λc1 h=>rr h [bq c0,bw c1]) (λc1 h=>ra (awI (aJB n) n h) [bq c0,bw c1,(3,bI.cw b1.ai)]))
def aek (n:Nat) (s0:af):Option Int:=
 if decide (8<(s0.ai.length:Int)) then
 some 2
 else
 MK (X4 n) n s0.ai (s0.ai.length:Int) 0 s0
def aEe (n:Nat):K1 (Li []) pM (aek n):=λs0 r h=>ie h (λc0 h=>rr h [(4,bI.cw s0.ai),aw c0]) (λc0 h=>ra (awJ (aJA n) n h) [(4,bI.cw s0.ai),aw c0,(2,bI.cw s0.ai)])
def F94:=aek
def auK (n:Nat):K1 (Cx E0 94 eB cu) pM (F94 n):=λ_ _ h=>ca (X:=x94) (aEe n h)
def x110:=fx E0 Tryz.f110 [] []
def A110:=Ax x110 eB cu
def aAn (i0:Int) (t42:Bool):LS:=⟨[(0,aN i0),(42,.bool t42)],[]⟩
def ahD (i0 db fu:Int):LS:=⟨[(0,aN i0),(1,aN db),(2,aN fu)],[]⟩
def uo (n:Nat) (i0:Int) (t42:Bool):Option Int:=
 if t42 then
 some (bh (i0+1))
 else
 some i0
def xN (n:Nat):K2 (A110 (cZ 8185)) aAn (uo n):=λi0 t42 r h=>ie h (λc0 bO=>by subst c0;exact (rr bO [])) (λc0 bO=>by subst c0;exact (rr bO []))
def afx (n:Nat) (i0 db fu:Int):Option Int:=
 if decide (fu<0) then
 if decide (db<i0) then
 some (bh (i0 - 1))
 else
 some i0
 else
 if i0==db then
 some fu
 else
 if decide (db<fu) then
 if decide (db<i0) then
 if !decide (fu<i0) then
 some (bh (i0 - 1))
 else
 if decide (fu<db) then
 if !decide (i0<fu) then
 uo n i0 (decide (i0<db))
 else
 uo n i0 false
 else
 uo n i0 false
 else
 if decide (fu<db) then
 if !decide (i0<fu) then
 uo n i0 (decide (i0<db))
 else
 uo n i0 false
 else
 uo n i0 false
 else
 if decide (fu<db) then
 if !decide (i0<fu) then
 uo n i0 (decide (i0<db))
 else
 uo n i0 false
 else
 uo n i0 false
def aHi (n:Nat):K3 (A110 []) ahD (afx n):=λi0 db fu r h=>ie h (λc0 h=>ie h (λc1 h=>rr h [bq c0,bw c1]) (λc1 h=>rr h [bq c0,bw c1,bw c0])) (λc0 h=>let zA:SE:=[bq c0,bT c0];ie h (λc1 h=>bG h zA [bw c1]) (λc1 h=>let zB:SE:=dk zA [bw c1];ie h (λc2 h=>let zC:SE:=dk zB [bw c2];ie h (λc3 h=>let zD:SE:=dk zC [bw c3];ie h (λc4 h=>bG h zD [bT c4]) (λc4 h=>ie h (λc5 h=>ie h (λc6 h=>cL (xN n h) zD [bT c4,bT c5,bw c6]) (λc6 h=>cL (xN n h) zD [bT c4,bT c5,bw c6])) (λc5 h=>cL (xN n h) zD [bT c4,bT c5]))) (λc3 h=>ie h (λc4 h=>ie h (λc5 h=>cL (xN n h) zC [bw c3,jj c4,bw c5]) (λc5 h=>cL (xN n h) zC [bw c3,jj c4,bw c5])) (λc4 h=>cL (xN n h) zC [bw c3,jj c4]))) (λc2 h=>ie h (λc3 h=>ie h (λc4 h=>cL (xN n h) zB [bw c2,qV c3,bw c4]) (λc4 h=>cL (xN n h) zB [bw c2,qV c3,bw c4])) (λc3 h=>cL (xN n h) zB [bw c2,qV c3]))))
def H8:=afx
def P8 (n:Nat):K3 (Cx E0 110 eB cu) ahD (H8 n):=λ_ _ _ _ h=>ca (X:=x110) (aHi n h)
def x140:=fx E0 Tryz.f140 [] []
def A140:=Ax x140 dq cu
def azT (b3:aE):LS:=⟨[(3,.loc 3 0)],[(3,v7 (ng b3))]⟩
def LQ (m0:aE):LS:=⟨[(0,.agg (ng m0))],[]⟩
def sH (n:Nat) (b3:aE):Option Bool:=
 if b3.aO==0 then
 if b3.aX==0 then
 if b3.jo==0 then
 if decide (b3.ar=ByteArray.empty) then
 if b3.aC==0 then
 if ((b3.aV.aC==0) && ((b3.aV.dw==0) && ((decide (b3.aV.cP=ByteArray.empty)) && true))) then
 if (b3.cI.length:Int)==0 then
 if decide (b3.aZ.ar=ByteArray.empty) then
 if (b3.aZ.ae.length:Int)==0 then
 if b3.aZ.aP==0 then
 if (b3.aZ.ak.length:Int)==0 then
 some ((b3.aZ.aD.length:Int)==0)
 else
 some false
 else
 some false
 else
 some false
 else
 some false
 else
 some false
 else
 some false
 else
 some false
 else
 some false
 else
 some false
 else
 some false
 else
 some false
def Ag (n:Nat):K1 (A140 [1,1,1]) azT (sH n):=λb3 r h=>ie h (λc0 h=>let zA:SE:=[jj c0];ie h (λc1 h=>let zB:SE:=dk zA [bw c1];ie h (λc2 h=>let zC:SE:=dk zB [bT c2];ie h (λc3 h=>let zD:SE:=dk zC [bT c3];ie h (λc4 h=>let zE:SE:=dk zD [bT c4];ie h (λc5 h=>let zF:SE:=dk zE [fL c5,(4,sZ.cw b3.cI)];ie h (λc6 h=>let zG:SE:=dk zF [aw c6];ie h (λc7 h=>let zH:SE:=dk zG [bT c7,(4,dv.cw b3.aZ.ae)];ie h (λc8 h=>ie h (λc9 h=>let zI:SE:=dk zH [aw c8,bT c9,(4,dM.cw b3.aZ.ak)];ie h (λc10 h=>bG h zI [aw c10,(4,cT.cw b3.aZ.aD)]) (λc10 h=>bG h zI [aw c10])) (λc9 h=>bG h zH [aw c8,bT c9])) (λc8 h=>bG h zH [aw c8])) (λc7 h=>bG h zG [bT c7])) (λc6 h=>bG h zF [aw c6])) (λc5 h=>bG h zE [fL c5])) (λc4 h=>bG h zD [bT c4])) (λc3 h=>bG h zC [bT c3])) (λc2 h=>bG h zB [bT c2])) (λc1 h=>bG h zA [bw c1])) (λc0 h=>rr h [jj c0])
def afo (n:Nat) (m0:aE):Option Bool:=
 if m0.bu==1 then
 sH n (aE.mk m0.bu 0 m0.aX m0.jo ByteArray.empty 0 (bj.mk 0 0 ByteArray.empty) m0.cI m0.aZ)
 else
 if m0.bu==2 then
 sH n (aE.mk m0.bu 0 0 m0.jo m0.ar m0.aC (bj.mk 0 0 ByteArray.empty) m0.cI m0.aZ)
 else
 if m0.bu==3 then
 sH n (aE.mk m0.bu 0 0 0 m0.ar m0.aC m0.aV m0.cI m0.aZ)
 else
 if m0.bu==4 then
 sH n (aE.mk m0.bu 0 0 m0.jo ByteArray.empty m0.aC m0.aV m0.cI m0.aZ)
 else
 if m0.bu==5 then
 sH n (aE.mk m0.bu 0 m0.aX m0.jo ByteArray.empty m0.aC m0.aV m0.cI m0.aZ)
 else
 if m0.bu==6 then
 sH n (aE.mk m0.bu m0.aO m0.aX m0.jo m0.ar m0.aC m0.aV m0.cI (ah.mk ByteArray.empty [] 0 [] []))
 else
 if m0.bu==7 then
 sH n (aE.mk m0.bu 0 m0.aX m0.jo m0.ar m0.aC m0.aV m0.cI m0.aZ)
 else
 if m0.bu==8 then
 sH n (aE.mk m0.bu 0 0 m0.jo m0.ar m0.aC m0.aV [] m0.aZ)
 else
 some false
def aGF (n:Nat):K1 (A140 []) LQ (afo n):=λm0 r h=>ie h (λc0 h=>ra (Ag n h) [qV c0]) (λc0 h=>ie h (λc1 h=>ra (Ag n h) [qV c0,aU c1]) (λc1 h=>let zA:SE:=[qV c0,aU c1];ie h (λc2 h=>cL (Ag n h) zA [aU c2]) (λc2 h=>let zB:SE:=dk zA [aU c2];ie h (λc3 h=>cL (Ag n h) zB [aU c3]) (λc3 h=>let zC:SE:=dk zB [aU c3];ie h (λc4 h=>cL (Ag n h) zC [aU c4]) (λc4 h=>let zD:SE:=dk zC [aU c4];ie h (λc5 h=>cL (Ag n h) zD [aU c5]) (λc5 h=>ie h (λc6 h=>cL (Ag n h) zD [aU c5,aU c6]) (λc6 h=>ie h (λc7 h=>cL (Ag n h) zD [aU c5,aU c6,aU c7]) (λc7 h=>bG h zD [aU c5,aU c6,aU c7]))))))))
def ang:=afo
def aIU (n:Nat):K1 (Cx E0 140 dq cu) LQ (ang n):=λ_ _ h=>ca (X:=x140) (aGF n h)
def O9 (r:ah):AV:=.agg (aks r nZ vo tU)
def L8 (r:ah):List (Nat×Bx):= (akt nZ r vo tU)
def x141:=fx E0 Tryz.f141 [] [nZ,vo,tU]
def avU:=Ax x141 O9 L8
def azS (t12:cf) (t13 t14:Int) (b1 b2:ah) (b6:cG) (b3:cf):LS:=⟨[(1,.loc 1 0),(2,.loc 2 0),(3,lB vm b3.length),(12,xj t12),(13,aN t13),(14,aN t14)],[(1,.flat 44 [.str b1.ar,.ms 6 2 0 b6.length,tN b1,aar b1,aat b1]),(2,Ji b2.ar b2),(6,As b6),(vm,yD b3)]⟩
def azR (b1 b2:ah) (b6:cG) (b3:cf):LS:=⟨[(1,.loc 1 0),(2,.loc 2 0),(3,lB vm b3.length)],[(1,.flat 44 [.str b1.ar,.ms 6 2 0 b6.length,tN b1,aar b1,aat b1]),(2,Ji b2.ar b2),(6,As b6),(vm,yD b3)]⟩
def LP (t0:ah):LS:=⟨[(0,.agg (ji t0))],[]⟩
def RW (aR:Wf13) (back:cf->Int->Int->ah->ah->cG->cf->Option ah) (n:Nat) (t12:cf) (t13 t14:Int) (b1 b2:ah) (b6:cG) (b3:cf):Option ah:=
 if decide (t14<t13) then
 (idx t12 t14).bind λx2=>(app [] x2.ae).bind λdn=>(app b3 [(bf.mk dn x2.aO)]).bind λjA=>(setAt jA b3.length (bf.mk dn x2.aO)).bind λz20=>back t12 t13 (bh (t14+1)) (ah.mk b1.ar b6 b1.aP b1.ak b1.aD) (ah.mk b2.ar [] b2.aP [] []) b6 z20
 else
 aR (ah.mk b1.ar b6 b1.aP b1.ak b1.aD) (ah.mk b2.ar [] b2.aP [] []) b6 b3
def Zz:=K4 (avU [1,1,1,1]) azR
def Zy:=K7 (avU (cZ 87)) azS
def aGE {aR} (bK:Zz aR) {back} (aS:Zy back) (n:Nat):Zy (RW aR back n):=λt12 t13 t14 b1 b2 b6 b3 r h=>ie h (λc0 h=>be h λx2 cW h=>be h λdn gh h=>be h λjA mr h=>be h λz20 He h=>ra (aS h) [aw c0,(0,dM.idx cW),(7,R3.app gh .CB),(4,dM.IX mr),(1,.beq vm (bA (λq_=>Bx.tree 121 2 aaq q_ [(b3.length*2+0,.ms 19 1 0 dn.length)]) (dM.apS (r:= (oj x2.aO)) mr))),(0,.ey 19 [.d]),(0,dM.ij R3 (r:= (oj x2.aO)) vm 19 0 false 3 1 dn He),(2,.seq 3 (bA (AV.ms vm 2 0) (((dM.apL mr).trans (ep He)))))]) (λc0 h=>ra (bK h) [aw c0])
def Gj (aR:Wf13):Nat->cf->Int->Int->ah->ah->cG->cf->Option ah
 |0=>λ_ _ _ _ _ _ _=>none
 |n+1=>RW aR (Gj aR n) n
def aqo {aR} (bK:Zz aR):∀n:Nat,Zy (Gj aR n)
 |0=>λ_ _ _ _ _ _ _ _ h=>nz h
 |n+1=>aGE bK (aqo bK n) n
def RV (n:Nat) (b1 b2:ah) (b6:cG) (b3:cf):Option ah:=
 (app [] b1.aD).bind λx7=>some (ah.mk b1.ar b6 b1.aP b3 x7)
def aGD (n:Nat):Zz (RV n):=λb1 b2 b6 b3 r h=>be h λx7 kX h=>rr h [(6,cT.app kX .CB),(4,.fO 6 nZ),(0,.fO vm vo),(0,.fO 31 tU)]
def afn (n:Nat) (t0:ah):Option ah:=
 (app [] t0.ae).bind λx6=>Gj (RV n) n t0.ak (t0.ak.length:Int) 0 (ah.mk t0.ar x6 t0.aP t0.ak t0.aD) (ah.mk ByteArray.empty [] 0 [] []) x6 []
def aGC (n:Nat):K1 (avU []) LP (afn n):=λt0 r h=>be h λx6 xx h=>ra (aqo (aGD n) n h) [(5,dv.app xx .CB),(5,dM.cw t0.ak),(1,.born [3] [] vm true 121 2),(0,.ey vm aaq)]
def aee:=afn
def axO (n:Nat):K1 (Cx E0 141 O9 L8) LP (aee n):=λ_ _ h=>ca (X:=x141) (aGC n h)
def Fa (r:aH):AV:=.slice 3 1 (nL r)
def x216:=fx E0 Tryz.f216 [] []
def anP:=Ax x216 Fa cu
def SJ (l0:aH) (n1 i5:Int):LS:=⟨[(0,iR l0),(1,aN n1),(5,aN i5)],[]⟩
def agV (l0:aH) (n1:Int):LS:=⟨[(0,iR l0),(1,aN n1)],[]⟩
def KR (bR:avx) (back:avx) (n:Nat) (l0:aH) (n1 i5:Int):Option aH:=
 if decide (i5<(l0.length:Int)) then
 (idx l0 i5).bind λx8=>if decide (x8<n1) then
 back l0 n1 (bh (i5+1))
 else
 bR l0 n1 i5
 else
 bR l0 n1 i5
def Zx:=K3 (anP [1,1,1]) SJ
def Zw:=K3 (anP [0,0,1,1]) SJ
def aEu {bR} (dA:Zx bR) {back} (aS:Zw back) (n:Nat):Zw (KR bR back n):=λl0 n1 i5 r h=>let zA:SE:=[(2,R3.cw l0)];ie h (λc0 h=>be h λx8 ss h=>ie h (λc1 h=>cL (aS h) zA [aw c0,(3,R3.idx ss),bq c1]) (λc1 h=>cL (dA h) zA [aw c0,(3,R3.idx ss),bq c1])) (λc0 h=>cL (dA h) zA [aw c0])
def CN (bR:avx):Nat->aH->Int->Int->Option aH
 |0=>λ_ _ _=>none
 |n+1=>KR bR (CN bR n) n
def apF {bR} (dA:Zx bR):∀n:Nat,Zw (CN bR n)
 |0=>λ_ _ _ _ h=>nz h
 |n+1=>aEu dA (apF dA n) n
def KQ (n:Nat) (l0:aH) (n1 i5:Int):Option aH:=
 (cut l0 none (some i5)).bind λx3=>(app [] x3).bind λx5=>(app x5 [n1]).bind λx9=>(cut l0 (some i5) none).bind λeT=>(app x9 eT).bind λfq=>some fq
def aru (n:Nat):K3 (anP [1,1,1,1]) SJ (KQ n):=λl0 n1 i5 r h=>be h λx3 fX h=>be h λx5 n9 h=>be h λx9 kD h=>be h λeT jE h=>be h λfq mU h=>rr h [(0,.born [] [] 36 true 3 1),(2,R3.cut fX),(0,R3.app (xs:= []) n9 .CB),(2,R3.app kD (R3.tK [n1])),(2,R3.cut jE),(0,R3.app mU .CB),(1,R3.gx 36 fq),(0,.norm [(4,.one (.sl 0 0))] [])]
def QY (n:Nat) (l0:aH) (n1 i5:Int):Option aH:=
 if decide (i5<(l0.length:Int)) then
 (idx l0 i5).bind λx8=>if x8==n1 then
 some l0
 else
 KQ n l0 n1 i5
 else
 KQ n l0 n1 i5
def aEt (n:Nat):Zx (QY n):=λl0 n1 i5 r h=>let zA:SE:=[(2,R3.cw l0)];ie h (λc0 h=>be h λx8 ss h=>ie h (λc1 h=>bG h zA [aw c0,(3,R3.idx ss),bq c1]) (λc1 h=>cL (aru n h) zA [aw c0,(3,R3.idx ss),bq c1])) (λc0 h=>cL (aru n h) zA [aw c0])
def aes (n:Nat) (l0:aH) (n1:Int):Option aH:=
 CN (QY n) n l0 n1 0
def aEs (n:Nat):K2 (anP []) agV (aes n):=λl0 n1 r h=>ra (apF (aEt n) n h) []
def amS:=aes
def aIu (n:Nat):K2 (Cx E0 216 Fa cu) agV (amS n):=λ_ _ _ h=>ca (X:=x216) (aEs n h)
def x195:=fx E0 Tryz.f195 [] []
def afE:=Ax x195 Fa cu
def C195:=Cx E0 195 Fa cu
def ayM (l1:aH) (t17:Int) (b2:ag) (b15:tC):LS:=⟨[(1,iR l1),(2,.loc 2 0),(15,.ms 15 5 0 b15.length),(16,.int .i64 2),(17,aN t17)],[(2,pE (eX b2)),(15,.rows false 105 5 (L6 b15))]⟩
def ayL (l1:aH) (t36 t37:Int) (b2:ag):LS:=⟨[(1,iR l1),(2,.loc 2 0),(36,aN t36),(37,aN t37)],[(2,pE (eX b2))]⟩
def ayK (l1:aH):LS:=⟨[(1,iR l1)],[]⟩
def ayJ (l1:aH) (b2:ag):LS:=⟨[(1,iR l1),(2,.loc 2 0)],[(2,pE (eX b2))]⟩
def agZ (p0:ag) (l1:aH):LS:=⟨[(0,.agg (eX p0)),(1,iR l1)],[]⟩
def GB (gU:ag->aH->Option aH) (cA:amN) (back:aH->Int->ag->tC->Option aH) (n:Nat) (l1:aH) (t17:Int) (b2:ag) (b15:tC):Option aH:=
 if decide (t17<2) then
 (fE b15.length t17).bind λx2=>(b15[0+x2]?).bind λx4=>if x4.aC==1 then
 if !decide (x4.cJ<0) then
 (amS n l1 x4.cJ).bind λjz=>back jz (bh (t17+1)) b2 b15
 else
 back l1 (bh (t17+1)) b2 b15
 else
 back l1 (bh (t17+1)) b2 b15
 else
 cA l1 b2
def zt:=K2 C195 agZ
def Zv:=K2 (afE [1,1]) ayJ
def Zu:=K4 (afE (cZ 85)) ayM
def aEE {gU} (oa:zt gU) {cA} (dX:Zv cA) {back} (aS:Zu back) (n:Nat):Zu (GB gU cA back n):=λl1 t17 b2 b15 r h=>ie h (λc0 h=>be h λx2 cW h=>be h λx4 kY h=>let zA:SE:=[aw c0,(0,dO cW),(0,Vm.row kY)];ie h (λc1 h=>ie h (λc2 h=>be h λjz nT h=>cL (aS h) zA [bT c1,bw c2,qS (aIu n nT)]) (λc2 h=>cL (aS h) zA [bT c1,bw c2])) (λc1 h=>cL (aS h) zA [bT c1])) (λc0 h=>ra (dX h) [aw c0])
def vG (gU:ag->aH->Option aH) (cA:amN):Nat->aH->Int->ag->tC->Option aH
 |0=>λ_ _ _ _=>none
 |n+1=>GB gU cA (vG gU cA n) n
def apH {gU} (oa:zt gU) {cA} (dX:Zv cA):∀n:Nat,Zu (vG gU cA n)
 |0=>λ_ _ _ _ _ h=>nz h
 |n+1=>aEE oa dX (apH oa dX n) n
def Q3 (gU:ag->aH->Option aH) (bR:Wf0) (back:aH->Int->Int->ag->Option aH) (n:Nat) (l1:aH) (t36 t37:Int) (b2:ag):Option aH:=
 if decide (t37<t36) then
 (idx b2.fArgs t37).bind λx7=>(gU x7 l1).bind λdn=>back dn t36 (bh (t37+1)) b2
 else
 bR l1
def Zt:=K1 (afE [1,1,1]) ayK
def Zs:=K4 (afE [0,1,0,1,1]) ayL
def aED {gU} (oa:zt gU) {bR} (dA:Zt bR) {back} (aS:Zs back) (n:Nat):Zs (Q3 gU bR back n):=λl1 t36 t37 b2 r h=>ie h (λc0 h=>be h λx7 kX h=>be h λdn gh h=>ra (aS h) [aw c0,(5,cT.idx kX),jK (oa gh)]) (λc0 h=>ra (dA h) [aw c0])
def FV (gU:ag->aH->Option aH) (bR:Wf0):Nat->aH->Int->Int->ag->Option aH
 |0=>λ_ _ _ _=>none
 |n+1=>Q3 gU bR (FV gU bR n) n
def apG {gU} (oa:zt gU) {bR} (dA:Zt bR):∀n:Nat,Zs (FV gU bR n)
 |0=>λ_ _ _ _ _ h=>nz h
 |n+1=>aED oa dA (apG oa dA n) n
def Q2 (gU:ag->aH->Option aH) (n:Nat) (l1:aH):Option aH:=
 some l1
def aEC {gU} (oa:zt gU) (n:Nat):Zt (Q2 gU n):=λl1 r h=>rr h []
def GA (gU:ag->aH->Option aH) (n:Nat) (l1:aH) (b2:ag):Option aH:=
 FV gU (Q2 gU n) n l1 (b2.fArgs.length:Int) 0 b2
def arv {gU} (oa:zt gU) (n:Nat):Zv (GA gU n):=λl1 b2 r h=>ra (apG oa (aEC oa n) n h) [(2,cT.cw b2.fArgs)]
def aew (gU:ag->aH->Option aH) (n:Nat) (p0:ag) (l1:aH):Option aH:=
 if p0.bu==3 then
 vG gU (GA gU n) n l1 0 p0 [p0.bW,p0.bF]
 else
 GA gU n l1 p0
def aEB {gU} (oa:zt gU) (n:Nat):K2 (afE []) agZ (aew gU n):=λp0 l1 r h=>ie h (λc0 h=>ra (apH oa (arv oa n) n h) [bT c0]) (λc0 h=>ra (arv oa n h) [bT c0])
def EB:Nat->ag->aH->Option aH
 |0,_,_=>none
 |n+1,p0,l1=>aew (EB n) n p0 l1
def axs:∀n:Nat,zt (EB n)
 |0=>λ_ _ _ h=>nz h
 |n+1=>λ_ _ _ h=>ca (X:=x195) (aEB (axs n) n h)
def x176:=fx E0 Tryz.f176 [] []
def A176:=Ax x176 Fa cu
def aeI (n:Nat) (p0:ag):Option aH:=
 (EB n p0 []).bind λx4=>some x4
def aFf (n:Nat):K1 (A176 []) Bw (aeI n):=λp0 r h=>be h λx4 kY h=>rr h [(3,atT (axs n kY) [.one .same,.one (.sl 3 1)])]
def amX:=aeI
def aIE (n:Nat):K1 (Cx E0 176 Fa cu) Bw (amX n):=λ_ _ h=>ca (X:=x176) (aFf n h)
def x143:=fx E0 Tryz.f143 [] []
def Ih:=Ax x143 dq cu
def azQ (eo:Int) (t14:cf) (t15 t16:Int) (t21:aH) (t22 t23:Int) (b2:ah):LS:=⟨[(1,aN eo),(2,.loc 2 0),(14,.slice 121 2 (hJ t14)),(15,aN t15),(16,aN t16),(21,.slice 3 1 (nL t21)),(22,aN t22),(23,aN t23)],[(2,sR (ji b2))]⟩
def ahy (eo:Int) (t14:cf) (t15 t16:Int) (b2:ah):LS:=⟨[(1,aN eo),(2,.loc 2 0),(14,.slice 121 2 (hJ t14)),(15,aN t15),(16,aN t16)],[(2,sR (ji b2))]⟩
def azP (eo:Int) (t33:bJ) (t34 t35:Int) (t40:aH) (t41 t42:Int):LS:=⟨[(1,aN eo),(33,.slice 107 13 (fH t33)),(34,aN t34),(35,aN t35),(40,.slice 3 1 (nL t40)),(41,aN t41),(42,aN t42)],[]⟩
def ahx (eo:Int) (t33:bJ) (t34 t35:Int):LS:=⟨[(1,aN eo),(33,.slice 107 13 (fH t33)),(34,aN t34),(35,aN t35)],[]⟩
def azO:LS:=⟨[],[]⟩
def azN (eo:Int) (b2:ah):LS:=⟨[(1,aN eo),(2,.loc 2 0)],[(2,sR (ji b2))]⟩
def ahw (t0:ah) (eo:Int):LS:=⟨[(0,.agg (ji t0)),(1,aN eo)],[]⟩
def RU (aR:amM) (back:Int->cf->Int->Int->aH->Int->Int->ah->Option Bool) (n:Nat) (eo:Int) (t14:cf) (t15 t16:Int) (t21:aH) (t22 t23:Int) (b2:ah):Option Bool:=
 if decide (t23<t22) then
 (idx t21 t23).bind λx2=>if x2==eo then
 some true
 else
 back eo t14 t15 t16 t21 t22 (bh (t23+1)) b2
 else
 aR eo t14 t15 t16 b2
def Zr:=K5 (Ih (cZ 485)) ahy
def Zq:=K8 (Ih (cZ 5733)) azQ
def aGA {aR} (bK:Zr aR) {back} (aS:Zq back) (n:Nat):Zq (RU aR back n):=λeo t14 t15 t16 t21 t22 t23 b2 r h=>ie h (λc0 h=>be h λx2 cW h=>ie h (λc1 h=>rr h [aw c0,(0,R3.idx cW),bT c1]) (λc1 h=>ra (aS h) [aw c0,(0,R3.idx cW),bT c1])) (λc0 h=>ra (bK h) [aw c0])
def Gi (aR:amM):Nat->Int->cf->Int->Int->aH->Int->Int->ah->Option Bool
 |0=>λ_ _ _ _ _ _ _ _=>none
 |n+1=>RU aR (Gi aR n) n
def aqn {aR} (bK:Zr aR):∀n:Nat,Zq (Gi aR n)
 |0=>λ_ _ _ _ _ _ _ _ _ h=>nz h
 |n+1=>aGA bK (aqn bK n) n
def RT (bR:amM) (n:Nat) (eo:Int) (t14:cf) (t15 t16:Int) (b2:ah):Option Bool:=
 bR eo t14 t15 (bh (t16+1)) b2
def OY:=K5 (Ih [0,1,0,1]) ahy
def aGz {bR} (dA:OY bR) (n:Nat):Zr (RT bR n):=λeo t14 t15 t16 b2 r h=>ra (dA h) []
def RS (kV:Int->ah->Option Bool) (back:amM) (n:Nat) (eo:Int) (t14:cf) (t15 t16:Int) (b2:ah):Option Bool:=
 if decide (t16<t15) then
 (idx t14 t16).bind λx2=>Gi (RT back n) n eo t14 t15 t16 x2.ae (x2.ae.length:Int) 0 b2
 else
 kV eo b2
def Zp:=K2 (Ih [1,1]) azN
def aGy {kV} (rV:Zp kV) {back} (aS:OY back) (n:Nat):OY (RS kV back n):=λeo t14 t15 t16 b2 r h=>ie h (λc0 h=>be h λx2 cW h=>ra (aqn (aGz aS n) n h) [aw c0,(0,dM.idx cW),(5,R3.cw x2.ae)]) (λc0 h=>ra (rV h) [aw c0])
def CX (kV:Int->ah->Option Bool):Nat->Int->cf->Int->Int->ah->Option Bool
 |0=>λ_ _ _ _ _=>none
 |n+1=>RS kV (CX kV n) n
def aqm {kV} (rV:Zp kV):∀n:Nat,OY (CX kV n)
 |0=>λ_ _ _ _ _ _ h=>nz h
 |n+1=>aGy rV (aqm rV n) n
def RR (cV:amL) (back:Int->bJ->Int->Int->aH->Int->Int->Option Bool) (n:Nat) (eo:Int) (t33:bJ) (t34 t35:Int) (t40:aH) (t41 t42:Int):Option Bool:=
 if decide (t42<t41) then
 (idx t40 t42).bind λx2=>if x2==eo then
 some true
 else
 back eo t33 t34 t35 t40 t41 (bh (t42+1))
 else
 cV eo t33 t34 t35
def Zo:=K4 (Ih (cZ 971)) ahx
def Zn:=K7 (Ih (cZ 11467)) azP
def aGx {cV} (eZ:Zo cV) {back} (aS:Zn back) (n:Nat):Zn (RR cV back n):=λeo t33 t34 t35 t40 t41 t42 r h=>ie h (λc0 h=>be h λx2 cW h=>ie h (λc1 h=>rr h [aw c0,(0,R3.idx cW),bT c1]) (λc1 h=>ra (aS h) [aw c0,(0,R3.idx cW),bT c1])) (λc0 h=>ra (eZ h) [aw c0])
def Gg (cV:amL):Nat->Int->bJ->Int->Int->aH->Int->Int->Option Bool
 |0=>λ_ _ _ _ _ _ _=>none
 |n+1=>RR cV (Gg cV n) n
def aql {cV} (eZ:Zo cV):∀n:Nat,Zn (Gg cV n)
 |0=>λ_ _ _ _ _ _ _ _ h=>nz h
 |n+1=>aGx eZ (aql eZ n) n
def RQ (dZ:amL) (n:Nat) (eo:Int) (t33:bJ) (t34 t35:Int):Option Bool:=
 dZ eo t33 t34 (bh (t35+1))
def OX:=K4 (Ih [0,1,0,1,1]) ahx
def aGw {dZ} (gH:OX dZ) (n:Nat):Zo (RQ dZ n):=λeo t33 t34 t35 r h=>ra (gH h) []
def RP (jT:Option Bool) (back:amL) (n:Nat) (eo:Int) (t33:bJ) (t34 t35:Int):Option Bool:=
 if decide (t35<t34) then
 (idx t33 t35).bind λx2=>(amX n x2).bind λx8=>Gg (RQ back n) n eo t33 t34 t35 x8 (x8.length:Int) 0
 else
 jT
def Zm:=K0 (Ih [1,1,1]) azO
def aGv {jT} (qA:Zm jT) {back} (aS:OX back) (n:Nat):OX (RP jT back n):=λeo t33 t34 t35 r h=>ie h (λc0 h=>be h λx2 cW h=>be h λx8 ss h=>ra (aql (aGw aS n) n h) [aw c0,(0,cT.idx cW),qS (aIE n ss),(0,R3.cw x8)]) (λc0 h=>ra (qA h) [aw c0])
def CW (jT:Option Bool):Nat->Int->bJ->Int->Int->Option Bool
 |0=>λ_ _ _ _=>none
 |n+1=>RP jT (CW jT n) n
def aqk {jT} (qA:Zm jT):∀n:Nat,OX (CW jT n)
 |0=>λ_ _ _ _ _ h=>nz h
 |n+1=>aGv qA (aqk qA n) n
def RO (n:Nat):Option Bool:=
 some false
def aGu (n:Nat):Zm (RO n):=λr h=>rr h []
def RN (n:Nat) (eo:Int) (b2:ah):Option Bool:=
 CW (RO n) n eo b2.aD (b2.aD.length:Int) 0
def aGt (n:Nat):Zp (RN n):=λeo b2 r h=>ra (aqk (aGu n) n h) [(2,cT.cw b2.aD)]
def afl (n:Nat) (t0:ah) (eo:Int):Option Bool:=
 CX (RN n) n eo t0.ak (t0.ak.length:Int) 0 t0
def aGs (n:Nat):K2 (Ih []) ahw (afl n):=λt0 eo r h=>ra (aqm (aGt n) n h) [(4,dM.cw t0.ak)]
def aed:=afl
def axN (n:Nat):K2 (Cx E0 143 dq cu) ahw (aed n):=λ_ _ _ h=>ca (X:=x143) (aGs n h)
def Fb (r:ag):AV:=.agg (eX r)
def x177:=fx E0 Tryz.f177 [] []
def afG:=Ax x177 Fb cu
def C177:=Cx E0 177 Fb cu
def ahg (db fu:Int) (b3 b6:ag):LS:=⟨[(1,aN db),(2,aN fu),(3,.loc 3 0),(6,.loc 6 0)],[(3,pE (eX b3)),(6,Uk)]⟩
def azb (db fu:Int) (t38:bJ) (t39 t40:Int) (b3 b6:ag) (FO:bJ):LS:=⟨[(1,aN db),(2,aN fu),(3,.loc 3 0),(6,.loc 6 0),(7,.ms 50 13 0 FO.length),(38,.slice 107 13 (fH t38)),(39,aN t39),(40,aN t40)],[(3,pE (eX b3)),(6,q9_ b6),(50,Jh FO)]⟩
def aza (b3 b6:ag) (FO:bJ):LS:=⟨[(3,.loc 3 0),(6,.loc 6 0),(7,.ms 50 13 0 FO.length)],[(3,pE (eX b3)),(6,q9_ b6),(50,Jh FO)]⟩
def ahf (p0:ag) (db fu:Int):LS:=⟨[(0,.agg (eX p0)),(1,aN db),(2,aN fu)],[]⟩
def KU (iM:ag->Int->Int->Option ag) (cA:Int->Int->ag->ag->Option ag) (n:Nat) (db fu:Int) (b3 b6:ag):Option ag:=
 if b3.bF.aC==1 then
 (H8 n b3.bF.cJ db fu).bind λeA=>cA db fu (ag.mk b3.bu b3.eC b3.bW (aL.mk b3.bF.aC eA b3.bF.aV) b3.fArgs) (ag.mk 0 0 (aL.mk 0 0 (bj.mk 0 0 ByteArray.empty)) (aL.mk 0 0 (bj.mk 0 0 ByteArray.empty)) [])
 else
 cA db fu b3 (ag.mk 0 0 (aL.mk 0 0 (bj.mk 0 0 ByteArray.empty)) (aL.mk 0 0 (bj.mk 0 0 ByteArray.empty)) [])
def BU:=K3 C177 ahf
def aot:=K4 (afG [1,1]) ahg
def arx {iM} (oV:BU iM) {cA} (dX:aot cA) (n:Nat):K4 (afG [1,0,1,0,1]) ahg (KU iM cA n):=λdb fu b3 b6 r h=>ie h (λc0 h=>be h λeA mH h=>ra (dX h) [bw c0,vP (P8 n mH)]) (λc0 h=>ra (dX h) [bw c0])
def Rh (iM:ag->Int->Int->Option ag) (bR:amK) (back:Int->Int->bJ->Int->Int->ag->ag->bJ->Option ag) (n:Nat) (db fu:Int) (t38:bJ) (t39 t40:Int) (b3 b6:ag) (FO:bJ):Option ag:=
 if decide (t40<t39) then
 (idx t38 t40).bind λx2=>(iM x2 db fu).bind λdn=>(app FO [dn]).bind λja=>back db fu t38 t39 (bh (t40+1)) b3 (ag.mk b6.bu b6.eC b6.bW b6.bF []) ja
 else
 bR b3 (ag.mk b6.bu b6.eC b6.bW b6.bF []) FO
def Zl:=K3 (afG [1,1,1,1]) aza
def Zk:=K8 (afG (cZ 87)) azb
def aFe {iM} (oV:BU iM) {bR} (dA:Zl bR) {back} (aS:Zk back) (n:Nat):Zk (Rh iM bR back n):=λdb fu t38 t39 t40 b3 b6 FO r h=>ie h (λc0 h=>be h λx2 cW h=>be h λdn gh h=>be h λja lC h=>ra (aS h) [aw c0,(0,cT.idx cW),XA (oV gh),(0,.laid (bA (Bx.rows false 107 13) (cT.map [dn]).symm)),(0,cT.app lC (cT.tK [dn]))]) (λc0 h=>ra (dA h) [aw c0])
def F0 (iM:ag->Int->Int->Option ag) (bR:amK):Nat->Int->Int->bJ->Int->Int->ag->ag->bJ->Option ag
 |0=>λ_ _ _ _ _ _ _ _=>none
 |n+1=>Rh iM bR (F0 iM bR n) n
def apP {iM} (oV:BU iM) {bR} (dA:Zl bR):∀n:Nat,Zk (F0 iM bR n)
 |0=>λ_ _ _ _ _ _ _ _ _ h=>nz h
 |n+1=>aFe oV dA (apP oV dA n) n
def aeH (iM:ag->Int->Int->Option ag) (n:Nat) (b3 b6:ag) (FO:bJ):Option ag:=
 some (ag.mk b3.bu b3.eC b3.bW b3.bF FO)
def aFd {iM} (oV:BU iM) (n:Nat):Zl (aeH iM n):=λb3 b6 FO r h=>rr h [(5,cT.gx 50 FO),(0,.norm [] [(6,.flat [.same,.same,.same,.same,.same,.same,.same,.same,.same,.same,.same,.same,.sl 0 0])])]
def C8 (iM:ag->Int->Int->Option ag) (n:Nat) (db fu:Int) (b3 b6:ag):Option ag:=
 F0 iM (aeH iM n) n db fu b3.fArgs (b3.fArgs.length:Int) 0 b3 (ag.mk 0 0 (aL.mk 0 0 (bj.mk 0 0 ByteArray.empty)) (aL.mk 0 0 (bj.mk 0 0 ByteArray.empty)) []) []
def acN {iM} (oV:BU iM) (n:Nat):aot (C8 iM n):=λdb fu b3 b6 r h=>ra (apP oV (aFd oV n) n h) [(3,cT.cw b3.fArgs),(1,.born [7] [] 50 true 107 13)]
def aeG (iM:ag->Int->Int->Option ag) (n:Nat) (p0:ag) (db fu:Int):Option ag:=
 if p0.bu==3 then
 if p0.bW.aC==1 then
 (H8 n p0.bW.cJ db fu).bind λfq=>KU iM (C8 iM n) n db fu (ag.mk p0.bu p0.eC (aL.mk p0.bW.aC fq p0.bW.aV) p0.bF p0.fArgs) (ag.mk 0 0 (aL.mk 0 0 (bj.mk 0 0 ByteArray.empty)) (aL.mk 0 0 (bj.mk 0 0 ByteArray.empty)) [])
 else
 KU iM (C8 iM n) n db fu p0 (ag.mk 0 0 (aL.mk 0 0 (bj.mk 0 0 ByteArray.empty)) (aL.mk 0 0 (bj.mk 0 0 ByteArray.empty)) [])
 else
 C8 iM n db fu p0 (ag.mk 0 0 (aL.mk 0 0 (bj.mk 0 0 ByteArray.empty)) (aL.mk 0 0 (bj.mk 0 0 ByteArray.empty)) [])
def aFc {iM} (oV:BU iM) (n:Nat):K3 (afG []) ahf (aeG iM n):=λp0 db fu r h=>ie h (λc0 h=>ie h (λc1 h=>be h λfq mU h=>ra (arx oV (acN oV n) n h) [bT c0,bw c1,vP (P8 n mU)]) (λc1 h=>ra (arx oV (acN oV n) n h) [bT c0,bw c1])) (λc0 h=>ra (acN oV n h) [bT c0])
def EC:Nat->ag->Int->Int->Option ag
 |0,_,_,_=>none
 |n+1,p0,db,fu=>aeG (EC n) n p0 db fu
def axA:∀n:Nat,BU (EC n)
 |0=>λ_ _ _ _ h=>nz h
 |n+1=>λ_ _ _ _ h=>ca (X:=x177) (aFc (axA n) n h)
def aoJ (r:(ah×cG×cf×bJ)):AV:=.agg [.str r.1.ar,lB qR r.2.1.length,tN r.1,lB mI r.2.2.1.length,.ms qQ 13 0 r.2.2.2.length]
def aib (r:(ah×cG×cf×bJ)):List (Nat×Bx):= [(qR,As r.2.1),(mI,yD r.2.2.1),(qQ,GX r.2.2.2)]
def x144:=fx E0 Tryz.f144 [qR,mI,qQ] [qR,mI,qQ]
def Oy:=Ax x144 aoJ aib
def azM (db fu t13 t14 t20 t21:Int) (dG:cG) (dt:bJ) (b3 b6:ah) (b8:bf) (vR:aH) (du:cf) (ui:bf) (rI:Nat):LS:=⟨[(1,aN db),(2,aN fu),(3,.loc 3 0),(6,.loc 6 0),(8,.loc 8 0),(12,.ms mI 2 0 du.length),(13,aN t13),(14,aN t14),(20,aN t20),(21,aN t21)],[(3,El b3.ar qR dG.length b3 mI du.length qQ dt.length),(6,Ji b6.ar b6),(8,.flat 121 [.ms zQ 1 0 vR.length,aN b8.aO]),(qR,As dG),(mI,aam (((hJ du)).set rI (oj ui.aO)) (rI*2+0) zQ vR.length),(qQ,GX dt),(zQ,v8 vR)]⟩
def ahv (db fu t13 t14:Int) (dG:cG) (dt:bJ) (b3 b6:ah) (du:cf):LS:=⟨[(1,aN db),(2,aN fu),(3,.loc 3 0),(6,.loc 6 0),(12,.ms mI 2 0 du.length),(13,aN t13),(14,aN t14)],(akm b3.ar qR dG.length b3 mI du.length qQ dt.length b6.ar b6 dG du dt)⟩
def azL (db fu t40 t41:Int) (dG:cG) (dt:bJ) (b3 b6:ah) (du:cf):LS:=⟨[(1,aN db),(2,aN fu),(3,.loc 3 0),(6,.loc 6 0),(40,aN t40),(41,aN t41)],(akm b3.ar qR dG.length b3 mI du.length qQ dt.length b6.ar b6 dG du dt)⟩
def azK (dG:cG) (dt:bJ) (b3 b6:ah) (du:cf):LS:=⟨[(3,.loc 3 0),(6,.loc 6 0)],(akm b3.ar qR dG.length b3 mI du.length qQ dt.length b6.ar b6 dG du dt)⟩
def azJ (db fu:Int) (dG:cG) (dt:bJ) (b3 b6:ah) (du:cf):LS:=⟨[(1,aN db),(2,aN fu),(3,.loc 3 0),(6,.loc 6 0)],(akm b3.ar qR dG.length b3 mI du.length qQ dt.length b6.ar b6 dG du dt)⟩
def ahu (t0:ah) (db fu:Int):LS:=⟨[(0,.agg (aks t0 qR mI qQ)),(1,aN db),(2,aN fu)],(akt qR t0 mI qQ)⟩
def RM (aR:acY) (back:Int->Int->Int->Int->Int->Int->cG->bJ->ah->ah->bf->aH->cf->bf->Nat->Option (ah×cG×cf×bJ)) (n:Nat) (db fu t13 t14 t20 t21:Int) (dG:cG) (dt:bJ) (b3 b6:ah) (b8:bf) (vR:aH) (du:cf) (ui:bf) (rI:Nat):Option (ah×cG×cf×bJ):=
 if decide (t21<t20) then
 (fE vR.length t21).bind λeA=>(vR[0+eA]?).bind λly=>(H8 n ly db fu).bind λgA=>(fE vR.length t21).bind λov=>(vR[0+ov]?).bind λmW=>(setAt vR (0+ov) gA).bind λz21=>back db fu t13 t14 t20 (bh (t21+1)) dG dt (ah.mk b3.ar dG b3.aP du dt) (ah.mk b6.ar [] b6.aP [] []) (bf.mk z21 b8.aO) z21 du (bf.mk [] ui.aO) rI
 else
 (setAt du rI (bf.mk vR ui.aO)).bind λz2=>aR db fu t13 t14 dG dt (ah.mk b3.ar dG b3.aP z2 dt) (ah.mk b6.ar [] b6.aP [] []) z2
def Zj:=K9 (Oy (cZ 485)) ahv
def Zi:=K15 (Oy (cZ 5733)) azM
def aGr {aR} (bK:Zj aR) {back} (aS:Zi back) (n:Nat):Zi (RM aR back n):=λdb fu t13 t14 t20 t21 dG dt b3 b6 b8 vR du ui rI r h=>ie h (λc0 h=>be h λeA mH h=>be h λly nU h=>be h λgA kZ h=>be h λov wh h=>be h λmW mq h=>be h λz21 xw h=>ra (aS h) [aw c0,(8,dO mH),(0,R3.row nU),jK (P8 n kZ),(0,dO wh),(0,R3.AB 0 [aN gA] mq xw),(2,.beq 8 (bA (λn_=>(Bx.flat 121 [.ms zQ 1 0 n_,aN b8.aO])) (ep xw))),(0,.beq mI (bA (aam (((hJ du)).set rI (oj ui.aO)) (rI*2+0) zQ) (ep xw)))]) (λc0 h=>be h λz2 lP h=>ra (bK h) [aw c0,(0,.ey zQ [.d]),(0,dM.ij R3 (r:= (oj ui.aO)) mI zQ 0 false 3 1 vR lP),(0,.seq 12 (bA (AV.ms mI 2 0) (ep lP))),(0,.beq 3 (bA (λn_=>((El b3.ar qR dG.length b3 mI n_ qQ dt.length))) (ep lP)))])
def Gf (aR:acY):Nat->Int->Int->Int->Int->Int->Int->cG->bJ->ah->ah->bf->aH->cf->bf->Nat->Option (ah×cG×cf×bJ)
 |0=>λ_ _ _ _ _ _ _ _ _ _ _ _ _ _ _=>none
 |n+1=>RM aR (Gf aR n) n
def aqj {aR} (bK:Zj aR):∀n:Nat,Zi (Gf aR n)
 |0=>λ_ _ _ _ _ _ _ _ _ _ _ _ _ _ _ _ h=>nz h
 |n+1=>aGr bK (aqj bK n) n
def RL (bR:acY) (n:Nat) (db fu t13 t14:Int) (dG:cG) (dt:bJ) (b3 b6:ah) (du:cf):Option (ah×cG×cf×bJ):=
 bR db fu t13 (bh (t14+1)) dG dt (ah.mk b3.ar dG b3.aP du dt) (ah.mk b6.ar [] b6.aP [] []) du
def OW:=K9 (Oy [0,1,0,1]) ahv
def aGq {bR} (dA:OW bR) (n:Nat):Zj (RL bR n):=λdb fu t13 t14 dG dt b3 b6 du r h=>ra (dA h) []
def RJ (dZ:Wf20) (back:acY) (n:Nat) (db fu t13 t14:Int) (dG:cG) (dt:bJ) (b3 b6:ah) (du:cf):Option (ah×cG×cf×bJ):=
 if decide (t14<t13) then
 (fE du.length t14).bind λx2=>(du[0+x2]?).bind λu5=>Gf (RL back n) n db fu t13 t14 (u5.ae.length:Int) 0 dG dt (ah.mk b3.ar dG b3.aP du dt) (ah.mk b6.ar [] b6.aP [] []) u5 u5.ae du (bf.mk [] u5.aO) (0+x2)
 else
 dZ db fu dG dt (ah.mk b3.ar dG b3.aP du dt) (ah.mk b6.ar [] b6.aP [] []) du
def Zh:=K7 (Oy [1,1]) azJ
def aGp {dZ} (gH:Zh dZ) {back} (aS:OW back) (n:Nat):OW (RJ dZ back n):=λdb fu t13 t14 dG dt b3 b6 du r h=>ie h (λc0 h=>be h λx2 cW h=>be h λu5 vq h=>ra (aqj (aGq aS n) n h) [aw c0,(0,dO cW),(0,dM.oh R3 mI zQ 0 false 3 1 u5.ae vq (oj u5.aO)),(0,dM.Ao [0] (oj u5.aO) vq)]) (λc0 h=>ra (gH h) [aw c0])
def CV (dZ:Wf20):Nat->Int->Int->Int->Int->cG->bJ->ah->ah->cf->Option (ah×cG×cf×bJ)
 |0=>λ_ _ _ _ _ _ _ _ _=>none
 |n+1=>RJ dZ (CV dZ n) n
def aqi {dZ} (gH:Zh dZ):∀n:Nat,OW (CV dZ n)
 |0=>λ_ _ _ _ _ _ _ _ _ _ h=>nz h
 |n+1=>aGp gH (aqi gH n) n
def RI (cV:Wf21) (back:acY) (n:Nat) (db fu t40 t41:Int) (dG:cG) (dt:bJ) (b3 b6:ah) (du:cf):Option (ah×cG×cf×bJ):=
 if decide (t41<t40) then
 (fE dt.length t41).bind λeA=>(dt[0+eA]?).bind λly=>(EC n ly db fu).bind λgA=>(fE dt.length t41).bind λov=>(dt[0+ov]?).bind λmW=>(setAt dt (0+ov) gA).bind λz21=>back db fu t40 (bh (t41+1)) dG z21 (ah.mk b3.ar dG b3.aP du z21) (ah.mk b6.ar [] b6.aP [] []) du
 else
 cV dG dt (ah.mk b3.ar dG b3.aP du dt) (ah.mk b6.ar [] b6.aP [] []) du
def Zg:=K5 (Oy [1,1,1]) azK
def Zf:=K9 (Oy [0,1,0,1,1]) azL
def aGo {cV} (eZ:Zg cV) {back} (aS:Zf back) (n:Nat):Zf (RI cV back n):=λdb fu t40 t41 dG dt b3 b6 du r h=>ie h (λc0 h=>be h λeA mH h=>be h λly nU h=>be h λgA kZ h=>be h λov wh h=>be h λmW mq h=>be h λz21 xw h=>ra (aS h) [aw c0,(8,dO mH),(0,cT.row nU),jK (axA n kZ),(0,dO wh),(0,cT.AB 0 (eX gA) mq xw),(2,.beq 3 (bA (El b3.ar qR dG.length b3 mI du.length qQ) (ep xw)))]) (λc0 h=>ra (eZ h) [aw c0])
def Ge (cV:Wf21):Nat->Int->Int->Int->Int->cG->bJ->ah->ah->cf->Option (ah×cG×cf×bJ)
 |0=>λ_ _ _ _ _ _ _ _ _=>none
 |n+1=>RI cV (Ge cV n) n
def aqh {cV} (eZ:Zg cV):∀n:Nat,Zf (Ge cV n)
 |0=>λ_ _ _ _ _ _ _ _ _ _ h=>nz h
 |n+1=>aGo eZ (aqh eZ n) n
def afk (n:Nat) (dG:cG) (dt:bJ) (b3 b6:ah) (du:cf):Option (ah×cG×cf×bJ):=
 some ((ah.mk b3.ar dG b3.aP du dt),dG,du,dt)
def aGn (n:Nat):Zg (afk n):=λdG dt b3 b6 du r h=>rr h []
def RH (n:Nat) (db fu:Int) (dG:cG) (dt:bJ) (b3 b6:ah) (du:cf):Option (ah×cG×cf×bJ):=
 Ge (afk n) n db fu (dt.length:Int) 0 dG dt (ah.mk b3.ar dG b3.aP du dt) (ah.mk b6.ar [] b6.aP [] []) du
def aGm (n:Nat):Zh (RH n):=λdb fu dG dt b3 b6 du r h=>ra (aqh (aGn n) n h) []
def afj (n:Nat) (t0:ah) (db fu:Int):Option (ah×cG×cf×bJ):=
 CV (RH n) n db fu (t0.ak.length:Int) 0 t0.ae t0.aD t0 (ah.mk ByteArray.empty [] 0 [] []) t0.ak
def aGl (n:Nat):K3 (Oy []) ahu (afj n):=λt0 db fu r h=>ra (aqi (aGm n) n h) []
def aec:=afj
def axM (n:Nat):K3 (Cx E0 144 aoJ aib) ahu (aec n):=λ_ _ _ _ h=>ca (X:=x144) (aGl n h)
def x145:=fx E0 Tryz.f145 [] []
def VE:=Ax x145 dq cu
def azI (l0:iK) (fy lS jX:Int) (t19:iK) (t20 t21 t32 t33:Int) (t36:iK) (t37 t38:Int) (b6 CI:l7):LS:=⟨[(0,Ar l0),(1,aN fy),(6,.loc 6 0),(7,aN lS),(8,aN jX),(10,.loc 10 0),(19,Ar t19),(20,aN t20),(21,aN t21),(30,.loc 6 0),(31,.loc 6 0),(32,aN t32),(33,aN t33),(34,rL),(36,Ar t36),(37,aN t37),(38,aN t38)],[(6,.flat 110 (Cy b6)),(10,.flat 110 (Cy CI))]⟩
def azH (l0:iK) (fy lS jX:Int) (t19:iK) (t20 t21 t32 t33:Int) (t36:iK) (t37 t38:Int) (b6:l7):LS:=⟨[(0,Ar l0),(1,aN fy),(6,.loc 6 0),(7,aN lS),(8,aN jX),(19,Ar t19),(20,aN t20),(21,aN t21),(30,.loc 6 0),(31,.loc 6 0),(32,aN t32),(33,aN t33),(34,rL),(36,Ar t36),(37,aN t37),(38,aN t38)],[(6,.flat 110 (Cy b6))]⟩
def azG (l0:iK) (fy lS jX:Int) (t19:iK) (t20 t21 t32 t33:Int) (b6:l7):LS:=⟨[(0,Ar l0),(1,aN fy),(7,aN lS),(8,aN jX),(19,Ar t19),(20,aN t20),(21,aN t21),(30,.loc 6 0),(31,.loc 6 0),(32,aN t32),(33,aN t33),(34,rL)],[(6,.flat 110 (Cy b6))]⟩
def azF (l0:iK) (fy:Int) (t19:iK) (t20 t21:Int):LS:=⟨[(0,Ar l0),(1,aN fy),(19,Ar t19),(20,aN t20),(21,aN t21)],[]⟩
def azE:LS:=⟨[],[]⟩
def aht (l0:iK) (fy:Int):LS:=⟨[(0,Ar l0),(1,aN fy)],[]⟩
def RG (aR:Wf22) (n:Nat) (l0:iK) (fy lS jX:Int) (t19:iK) (t20 t21 t32 t33:Int) (t36:iK) (t37 t38:Int) (b6 CI:l7):Option Bool:=
 if ((CI.f1.aC==b6.f0.aC) && ((CI.f1.dw==b6.f0.dw) && ((decide (CI.f1.cP=b6.f0.cP)) && true))) then
 aR l0 fy lS (bh (jX+1)) t19 t20 t21 t32 t33 t36 t37 (bh (t38+1)) b6
 else
 aR l0 fy lS jX t19 t20 t21 t32 t33 t36 t37 (bh (t38+1)) b6
def OV:=K13 (VE (cZ 89291)) azH
def arB {aR} (bK:OV aR) (n:Nat):K14 (VE (cZ 15097035)) azI (RG aR n):=λl0 fy lS jX t19 t20 t21 t32 t33 t36 t37 t38 b6 CI r h=>ie h (λc0 h=>ra (bK h) [bT c0]) (λc0 h=>ra (bK h) [bT c0])
def RF (bR:Wf23) (back:Wf22) (n:Nat) (l0:iK) (fy lS jX:Int) (t19:iK) (t20 t21 t32 t33:Int) (t36:iK) (t37 t38:Int) (b6:l7):Option Bool:=
 if decide (t38<t37) then
 (idx t36 t38).bind λx2=>if ((x2.f0.aC==b6.f0.aC) && ((x2.f0.dw==b6.f0.dw) && ((decide (x2.f0.cP=b6.f0.cP)) && true))) then
 RG back n l0 fy (bh (lS+1)) jX t19 t20 t21 t32 t33 t36 t37 t38 b6 x2
 else
 RG back n l0 fy lS jX t19 t20 t21 t32 t33 t36 t37 t38 b6 x2
 else
 bR l0 fy lS jX t19 t20 t21 t32 t33 b6
def Ze:=K10 (VE (cZ 31947)) azG
def aGk {bR} (dA:Ze bR) {back} (aS:OV back) (n:Nat):OV (RF bR back n):=λl0 fy lS jX t19 t20 t21 t32 t33 t36 t37 t38 b6 r h=>ie h (λc0 h=>be h λx2 cW h=>ie h (λc1 h=>ra (arB aS n h) [aw c0,(0,sZ.idx cW),qV c1]) (λc1 h=>ra (arB aS n h) [aw c0,(0,sZ.idx cW),qV c1])) (λc0 h=>ra (dA h) [aw c0])
def Gd (bR:Wf23):Nat->iK->Int->Int->Int->iK->Int->Int->Int->Int->iK->Int->Int->l7->Option Bool
 |0=>λ_ _ _ _ _ _ _ _ _ _ _ _ _=>none
 |n+1=>RF bR (Gd bR n) n
def aqg {bR} (dA:Ze bR):∀n:Nat,OV (Gd bR n)
 |0=>λ_ _ _ _ _ _ _ _ _ _ _ _ _ _ h=>nz h
 |n+1=>aGk dA (aqg dA n) n
def RE (cA:Wf24) (n:Nat) (l0:iK) (fy lS jX:Int) (t19:iK) (t20 t21 t32 t33:Int) (b6:l7):Option Bool:=
 if lS !=1 then
 some false
 else
 if jX !=1 then
 some false
 else
 cA l0 fy t19 t20 (bh (t21+1))
def OU:=K5 (VE [0,1,0,1,1]) azF
def aGj {cA} (dX:OU cA) (n:Nat):Ze (RE cA n):=λl0 fy lS jX t19 t20 t21 t32 t33 b6 r h=>ie h (λc0 h=>rr h [aU c0]) (λc0 h=>ie h (λc1 h=>rr h [aU c0,bq c1]) (λc1 h=>ra (dX h) [aU c0,bq c1]))
def RD (cV:Option Bool) (back:Wf24) (n:Nat) (l0:iK) (fy:Int) (t19:iK) (t20 t21:Int):Option Bool:=
 if decide (t21<t20) then
 (idx t19 t21).bind λx2=>(Ov n x2.f0).bind λx9=>if !x9 then
 some false
 else
 if x2.f0.aC !=fy then
 some false
 else
 Gd (RE back n) n l0 fy 0 0 t19 t20 t21 x2.f0.aC fy l0 (l0.length:Int) 0 x2
 else
 cV
def Zd:=K0 (VE [1,1,1]) azE
def aGi {cV} (eZ:Zd cV) {back} (aS:OU back) (n:Nat):OU (RD cV back n):=λl0 fy t19 t20 t21 r h=>ie h (λc0 h=>be h λx2 cW h=>be h λx9 kD h=>let zA:SE:=[aw c0,(0,sZ.idx cW),vP (XI n kD)];ie h (λc1 h=>bG h zA [aw c1]) (λc1 h=>ie h (λc2 h=>bG h zA [aw c1,fL c2]) (λc2 h=>cL (aqg (aGj aS n) n h) zA [aw c1,fL c2,(4,sZ.cw l0)]))) (λc0 h=>ra (eZ h) [aw c0])
def CU (cV:Option Bool):Nat->iK->Int->iK->Int->Int->Option Bool
 |0=>λ_ _ _ _ _=>none
 |n+1=>RD cV (CU cV n) n
def aqf {cV} (eZ:Zd cV):∀n:Nat,OU (CU cV n)
 |0=>λ_ _ _ _ _ _ h=>nz h
 |n+1=>aGi eZ (aqf eZ n) n
def La (n:Nat):Option Bool:=
 some true
def aGh (n:Nat):Zd (La n):=λr h=>rr h []
def afi (n:Nat) (l0:iK) (fy:Int):Option Bool:=
 if decide ((l0.length:Int)<1) then
 some false
 else
 if decide (16<(l0.length:Int)) then
 some false
 else
 CU (La n) n l0 fy l0 (l0.length:Int) 0
def aGg (n:Nat):K2 (VE []) aht (afi n):=λl0 fy r h=>let zA:SE:=[(2,sZ.cw l0)];ie h (λc0 h=>bG h zA [aw c0]) (λc0 h=>let zB:SE:=dk zA [aw c0,(2,sZ.cw l0)];ie h (λc1 h=>bG h zB [aw c1]) (λc1 h=>cL (aqf (aGh n) n h) zB [aw c1,(2,sZ.cw l0)]))
def anf:=afi
def aIT (n:Nat):K2 (Cx E0 145 dq cu) aht (anf n):=λ_ _ _ h=>ca (X:=x145) (aGg n h)
def Xm (r:(af×Bool)):AV:=.cm [.agg (eP r.1),.bool r.2]
def x95:=fx E0 Tryz.f95 [] []
def IG:=Ax x95 Xm cu
def aCC (t28:bl) (t29 t30:Int) (b2:af) (b3:aE) (b4 b6:af) (bz:bl):LS:=⟨[(2,.loc 2 0),(3,.loc 3 0),(4,.loc 4 0),(6,.loc 6 0),(28,sS t28),(29,aN t29),(30,aN t30)],[(2,jD (eP b2)),(3,v7 (ng b3)),(4,yC b4),(6,mS b6 bL bz.length),(bL,sU bz)]⟩
def aCB (lz:Nat) (t236 t237:Int) (b3:aE) (b4 b6:af) (xM jR:cG) (bz:bl) (dY:ah):LS:=⟨[(3,.loc 3 0),(4,.loc 4 0),(6,.loc 6 0),(9,.el bL 5 lz 0),(12,.ms 231 2 0 xM.length),(235,lB eO jR.length),(236,aN t236),(237,aN t237)],[(3,v7 (ng b3)),(4,yC b4),(6,mS b6 bL bz.length),(231,As xM),(bL,NM (((dy bz)).set lz (fB dY)) (lz*5+1) eO jR.length),(eO,As jR)]⟩
def aCA (lz:Nat) (b3:aE) (b4 b6:af) (xM:cG) (bz:bl):LS:=⟨[(3,.loc 3 0),(4,.loc 4 0),(6,.loc 6 0),(9,.el bL 5 lz 0),(12,.ms 231 2 0 xM.length)],[(3,v7 (ng b3)),(4,yC b4),(6,mS b6 bL bz.length),(231,As xM),(bL,sU bz)]⟩
def aCz (t299 t300 t311 IZ:Int) (b2:af) (b3:aE) (b4 b6:af) (mz:ah) (jR:cG) (qD:bJ) (jH bz:bl) (dY:ah) (gQ fc:Nat) (nF:cf):LS:=⟨[(2,.loc 2 0),(3,.loc 3 0),(4,.loc 4 0),(6,.loc 6 0),(15,.ms 500340 5 0 jH.length),(17,.loc 17 0),(298,.ms 520061 5 0 bz.length),(299,aN t299),(300,aN t300),(311,aN t311),(312,aN IZ)],[(2,jD (eP b2)),(3,v7 (ng b3)),(4,yC b4),(6,mS b6 520061 bz.length),(17,El mz.ar 1000611 jR.length mz 1000613 nF.length 1000614 qD.length),(500340,sU jH),(520061,Ek (((gone l8 fc (dy bz))).set gQ (fF dY.ar dY)) (gQ*5+4) 1000614 qD.length (gQ*5+3) 1000613 nF.length (gQ*5+1) 1000611 jR.length),(1000611,As jR),(1000613,yD nF),(1000614,GX qD)]⟩
def aCy (t299 t300:Int) (b2:af) (b3:aE) (b4 b6:af) (mz:ah) (jR:cG) (qD:bJ) (jH bz:bl) (dY:ah) (gQ fc:Nat) (nF:cf):LS:=⟨[(2,.loc 2 0),(3,.loc 3 0),(4,.loc 4 0),(6,.loc 6 0),(15,.ms 500340 5 0 jH.length),(17,.loc 17 0),(298,.ms 520061 5 0 bz.length),(299,aN t299),(300,aN t300)],[(2,jD (eP b2)),(3,v7 (ng b3)),(4,yC b4),(6,mS b6 520061 bz.length),(17,El mz.ar 1000611 jR.length mz 1000613 nF.length 1000614 qD.length),(500340,sU jH),(520061,Ek (((gone l8 fc (dy bz))).set gQ (fF dY.ar dY)) (gQ*5+4) 1000614 qD.length (gQ*5+3) 1000613 nF.length (gQ*5+1) 1000611 jR.length),(1000611,As jR),(1000613,yD nF),(1000614,GX qD)]⟩
def aCx (t299 t300:Int) (b2:af) (b3:aE) (b4 b6:af) (jH bz:bl) (fc:Nat):LS:=⟨[(2,.loc 2 0),(3,.loc 3 0),(4,.loc 4 0),(6,.loc 6 0),(15,.ms 500340 5 0 jH.length),(298,.ms 520061 5 0 bz.length),(299,aN t299),(300,aN t300)],[(2,jD (eP b2)),(3,v7 (ng b3)),(4,yC b4),(6,mS b6 520061 bz.length),(500340,sU jH),(520061,.tree 44 5 l8 (gone l8 fc (dy bz)) [])]⟩
def aCw (t299 t300:Int) (b2:af) (b3:aE) (b4 b6:af) (jH bz:bl) (fc:Nat):LS:=⟨[(2,.loc 2 0),(3,.loc 3 0),(4,.loc 4 0),(6,.loc 6 0),(15,.ms 500340 5 0 jH.length),(298,.ms 520061 5 0 bz.length),(299,aN t299),(300,aN t300)],[(2,jD (eP b2)),(3,v7 (ng b3)),(4,yC b4),(6,mS b6 520061 bz.length),(500340,sU jH),(520061,.tree 44 5 l8 (gone l8 fc (dy bz)) [])]⟩
def aCv (b4 b6:af) (jH bz:bl) (fc:Nat):LS:=⟨[(4,.loc 4 0),(6,.loc 6 0),(15,.ms 500340 5 0 jH.length)],[(4,yC b4),(6,mS b6 520061 bz.length),(500340,sU jH),(520061,.tree 44 5 l8 (gone l8 fc (dy bz)) [])]⟩
def aCu (b4 b6:af) (Oh:bl):LS:=⟨[(4,.loc 4 0),(6,.loc 6 0)],[(4,yC b4),(6,mS b6 nY Oh.length),(nY,sU Oh)]⟩
def aCt (lz:Nat) (n10:Int) (wL:Bool) (b2:af) (b3:aE) (b4 b6:af) (bz:bl):LS:=⟨[(2,.loc 2 0),(3,.loc 3 0),(4,.loc 4 0),(6,.loc 6 0),(9,.el bL 5 lz 0),(10,aN n10),(11,.bool wL)],[(2,jD (eP b2)),(3,v7 (ng b3)),(4,yC b4),(6,mS b6 bL bz.length),(bL,sU bz)]⟩
def ayx (b2:af) (b3:aE) (b4 b6:af) (bz:bl):LS:=⟨[(2,.loc 2 0),(3,.loc 3 0),(4,.loc 4 0),(6,.loc 6 0)],[(2,jD (eP b2)),(3,v7 (ng b3)),(4,yC b4),(6,mS b6 bL bz.length),(bL,sU bz)]⟩
def LH (s0:af) (m1:aE):LS:=⟨[(0,.agg (eP s0)),(1,.agg (ng m1))],[]⟩
def X3 (Ep:Wf25) (back:bl->Int->Int->af->aE->af->af->bl->Option (af×Bool)) (n:Nat) (t28:bl) (t29 t30:Int) (b2:af) (b3:aE) (b4 b6:af) (bz:bl):Option (af×Bool):=
 if decide (t30<t29) then
 (idx t28 t30).bind λx2=>(aee n x2).bind λeA=>(app bz [eA]).bind λeT=>(setAt eT bz.length eA).bind λwF=>back t28 t29 (bh (t30+1)) b2 b3 (af.mk b4.av []) (af.mk b6.av wF) wF
 else
 Ep b2 b3 (af.mk b4.av []) (af.mk b6.av bz) bz
def Zc:=K5 (IG [1,1,1,1]) ayx
def Zb:=K8 (IG (cZ 87)) aCC
def aJz {Ep} (XE:Zc Ep) {back} (aS:Zb back) (n:Nat):Zb (X3 Ep back n):=λt28 t29 t30 b2 b3 b4 b6 bz r h=>ie h (λc0 h=>be h λx2 cW h=>be h λeA mH h=>be h λeT jE h=>be h λwF pF h=>ra (aS h) [aw c0,(0,bI.idx cW),(6,rT (axO n mH) [(330370001,nZ),(330370003,vo),(330370004,tU)]),(1,bI.IX jE),(2,.beq bL (bA (λq_=>Bx.tree 44 5 l8 q_ [(bz.length*5+1,lB 330370001 eA.ae.length),(bz.length*5+3,.ms 330370003 2 0 eA.ak.length),(bz.length*5+4,.ms 330370004 13 0 eA.aD.length)]) (bI.apS (r:= (fF eA.ar eA)) jE))),(0,.ey 330370001 [.d,.d]),(0,bI.jr dv (r:= (fF eA.ar eA)) bL 330370001 1 false 73 2 eA.ae pF (Jg eA.ar eA)),(0,bI.jr dM (r:= (Jg eA.ar eA)) bL 330370003 3 false 121 2 eA.ak pF (yE eA)),(0,.ey 330370004 sV),(0,bI.ij cT (r:= (yE eA)) bL 330370004 4 false 107 13 eA.aD pF),(2,.beq 6 (bA (mS b6 bL) (((bI.apL jE).trans (ep pF)))))]) (λc0 h=>ra (XE h) [aw c0])
def MG (Ep:Wf25):Nat->bl->Int->Int->af->aE->af->af->bl->Option (af×Bool)
 |0=>λ_ _ _ _ _ _ _ _=>none
 |n+1=>X3 Ep (MG Ep n) n
def awE {Ep} (XE:Zc Ep):∀n:Nat,Zb (MG Ep n)
 |0=>λ_ _ _ _ _ _ _ _ _ h=>nz h
 |n+1=>aJz XE (awE XE n) n
def X2 (bR:Wf26) (back:Nat->Int->Int->aE->af->af->cG->cG->bl->ah->Option (af×Bool)) (n:Nat) (lz:Nat) (t236 t237:Int) (b3:aE) (b4 b6:af) (xM jR:cG) (bz:bl) (dY:ah):Option (af×Bool):=
 if decide (t237<t236) then
 (fE jR.length t237).bind λx3=>(jR[0+x3]?).bind λx5=>(H8 n t237 b3.aX b3.jo).bind λgA=>(fE xM.length gA).bind λjz=>(xM[0+jz]?).bind λuK=>(setAt xM (0+jz) x5).bind λz22=>back lz t236 (bh (t237+1)) b3 (af.mk b4.av []) (af.mk b6.av bz) z22 jR bz (ah.mk dY.ar [] dY.aP dY.ak dY.aD)
 else
 (setAt bz lz (ah.mk dY.ar jR dY.aP dY.ak dY.aD)).bind λz2=>bR lz b3 (af.mk b4.av []) (af.mk b6.av z2) xM z2
def Za:=K6 (IG (cZ 4060671)) aCA
def Y9:=K10 (IG (cZ 11400703)) aCB
def aJy {bR} (dA:Za bR) {back} (aS:Y9 back) (n:Nat):Y9 (X2 bR back n):=λlz t236 t237 b3 b4 b6 xM jR bz dY r h=>ie h (λc0 h=>be h λx3 fX h=>be h λx5 n9 h=>be h λgA kZ h=>be h λjz nT h=>be h λuK Cj h=>be h λz22 wg h=>ra (aS h) [aw c0,(1,dO fX),(0,dv.row n9),axc (P8 n kZ),(1,dO nT),(0,dv.AB 0 (HE x5) Cj wg),(2,.seq 12 (bA (AV.ms 231 2 0) (ep wg)))]) (λc0 h=>be h λz2 lP h=>ra (dA h) [aw c0,(0,.ey eO [.d,.d]),(0,bI.ij dv (r:= (fB dY)) bL eO 1 false 73 2 jR lP),(0,.beq 6 (bA (mS b6 bL) (ep lP)))])
def MF (bR:Wf26):Nat->Nat->Int->Int->aE->af->af->cG->cG->bl->ah->Option (af×Bool)
 |0=>λ_ _ _ _ _ _ _ _ _ _=>none
 |n+1=>X2 bR (MF bR n) n
def awD {bR} (dA:Za bR):∀n:Nat,Y9 (MF bR n)
 |0=>λ_ _ _ _ _ _ _ _ _ _ _ h=>nz h
 |n+1=>aJy dA (awD dA n) n
def X1 (wT:Wf27) (n:Nat) (lz:Nat) (b3:aE) (b4 b6:af) (xM:cG) (bz:bl):Option (af×Bool):=
 (bz[lz]?).bind λu5=>(aec n (ah.mk u5.ar xM u5.aP u5.ak u5.aD) b3.aX b3.jo).bind λfq=>(setAt bz lz (ah.mk fq.1.ar fq.2.1 fq.1.aP fq.2.2.1 fq.2.2.2)).bind λz19=>wT (af.mk b4.av []) (af.mk b6.av z19) z19
def Y8:=K3 (IG (cZ 2047)) aCu
def aJx {wT} (JV:Y8 wT) (n:Nat):Za (X1 wT n):=λlz b3 b4 b6 xM bz r h=>be h λu5 vq h=>be h λfq mU h=>be h λz19 Hg h=>ra (JV h) [(4,bI.abO 1 (fB u5) vq),(0,bI.vK dM (r:= (fB u5)) bL lr 3 false 121 2 u5.ak vq (ow u5)),(0,bI.vK cT (r:= (ow u5)) bL iB 4 false 107 13 u5.aD vq (fF u5.ar u5)),(3,bI.Ao [4,3,1] (fF u5.ar u5) vq),(4,dh (axM n mU) [(231,qR),(lr,mI),(iB,qQ)]),(1,bI.hrwS (fF u5.ar u5) (fF fq.1.ar fq.1) vq),(0,.ey 231 [.d,.d]),(0,bI.jr dv (r:= (fF fq.1.ar fq.1)) bL 231 1 false 73 2 fq.2.1 Hg (Uf fq.1.ar fq.2.1 fq.1)),(0,bI.jr dM (r:= (Uf fq.1.ar fq.2.1 fq.1)) bL lr 3 false 121 2 fq.2.2.1 Hg (Uc fq.1.ar fq.2.1 fq.1 fq.2.2.1)),(0,.ey iB sV),(0,bI.ij cT (r:= (Uc fq.1.ar fq.2.1 fq.1 fq.2.2.1)) bL iB 4 false 107 13 fq.2.2.2 Hg),(0,.fO bL nY),(0,.beq 6 (bA (mS b6 nY) (ep Hg)))]
def QK (cV:Wf28) (back:Int->Int->Int->Int->af->aE->af->af->ah->cG->bJ->bl->bl->ah->Nat->Nat->cf->Option (af×Bool)) (n:Nat) (t299 t300 t311 IZ:Int) (b2:af) (b3:aE) (b4 b6:af) (mz:ah) (jR:cG) (qD:bJ) (jH bz:bl) (dY:ah) (gQ fc:Nat) (nF:cf):Option (af×Bool):=
 if decide (IZ<t311) then
 (fE nF.length IZ).bind λx7=>(nF[0+x7]?).bind λeA=>if eA.aO==b3.aO then
 (lZ gQ fc).bind λw14=>(setAt bz gQ (ah.mk dY.ar [] dY.aP [] [])).bind λz15=>some (b2,false)
 else
 (fE nF.length IZ).bind λuK=>(nF[0+uK]?).bind λx24=>(H8 n x24.aO b3.aO (-1)).bind λpB=>(fE nF.length IZ).bind λya=>(nF[0+ya]?).bind λu33=>(setAt nF (0+ya) (bf.mk u33.ae pB)).bind λz37=>back t299 t300 t311 (bh (IZ+1)) b2 b3 (af.mk b4.av []) (af.mk b6.av bz) (ah.mk mz.ar jR mz.aP z37 qD) jR qD jH bz (ah.mk dY.ar [] dY.aP [] []) gQ fc z37
 else
 cV t299 t300 b2 b3 (af.mk b4.av []) (af.mk b6.av bz) (ah.mk mz.ar jR mz.aP nF qD) jR qD jH bz (ah.mk dY.ar [] dY.aP [] []) gQ fc nF
def Y7:=K15 (IG (cZ 130551903743)) aCy
def Y6:=K17 (IG (cZ 371070072319)) aCz
def aJw {cV} (eZ:Y7 cV) {back} (aS:Y6 back) (n:Nat):Y6 (QK cV back n):=λt299 t300 t311 IZ b2 b3 b4 b6 mz jR qD jH bz dY gQ fc nF r h=>ie h (λc0 h=>be h λx7 kX h=>be h λeA mH h=>let zA:SE:=[aw c0,(5,dO kX),(1,dM.row mH)];ie h (λc1 h=>be h λw14 hw14 h=>be h λz15 Ch h=>bG h zA [bq c1,(0,.tun bL),(0,.beq bL (bA (λq_=>Bx.tree 44 5 l8 q_ []) (bI.alP (l:= l8) (r:= (fF dY.ar dY)) hw14 Ch)))]) (λc1 h=>be h λuK Cj h=>be h λx24 hx24 h=>be h λpB uW h=>be h λya Hk h=>be h λu33 hu33 h=>be h λz37 N1 h=>cL (aS h) zA [bq c1,(6,dO Cj),(1,dM.row hx24),jK (P8 n uW),(0,dO Hk),(1,dM.abO 1 (ako u33) hu33),(2,dM.ajA (r:= (ako u33)) lr 1 (.int .i64 pB) N1),(0,.beq 17 (bA (λn_=>((El mz.ar eO jR.length mz lr n_ iB qD.length))) (ep N1))),(0,.beq bL (bA (λn_=>((Ek (((gone l8 fc (dy bz))).set gQ (fF dY.ar dY)) (gQ*5+4) iB qD.length (gQ*5+3) lr n_ (gQ*5+1) eO jR.length))) (ep N1)))])) (λc0 h=>ra (eZ h) [aw c0])
def HZ (cV:Wf28):Nat->Int->Int->Int->Int->af->aE->af->af->ah->cG->bJ->bl->bl->ah->Nat->Nat->cf->Option (af×Bool)
 |0=>λ_ _ _ _ _ _ _ _ _ _ _ _ _ _ _ _ _=>none
 |n+1=>QK cV (HZ cV n) n
def awC {cV} (eZ:Y7 cV):∀n:Nat,Y6 (HZ cV n)
 |0=>λ_ _ _ _ _ _ _ _ _ _ _ _ _ _ _ _ _ _ h=>nz h
 |n+1=>aJw eZ (awC eZ n) n
def X0 (dZ:avw) (n:Nat) (t299 t300:Int) (b2:af) (b3:aE) (b4 b6:af) (mz:ah) (jR:cG) (qD:bJ) (jH bz:bl) (dY:ah) (gQ fc:Nat) (nF:cf):Option (af×Bool):=
 (app jH [(ah.mk mz.ar jR mz.aP nF qD)]).bind λx4=>(setAt x4 jH.length (ah.mk mz.ar jR mz.aP nF qD)).bind λz7=>(lZ gQ fc).bind λw8=>(setAt bz gQ (ah.mk dY.ar [] dY.aP [] [])).bind λz9=>dZ t299 t300 b2 b3 (af.mk b4.av []) (af.mk b6.av z9) z7 z9 (fc+1)
def aos:=K9 (IG (cZ 8145335807)) aCx
def aJv {dZ} (gH:aos dZ) (n:Nat):Y7 (X0 dZ n):=λt299 t300 b2 b3 b4 b6 mz jR qD jH bz dY gQ fc nF r h=>be h λx4 kY h=>be h λz7 hz7 h=>be h λw8 hw8 h=>be h λz9 hz9 h=>ra (gH h) [(3,bI.IX kY),(0,.beq 500340 (bA (λq_=>Bx.tree 44 5 l8 q_ [(jH.length*5+1,lB eO jR.length),(jH.length*5+3,lB lr nF.length),(jH.length*5+4,.ms iB 13 0 qD.length)]) (bI.apS (r:= (fF mz.ar mz)) kY))),(1,.ey eO [.d,.d]),(0,bI.jr dv (r:= (fF mz.ar mz)) 500340 eO 1 false 73 2 jR hz7 (Uf mz.ar jR mz)),(0,bI.jr dM (r:= (Uf mz.ar jR mz)) 500340 lr 3 false 121 2 nF hz7 (Uc mz.ar jR mz nF)),(0,.ey iB sV),(0,bI.ij cT (r:= (Uc mz.ar jR mz nF)) 500340 iB 4 false 107 13 qD hz7),(0,.tun bL),(0,.beq bL (bA (λq_=>Bx.tree 44 5 l8 q_ []) (bI.alP (l:= l8) (r:= (fF dY.ar dY)) hw8 hz9))),(0,.seq 15 (bA (AV.ms 500340 5 0) (((bI.apL kY).trans (ep hz7))))),(0,.seq 298 (bA (AV.ms bL 5 0) (ep hz9))),(0,.beq 6 (bA (mS b6 bL) (ep hz9)))]
def M0 (jT:avw) (n:Nat) (t299 t300:Int) (b2:af) (b3:aE) (b4 b6:af) (jH bz:bl) (fc:Nat):Option (af×Bool):=
 jT t299 (bh (t300+1)) b2 b3 (af.mk b4.av []) (af.mk b6.av bz) jH bz fc
def OT:=K9 (IG (cZ 360707583)) aCw
def ayd {jT} (qA:OT jT) (n:Nat):aos (M0 jT n):=λt299 t300 b2 b3 b4 b6 jH bz fc r h=>ra (qA h) []
def QJ (kV:Wf30) (back:avw) (n:Nat) (t299 t300:Int) (b2:af) (b3:aE) (b4 b6:af) (jH bz:bl) (fc:Nat):Option (af×Bool):=
 if decide (t300<t299) then
 (fE bz.length t300).bind λx3=>(bz[0+x3]?).bind λu6=>(lZ (0+x3) fc).bind λw7=>if t300==b3.aO then
 (setAt bz (0+x3) (ah.mk u6.ar [] u6.aP [] [])).bind λz15=>M0 back n t299 t300 b2 b3 (af.mk b4.av []) (af.mk b6.av z15) jH z15 (fc+1)
 else
 HZ (X0 (M0 back n) n) n t299 t300 (u6.ak.length:Int) 0 b2 b3 (af.mk b4.av []) (af.mk b6.av bz) u6 u6.ae u6.aD jH bz (ah.mk u6.ar [] u6.aP [] []) (0+x3) fc u6.ak
 else
 kV (af.mk b4.av []) (af.mk b6.av bz) jH bz fc
def Y5:=K5 (IG (cZ 125826559)) aCv
def aJu {kV} (rV:Y5 kV) {back} (aS:OT back) (n:Nat):OT (QJ kV back n):=λt299 t300 b2 b3 b4 b6 jH bz fc r h=>ie h (λc0 h=>be h λx3 fX h=>be h λu6 zW h=>be h λw7 hw7 h=>let zA:SE:=[aw c0,(1,dO fX),(0,bI.aCh dv l8 hw7 bL eO 1 false 73 2 u6.ae zW (fB u6)),(0,bI.anY dM l8 hw7 (fB u6) bL lr 3 false 121 2 u6.ak zW (ow u6)),(0,bI.anY cT l8 hw7 (ow u6) bL iB 4 false 107 13 u6.aD zW (fF u6.ar u6)),(0,bI.aHN l8 hw7 [4,3,1] (fF u6.ar u6) zW)];ie h (λc1 h=>be h λz15 Ch h=>cL (ayd aS n h) zA [jj c1,(0,.tun bL),(0,.beq bL (bA (λq_=>Bx.tree 44 5 l8 q_ []) (bI.alP (l:= l8) (r:= (fF u6.ar u6)) hw7 Ch))),(0,.seq 298 (bA (AV.ms bL 5 0) (ep Ch))),(0,.beq 6 (bA (mS b6 bL) (ep Ch)))]) (λc1 h=>cL (awC (aJv (ayd aS n) n) n h) zA [jj c1])) (λc0 h=>ra (rV h) [aw c0])
def D7 (kV:Wf30):Nat->Int->Int->af->aE->af->af->bl->bl->Nat->Option (af×Bool)
 |0=>λ_ _ _ _ _ _ _ _ _=>none
 |n+1=>QJ kV (D7 kV n) n
def awB {kV} (rV:Y5 kV):∀n:Nat,OT (D7 kV n)
 |0=>λ_ _ _ _ _ _ _ _ _ _ h=>nz h
 |n+1=>aJu rV (awB rV n) n
def XZ (wT:Wf27) (n:Nat) (b4 b6:af) (jH bz:bl) (fc:Nat):Option (af×Bool):=
 wT (af.mk b4.av []) (af.mk b6.av jH) jH
def aJt {wT} (JV:Y8 wT) (n:Nat):Y5 (XZ wT n):=λb4 b6 jH bz fc r h=>ra (JV h) [(3,.fO 500340 nY)]
def uJ (n:Nat) (b4 b6:af) (Oh:bl):Option (af×Bool):=
 (F94 n (af.mk b6.av Oh)).bind λx3=>some ((af.mk b6.av Oh),x3==0)
def HT (n:Nat):Y8 (uJ n):=λb4 b6 Oh r h=>be h λx3 fX h=>rr h [(0,bI.tfr false nY Oh),jK (auK n fX)]
def QI (n:Nat) (lz:Nat) (n10:Int) (wL:Bool) (b2:af) (b3:aE) (b4 b6:af) (bz:bl):Option (af×Bool):=
 if b3.bu==1 then
 (Ov n b3.aV).bind λx7=>if !x7 then
 some (b2,false)
 else
 if b3.aV.aC !=b3.aC then
 some (b2,false)
 else
 (bz[lz]?).bind λxe=>(app xe.ae [(cO.mk b3.ar b3.aC)]).bind λBK=>(setAt bz lz (ah.mk xe.ar BK xe.aP xe.ak xe.aD)).bind λz36=>uJ n (af.mk b4.av []) (af.mk b6.av z36) z36
 else
 if b3.bu==2 then
 (bz[lz]?).bind λu7=>if !wL then
 (setAt bz lz u7).bind λwF=>some (b2,false)
 else
 (Ov n b3.aV).bind λja=>if !ja then
 (setAt bz lz u7).bind λz22=>some (b2,false)
 else
 (fE u7.ae.length b3.aX).bind λpB=>(u7.ae[0+pB]?).bind λBK=>if b3.aV.aC !=BK.aC then
 (setAt bz lz u7).bind λz37=>some (b2,false)
 else
 (aed n u7 b3.aX).bind λEX=>if EX then
 (setAt bz lz u7).bind λEV=>some (b2,false)
 else
 (setAt bz lz u7).bind λEV=>(EV[lz]?).bind λqH=>(wo qH.ae.length b3.aX).bind λx55=>(HJ qH.ae.length (bh (b3.aX+1))).bind λx64=>(Kx qH.ae x55 ((qH.ae.drop (0+x64)).take (qH.ae.length - x64))).bind λx66=>(aec n (ah.mk qH.ar x66 qH.aP qH.ak qH.aD) b3.aX (-1)).bind λpy=>(setAt EV lz (ah.mk py.1.ar py.2.1 py.1.aP py.2.2.1 py.2.2.2)).bind λz81=>uJ n (af.mk b4.av []) (af.mk b6.av z81) z81
 else
 if b3.bu==3 then
 if !wL then
 some (b2,false)
 else
 (bz[lz]?).bind λjA=>if decide (b3.jo<jA.aP) then
 some (b2,false)
 else
 if !decide (b3.jo<n10) then
 some (b2,false)
 else
 (B0 n10 ((cO.mk ByteArray.empty 0):cO)).bind λpB=>(bz[lz]?).bind λu35=>MF (X1 (uJ n) n) n lz (u35.ae.length:Int) 0 b3 (af.mk b4.av []) (af.mk b6.av bz) pB u35.ae bz (ah.mk u35.ar [] u35.aP u35.ak u35.aD)
 else
 if b3.bu==4 then
 if decide (b3.aX<0) then
 some (b2,false)
 else
 if !decide (b3.aX<n10) then
 some (b2,false)
 else
 (bz[lz]?).bind λIj=>(fE Ij.ae.length b3.aX).bind λya=>(Ij.ae[0+ya]?).bind λpA=>(setAt Ij.ae (0+ya) (cO.mk b3.ar pA.aC)).bind λz34=>(setAt bz lz (ah.mk Ij.ar z34 Ij.aP Ij.ak Ij.aD)).bind λz36=>uJ n (af.mk b4.av []) (af.mk b6.av z36) z36
 else
 if b3.bu==5 then
 (bz[lz]?).bind λxe=>(setAt bz lz (ah.mk b3.ar xe.ae xe.aP xe.ak xe.aD)).bind λz20=>uJ n (af.mk b4.av []) (af.mk b6.av z20) z20
 else
 if b3.bu==7 then
 D7 (XZ (uJ n) n) n (bz.length:Int) 0 b2 b3 (af.mk b4.av []) (af.mk b6.av bz) [] bz 0
 else
 (bz[lz]?).bind λgp=>if !wL then
 (setAt bz lz gp).bind λz23=>some (b2,false)
 else
 (fE gp.ae.length b3.aX).bind λpB=>(gp.ae[0+pB]?).bind λBK=>(anf n b3.cI BK.aC).bind λpA=>if !pA then
 (setAt bz lz gp).bind λz39=>some (b2,false)
 else
 (aed n gp b3.aX).bind λx43=>if x43 then
 (setAt bz lz gp).bind λz46=>some (b2,false)
 else
 (setAt bz lz gp).bind λz46=>uJ n (af.mk b4.av []) (af.mk b6.av z46) z46
def ayc (n:Nat):K8 (IG (cZ 1023)) aCt (QI n):=λlz n10 wL b2 b3 b4 b6 bz r h=>ie h (λc0 h=>be h λx7 kX h=>let zA:SE:=[bq c0,na (XI n kX)];ie h (λc1 h=>bG h zA [aw c1]) (λc1 h=>ie h (λc2 h=>bG h zA [aw c1,jj c2]) (λc2 h=>be h λxe alD h=>be h λBK Hj h=>be h λz36 abE h=>cL (HT n h) zA [aw c1,jj c2,(1,bI.oh dv bL eO 1 false 73 2 xe.ae alD (fB xe)),(11,dv.app Hj (dv.tK [(cO.mk b3.ar b3.aC)])),(2,bI.UN 1 (fB xe) (fB xe) alD),(0,.ey eO [.d,.d]),(0,bI.ij dv (r:= (fB xe)) bL eO 1 false 73 2 BK abE),(0,.fO bL nY),(0,.beq 6 (bA (mS b6 nY) (ep abE)))]))) (λc0 h=>let zA:SE:=[bq c0];ie h (λc1 h=>be h λu7 hu7 h=>let zB:SE:=dk zA [aU c1,(1,bI.oh dv bL eO 1 false 73 2 u7.ae hu7 (fB u7)),(0,bI.vK dM (r:= (fB u7)) bL lr 3 false 121 2 u7.ak hu7 (ow u7)),(0,bI.vK cT (r:= (ow u7)) bL iB 4 false 107 13 u7.aD hu7 (fF u7.ar u7))];ie h (λc2 h=>be h λwF pF h=>bG h zB [aU c2,(6,.ey iB sV),(0,bI.jr cT (r:= (fF u7.ar u7)) bL iB 4 false 107 13 u7.aD pF (ow u7)),(0,bI.jr dM (r:= (ow u7)) bL lr 3 false 121 2 u7.ak pF (fB u7)),(0,.ey eO [.d,.d]),(0,bI.ij dv (r:= (fB u7)) bL eO 1 false 73 2 u7.ae pF)]) (λc2 h=>be h λja lC h=>let zC:SE:=dk zB [aU c2,na (XI n lC)];ie h (λc3 h=>be h λz22 wg h=>bG h zC [aw c3,(5,.ey iB sV),(0,bI.jr cT (r:= (fF u7.ar u7)) bL iB 4 false 107 13 u7.aD wg (ow u7)),(0,bI.jr dM (r:= (ow u7)) bL lr 3 false 121 2 u7.ak wg (fB u7)),(0,.ey eO [.d,.d]),(0,bI.ij dv (r:= (fB u7)) bL eO 1 false 73 2 u7.ae wg)]) (λc3 h=>be h λpB uW h=>be h λBK Hj h=>let zD:SE:=dk zC [aw c3,(8,bI.Ao [4,3,1] (fF u7.ar u7) hu7),(2,dO uW),(1,dv.row Hj)];ie h (λc4 h=>be h λz37 N1 h=>bG h zD [aw c4,(3,.ey iB sV),(0,bI.jr cT (r:= (fF u7.ar u7)) bL iB 4 false 107 13 u7.aD N1 (ow u7)),(0,bI.jr dM (r:= (ow u7)) bL lr 3 false 121 2 u7.ak N1 (fB u7)),(0,.ey eO [.d,.d]),(0,bI.ij dv (r:= (fB u7)) bL eO 1 false 73 2 u7.ae N1)]) (λc4 h=>be h λEX abG h=>let zE:SE:=dk zD [aw c4,(4,bI.Ao [4,3,1] (fF u7.ar u7) hu7),(2,dh (bP.yI (lo:= []) (n:=4) (bs:= (akt mP u7 qi vk)) (xs:= [.agg (aks u7 mP qi vk),.int .i64 b3.aX]) (P:=(eU u7.ae).length=u7.ae.length/\(hJ u7.ak).length=u7.ak.length/\(fH u7.aD).length=u7.aD.length/\True) (axN n abG) (by kernel_rfl) (by kernel_rfl) ⟨dv.len u7.ae,dM.len u7.ak,cT.len u7.aD,trivial⟩ (by kernel_rfl) (by kernel_rfl)) [(eO,mP),(lr,qi),(iB,vk)]),(1,.ey iB sV)];ie h (λc5 bO=>by subst c5;exact (be bO λEV xv bO=>bG bO zE [(0,bI.jr cT (r:= (fF u7.ar u7)) bL iB 4 false 107 13 u7.aD xv (ow u7)),(0,bI.jr dM (r:= (ow u7)) bL lr 3 false 121 2 u7.ak xv (fB u7)),(0,.ey eO [.d,.d]),(0,bI.ij dv (r:= (fB u7)) bL eO 1 false 73 2 u7.ae xv)])) (λc5 bO=>by subst c5;exact (be bO λEV xv bO=>be bO λqH UK bO=>be bO λx55 hx55 bO=>be bO λx64 hx64 bO=>be bO λx66 hx66 bO=>be bO λpy atX bO=>be bO λz81 alz bO=>cL (HT n bO) zE [(0,bI.jr cT (r:= (fF u7.ar u7)) bL iB 4 false 107 13 u7.aD xv (ow u7)),(0,bI.jr dM (r:= (ow u7)) bL lr 3 false 121 2 u7.ak xv (fB u7)),(0,.ey eO [.d,.d]),(0,bI.ij dv (r:= (fB u7)) bL eO 1 false 73 2 u7.ae xv),(0,bI.oh dv bL eO 1 false 73 2 qH.ae UK (fB qH)),(7,dv.wo (xs:=qH.ae) hx55 (vI rfl)),(7,dv.HJ (xs:=qH.ae) hx64 (vI rfl)),(0,dv.Kx hx66 (dv.sr (xs:=qH.ae) (aBo hx64 (vI rfl)))),(2,bI.UN 1 (fB qH) (fB qH) UK),(0,bI.vK dM (r:= (fB qH)) bL lr 3 false 121 2 qH.ak UK (ow qH)),(0,bI.vK cT (r:= (ow qH)) bL iB 4 false 107 13 qH.aD UK (fF qH.ar qH)),(3,bI.Ao [4,3,1] (fF qH.ar qH) UK),(2,dh (axM n atX) [(eO,qR),(lr,mI),(iB,qQ)]),(1,bI.hrwS (fF qH.ar qH) (fF py.1.ar py.1) UK),(0,.ey eO [.d,.d]),(0,bI.jr dv (r:= (fF py.1.ar py.1)) bL eO 1 false 73 2 py.2.1 alz (Uf py.1.ar py.2.1 py.1)),(0,bI.jr dM (r:= (Uf py.1.ar py.2.1 py.1)) bL lr 3 false 121 2 py.2.2.1 alz (Uc py.1.ar py.2.1 py.1 py.2.2.1)),(0,.ey iB sV),(0,bI.ij cT (r:= (Uc py.1.ar py.2.1 py.1 py.2.2.1)) bL iB 4 false 107 13 py.2.2.2 alz),(0,.fO bL nY),(0,.beq 6 (bA (mS b6 nY) (((nv alz).trans (nv xv)).symm)))])))))) (λc1 h=>let zB:SE:=dk zA [aU c1];ie h (λc2 h=>let zC:SE:=dk zB [aU c2];ie h (λc3 h=>bG h zC [bq c3]) (λc3 h=>be h λjA mr h=>let zD:SE:=dk zC [bq c3,(6,bI.row mr)];ie h (λc4 h=>bG h zD [aw c4]) (λc4 h=>ie h (λc5 h=>bG h zD [aw c4,fL c5]) (λc5 h=>be h λpB uW h=>be h λu35 hu35 h=>cL (awD (aJx (HT n) n) n h) zD [aw c4,fL c5,(2,dv.made [.str ByteArray.empty,.int .i64 0] [] uW),(0,.seq 231 (bA (AV.ms 231 2 0) ((asL uW)))),(4,bI.oh dv bL eO 1 false 73 2 u35.ae hu35 (fB u35))])))) (λc2 h=>let zC:SE:=dk zB [aU c2];ie h (λc3 h=>ie h (λc4 h=>bG h zC [aU c3,bw c4]) (λc4 h=>ie h (λc5 h=>bG h zC [aU c3,bw c4,bT c5]) (λc5 h=>be h λIj hu20 h=>be h λya Hk h=>be h λpA Ci h=>be h λz34 N2 h=>be h λz36 abE h=>cL (HT n h) zC [aU c3,bw c4,bT c5,(1,bI.oh dv bL eO 1 false 73 2 Ij.ae hu20 (fB Ij)),(8,dO Hk),(1,dv.AB 0 [.str b3.ar] Ci N2),(0,.beq bL (bA (NM (((dy bz)).set lz (fB Ij)) (lz*5+1) eO) (ep N2))),(0,.ey eO [.d,.d]),(0,bI.ij dv (r:= (fB Ij)) bL eO 1 false 73 2 z34 abE),(0,.fO bL nY),(0,.beq 6 (bA (mS b6 nY) (ep abE)))]))) (λc3 h=>let zD:SE:=dk zC [aU c3];ie h (λc4 h=>be h λxe alD h=>be h λz20 He h=>cL (HT n h) zD [aU c4,(6,bI.abO 0 (akp xe) alD),(0,bI.ajA (r:= (akp xe)) bL 0 (.str b3.ar) He),(0,.fO bL nY),(0,.beq 6 (bA (mS b6 nY) (ep He)))]) (λc4 h=>let zE:SE:=dk zD [aU c4];ie h (λc5 h=>cL (awB (aJt (HT n) n) n h) zE [aU c5,(6,.beq bL (bA (λq_=>Bx.tree 44 5 l8 q_ []) (aDU (l:= l8) (Q:=dy bz)))),(0,.born [15] [] 500340 true 44 5),(0,.ey 500340 l8)]) (λc5 h=>be h λgp abL h=>let zF:SE:=dk zE [aU c5,(1,bI.oh dv bL eO 1 false 73 2 gp.ae abL (fB gp)),(0,bI.vK dM (r:= (fB gp)) bL lr 3 false 121 2 gp.ak abL (ow gp)),(0,bI.vK cT (r:= (ow gp)) bL iB 4 false 107 13 gp.aD abL (fF gp.ar gp))];ie h (λc6 h=>be h λz23 atW h=>bG h zF [aU c6,(4,.ey iB sV),(0,bI.jr cT (r:= (fF gp.ar gp)) bL iB 4 false 107 13 gp.aD atW (ow gp)),(0,bI.jr dM (r:= (ow gp)) bL lr 3 false 121 2 gp.ak atW (fB gp)),(0,.ey eO [.d,.d]),(0,bI.ij dv (r:= (fB gp)) bL eO 1 false 73 2 gp.ae atW)]) (λc6 h=>be h λpB uW h=>be h λBK Hj h=>be h λpA Ci h=>let zG:SE:=dk zF [aU c6,(6,bI.Ao [4,3,1] (fF gp.ar gp) abL),(2,dO uW),(1,dv.row Hj),vQ (aIT n Ci)];ie h (λc7 h=>be h λz39 atV h=>bG h zG [aw c7,(3,.ey iB sV),(0,bI.jr cT (r:= (fF gp.ar gp)) bL iB 4 false 107 13 gp.aD atV (ow gp)),(0,bI.jr dM (r:= (ow gp)) bL lr 3 false 121 2 gp.ak atV (fB gp)),(0,.ey eO [.d,.d]),(0,bI.ij dv (r:= (fB gp)) bL eO 1 false 73 2 gp.ae atV)]) (λc7 h=>be h λx43 atZ h=>let zH:SE:=dk zG [aw c7,(4,bI.Ao [4,3,1] (fF gp.ar gp) abL),(2,dh (bP.yI (lo:= []) (n:=4) (bs:= (akt mP gp qi vk)) (xs:= [.agg (aks gp mP qi vk),.int .i64 b3.aX]) (P:=(eU gp.ae).length=gp.ae.length/\(hJ gp.ak).length=gp.ak.length/\(fH gp.aD).length=gp.aD.length/\True) (axN n atZ) (by kernel_rfl) (by kernel_rfl) ⟨dv.len gp.ae,dM.len gp.ak,cT.len gp.aD,trivial⟩ (by kernel_rfl) (by kernel_rfl)) [(eO,mP),(lr,qi),(iB,vk)]),(1,.ey iB sV)];ie h (λc8 bO=>by subst c8;exact (be bO λz46 JN bO=>bG bO zH [(0,bI.jr cT (r:= (fF gp.ar gp)) bL iB 4 false 107 13 gp.aD JN (ow gp)),(0,bI.jr dM (r:= (ow gp)) bL lr 3 false 121 2 gp.ak JN (fB gp)),(0,.ey eO [.d,.d]),(0,bI.ij dv (r:= (fB gp)) bL eO 1 false 73 2 gp.ae JN)])) (λc8 bO=>by subst c8;exact (be bO λz46 JN bO=>cL (HT n bO) zH [(0,bI.jr cT (r:= (fF gp.ar gp)) bL iB 4 false 107 13 gp.aD JN (ow gp)),(0,bI.jr dM (r:= (ow gp)) bL lr 3 false 121 2 gp.ak JN (fB gp)),(0,.ey eO [.d,.d]),(0,bI.ij dv (r:= (fB gp)) bL eO 1 false 73 2 gp.ae JN),(0,.fO bL nY),(0,.beq 6 (bA (mS b6 nY) (ep JN)))]))))))))))
def QL (n:Nat) (b2:af) (b3:aE) (b4 b6:af) (bz:bl):Option (af×Bool):=
 if b3.bu==6 then
 (aee n b3.aZ).bind λx8=>(app bz [x8]).bind λdn=>(setAt dn bz.length x8).bind λz15=>(F94 n (af.mk b6.av z15)).bind λjz=>some ((af.mk b6.av z15),jz==0)
 else
 if decide (b3.aO<0) then
 some (b2,false)
 else
 if !decide (b3.aO<(b2.ai.length:Int)) then
 some (b2,false)
 else
 (fE bz.length b3.aO).bind λjz=>(bz[0+jz]?).bind λpC=>if !decide (b3.aX<pC.aP) then
 (setAt bz (0+jz) pC).bind λEV=>QI n (0+jz) (pC.ae.length:Int) (decide (b3.aX<(pC.ae.length:Int))) b2 b3 (af.mk b4.av []) (af.mk b6.av EV) EV
 else
 (setAt bz (0+jz) pC).bind λz40=>QI n (0+jz) (pC.ae.length:Int) false b2 b3 (af.mk b4.av []) (af.mk b6.av z40) z40
def aEd (n:Nat):Zc (QL n):=λb2 b3 b4 b6 bz r h=>ie h (λc0 h=>be h λx8 ss h=>be h λdn gh h=>be h λz15 Ch h=>be h λjz nT h=>rr h [bq c0,(4,rT (axO n ss) [(330490001,nZ),(330490003,vo),(330490004,tU)]),(1,bI.IX gh),(2,.beq bL (bA (λq_=>Bx.tree 44 5 l8 q_ [(bz.length*5+1,lB 330490001 x8.ae.length),(bz.length*5+3,.ms 330490003 2 0 x8.ak.length),(bz.length*5+4,.ms 330490004 13 0 x8.aD.length)]) (bI.apS (r:= (fF x8.ar x8)) gh))),(0,.ey 330490001 [.d,.d]),(0,bI.jr dv (r:= (fF x8.ar x8)) bL 330490001 1 false 73 2 x8.ae Ch (Jg x8.ar x8)),(0,bI.jr dM (r:= (Jg x8.ar x8)) bL 330490003 3 false 121 2 x8.ak Ch (yE x8)),(0,.ey 330490004 sV),(0,bI.ij cT (r:= (yE x8)) bL 330490004 4 false 107 13 x8.aD Ch),(0,.seq 51 (bA (AV.ms bL 5 0) (((bI.apL gh).trans (ep Ch))))),(0,.beq 6 (bA (mS b6 bL) (((bI.apL gh).trans (ep Ch))))),(0,bI.tfr false bL z15),jK (auK n nT)]) (λc0 h=>ie h (λc1 h=>rr h [bq c0,bq c1]) (λc1 h=>let zA:SE:=[bq c0,bq c1,(5,bI.cw b2.ai)];ie h (λc2 h=>bG h zA [aw c2]) (λc2 h=>be h λjz nT h=>be h λpC UL h=>let zB:SE:=dk zA [aw c2,(5,dO nT),(4,bI.oh dv bL eO 1 false 73 2 pC.ae UL (fB pC)),(8,bI.rowS (fB pC) UL)];ie h (λc3 h=>be h λEV xv h=>cL (ayc n h) zB [aw c3,(7,.ey eO [.d,.d]),(0,bI.ij dv (r:= (fB pC)) bL eO 1 false 73 2 pC.ae xv),(0,.beq 6 (bA (mS b6 bL) (ep xv)))]) (λc3 h=>be h λz40 hz40 h=>cL (ayc n h) zB [aw c3,(3,.ey eO [.d,.d]),(0,bI.ij dv (r:= (fB pC)) bL eO 1 false 73 2 pC.ae hz40),(0,.beq 6 (bA (mS b6 bL) (ep hz40)))]))))
def aej (n:Nat) (s0:af) (m1:aE):Option (af×Bool):=
 (ang n m1).bind λx6=>if !x6 then
 some (s0,false)
 else
 MG (QL n) n s0.ai (s0.ai.length:Int) 0 s0 m1 (af.mk 0 []) (af.mk (bh (s0.av+1)) []) []
def aEc (n:Nat):K2 (IG []) LH (aej n):=λs0 m1 r h=>be h λx6 xx h=>let zA:SE:=[vP (aIU n xx)];ie h (λc0 h=>bG h zA [aw c0]) (λc0 h=>cL (awE (aEd n) n h) zA [aw c0,(8,bI.cw s0.ai),(1,.born [] [(6,1)] bL true 44 5),(0,.ey bL l8)])
def F95:=aej
def ev95 (n:Nat):K2 (Cx E0 95 Xm cu) LH (F95 n):=λ_ _ _ h=>ca (X:=x95) (aEc n h)
def Xn (r:(iJ×Int)):AV:=.cm [lB dg r.1.length,aN r.2]
def Pl (r:(iJ×Int)):List (Nat×Bx):= [(dg,GV r.1)]
def x40:=fx E0 Tryz.f40 [1] [dg,1]
def A40:=AxS x40 [1] Xn Pl
def C40:=CxS E0 40 [1] Xn Pl
def aCY (t31 t32:Int) (dr:eG) (ka:iJ):LS:=⟨[(7,.ms 29 2 0 ka.length),(30,.ms 1 15 0 dr.length),(31,aN t31),(32,aN t32)],[(1,B2 dr),(29,GV ka)]⟩
def aCX (dr:eG) (ka:iJ):LS:=⟨[(7,.ms 29 2 0 ka.length)],[(1,B2 dr),(29,GV ka)]⟩
def aok (ru:af) (dr:eG):LS:=⟨[(0,.agg (eP ru)),(1,.ms 1 15 0 dr.length)],[(1,B2 dr)]⟩
def Yr (aR:eG->iJ->Option (iJ×Int)) (back:Int->Int->eG->iJ->Option (iJ×Int)) (n:Nat) (t31 t32:Int) (dr:eG) (ka:iJ):Option (iJ×Int):=
 if decide (t32<t31) then
 (fE dr.length t32).bind λx2=>(dr[0+x2]?).bind λx4=>(fE ka.length (bh ((ka.length:Int) - 1))).bind λly=>(ka[0+ly]?).bind λja=>(F95 n ja x4).bind λjA=>if !jA.2 then
 some ([],280)
 else
 (app ka [jA.1]).bind λya=>back t31 (bh (t32+1)) dr ya
 else
 aR dr ka
def Y4:=K2 (A40 [1,1,1,1,1]) aCX
def Y3:=K4 (A40 (cZ 175)) aCY
def aKo {aR} (bK:Y4 aR) {back} (aS:Y3 back) (n:Nat):Y3 (Yr aR back n):=λt31 t32 dr ka r h=>ie h (λc0 h=>be h λx2 cW h=>be h λx4 kY h=>be h λly nU h=>be h λja lC h=>be h λjA mr h=>let zA:SE:=[aw c0,(0,dO cW),(0,AT.row kY),(6,dO nU),(0,KB.row lC),PU (ev95 n mr)];ie h (λc1 h=>rrS h (dk zA [qV c1,(2,.born [4] [] dg false 25 2)])) (λc1 h=>be h λya Hk h=>raS (aS h) (by kernel_rfl) (dk zA [qV c1,(3,KB.app Hk (KB.tK [jA.1]))]))) (λc0 h=>raS (bK h) (by kernel_rfl) [aw c0])
def MQ (aR:eG->iJ->Option (iJ×Int)):Nat->Int->Int->eG->iJ->Option (iJ×Int)
 |0=>λ_ _ _ _=>none
 |n+1=>Yr aR (MQ aR n) n
def awS {aR} (bK:Y4 aR):∀n:Nat,Y3 (MQ aR n)
 |0=>λ_ _ _ _ _ h=>nz h
 |n+1=>aKo bK (awS bK n) n
def Yq (n:Nat) (dr:eG) (ka:iJ):Option (iJ×Int):=
 some (ka,0)
def aKn (n:Nat):Y4 (Yq n):=λdr ka r h=>rrS h [(3,.fO 29 dg)]
def anF (n:Nat) (ru:af) (dr:eG):Option (iJ×Int):=
 (F94 n ru).bind λx5=>if x5 !=0 then
 some ([],x5)
 else
 if decide (8<(dr.length:Int)) then
 some ([],2)
 else
 if decide (1000<(bh (ru.av+(dr.length:Int)))) then
 some ([],2)
 else
 MQ (Yq n) n (dr.length:Int) 0 dr [ru]
def aKm (n:Nat):K2 (A40 []) aok (anF n):=λru dr r h=>be h λx5 n9 h=>let zA:SE:=[qS (auK n n9)];ie h (λc0 h=>rrS h (dk zA [bq c0,(3,.born [4] [] dg false 25 2)])) (λc0 h=>ie h (λc1 h=>rrS h (dk zA [bq c0,bq c1,(4,.born [4] [] dg false 25 2)])) (λc1 h=>ie h (λc2 h=>rrS h (dk zA [bq c0,bq c1,jj c2,(3,.born [4] [] dg false 25 2)])) (λc2 h=>raS (awS (aKn n) n h) (by kernel_rfl) (dk zA [bq c0,bq c1,jj c2]))))
def F40:=anF
def auL (n:Nat):K2 C40 aok (F40 n):=λ_ _ _ h=>caS (X:=x40) (aKm n h)
def awp (r:(eG×aQ)):AV:=.ms dg 15 0 r.1.length
def apa (r:(eG×aQ)):List (Nat×Bx):= [(0,tO (gV r.2)),(dg,B2 r.1)]
def si:=fx E0 Tryz.f39 [0] [0,dg]
def A39:=Ax si awp apa
def aDd (n8:Int) (b0:aQ) (b4:af) (eL:eG) (cx:aE):LS:=⟨[(0,.loc 0 0),(4,.loc 4 0),(7,.ms 227 15 0 eL.length),(8,aN n8),(12,.loc 12 0)],[(0,tO (gV b0)),(4,jD (eP b4)),(12,v7 (ng cx)),(227,B2 eL)]⟩
def aom (n8:Int) (b0:aQ) (b4:af) (eL:eG):LS:=⟨[(0,.loc 0 0),(4,.loc 4 0),(7,.ms 227 15 0 eL.length),(8,aN n8)],[(0,tO (gV b0)),(4,jD (eP b4)),(227,B2 eL)]⟩
def aDc (n8:Int) (b0:aQ) (b4:af) (eL:eG) (iI:af) (cx:aE):LS:=⟨[(0,.loc 0 0),(4,.loc 4 0),(7,.ms 227 15 0 eL.length),(8,aN n8),(11,.loc 11 0),(12,.loc 12 0)],[(0,tO (gV b0)),(4,jD (eP b4)),(11,jD (eP iI)),(12,v7 (ng cx)),(227,B2 eL)]⟩
def aDb (n8:Int) (b0:aQ) (b4:af) (eL:eG) (iI:af) (cx:aE) (jC:ah):LS:=⟨[(0,.loc 0 0),(4,.loc 4 0),(7,.ms 227 15 0 eL.length),(8,aN n8),(11,.loc 11 0),(12,.loc 12 0),(13,.loc 13 0)],[(0,tO (gV b0)),(4,jD (eP b4)),(11,jD (eP iI)),(12,q32_ cx),(13,sR (ji jC)),(227,B2 eL)]⟩
def aDa (n8:Int) (b0:aQ) (b4:af) (eL:eG) (iI:af) (cx:aE):LS:=⟨[(0,.loc 0 0),(4,.loc 4 0),(7,.ms 227 15 0 eL.length),(8,aN n8),(11,.loc 11 0),(12,.loc 12 0)],[(0,tO (gV b0)),(4,jD (eP b4)),(11,jD (eP iI)),(12,q32_ cx),(227,B2 eL)]⟩
def aCZ (b0:aQ) (eL:eG):LS:=⟨[(7,.ms 227 15 0 eL.length)],[(0,tO (gV b0)),(227,B2 eL)]⟩
def aol (c0:aQ) (s1:af) (Xs:Int):LS:=⟨[(0,.loc 0 0),(1,.agg (eP s1)),(2,aN Xs)],(uR (gV c0))⟩
def QR (aR:Vj) (n:Nat) (n8:Int) (b0:aQ) (b4:af) (eL:eG) (cx:aE):Option (eG×aQ):=
 (app [] eL).bind λx3=>(app x3 [cx]).bind λx7=>(F40 n b4 x7).bind λx9=>if x9.2==0 then
 (app eL [cx]).bind λmW=>aR n8 b0 b4 mW
 else
 aR n8 b0 b4 eL
def aor:=K4 (A39 (cZ 459)) aom
def ayh {aR} (bK:aor aR) (n:Nat):K5 (A39 (cZ 2096715)) aDd (QR aR n):=λn8 b0 b4 eL cx r h=>be h λx3 fX h=>be h λx7 kX h=>be h λx9 kD h=>let zA:SE:=[(0,.born [] [] 215 true 46 15),(2,AT.app (xs:= []) fX (AT.tK eL)),(2,AT.app kX (AT.tK [cx])),(0,.call (bP.L (bP.anyK (k:=1) (bs:= [(1,.rows true 46 15 (Jb x7))]) (auL n kD) (by kernel_rfl))) [] [(215,1)] [(321900,dg)])];ie h (λdF h=>be h λmW mq h=>cL (bK h) zA [fL dF,(3,AT.app mq (AT.tK [cx]))]) (λdF h=>cL (bK h) zA [fL dF])
def Eb (dZ:Vj) (n:Nat) (n8:Int) (b0:aQ) (b4:af) (eL:eG):Option (eG×aQ):=
 dZ (bh (n8 - 1)) b0 b4 eL
def BT:=K4 (A39 [0,1,0,1,1]) aom
def amz {dZ} (gH:BT dZ) (n:Nat):aor (Eb dZ n):=λn8 b0 b4 eL r h=>ra (gH h) []
def sd (dZ:Vj) (n:Nat) (n8:Int) (b0:aQ) (b4:af) (eL:eG) (iI:af) (cx:aE):Option (eG×aQ):=
 if cx.bu==7 then
 if decide ((iI.ai.length:Int)<2) then
 Eb dZ n n8 b0 b4 eL
 else
 QR (Eb dZ n) n n8 b0 b4 eL cx
 else
 QR (Eb dZ n) n n8 b0 b4 eL cx
def xL {dZ} (gH:BT dZ) (n:Nat):K6 (A39 (cZ 1048139)) aDc (sd dZ n):=λn8 b0 b4 eL iI cx r h=>ie h (λdF h=>let zA:SE:=[bq dF,(3,bI.cw iI.ai)];ie h (λc1 h=>cL (amz gH n h) zA [aw c1]) (λc1 h=>cL (ayh (amz gH n) n h) zA [aw c1])) (λdF h=>ra (ayh (amz gH n) n h) [bq dF])
def QQ (dZ:Vj) (n:Nat) (n8:Int) (b0:aQ) (b4:af) (eL:eG) (iI:af) (cx:aE) (jC:ah):Option (eG×aQ):=
 (sE n b0 (if 1<(bh ((jC.ae.length:Int) - jC.aP)) then (bh ((jC.ae.length:Int) - jC.aP)) else 1)).bind λdn=>(cat (ByteArray.mk #[110]) (Utf8.encode (IntKind.wrap .i32 (bh (97+(eL.length:Int)))))).bind λmW=>(sE n dn.2 26).bind λkQ=>(cat ((ByteArray.mk #[110])++(Utf8.encode (IntKind.wrap .i32 (bh (97+(eL.length:Int)))))) (Utf8.encode (IntKind.wrap .i32 (bh (97+kQ.1))))).bind λpB=>if cx.bu==1 then
 (sE n kQ.2 3).bind λDb=>(F93 n Db.2 (bh (3+Db.1))).bind λx47=>sd dZ n n8 x47.2 b4 eL iI (aE.mk cx.bu cx.aO 0 0 (((ByteArray.mk #[110])++(Utf8.encode (IntKind.wrap .i32 (bh (97+(eL.length:Int))))))++(Utf8.encode (IntKind.wrap .i32 (bh (97+kQ.1))))) (bh (3+Db.1)) x47.1 cx.cI (ah.mk ByteArray.empty cx.aZ.ae 0 cx.aZ.ak cx.aZ.aD))
 else
 if cx.bu==2 then
 if decide ((bh (jC.aP+dn.1))<(jC.ae.length:Int)) then
 (idx jC.ae (bh (jC.aP+dn.1))).bind λx49=>(F93 n kQ.2 x49.aC).bind λx53=>sd dZ n n8 x53.2 b4 eL iI (aE.mk cx.bu cx.aO (bh (jC.aP+dn.1)) 0 ByteArray.empty 0 x53.1 cx.cI (ah.mk ByteArray.empty cx.aZ.ae 0 cx.aZ.ak cx.aZ.aD))
 else
 sd dZ n n8 kQ.2 b4 eL iI (aE.mk cx.bu cx.aO (bh (jC.aP+dn.1)) 0 ByteArray.empty 0 (bj.mk 0 0 ByteArray.empty) cx.cI (ah.mk ByteArray.empty cx.aZ.ae 0 cx.aZ.ak cx.aZ.aD))
 else
 if cx.bu==3 then
 (sE n kQ.2 (if 1<(bh ((jC.ae.length:Int) - jC.aP)) then (bh ((jC.ae.length:Int) - jC.aP)) else 1)).bind λx50=>sd dZ n n8 x50.2 b4 eL iI (aE.mk cx.bu cx.aO (bh (jC.aP+dn.1)) (bh (jC.aP+x50.1)) ByteArray.empty 0 (bj.mk 0 0 ByteArray.empty) cx.cI (ah.mk ByteArray.empty cx.aZ.ae 0 cx.aZ.ak cx.aZ.aD))
 else
 if cx.bu==4 then
 (sE n kQ.2 (if 1<(jC.ae.length:Int) then (jC.ae.length:Int) else 1)).bind λvh=>sd dZ n n8 vh.2 b4 eL iI (aE.mk cx.bu cx.aO vh.1 0 (((ByteArray.mk #[110])++(Utf8.encode (IntKind.wrap .i32 (bh (97+(eL.length:Int))))))++(Utf8.encode (IntKind.wrap .i32 (bh (97+kQ.1))))) 0 (bj.mk 0 0 ByteArray.empty) cx.cI (ah.mk ByteArray.empty cx.aZ.ae 0 cx.aZ.ak cx.aZ.aD))
 else
 if cx.bu==5 then
 sd dZ n n8 kQ.2 b4 eL iI (aE.mk cx.bu cx.aO 0 0 (((ByteArray.mk #[110])++(Utf8.encode (IntKind.wrap .i32 (bh (97+(eL.length:Int))))))++(Utf8.encode (IntKind.wrap .i32 (bh (97+kQ.1))))) 0 (bj.mk 0 0 ByteArray.empty) cx.cI (ah.mk ByteArray.empty cx.aZ.ae 0 cx.aZ.ak cx.aZ.aD))
 else
 if cx.bu==6 then
 (C3 n (ByteArray.mk #[105,100]) 4).bind λvh=>(C3 n (ByteArray.mk #[110,111,116,101]) 5).bind λIi=>sd dZ n n8 kQ.2 b4 eL iI (aE.mk cx.bu 0 0 0 ByteArray.empty 0 (bj.mk 0 0 ByteArray.empty) cx.cI (ah.mk (((ByteArray.mk #[110])++(Utf8.encode (IntKind.wrap .i32 (bh (97+(eL.length:Int))))))++(Utf8.encode (IntKind.wrap .i32 (bh (97+kQ.1))))) [vh,Ii] 1 [] []))
 else
 if cx.bu==8 then
 if decide ((bh (jC.aP+dn.1))<(jC.ae.length:Int)) then
 (idx jC.ae (bh (jC.aP+dn.1))).bind λx58=>(F93 n kQ.2 x58.aC).bind λrb=>(F93 n rb.2 x58.aC).bind λtI=>if ((rb.1.aC==tI.1.aC) && ((rb.1.dw==tI.1.dw) && ((decide (rb.1.cP=tI.1.cP)) && true))) then
 (wo 2 1).bind λx89=>sd dZ n n8 tI.2 b4 eL iI (aE.mk cx.bu cx.aO (bh (jC.aP+dn.1)) 0 ByteArray.empty 0 (bj.mk 0 0 ByteArray.empty) ([(l7.mk rb.1 tI.1),(l7.mk tI.1 rb.1)].take x89) (ah.mk ByteArray.empty cx.aZ.ae 0 cx.aZ.ak cx.aZ.aD))
 else
 sd dZ n n8 tI.2 b4 eL iI (aE.mk cx.bu cx.aO (bh (jC.aP+dn.1)) 0 ByteArray.empty 0 (bj.mk 0 0 ByteArray.empty) [(l7.mk rb.1 tI.1),(l7.mk tI.1 rb.1)] (ah.mk ByteArray.empty cx.aZ.ae 0 cx.aZ.ak cx.aZ.aD))
 else
 sd dZ n n8 kQ.2 b4 eL iI (aE.mk cx.bu cx.aO (bh (jC.aP+dn.1)) 0 ByteArray.empty 0 (bj.mk 0 0 ByteArray.empty) cx.cI (ah.mk ByteArray.empty cx.aZ.ae 0 cx.aZ.ak cx.aZ.aD))
 else
 sd dZ n n8 kQ.2 b4 eL iI (aE.mk cx.bu cx.aO 0 0 ByteArray.empty 0 (bj.mk 0 0 ByteArray.empty) cx.cI (ah.mk ByteArray.empty cx.aZ.ae 0 cx.aZ.ak cx.aZ.aD))
def ayg {dZ} (gH:BT dZ) (n:Nat):K7 (A39 (cZ 130635)) aDb (QQ dZ n):=λn8 b0 b4 eL iI cx jC r h=>be h λdn gh h=>be h λmW mq h=>be h λkQ Hl h=>be h λpB uW h=>let zA:SE:=[(5,dv.cw jC.ae),(4,dh (pG n gh) [(0,0)]),(7,.cat (HL mq).1),(1,dh (pG n Hl) [(0,0)]),(3,.cat (HL uW).1)];ie h (λdF h=>be h λDb abH h=>be h λx47 hx47 h=>cL (xL gH n h) zA [bw dF,(3,dh (pG n abH) [(0,0)]),(8,dh (U3 n hx47) [(0,0)])]) (λdF h=>let zB:SE:=dk zA [bw dF];ie h (λc1 h=>let zC:SE:=dk zB [aU c1,(7,dv.cw jC.ae)];ie h (λc2 h=>be h λx49 hx49 h=>be h λx53 hx53 h=>cL (xL gH n h) zC [aw c2,(4,dv.idx hx49),(2,dh (U3 n hx53) [(0,0)])]) (λc2 h=>cL (xL gH n h) zC [aw c2])) (λc1 h=>let zC:SE:=dk zB [aU c1];ie h (λc2 h=>be h λx50 hx50 h=>cL (xL gH n h) zC [aU c2,(7,dv.cw jC.ae),(4,dh (pG n hx50) [(0,0)])]) (λc2 h=>let zD:SE:=dk zC [aU c2];ie h (λc3 h=>be h λvh Hh h=>cL (xL gH n h) zD [aU c3,(4,dv.cw jC.ae),(1,dh (pG n Hh) [(0,0)])]) (λc3 h=>let zE:SE:=dk zD [aU c3];ie h (λc4 h=>cL (xL gH n h) zE [aU c4]) (λc4 h=>let zF:SE:=dk zE [aU c4];ie h (λc5 h=>be h λvh Hh h=>be h λIi abF h=>cL (xL gH n h) zF [aU c5,jK (Cu n Hh),vQ (Cu n abF),(6,dv.gx 163 [vh,Ii])]) (λc5 h=>let zG:SE:=dk zF [aU c5];ie h (λc6 h=>let zH:SE:=dk zG [aU c6,(7,dv.cw jC.ae)];ie h (λc7 h=>be h λx58 hx58 h=>be h λrb atY h=>be h λtI hx69 h=>let zI:SE:=dk zH [aw c7,(3,dv.idx hx58),(5,dh (U3 n atY) [(0,0)]),(2,dh (U3 n hx69) [(0,0)])];ie h (λc8 h=>be h λx89 hx89 h=>cL (xL gH n h) zI [(15,eb c8),(2,sZ.wo (xs:= [(l7.mk rb.1 tI.1),(l7.mk tI.1 rb.1)]) hx89 (vI rfl)),(2,.norm [(194,.one .un),(200,.one .un)] []),(0,.shr 194 (sZ.take [(l7.mk rb.1 tI.1),(l7.mk tI.1 rb.1)] x89)),(0,.gx (Q:=pN ([(l7.mk rb.1 tI.1),(l7.mk tI.1 rb.1)].take x89)) (n:=x89) 194 (sZ.ayv (xs:= [(l7.mk rb.1 tI.1),(l7.mk tI.1 rb.1)]) (iL (Ad hx89).2 (vI rfl))))]) (λc8 h=>cL (xL gH n h) zI [(15,eb c8),(0,sZ.gx 194 [(l7.mk rb.1 tI.1),(l7.mk tI.1 rb.1)])])) (λc7 h=>cL (xL gH n h) zH [aw c7])) (λc6 h=>cL (xL gH n h) zG [aU c6])))))))
def QP (dZ:Vj) (n:Nat) (n8:Int) (b0:aQ) (b4:af) (eL:eG) (iI:af) (cx:aE):Option (eG×aQ):=
 if decide (0<(iI.ai.length:Int)) then
 (idx iI.ai cx.aO).bind λeA=>QQ dZ n n8 b0 b4 eL iI (aE.mk cx.bu cx.aO 0 0 ByteArray.empty 0 (bj.mk 0 0 ByteArray.empty) cx.cI (ah.mk ByteArray.empty cx.aZ.ae 0 cx.aZ.ak cx.aZ.aD)) eA
 else
 QQ dZ n n8 b0 b4 eL iI (aE.mk cx.bu cx.aO 0 0 ByteArray.empty 0 (bj.mk 0 0 ByteArray.empty) cx.cI (ah.mk ByteArray.empty cx.aZ.ae 0 cx.aZ.ak cx.aZ.aD)) (ah.mk ByteArray.empty [] 0 [] [])
def ayf {dZ} (gH:BT dZ) (n:Nat):K6 (A39 (cZ 32331)) aDa (QP dZ n):=λn8 b0 b4 eL iI cx r h=>ie h (λdF h=>be h λeA mH h=>ra (ayg gH n h) [(3,bI.cw iI.ai),aw dF,(4,bI.idx mH)]) (λdF h=>ra (ayg gH n h) [(3,bI.cw iI.ai),aw dF])
def Ys (jT:aQ->eG->Option (eG×aQ)) (back:Vj) (n:Nat) (n8:Int) (b0:aQ) (b4:af) (eL:eG):Option (eG×aQ):=
 if decide (0<n8) then
 (F40 n b4 eL).bind λx5=>if x5.2 !=0 then
 some ([],b0)
 else
 (fE x5.1.length (bh ((x5.1.length:Int) - 1))).bind λov=>(x5.1[0+ov]?).bind λmW=>(sE n b0 10).bind λiG=>(sE n iG.2 (if 1<(mW.ai.length:Int) then (mW.ai.length:Int) else 1)).bind λpA=>if decide (8<(bh (1+iG.1))) then
 (sE n pA.2 2).bind λx42=>QP back n n8 x42.2 b4 eL mW (aE.mk (bh (1+(bh (7*x42.1)))) pA.1 0 0 ByteArray.empty 0 (bj.mk 0 0 ByteArray.empty) [] (ah.mk ByteArray.empty [] 0 [] []))
 else
 QP back n n8 pA.2 b4 eL mW (aE.mk (bh (1+iG.1)) pA.1 0 0 ByteArray.empty 0 (bj.mk 0 0 ByteArray.empty) [] (ah.mk ByteArray.empty [] 0 [] []))
 else
 jT b0 eL
def Y2:=K2 (A39 [1,1,1]) aCZ
def aKr {jT} (qA:Y2 jT) {back} (aS:BT back) (n:Nat):BT (Ys jT back n):=λn8 b0 b4 eL r h=>ie h (λdF h=>be h λx5 n9 h=>let zA:SE:=[aU dF,(2,.call (bP.L (auL n n9)) [] [(227,1)] [(303000,dg)])];ie h (λc1 h=>bG h zA [jj c1,(1,.born [6] [] dg false 46 15)]) (λc1 h=>be h λov wh h=>be h λmW mq h=>be h λiG oS h=>be h λpA Ci h=>let zB:SE:=dk zA [jj c1,(4,dO wh),(0,KB.row mq),(3,dh (pG n oS) [(0,0)]),(4,bI.cw mW.ai),(1,dh (pG n Ci) [(0,0)]),(0,.nrm (.agg [.same,.same,.same,.same,.same,.same,.same,.same,.same,.sl 110 6,.same,.sl 73 2,.same,.sl 121 2,.sl 107 13]))];ie h (λc2 h=>be h λx42 aua h=>cL (ayf aS n h) zB [bT c2,(1,dh (pG n aua) [(0,0)])]) (λc2 h=>cL (ayf aS n h) zB [bT c2]))) (λdF h=>ra (qA h) [aU dF])
def D8 (jT:aQ->eG->Option (eG×aQ)):Nat->Int->aQ->af->eG->Option (eG×aQ)
 |0=>λ_ _ _ _=>none
 |n+1=>Ys jT (D8 jT n) n
def awT {jT} (qA:Y2 jT):∀n:Nat,BT (D8 jT n)
 |0=>λ_ _ _ _ _ h=>nz h
 |n+1=>aKr qA (awT qA n) n
def M1 (n:Nat) (b0:aQ) (eL:eG):Option (eG×aQ):=
 some (eL,b0)
def aKq (n:Nat):Y2 (M1 n):=λb0 eL r h=>rr h [(2,.fO 227 dg)]
def anH (n:Nat) (c0:aQ) (s1:af) (Xs:Int):Option (eG×aQ):=
 (sE n c0 (bh (Xs+1))).bind λx7=>D8 (M1 n) n x7.1 x7.2 s1 []
def aKp (n:Nat):K3 (A39 []) aol (anH n):=λc0 s1 Xs r h=>be h λx7 kX h=>ra (awT (aKq n) n h) [(6,dh (pG n kX) [(0,0)]),(1,.born [7] [] 227 true 46 15)]
def F39:=anH
def ev39 (n:Nat):K3 (Cx E0 39 awp apa) aol (F39 n):=λ_ _ _ _ h=>ca (X:=si) (aKp n h)
def aws (r:(af×eG×iJ×Int×aQ)):AV:=.cm [.agg (eP r.1),.ms 200001 15 0 r.2.1.length,lB 200002 r.2.2.1.length,aN r.2.2.2.1]
def apd (r:(af×eG×iJ×Int×aQ)):List (Nat×Bx):= [(0,tO (gV r.2.2.2.2)),(200001,B2 r.2.1),(200002,GV r.2.2.1)]
def ly:=fx E0 Tryz.f12 [0] [0,200001,200002]
def A12:=Ax ly aws apd
def anN (n:Nat) (c0:aQ):Option (af×eG×iJ×Int×aQ):=
 (F38 n c0).bind λx6=>(F39 n x6.2 x6.1 5).bind λajp=>(F40 n x6.1 ajp.1).bind λjA=>(sE n ajp.2 (jA.1.length:Int)).bind λya=>some (x6.1,ajp.1,jA.1,ya.1,ya.2)
def aKI (n:Nat):K1 (A12 []) wK (anN n):=λc0 r h=>be h λx6 xx h=>be h λajp nU h=>be h λjA mr h=>be h λya Hk h=>rr h [(5,dh (ev38 n xx) [(0,0)]),(4,.call (bP.L (ev39 n nU)) [] [(0,0)] [(14,dg)]),(3,.call (bP.L (auL n mr)) [] [(14,1)] [(301800,dg)]),(11,dh (pG n Hk) [(0,0)]),(4,.fO 14 200001),(0,.fO 301800 200002)]
def F12:=anN
def ev12 (n:Nat):K1 (Cx E0 12 aws apd) wK (F12 n):=λ_ _ h=>ca (X:=ly) (aKI n h)
def awr (r:aQ):AV:=.loc dg 0
def apc (r:aQ):List (Nat×Bx):= [(dg,tO (gV r))]
def eT:=fx E0 Tryz.f13 [] [dg]
def A13:=Ax eT awr apc
def aoq (sA:aH) (Pt:Int):LS:=⟨[(0,.iW 5 1 (y5 sA)),(1,aN Pt)],[]⟩
def anM (n:Nat) (sA:aH) (Pt:Int):Option aQ:=
 (cut sA none (some (if Pt<(sA.length:Int) then Pt else (sA.length:Int)))).bind λx7=>(app [] x7).bind λx9=>some (aQ.mk x9 0)
def aKH (n:Nat):K2 (A13 []) aoq (anM n):=λsA Pt r h=>be h λx7 kX h=>be h λx9 kD h=>rr h [(3,R5.cw sA),(2,R5.cut kX),(0,.born [] [] 11 true 5 1),(0,R5.app (xs:= []) kD .CB),(3,.fO 13 dg),(0,R5.gx 11 x9),(0,.norm [] [(dg,.flat [.sx 0 0])])]
def F13:=anM
def ev13 (n:Nat):K2 (Cx E0 13 awr apc) aoq (F13 n):=λ_ _ _ h=>ca (X:=eT) (aKH n h)
def x99:=fx E0 Tryz.f99 [] []
def A99:=Ax x99 dq cu
def aCm (i3 c4:Int) (Mi:Bool) (ot:ByteArray) (ni:Nat):LS:=⟨[(3,aN i3),(4,.int .i32 c4),(5,.bool Mi),(15,.it 15)],[(15,.iter ot ni)]⟩
def aCl (ot:ByteArray) (ni:Nat):LS:=⟨[(15,.it 15)],[(15,.iter ot ni)]⟩
def aCk:LS:=⟨[],[]⟩
def QH (aR:ByteArray->Nat->Option Bool) (n:Nat) (i3 c4:Int) (Mi:Bool) (ot:ByteArray) (ni:Nat):Option Bool:=
 if !Mi then
 if i3==0 then
 some false
 else
 if c4 !=95 then
 if decide (c4<48) then
 some false
 else
 if decide (57<c4) then
 some false
 else
 aR ot ni
 else
 aR ot ni
 else
 aR ot ni
def OS:=K2 (A99 [0,1,0,1,1]) aCl
def ayb {aR} (bK:OS aR) (n:Nat):K5 (A99 (cZ 3787)) aCm (QH aR n):=λi3 c4 Mi ot ni r h=>ie h (λc0 h=>ie h (λc1 h=>rr h [aU c0,bq c1]) (λc1 h=>let zA:SE:=[aU c0,bq c1];ie h (λc2 h=>ie h (λc3 h=>bG h zA [bq c2,bq c3]) (λc3 h=>ie h (λc4_ h=>bG h zA [bq c2,bq c3,bq c4_]) (λc4_ h=>cL (bK h) zA [bq c2,bq c3,bq c4_]))) (λc2 h=>cL (bK h) zA [bq c2]))) (λc0 h=>ra (bK h) [aU c0])
def XV (bR:Option Bool) (back:ByteArray->Nat->Option Bool) (n:Nat) (ot:ByteArray) (ni:Nat):Option Bool:=
 if decide (ni<ot.size) then
 if !decide (((Utf8.decode ot ni).1:Int)<97) then
 QH back n (ni:Int) ((Utf8.decode ot ni).1:Int) (!decide (122<((Utf8.decode ot ni).1:Int))) ot (ni+(Utf8.decode ot ni).2)
 else
 QH back n (ni:Int) ((Utf8.decode ot ni).1:Int) false ot (ni+(Utf8.decode ot ni).2)
 else
 bR
def Y1:=K0 (A99 [1,1,1]) aCk
def aJl {bR} (dA:Y1 bR) {back} (aS:OS back) (n:Nat):OS (XV bR back n):=λot ni r h=>ie h (λc0 h=>ie h (λc1 h=>ra (ayb aS n h) [(0,.nxt (s8 c0)),jj c1]) (λc1 h=>ra (ayb aS n h) [(0,.nxt (s8 c0)),jj c1])) (λc0 h=>ra (dA h) [(0,.fin (Lj c0))])
def Bm (bR:Option Bool):Nat->ByteArray->Nat->Option Bool
 |0=>λ_ _=>none
 |n+1=>XV bR (Bm bR n) n
def awy {bR} (dA:Y1 bR):∀n:Nat,OS (Bm bR n)
 |0=>λ_ _ _ h=>nz h
 |n+1=>aJl dA (awy dA n) n
def H9 (n:Nat):Option Bool:=
 some true
def aJk (n:Nat):Y1 (H9 n):=λr h=>rr h []
def anq (n:Nat) (s0:ByteArray):Option Bool:=
 if decide ((s0.size:Int)<1) then
 some false
 else
 if decide (32<(s0.size:Int)) then
 some false
 else
 Bm (H9 n) n s0 0
def aJj (n:Nat):K1 (A99 []) LM (anq n):=λs0 r h=>ie h (λc0 h=>rr h [bw c0]) (λc0 h=>ie h (λc1 h=>rr h [bw c0,bw c1]) (λc1 h=>ra (awy (aJk n) n h) [bw c0,bw c1]))
def F99:=anq
def ev99 (n:Nat):K1 (Cx E0 99 dq cu) LM (F99 n):=λ_ _ h=>ca (X:=x99) (aJj n h)
def x43:=fx E0 Tryz.f43 [] []
def A43:=Ax x43 dq cu
def aCS (t11:bl) (t12 t13:Int) (t24:ByteArray) (t29 t34:Int) (t36:cG) (t37:Int) (t45:cG) (t46 t47:Int) (b9 b43:List (ByteArray×Bool)) (b5:ah):LS:=⟨[(3,.mp 9),(6,.mp 43),(11,sS t11),(12,aN t12),(13,aN t13),(22,.mp 9),(23,.loc 5 0),(24,.str t24),(25,rL),(28,.loc 5 2),(29,aN t29),(30,rL),(33,.loc 5 2),(34,aN t34),(35,.loc 5 1),(36,GY t36),(37,aN t37),(38,rL),(45,GY t45),(46,aN t46),(47,aN t47)],[(5,.flat 44 (ji b5)),(9,.map (gG AV.bool b9)),(43,.map (gG AV.bool b43))]⟩
def aCR (t11:bl) (t12 t13:Int) (t24:ByteArray) (t29 t34:Int) (t36:cG) (t37:Int) (b9:List (ByteArray×Bool)) (b5:ah):LS:=⟨[(3,.mp 9),(11,sS t11),(12,aN t12),(13,aN t13),(22,.mp 9),(23,.loc 5 0),(24,.str t24),(25,rL),(28,.loc 5 2),(29,aN t29),(30,rL),(33,.loc 5 2),(34,aN t34),(35,.loc 5 1),(36,GY t36),(37,aN t37),(38,rL)],[(5,.flat 44 (ji b5)),(9,.map (gG AV.bool b9))]⟩
def aCQ (t11:bl) (t12 t13:Int) (b9:List (ByteArray×Bool)):LS:=⟨[(3,.mp 9),(11,sS t11),(12,aN t12),(13,aN t13)],[(9,.map (gG AV.bool b9))]⟩
def aCP:LS:=⟨[],[]⟩
def Yo (aR:bl->Int->Int->ByteArray->Int->Int->cG->Int->(List (ByteArray×Bool))->ah->Option Bool) (back:bl->Int->Int->ByteArray->Int->Int->cG->Int->cG->Int->Int->(List (ByteArray×Bool))->(List (ByteArray×Bool))->ah->Option Bool) (n:Nat) (t11:bl) (t12 t13:Int) (t24:ByteArray) (t29 t34:Int) (t36:cG) (t37:Int) (t45:cG) (t46 t47:Int) (b9 b43:List (ByteArray×Bool)) (b5:ah):Option Bool:=
 if decide (t47<t46) then
 (idx t45 t47).bind λx2=>(F99 n x2.ar).bind λx9=>if !x9 then
 some false
 else
 if (mO b43 x2.ar false) then
 some false
 else
 if x2.aC !=3 then
 if x2.aC !=4 then
 if x2.aC !=5 then
 some false
 else
 back t11 t12 t13 t24 t29 t34 t36 t37 t45 t46 (bh (t47+1)) b9 (ny b43 x2.ar true) b5
 else
 back t11 t12 t13 t24 t29 t34 t36 t37 t45 t46 (bh (t47+1)) b9 (ny b43 x2.ar true) b5
 else
 back t11 t12 t13 t24 t29 t34 t36 t37 t45 t46 (bh (t47+1)) b9 (ny b43 x2.ar true) b5
 else
 aR t11 t12 t13 t24 t29 t34 t36 t37 b9 b5
def Y0:=K10 (A43 (cZ 971)) aCR
def YZ:=K14 (A43 (cZ 97483)) aCS
def aKh {aR} (bK:Y0 aR) {back} (aS:YZ back) (n:Nat):YZ (Yo aR back n):=λt11 t12 t13 t24 t29 t34 t36 t37 t45 t46 t47 b9 b43 b5 r h=>ie h (λc0 h=>be h λx2 cW h=>be h λx9 kD h=>let zA:SE:=[aw c0,(0,dv.idx cW),vP (ev99 n kD)];ie h (λc1 h=>bG h zA [aw c1]) (λc1 h=>let zB:SE:=dk zA [aw c1];ie h (λc2 h=>bG h zB [(4,.lkp false (Bf c2))]) (λc2 h=>let zC:SE:=dk zB [(4,.lkp false (Bf c2)),(4,.upd (Ke (f:=AV.bool) (k:=x2.ar) (v:=true) b43))];ie h (λc3 h=>ie h (λc4 h=>ie h (λc5 h=>bG h zC [bq c3,bw c4,bT c5]) (λc5 h=>cL (aS h) zC [bq c3,bw c4,bT c5])) (λc4 h=>cL (aS h) zC [bq c3,bw c4])) (λc3 h=>cL (aS h) zC [bq c3])))) (λc0 h=>ra (bK h) [aw c0])
def MO (aR:bl->Int->Int->ByteArray->Int->Int->cG->Int->(List (ByteArray×Bool))->ah->Option Bool):Nat->bl->Int->Int->ByteArray->Int->Int->cG->Int->cG->Int->Int->(List (ByteArray×Bool))->(List (ByteArray×Bool))->ah->Option Bool
 |0=>λ_ _ _ _ _ _ _ _ _ _ _ _ _ _=>none
 |n+1=>Yo aR (MO aR n) n
def awQ {aR} (bK:Y0 aR):∀n:Nat,YZ (MO aR n)
 |0=>λ_ _ _ _ _ _ _ _ _ _ _ _ _ _ _ h=>nz h
 |n+1=>aKh bK (awQ bK n) n
def Yn (bR:bl->Int->Int->(List (ByteArray×Bool))->Option Bool) (n:Nat) (t11:bl) (t12 t13:Int) (t24:ByteArray) (t29 t34:Int) (t36:cG) (t37:Int) (b9:List (ByteArray×Bool)) (b5:ah):Option Bool:=
 bR t11 t12 (bh (t13+1)) b9
def OQ:=K4 (A43 [0,1,0,1,1]) aCQ
def aKg {bR} (dA:OQ bR) (n:Nat):Y0 (Yn bR n):=λt11 t12 t13 t24 t29 t34 t36 t37 b9 b5 r h=>ra (dA h) []
def Ym (cA:Option Bool) (back:bl->Int->Int->(List (ByteArray×Bool))->Option Bool) (n:Nat) (t11:bl) (t12 t13:Int) (b9:List (ByteArray×Bool)):Option Bool:=
 if decide (t13<t12) then
 (idx t11 t13).bind λx2=>(F99 n x2.ar).bind λx9=>if !x9 then
 some false
 else
 if (mO b9 x2.ar false) then
 some false
 else
 if decide (x2.aP<1) then
 some false
 else
 if decide ((x2.ae.length:Int)<x2.aP) then
 some false
 else
 MO (Yn back n) n t11 t12 t13 x2.ar x2.aP x2.aP x2.ae (x2.ae.length:Int) x2.ae (x2.ae.length:Int) 0 (ny b9 x2.ar true) [] x2
 else
 cA
def YY:=K0 (A43 [1,1,1]) aCP
def aKf {cA} (dX:YY cA) {back} (aS:OQ back) (n:Nat):OQ (Ym cA back n):=λt11 t12 t13 b9 r h=>ie h (λc0 h=>be h λx2 cW h=>be h λx9 kD h=>let zA:SE:=[aw c0,(0,bI.idx cW),vP (ev99 n kD)];ie h (λc1 h=>bG h zA [aw c1]) (λc1 h=>let zB:SE:=dk zA [aw c1];ie h (λc2 h=>bG h zB [(4,.lkp false (Bf c2))]) (λc2 h=>let zC:SE:=dk zB [(4,.lkp false (Bf c2))];ie h (λc3 h=>bG h zC [bT c3]) (λc3 h=>let zD:SE:=dk zC [bT c3,(6,dv.cw x2.ae)];ie h (λc4 h=>bG h zD [aw c4]) (λc4 h=>cL (awQ (aKg aS n) n h) zD [aw c4,(4,.upd (Ke (f:=AV.bool) (k:=x2.ar) (v:=true) b9)),(4,dv.cw x2.ae)]))))) (λc0 h=>ra (dX h) [aw c0])
def H5 (cA:Option Bool):Nat->bl->Int->Int->(List (ByteArray×Bool))->Option Bool
 |0=>λ_ _ _ _=>none
 |n+1=>Ym cA (H5 cA n) n
def awP {cA} (dX:YY cA):∀n:Nat,OQ (H5 cA n)
 |0=>λ_ _ _ _ _ h=>nz h
 |n+1=>aKf dX (awP dX n) n
def QO (n:Nat):Option Bool:=
 some true
def aKe (n:Nat):YY (QO n):=λr h=>rr h []
def ayo (n:Nat) (s0:af):Option Bool:=
 H5 (QO n) n s0.ai (s0.ai.length:Int) 0 []
def aKd (n:Nat):K1 (A43 []) pM (ayo n):=λs0 r h=>ra (awP (aKe n) n h) [(6,bI.cw s0.ai)]
def F43:=ayo
def ev43 (n:Nat):K1 (Cx E0 43 dq cu) pM (F43 n):=λ_ _ h=>ca (X:=x43) (aKd n h)
def EW:=fx E0 Tryz.f44 [] []
def A44:=Ax EW dq cu
def aCO (t11:bl) (t12 t13:Int) (t18:cf) (t19 t20 t29:Int) (t31:bl) (t32:Int) (t48:aH) (t49 t50:Int) (b1:af) (b4 b7:ah) (b6:bf):LS:=⟨[(1,.loc 1 0),(4,.loc 4 0),(7,.loc 7 0),(11,sS t11),(12,aN t12),(13,aN t13),(18,xj t18),(19,aN t19),(20,aN t20),(28,.loc 6 1),(29,aN t29),(30,.loc 1 1),(31,sS t31),(32,aN t32),(33,rL),(48,iR t48),(49,aN t49),(50,aN t50)],[(1,jD (eP b1)),(4,sR (ji b4)),(6,.flat 121 (Cw b6)),(7,sR (ji b7))]⟩
def aCN (t11:bl) (t12 t13:Int) (t18:cf) (t19 t20 t29:Int) (t31:bl) (t32:Int) (b1:af) (b4:ah) (b6:bf):LS:=⟨[(1,.loc 1 0),(4,.loc 4 0),(11,sS t11),(12,aN t12),(13,aN t13),(18,xj t18),(19,aN t19),(20,aN t20),(28,.loc 6 1),(29,aN t29),(30,.loc 1 1),(31,sS t31),(32,aN t32),(33,rL)],[(1,jD (eP b1)),(4,sR (ji b4)),(6,.flat 121 (Cw b6))]⟩
def aCM (t11:bl) (t12 t13:Int) (t18:cf) (t19 t20:Int) (b1:af) (b4:ah):LS:=⟨[(1,.loc 1 0),(4,.loc 4 0),(11,sS t11),(12,aN t12),(13,aN t13),(18,xj t18),(19,aN t19),(20,aN t20)],[(1,jD (eP b1)),(4,sR (ji b4))]⟩
def aoj (t11:bl) (t12 t13:Int) (b1:af):LS:=⟨[(1,.loc 1 0),(11,sS t11),(12,aN t12),(13,aN t13)],[(1,jD (eP b1))]⟩
def aCL:LS:=⟨[],[]⟩
def Yl (aR:Wf32) (back:bl->Int->Int->cf->Int->Int->Int->bl->Int->aH->Int->Int->af->ah->ah->bf->Option Bool) (n:Nat) (t11:bl) (t12 t13:Int) (t18:cf) (t19 t20 t29:Int) (t31:bl) (t32:Int) (t48:aH) (t49 t50:Int) (b1:af) (b4 b7:ah) (b6:bf):Option Bool:=
 if decide (t50<t49) then
 (idx t48 t50).bind λx3=>if decide (x3<0) then
 some false
 else
 if !decide (x3<(b4.ae.length:Int)) then
 some false
 else
 (idx b4.ae x3).bind λuK=>(idx b7.ae t50).bind λpB=>if uK.aC !=pB.aC then
 some false
 else
 back t11 t12 t13 t18 t19 t20 t29 t31 t32 t48 t49 (bh (t50+1)) b1 b4 b7 b6
 else
 aR t11 t12 t13 t18 t19 t20 t29 t31 t32 b1 b4 b6
def YX:=K12 (A44 (cZ 124517)) aCN
def YW:=K16 (A44 (cZ 12478053)) aCO
def aKc {aR} (bK:YX aR) {back} (aS:YW back) (n:Nat):YW (Yl aR back n):=λt11 t12 t13 t18 t19 t20 t29 t31 t32 t48 t49 t50 b1 b4 b7 b6 r h=>ie h (λc0 h=>be h λx3 fX h=>let zA:SE:=[aw c0,(1,R3.idx fX)];ie h (λc1 h=>bG h zA [bT c1]) (λc1 h=>let zB:SE:=dk zA [bT c1,(4,dv.cw b4.ae)];ie h (λc2 h=>bG h zB [aw c2]) (λc2 h=>be h λuK Cj h=>be h λpB uW h=>let zC:SE:=dk zB [aw c2,(5,dv.idx Cj),(5,dv.idx uW)];ie h (λc3 h=>bG h zC [bq c3]) (λc3 h=>cL (aS h) zC [bq c3])))) (λc0 h=>ra (bK h) [aw c0])
def MN (aR:Wf32):Nat->bl->Int->Int->cf->Int->Int->Int->bl->Int->aH->Int->Int->af->ah->ah->bf->Option Bool
 |0=>λ_ _ _ _ _ _ _ _ _ _ _ _ _ _ _ _=>none
 |n+1=>Yl aR (MN aR n) n
def awO {aR} (bK:YX aR):∀n:Nat,YW (MN aR n)
 |0=>λ_ _ _ _ _ _ _ _ _ _ _ _ _ _ _ _ _ h=>nz h
 |n+1=>aKc bK (awO bK n) n
def Yk (bR:Wf33) (n:Nat) (t11:bl) (t12 t13:Int) (t18:cf) (t19 t20 t29:Int) (t31:bl) (t32:Int) (b1:af) (b4:ah) (b6:bf):Option Bool:=
 bR t11 t12 t13 t18 t19 (bh (t20+1)) b1 b4
def L4:=K8 (A44 (cZ 5733)) aCM
def aKb {bR} (dA:L4 bR) (n:Nat):YX (Yk bR n):=λt11 t12 t13 t18 t19 t20 t29 t31 t32 b1 b4 b6 r h=>ra (dA h) []
def Yj (cA:amJ) (back:Wf33) (n:Nat) (t11:bl) (t12 t13:Int) (t18:cf) (t19 t20:Int) (b1:af) (b4:ah):Option Bool:=
 if decide (t20<t19) then
 (idx t18 t20).bind λx2=>if decide (x2.aO<0) then
 some false
 else
 if !decide (x2.aO<(b1.ai.length:Int)) then
 some false
 else
 (idx b1.ai x2.aO).bind λpX=>if (x2.ae.length:Int) !=pX.aP then
 some false
 else
 MN (Yk back n) n t11 t12 t13 t18 t19 t20 x2.aO b1.ai (b1.ai.length:Int) x2.ae (x2.ae.length:Int) 0 b1 b4 pX x2
 else
 cA t11 t12 t13 b1
def TU:=K4 (A44 (cZ 485)) aoj
def aKa {cA} (dX:TU cA) {back} (aS:L4 back) (n:Nat):L4 (Yj cA back n):=λt11 t12 t13 t18 t19 t20 b1 b4 r h=>ie h (λc0 h=>be h λx2 cW h=>let zA:SE:=[aw c0,(0,dM.idx cW)];ie h (λc1 h=>bG h zA [fL c1]) (λc1 h=>let zB:SE:=dk zA [fL c1,(5,bI.cw b1.ai)];ie h (λc2 h=>bG h zB [aw c2]) (λc2 h=>be h λpX sX h=>let zC:SE:=dk zB [aw c2,(5,bI.idx sX),(5,R3.cw x2.ae)];ie h (λc3 h=>bG h zC [bq c3]) (λc3 h=>cL (awO (aKb aS n) n h) zC [bq c3,(2,R3.cw x2.ae)])))) (λc0 h=>ra (dX h) [aw c0])
def H4 (cA:amJ):Nat->bl->Int->Int->cf->Int->Int->af->ah->Option Bool
 |0=>λ_ _ _ _ _ _ _ _=>none
 |n+1=>Yj cA (H4 cA n) n
def awN {cA} (dX:TU cA):∀n:Nat,L4 (H4 cA n)
 |0=>λ_ _ _ _ _ _ _ _ _ h=>nz h
 |n+1=>aKa dX (awN dX n) n
def Yi (cV:amJ) (n:Nat) (t11:bl) (t12 t13:Int) (b1:af):Option Bool:=
 cV t11 t12 (bh (t13+1)) b1
def L3:=K4 (A44 [0,1,0,1]) aoj
def aJZ {cV} (eZ:L3 cV) (n:Nat):TU (Yi cV n):=λt11 t12 t13 b1 r h=>ra (eZ h) []
def Yh (dZ:Option Bool) (back:amJ) (n:Nat) (t11:bl) (t12 t13:Int) (b1:af):Option Bool:=
 if decide (t13<t12) then
 (idx t11 t13).bind λx2=>H4 (Yi back n) n t11 t12 t13 x2.ak (x2.ak.length:Int) 0 b1 x2
 else
 dZ
def TT:=K0 (A44 [1,1]) aCL
def aJY {dZ} (gH:TT dZ) {back} (aS:L3 back) (n:Nat):L3 (Yh dZ back n):=λt11 t12 t13 b1 r h=>ie h (λc0 h=>be h λx2 cW h=>ra (awN (aJZ aS n) n h) [aw c0,(0,bI.idx cW),(5,dM.cw x2.ak)]) (λc0 h=>ra (gH h) [aw c0])
def H3 (dZ:Option Bool):Nat->bl->Int->Int->af->Option Bool
 |0=>λ_ _ _ _=>none
 |n+1=>Yh dZ (H3 dZ n) n
def awM {dZ} (gH:TT dZ):∀n:Nat,L3 (H3 dZ n)
 |0=>λ_ _ _ _ _ h=>nz h
 |n+1=>aJY gH (awM gH n) n
def QN (n:Nat):Option Bool:=
 some true
def aJX (n:Nat):TT (QN n):=λr h=>rr h []
def ayn (n:Nat) (s0:af):Option Bool:=
 H3 (QN n) n s0.ai (s0.ai.length:Int) 0 s0
def aJW (n:Nat):K1 (A44 []) pM (ayn n):=λs0 r h=>ra (awM (aJX n) n h) [(4,bI.cw s0.ai)]
def F44:=ayn
def ev44 (n:Nat):K1 (Cx E0 44 dq cu) pM (F44 n):=λ_ _ h=>ca (X:=EW) (aJW n h)
def x100:=fx E0 Tryz.f100 [] []
def A100:=Ax x100 dq cu
def afC (n:Nat) (s0:af) (gk:Int):Option Bool:=
 if !decide (gk<0) then
 some (decide (gk<(s0.ai.length:Int)))
 else
 some false
def aHu (n:Nat):K2 (A100 []) E3 (afC n):=λs0 gk r h=>ie h (λc0 h=>rr h [bw c0,(4,bI.cw s0.ai)]) (λc0 h=>rr h [bw c0])
def anm:=afC
def aJd (n:Nat):K2 (Cx E0 100 dq cu) E3 (anm n):=λ_ _ _ h=>ca (X:=x100) (aHu n h)
def Fg (r:aH):List (Nat×Bx):= [(dg,v8 r)]
def x45:=fx E0 Tryz.f45 [] [dg]
def A45:=Ax x45 Dd Fg
def aCK (t25:cG) (t26 t27:Int) (IE:aH):LS:=⟨[(5,.ms 19 1 0 IE.length),(25,GY t25),(26,aN t26),(27,aN t27)],[(19,v8 IE)]⟩
def aCJ (IE:aH):LS:=⟨[(5,.ms 19 1 0 IE.length)],[(19,v8 IE)]⟩
def Yg (aR:Wf0) (back:cG->Int->Int->aH->Option aH) (n:Nat) (t25:cG) (t26 t27:Int) (IE:aH):Option aH:=
 if decide (t27<t26) then
 (idx t25 t27).bind λx2=>(app IE [x2.aC]).bind λdn=>back t25 t26 (bh (t27+1)) dn
 else
 aR IE
def TS:=K1 (A45 [1,1,1,1]) aCJ
def TQ:=K4 (A45 (cZ 87)) aCK
def aJV {aR} (bK:TS aR) {back} (aS:TQ back) (n:Nat):TQ (Yg aR back n):=λt25 t26 t27 IE r h=>ie h (λc0 h=>be h λx2 cW h=>be h λdn gh h=>ra (aS h) [aw c0,(0,dv.idx cW),(7,R3.app gh (R3.tK [x2.aC]))]) (λc0 h=>ra (bK h) [aw c0])
def MM (aR:Wf0):Nat->cG->Int->Int->aH->Option aH
 |0=>λ_ _ _ _=>none
 |n+1=>Yg aR (MM aR n) n
def awL {aR} (bK:TS aR):∀n:Nat,TQ (MM aR n)
 |0=>λ_ _ _ _ _ h=>nz h
 |n+1=>aJV bK (awL bK n) n
def Yf (n:Nat) (IE:aH):Option aH:=
 some IE
def aJU (n:Nat):TS (Yf n):=λIE r h=>rr h [(2,.fO 19 dg)]
def anB (n:Nat) (s0:af) (gk:Int):Option aH:=
 (anm n s0 gk).bind λx5=>if !x5 then
 some []
 else
 (idx s0.ai gk).bind λdn=>(B0 (dn.ae.length:Int) (0:Int)).bind λgA=>(idx s0.ai gk).bind λpX=>MM (Yf n) n pX.ae (pX.ae.length:Int) 0 []
def aJT (n:Nat):K2 (A45 []) E3 (anB n):=λs0 gk r h=>be h λx5 n9 h=>let zA:SE:=[qS (aJd n n9)];ie h (λc0 h=>bG h zA [aw c0,(1,.born [4] [] dg false 3 1)]) (λc0 h=>be h λdn gh h=>be h λgA kZ h=>be h λpX sX h=>cL (awL (aJU n) n h) zA [aw c0,(3,bI.idx gh),(2,dv.cw dn.ae),(0,R3.aHX [.int .i64 0] kZ),(4,bI.idx sX),(2,dv.cw pX.ae)])
def F45:=anB
def ev45 (n:Nat):K2 (Cx E0 45 Dd Fg) E3 (F45 n):=λ_ _ _ h=>ca (X:=x45) (aJT n h)
def x101:=fx E0 Tryz.f101 [] []
def avX:=Ax x101 dq cu
def aAv:LS:=⟨[],[]⟩
def ahG (rR:aH):LS:=⟨[(0,iR rR)],[]⟩
def Sk (aR:Option Bool) (back:aH->Int->Int->Option Bool) (n:Nat) (t5:aH) (t6 t7:Int):Option Bool:=
 if decide (t7<t6) then
 (idx t5 t7).bind λx2=>if x2 !=3 then
 if x2 !=4 then
 if x2 !=5 then
 some false
 else
 back t5 t6 (bh (t7+1))
 else
 back t5 t6 (bh (t7+1))
 else
 back t5 t6 (bh (t7+1))
 else
 aR
def TP:=K0 (avX [1,1]) aAv
def TO:=K3 (avX [0,1,0,1]) ahj
def aHt {aR} (bK:TP aR) {back} (aS:TO back) (n:Nat):TO (Sk aR back n):=λt5 t6 t7 r h=>ie h (λc0 h=>be h λx2 cW h=>let zA:SE:=[aw c0,(0,R3.idx cW)];ie h (λc1 h=>ie h (λc2 h=>ie h (λc3 h=>bG h zA [bw c1,bq c2,bw c3]) (λc3 h=>cL (aS h) zA [bw c1,bq c2,bw c3])) (λc2 h=>cL (aS h) zA [bw c1,bq c2])) (λc1 h=>cL (aS h) zA [bw c1])) (λc0 h=>ra (bK h) [aw c0])
def Gs (aR:Option Bool):Nat->aH->Int->Int->Option Bool
 |0=>λ_ _ _=>none
 |n+1=>Sk aR (Gs aR n) n
def aqB {aR} (bK:TP aR):∀n:Nat,TO (Gs aR n)
 |0=>λ_ _ _ _ h=>nz h
 |n+1=>aHt bK (aqB bK n) n
def afB (n:Nat):Option Bool:=
 some true
def aHs (n:Nat):TP (afB n):=λr h=>rr h []
def afA (n:Nat) (rR:aH):Option Bool:=
 Gs (afB n) n rR (rR.length:Int) 0
def aHr (n:Nat):K1 (avX []) ahG (afA n):=λrR r h=>ra (aqB (aHs n) n h) [(2,R3.cw rR)]
def aeh:=afA
def axS (n:Nat):K1 (Cx E0 101 dq cu) ahG (aeh n):=λ_ _ h=>ca (X:=x101) (aHr n h)
def aoM (r:(Bool×Int)):AV:=.bool r.1
def aid (r:(Bool×Int)):List (Nat×Bx):= [(2,.flat 3 [aN r.2])]
def x102:=fx E0 Tryz.f102 [2] [2]
def avW:=Ax x102 aoM aid
def C102:=Cx E0 102 aoM aid
def aAu (rn:Int) (t23:bJ) (t24 t25 b2:Int):LS:=⟨[(1,aN rn),(2,.loc 2 0),(23,.slice 107 13 (fH t23)),(24,aN t24),(25,aN t25)],[(2,.flat 3 [aN b2])]⟩
def aAt (b2:Int):LS:=⟨[],[(2,.flat 3 [aN b2])]⟩
def ahF (p0:ag) (rn uH:Int):LS:=⟨[(0,.agg (eX p0)),(1,aN rn),(2,.loc 2 0)],[(2,.flat 3 [aN uH])]⟩
def Sj (nJ:ag->Int->Int->Option (Bool×Int)) (aR:Int->Option (Bool×Int)) (back:Int->bJ->Int->Int->Int->Option (Bool×Int)) (n:Nat) (rn:Int) (t23:bJ) (t24 t25 b2:Int):Option (Bool×Int):=
 if decide (t25<t24) then
 (idx t23 t25).bind λx2=>(nJ x2 (bh (rn+1)) b2).bind λdn=>if !dn.1 then
 some (false,dn.2)
 else
 back rn t23 t24 (bh (t25+1)) dn.2
 else
 aR b2
def E5:=K3 C102 ahF
def TN:=K1 (avW [1,1,1,1]) aAt
def TM:=K5 (avW (cZ 87)) aAu
def aHq {nJ} (zZ:E5 nJ) {aR} (bK:TN aR) {back} (aS:TM back) (n:Nat):TM (Sj nJ aR back n):=λrn t23 t24 t25 b2 r h=>ie h (λc0 h=>be h λx2 cW h=>be h λdn gh h=>let zA:SE:=[aw c0,(0,cT.idx cW),(7,dh (zZ gh) [(2,2)])];ie h (λc1 h=>bG h zA [aw c1]) (λc1 h=>cL (aS h) zA [aw c1])) (λc0 h=>ra (bK h) [aw c0])
def Gr (nJ:ag->Int->Int->Option (Bool×Int)) (aR:Int->Option (Bool×Int)):Nat->Int->bJ->Int->Int->Int->Option (Bool×Int)
 |0=>λ_ _ _ _ _=>none
 |n+1=>Sj nJ aR (Gr nJ aR n) n
def aqA {nJ} (zZ:E5 nJ) {aR} (bK:TN aR):∀n:Nat,TM (Gr nJ aR n)
 |0=>λ_ _ _ _ _ _ h=>nz h
 |n+1=>aHq zZ bK (aqA zZ bK n) n
def asg (nJ:ag->Int->Int->Option (Bool×Int)) (n:Nat) (b2:Int):Option (Bool×Int):=
 some (true,b2)
def aHp {nJ} (zZ:E5 nJ) (n:Nat):TN (asg nJ n):=λb2 r h=>rr h []
def afz (nJ:ag->Int->Int->Option (Bool×Int)) (n:Nat) (p0:ag) (rn uH:Int):Option (Bool×Int):=
 if decide ((bh (uH - 1))<0) then
 some (false,bh (uH - 1))
 else
 if decide (8<rn) then
 some (false,bh (uH - 1))
 else
 Gr nJ (asg nJ n) n rn p0.fArgs (p0.fArgs.length:Int) 0 (bh (uH - 1))
def aHo {nJ} (zZ:E5 nJ) (n:Nat):K3 (avW []) ahF (afz nJ n):=λp0 rn uH r h=>ie h (λc0 h=>rr h [(11,eb c0)]) (λc0 h=>ie h (λc1 h=>rr h [(11,eb c0),bq c1]) (λc1 h=>ra (aqA zZ (aHp zZ n) n h) [(11,eb c0),bq c1,(3,cT.cw p0.fArgs)]))
def Vx:Nat->ag->Int->Int->Option (Bool×Int)
 |0,_,_,_=>none
 |n+1,p0,rn,uH=>afz (Vx n) n p0 rn uH
def axR:∀n:Nat,E5 (Vx n)
 |0=>λ_ _ _ _ h=>nz h
 |n+1=>λ_ _ _ _ h=>ca (X:=x102) (aHo (axR n) n h)
end Go.Proofs.YtbnkhmoelnfjoaaGreat
end
