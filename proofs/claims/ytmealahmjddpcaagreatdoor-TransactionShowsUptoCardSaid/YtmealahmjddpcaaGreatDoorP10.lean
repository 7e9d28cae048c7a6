/- Texts that belong together. The first: Functions of the program as plain functions, and that the program answers as they do; written by a program (comp2.py). -/
import Derived.Test.YtmealahmjddpcaaGreatDoorP9
import Derived.KernelRfl
import Derived.Test.YtmealahmjddpcaaGreatDoorP8
set_option linter.all false
set_option maxRecDepth 100000
noncomputable section
namespace Go.Proofs.YtmealahmjddpcaaGreatDoor
open Go.Sim
def abj (r:Int):AV:=.int .i64 r
def VV (r:Int):List (Nat×Bx):= []
def x79:=fx E0 Tryz.f79 [] []
def A79:=Ax x79 abj VV
def C79:=Cx E0 79 abj VV
def TU (bp params1:Wq0) (p2:an):LS:=⟨[(0,.slice 3 1 (bq bp)),(1,.slice 3 1 (bq params1)),(2,.agg (gO p2))],[]⟩
def SP (n:Nat) (bp params1:Wq0) (p2:an):Option Int:=
 (MG n bp).bind fun x4=>
 if !x4 then
 some 1
 else
 (MG n params1).bind fun x9=>
 if !x9 then
 some 1
 else
 (EM n p2 1 24).bind fun x16=>
 if !x16.1 then
 some 2
 else
 (mg n (cQ.mk bp params1) p2).bind fun x23=>
 if !x23 then
 some 50
 else
 some 0
theorem ajq (n:Nat):K3 (A79 []) TU (SP n):=fun bp params1 p2 r h=>
 be h fun x4 hx4 h=>
 ie h (fun c0 h=>
 rr h [(3,.call (pD n hx4) [] [] []),(0,eb c0)]) (fun c0 h=>
 be h fun x9 hx9 h=>
 ie h (fun c1 h=>
 rr h [(3,.call (pD n hx4) [] [] []),(0,eb c0),(2,.call (pD n hx9) [] [] []),(0,eb c1)]) (fun c1 h=>
 be h fun x16 cO h=>
 ie h (fun c2 h=>
 rr h [(3,.call (pD n hx4) [] [] []),(0,eb c0),(2,.call (pD n hx9) [] [] []),(0,eb c1),(4,.call (Gx n cO) [] [(7,2)] []),(0,eb c2)]) (fun c2 h=>
 be h fun x23 fy h=>
 ie h (fun c3 h=>
 rr h [(3,.call (pD n hx4) [] [] []),(0,eb c0),(2,.call (pD n hx9) [] [] []),(0,eb c1),(4,.call (Gx n cO) [] [(7,2)] []),(0,eb c2),(4,.call (RA n fy) [] [] []),(0,eb c3)]) (fun c3 h=>
 rr h [(3,.call (pD n hx4) [] [] []),(0,eb c0),(2,.call (pD n hx9) [] [] []),(0,eb c1),(4,.call (Gx n cO) [] [(7,2)] []),(0,eb c2),(4,.call (RA n fy) [] [] []),(0,eb c3)]))))
def F79 (n:Nat) (bp params1:Wq0) (p2:an):Option Int:=SP n bp params1 p2
theorem ev79 (n:Nat):K3 C79 TU (F79 n):=fun _ _ _ _ h=>ca (X:=x79) (ajq n h)
def abO (r:Int):AV:=.int .i64 r
def Wq (r:Int):List (Nat×Bx):= []
def x38:=fx E0 Tryz.f38 [] []
def A38:=Ax x38 abO Wq
def C38:=Cx E0 38 abO Wq
def I5 (t16:Wq1) (t17 t18:Int) (b1:af):LS:=⟨[(1,.loc 1 0),(16,.slice 63 5 (dC t16)),(17,.int .i64 t17),(18,.int .i64 t18)],[(1,.flat 26 (ba b1))]⟩
def I4 (qD:Wq0) (t58:Wq1) (t59 t60:Int) (t69:Wq8) (t70 t71:Int) (b1:af):LS:=⟨[(1,.loc 1 0),(7,.slice 3 1 (bq qD)),(58,.slice 63 5 (dC t58)),(59,.int .i64 t59),(60,.int .i64 t60),(69,.slice 84 13 (il t69)),(70,.int .i64 t70),(71,.int .i64 t71)],[(1,.flat 26 (ba b1))]⟩
def I3 (t58:Wq1) (t59 t60:Int) (b1:af):LS:=⟨[(1,.loc 1 0),(58,.slice 63 5 (dC t58)),(59,.int .i64 t59),(60,.int .i64 t60)],[(1,.flat 26 (ba b1))]⟩
def AG (t58:Wq1) (t59 t60:Int) (b1:af):LS:=⟨[(1,.loc 1 0),(58,.slice 63 5 (dC t58)),(59,.int .i64 t59),(60,.int .i64 t60)],[(1,.flat 26 (ba b1))]⟩
def I2:LS:=⟨[],[]⟩
def I1 (b1:af):LS:=⟨[(1,.loc 1 0)],[(1,.flat 26 (ba b1))]⟩
def Uy (s0:af):LS:=⟨[(0,.agg (ba s0))],[]⟩
def HA (k_5:af->Option Int) (back:Wq1->Int->Int->af->Option Int) (n:Nat) (t16:Wq1) (t17 t18:Int) (b1:af):Option Int:=
 if decide (t18<t17) then
 (idx t16 t18).bind fun x2=>
 if decide (8<(x2.ak.length:Int)) then
 some 2
 else
 if decide (4<(x2.cf.length:Int)) then
 some 2
 else
 if decide (4<(x2.dS.length:Int)) then
 some 2
 else
 back t16 t17 (w64 (t18+1)) b1
 else
 k_5 b1
theorem akI {k_5} (iK:K1 (A38 [1,1,1]) I1 k_5) {back} (aD:K4 (A38 [0,1,0,1,1]) I5 back) (n:Nat):K4 (A38 [0,1,0,1,1]) I5 (HA k_5 back n):=fun t16 t17 t18 b1 r h=>
 ie h (fun c0 h=>
 be h fun x2 hx2 h=>
 ie h (fun c1 h=>
 rr h [(0,eb c0),(0,R62.idx hx2),(5,.eqv (R76.ax x2.ak)),(0,eb c1)]) (fun c1 h=>
 ie h (fun c2 h=>
 rr h [(0,eb c0),(0,R62.idx hx2),(5,.eqv (R76.ax x2.ak)),(0,eb c1),(3,.eqv (R79.ax x2.cf)),(0,eb c2)]) (fun c2 h=>
 ie h (fun c3 h=>
 rr h [(0,eb c0),(0,R62.idx hx2),(5,.eqv (R76.ax x2.ak)),(0,eb c1),(3,.eqv (R79.ax x2.cf)),(0,eb c2),(4,.eqv (R83.ax x2.dS)),(0,eb c3)]) (fun c3 h=>
 ra (aD h) [(0,eb c0),(0,R62.idx hx2),(5,.eqv (R76.ax x2.ak)),(0,eb c1),(3,.eqv (R79.ax x2.cf)),(0,eb c2),(4,.eqv (R83.ax x2.dS)),(0,eb c3)])))) (fun c0 h=>
 ra (iK h) [(0,eb c0)])
def yo (k_5:af->Option Int):Nat->Wq1->Int->Int->af->Option Int
 |0,_,_,_,_=>none
 |n+1,t16,t17,t18,b1=>HA k_5 (yo k_5 n) n t16 t17 t18 b1
theorem acP {k_5} (iK:K1 (A38 [1,1,1]) I1 k_5):∀n:Nat,K4 (A38 [0,1,0,1,1]) I5 (yo k_5 n)
 |0=>fun _ _ _ _ _ h=>nz h
 |n+1=>fun _ _ _ _ _ h=>akI iK (acP iK n) n h
def Hz (k_2:Wq1->Int->Int->af->Option Int) (back:Wq0->Wq1->Int->Int->Wq8->Int->Int->af->Option Int) (n:Nat) (qD:Wq0) (t58:Wq1) (t59 t60:Int) (t69:Wq8) (t70 t71:Int) (b1:af):Option Int:=
 if decide (t71<t70) then
 (idx t69 t71).bind fun x2=>
 (F79 n qD [] x2).bind fun x9=>
 if x9 !=0 then
 some x9
 else
 back qD t58 t59 t60 t69 t70 (w64 (t71+1)) b1
 else
 k_2 t58 t59 t60 b1
theorem akH {k_2} (cS:K4 (A38 [1,1,1,0,0,1,0,1,1,1,1]) I3 k_2) {back} (aD:K8 (A38 [0,1,1,1,0,0,1,1,0,0,1,0,1,1,1,1]) I4 back) (n:Nat):K8 (A38 [0,1,1,1,0,0,1,1,0,0,1,0,1,1,1,1]) I4 (Hz k_2 back n):=fun qD t58 t59 t60 t69 t70 t71 b1 r h=>
 ie h (fun c0 h=>
 be h fun x2 hx2 h=>
 be h fun x9 hx9 h=>
 ie h (fun c1 h=>
 rr h [(0,eb c0),(0,R83.idx hx2),(5,.call (ev79 n hx9) [.one .same,.one (.sl 3 1)] [] []),(2,eb c1)]) (fun c1 h=>
 ra (aD h) [(0,eb c0),(0,R83.idx hx2),(5,.call (ev79 n hx9) [.one .same,.one (.sl 3 1)] [] []),(2,eb c1)])) (fun c0 h=>
 ra (cS h) [(0,eb c0)])
def yn (k_2:Wq1->Int->Int->af->Option Int):Nat->Wq0->Wq1->Int->Int->Wq8->Int->Int->af->Option Int
 |0,_,_,_,_,_,_,_,_=>none
 |n+1,qD,t58,t59,t60,t69,t70,t71,b1=>Hz k_2 (yn k_2 n) n qD t58 t59 t60 t69 t70 t71 b1
theorem acO {k_2} (cS:K4 (A38 [1,1,1,0,0,1,0,1,1,1,1]) I3 k_2):∀n:Nat,K8 (A38 [0,1,1,1,0,0,1,1,0,0,1,0,1,1,1,1]) I4 (yn k_2 n)
 |0=>fun _ _ _ _ _ _ _ _ _ h=>nz h
 |n+1=>fun _ _ _ _ _ _ _ _ _ h=>akH cS (acO cS n) n h
def Hy (k_3:Wq1->Int->Int->af->Option Int) (n:Nat) (t58:Wq1) (t59 t60:Int) (b1:af):Option Int:=
 k_3 t58 t59 (w64 (t60+1)) b1
theorem akG {k_3} (bT:K4 (A38 [0,1,0,1,1,1,1]) AG k_3) (n:Nat):K4 (A38 [1,1,1,0,0,1,0,1,1,1,1]) I3 (Hy k_3 n):=fun t58 t59 t60 b1 r h=>
 ra (bT h) []
def Hx (k_4:Option Int) (back:Wq1->Int->Int->af->Option Int) (n:Nat) (t58:Wq1) (t59 t60:Int) (b1:af):Option Int:=
 if decide (t60<t59) then
 (idx t58 t60).bind fun x3=>
 (F78 n b1 t60).bind fun x11=>
 yn (Hy back n) n x11 t58 t59 t60 x3.dS (x3.dS.length:Int) 0 b1
 else
 k_4
theorem akF {k_4} (gy:K0 (A38 [1,1,1,1,1]) I2 k_4) {back} (aD:K4 (A38 [0,1,0,1,1,1,1]) AG back) (n:Nat):K4 (A38 [0,1,0,1,1,1,1]) AG (Hx k_4 back n):=fun t58 t59 t60 b1 r h=>
 ie h (fun c0 h=>
 be h fun x3 hx3 h=>
 be h fun x11 ct h=>
 ra (acO (akG aD n) n h) [(0,eb c0),(1,R62.idx hx3),(6,.call (Ls n ct) [] [] [(67,200000)]),(3,.eqv (R83.ax x3.dS)),(1,R3.frz 67 x11)]) (fun c0 h=>
 ra (gy h) [(0,eb c0)])
def ve (k_4:Option Int):Nat->Wq1->Int->Int->af->Option Int
 |0,_,_,_,_=>none
 |n+1,t58,t59,t60,b1=>Hx k_4 (ve k_4 n) n t58 t59 t60 b1
theorem acN {k_4} (gy:K0 (A38 [1,1,1,1,1]) I2 k_4):∀n:Nat,K4 (A38 [0,1,0,1,1,1,1]) AG (ve k_4 n)
 |0=>fun _ _ _ _ _ h=>nz h
 |n+1=>fun _ _ _ _ _ h=>akF gy (acN gy n) n h
def Cz (n:Nat):Option Int:=
 some 0
theorem akE (n:Nat):K0 (A38 [1,1,1,1,1]) I2 (Cz n):=fun r h=>
 rr h []
def Hw (n:Nat) (b1:af):Option Int:=
 if decide (b1.bQ<0) then
 some 70
 else
 if decide (1000<b1.bQ) then
 some 70
 else
 (F76 n b1).bind fun x11=>
 if !x11 then
 some 70
 else
 (F77 n b1).bind fun x17=>
 if !x17 then
 some 70
 else
 ve (Cz n) n b1.ag (b1.ag.length:Int) 0 b1
theorem akD (n:Nat):K1 (A38 [1,1,1]) I1 (Hw n):=fun b1 r h=>
 ie h (fun c0 h=>
 rr h [(2,eb c0)]) (fun c0 h=>
 ie h (fun c1 h=>
 rr h [(2,eb c0),(3,eb c1)]) (fun c1 h=>
 be h fun x11 ct h=>
 ie h (fun c2 h=>
 rr h [(2,eb c0),(3,eb c1),(3,.call (Z4 n ct) [] [] []),(0,eb c2)]) (fun c2 h=>
 be h fun x17 dZ h=>
 ie h (fun c3 h=>
 rr h [(2,eb c0),(3,eb c1),(3,.call (Z4 n ct) [] [] []),(0,eb c2),(3,.call (ev77 n dZ) [] [] []),(0,eb c3)]) (fun c3 h=>
 ra (acN (akE n) n h) [(2,eb c0),(3,eb c1),(3,.call (Z4 n ct) [] [] []),(0,eb c2),(3,.call (ev77 n dZ) [] [] []),(0,eb c3),(3,.eqv (R62.ax b1.ag))]))))
def Tg (n:Nat) (s0:af):Option Int:=
 if decide (8<(s0.ag.length:Int)) then
 some 2
 else
 yo (Hw n) n s0.ag (s0.ag.length:Int) 0 s0
theorem akC (n:Nat):K1 (A38 []) Uy (Tg n):=fun s0 r h=>
 ie h (fun c0 h=>
 rr h [(4,.eqv (R62.ax s0.ag)),(0,eb c0)]) (fun c0 h=>
 ra (acP (akD n) n h) [(4,.eqv (R62.ax s0.ag)),(0,eb c0),(2,.eqv (R62.ax s0.ag))])
def F38 (n:Nat) (s0:af):Option Int:=Tg n s0
theorem wF (n:Nat):K1 C38 Uy (F38 n):=fun _ _ h=>ca (X:=x38) (akC n h)
def abN (r:Bool):AV:=.bool r
def Wp (r:Bool):List (Nat×Bx):= []
def x39:=fx E0 Tryz.f39 [] []
def A39:=Ax x39 abN Wp
def C39:=Cx E0 39 abN Wp
def I0 (dF:Wq0) (t12:Wq2) (t13 t14:Int):LS:=⟨[(1,.slice 3 1 (bq dF)),(12,.slice 65 3 (aL t12)),(13,.int .i64 t13),(14,.int .i64 t14)],[]⟩
def IZ:LS:=⟨[],[]⟩
def Ux (dJ:Wq2) (dF:Wq0):LS:=⟨[(0,.slice 65 3 (aL dJ)),(1,.slice 3 1 (bq dF))],[]⟩
def Hv (k_1:Option Bool) (back:Wq0->Wq2->Int->Int->Option Bool) (n:Nat) (dF:Wq0) (t12:Wq2) (t13 t14:Int):Option Bool:=
 if decide (t14<t13) then
 (idx t12 t14).bind fun x3=>
 (F80 n x3).bind fun x10=>
 if !x10 then
 some false
 else
 (idx dF t14).bind fun x18=>
 if x3.aw !=x18 then
 some false
 else
 back dF t12 t13 (w64 (t14+1))
 else
 k_1
theorem akB {k_1} (aJ:K0 (A39 [1,1,1]) IZ k_1) {back} (aD:K4 (A39 [0,1,0,1,1]) I0 back) (n:Nat):K4 (A39 [0,1,0,1,1]) I0 (Hv k_1 back n):=fun dF t12 t13 t14 r h=>
 ie h (fun c0 h=>
 be h fun x3 hx3 h=>
 be h fun x10 de h=>
 ie h (fun c1 h=>
 rr h [(0,eb c0),(1,R64.idx hx3),(5,.call (Lr n de) [] [] []),(0,eb c1)]) (fun c1 h=>
 be h fun x18 iJ h=>
 ie h (fun c2 h=>
 rr h [(0,eb c0),(1,R64.idx hx3),(5,.call (Lr n de) [] [] []),(0,eb c1),(5,R3.idx iJ),(1,eb c2)]) (fun c2 h=>
 ra (aD h) [(0,eb c0),(1,R64.idx hx3),(5,.call (Lr n de) [] [] []),(0,eb c1),(5,R3.idx iJ),(1,eb c2)]))) (fun c0 h=>
 ra (aJ h) [(0,eb c0)])
def ym (k_1:Option Bool):Nat->Wq0->Wq2->Int->Int->Option Bool
 |0,_,_,_,_=>none
 |n+1,dF,t12,t13,t14=>Hv k_1 (ym k_1 n) n dF t12 t13 t14
theorem acM {k_1} (aJ:K0 (A39 [1,1,1]) IZ k_1):∀n:Nat,K4 (A39 [0,1,0,1,1]) I0 (ym k_1 n)
 |0=>fun _ _ _ _ _ h=>nz h
 |n+1=>fun _ _ _ _ _ h=>akB aJ (acM aJ n) n h
def Hu (n:Nat):Option Bool:=
 some true
theorem akA (n:Nat):K0 (A39 [1,1,1]) IZ (Hu n):=fun r h=>
 rr h []
def Te (n:Nat) (dJ:Wq2) (dF:Wq0):Option Bool:=
 if (dJ.length:Int) !=(dF.length:Int) then
 some false
 else
 ym (Hu n) n dF dJ (dJ.length:Int) 0
theorem akz (n:Nat):K2 (A39 []) Ux (Te n):=fun dJ dF r h=>
 ie h (fun c0 h=>
 rr h [(2,.eqv (R64.ax dJ)),(1,.eqv (R3.ax dF)),(0,eb c0)]) (fun c0 h=>
 ra (acM (akA n) n h) [(2,.eqv (R64.ax dJ)),(1,.eqv (R3.ax dF)),(0,eb c0),(1,.eqv (R64.ax dJ))])
def F39 (n:Nat) (dJ:Wq2) (dF:Wq0):Option Bool:=Te n dJ dF
theorem Ep (n:Nat):K2 C39 Ux (F39 n):=fun _ _ _ h=>ca (X:=x39) (akz n h)
def abM (r:Wq0):AV:=.ms 200000 1 0 r.length
def Wo (r:Wq0):List (Nat×Bx):= [(200000,.rows false 3 1 (bq r))]
def x40:=fx E0 Tryz.f40 [] [200000]
def A40:=Ax x40 abM Wo
def C40:=Cx E0 40 abM Wo
def Uw (s0:af) (aU:Int):LS:=⟨[(0,.agg (ba s0)),(1,.int .i64 aU)],[]⟩
def Td (n:Nat) (s0:af) (aU:Int):Option Wq0:=
 (F78 n s0 aU).bind fun x5=>
 (F81 n s0 aU).bind fun x10=>
 if !x10 then
 some []
 else
 (idx s0.ag aU).bind fun x17=>
 if decide (x17.au<0) then
 some []
 else
 (idx s0.ag aU).bind fun x27=>
 (gA x5.length (if (x5.length:Int)<x27.au then (x5.length:Int) else x27.au)).bind fun x34=>
 some (x5.take x34)
theorem aky (n:Nat):K2 (A40 []) Uw (Td n):=fun s0 aU r h=>
 be h fun x5 hx5 h=>
 be h fun x10 de h=>
 ie h (fun c0 h=>
 rr h [(4,.call (Ls n hx5) [] [] [(8,200000)]),(3,.call (qU n de) [] [] []),(0,eb c0),(3,.born [4] [] 200000 false 3 1)]) (fun c0 h=>
 be h fun x17 dZ h=>
 ie h (fun c1 h=>
 rr h [(4,.call (Ls n hx5) [] [] [(8,200000)]),(3,.call (qU n de) [] [] []),(0,eb c0),(4,R62.idx dZ),(2,eb c1),(2,.born [4] [] 200000 false 3 1)]) (fun c1 h=>
 be h fun x27 nv h=>
 be h fun x34 uw h=>
 rr h [(4,.call (Ls n hx5) [] [] [(8,200000)]),(3,.call (qU n de) [] [] []),(0,eb c0),(4,R62.idx dZ),(2,eb c1),(5,R62.idx nv),(5,R3.gA (xs:=x5) uw (Nat.le_of_eq rfl)),(1,.ren 8 200000),(0,.shr 200000 (R3.take x5 x34)),(0,.seq 4 (congrArg (fun n_=>(AV.ms 200000 1 0 n_)) ((vx (xs:=x5) (Nat.le_trans (kI uw).2 (Nat.le_of_eq rfl))).symm)))]))
def F40 (n:Nat) (s0:af) (aU:Int):Option Wq0:=Td n s0 aU
theorem Lu (n:Nat):K2 C40 Uw (F40 n):=fun _ _ _ h=>ca (X:=x40) (aky n h)
def Vf (r:Bool):AV:=.bool r
def OH (r:Bool):List (Nat×Bx):= []
def x137:=fx E0 Tryz.f137 [] []
def A137:=Ax x137 Vf OH
def C137:=Cx E0 137 Vf OH
def N8 (x0:Int):LS:=⟨[(0,.int .i64 x0)],[]⟩
def MV (n:Nat) (x0:Int):Option Bool:=
 some (x0 !=x0)
theorem agO (n:Nat):K1 (A137 []) N8 (MV n):=fun x0 r h=>
 rr h []
def Sv (n:Nat) (x0:Int):Option Bool:=MV n x0
theorem lN (n:Nat):K1 C137 N8 (Sv n):=fun _ _ h=>ca (X:=x137) (agO n h)
def Vl (r:Int):AV:=.int .i64 r
def ON (r:Int):List (Nat×Bx):= []
def x121:=fx E0 Tryz.f121 [] []
def A121:=Ax x121 Vl ON
def C121:=Cx E0 121 Vl ON
def Og (x0 y1:Int):LS:=⟨[(0,.int .i64 x0),(1,.int .i64 y1)],[]⟩
def M1 (n:Nat) (x0 y1:Int):Option Int:=
 (Sv n x0).bind fun x3=>
 (Sv n y1).bind fun x7=>
 if x3 then
 if x7 then
 some 0
 else
 some (-1)
 else
 if x7 then
 some 1
 else
 if decide (x0<y1) then
 some (-1)
 else
 if decide (y1<x0) then
 some 1
 else
 some 0
theorem agU (n:Nat):K2 (A121 []) Og (M1 n):=fun x0 y1 r h=>
 be h fun x3 hx3 h=>
 be h fun x7 hx7 h=>
 ie h (fun c0 g0=>by subst c0;exact (
 ie g0 (fun c1 g1=>by subst c1;exact (
 rr g1 [(2,.call (lN n hx3) [] [] []),(2,.call (lN n hx7) [] [] [])])) (fun c1 g1=>by subst c1;exact (
 rr g1 [(2,.call (lN n hx3) [] [] []),(2,.call (lN n hx7) [] [] [])])))) (fun c0 g0=>by subst c0;exact (
 ie g0 (fun c1 g1=>by subst c1;exact (
 rr g1 [(2,.call (lN n hx3) [] [] []),(2,.call (lN n hx7) [] [] [])])) (fun c1 g1=>by subst c1;exact (
 ie g1 (fun c2 g1=>
 rr g1 [(2,.call (lN n hx3) [] [] []),(2,.call (lN n hx7) [] [] []),(5,eb c2)]) (fun c2 g1=>
 ie g1 (fun c3 g1=>
 rr g1 [(2,.call (lN n hx3) [] [] []),(2,.call (lN n hx7) [] [] []),(5,eb c2),(2,eb c3)]) (fun c3 g1=>
 rr g1 [(2,.call (lN n hx3) [] [] []),(2,.call (lN n hx7) [] [] []),(5,eb c2),(2,eb c3)]))))))
def Sx (n:Nat) (x0 y1:Int):Option Int:=M1 n x0 y1
theorem Rz (n:Nat):K2 C121 Og (Sx n):=fun _ _ _ h=>ca (X:=x121) (agU n h)
def Ve (r:Bool):AV:=.bool r
def OG (r:Bool):List (Nat×Bx):= []
def x138:=fx E0 Tryz.f138 [] []
def A138:=Ax x138 Ve OG
def C138:=Cx E0 138 Ve OG
def N7 (x0:Int):LS:=⟨[(0,.int .i64 x0)],[]⟩
def MU (n:Nat) (x0:Int):Option Bool:=
 some (x0 !=x0)
theorem agN (n:Nat):K1 (A138 []) N7 (MU n):=fun x0 r h=>
 rr h []
def Su (n:Nat) (x0:Int):Option Bool:=MU n x0
theorem lM (n:Nat):K1 C138 N7 (Su n):=fun _ _ h=>ca (X:=x138) (agN n h)
def Vk (r:Int):AV:=.int .i64 r
def OM (r:Int):List (Nat×Bx):= []
def x122:=fx E0 Tryz.f122 [] []
def A122:=Ax x122 Vk OM
def C122:=Cx E0 122 Vk OM
def Of (x0 y1:Int):LS:=⟨[(0,.int .i64 x0),(1,.int .i64 y1)],[]⟩
def M0 (n:Nat) (x0 y1:Int):Option Int:=
 (Su n x0).bind fun x3=>
 (Su n y1).bind fun x7=>
 if x3 then
 if x7 then
 some 0
 else
 some (-1)
 else
 if x7 then
 some 1
 else
 if decide (x0<y1) then
 some (-1)
 else
 if decide (y1<x0) then
 some 1
 else
 some 0
theorem agT (n:Nat):K2 (A122 []) Of (M0 n):=fun x0 y1 r h=>
 be h fun x3 hx3 h=>
 be h fun x7 hx7 h=>
 ie h (fun c0 g0=>by subst c0;exact (
 ie g0 (fun c1 g1=>by subst c1;exact (
 rr g1 [(2,.call (lM n hx3) [] [] []),(2,.call (lM n hx7) [] [] [])])) (fun c1 g1=>by subst c1;exact (
 rr g1 [(2,.call (lM n hx3) [] [] []),(2,.call (lM n hx7) [] [] [])])))) (fun c0 g0=>by subst c0;exact (
 ie g0 (fun c1 g1=>by subst c1;exact (
 rr g1 [(2,.call (lM n hx3) [] [] []),(2,.call (lM n hx7) [] [] [])])) (fun c1 g1=>by subst c1;exact (
 ie g1 (fun c2 g1=>
 rr g1 [(2,.call (lM n hx3) [] [] []),(2,.call (lM n hx7) [] [] []),(5,eb c2)]) (fun c2 g1=>
 ie g1 (fun c3 g1=>
 rr g1 [(2,.call (lM n hx3) [] [] []),(2,.call (lM n hx7) [] [] []),(5,eb c2),(2,eb c3)]) (fun c3 g1=>
 rr g1 [(2,.call (lM n hx3) [] [] []),(2,.call (lM n hx7) [] [] []),(5,eb c2),(2,eb c3)]))))))
def Sw (n:Nat) (x0 y1:Int):Option Int:=M0 n x0 y1
theorem adz (n:Nat):K2 C122 Of (Sw n):=fun _ _ _ h=>ca (X:=x122) (agT n h)
def Vd (r:Int):AV:=.int .i64 r
def OF (r:Int):List (Nat×Bx):= []
def x139:=fx E0 Tryz.f139 [] []
def A139:=Ax x139 Vd OF
def C139:=Cx E0 139 Vd OF
def N6 (a0 b1:ByteArray):LS:=⟨[(0,.str a0),(1,.str b1)],[]⟩
def MT (n:Nat) (a0 b1:ByteArray):Option Int:=
 (Sq n a0 b1).bind fun x4=>
 some x4
theorem agM (n:Nat):K2 (A139 []) N6 (MT n):=fun a0 b1 r h=>
 be h fun x4 hx4 h=>
 rr h [(3,.call (aiT n hx4) [] [] [])]
def aaI (n:Nat) (a0 b1:ByteArray):Option Int:=MT n a0 b1
theorem aiU (n:Nat):K2 C139 N6 (aaI n):=fun _ _ _ h=>ca (X:=x139) (agM n h)
def Vj (r:Int):AV:=.int .i64 r
def OL (r:Int):List (Nat×Bx):= []
def x123:=fx E0 Tryz.f123 [] []
def A123:=Ax x123 Vj OL
def C123:=Cx E0 123 Vj OL
def Oe (a0 b1:ByteArray):LS:=⟨[(0,.str a0),(1,.str b1)],[]⟩
def MZ (n:Nat) (a0 b1:ByteArray):Option Int:=
 (aaI n a0 b1).bind fun x4=>
 some x4
theorem agS (n:Nat):K2 (A123 []) Oe (MZ n):=fun a0 b1 r h=>
 be h fun x4 hx4 h=>
 rr h [(3,.call (aiU n hx4) [] [] [])]
def aaJ (n:Nat) (a0 b1:ByteArray):Option Int:=MZ n a0 b1
theorem aiV (n:Nat):K2 C123 Oe (aaJ n):=fun _ _ _ h=>ca (X:=x123) (agS n h)
def abc (r:Int):AV:=.int .i64 r
def VN (r:Int):List (Nat×Bx):= []
def x95:=fx E0 Tryz.f95 [] []
def A95:=Ax x95 abc VN
def C95:=Cx E0 95 abc VN
def TN (a0 b1:aH):LS:=⟨[(0,.agg (jX a0)),(1,.agg (jX b1))],[]⟩
def SJ (n:Nat) (a0 b1:aH):Option Int:=
 if ((a0.aw==b1.aw) && ((a0.bM==b1.bM) && ((decide (a0.bt=b1.bt)) && true))) then
 some 0
 else
 (Sx n a0.aw b1.aw).bind fun x11=>
 if x11 !=0 then
 some x11
 else
 (Sw n a0.bM b1.bM).bind fun x20=>
 if x20 !=0 then
 some x20
 else
 (aaJ n a0.bt b1.bt).bind fun x29=>
 some x29
theorem ajh (n:Nat):K2 (A95 []) TN (SJ n):=fun a0 b1 r h=>
 ie h (fun c0 h=>
 rr h [(5,eb c0)]) (fun c0 h=>
 be h fun x11 ct h=>
 ie h (fun c1 h=>
 rr h [(5,eb c0),(4,.call (Rz n ct) [] [] []),(2,eb c1)]) (fun c1 h=>
 be h fun x20 l7 h=>
 ie h (fun c2 h=>
 rr h [(5,eb c0),(4,.call (Rz n ct) [] [] []),(2,eb c1),(4,.call (adz n l7) [] [] []),(2,eb c2)]) (fun c2 h=>
 be h fun x29 we h=>
 rr h [(5,eb c0),(4,.call (Rz n ct) [] [] []),(2,eb c1),(4,.call (adz n l7) [] [] []),(2,eb c2),(4,.call (aiV n we) [] [] [])])))
def F95 (n:Nat) (a0 b1:aH):Option Int:=SJ n a0 b1
theorem ev95 (n:Nat):K2 C95 TN (F95 n):=fun _ _ _ h=>ca (X:=x95) (ajh n h)
def abd (r:Int):AV:=.int .i64 r
def VO (r:Int):List (Nat×Bx):= []
def x94:=fx E0 Tryz.f94 [] []
def A94:=Ax x94 abd VO
def C94:=Cx E0 94 abd VO
def Iv (s10 s21 t11:Wq2) (t12 t13:Int):LS:=⟨[(0,.slice 65 3 (aL s10)),(1,.slice 65 3 (aL s21)),(2,.fn 95 [] []),(11,.slice 65 3 (aL t11)),(12,.int .i64 t12),(13,.int .i64 t13)],[]⟩
def Iu (s10 s21:Wq2):LS:=⟨[(0,.slice 65 3 (aL s10)),(1,.slice 65 3 (aL s21))],[]⟩
def TO (s10 s21:Wq2):LS:=⟨[(0,.slice 65 3 (aL s10)),(1,.slice 65 3 (aL s21)),(2,.fn 95 [] [])],[]⟩
def GV (k_1:Wq2->Wq2->Option Int) (back:Wq2->Wq2->Wq2->Int->Int->Option Int) (n:Nat) (s10 s21 t11:Wq2) (t12 t13:Int):Option Int:=
 if decide (t13<t12) then
 (idx t11 t13).bind fun x3=>
 if !decide (t13<(s21.length:Int)) then
 some 1
 else
 (idx s21 t13).bind fun x15=>
 (F95 n x3 x15).bind fun x23=>
 if x23 !=0 then
 some x23
 else
 back s10 s21 t11 t12 (w64 (t13+1))
 else
 k_1 s10 s21
theorem ajk {k_1} (aJ:K2 (A94 [1,1]) Iu k_1) {back} (aD:K5 (A94 [0,1,0,1]) Iv back) (n:Nat):K5 (A94 [0,1,0,1]) Iv (GV k_1 back n):=fun s10 s21 t11 t12 t13 r h=>
 ie h (fun c0 h=>
 be h fun x3 hx3 h=>
 ie h (fun c1 h=>
 rr h [(0,eb c0),(1,R64.idx hx3),(6,.eqv (R64.ax s21)),(0,eb c1)]) (fun c1 h=>
 be h fun x15 fA h=>
 be h fun x23 fy h=>
 ie h (fun c2 h=>
 rr h [(0,eb c0),(1,R64.idx hx3),(6,.eqv (R64.ax s21)),(0,eb c1),(2,R64.idx fA),(6,.call (ev95 n fy) [] [] []),(2,eb c2)]) (fun c2 h=>
 ra (aD h) [(0,eb c0),(1,R64.idx hx3),(6,.eqv (R64.ax s21)),(0,eb c1),(2,R64.idx fA),(6,.call (ev95 n fy) [] [] []),(2,eb c2)]))) (fun c0 h=>
 ra (aJ h) [(0,eb c0)])
def u6 (k_1:Wq2->Wq2->Option Int):Nat->Wq2->Wq2->Wq2->Int->Int->Option Int
 |0,_,_,_,_,_=>none
 |n+1,s10,s21,t11,t12,t13=>GV k_1 (u6 k_1 n) n s10 s21 t11 t12 t13
theorem acv {k_1} (aJ:K2 (A94 [1,1]) Iu k_1):∀n:Nat,K5 (A94 [0,1,0,1]) Iv (u6 k_1 n)
 |0=>fun _ _ _ _ _ _ h=>nz h
 |n+1=>fun _ _ _ _ _ _ h=>ajk aJ (acv aJ n) n h
def Cn (n:Nat) (s10 s21:Wq2):Option Int:=
 if decide ((s10.length:Int)<(s21.length:Int)) then
 some (-1)
 else
 some 0
theorem ajj (n:Nat):K2 (A94 [1,1]) Iu (Cn n):=fun s10 s21 r h=>
 ie h (fun c0 h=>
 rr h [(1,.eqv (R64.ax s10)),(1,.eqv (R64.ax s21)),(0,eb c0)]) (fun c0 h=>
 rr h [(1,.eqv (R64.ax s10)),(1,.eqv (R64.ax s21)),(0,eb c0)])
def aec (n:Nat) (s10 s21:Wq2):Option Int:=
 u6 (Cn n) n s10 s21 s10 (s10.length:Int) 0
theorem aji (n:Nat):K2 (A94 []) TO (aec n):=fun s10 s21 r h=>
 ra (acv (ajj n) n h) [(2,.eqv (R64.ax s10))]
def F94 (n:Nat) (s10 s21:Wq2):Option Int:=aec n s10 s21
theorem ev94 (n:Nat):K2 C94 TO (F94 n):=fun _ _ _ h=>ca (X:=x94) (aji n h)
def abH (r:Int):AV:=.int .i64 r
def Wi (r:Int):List (Nat×Bx):= []
def x52:=fx E0 Tryz.f52 [] []
def A52:=Ax x52 abH Wi
def C52:=Cx E0 52 abH Wi
def Ur (a0 b1:Wq2):LS:=⟨[(0,.slice 65 3 (aL a0)),(1,.slice 65 3 (aL b1))],[]⟩
def aef (n:Nat) (a0 b1:Wq2):Option Int:=
 (F94 n a0 b1).bind fun x4=>
 some x4
theorem akr (n:Nat):K2 (A52 []) Ur (aef n):=fun a0 b1 r h=>
 be h fun x4 hx4 h=>
 rr h [(3,.call (ev94 n hx4) [] [] [])]
def F52 (n:Nat) (a0 b1:Wq2):Option Int:=aef n a0 b1
theorem oT (n:Nat):K2 C52 Ur (F52 n):=fun _ _ _ h=>ca (X:=x52) (akr n h)
def abt (r:Bool):AV:=.bool r
def V4 (r:Bool):List (Nat×Bx):= []
def x70:=fx E0 Tryz.f70 [] []
def A70:=Ax x70 abt V4
def C70:=Cx E0 70 abt V4
def afL (bk i10:Int) (iw rP:Bool) (t41:Wq2) (t42 t43:Int) (b9:ay) (b11:aH):LS:=⟨[(3,.int .i64 bk),(9,.loc 9 0),(10,.int .i64 i10),(11,.loc 11 0),(12,.bool iw),(13,.bool rP),(41,.slice 65 3 (aL t41)),(42,.int .i64 t42),(43,.int .i64 t43)],[(9,.flat 63 (lP b9)),(11,.flat 65 (jX b11))]⟩
def afK (bk i10:Int) (iw:Bool) (t41:Wq2) (t42 t43:Int) (b9:ay) (b11:aH):LS:=⟨[(3,.int .i64 bk),(9,.loc 9 0),(10,.int .i64 i10),(11,.loc 11 0),(12,.bool iw),(41,.slice 65 3 (aL t41)),(42,.int .i64 t42),(43,.int .i64 t43)],[(9,.flat 63 (lP b9)),(11,.flat 65 (jX b11))]⟩
def vz (bk:Int) (t41:Wq2) (t42 t43:Int) (b9:ay):LS:=⟨[(3,.int .i64 bk),(9,.loc 9 0),(41,.slice 65 3 (aL t41)),(42,.int .i64 t42),(43,.int .i64 t43)],[(9,.flat 63 (lP b9))]⟩
def IJ:LS:=⟨[],[]⟩
def afJ (aU:Int) (cy:Wq2) (bk:Int) (t29:Bool) (b4:af):LS:=⟨[(1,.int .i64 aU),(2,.slice 65 3 (aL cy)),(3,.int .i64 bk),(4,.loc 4 0),(29,.bool t29)],[(4,.flat 26 (ba b4))]⟩
def Uc (s0:af) (aU:Int) (cy:Wq2) (bk:Int):LS:=⟨[(0,.agg (ba s0)),(1,.int .i64 aU),(2,.slice 65 3 (aL cy)),(3,.int .i64 bk)],[]⟩
def yH (k_2:Int->Wq2->Int->Int->ay->Option Bool) (n:Nat) (bk i10:Int) (iw rP:Bool) (t41:Wq2) (t42 t43:Int) (b9:ay) (b11:aH):Option Bool:=
 (idx b9.ak i10).bind fun x6=>
 if b11.aw !=x6.aw then
 if !iw then
 if !rP then
 some false
 else
 k_2 bk t41 t42 (w64 (t43+1)) b9
 else
 k_2 bk t41 t42 (w64 (t43+1)) b9
 else
 k_2 bk t41 t42 (w64 (t43+1)) b9
theorem Sb {k_2} (cS:K5 (A70 [0,1,0,1,1,1,1]) vz k_2) (n:Nat):K9 (A70 [1,1,1,1,0,0,1,1,0,0,1,0,1,1,1,1]) afL (yH k_2 n):=fun bk i10 iw rP t41 t42 t43 b9 b11 r h=>
 be h fun x6 hx6 h=>
 ie h (fun c0 h=>
 ie h (fun c1 h=>
 ie h (fun c2 h=>
 rr h [(5,R76.idx hx6),(2,eb c0),(2,eb c1),(3,eb c2)]) (fun c2 h=>
 ra (cS h) [(5,R76.idx hx6),(2,eb c0),(2,eb c1),(3,eb c2)])) (fun c1 h=>
 ra (cS h) [(5,R76.idx hx6),(2,eb c0),(2,eb c1)])) (fun c0 h=>
 ra (cS h) [(5,R76.idx hx6),(2,eb c0)])
def su (k_2:Int->Wq2->Int->Int->ay->Option Bool) (n:Nat) (bk i10:Int) (iw:Bool) (t41:Wq2) (t42 t43:Int) (b9:ay) (b11:aH):Option Bool:=
 if b11.aw==1 then
 if bk==3 then
 yH k_2 n bk i10 iw (!decide (i10<b9.au)) t41 t42 t43 b9 b11
 else
 yH k_2 n bk i10 iw false t41 t42 t43 b9 b11
 else
 yH k_2 n bk i10 iw false t41 t42 t43 b9 b11
theorem Sa {k_2} (cS:K5 (A70 [0,1,0,1,1,1,1]) vz k_2) (n:Nat):K8 (A70 [1,1,1,0,0,1,1,0,0,1,0,1,1,1,1]) afK (su k_2 n):=fun bk i10 iw t41 t42 t43 b9 b11 r h=>
 ie h (fun c0 h=>
 ie h (fun c1 h=>
 ra (Sb cS n h) [(2,eb c0),(2,eb c1)]) (fun c1 h=>
 ra (Sb cS n h) [(2,eb c0),(2,eb c1)])) (fun c0 h=>
 ra (Sb cS n h) [(2,eb c0)])
def yG (k_3:Option Bool) (back:Int->Wq2->Int->Int->ay->Option Bool) (n:Nat) (bk:Int) (t41:Wq2) (t42 t43:Int) (b9:ay):Option Bool:=
 if decide (t43<t42) then
 (idx t41 t43).bind fun x3=>
 (SC n x3).bind fun x10=>
 if !x10 then
 some false
 else
 if x3.aw==2 then
 if bk !=1 then
 su back n bk t43 (!decide (t43<b9.au)) t41 t42 t43 b9 x3
 else
 su back n bk t43 false t41 t42 t43 b9 x3
 else
 su back n bk t43 false t41 t42 t43 b9 x3
 else
 k_3
theorem ajR {k_3} (bT:K0 (A70 [1,1,1,1,1]) IJ k_3) {back} (aD:K5 (A70 [0,1,0,1,1,1,1]) vz back) (n:Nat):K5 (A70 [0,1,0,1,1,1,1]) vz (yG k_3 back n):=fun bk t41 t42 t43 b9 r h=>
 ie h (fun c0 h=>
 be h fun x3 hx3 h=>
 be h fun x10 de h=>
 ie h (fun c1 h=>
 rr h [(0,eb c0),(1,R64.idx hx3),(5,.call (uL n de) [] [] []),(0,eb c1)]) (fun c1 h=>
 ie h (fun c2 h=>
 ie h (fun c3 h=>
 ra (Sa aD n h) [(0,eb c0),(1,R64.idx hx3),(5,.call (uL n de) [] [] []),(0,eb c1),(2,eb c2),(2,eb c3)]) (fun c3 h=>
 ra (Sa aD n h) [(0,eb c0),(1,R64.idx hx3),(5,.call (uL n de) [] [] []),(0,eb c1),(2,eb c2),(2,eb c3)])) (fun c2 h=>
 ra (Sa aD n h) [(0,eb c0),(1,R64.idx hx3),(5,.call (uL n de) [] [] []),(0,eb c1),(2,eb c2)]))) (fun c0 h=>
 ra (bT h) [(0,eb c0)])
def lR (k_3:Option Bool):Nat->Int->Wq2->Int->Int->ay->Option Bool
 |0,_,_,_,_,_=>none
 |n+1,bk,t41,t42,t43,b9=>yG k_3 (lR k_3 n) n bk t41 t42 t43 b9
theorem acE {k_3} (bT:K0 (A70 [1,1,1,1,1]) IJ k_3):∀n:Nat,K5 (A70 [0,1,0,1,1,1,1]) vz (lR k_3 n)
 |0=>fun _ _ _ _ _ _ h=>nz h
 |n+1=>fun _ _ _ _ _ _ h=>ajR bT (acE bT n) n h
def pQ (n:Nat):Option Bool:=
 some true
theorem ajQ (n:Nat):K0 (A70 [1,1,1,1,1]) IJ (pQ n):=fun r h=>
 rr h []
def ss (n:Nat) (aU:Int) (cy:Wq2) (bk:Int) (t29:Bool) (b4:af):Option Bool:=
 if t29 then
 some false
 else
 (idx b4.ag aU).bind fun x4=>
 if (cy.length:Int) !=(x4.ak.length:Int) then
 some false
 else
 lR (pQ n) n bk cy (cy.length:Int) 0 x4
theorem GO (n:Nat):K5 (A70 [1,0,1]) afJ (ss n):=fun aU cy bk t29 b4 r h=>
 ie h (fun c0 g0=>by subst c0;exact (
 rr g0 [])) (fun c0 g0=>by subst c0;exact (
 be g0 fun x4 hx4 g0=>
 ie g0 (fun c1 g0=>
 rr g0 [(3,R62.idx hx4),(4,.eqv (R64.ax cy)),(2,.eqv (R76.ax x4.ak)),(0,eb c1)]) (fun c1 g0=>
 ra (acE (ajQ n) n g0) [(3,R62.idx hx4),(4,.eqv (R64.ax cy)),(2,.eqv (R76.ax x4.ak)),(0,eb c1),(1,.eqv (R64.ax cy))])))
def Hb (n:Nat) (s0:af) (aU:Int) (cy:Wq2) (bk:Int):Option Bool:=
 if bk !=1 then
 if bk !=2 then
 if bk !=3 then
 ss n aU cy bk true s0
 else
 (F81 n s0 aU).bind fun x16=>
 ss n aU cy bk (!x16) s0
 else
 (F81 n s0 aU).bind fun x14=>
 ss n aU cy bk (!x14) s0
 else
 (F81 n s0 aU).bind fun x12=>
 ss n aU cy bk (!x12) s0
theorem ajP (n:Nat):K4 (A70 []) Uc (Hb n):=fun s0 aU cy bk r h=>
 ie h (fun c0 h=>
 ie h (fun c1 h=>
 ie h (fun c2 h=>
 ra (GO n h) [(3,eb c0),(2,eb c1),(3,eb c2)]) (fun c2 h=>
 be h fun x16 cO h=>
 ra (GO n h) [(3,eb c0),(2,eb c1),(3,eb c2),(4,.call (qU n cO) [] [] [])])) (fun c1 h=>
 be h fun x14 fQ h=>
 ra (GO n h) [(3,eb c0),(2,eb c1),(6,.call (qU n fQ) [] [] [])])) (fun c0 h=>
 be h fun x12 cB h=>
 ra (GO n h) [(3,eb c0),(7,.call (qU n cB) [] [] [])])
def F70 (n:Nat) (s0:af) (aU:Int) (cy:Wq2) (bk:Int):Option Bool:=Hb n s0 aU cy bk
theorem wE (n:Nat):K4 C70 Uc (F70 n):=fun _ _ _ _ _ h=>ca (X:=x70) (ajP n h)
def abg (r:Wq2):AV:=.ms 200000 3 0 r.length
def VS (r:Wq2):List (Nat×Bx):= [(200000,.rows false 65 3 (aL r))]
def x82:=fx E0 Tryz.f82 [] [200000]
def A82:=Ax x82 abg VS
def C82:=Cx E0 82 abg VS
def TR (s0:af) (aU:Int) (cy:Wq2):LS:=⟨[(0,.agg (ba s0)),(1,.int .i64 aU),(2,.slice 65 3 (aL cy))],[]⟩
def SL (n:Nat) (s0:af) (aU:Int) (cy:Wq2):Option Wq2:=
 (F81 n s0 aU).bind fun x5=>
 if !x5 then
 some []
 else
 (idx s0.ag aU).bind fun x12=>
 if decide (x12.au<0) then
 some []
 else
 (idx s0.ag aU).bind fun x23=>
 (cut cy none (some (if (cy.length:Int)<x23.au then (cy.length:Int) else x23.au))).bind fun x30=>
 (app [] x30).bind fun x32=>
 some x32
theorem ajn (n:Nat):K3 (A82 []) TR (SL n):=fun s0 aU cy r h=>
 be h fun x5 hx5 h=>
 ie h (fun c0 h=>
 rr h [(4,.call (qU n hx5) [] [] []),(0,eb c0),(3,.born [6] [] 200000 false 65 3)]) (fun c0 h=>
 be h fun x12 cB h=>
 ie h (fun c1 h=>
 rr h [(4,.call (qU n hx5) [] [] []),(0,eb c0),(4,R62.idx cB),(2,eb c1),(2,.born [6] [] 200000 false 65 3)]) (fun c1 h=>
 be h fun x23 fy h=>
 be h fun x30 ZI h=>
 be h fun x32 nu h=>
 rr h [(4,.call (qU n hx5) [] [] []),(0,eb c0),(4,R62.idx cB),(2,eb c1),(6,R62.idx fy),(3,.eqv (R64.ax cy)),(1,R64.cut ZI),(0,R64.app nu .dat),(1,.ren 20 200000)]))
def F82 (n:Nat) (s0:af) (aU:Int) (cy:Wq2):Option Wq2:=SL n s0 aU cy
theorem ev82 (n:Nat):K3 C82 TR (F82 n):=fun _ _ _ _ h=>ca (X:=x82) (ajn n h)
def abL (r:Bool):AV:=.bool r
def Wn (r:Bool):List (Nat×Bx):= []
def x41:=fx E0 Tryz.f41 [] []
def A41:=Ax x41 abL Wn
def C41:=Cx E0 41 abL Wn
def IY (xC:Int) (t53:Wq0) (t54 t55:Int) (b3:az) (b43 b74:Wq0):LS:=⟨[(3,.loc 3 0),(5,.ms 43 1 0 b43.length),(6,.ms 74 1 0 b74.length),(7,.int .i64 xC),(53,.slice 3 1 (bq t53)),(54,.int .i64 t54),(55,.int .i64 t55)],[(3,.flat 55 (gP b3)),(43,.rows false 3 1 (bq b43)),(74,.rows true 3 1 (bq b74))]⟩
def IX (b3:az) (b74:Wq0):LS:=⟨[(3,.loc 3 0),(6,.ms 74 1 0 b74.length)],[(3,.flat 55 (gP b3)),(74,.rows true 3 1 (bq b74))]⟩
def Uv (s0:af) (w1:az):LS:=⟨[(0,.agg (ba s0)),(1,.agg (gP w1))],[]⟩
def Ht (k_1:az->Wq0->Option Bool) (back:Int->Wq0->Int->Int->az->Wq0->Wq0->Option Bool) (n:Nat) (xC:Int) (t53:Wq0) (t54 t55:Int) (b3:az) (b43 b74:Wq0):Option Bool:=
 if decide (t55<t54) then
 (idx t53 t55).bind fun x2=>
 if !decide (xC<x2) then
 some false
 else
 if !decide (x2<(b43.length:Int)) then
 some false
 else
 (bnd b43.length x2).bind fun x18=>
 (b43[0+x18]?).bind fun x20=>
 (app b74 [x20]).bind fun x23=>
 back x2 t53 t54 (w64 (t55+1)) b3 b43 x23
 else
 k_1 b3 b74
theorem akx {k_1} (aJ:K2 (A41 [1,1,1,1,0,1,1,1,0,1,0,1]) IX k_1) {back} (aD:K7 (A41 [0,1,0,1,1,1,0,1,1,1,0,1,0,1]) IY back) (n:Nat):K7 (A41 [0,1,0,1,1,1,0,1,1,1,0,1,0,1]) IY (Ht k_1 back n):=fun xC t53 t54 t55 b3 b43 b74 r h=>
 ie h (fun c0 h=>
 be h fun x2 hx2 h=>
 ie h (fun c1 h=>
 rr h [(0,eb c0),(0,R3.idx hx2),(4,eb c1)]) (fun c1 h=>
 ie h (fun c2 h=>
 rr h [(0,eb c0),(0,R3.idx hx2),(4,eb c1),(4,eb c2)]) (fun c2 h=>
 be h fun x18 iJ h=>
 be h fun x20 l7 h=>
 be h fun x23 fy h=>
 ra (aD h) [(0,eb c0),(0,R3.idx hx2),(4,eb c1),(4,eb c2),(4,eA iJ),(0,R3.row l7),(1,R3.app fy (R3.srW [x20]))]))) (fun c0 h=>
 ra (aJ h) [(0,eb c0)])
def yl (k_1:az->Wq0->Option Bool):Nat->Int->Wq0->Int->Int->az->Wq0->Wq0->Option Bool
 |0,_,_,_,_,_,_,_=>none
 |n+1,xC,t53,t54,t55,b3,b43,b74=>Ht k_1 (yl k_1 n) n xC t53 t54 t55 b3 b43 b74
theorem acL {k_1} (aJ:K2 (A41 [1,1,1,1,0,1,1,1,0,1,0,1]) IX k_1):∀n:Nat,K7 (A41 [0,1,0,1,1,1,0,1,1,1,0,1,0,1]) IY (yl k_1 n)
 |0=>fun _ _ _ _ _ _ _ _ h=>nz h
 |n+1=>fun _ _ _ _ _ _ _ _ h=>akx aJ (acL aJ n) n h
def Hr (n:Nat) (b3:az) (b74:Wq0):Option Bool:=
 (F39 n b3.aR b74).bind fun x4=>
 some x4
theorem akw (n:Nat):K2 (A41 [1,1,1,1,0,1,1,1,0,1,0,1]) IX (Hr n):=fun b3 b74 r h=>
 be h fun x4 hx4 h=>
 rr h [(3,R3.frz 74 b74),(0,.call (Ep n hx4) [.one .same,.one (.sl 0 0)] [] [])]
def Tc (n:Nat) (s0:af) (w1:az):Option Bool:=
 if w1.fOp==1 then
 if (w1.ak.length:Int)==0 then
 (F70 n s0 w1.aq w1.aR 1).bind fun x18=>
 if x18 then
 (F82 n s0 w1.aq w1.aR).bind fun x27=>
 (F52 n x27 w1.au).bind fun x31=>
 some (x31==0)
 else
 some false
 else
 some false
 else
 if w1.fOp==2 then
 (F78 n s0 w1.aq).bind fun x13=>
 (idx s0.ag w1.aq).bind fun x21=>
 yl (Hr n) n (w64 (x21.au - 1)) w1.ak (w1.ak.length:Int) 0 w1 x13 []
 else
 if (w1.ak.length:Int)==0 then
 some ((w1.aR.length:Int)==0)
 else
 some false
theorem akv (n:Nat):K2 (A41 []) Uv (Tc n):=fun s0 w1 r h=>
 ie h (fun c0 h=>
 ie h (fun c1 h=>
 be h fun x18 iJ h=>
 ie h (fun c2 g0=>by subst c2;exact (
 be g0 fun x27 nv g0=>
 be g0 fun x31 zS g0=>
 rr g0 [(5,eb c0),(3,.eqv (R3.ax w1.ak)),(0,eb c1),(6,.call (wE n iJ) [] [] []),(7,.call (cd (e:=65) (z:=false) (Q:=aL x27) (ev82 n nv) (R64.len x27)) [] [] []),(2,.call (oT n zS) [] [] [])])) (fun c2 g0=>by subst c2;exact (
 rr g0 [(5,eb c0),(3,.eqv (R3.ax w1.ak)),(0,eb c1),(6,.call (wE n iJ) [] [] [])]))) (fun c1 h=>
 rr h [(5,eb c0),(3,.eqv (R3.ax w1.ak)),(0,eb c1)])) (fun c0 h=>
 ie h (fun c1 h=>
 be h fun x13 bY h=>
 be h fun x21 iI h=>
 ra (acL (akw n) n h) [(5,eb c0),(1,eb c1),(4,.call (Ls n bY) [] [] [(43,200000)]),(6,R62.idx iI),(6,.eqv (R3.ax w1.ak)),(1,.born [6] [] 74 true 3 1)]) (fun c1 h=>
 ie h (fun c2 h=>
 rr h [(5,eb c0),(1,eb c1),(3,.eqv (R3.ax w1.ak)),(0,eb c2),(3,.eqv (R64.ax w1.aR))]) (fun c2 h=>
 rr h [(5,eb c0),(1,eb c1),(3,.eqv (R3.ax w1.ak)),(0,eb c2)])))
def F41 (n:Nat) (s0:af) (w1:az):Option Bool:=Tc n s0 w1
theorem Rx (n:Nat):K2 C41 Uv (F41 n):=fun _ _ _ h=>ca (X:=x41) (akv n h)
def abK (r:Int):AV:=.int .i64 r
def Wm (r:Int):List (Nat×Bx):= []
def x42:=fx E0 Tryz.f42 [] []
def A42:=Ax x42 abK Wm
def C42:=Cx E0 42 abK Wm
def Uu (a0 b1:az):LS:=⟨[(0,.agg (gP a0)),(1,.agg (gP b1))],[]⟩
def Tb (n:Nat) (a0 b1:az):Option Int:=
 if a0.aq !=b1.aq then
 if decide (a0.aq<b1.aq) then
 some (-1)
 else
 some 1
 else
 (F52 n a0.au b1.au).bind fun x13=>
 some x13
theorem aku (n:Nat):K2 (A42 []) Uu (Tb n):=fun a0 b1 r h=>
 ie h (fun c0 h=>
 ie h (fun c1 h=>
 rr h [(7,eb c0),(4,eb c1)]) (fun c1 h=>
 rr h [(7,eb c0),(4,eb c1)])) (fun c0 h=>
 be h fun x13 bY h=>
 rr h [(7,eb c0),(4,.call (oT n bY) [] [] [])])
def F42 (n:Nat) (a0 b1:az):Option Int:=Tb n a0 b1
theorem ev42 (n:Nat):K2 C42 Uu (F42 n):=fun _ _ _ h=>ca (X:=x42) (aku n h)
def ach (r:Int):AV:=.int .i64 r
def WL (r:Int):List (Nat×Bx):= []
def x12:=fx E0 Tryz.f12 [] []
def A12:=Ax x12 ach WL
def C12:=Cx E0 12 ach WL
def Js (dQ t16:Wq3) (t17 t18:Int) (b2:af):LS:=⟨[(1,.slice 55 5 (dx dQ)),(2,.loc 2 0),(16,.slice 55 5 (dx t16)),(17,.int .i64 t17),(18,.int .i64 t18)],[(2,.flat 26 (ba b2))]⟩
def Jr:LS:=⟨[],[]⟩
def UU (s0:af) (dQ:Wq3):LS:=⟨[(0,.agg (ba s0)),(1,.slice 55 5 (dx dQ))],[]⟩
def HX (k_1:Option Int) (back:Wq3->Wq3->Int->Int->af->Option Int) (n:Nat) (dQ t16:Wq3) (t17 t18:Int) (b2:af):Option Int:=
 if decide (t18<t17) then
 (idx t16 t18).bind fun x3=>
 if decide (x3.fOp<1) then
 some 1
 else
 if decide (3<x3.fOp) then
 some 1
 else
 if decide (x3.aq<0) then
 some 1
 else
 if !decide (x3.aq<(b2.ag.length:Int)) then
 some 1
 else
 (F40 n b2 x3.aq).bind fun x35=>
 (F39 n x3.au x35).bind fun x37=>
 if !x37 then
 some 270
 else
 (F41 n b2 x3).bind fun x43=>
 if !x43 then
 some 270
 else
 if decide (0<t18) then
 (idx dQ (w64 (t18 - 1))).bind fun x53=>
 (F42 n x53 x3).bind fun x57=>
 if !decide (x57<0) then
 some 270
 else
 back dQ t16 t17 (w64 (t18+1)) b2
 else
 back dQ t16 t17 (w64 (t18+1)) b2
 else
 k_1
theorem alG {k_1} (aJ:K0 (A12 [1,1,1,1]) Jr k_1) {back} (aD:K5 (A12 [0,1,0,1,1,1]) Js back) (n:Nat):K5 (A12 [0,1,0,1,1,1]) Js (HX k_1 back n):=fun dQ t16 t17 t18 b2 r h=>
 ie h (fun c0 h=>
 be h fun x3 hx3 h=>
 ie h (fun c1 h=>
 rr h [(0,eb c0),(1,R54.idx hx3),(6,eb c1)]) (fun c1 h=>
 ie h (fun c2 h=>
 rr h [(0,eb c0),(1,R54.idx hx3),(6,eb c1),(3,eb c2)]) (fun c2 h=>
 ie h (fun c3 h=>
 rr h [(0,eb c0),(1,R54.idx hx3),(6,eb c1),(3,eb c2),(4,eb c3)]) (fun c3 h=>
 ie h (fun c4 h=>
 rr h [(0,eb c0),(1,R54.idx hx3),(6,eb c1),(3,eb c2),(4,eb c3),(6,.eqv (R62.ax b2.ag)),(0,eb c4)]) (fun c4 h=>
 be h fun x35 zR h=>
 be h fun x37 uv h=>
 ie h (fun c5 h=>
 rr h [(0,eb c0),(1,R54.idx hx3),(6,eb c1),(3,eb c2),(4,eb c3),(6,.eqv (R62.ax b2.ag)),(0,eb c4),(6,.call (cd (e:=3) (z:=false) (Q:=bq x35) (Lu n zR) (R3.len x35)) [] [] []),(0,.call (Ep n uv) [] [] []),(0,eb c5)]) (fun c5 h=>
 be h fun x43 k9 h=>
 ie h (fun c6 h=>
 rr h [(0,eb c0),(1,R54.idx hx3),(6,eb c1),(3,eb c2),(4,eb c3),(6,.eqv (R62.ax b2.ag)),(0,eb c4),(6,.call (cd (e:=3) (z:=false) (Q:=bq x35) (Lu n zR) (R3.len x35)) [] [] []),(0,.call (Ep n uv) [] [] []),(0,eb c5),(3,.call (Rx n k9) [] [] []),(0,eb c6)]) (fun c6 h=>
 ie h (fun c7 h=>
 be h fun x53 hx53 h=>
 be h fun x57 hx57 h=>
 ie h (fun c8 h=>
 rr h [(0,eb c0),(1,R54.idx hx3),(6,eb c1),(3,eb c2),(4,eb c3),(6,.eqv (R62.ax b2.ag)),(0,eb c4),(6,.call (cd (e:=3) (z:=false) (Q:=bq x35) (Lu n zR) (R3.len x35)) [] [] []),(0,.call (Ep n uv) [] [] []),(0,eb c5),(3,.call (Rx n k9) [] [] []),(0,eb c6),(2,eb c7),(4,R54.idx hx53),(2,.call (ev42 n hx57) [] [] []),(0,eb c8)]) (fun c8 h=>
 ra (aD h) [(0,eb c0),(1,R54.idx hx3),(6,eb c1),(3,eb c2),(4,eb c3),(6,.eqv (R62.ax b2.ag)),(0,eb c4),(6,.call (cd (e:=3) (z:=false) (Q:=bq x35) (Lu n zR) (R3.len x35)) [] [] []),(0,.call (Ep n uv) [] [] []),(0,eb c5),(3,.call (Rx n k9) [] [] []),(0,eb c6),(2,eb c7),(4,R54.idx hx53),(2,.call (ev42 n hx57) [] [] []),(0,eb c8)])) (fun c7 h=>
 ra (aD h) [(0,eb c0),(1,R54.idx hx3),(6,eb c1),(3,eb c2),(4,eb c3),(6,.eqv (R62.ax b2.ag)),(0,eb c4),(6,.call (cd (e:=3) (z:=false) (Q:=bq x35) (Lu n zR) (R3.len x35)) [] [] []),(0,.call (Ep n uv) [] [] []),(0,eb c5),(3,.call (Rx n k9) [] [] []),(0,eb c6),(2,eb c7)])))))))) (fun c0 h=>
 ra (aJ h) [(0,eb c0)])
def yy (k_1:Option Int):Nat->Wq3->Wq3->Int->Int->af->Option Int
 |0,_,_,_,_,_=>none
 |n+1,dQ,t16,t17,t18,b2=>HX k_1 (yy k_1 n) n dQ t16 t17 t18 b2
theorem adg {k_1} (aJ:K0 (A12 [1,1,1,1]) Jr k_1):∀n:Nat,K5 (A12 [0,1,0,1,1,1]) Js (yy k_1 n)
 |0=>fun _ _ _ _ _ _ h=>nz h
 |n+1=>fun _ _ _ _ _ _ h=>alG aJ (adg aJ n) n h
def HW (n:Nat):Option Int:=
 some 0
theorem alF (n:Nat):K0 (A12 [1,1,1,1]) Jr (HW n):=fun r h=>
 rr h []
def Ty (n:Nat) (s0:af) (dQ:Wq3):Option Int:=
 (F38 n s0).bind fun x4=>
 if x4 !=0 then
 some x4
 else
 if decide (64<(dQ.length:Int)) then
 some 2
 else
 yy (HW n) n dQ dQ (dQ.length:Int) 0 s0
theorem alE (n:Nat):K2 (A12 []) UU (Ty n):=fun s0 dQ r h=>
 be h fun x4 hx4 h=>
 ie h (fun c0 h=>
 rr h [(3,.call (wF n hx4) [] [] []),(2,eb c0)]) (fun c0 h=>
 ie h (fun c1 h=>
 rr h [(3,.call (wF n hx4) [] [] []),(2,eb c0),(1,.eqv (R54.ax dQ)),(0,eb c1)]) (fun c1 h=>
 ra (adg (alF n) n h) [(3,.call (wF n hx4) [] [] []),(2,eb c0),(1,.eqv (R54.ax dQ)),(0,eb c1),(1,.eqv (R54.ax dQ))]))
def F12 (n:Nat) (s0:af) (dQ:Wq3):Option Int:=Ty n s0 dQ
theorem Er (n:Nat):K2 C12 UU (F12 n):=fun _ _ _ h=>ca (X:=x12) (alE n h)
def abE (r:Int):AV:=.int .i64 r
def Wf (r:Int):List (Nat×Bx):= []
def x57:=fx E0 Tryz.f57 [] []
def A57:=Ax x57 abE Wf
def C57:=Cx E0 57 abE Wf
def IW (n3:Int) (t7:aF) (t8 t9:Int):LS:=⟨[(3,.int .i64 n3),(7,.slice 66 1 (dw t7)),(8,.int .i64 t8),(9,.int .i64 t9)],[]⟩
def IV (n3:Int):LS:=⟨[(3,.int .i64 n3)],[]⟩
def Un (st0:ah):LS:=⟨[(0,.agg (eg st0))],[]⟩
def Ho (k_1:Int->Option Int) (back:Int->aF->Int->Int->Option Int) (n:Nat) (n3:Int) (t7:aF) (t8 t9:Int):Option Int:=
 if decide (t9<t8) then
 (idx t7 t9).bind fun x2=>
 back (w64 (n3+(x2.length:Int))) t7 t8 (w64 (t9+1))
 else
 k_1 n3
theorem ako {k_1} (aJ:K1 (A57 [1,1,1]) IV k_1) {back} (aD:K4 (A57 [0,1,0,1,1]) IW back) (n:Nat):K4 (A57 [0,1,0,1,1]) IW (Ho k_1 back n):=fun n3 t7 t8 t9 r h=>
 ie h (fun c0 h=>
 be h fun x2 hx2 h=>
 ra (aD h) [(0,eb c0),(0,R66.idx hx2),(4,.eqv (R42.ax x2))]) (fun c0 h=>
 ra (aJ h) [(0,eb c0)])
def yk (k_1:Int->Option Int):Nat->Int->aF->Int->Int->Option Int
 |0,_,_,_,_=>none
 |n+1,n3,t7,t8,t9=>Ho k_1 (yk k_1 n) n n3 t7 t8 t9
theorem acK {k_1} (aJ:K1 (A57 [1,1,1]) IV k_1):∀n:Nat,K4 (A57 [0,1,0,1,1]) IW (yk k_1 n)
 |0=>fun _ _ _ _ _ h=>nz h
 |n+1=>fun _ _ _ _ _ h=>ako aJ (acK aJ n) n h
def sv (n:Nat) (n3:Int):Option Int:=
 some n3
theorem akn (n:Nat):K1 (A57 [1,1,1]) IV (sv n):=fun n3 r h=>
 rr h []
def yI (n:Nat) (st0:ah):Option Int:=
 yk (sv n) n 0 st0.ag (st0.ag.length:Int) 0
theorem akm (n:Nat):K1 (A57 []) Un (yI n):=fun st0 r h=>
 ra (acK (akn n) n h) [(5,.eqv (R66.ax st0.ag))]
def F57 (n:Nat) (st0:ah):Option Int:=yI n st0
theorem Lt (n:Nat):K1 C57 Un (F57 n):=fun _ _ h=>ca (X:=x57) (akm n h)
def abu (r:Int):AV:=.int .i64 r
def V5 (r:Int):List (Nat×Bx):= []
def x69:=fx E0 Tryz.f69 [] []
def A69:=Ax x69 abu V5
def C69:=Cx E0 69 abu V5
def Ud (s0:af) (aP:Int):LS:=⟨[(0,.agg (ba s0)),(1,.int .i64 aP)],[]⟩
def Hc (n:Nat) (s0:af) (aP:Int):Option Int:=
 (F38 n s0).bind fun x4=>
 if x4 !=0 then
 some x4
 else
 if aP !=1 then
 if aP !=2 then
 if aP !=3 then
 some 1
 else
 some 0
 else
 some 0
 else
 some 0
theorem ajS (n:Nat):K2 (A69 []) Ud (Hc n):=fun s0 aP r h=>
 be h fun x4 hx4 h=>
 ie h (fun c0 h=>
 rr h [(3,.call (wF n hx4) [] [] []),(2,eb c0)]) (fun c0 h=>
 ie h (fun c1 h=>
 ie h (fun c2 h=>
 ie h (fun c3 h=>
 rr h [(3,.call (wF n hx4) [] [] []),(2,eb c0),(1,eb c1),(2,eb c2),(3,eb c3)]) (fun c3 h=>
 rr h [(3,.call (wF n hx4) [] [] []),(2,eb c0),(1,eb c1),(2,eb c2),(3,eb c3)])) (fun c2 h=>
 rr h [(3,.call (wF n hx4) [] [] []),(2,eb c0),(1,eb c1),(2,eb c2)])) (fun c1 h=>
 rr h [(3,.call (wF n hx4) [] [] []),(2,eb c0),(1,eb c1)]))
def F69 (n:Nat) (s0:af) (aP:Int):Option Int:=Hc n s0 aP
theorem Ru (n:Nat):K2 C69 Ud (F69 n):=fun _ _ _ h=>ca (X:=x69) (ajS n h)
def abr (r:Wq2):AV:=.slice 65 3 (aL r)
def V3 (r:Wq2):List (Nat×Bx):= []
def x71:=fx E0 Tryz.f71 [] []
def A71:=Ax x71 abr V3
def C71:=Cx E0 71 abr V3
def Ub (s0:af) (aU:Int) (cy:Wq2):LS:=⟨[(0,.agg (ba s0)),(1,.int .i64 aU),(2,.slice 65 3 (aL cy))],[]⟩
def SX (n:Nat) (s0:af) (aU:Int) (cy:Wq2):Option Wq2:=
 if decide (aU<0) then
 some []
 else
 if !decide (aU<(s0.ag.length:Int)) then
 some []
 else
 (idx s0.ag aU).bind fun x16=>
 (cut cy none (some (if 0<(if (cy.length:Int)<x16.au then (cy.length:Int) else x16.au) then (if (cy.length:Int)<x16.au then (cy.length:Int) else x16.au) else 0))).bind fun x24=>
 some x24
theorem ajO (n:Nat):K3 (A71 []) Ub (SX n):=fun s0 aU cy r h=>
 ie h (fun c0 h=>
 rr h [(3,eb c0),(3,.norm [(6,.one (.sl 65 3))] [])]) (fun c0 h=>
 ie h (fun c1 h=>
 rr h [(3,eb c0),(4,.eqv (R62.ax s0.ag)),(0,eb c1),(2,.norm [(6,.one (.sl 65 3))] [])]) (fun c1 h=>
 be h fun x16 cO h=>
 be h fun x24 l6 h=>
 rr h [(3,eb c0),(4,.eqv (R62.ax s0.ag)),(0,eb c1),(5,R62.idx cO),(3,.eqv (R64.ax cy)),(2,R64.cut l6)]))
def F71 (n:Nat) (s0:af) (aU:Int) (cy:Wq2):Option Wq2:=SX n s0 aU cy
theorem qV (n:Nat):K3 C71 Ub (F71 n):=fun _ _ _ _ h=>ca (X:=x71) (ajO n h)
def abY (r:Int):AV:=.int .i64 r
def WA (r:Int):List (Nat×Bx):= []
def x28:=fx E0 Tryz.f28 [] []
def A28:=Ax x28 abY WA
def C28:=Cx E0 28 abY WA
def Jc (aP t8:Int) (pa:Wq9) (t29:aF) (t30 t31:Int) (t36:Wq9) (t37 t38:Int) (b3:af):LS:=⟨[(1,.int .i64 aP),(3,.loc 3 0),(8,.int .i64 t8),(9,.slice 43 1 (bu pa)),(29,.slice 66 1 (dw t29)),(30,.int .i64 t30),(31,.int .i64 t31),(36,.slice 43 1 (bu t36)),(37,.int .i64 t37),(38,.int .i64 t38)],[(3,.flat 26 (ba b3))]⟩
def Jb (aP:Int) (t29:aF) (t30 t31:Int) (b3:af):LS:=⟨[(1,.int .i64 aP),(3,.loc 3 0),(29,.slice 66 1 (dw t29)),(30,.int .i64 t30),(31,.int .i64 t31)],[(3,.flat 26 (ba b3))]⟩
def AJ (aP:Int) (t29:aF) (t30 t31:Int) (b3:af):LS:=⟨[(1,.int .i64 aP),(3,.loc 3 0),(29,.slice 66 1 (dw t29)),(30,.int .i64 t30),(31,.int .i64 t31)],[(3,.flat 26 (ba b3))]⟩
def Ja:LS:=⟨[],[]⟩
def UK (s0:af) (aP:Int) (st2:ah):LS:=⟨[(0,.agg (ba s0)),(1,.int .i64 aP),(2,.agg (eg st2))],[]⟩
def yN (k_1:Int->aF->Int->Int->af->Option Int) (back:Int->Int->Wq9->aF->Int->Int->Wq9->Int->Int->af->Option Int) (n:Nat) (aP t8:Int) (pa:Wq9) (t29:aF) (t30 t31:Int) (t36:Wq9) (t37 t38:Int) (b3:af):Option Int:=
 if decide (t38<t37) then
 (idx t36 t38).bind fun x3=>
 (F70 n b3 t8 x3 aP).bind fun x12=>
 if !x12 then
 some 80
 else
 if decide (0<t38) then
 (idx pa (w64 (t38 - 1))).bind fun x23=>
 (F71 n b3 t8 x23).bind fun x26=>
 (F71 n b3 t8 x3).bind fun x31=>
 (F52 n x26 x31).bind fun x33=>
 if !decide (x33<0) then
 some 80
 else
 back aP t8 pa t29 t30 t31 t36 t37 (w64 (t38+1)) b3
 else
 back aP t8 pa t29 t30 t31 t36 t37 (w64 (t38+1)) b3
 else
 k_1 aP t29 t30 t31 b3
theorem alc {k_1} (aJ:K5 (A28 [1,1,1,0,0,1,0,1,1,1,1]) Jb k_1) {back} (aD:K10 (A28 [0,1,1,0,0,1,1,0,0,1,0,1,1,1,1]) Jc back) (n:Nat):K10 (A28 [0,1,1,0,0,1,1,0,0,1,0,1,1,1,1]) Jc (yN k_1 back n):=fun aP t8 pa t29 t30 t31 t36 t37 t38 b3 r h=>
 ie h (fun c0 h=>
 be h fun x3 hx3 h=>
 be h fun x12 cB h=>
 ie h (fun c1 h=>
 rr h [(0,eb c0),(1,R42.idx hx3),(7,.call (wE n cB) [] [] []),(0,eb c1)]) (fun c1 h=>
 ie h (fun c2 h=>
 be h fun x23 fy h=>
 be h fun x26 jS h=>
 be h fun x31 zS h=>
 be h fun x33 Eb h=>
 ie h (fun c3 h=>
 rr h [(0,eb c0),(1,R42.idx hx3),(7,.call (wE n cB) [] [] []),(0,eb c1),(1,eb c2),(6,R42.idx fy),(1,.call (qV n jS) [] [] []),(3,.call (qV n zS) [] [] []),(0,.call (oT n Eb) [] [] []),(0,eb c3)]) (fun c3 h=>
 ra (aD h) [(0,eb c0),(1,R42.idx hx3),(7,.call (wE n cB) [] [] []),(0,eb c1),(1,eb c2),(6,R42.idx fy),(1,.call (qV n jS) [] [] []),(3,.call (qV n zS) [] [] []),(0,.call (oT n Eb) [] [] []),(0,eb c3)])) (fun c2 h=>
 ra (aD h) [(0,eb c0),(1,R42.idx hx3),(7,.call (wE n cB) [] [] []),(0,eb c1),(1,eb c2)]))) (fun c0 h=>
 ra (aJ h) [(0,eb c0)])
def pN (k_1:Int->aF->Int->Int->af->Option Int):Nat->Int->Int->Wq9->aF->Int->Int->Wq9->Int->Int->af->Option Int
 |0,_,_,_,_,_,_,_,_,_,_=>none
 |n+1,aP,t8,pa,t29,t30,t31,t36,t37,t38,b3=>yN k_1 (pN k_1 n) n aP t8 pa t29 t30 t31 t36 t37 t38 b3
theorem acU {k_1} (aJ:K5 (A28 [1,1,1,0,0,1,0,1,1,1,1]) Jb k_1):∀n:Nat,K10 (A28 [0,1,1,0,0,1,1,0,0,1,0,1,1,1,1]) Jc (pN k_1 n)
 |0=>fun _ _ _ _ _ _ _ _ _ _ _ h=>nz h
 |n+1=>fun _ _ _ _ _ _ _ _ _ _ _ h=>alc aJ (acU aJ n) n h
def yM (k_2:Int->aF->Int->Int->af->Option Int) (n:Nat) (aP:Int) (t29:aF) (t30 t31:Int) (b3:af):Option Int:=
 k_2 aP t29 t30 (w64 (t31+1)) b3
theorem alb {k_2} (cS:K5 (A28 [0,1,0,1,1,1,1]) AJ k_2) (n:Nat):K5 (A28 [1,1,1,0,0,1,0,1,1,1,1]) Jb (yM k_2 n):=fun aP t29 t30 t31 b3 r h=>
 ra (cS h) []
def yL (k_3:Option Int) (back:Int->aF->Int->Int->af->Option Int) (n:Nat) (aP:Int) (t29:aF) (t30 t31:Int) (b3:af):Option Int:=
 if decide (t31<t30) then
 (idx t29 t31).bind fun x3=>
 pN (yM back n) n aP t31 x3 t29 t30 t31 x3 (x3.length:Int) 0 b3
 else
 k_3
theorem ala {k_3} (bT:K0 (A28 [1,1,1,1,1]) Ja k_3) {back} (aD:K5 (A28 [0,1,0,1,1,1,1]) AJ back) (n:Nat):K5 (A28 [0,1,0,1,1,1,1]) AJ (yL k_3 back n):=fun aP t29 t30 t31 b3 r h=>
 ie h (fun c0 h=>
 be h fun x3 hx3 h=>
 ra (acU (alb aD n) n h) [(0,eb c0),(1,R66.idx hx3),(4,.eqv (R42.ax x3))]) (fun c0 h=>
 ra (bT h) [(0,eb c0)])
def m5 (k_3:Option Int):Nat->Int->aF->Int->Int->af->Option Int
 |0,_,_,_,_,_=>none
 |n+1,aP,t29,t30,t31,b3=>yL k_3 (m5 k_3 n) n aP t29 t30 t31 b3
theorem acT {k_3} (bT:K0 (A28 [1,1,1,1,1]) Ja k_3):∀n:Nat,K5 (A28 [0,1,0,1,1,1,1]) AJ (m5 k_3 n)
 |0=>fun _ _ _ _ _ _ h=>nz h
 |n+1=>fun _ _ _ _ _ _ h=>ala bT (acT bT n) n h
def sw (n:Nat):Option Int:=
 some 0
theorem akZ (n:Nat):K0 (A28 [1,1,1,1,1]) Ja (sw n):=fun r h=>
 rr h []
def HF (n:Nat) (s0:af) (aP:Int) (st2:ah):Option Int:=
 (F69 n s0 aP).bind fun x6=>
 if x6 !=0 then
 some x6
 else
 (F57 n st2).bind fun x12=>
 if decide (512<x12) then
 some 2
 else
 if (st2.ag.length:Int) !=(s0.ag.length:Int) then
 some 80
 else
 m5 (sw n) n aP st2.ag (st2.ag.length:Int) 0 s0
theorem akY (n:Nat):K3 (A28 []) UK (HF n):=fun s0 aP st2 r h=>
 be h fun x6 hx6 h=>
 ie h (fun c0 h=>
 rr h [(5,.call (Ru n hx6) [] [] []),(2,eb c0)]) (fun c0 h=>
 be h fun x12 cB h=>
 ie h (fun c1 h=>
 rr h [(5,.call (Ru n hx6) [] [] []),(2,eb c0),(1,.call (Lt n cB) [] [] []),(0,eb c1)]) (fun c1 h=>
 ie h (fun c2 h=>
 rr h [(5,.call (Ru n hx6) [] [] []),(2,eb c0),(1,.call (Lt n cB) [] [] []),(0,eb c1),(2,.eqv (R66.ax st2.ag)),(2,.eqv (R62.ax s0.ag)),(0,eb c2)]) (fun c2 h=>
 ra (acT (akZ n) n h) [(5,.call (Ru n hx6) [] [] []),(2,eb c0),(1,.call (Lt n cB) [] [] []),(0,eb c1),(2,.eqv (R66.ax st2.ag)),(2,.eqv (R62.ax s0.ag)),(0,eb c2),(2,.eqv (R66.ax st2.ag))])))
def F28 (n:Nat) (s0:af) (aP:Int) (st2:ah):Option Int:=HF n s0 aP st2
theorem qW (n:Nat):K3 C28 UK (F28 n):=fun _ _ _ _ h=>ca (X:=x28) (akY n h)
def abz (r:Wq2):AV:=.ms 200000 3 0 r.length
def Wa (r:Wq2):List (Nat×Bx):= [(200000,.rows true 65 3 (aL r))]
def x62:=fx E0 Tryz.f62 [] [200000]
def A62:=Ax x62 abz Wa
def C62:=Cx E0 62 abz Wa
def Ui (dJ:Wq2):LS:=⟨[(0,.slice 65 3 (aL dJ))],[]⟩
def S1 (n:Nat) (dJ:Wq2):Option Wq2:=
 (app [] dJ).bind fun x3=>
 some x3
theorem akd (n:Nat):K1 (A62 []) Ui (S1 n):=fun dJ r h=>
 be h fun x3 hx3 h=>
 rr h [(2,.born [] [] 4 true 65 3),(0,R64.app (xs:= []) hx3 .dat),(1,.ren 4 200000)]
def F62 (n:Nat) (dJ:Wq2):Option Wq2:=S1 n dJ
theorem zZ (n:Nat):K1 C62 Ui (F62 n):=fun _ _ h=>ca (X:=x62) (akd n h)
def abx (r:(Bool×Wq9×Int×az)):AV:=.bool r.1
def V8 (r:(Bool×Wq9×Int×az)):List (Nat×Bx):= [(1,.flat 66 [.ms 100150 1 0 r.2.1.length]),(2,.flat 3 [.int .i64 r.2.2.1]),(3,.flat 55 (gP r.2.2.2)),(100150,.rows false 43 1 (bu r.2.1))]
def x64:=fx E0 Tryz.f64 [1,2,3,100150] [1,2,3,100150]
def A64:=Ax x64 abx V8
def C64:=Cx E0 64 abx V8
def Ug (i0:Int) (t1:Wq9) (t2:Int) (t3:az):LS:=⟨[(0,.int .i64 i0),(1,.loc 1 0),(2,.loc 2 0),(3,.loc 3 0)],[(1,.flat 66 [.ms 100150 1 0 t1.length]),(2,.flat 3 [.int .i64 t2]),(3,.flat 55 (gP t3)),(100150,.rows false 43 1 (bu t1))]⟩
def SZ (n:Nat) (i0:Int) (t1:Wq9) (t2:Int) (t3:az):Option (Bool×Wq9×Int×az):=
 (bnd t1.length i0).bind fun x4=>
 (t1[0+x4]?).bind fun x6=>
 (cut x6 none (some t2)).bind fun x9=>
 (F52 n x9 t3.au).bind fun x13=>
 some (!decide (x13<0),t1,t2,t3)
theorem ajZ (n:Nat):K4 (A64 []) Ug (SZ n):=fun i0 t1 t2 t3 r h=>
 be h fun x4 hx4 h=>
 be h fun x6 hx6 h=>
 be h fun x9 hx9 h=>
 be h fun x13 bY h=>
 rr h [(3,eA hx4),(0,R42.row hx6),(1,R64.cut hx9),(2,.call (oT n bY) [] [] [])]
def F64 (n:Nat) (i0:Int) (t1:Wq9) (t2:Int) (t3:az):Option (Bool×Wq9×Int×az):=SZ n i0 t1 t2 t3
theorem ev64 (n:Nat):K4 C64 Ug (F64 n):=fun _ _ _ _ _ h=>ca (X:=x64) (ajZ n h)
def aby (r:(Int×Wq9×Int×az)):AV:=.int .i64 r.1
def V9 (r:(Int×Wq9×Int×az)):List (Nat×Bx):= [(100100,.flat 66 [.ms 100150 1 0 r.2.1.length]),(100101,.flat 3 [.int .i64 r.2.2.1]),(100102,.flat 55 (gP r.2.2.2)),(100150,.rows false 43 1 (bu r.2.1))]
def x63:=fx E0 Tryz.f63 [100100,100101,100102,100150] [100100,100101,100102,100150]
def A63:=Ax x63 aby V9
def C63:=Cx E0 63 aby V9
def IQ (i5 j6 iR:Int) (iQ:az) (gg:Wq9):LS:=⟨[(1,.fn 64 [] [.loc 100100 0,.loc 100101 0,.loc 100102 0]),(5,.int .i64 i5),(6,.int .i64 j6)],[(100100,.flat 66 [.ms 100150 1 0 gg.length]),(100101,.flat 3 [.int .i64 iR]),(100102,.flat 55 (gP iQ)),(100150,.rows false 43 1 (bu gg))]⟩
def IP (i5 iR:Int) (iQ:az) (gg:Wq9):LS:=⟨[(5,.int .i64 i5)],[(100100,.flat 66 [.ms 100150 1 0 gg.length]),(100101,.flat 3 [.int .i64 iR]),(100102,.flat 55 (gP iQ)),(100150,.rows false 43 1 (bu gg))]⟩
def Uh (n0:Int) (uZ:Wq9) (xX:Int) (xW:az):LS:=⟨[(0,.int .i64 n0),(1,.fn 64 [] [.loc 100100 0,.loc 100101 0,.loc 100102 0])],[(100100,.flat 66 [.ms 100150 1 0 uZ.length]),(100101,.flat 3 [.int .i64 xX]),(100102,.flat 55 (gP xW)),(100150,.rows false 43 1 (bu uZ))]⟩
def Hl (k_1:Int->Int->az->Wq9->Option (Int×Wq9×Int×az)) (back:Int->Int->Int->az->Wq9->Option (Int×Wq9×Int×az)) (n:Nat) (i5 j6 iR:Int) (iQ:az) (gg:Wq9):Option (Int×Wq9×Int×az):=
 if decide (i5<j6) then
 (F64 n (w64 ((Int.fdiv (IntKind.wrap .u64 (w64 (i5+j6))) 2))) gg iR iQ).bind fun x13=>
 (nS x13.2.1.length gg.length).bind fun w14=>
 if !x13.1 then
 back (w64 ((w64 ((Int.fdiv (IntKind.wrap .u64 (w64 (i5+j6))) 2)))+1)) j6 x13.2.2.1 x13.2.2.2 x13.2.1
 else
 back i5 (w64 ((Int.fdiv (IntKind.wrap .u64 (w64 (i5+j6))) 2))) x13.2.2.1 x13.2.2.2 x13.2.1
 else
 k_1 i5 iR iQ gg
theorem akc {k_1} (aJ:K4 (A63 [1,1,1]) IP k_1) {back} (aD:K5 (A63 [0,0,1,1]) IQ back) (n:Nat):K5 (A63 [0,0,1,1]) IQ (Hl k_1 back n):=fun i5 j6 iR iQ gg r h=>
 ie h (fun c0 h=>
 be h fun x13 bY h=>
 be h fun w14 hw14 h=>
 ie h (fun c1 h=>
 ra (aD h) [(2,eb c0),(9,.call (ev64 n bY) [] [(100100,1),(100101,2),(100102,3),(100150,100150)] []),(0,eb c1)]) (fun c1 h=>
 ra (aD h) [(2,eb c0),(9,.call (ev64 n bY) [] [(100100,1),(100101,2),(100102,3),(100150,100150)] []),(0,eb c1)])) (fun c0 h=>
 ra (aJ h) [(2,eb c0)])
def yi (k_1:Int->Int->az->Wq9->Option (Int×Wq9×Int×az)):Nat->Int->Int->Int->az->Wq9->Option (Int×Wq9×Int×az)
 |0,_,_,_,_,_=>none
 |n+1,i5,j6,iR,iQ,gg=>Hl k_1 (yi k_1 n) n i5 j6 iR iQ gg
theorem acH {k_1} (aJ:K4 (A63 [1,1,1]) IP k_1):∀n:Nat,K5 (A63 [0,0,1,1]) IQ (yi k_1 n)
 |0=>fun _ _ _ _ _ _ h=>nz h
 |n+1=>fun _ _ _ _ _ _ h=>akc aJ (acH aJ n) n h
def Hk (n:Nat) (i5 iR:Int) (iQ:az) (gg:Wq9):Option (Int×Wq9×Int×az):=
 some (i5,gg,iR,iQ)
theorem akb (n:Nat):K4 (A63 [1,1,1]) IP (Hk n):=fun i5 iR iQ gg r h=>
 rr h []
def S0 (n:Nat) (n0:Int) (uZ:Wq9) (xX:Int) (xW:az):Option (Int×Wq9×Int×az):=
 yi (Hk n) n 0 n0 xX xW uZ
theorem aka (n:Nat):K4 (A63 []) Uh (S0 n):=fun n0 uZ xX xW r h=>
 ra (acH (akb n) n h) []
def F63 (n:Nat) (n0:Int) (uZ:Wq9) (xX:Int) (xW:az):Option (Int×Wq9×Int×az):=S0 n n0 uZ xX xW
theorem ev63 (n:Nat):K4 C63 Uh (F63 n):=fun _ _ _ _ _ h=>ca (X:=x63) (aka n h)
def abw (r:Wq2):AV:=.ms 200000 3 0 r.length
def V7 (r:Wq2):List (Nat×Bx):= [(200000,.rows true 65 3 (aL r))]
def x65:=fx E0 Tryz.f65 [] [200000]
def A65:=Ax x65 abw V7
def C65:=Cx E0 65 abw V7
def IN (t11:Wq0) (t12 t13:Int) (b3:az) (b9:Wq2):LS:=⟨[(3,.loc 3 0),(5,.ms 9 3 0 b9.length),(11,.slice 3 1 (bq t11)),(12,.int .i64 t12),(13,.int .i64 t13)],[(3,.flat 55 (gP b3)),(9,.rows true 65 3 (aL b9))]⟩
def IM (b9:Wq2):LS:=⟨[(5,.ms 9 3 0 b9.length)],[(9,.rows true 65 3 (aL b9))]⟩
def Uf (dJ:Wq2) (w1:az):LS:=⟨[(0,.slice 65 3 (aL dJ)),(1,.agg (gP w1))],[]⟩
def Hj (k_1:Wq2->Option Wq2) (back:Wq0->Int->Int->az->Wq2->Option Wq2) (n:Nat) (t11:Wq0) (t12 t13:Int) (b3:az) (b9:Wq2):Option Wq2:=
 if decide (t13<t12) then
 (idx t11 t13).bind fun x3=>
 (idx b3.aR t13).bind fun x13=>
 (bnd b9.length x3).bind fun x16=>
 (b9[0+x16]?).bind fun x18=>
 (setAt b9 (0+x16) x13).bind fun z19=>
 back t11 t12 (w64 (t13+1)) b3 z19
 else
 k_1 b9
theorem ajY {k_1} (aJ:K1 (A65 [1,1,1]) IM k_1) {back} (aD:K5 (A65 [0,1,0,1,1]) IN back) (n:Nat):K5 (A65 [0,1,0,1,1]) IN (Hj k_1 back n):=fun t11 t12 t13 b3 b9 r h=>
 ie h (fun c0 h=>
 be h fun x3 hx3 h=>
 be h fun x13 bY h=>
 be h fun x16 cO h=>
 be h fun x18 iJ h=>
 be h fun z19 hz19 h=>
 ra (aD h) [(0,eb c0),(1,R3.idx hx3),(8,R64.idx bY),(1,eA cO),(0,R64.sto 0 (jX x13) iJ hz19 (by kernel_rfl)),(2,.seq 5 (congrArg (fun n_=>(AV.ms 9 3 0 n_)) ((dT hz19).symm)))]) (fun c0 h=>
 ra (aJ h) [(0,eb c0)])
def yh (k_1:Wq2->Option Wq2):Nat->Wq0->Int->Int->az->Wq2->Option Wq2
 |0,_,_,_,_,_=>none
 |n+1,t11,t12,t13,b3,b9=>Hj k_1 (yh k_1 n) n t11 t12 t13 b3 b9
theorem acG {k_1} (aJ:K1 (A65 [1,1,1]) IM k_1):∀n:Nat,K5 (A65 [0,1,0,1,1]) IN (yh k_1 n)
 |0=>fun _ _ _ _ _ _ h=>nz h
 |n+1=>fun _ _ _ _ _ _ h=>ajY aJ (acG aJ n) n h
def Hi (n:Nat) (b9:Wq2):Option Wq2:=
 some b9
theorem ajX (n:Nat):K1 (A65 [1,1,1]) IM (Hi n):=fun b9 r h=>
 rr h [(2,.ren 9 200000)]
def Hh (n:Nat) (dJ:Wq2) (w1:az):Option Wq2:=
 (F62 n dJ).bind fun x4=>
 yh (Hi n) n w1.ak (w1.ak.length:Int) 0 w1 x4
theorem ajW (n:Nat):K2 (A65 []) Uf (Hh n):=fun dJ w1 r h=>
 be h fun x4 hx4 h=>
 ra (acG (ajX n) n h) [(3,.call (zZ n hx4) [] [] [(9,200000)]),(3,.eqv (R3.ax w1.ak))]
def F65 (n:Nat) (dJ:Wq2) (w1:az):Option Wq2:=Hh n dJ w1
theorem ev65 (n:Nat):K2 C65 Uf (F65 n):=fun _ _ _ h=>ca (X:=x65) (ajW n h)
def aca (r:(ah×Int)):AV:=.tup [.agg (eg r.1),.int .i64 r.2]
def WD (r:(ah×Int)):List (Nat×Bx):= []
def x25:=fx E0 Tryz.f25 [] []
def A25:=Ax x25 aca WD
def C25:=Cx E0 25 aca WD
def Ji (bB:Wq3) (t11:Int) (t42:aF) (t43 t44:Int) (t49:Wq9) (t50 t51:Int) (b3:af) (b6 b10:ah) (b39:aF) (bP:Wq9):LS:=⟨[(2,.slice 55 5 (dx bB)),(3,.loc 3 0),(6,.loc 6 0),(10,.loc 10 0),(11,.int .i64 t11),(42,.slice 66 1 (dw t42)),(43,.int .i64 t43),(44,.int .i64 t44),(49,.slice 43 1 (bu t49)),(50,.int .i64 t50),(51,.int .i64 t51)],[(3,.flat 26 (ba b3)),(6,.flat 33 [.aT]),(10,.flat 33 [.ms 39 1 0 b39.length]),(39,.own 66 43 1 ((g6 bu b39).set (0+(t11).toNat) none) (some ((0+(t11).toNat)*1+0,.ms 800039 1 0 bP.length))),(800039,.rows false 43 1 (bu bP))]⟩
def Jh (bB:Wq3) (t11:Int) (t42:aF) (t43 t44:Int) (b3:af) (b6 b10:ah) (b39:aF) (bP:Wq9):LS:=⟨[(2,.slice 55 5 (dx bB)),(3,.loc 3 0),(6,.loc 6 0),(10,.loc 10 0),(11,.int .i64 t11),(42,.slice 66 1 (dw t42)),(43,.int .i64 t43),(44,.int .i64 t44)],[(3,.flat 26 (ba b3)),(6,.flat 33 [.aT]),(10,.flat 33 [.ms 39 1 0 b39.length]),(39,.own 66 43 1 ((g6 bu b39).set (0+(t11).toNat) none) (some ((0+(t11).toNat)*1+0,.ms 800039 1 0 bP.length))),(800039,.rows false 43 1 (bu bP))]⟩
def AK (bB:Wq3) (t42:aF) (t43 t44:Int) (b3:af) (b6 b10:ah) (b39:aF):LS:=⟨[(2,.slice 55 5 (dx bB)),(3,.loc 3 0),(6,.loc 6 0),(10,.loc 10 0),(42,.slice 66 1 (dw t42)),(43,.int .i64 t43),(44,.int .i64 t44)],[(3,.flat 26 (ba b3)),(6,.flat 33 [.aT]),(10,.flat 33 [.ms 39 1 0 b39.length]),(39,.own 66 43 1 (g6 bu b39) none)]⟩
def afV (cg jD:Int) (eS:Bool) (t72:Wq3) (t73 t74 t81:Int) (t142:Bool) (b3:af) (b6 b10:ah) (b17:az) (b39:aF) (bP:Wq9):LS:=⟨[(3,.loc 3 0),(6,.loc 6 0),(10,.loc 10 0),(15,.int .i64 cg),(17,.loc 17 0),(18,.loc 18 0),(20,.int .i64 jD),(21,.bool eS),(72,.slice 55 5 (dx t72)),(73,.int .i64 t73),(74,.int .i64 t74),(81,.int .i64 t81),(142,.bool t142)],[(3,.flat 26 (ba b3)),(6,.flat 33 [.aT]),(10,.flat 33 [.ms 39 1 0 b39.length]),(17,.flat 55 (gP b17)),(18,.flat 66 [.ms 800039 1 0 bP.length]),(39,.own 66 43 1 ((g6 bu b39).set (0+(t81).toNat) none) (some ((0+(t81).toNat)*1+0,.ms 800039 1 0 bP.length))),(800039,.rows false 43 1 (bu bP))]⟩
def UN (cg:Int) (t72:Wq3) (t73 t74 t81:Int) (b3:af) (b6 b10:ah) (b17:az) (b39:aF) (bP:Wq9):LS:=⟨[(3,.loc 3 0),(6,.loc 6 0),(10,.loc 10 0),(15,.int .i64 cg),(17,.loc 17 0),(18,.loc 18 0),(72,.slice 55 5 (dx t72)),(73,.int .i64 t73),(74,.int .i64 t74),(81,.int .i64 t81)],[(3,.flat 26 (ba b3)),(6,.flat 33 [.aT]),(10,.flat 33 [.ms 39 1 0 b39.length]),(17,.flat 55 (gP b17)),(18,.flat 66 [.ms 800039 1 0 bP.length]),(39,.own 66 43 1 ((g6 bu b39).set (0+(t81).toNat) none) (some ((0+(t81).toNat)*1+0,.undef))),(800039,.rows false 43 1 (bu bP))]⟩
def afU (cg jD:Int) (eS:Bool) (t72:Wq3) (t73 t74 t81:Int) (b3:af) (b6 b10:ah) (b17:az) (b39:aF) (bP:Wq9):LS:=⟨[(3,.loc 3 0),(6,.loc 6 0),(10,.loc 10 0),(15,.int .i64 cg),(17,.loc 17 0),(18,.loc 18 0),(20,.int .i64 jD),(21,.bool eS),(72,.slice 55 5 (dx t72)),(73,.int .i64 t73),(74,.int .i64 t74),(81,.int .i64 t81)],[(3,.flat 26 (ba b3)),(6,.flat 33 [.aT]),(10,.flat 33 [.ms 39 1 0 b39.length]),(17,.flat 55 (gP b17)),(18,.flat 66 [.ms 800039 1 0 bP.length]),(39,.own 66 43 1 ((g6 bu b39).set (0+(t81).toNat) none) (some ((0+(t81).toNat)*1+0,.ms 800039 1 0 bP.length))),(800039,.rows false 43 1 (bu bP))]⟩
def vA (cg:Int) (t72:Wq3) (t73 t74:Int) (b3:af) (b6 b10:ah) (b39:aF):LS:=⟨[(3,.loc 3 0),(6,.loc 6 0),(10,.loc 10 0),(15,.int .i64 cg),(72,.slice 55 5 (dx t72)),(73,.int .i64 t73),(74,.int .i64 t74)],[(3,.flat 26 (ba b3)),(6,.flat 33 [.aT]),(10,.flat 33 [.ms 39 1 0 b39.length]),(39,.own 66 43 1 (g6 bu b39) none)]⟩
def Jg (b6 b10:ah) (b39:aF):LS:=⟨[(6,.loc 6 0),(10,.loc 10 0)],[(6,.flat 33 [.aT]),(10,.flat 33 [.ms 39 1 0 b39.length]),(39,.own 66 43 1 (g6 bu b39) none)]⟩
def Jf (bB:Wq3) (b3:af) (b6 b10:ah) (b39:aF):LS:=⟨[(2,.slice 55 5 (dx bB)),(3,.loc 3 0),(6,.loc 6 0),(10,.loc 10 0)],[(3,.flat 26 (ba b3)),(6,.flat 33 [.aT]),(10,.flat 33 [.ms 39 1 0 b39.length]),(39,.own 66 43 1 (g6 bu b39) none)]⟩
def UM (s0:af) (st1:ah) (bB:Wq3):LS:=⟨[(0,.agg (ba s0)),(1,.agg (eg st1)),(2,.slice 55 5 (dx bB))],[]⟩
def HM (k_1:Wq3->Int->aF->Int->Int->af->ah->ah->aF->Wq9->Option (ah×Int)) (back:Wq3->Int->aF->Int->Int->Wq9->Int->Int->af->ah->ah->aF->Wq9->Option (ah×Int)) (n:Nat) (bB:Wq3) (t11:Int) (t42:aF) (t43 t44:Int) (t49:Wq9) (t50 t51:Int) (b3:af) (b6 b10:ah) (b39:aF) (bP:Wq9):Option (ah×Int):=
 if decide (t51<t50) then
 (idx t49 t51).bind fun x2=>
 (bnd b39.length t11).bind fun x12=>
 (F62 n x2).bind fun x16=>
 (app bP [x16]).bind fun x19=>
 (bnd b39.length t11).bind fun x21=>
 back bB t11 t42 t43 t44 t49 t50 (w64 (t51+1)) b3 (ah.mk []) (ah.mk b39) b39 x19
 else
 k_1 bB t11 t42 t43 t44 b3 (ah.mk []) (ah.mk b39) b39 bP
theorem aln {k_1} (aJ:K10 (A25 [1,1,1,0,0,1,0,1,1,1,1]) Jh k_1) {back} (aD:K13 (A25 [0,1,1,0,0,1,1,0,0,1,0,1,1,1,1]) Ji back) (n:Nat):K13 (A25 [0,1,1,0,0,1,1,0,0,1,0,1,1,1,1]) Ji (HM k_1 back n):=fun bB t11 t42 t43 t44 t49 t50 t51 b3 b6 b10 b39 bP r h=>
 ie h (fun c0 h=>
 be h fun x2 hx2 h=>
 be h fun x12 cB h=>
 be h fun x16 cO h=>
 be h fun x19 kF h=>
 be h fun x21 iI h=>
 ra (aD h) [(0,eb c0),(0,R42.idx hx2),(8,qG cB),(2,.call (bl.pm (.sl 0 0) (cd (e:=65) (z:=true) (Q:=aL x16) (zZ n cO) (R64.len x16))) [] [] []),(1,R42.app kF (R42.srW [x16])),(0,qG iI)]) (fun c0 h=>
 ra (aJ h) [(0,eb c0)])
def yr (k_1:Wq3->Int->aF->Int->Int->af->ah->ah->aF->Wq9->Option (ah×Int)):Nat->Wq3->Int->aF->Int->Int->Wq9->Int->Int->af->ah->ah->aF->Wq9->Option (ah×Int)
 |0,_,_,_,_,_,_,_,_,_,_,_,_,_=>none
 |n+1,bB,t11,t42,t43,t44,t49,t50,t51,b3,b6,b10,b39,bP=>HM k_1 (yr k_1 n) n bB t11 t42 t43 t44 t49 t50 t51 b3 b6 b10 b39 bP
theorem acY {k_1} (aJ:K10 (A25 [1,1,1,0,0,1,0,1,1,1,1]) Jh k_1):∀n:Nat,K13 (A25 [0,1,1,0,0,1,1,0,0,1,0,1,1,1,1]) Ji (yr k_1 n)
 |0=>fun _ _ _ _ _ _ _ _ _ _ _ _ _ _ h=>nz h
 |n+1=>fun _ _ _ _ _ _ _ _ _ _ _ _ _ _ h=>aln aJ (acY aJ n) n h
def HL (k_2:Wq3->aF->Int->Int->af->ah->ah->aF->Option (ah×Int)) (n:Nat) (bB:Wq3) (t11:Int) (t42:aF) (t43 t44:Int) (b3:af) (b6 b10:ah) (b39:aF) (bP:Wq9):Option (ah×Int):=
 (setAt b39 (0+(t11).toNat) bP).bind fun z1=>
 k_2 bB t42 t43 (w64 (t44+1)) b3 (ah.mk []) (ah.mk z1) z1
theorem alm {k_2} (cS:K8 (A25 [0,1,0,1,1,1,1]) AK k_2) (n:Nat):K10 (A25 [1,1,1,0,0,1,0,1,1,1,1]) Jh (HL k_2 n):=fun bB t11 t42 t43 t44 b3 b6 b10 b39 bP r h=>
 be h fun z1 hz1 h=>
 ra (cS h) [(0,R42.ud 39 800039 hz1),(2,.beq 10 (congrArg (fun n_=>(Bx.flat 33 [.ms 39 1 0 n_])) ((dT hz1).symm)))]
def HK (k_8:Wq3->af->ah->ah->aF->Option (ah×Int)) (back:Wq3->aF->Int->Int->af->ah->ah->aF->Option (ah×Int)) (n:Nat) (bB:Wq3) (t42:aF) (t43 t44:Int) (b3:af) (b6 b10:ah) (b39:aF):Option (ah×Int):=
 if decide (t44<t43) then
 (idx t42 t44).bind fun x3=>
 (b39[0+(t44).toNat]?).bind fun u8=>
 yr (HL back n) n bB t44 t42 t43 t44 x3 (x3.length:Int) 0 b3 (ah.mk []) (ah.mk b39) b39 u8
 else
 k_8 bB b3 (ah.mk []) (ah.mk b39) b39
theorem alk {k_8} (Ri:K5 (A25 [1,1,1,1,1]) Jf k_8) {back} (aD:K8 (A25 [0,1,0,1,1,1,1]) AK back) (n:Nat):K8 (A25 [0,1,0,1,1,1,1]) AK (HK k_8 back n):=fun bB t42 t43 t44 b3 b6 b10 b39 r h=>
 ie h (fun c0 h=>
 be h fun x3 hx3 h=>
 be h fun u8 hu8 h=>
 ra (acY (alm aD n) n h) [(0,eb c0),(1,R66.idx hx3),(3,R42.sG 39 800039 hu8),(1,.eqv (R42.ax x3))]) (fun c0 h=>
 ra (Ri h) [(0,eb c0)])
def vg (k_8:Wq3->af->ah->ah->aF->Option (ah×Int)):Nat->Wq3->aF->Int->Int->af->ah->ah->aF->Option (ah×Int)
 |0,_,_,_,_,_,_,_,_=>none
 |n+1,bB,t42,t43,t44,b3,b6,b10,b39=>HK k_8 (vg k_8 n) n bB t42 t43 t44 b3 b6 b10 b39
theorem acX {k_8} (Ri:K5 (A25 [1,1,1,1,1]) Jf k_8):∀n:Nat,K8 (A25 [0,1,0,1,1,1,1]) AK (vg k_8 n)
 |0=>fun _ _ _ _ _ _ _ _ _ h=>nz h
 |n+1=>fun _ _ _ _ _ _ _ _ _ h=>alk Ri (acX Ri n) n h
def lU (k_4:Int->Wq3->Int->Int->Int->af->ah->ah->az->aF->Wq9->Option (ah×Int)) (n:Nat) (cg jD:Int) (eS:Bool) (t72:Wq3) (t73 t74 t81:Int) (t142:Bool) (b3:af) (b6 b10:ah) (b17:az) (b39:aF) (bP:Wq9):Option (ah×Int):=
 if t142 then
 (bnd bP.length jD).bind fun x5=>
 (bP[0+x5]?).bind fun x7=>
 (F65 n x7 b17).bind fun x10=>
 (bnd bP.length jD).bind fun x12=>
 (bP[0+x12]?).bind fun x14=>
 (setAt bP (0+x12) x10).bind fun z15=>
 k_4 cg t72 t73 t74 t81 b3 (ah.mk []) (ah.mk b39) b17 b39 z15
 else
 if b17.fOp==3 then
 if eS then
 (gA bP.length jD).bind fun x10=>
 (jo bP.length (w64 (jD+1))).bind fun x15=>
 (oV bP x10 ((bP.drop (0+x15)).take (bP.length - x15))).bind fun x17=>
 k_4 (w64 (cg - 1)) t72 t73 t74 t81 b3 (ah.mk []) (ah.mk b39) b17 b39 x17
 else
 k_4 cg t72 t73 t74 t81 b3 (ah.mk []) (ah.mk b39) b17 b39 bP
 else
 k_4 cg t72 t73 t74 t81 b3 (ah.mk []) (ah.mk b39) b17 b39 bP
theorem xP {k_4} (gy:K11 (A25 [1,1,1,1,1,1,0,0,1,1,0,0,1,0,1,1,1,1,1,1]) UN k_4) (n:Nat):K14 (A25 [1,1,1,0,0,1,1,1,1,1,0,0,1,1,0,0,1,0,1,1,1,1,1,1]) afV (lU k_4 n):=fun cg jD eS t72 t73 t74 t81 t142 b3 b6 b10 b17 b39 bP r h=>
 ie h (fun c0 g0=>by subst c0;exact (
 be g0 fun x5 hx5 g0=>
 be g0 fun x7 hx7 g0=>
 be g0 fun x10 de g0=>
 be g0 fun x12 cB g0=>
 be g0 fun x14 fQ g0=>
 be g0 fun z15 hz15 g0=>
 ra (gy g0) [(4,eA hx5),(0,R42.row hx7),(1,.call (bl.pm (.sl 0 0) (cd (e:=65) (z:=true) (Q:=aL x10) (ev65 n de) (R64.len x10))) [] [] []),(0,eA cB),(0,R42.sto 0 [.slice 65 3 (aL x10)] fQ hz15 (by kernel_rfl)),(0,.beq 18 (congrArg (fun n_=>(Bx.flat 66 [.ms 800039 1 0 n_])) ((dT hz15).symm))),(0,.norm [] [(39,.hol .un)])])) (fun c0 g0=>by subst c0;exact (
 ie g0 (fun c1 g0=>
 ie g0 (fun c2 g1=>by subst c2;exact (
 be g1 fun x10 de g1=>
 be g1 fun x15 fA g1=>
 be g1 fun x17 dZ g1=>
 ra (gy g1) [(2,eb c1),(6,R42.gA (xs:=bP) de (Nat.le_of_eq rfl)),(3,R42.jo (xs:=bP) fA (Nat.le_of_eq rfl)),(0,R42.oV dZ (R42.sr (xs:=bP) (EA fA (Nat.le_of_eq rfl))))])) (fun c2 g1=>by subst c2;exact (
 ra (gy g1) [(2,eb c1),(4,.norm [] [(39,.hol .un)])]))) (fun c1 g0=>
 ra (gy g0) [(2,eb c1),(3,.norm [] [(39,.hol .un)])])))
def m7 (k_6:Int->Wq3->Int->Int->af->ah->ah->aF->Option (ah×Int)) (n:Nat) (cg:Int) (t72:Wq3) (t73 t74 t81:Int) (b3:af) (b6 b10:ah) (b17:az) (b39:aF) (bP:Wq9):Option (ah×Int):=
 (bnd b39.length b17.aq).bind fun x6=>
 (nS (0+(b17.aq).toNat) (0+(t81).toNat)).bind fun w7=>
 (setAt b39 (0+(t81).toNat) bP).bind fun z10=>
 k_6 cg t72 t73 (w64 (t74+1)) b3 (ah.mk []) (ah.mk z10) z10
theorem uX {k_6} (ma:K8 (A25 [0,1,0,1,1,1,1,1,1]) vA k_6) (n:Nat):K11 (A25 [1,1,1,1,1,1,0,0,1,1,0,0,1,0,1,1,1,1,1,1]) UN (m7 k_6 n):=fun cg t72 t73 t74 t81 b3 b6 b10 b17 b39 bP r h=>
 be h fun x6 hx6 h=>
 be h fun w7 hw7 h=>
 be h fun z10 hz10 h=>
 ra (ma h) [(5,qG hx6),(0,.seq 180 (congrArg (fun j_=>AV.el 39 1 j_ 0) (zq hw7))),(1,R42.ud 39 800039 hz10),(2,.beq 10 (congrArg (fun n_=>(Bx.flat 33 [.ms 39 1 0 n_])) ((dT hz10).symm)))]
def oe (k_6:Int->Wq3->Int->Int->af->ah->ah->aF->Option (ah×Int)) (n:Nat) (cg jD:Int) (eS:Bool) (t72:Wq3) (t73 t74 t81:Int) (b3:af) (b6 b10:ah) (b17:az) (b39:aF) (bP:Wq9):Option (ah×Int):=
 if b17.fOp==1 then
 if !eS then
 if decide (cg<512) then
 (app bP [[]]).bind fun x15=>
 (jo x15.length (w64 (jD+1))).bind fun x21=>
 (jo x15.length jD).bind fun Yu=>
 (sQ x15 (0+x21) (x15.length - x21) ((x15.drop (0+Yu)).take (x15.length - Yu))).bind fun x27=>
 (F62 n b17.aR).bind fun x33=>
 (bnd x15.length jD).bind fun x35=>
 (x27[0+x35]?).bind fun x37=>
 (setAt x27 (0+x35) x33).bind fun z38=>
 m7 k_6 n (w64 (cg+1)) t72 t73 t74 t81 b3 (ah.mk []) (ah.mk b39) b17 b39 z38
 else
 if b17.fOp==2 then
 lU (m7 k_6 n) n cg jD eS t72 t73 t74 t81 eS b3 (ah.mk []) (ah.mk b39) b17 b39 bP
 else
 lU (m7 k_6 n) n cg jD eS t72 t73 t74 t81 false b3 (ah.mk []) (ah.mk b39) b17 b39 bP
 else
 if b17.fOp==2 then
 lU (m7 k_6 n) n cg jD eS t72 t73 t74 t81 eS b3 (ah.mk []) (ah.mk b39) b17 b39 bP
 else
 lU (m7 k_6 n) n cg jD eS t72 t73 t74 t81 false b3 (ah.mk []) (ah.mk b39) b17 b39 bP
 else
 if b17.fOp==2 then
 lU (m7 k_6 n) n cg jD eS t72 t73 t74 t81 eS b3 (ah.mk []) (ah.mk b39) b17 b39 bP
 else
 lU (m7 k_6 n) n cg jD eS t72 t73 t74 t81 false b3 (ah.mk []) (ah.mk b39) b17 b39 bP
theorem adU {k_6} (ma:K8 (A25 [0,1,0,1,1,1,1,1,1]) vA k_6) (n:Nat):K13 (A25 [1,1,1,1,1,0,0,1,1,0,0,1,0,1,1,1,1,1,1]) afU (oe k_6 n):=fun cg jD eS t72 t73 t74 t81 b3 b6 b10 b17 b39 bP r h=>
 ie h (fun c0 h=>
 ie h (fun c1 h=>
 ie h (fun c2 h=>
 be h fun x15 fA h=>
 be h fun x21 iI h=>
 be h fun Yu ux h=>
 be h fun x27 nv h=>
 be h fun x33 Eb h=>
 be h fun x35 zR h=>
 be h fun x37 uv h=>
 be h fun z38 hz38 h=>
 ra (uX ma n h) [(2,eb c0),(2,eb c1),(3,eb c2),(4,.norm [] [(124,.rws [.sl 65 3])]),(0,R42.app fA (R42.srW [[]])),(4,R42.jo (xs:=x15) iI (Nat.le_of_eq rfl)),(2,R42.jo (xs:=x15) ux (Nat.le_of_eq rfl)),(0,R42.sQ nv (R42.sr (xs:=x15) (EA ux (Nat.le_of_eq rfl)))),(4,.call (bl.pm (.sl 0 0) (cd (e:=65) (z:=true) (Q:=aL x33) (zZ n Eb) (R64.len x33))) [] [] []),(0,eA zR),(0,R42.sto 0 [.slice 65 3 (aL x33)] uv hz38 (by kernel_rfl)),(3,.beq 18 (congrArg (fun n_=>(Bx.flat 66 [.ms 800039 1 0 n_])) (((dT hz38).trans (aar nv)).symm)))]) (fun c2 h=>
 ie h (fun c3 h=>
 ra (xP (uX ma n) n h) [(2,eb c0),(2,eb c1),(3,eb c2),(4,eb c3)]) (fun c3 h=>
 ra (xP (uX ma n) n h) [(2,eb c0),(2,eb c1),(3,eb c2),(4,eb c3)]))) (fun c1 h=>
 ie h (fun c2 h=>
 ra (xP (uX ma n) n h) [(2,eb c0),(2,eb c1),(6,eb c2)]) (fun c2 h=>
 ra (xP (uX ma n) n h) [(2,eb c0),(2,eb c1),(6,eb c2)]))) (fun c0 h=>
 ie h (fun c1 h=>
 ra (xP (uX ma n) n h) [(2,eb c0),(7,eb c1)]) (fun c1 h=>
 ra (xP (uX ma n) n h) [(2,eb c0),(7,eb c1)]))
def HJ (k_7:ah->ah->aF->Option (ah×Int)) (back:Int->Wq3->Int->Int->af->ah->ah->aF->Option (ah×Int)) (n:Nat) (cg:Int) (t72:Wq3) (t73 t74:Int) (b3:af) (b6 b10:ah) (b39:aF):Option (ah×Int):=
 if decide (t74<t73) then
 (idx t72 t74).bind fun x2=>
 (b39[0+(x2.aq).toNat]?).bind fun u7=>
 (bnd b39.length x2.aq).bind fun x13=>
 (idx b3.ag x2.aq).bind fun x22=>
 (F63 n (u7.length:Int) u7 x22.au x2).bind fun x31=>
 (nS x31.2.1.length u7.length).bind fun w32=>
 if decide (x31.1<(x31.2.1.length:Int)) then
 (bnd x31.2.1.length x31.1).bind fun x42=>
 (x31.2.1[0+x42]?).bind fun x44=>
 (cut x44 none (some x31.2.2.1)).bind fun x47=>
 (F52 n x47 x31.2.2.2.au).bind fun x51=>
 oe back n cg x31.1 (x51==0) t72 t73 t74 x2.aq b3 (ah.mk []) (ah.mk b39) x31.2.2.2 b39 x31.2.1
 else
 oe back n cg x31.1 false t72 t73 t74 x2.aq b3 (ah.mk []) (ah.mk b39) x31.2.2.2 b39 x31.2.1
 else
 k_7 (ah.mk []) (ah.mk b39) b39
theorem alj {k_7} (Rj:K3 (A25 [1,1,1,1,1,1,1]) Jg k_7) {back} (aD:K8 (A25 [0,1,0,1,1,1,1,1,1]) vA back) (n:Nat):K8 (A25 [0,1,0,1,1,1,1,1,1]) vA (HJ k_7 back n):=fun cg t72 t73 t74 b3 b6 b10 b39 r h=>
 ie h (fun c0 h=>
 be h fun x2 hx2 h=>
 be h fun u7 hu7 h=>
 be h fun x13 bY h=>
 be h fun x22 qI h=>
 be h fun x31 zS h=>
 be h fun w32 hw32 h=>
 ie h (fun c1 h=>
 be h fun x42 ZH h=>
 be h fun x44 Ra h=>
 be h fun x47 hx47 h=>
 be h fun x51 ZG h=>
 ra (adU aD n h) [(0,eb c0),(0,R54.idx hx2),(3,R42.sG 39 800039 hu7),(4,qG bY),(7,R62.idx qI),(7,.call (ev63 n zS) [] [(18,100100),(19,100101),(17,100102),(800039,100150)] []),(4,eb c1),(3,eA ZH),(0,R42.row Ra),(1,R64.cut hx47),(2,.call (oT n ZG) [] [] []),(3,.beq 39 (congrArg (fun n_=>(Bx.own 66 43 1 ((g6 bu b39).set (0+(x2.aq).toNat) none) (some ((0+(x2.aq).toNat)*1+0,.ms 800039 1 0 n_)))) ((zq hw32).symm)))]) (fun c1 h=>
 ra (adU aD n h) [(0,eb c0),(0,R54.idx hx2),(3,R42.sG 39 800039 hu7),(4,qG bY),(7,R62.idx qI),(7,.call (ev63 n zS) [] [(18,100100),(19,100101),(17,100102),(800039,100150)] []),(4,eb c1),(3,.beq 39 (congrArg (fun n_=>(Bx.own 66 43 1 ((g6 bu b39).set (0+(x2.aq).toNat) none) (some ((0+(x2.aq).toNat)*1+0,.ms 800039 1 0 n_)))) ((zq hw32).symm)))])) (fun c0 h=>
 ra (Rj h) [(0,eb c0)])
def oa (k_7:ah->ah->aF->Option (ah×Int)):Nat->Int->Wq3->Int->Int->af->ah->ah->aF->Option (ah×Int)
 |0,_,_,_,_,_,_,_,_=>none
 |n+1,cg,t72,t73,t74,b3,b6,b10,b39=>HJ k_7 (oa k_7 n) n cg t72 t73 t74 b3 b6 b10 b39
theorem acW {k_7} (Rj:K3 (A25 [1,1,1,1,1,1,1]) Jg k_7):∀n:Nat,K8 (A25 [0,1,0,1,1,1,1,1,1]) vA (oa k_7 n)
 |0=>fun _ _ _ _ _ _ _ _ _ h=>nz h
 |n+1=>fun _ _ _ _ _ _ _ _ _ h=>alj Rj (acW Rj n) n h
def Tt (n:Nat) (b6 b10:ah) (b39:aF):Option (ah×Int):=
 some ((ah.mk b39),0)
theorem ali (n:Nat):K3 (A25 [1,1,1,1,1,1,1]) Jg (Tt n):=fun b6 b10 b39 r h=>
 rr h [(3,R42.DU R66 false 39 43 1 (fun _=>rfl) b39)]
def HI (n:Nat) (bB:Wq3) (b3:af) (b6 b10:ah) (b39:aF):Option (ah×Int):=
 (F57 n (ah.mk b39)).bind fun x2=>
 oa (Tt n) n x2 bB (bB.length:Int) 0 b3 (ah.mk []) (ah.mk b39) b39
theorem alh (n:Nat):K5 (A25 [1,1,1,1,1]) Jf (HI n):=fun bB b3 b6 b10 b39 r h=>
 be h fun x2 hx2 h=>
 ra (acW (ali n) n h) [(1,.call (bl.aiB (m:=.same) (k:=700000) (s:=1) (e:=66) (e':=43) (Q:=g6 bu b39) (P:=dw b39) (n:=b39.length) (xs:= [.agg [.ms 700000 1 0 b39.length]]) (Lt n hx2) (R42.own R66 (b:=false) (fun _=>rfl) b39) (by kernel_rfl) (J6 b39) (by kernel_rfl) (by kernel_rfl) (by kernel_rfl)) [] [(39,700000)] []),(2,.eqv (R54.ax bB))]
def Tq (n:Nat) (s0:af) (st1:ah) (bB:Wq3):Option (ah×Int):=
 (F12 n s0 bB).bind fun x7=>
 if x7 !=0 then
 some ((ah.mk []),x7)
 else
 (F28 n s0 3 st1).bind fun x14=>
 if x14 !=0 then
 some ((ah.mk []),x14)
 else
 (kg (st1.ag.length:Int) ([]:Wq9)).bind fun x22=>
 vg (HI n) n bB st1.ag (st1.ag.length:Int) 0 s0 (ah.mk []) (ah.mk x22) x22
theorem alg (n:Nat):K3 (A25 []) UM (Tq n):=fun s0 st1 bB r h=>
 be h fun x7 hx7 h=>
 ie h (fun c0 h=>
 rr h [(6,.call (Er n hx7) [] [] []),(2,eb c0),(4,.norm [] [(6,.flat [.sl 66 1])])]) (fun c0 h=>
 be h fun x14 fQ h=>
 ie h (fun c1 h=>
 rr h [(6,.call (Er n hx7) [] [] []),(2,eb c0),(2,.call (qW n fQ) [] [] []),(2,eb c1),(4,.norm [] [(6,.flat [.sl 66 1])])]) (fun c1 h=>
 be h fun x22 qI h=>
 ra (acX (alh n) n h) [(6,.call (Er n hx7) [] [] []),(2,eb c0),(2,.call (qW n fQ) [] [] []),(2,eb c1),(2,.eqv (R66.ax st1.ag)),(0,Ai.made [.aT] [.sn 43 1] qI (by kernel_rfl)),(0,R42.DN Ai 39 43 1 qI rfl),(0,.seq 39 (congrArg (fun n_=>(AV.ms 39 1 0 n_)) ((zw qI)))),(5,.eqv (R66.ax st1.ag))]))
def F25 (n:Nat) (s0:af) (st1:ah) (bB:Wq3):Option (ah×Int):=Tq n s0 st1 bB
theorem ld (n:Nat):K3 C25 UM (F25 n):=fun _ _ _ _ h=>ca (X:=x25) (alg n h)
def x84:=fx E0 Tryz.f84 [] []
def x44:=fx E0 Tryz.f44 [] []
def x87:=fx E0 Tryz.f87 [] []
def x14:=fx E0 Tryz.f14 [] []
def x53:=fx E0 Tryz.f53 [] []
def x26:=fx E0 Tryz.f26 [] []
def abv (r:Bool):AV:=.bool r
def V6 (r:Bool):List (Nat×Bx):= []
def x68:=fx E0 Tryz.f68 [] []
def A68:=Ax x68 abv V6
def C68:=Cx E0 68 abv V6
def IL (a0 b1:Wq9) (t12 t13:Int):LS:=⟨[(0,.slice 43 1 (bu a0)),(1,.slice 43 1 (bu b1)),(12,.int .i64 t12),(13,.int .i64 t13)],[]⟩
def IK:LS:=⟨[],[]⟩
def Ue (a0 b1:Wq9):LS:=⟨[(0,.slice 43 1 (bu a0)),(1,.slice 43 1 (bu b1))],[]⟩
def Hg (k_1:Option Bool) (back:Wq9->Wq9->Int->Int->Option Bool) (n:Nat) (a0 b1:Wq9) (t12 t13:Int):Option Bool:=
 if decide (t13<t12) then
 (idx a0 t13).bind fun x6=>
 (idx b1 t13).bind fun x11=>
 (F22 n x6 x11).bind fun x14=>
 if x14 !=0 then
 some false
 else
 back a0 b1 t12 (w64 (t13+1))
 else
 k_1
theorem ajV {k_1} (aJ:K0 (A68 [1,1,1]) IK k_1) {back} (aD:K4 (A68 [0,1,0,1,1]) IL back) (n:Nat):K4 (A68 [0,1,0,1,1]) IL (Hg k_1 back n):=fun a0 b1 t12 t13 r h=>
 ie h (fun c0 h=>
 be h fun x6 hx6 h=>
 be h fun x11 ct h=>
 be h fun x14 fQ h=>
 ie h (fun c1 h=>
 rr h [(0,eb c0),(4,R42.idx hx6),(3,R42.idx ct),(1,.call (wG n fQ) [] [] []),(0,eb c1)]) (fun c1 h=>
 ra (aD h) [(0,eb c0),(4,R42.idx hx6),(3,R42.idx ct),(1,.call (wG n fQ) [] [] []),(0,eb c1)])) (fun c0 h=>
 ra (aJ h) [(0,eb c0)])
def yg (k_1:Option Bool):Nat->Wq9->Wq9->Int->Int->Option Bool
 |0,_,_,_,_=>none
 |n+1,a0,b1,t12,t13=>Hg k_1 (yg k_1 n) n a0 b1 t12 t13
theorem acF {k_1} (aJ:K0 (A68 [1,1,1]) IK k_1):∀n:Nat,K4 (A68 [0,1,0,1,1]) IL (yg k_1 n)
 |0=>fun _ _ _ _ _ h=>nz h
 |n+1=>fun _ _ _ _ _ h=>ajV aJ (acF aJ n) n h
def He (n:Nat):Option Bool:=
 some true
theorem ajU (n:Nat):K0 (A68 [1,1,1]) IK (He n):=fun r h=>
 rr h []
def SY (n:Nat) (a0 b1:Wq9):Option Bool:=
 if (a0.length:Int) !=(b1.length:Int) then
 some false
 else
 yg (He n) n a0 b1 (a0.length:Int) 0
theorem ajT (n:Nat):K2 (A68 []) Ue (SY n):=fun a0 b1 r h=>
 ie h (fun c0 h=>
 rr h [(2,.eqv (R42.ax a0)),(1,.eqv (R42.ax b1)),(0,eb c0)]) (fun c0 h=>
 ra (acF (ajU n) n h) [(2,.eqv (R42.ax a0)),(1,.eqv (R42.ax b1)),(0,eb c0),(1,.eqv (R42.ax a0))])
def F68 (n:Nat) (a0 b1:Wq9):Option Bool:=SY n a0 b1
theorem ev68 (n:Nat):K2 C68 Ue (F68 n):=fun _ _ _ h=>ca (X:=x68) (ajT n h)
def abZ (r:Bool):AV:=.bool r
def WC (r:Bool):List (Nat×Bx):= []
def x27:=fx E0 Tryz.f27 [] []
def A27:=Ax x27 abZ WC
def C27:=Cx E0 27 abZ WC
def Je (t15 t16:Int) (b2 b3:ah):LS:=⟨[(2,.loc 2 0),(3,.loc 3 0),(15,.int .i64 t15),(16,.int .i64 t16)],[(2,.flat 33 (eg b2)),(3,.flat 33 (eg b3))]⟩
def Jd:LS:=⟨[],[]⟩
def UL (a0 b1:ah):LS:=⟨[(0,.agg (eg a0)),(1,.agg (eg b1))],[]⟩
def HH (k_1:Option Bool) (back:Int->Int->ah->ah->Option Bool) (n:Nat) (t15 t16:Int) (b2 b3:ah):Option Bool:=
 if decide (t16<t15) then
 (idx b2.ag t16).bind fun x7=>
 (idx b3.ag t16).bind fun x13=>
 (F68 n x7 x13).bind fun x16=>
 if !x16 then
 some false
 else
 back t15 (w64 (t16+1)) b2 b3
 else
 k_1
theorem alf {k_1} (aJ:K0 (A27 [1,1,1]) Jd k_1) {back} (aD:K4 (A27 [0,1,0,1,1]) Je back) (n:Nat):K4 (A27 [0,1,0,1,1]) Je (HH k_1 back n):=fun t15 t16 b2 b3 r h=>
 ie h (fun c0 h=>
 be h fun x7 hx7 h=>
 be h fun x13 bY h=>
 be h fun x16 cO h=>
 ie h (fun c1 h=>
 rr h [(0,eb c0),(5,R66.idx hx7),(4,R66.idx bY),(1,.call (ev68 n cO) [] [] []),(0,eb c1)]) (fun c1 h=>
 ra (aD h) [(0,eb c0),(5,R66.idx hx7),(4,R66.idx bY),(1,.call (ev68 n cO) [] [] []),(0,eb c1)])) (fun c0 h=>
 ra (aJ h) [(0,eb c0)])
def yq (k_1:Option Bool):Nat->Int->Int->ah->ah->Option Bool
 |0,_,_,_,_=>none
 |n+1,t15,t16,b2,b3=>HH k_1 (yq k_1 n) n t15 t16 b2 b3
theorem acV {k_1} (aJ:K0 (A27 [1,1,1]) Jd k_1):∀n:Nat,K4 (A27 [0,1,0,1,1]) Je (yq k_1 n)
 |0=>fun _ _ _ _ _ h=>nz h
 |n+1=>fun _ _ _ _ _ h=>alf aJ (acV aJ n) n h
def HG (n:Nat):Option Bool:=
 some true
theorem ale (n:Nat):K0 (A27 [1,1,1]) Jd (HG n):=fun r h=>
 rr h []
def Tp (n:Nat) (a0 b1:ah):Option Bool:=
 if (a0.ag.length:Int) !=(b1.ag.length:Int) then
 some false
 else
 yq (HG n) n (a0.ag.length:Int) 0 a0 b1
theorem ald (n:Nat):K2 (A27 []) UL (Tp n):=fun a0 b1 r h=>
 ie h (fun c0 h=>
 rr h [(5,.eqv (R66.ax a0.ag)),(2,.eqv (R66.ax b1.ag)),(0,eb c0)]) (fun c0 h=>
 ra (acV (ale n) n h) [(5,.eqv (R66.ax a0.ag)),(2,.eqv (R66.ax b1.ag)),(0,eb c0),(2,.eqv (R66.ax a0.ag))])
def F27 (n:Nat) (a0 b1:ah):Option Bool:=Tp n a0 b1
theorem ev27 (n:Nat):K2 C27 UL (F27 n):=fun _ _ _ h=>ca (X:=x27) (ald n h)
def x6:=fx E0 Tryz.f6 [] []
def abF (r:Wq2):AV:=.ms 200000 3 0 r.length
def Wg (r:Wq2):List (Nat×Bx):= [(200000,.rows true 65 3 (aL r))]
def x56:=fx E0 Tryz.f56 [] [200000]
def A56:=Ax x56 abF Wg
def C56:=Cx E0 56 abF Wg
def Uo (dJ:Wq2):LS:=⟨[(0,.slice 65 3 (aL dJ))],[]⟩
def S8 (n:Nat) (dJ:Wq2):Option Wq2:=
 (app [] dJ).bind fun x3=>
 some x3
theorem akp (n:Nat):K1 (A56 []) Uo (S8 n):=fun dJ r h=>
 be h fun x3 hx3 h=>
 rr h [(2,.born [] [] 4 true 65 3),(0,R64.app (xs:= []) hx3 .dat),(1,.ren 4 200000)]
def F56 (n:Nat) (dJ:Wq2):Option Wq2:=S8 n dJ
theorem Z6 (n:Nat):K1 C56 Uo (F56 n):=fun _ _ h=>ca (X:=x56) (akp n h)
def abB (r:(Wq2×Bool)):AV:=.tup [.slice 65 3 (aL r.1),.bool r.2]
def Wc (r:(Wq2×Bool)):List (Nat×Bx):= []
def x60:=fx E0 Tryz.f60 [] []
def A60:=Ax x60 abB Wc
def C60:=Cx E0 60 abB Wc
def IT (aN:Int) (bF:Wq2) (t32:Wq9) (t33 t34:Int) (b4:af):LS:=⟨[(2,.int .i64 aN),(3,.slice 65 3 (aL bF)),(4,.loc 4 0),(32,.slice 43 1 (bu t32)),(33,.int .i64 t33),(34,.int .i64 t34)],[(4,.flat 26 (ba b4))]⟩
def IS:LS:=⟨[],[]⟩
def Uk (s0:af) (st1:ah) (aN:Int) (bF:Wq2):LS:=⟨[(0,.agg (ba s0)),(1,.agg (eg st1)),(2,.int .i64 aN),(3,.slice 65 3 (aL bF))],[]⟩
def Hn (k_1:Option (Wq2×Bool)) (back:Int->Wq2->Wq9->Int->Int->af->Option (Wq2×Bool)) (n:Nat) (aN:Int) (bF:Wq2) (t32:Wq9) (t33 t34:Int) (b4:af):Option (Wq2×Bool):=
 if decide (t34<t33) then
 (idx t32 t34).bind fun x2=>
 (F71 n b4 aN x2).bind fun x9=>
 (F52 n x9 bF).bind fun x12=>
 if x12==0 then
 some (x2,true)
 else
 back aN bF t32 t33 (w64 (t34+1)) b4
 else
 k_1
theorem akh {k_1} (aJ:K0 (A60 [1,1,1]) IS k_1) {back} (aD:K6 (A60 [0,1,0,1,1]) IT back) (n:Nat):K6 (A60 [0,1,0,1,1]) IT (Hn k_1 back n):=fun aN bF t32 t33 t34 b4 r h=>
 ie h (fun c0 h=>
 be h fun x2 hx2 h=>
 be h fun x9 hx9 h=>
 be h fun x12 cB h=>
 ie h (fun c1 h=>
 rr h [(0,eb c0),(0,R42.idx hx2),(5,.call (qV n hx9) [] [] []),(1,.call (oT n cB) [] [] []),(0,eb c1)]) (fun c1 h=>
 ra (aD h) [(0,eb c0),(0,R42.idx hx2),(5,.call (qV n hx9) [] [] []),(1,.call (oT n cB) [] [] []),(0,eb c1)])) (fun c0 h=>
 ra (aJ h) [(0,eb c0)])
def yj (k_1:Option (Wq2×Bool)):Nat->Int->Wq2->Wq9->Int->Int->af->Option (Wq2×Bool)
 |0,_,_,_,_,_,_=>none
 |n+1,aN,bF,t32,t33,t34,b4=>Hn k_1 (yj k_1 n) n aN bF t32 t33 t34 b4
theorem acI {k_1} (aJ:K0 (A60 [1,1,1]) IS k_1):∀n:Nat,K6 (A60 [0,1,0,1,1]) IT (yj k_1 n)
 |0=>fun _ _ _ _ _ _ _ h=>nz h
 |n+1=>fun _ _ _ _ _ _ _ h=>akh aJ (acI aJ n) n h
def Hm (n:Nat):Option (Wq2×Bool):=
 some ([],false)
theorem akg (n:Nat):K0 (A60 [1,1,1]) IS (Hm n):=fun r h=>
 rr h [(2,.norm [(8,.one (.sl 65 3))] [])]
def S3 (n:Nat) (s0:af) (st1:ah) (aN:Int) (bF:Wq2):Option (Wq2×Bool):=
 if decide (aN<0) then
 some ([],false)
 else
 if !decide (aN<(s0.ag.length:Int)) then
 some ([],false)
 else
 if !decide (aN<(st1.ag.length:Int)) then
 some ([],false)
 else
 (idx st1.ag aN).bind fun x24=>
 yj (Hm n) n aN bF x24 (x24.length:Int) 0 s0
theorem akf (n:Nat):K4 (A60 []) Uk (S3 n):=fun s0 st1 aN bF r h=>
 ie h (fun c0 h=>
 rr h [(5,eb c0),(6,.norm [(8,.one (.sl 65 3))] [])]) (fun c0 h=>
 ie h (fun c1 h=>
 rr h [(5,eb c0),(4,.eqv (R62.ax s0.ag)),(0,eb c1),(5,.norm [(8,.one (.sl 65 3))] [])]) (fun c1 h=>
 ie h (fun c2 h=>
 rr h [(5,eb c0),(4,.eqv (R62.ax s0.ag)),(0,eb c1),(5,.eqv (R66.ax st1.ag)),(0,eb c2),(3,.norm [(8,.one (.sl 65 3))] [])]) (fun c2 h=>
 be h fun x24 l6 h=>
 ra (acI (akg n) n h) [(5,eb c0),(4,.eqv (R62.ax s0.ag)),(0,eb c1),(5,.eqv (R66.ax st1.ag)),(0,eb c2),(4,R66.idx l6),(1,.eqv (R42.ax x24))])))
def F60 (n:Nat) (s0:af) (st1:ah) (aN:Int) (bF:Wq2):Option (Wq2×Bool):=S3 n s0 st1 aN bF
theorem ev60 (n:Nat):K4 C60 Uk (F60 n):=fun _ _ _ _ _ h=>ca (X:=x60) (akf n h)
def ace (r:(Wq2×Bool)):AV:=.tup [.ms 200000 3 0 r.1.length,.bool r.2]
def WH (r:(Wq2×Bool)):List (Nat×Bx):= [(200000,.rows true 65 3 (aL r.1))]
def x21:=fx E0 Tryz.f21 [] [200000]
def A21:=Ax x21 ace WH
def C21:=Cx E0 21 ace WH
def UQ (s0:af) (st1:ah) (aN:Int) (bF:Wq2):LS:=⟨[(0,.agg (ba s0)),(1,.agg (eg st1)),(2,.int .i64 aN),(3,.slice 65 3 (aL bF))],[]⟩
def Tv (n:Nat) (s0:af) (st1:ah) (aN:Int) (bF:Wq2):Option (Wq2×Bool):=
 (F60 n s0 st1 aN bF).bind fun x9=>
 (F56 n x9.1).bind fun x17=>
 some (x17,x9.2)
theorem als (n:Nat):K4 (A21 []) UQ (Tv n):=fun s0 st1 aN bF r h=>
 be h fun x9 hx9 h=>
 be h fun x17 dZ h=>
 rr h [(8,.call (ev60 n hx9) [] [] []),(6,.call (Z6 n dZ) [] [] [(21,200000)]),(3,.ren 21 200000)]
def F21 (n:Nat) (s0:af) (st1:ah) (aN:Int) (bF:Wq2):Option (Wq2×Bool):=Tv n s0 st1 aN bF
theorem uK (n:Nat):K4 C21 UQ (F21 n):=fun _ _ _ _ _ h=>ca (X:=x21) (als n h)
def abe (r:eZ):AV:=(qX r)
def VP (r:eZ):List (Nat×Bx):= []
def x93:=fx E0 Tryz.f93 [] []
def A93:=Ax x93 abe VP
def C93:=Cx E0 93 abe VP
def TP (qa xJ aN:Int) (bF:Wq2):LS:=⟨[(0,.int .i64 qa),(1,.int .i64 xJ),(2,.int .i64 aN),(3,.slice 65 3 (aL bF))],[]⟩
def GW (n:Nat) (qa xJ aN:Int) (bF:Wq2):Option eZ:=
 (F62 n bF).bind fun x6=>
 some (eZ.uS (rn.mk (aQ.mk qa xJ aN x6)))
theorem ajl (n:Nat):K4 (A93 []) TP (GW n):=fun qa xJ aN bF r h=>
 be h fun x6 hx6 h=>
 rr h [(5,.call (zZ n hx6) [] [] [(13,200000)]),(2,R64.frz 13 x6),(0,.norm [(15,.agg [.same,.same,.same,.sl 0 0])] [])]
def F93 (n:Nat) (qa xJ aN:Int) (bF:Wq2):Option eZ:=GW n qa xJ aN bF
theorem Eo (n:Nat):K4 C93 TP (F93 n):=fun _ _ _ _ _ h=>ca (X:=x93) (ajl n h)
def abJ (r:(aB×eZ)):AV:=.tup [.agg (dW r.1),(qX r.2)]
def Wl (r:(aB×eZ)):List (Nat×Bx):= []
def x50:=fx E0 Tryz.f50 [] []
def A50:=Ax x50 abJ Wl
def C50:=Cx E0 50 abJ Wl
def Ut (s0:af) (st1:ah) (w2:az):LS:=⟨[(0,.agg (ba s0)),(1,.agg (eg st1)),(2,.agg (gP w2))],[]⟩
def Ta (n:Nat) (s0:af) (st1:ah) (w2:az):Option (aB×eZ):=
 (F21 n s0 st1 w2.aq w2.au).bind fun x12=>
 if w2.fOp==1 then
 if x12.2 then
 (F93 n 4 0 w2.aq w2.au).bind fun x28=>
 mL x28 (
 some ((aB.mk 0 [] []),eZ.nil)) (fun y2=>
 some ((aB.mk 0 [] []),(eZ.c35 y2))) (fun y2=>
 some ((aB.mk 0 [] []),(eZ.uS y2)))
 else
 (F62 n w2.aR).bind fun x27=>
 some ((aB.mk w2.aq [] x27),eZ.nil)
 else
 if !x12.2 then
 (F93 n 5 0 w2.aq w2.au).bind fun x29=>
 mL x29 (
 some ((aB.mk 0 [] []),eZ.nil)) (fun y2=>
 some ((aB.mk 0 [] []),(eZ.c35 y2))) (fun y2=>
 some ((aB.mk 0 [] []),(eZ.uS y2)))
 else
 (F62 n x12.1).bind fun x27=>
 if w2.fOp==2 then
 (F65 n x12.1 w2).bind fun x37=>
 some ((aB.mk w2.aq x27 x37),eZ.nil)
 else
 some ((aB.mk w2.aq x27 []),eZ.nil)
theorem akt (n:Nat):K3 (A50 []) Ut (Ta n):=fun s0 st1 w2 r h=>
 be h fun x12 cB h=>
 ie h (fun c0 h=>
 ie h (fun c1 h=>
 be h fun x28 kE h=>
 ice h (fun c2 g0=>by subst c2;exact (
 rr g0 [(11,.call (uK n cB) [] [] [(301800,200000)]),(2,eb c1),(4,eb c0),(6,.call (Eo n kE) [] [] []),(2,.norm [] [(6,.flat [.same,.sl 65 3,.sl 65 3])])])) (fun y2 c2 g0=>by subst c2;exact (
 rr g0 [(11,.call (uK n cB) [] [] [(301800,200000)]),(2,eb c1),(4,eb c0),(6,.call (Eo n kE) [] [] []),(2,.norm [] [(6,.flat [.same,.sl 65 3,.sl 65 3])])])) (fun y2 c2 g0=>by subst c2;exact (
 rr g0 [(11,.call (uK n cB) [] [] [(301800,200000)]),(2,eb c1),(4,eb c0),(6,.call (Eo n kE) [] [] []),(2,.norm [] [(6,.flat [.same,.sl 65 3,.sl 65 3])])]))) (fun c1 h=>
 be h fun x27 nv h=>
 rr h [(11,.call (uK n cB) [] [] [(301800,200000)]),(2,eb c1),(4,eb c0),(5,.call (zZ n nv) [] [] [(35,200000)]),(0,.nrm (.agg [.same,.sl 65 3])),(2,R64.frz 35 x27),(0,.norm [] [(6,.flat [.same,.same,.sl 0 0])])])) (fun c0 h=>
 ie h (fun c1 h=>
 be h fun x29 we h=>
 ice h (fun c2 g0=>by subst c2;exact (
 rr g0 [(11,.call (uK n cB) [] [] [(301800,200000)]),(7,eb c0),(1,eb c1),(5,.call (Eo n we) [] [] []),(2,.norm [] [(6,.flat [.same,.sl 65 3,.sl 65 3])])])) (fun y2 c2 g0=>by subst c2;exact (
 rr g0 [(11,.call (uK n cB) [] [] [(301800,200000)]),(7,eb c0),(1,eb c1),(5,.call (Eo n we) [] [] []),(2,.norm [] [(6,.flat [.same,.sl 65 3,.sl 65 3])])])) (fun y2 c2 g0=>by subst c2;exact (
 rr g0 [(11,.call (uK n cB) [] [] [(301800,200000)]),(7,eb c0),(1,eb c1),(5,.call (Eo n we) [] [] []),(2,.norm [] [(6,.flat [.same,.sl 65 3,.sl 65 3])])]))) (fun c1 h=>
 be h fun x27 nv h=>
 ie h (fun c2 h=>
 be h fun x37 uv h=>
 rr h [(11,.call (uK n cB) [] [] [(301800,200000)]),(7,eb c0),(1,eb c1),(0,R64.frz 301800 x12.1),(3,.call (zZ n nv) [.one (.sl 0 0)] [] [(48,200000)]),(0,.nrm (.agg [.same,.same,.sl 65 3])),(4,eb c2),(2,.call (ev65 n uv) [.one (.sl 0 0)] [] [(55,200000)]),(5,R64.frz 48 x27),(0,R64.frz 55 x37),(0,.norm [] [(6,.flat [.same,.sl 0 0,.sl 0 0])])]) (fun c2 h=>
 rr h [(11,.call (uK n cB) [] [] [(301800,200000)]),(7,eb c0),(1,eb c1),(0,R64.frz 301800 x12.1),(3,.call (zZ n nv) [.one (.sl 0 0)] [] [(48,200000)]),(0,.nrm (.agg [.same,.same,.sl 65 3])),(4,eb c2),(3,R64.frz 48 x27),(0,.norm [] [(6,.flat [.same,.sl 0 0])])])))
def F50 (n:Nat) (s0:af) (st1:ah) (w2:az):Option (aB×eZ):=Ta n s0 st1 w2
theorem Z7 (n:Nat):K3 C50 Ut (F50 n):=fun _ _ _ _ h=>ca (X:=x50) (akt n h)
def abI (r:(aQ×Int)):AV:=.tup [.agg (adD r.1),.int .i64 r.2]
def Wj (r:(aQ×Int)):List (Nat×Bx):= []
def x51:=fx E0 Tryz.f51 [] []
def A51:=Ax x51 abI Wj
def C51:=Cx E0 51 abI Wj
def Us (Et:eZ):LS:=⟨[(0,(qX Et))],[]⟩
def Hq (n:Nat) (Et:eZ):Option (aQ×Int):=
 mL Et (
 some ((aQ.mk 0 0 0 []),0)) (fun y0=>
 some ((aQ.mk 0 0 0 []),y0)) (fun y0=>
 some (y0.qQ,0))
theorem aks (n:Nat):K1 (A51 []) Us (Hq n):=fun Et r h=>
 ice h (fun c0 g0=>by subst c0;exact (
 rr g0 [(12,.norm [] [(2,.flat [.same,.same,.same,.sl 65 3])])])) (fun y0 c0 g0=>by subst c0;exact (
 rr g0 [(14,.norm [] [(2,.flat [.same,.same,.same,.sl 65 3])])])) (fun y0 c0 g0=>by subst c0;exact (
 rr g0 []))
def F51 (n:Nat) (Et:eZ):Option (aQ×Int):=Hq n Et
theorem ev51 (n:Nat):K1 C51 Us (F51 n):=fun _ _ h=>ca (X:=x51) (aks n h)
def acg (r:(Wq5×aQ×Int)):AV:=.tup [.ms 200000 3 0 r.1.length,.agg (adD r.2.1),.int .i64 r.2.2]
def WJ (r:(Wq5×aQ×Int)):List (Nat×Bx):= [(200000,.rows true 104 3 (gG r.1))]
def x16:=fx E0 Tryz.f16 [] [200000]
def A16:=Ax x16 acg WJ
def C16:=Cx E0 16 acg WJ
def afX (t32:Wq3) (t33 t34:Int) (b3:af) (b4:ah) (b7:aQ) (b75:Wq5) (b14:aB):LS:=⟨[(3,.loc 3 0),(4,.loc 4 0),(7,.loc 7 0),(11,.ms 75 3 0 b75.length),(14,.loc 14 0),(32,.slice 55 5 (dx t32)),(33,.int .i64 t33),(34,.int .i64 t34)],[(3,.flat 26 (ba b3)),(4,.flat 33 (eg b4)),(7,.flat 45 [.int .i64 b7.dI,.int .i64 b7.jf,.int .i64 b7.aq,.aT]),(14,.flat 104 (dW b14)),(75,.rows true 104 3 (gG b75))]⟩
def UT (t32:Wq3) (t33 t34:Int) (b3:af) (b4:ah) (b7:aQ) (b75:Wq5):LS:=⟨[(3,.loc 3 0),(4,.loc 4 0),(7,.loc 7 0),(11,.ms 75 3 0 b75.length),(32,.slice 55 5 (dx t32)),(33,.int .i64 t33),(34,.int .i64 t34)],[(3,.flat 26 (ba b3)),(4,.flat 33 (eg b4)),(7,.flat 45 [.int .i64 b7.dI,.int .i64 b7.jf,.int .i64 b7.aq,.aT]),(75,.rows true 104 3 (gG b75))]⟩
def afW (Gz:eZ) (t32:Wq3) (t33 t34:Int) (b3:af) (b4:ah) (b7:aQ) (b75:Wq5) (b14:aB):LS:=⟨[(3,.loc 3 0),(4,.loc 4 0),(7,.loc 7 0),(11,.ms 75 3 0 b75.length),(14,.loc 14 0),(15,(qX Gz)),(32,.slice 55 5 (dx t32)),(33,.int .i64 t33),(34,.int .i64 t34)],[(3,.flat 26 (ba b3)),(4,.flat 33 (eg b4)),(7,.flat 45 [.int .i64 b7.dI,.int .i64 b7.jf,.int .i64 b7.aq,.aT]),(14,.flat 104 (dW b14)),(75,.rows true 104 3 (gG b75))]⟩
def vB (t32:Wq3) (t33 t34:Int) (b3:af) (b4:ah) (b7:aQ) (b75:Wq5):LS:=⟨[(3,.loc 3 0),(4,.loc 4 0),(7,.loc 7 0),(11,.ms 75 3 0 b75.length),(32,.slice 55 5 (dx t32)),(33,.int .i64 t33),(34,.int .i64 t34)],[(3,.flat 26 (ba b3)),(4,.flat 33 (eg b4)),(7,.flat 45 [.int .i64 b7.dI,.int .i64 b7.jf,.int .i64 b7.aq,.aT]),(75,.rows true 104 3 (gG b75))]⟩
def Jq (b7:aQ) (b75:Wq5):LS:=⟨[(7,.loc 7 0),(11,.ms 75 3 0 b75.length)],[(7,.flat 45 [.int .i64 b7.dI,.int .i64 b7.jf,.int .i64 b7.aq,.aT]),(75,.rows true 104 3 (gG b75))]⟩
def US (s0:af) (st1:ah) (bB:Wq3):LS:=⟨[(0,.agg (ba s0)),(1,.agg (eg st1)),(2,.slice 55 5 (dx bB))],[]⟩
def vj (k_1:Wq3->Int->Int->af->ah->aQ->Wq5->Option (Wq5×aQ×Int)) (n:Nat) (t32:Wq3) (t33 t34:Int) (b3:af) (b4:ah) (b7:aQ) (b75:Wq5) (b14:aB):Option (Wq5×aQ×Int):=
 (app b75 [b14]).bind fun x4=>
 k_1 t32 t33 t34 b3 b4 (aQ.mk b7.dI b7.jf b7.aq []) x4
theorem Sf {k_1} (aJ:K7 (A16 [1,1,1,0,0,1,0,1,1,1,1]) UT k_1) (n:Nat):K8 (A16 [1,1,1,1,0,0,1,1,0,0,1,0,1,1,1,1]) afX (vj k_1 n):=fun t32 t33 t34 b3 b4 b7 b75 b14 r h=>
 be h fun x4 hx4 h=>
 ra (aJ h) [(3,sU.app hx4 (sU.srW [b14]))]
def pT (k_3:Wq3->Int->Int->af->ah->aQ->Wq5->Option (Wq5×aQ×Int)) (n:Nat) (t32:Wq3) (t33 t34:Int) (b3:af) (b4:ah) (b7:aQ) (b75:Wq5):Option (Wq5×aQ×Int):=
 k_3 t32 t33 (w64 (t34+1)) b3 b4 (aQ.mk b7.dI b7.jf b7.aq []) b75
theorem GP {k_3} (bT:K7 (A16 [0,1,0,1,1,1,1]) vB k_3) (n:Nat):K7 (A16 [1,1,1,0,0,1,0,1,1,1,1]) UT (pT k_3 n):=fun t32 t33 t34 b3 b4 b7 b75 r h=>
 ra (bT h) []
def pS (k_3:Wq3->Int->Int->af->ah->aQ->Wq5->Option (Wq5×aQ×Int)) (n:Nat) (Gz:eZ) (t32:Wq3) (t33 t34:Int) (b3:af) (b4:ah) (b7:aQ) (b75:Wq5) (b14:aB):Option (Wq5×aQ×Int):=
 mL Gz (
 if decide (0<(b14.cC.length:Int)) then
 if decide (0<(b14.ea.length:Int)) then
 (F52 n b14.cC b14.ea).bind fun x18=>
 if x18==0 then
 pT k_3 n t32 t33 t34 b3 b4 (aQ.mk b7.dI b7.jf b7.aq []) b75
 else
 vj (pT k_3 n) n t32 t33 t34 b3 b4 (aQ.mk b7.dI b7.jf b7.aq []) b75 b14
 else
 vj (pT k_3 n) n t32 t33 t34 b3 b4 (aQ.mk b7.dI b7.jf b7.aq []) b75 b14
 else
 vj (pT k_3 n) n t32 t33 t34 b3 b4 (aQ.mk b7.dI b7.jf b7.aq []) b75 b14) (fun y0=>
 (F51 n (eZ.c35 y0)).bind fun x4=>
 some ([],x4.1,x4.2)) (fun y0=>
 (F51 n (eZ.uS y0)).bind fun x4=>
 some ([],x4.1,x4.2))
theorem Se {k_3} (bT:K7 (A16 [0,1,0,1,1,1,1]) vB k_3) (n:Nat):K9 (A16 [1,1,0,0,1,1,0,0,1,0,1,1,1,1]) afW (pS k_3 n):=fun Gz t32 t33 t34 b3 b4 b7 b75 b14 r h=>
 ice h (fun c0 g0=>by subst c0;exact (
 ie g0 (fun c1 g0=>
 ie g0 (fun c2 g0=>
 be g0 fun x18 iJ g0=>
 ie g0 (fun c3 g0=>
 ra (GP bT n g0) [(4,.eqv (R64.ax b14.cC)),(0,eb c1),(3,.eqv (R64.ax b14.ea)),(0,eb c2),(6,.call (oT n iJ) [] [] []),(0,eb c3)]) (fun c3 g0=>
 ra (Sf (GP bT n) n g0) [(4,.eqv (R64.ax b14.cC)),(0,eb c1),(3,.eqv (R64.ax b14.ea)),(0,eb c2),(6,.call (oT n iJ) [] [] []),(0,eb c3)])) (fun c2 g0=>
 ra (Sf (GP bT n) n g0) [(4,.eqv (R64.ax b14.cC)),(0,eb c1),(3,.eqv (R64.ax b14.ea)),(0,eb c2)])) (fun c1 g0=>
 ra (Sf (GP bT n) n g0) [(4,.eqv (R64.ax b14.cC)),(0,eb c1)]))) (fun y0 c0 g0=>by subst c0;exact (
 be g0 fun x4 hx4 g0=>
 rr g0 [(3,.call (ev51 n hx4) [] [] []),(11,.born [6] [] 200000 true 104 3)])) (fun y0 c0 g0=>by subst c0;exact (
 be g0 fun x4 hx4 g0=>
 rr g0 [(3,.call (ev51 n hx4) [] [] []),(11,.born [6] [] 200000 true 104 3)]))
def HV (k_4:aQ->Wq5->Option (Wq5×aQ×Int)) (back:Wq3->Int->Int->af->ah->aQ->Wq5->Option (Wq5×aQ×Int)) (n:Nat) (t32:Wq3) (t33 t34:Int) (b3:af) (b4:ah) (b7:aQ) (b75:Wq5):Option (Wq5×aQ×Int):=
 if decide (t34<t33) then
 (idx t32 t34).bind fun x2=>
 (F50 n b3 b4 x2).bind fun x10=>
 mL x10.2 (
 pS back n eZ.nil t32 t33 t34 b3 b4 (aQ.mk b7.dI b7.jf b7.aq []) b75 x10.1) (fun y1=>
 pS back n (eZ.c35 y1) t32 t33 t34 b3 b4 (aQ.mk b7.dI b7.jf b7.aq []) b75 x10.1) (fun y1=>
 pS back n (eZ.uS y1) t32 t33 t34 b3 b4 (aQ.mk b7.dI b7.jf b7.aq []) b75 x10.1)
 else
 k_4 (aQ.mk b7.dI b7.jf b7.aq []) b75
theorem alD {k_4} (gy:K2 (A16 [1,1,1,1,1]) Jq k_4) {back} (aD:K7 (A16 [0,1,0,1,1,1,1]) vB back) (n:Nat):K7 (A16 [0,1,0,1,1,1,1]) vB (HV k_4 back n):=fun t32 t33 t34 b3 b4 b7 b75 r h=>
 ie h (fun c0 h=>
 be h fun x2 hx2 h=>
 be h fun x10 de h=>
 ice h (fun c1 h=>
 ra (Se aD n h) [(0,eb c0),(0,R54.idx hx2),(6,.call (bl.cast (Z7 n de) (congrArg (fun q_=>(AV.tup [.agg (dW x10.1),(qX q_)])) c1)) [] [] [])]) (fun y1 c1 h=>
 ra (Se aD n h) [(0,eb c0),(0,R54.idx hx2),(6,.call (bl.cast (Z7 n de) (congrArg (fun q_=>(AV.tup [.agg (dW x10.1),(qX q_)])) c1)) [] [] [])]) (fun y1 c1 h=>
 ra (Se aD n h) [(0,eb c0),(0,R54.idx hx2),(6,.call (bl.cast (Z7 n de) (congrArg (fun q_=>(AV.tup [.agg (dW x10.1),(qX q_)])) c1)) [] [] [])])) (fun c0 h=>
 ra (gy h) [(0,eb c0)])
def yx (k_4:aQ->Wq5->Option (Wq5×aQ×Int)):Nat->Wq3->Int->Int->af->ah->aQ->Wq5->Option (Wq5×aQ×Int)
 |0,_,_,_,_,_,_,_=>none
 |n+1,t32,t33,t34,b3,b4,b7,b75=>HV k_4 (yx k_4 n) n t32 t33 t34 b3 b4 b7 b75
theorem adf {k_4} (gy:K2 (A16 [1,1,1,1,1]) Jq k_4):∀n:Nat,K7 (A16 [0,1,0,1,1,1,1]) vB (yx k_4 n)
 |0=>fun _ _ _ _ _ _ _ _ h=>nz h
 |n+1=>fun _ _ _ _ _ _ _ _ h=>alD gy (adf gy n) n h
def HU (n:Nat) (b7:aQ) (b75:Wq5):Option (Wq5×aQ×Int):=
 some (b75,(aQ.mk 0 0 0 []),0)
theorem alC (n:Nat):K2 (A16 [1,1,1,1,1]) Jq (HU n):=fun b7 b75 r h=>
 rr h [(5,.ren 75 200000),(0,.norm [] [(7,.flat [.same,.same,.same,.sl 65 3])])]
def Tx (n:Nat) (s0:af) (st1:ah) (bB:Wq3):Option (Wq5×aQ×Int):=
 (F12 n s0 bB).bind fun x8=>
 if x8 !=0 then
 some ([],(aQ.mk 0 0 0 []),x8)
 else
 (F28 n s0 1 st1).bind fun x15=>
 if x15 !=0 then
 some ([],(aQ.mk 0 0 0 []),x15)
 else
 yx (HU n) n bB (bB.length:Int) 0 s0 st1 (aQ.mk 0 0 0 []) []
theorem alB (n:Nat):K3 (A16 []) US (Tx n):=fun s0 st1 bB r h=>
 be h fun x8 hx8 h=>
 ie h (fun c0 h=>
 rr h [(7,.call (Er n hx8) [] [] []),(2,eb c0),(5,.born [6] [] 200000 true 104 3),(0,.norm [] [(7,.flat [.same,.same,.same,.sl 65 3])])]) (fun c0 h=>
 be h fun x15 fA h=>
 ie h (fun c1 h=>
 rr h [(7,.call (Er n hx8) [] [] []),(2,eb c0),(2,.call (qW n fA) [] [] []),(2,eb c1),(5,.born [6] [] 200000 true 104 3),(0,.norm [] [(7,.flat [.same,.same,.same,.sl 65 3])])]) (fun c1 h=>
 ra (adf (alC n) n h) [(7,.call (Er n hx8) [] [] []),(2,eb c0),(2,.call (qW n fA) [] [] []),(2,eb c1),(2,.eqv (R54.ax bB)),(1,.born [11] [] 75 true 104 3)]))
def F16 (n:Nat) (s0:af) (st1:ah) (bB:Wq3):Option (Wq5×aQ×Int):=Tx n s0 st1 bB
theorem wH (n:Nat):K3 C16 US (F16 n):=fun _ _ _ _ h=>ca (X:=x16) (alB n h)
def abb (r:Bool):AV:=.bool r
def VM (r:Bool):List (Nat×Bx):= []
def x96:=fx E0 Tryz.f96 [] []
def A96:=Ax x96 abb VM
def C96:=Cx E0 96 abb VM
def TM (a0 b1:Wq2):LS:=⟨[(0,.slice 65 3 (aL a0)),(1,.slice 65 3 (aL b1))],[]⟩
def SH (n:Nat) (a0 b1:Wq2):Option Bool:=
 (F52 n a0 b1).bind fun x4=>
 some (x4==0)
theorem ajg (n:Nat):K2 (A96 []) TM (SH n):=fun a0 b1 r h=>
 be h fun x4 hx4 h=>
 rr h [(3,.call (oT n hx4) [] [] [])]
def F96 (n:Nat) (a0 b1:Wq2):Option Bool:=SH n a0 b1
theorem Z3 (n:Nat):K2 C96 TM (F96 n):=fun _ _ _ h=>ca (X:=x96) (ajg n h)
def abD (r:Bool):AV:=.bool r
def We (r:Bool):List (Nat×Bx):= []
def x58:=fx E0 Tryz.f58 [] []
def A58:=Ax x58 abD We
def C58:=Cx E0 58 abD We
def afQ (aP:Int) (vJ:Wq2) (t36:rq) (t37:Int) (b3:af) (b5:aB):LS:=⟨[(1,.int .i64 aP),(3,.loc 3 0),(5,.loc 5 0),(8,.slice 65 3 (aL vJ)),(36,.agg (XM t36)),(37,.int .i64 t37)],[(3,.flat 26 (ba b3)),(5,.flat 104 (dW b5))]⟩
def AF (aP:Int) (t36:rq) (t37:Int) (b3:af) (b5:aB):LS:=⟨[(1,.int .i64 aP),(3,.loc 3 0),(5,.loc 5 0),(36,.agg (XM t36)),(37,.int .i64 t37)],[(3,.flat 26 (ba b3)),(5,.flat 104 (dW b5))]⟩
def IU (b3:af) (b5:aB):LS:=⟨[(3,.loc 3 0),(5,.loc 5 0)],[(3,.flat 26 (ba b3)),(5,.flat 104 (dW b5))]⟩
def afP (aP:Int) (b3:af) (b5:aB):LS:=⟨[(1,.int .i64 aP),(3,.loc 3 0),(5,.loc 5 0)],[(3,.flat 26 (ba b3)),(5,.flat 104 (dW b5))]⟩
def Um (s0:af) (aP:Int) (c2:aB):LS:=⟨[(0,.agg (ba s0)),(1,.int .i64 aP),(2,.agg (dW c2))],[]⟩
def Cy (k_1:Int->rq->Int->af->aB->Option Bool) (n:Nat) (aP:Int) (vJ:Wq2) (t36:rq) (t37:Int) (b3:af) (b5:aB):Option Bool:=
 if decide (0<(vJ.length:Int)) then
 (F70 n b3 b5.aq vJ aP).bind fun x10=>
 if !x10 then
 some false
 else
 k_1 aP t36 (w64 (t37+1)) b3 b5
 else
 k_1 aP t36 (w64 (t37+1)) b3 b5
theorem adS {k_1} (aJ:K5 (A58 [0,1,0,1,1]) AF k_1) (n:Nat):K6 (A58 [1,0,0,1,1,0,0,1,0,1,1]) afQ (Cy k_1 n):=fun aP vJ t36 t37 b3 b5 r h=>
 ie h (fun c0 h=>
 be h fun x10 de h=>
 ie h (fun c1 h=>
 rr h [(1,.eqv (R64.ax vJ)),(0,eb c0),(6,.call (wE n de) [] [] []),(0,eb c1)]) (fun c1 h=>
 ra (aJ h) [(1,.eqv (R64.ax vJ)),(0,eb c0),(6,.call (wE n de) [] [] []),(0,eb c1)])) (fun c0 h=>
 ra (aJ h) [(1,.eqv (R64.ax vJ)),(0,eb c0)])
def S7 (k_2:af->aB->Option Bool) (back:Int->rq->Int->af->aB->Option Bool) (n:Nat) (aP:Int) (t36:rq) (t37:Int) (b3:af) (b5:aB):Option Bool:=
 if decide (t37<2) then
 if t37==0 then
 Cy back n aP t36.f0 t36 0 b3 b5
 else
 if t37==1 then
 Cy back n aP t36.f1 t36 1 b3 b5
 else
 none
 else
 k_2 b3 b5
theorem akl {k_2} (cS:K2 (A58 [1,1,1]) IU k_2) {back} (aD:K5 (A58 [0,1,0,1,1]) AF back) (n:Nat):K5 (A58 [0,1,0,1,1]) AF (S7 k_2 back n):=fun aP t36 t37 b3 b5 r h=>
 ie h (fun c0 h=>
 ie h (fun c1 g0=>by have c1:=eq_of_beq c1;subst c1;exact (
 ra (adS aD n g0) [])) (fun c1 h=>
 ie h (fun c2_ g0=>by have c2_:=eq_of_beq c2_;subst c2_;exact (
 ra (adS aD n g0) [])) (fun c2_ h=>
 nz h))) (fun c0 h=>
 ra (cS h) [(0,eb c0)])
def GS (k_2:af->aB->Option Bool):Nat->Int->rq->Int->af->aB->Option Bool
 |0,_,_,_,_,_=>none
 |n+1,aP,t36,t37,b3,b5=>S7 k_2 (GS k_2 n) n aP t36 t37 b3 b5
theorem acJ {k_2} (cS:K2 (A58 [1,1,1]) IU k_2):∀n:Nat,K5 (A58 [0,1,0,1,1]) AF (GS k_2 n)
 |0=>fun _ _ _ _ _ _ h=>nz h
 |n+1=>fun _ _ _ _ _ _ h=>akl cS (acJ cS n) n h
def S6 (n:Nat) (b3:af) (b5:aB):Option Bool:=
 if (b5.cC.length:Int)==0 then
 some true
 else
 if (b5.ea.length:Int)==0 then
 some true
 else
 (F71 n b3 b5.aq b5.cC).bind fun x17=>
 (F71 n b3 b5.aq b5.ea).bind fun x24=>
 (F96 n x17 x24).bind fun x26=>
 some x26
theorem akk (n:Nat):K2 (A58 [1,1,1]) IU (S6 n):=fun b3 b5 r h=>
 ie h (fun c0 h=>
 rr h [(2,.eqv (R64.ax b5.cC)),(0,eb c0)]) (fun c0 h=>
 ie h (fun c1 h=>
 rr h [(2,.eqv (R64.ax b5.cC)),(0,eb c0),(3,.eqv (R64.ax b5.ea)),(0,eb c1)]) (fun c1 h=>
 be h fun x17 dZ h=>
 be h fun x24 l6 h=>
 be h fun x26 jS h=>
 rr h [(2,.eqv (R64.ax b5.cC)),(0,eb c0),(3,.eqv (R64.ax b5.ea)),(0,eb c1),(7,.call (qV n dZ) [] [] []),(5,.call (qV n l6) [] [] []),(0,.call (Z3 n jS) [] [] [])]))
def Cw (n:Nat) (aP:Int) (b3:af) (b5:aB):Option Bool:=
 GS (S6 n) n aP (rq.mk b5.cC b5.ea) 0 b3 b5
theorem adR (n:Nat):K3 (A58 [1,1]) afP (Cw n):=fun aP b3 b5 r h=>
 ra (acJ (akk n) n h) []
def S5 (n:Nat) (s0:af) (aP:Int) (c2:aB):Option Bool:=
 if decide (c2.aq<0) then
 some false
 else
 if !decide (c2.aq<(s0.ag.length:Int)) then
 some false
 else
 if (c2.cC.length:Int)==0 then
 if (c2.ea.length:Int)==0 then
 some false
 else
 Cw n aP s0 c2
 else
 Cw n aP s0 c2
theorem akj (n:Nat):K3 (A58 []) Um (S5 n):=fun s0 aP c2 r h=>
 ie h (fun c0 h=>
 rr h [(5,eb c0)]) (fun c0 h=>
 ie h (fun c1 h=>
 rr h [(5,eb c0),(5,.eqv (R62.ax s0.ag)),(0,eb c1)]) (fun c1 h=>
 ie h (fun c2_ h=>
 ie h (fun c3 h=>
 rr h [(5,eb c0),(5,.eqv (R62.ax s0.ag)),(0,eb c1),(4,.eqv (R64.ax c2.cC)),(0,eb c2_),(3,.eqv (R64.ax c2.ea)),(0,eb c3)]) (fun c3 h=>
 ra (adR n h) [(5,eb c0),(5,.eqv (R62.ax s0.ag)),(0,eb c1),(4,.eqv (R64.ax c2.cC)),(0,eb c2_),(3,.eqv (R64.ax c2.ea)),(0,eb c3)])) (fun c2_ h=>
 ra (adR n h) [(5,eb c0),(5,.eqv (R62.ax s0.ag)),(0,eb c1),(4,.eqv (R64.ax c2.cC)),(0,eb c2_)])))
def F58 (n:Nat) (s0:af) (aP:Int) (c2:aB):Option Bool:=S5 n s0 aP c2
theorem Rv (n:Nat):K3 C58 Um (F58 n):=fun _ _ _ _ h=>ca (X:=x58) (akj n h)
def aaY (r:(Int×af×aB)):AV:=.int .i64 r.1
def VJ (r:(Int×af×aB)):List (Nat×Bx):= [(2,.flat 26 (ba r.2.1)),(3,.flat 104 (dW r.2.2))]
def x99:=fx E0 Tryz.f99 [2,3] [2,3]
def A99:=Ax x99 aaY VJ
def C99:=Cx E0 99 aaY VJ
def TJ (dJ gx:Wq2) (t2:af) (t3:aB):LS:=⟨[(0,.slice 65 3 (aL dJ)),(1,.slice 65 3 (aL gx)),(2,.loc 2 0),(3,.loc 3 0)],[(2,.flat 26 (ba t2)),(3,.flat 104 (dW t3))]⟩
def SE (n:Nat) (dJ gx:Wq2) (t2:af) (t3:aB):Option (Int×af×aB):=
 (F71 n t2 t3.aq dJ).bind fun x6=>
 (F52 n x6 gx).bind fun x9=>
 some (x9,t2,t3)
theorem ajb (n:Nat):K4 (A99 []) TJ (SE n):=fun dJ gx t2 t3 r h=>
 be h fun x6 hx6 h=>
 be h fun x9 hx9 h=>
 rr h [(5,.call (qV n hx6) [] [] []),(1,.call (oT n hx9) [] [] [])]
def F99 (n:Nat) (dJ gx:Wq2) (t2:af) (t3:aB):Option (Int×af×aB):=SE n dJ gx t2 t3
theorem Z2 (n:Nat):K4 C99 TJ (F99 n):=fun _ _ _ _ _ h=>ca (X:=x99) (ajb n h)
def aba (r:(Int×Bool×af×aB)):AV:=.tup [.int .i64 r.1,.bool r.2.1]
def VL (r:(Int×Bool×af×aB)):List (Nat×Bx):= [(100200,.flat 26 (ba r.2.2.1)),(100201,.flat 104 (dW r.2.2.2))]
def x97:=fx E0 Tryz.f97 [100200,100201] [100200,100201]
def A97:=Ax x97 aba VL
def C97:=Cx E0 97 aba VL
def Is (x0:Wq9) (dR:Wq2) (n8 i9 j10:Int) (ij:af) (ig:aB):LS:=⟨[(0,.slice 43 1 (bu x0)),(1,.slice 65 3 (aL dR)),(2,.fn 99 [] [.loc 100200 0,.loc 100201 0]),(8,.int .i64 n8),(9,.int .i64 i9),(10,.int .i64 j10)],[(100200,.flat 26 (ba ij)),(100201,.flat 104 (dW ig))]⟩
def Ir (x0:Wq9) (dR:Wq2) (n8 i9:Int) (ij:af) (ig:aB):LS:=⟨[(0,.slice 43 1 (bu x0)),(1,.slice 65 3 (aL dR)),(2,.fn 99 [] [.loc 100200 0,.loc 100201 0]),(8,.int .i64 n8),(9,.int .i64 i9)],[(100200,.flat 26 (ba ij)),(100201,.flat 104 (dW ig))]⟩
def TL (x0:Wq9) (dR:Wq2) (xV:af) (xU:aB):LS:=⟨[(0,.slice 43 1 (bu x0)),(1,.slice 65 3 (aL dR)),(2,.fn 99 [] [.loc 100200 0,.loc 100201 0])],[(100200,.flat 26 (ba xV)),(100201,.flat 104 (dW xU))]⟩
def GU (k_1:Wq9->Wq2->Int->Int->af->aB->Option (Int×Bool×af×aB)) (back:Wq9->Wq2->Int->Int->Int->af->aB->Option (Int×Bool×af×aB)) (n:Nat) (x0:Wq9) (dR:Wq2) (n8 i9 j10:Int) (ij:af) (ig:aB):Option (Int×Bool×af×aB):=
 if decide (i9<j10) then
 (idx x0 (w64 ((Int.fdiv (IntKind.wrap .u64 (w64 (i9+j10))) 2)))).bind fun x14=>
 (F99 n x14 dR ij ig).bind fun x18=>
 if decide (x18.1<0) then
 back x0 dR n8 (w64 ((w64 ((Int.fdiv (IntKind.wrap .u64 (w64 (i9+j10))) 2)))+1)) j10 x18.2.1 x18.2.2
 else
 back x0 dR n8 i9 (w64 ((Int.fdiv (IntKind.wrap .u64 (w64 (i9+j10))) 2))) x18.2.1 x18.2.2
 else
 k_1 x0 dR n8 i9 ij ig
theorem ajf {k_1} (aJ:K6 (A97 [1,1,1,1]) Ir k_1) {back} (aD:K7 (A97 [0,0,1,1,1]) Is back) (n:Nat):K7 (A97 [0,0,1,1,1]) Is (GU k_1 back n):=fun x0 dR n8 i9 j10 ij ig r h=>
 ie h (fun c0 h=>
 be h fun x14 fQ h=>
 be h fun x18 iJ h=>
 ie h (fun c1 h=>
 ra (aD h) [(2,eb c0),(10,R42.idx fQ),(2,.call (Z2 n iJ) [] [(100200,2),(100201,3)] []),(0,eb c1)]) (fun c1 h=>
 ra (aD h) [(2,eb c0),(10,R42.idx fQ),(2,.call (Z2 n iJ) [] [(100200,2),(100201,3)] []),(0,eb c1)])) (fun c0 h=>
 ra (aJ h) [(2,eb c0)])
def ya (k_1:Wq9->Wq2->Int->Int->af->aB->Option (Int×Bool×af×aB)):Nat->Wq9->Wq2->Int->Int->Int->af->aB->Option (Int×Bool×af×aB)
 |0,_,_,_,_,_,_,_=>none
 |n+1,x0,dR,n8,i9,j10,ij,ig=>GU k_1 (ya k_1 n) n x0 dR n8 i9 j10 ij ig
theorem acu {k_1} (aJ:K6 (A97 [1,1,1,1]) Ir k_1):∀n:Nat,K7 (A97 [0,0,1,1,1]) Is (ya k_1 n)
 |0=>fun _ _ _ _ _ _ _ _ h=>nz h
 |n+1=>fun _ _ _ _ _ _ _ _ h=>ajf aJ (acu aJ n) n h
def Cm (n:Nat) (x0:Wq9) (dR:Wq2) (n8 i9:Int) (ij:af) (ig:aB):Option (Int×Bool×af×aB):=
 if decide (i9<n8) then
 (idx x0 i9).bind fun x9=>
 (F99 n x9 dR ij ig).bind fun x13=>
 some (i9,x13.1==0,x13.2.1,x13.2.2)
 else
 some (i9,false,ij,ig)
theorem aje (n:Nat):K6 (A97 [1,1,1,1]) Ir (Cm n):=fun x0 dR n8 i9 ij ig r h=>
 ie h (fun c0 h=>
 be h fun x9 hx9 h=>
 be h fun x13 bY h=>
 rr h [(3,eb c0),(4,R42.idx hx9),(2,.call (Z2 n bY) [] [(100200,2),(100201,3)] [])]) (fun c0 h=>
 rr h [(3,eb c0)])
def SG (n:Nat) (x0:Wq9) (dR:Wq2) (xV:af) (xU:aB):Option (Int×Bool×af×aB):=
 ya (Cm n) n x0 dR (x0.length:Int) 0 (x0.length:Int) xV xU
theorem ajd (n:Nat):K4 (A97 []) TL (SG n):=fun x0 dR xV xU r h=>
 ra (acu (aje n) n h) [(3,.eqv (R42.ax x0))]
def F97 (n:Nat) (x0:Wq9) (dR:Wq2) (xV:af) (xU:aB):Option (Int×Bool×af×aB):=SG n x0 dR xV xU
theorem En (n:Nat):K4 C97 TL (F97 n):=fun _ _ _ _ _ h=>ca (X:=x97) (ajd n h)
def aaZ (r:Wq2):AV:=.slice 65 3 (aL r)
def VK (r:Wq2):List (Nat×Bx):= []
def x98:=fx E0 Tryz.f98 [] []
def A98:=Ax x98 aaZ VK
def C98:=Cx E0 98 aaZ VK
def TK (s0:af) (c1:aB):LS:=⟨[(0,.agg (ba s0)),(1,.agg (dW c1))],[]⟩
def SF (n:Nat) (s0:af) (c1:aB):Option Wq2:=
 if decide (0<(c1.cC.length:Int)) then
 (F71 n s0 c1.aq c1.cC).bind fun x13=>
 some x13
 else
 (F71 n s0 c1.aq c1.ea).bind fun x13=>
 some x13
theorem ajc (n:Nat):K2 (A98 []) TK (SF n):=fun s0 c1 r h=>
 ie h (fun c0 h=>
 be h fun x13 bY h=>
 rr h [(5,.eqv (R64.ax c1.cC)),(0,eb c0),(5,.call (qV n bY) [] [] [])]) (fun c0 h=>
 be h fun x13 bY h=>
 rr h [(5,.eqv (R64.ax c1.cC)),(0,eb c0),(5,.call (qV n bY) [] [] [])])
def F98 (n:Nat) (s0:af) (c1:aB):Option Wq2:=SF n s0 c1
theorem Em (n:Nat):K2 C98 TK (F98 n):=fun _ _ _ h=>ca (X:=x98) (ajc n h)
def abC (r:(Wq9×Bool)):AV:=.tup [.slice 43 1 (bu r.1),.bool r.2]
def Wd (r:(Wq9×Bool)):List (Nat×Bx):= []
def x59:=fx E0 Tryz.f59 [] []
def A59:=Ax x59 abC Wd
def C59:=Cx E0 59 abC Wd
def afO (gX ky:Wq9):LS:=⟨[(10,.slice 43 1 (bu gX)),(11,.slx 43 1 (bu ky))],[]⟩
def afN (gX ky:Wq9) (b5:aB):LS:=⟨[(5,.loc 5 0),(10,.slf 43 1 (bu gX)),(11,.slx 43 1 (bu ky))],[(5,.flat 104 (dW b5))]⟩
def afM (jr:Wq9) (i8:Int) (BI:Bool) (b5:aB):LS:=⟨[(1,.slice 43 1 (bu jr)),(5,.loc 5 0),(8,.int .i64 i8),(9,.bool BI)],[(5,.flat 104 (dW b5))]⟩
def Ul (s0:af) (jr:Wq9) (c2:aB):LS:=⟨[(0,.agg (ba s0)),(1,.slice 43 1 (bu jr)),(2,.agg (dW c2))],[]⟩
def Cv (n:Nat) (gX ky:Wq9):Option (Wq9×Bool):=
 (lj gX (gX.length:Int) (gX.length:Int)).bind fun x6=>
 if ky.isEmpty then
 some (x6,true)
 else
 (app x6 ky).bind fun x9=>
 some (x9,true)
theorem adQ (n:Nat):K2 (A59 [1,1,1,1,1,1]) afO (Cv n):=fun gX ky r h=>
 be h fun x6 hx6 h=>
 ie h (fun c0 h=>
 rr h [(2,.eqv (R42.ax gX)),(1,.eqv (R42.ax gX)),(0,R42.lj hx6),(1,R42.B6 (List.isEmpty_iff.1 c0) .dat),(2,.norm [(6,.one (.sl 0 0))] [])]) (fun c0 h=>
 be h fun x9 hx9 h=>
 rr h [(2,.eqv (R42.ax gX)),(1,.eqv (R42.ax gX)),(0,R42.lj hx6),(1,R42.EG hx9 (agC c0) .dat),(2,R42.frz 69 x9),(0,.norm [(6,.one (.sl 0 0))] [])])
def Cu (n:Nat) (gX ky:Wq9) (b5:aB):Option (Wq9×Bool):=
 if decide (0<(b5.ea.length:Int)) then
 (F56 n b5.ea).bind fun x8=>
 (app gX [x8]).bind fun x11=>
 Cv n x11 ky
 else
 Cv n gX ky
theorem adP (n:Nat):K3 (A59 [1,1,1,1,1]) afN (Cu n):=fun gX ky b5 r h=>
 ie h (fun c0 h=>
 be h fun x8 hx8 h=>
 be h fun x11 ct h=>
 ra (adQ n h) [(2,.eqv (R64.ax b5.ea)),(0,eb c0),(3,.call (Z6 n hx8) [] [] [(59,200000)]),(0,R64.frz 59 x8),(0,.norm [(59,.one (.sl 0 0))] []),(1,R42.EG ct (List.cons_ne_nil _ _) (R42.srW [x8])),(1,R42.frz 61 x11)]) (fun c0 h=>
 ra (adQ n h) [(2,.eqv (R64.ax b5.ea)),(0,eb c0)])
def Ct (n:Nat) (jr:Wq9) (i8:Int) (BI:Bool) (b5:aB):Option (Wq9×Bool):=
 (lj jr i8 i8).bind fun x4=>
 (cut jr (some i8) none).bind fun x8=>
 if BI then
 (cut jr (some (w64 (i8+1))) none).bind fun x16=>
 Cu n x4 x16 b5
 else
 Cu n x4 x8 b5
theorem adO (n:Nat):K4 (A59 [1,1,1]) afM (Ct n):=fun jr i8 BI b5 r h=>
 be h fun x4 hx4 h=>
 be h fun x8 hx8 h=>
 ie h (fun c0 g0=>by subst c0;exact (
 be g0 fun x16 cO g0=>
 ra (adP n g0) [(3,R42.lj hx4),(2,R42.cut hx8),(6,R42.cut cO)])) (fun c0 g0=>by subst c0;exact (
 ra (adP n g0) [(3,R42.lj hx4),(2,R42.cut hx8)]))
def S4 (n:Nat) (s0:af) (jr:Wq9) (c2:aB):Option (Wq9×Bool):=
 (F98 n s0 c2).bind fun x8=>
 (F97 n jr x8 s0 c2).bind fun x11=>
 if !(x11.2.1==(decide (0<(x11.2.2.2.cC.length:Int)))) then
 some ([],false)
 else
 if x11.2.1 then
 if !(true==(decide (0<(x11.2.2.2.cC.length:Int)))) then
 some ([],false)
 else
 (idx jr x11.1).bind fun x29=>
 (F96 n x29 x11.2.2.2.cC).bind fun x34=>
 if !x34 then
 some ([],false)
 else
 Ct n jr x11.1 true x11.2.2.2
 else
 if !(false==(decide (0<(x11.2.2.2.cC.length:Int)))) then
 some ([],false)
 else
 Ct n jr x11.1 false x11.2.2.2
theorem aki (n:Nat):K3 (A59 []) Ul (S4 n):=fun s0 jr c2 r h=>
 be h fun x8 hx8 h=>
 be h fun x11 ct h=>
 ie h (fun c0 h=>
 rr h [(7,.call (Em n hx8) [] [] []),(1,.call (En n ct) [] [(3,100200),(5,100201)] []),(8,.eqv (R64.ax x11.2.2.2.cC)),(1,eb c0),(4,.norm [(6,.one (.sl 43 1))] [])]) (fun c0 h=>
 ie h (fun c1 h=>
 ie h (fun c2_ h=>
 rr h [(7,.call (Em n hx8) [] [] []),(1,.call (En n ct) [] [(3,100200),(5,100201)] []),(2,eb c1),(5,.eqv (R64.ax x11.2.2.2.cC)),(1,eb c2_),(4,.norm [(6,.one (.sl 43 1))] [])]) (fun c2_ h=>
 be h fun x29 we h=>
 be h fun x34 uw h=>
 ie h (fun c3 h=>
 rr h [(7,.call (Em n hx8) [] [] []),(1,.call (En n ct) [] [(3,100200),(5,100201)] []),(2,eb c1),(5,.eqv (R64.ax x11.2.2.2.cC)),(1,eb c2_),(5,R42.idx we),(3,.call (Z3 n uw) [] [] []),(0,eb c3),(4,.norm [(6,.one (.sl 43 1))] [])]) (fun c3 h=>
 ra (adO n h) [(7,.call (Em n hx8) [] [] []),(1,.call (En n ct) [] [(3,100200),(5,100201)] []),(2,eb c1),(5,.eqv (R64.ax x11.2.2.2.cC)),(1,eb c2_),(5,R42.idx we),(3,.call (Z3 n uw) [] [] []),(0,eb c3)]))) (fun c1 h=>
 ie h (fun c2_ h=>
 rr h [(7,.call (Em n hx8) [] [] []),(1,.call (En n ct) [] [(3,100200),(5,100201)] []),(2,eb c1),(5,.eqv (R64.ax x11.2.2.2.cC)),(1,eb c2_),(4,.norm [(6,.one (.sl 43 1))] [])]) (fun c2_ h=>
 ra (adO n h) [(7,.call (Em n hx8) [] [] []),(1,.call (En n ct) [] [(3,100200),(5,100201)] []),(2,eb c1),(5,.eqv (R64.ax x11.2.2.2.cC)),(1,eb c2_)])))
def F59 (n:Nat) (s0:af) (jr:Wq9) (c2:aB):Option (Wq9×Bool):=S4 n s0 jr c2
theorem Z5 (n:Nat):K3 C59 Ul (F59 n):=fun _ _ _ _ h=>ca (X:=x59) (aki n h)
def acf (r:(ah×Int)):AV:=.tup [.agg (eg r.1),.int .i64 r.2]
def WI (r:(ah×Int)):List (Nat×Bx):= []
def x20:=fx E0 Tryz.f20 [] []
def A20:=Ax x20 acf WI
def C20:=Cx E0 20 acf WI
def Jp (aP:Int) (bN:Wq5) (t12:Int) (t35:aF) (t36 t37:Int) (t42:Wq9) (t43 t44:Int) (b4:af) (b8 b11:ah) (b32:aF) (b59:Wq9):LS:=⟨[(1,.int .i64 aP),(3,.slice 104 3 (gG bN)),(4,.loc 4 0),(8,.loc 8 0),(11,.loc 11 0),(12,.int .i64 t12),(35,.slice 66 1 (dw t35)),(36,.int .i64 t36),(37,.int .i64 t37),(42,.slice 43 1 (bu t42)),(43,.int .i64 t43),(44,.int .i64 t44)],[(4,.flat 26 (ba b4)),(8,.flat 33 [.aT]),(11,.flat 33 [.ms 32 1 0 b32.length]),(32,.hole 66 1 ((td b32).set (0+(t12).toNat) [.undef]) ((0+(t12).toNat)*1+0) (.ms 59 1 0 b59.length)),(59,.rows true 43 1 (bu b59))]⟩
def Jo (aP:Int) (bN:Wq5) (t12:Int) (t35:aF) (t36 t37:Int) (b4:af) (b8 b11:ah) (b32:aF) (b59:Wq9):LS:=⟨[(1,.int .i64 aP),(3,.slice 104 3 (gG bN)),(4,.loc 4 0),(8,.loc 8 0),(11,.loc 11 0),(12,.int .i64 t12),(35,.slice 66 1 (dw t35)),(36,.int .i64 t36),(37,.int .i64 t37)],[(4,.flat 26 (ba b4)),(8,.flat 33 [.aT]),(11,.flat 33 [.ms 32 1 0 b32.length]),(32,.hole 66 1 ((td b32).set (0+(t12).toNat) [.undef]) ((0+(t12).toNat)*1+0) (.ms 59 1 0 b59.length)),(59,.rows true 43 1 (bu b59))]⟩
def AL (aP:Int) (bN:Wq5) (t35:aF) (t36 t37:Int) (b4:af) (b8 b11:ah) (b32:aF):LS:=⟨[(1,.int .i64 aP),(3,.slice 104 3 (gG bN)),(4,.loc 4 0),(8,.loc 8 0),(11,.loc 11 0),(35,.slice 66 1 (dw t35)),(36,.int .i64 t36),(37,.int .i64 t37)],[(4,.flat 26 (ba b4)),(8,.flat 33 [.aT]),(11,.flat 33 [.ms 32 1 0 b32.length]),(32,.rows false 66 1 (td b32))]⟩
def Jn (aP nD:Int) (t65:Wq5) (t66 t67:Int) (b4:af) (b8 b11:ah) (b32:aF):LS:=⟨[(1,.int .i64 aP),(4,.loc 4 0),(8,.loc 8 0),(11,.loc 11 0),(16,.int .i64 nD),(65,.slice 104 3 (gG t65)),(66,.int .i64 t66),(67,.int .i64 t67)],[(4,.flat 26 (ba b4)),(8,.flat 33 [.aT]),(11,.flat 33 [.ms 32 1 0 b32.length]),(32,.rows false 66 1 (dw b32))]⟩
def Jm (b8 b11:ah) (b32:aF):LS:=⟨[(8,.loc 8 0),(11,.loc 11 0)],[(8,.flat 33 [.aT]),(11,.flat 33 [.ms 32 1 0 b32.length]),(32,.rows false 66 1 (dw b32))]⟩
def Jl (aP:Int) (bN:Wq5) (b4:af) (b8 b11:ah) (b32:aF):LS:=⟨[(1,.int .i64 aP),(3,.slice 104 3 (gG bN)),(4,.loc 4 0),(8,.loc 8 0),(11,.loc 11 0)],[(4,.flat 26 (ba b4)),(8,.flat 33 [.aT]),(11,.flat 33 [.ms 32 1 0 b32.length]),(32,.rows false 66 1 (td b32))]⟩
def UR (s0:af) (aP:Int) (st2:ah) (bN:Wq5):LS:=⟨[(0,.agg (ba s0)),(1,.int .i64 aP),(2,.agg (eg st2)),(3,.slice 104 3 (gG bN))],[]⟩
def HT (k_1:Int->Wq5->Int->aF->Int->Int->af->ah->ah->aF->Wq9->Option (ah×Int)) (back:Int->Wq5->Int->aF->Int->Int->Wq9->Int->Int->af->ah->ah->aF->Wq9->Option (ah×Int)) (n:Nat) (aP:Int) (bN:Wq5) (t12:Int) (t35:aF) (t36 t37:Int) (t42:Wq9) (t43 t44:Int) (b4:af) (b8 b11:ah) (b32:aF) (b59:Wq9):Option (ah×Int):=
 if decide (t44<t43) then
 (idx t42 t44).bind fun x2=>
 (bnd b32.length t12).bind fun x12=>
 (F56 n x2).bind fun x16=>
 (app b59 [x16]).bind fun x19=>
 (bnd b32.length t12).bind fun x21=>
 (bnd b32.length t12).bind fun x23=>
 back aP bN t12 t35 t36 t37 t42 t43 (w64 (t44+1)) b4 (ah.mk []) (ah.mk b32) b32 x19
 else
 k_1 aP bN t12 t35 t36 t37 b4 (ah.mk []) (ah.mk b32) b32 b59
theorem alA {k_1} (aJ:K11 (A20 [1,1,1,0,0,1,0,1,1,1]) Jo k_1) {back} (aD:K14 (A20 [0,1,1,0,0,1,1,0,0,1,0,1,1,1]) Jp back) (n:Nat):K14 (A20 [0,1,1,0,0,1,1,0,0,1,0,1,1,1]) Jp (HT k_1 back n):=fun aP bN t12 t35 t36 t37 t42 t43 t44 b4 b8 b11 b32 b59 r h=>
 ie h (fun c0 h=>
 be h fun x2 hx2 h=>
 be h fun x12 cB h=>
 be h fun x16 cO h=>
 be h fun x19 kF h=>
 be h fun x21 iI h=>
 be h fun x23 fy h=>
 ra (aD h) [(0,eb c0),(0,R42.idx hx2),(8,qG cB),(2,.call (bl.pm (.sl 0 0) (cd (e:=65) (z:=true) (Q:=aL x16) (Z6 n cO) (R64.len x16))) [] [] []),(1,R42.app kF (R42.srW [x16])),(0,qG iI),(0,Ai.hst1 (fun _=>rfl) fy)]) (fun c0 h=>
 ra (aJ h) [(0,eb c0)])
def yw (k_1:Int->Wq5->Int->aF->Int->Int->af->ah->ah->aF->Wq9->Option (ah×Int)):Nat->Int->Wq5->Int->aF->Int->Int->Wq9->Int->Int->af->ah->ah->aF->Wq9->Option (ah×Int)
 |0,_,_,_,_,_,_,_,_,_,_,_,_,_,_=>none
 |n+1,aP,bN,t12,t35,t36,t37,t42,t43,t44,b4,b8,b11,b32,b59=>HT k_1 (yw k_1 n) n aP bN t12 t35 t36 t37 t42 t43 t44 b4 b8 b11 b32 b59
theorem ade {k_1} (aJ:K11 (A20 [1,1,1,0,0,1,0,1,1,1]) Jo k_1):∀n:Nat,K14 (A20 [0,1,1,0,0,1,1,0,0,1,0,1,1,1]) Jp (yw k_1 n)
 |0=>fun _ _ _ _ _ _ _ _ _ _ _ _ _ _ _ h=>nz h
 |n+1=>fun _ _ _ _ _ _ _ _ _ _ _ _ _ _ _ h=>alA aJ (ade aJ n) n h
def HS (k_2:Int->Wq5->aF->Int->Int->af->ah->ah->aF->Option (ah×Int)) (n:Nat) (aP:Int) (bN:Wq5) (t12:Int) (t35:aF) (t36 t37:Int) (b4:af) (b8 b11:ah) (b32:aF) (b59:Wq9):Option (ah×Int):=
 (setAt b32 (0+(t12).toNat) b59).bind fun z1=>
 k_2 aP bN t35 t36 (w64 (t37+1)) b4 (ah.mk []) (ah.mk z1) z1
theorem alz {k_2} (cS:K9 (A20 [0,1,0,1,1,1]) AL k_2) (n:Nat):K11 (A20 [1,1,1,0,0,1,0,1,1,1]) Jo (HS k_2 n):=fun aP bN t12 t35 t36 t37 b4 b8 b11 b32 b59 r h=>
 be h fun z1 hz1 h=>
 ra (cS h) [(0,R42.frz 59 b59),(0,Ai.clo1 32 (.sln 43 1 (bu b59)) hz1 rfl),(2,.beq 11 (congrArg (fun n_=>(Bx.flat 33 [.ms 32 1 0 n_])) ((dT hz1).symm)))]
def HQ (k_5:Int->Wq5->af->ah->ah->aF->Option (ah×Int)) (back:Int->Wq5->aF->Int->Int->af->ah->ah->aF->Option (ah×Int)) (n:Nat) (aP:Int) (bN:Wq5) (t35:aF) (t36 t37:Int) (b4:af) (b8 b11:ah) (b32:aF):Option (ah×Int):=
 if decide (t37<t36) then
 (idx t35 t37).bind fun x3=>
 (Bc b32 (0+(t37).toNat)).bind fun u8=>
 yw (HS back n) n aP bN t37 t35 t36 t37 x3 (x3.length:Int) 0 b4 (ah.mk []) (ah.mk b32) b32 []
 else
 k_5 aP bN b4 (ah.mk []) (ah.mk b32) b32
theorem aly {k_5} (iK:K6 (A20 [1,1,1,1]) Jl k_5) {back} (aD:K9 (A20 [0,1,0,1,1,1]) AL back) (n:Nat):K9 (A20 [0,1,0,1,1,1]) AL (HQ k_5 back n):=fun aP bN t35 t36 t37 b4 b8 b11 b32 r h=>
 ie h (fun c0 h=>
 be h fun x3 hx3 h=>
 be h fun u8 hu8 h=>
 ra (ade (alz aD n) n h) [(0,eb c0),(1,R66.idx hx3),(3,Ai.opn1 32 (Qx hu8) rfl),(0,.norm [] [(32,.hol .nl)]),(1,.eqv (R42.ax x3)),(1,.born [] [(32,0)] 59 true 43 1)]) (fun c0 h=>
 ra (iK h) [(0,eb c0)])
def vh (k_5:Int->Wq5->af->ah->ah->aF->Option (ah×Int)):Nat->Int->Wq5->aF->Int->Int->af->ah->ah->aF->Option (ah×Int)
 |0,_,_,_,_,_,_,_,_,_=>none
 |n+1,aP,bN,t35,t36,t37,b4,b8,b11,b32=>HQ k_5 (vh k_5 n) n aP bN t35 t36 t37 b4 b8 b11 b32
theorem adb {k_5} (iK:K6 (A20 [1,1,1,1]) Jl k_5):∀n:Nat,K9 (A20 [0,1,0,1,1,1]) AL (vh k_5 n)
 |0=>fun _ _ _ _ _ _ _ _ _ _ h=>nz h
 |n+1=>fun _ _ _ _ _ _ _ _ _ _ h=>aly iK (adb iK n) n h
def HP (k_4:ah->ah->aF->Option (ah×Int)) (back:Int->Int->Wq5->Int->Int->af->ah->ah->aF->Option (ah×Int)) (n:Nat) (aP nD:Int) (t65:Wq5) (t66 t67:Int) (b4:af) (b8 b11:ah) (b32:aF):Option (ah×Int):=
 if decide (t67<t66) then
 (idx t65 t67).bind fun x2=>
 (F58 n b4 aP x2).bind fun x10=>
 if !x10 then
 some ((ah.mk []),71)
 else
 (bnd b32.length x2.aq).bind fun x18=>
 (b32[0+x18]?).bind fun x20_=>
 (F59 n b4 x20_ x2).bind fun x23=>
 if !x23.2 then
 some ((ah.mk []),81)
 else
 (bnd b32.length x2.aq).bind fun x39=>
 (b32[0+x39]?).bind fun x41=>
 if decide (512<(w64 (nD+(w64 ((x23.1.length:Int) - (x41.length:Int)))))) then
 some ((ah.mk []),2)
 else
 (bnd b32.length x2.aq).bind fun x54=>
 (b32[0+x54]?).bind fun x56=>
 (setAt b32 (0+x54) x23.1).bind fun z57=>
 back aP (w64 (nD+(w64 ((x23.1.length:Int) - (x41.length:Int))))) t65 t66 (w64 (t67+1)) b4 (ah.mk []) (ah.mk z57) z57
 else
 k_4 (ah.mk []) (ah.mk b32) b32
theorem alx {k_4} (gy:K3 (A20 [1,1,1,1,1,1]) Jm k_4) {back} (aD:K9 (A20 [0,1,0,1,1,1,1,1]) Jn back) (n:Nat):K9 (A20 [0,1,0,1,1,1,1,1]) Jn (HP k_4 back n):=fun aP nD t65 t66 t67 b4 b8 b11 b32 r h=>
 ie h (fun c0 h=>
 be h fun x2 hx2 h=>
 be h fun x10 de h=>
 ie h (fun c1 h=>
 rr h [(0,eb c0),(0,sU.idx hx2),(6,.call (Rv n de) [] [] []),(0,eb c1),(3,.norm [] [(8,.flat [.sl 66 1])])]) (fun c1 h=>
 be h fun x18 iJ h=>
 be h fun x20_ l7 h=>
 be h fun x23 fy h=>
 ie h (fun c2 h=>
 rr h [(0,eb c0),(0,sU.idx hx2),(6,.call (Rv n de) [] [] []),(0,eb c1),(5,eA iJ),(0,R66.row l7),(1,.call (Z5 n fy) [] [] []),(6,eb c2),(3,.norm [] [(8,.flat [.sl 66 1])])]) (fun c2 h=>
 be h fun x39 zQ h=>
 be h fun x41 hx41 h=>
 ie h (fun c3 h=>
 rr h [(0,eb c0),(0,sU.idx hx2),(6,.call (Rv n de) [] [] []),(0,eb c1),(5,eA iJ),(0,R66.row l7),(1,.call (Z5 n fy) [] [] []),(6,eb c2),(2,.eqv (R42.ax x23.1)),(4,eA zQ),(0,R66.row hx41),(0,.eqv (R42.ax x41)),(4,eb c3),(3,.norm [] [(8,.flat [.sl 66 1])])]) (fun c3 h=>
 be h fun x54 KX h=>
 be h fun x56 oQ h=>
 be h fun z57 hz57 h=>
 ra (aD h) [(0,eb c0),(0,sU.idx hx2),(6,.call (Rv n de) [] [] []),(0,eb c1),(5,eA iJ),(0,R66.row l7),(1,.call (Z5 n fy) [] [] []),(6,eb c2),(2,.eqv (R42.ax x23.1)),(4,eA zQ),(0,R66.row hx41),(0,.eqv (R42.ax x41)),(4,eb c3),(5,eA KX),(0,R66.sto 0 [.slice 43 1 (bu x23.1)] oQ hz57 (by kernel_rfl)),(2,.beq 11 (congrArg (fun n_=>(Bx.flat 33 [.ms 32 1 0 n_])) ((dT hz57).symm)))])))) (fun c0 h=>
 ra (gy h) [(0,eb c0)])
def yv (k_4:ah->ah->aF->Option (ah×Int)):Nat->Int->Int->Wq5->Int->Int->af->ah->ah->aF->Option (ah×Int)
 |0,_,_,_,_,_,_,_,_,_=>none
 |n+1,aP,nD,t65,t66,t67,b4,b8,b11,b32=>HP k_4 (yv k_4 n) n aP nD t65 t66 t67 b4 b8 b11 b32
theorem ada {k_4} (gy:K3 (A20 [1,1,1,1,1,1]) Jm k_4):∀n:Nat,K9 (A20 [0,1,0,1,1,1,1,1]) Jn (yv k_4 n)
 |0=>fun _ _ _ _ _ _ _ _ _ _ h=>nz h
 |n+1=>fun _ _ _ _ _ _ _ _ _ _ h=>alx gy (ada gy n) n h
def HO (n:Nat) (b8 b11:ah) (b32:aF):Option (ah×Int):=
 some ((ah.mk b32),0)
theorem alw (n:Nat):K3 (A20 [1,1,1,1,1,1]) Jm (HO n):=fun b8 b11 b32 r h=>
 rr h [(3,R66.frz 32 b32)]
def yO (n:Nat) (aP:Int) (bN:Wq5) (b4:af) (b8 b11:ah) (b32:aF):Option (ah×Int):=
 (F57 n (ah.mk b32)).bind fun x2=>
 yv (HO n) n aP x2 bN (bN.length:Int) 0 b4 (ah.mk []) (ah.mk b32) b32
theorem alv (n:Nat):K6 (A20 [1,1,1,1]) Jl (yO n):=fun aP bN b4 b8 b11 b32 r h=>
 be h fun x2 hx2 h=>
 ra (ada (alw n) n h) [(0,.norm [] [(32,.rws [.sl 0 0])]),(0,.beq 32 (congrArg (fun q_=>Bx.rows false 66 1 q_) (Ai.rws R66 (ms:= [.sl 0 0]) (fun _=>rfl) b32))),(1,.call (bl.aiA (m:=.same) (k:=700000) (z:=false) (e:=66) (s:=1) (Q:=dw b32) (n:=b32.length) (xs:= [.agg [.ms 700000 1 0 b32.length]]) (Lt n hx2) (by kernel_rfl) (R66.len b32) (by kernel_rfl) (by kernel_rfl) (by kernel_rfl)) [] [(32,700000)] []),(2,.eqv (sU.ax bN))]
def Tw (n:Nat) (s0:af) (aP:Int) (st2:ah) (bN:Wq5):Option (ah×Int):=
 (F28 n s0 aP st2).bind fun x8=>
 if x8 !=0 then
 some ((ah.mk []),x8)
 else
 (kg (st2.ag.length:Int) ([]:Wq9)).bind fun x16=>
 vh (yO n) n aP bN st2.ag (st2.ag.length:Int) 0 s0 (ah.mk []) (ah.mk x16) x16
theorem alu (n:Nat):K4 (A20 []) UR (Tw n):=fun s0 aP st2 bN r h=>
 be h fun x8 hx8 h=>
 ie h (fun c0 h=>
 rr h [(7,.call (qW n hx8) [] [] []),(2,eb c0),(4,.norm [] [(8,.flat [.sl 66 1])])]) (fun c0 h=>
 be h fun x16 cO h=>
 ra (adb (alv n) n h) [(7,.call (qW n hx8) [] [] []),(2,eb c0),(2,.eqv (R66.ax st2.ag)),(0,Ai.made [.aT] [.sn 43 1] cO (by kernel_rfl)),(0,.seq 32 (congrArg (fun n_=>(AV.ms 32 1 0 n_)) ((zw cO)))),(5,.eqv (R66.ax st2.ag))])
def F20 (n:Nat) (s0:af) (aP:Int) (st2:ah) (bN:Wq5):Option (ah×Int):=Tw n s0 aP st2 bN
theorem Z9 (n:Nat):K4 C20 UR (F20 n):=fun _ _ _ _ _ h=>ca (X:=x20) (alu n h)
def res7 (r:Bool):AV:=.bool r
def aco (r:Bool):List (Nat×Bx):= []
def x7:=fx E0 Tryz.f7 [] []
def A7:=Ax x7 res7 aco
def C7:=Cx E0 7 res7 aco
def PW (gY:Wq0):LS:=⟨[(0,.slx 5 1 (nT gY))],[]⟩
def aaM (n:Nat) (gY:Wq0):Option Bool:=
 (F8 n gY 400).bind fun x3=>
 (F9 n x3).bind fun x7_=>
 (F11 n x7_.2 x7_.1 1).bind fun x13=>
 (F11 n x13.2 x7_.1 3).bind fun x17=>
 (F10 n x17.2 x7_.1 x13.1 5).bind fun x26=>
 (F25 n x7_.1 x13.1 x26.1).bind fun x32=>
 (F16 n x7_.1 x13.1 x26.1).bind fun x43=>
 (F25 n x7_.1 x17.1 x26.1).bind fun x56=>
 if x32.2 !=0 then
 some false
 else
 if x43.2.2 !=0 then
 some false
 else
 if x56.2 !=0 then
 some false
 else
 (F28 n x7_.1 3 x56.1).bind fun x77=>
 if x77 !=0 then
 some false
 else
 if x43.2.1.dI !=0 then
 (F15 n).bind fun x84=>
 some x84
 else
 (F20 n x7_.1 1 x13.1 x43.1).bind fun x87=>
 if x87.2==0 then
 (F27 n x32.1 x87.1).bind fun H9=>
 if H9 then
 (F15 n).bind fun H8=>
 some H8
 else
 some false
 else
 some false
theorem b7_0 (n:Nat):K1 (A7 []) PW (aaM n):=fun gY r h=>
 be h fun x3 hx3 h=>
 be h fun x7_ hx7 h=>
 be h fun x13 bY h=>
 be h fun x17 dZ h=>
 be h fun x26 jS h=>
 be h fun x32 nu h=>
 be h fun x43 k9 h=>
 be h fun x56 oQ h=>
 ie h (fun c0 h=>
 rr h [(2,.call (ev8 n hx3) [] [] [(18,200000)]),(2,.call (ev9 n hx7) [] [(18,0)] []),(4,.call (lh n bY) [] [(18,0)] []),(2,.call (lh n dZ) [] [(18,0)] []),(7,.call (wI n jS) [] [(18,0)] [(30,200000)]),(4,R54.frz 30 x26.1),(0,.call (ld n nu) [] [] []),(9,.call (wH n k9) [] [] [(304200,200000)]),(11,.call (ld n oQ) [] [] []),(7,eb c0)]) (fun c0 h=>
 ie h (fun c1 h=>
 rr h [(2,.call (ev8 n hx3) [] [] [(18,200000)]),(2,.call (ev9 n hx7) [] [(18,0)] []),(4,.call (lh n bY) [] [(18,0)] []),(2,.call (lh n dZ) [] [(18,0)] []),(7,.call (wI n jS) [] [(18,0)] [(30,200000)]),(4,R54.frz 30 x26.1),(0,.call (ld n nu) [] [] []),(9,.call (wH n k9) [] [] [(304200,200000)]),(11,.call (ld n oQ) [] [] []),(7,eb c0),(2,eb c1)]) (fun c1 h=>
 ie h (fun c2 h=>
 rr h [(2,.call (ev8 n hx3) [] [] [(18,200000)]),(2,.call (ev9 n hx7) [] [(18,0)] []),(4,.call (lh n bY) [] [(18,0)] []),(2,.call (lh n dZ) [] [(18,0)] []),(7,.call (wI n jS) [] [(18,0)] [(30,200000)]),(4,R54.frz 30 x26.1),(0,.call (ld n nu) [] [] []),(9,.call (wH n k9) [] [] [(304200,200000)]),(11,.call (ld n oQ) [] [] []),(7,eb c0),(2,eb c1),(3,eb c2)]) (fun c2 h=>
 be h fun x77 KV h=>
 ie h (fun c3 h=>
 rr h [(2,.call (ev8 n hx3) [] [] [(18,200000)]),(2,.call (ev9 n hx7) [] [(18,0)] []),(4,.call (lh n bY) [] [(18,0)] []),(2,.call (lh n dZ) [] [(18,0)] []),(7,.call (wI n jS) [] [(18,0)] [(30,200000)]),(4,R54.frz 30 x26.1),(0,.call (ld n nu) [] [] []),(9,.call (wH n k9) [] [] [(304200,200000)]),(11,.call (ld n oQ) [] [] []),(7,eb c0),(2,eb c1),(3,eb c2),(4,.call (qW n KV) [] [] []),(0,eb c3)]) (fun c3 h=>
 ie h (fun c4 h=>
 be h fun x84 hx84 h=>
 rr h [(2,.call (ev8 n hx3) [] [] [(18,200000)]),(2,.call (ev9 n hx7) [] [(18,0)] []),(4,.call (lh n bY) [] [(18,0)] []),(2,.call (lh n dZ) [] [(18,0)] []),(7,.call (wI n jS) [] [(18,0)] [(30,200000)]),(4,R54.frz 30 x26.1),(0,.call (ld n nu) [] [] []),(9,.call (wH n k9) [] [] [(304200,200000)]),(11,.call (ld n oQ) [] [] []),(7,eb c0),(2,eb c1),(3,eb c2),(4,.call (qW n KV) [] [] []),(0,eb c3),(3,eb c4),(0,.call (ev15 n hx84) [] [] [])]) (fun c4 h=>
 be h fun x87 ZF h=>
 ie h (fun c5 h=>
 be h fun H9 adp h=>
 ie h (fun c6 g0=>by subst c6;exact (
 be g0 fun H8 aiH g0=>
 rr g0 [(2,.call (ev8 n hx3) [] [] [(18,200000)]),(2,.call (ev9 n hx7) [] [(18,0)] []),(4,.call (lh n bY) [] [(18,0)] []),(2,.call (lh n dZ) [] [(18,0)] []),(7,.call (wI n jS) [] [(18,0)] [(30,200000)]),(4,R54.frz 30 x26.1),(0,.call (ld n nu) [] [] []),(9,.call (wH n k9) [] [] [(304200,200000)]),(11,.call (ld n oQ) [] [] []),(7,eb c0),(2,eb c1),(3,eb c2),(4,.call (qW n KV) [] [] []),(0,eb c3),(3,eb c4),(3,sU.frz 304200 x43.1),(0,.call (Z9 n ZF) [.one .same,.one .same,.one .same,.one (.sl 0 0)] [] []),(7,eb c5),(3,.call (ev27 n adp) [] [] []),(2,.call (ev15 n aiH) [] [] [])])) (fun c6 g0=>by subst c6;exact (
 rr g0 [(2,.call (ev8 n hx3) [] [] [(18,200000)]),(2,.call (ev9 n hx7) [] [(18,0)] []),(4,.call (lh n bY) [] [(18,0)] []),(2,.call (lh n dZ) [] [(18,0)] []),(7,.call (wI n jS) [] [(18,0)] [(30,200000)]),(4,R54.frz 30 x26.1),(0,.call (ld n nu) [] [] []),(9,.call (wH n k9) [] [] [(304200,200000)]),(11,.call (ld n oQ) [] [] []),(7,eb c0),(2,eb c1),(3,eb c2),(4,.call (qW n KV) [] [] []),(0,eb c3),(3,eb c4),(3,sU.frz 304200 x43.1),(0,.call (Z9 n ZF) [.one .same,.one .same,.one .same,.one (.sl 0 0)] [] []),(7,eb c5),(3,.call (ev27 n adp) [] [] [])]))) (fun c5 h=>
 rr h [(2,.call (ev8 n hx3) [] [] [(18,200000)]),(2,.call (ev9 n hx7) [] [(18,0)] []),(4,.call (lh n bY) [] [(18,0)] []),(2,.call (lh n dZ) [] [(18,0)] []),(7,.call (wI n jS) [] [(18,0)] [(30,200000)]),(4,R54.frz 30 x26.1),(0,.call (ld n nu) [] [] []),(9,.call (wH n k9) [] [] [(304200,200000)]),(11,.call (ld n oQ) [] [] []),(7,eb c0),(2,eb c1),(3,eb c2),(4,.call (qW n KV) [] [] []),(0,eb c3),(3,eb c4),(3,sU.frz 304200 x43.1),(0,.call (Z9 n ZF) [.one .same,.one .same,.one .same,.one (.sl 0 0)] [] []),(7,eb c5)]))))))
def F7 (n:Nat) (gY:Wq0):Option Bool:=aaM n gY
theorem ev7 (n:Nat):K1 C7 PW (F7 n):=fun _ _ h=>ca (X:=x7) (b7_0 n h)
def Sj (t:TypeId):Bool:= [5,22].contains t
theorem ain (t:TypeId) (h:Sj t=true):vw Tryz.prog Sj t=true:=by
 have oS:([5,22].all fun t=>vw Tryz.prog Sj t)=true:=by kernel_rfl
 exact List.all_eq_true.1 oS t (List.contains_iff_mem.1 h)
theorem ty5 (n:Nat) (xs:List AV) (h:dX Tryz.prog n 5 xs):∃x,xs=LD x:=by
 match n,h with
 |n+1,h=>
  simp only[dX,Tryz.underlying5] at h;obtain ⟨x,rfl,_⟩:=h;exact ⟨x,rfl⟩
theorem ty22 (n:Nat) (xs:List AV) (h:dX Tryz.prog n 22 xs):∃x,xs= [.slx 5 1 (nT x)]:=by
 match n,h with
 |n+1,h=>
  simp only[dX,Tryz.underlying22] at h;obtain ⟨rows,rfl,hr⟩:=h;obtain ⟨y,rfl⟩:=aew fun r hr'=>ty5 n r (hr r hr')
  exact ⟨y,by rw[E5,show Tryz.prog.cellsOf 5=1 from by kernel_rfl];try rfl⟩
end Go.Proofs.YtmealahmjddpcaaGreatDoor
end
