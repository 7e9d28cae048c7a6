/- Texts that belong together. The first: Functions of the program as plain functions, and that the program answers as they do; written by a program (comp2.py). -/
import Derived.Test.YtmealahmjddpcaaGreatDoorP9
import Derived.KernelRfl
import Derived.Test.YtmealahmjddpcaaGreatDoorP8
import Derived.IntWalk
set_option linter.all false
set_option maxRecDepth 100000
noncomputable section
namespace Go.Proofs.YtmealahmjddpcaaGreatDoor
open Go.Sim
def abf (r:Wq2):AV:=.ms 200000 3 0 r.length
def VK (r:Wq2):List (Nat×Bx):= [(200000,.rows true 65 3 (aN r))]
def x62:=fx E0 Tryz.f62 [] [200000]
def A62:=Ax x62 abf VK
def C62:=Cx E0 62 abf VK
def Ug (gw:Wq2):LS:=⟨[(0,.slx 65 3 (aN gw))],[]⟩
def Tk (n:Nat) (gw:Wq2):Option Wq2:=
 (app [] gw).bind fun x3=>some x3
theorem akm (n:Nat):K1 (A62 []) Ug (Tk n):=fun gw r h=>be h fun x3 hx3 h=>rr h [(2,.born [] [] 4 true 65 3),(0,R64.app (xs:= []) hx3 .dat),(1,.ren 4 200000)]
def F62 (n:Nat) (gw:Wq2):Option Wq2:=Tk n gw
theorem ZH (n:Nat):K1 C62 Ug (F62 n):=fun _ _ h=>ca (X:=x62) (akm n h)
def abd (r:(Bool×Wq8×Int×aA)):AV:=.bool r.1
def VI (r:(Bool×Wq8×Int×aA)):List (Nat×Bx):= [(1,.flat 66 [.ms 100150 1 0 r.2.1.length]),(2,.flat 3 [.int .i64 r.2.2.1]),(3,.flat 55 (dR r.2.2.2)),(100150,.rows false 43 1 (bG r.2.1))]
def x64:=fx E0 Tryz.f64 [1,2,3,100150] [1,2,3,100150]
def A64:=Ax x64 abd VI
def C64:=Cx E0 64 abd VI
def Ue (i0:Int) (t1:Wq8) (t2:Int) (t3:aA):LS:=⟨[(0,.int .i64 i0),(1,.loc 1 0),(2,.loc 2 0),(3,.loc 3 0)],[(1,.flat 66 [.ms 100150 1 0 t1.length]),(2,.flat 3 [.int .i64 t2]),(3,.flat 55 (dR t3)),(100150,.rows false 43 1 (bG t1))]⟩
def Ti (n:Nat) (i0:Int) (t1:Wq8) (t2:Int) (t3:aA):Option (Bool×Wq8×Int×aA):=
 (bnd t1.length i0).bind fun x4=>(t1[0+x4]?).bind fun x6=>(cut x6 none (some t2)).bind fun x9=>(F52 n x9 t3.aq).bind fun x13=>some (!decide (x13<0),t1,t2,t3)
theorem aki (n:Nat):K4 (A64 []) Ue (Ti n):=fun i0 t1 t2 t3 r h=>be h fun x4 hx4 h=>be h fun x6 hx6 h=>be h fun x9 hx9 h=>be h fun x13 bH h=>rr h [(3,cJ hx4),(0,R42.row hx6),(1,R64.cut hx9),(2,.call (Ei n bH) [] [] [])]
def F64 (n:Nat) (i0:Int) (t1:Wq8) (t2:Int) (t3:aA):Option (Bool×Wq8×Int×aA):=Ti n i0 t1 t2 t3
theorem ev64 (n:Nat):K4 C64 Ue (F64 n):=fun _ _ _ _ _ h=>ca (X:=x64) (aki n h)
def abe (r:(Int×Wq8×Int×aA)):AV:=.int .i64 r.1
def VJ (r:(Int×Wq8×Int×aA)):List (Nat×Bx):= [(100100,.flat 66 [.ms 100150 1 0 r.2.1.length]),(100101,.flat 3 [.int .i64 r.2.2.1]),(100102,.flat 55 (dR r.2.2.2)),(100150,.rows false 43 1 (bG r.2.1))]
def x63:=fx E0 Tryz.f63 [100100,100101,100102,100150] [100100,100101,100102,100150]
def A63:=Ax x63 abe VJ
def C63:=Cx E0 63 abe VJ
def I9 (i5 j6 il:Int) (ij:aA) (fN:Wq8):LS:=⟨[(1,.fn 64 [] [.loc 100100 0,.loc 100101 0,.loc 100102 0]),(5,.int .i64 i5),(6,.int .i64 j6)],[(100100,.flat 66 [.ms 100150 1 0 fN.length]),(100101,.flat 3 [.int .i64 il]),(100102,.flat 55 (dR ij)),(100150,.rows false 43 1 (bG fN))]⟩
def I8 (i5 il:Int) (ij:aA) (fN:Wq8):LS:=⟨[(5,.int .i64 i5)],[(100100,.flat 66 [.ms 100150 1 0 fN.length]),(100101,.flat 3 [.int .i64 il]),(100102,.flat 55 (dR ij)),(100150,.rows false 43 1 (bG fN))]⟩
def Uf (n0:Int) (uV:Wq8) (yc:Int) (yb:aA):LS:=⟨[(0,.int .i64 n0),(1,.fn 64 [] [.loc 100100 0,.loc 100101 0,.loc 100102 0])],[(100100,.flat 66 [.ms 100150 1 0 uV.length]),(100101,.flat 3 [.int .i64 yc]),(100102,.flat 55 (dR yb)),(100150,.rows false 43 1 (bG uV))]⟩
def Hj (k_1:Wf26) (back:Int->Int->Int->aA->Wq8->Option (Int×Wq8×Int×aA)) (n:Nat) (i5 j6 il:Int) (ij:aA) (fN:Wq8):Option (Int×Wq8×Int×aA):=
 if decide (i5<j6) then
 (F64 n (w64 ((Int.fdiv (IntKind.wrap .u64 (w64 (i5+j6))) 2))) fN il ij).bind fun x13=>(nr x13.2.1.length fN.length).bind fun w14=>if !x13.1 then
 back (w64 ((w64 ((Int.fdiv (IntKind.wrap .u64 (w64 (i5+j6))) 2)))+1)) j6 x13.2.2.1 x13.2.2.2 x13.2.1
 else
 back i5 (w64 ((Int.fdiv (IntKind.wrap .u64 (w64 (i5+j6))) 2))) x13.2.2.1 x13.2.2.2 x13.2.1
 else
 k_1 i5 il ij fN
theorem akl {k_1} (aD:K4 (A63 [1,1,1]) I8 k_1) {back} (ay:K5 (A63 [0,0,1,1]) I9 back) (n:Nat):K5 (A63 [0,0,1,1]) I9 (Hj k_1 back n):=fun i5 j6 il ij fN r h=>ie h (fun c0 h=>be h fun x13 bH h=>be h fun w14 hw14 h=>ie h (fun c1 h=>ra (ay h) [(2,eb c0),(9,.call (ev64 n bH) [] [(100100,1),(100101,2),(100102,3),(100150,100150)] []),(0,eb c1)]) (fun c1 h=>ra (ay h) [(2,eb c0),(9,.call (ev64 n bH) [] [(100100,1),(100101,2),(100102,3),(100150,100150)] []),(0,eb c1)])) (fun c0 h=>ra (aD h) [(2,eb c0)])
def yu (k_1:Wf26):Nat->Int->Int->Int->aA->Wq8->Option (Int×Wq8×Int×aA)
 |0,_,_,_,_,_=>none
 |n+1,i5,j6,il,ij,fN=>Hj k_1 (yu k_1 n) n i5 j6 il ij fN
theorem acx {k_1} (aD:K4 (A63 [1,1,1]) I8 k_1):∀n:Nat,K5 (A63 [0,0,1,1]) I9 (yu k_1 n)
 |0=>fun _ _ _ _ _ _ h=>nz h
 |n+1=>fun _ _ _ _ _ _ h=>akl aD (acx aD n) n h
def Hi (n:Nat) (i5 il:Int) (ij:aA) (fN:Wq8):Option (Int×Wq8×Int×aA):=
 some (i5,fN,il,ij)
theorem akk (n:Nat):K4 (A63 [1,1,1]) I8 (Hi n):=fun i5 il ij fN r h=>rr h []
def Tj (n:Nat) (n0:Int) (uV:Wq8) (yc:Int) (yb:aA):Option (Int×Wq8×Int×aA):=
 yu (Hi n) n 0 n0 yc yb uV
theorem akj (n:Nat):K4 (A63 []) Uf (Tj n):=fun n0 uV yc yb r h=>ra (acx (akk n) n h) []
def F63 (n:Nat) (n0:Int) (uV:Wq8) (yc:Int) (yb:aA):Option (Int×Wq8×Int×aA):=Tj n n0 uV yc yb
theorem ev63 (n:Nat):K4 C63 Uf (F63 n):=fun _ _ _ _ _ h=>ca (X:=x63) (akj n h)
def abc (r:Wq2):AV:=.ms 200000 3 0 r.length
def VH (r:Wq2):List (Nat×Bx):= [(200000,.rows true 65 3 (aN r))]
def x65:=fx E0 Tryz.f65 [] [200000]
def A65:=Ax x65 abc VH
def C65:=Cx E0 65 abc VH
def sE (t11:Wq0) (t12 t13:Int) (b3:aA) (b9:Wq2):LS:=⟨[(3,.loc 3 0),(5,.ms 9 3 0 b9.length),(11,.slx 3 1 (ba t11)),(12,.int .i64 t12),(13,.int .i64 t13)],[(3,.flat 55 (dR b3)),(9,.rows true 65 3 (aN b9))]⟩
def sD (b9:Wq2):LS:=⟨[(5,.ms 9 3 0 b9.length)],[(9,.rows true 65 3 (aN b9))]⟩
def Ud (gw:Wq2) (w1:aA):LS:=⟨[(0,.slx 65 3 (aN gw)),(1,.agg (dR w1))],[]⟩
def Hh (k_1:Sz) (back:Wf28) (n:Nat) (t11:Wq0) (t12 t13:Int) (b3:aA) (b9:Wq2):Option Wq2:=
 if decide (t13<t12) then
 (idx t11 t13).bind fun x3=>(idx b3.aF t13).bind fun x13=>(bnd b9.length x3).bind fun x16=>(b9[0+x16]?).bind fun x18=>(setAt b9 (0+x16) x13).bind fun z19=>back t11 t12 (w64 (t13+1)) b3 z19
 else
 k_1 b9
theorem akh {k_1} (aD:K1 (A65 [1,1,1]) sD k_1) {back} (ay:K5 (A65 [0,1,0,1,1]) sE back) (n:Nat):K5 (A65 [0,1,0,1,1]) sE (Hh k_1 back n):=fun t11 t12 t13 b3 b9 r h=>ie h (fun c0 h=>be h fun x3 hx3 h=>be h fun x13 bH h=>be h fun x16 de h=>be h fun x18 gx h=>be h fun z19 Le h=>ra (ay h) [(0,eb c0),(1,R3.idx hx3),(8,R64.idx bH),(1,cJ de),(0,R64.sto 0 (iW x13) gx Le (by kernel_rfl)),(2,.seq 5 (congrArg (fun n_=>(AV.ms 9 3 0 n_)) ((bY Le).symm)))]) (fun c0 h=>ra (aD h) [(0,eb c0)])
def yr (k_1:Sz):Nat->Wq0->Int->Int->aA->Wq2->Option Wq2
 |0,_,_,_,_,_=>none
 |n+1,t11,t12,t13,b3,b9=>Hh k_1 (yr k_1 n) n t11 t12 t13 b3 b9
theorem acw {k_1} (aD:K1 (A65 [1,1,1]) sD k_1):∀n:Nat,K5 (A65 [0,1,0,1,1]) sE (yr k_1 n)
 |0=>fun _ _ _ _ _ _ h=>nz h
 |n+1=>fun _ _ _ _ _ _ h=>akh aD (acw aD n) n h
def Hg (n:Nat) (b9:Wq2):Option Wq2:=
 some b9
theorem akg (n:Nat):K1 (A65 [1,1,1]) sD (Hg n):=fun b9 r h=>rr h [(2,.ren 9 200000)]
def Th (n:Nat) (gw:Wq2) (w1:aA):Option Wq2:=
 (F62 n gw).bind fun x4=>yr (Hg n) n w1.ah (w1.ah.length:Int) 0 w1 x4
theorem akf (n:Nat):K2 (A65 []) Ud (Th n):=fun gw w1 r h=>be h fun x4 hx4 h=>ra (acw (akg n) n h) [(3,.call (ZH n hx4) [] [] [(9,200000)]),(3,.eqv (R3.ax w1.ah))]
def F65 (n:Nat) (gw:Wq2) (w1:aA):Option Wq2:=Th n gw w1
theorem ev65 (n:Nat):K2 C65 Ud (F65 n):=fun _ _ _ h=>ca (X:=x65) (akf n h)
def abH (r:(ai×Int)):AV:=.tup [.agg (dD r.1),.int .i64 r.2]
def Wc (r:(ai×Int)):List (Nat×Bx):= []
def x25:=fx E0 Tryz.f25 [] []
def A25:=Ax x25 abH Wc
def C25:=Cx E0 25 abH Wc
def JC (bA:Wq3) (t11:Int) (t42:Wq9) (t43 t44:Int) (t49:Wq8) (t50 t51:Int) (b3:ag) (b6 b10:ai) (b39:Wq9) (bR:Wq8):LS:=⟨[(2,.slx 55 5 (cy bA)),(3,.loc 3 0),(6,.loc 6 0),(10,.loc 10 0),(11,.int .i64 t11),(42,.slx 66 1 (bN t42)),(43,.int .i64 t43),(44,.int .i64 t44),(49,.slx 43 1 (bG t49)),(50,.int .i64 t50),(51,.int .i64 t51)],[(3,.flat 26 (bj b3)),(6,.flat 33 [.aU]),(10,.flat 33 [.ms 39 1 0 b39.length]),(39,.own 66 43 1 ((gH bG b39).set (0+(t11).toNat) none) (some ((0+(t11).toNat)*1+0,.ms 800039 1 0 bR.length))),(800039,.rows false 43 1 (bG bR))]⟩
def JB (bA:Wq3) (t11:Int) (t42:Wq9) (t43 t44:Int) (b3:ag) (b6 b10:ai) (b39:Wq9) (bR:Wq8):LS:=⟨[(2,.slx 55 5 (cy bA)),(3,.loc 3 0),(6,.loc 6 0),(10,.loc 10 0),(11,.int .i64 t11),(42,.slx 66 1 (bN t42)),(43,.int .i64 t43),(44,.int .i64 t44)],[(3,.flat 26 (bj b3)),(6,.flat 33 [.aU]),(10,.flat 33 [.ms 39 1 0 b39.length]),(39,.own 66 43 1 ((gH bG b39).set (0+(t11).toNat) none) (some ((0+(t11).toNat)*1+0,.ms 800039 1 0 bR.length))),(800039,.rows false 43 1 (bG bR))]⟩
def AU (bA:Wq3) (t42:Wq9) (t43 t44:Int) (b3:ag) (b6 b10:ai) (b39:Wq9):LS:=⟨[(2,.slx 55 5 (cy bA)),(3,.loc 3 0),(6,.loc 6 0),(10,.loc 10 0),(42,.slx 66 1 (bN t42)),(43,.int .i64 t43),(44,.int .i64 t44)],[(3,.flat 26 (bj b3)),(6,.flat 33 [.aU]),(10,.flat 33 [.ms 39 1 0 b39.length]),(39,.own 66 43 1 (gH bG b39) none)]⟩
def afD (cr ji:Int) (eE:Bool) (t72:Wq3) (t73 t74 t81:Int) (t142:Bool) (b3:ag) (b6 b10:ai) (b17:aA) (b39:Wq9) (bR:Wq8):LS:=⟨[(3,.loc 3 0),(6,.loc 6 0),(10,.loc 10 0),(15,.int .i64 cr),(17,.loc 17 0),(18,.loc 18 0),(20,.int .i64 ji),(21,.bool eE),(72,.slx 55 5 (cy t72)),(73,.int .i64 t73),(74,.int .i64 t74),(81,.int .i64 t81),(142,.bool t142)],[(3,.flat 26 (bj b3)),(6,.flat 33 [.aU]),(10,.flat 33 [.ms 39 1 0 b39.length]),(17,.flat 55 (dR b17)),(18,.flat 66 [.ms 800039 1 0 bR.length]),(39,.own 66 43 1 ((gH bG b39).set (0+(t81).toNat) none) (some ((0+(t81).toNat)*1+0,.ms 800039 1 0 bR.length))),(800039,.rows false 43 1 (bG bR))]⟩
def Ur (cr:Int) (t72:Wq3) (t73 t74 t81:Int) (b3:ag) (b6 b10:ai) (b17:aA) (b39:Wq9) (bR:Wq8):LS:=⟨[(3,.loc 3 0),(6,.loc 6 0),(10,.loc 10 0),(15,.int .i64 cr),(17,.loc 17 0),(18,.loc 18 0),(72,.slx 55 5 (cy t72)),(73,.int .i64 t73),(74,.int .i64 t74),(81,.int .i64 t81)],[(3,.flat 26 (bj b3)),(6,.flat 33 [.aU]),(10,.flat 33 [.ms 39 1 0 b39.length]),(17,.flat 55 (dR b17)),(18,.flat 66 [.ms 800039 1 0 bR.length]),(39,.own 66 43 1 ((gH bG b39).set (0+(t81).toNat) none) (some ((0+(t81).toNat)*1+0,.undef))),(800039,.rows false 43 1 (bG bR))]⟩
def afC (cr ji:Int) (eE:Bool) (t72:Wq3) (t73 t74 t81:Int) (b3:ag) (b6 b10:ai) (b17:aA) (b39:Wq9) (bR:Wq8):LS:=⟨[(3,.loc 3 0),(6,.loc 6 0),(10,.loc 10 0),(15,.int .i64 cr),(17,.loc 17 0),(18,.loc 18 0),(20,.int .i64 ji),(21,.bool eE),(72,.slx 55 5 (cy t72)),(73,.int .i64 t73),(74,.int .i64 t74),(81,.int .i64 t81)],[(3,.flat 26 (bj b3)),(6,.flat 33 [.aU]),(10,.flat 33 [.ms 39 1 0 b39.length]),(17,.flat 55 (dR b17)),(18,.flat 66 [.ms 800039 1 0 bR.length]),(39,.own 66 43 1 ((gH bG b39).set (0+(t81).toNat) none) (some ((0+(t81).toNat)*1+0,.ms 800039 1 0 bR.length))),(800039,.rows false 43 1 (bG bR))]⟩
def vB (cr:Int) (t72:Wq3) (t73 t74:Int) (b3:ag) (b6 b10:ai) (b39:Wq9):LS:=⟨[(3,.loc 3 0),(6,.loc 6 0),(10,.loc 10 0),(15,.int .i64 cr),(72,.slx 55 5 (cy t72)),(73,.int .i64 t73),(74,.int .i64 t74)],[(3,.flat 26 (bj b3)),(6,.flat 33 [.aU]),(10,.flat 33 [.ms 39 1 0 b39.length]),(39,.own 66 43 1 (gH bG b39) none)]⟩
def JA (b6 b10:ai) (b39:Wq9):LS:=⟨[(6,.loc 6 0),(10,.loc 10 0)],[(6,.flat 33 [.aU]),(10,.flat 33 [.ms 39 1 0 b39.length]),(39,.own 66 43 1 (gH bG b39) none)]⟩
def Jz (bA:Wq3) (b3:ag) (b6 b10:ai) (b39:Wq9):LS:=⟨[(2,.slx 55 5 (cy bA)),(3,.loc 3 0),(6,.loc 6 0),(10,.loc 10 0)],[(3,.flat 26 (bj b3)),(6,.flat 33 [.aU]),(10,.flat 33 [.ms 39 1 0 b39.length]),(39,.own 66 43 1 (gH bG b39) none)]⟩
def AT (s0:ag) (st1:ai) (bA:Wq3):LS:=⟨[(0,.agg (bj s0)),(1,.agg (dD st1)),(2,.slx 55 5 (cy bA))],[]⟩
def H7 (k_1:Wf29) (back:Wq3->Int->Wq9->Int->Int->Wq8->Int->Int->ag->ai->ai->Wq9->Wq8->Option (ai×Int)) (n:Nat) (bA:Wq3) (t11:Int) (t42:Wq9) (t43 t44:Int) (t49:Wq8) (t50 t51:Int) (b3:ag) (b6 b10:ai) (b39:Wq9) (bR:Wq8):Option (ai×Int):=
 if decide (t51<t50) then
 (idx t49 t51).bind fun x2=>(bnd b39.length t11).bind fun x12=>(F62 n x2).bind fun x16=>(app bR [x16]).bind fun x19=>(bnd b39.length t11).bind fun x21=>back bA t11 t42 t43 t44 t49 t50 (w64 (t51+1)) b3 (ai.mk []) (ai.mk b39) b39 x19
 else
 k_1 bA t11 t42 t43 t44 b3 (ai.mk []) (ai.mk b39) b39 bR
theorem alO {k_1} (aD:K10 (A25 [1,1,1,0,0,1,0,1,1,1,1]) JB k_1) {back} (ay:K13 (A25 [0,1,1,0,0,1,1,0,0,1,0,1,1,1,1]) JC back) (n:Nat):K13 (A25 [0,1,1,0,0,1,1,0,0,1,0,1,1,1,1]) JC (H7 k_1 back n):=fun bA t11 t42 t43 t44 t49 t50 t51 b3 b6 b10 b39 bR r h=>ie h (fun c0 h=>be h fun x2 hx2 h=>be h fun x12 cM h=>be h fun x16 de h=>be h fun x19 dL h=>be h fun x21 gX h=>ra (ay h) [(0,eb c0),(0,R42.idx hx2),(8,v9 cM),(2,.call (aZ.pm (.sx 0 0) (cd (e:=65) (z:=true) (Q:=aN x16) (ZH n de) (R64.len x16))) [] [] []),(1,R42.app dL (R42.srW [x16])),(0,v9 gX)]) (fun c0 h=>ra (aD h) [(0,eb c0)])
def yK (k_1:Wf29):Nat->Wq3->Int->Wq9->Int->Int->Wq8->Int->Int->ag->ai->ai->Wq9->Wq8->Option (ai×Int)
 |0,_,_,_,_,_,_,_,_,_,_,_,_,_=>none
 |n+1,bA,t11,t42,t43,t44,t49,t50,t51,b3,b6,b10,b39,bR=>H7 k_1 (yK k_1 n) n bA t11 t42 t43 t44 t49 t50 t51 b3 b6 b10 b39 bR
theorem acX {k_1} (aD:K10 (A25 [1,1,1,0,0,1,0,1,1,1,1]) JB k_1):∀n:Nat,K13 (A25 [0,1,1,0,0,1,1,0,0,1,0,1,1,1,1]) JC (yK k_1 n)
 |0=>fun _ _ _ _ _ _ _ _ _ _ _ _ _ _ h=>nz h
 |n+1=>fun _ _ _ _ _ _ _ _ _ _ _ _ _ _ h=>alO aD (acX aD n) n h
def H6 (k_2:Wf30) (n:Nat) (bA:Wq3) (t11:Int) (t42:Wq9) (t43 t44:Int) (b3:ag) (b6 b10:ai) (b39:Wq9) (bR:Wq8):Option (ai×Int):=
 (setAt b39 (0+(t11).toNat) bR).bind fun z1=>k_2 bA t42 t43 (w64 (t44+1)) b3 (ai.mk []) (ai.mk z1) z1
theorem alN {k_2} (bS:K8 (A25 [0,1,0,1,1,1,1]) AU k_2) (n:Nat):K10 (A25 [1,1,1,0,0,1,0,1,1,1,1]) JB (H6 k_2 n):=fun bA t11 t42 t43 t44 b3 b6 b10 b39 bR r h=>be h fun z1 hz1 h=>ra (bS h) [(0,R42.tX 39 800039 hz1),(2,.beq 10 (congrArg (fun n_=>(Bx.flat 33 [.ms 39 1 0 n_])) ((bY hz1).symm)))]
def H5 (k_8:Wf31) (back:Wf30) (n:Nat) (bA:Wq3) (t42:Wq9) (t43 t44:Int) (b3:ag) (b6 b10:ai) (b39:Wq9):Option (ai×Int):=
 if decide (t44<t43) then
 (idx t42 t44).bind fun x3=>(b39[0+(t44).toNat]?).bind fun u8=>yK (H6 back n) n bA t44 t42 t43 t44 x3 (x3.length:Int) 0 b3 (ai.mk []) (ai.mk b39) b39 u8
 else
 k_8 bA b3 (ai.mk []) (ai.mk b39) b39
theorem alM {k_8} (uk:K5 (A25 [1,1,1,1,1]) Jz k_8) {back} (ay:K8 (A25 [0,1,0,1,1,1,1]) AU back) (n:Nat):K8 (A25 [0,1,0,1,1,1,1]) AU (H5 k_8 back n):=fun bA t42 t43 t44 b3 b6 b10 b39 r h=>ie h (fun c0 h=>be h fun x3 hx3 h=>be h fun u8 hu8 h=>ra (acX (alN ay n) n h) [(0,eb c0),(1,R66.idx hx3),(3,R42.r7 39 800039 hu8),(1,.eqv (R42.ax x3))]) (fun c0 h=>ra (uk h) [(0,eb c0)])
def vi (k_8:Wf31):Nat->Wq3->Wq9->Int->Int->ag->ai->ai->Wq9->Option (ai×Int)
 |0,_,_,_,_,_,_,_,_=>none
 |n+1,bA,t42,t43,t44,b3,b6,b10,b39=>H5 k_8 (vi k_8 n) n bA t42 t43 t44 b3 b6 b10 b39
theorem acW {k_8} (uk:K5 (A25 [1,1,1,1,1]) Jz k_8):∀n:Nat,K8 (A25 [0,1,0,1,1,1,1]) AU (vi k_8 n)
 |0=>fun _ _ _ _ _ _ _ _ _ h=>nz h
 |n+1=>fun _ _ _ _ _ _ _ _ _ h=>alM uk (acW uk n) n h
def lB (k_4:Int->Wq3->Int->Int->Int->ag->ai->ai->aA->Wq9->Wq8->Option (ai×Int)) (n:Nat) (cr ji:Int) (eE:Bool) (t72:Wq3) (t73 t74 t81:Int) (t142:Bool) (b3:ag) (b6 b10:ai) (b17:aA) (b39:Wq9) (bR:Wq8):Option (ai×Int):=
 if t142 then
 (bnd bR.length ji).bind fun x5=>(bR[0+x5]?).bind fun x7=>(F65 n x7 b17).bind fun x10=>(bnd bR.length ji).bind fun x12=>(bR[0+x12]?).bind fun x14=>(setAt bR (0+x12) x10).bind fun z15=>k_4 cr t72 t73 t74 t81 b3 (ai.mk []) (ai.mk b39) b17 b39 z15
 else
 if b17.fOp==3 then
 if eE then
 (gd bR.length ji).bind fun x10=>(iQ bR.length (w64 (ji+1))).bind fun x15=>(oB bR x10 ((bR.drop (0+x15)).take (bR.length - x15))).bind fun x17=>k_4 (w64 (cr - 1)) t72 t73 t74 t81 b3 (ai.mk []) (ai.mk b39) b17 b39 x17
 else
 k_4 cr t72 t73 t74 t81 b3 (ai.mk []) (ai.mk b39) b17 b39 bR
 else
 k_4 cr t72 t73 t74 t81 b3 (ai.mk []) (ai.mk b39) b17 b39 bR
theorem xV {k_4} (eN:K11 (A25 [1,1,1,1,1,1,0,0,1,1,0,0,1,0,1,1,1,1,1,1]) Ur k_4) (n:Nat):K14 (A25 [1,1,1,0,0,1,1,1,1,1,0,0,1,1,0,0,1,0,1,1,1,1,1,1]) afD (lB k_4 n):=fun cr ji eE t72 t73 t74 t81 t142 b3 b6 b10 b17 b39 bR r h=>ie h (fun c0 g0=>by subst c0;exact (
 be g0 fun x5 hx5 g0=>be g0 fun x7 hx7 g0=>be g0 fun x10 cw g0=>be g0 fun x12 cM g0=>be g0 fun x14 dU g0=>be g0 fun z15 hz15 g0=>ra (eN g0) [(4,cJ hx5),(0,R42.row hx7),(1,.call (aZ.pm (.sx 0 0) (cd (e:=65) (z:=true) (Q:=aN x10) (ev65 n cw) (R64.len x10))) [] [] []),(0,cJ cM),(0,R42.sto 0 [.slx 65 3 (aN x10)] dU hz15 (by kernel_rfl)),(0,.beq 18 (congrArg (fun n_=>(Bx.flat 66 [.ms 800039 1 0 n_])) ((bY hz15).symm))),(0,.norm [] [(39,.hol .un)])])) (fun c0 g0=>by subst c0;exact (
 ie g0 (fun c1 g0=>ie g0 (fun c2 g1=>by subst c2;exact (
 be g1 fun x10 cw g1=>be g1 fun x15 cA g1=>be g1 fun x17 gy g1=>ra (eN g1) [(2,eb c1),(6,R42.gd (xs:=bR) cw (Nat.le_of_eq rfl)),(3,R42.iQ (xs:=bR) cA (Nat.le_of_eq rfl)),(0,R42.oB gy (R42.sr (xs:=bR) (Er cA (Nat.le_of_eq rfl))))])) (fun c2 g1=>by subst c2;exact (
 ra (eN g1) [(2,eb c1),(4,.norm [] [(39,.hol .un)])]))) (fun c1 g0=>ra (eN g0) [(2,eb c1),(3,.norm [] [(39,.hol .un)])])))
def mN (k_6:aah) (n:Nat) (cr:Int) (t72:Wq3) (t73 t74 t81:Int) (b3:ag) (b6 b10:ai) (b17:aA) (b39:Wq9) (bR:Wq8):Option (ai×Int):=
 (bnd b39.length b17.au).bind fun x6=>(nr (0+(b17.au).toNat) (0+(t81).toNat)).bind fun w7=>(setAt b39 (0+(t81).toNat) bR).bind fun z10=>k_6 cr t72 t73 (w64 (t74+1)) b3 (ai.mk []) (ai.mk z10) z10
theorem uQ {k_6} (je:K8 (A25 [0,1,0,1,1,1,1,1,1]) vB k_6) (n:Nat):K11 (A25 [1,1,1,1,1,1,0,0,1,1,0,0,1,0,1,1,1,1,1,1]) Ur (mN k_6 n):=fun cr t72 t73 t74 t81 b3 b6 b10 b17 b39 bR r h=>be h fun x6 hx6 h=>be h fun w7 hw7 h=>be h fun z10 hz10 h=>ra (je h) [(5,v9 hx6),(0,.seq 180 (congrArg (fun j_=>AV.el 39 1 j_ 0) (zF hw7))),(1,R42.tX 39 800039 hz10),(2,.beq 10 (congrArg (fun n_=>(Bx.flat 33 [.ms 39 1 0 n_])) ((bY hz10).symm)))]
def nK (k_6:aah) (n:Nat) (cr ji:Int) (eE:Bool) (t72:Wq3) (t73 t74 t81:Int) (b3:ag) (b6 b10:ai) (b17:aA) (b39:Wq9) (bR:Wq8):Option (ai×Int):=
 if b17.fOp==1 then
 if !eE then
 if decide (cr<512) then
 (app bR [[]]).bind fun x15=>(iQ x15.length (w64 (ji+1))).bind fun x21=>(iQ x15.length ji).bind fun X5=>(sj x15 (0+x21) (x15.length - x21) ((x15.drop (0+X5)).take (x15.length - X5))).bind fun x27=>(F62 n b17.aF).bind fun x33=>(bnd x15.length ji).bind fun x35=>(x27[0+x35]?).bind fun x37=>(setAt x27 (0+x35) x33).bind fun z38=>mN k_6 n (w64 (cr+1)) t72 t73 t74 t81 b3 (ai.mk []) (ai.mk b39) b17 b39 z38
 else
 if b17.fOp==2 then
 lB (mN k_6 n) n cr ji eE t72 t73 t74 t81 eE b3 (ai.mk []) (ai.mk b39) b17 b39 bR
 else
 lB (mN k_6 n) n cr ji eE t72 t73 t74 t81 false b3 (ai.mk []) (ai.mk b39) b17 b39 bR
 else
 if b17.fOp==2 then
 lB (mN k_6 n) n cr ji eE t72 t73 t74 t81 eE b3 (ai.mk []) (ai.mk b39) b17 b39 bR
 else
 lB (mN k_6 n) n cr ji eE t72 t73 t74 t81 false b3 (ai.mk []) (ai.mk b39) b17 b39 bR
 else
 if b17.fOp==2 then
 lB (mN k_6 n) n cr ji eE t72 t73 t74 t81 eE b3 (ai.mk []) (ai.mk b39) b17 b39 bR
 else
 lB (mN k_6 n) n cr ji eE t72 t73 t74 t81 false b3 (ai.mk []) (ai.mk b39) b17 b39 bR
theorem adI {k_6} (je:K8 (A25 [0,1,0,1,1,1,1,1,1]) vB k_6) (n:Nat):K13 (A25 [1,1,1,1,1,0,0,1,1,0,0,1,0,1,1,1,1,1,1]) afC (nK k_6 n):=fun cr ji eE t72 t73 t74 t81 b3 b6 b10 b17 b39 bR r h=>ie h (fun c0 h=>ie h (fun c1 h=>ie h (fun c2 h=>be h fun x15 cA h=>be h fun x21 gX h=>be h fun X5 mn h=>be h fun x27 sb h=>be h fun x33 m6 h=>be h fun x35 m5 h=>be h fun x37 qt h=>be h fun z38 hz38 h=>ra (uQ je n h) [(2,eb c0),(2,eb c1),(3,eb c2),(4,.norm [] [(124,.rws [.sx 65 3])]),(0,R42.app cA (R42.srW [[]])),(4,R42.iQ (xs:=x15) gX (Nat.le_of_eq rfl)),(2,R42.iQ (xs:=x15) mn (Nat.le_of_eq rfl)),(0,R42.sj sb (R42.sr (xs:=x15) (Er mn (Nat.le_of_eq rfl)))),(4,.call (aZ.pm (.sx 0 0) (cd (e:=65) (z:=true) (Q:=aN x33) (ZH n m6) (R64.len x33))) [] [] []),(0,cJ m5),(0,R42.sto 0 [.slx 65 3 (aN x33)] qt hz38 (by kernel_rfl)),(3,.beq 18 (congrArg (fun n_=>(Bx.flat 66 [.ms 800039 1 0 n_])) (((bY hz38).trans (Z2 sb)).symm)))]) (fun c2 h=>ie h (fun c3 h=>ra (xV (uQ je n) n h) [(2,eb c0),(2,eb c1),(3,eb c2),(4,eb c3)]) (fun c3 h=>ra (xV (uQ je n) n h) [(2,eb c0),(2,eb c1),(3,eb c2),(4,eb c3)]))) (fun c1 h=>ie h (fun c2 h=>ra (xV (uQ je n) n h) [(2,eb c0),(2,eb c1),(6,eb c2)]) (fun c2 h=>ra (xV (uQ je n) n h) [(2,eb c0),(2,eb c1),(6,eb c2)]))) (fun c0 h=>ie h (fun c1 h=>ra (xV (uQ je n) n h) [(2,eb c0),(7,eb c1)]) (fun c1 h=>ra (xV (uQ je n) n h) [(2,eb c0),(7,eb c1)]))
def H4 (k_7:Sy) (back:aah) (n:Nat) (cr:Int) (t72:Wq3) (t73 t74:Int) (b3:ag) (b6 b10:ai) (b39:Wq9):Option (ai×Int):=
 if decide (t74<t73) then
 (idx t72 t74).bind fun x2=>(b39[0+(x2.au).toNat]?).bind fun u7=>(bnd b39.length x2.au).bind fun x13=>(idx b3.ae x2.au).bind fun x22=>(F63 n (u7.length:Int) u7 x22.aq x2).bind fun x31=>(nr x31.2.1.length u7.length).bind fun w32=>if decide (x31.1<(x31.2.1.length:Int)) then
 (bnd x31.2.1.length x31.1).bind fun x42=>(x31.2.1[0+x42]?).bind fun x44=>(cut x44 none (some x31.2.2.1)).bind fun x47=>(F52 n x47 x31.2.2.2.aq).bind fun x51=>nK back n cr x31.1 (x51==0) t72 t73 t74 x2.au b3 (ai.mk []) (ai.mk b39) x31.2.2.2 b39 x31.2.1
 else
 nK back n cr x31.1 false t72 t73 t74 x2.au b3 (ai.mk []) (ai.mk b39) x31.2.2.2 b39 x31.2.1
 else
 k_7 (ai.mk []) (ai.mk b39) b39
theorem alL {k_7} (uo:K3 (A25 [1,1,1,1,1,1,1]) JA k_7) {back} (ay:K8 (A25 [0,1,0,1,1,1,1,1,1]) vB back) (n:Nat):K8 (A25 [0,1,0,1,1,1,1,1,1]) vB (H4 k_7 back n):=fun cr t72 t73 t74 b3 b6 b10 b39 r h=>ie h (fun c0 h=>be h fun x2 hx2 h=>be h fun u7 hu7 h=>be h fun x13 bH h=>be h fun x22 kL h=>be h fun x31 ou h=>be h fun w32 hw32 h=>ie h (fun c1 h=>be h fun x42 mZ h=>be h fun x44 we h=>be h fun x47 hx47 h=>be h fun x51 Lh h=>ra (adI ay n h) [(0,eb c0),(0,R54.idx hx2),(3,R42.r7 39 800039 hu7),(4,v9 bH),(7,R62.idx kL),(7,.call (ev63 n ou) [] [(18,100100),(19,100101),(17,100102),(800039,100150)] []),(4,eb c1),(3,cJ mZ),(0,R42.row we),(1,R64.cut hx47),(2,.call (Ei n Lh) [] [] []),(3,.beq 39 (congrArg (fun n_=>(Bx.own 66 43 1 ((gH bG b39).set (0+(x2.au).toNat) none) (some ((0+(x2.au).toNat)*1+0,.ms 800039 1 0 n_)))) ((zF hw32).symm)))]) (fun c1 h=>ra (adI ay n h) [(0,eb c0),(0,R54.idx hx2),(3,R42.r7 39 800039 hu7),(4,v9 bH),(7,R62.idx kL),(7,.call (ev63 n ou) [] [(18,100100),(19,100101),(17,100102),(800039,100150)] []),(4,eb c1),(3,.beq 39 (congrArg (fun n_=>(Bx.own 66 43 1 ((gH bG b39).set (0+(x2.au).toNat) none) (some ((0+(x2.au).toNat)*1+0,.ms 800039 1 0 n_)))) ((zF hw32).symm)))])) (fun c0 h=>ra (uo h) [(0,eb c0)])
def nH (k_7:Sy):Nat->Int->Wq3->Int->Int->ag->ai->ai->Wq9->Option (ai×Int)
 |0,_,_,_,_,_,_,_,_=>none
 |n+1,cr,t72,t73,t74,b3,b6,b10,b39=>H4 k_7 (nH k_7 n) n cr t72 t73 t74 b3 b6 b10 b39
theorem acV {k_7} (uo:K3 (A25 [1,1,1,1,1,1,1]) JA k_7):∀n:Nat,K8 (A25 [0,1,0,1,1,1,1,1,1]) vB (nH k_7 n)
 |0=>fun _ _ _ _ _ _ _ _ _ h=>nz h
 |n+1=>fun _ _ _ _ _ _ _ _ _ h=>alL uo (acV uo n) n h
def TL (n:Nat) (b6 b10:ai) (b39:Wq9):Option (ai×Int):=
 some ((ai.mk b39),0)
theorem alK (n:Nat):K3 (A25 [1,1,1,1,1,1,1]) JA (TL n):=fun b6 b10 b39 r h=>rr h [(3,R42.DI R66 true 39 43 1 (fun _=>rfl) b39),(0,.norm [] [(6,.flat [.sx 0 0])])]
def H3 (n:Nat) (bA:Wq3) (b3:ag) (b6 b10:ai) (b39:Wq9):Option (ai×Int):=
 (F57 n (ai.mk b39)).bind fun x2=>nH (TL n) n x2 bA (bA.length:Int) 0 b3 (ai.mk []) (ai.mk b39) b39
theorem alJ (n:Nat):K5 (A25 [1,1,1,1,1]) Jz (H3 n):=fun bA b3 b6 b10 b39 r h=>be h fun x2 hx2 h=>ra (acV (alK n) n h) [(1,.call (aZ.air (m:=.sx 0 0) (k:=700000) (s:=1) (e:=66) (e':=43) (Q:=gH bG b39) (P:=bN b39) (n:=b39.length) (xs:= [.agg [.ms 700000 1 0 b39.length]]) (RM n hx2) (R42.own R66 (b:=true) (fun _=>rfl) b39) (by kernel_rfl) (Kg b39) (by kernel_rfl) (by kernel_rfl) (by kernel_rfl)) [] [(39,700000)] []),(2,.eqv (R54.ax bA))]
def TK (n:Nat) (s0:ag) (st1:ai) (bA:Wq3):Option (ai×Int):=
 (F12 n s0 bA).bind fun x7=>if x7 !=0 then
 some ((ai.mk []),x7)
 else
 (F28 n s0 3 st1).bind fun x14=>if x14 !=0 then
 some ((ai.mk []),x14)
 else
 (lE (st1.ae.length:Int) ([]:Wq8)).bind fun x22=>vi (H3 n) n bA st1.ae (st1.ae.length:Int) 0 s0 (ai.mk []) (ai.mk x22) x22
theorem alI (n:Nat):K3 (A25 []) AT (TK n):=fun s0 st1 bA r h=>be h fun x7 hx7 h=>ie h (fun c0 h=>rr h [(6,.call (ZM n hx7) [] [] []),(2,eb c0),(4,.norm [] [(6,.flat [.sx 66 1])])]) (fun c0 h=>be h fun x14 dU h=>ie h (fun c1 h=>rr h [(6,.call (ZM n hx7) [] [] []),(2,eb c0),(2,.call (ev28 n dU) [] [] []),(2,eb c1),(4,.norm [] [(6,.flat [.sx 66 1])])]) (fun c1 h=>be h fun x22 kL h=>ra (acW (alJ n) n h) [(6,.call (ZM n hx7) [] [] []),(2,eb c0),(2,.call (ev28 n dU) [] [] []),(2,eb c1),(2,.eqv (R66.ax st1.ae)),(0,RN66.made [.aU] [.sn 43 1] kL (by kernel_rfl)),(0,R42.DE RN66 39 43 1 kL rfl),(0,.seq 39 (congrArg (fun n_=>(AV.ms 39 1 0 n_)) ((J6 kL)))),(5,.eqv (R66.ax st1.ae))]))
def F25 (n:Nat) (s0:ag) (st1:ai) (bA:Wq3):Option (ai×Int):=TK n s0 st1 bA
theorem ZK (n:Nat):K3 C25 AT (F25 n):=fun _ _ _ _ h=>ca (X:=x25) (alI n h)
def UX (r:Bool):AV:=.bool r
def O0 (r:Bool):List (Nat×Bx):= []
def x112:=fx E0 Tryz.f112 [] []
def vl:=Ax x112 UX O0
def C112:=Cx E0 112 UX O0
def aef (s0:ByteArray) (i3:Int) (t49:Bool):LS:=⟨[(0,.str s0),(3,.int .i64 i3),(49,.bool t49)],[]⟩
def xv (s0:ByteArray) (i3:Int):LS:=⟨[(0,.str s0),(3,.int .i64 i3)],[]⟩
def C4:LS:=⟨[],[]⟩
def mO (k_1:ByteArray->Int->Option Bool) (n:Nat) (s0:ByteArray) (i3:Int) (t49:Bool):Option Bool:=
 if t49 then
 some false
 else
 k_1 s0 (w64 (i3+1))
theorem qH {k_1} (aD:K2 (vl [0,1,0,1,1]) xv k_1) (n:Nat):K3 (vl [1,1,0,0,1,0,0,1,0,1,1]) aef (mO k_1 n):=fun s0 i3 t49 r h=>ie h (fun c0 g0=>by subst c0;exact (
 rr g0 [])) (fun c0 g0=>by subst c0;exact (
 ra (aD g0) []))
def CB (k_2:Option Bool) (back:ByteArray->Int->Option Bool) (n:Nat) (s0:ByteArray) (i3:Int):Option Bool:=
 if decide (i3<(s0.size:Int)) then
 (wc s0 i3).bind fun x7=>if decide ((x7.toNat:Int)<97) then
 if decide ((x7.toNat:Int)<48) then
 mO back n s0 i3 ((x7.toNat:Int) !=95)
 else
 if decide (57<(x7.toNat:Int)) then
 mO back n s0 i3 ((x7.toNat:Int) !=95)
 else
 mO back n s0 i3 false
 else
 if decide (122<(x7.toNat:Int)) then
 if decide ((x7.toNat:Int)<48) then
 mO back n s0 i3 ((x7.toNat:Int) !=95)
 else
 if decide (57<(x7.toNat:Int)) then
 mO back n s0 i3 ((x7.toNat:Int) !=95)
 else
 mO back n s0 i3 false
 else
 mO back n s0 i3 false
 else
 k_2
theorem agI {k_2} (bS:K0 (vl [1,1,1]) C4 k_2) {back} (ay:K2 (vl [0,1,0,1,1]) xv back) (n:Nat):K2 (vl [0,1,0,1,1]) xv (CB k_2 back n):=fun s0 i3 r h=>ie h (fun c0 h=>be h fun x7 hx7 h=>ie h (fun c1 h=>ie h (fun c2 h=>ra (qH ay n h) [(3,eb c0),(2,.chr (fw hx7)),(2,eb c1),(4,eb c2)]) (fun c2 h=>ie h (fun c3 h=>ra (qH ay n h) [(3,eb c0),(2,.chr (fw hx7)),(2,eb c1),(4,eb c2),(2,eb c3)]) (fun c3 h=>ra (qH ay n h) [(3,eb c0),(2,.chr (fw hx7)),(2,eb c1),(4,eb c2),(2,eb c3)]))) (fun c1 h=>ie h (fun c2 h=>ie h (fun c3 h=>ra (qH ay n h) [(3,eb c0),(2,.chr (fw hx7)),(2,eb c1),(2,eb c2),(3,eb c3)]) (fun c3 h=>ie h (fun c4 h=>ra (qH ay n h) [(3,eb c0),(2,.chr (fw hx7)),(2,eb c1),(2,eb c2),(3,eb c3),(2,eb c4)]) (fun c4 h=>ra (qH ay n h) [(3,eb c0),(2,.chr (fw hx7)),(2,eb c1),(2,eb c2),(3,eb c3),(2,eb c4)]))) (fun c2 h=>ra (qH ay n h) [(3,eb c0),(2,.chr (fw hx7)),(2,eb c1),(2,eb c2)]))) (fun c0 h=>ra (bS h) [(3,eb c0)])
def od (k_2:Option Bool):Nat->ByteArray->Int->Option Bool
 |0,_,_=>none
 |n+1,s0,i3=>CB k_2 (od k_2 n) n s0 i3
theorem WD {k_2} (bS:K0 (vl [1,1,1]) C4 k_2):∀n:Nat,K2 (vl [0,1,0,1,1]) xv (od k_2 n)
 |0=>fun _ _ _ h=>nz h
 |n+1=>fun _ _ _ h=>agI bS (WD bS n) n h
def tE (n:Nat):Option Bool:=
 some true
theorem agH (n:Nat):K0 (vl [1,1,1]) C4 (tE n):=fun r h=>rr h []
def Nr (n:Nat) (s0:ByteArray):Option Bool:=
 if (s0.size:Int)==0 then
 some false
 else
 if decide (32<(s0.size:Int)) then
 some false
 else
 (wc s0 0).bind fun x12=>if decide ((x12.toNat:Int)<97) then
 some false
 else
 (wc s0 0).bind fun x18=>if decide (122<(x18.toNat:Int)) then
 some false
 else
 od (tE n) n s0 0
theorem agG (n:Nat):K1 (vl []) xw (Nr n):=fun s0 r h=>ie h (fun c0 h=>rr h [(3,eb c0)]) (fun c0 h=>ie h (fun c1 h=>rr h [(3,eb c0),(3,eb c1)]) (fun c1 h=>be h fun x12 cM h=>ie h (fun c2 h=>rr h [(3,eb c0),(3,eb c1),(3,.chr (fw cM)),(0,eb c2)]) (fun c2 h=>be h fun x18 gx h=>ie h (fun c3 h=>rr h [(3,eb c0),(3,eb c1),(3,.chr (fw cM)),(0,eb c2),(3,.chr (fw gx)),(0,eb c3)]) (fun c3 h=>ra (WD (agH n) n h) [(3,eb c0),(3,eb c1),(3,.chr (fw cM)),(0,eb c2),(3,.chr (fw gx)),(0,eb c3)]))))
def M3 (n:Nat) (s0:ByteArray):Option Bool:=Nr n s0
theorem rC (n:Nat):K1 C112 xw (M3 n):=fun _ _ h=>ca (X:=x112) (agG n h)
def aaK (r:Bool):AV:=.bool r
def Vo (r:Bool):List (Nat×Bx):= []
def x83:=fx E0 Tryz.f83 [] []
def A83:=Ax x83 aaK Vo
def C83:=Cx E0 83 aaK Vo
def IN (i1 k6:Int) (b2:ag) (b5:av):LS:=⟨[(1,.int .i64 i1),(2,.loc 2 0),(5,.loc 5 0),(6,.int .i64 k6)],[(2,.flat 26 (bj b2)),(5,.flat 63 (fE b5))]⟩
def IM (c7 k8 t53 t54:Int) (t67:Wq4) (t68:Int) (t69 t70:cP) (t71:Int) (t72:Bool) (b5:av):LS:=⟨[(5,.loc 5 0),(7,.int .i64 c7),(8,.int .i64 k8),(53,.int .i64 t53),(54,.int .i64 t54),(66,.loc 5 1),(67,.slice 77 2 (kU t67)),(68,.int .i64 t68),(69,.imm (xO t69)),(70,.imm [.int .i64 t70.aw]),(71,.int .i64 t71),(72,.bool t72),(73,.bool false)],[(5,.flat 63 (fE b5))]⟩
def IL (t53 t54:Int) (t67:Wq4) (t68:Int) (t69 t70:cP) (t71:Int) (t72:Bool) (b5:av):LS:=⟨[(5,.loc 5 0),(53,.int .i64 t53),(54,.int .i64 t54),(66,.loc 5 1),(67,.slice 77 2 (kU t67)),(68,.int .i64 t68),(69,.imm (xO t69)),(70,.imm [.int .i64 t70.aw]),(71,.int .i64 t71),(72,.bool t72),(73,.bool false)],[(5,.flat 63 (fE b5))]⟩
def AI (t53 t54:Int) (b5:av):LS:=⟨[(5,.loc 5 0),(53,.int .i64 t53),(54,.int .i64 t54)],[(5,.flat 63 (fE b5))]⟩
def IK:LS:=⟨[],[]⟩
def IJ (b5:av):LS:=⟨[(5,.loc 5 0)],[(5,.flat 63 (fE b5))]⟩
def AH (s0:ag) (i1:Int):LS:=⟨[(0,.agg (bj s0)),(1,.int .i64 i1)],[]⟩
def GS (k_5:av->Option Bool) (back:Int->Int->ag->av->Option Bool) (n:Nat) (i1 k6:Int) (b2:ag) (b5:av):Option Bool:=
 if decide (k6<i1) then
 (idx b2.ae k6).bind fun x7=>if decide (x7.bp=b5.bp) then
 some false
 else
 back i1 (w64 (k6+1)) b2 b5
 else
 k_5 b5
theorem ajn {k_5} (fk:K1 (A83 [1,1,1,1]) IJ k_5) {back} (ay:K4 (A83 [0,1,0,1,1,1]) IN back) (n:Nat):K4 (A83 [0,1,0,1,1,1]) IN (GS k_5 back n):=fun i1 k6 b2 b5 r h=>ie h (fun c0 h=>be h fun x7 hx7 h=>ie h (fun c1 h=>rr h [(2,eb c0),(3,R62.idx hx7),(4,eb c1)]) (fun c1 h=>ra (ay h) [(2,eb c0),(3,R62.idx hx7),(4,eb c1)])) (fun c0 h=>ra (fk h) [(2,eb c0)])
def yj (k_5:av->Option Bool):Nat->Int->Int->ag->av->Option Bool
 |0,_,_,_,_=>none
 |n+1,i1,k6,b2,b5=>GS k_5 (yj k_5 n) n i1 k6 b2 b5
theorem acg {k_5} (fk:K1 (A83 [1,1,1,1]) IJ k_5):∀n:Nat,K4 (A83 [0,1,0,1,1,1]) IN (yj k_5 n)
 |0=>fun _ _ _ _ _ h=>nz h
 |n+1=>fun _ _ _ _ _ h=>ajn fk (acg fk n) n h
def GR (k_2:Wf34) (back:Int->Int->Int->Int->Wq4->Int->cP->cP->Int->Bool->av->Option Bool) (n:Nat) (c7 k8 t53 t54:Int) (t67:Wq4) (t68:Int) (t69 t70:cP) (t71:Int) (t72:Bool) (b5:av):Option Bool:=
 if decide (k8<c7) then
 (idx b5.ah k8).bind fun x7=>(idx b5.ah c7).bind fun x14=>if decide (x7.bp=x14.bp) then
 some false
 else
 back c7 (w64 (k8+1)) t53 t54 t67 t68 t69 t70 t71 t72 b5
 else
 k_2 t53 t54 t67 t68 t69 t70 t71 t72 b5
theorem ajm {k_2} (bS:K9 (A83 [1,1,1,0,0,1,0,1,1,1,1]) IL k_2) {back} (ay:K11 (A83 [0,1,1,1,0,0,1,1,0,0,1,0,1,1,1,1]) IM back) (n:Nat):K11 (A83 [0,1,1,1,0,0,1,1,0,0,1,0,1,1,1,1]) IM (GR k_2 back n):=fun c7 k8 t53 t54 t67 t68 t69 t70 t71 t72 b5 r h=>ie h (fun c0 h=>be h fun x7 hx7 h=>be h fun x14 dU h=>ie h (fun c1 h=>rr h [(2,eb c0),(3,R76.idx hx7),(5,R76.idx dU),(2,eb c1)]) (fun c1 h=>ra (ay h) [(2,eb c0),(3,R76.idx hx7),(5,R76.idx dU),(2,eb c1)])) (fun c0 h=>ra (bS h) [(2,eb c0)])
def yi (k_2:Wf34):Nat->Int->Int->Int->Int->Wq4->Int->cP->cP->Int->Bool->av->Option Bool
 |0,_,_,_,_,_,_,_,_,_,_,_=>none
 |n+1,c7,k8,t53,t54,t67,t68,t69,t70,t71,t72,b5=>GR k_2 (yi k_2 n) n c7 k8 t53 t54 t67 t68 t69 t70 t71 t72 b5
theorem acf {k_2} (bS:K9 (A83 [1,1,1,0,0,1,0,1,1,1,1]) IL k_2):∀n:Nat,K11 (A83 [0,1,1,1,0,0,1,1,0,0,1,0,1,1,1,1]) IM (yi k_2 n)
 |0=>fun _ _ _ _ _ _ _ _ _ _ _ _ h=>nz h
 |n+1=>fun _ _ _ _ _ _ _ _ _ _ _ _ h=>ajm bS (acf bS n) n h
def GQ (k_3:Int->Int->av->Option Bool) (n:Nat) (t53 t54:Int) (t67:Wq4) (t68:Int) (t69 t70:cP) (t71:Int) (t72:Bool) (b5:av):Option Bool:=
 k_3 t53 (w64 (t54+1)) b5
theorem ajl {k_3} (bu:K3 (A83 [0,1,0,1,1,1,1]) AI k_3) (n:Nat):K9 (A83 [1,1,1,0,0,1,0,1,1,1,1]) IL (GQ k_3 n):=fun t53 t54 t67 t68 t69 t70 t71 t72 b5 r h=>ra (bu h) []
def GP (k_4:Option Bool) (back:Int->Int->av->Option Bool) (n:Nat) (t53 t54:Int) (b5:av):Option Bool:=
 if decide (t54<t53) then
 (idx b5.ah t54).bind fun x7=>(M3 n x7.bp).bind fun x11=>if !x11 then
 some false
 else
 (idx b5.ah t54).bind fun x18=>(M1 n x18.aw).bind fun x22=>if !x22 then
 some false
 else
 yi (GQ back n) n t54 0 t53 t54 b5.ah t54 x18 x18 x18.aw x22 b5
 else
 k_4
theorem ajk {k_4} (eN:K0 (A83 [1,1,1,1,1]) IK k_4) {back} (ay:K3 (A83 [0,1,0,1,1,1,1]) AI back) (n:Nat):K3 (A83 [0,1,0,1,1,1,1]) AI (GP k_4 back n):=fun t53 t54 b5 r h=>ie h (fun c0 h=>be h fun x7 hx7 h=>be h fun x11 cu h=>ie h (fun c1 h=>rr h [(0,eb c0),(5,R76.idx hx7),(2,.call (rC n cu) [] [] []),(0,eb c1)]) (fun c1 h=>be h fun x18 gx h=>be h fun x22 kL h=>ie h (fun c2 h=>rr h [(0,eb c0),(5,R76.idx hx7),(2,.call (rC n cu) [] [] []),(0,eb c1),(4,R76.idx gx),(2,.call (Gk n kL) [] [] []),(0,eb c2)]) (fun c2 h=>ra (acf (ajl ay n) n h) [(0,eb c0),(5,R76.idx hx7),(2,.call (rC n cu) [] [] []),(0,eb c1),(4,R76.idx gx),(2,.call (Gk n kL) [] [] []),(0,eb c2)]))) (fun c0 h=>ra (eN h) [(0,eb c0)])
def uZ (k_4:Option Bool):Nat->Int->Int->av->Option Bool
 |0,_,_,_=>none
 |n+1,t53,t54,b5=>GP k_4 (uZ k_4 n) n t53 t54 b5
theorem ace {k_4} (eN:K0 (A83 [1,1,1,1,1]) IK k_4):∀n:Nat,K3 (A83 [0,1,0,1,1,1,1]) AI (uZ k_4 n)
 |0=>fun _ _ _ _ h=>nz h
 |n+1=>fun _ _ _ _ h=>ajk eN (ace eN n) n h
def Ck (n:Nat):Option Bool:=
 some true
theorem ajj (n:Nat):K0 (A83 [1,1,1,1,1]) IK (Ck n):=fun r h=>rr h []
def GO (n:Nat) (b5:av):Option Bool:=
 uZ (Ck n) n (b5.ah.length:Int) 0 b5
theorem aji (n:Nat):K1 (A83 [1,1,1,1]) IJ (GO n):=fun b5 r h=>ra (ace (ajj n) n h) [(2,.eqv (R76.ax b5.ah))]
def S0 (n:Nat) (s0:ag) (i1:Int):Option Bool:=
 (idx s0.ae i1).bind fun x6=>(M3 n x6.bp).bind fun x13=>if !x13 then
 some false
 else
 if (x6.ah.length:Int)==0 then
 some false
 else
 if decide (x6.aq<1) then
 some false
 else
 if decide ((x6.ah.length:Int)<x6.aq) then
 some false
 else
 yj (GO n) n i1 0 s0 x6
theorem ajh (n:Nat):K2 (A83 []) AH (S0 n):=fun s0 i1 r h=>be h fun x6 hx6 h=>be h fun x13 bH h=>ie h (fun c0 h=>rr h [(5,R62.idx hx6),(5,.call (rC n bH) [] [] []),(0,eb c0)]) (fun c0 h=>ie h (fun c1 h=>rr h [(5,R62.idx hx6),(5,.call (rC n bH) [] [] []),(0,eb c0),(3,.eqv (R76.ax x6.ah)),(0,eb c1)]) (fun c1 h=>ie h (fun c2 h=>rr h [(5,R62.idx hx6),(5,.call (rC n bH) [] [] []),(0,eb c0),(3,.eqv (R76.ax x6.ah)),(0,eb c1),(4,eb c2)]) (fun c2 h=>ie h (fun c3 h=>rr h [(5,R62.idx hx6),(5,.call (rC n bH) [] [] []),(0,eb c0),(3,.eqv (R76.ax x6.ah)),(0,eb c1),(4,eb c2),(6,.eqv (R76.ax x6.ah)),(0,eb c3)]) (fun c3 h=>ra (acg (aji n) n h) [(5,R62.idx hx6),(5,.call (rC n bH) [] [] []),(0,eb c0),(3,.eqv (R76.ax x6.ah)),(0,eb c1),(4,eb c2),(6,.eqv (R76.ax x6.ah)),(0,eb c3)]))))
def F83 (n:Nat) (s0:ag) (i1:Int):Option Bool:=S0 n s0 i1
theorem ev83 (n:Nat):K2 C83 AH (F83 n):=fun _ _ _ h=>ca (X:=x83) (ajh n h)
def aaJ (r:Bool):AV:=.bool r
def Vn (r:Bool):List (Nat×Bx):= []
def x84:=fx E0 Tryz.f84 [] []
def A84:=Ax x84 aaJ Vn
def C84:=Cx E0 84 aaJ Vn
def II (t16:Wq6) (t17 t18 t27:Int) (t29:Wq1) (t30:Int) (t35:Wq0) (t36:Int) (t38:Wq1) (t40:Int) (t41 t42:av) (t43:Int) (t47:Wq0) (t48 t49:Int) (b2:ag) (b5:av) (b7:br):LS:=⟨[(2,.loc 2 0),(5,.loc 5 0),(7,.loc 7 0),(16,.slice 80 2 (iz t16)),(17,.int .i64 t17),(18,.int .i64 t18),(26,.loc 7 1),(27,.int .i64 t27),(28,.loc 2 1),(29,.slice 63 5 (dr t29)),(30,.int .i64 t30),(31,.bool false),(34,.loc 7 0),(35,.slx 3 1 (ba t35)),(36,.int .i64 t36),(37,.loc 2 1),(38,.slice 63 5 (dr t38)),(39,.loc 7 1),(40,.int .i64 t40),(41,.imm (fE t41)),(42,.imm [.int .i64 t42.aq,.slice 80 2 (iz t42.aX),.slice 84 13 (fV t42.cc)]),(43,.int .i64 t43),(44,.bool false),(47,.slx 3 1 (ba t47)),(48,.int .i64 t48),(49,.int .i64 t49)],[(2,.flat 26 (bj b2)),(5,.flat 63 (fE b5)),(7,.flat 80 (uH b7))]⟩
def IH (t16:Wq6) (t17 t18 t27:Int) (t29:Wq1) (t30:Int) (t35:Wq0) (t36:Int) (t38:Wq1) (t40:Int) (t41 t42:av) (t43:Int) (b2:ag) (b5:av) (b7:br):LS:=⟨[(2,.loc 2 0),(5,.loc 5 0),(16,.slice 80 2 (iz t16)),(17,.int .i64 t17),(18,.int .i64 t18),(26,.loc 7 1),(27,.int .i64 t27),(28,.loc 2 1),(29,.slice 63 5 (dr t29)),(30,.int .i64 t30),(31,.bool false),(34,.loc 7 0),(35,.slx 3 1 (ba t35)),(36,.int .i64 t36),(37,.loc 2 1),(38,.slice 63 5 (dr t38)),(39,.loc 7 1),(40,.int .i64 t40),(41,.imm (fE t41)),(42,.imm [.int .i64 t42.aq,.slice 80 2 (iz t42.aX),.slice 84 13 (fV t42.cc)]),(43,.int .i64 t43),(44,.bool false)],[(2,.flat 26 (bj b2)),(5,.flat 63 (fE b5)),(7,.flat 80 (uH b7))]⟩
def AG (t16:Wq6) (t17 t18:Int) (b2:ag) (b5:av):LS:=⟨[(2,.loc 2 0),(5,.loc 5 0),(16,.slice 80 2 (iz t16)),(17,.int .i64 t17),(18,.int .i64 t18)],[(2,.flat 26 (bj b2)),(5,.flat 63 (fE b5))]⟩
def IG:LS:=⟨[],[]⟩
def GN (k_1:Wf35) (back:Wq6->Int->Int->Int->Wq1->Int->Wq0->Int->Wq1->Int->av->av->Int->Wq0->Int->Int->ag->av->br->Option Bool) (n:Nat) (t16:Wq6) (t17 t18 t27:Int) (t29:Wq1) (t30:Int) (t35:Wq0) (t36:Int) (t38:Wq1) (t40:Int) (t41 t42:av) (t43:Int) (t47:Wq0) (t48 t49:Int) (b2:ag) (b5:av) (b7:br):Option Bool:=
 if decide (t49<t48) then
 (idx t47 t49).bind fun x3=>if decide (x3<0) then
 some false
 else
 if !decide (x3<(b5.ah.length:Int)) then
 some false
 else
 (idx b5.ah x3).bind fun x21=>(idx b2.ae b7.au).bind fun x29=>(idx x29.ah t49).bind fun x34=>if x21.aw !=x34.aw then
 some false
 else
 back t16 t17 t18 t27 t29 t30 t35 t36 t38 t40 t41 t42 t43 t47 t48 (w64 (t49+1)) b2 b5 b7
 else
 k_1 t16 t17 t18 t27 t29 t30 t35 t36 t38 t40 t41 t42 t43 b2 b5 b7
theorem ajg {k_1} (aD:K16 (A84 [1,1,1,0,0,1,0,1,1]) IH k_1) {back} (ay:K19 (A84 [0,1,1,1,0,0,1,1,0,0,1,0,1,1]) II back) (n:Nat):K19 (A84 [0,1,1,1,0,0,1,1,0,0,1,0,1,1]) II (GN k_1 back n):=fun t16 t17 t18 t27 t29 t30 t35 t36 t38 t40 t41 t42 t43 t47 t48 t49 b2 b5 b7 r h=>ie h (fun c0 h=>be h fun x3 hx3 h=>ie h (fun c1 h=>rr h [(0,eb c0),(1,R3.idx hx3),(4,eb c1)]) (fun c1 h=>ie h (fun c2 h=>rr h [(0,eb c0),(1,R3.idx hx3),(4,eb c1),(4,.eqv (R76.ax b5.ah)),(0,eb c2)]) (fun c2 h=>be h fun x21 gX h=>be h fun x29 m7 h=>be h fun x34 uf h=>ie h (fun c3 h=>rr h [(0,eb c0),(1,R3.idx hx3),(4,eb c1),(4,.eqv (R76.ax b5.ah)),(0,eb c2),(5,R76.idx gX),(6,R62.idx m7),(3,R76.idx uf),(2,eb c3)]) (fun c3 h=>ra (ay h) [(0,eb c0),(1,R3.idx hx3),(4,eb c1),(4,.eqv (R76.ax b5.ah)),(0,eb c2),(5,R76.idx gX),(6,R62.idx m7),(3,R76.idx uf),(2,eb c3)])))) (fun c0 h=>ra (aD h) [(0,eb c0)])
def yh (k_1:Wf35):Nat->Wq6->Int->Int->Int->Wq1->Int->Wq0->Int->Wq1->Int->av->av->Int->Wq0->Int->Int->ag->av->br->Option Bool
 |0,_,_,_,_,_,_,_,_,_,_,_,_,_,_,_,_,_,_,_=>none
 |n+1,t16,t17,t18,t27,t29,t30,t35,t36,t38,t40,t41,t42,t43,t47,t48,t49,b2,b5,b7=>GN k_1 (yh k_1 n) n t16 t17 t18 t27 t29 t30 t35 t36 t38 t40 t41 t42 t43 t47 t48 t49 b2 b5 b7
theorem acd {k_1} (aD:K16 (A84 [1,1,1,0,0,1,0,1,1]) IH k_1):∀n:Nat,K19 (A84 [0,1,1,1,0,0,1,1,0,0,1,0,1,1]) II (yh k_1 n)
 |0=>fun _ _ _ _ _ _ _ _ _ _ _ _ _ _ _ _ _ _ _ _ h=>nz h
 |n+1=>fun _ _ _ _ _ _ _ _ _ _ _ _ _ _ _ _ _ _ _ _ h=>ajg aD (acd aD n) n h
def GM (k_2:Wf36) (n:Nat) (t16:Wq6) (t17 t18 t27:Int) (t29:Wq1) (t30:Int) (t35:Wq0) (t36:Int) (t38:Wq1) (t40:Int) (t41 t42:av) (t43:Int) (b2:ag) (b5:av) (b7:br):Option Bool:=
 k_2 t16 t17 (w64 (t18+1)) b2 b5
theorem ajf {k_2} (bS:K5 (A84 [0,1,0,1,1]) AG k_2) (n:Nat):K16 (A84 [1,1,1,0,0,1,0,1,1]) IH (GM k_2 n):=fun t16 t17 t18 t27 t29 t30 t35 t36 t38 t40 t41 t42 t43 b2 b5 b7 r h=>ra (bS h) []
def GL (k_3:Option Bool) (back:Wf36) (n:Nat) (t16:Wq6) (t17 t18:Int) (b2:ag) (b5:av):Option Bool:=
 if decide (t18<t17) then
 (idx t16 t18).bind fun x2=>if decide (x2.au<0) then
 some false
 else
 if !decide (x2.au<(b2.ae.length:Int)) then
 some false
 else
 (idx b2.ae x2.au).bind fun x26=>if (x2.ah.length:Int) !=x26.aq then
 some false
 else
 yh (GM back n) n t16 t17 t18 x2.au b2.ae (b2.ae.length:Int) x2.ah (x2.ah.length:Int) b2.ae x2.au x26 x26 x26.aq x2.ah (x2.ah.length:Int) 0 b2 b5 x2
 else
 k_3
theorem aje {k_3} (bu:K0 (A84 [1,1,1]) IG k_3) {back} (ay:K5 (A84 [0,1,0,1,1]) AG back) (n:Nat):K5 (A84 [0,1,0,1,1]) AG (GL k_3 back n):=fun t16 t17 t18 b2 b5 r h=>ie h (fun c0 h=>be h fun x2 hx2 h=>ie h (fun c1 h=>rr h [(0,eb c0),(0,R79.idx hx2),(5,eb c1)]) (fun c1 h=>ie h (fun c2 h=>rr h [(0,eb c0),(0,R79.idx hx2),(5,eb c1),(5,.eqv (R62.ax b2.ae)),(0,eb c2)]) (fun c2 h=>be h fun x26 kb h=>ie h (fun c3 h=>rr h [(0,eb c0),(0,R79.idx hx2),(5,eb c1),(5,.eqv (R62.ax b2.ae)),(0,eb c2),(4,.eqv (R3.ax x2.ah)),(4,R62.idx kb),(2,eb c3)]) (fun c3 h=>ra (acd (ajf ay n) n h) [(0,eb c0),(0,R79.idx hx2),(5,eb c1),(5,.eqv (R62.ax b2.ae)),(0,eb c2),(4,.eqv (R3.ax x2.ah)),(4,R62.idx kb),(2,eb c3),(3,.eqv (R3.ax x2.ah))])))) (fun c0 h=>ra (bu h) [(0,eb c0)])
def uY (k_3:Option Bool):Nat->Wq6->Int->Int->ag->av->Option Bool
 |0,_,_,_,_,_=>none
 |n+1,t16,t17,t18,b2,b5=>GL k_3 (uY k_3 n) n t16 t17 t18 b2 b5
theorem acb {k_3} (bu:K0 (A84 [1,1,1]) IG k_3):∀n:Nat,K5 (A84 [0,1,0,1,1]) AG (uY k_3 n)
 |0=>fun _ _ _ _ _ _ h=>nz h
 |n+1=>fun _ _ _ _ _ _ h=>aje bu (acb bu n) n h
def Cj (n:Nat):Option Bool:=
 some true
theorem ajd (n:Nat):K0 (A84 [1,1,1]) IG (Cj n):=fun r h=>rr h []
def SZ (n:Nat) (s0:ag) (i1:Int):Option Bool:=
 (idx s0.ae i1).bind fun x6=>uY (Cj n) n x6.aX (x6.aX.length:Int) 0 s0 x6
theorem ajc (n:Nat):K2 (A84 []) AH (SZ n):=fun s0 i1 r h=>be h fun x6 hx6 h=>ra (acb (ajd n) n h) [(5,R62.idx hx6),(5,.eqv (R79.ax x6.aX))]
def F84 (n:Nat) (s0:ag) (i1:Int):Option Bool:=SZ n s0 i1
theorem ev84 (n:Nat):K2 C84 AH (F84 n):=fun _ _ _ h=>ca (X:=x84) (ajc n h)
def abn (r:Int):AV:=.int .i64 r
def VT (r:Int):List (Nat×Bx):= []
def x44:=fx E0 Tryz.f44 [] []
def A44:=Ax x44 abn VT
def C44:=Cx E0 44 abn VT
def Jj (t49 t50:Int) (b1:ag):LS:=⟨[(1,.loc 1 0),(49,.int .i64 t49),(50,.int .i64 t50)],[(1,.flat 26 (bj b1))]⟩
def Ji (t60 t61:Int) (b1:ag):LS:=⟨[(1,.loc 1 0),(60,.int .i64 t60),(61,.int .i64 t61)],[(1,.flat 26 (bj b1))]⟩
def Jh (i7 t71 t72:Int) (t80:Wq7) (t81 t82:Int) (b1:ag):LS:=⟨[(1,.loc 1 0),(7,.int .i64 i7),(71,.int .i64 t71),(72,.int .i64 t72),(80,.slice 84 13 (fV t80)),(81,.int .i64 t81),(82,.int .i64 t82)],[(1,.flat 26 (bj b1))]⟩
def pY (t71 t72:Int) (b1:ag):LS:=⟨[(1,.loc 1 0),(71,.int .i64 t71),(72,.int .i64 t72)],[(1,.flat 26 (bj b1))]⟩
def Jg:LS:=⟨[],[]⟩
def HF (k_9:wY) (back:EA) (n:Nat) (t16:Wq1) (t17 t18:Int) (b1:ag):Option Int:=
 if decide (t18<t17) then
 (idx t16 t18).bind fun x2=>if decide (8<(x2.ah.length:Int)) then
 some 2
 else
 if decide (4<(x2.aX.length:Int)) then
 some 2
 else
 if decide (4<(x2.cc.length:Int)) then
 some 2
 else
 back t16 t17 (w64 (t18+1)) b1
 else
 k_9 b1
theorem akP {k_9} (RA:K1 (A44 [1,1,1]) jD k_9) {back} (ay:K4 (A44 [0,1,0,1,1]) sI back) (n:Nat):K4 (A44 [0,1,0,1,1]) sI (HF k_9 back n):=fun t16 t17 t18 b1 r h=>ie h (fun c0 h=>be h fun x2 hx2 h=>ie h (fun c1 h=>rr h [(0,eb c0),(0,R62.idx hx2),(5,.eqv (R76.ax x2.ah)),(0,eb c1)]) (fun c1 h=>ie h (fun c2 h=>rr h [(0,eb c0),(0,R62.idx hx2),(5,.eqv (R76.ax x2.ah)),(0,eb c1),(3,.eqv (R79.ax x2.aX)),(0,eb c2)]) (fun c2 h=>ie h (fun c3 h=>rr h [(0,eb c0),(0,R62.idx hx2),(5,.eqv (R76.ax x2.ah)),(0,eb c1),(3,.eqv (R79.ax x2.aX)),(0,eb c2),(4,.eqv (R83.ax x2.cc)),(0,eb c3)]) (fun c3 h=>ra (ay h) [(0,eb c0),(0,R62.idx hx2),(5,.eqv (R76.ax x2.ah)),(0,eb c1),(3,.eqv (R79.ax x2.aX)),(0,eb c2),(4,.eqv (R83.ax x2.cc)),(0,eb c3)])))) (fun c0 h=>ra (RA h) [(0,eb c0)])
def yC (k_9:wY):Nat->Wq1->Int->Int->ag->Option Int
 |0,_,_,_,_=>none
 |n+1,t16,t17,t18,b1=>HF k_9 (yC k_9 n) n t16 t17 t18 b1
theorem acI {k_9} (RA:K1 (A44 [1,1,1]) jD k_9):∀n:Nat,K4 (A44 [0,1,0,1,1]) sI (yC k_9 n)
 |0=>fun _ _ _ _ _ h=>nz h
 |n+1=>fun _ _ _ _ _ h=>akP RA (acI RA n) n h
def HE (k_8:wY) (back:Ez) (n:Nat) (t49 t50:Int) (b1:ag):Option Int:=
 if decide (t50<t49) then
 (F83 n b1 t50).bind fun x6=>if !x6 then
 some 70
 else
 back t49 (w64 (t50+1)) b1
 else
 k_8 b1
theorem akO {k_8} (uk:K1 (A44 [1,1,1,1,1]) jD k_8) {back} (ay:K3 (A44 [0,1,0,1,1,1,1]) Jj back) (n:Nat):K3 (A44 [0,1,0,1,1,1,1]) Jj (HE k_8 back n):=fun t49 t50 b1 r h=>ie h (fun c0 h=>be h fun x6 hx6 h=>ie h (fun c1 h=>rr h [(0,eb c0),(4,.call (ev83 n hx6) [] [] []),(0,eb c1)]) (fun c1 h=>ra (ay h) [(0,eb c0),(4,.call (ev83 n hx6) [] [] []),(0,eb c1)])) (fun c0 h=>ra (uk h) [(0,eb c0)])
def yB (k_8:wY):Nat->Int->Int->ag->Option Int
 |0,_,_,_=>none
 |n+1,t49,t50,b1=>HE k_8 (yB k_8 n) n t49 t50 b1
theorem acH {k_8} (uk:K1 (A44 [1,1,1,1,1]) jD k_8):∀n:Nat,K3 (A44 [0,1,0,1,1,1,1]) Jj (yB k_8 n)
 |0=>fun _ _ _ _ h=>nz h
 |n+1=>fun _ _ _ _ h=>akO uk (acH uk n) n h
def HD (k_7:wY) (back:Ez) (n:Nat) (t60 t61:Int) (b1:ag):Option Int:=
 if decide (t61<t60) then
 (F84 n b1 t61).bind fun x6=>if !x6 then
 some 70
 else
 back t60 (w64 (t61+1)) b1
 else
 k_7 b1
theorem akN {k_7} (uo:K1 (A44 [1,1,1,1,1,1]) jD k_7) {back} (ay:K3 (A44 [0,1,0,1,1,1,1,1]) Ji back) (n:Nat):K3 (A44 [0,1,0,1,1,1,1,1]) Ji (HD k_7 back n):=fun t60 t61 b1 r h=>ie h (fun c0 h=>be h fun x6 hx6 h=>ie h (fun c1 h=>rr h [(0,eb c0),(4,.call (ev84 n hx6) [] [] []),(0,eb c1)]) (fun c1 h=>ra (ay h) [(0,eb c0),(4,.call (ev84 n hx6) [] [] []),(0,eb c1)])) (fun c0 h=>ra (uo h) [(0,eb c0)])
def yA (k_7:wY):Nat->Int->Int->ag->Option Int
 |0,_,_,_=>none
 |n+1,t60,t61,b1=>HD k_7 (yA k_7 n) n t60 t61 b1
theorem acG {k_7} (uo:K1 (A44 [1,1,1,1,1,1]) jD k_7):∀n:Nat,K3 (A44 [0,1,0,1,1,1,1,1]) Ji (yA k_7 n)
 |0=>fun _ _ _ _ h=>nz h
 |n+1=>fun _ _ _ _ h=>akN uo (acG uo n) n h
def HC (k_4:Ez) (back:Int->Int->Int->Wq7->Int->Int->ag->Option Int) (n:Nat) (i7 t71 t72:Int) (t80:Wq7) (t81 t82:Int) (b1:ag):Option Int:=
 if decide (t82<t81) then
 (idx t80 t82).bind fun x2=>(F32 n b1 i7).bind fun x9=>(F73 n x9 [] x2).bind fun x12=>if x12 !=0 then
 some x12
 else
 back i7 t71 t72 t80 t81 (w64 (t82+1)) b1
 else
 k_4 t71 t72 b1
theorem akM {k_4} (eN:K3 (A44 [1,1,1,0,0,1,0,1,1,1,1,1,1]) pY k_4) {back} (ay:K7 (A44 [0,1,1,0,0,1,1,0,0,1,0,1,1,1,1,1,1]) Jh back) (n:Nat):K7 (A44 [0,1,1,0,0,1,1,0,0,1,0,1,1,1,1,1,1]) Jh (HC k_4 back n):=fun i7 t71 t72 t80 t81 t82 b1 r h=>ie h (fun c0 h=>be h fun x2 hx2 h=>be h fun x9 hx9 h=>be h fun x12 cM h=>ie h (fun c1 h=>rr h [(0,eb c0),(0,R83.idx hx2),(5,.call (cd (e:=3) (z:=true) (Q:=ba x9) (kj n hx9) (R3.len x9)) [] [] []),(1,.call (RH n cM) [.one (.sx 0 0),.one (.sx 3 1)] [] []),(2,eb c1)]) (fun c1 h=>ra (ay h) [(0,eb c0),(0,R83.idx hx2),(5,.call (cd (e:=3) (z:=true) (Q:=ba x9) (kj n hx9) (R3.len x9)) [] [] []),(1,.call (RH n cM) [.one (.sx 0 0),.one (.sx 3 1)] [] []),(2,eb c1)])) (fun c0 h=>ra (eN h) [(0,eb c0)])
def yz (k_4:Ez):Nat->Int->Int->Int->Wq7->Int->Int->ag->Option Int
 |0,_,_,_,_,_,_,_=>none
 |n+1,i7,t71,t72,t80,t81,t82,b1=>HC k_4 (yz k_4 n) n i7 t71 t72 t80 t81 t82 b1
theorem acF {k_4} (eN:K3 (A44 [1,1,1,0,0,1,0,1,1,1,1,1,1]) pY k_4):∀n:Nat,K7 (A44 [0,1,1,0,0,1,1,0,0,1,0,1,1,1,1,1,1]) Jh (yz k_4 n)
 |0=>fun _ _ _ _ _ _ _ _ h=>nz h
 |n+1=>fun _ _ _ _ _ _ _ _ h=>akM eN (acF eN n) n h
def HB (k_5:Ez) (n:Nat) (t71 t72:Int) (b1:ag):Option Int:=
 k_5 t71 (w64 (t72+1)) b1
theorem akL {k_5} (fk:K3 (A44 [0,1,0,1,1,1,1,1,1]) pY k_5) (n:Nat):K3 (A44 [1,1,1,0,0,1,0,1,1,1,1,1,1]) pY (HB k_5 n):=fun t71 t72 b1 r h=>ra (fk h) []
def HA (k_6:Option Int) (back:Ez) (n:Nat) (t71 t72:Int) (b1:ag):Option Int:=
 if decide (t72<t71) then
 (idx b1.ae t72).bind fun x7=>yz (HB back n) n t72 t71 t72 x7.cc (x7.cc.length:Int) 0 b1
 else
 k_6
theorem akK {k_6} (je:K0 (A44 [1,1,1,1,1,1,1]) Jg k_6) {back} (ay:K3 (A44 [0,1,0,1,1,1,1,1,1]) pY back) (n:Nat):K3 (A44 [0,1,0,1,1,1,1,1,1]) pY (HA k_6 back n):=fun t71 t72 b1 r h=>ie h (fun c0 h=>be h fun x7 hx7 h=>ra (acF (akL ay n) n h) [(0,eb c0),(5,R62.idx hx7),(2,.eqv (R83.ax x7.cc))]) (fun c0 h=>ra (je h) [(0,eb c0)])
def ve (k_6:Option Int):Nat->Int->Int->ag->Option Int
 |0,_,_,_=>none
 |n+1,t71,t72,b1=>HA k_6 (ve k_6 n) n t71 t72 b1
theorem acE {k_6} (je:K0 (A44 [1,1,1,1,1,1,1]) Jg k_6):∀n:Nat,K3 (A44 [0,1,0,1,1,1,1,1,1]) pY (ve k_6 n)
 |0=>fun _ _ _ _ h=>nz h
 |n+1=>fun _ _ _ _ h=>akK je (acE je n) n h
def Ct (n:Nat):Option Int:=
 some 0
theorem akJ (n:Nat):K0 (A44 [1,1,1,1,1,1,1]) Jg (Ct n):=fun r h=>rr h []
def Hz (n:Nat) (b1:ag):Option Int:=
 ve (Ct n) n (b1.ae.length:Int) 0 b1
theorem akI (n:Nat):K1 (A44 [1,1,1,1,1,1]) jD (Hz n):=fun b1 r h=>ra (acE (akJ n) n h) [(2,.eqv (R62.ax b1.ae))]
def Hy (n:Nat) (b1:ag):Option Int:=
 yA (Hz n) n (b1.ae.length:Int) 0 b1
theorem akH (n:Nat):K1 (A44 [1,1,1,1,1]) jD (Hy n):=fun b1 r h=>ra (acG (akI n) n h) [(2,.eqv (R62.ax b1.ae))]
def Hx (n:Nat) (b1:ag):Option Int:=
 if decide (b1.bD<0) then
 some 70
 else
 if decide (1000<b1.bD) then
 some 70
 else
 yB (Hy n) n (b1.ae.length:Int) 0 b1
theorem akG (n:Nat):K1 (A44 [1,1,1]) jD (Hx n):=fun b1 r h=>ie h (fun c0 h=>rr h [(2,eb c0)]) (fun c0 h=>ie h (fun c1 h=>rr h [(2,eb c0),(3,eb c1)]) (fun c1 h=>ra (acH (akH n) n h) [(2,eb c0),(3,eb c1),(3,.eqv (R62.ax b1.ae))]))
def Nd (n:Nat) (s0:ag):Option Int:=
 if decide (8<(s0.ae.length:Int)) then
 some 2
 else
 yC (Hx n) n s0.ae (s0.ae.length:Int) 0 s0
theorem agt (n:Nat):K1 (A44 []) nP (Nd n):=fun s0 r h=>ie h (fun c0 h=>rr h [(4,.eqv (R62.ax s0.ae)),(0,eb c0)]) (fun c0 h=>ra (acI (akG n) n h) [(4,.eqv (R62.ax s0.ae)),(0,eb c0),(2,.eqv (R62.ax s0.ae))])
def F44 (n:Nat) (s0:ag):Option Int:=Nd n s0
theorem Ad (n:Nat):K1 C44 nP (F44 n):=fun _ _ h=>ca (X:=x44) (agt n h)
def UU (r:Wq0):AV:=.slx 3 1 (ba r)
def OY (r:Wq0):List (Nat×Bx):= []
def x114:=fx E0 Tryz.f114 [] []
def A114:=Ax x114 UU OY
def C114:=Cx E0 114 UU OY
def Np (n:Nat) (s0:ag) (aE:Int):Option Wq0:=
 (F32 n s0 aE).bind fun x5=>if x5.isEmpty then
 some []
 else
 (idx s0.ae aE).bind fun x14=>(cut x5 none (some (if 0<(if (x5.length:Int)<x14.aq then (x5.length:Int) else x14.aq) then (if (x5.length:Int)<x14.aq then (x5.length:Int) else x14.aq) else 0))).bind fun x22=>some x22
theorem agE (n:Nat):K2 (A114 []) kT (Np n):=fun s0 aE r h=>be h fun x5 hx5 h=>ie h (fun c0 h=>rr h [(4,.call (kj n hx5) [] [] [(8,200000)]),(2,R3.frz 8 x5),(0,.eqv ((R3.mU x5).trans (congrArg AV.bool c0))),(1,.norm [(4,.one (.sx 3 1))] [])]) (fun c0 h=>be h fun x14 dU h=>be h fun x22 kL h=>rr h [(4,.call (kj n hx5) [] [] [(8,200000)]),(2,R3.frz 8 x5),(0,.eqv ((R3.mU x5).trans (congrArg AV.bool c0))),(4,R62.idx dU),(3,.eqv (R3.ax x5)),(2,R3.cut kL),(1,.norm [(4,.one (.sx 0 0))] [])])
def SN (n:Nat) (s0:ag) (aE:Int):Option Wq0:=Np n s0 aE
theorem adv (n:Nat):K2 C114 kT (SN n):=fun _ _ _ h=>ca (X:=x114) (agE n h)
def aaI (r:Bool):AV:=.bool r
def Vm (r:Bool):List (Nat×Bx):= []
def x85:=fx E0 Tryz.f85 [] []
def A85:=Ax x85 aaI Vm
def C85:=Cx E0 85 aaI Vm
def IF (gV:Wq0) (t18:Wq2) (t19 t20:Int):LS:=⟨[(7,.slx 3 1 (ba gV)),(18,.slx 65 3 (aN t18)),(19,.int .i64 t19),(20,.int .i64 t20)],[]⟩
def IE:LS:=⟨[],[]⟩
def TZ (s0:ag) (aE:Int) (bO:Wq2):LS:=⟨[(0,.agg (bj s0)),(1,.int .i64 aE),(2,.slx 65 3 (aN bO))],[]⟩
def GK (k_1:Option Bool) (back:Wq0->Wq2->Int->Int->Option Bool) (n:Nat) (gV:Wq0) (t18:Wq2) (t19 t20:Int):Option Bool:=
 if decide (t20<t19) then
 (idx t18 t20).bind fun x3=>(F88 n x3).bind fun x10=>if !x10 then
 some false
 else
 (idx gV t20).bind fun x18=>if x3.aw !=x18 then
 some false
 else
 back gV t18 t19 (w64 (t20+1))
 else
 k_1
theorem ajb {k_1} (aD:K0 (A85 [1,1,1,1]) IE k_1) {back} (ay:K4 (A85 [0,1,0,1,1,1]) IF back) (n:Nat):K4 (A85 [0,1,0,1,1,1]) IF (GK k_1 back n):=fun gV t18 t19 t20 r h=>ie h (fun c0 h=>be h fun x3 hx3 h=>be h fun x10 cw h=>ie h (fun c1 h=>rr h [(0,eb c0),(1,R64.idx hx3),(5,.call (jg n cw) [] [] []),(0,eb c1)]) (fun c1 h=>be h fun x18 gx h=>ie h (fun c2 h=>rr h [(0,eb c0),(1,R64.idx hx3),(5,.call (jg n cw) [] [] []),(0,eb c1),(5,R3.idx gx),(1,eb c2)]) (fun c2 h=>ra (ay h) [(0,eb c0),(1,R64.idx hx3),(5,.call (jg n cw) [] [] []),(0,eb c1),(5,R3.idx gx),(1,eb c2)]))) (fun c0 h=>ra (aD h) [(0,eb c0)])
def yg (k_1:Option Bool):Nat->Wq0->Wq2->Int->Int->Option Bool
 |0,_,_,_,_=>none
 |n+1,gV,t18,t19,t20=>GK k_1 (yg k_1 n) n gV t18 t19 t20
theorem aca {k_1} (aD:K0 (A85 [1,1,1,1]) IE k_1):∀n:Nat,K4 (A85 [0,1,0,1,1,1]) IF (yg k_1 n)
 |0=>fun _ _ _ _ _ h=>nz h
 |n+1=>fun _ _ _ _ _ h=>ajb aD (aca aD n) n h
def GJ (n:Nat):Option Bool:=
 some true
theorem aja (n:Nat):K0 (A85 [1,1,1,1]) IE (GJ n):=fun r h=>rr h []
def SY (n:Nat) (s0:ag) (aE:Int) (bO:Wq2):Option Bool:=
 (SN n s0 aE).bind fun x5=>if (x5.length:Int) !=(bO.length:Int) then
 some false
 else
 yg (GJ n) n x5 bO (bO.length:Int) 0
theorem aiZ (n:Nat):K3 (A85 []) TZ (SY n):=fun s0 aE bO r h=>be h fun x5 hx5 h=>ie h (fun c0 h=>rr h [(4,.call (adv n hx5) [] [] []),(2,.eqv (R3.ax x5)),(1,.eqv (R64.ax bO)),(0,eb c0)]) (fun c0 h=>ra (aca (aja n) n h) [(4,.call (adv n hx5) [] [] []),(2,.eqv (R3.ax x5)),(1,.eqv (R64.ax bO)),(0,eb c0),(1,.eqv (R64.ax bO))])
def F85 (n:Nat) (s0:ag) (aE:Int) (bO:Wq2):Option Bool:=SY n s0 aE bO
theorem uC (n:Nat):K3 C85 TZ (F85 n):=fun _ _ _ _ h=>ca (X:=x85) (aiZ n h)
def aaH (r:Bool):AV:=.bool r
def Vl (r:Bool):List (Nat×Bx):= []
def x86:=fx E0 Tryz.f86 [] []
def A86:=Ax x86 aaH Vl
def C86:=Cx E0 86 aaH Vl
def afr (aE aO:Int) (t40:Wq2) (t41 t42:Int) (t83:Bool) (b4:ag):LS:=⟨[(1,.int .i64 aE),(3,.int .i64 aO),(4,.loc 4 0),(40,.slx 65 3 (aN t40)),(41,.int .i64 t41),(42,.int .i64 t42),(83,.bool t83)],[(4,.flat 26 (bj b4))]⟩
def sC (aE aO:Int) (t40:Wq2) (t41 t42:Int) (b4:ag):LS:=⟨[(1,.int .i64 aE),(3,.int .i64 aO),(4,.loc 4 0),(40,.slx 65 3 (aN t40)),(41,.int .i64 t41),(42,.int .i64 t42)],[(4,.flat 26 (bj b4))]⟩
def ID:LS:=⟨[],[]⟩
def lz (k_1:aag) (n:Nat) (aE aO:Int) (t40:Wq2) (t41 t42:Int) (t83:Bool) (b4:ag):Option Bool:=
 if t83 then
 k_1 aE aO t40 t41 t42 b4
 else
 some false
theorem pc {k_1} (aD:K6 (A86 [1,1,1,0,0,1,0,1,1]) sC k_1) (n:Nat):K7 (A86 [1,1,1,1,1,1,1,0,1,0,0,1,1,0,0,1,0,1,1]) afr (lz k_1 n):=fun aE aO t40 t41 t42 t83 b4 r h=>ie h (fun c0 g0=>by subst c0;exact (
 ra (aD g0) [])) (fun c0 g0=>by subst c0;exact (
 rr g0 []))
def jW (k_2:aag) (n:Nat) (aE aO:Int) (t40:Wq2) (t41 t42:Int) (b4:ag):Option Bool:=
 k_2 aE aO t40 t41 (w64 (t42+1)) b4
theorem mJ {k_2} (bS:K6 (A86 [0,1,0,1,1]) sC k_2) (n:Nat):K6 (A86 [1,1,1,0,0,1,0,1,1]) sC (jW k_2 n):=fun aE aO t40 t41 t42 b4 r h=>ra (bS h) []
def yW (k_3:Option Bool) (back:aag) (n:Nat) (aE aO:Int) (t40:Wq2) (t41 t42:Int) (b4:ag):Option Bool:=
 if decide (t42<t41) then
 (idx t40 t42).bind fun x3=>(F88 n x3).bind fun x10=>if !x10 then
 some false
 else
 (idx b4.ae aE).bind fun x19=>(idx x19.ah t42).bind fun x24=>if x3.aw==x24.aw then
 jW back n aE aO t40 t41 t42 b4
 else
 if x3.aw==2 then
 if aO !=1 then
 (idx b4.ae aE).bind fun x42=>if !decide (t42<x42.aq) then
 jW back n aE aO t40 t41 t42 b4
 else
 if x3.aw==1 then
 if aO==3 then
 (idx b4.ae aE).bind fun x61=>lz (jW back n) n aE aO t40 t41 t42 (!decide (t42<x61.aq)) b4
 else
 lz (jW back n) n aE aO t40 t41 t42 false b4
 else
 lz (jW back n) n aE aO t40 t41 t42 false b4
 else
 if x3.aw==1 then
 if aO==3 then
 (idx b4.ae aE).bind fun x52=>lz (jW back n) n aE aO t40 t41 t42 (!decide (t42<x52.aq)) b4
 else
 lz (jW back n) n aE aO t40 t41 t42 false b4
 else
 lz (jW back n) n aE aO t40 t41 t42 false b4
 else
 if x3.aw==1 then
 if aO==3 then
 (idx b4.ae aE).bind fun x50=>lz (jW back n) n aE aO t40 t41 t42 (!decide (t42<x50.aq)) b4
 else
 lz (jW back n) n aE aO t40 t41 t42 false b4
 else
 lz (jW back n) n aE aO t40 t41 t42 false b4
 else
 k_3
theorem aiY {k_3} (bu:K0 (A86 [1,1,1]) ID k_3) {back} (ay:K6 (A86 [0,1,0,1,1]) sC back) (n:Nat):K6 (A86 [0,1,0,1,1]) sC (yW k_3 back n):=fun aE aO t40 t41 t42 b4 r h=>ie h (fun c0 h=>be h fun x3 hx3 h=>be h fun x10 cw h=>ie h (fun c1 h=>rr h [(0,eb c0),(1,R64.idx hx3),(5,.call (jg n cw) [] [] []),(0,eb c1)]) (fun c1 h=>be h fun x19 dL h=>be h fun x24 fZ h=>ie h (fun c2 h=>ra (mJ ay n h) [(0,eb c0),(1,R64.idx hx3),(5,.call (jg n cw) [] [] []),(0,eb c1),(6,R62.idx dL),(3,R76.idx fZ),(2,eb c2)]) (fun c2 h=>ie h (fun c3 h=>ie h (fun c4 h=>be h fun x42 mZ h=>ie h (fun c5 h=>ra (mJ ay n h) [(0,eb c0),(1,R64.idx hx3),(5,.call (jg n cw) [] [] []),(0,eb c1),(6,R62.idx dL),(3,R76.idx fZ),(2,eb c2),(3,eb c3),(2,eb c4),(6,R62.idx mZ),(2,eb c5)]) (fun c5 h=>ie h (fun c6 h=>ie h (fun c7 h=>be h fun x61 Ro h=>ra (pc (mJ ay n) n h) [(0,eb c0),(1,R64.idx hx3),(5,.call (jg n cw) [] [] []),(0,eb c1),(6,R62.idx dL),(3,R76.idx fZ),(2,eb c2),(3,eb c3),(2,eb c4),(6,R62.idx mZ),(2,eb c5),(4,eb c6),(2,eb c7),(6,R62.idx Ro)]) (fun c7 h=>ra (pc (mJ ay n) n h) [(0,eb c0),(1,R64.idx hx3),(5,.call (jg n cw) [] [] []),(0,eb c1),(6,R62.idx dL),(3,R76.idx fZ),(2,eb c2),(3,eb c3),(2,eb c4),(6,R62.idx mZ),(2,eb c5),(4,eb c6),(2,eb c7)])) (fun c6 h=>ra (pc (mJ ay n) n h) [(0,eb c0),(1,R64.idx hx3),(5,.call (jg n cw) [] [] []),(0,eb c1),(6,R62.idx dL),(3,R76.idx fZ),(2,eb c2),(3,eb c3),(2,eb c4),(6,R62.idx mZ),(2,eb c5),(4,eb c6)]))) (fun c4 h=>ie h (fun c5 h=>ie h (fun c6 h=>be h fun x52 Rq h=>ra (pc (mJ ay n) n h) [(0,eb c0),(1,R64.idx hx3),(5,.call (jg n cw) [] [] []),(0,eb c1),(6,R62.idx dL),(3,R76.idx fZ),(2,eb c2),(3,eb c3),(2,eb c4),(6,eb c5),(2,eb c6),(6,R62.idx Rq)]) (fun c6 h=>ra (pc (mJ ay n) n h) [(0,eb c0),(1,R64.idx hx3),(5,.call (jg n cw) [] [] []),(0,eb c1),(6,R62.idx dL),(3,R76.idx fZ),(2,eb c2),(3,eb c3),(2,eb c4),(6,eb c5),(2,eb c6)])) (fun c5 h=>ra (pc (mJ ay n) n h) [(0,eb c0),(1,R64.idx hx3),(5,.call (jg n cw) [] [] []),(0,eb c1),(6,R62.idx dL),(3,R76.idx fZ),(2,eb c2),(3,eb c3),(2,eb c4),(6,eb c5)]))) (fun c3 h=>ie h (fun c4 h=>ie h (fun c5 h=>be h fun x50 hx50 h=>ra (pc (mJ ay n) n h) [(0,eb c0),(1,R64.idx hx3),(5,.call (jg n cw) [] [] []),(0,eb c1),(6,R62.idx dL),(3,R76.idx fZ),(2,eb c2),(3,eb c3),(7,eb c4),(2,eb c5),(6,R62.idx hx50)]) (fun c5 h=>ra (pc (mJ ay n) n h) [(0,eb c0),(1,R64.idx hx3),(5,.call (jg n cw) [] [] []),(0,eb c1),(6,R62.idx dL),(3,R76.idx fZ),(2,eb c2),(3,eb c3),(7,eb c4),(2,eb c5)])) (fun c4 h=>ra (pc (mJ ay n) n h) [(0,eb c0),(1,R64.idx hx3),(5,.call (jg n cw) [] [] []),(0,eb c1),(6,R62.idx dL),(3,R76.idx fZ),(2,eb c2),(3,eb c3),(7,eb c4)]))))) (fun c0 h=>ra (bu h) [(0,eb c0)])
def pq (k_3:Option Bool):Nat->Int->Int->Wq2->Int->Int->ag->Option Bool
 |0,_,_,_,_,_,_=>none
 |n+1,aE,aO,t40,t41,t42,b4=>yW k_3 (pq k_3 n) n aE aO t40 t41 t42 b4
theorem abZ {k_3} (bu:K0 (A86 [1,1,1]) ID k_3):∀n:Nat,K6 (A86 [0,1,0,1,1]) sC (pq k_3 n)
 |0=>fun _ _ _ _ _ _ _ h=>nz h
 |n+1=>fun _ _ _ _ _ _ _ h=>aiY bu (abZ bu n) n h
def yV (n:Nat):Option Bool:=
 some true
theorem aiX (n:Nat):K0 (A86 [1,1,1]) ID (yV n):=fun r h=>rr h []
def GI (n:Nat) (s0:ag) (aE:Int) (cm:Wq2) (aO:Int):Option Bool:=
 if decide (aO<1) then
 some false
 else
 if decide (3<aO) then
 some false
 else
 if decide (aE<0) then
 some false
 else
 if !decide (aE<(s0.ae.length:Int)) then
 some false
 else
 (idx s0.ae aE).bind fun x26=>if (cm.length:Int) !=(x26.ah.length:Int) then
 some false
 else
 pq (yV n) n aE aO cm (cm.length:Int) 0 s0
theorem aiW (n:Nat):K4 (A86 []) AM (GI n):=fun s0 aE cm aO r h=>ie h (fun c0 h=>rr h [(3,eb c0)]) (fun c0 h=>ie h (fun c1 h=>rr h [(3,eb c0),(2,eb c1)]) (fun c1 h=>ie h (fun c2 h=>rr h [(3,eb c0),(2,eb c1),(3,eb c2)]) (fun c2 h=>ie h (fun c3 h=>rr h [(3,eb c0),(2,eb c1),(3,eb c2),(5,.eqv (R62.ax s0.ae)),(0,eb c3)]) (fun c3 h=>be h fun x26 kb h=>ie h (fun c4 h=>rr h [(3,eb c0),(2,eb c1),(3,eb c2),(5,.eqv (R62.ax s0.ae)),(0,eb c3),(3,.eqv (R64.ax cm)),(3,R62.idx kb),(2,.eqv (R76.ax x26.ah)),(0,eb c4)]) (fun c4 h=>ra (abZ (aiX n) n h) [(3,eb c0),(2,eb c1),(3,eb c2),(5,.eqv (R62.ax s0.ae)),(0,eb c3),(3,.eqv (R64.ax cm)),(3,R62.idx kb),(2,.eqv (R76.ax x26.ah)),(0,eb c4),(2,.eqv (R64.ax cm))])))))
def F86 (n:Nat) (s0:ag) (aE:Int) (cm:Wq2) (aO:Int):Option Bool:=GI n s0 aE cm aO
theorem Ef (n:Nat):K4 C86 AM (F86 n):=fun _ _ _ _ _ h=>ca (X:=x86) (aiW n h)
def aaG (r:Bool):AV:=.bool r
def Vk (r:Bool):List (Nat×Bx):= []
def x87:=fx E0 Tryz.f87 [] []
def A87:=Ax x87 aaG Vk
def C87:=Cx E0 87 aaG Vk
def IC (aQ:Wq0) (lJ jw:Int) (t9:Wq0) (t10 t11:Int):LS:=⟨[(0,.slx 3 1 (ba aQ)),(1,.int .i64 lJ),(2,.int .i64 jw),(9,.slx 3 1 (ba t9)),(10,.int .i64 t10),(11,.int .i64 t11)],[]⟩
def IB:LS:=⟨[],[]⟩
def TY (aQ:Wq0) (lJ jw:Int):LS:=⟨[(0,.slx 3 1 (ba aQ)),(1,.int .i64 lJ),(2,.int .i64 jw)],[]⟩
def GH (k_1:Option Bool) (back:Wq0->Int->Int->Wq0->Int->Int->Option Bool) (n:Nat) (aQ:Wq0) (lJ jw:Int) (t9:Wq0) (t10 t11:Int):Option Bool:=
 if decide (t11<t10) then
 (idx t9 t11).bind fun x3=>if decide (x3<lJ) then
 some false
 else
 if !decide (x3<jw) then
 some false
 else
 if decide (0<t11) then
 (idx aQ (w64 (t11 - 1))).bind fun x24=>if !decide (x24<x3) then
 some false
 else
 back aQ lJ jw t9 t10 (w64 (t11+1))
 else
 back aQ lJ jw t9 t10 (w64 (t11+1))
 else
 k_1
theorem aiV {k_1} (aD:K0 (A87 [1,1]) IB k_1) {back} (ay:K6 (A87 [0,1,0,1]) IC back) (n:Nat):K6 (A87 [0,1,0,1]) IC (GH k_1 back n):=fun aQ lJ jw t9 t10 t11 r h=>ie h (fun c0 h=>be h fun x3 hx3 h=>ie h (fun c1 h=>rr h [(0,eb c0),(1,R3.idx hx3),(5,eb c1)]) (fun c1 h=>ie h (fun c2 h=>rr h [(0,eb c0),(1,R3.idx hx3),(5,eb c1),(3,eb c2)]) (fun c2 h=>ie h (fun c3 h=>be h fun x24 fZ h=>ie h (fun c4 h=>rr h [(0,eb c0),(1,R3.idx hx3),(5,eb c1),(3,eb c2),(3,eb c3),(5,R3.idx fZ),(1,eb c4)]) (fun c4 h=>ra (ay h) [(0,eb c0),(1,R3.idx hx3),(5,eb c1),(3,eb c2),(3,eb c3),(5,R3.idx fZ),(1,eb c4)])) (fun c3 h=>ra (ay h) [(0,eb c0),(1,R3.idx hx3),(5,eb c1),(3,eb c2),(3,eb c3)])))) (fun c0 h=>ra (aD h) [(0,eb c0)])
def yf (k_1:Option Bool):Nat->Wq0->Int->Int->Wq0->Int->Int->Option Bool
 |0,_,_,_,_,_,_=>none
 |n+1,aQ,lJ,jw,t9,t10,t11=>GH k_1 (yf k_1 n) n aQ lJ jw t9 t10 t11
theorem abY {k_1} (aD:K0 (A87 [1,1]) IB k_1):∀n:Nat,K6 (A87 [0,1,0,1]) IC (yf k_1 n)
 |0=>fun _ _ _ _ _ _ _ h=>nz h
 |n+1=>fun _ _ _ _ _ _ _ h=>aiV aD (abY aD n) n h
def GG (n:Nat):Option Bool:=
 some true
theorem aiU (n:Nat):K0 (A87 [1,1]) IB (GG n):=fun r h=>rr h []
def adR (n:Nat) (aQ:Wq0) (lJ jw:Int):Option Bool:=
 yf (GG n) n aQ lJ jw aQ (aQ.length:Int) 0
theorem aiT (n:Nat):K3 (A87 []) TY (adR n):=fun aQ lJ jw r h=>ra (abY (aiU n) n h) [(2,.eqv (R3.ax aQ))]
def F87 (n:Nat) (aQ:Wq0) (lJ jw:Int):Option Bool:=adR n aQ lJ jw
theorem ZE (n:Nat):K3 C87 TY (F87 n):=fun _ _ _ _ h=>ca (X:=x87) (aiT n h)
def abm (r:Bool):AV:=.bool r
def VS (r:Bool):List (Nat×Bx):= []
def x45:=fx E0 Tryz.f45 [] []
def A45:=Ax x45 abm VS
def C45:=Cx E0 45 abm VS
def Jf (t72:Wq2) (t73 t74:Int) (b3:aA) (b18:Wq0):LS:=⟨[(3,.loc 3 0),(5,.ms 18 1 0 b18.length),(72,.slx 65 3 (aN t72)),(73,.int .i64 t73),(74,.int .i64 t74)],[(3,.flat 55 (dR b3)),(18,.rows true 3 1 (ba b18))]⟩
def Je:LS:=⟨[],[]⟩
def Hw (k_1:Option Bool) (back:Wq2->Int->Int->aA->Wq0->Option Bool) (n:Nat) (t72:Wq2) (t73 t74:Int) (b3:aA) (b18:Wq0):Option Bool:=
 if decide (t74<t73) then
 (idx t72 t74).bind fun x3=>(F88 n x3).bind fun x10=>if !x10 then
 some false
 else
 (idx b3.ah t74).bind fun x20=>(bnd b18.length x20).bind fun x23=>(b18[0+x23]?).bind fun x25=>if x3.aw !=x25 then
 some false
 else
 back t72 t73 (w64 (t74+1)) b3 b18
 else
 k_1
theorem akF {k_1} (aD:K0 (A45 [1,1,0,1,1,1,0,1,0,1,1,1]) Je k_1) {back} (ay:K5 (A45 [0,1,0,1,0,1,1,1,0,1,0,1,1,1]) Jf back) (n:Nat):K5 (A45 [0,1,0,1,0,1,1,1,0,1,0,1,1,1]) Jf (Hw k_1 back n):=fun t72 t73 t74 b3 b18 r h=>ie h (fun c0 h=>be h fun x3 hx3 h=>be h fun x10 cw h=>ie h (fun c1 h=>rr h [(0,eb c0),(1,R64.idx hx3),(5,.call (jg n cw) [] [] []),(0,eb c1)]) (fun c1 h=>be h fun x20 kM h=>be h fun x23 eZ h=>be h fun x25 mn h=>ie h (fun c2 h=>rr h [(0,eb c0),(1,R64.idx hx3),(5,.call (jg n cw) [] [] []),(0,eb c1),(7,R3.idx kM),(1,cJ eZ),(0,R3.row mn),(0,eb c2)]) (fun c2 h=>ra (ay h) [(0,eb c0),(1,R64.idx hx3),(5,.call (jg n cw) [] [] []),(0,eb c1),(7,R3.idx kM),(1,cJ eZ),(0,R3.row mn),(0,eb c2)]))) (fun c0 h=>ra (aD h) [(0,eb c0)])
def yy (k_1:Option Bool):Nat->Wq2->Int->Int->aA->Wq0->Option Bool
 |0,_,_,_,_,_=>none
 |n+1,t72,t73,t74,b3,b18=>Hw k_1 (yy k_1 n) n t72 t73 t74 b3 b18
theorem acD {k_1} (aD:K0 (A45 [1,1,0,1,1,1,0,1,0,1,1,1]) Je k_1):∀n:Nat,K5 (A45 [0,1,0,1,0,1,1,1,0,1,0,1,1,1]) Jf (yy k_1 n)
 |0=>fun _ _ _ _ _ _ h=>nz h
 |n+1=>fun _ _ _ _ _ _ h=>akF aD (acD aD n) n h
def Hv (n:Nat):Option Bool:=
 some true
theorem akE (n:Nat):K0 (A45 [1,1,0,1,1,1,0,1,0,1,1,1]) Je (Hv n):=fun r h=>rr h []
def Tp (n:Nat) (s0:ag) (w1:aA):Option Bool:=
 (F85 n s0 w1.au w1.aq).bind fun x9=>if !x9 then
 some false
 else
 (F32 n s0 w1.au).bind fun x15=>if w1.fOp==1 then
 if (w1.ah.length:Int)==0 then
 (F86 n s0 w1.au w1.aF 1).bind fun x32=>if x32 then
 (F34 n s0 w1.au w1.aF).bind fun x41=>(F22 n x41 w1.aq).bind fun x45_=>some (x45_==0)
 else
 some false
 else
 some false
 else
 if w1.fOp==2 then
 (idx s0.ae w1.au).bind fun x30=>(F87 n w1.ah x30.aq (x15.length:Int)).bind fun x36=>if !x36 then
 some false
 else
 if (w1.aF.length:Int) !=(w1.ah.length:Int) then
 some false
 else
 yy (Hv n) n w1.aF (w1.aF.length:Int) 0 w1 x15
 else
 if (w1.ah.length:Int)==0 then
 some ((w1.aF.length:Int)==0)
 else
 some false
theorem akD (n:Nat):K2 (A45 []) AP (Tp n):=fun s0 w1 r h=>be h fun x9 hx9 h=>ie h (fun c0 h=>rr h [(8,.call (uC n hx9) [] [] []),(0,eb c0)]) (fun c0 h=>be h fun x15 cA h=>ie h (fun c1 h=>ie h (fun c2 h=>be h fun x32 mm h=>ie h (fun c3 g0=>by subst c3;exact (
 be g0 fun x41 Zm g0=>be g0 fun x45_ Zl g0=>rr g0 [(8,.call (uC n hx9) [] [] []),(0,eb c0),(3,.call (kj n cA) [] [] [(18,200000)]),(3,eb c1),(3,.eqv (R3.ax w1.ah)),(0,eb c2),(6,.call (Ef n mm) [] [] []),(7,.call (cd (e:=65) (z:=true) (Q:=aN x41) (ow n Zm) (R64.len x41)) [] [] []),(2,.call (qD n Zl) [.one (.sx 0 0)] [] [])])) (fun c3 g0=>by subst c3;exact (
 rr g0 [(8,.call (uC n hx9) [] [] []),(0,eb c0),(3,.call (kj n cA) [] [] [(18,200000)]),(3,eb c1),(3,.eqv (R3.ax w1.ah)),(0,eb c2),(6,.call (Ef n mm) [] [] [])]))) (fun c2 h=>rr h [(8,.call (uC n hx9) [] [] []),(0,eb c0),(3,.call (kj n cA) [] [] [(18,200000)]),(3,eb c1),(3,.eqv (R3.ax w1.ah)),(0,eb c2)])) (fun c1 h=>ie h (fun c2 h=>be h fun x30 z0 h=>be h fun x36 zZ h=>ie h (fun c3 h=>rr h [(8,.call (uC n hx9) [] [] []),(0,eb c0),(3,.call (kj n cA) [] [] [(18,200000)]),(3,eb c1),(1,eb c2),(7,R62.idx z0),(4,.call (ZE n zZ) [] [] []),(0,eb c3)]) (fun c3 h=>ie h (fun c4 h=>rr h [(8,.call (uC n hx9) [] [] []),(0,eb c0),(3,.call (kj n cA) [] [] [(18,200000)]),(3,eb c1),(1,eb c2),(7,R62.idx z0),(4,.call (ZE n zZ) [] [] []),(0,eb c3),(3,.eqv (R64.ax w1.aF)),(2,.eqv (R3.ax w1.ah)),(0,eb c4)]) (fun c4 h=>ra (acD (akE n) n h) [(8,.call (uC n hx9) [] [] []),(0,eb c0),(3,.call (kj n cA) [] [] [(18,200000)]),(3,eb c1),(1,eb c2),(7,R62.idx z0),(4,.call (ZE n zZ) [] [] []),(0,eb c3),(3,.eqv (R64.ax w1.aF)),(2,.eqv (R3.ax w1.ah)),(0,eb c4),(3,.eqv (R64.ax w1.aF))]))) (fun c2 h=>ie h (fun c3 h=>rr h [(8,.call (uC n hx9) [] [] []),(0,eb c0),(3,.call (kj n cA) [] [] [(18,200000)]),(3,eb c1),(1,eb c2),(3,.eqv (R3.ax w1.ah)),(0,eb c3),(3,.eqv (R64.ax w1.aF))]) (fun c3 h=>rr h [(8,.call (uC n hx9) [] [] []),(0,eb c0),(3,.call (kj n cA) [] [] [(18,200000)]),(3,eb c1),(1,eb c2),(3,.eqv (R3.ax w1.ah)),(0,eb c3)]))))
def F45 (n:Nat) (s0:ag) (w1:aA):Option Bool:=Tp n s0 w1
theorem RN (n:Nat):K2 C45 AP (F45 n):=fun _ _ _ h=>ca (X:=x45) (akD n h)
def abK (r:Int):AV:=.int .i64 r
def Wf (r:Int):List (Nat×Bx):= []
def x14:=fx E0 Tryz.f14 [] []
def A14:=Ax x14 abK Wf
def C14:=Cx E0 14 abK Wf
def JE:LS:=⟨[],[]⟩
def Ia (k_1:Option Int) (back:Wf23) (n:Nat) (bK t16:Wq3) (t17 t18:Int) (b2:ag):Option Int:=
 if decide (t18<t17) then
 (idx t16 t18).bind fun x3=>if decide (x3.fOp<1) then
 some 1
 else
 if decide (3<x3.fOp) then
 some 1
 else
 if decide (x3.au<0) then
 some 1
 else
 if !decide (x3.au<(b2.ae.length:Int)) then
 some 1
 else
 (F45 n b2 x3).bind fun x32=>if !x32 then
 some 270
 else
 if decide (0<t18) then
 (idx bK (w64 (t18 - 1))).bind fun x42=>(idx bK (w64 (t18 - 1))).bind fun x49=>(F36 n x42.au x49.aq x3.au x3.aq).bind fun x57=>if !decide (x57<0) then
 some 270
 else
 back bK t16 t17 (w64 (t18+1)) b2
 else
 back bK t16 t17 (w64 (t18+1)) b2
 else
 k_1
theorem alV {k_1} (aD:K0 (A14 [1,1,1,1]) JE k_1) {back} (ay:K5 (A14 [0,1,0,1,1,1]) sM back) (n:Nat):K5 (A14 [0,1,0,1,1,1]) sM (Ia k_1 back n):=fun bK t16 t17 t18 b2 r h=>ie h (fun c0 h=>be h fun x3 hx3 h=>ie h (fun c1 h=>rr h [(0,eb c0),(1,R54.idx hx3),(6,eb c1)]) (fun c1 h=>ie h (fun c2 h=>rr h [(0,eb c0),(1,R54.idx hx3),(6,eb c1),(3,eb c2)]) (fun c2 h=>ie h (fun c3 h=>rr h [(0,eb c0),(1,R54.idx hx3),(6,eb c1),(3,eb c2),(4,eb c3)]) (fun c3 h=>ie h (fun c4 h=>rr h [(0,eb c0),(1,R54.idx hx3),(6,eb c1),(3,eb c2),(4,eb c3),(6,.eqv (R62.ax b2.ae)),(0,eb c4)]) (fun c4 h=>be h fun x32 mm h=>ie h (fun c5 h=>rr h [(0,eb c0),(1,R54.idx hx3),(6,eb c1),(3,eb c2),(4,eb c3),(6,.eqv (R62.ax b2.ae)),(0,eb c4),(3,.call (RN n mm) [] [] []),(0,eb c5)]) (fun c5 h=>ie h (fun c6 h=>be h fun x42 mZ h=>be h fun x49 Rr h=>be h fun x57 Lg h=>ie h (fun c7 h=>rr h [(0,eb c0),(1,R54.idx hx3),(6,eb c1),(3,eb c2),(4,eb c3),(6,.eqv (R62.ax b2.ae)),(0,eb c4),(3,.call (RN n mm) [] [] []),(0,eb c5),(2,eb c6),(4,R54.idx mZ),(5,R54.idx Rr),(6,.call (LJ n Lg) [] [] []),(0,eb c7)]) (fun c7 h=>ra (ay h) [(0,eb c0),(1,R54.idx hx3),(6,eb c1),(3,eb c2),(4,eb c3),(6,.eqv (R62.ax b2.ae)),(0,eb c4),(3,.call (RN n mm) [] [] []),(0,eb c5),(2,eb c6),(4,R54.idx mZ),(5,R54.idx Rr),(6,.call (LJ n Lg) [] [] []),(0,eb c7)])) (fun c6 h=>ra (ay h) [(0,eb c0),(1,R54.idx hx3),(6,eb c1),(3,eb c2),(4,eb c3),(6,.eqv (R62.ax b2.ae)),(0,eb c4),(3,.call (RN n mm) [] [] []),(0,eb c5),(2,eb c6)]))))))) (fun c0 h=>ra (aD h) [(0,eb c0)])
def yM (k_1:Option Int):Nat->Wq3->Wq3->Int->Int->ag->Option Int
 |0,_,_,_,_,_=>none
 |n+1,bK,t16,t17,t18,b2=>Ia k_1 (yM k_1 n) n bK t16 t17 t18 b2
theorem acZ {k_1} (aD:K0 (A14 [1,1,1,1]) JE k_1):∀n:Nat,K5 (A14 [0,1,0,1,1,1]) sM (yM k_1 n)
 |0=>fun _ _ _ _ _ _ h=>nz h
 |n+1=>fun _ _ _ _ _ _ h=>alV aD (acZ aD n) n h
def H9 (n:Nat):Option Int:=
 some 0
theorem alU (n:Nat):K0 (A14 [1,1,1,1]) JE (H9 n):=fun r h=>rr h []
def TN (n:Nat) (s0:ag) (bK:Wq3):Option Int:=
 (F44 n s0).bind fun x4=>if x4 !=0 then
 some x4
 else
 if decide (64<(bK.length:Int)) then
 some 2
 else
 yM (H9 n) n bK bK (bK.length:Int) 0 s0
theorem alT (n:Nat):K2 (A14 []) AX (TN n):=fun s0 bK r h=>be h fun x4 hx4 h=>ie h (fun c0 h=>rr h [(3,.call (Ad n hx4) [] [] []),(2,eb c0)]) (fun c0 h=>ie h (fun c1 h=>rr h [(3,.call (Ad n hx4) [] [] []),(2,eb c0),(1,.eqv (R54.ax bK)),(0,eb c1)]) (fun c1 h=>ra (acZ (alU n) n h) [(3,.call (Ad n hx4) [] [] []),(2,eb c0),(1,.eqv (R54.ax bK)),(0,eb c1),(1,.eqv (R54.ax bK))]))
def F14 (n:Nat) (s0:ag) (bK:Wq3):Option Int:=TN n s0 bK
theorem ZL (n:Nat):K2 C14 AX (F14 n):=fun _ _ _ h=>ca (X:=x14) (alT n h)
def abk (r:Int):AV:=.int .i64 r
def VP (r:Int):List (Nat×Bx):= []
def x53:=fx E0 Tryz.f53 [] []
def A53:=Ax x53 abk VP
def C53:=Cx E0 53 abk VP
def Jd (bc n8:Int) (t27:Wq9) (t28 t29:Int) (b3:ag) (b5:ai):LS:=⟨[(1,.int .i64 bc),(3,.loc 3 0),(5,.loc 5 0),(8,.int .i64 n8),(27,.slx 66 1 (bN t27)),(28,.int .i64 t28),(29,.int .i64 t29)],[(3,.flat 26 (bj b3)),(5,.flat 33 (dD b5))]⟩
def Jc (bc t11:Int) (l12:Wq8) (t51:Wq9) (t52 t53:Int) (t58:Wq8) (t59 t60:Int) (b3:ag):LS:=⟨[(1,.int .i64 bc),(3,.loc 3 0),(11,.int .i64 t11),(12,.slx 43 1 (bG l12)),(51,.slx 66 1 (bN t51)),(52,.int .i64 t52),(53,.int .i64 t53),(58,.slx 43 1 (bG t58)),(59,.int .i64 t59),(60,.int .i64 t60)],[(3,.flat 26 (bj b3))]⟩
def pX (bc:Int) (t51:Wq9) (t52 t53:Int) (b3:ag):LS:=⟨[(1,.int .i64 bc),(3,.loc 3 0),(51,.slx 66 1 (bN t51)),(52,.int .i64 t52),(53,.int .i64 t53)],[(3,.flat 26 (bj b3))]⟩
def Jb:LS:=⟨[],[]⟩
def Ja (bc:Int) (b3:ag) (b5:ai):LS:=⟨[(1,.int .i64 bc),(3,.loc 3 0),(5,.loc 5 0)],[(3,.flat 26 (bj b3)),(5,.flat 33 (dD b5))]⟩
def Hu (k_5:Wf39) (back:Int->Int->Wq9->Int->Int->ag->ai->Option Int) (n:Nat) (bc n8:Int) (t27:Wq9) (t28 t29:Int) (b3:ag) (b5:ai):Option Int:=
 if decide (t29<t28) then
 (idx t27 t29).bind fun x2=>if decide ((w64 (512 - n8))<(x2.length:Int)) then
 some 2
 else
 back bc (w64 (n8+(x2.length:Int))) t27 t28 (w64 (t29+1)) b3 b5
 else
 k_5 bc b3 b5
theorem akB {k_5} (fk:K3 (A53 [1,1,1,1,1]) Ja k_5) {back} (ay:K7 (A53 [0,1,0,1,1,1,1]) Jd back) (n:Nat):K7 (A53 [0,1,0,1,1,1,1]) Jd (Hu k_5 back n):=fun bc n8 t27 t28 t29 b3 b5 r h=>ie h (fun c0 h=>be h fun x2 hx2 h=>ie h (fun c1 h=>rr h [(0,eb c0),(0,R66.idx hx2),(3,.eqv (R42.ax x2)),(2,eb c1)]) (fun c1 h=>ra (ay h) [(0,eb c0),(0,R66.idx hx2),(3,.eqv (R42.ax x2)),(2,eb c1),(2,.eqv (R42.ax x2))])) (fun c0 h=>ra (fk h) [(0,eb c0)])
def px (k_5:Wf39):Nat->Int->Int->Wq9->Int->Int->ag->ai->Option Int
 |0,_,_,_,_,_,_,_=>none
 |n+1,bc,n8,t27,t28,t29,b3,b5=>Hu k_5 (px k_5 n) n bc n8 t27 t28 t29 b3 b5
theorem acC {k_5} (fk:K3 (A53 [1,1,1,1,1]) Ja k_5):∀n:Nat,K7 (A53 [0,1,0,1,1,1,1]) Jd (px k_5 n)
 |0=>fun _ _ _ _ _ _ _ _ h=>nz h
 |n+1=>fun _ _ _ _ _ _ _ _ h=>akB fk (acC fk n) n h
def Ht (k_2:wX) (back:Wf25) (n:Nat) (bc t11:Int) (l12:Wq8) (t51:Wq9) (t52 t53:Int) (t58:Wq8) (t59 t60:Int) (b3:ag):Option Int:=
 if decide (t60<t59) then
 (idx t58 t60).bind fun x3=>(F86 n b3 t11 x3 bc).bind fun x12=>if !x12 then
 some 80
 else
 if decide (0<t60) then
 (idx l12 (w64 (t60 - 1))).bind fun x23=>(F34 n b3 t11 x23).bind fun x26=>(F34 n b3 t11 x3).bind fun x31=>(F22 n x26 x31).bind fun x33=>if !decide (x33<0) then
 some 80
 else
 back bc t11 l12 t51 t52 t53 t58 t59 (w64 (t60+1)) b3
 else
 back bc t11 l12 t51 t52 t53 t58 t59 (w64 (t60+1)) b3
 else
 k_2 bc t51 t52 t53 b3
theorem akA {k_2} (bS:K5 (A53 [1,1,1,0,0,1,0,1,1,1,1,1,1]) pX k_2) {back} (ay:K10 (A53 [0,1,1,0,0,1,1,0,0,1,0,1,1,1,1,1,1]) Jc back) (n:Nat):K10 (A53 [0,1,1,0,0,1,1,0,0,1,0,1,1,1,1,1,1]) Jc (Ht k_2 back n):=fun bc t11 l12 t51 t52 t53 t58 t59 t60 b3 r h=>ie h (fun c0 h=>be h fun x3 hx3 h=>be h fun x12 cM h=>ie h (fun c1 h=>rr h [(0,eb c0),(1,R42.idx hx3),(7,.call (Ef n cM) [] [] []),(0,eb c1)]) (fun c1 h=>ie h (fun c2 h=>be h fun x23 eZ h=>be h fun x26 kb h=>be h fun x31 ou h=>be h fun x33 m6 h=>ie h (fun c3 h=>rr h [(0,eb c0),(1,R42.idx hx3),(7,.call (Ef n cM) [] [] []),(0,eb c1),(1,eb c2),(6,R42.idx eZ),(1,.call (cd (e:=65) (z:=true) (Q:=aN x26) (ow n kb) (R64.len x26)) [] [] []),(3,.call (cd (e:=65) (z:=true) (Q:=aN x31) (ow n ou) (R64.len x31)) [] [] []),(0,.call (qD n m6) [.one (.sx 0 0),.one (.sx 0 0)] [] []),(0,eb c3)]) (fun c3 h=>ra (ay h) [(0,eb c0),(1,R42.idx hx3),(7,.call (Ef n cM) [] [] []),(0,eb c1),(1,eb c2),(6,R42.idx eZ),(1,.call (cd (e:=65) (z:=true) (Q:=aN x26) (ow n kb) (R64.len x26)) [] [] []),(3,.call (cd (e:=65) (z:=true) (Q:=aN x31) (ow n ou) (R64.len x31)) [] [] []),(0,.call (qD n m6) [.one (.sx 0 0),.one (.sx 0 0)] [] []),(0,eb c3)])) (fun c2 h=>ra (ay h) [(0,eb c0),(1,R42.idx hx3),(7,.call (Ef n cM) [] [] []),(0,eb c1),(1,eb c2)]))) (fun c0 h=>ra (bS h) [(0,eb c0)])
def yx (k_2:wX):Nat->Int->Int->Wq8->Wq9->Int->Int->Wq8->Int->Int->ag->Option Int
 |0,_,_,_,_,_,_,_,_,_,_=>none
 |n+1,bc,t11,l12,t51,t52,t53,t58,t59,t60,b3=>Ht k_2 (yx k_2 n) n bc t11 l12 t51 t52 t53 t58 t59 t60 b3
theorem acB {k_2} (bS:K5 (A53 [1,1,1,0,0,1,0,1,1,1,1,1,1]) pX k_2):∀n:Nat,K10 (A53 [0,1,1,0,0,1,1,0,0,1,0,1,1,1,1,1,1]) Jc (yx k_2 n)
 |0=>fun _ _ _ _ _ _ _ _ _ _ _ h=>nz h
 |n+1=>fun _ _ _ _ _ _ _ _ _ _ _ h=>akA bS (acB bS n) n h
def Hr (k_3:wX) (n:Nat) (bc:Int) (t51:Wq9) (t52 t53:Int) (b3:ag):Option Int:=
 k_3 bc t51 t52 (w64 (t53+1)) b3
theorem akz {k_3} (bu:K5 (A53 [0,1,0,1,1,1,1,1,1]) pX k_3) (n:Nat):K5 (A53 [1,1,1,0,0,1,0,1,1,1,1,1,1]) pX (Hr k_3 n):=fun bc t51 t52 t53 b3 r h=>ra (bu h) []
def Hq (k_4:Option Int) (back:wX) (n:Nat) (bc:Int) (t51:Wq9) (t52 t53:Int) (b3:ag):Option Int:=
 if decide (t53<t52) then
 (idx t51 t53).bind fun x3=>yx (Hr back n) n bc t53 x3 t51 t52 t53 x3 (x3.length:Int) 0 b3
 else
 k_4
theorem aky {k_4} (eN:K0 (A53 [1,1,1,1,1,1,1]) Jb k_4) {back} (ay:K5 (A53 [0,1,0,1,1,1,1,1,1]) pX back) (n:Nat):K5 (A53 [0,1,0,1,1,1,1,1,1]) pX (Hq k_4 back n):=fun bc t51 t52 t53 b3 r h=>ie h (fun c0 h=>be h fun x3 hx3 h=>ra (acB (akz ay n) n h) [(0,eb c0),(1,R66.idx hx3),(4,.eqv (R42.ax x3))]) (fun c0 h=>ra (eN h) [(0,eb c0)])
def vd (k_4:Option Int):Nat->Int->Wq9->Int->Int->ag->Option Int
 |0,_,_,_,_,_=>none
 |n+1,bc,t51,t52,t53,b3=>Hq k_4 (vd k_4 n) n bc t51 t52 t53 b3
theorem acA {k_4} (eN:K0 (A53 [1,1,1,1,1,1,1]) Jb k_4):∀n:Nat,K5 (A53 [0,1,0,1,1,1,1,1,1]) pX (vd k_4 n)
 |0=>fun _ _ _ _ _ _ h=>nz h
 |n+1=>fun _ _ _ _ _ _ h=>aky eN (acA eN n) n h
def Cs (n:Nat):Option Int:=
 some 0
theorem akx (n:Nat):K0 (A53 [1,1,1,1,1,1,1]) Jb (Cs n):=fun r h=>rr h []
def Ho (n:Nat) (bc:Int) (b3:ag) (b5:ai):Option Int:=
 if (b5.ae.length:Int) !=(b3.ae.length:Int) then
 some 80
 else
 vd (Cs n) n bc b5.ae (b5.ae.length:Int) 0 b3
theorem akw (n:Nat):K3 (A53 [1,1,1,1,1]) Ja (Ho n):=fun bc b3 b5 r h=>ie h (fun c0 h=>rr h [(2,.eqv (R66.ax b5.ae)),(2,.eqv (R62.ax b3.ae)),(0,eb c0)]) (fun c0 h=>ra (acA (akx n) n h) [(2,.eqv (R66.ax b5.ae)),(2,.eqv (R62.ax b3.ae)),(0,eb c0),(2,.eqv (R66.ax b5.ae))])
def To (n:Nat) (s0:ag) (bc:Int) (st2:ai):Option Int:=
 (F44 n s0).bind fun x5=>if x5 !=0 then
 some x5
 else
 if decide (bc<1) then
 some 1
 else
 if decide (3<bc) then
 some 1
 else
 px (Ho n) n bc 0 st2.ae (st2.ae.length:Int) 0 s0 st2
theorem akv (n:Nat):K3 (A53 []) AS (To n):=fun s0 bc st2 r h=>be h fun x5 hx5 h=>ie h (fun c0 h=>rr h [(4,.call (Ad n hx5) [] [] []),(2,eb c0)]) (fun c0 h=>ie h (fun c1 h=>rr h [(4,.call (Ad n hx5) [] [] []),(2,eb c0),(1,eb c1)]) (fun c1 h=>ie h (fun c2 h=>rr h [(4,.call (Ad n hx5) [] [] []),(2,eb c0),(1,eb c1),(2,eb c2)]) (fun c2 h=>ra (acC (akw n) n h) [(4,.call (Ad n hx5) [] [] []),(2,eb c0),(1,eb c1),(2,eb c2),(4,.eqv (R66.ax st2.ae))])))
def F53 (n:Nat) (s0:ag) (bc:Int) (st2:ai):Option Int:=To n s0 bc st2
theorem ev53 (n:Nat):K3 C53 AS (F53 n):=fun _ _ _ _ h=>ca (X:=x53) (akv n h)
def abi (r:Wq2):AV:=.ms 200000 3 0 r.length
def VN (r:Wq2):List (Nat×Bx):= [(200000,.rows true 65 3 (aN r))]
def x55:=fx E0 Tryz.f55 [] [200000]
def A55:=Ax x55 abi VN
def C55:=Cx E0 55 abi VN
def Uh (r0:Wq2) (w1:aA):LS:=⟨[(0,.slx 65 3 (aN r0)),(1,.agg (dR w1))],[]⟩
def Hn (k_1:Sz) (back:Wf28) (n:Nat) (t11:Wq0) (t12 t13:Int) (b3:aA) (b9:Wq2):Option Wq2:=
 if decide (t13<t12) then
 (idx t11 t13).bind fun x3=>(idx b3.aF t13).bind fun x13=>(bnd b9.length x3).bind fun x16=>(b9[0+x16]?).bind fun x18=>(setAt b9 (0+x16) x13).bind fun z19=>back t11 t12 (w64 (t13+1)) b3 z19
 else
 k_1 b9
theorem akt {k_1} (aD:K1 (A55 [1,1,1]) sD k_1) {back} (ay:K5 (A55 [0,1,0,1,1]) sE back) (n:Nat):K5 (A55 [0,1,0,1,1]) sE (Hn k_1 back n):=fun t11 t12 t13 b3 b9 r h=>ie h (fun c0 h=>be h fun x3 hx3 h=>be h fun x13 bH h=>be h fun x16 de h=>be h fun x18 gx h=>be h fun z19 Le h=>ra (ay h) [(0,eb c0),(1,R3.idx hx3),(8,R64.idx bH),(1,cJ de),(0,R64.sto 0 (iW x13) gx Le (by kernel_rfl)),(2,.seq 5 (congrArg (fun n_=>(AV.ms 9 3 0 n_)) ((bY Le).symm)))]) (fun c0 h=>ra (aD h) [(0,eb c0)])
def yw (k_1:Sz):Nat->Wq0->Int->Int->aA->Wq2->Option Wq2
 |0,_,_,_,_,_=>none
 |n+1,t11,t12,t13,b3,b9=>Hn k_1 (yw k_1 n) n t11 t12 t13 b3 b9
theorem acz {k_1} (aD:K1 (A55 [1,1,1]) sD k_1):∀n:Nat,K5 (A55 [0,1,0,1,1]) sE (yw k_1 n)
 |0=>fun _ _ _ _ _ _ h=>nz h
 |n+1=>fun _ _ _ _ _ _ h=>akt aD (acz aD n) n h
def Hm (n:Nat) (b9:Wq2):Option Wq2:=
 some b9
theorem aks (n:Nat):K1 (A55 [1,1,1]) sD (Hm n):=fun b9 r h=>rr h [(2,.ren 9 200000)]
def Tm (n:Nat) (r0:Wq2) (w1:aA):Option Wq2:=
 (F54 n r0).bind fun x4=>yw (Hm n) n w1.ah (w1.ah.length:Int) 0 w1 x4
theorem akr (n:Nat):K2 (A55 []) Uh (Tm n):=fun r0 w1 r h=>be h fun x4 hx4 h=>ra (acz (aks n) n h) [(3,.call (Eh n hx4) [] [] [(9,200000)]),(3,.eqv (R3.ax w1.ah))]
def F55 (n:Nat) (r0:Wq2) (w1:aA):Option Wq2:=Tm n r0 w1
theorem ev55 (n:Nat):K2 C55 Uh (F55 n):=fun _ _ _ h=>ca (X:=x55) (akr n h)
def abb (r:ai):AV:=.agg [.ms 201000 1 0 r.ae.length]
def VG (r:ai):List (Nat×Bx):= [(201000,.rows false 66 1 (bN r.ae))]
def x66:=fx E0 Tryz.f66 [] [201000]
def A66:=Ax x66 abb VG
def C66:=Cx E0 66 abb VG
def I7 (t10:Wq9) (t11 t12:Int) (t16:Wq8) (t17 t18:Int) (b2 b3:ai) (b26:Wq8) (b32:Wq9):LS:=⟨[(2,.loc 2 0),(3,.loc 3 0),(6,.ms 26 1 0 b26.length),(10,.slx 66 1 (bN t10)),(11,.int .i64 t11),(12,.int .i64 t12),(16,.slx 43 1 (bG t16)),(17,.int .i64 t17),(18,.int .i64 t18)],[(2,.flat 33 [.aU]),(3,.flat 33 [.ms 32 1 0 b32.length]),(26,.rows true 43 1 (bG b26)),(32,.rows true 66 1 (bN b32))]⟩
def I6 (t10:Wq9) (t11 t12:Int) (b2 b3:ai) (b26:Wq8) (b32:Wq9):LS:=⟨[(2,.loc 2 0),(3,.loc 3 0),(6,.ms 26 1 0 b26.length),(10,.slx 66 1 (bN t10)),(11,.int .i64 t11),(12,.int .i64 t12)],[(2,.flat 33 [.aU]),(3,.flat 33 [.ms 32 1 0 b32.length]),(26,.rows true 43 1 (bG b26)),(32,.rows true 66 1 (bN b32))]⟩
def AN (t10:Wq9) (t11 t12:Int) (b2 b3:ai) (b32:Wq9):LS:=⟨[(2,.loc 2 0),(3,.loc 3 0),(10,.slx 66 1 (bN t10)),(11,.int .i64 t11),(12,.int .i64 t12)],[(2,.flat 33 [.aU]),(3,.flat 33 [.ms 32 1 0 b32.length]),(32,.rows true 66 1 (bN b32))]⟩
def I5 (b2 b3:ai) (b32:Wq9):LS:=⟨[(2,.loc 2 0),(3,.loc 3 0)],[(2,.flat 33 [.aU]),(3,.flat 33 [.ms 32 1 0 b32.length]),(32,.rows true 66 1 (bN b32))]⟩
def He (k_1:Wf40) (back:Wq9->Int->Int->Wq8->Int->Int->ai->ai->Wq8->Wq9->Option ai) (n:Nat) (t10:Wq9) (t11 t12:Int) (t16:Wq8) (t17 t18:Int) (b2 b3:ai) (b26:Wq8) (b32:Wq9):Option ai:=
 if decide (t18<t17) then
 (idx t16 t18).bind fun x2=>(F54 n x2).bind fun x8=>(app b26 [x8]).bind fun x11=>back t10 t11 t12 t16 t17 (w64 (t18+1)) (ai.mk []) (ai.mk b32) x11 b32
 else
 k_1 t10 t11 t12 (ai.mk []) (ai.mk b32) b26 b32
theorem ake {k_1} (aD:K7 (A66 [1,1,1,0,0,1,1,0,0,1,0,1,1]) I6 k_1) {back} (ay:K10 (A66 [0,1,0,1,1,0,0,1,1,0,0,1,0,1,1]) I7 back) (n:Nat):K10 (A66 [0,1,0,1,1,0,0,1,1,0,0,1,0,1,1]) I7 (He k_1 back n):=fun t10 t11 t12 t16 t17 t18 b2 b3 b26 b32 r h=>ie h (fun c0 h=>be h fun x2 hx2 h=>be h fun x8 hx8 h=>be h fun x11 cu h=>ra (ay h) [(0,eb c0),(0,R42.idx hx2),(4,.call (Eh n hx8) [] [] [(24,200000)]),(0,R64.frz 24 x8),(0,.norm [(24,.one (.sx 0 0))] []),(1,R42.app cu (R42.srW [x8]))]) (fun c0 h=>ra (aD h) [(0,eb c0)])
def yq (k_1:Wf40):Nat->Wq9->Int->Int->Wq8->Int->Int->ai->ai->Wq8->Wq9->Option ai
 |0,_,_,_,_,_,_,_,_,_,_=>none
 |n+1,t10,t11,t12,t16,t17,t18,b2,b3,b26,b32=>He k_1 (yq k_1 n) n t10 t11 t12 t16 t17 t18 b2 b3 b26 b32
theorem acv {k_1} (aD:K7 (A66 [1,1,1,0,0,1,1,0,0,1,0,1,1]) I6 k_1):∀n:Nat,K10 (A66 [0,1,0,1,1,0,0,1,1,0,0,1,0,1,1]) I7 (yq k_1 n)
 |0=>fun _ _ _ _ _ _ _ _ _ _ _ h=>nz h
 |n+1=>fun _ _ _ _ _ _ _ _ _ _ _ h=>ake aD (acv aD n) n h
def Hc (k_2:Wf41) (n:Nat) (t10:Wq9) (t11 t12:Int) (b2 b3:ai) (b26:Wq8) (b32:Wq9):Option ai:=
 (app b32 [b26]).bind fun x5=>k_2 t10 t11 (w64 (t12+1)) (ai.mk []) (ai.mk x5) x5
theorem akd {k_2} (bS:K6 (A66 [0,1,0,1,1]) AN k_2) (n:Nat):K7 (A66 [1,1,1,0,0,1,1,0,0,1,0,1,1]) I6 (Hc k_2 n):=fun t10 t11 t12 b2 b3 b26 b32 r h=>be h fun x5 hx5 h=>ra (bS h) [(3,R42.frz 26 b26),(0,.norm [(30,.one (.sx 0 0))] []),(1,R66.app hx5 (R66.srW [b26]))]
def Hb (k_3:Wf42) (back:Wf41) (n:Nat) (t10:Wq9) (t11 t12:Int) (b2 b3:ai) (b32:Wq9):Option ai:=
 if decide (t12<t11) then
 (idx t10 t12).bind fun x2=>yq (Hc back n) n t10 t11 t12 x2 (x2.length:Int) 0 (ai.mk []) (ai.mk b32) [] b32
 else
 k_3 (ai.mk []) (ai.mk b32) b32
theorem akc {k_3} (bu:K3 (A66 [1,1,1]) I5 k_3) {back} (ay:K6 (A66 [0,1,0,1,1]) AN back) (n:Nat):K6 (A66 [0,1,0,1,1]) AN (Hb k_3 back n):=fun t10 t11 t12 b2 b3 b32 r h=>ie h (fun c0 h=>be h fun x2 hx2 h=>ra (acv (akd ay n) n h) [(0,eb c0),(0,R66.idx hx2),(4,.eqv (R42.ax x2)),(1,.born [6] [] 26 true 43 1)]) (fun c0 h=>ra (bu h) [(0,eb c0)])
def vb (k_3:Wf42):Nat->Wq9->Int->Int->ai->ai->Wq9->Option ai
 |0,_,_,_,_,_,_=>none
 |n+1,t10,t11,t12,b2,b3,b32=>Hb k_3 (vb k_3 n) n t10 t11 t12 b2 b3 b32
theorem acu {k_3} (bu:K3 (A66 [1,1,1]) I5 k_3):∀n:Nat,K6 (A66 [0,1,0,1,1]) AN (vb k_3 n)
 |0=>fun _ _ _ _ _ _ _ h=>nz h
 |n+1=>fun _ _ _ _ _ _ _ h=>akc bu (acu bu n) n h
def Cq (n:Nat) (b2 b3:ai) (b32:Wq9):Option ai:=
 some (ai.mk b32)
theorem akb (n:Nat):K3 (A66 [1,1,1]) I5 (Cq n):=fun b2 b3 b32 r h=>rr h [(2,.ren 32 201000),(0,.norm [] [(201000,.any)])]
def Tg (n:Nat) (st0:ai):Option ai:=
 vb (Cq n) n st0.ae (st0.ae.length:Int) 0 (ai.mk []) (ai.mk []) []
theorem aka (n:Nat):K1 (A66 []) sF (Tg n):=fun st0 r h=>ra (acu (akb n) n h) [(5,.eqv (R66.ax st0.ae)),(1,.born [] [(3,0)] 32 true 66 1)]
def F66 (n:Nat) (st0:ai):Option ai:=Tg n st0
theorem ev66 (n:Nat):K1 C66 sF (F66 n):=fun _ _ h=>ca (X:=x66) (aka n h)
def aba (r:Int):AV:=.int .i64 r
def VF (r:Int):List (Nat×Bx):= []
def x67:=fx E0 Tryz.f67 [] []
def A67:=Ax x67 aba VF
def C67:=Cx E0 67 aba VF
def Ha (k_1:Wf5) (back:Int->Wq9->Int->Int->Option Int) (n:Nat) (n3:Int) (t7:Wq9) (t8 t9:Int):Option Int:=
 if decide (t9<t8) then
 (idx t7 t9).bind fun x2=>back (w64 (n3+(x2.length:Int))) t7 t8 (w64 (t9+1))
 else
 k_1 n3
theorem ajZ {k_1} (aD:K1 (A67 [1,1,1]) sG k_1) {back} (ay:K4 (A67 [0,1,0,1,1]) sH back) (n:Nat):K4 (A67 [0,1,0,1,1]) sH (Ha k_1 back n):=fun n3 t7 t8 t9 r h=>ie h (fun c0 h=>be h fun x2 hx2 h=>ra (ay h) [(0,eb c0),(0,R66.idx hx2),(4,.eqv (R42.ax x2))]) (fun c0 h=>ra (aD h) [(0,eb c0)])
def yp (k_1:Wf5):Nat->Int->Wq9->Int->Int->Option Int
 |0,_,_,_,_=>none
 |n+1,n3,t7,t8,t9=>Ha k_1 (yp k_1 n) n n3 t7 t8 t9
theorem acs {k_1} (aD:K1 (A67 [1,1,1]) sG k_1):∀n:Nat,K4 (A67 [0,1,0,1,1]) sH (yp k_1 n)
 |0=>fun _ _ _ _ _ h=>nz h
 |n+1=>fun _ _ _ _ _ h=>ajZ aD (acs aD n) n h
def Te (n:Nat) (n3:Int):Option Int:=
 some n3
theorem ajY (n:Nat):K1 (A67 [1,1,1]) sG (Te n):=fun n3 r h=>rr h []
def Td (n:Nat) (st0:ai):Option Int:=
 yp (Te n) n 0 st0.ae (st0.ae.length:Int) 0
theorem ajX (n:Nat):K1 (A67 []) sF (Td n):=fun st0 r h=>ra (acs (ajY n) n h) [(5,.eqv (R66.ax st0.ae))]
def F67 (n:Nat) (st0:ai):Option Int:=Td n st0
theorem ZG (n:Nat):K1 C67 sF (F67 n):=fun _ _ h=>ca (X:=x67) (ajX n h)
def abG (r:(ai×Int)):AV:=.tup [.agg (dD r.1),.int .i64 r.2]
def Wb (r:(ai×Int)):List (Nat×Bx):= []
def x26:=fx E0 Tryz.f26 [] []
def A26:=Ax x26 abG Wb
def C26:=Cx E0 26 abG Wb
def afB (QM:Bool) (t31:Wq3) (t32 t33:Int) (t69:Bool) (b3:ag) (b6 b10:ai) (b12:aA) (xS:Wq2) (b0:Wq9):LS:=⟨[(3,.loc 3 0),(6,.loc 6 0),(10,.loc 10 0),(12,.loc 12 0),(13,.ms 304400 3 0 xS.length),(14,.bool QM),(31,.slx 55 5 (cy t31)),(32,.int .i64 t32),(33,.int .i64 t33),(69,.bool t69)],[(3,.flat 26 (bj b3)),(6,.flat 33 [.aU]),(10,.flat 33 [.ms 330300000 1 0 b0.length]),(12,.flat 55 (dR b12)),(304400,.rows true 65 3 (aN xS)),(330300000,.rows false 66 1 (bN b0))]⟩
def sL (t31:Wq3) (t32 t33:Int) (b3:ag) (b6 b10:ai) (b0:Wq9):LS:=⟨[(3,.loc 3 0),(6,.loc 6 0),(10,.loc 10 0),(31,.slx 55 5 (cy t31)),(32,.int .i64 t32),(33,.int .i64 t33)],[(3,.flat 26 (bj b3)),(6,.flat 33 [.aU]),(10,.flat 33 [.ms 330300000 1 0 b0.length]),(330300000,.rows false 66 1 (bN b0))]⟩
def Jy (b6 b10:ai) (b0:Wq9):LS:=⟨[(6,.loc 6 0),(10,.loc 10 0)],[(6,.flat 33 [.aU]),(10,.flat 33 [.ms 330300000 1 0 b0.length]),(330300000,.rows false 66 1 (bN b0))]⟩
def kG (k_1:aaf) (n:Nat) (QM:Bool) (t31:Wq3) (t32 t33:Int) (t69:Bool) (b3:ag) (b6 b10:ai) (b12:aA) (xS:Wq2) (b0:Wq9):Option (ai×Int):=
 if t69 then
 (F55 n xS b12).bind fun x9=>(F37 n b3 (ai.mk b0) b12.au b12.aq x9).bind fun x11=>k_1 t31 t32 t33 b3 (ai.mk []) (ai.mk x11.2) x11.2
 else
 if b12.fOp==3 then
 if QM then
 (F37 n b3 (ai.mk b0) b12.au b12.aq []).bind fun x14=>k_1 t31 t32 t33 b3 (ai.mk []) (ai.mk x14.2) x14.2
 else
 k_1 t31 t32 t33 b3 (ai.mk []) (ai.mk b0) b0
 else
 k_1 t31 t32 t33 b3 (ai.mk []) (ai.mk b0) b0
theorem xU {k_1} (aD:K7 (A26 [1,1,1,0,0,1,0,1,1,1,1]) sL k_1) (n:Nat):K11 (A26 [1,1,1,0,1,1,0,0,1,1,0,0,1,0,1,1,1,1]) afB (kG k_1 n):=fun QM t31 t32 t33 t69 b3 b6 b10 b12 xS b0 r h=>ie h (fun c0 g0=>by subst c0;exact (
 be g0 fun x9 hx9 g0=>be g0 fun x11 cu g0=>ra (aD g0) [(0,R64.frz 304400 xS),(8,.call (cd (e:=65) (z:=true) (Q:=aN x9) (ev55 n hx9) (R64.len x9)) [.one (.sx 0 0)] [] []),(0,.call (RP n cu) [.one .same,.one .same,.one .same,.one .same,.one (.sx 0 0)] [(330300000,100100)] [])])) (fun c0 g0=>by subst c0;exact (
 ie g0 (fun c1 g0=>ie g0 (fun c2 g1=>by subst c2;exact (
 be g1 fun x14 dU g1=>ra (aD g1) [(2,eb c1),(10,.call (RP n dU) [.one .same,.one .same,.one .same,.one .same,.one (.sx 65 3)] [(330300000,100100)] [])])) (fun c2 g1=>by subst c2;exact (
 ra (aD g1) [(2,eb c1)]))) (fun c1 g0=>ra (aD g0) [(2,eb c1)])))
def nJ (k_2:aaf) (n:Nat) (t31:Wq3) (t32 t33:Int) (b3:ag) (b6 b10:ai) (b0:Wq9):Option (ai×Int):=
 k_2 t31 t32 (w64 (t33+1)) b3 (ai.mk []) (ai.mk b0) b0
theorem uP {k_2} (bS:K7 (A26 [0,1,0,1,1,1,1]) sL k_2) (n:Nat):K7 (A26 [1,1,1,0,0,1,0,1,1,1,1]) sL (nJ k_2 n):=fun t31 t32 t33 b3 b6 b10 b0 r h=>ra (bS h) []
def H0 (k_3:Sy) (back:aaf) (n:Nat) (t31:Wq3) (t32 t33:Int) (b3:ag) (b6 b10:ai) (b0:Wq9):Option (ai×Int):=
 if decide (t33<t32) then
 (idx t31 t33).bind fun x2=>(F35 n b3 (ai.mk b0) x2.au x2.aq).bind fun x13=>if x2.fOp==1 then
 if !x13.2 then
 (F67 n (ai.mk b0)).bind fun x29=>if decide (x29<512) then
 (F37 n b3 (ai.mk b0) x2.au x2.aq x2.aF).bind fun x42=>nJ back n t31 t32 t33 b3 (ai.mk []) (ai.mk x42.2) x42.2
 else
 if x2.fOp==2 then
 kG (nJ back n) n x13.2 t31 t32 t33 x13.2 b3 (ai.mk []) (ai.mk b0) x2 x13.1 b0
 else
 kG (nJ back n) n x13.2 t31 t32 t33 false b3 (ai.mk []) (ai.mk b0) x2 x13.1 b0
 else
 if x2.fOp==2 then
 kG (nJ back n) n x13.2 t31 t32 t33 x13.2 b3 (ai.mk []) (ai.mk b0) x2 x13.1 b0
 else
 kG (nJ back n) n x13.2 t31 t32 t33 false b3 (ai.mk []) (ai.mk b0) x2 x13.1 b0
 else
 if x2.fOp==2 then
 kG (nJ back n) n x13.2 t31 t32 t33 x13.2 b3 (ai.mk []) (ai.mk b0) x2 x13.1 b0
 else
 kG (nJ back n) n x13.2 t31 t32 t33 false b3 (ai.mk []) (ai.mk b0) x2 x13.1 b0
 else
 k_3 (ai.mk []) (ai.mk b0) b0
theorem alH {k_3} (bu:K3 (A26 [1,1,1,1,1]) Jy k_3) {back} (ay:K7 (A26 [0,1,0,1,1,1,1]) sL back) (n:Nat):K7 (A26 [0,1,0,1,1,1,1]) sL (H0 k_3 back n):=fun t31 t32 t33 b3 b6 b10 b0 r h=>ie h (fun c0 h=>be h fun x2 hx2 h=>be h fun x13 bH h=>ie h (fun c1 h=>ie h (fun c2 h=>be h fun x29 m7 h=>ie h (fun c3 h=>be h fun x42 mZ h=>ra (uP ay n h) [(0,eb c0),(0,R54.idx hx2),(9,.call (aZ.rn (m:=.sx 0 0) (k:=700000) (z:=false) (e:=66) (s:=1) (Q:=bN b0) (n:=b0.length) (xs:= [.agg (bj b3),.agg [.ms 700000 1 0 b0.length],.int .i64 x2.au,.slx 65 3 (aN x2.aq)]) (uD n bH) (by kernel_rfl) (by kernel_rfl) (by kernel_rfl) (R66.len b0) (by kernel_rfl) (by kernel_rfl) (R64.gI (fun _=>by kernel_rfl) x13.1)) [] [(330300000,700000)] [(304400,200000)]),(7,eb c1),(2,eb c2),(3,.call (aZ.QT (m:=.sx 0 0) (k:=700000) (z:=false) (e:=66) (s:=1) (Q:=bN b0) (n:=b0.length) (xs:= [.agg [.ms 700000 1 0 b0.length]]) (ZG n m7) (by kernel_rfl) (R66.len b0) (by kernel_rfl) (by kernel_rfl) (by kernel_rfl)) [] [(330300000,700000)] []),(0,eb c3),(10,.call (RP n mZ) [] [(330300000,100100)] [])]) (fun c3 h=>ie h (fun c4 h=>ra (xU (uP ay n) n h) [(0,eb c0),(0,R54.idx hx2),(9,.call (aZ.rn (m:=.sx 0 0) (k:=700000) (z:=false) (e:=66) (s:=1) (Q:=bN b0) (n:=b0.length) (xs:= [.agg (bj b3),.agg [.ms 700000 1 0 b0.length],.int .i64 x2.au,.slx 65 3 (aN x2.aq)]) (uD n bH) (by kernel_rfl) (by kernel_rfl) (by kernel_rfl) (R66.len b0) (by kernel_rfl) (by kernel_rfl) (R64.gI (fun _=>by kernel_rfl) x13.1)) [] [(330300000,700000)] [(304400,200000)]),(7,eb c1),(2,eb c2),(3,.call (aZ.QT (m:=.sx 0 0) (k:=700000) (z:=false) (e:=66) (s:=1) (Q:=bN b0) (n:=b0.length) (xs:= [.agg [.ms 700000 1 0 b0.length]]) (ZG n m7) (by kernel_rfl) (R66.len b0) (by kernel_rfl) (by kernel_rfl) (by kernel_rfl)) [] [(330300000,700000)] []),(0,eb c3),(4,eb c4)]) (fun c4 h=>ra (xU (uP ay n) n h) [(0,eb c0),(0,R54.idx hx2),(9,.call (aZ.rn (m:=.sx 0 0) (k:=700000) (z:=false) (e:=66) (s:=1) (Q:=bN b0) (n:=b0.length) (xs:= [.agg (bj b3),.agg [.ms 700000 1 0 b0.length],.int .i64 x2.au,.slx 65 3 (aN x2.aq)]) (uD n bH) (by kernel_rfl) (by kernel_rfl) (by kernel_rfl) (R66.len b0) (by kernel_rfl) (by kernel_rfl) (R64.gI (fun _=>by kernel_rfl) x13.1)) [] [(330300000,700000)] [(304400,200000)]),(7,eb c1),(2,eb c2),(3,.call (aZ.QT (m:=.sx 0 0) (k:=700000) (z:=false) (e:=66) (s:=1) (Q:=bN b0) (n:=b0.length) (xs:= [.agg [.ms 700000 1 0 b0.length]]) (ZG n m7) (by kernel_rfl) (R66.len b0) (by kernel_rfl) (by kernel_rfl) (by kernel_rfl)) [] [(330300000,700000)] []),(0,eb c3),(4,eb c4)]))) (fun c2 h=>ie h (fun c3 h=>ra (xU (uP ay n) n h) [(0,eb c0),(0,R54.idx hx2),(9,.call (aZ.rn (m:=.sx 0 0) (k:=700000) (z:=false) (e:=66) (s:=1) (Q:=bN b0) (n:=b0.length) (xs:= [.agg (bj b3),.agg [.ms 700000 1 0 b0.length],.int .i64 x2.au,.slx 65 3 (aN x2.aq)]) (uD n bH) (by kernel_rfl) (by kernel_rfl) (by kernel_rfl) (R66.len b0) (by kernel_rfl) (by kernel_rfl) (R64.gI (fun _=>by kernel_rfl) x13.1)) [] [(330300000,700000)] [(304400,200000)]),(7,eb c1),(2,eb c2),(6,eb c3)]) (fun c3 h=>ra (xU (uP ay n) n h) [(0,eb c0),(0,R54.idx hx2),(9,.call (aZ.rn (m:=.sx 0 0) (k:=700000) (z:=false) (e:=66) (s:=1) (Q:=bN b0) (n:=b0.length) (xs:= [.agg (bj b3),.agg [.ms 700000 1 0 b0.length],.int .i64 x2.au,.slx 65 3 (aN x2.aq)]) (uD n bH) (by kernel_rfl) (by kernel_rfl) (by kernel_rfl) (R66.len b0) (by kernel_rfl) (by kernel_rfl) (R64.gI (fun _=>by kernel_rfl) x13.1)) [] [(330300000,700000)] [(304400,200000)]),(7,eb c1),(2,eb c2),(6,eb c3)]))) (fun c1 h=>ie h (fun c2 h=>ra (xU (uP ay n) n h) [(0,eb c0),(0,R54.idx hx2),(9,.call (aZ.rn (m:=.sx 0 0) (k:=700000) (z:=false) (e:=66) (s:=1) (Q:=bN b0) (n:=b0.length) (xs:= [.agg (bj b3),.agg [.ms 700000 1 0 b0.length],.int .i64 x2.au,.slx 65 3 (aN x2.aq)]) (uD n bH) (by kernel_rfl) (by kernel_rfl) (by kernel_rfl) (R66.len b0) (by kernel_rfl) (by kernel_rfl) (R64.gI (fun _=>by kernel_rfl) x13.1)) [] [(330300000,700000)] [(304400,200000)]),(7,eb c1),(7,eb c2)]) (fun c2 h=>ra (xU (uP ay n) n h) [(0,eb c0),(0,R54.idx hx2),(9,.call (aZ.rn (m:=.sx 0 0) (k:=700000) (z:=false) (e:=66) (s:=1) (Q:=bN b0) (n:=b0.length) (xs:= [.agg (bj b3),.agg [.ms 700000 1 0 b0.length],.int .i64 x2.au,.slx 65 3 (aN x2.aq)]) (uD n bH) (by kernel_rfl) (by kernel_rfl) (by kernel_rfl) (R66.len b0) (by kernel_rfl) (by kernel_rfl) (R64.gI (fun _=>by kernel_rfl) x13.1)) [] [(330300000,700000)] [(304400,200000)]),(7,eb c1),(7,eb c2)]))) (fun c0 h=>ra (bu h) [(0,eb c0)])
def rP (k_3:Sy):Nat->Wq3->Int->Int->ag->ai->ai->Wq9->Option (ai×Int)
 |0,_,_,_,_,_,_,_=>none
 |n+1,t31,t32,t33,b3,b6,b10,b0=>H0 k_3 (rP k_3 n) n t31 t32 t33 b3 b6 b10 b0
theorem acU {k_3} (bu:K3 (A26 [1,1,1,1,1]) Jy k_3):∀n:Nat,K7 (A26 [0,1,0,1,1,1,1]) sL (rP k_3 n)
 |0=>fun _ _ _ _ _ _ _ _ h=>nz h
 |n+1=>fun _ _ _ _ _ _ _ _ h=>alH bu (acU bu n) n h
def TJ (n:Nat) (b6 b10:ai) (b0:Wq9):Option (ai×Int):=
 some ((ai.mk b0),0)
theorem alG (n:Nat):K3 (A26 [1,1,1,1,1]) Jy (TJ n):=fun b6 b10 b0 r h=>rr h [(3,R66.frz 330300000 b0),(0,.norm [] [(6,.flat [.sx 0 0])])]
def TH (n:Nat) (s0:ag) (st1:ai) (bA:Wq3):Option (ai×Int):=
 (F14 n s0 bA).bind fun x7=>if x7 !=0 then
 some ((ai.mk []),x7)
 else
 (F53 n s0 3 st1).bind fun x14=>if x14 !=0 then
 some ((ai.mk []),x14)
 else
 (F66 n st1).bind fun x20=>rP (TJ n) n bA (bA.length:Int) 0 s0 (ai.mk []) x20 x20.ae
theorem alF (n:Nat):K3 (A26 []) AT (TH n):=fun s0 st1 bA r h=>be h fun x7 hx7 h=>ie h (fun c0 h=>rr h [(6,.call (ZL n hx7) [] [] []),(2,eb c0),(4,.norm [] [(6,.flat [.sx 66 1])])]) (fun c0 h=>be h fun x14 dU h=>ie h (fun c1 h=>rr h [(6,.call (ZL n hx7) [] [] []),(2,eb c0),(2,.call (ev53 n dU) [] [] []),(2,eb c1),(4,.norm [] [(6,.flat [.sx 66 1])])]) (fun c1 h=>be h fun x20 kM h=>ra (acU (alG n) n h) [(6,.call (ZL n hx7) [] [] []),(2,eb c0),(2,.call (ev53 n dU) [] [] []),(2,eb c1),(1,.call (ev66 n kM) [] [] [(330300000,201000)]),(3,.eqv (R54.ax bA))]))
def F26 (n:Nat) (s0:ag) (st1:ai) (bA:Wq3):Option (ai×Int):=TH n s0 st1 bA
theorem ZJ (n:Nat):K3 C26 AT (F26 n):=fun _ _ _ _ h=>ca (X:=x26) (alF n h)
def aaZ (r:Bool):AV:=.bool r
def VE (r:Bool):List (Nat×Bx):= []
def x68:=fx E0 Tryz.f68 [] []
def A68:=Ax x68 aaZ VE
def C68:=Cx E0 68 aaZ VE
def I4 (a0 b1:Wq8) (t12 t13:Int):LS:=⟨[(0,.slx 43 1 (bG a0)),(1,.slx 43 1 (bG b1)),(12,.int .i64 t12),(13,.int .i64 t13)],[]⟩
def I3:LS:=⟨[],[]⟩
def Uc (a0 b1:Wq8):LS:=⟨[(0,.slx 43 1 (bG a0)),(1,.slx 43 1 (bG b1))],[]⟩
def G9 (k_1:Option Bool) (back:Wq8->Wq8->Int->Int->Option Bool) (n:Nat) (a0 b1:Wq8) (t12 t13:Int):Option Bool:=
 if decide (t13<t12) then
 (idx a0 t13).bind fun x6=>(idx b1 t13).bind fun x11=>(F22 n x6 x11).bind fun x14=>if x14 !=0 then
 some false
 else
 back a0 b1 t12 (w64 (t13+1))
 else
 k_1
theorem ajW {k_1} (aD:K0 (A68 [1,1,1]) I3 k_1) {back} (ay:K4 (A68 [0,1,0,1,1]) I4 back) (n:Nat):K4 (A68 [0,1,0,1,1]) I4 (G9 k_1 back n):=fun a0 b1 t12 t13 r h=>ie h (fun c0 h=>be h fun x6 hx6 h=>be h fun x11 cu h=>be h fun x14 dU h=>ie h (fun c1 h=>rr h [(0,eb c0),(4,R42.idx hx6),(3,R42.idx cu),(1,.call (qD n dU) [] [] []),(0,eb c1)]) (fun c1 h=>ra (ay h) [(0,eb c0),(4,R42.idx hx6),(3,R42.idx cu),(1,.call (qD n dU) [] [] []),(0,eb c1)])) (fun c0 h=>ra (aD h) [(0,eb c0)])
def yo (k_1:Option Bool):Nat->Wq8->Wq8->Int->Int->Option Bool
 |0,_,_,_,_=>none
 |n+1,a0,b1,t12,t13=>G9 k_1 (yo k_1 n) n a0 b1 t12 t13
theorem acr {k_1} (aD:K0 (A68 [1,1,1]) I3 k_1):∀n:Nat,K4 (A68 [0,1,0,1,1]) I4 (yo k_1 n)
 |0=>fun _ _ _ _ _ h=>nz h
 |n+1=>fun _ _ _ _ _ h=>ajW aD (acr aD n) n h
def G8 (n:Nat):Option Bool:=
 some true
theorem ajV (n:Nat):K0 (A68 [1,1,1]) I3 (G8 n):=fun r h=>rr h []
def Tc (n:Nat) (a0 b1:Wq8):Option Bool:=
 if (a0.length:Int) !=(b1.length:Int) then
 some false
 else
 yo (G8 n) n a0 b1 (a0.length:Int) 0
theorem ajU (n:Nat):K2 (A68 []) Uc (Tc n):=fun a0 b1 r h=>ie h (fun c0 h=>rr h [(2,.eqv (R42.ax a0)),(1,.eqv (R42.ax b1)),(0,eb c0)]) (fun c0 h=>ra (acr (ajV n) n h) [(2,.eqv (R42.ax a0)),(1,.eqv (R42.ax b1)),(0,eb c0),(1,.eqv (R42.ax a0))])
def F68 (n:Nat) (a0 b1:Wq8):Option Bool:=Tc n a0 b1
theorem ev68 (n:Nat):K2 C68 Uc (F68 n):=fun _ _ _ h=>ca (X:=x68) (ajU n h)
def abF (r:Bool):AV:=.bool r
def Wa (r:Bool):List (Nat×Bx):= []
def x27:=fx E0 Tryz.f27 [] []
def A27:=Ax x27 abF Wa
def C27:=Cx E0 27 abF Wa
def Jx (t15 t16:Int) (b2 b3:ai):LS:=⟨[(2,.loc 2 0),(3,.loc 3 0),(15,.int .i64 t15),(16,.int .i64 t16)],[(2,.flat 33 (dD b2)),(3,.flat 33 (dD b3))]⟩
def Jw:LS:=⟨[],[]⟩
def Uq (a0 b1:ai):LS:=⟨[(0,.agg (dD a0)),(1,.agg (dD b1))],[]⟩
def HZ (k_1:Option Bool) (back:Int->Int->ai->ai->Option Bool) (n:Nat) (t15 t16:Int) (b2 b3:ai):Option Bool:=
 if decide (t16<t15) then
 (idx b2.ae t16).bind fun x7=>(idx b3.ae t16).bind fun x13=>(F68 n x7 x13).bind fun x16=>if !x16 then
 some false
 else
 back t15 (w64 (t16+1)) b2 b3
 else
 k_1
theorem alE {k_1} (aD:K0 (A27 [1,1,1]) Jw k_1) {back} (ay:K4 (A27 [0,1,0,1,1]) Jx back) (n:Nat):K4 (A27 [0,1,0,1,1]) Jx (HZ k_1 back n):=fun t15 t16 b2 b3 r h=>ie h (fun c0 h=>be h fun x7 hx7 h=>be h fun x13 bH h=>be h fun x16 de h=>ie h (fun c1 h=>rr h [(0,eb c0),(5,R66.idx hx7),(4,R66.idx bH),(1,.call (ev68 n de) [] [] []),(0,eb c1)]) (fun c1 h=>ra (ay h) [(0,eb c0),(5,R66.idx hx7),(4,R66.idx bH),(1,.call (ev68 n de) [] [] []),(0,eb c1)])) (fun c0 h=>ra (aD h) [(0,eb c0)])
def yJ (k_1:Option Bool):Nat->Int->Int->ai->ai->Option Bool
 |0,_,_,_,_=>none
 |n+1,t15,t16,b2,b3=>HZ k_1 (yJ k_1 n) n t15 t16 b2 b3
theorem acT {k_1} (aD:K0 (A27 [1,1,1]) Jw k_1):∀n:Nat,K4 (A27 [0,1,0,1,1]) Jx (yJ k_1 n)
 |0=>fun _ _ _ _ _ h=>nz h
 |n+1=>fun _ _ _ _ _ h=>alE aD (acT aD n) n h
def HY (n:Nat):Option Bool:=
 some true
theorem alD (n:Nat):K0 (A27 [1,1,1]) Jw (HY n):=fun r h=>rr h []
def TG (n:Nat) (a0 b1:ai):Option Bool:=
 if (a0.ae.length:Int) !=(b1.ae.length:Int) then
 some false
 else
 yJ (HY n) n (a0.ae.length:Int) 0 a0 b1
theorem alC (n:Nat):K2 (A27 []) Uq (TG n):=fun a0 b1 r h=>ie h (fun c0 h=>rr h [(5,.eqv (R66.ax a0.ae)),(2,.eqv (R66.ax b1.ae)),(0,eb c0)]) (fun c0 h=>ra (acT (alD n) n h) [(5,.eqv (R66.ax a0.ae)),(2,.eqv (R66.ax b1.ae)),(0,eb c0),(2,.eqv (R66.ax a0.ae))])
def F27 (n:Nat) (a0 b1:ai):Option Bool:=TG n a0 b1
theorem ev27 (n:Nat):K2 C27 Uq (F27 n):=fun _ _ _ h=>ca (X:=x27) (alC n h)
def res6 (r:Bool):AV:=.bool r
def abS (r:Bool):List (Nat×Bx):= []
def x6:=fx E0 Tryz.f6 [] []
def A6:=Ax x6 res6 abS
def C6:=Cx E0 6 res6 abS
def aij (hY:Wq3) (i10:Int) (l12:Wq3) (b5:ai) (b18:ak) (b8:ag) (b9 b11:ai):LS:=⟨[(1,.slx 55 5 (cy hY)),(5,.loc 5 0),(7,.loc 18 0),(8,.loc 8 0),(9,.loc 9 0),(10,.int .i64 i10),(11,.loc 11 0),(12,.slx 55 5 (cy l12))],[(5,.flat 33 (dD b5)),(8,.flat 26 (bj b8)),(9,.flat 33 (dD b9)),(11,.flat 33 (dD b11)),(18,.flat 74 (bQ b18))]⟩
def FZ (hY:Wq3) (i10:Int) (b5:ai) (b18:ak) (b8:ag) (b9:ai):LS:=⟨[(1,.slx 55 5 (cy hY)),(5,.loc 5 0),(7,.loc 18 0),(8,.loc 8 0),(9,.loc 9 0),(10,.int .i64 i10)],[(5,.flat 33 (dD b5)),(8,.flat 26 (bj b8)),(9,.flat 33 (dD b9)),(18,.flat 74 (bQ b18))]⟩
def Ql:LS:=⟨[],[]⟩
def Qk (gD:Wq0) (hY:Wq3) (lZ:ai):LS:=⟨[(0,.slx 5 1 (nu gD)),(1,.slx 55 5 (cy hY)),(2,.agg (dD lZ))],[]⟩
def Aq (k_1:Wf44) (n:Nat) (hY:Wq3) (i10:Int) (l12:Wq3) (b5:ai) (b18:ak) (b8:ag) (b9 b11:ai):Option Bool:=
 (F25 n b8 b11 l12).bind fun x4=>(F26 n b8 b11 l12).bind fun x15=>if x4.2 !=x15.2 then
 some false
 else
 (F27 n x4.1 x15.1).bind fun x29=>if !x29 then
 some false
 else
 k_1 hY (w64 (i10+1)) b5 b18 b8 b9
theorem Sp {k_1} (aD:K6 (A6 [0,1,0,1,1,1,1]) FZ k_1) (n:Nat):K8 (A6 [1,1,0,0,1,0,0,1,0,1,1,1,1]) aij (Aq k_1 n):=fun hY i10 l12 b5 b18 b8 b9 b11 r h=>be h fun x4 hx4 h=>be h fun x15 cA h=>ie h (fun c0 h=>rr h [(3,.call (ZK n hx4) [] [] []),(9,.call (ZJ n cA) [] [] []),(8,eb c0)]) (fun c0 h=>be h fun x29 m7 h=>ie h (fun c1 h=>rr h [(3,.call (ZK n hx4) [] [] []),(9,.call (ZJ n cA) [] [] []),(8,eb c0),(3,.call (ev27 n m7) [] [] []),(0,eb c1)]) (fun c1 h=>ra (aD h) [(3,.call (ZK n hx4) [] [] []),(9,.call (ZJ n cA) [] [] []),(8,eb c0),(3,.call (ev27 n m7) [] [] []),(0,eb c1)]))
def Ta (k_2:Option Bool) (back:Wf44) (n:Nat) (hY:Wq3) (i10:Int) (b5:ai) (b18:ak) (b8:ag) (b9:ai):Option Bool:=
 if decide (i10<4) then
 (F10 n b18 b8 b9 5).bind fun x7=>if i10==1 then
 (F13 n x7.2 x7.1).bind fun x17=>Aq back n hY i10 x17.1 b5 x17.2 b8 b9 b9
 else
 if i10==2 then
 Aq back n hY i10 hY b5 x7.2 b8 b9 b9
 else
 if i10==3 then
 Aq back n hY i10 x7.1 b5 x7.2 b8 b9 b5
 else
 Aq back n hY i10 x7.1 b5 x7.2 b8 b9 b9
 else
 k_2
theorem b6_1 {k_2} (bS:K0 (A6 [1,1,1,1,1]) Ql k_2) {back} (ay:K6 (A6 [0,1,0,1,1,1,1]) FZ back) (n:Nat):K6 (A6 [0,1,0,1,1,1,1]) FZ (Ta k_2 back n):=fun hY i10 b5 b18 b8 b9 r h=>ie h (fun c0 h=>be h fun x7 hx7 h=>ie h (fun c1 h=>be h fun x17 gy h=>ra (Sp ay n h) [(1,eb c0),(4,.call (RV n hx7) [] [(18,0)] [(35,200000)]),(4,eb c1),(3,R54.frz 35 x7.1),(0,.call (ev13 n gy) [.one .same,.one (.sx 0 0)] [(18,0)] [(41,200000)]),(1,R54.frz 41 x17.1)]) (fun c1 h=>ie h (fun c2 h=>ra (Sp ay n h) [(1,eb c0),(4,.call (RV n hx7) [] [(18,0)] [(35,200000)]),(4,eb c1),(1,eb c2)]) (fun c2 h=>ie h (fun c3 h=>ra (Sp ay n h) [(1,eb c0),(4,.call (RV n hx7) [] [(18,0)] [(35,200000)]),(4,eb c1),(1,eb c2),(1,eb c3),(3,R54.frz 35 x7.1)]) (fun c3 h=>ra (Sp ay n h) [(1,eb c0),(4,.call (RV n hx7) [] [(18,0)] [(35,200000)]),(4,eb c1),(1,eb c2),(1,eb c3),(1,R54.frz 35 x7.1)])))) (fun c0 h=>ra (bS h) [(1,eb c0)])
def sv (k_2:Option Bool):Nat->Wq3->Int->ai->ak->ag->ai->Option Bool
 |0,_,_,_,_,_,_=>none
 |n+1,hY,i10,b5,b18,b8,b9=>Ta k_2 (sv k_2 n) n hY i10 b5 b18 b8 b9
theorem l6_1 {k_2} (bS:K0 (A6 [1,1,1,1,1]) Ql k_2):∀n:Nat,K6 (A6 [0,1,0,1,1,1,1]) FZ (sv k_2 n)
 |0=>fun _ _ _ _ _ _ _ h=>nz h
 |n+1=>fun _ _ _ _ _ _ _ h=>b6_1 bS (l6_1 bS n) n h
def xe (n:Nat):Option Bool:=
 (F15 n).bind fun x1=>some x1
theorem b6_2 (n:Nat):K0 (A6 [1,1,1,1,1]) Ql (xe n):=fun r h=>be h fun x1 hx1 h=>rr h [(0,.call (ev15 n hx1) [] [] [])]
def aas (n:Nat) (gD:Wq0) (hY:Wq3) (lZ:ai):Option Bool:=
 (F8 n gD 400).bind fun x4=>(F9 n x4).bind fun x8=>(F24 n x8.2 3).bind fun x15=>(F11 n x15.2 x8.1 (w64 (1+x15.1))).bind fun x18=>sv (xe n) n hY 0 lZ x18.2 x8.1 x18.1
theorem b6_3 (n:Nat):K3 (A6 []) Qk (aas n):=fun gD hY lZ r h=>be h fun x4 hx4 h=>be h fun x8 hx8 h=>be h fun x15 cA h=>be h fun x18 gx h=>ra (l6_1 (b6_2 n) n h) [(3,.call (ev8 n hx4) [] [] [(18,200000)]),(2,.call (ev9 n hx8) [] [(18,0)] []),(5,.call (bU n cA) [] [(18,0)] []),(1,.call (ev11 n gx) [] [(18,0)] [])]
def F6 (n:Nat) (gD:Wq0) (hY:Wq3) (lZ:ai):Option Bool:=aas n gD hY lZ
theorem ev6 (n:Nat):K3 C6 Qk (F6 n):=fun _ _ _ _ h=>ca (X:=x6) (b6_3 n h)
def x56:=fx E0 Tryz.f56 [] [200000]
def x58:=fx E0 Tryz.f58 [] []
def x59:=fx E0 Tryz.f59 [] []
def x20:=fx E0 Tryz.f20 [] []
def Ew (t:TypeId):Bool:= [2,3,5,9,22,23,31,33,43,53,55,65,66].contains t
theorem Qd (t:TypeId) (h:Ew t=true):sA Tryz.prog Ew t=true:=by
 have sh:([2,3,5,9,22,23,31,33,43,53,55,65,66].all fun t=>sA Tryz.prog Ew t)=true:=by kernel_rfl
 exact List.all_eq_true.1 sh t (List.contains_iff_mem.1 h)
theorem ty5 (n:Nat) (xs:List AV) (h:bJ Tryz.prog n 5 xs):∃x,xs=LU x:=by
 match n,h with
 |n+1,h=>
  simp only[bJ,Tryz.underlying5] at h;obtain ⟨x,rfl,_⟩:=h;exact ⟨x,rfl⟩
theorem ty22 (n:Nat) (xs:List AV) (h:bJ Tryz.prog n 22 xs):∃x,xs= [.slx 5 1 (nu x)]:=by
 match n,h with
 |n+1,h=>
  simp only[bJ,Tryz.underlying22] at h;obtain ⟨rows,rfl,hr⟩:=h;obtain ⟨y,rfl⟩:=pL fun r hr'=>ty5 n r (hr r hr')
  exact ⟨y,by rw[ET,show Tryz.prog.cellsOf 5=1 from by kernel_rfl];try rfl⟩
theorem ty3 (n:Nat) (xs:List AV) (h:bJ Tryz.prog n 3 xs):∃x,xs=En x:=by
 match n,h with
 |n+1,h=>
  simp only[bJ,Tryz.underlying3] at h;obtain ⟨x,rfl,_⟩:=h;exact ⟨x,rfl⟩
theorem ty2 (n:Nat) (xs:List AV) (h:bJ Tryz.prog n 2 xs):∃x,xs=enc2 x:=by
 match n,h with
 |n+1,h=>
  simp only[bJ,Tryz.underlying2] at h;obtain ⟨x,rfl,_⟩:=h;exact ⟨x,rfl⟩
theorem ty9 (n:Nat) (xs:List AV) (h:bJ Tryz.prog n 9 xs):∃x,xs=enc9 x:=by
 match n,h with
 |n+1,h=>
  simp only[bJ,Tryz.underlying9] at h;obtain ⟨x,rfl,_⟩:=h;exact ⟨x,rfl⟩
theorem ty65 (n:Nat) (xs:List AV) (h:bJ Tryz.prog n 65 xs):∃x,xs=iW x:=by
 match n,h with
 |n+1,h=>
  simp only[bJ,Tryz.underlying65] at h;obtain ⟨xss,rfl,h2⟩:=h;match xss,h2 with
  | [a0,a1,a2],⟨h0,h1,h2,_⟩=>
   obtain ⟨y0,rfl⟩:=ty3 _ _ h0;obtain ⟨y1,rfl⟩:=ty2 _ _ h1;obtain ⟨y2,rfl⟩:=ty9 _ _ h2;exact ⟨⟨y0,y1,y2⟩,rfl⟩
theorem Ya (n:Nat) (xs:List AV) (h:bJ Tryz.prog n 43 xs):∃x,xs= [.slx 65 3 (aN x)]:=by
 match n,h with
 |n+1,h=>
  simp only[bJ,Tryz.underlying43] at h;obtain ⟨rows,rfl,hr⟩:=h;obtain ⟨y,rfl⟩:=pL fun r hr'=>ty65 n r (hr r hr')
  exact ⟨y,by rw[tO,show Tryz.prog.cellsOf 65=3 from by kernel_rfl];try rfl⟩
theorem ty53 (n:Nat) (xs:List AV) (h:bJ Tryz.prog n 53 xs):∃x,xs= [.slx 3 1 (ba x)]:=by
 match n,h with
 |n+1,h=>
  simp only[bJ,Tryz.underlying53] at h;obtain ⟨rows,rfl,hr⟩:=h;obtain ⟨y,rfl⟩:=pL fun r hr'=>ty3 n r (hr r hr')
  exact ⟨y,by rw[vJ,show Tryz.prog.cellsOf 3=1 from by kernel_rfl];try rfl⟩
theorem ty55 (n:Nat) (xs:List AV) (h:bJ Tryz.prog n 55 xs):∃x,xs=dR x:=by
 match n,h with
 |n+1,h=>
  simp only[bJ,Tryz.underlying55] at h;obtain ⟨xss,rfl,h2⟩:=h;match xss,h2 with
  | [a0,a1,a2,a3,a4],⟨h0,h1,h2,h3,h4,_⟩=>
   obtain ⟨y0,rfl⟩:=ty3 _ _ h0;obtain ⟨y1,rfl⟩:=ty3 _ _ h1;obtain ⟨y2,rfl⟩:=Ya _ _ h2;obtain ⟨y3,rfl⟩:=ty53 _ _ h3;obtain ⟨y4,rfl⟩:=Ya _ _ h4;exact ⟨⟨y0,y1,y2,y3,y4⟩,rfl⟩
theorem ty23 (n:Nat) (xs:List AV) (h:bJ Tryz.prog n 23 xs):∃x,xs= [.slx 55 5 (cy x)]:=by
 match n,h with
 |n+1,h=>
  simp only[bJ,Tryz.underlying23] at h;obtain ⟨rows,rfl,hr⟩:=h;obtain ⟨y,rfl⟩:=pL fun r hr'=>ty55 n r (hr r hr')
  exact ⟨y,by rw[tP,show Tryz.prog.cellsOf 55=5 from by kernel_rfl];try rfl⟩
theorem ty66 (n:Nat) (xs:List AV) (h:bJ Tryz.prog n 66 xs):∃x,xs= [.slx 43 1 (bG x)]:=by
 match n,h with
 |n+1,h=>
  simp only[bJ,Tryz.underlying66] at h;obtain ⟨rows,rfl,hr⟩:=h;obtain ⟨y,rfl⟩:=pL fun r hr'=>Ya n r (hr r hr')
  exact ⟨y,by rw[tQ,show Tryz.prog.cellsOf 43=1 from by kernel_rfl];try rfl⟩
theorem ty31 (n:Nat) (xs:List AV) (h:bJ Tryz.prog n 31 xs):∃x,xs= [.slx 66 1 (bN x)]:=by
 match n,h with
 |n+1,h=>
  simp only[bJ,Tryz.underlying31] at h;obtain ⟨rows,rfl,hr⟩:=h;obtain ⟨y,rfl⟩:=pL fun r hr'=>ty66 n r (hr r hr')
  exact ⟨y,by rw[tN,show Tryz.prog.cellsOf 66=1 from by kernel_rfl];try rfl⟩
theorem ty33 (n:Nat) (xs:List AV) (h:bJ Tryz.prog n 33 xs):∃x,xs=dD x:=by
 match n,h with
 |n+1,h=>
  simp only[bJ,Tryz.underlying33] at h;obtain ⟨xss,rfl,h2⟩:=h;match xss,h2 with
  | [a0],⟨h0,_⟩=>
   obtain ⟨y0,rfl⟩:=ty31 _ _ h0;exact ⟨⟨y0⟩,rfl⟩
theorem bI {x:Int} (h1: -9223372036854775808<=x) (h2:x<=9223372036854775807):w64 x=x:=IntWalk.i64_in x ⟨h1,h2⟩
theorem aJ {α:Type} (xs:List α) (i:Nat):idx xs (i:Int)=xs[i]? :=by simp[idx]
mutual
def szP:an->Nat
 |⟨_,_,_,_,args⟩=>2+szL args
def szL:Wq7->Nat
 | []=>0
 |x::xs=>1+szP x+szL xs
end
theorem pE (xs:Wq7):xs.length<=szL xs:=by
 induction xs with
 |nil=>simp[szL]
 |cons x xs ih=>simp[szL];omega
def zv:aI:=aI.mk 0 0 ByteArray.empty
def dk (v:aI):Bool:=
 if v.aw==1||v.aw==2 then v.bM==0&&decide (v.bl=ByteArray.empty)
 else if v.aw==3 then (v.bM==0||v.bM==1)&&decide (v.bl=ByteArray.empty)
 else if v.aw==4 then decide (v.bl=ByteArray.empty)
 else if v.aw==5 then v.bM==0&&decide ((v.bl.size:Int)<=64)
 else false
def fD (v:aI):Bool:=dk v&&decide (3<=v.aw)
theorem tB (n:Nat) (v:aI):F88 n v=some (dk v):=by
 unfold F88 SX dk;by_cases h1:v.aw=1<;>by_cases h2:v.aw=2<;>by_cases h3:v.aw=3<;>by_cases h4:v.aw=4<;>by_cases h5:v.aw=5<;>by_cases h6:v.bM=0<;>by_cases h7:v.bM=1<;>simp_all<;>simp[<-Int.not_le]
theorem EH (n:Nat) (v:aI):SS n v=some (dk v):=by
 have:=tB n v;exact this
theorem NI {v:aI} (h:dk v=true):1<=v.aw/\v.aw<=5:=by
 unfold dk at h;split at h
 ·rename_i h1;simp at h1;omega
 ·split at h
  ·rename_i h1;simp at h1;omega
  ·split at h
   ·rename_i h1;simp at h1;omega
   ·split at h
    ·rename_i h1;simp at h1;omega
    ·simp at h
theorem afd (n:Nat) (v:aI):SH n v=some (fD v):=by
 unfold SH Nf;rw[tB];simp only[Option.bind_some,fD];cases dk v<;>simp<;>simp[<-Int.not_le]
theorem XT (n:Nat) (v:aI):F80 n v=some (fD v):=by
 unfold F80 S3;rw[EH];simp only[Option.bind_some,fD];cases h:dk v with
 |false=>simp
 |true=>
  have:=NI h;by_cases h1:v.aw=1
  ·simp[h1]
  ·by_cases h2:v.aw=2
   ·simp[h2]
   ·have:3<=v.aw:=by omega
    simp[h1,h2,this]
theorem Fz:∀a b:List UInt8,Lib.compareBytes a b=if Op.bytesLess a b then -1 else if a=b then 0 else 1
 | [],[]=>by simp[Lib.compareBytes,Op.bytesLess]
 | [],_::_=>by simp[Lib.compareBytes,Op.bytesLess]
 |_::_,[]=>by simp[Lib.compareBytes,Op.bytesLess]
 |a::l,b::m=>by
  rw[Lib.compareBytes,Op.bytesLess,Fz l m];by_cases h:a<b
  ·simp[h]
  ·by_cases h2:b<a
   ·have hne:a≠b:=fun e=>by subst e;exact absurd h2 (UInt8.lt_irrefl _)
    simp[h,h2,hne]
   ·have he:a=b:=UInt8.le_antisymm (UInt8.not_lt.1 h2) (UInt8.not_lt.1 h);subst he;simp[UInt8.lt_irrefl]
def fU (a b:aI):Int:=
 if a.aw<b.aw then -1 else if b.aw<a.aw then 1
 else if a.bM<b.bM then -1 else if b.bM<a.bM then 1
 else if Op.bytesLess a.bl.toList b.bl.toList then -1 else if a.bl=b.bl then 0 else 1
theorem g5:∀a:List UInt8,Op.bytesLess a a=false
 | []=>by simp[Op.bytesLess]
 |a::l=>by simp[Op.bytesLess,g5 l,UInt8.lt_irrefl]
theorem oA {a b:ByteArray} (h:a.data.toList=b.data.toList):a=b:=by
 cases a;cases b;simp at h;simp[h]
theorem ma (a:ByteArray):a.toList=a.data.toList:=by
 exact ByteArray.toList_eq a
theorem ahL (n:Nat) (a b:aI):F61 n a b=some (fU a b):=by
 unfold F61 Tl fU;by_cases h1:a.aw<b.aw
 ·simp[h1]
 ·by_cases h2:b.aw<a.aw
  ·simp[h1,h2]
  ·by_cases h3:a.bM<b.bM
   ·simp[h1,h2,h3]
   ·by_cases h4:b.bM<a.bM
    ·simp[h1,h2,h3,h4]
    ·by_cases h5:Op.bytesLess a.bl.toList b.bl.toList=true
     ·simp[h1,h2,h3,h4,h5]
     ·by_cases h6:a.bl=b.bl
      ·simp[h1,h2,h3,h4,h6,g5]
      ·have h7:¬a.bl.toList=b.bl.toList:=fun e=>h6 (oA (by rw[ma,ma] at e;exact e))
       simp[h1,h2,h3,h4,h5,h6,h7]
theorem aal (n:Nat) (a b:ByteArray):SG n a b=some (if Op.bytesLess a.toList b.toList then -1 else if a=b then 0 else 1):=by
 unfold SG;rw[Fz,ma,ma];by_cases h:a=b
 ·subst h;simp
 ·have:a.data.toList≠b.data.toList:=fun e=>h (oA e)
  simp[h,this]
theorem afh (n:Nat) (a b:Int):SM n a b=some (if a<b then -1 else if b<a then 1 else 0):=by
 unfold SM No SK Ni;by_cases h1:a<b
 ·simp[h1]
 ·by_cases h2:b<a<;>simp[h1,h2]
theorem afg (n:Nat) (a b:Int):SL n a b=some (if a<b then -1 else if b<a then 1 else 0):=by
 unfold SL Nn SJ Nh;by_cases h1:a<b
 ·simp[h1]
 ·by_cases h2:b<a<;>simp[h1,h2]
theorem ahx (n:Nat) (a b:aI):F95 n a b=some (fU a b):=by
 unfold F95 SW aan Nm aam Ng;rw[afh,afg,aal];obtain ⟨k,i,t⟩:=a;obtain ⟨k',i',t'⟩:=b;unfold fU;simp only[Option.bind_some];by_cases h1:k<k'
 ·have:k≠k':=by omega
  simp[h1,this]
 ·by_cases h2:k'<k
  ·have:k≠k':=by omega
   simp[h1,h2,this]
  ·have hk:k=k':=by omega
   subst hk;by_cases h3:i<i'
   ·have:i≠i':=by omega
    simp[h3,this]
   ·by_cases h4:i'<i
    ·have:i≠i':=by omega
     simp[h3,h4,this]
    ·have hi:i=i':=by omega
     subst hi;by_cases h5:t=t'
     ·subst h5;simp[g5]
     ·simp[h5]
theorem aK {α:Type} {xs:List α} {i:Nat} {x:α} {l:List α} (h:xs.drop i=x::l):xs[i]? =some x/\xs.drop (i+1)=l/\i<xs.length:=by
 have h1:i<xs.length:=by
  by_cases hl:i<xs.length
  ·exact hl
  ·rw[List.drop_of_length_le (by omega)] at h;simp at h
 rw[List.drop_eq_getElem_cons h1] at h;obtain ⟨q1,q2⟩:=List.cons.inj h;exact ⟨by simp[h1,q1],q2,h1⟩
theorem pD {x:an} {xs:Wq7} (h:x∈xs):szP x+xs.length<=szL xs:=by
 induction xs with
 |nil=>simp at h
 |cons y ys ih=>
  have hl:=pE ys;simp only[szL,List.length_cons];rcases List.mem_cons.1 h with rfl|h
  ·omega
  ·have:=ih h;omega
def Ok {α:Type} (x:Option α) (P:α->Prop):Prop:=∃a,x=some a/\P a
theorem Ok.pure {α:Type} {a:α} {P:α->Prop} (h:P a):Ok (some a) P:=⟨a,rfl,h⟩
theorem Ok.bind {α β:Type} {x:Option α} {f:α->Option β} {P:α->Prop} {Q:β->Prop} (h:Ok x P) (k:∀a,P a->Ok (f a) Q):Ok (x.bind f) Q:=by
 obtain ⟨a,rfl,ha⟩:=h;exact k a ha
theorem Ok.mono {α:Type} {x:Option α} {P Q:α->Prop} (h:Ok x P) (k:∀a,P a->Q a):Ok x Q:=by
 obtain ⟨a,h1,h2⟩:=h;exact ⟨a,h1,k a h2⟩
theorem Ok.ite {α:Type} {b:Bool} {x y:Option α} {P:α->Prop} (h1:b=true->Ok x P) (h2:b=false->Ok y P):Ok (if b=true then x else y) P:=by
 cases b with
 |true=>simpa using h1 rfl
 |false=>simpa using h2 rfl
structure aT (c:ak):Prop where
 lo:0<=c.fat
 hi:c.fat<=c.ga.length
 len:c.ga.length<=1000
 byte:∀x∈c.ga,0<=x/\x<=255
theorem cB {α:Type} (xs ys:List α) (h:xs.length+ys.length<=1000000):app xs ys=some (xs++ys):=by unfold app;rw[if_pos (by omega)]
theorem amp (n:Nat) (bq:Wq0) (m:Int) (hb:∀x∈bq,0<=x/\x<=255) (h0:0<=m) (h1:m<=1000):Ok (F8 n bq m) aT:=by
 unfold F8 aar;have hc:∃k:Nat,(if m<(bq.length:Int) then m else (bq.length:Int))=(k:Int)/\k<=bq.length/\k<=1000:=by
  by_cases h:m<(bq.length:Int)
  ·exact ⟨m.toNat,by rw[if_pos h];omega,by omega,by omega⟩
  ·exact ⟨bq.length,by rw[if_neg h],Nat.le_refl _,by omega⟩
 obtain ⟨k,e,k1,k2⟩:=hc;rw[e];have h2:cut bq none (some (k:Int))=some (bq.take k):=by simp[cut,k1]
 rw[h2,Option.bind_some,cB _ _ (by simp;omega),Option.bind_some]
 refine Ok.pure ⟨Int.le_refl _,by simp,by simp;omega,fun x hx=> ?_⟩
 exact hb x (List.mem_of_mem_take (by simpa using hx))
theorem dw (n:Nat) (c:ak) (m:Int) (h:aT c):Ok (F24 n c m) fun r=>aT r.2/\0<=r.1/\(1<=m->r.1<m)/\(m<1->r.1=0)/\r.1<=255:=by
 unfold F24 TM;refine Ok.ite (fun h1=>Ok.pure ⟨h,Int.le_refl _,fun h=>by omega,fun _=>rfl,by omega⟩) fun h1=> ?_
 simp at h1;refine Ok.ite (fun h2=>Ok.pure ⟨h,Int.le_refl _,fun h=>by omega,fun _=>rfl,by omega⟩) fun h2=> ?_
 simp at h2;have h3:=h.lo;have h4:=h.len;rw[bI (x:=c.fat+1) (by omega) (by omega),bI (by omega) (by omega)]
 have e:c.fat+1-1=(c.fat.toNat:Int):=by omega
 have hlt:c.fat.toNat<c.ga.length:=by omega
 rw[e,aJ,List.getElem?_eq_getElem hlt,Option.bind_some];have hb:=h.byte (c.ga[c.fat.toNat]) (List.getElem_mem _);rw[bI (by omega) (by omega)]
 have hm:m≠0:=by omega
 simp only[rem,hm,if_false,Option.bind_some];have q1:=Int.tmod_nonneg m hb.1;have q2:=Int.tmod_lt_of_pos c.ga[c.fat.toNat] (by omega:0<m)
 have q3:c.ga[c.fat.toNat].tmod m<=c.ga[c.fat.toNat]:=by
  rw[Int.tmod_eq_emod_of_nonneg hb.1];have:=Int.emod_add_mul_ediv c.ga[c.fat.toNat] m;have h5:0<=m*(c.ga[c.fat.toNat] / m):=Int.mul_nonneg (by omega) (Int.ediv_nonneg hb.1 (by omega))
  omega
 exact Ok.pure ⟨⟨by simp;omega,by simp;omega,h4,h.byte⟩,q1,fun _=>q2,fun h=>by omega,by simp;omega⟩
theorem iM (n:Nat) (c:ak) (m:Int) (h:aT c):Ok (F29 n c m) fun r=>aT r.2:=by
 unfold F29 TE;refine Ok.bind (dw n c m h) fun r hr=> ?_
 exact Ok.pure hr.1
theorem afk (n:Nat) (c:ak) (h:aT c):Ok (SQ n c) fun r=>aT r.2/\ -9223372036854775808<=r.1/\r.1<=9223372036854775807:=by
 unfold SQ Ny;refine Ok.bind (dw n c 12 h) fun r ⟨hr,h0,_,_,h2⟩=> ?_
 refine Ok.ite (fun _=>Ok.pure ⟨hr,by simp,by simp⟩) fun _=> ?_
 refine Ok.ite (fun _=>Ok.pure ⟨hr,by simp,by simp⟩) fun _=> ?_
 refine Ok.ite (fun _=>Ok.pure ⟨hr,by simp,by simp⟩) fun _=> ?_
 have q1:=Int.tmod_nonneg 4 h0;have q2:=Int.tmod_lt_of_pos r.1 (by omega:(0:Int)<4)
 exact Ok.pure ⟨hr,by simp;omega,by simp;omega⟩
theorem FF (c:ak):∀(k n:Nat) (s:ByteArray) (i:Int),i=64-k->k<=64->s.size=64-k->k<n->Ok (tq (fun l b=>some (l,b)) n s i c) fun r=>r.2=c/\r.1.size<=64
 |0,n+1,s,i,hi,_,hs,_=>by
  have h:¬i<64:=by omega
  simp only[tq,CK,h,decide_false,Bool.false_eq_true,if_false];exact Ok.pure ⟨rfl,by simp;omega⟩
 |k+1,n+1,s,i,hi,hk,hs,hn=>by
  have h:i<64:=by omega
  simp only[tq,CK,h,decide_true,if_true];have hc:cat s (ByteArray.mk #[255])=some (s++ByteArray.mk #[255]):=by
   have:(ByteArray.mk #[255]).size=1:=rfl;unfold cat;rw[if_pos (by omega)]
  rw[hc,Option.bind_some,bI (by omega) (by omega)]
  have hsz:(s++ByteArray.mk #[255]).size=s.size+1:=by rw[ByteArray.size_append];rfl
  exact FF c k n _ _ (by omega) (by omega) (by omega) (by omega)
 |_,0,_,_,_,_,_,hn=>by simp at hn
theorem FE (c:ak):∀(k n:Nat) (s:ByteArray) (i:Int),i=64-k->k<=64->s.size=64-k->k<n->Ok (tp (fun l b=>some (l,b)) n s i c) fun r=>r.2=c/\r.1.size<=64
 |0,n+1,s,i,hi,_,hs,_=>by
  have h:¬i<64:=by omega
  simp only[tp,CJ,h,decide_false,Bool.false_eq_true,if_false];exact Ok.pure ⟨rfl,by simp;omega⟩
 |k+1,n+1,s,i,hi,hk,hs,hn=>by
  have h:i<64:=by omega
  simp only[tp,CJ,h,decide_true,if_true];have hc:cat s (ByteArray.mk #[98])=some (s++ByteArray.mk #[98]):=by
   have:(ByteArray.mk #[98]).size=1:=rfl;unfold cat;rw[if_pos (by omega)]
  rw[hc,Option.bind_some,bI (by omega) (by omega)]
  have hsz:(s++ByteArray.mk #[98]).size=s.size+1:=by rw[ByteArray.size_append];rfl
  exact FE c k n _ _ (by omega) (by omega) (by omega) (by omega)
 |_,0,_,_,_,_,_,hn=>by simp at hn
theorem afj (n:Nat) (hn:100<=n) (c:ak) (h:aT c):Ok (SP n c) fun r=>aT r.2/\r.1.size<=64:=by
 unfold SP Nx;refine Ok.bind (dw n c 10 h) fun r ⟨hr,_⟩=> ?_
 refine Ok.ite (fun _=>Ok.pure ⟨hr,Nat.le_of_ble_eq_true rfl⟩) fun _=> ?_
 refine Ok.ite (fun _=>Ok.pure ⟨hr,Nat.le_of_ble_eq_true rfl⟩) fun _=> ?_
 refine Ok.ite (fun _=>Ok.pure ⟨hr,Nat.le_of_ble_eq_true rfl⟩) fun _=> ?_
 refine Ok.ite (fun _=>Ok.pure ⟨hr,Nat.le_of_ble_eq_true rfl⟩) fun _=> ?_
 refine Ok.ite (fun _=>Ok.pure ⟨hr,Nat.le_of_ble_eq_true rfl⟩) fun _=> ?_
 refine Ok.ite (fun _=>Ok.pure ⟨hr,Nat.le_of_ble_eq_true rfl⟩) fun _=> ?_
 refine Ok.ite (fun _=>Ok.pure ⟨hr,Nat.le_of_ble_eq_true rfl⟩) fun _=> ?_
 refine Ok.ite (fun _=>Ok.pure ⟨hr,Nat.le_of_ble_eq_true rfl⟩) fun _=> ?_
 refine Ok.ite (fun _=> ?_) fun _=> ?_
 ·exact (FF r.2 64 n ByteArray.empty 0 (by omega) (by omega) rfl (by omega)).mono fun x ⟨e,hx⟩=>⟨by rw[e];exact hr,hx⟩
 ·exact (FE r.2 64 n ByteArray.empty 0 (by omega) (by omega) rfl (by omega)).mono fun x ⟨e,hx⟩=>⟨by rw[e];exact hr,hx⟩
theorem w9 (n:Nat) (hn:100<=n) (c:ak) (k:Int) (h:aT c) (hk:3<=k) (hk':k<=5):Ok (F74 n c k) fun r=>aT r.2/\r.1.aw=k/\fD r.1=true:=by
 unfold F74 S6;refine Ok.ite (fun h3=> ?_) fun h3=> ?_
 ·simp at h3;refine Ok.bind (dw n c 2 h) fun r ⟨hr,h0,h1,_⟩=>Ok.pure ⟨hr,rfl,?_⟩
  have h1:=h1 (by omega)
  have:r.1=0\/r.1=1:=by omega
  rcases this with e|e<;>simp[fD,dk,h3,e]
 ·simp at h3;refine Ok.ite (fun h4=> ?_) fun h4=> ?_
  ·simp at h4;refine Ok.bind (afk n c h) fun r ⟨hr,_⟩=>Ok.pure ⟨hr,rfl,by simp[fD,dk,h4]⟩
  ·simp at h4;refine Ok.bind (afj n hn c h) fun r ⟨hr,hs⟩=>Ok.pure ⟨hr,by simp;omega,?_⟩
   have:(r.1.size:Int)<=64:=by omega
   simp[fD,dk,this]
theorem MY (n:Nat) (hn:100<=n) (c:ak) (h:aT c):Ok (F43 n c) fun r=>aT r.2/\1<=r.1.aw/\r.1.aw<=5/\(3<=r.1.aw->fD r.1=true):=by
 unfold F43 Tq;refine Ok.bind (dw n c 5 h) fun r ⟨hr,h0,h1,_⟩=> ?_
 have h1:=h1 (by omega)
 rw[bI (by omega) (by omega)]
 refine Ok.ite (fun h2=> ?_) fun h2=> ?_
 ·simp at h2;exact Ok.pure ⟨hr,by simp;omega,by simp;omega,by simp;omega⟩
 ·simp at h2;refine Ok.bind (w9 n hn r.2 (1+r.1) hr (by omega) (by omega)) fun x ⟨hx,e,hre⟩=>Ok.pure ⟨hx,by simp;omega,by simp;omega,fun _=>hre⟩
end Go.Proofs.YtmealahmjddpcaaGreatDoor
end
