/- Texts that belong together. The first: Functions of the program as plain functions, and that the program answers as they do; written by a program (comp2.py). -/
import Derived.Test.YtmealahmjddpcaaGreatDoorP8
import Derived.KernelRfl
set_option linter.all false
set_option maxRecDepth 100000
noncomputable section
namespace Go.Proofs.YtmealahmjddpcaaGreatDoor
open Go.Sim
def abU (r:Wq0):AV:=.ms 200000 1 0 r.length
def Ww (r:Wq0):List (Nat×Bx):= [(200000,.rows true 3 1 (bq r))]
def x32:=fx E0 Tryz.f32 [] [200000]
def A32:=Ax x32 abU Ww
def C32:=Cx E0 32 abU Ww
def I9 (t22:Wq4) (t23 t24:Int) (b32:Wq0):LS:=⟨[(5,.ms 32 1 0 b32.length),(22,.slice 77 2 (oj t22)),(23,.int .i64 t23),(24,.int .i64 t24)],[(32,.rows true 3 1 (bq b32))]⟩
def I8 (b32:Wq0):LS:=⟨[(5,.ms 32 1 0 b32.length)],[(32,.rows true 3 1 (bq b32))]⟩
def UG (s0:af) (aU:Int):LS:=⟨[(0,.agg (ba s0)),(1,.int .i64 aU)],[]⟩
def HE (k_1:Wq0->Option Wq0) (back:Wq4->Int->Int->Wq0->Option Wq0) (n:Nat) (t22:Wq4) (t23 t24:Int) (b32:Wq0):Option Wq0:=
 if decide (t24<t23) then
 (idx t22 t24).bind fun x2=>
 (app b32 [x2.aw]).bind fun x11=>
 back t22 t23 (w64 (t24+1)) x11
 else
 k_1 b32
theorem akU {k_1} (aJ:K1 (A32 [1,1,1,1]) I8 k_1) {back} (aD:K4 (A32 [0,1,0,1,1,1]) I9 back) (n:Nat):K4 (A32 [0,1,0,1,1,1]) I9 (HE k_1 back n):=fun t22 t23 t24 b32 r h=>
 ie h (fun c0 h=>
 be h fun x2 hx2 h=>
 be h fun x11 ct h=>
 ra (aD h) [(0,eb c0),(0,R76.idx hx2),(7,R3.app ct (R3.srW [x2.aw]))]) (fun c0 h=>
 ra (aJ h) [(0,eb c0)])
def yp (k_1:Wq0->Option Wq0):Nat->Wq4->Int->Int->Wq0->Option Wq0
 |0,_,_,_,_=>none
 |n+1,t22,t23,t24,b32=>HE k_1 (yp k_1 n) n t22 t23 t24 b32
theorem acS {k_1} (aJ:K1 (A32 [1,1,1,1]) I8 k_1):∀n:Nat,K4 (A32 [0,1,0,1,1,1]) I9 (yp k_1 n)
 |0=>fun _ _ _ _ _ h=>nz h
 |n+1=>fun _ _ _ _ _ h=>akU aJ (acS aJ n) n h
def HD (n:Nat) (b32:Wq0):Option Wq0:=
 some b32
theorem akT (n:Nat):K1 (A32 [1,1,1,1]) I8 (HD n):=fun b32 r h=>
 rr h [(2,.ren 32 200000)]
def Tl (n:Nat) (s0:af) (aU:Int):Option Wq0:=
 if decide (aU<0) then
 some []
 else
 if !decide (aU<(s0.ag.length:Int)) then
 some []
 else
 (idx s0.ag aU).bind fun x16=>
 yp (HD n) n x16.ak (x16.ak.length:Int) 0 []
theorem akS (n:Nat):K2 (A32 []) UG (Tl n):=fun s0 aU r h=>
 ie h (fun c0 h=>
 rr h [(3,eb c0),(3,.born [4] [] 200000 true 3 1)]) (fun c0 h=>
 ie h (fun c1 h=>
 rr h [(3,eb c0),(4,.eqv (R62.ax s0.ag)),(0,eb c1),(2,.born [4] [] 200000 true 3 1)]) (fun c1 h=>
 be h fun x16 cO h=>
 ra (acS (akT n) n h) [(3,eb c0),(4,.eqv (R62.ax s0.ag)),(0,eb c1),(5,R62.idx cO),(2,.eqv (R76.ax x16.ak)),(1,.born [5] [] 32 true 3 1)]))
def F32 (n:Nat) (s0:af) (aU:Int):Option Wq0:=Tl n s0 aU
theorem Lv (n:Nat):K2 C32 UG (F32 n):=fun _ _ _ h=>ca (X:=x32) (akS n h)
def res9 (r:(af×aj)):AV:=.agg (ba r.1)
def acm (r:(af×aj)):List (Nat×Bx):= [(0,.flat 74 (bI r.2))]
def x9:=fx E0 Tryz.f9 [0] [0]
def A9:=Ax x9 res9 acm
def C9:=Cx E0 9 res9 acm
def ais (b0:aj) (b2 b5:af) (b32:Wq1):LS:=⟨[(0,.loc 0 0),(2,.loc 2 0),(5,.loc 5 0)],[(0,.flat 74 (bI b0)),(2,.flat 26 [.int .i64 0,.aT]),(5,.flat 26 [.int .i64 b5.bQ,.ms 32 5 0 b32.length]),(32,.rows false 63 5 (dC b32))]⟩
def air (n3:Int) (b0:aj) (b2 b5:af) (b32:Wq1):LS:=⟨[(0,.loc 0 0),(2,.loc 2 0),(3,.int .i64 n3),(5,.loc 5 0)],[(0,.flat 74 (bI b0)),(2,.flat 26 [.int .i64 0,.aT]),(5,.flat 26 [.int .i64 b5.bQ,.ms 32 5 0 b32.length]),(32,.rows false 63 5 (dC b32))]⟩
def aiq (n3:Int) (b0:aj) (b2 b5:af) (b32:Wq1):LS:=⟨[(0,.loc 0 0),(2,.loc 2 0),(3,.int .i64 n3),(5,.loc 5 0)],[(0,.flat 74 (bI b0)),(2,.flat 26 [.int .i64 0,.aT]),(5,.flat 26 [.int .i64 b5.bQ,.ms 32 5 0 b32.length]),(32,.rows false 63 5 (dC b32))]⟩
def aip (n3 id4:Int) (b0:aj) (b2:af):LS:=⟨[(0,.loc 0 0),(2,.loc 2 0),(3,.int .i64 n3),(4,.int .i64 id4)],[(0,.flat 74 (bI b0)),(2,.flat 26 [.int .i64 0,.aT])]⟩
def aaT (c0:aj):LS:=⟨[(0,.loc 0 0)],[(0,.flat 74 (bI c0))]⟩
def Al (n:Nat) (b0:aj) (b2 b5:af) (b32:Wq1):Option (af×aj):=
 (F29 n b0 3).bind fun x2=>
 if x2.1 then
 (F32 n (af.mk b5.bQ b32) 1).bind fun x8=>
 (F31 n x2.2 x8 [] 1).bind fun x10=>
 (bnd b32.length 1).bind fun x13=>
 (b32[0+x13]?).bind fun x16=>
 (setAt b32 (0+x13) (ay.mk x16.cJ x16.ak x16.au x16.cf [x10.1])).bind fun z18=>
 some ((af.mk b5.bQ z18),x10.2)
 else
 some ((af.mk b5.bQ b32),x2.2)
theorem aaC (n:Nat):K4 (A9 [1,1,1,1,1,1,1,1,1]) ais (Al n):=fun b0 b2 b5 b32 r h=>
 be h fun x2 hx2 h=>
 ie h (fun c0_ h=>
 be h fun x8 hx8 h=>
 be h fun x10 de h=>
 be h fun x13 bY h=>
 be h fun x16 cO h=>
 be h fun z18 Ea h=>
 rr h [(1,.call (cb (fT n hx2) c0_) [] [(0,0)] []),(4,.call (cd (e:=3) (z:=true) (Q:=bq x8) (bl.lend (m:=.same) (k:=700000) (z:=false) (e:=63) (s:=5) (Q:=dC b32) (n:=b32.length) (xs:= [.agg [.int .i64 b5.bQ,.ms 700000 5 0 b32.length],.int .i64 1]) (Lv n hx8) (by kernel_rfl) (R62.len b32) (by kernel_rfl) (by kernel_rfl) (R3.lJ (fun _=>by kernel_rfl) x8)) (R3.len x8)) [] [(32,700000)] []),(0,.call (ev31 n de) [.one .same,.one (.sl 0 0),.one (.sl 3 1)] [(0,0)] []),(0,.laid (congrArg (fun q_=>Bx.rows false 84 13 q_) (R83.map [x10.1]).symm)),(0,eA bY),(1,R62.hol 4 cO),(0,R83.frz 82 [x10.1]),(0,R62.clo 32 4 (.slice 84 13 (il [x10.1])) .undef cO Ea (by kernel_rfl)),(2,.seq 77 (congrArg (fun n_=>(AV.ms 32 5 0 n_)) ((dT Ea).symm))),(0,.seq 79 (congrArg (fun n_=>(AV.agg [.int .i64 b5.bQ,.ms 32 5 0 n_])) ((dT Ea).symm))),(0,.seq 85 (congrArg (fun n_=>(AV.agg [.int .i64 b5.bQ,.ms 32 5 0 n_])) ((dT Ea).symm))),(0,.beq 2 (congrArg (fun n_=>(Bx.flat 26 [.int .i64 b5.bQ,.ms 32 5 0 n_])) ((dT Ea).symm))),(0,.beq 5 (congrArg (fun n_=>(Bx.flat 26 [.int .i64 b5.bQ,.ms 32 5 0 n_])) ((dT Ea).symm))),(0,R62.frz 32 z18)]) (fun c0_ h=>
 rr h [(1,.call (cb (fT n hx2) c0_) [] [(0,0)] []),(2,R62.frz 32 b32)])
def xc (n:Nat) (n3:Int) (b0:aj) (b2 b5:af) (b32:Wq1):Option (af×aj):=
 if decide (3<n3) then
 (F29 n b0 3).bind fun x5=>
 if x5.1 then
 (bnd b32.length 3).bind fun x13=>
 (b32[0+x13]?).bind fun x16=>
 (setAt b32 (0+x13) (ay.mk x16.cJ x16.ak x16.au [(bU.mk [0] 1)] x16.dS)).bind fun z17=>
 Al n x5.2 (af.mk 0 []) (af.mk b5.bQ z17) z17
 else
 Al n x5.2 (af.mk 0 []) (af.mk b5.bQ b32) b32
 else
 Al n b0 (af.mk 0 []) (af.mk b5.bQ b32) b32
theorem aaB (n:Nat):K5 (A9 [1,1,1,1,1,1,1,1]) air (xc n):=fun n3 b0 b2 b5 b32 r h=>
 ie h (fun c0_ h=>
 be h fun x5 hx5 h=>
 ie h (fun c1 h=>
 be h fun x13 bY h=>
 be h fun x16 cO h=>
 be h fun z17 KU h=>
 ra (aaC n h) [(1,eb c0_),(2,.call (cb (fT n hx5) c1) [] [(0,0)] []),(5,R3.frz 69 [0]),(1,eA bY),(1,R79.frz 71 [(bU.mk [0] 1)]),(0,R62.sto 3 [.slice 80 2 (mE [(bU.mk [0] 1)])] cO KU (by kernel_rfl)),(0,.beq 5 (congrArg (fun n_=>(Bx.flat 26 [.int .i64 b5.bQ,.ms 32 5 0 n_])) ((dT KU).symm)))]) (fun c1 h=>
 ra (aaC n h) [(1,eb c0_),(2,.call (cb (fT n hx5) c1) [] [(0,0)] [])])) (fun c0_ h=>
 ra (aaC n h) [(1,eb c0_)])
def Ak (n:Nat) (n3:Int) (b0:aj) (b2 b5:af) (b32:Wq1):Option (af×aj):=
 if decide (2<n3) then
 (F29 n b0 3).bind fun x5=>
 if x5.1 then
 (bnd b32.length 2).bind fun x13=>
 (b32[0+x13]?).bind fun x16=>
 (setAt b32 (0+x13) (ay.mk x16.cJ x16.ak x16.au [(bU.mk [0] 0)] x16.dS)).bind fun z17=>
 xc n n3 x5.2 (af.mk 0 []) (af.mk b5.bQ z17) z17
 else
 xc n n3 x5.2 (af.mk 0 []) (af.mk b5.bQ b32) b32
 else
 xc n n3 b0 (af.mk 0 []) (af.mk b5.bQ b32) b32
theorem b9_2 (n:Nat):K5 (A9 [1,1,1,1,1,1,1]) aiq (Ak n):=fun n3 b0 b2 b5 b32 r h=>
 ie h (fun c0_ h=>
 be h fun x5 hx5 h=>
 ie h (fun c1 h=>
 be h fun x13 bY h=>
 be h fun x16 cO h=>
 be h fun z17 KU h=>
 ra (aaB n h) [(1,eb c0_),(2,.call (cb (fT n hx5) c1) [] [(0,0)] []),(5,R3.frz 56 [0]),(1,eA bY),(1,R79.frz 58 [(bU.mk [0] 0)]),(0,R62.sto 3 [.slice 80 2 (mE [(bU.mk [0] 0)])] cO KU (by kernel_rfl)),(0,.beq 5 (congrArg (fun n_=>(Bx.flat 26 [.int .i64 b5.bQ,.ms 32 5 0 n_])) ((dT KU).symm)))]) (fun c1 h=>
 ra (aaB n h) [(1,eb c0_),(2,.call (cb (fT n hx5) c1) [] [(0,0)] [])])) (fun c0_ h=>
 ra (aaB n h) [(1,eb c0_)])
def MN (n:Nat) (n3 id4:Int) (b0:aj) (b2:af):Option (af×aj):=
 (F24 n b0 3).bind fun x2=>
 (F30 n (ByteArray.mk #[105,100]) 4).bind fun x4=>
 (F30 n (ByteArray.mk #[111,119,110,101,114]) 4).bind fun x6=>
 (F30 n (ByteArray.mk #[105,100]) id4).bind fun x11=>
 (F30 n (ByteArray.mk #[112,114,111,106,101,99,116]) 4).bind fun x13=>
 (F30 n (ByteArray.mk #[116,105,116,108,101]) 5).bind fun x15=>
 (F30 n (ByteArray.mk #[100,111,110,101]) 3).bind fun x17=>
 (F30 n (ByteArray.mk #[112,114,111,106,101,99,116]) 4).bind fun x21=>
 (F30 n (ByteArray.mk #[112,101,114,115,111,110]) 4).bind fun x23=>
 (F30 n (ByteArray.mk #[116,97,115,107]) id4).bind fun x28=>
 (gA 4 n3).bind fun x39=>
 (F29 n x2.2 2).bind fun x44=>
 if x44.1 then
 (bnd x39 1).bind fun x51=>
 ([(ay.mk (ByteArray.mk #[112,114,111,106,101,99,116,115]) [x4,x6] 1 [] []),(ay.mk (ByteArray.mk #[116,97,115,107,115]) [x11,x13,x15,x17] 1 [] []),(ay.mk (ByteArray.mk #[109,101,109,98,101,114,115]) [x21,x23] 2 [] []),(ay.mk (ByteArray.mk #[97,114,99,104,105,118,101,100]) [x28] 1 [] [])][0+x51]?).bind fun x54=>
 (setAt [(ay.mk (ByteArray.mk #[112,114,111,106,101,99,116,115]) [x4,x6] 1 [] []),(ay.mk (ByteArray.mk #[116,97,115,107,115]) [x11,x13,x15,x17] 1 [] []),(ay.mk (ByteArray.mk #[109,101,109,98,101,114,115]) [x21,x23] 2 [] []),(ay.mk (ByteArray.mk #[97,114,99,104,105,118,101,100]) [x28] 1 [] [])] (0+x51) (ay.mk x54.cJ x54.ak x54.au [(bU.mk [1] 0)] x54.dS)).bind fun z55=>
 Ak n n3 x44.2 (af.mk 0 []) (af.mk x2.1 (z55.take x39)) (z55.take x39)
 else
 Ak n n3 x44.2 (af.mk 0 []) (af.mk x2.1 ([(ay.mk (ByteArray.mk #[112,114,111,106,101,99,116,115]) [x4,x6] 1 [] []),(ay.mk (ByteArray.mk #[116,97,115,107,115]) [x11,x13,x15,x17] 1 [] []),(ay.mk (ByteArray.mk #[109,101,109,98,101,114,115]) [x21,x23] 2 [] []),(ay.mk (ByteArray.mk #[97,114,99,104,105,118,101,100]) [x28] 1 [] [])].take x39)) ([(ay.mk (ByteArray.mk #[112,114,111,106,101,99,116,115]) [x4,x6] 1 [] []),(ay.mk (ByteArray.mk #[116,97,115,107,115]) [x11,x13,x15,x17] 1 [] []),(ay.mk (ByteArray.mk #[109,101,109,98,101,114,115]) [x21,x23] 2 [] []),(ay.mk (ByteArray.mk #[97,114,99,104,105,118,101,100]) [x28] 1 [] [])].take x39)
theorem b9_3 (n:Nat):K4 (A9 [1,1,1,1]) aip (MN n):=fun n3 id4 b0 b2 r h=>
 be h fun x2 hx2 h=>
 be h fun x4 hx4 h=>
 be h fun x6 hx6 h=>
 be h fun x11 ct h=>
 be h fun x13 bY h=>
 be h fun x15 fA h=>
 be h fun x17 dZ h=>
 be h fun x21 iI h=>
 be h fun x23 fy h=>
 be h fun x28 kE h=>
 be h fun x39 zQ h=>
 be h fun x44 Ra h=>
 ie h (fun c0_ h=>
 be h fun x51 ZG h=>
 be h fun x54 KX h=>
 be h fun z55 hz55 h=>
 ra (b9_2 n h) [(1,.call (dK n hx2) [] [(0,0)] []),(0,.call (km n hx4) [] [] []),(0,.call (km n hx6) [] [] []),(3,.call (km n ct) [] [] []),(0,.call (km n bY) [] [] []),(0,.call (km n fA) [] [] []),(0,.call (km n dZ) [] [] []),(2,.call (km n iI) [] [] []),(0,.call (km n fy) [] [] []),(3,.call (km n kE) [] [] []),(2,R76.frz 15 [x4,x6]),(0,.norm [(16,.agg [.same,.same,.same,.sl 80 2,.sl 84 13])] []),(0,R76.frz 22 [x11,x13,x15,x17]),(0,.norm [(23,.agg [.same,.same,.same,.sl 80 2,.sl 84 13])] []),(0,R76.frz 26 [x21,x23]),(0,.norm [(27,.agg [.same,.same,.same,.sl 80 2,.sl 84 13])] []),(0,R76.frz 30 [x28]),(0,.norm [(31,.agg [.same,.same,.same,.sl 80 2,.sl 84 13])] []),(7,R62.gA (xs:= [(ay.mk (ByteArray.mk #[112,114,111,106,101,99,116,115]) [x4,x6] 1 [] []),(ay.mk (ByteArray.mk #[116,97,115,107,115]) [x11,x13,x15,x17] 1 [] []),(ay.mk (ByteArray.mk #[109,101,109,98,101,114,115]) [x21,x23] 2 [] []),(ay.mk (ByteArray.mk #[97,114,99,104,105,118,101,100]) [x28] 1 [] [])]) zQ (Nat.le_of_eq rfl)),(3,.call (cb (fT n Ra) c0_) [] [(0,0)] []),(4,R3.frz 43 [1]),(1,eA ZG),(1,R79.frz 45 [(bU.mk [1] 0)]),(0,R62.sto 3 [.slice 80 2 (mE [(bU.mk [1] 0)])] KX hz55 (by kernel_rfl)),(0,.shr 32 (R62.take z55 x39)),(0,.beq 5 (congrArg (fun n_=>(Bx.flat 26 [.int .i64 x2.1,.ms 32 5 0 n_])) ((vx (xs:=z55) (Nat.le_trans (Nat.le_trans (kI zQ).2 (Nat.le_of_eq rfl)) (Nat.le_of_eq (dT hz55).symm))).symm)))]) (fun c0_ h=>
 ra (b9_2 n h) [(1,.call (dK n hx2) [] [(0,0)] []),(0,.call (km n hx4) [] [] []),(0,.call (km n hx6) [] [] []),(3,.call (km n ct) [] [] []),(0,.call (km n bY) [] [] []),(0,.call (km n fA) [] [] []),(0,.call (km n dZ) [] [] []),(2,.call (km n iI) [] [] []),(0,.call (km n fy) [] [] []),(3,.call (km n kE) [] [] []),(2,R76.frz 15 [x4,x6]),(0,.norm [(16,.agg [.same,.same,.same,.sl 80 2,.sl 84 13])] []),(0,R76.frz 22 [x11,x13,x15,x17]),(0,.norm [(23,.agg [.same,.same,.same,.sl 80 2,.sl 84 13])] []),(0,R76.frz 26 [x21,x23]),(0,.norm [(27,.agg [.same,.same,.same,.sl 80 2,.sl 84 13])] []),(0,R76.frz 30 [x28]),(0,.norm [(31,.agg [.same,.same,.same,.sl 80 2,.sl 84 13])] []),(7,R62.gA (xs:= [(ay.mk (ByteArray.mk #[112,114,111,106,101,99,116,115]) [x4,x6] 1 [] []),(ay.mk (ByteArray.mk #[116,97,115,107,115]) [x11,x13,x15,x17] 1 [] []),(ay.mk (ByteArray.mk #[109,101,109,98,101,114,115]) [x21,x23] 2 [] []),(ay.mk (ByteArray.mk #[97,114,99,104,105,118,101,100]) [x28] 1 [] [])]) zQ (Nat.le_of_eq rfl)),(3,.call (cb (fT n Ra) c0_) [] [(0,0)] []),(0,.shr 32 (R62.take [(ay.mk (ByteArray.mk #[112,114,111,106,101,99,116,115]) [x4,x6] 1 [] []),(ay.mk (ByteArray.mk #[116,97,115,107,115]) [x11,x13,x15,x17] 1 [] []),(ay.mk (ByteArray.mk #[109,101,109,98,101,114,115]) [x21,x23] 2 [] []),(ay.mk (ByteArray.mk #[97,114,99,104,105,118,101,100]) [x28] 1 [] [])] x39)),(0,.beq 5 (congrArg (fun n_=>(Bx.flat 26 [.int .i64 x2.1,.ms 32 5 0 n_])) ((vx (xs:= [(ay.mk (ByteArray.mk #[112,114,111,106,101,99,116,115]) [x4,x6] 1 [] []),(ay.mk (ByteArray.mk #[116,97,115,107,115]) [x11,x13,x15,x17] 1 [] []),(ay.mk (ByteArray.mk #[109,101,109,98,101,114,115]) [x21,x23] 2 [] []),(ay.mk (ByteArray.mk #[97,114,99,104,105,118,101,100]) [x28] 1 [] [])]) (Nat.le_trans (kI zQ).2 (Nat.le_of_eq rfl))).symm)))])
def aaK (n:Nat) (c0:aj):Option (af×aj):=
 (F24 n c0 3).bind fun x3=>
 (F29 n x3.2 5).bind fun x9_=>
 if x9_.1 then
 MN n (w64 (2+x3.1)) 5 x9_.2 (af.mk 0 [])
 else
 MN n (w64 (2+x3.1)) 4 x9_.2 (af.mk 0 [])
theorem b9_4 (n:Nat):K1 (A9 []) aaT (aaK n):=fun c0 r h=>
 be h fun x3 hx3 h=>
 be h fun x9_ hx9 h=>
 ie h (fun c0_ h=>
 ra (b9_3 n h) [(2,.call (dK n hx3) [] [(0,0)] []),(4,.call (cb (fT n hx9) c0_) [] [(0,0)] [])]) (fun c0_ h=>
 ra (b9_3 n h) [(2,.call (dK n hx3) [] [(0,0)] []),(4,.call (cb (fT n hx9) c0_) [] [(0,0)] [])])
def F9 (n:Nat) (c0:aj):Option (af×aj):=aaK n c0
theorem ev9 (n:Nat):K1 C9 aaT (F9 n):=fun _ _ h=>ca (X:=x9) (b9_4 n h)
def abT (r:(Wq2×aj)):AV:=.ms 200000 3 0 r.1.length
def Wv (r:(Wq2×aj)):List (Nat×Bx):= [(0,.flat 74 (bI r.2)),(200000,.rows true 65 3 (aL r.1))]
def x33:=fx E0 Tryz.f33 [0] [0,200000]
def A33:=Ax x33 abT Wv
def C33:=Cx E0 33 abT Wv
def afT (cr bk k11:Int) (t12:Wq0) (t13 t14:Int) (t41:Bool) (b0:aj) (b9:Wq2):LS:=⟨[(0,.loc 0 0),(2,.int .i64 cr),(3,.int .i64 bk),(9,.ms 9 3 0 b9.length),(11,.int .i64 k11),(12,.slice 3 1 (bq t12)),(13,.int .i64 t13),(14,.int .i64 t14),(41,.bool t41)],[(0,.flat 74 (bI b0)),(9,.rows true 65 3 (aL b9))]⟩
def UF (cr bk:Int) (t12:Wq0) (t13 t14:Int) (b0:aj) (b9:Wq2):LS:=⟨[(0,.loc 0 0),(2,.int .i64 cr),(3,.int .i64 bk),(9,.ms 9 3 0 b9.length),(12,.slice 3 1 (bq t12)),(13,.int .i64 t13),(14,.int .i64 t14)],[(0,.flat 74 (bI b0)),(9,.rows true 65 3 (aL b9))]⟩
def AI (cr bk:Int) (t12:Wq0) (t13 t14:Int) (b0:aj) (b9:Wq2):LS:=⟨[(0,.loc 0 0),(2,.int .i64 cr),(3,.int .i64 bk),(9,.ms 9 3 0 b9.length),(12,.slice 3 1 (bq t12)),(13,.int .i64 t13),(14,.int .i64 t14)],[(0,.flat 74 (bI b0)),(9,.rows true 65 3 (aL b9))]⟩
def I7 (b0:aj) (b9:Wq2):LS:=⟨[(9,.ms 9 3 0 b9.length)],[(0,.flat 74 (bI b0)),(9,.rows true 65 3 (aL b9))]⟩
def UE (c0:aj) (dF:Wq0) (cr bk:Int):LS:=⟨[(0,.loc 0 0),(1,.slice 3 1 (bq dF)),(2,.int .i64 cr),(3,.int .i64 bk)],[(0,.flat 74 (bI c0))]⟩
def od (k_1:Int->Int->Wq0->Int->Int->aj->Wq2->Option (Wq2×aj)) (n:Nat) (cr bk k11:Int) (t12:Wq0) (t13 t14:Int) (t41:Bool) (b0:aj) (b9:Wq2):Option (Wq2×aj):=
 if t41 then
 (app b9 [(aH.mk 1 0 ByteArray.empty)]).bind fun x4=>
 k_1 cr bk t12 t13 t14 b0 x4
 else
 (F74 n b0 k11).bind fun x4=>
 (app b9 [x4.1]).bind fun x7=>
 k_1 cr bk t12 t13 t14 x4.2 x7
theorem B4 {k_1} (aJ:K7 (A33 [1,1,1,0,0,1,0,1,1]) UF k_1) (n:Nat):K9 (A33 [1,1,1,0,1,0,0,1,1,0,0,1,0,1,1]) afT (od k_1 n):=fun cr bk k11 t12 t13 t14 t41 b0 b9 r h=>
 ie h (fun c0_ g0=>by subst c0_;exact (
 be g0 fun x4 hx4 g0=>
 ra (aJ g0) [(3,R64.app hx4 (R64.srW [(aH.mk 1 0 ByteArray.empty)]))])) (fun c0_ g0=>by subst c0_;exact (
 be g0 fun x4 hx4 g0=>
 be g0 fun x7 hx7 g0=>
 ra (aJ g0) [(3,.call (Rr n hx4) [] [(0,0)] []),(1,R64.app hx7 (R64.srW [x4.1]))]))
def lT (k_2:Int->Int->Wq0->Int->Int->aj->Wq2->Option (Wq2×aj)) (n:Nat) (cr bk:Int) (t12:Wq0) (t13 t14:Int) (b0:aj) (b9:Wq2):Option (Wq2×aj):=
 k_2 cr bk t12 t13 (w64 (t14+1)) b0 b9
theorem xO {k_2} (cS:K7 (A33 [0,1,0,1,1]) AI k_2) (n:Nat):K7 (A33 [1,1,1,0,0,1,0,1,1]) UF (lT k_2 n):=fun cr bk t12 t13 t14 b0 b9 r h=>
 ra (cS h) []
def yK (k_3:aj->Wq2->Option (Wq2×aj)) (back:Int->Int->Wq0->Int->Int->aj->Wq2->Option (Wq2×aj)) (n:Nat) (cr bk:Int) (t12:Wq0) (t13 t14:Int) (b0:aj) (b9:Wq2):Option (Wq2×aj):=
 if decide (t14<t13) then
 (idx t12 t14).bind fun x3=>
 if !decide (t14<cr) then
 if bk !=1 then
 (F29 n b0 5).bind fun x17=>
 if x17.1 then
 (app b9 [(aH.mk 2 0 ByteArray.empty)]).bind fun x24=>
 lT back n cr bk t12 t13 t14 x17.2 x24
 else
 if bk==3 then
 (F29 n x17.2 5).bind fun x30=>
 od (lT back n) n cr bk x3 t12 t13 t14 x30.1 x30.2 b9
 else
 od (lT back n) n cr bk x3 t12 t13 t14 false x17.2 b9
 else
 if bk==3 then
 (F29 n b0 5).bind fun x27=>
 od (lT back n) n cr bk x3 t12 t13 t14 x27.1 x27.2 b9
 else
 od (lT back n) n cr bk x3 t12 t13 t14 false b0 b9
 else
 od (lT back n) n cr bk x3 t12 t13 t14 false b0 b9
 else
 k_3 b0 b9
theorem akR {k_3} (bT:K2 (A33 [1,1,1]) I7 k_3) {back} (aD:K7 (A33 [0,1,0,1,1]) AI back) (n:Nat):K7 (A33 [0,1,0,1,1]) AI (yK k_3 back n):=fun cr bk t12 t13 t14 b0 b9 r h=>
 ie h (fun c0_ h=>
 be h fun x3 hx3 h=>
 ie h (fun c1 h=>
 ie h (fun c2 h=>
 be h fun x17 dZ h=>
 ie h (fun c3 h=>
 be h fun x24 l6 h=>
 ra (xO aD n h) [(0,eb c0_),(1,R3.idx hx3),(5,eb c1),(2,eb c2),(3,.call (cb (fT n dZ) c3) [] [(0,0)] []),(5,R64.app l6 (R64.srW [(aH.mk 2 0 ByteArray.empty)]))]) (fun c3 h=>
 ie h (fun c4 h=>
 be h fun x30 ZI h=>
 ra (B4 (xO aD n) n h) [(0,eb c0_),(1,R3.idx hx3),(5,eb c1),(2,eb c2),(3,.call (cb (fT n dZ) c3) [] [(0,0)] []),(4,eb c1),(2,eb c4),(3,.call (fT n ZI) [] [(0,0)] [])]) (fun c4 h=>
 ra (B4 (xO aD n) n h) [(0,eb c0_),(1,R3.idx hx3),(5,eb c1),(2,eb c2),(3,.call (cb (fT n dZ) c3) [] [(0,0)] []),(4,eb c1),(2,eb c4)]))) (fun c2 h=>
 ie h (fun c3 h=>
 be h fun x27 nv h=>
 ra (B4 (xO aD n) n h) [(0,eb c0_),(1,R3.idx hx3),(5,eb c1),(2,eb c2),(6,eb c1),(2,eb c3),(3,.call (fT n nv) [] [(0,0)] [])]) (fun c3 h=>
 ra (B4 (xO aD n) n h) [(0,eb c0_),(1,R3.idx hx3),(5,eb c1),(2,eb c2),(6,eb c1),(2,eb c3)]))) (fun c1 h=>
 ra (B4 (xO aD n) n h) [(0,eb c0_),(1,R3.idx hx3),(5,eb c1),(7,eb c1)])) (fun c0_ h=>
 ra (bT h) [(0,eb c0_)])
def lS (k_3:aj->Wq2->Option (Wq2×aj)):Nat->Int->Int->Wq0->Int->Int->aj->Wq2->Option (Wq2×aj)
 |0,_,_,_,_,_,_,_=>none
 |n+1,cr,bk,t12,t13,t14,b0,b9=>yK k_3 (lS k_3 n) n cr bk t12 t13 t14 b0 b9
theorem acR {k_3} (bT:K2 (A33 [1,1,1]) I7 k_3):∀n:Nat,K7 (A33 [0,1,0,1,1]) AI (lS k_3 n)
 |0=>fun _ _ _ _ _ _ _ _ h=>nz h
 |n+1=>fun _ _ _ _ _ _ _ _ h=>akR bT (acR bT n) n h
def pR (n:Nat) (b0:aj) (b9:Wq2):Option (Wq2×aj):=
 some (b9,b0)
theorem akQ (n:Nat):K2 (A33 [1,1,1]) I7 (pR n):=fun b0 b9 r h=>
 rr h [(2,.ren 9 200000)]
def aeg (n:Nat) (c0:aj) (dF:Wq0) (cr bk:Int):Option (Wq2×aj):=
 lS (pR n) n cr bk dF (dF.length:Int) 0 c0 []
theorem akP (n:Nat):K4 (A33 []) UE (aeg n):=fun c0 dF cr bk r h=>
 ra (acR (akQ n) n h) [(3,.eqv (R3.ax dF)),(1,.born [9] [] 9 true 65 3)]
def F33 (n:Nat) (c0:aj) (dF:Wq0) (cr bk:Int):Option (Wq2×aj):=aeg n c0 dF cr bk
theorem Ry (n:Nat):K4 C33 UE (F33 n):=fun _ _ _ _ _ h=>ca (X:=x33) (akP n h)
def abG (r:Wq2):AV:=.ms 200000 3 0 r.length
def Wh (r:Wq2):List (Nat×Bx):= [(200000,.rows true 65 3 (aL r))]
def x54:=fx E0 Tryz.f54 [] [200000]
def A54:=Ax x54 abG Wh
def C54:=Cx E0 54 abG Wh
def Uq (r0:Wq2):LS:=⟨[(0,.slice 65 3 (aL r0))],[]⟩
def S9 (n:Nat) (r0:Wq2):Option Wq2:=
 (app [] r0).bind fun x3=>
 some x3
theorem akq (n:Nat):K1 (A54 []) Uq (S9 n):=fun r0 r h=>
 be h fun x3 hx3 h=>
 rr h [(2,.born [] [] 4 true 65 3),(0,R64.app (xs:= []) hx3 .dat),(1,.ren 4 200000)]
def F54 (n:Nat) (r0:Wq2):Option Wq2:=S9 n r0
theorem Rw (n:Nat):K1 C54 Uq (F54 n):=fun _ _ h=>ca (X:=x54) (akq n h)
def abS (r:Wq2):AV:=.ms 200000 3 0 r.length
def Wu (r:Wq2):List (Nat×Bx):= [(200000,.rows true 65 3 (aL r))]
def x34:=fx E0 Tryz.f34 [] [200000]
def A34:=Ax x34 abS Wu
def C34:=Cx E0 34 abS Wu
def UC (s0:af) (aU:Int) (cy:Wq2):LS:=⟨[(0,.agg (ba s0)),(1,.int .i64 aU),(2,.slice 65 3 (aL cy))],[]⟩
def Tk (n:Nat) (s0:af) (aU:Int) (cy:Wq2):Option Wq2:=
 if decide (aU<0) then
 some []
 else
 if !decide (aU<(s0.ag.length:Int)) then
 some []
 else
 (idx s0.ag aU).bind fun x16=>
 (cut cy none (some (if 0<(if (cy.length:Int)<x16.au then (cy.length:Int) else x16.au) then (if (cy.length:Int)<x16.au then (cy.length:Int) else x16.au) else 0))).bind fun x24=>
 (F54 n x24).bind fun x26=>
 some x26
theorem akO (n:Nat):K3 (A34 []) UC (Tk n):=fun s0 aU cy r h=>
 ie h (fun c0 h=>
 rr h [(3,eb c0),(3,.born [6] [] 200000 true 65 3)]) (fun c0 h=>
 ie h (fun c1 h=>
 rr h [(3,eb c0),(4,.eqv (R62.ax s0.ag)),(0,eb c1),(2,.born [6] [] 200000 true 65 3)]) (fun c1 h=>
 be h fun x16 cO h=>
 be h fun x24 l6 h=>
 be h fun x26 jS h=>
 rr h [(3,eb c0),(4,.eqv (R62.ax s0.ag)),(0,eb c1),(5,R62.idx cO),(3,.eqv (R64.ax cy)),(2,R64.cut l6),(0,.call (Rw n jS) [] [] [(28,200000)]),(1,.ren 28 200000)]))
def F34 (n:Nat) (s0:af) (aU:Int) (cy:Wq2):Option Wq2:=Tk n s0 aU cy
theorem z6 (n:Nat):K3 C34 UC (F34 n):=fun _ _ _ _ h=>ca (X:=x34) (akO n h)
def abA (r:Int):AV:=.int .i64 r
def Wb (r:Int):List (Nat×Bx):= []
def x61:=fx E0 Tryz.f61 [] []
def A61:=Ax x61 abA Wb
def C61:=Cx E0 61 abA Wb
def Uj (a0 b1:aH):LS:=⟨[(0,.agg (jX a0)),(1,.agg (jX b1))],[]⟩
def S2 (n:Nat) (a0 b1:aH):Option Int:=
 if decide (a0.aw<b1.aw) then
 some (-1)
 else
 if decide (b1.aw<a0.aw) then
 some 1
 else
 if decide (a0.bM<b1.bM) then
 some (-1)
 else
 if decide (b1.bM<a0.bM) then
 some 1
 else
 if Op.bytesLess a0.bt.toList b1.bt.toList then
 some (-1)
 else
 if !(Op.bytesLess a0.bt.toList b1.bt.toList||a0.bt.toList==b1.bt.toList) then
 some 1
 else
 some 0
theorem ake (n:Nat):K2 (A61 []) Uj (S2 n):=fun a0 b1 r h=>
 ie h (fun c0 h=>
 rr h [(7,eb c0)]) (fun c0 h=>
 ie h (fun c1 h=>
 rr h [(7,eb c0),(5,eb c1)]) (fun c1 h=>
 ie h (fun c2 h=>
 rr h [(7,eb c0),(5,eb c1),(5,eb c2)]) (fun c2 h=>
 ie h (fun c3 h=>
 rr h [(7,eb c0),(5,eb c1),(5,eb c2),(5,eb c3)]) (fun c3 h=>
 ie h (fun c4 h=>
 rr h [(7,eb c0),(5,eb c1),(5,eb c2),(5,eb c3),(5,eb c4)]) (fun c4 h=>
 ie h (fun c5 h=>
 rr h [(7,eb c0),(5,eb c1),(5,eb c2),(5,eb c3),(5,eb c4),(5,eb c5)]) (fun c5 h=>
 rr h [(7,eb c0),(5,eb c1),(5,eb c2),(5,eb c3),(5,eb c4),(5,eb c5)]))))))
def F61 (n:Nat) (a0 b1:aH):Option Int:=S2 n a0 b1
theorem ev61 (n:Nat):K2 C61 Uj (F61 n):=fun _ _ _ h=>ca (X:=x61) (ake n h)
def acd (r:Int):AV:=.int .i64 r
def WG (r:Int):List (Nat×Bx):= []
def x22:=fx E0 Tryz.f22 [] []
def A22:=Ax x22 acd WG
def C22:=Cx E0 22 acd WG
def Jk (a0 b1:Wq2) (i5:Int):LS:=⟨[(0,.slice 65 3 (aL a0)),(1,.slice 65 3 (aL b1)),(5,.int .i64 i5)],[]⟩
def Jj (a0 b1:Wq2):LS:=⟨[(0,.slice 65 3 (aL a0)),(1,.slice 65 3 (aL b1))],[]⟩
def UP (a0 b1:Wq2):LS:=⟨[(0,.slice 65 3 (aL a0)),(1,.slice 65 3 (aL b1))],[]⟩
def HN (k_1:Wq2->Wq2->Option Int) (back:Wq2->Wq2->Int->Option Int) (n:Nat) (a0 b1:Wq2) (i5:Int):Option Int:=
 if decide (i5<(a0.length:Int)) then
 if decide (i5<(b1.length:Int)) then
 (idx a0 i5).bind fun x13=>
 (idx b1 i5).bind fun x18=>
 (F61 n x13 x18).bind fun x21=>
 if x21 !=0 then
 some x21
 else
 back a0 b1 (w64 (i5+1))
 else
 k_1 a0 b1
 else
 k_1 a0 b1
theorem alr {k_1} (aJ:K2 (A22 [1,1]) Jj k_1) {back} (aD:K3 (A22 [0,1,0,1]) Jk back) (n:Nat):K3 (A22 [0,1,0,1]) Jk (HN k_1 back n):=fun a0 b1 i5 r h=>
 ie h (fun c0 h=>
 ie h (fun c1 h=>
 be h fun x13 bY h=>
 be h fun x18 iJ h=>
 be h fun x21 iI h=>
 ie h (fun c2 h=>
 rr h [(2,.eqv (R64.ax a0)),(0,eb c0),(3,.eqv (R64.ax b1)),(0,eb c1),(3,R64.idx bY),(3,R64.idx iJ),(1,.call (ev61 n iI) [] [] []),(2,eb c2)]) (fun c2 h=>
 ra (aD h) [(2,.eqv (R64.ax a0)),(0,eb c0),(3,.eqv (R64.ax b1)),(0,eb c1),(3,R64.idx bY),(3,R64.idx iJ),(1,.call (ev61 n iI) [] [] []),(2,eb c2)])) (fun c1 h=>
 ra (aJ h) [(2,.eqv (R64.ax a0)),(0,eb c0),(3,.eqv (R64.ax b1)),(0,eb c1)])) (fun c0 h=>
 ra (aJ h) [(2,.eqv (R64.ax a0)),(0,eb c0)])
def yu (k_1:Wq2->Wq2->Option Int):Nat->Wq2->Wq2->Int->Option Int
 |0,_,_,_=>none
 |n+1,a0,b1,i5=>HN k_1 (yu k_1 n) n a0 b1 i5
theorem acZ {k_1} (aJ:K2 (A22 [1,1]) Jj k_1):∀n:Nat,K3 (A22 [0,1,0,1]) Jk (yu k_1 n)
 |0=>fun _ _ _ _ h=>nz h
 |n+1=>fun _ _ _ _ h=>alr aJ (acZ aJ n) n h
def CB (n:Nat) (a0 b1:Wq2):Option Int:=
 if decide ((a0.length:Int)<(b1.length:Int)) then
 some (-1)
 else
 if decide ((b1.length:Int)<(a0.length:Int)) then
 some 1
 else
 some 0
theorem alq (n:Nat):K2 (A22 [1,1]) Jj (CB n):=fun a0 b1 r h=>
 ie h (fun c0 h=>
 rr h [(1,.eqv (R64.ax a0)),(1,.eqv (R64.ax b1)),(0,eb c0)]) (fun c0 h=>
 ie h (fun c1 h=>
 rr h [(1,.eqv (R64.ax a0)),(1,.eqv (R64.ax b1)),(0,eb c0),(2,.eqv (R64.ax a0)),(1,.eqv (R64.ax b1)),(0,eb c1)]) (fun c1 h=>
 rr h [(1,.eqv (R64.ax a0)),(1,.eqv (R64.ax b1)),(0,eb c0),(2,.eqv (R64.ax a0)),(1,.eqv (R64.ax b1)),(0,eb c1)]))
def aeh (n:Nat) (a0 b1:Wq2):Option Int:=
 yu (CB n) n a0 b1 0
theorem alp (n:Nat):K2 (A22 []) UP (aeh n):=fun a0 b1 r h=>
 ra (acZ (alq n) n h) []
def F22 (n:Nat) (a0 b1:Wq2):Option Int:=aeh n a0 b1
theorem wG (n:Nat):K2 C22 UP (F22 n):=fun _ _ _ h=>ca (X:=x22) (alp n h)
def abn (r:Int):AV:=.int .i64 r
def VZ (r:Int):List (Nat×Bx):= []
def x75:=fx E0 Tryz.f75 [] []
def A75:=Ax x75 abn VZ
def C75:=Cx E0 75 abn VZ
def IG (aN:Int) (bF:Wq2) (t31:Wq9) (t32 t33:Int) (b4:af):LS:=⟨[(2,.int .i64 aN),(3,.slice 65 3 (aL bF)),(4,.loc 4 0),(31,.slice 43 1 (bu t31)),(32,.int .i64 t32),(33,.int .i64 t33)],[(4,.flat 26 (ba b4))]⟩
def IF:LS:=⟨[],[]⟩
def TY (s0:af) (st1:ah) (aN:Int) (bF:Wq2):LS:=⟨[(0,.agg (ba s0)),(1,.agg (eg st1)),(2,.int .i64 aN),(3,.slice 65 3 (aL bF))],[]⟩
def G8 (k_1:Option Int) (back:Int->Wq2->Wq9->Int->Int->af->Option Int) (n:Nat) (aN:Int) (bF:Wq2) (t31:Wq9) (t32 t33:Int) (b4:af):Option Int:=
 if decide (t33<t32) then
 (idx t31 t33).bind fun x3=>
 (F34 n b4 aN x3).bind fun x11=>
 (F22 n x11 bF).bind fun x14=>
 if x14==0 then
 some t33
 else
 back aN bF t31 t32 (w64 (t33+1)) b4
 else
 k_1
theorem ajI {k_1} (aJ:K0 (A75 [1,1,1]) IF k_1) {back} (aD:K6 (A75 [0,1,0,1,1]) IG back) (n:Nat):K6 (A75 [0,1,0,1,1]) IG (G8 k_1 back n):=fun aN bF t31 t32 t33 b4 r h=>
 ie h (fun c0 h=>
 be h fun x3 hx3 h=>
 be h fun x11 ct h=>
 be h fun x14 fQ h=>
 ie h (fun c1 h=>
 rr h [(0,eb c0),(1,R42.idx hx3),(6,.call (z6 n ct) [] [] [(41,200000)]),(1,R64.frz 41 x11),(0,.call (wG n fQ) [.one (.sl 0 0)] [] []),(0,eb c1)]) (fun c1 h=>
 ra (aD h) [(0,eb c0),(1,R42.idx hx3),(6,.call (z6 n ct) [] [] [(41,200000)]),(1,R64.frz 41 x11),(0,.call (wG n fQ) [.one (.sl 0 0)] [] []),(0,eb c1)])) (fun c0 h=>
 ra (aJ h) [(0,eb c0)])
def ye (k_1:Option Int):Nat->Int->Wq2->Wq9->Int->Int->af->Option Int
 |0,_,_,_,_,_,_=>none
 |n+1,aN,bF,t31,t32,t33,b4=>G8 k_1 (ye k_1 n) n aN bF t31 t32 t33 b4
theorem acC {k_1} (aJ:K0 (A75 [1,1,1]) IF k_1):∀n:Nat,K6 (A75 [0,1,0,1,1]) IG (ye k_1 n)
 |0=>fun _ _ _ _ _ _ _ h=>nz h
 |n+1=>fun _ _ _ _ _ _ _ h=>ajI aJ (acC aJ n) n h
def G7 (n:Nat):Option Int:=
 some (-1)
theorem ajH (n:Nat):K0 (A75 [1,1,1]) IF (G7 n):=fun r h=>
 rr h []
def SR (n:Nat) (s0:af) (st1:ah) (aN:Int) (bF:Wq2):Option Int:=
 if decide (aN<0) then
 some (-1)
 else
 if !decide (aN<(s0.ag.length:Int)) then
 some (-1)
 else
 if !decide (aN<(st1.ag.length:Int)) then
 some (-1)
 else
 (idx st1.ag aN).bind fun x23=>
 ye (G7 n) n aN bF x23 (x23.length:Int) 0 s0
theorem ajG (n:Nat):K4 (A75 []) TY (SR n):=fun s0 st1 aN bF r h=>
 ie h (fun c0 h=>
 rr h [(4,eb c0)]) (fun c0 h=>
 ie h (fun c1 h=>
 rr h [(4,eb c0),(4,.eqv (R62.ax s0.ag)),(0,eb c1)]) (fun c1 h=>
 ie h (fun c2 h=>
 rr h [(4,eb c0),(4,.eqv (R62.ax s0.ag)),(0,eb c1),(5,.eqv (R66.ax st1.ag)),(0,eb c2)]) (fun c2 h=>
 be h fun x23 fy h=>
 ra (acC (ajH n) n h) [(4,eb c0),(4,.eqv (R62.ax s0.ag)),(0,eb c1),(5,.eqv (R66.ax st1.ag)),(0,eb c2),(4,R66.idx fy),(1,.eqv (R42.ax x23))])))
def F75 (n:Nat) (s0:af) (st1:ah) (aN:Int) (bF:Wq2):Option Int:=SR n s0 st1 aN bF
theorem ev75 (n:Nat):K4 C75 TY (F75 n):=fun _ _ _ _ _ h=>ca (X:=x75) (ajG n h)
def abR (r:(Wq2×Bool)):AV:=.tup [.ms 200000 3 0 r.1.length,.bool r.2]
def Wt (r:(Wq2×Bool)):List (Nat×Bx):= [(200000,.rows true 65 3 (aL r.1))]
def x35:=fx E0 Tryz.f35 [] [200000]
def A35:=Ax x35 abR Wt
def C35:=Cx E0 35 abR Wt
def UB (s0:af) (st1:ah) (aN:Int) (bF:Wq2):LS:=⟨[(0,.agg (ba s0)),(1,.agg (eg st1)),(2,.int .i64 aN),(3,.slice 65 3 (aL bF))],[]⟩
def Tj (n:Nat) (s0:af) (st1:ah) (aN:Int) (bF:Wq2):Option (Wq2×Bool):=
 (F75 n s0 st1 aN bF).bind fun x9=>
 if decide (x9<0) then
 some ([],false)
 else
 (idx st1.ag aN).bind fun x17=>
 (idx x17 x9).bind fun x21=>
 (F54 n x21).bind fun x24=>
 some (x24,true)
theorem akN (n:Nat):K4 (A35 []) UB (Tj n):=fun s0 st1 aN bF r h=>
 be h fun x9 hx9 h=>
 ie h (fun c0 h=>
 rr h [(8,.call (ev75 n hx9) [] [] []),(2,eb c0),(2,.born [8] [] 200000 true 65 3)]) (fun c0 h=>
 be h fun x17 dZ h=>
 be h fun x21 iI h=>
 be h fun x24 l6 h=>
 rr h [(8,.call (ev75 n hx9) [] [] []),(2,eb c0),(3,R66.idx dZ),(2,R42.idx iI),(1,.call (Rw n l6) [] [] [(26,200000)]),(2,.ren 26 200000)])
def F35 (n:Nat) (s0:af) (st1:ah) (aN:Int) (bF:Wq2):Option (Wq2×Bool):=Tj n s0 st1 aN bF
theorem ev35 (n:Nat):K4 C35 UB (F35 n):=fun _ _ _ _ _ h=>ca (X:=x35) (akN n h)
def abQ (r:Int):AV:=.int .i64 r
def Ws (r:Int):List (Nat×Bx):= []
def x36:=fx E0 Tryz.f36 [] []
def A36:=Ax x36 abQ Ws
def C36:=Cx E0 36 abQ Ws
def UA (t0:Int) (a1:Wq2) (u2:Int) (b3:Wq2):LS:=⟨[(0,.int .i64 t0),(1,.slice 65 3 (aL a1)),(2,.int .i64 u2),(3,.slice 65 3 (aL b3))],[]⟩
def Ti (n:Nat) (t0:Int) (a1:Wq2) (u2:Int) (b3:Wq2):Option Int:=
 if t0 !=u2 then
 if decide (t0<u2) then
 some (-1)
 else
 some 1
 else
 (F22 n a1 b3).bind fun x7=>
 some x7
theorem akM (n:Nat):K4 (A36 []) UA (Ti n):=fun t0 a1 u2 b3 r h=>
 ie h (fun c0 h=>
 ie h (fun c1 h=>
 rr h [(3,eb c0),(2,eb c1)]) (fun c1 h=>
 rr h [(3,eb c0),(2,eb c1)])) (fun c0 h=>
 be h fun x7 hx7 h=>
 rr h [(3,eb c0),(2,.call (wG n hx7) [] [] [])])
def F36 (n:Nat) (t0:Int) (a1:Wq2) (u2:Int) (b3:Wq2):Option Int:=Ti n t0 a1 u2 b3
theorem Z8 (n:Nat):K4 C36 UA (F36 n):=fun _ _ _ _ _ h=>ca (X:=x36) (akM n h)
def acj (r:(Wq3×aj)):AV:=.ms 200000 5 0 r.1.length
def WN (r:(Wq3×aj)):List (Nat×Bx):= [(0,.flat 74 (bI r.2)),(200000,.rows false 55 5 (dx r.1))]
def x10:=fx E0 Tryz.f10 [0] [0,200000]
def A10:=Ax x10 acj WN
def C10:=Cx E0 10 acj WN
def JA (n10 i17:Int) (t29:Wq1) (t30:Int) (b0:aj) (b5:af) (b6:ah) (b9:Wq3) (b50:Wq2) (b14:az) (dt:Wq0) (nG:Wq2):LS:=⟨[(0,.loc 0 0),(5,.loc 5 0),(6,.loc 6 0),(9,.ms 500009 5 0 b9.length),(10,.int .i64 n10),(12,.ms 50 3 0 b50.length),(14,.loc 14 0),(17,.int .i64 i17),(28,.loc 5 1),(29,.slice 63 5 (dC t29)),(30,.int .i64 t30),(31,.bool true)],[(0,.flat 74 (bI b0)),(5,.flat 26 (ba b5)),(6,.flat 33 (eg b6)),(14,.flat 55 [.int .i64 b14.fOp,.int .i64 b14.aq,.slice 65 3 (aL b14.au),.ms 129 1 0 dt.length,.ms 137 3 0 nG.length]),(50,.rows true 65 3 (aL b50)),(129,.rows true 3 1 (bq dt)),(137,.rows true 65 3 (aL nG)),(500009,.rows false 55 5 (dx b9))]⟩
def Jz (n10 mY:Int) (ic:Bool) (i20:Int) (t29:Wq1) (t30:Int) (b0:aj) (b5:af) (b6:ah) (b9:Wq3) (b14:az) (dt:Wq0) (eh:Wq2):LS:=⟨[(0,.loc 0 0),(5,.loc 5 0),(6,.loc 6 0),(9,.ms 500009 5 0 b9.length),(10,.int .i64 n10),(14,.loc 14 0),(18,.int .i64 mY),(19,.bool ic),(20,.int .i64 i20),(28,.loc 5 1),(29,.slice 63 5 (dC t29)),(30,.int .i64 t30),(31,.bool true)],[(0,.flat 74 (bI b0)),(5,.flat 26 (ba b5)),(6,.flat 33 (eg b6)),(14,.flat 55 [.int .i64 b14.fOp,.int .i64 b14.aq,.slice 65 3 (aL b14.au),.ms 129 1 0 dt.length,.ms 601404 3 0 eh.length]),(129,.rows true 3 1 (bq dt)),(500009,.rows false 55 5 (dx b9)),(601404,.rows true 65 3 (aL eh))]⟩
def Jy (n10 mY:Int) (ic:Bool) (t29:Wq1) (t30:Int) (b0:aj) (b5:af) (b6:ah) (b9:Wq3) (b14:az) (dt:Wq0) (eh:Wq2):LS:=⟨[(0,.loc 0 0),(5,.loc 5 0),(6,.loc 6 0),(9,.ms 500009 5 0 b9.length),(10,.int .i64 n10),(14,.loc 14 0),(18,.int .i64 mY),(19,.bool ic),(28,.loc 5 1),(29,.slice 63 5 (dC t29)),(30,.int .i64 t30),(31,.bool true)],[(0,.flat 74 (bI b0)),(5,.flat 26 (ba b5)),(6,.flat 33 (eg b6)),(14,.flat 55 [.int .i64 b14.fOp,.int .i64 b14.aq,.slice 65 3 (aL b14.au),.ms 129 1 0 dt.length,.ms 601404 3 0 eh.length]),(129,.rows true 3 1 (bq dt)),(500009,.rows false 55 5 (dx b9)),(601404,.rows true 65 3 (aL eh))]⟩
def Jx (n10:Int) (t29:Wq1) (t30:Int) (b0:aj) (b5:af) (b6:ah) (b9:Wq3) (b14:az) (dt:Wq0) (eh:Wq2):LS:=⟨[(0,.loc 0 0),(5,.loc 5 0),(6,.loc 6 0),(9,.ms 500009 5 0 b9.length),(10,.int .i64 n10),(14,.loc 14 0),(28,.loc 5 1),(29,.slice 63 5 (dC t29)),(30,.int .i64 t30),(31,.bool true)],[(0,.flat 74 (bI b0)),(5,.flat 26 (ba b5)),(6,.flat 33 (eg b6)),(14,.flat 55 [.int .i64 b14.fOp,.int .i64 b14.aq,.slice 65 3 (aL b14.au),.ms 129 1 0 dt.length,.ms 601404 3 0 eh.length]),(129,.rows true 3 1 (bq dt)),(500009,.rows false 55 5 (dx b9)),(601404,.rows true 65 3 (aL eh))]⟩
def afZ (n10 t11:Int) (t29:Wq1) (t30:Int) (b0:aj) (b5:af) (b6:ah) (b9:Wq3) (b50:Wq2):LS:=⟨[(0,.loc 0 0),(5,.loc 5 0),(6,.loc 6 0),(9,.ms 500009 5 0 b9.length),(10,.int .i64 n10),(11,.int .i64 t11),(12,.ms 50 3 0 b50.length),(28,.loc 5 1),(29,.slice 63 5 (dC t29)),(30,.int .i64 t30),(31,.bool true)],[(0,.flat 74 (bI b0)),(5,.flat 26 (ba b5)),(6,.flat 33 (eg b6)),(50,.rows true 65 3 (aL b50)),(500009,.rows false 55 5 (dx b9))]⟩
def sZ (n10:Int) (b0:aj) (b5:af) (b6:ah) (b9:Wq3):LS:=⟨[(0,.loc 0 0),(5,.loc 5 0),(6,.loc 6 0),(9,.ms 500009 5 0 b9.length),(10,.int .i64 n10)],[(0,.flat 74 (bI b0)),(5,.flat 26 (ba b5)),(6,.flat 33 (eg b6)),(500009,.rows false 55 5 (dx b9))]⟩
def Jw (b0:aj) (b9:Wq3):LS:=⟨[(9,.ms 500009 5 0 b9.length)],[(0,.flat 74 (bI b0)),(500009,.rows false 55 5 (dx b9))]⟩
def UX (c0:aj) (s1:af) (st2:ah) (xz:Int):LS:=⟨[(0,.loc 0 0),(1,.agg (ba s1)),(2,.agg (eg st2)),(3,.int .i64 xz)],[(0,.flat 74 (bI c0))]⟩
def H6 (k_3:Int->Wq1->Int->aj->af->ah->Wq3->az->Wq0->Wq2->Option (Wq3×aj)) (back:Int->Int->Wq1->Int->aj->af->ah->Wq3->Wq2->az->Wq0->Wq2->Option (Wq3×aj)) (n:Nat) (n10 i17:Int) (t29:Wq1) (t30:Int) (b0:aj) (b5:af) (b6:ah) (b9:Wq3) (b50:Wq2) (b14:az) (dt:Wq0) (nG:Wq2):Option (Wq3×aj):=
 if decide (i17<(b50.length:Int)) then
 if b14.fOp==2 then
 (F29 n b0 2).bind fun x11=>
 if x11.1 then
 (app dt [i17]).bind fun x17=>
 (bnd b50.length i17).bind fun x23=>
 (b50[0+x23]?).bind fun x25=>
 (app nG [x25]).bind fun x28=>
 back n10 (w64 (i17+1)) t29 t30 x11.2 b5 b6 b9 b50 (az.mk b14.fOp b14.aq b14.au x17 x28) x17 x28
 else
 back n10 (w64 (i17+1)) t29 t30 x11.2 b5 b6 b9 b50 (az.mk b14.fOp b14.aq b14.au dt nG) dt nG
 else
 k_3 n10 t29 t30 b0 b5 b6 b9 (az.mk b14.fOp b14.aq b14.au dt nG) dt nG
 else
 k_3 n10 t29 t30 b0 b5 b6 b9 (az.mk b14.fOp b14.aq b14.au dt nG) dt nG
theorem alR {k_3} (bT:K10 (A10 [1,1,1,1,1,0,0,1,0,0,1,0,1,1]) Jx k_3) {back} (aD:K12 (A10 [0,1,1,0,1,1,0,1,1,1,1,0,0,1,0,0,1,0,1,1]) JA back) (n:Nat):K12 (A10 [0,1,1,0,1,1,0,1,1,1,1,0,0,1,0,0,1,0,1,1]) JA (H6 k_3 back n):=fun n10 i17 t29 t30 b0 b5 b6 b9 b50 b14 dt nG r h=>
 ie h (fun c0_ h=>
 ie h (fun c1 h=>
 be h fun x11 ct h=>
 ie h (fun c2 h=>
 be h fun x17 dZ h=>
 be h fun x23 fy h=>
 be h fun x25 ux h=>
 be h fun x28 kE h=>
 ra (aD h) [(3,eb c0_),(3,eb c1),(2,.call (cb (fT n ct) c2) [] [(0,0)] []),(4,R3.app dZ (R3.srW [i17])),(4,eA fy),(0,R64.row ux),(1,R64.app kE (R64.srW [x25]))]) (fun c2 h=>
 ra (aD h) [(3,eb c0_),(3,eb c1),(2,.call (cb (fT n ct) c2) [] [(0,0)] [])])) (fun c1 h=>
 ra (bT h) [(3,eb c0_),(3,eb c1),(1,.ren 137 601404)])) (fun c0_ h=>
 ra (bT h) [(3,eb c0_),(2,.ren 137 601404)])
def yC (k_3:Int->Wq1->Int->aj->af->ah->Wq3->az->Wq0->Wq2->Option (Wq3×aj)):Nat->Int->Int->Wq1->Int->aj->af->ah->Wq3->Wq2->az->Wq0->Wq2->Option (Wq3×aj)
 |0,_,_,_,_,_,_,_,_,_,_,_,_=>none
 |n+1,n10,i17,t29,t30,b0,b5,b6,b9,b50,b14,dt,nG=>H6 k_3 (yC k_3 n) n n10 i17 t29 t30 b0 b5 b6 b9 b50 b14 dt nG
theorem adl {k_3} (bT:K10 (A10 [1,1,1,1,1,0,0,1,0,0,1,0,1,1]) Jx k_3):∀n:Nat,K12 (A10 [0,1,1,0,1,1,0,1,1,1,1,0,0,1,0,0,1,0,1,1]) JA (yC k_3 n)
 |0=>fun _ _ _ _ _ _ _ _ _ _ _ _ _ h=>nz h
 |n+1=>fun _ _ _ _ _ _ _ _ _ _ _ _ _ h=>alR bT (adl bT n) n h
def H5 (k_2:Int->Int->Bool->Wq1->Int->aj->af->ah->Wq3->az->Wq0->Wq2->Option (Wq3×aj)) (back:Int->Int->Bool->Int->Wq1->Int->aj->af->ah->Wq3->az->Wq0->Wq2->Option (Wq3×aj)) (n:Nat) (n10 mY:Int) (ic:Bool) (i20:Int) (t29:Wq1) (t30:Int) (b0:aj) (b5:af) (b6:ah) (b9:Wq3) (b14:az) (dt:Wq0) (eh:Wq2):Option (Wq3×aj):=
 if !decide (i20<0) then
 (bnd b9.length i20).bind fun x9=>
 (b9[0+x9]?).bind fun x12=>
 (bnd b9.length i20).bind fun x16=>
 (b9[0+x16]?).bind fun x19=>
 (F36 n b14.aq b14.au x12.aq x19.au).bind fun x21=>
 if x21==0 then
 back n10 mY true (w64 (i20 - 1)) t29 t30 b0 b5 b6 b9 (az.mk b14.fOp b14.aq b14.au dt eh) dt eh
 else
 if x21==(-1) then
 back n10 i20 ic (w64 (i20 - 1)) t29 t30 b0 b5 b6 b9 (az.mk b14.fOp b14.aq b14.au dt eh) dt eh
 else
 back n10 mY ic (w64 (i20 - 1)) t29 t30 b0 b5 b6 b9 (az.mk b14.fOp b14.aq b14.au dt eh) dt eh
 else
 k_2 n10 mY ic t29 t30 b0 b5 b6 b9 (az.mk b14.fOp b14.aq b14.au dt eh) dt eh
theorem alQ {k_2} (cS:K12 (A10 [1,1,1,1,1,1,1,0,0,1,0,0,1,0,1,1]) Jy k_2) {back} (aD:K13 (A10 [0,1,0,1,1,1,1,1,1,0,0,1,0,0,1,0,1,1]) Jz back) (n:Nat):K13 (A10 [0,1,0,1,1,1,1,1,1,0,0,1,0,0,1,0,1,1]) Jz (H5 k_2 back n):=fun n10 mY ic i20 t29 t30 b0 b5 b6 b9 b14 dt eh r h=>
 ie h (fun c0_ h=>
 be h fun x9 hx9 h=>
 be h fun x12 cB h=>
 be h fun x16 cO h=>
 be h fun x19 kF h=>
 be h fun x21 iI h=>
 ie h (fun c1 h=>
 ra (aD h) [(1,eb c0_),(6,eA hx9),(1,R54.row cB),(2,eA cO),(1,R54.row kF),(0,.call (Z8 n iI) [] [] []),(0,eb c1)]) (fun c1 h=>
 ie h (fun c2 h=>
 ra (aD h) [(1,eb c0_),(6,eA hx9),(1,R54.row cB),(2,eA cO),(1,R54.row kF),(0,.call (Z8 n iI) [] [] []),(0,eb c1),(1,eb c2)]) (fun c2 h=>
 ra (aD h) [(1,eb c0_),(6,eA hx9),(1,R54.row cB),(2,eA cO),(1,R54.row kF),(0,.call (Z8 n iI) [] [] []),(0,eb c1),(1,eb c2)]))) (fun c0_ h=>
 ra (cS h) [(1,eb c0_)])
def yB (k_2:Int->Int->Bool->Wq1->Int->aj->af->ah->Wq3->az->Wq0->Wq2->Option (Wq3×aj)):Nat->Int->Int->Bool->Int->Wq1->Int->aj->af->ah->Wq3->az->Wq0->Wq2->Option (Wq3×aj)
 |0,_,_,_,_,_,_,_,_,_,_,_,_,_=>none
 |n+1,n10,mY,ic,i20,t29,t30,b0,b5,b6,b9,b14,dt,eh=>H5 k_2 (yB k_2 n) n n10 mY ic i20 t29 t30 b0 b5 b6 b9 b14 dt eh
theorem adk {k_2} (cS:K12 (A10 [1,1,1,1,1,1,1,0,0,1,0,0,1,0,1,1]) Jy k_2):∀n:Nat,K13 (A10 [0,1,0,1,1,1,1,1,1,0,0,1,0,0,1,0,1,1]) Jz (yB k_2 n)
 |0=>fun _ _ _ _ _ _ _ _ _ _ _ _ _ _ h=>nz h
 |n+1=>fun _ _ _ _ _ _ _ _ _ _ _ _ _ _ h=>alQ cS (adk cS n) n h
def H4 (k_5:Int->aj->af->ah->Wq3->Option (Wq3×aj)) (n:Nat) (n10 mY:Int) (ic:Bool) (t29:Wq1) (t30:Int) (b0:aj) (b5:af) (b6:ah) (b9:Wq3) (b14:az) (dt:Wq0) (eh:Wq2):Option (Wq3×aj):=
 if !ic then
 (gA b9.length mY).bind fun x5=>
 (jo b9.length mY).bind fun x11=>
 (app [(az.mk b14.fOp b14.aq b14.au dt eh)] ((b9.drop (0+x11)).take (b9.length - x11))).bind fun x13=>
 (oV b9 x5 x13).bind fun x15=>
 k_5 (w64 (n10 - 1)) b0 b5 b6 x15
 else
 k_5 (w64 (n10 - 1)) b0 b5 b6 b9
theorem alP {k_5} (iK:K5 (A10 [0,1,0,1,1]) sZ k_5) (n:Nat):K12 (A10 [1,1,1,1,1,1,1,0,0,1,0,0,1,0,1,1]) Jy (H4 k_5 n):=fun n10 mY ic t29 t30 b0 b5 b6 b9 b14 dt eh r h=>
 ie h (fun c0_ h=>
 be h fun x5 hx5 h=>
 be h fun x11 ct h=>
 be h fun x13 bY h=>
 be h fun x15 fA h=>
 ra (iK h) [(1,eb c0_),(0,R3.frz 129 dt),(0,R64.frz 601404 eh),(2,R54.gA (xs:=b9) hx5 (Nat.le_of_eq rfl)),(0,.nrm (.agg [.same,.same,.same,.sl 0 0,.sl 0 0])),(3,R54.jo (xs:=b9) ct (Nat.le_of_eq rfl)),(0,R54.app bY (R54.sr (xs:=b9) (EA ct (Nat.le_of_eq rfl)))),(0,R54.oV fA (R54.srW x13))]) (fun c0_ h=>
 ra (iK h) [(1,eb c0_)])
def vk (k_5:Int->aj->af->ah->Wq3->Option (Wq3×aj)) (n:Nat) (n10:Int) (t29:Wq1) (t30:Int) (b0:aj) (b5:af) (b6:ah) (b9:Wq3) (b14:az) (dt:Wq0) (eh:Wq2):Option (Wq3×aj):=
 yB (H4 k_5 n) n n10 (b9.length:Int) false (w64 ((b9.length:Int) - 1)) t29 t30 b0 b5 b6 b9 (az.mk b14.fOp b14.aq b14.au dt eh) dt eh
theorem adV {k_5} (iK:K5 (A10 [0,1,0,1,1]) sZ k_5) (n:Nat):K10 (A10 [1,1,1,1,1,0,0,1,0,0,1,0,1,1]) Jx (vk k_5 n):=fun n10 t29 t30 b0 b5 b6 b9 b14 dt eh r h=>
 ra (adk (alP iK n) n h) []
def yQ (k_5:Int->aj->af->ah->Wq3->Option (Wq3×aj)) (n:Nat) (n10 t11:Int) (t29:Wq1) (t30:Int) (b0:aj) (b5:af) (b6:ah) (b9:Wq3) (b50:Wq2):Option (Wq3×aj):=
 (idx b5.ag t11).bind fun x6=>
 (gA b50.length x6.au).bind fun x10_=>
 (app [] ((b50.drop 0).take x10_)).bind fun x12=>
 (F35 n b5 b6 t11 x12).bind fun x23=>
 (F29 n b0 8).bind fun x32=>
 if !(x23.2==x32.1) then
 (F24 n x32.2 2).bind fun x36=>
 (idx b5.ag t11).bind fun x46=>
 yC (vk k_5 n) n n10 x46.au t29 t30 x36.2 b5 b6 b9 b50 (az.mk (w64 (2+x36.1)) t11 x12 [] []) [] []
 else
 vk k_5 n n10 t29 t30 x32.2 b5 b6 b9 (az.mk 1 t11 x12 [] b50) [] b50
theorem Sg {k_5} (iK:K5 (A10 [0,1,0,1,1]) sZ k_5) (n:Nat):K9 (A10 [1,1,1,0,0,1,0,0,1,0,1,1]) afZ (yQ k_5 n):=fun n10 t11 t29 t30 b0 b5 b6 b9 b50 r h=>
 be h fun x6 hx6 h=>
 be h fun x10_ de h=>
 be h fun x12 cB h=>
 be h fun x23 fy h=>
 be h fun x32 nu h=>
 ie h (fun c0_ h=>
 be h fun x36 hx36 h=>
 be h fun x46 hx46 h=>
 ra (adl (adV iK n) n h) [(5,R62.idx hx6),(2,R64.gA (xs:=b50) de (Nat.le_of_eq rfl)),(0,.born [] [] 85 true 65 3),(0,R64.app (xs:= []) cB (R64.sr (xs:=b50) (by rw [Nat.zero_add];exact (Nat.le_trans (kI de).2 (Nat.le_of_eq rfl))))),(9,R64.frz 85 x12),(0,.call (ev35 n fy) [.one .same,.one .same,.one .same,.one (.sl 0 0)] [] [(309400,200000)]),(7,.call (fT n nu) [] [(0,0)] []),(0,eb c0_),(1,.call (dK n hx36) [] [(0,0)] []),(8,R62.idx hx46),(3,.born [] [(14,3)] 129 true 3 1),(0,.born [] [(14,4)] 137 true 65 3)]) (fun c0_ h=>
 ra (adV iK n h) [(5,R62.idx hx6),(2,R64.gA (xs:=b50) de (Nat.le_of_eq rfl)),(0,.born [] [] 85 true 65 3),(0,R64.app (xs:= []) cB (R64.sr (xs:=b50) (by rw [Nat.zero_add];exact (Nat.le_trans (kI de).2 (Nat.le_of_eq rfl))))),(9,R64.frz 85 x12),(0,.call (ev35 n fy) [.one .same,.one .same,.one .same,.one (.sl 0 0)] [] [(309400,200000)]),(7,.call (fT n nu) [] [(0,0)] []),(0,eb c0_),(0,.ren 50 601404),(0,.born [] [(14,3)] 129 true 3 1)])
def H3 (k_6:aj->Wq3->Option (Wq3×aj)) (back:Int->aj->af->ah->Wq3->Option (Wq3×aj)) (n:Nat) (n10:Int) (b0:aj) (b5:af) (b6:ah) (b9:Wq3):Option (Wq3×aj):=
 if decide (0<n10) then
 if decide (0<(b5.ag.length:Int)) then
 (F24 n b0 (b5.ag.length:Int)).bind fun x13=>
 (F32 n b5 x13.1).bind fun x19=>
 (idx b5.ag x13.1).bind fun x24=>
 (F33 n x13.2 x19 x24.au 1).bind fun x28=>
 (idx b6.ag x13.1).bind fun x34=>
 if decide (0<(x34.length:Int)) then
 (F29 n x28.2 3).bind fun x43=>
 if !x43.1 then
 (F24 n x43.2 (x34.length:Int)).bind fun x54=>
 (idx x34 x54.1).bind fun x56=>
 (F34 n b5 x13.1 x56).bind fun x59=>
 (cpy x28.1 x59).bind fun x61=>
 yQ back n n10 x13.1 b5.ag (b5.ag.length:Int) x54.2 b5 b6 b9 x61
 else
 yQ back n n10 x13.1 b5.ag (b5.ag.length:Int) x43.2 b5 b6 b9 x28.1
 else
 yQ back n n10 x13.1 b5.ag (b5.ag.length:Int) x28.2 b5 b6 b9 x28.1
 else
 k_6 b0 b9
 else
 k_6 b0 b9
theorem alO {k_6} (ma:K2 (A10 [1,1,1]) Jw k_6) {back} (aD:K5 (A10 [0,1,0,1,1]) sZ back) (n:Nat):K5 (A10 [0,1,0,1,1]) sZ (H3 k_6 back n):=fun n10 b0 b5 b6 b9 r h=>
 ie h (fun c0_ h=>
 ie h (fun c1 h=>
 be h fun x13 bY h=>
 be h fun x19 kF h=>
 be h fun x24 l6 h=>
 be h fun x28 kE h=>
 be h fun x34 uw h=>
 ie h (fun c2 h=>
 be h fun x43 k9 h=>
 ie h (fun c3 h=>
 be h fun x54 KX h=>
 be h fun x56 oQ h=>
 be h fun x59 hx59 h=>
 be h fun x61 hx61 h=>
 ra (Sg aD n h) [(1,eb c0_),(3,.eqv (R62.ax b5.ag)),(0,eb c1),(4,.eqv (R62.ax b5.ag)),(0,.call (dK n bY) [] [(0,0)] []),(4,.call (cd (e:=3) (z:=true) (Q:=bq x19) (Lv n kF) (R3.len x19)) [] [] []),(3,R62.idx l6),(2,.call (Ry n kE) [.one .same,.one (.sl 0 0)] [(0,0)] [(50,200000)]),(4,R66.idx uw),(3,.eqv (R42.ax x34)),(0,eb c2),(2,.call (fT n k9) [] [(0,0)] []),(0,eb c3),(7,.eqv (R42.ax x34)),(0,.call (dK n KX) [] [(0,0)] []),(0,R42.idx oQ),(1,.call (z6 n hx59) [] [] [(74,200000)]),(0,R64.cpy hx61 (R64.srW x59)),(0,.seq 12 (congrArg (fun n_=>(AV.ms 50 3 0 n_)) ((afi hx61).symm)))]) (fun c3 h=>
 ra (Sg aD n h) [(1,eb c0_),(3,.eqv (R62.ax b5.ag)),(0,eb c1),(4,.eqv (R62.ax b5.ag)),(0,.call (dK n bY) [] [(0,0)] []),(4,.call (cd (e:=3) (z:=true) (Q:=bq x19) (Lv n kF) (R3.len x19)) [] [] []),(3,R62.idx l6),(2,.call (Ry n kE) [.one .same,.one (.sl 0 0)] [(0,0)] [(50,200000)]),(4,R66.idx uw),(3,.eqv (R42.ax x34)),(0,eb c2),(2,.call (fT n k9) [] [(0,0)] []),(0,eb c3)])) (fun c2 h=>
 ra (Sg aD n h) [(1,eb c0_),(3,.eqv (R62.ax b5.ag)),(0,eb c1),(4,.eqv (R62.ax b5.ag)),(0,.call (dK n bY) [] [(0,0)] []),(4,.call (cd (e:=3) (z:=true) (Q:=bq x19) (Lv n kF) (R3.len x19)) [] [] []),(3,R62.idx l6),(2,.call (Ry n kE) [.one .same,.one (.sl 0 0)] [(0,0)] [(50,200000)]),(4,R66.idx uw),(3,.eqv (R42.ax x34)),(0,eb c2)])) (fun c1 h=>
 ra (ma h) [(1,eb c0_),(3,.eqv (R62.ax b5.ag)),(0,eb c1)])) (fun c0_ h=>
 ra (ma h) [(1,eb c0_)])
def sq (k_6:aj->Wq3->Option (Wq3×aj)):Nat->Int->aj->af->ah->Wq3->Option (Wq3×aj)
 |0,_,_,_,_,_=>none
 |n+1,n10,b0,b5,b6,b9=>H3 k_6 (sq k_6 n) n n10 b0 b5 b6 b9
theorem adj {k_6} (ma:K2 (A10 [1,1,1]) Jw k_6):∀n:Nat,K5 (A10 [0,1,0,1,1]) sZ (sq k_6 n)
 |0=>fun _ _ _ _ _ _ h=>nz h
 |n+1=>fun _ _ _ _ _ _ h=>alO ma (adj ma n) n h
def yP (n:Nat) (b0:aj) (b9:Wq3):Option (Wq3×aj):=
 some (b9,b0)
theorem alN (n:Nat):K2 (A10 [1,1,1]) Jw (yP n):=fun b0 b9 r h=>
 rr h [(2,.ren 500009 200000)]
def TA (n:Nat) (c0:aj) (s1:af) (st2:ah) (xz:Int):Option (Wq3×aj):=
 (F24 n c0 (w64 (xz+1))).bind fun x8=>
 sq (yP n) n x8.1 x8.2 s1 st2 []
theorem alM (n:Nat):K4 (A10 []) UX (TA n):=fun c0 s1 st2 xz r h=>
 be h fun x8 hx8 h=>
 ra (adj (alN n) n h) [(7,.call (dK n hx8) [] [(0,0)] []),(1,.born [9] [] 500009 true 55 5)]
def F10 (n:Nat) (c0:aj) (s1:af) (st2:ah) (xz:Int):Option (Wq3×aj):=TA n c0 s1 st2 xz
theorem wI (n:Nat):K4 C10 UX (F10 n):=fun _ _ _ _ _ h=>ca (X:=x10) (alM n h)
def abP (r:(ah×aF)):AV:=.agg [.ms 100100 1 0 r.2.length]
def Wr (r:(ah×aF)):List (Nat×Bx):= [(100100,.rows false 66 1 (dw r.2))]
def x37:=fx E0 Tryz.f37 [100100] [100100]
def A37:=Ax x37 abP Wr
def C37:=Cx E0 37 abP Wr
def afS (aN:Int) (bF fw:Wq2) (fm:Bool) (r14:Wq2) (c15:Int) (t23:Wq9) (t24 t25:Int) (bK:aF) (b5:af) (b6 b10:ah) (b45:Wq9):LS:=⟨[(2,.int .i64 aN),(3,.slice 65 3 (aL bF)),(4,.slice 65 3 (aL fw)),(5,.loc 5 0),(6,.loc 6 0),(10,.loc 10 0),(11,.ms 45 1 0 b45.length),(12,.bool fm),(14,.slice 65 3 (aL r14)),(15,.int .i64 c15),(23,.slice 43 1 (bu t23)),(24,.int .i64 t24),(25,.int .i64 t25)],[(5,.flat 26 (ba b5)),(6,.flat 33 [.ms 100100 1 0 bK.length]),(10,.flat 33 [.aT]),(45,.rows true 43 1 (bu b45)),(100100,.rows false 66 1 (dw bK))]⟩
def AH (aN:Int) (bF fw:Wq2) (fm:Bool) (t23:Wq9) (t24 t25:Int) (bK:aF) (b5:af) (b6 b10:ah) (b45:Wq9):LS:=⟨[(2,.int .i64 aN),(3,.slice 65 3 (aL bF)),(4,.slice 65 3 (aL fw)),(5,.loc 5 0),(6,.loc 6 0),(10,.loc 10 0),(11,.ms 45 1 0 b45.length),(12,.bool fm),(23,.slice 43 1 (bu t23)),(24,.int .i64 t24),(25,.int .i64 t25)],[(5,.flat 26 (ba b5)),(6,.flat 33 [.ms 100100 1 0 bK.length]),(10,.flat 33 [.aT]),(45,.rows true 43 1 (bu b45)),(100100,.rows false 66 1 (dw bK))]⟩
def afR (aN:Int) (bK:aF) (b6 b10:ah) (b45:Wq9):LS:=⟨[(2,.int .i64 aN),(6,.loc 6 0),(10,.loc 10 0),(11,.ms 45 1 0 b45.length)],[(6,.flat 33 [.ms 100100 1 0 bK.length]),(10,.flat 33 [.aT]),(45,.rows true 43 1 (bu b45)),(100100,.rows false 66 1 (dw bK))]⟩
def I6 (aN:Int) (fw:Wq2) (fm:Bool) (bK:aF) (b6 b10:ah) (b45:Wq9):LS:=⟨[(2,.int .i64 aN),(4,.slice 65 3 (aL fw)),(6,.loc 6 0),(10,.loc 10 0),(11,.ms 45 1 0 b45.length),(12,.bool fm)],[(6,.flat 33 [.ms 100100 1 0 bK.length]),(10,.flat 33 [.aT]),(45,.rows true 43 1 (bu b45)),(100100,.rows false 66 1 (dw bK))]⟩
def Uz (s0:af) (st1:ah) (aN:Int) (bF fw:Wq2):LS:=⟨[(0,.agg (ba s0)),(1,.agg [.ms 100100 1 0 st1.ag.length]),(2,.int .i64 aN),(3,.slice 65 3 (aL bF)),(4,.slice 65 3 (aL fw))],[(100100,.rows false 66 1 (dw st1.ag))]⟩
def yJ (k_1:Int->Wq2->Wq2->Bool->Wq9->Int->Int->aF->af->ah->ah->Wq9->Option (ah×aF)) (n:Nat) (aN:Int) (bF fw:Wq2) (fm:Bool) (r14:Wq2) (c15:Int) (t23:Wq9) (t24 t25:Int) (bK:aF) (b5:af) (b6 b10:ah) (b45:Wq9):Option (ah×aF):=
 if c15 !=0 then
 (app b45 [r14]).bind fun x6=>
 k_1 aN bF fw fm t23 t24 (w64 (t25+1)) bK b5 (ah.mk bK) (ah.mk []) x6
 else
 k_1 aN bF fw fm t23 t24 (w64 (t25+1)) bK b5 (ah.mk bK) (ah.mk []) b45
theorem Sd {k_1} (aJ:K12 (A37 [0,1,0,1,1,1]) AH k_1) (n:Nat):K14 (A37 [1,1,1,0,0,1,1,0,0,1,0,1,1,1]) afS (yJ k_1 n):=fun aN bF fw fm r14 c15 t23 t24 t25 bK b5 b6 b10 b45 r h=>
 ie h (fun c0 h=>
 be h fun x6 hx6 h=>
 ra (aJ h) [(1,eb c0),(3,R42.app hx6 (R42.srW [r14]))]) (fun c0 h=>
 ra (aJ h) [(1,eb c0)])
def HC (k_3:Int->Wq2->Bool->aF->ah->ah->Wq9->Option (ah×aF)) (back:Int->Wq2->Wq2->Bool->Wq9->Int->Int->aF->af->ah->ah->Wq9->Option (ah×aF)) (n:Nat) (aN:Int) (bF fw:Wq2) (fm:Bool) (t23:Wq9) (t24 t25:Int) (bK:aF) (b5:af) (b6 b10:ah) (b45:Wq9):Option (ah×aF):=
 if decide (t25<t24) then
 (idx t23 t25).bind fun x2=>
 (F34 n b5 aN x2).bind fun x9=>
 (F22 n x9 bF).bind fun x12=>
 if !decide (x12<0) then
 if !fm then
 (F54 n fw).bind fun x23=>
 (app b45 [x23]).bind fun x26=>
 yJ back n aN bF fw true x2 x12 t23 t24 t25 bK b5 (ah.mk bK) (ah.mk []) x26
 else
 yJ back n aN bF fw fm x2 x12 t23 t24 t25 bK b5 (ah.mk bK) (ah.mk []) b45
 else
 yJ back n aN bF fw fm x2 x12 t23 t24 t25 bK b5 (ah.mk bK) (ah.mk []) b45
 else
 k_3 aN fw fm bK (ah.mk bK) (ah.mk []) b45
theorem akL {k_3} (bT:K7 (A37 [1,1,1,1]) I6 k_3) {back} (aD:K12 (A37 [0,1,0,1,1,1]) AH back) (n:Nat):K12 (A37 [0,1,0,1,1,1]) AH (HC k_3 back n):=fun aN bF fw fm t23 t24 t25 bK b5 b6 b10 b45 r h=>
 ie h (fun c0 h=>
 be h fun x2 hx2 h=>
 be h fun x9 hx9 h=>
 be h fun x12 cB h=>
 ie h (fun c1 h=>
 ie h (fun c2 h=>
 be h fun x23 fy h=>
 be h fun x26 jS h=>
 ra (Sd aD n h) [(0,eb c0),(0,R42.idx hx2),(5,.call (z6 n hx9) [] [] [(32,200000)]),(1,R64.frz 32 x9),(0,.call (wG n cB) [.one (.sl 0 0)] [] []),(2,eb c1),(2,eb c2),(3,.call (Rw n fy) [] [] [(43,200000)]),(0,R64.frz 43 x23),(0,.norm [(43,.one (.sl 0 0))] []),(1,R42.app jS (R42.srW [x23]))]) (fun c2 h=>
 ra (Sd aD n h) [(0,eb c0),(0,R42.idx hx2),(5,.call (z6 n hx9) [] [] [(32,200000)]),(1,R64.frz 32 x9),(0,.call (wG n cB) [.one (.sl 0 0)] [] []),(2,eb c1),(2,eb c2)])) (fun c1 h=>
 ra (Sd aD n h) [(0,eb c0),(0,R42.idx hx2),(5,.call (z6 n hx9) [] [] [(32,200000)]),(1,R64.frz 32 x9),(0,.call (wG n cB) [.one (.sl 0 0)] [] []),(2,eb c1)])) (fun c0 h=>
 ra (bT h) [(0,eb c0)])
def vf (k_3:Int->Wq2->Bool->aF->ah->ah->Wq9->Option (ah×aF)):Nat->Int->Wq2->Wq2->Bool->Wq9->Int->Int->aF->af->ah->ah->Wq9->Option (ah×aF)
 |0,_,_,_,_,_,_,_,_,_,_,_,_=>none
 |n+1,aN,bF,fw,fm,t23,t24,t25,bK,b5,b6,b10,b45=>HC k_3 (vf k_3 n) n aN bF fw fm t23 t24 t25 bK b5 b6 b10 b45
theorem acQ {k_3} (bT:K7 (A37 [1,1,1,1]) I6 k_3):∀n:Nat,K12 (A37 [0,1,0,1,1,1]) AH (vf k_3 n)
 |0=>fun _ _ _ _ _ _ _ _ _ _ _ _ _ h=>nz h
 |n+1=>fun _ _ _ _ _ _ _ _ _ _ _ _ _ h=>akL bT (acQ bT n) n h
def HB (n:Nat) (aN:Int) (bK:aF) (b6 b10:ah) (b45:Wq9):Option (ah×aF):=
 (bnd bK.length aN).bind fun x5=>
 (bK[0+x5]?).bind fun x7=>
 (setAt bK (0+x5) b45).bind fun z8=>
 some ((ah.mk z8),z8)
theorem adT (n:Nat):K5 (A37 [1,1,1,1,1]) afR (HB n):=fun aN bK b6 b10 b45 r h=>
 be h fun x5 hx5 h=>
 be h fun x7 hx7 h=>
 be h fun z8 hz8 h=>
 rr h [(4,eA hx5),(0,R42.frz 45 b45),(0,.norm [(63,.one (.sl 0 0))] []),(0,R66.sto 0 [.slice 43 1 (bu b45)] hx7 hz8 (by kernel_rfl)),(2,.beq 10 (congrArg (fun n_=>(Bx.flat 33 [.ms 100100 1 0 n_])) ((dT hz8).symm)))]
def CA (n:Nat) (aN:Int) (fw:Wq2) (fm:Bool) (bK:aF) (b6 b10:ah) (b45:Wq9):Option (ah×aF):=
 if !fm then
 (F54 n fw).bind fun x5=>
 (app b45 [x5]).bind fun x8=>
 HB n aN bK (ah.mk bK) (ah.mk []) x8
 else
 HB n aN bK (ah.mk bK) (ah.mk []) b45
theorem akK (n:Nat):K7 (A37 [1,1,1,1]) I6 (CA n):=fun aN fw fm bK b6 b10 b45 r h=>
 ie h (fun c0 h=>
 be h fun x5 hx5 h=>
 be h fun x8 hx8 h=>
 ra (adT n h) [(1,eb c0),(2,.call (Rw n hx5) [] [] [(57,200000)]),(0,R64.frz 57 x5),(0,.norm [(57,.one (.sl 0 0))] []),(1,R42.app hx8 (R42.srW [x5]))]) (fun c0 h=>
 ra (adT n h) [(1,eb c0)])
def Th (n:Nat) (s0:af) (st1:ah) (aN:Int) (bF fw:Wq2):Option (ah×aF):=
 (bnd st1.ag.length aN).bind fun x12=>
 (st1.ag[0+x12]?).bind fun x14=>
 vf (CA n) n aN bF fw ((fw.length:Int)==0) x14 (x14.length:Int) 0 st1.ag s0 st1 (ah.mk []) []
theorem akJ (n:Nat):K5 (A37 []) Uz (Th n):=fun s0 st1 aN bF fw r h=>
 be h fun x12 cB h=>
 be h fun x14 fQ h=>
 ra (acQ (akK n) n h) [(5,.eqv (R64.ax fw)),(5,eA cB),(0,R66.row fQ),(0,.eqv (R42.ax x14)),(1,.born [11] [] 45 true 43 1)]
def F37 (n:Nat) (s0:af) (st1:ah) (aN:Int) (bF fw:Wq2):Option (ah×aF):=Th n s0 st1 aN bF fw
theorem ev37 (n:Nat):K5 C37 Uz (F37 n):=fun _ _ _ _ _ _ h=>ca (X:=x37) (akJ n h)
def aci (r:(ah×aj)):AV:=.agg (eg r.1)
def WM (r:(ah×aj)):List (Nat×Bx):= [(0,.flat 74 (bI r.2))]
def x11:=fx E0 Tryz.f11 [0] [0]
def A11:=Ax x11 aci WM
def C11:=Cx E0 11 aci WM
def Jv (ey t8 n9 t18 t19:Int) (b0:aj) (b4:af) (b6 b7:ah) (b14:aF):LS:=⟨[(0,.loc 0 0),(2,.int .i64 ey),(4,.loc 4 0),(6,.loc 6 0),(7,.loc 7 0),(8,.int .i64 t8),(9,.int .i64 n9),(18,.int .i64 t18),(19,.int .i64 t19)],[(0,.flat 74 (bI b0)),(4,.flat 26 (ba b4)),(6,.flat 33 [.aT]),(7,.flat 33 [.ms 14 1 0 b14.length]),(14,.rows false 66 1 (dw b14))]⟩
def Ju (ey t18 t19:Int) (b0:aj) (b4:af) (b6 b7:ah) (b14:aF):LS:=⟨[(0,.loc 0 0),(2,.int .i64 ey),(4,.loc 4 0),(6,.loc 6 0),(7,.loc 7 0),(18,.int .i64 t18),(19,.int .i64 t19)],[(0,.flat 74 (bI b0)),(4,.flat 26 (ba b4)),(6,.flat 33 [.aT]),(7,.flat 33 [.ms 14 1 0 b14.length]),(14,.rows false 66 1 (dw b14))]⟩
def AM (ey t18 t19:Int) (b0:aj) (b4:af) (b6 b7:ah) (b14:aF):LS:=⟨[(0,.loc 0 0),(2,.int .i64 ey),(4,.loc 4 0),(6,.loc 6 0),(7,.loc 7 0),(18,.int .i64 t18),(19,.int .i64 t19)],[(0,.flat 74 (bI b0)),(4,.flat 26 (ba b4)),(6,.flat 33 [.aT]),(7,.flat 33 [.ms 14 1 0 b14.length]),(14,.rows false 66 1 (dw b14))]⟩
def Jt (b0:aj) (b6 b7:ah) (b14:aF):LS:=⟨[(6,.loc 6 0),(7,.loc 7 0)],[(0,.flat 74 (bI b0)),(6,.flat 33 [.aT]),(7,.flat 33 [.ms 14 1 0 b14.length]),(14,.rows false 66 1 (dw b14))]⟩
def UW (c0:aj) (s1:af) (ey:Int):LS:=⟨[(0,.loc 0 0),(1,.agg (ba s1)),(2,.int .i64 ey)],[(0,.flat 74 (bI c0))]⟩
def H0 (k_1:Int->Int->Int->aj->af->ah->ah->aF->Option (ah×aj)) (back:Int->Int->Int->Int->Int->aj->af->ah->ah->aF->Option (ah×aj)) (n:Nat) (ey t8 n9 t18 t19:Int) (b0:aj) (b4:af) (b6 b7:ah) (b14:aF):Option (ah×aj):=
 if decide (0<n9) then
 (F32 n b4 t8).bind fun x6=>
 (idx b4.ag t8).bind fun x11_=>
 (F33 n b0 x6 x11_.au ey).bind fun x16=>
 (F34 n b4 t8 x16.1).bind fun x25=>
 (F37 n b4 (ah.mk b14) t8 x25 x16.1).bind fun x28=>
 back ey t8 (w64 (n9 - 1)) t18 t19 x16.2 b4 (ah.mk []) (ah.mk x28.2) x28.2
 else
 k_1 ey t18 t19 b0 b4 (ah.mk []) (ah.mk b14) b14
theorem alL {k_1} (aJ:K8 (A11 [1,1,1,0,0,1,0,1,1]) Ju k_1) {back} (aD:K10 (A11 [0,1,1,0,0,1,1,0,0,1,0,1,1]) Jv back) (n:Nat):K10 (A11 [0,1,1,0,0,1,1,0,0,1,0,1,1]) Jv (H0 k_1 back n):=fun ey t8 n9 t18 t19 b0 b4 b6 b7 b14 r h=>
 ie h (fun c0_ h=>
 be h fun x6 hx6 h=>
 be h fun x11_ ct h=>
 be h fun x16 cO h=>
 be h fun x25 ux h=>
 be h fun x28 kE h=>
 ra (aD h) [(1,eb c0_),(3,.call (cd (e:=3) (z:=true) (Q:=bq x6) (Lv n hx6) (R3.len x6)) [] [] []),(3,R62.idx ct),(3,.call (Ry n cO) [.one .same,.one (.sl 0 0)] [(0,0)] [(39,200000)]),(1,R64.frz 39 x16.1),(6,.call (cd (e:=65) (z:=true) (Q:=aL x25) (z6 n ux) (R64.len x25)) [.one .same,.one .same,.one (.sl 0 0)] [] []),(1,.call (ev37 n kE) [.one .same,.one .same,.one .same,.one (.sl 0 0),.one (.sl 0 0)] [(14,100100)] [])]) (fun c0_ h=>
 ra (aJ h) [(1,eb c0_)])
def yz (k_1:Int->Int->Int->aj->af->ah->ah->aF->Option (ah×aj)):Nat->Int->Int->Int->Int->Int->aj->af->ah->ah->aF->Option (ah×aj)
 |0,_,_,_,_,_,_,_,_,_,_=>none
 |n+1,ey,t8,n9,t18,t19,b0,b4,b6,b7,b14=>H0 k_1 (yz k_1 n) n ey t8 n9 t18 t19 b0 b4 b6 b7 b14
theorem adi {k_1} (aJ:K8 (A11 [1,1,1,0,0,1,0,1,1]) Ju k_1):∀n:Nat,K10 (A11 [0,1,1,0,0,1,1,0,0,1,0,1,1]) Jv (yz k_1 n)
 |0=>fun _ _ _ _ _ _ _ _ _ _ _ h=>nz h
 |n+1=>fun _ _ _ _ _ _ _ _ _ _ _ h=>alL aJ (adi aJ n) n h
def HZ (k_2:Int->Int->Int->aj->af->ah->ah->aF->Option (ah×aj)) (n:Nat) (ey t18 t19:Int) (b0:aj) (b4:af) (b6 b7:ah) (b14:aF):Option (ah×aj):=
 k_2 ey t18 (w64 (t19+1)) b0 b4 (ah.mk []) (ah.mk b14) b14
theorem alK {k_2} (cS:K8 (A11 [0,1,0,1,1]) AM k_2) (n:Nat):K8 (A11 [1,1,1,0,0,1,0,1,1]) Ju (HZ k_2 n):=fun ey t18 t19 b0 b4 b6 b7 b14 r h=>
 ra (cS h) []
def HY (k_3:aj->ah->ah->aF->Option (ah×aj)) (back:Int->Int->Int->aj->af->ah->ah->aF->Option (ah×aj)) (n:Nat) (ey t18 t19:Int) (b0:aj) (b4:af) (b6 b7:ah) (b14:aF):Option (ah×aj):=
 if decide (t19<t18) then
 (F24 n b0 5).bind fun x5=>
 yz (HZ back n) n ey t19 x5.1 t18 t19 x5.2 b4 (ah.mk []) (ah.mk b14) b14
 else
 k_3 b0 (ah.mk []) (ah.mk b14) b14
theorem alJ {k_3} (bT:K4 (A11 [1,1,1]) Jt k_3) {back} (aD:K8 (A11 [0,1,0,1,1]) AM back) (n:Nat):K8 (A11 [0,1,0,1,1]) AM (HY k_3 back n):=fun ey t18 t19 b0 b4 b6 b7 b14 r h=>
 ie h (fun c0_ h=>
 be h fun x5 hx5 h=>
 ra (adi (alK aD n) n h) [(0,eb c0_),(3,.call (dK n hx5) [] [(0,0)] [])]) (fun c0_ h=>
 ra (bT h) [(0,eb c0_)])
def vi (k_3:aj->ah->ah->aF->Option (ah×aj)):Nat->Int->Int->Int->aj->af->ah->ah->aF->Option (ah×aj)
 |0,_,_,_,_,_,_,_,_=>none
 |n+1,ey,t18,t19,b0,b4,b6,b7,b14=>HY k_3 (vi k_3 n) n ey t18 t19 b0 b4 b6 b7 b14
theorem adh {k_3} (bT:K4 (A11 [1,1,1]) Jt k_3):∀n:Nat,K8 (A11 [0,1,0,1,1]) AM (vi k_3 n)
 |0=>fun _ _ _ _ _ _ _ _ _ h=>nz h
 |n+1=>fun _ _ _ _ _ _ _ _ _ h=>alJ bT (adh bT n) n h
def CD (n:Nat) (b0:aj) (b6 b7:ah) (b14:aF):Option (ah×aj):=
 some ((ah.mk b14),b0)
theorem alI (n:Nat):K4 (A11 [1,1,1]) Jt (CD n):=fun b0 b6 b7 b14 r h=>
 rr h [(2,R66.frz 14 b14)]
def Tz (n:Nat) (c0:aj) (s1:af) (ey:Int):Option (ah×aj):=
 (kg (s1.ag.length:Int) ([]:Wq9)).bind fun x6=>
 vi (CD n) n ey (s1.ag.length:Int) 0 c0 s1 (ah.mk []) (ah.mk x6) x6
theorem alH (n:Nat):K3 (A11 []) UW (Tz n):=fun c0 s1 ey r h=>
 be h fun x6 hx6 h=>
 ra (adh (alI n) n h) [(4,.eqv (R62.ax s1.ag)),(0,R66.made [.aT] [.sl 43 1] hx6 (by kernel_rfl)),(0,.seq 14 (congrArg (fun n_=>(AV.ms 14 1 0 n_)) ((zw hx6)))),(5,.eqv (R62.ax s1.ag))]
def F11 (n:Nat) (c0:aj) (s1:af) (ey:Int):Option (ah×aj):=Tz n c0 s1 ey
theorem lh (n:Nat):K3 C11 UW (F11 n):=fun _ _ _ _ h=>ca (X:=x11) (alH n h)
def x43:=fx E0 Tryz.f43 [0] [0]
def x13:=fx E0 Tryz.f13 [0] [0,200000]
def Vq (r:Bool):AV:=.bool r
def OT (r:Bool):List (Nat×Bx):= []
def x108:=fx E0 Tryz.f108 [] []
def vl:=Ax x108 Vq OT
def C108:=Cx E0 108 Vq OT
def aer (i3 c4:Int) (xB:Bool) (gn:ByteArray) (fI:Nat):LS:=⟨[(3,.int .i64 i3),(4,.int .i32 c4),(5,.bool xB),(15,.it 15)],[(15,.iter gn fI)]⟩
def xo (gn:ByteArray) (fI:Nat):LS:=⟨[(15,.it 15)],[(15,.iter gn fI)]⟩
def Dg:LS:=⟨[],[]⟩
def Oj (s0:ByteArray):LS:=⟨[(0,.str s0)],[]⟩
def xg (k_1:ByteArray->Nat->Option Bool) (n:Nat) (i3 c4:Int) (xB:Bool) (gn:ByteArray) (fI:Nat):Option Bool:=
 if !xB then
 if i3==0 then
 some false
 else
 if c4 !=95 then
 if decide (c4<48) then
 some false
 else
 if decide (57<c4) then
 some false
 else
 k_1 gn fI
 else
 k_1 gn fI
 else
 k_1 gn fI
theorem XY {k_1} (aJ:K2 (vl [0,1,0,1,1]) xo k_1) (n:Nat):K5 (vl [1,1,0,1,1,0,0,1,0,1,1]) aer (xg k_1 n):=fun i3 c4 xB gn fI r h=>
 ie h (fun c0 h=>
 ie h (fun c1 h=>
 rr h [(1,eb c0),(2,eb c1)]) (fun c1 h=>
 ie h (fun c2 h=>
 ie h (fun c3 h=>
 rr h [(1,eb c0),(2,eb c1),(2,eb c2),(2,eb c3)]) (fun c3 h=>
 ie h (fun c4_ h=>
 rr h [(1,eb c0),(2,eb c1),(2,eb c2),(2,eb c3),(2,eb c4_)]) (fun c4_ h=>
 ra (aJ h) [(1,eb c0),(2,eb c1),(2,eb c2),(2,eb c3),(2,eb c4_)]))) (fun c2 h=>
 ra (aJ h) [(1,eb c0),(2,eb c1),(2,eb c2)]))) (fun c0 h=>
 ra (aJ h) [(1,eb c0)])
def CK (k_2:Option Bool) (back:ByteArray->Nat->Option Bool) (n:Nat) (gn:ByteArray) (fI:Nat):Option Bool:=
 if decide (fI<gn.size) then
 if !decide (((Utf8.decode gn fI).1:Int)<97) then
 xg back n (fI:Int) ((Utf8.decode gn fI).1:Int) (!decide (122<((Utf8.decode gn fI).1:Int))) gn (fI+(Utf8.decode gn fI).2)
 else
 xg back n (fI:Int) ((Utf8.decode gn fI).1:Int) false gn (fI+(Utf8.decode gn fI).2)
 else
 k_2
theorem ahj {k_2} (cS:K0 (vl [1,1,1]) Dg k_2) {back} (aD:K2 (vl [0,1,0,1,1]) xo back) (n:Nat):K2 (vl [0,1,0,1,1]) xo (CK k_2 back n):=fun gn fI r h=>
 ie h (fun c0 h=>
 ie h (fun c1 h=>
 ra (XY aD n h) [(0,.nxt (of_decide_eq_true c0)),(6,eb c1)]) (fun c1 h=>
 ra (XY aD n h) [(0,.nxt (of_decide_eq_true c0)),(6,eb c1)])) (fun c0 h=>
 ra (cS h) [(0,.fin (of_decide_eq_false c0))])
def m6 (k_2:Option Bool):Nat->ByteArray->Nat->Option Bool
 |0,_,_=>none
 |n+1,gn,fI=>CK k_2 (m6 k_2 n) n gn fI
theorem Xe {k_2} (cS:K0 (vl [1,1,1]) Dg k_2):∀n:Nat,K2 (vl [0,1,0,1,1]) xo (m6 k_2 n)
 |0=>fun _ _ _ h=>nz h
 |n+1=>fun _ _ _ h=>ahj cS (Xe cS n) n h
def rz (n:Nat):Option Bool:=
 some true
theorem ahi (n:Nat):K0 (vl [1,1,1]) Dg (rz n):=fun r h=>
 rr h []
def M8 (n:Nat) (s0:ByteArray):Option Bool:=
 if decide ((s0.size:Int)<1) then
 some false
 else
 if decide (32<(s0.size:Int)) then
 some false
 else
 m6 (rz n) n s0 0
theorem ahh (n:Nat):K1 (vl []) Oj (M8 n):=fun s0 r h=>
 ie h (fun c0 h=>
 rr h [(3,eb c0)]) (fun c0 h=>
 ie h (fun c1 h=>
 rr h [(3,eb c0),(3,eb c1)]) (fun c1 h=>
 ra (Xe (ahi n) n h) [(3,eb c0),(3,eb c1)]))
def MH (n:Nat) (s0:ByteArray):Option Bool:=M8 n s0
theorem mR (n:Nat):K1 C108 Oj (MH n):=fun _ _ h=>ca (X:=x108) (ahh n h)
def abm (r:Bool):AV:=.bool r
def VY (r:Bool):List (Nat×Bx):= []
def x76:=fx E0 Tryz.f76 [] []
def A76:=Ax x76 abm VY
def C76:=Cx E0 76 abm VY
def IE (t11:Wq1) (t12 t13:Int) (t24:ByteArray) (t29 t34:Int) (t36:Wq4) (t37:Int) (t45:Wq4) (t46 t47:Int) (b9 b43:List (ByteArray×Bool)) (b5:ay):LS:=⟨[(3,.mp 9),(6,.mp 43),(11,.slice 63 5 (dC t11)),(12,.int .i64 t12),(13,.int .i64 t13),(22,.mp 9),(23,.loc 5 0),(24,.str t24),(25,.bool false),(28,.loc 5 2),(29,.int .i64 t29),(30,.bool false),(33,.loc 5 2),(34,.int .i64 t34),(35,.loc 5 1),(36,.slice 77 2 (oj t36)),(37,.int .i64 t37),(38,.bool false),(45,.slice 77 2 (oj t45)),(46,.int .i64 t46),(47,.int .i64 t47)],[(5,.flat 63 (lP b5)),(9,.map (kC AV.bool b9)),(43,.map (kC AV.bool b43))]⟩
def ID (t11:Wq1) (t12 t13:Int) (t24:ByteArray) (t29 t34:Int) (t36:Wq4) (t37:Int) (b9:List (ByteArray×Bool)) (b5:ay):LS:=⟨[(3,.mp 9),(11,.slice 63 5 (dC t11)),(12,.int .i64 t12),(13,.int .i64 t13),(22,.mp 9),(23,.loc 5 0),(24,.str t24),(25,.bool false),(28,.loc 5 2),(29,.int .i64 t29),(30,.bool false),(33,.loc 5 2),(34,.int .i64 t34),(35,.loc 5 1),(36,.slice 77 2 (oj t36)),(37,.int .i64 t37),(38,.bool false)],[(5,.flat 63 (lP b5)),(9,.map (kC AV.bool b9))]⟩
def AE (t11:Wq1) (t12 t13:Int) (b9:List (ByteArray×Bool)):LS:=⟨[(3,.mp 9),(11,.slice 63 5 (dC t11)),(12,.int .i64 t12),(13,.int .i64 t13)],[(9,.map (kC AV.bool b9))]⟩
def IC:LS:=⟨[],[]⟩
def TX (s0:af):LS:=⟨[(0,.agg (ba s0))],[]⟩
def G6 (k_1:Wq1->Int->Int->ByteArray->Int->Int->Wq4->Int->(List (ByteArray×Bool))->ay->Option Bool) (back:Wq1->Int->Int->ByteArray->Int->Int->Wq4->Int->Wq4->Int->Int->(List (ByteArray×Bool))->(List (ByteArray×Bool))->ay->Option Bool) (n:Nat) (t11:Wq1) (t12 t13:Int) (t24:ByteArray) (t29 t34:Int) (t36:Wq4) (t37:Int) (t45:Wq4) (t46 t47:Int) (b9 b43:List (ByteArray×Bool)) (b5:ay):Option Bool:=
 if decide (t47<t46) then
 (idx t45 t47).bind fun x2=>
 (MH n x2.cJ).bind fun x9=>
 if !x9 then
 some false
 else
 if (ga b43 x2.cJ false) then
 some false
 else
 if x2.aw !=3 then
 if x2.aw !=4 then
 if x2.aw !=5 then
 some false
 else
 back t11 t12 t13 t24 t29 t34 t36 t37 t45 t46 (w64 (t47+1)) b9 (gw b43 x2.cJ true) b5
 else
 back t11 t12 t13 t24 t29 t34 t36 t37 t45 t46 (w64 (t47+1)) b9 (gw b43 x2.cJ true) b5
 else
 back t11 t12 t13 t24 t29 t34 t36 t37 t45 t46 (w64 (t47+1)) b9 (gw b43 x2.cJ true) b5
 else
 k_1 t11 t12 t13 t24 t29 t34 t36 t37 b9 b5
theorem ajF {k_1} (aJ:K10 (A76 [1,1,1,0,0,1,0,1,1]) ID k_1) {back} (aD:K14 (A76 [0,1,1,1,1,1,0,0,1,1,0,0,1,0,1,1]) IE back) (n:Nat):K14 (A76 [0,1,1,1,1,1,0,0,1,1,0,0,1,0,1,1]) IE (G6 k_1 back n):=fun t11 t12 t13 t24 t29 t34 t36 t37 t45 t46 t47 b9 b43 b5 r h=>
 ie h (fun c0 h=>
 be h fun x2 hx2 h=>
 be h fun x9 hx9 h=>
 ie h (fun c1 h=>
 rr h [(0,eb c0),(0,R76.idx hx2),(5,.call (mR n hx9) [] [] []),(0,eb c1)]) (fun c1 h=>
 ie h (fun c2 h=>
 rr h [(0,eb c0),(0,R76.idx hx2),(5,.call (mR n hx9) [] [] []),(0,eb c1),(4,.lkp false (g9 c2))]) (fun c2 h=>
 ie h (fun c3 h=>
 ie h (fun c4 h=>
 ie h (fun c5 h=>
 rr h [(0,eb c0),(0,R76.idx hx2),(5,.call (mR n hx9) [] [] []),(0,eb c1),(4,.lkp false (g9 c2)),(4,.upd (mu (f:=AV.bool) (k:=x2.cJ) (v:=true) b43)),(2,eb c3),(3,eb c4),(4,eb c5)]) (fun c5 h=>
 ra (aD h) [(0,eb c0),(0,R76.idx hx2),(5,.call (mR n hx9) [] [] []),(0,eb c1),(4,.lkp false (g9 c2)),(4,.upd (mu (f:=AV.bool) (k:=x2.cJ) (v:=true) b43)),(2,eb c3),(3,eb c4),(4,eb c5)])) (fun c4 h=>
 ra (aD h) [(0,eb c0),(0,R76.idx hx2),(5,.call (mR n hx9) [] [] []),(0,eb c1),(4,.lkp false (g9 c2)),(4,.upd (mu (f:=AV.bool) (k:=x2.cJ) (v:=true) b43)),(2,eb c3),(3,eb c4)])) (fun c3 h=>
 ra (aD h) [(0,eb c0),(0,R76.idx hx2),(5,.call (mR n hx9) [] [] []),(0,eb c1),(4,.lkp false (g9 c2)),(4,.upd (mu (f:=AV.bool) (k:=x2.cJ) (v:=true) b43)),(2,eb c3)])))) (fun c0 h=>
 ra (aJ h) [(0,eb c0)])
def yd (k_1:Wq1->Int->Int->ByteArray->Int->Int->Wq4->Int->(List (ByteArray×Bool))->ay->Option Bool):Nat->Wq1->Int->Int->ByteArray->Int->Int->Wq4->Int->Wq4->Int->Int->(List (ByteArray×Bool))->(List (ByteArray×Bool))->ay->Option Bool
 |0,_,_,_,_,_,_,_,_,_,_,_,_,_,_=>none
 |n+1,t11,t12,t13,t24,t29,t34,t36,t37,t45,t46,t47,b9,b43,b5=>G6 k_1 (yd k_1 n) n t11 t12 t13 t24 t29 t34 t36 t37 t45 t46 t47 b9 b43 b5
theorem acB {k_1} (aJ:K10 (A76 [1,1,1,0,0,1,0,1,1]) ID k_1):∀n:Nat,K14 (A76 [0,1,1,1,1,1,0,0,1,1,0,0,1,0,1,1]) IE (yd k_1 n)
 |0=>fun _ _ _ _ _ _ _ _ _ _ _ _ _ _ _ h=>nz h
 |n+1=>fun _ _ _ _ _ _ _ _ _ _ _ _ _ _ _ h=>ajF aJ (acB aJ n) n h
def G5 (k_2:Wq1->Int->Int->(List (ByteArray×Bool))->Option Bool) (n:Nat) (t11:Wq1) (t12 t13:Int) (t24:ByteArray) (t29 t34:Int) (t36:Wq4) (t37:Int) (b9:List (ByteArray×Bool)) (b5:ay):Option Bool:=
 k_2 t11 t12 (w64 (t13+1)) b9
theorem ajE {k_2} (cS:K4 (A76 [0,1,0,1,1]) AE k_2) (n:Nat):K10 (A76 [1,1,1,0,0,1,0,1,1]) ID (G5 k_2 n):=fun t11 t12 t13 t24 t29 t34 t36 t37 b9 b5 r h=>
 ra (cS h) []
def G4 (k_3:Option Bool) (back:Wq1->Int->Int->(List (ByteArray×Bool))->Option Bool) (n:Nat) (t11:Wq1) (t12 t13:Int) (b9:List (ByteArray×Bool)):Option Bool:=
 if decide (t13<t12) then
 (idx t11 t13).bind fun x2=>
 (MH n x2.cJ).bind fun x9=>
 if !x9 then
 some false
 else
 if (ga b9 x2.cJ false) then
 some false
 else
 if decide (x2.au<1) then
 some false
 else
 if decide ((x2.ak.length:Int)<x2.au) then
 some false
 else
 yd (G5 back n) n t11 t12 t13 x2.cJ x2.au x2.au x2.ak (x2.ak.length:Int) x2.ak (x2.ak.length:Int) 0 (gw b9 x2.cJ true) [] x2
 else
 k_3
theorem ajD {k_3} (bT:K0 (A76 [1,1,1]) IC k_3) {back} (aD:K4 (A76 [0,1,0,1,1]) AE back) (n:Nat):K4 (A76 [0,1,0,1,1]) AE (G4 k_3 back n):=fun t11 t12 t13 b9 r h=>
 ie h (fun c0 h=>
 be h fun x2 hx2 h=>
 be h fun x9 hx9 h=>
 ie h (fun c1 h=>
 rr h [(0,eb c0),(0,R62.idx hx2),(5,.call (mR n hx9) [] [] []),(0,eb c1)]) (fun c1 h=>
 ie h (fun c2 h=>
 rr h [(0,eb c0),(0,R62.idx hx2),(5,.call (mR n hx9) [] [] []),(0,eb c1),(4,.lkp false (g9 c2))]) (fun c2 h=>
 ie h (fun c3 h=>
 rr h [(0,eb c0),(0,R62.idx hx2),(5,.call (mR n hx9) [] [] []),(0,eb c1),(4,.lkp false (g9 c2)),(4,eb c3)]) (fun c3 h=>
 ie h (fun c4 h=>
 rr h [(0,eb c0),(0,R62.idx hx2),(5,.call (mR n hx9) [] [] []),(0,eb c1),(4,.lkp false (g9 c2)),(4,eb c3),(6,.eqv (R76.ax x2.ak)),(0,eb c4)]) (fun c4 h=>
 ra (acB (ajE aD n) n h) [(0,eb c0),(0,R62.idx hx2),(5,.call (mR n hx9) [] [] []),(0,eb c1),(4,.lkp false (g9 c2)),(4,eb c3),(6,.eqv (R76.ax x2.ak)),(0,eb c4),(4,.upd (mu (f:=AV.bool) (k:=x2.cJ) (v:=true) b9)),(4,.eqv (R76.ax x2.ak))]))))) (fun c0 h=>
 ra (bT h) [(0,eb c0)])
def vd (k_3:Option Bool):Nat->Wq1->Int->Int->(List (ByteArray×Bool))->Option Bool
 |0,_,_,_,_=>none
 |n+1,t11,t12,t13,b9=>G4 k_3 (vd k_3 n) n t11 t12 t13 b9
theorem acA {k_3} (bT:K0 (A76 [1,1,1]) IC k_3):∀n:Nat,K4 (A76 [0,1,0,1,1]) AE (vd k_3 n)
 |0=>fun _ _ _ _ _ h=>nz h
 |n+1=>fun _ _ _ _ _ h=>ajD bT (acA bT n) n h
def Cq (n:Nat):Option Bool:=
 some true
theorem ajC (n:Nat):K0 (A76 [1,1,1]) IC (Cq n):=fun r h=>
 rr h []
def aee (n:Nat) (s0:af):Option Bool:=
 vd (Cq n) n s0.ag (s0.ag.length:Int) 0 []
theorem ajB (n:Nat):K1 (A76 []) TX (aee n):=fun s0 r h=>
 ra (acA (ajC n) n h) [(6,.eqv (R62.ax s0.ag))]
def F76 (n:Nat) (s0:af):Option Bool:=aee n s0
theorem Z4 (n:Nat):K1 C76 TX (F76 n):=fun _ _ h=>ca (X:=x76) (ajB n h)
def abl (r:Bool):AV:=.bool r
def VX (r:Bool):List (Nat×Bx):= []
def x77:=fx E0 Tryz.f77 [] []
def A77:=Ax x77 abl VX
def C77:=Cx E0 77 abl VX
def IB (t11:Wq1) (t12 t13:Int) (t18:Wq7) (t19 t20 t29:Int) (t31:Wq1) (t32:Int) (t48:Wq0) (t49 t50:Int) (b1:af) (b4 b7:ay) (b6:bU):LS:=⟨[(1,.loc 1 0),(4,.loc 4 0),(7,.loc 7 0),(11,.slice 63 5 (dC t11)),(12,.int .i64 t12),(13,.int .i64 t13),(18,.slice 80 2 (mE t18)),(19,.int .i64 t19),(20,.int .i64 t20),(28,.loc 6 1),(29,.int .i64 t29),(30,.loc 1 1),(31,.slice 63 5 (dC t31)),(32,.int .i64 t32),(33,.bool false),(48,.slice 3 1 (bq t48)),(49,.int .i64 t49),(50,.int .i64 t50)],[(1,.flat 26 (ba b1)),(4,.flat 63 (lP b4)),(6,.flat 80 (BQ b6)),(7,.flat 63 (lP b7))]⟩
def IA (t11:Wq1) (t12 t13:Int) (t18:Wq7) (t19 t20 t29:Int) (t31:Wq1) (t32:Int) (b1:af) (b4:ay) (b6:bU):LS:=⟨[(1,.loc 1 0),(4,.loc 4 0),(11,.slice 63 5 (dC t11)),(12,.int .i64 t12),(13,.int .i64 t13),(18,.slice 80 2 (mE t18)),(19,.int .i64 t19),(20,.int .i64 t20),(28,.loc 6 1),(29,.int .i64 t29),(30,.loc 1 1),(31,.slice 63 5 (dC t31)),(32,.int .i64 t32),(33,.bool false)],[(1,.flat 26 (ba b1)),(4,.flat 63 (lP b4)),(6,.flat 80 (BQ b6))]⟩
def AD (t11:Wq1) (t12 t13:Int) (t18:Wq7) (t19 t20:Int) (b1:af) (b4:ay):LS:=⟨[(1,.loc 1 0),(4,.loc 4 0),(11,.slice 63 5 (dC t11)),(12,.int .i64 t12),(13,.int .i64 t13),(18,.slice 80 2 (mE t18)),(19,.int .i64 t19),(20,.int .i64 t20)],[(1,.flat 26 (ba b1)),(4,.flat 63 (lP b4))]⟩
def Iz (t11:Wq1) (t12 t13:Int) (b1:af):LS:=⟨[(1,.loc 1 0),(11,.slice 63 5 (dC t11)),(12,.int .i64 t12),(13,.int .i64 t13)],[(1,.flat 26 (ba b1))]⟩
def AB (t11:Wq1) (t12 t13:Int) (b1:af):LS:=⟨[(1,.loc 1 0),(11,.slice 63 5 (dC t11)),(12,.int .i64 t12),(13,.int .i64 t13)],[(1,.flat 26 (ba b1))]⟩
def Iy:LS:=⟨[],[]⟩
def TW (s0:af):LS:=⟨[(0,.agg (ba s0))],[]⟩
def G3 (k_1:Wq1->Int->Int->Wq7->Int->Int->Int->Wq1->Int->af->ay->bU->Option Bool) (back:Wq1->Int->Int->Wq7->Int->Int->Int->Wq1->Int->Wq0->Int->Int->af->ay->ay->bU->Option Bool) (n:Nat) (t11:Wq1) (t12 t13:Int) (t18:Wq7) (t19 t20 t29:Int) (t31:Wq1) (t32:Int) (t48:Wq0) (t49 t50:Int) (b1:af) (b4 b7:ay) (b6:bU):Option Bool:=
 if decide (t50<t49) then
 (idx t48 t50).bind fun x3=>
 if decide (x3<0) then
 some false
 else
 if !decide (x3<(b4.ak.length:Int)) then
 some false
 else
 (idx b4.ak x3).bind fun x21=>
 (idx b7.ak t50).bind fun x28=>
 if x21.aw !=x28.aw then
 some false
 else
 back t11 t12 t13 t18 t19 t20 t29 t31 t32 t48 t49 (w64 (t50+1)) b1 b4 b7 b6
 else
 k_1 t11 t12 t13 t18 t19 t20 t29 t31 t32 b1 b4 b6
theorem ajA {k_1} (aJ:K12 (A77 [1,1,1,0,0,1,1,0,0,1,1,0,0,1,0,1]) IA k_1) {back} (aD:K16 (A77 [0,1,1,1,1,1,0,0,1,1,0,0,1,1,0,0,1,1,0,0,1,0,1]) IB back) (n:Nat):K16 (A77 [0,1,1,1,1,1,0,0,1,1,0,0,1,1,0,0,1,1,0,0,1,0,1]) IB (G3 k_1 back n):=fun t11 t12 t13 t18 t19 t20 t29 t31 t32 t48 t49 t50 b1 b4 b7 b6 r h=>
 ie h (fun c0 h=>
 be h fun x3 hx3 h=>
 ie h (fun c1 h=>
 rr h [(0,eb c0),(1,R3.idx hx3),(4,eb c1)]) (fun c1 h=>
 ie h (fun c2 h=>
 rr h [(0,eb c0),(1,R3.idx hx3),(4,eb c1),(4,.eqv (R76.ax b4.ak)),(0,eb c2)]) (fun c2 h=>
 be h fun x21 iI h=>
 be h fun x28 kE h=>
 ie h (fun c3 h=>
 rr h [(0,eb c0),(1,R3.idx hx3),(4,eb c1),(4,.eqv (R76.ax b4.ak)),(0,eb c2),(5,R76.idx iI),(5,R76.idx kE),(2,eb c3)]) (fun c3 h=>
 ra (aD h) [(0,eb c0),(1,R3.idx hx3),(4,eb c1),(4,.eqv (R76.ax b4.ak)),(0,eb c2),(5,R76.idx iI),(5,R76.idx kE),(2,eb c3)])))) (fun c0 h=>
 ra (aJ h) [(0,eb c0)])
def yc (k_1:Wq1->Int->Int->Wq7->Int->Int->Int->Wq1->Int->af->ay->bU->Option Bool):Nat->Wq1->Int->Int->Wq7->Int->Int->Int->Wq1->Int->Wq0->Int->Int->af->ay->ay->bU->Option Bool
 |0,_,_,_,_,_,_,_,_,_,_,_,_,_,_,_,_=>none
 |n+1,t11,t12,t13,t18,t19,t20,t29,t31,t32,t48,t49,t50,b1,b4,b7,b6=>G3 k_1 (yc k_1 n) n t11 t12 t13 t18 t19 t20 t29 t31 t32 t48 t49 t50 b1 b4 b7 b6
theorem acz {k_1} (aJ:K12 (A77 [1,1,1,0,0,1,1,0,0,1,1,0,0,1,0,1]) IA k_1):∀n:Nat,K16 (A77 [0,1,1,1,1,1,0,0,1,1,0,0,1,1,0,0,1,1,0,0,1,0,1]) IB (yc k_1 n)
 |0=>fun _ _ _ _ _ _ _ _ _ _ _ _ _ _ _ _ _ h=>nz h
 |n+1=>fun _ _ _ _ _ _ _ _ _ _ _ _ _ _ _ _ _ h=>ajA aJ (acz aJ n) n h
def G2 (k_2:Wq1->Int->Int->Wq7->Int->Int->af->ay->Option Bool) (n:Nat) (t11:Wq1) (t12 t13:Int) (t18:Wq7) (t19 t20 t29:Int) (t31:Wq1) (t32:Int) (b1:af) (b4:ay) (b6:bU):Option Bool:=
 k_2 t11 t12 t13 t18 t19 (w64 (t20+1)) b1 b4
theorem ajz {k_2} (cS:K8 (A77 [0,1,1,0,0,1,1,0,0,1,0,1]) AD k_2) (n:Nat):K12 (A77 [1,1,1,0,0,1,1,0,0,1,1,0,0,1,0,1]) IA (G2 k_2 n):=fun t11 t12 t13 t18 t19 t20 t29 t31 t32 b1 b4 b6 r h=>
 ra (cS h) []
def G1 (k_3:Wq1->Int->Int->af->Option Bool) (back:Wq1->Int->Int->Wq7->Int->Int->af->ay->Option Bool) (n:Nat) (t11:Wq1) (t12 t13:Int) (t18:Wq7) (t19 t20:Int) (b1:af) (b4:ay):Option Bool:=
 if decide (t20<t19) then
 (idx t18 t20).bind fun x2=>
 if decide (x2.aq<0) then
 some false
 else
 if !decide (x2.aq<(b1.ag.length:Int)) then
 some false
 else
 (idx b1.ag x2.aq).bind fun x22=>
 if (x2.ak.length:Int) !=x22.au then
 some false
 else
 yc (G2 back n) n t11 t12 t13 t18 t19 t20 x2.aq b1.ag (b1.ag.length:Int) x2.ak (x2.ak.length:Int) 0 b1 b4 x22 x2
 else
 k_3 t11 t12 t13 b1
theorem ajy {k_3} (bT:K4 (A77 [1,1,1,0,0,1,0,1]) Iz k_3) {back} (aD:K8 (A77 [0,1,1,0,0,1,1,0,0,1,0,1]) AD back) (n:Nat):K8 (A77 [0,1,1,0,0,1,1,0,0,1,0,1]) AD (G1 k_3 back n):=fun t11 t12 t13 t18 t19 t20 b1 b4 r h=>
 ie h (fun c0 h=>
 be h fun x2 hx2 h=>
 ie h (fun c1 h=>
 rr h [(0,eb c0),(0,R79.idx hx2),(5,eb c1)]) (fun c1 h=>
 ie h (fun c2 h=>
 rr h [(0,eb c0),(0,R79.idx hx2),(5,eb c1),(5,.eqv (R62.ax b1.ag)),(0,eb c2)]) (fun c2 h=>
 be h fun x22 qI h=>
 ie h (fun c3 h=>
 rr h [(0,eb c0),(0,R79.idx hx2),(5,eb c1),(5,.eqv (R62.ax b1.ag)),(0,eb c2),(5,R62.idx qI),(5,.eqv (R3.ax x2.ak)),(2,eb c3)]) (fun c3 h=>
 ra (acz (ajz aD n) n h) [(0,eb c0),(0,R79.idx hx2),(5,eb c1),(5,.eqv (R62.ax b1.ag)),(0,eb c2),(5,R62.idx qI),(5,.eqv (R3.ax x2.ak)),(2,eb c3),(2,.eqv (R3.ax x2.ak))])))) (fun c0 h=>
 ra (bT h) [(0,eb c0)])
def vb (k_3:Wq1->Int->Int->af->Option Bool):Nat->Wq1->Int->Int->Wq7->Int->Int->af->ay->Option Bool
 |0,_,_,_,_,_,_,_,_=>none
 |n+1,t11,t12,t13,t18,t19,t20,b1,b4=>G1 k_3 (vb k_3 n) n t11 t12 t13 t18 t19 t20 b1 b4
theorem acy {k_3} (bT:K4 (A77 [1,1,1,0,0,1,0,1]) Iz k_3):∀n:Nat,K8 (A77 [0,1,1,0,0,1,1,0,0,1,0,1]) AD (vb k_3 n)
 |0=>fun _ _ _ _ _ _ _ _ _ h=>nz h
 |n+1=>fun _ _ _ _ _ _ _ _ _ h=>ajy bT (acy bT n) n h
def G0 (k_4:Wq1->Int->Int->af->Option Bool) (n:Nat) (t11:Wq1) (t12 t13:Int) (b1:af):Option Bool:=
 k_4 t11 t12 (w64 (t13+1)) b1
theorem ajx {k_4} (gy:K4 (A77 [0,1,0,1]) AB k_4) (n:Nat):K4 (A77 [1,1,1,0,0,1,0,1]) Iz (G0 k_4 n):=fun t11 t12 t13 b1 r h=>
 ra (gy h) []
def GZ (k_5:Option Bool) (back:Wq1->Int->Int->af->Option Bool) (n:Nat) (t11:Wq1) (t12 t13:Int) (b1:af):Option Bool:=
 if decide (t13<t12) then
 (idx t11 t13).bind fun x2=>
 vb (G0 back n) n t11 t12 t13 x2.cf (x2.cf.length:Int) 0 b1 x2
 else
 k_5
theorem ajw {k_5} (iK:K0 (A77 [1,1]) Iy k_5) {back} (aD:K4 (A77 [0,1,0,1]) AB back) (n:Nat):K4 (A77 [0,1,0,1]) AB (GZ k_5 back n):=fun t11 t12 t13 b1 r h=>
 ie h (fun c0 h=>
 be h fun x2 hx2 h=>
 ra (acy (ajx aD n) n h) [(0,eb c0),(0,R62.idx hx2),(5,.eqv (R79.ax x2.cf))]) (fun c0 h=>
 ra (iK h) [(0,eb c0)])
def u9 (k_5:Option Bool):Nat->Wq1->Int->Int->af->Option Bool
 |0,_,_,_,_=>none
 |n+1,t11,t12,t13,b1=>GZ k_5 (u9 k_5 n) n t11 t12 t13 b1
theorem acx {k_5} (iK:K0 (A77 [1,1]) Iy k_5):∀n:Nat,K4 (A77 [0,1,0,1]) AB (u9 k_5 n)
 |0=>fun _ _ _ _ _ h=>nz h
 |n+1=>fun _ _ _ _ _ h=>ajw iK (acx iK n) n h
def Co (n:Nat):Option Bool:=
 some true
theorem ajv (n:Nat):K0 (A77 [1,1]) Iy (Co n):=fun r h=>
 rr h []
def aed (n:Nat) (s0:af):Option Bool:=
 u9 (Co n) n s0.ag (s0.ag.length:Int) 0 s0
theorem aju (n:Nat):K1 (A77 []) TW (aed n):=fun s0 r h=>
 ra (acx (ajv n) n h) [(4,.eqv (R62.ax s0.ag))]
def F77 (n:Nat) (s0:af):Option Bool:=aed n s0
theorem ev77 (n:Nat):K1 C77 TW (F77 n):=fun _ _ h=>ca (X:=x77) (aju n h)
def abh (r:Bool):AV:=.bool r
def VT (r:Bool):List (Nat×Bx):= []
def x81:=fx E0 Tryz.f81 [] []
def A81:=Ax x81 abh VT
def C81:=Cx E0 81 abh VT
def TS (s0:af) (aU:Int):LS:=⟨[(0,.agg (ba s0)),(1,.int .i64 aU)],[]⟩
def SM (n:Nat) (s0:af) (aU:Int):Option Bool:=
 if !decide (aU<0) then
 some (decide (aU<(s0.ag.length:Int)))
 else
 some false
theorem ajo (n:Nat):K2 (A81 []) TS (SM n):=fun s0 aU r h=>
 ie h (fun c0 h=>
 rr h [(3,eb c0),(4,.eqv (R62.ax s0.ag))]) (fun c0 h=>
 rr h [(3,eb c0)])
def F81 (n:Nat) (s0:af) (aU:Int):Option Bool:=SM n s0 aU
theorem qU (n:Nat):K2 C81 TS (F81 n):=fun _ _ _ h=>ca (X:=x81) (ajo n h)
def abk (r:Wq0):AV:=.ms 200000 1 0 r.length
def VW (r:Wq0):List (Nat×Bx):= [(200000,.rows false 3 1 (bq r))]
def x78:=fx E0 Tryz.f78 [] [200000]
def A78:=Ax x78 abk VW
def C78:=Cx E0 78 abk VW
def Ix (t25:Wq4) (t26 t27:Int) (b19:Wq0):LS:=⟨[(5,.ms 19 1 0 b19.length),(25,.slice 77 2 (oj t25)),(26,.int .i64 t26),(27,.int .i64 t27)],[(19,.rows false 3 1 (bq b19))]⟩
def Iw (b19:Wq0):LS:=⟨[(5,.ms 19 1 0 b19.length)],[(19,.rows false 3 1 (bq b19))]⟩
def TV (s0:af) (aU:Int):LS:=⟨[(0,.agg (ba s0)),(1,.int .i64 aU)],[]⟩
def GY (k_1:Wq0->Option Wq0) (back:Wq4->Int->Int->Wq0->Option Wq0) (n:Nat) (t25:Wq4) (t26 t27:Int) (b19:Wq0):Option Wq0:=
 if decide (t27<t26) then
 (idx t25 t27).bind fun x2=>
 (app b19 [x2.aw]).bind fun x11=>
 back t25 t26 (w64 (t27+1)) x11
 else
 k_1 b19
theorem ajt {k_1} (aJ:K1 (A78 [1,1,1,1]) Iw k_1) {back} (aD:K4 (A78 [0,1,0,1,1,1]) Ix back) (n:Nat):K4 (A78 [0,1,0,1,1,1]) Ix (GY k_1 back n):=fun t25 t26 t27 b19 r h=>
 ie h (fun c0 h=>
 be h fun x2 hx2 h=>
 be h fun x11 ct h=>
 ra (aD h) [(0,eb c0),(0,R76.idx hx2),(7,R3.app ct (R3.srW [x2.aw]))]) (fun c0 h=>
 ra (aJ h) [(0,eb c0)])
def yb (k_1:Wq0->Option Wq0):Nat->Wq4->Int->Int->Wq0->Option Wq0
 |0,_,_,_,_=>none
 |n+1,t25,t26,t27,b19=>GY k_1 (yb k_1 n) n t25 t26 t27 b19
theorem acw {k_1} (aJ:K1 (A78 [1,1,1,1]) Iw k_1):∀n:Nat,K4 (A78 [0,1,0,1,1,1]) Ix (yb k_1 n)
 |0=>fun _ _ _ _ _ h=>nz h
 |n+1=>fun _ _ _ _ _ h=>ajt aJ (acw aJ n) n h
def GX (n:Nat) (b19:Wq0):Option Wq0:=
 some b19
theorem ajs (n:Nat):K1 (A78 [1,1,1,1]) Iw (GX n):=fun b19 r h=>
 rr h [(2,.ren 19 200000)]
def SQ (n:Nat) (s0:af) (aU:Int):Option Wq0:=
 (F81 n s0 aU).bind fun x5=>
 if !x5 then
 some []
 else
 (idx s0.ag aU).bind fun x11=>
 (kg (x11.ak.length:Int) (0:Int)).bind fun x16=>
 (idx s0.ag aU).bind fun x22=>
 yb (GX n) n x22.ak (x22.ak.length:Int) 0 []
theorem ajr (n:Nat):K2 (A78 []) TV (SQ n):=fun s0 aU r h=>
 be h fun x5 hx5 h=>
 ie h (fun c0 h=>
 rr h [(4,.call (qU n hx5) [] [] []),(0,eb c0),(1,.born [4] [] 200000 false 3 1)]) (fun c0 h=>
 be h fun x11 ct h=>
 be h fun x16 cO h=>
 be h fun x22 qI h=>
 ra (acw (ajs n) n h) [(4,.call (qU n hx5) [] [] []),(0,eb c0),(3,R62.idx ct),(2,.eqv (R76.ax x11.ak)),(0,R3.aix [.int .i64 0] cO),(4,R62.idx qI),(2,.eqv (R76.ax x22.ak))])
def F78 (n:Nat) (s0:af) (aU:Int):Option Wq0:=SQ n s0 aU
theorem Ls (n:Nat):K2 C78 TV (F78 n):=fun _ _ _ h=>ca (X:=x78) (ajr n h)
def Vp (r:Bool):AV:=.bool r
def OS (r:Bool):List (Nat×Bx):= []
def x109:=fx E0 Tryz.f109 [] []
def An:=Ax x109 Vp OS
def C109:=Cx E0 109 Vp OS
def Df (t5:Wq0) (t6 t7:Int):LS:=⟨[(5,.slice 3 1 (bq t5)),(6,.int .i64 t6),(7,.int .i64 t7)],[]⟩
def De:LS:=⟨[],[]⟩
def Oi (rT:Wq0):LS:=⟨[(0,.slice 3 1 (bq rT))],[]⟩
def CJ (k_1:Option Bool) (back:Wq0->Int->Int->Option Bool) (n:Nat) (t5:Wq0) (t6 t7:Int):Option Bool:=
 if decide (t7<t6) then
 (idx t5 t7).bind fun x2=>
 if x2 !=3 then
 if x2 !=4 then
 if x2 !=5 then
 some false
 else
 back t5 t6 (w64 (t7+1))
 else
 back t5 t6 (w64 (t7+1))
 else
 back t5 t6 (w64 (t7+1))
 else
 k_1
theorem ahg {k_1} (aJ:K0 (An [1,1]) De k_1) {back} (aD:K3 (An [0,1,0,1]) Df back) (n:Nat):K3 (An [0,1,0,1]) Df (CJ k_1 back n):=fun t5 t6 t7 r h=>
 ie h (fun c0 h=>
 be h fun x2 hx2 h=>
 ie h (fun c1 h=>
 ie h (fun c2 h=>
 ie h (fun c3 h=>
 rr h [(0,eb c0),(0,R3.idx hx2),(3,eb c1),(2,eb c2),(3,eb c3)]) (fun c3 h=>
 ra (aD h) [(0,eb c0),(0,R3.idx hx2),(3,eb c1),(2,eb c2),(3,eb c3)])) (fun c2 h=>
 ra (aD h) [(0,eb c0),(0,R3.idx hx2),(3,eb c1),(2,eb c2)])) (fun c1 h=>
 ra (aD h) [(0,eb c0),(0,R3.idx hx2),(3,eb c1)])) (fun c0 h=>
 ra (aJ h) [(0,eb c0)])
def tI (k_1:Option Bool):Nat->Wq0->Int->Int->Option Bool
 |0,_,_,_=>none
 |n+1,t5,t6,t7=>CJ k_1 (tI k_1 n) n t5 t6 t7
theorem Xd {k_1} (aJ:K0 (An [1,1]) De k_1):∀n:Nat,K3 (An [0,1,0,1]) Df (tI k_1 n)
 |0=>fun _ _ _ _ h=>nz h
 |n+1=>fun _ _ _ _ h=>ahg aJ (Xd aJ n) n h
def M7 (n:Nat):Option Bool:=
 some true
theorem ahf (n:Nat):K0 (An [1,1]) De (M7 n):=fun r h=>
 rr h []
def M6 (n:Nat) (rT:Wq0):Option Bool:=
 tI (M7 n) n rT (rT.length:Int) 0
theorem ahe (n:Nat):K1 (An []) Oi (M6 n):=fun rT r h=>
 ra (Xd (ahf n) n h) [(2,.eqv (R3.ax rT))]
def MG (n:Nat) (rT:Wq0):Option Bool:=M6 n rT
theorem pD (n:Nat):K1 C109 Oi (MG n):=fun _ _ h=>ca (X:=x109) (ahe n h)
def Vo (r:(Bool×Int)):AV:=.bool r.1
def OQ (r:(Bool×Int)):List (Nat×Bx):= [(2,.flat 3 [.int .i64 r.2])]
def x110:=fx E0 Tryz.f110 [2] [2]
def Am:=Ax x110 Vo OQ
def MK:=Cx E0 110 Vo OQ
def Dd (iv:Int) (t23:Wq8) (t24 t25 b2:Int):LS:=⟨[(1,.int .i64 iv),(2,.loc 2 0),(23,.slice 84 13 (il t23)),(24,.int .i64 t24),(25,.int .i64 t25)],[(2,.flat 3 [.int .i64 b2])]⟩
def Dc (b2:Int):LS:=⟨[],[(2,.flat 3 [.int .i64 b2])]⟩
def pY (p0:an) (iv kX:Int):LS:=⟨[(0,.agg (gO p0)),(1,.int .i64 iv),(2,.loc 2 0)],[(2,.flat 3 [.int .i64 kX])]⟩
def CI (gC:an->Int->Int->Option (Bool×Int)) (k_1:Int->Option (Bool×Int)) (back:Int->Wq8->Int->Int->Int->Option (Bool×Int)) (n:Nat) (iv:Int) (t23:Wq8) (t24 t25 b2:Int):Option (Bool×Int):=
 if decide (t25<t24) then
 (idx t23 t25).bind fun x2=>
 (gC x2 (w64 (iv+1)) b2).bind fun x11=>
 if !x11.1 then
 some (false,x11.2)
 else
 back iv t23 t24 (w64 (t25+1)) x11.2
 else
 k_1 b2
theorem ahd {gC} (mN:K3 MK pY gC) {k_1} (aJ:K1 (Am [1,1,1,1]) Dc k_1) {back} (aD:K5 (Am [0,1,0,1,1,1]) Dd back) (n:Nat):K5 (Am [0,1,0,1,1,1]) Dd (CI gC k_1 back n):=fun iv t23 t24 t25 b2 r h=>
 ie h (fun c0 h=>
 be h fun x2 hx2 h=>
 be h fun x11 ct h=>
 ie h (fun c1 h=>
 rr h [(0,eb c0),(0,R83.idx hx2),(7,.call (mN ct) [] [(2,2)] []),(0,eb c1)]) (fun c1 h=>
 ra (aD h) [(0,eb c0),(0,R83.idx hx2),(7,.call (mN ct) [] [(2,2)] []),(0,eb c1)])) (fun c0 h=>
 ra (aJ h) [(0,eb c0)])
def tH (gC:an->Int->Int->Option (Bool×Int)) (k_1:Int->Option (Bool×Int)):Nat->Int->Wq8->Int->Int->Int->Option (Bool×Int)
 |0,_,_,_,_,_=>none
 |n+1,iv,t23,t24,t25,b2=>CI gC k_1 (tH gC k_1 n) n iv t23 t24 t25 b2
theorem Xc {gC} (mN:K3 MK pY gC) {k_1} (aJ:K1 (Am [1,1,1,1]) Dc k_1):∀n:Nat,K5 (Am [0,1,0,1,1,1]) Dd (tH gC k_1 n)
 |0=>fun _ _ _ _ _ _ h=>nz h
 |n+1=>fun _ _ _ _ _ _ h=>ahd mN aJ (Xc mN aJ n) n h
def Yn (gC:an->Int->Int->Option (Bool×Int)) (n:Nat) (b2:Int):Option (Bool×Int):=
 some (true,b2)
theorem ahc {gC} (mN:K3 MK pY gC) (n:Nat):K1 (Am [1,1,1,1]) Dc (Yn gC n):=fun b2 r h=>
 rr h []
def M5 (gC:an->Int->Int->Option (Bool×Int)) (n:Nat) (p0:an) (iv kX:Int):Option (Bool×Int):=
 if decide ((w64 (kX - 1))<0) then
 some (false,w64 (kX - 1))
 else
 if decide (8<iv) then
 some (false,w64 (kX - 1))
 else
 tH gC (Yn gC n) n iv p0.fArgs (p0.fArgs.length:Int) 0 (w64 (kX - 1))
theorem ahb {gC} (mN:K3 MK pY gC) (n:Nat):K3 (Am []) pY (M5 gC n):=fun p0 iv kX r h=>
 ie h (fun c0 h=>
 rr h [(11,eb c0)]) (fun c0 h=>
 ie h (fun c1 h=>
 rr h [(11,eb c0),(2,eb c1)]) (fun c1 h=>
 ra (Xc mN (ahc mN n) n h) [(11,eb c0),(2,eb c1),(3,.eqv (R83.ax p0.fArgs))]))
def EM:Nat->an->Int->Int->Option (Bool×Int)
 |0,_,_,_=>none
 |n+1,p0,iv,kX=>M5 (EM n) n p0 iv kX
theorem Gx:∀n:Nat,K3 MK pY (EM n)
 |0=>fun _ _ _ _ h=>nz h
 |n+1=>fun _ _ _ _ h=>ca (X:=x110) (ahb (Gx n) n h)
def Vy (r:Bool):AV:=.bool r
def O1 (r:Bool):List (Nat×Bx):= []
def H9:=fx E0 Tryz.f100 [] []
def A100:=Ax H9 Vy O1
def C100:=Cx E0 100 Vy O1
def Oq (v0:aH):LS:=⟨[(0,.agg (jX v0))],[]⟩
def Yt (n:Nat) (v0:aH):Option Bool:=
 if v0.aw==1 then
 if v0.bM==0 then
 some (decide (v0.bt=ByteArray.empty))
 else
 some false
 else
 if v0.aw==2 then
 if v0.bM==0 then
 some (decide (v0.bt=ByteArray.empty))
 else
 some false
 else
 if v0.aw==3 then
 if v0.bM==0 then
 some (decide (v0.bt=ByteArray.empty))
 else
 if v0.bM==1 then
 some (decide (v0.bt=ByteArray.empty))
 else
 some false
 else
 if v0.aw==4 then
 some (decide (v0.bt=ByteArray.empty))
 else
 if v0.aw==5 then
 if v0.bM==0 then
 some (!decide (64<(v0.bt.size:Int)))
 else
 some false
 else
 some false
theorem ahH (n:Nat):K1 (A100 []) Oq (Yt n):=fun v0 r h=>
 ie h (fun c0 h=>
 ie h (fun c1 h=>
 rr h [(4,eb c0),(3,eb c1)]) (fun c1 h=>
 rr h [(4,eb c0),(3,eb c1)])) (fun c0 h=>
 ie h (fun c1 h=>
 ie h (fun c2 h=>
 rr h [(4,eb c0),(1,eb c1),(3,eb c2)]) (fun c2 h=>
 rr h [(4,eb c0),(1,eb c1),(3,eb c2)])) (fun c1 h=>
 ie h (fun c2 h=>
 ie h (fun c3 h=>
 rr h [(4,eb c0),(1,eb c1),(1,eb c2),(3,eb c3)]) (fun c3 h=>
 ie h (fun c4 h=>
 rr h [(4,eb c0),(1,eb c1),(1,eb c2),(3,eb c3),(3,eb c4)]) (fun c4 h=>
 rr h [(4,eb c0),(1,eb c1),(1,eb c2),(3,eb c3),(3,eb c4)]))) (fun c2 h=>
 ie h (fun c3 h=>
 rr h [(4,eb c0),(1,eb c1),(1,eb c2),(1,eb c3)]) (fun c3 h=>
 ie h (fun c4 h=>
 ie h (fun c5 h=>
 rr h [(4,eb c0),(1,eb c1),(1,eb c2),(1,eb c3),(1,eb c4),(3,eb c5)]) (fun c5 h=>
 rr h [(4,eb c0),(1,eb c1),(1,eb c2),(1,eb c3),(1,eb c4),(3,eb c5)])) (fun c4 h=>
 rr h [(4,eb c0),(1,eb c1),(1,eb c2),(1,eb c3),(1,eb c4)])))))
def SC (n:Nat) (v0:aH):Option Bool:=Yt n v0
theorem uL (n:Nat):K1 C100 Oq (SC n):=fun _ _ h=>ca (X:=H9) (ahH n h)
def abi (r:Bool):AV:=.bool r
def VU (r:Bool):List (Nat×Bx):= []
def x80:=fx E0 Tryz.f80 [] []
def A80:=Ax x80 abi VU
def C80:=Cx E0 80 abi VU
def TT (v0:aH):LS:=⟨[(0,.agg (jX v0))],[]⟩
def SN (n:Nat) (v0:aH):Option Bool:=
 (SC n v0).bind fun x4=>
 if x4 then
 if v0.aw !=1 then
 some (v0.aw !=2)
 else
 some false
 else
 some false
theorem ajp (n:Nat):K1 (A80 []) TT (SN n):=fun v0 r h=>
 be h fun x4 hx4 h=>
 ie h (fun c0 g0=>by subst c0;exact (
 ie g0 (fun c1 g0=>
 rr g0 [(3,.call (uL n hx4) [] [] []),(3,eb c1)]) (fun c1 g0=>
 rr g0 [(3,.call (uL n hx4) [] [] []),(3,eb c1)]))) (fun c0 g0=>by subst c0;exact (
 rr g0 [(3,.call (uL n hx4) [] [] [])]))
def F80 (n:Nat) (v0:aH):Option Bool:=SN n v0
theorem Lr (n:Nat):K1 C80 TT (F80 n):=fun _ _ h=>ca (X:=x80) (ajp n h)
def Vg (r:Int):AV:=.int .i64 r
def OI (r:Int):List (Nat×Bx):= []
def x126:=fx E0 Tryz.f126 [] []
def A126:=Ax x126 Vg OI
def C126:=Cx E0 126 Vg OI
def aen (rS:Wq0) (b3:aE):LS:=⟨[(3,.loc 3 0),(5,.slice 3 1 (bq rS))],[(3,.flat 82 (lO b3))]⟩
def N9 (k0:cQ) (o1:aE):LS:=⟨[(0,.agg (tE k0)),(1,.agg (lO o1))],[]⟩
def CC (n:Nat) (rS:Wq0) (b3:aE):Option Int:=
 if decide (b3.bO<0) then
 some 0
 else
 if !decide (b3.bO<(rS.length:Int)) then
 some 0
 else
 if !((b3.aV.aw==0) && ((b3.aV.bM==0) && ((decide (b3.aV.bt=ByteArray.empty)) && true))) then
 some 0
 else
 (idx rS b3.bO).bind fun x20=>
 some x20
theorem XV (n:Nat):K2 (A126 [1,1,1]) aen (CC n):=fun rS b3 r h=>
 ie h (fun c0 h=>
 rr h [(2,eb c0)]) (fun c0 h=>
 ie h (fun c1 h=>
 rr h [(2,eb c0),(4,.eqv (R3.ax rS)),(0,eb c1)]) (fun c1 h=>
 ie h (fun c2 h=>
 rr h [(2,eb c0),(4,.eqv (R3.ax rS)),(0,eb c1),(5,eb c2)]) (fun c2 h=>
 be h fun x20 l7 h=>
 rr h [(2,eb c0),(4,.eqv (R3.ax rS)),(0,eb c1),(5,eb c2),(4,R3.idx l7)])))
def MW (n:Nat) (k0:cQ) (o1:aE):Option Int:=
 if o1.aw==3 then
 if o1.bO !=0 then
 some 0
 else
 (F80 n o1.aV).bind fun x17=>
 if !x17 then
 some 0
 else
 some o1.aV.aw
 else
 if o1.aw==2 then
 CC n k0.gL o1
 else
 if o1.aw==1 then
 CC n k0.fH o1
 else
 some 0
theorem agP (n:Nat):K2 (A126 []) N9 (MW n):=fun k0 o1 r h=>
 ie h (fun c0 h=>
 ie h (fun c1 h=>
 rr h [(8,eb c0),(3,eb c1)]) (fun c1 h=>
 be h fun x17 dZ h=>
 ie h (fun c2 h=>
 rr h [(8,eb c0),(3,eb c1),(3,.call (Lr n dZ) [] [] []),(0,eb c2)]) (fun c2 h=>
 rr h [(8,eb c0),(3,eb c1),(3,.call (Lr n dZ) [] [] []),(0,eb c2)]))) (fun c0 h=>
 ie h (fun c1 h=>
 ra (XV n h) [(8,eb c0),(1,eb c1)]) (fun c1 h=>
 ie h (fun c2 h=>
 ra (XV n h) [(8,eb c0),(1,eb c1),(1,eb c2)]) (fun c2 h=>
 rr h [(8,eb c0),(1,eb c1),(1,eb c2)])))
def ME (n:Nat) (k0:cQ) (o1:aE):Option Int:=MW n k0 o1
theorem n4 (n:Nat):K2 C126 N9 (ME n):=fun _ _ _ h=>ca (X:=x126) (agP n h)
def Vn (r:Bool):AV:=.bool r
def OP (r:Bool):List (Nat×Bx):= []
def x111:=fx E0 Tryz.f111 [] []
def mh:=Ax x111 Vn OP
def sX:=Cx E0 111 Vn OP
def Db (t76:Wq8) (t77 t78:Int) (b2:cQ):LS:=⟨[(2,.loc 2 0),(76,.slice 84 13 (il t76)),(77,.int .i64 t77),(78,.int .i64 t78)],[(2,.flat 165 (tE b2))]⟩
def Da:LS:=⟨[],[]⟩
def aeq (t50:Bool) (b2:cQ) (b3:an):LS:=⟨[(2,.loc 2 0),(3,.loc 3 0),(50,.bool t50)],[(2,.flat 165 (tE b2)),(3,.flat 84 (gO b3))]⟩
def C6 (t76:Wq8) (t77 t78:Int) (b2:cQ):LS:=⟨[(2,.loc 2 0),(76,.slice 84 13 (il t76)),(77,.int .i64 t77),(78,.int .i64 t78)],[(2,.flat 165 (tE b2))]⟩
def C5:LS:=⟨[],[]⟩
def aep (b2:cQ) (b3:an):LS:=⟨[(2,.loc 2 0),(3,.loc 3 0)],[(2,.flat 165 (tE b2)),(3,.flat 84 (gO b3))]⟩
def ju (k0:cQ) (p1:an):LS:=⟨[(0,.agg (tE k0)),(1,.agg (gO p1))],[]⟩
def CH (bV:cQ->an->Option Bool) (k_1:Option Bool) (back:Wq8->Int->Int->cQ->Option Bool) (n:Nat) (t76:Wq8) (t77 t78:Int) (b2:cQ):Option Bool:=
 if decide (t78<t77) then
 (idx t76 t78).bind fun x2=>
 (bV b2 x2).bind fun x9=>
 if !x9 then
 some false
 else
 back t76 t77 (w64 (t78+1)) b2
 else
 k_1
theorem aha {bV} (dO:K2 sX ju bV) {k_1} (aJ:K0 (mh [1,1,1,1]) Da k_1) {back} (aD:K4 (mh [0,1,0,1,1,1]) Db back) (n:Nat):K4 (mh [0,1,0,1,1,1]) Db (CH bV k_1 back n):=fun t76 t77 t78 b2 r h=>
 ie h (fun c0 h=>
 be h fun x2 hx2 h=>
 be h fun x9 hx9 h=>
 ie h (fun c1 h=>
 rr h [(0,eb c0),(0,R83.idx hx2),(5,.call (dO hx9) [] [] []),(0,eb c1)]) (fun c1 h=>
 ra (aD h) [(0,eb c0),(0,R83.idx hx2),(5,.call (dO hx9) [] [] []),(0,eb c1)])) (fun c0 h=>
 ra (aJ h) [(0,eb c0)])
def oJ (bV:cQ->an->Option Bool) (k_1:Option Bool):Nat->Wq8->Int->Int->cQ->Option Bool
 |0,_,_,_,_=>none
 |n+1,t76,t77,t78,b2=>CH bV k_1 (oJ bV k_1 n) n t76 t77 t78 b2
theorem Xb {bV} (dO:K2 sX ju bV) {k_1} (aJ:K0 (mh [1,1,1,1]) Da k_1):∀n:Nat,K4 (mh [0,1,0,1,1,1]) Db (oJ bV k_1 n)
 |0=>fun _ _ _ _ _ h=>nz h
 |n+1=>fun _ _ _ _ _ h=>aha dO aJ (Xb dO aJ n) n h
def CG (bV:cQ->an->Option Bool) (n:Nat):Option Bool:=
 some true
theorem agZ {bV} (dO:K2 sX ju bV) (n:Nat):K0 (mh [1,1,1,1]) Da (CG bV n):=fun r h=>
 rr h []
def xf (bV:cQ->an->Option Bool) (n:Nat) (t50:Bool) (b2:cQ) (b3:an):Option Bool:=
 if t50 then
 some false
 else
 if b3.hJ !=0 then
 some false
 else
 if !((b3.bD.aw==0) && ((b3.bD.bO==0) && (((b3.bD.aV.aw==0) && ((b3.bD.aV.bM==0) && ((decide (b3.bD.aV.bt=ByteArray.empty)) && true))) && true))) then
 some false
 else
 if !((b3.br.aw==0) && ((b3.br.bO==0) && (((b3.br.aV.aw==0) && ((b3.br.aV.bM==0) && ((decide (b3.br.aV.bt=ByteArray.empty)) && true))) && true))) then
 some false
 else
 oJ bV (CG bV n) n b3.fArgs (b3.fArgs.length:Int) 0 b2
theorem XX {bV} (dO:K2 sX ju bV) (n:Nat):K3 (mh [1,0,1,1,1,0,1,0,1]) aeq (xf bV n):=fun t50 b2 b3 r h=>
 ie h (fun c0 g0=>by subst c0;exact (
 rr g0 [])) (fun c0 g0=>by subst c0;exact (
 ie g0 (fun c1 g0=>
 rr g0 [(2,eb c1)]) (fun c1 g0=>
 ie g0 (fun c2 g0=>
 rr g0 [(2,eb c1),(4,eb c2)]) (fun c2 g0=>
 ie g0 (fun c3 g0=>
 rr g0 [(2,eb c1),(4,eb c2),(5,eb c3)]) (fun c3 g0=>
 ra (Xb dO (agZ dO n) n g0) [(2,eb c1),(4,eb c2),(5,eb c3),(3,.eqv (R83.ax b3.fArgs))])))))
def CF (bV:cQ->an->Option Bool) (k_4:Option Bool) (back:Wq8->Int->Int->cQ->Option Bool) (n:Nat) (t76:Wq8) (t77 t78:Int) (b2:cQ):Option Bool:=
 if decide (t78<t77) then
 (idx t76 t78).bind fun x2=>
 (bV b2 x2).bind fun x9=>
 if !x9 then
 some false
 else
 back t76 t77 (w64 (t78+1)) b2
 else
 k_4
theorem agY {bV} (dO:K2 sX ju bV) {k_4} (gy:K0 (mh [1,1,1,1]) C5 k_4) {back} (aD:K4 (mh [0,1,0,1,1,1]) C6 back) (n:Nat):K4 (mh [0,1,0,1,1,1]) C6 (CF bV k_4 back n):=fun t76 t77 t78 b2 r h=>
 ie h (fun c0 h=>
 be h fun x2 hx2 h=>
 be h fun x9 hx9 h=>
 ie h (fun c1 h=>
 rr h [(0,eb c0),(0,R83.idx hx2),(5,.call (dO hx9) [] [] []),(0,eb c1)]) (fun c1 h=>
 ra (aD h) [(0,eb c0),(0,R83.idx hx2),(5,.call (dO hx9) [] [] []),(0,eb c1)])) (fun c0 h=>
 ra (gy h) [(0,eb c0)])
def oI (bV:cQ->an->Option Bool) (k_4:Option Bool):Nat->Wq8->Int->Int->cQ->Option Bool
 |0,_,_,_,_=>none
 |n+1,t76,t77,t78,b2=>CF bV k_4 (oI bV k_4 n) n t76 t77 t78 b2
theorem Xa {bV} (dO:K2 sX ju bV) {k_4} (gy:K0 (mh [1,1,1,1]) C5 k_4):∀n:Nat,K4 (mh [0,1,0,1,1,1]) C6 (oI bV k_4 n)
 |0=>fun _ _ _ _ _ h=>nz h
 |n+1=>fun _ _ _ _ _ h=>agY dO gy (Xa dO gy n) n h
def CE (bV:cQ->an->Option Bool) (n:Nat):Option Bool:=
 some true
theorem agX {bV} (dO:K2 sX ju bV) (n:Nat):K0 (mh [1,1,1,1]) C5 (CE bV n):=fun r h=>
 rr h []
def tR (bV:cQ->an->Option Bool) (n:Nat) (b2:cQ) (b3:an):Option Bool:=
 if b3.hJ !=0 then
 some false
 else
 if !((b3.bD.aw==0) && ((b3.bD.bO==0) && (((b3.bD.aV.aw==0) && ((b3.bD.aV.bM==0) && ((decide (b3.bD.aV.bt=ByteArray.empty)) && true))) && true))) then
 some false
 else
 if !((b3.br.aw==0) && ((b3.br.bO==0) && (((b3.br.aV.aw==0) && ((b3.br.aV.bM==0) && ((decide (b3.br.aV.bt=ByteArray.empty)) && true))) && true))) then
 some false
 else
 oI bV (CE bV n) n b3.fArgs (b3.fArgs.length:Int) 0 b2
theorem LY {bV} (dO:K2 sX ju bV) (n:Nat):K2 (mh [1,1]) aep (tR bV n):=fun b2 b3 r h=>
 ie h (fun c0 h=>
 rr h [(2,eb c0)]) (fun c0 h=>
 ie h (fun c1 h=>
 rr h [(2,eb c0),(4,eb c1)]) (fun c1 h=>
 ie h (fun c2 h=>
 rr h [(2,eb c0),(4,eb c1),(5,eb c2)]) (fun c2 h=>
 ra (Xa dO (agX dO n) n h) [(2,eb c0),(4,eb c1),(5,eb c2),(3,.eqv (R83.ax b3.fArgs))])))
def M4 (bV:cQ->an->Option Bool) (n:Nat) (k0:cQ) (p1:an):Option Bool:=
 if p1.fOp==3 then
 (ME n k0 p1.bD).bind fun x11=>
 (ME n k0 p1.br).bind fun x16=>
 if (p1.fArgs.length:Int)==0 then
 if !decide (p1.hJ<1) then
 if !decide (6<p1.hJ) then
 if x11 !=0 then
 some (x11==x16)
 else
 some false
 else
 some false
 else
 some false
 else
 some false
 else
 if p1.fOp==1 then
 xf bV n ((p1.fArgs.length:Int) !=0) k0 p1
 else
 if p1.fOp==2 then
 xf bV n ((p1.fArgs.length:Int) !=0) k0 p1
 else
 if p1.fOp==6 then
 if (p1.fArgs.length:Int) !=1 then
 some false
 else
 tR bV n k0 p1
 else
 if p1.fOp==4 then
 tR bV n k0 p1
 else
 if p1.fOp==5 then
 tR bV n k0 p1
 else
 some false
theorem agW {bV} (dO:K2 sX ju bV) (n:Nat):K2 (mh []) ju (M4 bV n):=fun k0 p1 r h=>
 ie h (fun c0 h=>
 be h fun x11 ct h=>
 be h fun x16 cO h=>
 ie h (fun c1 h=>
 ie h (fun c2 h=>
 ie h (fun c3 h=>
 ie h (fun c4 h=>
 rr h [(5,eb c0),(4,.call (n4 n ct) [] [] []),(3,.call (n4 n cO) [] [] []),(4,.eqv (R83.ax p1.fArgs)),(0,eb c1),(3,eb c2),(4,eb c3),(3,eb c4)]) (fun c4 h=>
 rr h [(5,eb c0),(4,.call (n4 n ct) [] [] []),(3,.call (n4 n cO) [] [] []),(4,.eqv (R83.ax p1.fArgs)),(0,eb c1),(3,eb c2),(4,eb c3),(3,eb c4)])) (fun c3 h=>
 rr h [(5,eb c0),(4,.call (n4 n ct) [] [] []),(3,.call (n4 n cO) [] [] []),(4,.eqv (R83.ax p1.fArgs)),(0,eb c1),(3,eb c2),(4,eb c3)])) (fun c2 h=>
 rr h [(5,eb c0),(4,.call (n4 n ct) [] [] []),(3,.call (n4 n cO) [] [] []),(4,.eqv (R83.ax p1.fArgs)),(0,eb c1),(3,eb c2)])) (fun c1 h=>
 rr h [(5,eb c0),(4,.call (n4 n ct) [] [] []),(3,.call (n4 n cO) [] [] []),(4,.eqv (R83.ax p1.fArgs)),(0,eb c1)])) (fun c0 h=>
 ie h (fun c1 h=>
 ra (XX dO n h) [(5,eb c0),(1,eb c1),(3,.eqv (R83.ax p1.fArgs))]) (fun c1 h=>
 ie h (fun c2 h=>
 ra (XX dO n h) [(5,eb c0),(1,eb c1),(1,eb c2),(3,.eqv (R83.ax p1.fArgs))]) (fun c2 h=>
 ie h (fun c3 h=>
 ie h (fun c4 h=>
 rr h [(5,eb c0),(1,eb c1),(1,eb c2),(1,eb c3),(3,.eqv (R83.ax p1.fArgs)),(0,eb c4)]) (fun c4 h=>
 ra (LY dO n h) [(5,eb c0),(1,eb c1),(1,eb c2),(1,eb c3),(3,.eqv (R83.ax p1.fArgs)),(0,eb c4)])) (fun c3 h=>
 ie h (fun c4 h=>
 ra (LY dO n h) [(5,eb c0),(1,eb c1),(1,eb c2),(1,eb c3),(1,eb c4)]) (fun c4 h=>
 ie h (fun c5 h=>
 ra (LY dO n h) [(5,eb c0),(1,eb c1),(1,eb c2),(1,eb c3),(1,eb c4),(1,eb c5)]) (fun c5 h=>
 rr h [(5,eb c0),(1,eb c1),(1,eb c2),(1,eb c3),(1,eb c4),(1,eb c5)]))))))
def mg:Nat->cQ->an->Option Bool
 |0,_,_=>none
 |n+1,k0,p1=>M4 (mg n) n k0 p1
theorem RA:∀n:Nat,K2 sX ju (mg n)
 |0=>fun _ _ _ h=>nz h
 |n+1=>fun _ _ _ h=>ca (X:=x111) (agW (RA n) n h)
end Go.Proofs.YtmealahmjddpcaaGreatDoor
end
