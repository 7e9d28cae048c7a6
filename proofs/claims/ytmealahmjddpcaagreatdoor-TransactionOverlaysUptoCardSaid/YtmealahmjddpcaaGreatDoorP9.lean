/- Texts that belong together. The first: Functions of the program as plain functions, and that the program answers as they do; written by a program (comp2.py). -/
import Derived.Test.YtmealahmjddpcaaGreatDoorP8
import Derived.KernelRfl
set_option linter.all false
set_option maxRecDepth 100000
noncomputable section
namespace Go.Proofs.YtmealahmjddpcaaGreatDoor
open Go.Sim
def abN (r:(ai×ak)):AV:=.agg (dD r.1)
def Wi (r:(ai×ak)):List (Nat×Bx):= [(0,.flat 74 (bQ r.2))]
def x11:=fx E0 Tryz.f11 [0] [0]
def A11:=Ax x11 abN Wi
def C11:=Cx E0 11 abN Wi
def JH (eI t8 n9 t18 t19:Int) (b0:ak) (b4:ag) (b6 b7:ai) (b14:Wq9):LS:=⟨[(0,.loc 0 0),(2,.int .i64 eI),(4,.loc 4 0),(6,.loc 6 0),(7,.loc 7 0),(8,.int .i64 t8),(9,.int .i64 n9),(18,.int .i64 t18),(19,.int .i64 t19)],[(0,.flat 74 (bQ b0)),(4,.flat 26 (bj b4)),(6,.flat 33 [.aU]),(7,.flat 33 [.ms 14 1 0 b14.length]),(14,.rows false 66 1 (bN b14))]⟩
def p9 (eI t18 t19:Int) (b0:ak) (b4:ag) (b6 b7:ai) (b14:Wq9):LS:=⟨[(0,.loc 0 0),(2,.int .i64 eI),(4,.loc 4 0),(6,.loc 6 0),(7,.loc 7 0),(18,.int .i64 t18),(19,.int .i64 t19)],[(0,.flat 74 (bQ b0)),(4,.flat 26 (bj b4)),(6,.flat 33 [.aU]),(7,.flat 33 [.ms 14 1 0 b14.length]),(14,.rows false 66 1 (bN b14))]⟩
def JG (b0:ak) (b6 b7:ai) (b14:Wq9):LS:=⟨[(6,.loc 6 0),(7,.loc 7 0)],[(0,.flat 74 (bQ b0)),(6,.flat 33 [.aU]),(7,.flat 33 [.ms 14 1 0 b14.length]),(14,.rows false 66 1 (bN b14))]⟩
def Ut (c0:ak) (s1:ag) (eI:Int):LS:=⟨[(0,.loc 0 0),(1,.agg (bj s1)),(2,.int .i64 eI)],[(0,.flat 74 (bQ c0))]⟩
def Ih (k_1:SB) (back:Int->Int->Int->Int->Int->ak->ag->ai->ai->Wq9->Option (ai×ak)) (n:Nat) (eI t8 n9 t18 t19:Int) (b0:ak) (b4:ag) (b6 b7:ai) (b14:Wq9):Option (ai×ak):=
 if decide (0<n9) then
 (F32 n b4 t8).bind fun x6=>(idx b4.ae t8).bind fun x11_=>(F33 n b0 x6 x11_.aq eI).bind fun x16=>(F34 n b4 t8 x16.1).bind fun x25=>(F37 n b4 (ai.mk b14) t8 x25 x16.1).bind fun x28=>back eI t8 (w64 (n9 - 1)) t18 t19 x16.2 b4 (ai.mk []) (ai.mk x28.2) x28.2
 else
 k_1 eI t18 t19 b0 b4 (ai.mk []) (ai.mk b14) b14
theorem ame {k_1} (aD:K8 (A11 [1,1,1,0,0,1,0,1,1]) p9 k_1) {back} (ay:K10 (A11 [0,1,1,0,0,1,1,0,0,1,0,1,1]) JH back) (n:Nat):K10 (A11 [0,1,1,0,0,1,1,0,0,1,0,1,1]) JH (Ih k_1 back n):=fun eI t8 n9 t18 t19 b0 b4 b6 b7 b14 r h=>ie h (fun c0_ h=>be h fun x6 hx6 h=>be h fun x11_ cu h=>be h fun x16 de h=>be h fun x25 mn h=>be h fun x28 m8 h=>ra (ay h) [(1,eb c0_),(3,.call (cd (e:=3) (z:=true) (Q:=ba x6) (kj n hx6) (R3.len x6)) [] [] []),(3,R62.idx cu),(3,.call (RQ n de) [.one .same,.one (.sx 0 0)] [(0,0)] [(39,200000)]),(1,R64.frz 39 x16.1),(6,.call (cd (e:=65) (z:=true) (Q:=aN x25) (ow n mn) (R64.len x25)) [.one .same,.one .same,.one (.sx 0 0)] [] []),(1,.call (RP n m8) [.one .same,.one .same,.one .same,.one (.sx 0 0),.one (.sx 0 0)] [(14,100100)] [])]) (fun c0_ h=>ra (aD h) [(1,eb c0_)])
def yO (k_1:SB):Nat->Int->Int->Int->Int->Int->ak->ag->ai->ai->Wq9->Option (ai×ak)
 |0,_,_,_,_,_,_,_,_,_,_=>none
 |n+1,eI,t8,n9,t18,t19,b0,b4,b6,b7,b14=>Ih k_1 (yO k_1 n) n eI t8 n9 t18 t19 b0 b4 b6 b7 b14
theorem ade {k_1} (aD:K8 (A11 [1,1,1,0,0,1,0,1,1]) p9 k_1):∀n:Nat,K10 (A11 [0,1,1,0,0,1,1,0,0,1,0,1,1]) JH (yO k_1 n)
 |0=>fun _ _ _ _ _ _ _ _ _ _ _ h=>nz h
 |n+1=>fun _ _ _ _ _ _ _ _ _ _ _ h=>ame aD (ade aD n) n h
def Ig (k_2:SB) (n:Nat) (eI t18 t19:Int) (b0:ak) (b4:ag) (b6 b7:ai) (b14:Wq9):Option (ai×ak):=
 k_2 eI t18 (w64 (t19+1)) b0 b4 (ai.mk []) (ai.mk b14) b14
theorem amd {k_2} (bS:K8 (A11 [0,1,0,1,1]) p9 k_2) (n:Nat):K8 (A11 [1,1,1,0,0,1,0,1,1]) p9 (Ig k_2 n):=fun eI t18 t19 b0 b4 b6 b7 b14 r h=>ra (bS h) []
def Ie (k_3:Wf15) (back:SB) (n:Nat) (eI t18 t19:Int) (b0:ak) (b4:ag) (b6 b7:ai) (b14:Wq9):Option (ai×ak):=
 if decide (t19<t18) then
 (F24 n b0 5).bind fun x5=>yO (Ig back n) n eI t19 x5.1 t18 t19 x5.2 b4 (ai.mk []) (ai.mk b14) b14
 else
 k_3 b0 (ai.mk []) (ai.mk b14) b14
theorem amc {k_3} (bu:K4 (A11 [1,1,1]) JG k_3) {back} (ay:K8 (A11 [0,1,0,1,1]) p9 back) (n:Nat):K8 (A11 [0,1,0,1,1]) p9 (Ie k_3 back n):=fun eI t18 t19 b0 b4 b6 b7 b14 r h=>ie h (fun c0_ h=>be h fun x5 hx5 h=>ra (ade (amd ay n) n h) [(0,eb c0_),(3,.call (bU n hx5) [] [(0,0)] [])]) (fun c0_ h=>ra (bu h) [(0,eb c0_)])
def vj (k_3:Wf15):Nat->Int->Int->Int->ak->ag->ai->ai->Wq9->Option (ai×ak)
 |0,_,_,_,_,_,_,_,_=>none
 |n+1,eI,t18,t19,b0,b4,b6,b7,b14=>Ie k_3 (vj k_3 n) n eI t18 t19 b0 b4 b6 b7 b14
theorem adb {k_3} (bu:K4 (A11 [1,1,1]) JG k_3):∀n:Nat,K8 (A11 [0,1,0,1,1]) p9 (vj k_3 n)
 |0=>fun _ _ _ _ _ _ _ _ _ h=>nz h
 |n+1=>fun _ _ _ _ _ _ _ _ _ h=>amc bu (adb bu n) n h
def CA (n:Nat) (b0:ak) (b6 b7:ai) (b14:Wq9):Option (ai×ak):=
 some ((ai.mk b14),b0)
theorem amb (n:Nat):K4 (A11 [1,1,1]) JG (CA n):=fun b0 b6 b7 b14 r h=>rr h [(2,R66.frz 14 b14),(0,.norm [] [(6,.flat [.sx 0 0])])]
def TQ (n:Nat) (c0:ak) (s1:ag) (eI:Int):Option (ai×ak):=
 (lE (s1.ae.length:Int) ([]:Wq8)).bind fun x6=>vj (CA n) n eI (s1.ae.length:Int) 0 c0 s1 (ai.mk []) (ai.mk x6) x6
theorem ama (n:Nat):K3 (A11 []) Ut (TQ n):=fun c0 s1 eI r h=>be h fun x6 hx6 h=>ra (adb (amb n) n h) [(4,.eqv (R62.ax s1.ae)),(0,R66.made [.aU] [.sx 43 1] hx6 (by kernel_rfl)),(0,.seq 14 (congrArg (fun n_=>(AV.ms 14 1 0 n_)) ((J6 hx6)))),(5,.eqv (R62.ax s1.ae))]
def F11 (n:Nat) (c0:ak) (s1:ag) (eI:Int):Option (ai×ak):=TQ n c0 s1 eI
theorem ev11 (n:Nat):K3 C11 Ut (F11 n):=fun _ _ _ _ h=>ca (X:=x11) (ama n h)
def abo (r:(aI×ak)):AV:=.agg (iW r.1)
def VU (r:(aI×ak)):List (Nat×Bx):= [(0,.flat 74 (bQ r.2))]
def x43:=fx E0 Tryz.f43 [0] [0]
def A43:=Ax x43 abo VU
def C43:=Cx E0 43 abo VU
def Tq (n:Nat) (c0:ak):Option (aI×ak):=
 (F24 n c0 5).bind fun x3=>if decide ((w64 (1+x3.1))<3) then
 some ((aI.mk (w64 (1+x3.1)) 0 ByteArray.empty),x3.2)
 else
 (F74 n x3.2 (w64 (1+x3.1))).bind fun x11=>some (x11.1,x11.2)
theorem akQ (n:Nat):K1 (A43 []) lY (Tq n):=fun c0 r h=>be h fun x3 hx3 h=>ie h (fun c0_ h=>rr h [(2,.call (bU n hx3) [] [(0,0)] []),(3,eb c0_)]) (fun c0_ h=>be h fun x11 cu h=>rr h [(2,.call (bU n hx3) [] [(0,0)] []),(3,eb c0_),(2,.call (LH n cu) [] [(0,0)] [])])
def F43 (n:Nat) (c0:ak):Option (aI×ak):=Tq n c0
theorem ZI (n:Nat):K1 C43 lY (F43 n):=fun _ _ h=>ca (X:=x43) (akQ n h)
def abL (r:(Wq3×ak)):AV:=.ms 200000 5 0 r.1.length
def Wg (r:(Wq3×ak)):List (Nat×Bx):= [(0,.flat 74 (bQ r.2)),(200000,.rows false 55 5 (cy r.1))]
def x13:=fx E0 Tryz.f13 [0] [0,200000]
def A13:=Ax x13 abL Wg
def C13:=Cx E0 13 abL Wg
def Us (c0:ak) (l1:Wq3):LS:=⟨[(0,.loc 0 0),(1,.slx 55 5 (cy l1))],[(0,.flat 74 (bQ c0))]⟩
def TO (n:Nat) (c0:ak) (l1:Wq3):Option (Wq3×ak):=
 (app [] l1).bind fun x3=>if (x3.length:Int)==0 then
 (F24 n c0 5).bind fun x10=>(F24 n x10.2 4).bind fun zA=>some ([(aA.mk x10.1 zA.1 [] [] [])],zA.2)
 else
 (F24 n c0 (x3.length:Int)).bind fun zA=>(bnd x3.length zA.1).bind fun x15=>(F24 n zA.2 8).bind fun x19=>if x19.1==0 then
 (F24 n x19.2 5).bind fun x25=>(x3[0+x15]?).bind fun x29=>(setAt x3 (0+x15) (aA.mk x25.1 x29.au x29.aq x29.ah x29.aF)).bind fun z30=>some (z30,x25.2)
 else
 if x19.1==1 then
 (F24 n x19.2 7).bind fun x27=>(x3[0+x15]?).bind fun x32=>(setAt x3 (0+x15) (aA.mk x32.fOp (w64 (x27.1 - 1)) x32.aq x32.ah x32.aF)).bind fun z33=>some (z33,x27.2)
 else
 if x19.1==2 then
 (x3[0+x15]?).bind fun x31=>(app [] x31.aq).bind fun x33=>(F43 n x19.2).bind fun x36=>(app x33 [x36.1]).bind fun x39=>(x3[0+x15]?).bind fun x43=>(setAt x3 (0+x15) (aA.mk x43.fOp x43.au x39 x43.ah x43.aF)).bind fun z44=>some (z44,x36.2)
 else
 if x19.1==3 then
 (x3[0+x15]?).bind fun x33=>(app [] x33.aF).bind fun x35=>(F43 n x19.2).bind fun x38=>(app x35 [x38.1]).bind fun x41=>(x3[0+x15]?).bind fun x45=>(setAt x3 (0+x15) (aA.mk x45.fOp x45.au x45.aq x45.ah x41)).bind fun z46=>some (z46,x38.2)
 else
 if x19.1==4 then
 (x3[0+x15]?).bind fun x35=>(app [] x35.ah).bind fun x37=>(F24 n x19.2 5).bind fun x40=>(app x37 [w64 (x40.1 - 1)]).bind fun x44=>(x3[0+x15]?).bind fun x48=>(setAt x3 (0+x15) (aA.mk x48.fOp x48.au x48.aq x44 x48.aF)).bind fun z49=>some (z49,x40.2)
 else
 if x19.1==5 then
 (bnd x3.length 0).bind fun x35=>(x3[0+x35]?).bind fun x37=>(app x3 [x37]).bind fun x40=>some (x40,x19.2)
 else
 if x19.1==6 then
 (bnd x3.length (w64 ((x3.length:Int) - 1))).bind fun x44=>(x3[0+x44]?).bind fun x46=>(bnd x3.length 0).bind fun x49=>(x3[0+x49]?).bind fun x51=>(bnd x3.length 0).bind fun x53=>(x3[0+x53]?).bind fun x55=>(setAt x3 (0+x53) x46).bind fun z56=>(bnd x3.length (w64 ((x3.length:Int) - 1))).bind fun x58=>(z56[0+x58]?).bind fun x60=>(setAt z56 (0+x58) x51).bind fun z61=>some (z61,x19.2)
 else
 (x3[0+x15]?).bind fun x38=>if decide (0<(x38.aF.length:Int)) then
 (x3[0+x15]?).bind fun x46=>(app [] x46.aF).bind fun x48=>(x3[0+x15]?).bind fun x52=>(F24 n x19.2 (x48.length:Int)).bind fun x64=>(F43 n x64.2).bind fun x67=>(bnd x48.length x64.1).bind fun x69=>(x48[0+x69]?).bind fun x71=>(setAt x48 (0+x69) x67.1).bind fun z72=>(setAt x3 (0+x15) (aA.mk x52.fOp x52.au x52.aq x52.ah z72)).bind fun z74=>some (z74,x67.2)
 else
 some (x3,x19.2)
theorem alW (n:Nat):K2 (A13 []) Us (TO n):=fun c0 l1 r h=>be h fun x3 hx3 h=>ie h (fun c0_ h=>be h fun x10 cw h=>be h fun zA bH h=>rr h [(2,.born [] [] 7 true 55 5),(0,R54.app (xs:= []) hx3 .dat),(3,eb c0_),(1,.call (bU n cw) [] [(0,0)] []),(1,.call (bU n bH) [] [(0,0)] []),(1,.norm [(15,.agg [.same,.same,.sx 65 3,.sx 3 1,.sx 65 3])] []),(2,.ren 16 200000)]) (fun c0_ h=>be h fun zA bH h=>be h fun x15 cA h=>be h fun x19 dL h=>ie h (fun c1 h=>be h fun x25 mn h=>be h fun x29 m7 h=>be h fun z30 hz30 h=>rr h [(2,.born [] [] 7 true 55 5),(0,R54.app (xs:= []) hx3 .dat),(3,eb c0_),(4,.call (bU n bH) [] [(0,0)] []),(0,cJ cA),(2,.call (bU n dL) [] [(0,0)] []),(0,eb c1),(3,.call (bU n mn) [] [(0,0)] []),(2,R54.sto 0 [.int .i64 x25.1] m7 hz30 (by kernel_rfl)),(2,.ren 7 200000),(0,.seq 4 (congrArg (fun n_=>(AV.ms 200000 5 0 n_)) ((bY hz30).symm))),(0,.norm [] [(200000,.any)])]) (fun c1 h=>ie h (fun c2 h=>be h fun x27 sb h=>be h fun x32 mm h=>be h fun z33 hz33 h=>rr h [(2,.born [] [] 7 true 55 5),(0,R54.app (xs:= []) hx3 .dat),(3,eb c0_),(4,.call (bU n bH) [] [(0,0)] []),(0,cJ cA),(2,.call (bU n dL) [] [(0,0)] []),(0,eb c1),(1,eb c2),(3,.call (bU n sb) [] [(0,0)] []),(3,R54.sto 1 [.int .i64 (w64 (x27.1 - 1))] mm hz33 (by kernel_rfl)),(2,.ren 7 200000),(0,.seq 4 (congrArg (fun n_=>(AV.ms 200000 5 0 n_)) ((bY hz33).symm))),(0,.norm [] [(200000,.any)])]) (fun c2 h=>ie h (fun c3 h=>be h fun x31 ou h=>be h fun x33 m6 h=>be h fun x36 zZ h=>be h fun x39 D1 h=>be h fun x43 ue h=>be h fun z44 hz44 h=>rr h [(2,.born [] [] 7 true 55 5),(0,R54.app (xs:= []) hx3 .dat),(3,eb c0_),(4,.call (bU n bH) [] [(0,0)] []),(0,cJ cA),(2,.call (bU n dL) [] [(0,0)] []),(0,eb c1),(1,eb c2),(1,eb c3),(5,R54.row ou),(0,.born [] [] 75 true 65 3),(0,R64.app (xs:= []) m6 .dat),(1,.call (ZI n zZ) [] [(0,0)] []),(1,R64.app D1 (R64.srW [x36.1])),(2,R64.frz 75 x39),(0,.norm [(79,.one (.sx 0 0))] []),(0,R54.sto 2 [.slx 65 3 (aN x39)] ue hz44 (by kernel_rfl)),(2,.ren 7 200000),(0,.seq 4 (congrArg (fun n_=>(AV.ms 200000 5 0 n_)) ((bY hz44).symm))),(0,.norm [] [(200000,.any)])]) (fun c3 h=>ie h (fun c4 h=>be h fun x33 m6 h=>be h fun x35 m5 h=>be h fun x38 D3 h=>be h fun x41 Zm h=>be h fun x45 Zl h=>be h fun z46 hz46 h=>rr h [(2,.born [] [] 7 true 55 5),(0,R54.app (xs:= []) hx3 .dat),(3,eb c0_),(4,.call (bU n bH) [] [(0,0)] []),(0,cJ cA),(2,.call (bU n dL) [] [(0,0)] []),(0,eb c1),(1,eb c2),(1,eb c3),(1,eb c4),(5,R54.row m6),(0,.born [] [] 89 true 65 3),(0,R64.app (xs:= []) m5 .dat),(1,.call (ZI n D3) [] [(0,0)] []),(1,R64.app Zm (R64.srW [x38.1])),(2,R64.frz 89 x41),(0,.norm [(93,.one (.sx 0 0))] []),(0,R54.sto 4 [.slx 65 3 (aN x41)] Zl hz46 (by kernel_rfl)),(2,.ren 7 200000),(0,.seq 4 (congrArg (fun n_=>(AV.ms 200000 5 0 n_)) ((bY hz46).symm))),(0,.norm [] [(200000,.any)])]) (fun c4 h=>ie h (fun c5 h=>be h fun x35 m5 h=>be h fun x37 qt h=>be h fun x40 Zn h=>be h fun x44 we h=>be h fun x48 Zk h=>be h fun z49 hz49 h=>rr h [(2,.born [] [] 7 true 55 5),(0,R54.app (xs:= []) hx3 .dat),(3,eb c0_),(4,.call (bU n bH) [] [(0,0)] []),(0,cJ cA),(2,.call (bU n dL) [] [(0,0)] []),(0,eb c1),(1,eb c2),(1,eb c3),(1,eb c4),(1,eb c5),(5,R54.row m5),(0,.born [] [] 103 true 3 1),(0,R3.app (xs:= []) qt .dat),(1,.call (bU n Zn) [] [(0,0)] []),(2,R3.app we (R3.srW [w64 (x40.1 - 1)])),(2,R3.frz 103 x44),(0,.norm [(108,.one (.sx 0 0))] []),(0,R54.sto 3 [.slx 3 1 (ba x44)] Zk hz49 (by kernel_rfl)),(2,.ren 7 200000),(0,.seq 4 (congrArg (fun n_=>(AV.ms 200000 5 0 n_)) ((bY hz49).symm))),(0,.norm [] [(200000,.any)])]) (fun c5 h=>ie h (fun c6 h=>be h fun x35 m5 h=>be h fun x37 qt h=>be h fun x40 Zn h=>rr h [(2,.born [] [] 7 true 55 5),(0,R54.app (xs:= []) hx3 .dat),(3,eb c0_),(4,.call (bU n bH) [] [(0,0)] []),(0,cJ cA),(2,.call (bU n dL) [] [(0,0)] []),(0,eb c1),(1,eb c2),(1,eb c3),(1,eb c4),(1,eb c5),(1,eb c6),(3,cJ m5),(0,R54.row qt),(1,R54.app Zn (R54.srW [x37])),(3,.ren 7 200000),(0,.norm [] [(200000,.any)])]) (fun c6 h=>ie h (fun c7 h=>be h fun x44 we h=>be h fun x46 Li h=>be h fun x49 Rr h=>be h fun x51 Lh h=>be h fun x53 Rp h=>be h fun x55 hx55 h=>be h fun z56 hz56 h=>be h fun x58 hx58 h=>be h fun x60 hx60 h=>be h fun z61 hz61 h=>rr h [(2,.born [] [] 7 true 55 5),(0,R54.app (xs:= []) hx3 .dat),(3,eb c0_),(4,.call (bU n bH) [] [(0,0)] []),(0,cJ cA),(2,.call (bU n dL) [] [(0,0)] []),(0,eb c1),(1,eb c2),(1,eb c3),(1,eb c4),(1,eb c5),(1,eb c6),(1,eb c7),(10,cJ we),(0,R54.row Li),(1,cJ Rr),(0,R54.row Lh),(0,cJ Rp),(0,R54.sto 0 (dR x46) hx55 hz56 (by kernel_rfl)),(0,cJ hx58),(0,R54.sto 0 (dR x51) hx60 hz61 (by kernel_rfl)),(2,.ren 7 200000),(0,.seq 4 (congrArg (fun n_=>(AV.ms 200000 5 0 n_)) (((bY hz61).trans (bY hz56)).symm))),(0,.norm [] [(200000,.any)])]) (fun c7 h=>be h fun x38 D3 h=>ie h (fun c8 h=>be h fun x46 Li h=>be h fun x48 Zk h=>be h fun x52 Rq h=>be h fun x64 hx64 h=>be h fun x67 hx67 h=>be h fun x69 hx69 h=>be h fun x71 hx71 h=>be h fun z72 Ld h=>be h fun z74 hz74 h=>rr h [(2,.born [] [] 7 true 55 5),(0,R54.app (xs:= []) hx3 .dat),(3,eb c0_),(4,.call (bU n bH) [] [(0,0)] []),(0,cJ cA),(2,.call (bU n dL) [] [(0,0)] []),(0,eb c1),(1,eb c2),(1,eb c3),(1,eb c4),(1,eb c5),(1,eb c6),(1,eb c7),(4,R54.row D3),(0,.eqv (R64.ax x38.aF)),(0,eb c8),(4,R54.row Li),(0,.born [] [] 36 true 65 3),(0,R64.app (xs:= []) Zk .dat),(2,R54.hol 4 Rq),(10,.call (bU n hx64) [] [(0,0)] []),(1,.call (ZI n hx67) [] [(0,0)] []),(0,cJ hx69),(0,R64.sto 0 (iW x67.1) hx71 Ld (by kernel_rfl)),(0,.seq 36 (congrArg (fun n_=>(AV.ms 36 3 0 n_)) ((bY Ld).symm))),(0,.seq 42 (congrArg (fun n_=>(AV.ms 36 3 0 n_)) ((bY Ld).symm))),(0,.seq 47 (congrArg (fun n_=>(AV.ms 36 3 0 n_)) ((bY Ld).symm))),(0,.beq 7 (congrArg (fun n_=>(Bx.hole 55 5 ((cy x3).set (0+x15) (cq (dR x52) 4 [.undef])) ((0+x15)*5+4) (.ms 36 3 0 n_))) ((bY Ld).symm))),(0,R64.frz 36 z72),(0,.norm [] [(7,.hol (.sx 0 0))]),(0,R54.clo 7 4 (.slx 65 3 (aN z72)) .undef Rq hz74 (by kernel_rfl)),(2,.ren 7 200000),(0,.seq 4 (congrArg (fun n_=>(AV.ms 200000 5 0 n_)) ((bY hz74).symm)))]) (fun c8 h=>rr h [(2,.born [] [] 7 true 55 5),(0,R54.app (xs:= []) hx3 .dat),(3,eb c0_),(4,.call (bU n bH) [] [(0,0)] []),(0,cJ cA),(2,.call (bU n dL) [] [(0,0)] []),(0,eb c1),(1,eb c2),(1,eb c3),(1,eb c4),(1,eb c5),(1,eb c6),(1,eb c7),(4,R54.row D3),(0,.eqv (R64.ax x38.aF)),(0,eb c8),(2,.ren 7 200000),(0,.norm [] [(200000,.any)])])))))))))
def F13 (n:Nat) (c0:ak) (l1:Wq3):Option (Wq3×ak):=TO n c0 l1
theorem ev13 (n:Nat):K2 C13 Us (F13 n):=fun _ _ _ h=>ca (X:=x13) (alW n h)
def U1 (r:Bool):AV:=.bool r
def O4 (r:Bool):List (Nat×Bx):= []
def x108:=fx E0 Tryz.f108 [] []
def vm:=Ax x108 U1 O4
def C108:=Cx E0 108 U1 O4
def aei (i3 c4:Int) (xG:Bool) (fS:ByteArray) (fq:Nat):LS:=⟨[(3,.int .i64 i3),(4,.int .i32 c4),(5,.bool xG),(15,.it 15)],[(15,.iter fS fq)]⟩
def xx (fS:ByteArray) (fq:Nat):LS:=⟨[(15,.it 15)],[(15,.iter fS fq)]⟩
def Dd:LS:=⟨[],[]⟩
def xw (s0:ByteArray):LS:=⟨[(0,.str s0)],[]⟩
def xi (k_1:ByteArray->Nat->Option Bool) (n:Nat) (i3 c4:Int) (xG:Bool) (fS:ByteArray) (fq:Nat):Option Bool:=
 if !xG then
 if i3==0 then
 some false
 else
 if c4 !=95 then
 if decide (c4<48) then
 some false
 else
 if decide (57<c4) then
 some false
 else
 k_1 fS fq
 else
 k_1 fS fq
 else
 k_1 fS fq
theorem Xu {k_1} (aD:K2 (vm [0,1,0,1,1]) xx k_1) (n:Nat):K5 (vm [1,1,0,1,1,0,0,1,0,1,1]) aei (xi k_1 n):=fun i3 c4 xG fS fq r h=>ie h (fun c0 h=>ie h (fun c1 h=>rr h [(1,eb c0),(2,eb c1)]) (fun c1 h=>ie h (fun c2 h=>ie h (fun c3 h=>rr h [(1,eb c0),(2,eb c1),(2,eb c2),(2,eb c3)]) (fun c3 h=>ie h (fun c4_ h=>rr h [(1,eb c0),(2,eb c1),(2,eb c2),(2,eb c3),(2,eb c4_)]) (fun c4_ h=>ra (aD h) [(1,eb c0),(2,eb c1),(2,eb c2),(2,eb c3),(2,eb c4_)]))) (fun c2 h=>ra (aD h) [(1,eb c0),(2,eb c1),(2,eb c2)]))) (fun c0 h=>ra (aD h) [(1,eb c0)])
def CI (k_2:Option Bool) (back:ByteArray->Nat->Option Bool) (n:Nat) (fS:ByteArray) (fq:Nat):Option Bool:=
 if decide (fq<fS.size) then
 if !decide (((Utf8.decode fS fq).1:Int)<97) then
 xi back n (fq:Int) ((Utf8.decode fS fq).1:Int) (!decide (122<((Utf8.decode fS fq).1:Int))) fS (fq+(Utf8.decode fS fq).2)
 else
 xi back n (fq:Int) ((Utf8.decode fS fq).1:Int) false fS (fq+(Utf8.decode fS fq).2)
 else
 k_2
theorem agW {k_2} (bS:K0 (vm [1,1,1]) Dd k_2) {back} (ay:K2 (vm [0,1,0,1,1]) xx back) (n:Nat):K2 (vm [0,1,0,1,1]) xx (CI k_2 back n):=fun fS fq r h=>ie h (fun c0 h=>ie h (fun c1 h=>ra (Xu ay n h) [(0,.nxt (of_decide_eq_true c0)),(6,eb c1)]) (fun c1 h=>ra (Xu ay n h) [(0,.nxt (of_decide_eq_true c0)),(6,eb c1)])) (fun c0 h=>ra (bS h) [(0,.fin (of_decide_eq_false c0))])
def mM (k_2:Option Bool):Nat->ByteArray->Nat->Option Bool
 |0,_,_=>none
 |n+1,fS,fq=>CI k_2 (mM k_2 n) n fS fq
theorem WJ {k_2} (bS:K0 (vm [1,1,1]) Dd k_2):∀n:Nat,K2 (vm [0,1,0,1,1]) xx (mM k_2 n)
 |0=>fun _ _ _ h=>nz h
 |n+1=>fun _ _ _ h=>agW bS (WJ bS n) n h
def qP (n:Nat):Option Bool:=
 some true
theorem agV (n:Nat):K0 (vm [1,1,1]) Dd (qP n):=fun r h=>rr h []
def Nw (n:Nat) (s0:ByteArray):Option Bool:=
 if decide ((s0.size:Int)<1) then
 some false
 else
 if decide (32<(s0.size:Int)) then
 some false
 else
 mM (qP n) n s0 0
theorem agU (n:Nat):K1 (vm []) xw (Nw n):=fun s0 r h=>ie h (fun c0 h=>rr h [(3,eb c0)]) (fun c0 h=>ie h (fun c1 h=>rr h [(3,eb c0),(3,eb c1)]) (fun c1 h=>ra (WJ (agV n) n h) [(3,eb c0),(3,eb c1)]))
def M5 (n:Nat) (s0:ByteArray):Option Bool:=Nw n s0
theorem mz (n:Nat):K1 C108 xw (M5 n):=fun _ _ h=>ca (X:=x108) (agU n h)
def aaR (r:Bool):AV:=.bool r
def Vv (r:Bool):List (Nat×Bx):= []
def x76:=fx E0 Tryz.f76 [] []
def A76:=Ax x76 aaR Vv
def C76:=Cx E0 76 aaR Vv
def IX (t11:Wq1) (t12 t13:Int) (t24:ByteArray) (t29 t34:Int) (t36:Wq4) (t37:Int) (t45:Wq4) (t46 t47:Int) (b9 b43:List (ByteArray×Bool)) (b5:av):LS:=⟨[(3,.mp 9),(6,.mp 43),(11,.slice 63 5 (dr t11)),(12,.int .i64 t12),(13,.int .i64 t13),(22,.mp 9),(23,.loc 5 0),(24,.str t24),(25,.bool false),(28,.loc 5 2),(29,.int .i64 t29),(30,.bool false),(33,.loc 5 2),(34,.int .i64 t34),(35,.loc 5 1),(36,.slice 77 2 (kU t36)),(37,.int .i64 t37),(38,.bool false),(45,.slice 77 2 (kU t45)),(46,.int .i64 t46),(47,.int .i64 t47)],[(5,.flat 63 (fE b5)),(9,.map (j8 AV.bool b9)),(43,.map (j8 AV.bool b43))]⟩
def IW (t11:Wq1) (t12 t13:Int) (t24:ByteArray) (t29 t34:Int) (t36:Wq4) (t37:Int) (b9:List (ByteArray×Bool)) (b5:av):LS:=⟨[(3,.mp 9),(11,.slice 63 5 (dr t11)),(12,.int .i64 t12),(13,.int .i64 t13),(22,.mp 9),(23,.loc 5 0),(24,.str t24),(25,.bool false),(28,.loc 5 2),(29,.int .i64 t29),(30,.bool false),(33,.loc 5 2),(34,.int .i64 t34),(35,.loc 5 1),(36,.slice 77 2 (kU t36)),(37,.int .i64 t37),(38,.bool false)],[(5,.flat 63 (fE b5)),(9,.map (j8 AV.bool b9))]⟩
def AK (t11:Wq1) (t12 t13:Int) (b9:List (ByteArray×Bool)):LS:=⟨[(3,.mp 9),(11,.slice 63 5 (dr t11)),(12,.int .i64 t12),(13,.int .i64 t13)],[(9,.map (j8 AV.bool b9))]⟩
def IV:LS:=⟨[],[]⟩
def nP (s0:ag):LS:=⟨[(0,.agg (bj s0))],[]⟩
def G3 (k_1:Wq1->Int->Int->ByteArray->Int->Int->Wq4->Int->(List (ByteArray×Bool))->av->Option Bool) (back:Wq1->Int->Int->ByteArray->Int->Int->Wq4->Int->Wq4->Int->Int->(List (ByteArray×Bool))->(List (ByteArray×Bool))->av->Option Bool) (n:Nat) (t11:Wq1) (t12 t13:Int) (t24:ByteArray) (t29 t34:Int) (t36:Wq4) (t37:Int) (t45:Wq4) (t46 t47:Int) (b9 b43:List (ByteArray×Bool)) (b5:av):Option Bool:=
 if decide (t47<t46) then
 (idx t45 t47).bind fun x2=>(M5 n x2.bp).bind fun x9=>if !x9 then
 some false
 else
 if (fJ b43 x2.bp false) then
 some false
 else
 if x2.aw !=3 then
 if x2.aw !=4 then
 if x2.aw !=5 then
 some false
 else
 back t11 t12 t13 t24 t29 t34 t36 t37 t45 t46 (w64 (t47+1)) b9 (fY b43 x2.bp true) b5
 else
 back t11 t12 t13 t24 t29 t34 t36 t37 t45 t46 (w64 (t47+1)) b9 (fY b43 x2.bp true) b5
 else
 back t11 t12 t13 t24 t29 t34 t36 t37 t45 t46 (w64 (t47+1)) b9 (fY b43 x2.bp true) b5
 else
 k_1 t11 t12 t13 t24 t29 t34 t36 t37 b9 b5
theorem ajG {k_1} (aD:K10 (A76 [1,1,1,0,0,1,0,1,1]) IW k_1) {back} (ay:K14 (A76 [0,1,1,1,1,1,0,0,1,1,0,0,1,0,1,1]) IX back) (n:Nat):K14 (A76 [0,1,1,1,1,1,0,0,1,1,0,0,1,0,1,1]) IX (G3 k_1 back n):=fun t11 t12 t13 t24 t29 t34 t36 t37 t45 t46 t47 b9 b43 b5 r h=>ie h (fun c0 h=>be h fun x2 hx2 h=>be h fun x9 hx9 h=>ie h (fun c1 h=>rr h [(0,eb c0),(0,R76.idx hx2),(5,.call (mz n hx9) [] [] []),(0,eb c1)]) (fun c1 h=>ie h (fun c2 h=>rr h [(0,eb c0),(0,R76.idx hx2),(5,.call (mz n hx9) [] [] []),(0,eb c1),(4,.lkp false (gL c2))]) (fun c2 h=>ie h (fun c3 h=>ie h (fun c4 h=>ie h (fun c5 h=>rr h [(0,eb c0),(0,R76.idx hx2),(5,.call (mz n hx9) [] [] []),(0,eb c1),(4,.lkp false (gL c2)),(4,.upd (l8 (f:=AV.bool) (k:=x2.bp) (v:=true) b43)),(2,eb c3),(3,eb c4),(4,eb c5)]) (fun c5 h=>ra (ay h) [(0,eb c0),(0,R76.idx hx2),(5,.call (mz n hx9) [] [] []),(0,eb c1),(4,.lkp false (gL c2)),(4,.upd (l8 (f:=AV.bool) (k:=x2.bp) (v:=true) b43)),(2,eb c3),(3,eb c4),(4,eb c5)])) (fun c4 h=>ra (ay h) [(0,eb c0),(0,R76.idx hx2),(5,.call (mz n hx9) [] [] []),(0,eb c1),(4,.lkp false (gL c2)),(4,.upd (l8 (f:=AV.bool) (k:=x2.bp) (v:=true) b43)),(2,eb c3),(3,eb c4)])) (fun c3 h=>ra (ay h) [(0,eb c0),(0,R76.idx hx2),(5,.call (mz n hx9) [] [] []),(0,eb c1),(4,.lkp false (gL c2)),(4,.upd (l8 (f:=AV.bool) (k:=x2.bp) (v:=true) b43)),(2,eb c3)])))) (fun c0 h=>ra (aD h) [(0,eb c0)])
def ym (k_1:Wq1->Int->Int->ByteArray->Int->Int->Wq4->Int->(List (ByteArray×Bool))->av->Option Bool):Nat->Wq1->Int->Int->ByteArray->Int->Int->Wq4->Int->Wq4->Int->Int->(List (ByteArray×Bool))->(List (ByteArray×Bool))->av->Option Bool
 |0,_,_,_,_,_,_,_,_,_,_,_,_,_,_=>none
 |n+1,t11,t12,t13,t24,t29,t34,t36,t37,t45,t46,t47,b9,b43,b5=>G3 k_1 (ym k_1 n) n t11 t12 t13 t24 t29 t34 t36 t37 t45 t46 t47 b9 b43 b5
theorem acn {k_1} (aD:K10 (A76 [1,1,1,0,0,1,0,1,1]) IW k_1):∀n:Nat,K14 (A76 [0,1,1,1,1,1,0,0,1,1,0,0,1,0,1,1]) IX (ym k_1 n)
 |0=>fun _ _ _ _ _ _ _ _ _ _ _ _ _ _ _ h=>nz h
 |n+1=>fun _ _ _ _ _ _ _ _ _ _ _ _ _ _ _ h=>ajG aD (acn aD n) n h
def G2 (k_2:Wq1->Int->Int->(List (ByteArray×Bool))->Option Bool) (n:Nat) (t11:Wq1) (t12 t13:Int) (t24:ByteArray) (t29 t34:Int) (t36:Wq4) (t37:Int) (b9:List (ByteArray×Bool)) (b5:av):Option Bool:=
 k_2 t11 t12 (w64 (t13+1)) b9
theorem ajF {k_2} (bS:K4 (A76 [0,1,0,1,1]) AK k_2) (n:Nat):K10 (A76 [1,1,1,0,0,1,0,1,1]) IW (G2 k_2 n):=fun t11 t12 t13 t24 t29 t34 t36 t37 b9 b5 r h=>ra (bS h) []
def G1 (k_3:Option Bool) (back:Wq1->Int->Int->(List (ByteArray×Bool))->Option Bool) (n:Nat) (t11:Wq1) (t12 t13:Int) (b9:List (ByteArray×Bool)):Option Bool:=
 if decide (t13<t12) then
 (idx t11 t13).bind fun x2=>(M5 n x2.bp).bind fun x9=>if !x9 then
 some false
 else
 if (fJ b9 x2.bp false) then
 some false
 else
 if decide (x2.aq<1) then
 some false
 else
 if decide ((x2.ah.length:Int)<x2.aq) then
 some false
 else
 ym (G2 back n) n t11 t12 t13 x2.bp x2.aq x2.aq x2.ah (x2.ah.length:Int) x2.ah (x2.ah.length:Int) 0 (fY b9 x2.bp true) [] x2
 else
 k_3
theorem ajE {k_3} (bu:K0 (A76 [1,1,1]) IV k_3) {back} (ay:K4 (A76 [0,1,0,1,1]) AK back) (n:Nat):K4 (A76 [0,1,0,1,1]) AK (G1 k_3 back n):=fun t11 t12 t13 b9 r h=>ie h (fun c0 h=>be h fun x2 hx2 h=>be h fun x9 hx9 h=>ie h (fun c1 h=>rr h [(0,eb c0),(0,R62.idx hx2),(5,.call (mz n hx9) [] [] []),(0,eb c1)]) (fun c1 h=>ie h (fun c2 h=>rr h [(0,eb c0),(0,R62.idx hx2),(5,.call (mz n hx9) [] [] []),(0,eb c1),(4,.lkp false (gL c2))]) (fun c2 h=>ie h (fun c3 h=>rr h [(0,eb c0),(0,R62.idx hx2),(5,.call (mz n hx9) [] [] []),(0,eb c1),(4,.lkp false (gL c2)),(4,eb c3)]) (fun c3 h=>ie h (fun c4 h=>rr h [(0,eb c0),(0,R62.idx hx2),(5,.call (mz n hx9) [] [] []),(0,eb c1),(4,.lkp false (gL c2)),(4,eb c3),(6,.eqv (R76.ax x2.ah)),(0,eb c4)]) (fun c4 h=>ra (acn (ajF ay n) n h) [(0,eb c0),(0,R62.idx hx2),(5,.call (mz n hx9) [] [] []),(0,eb c1),(4,.lkp false (gL c2)),(4,eb c3),(6,.eqv (R76.ax x2.ah)),(0,eb c4),(4,.upd (l8 (f:=AV.bool) (k:=x2.bp) (v:=true) b9)),(4,.eqv (R76.ax x2.ah))]))))) (fun c0 h=>ra (bu h) [(0,eb c0)])
def u9 (k_3:Option Bool):Nat->Wq1->Int->Int->(List (ByteArray×Bool))->Option Bool
 |0,_,_,_,_=>none
 |n+1,t11,t12,t13,b9=>G1 k_3 (u9 k_3 n) n t11 t12 t13 b9
theorem acm {k_3} (bu:K0 (A76 [1,1,1]) IV k_3):∀n:Nat,K4 (A76 [0,1,0,1,1]) AK (u9 k_3 n)
 |0=>fun _ _ _ _ _ h=>nz h
 |n+1=>fun _ _ _ _ _ h=>ajE bu (acm bu n) n h
def Cm (n:Nat):Option Bool:=
 some true
theorem ajD (n:Nat):K0 (A76 [1,1,1]) IV (Cm n):=fun r h=>rr h []
def adT (n:Nat) (s0:ag):Option Bool:=
 u9 (Cm n) n s0.ae (s0.ae.length:Int) 0 []
theorem ajC (n:Nat):K1 (A76 []) nP (adT n):=fun s0 r h=>ra (acm (ajD n) n h) [(6,.eqv (R62.ax s0.ae))]
def F76 (n:Nat) (s0:ag):Option Bool:=adT n s0
theorem ZF (n:Nat):K1 C76 nP (F76 n):=fun _ _ h=>ca (X:=x76) (ajC n h)
def aaQ (r:Bool):AV:=.bool r
def Vu (r:Bool):List (Nat×Bx):= []
def x77:=fx E0 Tryz.f77 [] []
def A77:=Ax x77 aaQ Vu
def C77:=Cx E0 77 aaQ Vu
def IU (t11:Wq1) (t12 t13:Int) (t18:Wq6) (t19 t20 t29:Int) (t31:Wq1) (t32:Int) (t48:Wq0) (t49 t50:Int) (b1:ag) (b4 b7:av) (b6:br):LS:=⟨[(1,.loc 1 0),(4,.loc 4 0),(7,.loc 7 0),(11,.slice 63 5 (dr t11)),(12,.int .i64 t12),(13,.int .i64 t13),(18,.slice 80 2 (iz t18)),(19,.int .i64 t19),(20,.int .i64 t20),(28,.loc 6 1),(29,.int .i64 t29),(30,.loc 1 1),(31,.slice 63 5 (dr t31)),(32,.int .i64 t32),(33,.bool false),(48,.slx 3 1 (ba t48)),(49,.int .i64 t49),(50,.int .i64 t50)],[(1,.flat 26 (bj b1)),(4,.flat 63 (fE b4)),(6,.flat 80 (uH b6)),(7,.flat 63 (fE b7))]⟩
def IT (t11:Wq1) (t12 t13:Int) (t18:Wq6) (t19 t20 t29:Int) (t31:Wq1) (t32:Int) (b1:ag) (b4:av) (b6:br):LS:=⟨[(1,.loc 1 0),(4,.loc 4 0),(11,.slice 63 5 (dr t11)),(12,.int .i64 t12),(13,.int .i64 t13),(18,.slice 80 2 (iz t18)),(19,.int .i64 t19),(20,.int .i64 t20),(28,.loc 6 1),(29,.int .i64 t29),(30,.loc 1 1),(31,.slice 63 5 (dr t31)),(32,.int .i64 t32),(33,.bool false)],[(1,.flat 26 (bj b1)),(4,.flat 63 (fE b4)),(6,.flat 80 (uH b6))]⟩
def AJ (t11:Wq1) (t12 t13:Int) (t18:Wq6) (t19 t20:Int) (b1:ag) (b4:av):LS:=⟨[(1,.loc 1 0),(4,.loc 4 0),(11,.slice 63 5 (dr t11)),(12,.int .i64 t12),(13,.int .i64 t13),(18,.slice 80 2 (iz t18)),(19,.int .i64 t19),(20,.int .i64 t20)],[(1,.flat 26 (bj b1)),(4,.flat 63 (fE b4))]⟩
def pW (t11:Wq1) (t12 t13:Int) (b1:ag):LS:=⟨[(1,.loc 1 0),(11,.slice 63 5 (dr t11)),(12,.int .i64 t12),(13,.int .i64 t13)],[(1,.flat 26 (bj b1))]⟩
def IS:LS:=⟨[],[]⟩
def G0 (k_1:Wf16) (back:Wq1->Int->Int->Wq6->Int->Int->Int->Wq1->Int->Wq0->Int->Int->ag->av->av->br->Option Bool) (n:Nat) (t11:Wq1) (t12 t13:Int) (t18:Wq6) (t19 t20 t29:Int) (t31:Wq1) (t32:Int) (t48:Wq0) (t49 t50:Int) (b1:ag) (b4 b7:av) (b6:br):Option Bool:=
 if decide (t50<t49) then
 (idx t48 t50).bind fun x3=>if decide (x3<0) then
 some false
 else
 if !decide (x3<(b4.ah.length:Int)) then
 some false
 else
 (idx b4.ah x3).bind fun x21=>(idx b7.ah t50).bind fun x28=>if x21.aw !=x28.aw then
 some false
 else
 back t11 t12 t13 t18 t19 t20 t29 t31 t32 t48 t49 (w64 (t50+1)) b1 b4 b7 b6
 else
 k_1 t11 t12 t13 t18 t19 t20 t29 t31 t32 b1 b4 b6
theorem ajB {k_1} (aD:K12 (A77 [1,1,1,0,0,1,1,0,0,1,1,0,0,1,0,1]) IT k_1) {back} (ay:K16 (A77 [0,1,1,1,1,1,0,0,1,1,0,0,1,1,0,0,1,1,0,0,1,0,1]) IU back) (n:Nat):K16 (A77 [0,1,1,1,1,1,0,0,1,1,0,0,1,1,0,0,1,1,0,0,1,0,1]) IU (G0 k_1 back n):=fun t11 t12 t13 t18 t19 t20 t29 t31 t32 t48 t49 t50 b1 b4 b7 b6 r h=>ie h (fun c0 h=>be h fun x3 hx3 h=>ie h (fun c1 h=>rr h [(0,eb c0),(1,R3.idx hx3),(4,eb c1)]) (fun c1 h=>ie h (fun c2 h=>rr h [(0,eb c0),(1,R3.idx hx3),(4,eb c1),(4,.eqv (R76.ax b4.ah)),(0,eb c2)]) (fun c2 h=>be h fun x21 gX h=>be h fun x28 m8 h=>ie h (fun c3 h=>rr h [(0,eb c0),(1,R3.idx hx3),(4,eb c1),(4,.eqv (R76.ax b4.ah)),(0,eb c2),(5,R76.idx gX),(5,R76.idx m8),(2,eb c3)]) (fun c3 h=>ra (ay h) [(0,eb c0),(1,R3.idx hx3),(4,eb c1),(4,.eqv (R76.ax b4.ah)),(0,eb c2),(5,R76.idx gX),(5,R76.idx m8),(2,eb c3)])))) (fun c0 h=>ra (aD h) [(0,eb c0)])
def yl (k_1:Wf16):Nat->Wq1->Int->Int->Wq6->Int->Int->Int->Wq1->Int->Wq0->Int->Int->ag->av->av->br->Option Bool
 |0,_,_,_,_,_,_,_,_,_,_,_,_,_,_,_,_=>none
 |n+1,t11,t12,t13,t18,t19,t20,t29,t31,t32,t48,t49,t50,b1,b4,b7,b6=>G0 k_1 (yl k_1 n) n t11 t12 t13 t18 t19 t20 t29 t31 t32 t48 t49 t50 b1 b4 b7 b6
theorem ack {k_1} (aD:K12 (A77 [1,1,1,0,0,1,1,0,0,1,1,0,0,1,0,1]) IT k_1):∀n:Nat,K16 (A77 [0,1,1,1,1,1,0,0,1,1,0,0,1,1,0,0,1,1,0,0,1,0,1]) IU (yl k_1 n)
 |0=>fun _ _ _ _ _ _ _ _ _ _ _ _ _ _ _ _ _ h=>nz h
 |n+1=>fun _ _ _ _ _ _ _ _ _ _ _ _ _ _ _ _ _ h=>ajB aD (ack aD n) n h
def GZ (k_2:Wf17) (n:Nat) (t11:Wq1) (t12 t13:Int) (t18:Wq6) (t19 t20 t29:Int) (t31:Wq1) (t32:Int) (b1:ag) (b4:av) (b6:br):Option Bool:=
 k_2 t11 t12 t13 t18 t19 (w64 (t20+1)) b1 b4
theorem ajA {k_2} (bS:K8 (A77 [0,1,1,0,0,1,1,0,0,1,0,1]) AJ k_2) (n:Nat):K12 (A77 [1,1,1,0,0,1,1,0,0,1,1,0,0,1,0,1]) IT (GZ k_2 n):=fun t11 t12 t13 t18 t19 t20 t29 t31 t32 b1 b4 b6 r h=>ra (bS h) []
def GY (k_3:SA) (back:Wf17) (n:Nat) (t11:Wq1) (t12 t13:Int) (t18:Wq6) (t19 t20:Int) (b1:ag) (b4:av):Option Bool:=
 if decide (t20<t19) then
 (idx t18 t20).bind fun x2=>if decide (x2.au<0) then
 some false
 else
 if !decide (x2.au<(b1.ae.length:Int)) then
 some false
 else
 (idx b1.ae x2.au).bind fun x22=>if (x2.ah.length:Int) !=x22.aq then
 some false
 else
 yl (GZ back n) n t11 t12 t13 t18 t19 t20 x2.au b1.ae (b1.ae.length:Int) x2.ah (x2.ah.length:Int) 0 b1 b4 x22 x2
 else
 k_3 t11 t12 t13 b1
theorem ajz {k_3} (bu:K4 (A77 [1,1,1,0,0,1,0,1]) pW k_3) {back} (ay:K8 (A77 [0,1,1,0,0,1,1,0,0,1,0,1]) AJ back) (n:Nat):K8 (A77 [0,1,1,0,0,1,1,0,0,1,0,1]) AJ (GY k_3 back n):=fun t11 t12 t13 t18 t19 t20 b1 b4 r h=>ie h (fun c0 h=>be h fun x2 hx2 h=>ie h (fun c1 h=>rr h [(0,eb c0),(0,R79.idx hx2),(5,eb c1)]) (fun c1 h=>ie h (fun c2 h=>rr h [(0,eb c0),(0,R79.idx hx2),(5,eb c1),(5,.eqv (R62.ax b1.ae)),(0,eb c2)]) (fun c2 h=>be h fun x22 kL h=>ie h (fun c3 h=>rr h [(0,eb c0),(0,R79.idx hx2),(5,eb c1),(5,.eqv (R62.ax b1.ae)),(0,eb c2),(5,R62.idx kL),(5,.eqv (R3.ax x2.ah)),(2,eb c3)]) (fun c3 h=>ra (ack (ajA ay n) n h) [(0,eb c0),(0,R79.idx hx2),(5,eb c1),(5,.eqv (R62.ax b1.ae)),(0,eb c2),(5,R62.idx kL),(5,.eqv (R3.ax x2.ah)),(2,eb c3),(2,.eqv (R3.ax x2.ah))])))) (fun c0 h=>ra (bu h) [(0,eb c0)])
def u6 (k_3:SA):Nat->Wq1->Int->Int->Wq6->Int->Int->ag->av->Option Bool
 |0,_,_,_,_,_,_,_,_=>none
 |n+1,t11,t12,t13,t18,t19,t20,b1,b4=>GY k_3 (u6 k_3 n) n t11 t12 t13 t18 t19 t20 b1 b4
theorem acj {k_3} (bu:K4 (A77 [1,1,1,0,0,1,0,1]) pW k_3):∀n:Nat,K8 (A77 [0,1,1,0,0,1,1,0,0,1,0,1]) AJ (u6 k_3 n)
 |0=>fun _ _ _ _ _ _ _ _ _ h=>nz h
 |n+1=>fun _ _ _ _ _ _ _ _ _ h=>ajz bu (acj bu n) n h
def GX (k_4:SA) (n:Nat) (t11:Wq1) (t12 t13:Int) (b1:ag):Option Bool:=
 k_4 t11 t12 (w64 (t13+1)) b1
theorem ajy {k_4} (eN:K4 (A77 [0,1,0,1]) pW k_4) (n:Nat):K4 (A77 [1,1,1,0,0,1,0,1]) pW (GX k_4 n):=fun t11 t12 t13 b1 r h=>ra (eN h) []
def GW (k_5:Option Bool) (back:SA) (n:Nat) (t11:Wq1) (t12 t13:Int) (b1:ag):Option Bool:=
 if decide (t13<t12) then
 (idx t11 t13).bind fun x2=>u6 (GX back n) n t11 t12 t13 x2.aX (x2.aX.length:Int) 0 b1 x2
 else
 k_5
theorem ajx {k_5} (fk:K0 (A77 [1,1]) IS k_5) {back} (ay:K4 (A77 [0,1,0,1]) pW back) (n:Nat):K4 (A77 [0,1,0,1]) pW (GW k_5 back n):=fun t11 t12 t13 b1 r h=>ie h (fun c0 h=>be h fun x2 hx2 h=>ra (acj (ajy ay n) n h) [(0,eb c0),(0,R62.idx hx2),(5,.eqv (R79.ax x2.aX))]) (fun c0 h=>ra (fk h) [(0,eb c0)])
def u0 (k_5:Option Bool):Nat->Wq1->Int->Int->ag->Option Bool
 |0,_,_,_,_=>none
 |n+1,t11,t12,t13,b1=>GW k_5 (u0 k_5 n) n t11 t12 t13 b1
theorem aci {k_5} (fk:K0 (A77 [1,1]) IS k_5):∀n:Nat,K4 (A77 [0,1,0,1]) pW (u0 k_5 n)
 |0=>fun _ _ _ _ _ h=>nz h
 |n+1=>fun _ _ _ _ _ h=>ajx fk (aci fk n) n h
def Cl (n:Nat):Option Bool:=
 some true
theorem ajw (n:Nat):K0 (A77 [1,1]) IS (Cl n):=fun r h=>rr h []
def adS (n:Nat) (s0:ag):Option Bool:=
 u0 (Cl n) n s0.ae (s0.ae.length:Int) 0 s0
theorem ajv (n:Nat):K1 (A77 []) nP (adS n):=fun s0 r h=>ra (aci (ajw n) n h) [(4,.eqv (R62.ax s0.ae))]
def F77 (n:Nat) (s0:ag):Option Bool:=adS n s0
theorem ev77 (n:Nat):K1 C77 nP (F77 n):=fun _ _ h=>ca (X:=x77) (ajv n h)
def aaM (r:Bool):AV:=.bool r
def Vq (r:Bool):List (Nat×Bx):= []
def x81:=fx E0 Tryz.f81 [] []
def A81:=Ax x81 aaM Vq
def C81:=Cx E0 81 aaM Vq
def S2 (n:Nat) (s0:ag) (aE:Int):Option Bool:=
 if !decide (aE<0) then
 some (decide (aE<(s0.ae.length:Int)))
 else
 some false
theorem ajp (n:Nat):K2 (A81 []) kT (S2 n):=fun s0 aE r h=>ie h (fun c0 h=>rr h [(3,eb c0),(4,.eqv (R62.ax s0.ae))]) (fun c0 h=>rr h [(3,eb c0)])
def F81 (n:Nat) (s0:ag) (aE:Int):Option Bool:=S2 n s0 aE
theorem qC (n:Nat):K2 C81 kT (F81 n):=fun _ _ _ h=>ca (X:=x81) (ajp n h)
def aaP (r:Wq0):AV:=.ms 200000 1 0 r.length
def Vt (r:Wq0):List (Nat×Bx):= [(200000,.rows false 3 1 (ba r))]
def x78:=fx E0 Tryz.f78 [] [200000]
def A78:=Ax x78 aaP Vt
def C78:=Cx E0 78 aaP Vt
def IQ (t25:Wq4) (t26 t27:Int) (b19:Wq0):LS:=⟨[(5,.ms 19 1 0 b19.length),(25,.slice 77 2 (kU t25)),(26,.int .i64 t26),(27,.int .i64 t27)],[(19,.rows false 3 1 (ba b19))]⟩
def IP (b19:Wq0):LS:=⟨[(5,.ms 19 1 0 b19.length)],[(19,.rows false 3 1 (ba b19))]⟩
def GV (k_1:Wf6) (back:Wq4->Int->Int->Wq0->Option Wq0) (n:Nat) (t25:Wq4) (t26 t27:Int) (b19:Wq0):Option Wq0:=
 if decide (t27<t26) then
 (idx t25 t27).bind fun x2=>(app b19 [x2.aw]).bind fun x11=>back t25 t26 (w64 (t27+1)) x11
 else
 k_1 b19
theorem aju {k_1} (aD:K1 (A78 [1,1,1,1]) IP k_1) {back} (ay:K4 (A78 [0,1,0,1,1,1]) IQ back) (n:Nat):K4 (A78 [0,1,0,1,1,1]) IQ (GV k_1 back n):=fun t25 t26 t27 b19 r h=>ie h (fun c0 h=>be h fun x2 hx2 h=>be h fun x11 cu h=>ra (ay h) [(0,eb c0),(0,R76.idx hx2),(7,R3.app cu (R3.srW [x2.aw]))]) (fun c0 h=>ra (aD h) [(0,eb c0)])
def yk (k_1:Wf6):Nat->Wq4->Int->Int->Wq0->Option Wq0
 |0,_,_,_,_=>none
 |n+1,t25,t26,t27,b19=>GV k_1 (yk k_1 n) n t25 t26 t27 b19
theorem ach {k_1} (aD:K1 (A78 [1,1,1,1]) IP k_1):∀n:Nat,K4 (A78 [0,1,0,1,1,1]) IQ (yk k_1 n)
 |0=>fun _ _ _ _ _ h=>nz h
 |n+1=>fun _ _ _ _ _ h=>aju aD (ach aD n) n h
def GU (n:Nat) (b19:Wq0):Option Wq0:=
 some b19
theorem ajt (n:Nat):K1 (A78 [1,1,1,1]) IP (GU n):=fun b19 r h=>rr h [(2,.ren 19 200000)]
def S5 (n:Nat) (s0:ag) (aE:Int):Option Wq0:=
 (F81 n s0 aE).bind fun x5=>if !x5 then
 some []
 else
 (idx s0.ae aE).bind fun x11=>(lE (x11.ah.length:Int) (0:Int)).bind fun x16=>(idx s0.ae aE).bind fun x22=>yk (GU n) n x22.ah (x22.ah.length:Int) 0 []
theorem ajs (n:Nat):K2 (A78 []) kT (S5 n):=fun s0 aE r h=>be h fun x5 hx5 h=>ie h (fun c0 h=>rr h [(4,.call (qC n hx5) [] [] []),(0,eb c0),(1,.born [4] [] 200000 false 3 1)]) (fun c0 h=>be h fun x11 cu h=>be h fun x16 de h=>be h fun x22 kL h=>ra (ach (ajt n) n h) [(4,.call (qC n hx5) [] [] []),(0,eb c0),(3,R62.idx cu),(2,.eqv (R76.ax x11.ah)),(0,R3.aio [.int .i64 0] de),(4,R62.idx kL),(2,.eqv (R76.ax x22.ah))])
def F78 (n:Nat) (s0:ag) (aE:Int):Option Wq0:=S5 n s0 aE
theorem LG (n:Nat):K2 C78 kT (F78 n):=fun _ _ _ h=>ca (X:=x78) (ajs n h)
def U0 (r:Bool):AV:=.bool r
def O3 (r:Bool):List (Nat×Bx):= []
def x109:=fx E0 Tryz.f109 [] []
def As:=Ax x109 U0 O3
def C109:=Cx E0 109 U0 O3
def Dc:LS:=⟨[],[]⟩
def Oy (rm:Wq0):LS:=⟨[(0,.slx 3 1 (ba rm))],[]⟩
def CH (k_1:Option Bool) (back:Wq0->Int->Int->Option Bool) (n:Nat) (t5:Wq0) (t6 t7:Int):Option Bool:=
 if decide (t7<t6) then
 (idx t5 t7).bind fun x2=>if x2 !=3 then
 if x2 !=4 then
 if x2 !=5 then
 some false
 else
 back t5 t6 (w64 (t7+1))
 else
 back t5 t6 (w64 (t7+1))
 else
 back t5 t6 (w64 (t7+1))
 else
 k_1
theorem agT {k_1} (aD:K0 (As [1,1]) Dc k_1) {back} (ay:K3 (As [0,1,0,1]) pI back) (n:Nat):K3 (As [0,1,0,1]) pI (CH k_1 back n):=fun t5 t6 t7 r h=>ie h (fun c0 h=>be h fun x2 hx2 h=>ie h (fun c1 h=>ie h (fun c2 h=>ie h (fun c3 h=>rr h [(0,eb c0),(0,R3.idx hx2),(3,eb c1),(2,eb c2),(3,eb c3)]) (fun c3 h=>ra (ay h) [(0,eb c0),(0,R3.idx hx2),(3,eb c1),(2,eb c2),(3,eb c3)])) (fun c2 h=>ra (ay h) [(0,eb c0),(0,R3.idx hx2),(3,eb c1),(2,eb c2)])) (fun c1 h=>ra (ay h) [(0,eb c0),(0,R3.idx hx2),(3,eb c1)])) (fun c0 h=>ra (aD h) [(0,eb c0)])
def tk (k_1:Option Bool):Nat->Wq0->Int->Int->Option Bool
 |0,_,_,_=>none
 |n+1,t5,t6,t7=>CH k_1 (tk k_1 n) n t5 t6 t7
theorem WI {k_1} (aD:K0 (As [1,1]) Dc k_1):∀n:Nat,K3 (As [0,1,0,1]) pI (tk k_1 n)
 |0=>fun _ _ _ _ h=>nz h
 |n+1=>fun _ _ _ _ h=>agT aD (WI aD n) n h
def Nv (n:Nat):Option Bool:=
 some true
theorem agS (n:Nat):K0 (As [1,1]) Dc (Nv n):=fun r h=>rr h []
def Nu (n:Nat) (rm:Wq0):Option Bool:=
 tk (Nv n) n rm (rm.length:Int) 0
theorem agR (n:Nat):K1 (As []) Oy (Nu n):=fun rm r h=>ra (WI (agS n) n h) [(2,.eqv (R3.ax rm))]
def M4 (n:Nat) (rm:Wq0):Option Bool:=Nu n rm
theorem oZ (n:Nat):K1 C109 Oy (M4 n):=fun _ _ h=>ca (X:=x109) (agR n h)
def UZ (r:(Bool×Int)):AV:=.bool r.1
def O2 (r:(Bool×Int)):List (Nat×Bx):= [(2,.flat 3 [.int .i64 r.2])]
def x110:=fx E0 Tryz.f110 [2] [2]
def Ar:=Ax x110 UZ O2
def M7:=Cx E0 110 UZ O2
def Db (gU:Int) (t23:Wq7) (t24 t25 b2:Int):LS:=⟨[(1,.int .i64 gU),(2,.loc 2 0),(23,.slice 84 13 (fV t23)),(24,.int .i64 t24),(25,.int .i64 t25)],[(2,.flat 3 [.int .i64 b2])]⟩
def Da (b2:Int):LS:=⟨[],[(2,.flat 3 [.int .i64 b2])]⟩
def pG (p0:an) (gU kE:Int):LS:=⟨[(0,.agg (iH p0)),(1,.int .i64 gU),(2,.loc 2 0)],[(2,.flat 3 [.int .i64 kE])]⟩
def CG (gf:an->Int->Int->Option (Bool×Int)) (k_1:Int->Option (Bool×Int)) (back:Int->Wq7->Int->Int->Int->Option (Bool×Int)) (n:Nat) (gU:Int) (t23:Wq7) (t24 t25 b2:Int):Option (Bool×Int):=
 if decide (t25<t24) then
 (idx t23 t25).bind fun x2=>(gf x2 (w64 (gU+1)) b2).bind fun x11=>if !x11.1 then
 some (false,x11.2)
 else
 back gU t23 t24 (w64 (t25+1)) x11.2
 else
 k_1 b2
theorem agQ {gf} (mo:K3 M7 pG gf) {k_1} (aD:K1 (Ar [1,1,1,1]) Da k_1) {back} (ay:K5 (Ar [0,1,0,1,1,1]) Db back) (n:Nat):K5 (Ar [0,1,0,1,1,1]) Db (CG gf k_1 back n):=fun gU t23 t24 t25 b2 r h=>ie h (fun c0 h=>be h fun x2 hx2 h=>be h fun x11 cu h=>ie h (fun c1 h=>rr h [(0,eb c0),(0,R83.idx hx2),(7,.call (mo cu) [] [(2,2)] []),(0,eb c1)]) (fun c1 h=>ra (ay h) [(0,eb c0),(0,R83.idx hx2),(7,.call (mo cu) [] [(2,2)] []),(0,eb c1)])) (fun c0 h=>ra (aD h) [(0,eb c0)])
def tj (gf:an->Int->Int->Option (Bool×Int)) (k_1:Int->Option (Bool×Int)):Nat->Int->Wq7->Int->Int->Int->Option (Bool×Int)
 |0,_,_,_,_,_=>none
 |n+1,gU,t23,t24,t25,b2=>CG gf k_1 (tj gf k_1 n) n gU t23 t24 t25 b2
theorem WH {gf} (mo:K3 M7 pG gf) {k_1} (aD:K1 (Ar [1,1,1,1]) Da k_1):∀n:Nat,K5 (Ar [0,1,0,1,1,1]) Db (tj gf k_1 n)
 |0=>fun _ _ _ _ _ _ h=>nz h
 |n+1=>fun _ _ _ _ _ _ h=>agQ mo aD (WH mo aD n) n h
def XY (gf:an->Int->Int->Option (Bool×Int)) (n:Nat) (b2:Int):Option (Bool×Int):=
 some (true,b2)
theorem agP {gf} (mo:K3 M7 pG gf) (n:Nat):K1 (Ar [1,1,1,1]) Da (XY gf n):=fun b2 r h=>rr h []
def Nt (gf:an->Int->Int->Option (Bool×Int)) (n:Nat) (p0:an) (gU kE:Int):Option (Bool×Int):=
 if decide ((w64 (kE - 1))<0) then
 some (false,w64 (kE - 1))
 else
 if decide (8<gU) then
 some (false,w64 (kE - 1))
 else
 tj gf (XY gf n) n gU p0.fArgs (p0.fArgs.length:Int) 0 (w64 (kE - 1))
theorem agO {gf} (mo:K3 M7 pG gf) (n:Nat):K3 (Ar []) pG (Nt gf n):=fun p0 gU kE r h=>ie h (fun c0 h=>rr h [(11,eb c0)]) (fun c0 h=>ie h (fun c1 h=>rr h [(11,eb c0),(2,eb c1)]) (fun c1 h=>ra (WH mo (agP mo n) n h) [(11,eb c0),(2,eb c1),(3,.eqv (R83.ax p0.fArgs))]))
def EF:Nat->an->Int->Int->Option (Bool×Int)
 |0,_,_,_=>none
 |n+1,p0,gU,kE=>Nt (EF n) n p0 gU kE
theorem Gl:∀n:Nat,K3 M7 pG (EF n)
 |0=>fun _ _ _ _ h=>nz h
 |n+1=>fun _ _ _ _ h=>ca (X:=x110) (agO (Gl n) n h)
def U9 (r:Bool):AV:=.bool r
def Pc (r:Bool):List (Nat×Bx):= []
def x100:=fx E0 Tryz.f100 [] []
def A100:=Ax x100 U9 Pc
def C100:=Cx E0 100 U9 Pc
def X4 (n:Nat) (v0:aI):Option Bool:=
 if v0.aw==1 then
 if v0.bM==0 then
 some (decide (v0.bl=ByteArray.empty))
 else
 some false
 else
 if v0.aw==2 then
 if v0.bM==0 then
 some (decide (v0.bl=ByteArray.empty))
 else
 some false
 else
 if v0.aw==3 then
 if v0.bM==0 then
 some (decide (v0.bl=ByteArray.empty))
 else
 if v0.bM==1 then
 some (decide (v0.bl=ByteArray.empty))
 else
 some false
 else
 if v0.aw==4 then
 some (decide (v0.bl=ByteArray.empty))
 else
 if v0.aw==5 then
 if v0.bM==0 then
 some (!decide (64<(v0.bl.size:Int)))
 else
 some false
 else
 some false
theorem ahu (n:Nat):K1 (A100 []) nO (X4 n):=fun v0 r h=>ie h (fun c0 h=>ie h (fun c1 h=>rr h [(4,eb c0),(3,eb c1)]) (fun c1 h=>rr h [(4,eb c0),(3,eb c1)])) (fun c0 h=>ie h (fun c1 h=>ie h (fun c2 h=>rr h [(4,eb c0),(1,eb c1),(3,eb c2)]) (fun c2 h=>rr h [(4,eb c0),(1,eb c1),(3,eb c2)])) (fun c1 h=>ie h (fun c2 h=>ie h (fun c3 h=>rr h [(4,eb c0),(1,eb c1),(1,eb c2),(3,eb c3)]) (fun c3 h=>ie h (fun c4 h=>rr h [(4,eb c0),(1,eb c1),(1,eb c2),(3,eb c3),(3,eb c4)]) (fun c4 h=>rr h [(4,eb c0),(1,eb c1),(1,eb c2),(3,eb c3),(3,eb c4)]))) (fun c2 h=>ie h (fun c3 h=>rr h [(4,eb c0),(1,eb c1),(1,eb c2),(1,eb c3)]) (fun c3 h=>ie h (fun c4 h=>ie h (fun c5 h=>rr h [(4,eb c0),(1,eb c1),(1,eb c2),(1,eb c3),(1,eb c4),(3,eb c5)]) (fun c5 h=>rr h [(4,eb c0),(1,eb c1),(1,eb c2),(1,eb c3),(1,eb c4),(3,eb c5)])) (fun c4 h=>rr h [(4,eb c0),(1,eb c1),(1,eb c2),(1,eb c3),(1,eb c4)])))))
def SS (n:Nat) (v0:aI):Option Bool:=X4 n v0
theorem uE (n:Nat):K1 C100 nO (SS n):=fun _ _ h=>ca (X:=x100) (ahu n h)
def aaN (r:Bool):AV:=.bool r
def Vr (r:Bool):List (Nat×Bx):= []
def x80:=fx E0 Tryz.f80 [] []
def A80:=Ax x80 aaN Vr
def C80:=Cx E0 80 aaN Vr
def S3 (n:Nat) (v0:aI):Option Bool:=
 (SS n v0).bind fun x4=>if x4 then
 if v0.aw !=1 then
 some (v0.aw !=2)
 else
 some false
 else
 some false
theorem ajq (n:Nat):K1 (A80 []) nO (S3 n):=fun v0 r h=>be h fun x4 hx4 h=>ie h (fun c0 g0=>by subst c0;exact (
 ie g0 (fun c1 g0=>rr g0 [(3,.call (uE n hx4) [] [] []),(3,eb c1)]) (fun c1 g0=>rr g0 [(3,.call (uE n hx4) [] [] []),(3,eb c1)]))) (fun c0 g0=>by subst c0;exact (
 rr g0 [(3,.call (uE n hx4) [] [] [])]))
def F80 (n:Nat) (v0:aI):Option Bool:=S3 n v0
theorem LF (n:Nat):K1 C80 nO (F80 n):=fun _ _ h=>ca (X:=x80) (ajq n h)
def UO (r:Int):AV:=.int .i64 r
def OS (r:Int):List (Nat×Bx):= []
def x126:=fx E0 Tryz.f126 [] []
def A126:=Ax x126 UO OS
def C126:=Cx E0 126 UO OS
def aed (rj:Wq0) (b3:aH):LS:=⟨[(3,.loc 3 0),(5,.slx 3 1 (ba rj))],[(3,.flat 82 (lr b3))]⟩
def Ou (k0:db) (o1:aH):LS:=⟨[(0,.agg (wF k0)),(1,.agg (lr o1))],[]⟩
def Cz (n:Nat) (rj:Wq0) (b3:aH):Option Int:=
 if decide (b3.bP<0) then
 some 0
 else
 if !decide (b3.bP<(rj.length:Int)) then
 some 0
 else
 if !((b3.aR.aw==0) && ((b3.aR.bM==0) && ((decide (b3.aR.bl=ByteArray.empty)) && true))) then
 some 0
 else
 (idx rj b3.bP).bind fun x20=>some x20
theorem Xr (n:Nat):K2 (A126 [1,1,1]) aed (Cz n):=fun rj b3 r h=>ie h (fun c0 h=>rr h [(2,eb c0)]) (fun c0 h=>ie h (fun c1 h=>rr h [(2,eb c0),(4,.eqv (R3.ax rj)),(0,eb c1)]) (fun c1 h=>ie h (fun c2 h=>rr h [(2,eb c0),(4,.eqv (R3.ax rj)),(0,eb c1),(5,eb c2)]) (fun c2 h=>be h fun x20 kM h=>rr h [(2,eb c0),(4,.eqv (R3.ax rj)),(0,eb c1),(5,eb c2),(4,R3.idx kM)])))
def Nj (n:Nat) (k0:db) (o1:aH):Option Int:=
 if o1.aw==3 then
 if o1.bP !=0 then
 some 0
 else
 (F80 n o1.aR).bind fun x17=>if !x17 then
 some 0
 else
 some o1.aR.aw
 else
 if o1.aw==2 then
 Cz n k0.gk o1
 else
 if o1.aw==1 then
 Cz n k0.fm o1
 else
 some 0
theorem agy (n:Nat):K2 (A126 []) Ou (Nj n):=fun k0 o1 r h=>ie h (fun c0 h=>ie h (fun c1 h=>rr h [(8,eb c0),(3,eb c1)]) (fun c1 h=>be h fun x17 gy h=>ie h (fun c2 h=>rr h [(8,eb c0),(3,eb c1),(3,.call (LF n gy) [] [] []),(0,eb c2)]) (fun c2 h=>rr h [(8,eb c0),(3,eb c1),(3,.call (LF n gy) [] [] []),(0,eb c2)]))) (fun c0 h=>ie h (fun c1 h=>ra (Xr n h) [(8,eb c0),(1,eb c1)]) (fun c1 h=>ie h (fun c2 h=>ra (Xr n h) [(8,eb c0),(1,eb c1),(1,eb c2)]) (fun c2 h=>rr h [(8,eb c0),(1,eb c1),(1,eb c2)])))
def MZ (n:Nat) (k0:db) (o1:aH):Option Int:=Nj n k0 o1
theorem nF (n:Nat):K2 C126 Ou (MZ n):=fun _ _ _ h=>ca (X:=x126) (agy n h)
def UY (r:Bool):AV:=.bool r
def O1 (r:Bool):List (Nat×Bx):= []
def x111:=fx E0 Tryz.f111 [] []
def lU:=Ax x111 UY O1
def sw:=Cx E0 111 UY O1
def pF (t76:Wq7) (t77 t78:Int) (b2:db):LS:=⟨[(2,.loc 2 0),(76,.slice 84 13 (fV t76)),(77,.int .i64 t77),(78,.int .i64 t78)],[(2,.flat 165 (wF b2))]⟩
def C7:LS:=⟨[],[]⟩
def aeh (t50:Bool) (b2:db) (b3:an):LS:=⟨[(2,.loc 2 0),(3,.loc 3 0),(50,.bool t50)],[(2,.flat 165 (wF b2)),(3,.flat 84 (iH b3))]⟩
def C5:LS:=⟨[],[]⟩
def aeg (b2:db) (b3:an):LS:=⟨[(2,.loc 2 0),(3,.loc 3 0)],[(2,.flat 165 (wF b2)),(3,.flat 84 (iH b3))]⟩
def iX (k0:db) (p1:an):LS:=⟨[(0,.agg (wF k0)),(1,.agg (iH p1))],[]⟩
def CF (bX:db->an->Option Bool) (k_1:Option Bool) (back:Wf19) (n:Nat) (t76:Wq7) (t77 t78:Int) (b2:db):Option Bool:=
 if decide (t78<t77) then
 (idx t76 t78).bind fun x2=>(bX b2 x2).bind fun x9=>if !x9 then
 some false
 else
 back t76 t77 (w64 (t78+1)) b2
 else
 k_1
theorem agN {bX} (dF:K2 sw iX bX) {k_1} (aD:K0 (lU [1,1,1,1]) C7 k_1) {back} (ay:K4 (lU [0,1,0,1,1,1]) pF back) (n:Nat):K4 (lU [0,1,0,1,1,1]) pF (CF bX k_1 back n):=fun t76 t77 t78 b2 r h=>ie h (fun c0 h=>be h fun x2 hx2 h=>be h fun x9 hx9 h=>ie h (fun c1 h=>rr h [(0,eb c0),(0,R83.idx hx2),(5,.call (dF hx9) [] [] []),(0,eb c1)]) (fun c1 h=>ra (ay h) [(0,eb c0),(0,R83.idx hx2),(5,.call (dF hx9) [] [] []),(0,eb c1)])) (fun c0 h=>ra (aD h) [(0,eb c0)])
def og (bX:db->an->Option Bool) (k_1:Option Bool):Nat->Wq7->Int->Int->db->Option Bool
 |0,_,_,_,_=>none
 |n+1,t76,t77,t78,b2=>CF bX k_1 (og bX k_1 n) n t76 t77 t78 b2
theorem WG {bX} (dF:K2 sw iX bX) {k_1} (aD:K0 (lU [1,1,1,1]) C7 k_1):∀n:Nat,K4 (lU [0,1,0,1,1,1]) pF (og bX k_1 n)
 |0=>fun _ _ _ _ _ h=>nz h
 |n+1=>fun _ _ _ _ _ h=>agN dF aD (WG dF aD n) n h
def CE (bX:db->an->Option Bool) (n:Nat):Option Bool:=
 some true
theorem agM {bX} (dF:K2 sw iX bX) (n:Nat):K0 (lU [1,1,1,1]) C7 (CE bX n):=fun r h=>rr h []
def xh (bX:db->an->Option Bool) (n:Nat) (t50:Bool) (b2:db) (b3:an):Option Bool:=
 if t50 then
 some false
 else
 if b3.gM !=0 then
 some false
 else
 if !((b3.bz.aw==0) && ((b3.bz.bP==0) && (((b3.bz.aR.aw==0) && ((b3.bz.aR.bM==0) && ((decide (b3.bz.aR.bl=ByteArray.empty)) && true))) && true))) then
 some false
 else
 if !((b3.bg.aw==0) && ((b3.bg.bP==0) && (((b3.bg.aR.aw==0) && ((b3.bg.aR.bM==0) && ((decide (b3.bg.aR.bl=ByteArray.empty)) && true))) && true))) then
 some false
 else
 og bX (CE bX n) n b3.fArgs (b3.fArgs.length:Int) 0 b2
theorem Xt {bX} (dF:K2 sw iX bX) (n:Nat):K3 (lU [1,0,1,1,1,0,1,0,1]) aeh (xh bX n):=fun t50 b2 b3 r h=>ie h (fun c0 g0=>by subst c0;exact (
 rr g0 [])) (fun c0 g0=>by subst c0;exact (
 ie g0 (fun c1 g0=>rr g0 [(2,eb c1)]) (fun c1 g0=>ie g0 (fun c2 g0=>rr g0 [(2,eb c1),(4,eb c2)]) (fun c2 g0=>ie g0 (fun c3 g0=>rr g0 [(2,eb c1),(4,eb c2),(5,eb c3)]) (fun c3 g0=>ra (WG dF (agM dF n) n g0) [(2,eb c1),(4,eb c2),(5,eb c3),(3,.eqv (R83.ax b3.fArgs))])))))
def CD (bX:db->an->Option Bool) (k_4:Option Bool) (back:Wf19) (n:Nat) (t76:Wq7) (t77 t78:Int) (b2:db):Option Bool:=
 if decide (t78<t77) then
 (idx t76 t78).bind fun x2=>(bX b2 x2).bind fun x9=>if !x9 then
 some false
 else
 back t76 t77 (w64 (t78+1)) b2
 else
 k_4
theorem agL {bX} (dF:K2 sw iX bX) {k_4} (eN:K0 (lU [1,1,1,1]) C5 k_4) {back} (ay:K4 (lU [0,1,0,1,1,1]) pF back) (n:Nat):K4 (lU [0,1,0,1,1,1]) pF (CD bX k_4 back n):=fun t76 t77 t78 b2 r h=>ie h (fun c0 h=>be h fun x2 hx2 h=>be h fun x9 hx9 h=>ie h (fun c1 h=>rr h [(0,eb c0),(0,R83.idx hx2),(5,.call (dF hx9) [] [] []),(0,eb c1)]) (fun c1 h=>ra (ay h) [(0,eb c0),(0,R83.idx hx2),(5,.call (dF hx9) [] [] []),(0,eb c1)])) (fun c0 h=>ra (eN h) [(0,eb c0)])
def oe (bX:db->an->Option Bool) (k_4:Option Bool):Nat->Wq7->Int->Int->db->Option Bool
 |0,_,_,_,_=>none
 |n+1,t76,t77,t78,b2=>CD bX k_4 (oe bX k_4 n) n t76 t77 t78 b2
theorem WE {bX} (dF:K2 sw iX bX) {k_4} (eN:K0 (lU [1,1,1,1]) C5 k_4):∀n:Nat,K4 (lU [0,1,0,1,1,1]) pF (oe bX k_4 n)
 |0=>fun _ _ _ _ _ h=>nz h
 |n+1=>fun _ _ _ _ _ h=>agL dF eN (WE dF eN n) n h
def CC (bX:db->an->Option Bool) (n:Nat):Option Bool:=
 some true
theorem agK {bX} (dF:K2 sw iX bX) (n:Nat):K0 (lU [1,1,1,1]) C5 (CC bX n):=fun r h=>rr h []
def tF (bX:db->an->Option Bool) (n:Nat) (b2:db) (b3:an):Option Bool:=
 if b3.gM !=0 then
 some false
 else
 if !((b3.bz.aw==0) && ((b3.bz.bP==0) && (((b3.bz.aR.aw==0) && ((b3.bz.aR.bM==0) && ((decide (b3.bz.aR.bl=ByteArray.empty)) && true))) && true))) then
 some false
 else
 if !((b3.bg.aw==0) && ((b3.bg.bP==0) && (((b3.bg.aR.aw==0) && ((b3.bg.aR.bM==0) && ((decide (b3.bg.aR.bl=ByteArray.empty)) && true))) && true))) then
 some false
 else
 oe bX (CC bX n) n b3.fArgs (b3.fArgs.length:Int) 0 b2
theorem Mc {bX} (dF:K2 sw iX bX) (n:Nat):K2 (lU [1,1]) aeg (tF bX n):=fun b2 b3 r h=>ie h (fun c0 h=>rr h [(2,eb c0)]) (fun c0 h=>ie h (fun c1 h=>rr h [(2,eb c0),(4,eb c1)]) (fun c1 h=>ie h (fun c2 h=>rr h [(2,eb c0),(4,eb c1),(5,eb c2)]) (fun c2 h=>ra (WE dF (agK dF n) n h) [(2,eb c0),(4,eb c1),(5,eb c2),(3,.eqv (R83.ax b3.fArgs))])))
def Ns (bX:db->an->Option Bool) (n:Nat) (k0:db) (p1:an):Option Bool:=
 if p1.fOp==3 then
 (MZ n k0 p1.bz).bind fun x11=>(MZ n k0 p1.bg).bind fun x16=>if (p1.fArgs.length:Int)==0 then
 if !decide (p1.gM<1) then
 if !decide (6<p1.gM) then
 if x11 !=0 then
 some (x11==x16)
 else
 some false
 else
 some false
 else
 some false
 else
 some false
 else
 if p1.fOp==1 then
 xh bX n ((p1.fArgs.length:Int) !=0) k0 p1
 else
 if p1.fOp==2 then
 xh bX n ((p1.fArgs.length:Int) !=0) k0 p1
 else
 if p1.fOp==6 then
 if (p1.fArgs.length:Int) !=1 then
 some false
 else
 tF bX n k0 p1
 else
 if p1.fOp==4 then
 tF bX n k0 p1
 else
 if p1.fOp==5 then
 tF bX n k0 p1
 else
 some false
theorem agJ {bX} (dF:K2 sw iX bX) (n:Nat):K2 (lU []) iX (Ns bX n):=fun k0 p1 r h=>ie h (fun c0 h=>be h fun x11 cu h=>be h fun x16 de h=>ie h (fun c1 h=>ie h (fun c2 h=>ie h (fun c3 h=>ie h (fun c4 h=>rr h [(5,eb c0),(4,.call (nF n cu) [] [] []),(3,.call (nF n de) [] [] []),(4,.eqv (R83.ax p1.fArgs)),(0,eb c1),(3,eb c2),(4,eb c3),(3,eb c4)]) (fun c4 h=>rr h [(5,eb c0),(4,.call (nF n cu) [] [] []),(3,.call (nF n de) [] [] []),(4,.eqv (R83.ax p1.fArgs)),(0,eb c1),(3,eb c2),(4,eb c3),(3,eb c4)])) (fun c3 h=>rr h [(5,eb c0),(4,.call (nF n cu) [] [] []),(3,.call (nF n de) [] [] []),(4,.eqv (R83.ax p1.fArgs)),(0,eb c1),(3,eb c2),(4,eb c3)])) (fun c2 h=>rr h [(5,eb c0),(4,.call (nF n cu) [] [] []),(3,.call (nF n de) [] [] []),(4,.eqv (R83.ax p1.fArgs)),(0,eb c1),(3,eb c2)])) (fun c1 h=>rr h [(5,eb c0),(4,.call (nF n cu) [] [] []),(3,.call (nF n de) [] [] []),(4,.eqv (R83.ax p1.fArgs)),(0,eb c1)])) (fun c0 h=>ie h (fun c1 h=>ra (Xt dF n h) [(5,eb c0),(1,eb c1),(3,.eqv (R83.ax p1.fArgs))]) (fun c1 h=>ie h (fun c2 h=>ra (Xt dF n h) [(5,eb c0),(1,eb c1),(1,eb c2),(3,.eqv (R83.ax p1.fArgs))]) (fun c2 h=>ie h (fun c3 h=>ie h (fun c4 h=>rr h [(5,eb c0),(1,eb c1),(1,eb c2),(1,eb c3),(3,.eqv (R83.ax p1.fArgs)),(0,eb c4)]) (fun c4 h=>ra (Mc dF n h) [(5,eb c0),(1,eb c1),(1,eb c2),(1,eb c3),(3,.eqv (R83.ax p1.fArgs)),(0,eb c4)])) (fun c3 h=>ie h (fun c4 h=>ra (Mc dF n h) [(5,eb c0),(1,eb c1),(1,eb c2),(1,eb c3),(1,eb c4)]) (fun c4 h=>ie h (fun c5 h=>ra (Mc dF n h) [(5,eb c0),(1,eb c1),(1,eb c2),(1,eb c3),(1,eb c4),(1,eb c5)]) (fun c5 h=>rr h [(5,eb c0),(1,eb c1),(1,eb c2),(1,eb c3),(1,eb c4),(1,eb c5)]))))))
def lT:Nat->db->an->Option Bool
 |0,_,_=>none
 |n+1,k0,p1=>Ns (lT n) n k0 p1
theorem RS:∀n:Nat,K2 sw iX (lT n)
 |0=>fun _ _ _ h=>nz h
 |n+1=>fun _ _ _ h=>ca (X:=x111) (agJ (RS n) n h)
def aaO (r:Int):AV:=.int .i64 r
def Vs (r:Int):List (Nat×Bx):= []
def x79:=fx E0 Tryz.f79 [] []
def A79:=Ax x79 aaO Vs
def C79:=Cx E0 79 aaO Vs
def S4 (n:Nat) (aQ params1:Wq0) (p2:an):Option Int:=
 (M4 n aQ).bind fun x4=>if !x4 then
 some 1
 else
 (M4 n params1).bind fun x9=>if !x9 then
 some 1
 else
 (EF n p2 1 24).bind fun x16=>if !x16.1 then
 some 2
 else
 (lT n (db.mk aQ params1) p2).bind fun x23=>if !x23 then
 some 50
 else
 some 0
theorem ajr (n:Nat):K3 (A79 []) iY (S4 n):=fun aQ params1 p2 r h=>be h fun x4 hx4 h=>ie h (fun c0 h=>rr h [(3,.call (oZ n hx4) [] [] []),(0,eb c0)]) (fun c0 h=>be h fun x9 hx9 h=>ie h (fun c1 h=>rr h [(3,.call (oZ n hx4) [] [] []),(0,eb c0),(2,.call (oZ n hx9) [] [] []),(0,eb c1)]) (fun c1 h=>be h fun x16 de h=>ie h (fun c2 h=>rr h [(3,.call (oZ n hx4) [] [] []),(0,eb c0),(2,.call (oZ n hx9) [] [] []),(0,eb c1),(4,.call (Gl n de) [] [(7,2)] []),(0,eb c2)]) (fun c2 h=>be h fun x23 eZ h=>ie h (fun c3 h=>rr h [(3,.call (oZ n hx4) [] [] []),(0,eb c0),(2,.call (oZ n hx9) [] [] []),(0,eb c1),(4,.call (Gl n de) [] [(7,2)] []),(0,eb c2),(4,.call (RS n eZ) [] [] []),(0,eb c3)]) (fun c3 h=>rr h [(3,.call (oZ n hx4) [] [] []),(0,eb c0),(2,.call (oZ n hx9) [] [] []),(0,eb c1),(4,.call (Gl n de) [] [(7,2)] []),(0,eb c2),(4,.call (RS n eZ) [] [] []),(0,eb c3)]))))
def F79 (n:Nat) (aQ params1:Wq0) (p2:an):Option Int:=S4 n aQ params1 p2
theorem ev79 (n:Nat):K3 C79 iY (F79 n):=fun _ _ _ _ h=>ca (X:=x79) (ajr n h)
def abu (r:Int):AV:=.int .i64 r
def VZ (r:Int):List (Nat×Bx):= []
def x38:=fx E0 Tryz.f38 [] []
def A38:=Ax x38 abu VZ
def C38:=Cx E0 38 abu VZ
def sI (t16:Wq1) (t17 t18:Int) (b1:ag):LS:=⟨[(1,.loc 1 0),(16,.slice 63 5 (dr t16)),(17,.int .i64 t17),(18,.int .i64 t18)],[(1,.flat 26 (bj b1))]⟩
def Jp (gV:Wq0) (t58:Wq1) (t59 t60:Int) (t69:Wq7) (t70 t71:Int) (b1:ag):LS:=⟨[(1,.loc 1 0),(7,.slx 3 1 (ba gV)),(58,.slice 63 5 (dr t58)),(59,.int .i64 t59),(60,.int .i64 t60),(69,.slice 84 13 (fV t69)),(70,.int .i64 t70),(71,.int .i64 t71)],[(1,.flat 26 (bj b1))]⟩
def pZ (t58:Wq1) (t59 t60:Int) (b1:ag):LS:=⟨[(1,.loc 1 0),(58,.slice 63 5 (dr t58)),(59,.int .i64 t59),(60,.int .i64 t60)],[(1,.flat 26 (bj b1))]⟩
def Jo:LS:=⟨[],[]⟩
def jD (b1:ag):LS:=⟨[(1,.loc 1 0)],[(1,.flat 26 (bj b1))]⟩
def HO (k_5:wY) (back:EA) (n:Nat) (t16:Wq1) (t17 t18:Int) (b1:ag):Option Int:=
 if decide (t18<t17) then
 (idx t16 t18).bind fun x2=>if decide (8<(x2.ah.length:Int)) then
 some 2
 else
 if decide (4<(x2.aX.length:Int)) then
 some 2
 else
 if decide (4<(x2.cc.length:Int)) then
 some 2
 else
 back t16 t17 (w64 (t18+1)) b1
 else
 k_5 b1
theorem alf {k_5} (fk:K1 (A38 [1,1,1]) jD k_5) {back} (ay:K4 (A38 [0,1,0,1,1]) sI back) (n:Nat):K4 (A38 [0,1,0,1,1]) sI (HO k_5 back n):=fun t16 t17 t18 b1 r h=>ie h (fun c0 h=>be h fun x2 hx2 h=>ie h (fun c1 h=>rr h [(0,eb c0),(0,R62.idx hx2),(5,.eqv (R76.ax x2.ah)),(0,eb c1)]) (fun c1 h=>ie h (fun c2 h=>rr h [(0,eb c0),(0,R62.idx hx2),(5,.eqv (R76.ax x2.ah)),(0,eb c1),(3,.eqv (R79.ax x2.aX)),(0,eb c2)]) (fun c2 h=>ie h (fun c3 h=>rr h [(0,eb c0),(0,R62.idx hx2),(5,.eqv (R76.ax x2.ah)),(0,eb c1),(3,.eqv (R79.ax x2.aX)),(0,eb c2),(4,.eqv (R83.ax x2.cc)),(0,eb c3)]) (fun c3 h=>ra (ay h) [(0,eb c0),(0,R62.idx hx2),(5,.eqv (R76.ax x2.ah)),(0,eb c1),(3,.eqv (R79.ax x2.aX)),(0,eb c2),(4,.eqv (R83.ax x2.cc)),(0,eb c3)])))) (fun c0 h=>ra (fk h) [(0,eb c0)])
def yG (k_5:wY):Nat->Wq1->Int->Int->ag->Option Int
 |0,_,_,_,_=>none
 |n+1,t16,t17,t18,b1=>HO k_5 (yG k_5 n) n t16 t17 t18 b1
theorem acN {k_5} (fk:K1 (A38 [1,1,1]) jD k_5):∀n:Nat,K4 (A38 [0,1,0,1,1]) sI (yG k_5 n)
 |0=>fun _ _ _ _ _ h=>nz h
 |n+1=>fun _ _ _ _ _ h=>alf fk (acN fk n) n h
def HN (k_2:EA) (back:Wq0->Wq1->Int->Int->Wq7->Int->Int->ag->Option Int) (n:Nat) (gV:Wq0) (t58:Wq1) (t59 t60:Int) (t69:Wq7) (t70 t71:Int) (b1:ag):Option Int:=
 if decide (t71<t70) then
 (idx t69 t71).bind fun x2=>(F79 n gV [] x2).bind fun x9=>if x9 !=0 then
 some x9
 else
 back gV t58 t59 t60 t69 t70 (w64 (t71+1)) b1
 else
 k_2 t58 t59 t60 b1
theorem ale {k_2} (bS:K4 (A38 [1,1,1,0,0,1,0,1,1,1,1]) pZ k_2) {back} (ay:K8 (A38 [0,1,1,1,0,0,1,1,0,0,1,0,1,1,1,1]) Jp back) (n:Nat):K8 (A38 [0,1,1,1,0,0,1,1,0,0,1,0,1,1,1,1]) Jp (HN k_2 back n):=fun gV t58 t59 t60 t69 t70 t71 b1 r h=>ie h (fun c0 h=>be h fun x2 hx2 h=>be h fun x9 hx9 h=>ie h (fun c1 h=>rr h [(0,eb c0),(0,R83.idx hx2),(5,.call (ev79 n hx9) [.one .same,.one (.sx 3 1)] [] []),(2,eb c1)]) (fun c1 h=>ra (ay h) [(0,eb c0),(0,R83.idx hx2),(5,.call (ev79 n hx9) [.one .same,.one (.sx 3 1)] [] []),(2,eb c1)])) (fun c0 h=>ra (bS h) [(0,eb c0)])
def yF (k_2:EA):Nat->Wq0->Wq1->Int->Int->Wq7->Int->Int->ag->Option Int
 |0,_,_,_,_,_,_,_,_=>none
 |n+1,gV,t58,t59,t60,t69,t70,t71,b1=>HN k_2 (yF k_2 n) n gV t58 t59 t60 t69 t70 t71 b1
theorem acM {k_2} (bS:K4 (A38 [1,1,1,0,0,1,0,1,1,1,1]) pZ k_2):∀n:Nat,K8 (A38 [0,1,1,1,0,0,1,1,0,0,1,0,1,1,1,1]) Jp (yF k_2 n)
 |0=>fun _ _ _ _ _ _ _ _ _ h=>nz h
 |n+1=>fun _ _ _ _ _ _ _ _ _ h=>ale bS (acM bS n) n h
def HM (k_3:EA) (n:Nat) (t58:Wq1) (t59 t60:Int) (b1:ag):Option Int:=
 k_3 t58 t59 (w64 (t60+1)) b1
theorem ald {k_3} (bu:K4 (A38 [0,1,0,1,1,1,1]) pZ k_3) (n:Nat):K4 (A38 [1,1,1,0,0,1,0,1,1,1,1]) pZ (HM k_3 n):=fun t58 t59 t60 b1 r h=>ra (bu h) []
def HL (k_4:Option Int) (back:EA) (n:Nat) (t58:Wq1) (t59 t60:Int) (b1:ag):Option Int:=
 if decide (t60<t59) then
 (idx t58 t60).bind fun x3=>(F78 n b1 t60).bind fun x11=>yF (HM back n) n x11 t58 t59 t60 x3.cc (x3.cc.length:Int) 0 b1
 else
 k_4
theorem alc {k_4} (eN:K0 (A38 [1,1,1,1,1]) Jo k_4) {back} (ay:K4 (A38 [0,1,0,1,1,1,1]) pZ back) (n:Nat):K4 (A38 [0,1,0,1,1,1,1]) pZ (HL k_4 back n):=fun t58 t59 t60 b1 r h=>ie h (fun c0 h=>be h fun x3 hx3 h=>be h fun x11 cu h=>ra (acM (ald ay n) n h) [(0,eb c0),(1,R62.idx hx3),(6,.call (LG n cu) [] [] [(67,200000)]),(3,.eqv (R83.ax x3.cc)),(1,R3.frz 67 x11)]) (fun c0 h=>ra (eN h) [(0,eb c0)])
def vf (k_4:Option Int):Nat->Wq1->Int->Int->ag->Option Int
 |0,_,_,_,_=>none
 |n+1,t58,t59,t60,b1=>HL k_4 (vf k_4 n) n t58 t59 t60 b1
theorem acL {k_4} (eN:K0 (A38 [1,1,1,1,1]) Jo k_4):∀n:Nat,K4 (A38 [0,1,0,1,1,1,1]) pZ (vf k_4 n)
 |0=>fun _ _ _ _ _ h=>nz h
 |n+1=>fun _ _ _ _ _ h=>alc eN (acL eN n) n h
def Cu (n:Nat):Option Int:=
 some 0
theorem alb (n:Nat):K0 (A38 [1,1,1,1,1]) Jo (Cu n):=fun r h=>rr h []
def HK (n:Nat) (b1:ag):Option Int:=
 if decide (b1.bD<0) then
 some 70
 else
 if decide (1000<b1.bD) then
 some 70
 else
 (F76 n b1).bind fun x11=>if !x11 then
 some 70
 else
 (F77 n b1).bind fun x17=>if !x17 then
 some 70
 else
 vf (Cu n) n b1.ae (b1.ae.length:Int) 0 b1
theorem ala (n:Nat):K1 (A38 [1,1,1]) jD (HK n):=fun b1 r h=>ie h (fun c0 h=>rr h [(2,eb c0)]) (fun c0 h=>ie h (fun c1 h=>rr h [(2,eb c0),(3,eb c1)]) (fun c1 h=>be h fun x11 cu h=>ie h (fun c2 h=>rr h [(2,eb c0),(3,eb c1),(3,.call (ZF n cu) [] [] []),(0,eb c2)]) (fun c2 h=>be h fun x17 gy h=>ie h (fun c3 h=>rr h [(2,eb c0),(3,eb c1),(3,.call (ZF n cu) [] [] []),(0,eb c2),(3,.call (ev77 n gy) [] [] []),(0,eb c3)]) (fun c3 h=>ra (acL (alb n) n h) [(2,eb c0),(3,eb c1),(3,.call (ZF n cu) [] [] []),(0,eb c2),(3,.call (ev77 n gy) [] [] []),(0,eb c3),(3,.eqv (R62.ax b1.ae))]))))
def Tx (n:Nat) (s0:ag):Option Int:=
 if decide (8<(s0.ae.length:Int)) then
 some 2
 else
 yG (HK n) n s0.ae (s0.ae.length:Int) 0 s0
theorem akZ (n:Nat):K1 (A38 []) nP (Tx n):=fun s0 r h=>ie h (fun c0 h=>rr h [(4,.eqv (R62.ax s0.ae)),(0,eb c0)]) (fun c0 h=>ra (acN (ala n) n h) [(4,.eqv (R62.ax s0.ae)),(0,eb c0),(2,.eqv (R62.ax s0.ae))])
def F38 (n:Nat) (s0:ag):Option Int:=Tx n s0
theorem wE (n:Nat):K1 C38 nP (F38 n):=fun _ _ h=>ca (X:=x38) (akZ n h)
def abt (r:Bool):AV:=.bool r
def VY (r:Bool):List (Nat×Bx):= []
def x39:=fx E0 Tryz.f39 [] []
def A39:=Ax x39 abt VY
def C39:=Cx E0 39 abt VY
def Jn (dA:Wq0) (t12:Wq2) (t13 t14:Int):LS:=⟨[(1,.slx 3 1 (ba dA)),(12,.slx 65 3 (aN t12)),(13,.int .i64 t13),(14,.int .i64 t14)],[]⟩
def Jm:LS:=⟨[],[]⟩
def Uk (gw:Wq2) (dA:Wq0):LS:=⟨[(0,.slx 65 3 (aN gw)),(1,.slx 3 1 (ba dA))],[]⟩
def HJ (k_1:Option Bool) (back:Wq0->Wq2->Int->Int->Option Bool) (n:Nat) (dA:Wq0) (t12:Wq2) (t13 t14:Int):Option Bool:=
 if decide (t14<t13) then
 (idx t12 t14).bind fun x3=>(F80 n x3).bind fun x10=>if !x10 then
 some false
 else
 (idx dA t14).bind fun x18=>if x3.aw !=x18 then
 some false
 else
 back dA t12 t13 (w64 (t14+1))
 else
 k_1
theorem akY {k_1} (aD:K0 (A39 [1,1,1]) Jm k_1) {back} (ay:K4 (A39 [0,1,0,1,1]) Jn back) (n:Nat):K4 (A39 [0,1,0,1,1]) Jn (HJ k_1 back n):=fun dA t12 t13 t14 r h=>ie h (fun c0 h=>be h fun x3 hx3 h=>be h fun x10 cw h=>ie h (fun c1 h=>rr h [(0,eb c0),(1,R64.idx hx3),(5,.call (LF n cw) [] [] []),(0,eb c1)]) (fun c1 h=>be h fun x18 gx h=>ie h (fun c2 h=>rr h [(0,eb c0),(1,R64.idx hx3),(5,.call (LF n cw) [] [] []),(0,eb c1),(5,R3.idx gx),(1,eb c2)]) (fun c2 h=>ra (ay h) [(0,eb c0),(1,R64.idx hx3),(5,.call (LF n cw) [] [] []),(0,eb c1),(5,R3.idx gx),(1,eb c2)]))) (fun c0 h=>ra (aD h) [(0,eb c0)])
def yE (k_1:Option Bool):Nat->Wq0->Wq2->Int->Int->Option Bool
 |0,_,_,_,_=>none
 |n+1,dA,t12,t13,t14=>HJ k_1 (yE k_1 n) n dA t12 t13 t14
theorem acK {k_1} (aD:K0 (A39 [1,1,1]) Jm k_1):∀n:Nat,K4 (A39 [0,1,0,1,1]) Jn (yE k_1 n)
 |0=>fun _ _ _ _ _ h=>nz h
 |n+1=>fun _ _ _ _ _ h=>akY aD (acK aD n) n h
def HI (n:Nat):Option Bool:=
 some true
theorem akX (n:Nat):K0 (A39 [1,1,1]) Jm (HI n):=fun r h=>rr h []
def Tw (n:Nat) (gw:Wq2) (dA:Wq0):Option Bool:=
 if (gw.length:Int) !=(dA.length:Int) then
 some false
 else
 yE (HI n) n dA gw (gw.length:Int) 0
theorem akW (n:Nat):K2 (A39 []) Uk (Tw n):=fun gw dA r h=>ie h (fun c0 h=>rr h [(2,.eqv (R64.ax gw)),(1,.eqv (R3.ax dA)),(0,eb c0)]) (fun c0 h=>ra (acK (akX n) n h) [(2,.eqv (R64.ax gw)),(1,.eqv (R3.ax dA)),(0,eb c0),(1,.eqv (R64.ax gw))])
def F39 (n:Nat) (gw:Wq2) (dA:Wq0):Option Bool:=Tw n gw dA
theorem Ej (n:Nat):K2 C39 Uk (F39 n):=fun _ _ _ h=>ca (X:=x39) (akW n h)
def abr (r:Wq0):AV:=.ms 200000 1 0 r.length
def VX (r:Wq0):List (Nat×Bx):= [(200000,.rows false 3 1 (ba r))]
def x40:=fx E0 Tryz.f40 [] [200000]
def A40:=Ax x40 abr VX
def C40:=Cx E0 40 abr VX
def Tv (n:Nat) (s0:ag) (aE:Int):Option Wq0:=
 (F78 n s0 aE).bind fun x5=>(F81 n s0 aE).bind fun x10=>if !x10 then
 some []
 else
 (idx s0.ae aE).bind fun x17=>if decide (x17.aq<0) then
 some []
 else
 (idx s0.ae aE).bind fun x27=>(gd x5.length (if (x5.length:Int)<x27.aq then (x5.length:Int) else x27.aq)).bind fun x34=>some (x5.take x34)
theorem akV (n:Nat):K2 (A40 []) kT (Tv n):=fun s0 aE r h=>be h fun x5 hx5 h=>be h fun x10 cw h=>ie h (fun c0 h=>rr h [(4,.call (LG n hx5) [] [] [(8,200000)]),(3,.call (qC n cw) [] [] []),(0,eb c0),(3,.born [4] [] 200000 false 3 1)]) (fun c0 h=>be h fun x17 gy h=>ie h (fun c1 h=>rr h [(4,.call (LG n hx5) [] [] [(8,200000)]),(3,.call (qC n cw) [] [] []),(0,eb c0),(4,R62.idx gy),(2,eb c1),(2,.born [4] [] 200000 false 3 1)]) (fun c1 h=>be h fun x27 sb h=>be h fun x34 uf h=>rr h [(4,.call (LG n hx5) [] [] [(8,200000)]),(3,.call (qC n cw) [] [] []),(0,eb c0),(4,R62.idx gy),(2,eb c1),(5,R62.idx sb),(5,R3.gd (xs:=x5) uf (Nat.le_of_eq rfl)),(1,.ren 8 200000),(0,.shr 200000 (R3.take x5 x34)),(0,.seq 4 (congrArg (fun n_=>(AV.ms 200000 1 0 n_)) ((vw (xs:=x5) (Nat.le_trans (km uf).2 (Nat.le_of_eq rfl))).symm)))]))
def F40 (n:Nat) (s0:ag) (aE:Int):Option Wq0:=Tv n s0 aE
theorem LI (n:Nat):K2 C40 kT (F40 n):=fun _ _ _ h=>ca (X:=x40) (akV n h)
def UN (r:Bool):AV:=.bool r
def OQ (r:Bool):List (Nat×Bx):= []
def x137:=fx E0 Tryz.f137 [] []
def A137:=Ax x137 UN OQ
def C137:=Cx E0 137 UN OQ
def xr (x0:Int):LS:=⟨[(0,.int .i64 x0)],[]⟩
def Ni (n:Nat) (x0:Int):Option Bool:=
 some (x0 !=x0)
theorem agx (n:Nat):K1 (A137 []) xr (Ni n):=fun x0 r h=>rr h []
def SK (n:Nat) (x0:Int):Option Bool:=Ni n x0
theorem lq (n:Nat):K1 C137 xr (SK n):=fun _ _ h=>ca (X:=x137) (agx n h)
def UT (r:Int):AV:=.int .i64 r
def OX (r:Int):List (Nat×Bx):= []
def x121:=fx E0 Tryz.f121 [] []
def A121:=Ax x121 UT OX
def C121:=Cx E0 121 UT OX
def xu (x0 y1:Int):LS:=⟨[(0,.int .i64 x0),(1,.int .i64 y1)],[]⟩
def No (n:Nat) (x0 y1:Int):Option Int:=
 (SK n x0).bind fun x3=>(SK n y1).bind fun x7=>if x3 then
 if x7 then
 some 0
 else
 some (-1)
 else
 if x7 then
 some 1
 else
 if decide (x0<y1) then
 some (-1)
 else
 if decide (y1<x0) then
 some 1
 else
 some 0
theorem agD (n:Nat):K2 (A121 []) xu (No n):=fun x0 y1 r h=>be h fun x3 hx3 h=>be h fun x7 hx7 h=>ie h (fun c0 g0=>by subst c0;exact (
 ie g0 (fun c1 g1=>by subst c1;exact (
 rr g1 [(2,.call (lq n hx3) [] [] []),(2,.call (lq n hx7) [] [] [])])) (fun c1 g1=>by subst c1;exact (
 rr g1 [(2,.call (lq n hx3) [] [] []),(2,.call (lq n hx7) [] [] [])])))) (fun c0 g0=>by subst c0;exact (
 ie g0 (fun c1 g1=>by subst c1;exact (
 rr g1 [(2,.call (lq n hx3) [] [] []),(2,.call (lq n hx7) [] [] [])])) (fun c1 g1=>by subst c1;exact (
 ie g1 (fun c2 g1=>rr g1 [(2,.call (lq n hx3) [] [] []),(2,.call (lq n hx7) [] [] []),(5,eb c2)]) (fun c2 g1=>ie g1 (fun c3 g1=>rr g1 [(2,.call (lq n hx3) [] [] []),(2,.call (lq n hx7) [] [] []),(5,eb c2),(2,eb c3)]) (fun c3 g1=>rr g1 [(2,.call (lq n hx3) [] [] []),(2,.call (lq n hx7) [] [] []),(5,eb c2),(2,eb c3)]))))))
def SM (n:Nat) (x0 y1:Int):Option Int:=No n x0 y1
theorem RR (n:Nat):K2 C121 xu (SM n):=fun _ _ _ h=>ca (X:=x121) (agD n h)
def UM (r:Bool):AV:=.bool r
def OP (r:Bool):List (Nat×Bx):= []
def x138:=fx E0 Tryz.f138 [] []
def A138:=Ax x138 UM OP
def C138:=Cx E0 138 UM OP
def Nh (n:Nat) (x0:Int):Option Bool:=
 some (x0 !=x0)
theorem agw (n:Nat):K1 (A138 []) xr (Nh n):=fun x0 r h=>rr h []
def SJ (n:Nat) (x0:Int):Option Bool:=Nh n x0
theorem lp (n:Nat):K1 C138 xr (SJ n):=fun _ _ h=>ca (X:=x138) (agw n h)
def US (r:Int):AV:=.int .i64 r
def OW (r:Int):List (Nat×Bx):= []
def x122:=fx E0 Tryz.f122 [] []
def A122:=Ax x122 US OW
def C122:=Cx E0 122 US OW
def Nn (n:Nat) (x0 y1:Int):Option Int:=
 (SJ n x0).bind fun x3=>(SJ n y1).bind fun x7=>if x3 then
 if x7 then
 some 0
 else
 some (-1)
 else
 if x7 then
 some 1
 else
 if decide (x0<y1) then
 some (-1)
 else
 if decide (y1<x0) then
 some 1
 else
 some 0
theorem agC (n:Nat):K2 (A122 []) xu (Nn n):=fun x0 y1 r h=>be h fun x3 hx3 h=>be h fun x7 hx7 h=>ie h (fun c0 g0=>by subst c0;exact (
 ie g0 (fun c1 g1=>by subst c1;exact (
 rr g1 [(2,.call (lp n hx3) [] [] []),(2,.call (lp n hx7) [] [] [])])) (fun c1 g1=>by subst c1;exact (
 rr g1 [(2,.call (lp n hx3) [] [] []),(2,.call (lp n hx7) [] [] [])])))) (fun c0 g0=>by subst c0;exact (
 ie g0 (fun c1 g1=>by subst c1;exact (
 rr g1 [(2,.call (lp n hx3) [] [] []),(2,.call (lp n hx7) [] [] [])])) (fun c1 g1=>by subst c1;exact (
 ie g1 (fun c2 g1=>rr g1 [(2,.call (lp n hx3) [] [] []),(2,.call (lp n hx7) [] [] []),(5,eb c2)]) (fun c2 g1=>ie g1 (fun c3 g1=>rr g1 [(2,.call (lp n hx3) [] [] []),(2,.call (lp n hx7) [] [] []),(5,eb c2),(2,eb c3)]) (fun c3 g1=>rr g1 [(2,.call (lp n hx3) [] [] []),(2,.call (lp n hx7) [] [] []),(5,eb c2),(2,eb c3)]))))))
def SL (n:Nat) (x0 y1:Int):Option Int:=Nn n x0 y1
theorem adu (n:Nat):K2 C122 xu (SL n):=fun _ _ _ h=>ca (X:=x122) (agC n h)
def UL (r:Int):AV:=.int .i64 r
def OO (r:Int):List (Nat×Bx):= []
def x139:=fx E0 Tryz.f139 [] []
def A139:=Ax x139 UL OO
def C139:=Cx E0 139 UL OO
def xq (a0 b1:ByteArray):LS:=⟨[(0,.str a0),(1,.str b1)],[]⟩
def Ng (n:Nat) (a0 b1:ByteArray):Option Int:=
 (SG n a0 b1).bind fun x4=>some x4
theorem agv (n:Nat):K2 (A139 []) xq (Ng n):=fun a0 b1 r h=>be h fun x4 hx4 h=>rr h [(3,.call (aiF n hx4) [] [] [])]
def aam (n:Nat) (a0 b1:ByteArray):Option Int:=Ng n a0 b1
theorem aiG (n:Nat):K2 C139 xq (aam n):=fun _ _ _ h=>ca (X:=x139) (agv n h)
def UR (r:Int):AV:=.int .i64 r
def OV (r:Int):List (Nat×Bx):= []
def x123:=fx E0 Tryz.f123 [] []
def A123:=Ax x123 UR OV
def C123:=Cx E0 123 UR OV
def Nm (n:Nat) (a0 b1:ByteArray):Option Int:=
 (aam n a0 b1).bind fun x4=>some x4
theorem agB (n:Nat):K2 (A123 []) xq (Nm n):=fun a0 b1 r h=>be h fun x4 hx4 h=>rr h [(3,.call (aiG n hx4) [] [] [])]
def aan (n:Nat) (a0 b1:ByteArray):Option Int:=Nm n a0 b1
theorem aiH (n:Nat):K2 C123 xq (aan n):=fun _ _ _ h=>ca (X:=x123) (agB n h)
def aaD (r:Int):AV:=.int .i64 r
def Vh (r:Int):List (Nat×Bx):= []
def x95:=fx E0 Tryz.f95 [] []
def A95:=Ax x95 aaD Vh
def C95:=Cx E0 95 aaD Vh
def SW (n:Nat) (a0 b1:aI):Option Int:=
 if ((a0.aw==b1.aw) && ((a0.bM==b1.bM) && ((decide (a0.bl=b1.bl)) && true))) then
 some 0
 else
 (SM n a0.aw b1.aw).bind fun x11=>if x11 !=0 then
 some x11
 else
 (SL n a0.bM b1.bM).bind fun x20=>if x20 !=0 then
 some x20
 else
 (aan n a0.bl b1.bl).bind fun x29=>some x29
theorem aiO (n:Nat):K2 (A95 []) AO (SW n):=fun a0 b1 r h=>ie h (fun c0 h=>rr h [(5,eb c0)]) (fun c0 h=>be h fun x11 cu h=>ie h (fun c1 h=>rr h [(5,eb c0),(4,.call (RR n cu) [] [] []),(2,eb c1)]) (fun c1 h=>be h fun x20 kM h=>ie h (fun c2 h=>rr h [(5,eb c0),(4,.call (RR n cu) [] [] []),(2,eb c1),(4,.call (adu n kM) [] [] []),(2,eb c2)]) (fun c2 h=>be h fun x29 m7 h=>rr h [(5,eb c0),(4,.call (RR n cu) [] [] []),(2,eb c1),(4,.call (adu n kM) [] [] []),(2,eb c2),(4,.call (aiH n m7) [] [] [])])))
def F95 (n:Nat) (a0 b1:aI):Option Int:=SW n a0 b1
theorem ev95 (n:Nat):K2 C95 AO (F95 n):=fun _ _ _ h=>ca (X:=x95) (aiO n h)
def aaE (r:Int):AV:=.int .i64 r
def Vi (r:Int):List (Nat×Bx):= []
def x94:=fx E0 Tryz.f94 [] []
def A94:=Ax x94 aaE Vi
def C94:=Cx E0 94 aaE Vi
def IA (s10 s21 t11:Wq2) (t12 t13:Int):LS:=⟨[(0,.slx 65 3 (aN s10)),(1,.slx 65 3 (aN s21)),(2,.fn 95 [] []),(11,.slx 65 3 (aN t11)),(12,.int .i64 t12),(13,.int .i64 t13)],[]⟩
def Iz (s10 s21:Wq2):LS:=⟨[(0,.slx 65 3 (aN s10)),(1,.slx 65 3 (aN s21))],[]⟩
def TX (s10 s21:Wq2):LS:=⟨[(0,.slx 65 3 (aN s10)),(1,.slx 65 3 (aN s21)),(2,.fn 95 [] [])],[]⟩
def GF (k_1:Wf8) (back:Wq2->Wq2->Wq2->Int->Int->Option Int) (n:Nat) (s10 s21 t11:Wq2) (t12 t13:Int):Option Int:=
 if decide (t13<t12) then
 (idx t11 t13).bind fun x3=>if !decide (t13<(s21.length:Int)) then
 some 1
 else
 (idx s21 t13).bind fun x15=>(F95 n x3 x15).bind fun x23=>if x23 !=0 then
 some x23
 else
 back s10 s21 t11 t12 (w64 (t13+1))
 else
 k_1 s10 s21
theorem aiR {k_1} (aD:K2 (A94 [1,1]) Iz k_1) {back} (ay:K5 (A94 [0,1,0,1]) IA back) (n:Nat):K5 (A94 [0,1,0,1]) IA (GF k_1 back n):=fun s10 s21 t11 t12 t13 r h=>ie h (fun c0 h=>be h fun x3 hx3 h=>ie h (fun c1 h=>rr h [(0,eb c0),(1,R64.idx hx3),(6,.eqv (R64.ax s21)),(0,eb c1)]) (fun c1 h=>be h fun x15 cA h=>be h fun x23 eZ h=>ie h (fun c2 h=>rr h [(0,eb c0),(1,R64.idx hx3),(6,.eqv (R64.ax s21)),(0,eb c1),(2,R64.idx cA),(6,.call (ev95 n eZ) [] [] []),(2,eb c2)]) (fun c2 h=>ra (ay h) [(0,eb c0),(1,R64.idx hx3),(6,.eqv (R64.ax s21)),(0,eb c1),(2,R64.idx cA),(6,.call (ev95 n eZ) [] [] []),(2,eb c2)]))) (fun c0 h=>ra (aD h) [(0,eb c0)])
def uX (k_1:Wf8):Nat->Wq2->Wq2->Wq2->Int->Int->Option Int
 |0,_,_,_,_,_=>none
 |n+1,s10,s21,t11,t12,t13=>GF k_1 (uX k_1 n) n s10 s21 t11 t12 t13
theorem abX {k_1} (aD:K2 (A94 [1,1]) Iz k_1):∀n:Nat,K5 (A94 [0,1,0,1]) IA (uX k_1 n)
 |0=>fun _ _ _ _ _ _ h=>nz h
 |n+1=>fun _ _ _ _ _ _ h=>aiR aD (abX aD n) n h
def Ci (n:Nat) (s10 s21:Wq2):Option Int:=
 if decide ((s10.length:Int)<(s21.length:Int)) then
 some (-1)
 else
 some 0
theorem aiQ (n:Nat):K2 (A94 [1,1]) Iz (Ci n):=fun s10 s21 r h=>ie h (fun c0 h=>rr h [(1,.eqv (R64.ax s10)),(1,.eqv (R64.ax s21)),(0,eb c0)]) (fun c0 h=>rr h [(1,.eqv (R64.ax s10)),(1,.eqv (R64.ax s21)),(0,eb c0)])
def adQ (n:Nat) (s10 s21:Wq2):Option Int:=
 uX (Ci n) n s10 s21 s10 (s10.length:Int) 0
theorem aiP (n:Nat):K2 (A94 []) TX (adQ n):=fun s10 s21 r h=>ra (abX (aiQ n) n h) [(2,.eqv (R64.ax s10))]
def F94 (n:Nat) (s10 s21:Wq2):Option Int:=adQ n s10 s21
theorem ev94 (n:Nat):K2 C94 TX (F94 n):=fun _ _ _ h=>ca (X:=x94) (aiP n h)
def abl (r:Int):AV:=.int .i64 r
def VQ (r:Int):List (Nat×Bx):= []
def x52:=fx E0 Tryz.f52 [] []
def A52:=Ax x52 abl VQ
def C52:=Cx E0 52 abl VQ
def adU (n:Nat) (a0 b1:Wq2):Option Int:=
 (F94 n a0 b1).bind fun x4=>some x4
theorem akC (n:Nat):K2 (A52 []) p8 (adU n):=fun a0 b1 r h=>be h fun x4 hx4 h=>rr h [(3,.call (ev94 n hx4) [] [] [])]
def F52 (n:Nat) (a0 b1:Wq2):Option Int:=adU n a0 b1
theorem Ei (n:Nat):K2 C52 p8 (F52 n):=fun _ _ _ h=>ca (X:=x52) (akC n h)
def aaX (r:Bool):AV:=.bool r
def VC (r:Bool):List (Nat×Bx):= []
def x70:=fx E0 Tryz.f70 [] []
def A70:=Ax x70 aaX VC
def C70:=Cx E0 70 aaX VC
def afx (aO i10:Int) (gY rh:Bool) (t41:Wq2) (t42 t43:Int) (b9:av) (b11:aI):LS:=⟨[(3,.int .i64 aO),(9,.loc 9 0),(10,.int .i64 i10),(11,.loc 11 0),(12,.bool gY),(13,.bool rh),(41,.slx 65 3 (aN t41)),(42,.int .i64 t42),(43,.int .i64 t43)],[(9,.flat 63 (fE b9)),(11,.flat 65 (iW b11))]⟩
def afw (aO i10:Int) (gY:Bool) (t41:Wq2) (t42 t43:Int) (b9:av) (b11:aI):LS:=⟨[(3,.int .i64 aO),(9,.loc 9 0),(10,.int .i64 i10),(11,.loc 11 0),(12,.bool gY),(41,.slx 65 3 (aN t41)),(42,.int .i64 t42),(43,.int .i64 t43)],[(9,.flat 63 (fE b9)),(11,.flat 65 (iW b11))]⟩
def vA (aO:Int) (t41:Wq2) (t42 t43:Int) (b9:av):LS:=⟨[(3,.int .i64 aO),(9,.loc 9 0),(41,.slx 65 3 (aN t41)),(42,.int .i64 t42),(43,.int .i64 t43)],[(9,.flat 63 (fE b9))]⟩
def I2:LS:=⟨[],[]⟩
def afv (aE:Int) (cm:Wq2) (aO:Int) (t29:Bool) (b4:ag):LS:=⟨[(1,.int .i64 aE),(2,.slx 65 3 (aN cm)),(3,.int .i64 aO),(4,.loc 4 0),(29,.bool t29)],[(4,.flat 26 (bj b4))]⟩
def AM (s0:ag) (aE:Int) (cm:Wq2) (aO:Int):LS:=⟨[(0,.agg (bj s0)),(1,.int .i64 aE),(2,.slx 65 3 (aN cm)),(3,.int .i64 aO)],[]⟩
def y6 (k_2:aai) (n:Nat) (aO i10:Int) (gY rh:Bool) (t41:Wq2) (t42 t43:Int) (b9:av) (b11:aI):Option Bool:=
 (idx b9.ah i10).bind fun x6=>if b11.aw !=x6.aw then
 if !gY then
 if !rh then
 some false
 else
 k_2 aO t41 t42 (w64 (t43+1)) b9
 else
 k_2 aO t41 t42 (w64 (t43+1)) b9
 else
 k_2 aO t41 t42 (w64 (t43+1)) b9
theorem So {k_2} (bS:K5 (A70 [0,1,0,1,1,1,1]) vA k_2) (n:Nat):K9 (A70 [1,1,1,1,0,0,1,1,0,0,1,0,1,1,1,1]) afx (y6 k_2 n):=fun aO i10 gY rh t41 t42 t43 b9 b11 r h=>be h fun x6 hx6 h=>ie h (fun c0 h=>ie h (fun c1 h=>ie h (fun c2 h=>rr h [(5,R76.idx hx6),(2,eb c0),(2,eb c1),(3,eb c2)]) (fun c2 h=>ra (bS h) [(5,R76.idx hx6),(2,eb c0),(2,eb c1),(3,eb c2)])) (fun c1 h=>ra (bS h) [(5,R76.idx hx6),(2,eb c0),(2,eb c1)])) (fun c0 h=>ra (bS h) [(5,R76.idx hx6),(2,eb c0)])
def rT (k_2:aai) (n:Nat) (aO i10:Int) (gY:Bool) (t41:Wq2) (t42 t43:Int) (b9:av) (b11:aI):Option Bool:=
 if b11.aw==1 then
 if aO==3 then
 y6 k_2 n aO i10 gY (!decide (i10<b9.aq)) t41 t42 t43 b9 b11
 else
 y6 k_2 n aO i10 gY false t41 t42 t43 b9 b11
 else
 y6 k_2 n aO i10 gY false t41 t42 t43 b9 b11
theorem Sn {k_2} (bS:K5 (A70 [0,1,0,1,1,1,1]) vA k_2) (n:Nat):K8 (A70 [1,1,1,0,0,1,1,0,0,1,0,1,1,1,1]) afw (rT k_2 n):=fun aO i10 gY t41 t42 t43 b9 b11 r h=>ie h (fun c0 h=>ie h (fun c1 h=>ra (So bS n h) [(2,eb c0),(2,eb c1)]) (fun c1 h=>ra (So bS n h) [(2,eb c0),(2,eb c1)])) (fun c0 h=>ra (So bS n h) [(2,eb c0)])
def yZ (k_3:Option Bool) (back:aai) (n:Nat) (aO:Int) (t41:Wq2) (t42 t43:Int) (b9:av):Option Bool:=
 if decide (t43<t42) then
 (idx t41 t43).bind fun x3=>(SS n x3).bind fun x10=>if !x10 then
 some false
 else
 if x3.aw==2 then
 if aO !=1 then
 rT back n aO t43 (!decide (t43<b9.aq)) t41 t42 t43 b9 x3
 else
 rT back n aO t43 false t41 t42 t43 b9 x3
 else
 rT back n aO t43 false t41 t42 t43 b9 x3
 else
 k_3
theorem ajS {k_3} (bu:K0 (A70 [1,1,1,1,1]) I2 k_3) {back} (ay:K5 (A70 [0,1,0,1,1,1,1]) vA back) (n:Nat):K5 (A70 [0,1,0,1,1,1,1]) vA (yZ k_3 back n):=fun aO t41 t42 t43 b9 r h=>ie h (fun c0 h=>be h fun x3 hx3 h=>be h fun x10 cw h=>ie h (fun c1 h=>rr h [(0,eb c0),(1,R64.idx hx3),(5,.call (uE n cw) [] [] []),(0,eb c1)]) (fun c1 h=>ie h (fun c2 h=>ie h (fun c3 h=>ra (Sn ay n h) [(0,eb c0),(1,R64.idx hx3),(5,.call (uE n cw) [] [] []),(0,eb c1),(2,eb c2),(2,eb c3)]) (fun c3 h=>ra (Sn ay n h) [(0,eb c0),(1,R64.idx hx3),(5,.call (uE n cw) [] [] []),(0,eb c1),(2,eb c2),(2,eb c3)])) (fun c2 h=>ra (Sn ay n h) [(0,eb c0),(1,R64.idx hx3),(5,.call (uE n cw) [] [] []),(0,eb c1),(2,eb c2)]))) (fun c0 h=>ra (bu h) [(0,eb c0)])
def lx (k_3:Option Bool):Nat->Int->Wq2->Int->Int->av->Option Bool
 |0,_,_,_,_,_=>none
 |n+1,aO,t41,t42,t43,b9=>yZ k_3 (lx k_3 n) n aO t41 t42 t43 b9
theorem acq {k_3} (bu:K0 (A70 [1,1,1,1,1]) I2 k_3):∀n:Nat,K5 (A70 [0,1,0,1,1,1,1]) vA (lx k_3 n)
 |0=>fun _ _ _ _ _ _ h=>nz h
 |n+1=>fun _ _ _ _ _ _ h=>ajS bu (acq bu n) n h
def pA (n:Nat):Option Bool:=
 some true
theorem ajR (n:Nat):K0 (A70 [1,1,1,1,1]) I2 (pA n):=fun r h=>rr h []
def rS (n:Nat) (aE:Int) (cm:Wq2) (aO:Int) (t29:Bool) (b4:ag):Option Bool:=
 if t29 then
 some false
 else
 (idx b4.ae aE).bind fun x4=>if (cm.length:Int) !=(x4.ah.length:Int) then
 some false
 else
 lx (pA n) n aO cm (cm.length:Int) 0 x4
theorem GB (n:Nat):K5 (A70 [1,0,1]) afv (rS n):=fun aE cm aO t29 b4 r h=>ie h (fun c0 g0=>by subst c0;exact (
 rr g0 [])) (fun c0 g0=>by subst c0;exact (
 be g0 fun x4 hx4 g0=>ie g0 (fun c1 g0=>rr g0 [(3,R62.idx hx4),(4,.eqv (R64.ax cm)),(2,.eqv (R76.ax x4.ah)),(0,eb c1)]) (fun c1 g0=>ra (acq (ajR n) n g0) [(3,R62.idx hx4),(4,.eqv (R64.ax cm)),(2,.eqv (R76.ax x4.ah)),(0,eb c1),(1,.eqv (R64.ax cm))])))
def G7 (n:Nat) (s0:ag) (aE:Int) (cm:Wq2) (aO:Int):Option Bool:=
 if aO !=1 then
 if aO !=2 then
 if aO !=3 then
 rS n aE cm aO true s0
 else
 (F81 n s0 aE).bind fun x16=>rS n aE cm aO (!x16) s0
 else
 (F81 n s0 aE).bind fun x14=>rS n aE cm aO (!x14) s0
 else
 (F81 n s0 aE).bind fun x12=>rS n aE cm aO (!x12) s0
theorem ajQ (n:Nat):K4 (A70 []) AM (G7 n):=fun s0 aE cm aO r h=>ie h (fun c0 h=>ie h (fun c1 h=>ie h (fun c2 h=>ra (GB n h) [(3,eb c0),(2,eb c1),(3,eb c2)]) (fun c2 h=>be h fun x16 de h=>ra (GB n h) [(3,eb c0),(2,eb c1),(3,eb c2),(4,.call (qC n de) [] [] [])])) (fun c1 h=>be h fun x14 dU h=>ra (GB n h) [(3,eb c0),(2,eb c1),(6,.call (qC n dU) [] [] [])])) (fun c0 h=>be h fun x12 cM h=>ra (GB n h) [(3,eb c0),(7,.call (qC n cM) [] [] [])])
def F70 (n:Nat) (s0:ag) (aE:Int) (cm:Wq2) (aO:Int):Option Bool:=G7 n s0 aE cm aO
theorem Eg (n:Nat):K4 C70 AM (F70 n):=fun _ _ _ _ _ h=>ca (X:=x70) (ajQ n h)
def aaL (r:Wq2):AV:=.ms 200000 3 0 r.length
def Vp (r:Wq2):List (Nat×Bx):= [(200000,.rows false 65 3 (aN r))]
def x82:=fx E0 Tryz.f82 [] [200000]
def A82:=Ax x82 aaL Vp
def C82:=Cx E0 82 aaL Vp
def S1 (n:Nat) (s0:ag) (aE:Int) (cm:Wq2):Option Wq2:=
 (F81 n s0 aE).bind fun x5=>if !x5 then
 some []
 else
 (idx s0.ae aE).bind fun x12=>if decide (x12.aq<0) then
 some []
 else
 (idx s0.ae aE).bind fun x23=>(cut cm none (some (if (cm.length:Int)<x23.aq then (cm.length:Int) else x23.aq))).bind fun x30=>(app [] x30).bind fun x32=>some x32
theorem ajo (n:Nat):K3 (A82 []) sJ (S1 n):=fun s0 aE cm r h=>be h fun x5 hx5 h=>ie h (fun c0 h=>rr h [(4,.call (qC n hx5) [] [] []),(0,eb c0),(3,.born [6] [] 200000 false 65 3)]) (fun c0 h=>be h fun x12 cM h=>ie h (fun c1 h=>rr h [(4,.call (qC n hx5) [] [] []),(0,eb c0),(4,R62.idx cM),(2,eb c1),(2,.born [6] [] 200000 false 65 3)]) (fun c1 h=>be h fun x23 eZ h=>be h fun x30 z0 h=>be h fun x32 mm h=>rr h [(4,.call (qC n hx5) [] [] []),(0,eb c0),(4,R62.idx cM),(2,eb c1),(6,R62.idx eZ),(3,.eqv (R64.ax cm)),(1,R64.cut z0),(0,R64.app mm .dat),(1,.ren 20 200000)]))
def F82 (n:Nat) (s0:ag) (aE:Int) (cm:Wq2):Option Wq2:=S1 n s0 aE cm
theorem ev82 (n:Nat):K3 C82 sJ (F82 n):=fun _ _ _ _ h=>ca (X:=x82) (ajo n h)
def abq (r:Bool):AV:=.bool r
def VW (r:Bool):List (Nat×Bx):= []
def x41:=fx E0 Tryz.f41 [] []
def A41:=Ax x41 abq VW
def C41:=Cx E0 41 abq VW
def Jl (xH:Int) (t53:Wq0) (t54 t55:Int) (b3:aA) (b43 b74:Wq0):LS:=⟨[(3,.loc 3 0),(5,.ms 43 1 0 b43.length),(6,.ms 74 1 0 b74.length),(7,.int .i64 xH),(53,.slx 3 1 (ba t53)),(54,.int .i64 t54),(55,.int .i64 t55)],[(3,.flat 55 (dR b3)),(43,.rows false 3 1 (ba b43)),(74,.rows true 3 1 (ba b74))]⟩
def Jk (b3:aA) (b74:Wq0):LS:=⟨[(3,.loc 3 0),(6,.ms 74 1 0 b74.length)],[(3,.flat 55 (dR b3)),(74,.rows true 3 1 (ba b74))]⟩
def AP (s0:ag) (w1:aA):LS:=⟨[(0,.agg (bj s0)),(1,.agg (dR w1))],[]⟩
def HH (k_1:aA->Wq0->Option Bool) (back:Int->Wq0->Int->Int->aA->Wq0->Wq0->Option Bool) (n:Nat) (xH:Int) (t53:Wq0) (t54 t55:Int) (b3:aA) (b43 b74:Wq0):Option Bool:=
 if decide (t55<t54) then
 (idx t53 t55).bind fun x2=>if !decide (xH<x2) then
 some false
 else
 if !decide (x2<(b43.length:Int)) then
 some false
 else
 (bnd b43.length x2).bind fun x18=>(b43[0+x18]?).bind fun x20=>(app b74 [x20]).bind fun x23=>back x2 t53 t54 (w64 (t55+1)) b3 b43 x23
 else
 k_1 b3 b74
theorem akU {k_1} (aD:K2 (A41 [1,1,1,1,0,1,1,1,0,1,0,1]) Jk k_1) {back} (ay:K7 (A41 [0,1,0,1,1,1,0,1,1,1,0,1,0,1]) Jl back) (n:Nat):K7 (A41 [0,1,0,1,1,1,0,1,1,1,0,1,0,1]) Jl (HH k_1 back n):=fun xH t53 t54 t55 b3 b43 b74 r h=>ie h (fun c0 h=>be h fun x2 hx2 h=>ie h (fun c1 h=>rr h [(0,eb c0),(0,R3.idx hx2),(4,eb c1)]) (fun c1 h=>ie h (fun c2 h=>rr h [(0,eb c0),(0,R3.idx hx2),(4,eb c1),(4,eb c2)]) (fun c2 h=>be h fun x18 gx h=>be h fun x20 kM h=>be h fun x23 eZ h=>ra (ay h) [(0,eb c0),(0,R3.idx hx2),(4,eb c1),(4,eb c2),(4,cJ gx),(0,R3.row kM),(1,R3.app eZ (R3.srW [x20]))]))) (fun c0 h=>ra (aD h) [(0,eb c0)])
def yD (k_1:aA->Wq0->Option Bool):Nat->Int->Wq0->Int->Int->aA->Wq0->Wq0->Option Bool
 |0,_,_,_,_,_,_,_=>none
 |n+1,xH,t53,t54,t55,b3,b43,b74=>HH k_1 (yD k_1 n) n xH t53 t54 t55 b3 b43 b74
theorem acJ {k_1} (aD:K2 (A41 [1,1,1,1,0,1,1,1,0,1,0,1]) Jk k_1):∀n:Nat,K7 (A41 [0,1,0,1,1,1,0,1,1,1,0,1,0,1]) Jl (yD k_1 n)
 |0=>fun _ _ _ _ _ _ _ _ h=>nz h
 |n+1=>fun _ _ _ _ _ _ _ _ h=>akU aD (acJ aD n) n h
def HG (n:Nat) (b3:aA) (b74:Wq0):Option Bool:=
 (F39 n b3.aF b74).bind fun x4=>some x4
theorem akT (n:Nat):K2 (A41 [1,1,1,1,0,1,1,1,0,1,0,1]) Jk (HG n):=fun b3 b74 r h=>be h fun x4 hx4 h=>rr h [(3,R3.frz 74 b74),(0,.call (Ej n hx4) [.one .same,.one (.sx 0 0)] [] [])]
def Tu (n:Nat) (s0:ag) (w1:aA):Option Bool:=
 if w1.fOp==1 then
 if (w1.ah.length:Int)==0 then
 (F70 n s0 w1.au w1.aF 1).bind fun x18=>if x18 then
 (F82 n s0 w1.au w1.aF).bind fun x27=>(F52 n x27 w1.aq).bind fun x31=>some (x31==0)
 else
 some false
 else
 some false
 else
 if w1.fOp==2 then
 (F78 n s0 w1.au).bind fun x13=>(idx s0.ae w1.au).bind fun x21=>yD (HG n) n (w64 (x21.aq - 1)) w1.ah (w1.ah.length:Int) 0 w1 x13 []
 else
 if (w1.ah.length:Int)==0 then
 some ((w1.aF.length:Int)==0)
 else
 some false
theorem akS (n:Nat):K2 (A41 []) AP (Tu n):=fun s0 w1 r h=>ie h (fun c0 h=>ie h (fun c1 h=>be h fun x18 gx h=>ie h (fun c2 g0=>by subst c2;exact (
 be g0 fun x27 sb g0=>be g0 fun x31 ou g0=>rr g0 [(5,eb c0),(3,.eqv (R3.ax w1.ah)),(0,eb c1),(6,.call (Eg n gx) [] [] []),(7,.call (cd (e:=65) (z:=false) (Q:=aN x27) (ev82 n sb) (R64.len x27)) [] [] []),(2,.call (Ei n ou) [.one (.sx 0 0)] [] [])])) (fun c2 g0=>by subst c2;exact (
 rr g0 [(5,eb c0),(3,.eqv (R3.ax w1.ah)),(0,eb c1),(6,.call (Eg n gx) [] [] [])]))) (fun c1 h=>rr h [(5,eb c0),(3,.eqv (R3.ax w1.ah)),(0,eb c1)])) (fun c0 h=>ie h (fun c1 h=>be h fun x13 bH h=>be h fun x21 gX h=>ra (acJ (akT n) n h) [(5,eb c0),(1,eb c1),(4,.call (LG n bH) [] [] [(43,200000)]),(6,R62.idx gX),(6,.eqv (R3.ax w1.ah)),(1,.born [6] [] 74 true 3 1)]) (fun c1 h=>ie h (fun c2 h=>rr h [(5,eb c0),(1,eb c1),(3,.eqv (R3.ax w1.ah)),(0,eb c2),(3,.eqv (R64.ax w1.aF))]) (fun c2 h=>rr h [(5,eb c0),(1,eb c1),(3,.eqv (R3.ax w1.ah)),(0,eb c2)])))
def F41 (n:Nat) (s0:ag) (w1:aA):Option Bool:=Tu n s0 w1
theorem RO (n:Nat):K2 C41 AP (F41 n):=fun _ _ _ h=>ca (X:=x41) (akS n h)
def abp (r:Int):AV:=.int .i64 r
def VV (r:Int):List (Nat×Bx):= []
def x42:=fx E0 Tryz.f42 [] []
def A42:=Ax x42 abp VV
def C42:=Cx E0 42 abp VV
def Uj (a0 b1:aA):LS:=⟨[(0,.agg (dR a0)),(1,.agg (dR b1))],[]⟩
def Tt (n:Nat) (a0 b1:aA):Option Int:=
 if a0.au !=b1.au then
 if decide (a0.au<b1.au) then
 some (-1)
 else
 some 1
 else
 (F52 n a0.aq b1.aq).bind fun x13=>some x13
theorem akR (n:Nat):K2 (A42 []) Uj (Tt n):=fun a0 b1 r h=>ie h (fun c0 h=>ie h (fun c1 h=>rr h [(7,eb c0),(4,eb c1)]) (fun c1 h=>rr h [(7,eb c0),(4,eb c1)])) (fun c0 h=>be h fun x13 bH h=>rr h [(7,eb c0),(4,.call (Ei n bH) [] [] [])])
def F42 (n:Nat) (a0 b1:aA):Option Int:=Tt n a0 b1
theorem ev42 (n:Nat):K2 C42 Uj (F42 n):=fun _ _ _ h=>ca (X:=x42) (akR n h)
def abM (r:Int):AV:=.int .i64 r
def Wh (r:Int):List (Nat×Bx):= []
def x12:=fx E0 Tryz.f12 [] []
def A12:=Ax x12 abM Wh
def C12:=Cx E0 12 abM Wh
def sM (bK t16:Wq3) (t17 t18:Int) (b2:ag):LS:=⟨[(1,.slx 55 5 (cy bK)),(2,.loc 2 0),(16,.slx 55 5 (cy t16)),(17,.int .i64 t17),(18,.int .i64 t18)],[(2,.flat 26 (bj b2))]⟩
def JF:LS:=⟨[],[]⟩
def AX (s0:ag) (bK:Wq3):LS:=⟨[(0,.agg (bj s0)),(1,.slx 55 5 (cy bK))],[]⟩
def Ic (k_1:Option Int) (back:Wf23) (n:Nat) (bK t16:Wq3) (t17 t18:Int) (b2:ag):Option Int:=
 if decide (t18<t17) then
 (idx t16 t18).bind fun x3=>if decide (x3.fOp<1) then
 some 1
 else
 if decide (3<x3.fOp) then
 some 1
 else
 if decide (x3.au<0) then
 some 1
 else
 if !decide (x3.au<(b2.ae.length:Int)) then
 some 1
 else
 (F40 n b2 x3.au).bind fun x35=>(F39 n x3.aq x35).bind fun x37=>if !x37 then
 some 270
 else
 (F41 n b2 x3).bind fun x43=>if !x43 then
 some 270
 else
 if decide (0<t18) then
 (idx bK (w64 (t18 - 1))).bind fun x53=>(F42 n x53 x3).bind fun x57=>if !decide (x57<0) then
 some 270
 else
 back bK t16 t17 (w64 (t18+1)) b2
 else
 back bK t16 t17 (w64 (t18+1)) b2
 else
 k_1
theorem alZ {k_1} (aD:K0 (A12 [1,1,1,1]) JF k_1) {back} (ay:K5 (A12 [0,1,0,1,1,1]) sM back) (n:Nat):K5 (A12 [0,1,0,1,1,1]) sM (Ic k_1 back n):=fun bK t16 t17 t18 b2 r h=>ie h (fun c0 h=>be h fun x3 hx3 h=>ie h (fun c1 h=>rr h [(0,eb c0),(1,R54.idx hx3),(6,eb c1)]) (fun c1 h=>ie h (fun c2 h=>rr h [(0,eb c0),(1,R54.idx hx3),(6,eb c1),(3,eb c2)]) (fun c2 h=>ie h (fun c3 h=>rr h [(0,eb c0),(1,R54.idx hx3),(6,eb c1),(3,eb c2),(4,eb c3)]) (fun c3 h=>ie h (fun c4 h=>rr h [(0,eb c0),(1,R54.idx hx3),(6,eb c1),(3,eb c2),(4,eb c3),(6,.eqv (R62.ax b2.ae)),(0,eb c4)]) (fun c4 h=>be h fun x35 m5 h=>be h fun x37 qt h=>ie h (fun c5 h=>rr h [(0,eb c0),(1,R54.idx hx3),(6,eb c1),(3,eb c2),(4,eb c3),(6,.eqv (R62.ax b2.ae)),(0,eb c4),(6,.call (cd (e:=3) (z:=false) (Q:=ba x35) (LI n m5) (R3.len x35)) [] [] []),(0,.call (Ej n qt) [.one .same,.one (.sx 0 0)] [] []),(0,eb c5)]) (fun c5 h=>be h fun x43 ue h=>ie h (fun c6 h=>rr h [(0,eb c0),(1,R54.idx hx3),(6,eb c1),(3,eb c2),(4,eb c3),(6,.eqv (R62.ax b2.ae)),(0,eb c4),(6,.call (cd (e:=3) (z:=false) (Q:=ba x35) (LI n m5) (R3.len x35)) [] [] []),(0,.call (Ej n qt) [.one .same,.one (.sx 0 0)] [] []),(0,eb c5),(3,.call (RO n ue) [] [] []),(0,eb c6)]) (fun c6 h=>ie h (fun c7 h=>be h fun x53 Rp h=>be h fun x57 Lg h=>ie h (fun c8 h=>rr h [(0,eb c0),(1,R54.idx hx3),(6,eb c1),(3,eb c2),(4,eb c3),(6,.eqv (R62.ax b2.ae)),(0,eb c4),(6,.call (cd (e:=3) (z:=false) (Q:=ba x35) (LI n m5) (R3.len x35)) [] [] []),(0,.call (Ej n qt) [.one .same,.one (.sx 0 0)] [] []),(0,eb c5),(3,.call (RO n ue) [] [] []),(0,eb c6),(2,eb c7),(4,R54.idx Rp),(2,.call (ev42 n Lg) [] [] []),(0,eb c8)]) (fun c8 h=>ra (ay h) [(0,eb c0),(1,R54.idx hx3),(6,eb c1),(3,eb c2),(4,eb c3),(6,.eqv (R62.ax b2.ae)),(0,eb c4),(6,.call (cd (e:=3) (z:=false) (Q:=ba x35) (LI n m5) (R3.len x35)) [] [] []),(0,.call (Ej n qt) [.one .same,.one (.sx 0 0)] [] []),(0,eb c5),(3,.call (RO n ue) [] [] []),(0,eb c6),(2,eb c7),(4,R54.idx Rp),(2,.call (ev42 n Lg) [] [] []),(0,eb c8)])) (fun c7 h=>ra (ay h) [(0,eb c0),(1,R54.idx hx3),(6,eb c1),(3,eb c2),(4,eb c3),(6,.eqv (R62.ax b2.ae)),(0,eb c4),(6,.call (cd (e:=3) (z:=false) (Q:=ba x35) (LI n m5) (R3.len x35)) [] [] []),(0,.call (Ej n qt) [.one .same,.one (.sx 0 0)] [] []),(0,eb c5),(3,.call (RO n ue) [] [] []),(0,eb c6),(2,eb c7)])))))))) (fun c0 h=>ra (aD h) [(0,eb c0)])
def yN (k_1:Option Int):Nat->Wq3->Wq3->Int->Int->ag->Option Int
 |0,_,_,_,_,_=>none
 |n+1,bK,t16,t17,t18,b2=>Ic k_1 (yN k_1 n) n bK t16 t17 t18 b2
theorem ada {k_1} (aD:K0 (A12 [1,1,1,1]) JF k_1):∀n:Nat,K5 (A12 [0,1,0,1,1,1]) sM (yN k_1 n)
 |0=>fun _ _ _ _ _ _ h=>nz h
 |n+1=>fun _ _ _ _ _ _ h=>alZ aD (ada aD n) n h
def Ib (n:Nat):Option Int:=
 some 0
theorem alY (n:Nat):K0 (A12 [1,1,1,1]) JF (Ib n):=fun r h=>rr h []
def TP (n:Nat) (s0:ag) (bK:Wq3):Option Int:=
 (F38 n s0).bind fun x4=>if x4 !=0 then
 some x4
 else
 if decide (64<(bK.length:Int)) then
 some 2
 else
 yN (Ib n) n bK bK (bK.length:Int) 0 s0
theorem alX (n:Nat):K2 (A12 []) AX (TP n):=fun s0 bK r h=>be h fun x4 hx4 h=>ie h (fun c0 h=>rr h [(3,.call (wE n hx4) [] [] []),(2,eb c0)]) (fun c0 h=>ie h (fun c1 h=>rr h [(3,.call (wE n hx4) [] [] []),(2,eb c0),(1,.eqv (R54.ax bK)),(0,eb c1)]) (fun c1 h=>ra (ada (alY n) n h) [(3,.call (wE n hx4) [] [] []),(2,eb c0),(1,.eqv (R54.ax bK)),(0,eb c1),(1,.eqv (R54.ax bK))]))
def F12 (n:Nat) (s0:ag) (bK:Wq3):Option Int:=TP n s0 bK
theorem ZM (n:Nat):K2 C12 AX (F12 n):=fun _ _ _ h=>ca (X:=x12) (alX n h)
def abh (r:Int):AV:=.int .i64 r
def VM (r:Int):List (Nat×Bx):= []
def x57:=fx E0 Tryz.f57 [] []
def A57:=Ax x57 abh VM
def C57:=Cx E0 57 abh VM
def sH (n3:Int) (t7:Wq9) (t8 t9:Int):LS:=⟨[(3,.int .i64 n3),(7,.slx 66 1 (bN t7)),(8,.int .i64 t8),(9,.int .i64 t9)],[]⟩
def sG (n3:Int):LS:=⟨[(3,.int .i64 n3)],[]⟩
def sF (st0:ai):LS:=⟨[(0,.agg (dD st0))],[]⟩
def Hl (k_1:Wf5) (back:Int->Wq9->Int->Int->Option Int) (n:Nat) (n3:Int) (t7:Wq9) (t8 t9:Int):Option Int:=
 if decide (t9<t8) then
 (idx t7 t9).bind fun x2=>back (w64 (n3+(x2.length:Int))) t7 t8 (w64 (t9+1))
 else
 k_1 n3
theorem akq {k_1} (aD:K1 (A57 [1,1,1]) sG k_1) {back} (ay:K4 (A57 [0,1,0,1,1]) sH back) (n:Nat):K4 (A57 [0,1,0,1,1]) sH (Hl k_1 back n):=fun n3 t7 t8 t9 r h=>ie h (fun c0 h=>be h fun x2 hx2 h=>ra (ay h) [(0,eb c0),(0,R66.idx hx2),(4,.eqv (R42.ax x2))]) (fun c0 h=>ra (aD h) [(0,eb c0)])
def yv (k_1:Wf5):Nat->Int->Wq9->Int->Int->Option Int
 |0,_,_,_,_=>none
 |n+1,n3,t7,t8,t9=>Hl k_1 (yv k_1 n) n n3 t7 t8 t9
theorem acy {k_1} (aD:K1 (A57 [1,1,1]) sG k_1):∀n:Nat,K4 (A57 [0,1,0,1,1]) sH (yv k_1 n)
 |0=>fun _ _ _ _ _ h=>nz h
 |n+1=>fun _ _ _ _ _ h=>akq aD (acy aD n) n h
def Cr (n:Nat) (n3:Int):Option Int:=
 some n3
theorem akp (n:Nat):K1 (A57 [1,1,1]) sG (Cr n):=fun n3 r h=>rr h []
def Hk (n:Nat) (st0:ai):Option Int:=
 yv (Cr n) n 0 st0.ae (st0.ae.length:Int) 0
theorem ako (n:Nat):K1 (A57 []) sF (Hk n):=fun st0 r h=>ra (acy (akp n) n h) [(5,.eqv (R66.ax st0.ae))]
def F57 (n:Nat) (st0:ai):Option Int:=Hk n st0
theorem RM (n:Nat):K1 C57 sF (F57 n):=fun _ _ h=>ca (X:=x57) (ako n h)
def aaY (r:Int):AV:=.int .i64 r
def VD (r:Int):List (Nat×Bx):= []
def x69:=fx E0 Tryz.f69 [] []
def A69:=Ax x69 aaY VD
def C69:=Cx E0 69 aaY VD
def Ub (s0:ag) (bc:Int):LS:=⟨[(0,.agg (bj s0)),(1,.int .i64 bc)],[]⟩
def Tb (n:Nat) (s0:ag) (bc:Int):Option Int:=
 (F38 n s0).bind fun x4=>if x4 !=0 then
 some x4
 else
 if bc !=1 then
 if bc !=2 then
 if bc !=3 then
 some 1
 else
 some 0
 else
 some 0
 else
 some 0
theorem ajT (n:Nat):K2 (A69 []) Ub (Tb n):=fun s0 bc r h=>be h fun x4 hx4 h=>ie h (fun c0 h=>rr h [(3,.call (wE n hx4) [] [] []),(2,eb c0)]) (fun c0 h=>ie h (fun c1 h=>ie h (fun c2 h=>ie h (fun c3 h=>rr h [(3,.call (wE n hx4) [] [] []),(2,eb c0),(1,eb c1),(2,eb c2),(3,eb c3)]) (fun c3 h=>rr h [(3,.call (wE n hx4) [] [] []),(2,eb c0),(1,eb c1),(2,eb c2),(3,eb c3)])) (fun c2 h=>rr h [(3,.call (wE n hx4) [] [] []),(2,eb c0),(1,eb c1),(2,eb c2)])) (fun c1 h=>rr h [(3,.call (wE n hx4) [] [] []),(2,eb c0),(1,eb c1)]))
def F69 (n:Nat) (s0:ag) (bc:Int):Option Int:=Tb n s0 bc
theorem RL (n:Nat):K2 C69 Ub (F69 n):=fun _ _ _ h=>ca (X:=x69) (ajT n h)
def aaW (r:Wq2):AV:=.slx 65 3 (aN r)
def VB (r:Wq2):List (Nat×Bx):= []
def x71:=fx E0 Tryz.f71 [] []
def A71:=Ax x71 aaW VB
def C71:=Cx E0 71 aaW VB
def S9 (n:Nat) (s0:ag) (aE:Int) (cm:Wq2):Option Wq2:=
 if decide (aE<0) then
 some []
 else
 if !decide (aE<(s0.ae.length:Int)) then
 some []
 else
 (idx s0.ae aE).bind fun x16=>(cut cm none (some (if 0<(if (cm.length:Int)<x16.aq then (cm.length:Int) else x16.aq) then (if (cm.length:Int)<x16.aq then (cm.length:Int) else x16.aq) else 0))).bind fun x24=>some x24
theorem ajP (n:Nat):K3 (A71 []) sJ (S9 n):=fun s0 aE cm r h=>ie h (fun c0 h=>rr h [(3,eb c0),(3,.norm [(6,.one (.sx 65 3))] [])]) (fun c0 h=>ie h (fun c1 h=>rr h [(3,eb c0),(4,.eqv (R62.ax s0.ae)),(0,eb c1),(2,.norm [(6,.one (.sx 65 3))] [])]) (fun c1 h=>be h fun x16 de h=>be h fun x24 fZ h=>rr h [(3,eb c0),(4,.eqv (R62.ax s0.ae)),(0,eb c1),(5,R62.idx de),(3,.eqv (R64.ax cm)),(2,R64.cut fZ)]))
def F71 (n:Nat) (s0:ag) (aE:Int) (cm:Wq2):Option Wq2:=S9 n s0 aE cm
theorem RJ (n:Nat):K3 C71 sJ (F71 n):=fun _ _ _ _ h=>ca (X:=x71) (ajP n h)
def abE (r:Int):AV:=.int .i64 r
def V9 (r:Int):List (Nat×Bx):= []
def x28:=fx E0 Tryz.f28 [] []
def A28:=Ax x28 abE V9
def C28:=Cx E0 28 abE V9
def Jv (bc t8:Int) (oK:Wq8) (t29:Wq9) (t30 t31:Int) (t36:Wq8) (t37 t38:Int) (b3:ag):LS:=⟨[(1,.int .i64 bc),(3,.loc 3 0),(8,.int .i64 t8),(9,.slx 43 1 (bG oK)),(29,.slx 66 1 (bN t29)),(30,.int .i64 t30),(31,.int .i64 t31),(36,.slx 43 1 (bG t36)),(37,.int .i64 t37),(38,.int .i64 t38)],[(3,.flat 26 (bj b3))]⟩
def p7 (bc:Int) (t29:Wq9) (t30 t31:Int) (b3:ag):LS:=⟨[(1,.int .i64 bc),(3,.loc 3 0),(29,.slx 66 1 (bN t29)),(30,.int .i64 t30),(31,.int .i64 t31)],[(3,.flat 26 (bj b3))]⟩
def Ju:LS:=⟨[],[]⟩
def AS (s0:ag) (bc:Int) (st2:ai):LS:=⟨[(0,.agg (bj s0)),(1,.int .i64 bc),(2,.agg (dD st2))],[]⟩
def HX (k_1:wX) (back:Wf25) (n:Nat) (bc t8:Int) (oK:Wq8) (t29:Wq9) (t30 t31:Int) (t36:Wq8) (t37 t38:Int) (b3:ag):Option Int:=
 if decide (t38<t37) then
 (idx t36 t38).bind fun x3=>(F70 n b3 t8 x3 bc).bind fun x12=>if !x12 then
 some 80
 else
 if decide (0<t38) then
 (idx oK (w64 (t38 - 1))).bind fun x23=>(F71 n b3 t8 x23).bind fun x26=>(F71 n b3 t8 x3).bind fun x31=>(F52 n x26 x31).bind fun x33=>if !decide (x33<0) then
 some 80
 else
 back bc t8 oK t29 t30 t31 t36 t37 (w64 (t38+1)) b3
 else
 back bc t8 oK t29 t30 t31 t36 t37 (w64 (t38+1)) b3
 else
 k_1 bc t29 t30 t31 b3
theorem alB {k_1} (aD:K5 (A28 [1,1,1,0,0,1,0,1,1,1,1]) p7 k_1) {back} (ay:K10 (A28 [0,1,1,0,0,1,1,0,0,1,0,1,1,1,1]) Jv back) (n:Nat):K10 (A28 [0,1,1,0,0,1,1,0,0,1,0,1,1,1,1]) Jv (HX k_1 back n):=fun bc t8 oK t29 t30 t31 t36 t37 t38 b3 r h=>ie h (fun c0 h=>be h fun x3 hx3 h=>be h fun x12 cM h=>ie h (fun c1 h=>rr h [(0,eb c0),(1,R42.idx hx3),(7,.call (Eg n cM) [] [] []),(0,eb c1)]) (fun c1 h=>ie h (fun c2 h=>be h fun x23 eZ h=>be h fun x26 kb h=>be h fun x31 ou h=>be h fun x33 m6 h=>ie h (fun c3 h=>rr h [(0,eb c0),(1,R42.idx hx3),(7,.call (Eg n cM) [] [] []),(0,eb c1),(1,eb c2),(6,R42.idx eZ),(1,.call (RJ n kb) [] [] []),(3,.call (RJ n ou) [] [] []),(0,.call (Ei n m6) [] [] []),(0,eb c3)]) (fun c3 h=>ra (ay h) [(0,eb c0),(1,R42.idx hx3),(7,.call (Eg n cM) [] [] []),(0,eb c1),(1,eb c2),(6,R42.idx eZ),(1,.call (RJ n kb) [] [] []),(3,.call (RJ n ou) [] [] []),(0,.call (Ei n m6) [] [] []),(0,eb c3)])) (fun c2 h=>ra (ay h) [(0,eb c0),(1,R42.idx hx3),(7,.call (Eg n cM) [] [] []),(0,eb c1),(1,eb c2)]))) (fun c0 h=>ra (aD h) [(0,eb c0)])
def yI (k_1:wX):Nat->Int->Int->Wq8->Wq9->Int->Int->Wq8->Int->Int->ag->Option Int
 |0,_,_,_,_,_,_,_,_,_,_=>none
 |n+1,bc,t8,oK,t29,t30,t31,t36,t37,t38,b3=>HX k_1 (yI k_1 n) n bc t8 oK t29 t30 t31 t36 t37 t38 b3
theorem acS {k_1} (aD:K5 (A28 [1,1,1,0,0,1,0,1,1,1,1]) p7 k_1):∀n:Nat,K10 (A28 [0,1,1,0,0,1,1,0,0,1,0,1,1,1,1]) Jv (yI k_1 n)
 |0=>fun _ _ _ _ _ _ _ _ _ _ _ h=>nz h
 |n+1=>fun _ _ _ _ _ _ _ _ _ _ _ h=>alB aD (acS aD n) n h
def HW (k_2:wX) (n:Nat) (bc:Int) (t29:Wq9) (t30 t31:Int) (b3:ag):Option Int:=
 k_2 bc t29 t30 (w64 (t31+1)) b3
theorem alA {k_2} (bS:K5 (A28 [0,1,0,1,1,1,1]) p7 k_2) (n:Nat):K5 (A28 [1,1,1,0,0,1,0,1,1,1,1]) p7 (HW k_2 n):=fun bc t29 t30 t31 b3 r h=>ra (bS h) []
def HV (k_3:Option Int) (back:wX) (n:Nat) (bc:Int) (t29:Wq9) (t30 t31:Int) (b3:ag):Option Int:=
 if decide (t31<t30) then
 (idx t29 t31).bind fun x3=>yI (HW back n) n bc t31 x3 t29 t30 t31 x3 (x3.length:Int) 0 b3
 else
 k_3
theorem alz {k_3} (bu:K0 (A28 [1,1,1,1,1]) Ju k_3) {back} (ay:K5 (A28 [0,1,0,1,1,1,1]) p7 back) (n:Nat):K5 (A28 [0,1,0,1,1,1,1]) p7 (HV k_3 back n):=fun bc t29 t30 t31 b3 r h=>ie h (fun c0 h=>be h fun x3 hx3 h=>ra (acS (alA ay n) n h) [(0,eb c0),(1,R66.idx hx3),(4,.eqv (R42.ax x3))]) (fun c0 h=>ra (bu h) [(0,eb c0)])
def vh (k_3:Option Int):Nat->Int->Wq9->Int->Int->ag->Option Int
 |0,_,_,_,_,_=>none
 |n+1,bc,t29,t30,t31,b3=>HV k_3 (vh k_3 n) n bc t29 t30 t31 b3
theorem acR {k_3} (bu:K0 (A28 [1,1,1,1,1]) Ju k_3):∀n:Nat,K5 (A28 [0,1,0,1,1,1,1]) p7 (vh k_3 n)
 |0=>fun _ _ _ _ _ _ h=>nz h
 |n+1=>fun _ _ _ _ _ _ h=>alz bu (acR bu n) n h
def Cw (n:Nat):Option Int:=
 some 0
theorem aly (n:Nat):K0 (A28 [1,1,1,1,1]) Ju (Cw n):=fun r h=>rr h []
def TF (n:Nat) (s0:ag) (bc:Int) (st2:ai):Option Int:=
 (F69 n s0 bc).bind fun x6=>if x6 !=0 then
 some x6
 else
 (F57 n st2).bind fun x12=>if decide (512<x12) then
 some 2
 else
 if (st2.ae.length:Int) !=(s0.ae.length:Int) then
 some 80
 else
 vh (Cw n) n bc st2.ae (st2.ae.length:Int) 0 s0
theorem alx (n:Nat):K3 (A28 []) AS (TF n):=fun s0 bc st2 r h=>be h fun x6 hx6 h=>ie h (fun c0 h=>rr h [(5,.call (RL n hx6) [] [] []),(2,eb c0)]) (fun c0 h=>be h fun x12 cM h=>ie h (fun c1 h=>rr h [(5,.call (RL n hx6) [] [] []),(2,eb c0),(1,.call (RM n cM) [] [] []),(0,eb c1)]) (fun c1 h=>ie h (fun c2 h=>rr h [(5,.call (RL n hx6) [] [] []),(2,eb c0),(1,.call (RM n cM) [] [] []),(0,eb c1),(2,.eqv (R66.ax st2.ae)),(2,.eqv (R62.ax s0.ae)),(0,eb c2)]) (fun c2 h=>ra (acR (aly n) n h) [(5,.call (RL n hx6) [] [] []),(2,eb c0),(1,.call (RM n cM) [] [] []),(0,eb c1),(2,.eqv (R66.ax st2.ae)),(2,.eqv (R62.ax s0.ae)),(0,eb c2),(2,.eqv (R66.ax st2.ae))])))
def F28 (n:Nat) (s0:ag) (bc:Int) (st2:ai):Option Int:=TF n s0 bc st2
theorem ev28 (n:Nat):K3 C28 AS (F28 n):=fun _ _ _ _ h=>ca (X:=x28) (alx n h)
end Go.Proofs.YtmealahmjddpcaaGreatDoor
end
