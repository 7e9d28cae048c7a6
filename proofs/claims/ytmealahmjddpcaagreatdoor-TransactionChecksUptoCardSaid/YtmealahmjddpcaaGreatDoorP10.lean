/- Texts that belong together. The first: Functions of the program as plain functions, and that the program answers as they do; written by a program (comp2.py). -/
import Derived.Test.YtmealahmjddpcaaGreatDoorP9
import Derived.KernelRfl
import Derived.Test.YtmealahmjddpcaaGreatDoorP8
import Derived.IntWalk
set_option linter.all false
noncomputable section
set_option maxRecDepth 100000
namespace Go.Proofs.YtmealahmjddpcaaGreatDoor
open Go.Sim
def Ya (r:Bool):AV:=.bool r
def S3 (r:Bool):List (Nat×Bx):= []
def x39:=fx E0 Tryz.f39 [] []
def A39:=Ax x39 Ya S3
def C39:=Cx E0 39 Ya S3
def GQ (cZ:List Int) (t12:List aa) (t13 t14:Int):LS:=⟨[(1,.slice 3 1 (aR cZ)),(12,.slice 65 3 (aO t12)),(13,.int .i64 t13),(14,.int .i64 t14)],[]⟩
def GP:LS:=⟨[],[]⟩
def Rl (oj:List aa) (cZ:List Int):LS:=⟨[(0,.slice 65 3 (aO oj)),(1,.slice 3 1 (aR cZ))],[]⟩
def Fj (k_1 : Option Bool) (back : (List Int) → (List aa) → Int → Int → Option Bool) (n : Nat) (cZ : List Int) (t12 : List aa) (t13 t14 : Int) : Option Bool :=
 if decide (t14 < t13) then
 (idx t12 t14).bind fun x3 =>
 (F80 n x3).bind fun x10 =>
 if !x10 then
 some false
 else
 (idx cZ t14).bind fun x18 =>
 if x3.ar != x18 then
 some false
 else
 back cZ t12 t13 (w64 (t14 + 1))
 else
 k_1
theorem afX {k_1} (aH : K0 (A39 [1, 1, 1]) GP k_1) {back} (ay : K4 (A39 [0, 1, 0, 1, 1]) GQ back) (n : Nat) : K4 (A39 [0, 1, 0, 1, 1]) GQ (Fj k_1 back n) := fun cZ t12 t13 t14 r h =>
 ie h (fun c0 h =>
 be h fun x3 hx3 h =>
 be h fun x10 cx h =>
 ie h (fun c1 h =>
 rr h [(0, eb c0), (1, R64.idx hx3), (5, .call (IW n cx) [] [] []), (0, eb c1)]) (fun c1 h =>
 be h fun x18 g7 h =>
 ie h (fun c2 h =>
 rr h [(0, eb c0), (1, R64.idx hx3), (5, .call (IW n cx) [] [] []), (0, eb c1), (5, R3.idx g7), (1, eb c2)]) (fun c2 h =>
 ra (ay h) [(0, eb c0), (1, R64.idx hx3), (5, .call (IW n cx) [] [] []), (0, eb c1), (5, R3.idx g7), (1, eb c2)]))) (fun c0 h =>
 ra (aH h) [(0, eb c0)])
def wC (k_1:Option Bool):Nat→(List Int)→(List aa)→Int→Int→Option Bool
 |0,_,_,_,_=>none
 |n+1,cZ,t12,t13,t14=>Fj k_1 (wC k_1 n) n cZ t12 t13 t14
theorem YZ {k_1} (aH:K0 (A39 [1,1,1]) GP k_1):∀n:Nat,K4 (A39 [0,1,0,1,1]) GQ (wC k_1 n)
 |0=>fun _ _ _ _ _ h=>nz h
 |n+1=>fun _ _ _ _ _ h=>afX aH (YZ aH n) n h
def Fi (n : Nat) : Option Bool :=
 some true
theorem afW (n : Nat) : K0 (A39 [1, 1, 1]) GP (Fi n) := fun r h =>
 rr h []
def Qv (n : Nat) (oj : List aa) (cZ : List Int) : Option Bool :=
 if (oj.length : Int) != (cZ.length : Int) then
 some false
 else
 wC (Fi n) n cZ oj (oj.length : Int) 0
theorem afV (n : Nat) : K2 (A39 []) Rl (Qv n) := fun oj cZ r h =>
 ie h (fun c0 h =>
 rr h [(2, .eqv (R64.au oj)), (1, .eqv (R3.au cZ)), (0, eb c0)]) (fun c0 h =>
 ra (YZ (afW n) n h) [(2, .eqv (R64.au oj)), (1, .eqv (R3.au cZ)), (0, eb c0), (1, .eqv (R64.au oj))])
def F39 (n:Nat) (oj:List aa) (cZ:List Int):Option Bool:=Qv n oj cZ
theorem Cv (n:Nat):K2 C39 Rl (F39 n):=fun _ _ _ h=>ca (X:=x39) (afV n h)
def X9 (r:(List Int)):AV:=.ms 200000 1 0 r.length
def S2 (r:(List Int)):List (Nat×Bx):= [(200000,.rows false 3 1 (aR r))]
def x40:=fx E0 Tryz.f40 [] [200000]
def A40:=Ax x40 X9 S2
def C40:=Cx E0 40 X9 S2
def Rk (s0:J) (aA:Int):LS:=⟨[(0,.agg (aX s0)),(1,.int .i64 aA)],[]⟩
def Qr (n : Nat) (s0 : J) (aA : Int) : Option (List Int) :=
 (F78 n s0 aA).bind fun x5 =>
 (F81 n s0 aA).bind fun x10 =>
 if !x10 then
 some []
 else
 (idx s0.ae aA).bind fun x17 =>
 if decide (x17.az < 0) then
 some []
 else
 (idx s0.ae aA).bind fun x27 =>
 (gO x5.length (if (x5.length : Int) < x27.az then (x5.length : Int) else x27.az)).bind fun x34 =>
 some (x5.take x34)
theorem afU (n : Nat) : K2 (A40 []) Rk (Qr n) := fun s0 aA r h =>
 be h fun x5 hx5 h =>
 be h fun x10 cx h =>
 ie h (fun c0 h =>
 rr h [(4, .call (IX n hx5) [] [] [(8, 200000)]), (3, .call (oR n cx) [] [] []), (0, eb c0), (3, .born [4] [] 200000 false 3 1)]) (fun c0 h =>
 be h fun x17 fX h =>
 ie h (fun c1 h =>
 rr h [(4, .call (IX n hx5) [] [] [(8, 200000)]), (3, .call (oR n cx) [] [] []), (0, eb c0), (4, R62.idx fX), (2, eb c1), (2, .born [4] [] 200000 false 3 1)]) (fun c1 h =>
 be h fun x27 xW h =>
 be h fun x34 ss h =>
 rr h [(4, .call (IX n hx5) [] [] [(8, 200000)]), (3, .call (oR n cx) [] [] []), (0, eb c0), (4, R62.idx fX), (2, eb c1), (5, R62.idx xW), (5, R3.gO (xs := x5) ss (Nat.le_of_eq rfl)), (1, .ren 8 200000), (0, .shr 200000 (R3.take x5 x34)), (0, .seq 4 (congrArg (fun n_ => (AV.ms 200000 1 0 n_)) ((tI (xs := x5) (Nat.le_trans (jA ss).2 (Nat.le_of_eq rfl))).symm)))]))
def F40 (n:Nat) (s0:J) (aA:Int):Option (List Int):=Qr n s0 aA
theorem IZ (n:Nat):K2 C40 Rk (F40 n):=fun _ _ _ h=>ca (X:=x40) (afU n h)
def RW (r:Bool):AV:=.bool r
def L9 (r:Bool):List (Nat×Bx):= []
def x137:=fx E0 Tryz.f137 [] []
def A137:=Ax x137 RW L9
def C137:=Cx E0 137 RW L9
def LF (x0:Int):LS:=⟨[(0,.int .i64 x0)],[]⟩
def Kk (n : Nat) (x0 : Int) : Option Bool :=
 some (x0 != x0)
theorem acb (n : Nat) : K1 (A137 []) LF (Kk n) := fun x0 r h =>
 rr h []
def PV (n:Nat) (x0:Int):Option Bool:=Kk n x0
theorem kq (n:Nat):K1 C137 LF (PV n):=fun _ _ h=>ca (X:=x137) (acb n h)
def R2 (r:Int):AV:=.int .i64 r
def Mg (r:Int):List (Nat×Bx):= []
def x121:=fx E0 Tryz.f121 [] []
def A121:=Ax x121 R2 Mg
def C121:=Cx E0 121 R2 Mg
def LL (x0 y1:Int):LS:=⟨[(0,.int .i64 x0),(1,.int .i64 y1)],[]⟩
def Kq (n : Nat) (x0 y1 : Int) : Option Int :=
 (PV n x0).bind fun x3 =>
 (PV n y1).bind fun x7 =>
 if x3 then
 if x7 then
 some 0
 else
 some (-1)
 else
 if x7 then
 some 1
 else
 if decide (x0 < y1) then
 some (-1)
 else
 if decide (y1 < x0) then
 some 1
 else
 some 0
theorem aci (n : Nat) : K2 (A121 []) LL (Kq n) := fun x0 y1 r h =>
 be h fun x3 hx3 h =>
 be h fun x7 hx7 h =>
 ie h (fun c0 g0 => by subst c0; exact (
 ie g0 (fun c1 g1 => by subst c1; exact (
 rr g1 [(2, .call (kq n hx3) [] [] []), (2, .call (kq n hx7) [] [] [])])) (fun c1 g1 => by subst c1; exact (
 rr g1 [(2, .call (kq n hx3) [] [] []), (2, .call (kq n hx7) [] [] [])])))) (fun c0 g0 => by subst c0; exact (
 ie g0 (fun c1 g1 => by subst c1; exact (
 rr g1 [(2, .call (kq n hx3) [] [] []), (2, .call (kq n hx7) [] [] [])])) (fun c1 g1 => by subst c1; exact (
 ie g1 (fun c2 g1 =>
 rr g1 [(2, .call (kq n hx3) [] [] []), (2, .call (kq n hx7) [] [] []), (5, eb c2)]) (fun c2 g1 =>
 ie g1 (fun c3 g1 =>
 rr g1 [(2, .call (kq n hx3) [] [] []), (2, .call (kq n hx7) [] [] []), (5, eb c2), (2, eb c3)]) (fun c3 g1 =>
 rr g1 [(2, .call (kq n hx3) [] [] []), (2, .call (kq n hx7) [] [] []), (5, eb c2), (2, eb c3)]))))))
def PX (n:Nat) (x0 y1:Int):Option Int:=Kq n x0 y1
theorem O3 (n:Nat):K2 C121 LL (PX n):=fun _ _ _ h=>ca (X:=x121) (aci n h)
def RV (r:Bool):AV:=.bool r
def L8 (r:Bool):List (Nat×Bx):= []
def x138:=fx E0 Tryz.f138 [] []
def A138:=Ax x138 RV L8
def C138:=Cx E0 138 RV L8
def LD (x0:Int):LS:=⟨[(0,.int .i64 x0)],[]⟩
def Kj (n : Nat) (x0 : Int) : Option Bool :=
 some (x0 != x0)
theorem aca (n : Nat) : K1 (A138 []) LD (Kj n) := fun x0 r h =>
 rr h []
def PU (n:Nat) (x0:Int):Option Bool:=Kj n x0
theorem kn (n:Nat):K1 C138 LD (PU n):=fun _ _ h=>ca (X:=x138) (aca n h)
def R1 (r:Int):AV:=.int .i64 r
def Mf (r:Int):List (Nat×Bx):= []
def x122:=fx E0 Tryz.f122 [] []
def A122:=Ax x122 R1 Mf
def C122:=Cx E0 122 R1 Mf
def LK (x0 y1:Int):LS:=⟨[(0,.int .i64 x0),(1,.int .i64 y1)],[]⟩
def Kp (n : Nat) (x0 y1 : Int) : Option Int :=
 (PU n x0).bind fun x3 =>
 (PU n y1).bind fun x7 =>
 if x3 then
 if x7 then
 some 0
 else
 some (-1)
 else
 if x7 then
 some 1
 else
 if decide (x0 < y1) then
 some (-1)
 else
 if decide (y1 < x0) then
 some 1
 else
 some 0
theorem ach (n : Nat) : K2 (A122 []) LK (Kp n) := fun x0 y1 r h =>
 be h fun x3 hx3 h =>
 be h fun x7 hx7 h =>
 ie h (fun c0 g0 => by subst c0; exact (
 ie g0 (fun c1 g1 => by subst c1; exact (
 rr g1 [(2, .call (kn n hx3) [] [] []), (2, .call (kn n hx7) [] [] [])])) (fun c1 g1 => by subst c1; exact (
 rr g1 [(2, .call (kn n hx3) [] [] []), (2, .call (kn n hx7) [] [] [])])))) (fun c0 g0 => by subst c0; exact (
 ie g0 (fun c1 g1 => by subst c1; exact (
 rr g1 [(2, .call (kn n hx3) [] [] []), (2, .call (kn n hx7) [] [] [])])) (fun c1 g1 => by subst c1; exact (
 ie g1 (fun c2 g1 =>
 rr g1 [(2, .call (kn n hx3) [] [] []), (2, .call (kn n hx7) [] [] []), (5, eb c2)]) (fun c2 g1 =>
 ie g1 (fun c3 g1 =>
 rr g1 [(2, .call (kn n hx3) [] [] []), (2, .call (kn n hx7) [] [] []), (5, eb c2), (2, eb c3)]) (fun c3 g1 =>
 rr g1 [(2, .call (kn n hx3) [] [] []), (2, .call (kn n hx7) [] [] []), (5, eb c2), (2, eb c3)]))))))
def PW (n:Nat) (x0 y1:Int):Option Int:=Kp n x0 y1
theorem Zs (n:Nat):K2 C122 LK (PW n):=fun _ _ _ h=>ca (X:=x122) (ach n h)
def RU (r:Int):AV:=.int .i64 r
def L7 (r:Int):List (Nat×Bx):= []
def x139:=fx E0 Tryz.f139 [] []
def A139:=Ax x139 RU L7
def C139:=Cx E0 139 RU L7
def LC (a0 b1:ByteArray):LS:=⟨[(0,.str a0),(1,.str b1)],[]⟩
def Ki (n : Nat) (a0 b1 : ByteArray) : Option Int :=
 (PS n a0 b1).bind fun x4 =>
 some x4
theorem abZ (n : Nat) : K2 (A139 []) LC (Ki n) := fun a0 b1 r h =>
 be h fun x4 hx4 h =>
 rr h [(3, .call (aem n hx4) [] [] [])]
def Xs (n:Nat) (a0 b1:ByteArray):Option Int:=Ki n a0 b1
theorem aen (n:Nat):K2 C139 LC (Xs n):=fun _ _ _ h=>ca (X:=x139) (abZ n h)
def R0 (r:Int):AV:=.int .i64 r
def Me (r:Int):List (Nat×Bx):= []
def x123:=fx E0 Tryz.f123 [] []
def A123:=Ax x123 R0 Me
def C123:=Cx E0 123 R0 Me
def LJ (a0 b1:ByteArray):LS:=⟨[(0,.str a0),(1,.str b1)],[]⟩
def Ko (n : Nat) (a0 b1 : ByteArray) : Option Int :=
 (Xs n a0 b1).bind fun x4 =>
 some x4
theorem acg (n : Nat) : K2 (A123 []) LJ (Ko n) := fun a0 b1 r h =>
 be h fun x4 hx4 h =>
 rr h [(3, .call (aen n hx4) [] [] [])]
def Xt (n:Nat) (a0 b1:ByteArray):Option Int:=Ko n a0 b1
theorem aeo (n:Nat):K2 C123 LJ (Xt n):=fun _ _ _ h=>ca (X:=x123) (acg n h)
def XH (r:Int):AV:=.int .i64 r
def Sw (r:Int):List (Nat×Bx):= []
def x95:=fx E0 Tryz.f95 [] []
def A95:=Ax x95 XH Sw
def C95:=Cx E0 95 XH Sw
def QQ (a0 b1:aa):LS:=⟨[(0,.agg (gd a0)),(1,.agg (gd b1))],[]⟩
def P5 (n : Nat) (a0 b1 : aa) : Option Int :=
 if ((a0.ar == b1.ar) && ((a0.bL == b1.bL) && ((decide (a0.bj = b1.bj)) && true))) then
 some 0
 else
 (PX n a0.ar b1.ar).bind fun x11 =>
 if x11 != 0 then
 some x11
 else
 (PW n a0.bL b1.bL).bind fun x20 =>
 if x20 != 0 then
 some x20
 else
 (Xt n a0.bj b1.bj).bind fun x29 =>
 some x29
theorem aev (n : Nat) : K2 (A95 []) QQ (P5 n) := fun a0 b1 r h =>
 ie h (fun c0 h =>
 rr h [(5, eb c0)]) (fun c0 h =>
 be h fun x11 cF h =>
 ie h (fun c1 h =>
 rr h [(5, eb c0), (4, .call (O3 n cF) [] [] []), (2, eb c1)]) (fun c1 h =>
 be h fun x20 lx h =>
 ie h (fun c2 h =>
 rr h [(5, eb c0), (4, .call (O3 n cF) [] [] []), (2, eb c1), (4, .call (Zs n lx) [] [] []), (2, eb c2)]) (fun c2 h =>
 be h fun x29 Cl h =>
 rr h [(5, eb c0), (4, .call (O3 n cF) [] [] []), (2, eb c1), (4, .call (Zs n lx) [] [] []), (2, eb c2), (4, .call (aeo n Cl) [] [] [])])))
def F95 (n:Nat) (a0 b1:aa):Option Int:=P5 n a0 b1
theorem ev95 (n:Nat):K2 C95 QQ (F95 n):=fun _ _ _ h=>ca (X:=x95) (aev n h)
def XI (r:Int):AV:=.int .i64 r
def Sx (r:Int):List (Nat×Bx):= []
def x94:=fx E0 Tryz.f94 [] []
def A94:=Ax x94 XI Sx
def C94:=Cx E0 94 XI Sx
def F4 (s10 s21 t11:List aa) (t12 t13:Int):LS:=⟨[(0,.slice 65 3 (aO s10)),(1,.slice 65 3 (aO s21)),(2,.fn 95 [] []),(11,.slice 65 3 (aO t11)),(12,.int .i64 t12),(13,.int .i64 t13)],[]⟩
def F0 (s10 s21:List aa):LS:=⟨[(0,.slice 65 3 (aO s10)),(1,.slice 65 3 (aO s21))],[]⟩
def QR (s10 s21:List aa):LS:=⟨[(0,.slice 65 3 (aO s10)),(1,.slice 65 3 (aO s21)),(2,.fn 95 [] [])],[]⟩
def Ey (k_1 : (List aa) → (List aa) → Option Int) (back : (List aa) → (List aa) → (List aa) → Int → Int → Option Int) (n : Nat) (s10 s21 t11 : List aa) (t12 t13 : Int) : Option Int :=
 if decide (t13 < t12) then
 (idx t11 t13).bind fun x3 =>
 if !decide (t13 < (s21.length : Int)) then
 some 1
 else
 (idx s21 t13).bind fun x15 =>
 (F95 n x3 x15).bind fun x23 =>
 if x23 != 0 then
 some x23
 else
 back s10 s21 t11 t12 (w64 (t13 + 1))
 else
 k_1 s10 s21
theorem aey {k_1} (aH : K2 (A94 [1, 1]) F0 k_1) {back} (ay : K5 (A94 [0, 1, 0, 1]) F4 back) (n : Nat) : K5 (A94 [0, 1, 0, 1]) F4 (Ey k_1 back n) := fun s10 s21 t11 t12 t13 r h =>
 ie h (fun c0 h =>
 be h fun x3 hx3 h =>
 ie h (fun c1 h =>
 rr h [(0, eb c0), (1, R64.idx hx3), (6, .eqv (R64.au s21)), (0, eb c1)]) (fun c1 h =>
 be h fun x15 cV h =>
 be h fun x23 fV h =>
 ie h (fun c2 h =>
 rr h [(0, eb c0), (1, R64.idx hx3), (6, .eqv (R64.au s21)), (0, eb c1), (2, R64.idx cV), (6, .call (ev95 n fV) [] [] []), (2, eb c2)]) (fun c2 h =>
 ra (ay h) [(0, eb c0), (1, R64.idx hx3), (6, .eqv (R64.au s21)), (0, eb c1), (2, R64.idx cV), (6, .call (ev95 n fV) [] [] []), (2, eb c2)]))) (fun c0 h =>
 ra (aH h) [(0, eb c0)])
def s9 (k_1:(List aa)→(List aa)→Option Int):Nat→(List aa)→(List aa)→(List aa)→Int→Int→Option Int
 |0,_,_,_,_,_=>none
 |n+1,s10,s21,t11,t12,t13=>Ey k_1 (s9 k_1 n) n s10 s21 t11 t12 t13
theorem YA {k_1} (aH:K2 (A94 [1,1]) F0 k_1):∀n:Nat,K5 (A94 [0,1,0,1]) F4 (s9 k_1 n)
 |0=>fun _ _ _ _ _ _ h=>nz h
 |n+1=>fun _ _ _ _ _ _ h=>aey aH (YA aH n) n h
def AB (n : Nat) (s10 s21 : List aa) : Option Int :=
 if decide ((s10.length : Int) < (s21.length : Int)) then
 some (-1)
 else
 some 0
theorem aex (n : Nat) : K2 (A94 [1, 1]) F0 (AB n) := fun s10 s21 r h =>
 ie h (fun c0 h =>
 rr h [(1, .eqv (R64.au s10)), (1, .eqv (R64.au s21)), (0, eb c0)]) (fun c0 h =>
 rr h [(1, .eqv (R64.au s10)), (1, .eqv (R64.au s21)), (0, eb c0)])
def ZK (n : Nat) (s10 s21 : List aa) : Option Int :=
 s9 (AB n) n s10 s21 s10 (s10.length : Int) 0
theorem aew (n : Nat) : K2 (A94 []) QR (ZK n) := fun s10 s21 r h =>
 ra (YA (aex n) n h) [(2, .eqv (R64.au s10))]
def F94 (n:Nat) (s10 s21:List aa):Option Int:=ZK n s10 s21
theorem ev94 (n:Nat):K2 C94 QR (F94 n):=fun _ _ _ h=>ca (X:=x94) (aew n h)
def X3 (r:Int):AV:=.int .i64 r
def SW (r:Int):List (Nat×Bx):= []
def x52:=fx E0 Tryz.f52 [] []
def A52:=Ax x52 X3 SW
def C52:=Cx E0 52 X3 SW
def Rf (a0 b1:List aa):LS:=⟨[(0,.slice 65 3 (aO a0)),(1,.slice 65 3 (aO b1))],[]⟩
def ZO (n : Nat) (a0 b1 : List aa) : Option Int :=
 (F94 n a0 b1).bind fun x4 =>
 some x4
theorem afB (n : Nat) : K2 (A52 []) Rf (ZO n) := fun a0 b1 r h =>
 be h fun x4 hx4 h =>
 rr h [(3, .call (ev94 n hx4) [] [] [])]
def F52 (n:Nat) (a0 b1:List aa):Option Int:=ZO n a0 b1
theorem ev52 (n:Nat):K2 C52 Rf (F52 n):=fun _ _ _ h=>ca (X:=x52) (afB n h)
def X0 (r:Bool):AV:=.bool r
def SR (r:Bool):List (Nat×Bx):= []
def x70:=fx E0 Tryz.f70 [] []
def A70:=Ax x70 X0 SR
def C70:=Cx E0 70 X0 SR
def abj (aG i10:Int) (gz pH:Bool) (t41:List aa) (t42 t43:Int) (b9:aj) (b11:aa):LS:=⟨[(3,.int .i64 aG),(9,.loc 9 0),(10,.int .i64 i10),(11,.loc 11 0),(12,.bool gz),(13,.bool pH),(41,.slice 65 3 (aO t41)),(42,.int .i64 t42),(43,.int .i64 t43)],[(9,.flat 63 (dX b9)),(11,.flat 65 (gd b11))]⟩
def abi (aG i10:Int) (gz:Bool) (t41:List aa) (t42 t43:Int) (b9:aj) (b11:aa):LS:=⟨[(3,.int .i64 aG),(9,.loc 9 0),(10,.int .i64 i10),(11,.loc 11 0),(12,.bool gz),(41,.slice 65 3 (aO t41)),(42,.int .i64 t42),(43,.int .i64 t43)],[(9,.flat 63 (dX b9)),(11,.flat 65 (gd b11))]⟩
def tM (aG:Int) (t41:List aa) (t42 t43:Int) (b9:aj):LS:=⟨[(3,.int .i64 aG),(9,.loc 9 0),(41,.slice 65 3 (aO t41)),(42,.int .i64 t42),(43,.int .i64 t43)],[(9,.flat 63 (dX b9))]⟩
def GA:LS:=⟨[],[]⟩
def abh (aA:Int) (cf:List aa) (aG:Int) (t29:Bool) (b4:J):LS:=⟨[(1,.int .i64 aA),(2,.slice 65 3 (aO cf)),(3,.int .i64 aG),(4,.loc 4 0),(29,.bool t29)],[(4,.flat 26 (aX b4))]⟩
def Rb (s0:J) (aA:Int) (cf:List aa) (aG:Int):LS:=⟨[(0,.agg (aX s0)),(1,.int .i64 aA),(2,.slice 65 3 (aO cf)),(3,.int .i64 aG)],[]⟩
def AJ (k_2 : Int → (List aa) → Int → Int → aj → Option Bool) (n : Nat) (aG i10 : Int) (gz pH : Bool) (t41 : List aa) (t42 t43 : Int) (b9 : aj) (b11 : aa) : Option Bool :=
 (idx b9.af i10).bind fun x6 =>
 if b11.ar != x6.ar then
 if !gz then
 if !pH then
 some false
 else
 k_2 aG t41 t42 (w64 (t43 + 1)) b9
 else
 k_2 aG t41 t42 (w64 (t43 + 1)) b9
 else
 k_2 aG t41 t42 (w64 (t43 + 1)) b9
theorem PF {k_2} (bW : K5 (A70 [0, 1, 0, 1, 1, 1, 1]) tM k_2) (n : Nat) : K9 (A70 [1, 1, 1, 1, 0, 0, 1, 1, 0, 0, 1, 0, 1, 1, 1, 1]) abj (AJ k_2 n) := fun aG i10 gz pH t41 t42 t43 b9 b11 r h =>
 be h fun x6 hx6 h =>
 ie h (fun c0 h =>
 ie h (fun c1 h =>
 ie h (fun c2 h =>
 rr h [(5, R76.idx hx6), (2, eb c0), (2, eb c1), (3, eb c2)]) (fun c2 h =>
 ra (bW h) [(5, R76.idx hx6), (2, eb c0), (2, eb c1), (3, eb c2)])) (fun c1 h =>
 ra (bW h) [(5, R76.idx hx6), (2, eb c0), (2, eb c1)])) (fun c0 h =>
 ra (bW h) [(5, R76.idx hx6), (2, eb c0)])
def wS (k_2 : Int → (List aa) → Int → Int → aj → Option Bool) (n : Nat) (aG i10 : Int) (gz : Bool) (t41 : List aa) (t42 t43 : Int) (b9 : aj) (b11 : aa) : Option Bool :=
 if b11.ar == 1 then
 if aG == 3 then
 AJ k_2 n aG i10 gz (!decide (i10 < b9.az)) t41 t42 t43 b9 b11
 else
 AJ k_2 n aG i10 gz false t41 t42 t43 b9 b11
 else
 AJ k_2 n aG i10 gz false t41 t42 t43 b9 b11
theorem PE {k_2} (bW : K5 (A70 [0, 1, 0, 1, 1, 1, 1]) tM k_2) (n : Nat) : K8 (A70 [1, 1, 1, 0, 0, 1, 1, 0, 0, 1, 0, 1, 1, 1, 1]) abi (wS k_2 n) := fun aG i10 gz t41 t42 t43 b9 b11 r h =>
 ie h (fun c0 h =>
 ie h (fun c1 h =>
 ra (PF bW n h) [(2, eb c0), (2, eb c1)]) (fun c1 h =>
 ra (PF bW n h) [(2, eb c0), (2, eb c1)])) (fun c0 h =>
 ra (PF bW n h) [(2, eb c0)])
def E3 (k_3 : Option Bool) (back : Int → (List aa) → Int → Int → aj → Option Bool) (n : Nat) (aG : Int) (t41 : List aa) (t42 t43 : Int) (b9 : aj) : Option Bool :=
 if decide (t43 < t42) then
 (idx t41 t43).bind fun x3 =>
 (P3 n x3).bind fun x10 =>
 if !x10 then
 some false
 else
 if x3.ar == 2 then
 if aG != 1 then
 wS back n aG t43 (!decide (t43 < b9.az)) t41 t42 t43 b9 x3
 else
 wS back n aG t43 false t41 t42 t43 b9 x3
 else
 wS back n aG t43 false t41 t42 t43 b9 x3
 else
 k_3
theorem afy {k_3} (bE : K0 (A70 [1, 1, 1, 1, 1]) GA k_3) {back} (ay : K5 (A70 [0, 1, 0, 1, 1, 1, 1]) tM back) (n : Nat) : K5 (A70 [0, 1, 0, 1, 1, 1, 1]) tM (E3 k_3 back n) := fun aG t41 t42 t43 b9 r h =>
 ie h (fun c0 h =>
 be h fun x3 hx3 h =>
 be h fun x10 cx h =>
 ie h (fun c1 h =>
 rr h [(0, eb c0), (1, R64.idx hx3), (5, .call (sL n cx) [] [] []), (0, eb c1)]) (fun c1 h =>
 ie h (fun c2 h =>
 ie h (fun c3 h =>
 ra (PE ay n h) [(0, eb c0), (1, R64.idx hx3), (5, .call (sL n cx) [] [] []), (0, eb c1), (2, eb c2), (2, eb c3)]) (fun c3 h =>
 ra (PE ay n h) [(0, eb c0), (1, R64.idx hx3), (5, .call (sL n cx) [] [] []), (0, eb c1), (2, eb c2), (2, eb c3)])) (fun c2 h =>
 ra (PE ay n h) [(0, eb c0), (1, R64.idx hx3), (5, .call (sL n cx) [] [] []), (0, eb c1), (2, eb c2)]))) (fun c0 h =>
 ra (bE h) [(0, eb c0)])
def qg (k_3:Option Bool):Nat→Int→(List aa)→Int→Int→aj→Option Bool
 |0,_,_,_,_,_=>none
 |n+1,aG,t41,t42,t43,b9=>E3 k_3 (qg k_3 n) n aG t41 t42 t43 b9
theorem YR {k_3} (bE:K0 (A70 [1,1,1,1,1]) GA k_3):∀n:Nat,K5 (A70 [0,1,0,1,1,1,1]) tM (qg k_3 n)
 |0=>fun _ _ _ _ _ _ h=>nz h
 |n+1=>fun _ _ _ _ _ _ h=>afy bE (YR bE n) n h
def wR (n : Nat) : Option Bool :=
 some true
theorem afx (n : Nat) : K0 (A70 [1, 1, 1, 1, 1]) GA (wR n) := fun r h =>
 rr h []
def wQ (n : Nat) (aA : Int) (cf : List aa) (aG : Int) (t29 : Bool) (b4 : J) : Option Bool :=
 if t29 then
 some false
 else
 (idx b4.ae aA).bind fun x4 =>
 if (cf.length : Int) != (x4.af.length : Int) then
 some false
 else
 qg (wR n) n aG cf (cf.length : Int) 0 x4
theorem Eu (n : Nat) : K5 (A70 [1, 0, 1]) abh (wQ n) := fun aA cf aG t29 b4 r h =>
 ie h (fun c0 g0 => by subst c0; exact (
 rr g0 [])) (fun c0 g0 => by subst c0; exact (
 be g0 fun x4 hx4 g0 =>
 ie g0 (fun c1 g0 =>
 rr g0 [(3, R62.idx hx4), (4, .eqv (R64.au cf)), (2, .eqv (R76.au x4.af)), (0, eb c1)]) (fun c1 g0 =>
 ra (YR (afx n) n g0) [(3, R62.idx hx4), (4, .eqv (R64.au cf)), (2, .eqv (R76.au x4.af)), (0, eb c1), (1, .eqv (R64.au cf))])))
def Qk (n : Nat) (s0 : J) (aA : Int) (cf : List aa) (aG : Int) : Option Bool :=
 if aG != 1 then
 if aG != 2 then
 if aG != 3 then
 wQ n aA cf aG true s0
 else
 (F81 n s0 aA).bind fun x16 =>
 wQ n aA cf aG (!x16) s0
 else
 (F81 n s0 aA).bind fun x14 =>
 wQ n aA cf aG (!x14) s0
 else
 (F81 n s0 aA).bind fun x12 =>
 wQ n aA cf aG (!x12) s0
theorem afw (n : Nat) : K4 (A70 []) Rb (Qk n) := fun s0 aA cf aG r h =>
 ie h (fun c0 h =>
 ie h (fun c1 h =>
 ie h (fun c2 h =>
 ra (Eu n h) [(3, eb c0), (2, eb c1), (3, eb c2)]) (fun c2 h =>
 be h fun x16 dG h =>
 ra (Eu n h) [(3, eb c0), (2, eb c1), (3, eb c2), (4, .call (oR n dG) [] [] [])])) (fun c1 h =>
 be h fun x14 gN h =>
 ra (Eu n h) [(3, eb c0), (2, eb c1), (6, .call (oR n gN) [] [] [])])) (fun c0 h =>
 be h fun x12 eA h =>
 ra (Eu n h) [(3, eb c0), (7, .call (oR n eA) [] [] [])])
def F70 (n:Nat) (s0:J) (aA:Int) (cf:List aa) (aG:Int):Option Bool:=Qk n s0 aA cf aG
theorem ev70 (n:Nat):K4 C70 Rb (F70 n):=fun _ _ _ _ _ h=>ca (X:=x70) (afw n h)
def XP (r:(List aa)):AV:=.ms 200000 3 0 r.length
def SE (r:(List aa)):List (Nat×Bx):= [(200000,.rows false 65 3 (aO r))]
def x82:=fx E0 Tryz.f82 [] [200000]
def A82:=Ax x82 XP SE
def C82:=Cx E0 82 XP SE
def QZ (s0:J) (aA:Int) (cf:List aa):LS:=⟨[(0,.agg (aX s0)),(1,.int .i64 aA),(2,.slice 65 3 (aO cf))],[]⟩
def Qb (n : Nat) (s0 : J) (aA : Int) (cf : List aa) : Option (List aa) :=
 (F81 n s0 aA).bind fun x5 =>
 if !x5 then
 some []
 else
 (idx s0.ae aA).bind fun x12 =>
 if decide (x12.az < 0) then
 some []
 else
 (idx s0.ae aA).bind fun x23 =>
 (cut cf none (some (if (cf.length : Int) < x23.az then (cf.length : Int) else x23.az))).bind fun x30 =>
 (app [] x30).bind fun x32 =>
 some x32
theorem aeV (n : Nat) : K3 (A82 []) QZ (Qb n) := fun s0 aA cf r h =>
 be h fun x5 hx5 h =>
 ie h (fun c0 h =>
 rr h [(4, .call (oR n hx5) [] [] []), (0, eb c0), (3, .born [6] [] 200000 false 65 3)]) (fun c0 h =>
 be h fun x12 eA h =>
 ie h (fun c1 h =>
 rr h [(4, .call (oR n hx5) [] [] []), (0, eb c0), (4, R62.idx eA), (2, eb c1), (2, .born [6] [] 200000 false 65 3)]) (fun c1 h =>
 be h fun x23 fV h =>
 be h fun x30 xV h =>
 be h fun x32 lv h =>
 rr h [(4, .call (oR n hx5) [] [] []), (0, eb c0), (4, R62.idx eA), (2, eb c1), (6, R62.idx fV), (3, .eqv (R64.au cf)), (1, R64.cut xV), (0, R64.app lv .dat), (1, .ren 20 200000)]))
def F82 (n:Nat) (s0:J) (aA:Int) (cf:List aa):Option (List aa):=Qb n s0 aA cf
theorem ev82 (n:Nat):K3 C82 QZ (F82 n):=fun _ _ _ _ h=>ca (X:=x82) (aeV n h)
def X8 (r:Bool):AV:=.bool r
def S1 (r:Bool):List (Nat×Bx):= []
def x41:=fx E0 Tryz.f41 [] []
def A41:=Ax x41 X8 S1
def C41:=Cx E0 41 X8 S1
def GO (vG:Int) (t53:List Int) (t54 t55:Int) (b3:ak) (b43 b74:List Int):LS:=⟨[(3,.loc 3 0),(5,.ms 43 1 0 b43.length),(6,.ms 74 1 0 b74.length),(7,.int .i64 vG),(53,.slice 3 1 (aR t53)),(54,.int .i64 t54),(55,.int .i64 t55)],[(3,.flat 55 (hY b3)),(43,.rows false 3 1 (aR b43)),(74,.rows true 3 1 (aR b74))]⟩
def GN (b3:ak) (b74:List Int):LS:=⟨[(3,.loc 3 0),(6,.ms 74 1 0 b74.length)],[(3,.flat 55 (hY b3)),(74,.rows true 3 1 (aR b74))]⟩
def Rj (s0:J) (w1:ak):LS:=⟨[(0,.agg (aX s0)),(1,.agg (hY w1))],[]⟩
def Fh (k_1 : ak → (List Int) → Option Bool) (back : Int → (List Int) → Int → Int → ak → (List Int) → (List Int) → Option Bool) (n : Nat) (vG : Int) (t53 : List Int) (t54 t55 : Int) (b3 : ak) (b43 b74 : List Int) : Option Bool :=
 if decide (t55 < t54) then
 (idx t53 t55).bind fun x2 =>
 if !decide (vG < x2) then
 some false
 else
 if !decide (x2 < (b43.length : Int)) then
 some false
 else
 (bnd b43.length x2).bind fun x18 =>
 (b43[0 + x18]?).bind fun x20 =>
 (app b74 [x20]).bind fun x23 =>
 back x2 t53 t54 (w64 (t55 + 1)) b3 b43 x23
 else
 k_1 b3 b74
theorem afT {k_1} (aH : K2 (A41 [1, 1, 1, 1, 0, 1, 1, 1, 0, 1, 0, 1]) GN k_1) {back} (ay : K7 (A41 [0, 1, 0, 1, 1, 1, 0, 1, 1, 1, 0, 1, 0, 1]) GO back) (n : Nat) : K7 (A41 [0, 1, 0, 1, 1, 1, 0, 1, 1, 1, 0, 1, 0, 1]) GO (Fh k_1 back n) := fun vG t53 t54 t55 b3 b43 b74 r h =>
 ie h (fun c0 h =>
 be h fun x2 hx2 h =>
 ie h (fun c1 h =>
 rr h [(0, eb c0), (0, R3.idx hx2), (4, eb c1)]) (fun c1 h =>
 ie h (fun c2 h =>
 rr h [(0, eb c0), (0, R3.idx hx2), (4, eb c1), (4, eb c2)]) (fun c2 h =>
 be h fun x18 g7 h =>
 be h fun x20 lx h =>
 be h fun x23 fV h =>
 ra (ay h) [(0, eb c0), (0, R3.idx hx2), (4, eb c1), (4, eb c2), (4, cP g7), (0, R3.row lx), (1, R3.app fV (R3.srW [x20]))]))) (fun c0 h =>
 ra (aH h) [(0, eb c0)])
def wA (k_1:ak→(List Int)→Option Bool):Nat→Int→(List Int)→Int→Int→ak→(List Int)→(List Int)→Option Bool
 |0,_,_,_,_,_,_,_=>none
 |n+1,vG,t53,t54,t55,b3,b43,b74=>Fh k_1 (wA k_1 n) n vG t53 t54 t55 b3 b43 b74
theorem YY {k_1} (aH:K2 (A41 [1,1,1,1,0,1,1,1,0,1,0,1]) GN k_1):∀n:Nat,K7 (A41 [0,1,0,1,1,1,0,1,1,1,0,1,0,1]) GO (wA k_1 n)
 |0=>fun _ _ _ _ _ _ _ _ h=>nz h
 |n+1=>fun _ _ _ _ _ _ _ _ h=>afT aH (YY aH n) n h
def Fg (n : Nat) (b3 : ak) (b74 : List Int) : Option Bool :=
 (F39 n b3.bg b74).bind fun x4 =>
 some x4
theorem afS (n : Nat) : K2 (A41 [1, 1, 1, 1, 0, 1, 1, 1, 0, 1, 0, 1]) GN (Fg n) := fun b3 b74 r h =>
 be h fun x4 hx4 h =>
 rr h [(3, R3.frz 74 b74), (0, .call (Cv n hx4) [.one .same, .one (.sl 0 0)] [] [])]
def Qq (n : Nat) (s0 : J) (w1 : ak) : Option Bool :=
 if w1.fOp == 1 then
 if (w1.af.length : Int) == 0 then
 (F70 n s0 w1.aD w1.bg 1).bind fun x18 =>
 if x18 then
 (F82 n s0 w1.aD w1.bg).bind fun x27 =>
 (F52 n x27 w1.az).bind fun x31 =>
 some (x31 == 0)
 else
 some false
 else
 some false
 else
 if w1.fOp == 2 then
 (F78 n s0 w1.aD).bind fun x13 =>
 (idx s0.ae w1.aD).bind fun x21 =>
 wA (Fg n) n (w64 (x21.az - 1)) w1.af (w1.af.length : Int) 0 w1 x13 []
 else
 if (w1.af.length : Int) == 0 then
 some ((w1.bg.length : Int) == 0)
 else
 some false
theorem afR (n : Nat) : K2 (A41 []) Rj (Qq n) := fun s0 w1 r h =>
 ie h (fun c0 h =>
 ie h (fun c1 h =>
 be h fun x18 g7 h =>
 ie h (fun c2 g0 => by subst c2; exact (
 be g0 fun x27 xW g0 =>
 be g0 fun x31 WA g0 =>
 rr g0 [(5, eb c0), (3, .eqv (R3.au w1.af)), (0, eb c1), (6, .call (ev70 n g7) [] [] []), (7, .call (cd (e := 65) (z := false) (Q := aO x27) (ev82 n xW) (R64.len x27)) [] [] []), (2, .call (ev52 n WA) [] [] [])])) (fun c2 g0 => by subst c2; exact (
 rr g0 [(5, eb c0), (3, .eqv (R3.au w1.af)), (0, eb c1), (6, .call (ev70 n g7) [] [] [])]))) (fun c1 h =>
 rr h [(5, eb c0), (3, .eqv (R3.au w1.af)), (0, eb c1)])) (fun c0 h =>
 ie h (fun c1 h =>
 be h fun x13 bT h =>
 be h fun x21 iK h =>
 ra (YY (afS n) n h) [(5, eb c0), (1, eb c1), (4, .call (IX n bT) [] [] [(43, 200000)]), (6, R62.idx iK), (6, .eqv (R3.au w1.af)), (1, .born [6] [] 74 true 3 1)]) (fun c1 h =>
 ie h (fun c2 h =>
 rr h [(5, eb c0), (1, eb c1), (3, .eqv (R3.au w1.af)), (0, eb c2), (3, .eqv (R64.au w1.bg))]) (fun c2 h =>
 rr h [(5, eb c0), (1, eb c1), (3, .eqv (R3.au w1.af)), (0, eb c2)])))
def F41 (n:Nat) (s0:J) (w1:ak):Option Bool:=Qq n s0 w1
theorem O1 (n:Nat):K2 C41 Rj (F41 n):=fun _ _ _ h=>ca (X:=x41) (afR n h)
def X7 (r:Int):AV:=.int .i64 r
def S0 (r:Int):List (Nat×Bx):= []
def x42:=fx E0 Tryz.f42 [] []
def A42:=Ax x42 X7 S0
def C42:=Cx E0 42 X7 S0
def Ri (a0 b1:ak):LS:=⟨[(0,.agg (hY a0)),(1,.agg (hY b1))],[]⟩
def Qp (n : Nat) (a0 b1 : ak) : Option Int :=
 if a0.aD != b1.aD then
 if decide (a0.aD < b1.aD) then
 some (-1)
 else
 some 1
 else
 (F52 n a0.az b1.az).bind fun x13 =>
 some x13
theorem afQ (n : Nat) : K2 (A42 []) Ri (Qp n) := fun a0 b1 r h =>
 ie h (fun c0 h =>
 ie h (fun c1 h =>
 rr h [(7, eb c0), (4, eb c1)]) (fun c1 h =>
 rr h [(7, eb c0), (4, eb c1)])) (fun c0 h =>
 be h fun x13 bT h =>
 rr h [(7, eb c0), (4, .call (ev52 n bT) [] [] [])])
def F42 (n:Nat) (a0 b1:ak):Option Int:=Qp n a0 b1
theorem ev42 (n:Nat):K2 C42 Ri (F42 n):=fun _ _ _ h=>ca (X:=x42) (afQ n h)
def Yp (r:Int):AV:=.int .i64 r
def Tj (r:Int):List (Nat×Bx):= []
def x12:=fx E0 Tryz.f12 [] []
def A12:=Ax x12 Yp Tj
def C12:=Cx E0 12 Yp Tj
def G6 (bu t16:List ak) (t17 t18:Int) (b2:J):LS:=⟨[(1,.slice 55 5 (cc bu)),(2,.loc 2 0),(16,.slice 55 5 (cc t16)),(17,.int .i64 t17),(18,.int .i64 t18)],[(2,.flat 26 (aX b2))]⟩
def G5:LS:=⟨[],[]⟩
def RC (s0:J) (bu:List ak):LS:=⟨[(0,.agg (aX s0)),(1,.slice 55 5 (cc bu))],[]⟩
def FD (k_1 : Option Int) (back : (List ak) → (List ak) → Int → Int → J → Option Int) (n : Nat) (bu t16 : List ak) (t17 t18 : Int) (b2 : J) : Option Int :=
 if decide (t18 < t17) then
 (idx t16 t18).bind fun x3 =>
 if decide (x3.fOp < 1) then
 some 1
 else
 if decide (3 < x3.fOp) then
 some 1
 else
 if decide (x3.aD < 0) then
 some 1
 else
 if !decide (x3.aD < (b2.ae.length : Int)) then
 some 1
 else
 (F40 n b2 x3.aD).bind fun x35 =>
 (F39 n x3.az x35).bind fun x37 =>
 if !x37 then
 some 270
 else
 (F41 n b2 x3).bind fun x43 =>
 if !x43 then
 some 270
 else
 if decide (0 < t18) then
 (idx bu (w64 (t18 - 1))).bind fun x53 =>
 (F42 n x53 x3).bind fun x57 =>
 if !decide (x57 < 0) then
 some 270
 else
 back bu t16 t17 (w64 (t18 + 1)) b2
 else
 back bu t16 t17 (w64 (t18 + 1)) b2
 else
 k_1
theorem agF {k_1} (aH : K0 (A12 [1, 1, 1, 1]) G5 k_1) {back} (ay : K5 (A12 [0, 1, 0, 1, 1, 1]) G6 back) (n : Nat) : K5 (A12 [0, 1, 0, 1, 1, 1]) G6 (FD k_1 back n) := fun bu t16 t17 t18 b2 r h =>
 ie h (fun c0 h =>
 be h fun x3 hx3 h =>
 ie h (fun c1 h =>
 rr h [(0, eb c0), (1, R54.idx hx3), (6, eb c1)]) (fun c1 h =>
 ie h (fun c2 h =>
 rr h [(0, eb c0), (1, R54.idx hx3), (6, eb c1), (3, eb c2)]) (fun c2 h =>
 ie h (fun c3 h =>
 rr h [(0, eb c0), (1, R54.idx hx3), (6, eb c1), (3, eb c2), (4, eb c3)]) (fun c3 h =>
 ie h (fun c4 h =>
 rr h [(0, eb c0), (1, R54.idx hx3), (6, eb c1), (3, eb c2), (4, eb c3), (6, .eqv (R62.au b2.ae)), (0, eb c4)]) (fun c4 h =>
 be h fun x35 oG h =>
 be h fun x37 sq h =>
 ie h (fun c5 h =>
 rr h [(0, eb c0), (1, R54.idx hx3), (6, eb c1), (3, eb c2), (4, eb c3), (6, .eqv (R62.au b2.ae)), (0, eb c4), (6, .call (cd (e := 3) (z := false) (Q := aR x35) (IZ n oG) (R3.len x35)) [] [] []), (0, .call (Cv n sq) [] [] []), (0, eb c5)]) (fun c5 h =>
 be h fun x43 sm h =>
 ie h (fun c6 h =>
 rr h [(0, eb c0), (1, R54.idx hx3), (6, eb c1), (3, eb c2), (4, eb c3), (6, .eqv (R62.au b2.ae)), (0, eb c4), (6, .call (cd (e := 3) (z := false) (Q := aR x35) (IZ n oG) (R3.len x35)) [] [] []), (0, .call (Cv n sq) [] [] []), (0, eb c5), (3, .call (O1 n sm) [] [] []), (0, eb c6)]) (fun c6 h =>
 ie h (fun c7 h =>
 be h fun x53 OF h =>
 be h fun x57 Iy h =>
 ie h (fun c8 h =>
 rr h [(0, eb c0), (1, R54.idx hx3), (6, eb c1), (3, eb c2), (4, eb c3), (6, .eqv (R62.au b2.ae)), (0, eb c4), (6, .call (cd (e := 3) (z := false) (Q := aR x35) (IZ n oG) (R3.len x35)) [] [] []), (0, .call (Cv n sq) [] [] []), (0, eb c5), (3, .call (O1 n sm) [] [] []), (0, eb c6), (2, eb c7), (4, R54.idx OF), (2, .call (ev42 n Iy) [] [] []), (0, eb c8)]) (fun c8 h =>
 ra (ay h) [(0, eb c0), (1, R54.idx hx3), (6, eb c1), (3, eb c2), (4, eb c3), (6, .eqv (R62.au b2.ae)), (0, eb c4), (6, .call (cd (e := 3) (z := false) (Q := aR x35) (IZ n oG) (R3.len x35)) [] [] []), (0, .call (Cv n sq) [] [] []), (0, eb c5), (3, .call (O1 n sm) [] [] []), (0, eb c6), (2, eb c7), (4, R54.idx OF), (2, .call (ev42 n Iy) [] [] []), (0, eb c8)])) (fun c7 h =>
 ra (ay h) [(0, eb c0), (1, R54.idx hx3), (6, eb c1), (3, eb c2), (4, eb c3), (6, .eqv (R62.au b2.ae)), (0, eb c4), (6, .call (cd (e := 3) (z := false) (Q := aR x35) (IZ n oG) (R3.len x35)) [] [] []), (0, .call (Cv n sq) [] [] []), (0, eb c5), (3, .call (O1 n sm) [] [] []), (0, eb c6), (2, eb c7)])))))))) (fun c0 h =>
 ra (aH h) [(0, eb c0)])
def wI (k_1:Option Int):Nat→(List ak)→(List ak)→Int→Int→J→Option Int
 |0,_,_,_,_,_=>none
 |n+1,bu,t16,t17,t18,b2=>FD k_1 (wI k_1 n) n bu t16 t17 t18 b2
theorem Y8 {k_1} (aH:K0 (A12 [1,1,1,1]) G5 k_1):∀n:Nat,K5 (A12 [0,1,0,1,1,1]) G6 (wI k_1 n)
 |0=>fun _ _ _ _ _ _ h=>nz h
 |n+1=>fun _ _ _ _ _ _ h=>agF aH (Y8 aH n) n h
def FC (n : Nat) : Option Int :=
 some 0
theorem agE (n : Nat) : K0 (A12 [1, 1, 1, 1]) G5 (FC n) := fun r h =>
 rr h []
def QI (n : Nat) (s0 : J) (bu : List ak) : Option Int :=
 (F38 n s0).bind fun x4 =>
 if x4 != 0 then
 some x4
 else
 if decide (64 < (bu.length : Int)) then
 some 2
 else
 wI (FC n) n bu bu (bu.length : Int) 0 s0
theorem agD (n : Nat) : K2 (A12 []) RC (QI n) := fun s0 bu r h =>
 be h fun x4 hx4 h =>
 ie h (fun c0 h =>
 rr h [(3, .call (WY n hx4) [] [] []), (2, eb c0)]) (fun c0 h =>
 ie h (fun c1 h =>
 rr h [(3, .call (WY n hx4) [] [] []), (2, eb c0), (1, .eqv (R54.au bu)), (0, eb c1)]) (fun c1 h =>
 ra (Y8 (agE n) n h) [(3, .call (WY n hx4) [] [] []), (2, eb c0), (1, .eqv (R54.au bu)), (0, eb c1), (1, .eqv (R54.au bu))]))
def F12 (n:Nat) (s0:J) (bu:List ak):Option Int:=QI n s0 bu
theorem sK (n:Nat):K2 C12 RC (F12 n):=fun _ _ _ h=>ca (X:=x12) (agD n h)
def X6 (r:(aa×ai)):AV:=.agg (gd r.1)
def SZ (r:(aa×ai)):List (Nat×Bx):= [(0,.flat 74 (br r.2))]
def x43:=fx E0 Tryz.f43 [0] [0]
def A43:=Ax x43 X6 SZ
def C43:=Cx E0 43 X6 SZ
def Rh (c0:ai):LS:=⟨[(0,.loc 0 0)],[(0,.flat 74 (br c0))]⟩
def Qo (n : Nat) (c0 : ai) : Option (aa × ai) :=
 (F24 n c0 5).bind fun x3 =>
 if decide ((w64 (1 + x3.1)) < 3) then
 some ((aa.mk (w64 (1 + x3.1)) 0 ByteArray.empty), x3.2)
 else
 (F74 n x3.2 (w64 (1 + x3.1))).bind fun x11 =>
 some (x11.1, x11.2)
theorem afP (n : Nat) : K1 (A43 []) Rh (Qo n) := fun c0 r h =>
 be h fun x3 hx3 h =>
 ie h (fun c0_ h =>
 rr h [(2, .call (bJ n hx3) [] [(0, 0)] []), (3, eb c0_)]) (fun c0_ h =>
 be h fun x11 cF h =>
 rr h [(2, .call (bJ n hx3) [] [(0, 0)] []), (3, eb c0_), (2, .call (IY n cF) [] [(0, 0)] [])])
def F43 (n:Nat) (c0:ai):Option (aa×ai):=Qo n c0
theorem WX (n:Nat):K1 C43 Rh (F43 n):=fun _ _ h=>ca (X:=x43) (afP n h)
def Yo (r:((List ak)×ai)):AV:=.ms 200000 5 0 r.1.length
def Ti (r:((List ak)×ai)):List (Nat×Bx):= [(0,.flat 74 (br r.2)),(200000,.rows false 55 5 (cc r.1))]
def x13:=fx E0 Tryz.f13 [0] [0,200000]
def A13:=Ax x13 Yo Ti
def C13:=Cx E0 13 Yo Ti
def RB (c0:ai) (l1:List ak):LS:=⟨[(0,.loc 0 0),(1,.slice 55 5 (cc l1))],[(0,.flat 74 (br c0))]⟩
def QH (n : Nat) (c0 : ai) (l1 : List ak) : Option ((List ak) × ai) :=
 (app [] l1).bind fun x3 =>
 if (x3.length : Int) == 0 then
 (F24 n c0 5).bind fun x10 =>
 (F24 n x10.2 4).bind fun xo =>
 some ([(ak.mk x10.1 xo.1 [] [] [])], xo.2)
 else
 (F24 n c0 (x3.length : Int)).bind fun xo =>
 (bnd x3.length xo.1).bind fun x15 =>
 (F24 n xo.2 8).bind fun x19 =>
 if x19.1 == 0 then
 (F24 n x19.2 5).bind fun x25 =>
 (x3[0 + x15]?).bind fun x29 =>
 (setAt x3 (0 + x15) (ak.mk x25.1 x29.aD x29.az x29.af x29.bg)).bind fun z30 =>
 some (z30, x25.2)
 else
 if x19.1 == 1 then
 (F24 n x19.2 7).bind fun x27 =>
 (x3[0 + x15]?).bind fun x32 =>
 (setAt x3 (0 + x15) (ak.mk x32.fOp (w64 (x27.1 - 1)) x32.az x32.af x32.bg)).bind fun z33 =>
 some (z33, x27.2)
 else
 if x19.1 == 2 then
 (x3[0 + x15]?).bind fun x31 =>
 (app [] x31.az).bind fun x33 =>
 (F43 n x19.2).bind fun x36 =>
 (app x33 [x36.1]).bind fun x39 =>
 (x3[0 + x15]?).bind fun x43 =>
 (setAt x3 (0 + x15) (ak.mk x43.fOp x43.aD x39 x43.af x43.bg)).bind fun z44 =>
 some (z44, x36.2)
 else
 if x19.1 == 3 then
 (x3[0 + x15]?).bind fun x33 =>
 (app [] x33.bg).bind fun x35 =>
 (F43 n x19.2).bind fun x38 =>
 (app x35 [x38.1]).bind fun x41 =>
 (x3[0 + x15]?).bind fun x45 =>
 (setAt x3 (0 + x15) (ak.mk x45.fOp x45.aD x45.az x45.af x41)).bind fun z46 =>
 some (z46, x38.2)
 else
 if x19.1 == 4 then
 (x3[0 + x15]?).bind fun x35 =>
 (app [] x35.af).bind fun x37 =>
 (F24 n x19.2 5).bind fun x40 =>
 (app x37 [w64 (x40.1 - 1)]).bind fun x44 =>
 (x3[0 + x15]?).bind fun x48 =>
 (setAt x3 (0 + x15) (ak.mk x48.fOp x48.aD x48.az x44 x48.bg)).bind fun z49 =>
 some (z49, x40.2)
 else
 if x19.1 == 5 then
 (bnd x3.length 0).bind fun x35 =>
 (x3[0 + x35]?).bind fun x37 =>
 (app x3 [x37]).bind fun x40 =>
 some (x40, x19.2)
 else
 if x19.1 == 6 then
 (bnd x3.length (w64 ((x3.length : Int) - 1))).bind fun x44 =>
 (x3[0 + x44]?).bind fun x46 =>
 (bnd x3.length 0).bind fun x49 =>
 (x3[0 + x49]?).bind fun x51 =>
 (bnd x3.length 0).bind fun x53 =>
 (x3[0 + x53]?).bind fun x55 =>
 (setAt x3 (0 + x53) x46).bind fun z56 =>
 (bnd x3.length (w64 ((x3.length : Int) - 1))).bind fun x58 =>
 (z56[0 + x58]?).bind fun x60 =>
 (setAt z56 (0 + x58) x51).bind fun z61 =>
 some (z61, x19.2)
 else
 (x3[0 + x15]?).bind fun x38 =>
 if decide (0 < (x38.bg.length : Int)) then
 (x3[0 + x15]?).bind fun x46 =>
 (app [] x46.bg).bind fun x48 =>
 (x3[0 + x15]?).bind fun x52 =>
 (F24 n x19.2 (x48.length : Int)).bind fun x64 =>
 (F43 n x64.2).bind fun x67 =>
 (bnd x48.length x64.1).bind fun x69 =>
 (x48[0 + x69]?).bind fun x71 =>
 (setAt x48 (0 + x69) x67.1).bind fun z72 =>
 (setAt x3 (0 + x15) (ak.mk x52.fOp x52.aD x52.az x52.af z72)).bind fun z74 =>
 some (z74, x67.2)
 else
 some (x3, x19.2)
theorem agC (n : Nat) : K2 (A13 []) RB (QH n) := fun c0 l1 r h =>
 be h fun x3 hx3 h =>
 ie h (fun c0_ h =>
 be h fun x10 cx h =>
 be h fun xo bT h =>
 rr h [(2, .born [] [] 7 true 55 5), (0, R54.app (xs := []) hx3 .dat), (3, eb c0_), (1, .call (bJ n cx) [] [(0, 0)] []), (1, .call (bJ n bT) [] [(0, 0)] []), (1, .norm [(15, .agg [.same, .same, .sl 65 3, .sl 3 1, .sl 65 3])] []), (2, .ren 16 200000)]) (fun c0_ h =>
 be h fun xo bT h =>
 be h fun x15 cV h =>
 be h fun x19 dA h =>
 ie h (fun c1 h =>
 be h fun x25 oI h =>
 be h fun x29 Cl h =>
 be h fun z30 hz30 h =>
 rr h [(2, .born [] [] 7 true 55 5), (0, R54.app (xs := []) hx3 .dat), (3, eb c0_), (4, .call (bJ n bT) [] [(0, 0)] []), (0, cP cV), (2, .call (bJ n dA) [] [(0, 0)] []), (0, eb c1), (3, .call (bJ n oI) [] [(0, 0)] []), (2, R54.sto 0 [.int .i64 x25.1] Cl hz30 (by kernel_rfl)), (2, .ren 7 200000), (0, .seq 4 (congrArg (fun n_ => (AV.ms 200000 5 0 n_)) ((cC hz30).symm))), (0, .norm [] [(200000, .any)])]) (fun c1 h =>
 ie h (fun c2 h =>
 be h fun x27 xW h =>
 be h fun x32 lv h =>
 be h fun z33 hz33 h =>
 rr h [(2, .born [] [] 7 true 55 5), (0, R54.app (xs := []) hx3 .dat), (3, eb c0_), (4, .call (bJ n bT) [] [(0, 0)] []), (0, cP cV), (2, .call (bJ n dA) [] [(0, 0)] []), (0, eb c1), (1, eb c2), (3, .call (bJ n xW) [] [(0, 0)] []), (3, R54.sto 1 [.int .i64 (w64 (x27.1 - 1))] lv hz33 (by kernel_rfl)), (2, .ren 7 200000), (0, .seq 4 (congrArg (fun n_ => (AV.ms 200000 5 0 n_)) ((cC hz33).symm))), (0, .norm [] [(200000, .any)])]) (fun c2 h =>
 ie h (fun c3 h =>
 be h fun x31 WA h =>
 be h fun x33 IA h =>
 be h fun x36 xU h =>
 be h fun x39 Cj h =>
 be h fun x43 sm h =>
 be h fun z44 hz44 h =>
 rr h [(2, .born [] [] 7 true 55 5), (0, R54.app (xs := []) hx3 .dat), (3, eb c0_), (4, .call (bJ n bT) [] [(0, 0)] []), (0, cP cV), (2, .call (bJ n dA) [] [(0, 0)] []), (0, eb c1), (1, eb c2), (1, eb c3), (5, R54.row WA), (0, .born [] [] 75 true 65 3), (0, R64.app (xs := []) IA .dat), (1, .call (WX n xU) [] [(0, 0)] []), (1, R64.app Cj (R64.srW [x36.1])), (2, R64.frz 75 x39), (0, .norm [(79, .one (.sl 0 0))] []), (0, R54.sto 2 [.slice 65 3 (aO x39)] sm hz44 (by kernel_rfl)), (2, .ren 7 200000), (0, .seq 4 (congrArg (fun n_ => (AV.ms 200000 5 0 n_)) ((cC hz44).symm))), (0, .norm [] [(200000, .any)])]) (fun c3 h =>
 ie h (fun c4 h =>
 be h fun x33 IA h =>
 be h fun x35 oG h =>
 be h fun x38 Ck h =>
 be h fun x41 Wy h =>
 be h fun x45 Wx h =>
 be h fun z46 hz46 h =>
 rr h [(2, .born [] [] 7 true 55 5), (0, R54.app (xs := []) hx3 .dat), (3, eb c0_), (4, .call (bJ n bT) [] [(0, 0)] []), (0, cP cV), (2, .call (bJ n dA) [] [(0, 0)] []), (0, eb c1), (1, eb c2), (1, eb c3), (1, eb c4), (5, R54.row IA), (0, .born [] [] 89 true 65 3), (0, R64.app (xs := []) oG .dat), (1, .call (WX n Ck) [] [(0, 0)] []), (1, R64.app Wy (R64.srW [x38.1])), (2, R64.frz 89 x41), (0, .norm [(93, .one (.sl 0 0))] []), (0, R54.sto 4 [.slice 65 3 (aO x41)] Wx hz46 (by kernel_rfl)), (2, .ren 7 200000), (0, .seq 4 (congrArg (fun n_ => (AV.ms 200000 5 0 n_)) ((cC hz46).symm))), (0, .norm [] [(200000, .any)])]) (fun c4 h =>
 ie h (fun c5 h =>
 be h fun x35 oG h =>
 be h fun x37 sq h =>
 be h fun x40 Wz h =>
 be h fun x44 Ci h =>
 be h fun x48 Ww h =>
 be h fun z49 hz49 h =>
 rr h [(2, .born [] [] 7 true 55 5), (0, R54.app (xs := []) hx3 .dat), (3, eb c0_), (4, .call (bJ n bT) [] [(0, 0)] []), (0, cP cV), (2, .call (bJ n dA) [] [(0, 0)] []), (0, eb c1), (1, eb c2), (1, eb c3), (1, eb c4), (1, eb c5), (5, R54.row oG), (0, .born [] [] 103 true 3 1), (0, R3.app (xs := []) sq .dat), (1, .call (bJ n Wz) [] [(0, 0)] []), (2, R3.app Ci (R3.srW [w64 (x40.1 - 1)])), (2, R3.frz 103 x44), (0, .norm [(108, .one (.sl 0 0))] []), (0, R54.sto 3 [.slice 3 1 (aR x44)] Ww hz49 (by kernel_rfl)), (2, .ren 7 200000), (0, .seq 4 (congrArg (fun n_ => (AV.ms 200000 5 0 n_)) ((cC hz49).symm))), (0, .norm [] [(200000, .any)])]) (fun c5 h =>
 ie h (fun c6 h =>
 be h fun x35 oG h =>
 be h fun x37 sq h =>
 be h fun x40 Wz h =>
 rr h [(2, .born [] [] 7 true 55 5), (0, R54.app (xs := []) hx3 .dat), (3, eb c0_), (4, .call (bJ n bT) [] [(0, 0)] []), (0, cP cV), (2, .call (bJ n dA) [] [(0, 0)] []), (0, eb c1), (1, eb c2), (1, eb c3), (1, eb c4), (1, eb c5), (1, eb c6), (3, cP oG), (0, R54.row sq), (1, R54.app Wz (R54.srW [x37])), (3, .ren 7 200000), (0, .norm [] [(200000, .any)])]) (fun c6 h =>
 ie h (fun c7 h =>
 be h fun x44 Ci h =>
 be h fun x46 Iz h =>
 be h fun x49 OH h =>
 be h fun x51 Wv h =>
 be h fun x53 OF h =>
 be h fun x55 hx55 h =>
 be h fun z56 hz56 h =>
 be h fun x58 hx58 h =>
 be h fun x60 hx60 h =>
 be h fun z61 hz61 h =>
 rr h [(2, .born [] [] 7 true 55 5), (0, R54.app (xs := []) hx3 .dat), (3, eb c0_), (4, .call (bJ n bT) [] [(0, 0)] []), (0, cP cV), (2, .call (bJ n dA) [] [(0, 0)] []), (0, eb c1), (1, eb c2), (1, eb c3), (1, eb c4), (1, eb c5), (1, eb c6), (1, eb c7), (10, cP Ci), (0, R54.row Iz), (1, cP OH), (0, R54.row Wv), (0, cP OF), (0, R54.sto 0 (hY x46) hx55 hz56 (by kernel_rfl)), (0, cP hx58), (0, R54.sto 0 (hY x51) hx60 hz61 (by kernel_rfl)), (2, .ren 7 200000), (0, .seq 4 (congrArg (fun n_ => (AV.ms 200000 5 0 n_)) (((cC hz61).trans (cC hz56)).symm))), (0, .norm [] [(200000, .any)])]) (fun c7 h =>
 be h fun x38 Ck h =>
 ie h (fun c8 h =>
 be h fun x46 Iz h =>
 be h fun x48 Ww h =>
 be h fun x52 OG h =>
 be h fun x64 hx64 h =>
 be h fun x67 hx67 h =>
 be h fun x69 hx69 h =>
 be h fun x71 hx71 h =>
 be h fun z72 Iw h =>
 be h fun z74 hz74 h =>
 rr h [(2, .born [] [] 7 true 55 5), (0, R54.app (xs := []) hx3 .dat), (3, eb c0_), (4, .call (bJ n bT) [] [(0, 0)] []), (0, cP cV), (2, .call (bJ n dA) [] [(0, 0)] []), (0, eb c1), (1, eb c2), (1, eb c3), (1, eb c4), (1, eb c5), (1, eb c6), (1, eb c7), (4, R54.row Ck), (0, .eqv (R64.au x38.bg)), (0, eb c8), (4, R54.row Iz), (0, .born [] [] 36 true 65 3), (0, R64.app (xs := []) Ww .dat), (2, R54.hol 4 OG), (10, .call (bJ n hx64) [] [(0, 0)] []), (1, .call (WX n hx67) [] [(0, 0)] []), (0, cP hx69), (0, R64.sto 0 (gd x67.1) hx71 Iw (by kernel_rfl)), (0, .seq 36 (congrArg (fun n_ => (AV.ms 36 3 0 n_)) ((cC Iw).symm))), (0, .seq 42 (congrArg (fun n_ => (AV.ms 36 3 0 n_)) ((cC Iw).symm))), (0, .seq 47 (congrArg (fun n_ => (AV.ms 36 3 0 n_)) ((cC Iw).symm))), (0, .beq 7 (congrArg (fun n_ => (Bx.hole 55 5 ((cc x3).set (0 + x15) (bY (hY x52) 4 [.undef])) ((0 + x15) * 5 + 4) (.ms 36 3 0 n_))) ((cC Iw).symm))), (0, R64.frz 36 z72), (0, .norm [] [(7, .hol (.sl 0 0))]), (0, R54.clo 7 4 (.slice 65 3 (aO z72)) .undef OG hz74 (by kernel_rfl)), (2, .ren 7 200000), (0, .seq 4 (congrArg (fun n_ => (AV.ms 200000 5 0 n_)) ((cC hz74).symm)))]) (fun c8 h =>
 rr h [(2, .born [] [] 7 true 55 5), (0, R54.app (xs := []) hx3 .dat), (3, eb c0_), (4, .call (bJ n bT) [] [(0, 0)] []), (0, cP cV), (2, .call (bJ n dA) [] [(0, 0)] []), (0, eb c1), (1, eb c2), (1, eb c3), (1, eb c4), (1, eb c5), (1, eb c6), (1, eb c7), (4, R54.row Ck), (0, .eqv (R64.au x38.bg)), (0, eb c8), (2, .ren 7 200000), (0, .norm [] [(200000, .any)])])))))))))
def F13 (n:Nat) (c0:ai) (l1:List ak):Option ((List ak)×ai):=QH n c0 l1
theorem ev13 (n:Nat):K2 C13 RB (F13 n):=fun _ _ _ h=>ca (X:=x13) (agC n h)
def R7 (r:Bool):AV:=.bool r
def Mj (r:Bool):List (Nat×Bx):= []
def x112:=fx E0 Tryz.f112 [] []
def tu:=Ax x112 R7 Mj
def C112:=Cx E0 112 R7 Mj
def ZZ (s0:ByteArray) (i3:Int) (t49:Bool):LS:=⟨[(0,.str s0),(3,.int .i64 i3),(49,.bool t49)],[]⟩
def vr (s0:ByteArray) (i3:Int):LS:=⟨[(0,.str s0),(3,.int .i64 i3)],[]⟩
def Bm:LS:=⟨[],[]⟩
def LO (s0:ByteArray):LS:=⟨[(0,.str s0)],[]⟩
def lL (k_1 : ByteArray → Int → Option Bool) (n : Nat) (s0 : ByteArray) (i3 : Int) (t49 : Bool) : Option Bool :=
 if t49 then
 some false
 else
 k_1 s0 (w64 (i3 + 1))
theorem o7 {k_1} (aH : K2 (tu [0, 1, 0, 1, 1]) vr k_1) (n : Nat) : K3 (tu [1, 1, 0, 0, 1, 0, 0, 1, 0, 1, 1]) ZZ (lL k_1 n) := fun s0 i3 t49 r h =>
 ie h (fun c0 g0 => by subst c0; exact (
 rr g0 [])) (fun c0 g0 => by subst c0; exact (
 ra (aH g0) []))
def AQ (k_2 : Option Bool) (back : ByteArray → Int → Option Bool) (n : Nat) (s0 : ByteArray) (i3 : Int) : Option Bool :=
 if decide (i3 < (s0.size : Int)) then
 (uw s0 i3).bind fun x7 =>
 if decide ((x7.toNat : Int) < 97) then
 if decide ((x7.toNat : Int) < 48) then
 lL back n s0 i3 ((x7.toNat : Int) != 95)
 else
 if decide (57 < (x7.toNat : Int)) then
 lL back n s0 i3 ((x7.toNat : Int) != 95)
 else
 lL back n s0 i3 false
 else
 if decide (122 < (x7.toNat : Int)) then
 if decide ((x7.toNat : Int) < 48) then
 lL back n s0 i3 ((x7.toNat : Int) != 95)
 else
 if decide (57 < (x7.toNat : Int)) then
 lL back n s0 i3 ((x7.toNat : Int) != 95)
 else
 lL back n s0 i3 false
 else
 lL back n s0 i3 false
 else
 k_2
theorem aco {k_2} (bW : K0 (tu [1, 1, 1]) Bm k_2) {back} (ay : K2 (tu [0, 1, 0, 1, 1]) vr back) (n : Nat) : K2 (tu [0, 1, 0, 1, 1]) vr (AQ k_2 back n) := fun s0 i3 r h =>
 ie h (fun c0 h =>
 be h fun x7 hx7 h =>
 ie h (fun c1 h =>
 ie h (fun c2 h =>
 ra (o7 ay n h) [(3, eb c0), (2, .chr (eM hx7)), (2, eb c1), (4, eb c2)]) (fun c2 h =>
 ie h (fun c3 h =>
 ra (o7 ay n h) [(3, eb c0), (2, .chr (eM hx7)), (2, eb c1), (4, eb c2), (2, eb c3)]) (fun c3 h =>
 ra (o7 ay n h) [(3, eb c0), (2, .chr (eM hx7)), (2, eb c1), (4, eb c2), (2, eb c3)]))) (fun c1 h =>
 ie h (fun c2 h =>
 ie h (fun c3 h =>
 ra (o7 ay n h) [(3, eb c0), (2, .chr (eM hx7)), (2, eb c1), (2, eb c2), (3, eb c3)]) (fun c3 h =>
 ie h (fun c4 h =>
 ra (o7 ay n h) [(3, eb c0), (2, .chr (eM hx7)), (2, eb c1), (2, eb c2), (3, eb c3), (2, eb c4)]) (fun c4 h =>
 ra (o7 ay n h) [(3, eb c0), (2, .chr (eM hx7)), (2, eb c1), (2, eb c2), (3, eb c3), (2, eb c4)]))) (fun c2 h =>
 ra (o7 ay n h) [(3, eb c0), (2, .chr (eM hx7)), (2, eb c1), (2, eb c2)]))) (fun c0 h =>
 ra (bW h) [(3, eb c0)])
def mS (k_2:Option Bool):Nat→ByteArray→Int→Option Bool
 |0,_,_=>none
 |n+1,s0,i3=>AQ k_2 (mS k_2 n) n s0 i3
theorem TH {k_2} (bW:K0 (tu [1,1,1]) Bm k_2):∀n:Nat,K2 (tu [0,1,0,1,1]) vr (mS k_2 n)
 |0=>fun _ _ _ h=>nz h
 |n+1=>fun _ _ _ h=>aco bW (TH bW n) n h
def rJ (n : Nat) : Option Bool :=
 some true
theorem acn (n : Nat) : K0 (tu [1, 1, 1]) Bm (rJ n) := fun r h =>
 rr h []
def Kt (n : Nat) (s0 : ByteArray) : Option Bool :=
 if (s0.size : Int) == 0 then
 some false
 else
 if decide (32 < (s0.size : Int)) then
 some false
 else
 (uw s0 0).bind fun x12 =>
 if decide ((x12.toNat : Int) < 97) then
 some false
 else
 (uw s0 0).bind fun x18 =>
 if decide (122 < (x18.toNat : Int)) then
 some false
 else
 mS (rJ n) n s0 0
theorem acm (n : Nat) : K1 (tu []) LO (Kt n) := fun s0 r h =>
 ie h (fun c0 h =>
 rr h [(3, eb c0)]) (fun c0 h =>
 ie h (fun c1 h =>
 rr h [(3, eb c0), (3, eb c1)]) (fun c1 h =>
 be h fun x12 eA h =>
 ie h (fun c2 h =>
 rr h [(3, eb c0), (3, eb c1), (3, .chr (eM eA)), (0, eb c2)]) (fun c2 h =>
 be h fun x18 g7 h =>
 ie h (fun c3 h =>
 rr h [(3, eb c0), (3, eb c1), (3, .chr (eM eA)), (0, eb c2), (3, .chr (eM g7)), (0, eb c3)]) (fun c3 h =>
 ra (TH (acn n) n h) [(3, eb c0), (3, eb c1), (3, .chr (eM eA)), (0, eb c2), (3, .chr (eM g7)), (0, eb c3)]))))
def J5 (n:Nat) (s0:ByteArray):Option Bool:=Kt n s0
theorem pX (n:Nat):K1 C112 LO (J5 n):=fun _ _ h=>ca (X:=x112) (acm n h)
def XO (r:Bool):AV:=.bool r
def SD (r:Bool):List (Nat×Bx):= []
def x83:=fx E0 Tryz.f83 [] []
def A83:=Ax x83 XO SD
def C83:=Cx E0 83 XO SD
def Gl (i1 k6:Int) (b2:J) (b5:aj):LS:=⟨[(1,.int .i64 i1),(2,.loc 2 0),(5,.loc 5 0),(6,.int .i64 k6)],[(2,.flat 26 (aX b2)),(5,.flat 63 (dX b5))]⟩
def Gk (c7 k8 t53 t54:Int) (t67:List aL) (t68:Int) (t69 t70:aL) (t71:Int) (t72:Bool) (b5:aj):LS:=⟨[(5,.loc 5 0),(7,.int .i64 c7),(8,.int .i64 k8),(53,.int .i64 t53),(54,.int .i64 t54),(66,.loc 5 1),(67,.slice 77 2 (jm t67)),(68,.int .i64 t68),(69,.imm (sO t69)),(70,.imm [.int .i64 t70.ar]),(71,.int .i64 t71),(72,.bool t72),(73,.bool false)],[(5,.flat 63 (dX b5))]⟩
def Gj (t53 t54:Int) (t67:List aL) (t68:Int) (t69 t70:aL) (t71:Int) (t72:Bool) (b5:aj):LS:=⟨[(5,.loc 5 0),(53,.int .i64 t53),(54,.int .i64 t54),(66,.loc 5 1),(67,.slice 77 2 (jm t67)),(68,.int .i64 t68),(69,.imm (sO t69)),(70,.imm [.int .i64 t70.ar]),(71,.int .i64 t71),(72,.bool t72),(73,.bool false)],[(5,.flat 63 (dX b5))]⟩
def yH (t53 t54:Int) (b5:aj):LS:=⟨[(5,.loc 5 0),(53,.int .i64 t53),(54,.int .i64 t54)],[(5,.flat 63 (dX b5))]⟩
def Gi:LS:=⟨[],[]⟩
def Gg (b5:aj):LS:=⟨[(5,.loc 5 0)],[(5,.flat 63 (dX b5))]⟩
def QY (s0:J) (i1:Int):LS:=⟨[(0,.agg (aX s0)),(1,.int .i64 i1)],[]⟩
def EM (k_5 : aj → Option Bool) (back : Int → Int → J → aj → Option Bool) (n : Nat) (i1 k6 : Int) (b2 : J) (b5 : aj) : Option Bool :=
 if decide (k6 < i1) then
 (idx b2.ae k6).bind fun x7 =>
 if decide (x7.bk = b5.bk) then
 some false
 else
 back i1 (w64 (k6 + 1)) b2 b5
 else
 k_5 b5
theorem aeU {k_5} (fY : K1 (A83 [1, 1, 1, 1]) Gg k_5) {back} (ay : K4 (A83 [0, 1, 0, 1, 1, 1]) Gl back) (n : Nat) : K4 (A83 [0, 1, 0, 1, 1, 1]) Gl (EM k_5 back n) := fun i1 k6 b2 b5 r h =>
 ie h (fun c0 h =>
 be h fun x7 hx7 h =>
 ie h (fun c1 h =>
 rr h [(2, eb c0), (3, R62.idx hx7), (4, eb c1)]) (fun c1 h =>
 ra (ay h) [(2, eb c0), (3, R62.idx hx7), (4, eb c1)])) (fun c0 h =>
 ra (fY h) [(2, eb c0)])
def wg (k_5:aj→Option Bool):Nat→Int→Int→J→aj→Option Bool
 |0,_,_,_,_=>none
 |n+1,i1,k6,b2,b5=>EM k_5 (wg k_5 n) n i1 k6 b2 b5
theorem YI {k_5} (fY:K1 (A83 [1,1,1,1]) Gg k_5):∀n:Nat,K4 (A83 [0,1,0,1,1,1]) Gl (wg k_5 n)
 |0=>fun _ _ _ _ _ h=>nz h
 |n+1=>fun _ _ _ _ _ h=>aeU fY (YI fY n) n h
def EL (k_2 : Int → Int → (List aL) → Int → aL → aL → Int → Bool → aj → Option Bool) (back : Int → Int → Int → Int → (List aL) → Int → aL → aL → Int → Bool → aj → Option Bool) (n : Nat) (c7 k8 t53 t54 : Int) (t67 : List aL) (t68 : Int) (t69 t70 : aL) (t71 : Int) (t72 : Bool) (b5 : aj) : Option Bool :=
 if decide (k8 < c7) then
 (idx b5.af k8).bind fun x7 =>
 (idx b5.af c7).bind fun x14 =>
 if decide (x7.bk = x14.bk) then
 some false
 else
 back c7 (w64 (k8 + 1)) t53 t54 t67 t68 t69 t70 t71 t72 b5
 else
 k_2 t53 t54 t67 t68 t69 t70 t71 t72 b5
theorem aeT {k_2} (bW : K9 (A83 [1, 1, 1, 0, 0, 1, 0, 1, 1, 1, 1]) Gj k_2) {back} (ay : K11 (A83 [0, 1, 1, 1, 0, 0, 1, 1, 0, 0, 1, 0, 1, 1, 1, 1]) Gk back) (n : Nat) : K11 (A83 [0, 1, 1, 1, 0, 0, 1, 1, 0, 0, 1, 0, 1, 1, 1, 1]) Gk (EL k_2 back n) := fun c7 k8 t53 t54 t67 t68 t69 t70 t71 t72 b5 r h =>
 ie h (fun c0 h =>
 be h fun x7 hx7 h =>
 be h fun x14 gN h =>
 ie h (fun c1 h =>
 rr h [(2, eb c0), (3, R76.idx hx7), (5, R76.idx gN), (2, eb c1)]) (fun c1 h =>
 ra (ay h) [(2, eb c0), (3, R76.idx hx7), (5, R76.idx gN), (2, eb c1)])) (fun c0 h =>
 ra (bW h) [(2, eb c0)])
def we (k_2:Int→Int→(List aL)→Int→aL→aL→Int→Bool→aj→Option Bool):Nat→Int→Int→Int→Int→(List aL)→Int→aL→aL→Int→Bool→aj→Option Bool
 |0,_,_,_,_,_,_,_,_,_,_,_=>none
 |n+1,c7,k8,t53,t54,t67,t68,t69,t70,t71,t72,b5=>EL k_2 (we k_2 n) n c7 k8 t53 t54 t67 t68 t69 t70 t71 t72 b5
theorem YH {k_2} (bW:K9 (A83 [1,1,1,0,0,1,0,1,1,1,1]) Gj k_2):∀n:Nat,K11 (A83 [0,1,1,1,0,0,1,1,0,0,1,0,1,1,1,1]) Gk (we k_2 n)
 |0=>fun _ _ _ _ _ _ _ _ _ _ _ _ h=>nz h
 |n+1=>fun _ _ _ _ _ _ _ _ _ _ _ _ h=>aeT bW (YH bW n) n h
def EK (k_3 : Int → Int → aj → Option Bool) (n : Nat) (t53 t54 : Int) (t67 : List aL) (t68 : Int) (t69 t70 : aL) (t71 : Int) (t72 : Bool) (b5 : aj) : Option Bool :=
 k_3 t53 (w64 (t54 + 1)) b5
theorem aeS {k_3} (bE : K3 (A83 [0, 1, 0, 1, 1, 1, 1]) yH k_3) (n : Nat) : K9 (A83 [1, 1, 1, 0, 0, 1, 0, 1, 1, 1, 1]) Gj (EK k_3 n) := fun t53 t54 t67 t68 t69 t70 t71 t72 b5 r h =>
 ra (bE h) []
def EJ (k_4 : Option Bool) (back : Int → Int → aj → Option Bool) (n : Nat) (t53 t54 : Int) (b5 : aj) : Option Bool :=
 if decide (t54 < t53) then
 (idx b5.af t54).bind fun x7 =>
 (J5 n x7.bk).bind fun x11 =>
 if !x11 then
 some false
 else
 (idx b5.af t54).bind fun x18 =>
 (J4 n x18.ar).bind fun x22 =>
 if !x22 then
 some false
 else
 we (EK back n) n t54 0 t53 t54 b5.af t54 x18 x18 x18.ar x22 b5
 else
 k_4
theorem aeR {k_4} (g8 : K0 (A83 [1, 1, 1, 1, 1]) Gi k_4) {back} (ay : K3 (A83 [0, 1, 0, 1, 1, 1, 1]) yH back) (n : Nat) : K3 (A83 [0, 1, 0, 1, 1, 1, 1]) yH (EJ k_4 back n) := fun t53 t54 b5 r h =>
 ie h (fun c0 h =>
 be h fun x7 hx7 h =>
 be h fun x11 cF h =>
 ie h (fun c1 h =>
 rr h [(0, eb c0), (5, R76.idx hx7), (2, .call (pX n cF) [] [] []), (0, eb c1)]) (fun c1 h =>
 be h fun x18 g7 h =>
 be h fun x22 oJ h =>
 ie h (fun c2 h =>
 rr h [(0, eb c0), (5, R76.idx hx7), (2, .call (pX n cF) [] [] []), (0, eb c1), (4, R76.idx g7), (2, .call (Eg n oJ) [] [] []), (0, eb c2)]) (fun c2 h =>
 ra (YH (aeS ay n) n h) [(0, eb c0), (5, R76.idx hx7), (2, .call (pX n cF) [] [] []), (0, eb c1), (4, R76.idx g7), (2, .call (Eg n oJ) [] [] []), (0, eb c2)]))) (fun c0 h =>
 ra (g8 h) [(0, eb c0)])
def td (k_4:Option Bool):Nat→Int→Int→aj→Option Bool
 |0,_,_,_=>none
 |n+1,t53,t54,b5=>EJ k_4 (td k_4 n) n t53 t54 b5
theorem YG {k_4} (g8:K0 (A83 [1,1,1,1,1]) Gi k_4):∀n:Nat,K3 (A83 [0,1,0,1,1,1,1]) yH (td k_4 n)
 |0=>fun _ _ _ _ h=>nz h
 |n+1=>fun _ _ _ _ h=>aeR g8 (YG g8 n) n h
def AE (n : Nat) : Option Bool :=
 some true
theorem aeQ (n : Nat) : K0 (A83 [1, 1, 1, 1, 1]) Gi (AE n) := fun r h =>
 rr h []
def EI (n : Nat) (b5 : aj) : Option Bool :=
 td (AE n) n (b5.af.length : Int) 0 b5
theorem aeP (n : Nat) : K1 (A83 [1, 1, 1, 1]) Gg (EI n) := fun b5 r h =>
 ra (YG (aeQ n) n h) [(2, .eqv (R76.au b5.af))]
def Qa (n : Nat) (s0 : J) (i1 : Int) : Option Bool :=
 (idx s0.ae i1).bind fun x6 =>
 (J5 n x6.bk).bind fun x13 =>
 if !x13 then
 some false
 else
 if (x6.af.length : Int) == 0 then
 some false
 else
 if decide (x6.az < 1) then
 some false
 else
 if decide ((x6.af.length : Int) < x6.az) then
 some false
 else
 wg (EI n) n i1 0 s0 x6
theorem aeO (n : Nat) : K2 (A83 []) QY (Qa n) := fun s0 i1 r h =>
 be h fun x6 hx6 h =>
 be h fun x13 bT h =>
 ie h (fun c0 h =>
 rr h [(5, R62.idx hx6), (5, .call (pX n bT) [] [] []), (0, eb c0)]) (fun c0 h =>
 ie h (fun c1 h =>
 rr h [(5, R62.idx hx6), (5, .call (pX n bT) [] [] []), (0, eb c0), (3, .eqv (R76.au x6.af)), (0, eb c1)]) (fun c1 h =>
 ie h (fun c2 h =>
 rr h [(5, R62.idx hx6), (5, .call (pX n bT) [] [] []), (0, eb c0), (3, .eqv (R76.au x6.af)), (0, eb c1), (4, eb c2)]) (fun c2 h =>
 ie h (fun c3 h =>
 rr h [(5, R62.idx hx6), (5, .call (pX n bT) [] [] []), (0, eb c0), (3, .eqv (R76.au x6.af)), (0, eb c1), (4, eb c2), (6, .eqv (R76.au x6.af)), (0, eb c3)]) (fun c3 h =>
 ra (YI (aeP n) n h) [(5, R62.idx hx6), (5, .call (pX n bT) [] [] []), (0, eb c0), (3, .eqv (R76.au x6.af)), (0, eb c1), (4, eb c2), (6, .eqv (R76.au x6.af)), (0, eb c3)]))))
def F83 (n:Nat) (s0:J) (i1:Int):Option Bool:=Qa n s0 i1
theorem ev83 (n:Nat):K2 C83 QY (F83 n):=fun _ _ _ h=>ca (X:=x83) (aeO n h)
end Go.Proofs.YtmealahmjddpcaaGreatDoor
end
noncomputable section
set_option maxRecDepth 100000
namespace Go.Proofs.YtmealahmjddpcaaGreatDoor
open Go.Sim
def XN (r:Bool):AV:=.bool r
def SC (r:Bool):List (Nat×Bx):= []
def x84:=fx E0 Tryz.f84 [] []
def A84:=Ax x84 XN SC
def C84:=Cx E0 84 XN SC
def Gf (t16:List aB) (t17 t18 t27:Int) (t29:List aj) (t30:Int) (t35:List Int) (t36:Int) (t38:List aj) (t40:Int) (t41 t42:aj) (t43:Int) (t47:List Int) (t48 t49:Int) (b2:J) (b5:aj) (b7:aB):LS:=⟨[(2,.loc 2 0),(5,.loc 5 0),(7,.loc 7 0),(16,.slice 80 2 (gj t16)),(17,.int .i64 t17),(18,.int .i64 t18),(26,.loc 7 1),(27,.int .i64 t27),(28,.loc 2 1),(29,.slice 63 5 (cD t29)),(30,.int .i64 t30),(31,.bool false),(34,.loc 7 0),(35,.slice 3 1 (aR t35)),(36,.int .i64 t36),(37,.loc 2 1),(38,.slice 63 5 (cD t38)),(39,.loc 7 1),(40,.int .i64 t40),(41,.imm (dX t41)),(42,.imm [.int .i64 t42.az,.slice 80 2 (gj t42.aU),.slice 84 13 (dV t42.bK)]),(43,.int .i64 t43),(44,.bool false),(47,.slice 3 1 (aR t47)),(48,.int .i64 t48),(49,.int .i64 t49)],[(2,.flat 26 (aX b2)),(5,.flat 63 (dX b5)),(7,.flat 80 (pY b7))]⟩
def Ge (t16:List aB) (t17 t18 t27:Int) (t29:List aj) (t30:Int) (t35:List Int) (t36:Int) (t38:List aj) (t40:Int) (t41 t42:aj) (t43:Int) (b2:J) (b5:aj) (b7:aB):LS:=⟨[(2,.loc 2 0),(5,.loc 5 0),(16,.slice 80 2 (gj t16)),(17,.int .i64 t17),(18,.int .i64 t18),(26,.loc 7 1),(27,.int .i64 t27),(28,.loc 2 1),(29,.slice 63 5 (cD t29)),(30,.int .i64 t30),(31,.bool false),(34,.loc 7 0),(35,.slice 3 1 (aR t35)),(36,.int .i64 t36),(37,.loc 2 1),(38,.slice 63 5 (cD t38)),(39,.loc 7 1),(40,.int .i64 t40),(41,.imm (dX t41)),(42,.imm [.int .i64 t42.az,.slice 80 2 (gj t42.aU),.slice 84 13 (dV t42.bK)]),(43,.int .i64 t43),(44,.bool false)],[(2,.flat 26 (aX b2)),(5,.flat 63 (dX b5)),(7,.flat 80 (pY b7))]⟩
def yG (t16:List aB) (t17 t18:Int) (b2:J) (b5:aj):LS:=⟨[(2,.loc 2 0),(5,.loc 5 0),(16,.slice 80 2 (gj t16)),(17,.int .i64 t17),(18,.int .i64 t18)],[(2,.flat 26 (aX b2)),(5,.flat 63 (dX b5))]⟩
def Gd:LS:=⟨[],[]⟩
def QX (s0:J) (i1:Int):LS:=⟨[(0,.agg (aX s0)),(1,.int .i64 i1)],[]⟩
def EH (k_1 : (List aB) → Int → Int → Int → (List aj) → Int → (List Int) → Int → (List aj) → Int → aj → aj → Int → J → aj → aB → Option Bool) (back : (List aB) → Int → Int → Int → (List aj) → Int → (List Int) → Int → (List aj) → Int → aj → aj → Int → (List Int) → Int → Int → J → aj → aB → Option Bool) (n : Nat) (t16 : List aB) (t17 t18 t27 : Int) (t29 : List aj) (t30 : Int) (t35 : List Int) (t36 : Int) (t38 : List aj) (t40 : Int) (t41 t42 : aj) (t43 : Int) (t47 : List Int) (t48 t49 : Int) (b2 : J) (b5 : aj) (b7 : aB) : Option Bool :=
 if decide (t49 < t48) then
 (idx t47 t49).bind fun x3 =>
 if decide (x3 < 0) then
 some false
 else
 if !decide (x3 < (b5.af.length : Int)) then
 some false
 else
 (idx b5.af x3).bind fun x21 =>
 (idx b2.ae b7.aD).bind fun x29 =>
 (idx x29.af t49).bind fun x34 =>
 if x21.ar != x34.ar then
 some false
 else
 back t16 t17 t18 t27 t29 t30 t35 t36 t38 t40 t41 t42 t43 t47 t48 (w64 (t49 + 1)) b2 b5 b7
 else
 k_1 t16 t17 t18 t27 t29 t30 t35 t36 t38 t40 t41 t42 t43 b2 b5 b7
theorem aeN {k_1} (aH : K16 (A84 [1, 1, 1, 0, 0, 1, 0, 1, 1]) Ge k_1) {back} (ay : K19 (A84 [0, 1, 1, 1, 0, 0, 1, 1, 0, 0, 1, 0, 1, 1]) Gf back) (n : Nat) : K19 (A84 [0, 1, 1, 1, 0, 0, 1, 1, 0, 0, 1, 0, 1, 1]) Gf (EH k_1 back n) := fun t16 t17 t18 t27 t29 t30 t35 t36 t38 t40 t41 t42 t43 t47 t48 t49 b2 b5 b7 r h =>
 ie h (fun c0 h =>
 be h fun x3 hx3 h =>
 ie h (fun c1 h =>
 rr h [(0, eb c0), (1, R3.idx hx3), (4, eb c1)]) (fun c1 h =>
 ie h (fun c2 h =>
 rr h [(0, eb c0), (1, R3.idx hx3), (4, eb c1), (4, .eqv (R76.au b5.af)), (0, eb c2)]) (fun c2 h =>
 be h fun x21 iK h =>
 be h fun x29 Cl h =>
 be h fun x34 ss h =>
 ie h (fun c3 h =>
 rr h [(0, eb c0), (1, R3.idx hx3), (4, eb c1), (4, .eqv (R76.au b5.af)), (0, eb c2), (5, R76.idx iK), (6, R62.idx Cl), (3, R76.idx ss), (2, eb c3)]) (fun c3 h =>
 ra (ay h) [(0, eb c0), (1, R3.idx hx3), (4, eb c1), (4, .eqv (R76.au b5.af)), (0, eb c2), (5, R76.idx iK), (6, R62.idx Cl), (3, R76.idx ss), (2, eb c3)])))) (fun c0 h =>
 ra (aH h) [(0, eb c0)])
def wc (k_1:(List aB)→Int→Int→Int→(List aj)→Int→(List Int)→Int→(List aj)→Int→aj→aj→Int→J→aj→aB→Option Bool):Nat→(List aB)→Int→Int→Int→(List aj)→Int→(List Int)→Int→(List aj)→Int→aj→aj→Int→(List Int)→Int→Int→J→aj→aB→Option Bool
 |0,_,_,_,_,_,_,_,_,_,_,_,_,_,_,_,_,_,_,_=>none
 |n+1,t16,t17,t18,t27,t29,t30,t35,t36,t38,t40,t41,t42,t43,t47,t48,t49,b2,b5,b7=>EH k_1 (wc k_1 n) n t16 t17 t18 t27 t29 t30 t35 t36 t38 t40 t41 t42 t43 t47 t48 t49 b2 b5 b7
theorem YF {k_1} (aH:K16 (A84 [1,1,1,0,0,1,0,1,1]) Ge k_1):∀n:Nat,K19 (A84 [0,1,1,1,0,0,1,1,0,0,1,0,1,1]) Gf (wc k_1 n)
 |0=>fun _ _ _ _ _ _ _ _ _ _ _ _ _ _ _ _ _ _ _ _ h=>nz h
 |n+1=>fun _ _ _ _ _ _ _ _ _ _ _ _ _ _ _ _ _ _ _ _ h=>aeN aH (YF aH n) n h
def EG (k_2 : (List aB) → Int → Int → J → aj → Option Bool) (n : Nat) (t16 : List aB) (t17 t18 t27 : Int) (t29 : List aj) (t30 : Int) (t35 : List Int) (t36 : Int) (t38 : List aj) (t40 : Int) (t41 t42 : aj) (t43 : Int) (b2 : J) (b5 : aj) (b7 : aB) : Option Bool :=
 k_2 t16 t17 (w64 (t18 + 1)) b2 b5
theorem aeM {k_2} (bW : K5 (A84 [0, 1, 0, 1, 1]) yG k_2) (n : Nat) : K16 (A84 [1, 1, 1, 0, 0, 1, 0, 1, 1]) Ge (EG k_2 n) := fun t16 t17 t18 t27 t29 t30 t35 t36 t38 t40 t41 t42 t43 b2 b5 b7 r h =>
 ra (bW h) []
def EF (k_3 : Option Bool) (back : (List aB) → Int → Int → J → aj → Option Bool) (n : Nat) (t16 : List aB) (t17 t18 : Int) (b2 : J) (b5 : aj) : Option Bool :=
 if decide (t18 < t17) then
 (idx t16 t18).bind fun x2 =>
 if decide (x2.aD < 0) then
 some false
 else
 if !decide (x2.aD < (b2.ae.length : Int)) then
 some false
 else
 (idx b2.ae x2.aD).bind fun x26 =>
 if (x2.af.length : Int) != x26.az then
 some false
 else
 wc (EG back n) n t16 t17 t18 x2.aD b2.ae (b2.ae.length : Int) x2.af (x2.af.length : Int) b2.ae x2.aD x26 x26 x26.az x2.af (x2.af.length : Int) 0 b2 b5 x2
 else
 k_3
theorem aeL {k_3} (bE : K0 (A84 [1, 1, 1]) Gd k_3) {back} (ay : K5 (A84 [0, 1, 0, 1, 1]) yG back) (n : Nat) : K5 (A84 [0, 1, 0, 1, 1]) yG (EF k_3 back n) := fun t16 t17 t18 b2 b5 r h =>
 ie h (fun c0 h =>
 be h fun x2 hx2 h =>
 ie h (fun c1 h =>
 rr h [(0, eb c0), (0, R79.idx hx2), (5, eb c1)]) (fun c1 h =>
 ie h (fun c2 h =>
 rr h [(0, eb c0), (0, R79.idx hx2), (5, eb c1), (5, .eqv (R62.au b2.ae)), (0, eb c2)]) (fun c2 h =>
 be h fun x26 oH h =>
 ie h (fun c3 h =>
 rr h [(0, eb c0), (0, R79.idx hx2), (5, eb c1), (5, .eqv (R62.au b2.ae)), (0, eb c2), (4, .eqv (R3.au x2.af)), (4, R62.idx oH), (2, eb c3)]) (fun c3 h =>
 ra (YF (aeM ay n) n h) [(0, eb c0), (0, R79.idx hx2), (5, eb c1), (5, .eqv (R62.au b2.ae)), (0, eb c2), (4, .eqv (R3.au x2.af)), (4, R62.idx oH), (2, eb c3), (3, .eqv (R3.au x2.af))])))) (fun c0 h =>
 ra (bE h) [(0, eb c0)])
def ta (k_3:Option Bool):Nat→(List aB)→Int→Int→J→aj→Option Bool
 |0,_,_,_,_,_=>none
 |n+1,t16,t17,t18,b2,b5=>EF k_3 (ta k_3 n) n t16 t17 t18 b2 b5
theorem YE {k_3} (bE:K0 (A84 [1,1,1]) Gd k_3):∀n:Nat,K5 (A84 [0,1,0,1,1]) yG (ta k_3 n)
 |0=>fun _ _ _ _ _ _ h=>nz h
 |n+1=>fun _ _ _ _ _ _ h=>aeL bE (YE bE n) n h
def AD (n : Nat) : Option Bool :=
 some true
theorem aeK (n : Nat) : K0 (A84 [1, 1, 1]) Gd (AD n) := fun r h =>
 rr h []
def P9 (n : Nat) (s0 : J) (i1 : Int) : Option Bool :=
 (idx s0.ae i1).bind fun x6 =>
 ta (AD n) n x6.aU (x6.aU.length : Int) 0 s0 x6
theorem aeJ (n : Nat) : K2 (A84 []) QX (P9 n) := fun s0 i1 r h =>
 be h fun x6 hx6 h =>
 ra (YE (aeK n) n h) [(5, R62.idx hx6), (5, .eqv (R79.au x6.aU))]
def F84 (n:Nat) (s0:J) (i1:Int):Option Bool:=P9 n s0 i1
theorem ev84 (n:Nat):K2 C84 QX (F84 n):=fun _ _ _ h=>ca (X:=x84) (aeJ n h)
def X5 (r:Int):AV:=.int .i64 r
def SY (r:Int):List (Nat×Bx):= []
def x44:=fx E0 Tryz.f44 [] []
def A44:=Ax x44 X5 SY
def C44:=Cx E0 44 X5 SY
def GM (t16:List aj) (t17 t18:Int) (b1:J):LS:=⟨[(1,.loc 1 0),(16,.slice 63 5 (cD t16)),(17,.int .i64 t17),(18,.int .i64 t18)],[(1,.flat 26 (aX b1))]⟩
def GL (t49 t50:Int) (b1:J):LS:=⟨[(1,.loc 1 0),(49,.int .i64 t49),(50,.int .i64 t50)],[(1,.flat 26 (aX b1))]⟩
def GK (t60 t61:Int) (b1:J):LS:=⟨[(1,.loc 1 0),(60,.int .i64 t60),(61,.int .i64 t61)],[(1,.flat 26 (aX b1))]⟩
def GJ (i7 t71 t72:Int) (t80:List ag) (t81 t82:Int) (b1:J):LS:=⟨[(1,.loc 1 0),(7,.int .i64 i7),(71,.int .i64 t71),(72,.int .i64 t72),(80,.slice 84 13 (dV t80)),(81,.int .i64 t81),(82,.int .i64 t82)],[(1,.flat 26 (aX b1))]⟩
def GI (t71 t72:Int) (b1:J):LS:=⟨[(1,.loc 1 0),(71,.int .i64 t71),(72,.int .i64 t72)],[(1,.flat 26 (aX b1))]⟩
def yL (t71 t72:Int) (b1:J):LS:=⟨[(1,.loc 1 0),(71,.int .i64 t71),(72,.int .i64 t72)],[(1,.flat 26 (aX b1))]⟩
def GH:LS:=⟨[],[]⟩
def GG (b1:J):LS:=⟨[(1,.loc 1 0)],[(1,.flat 26 (aX b1))]⟩
def GF (b1:J):LS:=⟨[(1,.loc 1 0)],[(1,.flat 26 (aX b1))]⟩
def GD (b1:J):LS:=⟨[(1,.loc 1 0)],[(1,.flat 26 (aX b1))]⟩
def LA (s0:J):LS:=⟨[(0,.agg (aX s0))],[]⟩
def Ff (k_9 : J → Option Int) (back : (List aj) → Int → Int → J → Option Int) (n : Nat) (t16 : List aj) (t17 t18 : Int) (b1 : J) : Option Int :=
 if decide (t18 < t17) then
 (idx t16 t18).bind fun x2 =>
 if decide (8 < (x2.af.length : Int)) then
 some 2
 else
 if decide (4 < (x2.aU.length : Int)) then
 some 2
 else
 if decide (4 < (x2.bK.length : Int)) then
 some 2
 else
 back t16 t17 (w64 (t18 + 1)) b1
 else
 k_9 b1
theorem afO {k_9} (ON : K1 (A44 [1, 1, 1]) GD k_9) {back} (ay : K4 (A44 [0, 1, 0, 1, 1]) GM back) (n : Nat) : K4 (A44 [0, 1, 0, 1, 1]) GM (Ff k_9 back n) := fun t16 t17 t18 b1 r h =>
 ie h (fun c0 h =>
 be h fun x2 hx2 h =>
 ie h (fun c1 h =>
 rr h [(0, eb c0), (0, R62.idx hx2), (5, .eqv (R76.au x2.af)), (0, eb c1)]) (fun c1 h =>
 ie h (fun c2 h =>
 rr h [(0, eb c0), (0, R62.idx hx2), (5, .eqv (R76.au x2.af)), (0, eb c1), (3, .eqv (R79.au x2.aU)), (0, eb c2)]) (fun c2 h =>
 ie h (fun c3 h =>
 rr h [(0, eb c0), (0, R62.idx hx2), (5, .eqv (R76.au x2.af)), (0, eb c1), (3, .eqv (R79.au x2.aU)), (0, eb c2), (4, .eqv (R83.au x2.bK)), (0, eb c3)]) (fun c3 h =>
 ra (ay h) [(0, eb c0), (0, R62.idx hx2), (5, .eqv (R76.au x2.af)), (0, eb c1), (3, .eqv (R79.au x2.aU)), (0, eb c2), (4, .eqv (R83.au x2.bK)), (0, eb c3)])))) (fun c0 h =>
 ra (ON h) [(0, eb c0)])
def wz (k_9:J→Option Int):Nat→(List aj)→Int→Int→J→Option Int
 |0,_,_,_,_=>none
 |n+1,t16,t17,t18,b1=>Ff k_9 (wz k_9 n) n t16 t17 t18 b1
theorem YX {k_9} (ON:K1 (A44 [1,1,1]) GD k_9):∀n:Nat,K4 (A44 [0,1,0,1,1]) GM (wz k_9 n)
 |0=>fun _ _ _ _ _ h=>nz h
 |n+1=>fun _ _ _ _ _ h=>afO ON (YX ON n) n h
def Fe (k_8 : J → Option Int) (back : Int → Int → J → Option Int) (n : Nat) (t49 t50 : Int) (b1 : J) : Option Int :=
 if decide (t50 < t49) then
 (F83 n b1 t50).bind fun x6 =>
 if !x6 then
 some 70
 else
 back t49 (w64 (t50 + 1)) b1
 else
 k_8 b1
theorem afN {k_8} (OO : K1 (A44 [1, 1, 1, 1, 1]) GF k_8) {back} (ay : K3 (A44 [0, 1, 0, 1, 1, 1, 1]) GL back) (n : Nat) : K3 (A44 [0, 1, 0, 1, 1, 1, 1]) GL (Fe k_8 back n) := fun t49 t50 b1 r h =>
 ie h (fun c0 h =>
 be h fun x6 hx6 h =>
 ie h (fun c1 h =>
 rr h [(0, eb c0), (4, .call (ev83 n hx6) [] [] []), (0, eb c1)]) (fun c1 h =>
 ra (ay h) [(0, eb c0), (4, .call (ev83 n hx6) [] [] []), (0, eb c1)])) (fun c0 h =>
 ra (OO h) [(0, eb c0)])
def wy (k_8:J→Option Int):Nat→Int→Int→J→Option Int
 |0,_,_,_=>none
 |n+1,t49,t50,b1=>Fe k_8 (wy k_8 n) n t49 t50 b1
theorem YW {k_8} (OO:K1 (A44 [1,1,1,1,1]) GF k_8):∀n:Nat,K3 (A44 [0,1,0,1,1,1,1]) GL (wy k_8 n)
 |0=>fun _ _ _ _ h=>nz h
 |n+1=>fun _ _ _ _ h=>afN OO (YW OO n) n h
def Fc (k_7 : J → Option Int) (back : Int → Int → J → Option Int) (n : Nat) (t60 t61 : Int) (b1 : J) : Option Int :=
 if decide (t61 < t60) then
 (F84 n b1 t61).bind fun x6 =>
 if !x6 then
 some 70
 else
 back t60 (w64 (t61 + 1)) b1
 else
 k_7 b1
theorem afM {k_7} (OP : K1 (A44 [1, 1, 1, 1, 1, 1]) GG k_7) {back} (ay : K3 (A44 [0, 1, 0, 1, 1, 1, 1, 1]) GK back) (n : Nat) : K3 (A44 [0, 1, 0, 1, 1, 1, 1, 1]) GK (Fc k_7 back n) := fun t60 t61 b1 r h =>
 ie h (fun c0 h =>
 be h fun x6 hx6 h =>
 ie h (fun c1 h =>
 rr h [(0, eb c0), (4, .call (ev84 n hx6) [] [] []), (0, eb c1)]) (fun c1 h =>
 ra (ay h) [(0, eb c0), (4, .call (ev84 n hx6) [] [] []), (0, eb c1)])) (fun c0 h =>
 ra (OP h) [(0, eb c0)])
def wx (k_7:J→Option Int):Nat→Int→Int→J→Option Int
 |0,_,_,_=>none
 |n+1,t60,t61,b1=>Fc k_7 (wx k_7 n) n t60 t61 b1
theorem YV {k_7} (OP:K1 (A44 [1,1,1,1,1,1]) GG k_7):∀n:Nat,K3 (A44 [0,1,0,1,1,1,1,1]) GK (wx k_7 n)
 |0=>fun _ _ _ _ h=>nz h
 |n+1=>fun _ _ _ _ h=>afM OP (YV OP n) n h
def Fb (k_4 : Int → Int → J → Option Int) (back : Int → Int → Int → (List ag) → Int → Int → J → Option Int) (n : Nat) (i7 t71 t72 : Int) (t80 : List ag) (t81 t82 : Int) (b1 : J) : Option Int :=
 if decide (t82 < t81) then
 (idx t80 t82).bind fun x2 =>
 (F32 n b1 i7).bind fun x9 =>
 (F73 n x9 [] x2).bind fun x12 =>
 if x12 != 0 then
 some x12
 else
 back i7 t71 t72 t80 t81 (w64 (t82 + 1)) b1
 else
 k_4 t71 t72 b1
theorem afL {k_4} (g8 : K3 (A44 [1, 1, 1, 0, 0, 1, 0, 1, 1, 1, 1, 1, 1]) GI k_4) {back} (ay : K7 (A44 [0, 1, 1, 0, 0, 1, 1, 0, 0, 1, 0, 1, 1, 1, 1, 1, 1]) GJ back) (n : Nat) : K7 (A44 [0, 1, 1, 0, 0, 1, 1, 0, 0, 1, 0, 1, 1, 1, 1, 1, 1]) GJ (Fb k_4 back n) := fun i7 t71 t72 t80 t81 t82 b1 r h =>
 ie h (fun c0 h =>
 be h fun x2 hx2 h =>
 be h fun x9 hx9 h =>
 be h fun x12 eA h =>
 ie h (fun c1 h =>
 rr h [(0, eb c0), (0, R83.idx hx2), (5, .call (cd (e := 3) (z := true) (Q := aR x9) (jz n hx9) (R3.len x9)) [] [] []), (1, .call (OX n eA) [.one (.sl 0 0), .one (.sl 3 1)] [] []), (2, eb c1)]) (fun c1 h =>
 ra (ay h) [(0, eb c0), (0, R83.idx hx2), (5, .call (cd (e := 3) (z := true) (Q := aR x9) (jz n hx9) (R3.len x9)) [] [] []), (1, .call (OX n eA) [.one (.sl 0 0), .one (.sl 3 1)] [] []), (2, eb c1)])) (fun c0 h =>
 ra (g8 h) [(0, eb c0)])
def wu (k_4:Int→Int→J→Option Int):Nat→Int→Int→Int→(List ag)→Int→Int→J→Option Int
 |0,_,_,_,_,_,_,_=>none
 |n+1,i7,t71,t72,t80,t81,t82,b1=>Fb k_4 (wu k_4 n) n i7 t71 t72 t80 t81 t82 b1
theorem YU {k_4} (g8:K3 (A44 [1,1,1,0,0,1,0,1,1,1,1,1,1]) GI k_4):∀n:Nat,K7 (A44 [0,1,1,0,0,1,1,0,0,1,0,1,1,1,1,1,1]) GJ (wu k_4 n)
 |0=>fun _ _ _ _ _ _ _ _ h=>nz h
 |n+1=>fun _ _ _ _ _ _ _ _ h=>afL g8 (YU g8 n) n h
def Fa (k_5 : Int → Int → J → Option Int) (n : Nat) (t71 t72 : Int) (b1 : J) : Option Int :=
 k_5 t71 (w64 (t72 + 1)) b1
theorem afK {k_5} (fY : K3 (A44 [0, 1, 0, 1, 1, 1, 1, 1, 1]) yL k_5) (n : Nat) : K3 (A44 [1, 1, 1, 0, 0, 1, 0, 1, 1, 1, 1, 1, 1]) GI (Fa k_5 n) := fun t71 t72 b1 r h =>
 ra (fY h) []
def E9 (k_6 : Option Int) (back : Int → Int → J → Option Int) (n : Nat) (t71 t72 : Int) (b1 : J) : Option Int :=
 if decide (t72 < t71) then
 (idx b1.ae t72).bind fun x7 =>
 wu (Fa back n) n t72 t71 t72 x7.bK (x7.bK.length : Int) 0 b1
 else
 k_6
theorem afJ {k_6} (qx : K0 (A44 [1, 1, 1, 1, 1, 1, 1]) GH k_6) {back} (ay : K3 (A44 [0, 1, 0, 1, 1, 1, 1, 1, 1]) yL back) (n : Nat) : K3 (A44 [0, 1, 0, 1, 1, 1, 1, 1, 1]) yL (E9 k_6 back n) := fun t71 t72 b1 r h =>
 ie h (fun c0 h =>
 be h fun x7 hx7 h =>
 ra (YU (afK ay n) n h) [(0, eb c0), (5, R62.idx hx7), (2, .eqv (R83.au x7.bK))]) (fun c0 h =>
 ra (qx h) [(0, eb c0)])
def ti (k_6:Option Int):Nat→Int→Int→J→Option Int
 |0,_,_,_=>none
 |n+1,t71,t72,b1=>E9 k_6 (ti k_6 n) n t71 t72 b1
theorem YT {k_6} (qx:K0 (A44 [1,1,1,1,1,1,1]) GH k_6):∀n:Nat,K3 (A44 [0,1,0,1,1,1,1,1,1]) yL (ti k_6 n)
 |0=>fun _ _ _ _ h=>nz h
 |n+1=>fun _ _ _ _ h=>afJ qx (YT qx n) n h
def AK (n : Nat) : Option Int :=
 some 0
theorem afI (n : Nat) : K0 (A44 [1, 1, 1, 1, 1, 1, 1]) GH (AK n) := fun r h =>
 rr h []
def E8 (n : Nat) (b1 : J) : Option Int :=
 ti (AK n) n (b1.ae.length : Int) 0 b1
theorem afH (n : Nat) : K1 (A44 [1, 1, 1, 1, 1, 1]) GG (E8 n) := fun b1 r h =>
 ra (YT (afI n) n h) [(2, .eqv (R62.au b1.ae))]
def E7 (n : Nat) (b1 : J) : Option Int :=
 wx (E8 n) n (b1.ae.length : Int) 0 b1
theorem afG (n : Nat) : K1 (A44 [1, 1, 1, 1, 1]) GF (E7 n) := fun b1 r h =>
 ra (YV (afH n) n h) [(2, .eqv (R62.au b1.ae))]
def E6 (n : Nat) (b1 : J) : Option Int :=
 if decide (b1.bz < 0) then
 some 70
 else
 if decide (1000 < b1.bz) then
 some 70
 else
 wy (E7 n) n (b1.ae.length : Int) 0 b1
theorem afF (n : Nat) : K1 (A44 [1, 1, 1]) GD (E6 n) := fun b1 r h =>
 ie h (fun c0 h =>
 rr h [(2, eb c0)]) (fun c0 h =>
 ie h (fun c1 h =>
 rr h [(2, eb c0), (3, eb c1)]) (fun c1 h =>
 ra (YW (afG n) n h) [(2, eb c0), (3, eb c1), (3, .eqv (R62.au b1.ae))]))
def Kg (n : Nat) (s0 : J) : Option Int :=
 if decide (8 < (s0.ae.length : Int)) then
 some 2
 else
 wz (E6 n) n s0.ae (s0.ae.length : Int) 0 s0
theorem abX (n : Nat) : K1 (A44 []) LA (Kg n) := fun s0 r h =>
 ie h (fun c0 h =>
 rr h [(4, .eqv (R62.au s0.ae)), (0, eb c0)]) (fun c0 h =>
 ra (YX (afF n) n h) [(4, .eqv (R62.au s0.ae)), (0, eb c0), (2, .eqv (R62.au s0.ae))])
def F44 (n:Nat) (s0:J):Option Int:=Kg n s0
theorem WW (n:Nat):K1 C44 LA (F44 n):=fun _ _ h=>ca (X:=x44) (abX n h)
def R4 (r:(List Int)):AV:=.slice 3 1 (aR r)
def Mh (r:(List Int)):List (Nat×Bx):= []
def x114:=fx E0 Tryz.f114 [] []
def A114:=Ax x114 R4 Mh
def C114:=Cx E0 114 R4 Mh
def LM (s0:J) (aA:Int):LS:=⟨[(0,.agg (aX s0)),(1,.int .i64 aA)],[]⟩
def Kr (n : Nat) (s0 : J) (aA : Int) : Option (List Int) :=
 (F32 n s0 aA).bind fun x5 =>
 if x5.isEmpty then
 some []
 else
 (idx s0.ae aA).bind fun x14 =>
 (cut x5 none (some (if 0 < (if (x5.length : Int) < x14.az then (x5.length : Int) else x14.az) then (if (x5.length : Int) < x14.az then (x5.length : Int) else x14.az) else 0))).bind fun x22 =>
 some x22
theorem acj (n : Nat) : K2 (A114 []) LM (Kr n) := fun s0 aA r h =>
 be h fun x5 hx5 h =>
 ie h (fun c0 h =>
 rr h [(4, .call (jz n hx5) [] [] [(8, 200000)]), (2, R3.frz 8 x5), (0, .eqv ((R3.lY x5).trans (congrArg AV.bool c0))), (1, .norm [(4, .one (.sl 3 1))] [])]) (fun c0 h =>
 be h fun x14 gN h =>
 be h fun x22 oJ h =>
 rr h [(4, .call (jz n hx5) [] [] [(8, 200000)]), (2, R3.frz 8 x5), (0, .eqv ((R3.lY x5).trans (congrArg AV.bool c0))), (4, R62.idx gN), (3, .eqv (R3.au x5)), (2, R3.cut oJ)])
def PY (n:Nat) (s0:J) (aA:Int):Option (List Int):=Kr n s0 aA
theorem Zt (n:Nat):K2 C114 LM (PY n):=fun _ _ _ h=>ca (X:=x114) (acj n h)
def XM (r:Bool):AV:=.bool r
def SB (r:Bool):List (Nat×Bx):= []
def x85:=fx E0 Tryz.f85 [] []
def A85:=Ax x85 XM SB
def C85:=Cx E0 85 XM SB
def Gc (gx:List Int) (t18:List aa) (t19 t20:Int):LS:=⟨[(7,.slice 3 1 (aR gx)),(18,.slice 65 3 (aO t18)),(19,.int .i64 t19),(20,.int .i64 t20)],[]⟩
def Ga:LS:=⟨[],[]⟩
def QW (s0:J) (aA:Int) (bQ:List aa):LS:=⟨[(0,.agg (aX s0)),(1,.int .i64 aA),(2,.slice 65 3 (aO bQ))],[]⟩
def EE (k_1 : Option Bool) (back : (List Int) → (List aa) → Int → Int → Option Bool) (n : Nat) (gx : List Int) (t18 : List aa) (t19 t20 : Int) : Option Bool :=
 if decide (t20 < t19) then
 (idx t18 t20).bind fun x3 =>
 (F88 n x3).bind fun x10 =>
 if !x10 then
 some false
 else
 (idx gx t20).bind fun x18 =>
 if x3.ar != x18 then
 some false
 else
 back gx t18 t19 (w64 (t20 + 1))
 else
 k_1
theorem aeI {k_1} (aH : K0 (A85 [1, 1, 1, 1]) Ga k_1) {back} (ay : K4 (A85 [0, 1, 0, 1, 1, 1]) Gc back) (n : Nat) : K4 (A85 [0, 1, 0, 1, 1, 1]) Gc (EE k_1 back n) := fun gx t18 t19 t20 r h =>
 ie h (fun c0 h =>
 be h fun x3 hx3 h =>
 be h fun x10 cx h =>
 ie h (fun c1 h =>
 rr h [(0, eb c0), (1, R64.idx hx3), (5, .call (iv n cx) [] [] []), (0, eb c1)]) (fun c1 h =>
 be h fun x18 g7 h =>
 ie h (fun c2 h =>
 rr h [(0, eb c0), (1, R64.idx hx3), (5, .call (iv n cx) [] [] []), (0, eb c1), (5, R3.idx g7), (1, eb c2)]) (fun c2 h =>
 ra (ay h) [(0, eb c0), (1, R64.idx hx3), (5, .call (iv n cx) [] [] []), (0, eb c1), (5, R3.idx g7), (1, eb c2)]))) (fun c0 h =>
 ra (aH h) [(0, eb c0)])
def wa (k_1:Option Bool):Nat→(List Int)→(List aa)→Int→Int→Option Bool
 |0,_,_,_,_=>none
 |n+1,gx,t18,t19,t20=>EE k_1 (wa k_1 n) n gx t18 t19 t20
theorem YD {k_1} (aH:K0 (A85 [1,1,1,1]) Ga k_1):∀n:Nat,K4 (A85 [0,1,0,1,1,1]) Gc (wa k_1 n)
 |0=>fun _ _ _ _ _ h=>nz h
 |n+1=>fun _ _ _ _ _ h=>aeI aH (YD aH n) n h
def ED (n : Nat) : Option Bool :=
 some true
theorem aeH (n : Nat) : K0 (A85 [1, 1, 1, 1]) Ga (ED n) := fun r h =>
 rr h []
def P8 (n : Nat) (s0 : J) (aA : Int) (bQ : List aa) : Option Bool :=
 (PY n s0 aA).bind fun x5 =>
 if (x5.length : Int) != (bQ.length : Int) then
 some false
 else
 wa (ED n) n x5 bQ (bQ.length : Int) 0
theorem aeG (n : Nat) : K3 (A85 []) QW (P8 n) := fun s0 aA bQ r h =>
 be h fun x5 hx5 h =>
 ie h (fun c0 h =>
 rr h [(4, .call (Zt n hx5) [] [] []), (2, .eqv (R3.au x5)), (1, .eqv (R64.au bQ)), (0, eb c0)]) (fun c0 h =>
 ra (YD (aeH n) n h) [(4, .call (Zt n hx5) [] [] []), (2, .eqv (R3.au x5)), (1, .eqv (R64.au bQ)), (0, eb c0), (1, .eqv (R64.au bQ))])
def F85 (n:Nat) (s0:J) (aA:Int) (bQ:List aa):Option Bool:=P8 n s0 aA bQ
theorem sJ (n:Nat):K3 C85 QW (F85 n):=fun _ _ _ _ h=>ca (X:=x85) (aeG n h)
def XL (r:Bool):AV:=.bool r
def SA (r:Bool):List (Nat×Bx):= []
def x86:=fx E0 Tryz.f86 [] []
def A86:=Ax x86 XL SA
def C86:=Cx E0 86 XL SA
def abd (aA aG:Int) (t40:List aa) (t41 t42:Int) (t83:Bool) (b4:J):LS:=⟨[(1,.int .i64 aA),(3,.int .i64 aG),(4,.loc 4 0),(40,.slice 65 3 (aO t40)),(41,.int .i64 t41),(42,.int .i64 t42),(83,.bool t83)],[(4,.flat 26 (aX b4))]⟩
def QV (aA aG:Int) (t40:List aa) (t41 t42:Int) (b4:J):LS:=⟨[(1,.int .i64 aA),(3,.int .i64 aG),(4,.loc 4 0),(40,.slice 65 3 (aO t40)),(41,.int .i64 t41),(42,.int .i64 t42)],[(4,.flat 26 (aX b4))]⟩
def yF (aA aG:Int) (t40:List aa) (t41 t42:Int) (b4:J):LS:=⟨[(1,.int .i64 aA),(3,.int .i64 aG),(4,.loc 4 0),(40,.slice 65 3 (aO t40)),(41,.int .i64 t41),(42,.int .i64 t42)],[(4,.flat 26 (aX b4))]⟩
def F7:LS:=⟨[],[]⟩
def QU (s0:J) (aA:Int) (cf:List aa) (aG:Int):LS:=⟨[(0,.agg (aX s0)),(1,.int .i64 aA),(2,.slice 65 3 (aO cf)),(3,.int .i64 aG)],[]⟩
def lK (k_1 : Int → Int → (List aa) → Int → Int → J → Option Bool) (n : Nat) (aA aG : Int) (t40 : List aa) (t41 t42 : Int) (t83 : Bool) (b4 : J) : Option Bool :=
 if t83 then
 k_1 aA aG t40 t41 t42 b4
 else
 some false
theorem nN {k_1} (aH : K6 (A86 [1, 1, 1, 0, 0, 1, 0, 1, 1]) QV k_1) (n : Nat) : K7 (A86 [1, 1, 1, 1, 1, 1, 1, 0, 1, 0, 0, 1, 1, 0, 0, 1, 0, 1, 1]) abd (lK k_1 n) := fun aA aG t40 t41 t42 t83 b4 r h =>
 ie h (fun c0 g0 => by subst c0; exact (
 ra (aH g0) [])) (fun c0 g0 => by subst c0; exact (
 rr g0 []))
def jS (k_2 : Int → Int → (List aa) → Int → Int → J → Option Bool) (n : Nat) (aA aG : Int) (t40 : List aa) (t41 t42 : Int) (b4 : J) : Option Bool :=
 k_2 aA aG t40 t41 (w64 (t42 + 1)) b4
theorem lG {k_2} (bW : K6 (A86 [0, 1, 0, 1, 1]) yF k_2) (n : Nat) : K6 (A86 [1, 1, 1, 0, 0, 1, 0, 1, 1]) QV (jS k_2 n) := fun aA aG t40 t41 t42 b4 r h =>
 ra (bW h) []
def EC (k_3 : Option Bool) (back : Int → Int → (List aa) → Int → Int → J → Option Bool) (n : Nat) (aA aG : Int) (t40 : List aa) (t41 t42 : Int) (b4 : J) : Option Bool :=
 if decide (t42 < t41) then
 (idx t40 t42).bind fun x3 =>
 (F88 n x3).bind fun x10 =>
 if !x10 then
 some false
 else
 (idx b4.ae aA).bind fun x19 =>
 (idx x19.af t42).bind fun x24 =>
 if x3.ar == x24.ar then
 jS back n aA aG t40 t41 t42 b4
 else
 if x3.ar == 2 then
 if aG != 1 then
 (idx b4.ae aA).bind fun x42 =>
 if !decide (t42 < x42.az) then
 jS back n aA aG t40 t41 t42 b4
 else
 if x3.ar == 1 then
 if aG == 3 then
 (idx b4.ae aA).bind fun x61 =>
 lK (jS back n) n aA aG t40 t41 t42 (!decide (t42 < x61.az)) b4
 else
 lK (jS back n) n aA aG t40 t41 t42 false b4
 else
 lK (jS back n) n aA aG t40 t41 t42 false b4
 else
 if x3.ar == 1 then
 if aG == 3 then
 (idx b4.ae aA).bind fun x52 =>
 lK (jS back n) n aA aG t40 t41 t42 (!decide (t42 < x52.az)) b4
 else
 lK (jS back n) n aA aG t40 t41 t42 false b4
 else
 lK (jS back n) n aA aG t40 t41 t42 false b4
 else
 if x3.ar == 1 then
 if aG == 3 then
 (idx b4.ae aA).bind fun x50 =>
 lK (jS back n) n aA aG t40 t41 t42 (!decide (t42 < x50.az)) b4
 else
 lK (jS back n) n aA aG t40 t41 t42 false b4
 else
 lK (jS back n) n aA aG t40 t41 t42 false b4
 else
 k_3
theorem aeF {k_3} (bE : K0 (A86 [1, 1, 1]) F7 k_3) {back} (ay : K6 (A86 [0, 1, 0, 1, 1]) yF back) (n : Nat) : K6 (A86 [0, 1, 0, 1, 1]) yF (EC k_3 back n) := fun aA aG t40 t41 t42 b4 r h =>
 ie h (fun c0 h =>
 be h fun x3 hx3 h =>
 be h fun x10 cx h =>
 ie h (fun c1 h =>
 rr h [(0, eb c0), (1, R64.idx hx3), (5, .call (iv n cx) [] [] []), (0, eb c1)]) (fun c1 h =>
 be h fun x19 dA h =>
 be h fun x24 fU h =>
 ie h (fun c2 h =>
 ra (lG ay n h) [(0, eb c0), (1, R64.idx hx3), (5, .call (iv n cx) [] [] []), (0, eb c1), (6, R62.idx dA), (3, R76.idx fU), (2, eb c2)]) (fun c2 h =>
 ie h (fun c3 h =>
 ie h (fun c4 h =>
 be h fun x42 so h =>
 ie h (fun c5 h =>
 ra (lG ay n h) [(0, eb c0), (1, R64.idx hx3), (5, .call (iv n cx) [] [] []), (0, eb c1), (6, R62.idx dA), (3, R76.idx fU), (2, eb c2), (3, eb c3), (2, eb c4), (6, R62.idx so), (2, eb c5)]) (fun c5 h =>
 ie h (fun c6 h =>
 ie h (fun c7 h =>
 be h fun x61 OE h =>
 ra (nN (lG ay n) n h) [(0, eb c0), (1, R64.idx hx3), (5, .call (iv n cx) [] [] []), (0, eb c1), (6, R62.idx dA), (3, R76.idx fU), (2, eb c2), (3, eb c3), (2, eb c4), (6, R62.idx so), (2, eb c5), (4, eb c6), (2, eb c7), (6, R62.idx OE)]) (fun c7 h =>
 ra (nN (lG ay n) n h) [(0, eb c0), (1, R64.idx hx3), (5, .call (iv n cx) [] [] []), (0, eb c1), (6, R62.idx dA), (3, R76.idx fU), (2, eb c2), (3, eb c3), (2, eb c4), (6, R62.idx so), (2, eb c5), (4, eb c6), (2, eb c7)])) (fun c6 h =>
 ra (nN (lG ay n) n h) [(0, eb c0), (1, R64.idx hx3), (5, .call (iv n cx) [] [] []), (0, eb c1), (6, R62.idx dA), (3, R76.idx fU), (2, eb c2), (3, eb c3), (2, eb c4), (6, R62.idx so), (2, eb c5), (4, eb c6)]))) (fun c4 h =>
 ie h (fun c5 h =>
 ie h (fun c6 h =>
 be h fun x52 OG h =>
 ra (nN (lG ay n) n h) [(0, eb c0), (1, R64.idx hx3), (5, .call (iv n cx) [] [] []), (0, eb c1), (6, R62.idx dA), (3, R76.idx fU), (2, eb c2), (3, eb c3), (2, eb c4), (6, eb c5), (2, eb c6), (6, R62.idx OG)]) (fun c6 h =>
 ra (nN (lG ay n) n h) [(0, eb c0), (1, R64.idx hx3), (5, .call (iv n cx) [] [] []), (0, eb c1), (6, R62.idx dA), (3, R76.idx fU), (2, eb c2), (3, eb c3), (2, eb c4), (6, eb c5), (2, eb c6)])) (fun c5 h =>
 ra (nN (lG ay n) n h) [(0, eb c0), (1, R64.idx hx3), (5, .call (iv n cx) [] [] []), (0, eb c1), (6, R62.idx dA), (3, R76.idx fU), (2, eb c2), (3, eb c3), (2, eb c4), (6, eb c5)]))) (fun c3 h =>
 ie h (fun c4 h =>
 ie h (fun c5 h =>
 be h fun x50 hx50 h =>
 ra (nN (lG ay n) n h) [(0, eb c0), (1, R64.idx hx3), (5, .call (iv n cx) [] [] []), (0, eb c1), (6, R62.idx dA), (3, R76.idx fU), (2, eb c2), (3, eb c3), (7, eb c4), (2, eb c5), (6, R62.idx hx50)]) (fun c5 h =>
 ra (nN (lG ay n) n h) [(0, eb c0), (1, R64.idx hx3), (5, .call (iv n cx) [] [] []), (0, eb c1), (6, R62.idx dA), (3, R76.idx fU), (2, eb c2), (3, eb c3), (7, eb c4), (2, eb c5)])) (fun c4 h =>
 ra (nN (lG ay n) n h) [(0, eb c0), (1, R64.idx hx3), (5, .call (iv n cx) [] [] []), (0, eb c1), (6, R62.idx dA), (3, R76.idx fU), (2, eb c2), (3, eb c3), (7, eb c4)]))))) (fun c0 h =>
 ra (bE h) [(0, eb c0)])
def v9 (k_3:Option Bool):Nat→Int→Int→(List aa)→Int→Int→J→Option Bool
 |0,_,_,_,_,_,_=>none
 |n+1,aA,aG,t40,t41,t42,b4=>EC k_3 (v9 k_3 n) n aA aG t40 t41 t42 b4
theorem YC {k_3} (bE:K0 (A86 [1,1,1]) F7 k_3):∀n:Nat,K6 (A86 [0,1,0,1,1]) yF (v9 k_3 n)
 |0=>fun _ _ _ _ _ _ _ h=>nz h
 |n+1=>fun _ _ _ _ _ _ _ h=>aeF bE (YC bE n) n h
def EB (n : Nat) : Option Bool :=
 some true
theorem aeE (n : Nat) : K0 (A86 [1, 1, 1]) F7 (EB n) := fun r h =>
 rr h []
def P7 (n : Nat) (s0 : J) (aA : Int) (cf : List aa) (aG : Int) : Option Bool :=
 if decide (aG < 1) then
 some false
 else
 if decide (3 < aG) then
 some false
 else
 if decide (aA < 0) then
 some false
 else
 if !decide (aA < (s0.ae.length : Int)) then
 some false
 else
 (idx s0.ae aA).bind fun x26 =>
 if (cf.length : Int) != (x26.af.length : Int) then
 some false
 else
 v9 (EB n) n aA aG cf (cf.length : Int) 0 s0
theorem aeD (n : Nat) : K4 (A86 []) QU (P7 n) := fun s0 aA cf aG r h =>
 ie h (fun c0 h =>
 rr h [(3, eb c0)]) (fun c0 h =>
 ie h (fun c1 h =>
 rr h [(3, eb c0), (2, eb c1)]) (fun c1 h =>
 ie h (fun c2 h =>
 rr h [(3, eb c0), (2, eb c1), (3, eb c2)]) (fun c2 h =>
 ie h (fun c3 h =>
 rr h [(3, eb c0), (2, eb c1), (3, eb c2), (5, .eqv (R62.au s0.ae)), (0, eb c3)]) (fun c3 h =>
 be h fun x26 oH h =>
 ie h (fun c4 h =>
 rr h [(3, eb c0), (2, eb c1), (3, eb c2), (5, .eqv (R62.au s0.ae)), (0, eb c3), (3, .eqv (R64.au cf)), (3, R62.idx oH), (2, .eqv (R76.au x26.af)), (0, eb c4)]) (fun c4 h =>
 ra (YC (aeE n) n h) [(3, eb c0), (2, eb c1), (3, eb c2), (5, .eqv (R62.au s0.ae)), (0, eb c3), (3, .eqv (R64.au cf)), (3, R62.idx oH), (2, .eqv (R76.au x26.af)), (0, eb c4), (2, .eqv (R64.au cf))])))))
def F86 (n:Nat) (s0:J) (aA:Int) (cf:List aa) (aG:Int):Option Bool:=P7 n s0 aA cf aG
theorem ev86 (n:Nat):K4 C86 QU (F86 n):=fun _ _ _ _ _ h=>ca (X:=x86) (aeD n h)
def XK (r:Bool):AV:=.bool r
def Sz (r:Bool):List (Nat×Bx):= []
def x87:=fx E0 Tryz.f87 [] []
def A87:=Ax x87 XK Sz
def C87:=Cx E0 87 XK Sz
def F6 (aJ:List Int) (kC iN:Int) (t9:List Int) (t10 t11:Int):LS:=⟨[(0,.slice 3 1 (aR aJ)),(1,.int .i64 kC),(2,.int .i64 iN),(9,.slice 3 1 (aR t9)),(10,.int .i64 t10),(11,.int .i64 t11)],[]⟩
def F5:LS:=⟨[],[]⟩
def QT (aJ:List Int) (kC iN:Int):LS:=⟨[(0,.slice 3 1 (aR aJ)),(1,.int .i64 kC),(2,.int .i64 iN)],[]⟩
def EA (k_1 : Option Bool) (back : (List Int) → Int → Int → (List Int) → Int → Int → Option Bool) (n : Nat) (aJ : List Int) (kC iN : Int) (t9 : List Int) (t10 t11 : Int) : Option Bool :=
 if decide (t11 < t10) then
 (idx t9 t11).bind fun x3 =>
 if decide (x3 < kC) then
 some false
 else
 if !decide (x3 < iN) then
 some false
 else
 if decide (0 < t11) then
 (idx aJ (w64 (t11 - 1))).bind fun x24 =>
 if !decide (x24 < x3) then
 some false
 else
 back aJ kC iN t9 t10 (w64 (t11 + 1))
 else
 back aJ kC iN t9 t10 (w64 (t11 + 1))
 else
 k_1
theorem aeC {k_1} (aH : K0 (A87 [1, 1]) F5 k_1) {back} (ay : K6 (A87 [0, 1, 0, 1]) F6 back) (n : Nat) : K6 (A87 [0, 1, 0, 1]) F6 (EA k_1 back n) := fun aJ kC iN t9 t10 t11 r h =>
 ie h (fun c0 h =>
 be h fun x3 hx3 h =>
 ie h (fun c1 h =>
 rr h [(0, eb c0), (1, R3.idx hx3), (5, eb c1)]) (fun c1 h =>
 ie h (fun c2 h =>
 rr h [(0, eb c0), (1, R3.idx hx3), (5, eb c1), (3, eb c2)]) (fun c2 h =>
 ie h (fun c3 h =>
 be h fun x24 fU h =>
 ie h (fun c4 h =>
 rr h [(0, eb c0), (1, R3.idx hx3), (5, eb c1), (3, eb c2), (3, eb c3), (5, R3.idx fU), (1, eb c4)]) (fun c4 h =>
 ra (ay h) [(0, eb c0), (1, R3.idx hx3), (5, eb c1), (3, eb c2), (3, eb c3), (5, R3.idx fU), (1, eb c4)])) (fun c3 h =>
 ra (ay h) [(0, eb c0), (1, R3.idx hx3), (5, eb c1), (3, eb c2), (3, eb c3)])))) (fun c0 h =>
 ra (aH h) [(0, eb c0)])
def v8 (k_1:Option Bool):Nat→(List Int)→Int→Int→(List Int)→Int→Int→Option Bool
 |0,_,_,_,_,_,_=>none
 |n+1,aJ,kC,iN,t9,t10,t11=>EA k_1 (v8 k_1 n) n aJ kC iN t9 t10 t11
theorem YB {k_1} (aH:K0 (A87 [1,1]) F5 k_1):∀n:Nat,K6 (A87 [0,1,0,1]) F6 (v8 k_1 n)
 |0=>fun _ _ _ _ _ _ _ h=>nz h
 |n+1=>fun _ _ _ _ _ _ _ h=>aeC aH (YB aH n) n h
def Ez (n : Nat) : Option Bool :=
 some true
theorem aeB (n : Nat) : K0 (A87 [1, 1]) F5 (Ez n) := fun r h =>
 rr h []
def ZL (n : Nat) (aJ : List Int) (kC iN : Int) : Option Bool :=
 v8 (Ez n) n aJ kC iN aJ (aJ.length : Int) 0
theorem aeA (n : Nat) : K3 (A87 []) QT (ZL n) := fun aJ kC iN r h =>
 ra (YB (aeB n) n h) [(2, .eqv (R3.au aJ))]
def F87 (n:Nat) (aJ:List Int) (kC iN:Int):Option Bool:=ZL n aJ kC iN
theorem WT (n:Nat):K3 C87 QT (F87 n):=fun _ _ _ _ h=>ca (X:=x87) (aeA n h)
def X4 (r:Bool):AV:=.bool r
def SX (r:Bool):List (Nat×Bx):= []
def x45:=fx E0 Tryz.f45 [] []
def A45:=Ax x45 X4 SX
def C45:=Cx E0 45 X4 SX
def GC (t72:List aa) (t73 t74:Int) (b3:ak) (b18:List Int):LS:=⟨[(3,.loc 3 0),(5,.ms 18 1 0 b18.length),(72,.slice 65 3 (aO t72)),(73,.int .i64 t73),(74,.int .i64 t74)],[(3,.flat 55 (hY b3)),(18,.rows true 3 1 (aR b18))]⟩
def GB:LS:=⟨[],[]⟩
def Rg (s0:J) (w1:ak):LS:=⟨[(0,.agg (aX s0)),(1,.agg (hY w1))],[]⟩
def E5 (k_1 : Option Bool) (back : (List aa) → Int → Int → ak → (List Int) → Option Bool) (n : Nat) (t72 : List aa) (t73 t74 : Int) (b3 : ak) (b18 : List Int) : Option Bool :=
 if decide (t74 < t73) then
 (idx t72 t74).bind fun x3 =>
 (F88 n x3).bind fun x10 =>
 if !x10 then
 some false
 else
 (idx b3.af t74).bind fun x20 =>
 (bnd b18.length x20).bind fun x23 =>
 (b18[0 + x23]?).bind fun x25 =>
 if x3.ar != x25 then
 some false
 else
 back t72 t73 (w64 (t74 + 1)) b3 b18
 else
 k_1
theorem afE {k_1} (aH : K0 (A45 [1, 1, 0, 1, 1, 1, 0, 1, 0, 1, 1, 1]) GB k_1) {back} (ay : K5 (A45 [0, 1, 0, 1, 0, 1, 1, 1, 0, 1, 0, 1, 1, 1]) GC back) (n : Nat) : K5 (A45 [0, 1, 0, 1, 0, 1, 1, 1, 0, 1, 0, 1, 1, 1]) GC (E5 k_1 back n) := fun t72 t73 t74 b3 b18 r h =>
 ie h (fun c0 h =>
 be h fun x3 hx3 h =>
 be h fun x10 cx h =>
 ie h (fun c1 h =>
 rr h [(0, eb c0), (1, R64.idx hx3), (5, .call (iv n cx) [] [] []), (0, eb c1)]) (fun c1 h =>
 be h fun x20 lx h =>
 be h fun x23 fV h =>
 be h fun x25 oI h =>
 ie h (fun c2 h =>
 rr h [(0, eb c0), (1, R64.idx hx3), (5, .call (iv n cx) [] [] []), (0, eb c1), (7, R3.idx lx), (1, cP fV), (0, R3.row oI), (0, eb c2)]) (fun c2 h =>
 ra (ay h) [(0, eb c0), (1, R64.idx hx3), (5, .call (iv n cx) [] [] []), (0, eb c1), (7, R3.idx lx), (1, cP fV), (0, R3.row oI), (0, eb c2)]))) (fun c0 h =>
 ra (aH h) [(0, eb c0)])
def wq (k_1:Option Bool):Nat→(List aa)→Int→Int→ak→(List Int)→Option Bool
 |0,_,_,_,_,_=>none
 |n+1,t72,t73,t74,b3,b18=>E5 k_1 (wq k_1 n) n t72 t73 t74 b3 b18
theorem YS {k_1} (aH:K0 (A45 [1,1,0,1,1,1,0,1,0,1,1,1]) GB k_1):∀n:Nat,K5 (A45 [0,1,0,1,0,1,1,1,0,1,0,1,1,1]) GC (wq k_1 n)
 |0=>fun _ _ _ _ _ _ h=>nz h
 |n+1=>fun _ _ _ _ _ _ h=>afE aH (YS aH n) n h
def E4 (n : Nat) : Option Bool :=
 some true
theorem afD (n : Nat) : K0 (A45 [1, 1, 0, 1, 1, 1, 0, 1, 0, 1, 1, 1]) GB (E4 n) := fun r h =>
 rr h []
def Qn (n : Nat) (s0 : J) (w1 : ak) : Option Bool :=
 (F85 n s0 w1.aD w1.az).bind fun x9 =>
 if !x9 then
 some false
 else
 (F32 n s0 w1.aD).bind fun x15 =>
 if w1.fOp == 1 then
 if (w1.af.length : Int) == 0 then
 (F86 n s0 w1.aD w1.bg 1).bind fun x32 =>
 if x32 then
 (F34 n s0 w1.aD w1.bg).bind fun x41 =>
 (F22 n x41 w1.az).bind fun x45_ =>
 some (x45_ == 0)
 else
 some false
 else
 some false
 else
 if w1.fOp == 2 then
 (idx s0.ae w1.aD).bind fun x30 =>
 (F87 n w1.af x30.az (x15.length : Int)).bind fun x36 =>
 if !x36 then
 some false
 else
 if (w1.bg.length : Int) != (w1.af.length : Int) then
 some false
 else
 wq (E4 n) n w1.bg (w1.bg.length : Int) 0 w1 x15
 else
 if (w1.af.length : Int) == 0 then
 some ((w1.bg.length : Int) == 0)
 else
 some false
theorem afC (n : Nat) : K2 (A45 []) Rg (Qn n) := fun s0 w1 r h =>
 be h fun x9 hx9 h =>
 ie h (fun c0 h =>
 rr h [(8, .call (sJ n hx9) [] [] []), (0, eb c0)]) (fun c0 h =>
 be h fun x15 cV h =>
 ie h (fun c1 h =>
 ie h (fun c2 h =>
 be h fun x32 lv h =>
 ie h (fun c3 g0 => by subst c3; exact (
 be g0 fun x41 Wy g0 =>
 be g0 fun x45_ Wx g0 =>
 rr g0 [(8, .call (sJ n hx9) [] [] []), (0, eb c0), (3, .call (jz n cV) [] [] [(18, 200000)]), (3, eb c1), (3, .eqv (R3.au w1.af)), (0, eb c2), (6, .call (ev86 n lv) [] [] []), (7, .call (cd (e := 65) (z := true) (Q := aO x41) (uJ n Wy) (R64.len x41)) [] [] []), (2, .call (yd n Wx) [.one (.sl 0 0)] [] [])])) (fun c3 g0 => by subst c3; exact (
 rr g0 [(8, .call (sJ n hx9) [] [] []), (0, eb c0), (3, .call (jz n cV) [] [] [(18, 200000)]), (3, eb c1), (3, .eqv (R3.au w1.af)), (0, eb c2), (6, .call (ev86 n lv) [] [] [])]))) (fun c2 h =>
 rr h [(8, .call (sJ n hx9) [] [] []), (0, eb c0), (3, .call (jz n cV) [] [] [(18, 200000)]), (3, eb c1), (3, .eqv (R3.au w1.af)), (0, eb c2)])) (fun c1 h =>
 ie h (fun c2 h =>
 be h fun x30 xV h =>
 be h fun x36 xU h =>
 ie h (fun c3 h =>
 rr h [(8, .call (sJ n hx9) [] [] []), (0, eb c0), (3, .call (jz n cV) [] [] [(18, 200000)]), (3, eb c1), (1, eb c2), (7, R62.idx xV), (4, .call (WT n xU) [] [] []), (0, eb c3)]) (fun c3 h =>
 ie h (fun c4 h =>
 rr h [(8, .call (sJ n hx9) [] [] []), (0, eb c0), (3, .call (jz n cV) [] [] [(18, 200000)]), (3, eb c1), (1, eb c2), (7, R62.idx xV), (4, .call (WT n xU) [] [] []), (0, eb c3), (3, .eqv (R64.au w1.bg)), (2, .eqv (R3.au w1.af)), (0, eb c4)]) (fun c4 h =>
 ra (YS (afD n) n h) [(8, .call (sJ n hx9) [] [] []), (0, eb c0), (3, .call (jz n cV) [] [] [(18, 200000)]), (3, eb c1), (1, eb c2), (7, R62.idx xV), (4, .call (WT n xU) [] [] []), (0, eb c3), (3, .eqv (R64.au w1.bg)), (2, .eqv (R3.au w1.af)), (0, eb c4), (3, .eqv (R64.au w1.bg))]))) (fun c2 h =>
 ie h (fun c3 h =>
 rr h [(8, .call (sJ n hx9) [] [] []), (0, eb c0), (3, .call (jz n cV) [] [] [(18, 200000)]), (3, eb c1), (1, eb c2), (3, .eqv (R3.au w1.af)), (0, eb c3), (3, .eqv (R64.au w1.bg))]) (fun c3 h =>
 rr h [(8, .call (sJ n hx9) [] [] []), (0, eb c0), (3, .call (jz n cV) [] [] [(18, 200000)]), (3, eb c1), (1, eb c2), (3, .eqv (R3.au w1.af)), (0, eb c3)]))))
def F45 (n:Nat) (s0:J) (w1:ak):Option Bool:=Qn n s0 w1
theorem O0 (n:Nat):K2 C45 Rg (F45 n):=fun _ _ _ h=>ca (X:=x45) (afC n h)
def Yn (r:Int):AV:=.int .i64 r
def Th (r:Int):List (Nat×Bx):= []
def x14:=fx E0 Tryz.f14 [] []
def A14:=Ax x14 Yn Th
def C14:=Cx E0 14 Yn Th
def G4 (bu t16:List ak) (t17 t18:Int) (b2:J):LS:=⟨[(1,.slice 55 5 (cc bu)),(2,.loc 2 0),(16,.slice 55 5 (cc t16)),(17,.int .i64 t17),(18,.int .i64 t18)],[(2,.flat 26 (aX b2))]⟩
def G3:LS:=⟨[],[]⟩
def RA (s0:J) (bu:List ak):LS:=⟨[(0,.agg (aX s0)),(1,.slice 55 5 (cc bu))],[]⟩
def FB (k_1 : Option Int) (back : (List ak) → (List ak) → Int → Int → J → Option Int) (n : Nat) (bu t16 : List ak) (t17 t18 : Int) (b2 : J) : Option Int :=
 if decide (t18 < t17) then
 (idx t16 t18).bind fun x3 =>
 if decide (x3.fOp < 1) then
 some 1
 else
 if decide (3 < x3.fOp) then
 some 1
 else
 if decide (x3.aD < 0) then
 some 1
 else
 if !decide (x3.aD < (b2.ae.length : Int)) then
 some 1
 else
 (F45 n b2 x3).bind fun x32 =>
 if !x32 then
 some 270
 else
 if decide (0 < t18) then
 (idx bu (w64 (t18 - 1))).bind fun x42 =>
 (idx bu (w64 (t18 - 1))).bind fun x49 =>
 (F36 n x42.aD x49.az x3.aD x3.az).bind fun x57 =>
 if !decide (x57 < 0) then
 some 270
 else
 back bu t16 t17 (w64 (t18 + 1)) b2
 else
 back bu t16 t17 (w64 (t18 + 1)) b2
 else
 k_1
theorem agB {k_1} (aH : K0 (A14 [1, 1, 1, 1]) G3 k_1) {back} (ay : K5 (A14 [0, 1, 0, 1, 1, 1]) G4 back) (n : Nat) : K5 (A14 [0, 1, 0, 1, 1, 1]) G4 (FB k_1 back n) := fun bu t16 t17 t18 b2 r h =>
 ie h (fun c0 h =>
 be h fun x3 hx3 h =>
 ie h (fun c1 h =>
 rr h [(0, eb c0), (1, R54.idx hx3), (6, eb c1)]) (fun c1 h =>
 ie h (fun c2 h =>
 rr h [(0, eb c0), (1, R54.idx hx3), (6, eb c1), (3, eb c2)]) (fun c2 h =>
 ie h (fun c3 h =>
 rr h [(0, eb c0), (1, R54.idx hx3), (6, eb c1), (3, eb c2), (4, eb c3)]) (fun c3 h =>
 ie h (fun c4 h =>
 rr h [(0, eb c0), (1, R54.idx hx3), (6, eb c1), (3, eb c2), (4, eb c3), (6, .eqv (R62.au b2.ae)), (0, eb c4)]) (fun c4 h =>
 be h fun x32 lv h =>
 ie h (fun c5 h =>
 rr h [(0, eb c0), (1, R54.idx hx3), (6, eb c1), (3, eb c2), (4, eb c3), (6, .eqv (R62.au b2.ae)), (0, eb c4), (3, .call (O0 n lv) [] [] []), (0, eb c5)]) (fun c5 h =>
 ie h (fun c6 h =>
 be h fun x42 so h =>
 be h fun x49 OH h =>
 be h fun x57 Iy h =>
 ie h (fun c7 h =>
 rr h [(0, eb c0), (1, R54.idx hx3), (6, eb c1), (3, eb c2), (4, eb c3), (6, .eqv (R62.au b2.ae)), (0, eb c4), (3, .call (O0 n lv) [] [] []), (0, eb c5), (2, eb c6), (4, R54.idx so), (5, R54.idx OH), (6, .call (I0 n Iy) [] [] []), (0, eb c7)]) (fun c7 h =>
 ra (ay h) [(0, eb c0), (1, R54.idx hx3), (6, eb c1), (3, eb c2), (4, eb c3), (6, .eqv (R62.au b2.ae)), (0, eb c4), (3, .call (O0 n lv) [] [] []), (0, eb c5), (2, eb c6), (4, R54.idx so), (5, R54.idx OH), (6, .call (I0 n Iy) [] [] []), (0, eb c7)])) (fun c6 h =>
 ra (ay h) [(0, eb c0), (1, R54.idx hx3), (6, eb c1), (3, eb c2), (4, eb c3), (6, .eqv (R62.au b2.ae)), (0, eb c4), (3, .call (O0 n lv) [] [] []), (0, eb c5), (2, eb c6)]))))))) (fun c0 h =>
 ra (aH h) [(0, eb c0)])
def wH (k_1:Option Int):Nat→(List ak)→(List ak)→Int→Int→J→Option Int
 |0,_,_,_,_,_=>none
 |n+1,bu,t16,t17,t18,b2=>FB k_1 (wH k_1 n) n bu t16 t17 t18 b2
theorem Y7 {k_1} (aH:K0 (A14 [1,1,1,1]) G3 k_1):∀n:Nat,K5 (A14 [0,1,0,1,1,1]) G4 (wH k_1 n)
 |0=>fun _ _ _ _ _ _ h=>nz h
 |n+1=>fun _ _ _ _ _ _ h=>agB aH (Y7 aH n) n h
def FA (n : Nat) : Option Int :=
 some 0
theorem agA (n : Nat) : K0 (A14 [1, 1, 1, 1]) G3 (FA n) := fun r h =>
 rr h []
def QG (n : Nat) (s0 : J) (bu : List ak) : Option Int :=
 (F44 n s0).bind fun x4 =>
 if x4 != 0 then
 some x4
 else
 if decide (64 < (bu.length : Int)) then
 some 2
 else
 wH (FA n) n bu bu (bu.length : Int) 0 s0
theorem agz (n : Nat) : K2 (A14 []) RA (QG n) := fun s0 bu r h =>
 be h fun x4 hx4 h =>
 ie h (fun c0 h =>
 rr h [(3, .call (WW n hx4) [] [] []), (2, eb c0)]) (fun c0 h =>
 ie h (fun c1 h =>
 rr h [(3, .call (WW n hx4) [] [] []), (2, eb c0), (1, .eqv (R54.au bu)), (0, eb c1)]) (fun c1 h =>
 ra (Y7 (agA n) n h) [(3, .call (WW n hx4) [] [] []), (2, eb c0), (1, .eqv (R54.au bu)), (0, eb c1), (1, .eqv (R54.au bu))]))
def F14 (n:Nat) (s0:J) (bu:List ak):Option Int:=QG n s0 bu
theorem ye (n:Nat):K2 C14 RA (F14 n):=fun _ _ _ h=>ca (X:=x14) (agz n h)
def res3 (r:Bool):AV:=.bool r
def Yv (r:Bool):List (Nat×Bx):= []
def x3:=fx E0 Tryz.f3 [] []
def A3:=Ax x3 res3 Yv
def C3:=Cx E0 3 res3 Yv
def Nr (dD l9 ig:List ak) (i11:Int) (b5:J) (b15:ai) (b8:J):LS:=⟨[(1,.slice 55 5 (cc dD)),(5,.loc 5 0),(7,.loc 15 0),(8,.loc 8 0),(9,.slice 55 5 (cc l9)),(10,.slice 55 5 (cc ig)),(11,.int .i64 i11)],[(5,.flat 26 (aX b5)),(8,.flat 26 (aX b8)),(15,.flat 74 (br b15))]⟩
def Nq (dD l9:List ak) (t44:Int) (b5 b8:J) (b42:List (List ak)):LS:=⟨[(1,.slice 55 5 (cc dD)),(5,.loc 5 0),(8,.loc 8 0),(9,.slice 55 5 (cc l9)),(42,.ms 42 1 0 b42.length),(43,.int .i64 3),(44,.int .i64 t44)],[(5,.flat 26 (aX b5)),(8,.flat 26 (aX b8)),(42,.rows false 23 1 (Ht b42))]⟩
def Np (dD l9:List ak) (b5:J):LS:=⟨[(1,.slice 55 5 (cc dD)),(5,.loc 5 0),(9,.slice 55 5 (cc l9))],[(5,.flat 26 (aX b5))]⟩
def No (dD l9 ig:List ak) (b5:J) (b15:ai) (b8:J):LS:=⟨[(1,.slice 55 5 (cc dD)),(5,.loc 5 0),(7,.loc 15 0),(8,.loc 8 0),(9,.slice 55 5 (cc l9)),(10,.slice 55 5 (cc ig))],[(5,.flat 26 (aX b5)),(8,.flat 26 (aX b8)),(15,.flat 74 (br b15))]⟩
def Nn (fM:List Int) (dD:List ak) (jJ:J):LS:=⟨[(0,.slice 5 1 (mq fM)),(1,.slice 55 5 (cc dD)),(2,.agg (aX jJ))],[]⟩
def Qu (k_3 : (List ak) → (List ak) → (List ak) → J → ai → J → Option Bool) (back : (List ak) → (List ak) → (List ak) → Int → J → ai → J → Option Bool) (n : Nat) (dD l9 ig : List ak) (i11 : Int) (b5 : J) (b15 : ai) (b8 : J) : Option Bool :=
 if decide (i11 < 4) then
 (app [] ig).bind fun x4 =>
 (app x4 ig).bind fun x7 =>
 back dD l9 x7 (w64 (i11 + 1)) b5 b15 b8
 else
 k_3 dD l9 ig b5 b15 b8
theorem b3_0 {k_3} (bE : K6 (A3 [1, 1, 1, 1, 1, 1]) No k_3) {back} (ay : K7 (A3 [0, 1, 0, 1, 1, 1, 1, 1]) Nr back) (n : Nat) : K7 (A3 [0, 1, 0, 1, 1, 1, 1, 1]) Nr (Qu k_3 back n) := fun dD l9 ig i11 b5 b15 b8 r h =>
 ie h (fun c0 h =>
 be h fun x4 hx4 h =>
 be h fun x7 hx7 h =>
 ra (ay h) [(1, eb c0), (1, .born [] [] 30 true 55 5), (0, R54.app (xs := []) hx4 .dat), (1, R54.app hx7 .dat), (4, R54.frz 30 x7)]) (fun c0 h =>
 ra (bE h) [(1, eb c0)])
def CK (k_3:(List ak)→(List ak)→(List ak)→J→ai→J→Option Bool):Nat→(List ak)→(List ak)→(List ak)→Int→J→ai→J→Option Bool
 |0,_,_,_,_,_,_,_=>none
 |n+1,dD,l9,ig,i11,b5,b15,b8=>Qu k_3 (CK k_3 n) n dD l9 ig i11 b5 b15 b8
theorem l3_0 {k_3} (bE:K6 (A3 [1,1,1,1,1,1]) No k_3):∀n:Nat,K7 (A3 [0,1,0,1,1,1,1,1]) Nr (CK k_3 n)
 |0=>fun _ _ _ _ _ _ _ _ h=>nz h
 |n+1=>fun _ _ _ _ _ _ _ _ h=>b3_0 bE (l3_0 bE n) n h
def Qt (k_2 : (List ak) → (List ak) → J → Option Bool) (back : (List ak) → (List ak) → Int → J → J → (List (List ak)) → Option Bool) (n : Nat) (dD l9 : List ak) (t44 : Int) (b5 b8 : J) (b42 : List (List ak)) : Option Bool :=
 if decide (t44 < 3) then
 (bnd b42.length t44).bind fun x2 =>
 (b42[0 + x2]?).bind fun x4 =>
 (F12 n b8 x4).bind fun x9 =>
 (F14 n b8 x4).bind fun x13 =>
 if x9 != x13 then
 some false
 else
 back dD l9 (w64 (t44 + 1)) b5 b8 b42
 else
 k_2 dD l9 b5
theorem b3_1 {k_2} (bW : K3 (A3 [1, 1, 1, 1, 1, 1, 1, 1]) Np k_2) {back} (ay : K6 (A3 [0, 1, 0, 1, 1, 1, 1, 1, 1, 1]) Nq back) (n : Nat) : K6 (A3 [0, 1, 0, 1, 1, 1, 1, 1, 1, 1]) Nq (Qt k_2 back n) := fun dD l9 t44 b5 b8 b42 r h =>
 ie h (fun c0 h =>
 be h fun x2 hx2 h =>
 be h fun x4 hx4 h =>
 be h fun x9 hx9 h =>
 be h fun x13 bT h =>
 ie h (fun c1 h =>
 rr h [(0, eb c0), (0, cP hx2), (0, R23.row hx4), (3, .call (sK n hx9) [] [] []), (2, .call (ye n bT) [] [] []), (0, eb c1)]) (fun c1 h =>
 ra (ay h) [(0, eb c0), (0, cP hx2), (0, R23.row hx4), (3, .call (sK n hx9) [] [] []), (2, .call (ye n bT) [] [] []), (0, eb c1)])) (fun c0 h =>
 ra (bW h) [(0, eb c0)])
def u0 (k_2:(List ak)→(List ak)→J→Option Bool):Nat→(List ak)→(List ak)→Int→J→J→(List (List ak))→Option Bool
 |0,_,_,_,_,_,_=>none
 |n+1,dD,l9,t44,b5,b8,b42=>Qt k_2 (u0 k_2 n) n dD l9 t44 b5 b8 b42
theorem l3_1 {k_2} (bW:K3 (A3 [1,1,1,1,1,1,1,1]) Np k_2):∀n:Nat,K6 (A3 [0,1,0,1,1,1,1,1,1,1]) Nq (u0 k_2 n)
 |0=>fun _ _ _ _ _ _ _ h=>nz h
 |n+1=>fun _ _ _ _ _ _ _ h=>b3_1 bW (l3_1 bW n) n h
def vh (n : Nat) (dD l9 : List ak) (b5 : J) : Option Bool :=
 (F12 n b5 dD).bind fun x3_ =>
 (F14 n b5 dD).bind fun x7 =>
 if x3_ == x7 then
 (F12 n b5 l9).bind fun x13 =>
 (F14 n b5 l9).bind fun x17 =>
 if x13 == x17 then
 (F15 n ).bind fun x22 =>
 some x22
 else
 some false
 else
 some false
theorem b3_2 (n : Nat) : K3 (A3 [1, 1, 1, 1, 1, 1, 1, 1]) Np (vh n) := fun dD l9 b5 r h =>
 be h fun x3_ hx3 h =>
 be h fun x7 hx7 h =>
 ie h (fun c0 h =>
 be h fun x13 bT h =>
 be h fun x17 fX h =>
 ie h (fun c1 h =>
 be h fun x22 oJ h =>
 rr h [(2, .call (sK n hx3) [] [] []), (2, .call (ye n hx7) [] [] []), (0, eb c0), (3, .call (sK n bT) [] [] []), (2, .call (ye n fX) [] [] []), (0, eb c1), (2, .call (ev15 n oJ) [] [] [])]) (fun c1 h =>
 rr h [(2, .call (sK n hx3) [] [] []), (2, .call (ye n hx7) [] [] []), (0, eb c0), (3, .call (sK n bT) [] [] []), (2, .call (ye n fX) [] [] []), (0, eb c1)])) (fun c0 h =>
 rr h [(2, .call (sK n hx3) [] [] []), (2, .call (ye n hx7) [] [] []), (0, eb c0)])
def Qs (n : Nat) (dD l9 ig : List ak) (b5 : J) (b15 : ai) (b8 : J) : Option Bool :=
 (F12 n b8 l9).bind fun x3_ =>
 if x3_ != 0 then
 some false
 else
 (F13 n b15 l9).bind fun x8 =>
 u0 (vh n) n dD l9 0 b5 b8 [x8.1, dD, ig]
theorem b3_3 (n : Nat) : K6 (A3 [1, 1, 1, 1, 1, 1]) No (Qs n) := fun dD l9 ig b5 b15 b8 r h =>
 be h fun x3_ hx3 h =>
 ie h (fun c0 h =>
 rr h [(2, .call (sK n hx3) [] [] []), (0, eb c0)]) (fun c0 h =>
 be h fun x8 hx8 h =>
 ra (l3_1 (b3_2 n) n h) [(2, .call (sK n hx3) [] [] []), (0, eb c0), (2, .call (ev13 n hx8) [] [(15, 0)] [(39, 200000)]), (2, R54.frz 39 x8.1)])
def Xw (n : Nat) (fM : List Int) (dD : List ak) (jJ : J) : Option Bool :=
 (F8 n fM 300).bind fun x4 =>
 (F9 n x4).bind fun x8 =>
 (F11 n x8.2 x8.1 1).bind fun x16 =>
 (F10 n x16.2 x8.1 x16.1 6).bind fun x18 =>
 CK (Qs n) n dD x18.1 x18.1 0 jJ x18.2 x8.1
theorem b3_4 (n : Nat) : K3 (A3 []) Nn (Xw n) := fun fM dD jJ r h =>
 be h fun x4 hx4 h =>
 be h fun x8 hx8 h =>
 be h fun x16 dG h =>
 be h fun x18 g7 h =>
 ra (l3_0 (b3_3 n) n h) [(3, .call (ev8 n hx4) [] [] [(15, 200000)]), (2, .call (ev9 n hx8) [] [(15, 0)] []), (6, .call (ev11 n dG) [] [(15, 0)] []), (0, .call (ev10 n g7) [] [(15, 0)] [(23, 200000)]), (4, R54.frz 23 x18.1)]
def F3 (n:Nat) (fM:List Int) (dD:List ak) (jJ:J):Option Bool:=Xw n fM dD jJ
theorem ev3 (n:Nat):K3 C3 Nn (F3 n):=fun _ _ _ _ h=>ca (X:=x3) (b3_4 n h)
end Go.Proofs.YtmealahmjddpcaaGreatDoor
end
noncomputable section
set_option maxRecDepth 100000
namespace Go.Proofs.YtmealahmjddpcaaGreatDoor
open Go.Sim
def CG (t:TypeId):Bool:= [2,3,5,9,22,23,24,26,43,53,55,59,60,61,63,65,77,80,82,84].contains t
theorem Ni (t:TypeId) (h:CG t=true):qM Tryz.prog CG t=true:=by
 have m7:([2,3,5,9,22,23,24,26,43,53,55,59,60,61,63,65,77,80,82,84].all fun t=>qM Tryz.prog CG t)=true:=by kernel_rfl
 exact List.all_eq_true.1 m7 t (List.contains_iff_mem.1 h)
theorem ty5 (n:Nat) (xs:List AV) (h:bc Tryz.prog n 5 xs):∃x,xs=I6 x:=by
 match n,h with
 |n+1,h=>
  simp only[bc,Tryz.underlying5] at h;obtain ⟨x,rfl,_⟩:=h;exact ⟨x,rfl⟩
theorem ty22 (n:Nat) (xs:List AV) (h:bc Tryz.prog n 22 xs):∃x,xs= [.slice 5 1 (mq x)]:=by
 match n,h with
 |n+1,h=>
  simp only[bc,Tryz.underlying22] at h;obtain ⟨rows,rfl,hr⟩:=h;obtain ⟨y,rfl⟩:=jI fun r hr'=>ty5 n r (hr r hr')
  exact ⟨y,by rw[CZ,show Tryz.prog.cellsOf 5=1 from by kernel_rfl]⟩
theorem ty3 (n:Nat) (xs:List AV) (h:bc Tryz.prog n 3 xs):∃x,xs=Cz x:=by
 match n,h with
 |n+1,h=>
  simp only[bc,Tryz.underlying3] at h;obtain ⟨x,rfl,_⟩:=h;exact ⟨x,rfl⟩
theorem ty2 (n:Nat) (xs:List AV) (h:bc Tryz.prog n 2 xs):∃x,xs=enc2 x:=by
 match n,h with
 |n+1,h=>
  simp only[bc,Tryz.underlying2] at h;obtain ⟨x,rfl,_⟩:=h;exact ⟨x,rfl⟩
theorem ty9 (n:Nat) (xs:List AV) (h:bc Tryz.prog n 9 xs):∃x,xs=enc9 x:=by
 match n,h with
 |n+1,h=>
  simp only[bc,Tryz.underlying9] at h;obtain ⟨x,rfl,_⟩:=h;exact ⟨x,rfl⟩
theorem ty65 (n:Nat) (xs:List AV) (h:bc Tryz.prog n 65 xs):∃x,xs=gd x:=by
 match n,h with
 |n+1,h=>
  simp only[bc,Tryz.underlying65] at h;obtain ⟨xss,rfl,h2⟩:=h;match xss,h2 with
  | [a0,a1,a2],⟨h0,h1,h2,_⟩=>
   obtain ⟨y0,rfl⟩:=ty3 _ _ h0;obtain ⟨y1,rfl⟩:=ty2 _ _ h1;obtain ⟨y2,rfl⟩:=ty9 _ _ h2;exact ⟨⟨y0,y1,y2⟩,rfl⟩
theorem ty43 (n:Nat) (xs:List AV) (h:bc Tryz.prog n 43 xs):∃x,xs= [.slice 65 3 (aO x)]:=by
 match n,h with
 |n+1,h=>
  simp only[bc,Tryz.underlying43] at h;obtain ⟨rows,rfl,hr⟩:=h;obtain ⟨y,rfl⟩:=jI fun r hr'=>ty65 n r (hr r hr')
  exact ⟨y,by rw[rV,show Tryz.prog.cellsOf 65=3 from by kernel_rfl]⟩
theorem ty53 (n:Nat) (xs:List AV) (h:bc Tryz.prog n 53 xs):∃x,xs= [.slice 3 1 (aR x)]:=by
 match n,h with
 |n+1,h=>
  simp only[bc,Tryz.underlying53] at h;obtain ⟨rows,rfl,hr⟩:=h;obtain ⟨y,rfl⟩:=jI fun r hr'=>ty3 n r (hr r hr')
  exact ⟨y,by rw[tT,show Tryz.prog.cellsOf 3=1 from by kernel_rfl]⟩
theorem ty55 (n:Nat) (xs:List AV) (h:bc Tryz.prog n 55 xs):∃x,xs=hY x:=by
 match n,h with
 |n+1,h=>
  simp only[bc,Tryz.underlying55] at h;obtain ⟨xss,rfl,h2⟩:=h;match xss,h2 with
  | [a0,a1,a2,a3,a4],⟨h0,h1,h2,h3,h4,_⟩=>
   obtain ⟨y0,rfl⟩:=ty3 _ _ h0;obtain ⟨y1,rfl⟩:=ty3 _ _ h1;obtain ⟨y2,rfl⟩:=ty43 _ _ h2;obtain ⟨y3,rfl⟩:=ty53 _ _ h3;obtain ⟨y4,rfl⟩:=ty43 _ _ h4;exact ⟨⟨y0,y1,y2,y3,y4⟩,rfl⟩
theorem ty23 (n:Nat) (xs:List AV) (h:bc Tryz.prog n 23 xs):∃x,xs= [.slice 55 5 (cc x)]:=by
 match n,h with
 |n+1,h=>
  simp only[bc,Tryz.underlying23] at h;obtain ⟨rows,rfl,hr⟩:=h;obtain ⟨y,rfl⟩:=jI fun r hr'=>ty55 n r (hr r hr')
  exact ⟨y,by rw[rX,show Tryz.prog.cellsOf 55=5 from by kernel_rfl]⟩
theorem ty77 (n:Nat) (xs:List AV) (h:bc Tryz.prog n 77 xs):∃x,xs=sO x:=by
 match n,h with
 |n+1,h=>
  simp only[bc,Tryz.underlying77] at h;obtain ⟨xss,rfl,h2⟩:=h;match xss,h2 with
  | [a0,a1],⟨h0,h1,_⟩=>
   obtain ⟨y0,rfl⟩:=ty9 _ _ h0;obtain ⟨y1,rfl⟩:=ty3 _ _ h1;exact ⟨⟨y0,y1⟩,rfl⟩
theorem ty59 (n:Nat) (xs:List AV) (h:bc Tryz.prog n 59 xs):∃x,xs= [.slice 77 2 (jm x)]:=by
 match n,h with
 |n+1,h=>
  simp only[bc,Tryz.underlying59] at h;obtain ⟨rows,rfl,hr⟩:=h;obtain ⟨y,rfl⟩:=jI fun r hr'=>ty77 n r (hr r hr')
  exact ⟨y,by rw[yT,show Tryz.prog.cellsOf 77=2 from by kernel_rfl]⟩
theorem ty80 (n:Nat) (xs:List AV) (h:bc Tryz.prog n 80 xs):∃x,xs=pY x:=by
 match n,h with
 |n+1,h=>
  simp only[bc,Tryz.underlying80] at h;obtain ⟨xss,rfl,h2⟩:=h;match xss,h2 with
  | [a0,a1],⟨h0,h1,_⟩=>
   obtain ⟨y0,rfl⟩:=ty53 _ _ h0;obtain ⟨y1,rfl⟩:=ty3 _ _ h1;exact ⟨⟨y0,y1⟩,rfl⟩
theorem ty60 (n:Nat) (xs:List AV) (h:bc Tryz.prog n 60 xs):∃x,xs= [.slice 80 2 (gj x)]:=by
 match n,h with
 |n+1,h=>
  simp only[bc,Tryz.underlying60] at h;obtain ⟨rows,rfl,hr⟩:=h;obtain ⟨y,rfl⟩:=jI fun r hr'=>ty80 n r (hr r hr')
  exact ⟨y,by rw[yS,show Tryz.prog.cellsOf 80=2 from by kernel_rfl]⟩
theorem ty82 (n:Nat) (xs:List AV) (h:bc Tryz.prog n 82 xs):∃x,xs=jN x:=by
 match n,h with
 |n+1,h=>
  simp only[bc,Tryz.underlying82] at h;obtain ⟨xss,rfl,h2⟩:=h;match xss,h2 with
  | [a0,a1,a2],⟨h0,h1,h2,_⟩=>
   obtain ⟨y0,rfl⟩:=ty3 _ _ h0;obtain ⟨y1,rfl⟩:=ty3 _ _ h1;obtain ⟨y2,rfl⟩:=ty65 _ _ h2;exact ⟨⟨y0,y1,y2⟩,rfl⟩
theorem ty84:∀(n:Nat) (xs:List AV),bc Tryz.prog n 84 xs→∃x,xs=eX x
 |0,_,h=>h.elim
 |n+1,xs,h=>by
  simp only[bc,Tryz.underlying84] at h;obtain ⟨xss,rfl,h2⟩:=h;match xss,h2 with
  | [a0,a1,a2,a3,a4],⟨h0,h1,h2,h3,h4,_⟩=>
   match n,h4 with
   |m+1,h4=>
    simp only[bc,Tryz.underlying61] at h4;obtain ⟨rows,rfl,hr⟩:=h4;obtain ⟨y4,rfl⟩:=jI fun r hr'=>ty84 m r (hr r hr')
    obtain ⟨y0,rfl⟩:=ty3 _ _ h0;obtain ⟨y1,rfl⟩:=ty3 _ _ h1;obtain ⟨y2,rfl⟩:=ty82 _ _ h2;obtain ⟨y3,rfl⟩:=ty82 _ _ h3;exact ⟨⟨y0,y1,y2,y3,y4⟩,by rw[←rU,show Tryz.prog.cellsOf 84=13 from by kernel_rfl];rfl⟩
theorem ty61 (n:Nat) (xs:List AV) (h:bc Tryz.prog n 61 xs):∃x,xs= [.slice 84 13 (dV x)]:=by
 match n,h with
 |n+1,h=>
  simp only[bc,Tryz.underlying61] at h;obtain ⟨rows,rfl,hr⟩:=h;obtain ⟨y,rfl⟩:=jI fun r hr'=>ty84 n r (hr r hr')
  exact ⟨y,by rw[rU,show Tryz.prog.cellsOf 84=13 from by kernel_rfl]⟩
theorem ty63 (n:Nat) (xs:List AV) (h:bc Tryz.prog n 63 xs):∃x,xs=dX x:=by
 match n,h with
 |n+1,h=>
  simp only[bc,Tryz.underlying63] at h;obtain ⟨xss,rfl,h2⟩:=h;match xss,h2 with
  | [a0,a1,a2,a3,a4],⟨h0,h1,h2,h3,h4,_⟩=>
   obtain ⟨y0,rfl⟩:=ty9 _ _ h0;obtain ⟨y1,rfl⟩:=ty59 _ _ h1;obtain ⟨y2,rfl⟩:=ty3 _ _ h2;obtain ⟨y3,rfl⟩:=ty60 _ _ h3;obtain ⟨y4,rfl⟩:=ty61 _ _ h4;exact ⟨⟨y0,y1,y2,y3,y4⟩,rfl⟩
theorem ty24 (n:Nat) (xs:List AV) (h:bc Tryz.prog n 24 xs):∃x,xs= [.slice 63 5 (cD x)]:=by
 match n,h with
 |n+1,h=>
  simp only[bc,Tryz.underlying24] at h;obtain ⟨rows,rfl,hr⟩:=h;obtain ⟨y,rfl⟩:=jI fun r hr'=>ty63 n r (hr r hr')
  exact ⟨y,by rw[rW,show Tryz.prog.cellsOf 63=5 from by kernel_rfl]⟩
theorem ty26 (n:Nat) (xs:List AV) (h:bc Tryz.prog n 26 xs):∃x,xs=aX x:=by
 match n,h with
 |n+1,h=>
  simp only[bc,Tryz.underlying26] at h;obtain ⟨xss,rfl,h2⟩:=h;match xss,h2 with
  | [a0,a1],⟨h0,h1,_⟩=>
   obtain ⟨y0,rfl⟩:=ty3 _ _ h0;obtain ⟨y1,rfl⟩:=ty24 _ _ h1;exact ⟨⟨y0,y1⟩,rfl⟩
end Go.Proofs.YtmealahmjddpcaaGreatDoor
end
noncomputable section
namespace Go.Proofs.YtmealahmjddpcaaGreatDoor
open Go.Sim
theorem bZ {x:Int} (h1: -9223372036854775808≤x) (h2:x≤9223372036854775807):w64 x=x:=IntWalk.i64_in x ⟨h1,h2⟩
theorem aW {α:Type} (xs:List α) (i:Nat):idx xs (i:Int)=xs[i]? :=by simp[idx]
mutual
def szP:ag→Nat
 |⟨_,_,_,_,args⟩=>2+szL args
def szL:List ag→Nat
 | []=>0
 |x::xs=>1+szP x+szL xs
end
theorem nX (xs:List ag):xs.length≤szL xs:=by
 induction xs with
 |nil=>simp[szL]
 |cons x xs ih=>simp[szL];omega
def zv:aa:=aa.mk 0 0 ByteArray.empty
def eh (v:aa):Bool:=
 if v.ar==1||v.ar==2 then v.bL==0&&decide (v.bj=ByteArray.empty)
 else if v.ar==3 then (v.bL==0||v.bL==1)&&decide (v.bj=ByteArray.empty)
 else if v.ar==4 then decide (v.bj=ByteArray.empty)
 else if v.ar==5 then v.bL==0&&decide ((v.bj.size:Int)≤64)
 else false
def gF (v:aa):Bool:=eh v&&decide (3≤v.ar)
theorem u9 (n:Nat) (v:aa):F88 n v=some (eh v):=by
 unfold F88 P6 eh;by_cases h1:v.ar=1<;>by_cases h2:v.ar=2<;>by_cases h3:v.ar=3<;>by_cases h4:v.ar=4<;>by_cases h5:v.ar=5<;>by_cases h6:v.bL=0<;>by_cases h7:v.bL=1<;>simp_all<;>simp[←Int.not_le]
theorem M1 (n:Nat) (v:aa):P3 n v=some (eh v):=by
 have:=u9 n v;exact this
theorem KM {v:aa} (h:eh v=true):1≤v.ar∧v.ar≤5:=by
 unfold eh at h;split at h
 ·rename_i h1;simp at h1;omega
 ·split at h
  ·rename_i h1;simp at h1;omega
  ·split at h
   ·rename_i h1;simp at h1;omega
   ·split at h
    ·rename_i h1;simp at h1;omega
    ·simp at h
theorem aaP (n:Nat) (v:aa):PT n v=some (gF v):=by
 unfold PT Kh;rw[u9];simp only[Option.bind_some,gF];cases eh v<;>simp<;>simp[←Int.not_le]
theorem U1 (n:Nat) (v:aa):F80 n v=some (gF v):=by
 unfold F80 Qd;rw[M1];simp only[Option.bind_some,gF];cases h:eh v with
 |false=>simp
 |true=>
  have:=KM h;by_cases h1:v.ar=1
  ·simp[h1]
  ·by_cases h2:v.ar=2
   ·simp[h2]
   ·have:3≤v.ar:=by omega
    simp[h1,h2,this]
theorem Dz:∀a b:List UInt8,Lib.compareBytes a b=if Op.bytesLess a b then -1 else if a=b then 0 else 1
 | [],[]=>by simp[Lib.compareBytes,Op.bytesLess]
 | [],_::_=>by simp[Lib.compareBytes,Op.bytesLess]
 |_::_,[]=>by simp[Lib.compareBytes,Op.bytesLess]
 |a::l,b::m=>by
  rw[Lib.compareBytes,Op.bytesLess,Dz l m];by_cases h:a<b
  ·simp[h]
  ·by_cases h2:b<a
   ·have hne:a≠b:=fun e=>by subst e;exact absurd h2 (UInt8.lt_irrefl _)
    simp[h,h2,hne]
   ·have he:a=b:=UInt8.le_antisymm (UInt8.not_lt.1 h2) (UInt8.not_lt.1 h);subst he;simp[UInt8.lt_irrefl]
def iC (a b:aa):Int:=
 if a.ar<b.ar then -1 else if b.ar<a.ar then 1
 else if a.bL<b.bL then -1 else if b.bL<a.bL then 1
 else if Op.bytesLess a.bj.toList b.bj.toList then -1 else if a.bj=b.bj then 0 else 1
theorem gC:∀a:List UInt8,Op.bytesLess a a=false
 | []=>by simp[Op.bytesLess]
 |a::l=>by simp[Op.bytesLess,gC l,UInt8.lt_irrefl]
theorem m8 {a b:ByteArray} (h:a.data.toList=b.data.toList):a=b:=by
 cases a;cases b;simp at h;simp[h]
theorem ld (a:ByteArray):a.toList=a.data.toList:=by
 exact ByteArray.toList_eq a
theorem adr (n:Nat) (a b:aa):F61 n a b=some (iC a b):=by
 unfold F61 Ql iC;by_cases h1:a.ar<b.ar
 ·simp[h1]
 ·by_cases h2:b.ar<a.ar
  ·simp[h1,h2]
  ·by_cases h3:a.bL<b.bL
   ·simp[h1,h2,h3]
   ·by_cases h4:b.bL<a.bL
    ·simp[h1,h2,h3,h4]
    ·by_cases h5:Op.bytesLess a.bj.toList b.bj.toList=true
     ·simp[h1,h2,h3,h4,h5]
     ·by_cases h6:a.bj=b.bj
      ·simp[h1,h2,h3,h4,h6,gC]
      ·have h7:¬a.bj.toList=b.bj.toList:=fun e=>h6 (m8 (by rw[ld,ld] at e;exact e))
       simp[h1,h2,h3,h4,h5,h6,h7]
theorem Xr (n:Nat) (a b:ByteArray):PS n a b=some (if Op.bytesLess a.toList b.toList then -1 else if a=b then 0 else 1):=by
 unfold PS;rw[Dz,ld,ld];by_cases h:a=b
 ·subst h;simp
 ·have:a.data.toList≠b.data.toList:=fun e=>h (m8 e)
  simp[h,this]
theorem aaT (n:Nat) (a b:Int):PX n a b=some (if a<b then -1 else if b<a then 1 else 0):=by
 unfold PX Kq PV Kk;by_cases h1:a<b
 ·simp[h1]
 ·by_cases h2:b<a<;>simp[h1,h2]
theorem aaS (n:Nat) (a b:Int):PW n a b=some (if a<b then -1 else if b<a then 1 else 0):=by
 unfold PW Kp PU Kj;by_cases h1:a<b
 ·simp[h1]
 ·by_cases h2:b<a<;>simp[h1,h2]
theorem adg (n:Nat) (a b:aa):F95 n a b=some (iC a b):=by
 unfold F95 P5 Xt Ko Xs Ki;rw[aaT,aaS,Xr];obtain ⟨k,i,t⟩:=a;obtain ⟨k',i',t'⟩:=b;unfold iC;simp only[Option.bind_some];by_cases h1:k<k'
 ·have:k≠k':=by omega
  simp[h1,this]
 ·by_cases h2:k'<k
  ·have:k≠k':=by omega
   simp[h1,h2,this]
  ·have hk:k=k':=by omega
   subst hk;by_cases h3:i<i'
   ·have:i≠i':=by omega
    simp[h3,this]
   ·by_cases h4:i'<i
    ·have:i≠i':=by omega
     simp[h3,h4,this]
    ·have hi:i=i':=by omega
     subst hi;by_cases h5:t=t'
     ·subst h5;simp[gC]
     ·simp[h5]
theorem aP {α:Type} {xs:List α} {i:Nat} {x:α} {l:List α} (h:xs.drop i=x::l):xs[i]? =some x∧xs.drop (i+1)=l∧i<xs.length:=by
 have h1:i<xs.length:=by
  by_cases hl:i<xs.length
  ·exact hl
  ·rw[List.drop_of_length_le (by omega)] at h;simp at h
 rw[List.drop_eq_getElem_cons h1] at h;obtain ⟨q1,q2⟩:=List.cons.inj h;exact ⟨by simp[h1,q1],q2,h1⟩
theorem lM {x:ag} {xs:List ag} (h:x∈xs):szP x+xs.length≤szL xs:=by
 induction xs with
 |nil=>simp at h
 |cons y ys ih=>
  have hl:=nX ys;simp only[szL,List.length_cons];rcases List.mem_cons.1 h with rfl|h
  ·omega
  ·have:=ih h;omega
end Go.Proofs.YtmealahmjddpcaaGreatDoor
end
noncomputable section
namespace Go.Proofs.YtmealahmjddpcaaGreatDoor
open Go.Sim
def Ok {α:Type} (x:Option α) (P:α→Prop):Prop:=∃a,x=some a∧P a
theorem Ok.pure {α:Type} {a:α} {P:α→Prop} (h:P a):Ok (some a) P:=⟨a,rfl,h⟩
theorem Ok.bind {α β:Type} {x:Option α} {f:α→Option β} {P:α→Prop} {Q:β→Prop} (h:Ok x P) (k:∀a,P a→Ok (f a) Q):Ok (x.bind f) Q:=by
 obtain ⟨a,rfl,ha⟩:=h;exact k a ha
theorem Ok.mono {α:Type} {x:Option α} {P Q:α→Prop} (h:Ok x P) (k:∀a,P a→Q a):Ok x Q:=by
 obtain ⟨a,h1,h2⟩:=h;exact ⟨a,h1,k a h2⟩
theorem Ok.ite {α:Type} {b:Bool} {x y:Option α} {P:α→Prop} (h1:b=true→Ok x P) (h2:b=false→Ok y P):Ok (if b=true then x else y) P:=by
 cases b with
 |true=>simpa using h1 rfl
 |false=>simpa using h2 rfl
structure aY (c:ai):Prop where
 lo:0≤c.fat
 hi:c.fat≤c.fh.length
 len:c.fh.length≤1000
 byte:∀x∈c.fh,0≤x∧x≤255
theorem cR {α:Type} (xs ys:List α) (h:xs.length+ys.length≤1000000):app xs ys=some (xs++ys):=by unfold app;rw[if_pos (by omega)]
theorem agW (n:Nat) (aK:List Int) (m:Int) (hb:∀x∈aK,0≤x∧x≤255) (h0:0≤m) (h1:m≤1000):Ok (F8 n aK m) aY:=by
 unfold F8 Xv;have hc:∃k:Nat,(if m<(aK.length:Int) then m else (aK.length:Int))=(k:Int)∧k≤aK.length∧k≤1000:=by
  by_cases h:m<(aK.length:Int)
  ·exact ⟨m.toNat,by rw[if_pos h];omega,by omega,by omega⟩
  ·exact ⟨aK.length,by rw[if_neg h],Nat.le_refl _,by omega⟩
 obtain ⟨k,e,k1,k2⟩:=hc;rw[e];have h2:cut aK none (some (k:Int))=some (aK.take k):=by simp[cut,k1]
 rw[h2,Option.bind_some,cR _ _ (by simp;omega),Option.bind_some]
 refine Ok.pure ⟨Int.le_refl _,by simp,by simp;omega,fun x hx=> ?_⟩
 exact hb x (List.mem_of_mem_take (by simpa using hx))
theorem de (n:Nat) (c:ai) (m:Int) (h:aY c):Ok (F24 n c m) fun r=>aY r.2∧0≤r.1∧(1≤m→r.1<m)∧(m<1→r.1=0)∧r.1≤255:=by
 unfold F24 QF;refine Ok.ite (fun h1=>Ok.pure ⟨h,Int.le_refl _,fun h=>by omega,fun _=>rfl,by omega⟩) fun h1=> ?_
 simp at h1;refine Ok.ite (fun h2=>Ok.pure ⟨h,Int.le_refl _,fun h=>by omega,fun _=>rfl,by omega⟩) fun h2=> ?_
 simp at h2;have h3:=h.lo;have h4:=h.len;rw[bZ (x:=c.fat+1) (by omega) (by omega),bZ (by omega) (by omega)]
 have e:c.fat+1-1=(c.fat.toNat:Int):=by omega
 have hlt:c.fat.toNat<c.fh.length:=by omega
 rw[e,aW,List.getElem?_eq_getElem hlt,Option.bind_some];have hb:=h.byte (c.fh[c.fat.toNat]) (List.getElem_mem _);rw[bZ (by omega) (by omega)]
 have hm:m≠0:=by omega
 simp only[rem,hm,if_false,Option.bind_some];have q1:=Int.tmod_nonneg m hb.1;have q2:=Int.tmod_lt_of_pos c.fh[c.fat.toNat] (by omega:0<m)
 have q3:c.fh[c.fat.toNat].tmod m≤c.fh[c.fat.toNat]:=by
  rw[Int.tmod_eq_emod_of_nonneg hb.1];have:=Int.emod_add_mul_ediv c.fh[c.fat.toNat] m;have h5:0≤m*(c.fh[c.fat.toNat] / m):=Int.mul_nonneg (by omega) (Int.ediv_nonneg hb.1 (by omega))
  omega
 exact Ok.pure ⟨⟨by simp;omega,by simp;omega,h4,h.byte⟩,q1,fun _=>q2,fun h=>by omega,by simp;omega⟩
theorem jE (n:Nat) (c:ai) (m:Int) (h:aY c):Ok (F29 n c m) fun r=>aY r.2:=by
 unfold F29 QE;refine Ok.bind (de n c m h) fun r hr=> ?_
 exact Ok.pure hr.1
theorem aaW (n:Nat) (c:ai) (h:aY c):Ok (P0 n c) fun r=>aY r.2∧ -9223372036854775808≤r.1∧r.1≤9223372036854775807:=by
 unfold P0 KB;refine Ok.bind (de n c 12 h) fun r ⟨hr,h0,_,_,h2⟩=> ?_
 refine Ok.ite (fun _=>Ok.pure ⟨hr,by simp,by simp⟩) fun _=> ?_
 refine Ok.ite (fun _=>Ok.pure ⟨hr,by simp,by simp⟩) fun _=> ?_
 refine Ok.ite (fun _=>Ok.pure ⟨hr,by simp,by simp⟩) fun _=> ?_
 have q1:=Int.tmod_nonneg 4 h0;have q2:=Int.tmod_lt_of_pos r.1 (by omega:(0:Int)<4)
 exact Ok.pure ⟨hr,by simp;omega,by simp;omega⟩
theorem DF (c:ai):∀(k n:Nat) (s:ByteArray) (i:Int),i=64-k→k≤64→s.size=64-k→k<n→Ok (rB (fun l b=>some (l,b)) n s i c) fun r=>r.2=c∧r.1.size≤64
 |0,n+1,s,i,hi,_,hs,_=>by
  have h:¬i<64:=by omega
  simp only[rB,A1,h,decide_false,Bool.false_eq_true,if_false];exact Ok.pure ⟨rfl,by simp;omega⟩
 |k+1,n+1,s,i,hi,hk,hs,hn=>by
  have h:i<64:=by omega
  simp only[rB,A1,h,decide_true,if_true];have hc:cat s (ByteArray.mk #[255])=some (s++ByteArray.mk #[255]):=by
   have:(ByteArray.mk #[255]).size=1:=rfl;unfold cat;rw[if_pos (by omega)]
  rw[hc,Option.bind_some,bZ (by omega) (by omega)]
  have hsz:(s++ByteArray.mk #[255]).size=s.size+1:=by rw[ByteArray.size_append];rfl
  exact DF c k n _ _ (by omega) (by omega) (by omega) (by omega)
 |_,0,_,_,_,_,_,hn=>by simp at hn
theorem DE (c:ai):∀(k n:Nat) (s:ByteArray) (i:Int),i=64-k→k≤64→s.size=64-k→k<n→Ok (rA (fun l b=>some (l,b)) n s i c) fun r=>r.2=c∧r.1.size≤64
 |0,n+1,s,i,hi,_,hs,_=>by
  have h:¬i<64:=by omega
  simp only[rA,A0,h,decide_false,Bool.false_eq_true,if_false];exact Ok.pure ⟨rfl,by simp;omega⟩
 |k+1,n+1,s,i,hi,hk,hs,hn=>by
  have h:i<64:=by omega
  simp only[rA,A0,h,decide_true,if_true];have hc:cat s (ByteArray.mk #[98])=some (s++ByteArray.mk #[98]):=by
   have:(ByteArray.mk #[98]).size=1:=rfl;unfold cat;rw[if_pos (by omega)]
  rw[hc,Option.bind_some,bZ (by omega) (by omega)]
  have hsz:(s++ByteArray.mk #[98]).size=s.size+1:=by rw[ByteArray.size_append];rfl
  exact DE c k n _ _ (by omega) (by omega) (by omega) (by omega)
 |_,0,_,_,_,_,_,hn=>by simp at hn
theorem aaV (n:Nat) (hn:100≤n) (c:ai) (h:aY c):Ok (PZ n c) fun r=>aY r.2∧r.1.size≤64:=by
 unfold PZ KA;refine Ok.bind (de n c 10 h) fun r ⟨hr,_⟩=> ?_
 refine Ok.ite (fun _=>Ok.pure ⟨hr,Nat.le_of_ble_eq_true rfl⟩) fun _=> ?_
 refine Ok.ite (fun _=>Ok.pure ⟨hr,Nat.le_of_ble_eq_true rfl⟩) fun _=> ?_
 refine Ok.ite (fun _=>Ok.pure ⟨hr,Nat.le_of_ble_eq_true rfl⟩) fun _=> ?_
 refine Ok.ite (fun _=>Ok.pure ⟨hr,Nat.le_of_ble_eq_true rfl⟩) fun _=> ?_
 refine Ok.ite (fun _=>Ok.pure ⟨hr,Nat.le_of_ble_eq_true rfl⟩) fun _=> ?_
 refine Ok.ite (fun _=>Ok.pure ⟨hr,Nat.le_of_ble_eq_true rfl⟩) fun _=> ?_
 refine Ok.ite (fun _=>Ok.pure ⟨hr,Nat.le_of_ble_eq_true rfl⟩) fun _=> ?_
 refine Ok.ite (fun _=>Ok.pure ⟨hr,Nat.le_of_ble_eq_true rfl⟩) fun _=> ?_
 refine Ok.ite (fun _=> ?_) fun _=> ?_
 ·exact (DF r.2 64 n ByteArray.empty 0 (by omega) (by omega) rfl (by omega)).mono fun x ⟨e,hx⟩=>⟨by rw[e];exact hr,hx⟩
 ·exact (DE r.2 64 n ByteArray.empty 0 (by omega) (by omega) rfl (by omega)).mono fun x ⟨e,hx⟩=>⟨by rw[e];exact hr,hx⟩
theorem Aw (n:Nat) (hn:100≤n) (c:ai) (k:Int) (h:aY c) (hk:3≤k) (hk':k≤5):Ok (F74 n c k) fun r=>aY r.2∧r.1.ar=k∧gF r.1=true:=by
 unfold F74 Qh;refine Ok.ite (fun h3=> ?_) fun h3=> ?_
 ·simp at h3;refine Ok.bind (de n c 2 h) fun r ⟨hr,h0,h1,_⟩=>Ok.pure ⟨hr,rfl,?_⟩
  have h1:=h1 (by omega)
  have:r.1=0∨r.1=1:=by omega
  rcases this with e|e<;>simp[gF,eh,h3,e]
 ·simp at h3;refine Ok.ite (fun h4=> ?_) fun h4=> ?_
  ·simp at h4;refine Ok.bind (aaW n c h) fun r ⟨hr,_⟩=>Ok.pure ⟨hr,rfl,by simp[gF,eh,h4]⟩
  ·simp at h4;refine Ok.bind (aaV n hn c h) fun r ⟨hr,hs⟩=>Ok.pure ⟨hr,by simp;omega,?_⟩
   have:(r.1.size:Int)≤64:=by omega
   simp[gF,eh,this]
theorem J1 (n:Nat) (hn:100≤n) (c:ai) (h:aY c):Ok (F43 n c) fun r=>aY r.2∧1≤r.1.ar∧r.1.ar≤5∧(3≤r.1.ar→gF r.1=true):=by
 unfold F43 Qo;refine Ok.bind (de n c 5 h) fun r ⟨hr,h0,h1,_⟩=> ?_
 have h1:=h1 (by omega)
 rw[bZ (by omega) (by omega)]
 refine Ok.ite (fun h2=> ?_) fun h2=> ?_
 ·simp at h2;exact Ok.pure ⟨hr,by simp;omega,by simp;omega,by simp;omega⟩
 ·simp at h2;refine Ok.bind (Aw n hn r.2 (1+r.1) hr (by omega) (by omega)) fun x ⟨hx,e,hre⟩=>Ok.pure ⟨hx,by simp;omega,by simp;omega,fun _=>hre⟩
end Go.Proofs.YtmealahmjddpcaaGreatDoor
end
