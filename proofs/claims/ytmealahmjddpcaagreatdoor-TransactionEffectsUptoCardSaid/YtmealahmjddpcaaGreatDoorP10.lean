/- Texts that belong together. The first: Functions of the program as plain functions, and that the program answers as they do; written by a program (comp2.py). -/
import Derived.Test.YtmealahmjddpcaaGreatDoorP9
import Derived.KernelRfl
import Derived.Test.YtmealahmjddpcaaGreatDoorP8
import Derived.IntWalk
set_option linter.all false
set_option maxRecDepth 100000
noncomputable section
namespace Go.Proofs.YtmealahmjddpcaaGreatDoor
open Go.Sim
def abf (r:Bool):AV:=.bool r
def VV (r:Bool):List (Nat×Bx):= []
def x39:=fx E0 Tryz.f39 [] []
def A39:=Ax x39 abf VV
def C39:=Cx E0 39 abf VV
def Ic (dw:List Int) (t12:List ae) (t13 t14:Int):LS:=⟨[(1,.slice 3 1 (bj dw)),(12,.slice 65 3 (aH t12)),(13,.int .i64 t13),(14,.int .i64 t14)],[]⟩
def Ib:LS:=⟨[],[]⟩
def TY (dA:List ae) (dw:List Int):LS:=⟨[(0,.slice 65 3 (aH dA)),(1,.slice 3 1 (bj dw))],[]⟩
def GQ (k_1 : Option Bool) (back : (List Int) → (List ae) → Int → Int → Option Bool) (n : Nat) (dw : List Int) (t12 : List ae) (t13 t14 : Int) : Option Bool :=
 if decide (t14 < t13) then
 (idx t12 t14).bind fun x3 =>
 (F80 n x3).bind fun x10 =>
 if !x10 then
 some false
 else
 (idx dw t14).bind fun x18 =>
 if x3.aD != x18 then
 some false
 else
 back dw t12 t13 (w64 (t14 + 1))
 else
 k_1
theorem ajF {k_1} (aK : K0 (A39 [1, 1, 1]) Ib k_1) {back} (aE : K4 (A39 [0, 1, 0, 1, 1]) Ic back) (n : Nat) : K4 (A39 [0, 1, 0, 1, 1]) Ic (GQ k_1 back n) := fun dw t12 t13 t14 r h =>
 ie h (fun c0 h =>
 be h fun x3 hx3 h =>
 be h fun x10 dr h =>
 ie h (fun c1 h =>
 rr h [(0, eb c0), (1, R64.idx hx3), (5, .call (Kt n dr) [] [] []), (0, eb c1)]) (fun c1 h =>
 be h fun x18 gS h =>
 ie h (fun c2 h =>
 rr h [(0, eb c0), (1, R64.idx hx3), (5, .call (Kt n dr) [] [] []), (0, eb c1), (5, R3.idx gS), (1, eb c2)]) (fun c2 h =>
 ra (aE h) [(0, eb c0), (1, R64.idx hx3), (5, .call (Kt n dr) [] [] []), (0, eb c1), (5, R3.idx gS), (1, eb c2)]))) (fun c0 h =>
 ra (aK h) [(0, eb c0)])
def xI (k_1:Option Bool):Nat→(List Int)→(List ae)→Int→Int→Option Bool
 |0,_,_,_,_=>none
 |n+1,dw,t12,t13,t14=>GQ k_1 (xI k_1 n) n dw t12 t13 t14
theorem abZ {k_1} (aK:K0 (A39 [1,1,1]) Ib k_1):∀n:Nat,K4 (A39 [0,1,0,1,1]) Ic (xI k_1 n)
 |0=>fun _ _ _ _ _ h=>nz h
 |n+1=>fun _ _ _ _ _ h=>ajF aK (abZ aK n) n h
def GP (n : Nat) : Option Bool :=
 some true
theorem ajE (n : Nat) : K0 (A39 [1, 1, 1]) Ib (GP n) := fun r h =>
 rr h []
def SN (n : Nat) (dA : List ae) (dw : List Int) : Option Bool :=
 if (dA.length : Int) != (dw.length : Int) then
 some false
 else
 xI (GP n) n dw dA (dA.length : Int) 0
theorem ajD (n : Nat) : K2 (A39 []) TY (SN n) := fun dA dw r h =>
 ie h (fun c0 h =>
 rr h [(2, .eqv (R64.az dA)), (1, .eqv (R3.az dw)), (0, eb c0)]) (fun c0 h =>
 ra (abZ (ajE n) n h) [(2, .eqv (R64.az dA)), (1, .eqv (R3.az dw)), (0, eb c0), (1, .eqv (R64.az dA))])
def F39 (n:Nat) (dA:List ae) (dw:List Int):Option Bool:=SN n dA dw
theorem DV (n:Nat):K2 C39 TY (F39 n):=fun _ _ _ h=>ca (X:=x39) (ajD n h)
def abe (r:(List Int)):AV:=.ms 200000 1 0 r.length
def VU (r:(List Int)):List (Nat×Bx):= [(200000,.rows false 3 1 (bj r))]
def x40:=fx E0 Tryz.f40 [] [200000]
def A40:=Ax x40 abe VU
def C40:=Cx E0 40 abe VU
def TX (s0:ag) (aS:Int):LS:=⟨[(0,.agg (bf s0)),(1,.int .i64 aS)],[]⟩
def SM (n : Nat) (s0 : ag) (aS : Int) : Option (List Int) :=
 (F78 n s0 aS).bind fun x5 =>
 (F81 n s0 aS).bind fun x10 =>
 if !x10 then
 some []
 else
 (idx s0.ah aS).bind fun x17 =>
 if decide (x17.aA < 0) then
 some []
 else
 (idx s0.ah aS).bind fun x27 =>
 (iA x5.length (if (x5.length : Int) < x27.aA then (x5.length : Int) else x27.aA)).bind fun x34 =>
 some (x5.take x34)
theorem ajC (n : Nat) : K2 (A40 []) TX (SM n) := fun s0 aS r h =>
 be h fun x5 hx5 h =>
 be h fun x10 dr h =>
 ie h (fun c0 h =>
 rr h [(4, .call (Ku n hx5) [] [] [(8, 200000)]), (3, .call (qo n dr) [] [] []), (0, eb c0), (3, .born [4] [] 200000 false 3 1)]) (fun c0 h =>
 be h fun x17 gD h =>
 ie h (fun c1 h =>
 rr h [(4, .call (Ku n hx5) [] [] [(8, 200000)]), (3, .call (qo n dr) [] [] []), (0, eb c0), (4, R62.idx gD), (2, eb c1), (2, .born [4] [] 200000 false 3 1)]) (fun c1 h =>
 be h fun x27 r8 h =>
 be h fun x34 tP h =>
 rr h [(4, .call (Ku n hx5) [] [] [(8, 200000)]), (3, .call (qo n dr) [] [] []), (0, eb c0), (4, R62.idx gD), (2, eb c1), (5, R62.idx r8), (5, R3.iA (xs := x5) tP (Nat.le_of_eq rfl)), (1, .ren 8 200000), (0, .shr 200000 (R3.take x5 x34)), (0, .seq 4 (congrArg (fun n_ => (AV.ms 200000 1 0 n_)) ((uX (xs := x5) (Nat.le_trans (ku tP).2 (Nat.le_of_eq rfl))).symm)))]))
def F40 (n:Nat) (s0:ag) (aS:Int):Option (List Int):=SM n s0 aS
theorem Kw (n:Nat):K2 C40 TX (F40 n):=fun _ _ _ h=>ca (X:=x40) (ajC n h)
def UO (r:Bool):AV:=.bool r
def NO (r:Bool):List (Nat×Bx):= []
def x137:=fx E0 Tryz.f137 [] []
def A137:=Ax x137 UO NO
def C137:=Cx E0 137 UO NO
def Nm (x0:Int):LS:=⟨[(0,.int .i64 x0)],[]⟩
def L7 (n : Nat) (x0 : Int) : Option Bool :=
 some (x0 != x0)
theorem afR (n : Nat) : K1 (A137 []) Nm (L7 n) := fun x0 r h =>
 rr h []
def RT (n:Nat) (x0:Int):Option Bool:=L7 n x0
theorem lv (n:Nat):K1 C137 Nm (RT n):=fun _ _ h=>ca (X:=x137) (afR n h)
def UU (r:Int):AV:=.int .i64 r
def NU (r:Int):List (Nat×Bx):= []
def x121:=fx E0 Tryz.f121 [] []
def A121:=Ax x121 UU NU
def C121:=Cx E0 121 UU NU
def Ns (x0 y1:Int):LS:=⟨[(0,.int .i64 x0),(1,.int .i64 y1)],[]⟩
def Me (n : Nat) (x0 y1 : Int) : Option Int :=
 (RT n x0).bind fun x3 =>
 (RT n y1).bind fun x7 =>
 if x3 then
 if x7 then
 some 0
 else
 some (-1)
 else
 if x7 then
 some 1
 else
 if decide (x0 < y1) then
 some (-1)
 else
 if decide (y1 < x0) then
 some 1
 else
 some 0
theorem afX (n : Nat) : K2 (A121 []) Ns (Me n) := fun x0 y1 r h =>
 be h fun x3 hx3 h =>
 be h fun x7 hx7 h =>
 ie h (fun c0 g0 => by subst c0; exact (
 ie g0 (fun c1 g1 => by subst c1; exact (
 rr g1 [(2, .call (lv n hx3) [] [] []), (2, .call (lv n hx7) [] [] [])])) (fun c1 g1 => by subst c1; exact (
 rr g1 [(2, .call (lv n hx3) [] [] []), (2, .call (lv n hx7) [] [] [])])))) (fun c0 g0 => by subst c0; exact (
 ie g0 (fun c1 g1 => by subst c1; exact (
 rr g1 [(2, .call (lv n hx3) [] [] []), (2, .call (lv n hx7) [] [] [])])) (fun c1 g1 => by subst c1; exact (
 ie g1 (fun c2 g1 =>
 rr g1 [(2, .call (lv n hx3) [] [] []), (2, .call (lv n hx7) [] [] []), (5, eb c2)]) (fun c2 g1 =>
 ie g1 (fun c3 g1 =>
 rr g1 [(2, .call (lv n hx3) [] [] []), (2, .call (lv n hx7) [] [] []), (5, eb c2), (2, eb c3)]) (fun c3 g1 =>
 rr g1 [(2, .call (lv n hx3) [] [] []), (2, .call (lv n hx7) [] [] []), (5, eb c2), (2, eb c3)]))))))
def RV (n:Nat) (x0 y1:Int):Option Int:=Me n x0 y1
theorem QY (n:Nat):K2 C121 Ns (RV n):=fun _ _ _ h=>ca (X:=x121) (afX n h)
def UN (r:Bool):AV:=.bool r
def NN (r:Bool):List (Nat×Bx):= []
def x138:=fx E0 Tryz.f138 [] []
def A138:=Ax x138 UN NN
def C138:=Cx E0 138 UN NN
def Nl (x0:Int):LS:=⟨[(0,.int .i64 x0)],[]⟩
def L6 (n : Nat) (x0 : Int) : Option Bool :=
 some (x0 != x0)
theorem afQ (n : Nat) : K1 (A138 []) Nl (L6 n) := fun x0 r h =>
 rr h []
def RS (n:Nat) (x0:Int):Option Bool:=L6 n x0
theorem lu (n:Nat):K1 C138 Nl (RS n):=fun _ _ h=>ca (X:=x138) (afQ n h)
def UT (r:Int):AV:=.int .i64 r
def NT (r:Int):List (Nat×Bx):= []
def x122:=fx E0 Tryz.f122 [] []
def A122:=Ax x122 UT NT
def C122:=Cx E0 122 UT NT
def Nr (x0 y1:Int):LS:=⟨[(0,.int .i64 x0),(1,.int .i64 y1)],[]⟩
def Mc (n : Nat) (x0 y1 : Int) : Option Int :=
 (RS n x0).bind fun x3 =>
 (RS n y1).bind fun x7 =>
 if x3 then
 if x7 then
 some 0
 else
 some (-1)
 else
 if x7 then
 some 1
 else
 if decide (x0 < y1) then
 some (-1)
 else
 if decide (y1 < x0) then
 some 1
 else
 some 0
theorem afW (n : Nat) : K2 (A122 []) Nr (Mc n) := fun x0 y1 r h =>
 be h fun x3 hx3 h =>
 be h fun x7 hx7 h =>
 ie h (fun c0 g0 => by subst c0; exact (
 ie g0 (fun c1 g1 => by subst c1; exact (
 rr g1 [(2, .call (lu n hx3) [] [] []), (2, .call (lu n hx7) [] [] [])])) (fun c1 g1 => by subst c1; exact (
 rr g1 [(2, .call (lu n hx3) [] [] []), (2, .call (lu n hx7) [] [] [])])))) (fun c0 g0 => by subst c0; exact (
 ie g0 (fun c1 g1 => by subst c1; exact (
 rr g1 [(2, .call (lu n hx3) [] [] []), (2, .call (lu n hx7) [] [] [])])) (fun c1 g1 => by subst c1; exact (
 ie g1 (fun c2 g1 =>
 rr g1 [(2, .call (lu n hx3) [] [] []), (2, .call (lu n hx7) [] [] []), (5, eb c2)]) (fun c2 g1 =>
 ie g1 (fun c3 g1 =>
 rr g1 [(2, .call (lu n hx3) [] [] []), (2, .call (lu n hx7) [] [] []), (5, eb c2), (2, eb c3)]) (fun c3 g1 =>
 rr g1 [(2, .call (lu n hx3) [] [] []), (2, .call (lu n hx7) [] [] []), (5, eb c2), (2, eb c3)]))))))
def RU (n:Nat) (x0 y1:Int):Option Int:=Mc n x0 y1
theorem acK (n:Nat):K2 C122 Nr (RU n):=fun _ _ _ h=>ca (X:=x122) (afW n h)
def UM (r:Int):AV:=.int .i64 r
def NM (r:Int):List (Nat×Bx):= []
def x139:=fx E0 Tryz.f139 [] []
def A139:=Ax x139 UM NM
def C139:=Cx E0 139 UM NM
def Nk (a0 b1:ByteArray):LS:=⟨[(0,.str a0),(1,.str b1)],[]⟩
def L5 (n : Nat) (a0 b1 : ByteArray) : Option Int :=
 (RQ n a0 b1).bind fun x4 =>
 some x4
theorem afP (n : Nat) : K2 (A139 []) Nk (L5 n) := fun a0 b1 r h =>
 be h fun x4 hx4 h =>
 rr h [(3, .call (ahY n hx4) [] [] [])]
def aae (n:Nat) (a0 b1:ByteArray):Option Int:=L5 n a0 b1
theorem ahZ (n:Nat):K2 C139 Nk (aae n):=fun _ _ _ h=>ca (X:=x139) (afP n h)
def US (r:Int):AV:=.int .i64 r
def NS (r:Int):List (Nat×Bx):= []
def x123:=fx E0 Tryz.f123 [] []
def A123:=Ax x123 US NS
def C123:=Cx E0 123 US NS
def Nq (a0 b1:ByteArray):LS:=⟨[(0,.str a0),(1,.str b1)],[]⟩
def Mb (n : Nat) (a0 b1 : ByteArray) : Option Int :=
 (aae n a0 b1).bind fun x4 =>
 some x4
theorem afV (n : Nat) : K2 (A123 []) Nq (Mb n) := fun a0 b1 r h =>
 be h fun x4 hx4 h =>
 rr h [(3, .call (ahZ n hx4) [] [] [])]
def aaf (n:Nat) (a0 b1:ByteArray):Option Int:=Mb n a0 b1
theorem aia (n:Nat):K2 C123 Nq (aaf n):=fun _ _ _ h=>ca (X:=x123) (afV n h)
def aay (r:Int):AV:=.int .i64 r
def Vm (r:Int):List (Nat×Bx):= []
def x95:=fx E0 Tryz.f95 [] []
def A95:=Ax x95 aay Vm
def C95:=Cx E0 95 aay Vm
def Tp (a0 b1:ae):LS:=⟨[(0,.agg (ja a0)),(1,.agg (ja b1))],[]⟩
def R8 (n : Nat) (a0 b1 : ae) : Option Int :=
 if ((a0.aD == b1.aD) && ((a0.bJ == b1.bJ) && ((decide (a0.bt = b1.bt)) && true))) then
 some 0
 else
 (RV n a0.aD b1.aD).bind fun x11 =>
 if x11 != 0 then
 some x11
 else
 (RU n a0.bJ b1.bJ).bind fun x20 =>
 if x20 != 0 then
 some x20
 else
 (aaf n a0.bt b1.bt).bind fun x29 =>
 some x29
theorem aiq (n : Nat) : K2 (A95 []) Tp (R8 n) := fun a0 b1 r h =>
 ie h (fun c0 h =>
 rr h [(5, eb c0)]) (fun c0 h =>
 be h fun x11 cm h =>
 ie h (fun c1 h =>
 rr h [(5, eb c0), (4, .call (QY n cm) [] [] []), (2, eb c1)]) (fun c1 h =>
 be h fun x20 gR h =>
 ie h (fun c2 h =>
 rr h [(5, eb c0), (4, .call (QY n cm) [] [] []), (2, eb c1), (4, .call (acK n gR) [] [] []), (2, eb c2)]) (fun c2 h =>
 be h fun x29 vF h =>
 rr h [(5, eb c0), (4, .call (QY n cm) [] [] []), (2, eb c1), (4, .call (acK n gR) [] [] []), (2, eb c2), (4, .call (aia n vF) [] [] [])])))
def F95 (n:Nat) (a0 b1:ae):Option Int:=R8 n a0 b1
theorem ev95 (n:Nat):K2 C95 Tp (F95 n):=fun _ _ _ h=>ca (X:=x95) (aiq n h)
def aaz (r:Int):AV:=.int .i64 r
def Vn (r:Int):List (Nat×Bx):= []
def x94:=fx E0 Tryz.f94 [] []
def A94:=Ax x94 aaz Vn
def C94:=Cx E0 94 aaz Vn
def HI (s10 s21 t11:List ae) (t12 t13:Int):LS:=⟨[(0,.slice 65 3 (aH s10)),(1,.slice 65 3 (aH s21)),(2,.fn 95 [] []),(11,.slice 65 3 (aH t11)),(12,.int .i64 t12),(13,.int .i64 t13)],[]⟩
def HH (s10 s21:List ae):LS:=⟨[(0,.slice 65 3 (aH s10)),(1,.slice 65 3 (aH s21))],[]⟩
def Tq (s10 s21:List ae):LS:=⟨[(0,.slice 65 3 (aH s10)),(1,.slice 65 3 (aH s21)),(2,.fn 95 [] [])],[]⟩
def Gn (k_1 : (List ae) → (List ae) → Option Int) (back : (List ae) → (List ae) → (List ae) → Int → Int → Option Int) (n : Nat) (s10 s21 t11 : List ae) (t12 t13 : Int) : Option Int :=
 if decide (t13 < t12) then
 (idx t11 t13).bind fun x3 =>
 if !decide (t13 < (s21.length : Int)) then
 some 1
 else
 (idx s21 t13).bind fun x15 =>
 (F95 n x3 x15).bind fun x23 =>
 if x23 != 0 then
 some x23
 else
 back s10 s21 t11 t12 (w64 (t13 + 1))
 else
 k_1 s10 s21
theorem ait {k_1} (aK : K2 (A94 [1, 1]) HH k_1) {back} (aE : K5 (A94 [0, 1, 0, 1]) HI back) (n : Nat) : K5 (A94 [0, 1, 0, 1]) HI (Gn k_1 back n) := fun s10 s21 t11 t12 t13 r h =>
 ie h (fun c0 h =>
 be h fun x3 hx3 h =>
 ie h (fun c1 h =>
 rr h [(0, eb c0), (1, R64.idx hx3), (6, .eqv (R64.az s21)), (0, eb c1)]) (fun c1 h =>
 be h fun x15 gE h =>
 be h fun x23 fa h =>
 ie h (fun c2 h =>
 rr h [(0, eb c0), (1, R64.idx hx3), (6, .eqv (R64.az s21)), (0, eb c1), (2, R64.idx gE), (6, .call (ev95 n fa) [] [] []), (2, eb c2)]) (fun c2 h =>
 ra (aE h) [(0, eb c0), (1, R64.idx hx3), (6, .eqv (R64.az s21)), (0, eb c1), (2, R64.idx gE), (6, .call (ev95 n fa) [] [] []), (2, eb c2)]))) (fun c0 h =>
 ra (aK h) [(0, eb c0)])
def ux (k_1:(List ae)→(List ae)→Option Int):Nat→(List ae)→(List ae)→(List ae)→Int→Int→Option Int
 |0,_,_,_,_,_=>none
 |n+1,s10,s21,t11,t12,t13=>Gn k_1 (ux k_1 n) n s10 s21 t11 t12 t13
theorem abK {k_1} (aK:K2 (A94 [1,1]) HH k_1):∀n:Nat,K5 (A94 [0,1,0,1]) HI (ux k_1 n)
 |0=>fun _ _ _ _ _ _ h=>nz h
 |n+1=>fun _ _ _ _ _ _ h=>ait aK (abK aK n) n h
def BV (n : Nat) (s10 s21 : List ae) : Option Int :=
 if decide ((s10.length : Int) < (s21.length : Int)) then
 some (-1)
 else
 some 0
theorem ais (n : Nat) : K2 (A94 [1, 1]) HH (BV n) := fun s10 s21 r h =>
 ie h (fun c0 h =>
 rr h [(1, .eqv (R64.az s10)), (1, .eqv (R64.az s21)), (0, eb c0)]) (fun c0 h =>
 rr h [(1, .eqv (R64.az s10)), (1, .eqv (R64.az s21)), (0, eb c0)])
def adk (n : Nat) (s10 s21 : List ae) : Option Int :=
 ux (BV n) n s10 s21 s10 (s10.length : Int) 0
theorem air (n : Nat) : K2 (A94 []) Tq (adk n) := fun s10 s21 r h =>
 ra (abK (ais n) n h) [(2, .eqv (R64.az s10))]
def F94 (n:Nat) (s10 s21:List ae):Option Int:=adk n s10 s21
theorem ev94 (n:Nat):K2 C94 Tq (F94 n):=fun _ _ _ h=>ca (X:=x94) (air n h)
def aaZ (r:Int):AV:=.int .i64 r
def VO (r:Int):List (Nat×Bx):= []
def x52:=fx E0 Tryz.f52 [] []
def A52:=Ax x52 aaZ VO
def C52:=Cx E0 52 aaZ VO
def TS (a0 b1:List ae):LS:=⟨[(0,.slice 65 3 (aH a0)),(1,.slice 65 3 (aH b1))],[]⟩
def adn (n : Nat) (a0 b1 : List ae) : Option Int :=
 (F94 n a0 b1).bind fun x4 =>
 some x4
theorem ajv (n : Nat) : K2 (A52 []) TS (adn n) := fun a0 b1 r h =>
 be h fun x4 hx4 h =>
 rr h [(3, .call (ev94 n hx4) [] [] [])]
def F52 (n:Nat) (a0 b1:List ae):Option Int:=adn n a0 b1
theorem sg (n:Nat):K2 C52 TS (F52 n):=fun _ _ _ h=>ca (X:=x52) (ajv n h)
def aaO (r:Bool):AV:=.bool r
def VD (r:Bool):List (Nat×Bx):= []
def x70:=fx E0 Tryz.f70 [] []
def A70:=Ax x70 aaO VD
def C70:=Cx E0 70 aaO VD
def aeU (bk i10:Int) (ib qV:Bool) (t41:List ae) (t42 t43:Int) (b9:au) (b11:ae):LS:=⟨[(3,.int .i64 bk),(9,.loc 9 0),(10,.int .i64 i10),(11,.loc 11 0),(12,.bool ib),(13,.bool qV),(41,.slice 65 3 (aH t41)),(42,.int .i64 t42),(43,.int .i64 t43)],[(9,.flat 63 (ka b9)),(11,.flat 65 (ja b11))]⟩
def aeT (bk i10:Int) (ib:Bool) (t41:List ae) (t42 t43:Int) (b9:au) (b11:ae):LS:=⟨[(3,.int .i64 bk),(9,.loc 9 0),(10,.int .i64 i10),(11,.loc 11 0),(12,.bool ib),(41,.slice 65 3 (aH t41)),(42,.int .i64 t42),(43,.int .i64 t43)],[(9,.flat 63 (ka b9)),(11,.flat 65 (ja b11))]⟩
def u0 (bk:Int) (t41:List ae) (t42 t43:Int) (b9:au):LS:=⟨[(3,.int .i64 bk),(9,.loc 9 0),(41,.slice 65 3 (aH t41)),(42,.int .i64 t42),(43,.int .i64 t43)],[(9,.flat 63 (ka b9))]⟩
def HX:LS:=⟨[],[]⟩
def aeS (aS:Int) (ct:List ae) (bk:Int) (t29:Bool) (b4:ag):LS:=⟨[(1,.int .i64 aS),(2,.slice 65 3 (aH ct)),(3,.int .i64 bk),(4,.loc 4 0),(29,.bool t29)],[(4,.flat 26 (bf b4))]⟩
def TG (s0:ag) (aS:Int) (ct:List ae) (bk:Int):LS:=⟨[(0,.agg (bf s0)),(1,.int .i64 aS),(2,.slice 65 3 (aH ct)),(3,.int .i64 bk)],[]⟩
def B0 (k_2 : Int → (List ae) → Int → Int → au → Option Bool) (n : Nat) (bk i10 : Int) (ib qV : Bool) (t41 : List ae) (t42 t43 : Int) (b9 : au) (b11 : ae) : Option Bool :=
 (idx b9.aq i10).bind fun x6 =>
 if b11.aD != x6.aD then
 if !ib then
 if !qV then
 some false
 else
 k_2 bk t41 t42 (w64 (t43 + 1)) b9
 else
 k_2 bk t41 t42 (w64 (t43 + 1)) b9
 else
 k_2 bk t41 t42 (w64 (t43 + 1)) b9
theorem RB {k_2} (cR : K5 (A70 [0, 1, 0, 1, 1, 1, 1]) u0 k_2) (n : Nat) : K9 (A70 [1, 1, 1, 1, 0, 0, 1, 1, 0, 0, 1, 0, 1, 1, 1, 1]) aeU (B0 k_2 n) := fun bk i10 ib qV t41 t42 t43 b9 b11 r h =>
 be h fun x6 hx6 h =>
 ie h (fun c0 h =>
 ie h (fun c1 h =>
 ie h (fun c2 h =>
 rr h [(5, R76.idx hx6), (2, eb c0), (2, eb c1), (3, eb c2)]) (fun c2 h =>
 ra (cR h) [(5, R76.idx hx6), (2, eb c0), (2, eb c1), (3, eb c2)])) (fun c1 h =>
 ra (cR h) [(5, R76.idx hx6), (2, eb c0), (2, eb c1)])) (fun c0 h =>
 ra (cR h) [(5, R76.idx hx6), (2, eb c0)])
def ya (k_2 : Int → (List ae) → Int → Int → au → Option Bool) (n : Nat) (bk i10 : Int) (ib : Bool) (t41 : List ae) (t42 t43 : Int) (b9 : au) (b11 : ae) : Option Bool :=
 if b11.aD == 1 then
 if bk == 3 then
 B0 k_2 n bk i10 ib (!decide (i10 < b9.aA)) t41 t42 t43 b9 b11
 else
 B0 k_2 n bk i10 ib false t41 t42 t43 b9 b11
 else
 B0 k_2 n bk i10 ib false t41 t42 t43 b9 b11
theorem RA {k_2} (cR : K5 (A70 [0, 1, 0, 1, 1, 1, 1]) u0 k_2) (n : Nat) : K8 (A70 [1, 1, 1, 0, 0, 1, 1, 0, 0, 1, 0, 1, 1, 1, 1]) aeT (ya k_2 n) := fun bk i10 ib t41 t42 t43 b9 b11 r h =>
 ie h (fun c0 h =>
 ie h (fun c1 h =>
 ra (RB cR n h) [(2, eb c0), (2, eb c1)]) (fun c1 h =>
 ra (RB cR n h) [(2, eb c0), (2, eb c1)])) (fun c0 h =>
 ra (RB cR n h) [(2, eb c0)])
def GF (k_3 : Option Bool) (back : Int → (List ae) → Int → Int → au → Option Bool) (n : Nat) (bk : Int) (t41 : List ae) (t42 t43 : Int) (b9 : au) : Option Bool :=
 if decide (t43 < t42) then
 (idx t41 t43).bind fun x3 =>
 (R0 n x3).bind fun x10 =>
 if !x10 then
 some false
 else
 if x3.aD == 2 then
 if bk != 1 then
 ya back n bk t43 (!decide (t43 < b9.aA)) t41 t42 t43 b9 x3
 else
 ya back n bk t43 false t41 t42 t43 b9 x3
 else
 ya back n bk t43 false t41 t42 t43 b9 x3
 else
 k_3
theorem aja {k_3} (bO : K0 (A70 [1, 1, 1, 1, 1]) HX k_3) {back} (aE : K5 (A70 [0, 1, 0, 1, 1, 1, 1]) u0 back) (n : Nat) : K5 (A70 [0, 1, 0, 1, 1, 1, 1]) u0 (GF k_3 back n) := fun bk t41 t42 t43 b9 r h =>
 ie h (fun c0 h =>
 be h fun x3 hx3 h =>
 be h fun x10 dr h =>
 ie h (fun c1 h =>
 rr h [(0, eb c0), (1, R64.idx hx3), (5, .call (ub n dr) [] [] []), (0, eb c1)]) (fun c1 h =>
 ie h (fun c2 h =>
 ie h (fun c3 h =>
 ra (RA aE n h) [(0, eb c0), (1, R64.idx hx3), (5, .call (ub n dr) [] [] []), (0, eb c1), (2, eb c2), (2, eb c3)]) (fun c3 h =>
 ra (RA aE n h) [(0, eb c0), (1, R64.idx hx3), (5, .call (ub n dr) [] [] []), (0, eb c1), (2, eb c2), (2, eb c3)])) (fun c2 h =>
 ra (RA aE n h) [(0, eb c0), (1, R64.idx hx3), (5, .call (ub n dr) [] [] []), (0, eb c1), (2, eb c2)]))) (fun c0 h =>
 ra (bO h) [(0, eb c0)])
def rL (k_3:Option Bool):Nat→Int→(List ae)→Int→Int→au→Option Bool
 |0,_,_,_,_,_=>none
 |n+1,bk,t41,t42,t43,b9=>GF k_3 (rL k_3 n) n bk t41 t42 t43 b9
theorem abT {k_3} (bO:K0 (A70 [1,1,1,1,1]) HX k_3):∀n:Nat,K5 (A70 [0,1,0,1,1,1,1]) u0 (rL k_3 n)
 |0=>fun _ _ _ _ _ _ h=>nz h
 |n+1=>fun _ _ _ _ _ _ h=>aja bO (abT bO n) n h
def xZ (n : Nat) : Option Bool :=
 some true
theorem aiZ (n : Nat) : K0 (A70 [1, 1, 1, 1, 1]) HX (xZ n) := fun r h =>
 rr h []
def xY (n : Nat) (aS : Int) (ct : List ae) (bk : Int) (t29 : Bool) (b4 : ag) : Option Bool :=
 if t29 then
 some false
 else
 (idx b4.ah aS).bind fun x4 =>
 if (ct.length : Int) != (x4.aq.length : Int) then
 some false
 else
 rL (xZ n) n bk ct (ct.length : Int) 0 x4
theorem Gg (n : Nat) : K5 (A70 [1, 0, 1]) aeS (xY n) := fun aS ct bk t29 b4 r h =>
 ie h (fun c0 g0 => by subst c0; exact (
 rr g0 [])) (fun c0 g0 => by subst c0; exact (
 be g0 fun x4 hx4 g0 =>
 ie g0 (fun c1 g0 =>
 rr g0 [(3, R62.idx hx4), (4, .eqv (R64.az ct)), (2, .eqv (R76.az x4.aq)), (0, eb c1)]) (fun c1 g0 =>
 ra (abT (aiZ n) n g0) [(3, R62.idx hx4), (4, .eqv (R64.az ct)), (2, .eqv (R76.az x4.aq)), (0, eb c1), (1, .eqv (R64.az ct))])))
def Sl (n : Nat) (s0 : ag) (aS : Int) (ct : List ae) (bk : Int) : Option Bool :=
 if bk != 1 then
 if bk != 2 then
 if bk != 3 then
 xY n aS ct bk true s0
 else
 (F81 n s0 aS).bind fun x16 =>
 xY n aS ct bk (!x16) s0
 else
 (F81 n s0 aS).bind fun x14 =>
 xY n aS ct bk (!x14) s0
 else
 (F81 n s0 aS).bind fun x12 =>
 xY n aS ct bk (!x12) s0
theorem aiY (n : Nat) : K4 (A70 []) TG (Sl n) := fun s0 aS ct bk r h =>
 ie h (fun c0 h =>
 ie h (fun c1 h =>
 ie h (fun c2 h =>
 ra (Gg n h) [(3, eb c0), (2, eb c1), (3, eb c2)]) (fun c2 h =>
 be h fun x16 cU h =>
 ra (Gg n h) [(3, eb c0), (2, eb c1), (3, eb c2), (4, .call (qo n cU) [] [] [])])) (fun c1 h =>
 be h fun x14 jl h =>
 ra (Gg n h) [(3, eb c0), (2, eb c1), (6, .call (qo n jl) [] [] [])])) (fun c0 h =>
 be h fun x12 cM h =>
 ra (Gg n h) [(3, eb c0), (7, .call (qo n cM) [] [] [])])
def F70 (n:Nat) (s0:ag) (aS:Int) (ct:List ae) (bk:Int):Option Bool:=Sl n s0 aS ct bk
theorem vT (n:Nat):K4 C70 TG (F70 n):=fun _ _ _ _ _ h=>ca (X:=x70) (aiY n h)
def aaC (r:(List ae)):AV:=.ms 200000 3 0 r.length
def Vq (r:(List ae)):List (Nat×Bx):= [(200000,.rows false 65 3 (aH r))]
def x82:=fx E0 Tryz.f82 [] [200000]
def A82:=Ax x82 aaC Vq
def C82:=Cx E0 82 aaC Vq
def Tv (s0:ag) (aS:Int) (ct:List ae):LS:=⟨[(0,.agg (bf s0)),(1,.int .i64 aS),(2,.slice 65 3 (aH ct))],[]⟩
def Sa (n : Nat) (s0 : ag) (aS : Int) (ct : List ae) : Option (List ae) :=
 (F81 n s0 aS).bind fun x5 =>
 if !x5 then
 some []
 else
 (idx s0.ah aS).bind fun x12 =>
 if decide (x12.aA < 0) then
 some []
 else
 (idx s0.ah aS).bind fun x23 =>
 (cut ct none (some (if (ct.length : Int) < x23.aA then (ct.length : Int) else x23.aA))).bind fun x30 =>
 (app [] x30).bind fun x32 =>
 some x32
theorem aiw (n : Nat) : K3 (A82 []) Tv (Sa n) := fun s0 aS ct r h =>
 be h fun x5 hx5 h =>
 ie h (fun c0 h =>
 rr h [(4, .call (qo n hx5) [] [] []), (0, eb c0), (3, .born [6] [] 200000 false 65 3)]) (fun c0 h =>
 be h fun x12 cM h =>
 ie h (fun c1 h =>
 rr h [(4, .call (qo n hx5) [] [] []), (0, eb c0), (4, R62.idx cM), (2, eb c1), (2, .born [6] [] 200000 false 65 3)]) (fun c1 h =>
 be h fun x23 fa h =>
 be h fun x30 Zf h =>
 be h fun x32 Qx h =>
 rr h [(4, .call (qo n hx5) [] [] []), (0, eb c0), (4, R62.idx cM), (2, eb c1), (6, R62.idx fa), (3, .eqv (R64.az ct)), (1, R64.cut Zf), (0, R64.app Qx .dat), (1, .ren 20 200000)]))
def F82 (n:Nat) (s0:ag) (aS:Int) (ct:List ae):Option (List ae):=Sa n s0 aS ct
theorem ev82 (n:Nat):K3 C82 Tv (F82 n):=fun _ _ _ _ h=>ca (X:=x82) (aiw n h)
def abd (r:Bool):AV:=.bool r
def VT (r:Bool):List (Nat×Bx):= []
def x41:=fx E0 Tryz.f41 [] []
def A41:=Ax x41 abd VT
def C41:=Cx E0 41 abd VT
def Ia (w6:Int) (t53:List Int) (t54 t55:Int) (b3:ar) (b43 b74:List Int):LS:=⟨[(3,.loc 3 0),(5,.ms 43 1 0 b43.length),(6,.ms 74 1 0 b74.length),(7,.int .i64 w6),(53,.slice 3 1 (bj t53)),(54,.int .i64 t54),(55,.int .i64 t55)],[(3,.flat 55 (kI b3)),(43,.rows false 3 1 (bj b43)),(74,.rows true 3 1 (bj b74))]⟩
def H9 (b3:ar) (b74:List Int):LS:=⟨[(3,.loc 3 0),(6,.ms 74 1 0 b74.length)],[(3,.flat 55 (kI b3)),(74,.rows true 3 1 (bj b74))]⟩
def TW (s0:ag) (w1:ar):LS:=⟨[(0,.agg (bf s0)),(1,.agg (kI w1))],[]⟩
def GO (k_1 : ar → (List Int) → Option Bool) (back : Int → (List Int) → Int → Int → ar → (List Int) → (List Int) → Option Bool) (n : Nat) (w6 : Int) (t53 : List Int) (t54 t55 : Int) (b3 : ar) (b43 b74 : List Int) : Option Bool :=
 if decide (t55 < t54) then
 (idx t53 t55).bind fun x2 =>
 if !decide (w6 < x2) then
 some false
 else
 if !decide (x2 < (b43.length : Int)) then
 some false
 else
 (bnd b43.length x2).bind fun x18 =>
 (b43[0 + x18]?).bind fun x20 =>
 (app b74 [x20]).bind fun x23 =>
 back x2 t53 t54 (w64 (t55 + 1)) b3 b43 x23
 else
 k_1 b3 b74
theorem ajB {k_1} (aK : K2 (A41 [1, 1, 1, 1, 0, 1, 1, 1, 0, 1, 0, 1]) H9 k_1) {back} (aE : K7 (A41 [0, 1, 0, 1, 1, 1, 0, 1, 1, 1, 0, 1, 0, 1]) Ia back) (n : Nat) : K7 (A41 [0, 1, 0, 1, 1, 1, 0, 1, 1, 1, 0, 1, 0, 1]) Ia (GO k_1 back n) := fun w6 t53 t54 t55 b3 b43 b74 r h =>
 ie h (fun c0 h =>
 be h fun x2 hx2 h =>
 ie h (fun c1 h =>
 rr h [(0, eb c0), (0, R3.idx hx2), (4, eb c1)]) (fun c1 h =>
 ie h (fun c2 h =>
 rr h [(0, eb c0), (0, R3.idx hx2), (4, eb c1), (4, eb c2)]) (fun c2 h =>
 be h fun x18 gS h =>
 be h fun x20 gR h =>
 be h fun x23 fa h =>
 ra (aE h) [(0, eb c0), (0, R3.idx hx2), (4, eb c1), (4, eb c2), (4, fu gS), (0, R3.row gR), (1, R3.app fa (R3.srW [x20]))]))) (fun c0 h =>
 ra (aK h) [(0, eb c0)])
def xH (k_1:ar→(List Int)→Option Bool):Nat→Int→(List Int)→Int→Int→ar→(List Int)→(List Int)→Option Bool
 |0,_,_,_,_,_,_,_=>none
 |n+1,w6,t53,t54,t55,b3,b43,b74=>GO k_1 (xH k_1 n) n w6 t53 t54 t55 b3 b43 b74
theorem abY {k_1} (aK:K2 (A41 [1,1,1,1,0,1,1,1,0,1,0,1]) H9 k_1):∀n:Nat,K7 (A41 [0,1,0,1,1,1,0,1,1,1,0,1,0,1]) Ia (xH k_1 n)
 |0=>fun _ _ _ _ _ _ _ _ h=>nz h
 |n+1=>fun _ _ _ _ _ _ _ _ h=>ajB aK (abY aK n) n h
def GN (n : Nat) (b3 : ar) (b74 : List Int) : Option Bool :=
 (F39 n b3.aV b74).bind fun x4 =>
 some x4
theorem ajA (n : Nat) : K2 (A41 [1, 1, 1, 1, 0, 1, 1, 1, 0, 1, 0, 1]) H9 (GN n) := fun b3 b74 r h =>
 be h fun x4 hx4 h =>
 rr h [(3, R3.frz 74 b74), (0, .call (DV n hx4) [.one .same, .one (.sl 0 0)] [] [])]
def SL (n : Nat) (s0 : ag) (w1 : ar) : Option Bool :=
 if w1.fOp == 1 then
 if (w1.aq.length : Int) == 0 then
 (F70 n s0 w1.ax w1.aV 1).bind fun x18 =>
 if x18 then
 (F82 n s0 w1.ax w1.aV).bind fun x27 =>
 (F52 n x27 w1.aA).bind fun x31 =>
 some (x31 == 0)
 else
 some false
 else
 some false
 else
 if w1.fOp == 2 then
 (F78 n s0 w1.ax).bind fun x13 =>
 (idx s0.ah w1.ax).bind fun x21 =>
 xH (GN n) n (w64 (x21.aA - 1)) w1.aq (w1.aq.length : Int) 0 w1 x13 []
 else
 if (w1.aq.length : Int) == 0 then
 some ((w1.aV.length : Int) == 0)
 else
 some false
theorem ajz (n : Nat) : K2 (A41 []) TW (SL n) := fun s0 w1 r h =>
 ie h (fun c0 h =>
 ie h (fun c1 h =>
 be h fun x18 gS h =>
 ie h (fun c2 g0 => by subst c2; exact (
 be g0 fun x27 r8 g0 =>
 be g0 fun x31 Qy g0 =>
 rr g0 [(5, eb c0), (3, .eqv (R3.az w1.aq)), (0, eb c1), (6, .call (vT n gS) [] [] []), (7, .call (cd (e := 65) (z := false) (Q := aH x27) (ev82 n r8) (R64.len x27)) [] [] []), (2, .call (sg n Qy) [] [] [])])) (fun c2 g0 => by subst c2; exact (
 rr g0 [(5, eb c0), (3, .eqv (R3.az w1.aq)), (0, eb c1), (6, .call (vT n gS) [] [] [])]))) (fun c1 h =>
 rr h [(5, eb c0), (3, .eqv (R3.az w1.aq)), (0, eb c1)])) (fun c0 h =>
 ie h (fun c1 h =>
 be h fun x13 bS h =>
 be h fun x21 j4 h =>
 ra (abY (ajA n) n h) [(5, eb c0), (1, eb c1), (4, .call (Ku n bS) [] [] [(43, 200000)]), (6, R62.idx j4), (6, .eqv (R3.az w1.aq)), (1, .born [6] [] 74 true 3 1)]) (fun c1 h =>
 ie h (fun c2 h =>
 rr h [(5, eb c0), (1, eb c1), (3, .eqv (R3.az w1.aq)), (0, eb c2), (3, .eqv (R64.az w1.aV))]) (fun c2 h =>
 rr h [(5, eb c0), (1, eb c1), (3, .eqv (R3.az w1.aq)), (0, eb c2)])))
def F41 (n:Nat) (s0:ag) (w1:ar):Option Bool:=SL n s0 w1
theorem QV (n:Nat):K2 C41 TW (F41 n):=fun _ _ _ h=>ca (X:=x41) (ajz n h)
def abc (r:Int):AV:=.int .i64 r
def VS (r:Int):List (Nat×Bx):= []
def x42:=fx E0 Tryz.f42 [] []
def A42:=Ax x42 abc VS
def C42:=Cx E0 42 abc VS
def TV (a0 b1:ar):LS:=⟨[(0,.agg (kI a0)),(1,.agg (kI b1))],[]⟩
def SK (n : Nat) (a0 b1 : ar) : Option Int :=
 if a0.ax != b1.ax then
 if decide (a0.ax < b1.ax) then
 some (-1)
 else
 some 1
 else
 (F52 n a0.aA b1.aA).bind fun x13 =>
 some x13
theorem ajy (n : Nat) : K2 (A42 []) TV (SK n) := fun a0 b1 r h =>
 ie h (fun c0 h =>
 ie h (fun c1 h =>
 rr h [(7, eb c0), (4, eb c1)]) (fun c1 h =>
 rr h [(7, eb c0), (4, eb c1)])) (fun c0 h =>
 be h fun x13 bS h =>
 rr h [(7, eb c0), (4, .call (sg n bS) [] [] [])])
def F42 (n:Nat) (a0 b1:ar):Option Int:=SK n a0 b1
theorem ev42 (n:Nat):K2 C42 TV (F42 n):=fun _ _ _ h=>ca (X:=x42) (ajy n h)
def aby (r:Int):AV:=.int .i64 r
def Wd (r:Int):List (Nat×Bx):= []
def x12:=fx E0 Tryz.f12 [] []
def A12:=Ax x12 aby Wd
def C12:=Cx E0 12 aby Wd
def IE (dG t16:List ar) (t17 t18:Int) (b2:ag):LS:=⟨[(1,.slice 55 5 (cC dG)),(2,.loc 2 0),(16,.slice 55 5 (cC t16)),(17,.int .i64 t17),(18,.int .i64 t18)],[(2,.flat 26 (bf b2))]⟩
def ID:LS:=⟨[],[]⟩
def Ut (s0:ag) (dG:List ar):LS:=⟨[(0,.agg (bf s0)),(1,.slice 55 5 (cC dG))],[]⟩
def Hg (k_1 : Option Int) (back : (List ar) → (List ar) → Int → Int → ag → Option Int) (n : Nat) (dG t16 : List ar) (t17 t18 : Int) (b2 : ag) : Option Int :=
 if decide (t18 < t17) then
 (idx t16 t18).bind fun x3 =>
 if decide (x3.fOp < 1) then
 some 1
 else
 if decide (3 < x3.fOp) then
 some 1
 else
 if decide (x3.ax < 0) then
 some 1
 else
 if !decide (x3.ax < (b2.ah.length : Int)) then
 some 1
 else
 (F40 n b2 x3.ax).bind fun x35 =>
 (F39 n x3.aA x35).bind fun x37 =>
 if !x37 then
 some 270
 else
 (F41 n b2 x3).bind fun x43 =>
 if !x43 then
 some 270
 else
 if decide (0 < t18) then
 (idx dG (w64 (t18 - 1))).bind fun x53 =>
 (F42 n x53 x3).bind fun x57 =>
 if !decide (x57 < 0) then
 some 270
 else
 back dG t16 t17 (w64 (t18 + 1)) b2
 else
 back dG t16 t17 (w64 (t18 + 1)) b2
 else
 k_1
theorem akB {k_1} (aK : K0 (A12 [1, 1, 1, 1]) ID k_1) {back} (aE : K5 (A12 [0, 1, 0, 1, 1, 1]) IE back) (n : Nat) : K5 (A12 [0, 1, 0, 1, 1, 1]) IE (Hg k_1 back n) := fun dG t16 t17 t18 b2 r h =>
 ie h (fun c0 h =>
 be h fun x3 hx3 h =>
 ie h (fun c1 h =>
 rr h [(0, eb c0), (1, R54.idx hx3), (6, eb c1)]) (fun c1 h =>
 ie h (fun c2 h =>
 rr h [(0, eb c0), (1, R54.idx hx3), (6, eb c1), (3, eb c2)]) (fun c2 h =>
 ie h (fun c3 h =>
 rr h [(0, eb c0), (1, R54.idx hx3), (6, eb c1), (3, eb c2), (4, eb c3)]) (fun c3 h =>
 ie h (fun c4 h =>
 rr h [(0, eb c0), (1, R54.idx hx3), (6, eb c1), (3, eb c2), (4, eb c3), (6, .eqv (R62.az b2.ah)), (0, eb c4)]) (fun c4 h =>
 be h fun x35 J8 h =>
 be h fun x37 ze h =>
 ie h (fun c5 h =>
 rr h [(0, eb c0), (1, R54.idx hx3), (6, eb c1), (3, eb c2), (4, eb c3), (6, .eqv (R62.az b2.ah)), (0, eb c4), (6, .call (cd (e := 3) (z := false) (Q := bj x35) (Kw n J8) (R3.len x35)) [] [] []), (0, .call (DV n ze) [] [] []), (0, eb c5)]) (fun c5 h =>
 be h fun x43 zc h =>
 ie h (fun c6 h =>
 rr h [(0, eb c0), (1, R54.idx hx3), (6, eb c1), (3, eb c2), (4, eb c3), (6, .eqv (R62.az b2.ah)), (0, eb c4), (6, .call (cd (e := 3) (z := false) (Q := bj x35) (Kw n J8) (R3.len x35)) [] [] []), (0, .call (DV n ze) [] [] []), (0, eb c5), (3, .call (QV n zc) [] [] []), (0, eb c6)]) (fun c6 h =>
 ie h (fun c7 h =>
 be h fun x53 hx53 h =>
 be h fun x57 hx57 h =>
 ie h (fun c8 h =>
 rr h [(0, eb c0), (1, R54.idx hx3), (6, eb c1), (3, eb c2), (4, eb c3), (6, .eqv (R62.az b2.ah)), (0, eb c4), (6, .call (cd (e := 3) (z := false) (Q := bj x35) (Kw n J8) (R3.len x35)) [] [] []), (0, .call (DV n ze) [] [] []), (0, eb c5), (3, .call (QV n zc) [] [] []), (0, eb c6), (2, eb c7), (4, R54.idx hx53), (2, .call (ev42 n hx57) [] [] []), (0, eb c8)]) (fun c8 h =>
 ra (aE h) [(0, eb c0), (1, R54.idx hx3), (6, eb c1), (3, eb c2), (4, eb c3), (6, .eqv (R62.az b2.ah)), (0, eb c4), (6, .call (cd (e := 3) (z := false) (Q := bj x35) (Kw n J8) (R3.len x35)) [] [] []), (0, .call (DV n ze) [] [] []), (0, eb c5), (3, .call (QV n zc) [] [] []), (0, eb c6), (2, eb c7), (4, R54.idx hx53), (2, .call (ev42 n hx57) [] [] []), (0, eb c8)])) (fun c7 h =>
 ra (aE h) [(0, eb c0), (1, R54.idx hx3), (6, eb c1), (3, eb c2), (4, eb c3), (6, .eqv (R62.az b2.ah)), (0, eb c4), (6, .call (cd (e := 3) (z := false) (Q := bj x35) (Kw n J8) (R3.len x35)) [] [] []), (0, .call (DV n ze) [] [] []), (0, eb c5), (3, .call (QV n zc) [] [] []), (0, eb c6), (2, eb c7)])))))))) (fun c0 h =>
 ra (aK h) [(0, eb c0)])
def xR (k_1:Option Int):Nat→(List ar)→(List ar)→Int→Int→ag→Option Int
 |0,_,_,_,_,_=>none
 |n+1,dG,t16,t17,t18,b2=>Hg k_1 (xR k_1 n) n dG t16 t17 t18 b2
theorem acq {k_1} (aK:K0 (A12 [1,1,1,1]) ID k_1):∀n:Nat,K5 (A12 [0,1,0,1,1,1]) IE (xR k_1 n)
 |0=>fun _ _ _ _ _ _ h=>nz h
 |n+1=>fun _ _ _ _ _ _ h=>akB aK (acq aK n) n h
def He (n : Nat) : Option Int :=
 some 0
theorem akA (n : Nat) : K0 (A12 [1, 1, 1, 1]) ID (He n) := fun r h =>
 rr h []
def S8 (n : Nat) (s0 : ag) (dG : List ar) : Option Int :=
 (F38 n s0).bind fun x4 =>
 if x4 != 0 then
 some x4
 else
 if decide (64 < (dG.length : Int)) then
 some 2
 else
 xR (He n) n dG dG (dG.length : Int) 0 s0
theorem akz (n : Nat) : K2 (A12 []) Ut (S8 n) := fun s0 dG r h =>
 be h fun x4 hx4 h =>
 ie h (fun c0 h =>
 rr h [(3, .call (vU n hx4) [] [] []), (2, eb c0)]) (fun c0 h =>
 ie h (fun c1 h =>
 rr h [(3, .call (vU n hx4) [] [] []), (2, eb c0), (1, .eqv (R54.az dG)), (0, eb c1)]) (fun c1 h =>
 ra (acq (akA n) n h) [(3, .call (vU n hx4) [] [] []), (2, eb c0), (1, .eqv (R54.az dG)), (0, eb c1), (1, .eqv (R54.az dG))]))
def F12 (n:Nat) (s0:ag) (dG:List ar):Option Int:=S8 n s0 dG
theorem ZF (n:Nat):K2 C12 Ut (F12 n):=fun _ _ _ h=>ca (X:=x12) (akz n h)
def aaW (r:Int):AV:=.int .i64 r
def VL (r:Int):List (Nat×Bx):= []
def x57:=fx E0 Tryz.f57 [] []
def A57:=Ax x57 aaW VL
def C57:=Cx E0 57 aaW VL
def H8 (n3:Int) (t7:List (List (List ae))) (t8 t9:Int):LS:=⟨[(3,.int .i64 n3),(7,.slice 66 1 (cY t7)),(8,.int .i64 t8),(9,.int .i64 t9)],[]⟩
def H7 (n3:Int):LS:=⟨[(3,.int .i64 n3)],[]⟩
def TP (st0:aj):LS:=⟨[(0,.agg (cP st0))],[]⟩
def GL (k_1 : Int → Option Int) (back : Int → (List (List (List ae))) → Int → Int → Option Int) (n : Nat) (n3 : Int) (t7 : List (List (List ae))) (t8 t9 : Int) : Option Int :=
 if decide (t9 < t8) then
 (idx t7 t9).bind fun x2 =>
 back (w64 (n3 + (x2.length : Int))) t7 t8 (w64 (t9 + 1))
 else
 k_1 n3
theorem ajs {k_1} (aK : K1 (A57 [1, 1, 1]) H7 k_1) {back} (aE : K4 (A57 [0, 1, 0, 1, 1]) H8 back) (n : Nat) : K4 (A57 [0, 1, 0, 1, 1]) H8 (GL k_1 back n) := fun n3 t7 t8 t9 r h =>
 ie h (fun c0 h =>
 be h fun x2 hx2 h =>
 ra (aE h) [(0, eb c0), (0, R66.idx hx2), (4, .eqv (R42.az x2))]) (fun c0 h =>
 ra (aK h) [(0, eb c0)])
def xG (k_1:Int→Option Int):Nat→Int→(List (List (List ae)))→Int→Int→Option Int
 |0,_,_,_,_=>none
 |n+1,n3,t7,t8,t9=>GL k_1 (xG k_1 n) n n3 t7 t8 t9
theorem abX {k_1} (aK:K1 (A57 [1,1,1]) H7 k_1):∀n:Nat,K4 (A57 [0,1,0,1,1]) H8 (xG k_1 n)
 |0=>fun _ _ _ _ _ h=>nz h
 |n+1=>fun _ _ _ _ _ h=>ajs aK (abX aK n) n h
def B6 (n : Nat) (n3 : Int) : Option Int :=
 some n3
theorem ajr (n : Nat) : K1 (A57 [1, 1, 1]) H7 (B6 n) := fun n3 r h =>
 rr h []
def GK (n : Nat) (st0 : aj) : Option Int :=
 xG (B6 n) n 0 st0.ah (st0.ah.length : Int) 0
theorem ajq (n : Nat) : K1 (A57 []) TP (GK n) := fun st0 r h =>
 ra (abX (ajr n) n h) [(5, .eqv (R66.az st0.ah))]
def F57 (n:Nat) (st0:aj):Option Int:=GK n st0
theorem QT (n:Nat):K1 C57 TP (F57 n):=fun _ _ h=>ca (X:=x57) (ajq n h)
def aaP (r:Int):AV:=.int .i64 r
def VE (r:Int):List (Nat×Bx):= []
def x69:=fx E0 Tryz.f69 [] []
def A69:=Ax x69 aaP VE
def C69:=Cx E0 69 aaP VE
def TH (s0:ag) (aN:Int):LS:=⟨[(0,.agg (bf s0)),(1,.int .i64 aN)],[]⟩
def Sm (n : Nat) (s0 : ag) (aN : Int) : Option Int :=
 (F38 n s0).bind fun x4 =>
 if x4 != 0 then
 some x4
 else
 if aN != 1 then
 if aN != 2 then
 if aN != 3 then
 some 1
 else
 some 0
 else
 some 0
 else
 some 0
theorem ajb (n : Nat) : K2 (A69 []) TH (Sm n) := fun s0 aN r h =>
 be h fun x4 hx4 h =>
 ie h (fun c0 h =>
 rr h [(3, .call (vU n hx4) [] [] []), (2, eb c0)]) (fun c0 h =>
 ie h (fun c1 h =>
 ie h (fun c2 h =>
 ie h (fun c3 h =>
 rr h [(3, .call (vU n hx4) [] [] []), (2, eb c0), (1, eb c1), (2, eb c2), (3, eb c3)]) (fun c3 h =>
 rr h [(3, .call (vU n hx4) [] [] []), (2, eb c0), (1, eb c1), (2, eb c2), (3, eb c3)])) (fun c2 h =>
 rr h [(3, .call (vU n hx4) [] [] []), (2, eb c0), (1, eb c1), (2, eb c2)])) (fun c1 h =>
 rr h [(3, .call (vU n hx4) [] [] []), (2, eb c0), (1, eb c1)]))
def F69 (n:Nat) (s0:ag) (aN:Int):Option Int:=Sm n s0 aN
theorem QR (n:Nat):K2 C69 TH (F69 n):=fun _ _ _ h=>ca (X:=x69) (ajb n h)
def aaN (r:(List ae)):AV:=.slice 65 3 (aH r)
def VC (r:(List ae)):List (Nat×Bx):= []
def x71:=fx E0 Tryz.f71 [] []
def A71:=Ax x71 aaN VC
def C71:=Cx E0 71 aaN VC
def TF (s0:ag) (aS:Int) (ct:List ae):LS:=⟨[(0,.agg (bf s0)),(1,.int .i64 aS),(2,.slice 65 3 (aH ct))],[]⟩
def Sk (n : Nat) (s0 : ag) (aS : Int) (ct : List ae) : Option (List ae) :=
 if decide (aS < 0) then
 some []
 else
 if !decide (aS < (s0.ah.length : Int)) then
 some []
 else
 (idx s0.ah aS).bind fun x16 =>
 (cut ct none (some (if 0 < (if (ct.length : Int) < x16.aA then (ct.length : Int) else x16.aA) then (if (ct.length : Int) < x16.aA then (ct.length : Int) else x16.aA) else 0))).bind fun x24 =>
 some x24
theorem aiX (n : Nat) : K3 (A71 []) TF (Sk n) := fun s0 aS ct r h =>
 ie h (fun c0 h =>
 rr h [(3, eb c0), (3, .norm [(6, .one (.sl 65 3))] [])]) (fun c0 h =>
 ie h (fun c1 h =>
 rr h [(3, eb c0), (4, .eqv (R62.az s0.ah)), (0, eb c1), (2, .norm [(6, .one (.sl 65 3))] [])]) (fun c1 h =>
 be h fun x16 cU h =>
 be h fun x24 lH h =>
 rr h [(3, eb c0), (4, .eqv (R62.az s0.ah)), (0, eb c1), (5, R62.idx cU), (3, .eqv (R64.az ct)), (2, R64.cut lH)]))
def F71 (n:Nat) (s0:ag) (aS:Int) (ct:List ae):Option (List ae):=Sk n s0 aS ct
theorem qp (n:Nat):K3 C71 TF (F71 n):=fun _ _ _ _ h=>ca (X:=x71) (aiX n h)
def abq (r:Int):AV:=.int .i64 r
def V6 (r:Int):List (Nat×Bx):= []
def x28:=fx E0 Tryz.f28 [] []
def A28:=Ax x28 abq V6
def C28:=Cx E0 28 abq V6
def Ir (aN t8:Int) (oF:List (List ae)) (t29:List (List (List ae))) (t30 t31:Int) (t36:List (List ae)) (t37 t38:Int) (b3:ag):LS:=⟨[(1,.int .i64 aN),(3,.loc 3 0),(8,.int .i64 t8),(9,.slice 43 1 (cr oF)),(29,.slice 66 1 (cY t29)),(30,.int .i64 t30),(31,.int .i64 t31),(36,.slice 43 1 (cr t36)),(37,.int .i64 t37),(38,.int .i64 t38)],[(3,.flat 26 (bf b3))]⟩
def Iq (aN:Int) (t29:List (List (List ae))) (t30 t31:Int) (b3:ag):LS:=⟨[(1,.int .i64 aN),(3,.loc 3 0),(29,.slice 66 1 (cY t29)),(30,.int .i64 t30),(31,.int .i64 t31)],[(3,.flat 26 (bf b3))]⟩
def z7 (aN:Int) (t29:List (List (List ae))) (t30 t31:Int) (b3:ag):LS:=⟨[(1,.int .i64 aN),(3,.loc 3 0),(29,.slice 66 1 (cY t29)),(30,.int .i64 t30),(31,.int .i64 t31)],[(3,.flat 26 (bf b3))]⟩
def Ip:LS:=⟨[],[]⟩
def Uk (s0:ag) (aN:Int) (st2:aj):LS:=⟨[(0,.agg (bf s0)),(1,.int .i64 aN),(2,.agg (cP st2))],[]⟩
def G4 (k_1 : Int → (List (List (List ae))) → Int → Int → ag → Option Int) (back : Int → Int → (List (List ae)) → (List (List (List ae))) → Int → Int → (List (List ae)) → Int → Int → ag → Option Int) (n : Nat) (aN t8 : Int) (oF : List (List ae)) (t29 : List (List (List ae))) (t30 t31 : Int) (t36 : List (List ae)) (t37 t38 : Int) (b3 : ag) : Option Int :=
 if decide (t38 < t37) then
 (idx t36 t38).bind fun x3 =>
 (F70 n b3 t8 x3 aN).bind fun x12 =>
 if !x12 then
 some 80
 else
 if decide (0 < t38) then
 (idx oF (w64 (t38 - 1))).bind fun x23 =>
 (F71 n b3 t8 x23).bind fun x26 =>
 (F71 n b3 t8 x3).bind fun x31 =>
 (F52 n x26 x31).bind fun x33 =>
 if !decide (x33 < 0) then
 some 80
 else
 back aN t8 oF t29 t30 t31 t36 t37 (w64 (t38 + 1)) b3
 else
 back aN t8 oF t29 t30 t31 t36 t37 (w64 (t38 + 1)) b3
 else
 k_1 aN t29 t30 t31 b3
theorem akg {k_1} (aK : K5 (A28 [1, 1, 1, 0, 0, 1, 0, 1, 1, 1, 1]) Iq k_1) {back} (aE : K10 (A28 [0, 1, 1, 0, 0, 1, 1, 0, 0, 1, 0, 1, 1, 1, 1]) Ir back) (n : Nat) : K10 (A28 [0, 1, 1, 0, 0, 1, 1, 0, 0, 1, 0, 1, 1, 1, 1]) Ir (G4 k_1 back n) := fun aN t8 oF t29 t30 t31 t36 t37 t38 b3 r h =>
 ie h (fun c0 h =>
 be h fun x3 hx3 h =>
 be h fun x12 cM h =>
 ie h (fun c1 h =>
 rr h [(0, eb c0), (1, R42.idx hx3), (7, .call (vT n cM) [] [] []), (0, eb c1)]) (fun c1 h =>
 ie h (fun c2 h =>
 be h fun x23 fa h =>
 be h fun x26 eZ h =>
 be h fun x31 Qy h =>
 be h fun x33 Qw h =>
 ie h (fun c3 h =>
 rr h [(0, eb c0), (1, R42.idx hx3), (7, .call (vT n cM) [] [] []), (0, eb c1), (1, eb c2), (6, R42.idx fa), (1, .call (qp n eZ) [] [] []), (3, .call (qp n Qy) [] [] []), (0, .call (sg n Qw) [] [] []), (0, eb c3)]) (fun c3 h =>
 ra (aE h) [(0, eb c0), (1, R42.idx hx3), (7, .call (vT n cM) [] [] []), (0, eb c1), (1, eb c2), (6, R42.idx fa), (1, .call (qp n eZ) [] [] []), (3, .call (qp n Qy) [] [] []), (0, .call (sg n Qw) [] [] []), (0, eb c3)])) (fun c2 h =>
 ra (aE h) [(0, eb c0), (1, R42.idx hx3), (7, .call (vT n cM) [] [] []), (0, eb c1), (1, eb c2)]))) (fun c0 h =>
 ra (aK h) [(0, eb c0)])
def xM (k_1:Int→(List (List (List ae)))→Int→Int→ag→Option Int):Nat→Int→Int→(List (List ae))→(List (List (List ae)))→Int→Int→(List (List ae))→Int→Int→ag→Option Int
 |0,_,_,_,_,_,_,_,_,_,_=>none
 |n+1,aN,t8,oF,t29,t30,t31,t36,t37,t38,b3=>G4 k_1 (xM k_1 n) n aN t8 oF t29 t30 t31 t36 t37 t38 b3
theorem aci {k_1} (aK:K5 (A28 [1,1,1,0,0,1,0,1,1,1,1]) Iq k_1):∀n:Nat,K10 (A28 [0,1,1,0,0,1,1,0,0,1,0,1,1,1,1]) Ir (xM k_1 n)
 |0=>fun _ _ _ _ _ _ _ _ _ _ _ h=>nz h
 |n+1=>fun _ _ _ _ _ _ _ _ _ _ _ h=>akg aK (aci aK n) n h
def G3 (k_2 : Int → (List (List (List ae))) → Int → Int → ag → Option Int) (n : Nat) (aN : Int) (t29 : List (List (List ae))) (t30 t31 : Int) (b3 : ag) : Option Int :=
 k_2 aN t29 t30 (w64 (t31 + 1)) b3
theorem akf {k_2} (cR : K5 (A28 [0, 1, 0, 1, 1, 1, 1]) z7 k_2) (n : Nat) : K5 (A28 [1, 1, 1, 0, 0, 1, 0, 1, 1, 1, 1]) Iq (G3 k_2 n) := fun aN t29 t30 t31 b3 r h =>
 ra (cR h) []
def G2 (k_3 : Option Int) (back : Int → (List (List (List ae))) → Int → Int → ag → Option Int) (n : Nat) (aN : Int) (t29 : List (List (List ae))) (t30 t31 : Int) (b3 : ag) : Option Int :=
 if decide (t31 < t30) then
 (idx t29 t31).bind fun x3 =>
 xM (G3 back n) n aN t31 x3 t29 t30 t31 x3 (x3.length : Int) 0 b3
 else
 k_3
theorem ake {k_3} (bO : K0 (A28 [1, 1, 1, 1, 1]) Ip k_3) {back} (aE : K5 (A28 [0, 1, 0, 1, 1, 1, 1]) z7 back) (n : Nat) : K5 (A28 [0, 1, 0, 1, 1, 1, 1]) z7 (G2 k_3 back n) := fun aN t29 t30 t31 b3 r h =>
 ie h (fun c0 h =>
 be h fun x3 hx3 h =>
 ra (aci (akf aE n) n h) [(0, eb c0), (1, R66.idx hx3), (4, .eqv (R42.az x3))]) (fun c0 h =>
 ra (bO h) [(0, eb c0)])
def uD (k_3:Option Int):Nat→Int→(List (List (List ae)))→Int→Int→ag→Option Int
 |0,_,_,_,_,_=>none
 |n+1,aN,t29,t30,t31,b3=>G2 k_3 (uD k_3 n) n aN t29 t30 t31 b3
theorem ach {k_3} (bO:K0 (A28 [1,1,1,1,1]) Ip k_3):∀n:Nat,K5 (A28 [0,1,0,1,1,1,1]) z7 (uD k_3 n)
 |0=>fun _ _ _ _ _ _ h=>nz h
 |n+1=>fun _ _ _ _ _ _ h=>ake bO (ach bO n) n h
def B9 (n : Nat) : Option Int :=
 some 0
theorem akd (n : Nat) : K0 (A28 [1, 1, 1, 1, 1]) Ip (B9 n) := fun r h =>
 rr h []
def S0 (n : Nat) (s0 : ag) (aN : Int) (st2 : aj) : Option Int :=
 (F69 n s0 aN).bind fun x6 =>
 if x6 != 0 then
 some x6
 else
 (F57 n st2).bind fun x12 =>
 if decide (512 < x12) then
 some 2
 else
 if (st2.ah.length : Int) != (s0.ah.length : Int) then
 some 80
 else
 uD (B9 n) n aN st2.ah (st2.ah.length : Int) 0 s0
theorem akc (n : Nat) : K3 (A28 []) Uk (S0 n) := fun s0 aN st2 r h =>
 be h fun x6 hx6 h =>
 ie h (fun c0 h =>
 rr h [(5, .call (QR n hx6) [] [] []), (2, eb c0)]) (fun c0 h =>
 be h fun x12 cM h =>
 ie h (fun c1 h =>
 rr h [(5, .call (QR n hx6) [] [] []), (2, eb c0), (1, .call (QT n cM) [] [] []), (0, eb c1)]) (fun c1 h =>
 ie h (fun c2 h =>
 rr h [(5, .call (QR n hx6) [] [] []), (2, eb c0), (1, .call (QT n cM) [] [] []), (0, eb c1), (2, .eqv (R66.az st2.ah)), (2, .eqv (R62.az s0.ah)), (0, eb c2)]) (fun c2 h =>
 ra (ach (akd n) n h) [(5, .call (QR n hx6) [] [] []), (2, eb c0), (1, .call (QT n cM) [] [] []), (0, eb c1), (2, .eqv (R66.az st2.ah)), (2, .eqv (R62.az s0.ah)), (0, eb c2), (2, .eqv (R66.az st2.ah))])))
def F28 (n:Nat) (s0:ag) (aN:Int) (st2:aj):Option Int:=S0 n s0 aN st2
theorem QX (n:Nat):K3 C28 Uk (F28 n):=fun _ _ _ _ h=>ca (X:=x28) (akc n h)
def aaX (r:(List ae)):AV:=.ms 200000 3 0 r.length
def VM (r:(List ae)):List (Nat×Bx):= [(200000,.rows true 65 3 (aH r))]
def x56:=fx E0 Tryz.f56 [] [200000]
def A56:=Ax x56 aaX VM
def C56:=Cx E0 56 aaX VM
def TQ (dA:List ae):LS:=⟨[(0,.slice 65 3 (aH dA))],[]⟩
def SG (n : Nat) (dA : List ae) : Option (List ae) :=
 (app [] dA).bind fun x3 =>
 some x3
theorem ajt (n : Nat) : K1 (A56 []) TQ (SG n) := fun dA r h =>
 be h fun x3 hx3 h =>
 rr h [(2, .born [] [] 4 true 65 3), (0, R64.app (xs := []) hx3 .dat), (1, .ren 4 200000)]
def F56 (n:Nat) (dA:List ae):Option (List ae):=SG n dA
theorem ZB (n:Nat):K1 C56 TQ (F56 n):=fun _ _ h=>ca (X:=x56) (ajt n h)
def aaT (r:((List ae)×Bool)):AV:=.tup [.slice 65 3 (aH r.1),.bool r.2]
def VI (r:((List ae)×Bool)):List (Nat×Bx):= []
def x60:=fx E0 Tryz.f60 [] []
def A60:=Ax x60 aaT VI
def C60:=Cx E0 60 aaT VI
def H3 (aL:Int) (bD:List ae) (t32:List (List ae)) (t33 t34:Int) (b4:ag):LS:=⟨[(2,.int .i64 aL),(3,.slice 65 3 (aH bD)),(4,.loc 4 0),(32,.slice 43 1 (cr t32)),(33,.int .i64 t33),(34,.int .i64 t34)],[(4,.flat 26 (bf b4))]⟩
def H0:LS:=⟨[],[]⟩
def TM (s0:ag) (st1:aj) (aL:Int) (bD:List ae):LS:=⟨[(0,.agg (bf s0)),(1,.agg (cP st1)),(2,.int .i64 aL),(3,.slice 65 3 (aH bD))],[]⟩
def GJ (k_1 : Option ((List ae) × Bool)) (back : Int → (List ae) → (List (List ae)) → Int → Int → ag → Option ((List ae) × Bool)) (n : Nat) (aL : Int) (bD : List ae) (t32 : List (List ae)) (t33 t34 : Int) (b4 : ag) : Option ((List ae) × Bool) :=
 if decide (t34 < t33) then
 (idx t32 t34).bind fun x2 =>
 (F71 n b4 aL x2).bind fun x9 =>
 (F52 n x9 bD).bind fun x12 =>
 if x12 == 0 then
 some (x2, true)
 else
 back aL bD t32 t33 (w64 (t34 + 1)) b4
 else
 k_1
theorem ajj {k_1} (aK : K0 (A60 [1, 1, 1]) H0 k_1) {back} (aE : K6 (A60 [0, 1, 0, 1, 1]) H3 back) (n : Nat) : K6 (A60 [0, 1, 0, 1, 1]) H3 (GJ k_1 back n) := fun aL bD t32 t33 t34 b4 r h =>
 ie h (fun c0 h =>
 be h fun x2 hx2 h =>
 be h fun x9 hx9 h =>
 be h fun x12 cM h =>
 ie h (fun c1 h =>
 rr h [(0, eb c0), (0, R42.idx hx2), (5, .call (qp n hx9) [] [] []), (1, .call (sg n cM) [] [] []), (0, eb c1)]) (fun c1 h =>
 ra (aE h) [(0, eb c0), (0, R42.idx hx2), (5, .call (qp n hx9) [] [] []), (1, .call (sg n cM) [] [] []), (0, eb c1)])) (fun c0 h =>
 ra (aK h) [(0, eb c0)])
def xF (k_1:Option ((List ae)×Bool)):Nat→Int→(List ae)→(List (List ae))→Int→Int→ag→Option ((List ae)×Bool)
 |0,_,_,_,_,_,_=>none
 |n+1,aL,bD,t32,t33,t34,b4=>GJ k_1 (xF k_1 n) n aL bD t32 t33 t34 b4
theorem abV {k_1} (aK:K0 (A60 [1,1,1]) H0 k_1):∀n:Nat,K6 (A60 [0,1,0,1,1]) H3 (xF k_1 n)
 |0=>fun _ _ _ _ _ _ _ h=>nz h
 |n+1=>fun _ _ _ _ _ _ _ h=>ajj aK (abV aK n) n h
def GI (n : Nat) : Option ((List ae) × Bool) :=
 some ([], false)
theorem aji (n : Nat) : K0 (A60 [1, 1, 1]) H0 (GI n) := fun r h =>
 rr h [(2, .norm [(8, .one (.sl 65 3))] [])]
def Sq (n : Nat) (s0 : ag) (st1 : aj) (aL : Int) (bD : List ae) : Option ((List ae) × Bool) :=
 if decide (aL < 0) then
 some ([], false)
 else
 if !decide (aL < (s0.ah.length : Int)) then
 some ([], false)
 else
 if !decide (aL < (st1.ah.length : Int)) then
 some ([], false)
 else
 (idx st1.ah aL).bind fun x24 =>
 xF (GI n) n aL bD x24 (x24.length : Int) 0 s0
theorem ajh (n : Nat) : K4 (A60 []) TM (Sq n) := fun s0 st1 aL bD r h =>
 ie h (fun c0 h =>
 rr h [(5, eb c0), (6, .norm [(8, .one (.sl 65 3))] [])]) (fun c0 h =>
 ie h (fun c1 h =>
 rr h [(5, eb c0), (4, .eqv (R62.az s0.ah)), (0, eb c1), (5, .norm [(8, .one (.sl 65 3))] [])]) (fun c1 h =>
 ie h (fun c2 h =>
 rr h [(5, eb c0), (4, .eqv (R62.az s0.ah)), (0, eb c1), (5, .eqv (R66.az st1.ah)), (0, eb c2), (3, .norm [(8, .one (.sl 65 3))] [])]) (fun c2 h =>
 be h fun x24 lH h =>
 ra (abV (aji n) n h) [(5, eb c0), (4, .eqv (R62.az s0.ah)), (0, eb c1), (5, .eqv (R66.az st1.ah)), (0, eb c2), (4, R66.idx lH), (1, .eqv (R42.az x24))])))
def F60 (n:Nat) (s0:ag) (st1:aj) (aL:Int) (bD:List ae):Option ((List ae)×Bool):=Sq n s0 st1 aL bD
theorem ev60 (n:Nat):K4 C60 TM (F60 n):=fun _ _ _ _ _ h=>ca (X:=x60) (ajh n h)
def abv (r:((List ae)×Bool)):AV:=.tup [.ms 200000 3 0 r.1.length,.bool r.2]
def Wa (r:((List ae)×Bool)):List (Nat×Bx):= [(200000,.rows true 65 3 (aH r.1))]
def x21:=fx E0 Tryz.f21 [] [200000]
def A21:=Ax x21 abv Wa
def C21:=Cx E0 21 abv Wa
def Uo (s0:ag) (st1:aj) (aL:Int) (bD:List ae):LS:=⟨[(0,.agg (bf s0)),(1,.agg (cP st1)),(2,.int .i64 aL),(3,.slice 65 3 (aH bD))],[]⟩
def S5 (n : Nat) (s0 : ag) (st1 : aj) (aL : Int) (bD : List ae) : Option ((List ae) × Bool) :=
 (F60 n s0 st1 aL bD).bind fun x9 =>
 (F56 n x9.1).bind fun x17 =>
 some (x17, x9.2)
theorem ako (n : Nat) : K4 (A21 []) Uo (S5 n) := fun s0 st1 aL bD r h =>
 be h fun x9 hx9 h =>
 be h fun x17 gD h =>
 rr h [(8, .call (ev60 n hx9) [] [] []), (6, .call (ZB n gD) [] [] [(21, 200000)]), (3, .ren 21 200000)]
def F21 (n:Nat) (s0:ag) (st1:aj) (aL:Int) (bD:List ae):Option ((List ae)×Bool):=S5 n s0 st1 aL bD
theorem eC (n:Nat):K4 C21 Uo (F21 n):=fun _ _ _ _ _ h=>ca (X:=x21) (ako n h)
def aaR (r:(List ae)):AV:=.ms 200000 3 0 r.length
def VG (r:(List ae)):List (Nat×Bx):= [(200000,.rows true 65 3 (aH r))]
def x62:=fx E0 Tryz.f62 [] [200000]
def A62:=Ax x62 aaR VG
def C62:=Cx E0 62 aaR VG
def TK (dA:List ae):LS:=⟨[(0,.slice 65 3 (aH dA))],[]⟩
def So (n : Nat) (dA : List ae) : Option (List ae) :=
 (app [] dA).bind fun x3 =>
 some x3
theorem ajf (n : Nat) : K1 (A62 []) TK (So n) := fun dA r h =>
 be h fun x3 hx3 h =>
 rr h [(2, .born [] [] 4 true 65 3), (0, R64.app (xs := []) hx3 .dat), (1, .ren 4 200000)]
def F62 (n:Nat) (dA:List ae):Option (List ae):=So n dA
theorem Kv (n:Nat):K1 C62 TK (F62 n):=fun _ _ h=>ca (X:=x62) (ajf n h)
def aaQ (r:(List ae)):AV:=.ms 200000 3 0 r.length
def VF (r:(List ae)):List (Nat×Bx):= [(200000,.rows true 65 3 (aH r))]
def x65:=fx E0 Tryz.f65 [] [200000]
def A65:=Ax x65 aaQ VF
def C65:=Cx E0 65 aaQ VF
def HZ (t11:List Int) (t12 t13:Int) (b3:ar) (b9:List ae):LS:=⟨[(3,.loc 3 0),(5,.ms 9 3 0 b9.length),(11,.slice 3 1 (bj t11)),(12,.int .i64 t12),(13,.int .i64 t13)],[(3,.flat 55 (kI b3)),(9,.rows true 65 3 (aH b9))]⟩
def HY (b9:List ae):LS:=⟨[(5,.ms 9 3 0 b9.length)],[(9,.rows true 65 3 (aH b9))]⟩
def TJ (dA:List ae) (w1:ar):LS:=⟨[(0,.slice 65 3 (aH dA)),(1,.agg (kI w1))],[]⟩
def GH (k_1 : (List ae) → Option (List ae)) (back : (List Int) → Int → Int → ar → (List ae) → Option (List ae)) (n : Nat) (t11 : List Int) (t12 t13 : Int) (b3 : ar) (b9 : List ae) : Option (List ae) :=
 if decide (t13 < t12) then
 (idx t11 t13).bind fun x3 =>
 (idx b3.aV t13).bind fun x13 =>
 (bnd b9.length x3).bind fun x16 =>
 (b9[0 + x16]?).bind fun x18 =>
 (setAt b9 (0 + x16) x13).bind fun z19 =>
 back t11 t12 (w64 (t13 + 1)) b3 z19
 else
 k_1 b9
theorem aje {k_1} (aK : K1 (A65 [1, 1, 1]) HY k_1) {back} (aE : K5 (A65 [0, 1, 0, 1, 1]) HZ back) (n : Nat) : K5 (A65 [0, 1, 0, 1, 1]) HZ (GH k_1 back n) := fun t11 t12 t13 b3 b9 r h =>
 ie h (fun c0 h =>
 be h fun x3 hx3 h =>
 be h fun x13 bS h =>
 be h fun x16 cU h =>
 be h fun x18 gS h =>
 be h fun z19 J5 h =>
 ra (aE h) [(0, eb c0), (1, R3.idx hx3), (8, R64.idx bS), (1, fu cU), (0, R64.sto 0 (ja x13) gS J5 (by kernel_rfl)), (2, .seq 5 (congrArg (fun n_ => (AV.ms 9 3 0 n_)) ((eP J5).symm)))]) (fun c0 h =>
 ra (aK h) [(0, eb c0)])
def xE (k_1:(List ae)→Option (List ae)):Nat→(List Int)→Int→Int→ar→(List ae)→Option (List ae)
 |0,_,_,_,_,_=>none
 |n+1,t11,t12,t13,b3,b9=>GH k_1 (xE k_1 n) n t11 t12 t13 b3 b9
theorem abU {k_1} (aK:K1 (A65 [1,1,1]) HY k_1):∀n:Nat,K5 (A65 [0,1,0,1,1]) HZ (xE k_1 n)
 |0=>fun _ _ _ _ _ _ h=>nz h
 |n+1=>fun _ _ _ _ _ _ h=>aje aK (abU aK n) n h
def GG (n : Nat) (b9 : List ae) : Option (List ae) :=
 some b9
theorem ajd (n : Nat) : K1 (A65 [1, 1, 1]) HY (GG n) := fun b9 r h =>
 rr h [(2, .ren 9 200000)]
def Sn (n : Nat) (dA : List ae) (w1 : ar) : Option (List ae) :=
 (F62 n dA).bind fun x4 =>
 xE (GG n) n w1.aq (w1.aq.length : Int) 0 w1 x4
theorem ajc (n : Nat) : K2 (A65 []) TJ (Sn n) := fun dA w1 r h =>
 be h fun x4 hx4 h =>
 ra (abU (ajd n) n h) [(3, .call (Kv n hx4) [] [] [(9, 200000)]), (3, .eqv (R3.az w1.aq))]
def F65 (n:Nat) (dA:List ae) (w1:ar):Option (List ae):=Sn n dA w1
theorem ev65 (n:Nat):K2 C65 TJ (F65 n):=fun _ _ _ h=>ca (X:=x65) (ajc n h)
def aaA (r:eO):AV:=(qq r)
def Vo (r:eO):List (Nat×Bx):= []
def x93:=fx E0 Tryz.f93 [] []
def A93:=Ax x93 aaA Vo
def C93:=Cx E0 93 aaA Vo
def Tt (pD xh aL:Int) (bD:List ae):LS:=⟨[(0,.int .i64 pD),(1,.int .i64 xh),(2,.int .i64 aL),(3,.slice 65 3 (aH bD))],[]⟩
def Gp (n : Nat) (pD xh aL : Int) (bD : List ae) : Option eO :=
 (F62 n bD).bind fun x6 =>
 some (eO.uk (qB.mk (aM.mk pD xh aL x6)))
theorem aiu (n : Nat) : K4 (A93 []) Tt (Gp n) := fun pD xh aL bD r h =>
 be h fun x6 hx6 h =>
 rr h [(5, .call (Kv n hx6) [] [] [(13, 200000)]), (2, R64.frz 13 x6), (0, .norm [(15, .agg [.same, .same, .same, .sl 0 0])] [])]
def F93 (n:Nat) (pD xh aL:Int) (bD:List ae):Option eO:=Gp n pD xh aL bD
theorem DU (n:Nat):K4 C93 Tt (F93 n):=fun _ _ _ _ _ h=>ca (X:=x93) (aiu n h)
def abb (r:(aw×eO)):AV:=.tup [.agg (dN r.1),(qq r.2)]
def VQ (r:(aw×eO)):List (Nat×Bx):= []
def x50:=fx E0 Tryz.f50 [] []
def A50:=Ax x50 abb VQ
def C50:=Cx E0 50 abb VQ
def TU (s0:ag) (st1:aj) (w2:ar):LS:=⟨[(0,.agg (bf s0)),(1,.agg (cP st1)),(2,.agg (kI w2))],[]⟩
def SJ (n : Nat) (s0 : ag) (st1 : aj) (w2 : ar) : Option (aw × eO) :=
 (F21 n s0 st1 w2.ax w2.aA).bind fun x12 =>
 if w2.fOp == 1 then
 if x12.2 then
 (F93 n 4 0 w2.ax w2.aA).bind fun x28 =>
 mg x28 (
 some ((aw.mk 0 [] []), eO.nil)) (fun y2 =>
 some ((aw.mk 0 [] []), (eO.c35 y2))) (fun y2 =>
 some ((aw.mk 0 [] []), (eO.uk y2)))
 else
 (F62 n w2.aV).bind fun x27 =>
 some ((aw.mk w2.ax [] x27), eO.nil)
 else
 if !x12.2 then
 (F93 n 5 0 w2.ax w2.aA).bind fun x29 =>
 mg x29 (
 some ((aw.mk 0 [] []), eO.nil)) (fun y2 =>
 some ((aw.mk 0 [] []), (eO.c35 y2))) (fun y2 =>
 some ((aw.mk 0 [] []), (eO.uk y2)))
 else
 (F62 n x12.1).bind fun x27 =>
 if w2.fOp == 2 then
 (F65 n x12.1 w2).bind fun x37 =>
 some ((aw.mk w2.ax x27 x37), eO.nil)
 else
 some ((aw.mk w2.ax x27 []), eO.nil)
theorem ajx (n : Nat) : K3 (A50 []) TU (SJ n) := fun s0 st1 w2 r h =>
 be h fun x12 cM h =>
 ie h (fun c0 h =>
 ie h (fun c1 h =>
 be h fun x28 kn h =>
 ice h (fun c2 g0 => by subst c2; exact (
 rr g0 [(11, .call (eC n cM) [] [] [(301800, 200000)]), (2, eb c1), (4, eb c0), (6, .call (DU n kn) [] [] []), (2, .norm [] [(6, .flat [.same, .sl 65 3, .sl 65 3])])])) (fun y2 c2 g0 => by subst c2; exact (
 rr g0 [(11, .call (eC n cM) [] [] [(301800, 200000)]), (2, eb c1), (4, eb c0), (6, .call (DU n kn) [] [] []), (2, .norm [] [(6, .flat [.same, .sl 65 3, .sl 65 3])])])) (fun y2 c2 g0 => by subst c2; exact (
 rr g0 [(11, .call (eC n cM) [] [] [(301800, 200000)]), (2, eb c1), (4, eb c0), (6, .call (DU n kn) [] [] []), (2, .norm [] [(6, .flat [.same, .sl 65 3, .sl 65 3])])]))) (fun c1 h =>
 be h fun x27 r8 h =>
 rr h [(11, .call (eC n cM) [] [] [(301800, 200000)]), (2, eb c1), (4, eb c0), (5, .call (Kv n r8) [] [] [(35, 200000)]), (0, .nrm (.agg [.same, .sl 65 3])), (2, R64.frz 35 x27), (0, .norm [] [(6, .flat [.same, .same, .sl 0 0])])])) (fun c0 h =>
 ie h (fun c1 h =>
 be h fun x29 vF h =>
 ice h (fun c2 g0 => by subst c2; exact (
 rr g0 [(11, .call (eC n cM) [] [] [(301800, 200000)]), (7, eb c0), (1, eb c1), (5, .call (DU n vF) [] [] []), (2, .norm [] [(6, .flat [.same, .sl 65 3, .sl 65 3])])])) (fun y2 c2 g0 => by subst c2; exact (
 rr g0 [(11, .call (eC n cM) [] [] [(301800, 200000)]), (7, eb c0), (1, eb c1), (5, .call (DU n vF) [] [] []), (2, .norm [] [(6, .flat [.same, .sl 65 3, .sl 65 3])])])) (fun y2 c2 g0 => by subst c2; exact (
 rr g0 [(11, .call (eC n cM) [] [] [(301800, 200000)]), (7, eb c0), (1, eb c1), (5, .call (DU n vF) [] [] []), (2, .norm [] [(6, .flat [.same, .sl 65 3, .sl 65 3])])]))) (fun c1 h =>
 be h fun x27 r8 h =>
 ie h (fun c2 h =>
 be h fun x37 ze h =>
 rr h [(11, .call (eC n cM) [] [] [(301800, 200000)]), (7, eb c0), (1, eb c1), (0, R64.frz 301800 x12.1), (3, .call (Kv n r8) [.one (.sl 0 0)] [] [(48, 200000)]), (0, .nrm (.agg [.same, .same, .sl 65 3])), (4, eb c2), (2, .call (ev65 n ze) [.one (.sl 0 0)] [] [(55, 200000)]), (5, R64.frz 48 x27), (0, R64.frz 55 x37), (0, .norm [] [(6, .flat [.same, .sl 0 0, .sl 0 0])])]) (fun c2 h =>
 rr h [(11, .call (eC n cM) [] [] [(301800, 200000)]), (7, eb c0), (1, eb c1), (0, R64.frz 301800 x12.1), (3, .call (Kv n r8) [.one (.sl 0 0)] [] [(48, 200000)]), (0, .nrm (.agg [.same, .same, .sl 65 3])), (4, eb c2), (3, R64.frz 48 x27), (0, .norm [] [(6, .flat [.same, .sl 0 0])])])))
def F50 (n:Nat) (s0:ag) (st1:aj) (w2:ar):Option (aw×eO):=SJ n s0 st1 w2
theorem ZC (n:Nat):K3 C50 TU (F50 n):=fun _ _ _ _ h=>ca (X:=x50) (ajx n h)
def aba (r:(aM×Int)):AV:=.tup [.agg (acN r.1),.int .i64 r.2]
def VP (r:(aM×Int)):List (Nat×Bx):= []
def x51:=fx E0 Tryz.f51 [] []
def A51:=Ax x51 aba VP
def C51:=Cx E0 51 aba VP
def TT (DZ:eO):LS:=⟨[(0,(qq DZ))],[]⟩
def GM (n : Nat) (DZ : eO) : Option (aM × Int) :=
 mg DZ (
 some ((aM.mk 0 0 0 []), 0)) (fun y0 =>
 some ((aM.mk 0 0 0 []), y0)) (fun y0 =>
 some (y0.qk, 0))
theorem ajw (n : Nat) : K1 (A51 []) TT (GM n) := fun DZ r h =>
 ice h (fun c0 g0 => by subst c0; exact (
 rr g0 [(12, .norm [] [(2, .flat [.same, .same, .same, .sl 65 3])])])) (fun y0 c0 g0 => by subst c0; exact (
 rr g0 [(14, .norm [] [(2, .flat [.same, .same, .same, .sl 65 3])])])) (fun y0 c0 g0 => by subst c0; exact (
 rr g0 []))
def F51 (n:Nat) (DZ:eO):Option (aM×Int):=GM n DZ
theorem ev51 (n:Nat):K1 C51 TT (F51 n):=fun _ _ h=>ca (X:=x51) (ajw n h)
def abx (r:((List aw)×aM×Int)):AV:=.tup [.ms 200000 3 0 r.1.length,.agg (acN r.2.1),.int .i64 r.2.2]
def Wc (r:((List aw)×aM×Int)):List (Nat×Bx):= [(200000,.rows true 104 3 (gw r.1))]
def x16:=fx E0 Tryz.f16 [] [200000]
def A16:=Ax x16 abx Wc
def C16:=Cx E0 16 abx Wc
def afe (t32:List ar) (t33 t34:Int) (b3:ag) (b4:aj) (b7:aM) (b75:List aw) (b14:aw):LS:=⟨[(3,.loc 3 0),(4,.loc 4 0),(7,.loc 7 0),(11,.ms 75 3 0 b75.length),(14,.loc 14 0),(32,.slice 55 5 (cC t32)),(33,.int .i64 t33),(34,.int .i64 t34)],[(3,.flat 26 (bf b3)),(4,.flat 33 (cP b4)),(7,.flat 45 [.int .i64 b7.dI,.int .i64 b7.iN,.int .i64 b7.ax,.aR]),(14,.flat 104 (dN b14)),(75,.rows true 104 3 (gw b75))]⟩
def Us (t32:List ar) (t33 t34:Int) (b3:ag) (b4:aj) (b7:aM) (b75:List aw):LS:=⟨[(3,.loc 3 0),(4,.loc 4 0),(7,.loc 7 0),(11,.ms 75 3 0 b75.length),(32,.slice 55 5 (cC t32)),(33,.int .i64 t33),(34,.int .i64 t34)],[(3,.flat 26 (bf b3)),(4,.flat 33 (cP b4)),(7,.flat 45 [.int .i64 b7.dI,.int .i64 b7.iN,.int .i64 b7.ax,.aR]),(75,.rows true 104 3 (gw b75))]⟩
def afd (FX:eO) (t32:List ar) (t33 t34:Int) (b3:ag) (b4:aj) (b7:aM) (b75:List aw) (b14:aw):LS:=⟨[(3,.loc 3 0),(4,.loc 4 0),(7,.loc 7 0),(11,.ms 75 3 0 b75.length),(14,.loc 14 0),(15,(qq FX)),(32,.slice 55 5 (cC t32)),(33,.int .i64 t33),(34,.int .i64 t34)],[(3,.flat 26 (bf b3)),(4,.flat 33 (cP b4)),(7,.flat 45 [.int .i64 b7.dI,.int .i64 b7.iN,.int .i64 b7.ax,.aR]),(14,.flat 104 (dN b14)),(75,.rows true 104 3 (gw b75))]⟩
def u6 (t32:List ar) (t33 t34:Int) (b3:ag) (b4:aj) (b7:aM) (b75:List aw):LS:=⟨[(3,.loc 3 0),(4,.loc 4 0),(7,.loc 7 0),(11,.ms 75 3 0 b75.length),(32,.slice 55 5 (cC t32)),(33,.int .i64 t33),(34,.int .i64 t34)],[(3,.flat 26 (bf b3)),(4,.flat 33 (cP b4)),(7,.flat 45 [.int .i64 b7.dI,.int .i64 b7.iN,.int .i64 b7.ax,.aR]),(75,.rows true 104 3 (gw b75))]⟩
def IC (b7:aM) (b75:List aw):LS:=⟨[(7,.loc 7 0),(11,.ms 75 3 0 b75.length)],[(7,.flat 45 [.int .i64 b7.dI,.int .i64 b7.iN,.int .i64 b7.ax,.aR]),(75,.rows true 104 3 (gw b75))]⟩
def Ur (s0:ag) (st1:aj) (kC:List ar):LS:=⟨[(0,.agg (bf s0)),(1,.agg (cP st1)),(2,.slice 55 5 (cC kC))],[]⟩
def uJ (k_1 : (List ar) → Int → Int → ag → aj → aM → (List aw) → Option ((List aw) × aM × Int)) (n : Nat) (t32 : List ar) (t33 t34 : Int) (b3 : ag) (b4 : aj) (b7 : aM) (b75 : List aw) (b14 : aw) : Option ((List aw) × aM × Int) :=
 (app b75 [b14]).bind fun x4 =>
 k_1 t32 t33 t34 b3 b4 (aM.mk b7.dI b7.iN b7.ax []) x4
theorem RE {k_1} (aK : K7 (A16 [1, 1, 1, 0, 0, 1, 0, 1, 1, 1, 1]) Us k_1) (n : Nat) : K8 (A16 [1, 1, 1, 1, 0, 0, 1, 1, 0, 0, 1, 0, 1, 1, 1, 1]) afe (uJ k_1 n) := fun t32 t33 t34 b3 b4 b7 b75 b14 r h =>
 be h fun x4 hx4 h =>
 ra (aK h) [(3, sq.app hx4 (sq.srW [b14]))]
def pj (k_3 : (List ar) → Int → Int → ag → aj → aM → (List aw) → Option ((List aw) × aM × Int)) (n : Nat) (t32 : List ar) (t33 t34 : Int) (b3 : ag) (b4 : aj) (b7 : aM) (b75 : List aw) : Option ((List aw) × aM × Int) :=
 k_3 t32 t33 (w64 (t34 + 1)) b3 b4 (aM.mk b7.dI b7.iN b7.ax []) b75
theorem Gi {k_3} (bO : K7 (A16 [0, 1, 0, 1, 1, 1, 1]) u6 k_3) (n : Nat) : K7 (A16 [1, 1, 1, 0, 0, 1, 0, 1, 1, 1, 1]) Us (pj k_3 n) := fun t32 t33 t34 b3 b4 b7 b75 r h =>
 ra (bO h) []
def pg (k_3 : (List ar) → Int → Int → ag → aj → aM → (List aw) → Option ((List aw) × aM × Int)) (n : Nat) (FX : eO) (t32 : List ar) (t33 t34 : Int) (b3 : ag) (b4 : aj) (b7 : aM) (b75 : List aw) (b14 : aw) : Option ((List aw) × aM × Int) :=
 mg FX (
 if decide (0 < (b14.cB.length : Int)) then
 if decide (0 < (b14.dQ.length : Int)) then
 (F52 n b14.cB b14.dQ).bind fun x18 =>
 if x18 == 0 then
 pj k_3 n t32 t33 t34 b3 b4 (aM.mk b7.dI b7.iN b7.ax []) b75
 else
 uJ (pj k_3 n) n t32 t33 t34 b3 b4 (aM.mk b7.dI b7.iN b7.ax []) b75 b14
 else
 uJ (pj k_3 n) n t32 t33 t34 b3 b4 (aM.mk b7.dI b7.iN b7.ax []) b75 b14
 else
 uJ (pj k_3 n) n t32 t33 t34 b3 b4 (aM.mk b7.dI b7.iN b7.ax []) b75 b14) (fun y0 =>
 (F51 n (eO.c35 y0)).bind fun x4 =>
 some ([], x4.1, x4.2)) (fun y0 =>
 (F51 n (eO.uk y0)).bind fun x4 =>
 some ([], x4.1, x4.2))
theorem RD {k_3} (bO : K7 (A16 [0, 1, 0, 1, 1, 1, 1]) u6 k_3) (n : Nat) : K9 (A16 [1, 1, 0, 0, 1, 1, 0, 0, 1, 0, 1, 1, 1, 1]) afd (pg k_3 n) := fun FX t32 t33 t34 b3 b4 b7 b75 b14 r h =>
 ice h (fun c0 g0 => by subst c0; exact (
 ie g0 (fun c1 g0 =>
 ie g0 (fun c2 g0 =>
 be g0 fun x18 gS g0 =>
 ie g0 (fun c3 g0 =>
 ra (Gi bO n g0) [(4, .eqv (R64.az b14.cB)), (0, eb c1), (3, .eqv (R64.az b14.dQ)), (0, eb c2), (6, .call (sg n gS) [] [] []), (0, eb c3)]) (fun c3 g0 =>
 ra (RE (Gi bO n) n g0) [(4, .eqv (R64.az b14.cB)), (0, eb c1), (3, .eqv (R64.az b14.dQ)), (0, eb c2), (6, .call (sg n gS) [] [] []), (0, eb c3)])) (fun c2 g0 =>
 ra (RE (Gi bO n) n g0) [(4, .eqv (R64.az b14.cB)), (0, eb c1), (3, .eqv (R64.az b14.dQ)), (0, eb c2)])) (fun c1 g0 =>
 ra (RE (Gi bO n) n g0) [(4, .eqv (R64.az b14.cB)), (0, eb c1)]))) (fun y0 c0 g0 => by subst c0; exact (
 be g0 fun x4 hx4 g0 =>
 rr g0 [(3, .call (ev51 n hx4) [] [] []), (11, .born [6] [] 200000 true 104 3)])) (fun y0 c0 g0 => by subst c0; exact (
 be g0 fun x4 hx4 g0 =>
 rr g0 [(3, .call (ev51 n hx4) [] [] []), (11, .born [6] [] 200000 true 104 3)]))
def Hc (k_4 : aM → (List aw) → Option ((List aw) × aM × Int)) (back : (List ar) → Int → Int → ag → aj → aM → (List aw) → Option ((List aw) × aM × Int)) (n : Nat) (t32 : List ar) (t33 t34 : Int) (b3 : ag) (b4 : aj) (b7 : aM) (b75 : List aw) : Option ((List aw) × aM × Int) :=
 if decide (t34 < t33) then
 (idx t32 t34).bind fun x2 =>
 (F50 n b3 b4 x2).bind fun x10 =>
 mg x10.2 (
 pg back n eO.nil t32 t33 t34 b3 b4 (aM.mk b7.dI b7.iN b7.ax []) b75 x10.1) (fun y1 =>
 pg back n (eO.c35 y1) t32 t33 t34 b3 b4 (aM.mk b7.dI b7.iN b7.ax []) b75 x10.1) (fun y1 =>
 pg back n (eO.uk y1) t32 t33 t34 b3 b4 (aM.mk b7.dI b7.iN b7.ax []) b75 x10.1)
 else
 k_4 (aM.mk b7.dI b7.iN b7.ax []) b75
theorem aky {k_4} (iT : K2 (A16 [1, 1, 1, 1, 1]) IC k_4) {back} (aE : K7 (A16 [0, 1, 0, 1, 1, 1, 1]) u6 back) (n : Nat) : K7 (A16 [0, 1, 0, 1, 1, 1, 1]) u6 (Hc k_4 back n) := fun t32 t33 t34 b3 b4 b7 b75 r h =>
 ie h (fun c0 h =>
 be h fun x2 hx2 h =>
 be h fun x10 dr h =>
 ice h (fun c1 h =>
 ra (RD aE n h) [(0, eb c0), (0, R54.idx hx2), (6, .call (bC.cast (ZC n dr) (congrArg (fun q_ => (AV.tup [.agg (dN x10.1), (qq q_)])) c1)) [] [] [])]) (fun y1 c1 h =>
 ra (RD aE n h) [(0, eb c0), (0, R54.idx hx2), (6, .call (bC.cast (ZC n dr) (congrArg (fun q_ => (AV.tup [.agg (dN x10.1), (qq q_)])) c1)) [] [] [])]) (fun y1 c1 h =>
 ra (RD aE n h) [(0, eb c0), (0, R54.idx hx2), (6, .call (bC.cast (ZC n dr) (congrArg (fun q_ => (AV.tup [.agg (dN x10.1), (qq q_)])) c1)) [] [] [])])) (fun c0 h =>
 ra (iT h) [(0, eb c0)])
def xQ (k_4:aM→(List aw)→Option ((List aw)×aM×Int)):Nat→(List ar)→Int→Int→ag→aj→aM→(List aw)→Option ((List aw)×aM×Int)
 |0,_,_,_,_,_,_,_=>none
 |n+1,t32,t33,t34,b3,b4,b7,b75=>Hc k_4 (xQ k_4 n) n t32 t33 t34 b3 b4 b7 b75
theorem acp {k_4} (iT:K2 (A16 [1,1,1,1,1]) IC k_4):∀n:Nat,K7 (A16 [0,1,0,1,1,1,1]) u6 (xQ k_4 n)
 |0=>fun _ _ _ _ _ _ _ _ h=>nz h
 |n+1=>fun _ _ _ _ _ _ _ _ h=>aky iT (acp iT n) n h
def Hb (n : Nat) (b7 : aM) (b75 : List aw) : Option ((List aw) × aM × Int) :=
 some (b75, (aM.mk 0 0 0 []), 0)
theorem akx (n : Nat) : K2 (A16 [1, 1, 1, 1, 1]) IC (Hb n) := fun b7 b75 r h =>
 rr h [(5, .ren 75 200000), (0, .norm [] [(7, .flat [.same, .same, .same, .sl 65 3])])]
def S7 (n : Nat) (s0 : ag) (st1 : aj) (kC : List ar) : Option ((List aw) × aM × Int) :=
 (F12 n s0 kC).bind fun x8 =>
 if x8 != 0 then
 some ([], (aM.mk 0 0 0 []), x8)
 else
 (F28 n s0 1 st1).bind fun x15 =>
 if x15 != 0 then
 some ([], (aM.mk 0 0 0 []), x15)
 else
 xQ (Hb n) n kC (kC.length : Int) 0 s0 st1 (aM.mk 0 0 0 []) []
theorem akw (n : Nat) : K3 (A16 []) Ur (S7 n) := fun s0 st1 kC r h =>
 be h fun x8 hx8 h =>
 ie h (fun c0 h =>
 rr h [(7, .call (ZF n hx8) [] [] []), (2, eb c0), (5, .born [6] [] 200000 true 104 3), (0, .norm [] [(7, .flat [.same, .same, .same, .sl 65 3])])]) (fun c0 h =>
 be h fun x15 gE h =>
 ie h (fun c1 h =>
 rr h [(7, .call (ZF n hx8) [] [] []), (2, eb c0), (2, .call (QX n gE) [] [] []), (2, eb c1), (5, .born [6] [] 200000 true 104 3), (0, .norm [] [(7, .flat [.same, .same, .same, .sl 65 3])])]) (fun c1 h =>
 ra (acp (akx n) n h) [(7, .call (ZF n hx8) [] [] []), (2, eb c0), (2, .call (QX n gE) [] [] []), (2, eb c1), (2, .eqv (R54.az kC)), (1, .born [11] [] 75 true 104 3)]))
def F16 (n:Nat) (s0:ag) (st1:aj) (kC:List ar):Option ((List aw)×aM×Int):=S7 n s0 st1 kC
theorem DW (n:Nat):K3 C16 Ur (F16 n):=fun _ _ _ _ h=>ca (X:=x16) (akw n h)
def aax (r:Bool):AV:=.bool r
def Vl (r:Bool):List (Nat×Bx):= []
def x96:=fx E0 Tryz.f96 [] []
def A96:=Ax x96 aax Vl
def C96:=Cx E0 96 aax Vl
def To (a0 b1:List ae):LS:=⟨[(0,.slice 65 3 (aH a0)),(1,.slice 65 3 (aH b1))],[]⟩
def R7 (n : Nat) (a0 b1 : List ae) : Option Bool :=
 (F52 n a0 b1).bind fun x4 =>
 some (x4 == 0)
theorem aip (n : Nat) : K2 (A96 []) To (R7 n) := fun a0 b1 r h =>
 be h fun x4 hx4 h =>
 rr h [(3, .call (sg n hx4) [] [] [])]
def F96 (n:Nat) (a0 b1:List ae):Option Bool:=R7 n a0 b1
theorem Zy (n:Nat):K2 C96 To (F96 n):=fun _ _ _ h=>ca (X:=x96) (aip n h)
def aaV (r:Bool):AV:=.bool r
def VK (r:Bool):List (Nat×Bx):= []
def x58:=fx E0 Tryz.f58 [] []
def A58:=Ax x58 aaV VK
def C58:=Cx E0 58 aaV VK
def aeZ (aN:Int) (vh:List ae) (t36:qD) (t37:Int) (b3:ag) (b5:aw):LS:=⟨[(1,.int .i64 aN),(3,.loc 3 0),(5,.loc 5 0),(8,.slice 65 3 (aH vh)),(36,.agg (Xk t36)),(37,.int .i64 t37)],[(3,.flat 26 (bf b3)),(5,.flat 104 (dN b5))]⟩
def zX (aN:Int) (t36:qD) (t37:Int) (b3:ag) (b5:aw):LS:=⟨[(1,.int .i64 aN),(3,.loc 3 0),(5,.loc 5 0),(36,.agg (Xk t36)),(37,.int .i64 t37)],[(3,.flat 26 (bf b3)),(5,.flat 104 (dN b5))]⟩
def H6 (b3:ag) (b5:aw):LS:=⟨[(3,.loc 3 0),(5,.loc 5 0)],[(3,.flat 26 (bf b3)),(5,.flat 104 (dN b5))]⟩
def aeY (aN:Int) (b3:ag) (b5:aw):LS:=⟨[(1,.int .i64 aN),(3,.loc 3 0),(5,.loc 5 0)],[(3,.flat 26 (bf b3)),(5,.flat 104 (dN b5))]⟩
def TO (s0:ag) (aN:Int) (c2:aw):LS:=⟨[(0,.agg (bf s0)),(1,.int .i64 aN),(2,.agg (dN c2))],[]⟩
def B5 (k_1 : Int → qD → Int → ag → aw → Option Bool) (n : Nat) (aN : Int) (vh : List ae) (t36 : qD) (t37 : Int) (b3 : ag) (b5 : aw) : Option Bool :=
 if decide (0 < (vh.length : Int)) then
 (F70 n b3 b5.ax vh aN).bind fun x10 =>
 if !x10 then
 some false
 else
 k_1 aN t36 (w64 (t37 + 1)) b3 b5
 else
 k_1 aN t36 (w64 (t37 + 1)) b3 b5
theorem adf {k_1} (aK : K5 (A58 [0, 1, 0, 1, 1]) zX k_1) (n : Nat) : K6 (A58 [1, 0, 0, 1, 1, 0, 0, 1, 0, 1, 1]) aeZ (B5 k_1 n) := fun aN vh t36 t37 b3 b5 r h =>
 ie h (fun c0 h =>
 be h fun x10 dr h =>
 ie h (fun c1 h =>
 rr h [(1, .eqv (R64.az vh)), (0, eb c0), (6, .call (vT n dr) [] [] []), (0, eb c1)]) (fun c1 h =>
 ra (aK h) [(1, .eqv (R64.az vh)), (0, eb c0), (6, .call (vT n dr) [] [] []), (0, eb c1)])) (fun c0 h =>
 ra (aK h) [(1, .eqv (R64.az vh)), (0, eb c0)])
def SF (k_2 : ag → aw → Option Bool) (back : Int → qD → Int → ag → aw → Option Bool) (n : Nat) (aN : Int) (t36 : qD) (t37 : Int) (b3 : ag) (b5 : aw) : Option Bool :=
 if decide (t37 < 2) then
 if t37 == 0 then
 B5 back n aN t36.f0 t36 0 b3 b5
 else
 if t37 == 1 then
 B5 back n aN t36.f1 t36 1 b3 b5
 else
 none
 else
 k_2 b3 b5
theorem ajp {k_2} (cR : K2 (A58 [1, 1, 1]) H6 k_2) {back} (aE : K5 (A58 [0, 1, 0, 1, 1]) zX back) (n : Nat) : K5 (A58 [0, 1, 0, 1, 1]) zX (SF k_2 back n) := fun aN t36 t37 b3 b5 r h =>
 ie h (fun c0 h =>
 ie h (fun c1 g0 => by have c1 := eq_of_beq c1; subst c1; exact (
 ra (adf aE n g0) [])) (fun c1 h =>
 ie h (fun c2_ g0 => by have c2_ := eq_of_beq c2_; subst c2_; exact (
 ra (adf aE n g0) [])) (fun c2_ h =>
 nz h))) (fun c0 h =>
 ra (cR h) [(0, eb c0)])
def Gl (k_2:ag→aw→Option Bool):Nat→Int→qD→Int→ag→aw→Option Bool
 |0,_,_,_,_,_=>none
 |n+1,aN,t36,t37,b3,b5=>SF k_2 (Gl k_2 n) n aN t36 t37 b3 b5
theorem abW {k_2} (cR:K2 (A58 [1,1,1]) H6 k_2):∀n:Nat,K5 (A58 [0,1,0,1,1]) zX (Gl k_2 n)
 |0=>fun _ _ _ _ _ _ h=>nz h
 |n+1=>fun _ _ _ _ _ _ h=>ajp cR (abW cR n) n h
def SE (n : Nat) (b3 : ag) (b5 : aw) : Option Bool :=
 if (b5.cB.length : Int) == 0 then
 some true
 else
 if (b5.dQ.length : Int) == 0 then
 some true
 else
 (F71 n b3 b5.ax b5.cB).bind fun x17 =>
 (F71 n b3 b5.ax b5.dQ).bind fun x24 =>
 (F96 n x17 x24).bind fun x26 =>
 some x26
theorem ajo (n : Nat) : K2 (A58 [1, 1, 1]) H6 (SE n) := fun b3 b5 r h =>
 ie h (fun c0 h =>
 rr h [(2, .eqv (R64.az b5.cB)), (0, eb c0)]) (fun c0 h =>
 ie h (fun c1 h =>
 rr h [(2, .eqv (R64.az b5.cB)), (0, eb c0), (3, .eqv (R64.az b5.dQ)), (0, eb c1)]) (fun c1 h =>
 be h fun x17 gD h =>
 be h fun x24 lH h =>
 be h fun x26 eZ h =>
 rr h [(2, .eqv (R64.az b5.cB)), (0, eb c0), (3, .eqv (R64.az b5.dQ)), (0, eb c1), (7, .call (qp n gD) [] [] []), (5, .call (qp n lH) [] [] []), (0, .call (Zy n eZ) [] [] [])]))
def B4 (n : Nat) (aN : Int) (b3 : ag) (b5 : aw) : Option Bool :=
 Gl (SE n) n aN (qD.mk b5.cB b5.dQ) 0 b3 b5
theorem ade (n : Nat) : K3 (A58 [1, 1]) aeY (B4 n) := fun aN b3 b5 r h =>
 ra (abW (ajo n) n h) []
def SD (n : Nat) (s0 : ag) (aN : Int) (c2 : aw) : Option Bool :=
 if decide (c2.ax < 0) then
 some false
 else
 if !decide (c2.ax < (s0.ah.length : Int)) then
 some false
 else
 if (c2.cB.length : Int) == 0 then
 if (c2.dQ.length : Int) == 0 then
 some false
 else
 B4 n aN s0 c2
 else
 B4 n aN s0 c2
theorem ajn (n : Nat) : K3 (A58 []) TO (SD n) := fun s0 aN c2 r h =>
 ie h (fun c0 h =>
 rr h [(5, eb c0)]) (fun c0 h =>
 ie h (fun c1 h =>
 rr h [(5, eb c0), (5, .eqv (R62.az s0.ah)), (0, eb c1)]) (fun c1 h =>
 ie h (fun c2_ h =>
 ie h (fun c3 h =>
 rr h [(5, eb c0), (5, .eqv (R62.az s0.ah)), (0, eb c1), (4, .eqv (R64.az c2.cB)), (0, eb c2_), (3, .eqv (R64.az c2.dQ)), (0, eb c3)]) (fun c3 h =>
 ra (ade n h) [(5, eb c0), (5, .eqv (R62.az s0.ah)), (0, eb c1), (4, .eqv (R64.az c2.cB)), (0, eb c2_), (3, .eqv (R64.az c2.dQ)), (0, eb c3)])) (fun c2_ h =>
 ra (ade n h) [(5, eb c0), (5, .eqv (R62.az s0.ah)), (0, eb c1), (4, .eqv (R64.az c2.cB)), (0, eb c2_)])))
def F58 (n:Nat) (s0:ag) (aN:Int) (c2:aw):Option Bool:=SD n s0 aN c2
theorem QS (n:Nat):K3 C58 TO (F58 n):=fun _ _ _ _ h=>ca (X:=x58) (ajn n h)
def aau (r:(Int×ag×aw)):AV:=.int .i64 r.1
def Vi (r:(Int×ag×aw)):List (Nat×Bx):= [(2,.flat 26 (bf r.2.1)),(3,.flat 104 (dN r.2.2))]
def x99:=fx E0 Tryz.f99 [2,3] [2,3]
def A99:=Ax x99 aau Vi
def C99:=Cx E0 99 aau Vi
def Tl (dA ia:List ae) (t2:ag) (t3:aw):LS:=⟨[(0,.slice 65 3 (aH dA)),(1,.slice 65 3 (aH ia)),(2,.loc 2 0),(3,.loc 3 0)],[(2,.flat 26 (bf t2)),(3,.flat 104 (dN t3))]⟩
def R2 (n : Nat) (dA ia : List ae) (t2 : ag) (t3 : aw) : Option (Int × ag × aw) :=
 (F71 n t2 t3.ax dA).bind fun x6 =>
 (F52 n x6 ia).bind fun x9 =>
 some (x9, t2, t3)
theorem aik (n : Nat) : K4 (A99 []) Tl (R2 n) := fun dA ia t2 t3 r h =>
 be h fun x6 hx6 h =>
 be h fun x9 hx9 h =>
 rr h [(5, .call (qp n hx6) [] [] []), (1, .call (sg n hx9) [] [] [])]
def F99 (n:Nat) (dA ia:List ae) (t2:ag) (t3:aw):Option (Int×ag×aw):=R2 n dA ia t2 t3
theorem Zx (n:Nat):K4 C99 Tl (F99 n):=fun _ _ _ _ _ h=>ca (X:=x99) (aik n h)
def aaw (r:(Int×Bool×ag×aw)):AV:=.tup [.int .i64 r.1,.bool r.2.1]
def Vk (r:(Int×Bool×ag×aw)):List (Nat×Bx):= [(100200,.flat 26 (bf r.2.2.1)),(100201,.flat 104 (dN r.2.2.2))]
def x97:=fx E0 Tryz.f97 [100200,100201] [100200,100201]
def A97:=Ax x97 aaw Vk
def C97:=Cx E0 97 aaw Vk
def HG (x0:List (List ae)) (dH:List ae) (n8 i9 j10:Int) (g8:ag) (g7:aw):LS:=⟨[(0,.slice 43 1 (cr x0)),(1,.slice 65 3 (aH dH)),(2,.fn 99 [] [.loc 100200 0,.loc 100201 0]),(8,.int .i64 n8),(9,.int .i64 i9),(10,.int .i64 j10)],[(100200,.flat 26 (bf g8)),(100201,.flat 104 (dN g7))]⟩
def HF (x0:List (List ae)) (dH:List ae) (n8 i9:Int) (g8:ag) (g7:aw):LS:=⟨[(0,.slice 43 1 (cr x0)),(1,.slice 65 3 (aH dH)),(2,.fn 99 [] [.loc 100200 0,.loc 100201 0]),(8,.int .i64 n8),(9,.int .i64 i9)],[(100200,.flat 26 (bf g8)),(100201,.flat 104 (dN g7))]⟩
def Tn (x0:List (List ae)) (dH:List ae) (xv:ag) (xu:aw):LS:=⟨[(0,.slice 43 1 (cr x0)),(1,.slice 65 3 (aH dH)),(2,.fn 99 [] [.loc 100200 0,.loc 100201 0])],[(100200,.flat 26 (bf xv)),(100201,.flat 104 (dN xu))]⟩
def Gm (k_1 : (List (List ae)) → (List ae) → Int → Int → ag → aw → Option (Int × Bool × ag × aw)) (back : (List (List ae)) → (List ae) → Int → Int → Int → ag → aw → Option (Int × Bool × ag × aw)) (n : Nat) (x0 : List (List ae)) (dH : List ae) (n8 i9 j10 : Int) (g8 : ag) (g7 : aw) : Option (Int × Bool × ag × aw) :=
 if decide (i9 < j10) then
 (idx x0 (w64 ((Int.fdiv (IntKind.wrap .u64 (w64 (i9 + j10))) 2)))).bind fun x14 =>
 (F99 n x14 dH g8 g7).bind fun x18 =>
 if decide (x18.1 < 0) then
 back x0 dH n8 (w64 ((w64 ((Int.fdiv (IntKind.wrap .u64 (w64 (i9 + j10))) 2))) + 1)) j10 x18.2.1 x18.2.2
 else
 back x0 dH n8 i9 (w64 ((Int.fdiv (IntKind.wrap .u64 (w64 (i9 + j10))) 2))) x18.2.1 x18.2.2
 else
 k_1 x0 dH n8 i9 g8 g7
theorem aio {k_1} (aK : K6 (A97 [1, 1, 1, 1]) HF k_1) {back} (aE : K7 (A97 [0, 0, 1, 1, 1]) HG back) (n : Nat) : K7 (A97 [0, 0, 1, 1, 1]) HG (Gm k_1 back n) := fun x0 dH n8 i9 j10 g8 g7 r h =>
 ie h (fun c0 h =>
 be h fun x14 jl h =>
 be h fun x18 gS h =>
 ie h (fun c1 h =>
 ra (aE h) [(2, eb c0), (10, R42.idx jl), (2, .call (Zx n gS) [] [(100200, 2), (100201, 3)] []), (0, eb c1)]) (fun c1 h =>
 ra (aE h) [(2, eb c0), (10, R42.idx jl), (2, .call (Zx n gS) [] [(100200, 2), (100201, 3)] []), (0, eb c1)])) (fun c0 h =>
 ra (aK h) [(2, eb c0)])
def xy (k_1:(List (List ae))→(List ae)→Int→Int→ag→aw→Option (Int×Bool×ag×aw)):Nat→(List (List ae))→(List ae)→Int→Int→Int→ag→aw→Option (Int×Bool×ag×aw)
 |0,_,_,_,_,_,_,_=>none
 |n+1,x0,dH,n8,i9,j10,g8,g7=>Gm k_1 (xy k_1 n) n x0 dH n8 i9 j10 g8 g7
theorem abJ {k_1} (aK:K6 (A97 [1,1,1,1]) HF k_1):∀n:Nat,K7 (A97 [0,0,1,1,1]) HG (xy k_1 n)
 |0=>fun _ _ _ _ _ _ _ _ h=>nz h
 |n+1=>fun _ _ _ _ _ _ _ _ h=>aio aK (abJ aK n) n h
def BU (n : Nat) (x0 : List (List ae)) (dH : List ae) (n8 i9 : Int) (g8 : ag) (g7 : aw) : Option (Int × Bool × ag × aw) :=
 if decide (i9 < n8) then
 (idx x0 i9).bind fun x9 =>
 (F99 n x9 dH g8 g7).bind fun x13 =>
 some (i9, x13.1 == 0, x13.2.1, x13.2.2)
 else
 some (i9, false, g8, g7)
theorem ain (n : Nat) : K6 (A97 [1, 1, 1, 1]) HF (BU n) := fun x0 dH n8 i9 g8 g7 r h =>
 ie h (fun c0 h =>
 be h fun x9 hx9 h =>
 be h fun x13 bS h =>
 rr h [(3, eb c0), (4, R42.idx hx9), (2, .call (Zx n bS) [] [(100200, 2), (100201, 3)] [])]) (fun c0 h =>
 rr h [(3, eb c0)])
def R6 (n : Nat) (x0 : List (List ae)) (dH : List ae) (xv : ag) (xu : aw) : Option (Int × Bool × ag × aw) :=
 xy (BU n) n x0 dH (x0.length : Int) 0 (x0.length : Int) xv xu
theorem aim (n : Nat) : K4 (A97 []) Tn (R6 n) := fun x0 dH xv xu r h =>
 ra (abJ (ain n) n h) [(3, .eqv (R42.az x0))]
def F97 (n:Nat) (x0:List (List ae)) (dH:List ae) (xv:ag) (xu:aw):Option (Int×Bool×ag×aw):=R6 n x0 dH xv xu
theorem DQ (n:Nat):K4 C97 Tn (F97 n):=fun _ _ _ _ _ h=>ca (X:=x97) (aim n h)
def aav (r:(List ae)):AV:=.slice 65 3 (aH r)
def Vj (r:(List ae)):List (Nat×Bx):= []
def x98:=fx E0 Tryz.f98 [] []
def A98:=Ax x98 aav Vj
def C98:=Cx E0 98 aav Vj
def Tm (s0:ag) (c1:aw):LS:=⟨[(0,.agg (bf s0)),(1,.agg (dN c1))],[]⟩
def R4 (n : Nat) (s0 : ag) (c1 : aw) : Option (List ae) :=
 if decide (0 < (c1.cB.length : Int)) then
 (F71 n s0 c1.ax c1.cB).bind fun x13 =>
 some x13
 else
 (F71 n s0 c1.ax c1.dQ).bind fun x13 =>
 some x13
theorem ail (n : Nat) : K2 (A98 []) Tm (R4 n) := fun s0 c1 r h =>
 ie h (fun c0 h =>
 be h fun x13 bS h =>
 rr h [(5, .eqv (R64.az c1.cB)), (0, eb c0), (5, .call (qp n bS) [] [] [])]) (fun c0 h =>
 be h fun x13 bS h =>
 rr h [(5, .eqv (R64.az c1.cB)), (0, eb c0), (5, .call (qp n bS) [] [] [])])
def F98 (n:Nat) (s0:ag) (c1:aw):Option (List ae):=R4 n s0 c1
theorem DP (n:Nat):K2 C98 Tm (F98 n):=fun _ _ _ h=>ca (X:=x98) (ail n h)
def aaU (r:((List (List ae))×Bool)):AV:=.tup [.slice 43 1 (cr r.1),.bool r.2]
def VJ (r:((List (List ae))×Bool)):List (Nat×Bx):= []
def x59:=fx E0 Tryz.f59 [] []
def A59:=Ax x59 aaU VJ
def C59:=Cx E0 59 aaU VJ
def aeX (gI kb:List (List ae)):LS:=⟨[(10,.slice 43 1 (cr gI)),(11,.slx 43 1 (cr kb))],[]⟩
def aeW (gI kb:List (List ae)) (b5:aw):LS:=⟨[(5,.loc 5 0),(10,.slf 43 1 (cr gI)),(11,.slx 43 1 (cr kb))],[(5,.flat 104 (dN b5))]⟩
def aeV (iX:List (List ae)) (i8:Int) (A7:Bool) (b5:aw):LS:=⟨[(1,.slice 43 1 (cr iX)),(5,.loc 5 0),(8,.int .i64 i8),(9,.bool A7)],[(5,.flat 104 (dN b5))]⟩
def TN (s0:ag) (iX:List (List ae)) (c2:aw):LS:=⟨[(0,.agg (bf s0)),(1,.slice 43 1 (cr iX)),(2,.agg (dN c2))],[]⟩
def B3 (n : Nat) (gI kb : List (List ae)) : Option ((List (List ae)) × Bool) :=
 (kR gI (gI.length : Int) (gI.length : Int)).bind fun x6 =>
 if kb.isEmpty then
 some (x6, true)
 else
 (app x6 kb).bind fun x9 =>
 some (x9, true)
theorem adb (n : Nat) : K2 (A59 [1, 1, 1, 1, 1, 1]) aeX (B3 n) := fun gI kb r h =>
 be h fun x6 hx6 h =>
 ie h (fun c0 h =>
 rr h [(2, .eqv (R42.az gI)), (1, .eqv (R42.az gI)), (0, R42.kR hx6), (1, R42.BE (List.isEmpty_iff.1 c0) .dat), (2, .norm [(6, .one (.sl 0 0))] [])]) (fun c0 h =>
 be h fun x9 hx9 h =>
 rr h [(2, .eqv (R42.az gI)), (1, .eqv (R42.az gI)), (0, R42.kR hx6), (1, R42.Ec hx9 (afE c0) .dat), (2, R42.frz 69 x9), (0, .norm [(6, .one (.sl 0 0))] [])])
def B2 (n : Nat) (gI kb : List (List ae)) (b5 : aw) : Option ((List (List ae)) × Bool) :=
 if decide (0 < (b5.dQ.length : Int)) then
 (F56 n b5.dQ).bind fun x8 =>
 (app gI [x8]).bind fun x11 =>
 B3 n x11 kb
 else
 B3 n gI kb
theorem ada (n : Nat) : K3 (A59 [1, 1, 1, 1, 1]) aeW (B2 n) := fun gI kb b5 r h =>
 ie h (fun c0 h =>
 be h fun x8 hx8 h =>
 be h fun x11 cm h =>
 ra (adb n h) [(2, .eqv (R64.az b5.dQ)), (0, eb c0), (3, .call (ZB n hx8) [] [] [(59, 200000)]), (0, R64.frz 59 x8), (0, .norm [(59, .one (.sl 0 0))] []), (1, R42.Ec cm (List.cons_ne_nil _ _) (R42.srW [x8])), (1, R42.frz 61 x11)]) (fun c0 h =>
 ra (adb n h) [(2, .eqv (R64.az b5.dQ)), (0, eb c0)])
def B1 (n : Nat) (iX : List (List ae)) (i8 : Int) (A7 : Bool) (b5 : aw) : Option ((List (List ae)) × Bool) :=
 (kR iX i8 i8).bind fun x4 =>
 (cut iX (some i8) none).bind fun x8 =>
 if A7 then
 (cut iX (some (w64 (i8 + 1))) none).bind fun x16 =>
 B2 n x4 x16 b5
 else
 B2 n x4 x8 b5
theorem acZ (n : Nat) : K4 (A59 [1, 1, 1]) aeV (B1 n) := fun iX i8 A7 b5 r h =>
 be h fun x4 hx4 h =>
 be h fun x8 hx8 h =>
 ie h (fun c0 g0 => by subst c0; exact (
 be g0 fun x16 cU g0 =>
 ra (ada n g0) [(3, R42.kR hx4), (2, R42.cut hx8), (6, R42.cut cU)])) (fun c0 g0 => by subst c0; exact (
 ra (ada n g0) [(3, R42.kR hx4), (2, R42.cut hx8)]))
def SC (n : Nat) (s0 : ag) (iX : List (List ae)) (c2 : aw) : Option ((List (List ae)) × Bool) :=
 (F98 n s0 c2).bind fun x8 =>
 (F97 n iX x8 s0 c2).bind fun x11 =>
 if !(x11.2.1 == (decide (0 < (x11.2.2.2.cB.length : Int)))) then
 some ([], false)
 else
 if x11.2.1 then
 if !(true == (decide (0 < (x11.2.2.2.cB.length : Int)))) then
 some ([], false)
 else
 (idx iX x11.1).bind fun x29 =>
 (F96 n x29 x11.2.2.2.cB).bind fun x34 =>
 if !x34 then
 some ([], false)
 else
 B1 n iX x11.1 true x11.2.2.2
 else
 if !(false == (decide (0 < (x11.2.2.2.cB.length : Int)))) then
 some ([], false)
 else
 B1 n iX x11.1 false x11.2.2.2
theorem ajm (n : Nat) : K3 (A59 []) TN (SC n) := fun s0 iX c2 r h =>
 be h fun x8 hx8 h =>
 be h fun x11 cm h =>
 ie h (fun c0 h =>
 rr h [(7, .call (DP n hx8) [] [] []), (1, .call (DQ n cm) [] [(3, 100200), (5, 100201)] []), (8, .eqv (R64.az x11.2.2.2.cB)), (1, eb c0), (4, .norm [(6, .one (.sl 43 1))] [])]) (fun c0 h =>
 ie h (fun c1 h =>
 ie h (fun c2_ h =>
 rr h [(7, .call (DP n hx8) [] [] []), (1, .call (DQ n cm) [] [(3, 100200), (5, 100201)] []), (2, eb c1), (5, .eqv (R64.az x11.2.2.2.cB)), (1, eb c2_), (4, .norm [(6, .one (.sl 43 1))] [])]) (fun c2_ h =>
 be h fun x29 vF h =>
 be h fun x34 tP h =>
 ie h (fun c3 h =>
 rr h [(7, .call (DP n hx8) [] [] []), (1, .call (DQ n cm) [] [(3, 100200), (5, 100201)] []), (2, eb c1), (5, .eqv (R64.az x11.2.2.2.cB)), (1, eb c2_), (5, R42.idx vF), (3, .call (Zy n tP) [] [] []), (0, eb c3), (4, .norm [(6, .one (.sl 43 1))] [])]) (fun c3 h =>
 ra (acZ n h) [(7, .call (DP n hx8) [] [] []), (1, .call (DQ n cm) [] [(3, 100200), (5, 100201)] []), (2, eb c1), (5, .eqv (R64.az x11.2.2.2.cB)), (1, eb c2_), (5, R42.idx vF), (3, .call (Zy n tP) [] [] []), (0, eb c3)]))) (fun c1 h =>
 ie h (fun c2_ h =>
 rr h [(7, .call (DP n hx8) [] [] []), (1, .call (DQ n cm) [] [(3, 100200), (5, 100201)] []), (2, eb c1), (5, .eqv (R64.az x11.2.2.2.cB)), (1, eb c2_), (4, .norm [(6, .one (.sl 43 1))] [])]) (fun c2_ h =>
 ra (acZ n h) [(7, .call (DP n hx8) [] [] []), (1, .call (DQ n cm) [] [(3, 100200), (5, 100201)] []), (2, eb c1), (5, .eqv (R64.az x11.2.2.2.cB)), (1, eb c2_)])))
def F59 (n:Nat) (s0:ag) (iX:List (List ae)) (c2:aw):Option ((List (List ae))×Bool):=SC n s0 iX c2
theorem ZA (n:Nat):K3 C59 TN (F59 n):=fun _ _ _ _ h=>ca (X:=x59) (ajm n h)
def abw (r:(aj×Int)):AV:=.tup [.agg (cP r.1),.int .i64 r.2]
def Wb (r:(aj×Int)):List (Nat×Bx):= []
def x20:=fx E0 Tryz.f20 [] []
def A20:=Ax x20 abw Wb
def C20:=Cx E0 20 abw Wb
def IB (aN:Int) (bK:List aw) (t12:Int) (t35:List (List (List ae))) (t36 t37:Int) (t42:List (List ae)) (t43 t44:Int) (b4:ag) (b8 b11:aj) (b32:List (List (List ae))) (b59:List (List ae)):LS:=⟨[(1,.int .i64 aN),(3,.slice 104 3 (gw bK)),(4,.loc 4 0),(8,.loc 8 0),(11,.loc 11 0),(12,.int .i64 t12),(35,.slice 66 1 (cY t35)),(36,.int .i64 t36),(37,.int .i64 t37),(42,.slice 43 1 (cr t42)),(43,.int .i64 t43),(44,.int .i64 t44)],[(4,.flat 26 (bf b4)),(8,.flat 33 [.aR]),(11,.flat 33 [.ms 32 1 0 b32.length]),(32,.hole 66 1 ((sD b32).set (0+(t12).toNat) [.undef]) ((0+(t12).toNat)*1+0) (.ms 59 1 0 b59.length)),(59,.rows true 43 1 (cr b59))]⟩
def IA (aN:Int) (bK:List aw) (t12:Int) (t35:List (List (List ae))) (t36 t37:Int) (b4:ag) (b8 b11:aj) (b32:List (List (List ae))) (b59:List (List ae)):LS:=⟨[(1,.int .i64 aN),(3,.slice 104 3 (gw bK)),(4,.loc 4 0),(8,.loc 8 0),(11,.loc 11 0),(12,.int .i64 t12),(35,.slice 66 1 (cY t35)),(36,.int .i64 t36),(37,.int .i64 t37)],[(4,.flat 26 (bf b4)),(8,.flat 33 [.aR]),(11,.flat 33 [.ms 32 1 0 b32.length]),(32,.hole 66 1 ((sD b32).set (0+(t12).toNat) [.undef]) ((0+(t12).toNat)*1+0) (.ms 59 1 0 b59.length)),(59,.rows true 43 1 (cr b59))]⟩
def z9 (aN:Int) (bK:List aw) (t35:List (List (List ae))) (t36 t37:Int) (b4:ag) (b8 b11:aj) (b32:List (List (List ae))):LS:=⟨[(1,.int .i64 aN),(3,.slice 104 3 (gw bK)),(4,.loc 4 0),(8,.loc 8 0),(11,.loc 11 0),(35,.slice 66 1 (cY t35)),(36,.int .i64 t36),(37,.int .i64 t37)],[(4,.flat 26 (bf b4)),(8,.flat 33 [.aR]),(11,.flat 33 [.ms 32 1 0 b32.length]),(32,.rows false 66 1 (sD b32))]⟩
def Iz (aN mZ:Int) (t65:List aw) (t66 t67:Int) (b4:ag) (b8 b11:aj) (b32:List (List (List ae))):LS:=⟨[(1,.int .i64 aN),(4,.loc 4 0),(8,.loc 8 0),(11,.loc 11 0),(16,.int .i64 mZ),(65,.slice 104 3 (gw t65)),(66,.int .i64 t66),(67,.int .i64 t67)],[(4,.flat 26 (bf b4)),(8,.flat 33 [.aR]),(11,.flat 33 [.ms 32 1 0 b32.length]),(32,.rows false 66 1 (cY b32))]⟩
def Iy (b8 b11:aj) (b32:List (List (List ae))):LS:=⟨[(8,.loc 8 0),(11,.loc 11 0)],[(8,.flat 33 [.aR]),(11,.flat 33 [.ms 32 1 0 b32.length]),(32,.rows false 66 1 (cY b32))]⟩
def Ix (aN:Int) (bK:List aw) (b4:ag) (b8 b11:aj) (b32:List (List (List ae))):LS:=⟨[(1,.int .i64 aN),(3,.slice 104 3 (gw bK)),(4,.loc 4 0),(8,.loc 8 0),(11,.loc 11 0)],[(4,.flat 26 (bf b4)),(8,.flat 33 [.aR]),(11,.flat 33 [.ms 32 1 0 b32.length]),(32,.rows false 66 1 (sD b32))]⟩
def Uq (s0:ag) (aN:Int) (st2:aj) (bK:List aw):LS:=⟨[(0,.agg (bf s0)),(1,.int .i64 aN),(2,.agg (cP st2)),(3,.slice 104 3 (gw bK))],[]⟩
def Ha (k_1 : Int → (List aw) → Int → (List (List (List ae))) → Int → Int → ag → aj → aj → (List (List (List ae))) → (List (List ae)) → Option (aj × Int)) (back : Int → (List aw) → Int → (List (List (List ae))) → Int → Int → (List (List ae)) → Int → Int → ag → aj → aj → (List (List (List ae))) → (List (List ae)) → Option (aj × Int)) (n : Nat) (aN : Int) (bK : List aw) (t12 : Int) (t35 : List (List (List ae))) (t36 t37 : Int) (t42 : List (List ae)) (t43 t44 : Int) (b4 : ag) (b8 b11 : aj) (b32 : List (List (List ae))) (b59 : List (List ae)) : Option (aj × Int) :=
 if decide (t44 < t43) then
 (idx t42 t44).bind fun x2 =>
 (bnd b32.length t12).bind fun x12 =>
 (F56 n x2).bind fun x16 =>
 (app b59 [x16]).bind fun x19 =>
 (bnd b32.length t12).bind fun x21 =>
 (bnd b32.length t12).bind fun x23 =>
 back aN bK t12 t35 t36 t37 t42 t43 (w64 (t44 + 1)) b4 (aj.mk []) (aj.mk b32) b32 x19
 else
 k_1 aN bK t12 t35 t36 t37 b4 (aj.mk []) (aj.mk b32) b32 b59
theorem akv {k_1} (aK : K11 (A20 [1, 1, 1, 0, 0, 1, 0, 1, 1, 1]) IA k_1) {back} (aE : K14 (A20 [0, 1, 1, 0, 0, 1, 1, 0, 0, 1, 0, 1, 1, 1]) IB back) (n : Nat) : K14 (A20 [0, 1, 1, 0, 0, 1, 1, 0, 0, 1, 0, 1, 1, 1]) IB (Ha k_1 back n) := fun aN bK t12 t35 t36 t37 t42 t43 t44 b4 b8 b11 b32 b59 r h =>
 ie h (fun c0 h =>
 be h fun x2 hx2 h =>
 be h fun x12 cM h =>
 be h fun x16 cU h =>
 be h fun x19 lI h =>
 be h fun x21 j4 h =>
 be h fun x23 fa h =>
 ra (aE h) [(0, eb c0), (0, R42.idx hx2), (8, WZ cM), (2, .call (bC.pm (.sl 0 0) (cd (e := 65) (z := true) (Q := aH x16) (ZB n cU) (R64.len x16))) [] [] []), (1, R42.app lI (R42.srW [x16])), (0, WZ j4), (0, Lj.hst1 (fun _ => rfl) fa)]) (fun c0 h =>
 ra (aK h) [(0, eb c0)])
def xP (k_1:Int→(List aw)→Int→(List (List (List ae)))→Int→Int→ag→aj→aj→(List (List (List ae)))→(List (List ae))→Option (aj×Int)):Nat→Int→(List aw)→Int→(List (List (List ae)))→Int→Int→(List (List ae))→Int→Int→ag→aj→aj→(List (List (List ae)))→(List (List ae))→Option (aj×Int)
 |0,_,_,_,_,_,_,_,_,_,_,_,_,_,_=>none
 |n+1,aN,bK,t12,t35,t36,t37,t42,t43,t44,b4,b8,b11,b32,b59=>Ha k_1 (xP k_1 n) n aN bK t12 t35 t36 t37 t42 t43 t44 b4 b8 b11 b32 b59
theorem aco {k_1} (aK:K11 (A20 [1,1,1,0,0,1,0,1,1,1]) IA k_1):∀n:Nat,K14 (A20 [0,1,1,0,0,1,1,0,0,1,0,1,1,1]) IB (xP k_1 n)
 |0=>fun _ _ _ _ _ _ _ _ _ _ _ _ _ _ _ h=>nz h
 |n+1=>fun _ _ _ _ _ _ _ _ _ _ _ _ _ _ _ h=>akv aK (aco aK n) n h
def G9 (k_2 : Int → (List aw) → (List (List (List ae))) → Int → Int → ag → aj → aj → (List (List (List ae))) → Option (aj × Int)) (n : Nat) (aN : Int) (bK : List aw) (t12 : Int) (t35 : List (List (List ae))) (t36 t37 : Int) (b4 : ag) (b8 b11 : aj) (b32 : List (List (List ae))) (b59 : List (List ae)) : Option (aj × Int) :=
 (setAt b32 (0 + (t12).toNat) b59).bind fun z1 =>
 k_2 aN bK t35 t36 (w64 (t37 + 1)) b4 (aj.mk []) (aj.mk z1) z1
theorem aku {k_2} (cR : K9 (A20 [0, 1, 0, 1, 1, 1]) z9 k_2) (n : Nat) : K11 (A20 [1, 1, 1, 0, 0, 1, 0, 1, 1, 1]) IA (G9 k_2 n) := fun aN bK t12 t35 t36 t37 b4 b8 b11 b32 b59 r h =>
 be h fun z1 hz1 h =>
 ra (cR h) [(0, R42.frz 59 b59), (0, Lj.clo1 32 (.sln 43 1 (cr b59)) hz1 rfl), (2, .beq 11 (congrArg (fun n_ => (Bx.flat 33 [.ms 32 1 0 n_])) ((eP hz1).symm)))]
def G8 (k_5 : Int → (List aw) → ag → aj → aj → (List (List (List ae))) → Option (aj × Int)) (back : Int → (List aw) → (List (List (List ae))) → Int → Int → ag → aj → aj → (List (List (List ae))) → Option (aj × Int)) (n : Nat) (aN : Int) (bK : List aw) (t35 : List (List (List ae))) (t36 t37 : Int) (b4 : ag) (b8 b11 : aj) (b32 : List (List (List ae))) : Option (aj × Int) :=
 if decide (t37 < t36) then
 (idx t35 t37).bind fun x3 =>
 (Aw b32 (0 + (t37).toNat)).bind fun u8_ =>
 xP (G9 back n) n aN bK t37 t35 t36 t37 x3 (x3.length : Int) 0 b4 (aj.mk []) (aj.mk b32) b32 []
 else
 k_5 aN bK b4 (aj.mk []) (aj.mk b32) b32
theorem akt {k_5} (fO : K6 (A20 [1, 1, 1, 1]) Ix k_5) {back} (aE : K9 (A20 [0, 1, 0, 1, 1, 1]) z9 back) (n : Nat) : K9 (A20 [0, 1, 0, 1, 1, 1]) z9 (G8 k_5 back n) := fun aN bK t35 t36 t37 b4 b8 b11 b32 r h =>
 ie h (fun c0 h =>
 be h fun x3 hx3 h =>
 be h fun u8_ hu8_ h =>
 ra (aco (aku aE n) n h) [(0, eb c0), (1, R66.idx hx3), (3, Lj.opn1 32 (PL hu8_) rfl), (0, .norm [] [(32, .hol .nl)]), (1, .eqv (R42.az x3)), (1, .born [] [(32, 0)] 59 true 43 1)]) (fun c0 h =>
 ra (fO h) [(0, eb c0)])
def uE (k_5:Int→(List aw)→ag→aj→aj→(List (List (List ae)))→Option (aj×Int)):Nat→Int→(List aw)→(List (List (List ae)))→Int→Int→ag→aj→aj→(List (List (List ae)))→Option (aj×Int)
 |0,_,_,_,_,_,_,_,_,_=>none
 |n+1,aN,bK,t35,t36,t37,b4,b8,b11,b32=>G8 k_5 (uE k_5 n) n aN bK t35 t36 t37 b4 b8 b11 b32
theorem acn {k_5} (fO:K6 (A20 [1,1,1,1]) Ix k_5):∀n:Nat,K9 (A20 [0,1,0,1,1,1]) z9 (uE k_5 n)
 |0=>fun _ _ _ _ _ _ _ _ _ _ h=>nz h
 |n+1=>fun _ _ _ _ _ _ _ _ _ _ h=>akt fO (acn fO n) n h
def G7 (k_4 : aj → aj → (List (List (List ae))) → Option (aj × Int)) (back : Int → Int → (List aw) → Int → Int → ag → aj → aj → (List (List (List ae))) → Option (aj × Int)) (n : Nat) (aN mZ : Int) (t65 : List aw) (t66 t67 : Int) (b4 : ag) (b8 b11 : aj) (b32 : List (List (List ae))) : Option (aj × Int) :=
 if decide (t67 < t66) then
 (idx t65 t67).bind fun x2 =>
 (F58 n b4 aN x2).bind fun x10 =>
 if !x10 then
 some ((aj.mk []), 71)
 else
 (bnd b32.length x2.ax).bind fun x18 =>
 (b32[0 + x18]?).bind fun x20_ =>
 (F59 n b4 x20_ x2).bind fun x23 =>
 if !x23.2 then
 some ((aj.mk []), 81)
 else
 (bnd b32.length x2.ax).bind fun x39 =>
 (b32[0 + x39]?).bind fun x41 =>
 if decide (512 < (w64 (mZ + (w64 ((x23.1.length : Int) - (x41.length : Int)))))) then
 some ((aj.mk []), 2)
 else
 (bnd b32.length x2.ax).bind fun x54 =>
 (b32[0 + x54]?).bind fun x56 =>
 (setAt b32 (0 + x54) x23.1).bind fun z57 =>
 back aN (w64 (mZ + (w64 ((x23.1.length : Int) - (x41.length : Int))))) t65 t66 (w64 (t67 + 1)) b4 (aj.mk []) (aj.mk z57) z57
 else
 k_4 (aj.mk []) (aj.mk b32) b32
theorem aks {k_4} (iT : K3 (A20 [1, 1, 1, 1, 1, 1]) Iy k_4) {back} (aE : K9 (A20 [0, 1, 0, 1, 1, 1, 1, 1]) Iz back) (n : Nat) : K9 (A20 [0, 1, 0, 1, 1, 1, 1, 1]) Iz (G7 k_4 back n) := fun aN mZ t65 t66 t67 b4 b8 b11 b32 r h =>
 ie h (fun c0 h =>
 be h fun x2 hx2 h =>
 be h fun x10 dr h =>
 ie h (fun c1 h =>
 rr h [(0, eb c0), (0, sq.idx hx2), (6, .call (QS n dr) [] [] []), (0, eb c1), (3, .norm [] [(8, .flat [.sl 66 1])])]) (fun c1 h =>
 be h fun x18 gS h =>
 be h fun x20_ gR h =>
 be h fun x23 fa h =>
 ie h (fun c2 h =>
 rr h [(0, eb c0), (0, sq.idx hx2), (6, .call (QS n dr) [] [] []), (0, eb c1), (5, fu gS), (0, R66.row gR), (1, .call (ZA n fa) [] [] []), (6, eb c2), (3, .norm [] [(8, .flat [.sl 66 1])])]) (fun c2 h =>
 be h fun x39 zd h =>
 be h fun x41 hx41 h =>
 ie h (fun c3 h =>
 rr h [(0, eb c0), (0, sq.idx hx2), (6, .call (QS n dr) [] [] []), (0, eb c1), (5, fu gS), (0, R66.row gR), (1, .call (ZA n fa) [] [] []), (6, eb c2), (2, .eqv (R42.az x23.1)), (4, fu zd), (0, R66.row hx41), (0, .eqv (R42.az x41)), (4, eb c3), (3, .norm [] [(8, .flat [.sl 66 1])])]) (fun c3 h =>
 be h fun x54 J7 h =>
 be h fun x56 Ze h =>
 be h fun z57 hz57 h =>
 ra (aE h) [(0, eb c0), (0, sq.idx hx2), (6, .call (QS n dr) [] [] []), (0, eb c1), (5, fu gS), (0, R66.row gR), (1, .call (ZA n fa) [] [] []), (6, eb c2), (2, .eqv (R42.az x23.1)), (4, fu zd), (0, R66.row hx41), (0, .eqv (R42.az x41)), (4, eb c3), (5, fu J7), (0, R66.sto 0 [.slice 43 1 (cr x23.1)] Ze hz57 (by kernel_rfl)), (2, .beq 11 (congrArg (fun n_ => (Bx.flat 33 [.ms 32 1 0 n_])) ((eP hz57).symm)))])))) (fun c0 h =>
 ra (iT h) [(0, eb c0)])
def xO (k_4:aj→aj→(List (List (List ae)))→Option (aj×Int)):Nat→Int→Int→(List aw)→Int→Int→ag→aj→aj→(List (List (List ae)))→Option (aj×Int)
 |0,_,_,_,_,_,_,_,_,_=>none
 |n+1,aN,mZ,t65,t66,t67,b4,b8,b11,b32=>G7 k_4 (xO k_4 n) n aN mZ t65 t66 t67 b4 b8 b11 b32
theorem acm {k_4} (iT:K3 (A20 [1,1,1,1,1,1]) Iy k_4):∀n:Nat,K9 (A20 [0,1,0,1,1,1,1,1]) Iz (xO k_4 n)
 |0=>fun _ _ _ _ _ _ _ _ _ _ h=>nz h
 |n+1=>fun _ _ _ _ _ _ _ _ _ _ h=>aks iT (acm iT n) n h
def G6 (n : Nat) (b8 b11 : aj) (b32 : List (List (List ae))) : Option (aj × Int) :=
 some ((aj.mk b32), 0)
theorem akr (n : Nat) : K3 (A20 [1, 1, 1, 1, 1, 1]) Iy (G6 n) := fun b8 b11 b32 r h =>
 rr h [(3, R66.frz 32 b32)]
def yc (n : Nat) (aN : Int) (bK : List aw) (b4 : ag) (b8 b11 : aj) (b32 : List (List (List ae))) : Option (aj × Int) :=
 (F57 n (aj.mk b32)).bind fun x2 =>
 xO (G6 n) n aN x2 bK (bK.length : Int) 0 b4 (aj.mk []) (aj.mk b32) b32
theorem akq (n : Nat) : K6 (A20 [1, 1, 1, 1]) Ix (yc n) := fun aN bK b4 b8 b11 b32 r h =>
 be h fun x2 hx2 h =>
 ra (acm (akr n) n h) [(0, .norm [] [(32, .rws [.sl 0 0])]), (0, .beq 32 (congrArg (fun q_ => Bx.rows false 66 1 q_) (Lj.rws R66 (ms := [.sl 0 0]) (fun _ => rfl) b32))), (1, .call (bC.ahI (k := 700000) (z := false) (e := 66) (s := 1) (Q := cY b32) (n := b32.length) (xs := [.agg [.ms 700000 1 0 b32.length]]) (QT n hx2) (by kernel_rfl) (R66.len b32) (by kernel_rfl) (by kernel_rfl) (by kernel_rfl)) [] [(32, 700000)] []), (2, .eqv (sq.az bK))]
def S6 (n : Nat) (s0 : ag) (aN : Int) (st2 : aj) (bK : List aw) : Option (aj × Int) :=
 (F28 n s0 aN st2).bind fun x8 =>
 if x8 != 0 then
 some ((aj.mk []), x8)
 else
 (l9 (st2.ah.length : Int) ([] : (List (List ae)))).bind fun x16 =>
 uE (yc n) n aN bK st2.ah (st2.ah.length : Int) 0 s0 (aj.mk []) (aj.mk x16) x16
theorem akp (n : Nat) : K4 (A20 []) Uq (S6 n) := fun s0 aN st2 bK r h =>
 be h fun x8 hx8 h =>
 ie h (fun c0 h =>
 rr h [(7, .call (QX n hx8) [] [] []), (2, eb c0), (4, .norm [] [(8, .flat [.sl 66 1])])]) (fun c0 h =>
 be h fun x16 cU h =>
 ra (acn (akq n) n h) [(7, .call (QX n hx8) [] [] []), (2, eb c0), (2, .eqv (R66.az st2.ah)), (0, Lj.made [.aR] [.sn 43 1] cU (by kernel_rfl)), (0, .seq 32 (congrArg (fun n_ => (AV.ms 32 1 0 n_)) ((I7 cU)))), (5, .eqv (R66.az st2.ah))])
def F20 (n:Nat) (s0:ag) (aN:Int) (st2:aj) (bK:List aw):Option (aj×Int):=S6 n s0 aN st2 bK
theorem ZE (n:Nat):K4 C20 Uq (F20 n):=fun _ _ _ _ _ h=>ca (X:=x20) (akp n h)
def abt (r:Bool):AV:=.bool r
def V8 (r:Bool):List (Nat×Bx):= []
def x23:=fx E0 Tryz.f23 [] []
def A23:=Ax x23 abt V8
def C23:=Cx E0 23 abt V8
def Iu (l8:List ae) (t7:List (List ae)) (t8 t9:Int):LS:=⟨[(1,.slice 65 3 (aH l8)),(7,.slice 43 1 (cr t7)),(8,.int .i64 t8),(9,.int .i64 t9)],[]⟩
def Is:LS:=⟨[],[]⟩
def Um (cJ:List (List ae)) (l8:List ae):LS:=⟨[(0,.slice 43 1 (cr cJ)),(1,.slice 65 3 (aH l8))],[]⟩
def S4 (k_1 : Option Bool) (back : (List ae) → (List (List ae)) → Int → Int → Option Bool) (n : Nat) (l8 : List ae) (t7 : List (List ae)) (t8 t9 : Int) : Option Bool :=
 if decide (t9 < t8) then
 (idx t7 t9).bind fun x2 =>
 (F22 n x2 l8).bind fun x8 =>
 if x8 == 0 then
 some true
 else
 back l8 t7 t8 (w64 (t9 + 1))
 else
 k_1
theorem akk {k_1} (aK : K0 (A23 [1, 1]) Is k_1) {back} (aE : K4 (A23 [0, 1, 0, 1]) Iu back) (n : Nat) : K4 (A23 [0, 1, 0, 1]) Iu (S4 k_1 back n) := fun l8 t7 t8 t9 r h =>
 ie h (fun c0 h =>
 be h fun x2 hx2 h =>
 be h fun x8 hx8 h =>
 ie h (fun c1 h =>
 rr h [(0, eb c0), (0, R42.idx hx2), (4, .call (mY n hx8) [] [] []), (0, eb c1)]) (fun c1 h =>
 ra (aE h) [(0, eb c0), (0, R42.idx hx2), (4, .call (mY n hx8) [] [] []), (0, eb c1)])) (fun c0 h =>
 ra (aK h) [(0, eb c0)])
def BN (k_1:Option Bool):Nat→(List ae)→(List (List ae))→Int→Int→Option Bool
 |0,_,_,_,_=>none
 |n+1,l8,t7,t8,t9=>S4 k_1 (BN k_1 n) n l8 t7 t8 t9
theorem acj {k_1} (aK:K0 (A23 [1,1]) Is k_1):∀n:Nat,K4 (A23 [0,1,0,1]) Iu (BN k_1 n)
 |0=>fun _ _ _ _ _ h=>nz h
 |n+1=>fun _ _ _ _ _ h=>akk aK (acj aK n) n h
def S3 (n : Nat) : Option Bool :=
 some false
theorem akj (n : Nat) : K0 (A23 [1, 1]) Is (S3 n) := fun r h =>
 rr h []
def S2 (n : Nat) (cJ : List (List ae)) (l8 : List ae) : Option Bool :=
 BN (S3 n) n l8 cJ (cJ.length : Int) 0
theorem aki (n : Nat) : K2 (A23 []) Um (S2 n) := fun cJ l8 r h =>
 ra (acj (akj n) n h) [(2, .eqv (R42.az cJ))]
def F23 (n:Nat) (cJ:List (List ae)) (l8:List ae):Option Bool:=S2 n cJ l8
theorem ev23 (n:Nat):K2 C23 Um (F23 n):=fun _ _ _ h=>ca (X:=x23) (aki n h)
def res5 (r:Bool):AV:=.bool r
def abE (r:Bool):List (Nat×Bx):= []
def x5:=fx E0 Tryz.f5 [] []
def A5:=Ax x5 res5 abE
def C5:=Cx E0 5 res5 abE
def Pb (l6 t76:List ar) (t77 t78:Int) (t107:Bool) (t112 t114 t119:Int) (t121:List au) (t123:Int) (t124 t125:au) (t126:List bl) (t127:Int) (t133:List Int) (t134 t135:Int) (b4:ag) (b5 b10:aj) (b13:ar) (iy j6 jK:List ae):LS:=⟨[(4,.loc 4 0),(5,.loc 5 0),(6,.slice 55 5 (cC l6)),(10,.loc 10 0),(13,.loc 13 0),(16,.ms 309900 3 0 iy.length),(18,.ms 131 3 0 j6.length),(76,.slice 55 5 (cC t76)),(77,.int .i64 t77),(78,.int .i64 t78),(107,.bool t107),(108,.bool false),(111,.ms 309900 3 0 iy.length),(112,.int .i64 t112),(113,.ms 308900 3 0 jK.length),(114,.int .i64 t114),(115,.bool false),(118,.ms 308900 3 0 jK.length),(119,.int .i64 t119),(120,.loc 4 1),(121,.slice 63 5 (cZ t121)),(122,.loc 13 1),(123,.int .i64 t123),(124,.imm (ka t124)),(125,.imm [.slice 77 2 (jO t125.aq),.int .i64 t125.aA,.slice 80 2 (ke t125.bQ),.slice 84 13 (fZ t125.dk)]),(126,.slice 77 2 (jO t126)),(127,.int .i64 t127),(128,.bool false),(133,.slice 3 1 (bj t133)),(134,.int .i64 t134),(135,.int .i64 t135)],[(4,.flat 26 (bf b4)),(5,.flat 33 (cP b5)),(10,.flat 33 (cP b10)),(13,.flat 55 (kI b13)),(131,.rows true 65 3 (aH j6)),(308900,.rows true 65 3 (aH jK)),(309900,.rows true 65 3 (aH iy))]⟩
def Pa (l6 t76:List ar) (t77 t78:Int) (t107:Bool) (t112 t114 t119:Int) (t121:List au) (t123:Int) (t124 t125:au) (t126:List bl) (t127:Int) (b4:ag) (b5 b10:aj) (iy j6 jK:List ae) (b13:ar):LS:=⟨[(4,.loc 4 0),(5,.loc 5 0),(6,.slice 55 5 (cC l6)),(10,.loc 10 0),(16,.ms 309900 3 0 iy.length),(18,.ms 131 3 0 j6.length),(76,.slice 55 5 (cC t76)),(77,.int .i64 t77),(78,.int .i64 t78),(107,.bool t107),(108,.bool false),(111,.ms 309900 3 0 iy.length),(112,.int .i64 t112),(113,.ms 308900 3 0 jK.length),(114,.int .i64 t114),(115,.bool false),(118,.ms 308900 3 0 jK.length),(119,.int .i64 t119),(120,.loc 4 1),(121,.slice 63 5 (cZ t121)),(122,.loc 13 1),(123,.int .i64 t123),(124,.imm (ka t124)),(125,.imm [.slice 77 2 (jO t125.aq),.int .i64 t125.aA,.slice 80 2 (ke t125.bQ),.slice 84 13 (fZ t125.dk)]),(126,.slice 77 2 (jO t126)),(127,.int .i64 t127),(128,.bool false)],[(4,.flat 26 (bf b4)),(5,.flat 33 (cP b5)),(10,.flat 33 (cP b10)),(13,.flat 55 (kI b13)),(131,.rows true 65 3 (aH j6)),(308900,.rows true 65 3 (aH jK)),(309900,.rows true 65 3 (aH iy))]⟩
def aar (l6 t76:List ar) (t77 t78:Int) (b4:ag) (b5 b10:aj):LS:=⟨[(4,.loc 4 0),(5,.loc 5 0),(6,.slice 55 5 (cC l6)),(10,.loc 10 0),(76,.slice 55 5 (cC t76)),(77,.int .i64 t77),(78,.int .i64 t78)],[(4,.flat 26 (bf b4)),(5,.flat 33 (cP b5)),(10,.flat 33 (cP b10))]⟩
def FA (l6 t76:List ar) (t77 t78:Int) (b4:ag) (b5 b10:aj):LS:=⟨[(4,.loc 4 0),(5,.loc 5 0),(6,.slice 55 5 (cC l6)),(10,.loc 10 0),(76,.slice 55 5 (cC t76)),(77,.int .i64 t77),(78,.int .i64 t78)],[(4,.flat 26 (bf b4)),(5,.flat 33 (cP b5)),(10,.flat 33 (cP b10))]⟩
def O9 (l6:List ar) (t21:Int) (r24:List ae) (iD:Bool) (t176:List (List (List ae))) (t177 t178:Int) (t183:List (List ae)) (t184 t185:Int) (t189:List ar) (t190 t191:Int) (b10:aj):LS:=⟨[(6,.slice 55 5 (cC l6)),(10,.loc 10 0),(21,.int .i64 t21),(24,.slice 65 3 (aH r24)),(25,.bool iD),(176,.slice 66 1 (cY t176)),(177,.int .i64 t177),(178,.int .i64 t178),(183,.slice 43 1 (cr t183)),(184,.int .i64 t184),(185,.int .i64 t185),(189,.slice 55 5 (cC t189)),(190,.int .i64 t190),(191,.int .i64 t191)],[(10,.flat 33 (cP b10))]⟩
def O8 (l6:List ar) (t21:Int) (r24:List ae) (iD:Bool) (t176:List (List (List ae))) (t177 t178:Int) (t183:List (List ae)) (t184 t185:Int) (b10:aj):LS:=⟨[(6,.slice 55 5 (cC l6)),(10,.loc 10 0),(21,.int .i64 t21),(24,.slice 65 3 (aH r24)),(25,.bool iD),(176,.slice 66 1 (cY t176)),(177,.int .i64 t177),(178,.int .i64 t178),(183,.slice 43 1 (cr t183)),(184,.int .i64 t184),(185,.int .i64 t185)],[(10,.flat 33 (cP b10))]⟩
def Fz (l6:List ar) (t21:Int) (t176:List (List (List ae))) (t177 t178:Int) (t183:List (List ae)) (t184 t185:Int) (b10:aj):LS:=⟨[(6,.slice 55 5 (cC l6)),(10,.loc 10 0),(21,.int .i64 t21),(176,.slice 66 1 (cY t176)),(177,.int .i64 t177),(178,.int .i64 t178),(183,.slice 43 1 (cr t183)),(184,.int .i64 t184),(185,.int .i64 t185)],[(10,.flat 33 (cP b10))]⟩
def O7 (l6:List ar) (t176:List (List (List ae))) (t177 t178:Int) (b10:aj):LS:=⟨[(6,.slice 55 5 (cC l6)),(10,.loc 10 0),(176,.slice 66 1 (cY t176)),(177,.int .i64 t177),(178,.int .i64 t178)],[(10,.flat 33 (cP b10))]⟩
def Fy (l6:List ar) (t176:List (List (List ae))) (t177 t178:Int) (b10:aj):LS:=⟨[(6,.slice 55 5 (cC l6)),(10,.loc 10 0),(176,.slice 66 1 (cY t176)),(177,.int .i64 t177),(178,.int .i64 t178)],[(10,.flat 33 (cP b10))]⟩
def O6:LS:=⟨[],[]⟩
def H5 (l6:List ar) (b5 b10:aj):LS:=⟨[(5,.loc 5 0),(6,.slice 55 5 (cC l6)),(10,.loc 10 0)],[(5,.flat 33 (cP b5)),(10,.flat 33 (cP b10))]⟩
def H4 (gJ:List Int):LS:=⟨[(0,.slx 5 1 (nr gJ))],[]⟩
def SB (k_1 : (List ar) → (List ar) → Int → Int → Bool → Int → Int → Int → (List au) → Int → au → au → (List bl) → Int → ag → aj → aj → (List ae) → (List ae) → (List ae) → ar → Option Bool) (back : (List ar) → (List ar) → Int → Int → Bool → Int → Int → Int → (List au) → Int → au → au → (List bl) → Int → (List Int) → Int → Int → ag → aj → aj → ar → (List ae) → (List ae) → (List ae) → Option Bool) (n : Nat) (l6 t76 : List ar) (t77 t78 : Int) (t107 : Bool) (t112 t114 t119 : Int) (t121 : List au) (t123 : Int) (t124 t125 : au) (t126 : List bl) (t127 : Int) (t133 : List Int) (t134 t135 : Int) (b4 : ag) (b5 b10 : aj) (b13 : ar) (iy j6 jK : List ae) : Option Bool :=
 if decide (t135 < t134) then
 (idx t133 t135).bind fun x3 =>
 (idx b13.aV t135).bind fun x13 =>
 (bnd j6.length x3).bind fun x16 =>
 (j6[0 + x16]?).bind fun x18 =>
 (setAt j6 (0 + x16) x13).bind fun z19 =>
 back l6 t76 t77 t78 t107 t112 t114 t119 t121 t123 t124 t125 t126 t127 t133 t134 (w64 (t135 + 1)) b4 b5 b10 b13 iy z19 jK
 else
 k_1 l6 t76 t77 t78 t107 t112 t114 t119 t121 t123 t124 t125 t126 t127 b4 b5 b10 iy j6 jK b13
theorem b5_0 {k_1} (aK : K21 (A5 [1, 1, 1, 1, 1, 1, 1, 0, 1, 1, 1, 1, 0, 0, 1, 1, 0, 0, 1, 0, 1, 1, 1, 1, 1, 1, 1, 1, 1, 1]) Pa k_1) {back} (aE : K24 (A5 [0, 1, 0, 1, 1, 1, 1, 1, 1, 0, 1, 1, 1, 1, 0, 0, 1, 1, 0, 0, 1, 0, 1, 1, 1, 1, 1, 1, 1, 1, 1, 1]) Pb back) (n : Nat) : K24 (A5 [0, 1, 0, 1, 1, 1, 1, 1, 1, 0, 1, 1, 1, 1, 0, 0, 1, 1, 0, 0, 1, 0, 1, 1, 1, 1, 1, 1, 1, 1, 1, 1]) Pb (SB k_1 back n) := fun l6 t76 t77 t78 t107 t112 t114 t119 t121 t123 t124 t125 t126 t127 t133 t134 t135 b4 b5 b10 b13 iy j6 jK r h =>
 ie h (fun c0 h =>
 be h fun x3 hx3 h =>
 be h fun x13 bS h =>
 be h fun x16 cU h =>
 be h fun x18 gS h =>
 be h fun z19 J5 h =>
 ra (aE h) [(0, eb c0), (1, R3.idx hx3), (8, R64.idx bS), (1, fu cU), (0, R64.sto 0 (ja x13) gS J5 (by kernel_rfl)), (2, .seq 18 (congrArg (fun n_ => (AV.ms 131 3 0 n_)) ((eP J5).symm)))]) (fun c0 h =>
 ra (aK h) [(0, eb c0)])
def Eg (k_1:(List ar)→(List ar)→Int→Int→Bool→Int→Int→Int→(List au)→Int→au→au→(List bl)→Int→ag→aj→aj→(List ae)→(List ae)→(List ae)→ar→Option Bool):Nat→(List ar)→(List ar)→Int→Int→Bool→Int→Int→Int→(List au)→Int→au→au→(List bl)→Int→(List Int)→Int→Int→ag→aj→aj→ar→(List ae)→(List ae)→(List ae)→Option Bool
 |0,_,_,_,_,_,_,_,_,_,_,_,_,_,_,_,_,_,_,_,_,_,_,_,_=>none
 |n+1,l6,t76,t77,t78,t107,t112,t114,t119,t121,t123,t124,t125,t126,t127,t133,t134,t135,b4,b5,b10,b13,iy,j6,jK=>SB k_1 (Eg k_1 n) n l6 t76 t77 t78 t107 t112 t114 t119 t121 t123 t124 t125 t126 t127 t133 t134 t135 b4 b5 b10 b13 iy j6 jK
theorem l5_0 {k_1} (aK:K21 (A5 [1,1,1,1,1,1,1,0,1,1,1,1,0,0,1,1,0,0,1,0,1,1,1,1,1,1,1,1,1,1]) Pa k_1):∀n:Nat,K24 (A5 [0,1,0,1,1,1,1,1,1,0,1,1,1,1,0,0,1,1,0,0,1,0,1,1,1,1,1,1,1,1,1,1]) Pb (Eg k_1 n)
 |0=>fun _ _ _ _ _ _ _ _ _ _ _ _ _ _ _ _ _ _ _ _ _ _ _ _ _ h=>nz h
 |n+1=>fun _ _ _ _ _ _ _ _ _ _ _ _ _ _ _ _ _ _ _ _ _ _ _ _ _ h=>b5_0 aK (l5_0 aK n) n h
def SA (k_2 : (List ar) → (List ar) → Int → Int → ag → aj → aj → Option Bool) (n : Nat) (l6 t76 : List ar) (t77 t78 : Int) (t107 : Bool) (t112 t114 t119 : Int) (t121 : List au) (t123 : Int) (t124 t125 : au) (t126 : List bl) (t127 : Int) (b4 : ag) (b5 b10 : aj) (iy j6 jK : List ae) (b13 : ar) : Option Bool :=
 (F22 n j6 iy).bind fun x3 =>
 if x3 != 0 then
 some false
 else
 k_2 l6 t76 t77 t78 b4 b5 b10
theorem b5_1 {k_2} (cR : K7 (A5 [1, 1, 1, 0, 0, 1, 0, 1, 1, 1, 1, 1, 1, 1, 1, 1, 1]) aar k_2) (n : Nat) : K21 (A5 [1, 1, 1, 1, 1, 1, 1, 0, 1, 1, 1, 1, 0, 0, 1, 1, 0, 0, 1, 0, 1, 1, 1, 1, 1, 1, 1, 1, 1, 1]) Pa (SA k_2 n) := fun l6 t76 t77 t78 t107 t112 t114 t119 t121 t123 t124 t125 t126 t127 b4 b5 b10 iy j6 jK b13 r h =>
 be h fun x3 hx3 h =>
 ie h (fun c0 h =>
 rr h [(2, R64.frz 131 j6), (0, R64.frz 309900 iy), (0, .call (mY n hx3) [.one (.sl 0 0), .one (.sl 0 0)] [] []), (0, eb c0)]) (fun c0 h =>
 ra (cR h) [(2, R64.frz 131 j6), (0, R64.frz 309900 iy), (0, .call (mY n hx3) [.one (.sl 0 0), .one (.sl 0 0)] [] []), (0, eb c0)])
def zE (k_3 : (List ar) → (List ar) → Int → Int → ag → aj → aj → Option Bool) (n : Nat) (l6 t76 : List ar) (t77 t78 : Int) (b4 : ag) (b5 b10 : aj) : Option Bool :=
 k_3 l6 t76 t77 (w64 (t78 + 1)) b4 b5 b10
theorem Z8 {k_3} (bO : K7 (A5 [0, 1, 0, 1, 1, 1, 1, 1, 1, 1, 1, 1, 1]) FA k_3) (n : Nat) : K7 (A5 [1, 1, 1, 0, 0, 1, 0, 1, 1, 1, 1, 1, 1, 1, 1, 1, 1]) aar (zE k_3 n) := fun l6 t76 t77 t78 b4 b5 b10 r h =>
 ra (bO h) []
def Sy (rZ : (List ar) → aj → aj → Option Bool) (back : (List ar) → (List ar) → Int → Int → ag → aj → aj → Option Bool) (n : Nat) (l6 t76 : List ar) (t77 t78 : Int) (b4 : ag) (b5 b10 : aj) : Option Bool :=
 if decide (t78 < t77) then
 (idx t76 t78).bind fun x2 =>
 (F21 n b4 b5 x2.ax x2.aA).bind fun x13 =>
 (F21 n b4 b10 x2.ax x2.aA).bind fun x26 =>
 if x2.fOp == 1 then
 if x13.2 then
 some false
 else
 if !x26.2 then
 some false
 else
 (F22 n x26.1 x2.aV).bind fun x46 =>
 if x46 != 0 then
 some false
 else
 zE back n l6 t76 t77 t78 b4 b5 b10
 else
 if x2.fOp == 3 then
 if !x13.2 then
 some false
 else
 if x26.2 then
 some false
 else
 zE back n l6 t76 t77 t78 b4 b5 b10
 else
 if !x13.2 then
 some false
 else
 if !x26.2 then
 some false
 else
 if (x26.1.length : Int) != (x13.1.length : Int) then
 some false
 else
 (idx b4.ah x2.ax).bind fun x59 =>
 if (x13.1.length : Int) != (x59.aq.length : Int) then
 some false
 else
 (app [] x13.1).bind fun x67 =>
 Eg (SA (zE back n) n) n l6 t76 t77 t78 x26.2 (x26.1.length : Int) (x13.1.length : Int) (x13.1.length : Int) b4.ah x2.ax x59 x59 x59.aq (x59.aq.length : Int) x2.aq (x2.aq.length : Int) 0 b4 b5 b10 x2 x26.1 x67 x13.1
 else
 rZ l6 b5 b10
theorem b5_3 {rZ} (FO : K3 (A5 [1, 1, 1, 1, 1, 1, 1, 1, 1, 1, 1]) H5 rZ) {back} (aE : K7 (A5 [0, 1, 0, 1, 1, 1, 1, 1, 1, 1, 1, 1, 1]) FA back) (n : Nat) : K7 (A5 [0, 1, 0, 1, 1, 1, 1, 1, 1, 1, 1, 1, 1]) FA (Sy rZ back n) := fun l6 t76 t77 t78 b4 b5 b10 r h =>
 ie h (fun c0 h =>
 be h fun x2 hx2 h =>
 be h fun x13 bS h =>
 be h fun x26 eZ h =>
 ie h (fun c1 h =>
 ie h (fun c2 h =>
 rr h [(0, eb c0), (0, R54.idx hx2), (9, .call (eC n bS) [] [] [(308900, 200000)]), (2, eb c2), (8, .call (eC n eZ) [] [] [(309900, 200000)]), (7, eb c1)]) (fun c2 h =>
 ie h (fun c3 h =>
 rr h [(0, eb c0), (0, R54.idx hx2), (9, .call (eC n bS) [] [] [(308900, 200000)]), (2, eb c2), (8, .call (eC n eZ) [] [] [(309900, 200000)]), (7, eb c1), (4, eb c3)]) (fun c3 h =>
 be h fun x46 Qv h =>
 ie h (fun c4 h =>
 rr h [(0, eb c0), (0, R54.idx hx2), (9, .call (eC n bS) [] [] [(308900, 200000)]), (2, eb c2), (8, .call (eC n eZ) [] [] [(309900, 200000)]), (7, eb c1), (4, eb c3), (5, R64.frz 309900 x26.1), (0, .call (mY n Qv) [.one (.sl 0 0)] [] []), (0, eb c4)]) (fun c4 h =>
 ra (Z8 aE n h) [(0, eb c0), (0, R54.idx hx2), (9, .call (eC n bS) [] [] [(308900, 200000)]), (2, eb c2), (8, .call (eC n eZ) [] [] [(309900, 200000)]), (7, eb c1), (4, eb c3), (5, R64.frz 309900 x26.1), (0, .call (mY n Qv) [.one (.sl 0 0)] [] []), (0, eb c4)])))) (fun c1 h =>
 ie h (fun c2 h =>
 ie h (fun c3 h =>
 rr h [(0, eb c0), (0, R54.idx hx2), (9, .call (eC n bS) [] [] [(308900, 200000)]), (11, .call (eC n eZ) [] [] [(309900, 200000)]), (7, eb c1), (1, eb c2), (2, eb c3)]) (fun c3 h =>
 ie h (fun c4 h =>
 rr h [(0, eb c0), (0, R54.idx hx2), (9, .call (eC n bS) [] [] [(308900, 200000)]), (11, .call (eC n eZ) [] [] [(309900, 200000)]), (2, eb c4), (4, eb c1), (1, eb c2), (2, eb c3)]) (fun c4 h =>
 ra (Z8 aE n h) [(0, eb c0), (0, R54.idx hx2), (9, .call (eC n bS) [] [] [(308900, 200000)]), (11, .call (eC n eZ) [] [] [(309900, 200000)]), (2, eb c4), (4, eb c1), (1, eb c2), (2, eb c3)]))) (fun c2 h =>
 ie h (fun c3 h =>
 rr h [(0, eb c0), (0, R54.idx hx2), (9, .call (eC n bS) [] [] [(308900, 200000)]), (11, .call (eC n eZ) [] [] [(309900, 200000)]), (7, eb c1), (1, eb c2), (2, eb c3)]) (fun c3 h =>
 ie h (fun c4 h =>
 rr h [(0, eb c0), (0, R54.idx hx2), (9, .call (eC n bS) [] [] [(308900, 200000)]), (11, .call (eC n eZ) [] [] [(309900, 200000)]), (7, eb c1), (1, eb c2), (2, eb c3), (2, eb c4)]) (fun c4 h =>
 ie h (fun c5 h =>
 rr h [(0, eb c0), (0, R54.idx hx2), (9, .call (eC n bS) [] [] [(308900, 200000)]), (11, .call (eC n eZ) [] [] [(309900, 200000)]), (7, eb c1), (1, eb c2), (2, eb c3), (2, eb c4), (6, eb c5)]) (fun c5 h =>
 be h fun x59 Qu h =>
 ie h (fun c6 h =>
 rr h [(0, eb c0), (0, R54.idx hx2), (9, .call (eC n bS) [] [] [(308900, 200000)]), (11, .call (eC n eZ) [] [] [(309900, 200000)]), (7, eb c1), (1, eb c2), (2, eb c3), (2, eb c4), (6, eb c5), (8, R62.idx Qu), (2, .eqv (R76.az x59.aq)), (0, eb c6)]) (fun c6 h =>
 be h fun x67 hx67 h =>
 ra (l5_0 (b5_1 (Z8 aE n) n) n h) [(0, eb c0), (0, R54.idx hx2), (9, .call (eC n bS) [] [] [(308900, 200000)]), (11, .call (eC n eZ) [] [] [(309900, 200000)]), (7, eb c1), (1, eb c2), (2, eb c3), (2, eb c4), (6, eb c5), (8, R62.idx Qu), (2, .eqv (R76.az x59.aq)), (0, eb c6), (2, .born [] [] 131 true 65 3), (0, R64.app (xs := []) hx67 (R64.srW x13.1)), (3, .eqv (R3.az x2.aq))]))))))) (fun c0 h =>
 ra (FO h) [(0, eb c0)])
def wo (rZ:(List ar)→aj→aj→Option Bool):Nat→(List ar)→(List ar)→Int→Int→ag→aj→aj→Option Bool
 |0,_,_,_,_,_,_,_=>none
 |n+1,l6,t76,t77,t78,b4,b5,b10=>Sy rZ (wo rZ n) n l6 t76 t77 t78 b4 b5 b10
theorem l5_3 {rZ} (FO:K3 (A5 [1,1,1,1,1,1,1,1,1,1,1]) H5 rZ):∀n:Nat,K7 (A5 [0,1,0,1,1,1,1,1,1,1,1,1,1]) FA (wo rZ n)
 |0=>fun _ _ _ _ _ _ _ _ h=>nz h
 |n+1=>fun _ _ _ _ _ _ _ _ h=>b5_3 FO (l5_3 FO n) n h
def Sx (k_5 : (List ar) → Int → (List ae) → Bool → (List (List (List ae))) → Int → Int → (List (List ae)) → Int → Int → aj → Option Bool) (back : (List ar) → Int → (List ae) → Bool → (List (List (List ae))) → Int → Int → (List (List ae)) → Int → Int → (List ar) → Int → Int → aj → Option Bool) (n : Nat) (l6 : List ar) (t21 : Int) (r24 : List ae) (iD : Bool) (t176 : List (List (List ae))) (t177 t178 : Int) (t183 : List (List ae)) (t184 t185 : Int) (t189 : List ar) (t190 t191 : Int) (b10 : aj) : Option Bool :=
 if decide (t191 < t190) then
 (idx t189 t191).bind fun x2 =>
 if iD then
 back l6 t21 r24 true t176 t177 t178 t183 t184 t185 t189 t190 (w64 (t191 + 1)) b10
 else
 if x2.ax == t21 then
 (cut r24 none (some (x2.aA.length : Int))).bind fun x20 =>
 (F22 n x2.aA x20).bind fun x22 =>
 back l6 t21 r24 (x22 == 0) t176 t177 t178 t183 t184 t185 t189 t190 (w64 (t191 + 1)) b10
 else
 back l6 t21 r24 false t176 t177 t178 t183 t184 t185 t189 t190 (w64 (t191 + 1)) b10
 else
 k_5 l6 t21 r24 iD t176 t177 t178 t183 t184 t185 b10
theorem b5_4 {k_5} (fO : K11 (A5 [1, 1, 1, 0, 0, 1, 1, 0, 0, 1, 1, 0, 0, 1, 1, 0, 0, 1, 0, 1, 1, 1, 1, 1, 1, 1, 1, 1, 1, 1]) O8 k_5) {back} (aE : K14 (A5 [0, 1, 0, 1, 1, 0, 0, 1, 1, 0, 0, 1, 1, 0, 0, 1, 1, 0, 0, 1, 0, 1, 1, 1, 1, 1, 1, 1, 1, 1, 1, 1]) O9 back) (n : Nat) : K14 (A5 [0, 1, 0, 1, 1, 0, 0, 1, 1, 0, 0, 1, 1, 0, 0, 1, 1, 0, 0, 1, 0, 1, 1, 1, 1, 1, 1, 1, 1, 1, 1, 1]) O9 (Sx k_5 back n) := fun l6 t21 r24 iD t176 t177 t178 t183 t184 t185 t189 t190 t191 b10 r h =>
 ie h (fun c0 h =>
 be h fun x2 hx2 h =>
 ie h (fun c1 g0 => by subst c1; exact (
 ra (aE g0) [(0, eb c0), (0, R54.idx hx2)])) (fun c1 g0 => by subst c1; exact (
 ie g0 (fun c2 g0 =>
 be g0 fun x20 gR g0 =>
 be g0 fun x22 DF g0 =>
 ra (aE g0) [(0, eb c0), (0, R54.idx hx2), (8, eb c2), (6, .eqv (R64.az x2.aA)), (0, R64.cut gR), (0, .call (mY n DF) [] [] [])]) (fun c2 g0 =>
 ra (aE g0) [(0, eb c0), (0, R54.idx hx2), (8, eb c2)])))) (fun c0 h =>
 ra (fO h) [(0, eb c0)])
def Ef (k_5:(List ar)→Int→(List ae)→Bool→(List (List (List ae)))→Int→Int→(List (List ae))→Int→Int→aj→Option Bool):Nat→(List ar)→Int→(List ae)→Bool→(List (List (List ae)))→Int→Int→(List (List ae))→Int→Int→(List ar)→Int→Int→aj→Option Bool
 |0,_,_,_,_,_,_,_,_,_,_,_,_,_,_=>none
 |n+1,l6,t21,r24,iD,t176,t177,t178,t183,t184,t185,t189,t190,t191,b10=>Sx k_5 (Ef k_5 n) n l6 t21 r24 iD t176 t177 t178 t183 t184 t185 t189 t190 t191 b10
theorem l5_4 {k_5} (fO:K11 (A5 [1,1,1,0,0,1,1,0,0,1,1,0,0,1,1,0,0,1,0,1,1,1,1,1,1,1,1,1,1,1]) O8 k_5):∀n:Nat,K14 (A5 [0,1,0,1,1,0,0,1,1,0,0,1,1,0,0,1,1,0,0,1,0,1,1,1,1,1,1,1,1,1,1,1]) O9 (Ef k_5 n)
 |0=>fun _ _ _ _ _ _ _ _ _ _ _ _ _ _ _ h=>nz h
 |n+1=>fun _ _ _ _ _ _ _ _ _ _ _ _ _ _ _ h=>b5_4 fO (l5_4 fO n) n h
def Sw (k_6 : (List ar) → Int → (List (List (List ae))) → Int → Int → (List (List ae)) → Int → Int → aj → Option Bool) (n : Nat) (l6 : List ar) (t21 : Int) (r24 : List ae) (iD : Bool) (t176 : List (List (List ae))) (t177 t178 : Int) (t183 : List (List ae)) (t184 t185 : Int) (b10 : aj) : Option Bool :=
 if !iD then
 (idx b10.ah t21).bind fun x7 =>
 (F23 n x7 r24).bind fun x11 =>
 if !x11 then
 some false
 else
 k_6 l6 t21 t176 t177 t178 t183 t184 (w64 (t185 + 1)) b10
 else
 k_6 l6 t21 t176 t177 t178 t183 t184 (w64 (t185 + 1)) b10
theorem b5_5 {k_6} (vI : K9 (A5 [0, 1, 1, 0, 0, 1, 1, 0, 0, 1, 0, 1, 1, 1, 1, 1, 1, 1, 1, 1, 1, 1]) Fz k_6) (n : Nat) : K11 (A5 [1, 1, 1, 0, 0, 1, 1, 0, 0, 1, 1, 0, 0, 1, 1, 0, 0, 1, 0, 1, 1, 1, 1, 1, 1, 1, 1, 1, 1, 1]) O8 (Sw k_6 n) := fun l6 t21 r24 iD t176 t177 t178 t183 t184 t185 b10 r h =>
 ie h (fun c0 h =>
 be h fun x7 hx7 h =>
 be h fun x11 cm h =>
 ie h (fun c1 h =>
 rr h [(1, eb c0), (4, R66.idx hx7), (2, .call (ev23 n cm) [] [] []), (0, eb c1)]) (fun c1 h =>
 ra (vI h) [(1, eb c0), (4, R66.idx hx7), (2, .call (ev23 n cm) [] [] []), (0, eb c1)])) (fun c0 h =>
 ra (vI h) [(1, eb c0)])
def Sv (k_7 : (List ar) → (List (List (List ae))) → Int → Int → aj → Option Bool) (back : (List ar) → Int → (List (List (List ae))) → Int → Int → (List (List ae)) → Int → Int → aj → Option Bool) (n : Nat) (l6 : List ar) (t21 : Int) (t176 : List (List (List ae))) (t177 t178 : Int) (t183 : List (List ae)) (t184 t185 : Int) (b10 : aj) : Option Bool :=
 if decide (t185 < t184) then
 (idx t183 t185).bind fun x2 =>
 Ef (Sw back n) n l6 t21 x2 false t176 t177 t178 t183 t184 t185 l6 (l6.length : Int) 0 b10
 else
 k_7 l6 t176 t177 t178 b10
theorem b5_6 {k_7} (QH : K5 (A5 [1, 1, 1, 0, 0, 1, 0, 1, 1, 1, 1, 1, 1, 1, 1, 1, 1, 1]) O7 k_7) {back} (aE : K9 (A5 [0, 1, 1, 0, 0, 1, 1, 0, 0, 1, 0, 1, 1, 1, 1, 1, 1, 1, 1, 1, 1, 1]) Fz back) (n : Nat) : K9 (A5 [0, 1, 1, 0, 0, 1, 1, 0, 0, 1, 0, 1, 1, 1, 1, 1, 1, 1, 1, 1, 1, 1]) Fz (Sv k_7 back n) := fun l6 t21 t176 t177 t178 t183 t184 t185 b10 r h =>
 ie h (fun c0 h =>
 be h fun x2 hx2 h =>
 ra (l5_4 (b5_5 aE n) n h) [(0, eb c0), (0, R42.idx hx2), (4, .eqv (R54.az l6))]) (fun c0 h =>
 ra (QH h) [(0, eb c0)])
def zB (k_7:(List ar)→(List (List (List ae)))→Int→Int→aj→Option Bool):Nat→(List ar)→Int→(List (List (List ae)))→Int→Int→(List (List ae))→Int→Int→aj→Option Bool
 |0,_,_,_,_,_,_,_,_,_=>none
 |n+1,l6,t21,t176,t177,t178,t183,t184,t185,b10=>Sv k_7 (zB k_7 n) n l6 t21 t176 t177 t178 t183 t184 t185 b10
theorem l5_6 {k_7} (QH:K5 (A5 [1,1,1,0,0,1,0,1,1,1,1,1,1,1,1,1,1,1]) O7 k_7):∀n:Nat,K9 (A5 [0,1,1,0,0,1,1,0,0,1,0,1,1,1,1,1,1,1,1,1,1,1]) Fz (zB k_7 n)
 |0=>fun _ _ _ _ _ _ _ _ _ _ h=>nz h
 |n+1=>fun _ _ _ _ _ _ _ _ _ _ h=>b5_6 QH (l5_6 QH n) n h
def Su (k_8 : (List ar) → (List (List (List ae))) → Int → Int → aj → Option Bool) (n : Nat) (l6 : List ar) (t176 : List (List (List ae))) (t177 t178 : Int) (b10 : aj) : Option Bool :=
 k_8 l6 t176 t177 (w64 (t178 + 1)) b10
theorem b5_7 {k_8} (hk_8 : K5 (A5 [0, 1, 0, 1, 1, 1, 1, 1, 1, 1, 1, 1, 1, 1]) Fy k_8) (n : Nat) : K5 (A5 [1, 1, 1, 0, 0, 1, 0, 1, 1, 1, 1, 1, 1, 1, 1, 1, 1, 1]) O7 (Su k_8 n) := fun l6 t176 t177 t178 b10 r h =>
 ra (hk_8 h) []
def Ss (k_9 : Option Bool) (back : (List ar) → (List (List (List ae))) → Int → Int → aj → Option Bool) (n : Nat) (l6 : List ar) (t176 : List (List (List ae))) (t177 t178 : Int) (b10 : aj) : Option Bool :=
 if decide (t178 < t177) then
 (idx t176 t178).bind fun x3 =>
 zB (Su back n) n l6 t178 t176 t177 t178 x3 (x3.length : Int) 0 b10
 else
 k_9
theorem b5_8 {k_9} (QG : K0 (A5 [1, 1, 1, 1, 1, 1, 1, 1, 1, 1, 1, 1]) O6 k_9) {back} (aE : K5 (A5 [0, 1, 0, 1, 1, 1, 1, 1, 1, 1, 1, 1, 1, 1]) Fy back) (n : Nat) : K5 (A5 [0, 1, 0, 1, 1, 1, 1, 1, 1, 1, 1, 1, 1, 1]) Fy (Ss k_9 back n) := fun l6 t176 t177 t178 b10 r h =>
 ie h (fun c0 h =>
 be h fun x3 hx3 h =>
 ra (l5_6 (b5_7 aE n) n h) [(0, eb c0), (1, R66.idx hx3), (4, .eqv (R42.az x3))]) (fun c0 h =>
 ra (QG h) [(0, eb c0)])
def zA (k_9:Option Bool):Nat→(List ar)→(List (List (List ae)))→Int→Int→aj→Option Bool
 |0,_,_,_,_,_=>none
 |n+1,l6,t176,t177,t178,b10=>Ss k_9 (zA k_9 n) n l6 t176 t177 t178 b10
theorem l5_8 {k_9} (QG:K0 (A5 [1,1,1,1,1,1,1,1,1,1,1,1]) O6 k_9):∀n:Nat,K5 (A5 [0,1,0,1,1,1,1,1,1,1,1,1,1,1]) Fy (zA k_9 n)
 |0=>fun _ _ _ _ _ _ h=>nz h
 |n+1=>fun _ _ _ _ _ _ h=>b5_8 QG (l5_8 QG n) n h
def aai (n : Nat) : Option Bool :=
 (F15 n ).bind fun x1 =>
 some x1
theorem b5_9 (n : Nat) : K0 (A5 [1, 1, 1, 1, 1, 1, 1, 1, 1, 1, 1, 1]) O6 (aai n) := fun r h =>
 be h fun x1 hx1 h =>
 rr h [(0, .call (ev15 n hx1) [] [] [])]
def rO (n : Nat) (l6 : List ar) (b5 b10 : aj) : Option Bool :=
 zA (aai n) n l6 b5.ah (b5.ah.length : Int) 0 b10
theorem ajl (n : Nat) : K3 (A5 [1, 1, 1, 1, 1, 1, 1, 1, 1, 1, 1]) H5 (rO n) := fun l6 b5 b10 r h =>
 ra (l5_8 (b5_9 n) n h) [(2, .eqv (R66.az b5.ah))]
def Sz (n : Nat) (gJ : List Int) : Option Bool :=
 (F8 n gJ 400).bind fun x3 =>
 (F9 n x3).bind fun x7 =>
 (F11 n x7.2 x7.1 1).bind fun x13 =>
 (F10 n x13.2 x7.1 x13.1 5).bind fun x20 =>
 (F16 n x7.1 x13.1 x20.1).bind fun x26 =>
 if x26.2.2 != 0 then
 some false
 else
 if x26.2.1.dI != 0 then
 if (x26.1.length : Int) == 0 then
 (F15 n ).bind fun x45 =>
 some x45
 else
 some false
 else
 (F20 n x7.1 1 x13.1 x26.1).bind fun x44 =>
 if x44.2 != 0 then
 some false
 else
 if (x44.1.ah.length : Int) != (x13.1.ah.length : Int) then
 some false
 else
 wo (rO n) n x20.1 x20.1 (x20.1.length : Int) 0 x7.1 x13.1 x44.1
theorem ajk (n : Nat) : K1 (A5 []) H4 (Sz n) := fun gJ r h =>
 be h fun x3 hx3 h =>
 be h fun x7 hx7 h =>
 be h fun x13 bS h =>
 be h fun x20 gR h =>
 be h fun x26 eZ h =>
 ie h (fun c0 h =>
 rr h [(2, .call (ev8 n hx3) [] [] [(29, 200000)]), (2, .call (ev9 n hx7) [] [(29, 0)] []), (4, .call (DX n bS) [] [(29, 0)] []), (5, .call (DY n gR) [] [(29, 0)] [(38, 200000)]), (4, R54.frz 38 x20.1), (0, .call (DW n eZ) [] [] [(304300, 200000)]), (9, eb c0)]) (fun c0 h =>
 ie h (fun c1 h =>
 ie h (fun c2 h =>
 be h fun x45 hx45 h =>
 rr h [(2, .call (ev8 n hx3) [] [] [(29, 200000)]), (2, .call (ev9 n hx7) [] [(29, 0)] []), (4, .call (DX n bS) [] [(29, 0)] []), (5, .call (DY n gR) [] [(29, 0)] [(38, 200000)]), (4, R54.frz 38 x20.1), (0, .call (DW n eZ) [] [] [(304300, 200000)]), (9, eb c0), (2, eb c1), (2, eb c2), (1, .call (ev15 n hx45) [] [] [])]) (fun c2 h =>
 rr h [(2, .call (ev8 n hx3) [] [] [(29, 200000)]), (2, .call (ev9 n hx7) [] [(29, 0)] []), (4, .call (DX n bS) [] [(29, 0)] []), (5, .call (DY n gR) [] [(29, 0)] [(38, 200000)]), (4, R54.frz 38 x20.1), (0, .call (DW n eZ) [] [] [(304300, 200000)]), (9, eb c0), (2, eb c1), (2, eb c2)])) (fun c1 h =>
 be h fun x44 DD h =>
 ie h (fun c2 h =>
 rr h [(2, .call (ev8 n hx3) [] [] [(29, 200000)]), (2, .call (ev9 n hx7) [] [(29, 0)] []), (4, .call (DX n bS) [] [(29, 0)] []), (5, .call (DY n gR) [] [(29, 0)] [(38, 200000)]), (4, R54.frz 38 x20.1), (0, .call (DW n eZ) [] [] [(304300, 200000)]), (9, eb c0), (2, eb c1), (3, sq.frz 304300 x26.1), (0, .call (ZE n DD) [.one .same, .one .same, .one .same, .one (.sl 0 0)] [] []), (7, eb c2)]) (fun c2 h =>
 ie h (fun c3 h =>
 rr h [(2, .call (ev8 n hx3) [] [] [(29, 200000)]), (2, .call (ev9 n hx7) [] [(29, 0)] []), (4, .call (DX n bS) [] [(29, 0)] []), (5, .call (DY n gR) [] [(29, 0)] [(38, 200000)]), (4, R54.frz 38 x20.1), (0, .call (DW n eZ) [] [] [(304300, 200000)]), (9, eb c0), (2, eb c1), (3, sq.frz 304300 x26.1), (0, .call (ZE n DD) [.one .same, .one .same, .one .same, .one (.sl 0 0)] [] []), (7, eb c2), (3, .eqv (R66.az x44.1.ah)), (2, .eqv (R66.az x13.1.ah)), (0, eb c3)]) (fun c3 h =>
 ra (l5_3 (ajl n) n h) [(2, .call (ev8 n hx3) [] [] [(29, 200000)]), (2, .call (ev9 n hx7) [] [(29, 0)] []), (4, .call (DX n bS) [] [(29, 0)] []), (5, .call (DY n gR) [] [(29, 0)] [(38, 200000)]), (4, R54.frz 38 x20.1), (0, .call (DW n eZ) [] [] [(304300, 200000)]), (9, eb c0), (2, eb c1), (3, sq.frz 304300 x26.1), (0, .call (ZE n DD) [.one .same, .one .same, .one .same, .one (.sl 0 0)] [] []), (7, eb c2), (3, .eqv (R66.az x44.1.ah)), (2, .eqv (R66.az x13.1.ah)), (0, eb c3), (2, .eqv (R54.az x20.1))]))))
def F5 (n:Nat) (gJ:List Int):Option Bool:=Sz n gJ
theorem ev5 (n:Nat):K1 C5 H4 (F5 n):=fun _ _ h=>ca (X:=x5) (ajk n h)
def RI (t:TypeId):Bool:= [5,22].contains t
theorem ahq (t:TypeId) (h:RI t=true):uW Tryz.prog RI t=true:=by
 have om:([5,22].all fun t=>uW Tryz.prog RI t)=true:=by kernel_rfl
 exact List.all_eq_true.1 om t (List.contains_iff_mem.1 h)
theorem ty5 (n:Nat) (xs:List AV) (h:dO Tryz.prog n 5 xs):∃x,xs=KF x:=by
 match n,h with
 |n+1,h=>
  simp only[dO,Tryz.underlying5] at h;obtain ⟨x,rfl,_⟩:=h;exact ⟨x,rfl⟩
theorem ty22 (n:Nat) (xs:List AV) (h:dO Tryz.prog n 22 xs):∃x,xs= [.slx 5 1 (nr x)]:=by
 match n,h with
 |n+1,h=>
  simp only[dO,Tryz.underlying22] at h;obtain ⟨rows,rfl,hr⟩:=h;obtain ⟨y,rfl⟩:=adF fun r hr'=>ty5 n r (hr r hr')
  exact ⟨y,by rw[Ez,show Tryz.prog.cellsOf 5=1 from by kernel_rfl];try rfl⟩
theorem bY {x:Int} (h1: -9223372036854775808≤x) (h2:x≤9223372036854775807):w64 x=x:=IntWalk.i64_in x ⟨h1,h2⟩
theorem aO {α:Type} (xs:List α) (i:Nat):idx xs (i:Int)=xs[i]? :=by simp[idx]
mutual
def szP:ak→Nat
 |⟨_,_,_,_,args⟩=>2+szL args
def szL:List ak→Nat
 | []=>0
 |x::xs=>1+szP x+szL xs
end
theorem px (xs:List ak):xs.length≤szL xs:=by
 induction xs with
 |nil=>simp[szL]
 |cons x xs ih=>simp[szL];omega
def zv:ae:=ae.mk 0 0 ByteArray.empty
def iE (v:ae):Bool:=
 if v.aD==1||v.aD==2 then v.bJ==0&&decide (v.bt=ByteArray.empty)
 else if v.aD==3 then (v.bJ==0||v.bJ==1)&&decide (v.bt=ByteArray.empty)
 else if v.aD==4 then decide (v.bt=ByteArray.empty)
 else if v.aD==5 then v.bJ==0&&decide ((v.bt.size:Int)≤64)
 else false
def iq (v:ae):Bool:=iE v&&decide (3≤v.aD)
theorem XR (n:Nat) (v:ae):F88 n v=some (iE v):=by
 unfold F88 R9 iE;by_cases h1:v.aD=1<;>by_cases h2:v.aD=2<;>by_cases h3:v.aD=3<;>by_cases h4:v.aD=4<;>by_cases h5:v.aD=5<;>by_cases h6:v.bJ=0<;>by_cases h7:v.bJ=1<;>simp_all<;>simp[←Int.not_le]
theorem OL (n:Nat) (v:ae):R0 n v=some (iE v):=by
 have:=XR n v;exact this
theorem Mx {v:ae} (h:iE v=true):1≤v.aD∧v.aD≤5:=by
 unfold iE at h;split at h
 ·rename_i h1;simp at h1;omega
 ·split at h
  ·rename_i h1;simp at h1;omega
  ·split at h
   ·rename_i h1;simp at h1;omega
   ·split at h
    ·rename_i h1;simp at h1;omega
    ·simp at h
theorem aeB (n:Nat) (v:ae):RR n v=some (iq v):=by
 unfold RR L4;rw[XR];simp only[Option.bind_some,iq];cases iE v<;>simp<;>simp[←Int.not_le]
theorem XS (n:Nat) (v:ae):F80 n v=some (iq v):=by
 unfold F80 Sd;rw[OL];simp only[Option.bind_some,iq];cases h:iE v with
 |false=>simp
 |true=>
  have:=Mx h;by_cases h1:v.aD=1
  ·simp[h1]
  ·by_cases h2:v.aD=2
   ·simp[h2]
   ·have:3≤v.aD:=by omega
    simp[h1,h2,this]
theorem E6:∀a b:List UInt8,Lib.compareBytes a b=if Op.bytesLess a b then -1 else if a=b then 0 else 1
 | [],[]=>by simp[Lib.compareBytes,Op.bytesLess]
 | [],_::_=>by simp[Lib.compareBytes,Op.bytesLess]
 |_::_,[]=>by simp[Lib.compareBytes,Op.bytesLess]
 |a::l,b::m=>by
  rw[Lib.compareBytes,Op.bytesLess,E6 l m];by_cases h:a<b
  ·simp[h]
  ·by_cases h2:b<a
   ·have hne:a≠b:=fun e=>by subst e;exact absurd h2 (UInt8.lt_irrefl _)
    simp[h,h2,hne]
   ·have he:a=b:=UInt8.le_antisymm (UInt8.not_lt.1 h2) (UInt8.not_lt.1 h);subst he;simp[UInt8.lt_irrefl]
def fY (a b:ae):Int:=
 if a.aD<b.aD then -1 else if b.aD<a.aD then 1
 else if a.bJ<b.bJ then -1 else if b.bJ<a.bJ then 1
 else if Op.bytesLess a.bt.toList b.bt.toList then -1 else if a.bt=b.bt then 0 else 1
theorem ij:∀a:List UInt8,Op.bytesLess a a=false
 | []=>by simp[Op.bytesLess]
 |a::l=>by simp[Op.bytesLess,ij l,UInt8.lt_irrefl]
theorem ot {a b:ByteArray} (h:a.data.toList=b.data.toList):a=b:=by
 cases a;cases b;simp at h;simp[h]
theorem l3 (a:ByteArray):a.toList=a.data.toList:=by
 exact ByteArray.toList_eq a
theorem agX (n:Nat) (a b:ae):F61 n a b=some (fY a b):=by
 unfold F61 Sp fY;by_cases h1:a.aD<b.aD
 ·simp[h1]
 ·by_cases h2:b.aD<a.aD
  ·simp[h1,h2]
  ·by_cases h3:a.bJ<b.bJ
   ·simp[h1,h2,h3]
   ·by_cases h4:b.bJ<a.bJ
    ·simp[h1,h2,h3,h4]
    ·by_cases h5:Op.bytesLess a.bt.toList b.bt.toList=true
     ·simp[h1,h2,h3,h4,h5]
     ·by_cases h6:a.bt=b.bt
      ·simp[h1,h2,h3,h4,h6,ij]
      ·have h7:¬a.bt.toList=b.bt.toList:=fun e=>h6 (ot (by rw[l3,l3] at e;exact e))
       simp[h1,h2,h3,h4,h5,h6,h7]
theorem aad (n:Nat) (a b:ByteArray):RQ n a b=some (if Op.bytesLess a.toList b.toList then -1 else if a=b then 0 else 1):=by
 unfold RQ;rw[E6,l3,l3];by_cases h:a=b
 ·subst h;simp
 ·have:a.data.toList≠b.data.toList:=fun e=>h (ot e)
  simp[h,this]
theorem aeF (n:Nat) (a b:Int):RV n a b=some (if a<b then -1 else if b<a then 1 else 0):=by
 unfold RV Me RT L7;by_cases h1:a<b
 ·simp[h1]
 ·by_cases h2:b<a<;>simp[h1,h2]
theorem aeE (n:Nat) (a b:Int):RU n a b=some (if a<b then -1 else if b<a then 1 else 0):=by
 unfold RU Mc RS L6;by_cases h1:a<b
 ·simp[h1]
 ·by_cases h2:b<a<;>simp[h1,h2]
theorem agQ (n:Nat) (a b:ae):F95 n a b=some (fY a b):=by
 unfold F95 R8 aaf Mb aae L5;rw[aeF,aeE,aad];obtain ⟨k,i,t⟩:=a;obtain ⟨k',i',t'⟩:=b;unfold fY;simp only[Option.bind_some];by_cases h1:k<k'
 ·have:k≠k':=by omega
  simp[h1,this]
 ·by_cases h2:k'<k
  ·have:k≠k':=by omega
   simp[h1,h2,this]
  ·have hk:k=k':=by omega
   subst hk;by_cases h3:i<i'
   ·have:i≠i':=by omega
    simp[h3,this]
   ·by_cases h4:i'<i
    ·have:i≠i':=by omega
     simp[h3,h4,this]
    ·have hi:i=i':=by omega
     subst hi;by_cases h5:t=t'
     ·subst h5;simp[ij]
     ·simp[h5]
theorem ba {α:Type} {xs:List α} {i:Nat} {x:α} {l:List α} (h:xs.drop i=x::l):xs[i]? =some x∧xs.drop (i+1)=l∧i<xs.length:=by
 have h1:i<xs.length:=by
  by_cases hl:i<xs.length
  ·exact hl
  ·rw[List.drop_of_length_le (by omega)] at h;simp at h
 rw[List.drop_eq_getElem_cons h1] at h;obtain ⟨q1,q2⟩:=List.cons.inj h;exact ⟨by simp[h1,q1],q2,h1⟩
theorem pt {x:ak} {xs:List ak} (h:x∈xs):szP x+xs.length≤szL xs:=by
 induction xs with
 |nil=>simp at h
 |cons y ys ih=>
  have hl:=px ys;simp only[szL,List.length_cons];rcases List.mem_cons.1 h with rfl|h
  ·omega
  ·have:=ih h;omega
end Go.Proofs.YtmealahmjddpcaaGreatDoor
end
