/- Texts that belong together. The first: Functions of the program as plain functions, and that the program answers as they do; written by a program (comp2.py). -/
import Derived.Test.YtmealahmjddpcaaGreatDoorP9
import Derived.KernelRfl
set_option linter.all false
set_option maxRecDepth 100000
noncomputable section
namespace Go.Proofs.YtmealahmjddpcaaGreatDoor
open Go.Sim
def abp (r:Int):AV:=.int .i64 r
def VT (r:Int):List (Nat×Bx):= []
def x79:=fx E0 Tryz.f79 [] []
def A79:=Ax x79 abp VT
def C79:=Cx E0 79 abp VT
def TQ (aQ params1:List Int) (p2:ag):LS:=⟨[(0,.slice 3 1 (aX aQ)),(1,.slice 3 1 (aX params1)),(2,.agg (fZ p2))],[]⟩
def SH (n : Nat) (aQ params1 : List Int) (p2 : ag) : Option Int :=
 (MD n aQ).bind fun x4 =>
 if !x4 then
 some 1
 else
 (MD n params1).bind fun x9 =>
 if !x9 then
 some 1
 else
 (Eh n p2 1 24).bind fun x16 =>
 if !x16.1 then
 some 2
 else
 (lr n (cQ.mk aQ params1) p2).bind fun x23 =>
 if !x23 then
 some 50
 else
 some 0
theorem ajP (n : Nat) : K3 (A79 []) TQ (SH n) := fun aQ params1 p2 r h =>
 be h fun x4 hx4 h =>
 ie h (fun c0 h =>
 rr h [(3, .call (ou n hx4) [] [] []), (0, eb c0)]) (fun c0 h =>
 be h fun x9 hx9 h =>
 ie h (fun c1 h =>
 rr h [(3, .call (ou n hx4) [] [] []), (0, eb c0), (2, .call (ou n hx9) [] [] []), (0, eb c1)]) (fun c1 h =>
 be h fun x16 dz h =>
 ie h (fun c2 h =>
 rr h [(3, .call (ou n hx4) [] [] []), (0, eb c0), (2, .call (ou n hx9) [] [] []), (0, eb c1), (4, .call (FM n dz) [] [(7, 2)] []), (0, eb c2)]) (fun c2 h =>
 be h fun x23 eN h =>
 ie h (fun c3 h =>
 rr h [(3, .call (ou n hx4) [] [] []), (0, eb c0), (2, .call (ou n hx9) [] [] []), (0, eb c1), (4, .call (FM n dz) [] [(7, 2)] []), (0, eb c2), (4, .call (Ru n eN) [] [] []), (0, eb c3)]) (fun c3 h =>
 rr h [(3, .call (ou n hx4) [] [] []), (0, eb c0), (2, .call (ou n hx9) [] [] []), (0, eb c1), (4, .call (FM n dz) [] [(7, 2)] []), (0, eb c2), (4, .call (Ru n eN) [] [] []), (0, eb c3)]))))
def F79 (n:Nat) (aQ params1:List Int) (p2:ag):Option Int:=SH n aQ params1 p2
theorem ev79 (n:Nat):K3 C79 TQ (F79 n):=fun _ _ _ _ h=>ca (X:=x79) (ajP n h)
def abU (r:Int):AV:=.int .i64 r
def Wo (r:Int):List (Nat×Bx):= []
def x38:=fx E0 Tryz.f38 [] []
def A38:=Ax x38 abU Wo
def C38:=Cx E0 38 abU Wo
def I7 (t16:List ai) (t17 t18:Int) (b1:aa):LS:=⟨[(1,.loc 1 0),(16,.slice 63 5 (cO t16)),(17,.int .i64 t17),(18,.int .i64 t18)],[(1,.flat 26 (aV b1))]⟩
def I6 (gP:List Int) (t58:List ai) (t59 t60:Int) (t69:List ag) (t70 t71:Int) (b1:aa):LS:=⟨[(1,.loc 1 0),(7,.slice 3 1 (aX gP)),(58,.slice 63 5 (cO t58)),(59,.int .i64 t59),(60,.int .i64 t60),(69,.slice 84 13 (fw t69)),(70,.int .i64 t70),(71,.int .i64 t71)],[(1,.flat 26 (aV b1))]⟩
def I5 (t58:List ai) (t59 t60:Int) (b1:aa):LS:=⟨[(1,.loc 1 0),(58,.slice 63 5 (cO t58)),(59,.int .i64 t59),(60,.int .i64 t60)],[(1,.flat 26 (aV b1))]⟩
def Ae (t58:List ai) (t59 t60:Int) (b1:aa):LS:=⟨[(1,.loc 1 0),(58,.slice 63 5 (cO t58)),(59,.int .i64 t59),(60,.int .i64 t60)],[(1,.flat 26 (aV b1))]⟩
def I4:LS:=⟨[],[]⟩
def I3 (b1:aa):LS:=⟨[(1,.loc 1 0)],[(1,.flat 26 (aV b1))]⟩
def Ut (s0:aa):LS:=⟨[(0,.agg (aV s0))],[]⟩
def Hj (k_5 : aa → Option Int) (back : (List ai) → Int → Int → aa → Option Int) (n : Nat) (t16 : List ai) (t17 t18 : Int) (b1 : aa) : Option Int :=
 if decide (t18 < t17) then
 (idx t16 t18).bind fun x2 =>
 if decide (8 < (x2.af.length : Int)) then
 some 2
 else
 if decide (4 < (x2.bg.length : Int)) then
 some 2
 else
 if decide (4 < (x2.bV.length : Int)) then
 some 2
 else
 back t16 t17 (w64 (t18 + 1)) b1
 else
 k_5 b1
theorem alw {k_5} (eW : K1 (A38 [1, 1, 1]) I3 k_5) {back} (aw : K4 (A38 [0, 1, 0, 1, 1]) I7 back) (n : Nat) : K4 (A38 [0, 1, 0, 1, 1]) I7 (Hj k_5 back n) := fun t16 t17 t18 b1 r h =>
 ie h (fun c0 h =>
 be h fun x2 hx2 h =>
 ie h (fun c1 h =>
 rr h [(0, eb c0), (0, R62.idx hx2), (5, .eqv (R76.au x2.af)), (0, eb c1)]) (fun c1 h =>
 ie h (fun c2 h =>
 rr h [(0, eb c0), (0, R62.idx hx2), (5, .eqv (R76.au x2.af)), (0, eb c1), (3, .eqv (R79.au x2.bg)), (0, eb c2)]) (fun c2 h =>
 ie h (fun c3 h =>
 rr h [(0, eb c0), (0, R62.idx hx2), (5, .eqv (R76.au x2.af)), (0, eb c1), (3, .eqv (R79.au x2.bg)), (0, eb c2), (4, .eqv (R83.au x2.bV)), (0, eb c3)]) (fun c3 h =>
 ra (aw h) [(0, eb c0), (0, R62.idx hx2), (5, .eqv (R76.au x2.af)), (0, eb c1), (3, .eqv (R79.au x2.bg)), (0, eb c2), (4, .eqv (R83.au x2.bV)), (0, eb c3)])))) (fun c0 h =>
 ra (eW h) [(0, eb c0)])
def xS (k_5:aa→Option Int):Nat→(List ai)→Int→Int→aa→Option Int
 |0,_,_,_,_=>none
 |n+1,t16,t17,t18,b1=>Hj k_5 (xS k_5 n) n t16 t17 t18 b1
theorem adn {k_5} (eW:K1 (A38 [1,1,1]) I3 k_5):∀n:Nat,K4 (A38 [0,1,0,1,1]) I7 (xS k_5 n)
 |0=>fun _ _ _ _ _ h=>nz h
 |n+1=>fun _ _ _ _ _ h=>alw eW (adn eW n) n h
def Hi (k_2 : (List ai) → Int → Int → aa → Option Int) (back : (List Int) → (List ai) → Int → Int → (List ag) → Int → Int → aa → Option Int) (n : Nat) (gP : List Int) (t58 : List ai) (t59 t60 : Int) (t69 : List ag) (t70 t71 : Int) (b1 : aa) : Option Int :=
 if decide (t71 < t70) then
 (idx t69 t71).bind fun x2 =>
 (F79 n gP [] x2).bind fun x9 =>
 if x9 != 0 then
 some x9
 else
 back gP t58 t59 t60 t69 t70 (w64 (t71 + 1)) b1
 else
 k_2 t58 t59 t60 b1
theorem alv {k_2} (bP : K4 (A38 [1, 1, 1, 0, 0, 1, 0, 1, 1, 1, 1]) I5 k_2) {back} (aw : K8 (A38 [0, 1, 1, 1, 0, 0, 1, 1, 0, 0, 1, 0, 1, 1, 1, 1]) I6 back) (n : Nat) : K8 (A38 [0, 1, 1, 1, 0, 0, 1, 1, 0, 0, 1, 0, 1, 1, 1, 1]) I6 (Hi k_2 back n) := fun gP t58 t59 t60 t69 t70 t71 b1 r h =>
 ie h (fun c0 h =>
 be h fun x2 hx2 h =>
 be h fun x9 hx9 h =>
 ie h (fun c1 h =>
 rr h [(0, eb c0), (0, R83.idx hx2), (5, .call (ev79 n hx9) [.one .same, .one (.sl 3 1)] [] []), (2, eb c1)]) (fun c1 h =>
 ra (aw h) [(0, eb c0), (0, R83.idx hx2), (5, .call (ev79 n hx9) [.one .same, .one (.sl 3 1)] [] []), (2, eb c1)])) (fun c0 h =>
 ra (bP h) [(0, eb c0)])
def xR (k_2:(List ai)→Int→Int→aa→Option Int):Nat→(List Int)→(List ai)→Int→Int→(List ag)→Int→Int→aa→Option Int
 |0,_,_,_,_,_,_,_,_=>none
 |n+1,gP,t58,t59,t60,t69,t70,t71,b1=>Hi k_2 (xR k_2 n) n gP t58 t59 t60 t69 t70 t71 b1
theorem adm {k_2} (bP:K4 (A38 [1,1,1,0,0,1,0,1,1,1,1]) I5 k_2):∀n:Nat,K8 (A38 [0,1,1,1,0,0,1,1,0,0,1,0,1,1,1,1]) I6 (xR k_2 n)
 |0=>fun _ _ _ _ _ _ _ _ _ h=>nz h
 |n+1=>fun _ _ _ _ _ _ _ _ _ h=>alv bP (adm bP n) n h
def Hh (k_3 : (List ai) → Int → Int → aa → Option Int) (n : Nat) (t58 : List ai) (t59 t60 : Int) (b1 : aa) : Option Int :=
 k_3 t58 t59 (w64 (t60 + 1)) b1
theorem alu {k_3} (bw : K4 (A38 [0, 1, 0, 1, 1, 1, 1]) Ae k_3) (n : Nat) : K4 (A38 [1, 1, 1, 0, 0, 1, 0, 1, 1, 1, 1]) I5 (Hh k_3 n) := fun t58 t59 t60 b1 r h =>
 ra (bw h) []
def Hg (k_4 : Option Int) (back : (List ai) → Int → Int → aa → Option Int) (n : Nat) (t58 : List ai) (t59 t60 : Int) (b1 : aa) : Option Int :=
 if decide (t60 < t59) then
 (idx t58 t60).bind fun x3 =>
 (F78 n b1 t60).bind fun x11 =>
 xR (Hh back n) n x11 t58 t59 t60 x3.bV (x3.bV.length : Int) 0 b1
 else
 k_4
theorem als {k_4} (eB : K0 (A38 [1, 1, 1, 1, 1]) I4 k_4) {back} (aw : K4 (A38 [0, 1, 0, 1, 1, 1, 1]) Ae back) (n : Nat) : K4 (A38 [0, 1, 0, 1, 1, 1, 1]) Ae (Hg k_4 back n) := fun t58 t59 t60 b1 r h =>
 ie h (fun c0 h =>
 be h fun x3 hx3 h =>
 be h fun x11 cM h =>
 ra (adm (alu aw n) n h) [(0, eb c0), (1, R62.idx hx3), (6, .call (Lg n cM) [] [] [(67, 200000)]), (3, .eqv (R83.au x3.bV)), (1, R3.frz 67 x11)]) (fun c0 h =>
 ra (eB h) [(0, eb c0)])
def ux (k_4:Option Int):Nat→(List ai)→Int→Int→aa→Option Int
 |0,_,_,_,_=>none
 |n+1,t58,t59,t60,b1=>Hg k_4 (ux k_4 n) n t58 t59 t60 b1
theorem adl {k_4} (eB:K0 (A38 [1,1,1,1,1]) I4 k_4):∀n:Nat,K4 (A38 [0,1,0,1,1,1,1]) Ae (ux k_4 n)
 |0=>fun _ _ _ _ _ h=>nz h
 |n+1=>fun _ _ _ _ _ h=>als eB (adl eB n) n h
def B7 (n : Nat) : Option Int :=
 some 0
theorem alr (n : Nat) : K0 (A38 [1, 1, 1, 1, 1]) I4 (B7 n) := fun r h =>
 rr h []
def He (n : Nat) (b1 : aa) : Option Int :=
 if decide (b1.bE < 0) then
 some 70
 else
 if decide (1000 < b1.bE) then
 some 70
 else
 (F76 n b1).bind fun x11 =>
 if !x11 then
 some 70
 else
 (F77 n b1).bind fun x17 =>
 if !x17 then
 some 70
 else
 ux (B7 n) n b1.J (b1.J.length : Int) 0 b1
theorem alq (n : Nat) : K1 (A38 [1, 1, 1]) I3 (He n) := fun b1 r h =>
 ie h (fun c0 h =>
 rr h [(2, eb c0)]) (fun c0 h =>
 ie h (fun c1 h =>
 rr h [(2, eb c0), (3, eb c1)]) (fun c1 h =>
 be h fun x11 cM h =>
 ie h (fun c2 h =>
 rr h [(2, eb c0), (3, eb c1), (3, .call (aac n cM) [] [] []), (0, eb c2)]) (fun c2 h =>
 be h fun x17 eO h =>
 ie h (fun c3 h =>
 rr h [(2, eb c0), (3, eb c1), (3, .call (aac n cM) [] [] []), (0, eb c2), (3, .call (ev77 n eO) [] [] []), (0, eb c3)]) (fun c3 h =>
 ra (adl (alr n) n h) [(2, eb c0), (3, eb c1), (3, .call (aac n cM) [] [] []), (0, eb c2), (3, .call (ev77 n eO) [] [] []), (0, eb c3), (3, .eqv (R62.au b1.J))]))))
def Ta (n : Nat) (s0 : aa) : Option Int :=
 if decide (8 < (s0.J.length : Int)) then
 some 2
 else
 xS (He n) n s0.J (s0.J.length : Int) 0 s0
theorem alp (n : Nat) : K1 (A38 []) Ut (Ta n) := fun s0 r h =>
 ie h (fun c0 h =>
 rr h [(4, .eqv (R62.au s0.J)), (0, eb c0)]) (fun c0 h =>
 ra (adn (alq n) n h) [(4, .eqv (R62.au s0.J)), (0, eb c0), (2, .eqv (R62.au s0.J))])
def F38 (n:Nat) (s0:aa):Option Int:=Ta n s0
theorem vR (n:Nat):K1 C38 Ut (F38 n):=fun _ _ h=>ca (X:=x38) (alp n h)
def abT (r:Bool):AV:=.bool r
def Wn (r:Bool):List (Nat×Bx):= []
def x39:=fx E0 Tryz.f39 [] []
def A39:=Ax x39 abT Wn
def C39:=Cx E0 39 abT Wn
def I2 (dk:List Int) (t12:List I) (t13 t14:Int):LS:=⟨[(1,.slice 3 1 (aX dk)),(12,.slice 65 3 (aI t12)),(13,.int .i64 t13),(14,.int .i64 t14)],[]⟩
def I1:LS:=⟨[],[]⟩
def Us (eu:List I) (dk:List Int):LS:=⟨[(0,.slice 65 3 (aI eu)),(1,.slice 3 1 (aX dk))],[]⟩
def Hc (k_1 : Option Bool) (back : (List Int) → (List I) → Int → Int → Option Bool) (n : Nat) (dk : List Int) (t12 : List I) (t13 t14 : Int) : Option Bool :=
 if decide (t14 < t13) then
 (idx t12 t14).bind fun x3 =>
 (F80 n x3).bind fun x10 =>
 if !x10 then
 some false
 else
 (idx dk t14).bind fun x18 =>
 if x3.ax != x18 then
 some false
 else
 back dk t12 t13 (w64 (t14 + 1))
 else
 k_1
theorem alo {k_1} (aG : K0 (A39 [1, 1, 1]) I1 k_1) {back} (aw : K4 (A39 [0, 1, 0, 1, 1]) I2 back) (n : Nat) : K4 (A39 [0, 1, 0, 1, 1]) I2 (Hc k_1 back n) := fun dk t12 t13 t14 r h =>
 ie h (fun c0 h =>
 be h fun x3 hx3 h =>
 be h fun x10 cg h =>
 ie h (fun c1 h =>
 rr h [(0, eb c0), (1, R64.idx hx3), (5, .call (Lf n cg) [] [] []), (0, eb c1)]) (fun c1 h =>
 be h fun x18 fN h =>
 ie h (fun c2 h =>
 rr h [(0, eb c0), (1, R64.idx hx3), (5, .call (Lf n cg) [] [] []), (0, eb c1), (5, R3.idx fN), (1, eb c2)]) (fun c2 h =>
 ra (aw h) [(0, eb c0), (1, R64.idx hx3), (5, .call (Lf n cg) [] [] []), (0, eb c1), (5, R3.idx fN), (1, eb c2)]))) (fun c0 h =>
 ra (aG h) [(0, eb c0)])
def xQ (k_1:Option Bool):Nat→(List Int)→(List I)→Int→Int→Option Bool
 |0,_,_,_,_=>none
 |n+1,dk,t12,t13,t14=>Hc k_1 (xQ k_1 n) n dk t12 t13 t14
theorem adk {k_1} (aG:K0 (A39 [1,1,1]) I1 k_1):∀n:Nat,K4 (A39 [0,1,0,1,1]) I2 (xQ k_1 n)
 |0=>fun _ _ _ _ _ h=>nz h
 |n+1=>fun _ _ _ _ _ h=>alo aG (adk aG n) n h
def Hb (n : Nat) : Option Bool :=
 some true
theorem aln (n : Nat) : K0 (A39 [1, 1, 1]) I1 (Hb n) := fun r h =>
 rr h []
def S9 (n : Nat) (eu : List I) (dk : List Int) : Option Bool :=
 if (eu.length : Int) != (dk.length : Int) then
 some false
 else
 xQ (Hb n) n dk eu (eu.length : Int) 0
theorem alm (n : Nat) : K2 (A39 []) Us (S9 n) := fun eu dk r h =>
 ie h (fun c0 h =>
 rr h [(2, .eqv (R64.au eu)), (1, .eqv (R3.au dk)), (0, eb c0)]) (fun c0 h =>
 ra (adk (aln n) n h) [(2, .eqv (R64.au eu)), (1, .eqv (R3.au dk)), (0, eb c0), (1, .eqv (R64.au eu))])
def F39 (n:Nat) (eu:List I) (dk:List Int):Option Bool:=S9 n eu dk
theorem DY (n:Nat):K2 C39 Us (F39 n):=fun _ _ _ h=>ca (X:=x39) (alm n h)
def abS (r:(List Int)):AV:=.ms 200000 1 0 r.length
def Wm (r:(List Int)):List (Nat×Bx):= [(200000,.rows false 3 1 (aX r))]
def x40:=fx E0 Tryz.f40 [] [200000]
def A40:=Ax x40 abS Wm
def C40:=Cx E0 40 abS Wm
def Ur (s0:aa) (aC:Int):LS:=⟨[(0,.agg (aV s0)),(1,.int .i64 aC)],[]⟩
def S8 (n : Nat) (s0 : aa) (aC : Int) : Option (List Int) :=
 (F78 n s0 aC).bind fun x5 =>
 (F81 n s0 aC).bind fun x10 =>
 if !x10 then
 some []
 else
 (idx s0.J aC).bind fun x17 =>
 if decide (x17.av < 0) then
 some []
 else
 (idx s0.J aC).bind fun x27 =>
 (hJ x5.length (if (x5.length : Int) < x27.av then (x5.length : Int) else x27.av)).bind fun x34 =>
 some (x5.take x34)
theorem alk (n : Nat) : K2 (A40 []) Ur (S8 n) := fun s0 aC r h =>
 be h fun x5 hx5 h =>
 be h fun x10 cg h =>
 ie h (fun c0 h =>
 rr h [(4, .call (Lg n hx5) [] [] [(8, 200000)]), (3, .call (pX n cg) [] [] []), (0, eb c0), (3, .born [4] [] 200000 false 3 1)]) (fun c0 h =>
 be h fun x17 eO h =>
 ie h (fun c1 h =>
 rr h [(4, .call (Lg n hx5) [] [] [(8, 200000)]), (3, .call (pX n cg) [] [] []), (0, eb c0), (4, R62.idx eO), (2, eb c1), (2, .born [4] [] 200000 false 3 1)]) (fun c1 h =>
 be h fun x27 nL h =>
 be h fun x34 tu h =>
 rr h [(4, .call (Lg n hx5) [] [] [(8, 200000)]), (3, .call (pX n cg) [] [] []), (0, eb c0), (4, R62.idx eO), (2, eb c1), (5, R62.idx nL), (5, R3.hJ (xs := x5) tu (Nat.le_of_eq rfl)), (1, .ren 8 200000), (0, .shr 200000 (R3.take x5 x34)), (0, .seq 4 (congrArg (fun n_ => (AV.ms 200000 1 0 n_)) ((uS (xs := x5) (Nat.le_trans (jP tu).2 (Nat.le_of_eq rfl))).symm)))]))
def F40 (n:Nat) (s0:aa) (aC:Int):Option (List Int):=S8 n s0 aC
theorem Lj (n:Nat):K2 C40 Ur (F40 n):=fun _ _ _ h=>ca (X:=x40) (alk n h)
def Vb (r:Bool):AV:=.bool r
def Oz (r:Bool):List (Nat×Bx):= []
def x137:=fx E0 Tryz.f137 [] []
def A137:=Ax x137 Vb Oz
def C137:=Cx E0 137 Vb Oz
def N1 (x0:Int):LS:=⟨[(0,.int .i64 x0)],[]⟩
def MR (n : Nat) (x0 : Int) : Option Bool :=
 some (x0 != x0)
theorem agN (n : Nat) : K1 (A137 []) N1 (MR n) := fun x0 r h =>
 rr h []
def Sn (n:Nat) (x0:Int):Option Bool:=MR n x0
theorem kP (n:Nat):K1 C137 N1 (Sn n):=fun _ _ h=>ca (X:=x137) (agN n h)
def Vh (r:Int):AV:=.int .i64 r
def OF (r:Int):List (Nat×Bx):= []
def x121:=fx E0 Tryz.f121 [] []
def A121:=Ax x121 Vh OF
def C121:=Cx E0 121 Vh OF
def N7 (x0 y1:Int):LS:=⟨[(0,.int .i64 x0),(1,.int .i64 y1)],[]⟩
def MX (n : Nat) (x0 y1 : Int) : Option Int :=
 (Sn n x0).bind fun x3 =>
 (Sn n y1).bind fun x7 =>
 if x3 then
 if x7 then
 some 0
 else
 some (-1)
 else
 if x7 then
 some 1
 else
 if decide (x0 < y1) then
 some (-1)
 else
 if decide (y1 < x0) then
 some 1
 else
 some 0
theorem agT (n : Nat) : K2 (A121 []) N7 (MX n) := fun x0 y1 r h =>
 be h fun x3 hx3 h =>
 be h fun x7 hx7 h =>
 ie h (fun c0 g0 => by subst c0; exact (
 ie g0 (fun c1 g1 => by subst c1; exact (
 rr g1 [(2, .call (kP n hx3) [] [] []), (2, .call (kP n hx7) [] [] [])])) (fun c1 g1 => by subst c1; exact (
 rr g1 [(2, .call (kP n hx3) [] [] []), (2, .call (kP n hx7) [] [] [])])))) (fun c0 g0 => by subst c0; exact (
 ie g0 (fun c1 g1 => by subst c1; exact (
 rr g1 [(2, .call (kP n hx3) [] [] []), (2, .call (kP n hx7) [] [] [])])) (fun c1 g1 => by subst c1; exact (
 ie g1 (fun c2 g1 =>
 rr g1 [(2, .call (kP n hx3) [] [] []), (2, .call (kP n hx7) [] [] []), (5, eb c2)]) (fun c2 g1 =>
 ie g1 (fun c3 g1 =>
 rr g1 [(2, .call (kP n hx3) [] [] []), (2, .call (kP n hx7) [] [] []), (5, eb c2), (2, eb c3)]) (fun c3 g1 =>
 rr g1 [(2, .call (kP n hx3) [] [] []), (2, .call (kP n hx7) [] [] []), (5, eb c2), (2, eb c3)]))))))
def Sp (n:Nat) (x0 y1:Int):Option Int:=MX n x0 y1
theorem Rt (n:Nat):K2 C121 N7 (Sp n):=fun _ _ _ h=>ca (X:=x121) (agT n h)
def Va (r:Bool):AV:=.bool r
def Oy (r:Bool):List (Nat×Bx):= []
def x138:=fx E0 Tryz.f138 [] []
def A138:=Ax x138 Va Oy
def C138:=Cx E0 138 Va Oy
def N0 (x0:Int):LS:=⟨[(0,.int .i64 x0)],[]⟩
def MQ (n : Nat) (x0 : Int) : Option Bool :=
 some (x0 != x0)
theorem agM (n : Nat) : K1 (A138 []) N0 (MQ n) := fun x0 r h =>
 rr h []
def Sm (n:Nat) (x0:Int):Option Bool:=MQ n x0
theorem kO (n:Nat):K1 C138 N0 (Sm n):=fun _ _ h=>ca (X:=x138) (agM n h)
def Vg (r:Int):AV:=.int .i64 r
def OE (r:Int):List (Nat×Bx):= []
def x122:=fx E0 Tryz.f122 [] []
def A122:=Ax x122 Vg OE
def C122:=Cx E0 122 Vg OE
def N6 (x0 y1:Int):LS:=⟨[(0,.int .i64 x0),(1,.int .i64 y1)],[]⟩
def MW (n : Nat) (x0 y1 : Int) : Option Int :=
 (Sm n x0).bind fun x3 =>
 (Sm n y1).bind fun x7 =>
 if x3 then
 if x7 then
 some 0
 else
 some (-1)
 else
 if x7 then
 some 1
 else
 if decide (x0 < y1) then
 some (-1)
 else
 if decide (y1 < x0) then
 some 1
 else
 some 0
theorem agS (n : Nat) : K2 (A122 []) N6 (MW n) := fun x0 y1 r h =>
 be h fun x3 hx3 h =>
 be h fun x7 hx7 h =>
 ie h (fun c0 g0 => by subst c0; exact (
 ie g0 (fun c1 g1 => by subst c1; exact (
 rr g1 [(2, .call (kO n hx3) [] [] []), (2, .call (kO n hx7) [] [] [])])) (fun c1 g1 => by subst c1; exact (
 rr g1 [(2, .call (kO n hx3) [] [] []), (2, .call (kO n hx7) [] [] [])])))) (fun c0 g0 => by subst c0; exact (
 ie g0 (fun c1 g1 => by subst c1; exact (
 rr g1 [(2, .call (kO n hx3) [] [] []), (2, .call (kO n hx7) [] [] [])])) (fun c1 g1 => by subst c1; exact (
 ie g1 (fun c2 g1 =>
 rr g1 [(2, .call (kO n hx3) [] [] []), (2, .call (kO n hx7) [] [] []), (5, eb c2)]) (fun c2 g1 =>
 ie g1 (fun c3 g1 =>
 rr g1 [(2, .call (kO n hx3) [] [] []), (2, .call (kO n hx7) [] [] []), (5, eb c2), (2, eb c3)]) (fun c3 g1 =>
 rr g1 [(2, .call (kO n hx3) [] [] []), (2, .call (kO n hx7) [] [] []), (5, eb c2), (2, eb c3)]))))))
def So (n:Nat) (x0 y1:Int):Option Int:=MW n x0 y1
theorem adS (n:Nat):K2 C122 N6 (So n):=fun _ _ _ h=>ca (X:=x122) (agS n h)
def U9 (r:Int):AV:=.int .i64 r
def Ox (r:Int):List (Nat×Bx):= []
def x139:=fx E0 Tryz.f139 [] []
def A139:=Ax x139 U9 Ox
def C139:=Cx E0 139 U9 Ox
def NZ (a0 b1:ByteArray):LS:=⟨[(0,.str a0),(1,.str b1)],[]⟩
def MP (n : Nat) (a0 b1 : ByteArray) : Option Int :=
 (Sk n a0 b1).bind fun x4 =>
 some x4
theorem agL (n : Nat) : K2 (A139 []) NZ (MP n) := fun a0 b1 r h =>
 be h fun x4 hx4 h =>
 rr h [(3, .call (ajc n hx4) [] [] [])]
def aaO (n:Nat) (a0 b1:ByteArray):Option Int:=MP n a0 b1
theorem ajd (n:Nat):K2 C139 NZ (aaO n):=fun _ _ _ h=>ca (X:=x139) (agL n h)
def Vf (r:Int):AV:=.int .i64 r
def OD (r:Int):List (Nat×Bx):= []
def x123:=fx E0 Tryz.f123 [] []
def A123:=Ax x123 Vf OD
def C123:=Cx E0 123 Vf OD
def N5 (a0 b1:ByteArray):LS:=⟨[(0,.str a0),(1,.str b1)],[]⟩
def MV (n : Nat) (a0 b1 : ByteArray) : Option Int :=
 (aaO n a0 b1).bind fun x4 =>
 some x4
theorem agR (n : Nat) : K2 (A123 []) N5 (MV n) := fun a0 b1 r h =>
 be h fun x4 hx4 h =>
 rr h [(3, .call (ajd n hx4) [] [] [])]
def aaP (n:Nat) (a0 b1:ByteArray):Option Int:=MV n a0 b1
theorem aje (n:Nat):K2 C123 N5 (aaP n):=fun _ _ _ h=>ca (X:=x123) (agR n h)
def abd (r:Int):AV:=.int .i64 r
def VG (r:Int):List (Nat×Bx):= []
def x95:=fx E0 Tryz.f95 [] []
def A95:=Ax x95 abd VG
def C95:=Cx E0 95 abd VG
def TC (a0 b1:I):LS:=⟨[(0,.agg (fF a0)),(1,.agg (fF b1))],[]⟩
def Sy (n : Nat) (a0 b1 : I) : Option Int :=
 if ((a0.ax == b1.ax) && ((a0.bQ == b1.bQ) && ((decide (a0.bq = b1.bq)) && true))) then
 some 0
 else
 (Sp n a0.ax b1.ax).bind fun x11 =>
 if x11 != 0 then
 some x11
 else
 (So n a0.bQ b1.bQ).bind fun x20 =>
 if x20 != 0 then
 some x20
 else
 (aaP n a0.bq b1.bq).bind fun x29 =>
 some x29
theorem ajl (n : Nat) : K2 (A95 []) TC (Sy n) := fun a0 b1 r h =>
 ie h (fun c0 h =>
 rr h [(5, eb c0)]) (fun c0 h =>
 be h fun x11 cM h =>
 ie h (fun c1 h =>
 rr h [(5, eb c0), (4, .call (Rt n cM) [] [] []), (2, eb c1)]) (fun c1 h =>
 be h fun x20 iH h =>
 ie h (fun c2 h =>
 rr h [(5, eb c0), (4, .call (Rt n cM) [] [] []), (2, eb c1), (4, .call (adS n iH) [] [] []), (2, eb c2)]) (fun c2 h =>
 be h fun x29 rC h =>
 rr h [(5, eb c0), (4, .call (Rt n cM) [] [] []), (2, eb c1), (4, .call (adS n iH) [] [] []), (2, eb c2), (4, .call (aje n rC) [] [] [])])))
def F95 (n:Nat) (a0 b1:I):Option Int:=Sy n a0 b1
theorem ev95 (n:Nat):K2 C95 TC (F95 n):=fun _ _ _ h=>ca (X:=x95) (ajl n h)
def abe (r:Int):AV:=.int .i64 r
def VH (r:Int):List (Nat×Bx):= []
def x94:=fx E0 Tryz.f94 [] []
def A94:=Ax x94 abe VH
def C94:=Cx E0 94 abe VH
def H3 (s10 s21 t11:List I) (t12 t13:Int):LS:=⟨[(0,.slice 65 3 (aI s10)),(1,.slice 65 3 (aI s21)),(2,.fn 95 [] []),(11,.slice 65 3 (aI t11)),(12,.int .i64 t12),(13,.int .i64 t13)],[]⟩
def H0 (s10 s21:List I):LS:=⟨[(0,.slice 65 3 (aI s10)),(1,.slice 65 3 (aI s21))],[]⟩
def TD (s10 s21:List I):LS:=⟨[(0,.slice 65 3 (aI s10)),(1,.slice 65 3 (aI s21)),(2,.fn 95 [] [])],[]⟩
def Gc (k_1 : (List I) → (List I) → Option Int) (back : (List I) → (List I) → (List I) → Int → Int → Option Int) (n : Nat) (s10 s21 t11 : List I) (t12 t13 : Int) : Option Int :=
 if decide (t13 < t12) then
 (idx t11 t13).bind fun x3 =>
 if !decide (t13 < (s21.length : Int)) then
 some 1
 else
 (idx s21 t13).bind fun x15 =>
 (F95 n x3 x15).bind fun x23 =>
 if x23 != 0 then
 some x23
 else
 back s10 s21 t11 t12 (w64 (t13 + 1))
 else
 k_1 s10 s21
theorem ajo {k_1} (aG : K2 (A94 [1, 1]) H0 k_1) {back} (aw : K5 (A94 [0, 1, 0, 1]) H3 back) (n : Nat) : K5 (A94 [0, 1, 0, 1]) H3 (Gc k_1 back n) := fun s10 s21 t11 t12 t13 r h =>
 ie h (fun c0 h =>
 be h fun x3 hx3 h =>
 ie h (fun c1 h =>
 rr h [(0, eb c0), (1, R64.idx hx3), (6, .eqv (R64.au s21)), (0, eb c1)]) (fun c1 h =>
 be h fun x15 cK h =>
 be h fun x23 eN h =>
 ie h (fun c2 h =>
 rr h [(0, eb c0), (1, R64.idx hx3), (6, .eqv (R64.au s21)), (0, eb c1), (2, R64.idx cK), (6, .call (ev95 n eN) [] [] []), (2, eb c2)]) (fun c2 h =>
 ra (aw h) [(0, eb c0), (1, R64.idx hx3), (6, .eqv (R64.au s21)), (0, eb c1), (2, R64.idx cK), (6, .call (ev95 n eN) [] [] []), (2, eb c2)]))) (fun c0 h =>
 ra (aG h) [(0, eb c0)])
def ui (k_1:(List I)→(List I)→Option Int):Nat→(List I)→(List I)→(List I)→Int→Int→Option Int
 |0,_,_,_,_,_=>none
 |n+1,s10,s21,t11,t12,t13=>Gc k_1 (ui k_1 n) n s10 s21 t11 t12 t13
theorem acC {k_1} (aG:K2 (A94 [1,1]) H0 k_1):∀n:Nat,K5 (A94 [0,1,0,1]) H3 (ui k_1 n)
 |0=>fun _ _ _ _ _ _ h=>nz h
 |n+1=>fun _ _ _ _ _ _ h=>ajo aG (acC aG n) n h
def BX (n : Nat) (s10 s21 : List I) : Option Int :=
 if decide ((s10.length : Int) < (s21.length : Int)) then
 some (-1)
 else
 some 0
theorem ajn (n : Nat) : K2 (A94 [1, 1]) H0 (BX n) := fun s10 s21 r h =>
 ie h (fun c0 h =>
 rr h [(1, .eqv (R64.au s10)), (1, .eqv (R64.au s21)), (0, eb c0)]) (fun c0 h =>
 rr h [(1, .eqv (R64.au s10)), (1, .eqv (R64.au s21)), (0, eb c0)])
def ael (n : Nat) (s10 s21 : List I) : Option Int :=
 ui (BX n) n s10 s21 s10 (s10.length : Int) 0
theorem ajm (n : Nat) : K2 (A94 []) TD (ael n) := fun s10 s21 r h =>
 ra (acC (ajn n) n h) [(2, .eqv (R64.au s10))]
def F94 (n:Nat) (s10 s21:List I):Option Int:=ael n s10 s21
theorem ev94 (n:Nat):K2 C94 TD (F94 n):=fun _ _ _ h=>ca (X:=x94) (ajm n h)
def abK (r:Int):AV:=.int .i64 r
def Wd (r:Int):List (Nat×Bx):= []
def x52:=fx E0 Tryz.f52 [] []
def A52:=Ax x52 abK Wd
def C52:=Cx E0 52 abK Wd
def Uj (a0 b1:List I):LS:=⟨[(0,.slice 65 3 (aI a0)),(1,.slice 65 3 (aI b1))],[]⟩
def aep (n : Nat) (a0 b1 : List I) : Option Int :=
 (F94 n a0 b1).bind fun x4 =>
 some x4
theorem akP (n : Nat) : K2 (A52 []) Uj (aep n) := fun a0 b1 r h =>
 be h fun x4 hx4 h =>
 rr h [(3, .call (ev94 n hx4) [] [] [])]
def F52 (n:Nat) (a0 b1:List I):Option Int:=aep n a0 b1
theorem vQ (n:Nat):K2 C52 Uj (F52 n):=fun _ _ _ h=>ca (X:=x52) (akP n h)
def abz (r:Bool):AV:=.bool r
def V2 (r:Bool):List (Nat×Bx):= []
def x70:=fx E0 Tryz.f70 [] []
def A70:=Ax x70 abz V2
def C70:=Cx E0 70 abz V2
def afT (aM i10:Int) (gR qC:Bool) (t41:List I) (t42 t43:Int) (b9:ai) (b11:I):LS:=⟨[(3,.int .i64 aM),(9,.loc 9 0),(10,.int .i64 i10),(11,.loc 11 0),(12,.bool gR),(13,.bool qC),(41,.slice 65 3 (aI t41)),(42,.int .i64 t42),(43,.int .i64 t43)],[(9,.flat 63 (fm b9)),(11,.flat 65 (fF b11))]⟩
def afS (aM i10:Int) (gR:Bool) (t41:List I) (t42 t43:Int) (b9:ai) (b11:I):LS:=⟨[(3,.int .i64 aM),(9,.loc 9 0),(10,.int .i64 i10),(11,.loc 11 0),(12,.bool gR),(41,.slice 65 3 (aI t41)),(42,.int .i64 t42),(43,.int .i64 t43)],[(9,.flat 63 (fm b9)),(11,.flat 65 (fF b11))]⟩
def uX (aM:Int) (t41:List I) (t42 t43:Int) (b9:ai):LS:=⟨[(3,.int .i64 aM),(9,.loc 9 0),(41,.slice 65 3 (aI t41)),(42,.int .i64 t42),(43,.int .i64 t43)],[(9,.flat 63 (fm b9))]⟩
def Iy:LS:=⟨[],[]⟩
def afR (aC:Int) (bN:List I) (aM:Int) (t29:Bool) (b4:aa):LS:=⟨[(1,.int .i64 aC),(2,.slice 65 3 (aI bN)),(3,.int .i64 aM),(4,.loc 4 0),(29,.bool t29)],[(4,.flat 26 (aV b4))]⟩
def TY (s0:aa) (aC:Int) (bN:List I) (aM:Int):LS:=⟨[(0,.agg (aV s0)),(1,.int .i64 aC),(2,.slice 65 3 (aI bN)),(3,.int .i64 aM)],[]⟩
def B4 (k_2 : Int → (List I) → Int → Int → ai → Option Bool) (n : Nat) (aM i10 : Int) (gR qC : Bool) (t41 : List I) (t42 t43 : Int) (b9 : ai) (b11 : I) : Option Bool :=
 (idx b9.af i10).bind fun x6 =>
 if b11.ax != x6.ax then
 if !gR then
 if !qC then
 some false
 else
 k_2 aM t41 t42 (w64 (t43 + 1)) b9
 else
 k_2 aM t41 t42 (w64 (t43 + 1)) b9
 else
 k_2 aM t41 t42 (w64 (t43 + 1)) b9
theorem R4 {k_2} (bP : K5 (A70 [0, 1, 0, 1, 1, 1, 1]) uX k_2) (n : Nat) : K9 (A70 [1, 1, 1, 1, 0, 0, 1, 1, 0, 0, 1, 0, 1, 1, 1, 1]) afT (B4 k_2 n) := fun aM i10 gR qC t41 t42 t43 b9 b11 r h =>
 be h fun x6 hx6 h =>
 ie h (fun c0 h =>
 ie h (fun c1 h =>
 ie h (fun c2 h =>
 rr h [(5, R76.idx hx6), (2, eb c0), (2, eb c1), (3, eb c2)]) (fun c2 h =>
 ra (bP h) [(5, R76.idx hx6), (2, eb c0), (2, eb c1), (3, eb c2)])) (fun c1 h =>
 ra (bP h) [(5, R76.idx hx6), (2, eb c0), (2, eb c1)])) (fun c0 h =>
 ra (bP h) [(5, R76.idx hx6), (2, eb c0)])
def ym (k_2 : Int → (List I) → Int → Int → ai → Option Bool) (n : Nat) (aM i10 : Int) (gR : Bool) (t41 : List I) (t42 t43 : Int) (b9 : ai) (b11 : I) : Option Bool :=
 if b11.ax == 1 then
 if aM == 3 then
 B4 k_2 n aM i10 gR (!decide (i10 < b9.av)) t41 t42 t43 b9 b11
 else
 B4 k_2 n aM i10 gR false t41 t42 t43 b9 b11
 else
 B4 k_2 n aM i10 gR false t41 t42 t43 b9 b11
theorem R2 {k_2} (bP : K5 (A70 [0, 1, 0, 1, 1, 1, 1]) uX k_2) (n : Nat) : K8 (A70 [1, 1, 1, 0, 0, 1, 1, 0, 0, 1, 0, 1, 1, 1, 1]) afS (ym k_2 n) := fun aM i10 gR t41 t42 t43 b9 b11 r h =>
 ie h (fun c0 h =>
 ie h (fun c1 h =>
 ra (R4 bP n h) [(2, eb c0), (2, eb c1)]) (fun c1 h =>
 ra (R4 bP n h) [(2, eb c0), (2, eb c1)])) (fun c0 h =>
 ra (R4 bP n h) [(2, eb c0)])
def GI (k_3 : Option Bool) (back : Int → (List I) → Int → Int → ai → Option Bool) (n : Nat) (aM : Int) (t41 : List I) (t42 t43 : Int) (b9 : ai) : Option Bool :=
 if decide (t43 < t42) then
 (idx t41 t43).bind fun x3 =>
 (Sw n x3).bind fun x10 =>
 if !x10 then
 some false
 else
 if x3.ax == 2 then
 if aM != 1 then
 ym back n aM t43 (!decide (t43 < b9.av)) t41 t42 t43 b9 x3
 else
 ym back n aM t43 false t41 t42 t43 b9 x3
 else
 ym back n aM t43 false t41 t42 t43 b9 x3
 else
 k_3
theorem akq {k_3} (bw : K0 (A70 [1, 1, 1, 1, 1]) Iy k_3) {back} (aw : K5 (A70 [0, 1, 0, 1, 1, 1, 1]) uX back) (n : Nat) : K5 (A70 [0, 1, 0, 1, 1, 1, 1]) uX (GI k_3 back n) := fun aM t41 t42 t43 b9 r h =>
 ie h (fun c0 h =>
 be h fun x3 hx3 h =>
 be h fun x10 cg h =>
 ie h (fun c1 h =>
 rr h [(0, eb c0), (1, R64.idx hx3), (5, .call (tQ n cg) [] [] []), (0, eb c1)]) (fun c1 h =>
 ie h (fun c2 h =>
 ie h (fun c3 h =>
 ra (R2 aw n h) [(0, eb c0), (1, R64.idx hx3), (5, .call (tQ n cg) [] [] []), (0, eb c1), (2, eb c2), (2, eb c3)]) (fun c3 h =>
 ra (R2 aw n h) [(0, eb c0), (1, R64.idx hx3), (5, .call (tQ n cg) [] [] []), (0, eb c1), (2, eb c2), (2, eb c3)])) (fun c2 h =>
 ra (R2 aw n h) [(0, eb c0), (1, R64.idx hx3), (5, .call (tQ n cg) [] [] []), (0, eb c1), (2, eb c2)]))) (fun c0 h =>
 ra (bw h) [(0, eb c0)])
def rb (k_3:Option Bool):Nat→Int→(List I)→Int→Int→ai→Option Bool
 |0,_,_,_,_,_=>none
 |n+1,aM,t41,t42,t43,b9=>GI k_3 (rb k_3 n) n aM t41 t42 t43 b9
theorem acT {k_3} (bw:K0 (A70 [1,1,1,1,1]) Iy k_3):∀n:Nat,K5 (A70 [0,1,0,1,1,1,1]) uX (rb k_3 n)
 |0=>fun _ _ _ _ _ _ h=>nz h
 |n+1=>fun _ _ _ _ _ _ h=>akq bw (acT bw n) n h
def yl (n : Nat) : Option Bool :=
 some true
theorem akp (n : Nat) : K0 (A70 [1, 1, 1, 1, 1]) Iy (yl n) := fun r h =>
 rr h []
def yk (n : Nat) (aC : Int) (bN : List I) (aM : Int) (t29 : Bool) (b4 : aa) : Option Bool :=
 if t29 then
 some false
 else
 (idx b4.J aC).bind fun x4 =>
 if (bN.length : Int) != (x4.af.length : Int) then
 some false
 else
 rb (yl n) n aM bN (bN.length : Int) 0 x4
theorem F5 (n : Nat) : K5 (A70 [1, 0, 1]) afR (yk n) := fun aC bN aM t29 b4 r h =>
 ie h (fun c0 g0 => by subst c0; exact (
 rr g0 [])) (fun c0 g0 => by subst c0; exact (
 be g0 fun x4 hx4 g0 =>
 ie g0 (fun c1 g0 =>
 rr g0 [(3, R62.idx hx4), (4, .eqv (R64.au bN)), (2, .eqv (R76.au x4.af)), (0, eb c1)]) (fun c1 g0 =>
 ra (acT (akp n) n g0) [(3, R62.idx hx4), (4, .eqv (R64.au bN)), (2, .eqv (R76.au x4.af)), (0, eb c1), (1, .eqv (R64.au bN))])))
def SP (n : Nat) (s0 : aa) (aC : Int) (bN : List I) (aM : Int) : Option Bool :=
 if aM != 1 then
 if aM != 2 then
 if aM != 3 then
 yk n aC bN aM true s0
 else
 (F81 n s0 aC).bind fun x16 =>
 yk n aC bN aM (!x16) s0
 else
 (F81 n s0 aC).bind fun x14 =>
 yk n aC bN aM (!x14) s0
 else
 (F81 n s0 aC).bind fun x12 =>
 yk n aC bN aM (!x12) s0
theorem ako (n : Nat) : K4 (A70 []) TY (SP n) := fun s0 aC bN aM r h =>
 ie h (fun c0 h =>
 ie h (fun c1 h =>
 ie h (fun c2 h =>
 ra (F5 n h) [(3, eb c0), (2, eb c1), (3, eb c2)]) (fun c2 h =>
 be h fun x16 dz h =>
 ra (F5 n h) [(3, eb c0), (2, eb c1), (3, eb c2), (4, .call (pX n dz) [] [] [])])) (fun c1 h =>
 be h fun x14 gB h =>
 ra (F5 n h) [(3, eb c0), (2, eb c1), (6, .call (pX n gB) [] [] [])])) (fun c0 h =>
 be h fun x12 bT h =>
 ra (F5 n h) [(3, eb c0), (7, .call (pX n bT) [] [] [])])
def F70 (n:Nat) (s0:aa) (aC:Int) (bN:List I) (aM:Int):Option Bool:=SP n s0 aC bN aM
theorem DX (n:Nat):K4 C70 TY (F70 n):=fun _ _ _ _ _ h=>ca (X:=x70) (ako n h)
def abm (r:(List I)):AV:=.ms 200000 3 0 r.length
def VP (r:(List I)):List (Nat×Bx):= [(200000,.rows false 65 3 (aI r))]
def x82:=fx E0 Tryz.f82 [] [200000]
def A82:=Ax x82 abm VP
def C82:=Cx E0 82 abm VP
def TN (s0:aa) (aC:Int) (bN:List I):LS:=⟨[(0,.agg (aV s0)),(1,.int .i64 aC),(2,.slice 65 3 (aI bN))],[]⟩
def SE (n : Nat) (s0 : aa) (aC : Int) (bN : List I) : Option (List I) :=
 (F81 n s0 aC).bind fun x5 =>
 if !x5 then
 some []
 else
 (idx s0.J aC).bind fun x12 =>
 if decide (x12.av < 0) then
 some []
 else
 (idx s0.J aC).bind fun x23 =>
 (cut bN none (some (if (bN.length : Int) < x23.av then (bN.length : Int) else x23.av))).bind fun x30 =>
 (app [] x30).bind fun x32 =>
 some x32
theorem ajM (n : Nat) : K3 (A82 []) TN (SE n) := fun s0 aC bN r h =>
 be h fun x5 hx5 h =>
 ie h (fun c0 h =>
 rr h [(4, .call (pX n hx5) [] [] []), (0, eb c0), (3, .born [6] [] 200000 false 65 3)]) (fun c0 h =>
 be h fun x12 bT h =>
 ie h (fun c1 h =>
 rr h [(4, .call (pX n hx5) [] [] []), (0, eb c0), (4, R62.idx bT), (2, eb c1), (2, .born [6] [] 200000 false 65 3)]) (fun c1 h =>
 be h fun x23 eN h =>
 be h fun x30 pK h =>
 be h fun x32 lV h =>
 rr h [(4, .call (pX n hx5) [] [] []), (0, eb c0), (4, R62.idx bT), (2, eb c1), (6, R62.idx eN), (3, .eqv (R64.au bN)), (1, R64.cut pK), (0, R64.app lV .dat), (1, .ren 20 200000)]))
def F82 (n:Nat) (s0:aa) (aC:Int) (bN:List I):Option (List I):=SE n s0 aC bN
theorem ev82 (n:Nat):K3 C82 TN (F82 n):=fun _ _ _ _ h=>ca (X:=x82) (ajM n h)
def abR (r:Bool):AV:=.bool r
def Wl (r:Bool):List (Nat×Bx):= []
def x41:=fx E0 Tryz.f41 [] []
def A41:=Ax x41 abR Wl
def C41:=Cx E0 41 abR Wl
def I0 (w6:Int) (t53:List Int) (t54 t55:Int) (b3:ak) (b43 b74:List Int):LS:=⟨[(3,.loc 3 0),(5,.ms 43 1 0 b43.length),(6,.ms 74 1 0 b74.length),(7,.int .i64 w6),(53,.slice 3 1 (aX t53)),(54,.int .i64 t54),(55,.int .i64 t55)],[(3,.flat 55 (fq b3)),(43,.rows false 3 1 (aX b43)),(74,.rows true 3 1 (aX b74))]⟩
def IZ (b3:ak) (b74:List Int):LS:=⟨[(3,.loc 3 0),(6,.ms 74 1 0 b74.length)],[(3,.flat 55 (fq b3)),(74,.rows true 3 1 (aX b74))]⟩
def Uq (s0:aa) (w1:ak):LS:=⟨[(0,.agg (aV s0)),(1,.agg (fq w1))],[]⟩
def Ha (k_1 : ak → (List Int) → Option Bool) (back : Int → (List Int) → Int → Int → ak → (List Int) → (List Int) → Option Bool) (n : Nat) (w6 : Int) (t53 : List Int) (t54 t55 : Int) (b3 : ak) (b43 b74 : List Int) : Option Bool :=
 if decide (t55 < t54) then
 (idx t53 t55).bind fun x2 =>
 if !decide (w6 < x2) then
 some false
 else
 if !decide (x2 < (b43.length : Int)) then
 some false
 else
 (bnd b43.length x2).bind fun x18 =>
 (b43[0 + x18]?).bind fun x20 =>
 (app b74 [x20]).bind fun x23 =>
 back x2 t53 t54 (w64 (t55 + 1)) b3 b43 x23
 else
 k_1 b3 b74
theorem alj {k_1} (aG : K2 (A41 [1, 1, 1, 1, 0, 1, 1, 1, 0, 1, 0, 1]) IZ k_1) {back} (aw : K7 (A41 [0, 1, 0, 1, 1, 1, 0, 1, 1, 1, 0, 1, 0, 1]) I0 back) (n : Nat) : K7 (A41 [0, 1, 0, 1, 1, 1, 0, 1, 1, 1, 0, 1, 0, 1]) I0 (Ha k_1 back n) := fun w6 t53 t54 t55 b3 b43 b74 r h =>
 ie h (fun c0 h =>
 be h fun x2 hx2 h =>
 ie h (fun c1 h =>
 rr h [(0, eb c0), (0, R3.idx hx2), (4, eb c1)]) (fun c1 h =>
 ie h (fun c2 h =>
 rr h [(0, eb c0), (0, R3.idx hx2), (4, eb c1), (4, eb c2)]) (fun c2 h =>
 be h fun x18 fN h =>
 be h fun x20 iH h =>
 be h fun x23 eN h =>
 ra (aw h) [(0, eb c0), (0, R3.idx hx2), (4, eb c1), (4, eb c2), (4, cY fN), (0, R3.row iH), (1, R3.app eN (R3.srW [x20]))]))) (fun c0 h =>
 ra (aG h) [(0, eb c0)])
def xP (k_1:ak→(List Int)→Option Bool):Nat→Int→(List Int)→Int→Int→ak→(List Int)→(List Int)→Option Bool
 |0,_,_,_,_,_,_,_=>none
 |n+1,w6,t53,t54,t55,b3,b43,b74=>Ha k_1 (xP k_1 n) n w6 t53 t54 t55 b3 b43 b74
theorem adj {k_1} (aG:K2 (A41 [1,1,1,1,0,1,1,1,0,1,0,1]) IZ k_1):∀n:Nat,K7 (A41 [0,1,0,1,1,1,0,1,1,1,0,1,0,1]) I0 (xP k_1 n)
 |0=>fun _ _ _ _ _ _ _ _ h=>nz h
 |n+1=>fun _ _ _ _ _ _ _ _ h=>alj aG (adj aG n) n h
def G9 (n : Nat) (b3 : ak) (b74 : List Int) : Option Bool :=
 (F39 n b3.aJ b74).bind fun x4 =>
 some x4
theorem ali (n : Nat) : K2 (A41 [1, 1, 1, 1, 0, 1, 1, 1, 0, 1, 0, 1]) IZ (G9 n) := fun b3 b74 r h =>
 be h fun x4 hx4 h =>
 rr h [(3, R3.frz 74 b74), (0, .call (DY n hx4) [.one .same, .one (.sl 0 0)] [] [])]
def S7 (n : Nat) (s0 : aa) (w1 : ak) : Option Bool :=
 if w1.fOp == 1 then
 if (w1.af.length : Int) == 0 then
 (F70 n s0 w1.ar w1.aJ 1).bind fun x18 =>
 if x18 then
 (F82 n s0 w1.ar w1.aJ).bind fun x27 =>
 (F52 n x27 w1.av).bind fun x31 =>
 some (x31 == 0)
 else
 some false
 else
 some false
 else
 if w1.fOp == 2 then
 (F78 n s0 w1.ar).bind fun x13 =>
 (idx s0.J w1.ar).bind fun x21 =>
 xP (G9 n) n (w64 (x21.av - 1)) w1.af (w1.af.length : Int) 0 w1 x13 []
 else
 if (w1.af.length : Int) == 0 then
 some ((w1.aJ.length : Int) == 0)
 else
 some false
theorem alh (n : Nat) : K2 (A41 []) Uq (S7 n) := fun s0 w1 r h =>
 ie h (fun c0 h =>
 ie h (fun c1 h =>
 be h fun x18 fN h =>
 ie h (fun c2 g0 => by subst c2; exact (
 be g0 fun x27 nL g0 =>
 be g0 fun x31 pJ g0 =>
 rr g0 [(5, eb c0), (3, .eqv (R3.au w1.af)), (0, eb c1), (6, .call (DX n fN) [] [] []), (7, .call (cd (e := 65) (z := false) (Q := aI x27) (ev82 n nL) (R64.len x27)) [] [] []), (2, .call (vQ n pJ) [] [] [])])) (fun c2 g0 => by subst c2; exact (
 rr g0 [(5, eb c0), (3, .eqv (R3.au w1.af)), (0, eb c1), (6, .call (DX n fN) [] [] [])]))) (fun c1 h =>
 rr h [(5, eb c0), (3, .eqv (R3.au w1.af)), (0, eb c1)])) (fun c0 h =>
 ie h (fun c1 h =>
 be h fun x13 bY h =>
 be h fun x21 jc h =>
 ra (adj (ali n) n h) [(5, eb c0), (1, eb c1), (4, .call (Lg n bY) [] [] [(43, 200000)]), (6, R62.idx jc), (6, .eqv (R3.au w1.af)), (1, .born [6] [] 74 true 3 1)]) (fun c1 h =>
 ie h (fun c2 h =>
 rr h [(5, eb c0), (1, eb c1), (3, .eqv (R3.au w1.af)), (0, eb c2), (3, .eqv (R64.au w1.aJ))]) (fun c2 h =>
 rr h [(5, eb c0), (1, eb c1), (3, .eqv (R3.au w1.af)), (0, eb c2)])))
def F41 (n:Nat) (s0:aa) (w1:ak):Option Bool:=S7 n s0 w1
theorem Ro (n:Nat):K2 C41 Uq (F41 n):=fun _ _ _ h=>ca (X:=x41) (alh n h)
def abQ (r:Int):AV:=.int .i64 r
def Wj (r:Int):List (Nat×Bx):= []
def x42:=fx E0 Tryz.f42 [] []
def A42:=Ax x42 abQ Wj
def C42:=Cx E0 42 abQ Wj
def Uo (a0 b1:ak):LS:=⟨[(0,.agg (fq a0)),(1,.agg (fq b1))],[]⟩
def S6 (n : Nat) (a0 b1 : ak) : Option Int :=
 if a0.ar != b1.ar then
 if decide (a0.ar < b1.ar) then
 some (-1)
 else
 some 1
 else
 (F52 n a0.av b1.av).bind fun x13 =>
 some x13
theorem alg (n : Nat) : K2 (A42 []) Uo (S6 n) := fun a0 b1 r h =>
 ie h (fun c0 h =>
 ie h (fun c1 h =>
 rr h [(7, eb c0), (4, eb c1)]) (fun c1 h =>
 rr h [(7, eb c0), (4, eb c1)])) (fun c0 h =>
 be h fun x13 bY h =>
 rr h [(7, eb c0), (4, .call (vQ n bY) [] [] [])])
def F42 (n:Nat) (a0 b1:ak):Option Int:=S6 n a0 b1
theorem ev42 (n:Nat):K2 C42 Uo (F42 n):=fun _ _ _ h=>ca (X:=x42) (alg n h)
def acq (r:Int):AV:=.int .i64 r
def WL (r:Int):List (Nat×Bx):= []
def x12:=fx E0 Tryz.f12 [] []
def A12:=Ax x12 acq WL
def C12:=Cx E0 12 acq WL
def Jo (bC t16:List ak) (t17 t18:Int) (b2:aa):LS:=⟨[(1,.slice 55 5 (cn bC)),(2,.loc 2 0),(16,.slice 55 5 (cn t16)),(17,.int .i64 t17),(18,.int .i64 t18)],[(2,.flat 26 (aV b2))]⟩
def Jn:LS:=⟨[],[]⟩
def UR (s0:aa) (bC:List ak):LS:=⟨[(0,.agg (aV s0)),(1,.slice 55 5 (cn bC))],[]⟩
def HF (k_1 : Option Int) (back : (List ak) → (List ak) → Int → Int → aa → Option Int) (n : Nat) (bC t16 : List ak) (t17 t18 : Int) (b2 : aa) : Option Int :=
 if decide (t18 < t17) then
 (idx t16 t18).bind fun x3 =>
 if decide (x3.fOp < 1) then
 some 1
 else
 if decide (3 < x3.fOp) then
 some 1
 else
 if decide (x3.ar < 0) then
 some 1
 else
 if !decide (x3.ar < (b2.J.length : Int)) then
 some 1
 else
 (F40 n b2 x3.ar).bind fun x35 =>
 (F39 n x3.av x35).bind fun x37 =>
 if !x37 then
 some 270
 else
 (F41 n b2 x3).bind fun x43 =>
 if !x43 then
 some 270
 else
 if decide (0 < t18) then
 (idx bC (w64 (t18 - 1))).bind fun x53 =>
 (F42 n x53 x3).bind fun x57 =>
 if !decide (x57 < 0) then
 some 270
 else
 back bC t16 t17 (w64 (t18 + 1)) b2
 else
 back bC t16 t17 (w64 (t18 + 1)) b2
 else
 k_1
theorem amm {k_1} (aG : K0 (A12 [1, 1, 1, 1]) Jn k_1) {back} (aw : K5 (A12 [0, 1, 0, 1, 1, 1]) Jo back) (n : Nat) : K5 (A12 [0, 1, 0, 1, 1, 1]) Jo (HF k_1 back n) := fun bC t16 t17 t18 b2 r h =>
 ie h (fun c0 h =>
 be h fun x3 hx3 h =>
 ie h (fun c1 h =>
 rr h [(0, eb c0), (1, R54.idx hx3), (6, eb c1)]) (fun c1 h =>
 ie h (fun c2 h =>
 rr h [(0, eb c0), (1, R54.idx hx3), (6, eb c1), (3, eb c2)]) (fun c2 h =>
 ie h (fun c3 h =>
 rr h [(0, eb c0), (1, R54.idx hx3), (6, eb c1), (3, eb c2), (4, eb c3)]) (fun c3 h =>
 ie h (fun c4 h =>
 rr h [(0, eb c0), (1, R54.idx hx3), (6, eb c1), (3, eb c2), (4, eb c3), (6, .eqv (R62.au b2.J)), (0, eb c4)]) (fun c4 h =>
 be h fun x35 pI h =>
 be h fun x37 lU h =>
 ie h (fun c5 h =>
 rr h [(0, eb c0), (1, R54.idx hx3), (6, eb c1), (3, eb c2), (4, eb c3), (6, .eqv (R62.au b2.J)), (0, eb c4), (6, .call (cd (e := 3) (z := false) (Q := aX x35) (Lj n pI) (R3.len x35)) [] [] []), (0, .call (DY n lU) [] [] []), (0, eb c5)]) (fun c5 h =>
 be h fun x43 nK h =>
 ie h (fun c6 h =>
 rr h [(0, eb c0), (1, R54.idx hx3), (6, eb c1), (3, eb c2), (4, eb c3), (6, .eqv (R62.au b2.J)), (0, eb c4), (6, .call (cd (e := 3) (z := false) (Q := aX x35) (Lj n pI) (R3.len x35)) [] [] []), (0, .call (DY n lU) [] [] []), (0, eb c5), (3, .call (Ro n nK) [] [] []), (0, eb c6)]) (fun c6 h =>
 ie h (fun c7 h =>
 be h fun x53 QZ h =>
 be h fun x57 KH h =>
 ie h (fun c8 h =>
 rr h [(0, eb c0), (1, R54.idx hx3), (6, eb c1), (3, eb c2), (4, eb c3), (6, .eqv (R62.au b2.J)), (0, eb c4), (6, .call (cd (e := 3) (z := false) (Q := aX x35) (Lj n pI) (R3.len x35)) [] [] []), (0, .call (DY n lU) [] [] []), (0, eb c5), (3, .call (Ro n nK) [] [] []), (0, eb c6), (2, eb c7), (4, R54.idx QZ), (2, .call (ev42 n KH) [] [] []), (0, eb c8)]) (fun c8 h =>
 ra (aw h) [(0, eb c0), (1, R54.idx hx3), (6, eb c1), (3, eb c2), (4, eb c3), (6, .eqv (R62.au b2.J)), (0, eb c4), (6, .call (cd (e := 3) (z := false) (Q := aX x35) (Lj n pI) (R3.len x35)) [] [] []), (0, .call (DY n lU) [] [] []), (0, eb c5), (3, .call (Ro n nK) [] [] []), (0, eb c6), (2, eb c7), (4, R54.idx QZ), (2, .call (ev42 n KH) [] [] []), (0, eb c8)])) (fun c7 h =>
 ra (aw h) [(0, eb c0), (1, R54.idx hx3), (6, eb c1), (3, eb c2), (4, eb c3), (6, .eqv (R62.au b2.J)), (0, eb c4), (6, .call (cd (e := 3) (z := false) (Q := aX x35) (Lj n pI) (R3.len x35)) [] [] []), (0, .call (DY n lU) [] [] []), (0, eb c5), (3, .call (Ro n nK) [] [] []), (0, eb c6), (2, eb c7)])))))))) (fun c0 h =>
 ra (aG h) [(0, eb c0)])
def ya (k_1:Option Int):Nat→(List ak)→(List ak)→Int→Int→aa→Option Int
 |0,_,_,_,_,_=>none
 |n+1,bC,t16,t17,t18,b2=>HF k_1 (ya k_1 n) n bC t16 t17 t18 b2
theorem ady {k_1} (aG:K0 (A12 [1,1,1,1]) Jn k_1):∀n:Nat,K5 (A12 [0,1,0,1,1,1]) Jo (ya k_1 n)
 |0=>fun _ _ _ _ _ _ h=>nz h
 |n+1=>fun _ _ _ _ _ _ h=>amm aG (ady aG n) n h
def HE (n : Nat) : Option Int :=
 some 0
theorem aml (n : Nat) : K0 (A12 [1, 1, 1, 1]) Jn (HE n) := fun r h =>
 rr h []
def Tu (n : Nat) (s0 : aa) (bC : List ak) : Option Int :=
 (F38 n s0).bind fun x4 =>
 if x4 != 0 then
 some x4
 else
 if decide (64 < (bC.length : Int)) then
 some 2
 else
 ya (HE n) n bC bC (bC.length : Int) 0 s0
theorem amk (n : Nat) : K2 (A12 []) UR (Tu n) := fun s0 bC r h =>
 be h fun x4 hx4 h =>
 ie h (fun c0 h =>
 rr h [(3, .call (vR n hx4) [] [] []), (2, eb c0)]) (fun c0 h =>
 ie h (fun c1 h =>
 rr h [(3, .call (vR n hx4) [] [] []), (2, eb c0), (1, .eqv (R54.au bC)), (0, eb c1)]) (fun c1 h =>
 ra (ady (aml n) n h) [(3, .call (vR n hx4) [] [] []), (2, eb c0), (1, .eqv (R54.au bC)), (0, eb c1), (1, .eqv (R54.au bC))]))
def F12 (n:Nat) (s0:aa) (bC:List ak):Option Int:=Tu n s0 bC
theorem aai (n:Nat):K2 C12 UR (F12 n):=fun _ _ _ h=>ca (X:=x12) (amk n h)
def abF (r:Int):AV:=.int .i64 r
def V8 (r:Int):List (Nat×Bx):= []
def x57:=fx E0 Tryz.f57 [] []
def A57:=Ax x57 abF V8
def C57:=Cx E0 57 abF V8
def IE (n3:Int) (t7:List (List (List I))) (t8 t9:Int):LS:=⟨[(3,.int .i64 n3),(7,.slice 66 1 (dK t7)),(8,.int .i64 t8),(9,.int .i64 t9)],[]⟩
def ID (n3:Int):LS:=⟨[(3,.int .i64 n3)],[]⟩
def Ue (st0:an):LS:=⟨[(0,.agg (cN st0))],[]⟩
def GO (k_1 : Int → Option Int) (back : Int → (List (List (List I))) → Int → Int → Option Int) (n : Nat) (n3 : Int) (t7 : List (List (List I))) (t8 t9 : Int) : Option Int :=
 if decide (t9 < t8) then
 (idx t7 t9).bind fun x2 =>
 back (w64 (n3 + (x2.length : Int))) t7 t8 (w64 (t9 + 1))
 else
 k_1 n3
theorem akC {k_1} (aG : K1 (A57 [1, 1, 1]) ID k_1) {back} (aw : K4 (A57 [0, 1, 0, 1, 1]) IE back) (n : Nat) : K4 (A57 [0, 1, 0, 1, 1]) IE (GO k_1 back n) := fun n3 t7 t8 t9 r h =>
 ie h (fun c0 h =>
 be h fun x2 hx2 h =>
 ra (aw h) [(0, eb c0), (0, R66.idx hx2), (4, .eqv (R42.au x2))]) (fun c0 h =>
 ra (aG h) [(0, eb c0)])
def xH (k_1:Int→Option Int):Nat→Int→(List (List (List I)))→Int→Int→Option Int
 |0,_,_,_,_=>none
 |n+1,n3,t7,t8,t9=>GO k_1 (xH k_1 n) n n3 t7 t8 t9
theorem acW {k_1} (aG:K1 (A57 [1,1,1]) ID k_1):∀n:Nat,K4 (A57 [0,1,0,1,1]) IE (xH k_1 n)
 |0=>fun _ _ _ _ _ h=>nz h
 |n+1=>fun _ _ _ _ _ h=>akC aG (acW aG n) n h
def GN (n : Nat) (n3 : Int) : Option Int :=
 some n3
theorem akB (n : Nat) : K1 (A57 [1, 1, 1]) ID (GN n) := fun n3 r h =>
 rr h []
def SX (n : Nat) (st0 : an) : Option Int :=
 xH (GN n) n 0 st0.J (st0.J.length : Int) 0
theorem akA (n : Nat) : K1 (A57 []) Ue (SX n) := fun st0 r h =>
 ra (acW (akB n) n h) [(5, .eqv (R66.au st0.J))]
def F57 (n:Nat) (st0:an):Option Int:=SX n st0
theorem aad (n:Nat):K1 C57 Ue (F57 n):=fun _ _ h=>ca (X:=x57) (akA n h)
def abA (r:Int):AV:=.int .i64 r
def V3 (r:Int):List (Nat×Bx):= []
def x69:=fx E0 Tryz.f69 [] []
def A69:=Ax x69 abA V3
def C69:=Cx E0 69 abA V3
def TZ (s0:aa) (bh:Int):LS:=⟨[(0,.agg (aV s0)),(1,.int .i64 bh)],[]⟩
def SQ (n : Nat) (s0 : aa) (bh : Int) : Option Int :=
 (F38 n s0).bind fun x4 =>
 if x4 != 0 then
 some x4
 else
 if bh != 1 then
 if bh != 2 then
 if bh != 3 then
 some 1
 else
 some 0
 else
 some 0
 else
 some 0
theorem akr (n : Nat) : K2 (A69 []) TZ (SQ n) := fun s0 bh r h =>
 be h fun x4 hx4 h =>
 ie h (fun c0 h =>
 rr h [(3, .call (vR n hx4) [] [] []), (2, eb c0)]) (fun c0 h =>
 ie h (fun c1 h =>
 ie h (fun c2 h =>
 ie h (fun c3 h =>
 rr h [(3, .call (vR n hx4) [] [] []), (2, eb c0), (1, eb c1), (2, eb c2), (3, eb c3)]) (fun c3 h =>
 rr h [(3, .call (vR n hx4) [] [] []), (2, eb c0), (1, eb c1), (2, eb c2), (3, eb c3)])) (fun c2 h =>
 rr h [(3, .call (vR n hx4) [] [] []), (2, eb c0), (1, eb c1), (2, eb c2)])) (fun c1 h =>
 rr h [(3, .call (vR n hx4) [] [] []), (2, eb c0), (1, eb c1)]))
def F69 (n:Nat) (s0:aa) (bh:Int):Option Int:=SQ n s0 bh
theorem Rm (n:Nat):K2 C69 TZ (F69 n):=fun _ _ _ h=>ca (X:=x69) (akr n h)
def aby (r:(List I)):AV:=.slice 65 3 (aI r)
def V1 (r:(List I)):List (Nat×Bx):= []
def x71:=fx E0 Tryz.f71 [] []
def A71:=Ax x71 aby V1
def C71:=Cx E0 71 aby V1
def TX (s0:aa) (aC:Int) (bN:List I):LS:=⟨[(0,.agg (aV s0)),(1,.int .i64 aC),(2,.slice 65 3 (aI bN))],[]⟩
def SN (n : Nat) (s0 : aa) (aC : Int) (bN : List I) : Option (List I) :=
 if decide (aC < 0) then
 some []
 else
 if !decide (aC < (s0.J.length : Int)) then
 some []
 else
 (idx s0.J aC).bind fun x16 =>
 (cut bN none (some (if 0 < (if (bN.length : Int) < x16.av then (bN.length : Int) else x16.av) then (if (bN.length : Int) < x16.av then (bN.length : Int) else x16.av) else 0))).bind fun x24 =>
 some x24
theorem akn (n : Nat) : K3 (A71 []) TX (SN n) := fun s0 aC bN r h =>
 ie h (fun c0 h =>
 rr h [(3, eb c0), (3, .norm [(6, .one (.sl 65 3))] [])]) (fun c0 h =>
 ie h (fun c1 h =>
 rr h [(3, eb c0), (4, .eqv (R62.au s0.J)), (0, eb c1), (2, .norm [(6, .one (.sl 65 3))] [])]) (fun c1 h =>
 be h fun x16 dz h =>
 be h fun x24 fg h =>
 rr h [(3, eb c0), (4, .eqv (R62.au s0.J)), (0, eb c1), (5, R62.idx dz), (3, .eqv (R64.au bN)), (2, R64.cut fg)]))
def F71 (n:Nat) (s0:aa) (aC:Int) (bN:List I):Option (List I):=SN n s0 aC bN
theorem DW (n:Nat):K3 C71 TX (F71 n):=fun _ _ _ _ h=>ca (X:=x71) (akn n h)
def acf (r:Int):AV:=.int .i64 r
def Wy (r:Int):List (Nat×Bx):= []
def x28:=fx E0 Tryz.f28 [] []
def A28:=Ax x28 acf Wy
def C28:=Cx E0 28 acf Wy
def Je (bh t8:Int) (n5:List (List I)) (t29:List (List (List I))) (t30 t31:Int) (t36:List (List I)) (t37 t38:Int) (b3:aa):LS:=⟨[(1,.int .i64 bh),(3,.loc 3 0),(8,.int .i64 t8),(9,.slice 43 1 (fJ n5)),(29,.slice 66 1 (dK t29)),(30,.int .i64 t30),(31,.int .i64 t31),(36,.slice 43 1 (fJ t36)),(37,.int .i64 t37),(38,.int .i64 t38)],[(3,.flat 26 (aV b3))]⟩
def Jd (bh:Int) (t29:List (List (List I))) (t30 t31:Int) (b3:aa):LS:=⟨[(1,.int .i64 bh),(3,.loc 3 0),(29,.slice 66 1 (dK t29)),(30,.int .i64 t30),(31,.int .i64 t31)],[(3,.flat 26 (aV b3))]⟩
def Ah (bh:Int) (t29:List (List (List I))) (t30 t31:Int) (b3:aa):LS:=⟨[(1,.int .i64 bh),(3,.loc 3 0),(29,.slice 66 1 (dK t29)),(30,.int .i64 t30),(31,.int .i64 t31)],[(3,.flat 26 (aV b3))]⟩
def Jc:LS:=⟨[],[]⟩
def UF (s0:aa) (bh:Int) (st2:an):LS:=⟨[(0,.agg (aV s0)),(1,.int .i64 bh),(2,.agg (cN st2))],[]⟩
def Hu (k_1 : Int → (List (List (List I))) → Int → Int → aa → Option Int) (back : Int → Int → (List (List I)) → (List (List (List I))) → Int → Int → (List (List I)) → Int → Int → aa → Option Int) (n : Nat) (bh t8 : Int) (n5 : List (List I)) (t29 : List (List (List I))) (t30 t31 : Int) (t36 : List (List I)) (t37 t38 : Int) (b3 : aa) : Option Int :=
 if decide (t38 < t37) then
 (idx t36 t38).bind fun x3 =>
 (F70 n b3 t8 x3 bh).bind fun x12 =>
 if !x12 then
 some 80
 else
 if decide (0 < t38) then
 (idx n5 (w64 (t38 - 1))).bind fun x23 =>
 (F71 n b3 t8 x23).bind fun x26 =>
 (F71 n b3 t8 x3).bind fun x31 =>
 (F52 n x26 x31).bind fun x33 =>
 if !decide (x33 < 0) then
 some 80
 else
 back bh t8 n5 t29 t30 t31 t36 t37 (w64 (t38 + 1)) b3
 else
 back bh t8 n5 t29 t30 t31 t36 t37 (w64 (t38 + 1)) b3
 else
 k_1 bh t29 t30 t31 b3
theorem alQ {k_1} (aG : K5 (A28 [1, 1, 1, 0, 0, 1, 0, 1, 1, 1, 1]) Jd k_1) {back} (aw : K10 (A28 [0, 1, 1, 0, 0, 1, 1, 0, 0, 1, 0, 1, 1, 1, 1]) Je back) (n : Nat) : K10 (A28 [0, 1, 1, 0, 0, 1, 1, 0, 0, 1, 0, 1, 1, 1, 1]) Je (Hu k_1 back n) := fun bh t8 n5 t29 t30 t31 t36 t37 t38 b3 r h =>
 ie h (fun c0 h =>
 be h fun x3 hx3 h =>
 be h fun x12 bT h =>
 ie h (fun c1 h =>
 rr h [(0, eb c0), (1, R42.idx hx3), (7, .call (DX n bT) [] [] []), (0, eb c1)]) (fun c1 h =>
 ie h (fun c2 h =>
 be h fun x23 eN h =>
 be h fun x26 iw h =>
 be h fun x31 pJ h =>
 be h fun x33 lj h =>
 ie h (fun c3 h =>
 rr h [(0, eb c0), (1, R42.idx hx3), (7, .call (DX n bT) [] [] []), (0, eb c1), (1, eb c2), (6, R42.idx eN), (1, .call (DW n iw) [] [] []), (3, .call (DW n pJ) [] [] []), (0, .call (vQ n lj) [] [] []), (0, eb c3)]) (fun c3 h =>
 ra (aw h) [(0, eb c0), (1, R42.idx hx3), (7, .call (DX n bT) [] [] []), (0, eb c1), (1, eb c2), (6, R42.idx eN), (1, .call (DW n iw) [] [] []), (3, .call (DW n pJ) [] [] []), (0, .call (vQ n lj) [] [] []), (0, eb c3)])) (fun c2 h =>
 ra (aw h) [(0, eb c0), (1, R42.idx hx3), (7, .call (DX n bT) [] [] []), (0, eb c1), (1, eb c2)]))) (fun c0 h =>
 ra (aG h) [(0, eb c0)])
def xU (k_1:Int→(List (List (List I)))→Int→Int→aa→Option Int):Nat→Int→Int→(List (List I))→(List (List (List I)))→Int→Int→(List (List I))→Int→Int→aa→Option Int
 |0,_,_,_,_,_,_,_,_,_,_=>none
 |n+1,bh,t8,n5,t29,t30,t31,t36,t37,t38,b3=>Hu k_1 (xU k_1 n) n bh t8 n5 t29 t30 t31 t36 t37 t38 b3
theorem ads {k_1} (aG:K5 (A28 [1,1,1,0,0,1,0,1,1,1,1]) Jd k_1):∀n:Nat,K10 (A28 [0,1,1,0,0,1,1,0,0,1,0,1,1,1,1]) Je (xU k_1 n)
 |0=>fun _ _ _ _ _ _ _ _ _ _ _ h=>nz h
 |n+1=>fun _ _ _ _ _ _ _ _ _ _ _ h=>alQ aG (ads aG n) n h
def Ht (k_2 : Int → (List (List (List I))) → Int → Int → aa → Option Int) (n : Nat) (bh : Int) (t29 : List (List (List I))) (t30 t31 : Int) (b3 : aa) : Option Int :=
 k_2 bh t29 t30 (w64 (t31 + 1)) b3
theorem alP {k_2} (bP : K5 (A28 [0, 1, 0, 1, 1, 1, 1]) Ah k_2) (n : Nat) : K5 (A28 [1, 1, 1, 0, 0, 1, 0, 1, 1, 1, 1]) Jd (Ht k_2 n) := fun bh t29 t30 t31 b3 r h =>
 ra (bP h) []
def Hr (k_3 : Option Int) (back : Int → (List (List (List I))) → Int → Int → aa → Option Int) (n : Nat) (bh : Int) (t29 : List (List (List I))) (t30 t31 : Int) (b3 : aa) : Option Int :=
 if decide (t31 < t30) then
 (idx t29 t31).bind fun x3 =>
 xU (Ht back n) n bh t31 x3 t29 t30 t31 x3 (x3.length : Int) 0 b3
 else
 k_3
theorem alO {k_3} (bw : K0 (A28 [1, 1, 1, 1, 1]) Jc k_3) {back} (aw : K5 (A28 [0, 1, 0, 1, 1, 1, 1]) Ah back) (n : Nat) : K5 (A28 [0, 1, 0, 1, 1, 1, 1]) Ah (Hr k_3 back n) := fun bh t29 t30 t31 b3 r h =>
 ie h (fun c0 h =>
 be h fun x3 hx3 h =>
 ra (ads (alP aw n) n h) [(0, eb c0), (1, R66.idx hx3), (4, .eqv (R42.au x3))]) (fun c0 h =>
 ra (bw h) [(0, eb c0)])
def uz (k_3:Option Int):Nat→Int→(List (List (List I)))→Int→Int→aa→Option Int
 |0,_,_,_,_,_=>none
 |n+1,bh,t29,t30,t31,b3=>Hr k_3 (uz k_3 n) n bh t29 t30 t31 b3
theorem adr {k_3} (bw:K0 (A28 [1,1,1,1,1]) Jc k_3):∀n:Nat,K5 (A28 [0,1,0,1,1,1,1]) Ah (uz k_3 n)
 |0=>fun _ _ _ _ _ _ h=>nz h
 |n+1=>fun _ _ _ _ _ _ h=>alO bw (adr bw n) n h
def B9 (n : Nat) : Option Int :=
 some 0
theorem alN (n : Nat) : K0 (A28 [1, 1, 1, 1, 1]) Jc (B9 n) := fun r h =>
 rr h []
def Tj (n : Nat) (s0 : aa) (bh : Int) (st2 : an) : Option Int :=
 (F69 n s0 bh).bind fun x6 =>
 if x6 != 0 then
 some x6
 else
 (F57 n st2).bind fun x12 =>
 if decide (512 < x12) then
 some 2
 else
 if (st2.J.length : Int) != (s0.J.length : Int) then
 some 80
 else
 uz (B9 n) n bh st2.J (st2.J.length : Int) 0 s0
theorem alM (n : Nat) : K3 (A28 []) UF (Tj n) := fun s0 bh st2 r h =>
 be h fun x6 hx6 h =>
 ie h (fun c0 h =>
 rr h [(5, .call (Rm n hx6) [] [] []), (2, eb c0)]) (fun c0 h =>
 be h fun x12 bT h =>
 ie h (fun c1 h =>
 rr h [(5, .call (Rm n hx6) [] [] []), (2, eb c0), (1, .call (aad n bT) [] [] []), (0, eb c1)]) (fun c1 h =>
 ie h (fun c2 h =>
 rr h [(5, .call (Rm n hx6) [] [] []), (2, eb c0), (1, .call (aad n bT) [] [] []), (0, eb c1), (2, .eqv (R66.au st2.J)), (2, .eqv (R62.au s0.J)), (0, eb c2)]) (fun c2 h =>
 ra (adr (alN n) n h) [(5, .call (Rm n hx6) [] [] []), (2, eb c0), (1, .call (aad n bT) [] [] []), (0, eb c1), (2, .eqv (R66.au st2.J)), (2, .eqv (R62.au s0.J)), (0, eb c2), (2, .eqv (R66.au st2.J))])))
def F28 (n:Nat) (s0:aa) (bh:Int) (st2:an):Option Int:=Tj n s0 bh st2
theorem ev28 (n:Nat):K3 C28 UF (F28 n):=fun _ _ _ _ h=>ca (X:=x28) (alM n h)
def abG (r:(List I)):AV:=.ms 200000 3 0 r.length
def V9 (r:(List I)):List (Nat×Bx):= [(200000,.rows true 65 3 (aI r))]
def x56:=fx E0 Tryz.f56 [] [200000]
def A56:=Ax x56 abG V9
def C56:=Cx E0 56 abG V9
def Uf (eu:List I):LS:=⟨[(0,.slice 65 3 (aI eu))],[]⟩
def SY (n : Nat) (eu : List I) : Option (List I) :=
 (app [] eu).bind fun x3 =>
 some x3
theorem akD (n : Nat) : K1 (A56 []) Uf (SY n) := fun eu r h =>
 be h fun x3 hx3 h =>
 rr h [(2, .born [] [] 4 true 65 3), (0, R64.app (xs := []) hx3 .dat), (1, .ren 4 200000)]
def F56 (n:Nat) (eu:List I):Option (List I):=SY n eu
theorem ev56 (n:Nat):K1 C56 Uf (F56 n):=fun _ _ h=>ca (X:=x56) (akD n h)
def abE (r:((List I)×Bool)):AV:=.tup [.slice 65 3 (aI r.1),.bool r.2]
def V7 (r:((List I)×Bool)):List (Nat×Bx):= []
def x60:=fx E0 Tryz.f60 [] []
def A60:=Ax x60 abE V7
def C60:=Cx E0 60 abE V7
def IC (aN:Int) (bF:List I) (t32:List (List I)) (t33 t34:Int) (b4:aa):LS:=⟨[(2,.int .i64 aN),(3,.slice 65 3 (aI bF)),(4,.loc 4 0),(32,.slice 43 1 (fJ t32)),(33,.int .i64 t33),(34,.int .i64 t34)],[(4,.flat 26 (aV b4))]⟩
def IB:LS:=⟨[],[]⟩
def Ud (s0:aa) (st1:an) (aN:Int) (bF:List I):LS:=⟨[(0,.agg (aV s0)),(1,.agg (cN st1)),(2,.int .i64 aN),(3,.slice 65 3 (aI bF))],[]⟩
def GM (k_1 : Option ((List I) × Bool)) (back : Int → (List I) → (List (List I)) → Int → Int → aa → Option ((List I) × Bool)) (n : Nat) (aN : Int) (bF : List I) (t32 : List (List I)) (t33 t34 : Int) (b4 : aa) : Option ((List I) × Bool) :=
 if decide (t34 < t33) then
 (idx t32 t34).bind fun x2 =>
 (F71 n b4 aN x2).bind fun x9 =>
 (F52 n x9 bF).bind fun x12 =>
 if x12 == 0 then
 some (x2, true)
 else
 back aN bF t32 t33 (w64 (t34 + 1)) b4
 else
 k_1
theorem akz {k_1} (aG : K0 (A60 [1, 1, 1]) IB k_1) {back} (aw : K6 (A60 [0, 1, 0, 1, 1]) IC back) (n : Nat) : K6 (A60 [0, 1, 0, 1, 1]) IC (GM k_1 back n) := fun aN bF t32 t33 t34 b4 r h =>
 ie h (fun c0 h =>
 be h fun x2 hx2 h =>
 be h fun x9 hx9 h =>
 be h fun x12 bT h =>
 ie h (fun c1 h =>
 rr h [(0, eb c0), (0, R42.idx hx2), (5, .call (DW n hx9) [] [] []), (1, .call (vQ n bT) [] [] []), (0, eb c1)]) (fun c1 h =>
 ra (aw h) [(0, eb c0), (0, R42.idx hx2), (5, .call (DW n hx9) [] [] []), (1, .call (vQ n bT) [] [] []), (0, eb c1)])) (fun c0 h =>
 ra (aG h) [(0, eb c0)])
def xG (k_1:Option ((List I)×Bool)):Nat→Int→(List I)→(List (List I))→Int→Int→aa→Option ((List I)×Bool)
 |0,_,_,_,_,_,_=>none
 |n+1,aN,bF,t32,t33,t34,b4=>GM k_1 (xG k_1 n) n aN bF t32 t33 t34 b4
theorem acV {k_1} (aG:K0 (A60 [1,1,1]) IB k_1):∀n:Nat,K6 (A60 [0,1,0,1,1]) IC (xG k_1 n)
 |0=>fun _ _ _ _ _ _ _ h=>nz h
 |n+1=>fun _ _ _ _ _ _ _ h=>akz aG (acV aG n) n h
def GL (n : Nat) : Option ((List I) × Bool) :=
 some ([], false)
theorem aky (n : Nat) : K0 (A60 [1, 1, 1]) IB (GL n) := fun r h =>
 rr h [(2, .norm [(8, .one (.sl 65 3))] [])]
def SW (n : Nat) (s0 : aa) (st1 : an) (aN : Int) (bF : List I) : Option ((List I) × Bool) :=
 if decide (aN < 0) then
 some ([], false)
 else
 if !decide (aN < (s0.J.length : Int)) then
 some ([], false)
 else
 if !decide (aN < (st1.J.length : Int)) then
 some ([], false)
 else
 (idx st1.J aN).bind fun x24 =>
 xG (GL n) n aN bF x24 (x24.length : Int) 0 s0
theorem akx (n : Nat) : K4 (A60 []) Ud (SW n) := fun s0 st1 aN bF r h =>
 ie h (fun c0 h =>
 rr h [(5, eb c0), (6, .norm [(8, .one (.sl 65 3))] [])]) (fun c0 h =>
 ie h (fun c1 h =>
 rr h [(5, eb c0), (4, .eqv (R62.au s0.J)), (0, eb c1), (5, .norm [(8, .one (.sl 65 3))] [])]) (fun c1 h =>
 ie h (fun c2 h =>
 rr h [(5, eb c0), (4, .eqv (R62.au s0.J)), (0, eb c1), (5, .eqv (R66.au st1.J)), (0, eb c2), (3, .norm [(8, .one (.sl 65 3))] [])]) (fun c2 h =>
 be h fun x24 fg h =>
 ra (acV (aky n) n h) [(5, eb c0), (4, .eqv (R62.au s0.J)), (0, eb c1), (5, .eqv (R66.au st1.J)), (0, eb c2), (4, R66.idx fg), (1, .eqv (R42.au x24))])))
def F60 (n:Nat) (s0:aa) (st1:an) (aN:Int) (bF:List I):Option ((List I)×Bool):=SW n s0 st1 aN bF
theorem ev60 (n:Nat):K4 C60 Ud (F60 n):=fun _ _ _ _ _ h=>ca (X:=x60) (akx n h)
def aci (r:((List I)×Bool)):AV:=.tup [.ms 200000 3 0 r.1.length,.bool r.2]
def WC (r:((List I)×Bool)):List (Nat×Bx):= [(200000,.rows true 65 3 (aI r.1))]
def x21:=fx E0 Tryz.f21 [] [200000]
def A21:=Ax x21 aci WC
def C21:=Cx E0 21 aci WC
def UI (s0:aa) (st1:an) (aN:Int) (bF:List I):LS:=⟨[(0,.agg (aV s0)),(1,.agg (cN st1)),(2,.int .i64 aN),(3,.slice 65 3 (aI bF))],[]⟩
def Tl (n : Nat) (s0 : aa) (st1 : an) (aN : Int) (bF : List I) : Option ((List I) × Bool) :=
 (F60 n s0 st1 aN bF).bind fun x9 =>
 (F56 n x9.1).bind fun x17 =>
 some (x17, x9.2)
theorem alV (n : Nat) : K4 (A21 []) UI (Tl n) := fun s0 st1 aN bF r h =>
 be h fun x9 hx9 h =>
 be h fun x17 eO h =>
 rr h [(8, .call (ev60 n hx9) [] [] []), (6, .call (ev56 n eO) [] [] [(21, 200000)]), (3, .ren 21 200000)]
def F21 (n:Nat) (s0:aa) (st1:an) (aN:Int) (bF:List I):Option ((List I)×Bool):=Tl n s0 st1 aN bF
theorem tP (n:Nat):K4 C21 UI (F21 n):=fun _ _ _ _ _ h=>ca (X:=x21) (alV n h)
def abC (r:(List I)):AV:=.ms 200000 3 0 r.length
def V5 (r:(List I)):List (Nat×Bx):= [(200000,.rows true 65 3 (aI r))]
def x62:=fx E0 Tryz.f62 [] [200000]
def A62:=Ax x62 abC V5
def C62:=Cx E0 62 abC V5
def Ub (eu:List I):LS:=⟨[(0,.slice 65 3 (aI eu))],[]⟩
def SS (n : Nat) (eu : List I) : Option (List I) :=
 (app [] eu).bind fun x3 =>
 some x3
theorem akv (n : Nat) : K1 (A62 []) Ub (SS n) := fun eu r h =>
 be h fun x3 hx3 h =>
 rr h [(2, .born [] [] 4 true 65 3), (0, R64.app (xs := []) hx3 .dat), (1, .ren 4 200000)]
def F62 (n:Nat) (eu:List I):Option (List I):=SS n eu
theorem Li (n:Nat):K1 C62 Ub (F62 n):=fun _ _ h=>ca (X:=x62) (akv n h)
def abB (r:(List I)):AV:=.ms 200000 3 0 r.length
def V4 (r:(List I)):List (Nat×Bx):= [(200000,.rows true 65 3 (aI r))]
def x65:=fx E0 Tryz.f65 [] [200000]
def A65:=Ax x65 abB V4
def C65:=Cx E0 65 abB V4
def IA (t11:List Int) (t12 t13:Int) (b3:ak) (b9:List I):LS:=⟨[(3,.loc 3 0),(5,.ms 9 3 0 b9.length),(11,.slice 3 1 (aX t11)),(12,.int .i64 t12),(13,.int .i64 t13)],[(3,.flat 55 (fq b3)),(9,.rows true 65 3 (aI b9))]⟩
def Iz (b9:List I):LS:=⟨[(5,.ms 9 3 0 b9.length)],[(9,.rows true 65 3 (aI b9))]⟩
def Ua (eu:List I) (w1:ak):LS:=⟨[(0,.slice 65 3 (aI eu)),(1,.agg (fq w1))],[]⟩
def GK (k_1 : (List I) → Option (List I)) (back : (List Int) → Int → Int → ak → (List I) → Option (List I)) (n : Nat) (t11 : List Int) (t12 t13 : Int) (b3 : ak) (b9 : List I) : Option (List I) :=
 if decide (t13 < t12) then
 (idx t11 t13).bind fun x3 =>
 (idx b3.aJ t13).bind fun x13 =>
 (bnd b9.length x3).bind fun x16 =>
 (b9[0 + x16]?).bind fun x18 =>
 (setAt b9 (0 + x16) x13).bind fun z19 =>
 back t11 t12 (w64 (t13 + 1)) b3 z19
 else
 k_1 b9
theorem aku {k_1} (aG : K1 (A65 [1, 1, 1]) Iz k_1) {back} (aw : K5 (A65 [0, 1, 0, 1, 1]) IA back) (n : Nat) : K5 (A65 [0, 1, 0, 1, 1]) IA (GK k_1 back n) := fun t11 t12 t13 b3 b9 r h =>
 ie h (fun c0 h =>
 be h fun x3 hx3 h =>
 be h fun x13 bY h =>
 be h fun x16 dz h =>
 be h fun x18 fN h =>
 be h fun z19 KF h =>
 ra (aw h) [(0, eb c0), (1, R3.idx hx3), (8, R64.idx bY), (1, cY dz), (0, R64.sto 0 (fF x13) fN KF (by kernel_rfl)), (2, .seq 5 (congrArg (fun n_ => (AV.ms 9 3 0 n_)) ((cy KF).symm)))]) (fun c0 h =>
 ra (aG h) [(0, eb c0)])
def xF (k_1:(List I)→Option (List I)):Nat→(List Int)→Int→Int→ak→(List I)→Option (List I)
 |0,_,_,_,_,_=>none
 |n+1,t11,t12,t13,b3,b9=>GK k_1 (xF k_1 n) n t11 t12 t13 b3 b9
theorem acU {k_1} (aG:K1 (A65 [1,1,1]) Iz k_1):∀n:Nat,K5 (A65 [0,1,0,1,1]) IA (xF k_1 n)
 |0=>fun _ _ _ _ _ _ h=>nz h
 |n+1=>fun _ _ _ _ _ _ h=>aku aG (acU aG n) n h
def GJ (n : Nat) (b9 : List I) : Option (List I) :=
 some b9
theorem akt (n : Nat) : K1 (A65 [1, 1, 1]) Iz (GJ n) := fun b9 r h =>
 rr h [(2, .ren 9 200000)]
def SR (n : Nat) (eu : List I) (w1 : ak) : Option (List I) :=
 (F62 n eu).bind fun x4 =>
 xF (GJ n) n w1.af (w1.af.length : Int) 0 w1 x4
theorem aks (n : Nat) : K2 (A65 []) Ua (SR n) := fun eu w1 r h =>
 be h fun x4 hx4 h =>
 ra (acU (akt n) n h) [(3, .call (Li n hx4) [] [] [(9, 200000)]), (3, .eqv (R3.au w1.af))]
def F65 (n:Nat) (eu:List I) (w1:ak):Option (List I):=SR n eu w1
theorem ev65 (n:Nat):K2 C65 Ua (F65 n):=fun _ _ _ h=>ca (X:=x65) (aks n h)
def abf (r:eD):AV:=(pZ r)
def VI (r:eD):List (Nat×Bx):= []
def x93:=fx E0 Tryz.f93 [] []
def A93:=Ax x93 abf VI
def C93:=Cx E0 93 abf VI
def TE (oV xj aN:Int) (bF:List I):LS:=⟨[(0,.int .i64 oV),(1,.int .i64 xj),(2,.int .i64 aN),(3,.slice 65 3 (aI bF))],[]⟩
def Gd (n : Nat) (oV xj aN : Int) (bF : List I) : Option eD :=
 (F62 n bF).bind fun x6 =>
 some (eD.ua (qi.mk (az.mk oV xj aN x6)))
theorem ajp (n : Nat) : K4 (A93 []) TE (Gd n) := fun oV xj aN bF r h =>
 be h fun x6 hx6 h =>
 rr h [(5, .call (Li n hx6) [] [] [(13, 200000)]), (2, R64.frz 13 x6), (0, .norm [(15, .agg [.same, .same, .same, .sl 0 0])] [])]
def F93 (n:Nat) (oV xj aN:Int) (bF:List I):Option eD:=Gd n oV xj aN bF
theorem DU (n:Nat):K4 C93 TE (F93 n):=fun _ _ _ _ _ h=>ca (X:=x93) (ajp n h)
def abM (r:(aD×eD)):AV:=.tup [.agg (l5 r.1),(pZ r.2)]
def Wf (r:(aD×eD)):List (Nat×Bx):= []
def x50:=fx E0 Tryz.f50 [] []
def A50:=Ax x50 abM Wf
def C50:=Cx E0 50 abM Wf
def Ul (s0:aa) (st1:an) (w2:ak):LS:=⟨[(0,.agg (aV s0)),(1,.agg (cN st1)),(2,.agg (fq w2))],[]⟩
def S2 (n : Nat) (s0 : aa) (st1 : an) (w2 : ak) : Option (aD × eD) :=
 (F21 n s0 st1 w2.ar w2.av).bind fun x12 =>
 if w2.fOp == 1 then
 if x12.2 then
 (F93 n 4 0 w2.ar w2.av).bind fun x28 =>
 lT x28 (
 some ((aD.mk 0 [] []), eD.nil)) (fun y2 =>
 some ((aD.mk 0 [] []), (eD.c35 y2))) (fun y2 =>
 some ((aD.mk 0 [] []), (eD.ua y2)))
 else
 (F62 n w2.aJ).bind fun x27 =>
 some ((aD.mk w2.ar [] x27), eD.nil)
 else
 if !x12.2 then
 (F93 n 5 0 w2.ar w2.av).bind fun x29 =>
 lT x29 (
 some ((aD.mk 0 [] []), eD.nil)) (fun y2 =>
 some ((aD.mk 0 [] []), (eD.c35 y2))) (fun y2 =>
 some ((aD.mk 0 [] []), (eD.ua y2)))
 else
 (F62 n x12.1).bind fun x27 =>
 if w2.fOp == 2 then
 (F65 n x12.1 w2).bind fun x37 =>
 some ((aD.mk w2.ar x27 x37), eD.nil)
 else
 some ((aD.mk w2.ar x27 []), eD.nil)
theorem akR (n : Nat) : K3 (A50 []) Ul (S2 n) := fun s0 st1 w2 r h =>
 be h fun x12 bT h =>
 ie h (fun c0 h =>
 ie h (fun c1 h =>
 be h fun x28 jb h =>
 ice h (fun c2 g0 => by subst c2; exact (
 rr g0 [(11, .call (tP n bT) [] [] [(301800, 200000)]), (2, eb c1), (4, eb c0), (6, .call (DU n jb) [] [] []), (2, .norm [] [(6, .flat [.same, .sl 65 3, .sl 65 3])])])) (fun y2 c2 g0 => by subst c2; exact (
 rr g0 [(11, .call (tP n bT) [] [] [(301800, 200000)]), (2, eb c1), (4, eb c0), (6, .call (DU n jb) [] [] []), (2, .norm [] [(6, .flat [.same, .sl 65 3, .sl 65 3])])])) (fun y2 c2 g0 => by subst c2; exact (
 rr g0 [(11, .call (tP n bT) [] [] [(301800, 200000)]), (2, eb c1), (4, eb c0), (6, .call (DU n jb) [] [] []), (2, .norm [] [(6, .flat [.same, .sl 65 3, .sl 65 3])])]))) (fun c1 h =>
 be h fun x27 nL h =>
 rr h [(11, .call (tP n bT) [] [] [(301800, 200000)]), (2, eb c1), (4, eb c0), (5, .call (Li n nL) [] [] [(35, 200000)]), (0, .nrm (.agg [.same, .sl 65 3])), (2, R64.frz 35 x27), (0, .norm [] [(6, .flat [.same, .same, .sl 0 0])])])) (fun c0 h =>
 ie h (fun c1 h =>
 be h fun x29 rC h =>
 ice h (fun c2 g0 => by subst c2; exact (
 rr g0 [(11, .call (tP n bT) [] [] [(301800, 200000)]), (7, eb c0), (1, eb c1), (5, .call (DU n rC) [] [] []), (2, .norm [] [(6, .flat [.same, .sl 65 3, .sl 65 3])])])) (fun y2 c2 g0 => by subst c2; exact (
 rr g0 [(11, .call (tP n bT) [] [] [(301800, 200000)]), (7, eb c0), (1, eb c1), (5, .call (DU n rC) [] [] []), (2, .norm [] [(6, .flat [.same, .sl 65 3, .sl 65 3])])])) (fun y2 c2 g0 => by subst c2; exact (
 rr g0 [(11, .call (tP n bT) [] [] [(301800, 200000)]), (7, eb c0), (1, eb c1), (5, .call (DU n rC) [] [] []), (2, .norm [] [(6, .flat [.same, .sl 65 3, .sl 65 3])])]))) (fun c1 h =>
 be h fun x27 nL h =>
 ie h (fun c2 h =>
 be h fun x37 lU h =>
 rr h [(11, .call (tP n bT) [] [] [(301800, 200000)]), (7, eb c0), (1, eb c1), (0, R64.frz 301800 x12.1), (3, .call (Li n nL) [.one (.sl 0 0)] [] [(48, 200000)]), (0, .nrm (.agg [.same, .same, .sl 65 3])), (4, eb c2), (2, .call (ev65 n lU) [.one (.sl 0 0)] [] [(55, 200000)]), (5, R64.frz 48 x27), (0, R64.frz 55 x37), (0, .norm [] [(6, .flat [.same, .sl 0 0, .sl 0 0])])]) (fun c2 h =>
 rr h [(11, .call (tP n bT) [] [] [(301800, 200000)]), (7, eb c0), (1, eb c1), (0, R64.frz 301800 x12.1), (3, .call (Li n nL) [.one (.sl 0 0)] [] [(48, 200000)]), (0, .nrm (.agg [.same, .same, .sl 65 3])), (4, eb c2), (3, R64.frz 48 x27), (0, .norm [] [(6, .flat [.same, .sl 0 0])])])))
def F50 (n:Nat) (s0:aa) (st1:an) (w2:ak):Option (aD×eD):=S2 n s0 st1 w2
theorem aae (n:Nat):K3 C50 Ul (F50 n):=fun _ _ _ _ h=>ca (X:=x50) (akR n h)
def abL (r:(az×Int)):AV:=.tup [.agg (Bn r.1),.int .i64 r.2]
def We (r:(az×Int)):List (Nat×Bx):= []
def x51:=fx E0 Tryz.f51 [] []
def A51:=Ax x51 abL We
def C51:=Cx E0 51 abL We
def Uk (DZ:eD):LS:=⟨[(0,(pZ DZ))],[]⟩
def GX (n : Nat) (DZ : eD) : Option (az × Int) :=
 lT DZ (
 some ((az.mk 0 0 0 []), 0)) (fun y0 =>
 some ((az.mk 0 0 0 []), y0)) (fun y0 =>
 some (y0.pS, 0))
theorem akQ (n : Nat) : K1 (A51 []) Uk (GX n) := fun DZ r h =>
 ice h (fun c0 g0 => by subst c0; exact (
 rr g0 [(12, .norm [] [(2, .flat [.same, .same, .same, .sl 65 3])])])) (fun y0 c0 g0 => by subst c0; exact (
 rr g0 [(14, .norm [] [(2, .flat [.same, .same, .same, .sl 65 3])])])) (fun y0 c0 g0 => by subst c0; exact (
 rr g0 []))
def F51 (n:Nat) (DZ:eD):Option (az×Int):=GX n DZ
theorem ev51 (n:Nat):K1 C51 Uk (F51 n):=fun _ _ h=>ca (X:=x51) (akQ n h)
def acn (r:((List aD)×az×Int)):AV:=.tup [.ms 200000 3 0 r.1.length,.agg (Bn r.2.1),.int .i64 r.2.2]
def WH (r:((List aD)×az×Int)):List (Nat×Bx):= [(200000,.rows true 104 3 (eF r.1))]
def x16:=fx E0 Tryz.f16 [] [200000]
def A16:=Ax x16 acn WH
def C16:=Cx E0 16 acn WH
def afZ (t32:List ak) (t33 t34:Int) (b3:aa) (b4:an) (b7:az) (b75:List aD) (b14:aD):LS:=⟨[(3,.loc 3 0),(4,.loc 4 0),(7,.loc 7 0),(11,.ms 75 3 0 b75.length),(14,.loc 14 0),(32,.slice 55 5 (cn t32)),(33,.int .i64 t33),(34,.int .i64 t34)],[(3,.flat 26 (aV b3)),(4,.flat 33 (cN b4)),(7,.flat 45 [.int .i64 b7.cm,.int .i64 b7.du,.int .i64 b7.ar,.aY]),(14,.flat 104 (l5 b14)),(75,.rows true 104 3 (eF b75))]⟩
def UO (t32:List ak) (t33 t34:Int) (b3:aa) (b4:an) (b7:az) (b75:List aD):LS:=⟨[(3,.loc 3 0),(4,.loc 4 0),(7,.loc 7 0),(11,.ms 75 3 0 b75.length),(32,.slice 55 5 (cn t32)),(33,.int .i64 t33),(34,.int .i64 t34)],[(3,.flat 26 (aV b3)),(4,.flat 33 (cN b4)),(7,.flat 45 [.int .i64 b7.cm,.int .i64 b7.du,.int .i64 b7.ar,.aY]),(75,.rows true 104 3 (eF b75))]⟩
def afY (FO:eD) (t32:List ak) (t33 t34:Int) (b3:aa) (b4:an) (b7:az) (b75:List aD) (b14:aD):LS:=⟨[(3,.loc 3 0),(4,.loc 4 0),(7,.loc 7 0),(11,.ms 75 3 0 b75.length),(14,.loc 14 0),(15,(pZ FO)),(32,.slice 55 5 (cn t32)),(33,.int .i64 t33),(34,.int .i64 t34)],[(3,.flat 26 (aV b3)),(4,.flat 33 (cN b4)),(7,.flat 45 [.int .i64 b7.cm,.int .i64 b7.du,.int .i64 b7.ar,.aY]),(14,.flat 104 (l5 b14)),(75,.rows true 104 3 (eF b75))]⟩
def uY (t32:List ak) (t33 t34:Int) (b3:aa) (b4:an) (b7:az) (b75:List aD):LS:=⟨[(3,.loc 3 0),(4,.loc 4 0),(7,.loc 7 0),(11,.ms 75 3 0 b75.length),(32,.slice 55 5 (cn t32)),(33,.int .i64 t33),(34,.int .i64 t34)],[(3,.flat 26 (aV b3)),(4,.flat 33 (cN b4)),(7,.flat 45 [.int .i64 b7.cm,.int .i64 b7.du,.int .i64 b7.ar,.aY]),(75,.rows true 104 3 (eF b75))]⟩
def Jk (b7:az) (b75:List aD):LS:=⟨[(7,.loc 7 0),(11,.ms 75 3 0 b75.length)],[(7,.flat 45 [.int .i64 b7.cm,.int .i64 b7.du,.int .i64 b7.ar,.aY]),(75,.rows true 104 3 (eF b75))]⟩
def UN (s0:aa) (st1:an) (dP:List ak):LS:=⟨[(0,.agg (aV s0)),(1,.agg (cN st1)),(2,.slice 55 5 (cn dP))],[]⟩
def uD (k_1 : (List ak) → Int → Int → aa → an → az → (List aD) → Option ((List aD) × az × Int)) (n : Nat) (t32 : List ak) (t33 t34 : Int) (b3 : aa) (b4 : an) (b7 : az) (b75 : List aD) (b14 : aD) : Option ((List aD) × az × Int) :=
 (app b75 [b14]).bind fun x4 =>
 k_1 t32 t33 t34 b3 b4 (az.mk b7.cm b7.du b7.ar []) x4
theorem Sa {k_1} (aG : K7 (A16 [1, 1, 1, 0, 0, 1, 0, 1, 1, 1, 1]) UO k_1) (n : Nat) : K8 (A16 [1, 1, 1, 1, 0, 0, 1, 1, 0, 0, 1, 0, 1, 1, 1, 1]) afZ (uD k_1 n) := fun t32 t33 t34 b3 b4 b7 b75 b14 r h =>
 be h fun x4 hx4 h =>
 ra (aG h) [(3, dO.app hx4 (dO.srW [b14]))]
def oM (k_3 : (List ak) → Int → Int → aa → an → az → (List aD) → Option ((List aD) × az × Int)) (n : Nat) (t32 : List ak) (t33 t34 : Int) (b3 : aa) (b4 : an) (b7 : az) (b75 : List aD) : Option ((List aD) × az × Int) :=
 k_3 t32 t33 (w64 (t34 + 1)) b3 b4 (az.mk b7.cm b7.du b7.ar []) b75
theorem F6 {k_3} (bw : K7 (A16 [0, 1, 0, 1, 1, 1, 1]) uY k_3) (n : Nat) : K7 (A16 [1, 1, 1, 0, 0, 1, 0, 1, 1, 1, 1]) UO (oM k_3 n) := fun t32 t33 t34 b3 b4 b7 b75 r h =>
 ra (bw h) []
def oL (k_3 : (List ak) → Int → Int → aa → an → az → (List aD) → Option ((List aD) × az × Int)) (n : Nat) (FO : eD) (t32 : List ak) (t33 t34 : Int) (b3 : aa) (b4 : an) (b7 : az) (b75 : List aD) (b14 : aD) : Option ((List aD) × az × Int) :=
 lT FO (
 if decide (0 < (b14.nP.length : Int)) then
 if decide (0 < (b14.pW.length : Int)) then
 (F52 n b14.nP b14.pW).bind fun x18 =>
 if x18 == 0 then
 oM k_3 n t32 t33 t34 b3 b4 (az.mk b7.cm b7.du b7.ar []) b75
 else
 uD (oM k_3 n) n t32 t33 t34 b3 b4 (az.mk b7.cm b7.du b7.ar []) b75 b14
 else
 uD (oM k_3 n) n t32 t33 t34 b3 b4 (az.mk b7.cm b7.du b7.ar []) b75 b14
 else
 uD (oM k_3 n) n t32 t33 t34 b3 b4 (az.mk b7.cm b7.du b7.ar []) b75 b14) (fun y0 =>
 (F51 n (eD.c35 y0)).bind fun x4 =>
 some ([], x4.1, x4.2)) (fun y0 =>
 (F51 n (eD.ua y0)).bind fun x4 =>
 some ([], x4.1, x4.2))
theorem R9 {k_3} (bw : K7 (A16 [0, 1, 0, 1, 1, 1, 1]) uY k_3) (n : Nat) : K9 (A16 [1, 1, 0, 0, 1, 1, 0, 0, 1, 0, 1, 1, 1, 1]) afY (oL k_3 n) := fun FO t32 t33 t34 b3 b4 b7 b75 b14 r h =>
 ice h (fun c0 g0 => by subst c0; exact (
 ie g0 (fun c1 g0 =>
 ie g0 (fun c2 g0 =>
 be g0 fun x18 fN g0 =>
 ie g0 (fun c3 g0 =>
 ra (F6 bw n g0) [(4, .eqv (R64.au b14.nP)), (0, eb c1), (3, .eqv (R64.au b14.pW)), (0, eb c2), (6, .call (vQ n fN) [] [] []), (0, eb c3)]) (fun c3 g0 =>
 ra (Sa (F6 bw n) n g0) [(4, .eqv (R64.au b14.nP)), (0, eb c1), (3, .eqv (R64.au b14.pW)), (0, eb c2), (6, .call (vQ n fN) [] [] []), (0, eb c3)])) (fun c2 g0 =>
 ra (Sa (F6 bw n) n g0) [(4, .eqv (R64.au b14.nP)), (0, eb c1), (3, .eqv (R64.au b14.pW)), (0, eb c2)])) (fun c1 g0 =>
 ra (Sa (F6 bw n) n g0) [(4, .eqv (R64.au b14.nP)), (0, eb c1)]))) (fun y0 c0 g0 => by subst c0; exact (
 be g0 fun x4 hx4 g0 =>
 rr g0 [(3, .call (ev51 n hx4) [] [] []), (11, .born [6] [] 200000 true 104 3)])) (fun y0 c0 g0 => by subst c0; exact (
 be g0 fun x4 hx4 g0 =>
 rr g0 [(3, .call (ev51 n hx4) [] [] []), (11, .born [6] [] 200000 true 104 3)]))
def HB (k_4 : az → (List aD) → Option ((List aD) × az × Int)) (back : (List ak) → Int → Int → aa → an → az → (List aD) → Option ((List aD) × az × Int)) (n : Nat) (t32 : List ak) (t33 t34 : Int) (b3 : aa) (b4 : an) (b7 : az) (b75 : List aD) : Option ((List aD) × az × Int) :=
 if decide (t34 < t33) then
 (idx t32 t34).bind fun x2 =>
 (F50 n b3 b4 x2).bind fun x10 =>
 lT x10.2 (
 oL back n eD.nil t32 t33 t34 b3 b4 (az.mk b7.cm b7.du b7.ar []) b75 x10.1) (fun y1 =>
 oL back n (eD.c35 y1) t32 t33 t34 b3 b4 (az.mk b7.cm b7.du b7.ar []) b75 x10.1) (fun y1 =>
 oL back n (eD.ua y1) t32 t33 t34 b3 b4 (az.mk b7.cm b7.du b7.ar []) b75 x10.1)
 else
 k_4 (az.mk b7.cm b7.du b7.ar []) b75
theorem amf {k_4} (eB : K2 (A16 [1, 1, 1, 1, 1]) Jk k_4) {back} (aw : K7 (A16 [0, 1, 0, 1, 1, 1, 1]) uY back) (n : Nat) : K7 (A16 [0, 1, 0, 1, 1, 1, 1]) uY (HB k_4 back n) := fun t32 t33 t34 b3 b4 b7 b75 r h =>
 ie h (fun c0 h =>
 be h fun x2 hx2 h =>
 be h fun x10 cg h =>
 ice h (fun c1 h =>
 ra (R9 aw n h) [(0, eb c0), (0, R54.idx hx2), (6, .call (bW.cast (aae n cg) (congrArg (fun q_ => (AV.tup [.agg (l5 x10.1), (pZ q_)])) c1)) [] [] [])]) (fun y1 c1 h =>
 ra (R9 aw n h) [(0, eb c0), (0, R54.idx hx2), (6, .call (bW.cast (aae n cg) (congrArg (fun q_ => (AV.tup [.agg (l5 x10.1), (pZ q_)])) c1)) [] [] [])]) (fun y1 c1 h =>
 ra (R9 aw n h) [(0, eb c0), (0, R54.idx hx2), (6, .call (bW.cast (aae n cg) (congrArg (fun q_ => (AV.tup [.agg (l5 x10.1), (pZ q_)])) c1)) [] [] [])])) (fun c0 h =>
 ra (eB h) [(0, eb c0)])
def xY (k_4:az→(List aD)→Option ((List aD)×az×Int)):Nat→(List ak)→Int→Int→aa→an→az→(List aD)→Option ((List aD)×az×Int)
 |0,_,_,_,_,_,_,_=>none
 |n+1,t32,t33,t34,b3,b4,b7,b75=>HB k_4 (xY k_4 n) n t32 t33 t34 b3 b4 b7 b75
theorem adw {k_4} (eB:K2 (A16 [1,1,1,1,1]) Jk k_4):∀n:Nat,K7 (A16 [0,1,0,1,1,1,1]) uY (xY k_4 n)
 |0=>fun _ _ _ _ _ _ _ _ h=>nz h
 |n+1=>fun _ _ _ _ _ _ _ _ h=>amf eB (adw eB n) n h
def HA (n : Nat) (b7 : az) (b75 : List aD) : Option ((List aD) × az × Int) :=
 some (b75, (az.mk 0 0 0 []), 0)
theorem ame (n : Nat) : K2 (A16 [1, 1, 1, 1, 1]) Jk (HA n) := fun b7 b75 r h =>
 rr h [(5, .ren 75 200000), (0, .norm [] [(7, .flat [.same, .same, .same, .sl 65 3])])]
def Tp (n : Nat) (s0 : aa) (st1 : an) (dP : List ak) : Option ((List aD) × az × Int) :=
 (F12 n s0 dP).bind fun x8 =>
 if x8 != 0 then
 some ([], (az.mk 0 0 0 []), x8)
 else
 (F28 n s0 1 st1).bind fun x15 =>
 if x15 != 0 then
 some ([], (az.mk 0 0 0 []), x15)
 else
 xY (HA n) n dP (dP.length : Int) 0 s0 st1 (az.mk 0 0 0 []) []
theorem amd (n : Nat) : K3 (A16 []) UN (Tp n) := fun s0 st1 dP r h =>
 be h fun x8 hx8 h =>
 ie h (fun c0 h =>
 rr h [(7, .call (aai n hx8) [] [] []), (2, eb c0), (5, .born [6] [] 200000 true 104 3), (0, .norm [] [(7, .flat [.same, .same, .same, .sl 65 3])])]) (fun c0 h =>
 be h fun x15 cK h =>
 ie h (fun c1 h =>
 rr h [(7, .call (aai n hx8) [] [] []), (2, eb c0), (2, .call (ev28 n cK) [] [] []), (2, eb c1), (5, .born [6] [] 200000 true 104 3), (0, .norm [] [(7, .flat [.same, .same, .same, .sl 65 3])])]) (fun c1 h =>
 ra (adw (ame n) n h) [(7, .call (aai n hx8) [] [] []), (2, eb c0), (2, .call (ev28 n cK) [] [] []), (2, eb c1), (2, .eqv (R54.au dP)), (1, .born [11] [] 75 true 104 3)]))
def F16 (n:Nat) (s0:aa) (st1:an) (dP:List ak):Option ((List aD)×az×Int):=Tp n s0 st1 dP
theorem Rr (n:Nat):K3 C16 UN (F16 n):=fun _ _ _ _ h=>ca (X:=x16) (amd n h)
def Vk (r:Bool):AV:=.bool r
def OI (r:Bool):List (Nat×Bx):= []
def x112:=fx E0 Tryz.f112 [] []
def uF:=Ax x112 Vk OI
def C112:=Cx E0 112 Vk OI
def aeA (s0:ByteArray) (i3:Int) (t49:Bool):LS:=⟨[(0,.str s0),(3,.int .i64 i3),(49,.bool t49)],[]⟩
def wN (s0:ByteArray) (i3:Int):LS:=⟨[(0,.str s0),(3,.int .i64 i3)],[]⟩
def CG:LS:=⟨[],[]⟩
def Oa (s0:ByteArray):LS:=⟨[(0,.str s0)],[]⟩
def mi (k_1 : ByteArray → Int → Option Bool) (n : Nat) (s0 : ByteArray) (i3 : Int) (t49 : Bool) : Option Bool :=
 if t49 then
 some false
 else
 k_1 s0 (w64 (i3 + 1))
theorem qf {k_1} (aG : K2 (uF [0, 1, 0, 1, 1]) wN k_1) (n : Nat) : K3 (uF [1, 1, 0, 0, 1, 0, 0, 1, 0, 1, 1]) aeA (mi k_1 n) := fun s0 i3 t49 r h =>
 ie h (fun c0 g0 => by subst c0; exact (
 rr g0 [])) (fun c0 g0 => by subst c0; exact (
 ra (aG g0) []))
def Ce (k_2 : Option Bool) (back : ByteArray → Int → Option Bool) (n : Nat) (s0 : ByteArray) (i3 : Int) : Option Bool :=
 if decide (i3 < (s0.size : Int)) then
 (vB s0 i3).bind fun x7 =>
 if decide ((x7.toNat : Int) < 97) then
 if decide ((x7.toNat : Int) < 48) then
 mi back n s0 i3 ((x7.toNat : Int) != 95)
 else
 if decide (57 < (x7.toNat : Int)) then
 mi back n s0 i3 ((x7.toNat : Int) != 95)
 else
 mi back n s0 i3 false
 else
 if decide (122 < (x7.toNat : Int)) then
 if decide ((x7.toNat : Int) < 48) then
 mi back n s0 i3 ((x7.toNat : Int) != 95)
 else
 if decide (57 < (x7.toNat : Int)) then
 mi back n s0 i3 ((x7.toNat : Int) != 95)
 else
 mi back n s0 i3 false
 else
 mi back n s0 i3 false
 else
 k_2
theorem agY {k_2} (bP : K0 (uF [1, 1, 1]) CG k_2) {back} (aw : K2 (uF [0, 1, 0, 1, 1]) wN back) (n : Nat) : K2 (uF [0, 1, 0, 1, 1]) wN (Ce k_2 back n) := fun s0 i3 r h =>
 ie h (fun c0 h =>
 be h fun x7 hx7 h =>
 ie h (fun c1 h =>
 ie h (fun c2 h =>
 ra (qf aw n h) [(3, eb c0), (2, .chr (fc hx7)), (2, eb c1), (4, eb c2)]) (fun c2 h =>
 ie h (fun c3 h =>
 ra (qf aw n h) [(3, eb c0), (2, .chr (fc hx7)), (2, eb c1), (4, eb c2), (2, eb c3)]) (fun c3 h =>
 ra (qf aw n h) [(3, eb c0), (2, .chr (fc hx7)), (2, eb c1), (4, eb c2), (2, eb c3)]))) (fun c1 h =>
 ie h (fun c2 h =>
 ie h (fun c3 h =>
 ra (qf aw n h) [(3, eb c0), (2, .chr (fc hx7)), (2, eb c1), (2, eb c2), (3, eb c3)]) (fun c3 h =>
 ie h (fun c4 h =>
 ra (qf aw n h) [(3, eb c0), (2, .chr (fc hx7)), (2, eb c1), (2, eb c2), (3, eb c3), (2, eb c4)]) (fun c4 h =>
 ra (qf aw n h) [(3, eb c0), (2, .chr (fc hx7)), (2, eb c1), (2, eb c2), (3, eb c3), (2, eb c4)]))) (fun c2 h =>
 ra (qf aw n h) [(3, eb c0), (2, .chr (fc hx7)), (2, eb c1), (2, eb c2)]))) (fun c0 h =>
 ra (bP h) [(3, eb c0)])
def ny (k_2:Option Bool):Nat→ByteArray→Int→Option Bool
 |0,_,_=>none
 |n+1,s0,i3=>Ce k_2 (ny k_2 n) n s0 i3
theorem W9 {k_2} (bP:K0 (uF [1,1,1]) CG k_2):∀n:Nat,K2 (uF [0,1,0,1,1]) wN (ny k_2 n)
 |0=>fun _ _ _ h=>nz h
 |n+1=>fun _ _ _ h=>agY bP (W9 bP n) n h
def sL (n : Nat) : Option Bool :=
 some true
theorem agX (n : Nat) : K0 (uF [1, 1, 1]) CG (sL n) := fun r h =>
 rr h []
def M0 (n : Nat) (s0 : ByteArray) : Option Bool :=
 if (s0.size : Int) == 0 then
 some false
 else
 if decide (32 < (s0.size : Int)) then
 some false
 else
 (vB s0 0).bind fun x12 =>
 if decide ((x12.toNat : Int) < 97) then
 some false
 else
 (vB s0 0).bind fun x18 =>
 if decide (122 < (x18.toNat : Int)) then
 some false
 else
 ny (sL n) n s0 0
theorem agW (n : Nat) : K1 (uF []) Oa (M0 n) := fun s0 r h =>
 ie h (fun c0 h =>
 rr h [(3, eb c0)]) (fun c0 h =>
 ie h (fun c1 h =>
 rr h [(3, eb c0), (3, eb c1)]) (fun c1 h =>
 be h fun x12 bT h =>
 ie h (fun c2 h =>
 rr h [(3, eb c0), (3, eb c1), (3, .chr (fc bT)), (0, eb c2)]) (fun c2 h =>
 be h fun x18 fN h =>
 ie h (fun c3 h =>
 rr h [(3, eb c0), (3, eb c1), (3, .chr (fc bT)), (0, eb c2), (3, .chr (fc fN)), (0, eb c3)]) (fun c3 h =>
 ra (W9 (agX n) n h) [(3, eb c0), (3, eb c1), (3, .chr (fc bT)), (0, eb c2), (3, .chr (fc fN)), (0, eb c3)]))))
def MC (n:Nat) (s0:ByteArray):Option Bool:=M0 n s0
theorem qR (n:Nat):K1 C112 Oa (MC n):=fun _ _ h=>ca (X:=x112) (agW n h)
def abl (r:Bool):AV:=.bool r
def VO (r:Bool):List (Nat×Bx):= []
def x83:=fx E0 Tryz.f83 [] []
def A83:=Ax x83 abl VO
def C83:=Cx E0 83 abl VO
def Ii (i1 k6:Int) (b2:aa) (b5:ai):LS:=⟨[(1,.int .i64 i1),(2,.loc 2 0),(5,.loc 5 0),(6,.int .i64 k6)],[(2,.flat 26 (aV b2)),(5,.flat 63 (fm b5))]⟩
def Ih (c7 k8 t53 t54:Int) (t67:List aS) (t68:Int) (t69 t70:aS) (t71:Int) (t72:Bool) (b5:ai):LS:=⟨[(5,.loc 5 0),(7,.int .i64 c7),(8,.int .i64 k8),(53,.int .i64 t53),(54,.int .i64 t54),(66,.loc 5 1),(67,.slice 77 2 (kz t67)),(68,.int .i64 t68),(69,.imm (xi t69)),(70,.imm [.int .i64 t70.ax]),(71,.int .i64 t71),(72,.bool t72),(73,.bool false)],[(5,.flat 63 (fm b5))]⟩
def Ig (t53 t54:Int) (t67:List aS) (t68:Int) (t69 t70:aS) (t71:Int) (t72:Bool) (b5:ai):LS:=⟨[(5,.loc 5 0),(53,.int .i64 t53),(54,.int .i64 t54),(66,.loc 5 1),(67,.slice 77 2 (kz t67)),(68,.int .i64 t68),(69,.imm (xi t69)),(70,.imm [.int .i64 t70.ax]),(71,.int .i64 t71),(72,.bool t72),(73,.bool false)],[(5,.flat 63 (fm b5))]⟩
def z7 (t53 t54:Int) (b5:ai):LS:=⟨[(5,.loc 5 0),(53,.int .i64 t53),(54,.int .i64 t54)],[(5,.flat 63 (fm b5))]⟩
def Ie:LS:=⟨[],[]⟩
def Ic (b5:ai):LS:=⟨[(5,.loc 5 0)],[(5,.flat 63 (fm b5))]⟩
def TM (s0:aa) (i1:Int):LS:=⟨[(0,.agg (aV s0)),(1,.int .i64 i1)],[]⟩
def Gt (k_5 : ai → Option Bool) (back : Int → Int → aa → ai → Option Bool) (n : Nat) (i1 k6 : Int) (b2 : aa) (b5 : ai) : Option Bool :=
 if decide (k6 < i1) then
 (idx b2.J k6).bind fun x7 =>
 if decide (x7.br = b5.br) then
 some false
 else
 back i1 (w64 (k6 + 1)) b2 b5
 else
 k_5 b5
theorem ajL {k_5} (eW : K1 (A83 [1, 1, 1, 1]) Ic k_5) {back} (aw : K4 (A83 [0, 1, 0, 1, 1, 1]) Ii back) (n : Nat) : K4 (A83 [0, 1, 0, 1, 1, 1]) Ii (Gt k_5 back n) := fun i1 k6 b2 b5 r h =>
 ie h (fun c0 h =>
 be h fun x7 hx7 h =>
 ie h (fun c1 h =>
 rr h [(2, eb c0), (3, R62.idx hx7), (4, eb c1)]) (fun c1 h =>
 ra (aw h) [(2, eb c0), (3, R62.idx hx7), (4, eb c1)])) (fun c0 h =>
 ra (eW h) [(2, eb c0)])
def xA (k_5:ai→Option Bool):Nat→Int→Int→aa→ai→Option Bool
 |0,_,_,_,_=>none
 |n+1,i1,k6,b2,b5=>Gt k_5 (xA k_5 n) n i1 k6 b2 b5
theorem acK {k_5} (eW:K1 (A83 [1,1,1,1]) Ic k_5):∀n:Nat,K4 (A83 [0,1,0,1,1,1]) Ii (xA k_5 n)
 |0=>fun _ _ _ _ _ h=>nz h
 |n+1=>fun _ _ _ _ _ h=>ajL eW (acK eW n) n h
def Gs (k_2 : Int → Int → (List aS) → Int → aS → aS → Int → Bool → ai → Option Bool) (back : Int → Int → Int → Int → (List aS) → Int → aS → aS → Int → Bool → ai → Option Bool) (n : Nat) (c7 k8 t53 t54 : Int) (t67 : List aS) (t68 : Int) (t69 t70 : aS) (t71 : Int) (t72 : Bool) (b5 : ai) : Option Bool :=
 if decide (k8 < c7) then
 (idx b5.af k8).bind fun x7 =>
 (idx b5.af c7).bind fun x14 =>
 if decide (x7.br = x14.br) then
 some false
 else
 back c7 (w64 (k8 + 1)) t53 t54 t67 t68 t69 t70 t71 t72 b5
 else
 k_2 t53 t54 t67 t68 t69 t70 t71 t72 b5
theorem ajK {k_2} (bP : K9 (A83 [1, 1, 1, 0, 0, 1, 0, 1, 1, 1, 1]) Ig k_2) {back} (aw : K11 (A83 [0, 1, 1, 1, 0, 0, 1, 1, 0, 0, 1, 0, 1, 1, 1, 1]) Ih back) (n : Nat) : K11 (A83 [0, 1, 1, 1, 0, 0, 1, 1, 0, 0, 1, 0, 1, 1, 1, 1]) Ih (Gs k_2 back n) := fun c7 k8 t53 t54 t67 t68 t69 t70 t71 t72 b5 r h =>
 ie h (fun c0 h =>
 be h fun x7 hx7 h =>
 be h fun x14 gB h =>
 ie h (fun c1 h =>
 rr h [(2, eb c0), (3, R76.idx hx7), (5, R76.idx gB), (2, eb c1)]) (fun c1 h =>
 ra (aw h) [(2, eb c0), (3, R76.idx hx7), (5, R76.idx gB), (2, eb c1)])) (fun c0 h =>
 ra (bP h) [(2, eb c0)])
def xz (k_2:Int→Int→(List aS)→Int→aS→aS→Int→Bool→ai→Option Bool):Nat→Int→Int→Int→Int→(List aS)→Int→aS→aS→Int→Bool→ai→Option Bool
 |0,_,_,_,_,_,_,_,_,_,_,_=>none
 |n+1,c7,k8,t53,t54,t67,t68,t69,t70,t71,t72,b5=>Gs k_2 (xz k_2 n) n c7 k8 t53 t54 t67 t68 t69 t70 t71 t72 b5
theorem acJ {k_2} (bP:K9 (A83 [1,1,1,0,0,1,0,1,1,1,1]) Ig k_2):∀n:Nat,K11 (A83 [0,1,1,1,0,0,1,1,0,0,1,0,1,1,1,1]) Ih (xz k_2 n)
 |0=>fun _ _ _ _ _ _ _ _ _ _ _ _ h=>nz h
 |n+1=>fun _ _ _ _ _ _ _ _ _ _ _ _ h=>ajK bP (acJ bP n) n h
def Gr (k_3 : Int → Int → ai → Option Bool) (n : Nat) (t53 t54 : Int) (t67 : List aS) (t68 : Int) (t69 t70 : aS) (t71 : Int) (t72 : Bool) (b5 : ai) : Option Bool :=
 k_3 t53 (w64 (t54 + 1)) b5
theorem ajJ {k_3} (bw : K3 (A83 [0, 1, 0, 1, 1, 1, 1]) z7 k_3) (n : Nat) : K9 (A83 [1, 1, 1, 0, 0, 1, 0, 1, 1, 1, 1]) Ig (Gr k_3 n) := fun t53 t54 t67 t68 t69 t70 t71 t72 b5 r h =>
 ra (bw h) []
def Gq (k_4 : Option Bool) (back : Int → Int → ai → Option Bool) (n : Nat) (t53 t54 : Int) (b5 : ai) : Option Bool :=
 if decide (t54 < t53) then
 (idx b5.af t54).bind fun x7 =>
 (MC n x7.br).bind fun x11 =>
 if !x11 then
 some false
 else
 (idx b5.af t54).bind fun x18 =>
 (MB n x18.ax).bind fun x22 =>
 if !x22 then
 some false
 else
 xz (Gr back n) n t54 0 t53 t54 b5.af t54 x18 x18 x18.ax x22 b5
 else
 k_4
theorem ajI {k_4} (eB : K0 (A83 [1, 1, 1, 1, 1]) Ie k_4) {back} (aw : K3 (A83 [0, 1, 0, 1, 1, 1, 1]) z7 back) (n : Nat) : K3 (A83 [0, 1, 0, 1, 1, 1, 1]) z7 (Gq k_4 back n) := fun t53 t54 b5 r h =>
 ie h (fun c0 h =>
 be h fun x7 hx7 h =>
 be h fun x11 cM h =>
 ie h (fun c1 h =>
 rr h [(0, eb c0), (5, R76.idx hx7), (2, .call (qR n cM) [] [] []), (0, eb c1)]) (fun c1 h =>
 be h fun x18 fN h =>
 be h fun x22 tv h =>
 ie h (fun c2 h =>
 rr h [(0, eb c0), (5, R76.idx hx7), (2, .call (qR n cM) [] [] []), (0, eb c1), (4, R76.idx fN), (2, .call (FK n tv) [] [] []), (0, eb c2)]) (fun c2 h =>
 ra (acJ (ajJ aw n) n h) [(0, eb c0), (5, R76.idx hx7), (2, .call (qR n cM) [] [] []), (0, eb c1), (4, R76.idx fN), (2, .call (FK n tv) [] [] []), (0, eb c2)]))) (fun c0 h =>
 ra (eB h) [(0, eb c0)])
def uk (k_4:Option Bool):Nat→Int→Int→ai→Option Bool
 |0,_,_,_=>none
 |n+1,t53,t54,b5=>Gq k_4 (uk k_4 n) n t53 t54 b5
theorem acI {k_4} (eB:K0 (A83 [1,1,1,1,1]) Ie k_4):∀n:Nat,K3 (A83 [0,1,0,1,1,1,1]) z7 (uk k_4 n)
 |0=>fun _ _ _ _ h=>nz h
 |n+1=>fun _ _ _ _ h=>ajI eB (acI eB n) n h
def BZ (n : Nat) : Option Bool :=
 some true
theorem ajH (n : Nat) : K0 (A83 [1, 1, 1, 1, 1]) Ie (BZ n) := fun r h =>
 rr h []
def Gp (n : Nat) (b5 : ai) : Option Bool :=
 uk (BZ n) n (b5.af.length : Int) 0 b5
theorem ajG (n : Nat) : K1 (A83 [1, 1, 1, 1]) Ic (Gp n) := fun b5 r h =>
 ra (acI (ajH n) n h) [(2, .eqv (R76.au b5.af))]
def SD (n : Nat) (s0 : aa) (i1 : Int) : Option Bool :=
 (idx s0.J i1).bind fun x6 =>
 (MC n x6.br).bind fun x13 =>
 if !x13 then
 some false
 else
 if (x6.af.length : Int) == 0 then
 some false
 else
 if decide (x6.av < 1) then
 some false
 else
 if decide ((x6.af.length : Int) < x6.av) then
 some false
 else
 xA (Gp n) n i1 0 s0 x6
theorem ajF (n : Nat) : K2 (A83 []) TM (SD n) := fun s0 i1 r h =>
 be h fun x6 hx6 h =>
 be h fun x13 bY h =>
 ie h (fun c0 h =>
 rr h [(5, R62.idx hx6), (5, .call (qR n bY) [] [] []), (0, eb c0)]) (fun c0 h =>
 ie h (fun c1 h =>
 rr h [(5, R62.idx hx6), (5, .call (qR n bY) [] [] []), (0, eb c0), (3, .eqv (R76.au x6.af)), (0, eb c1)]) (fun c1 h =>
 ie h (fun c2 h =>
 rr h [(5, R62.idx hx6), (5, .call (qR n bY) [] [] []), (0, eb c0), (3, .eqv (R76.au x6.af)), (0, eb c1), (4, eb c2)]) (fun c2 h =>
 ie h (fun c3 h =>
 rr h [(5, R62.idx hx6), (5, .call (qR n bY) [] [] []), (0, eb c0), (3, .eqv (R76.au x6.af)), (0, eb c1), (4, eb c2), (6, .eqv (R76.au x6.af)), (0, eb c3)]) (fun c3 h =>
 ra (acK (ajG n) n h) [(5, R62.idx hx6), (5, .call (qR n bY) [] [] []), (0, eb c0), (3, .eqv (R76.au x6.af)), (0, eb c1), (4, eb c2), (6, .eqv (R76.au x6.af)), (0, eb c3)]))))
def F83 (n:Nat) (s0:aa) (i1:Int):Option Bool:=SD n s0 i1
theorem ev83 (n:Nat):K2 C83 TM (F83 n):=fun _ _ _ h=>ca (X:=x83) (ajF n h)
def abk (r:Bool):AV:=.bool r
def VN (r:Bool):List (Nat×Bx):= []
def x84:=fx E0 Tryz.f84 [] []
def A84:=Ax x84 abk VN
def C84:=Cx E0 84 abk VN
def Ib (t16:List aF) (t17 t18 t27:Int) (t29:List ai) (t30:Int) (t35:List Int) (t36:Int) (t38:List ai) (t40:Int) (t41 t42:ai) (t43:Int) (t47:List Int) (t48 t49:Int) (b2:aa) (b5:ai) (b7:aF):LS:=⟨[(2,.loc 2 0),(5,.loc 5 0),(7,.loc 7 0),(16,.slice 80 2 (ib t16)),(17,.int .i64 t17),(18,.int .i64 t18),(26,.loc 7 1),(27,.int .i64 t27),(28,.loc 2 1),(29,.slice 63 5 (cO t29)),(30,.int .i64 t30),(31,.bool false),(34,.loc 7 0),(35,.slice 3 1 (aX t35)),(36,.int .i64 t36),(37,.loc 2 1),(38,.slice 63 5 (cO t38)),(39,.loc 7 1),(40,.int .i64 t40),(41,.imm (fm t41)),(42,.imm [.int .i64 t42.av,.slice 80 2 (ib t42.bg),.slice 84 13 (fw t42.bV)]),(43,.int .i64 t43),(44,.bool false),(47,.slice 3 1 (aX t47)),(48,.int .i64 t48),(49,.int .i64 t49)],[(2,.flat 26 (aV b2)),(5,.flat 63 (fm b5)),(7,.flat 80 (tT b7))]⟩
def Ia (t16:List aF) (t17 t18 t27:Int) (t29:List ai) (t30:Int) (t35:List Int) (t36:Int) (t38:List ai) (t40:Int) (t41 t42:ai) (t43:Int) (b2:aa) (b5:ai) (b7:aF):LS:=⟨[(2,.loc 2 0),(5,.loc 5 0),(16,.slice 80 2 (ib t16)),(17,.int .i64 t17),(18,.int .i64 t18),(26,.loc 7 1),(27,.int .i64 t27),(28,.loc 2 1),(29,.slice 63 5 (cO t29)),(30,.int .i64 t30),(31,.bool false),(34,.loc 7 0),(35,.slice 3 1 (aX t35)),(36,.int .i64 t36),(37,.loc 2 1),(38,.slice 63 5 (cO t38)),(39,.loc 7 1),(40,.int .i64 t40),(41,.imm (fm t41)),(42,.imm [.int .i64 t42.av,.slice 80 2 (ib t42.bg),.slice 84 13 (fw t42.bV)]),(43,.int .i64 t43),(44,.bool false)],[(2,.flat 26 (aV b2)),(5,.flat 63 (fm b5)),(7,.flat 80 (tT b7))]⟩
def z6 (t16:List aF) (t17 t18:Int) (b2:aa) (b5:ai):LS:=⟨[(2,.loc 2 0),(5,.loc 5 0),(16,.slice 80 2 (ib t16)),(17,.int .i64 t17),(18,.int .i64 t18)],[(2,.flat 26 (aV b2)),(5,.flat 63 (fm b5))]⟩
def H9:LS:=⟨[],[]⟩
def TL (s0:aa) (i1:Int):LS:=⟨[(0,.agg (aV s0)),(1,.int .i64 i1)],[]⟩
def Gn (k_1 : (List aF) → Int → Int → Int → (List ai) → Int → (List Int) → Int → (List ai) → Int → ai → ai → Int → aa → ai → aF → Option Bool) (back : (List aF) → Int → Int → Int → (List ai) → Int → (List Int) → Int → (List ai) → Int → ai → ai → Int → (List Int) → Int → Int → aa → ai → aF → Option Bool) (n : Nat) (t16 : List aF) (t17 t18 t27 : Int) (t29 : List ai) (t30 : Int) (t35 : List Int) (t36 : Int) (t38 : List ai) (t40 : Int) (t41 t42 : ai) (t43 : Int) (t47 : List Int) (t48 t49 : Int) (b2 : aa) (b5 : ai) (b7 : aF) : Option Bool :=
 if decide (t49 < t48) then
 (idx t47 t49).bind fun x3 =>
 if decide (x3 < 0) then
 some false
 else
 if !decide (x3 < (b5.af.length : Int)) then
 some false
 else
 (idx b5.af x3).bind fun x21 =>
 (idx b2.J b7.ar).bind fun x29 =>
 (idx x29.af t49).bind fun x34 =>
 if x21.ax != x34.ax then
 some false
 else
 back t16 t17 t18 t27 t29 t30 t35 t36 t38 t40 t41 t42 t43 t47 t48 (w64 (t49 + 1)) b2 b5 b7
 else
 k_1 t16 t17 t18 t27 t29 t30 t35 t36 t38 t40 t41 t42 t43 b2 b5 b7
theorem ajE {k_1} (aG : K16 (A84 [1, 1, 1, 0, 0, 1, 0, 1, 1]) Ia k_1) {back} (aw : K19 (A84 [0, 1, 1, 1, 0, 0, 1, 1, 0, 0, 1, 0, 1, 1]) Ib back) (n : Nat) : K19 (A84 [0, 1, 1, 1, 0, 0, 1, 1, 0, 0, 1, 0, 1, 1]) Ib (Gn k_1 back n) := fun t16 t17 t18 t27 t29 t30 t35 t36 t38 t40 t41 t42 t43 t47 t48 t49 b2 b5 b7 r h =>
 ie h (fun c0 h =>
 be h fun x3 hx3 h =>
 ie h (fun c1 h =>
 rr h [(0, eb c0), (1, R3.idx hx3), (4, eb c1)]) (fun c1 h =>
 ie h (fun c2 h =>
 rr h [(0, eb c0), (1, R3.idx hx3), (4, eb c1), (4, .eqv (R76.au b5.af)), (0, eb c2)]) (fun c2 h =>
 be h fun x21 jc h =>
 be h fun x29 rC h =>
 be h fun x34 tu h =>
 ie h (fun c3 h =>
 rr h [(0, eb c0), (1, R3.idx hx3), (4, eb c1), (4, .eqv (R76.au b5.af)), (0, eb c2), (5, R76.idx jc), (6, R62.idx rC), (3, R76.idx tu), (2, eb c3)]) (fun c3 h =>
 ra (aw h) [(0, eb c0), (1, R3.idx hx3), (4, eb c1), (4, .eqv (R76.au b5.af)), (0, eb c2), (5, R76.idx jc), (6, R62.idx rC), (3, R76.idx tu), (2, eb c3)])))) (fun c0 h =>
 ra (aG h) [(0, eb c0)])
def xy (k_1:(List aF)→Int→Int→Int→(List ai)→Int→(List Int)→Int→(List ai)→Int→ai→ai→Int→aa→ai→aF→Option Bool):Nat→(List aF)→Int→Int→Int→(List ai)→Int→(List Int)→Int→(List ai)→Int→ai→ai→Int→(List Int)→Int→Int→aa→ai→aF→Option Bool
 |0,_,_,_,_,_,_,_,_,_,_,_,_,_,_,_,_,_,_,_=>none
 |n+1,t16,t17,t18,t27,t29,t30,t35,t36,t38,t40,t41,t42,t43,t47,t48,t49,b2,b5,b7=>Gn k_1 (xy k_1 n) n t16 t17 t18 t27 t29 t30 t35 t36 t38 t40 t41 t42 t43 t47 t48 t49 b2 b5 b7
theorem acH {k_1} (aG:K16 (A84 [1,1,1,0,0,1,0,1,1]) Ia k_1):∀n:Nat,K19 (A84 [0,1,1,1,0,0,1,1,0,0,1,0,1,1]) Ib (xy k_1 n)
 |0=>fun _ _ _ _ _ _ _ _ _ _ _ _ _ _ _ _ _ _ _ _ h=>nz h
 |n+1=>fun _ _ _ _ _ _ _ _ _ _ _ _ _ _ _ _ _ _ _ _ h=>ajE aG (acH aG n) n h
def Gm (k_2 : (List aF) → Int → Int → aa → ai → Option Bool) (n : Nat) (t16 : List aF) (t17 t18 t27 : Int) (t29 : List ai) (t30 : Int) (t35 : List Int) (t36 : Int) (t38 : List ai) (t40 : Int) (t41 t42 : ai) (t43 : Int) (b2 : aa) (b5 : ai) (b7 : aF) : Option Bool :=
 k_2 t16 t17 (w64 (t18 + 1)) b2 b5
theorem ajD {k_2} (bP : K5 (A84 [0, 1, 0, 1, 1]) z6 k_2) (n : Nat) : K16 (A84 [1, 1, 1, 0, 0, 1, 0, 1, 1]) Ia (Gm k_2 n) := fun t16 t17 t18 t27 t29 t30 t35 t36 t38 t40 t41 t42 t43 b2 b5 b7 r h =>
 ra (bP h) []
def Gl (k_3 : Option Bool) (back : (List aF) → Int → Int → aa → ai → Option Bool) (n : Nat) (t16 : List aF) (t17 t18 : Int) (b2 : aa) (b5 : ai) : Option Bool :=
 if decide (t18 < t17) then
 (idx t16 t18).bind fun x2 =>
 if decide (x2.ar < 0) then
 some false
 else
 if !decide (x2.ar < (b2.J.length : Int)) then
 some false
 else
 (idx b2.J x2.ar).bind fun x26 =>
 if (x2.af.length : Int) != x26.av then
 some false
 else
 xy (Gm back n) n t16 t17 t18 x2.ar b2.J (b2.J.length : Int) x2.af (x2.af.length : Int) b2.J x2.ar x26 x26 x26.av x2.af (x2.af.length : Int) 0 b2 b5 x2
 else
 k_3
theorem ajC {k_3} (bw : K0 (A84 [1, 1, 1]) H9 k_3) {back} (aw : K5 (A84 [0, 1, 0, 1, 1]) z6 back) (n : Nat) : K5 (A84 [0, 1, 0, 1, 1]) z6 (Gl k_3 back n) := fun t16 t17 t18 b2 b5 r h =>
 ie h (fun c0 h =>
 be h fun x2 hx2 h =>
 ie h (fun c1 h =>
 rr h [(0, eb c0), (0, R79.idx hx2), (5, eb c1)]) (fun c1 h =>
 ie h (fun c2 h =>
 rr h [(0, eb c0), (0, R79.idx hx2), (5, eb c1), (5, .eqv (R62.au b2.J)), (0, eb c2)]) (fun c2 h =>
 be h fun x26 iw h =>
 ie h (fun c3 h =>
 rr h [(0, eb c0), (0, R79.idx hx2), (5, eb c1), (5, .eqv (R62.au b2.J)), (0, eb c2), (4, .eqv (R3.au x2.af)), (4, R62.idx iw), (2, eb c3)]) (fun c3 h =>
 ra (acH (ajD aw n) n h) [(0, eb c0), (0, R79.idx hx2), (5, eb c1), (5, .eqv (R62.au b2.J)), (0, eb c2), (4, .eqv (R3.au x2.af)), (4, R62.idx iw), (2, eb c3), (3, .eqv (R3.au x2.af))])))) (fun c0 h =>
 ra (bw h) [(0, eb c0)])
def uj (k_3:Option Bool):Nat→(List aF)→Int→Int→aa→ai→Option Bool
 |0,_,_,_,_,_=>none
 |n+1,t16,t17,t18,b2,b5=>Gl k_3 (uj k_3 n) n t16 t17 t18 b2 b5
theorem acG {k_3} (bw:K0 (A84 [1,1,1]) H9 k_3):∀n:Nat,K5 (A84 [0,1,0,1,1]) z6 (uj k_3 n)
 |0=>fun _ _ _ _ _ _ h=>nz h
 |n+1=>fun _ _ _ _ _ _ h=>ajC bw (acG bw n) n h
def BY (n : Nat) : Option Bool :=
 some true
theorem ajB (n : Nat) : K0 (A84 [1, 1, 1]) H9 (BY n) := fun r h =>
 rr h []
def SC (n : Nat) (s0 : aa) (i1 : Int) : Option Bool :=
 (idx s0.J i1).bind fun x6 =>
 uj (BY n) n x6.bg (x6.bg.length : Int) 0 s0 x6
theorem ajA (n : Nat) : K2 (A84 []) TL (SC n) := fun s0 i1 r h =>
 be h fun x6 hx6 h =>
 ra (acG (ajB n) n h) [(5, R62.idx hx6), (5, .eqv (R79.au x6.bg))]
def F84 (n:Nat) (s0:aa) (i1:Int):Option Bool:=SC n s0 i1
theorem ev84 (n:Nat):K2 C84 TL (F84 n):=fun _ _ _ h=>ca (X:=x84) (ajA n h)
def abO (r:Int):AV:=.int .i64 r
def Wh (r:Int):List (Nat×Bx):= []
def x44:=fx E0 Tryz.f44 [] []
def A44:=Ax x44 abO Wh
def C44:=Cx E0 44 abO Wh
def IY (t16:List ai) (t17 t18:Int) (b1:aa):LS:=⟨[(1,.loc 1 0),(16,.slice 63 5 (cO t16)),(17,.int .i64 t17),(18,.int .i64 t18)],[(1,.flat 26 (aV b1))]⟩
def IX (t49 t50:Int) (b1:aa):LS:=⟨[(1,.loc 1 0),(49,.int .i64 t49),(50,.int .i64 t50)],[(1,.flat 26 (aV b1))]⟩
def IW (t60 t61:Int) (b1:aa):LS:=⟨[(1,.loc 1 0),(60,.int .i64 t60),(61,.int .i64 t61)],[(1,.flat 26 (aV b1))]⟩
def IV (i7 t71 t72:Int) (t80:List ag) (t81 t82:Int) (b1:aa):LS:=⟨[(1,.loc 1 0),(7,.int .i64 i7),(71,.int .i64 t71),(72,.int .i64 t72),(80,.slice 84 13 (fw t80)),(81,.int .i64 t81),(82,.int .i64 t82)],[(1,.flat 26 (aV b1))]⟩
def IU (t71 t72:Int) (b1:aa):LS:=⟨[(1,.loc 1 0),(71,.int .i64 t71),(72,.int .i64 t72)],[(1,.flat 26 (aV b1))]⟩
def Ad (t71 t72:Int) (b1:aa):LS:=⟨[(1,.loc 1 0),(71,.int .i64 t71),(72,.int .i64 t72)],[(1,.flat 26 (aV b1))]⟩
def IT:LS:=⟨[],[]⟩
def IS (b1:aa):LS:=⟨[(1,.loc 1 0)],[(1,.flat 26 (aV b1))]⟩
def IQ (b1:aa):LS:=⟨[(1,.loc 1 0)],[(1,.flat 26 (aV b1))]⟩
def IP (b1:aa):LS:=⟨[(1,.loc 1 0)],[(1,.flat 26 (aV b1))]⟩
def NW (s0:aa):LS:=⟨[(0,.agg (aV s0))],[]⟩
def G8 (k_9 : aa → Option Int) (back : (List ai) → Int → Int → aa → Option Int) (n : Nat) (t16 : List ai) (t17 t18 : Int) (b1 : aa) : Option Int :=
 if decide (t18 < t17) then
 (idx t16 t18).bind fun x2 =>
 if decide (8 < (x2.af.length : Int)) then
 some 2
 else
 if decide (4 < (x2.bg.length : Int)) then
 some 2
 else
 if decide (4 < (x2.bV.length : Int)) then
 some 2
 else
 back t16 t17 (w64 (t18 + 1)) b1
 else
 k_9 b1
theorem ale {k_9} (Q9 : K1 (A44 [1, 1, 1]) IP k_9) {back} (aw : K4 (A44 [0, 1, 0, 1, 1]) IY back) (n : Nat) : K4 (A44 [0, 1, 0, 1, 1]) IY (G8 k_9 back n) := fun t16 t17 t18 b1 r h =>
 ie h (fun c0 h =>
 be h fun x2 hx2 h =>
 ie h (fun c1 h =>
 rr h [(0, eb c0), (0, R62.idx hx2), (5, .eqv (R76.au x2.af)), (0, eb c1)]) (fun c1 h =>
 ie h (fun c2 h =>
 rr h [(0, eb c0), (0, R62.idx hx2), (5, .eqv (R76.au x2.af)), (0, eb c1), (3, .eqv (R79.au x2.bg)), (0, eb c2)]) (fun c2 h =>
 ie h (fun c3 h =>
 rr h [(0, eb c0), (0, R62.idx hx2), (5, .eqv (R76.au x2.af)), (0, eb c1), (3, .eqv (R79.au x2.bg)), (0, eb c2), (4, .eqv (R83.au x2.bV)), (0, eb c3)]) (fun c3 h =>
 ra (aw h) [(0, eb c0), (0, R62.idx hx2), (5, .eqv (R76.au x2.af)), (0, eb c1), (3, .eqv (R79.au x2.bg)), (0, eb c2), (4, .eqv (R83.au x2.bV)), (0, eb c3)])))) (fun c0 h =>
 ra (Q9 h) [(0, eb c0)])
def xO (k_9:aa→Option Int):Nat→(List ai)→Int→Int→aa→Option Int
 |0,_,_,_,_=>none
 |n+1,t16,t17,t18,b1=>G8 k_9 (xO k_9 n) n t16 t17 t18 b1
theorem adi {k_9} (Q9:K1 (A44 [1,1,1]) IP k_9):∀n:Nat,K4 (A44 [0,1,0,1,1]) IY (xO k_9 n)
 |0=>fun _ _ _ _ _ h=>nz h
 |n+1=>fun _ _ _ _ _ h=>ale Q9 (adi Q9 n) n h
def G7 (k_8 : aa → Option Int) (back : Int → Int → aa → Option Int) (n : Nat) (t49 t50 : Int) (b1 : aa) : Option Int :=
 if decide (t50 < t49) then
 (F83 n b1 t50).bind fun x6 =>
 if !x6 then
 some 70
 else
 back t49 (w64 (t50 + 1)) b1
 else
 k_8 b1
theorem ald {k_8} (Ra : K1 (A44 [1, 1, 1, 1, 1]) IQ k_8) {back} (aw : K3 (A44 [0, 1, 0, 1, 1, 1, 1]) IX back) (n : Nat) : K3 (A44 [0, 1, 0, 1, 1, 1, 1]) IX (G7 k_8 back n) := fun t49 t50 b1 r h =>
 ie h (fun c0 h =>
 be h fun x6 hx6 h =>
 ie h (fun c1 h =>
 rr h [(0, eb c0), (4, .call (ev83 n hx6) [] [] []), (0, eb c1)]) (fun c1 h =>
 ra (aw h) [(0, eb c0), (4, .call (ev83 n hx6) [] [] []), (0, eb c1)])) (fun c0 h =>
 ra (Ra h) [(0, eb c0)])
def xN (k_8:aa→Option Int):Nat→Int→Int→aa→Option Int
 |0,_,_,_=>none
 |n+1,t49,t50,b1=>G7 k_8 (xN k_8 n) n t49 t50 b1
theorem adh {k_8} (Ra:K1 (A44 [1,1,1,1,1]) IQ k_8):∀n:Nat,K3 (A44 [0,1,0,1,1,1,1]) IX (xN k_8 n)
 |0=>fun _ _ _ _ h=>nz h
 |n+1=>fun _ _ _ _ h=>ald Ra (adh Ra n) n h
def G6 (k_7 : aa → Option Int) (back : Int → Int → aa → Option Int) (n : Nat) (t60 t61 : Int) (b1 : aa) : Option Int :=
 if decide (t61 < t60) then
 (F84 n b1 t61).bind fun x6 =>
 if !x6 then
 some 70
 else
 back t60 (w64 (t61 + 1)) b1
 else
 k_7 b1
theorem alc {k_7} (Rb : K1 (A44 [1, 1, 1, 1, 1, 1]) IS k_7) {back} (aw : K3 (A44 [0, 1, 0, 1, 1, 1, 1, 1]) IW back) (n : Nat) : K3 (A44 [0, 1, 0, 1, 1, 1, 1, 1]) IW (G6 k_7 back n) := fun t60 t61 b1 r h =>
 ie h (fun c0 h =>
 be h fun x6 hx6 h =>
 ie h (fun c1 h =>
 rr h [(0, eb c0), (4, .call (ev84 n hx6) [] [] []), (0, eb c1)]) (fun c1 h =>
 ra (aw h) [(0, eb c0), (4, .call (ev84 n hx6) [] [] []), (0, eb c1)])) (fun c0 h =>
 ra (Rb h) [(0, eb c0)])
def xM (k_7:aa→Option Int):Nat→Int→Int→aa→Option Int
 |0,_,_,_=>none
 |n+1,t60,t61,b1=>G6 k_7 (xM k_7 n) n t60 t61 b1
theorem adg {k_7} (Rb:K1 (A44 [1,1,1,1,1,1]) IS k_7):∀n:Nat,K3 (A44 [0,1,0,1,1,1,1,1]) IW (xM k_7 n)
 |0=>fun _ _ _ _ h=>nz h
 |n+1=>fun _ _ _ _ h=>alc Rb (adg Rb n) n h
def G5 (k_4 : Int → Int → aa → Option Int) (back : Int → Int → Int → (List ag) → Int → Int → aa → Option Int) (n : Nat) (i7 t71 t72 : Int) (t80 : List ag) (t81 t82 : Int) (b1 : aa) : Option Int :=
 if decide (t82 < t81) then
 (idx t80 t82).bind fun x2 =>
 (F32 n b1 i7).bind fun x9 =>
 (F73 n x9 [] x2).bind fun x12 =>
 if x12 != 0 then
 some x12
 else
 back i7 t71 t72 t80 t81 (w64 (t82 + 1)) b1
 else
 k_4 t71 t72 b1
theorem alb {k_4} (eB : K3 (A44 [1, 1, 1, 0, 0, 1, 0, 1, 1, 1, 1, 1, 1]) IU k_4) {back} (aw : K7 (A44 [0, 1, 1, 0, 0, 1, 1, 0, 0, 1, 0, 1, 1, 1, 1, 1, 1]) IV back) (n : Nat) : K7 (A44 [0, 1, 1, 0, 0, 1, 1, 0, 0, 1, 0, 1, 1, 1, 1, 1, 1]) IV (G5 k_4 back n) := fun i7 t71 t72 t80 t81 t82 b1 r h =>
 ie h (fun c0 h =>
 be h fun x2 hx2 h =>
 be h fun x9 hx9 h =>
 be h fun x12 bT h =>
 ie h (fun c1 h =>
 rr h [(0, eb c0), (0, R83.idx hx2), (5, .call (cd (e := 3) (z := true) (Q := aX x9) (jN n hx9) (R3.len x9)) [] [] []), (1, .call (Rk n bT) [.one (.sl 0 0), .one (.sl 3 1)] [] []), (2, eb c1)]) (fun c1 h =>
 ra (aw h) [(0, eb c0), (0, R83.idx hx2), (5, .call (cd (e := 3) (z := true) (Q := aX x9) (jN n hx9) (R3.len x9)) [] [] []), (1, .call (Rk n bT) [.one (.sl 0 0), .one (.sl 3 1)] [] []), (2, eb c1)])) (fun c0 h =>
 ra (eB h) [(0, eb c0)])
def xL (k_4:Int→Int→aa→Option Int):Nat→Int→Int→Int→(List ag)→Int→Int→aa→Option Int
 |0,_,_,_,_,_,_,_=>none
 |n+1,i7,t71,t72,t80,t81,t82,b1=>G5 k_4 (xL k_4 n) n i7 t71 t72 t80 t81 t82 b1
theorem adf {k_4} (eB:K3 (A44 [1,1,1,0,0,1,0,1,1,1,1,1,1]) IU k_4):∀n:Nat,K7 (A44 [0,1,1,0,0,1,1,0,0,1,0,1,1,1,1,1,1]) IV (xL k_4 n)
 |0=>fun _ _ _ _ _ _ _ _ h=>nz h
 |n+1=>fun _ _ _ _ _ _ _ _ h=>alb eB (adf eB n) n h
def G4 (k_5 : Int → Int → aa → Option Int) (n : Nat) (t71 t72 : Int) (b1 : aa) : Option Int :=
 k_5 t71 (w64 (t72 + 1)) b1
theorem ala {k_5} (eW : K3 (A44 [0, 1, 0, 1, 1, 1, 1, 1, 1]) Ad k_5) (n : Nat) : K3 (A44 [1, 1, 1, 0, 0, 1, 0, 1, 1, 1, 1, 1, 1]) IU (G4 k_5 n) := fun t71 t72 b1 r h =>
 ra (eW h) []
def G3 (k_6 : Option Int) (back : Int → Int → aa → Option Int) (n : Nat) (t71 t72 : Int) (b1 : aa) : Option Int :=
 if decide (t72 < t71) then
 (idx b1.J t72).bind fun x7 =>
 xL (G4 back n) n t72 t71 t72 x7.bV (x7.bV.length : Int) 0 b1
 else
 k_6
theorem akZ {k_6} (rF : K0 (A44 [1, 1, 1, 1, 1, 1, 1]) IT k_6) {back} (aw : K3 (A44 [0, 1, 0, 1, 1, 1, 1, 1, 1]) Ad back) (n : Nat) : K3 (A44 [0, 1, 0, 1, 1, 1, 1, 1, 1]) Ad (G3 k_6 back n) := fun t71 t72 b1 r h =>
 ie h (fun c0 h =>
 be h fun x7 hx7 h =>
 ra (adf (ala aw n) n h) [(0, eb c0), (5, R62.idx hx7), (2, .eqv (R83.au x7.bV))]) (fun c0 h =>
 ra (rF h) [(0, eb c0)])
def uw (k_6:Option Int):Nat→Int→Int→aa→Option Int
 |0,_,_,_=>none
 |n+1,t71,t72,b1=>G3 k_6 (uw k_6 n) n t71 t72 b1
theorem ade {k_6} (rF:K0 (A44 [1,1,1,1,1,1,1]) IT k_6):∀n:Nat,K3 (A44 [0,1,0,1,1,1,1,1,1]) Ad (uw k_6 n)
 |0=>fun _ _ _ _ h=>nz h
 |n+1=>fun _ _ _ _ h=>akZ rF (ade rF n) n h
def B6 (n : Nat) : Option Int :=
 some 0
theorem akY (n : Nat) : K0 (A44 [1, 1, 1, 1, 1, 1, 1]) IT (B6 n) := fun r h =>
 rr h []
def G2 (n : Nat) (b1 : aa) : Option Int :=
 uw (B6 n) n (b1.J.length : Int) 0 b1
theorem akX (n : Nat) : K1 (A44 [1, 1, 1, 1, 1, 1]) IS (G2 n) := fun b1 r h =>
 ra (ade (akY n) n h) [(2, .eqv (R62.au b1.J))]
def G1 (n : Nat) (b1 : aa) : Option Int :=
 xM (G2 n) n (b1.J.length : Int) 0 b1
theorem akW (n : Nat) : K1 (A44 [1, 1, 1, 1, 1]) IQ (G1 n) := fun b1 r h =>
 ra (adg (akX n) n h) [(2, .eqv (R62.au b1.J))]
def G0 (n : Nat) (b1 : aa) : Option Int :=
 if decide (b1.bE < 0) then
 some 70
 else
 if decide (1000 < b1.bE) then
 some 70
 else
 xN (G1 n) n (b1.J.length : Int) 0 b1
theorem akV (n : Nat) : K1 (A44 [1, 1, 1]) IP (G0 n) := fun b1 r h =>
 ie h (fun c0 h =>
 rr h [(2, eb c0)]) (fun c0 h =>
 ie h (fun c1 h =>
 rr h [(2, eb c0), (3, eb c1)]) (fun c1 h =>
 ra (adh (akW n) n h) [(2, eb c0), (3, eb c1), (3, .eqv (R62.au b1.J))]))
def MN (n : Nat) (s0 : aa) : Option Int :=
 if decide (8 < (s0.J.length : Int)) then
 some 2
 else
 xO (G0 n) n s0.J (s0.J.length : Int) 0 s0
theorem agJ (n : Nat) : K1 (A44 []) NW (MN n) := fun s0 r h =>
 ie h (fun c0 h =>
 rr h [(4, .eqv (R62.au s0.J)), (0, eb c0)]) (fun c0 h =>
 ra (adi (akV n) n h) [(4, .eqv (R62.au s0.J)), (0, eb c0), (2, .eqv (R62.au s0.J))])
def F44 (n:Nat) (s0:aa):Option Int:=MN n s0
theorem zA (n:Nat):K1 C44 NW (F44 n):=fun _ _ h=>ca (X:=x44) (agJ n h)
def Vi (r:(List Int)):AV:=.slice 3 1 (aX r)
def OG (r:(List Int)):List (Nat×Bx):= []
def x114:=fx E0 Tryz.f114 [] []
def A114:=Ax x114 Vi OG
def C114:=Cx E0 114 Vi OG
def N8 (s0:aa) (aC:Int):LS:=⟨[(0,.agg (aV s0)),(1,.int .i64 aC)],[]⟩
def MY (n : Nat) (s0 : aa) (aC : Int) : Option (List Int) :=
 (F32 n s0 aC).bind fun x5 =>
 if x5.isEmpty then
 some []
 else
 (idx s0.J aC).bind fun x14 =>
 (cut x5 none (some (if 0 < (if (x5.length : Int) < x14.av then (x5.length : Int) else x14.av) then (if (x5.length : Int) < x14.av then (x5.length : Int) else x14.av) else 0))).bind fun x22 =>
 some x22
theorem agU (n : Nat) : K2 (A114 []) N8 (MY n) := fun s0 aC r h =>
 be h fun x5 hx5 h =>
 ie h (fun c0 h =>
 rr h [(4, .call (jN n hx5) [] [] [(8, 200000)]), (2, R3.frz 8 x5), (0, .eqv ((R3.mA x5).trans (congrArg AV.bool c0))), (1, .norm [(4, .one (.sl 3 1))] [])]) (fun c0 h =>
 be h fun x14 gB h =>
 be h fun x22 tv h =>
 rr h [(4, .call (jN n hx5) [] [] [(8, 200000)]), (2, R3.frz 8 x5), (0, .eqv ((R3.mA x5).trans (congrArg AV.bool c0))), (4, R62.idx gB), (3, .eqv (R3.au x5)), (2, R3.cut tv)])
def Sq (n:Nat) (s0:aa) (aC:Int):Option (List Int):=MY n s0 aC
theorem adT (n:Nat):K2 C114 N8 (Sq n):=fun _ _ _ h=>ca (X:=x114) (agU n h)
end Go.Proofs.YtmealahmjddpcaaGreatDoor
end
