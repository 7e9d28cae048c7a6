/- Texts that belong together. The first: Functions of the program as plain functions, and that the program answers as they do; written by a program (comp2.py). -/
import Derived.Test.YtmealahmjddpcaaGreatDoorP10
import Derived.KernelRfl
import Derived.Test.YtmealahmjddpcaaGreatDoorP8
import Derived.IntWalk
set_option linter.all false
set_option maxRecDepth 100000
noncomputable section
namespace Go.Proofs.YtmealahmjddpcaaGreatDoor
open Go.Sim
def abj (r:Bool):AV:=.bool r
def VM (r:Bool):List (Nat×Bx):= []
def x85:=fx E0 Tryz.f85 [] []
def A85:=Ax x85 abj VM
def C85:=Cx E0 85 abj VM
def H8 (gP:List Int) (t18:List I) (t19 t20:Int):LS:=⟨[(7,.slice 3 1 (aX gP)),(18,.slice 65 3 (aI t18)),(19,.int .i64 t19),(20,.int .i64 t20)],[]⟩
def H7:LS:=⟨[],[]⟩
def TK (s0:aa) (aC:Int) (bS:List I):LS:=⟨[(0,.agg (aV s0)),(1,.int .i64 aC),(2,.slice 65 3 (aI bS))],[]⟩
def Gk (k_1 : Option Bool) (back : (List Int) → (List I) → Int → Int → Option Bool) (n : Nat) (gP : List Int) (t18 : List I) (t19 t20 : Int) : Option Bool :=
 if decide (t20 < t19) then
 (idx t18 t20).bind fun x3 =>
 (F88 n x3).bind fun x10 =>
 if !x10 then
 some false
 else
 (idx gP t20).bind fun x18 =>
 if x3.ax != x18 then
 some false
 else
 back gP t18 t19 (w64 (t20 + 1))
 else
 k_1
theorem ajz {k_1} (aG : K0 (A85 [1, 1, 1, 1]) H7 k_1) {back} (aw : K4 (A85 [0, 1, 0, 1, 1, 1]) H8 back) (n : Nat) : K4 (A85 [0, 1, 0, 1, 1, 1]) H8 (Gk k_1 back n) := fun gP t18 t19 t20 r h =>
 ie h (fun c0 h =>
 be h fun x3 hx3 h =>
 be h fun x10 cg h =>
 ie h (fun c1 h =>
 rr h [(0, eb c0), (1, R64.idx hx3), (5, .call (iM n cg) [] [] []), (0, eb c1)]) (fun c1 h =>
 be h fun x18 fN h =>
 ie h (fun c2 h =>
 rr h [(0, eb c0), (1, R64.idx hx3), (5, .call (iM n cg) [] [] []), (0, eb c1), (5, R3.idx fN), (1, eb c2)]) (fun c2 h =>
 ra (aw h) [(0, eb c0), (1, R64.idx hx3), (5, .call (iM n cg) [] [] []), (0, eb c1), (5, R3.idx fN), (1, eb c2)]))) (fun c0 h =>
 ra (aG h) [(0, eb c0)])
def xx (k_1:Option Bool):Nat→(List Int)→(List I)→Int→Int→Option Bool
 |0,_,_,_,_=>none
 |n+1,gP,t18,t19,t20=>Gk k_1 (xx k_1 n) n gP t18 t19 t20
theorem acF {k_1} (aG:K0 (A85 [1,1,1,1]) H7 k_1):∀n:Nat,K4 (A85 [0,1,0,1,1,1]) H8 (xx k_1 n)
 |0=>fun _ _ _ _ _ h=>nz h
 |n+1=>fun _ _ _ _ _ h=>ajz aG (acF aG n) n h
def Gj (n : Nat) : Option Bool :=
 some true
theorem ajy (n : Nat) : K0 (A85 [1, 1, 1, 1]) H7 (Gj n) := fun r h =>
 rr h []
def SB (n : Nat) (s0 : aa) (aC : Int) (bS : List I) : Option Bool :=
 (Sq n s0 aC).bind fun x5 =>
 if (x5.length : Int) != (bS.length : Int) then
 some false
 else
 xx (Gj n) n x5 bS (bS.length : Int) 0
theorem ajx (n : Nat) : K3 (A85 []) TK (SB n) := fun s0 aC bS r h =>
 be h fun x5 hx5 h =>
 ie h (fun c0 h =>
 rr h [(4, .call (adT n hx5) [] [] []), (2, .eqv (R3.au x5)), (1, .eqv (R64.au bS)), (0, eb c0)]) (fun c0 h =>
 ra (acF (ajy n) n h) [(4, .call (adT n hx5) [] [] []), (2, .eqv (R3.au x5)), (1, .eqv (R64.au bS)), (0, eb c0), (1, .eqv (R64.au bS))])
def F85 (n:Nat) (s0:aa) (aC:Int) (bS:List I):Option Bool:=SB n s0 aC bS
theorem tO (n:Nat):K3 C85 TK (F85 n):=fun _ _ _ _ h=>ca (X:=x85) (ajx n h)
def abi (r:Bool):AV:=.bool r
def VL (r:Bool):List (Nat×Bx):= []
def x86:=fx E0 Tryz.f86 [] []
def A86:=Ax x86 abi VL
def C86:=Cx E0 86 abi VL
def afN (aC aM:Int) (t40:List I) (t41 t42:Int) (t83:Bool) (b4:aa):LS:=⟨[(1,.int .i64 aC),(3,.int .i64 aM),(4,.loc 4 0),(40,.slice 65 3 (aI t40)),(41,.int .i64 t41),(42,.int .i64 t42),(83,.bool t83)],[(4,.flat 26 (aV b4))]⟩
def TJ (aC aM:Int) (t40:List I) (t41 t42:Int) (b4:aa):LS:=⟨[(1,.int .i64 aC),(3,.int .i64 aM),(4,.loc 4 0),(40,.slice 65 3 (aI t40)),(41,.int .i64 t41),(42,.int .i64 t42)],[(4,.flat 26 (aV b4))]⟩
def zZ (aC aM:Int) (t40:List I) (t41 t42:Int) (b4:aa):LS:=⟨[(1,.int .i64 aC),(3,.int .i64 aM),(4,.loc 4 0),(40,.slice 65 3 (aI t40)),(41,.int .i64 t41),(42,.int .i64 t42)],[(4,.flat 26 (aV b4))]⟩
def H6:LS:=⟨[],[]⟩
def TH (s0:aa) (aC:Int) (bN:List I) (aM:Int):LS:=⟨[(0,.agg (aV s0)),(1,.int .i64 aC),(2,.slice 65 3 (aI bN)),(3,.int .i64 aM)],[]⟩
def mh (k_1 : Int → Int → (List I) → Int → Int → aa → Option Bool) (n : Nat) (aC aM : Int) (t40 : List I) (t41 t42 : Int) (t83 : Bool) (b4 : aa) : Option Bool :=
 if t83 then
 k_1 aC aM t40 t41 t42 b4
 else
 some false
theorem oB {k_1} (aG : K6 (A86 [1, 1, 1, 0, 0, 1, 0, 1, 1]) TJ k_1) (n : Nat) : K7 (A86 [1, 1, 1, 1, 1, 1, 1, 0, 1, 0, 0, 1, 1, 0, 0, 1, 0, 1, 1]) afN (mh k_1 n) := fun aC aM t40 t41 t42 t83 b4 r h =>
 ie h (fun c0 g0 => by subst c0; exact (
 ra (aG g0) [])) (fun c0 g0 => by subst c0; exact (
 rr g0 []))
def ke (k_2 : Int → Int → (List I) → Int → Int → aa → Option Bool) (n : Nat) (aC aM : Int) (t40 : List I) (t41 t42 : Int) (b4 : aa) : Option Bool :=
 k_2 aC aM t40 t41 (w64 (t42 + 1)) b4
theorem mb {k_2} (bP : K6 (A86 [0, 1, 0, 1, 1]) zZ k_2) (n : Nat) : K6 (A86 [1, 1, 1, 0, 0, 1, 0, 1, 1]) TJ (ke k_2 n) := fun aC aM t40 t41 t42 b4 r h =>
 ra (bP h) []
def Gi (k_3 : Option Bool) (back : Int → Int → (List I) → Int → Int → aa → Option Bool) (n : Nat) (aC aM : Int) (t40 : List I) (t41 t42 : Int) (b4 : aa) : Option Bool :=
 if decide (t42 < t41) then
 (idx t40 t42).bind fun x3 =>
 (F88 n x3).bind fun x10 =>
 if !x10 then
 some false
 else
 (idx b4.J aC).bind fun x19 =>
 (idx x19.af t42).bind fun x24 =>
 if x3.ax == x24.ax then
 ke back n aC aM t40 t41 t42 b4
 else
 if x3.ax == 2 then
 if aM != 1 then
 (idx b4.J aC).bind fun x42 =>
 if !decide (t42 < x42.av) then
 ke back n aC aM t40 t41 t42 b4
 else
 if x3.ax == 1 then
 if aM == 3 then
 (idx b4.J aC).bind fun x61 =>
 mh (ke back n) n aC aM t40 t41 t42 (!decide (t42 < x61.av)) b4
 else
 mh (ke back n) n aC aM t40 t41 t42 false b4
 else
 mh (ke back n) n aC aM t40 t41 t42 false b4
 else
 if x3.ax == 1 then
 if aM == 3 then
 (idx b4.J aC).bind fun x52 =>
 mh (ke back n) n aC aM t40 t41 t42 (!decide (t42 < x52.av)) b4
 else
 mh (ke back n) n aC aM t40 t41 t42 false b4
 else
 mh (ke back n) n aC aM t40 t41 t42 false b4
 else
 if x3.ax == 1 then
 if aM == 3 then
 (idx b4.J aC).bind fun x50 =>
 mh (ke back n) n aC aM t40 t41 t42 (!decide (t42 < x50.av)) b4
 else
 mh (ke back n) n aC aM t40 t41 t42 false b4
 else
 mh (ke back n) n aC aM t40 t41 t42 false b4
 else
 k_3
theorem ajw {k_3} (bw : K0 (A86 [1, 1, 1]) H6 k_3) {back} (aw : K6 (A86 [0, 1, 0, 1, 1]) zZ back) (n : Nat) : K6 (A86 [0, 1, 0, 1, 1]) zZ (Gi k_3 back n) := fun aC aM t40 t41 t42 b4 r h =>
 ie h (fun c0 h =>
 be h fun x3 hx3 h =>
 be h fun x10 cg h =>
 ie h (fun c1 h =>
 rr h [(0, eb c0), (1, R64.idx hx3), (5, .call (iM n cg) [] [] []), (0, eb c1)]) (fun c1 h =>
 be h fun x19 dM h =>
 be h fun x24 fg h =>
 ie h (fun c2 h =>
 ra (mb aw n h) [(0, eb c0), (1, R64.idx hx3), (5, .call (iM n cg) [] [] []), (0, eb c1), (6, R62.idx dM), (3, R76.idx fg), (2, eb c2)]) (fun c2 h =>
 ie h (fun c3 h =>
 ie h (fun c4 h =>
 be h fun x42 pH h =>
 ie h (fun c5 h =>
 ra (mb aw n h) [(0, eb c0), (1, R64.idx hx3), (5, .call (iM n cg) [] [] []), (0, eb c1), (6, R62.idx dM), (3, R76.idx fg), (2, eb c2), (3, eb c3), (2, eb c4), (6, R62.idx pH), (2, eb c5)]) (fun c5 h =>
 ie h (fun c6 h =>
 ie h (fun c7 h =>
 be h fun x61 QY h =>
 ra (oB (mb aw n) n h) [(0, eb c0), (1, R64.idx hx3), (5, .call (iM n cg) [] [] []), (0, eb c1), (6, R62.idx dM), (3, R76.idx fg), (2, eb c2), (3, eb c3), (2, eb c4), (6, R62.idx pH), (2, eb c5), (4, eb c6), (2, eb c7), (6, R62.idx QY)]) (fun c7 h =>
 ra (oB (mb aw n) n h) [(0, eb c0), (1, R64.idx hx3), (5, .call (iM n cg) [] [] []), (0, eb c1), (6, R62.idx dM), (3, R76.idx fg), (2, eb c2), (3, eb c3), (2, eb c4), (6, R62.idx pH), (2, eb c5), (4, eb c6), (2, eb c7)])) (fun c6 h =>
 ra (oB (mb aw n) n h) [(0, eb c0), (1, R64.idx hx3), (5, .call (iM n cg) [] [] []), (0, eb c1), (6, R62.idx dM), (3, R76.idx fg), (2, eb c2), (3, eb c3), (2, eb c4), (6, R62.idx pH), (2, eb c5), (4, eb c6)]))) (fun c4 h =>
 ie h (fun c5 h =>
 ie h (fun c6 h =>
 be h fun x52 Q1 h =>
 ra (oB (mb aw n) n h) [(0, eb c0), (1, R64.idx hx3), (5, .call (iM n cg) [] [] []), (0, eb c1), (6, R62.idx dM), (3, R76.idx fg), (2, eb c2), (3, eb c3), (2, eb c4), (6, eb c5), (2, eb c6), (6, R62.idx Q1)]) (fun c6 h =>
 ra (oB (mb aw n) n h) [(0, eb c0), (1, R64.idx hx3), (5, .call (iM n cg) [] [] []), (0, eb c1), (6, R62.idx dM), (3, R76.idx fg), (2, eb c2), (3, eb c3), (2, eb c4), (6, eb c5), (2, eb c6)])) (fun c5 h =>
 ra (oB (mb aw n) n h) [(0, eb c0), (1, R64.idx hx3), (5, .call (iM n cg) [] [] []), (0, eb c1), (6, R62.idx dM), (3, R76.idx fg), (2, eb c2), (3, eb c3), (2, eb c4), (6, eb c5)]))) (fun c3 h =>
 ie h (fun c4 h =>
 ie h (fun c5 h =>
 be h fun x50 hx50 h =>
 ra (oB (mb aw n) n h) [(0, eb c0), (1, R64.idx hx3), (5, .call (iM n cg) [] [] []), (0, eb c1), (6, R62.idx dM), (3, R76.idx fg), (2, eb c2), (3, eb c3), (7, eb c4), (2, eb c5), (6, R62.idx hx50)]) (fun c5 h =>
 ra (oB (mb aw n) n h) [(0, eb c0), (1, R64.idx hx3), (5, .call (iM n cg) [] [] []), (0, eb c1), (6, R62.idx dM), (3, R76.idx fg), (2, eb c2), (3, eb c3), (7, eb c4), (2, eb c5)])) (fun c4 h =>
 ra (oB (mb aw n) n h) [(0, eb c0), (1, R64.idx hx3), (5, .call (iM n cg) [] [] []), (0, eb c1), (6, R62.idx dM), (3, R76.idx fg), (2, eb c2), (3, eb c3), (7, eb c4)]))))) (fun c0 h =>
 ra (bw h) [(0, eb c0)])
def xw (k_3:Option Bool):Nat→Int→Int→(List I)→Int→Int→aa→Option Bool
 |0,_,_,_,_,_,_=>none
 |n+1,aC,aM,t40,t41,t42,b4=>Gi k_3 (xw k_3 n) n aC aM t40 t41 t42 b4
theorem acE {k_3} (bw:K0 (A86 [1,1,1]) H6 k_3):∀n:Nat,K6 (A86 [0,1,0,1,1]) zZ (xw k_3 n)
 |0=>fun _ _ _ _ _ _ _ h=>nz h
 |n+1=>fun _ _ _ _ _ _ _ h=>ajw bw (acE bw n) n h
def Gg (n : Nat) : Option Bool :=
 some true
theorem ajv (n : Nat) : K0 (A86 [1, 1, 1]) H6 (Gg n) := fun r h =>
 rr h []
def SA (n : Nat) (s0 : aa) (aC : Int) (bN : List I) (aM : Int) : Option Bool :=
 if decide (aM < 1) then
 some false
 else
 if decide (3 < aM) then
 some false
 else
 if decide (aC < 0) then
 some false
 else
 if !decide (aC < (s0.J.length : Int)) then
 some false
 else
 (idx s0.J aC).bind fun x26 =>
 if (bN.length : Int) != (x26.af.length : Int) then
 some false
 else
 xw (Gg n) n aC aM bN (bN.length : Int) 0 s0
theorem aju (n : Nat) : K4 (A86 []) TH (SA n) := fun s0 aC bN aM r h =>
 ie h (fun c0 h =>
 rr h [(3, eb c0)]) (fun c0 h =>
 ie h (fun c1 h =>
 rr h [(3, eb c0), (2, eb c1)]) (fun c1 h =>
 ie h (fun c2 h =>
 rr h [(3, eb c0), (2, eb c1), (3, eb c2)]) (fun c2 h =>
 ie h (fun c3 h =>
 rr h [(3, eb c0), (2, eb c1), (3, eb c2), (5, .eqv (R62.au s0.J)), (0, eb c3)]) (fun c3 h =>
 be h fun x26 iw h =>
 ie h (fun c4 h =>
 rr h [(3, eb c0), (2, eb c1), (3, eb c2), (5, .eqv (R62.au s0.J)), (0, eb c3), (3, .eqv (R64.au bN)), (3, R62.idx iw), (2, .eqv (R76.au x26.af)), (0, eb c4)]) (fun c4 h =>
 ra (acE (ajv n) n h) [(3, eb c0), (2, eb c1), (3, eb c2), (5, .eqv (R62.au s0.J)), (0, eb c3), (3, .eqv (R64.au bN)), (3, R62.idx iw), (2, .eqv (R76.au x26.af)), (0, eb c4), (2, .eqv (R64.au bN))])))))
def F86 (n:Nat) (s0:aa) (aC:Int) (bN:List I) (aM:Int):Option Bool:=SA n s0 aC bN aM
theorem DV (n:Nat):K4 C86 TH (F86 n):=fun _ _ _ _ _ h=>ca (X:=x86) (aju n h)
def abh (r:Bool):AV:=.bool r
def VK (r:Bool):List (Nat×Bx):= []
def x87:=fx E0 Tryz.f87 [] []
def A87:=Ax x87 abh VK
def C87:=Cx E0 87 abh VK
def H5 (aQ:List Int) (kX jf:Int) (t9:List Int) (t10 t11:Int):LS:=⟨[(0,.slice 3 1 (aX aQ)),(1,.int .i64 kX),(2,.int .i64 jf),(9,.slice 3 1 (aX t9)),(10,.int .i64 t10),(11,.int .i64 t11)],[]⟩
def H4:LS:=⟨[],[]⟩
def TG (aQ:List Int) (kX jf:Int):LS:=⟨[(0,.slice 3 1 (aX aQ)),(1,.int .i64 kX),(2,.int .i64 jf)],[]⟩
def Gf (k_1 : Option Bool) (back : (List Int) → Int → Int → (List Int) → Int → Int → Option Bool) (n : Nat) (aQ : List Int) (kX jf : Int) (t9 : List Int) (t10 t11 : Int) : Option Bool :=
 if decide (t11 < t10) then
 (idx t9 t11).bind fun x3 =>
 if decide (x3 < kX) then
 some false
 else
 if !decide (x3 < jf) then
 some false
 else
 if decide (0 < t11) then
 (idx aQ (w64 (t11 - 1))).bind fun x24 =>
 if !decide (x24 < x3) then
 some false
 else
 back aQ kX jf t9 t10 (w64 (t11 + 1))
 else
 back aQ kX jf t9 t10 (w64 (t11 + 1))
 else
 k_1
theorem ajt {k_1} (aG : K0 (A87 [1, 1]) H4 k_1) {back} (aw : K6 (A87 [0, 1, 0, 1]) H5 back) (n : Nat) : K6 (A87 [0, 1, 0, 1]) H5 (Gf k_1 back n) := fun aQ kX jf t9 t10 t11 r h =>
 ie h (fun c0 h =>
 be h fun x3 hx3 h =>
 ie h (fun c1 h =>
 rr h [(0, eb c0), (1, R3.idx hx3), (5, eb c1)]) (fun c1 h =>
 ie h (fun c2 h =>
 rr h [(0, eb c0), (1, R3.idx hx3), (5, eb c1), (3, eb c2)]) (fun c2 h =>
 ie h (fun c3 h =>
 be h fun x24 fg h =>
 ie h (fun c4 h =>
 rr h [(0, eb c0), (1, R3.idx hx3), (5, eb c1), (3, eb c2), (3, eb c3), (5, R3.idx fg), (1, eb c4)]) (fun c4 h =>
 ra (aw h) [(0, eb c0), (1, R3.idx hx3), (5, eb c1), (3, eb c2), (3, eb c3), (5, R3.idx fg), (1, eb c4)])) (fun c3 h =>
 ra (aw h) [(0, eb c0), (1, R3.idx hx3), (5, eb c1), (3, eb c2), (3, eb c3)])))) (fun c0 h =>
 ra (aG h) [(0, eb c0)])
def xv (k_1:Option Bool):Nat→(List Int)→Int→Int→(List Int)→Int→Int→Option Bool
 |0,_,_,_,_,_,_=>none
 |n+1,aQ,kX,jf,t9,t10,t11=>Gf k_1 (xv k_1 n) n aQ kX jf t9 t10 t11
theorem acD {k_1} (aG:K0 (A87 [1,1]) H4 k_1):∀n:Nat,K6 (A87 [0,1,0,1]) H5 (xv k_1 n)
 |0=>fun _ _ _ _ _ _ _ h=>nz h
 |n+1=>fun _ _ _ _ _ _ _ h=>ajt aG (acD aG n) n h
def Ge (n : Nat) : Option Bool :=
 some true
theorem ajs (n : Nat) : K0 (A87 [1, 1]) H4 (Ge n) := fun r h =>
 rr h []
def aem (n : Nat) (aQ : List Int) (kX jf : Int) : Option Bool :=
 xv (Ge n) n aQ kX jf aQ (aQ.length : Int) 0
theorem ajr (n : Nat) : K3 (A87 []) TG (aem n) := fun aQ kX jf r h =>
 ra (acD (ajs n) n h) [(2, .eqv (R3.au aQ))]
def F87 (n:Nat) (aQ:List Int) (kX jf:Int):Option Bool:=aem n aQ kX jf
theorem aab (n:Nat):K3 C87 TG (F87 n):=fun _ _ _ _ h=>ca (X:=x87) (ajr n h)
def abN (r:Bool):AV:=.bool r
def Wg (r:Bool):List (Nat×Bx):= []
def x45:=fx E0 Tryz.f45 [] []
def A45:=Ax x45 abN Wg
def C45:=Cx E0 45 abN Wg
def IN (t72:List I) (t73 t74:Int) (b3:ak) (b18:List Int):LS:=⟨[(3,.loc 3 0),(5,.ms 18 1 0 b18.length),(72,.slice 65 3 (aI t72)),(73,.int .i64 t73),(74,.int .i64 t74)],[(3,.flat 55 (fq b3)),(18,.rows true 3 1 (aX b18))]⟩
def IM:LS:=⟨[],[]⟩
def Um (s0:aa) (w1:ak):LS:=⟨[(0,.agg (aV s0)),(1,.agg (fq w1))],[]⟩
def GZ (k_1 : Option Bool) (back : (List I) → Int → Int → ak → (List Int) → Option Bool) (n : Nat) (t72 : List I) (t73 t74 : Int) (b3 : ak) (b18 : List Int) : Option Bool :=
 if decide (t74 < t73) then
 (idx t72 t74).bind fun x3 =>
 (F88 n x3).bind fun x10 =>
 if !x10 then
 some false
 else
 (idx b3.af t74).bind fun x20 =>
 (bnd b18.length x20).bind fun x23 =>
 (b18[0 + x23]?).bind fun x25 =>
 if x3.ax != x25 then
 some false
 else
 back t72 t73 (w64 (t74 + 1)) b3 b18
 else
 k_1
theorem akU {k_1} (aG : K0 (A45 [1, 1, 0, 1, 1, 1, 0, 1, 0, 1, 1, 1]) IM k_1) {back} (aw : K5 (A45 [0, 1, 0, 1, 0, 1, 1, 1, 0, 1, 0, 1, 1, 1]) IN back) (n : Nat) : K5 (A45 [0, 1, 0, 1, 0, 1, 1, 1, 0, 1, 0, 1, 1, 1]) IN (GZ k_1 back n) := fun t72 t73 t74 b3 b18 r h =>
 ie h (fun c0 h =>
 be h fun x3 hx3 h =>
 be h fun x10 cg h =>
 ie h (fun c1 h =>
 rr h [(0, eb c0), (1, R64.idx hx3), (5, .call (iM n cg) [] [] []), (0, eb c1)]) (fun c1 h =>
 be h fun x20 iH h =>
 be h fun x23 eN h =>
 be h fun x25 pL h =>
 ie h (fun c2 h =>
 rr h [(0, eb c0), (1, R64.idx hx3), (5, .call (iM n cg) [] [] []), (0, eb c1), (7, R3.idx iH), (1, cY eN), (0, R3.row pL), (0, eb c2)]) (fun c2 h =>
 ra (aw h) [(0, eb c0), (1, R64.idx hx3), (5, .call (iM n cg) [] [] []), (0, eb c1), (7, R3.idx iH), (1, cY eN), (0, R3.row pL), (0, eb c2)]))) (fun c0 h =>
 ra (aG h) [(0, eb c0)])
def xK (k_1:Option Bool):Nat→(List I)→Int→Int→ak→(List Int)→Option Bool
 |0,_,_,_,_,_=>none
 |n+1,t72,t73,t74,b3,b18=>GZ k_1 (xK k_1 n) n t72 t73 t74 b3 b18
theorem adb {k_1} (aG:K0 (A45 [1,1,0,1,1,1,0,1,0,1,1,1]) IM k_1):∀n:Nat,K5 (A45 [0,1,0,1,0,1,1,1,0,1,0,1,1,1]) IN (xK k_1 n)
 |0=>fun _ _ _ _ _ _ h=>nz h
 |n+1=>fun _ _ _ _ _ _ h=>akU aG (adb aG n) n h
def GY (n : Nat) : Option Bool :=
 some true
theorem akT (n : Nat) : K0 (A45 [1, 1, 0, 1, 1, 1, 0, 1, 0, 1, 1, 1]) IM (GY n) := fun r h =>
 rr h []
def S4 (n : Nat) (s0 : aa) (w1 : ak) : Option Bool :=
 (F85 n s0 w1.ar w1.av).bind fun x9 =>
 if !x9 then
 some false
 else
 (F32 n s0 w1.ar).bind fun x15 =>
 if w1.fOp == 1 then
 if (w1.af.length : Int) == 0 then
 (F86 n s0 w1.ar w1.aJ 1).bind fun x32 =>
 if x32 then
 (F34 n s0 w1.ar w1.aJ).bind fun x41 =>
 (F22 n x41 w1.av).bind fun x45_ =>
 some (x45_ == 0)
 else
 some false
 else
 some false
 else
 if w1.fOp == 2 then
 (idx s0.J w1.ar).bind fun x30 =>
 (F87 n w1.af x30.av (x15.length : Int)).bind fun x36 =>
 if !x36 then
 some false
 else
 if (w1.aJ.length : Int) != (w1.af.length : Int) then
 some false
 else
 xK (GY n) n w1.aJ (w1.aJ.length : Int) 0 w1 x15
 else
 if (w1.af.length : Int) == 0 then
 some ((w1.aJ.length : Int) == 0)
 else
 some false
theorem akS (n : Nat) : K2 (A45 []) Um (S4 n) := fun s0 w1 r h =>
 be h fun x9 hx9 h =>
 ie h (fun c0 h =>
 rr h [(8, .call (tO n hx9) [] [] []), (0, eb c0)]) (fun c0 h =>
 be h fun x15 cK h =>
 ie h (fun c1 h =>
 ie h (fun c2 h =>
 be h fun x32 lV h =>
 ie h (fun c3 g0 => by subst c3; exact (
 be g0 fun x41 ZU g0 =>
 be g0 fun x45_ ZT g0 =>
 rr g0 [(8, .call (tO n hx9) [] [] []), (0, eb c0), (3, .call (jN n cK) [] [] [(18, 200000)]), (3, eb c1), (3, .eqv (R3.au w1.af)), (0, eb c2), (6, .call (DV n lV) [] [] []), (7, .call (cd (e := 65) (z := true) (Q := aI x41) (nQ n ZU) (R64.len x41)) [] [] []), (2, .call (jO n ZT) [.one (.sl 0 0)] [] [])])) (fun c3 g0 => by subst c3; exact (
 rr g0 [(8, .call (tO n hx9) [] [] []), (0, eb c0), (3, .call (jN n cK) [] [] [(18, 200000)]), (3, eb c1), (3, .eqv (R3.au w1.af)), (0, eb c2), (6, .call (DV n lV) [] [] [])]))) (fun c2 h =>
 rr h [(8, .call (tO n hx9) [] [] []), (0, eb c0), (3, .call (jN n cK) [] [] [(18, 200000)]), (3, eb c1), (3, .eqv (R3.au w1.af)), (0, eb c2)])) (fun c1 h =>
 ie h (fun c2 h =>
 be h fun x30 pK h =>
 be h fun x36 zp h =>
 ie h (fun c3 h =>
 rr h [(8, .call (tO n hx9) [] [] []), (0, eb c0), (3, .call (jN n cK) [] [] [(18, 200000)]), (3, eb c1), (1, eb c2), (7, R62.idx pK), (4, .call (aab n zp) [] [] []), (0, eb c3)]) (fun c3 h =>
 ie h (fun c4 h =>
 rr h [(8, .call (tO n hx9) [] [] []), (0, eb c0), (3, .call (jN n cK) [] [] [(18, 200000)]), (3, eb c1), (1, eb c2), (7, R62.idx pK), (4, .call (aab n zp) [] [] []), (0, eb c3), (3, .eqv (R64.au w1.aJ)), (2, .eqv (R3.au w1.af)), (0, eb c4)]) (fun c4 h =>
 ra (adb (akT n) n h) [(8, .call (tO n hx9) [] [] []), (0, eb c0), (3, .call (jN n cK) [] [] [(18, 200000)]), (3, eb c1), (1, eb c2), (7, R62.idx pK), (4, .call (aab n zp) [] [] []), (0, eb c3), (3, .eqv (R64.au w1.aJ)), (2, .eqv (R3.au w1.af)), (0, eb c4), (3, .eqv (R64.au w1.aJ))]))) (fun c2 h =>
 ie h (fun c3 h =>
 rr h [(8, .call (tO n hx9) [] [] []), (0, eb c0), (3, .call (jN n cK) [] [] [(18, 200000)]), (3, eb c1), (1, eb c2), (3, .eqv (R3.au w1.af)), (0, eb c3), (3, .eqv (R64.au w1.aJ))]) (fun c3 h =>
 rr h [(8, .call (tO n hx9) [] [] []), (0, eb c0), (3, .call (jN n cK) [] [] [(18, 200000)]), (3, eb c1), (1, eb c2), (3, .eqv (R3.au w1.af)), (0, eb c3)]))))
def F45 (n:Nat) (s0:aa) (w1:ak):Option Bool:=S4 n s0 w1
theorem Rn (n:Nat):K2 C45 Um (F45 n):=fun _ _ _ h=>ca (X:=x45) (akS n h)
def aco (r:Int):AV:=.int .i64 r
def WI (r:Int):List (Nat×Bx):= []
def x14:=fx E0 Tryz.f14 [] []
def A14:=Ax x14 aco WI
def C14:=Cx E0 14 aco WI
def Jm (bC t16:List ak) (t17 t18:Int) (b2:aa):LS:=⟨[(1,.slice 55 5 (cn bC)),(2,.loc 2 0),(16,.slice 55 5 (cn t16)),(17,.int .i64 t17),(18,.int .i64 t18)],[(2,.flat 26 (aV b2))]⟩
def Jl:LS:=⟨[],[]⟩
def UP (s0:aa) (bC:List ak):LS:=⟨[(0,.agg (aV s0)),(1,.slice 55 5 (cn bC))],[]⟩
def HD (k_1 : Option Int) (back : (List ak) → (List ak) → Int → Int → aa → Option Int) (n : Nat) (bC t16 : List ak) (t17 t18 : Int) (b2 : aa) : Option Int :=
 if decide (t18 < t17) then
 (idx t16 t18).bind fun x3 =>
 if decide (x3.fOp < 1) then
 some 1
 else
 if decide (3 < x3.fOp) then
 some 1
 else
 if decide (x3.ar < 0) then
 some 1
 else
 if !decide (x3.ar < (b2.J.length : Int)) then
 some 1
 else
 (F45 n b2 x3).bind fun x32 =>
 if !x32 then
 some 270
 else
 if decide (0 < t18) then
 (idx bC (w64 (t18 - 1))).bind fun x42 =>
 (idx bC (w64 (t18 - 1))).bind fun x49 =>
 (F36 n x42.ar x49.av x3.ar x3.av).bind fun x57 =>
 if !decide (x57 < 0) then
 some 270
 else
 back bC t16 t17 (w64 (t18 + 1)) b2
 else
 back bC t16 t17 (w64 (t18 + 1)) b2
 else
 k_1
theorem ami {k_1} (aG : K0 (A14 [1, 1, 1, 1]) Jl k_1) {back} (aw : K5 (A14 [0, 1, 0, 1, 1, 1]) Jm back) (n : Nat) : K5 (A14 [0, 1, 0, 1, 1, 1]) Jm (HD k_1 back n) := fun bC t16 t17 t18 b2 r h =>
 ie h (fun c0 h =>
 be h fun x3 hx3 h =>
 ie h (fun c1 h =>
 rr h [(0, eb c0), (1, R54.idx hx3), (6, eb c1)]) (fun c1 h =>
 ie h (fun c2 h =>
 rr h [(0, eb c0), (1, R54.idx hx3), (6, eb c1), (3, eb c2)]) (fun c2 h =>
 ie h (fun c3 h =>
 rr h [(0, eb c0), (1, R54.idx hx3), (6, eb c1), (3, eb c2), (4, eb c3)]) (fun c3 h =>
 ie h (fun c4 h =>
 rr h [(0, eb c0), (1, R54.idx hx3), (6, eb c1), (3, eb c2), (4, eb c3), (6, .eqv (R62.au b2.J)), (0, eb c4)]) (fun c4 h =>
 be h fun x32 lV h =>
 ie h (fun c5 h =>
 rr h [(0, eb c0), (1, R54.idx hx3), (6, eb c1), (3, eb c2), (4, eb c3), (6, .eqv (R62.au b2.J)), (0, eb c4), (3, .call (Rn n lV) [] [] []), (0, eb c5)]) (fun c5 h =>
 ie h (fun c6 h =>
 be h fun x42 pH h =>
 be h fun x49 Q3 h =>
 be h fun x57 KH h =>
 ie h (fun c7 h =>
 rr h [(0, eb c0), (1, R54.idx hx3), (6, eb c1), (3, eb c2), (4, eb c3), (6, .eqv (R62.au b2.J)), (0, eb c4), (3, .call (Rn n lV) [] [] []), (0, eb c5), (2, eb c6), (4, R54.idx pH), (5, R54.idx Q3), (6, .call (Lk n KH) [] [] []), (0, eb c7)]) (fun c7 h =>
 ra (aw h) [(0, eb c0), (1, R54.idx hx3), (6, eb c1), (3, eb c2), (4, eb c3), (6, .eqv (R62.au b2.J)), (0, eb c4), (3, .call (Rn n lV) [] [] []), (0, eb c5), (2, eb c6), (4, R54.idx pH), (5, R54.idx Q3), (6, .call (Lk n KH) [] [] []), (0, eb c7)])) (fun c6 h =>
 ra (aw h) [(0, eb c0), (1, R54.idx hx3), (6, eb c1), (3, eb c2), (4, eb c3), (6, .eqv (R62.au b2.J)), (0, eb c4), (3, .call (Rn n lV) [] [] []), (0, eb c5), (2, eb c6)]))))))) (fun c0 h =>
 ra (aG h) [(0, eb c0)])
def xZ (k_1:Option Int):Nat→(List ak)→(List ak)→Int→Int→aa→Option Int
 |0,_,_,_,_,_=>none
 |n+1,bC,t16,t17,t18,b2=>HD k_1 (xZ k_1 n) n bC t16 t17 t18 b2
theorem adx {k_1} (aG:K0 (A14 [1,1,1,1]) Jl k_1):∀n:Nat,K5 (A14 [0,1,0,1,1,1]) Jm (xZ k_1 n)
 |0=>fun _ _ _ _ _ _ h=>nz h
 |n+1=>fun _ _ _ _ _ _ h=>ami aG (adx aG n) n h
def HC (n : Nat) : Option Int :=
 some 0
theorem amh (n : Nat) : K0 (A14 [1, 1, 1, 1]) Jl (HC n) := fun r h =>
 rr h []
def Tq (n : Nat) (s0 : aa) (bC : List ak) : Option Int :=
 (F44 n s0).bind fun x4 =>
 if x4 != 0 then
 some x4
 else
 if decide (64 < (bC.length : Int)) then
 some 2
 else
 xZ (HC n) n bC bC (bC.length : Int) 0 s0
theorem amg (n : Nat) : K2 (A14 []) UP (Tq n) := fun s0 bC r h =>
 be h fun x4 hx4 h =>
 ie h (fun c0 h =>
 rr h [(3, .call (zA n hx4) [] [] []), (2, eb c0)]) (fun c0 h =>
 ie h (fun c1 h =>
 rr h [(3, .call (zA n hx4) [] [] []), (2, eb c0), (1, .eqv (R54.au bC)), (0, eb c1)]) (fun c1 h =>
 ra (adx (amh n) n h) [(3, .call (zA n hx4) [] [] []), (2, eb c0), (1, .eqv (R54.au bC)), (0, eb c1), (1, .eqv (R54.au bC))]))
def F14 (n:Nat) (s0:aa) (bC:List ak):Option Int:=Tq n s0 bC
theorem aah (n:Nat):K2 C14 UP (F14 n):=fun _ _ _ h=>ca (X:=x14) (amg n h)
def abJ (r:Int):AV:=.int .i64 r
def Wc (r:Int):List (Nat×Bx):= []
def x53:=fx E0 Tryz.f53 [] []
def A53:=Ax x53 abJ Wc
def C53:=Cx E0 53 abJ Wc
def IL (bh n8:Int) (t27:List (List (List I))) (t28 t29:Int) (b3:aa) (b5:an):LS:=⟨[(1,.int .i64 bh),(3,.loc 3 0),(5,.loc 5 0),(8,.int .i64 n8),(27,.slice 66 1 (dK t27)),(28,.int .i64 t28),(29,.int .i64 t29)],[(3,.flat 26 (aV b3)),(5,.flat 33 (cN b5))]⟩
def IK (bh t11:Int) (l12:List (List I)) (t51:List (List (List I))) (t52 t53:Int) (t58:List (List I)) (t59 t60:Int) (b3:aa):LS:=⟨[(1,.int .i64 bh),(3,.loc 3 0),(11,.int .i64 t11),(12,.slice 43 1 (fJ l12)),(51,.slice 66 1 (dK t51)),(52,.int .i64 t52),(53,.int .i64 t53),(58,.slice 43 1 (fJ t58)),(59,.int .i64 t59),(60,.int .i64 t60)],[(3,.flat 26 (aV b3))]⟩
def IJ (bh:Int) (t51:List (List (List I))) (t52 t53:Int) (b3:aa):LS:=⟨[(1,.int .i64 bh),(3,.loc 3 0),(51,.slice 66 1 (dK t51)),(52,.int .i64 t52),(53,.int .i64 t53)],[(3,.flat 26 (aV b3))]⟩
def Ac (bh:Int) (t51:List (List (List I))) (t52 t53:Int) (b3:aa):LS:=⟨[(1,.int .i64 bh),(3,.loc 3 0),(51,.slice 66 1 (dK t51)),(52,.int .i64 t52),(53,.int .i64 t53)],[(3,.flat 26 (aV b3))]⟩
def II:LS:=⟨[],[]⟩
def IH (bh:Int) (b3:aa) (b5:an):LS:=⟨[(1,.int .i64 bh),(3,.loc 3 0),(5,.loc 5 0)],[(3,.flat 26 (aV b3)),(5,.flat 33 (cN b5))]⟩
def Ui (s0:aa) (bh:Int) (st2:an):LS:=⟨[(0,.agg (aV s0)),(1,.int .i64 bh),(2,.agg (cN st2))],[]⟩
def GW (k_5 : Int → aa → an → Option Int) (back : Int → Int → (List (List (List I))) → Int → Int → aa → an → Option Int) (n : Nat) (bh n8 : Int) (t27 : List (List (List I))) (t28 t29 : Int) (b3 : aa) (b5 : an) : Option Int :=
 if decide (t29 < t28) then
 (idx t27 t29).bind fun x2 =>
 if decide ((w64 (512 - n8)) < (x2.length : Int)) then
 some 2
 else
 back bh (w64 (n8 + (x2.length : Int))) t27 t28 (w64 (t29 + 1)) b3 b5
 else
 k_5 bh b3 b5
theorem akO {k_5} (eW : K3 (A53 [1, 1, 1, 1, 1]) IH k_5) {back} (aw : K7 (A53 [0, 1, 0, 1, 1, 1, 1]) IL back) (n : Nat) : K7 (A53 [0, 1, 0, 1, 1, 1, 1]) IL (GW k_5 back n) := fun bh n8 t27 t28 t29 b3 b5 r h =>
 ie h (fun c0 h =>
 be h fun x2 hx2 h =>
 ie h (fun c1 h =>
 rr h [(0, eb c0), (0, R66.idx hx2), (3, .eqv (R42.au x2)), (2, eb c1)]) (fun c1 h =>
 ra (aw h) [(0, eb c0), (0, R66.idx hx2), (3, .eqv (R42.au x2)), (2, eb c1), (2, .eqv (R42.au x2))])) (fun c0 h =>
 ra (eW h) [(0, eb c0)])
def oI (k_5:Int→aa→an→Option Int):Nat→Int→Int→(List (List (List I)))→Int→Int→aa→an→Option Int
 |0,_,_,_,_,_,_,_=>none
 |n+1,bh,n8,t27,t28,t29,b3,b5=>GW k_5 (oI k_5 n) n bh n8 t27 t28 t29 b3 b5
theorem ada {k_5} (eW:K3 (A53 [1,1,1,1,1]) IH k_5):∀n:Nat,K7 (A53 [0,1,0,1,1,1,1]) IL (oI k_5 n)
 |0=>fun _ _ _ _ _ _ _ _ h=>nz h
 |n+1=>fun _ _ _ _ _ _ _ _ h=>akO eW (ada eW n) n h
def GV (k_2 : Int → (List (List (List I))) → Int → Int → aa → Option Int) (back : Int → Int → (List (List I)) → (List (List (List I))) → Int → Int → (List (List I)) → Int → Int → aa → Option Int) (n : Nat) (bh t11 : Int) (l12 : List (List I)) (t51 : List (List (List I))) (t52 t53 : Int) (t58 : List (List I)) (t59 t60 : Int) (b3 : aa) : Option Int :=
 if decide (t60 < t59) then
 (idx t58 t60).bind fun x3 =>
 (F86 n b3 t11 x3 bh).bind fun x12 =>
 if !x12 then
 some 80
 else
 if decide (0 < t60) then
 (idx l12 (w64 (t60 - 1))).bind fun x23 =>
 (F34 n b3 t11 x23).bind fun x26 =>
 (F34 n b3 t11 x3).bind fun x31 =>
 (F22 n x26 x31).bind fun x33 =>
 if !decide (x33 < 0) then
 some 80
 else
 back bh t11 l12 t51 t52 t53 t58 t59 (w64 (t60 + 1)) b3
 else
 back bh t11 l12 t51 t52 t53 t58 t59 (w64 (t60 + 1)) b3
 else
 k_2 bh t51 t52 t53 b3
theorem akN {k_2} (bP : K5 (A53 [1, 1, 1, 0, 0, 1, 0, 1, 1, 1, 1, 1, 1]) IJ k_2) {back} (aw : K10 (A53 [0, 1, 1, 0, 0, 1, 1, 0, 0, 1, 0, 1, 1, 1, 1, 1, 1]) IK back) (n : Nat) : K10 (A53 [0, 1, 1, 0, 0, 1, 1, 0, 0, 1, 0, 1, 1, 1, 1, 1, 1]) IK (GV k_2 back n) := fun bh t11 l12 t51 t52 t53 t58 t59 t60 b3 r h =>
 ie h (fun c0 h =>
 be h fun x3 hx3 h =>
 be h fun x12 bT h =>
 ie h (fun c1 h =>
 rr h [(0, eb c0), (1, R42.idx hx3), (7, .call (DV n bT) [] [] []), (0, eb c1)]) (fun c1 h =>
 ie h (fun c2 h =>
 be h fun x23 eN h =>
 be h fun x26 iw h =>
 be h fun x31 pJ h =>
 be h fun x33 lj h =>
 ie h (fun c3 h =>
 rr h [(0, eb c0), (1, R42.idx hx3), (7, .call (DV n bT) [] [] []), (0, eb c1), (1, eb c2), (6, R42.idx eN), (1, .call (cd (e := 65) (z := true) (Q := aI x26) (nQ n iw) (R64.len x26)) [] [] []), (3, .call (cd (e := 65) (z := true) (Q := aI x31) (nQ n pJ) (R64.len x31)) [] [] []), (0, .call (jO n lj) [.one (.sl 0 0), .one (.sl 0 0)] [] []), (0, eb c3)]) (fun c3 h =>
 ra (aw h) [(0, eb c0), (1, R42.idx hx3), (7, .call (DV n bT) [] [] []), (0, eb c1), (1, eb c2), (6, R42.idx eN), (1, .call (cd (e := 65) (z := true) (Q := aI x26) (nQ n iw) (R64.len x26)) [] [] []), (3, .call (cd (e := 65) (z := true) (Q := aI x31) (nQ n pJ) (R64.len x31)) [] [] []), (0, .call (jO n lj) [.one (.sl 0 0), .one (.sl 0 0)] [] []), (0, eb c3)])) (fun c2 h =>
 ra (aw h) [(0, eb c0), (1, R42.idx hx3), (7, .call (DV n bT) [] [] []), (0, eb c1), (1, eb c2)]))) (fun c0 h =>
 ra (bP h) [(0, eb c0)])
def xJ (k_2:Int→(List (List (List I)))→Int→Int→aa→Option Int):Nat→Int→Int→(List (List I))→(List (List (List I)))→Int→Int→(List (List I))→Int→Int→aa→Option Int
 |0,_,_,_,_,_,_,_,_,_,_=>none
 |n+1,bh,t11,l12,t51,t52,t53,t58,t59,t60,b3=>GV k_2 (xJ k_2 n) n bh t11 l12 t51 t52 t53 t58 t59 t60 b3
theorem acZ {k_2} (bP:K5 (A53 [1,1,1,0,0,1,0,1,1,1,1,1,1]) IJ k_2):∀n:Nat,K10 (A53 [0,1,1,0,0,1,1,0,0,1,0,1,1,1,1,1,1]) IK (xJ k_2 n)
 |0=>fun _ _ _ _ _ _ _ _ _ _ _ h=>nz h
 |n+1=>fun _ _ _ _ _ _ _ _ _ _ _ h=>akN bP (acZ bP n) n h
def GU (k_3 : Int → (List (List (List I))) → Int → Int → aa → Option Int) (n : Nat) (bh : Int) (t51 : List (List (List I))) (t52 t53 : Int) (b3 : aa) : Option Int :=
 k_3 bh t51 t52 (w64 (t53 + 1)) b3
theorem akM {k_3} (bw : K5 (A53 [0, 1, 0, 1, 1, 1, 1, 1, 1]) Ac k_3) (n : Nat) : K5 (A53 [1, 1, 1, 0, 0, 1, 0, 1, 1, 1, 1, 1, 1]) IJ (GU k_3 n) := fun bh t51 t52 t53 b3 r h =>
 ra (bw h) []
def GS (k_4 : Option Int) (back : Int → (List (List (List I))) → Int → Int → aa → Option Int) (n : Nat) (bh : Int) (t51 : List (List (List I))) (t52 t53 : Int) (b3 : aa) : Option Int :=
 if decide (t53 < t52) then
 (idx t51 t53).bind fun x3 =>
 xJ (GU back n) n bh t53 x3 t51 t52 t53 x3 (x3.length : Int) 0 b3
 else
 k_4
theorem akL {k_4} (eB : K0 (A53 [1, 1, 1, 1, 1, 1, 1]) II k_4) {back} (aw : K5 (A53 [0, 1, 0, 1, 1, 1, 1, 1, 1]) Ac back) (n : Nat) : K5 (A53 [0, 1, 0, 1, 1, 1, 1, 1, 1]) Ac (GS k_4 back n) := fun bh t51 t52 t53 b3 r h =>
 ie h (fun c0 h =>
 be h fun x3 hx3 h =>
 ra (acZ (akM aw n) n h) [(0, eb c0), (1, R66.idx hx3), (4, .eqv (R42.au x3))]) (fun c0 h =>
 ra (eB h) [(0, eb c0)])
def uv (k_4:Option Int):Nat→Int→(List (List (List I)))→Int→Int→aa→Option Int
 |0,_,_,_,_,_=>none
 |n+1,bh,t51,t52,t53,b3=>GS k_4 (uv k_4 n) n bh t51 t52 t53 b3
theorem acY {k_4} (eB:K0 (A53 [1,1,1,1,1,1,1]) II k_4):∀n:Nat,K5 (A53 [0,1,0,1,1,1,1,1,1]) Ac (uv k_4 n)
 |0=>fun _ _ _ _ _ _ h=>nz h
 |n+1=>fun _ _ _ _ _ _ h=>akL eB (acY eB n) n h
def B5 (n : Nat) : Option Int :=
 some 0
theorem akK (n : Nat) : K0 (A53 [1, 1, 1, 1, 1, 1, 1]) II (B5 n) := fun r h =>
 rr h []
def GR (n : Nat) (bh : Int) (b3 : aa) (b5 : an) : Option Int :=
 if (b5.J.length : Int) != (b3.J.length : Int) then
 some 80
 else
 uv (B5 n) n bh b5.J (b5.J.length : Int) 0 b3
theorem akJ (n : Nat) : K3 (A53 [1, 1, 1, 1, 1]) IH (GR n) := fun bh b3 b5 r h =>
 ie h (fun c0 h =>
 rr h [(2, .eqv (R66.au b5.J)), (2, .eqv (R62.au b3.J)), (0, eb c0)]) (fun c0 h =>
 ra (acY (akK n) n h) [(2, .eqv (R66.au b5.J)), (2, .eqv (R62.au b3.J)), (0, eb c0), (2, .eqv (R66.au b5.J))])
def S1 (n : Nat) (s0 : aa) (bh : Int) (st2 : an) : Option Int :=
 (F44 n s0).bind fun x5 =>
 if x5 != 0 then
 some x5
 else
 if decide (bh < 1) then
 some 1
 else
 if decide (3 < bh) then
 some 1
 else
 oI (GR n) n bh 0 st2.J (st2.J.length : Int) 0 s0 st2
theorem akI (n : Nat) : K3 (A53 []) Ui (S1 n) := fun s0 bh st2 r h =>
 be h fun x5 hx5 h =>
 ie h (fun c0 h =>
 rr h [(4, .call (zA n hx5) [] [] []), (2, eb c0)]) (fun c0 h =>
 ie h (fun c1 h =>
 rr h [(4, .call (zA n hx5) [] [] []), (2, eb c0), (1, eb c1)]) (fun c1 h =>
 ie h (fun c2 h =>
 rr h [(4, .call (zA n hx5) [] [] []), (2, eb c0), (1, eb c1), (2, eb c2)]) (fun c2 h =>
 ra (ada (akJ n) n h) [(4, .call (zA n hx5) [] [] []), (2, eb c0), (1, eb c1), (2, eb c2), (4, .eqv (R66.au st2.J))])))
def F53 (n:Nat) (s0:aa) (bh:Int) (st2:an):Option Int:=S1 n s0 bh st2
theorem ev53 (n:Nat):K3 C53 Ui (F53 n):=fun _ _ _ _ h=>ca (X:=x53) (akI n h)
def abH (r:(List I)):AV:=.ms 200000 3 0 r.length
def Wa (r:(List I)):List (Nat×Bx):= [(200000,.rows true 65 3 (aI r))]
def x55:=fx E0 Tryz.f55 [] [200000]
def A55:=Ax x55 abH Wa
def C55:=Cx E0 55 abH Wa
def IG (t11:List Int) (t12 t13:Int) (b3:ak) (b9:List I):LS:=⟨[(3,.loc 3 0),(5,.ms 9 3 0 b9.length),(11,.slice 3 1 (aX t11)),(12,.int .i64 t12),(13,.int .i64 t13)],[(3,.flat 55 (fq b3)),(9,.rows true 65 3 (aI b9))]⟩
def IF (b9:List I):LS:=⟨[(5,.ms 9 3 0 b9.length)],[(9,.rows true 65 3 (aI b9))]⟩
def Ug (r0:List I) (w1:ak):LS:=⟨[(0,.slice 65 3 (aI r0)),(1,.agg (fq w1))],[]⟩
def GQ (k_1 : (List I) → Option (List I)) (back : (List Int) → Int → Int → ak → (List I) → Option (List I)) (n : Nat) (t11 : List Int) (t12 t13 : Int) (b3 : ak) (b9 : List I) : Option (List I) :=
 if decide (t13 < t12) then
 (idx t11 t13).bind fun x3 =>
 (idx b3.aJ t13).bind fun x13 =>
 (bnd b9.length x3).bind fun x16 =>
 (b9[0 + x16]?).bind fun x18 =>
 (setAt b9 (0 + x16) x13).bind fun z19 =>
 back t11 t12 (w64 (t13 + 1)) b3 z19
 else
 k_1 b9
theorem akG {k_1} (aG : K1 (A55 [1, 1, 1]) IF k_1) {back} (aw : K5 (A55 [0, 1, 0, 1, 1]) IG back) (n : Nat) : K5 (A55 [0, 1, 0, 1, 1]) IG (GQ k_1 back n) := fun t11 t12 t13 b3 b9 r h =>
 ie h (fun c0 h =>
 be h fun x3 hx3 h =>
 be h fun x13 bY h =>
 be h fun x16 dz h =>
 be h fun x18 fN h =>
 be h fun z19 KF h =>
 ra (aw h) [(0, eb c0), (1, R3.idx hx3), (8, R64.idx bY), (1, cY dz), (0, R64.sto 0 (fF x13) fN KF (by kernel_rfl)), (2, .seq 5 (congrArg (fun n_ => (AV.ms 9 3 0 n_)) ((cy KF).symm)))]) (fun c0 h =>
 ra (aG h) [(0, eb c0)])
def xI (k_1:(List I)→Option (List I)):Nat→(List Int)→Int→Int→ak→(List I)→Option (List I)
 |0,_,_,_,_,_=>none
 |n+1,t11,t12,t13,b3,b9=>GQ k_1 (xI k_1 n) n t11 t12 t13 b3 b9
theorem acX {k_1} (aG:K1 (A55 [1,1,1]) IF k_1):∀n:Nat,K5 (A55 [0,1,0,1,1]) IG (xI k_1 n)
 |0=>fun _ _ _ _ _ _ h=>nz h
 |n+1=>fun _ _ _ _ _ _ h=>akG aG (acX aG n) n h
def GP (n : Nat) (b9 : List I) : Option (List I) :=
 some b9
theorem akF (n : Nat) : K1 (A55 [1, 1, 1]) IF (GP n) := fun b9 r h =>
 rr h [(2, .ren 9 200000)]
def SZ (n : Nat) (r0 : List I) (w1 : ak) : Option (List I) :=
 (F54 n r0).bind fun x4 =>
 xI (GP n) n w1.af (w1.af.length : Int) 0 w1 x4
theorem akE (n : Nat) : K2 (A55 []) Ug (SZ n) := fun r0 w1 r h =>
 be h fun x4 hx4 h =>
 ra (acX (akF n) n h) [(3, .call (pY n hx4) [] [] [(9, 200000)]), (3, .eqv (R3.au w1.af))]
def F55 (n:Nat) (r0:List I) (w1:ak):Option (List I):=SZ n r0 w1
theorem ev55 (n:Nat):K2 C55 Ug (F55 n):=fun _ _ _ h=>ca (X:=x55) (akE n h)
def acm (r:((List aD)×az×Int)):AV:=.tup [.ms 200000 3 0 r.1.length,.agg (Bn r.2.1),.int .i64 r.2.2]
def WG (r:((List aD)×az×Int)):List (Nat×Bx):= [(200000,.rows true 104 3 (eF r.1))]
def x17:=fx E0 Tryz.f17 [] [200000]
def A17:=Ax x17 acm WG
def C17:=Cx E0 17 acm WG
def afX (t31:List ak) (t32 t33:Int) (t103:Bool) (b3:aa) (b4:an) (b7:az) (b11:List aD) (b13:ak) (mc:List I):LS:=⟨[(3,.loc 3 0),(4,.loc 4 0),(7,.loc 7 0),(11,.ms 11 3 0 b11.length),(13,.loc 13 0),(14,.ms 304400 3 0 mc.length),(31,.slice 55 5 (cn t31)),(32,.int .i64 t32),(33,.int .i64 t33),(103,.bool t103)],[(3,.flat 26 (aV b3)),(4,.flat 33 (cN b4)),(7,.flat 45 [.int .i64 b7.cm,.int .i64 b7.du,.int .i64 b7.ar,.aY]),(11,.rows true 104 3 (eF b11)),(13,.flat 55 (fq b13)),(304400,.rows true 65 3 (aI mc))]⟩
def UM (t31:List ak) (t32 t33:Int) (b3:aa) (b4:an) (b7:az) (b11:List aD):LS:=⟨[(3,.loc 3 0),(4,.loc 4 0),(7,.loc 7 0),(11,.ms 11 3 0 b11.length),(31,.slice 55 5 (cn t31)),(32,.int .i64 t32),(33,.int .i64 t33)],[(3,.flat 26 (aV b3)),(4,.flat 33 (cN b4)),(7,.flat 45 [.int .i64 b7.cm,.int .i64 b7.du,.int .i64 b7.ar,.aY]),(11,.rows true 104 3 (eF b11))]⟩
def Ai (t31:List ak) (t32 t33:Int) (b3:aa) (b4:an) (b7:az) (b11:List aD):LS:=⟨[(3,.loc 3 0),(4,.loc 4 0),(7,.loc 7 0),(11,.ms 11 3 0 b11.length),(31,.slice 55 5 (cn t31)),(32,.int .i64 t32),(33,.int .i64 t33)],[(3,.flat 26 (aV b3)),(4,.flat 33 (cN b4)),(7,.flat 45 [.int .i64 b7.cm,.int .i64 b7.du,.int .i64 b7.ar,.aY]),(11,.rows true 104 3 (eF b11))]⟩
def Jj (b7:az) (b11:List aD):LS:=⟨[(7,.loc 7 0),(11,.ms 11 3 0 b11.length)],[(7,.flat 45 [.int .i64 b7.cm,.int .i64 b7.du,.int .i64 b7.ar,.aY]),(11,.rows true 104 3 (eF b11))]⟩
def UL (s0:aa) (st1:an) (dP:List ak):LS:=⟨[(0,.agg (aV s0)),(1,.agg (cN st1)),(2,.slice 55 5 (cn dP))],[]⟩
def Cb (k_1 : (List ak) → Int → Int → aa → an → az → (List aD) → Option ((List aD) × az × Int)) (n : Nat) (t31 : List ak) (t32 t33 : Int) (t103 : Bool) (b3 : aa) (b4 : an) (b7 : az) (b11 : List aD) (b13 : ak) (mc : List I) : Option ((List aD) × az × Int) :=
 if t103 then
 (F54 n mc).bind fun x5 =>
 (app b11 [(aD.mk b13.ar x5 [])]).bind fun x9 =>
 k_1 t31 t32 t33 b3 b4 (az.mk b7.cm b7.du b7.ar []) x9
 else
 (F55 n mc b13).bind fun x3 =>
 (F22 n x3 mc).bind fun x8 =>
 if x8 != 0 then
 (F54 n mc).bind fun x15 =>
 (app b11 [(aD.mk b13.ar x15 x3)]).bind fun x20 =>
 k_1 t31 t32 t33 b3 b4 (az.mk b7.cm b7.du b7.ar []) x20
 else
 k_1 t31 t32 t33 b3 b4 (az.mk b7.cm b7.du b7.ar []) b11
theorem aeh {k_1} (aG : K7 (A17 [1, 1, 1, 0, 0, 1, 0, 1, 1, 1, 1]) UM k_1) (n : Nat) : K10 (A17 [1, 1, 1, 1, 1, 1, 1, 0, 1, 1, 0, 0, 1, 1, 0, 0, 1, 0, 1, 1, 1, 1]) afX (Cb k_1 n) := fun t31 t32 t33 t103 b3 b4 b7 b11 b13 mc r h =>
 ie h (fun c0 g0 => by subst c0; exact (
 be g0 fun x5 hx5 g0 =>
 be g0 fun x9 hx9 g0 =>
 ra (aG g0) [(0, R64.frz 304400 mc), (4, .call (cd (e := 65) (z := true) (Q := aI x5) (pY n hx5) (R64.len x5)) [.one (.sl 0 0)] [] []), (0, .nrm (.agg [.same, .sl 0 0, .sl 65 3])), (1, dO.app hx9 (dO.srW [(aD.mk b13.ar x5 [])]))])) (fun c0 g0 => by subst c0; exact (
 be g0 fun x3 hx3 g0 =>
 be g0 fun x8 hx8 g0 =>
 ie g0 (fun c1 g0 =>
 be g0 fun x15 cK g0 =>
 be g0 fun x20 iH g0 =>
 ra (aG g0) [(2, R64.frz 304400 mc), (0, .call (ev55 n hx3) [.one (.sl 0 0)] [] [(49, 200000)]), (3, R64.frz 49 x3), (0, .call (jO n hx8) [.one (.sl 0 0), .one (.sl 0 0)] [] []), (0, eb c1), (4, .call (cd (e := 65) (z := true) (Q := aI x15) (pY n cK) (R64.len x15)) [.one (.sl 0 0)] [] []), (1, .nrm (.agg [.same, .sl 0 0, .sl 0 0])), (1, dO.app iH (dO.srW [(aD.mk b13.ar x15 x3)]))]) (fun c1 g0 =>
 ra (aG g0) [(2, R64.frz 304400 mc), (0, .call (ev55 n hx3) [.one (.sl 0 0)] [] [(49, 200000)]), (3, R64.frz 49 x3), (0, .call (jO n hx8) [.one (.sl 0 0), .one (.sl 0 0)] [] []), (0, eb c1)])))
def rj (k_2 : (List ak) → Int → Int → aa → an → az → (List aD) → Option ((List aD) × az × Int)) (n : Nat) (t31 : List ak) (t32 t33 : Int) (b3 : aa) (b4 : an) (b7 : az) (b11 : List aD) : Option ((List aD) × az × Int) :=
 k_2 t31 t32 (w64 (t33 + 1)) b3 b4 (az.mk b7.cm b7.du b7.ar []) b11
theorem R8 {k_2} (bP : K7 (A17 [0, 1, 0, 1, 1, 1, 1]) Ai k_2) (n : Nat) : K7 (A17 [1, 1, 1, 0, 0, 1, 0, 1, 1, 1, 1]) UM (rj k_2 n) := fun t31 t32 t33 b3 b4 b7 b11 r h =>
 ra (bP h) []
def Hz (k_3 : az → (List aD) → Option ((List aD) × az × Int)) (back : (List ak) → Int → Int → aa → an → az → (List aD) → Option ((List aD) × az × Int)) (n : Nat) (t31 : List ak) (t32 t33 : Int) (b3 : aa) (b4 : an) (b7 : az) (b11 : List aD) : Option ((List aD) × az × Int) :=
 if decide (t33 < t32) then
 (idx t31 t33).bind fun x2 =>
 (F35 n b3 b4 x2.ar x2.av).bind fun x13 =>
 if x2.fOp == 1 then
 if x13.2 then
 (F54 n x2.av).bind fun x31 =>
 some ([], (az.mk 4 0 x2.ar x31), 0)
 else
 if x2.fOp != 1 then
 (F54 n x2.av).bind fun x39 =>
 some ([], (az.mk 5 0 x2.ar x39), 0)
 else
 (F54 n x2.aJ).bind fun x42 =>
 (app b11 [(aD.mk x2.ar [] x42)]).bind fun x46 =>
 rj back n t31 t32 t33 b3 b4 (az.mk b7.cm b7.du b7.ar []) x46
 else
 if x2.fOp != 1 then
 if !x13.2 then
 (F54 n x2.av).bind fun x38 =>
 some ([], (az.mk 5 0 x2.ar x38), 0)
 else
 Cb (rj back n) n t31 t32 t33 (x2.fOp == 3) b3 b4 (az.mk b7.cm b7.du b7.ar []) b11 x2 x13.1
 else
 Cb (rj back n) n t31 t32 t33 (x2.fOp == 3) b3 b4 (az.mk b7.cm b7.du b7.ar []) b11 x2 x13.1
 else
 k_3 (az.mk b7.cm b7.du b7.ar []) b11
theorem amc {k_3} (bw : K2 (A17 [1, 1, 1, 1, 1]) Jj k_3) {back} (aw : K7 (A17 [0, 1, 0, 1, 1, 1, 1]) Ai back) (n : Nat) : K7 (A17 [0, 1, 0, 1, 1, 1, 1]) Ai (Hz k_3 back n) := fun t31 t32 t33 b3 b4 b7 b11 r h =>
 ie h (fun c0 h =>
 be h fun x2 hx2 h =>
 be h fun x13 bY h =>
 ie h (fun c1 h =>
 ie h (fun c2 h =>
 be h fun x31 pJ h =>
 rr h [(0, eb c0), (0, R54.idx hx2), (9, .call (vS n bY) [] [] [(304400, 200000)]), (2, eb c2), (4, eb c1), (8, .call (pY n pJ) [] [] [(74, 200000)]), (4, .born [6] [] 200000 true 104 3), (0, R64.frz 74 x31), (0, .norm [] [(7, .flat [.same, .same, .same, .sl 0 0])])]) (fun c2 h =>
 ie h (fun c3 h =>
 be h fun x39 vC h =>
 rr h [(0, eb c0), (0, R54.idx hx2), (9, .call (vS n bY) [] [] [(304400, 200000)]), (2, eb c2), (4, eb c1), (6, eb c3), (9, .call (pY n vC) [] [] [(88, 200000)]), (4, .born [6] [] 200000 true 104 3), (0, R64.frz 88 x39), (0, .norm [] [(7, .flat [.same, .same, .same, .sl 0 0])])]) (fun c3 h =>
 be h fun x42 pH h =>
 be h fun x46 zn h =>
 ra (R8 aw n h) [(0, eb c0), (0, R54.idx hx2), (9, .call (vS n bY) [] [] [(304400, 200000)]), (2, eb c2), (4, eb c1), (6, eb c3), (5, eb c1), (6, .call (cd (e := 65) (z := true) (Q := aI x42) (pY n pH) (R64.len x42)) [] [] []), (0, .nrm (.agg [.same, .sl 65 3, .sl 0 0])), (1, dO.app zn (dO.srW [(aD.mk x2.ar [] x42)]))]))) (fun c1 h =>
 ie h (fun c2 h =>
 ie h (fun c3 h =>
 be h fun x38 vD h =>
 rr h [(0, eb c0), (0, R54.idx hx2), (9, .call (vS n bY) [] [] [(304400, 200000)]), (7, eb c1), (5, eb c2), (2, eb c3), (6, .call (pY n vD) [] [] [(88, 200000)]), (4, .born [6] [] 200000 true 104 3), (0, R64.frz 88 x38), (0, .norm [] [(7, .flat [.same, .same, .same, .sl 0 0])])]) (fun c3 h =>
 ra (aeh (R8 aw n) n h) [(0, eb c0), (0, R54.idx hx2), (9, .call (vS n bY) [] [] [(304400, 200000)]), (7, eb c1), (5, eb c2), (2, eb c3), (4, eb c1)])) (fun c2 h =>
 ra (aeh (R8 aw n) n h) [(0, eb c0), (0, R54.idx hx2), (9, .call (vS n bY) [] [] [(304400, 200000)]), (7, eb c1), (5, eb c2), (5, eb c1)]))) (fun c0 h =>
 ra (bw h) [(0, eb c0)])
def xX (k_3:az→(List aD)→Option ((List aD)×az×Int)):Nat→(List ak)→Int→Int→aa→an→az→(List aD)→Option ((List aD)×az×Int)
 |0,_,_,_,_,_,_,_=>none
 |n+1,t31,t32,t33,b3,b4,b7,b11=>Hz k_3 (xX k_3 n) n t31 t32 t33 b3 b4 b7 b11
theorem adv {k_3} (bw:K2 (A17 [1,1,1,1,1]) Jj k_3):∀n:Nat,K7 (A17 [0,1,0,1,1,1,1]) Ai (xX k_3 n)
 |0=>fun _ _ _ _ _ _ _ _ h=>nz h
 |n+1=>fun _ _ _ _ _ _ _ _ h=>amc bw (adv bw n) n h
def Hy (n : Nat) (b7 : az) (b11 : List aD) : Option ((List aD) × az × Int) :=
 some (b11, (az.mk 0 0 0 []), 0)
theorem amb (n : Nat) : K2 (A17 [1, 1, 1, 1, 1]) Jj (Hy n) := fun b7 b11 r h =>
 rr h [(5, .ren 11 200000), (0, .norm [] [(7, .flat [.same, .same, .same, .sl 65 3])])]
def To (n : Nat) (s0 : aa) (st1 : an) (dP : List ak) : Option ((List aD) × az × Int) :=
 (F14 n s0 dP).bind fun x8 =>
 if x8 != 0 then
 some ([], (az.mk 0 0 0 []), x8)
 else
 (F53 n s0 1 st1).bind fun x15 =>
 if x15 != 0 then
 some ([], (az.mk 0 0 0 []), x15)
 else
 xX (Hy n) n dP (dP.length : Int) 0 s0 st1 (az.mk 0 0 0 []) []
theorem ama (n : Nat) : K3 (A17 []) UL (To n) := fun s0 st1 dP r h =>
 be h fun x8 hx8 h =>
 ie h (fun c0 h =>
 rr h [(7, .call (aah n hx8) [] [] []), (2, eb c0), (5, .born [6] [] 200000 true 104 3), (0, .norm [] [(7, .flat [.same, .same, .same, .sl 65 3])])]) (fun c0 h =>
 be h fun x15 cK h =>
 ie h (fun c1 h =>
 rr h [(7, .call (aah n hx8) [] [] []), (2, eb c0), (2, .call (ev53 n cK) [] [] []), (2, eb c1), (5, .born [6] [] 200000 true 104 3), (0, .norm [] [(7, .flat [.same, .same, .same, .sl 65 3])])]) (fun c1 h =>
 ra (adv (amb n) n h) [(7, .call (aah n hx8) [] [] []), (2, eb c0), (2, .call (ev53 n cK) [] [] []), (2, eb c1), (2, .eqv (R54.au dP)), (1, .born [11] [] 11 true 104 3)]))
def F17 (n:Nat) (s0:aa) (st1:an) (dP:List ak):Option ((List aD)×az×Int):=To n s0 st1 dP
theorem Rq (n:Nat):K3 C17 UL (F17 n):=fun _ _ _ _ h=>ca (X:=x17) (ama n h)
def ack (r:Bool):AV:=.bool r
def WE (r:Bool):List (Nat×Bx):= []
def x18:=fx E0 Tryz.f18 [] []
def A18:=Ax x18 ack WE
def C18:=Cx E0 18 ack WE
def UK (a0 b1:az):LS:=⟨[(0,.agg (Bn a0)),(1,.agg (Bn b1))],[]⟩
def Tn (n : Nat) (a0 b1 : az) : Option Bool :=
 if a0.cm == b1.cm then
 if a0.du == b1.du then
 if a0.ar == b1.ar then
 (F22 n a0.av b1.av).bind fun x28 =>
 some (x28 == 0)
 else
 some false
 else
 some false
 else
 some false
theorem alZ (n : Nat) : K2 (A18 []) UK (Tn n) := fun a0 b1 r h =>
 ie h (fun c0 h =>
 ie h (fun c1 h =>
 ie h (fun c2 h =>
 be h fun x28 jb h =>
 rr h [(7, eb c0), (5, eb c1), (6, eb c2), (6, .call (jO n jb) [] [] [])]) (fun c2 h =>
 rr h [(7, eb c0), (5, eb c1), (6, eb c2)])) (fun c1 h =>
 rr h [(7, eb c0), (5, eb c1)])) (fun c0 h =>
 rr h [(7, eb c0)])
def F18 (n:Nat) (a0 b1:az):Option Bool:=Tn n a0 b1
theorem aag (n:Nat):K2 C18 UK (F18 n):=fun _ _ _ h=>ca (X:=x18) (alZ n h)
def acj (r:Bool):AV:=.bool r
def WD (r:Bool):List (Nat×Bx):= []
def x19:=fx E0 Tryz.f19 [] []
def A19:=Ax x19 acj WD
def C19:=Cx E0 19 acj WD
def Ji (a0 b1:List aD) (t12 t13:Int):LS:=⟨[(0,.slice 104 3 (eF a0)),(1,.slice 104 3 (eF b1)),(12,.int .i64 t12),(13,.int .i64 t13)],[]⟩
def Jh:LS:=⟨[],[]⟩
def UJ (a0 b1:List aD):LS:=⟨[(0,.slice 104 3 (eF a0)),(1,.slice 104 3 (eF b1))],[]⟩
def Hx (k_1 : Option Bool) (back : (List aD) → (List aD) → Int → Int → Option Bool) (n : Nat) (a0 b1 : List aD) (t12 t13 : Int) : Option Bool :=
 if decide (t13 < t12) then
 (idx a0 t13).bind fun x6 =>
 (idx b1 t13).bind fun x12 =>
 if x6.ar != x12.ar then
 some false
 else
 (idx a0 t13).bind fun x20 =>
 (idx b1 t13).bind fun x26 =>
 (F22 n x20.nP x26.nP).bind fun x30 =>
 if x30 != 0 then
 some false
 else
 (idx a0 t13).bind fun x37 =>
 (idx b1 t13).bind fun x43 =>
 (F22 n x37.pW x43.pW).bind fun x47 =>
 if x47 != 0 then
 some false
 else
 back a0 b1 t12 (w64 (t13 + 1))
 else
 k_1
theorem alY {k_1} (aG : K0 (A19 [1, 1, 1]) Jh k_1) {back} (aw : K4 (A19 [0, 1, 0, 1, 1]) Ji back) (n : Nat) : K4 (A19 [0, 1, 0, 1, 1]) Ji (Hx k_1 back n) := fun a0 b1 t12 t13 r h =>
 ie h (fun c0 h =>
 be h fun x6 hx6 h =>
 be h fun x12 bT h =>
 ie h (fun c1 h =>
 rr h [(0, eb c0), (4, dO.idx hx6), (4, dO.idx bT), (2, eb c1)]) (fun c1 h =>
 be h fun x20 iH h =>
 be h fun x26 iw h =>
 be h fun x30 pK h =>
 ie h (fun c2 h =>
 rr h [(0, eb c0), (4, dO.idx hx6), (4, dO.idx bT), (2, eb c1), (3, dO.idx iH), (4, dO.idx iw), (2, .call (jO n pK) [] [] []), (0, eb c2)]) (fun c2 h =>
 be h fun x37 lU h =>
 be h fun x43 nK h =>
 be h fun x47 hx47 h =>
 ie h (fun c3 h =>
 rr h [(0, eb c0), (4, dO.idx hx6), (4, dO.idx bT), (2, eb c1), (3, dO.idx iH), (4, dO.idx iw), (2, .call (jO n pK) [] [] []), (0, eb c2), (4, dO.idx lU), (4, dO.idx nK), (2, .call (jO n hx47) [] [] []), (0, eb c3)]) (fun c3 h =>
 ra (aw h) [(0, eb c0), (4, dO.idx hx6), (4, dO.idx bT), (2, eb c1), (3, dO.idx iH), (4, dO.idx iw), (2, .call (jO n pK) [] [] []), (0, eb c2), (4, dO.idx lU), (4, dO.idx nK), (2, .call (jO n hx47) [] [] []), (0, eb c3)])))) (fun c0 h =>
 ra (aG h) [(0, eb c0)])
def xW (k_1:Option Bool):Nat→(List aD)→(List aD)→Int→Int→Option Bool
 |0,_,_,_,_=>none
 |n+1,a0,b1,t12,t13=>Hx k_1 (xW k_1 n) n a0 b1 t12 t13
theorem adu {k_1} (aG:K0 (A19 [1,1,1]) Jh k_1):∀n:Nat,K4 (A19 [0,1,0,1,1]) Ji (xW k_1 n)
 |0=>fun _ _ _ _ _ h=>nz h
 |n+1=>fun _ _ _ _ _ h=>alY aG (adu aG n) n h
def Hw (n : Nat) : Option Bool :=
 some true
theorem alX (n : Nat) : K0 (A19 [1, 1, 1]) Jh (Hw n) := fun r h =>
 rr h []
def Tm (n : Nat) (a0 b1 : List aD) : Option Bool :=
 if (a0.length : Int) != (b1.length : Int) then
 some false
 else
 xW (Hw n) n a0 b1 (a0.length : Int) 0
theorem alW (n : Nat) : K2 (A19 []) UJ (Tm n) := fun a0 b1 r h =>
 ie h (fun c0 h =>
 rr h [(2, .eqv (dO.au a0)), (1, .eqv (dO.au b1)), (0, eb c0)]) (fun c0 h =>
 ra (adu (alX n) n h) [(2, .eqv (dO.au a0)), (1, .eqv (dO.au b1)), (0, eb c0), (1, .eqv (dO.au a0))])
def F19 (n:Nat) (a0 b1:List aD):Option Bool:=Tm n a0 b1
theorem ev19 (n:Nat):K2 C19 UJ (F19 n):=fun _ _ _ h=>ca (X:=x19) (alW n h)
def res4 (r:Bool):AV:=.bool r
def acx (r:Bool):List (Nat×Bx):= []
def x4:=fx E0 Tryz.f4 [] []
def A4:=Ax x4 res4 acx
def C4:=Cx E0 4 res4 acx
def aiC (g9:List ak) (i10:Int) (l12:List ak) (b5:an) (b20:aj) (b8:aa) (b9 b11:an):LS:=⟨[(1,.slice 55 5 (cn g9)),(5,.loc 5 0),(7,.loc 20 0),(8,.loc 8 0),(9,.loc 9 0),(10,.int .i64 i10),(11,.loc 11 0),(12,.slice 55 5 (cn l12))],[(5,.flat 33 (cN b5)),(8,.flat 26 (aV b8)),(9,.flat 33 (cN b9)),(11,.flat 33 (cN b11)),(20,.flat 74 (bA b20))]⟩
def Fq (g9:List ak) (i10:Int) (b5:an) (b20:aj) (b8:aa) (b9:an):LS:=⟨[(1,.slice 55 5 (cn g9)),(5,.loc 5 0),(7,.loc 20 0),(8,.loc 8 0),(9,.loc 9 0),(10,.int .i64 i10)],[(5,.flat 33 (cN b5)),(8,.flat 26 (aV b8)),(9,.flat 33 (cN b9)),(20,.flat 74 (bA b20))]⟩
def PS:LS:=⟨[],[]⟩
def PR (gp:List Int) (g9:List ak) (lB:an):LS:=⟨[(0,.slice 5 1 (mU gp)),(1,.slice 55 5 (cn g9)),(2,.agg (cN lB))],[]⟩
def zK (k_1 : (List ak) → Int → an → aj → aa → an → Option Bool) (n : Nat) (g9 : List ak) (i10 : Int) (l12 : List ak) (b5 : an) (b20 : aj) (b8 : aa) (b9 b11 : an) : Option Bool :=
 (F16 n b8 b11 l12).bind fun x4_ =>
 (F17 n b8 b11 l12).bind fun x17 =>
 if x4_.2.2 != x17.2.2 then
 some false
 else
 (F18 n x4_.2.1 x17.2.1).bind fun x33 =>
 if !x33 then
 some false
 else
 (F19 n x4_.1 x17.1).bind fun x40 =>
 if !x40 then
 some false
 else
 k_1 g9 (w64 (i10 + 1)) b5 b20 b8 b9
theorem R6 {k_1} (aG : K6 (A4 [0, 1, 0, 1, 1, 1, 1]) Fq k_1) (n : Nat) : K8 (A4 [1, 1, 0, 0, 1, 0, 0, 1, 0, 1, 1, 1, 1]) aiC (zK k_1 n) := fun g9 i10 l12 b5 b20 b8 b9 b11 r h =>
 be h fun x4_ hx4 h =>
 be h fun x17 eO h =>
 ie h (fun c0 h =>
 rr h [(3, .call (Rr n hx4) [] [] [(305100, 200000)]), (11, .call (Rq n eO) [] [] [(305900, 200000)]), (10, eb c0)]) (fun c0 h =>
 be h fun x33 lj h =>
 ie h (fun c1 h =>
 rr h [(3, .call (Rr n hx4) [] [] [(305100, 200000)]), (11, .call (Rq n eO) [] [] [(305900, 200000)]), (10, eb c0), (3, .call (aag n lj) [] [] []), (0, eb c1)]) (fun c1 h =>
 be h fun x40 DH h =>
 ie h (fun c2 h =>
 rr h [(3, .call (Rr n hx4) [] [] [(305100, 200000)]), (11, .call (Rq n eO) [] [] [(305900, 200000)]), (10, eb c0), (3, .call (aag n lj) [] [] []), (0, eb c1), (4, dO.frz 305100 x4_.1), (0, dO.frz 305900 x17.1), (0, .call (ev19 n DH) [.one (.sl 0 0), .one (.sl 0 0)] [] []), (0, eb c2)]) (fun c2 h =>
 ra (aG h) [(3, .call (Rr n hx4) [] [] [(305100, 200000)]), (11, .call (Rq n eO) [] [] [(305900, 200000)]), (10, eb c0), (3, .call (aag n lj) [] [] []), (0, eb c1), (4, dO.frz 305100 x4_.1), (0, dO.frz 305900 x17.1), (0, .call (ev19 n DH) [.one (.sl 0 0), .one (.sl 0 0)] [] []), (0, eb c2)])))
def S3 (k_2 : Option Bool) (back : (List ak) → Int → an → aj → aa → an → Option Bool) (n : Nat) (g9 : List ak) (i10 : Int) (b5 : an) (b20 : aj) (b8 : aa) (b9 : an) : Option Bool :=
 if decide (i10 < 4) then
 (F10 n b20 b8 b9 4).bind fun x7 =>
 if i10 == 1 then
 (F13 n x7.2 x7.1).bind fun x17 =>
 zK back n g9 i10 x17.1 b5 x17.2 b8 b9 b9
 else
 if i10 == 2 then
 zK back n g9 i10 g9 b5 x7.2 b8 b9 b9
 else
 if i10 == 3 then
 zK back n g9 i10 x7.1 b5 x7.2 b8 b9 b5
 else
 zK back n g9 i10 x7.1 b5 x7.2 b8 b9 b9
 else
 k_2
theorem b4_1 {k_2} (bP : K0 (A4 [1, 1, 1, 1, 1]) PS k_2) {back} (aw : K6 (A4 [0, 1, 0, 1, 1, 1, 1]) Fq back) (n : Nat) : K6 (A4 [0, 1, 0, 1, 1, 1, 1]) Fq (S3 k_2 back n) := fun g9 i10 b5 b20 b8 b9 r h =>
 ie h (fun c0 h =>
 be h fun x7 hx7 h =>
 ie h (fun c1 h =>
 be h fun x17 eO h =>
 ra (R6 aw n h) [(1, eb c0), (4, .call (Rx n hx7) [] [(20, 0)] [(34, 200000)]), (4, eb c1), (3, R54.frz 34 x7.1), (0, .call (ev13 n eO) [] [(20, 0)] [(40, 200000)]), (1, R54.frz 40 x17.1)]) (fun c1 h =>
 ie h (fun c2 h =>
 ra (R6 aw n h) [(1, eb c0), (4, .call (Rx n hx7) [] [(20, 0)] [(34, 200000)]), (4, eb c1), (1, eb c2)]) (fun c2 h =>
 ie h (fun c3 h =>
 ra (R6 aw n h) [(1, eb c0), (4, .call (Rx n hx7) [] [(20, 0)] [(34, 200000)]), (4, eb c1), (1, eb c2), (1, eb c3), (3, R54.frz 34 x7.1)]) (fun c3 h =>
 ra (R6 aw n h) [(1, eb c0), (4, .call (Rx n hx7) [] [(20, 0)] [(34, 200000)]), (4, eb c1), (1, eb c2), (1, eb c3), (1, R54.frz 34 x7.1)])))) (fun c0 h =>
 ra (bP h) [(1, eb c0)])
def rS (k_2:Option Bool):Nat→(List ak)→Int→an→aj→aa→an→Option Bool
 |0,_,_,_,_,_,_=>none
 |n+1,g9,i10,b5,b20,b8,b9=>S3 k_2 (rS k_2 n) n g9 i10 b5 b20 b8 b9
theorem l4_1 {k_2} (bP:K0 (A4 [1,1,1,1,1]) PS k_2):∀n:Nat,K6 (A4 [0,1,0,1,1,1,1]) Fq (rS k_2 n)
 |0=>fun _ _ _ _ _ _ _ h=>nz h
 |n+1=>fun _ _ _ _ _ _ _ h=>b4_1 bP (l4_1 bP n) n h
def wD (n : Nat) : Option Bool :=
 (F15 n ).bind fun x1 =>
 some x1
theorem b4_2 (n : Nat) : K0 (A4 [1, 1, 1, 1, 1]) PS (wD n) := fun r h =>
 be h fun x1 hx1 h =>
 rr h [(0, .call (ev15 n hx1) [] [] [])]
def aaS (n : Nat) (gp : List Int) (g9 : List ak) (lB : an) : Option Bool :=
 (F8 n gp 300).bind fun x4_ =>
 (F9 n x4_).bind fun x8 =>
 (F11 n x8.2 x8.1 1).bind fun x14 =>
 rS (wD n) n g9 0 lB x14.2 x8.1 x14.1
theorem b4_3 (n : Nat) : K3 (A4 []) PR (aaS n) := fun gp g9 lB r h =>
 be h fun x4_ hx4 h =>
 be h fun x8 hx8 h =>
 be h fun x14 gB h =>
 ra (l4_1 (b4_2 n) n h) [(3, .call (ev8 n hx4) [] [] [(20, 200000)]), (2, .call (ev9 n hx8) [] [(20, 0)] []), (4, .call (ev11 n gB) [] [(20, 0)] [])]
def F4 (n:Nat) (gp:List Int) (g9:List ak) (lB:an):Option Bool:=aaS n gp g9 lB
theorem ev4 (n:Nat):K3 C4 PR (F4 n):=fun _ _ _ _ h=>ca (X:=x4) (b4_3 n h)
def Eb (t:TypeId):Bool:= [2,3,5,9,22,23,31,33,43,53,55,65,66].contains t
theorem PJ (t:TypeId) (h:Eb t=true):rV Tryz.prog Eb t=true:=by
 have nO:([2,3,5,9,22,23,31,33,43,53,55,65,66].all fun t=>rV Tryz.prog Eb t)=true:=by kernel_rfl
 exact List.all_eq_true.1 nO t (List.contains_iff_mem.1 h)
theorem ty5 (n:Nat) (xs:List AV) (h:bG Tryz.prog n 5 xs):∃x,xs=Lr x:=by
 match n,h with
 |n+1,h=>
  simp only[bG,Tryz.underlying5] at h;obtain ⟨x,rfl,_⟩:=h;exact ⟨x,rfl⟩
theorem ty22 (n:Nat) (xs:List AV) (h:bG Tryz.prog n 22 xs):∃x,xs= [.slice 5 1 (mU x)]:=by
 match n,h with
 |n+1,h=>
  simp only[bG,Tryz.underlying22] at h;obtain ⟨rows,rfl,hr⟩:=h;obtain ⟨y,rfl⟩:=oU fun r hr'=>ty5 n r (hr r hr')
  exact ⟨y,by rw[Eu,show Tryz.prog.cellsOf 5=1 from by kernel_rfl];try rfl⟩
theorem ty3 (n:Nat) (xs:List AV) (h:bG Tryz.prog n 3 xs):∃x,xs=D4 x:=by
 match n,h with
 |n+1,h=>
  simp only[bG,Tryz.underlying3] at h;obtain ⟨x,rfl,_⟩:=h;exact ⟨x,rfl⟩
theorem ty2 (n:Nat) (xs:List AV) (h:bG Tryz.prog n 2 xs):∃x,xs=enc2 x:=by
 match n,h with
 |n+1,h=>
  simp only[bG,Tryz.underlying2] at h;obtain ⟨x,rfl,_⟩:=h;exact ⟨x,rfl⟩
theorem ty9 (n:Nat) (xs:List AV) (h:bG Tryz.prog n 9 xs):∃x,xs=enc9 x:=by
 match n,h with
 |n+1,h=>
  simp only[bG,Tryz.underlying9] at h;obtain ⟨x,rfl,_⟩:=h;exact ⟨x,rfl⟩
theorem ty65 (n:Nat) (xs:List AV) (h:bG Tryz.prog n 65 xs):∃x,xs=fF x:=by
 match n,h with
 |n+1,h=>
  simp only[bG,Tryz.underlying65] at h;obtain ⟨xss,rfl,h2⟩:=h;match xss,h2 with
  | [a0,a1,a2],⟨h0,h1,h2,_⟩=>
   obtain ⟨y0,rfl⟩:=ty3 _ _ h0;obtain ⟨y1,rfl⟩:=ty2 _ _ h1;obtain ⟨y2,rfl⟩:=ty9 _ _ h2;exact ⟨⟨y0,y1,y2⟩,rfl⟩
theorem YF (n:Nat) (xs:List AV) (h:bG Tryz.prog n 43 xs):∃x,xs= [.slice 65 3 (aI x)]:=by
 match n,h with
 |n+1,h=>
  simp only[bG,Tryz.underlying43] at h;obtain ⟨rows,rfl,hr⟩:=h;obtain ⟨y,rfl⟩:=oU fun r hr'=>ty65 n r (hr r hr')
  exact ⟨y,by rw[sX,show Tryz.prog.cellsOf 65=3 from by kernel_rfl];try rfl⟩
theorem ty53 (n:Nat) (xs:List AV) (h:bG Tryz.prog n 53 xs):∃x,xs= [.slice 3 1 (aX x)]:=by
 match n,h with
 |n+1,h=>
  simp only[bG,Tryz.underlying53] at h;obtain ⟨rows,rfl,hr⟩:=h;obtain ⟨y,rfl⟩:=oU fun r hr'=>ty3 n r (hr r hr')
  exact ⟨y,by rw[ve,show Tryz.prog.cellsOf 3=1 from by kernel_rfl];try rfl⟩
theorem ty55 (n:Nat) (xs:List AV) (h:bG Tryz.prog n 55 xs):∃x,xs=fq x:=by
 match n,h with
 |n+1,h=>
  simp only[bG,Tryz.underlying55] at h;obtain ⟨xss,rfl,h2⟩:=h;match xss,h2 with
  | [a0,a1,a2,a3,a4],⟨h0,h1,h2,h3,h4,_⟩=>
   obtain ⟨y0,rfl⟩:=ty3 _ _ h0;obtain ⟨y1,rfl⟩:=ty3 _ _ h1;obtain ⟨y2,rfl⟩:=YF _ _ h2;obtain ⟨y3,rfl⟩:=ty53 _ _ h3;obtain ⟨y4,rfl⟩:=YF _ _ h4;exact ⟨⟨y0,y1,y2,y3,y4⟩,rfl⟩
theorem ty23 (n:Nat) (xs:List AV) (h:bG Tryz.prog n 23 xs):∃x,xs= [.slice 55 5 (cn x)]:=by
 match n,h with
 |n+1,h=>
  simp only[bG,Tryz.underlying23] at h;obtain ⟨rows,rfl,hr⟩:=h;obtain ⟨y,rfl⟩:=oU fun r hr'=>ty55 n r (hr r hr')
  exact ⟨y,by rw[sY,show Tryz.prog.cellsOf 55=5 from by kernel_rfl];try rfl⟩
theorem ty66 (n:Nat) (xs:List AV) (h:bG Tryz.prog n 66 xs):∃x,xs= [.slice 43 1 (fJ x)]:=by
 match n,h with
 |n+1,h=>
  simp only[bG,Tryz.underlying66] at h;obtain ⟨rows,rfl,hr⟩:=h;obtain ⟨y,rfl⟩:=oU fun r hr'=>YF n r (hr r hr')
  exact ⟨y,by rw[sZ,show Tryz.prog.cellsOf 43=1 from by kernel_rfl];try rfl⟩
theorem ty31 (n:Nat) (xs:List AV) (h:bG Tryz.prog n 31 xs):∃x,xs= [.slice 66 1 (dK x)]:=by
 match n,h with
 |n+1,h=>
  simp only[bG,Tryz.underlying31] at h;obtain ⟨rows,rfl,hr⟩:=h;obtain ⟨y,rfl⟩:=oU fun r hr'=>ty66 n r (hr r hr')
  exact ⟨y,by rw[sW,show Tryz.prog.cellsOf 66=1 from by kernel_rfl];try rfl⟩
theorem ty33 (n:Nat) (xs:List AV) (h:bG Tryz.prog n 33 xs):∃x,xs=cN x:=by
 match n,h with
 |n+1,h=>
  simp only[bG,Tryz.underlying33] at h;obtain ⟨xss,rfl,h2⟩:=h;match xss,h2 with
  | [a0],⟨h0,_⟩=>
   obtain ⟨y0,rfl⟩:=ty31 _ _ h0;exact ⟨⟨y0⟩,rfl⟩
theorem bZ {x:Int} (h1: -9223372036854775808≤x) (h2:x≤9223372036854775807):w64 x=x:=IntWalk.i64_in x ⟨h1,h2⟩
theorem aL {α:Type} (xs:List α) (i:Nat):idx xs (i:Int)=xs[i]? :=by simp[idx]
mutual
def szP:ag→Nat
 |⟨_,_,_,_,args⟩=>2+szL args
def szL:List ag→Nat
 | []=>0
 |x::xs=>1+szP x+szL xs
end
theorem oQ (xs:List ag):xs.length≤szL xs:=by
 induction xs with
 |nil=>simp[szL]
 |cons x xs ih=>simp[szL];omega
def zv:I:=I.mk 0 0 ByteArray.empty
def eE (v:I):Bool:=
 if v.ax==1||v.ax==2 then v.bQ==0&&decide (v.bq=ByteArray.empty)
 else if v.ax==3 then (v.bQ==0||v.bQ==1)&&decide (v.bq=ByteArray.empty)
 else if v.ax==4 then decide (v.bq=ByteArray.empty)
 else if v.ax==5 then v.bQ==0&&decide ((v.bq.size:Int)≤64)
 else false
def gY (v:I):Bool:=eE v&&decide (3≤v.ax)
theorem wq (n:Nat) (v:I):F88 n v=some (eE v):=by
 unfold F88 Sz eE;by_cases h1:v.ax=1<;>by_cases h2:v.ax=2<;>by_cases h3:v.ax=3<;>by_cases h4:v.ax=4<;>by_cases h5:v.ax=5<;>by_cases h6:v.bQ=0<;>by_cases h7:v.bQ=1<;>simp_all<;>simp[←Int.not_le]
theorem Ps (n:Nat) (v:I):Sw n v=some (eE v):=by
 have:=wq n v;exact this
theorem Nj {v:I} (h:eE v=true):1≤v.ax∧v.ax≤5:=by
 unfold eE at h;split at h
 ·rename_i h1;simp at h1;omega
 ·split at h
  ·rename_i h1;simp at h1;omega
  ·split at h
   ·rename_i h1;simp at h1;omega
   ·split at h
    ·rename_i h1;simp at h1;omega
    ·simp at h
theorem afz (n:Nat) (v:I):Sl n v=some (gY v):=by
 unfold Sl MO;rw[wq];simp only[Option.bind_some,gY];cases eE v<;>simp<;>simp[←Int.not_le]
theorem Yo (n:Nat) (v:I):F80 n v=some (gY v):=by
 unfold F80 SG;rw[Ps];simp only[Option.bind_some,gY];cases h:eE v with
 |false=>simp
 |true=>
  have:=Nj h;by_cases h1:v.ax=1
  ·simp[h1]
  ·by_cases h2:v.ax=2
   ·simp[h2]
   ·have:3≤v.ax:=by omega
    simp[h1,h2,this]
theorem E1:∀a b:List UInt8,Lib.compareBytes a b=if Op.bytesLess a b then -1 else if a=b then 0 else 1
 | [],[]=>by simp[Lib.compareBytes,Op.bytesLess]
 | [],_::_=>by simp[Lib.compareBytes,Op.bytesLess]
 |_::_,[]=>by simp[Lib.compareBytes,Op.bytesLess]
 |a::l,b::m=>by
  rw[Lib.compareBytes,Op.bytesLess,E1 l m];by_cases h:a<b
  ·simp[h]
  ·by_cases h2:b<a
   ·have hne:a≠b:=fun e=>by subst e;exact absurd h2 (UInt8.lt_irrefl _)
    simp[h,h2,hne]
   ·have he:a=b:=UInt8.le_antisymm (UInt8.not_lt.1 h2) (UInt8.not_lt.1 h);subst he;simp[UInt8.lt_irrefl]
def iT (a b:I):Int:=
 if a.ax<b.ax then -1 else if b.ax<a.ax then 1
 else if a.bQ<b.bQ then -1 else if b.bQ<a.bQ then 1
 else if Op.bytesLess a.bq.toList b.bq.toList then -1 else if a.bq=b.bq then 0 else 1
theorem gU:∀a:List UInt8,Op.bytesLess a a=false
 | []=>by simp[Op.bytesLess]
 |a::l=>by simp[Op.bytesLess,gU l,UInt8.lt_irrefl]
theorem nR {a b:ByteArray} (h:a.data.toList=b.data.toList):a=b:=by
 cases a;cases b;simp at h;simp[h]
theorem lK (a:ByteArray):a.toList=a.data.toList:=by
 exact ByteArray.toList_eq a
theorem ahX (n:Nat) (a b:I):F61 n a b=some (iT a b):=by
 unfold F61 SU iT;by_cases h1:a.ax<b.ax
 ·simp[h1]
 ·by_cases h2:b.ax<a.ax
  ·simp[h1,h2]
  ·by_cases h3:a.bQ<b.bQ
   ·simp[h1,h2,h3]
   ·by_cases h4:b.bQ<a.bQ
    ·simp[h1,h2,h3,h4]
    ·by_cases h5:Op.bytesLess a.bq.toList b.bq.toList=true
     ·simp[h1,h2,h3,h4,h5]
     ·by_cases h6:a.bq=b.bq
      ·simp[h1,h2,h3,h4,h6,gU]
      ·have h7:¬a.bq.toList=b.bq.toList:=fun e=>h6 (nR (by rw[lK,lK] at e;exact e))
       simp[h1,h2,h3,h4,h5,h6,h7]
theorem aaN (n:Nat) (a b:ByteArray):Sk n a b=some (if Op.bytesLess a.toList b.toList then -1 else if a=b then 0 else 1):=by
 unfold Sk;rw[E1,lK,lK];by_cases h:a=b
 ·subst h;simp
 ·have:a.data.toList≠b.data.toList:=fun e=>h (nR e)
  simp[h,this]
theorem afD (n:Nat) (a b:Int):Sp n a b=some (if a<b then -1 else if b<a then 1 else 0):=by
 unfold Sp MX Sn MR;by_cases h1:a<b
 ·simp[h1]
 ·by_cases h2:b<a<;>simp[h1,h2]
theorem afC (n:Nat) (a b:Int):So n a b=some (if a<b then -1 else if b<a then 1 else 0):=by
 unfold So MW Sm MQ;by_cases h1:a<b
 ·simp[h1]
 ·by_cases h2:b<a<;>simp[h1,h2]
theorem ahN (n:Nat) (a b:I):F95 n a b=some (iT a b):=by
 unfold F95 Sy aaP MV aaO MP;rw[afD,afC,aaN];obtain ⟨k,i,t⟩:=a;obtain ⟨k',i',t'⟩:=b;unfold iT;simp only[Option.bind_some];by_cases h1:k<k'
 ·have:k≠k':=by omega
  simp[h1,this]
 ·by_cases h2:k'<k
  ·have:k≠k':=by omega
   simp[h1,h2,this]
  ·have hk:k=k':=by omega
   subst hk;by_cases h3:i<i'
   ·have:i≠i':=by omega
    simp[h3,this]
   ·by_cases h4:i'<i
    ·have:i≠i':=by omega
     simp[h3,h4,this]
    ·have hi:i=i':=by omega
     subst hi;by_cases h5:t=t'
     ·subst h5;simp[gU]
     ·simp[h5]
theorem aO {α:Type} {xs:List α} {i:Nat} {x:α} {l:List α} (h:xs.drop i=x::l):xs[i]? =some x∧xs.drop (i+1)=l∧i<xs.length:=by
 have h1:i<xs.length:=by
  by_cases hl:i<xs.length
  ·exact hl
  ·rw[List.drop_of_length_le (by omega)] at h;simp at h
 rw[List.drop_eq_getElem_cons h1] at h;obtain ⟨q1,q2⟩:=List.cons.inj h;exact ⟨by simp[h1,q1],q2,h1⟩
theorem oP {x:ag} {xs:List ag} (h:x∈xs):szP x+xs.length≤szL xs:=by
 induction xs with
 |nil=>simp at h
 |cons y ys ih=>
  have hl:=oQ ys;simp only[szL,List.length_cons];rcases List.mem_cons.1 h with rfl|h
  ·omega
  ·have:=ih h;omega
def Ok {α:Type} (x:Option α) (P:α→Prop):Prop:=∃a,x=some a∧P a
theorem Ok.pure {α:Type} {a:α} {P:α→Prop} (h:P a):Ok (some a) P:=⟨a,rfl,h⟩
theorem Ok.bind {α β:Type} {x:Option α} {f:α→Option β} {P:α→Prop} {Q:β→Prop} (h:Ok x P) (k:∀a,P a→Ok (f a) Q):Ok (x.bind f) Q:=by
 obtain ⟨a,rfl,ha⟩:=h;exact k a ha
theorem Ok.mono {α:Type} {x:Option α} {P Q:α→Prop} (h:Ok x P) (k:∀a,P a→Q a):Ok x Q:=by
 obtain ⟨a,h1,h2⟩:=h;exact ⟨a,h1,k a h2⟩
theorem Ok.ite {α:Type} {b:Bool} {x y:Option α} {P:α→Prop} (h1:b=true→Ok x P) (h2:b=false→Ok y P):Ok (if b=true then x else y) P:=by
 cases b with
 |true=>simpa using h1 rfl
 |false=>simpa using h2 rfl
structure ba (c:aj):Prop where
 lo:0≤c.fat
 hi:c.fat≤c.fO.length
 len:c.fO.length≤1000
 byte:∀x∈c.fO,0≤x∧x≤255
theorem cD {α:Type} (xs ys:List α) (h:xs.length+ys.length≤1000000):app xs ys=some (xs++ys):=by unfold app;rw[if_pos (by omega)]
theorem amD (n:Nat) (aR:List Int) (m:Int) (hb:∀x∈aR,0≤x∧x≤255) (h0:0≤m) (h1:m≤1000):Ok (F8 n aR m) ba:=by
 unfold F8 aaR;have hc:∃k:Nat,(if m<(aR.length:Int) then m else (aR.length:Int))=(k:Int)∧k≤aR.length∧k≤1000:=by
  by_cases h:m<(aR.length:Int)
  ·exact ⟨m.toNat,by rw[if_pos h];omega,by omega,by omega⟩
  ·exact ⟨aR.length,by rw[if_neg h],Nat.le_refl _,by omega⟩
 obtain ⟨k,e,k1,k2⟩:=hc;rw[e];have h2:cut aR none (some (k:Int))=some (aR.take k):=by simp[cut,k1]
 rw[h2,Option.bind_some,cD _ _ (by simp;omega),Option.bind_some]
 refine Ok.pure ⟨Int.le_refl _,by simp,by simp;omega,fun x hx=> ?_⟩
 exact hb x (List.mem_of_mem_take (by simpa using hx))
theorem dt (n:Nat) (c:aj) (m:Int) (h:ba c):Ok (F24 n c m) fun r=>ba r.2∧0≤r.1∧(1≤m→r.1<m)∧(m<1→r.1=0)∧r.1≤255:=by
 unfold F24 Tk;refine Ok.ite (fun h1=>Ok.pure ⟨h,Int.le_refl _,fun h=>by omega,fun _=>rfl,by omega⟩) fun h1=> ?_
 simp at h1;refine Ok.ite (fun h2=>Ok.pure ⟨h,Int.le_refl _,fun h=>by omega,fun _=>rfl,by omega⟩) fun h2=> ?_
 simp at h2;have h3:=h.lo;have h4:=h.len;rw[bZ (x:=c.fat+1) (by omega) (by omega),bZ (by omega) (by omega)]
 have e:c.fat+1-1=(c.fat.toNat:Int):=by omega
 have hlt:c.fat.toNat<c.fO.length:=by omega
 rw[e,aL,List.getElem?_eq_getElem hlt,Option.bind_some];have hb:=h.byte (c.fO[c.fat.toNat]) (List.getElem_mem _);rw[bZ (by omega) (by omega)]
 have hm:m≠0:=by omega
 simp only[rem,hm,if_false,Option.bind_some];have q1:=Int.tmod_nonneg m hb.1;have q2:=Int.tmod_lt_of_pos c.fO[c.fat.toNat] (by omega:0<m)
 have q3:c.fO[c.fat.toNat].tmod m≤c.fO[c.fat.toNat]:=by
  rw[Int.tmod_eq_emod_of_nonneg hb.1];have:=Int.emod_add_mul_ediv c.fO[c.fat.toNat] m;have h5:0≤m*(c.fO[c.fat.toNat] / m):=Int.mul_nonneg (by omega) (Int.ediv_nonneg hb.1 (by omega))
  omega
 exact Ok.pure ⟨⟨by simp;omega,by simp;omega,h4,h.byte⟩,q1,fun _=>q2,fun h=>by omega,by simp;omega⟩
theorem jV (n:Nat) (c:aj) (m:Int) (h:ba c):Ok (F29 n c m) fun r=>ba r.2:=by
 unfold F29 Ti;refine Ok.bind (dt n c m h) fun r hr=> ?_
 exact Ok.pure hr.1
theorem afG (n:Nat) (c:aj) (h:ba c):Ok (Su n c) fun r=>ba r.2∧ -9223372036854775808≤r.1∧r.1≤9223372036854775807:=by
 unfold Su M9;refine Ok.bind (dt n c 12 h) fun r ⟨hr,h0,_,_,h2⟩=> ?_
 refine Ok.ite (fun _=>Ok.pure ⟨hr,by simp,by simp⟩) fun _=> ?_
 refine Ok.ite (fun _=>Ok.pure ⟨hr,by simp,by simp⟩) fun _=> ?_
 refine Ok.ite (fun _=>Ok.pure ⟨hr,by simp,by simp⟩) fun _=> ?_
 have q1:=Int.tmod_nonneg 4 h0;have q2:=Int.tmod_lt_of_pos r.1 (by omega:(0:Int)<4)
 exact Ok.pure ⟨hr,by simp;omega,by simp;omega⟩
theorem E7 (c:aj):∀(k n:Nat) (s:ByteArray) (i:Int),i=64-k→k≤64→s.size=64-k→k<n→Ok (sD (fun l b=>some (l,b)) n s i c) fun r=>r.2=c∧r.1.size≤64
 |0,n+1,s,i,hi,_,hs,_=>by
  have h:¬i<64:=by omega
  simp only[sD,Cn,h,decide_false,Bool.false_eq_true,if_false];exact Ok.pure ⟨rfl,by simp;omega⟩
 |k+1,n+1,s,i,hi,hk,hs,hn=>by
  have h:i<64:=by omega
  simp only[sD,Cn,h,decide_true,if_true];have hc:cat s (ByteArray.mk #[255])=some (s++ByteArray.mk #[255]):=by
   have:(ByteArray.mk #[255]).size=1:=rfl;unfold cat;rw[if_pos (by omega)]
  rw[hc,Option.bind_some,bZ (by omega) (by omega)]
  have hsz:(s++ByteArray.mk #[255]).size=s.size+1:=by rw[ByteArray.size_append];rfl
  exact E7 c k n _ _ (by omega) (by omega) (by omega) (by omega)
 |_,0,_,_,_,_,_,hn=>by simp at hn
theorem E6 (c:aj):∀(k n:Nat) (s:ByteArray) (i:Int),i=64-k→k≤64→s.size=64-k→k<n→Ok (sC (fun l b=>some (l,b)) n s i c) fun r=>r.2=c∧r.1.size≤64
 |0,n+1,s,i,hi,_,hs,_=>by
  have h:¬i<64:=by omega
  simp only[sC,Cm,h,decide_false,Bool.false_eq_true,if_false];exact Ok.pure ⟨rfl,by simp;omega⟩
 |k+1,n+1,s,i,hi,hk,hs,hn=>by
  have h:i<64:=by omega
  simp only[sC,Cm,h,decide_true,if_true];have hc:cat s (ByteArray.mk #[98])=some (s++ByteArray.mk #[98]):=by
   have:(ByteArray.mk #[98]).size=1:=rfl;unfold cat;rw[if_pos (by omega)]
  rw[hc,Option.bind_some,bZ (by omega) (by omega)]
  have hsz:(s++ByteArray.mk #[98]).size=s.size+1:=by rw[ByteArray.size_append];rfl
  exact E6 c k n _ _ (by omega) (by omega) (by omega) (by omega)
 |_,0,_,_,_,_,_,hn=>by simp at hn
theorem afF (n:Nat) (hn:100≤n) (c:aj) (h:ba c):Ok (Ss n c) fun r=>ba r.2∧r.1.size≤64:=by
 unfold Ss M8;refine Ok.bind (dt n c 10 h) fun r ⟨hr,_⟩=> ?_
 refine Ok.ite (fun _=>Ok.pure ⟨hr,Nat.le_of_ble_eq_true rfl⟩) fun _=> ?_
 refine Ok.ite (fun _=>Ok.pure ⟨hr,Nat.le_of_ble_eq_true rfl⟩) fun _=> ?_
 refine Ok.ite (fun _=>Ok.pure ⟨hr,Nat.le_of_ble_eq_true rfl⟩) fun _=> ?_
 refine Ok.ite (fun _=>Ok.pure ⟨hr,Nat.le_of_ble_eq_true rfl⟩) fun _=> ?_
 refine Ok.ite (fun _=>Ok.pure ⟨hr,Nat.le_of_ble_eq_true rfl⟩) fun _=> ?_
 refine Ok.ite (fun _=>Ok.pure ⟨hr,Nat.le_of_ble_eq_true rfl⟩) fun _=> ?_
 refine Ok.ite (fun _=>Ok.pure ⟨hr,Nat.le_of_ble_eq_true rfl⟩) fun _=> ?_
 refine Ok.ite (fun _=>Ok.pure ⟨hr,Nat.le_of_ble_eq_true rfl⟩) fun _=> ?_
 refine Ok.ite (fun _=> ?_) fun _=> ?_
 ·exact (E7 r.2 64 n ByteArray.empty 0 (by omega) (by omega) rfl (by omega)).mono fun x ⟨e,hx⟩=>⟨by rw[e];exact hr,hx⟩
 ·exact (E6 r.2 64 n ByteArray.empty 0 (by omega) (by omega) rfl (by omega)).mono fun x ⟨e,hx⟩=>⟨by rw[e];exact hr,hx⟩
theorem BV (n:Nat) (hn:100≤n) (c:aj) (k:Int) (h:ba c) (hk:3≤k) (hk':k≤5):Ok (F74 n c k) fun r=>ba r.2∧r.1.ax=k∧gY r.1=true:=by
 unfold F74 SK;refine Ok.ite (fun h3=> ?_) fun h3=> ?_
 ·simp at h3;refine Ok.bind (dt n c 2 h) fun r ⟨hr,h0,h1,_⟩=>Ok.pure ⟨hr,rfl,?_⟩
  have h1:=h1 (by omega)
  have:r.1=0∨r.1=1:=by omega
  rcases this with e|e<;>simp[gY,eE,h3,e]
 ·simp at h3;refine Ok.ite (fun h4=> ?_) fun h4=> ?_
  ·simp at h4;refine Ok.bind (afG n c h) fun r ⟨hr,_⟩=>Ok.pure ⟨hr,rfl,by simp[gY,eE,h4]⟩
  ·simp at h4;refine Ok.bind (afF n hn c h) fun r ⟨hr,hs⟩=>Ok.pure ⟨hr,by simp;omega,?_⟩
   have:(r.1.size:Int)≤64:=by omega
   simp[gY,eE,this]
theorem My (n:Nat) (hn:100≤n) (c:aj) (h:ba c):Ok (F43 n c) fun r=>ba r.2∧1≤r.1.ax∧r.1.ax≤5∧(3≤r.1.ax→gY r.1=true):=by
 unfold F43 S5;refine Ok.bind (dt n c 5 h) fun r ⟨hr,h0,h1,_⟩=> ?_
 have h1:=h1 (by omega)
 rw[bZ (by omega) (by omega)]
 refine Ok.ite (fun h2=> ?_) fun h2=> ?_
 ·simp at h2;exact Ok.pure ⟨hr,by simp;omega,by simp;omega,by simp;omega⟩
 ·simp at h2;refine Ok.bind (BV n hn r.2 (1+r.1) hr (by omega) (by omega)) fun x ⟨hx,e,hre⟩=>Ok.pure ⟨hx,by simp;omega,by simp;omega,fun _=>hre⟩
def kOK (k:Int):Bool:=k==3||k==4||k==5
def dX (l:List Int):Bool:=l.all kOK
theorem bj {i L:Nat} (h:i<L) (hl:L<4294967296):w64 ((i:Int)+1)=((i+1:Nat):Int):=by rw[bZ (by omega) (by omega)];rfl
theorem Ph (n:Nat) (k:Int):MB n k=some (kOK k):=by
 unfold MB MZ kOK;by_cases h3:k=3
 ·simp[h3]
 ·by_cases h4:k=4
  ·simp[h4]
  ·simp[h3,h4]
theorem Pf (xs:List Int) (hl:xs.length<4294967296):∀(l:List Int) (i n:Nat),xs.drop i=l→l.length<n→sG (some true) n xs (xs.length:Int) (i:Int)=some (dX l)
 | [],i,n+1,hd,hn=>by
  have:xs.length≤i:=by simpa using hd
  have h:¬((i:Int)<(xs.length:Int)):=by omega
  simp[sG,Ct,h,dX]
 |x::l,i,n+1,hd,hn=>by
  obtain ⟨h1,h2,h3⟩:=aO hd;have h:((i:Int)<(xs.length:Int)):=by omega
  have ih:=Pf xs hl l (i+1) n h2 (by simp at hn;omega)
  simp only[sG,Ct,h,decide_true,if_true,aL,h1,Option.bind_some,Ph,bj h3 hl,ih];simp only[dX,List.all_cons];cases kOK x<;>simp
 |_,_,0,_,hn=>by simp at hn
theorem Pq (n:Nat) (xs:List Int) (hl:xs.length<4294967296) (hn:xs.length<n):MF n xs=some (dX xs):=by
 have:=Pf xs hl xs 0 n rfl hn;simpa[MF,Nf,Ng] using this
theorem Pd (xs:List Int) (hl:xs.length<4294967296):∀(l:List Int) (i n:Nat),xs.drop i=l→l.length<n→sA (some true) n xs (xs.length:Int) (i:Int)=some (dX l)
 | [],i,n+1,hd,hn=>by
  have:xs.length≤i:=by simpa using hd
  have h:¬((i:Int)<(xs.length:Int)):=by omega
  simp[sA,Ck,h,dX]
 |x::l,i,n+1,hd,hn=>by
  obtain ⟨h1,h2,h3⟩:=aO hd;have h:((i:Int)<(xs.length:Int)):=by omega
  have ih:=Pd xs hl l (i+1) n h2 (by simp at hn;omega)
  simp only[sA,Ck,h,decide_true,if_true,aL,h1,Option.bind_some,bj h3 hl,ih];simp only[dX,List.all_cons,kOK];by_cases q3:x=3
  ·simp[q3]
  ·by_cases q4:x=4
   ·simp[q4]
   ·by_cases q5:x=5<;>simp[q3,q4,q5]
 |_,_,0,_,hn=>by simp at hn
theorem Pl (n:Nat) (xs:List Int) (hl:xs.length<4294967296) (hn:xs.length<n):MD n xs=some (dX xs):=by
 have:=Pd xs hl xs 0 n rfl hn;simpa[MD,M5,M6] using this
mutual
def ndP:ag→Nat
 |⟨_,_,_,_,args⟩=>1+ndL args
def ndL:List ag→Nat
 | []=>0
 |x::xs=>ndP x+ndL xs
end
mutual
def dpP:ag→Nat
 |⟨_,_,_,_,args⟩=>1+dpL args
def dpL:List ag→Nat
 | []=>0
 |x::xs=>max (dpP x) (dpL xs)
end
theorem OZ (p:ag):1≤ndP p:=by obtain ⟨_,_,_,_,_⟩:=p;simp[ndP]
theorem Pp:∀(n:Nat) (p:ag) (m:Int),szP p≤n→szP p<4294967296→0≤m→m≤24→Ok (Ei n p m) fun r=>r≤25∧(m+ndP p≤24→r=m+ndP p)∧(24<m+ndP p→24<r)
 |0,⟨_,_,_,_,_⟩,_,h,_,_,_=>by simp[szP] at h
 |n+1,⟨op,c,l,r,args⟩,m,h,hb,h0,h1=>by
  simp only[szP] at h hb;have hlen:=oQ args;have loop:∀(xs:List ag) (i k:Nat) (m:Int),args.drop i=xs→xs.length<k→0≤m→m≤25→
    Ok (sF (Ei n) (fun r=>some r) k m (i:Int) ⟨op,c,l,r,args⟩) fun r=>r≤25∧(m+ndL xs≤24→r=m+ndL xs)∧(24<m+ndL xs→24<r):=by
   intro xs;induction xs with
   |nil=>
    intro i k m hd hk m0 m1;have:args.length≤i:=by simpa using hd
    have hq:¬((i:Int)<(args.length:Int)):=by omega
    cases k with
    |zero=>simp at hk
    |succ k=>
     simp only[sF,Cs,hq,decide_false,Bool.false_eq_true,if_false];exact Ok.pure ⟨m1,fun _=>by simp[ndL],fun h=>by simp[ndL] at h;exact h⟩
   |cons x xs ih=>
    intro i k m hd hk m0 m1;obtain ⟨g1,g2,g3⟩:=aO hd;have hq:((i:Int)<(args.length:Int)):=by omega
    cases k with
    |zero=>simp at hk
    |succ k=>
     simp only[sF,Cs,hq,decide_true,if_true];have hx:x∈args:=List.mem_of_getElem? g1;have hs:=oP hx;have hnd:=OZ x;refine Ok.ite (fun hm=> ?_) fun hm=> ?_
     ·simp at hm;rw[aL,g1,Option.bind_some];refine Ok.bind (Pp n x m (by omega) (by omega) m0 hm) fun r ⟨r1,r2,r3⟩=> ?_
      rw[bj g3 (by omega)]
      have hr0:0≤r:=by
       by_cases hz:m+ndP x≤24
       ·have:=r2 hz;omega
       ·have:=r3 (by omega);omega
      refine (ih (i+1) k r g2 (by simp at hk;omega) hr0 r1).mono fun r' ⟨q1,q2,q3⟩=>⟨q1,fun hle=> ?_,fun hlt=> ?_⟩
      ·simp only[ndL] at hle ⊢;have e:=r2 (by omega)
       have:=q2 (by omega)
       omega
      ·simp only[ndL] at hlt;by_cases hz:m+ndP x≤24
       ·have e:=r2 hz;exact q3 (by omega)
       ·have e:=r3 (by omega)
        exact q3 (by omega)
     ·simp at hm;exact Ok.pure ⟨m1,fun hle=>by simp only[ndL] at hle;omega,fun _=>hm⟩
  unfold Ei Nd;rw[bZ (by omega) (by omega)]
  refine (loop args 0 n (m+1) rfl (by omega) (by omega) (by omega)).mono fun r' ⟨q1,q2,q3⟩=>⟨q1,fun hle=> ?_,fun hlt=> ?_⟩
  ·simp only[ndP] at hle ⊢;have:=q2 (by omega)
   omega
  ·simp only[ndP] at hlt;exact q3 (by omega)
theorem Po:∀(n:Nat) (p:ag) (m:Nat),szP p≤n→szP p<4294967296→m≤1000→wz n p (m:Int)=some (decide (m<dpP p))
 |0,⟨_,_,_,_,_⟩,_,h,_,_=>by simp[szP] at h
 |n+1,⟨op,c,l,r,args⟩,0,h,hb,hm=>by
  have:0<dpP ⟨op,c,l,r,args⟩:=by simp only[dpP];omega
  simp[wz,Cq,this]
 |n+1,⟨op,c,l,r,args⟩,m+1,h,hb,hm=>by
  simp only[szP] at h hb;have hlen:=oQ args;have loop:∀(xs:List ag) (i k:Nat),args.drop i=xs→xs.length<k→
    sE (wz n) (some false) k ((m+1:Nat):Int) (args.length:Int) (i:Int) ⟨op,c,l,r,args⟩=some (decide (m<dpL xs)):=by
   intro xs;induction xs with
   |nil=>
    intro i k hd hk;have:args.length≤i:=by simpa using hd
    have hq:¬((i:Int)<(args.length:Int)):=by omega
    cases k with
    |zero=>simp at hk
    |succ k=>simp[sE,Cr,hq,dpL]
   |cons x xs ih=>
    intro i k hd hk;obtain ⟨g1,g2,g3⟩:=aO hd;have hq:((i:Int)<(args.length:Int)):=by omega
    cases k with
    |zero=>simp at hk
    |succ k=>
     have hx:x∈args:=List.mem_of_getElem? g1;have hs:=oP hx;have hw:w64 (((m+1:Nat):Int)-1)=(m:Int):=by rw[bZ (by omega) (by omega)];omega
     simp only[sE,Cr,hq,decide_true,if_true,aL,g1,Option.bind_some,hw,Po n x m (by omega) (by omega) (by omega),bj g3 (by omega:args.length<4294967296),
      ih (i+1) k g2 (by simp at hk;omega)]
     by_cases hd1:m<dpP x
     ·have:m<dpL (x::xs):=by simp only[dpL];omega
      simp[hd1,this]
     ·have:(m<dpL (x::xs))↔m<dpL xs:=by simp only[dpL];omega
      simp[hd1,this]
  have hne:¬(((m+1:Nat):Int)=0):=by omega
  have hl:=loop args 0 n rfl (by omega)
  have e:(m+1<dpP ⟨op,c,l,r,args⟩)↔m<dpL args:=by simp only[dpP];omega
  simp only[wz,Cq,beq_iff_eq,hne,if_false,Nc];rw[show ((0:Int))=((0:Nat):Int) from rfl,hl];simp[e]
theorem Pk:∀(n:Nat) (p:ag) (v b:Int),szP p≤n→szP p<4294967296→1≤v→v≤9→0≤b→b≤24→
  Ok (Eh n p v b) fun r=>(r.1=true↔((ndP p:Int)≤b∧v+dpP p≤9))∧(r.1=true→r.2=b-ndP p)
 |0,⟨_,_,_,_,_⟩,_,_,h,_,_,_,_,_=>by simp[szP] at h
 |n+1,⟨op,c,l,r,args⟩,v,b,h,hb,v1,v2,b1,b2=>by
  simp only[szP] at h hb;have hlen:=oQ args;have loop:∀(xs:List ag) (i k:Nat) (b:Int),args.drop i=xs→xs.length<k→v≤8→0≤b→b≤24→
    Ok (sy (Eh n) (fun b=>some (true,b)) k v args (args.length:Int) (i:Int) b) fun r=>(r.1=true↔((ndL xs:Int)≤b∧v+dpL xs≤8))∧(r.1=true→r.2=b-ndL xs):=by
   intro xs;induction xs with
   |nil=>
    intro i k b hd hk hv b1 b2;have:args.length≤i:=by simpa using hd
    have hq:¬((i:Int)<(args.length:Int)):=by omega
    cases k with
    |zero=>simp at hk
    |succ k=>
     simp only[sy,Cj,hq,decide_false,Bool.false_eq_true,if_false];exact Ok.pure ⟨by simp[ndL,dpL];omega,by simp[ndL]⟩
   |cons x xs ih=>
    intro i k b hd hk hv b1 b2;obtain ⟨g1,g2,g3⟩:=aO hd;have hq:((i:Int)<(args.length:Int)):=by omega
    cases k with
    |zero=>simp at hk
    |succ k=>
     have hx:x∈args:=List.mem_of_getElem? g1;have hs:=oP hx;simp only[sy,Cj,hq,decide_true,if_true,aL,g1,Option.bind_some];rw[bZ (x:=v+1) (by omega) (by omega)]
     refine Ok.bind (Pk n x (v+1) b (by omega) (by omega) (by omega) (by omega) b1 b2) fun r ⟨r1,r2⟩=> ?_
     refine Ok.ite (fun hr=> ?_) fun hr=> ?_
     ·simp at hr;refine Ok.pure ⟨⟨fun h=>by simp at h,fun ⟨h1,h2⟩=> ?_⟩,fun h=>by simp at h⟩
      simp only[ndL,dpL] at h1 h2;have:=r1.2 ⟨by omega,by omega⟩
      rw[hr] at this;exact absurd this (by simp)
     ·simp at hr;have e:=r2 hr;have q:=r1.1 hr;rw[bj g3 (by omega)]
      have hnd:=OZ x;refine (ih (i+1) k r.2 g2 (by simp at hk;omega) hv (by omega) (by omega)).mono fun r' ⟨q1,q2⟩=>⟨⟨fun h=> ?_,fun ⟨h1,h2⟩=> ?_⟩,fun h=> ?_⟩
      ·have:=q1.1 h;simp only[ndL,dpL];omega
      ·simp only[ndL,dpL] at h1 h2;exact q1.2 ⟨by omega,by omega⟩
      ·have:=q2 h;simp only[ndL];omega
  unfold Eh M3;rw[bZ (by omega) (by omega)]
  simp only[ndP,dpP];refine Ok.ite (fun hb0=> ?_) fun hb0=> ?_
  ·simp at hb0;refine Ok.pure ⟨⟨fun h=>by simp at h,fun h=> ?_⟩,fun h=>by simp at h⟩
   omega
  ·simp at hb0;refine Ok.ite (fun hv=> ?_) fun hv=> ?_
   ·simp at hv;refine Ok.pure ⟨⟨fun h=>by simp at h,fun h=> ?_⟩,fun h=>by simp at h⟩
    omega
   ·simp at hv;refine (loop args 0 n (b-1) rfl (by omega) hv (by omega) (by omega)).mono fun r' ⟨q1,q2⟩=>⟨⟨fun h=> ?_,fun ⟨h1,h2⟩=> ?_⟩,fun h=> ?_⟩
    ·have:=q1.1 h;omega
    ·exact q1.2 ⟨by omega,by omega⟩
    ·have:=q2 h;omega
def qx (v:I):Bool:=v.ax==0&&(v.bQ==0&&(decide (v.bq=ByteArray.empty)&&true))
def tf (o:aA):Bool:=o.ax==0&&(o.bL==0&&(qx o.aT&&true))
def kAt (l:List Int) (o:aA):Int:=if 0≤o.bL∧o.bL<l.length∧qx o.aT=true then (l[o.bL.toNat]?).getD 0 else 0
def eS (aE params:List Int) (o:aA):Int:=
 if o.ax==3 then (if o.bL==0&&gY o.aT then o.aT.ax else 0) else if o.ax==2 then kAt params o else if o.ax==1 then kAt aE o else 0
theorem wE (n:Nat) (l:List Int) (o:aA):wF n l o=some (kAt l o):=by
 unfold wF kAt;by_cases h1:o.bL<0
 ·have:¬0≤o.bL:=by omega
  simp[h1,this]
 ·by_cases h2:(l.length:Int)≤o.bL
  ·have:¬o.bL<l.length:=by omega
   simp[h1,h2,this]
  ·have e1:0≤o.bL:=by omega
   have e2:o.bL<l.length:=by omega
   have e3:o.bL.toNat<l.length:=by omega
   have hid:idx l o.bL=some (l[o.bL.toNat]):=by simp[idx,e1,e3]
   cases h3:qx o.aT with
   |false=>
    simp only[qx] at h3;simp only[h1,h2,decide_false,Bool.false_eq_true,if_false,ge_iff_le,h3,Bool.not_false,if_true,and_false,e2,decide_true,Bool.not_true]
   |true=>
    simp only[qx] at h3;simp only[h1,h2,decide_false,Bool.false_eq_true,if_false,ge_iff_le,h3,Bool.not_true,hid,Option.bind_some,e1,e2,and_self,if_true,decide_true,Bool.not_true];simp[e3]
theorem afB (n:Nat) (aE params:List Int) (o:aA):MA n aE params o=some (eS aE params o):=by
 unfold MA MT eS;rw[wE,wE,afz];simp only[Option.bind_some];by_cases h3:o.ax=3
 ·by_cases hi:o.bL=0<;>cases gY o.aT<;>simp[h3,hi]
 ·by_cases h2:o.ax=2
  ·simp[h2]
  ·by_cases h1:o.ax=1<;>simp[h1,h2,h3]
theorem afA (n:Nat) (k:cQ) (o:aA):Mz n k o=some (eS k.eX k.fY o):=by
 have h0:∀l,Cc n l o=some (kAt l o):=fun l=>by rw[←wE n l o];rfl
 unfold Mz MS eS;rw[h0,h0,Yo];simp only[Option.bind_some];by_cases h3:o.ax=3
 ·by_cases hi:o.bL=0<;>cases gY o.aT<;>simp[h3,hi]
 ·by_cases h2:o.ax=2
  ·simp[h2]
  ·by_cases h1:o.ax=1<;>simp[h1,h2,h3]
def fy (c:Int) (l r:aA):Bool:=c==0&&tf l&&tf r
mutual
def pV (aE params:List Int):ag→Bool
 |⟨op,c,l,r,args⟩=>
  if op==1||op==2 then fy c l r&&args.length==0
  else if op==3 then args.length==0&&decide (1≤c)&&decide (c≤6)&&eS aE params l !=0&&eS aE params l==eS aE params r
  else if op==4||op==5 then fy c l r&&pVs aE params args
  else if op==6 then args.length==1&&(fy c l r&&pVs aE params args)
  else false
def pVs (aE params:List Int):List ag→Bool
 | []=>true
 |x::xs=>pV aE params x&&pVs aE params xs
end
theorem Pg (n:Nat) (p:ag):Ef n p=some (fy p.gD p.bD p.bl):=by
 unfold Ef MU fy tf qx;by_cases h:p.gD=0
 ·simp only[h,beq_self_eq_true,if_true,Bool.true_and];split
  ·rename_i h1;simp only[h1,Bool.true_and]
  ·rename_i h1;rw[Bool.not_eq_true] at h1;simp only[h1,Bool.false_and]
 ·simp[h]
theorem Pn (aE params:List Int):∀(n:Nat) (p:ag),szP p≤n→szP p<4294967296→wy n aE params p=some (pV aE params p)
 |0,⟨_,_,_,_,_⟩,h,_=>by simp[szP] at h
 |n+1,⟨op,c,l,r,args⟩,h,hb=>by
  simp only[szP] at h hb;have hlen:=oQ args;have loop:∀(xs:List ag) (i k:Nat),args.drop i=xs→xs.length<k→
    qk (wy n) (some true) k aE params (args.length:Int) (i:Int) ⟨op,c,l,r,args⟩=some (pVs aE params xs):=by
   intro xs;induction xs with
   |nil=>
    intro i k hd hk;have:args.length≤i:=by simpa using hd
    have hq:¬((i:Int)<(args.length:Int)):=by omega
    cases k with
    |zero=>simp at hk
    |succ k=>simp[qk,Co,hq,pVs]
   |cons x xs ih=>
    intro i k hd hk;obtain ⟨g1,g2,g3⟩:=aO hd;have hq:((i:Int)<(args.length:Int)):=by omega
    cases k with
    |zero=>simp at hk
    |succ k=>
     have hx:x∈args:=List.mem_of_getElem? g1;have hs:=oP hx;simp only[qk,Co,hq,decide_true,if_true,aL,g1,Option.bind_some,Pn aE params n x (by omega) (by omega),bj g3 (by omega:args.length<4294967296),
      ih (i+1) k g2 (by simp at hk;omega),pVs]
     cases pV aE params x<;>simp
  have hl:=loop args 0 n rfl (by omega)
  have hl:qk (wy n) (some true) n aE params (args.length:Int) 0 ⟨op,c,l,r,args⟩=some (pVs aE params args):=hl;have hB:sN (wy n) n aE params ⟨op,c,l,r,args⟩=some (fy c l r&&pVs aE params args):=by
   unfold sN Nb;rw[Pg,Option.bind_some,hl];cases fy c l r<;>simp
  unfold wy Na;simp only[Pg,afB,Option.bind_some,hB];unfold pV;have hz:((args.length:Int)==0)=(args.length==0):=by
   rw[Bool.eq_iff_iff];simp
  have ho:((args.length:Int) !=1)= !(args.length==1):=by
   rw[Bool.eq_iff_iff];simp;omega
  simp only[hz,ho];by_cases h1:op=1
  ·cases hp:fy c l r<;>simp[h1]
  ·by_cases h2:op=2
   ·cases hp:fy c l r<;>simp[h2]
   ·by_cases h3:op=3
    ·cases ha:(args.length==0) with
     |false=>simp[h3]
     |true=>
      by_cases c1:1≤c
      ·by_cases c2:c≤6
       ·by_cases c3:eS aE params l=0<;>simp[h3,c1,c2,c3]
       ·simp[h3,c1,c2]
      ·simp[h3,c1]
    ·by_cases h4:op=4
     ·simp[h4]
     ·by_cases h5:op=5
      ·simp[h5]
      ·by_cases h6:op=6
       ·cases ha:(args.length==1)<;>simp[h6]
       ·simp[h1,h2,h3,h4,h5,h6]
theorem Eg (k:cQ):∀(n:Nat) (p:ag),szP p≤n→szP p<4294967296→lr n k p=some (pV k.eX k.fY p)
 |0,⟨_,_,_,_,_⟩,h,_=>by simp[szP] at h
 |n+1,⟨op,c,l,r,args⟩,h,hb=>by
  simp only[szP] at h hb;have hlen:=oQ args;have aiL:∀(xs:List ag) (i m:Nat),args.drop i=xs→xs.length<m→
    nC (lr n) (some true) m args (args.length:Int) (i:Int) k=some (pVs k.eX k.fY xs):=by
   intro xs;induction xs with
   |nil=>
    intro i m hd hk;have:args.length≤i:=by simpa using hd
    have hq:¬((i:Int)<(args.length:Int)):=by omega
    cases m with
    |zero=>simp at hk
    |succ m=>simp[nC,Ci,hq,pVs]
   |cons x xs ih=>
    intro i m hd hk;obtain ⟨g1,g2,g3⟩:=aO hd;have hq:((i:Int)<(args.length:Int)):=by omega
    cases m with
    |zero=>simp at hk
    |succ m=>
     have hx:x∈args:=List.mem_of_getElem? g1;have hs:=oP hx;simp only[nC,Ci,hq,decide_true,if_true,aL,g1,Option.bind_some,Eg k n x (by omega) (by omega),bj g3 (by omega:args.length<4294967296),
      ih (i+1) m g2 (by simp at hk;omega),pVs]
     cases pV k.eX k.fY x<;>simp
  have aiK:∀(xs:List ag) (i m:Nat),args.drop i=xs→xs.length<m→
    nA (lr n) (some true) m args (args.length:Int) (i:Int) k=some (pVs k.eX k.fY xs):=by
   intro xs;induction xs with
   |nil=>
    intro i m hd hk;have:args.length≤i:=by simpa using hd
    have hq:¬((i:Int)<(args.length:Int)):=by omega
    cases m with
    |zero=>simp at hk
    |succ m=>simp[nA,Cg,hq,pVs]
   |cons x xs ih=>
    intro i m hd hk;obtain ⟨g1,g2,g3⟩:=aO hd;have hq:((i:Int)<(args.length:Int)):=by omega
    cases m with
    |zero=>simp at hk
    |succ m=>
     have hx:x∈args:=List.mem_of_getElem? g1;have hs:=oP hx;simp only[nA,Cg,hq,decide_true,if_true,aL,g1,Option.bind_some,Eg k n x (by omega) (by omega),bj g3 (by omega:args.length<4294967296),
      ih (i+1) m g2 (by simp at hk;omega),pVs]
     cases pV k.eX k.fY x<;>simp
  have hl0:nC (lr n) (some true) n args (args.length:Int) 0 k=some (pVs k.eX k.fY args):=aiL args 0 n rfl (by omega)
  have hl3:nA (lr n) (some true) n args (args.length:Int) 0 k=some (pVs k.eX k.fY args):=aiK args 0 n rfl (by omega)
  have Xz:∀X:Option Bool,(if c !=0 then some false else if !(tf l) then some false else if !(tf r) then some false else X)=if fy c l r then X else some false:=by
   intro X;unfold fy;by_cases hc:c=0
   ·cases tf l<;>cases tf r<;>simp[hc]
   ·simp[hc]
  have hB5:sM (lr n) n k ⟨op,c,l,r,args⟩=some (fy c l r&&pVs k.eX k.fY args):=by
   have:=Xz (nA (lr n) (Cf (lr n) n) n args (args.length:Int) 0 k);unfold sM;refine Eq.trans this ?_;unfold Cf;rw[hl3];cases fy c l r<;>simp
  have hB2:∀b,wG (lr n) n b k ⟨op,c,l,r,args⟩=some (!b&&(fy c l r&&pVs k.eX k.fY args)):=by
   intro b;have:=Xz (nC (lr n) (Ch (lr n) n) n args (args.length:Int) 0 k);unfold wG;cases b with
   |true=>simp
   |false=>
    simp only[Bool.false_eq_true,if_false,Bool.not_false,Bool.true_and];refine Eq.trans this ?_;unfold Ch;rw[hl0];cases fy c l r<;>simp
  unfold lr M1;simp only[afA,Option.bind_some,hB5,hB2];unfold pV;have hz:((args.length:Int)==0)=(args.length==0):=by
   rw[Bool.eq_iff_iff];simp
  have hz':((args.length:Int) !=0)= !(args.length==0):=by
   rw[Bool.eq_iff_iff];simp
  have ho:((args.length:Int) !=1)= !(args.length==1):=by
   rw[Bool.eq_iff_iff];simp;omega
  simp only[hz,hz',ho];have he:(args.length==0)=true→pVs k.eX k.fY args=true:=by
   intro h;have:args= []:=by simpa using h
   simp[this,pVs]
  by_cases h3:op=3
  ·cases ha:(args.length==0) with
   |false=>simp[h3]
   |true=>
    by_cases c1:1≤c
    ·by_cases c2:c≤6
     ·by_cases c3:eS k.eX k.fY l=0<;>simp[h3,c1,c2,c3]
     ·simp[h3,c1,c2]
    ·simp[h3,c1]
  ·by_cases h1:op=1
   ·cases ha:(args.length==0) with
    |false=>simp[h1]
    |true=>simp[h1,he ha]
   ·by_cases h2:op=2
    ·cases ha:(args.length==0) with
     |false=>simp[h2]
     |true=>simp[h2,he ha]
    ·by_cases h6:op=6
     ·cases ha:(args.length==1)<;>simp[h6]
     ·by_cases h4:op=4
      ·simp[h4]
      ·by_cases h5:op=5
       ·simp[h5]
       ·simp[h1,h2,h3,h4,h5,h6]
def kW (aE params:List Int) (p:ag):Int:=
 if !dX aE then 1 else if !dX params then 1 else if decide (24<ndP p)||decide (8<dpP p) then 2 else if !pV aE params p then 50 else 0
theorem Yp (n:Nat) (aE params:List Int) (p:ag) (h1:aE.length<n) (h2:params.length<n) (h3:szP p≤n) (h4:n<4294967296):F73 n aE params p=some (kW aE params p):=by
 obtain ⟨r,e,r1,r2,r3⟩:=Pp n p 0 h3 (by omega) (by omega) (by omega)
 have hd:=Po n p 8 h3 (by omega) (by omega)
 have hd:wz n p 8=some (decide (8<dpP p)):=hd;unfold F73 SL kW;simp only[Pq n aE (by omega) h1,Pq n params (by omega) h2,e,hd,Pn aE params n p h3 (by omega),Option.bind_some]
 cases dX aE<;>cases dX params<;>simp
 by_cases hn:24<ndP p
 ·have:=r3 (by omega)
  simp[hn,this]
 ·have:=r2 (by omega)
  have h24:¬24<r:=by omega
  by_cases h8:8<dpP p<;>cases pV aE params p<;>simp[hn,h24,h8]
theorem ahT (n:Nat) (aE params:List Int) (p:ag) (h1:aE.length<n) (h2:params.length<n) (h3:szP p≤n) (h4:n<4294967296):F79 n aE params p=some (kW aE params p):=by
 obtain ⟨r,e,r1,r2⟩:=Pk n p 1 24 h3 (by omega) (by omega) (by omega) (by omega) (by omega)
 unfold F79 SH kW;simp only[Pl n aE (by omega) h1,Pl n params (by omega) h2,e,Eg ⟨aE,params⟩ n p h3 (by omega),Option.bind_some]
 cases dX aE<;>cases dX params<;>simp
 cases hr:r.1 with
 |true=>
  have:=r1.1 hr;have e1:¬24<ndP p:=by omega
  have e2:¬8<dpP p:=by omega
  cases pV aE params p<;>simp[e1,e2]
 |false=>
  have:¬((ndP p:Int)≤24∧(1:Int)+dpP p≤9):=fun h=>by rw[r1.2 h] at hr;simp at hr
  have e1:24<ndP p∨8<dpP p:=by omega
  rcases e1 with h|h<;>simp[h]
theorem qK {k:Int} (h:kOK k=true):3≤k∧k≤5:=by simp[kOK] at h;omega
theorem mF {l:List Int} {i:Nat} {x:Int} (h:dX l=true) (hx:l[i]? =some x):kOK x=true:=by
 simp only[dX,List.all_eq_true] at h;exact h x (List.mem_of_getElem? hx)
def Y2 (aE params:List Int) (k:Int) (l:List aA):Prop:=∀o∈l,eS aE params o=k
theorem W3 {aE params:List Int} {i:Nat} {k:Int} (h:aE[i]? =some k):eS aE params ⟨1,(i:Int),⟨0,0,ByteArray.empty⟩⟩=k:=by
 have hi:i<aE.length:=(List.getElem?_eq_some_iff.1 h).1;have:(i:Int)<(aE.length:Int):=by omega
 simp[eS,kAt,qx,this,h]
theorem W2 {aE params:List Int} {i:Nat} {k:Int} (h:params[i]? =some k):eS aE params ⟨2,(i:Int),⟨0,0,ByteArray.empty⟩⟩=k:=by
 have hi:i<params.length:=(List.getElem?_eq_some_iff.1 h).1;have:(i:Int)<(params.length:Int):=by omega
 simp[eS,kAt,qx,this,h]
theorem YA (n:Nat) (hn:300≤n) (aE params:List Int) (k:Int) (hk:kOK k=true) (l:List aA) (c:aj) (hc:ba c) (hl:l.length≤300) (ho:Y2 aE params k l) (z:aA):
  Ok (wI n k c z l) fun r=>ba r.2∧eS aE params r.1=k:=by
 have hkr:=qK hk;unfold wI;rw[bZ (by omega) (by omega)]
 refine Ok.bind (dt n c ((l.length:Int)+1) hc) fun r ⟨hr,r0,r1,_⟩=> ?_
 have r1:=r1 (by omega)
 refine Ok.ite (fun h=> ?_) fun h=> ?_
 ·simp at h;have hlt:r.1.toNat<l.length:=by omega
  have:bnd l.length r.1=some r.1.toNat:=by simp[bnd,r0,hlt]
  rw[this,Option.bind_some,Nat.zero_add,List.getElem?_eq_getElem hlt,Option.bind_some];exact Ok.pure ⟨hr,ho _ (List.getElem_mem _)⟩
 ·refine Ok.bind (BV n (by omega) r.2 k hr hkr.1 hkr.2) fun x ⟨hx,kx,rx⟩=>Ok.pure ⟨hx,?_⟩
  simp[eS,rx,kx]
theorem wm (n:Nat) (hn:300≤n) (aE params:List Int) (k:Int) (hk:kOK k=true) (hp:params.length≤100) (z:aA):∀(xs:List Int) (i m:Nat) (l:List aA) (c:aj),params.drop i=xs→xs.length<m→ba c→l.length+xs.length≤300→Y2 aE params k l→
  Ok (sH (wI n) m k params (params.length:Int) (i:Int) c z l) fun r=>ba r.2∧eS aE params r.1=k
 | [],i,m+1,l,c,hd,hm,hc,hl,ho=>by
  have:params.length≤i:=by simpa using hd
  have hq:¬((i:Int)<(params.length:Int)):=by omega
  simp only[sH,Cv,hq,decide_false,Bool.false_eq_true,if_false];exact YA n hn aE params k hk l c hc (by simp at hl;omega) ho z
 |x::xs,i,m+1,l,c,hd,hm,hc,hl,ho=>by
  obtain ⟨g1,g2,g3⟩:=aO hd;have hq:((i:Int)<(params.length:Int)):=by omega
  simp only[sH,Cv,hq,decide_true,if_true,aL,g1,Option.bind_some];simp at hm hl;refine Ok.ite (fun h=> ?_) fun h=> ?_
  ·simp at h;subst h;rw[cD _ _ (by simp;omega),Option.bind_some,bj g3 (by omega)]
   refine wm n hn aE params x hk hp z xs (i+1) m _ c g2 (by omega) hc (by simp;omega) fun o hx=> ?_
   rcases List.mem_append.1 hx with hx|hx
   ·exact ho o hx
   ·simp at hx;subst hx;exact W2 g1
  ·rw[bj g3 (by omega)]
   exact wm n hn aE params k hk hp z xs (i+1) m l c g2 (by omega) hc (by omega) ho
 |_,_,0,_,_,_,hm,_,_,_=>by simp at hm
theorem wo (n:Nat) (hn:300≤n) (aE params:List Int) (k:Int) (hk:kOK k=true) (hp:params.length≤100) (hcl:aE.length≤100) (z:aA):∀(xs:List Int) (i m:Nat) (l:List aA) (c:aj),aE.drop i=xs→xs.length<m→ba c→l.length+xs.length≤100→Y2 aE params k l→
  Ok (sI (Cu n) m params k aE (aE.length:Int) (i:Int) c z l) fun r=>ba r.2∧eS aE params r.1=k
 | [],i,m+1,l,c,hd,hm,hc,hl,ho=>by
  have:aE.length≤i:=by simpa using hd
  have hq:¬((i:Int)<(aE.length:Int)):=by omega
  simp only[sI,Cw,hq,decide_false,Bool.false_eq_true,if_false,Cu];exact wm n hn aE params k hk hp z params 0 n l c rfl (by omega) hc (by simp at hl;omega) ho
 |x::xs,i,m+1,l,c,hd,hm,hc,hl,ho=>by
  obtain ⟨g1,g2,g3⟩:=aO hd;have hq:((i:Int)<(aE.length:Int)):=by omega
  simp only[sI,Cw,hq,decide_true,if_true,aL,g1,Option.bind_some];simp at hm hl;refine Ok.ite (fun h=> ?_) fun h=> ?_
  ·simp at h;subst h;rw[cD _ _ (by simp;omega),Option.bind_some,bj g3 (by omega)]
   refine wo n hn aE params x hk hp hcl z xs (i+1) m _ c g2 (by omega) hc (by simp;omega) fun o hx=> ?_
   rcases List.mem_append.1 hx with hx|hx
   ·exact ho o hx
   ·simp at hx;subst hx;exact W3 g1
  ·rw[bj g3 (by omega)]
   exact wo n hn aE params k hk hp hcl z xs (i+1) m l c g2 (by omega) hc (by omega) ho
 |_,_,0,_,_,_,hm,_,_,_=>by simp at hm
theorem Pr (n:Nat) (hn:300≤n) (c:aj) (aE params:List Int) (k:Int) (hk:kOK k=true) (hc:ba c) (hcl:aE.length≤100) (hp:params.length≤100):Ok (Sv n c aE params k) fun r=>ba r.2∧eS aE params r.1=k:=
 wo n hn aE params k hk hp hcl _ aE 0 n [] c rfl (by omega) hc (by simp;omega) (fun o h=>by simp at h)
def nB:Nat→Nat
 |0=>1
 |d+1=>1+3*nB d
def sB:Nat→Nat
 |0=>2
 |d+1=>2+3*(1+sB d)
theorem agu (d:Nat):1≤nB d:=by cases d<;>simp[nB]
theorem agd (d:Nat):2≤sB d:=by cases d<;>simp[sB]
structure jR (aE params:List Int) (d:Nat) (r:ag×aj):Prop where
 case:ba r.2
 val:pV aE params r.1=true
 dp:dpP r.1≤d+1
 nd:ndP r.1≤nB d
 sz:szP r.1≤sB d
theorem Ko {aE params:List Int} {d:Nat} {op c:Int} {l r:aA} {x:aj} (hx:ba x) (hv:pV aE params ⟨op,c,l,r,[]⟩=true):jR aE params d (⟨op,c,l,r,[]⟩,x):=
 ⟨hx,hv,by simp[dpP,dpL],by simp[ndP,ndL];exact agu d,by simp[szP,szL];exact agd d⟩
def zo:aA:=⟨0,0,⟨0,0,ByteArray.empty⟩⟩
theorem yX:fy 0 zo zo=true:=by decide
theorem MM (s:aj→List Int→List Int→Int→Option (ag×aj)) (n:Nat) (aE params:List Int) (d:Nat) (x:aj) (hx:ba x) (c:Int) (l r:aA) (h1:1≤c) (h2:c≤6) (h3:eS aE params l≠0) (h4:eS aE params l=eS aE params r) (z:ag):
  Ok (B3 s n x z ⟨3,c,l,r,[]⟩) (jR aE params d):=by
 unfold B3;refine Ok.bind (jV n x 6 hx) fun b hb=> ?_
 refine Ok.ite (fun _=>Ok.pure (Ko hb ?_)) fun _=>Ok.pure (Ko hb ?_)
 ·simp[pV,h1,h2,←h4,h3]
 ·simp[pV,h1,h2,←h4,h3]
theorem ML (s:aj→List Int→List Int→Int→Option (ag×aj)) (n:Nat) (hn:300≤n) (aE params:List Int) (hcl:aE.length≤100) (hp:params.length≤100) (d:Nat) (k:Int) (hk:kOK k=true) (x:aj) (hx:ba x) (z:ag):
  Ok (B2 s n aE params k x z) (jR aE params d):=by
 have hkr:=qK hk;unfold B2;refine Ok.bind (dt n x 6 hx) fun r ⟨hr,r0,r1,_⟩=> ?_
 have r1:=r1 (by omega)
 rw[bZ (by omega) (by omega)]
 refine Ok.bind (Pr n hn r.2 aE params k hk hr hcl hp) fun l ⟨hl,kl⟩=> ?_
 refine Ok.bind (BV n (by omega) l.2 k hl hkr.1 hkr.2) fun v ⟨hv,kv,rv⟩=> ?_
 refine Ok.bind (jV n v.2 3 hv) fun b hb=> ?_
 refine Ok.ite (fun _=> ?_) fun _=> ?_
 ·refine Ok.bind (Pr n hn b.2 aE params k hk hb hcl hp) fun o ⟨ho,ko⟩=> ?_
  exact MM s n aE params d o.2 ho _ _ _ (by omega) (by omega) (by omega) (by omega) _
 ·refine MM s n aE params d b.2 hb _ _ _ (by omega) (by omega) (by omega) ?_ _
  simp[eS,rv,kv] at kl ⊢;exact kl
theorem L8 (s:aj→List Int→List Int→Int→Option (ag×aj)) (aE params:List Int) (d:Nat) (hd:d≤1000)
  (hs:∀c,ba c→Ok (s c aE params (d:Int)) (jR aE params d)) (n0:Nat):∀(j n:Nat) (op:Int) (args:List ag) (c:aj) (z:ag) (a0:List ag),ba c→j<n→args.length+j≤3→pVs aE params args=true→dpL args≤d+1→ndL args≤args.length*nB d→szL args≤args.length*(1+sB d)→(op=4∨op=5)→
  Ok (xE s (GG s n0) n aE params ((d+1:Nat):Int) ((j:Int)-1) c z ⟨op,0,zo,zo,a0⟩ args) (jR aE params (d+1))
 |0,n+1,op,args,c,z,a0,hc,_,hj,h1,h2,h3,h4,hop=>by
  have:((0:Nat):Int)-1<0:=by omega
  simp only[xE,GH,GG,this,decide_true,Bool.not_true,Bool.false_eq_true,if_false];have e3:args.length*nB d≤3*nB d:=Nat.mul_le_mul_right _ (by omega)
  have e4:args.length*(1+sB d)≤3*(1+sB d):=Nat.mul_le_mul_right _ (by omega)
  refine Ok.pure ⟨hc,?_,by simp only[dpP];omega,by simp only[ndP,nB];omega,by simp only[szP,sB];omega⟩
  rcases hop with rfl|rfl<;>simp[pV,yX,h1]
 |j+1,n+1,op,args,c,z,a0,hc,hn,hj,h1,h2,h3,h4,hop=>by
  have:¬(((j+1:Nat):Int)-1<0):=by omega
  simp only[xE,GH,this,decide_false,Bool.not_false,if_true];have hw:w64 (((d+1:Nat):Int)-1)=(d:Int):=by rw[bZ (by omega) (by omega)];omega
  have hw2:w64 (((j+1:Nat):Int)-1-1)=(j:Int)-1:=by rw[bZ (by omega) (by omega)];omega
  rw[hw,hw2];refine Ok.bind (hs c hc) fun x hx=> ?_
  rw[cD _ _ (by simp;omega),Option.bind_some]
  have key:∀(l:List ag) (y:ag),pVs aE params (l++ [y])=(pVs aE params l&&pV aE params y)∧dpL (l++ [y])=max (dpL l) (dpP y)∧ndL (l++ [y])=ndL l+ndP y∧szL (l++ [y])=szL l+(1+szP y):=by
   intro l y;induction l with
   |nil=>simp[pVs,dpL,ndL,szL]
   |cons a l ih=>
    obtain ⟨i1,i2,i3,i4⟩:=ih;simp only[List.cons_append,pVs,dpL,ndL,szL,i1,i2,i3,i4];refine ⟨by rw[Bool.and_assoc],by omega,by omega,by omega⟩
  obtain ⟨k1,k2,k3,k4⟩:=key args x.1;refine L8 s aE params d hd hs n0 j n op _ x.2 _ _ hx.case (by omega) (by simp;omega) (by rw[k1,h1,hx.val];rfl) (by rw[k2];have:=hx.dp;omega) ?_ ?_ hop
  ·rw[k3,List.length_append];have:=hx.nd;simp only[List.length_cons,List.length_nil,Nat.add_mul];omega
  ·rw[k4,List.length_append];have:=hx.sz;simp only[List.length_cons,List.length_nil,Nat.add_mul];omega
 |_,0,_,_,_,_,_,_,hn,_,_,_,_,_,_=>by simp at hn
theorem jR.up {aE params:List Int} {r:ag×aj} {d e:Nat} (h:jR aE params d r) (hd:d≤e):jR aE params e r:=by
 have hn:∀k,nB d≤nB (d+k):=by
  intro k;induction k with
  |zero=>simp
  |succ k ih=>rw[←Nat.add_assoc];simp only[nB];omega
 have hs:∀k,sB d≤sB (d+k):=by
  intro k;induction k with
  |zero=>simp
  |succ k ih=>rw[←Nat.add_assoc];simp only[sB];omega
 have e1:d+(e-d)=e:=by omega
 have a:=hn (e-d);have b:=hs (e-d);rw[e1] at a b;exact ⟨h.case,h.val,by have:=h.dp;omega,by have:=h.nd;omega,by have:=h.sz;omega⟩
theorem Mw (aE params:List Int) (hk:dX aE=true) (hcl:aE.length≤100) (hp:params.length≤100):∀(d n:Nat) (c:aj),ba c→300+d<n→d≤100→Ok (F72 n c aE params (d:Int)) (jR aE params d)
 |d,0,c,hc,hn,_=>by omega
 |d,n+1,c,hc,hn,hd=>by
  have leaf:∀(op:Int) (x:aj) (z:ag),ba x→Ok (oJ (F72 n) n aE params (d:Int) op true x z) (jR aE params d):=by
   intro op x z hx;unfold oJ;simp only[if_true];refine Ok.ite (fun h=> ?_) fun h=> ?_
   ·simp at h;refine Ok.bind (dt n x (aE.length:Int) hx) fun r ⟨hr,r0,r1,_⟩=> ?_
    have r1:=r1 (by omega)
    have hlt:r.1.toNat<aE.length:=by omega
    have hid:idx aE r.1=some (aE[r.1.toNat]):=by simp[idx,r0,hlt]
    rw[hid,Option.bind_some];exact ML (F72 n) n (by omega) aE params hcl hp d _ (mF hk (i:=r.1.toNat) (by simp[hlt])) r.2 hr _
   ·exact ML (F72 n) n (by omega) aE params hcl hp d 4 rfl x hx _
  have inner:∀(op:Int) (x:aj) (z:ag),6≤op→op≤8→ba x→Ok (oJ (F72 n) n aE params (d:Int) op (decide ((d:Int)<1)) x z) (jR aE params d):=by
   intro op x z o1 o2 hx;cases d with
   |zero=>simpa using leaf op x z hx
   |succ d=>
    have hnd:¬(((d+1:Nat):Int)<1):=by omega
    have hw:w64 (((d+1:Nat):Int)-1)=(d:Int):=by rw[bZ (by omega) (by omega)];omega
    have ih:=fun c hc=>Mw aE params hk hcl hp d n c hc (by omega) (by omega)
    unfold oJ;simp only[hnd,decide_false,Bool.false_eq_true,if_false];refine Ok.ite (fun h6=> ?_) fun h6=> ?_
    ·rw[hw];refine Ok.bind (ih x hx) fun r hr=>Ok.pure ⟨hr.case,?_,?_,?_,?_⟩
     ·have:fy 0 ⟨0,0,⟨0,0,ByteArray.empty⟩⟩ ⟨0,0,⟨0,0,ByteArray.empty⟩⟩=true:=yX;simp[pV,this,pVs,hr.val]
     ·simp only[dpP,dpL];have:=hr.dp;omega
     ·simp only[ndP,ndL,nB];have:=hr.nd;omega
     ·simp only[szP,szL,sB];have:=hr.sz;omega
    ·simp at h6;refine Ok.bind (dt n x 3 hx) fun r ⟨hr,r0,r1,_⟩=> ?_
     have r1:=r1 (by omega)
     rw[bZ (x:=4+op) (by omega) (by omega),bZ (by omega) (by omega)]
     have e:r.1=((r.1.toNat+1:Nat):Int)-1:=by omega
     rw[e];exact L8 (F72 n) aE params d (by omega) ih n (r.1.toNat+1) n (4+op-7) [] r.2 _ _ hr (by omega) (by simp;omega) rfl (by simp[dpL]) (by simp[ndL]) (by simp[szL]) (by omega)
  unfold F72 SM;refine Ok.bind (dt n c 9 hc) fun r ⟨hr,r0,r1,_⟩=> ?_
  have r1:=r1 (by omega)
  refine Ok.ite (fun h0=> ?_) fun h0=> ?_
  ·simp at h0;refine Ok.bind (jV n r.2 2 hr) fun b hb=> ?_
   refine Ok.ite (fun _=> ?_) fun _=> ?_
   ·refine Ok.bind (dt n b.2 2 hb) fun q ⟨hq,q0,q1,_⟩=> ?_
    have q1:=q1 (by omega)
    rw[bZ (by omega) (by omega)]
    refine Ok.pure (Ko hq ?_);have hz:fy 0 ⟨0,0,⟨0,0,ByteArray.empty⟩⟩ ⟨0,0,⟨0,0,ByteArray.empty⟩⟩=true:=yX;have:q.1=0∨q.1=1:=by omega
    rcases this with e|e<;>simp[pV,e,hz]
   ·refine Ok.ite (fun _=>leaf _ _ _ hb) fun h6=> ?_
    simp at h6;omega
  ·refine Ok.ite (fun _=>leaf _ _ _ hr) fun h6=> ?_
   simp at h6;exact inner r.1 r.2 _ h6 (by omega) hr
theorem aik (aE params:List Int) (hk:dX aE=true) (hk':dX params=true) (hcl:aE.length≤100) (hp:params.length≤100) (d n:Nat) (c:aj) (hc:ba c) (hn:1000≤n) (hn':n<4294967296) (hd1:1≤d) (hd:d≤3):
  Ok (F31 n c aE params (d:Int)) fun r=>ba r.2∧kW aE params r.1=0∧szP r.1≤119:=by
 unfold F31 Tg;refine Ok.bind (Mw aE params hk hcl hp d n c hc (by omega) (by omega)) fun r hr=> ?_
 have hs:szP r.1≤119:=(hr.up hd).sz;rw[Yp n aE params r.1 (by omega) (by omega) (by omega) hn',Option.bind_some]
 refine Ok.ite (fun h2=> ?_) fun h2=> ?_
 ·refine Ok.bind (Mw aE params hk hcl hp 1 n r.2 hr.case (by omega) (by omega)) fun q hq=>Ok.pure ⟨hq.case,?_,(hq.up (by omega:1≤3)).sz⟩
  have h1:=hq.nd;have h2:=hq.dp;have e1:¬24<ndP q.1:=by simp[nB] at h1;omega
  have e2:¬8<dpP q.1:=by omega
  simp[kW,hk,hk',e1,e2,hq.val]
 ·refine Ok.pure ⟨hr.case,?_,hs⟩;have:kW aE params r.1=2∨kW aE params r.1=0:=by
   unfold kW;cases decide (24<ndP r.1)||decide (8<dpP r.1)<;>simp[hk,hk',hr.val]
  simp at h2;exact this.resolve_left h2
def bt:List Int→List I→Bool
 | [],[]=>true
 |k::ks,v::vs=>(gY v&&v.ax==k)&&bt ks vs
 |_,_=>false
theorem dD:∀{ks:List Int} {vs:List I},bt ks vs=true→vs.length=ks.length
 | [],[],_=>rfl
 |k::ks,v::vs,h=>by simp[bt] at h;simp[dD h.2]
 | [],_::_,h=>by simp[bt] at h
 |_::_,[],h=>by simp[bt] at h
theorem vf:∀{ks:List Int} {vs:List I} {k:Int} {v:I},bt ks vs=true→v.ax=k→gY v=true→bt (ks++ [k]) (vs++ [v])=true
 | [],[],k,v,_,h1,h2=>by simp[bt,h1,h2]
 |k::ks,v::vs,_,_,h,h1,h2=>by
  simp[bt] at h;simp[bt,h.1,vf h.2 h1 h2]
 | [],_::_,_,_,h,_,_=>by simp[bt] at h
 |_::_,[],_,_,h,_,_=>by simp[bt] at h
theorem Yf (ks:List Int) (hk:dX ks=true) (hl:ks.length≤100) (key:Int) (n0:Nat):∀(xs:List Int) (i m:Nat) (out:List I) (c:aj),ks.drop i=xs→300+xs.length<m→ba c→bt (ks.take i) out=true→
  Ok (uy (B8 n0) m key 1 ks (ks.length:Int) (i:Int) c out) fun r=>ba r.2∧bt ks r.1=true
 | [],i,m+1,out,c,hd,hm,hc,ho=>by
  have:ks.length≤i:=by simpa using hd
  have hq:¬((i:Int)<(ks.length:Int)):=by omega
  simp only[uy,Hn,B8,hq,decide_false,Bool.false_eq_true,if_false];exact Ok.pure ⟨hc,by rwa[List.take_of_length_le this] at ho⟩
 |x::xs,i,m+1,out,c,hd,hm,hc,ho=>by
  obtain ⟨g1,g2,g3⟩:=aO hd;have hq:((i:Int)<(ks.length:Int)):=by omega
  have hx:=mF hk g1;have hkr:=qK hx;have hlen:=dD ho;rw[List.length_take] at hlen;simp only[uy,Hn,hq,decide_true,if_true,aL,g1,Option.bind_some];simp at hm;have cell:Ok (ri (oK (uy (B8 n0) m) m) m key 1 x ks (ks.length:Int) (i:Int) false c out) fun r=>ba r.2∧bt ks r.1=true:=by
   unfold ri oK;simp only[Bool.false_eq_true,if_false];refine Ok.bind (BV m (by omega) c x hc hkr.1 hkr.2) fun r ⟨hr,r1,r2⟩=> ?_
   rw[cD _ _ (by simp;omega),Option.bind_some,bj g3 (by omega)]
   refine Yf ks hk hl key n0 xs (i+1) m _ _ g2 (by omega) hr ?_
   rw[List.take_succ,g1];exact vf ho r1 r2
  refine Ok.ite (fun _=> ?_) fun _=>cell
  exact cell
 |_,_,0,_,_,_,hm,_,_=>by simp at hm
theorem Yu (n:Nat) (hn:1000≤n) (c:aj) (ks:List Int) (key:Int) (hk:dX ks=true) (hl:ks.length≤100) (hc:ba c):Ok (F33 n c ks key 1) fun r=>ba r.2∧bt ks r.1=true:=
 Yf ks hk hl key n ks 0 n [] c rfl (by omega) hc rfl
section
theorem O9 (x y:UInt8) (a b:List UInt8):Op.bytesLess (x::a) (y::b)=(decide (x<y)||(x==y&&Op.bytesLess a b)):=by simp[Op.bytesLess]
theorem qW:∀{a b:List UInt8},Op.bytesLess a b=true→Op.bytesLess b a=false
 | [],[],h=>by simp[Op.bytesLess] at h
 | [],_::_,_=>by simp[Op.bytesLess]
 |_::_,[],h=>by simp[Op.bytesLess] at h
 |x::a,y::b,h=>by
  rw[O9] at h ⊢;by_cases h1:x<y
  ·have h2:¬y<x:=fun h2=>UInt8.lt_irrefl x (UInt8.lt_trans h1 h2)
   have h3:¬y=x:=fun e=>by subst e;exact UInt8.lt_irrefl _ h1
   simp[h2,h3]
  ·by_cases h3:x=y
   ·subst h3;simp[UInt8.lt_irrefl] at h ⊢;exact qW h
   ·simp[h1,h3] at h
theorem qV:∀{a b:List UInt8},Op.bytesLess a b=false→a≠b→Op.bytesLess b a=true
 | [],[],_,h=>absurd rfl h
 | [],_::_,h,_=>by simp[Op.bytesLess] at h
 |_::_,[],_,_=>by simp[Op.bytesLess]
 |x::a,y::b,h,hne=>by
  rw[O9] at h ⊢;by_cases h1:x<y
  ·simp[h1] at h
  ·by_cases h2:y<x
   ·simp[h2]
   ·have:x=y:=UInt8.le_antisymm (UInt8.not_lt.1 h2) (UInt8.not_lt.1 h1);subst this;simp[UInt8.lt_irrefl] at h ⊢;exact qV h (fun e=>hne (by rw[e]))
theorem YD (a b:I):iT b a= - iT a b:=by
 unfold iT;by_cases h1:a.ax<b.ax
 ·have:¬b.ax<a.ax:=by omega
  simp[h1,this]
 ·by_cases h2:b.ax<a.ax
  ·simp[h1,h2]
  ·by_cases h3:a.bQ<b.bQ
   ·have:¬b.bQ<a.bQ:=by omega
    simp[h1,h2,h3,this]
   ·by_cases h4:b.bQ<a.bQ
    ·simp[h1,h2,h3,h4]
    ·cases h5:Op.bytesLess a.bq.toList b.bq.toList with
     |true=>
      have h6:=qW h5;have h7:¬b.bq=a.bq:=fun e=>by rw[e,gU] at h5;cases h5
      simp[h1,h2,h3,h4,h6,h7]
     |false=>
      by_cases h6:a.bq=b.bq
      ·simp[h1,h2,h3,h4,h6,gU]
      ·have h7:Op.bytesLess b.bq.toList a.bq.toList=true:=qV h5 (fun e=>h6 (nR (by rw[lK,lK] at e;exact e)))
       simp[h1,h2,h3,h4,h6,h7]
theorem PC (a b:I):iT a b= -1∨iT a b=0∨iT a b=1:=by
 unfold iT;repeat' split
 all_goals simp
def dx:List I→List I→Int
 | [],[]=>0
 | [],_::_=> -1
 |_::_,[]=>1
 |a::x,b::y=>if iT a b=0 then dx x y else iT a b
theorem ta:∀(x y:List I),dx y x= - dx x y
 | [],[]=>rfl
 | [],_::_=>rfl
 |_::_,[]=>rfl
 |a::x,b::y=>by
  have h:=YD a b;simp only[dx];rw[ta x y,h];by_cases h1:iT a b=0
  ·simp[h1]
  ·have:¬ -iT a b=0:=by omega
   simp[h1,this]
theorem Ap:∀(x y:List I),dx x y= -1∨dx x y=0∨dx x y=1
 | [],[]=>by simp[dx]
 | [],_::_=>by simp[dx]
 |_::_,[]=>by simp[dx]
 |a::x,b::y=>by
  simp only[dx];split
  ·exact Ap x y
  ·exact PC a b
theorem vk (x:List I):dx x x=0:=by have:=ta x x;omega
theorem Yh (n0:Nat) (a b:List I) (ha:a.length<4294967296):∀(x:List I) (i m:Nat),a.drop i=x→i≤a.length→i≤b.length→x.length<m→xV (Ca n0) m a b (i:Int)=some (dx (a.drop i) (b.drop i))
 | [],i,m+1,hd,h1,h2,hm=>by
  have hl:a.length≤i:=by simpa using hd
  have hq:¬((i:Int)<(a.length:Int)):=by omega
  simp only[xV,Hv,Ca,hq,decide_false,Bool.false_eq_true,if_false];rw[hd];cases hb:b.drop i with
  |nil=>
   have:b.length≤i:=by simpa using hb
   have e1:¬(a.length:Int)<b.length:=by omega
   have e2:¬(b.length:Int)<a.length:=by omega
   simp[e1,e2,dx]
  |cons y l=>
   obtain ⟨_,_,g3⟩:=aO hb;have e1:(a.length:Int)<b.length:=by omega
   simp[e1,dx]
 |x::xs,i,m+1,hd,h1,h2,hm=>by
  obtain ⟨g1,g2,g3⟩:=aO hd;have hq:(i:Int)<(a.length:Int):=by omega
  simp only[xV,Hv,hq,decide_true,if_true];cases hb:b.drop i with
  |nil=>
   have hl:b.length≤i:=by simpa using hb
   have e0:¬(i:Int)<b.length:=by omega
   have e1:¬(a.length:Int)<b.length:=by omega
   have e2:(b.length:Int)<a.length:=by omega
   simp[e0,e1,e2,Ca,hd,dx]
  |cons y l=>
   obtain ⟨k1,k2,k3⟩:=aO hb;have e0:(i:Int)<b.length:=by omega
   simp only[e0,decide_true,if_true,aL,g1,k1,Option.bind_some,ahX];rw[hd,bj g3 ha];simp only[dx];by_cases h:iT x y=0
   ·simp only[h,bne_self_eq_false,Bool.false_eq_true,if_false,if_true];rw[Yh n0 a b ha xs (i+1) m g2 (by omega) (by omega) (by simp at hm;omega),g2,k2]
   ·have:(iT x y !=0)=true:=by simpa using h
    simp only[this,h,if_true,if_false]
 |_,_,0,_,_,_,hm=>by simp at hm
theorem kI (n:Nat) (a b:List I) (ha:a.length<4294967296) (hn:a.length<n):F22 n a b=some (dx a b):=by
 have:=Yh n a b ha a 0 n rfl (by omega) (by omega) hn
 simp only[List.drop_zero] at this;exact this
theorem X0 (n0:Nat) (a b:List I) (ha:a.length<4294967296):∀(x:List I) (i m:Nat),a.drop i=x→i≤a.length→i≤b.length→x.length<m→ui (BX n0) m a b a (a.length:Int) (i:Int)=some (dx (a.drop i) (b.drop i))
 | [],i,m+1,hd,h1,h2,hm=>by
  have hl:a.length≤i:=by simpa using hd
  have hq:¬((i:Int)<(a.length:Int)):=by omega
  simp only[ui,Gc,BX,hq,decide_false,Bool.false_eq_true,if_false];rw[hd];cases hb:b.drop i with
  |nil=>
   have:b.length≤i:=by simpa using hb
   have e1:¬(a.length:Int)<b.length:=by omega
   simp[e1,dx]
  |cons y l=>
   obtain ⟨_,_,g3⟩:=aO hb;have e1:(a.length:Int)<b.length:=by omega
   simp[e1,dx]
 |x::xs,i,m+1,hd,h1,h2,hm=>by
  obtain ⟨g1,g2,g3⟩:=aO hd;have hq:(i:Int)<(a.length:Int):=by omega
  simp only[ui,Gc,hq,decide_true,if_true,aL,g1,Option.bind_some];cases hb:b.drop i with
  |nil=>
   have hl:b.length≤i:=by simpa using hb
   have e0:¬(i:Int)<b.length:=by omega
   simp[e0,hd,dx]
  |cons y l=>
   obtain ⟨k1,k2,k3⟩:=aO hb;have e0:(i:Int)<b.length:=by omega
   simp only[e0,decide_true,Bool.not_true,Bool.false_eq_true,if_false,k1,Option.bind_some,ahN];rw[hd,bj g3 ha];simp only[dx];by_cases h:iT x y=0
   ·simp only[h,bne_self_eq_false,Bool.false_eq_true,if_false,if_true];rw[X0 n0 a b ha xs (i+1) m g2 (by omega) (by omega) (by simp at hm;omega),g2,k2]
   ·have:(iT x y !=0)=true:=by simpa using h
    simp only[this,h,if_true,if_false]
 |_,_,0,_,_,_,hm=>by simp at hm
theorem wx (n:Nat) (a b:List I) (ha:a.length<4294967296) (hn:a.length<n):F52 n a b=some (dx a b):=by
 have:=X0 n a b ha a 0 n rfl (by omega) (by omega) hn
 simp only[List.drop_zero] at this;show (ui (BX n) n a b a (a.length:Int) 0).bind (fun x=>some x)=_
 rw[show (0:Int)=((0:Nat):Int) from rfl,this];rfl
def gX (t:Int) (a:List I) (u:Int) (b:List I):Int:=if t=u then dx a b else if t<u then -1 else 1
theorem aaE (t:Int) (a:List I) (u:Int) (b:List I):gX u b t a= - gX t a u b:=by
 unfold gX;by_cases h:t=u
 ·subst h;simp[ta a b]
 ·have h':¬u=t:=fun e=>h e.symm
  by_cases h2:t<u
  ·have:¬u<t:=by omega
   simp[h,h',h2,this]
  ·have:u<t:=by omega
   simp[h,h',h2,this]
theorem R1 (t:Int) (a:List I) (u:Int) (b:List I):gX t a u b= -1∨gX t a u b=0∨gX t a u b=1:=by
 unfold gX;split
 ·exact Ap a b
 ·split<;>simp
theorem Yt (n:Nat) (t u:Int) (a b:List I) (ha:a.length<4294967296) (hn:a.length<n):F36 n t a u b=some (gX t a u b):=by
 unfold F36 Tc gX;rw[kI n a b ha hn];by_cases h:t=u
 ·simp[h]
 ·have:(t !=u)=true:=by simpa using h
  by_cases h2:t<u<;>simp[h,h2]
theorem aic (n:Nat) (a b:ak) (ha:a.av.length<4294967296) (hn:a.av.length<n):F42 n a b=some (gX a.ar a.av b.ar b.av):=by
 unfold F42 S6 gX;rw[wx n a.av b.av ha hn];by_cases h:a.ar=b.ar
 ·simp[h]
 ·by_cases h2:a.ar<b.ar<;>simp[h,h2]
def aZ (T:ai):List Int:=T.af.map (·.ax)
theorem pG {α:Type} {xs:List α} {i:Int} {x:α} (h:idx xs i=some x):0≤i∧i.toNat<xs.length∧xs[i.toNat]? =some x:=by
 unfold idx at h;split at h
 ·exact ⟨by assumption,(List.getElem?_eq_some_iff.1 h).1,h⟩
 ·cases h
theorem Yg (n0:Nat) (cs:List aS) (hl:cs.length≤1000):∀(x:List aS) (i m:Nat) (out:List Int),cs.drop i=x→x.length<m→out=(cs.take i).map (·.ax)→xT (Ho n0) m cs (cs.length:Int) (i:Int) out=some (cs.map (·.ax))
 | [],i,m+1,out,hd,hm,ho=>by
  have hl:cs.length≤i:=by simpa using hd
  have hq:¬((i:Int)<(cs.length:Int)):=by omega
  simp only[xT,Hq,Ho,hq,decide_false,Bool.false_eq_true,if_false];rw[ho,List.take_of_length_le hl]
 |x::xs,i,m+1,out,hd,hm,ho=>by
  obtain ⟨g1,g2,g3⟩:=aO hd;have hq:(i:Int)<(cs.length:Int):=by omega
  simp only[xT,Hq,hq,decide_true,if_true,aL,g1,Option.bind_some];rw[cD _ _ (by rw[ho];simp;omega),Option.bind_some,bj g3 (by omega)]
  refine Yg n0 cs hl xs (i+1) m _ g2 (by simp at hm;omega) ?_
  rw[ho,List.take_succ,g1];simp
 |_,_,0,_,_,hm,_=>by simp at hm
theorem X4 (n0:Nat) (cs:List aS) (hl:cs.length≤1000):∀(x:List aS) (i m:Nat) (out:List Int),cs.drop i=x→x.length<m→out=(cs.take i).map (·.ax)→xB (Gu n0) m cs (cs.length:Int) (i:Int) out=some (cs.map (·.ax))
 | [],i,m+1,out,hd,hm,ho=>by
  have hl:cs.length≤i:=by simpa using hd
  have hq:¬((i:Int)<(cs.length:Int)):=by omega
  simp only[xB,Gv,Gu,hq,decide_false,Bool.false_eq_true,if_false];rw[ho,List.take_of_length_le hl]
 |x::xs,i,m+1,out,hd,hm,ho=>by
  obtain ⟨g1,g2,g3⟩:=aO hd;have hq:(i:Int)<(cs.length:Int):=by omega
  simp only[xB,Gv,hq,decide_true,if_true,aL,g1,Option.bind_some];rw[cD _ _ (by rw[ho];simp;omega),Option.bind_some,bj g3 (by omega)]
  refine X4 n0 cs hl xs (i+1) m _ g2 (by simp at hm;omega) ?_
  rw[ho,List.take_succ,g1];simp
 |_,_,0,_,_,hm,_=>by simp at hm
section
variable {s:aa} {t:Int} {T:ai} {n:Nat}
theorem DE {α:Type} {xs:List α} {i:Int} (h0:0≤i) (h:¬i<(xs.length:Int)):idx xs i=none:=by
 unfold idx;rw[if_pos h0,List.getElem?_eq_none (by omega)]
theorem BU (hT:idx s.J t=some T):F81 n s t=some true:=by
 obtain ⟨h0,h1,_⟩:=pG hT;have e1:¬t<0:=by omega
 have e2:t<(s.J.length:Int):=by omega
 simp[F81,SF,e1,e2]
theorem sJ (hT:idx s.J t=some T) (hl:T.af.length≤1000) (hn:1000<n):F32 n s t=some (aZ T):=by
 obtain ⟨h0,h1,_⟩:=pG hT;have e1:¬t<0:=by omega
 have e2:t<(s.J.length:Int):=by omega
 simp only[F32,Te,e1,e2,decide_false,decide_true,Bool.not_true,Bool.false_eq_true,if_false,hT,Option.bind_some];exact Yg n T.af hl T.af 0 n [] rfl (by omega) rfl
theorem Mv (hT:idx s.J t=some T) (hl:T.af.length≤1000) (hn:1000<n):F78 n s t=some (aZ T):=by
 simp only[F78,SJ,BU hT,Option.bind_some,Bool.not_true,Bool.false_eq_true,if_false,hT];have:pc (T.af.length:Int) (0:Int)=some (List.replicate T.af.length 0):=by simp[pc];omega
 rw[this,Option.bind_some];exact X4 n T.af hl T.af 0 n [] rfl (by omega) rfl
structure cI (T:ai):Prop where
 jG:1≤T.av
 bS:T.av≤(T.af.length:Int)
 aE:T.af.length≤8
 ks:dX (aZ T)=true
def kZ (T:ai):List Int:=(aZ T).take T.av.toNat
theorem cr (T:ai):(aZ T).length=T.af.length:=by simp[aZ]
theorem aie (hT:idx s.J t=some T) (ht:cI T) (hn:1000<n):F40 n s t=some (kZ T):=by
 have:=ht.aE;have h1:=ht.jG;have h2:=ht.bS;have hl:=cr T;have e1:¬T.av<0:=by omega
 have e2:¬((aZ T).length:Int)<T.av:=by omega
 simp only[F40,S8,Mv hT (by omega) hn,BU hT,Option.bind_some,Bool.not_true,Bool.false_eq_true,if_false,hT,e1,e2,decide_false]
 have:hJ (aZ T).length T.av=some T.av.toNat:=by unfold hJ;rw[if_pos (by omega)]
 rw[this,Option.bind_some];rfl
theorem Bv {α:Type} {xs:List α} {k:Int} (h0:0≤k) (h:k.toNat≤xs.length):cut xs none (some k)=some (xs.take k.toNat):=by
 obtain ⟨m,rfl⟩:∃m:Nat,k=m:=⟨k.toNat,by omega⟩
 simp at h;simp[cut,h]
theorem afE (hT:idx s.J t=some T) (ht:cI T) (hn:1000<n):Sq n s t=some (kZ T):=by
 have:=ht.aE;have h1:=ht.jG;have h2:=ht.bS;have hl:=cr T;have e0:(aZ T).isEmpty=false:=by
  cases h:aZ T with
  |nil=>rw[h] at hl;simp at hl;omega
  |cons=>rfl
 have e2:¬((aZ T).length:Int)<T.av:=by omega
 have e3:0<T.av:=by omega
 simp only[Sq,MY,sJ hT (by omega) hn,Option.bind_some,e0,Bool.false_eq_true,if_false,hT,e2,e3,if_true]
 rw[Bv (by omega) (by omega),Option.bind_some]
 rfl
theorem jU (r:List I) (h:r.length≤1000000):F54 n r=some r:=by
 simp only[F54,S0];rw[cD _ _ (by simpa using h)]
 rfl
theorem nD (hT:idx s.J t=some T) (ht:cI T) (r:List I) (hr:r.length=T.af.length):F34 n s t r=some (r.take T.av.toNat):=by
 obtain ⟨h0,h1,_⟩:=pG hT;have:=ht.aE;have k1:=ht.jG;have k2:=ht.bS;have e1:¬t<0:=by omega
 have e2:t<(s.J.length:Int):=by omega
 have e3:¬(r.length:Int)<T.av:=by omega
 have e4:0<T.av:=by omega
 simp only[F34,Td,e1,e2,decide_false,decide_true,Bool.not_true,Bool.false_eq_true,if_false,hT,Option.bind_some,e3,e4,if_true];rw[Bv (by omega) (by omega),Option.bind_some,jU _ (by simp;omega)]
 rfl
theorem ahS (hT:idx s.J t=some T) (ht:cI T) (r:List I) (hr:r.length=T.af.length):F82 n s t r=some (r.take T.av.toNat):=by
 have:=ht.aE;have k1:=ht.jG;have k2:=ht.bS;have e3:¬(r.length:Int)<T.av:=by omega
 have e4:¬T.av<0:=by omega
 simp only[F82,SE,BU hT,Option.bind_some,Bool.not_true,Bool.false_eq_true,if_false,hT,e3,e4,decide_false];rw[Bv (by omega) (by omega),Option.bind_some,cD _ _ (by simp;omega),Option.bind_some]
 rfl
end
theorem Ye (n0:Nat) (ks:List Int) (r:List I) (hr:r.length=ks.length) (hl:r.length<4294967296):∀(x:List I) (i m:Nat),r.drop i=x→i≤r.length→x.length<m→xQ (Hb n0) m ks r (r.length:Int) (i:Int)=some (bt (ks.drop i) (r.drop i))
 | [],i,m+1,hd,h1,hm=>by
  have hq':r.length≤i:=by simpa using hd
  have hq:¬((i:Int)<(r.length:Int)):=by omega
  simp only[xQ,Hc,Hb,hq,decide_false,Bool.false_eq_true,if_false];rw[hd,List.drop_of_length_le (by omega)]
  rfl
 |x::xs,i,m+1,hd,h1,hm=>by
  obtain ⟨g1,g2,g3⟩:=aO hd;have hq:(i:Int)<(r.length:Int):=by omega
  obtain ⟨k,ks',hk⟩:∃k ks',ks.drop i=k::ks':=by
   rw[List.drop_eq_getElem_cons (by omega)]
   exact ⟨_,_,rfl⟩
  obtain ⟨k1,k2,k3⟩:=aO hk;simp only[xQ,Hc,hq,decide_true,if_true,aL,g1,k1,Option.bind_some,Yo];rw[hd,hk,bj g3 hl];simp only[bt];cases hv:gY x with
  |false=>simp
  |true=>
   by_cases he:x.ax=k
   ·simp only[he,bne_self_eq_false,Bool.not_true,Bool.false_eq_true,if_false,beq_self_eq_true,Bool.true_and];rw[Ye n0 ks r hr hl xs (i+1) m g2 (by omega) (by simp at hm;omega),g2,k2]
   ·simp[he]
 |_,_,0,_,_,hm=>by simp at hm
theorem r7 {ks:List Int} {r:List I} (h:¬r.length=ks.length):bt ks r=false:=by
 cases hr:bt ks r with
 |false=>rfl
 |true=>exact absurd (dD hr) h
theorem Ys (n:Nat) (r:List I) (ks:List Int) (hl:ks.length<n) (hk:ks.length<4294967296):F39 n r ks=some (bt ks r):=by
 unfold F39 S9;by_cases h:r.length=ks.length
 ·have e:((r.length:Int) !=(ks.length:Int))=false:=by simp[h]
  rw[e];simp only[Bool.false_eq_true,if_false];have:=Ye n ks r h (by omega) r 0 n rfl (by omega) (by omega)
  simpa using this
 ·have e:((r.length:Int) !=(ks.length:Int))=true:=by simp;omega
  rw[e,r7 h];rfl
theorem tr {v:I} {k:Int} (hk:kOK k=true) (h:v.ax=k):gY v=eE v:=by
 have:=qK hk;have:3≤v.ax:=by omega
 simp[gY,this]
theorem Xn {l:List Int} (h:dX l=true) (i:Nat):dX (l.take i)=true:=by
 unfold dX at h ⊢;rw[List.all_eq_true] at h ⊢;exact fun x hx=>h x (List.mem_of_mem_take hx)
theorem X3 (n0:Nat) (ks:List Int) (hks:dX ks=true) (r:List I) (hr:r.length=ks.length) (hl:r.length<4294967296):∀(x:List I) (i m:Nat),r.drop i=x→i≤r.length→x.length<m→xx (Gj n0) m ks r (r.length:Int) (i:Int)=some (bt (ks.drop i) (r.drop i))
 | [],i,m+1,hd,h1,hm=>by
  have hq':r.length≤i:=by simpa using hd
  have hq:¬((i:Int)<(r.length:Int)):=by omega
  simp only[xx,Gk,Gj,hq,decide_false,Bool.false_eq_true,if_false];rw[hd,List.drop_of_length_le (by omega)]
  rfl
 |x::xs,i,m+1,hd,h1,hm=>by
  obtain ⟨g1,g2,g3⟩:=aO hd;have hq:(i:Int)<(r.length:Int):=by omega
  obtain ⟨k,ks',hk⟩:∃k ks',ks.drop i=k::ks':=by
   rw[List.drop_eq_getElem_cons (by omega)]
   exact ⟨_,_,rfl⟩
  obtain ⟨k1,k2,k3⟩:=aO hk;have hkk:=mF hks k1;simp only[xx,Gk,hq,decide_true,if_true,aL,g1,k1,Option.bind_some,wq];rw[hd,hk,bj g3 hl];simp only[bt];by_cases he:x.ax=k
  ·rw[tr hkk he];cases hv:eE x with
   |false=>simp
   |true=>
    simp only[he,bne_self_eq_false,Bool.not_true,Bool.false_eq_true,if_false,beq_self_eq_true,Bool.true_and];rw[X3 n0 ks hks r hr hl xs (i+1) m g2 (by omega) (by simp at hm;omega),g2,k2]
  ·cases eE x<;>simp[he]
 |_,_,0,_,_,hm=>by simp at hm
section
variable {s:aa} {t:Int} {T:ai} {n:Nat}
theorem zi (ht:cI T):(kZ T).length=T.av.toNat:=by
 have h1:=ht.jG;have h2:=ht.bS;simp[kZ,cr];omega
theorem ahP (hT:idx s.J t=some T) (ht:cI T) (r:List I) (hn:1000<n):F85 n s t r=some (bt (kZ T) r):=by
 have hc:=ht.aE;have hl:=zi ht;have h1:=ht.jG;have h2:=ht.bS;simp only[F85,SB,afE hT ht hn,Option.bind_some];by_cases h:r.length=(kZ T).length
 ·have e:(((kZ T).length:Int) !=(r.length:Int))=false:=by simp[h]
  rw[e];simp only[Bool.false_eq_true,if_false];have:=X3 n (kZ T) (Xn ht.ks _) r h (by omega) r 0 n rfl (by omega) (by omega)
  simpa using this
 ·have e:(((kZ T).length:Int) !=(r.length:Int))=true:=by simp;omega
  rw[e,r7 h];rfl
end
end
end Go.Proofs.YtmealahmjddpcaaGreatDoor
end
