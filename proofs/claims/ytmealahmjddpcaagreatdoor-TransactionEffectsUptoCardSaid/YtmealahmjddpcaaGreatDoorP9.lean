/- Texts that belong together. The first: Functions of the program as plain functions, and that the program answers as they do; written by a program (comp2.py). -/
import Derived.Test.YtmealahmjddpcaaGreatDoorP8
import Derived.KernelRfl
set_option linter.all false
set_option maxRecDepth 100000
noncomputable section
namespace Go.Proofs.YtmealahmjddpcaaGreatDoor
open Go.Sim
def abm (r:(List Int)):AV:=.ms 200000 1 0 r.length
def V2 (r:(List Int)):List (Nat×Bx):= [(200000,.rows true 3 1 (bj r))]
def x32:=fx E0 Tryz.f32 [] [200000]
def A32:=Ax x32 abm V2
def C32:=Cx E0 32 abm V2
def Io (t22:List bl) (t23 t24:Int) (b32:List Int):LS:=⟨[(5,.ms 32 1 0 b32.length),(22,.slice 77 2 (jO t22)),(23,.int .i64 t23),(24,.int .i64 t24)],[(32,.rows true 3 1 (bj b32))]⟩
def Im (b32:List Int):LS:=⟨[(5,.ms 32 1 0 b32.length)],[(32,.rows true 3 1 (bj b32))]⟩
def Ug (s0:ag) (aS:Int):LS:=⟨[(0,.agg (bf s0)),(1,.int .i64 aS)],[]⟩
def G1 (k_1 : (List Int) → Option (List Int)) (back : (List bl) → Int → Int → (List Int) → Option (List Int)) (n : Nat) (t22 : List bl) (t23 t24 : Int) (b32 : List Int) : Option (List Int) :=
 if decide (t24 < t23) then
 (idx t22 t24).bind fun x2 =>
 (app b32 [x2.aD]).bind fun x11 =>
 back t22 t23 (w64 (t24 + 1)) x11
 else
 k_1 b32
theorem ajY {k_1} (aK : K1 (A32 [1, 1, 1, 1]) Im k_1) {back} (aE : K4 (A32 [0, 1, 0, 1, 1, 1]) Io back) (n : Nat) : K4 (A32 [0, 1, 0, 1, 1, 1]) Io (G1 k_1 back n) := fun t22 t23 t24 b32 r h =>
 ie h (fun c0 h =>
 be h fun x2 hx2 h =>
 be h fun x11 cm h =>
 ra (aE h) [(0, eb c0), (0, R76.idx hx2), (7, R3.app cm (R3.srW [x2.aD]))]) (fun c0 h =>
 ra (aK h) [(0, eb c0)])
def xL (k_1:(List Int)→Option (List Int)):Nat→(List bl)→Int→Int→(List Int)→Option (List Int)
 |0,_,_,_,_=>none
 |n+1,t22,t23,t24,b32=>G1 k_1 (xL k_1 n) n t22 t23 t24 b32
theorem acg {k_1} (aK:K1 (A32 [1,1,1,1]) Im k_1):∀n:Nat,K4 (A32 [0,1,0,1,1,1]) Io (xL k_1 n)
 |0=>fun _ _ _ _ _ h=>nz h
 |n+1=>fun _ _ _ _ _ h=>ajY aK (acg aK n) n h
def G0 (n : Nat) (b32 : List Int) : Option (List Int) :=
 some b32
theorem ajX (n : Nat) : K1 (A32 [1, 1, 1, 1]) Im (G0 n) := fun b32 r h =>
 rr h [(2, .ren 32 200000)]
def SW (n : Nat) (s0 : ag) (aS : Int) : Option (List Int) :=
 if decide (aS < 0) then
 some []
 else
 if !decide (aS < (s0.ah.length : Int)) then
 some []
 else
 (idx s0.ah aS).bind fun x16 =>
 xL (G0 n) n x16.aq (x16.aq.length : Int) 0 []
theorem ajW (n : Nat) : K2 (A32 []) Ug (SW n) := fun s0 aS r h =>
 ie h (fun c0 h =>
 rr h [(3, eb c0), (3, .born [4] [] 200000 true 3 1)]) (fun c0 h =>
 ie h (fun c1 h =>
 rr h [(3, eb c0), (4, .eqv (R62.az s0.ah)), (0, eb c1), (2, .born [4] [] 200000 true 3 1)]) (fun c1 h =>
 be h fun x16 cU h =>
 ra (acg (ajX n) n h) [(3, eb c0), (4, .eqv (R62.az s0.ah)), (0, eb c1), (5, R62.idx cU), (2, .eqv (R76.az x16.aq)), (1, .born [5] [] 32 true 3 1)]))
def F32 (n:Nat) (s0:ag) (aS:Int):Option (List Int):=SW n s0 aS
theorem Kx (n:Nat):K2 C32 Ug (F32 n):=fun _ _ _ h=>ca (X:=x32) (ajW n h)
def res9 (r:(ag×an)):AV:=.agg (bf r.1)
def abC (r:(ag×an)):List (Nat×Bx):= [(0,.flat 74 (bE r.2))]
def x9:=fx E0 Tryz.f9 [0] [0]
def A9:=Ax x9 res9 abC
def C9:=Cx E0 9 res9 abC
def ahx (b0:an) (b2 b5:ag) (b32:List au):LS:=⟨[(0,.loc 0 0),(2,.loc 2 0),(5,.loc 5 0)],[(0,.flat 74 (bE b0)),(2,.flat 26 [.int .i64 0,.aR]),(5,.flat 26 [.int .i64 b5.bM,.ms 32 5 0 b32.length]),(32,.rows false 63 5 (cZ b32))]⟩
def ahw (n3:Int) (b0:an) (b2 b5:ag) (b32:List au):LS:=⟨[(0,.loc 0 0),(2,.loc 2 0),(3,.int .i64 n3),(5,.loc 5 0)],[(0,.flat 74 (bE b0)),(2,.flat 26 [.int .i64 0,.aR]),(5,.flat 26 [.int .i64 b5.bM,.ms 32 5 0 b32.length]),(32,.rows false 63 5 (cZ b32))]⟩
def ahv (n3:Int) (b0:an) (b2 b5:ag) (b32:List au):LS:=⟨[(0,.loc 0 0),(2,.loc 2 0),(3,.int .i64 n3),(5,.loc 5 0)],[(0,.flat 74 (bE b0)),(2,.flat 26 [.int .i64 0,.aR]),(5,.flat 26 [.int .i64 b5.bM,.ms 32 5 0 b32.length]),(32,.rows false 63 5 (cZ b32))]⟩
def ahu (n3 id4:Int) (b0:an) (b2:ag):LS:=⟨[(0,.loc 0 0),(2,.loc 2 0),(3,.int .i64 n3),(4,.int .i64 id4)],[(0,.flat 74 (bE b0)),(2,.flat 26 [.int .i64 0,.aR])]⟩
def aap (c0:an):LS:=⟨[(0,.loc 0 0)],[(0,.flat 74 (bE c0))]⟩
def zD (n : Nat) (b0 : an) (b2 b5 : ag) (b32 : List au) : Option (ag × an) :=
 (F29 n b0 3).bind fun x2 =>
 if x2.1 then
 (F32 n (ag.mk b5.bM b32) 1).bind fun x8 =>
 (F31 n x2.2 x8 [] 1).bind fun x10 =>
 (bnd b32.length 1).bind fun x13 =>
 (b32[0 + x13]?).bind fun x16 =>
 (setAt b32 (0 + x13) (au.mk x16.cG x16.aq x16.aA x16.bQ [x10.1])).bind fun z18 =>
 some ((ag.mk b5.bM z18), x10.2)
 else
 some ((ag.mk b5.bM b32), x2.2)
theorem Z7 (n : Nat) : K4 (A9 [1, 1, 1, 1, 1, 1, 1, 1, 1]) ahx (zD n) := fun b0 b2 b5 b32 r h =>
 be h fun x2 hx2 h =>
 ie h (fun c0_ h =>
 be h fun x8 hx8 h =>
 be h fun x10 dr h =>
 be h fun x13 bS h =>
 be h fun x16 cU h =>
 be h fun z18 DC h =>
 rr h [(1, .call (cb (fH n hx2) c0_) [] [(0, 0)] []), (4, .call (cd (e := 3) (z := true) (Q := bj x8) (bC.lend (k := 700000) (z := false) (e := 63) (s := 5) (Q := cZ b32) (n := b32.length) (xs := [.agg [.int .i64 b5.bM, .ms 700000 5 0 b32.length], .int .i64 1]) (Kx n hx8) (by kernel_rfl) (R62.len b32) (by kernel_rfl) (by kernel_rfl) (R3.oL (fun _ => by kernel_rfl) x8)) (R3.len x8)) [] [(32, 700000)] []), (0, .call (ev31 n dr) [.one .same, .one (.sl 0 0), .one (.sl 3 1)] [(0, 0)] []), (0, .laid (congrArg (fun q_ => Bx.rows false 84 13 q_) (R83.map [x10.1]).symm)), (0, fu bS), (1, R62.hol 4 cU), (0, R83.frz 82 [x10.1]), (0, R62.clo 32 4 (.slice 84 13 (fZ [x10.1])) .undef cU DC (by kernel_rfl)), (2, .seq 77 (congrArg (fun n_ => (AV.ms 32 5 0 n_)) ((eP DC).symm))), (0, .seq 79 (congrArg (fun n_ => (AV.agg [.int .i64 b5.bM, .ms 32 5 0 n_])) ((eP DC).symm))), (0, .seq 85 (congrArg (fun n_ => (AV.agg [.int .i64 b5.bM, .ms 32 5 0 n_])) ((eP DC).symm))), (0, .beq 2 (congrArg (fun n_ => (Bx.flat 26 [.int .i64 b5.bM, .ms 32 5 0 n_])) ((eP DC).symm))), (0, .beq 5 (congrArg (fun n_ => (Bx.flat 26 [.int .i64 b5.bM, .ms 32 5 0 n_])) ((eP DC).symm))), (0, R62.frz 32 z18)]) (fun c0_ h =>
 rr h [(1, .call (cb (fH n hx2) c0_) [] [(0, 0)] []), (2, R62.frz 32 b32)])
def wA (n : Nat) (n3 : Int) (b0 : an) (b2 b5 : ag) (b32 : List au) : Option (ag × an) :=
 if decide (3 < n3) then
 (F29 n b0 3).bind fun x5 =>
 if x5.1 then
 (bnd b32.length 3).bind fun x13 =>
 (b32[0 + x13]?).bind fun x16 =>
 (setAt b32 (0 + x13) (au.mk x16.cG x16.aq x16.aA [(aU.mk [0] 1)] x16.dk)).bind fun z17 =>
 zD n x5.2 (ag.mk 0 []) (ag.mk b5.bM z17) z17
 else
 zD n x5.2 (ag.mk 0 []) (ag.mk b5.bM b32) b32
 else
 zD n b0 (ag.mk 0 []) (ag.mk b5.bM b32) b32
theorem Z6 (n : Nat) : K5 (A9 [1, 1, 1, 1, 1, 1, 1, 1]) ahw (wA n) := fun n3 b0 b2 b5 b32 r h =>
 ie h (fun c0_ h =>
 be h fun x5 hx5 h =>
 ie h (fun c1 h =>
 be h fun x13 bS h =>
 be h fun x16 cU h =>
 be h fun z17 J6 h =>
 ra (Z7 n h) [(1, eb c0_), (2, .call (cb (fH n hx5) c1) [] [(0, 0)] []), (5, R3.frz 69 [0]), (1, fu bS), (1, R79.frz 71 [(aU.mk [0] 1)]), (0, R62.sto 3 [.slice 80 2 (ke [(aU.mk [0] 1)])] cU J6 (by kernel_rfl)), (0, .beq 5 (congrArg (fun n_ => (Bx.flat 26 [.int .i64 b5.bM, .ms 32 5 0 n_])) ((eP J6).symm)))]) (fun c1 h =>
 ra (Z7 n h) [(1, eb c0_), (2, .call (cb (fH n hx5) c1) [] [(0, 0)] [])])) (fun c0_ h =>
 ra (Z7 n h) [(1, eb c0_)])
def zC (n : Nat) (n3 : Int) (b0 : an) (b2 b5 : ag) (b32 : List au) : Option (ag × an) :=
 if decide (2 < n3) then
 (F29 n b0 3).bind fun x5 =>
 if x5.1 then
 (bnd b32.length 2).bind fun x13 =>
 (b32[0 + x13]?).bind fun x16 =>
 (setAt b32 (0 + x13) (au.mk x16.cG x16.aq x16.aA [(aU.mk [0] 0)] x16.dk)).bind fun z17 =>
 wA n n3 x5.2 (ag.mk 0 []) (ag.mk b5.bM z17) z17
 else
 wA n n3 x5.2 (ag.mk 0 []) (ag.mk b5.bM b32) b32
 else
 wA n n3 b0 (ag.mk 0 []) (ag.mk b5.bM b32) b32
theorem b9_2 (n : Nat) : K5 (A9 [1, 1, 1, 1, 1, 1, 1]) ahv (zC n) := fun n3 b0 b2 b5 b32 r h =>
 ie h (fun c0_ h =>
 be h fun x5 hx5 h =>
 ie h (fun c1 h =>
 be h fun x13 bS h =>
 be h fun x16 cU h =>
 be h fun z17 J6 h =>
 ra (Z6 n h) [(1, eb c0_), (2, .call (cb (fH n hx5) c1) [] [(0, 0)] []), (5, R3.frz 56 [0]), (1, fu bS), (1, R79.frz 58 [(aU.mk [0] 0)]), (0, R62.sto 3 [.slice 80 2 (ke [(aU.mk [0] 0)])] cU J6 (by kernel_rfl)), (0, .beq 5 (congrArg (fun n_ => (Bx.flat 26 [.int .i64 b5.bM, .ms 32 5 0 n_])) ((eP J6).symm)))]) (fun c1 h =>
 ra (Z6 n h) [(1, eb c0_), (2, .call (cb (fH n hx5) c1) [] [(0, 0)] [])])) (fun c0_ h =>
 ra (Z6 n h) [(1, eb c0_)])
def LZ (n : Nat) (n3 id4 : Int) (b0 : an) (b2 : ag) : Option (ag × an) :=
 (F24 n b0 3).bind fun x2 =>
 (F30 n (ByteArray.mk #[105, 100]) 4).bind fun x4 =>
 (F30 n (ByteArray.mk #[111, 119, 110, 101, 114]) 4).bind fun x6 =>
 (F30 n (ByteArray.mk #[105, 100]) id4).bind fun x11 =>
 (F30 n (ByteArray.mk #[112, 114, 111, 106, 101, 99, 116]) 4).bind fun x13 =>
 (F30 n (ByteArray.mk #[116, 105, 116, 108, 101]) 5).bind fun x15 =>
 (F30 n (ByteArray.mk #[100, 111, 110, 101]) 3).bind fun x17 =>
 (F30 n (ByteArray.mk #[112, 114, 111, 106, 101, 99, 116]) 4).bind fun x21 =>
 (F30 n (ByteArray.mk #[112, 101, 114, 115, 111, 110]) 4).bind fun x23 =>
 (F30 n (ByteArray.mk #[116, 97, 115, 107]) id4).bind fun x28 =>
 (iA 4 n3).bind fun x39 =>
 (F29 n x2.2 2).bind fun x44 =>
 if x44.1 then
 (bnd x39 1).bind fun x51 =>
 ([(au.mk (ByteArray.mk #[112, 114, 111, 106, 101, 99, 116, 115]) [x4, x6] 1 [] []), (au.mk (ByteArray.mk #[116, 97, 115, 107, 115]) [x11, x13, x15, x17] 1 [] []), (au.mk (ByteArray.mk #[109, 101, 109, 98, 101, 114, 115]) [x21, x23] 2 [] []), (au.mk (ByteArray.mk #[97, 114, 99, 104, 105, 118, 101, 100]) [x28] 1 [] [])][0 + x51]?).bind fun x54 =>
 (setAt [(au.mk (ByteArray.mk #[112, 114, 111, 106, 101, 99, 116, 115]) [x4, x6] 1 [] []), (au.mk (ByteArray.mk #[116, 97, 115, 107, 115]) [x11, x13, x15, x17] 1 [] []), (au.mk (ByteArray.mk #[109, 101, 109, 98, 101, 114, 115]) [x21, x23] 2 [] []), (au.mk (ByteArray.mk #[97, 114, 99, 104, 105, 118, 101, 100]) [x28] 1 [] [])] (0 + x51) (au.mk x54.cG x54.aq x54.aA [(aU.mk [1] 0)] x54.dk)).bind fun z55 =>
 zC n n3 x44.2 (ag.mk 0 []) (ag.mk x2.1 (z55.take x39)) (z55.take x39)
 else
 zC n n3 x44.2 (ag.mk 0 []) (ag.mk x2.1 ([(au.mk (ByteArray.mk #[112, 114, 111, 106, 101, 99, 116, 115]) [x4, x6] 1 [] []), (au.mk (ByteArray.mk #[116, 97, 115, 107, 115]) [x11, x13, x15, x17] 1 [] []), (au.mk (ByteArray.mk #[109, 101, 109, 98, 101, 114, 115]) [x21, x23] 2 [] []), (au.mk (ByteArray.mk #[97, 114, 99, 104, 105, 118, 101, 100]) [x28] 1 [] [])].take x39)) ([(au.mk (ByteArray.mk #[112, 114, 111, 106, 101, 99, 116, 115]) [x4, x6] 1 [] []), (au.mk (ByteArray.mk #[116, 97, 115, 107, 115]) [x11, x13, x15, x17] 1 [] []), (au.mk (ByteArray.mk #[109, 101, 109, 98, 101, 114, 115]) [x21, x23] 2 [] []), (au.mk (ByteArray.mk #[97, 114, 99, 104, 105, 118, 101, 100]) [x28] 1 [] [])].take x39)
theorem b9_3 (n : Nat) : K4 (A9 [1, 1, 1, 1]) ahu (LZ n) := fun n3 id4 b0 b2 r h =>
 be h fun x2 hx2 h =>
 be h fun x4 hx4 h =>
 be h fun x6 hx6 h =>
 be h fun x11 cm h =>
 be h fun x13 bS h =>
 be h fun x15 gE h =>
 be h fun x17 gD h =>
 be h fun x21 j4 h =>
 be h fun x23 fa h =>
 be h fun x28 kn h =>
 be h fun x39 zd h =>
 be h fun x44 DD h =>
 ie h (fun c0_ h =>
 be h fun x51 hx51 h =>
 be h fun x54 J7 h =>
 be h fun z55 hz55 h =>
 ra (b9_2 n h) [(1, .call (dB n hx2) [] [(0, 0)] []), (0, .call (j5 n hx4) [] [] []), (0, .call (j5 n hx6) [] [] []), (3, .call (j5 n cm) [] [] []), (0, .call (j5 n bS) [] [] []), (0, .call (j5 n gE) [] [] []), (0, .call (j5 n gD) [] [] []), (2, .call (j5 n j4) [] [] []), (0, .call (j5 n fa) [] [] []), (3, .call (j5 n kn) [] [] []), (2, R76.frz 15 [x4, x6]), (0, .norm [(16, .agg [.same, .same, .same, .sl 80 2, .sl 84 13])] []), (0, R76.frz 22 [x11, x13, x15, x17]), (0, .norm [(23, .agg [.same, .same, .same, .sl 80 2, .sl 84 13])] []), (0, R76.frz 26 [x21, x23]), (0, .norm [(27, .agg [.same, .same, .same, .sl 80 2, .sl 84 13])] []), (0, R76.frz 30 [x28]), (0, .norm [(31, .agg [.same, .same, .same, .sl 80 2, .sl 84 13])] []), (7, R62.iA (xs := [(au.mk (ByteArray.mk #[112, 114, 111, 106, 101, 99, 116, 115]) [x4, x6] 1 [] []), (au.mk (ByteArray.mk #[116, 97, 115, 107, 115]) [x11, x13, x15, x17] 1 [] []), (au.mk (ByteArray.mk #[109, 101, 109, 98, 101, 114, 115]) [x21, x23] 2 [] []), (au.mk (ByteArray.mk #[97, 114, 99, 104, 105, 118, 101, 100]) [x28] 1 [] [])]) zd (Nat.le_of_eq rfl)), (3, .call (cb (fH n DD) c0_) [] [(0, 0)] []), (4, R3.frz 43 [1]), (1, fu hx51), (1, R79.frz 45 [(aU.mk [1] 0)]), (0, R62.sto 3 [.slice 80 2 (ke [(aU.mk [1] 0)])] J7 hz55 (by kernel_rfl)), (0, .shr 32 (R62.take z55 x39)), (0, .beq 5 (congrArg (fun n_ => (Bx.flat 26 [.int .i64 x2.1, .ms 32 5 0 n_])) ((uX (xs := z55) (Nat.le_trans (Nat.le_trans (ku zd).2 (Nat.le_of_eq rfl)) (Nat.le_of_eq (eP hz55).symm))).symm)))]) (fun c0_ h =>
 ra (b9_2 n h) [(1, .call (dB n hx2) [] [(0, 0)] []), (0, .call (j5 n hx4) [] [] []), (0, .call (j5 n hx6) [] [] []), (3, .call (j5 n cm) [] [] []), (0, .call (j5 n bS) [] [] []), (0, .call (j5 n gE) [] [] []), (0, .call (j5 n gD) [] [] []), (2, .call (j5 n j4) [] [] []), (0, .call (j5 n fa) [] [] []), (3, .call (j5 n kn) [] [] []), (2, R76.frz 15 [x4, x6]), (0, .norm [(16, .agg [.same, .same, .same, .sl 80 2, .sl 84 13])] []), (0, R76.frz 22 [x11, x13, x15, x17]), (0, .norm [(23, .agg [.same, .same, .same, .sl 80 2, .sl 84 13])] []), (0, R76.frz 26 [x21, x23]), (0, .norm [(27, .agg [.same, .same, .same, .sl 80 2, .sl 84 13])] []), (0, R76.frz 30 [x28]), (0, .norm [(31, .agg [.same, .same, .same, .sl 80 2, .sl 84 13])] []), (7, R62.iA (xs := [(au.mk (ByteArray.mk #[112, 114, 111, 106, 101, 99, 116, 115]) [x4, x6] 1 [] []), (au.mk (ByteArray.mk #[116, 97, 115, 107, 115]) [x11, x13, x15, x17] 1 [] []), (au.mk (ByteArray.mk #[109, 101, 109, 98, 101, 114, 115]) [x21, x23] 2 [] []), (au.mk (ByteArray.mk #[97, 114, 99, 104, 105, 118, 101, 100]) [x28] 1 [] [])]) zd (Nat.le_of_eq rfl)), (3, .call (cb (fH n DD) c0_) [] [(0, 0)] []), (0, .shr 32 (R62.take [(au.mk (ByteArray.mk #[112, 114, 111, 106, 101, 99, 116, 115]) [x4, x6] 1 [] []), (au.mk (ByteArray.mk #[116, 97, 115, 107, 115]) [x11, x13, x15, x17] 1 [] []), (au.mk (ByteArray.mk #[109, 101, 109, 98, 101, 114, 115]) [x21, x23] 2 [] []), (au.mk (ByteArray.mk #[97, 114, 99, 104, 105, 118, 101, 100]) [x28] 1 [] [])] x39)), (0, .beq 5 (congrArg (fun n_ => (Bx.flat 26 [.int .i64 x2.1, .ms 32 5 0 n_])) ((uX (xs := [(au.mk (ByteArray.mk #[112, 114, 111, 106, 101, 99, 116, 115]) [x4, x6] 1 [] []), (au.mk (ByteArray.mk #[116, 97, 115, 107, 115]) [x11, x13, x15, x17] 1 [] []), (au.mk (ByteArray.mk #[109, 101, 109, 98, 101, 114, 115]) [x21, x23] 2 [] []), (au.mk (ByteArray.mk #[97, 114, 99, 104, 105, 118, 101, 100]) [x28] 1 [] [])]) (Nat.le_trans (ku zd).2 (Nat.le_of_eq rfl))).symm)))])
def aag (n : Nat) (c0 : an) : Option (ag × an) :=
 (F24 n c0 3).bind fun x3 =>
 (F29 n x3.2 5).bind fun x9_ =>
 if x9_.1 then
 LZ n (w64 (2 + x3.1)) 5 x9_.2 (ag.mk 0 [])
 else
 LZ n (w64 (2 + x3.1)) 4 x9_.2 (ag.mk 0 [])
theorem b9_4 (n : Nat) : K1 (A9 []) aap (aag n) := fun c0 r h =>
 be h fun x3 hx3 h =>
 be h fun x9_ hx9 h =>
 ie h (fun c0_ h =>
 ra (b9_3 n h) [(2, .call (dB n hx3) [] [(0, 0)] []), (4, .call (cb (fH n hx9) c0_) [] [(0, 0)] [])]) (fun c0_ h =>
 ra (b9_3 n h) [(2, .call (dB n hx3) [] [(0, 0)] []), (4, .call (cb (fH n hx9) c0_) [] [(0, 0)] [])])
def F9 (n:Nat) (c0:an):Option (ag×an):=aag n c0
theorem ev9 (n:Nat):K1 C9 aap (F9 n):=fun _ _ h=>ca (X:=x9) (b9_4 n h)
def abl (r:((List ae)×an)):AV:=.ms 200000 3 0 r.1.length
def V1 (r:((List ae)×an)):List (Nat×Bx):= [(0,.flat 74 (bE r.2)),(200000,.rows true 65 3 (aH r.1))]
def x33:=fx E0 Tryz.f33 [0] [0,200000]
def A33:=Ax x33 abl V1
def C33:=Cx E0 33 abl V1
def afc (cL bk k11:Int) (t12:List Int) (t13 t14:Int) (t41:Bool) (b0:an) (b9:List ae):LS:=⟨[(0,.loc 0 0),(2,.int .i64 cL),(3,.int .i64 bk),(9,.ms 9 3 0 b9.length),(11,.int .i64 k11),(12,.slice 3 1 (bj t12)),(13,.int .i64 t13),(14,.int .i64 t14),(41,.bool t41)],[(0,.flat 74 (bE b0)),(9,.rows true 65 3 (aH b9))]⟩
def Uf (cL bk:Int) (t12:List Int) (t13 t14:Int) (b0:an) (b9:List ae):LS:=⟨[(0,.loc 0 0),(2,.int .i64 cL),(3,.int .i64 bk),(9,.ms 9 3 0 b9.length),(12,.slice 3 1 (bj t12)),(13,.int .i64 t13),(14,.int .i64 t14)],[(0,.flat 74 (bE b0)),(9,.rows true 65 3 (aH b9))]⟩
def z6 (cL bk:Int) (t12:List Int) (t13 t14:Int) (b0:an) (b9:List ae):LS:=⟨[(0,.loc 0 0),(2,.int .i64 cL),(3,.int .i64 bk),(9,.ms 9 3 0 b9.length),(12,.slice 3 1 (bj t12)),(13,.int .i64 t13),(14,.int .i64 t14)],[(0,.flat 74 (bE b0)),(9,.rows true 65 3 (aH b9))]⟩
def Il (b0:an) (b9:List ae):LS:=⟨[(9,.ms 9 3 0 b9.length)],[(0,.flat 74 (bE b0)),(9,.rows true 65 3 (aH b9))]⟩
def Ue (c0:an) (dw:List Int) (cL bk:Int):LS:=⟨[(0,.loc 0 0),(1,.slice 3 1 (bj dw)),(2,.int .i64 cL),(3,.int .i64 bk)],[(0,.flat 74 (bE c0))]⟩
def rP (k_1 : Int → Int → (List Int) → Int → Int → an → (List ae) → Option ((List ae) × an)) (n : Nat) (cL bk k11 : Int) (t12 : List Int) (t13 t14 : Int) (t41 : Bool) (b0 : an) (b9 : List ae) : Option ((List ae) × an) :=
 if t41 then
 (app b9 [(ae.mk 1 0 ByteArray.empty)]).bind fun x4 =>
 k_1 cL bk t12 t13 t14 b0 x4
 else
 (F74 n b0 k11).bind fun x4 =>
 (app b9 [x4.1]).bind fun x7 =>
 k_1 cL bk t12 t13 t14 x4.2 x7
theorem BC {k_1} (aK : K7 (A33 [1, 1, 1, 0, 0, 1, 0, 1, 1]) Uf k_1) (n : Nat) : K9 (A33 [1, 1, 1, 0, 1, 0, 0, 1, 1, 0, 0, 1, 0, 1, 1]) afc (rP k_1 n) := fun cL bk k11 t12 t13 t14 t41 b0 b9 r h =>
 ie h (fun c0_ g0 => by subst c0_; exact (
 be g0 fun x4 hx4 g0 =>
 ra (aK g0) [(3, R64.app hx4 (R64.srW [(ae.mk 1 0 ByteArray.empty)]))])) (fun c0_ g0 => by subst c0_; exact (
 be g0 fun x4 hx4 g0 =>
 be g0 fun x7 hx7 g0 =>
 ra (aK g0) [(3, .call (QP n hx4) [] [(0, 0)] []), (1, R64.app hx7 (R64.srW [x4.1]))]))
def pd (k_2 : Int → Int → (List Int) → Int → Int → an → (List ae) → Option ((List ae) × an)) (n : Nat) (cL bk : Int) (t12 : List Int) (t13 t14 : Int) (b0 : an) (b9 : List ae) : Option ((List ae) × an) :=
 k_2 cL bk t12 t13 (w64 (t14 + 1)) b0 b9
theorem xm {k_2} (cR : K7 (A33 [0, 1, 0, 1, 1]) z6 k_2) (n : Nat) : K7 (A33 [1, 1, 1, 0, 0, 1, 0, 1, 1]) Uf (pd k_2 n) := fun cL bk t12 t13 t14 b0 b9 r h =>
 ra (cR h) []
def GZ (k_3 : an → (List ae) → Option ((List ae) × an)) (back : Int → Int → (List Int) → Int → Int → an → (List ae) → Option ((List ae) × an)) (n : Nat) (cL bk : Int) (t12 : List Int) (t13 t14 : Int) (b0 : an) (b9 : List ae) : Option ((List ae) × an) :=
 if decide (t14 < t13) then
 (idx t12 t14).bind fun x3 =>
 if !decide (t14 < cL) then
 if bk != 1 then
 (F29 n b0 5).bind fun x17 =>
 if x17.1 then
 (app b9 [(ae.mk 2 0 ByteArray.empty)]).bind fun x24 =>
 pd back n cL bk t12 t13 t14 x17.2 x24
 else
 if bk == 3 then
 (F29 n x17.2 5).bind fun x30 =>
 rP (pd back n) n cL bk x3 t12 t13 t14 x30.1 x30.2 b9
 else
 rP (pd back n) n cL bk x3 t12 t13 t14 false x17.2 b9
 else
 if bk == 3 then
 (F29 n b0 5).bind fun x27 =>
 rP (pd back n) n cL bk x3 t12 t13 t14 x27.1 x27.2 b9
 else
 rP (pd back n) n cL bk x3 t12 t13 t14 false b0 b9
 else
 rP (pd back n) n cL bk x3 t12 t13 t14 false b0 b9
 else
 k_3 b0 b9
theorem ajV {k_3} (bO : K2 (A33 [1, 1, 1]) Il k_3) {back} (aE : K7 (A33 [0, 1, 0, 1, 1]) z6 back) (n : Nat) : K7 (A33 [0, 1, 0, 1, 1]) z6 (GZ k_3 back n) := fun cL bk t12 t13 t14 b0 b9 r h =>
 ie h (fun c0_ h =>
 be h fun x3 hx3 h =>
 ie h (fun c1 h =>
 ie h (fun c2 h =>
 be h fun x17 gD h =>
 ie h (fun c3 h =>
 be h fun x24 lH h =>
 ra (xm aE n h) [(0, eb c0_), (1, R3.idx hx3), (5, eb c1), (2, eb c2), (3, .call (cb (fH n gD) c3) [] [(0, 0)] []), (5, R64.app lH (R64.srW [(ae.mk 2 0 ByteArray.empty)]))]) (fun c3 h =>
 ie h (fun c4 h =>
 be h fun x30 Zf h =>
 ra (BC (xm aE n) n h) [(0, eb c0_), (1, R3.idx hx3), (5, eb c1), (2, eb c2), (3, .call (cb (fH n gD) c3) [] [(0, 0)] []), (4, eb c1), (2, eb c4), (3, .call (fH n Zf) [] [(0, 0)] [])]) (fun c4 h =>
 ra (BC (xm aE n) n h) [(0, eb c0_), (1, R3.idx hx3), (5, eb c1), (2, eb c2), (3, .call (cb (fH n gD) c3) [] [(0, 0)] []), (4, eb c1), (2, eb c4)]))) (fun c2 h =>
 ie h (fun c3 h =>
 be h fun x27 r8 h =>
 ra (BC (xm aE n) n h) [(0, eb c0_), (1, R3.idx hx3), (5, eb c1), (2, eb c2), (6, eb c1), (2, eb c3), (3, .call (fH n r8) [] [(0, 0)] [])]) (fun c3 h =>
 ra (BC (xm aE n) n h) [(0, eb c0_), (1, R3.idx hx3), (5, eb c1), (2, eb c2), (6, eb c1), (2, eb c3)]))) (fun c1 h =>
 ra (BC (xm aE n) n h) [(0, eb c0_), (1, R3.idx hx3), (5, eb c1), (7, eb c1)])) (fun c0_ h =>
 ra (bO h) [(0, eb c0_)])
def uC (k_3:an→(List ae)→Option ((List ae)×an)):Nat→Int→Int→(List Int)→Int→Int→an→(List ae)→Option ((List ae)×an)
 |0,_,_,_,_,_,_,_=>none
 |n+1,cL,bk,t12,t13,t14,b0,b9=>GZ k_3 (uC k_3 n) n cL bk t12 t13 t14 b0 b9
theorem acf {k_3} (bO:K2 (A33 [1,1,1]) Il k_3):∀n:Nat,K7 (A33 [0,1,0,1,1]) z6 (uC k_3 n)
 |0=>fun _ _ _ _ _ _ _ _ h=>nz h
 |n+1=>fun _ _ _ _ _ _ _ _ h=>ajV bO (acf bO n) n h
def B8 (n : Nat) (b0 : an) (b9 : List ae) : Option ((List ae) × an) :=
 some (b9, b0)
theorem ajU (n : Nat) : K2 (A33 [1, 1, 1]) Il (B8 n) := fun b0 b9 r h =>
 rr h [(2, .ren 9 200000)]
def ado (n : Nat) (c0 : an) (dw : List Int) (cL bk : Int) : Option ((List ae) × an) :=
 uC (B8 n) n cL bk dw (dw.length : Int) 0 c0 []
theorem ajT (n : Nat) : K4 (A33 []) Ue (ado n) := fun c0 dw cL bk r h =>
 ra (acf (ajU n) n h) [(3, .eqv (R3.az dw)), (1, .born [9] [] 9 true 65 3)]
def F33 (n:Nat) (c0:an) (dw:List Int) (cL bk:Int):Option ((List ae)×an):=ado n c0 dw cL bk
theorem QW (n:Nat):K4 C33 Ue (F33 n):=fun _ _ _ _ _ h=>ca (X:=x33) (ajT n h)
def aaY (r:(List ae)):AV:=.ms 200000 3 0 r.length
def VN (r:(List ae)):List (Nat×Bx):= [(200000,.rows true 65 3 (aH r))]
def x54:=fx E0 Tryz.f54 [] [200000]
def A54:=Ax x54 aaY VN
def C54:=Cx E0 54 aaY VN
def TR (r0:List ae):LS:=⟨[(0,.slice 65 3 (aH r0))],[]⟩
def SH (n : Nat) (r0 : List ae) : Option (List ae) :=
 (app [] r0).bind fun x3 =>
 some x3
theorem aju (n : Nat) : K1 (A54 []) TR (SH n) := fun r0 r h =>
 be h fun x3 hx3 h =>
 rr h [(2, .born [] [] 4 true 65 3), (0, R64.app (xs := []) hx3 .dat), (1, .ren 4 200000)]
def F54 (n:Nat) (r0:List ae):Option (List ae):=SH n r0
theorem QU (n:Nat):K1 C54 TR (F54 n):=fun _ _ h=>ca (X:=x54) (aju n h)
def abk (r:(List ae)):AV:=.ms 200000 3 0 r.length
def V0 (r:(List ae)):List (Nat×Bx):= [(200000,.rows true 65 3 (aH r))]
def x34:=fx E0 Tryz.f34 [] [200000]
def A34:=Ax x34 abk V0
def C34:=Cx E0 34 abk V0
def Ud (s0:ag) (aS:Int) (ct:List ae):LS:=⟨[(0,.agg (bf s0)),(1,.int .i64 aS),(2,.slice 65 3 (aH ct))],[]⟩
def SU (n : Nat) (s0 : ag) (aS : Int) (ct : List ae) : Option (List ae) :=
 if decide (aS < 0) then
 some []
 else
 if !decide (aS < (s0.ah.length : Int)) then
 some []
 else
 (idx s0.ah aS).bind fun x16 =>
 (cut ct none (some (if 0 < (if (ct.length : Int) < x16.aA then (ct.length : Int) else x16.aA) then (if (ct.length : Int) < x16.aA then (ct.length : Int) else x16.aA) else 0))).bind fun x24 =>
 (F54 n x24).bind fun x26 =>
 some x26
theorem ajS (n : Nat) : K3 (A34 []) Ud (SU n) := fun s0 aS ct r h =>
 ie h (fun c0 h =>
 rr h [(3, eb c0), (3, .born [6] [] 200000 true 65 3)]) (fun c0 h =>
 ie h (fun c1 h =>
 rr h [(3, eb c0), (4, .eqv (R62.az s0.ah)), (0, eb c1), (2, .born [6] [] 200000 true 65 3)]) (fun c1 h =>
 be h fun x16 cU h =>
 be h fun x24 lH h =>
 be h fun x26 eZ h =>
 rr h [(3, eb c0), (4, .eqv (R62.az s0.ah)), (0, eb c1), (5, R62.idx cU), (3, .eqv (R64.az ct)), (2, R64.cut lH), (0, .call (QU n eZ) [] [] [(28, 200000)]), (1, .ren 28 200000)]))
def F34 (n:Nat) (s0:ag) (aS:Int) (ct:List ae):Option (List ae):=SU n s0 aS ct
theorem zl (n:Nat):K3 C34 Ud (F34 n):=fun _ _ _ _ h=>ca (X:=x34) (ajS n h)
def aaS (r:Int):AV:=.int .i64 r
def VH (r:Int):List (Nat×Bx):= []
def x61:=fx E0 Tryz.f61 [] []
def A61:=Ax x61 aaS VH
def C61:=Cx E0 61 aaS VH
def TL (a0 b1:ae):LS:=⟨[(0,.agg (ja a0)),(1,.agg (ja b1))],[]⟩
def Sp (n : Nat) (a0 b1 : ae) : Option Int :=
 if decide (a0.aD < b1.aD) then
 some (-1)
 else
 if decide (b1.aD < a0.aD) then
 some 1
 else
 if decide (a0.bJ < b1.bJ) then
 some (-1)
 else
 if decide (b1.bJ < a0.bJ) then
 some 1
 else
 if Op.bytesLess a0.bt.toList b1.bt.toList then
 some (-1)
 else
 if !(Op.bytesLess a0.bt.toList b1.bt.toList || a0.bt.toList == b1.bt.toList) then
 some 1
 else
 some 0
theorem ajg (n : Nat) : K2 (A61 []) TL (Sp n) := fun a0 b1 r h =>
 ie h (fun c0 h =>
 rr h [(7, eb c0)]) (fun c0 h =>
 ie h (fun c1 h =>
 rr h [(7, eb c0), (5, eb c1)]) (fun c1 h =>
 ie h (fun c2 h =>
 rr h [(7, eb c0), (5, eb c1), (5, eb c2)]) (fun c2 h =>
 ie h (fun c3 h =>
 rr h [(7, eb c0), (5, eb c1), (5, eb c2), (5, eb c3)]) (fun c3 h =>
 ie h (fun c4 h =>
 rr h [(7, eb c0), (5, eb c1), (5, eb c2), (5, eb c3), (5, eb c4)]) (fun c4 h =>
 ie h (fun c5 h =>
 rr h [(7, eb c0), (5, eb c1), (5, eb c2), (5, eb c3), (5, eb c4), (5, eb c5)]) (fun c5 h =>
 rr h [(7, eb c0), (5, eb c1), (5, eb c2), (5, eb c3), (5, eb c4), (5, eb c5)]))))))
def F61 (n:Nat) (a0 b1:ae):Option Int:=Sp n a0 b1
theorem ev61 (n:Nat):K2 C61 TL (F61 n):=fun _ _ _ h=>ca (X:=x61) (ajg n h)
def abu (r:Int):AV:=.int .i64 r
def V9 (r:Int):List (Nat×Bx):= []
def x22:=fx E0 Tryz.f22 [] []
def A22:=Ax x22 abu V9
def C22:=Cx E0 22 abu V9
def Iw (a0 b1:List ae) (i5:Int):LS:=⟨[(0,.slice 65 3 (aH a0)),(1,.slice 65 3 (aH b1)),(5,.int .i64 i5)],[]⟩
def Iv (a0 b1:List ae):LS:=⟨[(0,.slice 65 3 (aH a0)),(1,.slice 65 3 (aH b1))],[]⟩
def Un (a0 b1:List ae):LS:=⟨[(0,.slice 65 3 (aH a0)),(1,.slice 65 3 (aH b1))],[]⟩
def G5 (k_1 : (List ae) → (List ae) → Option Int) (back : (List ae) → (List ae) → Int → Option Int) (n : Nat) (a0 b1 : List ae) (i5 : Int) : Option Int :=
 if decide (i5 < (a0.length : Int)) then
 if decide (i5 < (b1.length : Int)) then
 (idx a0 i5).bind fun x13 =>
 (idx b1 i5).bind fun x18 =>
 (F61 n x13 x18).bind fun x21 =>
 if x21 != 0 then
 some x21
 else
 back a0 b1 (w64 (i5 + 1))
 else
 k_1 a0 b1
 else
 k_1 a0 b1
theorem akn {k_1} (aK : K2 (A22 [1, 1]) Iv k_1) {back} (aE : K3 (A22 [0, 1, 0, 1]) Iw back) (n : Nat) : K3 (A22 [0, 1, 0, 1]) Iw (G5 k_1 back n) := fun a0 b1 i5 r h =>
 ie h (fun c0 h =>
 ie h (fun c1 h =>
 be h fun x13 bS h =>
 be h fun x18 gS h =>
 be h fun x21 j4 h =>
 ie h (fun c2 h =>
 rr h [(2, .eqv (R64.az a0)), (0, eb c0), (3, .eqv (R64.az b1)), (0, eb c1), (3, R64.idx bS), (3, R64.idx gS), (1, .call (ev61 n j4) [] [] []), (2, eb c2)]) (fun c2 h =>
 ra (aE h) [(2, .eqv (R64.az a0)), (0, eb c0), (3, .eqv (R64.az b1)), (0, eb c1), (3, R64.idx bS), (3, R64.idx gS), (1, .call (ev61 n j4) [] [] []), (2, eb c2)])) (fun c1 h =>
 ra (aK h) [(2, .eqv (R64.az a0)), (0, eb c0), (3, .eqv (R64.az b1)), (0, eb c1)])) (fun c0 h =>
 ra (aK h) [(2, .eqv (R64.az a0)), (0, eb c0)])
def xN (k_1:(List ae)→(List ae)→Option Int):Nat→(List ae)→(List ae)→Int→Option Int
 |0,_,_,_=>none
 |n+1,a0,b1,i5=>G5 k_1 (xN k_1 n) n a0 b1 i5
theorem ack {k_1} (aK:K2 (A22 [1,1]) Iv k_1):∀n:Nat,K3 (A22 [0,1,0,1]) Iw (xN k_1 n)
 |0=>fun _ _ _ _ h=>nz h
 |n+1=>fun _ _ _ _ h=>akn aK (ack aK n) n h
def Ca (n : Nat) (a0 b1 : List ae) : Option Int :=
 if decide ((a0.length : Int) < (b1.length : Int)) then
 some (-1)
 else
 if decide ((b1.length : Int) < (a0.length : Int)) then
 some 1
 else
 some 0
theorem akm (n : Nat) : K2 (A22 [1, 1]) Iv (Ca n) := fun a0 b1 r h =>
 ie h (fun c0 h =>
 rr h [(1, .eqv (R64.az a0)), (1, .eqv (R64.az b1)), (0, eb c0)]) (fun c0 h =>
 ie h (fun c1 h =>
 rr h [(1, .eqv (R64.az a0)), (1, .eqv (R64.az b1)), (0, eb c0), (2, .eqv (R64.az a0)), (1, .eqv (R64.az b1)), (0, eb c1)]) (fun c1 h =>
 rr h [(1, .eqv (R64.az a0)), (1, .eqv (R64.az b1)), (0, eb c0), (2, .eqv (R64.az a0)), (1, .eqv (R64.az b1)), (0, eb c1)]))
def adp (n : Nat) (a0 b1 : List ae) : Option Int :=
 xN (Ca n) n a0 b1 0
theorem akl (n : Nat) : K2 (A22 []) Un (adp n) := fun a0 b1 r h =>
 ra (ack (akm n) n h) []
def F22 (n:Nat) (a0 b1:List ae):Option Int:=adp n a0 b1
theorem mY (n:Nat):K2 C22 Un (F22 n):=fun _ _ _ h=>ca (X:=x22) (akl n h)
def aaJ (r:Int):AV:=.int .i64 r
def Vx (r:Int):List (Nat×Bx):= []
def x75:=fx E0 Tryz.f75 [] []
def A75:=Ax x75 aaJ Vx
def C75:=Cx E0 75 aaJ Vx
def HU (aL:Int) (bD:List ae) (t31:List (List ae)) (t32 t33:Int) (b4:ag):LS:=⟨[(2,.int .i64 aL),(3,.slice 65 3 (aH bD)),(4,.loc 4 0),(31,.slice 43 1 (cr t31)),(32,.int .i64 t32),(33,.int .i64 t33)],[(4,.flat 26 (bf b4))]⟩
def HT:LS:=⟨[],[]⟩
def TC (s0:ag) (st1:aj) (aL:Int) (bD:List ae):LS:=⟨[(0,.agg (bf s0)),(1,.agg (cP st1)),(2,.int .i64 aL),(3,.slice 65 3 (aH bD))],[]⟩
def GB (k_1 : Option Int) (back : Int → (List ae) → (List (List ae)) → Int → Int → ag → Option Int) (n : Nat) (aL : Int) (bD : List ae) (t31 : List (List ae)) (t32 t33 : Int) (b4 : ag) : Option Int :=
 if decide (t33 < t32) then
 (idx t31 t33).bind fun x3 =>
 (F34 n b4 aL x3).bind fun x11 =>
 (F22 n x11 bD).bind fun x14 =>
 if x14 == 0 then
 some t33
 else
 back aL bD t31 t32 (w64 (t33 + 1)) b4
 else
 k_1
theorem aiR {k_1} (aK : K0 (A75 [1, 1, 1]) HT k_1) {back} (aE : K6 (A75 [0, 1, 0, 1, 1]) HU back) (n : Nat) : K6 (A75 [0, 1, 0, 1, 1]) HU (GB k_1 back n) := fun aL bD t31 t32 t33 b4 r h =>
 ie h (fun c0 h =>
 be h fun x3 hx3 h =>
 be h fun x11 cm h =>
 be h fun x14 jl h =>
 ie h (fun c1 h =>
 rr h [(0, eb c0), (1, R42.idx hx3), (6, .call (zl n cm) [] [] [(41, 200000)]), (1, R64.frz 41 x11), (0, .call (mY n jl) [.one (.sl 0 0)] [] []), (0, eb c1)]) (fun c1 h =>
 ra (aE h) [(0, eb c0), (1, R42.idx hx3), (6, .call (zl n cm) [] [] [(41, 200000)]), (1, R64.frz 41 x11), (0, .call (mY n jl) [.one (.sl 0 0)] [] []), (0, eb c1)])) (fun c0 h =>
 ra (aK h) [(0, eb c0)])
def xC (k_1:Option Int):Nat→Int→(List ae)→(List (List ae))→Int→Int→ag→Option Int
 |0,_,_,_,_,_,_=>none
 |n+1,aL,bD,t31,t32,t33,b4=>GB k_1 (xC k_1 n) n aL bD t31 t32 t33 b4
theorem abR {k_1} (aK:K0 (A75 [1,1,1]) HT k_1):∀n:Nat,K6 (A75 [0,1,0,1,1]) HU (xC k_1 n)
 |0=>fun _ _ _ _ _ _ _ h=>nz h
 |n+1=>fun _ _ _ _ _ _ _ h=>aiR aK (abR aK n) n h
def GA (n : Nat) : Option Int :=
 some (-1)
theorem aiQ (n : Nat) : K0 (A75 [1, 1, 1]) HT (GA n) := fun r h =>
 rr h []
def Sg (n : Nat) (s0 : ag) (st1 : aj) (aL : Int) (bD : List ae) : Option Int :=
 if decide (aL < 0) then
 some (-1)
 else
 if !decide (aL < (s0.ah.length : Int)) then
 some (-1)
 else
 if !decide (aL < (st1.ah.length : Int)) then
 some (-1)
 else
 (idx st1.ah aL).bind fun x23 =>
 xC (GA n) n aL bD x23 (x23.length : Int) 0 s0
theorem aiP (n : Nat) : K4 (A75 []) TC (Sg n) := fun s0 st1 aL bD r h =>
 ie h (fun c0 h =>
 rr h [(4, eb c0)]) (fun c0 h =>
 ie h (fun c1 h =>
 rr h [(4, eb c0), (4, .eqv (R62.az s0.ah)), (0, eb c1)]) (fun c1 h =>
 ie h (fun c2 h =>
 rr h [(4, eb c0), (4, .eqv (R62.az s0.ah)), (0, eb c1), (5, .eqv (R66.az st1.ah)), (0, eb c2)]) (fun c2 h =>
 be h fun x23 fa h =>
 ra (abR (aiQ n) n h) [(4, eb c0), (4, .eqv (R62.az s0.ah)), (0, eb c1), (5, .eqv (R66.az st1.ah)), (0, eb c2), (4, R66.idx fa), (1, .eqv (R42.az x23))])))
def F75 (n:Nat) (s0:ag) (st1:aj) (aL:Int) (bD:List ae):Option Int:=Sg n s0 st1 aL bD
theorem ev75 (n:Nat):K4 C75 TC (F75 n):=fun _ _ _ _ _ h=>ca (X:=x75) (aiP n h)
def abj (r:((List ae)×Bool)):AV:=.tup [.ms 200000 3 0 r.1.length,.bool r.2]
def VZ (r:((List ae)×Bool)):List (Nat×Bx):= [(200000,.rows true 65 3 (aH r.1))]
def x35:=fx E0 Tryz.f35 [] [200000]
def A35:=Ax x35 abj VZ
def C35:=Cx E0 35 abj VZ
def Uc (s0:ag) (st1:aj) (aL:Int) (bD:List ae):LS:=⟨[(0,.agg (bf s0)),(1,.agg (cP st1)),(2,.int .i64 aL),(3,.slice 65 3 (aH bD))],[]⟩
def SS (n : Nat) (s0 : ag) (st1 : aj) (aL : Int) (bD : List ae) : Option ((List ae) × Bool) :=
 (F75 n s0 st1 aL bD).bind fun x9 =>
 if decide (x9 < 0) then
 some ([], false)
 else
 (idx st1.ah aL).bind fun x17 =>
 (idx x17 x9).bind fun x21 =>
 (F54 n x21).bind fun x24 =>
 some (x24, true)
theorem ajR (n : Nat) : K4 (A35 []) Uc (SS n) := fun s0 st1 aL bD r h =>
 be h fun x9 hx9 h =>
 ie h (fun c0 h =>
 rr h [(8, .call (ev75 n hx9) [] [] []), (2, eb c0), (2, .born [8] [] 200000 true 65 3)]) (fun c0 h =>
 be h fun x17 gD h =>
 be h fun x21 j4 h =>
 be h fun x24 lH h =>
 rr h [(8, .call (ev75 n hx9) [] [] []), (2, eb c0), (3, R66.idx gD), (2, R42.idx j4), (1, .call (QU n lH) [] [] [(26, 200000)]), (2, .ren 26 200000)])
def F35 (n:Nat) (s0:ag) (st1:aj) (aL:Int) (bD:List ae):Option ((List ae)×Bool):=SS n s0 st1 aL bD
theorem ev35 (n:Nat):K4 C35 Uc (F35 n):=fun _ _ _ _ _ h=>ca (X:=x35) (ajR n h)
def abi (r:Int):AV:=.int .i64 r
def VY (r:Int):List (Nat×Bx):= []
def x36:=fx E0 Tryz.f36 [] []
def A36:=Ax x36 abi VY
def C36:=Cx E0 36 abi VY
def Ub (t0:Int) (a1:List ae) (u2:Int) (b3:List ae):LS:=⟨[(0,.int .i64 t0),(1,.slice 65 3 (aH a1)),(2,.int .i64 u2),(3,.slice 65 3 (aH b3))],[]⟩
def SR (n : Nat) (t0 : Int) (a1 : List ae) (u2 : Int) (b3 : List ae) : Option Int :=
 if t0 != u2 then
 if decide (t0 < u2) then
 some (-1)
 else
 some 1
 else
 (F22 n a1 b3).bind fun x7 =>
 some x7
theorem ajQ (n : Nat) : K4 (A36 []) Ub (SR n) := fun t0 a1 u2 b3 r h =>
 ie h (fun c0 h =>
 ie h (fun c1 h =>
 rr h [(3, eb c0), (2, eb c1)]) (fun c1 h =>
 rr h [(3, eb c0), (2, eb c1)])) (fun c0 h =>
 be h fun x7 hx7 h =>
 rr h [(3, eb c0), (2, .call (mY n hx7) [] [] [])])
def F36 (n:Nat) (t0:Int) (a1:List ae) (u2:Int) (b3:List ae):Option Int:=SR n t0 a1 u2 b3
theorem ZD (n:Nat):K4 C36 Ub (F36 n):=fun _ _ _ _ _ h=>ca (X:=x36) (ajQ n h)
def abA (r:((List ar)×an)):AV:=.ms 200000 5 0 r.1.length
def Wf (r:((List ar)×an)):List (Nat×Bx):= [(0,.flat 74 (bE r.2)),(200000,.rows false 55 5 (cC r.1))]
def x10:=fx E0 Tryz.f10 [0] [0,200000]
def A10:=Ax x10 abA Wf
def C10:=Cx E0 10 abA Wf
def IM (n10 i17:Int) (t29:List au) (t30:Int) (b0:an) (b5:ag) (b6:aj) (b9:List ar) (b50:List ae) (b14:ar) (db:List Int) (m8:List ae):LS:=⟨[(0,.loc 0 0),(5,.loc 5 0),(6,.loc 6 0),(9,.ms 500009 5 0 b9.length),(10,.int .i64 n10),(12,.ms 50 3 0 b50.length),(14,.loc 14 0),(17,.int .i64 i17),(28,.loc 5 1),(29,.slice 63 5 (cZ t29)),(30,.int .i64 t30),(31,.bool true)],[(0,.flat 74 (bE b0)),(5,.flat 26 (bf b5)),(6,.flat 33 (cP b6)),(14,.flat 55 [.int .i64 b14.fOp,.int .i64 b14.ax,.slice 65 3 (aH b14.aA),.ms 129 1 0 db.length,.ms 137 3 0 m8.length]),(50,.rows true 65 3 (aH b50)),(129,.rows true 3 1 (bj db)),(137,.rows true 65 3 (aH m8)),(500009,.rows false 55 5 (cC b9))]⟩
def IL (n10 mA:Int) (g5:Bool) (i20:Int) (t29:List au) (t30:Int) (b0:an) (b5:ag) (b6:aj) (b9:List ar) (b14:ar) (db:List Int) (dU:List ae):LS:=⟨[(0,.loc 0 0),(5,.loc 5 0),(6,.loc 6 0),(9,.ms 500009 5 0 b9.length),(10,.int .i64 n10),(14,.loc 14 0),(18,.int .i64 mA),(19,.bool g5),(20,.int .i64 i20),(28,.loc 5 1),(29,.slice 63 5 (cZ t29)),(30,.int .i64 t30),(31,.bool true)],[(0,.flat 74 (bE b0)),(5,.flat 26 (bf b5)),(6,.flat 33 (cP b6)),(14,.flat 55 [.int .i64 b14.fOp,.int .i64 b14.ax,.slice 65 3 (aH b14.aA),.ms 129 1 0 db.length,.ms 601404 3 0 dU.length]),(129,.rows true 3 1 (bj db)),(500009,.rows false 55 5 (cC b9)),(601404,.rows true 65 3 (aH dU))]⟩
def IK (n10 mA:Int) (g5:Bool) (t29:List au) (t30:Int) (b0:an) (b5:ag) (b6:aj) (b9:List ar) (b14:ar) (db:List Int) (dU:List ae):LS:=⟨[(0,.loc 0 0),(5,.loc 5 0),(6,.loc 6 0),(9,.ms 500009 5 0 b9.length),(10,.int .i64 n10),(14,.loc 14 0),(18,.int .i64 mA),(19,.bool g5),(28,.loc 5 1),(29,.slice 63 5 (cZ t29)),(30,.int .i64 t30),(31,.bool true)],[(0,.flat 74 (bE b0)),(5,.flat 26 (bf b5)),(6,.flat 33 (cP b6)),(14,.flat 55 [.int .i64 b14.fOp,.int .i64 b14.ax,.slice 65 3 (aH b14.aA),.ms 129 1 0 db.length,.ms 601404 3 0 dU.length]),(129,.rows true 3 1 (bj db)),(500009,.rows false 55 5 (cC b9)),(601404,.rows true 65 3 (aH dU))]⟩
def IJ (n10:Int) (t29:List au) (t30:Int) (b0:an) (b5:ag) (b6:aj) (b9:List ar) (b14:ar) (db:List Int) (dU:List ae):LS:=⟨[(0,.loc 0 0),(5,.loc 5 0),(6,.loc 6 0),(9,.ms 500009 5 0 b9.length),(10,.int .i64 n10),(14,.loc 14 0),(28,.loc 5 1),(29,.slice 63 5 (cZ t29)),(30,.int .i64 t30),(31,.bool true)],[(0,.flat 74 (bE b0)),(5,.flat 26 (bf b5)),(6,.flat 33 (cP b6)),(14,.flat 55 [.int .i64 b14.fOp,.int .i64 b14.ax,.slice 65 3 (aH b14.aA),.ms 129 1 0 db.length,.ms 601404 3 0 dU.length]),(129,.rows true 3 1 (bj db)),(500009,.rows false 55 5 (cC b9)),(601404,.rows true 65 3 (aH dU))]⟩
def afg (n10 t11:Int) (t29:List au) (t30:Int) (b0:an) (b5:ag) (b6:aj) (b9:List ar) (b50:List ae):LS:=⟨[(0,.loc 0 0),(5,.loc 5 0),(6,.loc 6 0),(9,.ms 500009 5 0 b9.length),(10,.int .i64 n10),(11,.int .i64 t11),(12,.ms 50 3 0 b50.length),(28,.loc 5 1),(29,.slice 63 5 (cZ t29)),(30,.int .i64 t30),(31,.bool true)],[(0,.flat 74 (bE b0)),(5,.flat 26 (bf b5)),(6,.flat 33 (cP b6)),(50,.rows true 65 3 (aH b50)),(500009,.rows false 55 5 (cC b9))]⟩
def sw (n10:Int) (b0:an) (b5:ag) (b6:aj) (b9:List ar):LS:=⟨[(0,.loc 0 0),(5,.loc 5 0),(6,.loc 6 0),(9,.ms 500009 5 0 b9.length),(10,.int .i64 n10)],[(0,.flat 74 (bE b0)),(5,.flat 26 (bf b5)),(6,.flat 33 (cP b6)),(500009,.rows false 55 5 (cC b9))]⟩
def II (b0:an) (b9:List ar):LS:=⟨[(9,.ms 500009 5 0 b9.length)],[(0,.flat 74 (bE b0)),(500009,.rows false 55 5 (cC b9))]⟩
def Uv (c0:an) (s1:ag) (st2:aj) (wY:Int):LS:=⟨[(0,.loc 0 0),(1,.agg (bf s1)),(2,.agg (cP st2)),(3,.int .i64 wY)],[(0,.flat 74 (bE c0))]⟩
def Hn (k_3 : Int → (List au) → Int → an → ag → aj → (List ar) → ar → (List Int) → (List ae) → Option ((List ar) × an)) (back : Int → Int → (List au) → Int → an → ag → aj → (List ar) → (List ae) → ar → (List Int) → (List ae) → Option ((List ar) × an)) (n : Nat) (n10 i17 : Int) (t29 : List au) (t30 : Int) (b0 : an) (b5 : ag) (b6 : aj) (b9 : List ar) (b50 : List ae) (b14 : ar) (db : List Int) (m8 : List ae) : Option ((List ar) × an) :=
 if decide (i17 < (b50.length : Int)) then
 if b14.fOp == 2 then
 (F29 n b0 2).bind fun x11 =>
 if x11.1 then
 (app db [i17]).bind fun x17 =>
 (bnd b50.length i17).bind fun x23 =>
 (b50[0 + x23]?).bind fun x25 =>
 (app m8 [x25]).bind fun x28 =>
 back n10 (w64 (i17 + 1)) t29 t30 x11.2 b5 b6 b9 b50 (ar.mk b14.fOp b14.ax b14.aA x17 x28) x17 x28
 else
 back n10 (w64 (i17 + 1)) t29 t30 x11.2 b5 b6 b9 b50 (ar.mk b14.fOp b14.ax b14.aA db m8) db m8
 else
 k_3 n10 t29 t30 b0 b5 b6 b9 (ar.mk b14.fOp b14.ax b14.aA db m8) db m8
 else
 k_3 n10 t29 t30 b0 b5 b6 b9 (ar.mk b14.fOp b14.ax b14.aA db m8) db m8
theorem akM {k_3} (bO : K10 (A10 [1, 1, 1, 1, 1, 0, 0, 1, 0, 0, 1, 0, 1, 1]) IJ k_3) {back} (aE : K12 (A10 [0, 1, 1, 0, 1, 1, 0, 1, 1, 1, 1, 0, 0, 1, 0, 0, 1, 0, 1, 1]) IM back) (n : Nat) : K12 (A10 [0, 1, 1, 0, 1, 1, 0, 1, 1, 1, 1, 0, 0, 1, 0, 0, 1, 0, 1, 1]) IM (Hn k_3 back n) := fun n10 i17 t29 t30 b0 b5 b6 b9 b50 b14 db m8 r h =>
 ie h (fun c0_ h =>
 ie h (fun c1 h =>
 be h fun x11 cm h =>
 ie h (fun c2 h =>
 be h fun x17 gD h =>
 be h fun x23 fa h =>
 be h fun x25 DE h =>
 be h fun x28 kn h =>
 ra (aE h) [(3, eb c0_), (3, eb c1), (2, .call (cb (fH n cm) c2) [] [(0, 0)] []), (4, R3.app gD (R3.srW [i17])), (4, fu fa), (0, R64.row DE), (1, R64.app kn (R64.srW [x25]))]) (fun c2 h =>
 ra (aE h) [(3, eb c0_), (3, eb c1), (2, .call (cb (fH n cm) c2) [] [(0, 0)] [])])) (fun c1 h =>
 ra (bO h) [(3, eb c0_), (3, eb c1), (1, .ren 137 601404)])) (fun c0_ h =>
 ra (bO h) [(3, eb c0_), (2, .ren 137 601404)])
def xU (k_3:Int→(List au)→Int→an→ag→aj→(List ar)→ar→(List Int)→(List ae)→Option ((List ar)×an)):Nat→Int→Int→(List au)→Int→an→ag→aj→(List ar)→(List ae)→ar→(List Int)→(List ae)→Option ((List ar)×an)
 |0,_,_,_,_,_,_,_,_,_,_,_,_=>none
 |n+1,n10,i17,t29,t30,b0,b5,b6,b9,b50,b14,db,m8=>Hn k_3 (xU k_3 n) n n10 i17 t29 t30 b0 b5 b6 b9 b50 b14 db m8
theorem acw {k_3} (bO:K10 (A10 [1,1,1,1,1,0,0,1,0,0,1,0,1,1]) IJ k_3):∀n:Nat,K12 (A10 [0,1,1,0,1,1,0,1,1,1,1,0,0,1,0,0,1,0,1,1]) IM (xU k_3 n)
 |0=>fun _ _ _ _ _ _ _ _ _ _ _ _ _ h=>nz h
 |n+1=>fun _ _ _ _ _ _ _ _ _ _ _ _ _ h=>akM bO (acw bO n) n h
def Hm (k_2 : Int → Int → Bool → (List au) → Int → an → ag → aj → (List ar) → ar → (List Int) → (List ae) → Option ((List ar) × an)) (back : Int → Int → Bool → Int → (List au) → Int → an → ag → aj → (List ar) → ar → (List Int) → (List ae) → Option ((List ar) × an)) (n : Nat) (n10 mA : Int) (g5 : Bool) (i20 : Int) (t29 : List au) (t30 : Int) (b0 : an) (b5 : ag) (b6 : aj) (b9 : List ar) (b14 : ar) (db : List Int) (dU : List ae) : Option ((List ar) × an) :=
 if !decide (i20 < 0) then
 (bnd b9.length i20).bind fun x9 =>
 (b9[0 + x9]?).bind fun x12 =>
 (bnd b9.length i20).bind fun x16 =>
 (b9[0 + x16]?).bind fun x19 =>
 (F36 n b14.ax b14.aA x12.ax x19.aA).bind fun x21 =>
 if x21 == 0 then
 back n10 mA true (w64 (i20 - 1)) t29 t30 b0 b5 b6 b9 (ar.mk b14.fOp b14.ax b14.aA db dU) db dU
 else
 if x21 == (-1) then
 back n10 i20 g5 (w64 (i20 - 1)) t29 t30 b0 b5 b6 b9 (ar.mk b14.fOp b14.ax b14.aA db dU) db dU
 else
 back n10 mA g5 (w64 (i20 - 1)) t29 t30 b0 b5 b6 b9 (ar.mk b14.fOp b14.ax b14.aA db dU) db dU
 else
 k_2 n10 mA g5 t29 t30 b0 b5 b6 b9 (ar.mk b14.fOp b14.ax b14.aA db dU) db dU
theorem akL {k_2} (cR : K12 (A10 [1, 1, 1, 1, 1, 1, 1, 0, 0, 1, 0, 0, 1, 0, 1, 1]) IK k_2) {back} (aE : K13 (A10 [0, 1, 0, 1, 1, 1, 1, 1, 1, 0, 0, 1, 0, 0, 1, 0, 1, 1]) IL back) (n : Nat) : K13 (A10 [0, 1, 0, 1, 1, 1, 1, 1, 1, 0, 0, 1, 0, 0, 1, 0, 1, 1]) IL (Hm k_2 back n) := fun n10 mA g5 i20 t29 t30 b0 b5 b6 b9 b14 db dU r h =>
 ie h (fun c0_ h =>
 be h fun x9 hx9 h =>
 be h fun x12 cM h =>
 be h fun x16 cU h =>
 be h fun x19 lI h =>
 be h fun x21 j4 h =>
 ie h (fun c1 h =>
 ra (aE h) [(1, eb c0_), (6, fu hx9), (1, R54.row cM), (2, fu cU), (1, R54.row lI), (0, .call (ZD n j4) [] [] []), (0, eb c1)]) (fun c1 h =>
 ie h (fun c2 h =>
 ra (aE h) [(1, eb c0_), (6, fu hx9), (1, R54.row cM), (2, fu cU), (1, R54.row lI), (0, .call (ZD n j4) [] [] []), (0, eb c1), (1, eb c2)]) (fun c2 h =>
 ra (aE h) [(1, eb c0_), (6, fu hx9), (1, R54.row cM), (2, fu cU), (1, R54.row lI), (0, .call (ZD n j4) [] [] []), (0, eb c1), (1, eb c2)]))) (fun c0_ h =>
 ra (cR h) [(1, eb c0_)])
def xT (k_2:Int→Int→Bool→(List au)→Int→an→ag→aj→(List ar)→ar→(List Int)→(List ae)→Option ((List ar)×an)):Nat→Int→Int→Bool→Int→(List au)→Int→an→ag→aj→(List ar)→ar→(List Int)→(List ae)→Option ((List ar)×an)
 |0,_,_,_,_,_,_,_,_,_,_,_,_,_=>none
 |n+1,n10,mA,g5,i20,t29,t30,b0,b5,b6,b9,b14,db,dU=>Hm k_2 (xT k_2 n) n n10 mA g5 i20 t29 t30 b0 b5 b6 b9 b14 db dU
theorem acv {k_2} (cR:K12 (A10 [1,1,1,1,1,1,1,0,0,1,0,0,1,0,1,1]) IK k_2):∀n:Nat,K13 (A10 [0,1,0,1,1,1,1,1,1,0,0,1,0,0,1,0,1,1]) IL (xT k_2 n)
 |0=>fun _ _ _ _ _ _ _ _ _ _ _ _ _ _ h=>nz h
 |n+1=>fun _ _ _ _ _ _ _ _ _ _ _ _ _ _ h=>akL cR (acv cR n) n h
def Hl (k_5 : Int → an → ag → aj → (List ar) → Option ((List ar) × an)) (n : Nat) (n10 mA : Int) (g5 : Bool) (t29 : List au) (t30 : Int) (b0 : an) (b5 : ag) (b6 : aj) (b9 : List ar) (b14 : ar) (db : List Int) (dU : List ae) : Option ((List ar) × an) :=
 if !g5 then
 (iA b9.length mA).bind fun x5 =>
 (ug b9.length mA).bind fun x11 =>
 (app [(ar.mk b14.fOp b14.ax b14.aA db dU)] ((b9.drop (0 + x11)).take (b9.length - x11))).bind fun x13 =>
 (wj b9 x5 x13).bind fun x15 =>
 k_5 (w64 (n10 - 1)) b0 b5 b6 x15
 else
 k_5 (w64 (n10 - 1)) b0 b5 b6 b9
theorem akK {k_5} (fO : K5 (A10 [0, 1, 0, 1, 1]) sw k_5) (n : Nat) : K12 (A10 [1, 1, 1, 1, 1, 1, 1, 0, 0, 1, 0, 0, 1, 0, 1, 1]) IK (Hl k_5 n) := fun n10 mA g5 t29 t30 b0 b5 b6 b9 b14 db dU r h =>
 ie h (fun c0_ h =>
 be h fun x5 hx5 h =>
 be h fun x11 cm h =>
 be h fun x13 bS h =>
 be h fun x15 gE h =>
 ra (fO h) [(1, eb c0_), (0, R3.frz 129 db), (0, R64.frz 601404 dU), (2, R54.iA (xs := b9) hx5 (Nat.le_of_eq rfl)), (0, .nrm (.agg [.same, .same, .same, .sl 0 0, .sl 0 0])), (3, R54.ug (xs := b9) cm (Nat.le_of_eq rfl)), (0, R54.app bS (R54.sr (xs := b9) (aeq cm (Nat.le_of_eq rfl)))), (0, R54.wj gE (R54.srW x13))]) (fun c0_ h =>
 ra (fO h) [(1, eb c0_)])
def uK (k_5 : Int → an → ag → aj → (List ar) → Option ((List ar) × an)) (n : Nat) (n10 : Int) (t29 : List au) (t30 : Int) (b0 : an) (b5 : ag) (b6 : aj) (b9 : List ar) (b14 : ar) (db : List Int) (dU : List ae) : Option ((List ar) × an) :=
 xT (Hl k_5 n) n n10 (b9.length : Int) false (w64 ((b9.length : Int) - 1)) t29 t30 b0 b5 b6 b9 (ar.mk b14.fOp b14.ax b14.aA db dU) db dU
theorem adh {k_5} (fO : K5 (A10 [0, 1, 0, 1, 1]) sw k_5) (n : Nat) : K10 (A10 [1, 1, 1, 1, 1, 0, 0, 1, 0, 0, 1, 0, 1, 1]) IJ (uK k_5 n) := fun n10 t29 t30 b0 b5 b6 b9 b14 db dU r h =>
 ra (acv (akK fO n) n h) []
def ye (k_5 : Int → an → ag → aj → (List ar) → Option ((List ar) × an)) (n : Nat) (n10 t11 : Int) (t29 : List au) (t30 : Int) (b0 : an) (b5 : ag) (b6 : aj) (b9 : List ar) (b50 : List ae) : Option ((List ar) × an) :=
 (idx b5.ah t11).bind fun x6 =>
 (iA b50.length x6.aA).bind fun x10_ =>
 (app [] ((b50.drop 0).take x10_)).bind fun x12 =>
 (F35 n b5 b6 t11 x12).bind fun x23 =>
 (F29 n b0 8).bind fun x32 =>
 if !(x23.2 == x32.1) then
 (F24 n x32.2 2).bind fun x36 =>
 (idx b5.ah t11).bind fun x46 =>
 xU (uK k_5 n) n n10 x46.aA t29 t30 x36.2 b5 b6 b9 b50 (ar.mk (w64 (2 + x36.1)) t11 x12 [] []) [] []
 else
 uK k_5 n n10 t29 t30 x32.2 b5 b6 b9 (ar.mk 1 t11 x12 [] b50) [] b50
theorem RF {k_5} (fO : K5 (A10 [0, 1, 0, 1, 1]) sw k_5) (n : Nat) : K9 (A10 [1, 1, 1, 0, 0, 1, 0, 0, 1, 0, 1, 1]) afg (ye k_5 n) := fun n10 t11 t29 t30 b0 b5 b6 b9 b50 r h =>
 be h fun x6 hx6 h =>
 be h fun x10_ dr h =>
 be h fun x12 cM h =>
 be h fun x23 fa h =>
 be h fun x32 Qx h =>
 ie h (fun c0_ h =>
 be h fun x36 hx36 h =>
 be h fun x46 Qv h =>
 ra (acw (adh fO n) n h) [(5, R62.idx hx6), (2, R64.iA (xs := b50) dr (Nat.le_of_eq rfl)), (0, .born [] [] 85 true 65 3), (0, R64.app (xs := []) cM (R64.sr (xs := b50) (by rw [Nat.zero_add]; exact (Nat.le_trans (ku dr).2 (Nat.le_of_eq rfl))))), (9, R64.frz 85 x12), (0, .call (ev35 n fa) [.one .same, .one .same, .one .same, .one (.sl 0 0)] [] [(309400, 200000)]), (7, .call (fH n Qx) [] [(0, 0)] []), (0, eb c0_), (1, .call (dB n hx36) [] [(0, 0)] []), (8, R62.idx Qv), (3, .born [] [(14, 3)] 129 true 3 1), (0, .born [] [(14, 4)] 137 true 65 3)]) (fun c0_ h =>
 ra (adh fO n h) [(5, R62.idx hx6), (2, R64.iA (xs := b50) dr (Nat.le_of_eq rfl)), (0, .born [] [] 85 true 65 3), (0, R64.app (xs := []) cM (R64.sr (xs := b50) (by rw [Nat.zero_add]; exact (Nat.le_trans (ku dr).2 (Nat.le_of_eq rfl))))), (9, R64.frz 85 x12), (0, .call (ev35 n fa) [.one .same, .one .same, .one .same, .one (.sl 0 0)] [] [(309400, 200000)]), (7, .call (fH n Qx) [] [(0, 0)] []), (0, eb c0_), (0, .ren 50 601404), (0, .born [] [(14, 3)] 129 true 3 1)])
def Hk (k_6 : an → (List ar) → Option ((List ar) × an)) (back : Int → an → ag → aj → (List ar) → Option ((List ar) × an)) (n : Nat) (n10 : Int) (b0 : an) (b5 : ag) (b6 : aj) (b9 : List ar) : Option ((List ar) × an) :=
 if decide (0 < n10) then
 if decide (0 < (b5.ah.length : Int)) then
 (F24 n b0 (b5.ah.length : Int)).bind fun x13 =>
 (F32 n b5 x13.1).bind fun x19 =>
 (idx b5.ah x13.1).bind fun x24 =>
 (F33 n x13.2 x19 x24.aA 1).bind fun x28 =>
 (idx b6.ah x13.1).bind fun x34 =>
 if decide (0 < (x34.length : Int)) then
 (F29 n x28.2 3).bind fun x43 =>
 if !x43.1 then
 (F24 n x43.2 (x34.length : Int)).bind fun x54 =>
 (idx x34 x54.1).bind fun x56 =>
 (F34 n b5 x13.1 x56).bind fun x59 =>
 (cpy x28.1 x59).bind fun x61 =>
 ye back n n10 x13.1 b5.ah (b5.ah.length : Int) x54.2 b5 b6 b9 x61
 else
 ye back n n10 x13.1 b5.ah (b5.ah.length : Int) x43.2 b5 b6 b9 x28.1
 else
 ye back n n10 x13.1 b5.ah (b5.ah.length : Int) x28.2 b5 b6 b9 x28.1
 else
 k_6 b0 b9
 else
 k_6 b0 b9
theorem akJ {k_6} (vI : K2 (A10 [1, 1, 1]) II k_6) {back} (aE : K5 (A10 [0, 1, 0, 1, 1]) sw back) (n : Nat) : K5 (A10 [0, 1, 0, 1, 1]) sw (Hk k_6 back n) := fun n10 b0 b5 b6 b9 r h =>
 ie h (fun c0_ h =>
 ie h (fun c1 h =>
 be h fun x13 bS h =>
 be h fun x19 lI h =>
 be h fun x24 lH h =>
 be h fun x28 kn h =>
 be h fun x34 tP h =>
 ie h (fun c2 h =>
 be h fun x43 zc h =>
 ie h (fun c3 h =>
 be h fun x54 J7 h =>
 be h fun x56 Ze h =>
 be h fun x59 Qu h =>
 be h fun x61 hx61 h =>
 ra (RF aE n h) [(1, eb c0_), (3, .eqv (R62.az b5.ah)), (0, eb c1), (4, .eqv (R62.az b5.ah)), (0, .call (dB n bS) [] [(0, 0)] []), (4, .call (cd (e := 3) (z := true) (Q := bj x19) (Kx n lI) (R3.len x19)) [] [] []), (3, R62.idx lH), (2, .call (QW n kn) [.one .same, .one (.sl 0 0)] [(0, 0)] [(50, 200000)]), (4, R66.idx tP), (3, .eqv (R42.az x34)), (0, eb c2), (2, .call (fH n zc) [] [(0, 0)] []), (0, eb c3), (7, .eqv (R42.az x34)), (0, .call (dB n J7) [] [(0, 0)] []), (0, R42.idx Ze), (1, .call (zl n Qu) [] [] [(74, 200000)]), (0, R64.cpy hx61 (R64.srW x59)), (0, .seq 12 (congrArg (fun n_ => (AV.ms 50 3 0 n_)) ((aes hx61).symm)))]) (fun c3 h =>
 ra (RF aE n h) [(1, eb c0_), (3, .eqv (R62.az b5.ah)), (0, eb c1), (4, .eqv (R62.az b5.ah)), (0, .call (dB n bS) [] [(0, 0)] []), (4, .call (cd (e := 3) (z := true) (Q := bj x19) (Kx n lI) (R3.len x19)) [] [] []), (3, R62.idx lH), (2, .call (QW n kn) [.one .same, .one (.sl 0 0)] [(0, 0)] [(50, 200000)]), (4, R66.idx tP), (3, .eqv (R42.az x34)), (0, eb c2), (2, .call (fH n zc) [] [(0, 0)] []), (0, eb c3)])) (fun c2 h =>
 ra (RF aE n h) [(1, eb c0_), (3, .eqv (R62.az b5.ah)), (0, eb c1), (4, .eqv (R62.az b5.ah)), (0, .call (dB n bS) [] [(0, 0)] []), (4, .call (cd (e := 3) (z := true) (Q := bj x19) (Kx n lI) (R3.len x19)) [] [] []), (3, R62.idx lH), (2, .call (QW n kn) [.one .same, .one (.sl 0 0)] [(0, 0)] [(50, 200000)]), (4, R66.idx tP), (3, .eqv (R42.az x34)), (0, eb c2)])) (fun c1 h =>
 ra (vI h) [(1, eb c0_), (3, .eqv (R62.az b5.ah)), (0, eb c1)])) (fun c0_ h =>
 ra (vI h) [(1, eb c0_)])
def rN (k_6:an→(List ar)→Option ((List ar)×an)):Nat→Int→an→ag→aj→(List ar)→Option ((List ar)×an)
 |0,_,_,_,_,_=>none
 |n+1,n10,b0,b5,b6,b9=>Hk k_6 (rN k_6 n) n n10 b0 b5 b6 b9
theorem acu {k_6} (vI:K2 (A10 [1,1,1]) II k_6):∀n:Nat,K5 (A10 [0,1,0,1,1]) sw (rN k_6 n)
 |0=>fun _ _ _ _ _ _ h=>nz h
 |n+1=>fun _ _ _ _ _ _ h=>akJ vI (acu vI n) n h
def yd (n : Nat) (b0 : an) (b9 : List ar) : Option ((List ar) × an) :=
 some (b9, b0)
theorem akI (n : Nat) : K2 (A10 [1, 1, 1]) II (yd n) := fun b0 b9 r h =>
 rr h [(2, .ren 500009 200000)]
def Ta (n : Nat) (c0 : an) (s1 : ag) (st2 : aj) (wY : Int) : Option ((List ar) × an) :=
 (F24 n c0 (w64 (wY + 1))).bind fun x8 =>
 rN (yd n) n x8.1 x8.2 s1 st2 []
theorem akH (n : Nat) : K4 (A10 []) Uv (Ta n) := fun c0 s1 st2 wY r h =>
 be h fun x8 hx8 h =>
 ra (acu (akI n) n h) [(7, .call (dB n hx8) [] [(0, 0)] []), (1, .born [9] [] 500009 true 55 5)]
def F10 (n:Nat) (c0:an) (s1:ag) (st2:aj) (wY:Int):Option ((List ar)×an):=Ta n c0 s1 st2 wY
theorem DY (n:Nat):K4 C10 Uv (F10 n):=fun _ _ _ _ _ h=>ca (X:=x10) (akH n h)
def abh (r:(aj×(List (List (List ae))))):AV:=.agg [.ms 100100 1 0 r.2.length]
def VX (r:(aj×(List (List (List ae))))):List (Nat×Bx):= [(100100,.rows false 66 1 (cY r.2))]
def x37:=fx E0 Tryz.f37 [100100] [100100]
def A37:=Ax x37 abh VX
def C37:=Cx E0 37 abh VX
def afb (aL:Int) (bD eY:List ae) (eV:Bool) (r14:List ae) (c15:Int) (t23:List (List ae)) (t24 t25:Int) (bH:List (List (List ae))) (b5:ag) (b6 b10:aj) (b45:List (List ae)):LS:=⟨[(2,.int .i64 aL),(3,.slice 65 3 (aH bD)),(4,.slice 65 3 (aH eY)),(5,.loc 5 0),(6,.loc 6 0),(10,.loc 10 0),(11,.ms 45 1 0 b45.length),(12,.bool eV),(14,.slice 65 3 (aH r14)),(15,.int .i64 c15),(23,.slice 43 1 (cr t23)),(24,.int .i64 t24),(25,.int .i64 t25)],[(5,.flat 26 (bf b5)),(6,.flat 33 [.ms 100100 1 0 bH.length]),(10,.flat 33 [.aR]),(45,.rows true 43 1 (cr b45)),(100100,.rows false 66 1 (cY bH))]⟩
def zZ (aL:Int) (bD eY:List ae) (eV:Bool) (t23:List (List ae)) (t24 t25:Int) (bH:List (List (List ae))) (b5:ag) (b6 b10:aj) (b45:List (List ae)):LS:=⟨[(2,.int .i64 aL),(3,.slice 65 3 (aH bD)),(4,.slice 65 3 (aH eY)),(5,.loc 5 0),(6,.loc 6 0),(10,.loc 10 0),(11,.ms 45 1 0 b45.length),(12,.bool eV),(23,.slice 43 1 (cr t23)),(24,.int .i64 t24),(25,.int .i64 t25)],[(5,.flat 26 (bf b5)),(6,.flat 33 [.ms 100100 1 0 bH.length]),(10,.flat 33 [.aR]),(45,.rows true 43 1 (cr b45)),(100100,.rows false 66 1 (cY bH))]⟩
def afa (aL:Int) (bH:List (List (List ae))) (b6 b10:aj) (b45:List (List ae)):LS:=⟨[(2,.int .i64 aL),(6,.loc 6 0),(10,.loc 10 0),(11,.ms 45 1 0 b45.length)],[(6,.flat 33 [.ms 100100 1 0 bH.length]),(10,.flat 33 [.aR]),(45,.rows true 43 1 (cr b45)),(100100,.rows false 66 1 (cY bH))]⟩
def Ik (aL:Int) (eY:List ae) (eV:Bool) (bH:List (List (List ae))) (b6 b10:aj) (b45:List (List ae)):LS:=⟨[(2,.int .i64 aL),(4,.slice 65 3 (aH eY)),(6,.loc 6 0),(10,.loc 10 0),(11,.ms 45 1 0 b45.length),(12,.bool eV)],[(6,.flat 33 [.ms 100100 1 0 bH.length]),(10,.flat 33 [.aR]),(45,.rows true 43 1 (cr b45)),(100100,.rows false 66 1 (cY bH))]⟩
def Ua (s0:ag) (st1:aj) (aL:Int) (bD eY:List ae):LS:=⟨[(0,.agg (bf s0)),(1,.agg [.ms 100100 1 0 st1.ah.length]),(2,.int .i64 aL),(3,.slice 65 3 (aH bD)),(4,.slice 65 3 (aH eY))],[(100100,.rows false 66 1 (cY st1.ah))]⟩
def uI (k_1 : Int → (List ae) → (List ae) → Bool → (List (List ae)) → Int → Int → (List (List (List ae))) → ag → aj → aj → (List (List ae)) → Option (aj × (List (List (List ae))))) (n : Nat) (aL : Int) (bD eY : List ae) (eV : Bool) (r14 : List ae) (c15 : Int) (t23 : List (List ae)) (t24 t25 : Int) (bH : List (List (List ae))) (b5 : ag) (b6 b10 : aj) (b45 : List (List ae)) : Option (aj × (List (List (List ae)))) :=
 if c15 != 0 then
 (app b45 [r14]).bind fun x6 =>
 k_1 aL bD eY eV t23 t24 (w64 (t25 + 1)) bH b5 (aj.mk bH) (aj.mk []) x6
 else
 k_1 aL bD eY eV t23 t24 (w64 (t25 + 1)) bH b5 (aj.mk bH) (aj.mk []) b45
theorem RC {k_1} (aK : K12 (A37 [0, 1, 0, 1, 1, 1]) zZ k_1) (n : Nat) : K14 (A37 [1, 1, 1, 0, 0, 1, 1, 0, 0, 1, 0, 1, 1, 1]) afb (uI k_1 n) := fun aL bD eY eV r14 c15 t23 t24 t25 bH b5 b6 b10 b45 r h =>
 ie h (fun c0 h =>
 be h fun x6 hx6 h =>
 ra (aK h) [(1, eb c0), (3, R42.app hx6 (R42.srW [r14]))]) (fun c0 h =>
 ra (aK h) [(1, eb c0)])
def GY (k_3 : Int → (List ae) → Bool → (List (List (List ae))) → aj → aj → (List (List ae)) → Option (aj × (List (List (List ae))))) (back : Int → (List ae) → (List ae) → Bool → (List (List ae)) → Int → Int → (List (List (List ae))) → ag → aj → aj → (List (List ae)) → Option (aj × (List (List (List ae))))) (n : Nat) (aL : Int) (bD eY : List ae) (eV : Bool) (t23 : List (List ae)) (t24 t25 : Int) (bH : List (List (List ae))) (b5 : ag) (b6 b10 : aj) (b45 : List (List ae)) : Option (aj × (List (List (List ae)))) :=
 if decide (t25 < t24) then
 (idx t23 t25).bind fun x2 =>
 (F34 n b5 aL x2).bind fun x9 =>
 (F22 n x9 bD).bind fun x12 =>
 if !decide (x12 < 0) then
 if !eV then
 (F54 n eY).bind fun x23 =>
 (app b45 [x23]).bind fun x26 =>
 uI back n aL bD eY true x2 x12 t23 t24 t25 bH b5 (aj.mk bH) (aj.mk []) x26
 else
 uI back n aL bD eY eV x2 x12 t23 t24 t25 bH b5 (aj.mk bH) (aj.mk []) b45
 else
 uI back n aL bD eY eV x2 x12 t23 t24 t25 bH b5 (aj.mk bH) (aj.mk []) b45
 else
 k_3 aL eY eV bH (aj.mk bH) (aj.mk []) b45
theorem ajP {k_3} (bO : K7 (A37 [1, 1, 1, 1]) Ik k_3) {back} (aE : K12 (A37 [0, 1, 0, 1, 1, 1]) zZ back) (n : Nat) : K12 (A37 [0, 1, 0, 1, 1, 1]) zZ (GY k_3 back n) := fun aL bD eY eV t23 t24 t25 bH b5 b6 b10 b45 r h =>
 ie h (fun c0 h =>
 be h fun x2 hx2 h =>
 be h fun x9 hx9 h =>
 be h fun x12 cM h =>
 ie h (fun c1 h =>
 ie h (fun c2 h =>
 be h fun x23 fa h =>
 be h fun x26 eZ h =>
 ra (RC aE n h) [(0, eb c0), (0, R42.idx hx2), (5, .call (zl n hx9) [] [] [(32, 200000)]), (1, R64.frz 32 x9), (0, .call (mY n cM) [.one (.sl 0 0)] [] []), (2, eb c1), (2, eb c2), (3, .call (QU n fa) [] [] [(43, 200000)]), (0, R64.frz 43 x23), (0, .norm [(43, .one (.sl 0 0))] []), (1, R42.app eZ (R42.srW [x23]))]) (fun c2 h =>
 ra (RC aE n h) [(0, eb c0), (0, R42.idx hx2), (5, .call (zl n hx9) [] [] [(32, 200000)]), (1, R64.frz 32 x9), (0, .call (mY n cM) [.one (.sl 0 0)] [] []), (2, eb c1), (2, eb c2)])) (fun c1 h =>
 ra (RC aE n h) [(0, eb c0), (0, R42.idx hx2), (5, .call (zl n hx9) [] [] [(32, 200000)]), (1, R64.frz 32 x9), (0, .call (mY n cM) [.one (.sl 0 0)] [] []), (2, eb c1)])) (fun c0 h =>
 ra (bO h) [(0, eb c0)])
def rM (k_3:Int→(List ae)→Bool→(List (List (List ae)))→aj→aj→(List (List ae))→Option (aj×(List (List (List ae))))):Nat→Int→(List ae)→(List ae)→Bool→(List (List ae))→Int→Int→(List (List (List ae)))→ag→aj→aj→(List (List ae))→Option (aj×(List (List (List ae))))
 |0,_,_,_,_,_,_,_,_,_,_,_,_=>none
 |n+1,aL,bD,eY,eV,t23,t24,t25,bH,b5,b6,b10,b45=>GY k_3 (rM k_3 n) n aL bD eY eV t23 t24 t25 bH b5 b6 b10 b45
theorem ace {k_3} (bO:K7 (A37 [1,1,1,1]) Ik k_3):∀n:Nat,K12 (A37 [0,1,0,1,1,1]) zZ (rM k_3 n)
 |0=>fun _ _ _ _ _ _ _ _ _ _ _ _ _ h=>nz h
 |n+1=>fun _ _ _ _ _ _ _ _ _ _ _ _ _ h=>ajP bO (ace bO n) n h
def GX (n : Nat) (aL : Int) (bH : List (List (List ae))) (b6 b10 : aj) (b45 : List (List ae)) : Option (aj × (List (List (List ae)))) :=
 (bnd bH.length aL).bind fun x5 =>
 (bH[0 + x5]?).bind fun x7 =>
 (setAt bH (0 + x5) b45).bind fun z8 =>
 some ((aj.mk z8), z8)
theorem adg (n : Nat) : K5 (A37 [1, 1, 1, 1, 1]) afa (GX n) := fun aL bH b6 b10 b45 r h =>
 be h fun x5 hx5 h =>
 be h fun x7 hx7 h =>
 be h fun z8 hz8 h =>
 rr h [(4, fu hx5), (0, R42.frz 45 b45), (0, .norm [(63, .one (.sl 0 0))] []), (0, R66.sto 0 [.slice 43 1 (cr b45)] hx7 hz8 (by kernel_rfl)), (2, .beq 10 (congrArg (fun n_ => (Bx.flat 33 [.ms 100100 1 0 n_])) ((eP hz8).symm)))]
def yb (n : Nat) (aL : Int) (eY : List ae) (eV : Bool) (bH : List (List (List ae))) (b6 b10 : aj) (b45 : List (List ae)) : Option (aj × (List (List (List ae)))) :=
 if !eV then
 (F54 n eY).bind fun x5 =>
 (app b45 [x5]).bind fun x8 =>
 GX n aL bH (aj.mk bH) (aj.mk []) x8
 else
 GX n aL bH (aj.mk bH) (aj.mk []) b45
theorem ajO (n : Nat) : K7 (A37 [1, 1, 1, 1]) Ik (yb n) := fun aL eY eV bH b6 b10 b45 r h =>
 ie h (fun c0 h =>
 be h fun x5 hx5 h =>
 be h fun x8 hx8 h =>
 ra (adg n h) [(1, eb c0), (2, .call (QU n hx5) [] [] [(57, 200000)]), (0, R64.frz 57 x5), (0, .norm [(57, .one (.sl 0 0))] []), (1, R42.app hx8 (R42.srW [x5]))]) (fun c0 h =>
 ra (adg n h) [(1, eb c0)])
def SQ (n : Nat) (s0 : ag) (st1 : aj) (aL : Int) (bD eY : List ae) : Option (aj × (List (List (List ae)))) :=
 (bnd st1.ah.length aL).bind fun x12 =>
 (st1.ah[0 + x12]?).bind fun x14 =>
 rM (yb n) n aL bD eY ((eY.length : Int) == 0) x14 (x14.length : Int) 0 st1.ah s0 st1 (aj.mk []) []
theorem ajN (n : Nat) : K5 (A37 []) Ua (SQ n) := fun s0 st1 aL bD eY r h =>
 be h fun x12 cM h =>
 be h fun x14 jl h =>
 ra (ace (ajO n) n h) [(5, .eqv (R64.az eY)), (5, fu cM), (0, R66.row jl), (0, .eqv (R42.az x14)), (1, .born [11] [] 45 true 43 1)]
def F37 (n:Nat) (s0:ag) (st1:aj) (aL:Int) (bD eY:List ae):Option (aj×(List (List (List ae)))):=SQ n s0 st1 aL bD eY
theorem ev37 (n:Nat):K5 C37 Ua (F37 n):=fun _ _ _ _ _ _ h=>ca (X:=x37) (ajN n h)
def abz (r:(aj×an)):AV:=.agg (cP r.1)
def We (r:(aj×an)):List (Nat×Bx):= [(0,.flat 74 (bE r.2))]
def x11:=fx E0 Tryz.f11 [0] [0]
def A11:=Ax x11 abz We
def C11:=Cx E0 11 abz We
def IH (dY t8 n9 t18 t19:Int) (b0:an) (b4:ag) (b6 b7:aj) (b14:List (List (List ae))):LS:=⟨[(0,.loc 0 0),(2,.int .i64 dY),(4,.loc 4 0),(6,.loc 6 0),(7,.loc 7 0),(8,.int .i64 t8),(9,.int .i64 n9),(18,.int .i64 t18),(19,.int .i64 t19)],[(0,.flat 74 (bE b0)),(4,.flat 26 (bf b4)),(6,.flat 33 [.aR]),(7,.flat 33 [.ms 14 1 0 b14.length]),(14,.rows false 66 1 (cY b14))]⟩
def IG (dY t18 t19:Int) (b0:an) (b4:ag) (b6 b7:aj) (b14:List (List (List ae))):LS:=⟨[(0,.loc 0 0),(2,.int .i64 dY),(4,.loc 4 0),(6,.loc 6 0),(7,.loc 7 0),(18,.int .i64 t18),(19,.int .i64 t19)],[(0,.flat 74 (bE b0)),(4,.flat 26 (bf b4)),(6,.flat 33 [.aR]),(7,.flat 33 [.ms 14 1 0 b14.length]),(14,.rows false 66 1 (cY b14))]⟩
def Aa (dY t18 t19:Int) (b0:an) (b4:ag) (b6 b7:aj) (b14:List (List (List ae))):LS:=⟨[(0,.loc 0 0),(2,.int .i64 dY),(4,.loc 4 0),(6,.loc 6 0),(7,.loc 7 0),(18,.int .i64 t18),(19,.int .i64 t19)],[(0,.flat 74 (bE b0)),(4,.flat 26 (bf b4)),(6,.flat 33 [.aR]),(7,.flat 33 [.ms 14 1 0 b14.length]),(14,.rows false 66 1 (cY b14))]⟩
def IF (b0:an) (b6 b7:aj) (b14:List (List (List ae))):LS:=⟨[(6,.loc 6 0),(7,.loc 7 0)],[(0,.flat 74 (bE b0)),(6,.flat 33 [.aR]),(7,.flat 33 [.ms 14 1 0 b14.length]),(14,.rows false 66 1 (cY b14))]⟩
def Uu (c0:an) (s1:ag) (dY:Int):LS:=⟨[(0,.loc 0 0),(1,.agg (bf s1)),(2,.int .i64 dY)],[(0,.flat 74 (bE c0))]⟩
def Hj (k_1 : Int → Int → Int → an → ag → aj → aj → (List (List (List ae))) → Option (aj × an)) (back : Int → Int → Int → Int → Int → an → ag → aj → aj → (List (List (List ae))) → Option (aj × an)) (n : Nat) (dY t8 n9 t18 t19 : Int) (b0 : an) (b4 : ag) (b6 b7 : aj) (b14 : List (List (List ae))) : Option (aj × an) :=
 if decide (0 < n9) then
 (F32 n b4 t8).bind fun x6 =>
 (idx b4.ah t8).bind fun x11_ =>
 (F33 n b0 x6 x11_.aA dY).bind fun x16 =>
 (F34 n b4 t8 x16.1).bind fun x25 =>
 (F37 n b4 (aj.mk b14) t8 x25 x16.1).bind fun x28 =>
 back dY t8 (w64 (n9 - 1)) t18 t19 x16.2 b4 (aj.mk []) (aj.mk x28.2) x28.2
 else
 k_1 dY t18 t19 b0 b4 (aj.mk []) (aj.mk b14) b14
theorem akG {k_1} (aK : K8 (A11 [1, 1, 1, 0, 0, 1, 0, 1, 1]) IG k_1) {back} (aE : K10 (A11 [0, 1, 1, 0, 0, 1, 1, 0, 0, 1, 0, 1, 1]) IH back) (n : Nat) : K10 (A11 [0, 1, 1, 0, 0, 1, 1, 0, 0, 1, 0, 1, 1]) IH (Hj k_1 back n) := fun dY t8 n9 t18 t19 b0 b4 b6 b7 b14 r h =>
 ie h (fun c0_ h =>
 be h fun x6 hx6 h =>
 be h fun x11_ cm h =>
 be h fun x16 cU h =>
 be h fun x25 DE h =>
 be h fun x28 kn h =>
 ra (aE h) [(1, eb c0_), (3, .call (cd (e := 3) (z := true) (Q := bj x6) (Kx n hx6) (R3.len x6)) [] [] []), (3, R62.idx cm), (3, .call (QW n cU) [.one .same, .one (.sl 0 0)] [(0, 0)] [(39, 200000)]), (1, R64.frz 39 x16.1), (6, .call (cd (e := 65) (z := true) (Q := aH x25) (zl n DE) (R64.len x25)) [.one .same, .one .same, .one (.sl 0 0)] [] []), (1, .call (ev37 n kn) [.one .same, .one .same, .one .same, .one (.sl 0 0), .one (.sl 0 0)] [(14, 100100)] [])]) (fun c0_ h =>
 ra (aK h) [(1, eb c0_)])
def xS (k_1:Int→Int→Int→an→ag→aj→aj→(List (List (List ae)))→Option (aj×an)):Nat→Int→Int→Int→Int→Int→an→ag→aj→aj→(List (List (List ae)))→Option (aj×an)
 |0,_,_,_,_,_,_,_,_,_,_=>none
 |n+1,dY,t8,n9,t18,t19,b0,b4,b6,b7,b14=>Hj k_1 (xS k_1 n) n dY t8 n9 t18 t19 b0 b4 b6 b7 b14
theorem acs {k_1} (aK:K8 (A11 [1,1,1,0,0,1,0,1,1]) IG k_1):∀n:Nat,K10 (A11 [0,1,1,0,0,1,1,0,0,1,0,1,1]) IH (xS k_1 n)
 |0=>fun _ _ _ _ _ _ _ _ _ _ _ h=>nz h
 |n+1=>fun _ _ _ _ _ _ _ _ _ _ _ h=>akG aK (acs aK n) n h
def Hi (k_2 : Int → Int → Int → an → ag → aj → aj → (List (List (List ae))) → Option (aj × an)) (n : Nat) (dY t18 t19 : Int) (b0 : an) (b4 : ag) (b6 b7 : aj) (b14 : List (List (List ae))) : Option (aj × an) :=
 k_2 dY t18 (w64 (t19 + 1)) b0 b4 (aj.mk []) (aj.mk b14) b14
theorem akF {k_2} (cR : K8 (A11 [0, 1, 0, 1, 1]) Aa k_2) (n : Nat) : K8 (A11 [1, 1, 1, 0, 0, 1, 0, 1, 1]) IG (Hi k_2 n) := fun dY t18 t19 b0 b4 b6 b7 b14 r h =>
 ra (cR h) []
def Hh (k_3 : an → aj → aj → (List (List (List ae))) → Option (aj × an)) (back : Int → Int → Int → an → ag → aj → aj → (List (List (List ae))) → Option (aj × an)) (n : Nat) (dY t18 t19 : Int) (b0 : an) (b4 : ag) (b6 b7 : aj) (b14 : List (List (List ae))) : Option (aj × an) :=
 if decide (t19 < t18) then
 (F24 n b0 5).bind fun x5 =>
 xS (Hi back n) n dY t19 x5.1 t18 t19 x5.2 b4 (aj.mk []) (aj.mk b14) b14
 else
 k_3 b0 (aj.mk []) (aj.mk b14) b14
theorem akE {k_3} (bO : K4 (A11 [1, 1, 1]) IF k_3) {back} (aE : K8 (A11 [0, 1, 0, 1, 1]) Aa back) (n : Nat) : K8 (A11 [0, 1, 0, 1, 1]) Aa (Hh k_3 back n) := fun dY t18 t19 b0 b4 b6 b7 b14 r h =>
 ie h (fun c0_ h =>
 be h fun x5 hx5 h =>
 ra (acs (akF aE n) n h) [(0, eb c0_), (3, .call (dB n hx5) [] [(0, 0)] [])]) (fun c0_ h =>
 ra (bO h) [(0, eb c0_)])
def uF (k_3:an→aj→aj→(List (List (List ae)))→Option (aj×an)):Nat→Int→Int→Int→an→ag→aj→aj→(List (List (List ae)))→Option (aj×an)
 |0,_,_,_,_,_,_,_,_=>none
 |n+1,dY,t18,t19,b0,b4,b6,b7,b14=>Hh k_3 (uF k_3 n) n dY t18 t19 b0 b4 b6 b7 b14
theorem acr {k_3} (bO:K4 (A11 [1,1,1]) IF k_3):∀n:Nat,K8 (A11 [0,1,0,1,1]) Aa (uF k_3 n)
 |0=>fun _ _ _ _ _ _ _ _ _ h=>nz h
 |n+1=>fun _ _ _ _ _ _ _ _ _ h=>akE bO (acr bO n) n h
def Cc (n : Nat) (b0 : an) (b6 b7 : aj) (b14 : List (List (List ae))) : Option (aj × an) :=
 some ((aj.mk b14), b0)
theorem akD (n : Nat) : K4 (A11 [1, 1, 1]) IF (Cc n) := fun b0 b6 b7 b14 r h =>
 rr h [(2, R66.frz 14 b14)]
def S9 (n : Nat) (c0 : an) (s1 : ag) (dY : Int) : Option (aj × an) :=
 (l9 (s1.ah.length : Int) ([] : (List (List ae)))).bind fun x6 =>
 uF (Cc n) n dY (s1.ah.length : Int) 0 c0 s1 (aj.mk []) (aj.mk x6) x6
theorem akC (n : Nat) : K3 (A11 []) Uu (S9 n) := fun c0 s1 dY r h =>
 be h fun x6 hx6 h =>
 ra (acr (akD n) n h) [(4, .eqv (R62.az s1.ah)), (0, R66.made [.aR] [.sl 43 1] hx6 (by kernel_rfl)), (0, .seq 14 (congrArg (fun n_ => (AV.ms 14 1 0 n_)) ((I7 hx6)))), (5, .eqv (R62.az s1.ah))]
def F11 (n:Nat) (c0:an) (s1:ag) (dY:Int):Option (aj×an):=S9 n c0 s1 dY
theorem DX (n:Nat):K3 C11 Uu (F11 n):=fun _ _ _ _ h=>ca (X:=x11) (akC n h)
def U0 (r:Bool):AV:=.bool r
def N0 (r:Bool):List (Nat×Bx):= []
def x108:=fx E0 Tryz.f108 [] []
def uL:=Ax x108 U0 N0
def C108:=Cx E0 108 U0 N0
def adA (i3 c4:Int) (w5:Bool) (fV:ByteArray) (fA:Nat):LS:=⟨[(3,.int .i64 i3),(4,.int .i32 c4),(5,.bool w5),(15,.it 15)],[(15,.iter fV fA)]⟩
def wL (fV:ByteArray) (fA:Nat):LS:=⟨[(15,.it 15)],[(15,.iter fV fA)]⟩
def CN:LS:=⟨[],[]⟩
def Nv (s0:ByteArray):LS:=⟨[(0,.str s0)],[]⟩
def wF (k_1 : ByteArray → Nat → Option Bool) (n : Nat) (i3 c4 : Int) (w5 : Bool) (fV : ByteArray) (fA : Nat) : Option Bool :=
 if !w5 then
 if i3 == 0 then
 some false
 else
 if c4 != 95 then
 if decide (c4 < 48) then
 some false
 else
 if decide (57 < c4) then
 some false
 else
 k_1 fV fA
 else
 k_1 fV fA
 else
 k_1 fV fA
theorem Xv {k_1} (aK : K2 (uL [0, 1, 0, 1, 1]) wL k_1) (n : Nat) : K5 (uL [1, 1, 0, 1, 1, 0, 0, 1, 0, 1, 1]) adA (wF k_1 n) := fun i3 c4 w5 fV fA r h =>
 ie h (fun c0 h =>
 ie h (fun c1 h =>
 rr h [(1, eb c0), (2, eb c1)]) (fun c1 h =>
 ie h (fun c2 h =>
 ie h (fun c3 h =>
 rr h [(1, eb c0), (2, eb c1), (2, eb c2), (2, eb c3)]) (fun c3 h =>
 ie h (fun c4_ h =>
 rr h [(1, eb c0), (2, eb c1), (2, eb c2), (2, eb c3), (2, eb c4_)]) (fun c4_ h =>
 ra (aK h) [(1, eb c0), (2, eb c1), (2, eb c2), (2, eb c3), (2, eb c4_)]))) (fun c2 h =>
 ra (aK h) [(1, eb c0), (2, eb c1), (2, eb c2)]))) (fun c0 h =>
 ra (aK h) [(1, eb c0)])
def Cj (k_2 : Option Bool) (back : ByteArray → Nat → Option Bool) (n : Nat) (fV : ByteArray) (fA : Nat) : Option Bool :=
 if decide (fA < fV.size) then
 if !decide (((Utf8.decode fV fA).1 : Int) < 97) then
 wF back n (fA : Int) ((Utf8.decode fV fA).1 : Int) (!decide (122 < ((Utf8.decode fV fA).1 : Int))) fV (fA + (Utf8.decode fV fA).2)
 else
 wF back n (fA : Int) ((Utf8.decode fV fA).1 : Int) false fV (fA + (Utf8.decode fV fA).2)
 else
 k_2
theorem agn {k_2} (cR : K0 (uL [1, 1, 1]) CN k_2) {back} (aE : K2 (uL [0, 1, 0, 1, 1]) wL back) (n : Nat) : K2 (uL [0, 1, 0, 1, 1]) wL (Cj k_2 back n) := fun fV fA r h =>
 ie h (fun c0 h =>
 ie h (fun c1 h =>
 ra (Xv aE n h) [(0, .nxt (of_decide_eq_true c0)), (6, eb c1)]) (fun c1 h =>
 ra (Xv aE n h) [(0, .nxt (of_decide_eq_true c0)), (6, eb c1)])) (fun c0 h =>
 ra (cR h) [(0, .fin (of_decide_eq_false c0))])
def mC (k_2:Option Bool):Nat→ByteArray→Nat→Option Bool
 |0,_,_=>none
 |n+1,fV,fA=>Cj k_2 (mC k_2 n) n fV fA
theorem WH {k_2} (cR:K0 (uL [1,1,1]) CN k_2):∀n:Nat,K2 (uL [0,1,0,1,1]) wL (mC k_2 n)
 |0=>fun _ _ _ h=>nz h
 |n+1=>fun _ _ _ h=>agn cR (WH cR n) n h
def qI (n : Nat) : Option Bool :=
 some true
theorem agm (n : Nat) : K0 (uL [1, 1, 1]) CN (qI n) := fun r h =>
 rr h []
def Ml (n : Nat) (s0 : ByteArray) : Option Bool :=
 if decide ((s0.size : Int) < 1) then
 some false
 else
 if decide (32 < (s0.size : Int)) then
 some false
 else
 mC (qI n) n s0 0
theorem agl (n : Nat) : K1 (uL []) Nv (Ml n) := fun s0 r h =>
 ie h (fun c0 h =>
 rr h [(3, eb c0)]) (fun c0 h =>
 ie h (fun c1 h =>
 rr h [(3, eb c0), (3, eb c1)]) (fun c1 h =>
 ra (WH (agm n) n h) [(3, eb c0), (3, eb c1)]))
def LQ (n:Nat) (s0:ByteArray):Option Bool:=Ml n s0
theorem mq (n:Nat):K1 C108 Nv (LQ n):=fun _ _ h=>ca (X:=x108) (agl n h)
def aaI (r:Bool):AV:=.bool r
def Vw (r:Bool):List (Nat×Bx):= []
def x76:=fx E0 Tryz.f76 [] []
def A76:=Ax x76 aaI Vw
def C76:=Cx E0 76 aaI Vw
def HS (t11:List au) (t12 t13:Int) (t24:ByteArray) (t29 t34:Int) (t36:List bl) (t37:Int) (t45:List bl) (t46 t47:Int) (b9 b43:List (ByteArray×Bool)) (b5:au):LS:=⟨[(3,.mp 9),(6,.mp 43),(11,.slice 63 5 (cZ t11)),(12,.int .i64 t12),(13,.int .i64 t13),(22,.mp 9),(23,.loc 5 0),(24,.str t24),(25,.bool false),(28,.loc 5 2),(29,.int .i64 t29),(30,.bool false),(33,.loc 5 2),(34,.int .i64 t34),(35,.loc 5 1),(36,.slice 77 2 (jO t36)),(37,.int .i64 t37),(38,.bool false),(45,.slice 77 2 (jO t45)),(46,.int .i64 t46),(47,.int .i64 t47)],[(5,.flat 63 (ka b5)),(9,.map (kj AV.bool b9)),(43,.map (kj AV.bool b43))]⟩
def HQ (t11:List au) (t12 t13:Int) (t24:ByteArray) (t29 t34:Int) (t36:List bl) (t37:Int) (b9:List (ByteArray×Bool)) (b5:au):LS:=⟨[(3,.mp 9),(11,.slice 63 5 (cZ t11)),(12,.int .i64 t12),(13,.int .i64 t13),(22,.mp 9),(23,.loc 5 0),(24,.str t24),(25,.bool false),(28,.loc 5 2),(29,.int .i64 t29),(30,.bool false),(33,.loc 5 2),(34,.int .i64 t34),(35,.loc 5 1),(36,.slice 77 2 (jO t36)),(37,.int .i64 t37),(38,.bool false)],[(5,.flat 63 (ka b5)),(9,.map (kj AV.bool b9))]⟩
def zW (t11:List au) (t12 t13:Int) (b9:List (ByteArray×Bool)):LS:=⟨[(3,.mp 9),(11,.slice 63 5 (cZ t11)),(12,.int .i64 t12),(13,.int .i64 t13)],[(9,.map (kj AV.bool b9))]⟩
def HP:LS:=⟨[],[]⟩
def TB (s0:ag):LS:=⟨[(0,.agg (bf s0))],[]⟩
def Gz (k_1 : (List au) → Int → Int → ByteArray → Int → Int → (List bl) → Int → (List (ByteArray × Bool)) → au → Option Bool) (back : (List au) → Int → Int → ByteArray → Int → Int → (List bl) → Int → (List bl) → Int → Int → (List (ByteArray × Bool)) → (List (ByteArray × Bool)) → au → Option Bool) (n : Nat) (t11 : List au) (t12 t13 : Int) (t24 : ByteArray) (t29 t34 : Int) (t36 : List bl) (t37 : Int) (t45 : List bl) (t46 t47 : Int) (b9 b43 : List (ByteArray × Bool)) (b5 : au) : Option Bool :=
 if decide (t47 < t46) then
 (idx t45 t47).bind fun x2 =>
 (LQ n x2.cG).bind fun x9 =>
 if !x9 then
 some false
 else
 if (fL b43 x2.cG false) then
 some false
 else
 if x2.aD != 3 then
 if x2.aD != 4 then
 if x2.aD != 5 then
 some false
 else
 back t11 t12 t13 t24 t29 t34 t36 t37 t45 t46 (w64 (t47 + 1)) b9 (gh b43 x2.cG true) b5
 else
 back t11 t12 t13 t24 t29 t34 t36 t37 t45 t46 (w64 (t47 + 1)) b9 (gh b43 x2.cG true) b5
 else
 back t11 t12 t13 t24 t29 t34 t36 t37 t45 t46 (w64 (t47 + 1)) b9 (gh b43 x2.cG true) b5
 else
 k_1 t11 t12 t13 t24 t29 t34 t36 t37 b9 b5
theorem aiO {k_1} (aK : K10 (A76 [1, 1, 1, 0, 0, 1, 0, 1, 1]) HQ k_1) {back} (aE : K14 (A76 [0, 1, 1, 1, 1, 1, 0, 0, 1, 1, 0, 0, 1, 0, 1, 1]) HS back) (n : Nat) : K14 (A76 [0, 1, 1, 1, 1, 1, 0, 0, 1, 1, 0, 0, 1, 0, 1, 1]) HS (Gz k_1 back n) := fun t11 t12 t13 t24 t29 t34 t36 t37 t45 t46 t47 b9 b43 b5 r h =>
 ie h (fun c0 h =>
 be h fun x2 hx2 h =>
 be h fun x9 hx9 h =>
 ie h (fun c1 h =>
 rr h [(0, eb c0), (0, R76.idx hx2), (5, .call (mq n hx9) [] [] []), (0, eb c1)]) (fun c1 h =>
 ie h (fun c2 h =>
 rr h [(0, eb c0), (0, R76.idx hx2), (5, .call (mq n hx9) [] [] []), (0, eb c1), (4, .lkp false (gT c2))]) (fun c2 h =>
 ie h (fun c3 h =>
 ie h (fun c4 h =>
 ie h (fun c5 h =>
 rr h [(0, eb c0), (0, R76.idx hx2), (5, .call (mq n hx9) [] [] []), (0, eb c1), (4, .lkp false (gT c2)), (4, .upd (lW (f := AV.bool) (k := x2.cG) (v := true) b43)), (2, eb c3), (3, eb c4), (4, eb c5)]) (fun c5 h =>
 ra (aE h) [(0, eb c0), (0, R76.idx hx2), (5, .call (mq n hx9) [] [] []), (0, eb c1), (4, .lkp false (gT c2)), (4, .upd (lW (f := AV.bool) (k := x2.cG) (v := true) b43)), (2, eb c3), (3, eb c4), (4, eb c5)])) (fun c4 h =>
 ra (aE h) [(0, eb c0), (0, R76.idx hx2), (5, .call (mq n hx9) [] [] []), (0, eb c1), (4, .lkp false (gT c2)), (4, .upd (lW (f := AV.bool) (k := x2.cG) (v := true) b43)), (2, eb c3), (3, eb c4)])) (fun c3 h =>
 ra (aE h) [(0, eb c0), (0, R76.idx hx2), (5, .call (mq n hx9) [] [] []), (0, eb c1), (4, .lkp false (gT c2)), (4, .upd (lW (f := AV.bool) (k := x2.cG) (v := true) b43)), (2, eb c3)])))) (fun c0 h =>
 ra (aK h) [(0, eb c0)])
def xB (k_1:(List au)→Int→Int→ByteArray→Int→Int→(List bl)→Int→(List (ByteArray×Bool))→au→Option Bool):Nat→(List au)→Int→Int→ByteArray→Int→Int→(List bl)→Int→(List bl)→Int→Int→(List (ByteArray×Bool))→(List (ByteArray×Bool))→au→Option Bool
 |0,_,_,_,_,_,_,_,_,_,_,_,_,_,_=>none
 |n+1,t11,t12,t13,t24,t29,t34,t36,t37,t45,t46,t47,b9,b43,b5=>Gz k_1 (xB k_1 n) n t11 t12 t13 t24 t29 t34 t36 t37 t45 t46 t47 b9 b43 b5
theorem abQ {k_1} (aK:K10 (A76 [1,1,1,0,0,1,0,1,1]) HQ k_1):∀n:Nat,K14 (A76 [0,1,1,1,1,1,0,0,1,1,0,0,1,0,1,1]) HS (xB k_1 n)
 |0=>fun _ _ _ _ _ _ _ _ _ _ _ _ _ _ _ h=>nz h
 |n+1=>fun _ _ _ _ _ _ _ _ _ _ _ _ _ _ _ h=>aiO aK (abQ aK n) n h
def Gy (k_2 : (List au) → Int → Int → (List (ByteArray × Bool)) → Option Bool) (n : Nat) (t11 : List au) (t12 t13 : Int) (t24 : ByteArray) (t29 t34 : Int) (t36 : List bl) (t37 : Int) (b9 : List (ByteArray × Bool)) (b5 : au) : Option Bool :=
 k_2 t11 t12 (w64 (t13 + 1)) b9
theorem aiN {k_2} (cR : K4 (A76 [0, 1, 0, 1, 1]) zW k_2) (n : Nat) : K10 (A76 [1, 1, 1, 0, 0, 1, 0, 1, 1]) HQ (Gy k_2 n) := fun t11 t12 t13 t24 t29 t34 t36 t37 b9 b5 r h =>
 ra (cR h) []
def Gx (k_3 : Option Bool) (back : (List au) → Int → Int → (List (ByteArray × Bool)) → Option Bool) (n : Nat) (t11 : List au) (t12 t13 : Int) (b9 : List (ByteArray × Bool)) : Option Bool :=
 if decide (t13 < t12) then
 (idx t11 t13).bind fun x2 =>
 (LQ n x2.cG).bind fun x9 =>
 if !x9 then
 some false
 else
 if (fL b9 x2.cG false) then
 some false
 else
 if decide (x2.aA < 1) then
 some false
 else
 if decide ((x2.aq.length : Int) < x2.aA) then
 some false
 else
 xB (Gy back n) n t11 t12 t13 x2.cG x2.aA x2.aA x2.aq (x2.aq.length : Int) x2.aq (x2.aq.length : Int) 0 (gh b9 x2.cG true) [] x2
 else
 k_3
theorem aiM {k_3} (bO : K0 (A76 [1, 1, 1]) HP k_3) {back} (aE : K4 (A76 [0, 1, 0, 1, 1]) zW back) (n : Nat) : K4 (A76 [0, 1, 0, 1, 1]) zW (Gx k_3 back n) := fun t11 t12 t13 b9 r h =>
 ie h (fun c0 h =>
 be h fun x2 hx2 h =>
 be h fun x9 hx9 h =>
 ie h (fun c1 h =>
 rr h [(0, eb c0), (0, R62.idx hx2), (5, .call (mq n hx9) [] [] []), (0, eb c1)]) (fun c1 h =>
 ie h (fun c2 h =>
 rr h [(0, eb c0), (0, R62.idx hx2), (5, .call (mq n hx9) [] [] []), (0, eb c1), (4, .lkp false (gT c2))]) (fun c2 h =>
 ie h (fun c3 h =>
 rr h [(0, eb c0), (0, R62.idx hx2), (5, .call (mq n hx9) [] [] []), (0, eb c1), (4, .lkp false (gT c2)), (4, eb c3)]) (fun c3 h =>
 ie h (fun c4 h =>
 rr h [(0, eb c0), (0, R62.idx hx2), (5, .call (mq n hx9) [] [] []), (0, eb c1), (4, .lkp false (gT c2)), (4, eb c3), (6, .eqv (R76.az x2.aq)), (0, eb c4)]) (fun c4 h =>
 ra (abQ (aiN aE n) n h) [(0, eb c0), (0, R62.idx hx2), (5, .call (mq n hx9) [] [] []), (0, eb c1), (4, .lkp false (gT c2)), (4, eb c3), (6, .eqv (R76.az x2.aq)), (0, eb c4), (4, .upd (lW (f := AV.bool) (k := x2.cG) (v := true) b9)), (4, .eqv (R76.az x2.aq))]))))) (fun c0 h =>
 ra (bO h) [(0, eb c0)])
def uA (k_3:Option Bool):Nat→(List au)→Int→Int→(List (ByteArray×Bool))→Option Bool
 |0,_,_,_,_=>none
 |n+1,t11,t12,t13,b9=>Gx k_3 (uA k_3 n) n t11 t12 t13 b9
theorem abP {k_3} (bO:K0 (A76 [1,1,1]) HP k_3):∀n:Nat,K4 (A76 [0,1,0,1,1]) zW (uA k_3 n)
 |0=>fun _ _ _ _ _ h=>nz h
 |n+1=>fun _ _ _ _ _ h=>aiM bO (abP bO n) n h
def BX (n : Nat) : Option Bool :=
 some true
theorem aiL (n : Nat) : K0 (A76 [1, 1, 1]) HP (BX n) := fun r h =>
 rr h []
def adm (n : Nat) (s0 : ag) : Option Bool :=
 uA (BX n) n s0.ah (s0.ah.length : Int) 0 []
theorem aiK (n : Nat) : K1 (A76 []) TB (adm n) := fun s0 r h =>
 ra (abP (aiL n) n h) [(6, .eqv (R62.az s0.ah))]
def F76 (n:Nat) (s0:ag):Option Bool:=adm n s0
theorem Zz (n:Nat):K1 C76 TB (F76 n):=fun _ _ h=>ca (X:=x76) (aiK n h)
def aaH (r:Bool):AV:=.bool r
def Vv (r:Bool):List (Nat×Bx):= []
def x77:=fx E0 Tryz.f77 [] []
def A77:=Ax x77 aaH Vv
def C77:=Cx E0 77 aaH Vv
def HO (t11:List au) (t12 t13:Int) (t18:List aU) (t19 t20 t29:Int) (t31:List au) (t32:Int) (t48:List Int) (t49 t50:Int) (b1:ag) (b4 b7:au) (b6:aU):LS:=⟨[(1,.loc 1 0),(4,.loc 4 0),(7,.loc 7 0),(11,.slice 63 5 (cZ t11)),(12,.int .i64 t12),(13,.int .i64 t13),(18,.slice 80 2 (ke t18)),(19,.int .i64 t19),(20,.int .i64 t20),(28,.loc 6 1),(29,.int .i64 t29),(30,.loc 1 1),(31,.slice 63 5 (cZ t31)),(32,.int .i64 t32),(33,.bool false),(48,.slice 3 1 (bj t48)),(49,.int .i64 t49),(50,.int .i64 t50)],[(1,.flat 26 (bf b1)),(4,.flat 63 (ka b4)),(6,.flat 80 (Bi b6)),(7,.flat 63 (ka b7))]⟩
def HN (t11:List au) (t12 t13:Int) (t18:List aU) (t19 t20 t29:Int) (t31:List au) (t32:Int) (b1:ag) (b4:au) (b6:aU):LS:=⟨[(1,.loc 1 0),(4,.loc 4 0),(11,.slice 63 5 (cZ t11)),(12,.int .i64 t12),(13,.int .i64 t13),(18,.slice 80 2 (ke t18)),(19,.int .i64 t19),(20,.int .i64 t20),(28,.loc 6 1),(29,.int .i64 t29),(30,.loc 1 1),(31,.slice 63 5 (cZ t31)),(32,.int .i64 t32),(33,.bool false)],[(1,.flat 26 (bf b1)),(4,.flat 63 (ka b4)),(6,.flat 80 (Bi b6))]⟩
def zV (t11:List au) (t12 t13:Int) (t18:List aU) (t19 t20:Int) (b1:ag) (b4:au):LS:=⟨[(1,.loc 1 0),(4,.loc 4 0),(11,.slice 63 5 (cZ t11)),(12,.int .i64 t12),(13,.int .i64 t13),(18,.slice 80 2 (ke t18)),(19,.int .i64 t19),(20,.int .i64 t20)],[(1,.flat 26 (bf b1)),(4,.flat 63 (ka b4))]⟩
def HM (t11:List au) (t12 t13:Int) (b1:ag):LS:=⟨[(1,.loc 1 0),(11,.slice 63 5 (cZ t11)),(12,.int .i64 t12),(13,.int .i64 t13)],[(1,.flat 26 (bf b1))]⟩
def zU (t11:List au) (t12 t13:Int) (b1:ag):LS:=⟨[(1,.loc 1 0),(11,.slice 63 5 (cZ t11)),(12,.int .i64 t12),(13,.int .i64 t13)],[(1,.flat 26 (bf b1))]⟩
def HL:LS:=⟨[],[]⟩
def TA (s0:ag):LS:=⟨[(0,.agg (bf s0))],[]⟩
def Gw (k_1 : (List au) → Int → Int → (List aU) → Int → Int → Int → (List au) → Int → ag → au → aU → Option Bool) (back : (List au) → Int → Int → (List aU) → Int → Int → Int → (List au) → Int → (List Int) → Int → Int → ag → au → au → aU → Option Bool) (n : Nat) (t11 : List au) (t12 t13 : Int) (t18 : List aU) (t19 t20 t29 : Int) (t31 : List au) (t32 : Int) (t48 : List Int) (t49 t50 : Int) (b1 : ag) (b4 b7 : au) (b6 : aU) : Option Bool :=
 if decide (t50 < t49) then
 (idx t48 t50).bind fun x3 =>
 if decide (x3 < 0) then
 some false
 else
 if !decide (x3 < (b4.aq.length : Int)) then
 some false
 else
 (idx b4.aq x3).bind fun x21 =>
 (idx b7.aq t50).bind fun x28 =>
 if x21.aD != x28.aD then
 some false
 else
 back t11 t12 t13 t18 t19 t20 t29 t31 t32 t48 t49 (w64 (t50 + 1)) b1 b4 b7 b6
 else
 k_1 t11 t12 t13 t18 t19 t20 t29 t31 t32 b1 b4 b6
theorem aiJ {k_1} (aK : K12 (A77 [1, 1, 1, 0, 0, 1, 1, 0, 0, 1, 1, 0, 0, 1, 0, 1]) HN k_1) {back} (aE : K16 (A77 [0, 1, 1, 1, 1, 1, 0, 0, 1, 1, 0, 0, 1, 1, 0, 0, 1, 1, 0, 0, 1, 0, 1]) HO back) (n : Nat) : K16 (A77 [0, 1, 1, 1, 1, 1, 0, 0, 1, 1, 0, 0, 1, 1, 0, 0, 1, 1, 0, 0, 1, 0, 1]) HO (Gw k_1 back n) := fun t11 t12 t13 t18 t19 t20 t29 t31 t32 t48 t49 t50 b1 b4 b7 b6 r h =>
 ie h (fun c0 h =>
 be h fun x3 hx3 h =>
 ie h (fun c1 h =>
 rr h [(0, eb c0), (1, R3.idx hx3), (4, eb c1)]) (fun c1 h =>
 ie h (fun c2 h =>
 rr h [(0, eb c0), (1, R3.idx hx3), (4, eb c1), (4, .eqv (R76.az b4.aq)), (0, eb c2)]) (fun c2 h =>
 be h fun x21 j4 h =>
 be h fun x28 kn h =>
 ie h (fun c3 h =>
 rr h [(0, eb c0), (1, R3.idx hx3), (4, eb c1), (4, .eqv (R76.az b4.aq)), (0, eb c2), (5, R76.idx j4), (5, R76.idx kn), (2, eb c3)]) (fun c3 h =>
 ra (aE h) [(0, eb c0), (1, R3.idx hx3), (4, eb c1), (4, .eqv (R76.az b4.aq)), (0, eb c2), (5, R76.idx j4), (5, R76.idx kn), (2, eb c3)])))) (fun c0 h =>
 ra (aK h) [(0, eb c0)])
def xA (k_1:(List au)→Int→Int→(List aU)→Int→Int→Int→(List au)→Int→ag→au→aU→Option Bool):Nat→(List au)→Int→Int→(List aU)→Int→Int→Int→(List au)→Int→(List Int)→Int→Int→ag→au→au→aU→Option Bool
 |0,_,_,_,_,_,_,_,_,_,_,_,_,_,_,_,_=>none
 |n+1,t11,t12,t13,t18,t19,t20,t29,t31,t32,t48,t49,t50,b1,b4,b7,b6=>Gw k_1 (xA k_1 n) n t11 t12 t13 t18 t19 t20 t29 t31 t32 t48 t49 t50 b1 b4 b7 b6
theorem abO {k_1} (aK:K12 (A77 [1,1,1,0,0,1,1,0,0,1,1,0,0,1,0,1]) HN k_1):∀n:Nat,K16 (A77 [0,1,1,1,1,1,0,0,1,1,0,0,1,1,0,0,1,1,0,0,1,0,1]) HO (xA k_1 n)
 |0=>fun _ _ _ _ _ _ _ _ _ _ _ _ _ _ _ _ _ h=>nz h
 |n+1=>fun _ _ _ _ _ _ _ _ _ _ _ _ _ _ _ _ _ h=>aiJ aK (abO aK n) n h
def Gv (k_2 : (List au) → Int → Int → (List aU) → Int → Int → ag → au → Option Bool) (n : Nat) (t11 : List au) (t12 t13 : Int) (t18 : List aU) (t19 t20 t29 : Int) (t31 : List au) (t32 : Int) (b1 : ag) (b4 : au) (b6 : aU) : Option Bool :=
 k_2 t11 t12 t13 t18 t19 (w64 (t20 + 1)) b1 b4
theorem aiI {k_2} (cR : K8 (A77 [0, 1, 1, 0, 0, 1, 1, 0, 0, 1, 0, 1]) zV k_2) (n : Nat) : K12 (A77 [1, 1, 1, 0, 0, 1, 1, 0, 0, 1, 1, 0, 0, 1, 0, 1]) HN (Gv k_2 n) := fun t11 t12 t13 t18 t19 t20 t29 t31 t32 b1 b4 b6 r h =>
 ra (cR h) []
def Gu (k_3 : (List au) → Int → Int → ag → Option Bool) (back : (List au) → Int → Int → (List aU) → Int → Int → ag → au → Option Bool) (n : Nat) (t11 : List au) (t12 t13 : Int) (t18 : List aU) (t19 t20 : Int) (b1 : ag) (b4 : au) : Option Bool :=
 if decide (t20 < t19) then
 (idx t18 t20).bind fun x2 =>
 if decide (x2.ax < 0) then
 some false
 else
 if !decide (x2.ax < (b1.ah.length : Int)) then
 some false
 else
 (idx b1.ah x2.ax).bind fun x22 =>
 if (x2.aq.length : Int) != x22.aA then
 some false
 else
 xA (Gv back n) n t11 t12 t13 t18 t19 t20 x2.ax b1.ah (b1.ah.length : Int) x2.aq (x2.aq.length : Int) 0 b1 b4 x22 x2
 else
 k_3 t11 t12 t13 b1
theorem aiH {k_3} (bO : K4 (A77 [1, 1, 1, 0, 0, 1, 0, 1]) HM k_3) {back} (aE : K8 (A77 [0, 1, 1, 0, 0, 1, 1, 0, 0, 1, 0, 1]) zV back) (n : Nat) : K8 (A77 [0, 1, 1, 0, 0, 1, 1, 0, 0, 1, 0, 1]) zV (Gu k_3 back n) := fun t11 t12 t13 t18 t19 t20 b1 b4 r h =>
 ie h (fun c0 h =>
 be h fun x2 hx2 h =>
 ie h (fun c1 h =>
 rr h [(0, eb c0), (0, R79.idx hx2), (5, eb c1)]) (fun c1 h =>
 ie h (fun c2 h =>
 rr h [(0, eb c0), (0, R79.idx hx2), (5, eb c1), (5, .eqv (R62.az b1.ah)), (0, eb c2)]) (fun c2 h =>
 be h fun x22 DF h =>
 ie h (fun c3 h =>
 rr h [(0, eb c0), (0, R79.idx hx2), (5, eb c1), (5, .eqv (R62.az b1.ah)), (0, eb c2), (5, R62.idx DF), (5, .eqv (R3.az x2.aq)), (2, eb c3)]) (fun c3 h =>
 ra (abO (aiI aE n) n h) [(0, eb c0), (0, R79.idx hx2), (5, eb c1), (5, .eqv (R62.az b1.ah)), (0, eb c2), (5, R62.idx DF), (5, .eqv (R3.az x2.aq)), (2, eb c3), (2, .eqv (R3.az x2.aq))])))) (fun c0 h =>
 ra (bO h) [(0, eb c0)])
def uz (k_3:(List au)→Int→Int→ag→Option Bool):Nat→(List au)→Int→Int→(List aU)→Int→Int→ag→au→Option Bool
 |0,_,_,_,_,_,_,_,_=>none
 |n+1,t11,t12,t13,t18,t19,t20,b1,b4=>Gu k_3 (uz k_3 n) n t11 t12 t13 t18 t19 t20 b1 b4
theorem abN {k_3} (bO:K4 (A77 [1,1,1,0,0,1,0,1]) HM k_3):∀n:Nat,K8 (A77 [0,1,1,0,0,1,1,0,0,1,0,1]) zV (uz k_3 n)
 |0=>fun _ _ _ _ _ _ _ _ _ h=>nz h
 |n+1=>fun _ _ _ _ _ _ _ _ _ h=>aiH bO (abN bO n) n h
def Gt (k_4 : (List au) → Int → Int → ag → Option Bool) (n : Nat) (t11 : List au) (t12 t13 : Int) (b1 : ag) : Option Bool :=
 k_4 t11 t12 (w64 (t13 + 1)) b1
theorem aiG {k_4} (iT : K4 (A77 [0, 1, 0, 1]) zU k_4) (n : Nat) : K4 (A77 [1, 1, 1, 0, 0, 1, 0, 1]) HM (Gt k_4 n) := fun t11 t12 t13 b1 r h =>
 ra (iT h) []
def Gs (k_5 : Option Bool) (back : (List au) → Int → Int → ag → Option Bool) (n : Nat) (t11 : List au) (t12 t13 : Int) (b1 : ag) : Option Bool :=
 if decide (t13 < t12) then
 (idx t11 t13).bind fun x2 =>
 uz (Gt back n) n t11 t12 t13 x2.bQ (x2.bQ.length : Int) 0 b1 x2
 else
 k_5
theorem aiF {k_5} (fO : K0 (A77 [1, 1]) HL k_5) {back} (aE : K4 (A77 [0, 1, 0, 1]) zU back) (n : Nat) : K4 (A77 [0, 1, 0, 1]) zU (Gs k_5 back n) := fun t11 t12 t13 b1 r h =>
 ie h (fun c0 h =>
 be h fun x2 hx2 h =>
 ra (abN (aiG aE n) n h) [(0, eb c0), (0, R62.idx hx2), (5, .eqv (R79.az x2.bQ))]) (fun c0 h =>
 ra (fO h) [(0, eb c0)])
def uy (k_5:Option Bool):Nat→(List au)→Int→Int→ag→Option Bool
 |0,_,_,_,_=>none
 |n+1,t11,t12,t13,b1=>Gs k_5 (uy k_5 n) n t11 t12 t13 b1
theorem abM {k_5} (fO:K0 (A77 [1,1]) HL k_5):∀n:Nat,K4 (A77 [0,1,0,1]) zU (uy k_5 n)
 |0=>fun _ _ _ _ _ h=>nz h
 |n+1=>fun _ _ _ _ _ h=>aiF fO (abM fO n) n h
def BW (n : Nat) : Option Bool :=
 some true
theorem aiE (n : Nat) : K0 (A77 [1, 1]) HL (BW n) := fun r h =>
 rr h []
def adl (n : Nat) (s0 : ag) : Option Bool :=
 uy (BW n) n s0.ah (s0.ah.length : Int) 0 s0
theorem aiD (n : Nat) : K1 (A77 []) TA (adl n) := fun s0 r h =>
 ra (abM (aiE n) n h) [(4, .eqv (R62.az s0.ah))]
def F77 (n:Nat) (s0:ag):Option Bool:=adl n s0
theorem ev77 (n:Nat):K1 C77 TA (F77 n):=fun _ _ h=>ca (X:=x77) (aiD n h)
def aaD (r:Bool):AV:=.bool r
def Vr (r:Bool):List (Nat×Bx):= []
def x81:=fx E0 Tryz.f81 [] []
def A81:=Ax x81 aaD Vr
def C81:=Cx E0 81 aaD Vr
def Tw (s0:ag) (aS:Int):LS:=⟨[(0,.agg (bf s0)),(1,.int .i64 aS)],[]⟩
def Sb (n : Nat) (s0 : ag) (aS : Int) : Option Bool :=
 if !decide (aS < 0) then
 some (decide (aS < (s0.ah.length : Int)))
 else
 some false
theorem aix (n : Nat) : K2 (A81 []) Tw (Sb n) := fun s0 aS r h =>
 ie h (fun c0 h =>
 rr h [(3, eb c0), (4, .eqv (R62.az s0.ah))]) (fun c0 h =>
 rr h [(3, eb c0)])
def F81 (n:Nat) (s0:ag) (aS:Int):Option Bool:=Sb n s0 aS
theorem qo (n:Nat):K2 C81 Tw (F81 n):=fun _ _ _ h=>ca (X:=x81) (aix n h)
def aaG (r:(List Int)):AV:=.ms 200000 1 0 r.length
def Vu (r:(List Int)):List (Nat×Bx):= [(200000,.rows false 3 1 (bj r))]
def x78:=fx E0 Tryz.f78 [] [200000]
def A78:=Ax x78 aaG Vu
def C78:=Cx E0 78 aaG Vu
def HK (t25:List bl) (t26 t27:Int) (b19:List Int):LS:=⟨[(5,.ms 19 1 0 b19.length),(25,.slice 77 2 (jO t25)),(26,.int .i64 t26),(27,.int .i64 t27)],[(19,.rows false 3 1 (bj b19))]⟩
def HJ (b19:List Int):LS:=⟨[(5,.ms 19 1 0 b19.length)],[(19,.rows false 3 1 (bj b19))]⟩
def Tz (s0:ag) (aS:Int):LS:=⟨[(0,.agg (bf s0)),(1,.int .i64 aS)],[]⟩
def Gr (k_1 : (List Int) → Option (List Int)) (back : (List bl) → Int → Int → (List Int) → Option (List Int)) (n : Nat) (t25 : List bl) (t26 t27 : Int) (b19 : List Int) : Option (List Int) :=
 if decide (t27 < t26) then
 (idx t25 t27).bind fun x2 =>
 (app b19 [x2.aD]).bind fun x11 =>
 back t25 t26 (w64 (t27 + 1)) x11
 else
 k_1 b19
theorem aiC {k_1} (aK : K1 (A78 [1, 1, 1, 1]) HJ k_1) {back} (aE : K4 (A78 [0, 1, 0, 1, 1, 1]) HK back) (n : Nat) : K4 (A78 [0, 1, 0, 1, 1, 1]) HK (Gr k_1 back n) := fun t25 t26 t27 b19 r h =>
 ie h (fun c0 h =>
 be h fun x2 hx2 h =>
 be h fun x11 cm h =>
 ra (aE h) [(0, eb c0), (0, R76.idx hx2), (7, R3.app cm (R3.srW [x2.aD]))]) (fun c0 h =>
 ra (aK h) [(0, eb c0)])
def xz (k_1:(List Int)→Option (List Int)):Nat→(List bl)→Int→Int→(List Int)→Option (List Int)
 |0,_,_,_,_=>none
 |n+1,t25,t26,t27,b19=>Gr k_1 (xz k_1 n) n t25 t26 t27 b19
theorem abL {k_1} (aK:K1 (A78 [1,1,1,1]) HJ k_1):∀n:Nat,K4 (A78 [0,1,0,1,1,1]) HK (xz k_1 n)
 |0=>fun _ _ _ _ _ h=>nz h
 |n+1=>fun _ _ _ _ _ h=>aiC aK (abL aK n) n h
def Gq (n : Nat) (b19 : List Int) : Option (List Int) :=
 some b19
theorem aiB (n : Nat) : K1 (A78 [1, 1, 1, 1]) HJ (Gq n) := fun b19 r h =>
 rr h [(2, .ren 19 200000)]
def Sf (n : Nat) (s0 : ag) (aS : Int) : Option (List Int) :=
 (F81 n s0 aS).bind fun x5 =>
 if !x5 then
 some []
 else
 (idx s0.ah aS).bind fun x11 =>
 (l9 (x11.aq.length : Int) (0 : Int)).bind fun x16 =>
 (idx s0.ah aS).bind fun x22 =>
 xz (Gq n) n x22.aq (x22.aq.length : Int) 0 []
theorem aiA (n : Nat) : K2 (A78 []) Tz (Sf n) := fun s0 aS r h =>
 be h fun x5 hx5 h =>
 ie h (fun c0 h =>
 rr h [(4, .call (qo n hx5) [] [] []), (0, eb c0), (1, .born [4] [] 200000 false 3 1)]) (fun c0 h =>
 be h fun x11 cm h =>
 be h fun x16 cU h =>
 be h fun x22 DF h =>
 ra (abL (aiB n) n h) [(4, .call (qo n hx5) [] [] []), (0, eb c0), (3, R62.idx cm), (2, .eqv (R76.az x11.aq)), (0, R3.ahE [.int .i64 0] cU), (4, R62.idx DF), (2, .eqv (R76.az x22.aq))])
def F78 (n:Nat) (s0:ag) (aS:Int):Option (List Int):=Sf n s0 aS
theorem Ku (n:Nat):K2 C78 Tz (F78 n):=fun _ _ _ h=>ca (X:=x78) (aiA n h)
def UZ (r:Bool):AV:=.bool r
def NZ (r:Bool):List (Nat×Bx):= []
def x109:=fx E0 Tryz.f109 [] []
def zG:=Ax x109 UZ NZ
def C109:=Cx E0 109 UZ NZ
def CM (t5:List Int) (t6 t7:Int):LS:=⟨[(5,.slice 3 1 (bj t5)),(6,.int .i64 t6),(7,.int .i64 t7)],[]⟩
def CL:LS:=⟨[],[]⟩
def Nu (q9:List Int):LS:=⟨[(0,.slice 3 1 (bj q9))],[]⟩
def Ci (k_1 : Option Bool) (back : (List Int) → Int → Int → Option Bool) (n : Nat) (t5 : List Int) (t6 t7 : Int) : Option Bool :=
 if decide (t7 < t6) then
 (idx t5 t7).bind fun x2 =>
 if x2 != 3 then
 if x2 != 4 then
 if x2 != 5 then
 some false
 else
 back t5 t6 (w64 (t7 + 1))
 else
 back t5 t6 (w64 (t7 + 1))
 else
 back t5 t6 (w64 (t7 + 1))
 else
 k_1
theorem agk {k_1} (aK : K0 (zG [1, 1]) CL k_1) {back} (aE : K3 (zG [0, 1, 0, 1]) CM back) (n : Nat) : K3 (zG [0, 1, 0, 1]) CM (Ci k_1 back n) := fun t5 t6 t7 r h =>
 ie h (fun c0 h =>
 be h fun x2 hx2 h =>
 ie h (fun c1 h =>
 ie h (fun c2 h =>
 ie h (fun c3 h =>
 rr h [(0, eb c0), (0, R3.idx hx2), (3, eb c1), (2, eb c2), (3, eb c3)]) (fun c3 h =>
 ra (aE h) [(0, eb c0), (0, R3.idx hx2), (3, eb c1), (2, eb c2), (3, eb c3)])) (fun c2 h =>
 ra (aE h) [(0, eb c0), (0, R3.idx hx2), (3, eb c1), (2, eb c2)])) (fun c1 h =>
 ra (aE h) [(0, eb c0), (0, R3.idx hx2), (3, eb c1)])) (fun c0 h =>
 ra (aK h) [(0, eb c0)])
def s8 (k_1:Option Bool):Nat→(List Int)→Int→Int→Option Bool
 |0,_,_,_=>none
 |n+1,t5,t6,t7=>Ci k_1 (s8 k_1 n) n t5 t6 t7
theorem WG {k_1} (aK:K0 (zG [1,1]) CL k_1):∀n:Nat,K3 (zG [0,1,0,1]) CM (s8 k_1 n)
 |0=>fun _ _ _ _ h=>nz h
 |n+1=>fun _ _ _ _ h=>agk aK (WG aK n) n h
def Mk (n : Nat) : Option Bool :=
 some true
theorem agj (n : Nat) : K0 (zG [1, 1]) CL (Mk n) := fun r h =>
 rr h []
def Mj (n : Nat) (q9 : List Int) : Option Bool :=
 s8 (Mk n) n q9 (q9.length : Int) 0
theorem agi (n : Nat) : K1 (zG []) Nu (Mj n) := fun q9 r h =>
 ra (WG (agj n) n h) [(2, .eqv (R3.az q9))]
def LP (n:Nat) (q9:List Int):Option Bool:=Mj n q9
theorem oV (n:Nat):K1 C109 Nu (LP n):=fun _ _ h=>ca (X:=x109) (agi n h)
def UY (r:(Bool×Int)):AV:=.bool r.1
def NY (r:(Bool×Int)):List (Nat×Bx):= [(2,.flat 3 [.int .i64 r.2])]
def x110:=fx E0 Tryz.f110 [2] [2]
def zF:=Ax x110 UY NY
def LW:=Cx E0 110 UY NY
def CK (hZ:Int) (t23:List ak) (t24 t25 b2:Int):LS:=⟨[(1,.int .i64 hZ),(2,.loc 2 0),(23,.slice 84 13 (fZ t23)),(24,.int .i64 t24),(25,.int .i64 t25)],[(2,.flat 3 [.int .i64 b2])]⟩
def CJ (b2:Int):LS:=⟨[],[(2,.flat 3 [.int .i64 b2])]⟩
def py (p0:ak) (hZ kM:Int):LS:=⟨[(0,.agg (gB p0)),(1,.int .i64 hZ),(2,.loc 2 0)],[(2,.flat 3 [.int .i64 kM])]⟩
def Ch (gn : ak → Int → Int → Option (Bool × Int)) (k_1 : Int → Option (Bool × Int)) (back : Int → (List ak) → Int → Int → Int → Option (Bool × Int)) (n : Nat) (hZ : Int) (t23 : List ak) (t24 t25 b2 : Int) : Option (Bool × Int) :=
 if decide (t25 < t24) then
 (idx t23 t25).bind fun x2 =>
 (gn x2 (w64 (hZ + 1)) b2).bind fun x11 =>
 if !x11.1 then
 some (false, x11.2)
 else
 back hZ t23 t24 (w64 (t25 + 1)) x11.2
 else
 k_1 b2
theorem agh {gn} (mi : K3 LW py gn) {k_1} (aK : K1 (zF [1, 1, 1, 1]) CJ k_1) {back} (aE : K5 (zF [0, 1, 0, 1, 1, 1]) CK back) (n : Nat) : K5 (zF [0, 1, 0, 1, 1, 1]) CK (Ch gn k_1 back n) := fun hZ t23 t24 t25 b2 r h =>
 ie h (fun c0 h =>
 be h fun x2 hx2 h =>
 be h fun x11 cm h =>
 ie h (fun c1 h =>
 rr h [(0, eb c0), (0, R83.idx hx2), (7, .call (mi cm) [] [(2, 2)] []), (0, eb c1)]) (fun c1 h =>
 ra (aE h) [(0, eb c0), (0, R83.idx hx2), (7, .call (mi cm) [] [(2, 2)] []), (0, eb c1)])) (fun c0 h =>
 ra (aK h) [(0, eb c0)])
def sZ (gn:ak→Int→Int→Option (Bool×Int)) (k_1:Int→Option (Bool×Int)):Nat→Int→(List ak)→Int→Int→Int→Option (Bool×Int)
 |0,_,_,_,_,_=>none
 |n+1,hZ,t23,t24,t25,b2=>Ch gn k_1 (sZ gn k_1 n) n hZ t23 t24 t25 b2
theorem WE {gn} (mi:K3 LW py gn) {k_1} (aK:K1 (zF [1,1,1,1]) CJ k_1):∀n:Nat,K5 (zF [0,1,0,1,1,1]) CK (sZ gn k_1 n)
 |0=>fun _ _ _ _ _ _ h=>nz h
 |n+1=>fun _ _ _ _ _ _ h=>agh mi aK (WE mi aK n) n h
def XW (gn : ak → Int → Int → Option (Bool × Int)) (n : Nat) (b2 : Int) : Option (Bool × Int) :=
 some (true, b2)
theorem agf {gn} (mi : K3 LW py gn) (n : Nat) : K1 (zF [1, 1, 1, 1]) CJ (XW gn n) := fun b2 r h =>
 rr h []
def Mh (gn : ak → Int → Int → Option (Bool × Int)) (n : Nat) (p0 : ak) (hZ kM : Int) : Option (Bool × Int) :=
 if decide ((w64 (kM - 1)) < 0) then
 some (false, w64 (kM - 1))
 else
 if decide (8 < hZ) then
 some (false, w64 (kM - 1))
 else
 sZ gn (XW gn n) n hZ p0.fArgs (p0.fArgs.length : Int) 0 (w64 (kM - 1))
theorem age {gn} (mi : K3 LW py gn) (n : Nat) : K3 (zF []) py (Mh gn n) := fun p0 hZ kM r h =>
 ie h (fun c0 h =>
 rr h [(11, eb c0)]) (fun c0 h =>
 ie h (fun c1 h =>
 rr h [(11, eb c0), (2, eb c1)]) (fun c1 h =>
 ra (WE mi (agf mi n) n h) [(11, eb c0), (2, eb c1), (3, .eqv (R83.az p0.fArgs))]))
def Ek:Nat→ak→Int→Int→Option (Bool×Int)
 |0,_,_,_=>none
 |n+1,p0,hZ,kM=>Mh (Ek n) n p0 hZ kM
theorem FV:∀n:Nat,K3 LW py (Ek n)
 |0=>fun _ _ _ _ h=>nz h
 |n+1=>fun _ _ _ _ h=>ca (X:=x110) (age (FV n) n h)
def U8 (r:Bool):AV:=.bool r
def N8 (r:Bool):List (Nat×Bx):= []
def x100:=fx E0 Tryz.f100 [] []
def A100:=Ax x100 U8 N8
def C100:=Cx E0 100 U8 N8
def NA (v0:ae):LS:=⟨[(0,.agg (ja v0))],[]⟩
def X2 (n : Nat) (v0 : ae) : Option Bool :=
 if v0.aD == 1 then
 if v0.bJ == 0 then
 some (decide (v0.bt = ByteArray.empty))
 else
 some false
 else
 if v0.aD == 2 then
 if v0.bJ == 0 then
 some (decide (v0.bt = ByteArray.empty))
 else
 some false
 else
 if v0.aD == 3 then
 if v0.bJ == 0 then
 some (decide (v0.bt = ByteArray.empty))
 else
 if v0.bJ == 1 then
 some (decide (v0.bt = ByteArray.empty))
 else
 some false
 else
 if v0.aD == 4 then
 some (decide (v0.bt = ByteArray.empty))
 else
 if v0.aD == 5 then
 if v0.bJ == 0 then
 some (!decide (64 < (v0.bt.size : Int)))
 else
 some false
 else
 some false
theorem agL (n : Nat) : K1 (A100 []) NA (X2 n) := fun v0 r h =>
 ie h (fun c0 h =>
 ie h (fun c1 h =>
 rr h [(4, eb c0), (3, eb c1)]) (fun c1 h =>
 rr h [(4, eb c0), (3, eb c1)])) (fun c0 h =>
 ie h (fun c1 h =>
 ie h (fun c2 h =>
 rr h [(4, eb c0), (1, eb c1), (3, eb c2)]) (fun c2 h =>
 rr h [(4, eb c0), (1, eb c1), (3, eb c2)])) (fun c1 h =>
 ie h (fun c2 h =>
 ie h (fun c3 h =>
 rr h [(4, eb c0), (1, eb c1), (1, eb c2), (3, eb c3)]) (fun c3 h =>
 ie h (fun c4 h =>
 rr h [(4, eb c0), (1, eb c1), (1, eb c2), (3, eb c3), (3, eb c4)]) (fun c4 h =>
 rr h [(4, eb c0), (1, eb c1), (1, eb c2), (3, eb c3), (3, eb c4)]))) (fun c2 h =>
 ie h (fun c3 h =>
 rr h [(4, eb c0), (1, eb c1), (1, eb c2), (1, eb c3)]) (fun c3 h =>
 ie h (fun c4 h =>
 ie h (fun c5 h =>
 rr h [(4, eb c0), (1, eb c1), (1, eb c2), (1, eb c3), (1, eb c4), (3, eb c5)]) (fun c5 h =>
 rr h [(4, eb c0), (1, eb c1), (1, eb c2), (1, eb c3), (1, eb c4), (3, eb c5)])) (fun c4 h =>
 rr h [(4, eb c0), (1, eb c1), (1, eb c2), (1, eb c3), (1, eb c4)])))))
def R0 (n:Nat) (v0:ae):Option Bool:=X2 n v0
theorem ub (n:Nat):K1 C100 NA (R0 n):=fun _ _ h=>ca (X:=x100) (agL n h)
def aaE (r:Bool):AV:=.bool r
def Vs (r:Bool):List (Nat×Bx):= []
def x80:=fx E0 Tryz.f80 [] []
def A80:=Ax x80 aaE Vs
def C80:=Cx E0 80 aaE Vs
def Tx (v0:ae):LS:=⟨[(0,.agg (ja v0))],[]⟩
def Sd (n : Nat) (v0 : ae) : Option Bool :=
 (R0 n v0).bind fun x4 =>
 if x4 then
 if v0.aD != 1 then
 some (v0.aD != 2)
 else
 some false
 else
 some false
theorem aiy (n : Nat) : K1 (A80 []) Tx (Sd n) := fun v0 r h =>
 be h fun x4 hx4 h =>
 ie h (fun c0 g0 => by subst c0; exact (
 ie g0 (fun c1 g0 =>
 rr g0 [(3, .call (ub n hx4) [] [] []), (3, eb c1)]) (fun c1 g0 =>
 rr g0 [(3, .call (ub n hx4) [] [] []), (3, eb c1)]))) (fun c0 g0 => by subst c0; exact (
 rr g0 [(3, .call (ub n hx4) [] [] [])]))
def F80 (n:Nat) (v0:ae):Option Bool:=Sd n v0
theorem Kt (n:Nat):K1 C80 Tx (F80 n):=fun _ _ h=>ca (X:=x80) (aiy n h)
def UP (r:Int):AV:=.int .i64 r
def NP (r:Int):List (Nat×Bx):= []
def x126:=fx E0 Tryz.f126 [] []
def A126:=Ax x126 UP NP
def C126:=Cx E0 126 UP NP
def adw (qZ:List Int) (b3:aB):LS:=⟨[(3,.loc 3 0),(5,.slice 3 1 (bj qZ))],[(3,.flat 82 (lx b3))]⟩
def Nn (k0:cN) (o1:aB):LS:=⟨[(0,.agg (sW k0)),(1,.agg (lx o1))],[]⟩
def Cb (n : Nat) (qZ : List Int) (b3 : aB) : Option Int :=
 if decide (b3.bL < 0) then
 some 0
 else
 if !decide (b3.bL < (qZ.length : Int)) then
 some 0
 else
 if !((b3.aT.aD == 0) && ((b3.aT.bJ == 0) && ((decide (b3.aT.bt = ByteArray.empty)) && true))) then
 some 0
 else
 (idx qZ b3.bL).bind fun x20 =>
 some x20
theorem Xs (n : Nat) : K2 (A126 [1, 1, 1]) adw (Cb n) := fun qZ b3 r h =>
 ie h (fun c0 h =>
 rr h [(2, eb c0)]) (fun c0 h =>
 ie h (fun c1 h =>
 rr h [(2, eb c0), (4, .eqv (R3.az qZ)), (0, eb c1)]) (fun c1 h =>
 ie h (fun c2 h =>
 rr h [(2, eb c0), (4, .eqv (R3.az qZ)), (0, eb c1), (5, eb c2)]) (fun c2 h =>
 be h fun x20 gR h =>
 rr h [(2, eb c0), (4, .eqv (R3.az qZ)), (0, eb c1), (5, eb c2), (4, R3.idx gR)])))
def L8 (n : Nat) (k0 : cN) (o1 : aB) : Option Int :=
 if o1.aD == 3 then
 if o1.bL != 0 then
 some 0
 else
 (F80 n o1.aT).bind fun x17 =>
 if !x17 then
 some 0
 else
 some o1.aT.aD
 else
 if o1.aD == 2 then
 Cb n k0.gA o1
 else
 if o1.aD == 1 then
 Cb n k0.fy o1
 else
 some 0
theorem afS (n : Nat) : K2 (A126 []) Nn (L8 n) := fun k0 o1 r h =>
 ie h (fun c0 h =>
 ie h (fun c1 h =>
 rr h [(8, eb c0), (3, eb c1)]) (fun c1 h =>
 be h fun x17 gD h =>
 ie h (fun c2 h =>
 rr h [(8, eb c0), (3, eb c1), (3, .call (Kt n gD) [] [] []), (0, eb c2)]) (fun c2 h =>
 rr h [(8, eb c0), (3, eb c1), (3, .call (Kt n gD) [] [] []), (0, eb c2)]))) (fun c0 h =>
 ie h (fun c1 h =>
 ra (Xs n h) [(8, eb c0), (1, eb c1)]) (fun c1 h =>
 ie h (fun c2 h =>
 ra (Xs n h) [(8, eb c0), (1, eb c1), (1, eb c2)]) (fun c2 h =>
 rr h [(8, eb c0), (1, eb c1), (1, eb c2)])))
def LN (n:Nat) (k0:cN) (o1:aB):Option Int:=L8 n k0 o1
theorem nE (n:Nat):K2 C126 Nn (LN n):=fun _ _ _ h=>ca (X:=x126) (afS n h)
def UX (r:Bool):AV:=.bool r
def NW (r:Bool):List (Nat×Bx):= []
def x111:=fx E0 Tryz.f111 [] []
def lO:=Ax x111 UX NW
def sv:=Cx E0 111 UX NW
def CI (t76:List ak) (t77 t78:Int) (b2:cN):LS:=⟨[(2,.loc 2 0),(76,.slice 84 13 (fZ t76)),(77,.int .i64 t77),(78,.int .i64 t78)],[(2,.flat 165 (sW b2))]⟩
def CH:LS:=⟨[],[]⟩
def adz (t50:Bool) (b2:cN) (b3:ak):LS:=⟨[(2,.loc 2 0),(3,.loc 3 0),(50,.bool t50)],[(2,.flat 165 (sW b2)),(3,.flat 84 (gB b3))]⟩
def CG (t76:List ak) (t77 t78:Int) (b2:cN):LS:=⟨[(2,.loc 2 0),(76,.slice 84 13 (fZ t76)),(77,.int .i64 t77),(78,.int .i64 t78)],[(2,.flat 165 (sW b2))]⟩
def CF:LS:=⟨[],[]⟩
def ady (b2:cN) (b3:ak):LS:=⟨[(2,.loc 2 0),(3,.loc 3 0)],[(2,.flat 165 (sW b2)),(3,.flat 84 (gB b3))]⟩
def jc (k0:cN) (p1:ak):LS:=⟨[(0,.agg (sW k0)),(1,.agg (gB p1))],[]⟩
def Cg (bP : cN → ak → Option Bool) (k_1 : Option Bool) (back : (List ak) → Int → Int → cN → Option Bool) (n : Nat) (t76 : List ak) (t77 t78 : Int) (b2 : cN) : Option Bool :=
 if decide (t78 < t77) then
 (idx t76 t78).bind fun x2 =>
 (bP b2 x2).bind fun x9 =>
 if !x9 then
 some false
 else
 back t76 t77 (w64 (t78 + 1)) b2
 else
 k_1
theorem agd {bP} (dE : K2 sv jc bP) {k_1} (aK : K0 (lO [1, 1, 1, 1]) CH k_1) {back} (aE : K4 (lO [0, 1, 0, 1, 1, 1]) CI back) (n : Nat) : K4 (lO [0, 1, 0, 1, 1, 1]) CI (Cg bP k_1 back n) := fun t76 t77 t78 b2 r h =>
 ie h (fun c0 h =>
 be h fun x2 hx2 h =>
 be h fun x9 hx9 h =>
 ie h (fun c1 h =>
 rr h [(0, eb c0), (0, R83.idx hx2), (5, .call (dE hx9) [] [] []), (0, eb c1)]) (fun c1 h =>
 ra (aE h) [(0, eb c0), (0, R83.idx hx2), (5, .call (dE hx9) [] [] []), (0, eb c1)])) (fun c0 h =>
 ra (aK h) [(0, eb c0)])
def n6 (bP:cN→ak→Option Bool) (k_1:Option Bool):Nat→(List ak)→Int→Int→cN→Option Bool
 |0,_,_,_,_=>none
 |n+1,t76,t77,t78,b2=>Cg bP k_1 (n6 bP k_1 n) n t76 t77 t78 b2
theorem WD {bP} (dE:K2 sv jc bP) {k_1} (aK:K0 (lO [1,1,1,1]) CH k_1):∀n:Nat,K4 (lO [0,1,0,1,1,1]) CI (n6 bP k_1 n)
 |0=>fun _ _ _ _ _ h=>nz h
 |n+1=>fun _ _ _ _ _ h=>agd dE aK (WD dE aK n) n h
def Cf (bP : cN → ak → Option Bool) (n : Nat) : Option Bool :=
 some true
theorem agc {bP} (dE : K2 sv jc bP) (n : Nat) : K0 (lO [1, 1, 1, 1]) CH (Cf bP n) := fun r h =>
 rr h []
def wE (bP : cN → ak → Option Bool) (n : Nat) (t50 : Bool) (b2 : cN) (b3 : ak) : Option Bool :=
 if t50 then
 some false
 else
 if b3.gU != 0 then
 some false
 else
 if !((b3.bB.aD == 0) && ((b3.bB.bL == 0) && (((b3.bB.aT.aD == 0) && ((b3.bB.aT.bJ == 0) && ((decide (b3.bB.aT.bt = ByteArray.empty)) && true))) && true))) then
 some false
 else
 if !((b3.bq.aD == 0) && ((b3.bq.bL == 0) && (((b3.bq.aT.aD == 0) && ((b3.bq.aT.bJ == 0) && ((decide (b3.bq.aT.bt = ByteArray.empty)) && true))) && true))) then
 some false
 else
 n6 bP (Cf bP n) n b3.fArgs (b3.fArgs.length : Int) 0 b2
theorem Xu {bP} (dE : K2 sv jc bP) (n : Nat) : K3 (lO [1, 0, 1, 1, 1, 0, 1, 0, 1]) adz (wE bP n) := fun t50 b2 b3 r h =>
 ie h (fun c0 g0 => by subst c0; exact (
 rr g0 [])) (fun c0 g0 => by subst c0; exact (
 ie g0 (fun c1 g0 =>
 rr g0 [(2, eb c1)]) (fun c1 g0 =>
 ie g0 (fun c2 g0 =>
 rr g0 [(2, eb c1), (4, eb c2)]) (fun c2 g0 =>
 ie g0 (fun c3 g0 =>
 rr g0 [(2, eb c1), (4, eb c2), (5, eb c3)]) (fun c3 g0 =>
 ra (WD dE (agc dE n) n g0) [(2, eb c1), (4, eb c2), (5, eb c3), (3, .eqv (R83.az b3.fArgs))])))))
def Ce (bP : cN → ak → Option Bool) (k_4 : Option Bool) (back : (List ak) → Int → Int → cN → Option Bool) (n : Nat) (t76 : List ak) (t77 t78 : Int) (b2 : cN) : Option Bool :=
 if decide (t78 < t77) then
 (idx t76 t78).bind fun x2 =>
 (bP b2 x2).bind fun x9 =>
 if !x9 then
 some false
 else
 back t76 t77 (w64 (t78 + 1)) b2
 else
 k_4
theorem agb {bP} (dE : K2 sv jc bP) {k_4} (iT : K0 (lO [1, 1, 1, 1]) CF k_4) {back} (aE : K4 (lO [0, 1, 0, 1, 1, 1]) CG back) (n : Nat) : K4 (lO [0, 1, 0, 1, 1, 1]) CG (Ce bP k_4 back n) := fun t76 t77 t78 b2 r h =>
 ie h (fun c0 h =>
 be h fun x2 hx2 h =>
 be h fun x9 hx9 h =>
 ie h (fun c1 h =>
 rr h [(0, eb c0), (0, R83.idx hx2), (5, .call (dE hx9) [] [] []), (0, eb c1)]) (fun c1 h =>
 ra (aE h) [(0, eb c0), (0, R83.idx hx2), (5, .call (dE hx9) [] [] []), (0, eb c1)])) (fun c0 h =>
 ra (iT h) [(0, eb c0)])
def n5 (bP:cN→ak→Option Bool) (k_4:Option Bool):Nat→(List ak)→Int→Int→cN→Option Bool
 |0,_,_,_,_=>none
 |n+1,t76,t77,t78,b2=>Ce bP k_4 (n5 bP k_4 n) n t76 t77 t78 b2
theorem WC {bP} (dE:K2 sv jc bP) {k_4} (iT:K0 (lO [1,1,1,1]) CF k_4):∀n:Nat,K4 (lO [0,1,0,1,1,1]) CG (n5 bP k_4 n)
 |0=>fun _ _ _ _ _ h=>nz h
 |n+1=>fun _ _ _ _ _ h=>agb dE iT (WC dE iT n) n h
def Cd (bP : cN → ak → Option Bool) (n : Nat) : Option Bool :=
 some true
theorem aga {bP} (dE : K2 sv jc bP) (n : Nat) : K0 (lO [1, 1, 1, 1]) CF (Cd bP n) := fun r h =>
 rr h []
def tk (bP : cN → ak → Option Bool) (n : Nat) (b2 : cN) (b3 : ak) : Option Bool :=
 if b3.gU != 0 then
 some false
 else
 if !((b3.bB.aD == 0) && ((b3.bB.bL == 0) && (((b3.bB.aT.aD == 0) && ((b3.bB.aT.bJ == 0) && ((decide (b3.bB.aT.bt = ByteArray.empty)) && true))) && true))) then
 some false
 else
 if !((b3.bq.aD == 0) && ((b3.bq.bL == 0) && (((b3.bq.aT.aD == 0) && ((b3.bq.aT.bJ == 0) && ((decide (b3.bq.aT.bt = ByteArray.empty)) && true))) && true))) then
 some false
 else
 n5 bP (Cd bP n) n b3.fArgs (b3.fArgs.length : Int) 0 b2
theorem KY {bP} (dE : K2 sv jc bP) (n : Nat) : K2 (lO [1, 1]) ady (tk bP n) := fun b2 b3 r h =>
 ie h (fun c0 h =>
 rr h [(2, eb c0)]) (fun c0 h =>
 ie h (fun c1 h =>
 rr h [(2, eb c0), (4, eb c1)]) (fun c1 h =>
 ie h (fun c2 h =>
 rr h [(2, eb c0), (4, eb c1), (5, eb c2)]) (fun c2 h =>
 ra (WC dE (aga dE n) n h) [(2, eb c0), (4, eb c1), (5, eb c2), (3, .eqv (R83.az b3.fArgs))])))
def Mg (bP : cN → ak → Option Bool) (n : Nat) (k0 : cN) (p1 : ak) : Option Bool :=
 if p1.fOp == 3 then
 (LN n k0 p1.bB).bind fun x11 =>
 (LN n k0 p1.bq).bind fun x16 =>
 if (p1.fArgs.length : Int) == 0 then
 if !decide (p1.gU < 1) then
 if !decide (6 < p1.gU) then
 if x11 != 0 then
 some (x11 == x16)
 else
 some false
 else
 some false
 else
 some false
 else
 some false
 else
 if p1.fOp == 1 then
 wE bP n ((p1.fArgs.length : Int) != 0) k0 p1
 else
 if p1.fOp == 2 then
 wE bP n ((p1.fArgs.length : Int) != 0) k0 p1
 else
 if p1.fOp == 6 then
 if (p1.fArgs.length : Int) != 1 then
 some false
 else
 tk bP n k0 p1
 else
 if p1.fOp == 4 then
 tk bP n k0 p1
 else
 if p1.fOp == 5 then
 tk bP n k0 p1
 else
 some false
theorem afZ {bP} (dE : K2 sv jc bP) (n : Nat) : K2 (lO []) jc (Mg bP n) := fun k0 p1 r h =>
 ie h (fun c0 h =>
 be h fun x11 cm h =>
 be h fun x16 cU h =>
 ie h (fun c1 h =>
 ie h (fun c2 h =>
 ie h (fun c3 h =>
 ie h (fun c4 h =>
 rr h [(5, eb c0), (4, .call (nE n cm) [] [] []), (3, .call (nE n cU) [] [] []), (4, .eqv (R83.az p1.fArgs)), (0, eb c1), (3, eb c2), (4, eb c3), (3, eb c4)]) (fun c4 h =>
 rr h [(5, eb c0), (4, .call (nE n cm) [] [] []), (3, .call (nE n cU) [] [] []), (4, .eqv (R83.az p1.fArgs)), (0, eb c1), (3, eb c2), (4, eb c3), (3, eb c4)])) (fun c3 h =>
 rr h [(5, eb c0), (4, .call (nE n cm) [] [] []), (3, .call (nE n cU) [] [] []), (4, .eqv (R83.az p1.fArgs)), (0, eb c1), (3, eb c2), (4, eb c3)])) (fun c2 h =>
 rr h [(5, eb c0), (4, .call (nE n cm) [] [] []), (3, .call (nE n cU) [] [] []), (4, .eqv (R83.az p1.fArgs)), (0, eb c1), (3, eb c2)])) (fun c1 h =>
 rr h [(5, eb c0), (4, .call (nE n cm) [] [] []), (3, .call (nE n cU) [] [] []), (4, .eqv (R83.az p1.fArgs)), (0, eb c1)])) (fun c0 h =>
 ie h (fun c1 h =>
 ra (Xu dE n h) [(5, eb c0), (1, eb c1), (3, .eqv (R83.az p1.fArgs))]) (fun c1 h =>
 ie h (fun c2 h =>
 ra (Xu dE n h) [(5, eb c0), (1, eb c1), (1, eb c2), (3, .eqv (R83.az p1.fArgs))]) (fun c2 h =>
 ie h (fun c3 h =>
 ie h (fun c4 h =>
 rr h [(5, eb c0), (1, eb c1), (1, eb c2), (1, eb c3), (3, .eqv (R83.az p1.fArgs)), (0, eb c4)]) (fun c4 h =>
 ra (KY dE n h) [(5, eb c0), (1, eb c1), (1, eb c2), (1, eb c3), (3, .eqv (R83.az p1.fArgs)), (0, eb c4)])) (fun c3 h =>
 ie h (fun c4 h =>
 ra (KY dE n h) [(5, eb c0), (1, eb c1), (1, eb c2), (1, eb c3), (1, eb c4)]) (fun c4 h =>
 ie h (fun c5 h =>
 ra (KY dE n h) [(5, eb c0), (1, eb c1), (1, eb c2), (1, eb c3), (1, eb c4), (1, eb c5)]) (fun c5 h =>
 rr h [(5, eb c0), (1, eb c1), (1, eb c2), (1, eb c3), (1, eb c4), (1, eb c5)]))))))
def lN:Nat→cN→ak→Option Bool
 |0,_,_=>none
 |n+1,k0,p1=>Mg (lN n) n k0 p1
theorem QZ:∀n:Nat,K2 sv jc (lN n)
 |0=>fun _ _ _ h=>nz h
 |n+1=>fun _ _ _ h=>ca (X:=x111) (afZ (QZ n) n h)
def aaF (r:Int):AV:=.int .i64 r
def Vt (r:Int):List (Nat×Bx):= []
def x79:=fx E0 Tryz.f79 [] []
def A79:=Ax x79 aaF Vt
def C79:=Cx E0 79 aaF Vt
def Ty (bp params1:List Int) (p2:ak):LS:=⟨[(0,.slice 3 1 (bj bp)),(1,.slice 3 1 (bj params1)),(2,.agg (gB p2))],[]⟩
def Se (n : Nat) (bp params1 : List Int) (p2 : ak) : Option Int :=
 (LP n bp).bind fun x4 =>
 if !x4 then
 some 1
 else
 (LP n params1).bind fun x9 =>
 if !x9 then
 some 1
 else
 (Ek n p2 1 24).bind fun x16 =>
 if !x16.1 then
 some 2
 else
 (lN n (cN.mk bp params1) p2).bind fun x23 =>
 if !x23 then
 some 50
 else
 some 0
theorem aiz (n : Nat) : K3 (A79 []) Ty (Se n) := fun bp params1 p2 r h =>
 be h fun x4 hx4 h =>
 ie h (fun c0 h =>
 rr h [(3, .call (oV n hx4) [] [] []), (0, eb c0)]) (fun c0 h =>
 be h fun x9 hx9 h =>
 ie h (fun c1 h =>
 rr h [(3, .call (oV n hx4) [] [] []), (0, eb c0), (2, .call (oV n hx9) [] [] []), (0, eb c1)]) (fun c1 h =>
 be h fun x16 cU h =>
 ie h (fun c2 h =>
 rr h [(3, .call (oV n hx4) [] [] []), (0, eb c0), (2, .call (oV n hx9) [] [] []), (0, eb c1), (4, .call (FV n cU) [] [(7, 2)] []), (0, eb c2)]) (fun c2 h =>
 be h fun x23 fa h =>
 ie h (fun c3 h =>
 rr h [(3, .call (oV n hx4) [] [] []), (0, eb c0), (2, .call (oV n hx9) [] [] []), (0, eb c1), (4, .call (FV n cU) [] [(7, 2)] []), (0, eb c2), (4, .call (QZ n fa) [] [] []), (0, eb c3)]) (fun c3 h =>
 rr h [(3, .call (oV n hx4) [] [] []), (0, eb c0), (2, .call (oV n hx9) [] [] []), (0, eb c1), (4, .call (FV n cU) [] [(7, 2)] []), (0, eb c2), (4, .call (QZ n fa) [] [] []), (0, eb c3)]))))
def F79 (n:Nat) (bp params1:List Int) (p2:ak):Option Int:=Se n bp params1 p2
theorem ev79 (n:Nat):K3 C79 Ty (F79 n):=fun _ _ _ _ h=>ca (X:=x79) (aiz n h)
def abg (r:Int):AV:=.int .i64 r
def VW (r:Int):List (Nat×Bx):= []
def x38:=fx E0 Tryz.f38 [] []
def A38:=Ax x38 abg VW
def C38:=Cx E0 38 abg VW
def Ij (t16:List au) (t17 t18:Int) (b1:ag):LS:=⟨[(1,.loc 1 0),(16,.slice 63 5 (cZ t16)),(17,.int .i64 t17),(18,.int .i64 t18)],[(1,.flat 26 (bf b1))]⟩
def Ii (p8:List Int) (t58:List au) (t59 t60:Int) (t69:List ak) (t70 t71:Int) (b1:ag):LS:=⟨[(1,.loc 1 0),(7,.slice 3 1 (bj p8)),(58,.slice 63 5 (cZ t58)),(59,.int .i64 t59),(60,.int .i64 t60),(69,.slice 84 13 (fZ t69)),(70,.int .i64 t70),(71,.int .i64 t71)],[(1,.flat 26 (bf b1))]⟩
def Ih (t58:List au) (t59 t60:Int) (b1:ag):LS:=⟨[(1,.loc 1 0),(58,.slice 63 5 (cZ t58)),(59,.int .i64 t59),(60,.int .i64 t60)],[(1,.flat 26 (bf b1))]⟩
def zY (t58:List au) (t59 t60:Int) (b1:ag):LS:=⟨[(1,.loc 1 0),(58,.slice 63 5 (cZ t58)),(59,.int .i64 t59),(60,.int .i64 t60)],[(1,.flat 26 (bf b1))]⟩
def Ig:LS:=⟨[],[]⟩
def Ie (b1:ag):LS:=⟨[(1,.loc 1 0)],[(1,.flat 26 (bf b1))]⟩
def TZ (s0:ag):LS:=⟨[(0,.agg (bf s0))],[]⟩
def GW (k_5 : ag → Option Int) (back : (List au) → Int → Int → ag → Option Int) (n : Nat) (t16 : List au) (t17 t18 : Int) (b1 : ag) : Option Int :=
 if decide (t18 < t17) then
 (idx t16 t18).bind fun x2 =>
 if decide (8 < (x2.aq.length : Int)) then
 some 2
 else
 if decide (4 < (x2.bQ.length : Int)) then
 some 2
 else
 if decide (4 < (x2.dk.length : Int)) then
 some 2
 else
 back t16 t17 (w64 (t18 + 1)) b1
 else
 k_5 b1
theorem ajM {k_5} (fO : K1 (A38 [1, 1, 1]) Ie k_5) {back} (aE : K4 (A38 [0, 1, 0, 1, 1]) Ij back) (n : Nat) : K4 (A38 [0, 1, 0, 1, 1]) Ij (GW k_5 back n) := fun t16 t17 t18 b1 r h =>
 ie h (fun c0 h =>
 be h fun x2 hx2 h =>
 ie h (fun c1 h =>
 rr h [(0, eb c0), (0, R62.idx hx2), (5, .eqv (R76.az x2.aq)), (0, eb c1)]) (fun c1 h =>
 ie h (fun c2 h =>
 rr h [(0, eb c0), (0, R62.idx hx2), (5, .eqv (R76.az x2.aq)), (0, eb c1), (3, .eqv (R79.az x2.bQ)), (0, eb c2)]) (fun c2 h =>
 ie h (fun c3 h =>
 rr h [(0, eb c0), (0, R62.idx hx2), (5, .eqv (R76.az x2.aq)), (0, eb c1), (3, .eqv (R79.az x2.bQ)), (0, eb c2), (4, .eqv (R83.az x2.dk)), (0, eb c3)]) (fun c3 h =>
 ra (aE h) [(0, eb c0), (0, R62.idx hx2), (5, .eqv (R76.az x2.aq)), (0, eb c1), (3, .eqv (R79.az x2.bQ)), (0, eb c2), (4, .eqv (R83.az x2.dk)), (0, eb c3)])))) (fun c0 h =>
 ra (fO h) [(0, eb c0)])
def xK (k_5:ag→Option Int):Nat→(List au)→Int→Int→ag→Option Int
 |0,_,_,_,_=>none
 |n+1,t16,t17,t18,b1=>GW k_5 (xK k_5 n) n t16 t17 t18 b1
theorem acd {k_5} (fO:K1 (A38 [1,1,1]) Ie k_5):∀n:Nat,K4 (A38 [0,1,0,1,1]) Ij (xK k_5 n)
 |0=>fun _ _ _ _ _ h=>nz h
 |n+1=>fun _ _ _ _ _ h=>ajM fO (acd fO n) n h
def GV (k_2 : (List au) → Int → Int → ag → Option Int) (back : (List Int) → (List au) → Int → Int → (List ak) → Int → Int → ag → Option Int) (n : Nat) (p8 : List Int) (t58 : List au) (t59 t60 : Int) (t69 : List ak) (t70 t71 : Int) (b1 : ag) : Option Int :=
 if decide (t71 < t70) then
 (idx t69 t71).bind fun x2 =>
 (F79 n p8 [] x2).bind fun x9 =>
 if x9 != 0 then
 some x9
 else
 back p8 t58 t59 t60 t69 t70 (w64 (t71 + 1)) b1
 else
 k_2 t58 t59 t60 b1
theorem ajL {k_2} (cR : K4 (A38 [1, 1, 1, 0, 0, 1, 0, 1, 1, 1, 1]) Ih k_2) {back} (aE : K8 (A38 [0, 1, 1, 1, 0, 0, 1, 1, 0, 0, 1, 0, 1, 1, 1, 1]) Ii back) (n : Nat) : K8 (A38 [0, 1, 1, 1, 0, 0, 1, 1, 0, 0, 1, 0, 1, 1, 1, 1]) Ii (GV k_2 back n) := fun p8 t58 t59 t60 t69 t70 t71 b1 r h =>
 ie h (fun c0 h =>
 be h fun x2 hx2 h =>
 be h fun x9 hx9 h =>
 ie h (fun c1 h =>
 rr h [(0, eb c0), (0, R83.idx hx2), (5, .call (ev79 n hx9) [.one .same, .one (.sl 3 1)] [] []), (2, eb c1)]) (fun c1 h =>
 ra (aE h) [(0, eb c0), (0, R83.idx hx2), (5, .call (ev79 n hx9) [.one .same, .one (.sl 3 1)] [] []), (2, eb c1)])) (fun c0 h =>
 ra (cR h) [(0, eb c0)])
def xJ (k_2:(List au)→Int→Int→ag→Option Int):Nat→(List Int)→(List au)→Int→Int→(List ak)→Int→Int→ag→Option Int
 |0,_,_,_,_,_,_,_,_=>none
 |n+1,p8,t58,t59,t60,t69,t70,t71,b1=>GV k_2 (xJ k_2 n) n p8 t58 t59 t60 t69 t70 t71 b1
theorem acb {k_2} (cR:K4 (A38 [1,1,1,0,0,1,0,1,1,1,1]) Ih k_2):∀n:Nat,K8 (A38 [0,1,1,1,0,0,1,1,0,0,1,0,1,1,1,1]) Ii (xJ k_2 n)
 |0=>fun _ _ _ _ _ _ _ _ _ h=>nz h
 |n+1=>fun _ _ _ _ _ _ _ _ _ h=>ajL cR (acb cR n) n h
def GU (k_3 : (List au) → Int → Int → ag → Option Int) (n : Nat) (t58 : List au) (t59 t60 : Int) (b1 : ag) : Option Int :=
 k_3 t58 t59 (w64 (t60 + 1)) b1
theorem ajK {k_3} (bO : K4 (A38 [0, 1, 0, 1, 1, 1, 1]) zY k_3) (n : Nat) : K4 (A38 [1, 1, 1, 0, 0, 1, 0, 1, 1, 1, 1]) Ih (GU k_3 n) := fun t58 t59 t60 b1 r h =>
 ra (bO h) []
def GS (k_4 : Option Int) (back : (List au) → Int → Int → ag → Option Int) (n : Nat) (t58 : List au) (t59 t60 : Int) (b1 : ag) : Option Int :=
 if decide (t60 < t59) then
 (idx t58 t60).bind fun x3 =>
 (F78 n b1 t60).bind fun x11 =>
 xJ (GU back n) n x11 t58 t59 t60 x3.dk (x3.dk.length : Int) 0 b1
 else
 k_4
theorem ajJ {k_4} (iT : K0 (A38 [1, 1, 1, 1, 1]) Ig k_4) {back} (aE : K4 (A38 [0, 1, 0, 1, 1, 1, 1]) zY back) (n : Nat) : K4 (A38 [0, 1, 0, 1, 1, 1, 1]) zY (GS k_4 back n) := fun t58 t59 t60 b1 r h =>
 ie h (fun c0 h =>
 be h fun x3 hx3 h =>
 be h fun x11 cm h =>
 ra (acb (ajK aE n) n h) [(0, eb c0), (1, R62.idx hx3), (6, .call (Ku n cm) [] [] [(67, 200000)]), (3, .eqv (R83.az x3.dk)), (1, R3.frz 67 x11)]) (fun c0 h =>
 ra (iT h) [(0, eb c0)])
def uB (k_4:Option Int):Nat→(List au)→Int→Int→ag→Option Int
 |0,_,_,_,_=>none
 |n+1,t58,t59,t60,b1=>GS k_4 (uB k_4 n) n t58 t59 t60 b1
theorem aca {k_4} (iT:K0 (A38 [1,1,1,1,1]) Ig k_4):∀n:Nat,K4 (A38 [0,1,0,1,1,1,1]) zY (uB k_4 n)
 |0=>fun _ _ _ _ _ h=>nz h
 |n+1=>fun _ _ _ _ _ h=>ajJ iT (aca iT n) n h
def B7 (n : Nat) : Option Int :=
 some 0
theorem ajI (n : Nat) : K0 (A38 [1, 1, 1, 1, 1]) Ig (B7 n) := fun r h =>
 rr h []
def GR (n : Nat) (b1 : ag) : Option Int :=
 if decide (b1.bM < 0) then
 some 70
 else
 if decide (1000 < b1.bM) then
 some 70
 else
 (F76 n b1).bind fun x11 =>
 if !x11 then
 some 70
 else
 (F77 n b1).bind fun x17 =>
 if !x17 then
 some 70
 else
 uB (B7 n) n b1.ah (b1.ah.length : Int) 0 b1
theorem ajH (n : Nat) : K1 (A38 [1, 1, 1]) Ie (GR n) := fun b1 r h =>
 ie h (fun c0 h =>
 rr h [(2, eb c0)]) (fun c0 h =>
 ie h (fun c1 h =>
 rr h [(2, eb c0), (3, eb c1)]) (fun c1 h =>
 be h fun x11 cm h =>
 ie h (fun c2 h =>
 rr h [(2, eb c0), (3, eb c1), (3, .call (Zz n cm) [] [] []), (0, eb c2)]) (fun c2 h =>
 be h fun x17 gD h =>
 ie h (fun c3 h =>
 rr h [(2, eb c0), (3, eb c1), (3, .call (Zz n cm) [] [] []), (0, eb c2), (3, .call (ev77 n gD) [] [] []), (0, eb c3)]) (fun c3 h =>
 ra (aca (ajI n) n h) [(2, eb c0), (3, eb c1), (3, .call (Zz n cm) [] [] []), (0, eb c2), (3, .call (ev77 n gD) [] [] []), (0, eb c3), (3, .eqv (R62.az b1.ah))]))))
def SP (n : Nat) (s0 : ag) : Option Int :=
 if decide (8 < (s0.ah.length : Int)) then
 some 2
 else
 xK (GR n) n s0.ah (s0.ah.length : Int) 0 s0
theorem ajG (n : Nat) : K1 (A38 []) TZ (SP n) := fun s0 r h =>
 ie h (fun c0 h =>
 rr h [(4, .eqv (R62.az s0.ah)), (0, eb c0)]) (fun c0 h =>
 ra (acd (ajH n) n h) [(4, .eqv (R62.az s0.ah)), (0, eb c0), (2, .eqv (R62.az s0.ah))])
def F38 (n:Nat) (s0:ag):Option Int:=SP n s0
theorem vU (n:Nat):K1 C38 TZ (F38 n):=fun _ _ h=>ca (X:=x38) (ajG n h)
end Go.Proofs.YtmealahmjddpcaaGreatDoor
end
