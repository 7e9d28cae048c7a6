/- Texts that belong together. The first: Functions of the program as plain functions, and that the program answers as they do; written by a program (comp2.py). -/
import Derived.Test.YtmealahmjddpcaaGreatDoorP8
import Derived.KernelRfl
set_option linter.all false
noncomputable section
set_option maxRecDepth 100000
namespace Go.Proofs.YtmealahmjddpcaaGreatDoor
open Go.Sim
def Yh (r:(List Int)):AV:=.ms 200000 1 0 r.length
def Ta (r:(List Int)):List (Nat×Bx):= [(200000,.rows true 3 1 (aR r))]
def x32:=fx E0 Tryz.f32 [] [200000]
def A32:=Ax x32 Yh Ta
def C32:=Cx E0 32 Yh Ta
def G0 (t22:List aL) (t23 t24:Int) (b32:List Int):LS:=⟨[(5,.ms 32 1 0 b32.length),(22,.slice 77 2 (jm t22)),(23,.int .i64 t23),(24,.int .i64 t24)],[(32,.rows true 3 1 (aR b32))]⟩
def GZ (b32:List Int):LS:=⟨[(5,.ms 32 1 0 b32.length)],[(32,.rows true 3 1 (aR b32))]⟩
def Ru (s0:J) (aA:Int):LS:=⟨[(0,.agg (aX s0)),(1,.int .i64 aA)],[]⟩
def Fy (k_1 : (List Int) → Option (List Int)) (back : (List aL) → Int → Int → (List Int) → Option (List Int)) (n : Nat) (t22 : List aL) (t23 t24 : Int) (b32 : List Int) : Option (List Int) :=
 if decide (t24 < t23) then
 (idx t22 t24).bind fun x2 =>
 (app b32 [x2.ar]).bind fun x11 =>
 back t22 t23 (w64 (t24 + 1)) x11
 else
 k_1 b32
theorem agr {k_1} (aH : K1 (A32 [1, 1, 1, 1]) GZ k_1) {back} (ay : K4 (A32 [0, 1, 0, 1, 1, 1]) G0 back) (n : Nat) : K4 (A32 [0, 1, 0, 1, 1, 1]) G0 (Fy k_1 back n) := fun t22 t23 t24 b32 r h =>
 ie h (fun c0 h =>
 be h fun x2 hx2 h =>
 be h fun x11 cF h =>
 ra (ay h) [(0, eb c0), (0, R76.idx hx2), (7, R3.app cF (R3.srW [x2.ar]))]) (fun c0 h =>
 ra (aH h) [(0, eb c0)])
def wF (k_1:(List Int)→Option (List Int)):Nat→(List aL)→Int→Int→(List Int)→Option (List Int)
 |0,_,_,_,_=>none
 |n+1,t22,t23,t24,b32=>Fy k_1 (wF k_1 n) n t22 t23 t24 b32
theorem Y5 {k_1} (aH:K1 (A32 [1,1,1,1]) GZ k_1):∀n:Nat,K4 (A32 [0,1,0,1,1,1]) G0 (wF k_1 n)
 |0=>fun _ _ _ _ _ h=>nz h
 |n+1=>fun _ _ _ _ _ h=>agr aH (Y5 aH n) n h
def Fw (n : Nat) (b32 : List Int) : Option (List Int) :=
 some b32
theorem agq (n : Nat) : K1 (A32 [1, 1, 1, 1]) GZ (Fw n) := fun b32 r h =>
 rr h [(2, .ren 32 200000)]
def QB (n : Nat) (s0 : J) (aA : Int) : Option (List Int) :=
 if decide (aA < 0) then
 some []
 else
 if !decide (aA < (s0.ae.length : Int)) then
 some []
 else
 (idx s0.ae aA).bind fun x16 =>
 wF (Fw n) n x16.af (x16.af.length : Int) 0 []
theorem agp (n : Nat) : K2 (A32 []) Ru (QB n) := fun s0 aA r h =>
 ie h (fun c0 h =>
 rr h [(3, eb c0), (3, .born [4] [] 200000 true 3 1)]) (fun c0 h =>
 ie h (fun c1 h =>
 rr h [(3, eb c0), (4, .eqv (R62.au s0.ae)), (0, eb c1), (2, .born [4] [] 200000 true 3 1)]) (fun c1 h =>
 be h fun x16 dG h =>
 ra (Y5 (agq n) n h) [(3, eb c0), (4, .eqv (R62.au s0.ae)), (0, eb c1), (5, R62.idx dG), (2, .eqv (R76.au x16.af)), (1, .born [5] [] 32 true 3 1)]))
def F32 (n:Nat) (s0:J) (aA:Int):Option (List Int):=QB n s0 aA
theorem jz (n:Nat):K2 C32 Ru (F32 n):=fun _ _ _ h=>ca (X:=x32) (agp n h)
def res9 (r:(J×ai)):AV:=.agg (aX r.1)
def Yt (r:(J×ai)):List (Nat×Bx):= [(0,.flat 74 (br r.2))]
def x9:=fx E0 Tryz.f9 [0] [0]
def A9:=Ax x9 res9 Yt
def C9:=Cx E0 9 res9 Yt
def adN (b0:ai) (b2 b5:J) (b32:List aj):LS:=⟨[(0,.loc 0 0),(2,.loc 2 0),(5,.loc 5 0)],[(0,.flat 74 (br b0)),(2,.flat 26 [.int .i64 0,.aV]),(5,.flat 26 [.int .i64 b5.bz,.ms 32 5 0 b32.length]),(32,.rows false 63 5 (cD b32))]⟩
def adM (n3:Int) (b0:ai) (b2 b5:J) (b32:List aj):LS:=⟨[(0,.loc 0 0),(2,.loc 2 0),(3,.int .i64 n3),(5,.loc 5 0)],[(0,.flat 74 (br b0)),(2,.flat 26 [.int .i64 0,.aV]),(5,.flat 26 [.int .i64 b5.bz,.ms 32 5 0 b32.length]),(32,.rows false 63 5 (cD b32))]⟩
def adL (n3:Int) (b0:ai) (b2 b5:J) (b32:List aj):LS:=⟨[(0,.loc 0 0),(2,.loc 2 0),(3,.int .i64 n3),(5,.loc 5 0)],[(0,.flat 74 (br b0)),(2,.flat 26 [.int .i64 0,.aV]),(5,.flat 26 [.int .i64 b5.bz,.ms 32 5 0 b32.length]),(32,.rows false 63 5 (cD b32))]⟩
def adK (n3 id4:Int) (b0:ai) (b2:J):LS:=⟨[(0,.loc 0 0),(2,.loc 2 0),(3,.int .i64 n3),(4,.int .i64 id4)],[(0,.flat 74 (br b0)),(2,.flat 26 [.int .i64 0,.aV])]⟩
def XD (c0:ai):LS:=⟨[(0,.loc 0 0)],[(0,.flat 74 (br c0))]⟩
def yp (n : Nat) (b0 : ai) (b2 b5 : J) (b32 : List aj) : Option (J × ai) :=
 (F29 n b0 3).bind fun x2 =>
 if x2.1 then
 (F32 n (J.mk b5.bz b32) 1).bind fun x8 =>
 (F31 n x2.2 x8 [] 1).bind fun x10 =>
 (bnd b32.length 1).bind fun x13 =>
 (b32[0 + x13]?).bind fun x16 =>
 (setAt b32 (0 + x13) (aj.mk x16.bk x16.af x16.az x16.aU [x10.1])).bind fun z18 =>
 some ((J.mk b5.bz z18), x10.2)
 else
 some ((J.mk b5.bz b32), x2.2)
theorem Xm (n : Nat) : K4 (A9 [1, 1, 1, 1, 1, 1, 1, 1, 1]) adN (yp n) := fun b0 b2 b5 b32 r h =>
 be h fun x2 hx2 h =>
 ie h (fun c0_ h =>
 be h fun x8 hx8 h =>
 be h fun x10 cx h =>
 be h fun x13 bT h =>
 be h fun x16 dG h =>
 be h fun z18 Ch h =>
 rr h [(1, .call (cb (eP n hx2) c0_) [] [(0, 0)] []), (4, .call (cd (e := 3) (z := true) (Q := aR x8) (bR.lend (k := 700000) (z := false) (e := 63) (s := 5) (Q := cD b32) (n := b32.length) (xs := [.agg [.int .i64 b5.bz, .ms 700000 5 0 b32.length], .int .i64 1]) (jz n hx8) (by kernel_rfl) (R62.len b32) (by kernel_rfl) (by kernel_rfl) (R3.pF (fun _ => by kernel_rfl) x8)) (R3.len x8)) [] [(32, 700000)] []), (0, .call (ev31 n cx) [.one .same, .one (.sl 0 0), .one (.sl 3 1)] [(0, 0)] []), (0, .laid (congrArg (fun q_ => Bx.rows false 84 13 q_) (R83.map [x10.1]).symm)), (0, cP bT), (1, R62.hol 4 dG), (0, R83.frz 82 [x10.1]), (0, R62.clo 32 4 (.slice 84 13 (dV [x10.1])) .undef dG Ch (by kernel_rfl)), (2, .seq 77 (congrArg (fun n_ => (AV.ms 32 5 0 n_)) ((cC Ch).symm))), (0, .seq 79 (congrArg (fun n_ => (AV.agg [.int .i64 b5.bz, .ms 32 5 0 n_])) ((cC Ch).symm))), (0, .seq 85 (congrArg (fun n_ => (AV.agg [.int .i64 b5.bz, .ms 32 5 0 n_])) ((cC Ch).symm))), (0, .beq 2 (congrArg (fun n_ => (Bx.flat 26 [.int .i64 b5.bz, .ms 32 5 0 n_])) ((cC Ch).symm))), (0, .beq 5 (congrArg (fun n_ => (Bx.flat 26 [.int .i64 b5.bz, .ms 32 5 0 n_])) ((cC Ch).symm))), (0, R62.frz 32 z18)]) (fun c0_ h =>
 rr h [(1, .call (cb (eP n hx2) c0_) [] [(0, 0)] []), (2, R62.frz 32 b32)])
def vg (n : Nat) (n3 : Int) (b0 : ai) (b2 b5 : J) (b32 : List aj) : Option (J × ai) :=
 if decide (3 < n3) then
 (F29 n b0 3).bind fun x5 =>
 if x5.1 then
 (bnd b32.length 3).bind fun x13 =>
 (b32[0 + x13]?).bind fun x16 =>
 (setAt b32 (0 + x13) (aj.mk x16.bk x16.af x16.az [(aB.mk [0] 1)] x16.bK)).bind fun z17 =>
 yp n x5.2 (J.mk 0 []) (J.mk b5.bz z17) z17
 else
 yp n x5.2 (J.mk 0 []) (J.mk b5.bz b32) b32
 else
 yp n b0 (J.mk 0 []) (J.mk b5.bz b32) b32
theorem Xl (n : Nat) : K5 (A9 [1, 1, 1, 1, 1, 1, 1, 1]) adM (vg n) := fun n3 b0 b2 b5 b32 r h =>
 ie h (fun c0_ h =>
 be h fun x5 hx5 h =>
 ie h (fun c1 h =>
 be h fun x13 bT h =>
 be h fun x16 dG h =>
 be h fun z17 Ix h =>
 ra (Xm n h) [(1, eb c0_), (2, .call (cb (eP n hx5) c1) [] [(0, 0)] []), (5, R3.frz 69 [0]), (1, cP bT), (1, R79.frz 71 [(aB.mk [0] 1)]), (0, R62.sto 3 [.slice 80 2 (gj [(aB.mk [0] 1)])] dG Ix (by kernel_rfl)), (0, .beq 5 (congrArg (fun n_ => (Bx.flat 26 [.int .i64 b5.bz, .ms 32 5 0 n_])) ((cC Ix).symm)))]) (fun c1 h =>
 ra (Xm n h) [(1, eb c0_), (2, .call (cb (eP n hx5) c1) [] [(0, 0)] [])])) (fun c0_ h =>
 ra (Xm n h) [(1, eb c0_)])
def yo (n : Nat) (n3 : Int) (b0 : ai) (b2 b5 : J) (b32 : List aj) : Option (J × ai) :=
 if decide (2 < n3) then
 (F29 n b0 3).bind fun x5 =>
 if x5.1 then
 (bnd b32.length 2).bind fun x13 =>
 (b32[0 + x13]?).bind fun x16 =>
 (setAt b32 (0 + x13) (aj.mk x16.bk x16.af x16.az [(aB.mk [0] 0)] x16.bK)).bind fun z17 =>
 vg n n3 x5.2 (J.mk 0 []) (J.mk b5.bz z17) z17
 else
 vg n n3 x5.2 (J.mk 0 []) (J.mk b5.bz b32) b32
 else
 vg n n3 b0 (J.mk 0 []) (J.mk b5.bz b32) b32
theorem b9_2 (n : Nat) : K5 (A9 [1, 1, 1, 1, 1, 1, 1]) adL (yo n) := fun n3 b0 b2 b5 b32 r h =>
 ie h (fun c0_ h =>
 be h fun x5 hx5 h =>
 ie h (fun c1 h =>
 be h fun x13 bT h =>
 be h fun x16 dG h =>
 be h fun z17 Ix h =>
 ra (Xl n h) [(1, eb c0_), (2, .call (cb (eP n hx5) c1) [] [(0, 0)] []), (5, R3.frz 56 [0]), (1, cP bT), (1, R79.frz 58 [(aB.mk [0] 0)]), (0, R62.sto 3 [.slice 80 2 (gj [(aB.mk [0] 0)])] dG Ix (by kernel_rfl)), (0, .beq 5 (congrArg (fun n_ => (Bx.flat 26 [.int .i64 b5.bz, .ms 32 5 0 n_])) ((cC Ix).symm)))]) (fun c1 h =>
 ra (Xl n h) [(1, eb c0_), (2, .call (cb (eP n hx5) c1) [] [(0, 0)] [])])) (fun c0_ h =>
 ra (Xl n h) [(1, eb c0_)])
def Kd (n : Nat) (n3 id4 : Int) (b0 : ai) (b2 : J) : Option (J × ai) :=
 (F24 n b0 3).bind fun x2 =>
 (F30 n (ByteArray.mk #[105, 100]) 4).bind fun x4 =>
 (F30 n (ByteArray.mk #[111, 119, 110, 101, 114]) 4).bind fun x6 =>
 (F30 n (ByteArray.mk #[105, 100]) id4).bind fun x11 =>
 (F30 n (ByteArray.mk #[112, 114, 111, 106, 101, 99, 116]) 4).bind fun x13 =>
 (F30 n (ByteArray.mk #[116, 105, 116, 108, 101]) 5).bind fun x15 =>
 (F30 n (ByteArray.mk #[100, 111, 110, 101]) 3).bind fun x17 =>
 (F30 n (ByteArray.mk #[112, 114, 111, 106, 101, 99, 116]) 4).bind fun x21 =>
 (F30 n (ByteArray.mk #[112, 101, 114, 115, 111, 110]) 4).bind fun x23 =>
 (F30 n (ByteArray.mk #[116, 97, 115, 107]) id4).bind fun x28 =>
 (gO 4 n3).bind fun x39 =>
 (F29 n x2.2 2).bind fun x44 =>
 if x44.1 then
 (bnd x39 1).bind fun x51 =>
 ([(aj.mk (ByteArray.mk #[112, 114, 111, 106, 101, 99, 116, 115]) [x4, x6] 1 [] []), (aj.mk (ByteArray.mk #[116, 97, 115, 107, 115]) [x11, x13, x15, x17] 1 [] []), (aj.mk (ByteArray.mk #[109, 101, 109, 98, 101, 114, 115]) [x21, x23] 2 [] []), (aj.mk (ByteArray.mk #[97, 114, 99, 104, 105, 118, 101, 100]) [x28] 1 [] [])][0 + x51]?).bind fun x54 =>
 (setAt [(aj.mk (ByteArray.mk #[112, 114, 111, 106, 101, 99, 116, 115]) [x4, x6] 1 [] []), (aj.mk (ByteArray.mk #[116, 97, 115, 107, 115]) [x11, x13, x15, x17] 1 [] []), (aj.mk (ByteArray.mk #[109, 101, 109, 98, 101, 114, 115]) [x21, x23] 2 [] []), (aj.mk (ByteArray.mk #[97, 114, 99, 104, 105, 118, 101, 100]) [x28] 1 [] [])] (0 + x51) (aj.mk x54.bk x54.af x54.az [(aB.mk [1] 0)] x54.bK)).bind fun z55 =>
 yo n n3 x44.2 (J.mk 0 []) (J.mk x2.1 (z55.take x39)) (z55.take x39)
 else
 yo n n3 x44.2 (J.mk 0 []) (J.mk x2.1 ([(aj.mk (ByteArray.mk #[112, 114, 111, 106, 101, 99, 116, 115]) [x4, x6] 1 [] []), (aj.mk (ByteArray.mk #[116, 97, 115, 107, 115]) [x11, x13, x15, x17] 1 [] []), (aj.mk (ByteArray.mk #[109, 101, 109, 98, 101, 114, 115]) [x21, x23] 2 [] []), (aj.mk (ByteArray.mk #[97, 114, 99, 104, 105, 118, 101, 100]) [x28] 1 [] [])].take x39)) ([(aj.mk (ByteArray.mk #[112, 114, 111, 106, 101, 99, 116, 115]) [x4, x6] 1 [] []), (aj.mk (ByteArray.mk #[116, 97, 115, 107, 115]) [x11, x13, x15, x17] 1 [] []), (aj.mk (ByteArray.mk #[109, 101, 109, 98, 101, 114, 115]) [x21, x23] 2 [] []), (aj.mk (ByteArray.mk #[97, 114, 99, 104, 105, 118, 101, 100]) [x28] 1 [] [])].take x39)
theorem b9_3 (n : Nat) : K4 (A9 [1, 1, 1, 1]) adK (Kd n) := fun n3 id4 b0 b2 r h =>
 be h fun x2 hx2 h =>
 be h fun x4 hx4 h =>
 be h fun x6 hx6 h =>
 be h fun x11 cF h =>
 be h fun x13 bT h =>
 be h fun x15 cV h =>
 be h fun x17 fX h =>
 be h fun x21 iK h =>
 be h fun x23 fV h =>
 be h fun x28 ma h =>
 be h fun x39 Cj h =>
 be h fun x44 Ci h =>
 ie h (fun c0_ h =>
 be h fun x51 Wv h =>
 be h fun x54 Wu h =>
 be h fun z55 hz55 h =>
 ra (b9_2 n h) [(1, .call (bJ n hx2) [] [(0, 0)] []), (0, .call (jf n hx4) [] [] []), (0, .call (jf n hx6) [] [] []), (3, .call (jf n cF) [] [] []), (0, .call (jf n bT) [] [] []), (0, .call (jf n cV) [] [] []), (0, .call (jf n fX) [] [] []), (2, .call (jf n iK) [] [] []), (0, .call (jf n fV) [] [] []), (3, .call (jf n ma) [] [] []), (2, R76.frz 15 [x4, x6]), (0, .norm [(16, .agg [.same, .same, .same, .sl 80 2, .sl 84 13])] []), (0, R76.frz 22 [x11, x13, x15, x17]), (0, .norm [(23, .agg [.same, .same, .same, .sl 80 2, .sl 84 13])] []), (0, R76.frz 26 [x21, x23]), (0, .norm [(27, .agg [.same, .same, .same, .sl 80 2, .sl 84 13])] []), (0, R76.frz 30 [x28]), (0, .norm [(31, .agg [.same, .same, .same, .sl 80 2, .sl 84 13])] []), (7, R62.gO (xs := [(aj.mk (ByteArray.mk #[112, 114, 111, 106, 101, 99, 116, 115]) [x4, x6] 1 [] []), (aj.mk (ByteArray.mk #[116, 97, 115, 107, 115]) [x11, x13, x15, x17] 1 [] []), (aj.mk (ByteArray.mk #[109, 101, 109, 98, 101, 114, 115]) [x21, x23] 2 [] []), (aj.mk (ByteArray.mk #[97, 114, 99, 104, 105, 118, 101, 100]) [x28] 1 [] [])]) Cj (Nat.le_of_eq rfl)), (3, .call (cb (eP n Ci) c0_) [] [(0, 0)] []), (4, R3.frz 43 [1]), (1, cP Wv), (1, R79.frz 45 [(aB.mk [1] 0)]), (0, R62.sto 3 [.slice 80 2 (gj [(aB.mk [1] 0)])] Wu hz55 (by kernel_rfl)), (0, .shr 32 (R62.take z55 x39)), (0, .beq 5 (congrArg (fun n_ => (Bx.flat 26 [.int .i64 x2.1, .ms 32 5 0 n_])) ((tI (xs := z55) (Nat.le_trans (Nat.le_trans (jA Cj).2 (Nat.le_of_eq rfl)) (Nat.le_of_eq (cC hz55).symm))).symm)))]) (fun c0_ h =>
 ra (b9_2 n h) [(1, .call (bJ n hx2) [] [(0, 0)] []), (0, .call (jf n hx4) [] [] []), (0, .call (jf n hx6) [] [] []), (3, .call (jf n cF) [] [] []), (0, .call (jf n bT) [] [] []), (0, .call (jf n cV) [] [] []), (0, .call (jf n fX) [] [] []), (2, .call (jf n iK) [] [] []), (0, .call (jf n fV) [] [] []), (3, .call (jf n ma) [] [] []), (2, R76.frz 15 [x4, x6]), (0, .norm [(16, .agg [.same, .same, .same, .sl 80 2, .sl 84 13])] []), (0, R76.frz 22 [x11, x13, x15, x17]), (0, .norm [(23, .agg [.same, .same, .same, .sl 80 2, .sl 84 13])] []), (0, R76.frz 26 [x21, x23]), (0, .norm [(27, .agg [.same, .same, .same, .sl 80 2, .sl 84 13])] []), (0, R76.frz 30 [x28]), (0, .norm [(31, .agg [.same, .same, .same, .sl 80 2, .sl 84 13])] []), (7, R62.gO (xs := [(aj.mk (ByteArray.mk #[112, 114, 111, 106, 101, 99, 116, 115]) [x4, x6] 1 [] []), (aj.mk (ByteArray.mk #[116, 97, 115, 107, 115]) [x11, x13, x15, x17] 1 [] []), (aj.mk (ByteArray.mk #[109, 101, 109, 98, 101, 114, 115]) [x21, x23] 2 [] []), (aj.mk (ByteArray.mk #[97, 114, 99, 104, 105, 118, 101, 100]) [x28] 1 [] [])]) Cj (Nat.le_of_eq rfl)), (3, .call (cb (eP n Ci) c0_) [] [(0, 0)] []), (0, .shr 32 (R62.take [(aj.mk (ByteArray.mk #[112, 114, 111, 106, 101, 99, 116, 115]) [x4, x6] 1 [] []), (aj.mk (ByteArray.mk #[116, 97, 115, 107, 115]) [x11, x13, x15, x17] 1 [] []), (aj.mk (ByteArray.mk #[109, 101, 109, 98, 101, 114, 115]) [x21, x23] 2 [] []), (aj.mk (ByteArray.mk #[97, 114, 99, 104, 105, 118, 101, 100]) [x28] 1 [] [])] x39)), (0, .beq 5 (congrArg (fun n_ => (Bx.flat 26 [.int .i64 x2.1, .ms 32 5 0 n_])) ((tI (xs := [(aj.mk (ByteArray.mk #[112, 114, 111, 106, 101, 99, 116, 115]) [x4, x6] 1 [] []), (aj.mk (ByteArray.mk #[116, 97, 115, 107, 115]) [x11, x13, x15, x17] 1 [] []), (aj.mk (ByteArray.mk #[109, 101, 109, 98, 101, 114, 115]) [x21, x23] 2 [] []), (aj.mk (ByteArray.mk #[97, 114, 99, 104, 105, 118, 101, 100]) [x28] 1 [] [])]) (Nat.le_trans (jA Cj).2 (Nat.le_of_eq rfl))).symm)))])
def Xu (n : Nat) (c0 : ai) : Option (J × ai) :=
 (F24 n c0 3).bind fun x3 =>
 (F29 n x3.2 5).bind fun x9_ =>
 if x9_.1 then
 Kd n (w64 (2 + x3.1)) 5 x9_.2 (J.mk 0 [])
 else
 Kd n (w64 (2 + x3.1)) 4 x9_.2 (J.mk 0 [])
theorem b9_4 (n : Nat) : K1 (A9 []) XD (Xu n) := fun c0 r h =>
 be h fun x3 hx3 h =>
 be h fun x9_ hx9 h =>
 ie h (fun c0_ h =>
 ra (b9_3 n h) [(2, .call (bJ n hx3) [] [(0, 0)] []), (4, .call (cb (eP n hx9) c0_) [] [(0, 0)] [])]) (fun c0_ h =>
 ra (b9_3 n h) [(2, .call (bJ n hx3) [] [(0, 0)] []), (4, .call (cb (eP n hx9) c0_) [] [(0, 0)] [])])
def F9 (n:Nat) (c0:ai):Option (J×ai):=Xu n c0
theorem ev9 (n:Nat):K1 C9 XD (F9 n):=fun _ _ h=>ca (X:=x9) (b9_4 n h)
def Yg (r:((List aa)×ai)):AV:=.ms 200000 3 0 r.1.length
def S9 (r:((List aa)×ai)):List (Nat×Bx):= [(0,.flat 74 (br r.2)),(200000,.rows true 65 3 (aO r.1))]
def x33:=fx E0 Tryz.f33 [0] [0,200000]
def A33:=Ax x33 Yg S9
def C33:=Cx E0 33 Yg S9
def abm (bQ aG k11:Int) (t12:List Int) (t13 t14:Int) (t41:Bool) (b0:ai) (b9:List aa):LS:=⟨[(0,.loc 0 0),(2,.int .i64 bQ),(3,.int .i64 aG),(9,.ms 9 3 0 b9.length),(11,.int .i64 k11),(12,.slice 3 1 (aR t12)),(13,.int .i64 t13),(14,.int .i64 t14),(41,.bool t41)],[(0,.flat 74 (br b0)),(9,.rows true 65 3 (aO b9))]⟩
def Rt (bQ aG:Int) (t12:List Int) (t13 t14:Int) (b0:ai) (b9:List aa):LS:=⟨[(0,.loc 0 0),(2,.int .i64 bQ),(3,.int .i64 aG),(9,.ms 9 3 0 b9.length),(12,.slice 3 1 (aR t12)),(13,.int .i64 t13),(14,.int .i64 t14)],[(0,.flat 74 (br b0)),(9,.rows true 65 3 (aO b9))]⟩
def yO (bQ aG:Int) (t12:List Int) (t13 t14:Int) (b0:ai) (b9:List aa):LS:=⟨[(0,.loc 0 0),(2,.int .i64 bQ),(3,.int .i64 aG),(9,.ms 9 3 0 b9.length),(12,.slice 3 1 (aR t12)),(13,.int .i64 t13),(14,.int .i64 t14)],[(0,.flat 74 (br b0)),(9,.rows true 65 3 (aO b9))]⟩
def GY (b0:ai) (b9:List aa):LS:=⟨[(9,.ms 9 3 0 b9.length)],[(0,.flat 74 (br b0)),(9,.rows true 65 3 (aO b9))]⟩
def Rr (c0:ai) (cZ:List Int) (bQ aG:Int):LS:=⟨[(0,.loc 0 0),(1,.slice 3 1 (aR cZ)),(2,.int .i64 bQ),(3,.int .i64 aG)],[(0,.flat 74 (br c0))]⟩
def qj (k_1 : Int → Int → (List Int) → Int → Int → ai → (List aa) → Option ((List aa) × ai)) (n : Nat) (bQ aG k11 : Int) (t12 : List Int) (t13 t14 : Int) (t41 : Bool) (b0 : ai) (b9 : List aa) : Option ((List aa) × ai) :=
 if t41 then
 (app b9 [(aa.mk 1 0 ByteArray.empty)]).bind fun x4 =>
 k_1 bQ aG t12 t13 t14 b0 x4
 else
 (F74 n b0 k11).bind fun x4 =>
 (app b9 [x4.1]).bind fun x7 =>
 k_1 bQ aG t12 t13 t14 x4.2 x7
theorem Ak {k_1} (aH : K7 (A33 [1, 1, 1, 0, 0, 1, 0, 1, 1]) Rt k_1) (n : Nat) : K9 (A33 [1, 1, 1, 0, 1, 0, 0, 1, 1, 0, 0, 1, 0, 1, 1]) abm (qj k_1 n) := fun bQ aG k11 t12 t13 t14 t41 b0 b9 r h =>
 ie h (fun c0_ g0 => by subst c0_; exact (
 be g0 fun x4 hx4 g0 =>
 ra (aH g0) [(3, R64.app hx4 (R64.srW [(aa.mk 1 0 ByteArray.empty)]))])) (fun c0_ g0 => by subst c0_; exact (
 be g0 fun x4 hx4 g0 =>
 be g0 fun x7 hx7 g0 =>
 ra (aH g0) [(3, .call (IY n hx4) [] [(0, 0)] []), (1, R64.app hx7 (R64.srW [x4.1]))]))
def nU (k_2 : Int → Int → (List Int) → Int → Int → ai → (List aa) → Option ((List aa) × ai)) (n : Nat) (bQ aG : Int) (t12 : List Int) (t13 t14 : Int) (b0 : ai) (b9 : List aa) : Option ((List aa) × ai) :=
 k_2 bQ aG t12 t13 (w64 (t14 + 1)) b0 b9
theorem vU {k_2} (bW : K7 (A33 [0, 1, 0, 1, 1]) yO k_2) (n : Nat) : K7 (A33 [1, 1, 1, 0, 0, 1, 0, 1, 1]) Rt (nU k_2 n) := fun bQ aG t12 t13 t14 b0 b9 r h =>
 ra (bW h) []
def Fv (k_3 : ai → (List aa) → Option ((List aa) × ai)) (back : Int → Int → (List Int) → Int → Int → ai → (List aa) → Option ((List aa) × ai)) (n : Nat) (bQ aG : Int) (t12 : List Int) (t13 t14 : Int) (b0 : ai) (b9 : List aa) : Option ((List aa) × ai) :=
 if decide (t14 < t13) then
 (idx t12 t14).bind fun x3 =>
 if !decide (t14 < bQ) then
 if aG != 1 then
 (F29 n b0 5).bind fun x17 =>
 if x17.1 then
 (app b9 [(aa.mk 2 0 ByteArray.empty)]).bind fun x24 =>
 nU back n bQ aG t12 t13 t14 x17.2 x24
 else
 if aG == 3 then
 (F29 n x17.2 5).bind fun x30 =>
 qj (nU back n) n bQ aG x3 t12 t13 t14 x30.1 x30.2 b9
 else
 qj (nU back n) n bQ aG x3 t12 t13 t14 false x17.2 b9
 else
 if aG == 3 then
 (F29 n b0 5).bind fun x27 =>
 qj (nU back n) n bQ aG x3 t12 t13 t14 x27.1 x27.2 b9
 else
 qj (nU back n) n bQ aG x3 t12 t13 t14 false b0 b9
 else
 qj (nU back n) n bQ aG x3 t12 t13 t14 false b0 b9
 else
 k_3 b0 b9
theorem ago {k_3} (bE : K2 (A33 [1, 1, 1]) GY k_3) {back} (ay : K7 (A33 [0, 1, 0, 1, 1]) yO back) (n : Nat) : K7 (A33 [0, 1, 0, 1, 1]) yO (Fv k_3 back n) := fun bQ aG t12 t13 t14 b0 b9 r h =>
 ie h (fun c0_ h =>
 be h fun x3 hx3 h =>
 ie h (fun c1 h =>
 ie h (fun c2 h =>
 be h fun x17 fX h =>
 ie h (fun c3 h =>
 be h fun x24 fU h =>
 ra (vU ay n h) [(0, eb c0_), (1, R3.idx hx3), (5, eb c1), (2, eb c2), (3, .call (cb (eP n fX) c3) [] [(0, 0)] []), (5, R64.app fU (R64.srW [(aa.mk 2 0 ByteArray.empty)]))]) (fun c3 h =>
 ie h (fun c4 h =>
 be h fun x30 xV h =>
 ra (Ak (vU ay n) n h) [(0, eb c0_), (1, R3.idx hx3), (5, eb c1), (2, eb c2), (3, .call (cb (eP n fX) c3) [] [(0, 0)] []), (4, eb c1), (2, eb c4), (3, .call (eP n xV) [] [(0, 0)] [])]) (fun c4 h =>
 ra (Ak (vU ay n) n h) [(0, eb c0_), (1, R3.idx hx3), (5, eb c1), (2, eb c2), (3, .call (cb (eP n fX) c3) [] [(0, 0)] []), (4, eb c1), (2, eb c4)]))) (fun c2 h =>
 ie h (fun c3 h =>
 be h fun x27 xW h =>
 ra (Ak (vU ay n) n h) [(0, eb c0_), (1, R3.idx hx3), (5, eb c1), (2, eb c2), (6, eb c1), (2, eb c3), (3, .call (eP n xW) [] [(0, 0)] [])]) (fun c3 h =>
 ra (Ak (vU ay n) n h) [(0, eb c0_), (1, R3.idx hx3), (5, eb c1), (2, eb c2), (6, eb c1), (2, eb c3)]))) (fun c1 h =>
 ra (Ak (vU ay n) n h) [(0, eb c0_), (1, R3.idx hx3), (5, eb c1), (7, eb c1)])) (fun c0_ h =>
 ra (bE h) [(0, eb c0_)])
def tk (k_3:ai→(List aa)→Option ((List aa)×ai)):Nat→Int→Int→(List Int)→Int→Int→ai→(List aa)→Option ((List aa)×ai)
 |0,_,_,_,_,_,_,_=>none
 |n+1,bQ,aG,t12,t13,t14,b0,b9=>Fv k_3 (tk k_3 n) n bQ aG t12 t13 t14 b0 b9
theorem Y4 {k_3} (bE:K2 (A33 [1,1,1]) GY k_3):∀n:Nat,K7 (A33 [0,1,0,1,1]) yO (tk k_3 n)
 |0=>fun _ _ _ _ _ _ _ _ h=>nz h
 |n+1=>fun _ _ _ _ _ _ _ _ h=>ago bE (Y4 bE n) n h
def AM (n : Nat) (b0 : ai) (b9 : List aa) : Option ((List aa) × ai) :=
 some (b9, b0)
theorem agn (n : Nat) : K2 (A33 [1, 1, 1]) GY (AM n) := fun b0 b9 r h =>
 rr h [(2, .ren 9 200000)]
def ZP (n : Nat) (c0 : ai) (cZ : List Int) (bQ aG : Int) : Option ((List aa) × ai) :=
 tk (AM n) n bQ aG cZ (cZ.length : Int) 0 c0 []
theorem agm (n : Nat) : K4 (A33 []) Rr (ZP n) := fun c0 cZ bQ aG r h =>
 ra (Y4 (agn n) n h) [(3, .eqv (R3.au cZ)), (1, .born [9] [] 9 true 65 3)]
def F33 (n:Nat) (c0:ai) (cZ:List Int) (bQ aG:Int):Option ((List aa)×ai):=ZP n c0 cZ bQ aG
theorem O2 (n:Nat):K4 C33 Rr (F33 n):=fun _ _ _ _ _ h=>ca (X:=x33) (agm n h)
def X2 (r:(List aa)):AV:=.ms 200000 3 0 r.length
def SU (r:(List aa)):List (Nat×Bx):= [(200000,.rows true 65 3 (aO r))]
def x54:=fx E0 Tryz.f54 [] [200000]
def A54:=Ax x54 X2 SU
def C54:=Cx E0 54 X2 SU
def Re (r0:List aa):LS:=⟨[(0,.slice 65 3 (aO r0))],[]⟩
def Qm (n : Nat) (r0 : List aa) : Option (List aa) :=
 (app [] r0).bind fun x3 =>
 some x3
theorem afA (n : Nat) : K1 (A54 []) Re (Qm n) := fun r0 r h =>
 be h fun x3 hx3 h =>
 rr h [(2, .born [] [] 4 true 65 3), (0, R64.app (xs := []) hx3 .dat), (1, .ren 4 200000)]
def F54 (n:Nat) (r0:List aa):Option (List aa):=Qm n r0
theorem OZ (n:Nat):K1 C54 Re (F54 n):=fun _ _ h=>ca (X:=x54) (afA n h)
def Yf (r:(List aa)):AV:=.ms 200000 3 0 r.length
def S8 (r:(List aa)):List (Nat×Bx):= [(200000,.rows true 65 3 (aO r))]
def x34:=fx E0 Tryz.f34 [] [200000]
def A34:=Ax x34 Yf S8
def C34:=Cx E0 34 Yf S8
def Rq (s0:J) (aA:Int) (cf:List aa):LS:=⟨[(0,.agg (aX s0)),(1,.int .i64 aA),(2,.slice 65 3 (aO cf))],[]⟩
def QA (n : Nat) (s0 : J) (aA : Int) (cf : List aa) : Option (List aa) :=
 if decide (aA < 0) then
 some []
 else
 if !decide (aA < (s0.ae.length : Int)) then
 some []
 else
 (idx s0.ae aA).bind fun x16 =>
 (cut cf none (some (if 0 < (if (cf.length : Int) < x16.az then (cf.length : Int) else x16.az) then (if (cf.length : Int) < x16.az then (cf.length : Int) else x16.az) else 0))).bind fun x24 =>
 (F54 n x24).bind fun x26 =>
 some x26
theorem agl (n : Nat) : K3 (A34 []) Rq (QA n) := fun s0 aA cf r h =>
 ie h (fun c0 h =>
 rr h [(3, eb c0), (3, .born [6] [] 200000 true 65 3)]) (fun c0 h =>
 ie h (fun c1 h =>
 rr h [(3, eb c0), (4, .eqv (R62.au s0.ae)), (0, eb c1), (2, .born [6] [] 200000 true 65 3)]) (fun c1 h =>
 be h fun x16 dG h =>
 be h fun x24 fU h =>
 be h fun x26 oH h =>
 rr h [(3, eb c0), (4, .eqv (R62.au s0.ae)), (0, eb c1), (5, R62.idx dG), (3, .eqv (R64.au cf)), (2, R64.cut fU), (0, .call (OZ n oH) [] [] [(28, 200000)]), (1, .ren 28 200000)]))
def F34 (n:Nat) (s0:J) (aA:Int) (cf:List aa):Option (List aa):=QA n s0 aA cf
theorem uJ (n:Nat):K3 C34 Rq (F34 n):=fun _ _ _ _ h=>ca (X:=x34) (agl n h)
def X1 (r:Int):AV:=.int .i64 r
def SS (r:Int):List (Nat×Bx):= []
def x61:=fx E0 Tryz.f61 [] []
def A61:=Ax x61 X1 SS
def C61:=Cx E0 61 X1 SS
def Rd (a0 b1:aa):LS:=⟨[(0,.agg (gd a0)),(1,.agg (gd b1))],[]⟩
def Ql (n : Nat) (a0 b1 : aa) : Option Int :=
 if decide (a0.ar < b1.ar) then
 some (-1)
 else
 if decide (b1.ar < a0.ar) then
 some 1
 else
 if decide (a0.bL < b1.bL) then
 some (-1)
 else
 if decide (b1.bL < a0.bL) then
 some 1
 else
 if Op.bytesLess a0.bj.toList b1.bj.toList then
 some (-1)
 else
 if !(Op.bytesLess a0.bj.toList b1.bj.toList || a0.bj.toList == b1.bj.toList) then
 some 1
 else
 some 0
theorem afz (n : Nat) : K2 (A61 []) Rd (Ql n) := fun a0 b1 r h =>
 ie h (fun c0 h =>
 rr h [(7, eb c0)]) (fun c0 h =>
 ie h (fun c1 h =>
 rr h [(7, eb c0), (5, eb c1)]) (fun c1 h =>
 ie h (fun c2 h =>
 rr h [(7, eb c0), (5, eb c1), (5, eb c2)]) (fun c2 h =>
 ie h (fun c3 h =>
 rr h [(7, eb c0), (5, eb c1), (5, eb c2), (5, eb c3)]) (fun c3 h =>
 ie h (fun c4 h =>
 rr h [(7, eb c0), (5, eb c1), (5, eb c2), (5, eb c3), (5, eb c4)]) (fun c4 h =>
 ie h (fun c5 h =>
 rr h [(7, eb c0), (5, eb c1), (5, eb c2), (5, eb c3), (5, eb c4), (5, eb c5)]) (fun c5 h =>
 rr h [(7, eb c0), (5, eb c1), (5, eb c2), (5, eb c3), (5, eb c4), (5, eb c5)]))))))
def F61 (n:Nat) (a0 b1:aa):Option Int:=Ql n a0 b1
theorem ev61 (n:Nat):K2 C61 Rd (F61 n):=fun _ _ _ h=>ca (X:=x61) (afz n h)
def Ym (r:Int):AV:=.int .i64 r
def Tg (r:Int):List (Nat×Bx):= []
def x22:=fx E0 Tryz.f22 [] []
def A22:=Ax x22 Ym Tg
def C22:=Cx E0 22 Ym Tg
def G2 (a0 b1:List aa) (i5:Int):LS:=⟨[(0,.slice 65 3 (aO a0)),(1,.slice 65 3 (aO b1)),(5,.int .i64 i5)],[]⟩
def G1 (a0 b1:List aa):LS:=⟨[(0,.slice 65 3 (aO a0)),(1,.slice 65 3 (aO b1))],[]⟩
def Rz (a0 b1:List aa):LS:=⟨[(0,.slice 65 3 (aO a0)),(1,.slice 65 3 (aO b1))],[]⟩
def Fz (k_1 : (List aa) → (List aa) → Option Int) (back : (List aa) → (List aa) → Int → Option Int) (n : Nat) (a0 b1 : List aa) (i5 : Int) : Option Int :=
 if decide (i5 < (a0.length : Int)) then
 if decide (i5 < (b1.length : Int)) then
 (idx a0 i5).bind fun x13 =>
 (idx b1 i5).bind fun x18 =>
 (F61 n x13 x18).bind fun x21 =>
 if x21 != 0 then
 some x21
 else
 back a0 b1 (w64 (i5 + 1))
 else
 k_1 a0 b1
 else
 k_1 a0 b1
theorem agy {k_1} (aH : K2 (A22 [1, 1]) G1 k_1) {back} (ay : K3 (A22 [0, 1, 0, 1]) G2 back) (n : Nat) : K3 (A22 [0, 1, 0, 1]) G2 (Fz k_1 back n) := fun a0 b1 i5 r h =>
 ie h (fun c0 h =>
 ie h (fun c1 h =>
 be h fun x13 bT h =>
 be h fun x18 g7 h =>
 be h fun x21 iK h =>
 ie h (fun c2 h =>
 rr h [(2, .eqv (R64.au a0)), (0, eb c0), (3, .eqv (R64.au b1)), (0, eb c1), (3, R64.idx bT), (3, R64.idx g7), (1, .call (ev61 n iK) [] [] []), (2, eb c2)]) (fun c2 h =>
 ra (ay h) [(2, .eqv (R64.au a0)), (0, eb c0), (3, .eqv (R64.au b1)), (0, eb c1), (3, R64.idx bT), (3, R64.idx g7), (1, .call (ev61 n iK) [] [] []), (2, eb c2)])) (fun c1 h =>
 ra (aH h) [(2, .eqv (R64.au a0)), (0, eb c0), (3, .eqv (R64.au b1)), (0, eb c1)])) (fun c0 h =>
 ra (aH h) [(2, .eqv (R64.au a0)), (0, eb c0)])
def wG (k_1:(List aa)→(List aa)→Option Int):Nat→(List aa)→(List aa)→Int→Option Int
 |0,_,_,_=>none
 |n+1,a0,b1,i5=>Fz k_1 (wG k_1 n) n a0 b1 i5
theorem Y6 {k_1} (aH:K2 (A22 [1,1]) G1 k_1):∀n:Nat,K3 (A22 [0,1,0,1]) G2 (wG k_1 n)
 |0=>fun _ _ _ _ h=>nz h
 |n+1=>fun _ _ _ _ h=>agy aH (Y6 aH n) n h
def AN (n : Nat) (a0 b1 : List aa) : Option Int :=
 if decide ((a0.length : Int) < (b1.length : Int)) then
 some (-1)
 else
 if decide ((b1.length : Int) < (a0.length : Int)) then
 some 1
 else
 some 0
theorem agx (n : Nat) : K2 (A22 [1, 1]) G1 (AN n) := fun a0 b1 r h =>
 ie h (fun c0 h =>
 rr h [(1, .eqv (R64.au a0)), (1, .eqv (R64.au b1)), (0, eb c0)]) (fun c0 h =>
 ie h (fun c1 h =>
 rr h [(1, .eqv (R64.au a0)), (1, .eqv (R64.au b1)), (0, eb c0), (2, .eqv (R64.au a0)), (1, .eqv (R64.au b1)), (0, eb c1)]) (fun c1 h =>
 rr h [(1, .eqv (R64.au a0)), (1, .eqv (R64.au b1)), (0, eb c0), (2, .eqv (R64.au a0)), (1, .eqv (R64.au b1)), (0, eb c1)]))
def ZQ (n : Nat) (a0 b1 : List aa) : Option Int :=
 wG (AN n) n a0 b1 0
theorem agw (n : Nat) : K2 (A22 []) Rz (ZQ n) := fun a0 b1 r h =>
 ra (Y6 (agx n) n h) []
def F22 (n:Nat) (a0 b1:List aa):Option Int:=ZQ n a0 b1
theorem yd (n:Nat):K2 C22 Rz (F22 n):=fun _ _ _ h=>ca (X:=x22) (agw n h)
def XW (r:Int):AV:=.int .i64 r
def SM (r:Int):List (Nat×Bx):= []
def x75:=fx E0 Tryz.f75 [] []
def A75:=Ax x75 XW SM
def C75:=Cx E0 75 XW SM
def Gx (ba:Int) (cM:List aa) (t31:List (List aa)) (t32 t33:Int) (b4:J):LS:=⟨[(2,.int .i64 ba),(3,.slice 65 3 (aO cM)),(4,.loc 4 0),(31,.slice 43 1 (jn t31)),(32,.int .i64 t32),(33,.int .i64 t33)],[(4,.flat 26 (aX b4))]⟩
def Gw:LS:=⟨[],[]⟩
def Q8 (s0:J) (st1:aq) (ba:Int) (cM:List aa):LS:=⟨[(0,.agg (aX s0)),(1,.agg (mB st1)),(2,.int .i64 ba),(3,.slice 65 3 (aO cM))],[]⟩
def EZ (k_1 : Option Int) (back : Int → (List aa) → (List (List aa)) → Int → Int → J → Option Int) (n : Nat) (ba : Int) (cM : List aa) (t31 : List (List aa)) (t32 t33 : Int) (b4 : J) : Option Int :=
 if decide (t33 < t32) then
 (idx t31 t33).bind fun x3 =>
 (F34 n b4 ba x3).bind fun x11 =>
 (F22 n x11 cM).bind fun x14 =>
 if x14 == 0 then
 some t33
 else
 back ba cM t31 t32 (w64 (t33 + 1)) b4
 else
 k_1
theorem afq {k_1} (aH : K0 (A75 [1, 1, 1]) Gw k_1) {back} (ay : K6 (A75 [0, 1, 0, 1, 1]) Gx back) (n : Nat) : K6 (A75 [0, 1, 0, 1, 1]) Gx (EZ k_1 back n) := fun ba cM t31 t32 t33 b4 r h =>
 ie h (fun c0 h =>
 be h fun x3 hx3 h =>
 be h fun x11 cF h =>
 be h fun x14 gN h =>
 ie h (fun c1 h =>
 rr h [(0, eb c0), (1, R42.idx hx3), (6, .call (uJ n cF) [] [] [(41, 200000)]), (1, R64.frz 41 x11), (0, .call (yd n gN) [.one (.sl 0 0)] [] []), (0, eb c1)]) (fun c1 h =>
 ra (ay h) [(0, eb c0), (1, R42.idx hx3), (6, .call (uJ n cF) [] [] [(41, 200000)]), (1, R64.frz 41 x11), (0, .call (yd n gN) [.one (.sl 0 0)] [] []), (0, eb c1)])) (fun c0 h =>
 ra (aH h) [(0, eb c0)])
def wm (k_1:Option Int):Nat→Int→(List aa)→(List (List aa))→Int→Int→J→Option Int
 |0,_,_,_,_,_,_=>none
 |n+1,ba,cM,t31,t32,t33,b4=>EZ k_1 (wm k_1 n) n ba cM t31 t32 t33 b4
theorem YP {k_1} (aH:K0 (A75 [1,1,1]) Gw k_1):∀n:Nat,K6 (A75 [0,1,0,1,1]) Gx (wm k_1 n)
 |0=>fun _ _ _ _ _ _ _ h=>nz h
 |n+1=>fun _ _ _ _ _ _ _ h=>afq aH (YP aH n) n h
def EY (n : Nat) : Option Int :=
 some (-1)
theorem afp (n : Nat) : K0 (A75 [1, 1, 1]) Gw (EY n) := fun r h =>
 rr h []
def Qg (n : Nat) (s0 : J) (st1 : aq) (ba : Int) (cM : List aa) : Option Int :=
 if decide (ba < 0) then
 some (-1)
 else
 if !decide (ba < (s0.ae.length : Int)) then
 some (-1)
 else
 if !decide (ba < (st1.ae.length : Int)) then
 some (-1)
 else
 (idx st1.ae ba).bind fun x23 =>
 wm (EY n) n ba cM x23 (x23.length : Int) 0 s0
theorem afo (n : Nat) : K4 (A75 []) Q8 (Qg n) := fun s0 st1 ba cM r h =>
 ie h (fun c0 h =>
 rr h [(4, eb c0)]) (fun c0 h =>
 ie h (fun c1 h =>
 rr h [(4, eb c0), (4, .eqv (R62.au s0.ae)), (0, eb c1)]) (fun c1 h =>
 ie h (fun c2 h =>
 rr h [(4, eb c0), (4, .eqv (R62.au s0.ae)), (0, eb c1), (5, .eqv (R66.au st1.ae)), (0, eb c2)]) (fun c2 h =>
 be h fun x23 fV h =>
 ra (YP (afp n) n h) [(4, eb c0), (4, .eqv (R62.au s0.ae)), (0, eb c1), (5, .eqv (R66.au st1.ae)), (0, eb c2), (4, R66.idx fV), (1, .eqv (R42.au x23))])))
def F75 (n:Nat) (s0:J) (st1:aq) (ba:Int) (cM:List aa):Option Int:=Qg n s0 st1 ba cM
theorem ev75 (n:Nat):K4 C75 Q8 (F75 n):=fun _ _ _ _ _ h=>ca (X:=x75) (afo n h)
def Ye (r:((List aa)×Bool)):AV:=.tup [.ms 200000 3 0 r.1.length,.bool r.2]
def S7 (r:((List aa)×Bool)):List (Nat×Bx):= [(200000,.rows true 65 3 (aO r.1))]
def x35:=fx E0 Tryz.f35 [] [200000]
def A35:=Ax x35 Ye S7
def C35:=Cx E0 35 Ye S7
def Rp (s0:J) (st1:aq) (ba:Int) (cM:List aa):LS:=⟨[(0,.agg (aX s0)),(1,.agg (mB st1)),(2,.int .i64 ba),(3,.slice 65 3 (aO cM))],[]⟩
def Qz (n : Nat) (s0 : J) (st1 : aq) (ba : Int) (cM : List aa) : Option ((List aa) × Bool) :=
 (F75 n s0 st1 ba cM).bind fun x9 =>
 if decide (x9 < 0) then
 some ([], false)
 else
 (idx st1.ae ba).bind fun x17 =>
 (idx x17 x9).bind fun x21 =>
 (F54 n x21).bind fun x24 =>
 some (x24, true)
theorem agk (n : Nat) : K4 (A35 []) Rp (Qz n) := fun s0 st1 ba cM r h =>
 be h fun x9 hx9 h =>
 ie h (fun c0 h =>
 rr h [(8, .call (ev75 n hx9) [] [] []), (2, eb c0), (2, .born [8] [] 200000 true 65 3)]) (fun c0 h =>
 be h fun x17 fX h =>
 be h fun x21 iK h =>
 be h fun x24 fU h =>
 rr h [(8, .call (ev75 n hx9) [] [] []), (2, eb c0), (3, R66.idx fX), (2, R42.idx iK), (1, .call (OZ n fU) [] [] [(26, 200000)]), (2, .ren 26 200000)])
def F35 (n:Nat) (s0:J) (st1:aq) (ba:Int) (cM:List aa):Option ((List aa)×Bool):=Qz n s0 st1 ba cM
theorem ev35 (n:Nat):K4 C35 Rp (F35 n):=fun _ _ _ _ _ h=>ca (X:=x35) (agk n h)
def Yd (r:Int):AV:=.int .i64 r
def S6 (r:Int):List (Nat×Bx):= []
def x36:=fx E0 Tryz.f36 [] []
def A36:=Ax x36 Yd S6
def C36:=Cx E0 36 Yd S6
def Ro (t0:Int) (a1:List aa) (u2:Int) (b3:List aa):LS:=⟨[(0,.int .i64 t0),(1,.slice 65 3 (aO a1)),(2,.int .i64 u2),(3,.slice 65 3 (aO b3))],[]⟩
def Qy (n : Nat) (t0 : Int) (a1 : List aa) (u2 : Int) (b3 : List aa) : Option Int :=
 if t0 != u2 then
 if decide (t0 < u2) then
 some (-1)
 else
 some 1
 else
 (F22 n a1 b3).bind fun x7 =>
 some x7
theorem agj (n : Nat) : K4 (A36 []) Ro (Qy n) := fun t0 a1 u2 b3 r h =>
 ie h (fun c0 h =>
 ie h (fun c1 h =>
 rr h [(3, eb c0), (2, eb c1)]) (fun c1 h =>
 rr h [(3, eb c0), (2, eb c1)])) (fun c0 h =>
 be h fun x7 hx7 h =>
 rr h [(3, eb c0), (2, .call (yd n hx7) [] [] [])])
def F36 (n:Nat) (t0:Int) (a1:List aa) (u2:Int) (b3:List aa):Option Int:=Qy n t0 a1 u2 b3
theorem I0 (n:Nat):K4 C36 Ro (F36 n):=fun _ _ _ _ _ h=>ca (X:=x36) (agj n h)
def Yr (r:((List ak)×ai)):AV:=.ms 200000 5 0 r.1.length
def Tl (r:((List ak)×ai)):List (Nat×Bx):= [(0,.flat 74 (br r.2)),(200000,.rows false 55 5 (cc r.1))]
def x10:=fx E0 Tryz.f10 [0] [0,200000]
def A10:=Ax x10 Yr Tl
def C10:=Cx E0 10 Yr Tl
def Hg (n10 i17:Int) (t29:List aj) (t30:Int) (b0:ai) (b5:J) (b6:aq) (b9:List ak) (b50:List aa) (b14:ak) (cS:List Int) (mg:List aa):LS:=⟨[(0,.loc 0 0),(5,.loc 5 0),(6,.loc 6 0),(9,.ms 500009 5 0 b9.length),(10,.int .i64 n10),(12,.ms 50 3 0 b50.length),(14,.loc 14 0),(17,.int .i64 i17),(28,.loc 5 1),(29,.slice 63 5 (cD t29)),(30,.int .i64 t30),(31,.bool true)],[(0,.flat 74 (br b0)),(5,.flat 26 (aX b5)),(6,.flat 33 (mB b6)),(14,.flat 55 [.int .i64 b14.fOp,.int .i64 b14.aD,.slice 65 3 (aO b14.az),.ms 129 1 0 cS.length,.ms 137 3 0 mg.length]),(50,.rows true 65 3 (aO b50)),(129,.rows true 3 1 (aR cS)),(137,.rows true 65 3 (aO mg)),(500009,.rows false 55 5 (cc b9))]⟩
def He (n10 lH:Int) (gi:Bool) (i20:Int) (t29:List aj) (t30:Int) (b0:ai) (b5:J) (b6:aq) (b9:List ak) (b14:ak) (cS:List Int) (dx:List aa):LS:=⟨[(0,.loc 0 0),(5,.loc 5 0),(6,.loc 6 0),(9,.ms 500009 5 0 b9.length),(10,.int .i64 n10),(14,.loc 14 0),(18,.int .i64 lH),(19,.bool gi),(20,.int .i64 i20),(28,.loc 5 1),(29,.slice 63 5 (cD t29)),(30,.int .i64 t30),(31,.bool true)],[(0,.flat 74 (br b0)),(5,.flat 26 (aX b5)),(6,.flat 33 (mB b6)),(14,.flat 55 [.int .i64 b14.fOp,.int .i64 b14.aD,.slice 65 3 (aO b14.az),.ms 129 1 0 cS.length,.ms 601404 3 0 dx.length]),(129,.rows true 3 1 (aR cS)),(500009,.rows false 55 5 (cc b9)),(601404,.rows true 65 3 (aO dx))]⟩
def Hc (n10 lH:Int) (gi:Bool) (t29:List aj) (t30:Int) (b0:ai) (b5:J) (b6:aq) (b9:List ak) (b14:ak) (cS:List Int) (dx:List aa):LS:=⟨[(0,.loc 0 0),(5,.loc 5 0),(6,.loc 6 0),(9,.ms 500009 5 0 b9.length),(10,.int .i64 n10),(14,.loc 14 0),(18,.int .i64 lH),(19,.bool gi),(28,.loc 5 1),(29,.slice 63 5 (cD t29)),(30,.int .i64 t30),(31,.bool true)],[(0,.flat 74 (br b0)),(5,.flat 26 (aX b5)),(6,.flat 33 (mB b6)),(14,.flat 55 [.int .i64 b14.fOp,.int .i64 b14.aD,.slice 65 3 (aO b14.az),.ms 129 1 0 cS.length,.ms 601404 3 0 dx.length]),(129,.rows true 3 1 (aR cS)),(500009,.rows false 55 5 (cc b9)),(601404,.rows true 65 3 (aO dx))]⟩
def Hb (n10:Int) (t29:List aj) (t30:Int) (b0:ai) (b5:J) (b6:aq) (b9:List ak) (b14:ak) (cS:List Int) (dx:List aa):LS:=⟨[(0,.loc 0 0),(5,.loc 5 0),(6,.loc 6 0),(9,.ms 500009 5 0 b9.length),(10,.int .i64 n10),(14,.loc 14 0),(28,.loc 5 1),(29,.slice 63 5 (cD t29)),(30,.int .i64 t30),(31,.bool true)],[(0,.flat 74 (br b0)),(5,.flat 26 (aX b5)),(6,.flat 33 (mB b6)),(14,.flat 55 [.int .i64 b14.fOp,.int .i64 b14.aD,.slice 65 3 (aO b14.az),.ms 129 1 0 cS.length,.ms 601404 3 0 dx.length]),(129,.rows true 3 1 (aR cS)),(500009,.rows false 55 5 (cc b9)),(601404,.rows true 65 3 (aO dx))]⟩
def abo (n10 t11:Int) (t29:List aj) (t30:Int) (b0:ai) (b5:J) (b6:aq) (b9:List ak) (b50:List aa):LS:=⟨[(0,.loc 0 0),(5,.loc 5 0),(6,.loc 6 0),(9,.ms 500009 5 0 b9.length),(10,.int .i64 n10),(11,.int .i64 t11),(12,.ms 50 3 0 b50.length),(28,.loc 5 1),(29,.slice 63 5 (cD t29)),(30,.int .i64 t30),(31,.bool true)],[(0,.flat 74 (br b0)),(5,.flat 26 (aX b5)),(6,.flat 33 (mB b6)),(50,.rows true 65 3 (aO b50)),(500009,.rows false 55 5 (cc b9))]⟩
def qN (n10:Int) (b0:ai) (b5:J) (b6:aq) (b9:List ak):LS:=⟨[(0,.loc 0 0),(5,.loc 5 0),(6,.loc 6 0),(9,.ms 500009 5 0 b9.length),(10,.int .i64 n10)],[(0,.flat 74 (br b0)),(5,.flat 26 (aX b5)),(6,.flat 33 (mB b6)),(500009,.rows false 55 5 (cc b9))]⟩
def Ha (b0:ai) (b9:List ak):LS:=⟨[(9,.ms 500009 5 0 b9.length)],[(0,.flat 74 (br b0)),(500009,.rows false 55 5 (cc b9))]⟩
def RE (c0:ai) (s1:J) (st2:aq) (vD:Int):LS:=⟨[(0,.loc 0 0),(1,.agg (aX s1)),(2,.agg (mB st2)),(3,.int .i64 vD)],[(0,.flat 74 (br c0))]⟩
def FK (k_3 : Int → (List aj) → Int → ai → J → aq → (List ak) → ak → (List Int) → (List aa) → Option ((List ak) × ai)) (back : Int → Int → (List aj) → Int → ai → J → aq → (List ak) → (List aa) → ak → (List Int) → (List aa) → Option ((List ak) × ai)) (n : Nat) (n10 i17 : Int) (t29 : List aj) (t30 : Int) (b0 : ai) (b5 : J) (b6 : aq) (b9 : List ak) (b50 : List aa) (b14 : ak) (cS : List Int) (mg : List aa) : Option ((List ak) × ai) :=
 if decide (i17 < (b50.length : Int)) then
 if b14.fOp == 2 then
 (F29 n b0 2).bind fun x11 =>
 if x11.1 then
 (app cS [i17]).bind fun x17 =>
 (bnd b50.length i17).bind fun x23 =>
 (b50[0 + x23]?).bind fun x25 =>
 (app mg [x25]).bind fun x28 =>
 back n10 (w64 (i17 + 1)) t29 t30 x11.2 b5 b6 b9 b50 (ak.mk b14.fOp b14.aD b14.az x17 x28) x17 x28
 else
 back n10 (w64 (i17 + 1)) t29 t30 x11.2 b5 b6 b9 b50 (ak.mk b14.fOp b14.aD b14.az cS mg) cS mg
 else
 k_3 n10 t29 t30 b0 b5 b6 b9 (ak.mk b14.fOp b14.aD b14.az cS mg) cS mg
 else
 k_3 n10 t29 t30 b0 b5 b6 b9 (ak.mk b14.fOp b14.aD b14.az cS mg) cS mg
theorem agQ {k_3} (bE : K10 (A10 [1, 1, 1, 1, 1, 0, 0, 1, 0, 0, 1, 0, 1, 1]) Hb k_3) {back} (ay : K12 (A10 [0, 1, 1, 0, 1, 1, 0, 1, 1, 1, 1, 0, 0, 1, 0, 0, 1, 0, 1, 1]) Hg back) (n : Nat) : K12 (A10 [0, 1, 1, 0, 1, 1, 0, 1, 1, 1, 1, 0, 0, 1, 0, 0, 1, 0, 1, 1]) Hg (FK k_3 back n) := fun n10 i17 t29 t30 b0 b5 b6 b9 b50 b14 cS mg r h =>
 ie h (fun c0_ h =>
 ie h (fun c1 h =>
 be h fun x11 cF h =>
 ie h (fun c2 h =>
 be h fun x17 fX h =>
 be h fun x23 fV h =>
 be h fun x25 oI h =>
 be h fun x28 ma h =>
 ra (ay h) [(3, eb c0_), (3, eb c1), (2, .call (cb (eP n cF) c2) [] [(0, 0)] []), (4, R3.app fX (R3.srW [i17])), (4, cP fV), (0, R64.row oI), (1, R64.app ma (R64.srW [x25]))]) (fun c2 h =>
 ra (ay h) [(3, eb c0_), (3, eb c1), (2, .call (cb (eP n cF) c2) [] [(0, 0)] [])])) (fun c1 h =>
 ra (bE h) [(3, eb c0_), (3, eb c1), (1, .ren 137 601404)])) (fun c0_ h =>
 ra (bE h) [(3, eb c0_), (2, .ren 137 601404)])
def wL (k_3:Int→(List aj)→Int→ai→J→aq→(List ak)→ak→(List Int)→(List aa)→Option ((List ak)×ai)):Nat→Int→Int→(List aj)→Int→ai→J→aq→(List ak)→(List aa)→ak→(List Int)→(List aa)→Option ((List ak)×ai)
 |0,_,_,_,_,_,_,_,_,_,_,_,_=>none
 |n+1,n10,i17,t29,t30,b0,b5,b6,b9,b50,b14,cS,mg=>FK k_3 (wL k_3 n) n n10 i17 t29 t30 b0 b5 b6 b9 b50 b14 cS mg
theorem Zd {k_3} (bE:K10 (A10 [1,1,1,1,1,0,0,1,0,0,1,0,1,1]) Hb k_3):∀n:Nat,K12 (A10 [0,1,1,0,1,1,0,1,1,1,1,0,0,1,0,0,1,0,1,1]) Hg (wL k_3 n)
 |0=>fun _ _ _ _ _ _ _ _ _ _ _ _ _ h=>nz h
 |n+1=>fun _ _ _ _ _ _ _ _ _ _ _ _ _ h=>agQ bE (Zd bE n) n h
def FJ (k_2 : Int → Int → Bool → (List aj) → Int → ai → J → aq → (List ak) → ak → (List Int) → (List aa) → Option ((List ak) × ai)) (back : Int → Int → Bool → Int → (List aj) → Int → ai → J → aq → (List ak) → ak → (List Int) → (List aa) → Option ((List ak) × ai)) (n : Nat) (n10 lH : Int) (gi : Bool) (i20 : Int) (t29 : List aj) (t30 : Int) (b0 : ai) (b5 : J) (b6 : aq) (b9 : List ak) (b14 : ak) (cS : List Int) (dx : List aa) : Option ((List ak) × ai) :=
 if !decide (i20 < 0) then
 (bnd b9.length i20).bind fun x9 =>
 (b9[0 + x9]?).bind fun x12 =>
 (bnd b9.length i20).bind fun x16 =>
 (b9[0 + x16]?).bind fun x19 =>
 (F36 n b14.aD b14.az x12.aD x19.az).bind fun x21 =>
 if x21 == 0 then
 back n10 lH true (w64 (i20 - 1)) t29 t30 b0 b5 b6 b9 (ak.mk b14.fOp b14.aD b14.az cS dx) cS dx
 else
 if x21 == (-1) then
 back n10 i20 gi (w64 (i20 - 1)) t29 t30 b0 b5 b6 b9 (ak.mk b14.fOp b14.aD b14.az cS dx) cS dx
 else
 back n10 lH gi (w64 (i20 - 1)) t29 t30 b0 b5 b6 b9 (ak.mk b14.fOp b14.aD b14.az cS dx) cS dx
 else
 k_2 n10 lH gi t29 t30 b0 b5 b6 b9 (ak.mk b14.fOp b14.aD b14.az cS dx) cS dx
theorem agP {k_2} (bW : K12 (A10 [1, 1, 1, 1, 1, 1, 1, 0, 0, 1, 0, 0, 1, 0, 1, 1]) Hc k_2) {back} (ay : K13 (A10 [0, 1, 0, 1, 1, 1, 1, 1, 1, 0, 0, 1, 0, 0, 1, 0, 1, 1]) He back) (n : Nat) : K13 (A10 [0, 1, 0, 1, 1, 1, 1, 1, 1, 0, 0, 1, 0, 0, 1, 0, 1, 1]) He (FJ k_2 back n) := fun n10 lH gi i20 t29 t30 b0 b5 b6 b9 b14 cS dx r h =>
 ie h (fun c0_ h =>
 be h fun x9 hx9 h =>
 be h fun x12 eA h =>
 be h fun x16 dG h =>
 be h fun x19 dA h =>
 be h fun x21 iK h =>
 ie h (fun c1 h =>
 ra (ay h) [(1, eb c0_), (6, cP hx9), (1, R54.row eA), (2, cP dG), (1, R54.row dA), (0, .call (I0 n iK) [] [] []), (0, eb c1)]) (fun c1 h =>
 ie h (fun c2 h =>
 ra (ay h) [(1, eb c0_), (6, cP hx9), (1, R54.row eA), (2, cP dG), (1, R54.row dA), (0, .call (I0 n iK) [] [] []), (0, eb c1), (1, eb c2)]) (fun c2 h =>
 ra (ay h) [(1, eb c0_), (6, cP hx9), (1, R54.row eA), (2, cP dG), (1, R54.row dA), (0, .call (I0 n iK) [] [] []), (0, eb c1), (1, eb c2)]))) (fun c0_ h =>
 ra (bW h) [(1, eb c0_)])
def wK (k_2:Int→Int→Bool→(List aj)→Int→ai→J→aq→(List ak)→ak→(List Int)→(List aa)→Option ((List ak)×ai)):Nat→Int→Int→Bool→Int→(List aj)→Int→ai→J→aq→(List ak)→ak→(List Int)→(List aa)→Option ((List ak)×ai)
 |0,_,_,_,_,_,_,_,_,_,_,_,_,_=>none
 |n+1,n10,lH,gi,i20,t29,t30,b0,b5,b6,b9,b14,cS,dx=>FJ k_2 (wK k_2 n) n n10 lH gi i20 t29 t30 b0 b5 b6 b9 b14 cS dx
theorem Zc {k_2} (bW:K12 (A10 [1,1,1,1,1,1,1,0,0,1,0,0,1,0,1,1]) Hc k_2):∀n:Nat,K13 (A10 [0,1,0,1,1,1,1,1,1,0,0,1,0,0,1,0,1,1]) He (wK k_2 n)
 |0=>fun _ _ _ _ _ _ _ _ _ _ _ _ _ _ h=>nz h
 |n+1=>fun _ _ _ _ _ _ _ _ _ _ _ _ _ _ h=>agP bW (Zc bW n) n h
def FI (k_5 : Int → ai → J → aq → (List ak) → Option ((List ak) × ai)) (n : Nat) (n10 lH : Int) (gi : Bool) (t29 : List aj) (t30 : Int) (b0 : ai) (b5 : J) (b6 : aq) (b9 : List ak) (b14 : ak) (cS : List Int) (dx : List aa) : Option ((List ak) × ai) :=
 if !gi then
 (gO b9.length lH).bind fun x5 =>
 (sS b9.length lH).bind fun x11 =>
 (app [(ak.mk b14.fOp b14.aD b14.az cS dx)] ((b9.drop (0 + x11)).take (b9.length - x11))).bind fun x13 =>
 (uY b9 x5 x13).bind fun x15 =>
 k_5 (w64 (n10 - 1)) b0 b5 b6 x15
 else
 k_5 (w64 (n10 - 1)) b0 b5 b6 b9
theorem agO {k_5} (fY : K5 (A10 [0, 1, 0, 1, 1]) qN k_5) (n : Nat) : K12 (A10 [1, 1, 1, 1, 1, 1, 1, 0, 0, 1, 0, 0, 1, 0, 1, 1]) Hc (FI k_5 n) := fun n10 lH gi t29 t30 b0 b5 b6 b9 b14 cS dx r h =>
 ie h (fun c0_ h =>
 be h fun x5 hx5 h =>
 be h fun x11 cF h =>
 be h fun x13 bT h =>
 be h fun x15 cV h =>
 ra (fY h) [(1, eb c0_), (0, R3.frz 129 cS), (0, R64.frz 601404 dx), (2, R54.gO (xs := b9) hx5 (Nat.le_of_eq rfl)), (0, .nrm (.agg [.same, .same, .same, .sl 0 0, .sl 0 0])), (3, R54.sS (xs := b9) cF (Nat.le_of_eq rfl)), (0, R54.app bT (R54.sr (xs := b9) (aaE cF (Nat.le_of_eq rfl)))), (0, R54.uY cV (R54.srW x13))]) (fun c0_ h =>
 ra (fY h) [(1, eb c0_)])
def tt (k_5 : Int → ai → J → aq → (List ak) → Option ((List ak) × ai)) (n : Nat) (n10 : Int) (t29 : List aj) (t30 : Int) (b0 : ai) (b5 : J) (b6 : aq) (b9 : List ak) (b14 : ak) (cS : List Int) (dx : List aa) : Option ((List ak) × ai) :=
 wK (FI k_5 n) n n10 (b9.length : Int) false (w64 ((b9.length : Int) - 1)) t29 t30 b0 b5 b6 b9 (ak.mk b14.fOp b14.aD b14.az cS dx) cS dx
theorem ZH {k_5} (fY : K5 (A10 [0, 1, 0, 1, 1]) qN k_5) (n : Nat) : K10 (A10 [1, 1, 1, 1, 1, 0, 0, 1, 0, 0, 1, 0, 1, 1]) Hb (tt k_5 n) := fun n10 t29 t30 b0 b5 b6 b9 b14 cS dx r h =>
 ra (Zc (agO fY n) n h) []
def wV (k_5 : Int → ai → J → aq → (List ak) → Option ((List ak) × ai)) (n : Nat) (n10 t11 : Int) (t29 : List aj) (t30 : Int) (b0 : ai) (b5 : J) (b6 : aq) (b9 : List ak) (b50 : List aa) : Option ((List ak) × ai) :=
 (idx b5.ae t11).bind fun x6 =>
 (gO b50.length x6.az).bind fun x10_ =>
 (app [] ((b50.drop 0).take x10_)).bind fun x12 =>
 (F35 n b5 b6 t11 x12).bind fun x23 =>
 (F29 n b0 8).bind fun x32 =>
 if !(x23.2 == x32.1) then
 (F24 n x32.2 2).bind fun x36 =>
 (idx b5.ae t11).bind fun x46 =>
 wL (tt k_5 n) n n10 x46.az t29 t30 x36.2 b5 b6 b9 b50 (ak.mk (w64 (2 + x36.1)) t11 x12 [] []) [] []
 else
 tt k_5 n n10 t29 t30 x32.2 b5 b6 b9 (ak.mk 1 t11 x12 [] b50) [] b50
theorem PH {k_5} (fY : K5 (A10 [0, 1, 0, 1, 1]) qN k_5) (n : Nat) : K9 (A10 [1, 1, 1, 0, 0, 1, 0, 0, 1, 0, 1, 1]) abo (wV k_5 n) := fun n10 t11 t29 t30 b0 b5 b6 b9 b50 r h =>
 be h fun x6 hx6 h =>
 be h fun x10_ cx h =>
 be h fun x12 eA h =>
 be h fun x23 fV h =>
 be h fun x32 lv h =>
 ie h (fun c0_ h =>
 be h fun x36 xU h =>
 be h fun x46 Iz h =>
 ra (Zd (ZH fY n) n h) [(5, R62.idx hx6), (2, R64.gO (xs := b50) cx (Nat.le_of_eq rfl)), (0, .born [] [] 85 true 65 3), (0, R64.app (xs := []) eA (R64.sr (xs := b50) (by rw [Nat.zero_add]; exact (Nat.le_trans (jA cx).2 (Nat.le_of_eq rfl))))), (9, R64.frz 85 x12), (0, .call (ev35 n fV) [.one .same, .one .same, .one .same, .one (.sl 0 0)] [] [(309400, 200000)]), (7, .call (eP n lv) [] [(0, 0)] []), (0, eb c0_), (1, .call (bJ n xU) [] [(0, 0)] []), (8, R62.idx Iz), (3, .born [] [(14, 3)] 129 true 3 1), (0, .born [] [(14, 4)] 137 true 65 3)]) (fun c0_ h =>
 ra (ZH fY n h) [(5, R62.idx hx6), (2, R64.gO (xs := b50) cx (Nat.le_of_eq rfl)), (0, .born [] [] 85 true 65 3), (0, R64.app (xs := []) eA (R64.sr (xs := b50) (by rw [Nat.zero_add]; exact (Nat.le_trans (jA cx).2 (Nat.le_of_eq rfl))))), (9, R64.frz 85 x12), (0, .call (ev35 n fV) [.one .same, .one .same, .one .same, .one (.sl 0 0)] [] [(309400, 200000)]), (7, .call (eP n lv) [] [(0, 0)] []), (0, eb c0_), (0, .ren 50 601404), (0, .born [] [(14, 3)] 129 true 3 1)])
def FH (k_6 : ai → (List ak) → Option ((List ak) × ai)) (back : Int → ai → J → aq → (List ak) → Option ((List ak) × ai)) (n : Nat) (n10 : Int) (b0 : ai) (b5 : J) (b6 : aq) (b9 : List ak) : Option ((List ak) × ai) :=
 if decide (0 < n10) then
 if decide (0 < (b5.ae.length : Int)) then
 (F24 n b0 (b5.ae.length : Int)).bind fun x13 =>
 (F32 n b5 x13.1).bind fun x19 =>
 (idx b5.ae x13.1).bind fun x24 =>
 (F33 n x13.2 x19 x24.az 1).bind fun x28 =>
 (idx b6.ae x13.1).bind fun x34 =>
 if decide (0 < (x34.length : Int)) then
 (F29 n x28.2 3).bind fun x43 =>
 if !x43.1 then
 (F24 n x43.2 (x34.length : Int)).bind fun x54 =>
 (idx x34 x54.1).bind fun x56 =>
 (F34 n b5 x13.1 x56).bind fun x59 =>
 (cpy x28.1 x59).bind fun x61 =>
 wV back n n10 x13.1 b5.ae (b5.ae.length : Int) x54.2 b5 b6 b9 x61
 else
 wV back n n10 x13.1 b5.ae (b5.ae.length : Int) x43.2 b5 b6 b9 x28.1
 else
 wV back n n10 x13.1 b5.ae (b5.ae.length : Int) x28.2 b5 b6 b9 x28.1
 else
 k_6 b0 b9
 else
 k_6 b0 b9
theorem agN {k_6} (qx : K2 (A10 [1, 1, 1]) Ha k_6) {back} (ay : K5 (A10 [0, 1, 0, 1, 1]) qN back) (n : Nat) : K5 (A10 [0, 1, 0, 1, 1]) qN (FH k_6 back n) := fun n10 b0 b5 b6 b9 r h =>
 ie h (fun c0_ h =>
 ie h (fun c1 h =>
 be h fun x13 bT h =>
 be h fun x19 dA h =>
 be h fun x24 fU h =>
 be h fun x28 ma h =>
 be h fun x34 ss h =>
 ie h (fun c2 h =>
 be h fun x43 sm h =>
 ie h (fun c3 h =>
 be h fun x54 Wu h =>
 be h fun x56 hx56 h =>
 be h fun x59 hx59 h =>
 be h fun x61 OE h =>
 ra (PH ay n h) [(1, eb c0_), (3, .eqv (R62.au b5.ae)), (0, eb c1), (4, .eqv (R62.au b5.ae)), (0, .call (bJ n bT) [] [(0, 0)] []), (4, .call (cd (e := 3) (z := true) (Q := aR x19) (jz n dA) (R3.len x19)) [] [] []), (3, R62.idx fU), (2, .call (O2 n ma) [.one .same, .one (.sl 0 0)] [(0, 0)] [(50, 200000)]), (4, R66.idx ss), (3, .eqv (R42.au x34)), (0, eb c2), (2, .call (eP n sm) [] [(0, 0)] []), (0, eb c3), (7, .eqv (R42.au x34)), (0, .call (bJ n Wu) [] [(0, 0)] []), (0, R42.idx hx56), (1, .call (uJ n hx59) [] [] [(74, 200000)]), (0, R64.cpy OE (R64.srW x59)), (0, .seq 12 (congrArg (fun n_ => (AV.ms 50 3 0 n_)) ((aaF OE).symm)))]) (fun c3 h =>
 ra (PH ay n h) [(1, eb c0_), (3, .eqv (R62.au b5.ae)), (0, eb c1), (4, .eqv (R62.au b5.ae)), (0, .call (bJ n bT) [] [(0, 0)] []), (4, .call (cd (e := 3) (z := true) (Q := aR x19) (jz n dA) (R3.len x19)) [] [] []), (3, R62.idx fU), (2, .call (O2 n ma) [.one .same, .one (.sl 0 0)] [(0, 0)] [(50, 200000)]), (4, R66.idx ss), (3, .eqv (R42.au x34)), (0, eb c2), (2, .call (eP n sm) [] [(0, 0)] []), (0, eb c3)])) (fun c2 h =>
 ra (PH ay n h) [(1, eb c0_), (3, .eqv (R62.au b5.ae)), (0, eb c1), (4, .eqv (R62.au b5.ae)), (0, .call (bJ n bT) [] [(0, 0)] []), (4, .call (cd (e := 3) (z := true) (Q := aR x19) (jz n dA) (R3.len x19)) [] [] []), (3, R62.idx fU), (2, .call (O2 n ma) [.one .same, .one (.sl 0 0)] [(0, 0)] [(50, 200000)]), (4, R66.idx ss), (3, .eqv (R42.au x34)), (0, eb c2)])) (fun c1 h =>
 ra (qx h) [(1, eb c0_), (3, .eqv (R62.au b5.ae)), (0, eb c1)])) (fun c0_ h =>
 ra (qx h) [(1, eb c0_)])
def qi (k_6:ai→(List ak)→Option ((List ak)×ai)):Nat→Int→ai→J→aq→(List ak)→Option ((List ak)×ai)
 |0,_,_,_,_,_=>none
 |n+1,n10,b0,b5,b6,b9=>FH k_6 (qi k_6 n) n n10 b0 b5 b6 b9
theorem Zb {k_6} (qx:K2 (A10 [1,1,1]) Ha k_6):∀n:Nat,K5 (A10 [0,1,0,1,1]) qN (qi k_6 n)
 |0=>fun _ _ _ _ _ _ h=>nz h
 |n+1=>fun _ _ _ _ _ _ h=>agN qx (Zb qx n) n h
def wU (n : Nat) (b0 : ai) (b9 : List ak) : Option ((List ak) × ai) :=
 some (b9, b0)
theorem agM (n : Nat) : K2 (A10 [1, 1, 1]) Ha (wU n) := fun b0 b9 r h =>
 rr h [(2, .ren 500009 200000)]
def QK (n : Nat) (c0 : ai) (s1 : J) (st2 : aq) (vD : Int) : Option ((List ak) × ai) :=
 (F24 n c0 (w64 (vD + 1))).bind fun x8 =>
 qi (wU n) n x8.1 x8.2 s1 st2 []
theorem agL (n : Nat) : K4 (A10 []) RE (QK n) := fun c0 s1 st2 vD r h =>
 be h fun x8 hx8 h =>
 ra (Zb (agM n) n h) [(7, .call (bJ n hx8) [] [(0, 0)] []), (1, .born [9] [] 500009 true 55 5)]
def F10 (n:Nat) (c0:ai) (s1:J) (st2:aq) (vD:Int):Option ((List ak)×ai):=QK n c0 s1 st2 vD
theorem ev10 (n:Nat):K4 C10 RE (F10 n):=fun _ _ _ _ _ h=>ca (X:=x10) (agL n h)
def Yc (r:(aq×(List (List (List aa))))):AV:=.agg [.ms 100100 1 0 r.2.length]
def S5 (r:(aq×(List (List (List aa))))):List (Nat×Bx):= [(100100,.rows false 66 1 (ia r.2))]
def x37:=fx E0 Tryz.f37 [100100] [100100]
def A37:=Ax x37 Yc S5
def C37:=Cx E0 37 Yc S5
def abl (ba:Int) (cM ez:List aa) (ew:Bool) (r14:List aa) (c15:Int) (t23:List (List aa)) (t24 t25:Int) (bD:List (List (List aa))) (b5:J) (b6 b10:aq) (b45:List (List aa)):LS:=⟨[(2,.int .i64 ba),(3,.slice 65 3 (aO cM)),(4,.slice 65 3 (aO ez)),(5,.loc 5 0),(6,.loc 6 0),(10,.loc 10 0),(11,.ms 45 1 0 b45.length),(12,.bool ew),(14,.slice 65 3 (aO r14)),(15,.int .i64 c15),(23,.slice 43 1 (jn t23)),(24,.int .i64 t24),(25,.int .i64 t25)],[(5,.flat 26 (aX b5)),(6,.flat 33 [.ms 100100 1 0 bD.length]),(10,.flat 33 [.aV]),(45,.rows true 43 1 (jn b45)),(100100,.rows false 66 1 (ia bD))]⟩
def yN (ba:Int) (cM ez:List aa) (ew:Bool) (t23:List (List aa)) (t24 t25:Int) (bD:List (List (List aa))) (b5:J) (b6 b10:aq) (b45:List (List aa)):LS:=⟨[(2,.int .i64 ba),(3,.slice 65 3 (aO cM)),(4,.slice 65 3 (aO ez)),(5,.loc 5 0),(6,.loc 6 0),(10,.loc 10 0),(11,.ms 45 1 0 b45.length),(12,.bool ew),(23,.slice 43 1 (jn t23)),(24,.int .i64 t24),(25,.int .i64 t25)],[(5,.flat 26 (aX b5)),(6,.flat 33 [.ms 100100 1 0 bD.length]),(10,.flat 33 [.aV]),(45,.rows true 43 1 (jn b45)),(100100,.rows false 66 1 (ia bD))]⟩
def abk (ba:Int) (bD:List (List (List aa))) (b6 b10:aq) (b45:List (List aa)):LS:=⟨[(2,.int .i64 ba),(6,.loc 6 0),(10,.loc 10 0),(11,.ms 45 1 0 b45.length)],[(6,.flat 33 [.ms 100100 1 0 bD.length]),(10,.flat 33 [.aV]),(45,.rows true 43 1 (jn b45)),(100100,.rows false 66 1 (ia bD))]⟩
def GX (ba:Int) (ez:List aa) (ew:Bool) (bD:List (List (List aa))) (b6 b10:aq) (b45:List (List aa)):LS:=⟨[(2,.int .i64 ba),(4,.slice 65 3 (aO ez)),(6,.loc 6 0),(10,.loc 10 0),(11,.ms 45 1 0 b45.length),(12,.bool ew)],[(6,.flat 33 [.ms 100100 1 0 bD.length]),(10,.flat 33 [.aV]),(45,.rows true 43 1 (jn b45)),(100100,.rows false 66 1 (ia bD))]⟩
def Rn (s0:J) (st1:aq) (ba:Int) (cM ez:List aa):LS:=⟨[(0,.agg (aX s0)),(1,.agg [.ms 100100 1 0 st1.ae.length]),(2,.int .i64 ba),(3,.slice 65 3 (aO cM)),(4,.slice 65 3 (aO ez))],[(100100,.rows false 66 1 (ia st1.ae))]⟩
def tr (k_1 : Int → (List aa) → (List aa) → Bool → (List (List aa)) → Int → Int → (List (List (List aa))) → J → aq → aq → (List (List aa)) → Option (aq × (List (List (List aa))))) (n : Nat) (ba : Int) (cM ez : List aa) (ew : Bool) (r14 : List aa) (c15 : Int) (t23 : List (List aa)) (t24 t25 : Int) (bD : List (List (List aa))) (b5 : J) (b6 b10 : aq) (b45 : List (List aa)) : Option (aq × (List (List (List aa)))) :=
 if c15 != 0 then
 (app b45 [r14]).bind fun x6 =>
 k_1 ba cM ez ew t23 t24 (w64 (t25 + 1)) bD b5 (aq.mk bD) (aq.mk []) x6
 else
 k_1 ba cM ez ew t23 t24 (w64 (t25 + 1)) bD b5 (aq.mk bD) (aq.mk []) b45
theorem PG {k_1} (aH : K12 (A37 [0, 1, 0, 1, 1, 1]) yN k_1) (n : Nat) : K14 (A37 [1, 1, 1, 0, 0, 1, 1, 0, 0, 1, 0, 1, 1, 1]) abl (tr k_1 n) := fun ba cM ez ew r14 c15 t23 t24 t25 bD b5 b6 b10 b45 r h =>
 ie h (fun c0 h =>
 be h fun x6 hx6 h =>
 ra (aH h) [(1, eb c0), (3, R42.app hx6 (R42.srW [r14]))]) (fun c0 h =>
 ra (aH h) [(1, eb c0)])
def Fu (k_3 : Int → (List aa) → Bool → (List (List (List aa))) → aq → aq → (List (List aa)) → Option (aq × (List (List (List aa))))) (back : Int → (List aa) → (List aa) → Bool → (List (List aa)) → Int → Int → (List (List (List aa))) → J → aq → aq → (List (List aa)) → Option (aq × (List (List (List aa))))) (n : Nat) (ba : Int) (cM ez : List aa) (ew : Bool) (t23 : List (List aa)) (t24 t25 : Int) (bD : List (List (List aa))) (b5 : J) (b6 b10 : aq) (b45 : List (List aa)) : Option (aq × (List (List (List aa)))) :=
 if decide (t25 < t24) then
 (idx t23 t25).bind fun x2 =>
 (F34 n b5 ba x2).bind fun x9 =>
 (F22 n x9 cM).bind fun x12 =>
 if !decide (x12 < 0) then
 if !ew then
 (F54 n ez).bind fun x23 =>
 (app b45 [x23]).bind fun x26 =>
 tr back n ba cM ez true x2 x12 t23 t24 t25 bD b5 (aq.mk bD) (aq.mk []) x26
 else
 tr back n ba cM ez ew x2 x12 t23 t24 t25 bD b5 (aq.mk bD) (aq.mk []) b45
 else
 tr back n ba cM ez ew x2 x12 t23 t24 t25 bD b5 (aq.mk bD) (aq.mk []) b45
 else
 k_3 ba ez ew bD (aq.mk bD) (aq.mk []) b45
theorem agi {k_3} (bE : K7 (A37 [1, 1, 1, 1]) GX k_3) {back} (ay : K12 (A37 [0, 1, 0, 1, 1, 1]) yN back) (n : Nat) : K12 (A37 [0, 1, 0, 1, 1, 1]) yN (Fu k_3 back n) := fun ba cM ez ew t23 t24 t25 bD b5 b6 b10 b45 r h =>
 ie h (fun c0 h =>
 be h fun x2 hx2 h =>
 be h fun x9 hx9 h =>
 be h fun x12 eA h =>
 ie h (fun c1 h =>
 ie h (fun c2 h =>
 be h fun x23 fV h =>
 be h fun x26 oH h =>
 ra (PG ay n h) [(0, eb c0), (0, R42.idx hx2), (5, .call (uJ n hx9) [] [] [(32, 200000)]), (1, R64.frz 32 x9), (0, .call (yd n eA) [.one (.sl 0 0)] [] []), (2, eb c1), (2, eb c2), (3, .call (OZ n fV) [] [] [(43, 200000)]), (0, R64.frz 43 x23), (0, .norm [(43, .one (.sl 0 0))] []), (1, R42.app oH (R42.srW [x23]))]) (fun c2 h =>
 ra (PG ay n h) [(0, eb c0), (0, R42.idx hx2), (5, .call (uJ n hx9) [] [] [(32, 200000)]), (1, R64.frz 32 x9), (0, .call (yd n eA) [.one (.sl 0 0)] [] []), (2, eb c1), (2, eb c2)])) (fun c1 h =>
 ra (PG ay n h) [(0, eb c0), (0, R42.idx hx2), (5, .call (uJ n hx9) [] [] [(32, 200000)]), (1, R64.frz 32 x9), (0, .call (yd n eA) [.one (.sl 0 0)] [] []), (2, eb c1)])) (fun c0 h =>
 ra (bE h) [(0, eb c0)])
def qh (k_3:Int→(List aa)→Bool→(List (List (List aa)))→aq→aq→(List (List aa))→Option (aq×(List (List (List aa))))):Nat→Int→(List aa)→(List aa)→Bool→(List (List aa))→Int→Int→(List (List (List aa)))→J→aq→aq→(List (List aa))→Option (aq×(List (List (List aa))))
 |0,_,_,_,_,_,_,_,_,_,_,_,_=>none
 |n+1,ba,cM,ez,ew,t23,t24,t25,bD,b5,b6,b10,b45=>Fu k_3 (qh k_3 n) n ba cM ez ew t23 t24 t25 bD b5 b6 b10 b45
theorem Y3 {k_3} (bE:K7 (A37 [1,1,1,1]) GX k_3):∀n:Nat,K12 (A37 [0,1,0,1,1,1]) yN (qh k_3 n)
 |0=>fun _ _ _ _ _ _ _ _ _ _ _ _ _ h=>nz h
 |n+1=>fun _ _ _ _ _ _ _ _ _ _ _ _ _ h=>agi bE (Y3 bE n) n h
def Ft (n : Nat) (ba : Int) (bD : List (List (List aa))) (b6 b10 : aq) (b45 : List (List aa)) : Option (aq × (List (List (List aa)))) :=
 (bnd bD.length ba).bind fun x5 =>
 (bD[0 + x5]?).bind fun x7 =>
 (setAt bD (0 + x5) b45).bind fun z8 =>
 some ((aq.mk z8), z8)
theorem ZG (n : Nat) : K5 (A37 [1, 1, 1, 1, 1]) abk (Ft n) := fun ba bD b6 b10 b45 r h =>
 be h fun x5 hx5 h =>
 be h fun x7 hx7 h =>
 be h fun z8 hz8 h =>
 rr h [(4, cP hx5), (0, R42.frz 45 b45), (0, .norm [(63, .one (.sl 0 0))] []), (0, R66.sto 0 [.slice 43 1 (jn b45)] hx7 hz8 (by kernel_rfl)), (2, .beq 10 (congrArg (fun n_ => (Bx.flat 33 [.ms 100100 1 0 n_])) ((cC hz8).symm)))]
def wT (n : Nat) (ba : Int) (ez : List aa) (ew : Bool) (bD : List (List (List aa))) (b6 b10 : aq) (b45 : List (List aa)) : Option (aq × (List (List (List aa)))) :=
 if !ew then
 (F54 n ez).bind fun x5 =>
 (app b45 [x5]).bind fun x8 =>
 Ft n ba bD (aq.mk bD) (aq.mk []) x8
 else
 Ft n ba bD (aq.mk bD) (aq.mk []) b45
theorem agh (n : Nat) : K7 (A37 [1, 1, 1, 1]) GX (wT n) := fun ba ez ew bD b6 b10 b45 r h =>
 ie h (fun c0 h =>
 be h fun x5 hx5 h =>
 be h fun x8 hx8 h =>
 ra (ZG n h) [(1, eb c0), (2, .call (OZ n hx5) [] [] [(57, 200000)]), (0, R64.frz 57 x5), (0, .norm [(57, .one (.sl 0 0))] []), (1, R42.app hx8 (R42.srW [x5]))]) (fun c0 h =>
 ra (ZG n h) [(1, eb c0)])
def Qx (n : Nat) (s0 : J) (st1 : aq) (ba : Int) (cM ez : List aa) : Option (aq × (List (List (List aa)))) :=
 (bnd st1.ae.length ba).bind fun x12 =>
 (st1.ae[0 + x12]?).bind fun x14 =>
 qh (wT n) n ba cM ez ((ez.length : Int) == 0) x14 (x14.length : Int) 0 st1.ae s0 st1 (aq.mk []) []
theorem agf (n : Nat) : K5 (A37 []) Rn (Qx n) := fun s0 st1 ba cM ez r h =>
 be h fun x12 eA h =>
 be h fun x14 gN h =>
 ra (Y3 (agh n) n h) [(5, .eqv (R64.au ez)), (5, cP eA), (0, R66.row gN), (0, .eqv (R42.au x14)), (1, .born [11] [] 45 true 43 1)]
def F37 (n:Nat) (s0:J) (st1:aq) (ba:Int) (cM ez:List aa):Option (aq×(List (List (List aa)))):=Qx n s0 st1 ba cM ez
theorem ev37 (n:Nat):K5 C37 Rn (F37 n):=fun _ _ _ _ _ _ h=>ca (X:=x37) (agf n h)
end Go.Proofs.YtmealahmjddpcaaGreatDoor
end
noncomputable section
set_option maxRecDepth 100000
namespace Go.Proofs.YtmealahmjddpcaaGreatDoor
open Go.Sim
def Yq (r:(aq×ai)):AV:=.agg (mB r.1)
def Tk (r:(aq×ai)):List (Nat×Bx):= [(0,.flat 74 (br r.2))]
def x11:=fx E0 Tryz.f11 [0] [0]
def A11:=Ax x11 Yq Tk
def C11:=Cx E0 11 Yq Tk
def G9 (dE t8 n9 t18 t19:Int) (b0:ai) (b4:J) (b6 b7:aq) (b14:List (List (List aa))):LS:=⟨[(0,.loc 0 0),(2,.int .i64 dE),(4,.loc 4 0),(6,.loc 6 0),(7,.loc 7 0),(8,.int .i64 t8),(9,.int .i64 n9),(18,.int .i64 t18),(19,.int .i64 t19)],[(0,.flat 74 (br b0)),(4,.flat 26 (aX b4)),(6,.flat 33 [.aV]),(7,.flat 33 [.ms 14 1 0 b14.length]),(14,.rows false 66 1 (ia b14))]⟩
def G8 (dE t18 t19:Int) (b0:ai) (b4:J) (b6 b7:aq) (b14:List (List (List aa))):LS:=⟨[(0,.loc 0 0),(2,.int .i64 dE),(4,.loc 4 0),(6,.loc 6 0),(7,.loc 7 0),(18,.int .i64 t18),(19,.int .i64 t19)],[(0,.flat 74 (br b0)),(4,.flat 26 (aX b4)),(6,.flat 33 [.aV]),(7,.flat 33 [.ms 14 1 0 b14.length]),(14,.rows false 66 1 (ia b14))]⟩
def yP (dE t18 t19:Int) (b0:ai) (b4:J) (b6 b7:aq) (b14:List (List (List aa))):LS:=⟨[(0,.loc 0 0),(2,.int .i64 dE),(4,.loc 4 0),(6,.loc 6 0),(7,.loc 7 0),(18,.int .i64 t18),(19,.int .i64 t19)],[(0,.flat 74 (br b0)),(4,.flat 26 (aX b4)),(6,.flat 33 [.aV]),(7,.flat 33 [.ms 14 1 0 b14.length]),(14,.rows false 66 1 (ia b14))]⟩
def G7 (b0:ai) (b6 b7:aq) (b14:List (List (List aa))):LS:=⟨[(6,.loc 6 0),(7,.loc 7 0)],[(0,.flat 74 (br b0)),(6,.flat 33 [.aV]),(7,.flat 33 [.ms 14 1 0 b14.length]),(14,.rows false 66 1 (ia b14))]⟩
def RD (c0:ai) (s1:J) (dE:Int):LS:=⟨[(0,.loc 0 0),(1,.agg (aX s1)),(2,.int .i64 dE)],[(0,.flat 74 (br c0))]⟩
def FG (k_1 : Int → Int → Int → ai → J → aq → aq → (List (List (List aa))) → Option (aq × ai)) (back : Int → Int → Int → Int → Int → ai → J → aq → aq → (List (List (List aa))) → Option (aq × ai)) (n : Nat) (dE t8 n9 t18 t19 : Int) (b0 : ai) (b4 : J) (b6 b7 : aq) (b14 : List (List (List aa))) : Option (aq × ai) :=
 if decide (0 < n9) then
 (F32 n b4 t8).bind fun x6 =>
 (idx b4.ae t8).bind fun x11_ =>
 (F33 n b0 x6 x11_.az dE).bind fun x16 =>
 (F34 n b4 t8 x16.1).bind fun x25 =>
 (F37 n b4 (aq.mk b14) t8 x25 x16.1).bind fun x28 =>
 back dE t8 (w64 (n9 - 1)) t18 t19 x16.2 b4 (aq.mk []) (aq.mk x28.2) x28.2
 else
 k_1 dE t18 t19 b0 b4 (aq.mk []) (aq.mk b14) b14
theorem agK {k_1} (aH : K8 (A11 [1, 1, 1, 0, 0, 1, 0, 1, 1]) G8 k_1) {back} (ay : K10 (A11 [0, 1, 1, 0, 0, 1, 1, 0, 0, 1, 0, 1, 1]) G9 back) (n : Nat) : K10 (A11 [0, 1, 1, 0, 0, 1, 1, 0, 0, 1, 0, 1, 1]) G9 (FG k_1 back n) := fun dE t8 n9 t18 t19 b0 b4 b6 b7 b14 r h =>
 ie h (fun c0_ h =>
 be h fun x6 hx6 h =>
 be h fun x11_ cF h =>
 be h fun x16 dG h =>
 be h fun x25 oI h =>
 be h fun x28 ma h =>
 ra (ay h) [(1, eb c0_), (3, .call (cd (e := 3) (z := true) (Q := aR x6) (jz n hx6) (R3.len x6)) [] [] []), (3, R62.idx cF), (3, .call (O2 n dG) [.one .same, .one (.sl 0 0)] [(0, 0)] [(39, 200000)]), (1, R64.frz 39 x16.1), (6, .call (cd (e := 65) (z := true) (Q := aO x25) (uJ n oI) (R64.len x25)) [.one .same, .one .same, .one (.sl 0 0)] [] []), (1, .call (ev37 n ma) [.one .same, .one .same, .one .same, .one (.sl 0 0), .one (.sl 0 0)] [(14, 100100)] [])]) (fun c0_ h =>
 ra (aH h) [(1, eb c0_)])
def wJ (k_1:Int→Int→Int→ai→J→aq→aq→(List (List (List aa)))→Option (aq×ai)):Nat→Int→Int→Int→Int→Int→ai→J→aq→aq→(List (List (List aa)))→Option (aq×ai)
 |0,_,_,_,_,_,_,_,_,_,_=>none
 |n+1,dE,t8,n9,t18,t19,b0,b4,b6,b7,b14=>FG k_1 (wJ k_1 n) n dE t8 n9 t18 t19 b0 b4 b6 b7 b14
theorem Za {k_1} (aH:K8 (A11 [1,1,1,0,0,1,0,1,1]) G8 k_1):∀n:Nat,K10 (A11 [0,1,1,0,0,1,1,0,0,1,0,1,1]) G9 (wJ k_1 n)
 |0=>fun _ _ _ _ _ _ _ _ _ _ _ h=>nz h
 |n+1=>fun _ _ _ _ _ _ _ _ _ _ _ h=>agK aH (Za aH n) n h
def FF (k_2 : Int → Int → Int → ai → J → aq → aq → (List (List (List aa))) → Option (aq × ai)) (n : Nat) (dE t18 t19 : Int) (b0 : ai) (b4 : J) (b6 b7 : aq) (b14 : List (List (List aa))) : Option (aq × ai) :=
 k_2 dE t18 (w64 (t19 + 1)) b0 b4 (aq.mk []) (aq.mk b14) b14
theorem agJ {k_2} (bW : K8 (A11 [0, 1, 0, 1, 1]) yP k_2) (n : Nat) : K8 (A11 [1, 1, 1, 0, 0, 1, 0, 1, 1]) G8 (FF k_2 n) := fun dE t18 t19 b0 b4 b6 b7 b14 r h =>
 ra (bW h) []
def FE (k_3 : ai → aq → aq → (List (List (List aa))) → Option (aq × ai)) (back : Int → Int → Int → ai → J → aq → aq → (List (List (List aa))) → Option (aq × ai)) (n : Nat) (dE t18 t19 : Int) (b0 : ai) (b4 : J) (b6 b7 : aq) (b14 : List (List (List aa))) : Option (aq × ai) :=
 if decide (t19 < t18) then
 (F24 n b0 5).bind fun x5 =>
 wJ (FF back n) n dE t19 x5.1 t18 t19 x5.2 b4 (aq.mk []) (aq.mk b14) b14
 else
 k_3 b0 (aq.mk []) (aq.mk b14) b14
theorem agI {k_3} (bE : K4 (A11 [1, 1, 1]) G7 k_3) {back} (ay : K8 (A11 [0, 1, 0, 1, 1]) yP back) (n : Nat) : K8 (A11 [0, 1, 0, 1, 1]) yP (FE k_3 back n) := fun dE t18 t19 b0 b4 b6 b7 b14 r h =>
 ie h (fun c0_ h =>
 be h fun x5 hx5 h =>
 ra (Za (agJ ay n) n h) [(0, eb c0_), (3, .call (bJ n hx5) [] [(0, 0)] [])]) (fun c0_ h =>
 ra (bE h) [(0, eb c0_)])
def tp (k_3:ai→aq→aq→(List (List (List aa)))→Option (aq×ai)):Nat→Int→Int→Int→ai→J→aq→aq→(List (List (List aa)))→Option (aq×ai)
 |0,_,_,_,_,_,_,_,_=>none
 |n+1,dE,t18,t19,b0,b4,b6,b7,b14=>FE k_3 (tp k_3 n) n dE t18 t19 b0 b4 b6 b7 b14
theorem Y9 {k_3} (bE:K4 (A11 [1,1,1]) G7 k_3):∀n:Nat,K8 (A11 [0,1,0,1,1]) yP (tp k_3 n)
 |0=>fun _ _ _ _ _ _ _ _ _ h=>nz h
 |n+1=>fun _ _ _ _ _ _ _ _ _ h=>agI bE (Y9 bE n) n h
def AP (n : Nat) (b0 : ai) (b6 b7 : aq) (b14 : List (List (List aa))) : Option (aq × ai) :=
 some ((aq.mk b14), b0)
theorem agH (n : Nat) : K4 (A11 [1, 1, 1]) G7 (AP n) := fun b0 b6 b7 b14 r h =>
 rr h [(2, R66.frz 14 b14)]
def QJ (n : Nat) (c0 : ai) (s1 : J) (dE : Int) : Option (aq × ai) :=
 (om (s1.ae.length : Int) ([] : (List (List aa)))).bind fun x6 =>
 tp (AP n) n dE (s1.ae.length : Int) 0 c0 s1 (aq.mk []) (aq.mk x6) x6
theorem agG (n : Nat) : K3 (A11 []) RD (QJ n) := fun c0 s1 dE r h =>
 be h fun x6 hx6 h =>
 ra (Y9 (agH n) n h) [(4, .eqv (R62.au s1.ae)), (0, R66.made [.aV] [.sl 43 1] hx6 (by kernel_rfl)), (0, .seq 14 (congrArg (fun n_ => (AV.ms 14 1 0 n_)) ((Vs hx6)))), (5, .eqv (R62.au s1.ae))]
def F11 (n:Nat) (c0:ai) (s1:J) (dE:Int):Option (aq×ai):=QJ n c0 s1 dE
theorem ev11 (n:Nat):K3 C11 RD (F11 n):=fun _ _ _ _ h=>ca (X:=x11) (agG n h)
def Sb (r:Bool):AV:=.bool r
def Mn (r:Bool):List (Nat×Bx):= []
def x108:=fx E0 Tryz.f108 [] []
def tv:=Ax x108 Sb Mn
def C108:=Cx E0 108 Sb Mn
def Z2 (i3 c4:Int) (vF:Bool) (eY:ByteArray) (eJ:Nat):LS:=⟨[(3,.int .i64 i3),(4,.int .i32 c4),(5,.bool vF),(15,.it 15)],[(15,.iter eY eJ)]⟩
def vt (eY:ByteArray) (eJ:Nat):LS:=⟨[(15,.it 15)],[(15,.iter eY eJ)]⟩
def Bw:LS:=⟨[],[]⟩
def LQ (s0:ByteArray):LS:=⟨[(0,.str s0)],[]⟩
def vl (k_1 : ByteArray → Nat → Option Bool) (n : Nat) (i3 c4 : Int) (vF : Bool) (eY : ByteArray) (eJ : Nat) : Option Bool :=
 if !vF then
 if i3 == 0 then
 some false
 else
 if c4 != 95 then
 if decide (c4 < 48) then
 some false
 else
 if decide (57 < c4) then
 some false
 else
 k_1 eY eJ
 else
 k_1 eY eJ
 else
 k_1 eY eJ
theorem UF {k_1} (aH : K2 (tv [0, 1, 0, 1, 1]) vt k_1) (n : Nat) : K5 (tv [1, 1, 0, 1, 1, 0, 0, 1, 0, 1, 1]) Z2 (vl k_1 n) := fun i3 c4 vF eY eJ r h =>
 ie h (fun c0 h =>
 ie h (fun c1 h =>
 rr h [(1, eb c0), (2, eb c1)]) (fun c1 h =>
 ie h (fun c2 h =>
 ie h (fun c3 h =>
 rr h [(1, eb c0), (2, eb c1), (2, eb c2), (2, eb c3)]) (fun c3 h =>
 ie h (fun c4_ h =>
 rr h [(1, eb c0), (2, eb c1), (2, eb c2), (2, eb c3), (2, eb c4_)]) (fun c4_ h =>
 ra (aH h) [(1, eb c0), (2, eb c1), (2, eb c2), (2, eb c3), (2, eb c4_)]))) (fun c2 h =>
 ra (aH h) [(1, eb c0), (2, eb c1), (2, eb c2)]))) (fun c0 h =>
 ra (aH h) [(1, eb c0)])
def AZ (k_2 : Option Bool) (back : ByteArray → Nat → Option Bool) (n : Nat) (eY : ByteArray) (eJ : Nat) : Option Bool :=
 if decide (eJ < eY.size) then
 if !decide (((Utf8.decode eY eJ).1 : Int) < 97) then
 vl back n (eJ : Int) ((Utf8.decode eY eJ).1 : Int) (!decide (122 < ((Utf8.decode eY eJ).1 : Int))) eY (eJ + (Utf8.decode eY eJ).2)
 else
 vl back n (eJ : Int) ((Utf8.decode eY eJ).1 : Int) false eY (eJ + (Utf8.decode eY eJ).2)
 else
 k_2
theorem acD {k_2} (bW : K0 (tv [1, 1, 1]) Bw k_2) {back} (ay : K2 (tv [0, 1, 0, 1, 1]) vt back) (n : Nat) : K2 (tv [0, 1, 0, 1, 1]) vt (AZ k_2 back n) := fun eY eJ r h =>
 ie h (fun c0 h =>
 ie h (fun c1 h =>
 ra (UF ay n h) [(0, .nxt (of_decide_eq_true c0)), (6, eb c1)]) (fun c1 h =>
 ra (UF ay n h) [(0, .nxt (of_decide_eq_true c0)), (6, eb c1)])) (fun c0 h =>
 ra (bW h) [(0, .fin (of_decide_eq_false c0))])
def lJ (k_2:Option Bool):Nat→ByteArray→Nat→Option Bool
 |0,_,_=>none
 |n+1,eY,eJ=>AZ k_2 (lJ k_2 n) n eY eJ
theorem TN {k_2} (bW:K0 (tv [1,1,1]) Bw k_2):∀n:Nat,K2 (tv [0,1,0,1,1]) vt (lJ k_2 n)
 |0=>fun _ _ _ h=>nz h
 |n+1=>fun _ _ _ h=>acD bW (TN bW n) n h
def pd (n : Nat) : Option Bool :=
 some true
theorem acC (n : Nat) : K0 (tv [1, 1, 1]) Bw (pd n) := fun r h =>
 rr h []
def Kz (n : Nat) (s0 : ByteArray) : Option Bool :=
 if decide ((s0.size : Int) < 1) then
 some false
 else
 if decide (32 < (s0.size : Int)) then
 some false
 else
 lJ (pd n) n s0 0
theorem acB (n : Nat) : K1 (tv []) LQ (Kz n) := fun s0 r h =>
 ie h (fun c0 h =>
 rr h [(3, eb c0)]) (fun c0 h =>
 ie h (fun c1 h =>
 rr h [(3, eb c0), (3, eb c1)]) (fun c1 h =>
 ra (TN (acC n) n h) [(3, eb c0), (3, eb c1)]))
def J7 (n:Nat) (s0:ByteArray):Option Bool:=Kz n s0
theorem lA (n:Nat):K1 C108 LQ (J7 n):=fun _ _ h=>ca (X:=x108) (acB n h)
def XV (r:Bool):AV:=.bool r
def SL (r:Bool):List (Nat×Bx):= []
def x76:=fx E0 Tryz.f76 [] []
def A76:=Ax x76 XV SL
def C76:=Cx E0 76 XV SL
def Gv (t11:List aj) (t12 t13:Int) (t24:ByteArray) (t29 t34:Int) (t36:List aL) (t37:Int) (t45:List aL) (t46 t47:Int) (b9 b43:List (ByteArray×Bool)) (b5:aj):LS:=⟨[(3,.mp 9),(6,.mp 43),(11,.slice 63 5 (cD t11)),(12,.int .i64 t12),(13,.int .i64 t13),(22,.mp 9),(23,.loc 5 0),(24,.str t24),(25,.bool false),(28,.loc 5 2),(29,.int .i64 t29),(30,.bool false),(33,.loc 5 2),(34,.int .i64 t34),(35,.loc 5 1),(36,.slice 77 2 (jm t36)),(37,.int .i64 t37),(38,.bool false),(45,.slice 77 2 (jm t45)),(46,.int .i64 t46),(47,.int .i64 t47)],[(5,.flat 63 (dX b5)),(9,.map (js AV.bool b9)),(43,.map (js AV.bool b43))]⟩
def Gu (t11:List aj) (t12 t13:Int) (t24:ByteArray) (t29 t34:Int) (t36:List aL) (t37:Int) (b9:List (ByteArray×Bool)) (b5:aj):LS:=⟨[(3,.mp 9),(11,.slice 63 5 (cD t11)),(12,.int .i64 t12),(13,.int .i64 t13),(22,.mp 9),(23,.loc 5 0),(24,.str t24),(25,.bool false),(28,.loc 5 2),(29,.int .i64 t29),(30,.bool false),(33,.loc 5 2),(34,.int .i64 t34),(35,.loc 5 1),(36,.slice 77 2 (jm t36)),(37,.int .i64 t37),(38,.bool false)],[(5,.flat 63 (dX b5)),(9,.map (js AV.bool b9))]⟩
def yK (t11:List aj) (t12 t13:Int) (b9:List (ByteArray×Bool)):LS:=⟨[(3,.mp 9),(11,.slice 63 5 (cD t11)),(12,.int .i64 t12),(13,.int .i64 t13)],[(9,.map (js AV.bool b9))]⟩
def Gt:LS:=⟨[],[]⟩
def Q7 (s0:J):LS:=⟨[(0,.agg (aX s0))],[]⟩
def EX (k_1 : (List aj) → Int → Int → ByteArray → Int → Int → (List aL) → Int → (List (ByteArray × Bool)) → aj → Option Bool) (back : (List aj) → Int → Int → ByteArray → Int → Int → (List aL) → Int → (List aL) → Int → Int → (List (ByteArray × Bool)) → (List (ByteArray × Bool)) → aj → Option Bool) (n : Nat) (t11 : List aj) (t12 t13 : Int) (t24 : ByteArray) (t29 t34 : Int) (t36 : List aL) (t37 : Int) (t45 : List aL) (t46 t47 : Int) (b9 b43 : List (ByteArray × Bool)) (b5 : aj) : Option Bool :=
 if decide (t47 < t46) then
 (idx t45 t47).bind fun x2 =>
 (J7 n x2.bk).bind fun x9 =>
 if !x9 then
 some false
 else
 if (eS b43 x2.bk false) then
 some false
 else
 if x2.ar != 3 then
 if x2.ar != 4 then
 if x2.ar != 5 then
 some false
 else
 back t11 t12 t13 t24 t29 t34 t36 t37 t45 t46 (w64 (t47 + 1)) b9 (fg b43 x2.bk true) b5
 else
 back t11 t12 t13 t24 t29 t34 t36 t37 t45 t46 (w64 (t47 + 1)) b9 (fg b43 x2.bk true) b5
 else
 back t11 t12 t13 t24 t29 t34 t36 t37 t45 t46 (w64 (t47 + 1)) b9 (fg b43 x2.bk true) b5
 else
 k_1 t11 t12 t13 t24 t29 t34 t36 t37 b9 b5
theorem afn {k_1} (aH : K10 (A76 [1, 1, 1, 0, 0, 1, 0, 1, 1]) Gu k_1) {back} (ay : K14 (A76 [0, 1, 1, 1, 1, 1, 0, 0, 1, 1, 0, 0, 1, 0, 1, 1]) Gv back) (n : Nat) : K14 (A76 [0, 1, 1, 1, 1, 1, 0, 0, 1, 1, 0, 0, 1, 0, 1, 1]) Gv (EX k_1 back n) := fun t11 t12 t13 t24 t29 t34 t36 t37 t45 t46 t47 b9 b43 b5 r h =>
 ie h (fun c0 h =>
 be h fun x2 hx2 h =>
 be h fun x9 hx9 h =>
 ie h (fun c1 h =>
 rr h [(0, eb c0), (0, R76.idx hx2), (5, .call (lA n hx9) [] [] []), (0, eb c1)]) (fun c1 h =>
 ie h (fun c2 h =>
 rr h [(0, eb c0), (0, R76.idx hx2), (5, .call (lA n hx9) [] [] []), (0, eb c1), (4, .lkp false (fZ c2))]) (fun c2 h =>
 ie h (fun c3 h =>
 ie h (fun c4 h =>
 ie h (fun c5 h =>
 rr h [(0, eb c0), (0, R76.idx hx2), (5, .call (lA n hx9) [] [] []), (0, eb c1), (4, .lkp false (fZ c2)), (4, .upd (kX (f := AV.bool) (k := x2.bk) (v := true) b43)), (2, eb c3), (3, eb c4), (4, eb c5)]) (fun c5 h =>
 ra (ay h) [(0, eb c0), (0, R76.idx hx2), (5, .call (lA n hx9) [] [] []), (0, eb c1), (4, .lkp false (fZ c2)), (4, .upd (kX (f := AV.bool) (k := x2.bk) (v := true) b43)), (2, eb c3), (3, eb c4), (4, eb c5)])) (fun c4 h =>
 ra (ay h) [(0, eb c0), (0, R76.idx hx2), (5, .call (lA n hx9) [] [] []), (0, eb c1), (4, .lkp false (fZ c2)), (4, .upd (kX (f := AV.bool) (k := x2.bk) (v := true) b43)), (2, eb c3), (3, eb c4)])) (fun c3 h =>
 ra (ay h) [(0, eb c0), (0, R76.idx hx2), (5, .call (lA n hx9) [] [] []), (0, eb c1), (4, .lkp false (fZ c2)), (4, .upd (kX (f := AV.bool) (k := x2.bk) (v := true) b43)), (2, eb c3)])))) (fun c0 h =>
 ra (aH h) [(0, eb c0)])
def wj (k_1:(List aj)→Int→Int→ByteArray→Int→Int→(List aL)→Int→(List (ByteArray×Bool))→aj→Option Bool):Nat→(List aj)→Int→Int→ByteArray→Int→Int→(List aL)→Int→(List aL)→Int→Int→(List (ByteArray×Bool))→(List (ByteArray×Bool))→aj→Option Bool
 |0,_,_,_,_,_,_,_,_,_,_,_,_,_,_=>none
 |n+1,t11,t12,t13,t24,t29,t34,t36,t37,t45,t46,t47,b9,b43,b5=>EX k_1 (wj k_1 n) n t11 t12 t13 t24 t29 t34 t36 t37 t45 t46 t47 b9 b43 b5
theorem YO {k_1} (aH:K10 (A76 [1,1,1,0,0,1,0,1,1]) Gu k_1):∀n:Nat,K14 (A76 [0,1,1,1,1,1,0,0,1,1,0,0,1,0,1,1]) Gv (wj k_1 n)
 |0=>fun _ _ _ _ _ _ _ _ _ _ _ _ _ _ _ h=>nz h
 |n+1=>fun _ _ _ _ _ _ _ _ _ _ _ _ _ _ _ h=>afn aH (YO aH n) n h
def EW (k_2 : (List aj) → Int → Int → (List (ByteArray × Bool)) → Option Bool) (n : Nat) (t11 : List aj) (t12 t13 : Int) (t24 : ByteArray) (t29 t34 : Int) (t36 : List aL) (t37 : Int) (b9 : List (ByteArray × Bool)) (b5 : aj) : Option Bool :=
 k_2 t11 t12 (w64 (t13 + 1)) b9
theorem afm {k_2} (bW : K4 (A76 [0, 1, 0, 1, 1]) yK k_2) (n : Nat) : K10 (A76 [1, 1, 1, 0, 0, 1, 0, 1, 1]) Gu (EW k_2 n) := fun t11 t12 t13 t24 t29 t34 t36 t37 b9 b5 r h =>
 ra (bW h) []
def EV (k_3 : Option Bool) (back : (List aj) → Int → Int → (List (ByteArray × Bool)) → Option Bool) (n : Nat) (t11 : List aj) (t12 t13 : Int) (b9 : List (ByteArray × Bool)) : Option Bool :=
 if decide (t13 < t12) then
 (idx t11 t13).bind fun x2 =>
 (J7 n x2.bk).bind fun x9 =>
 if !x9 then
 some false
 else
 if (eS b9 x2.bk false) then
 some false
 else
 if decide (x2.az < 1) then
 some false
 else
 if decide ((x2.af.length : Int) < x2.az) then
 some false
 else
 wj (EW back n) n t11 t12 t13 x2.bk x2.az x2.az x2.af (x2.af.length : Int) x2.af (x2.af.length : Int) 0 (fg b9 x2.bk true) [] x2
 else
 k_3
theorem afl {k_3} (bE : K0 (A76 [1, 1, 1]) Gt k_3) {back} (ay : K4 (A76 [0, 1, 0, 1, 1]) yK back) (n : Nat) : K4 (A76 [0, 1, 0, 1, 1]) yK (EV k_3 back n) := fun t11 t12 t13 b9 r h =>
 ie h (fun c0 h =>
 be h fun x2 hx2 h =>
 be h fun x9 hx9 h =>
 ie h (fun c1 h =>
 rr h [(0, eb c0), (0, R62.idx hx2), (5, .call (lA n hx9) [] [] []), (0, eb c1)]) (fun c1 h =>
 ie h (fun c2 h =>
 rr h [(0, eb c0), (0, R62.idx hx2), (5, .call (lA n hx9) [] [] []), (0, eb c1), (4, .lkp false (fZ c2))]) (fun c2 h =>
 ie h (fun c3 h =>
 rr h [(0, eb c0), (0, R62.idx hx2), (5, .call (lA n hx9) [] [] []), (0, eb c1), (4, .lkp false (fZ c2)), (4, eb c3)]) (fun c3 h =>
 ie h (fun c4 h =>
 rr h [(0, eb c0), (0, R62.idx hx2), (5, .call (lA n hx9) [] [] []), (0, eb c1), (4, .lkp false (fZ c2)), (4, eb c3), (6, .eqv (R76.au x2.af)), (0, eb c4)]) (fun c4 h =>
 ra (YO (afm ay n) n h) [(0, eb c0), (0, R62.idx hx2), (5, .call (lA n hx9) [] [] []), (0, eb c1), (4, .lkp false (fZ c2)), (4, eb c3), (6, .eqv (R76.au x2.af)), (0, eb c4), (4, .upd (kX (f := AV.bool) (k := x2.bk) (v := true) b9)), (4, .eqv (R76.au x2.af))]))))) (fun c0 h =>
 ra (bE h) [(0, eb c0)])
def th (k_3:Option Bool):Nat→(List aj)→Int→Int→(List (ByteArray×Bool))→Option Bool
 |0,_,_,_,_=>none
 |n+1,t11,t12,t13,b9=>EV k_3 (th k_3 n) n t11 t12 t13 b9
theorem YN {k_3} (bE:K0 (A76 [1,1,1]) Gt k_3):∀n:Nat,K4 (A76 [0,1,0,1,1]) yK (th k_3 n)
 |0=>fun _ _ _ _ _ h=>nz h
 |n+1=>fun _ _ _ _ _ h=>afl bE (YN bE n) n h
def AG (n : Nat) : Option Bool :=
 some true
theorem afk (n : Nat) : K0 (A76 [1, 1, 1]) Gt (AG n) := fun r h =>
 rr h []
def ZN (n : Nat) (s0 : J) : Option Bool :=
 th (AG n) n s0.ae (s0.ae.length : Int) 0 []
theorem afj (n : Nat) : K1 (A76 []) Q7 (ZN n) := fun s0 r h =>
 ra (YN (afk n) n h) [(6, .eqv (R62.au s0.ae))]
def F76 (n:Nat) (s0:J):Option Bool:=ZN n s0
theorem WU (n:Nat):K1 C76 Q7 (F76 n):=fun _ _ h=>ca (X:=x76) (afj n h)
def XU (r:Bool):AV:=.bool r
def SK (r:Bool):List (Nat×Bx):= []
def x77:=fx E0 Tryz.f77 [] []
def A77:=Ax x77 XU SK
def C77:=Cx E0 77 XU SK
def Gs (t11:List aj) (t12 t13:Int) (t18:List aB) (t19 t20 t29:Int) (t31:List aj) (t32:Int) (t48:List Int) (t49 t50:Int) (b1:J) (b4 b7:aj) (b6:aB):LS:=⟨[(1,.loc 1 0),(4,.loc 4 0),(7,.loc 7 0),(11,.slice 63 5 (cD t11)),(12,.int .i64 t12),(13,.int .i64 t13),(18,.slice 80 2 (gj t18)),(19,.int .i64 t19),(20,.int .i64 t20),(28,.loc 6 1),(29,.int .i64 t29),(30,.loc 1 1),(31,.slice 63 5 (cD t31)),(32,.int .i64 t32),(33,.bool false),(48,.slice 3 1 (aR t48)),(49,.int .i64 t49),(50,.int .i64 t50)],[(1,.flat 26 (aX b1)),(4,.flat 63 (dX b4)),(6,.flat 80 (pY b6)),(7,.flat 63 (dX b7))]⟩
def Gr (t11:List aj) (t12 t13:Int) (t18:List aB) (t19 t20 t29:Int) (t31:List aj) (t32:Int) (b1:J) (b4:aj) (b6:aB):LS:=⟨[(1,.loc 1 0),(4,.loc 4 0),(11,.slice 63 5 (cD t11)),(12,.int .i64 t12),(13,.int .i64 t13),(18,.slice 80 2 (gj t18)),(19,.int .i64 t19),(20,.int .i64 t20),(28,.loc 6 1),(29,.int .i64 t29),(30,.loc 1 1),(31,.slice 63 5 (cD t31)),(32,.int .i64 t32),(33,.bool false)],[(1,.flat 26 (aX b1)),(4,.flat 63 (dX b4)),(6,.flat 80 (pY b6))]⟩
def yJ (t11:List aj) (t12 t13:Int) (t18:List aB) (t19 t20:Int) (b1:J) (b4:aj):LS:=⟨[(1,.loc 1 0),(4,.loc 4 0),(11,.slice 63 5 (cD t11)),(12,.int .i64 t12),(13,.int .i64 t13),(18,.slice 80 2 (gj t18)),(19,.int .i64 t19),(20,.int .i64 t20)],[(1,.flat 26 (aX b1)),(4,.flat 63 (dX b4))]⟩
def Gq (t11:List aj) (t12 t13:Int) (b1:J):LS:=⟨[(1,.loc 1 0),(11,.slice 63 5 (cD t11)),(12,.int .i64 t12),(13,.int .i64 t13)],[(1,.flat 26 (aX b1))]⟩
def yI (t11:List aj) (t12 t13:Int) (b1:J):LS:=⟨[(1,.loc 1 0),(11,.slice 63 5 (cD t11)),(12,.int .i64 t12),(13,.int .i64 t13)],[(1,.flat 26 (aX b1))]⟩
def Gp:LS:=⟨[],[]⟩
def Q6 (s0:J):LS:=⟨[(0,.agg (aX s0))],[]⟩
def EU (k_1 : (List aj) → Int → Int → (List aB) → Int → Int → Int → (List aj) → Int → J → aj → aB → Option Bool) (back : (List aj) → Int → Int → (List aB) → Int → Int → Int → (List aj) → Int → (List Int) → Int → Int → J → aj → aj → aB → Option Bool) (n : Nat) (t11 : List aj) (t12 t13 : Int) (t18 : List aB) (t19 t20 t29 : Int) (t31 : List aj) (t32 : Int) (t48 : List Int) (t49 t50 : Int) (b1 : J) (b4 b7 : aj) (b6 : aB) : Option Bool :=
 if decide (t50 < t49) then
 (idx t48 t50).bind fun x3 =>
 if decide (x3 < 0) then
 some false
 else
 if !decide (x3 < (b4.af.length : Int)) then
 some false
 else
 (idx b4.af x3).bind fun x21 =>
 (idx b7.af t50).bind fun x28 =>
 if x21.ar != x28.ar then
 some false
 else
 back t11 t12 t13 t18 t19 t20 t29 t31 t32 t48 t49 (w64 (t50 + 1)) b1 b4 b7 b6
 else
 k_1 t11 t12 t13 t18 t19 t20 t29 t31 t32 b1 b4 b6
theorem afi {k_1} (aH : K12 (A77 [1, 1, 1, 0, 0, 1, 1, 0, 0, 1, 1, 0, 0, 1, 0, 1]) Gr k_1) {back} (ay : K16 (A77 [0, 1, 1, 1, 1, 1, 0, 0, 1, 1, 0, 0, 1, 1, 0, 0, 1, 1, 0, 0, 1, 0, 1]) Gs back) (n : Nat) : K16 (A77 [0, 1, 1, 1, 1, 1, 0, 0, 1, 1, 0, 0, 1, 1, 0, 0, 1, 1, 0, 0, 1, 0, 1]) Gs (EU k_1 back n) := fun t11 t12 t13 t18 t19 t20 t29 t31 t32 t48 t49 t50 b1 b4 b7 b6 r h =>
 ie h (fun c0 h =>
 be h fun x3 hx3 h =>
 ie h (fun c1 h =>
 rr h [(0, eb c0), (1, R3.idx hx3), (4, eb c1)]) (fun c1 h =>
 ie h (fun c2 h =>
 rr h [(0, eb c0), (1, R3.idx hx3), (4, eb c1), (4, .eqv (R76.au b4.af)), (0, eb c2)]) (fun c2 h =>
 be h fun x21 iK h =>
 be h fun x28 ma h =>
 ie h (fun c3 h =>
 rr h [(0, eb c0), (1, R3.idx hx3), (4, eb c1), (4, .eqv (R76.au b4.af)), (0, eb c2), (5, R76.idx iK), (5, R76.idx ma), (2, eb c3)]) (fun c3 h =>
 ra (ay h) [(0, eb c0), (1, R3.idx hx3), (4, eb c1), (4, .eqv (R76.au b4.af)), (0, eb c2), (5, R76.idx iK), (5, R76.idx ma), (2, eb c3)])))) (fun c0 h =>
 ra (aH h) [(0, eb c0)])
def wi (k_1:(List aj)→Int→Int→(List aB)→Int→Int→Int→(List aj)→Int→J→aj→aB→Option Bool):Nat→(List aj)→Int→Int→(List aB)→Int→Int→Int→(List aj)→Int→(List Int)→Int→Int→J→aj→aj→aB→Option Bool
 |0,_,_,_,_,_,_,_,_,_,_,_,_,_,_,_,_=>none
 |n+1,t11,t12,t13,t18,t19,t20,t29,t31,t32,t48,t49,t50,b1,b4,b7,b6=>EU k_1 (wi k_1 n) n t11 t12 t13 t18 t19 t20 t29 t31 t32 t48 t49 t50 b1 b4 b7 b6
theorem YM {k_1} (aH:K12 (A77 [1,1,1,0,0,1,1,0,0,1,1,0,0,1,0,1]) Gr k_1):∀n:Nat,K16 (A77 [0,1,1,1,1,1,0,0,1,1,0,0,1,1,0,0,1,1,0,0,1,0,1]) Gs (wi k_1 n)
 |0=>fun _ _ _ _ _ _ _ _ _ _ _ _ _ _ _ _ _ h=>nz h
 |n+1=>fun _ _ _ _ _ _ _ _ _ _ _ _ _ _ _ _ _ h=>afi aH (YM aH n) n h
def ET (k_2 : (List aj) → Int → Int → (List aB) → Int → Int → J → aj → Option Bool) (n : Nat) (t11 : List aj) (t12 t13 : Int) (t18 : List aB) (t19 t20 t29 : Int) (t31 : List aj) (t32 : Int) (b1 : J) (b4 : aj) (b6 : aB) : Option Bool :=
 k_2 t11 t12 t13 t18 t19 (w64 (t20 + 1)) b1 b4
theorem afh {k_2} (bW : K8 (A77 [0, 1, 1, 0, 0, 1, 1, 0, 0, 1, 0, 1]) yJ k_2) (n : Nat) : K12 (A77 [1, 1, 1, 0, 0, 1, 1, 0, 0, 1, 1, 0, 0, 1, 0, 1]) Gr (ET k_2 n) := fun t11 t12 t13 t18 t19 t20 t29 t31 t32 b1 b4 b6 r h =>
 ra (bW h) []
def ES (k_3 : (List aj) → Int → Int → J → Option Bool) (back : (List aj) → Int → Int → (List aB) → Int → Int → J → aj → Option Bool) (n : Nat) (t11 : List aj) (t12 t13 : Int) (t18 : List aB) (t19 t20 : Int) (b1 : J) (b4 : aj) : Option Bool :=
 if decide (t20 < t19) then
 (idx t18 t20).bind fun x2 =>
 if decide (x2.aD < 0) then
 some false
 else
 if !decide (x2.aD < (b1.ae.length : Int)) then
 some false
 else
 (idx b1.ae x2.aD).bind fun x22 =>
 if (x2.af.length : Int) != x22.az then
 some false
 else
 wi (ET back n) n t11 t12 t13 t18 t19 t20 x2.aD b1.ae (b1.ae.length : Int) x2.af (x2.af.length : Int) 0 b1 b4 x22 x2
 else
 k_3 t11 t12 t13 b1
theorem afg {k_3} (bE : K4 (A77 [1, 1, 1, 0, 0, 1, 0, 1]) Gq k_3) {back} (ay : K8 (A77 [0, 1, 1, 0, 0, 1, 1, 0, 0, 1, 0, 1]) yJ back) (n : Nat) : K8 (A77 [0, 1, 1, 0, 0, 1, 1, 0, 0, 1, 0, 1]) yJ (ES k_3 back n) := fun t11 t12 t13 t18 t19 t20 b1 b4 r h =>
 ie h (fun c0 h =>
 be h fun x2 hx2 h =>
 ie h (fun c1 h =>
 rr h [(0, eb c0), (0, R79.idx hx2), (5, eb c1)]) (fun c1 h =>
 ie h (fun c2 h =>
 rr h [(0, eb c0), (0, R79.idx hx2), (5, eb c1), (5, .eqv (R62.au b1.ae)), (0, eb c2)]) (fun c2 h =>
 be h fun x22 oJ h =>
 ie h (fun c3 h =>
 rr h [(0, eb c0), (0, R79.idx hx2), (5, eb c1), (5, .eqv (R62.au b1.ae)), (0, eb c2), (5, R62.idx oJ), (5, .eqv (R3.au x2.af)), (2, eb c3)]) (fun c3 h =>
 ra (YM (afh ay n) n h) [(0, eb c0), (0, R79.idx hx2), (5, eb c1), (5, .eqv (R62.au b1.ae)), (0, eb c2), (5, R62.idx oJ), (5, .eqv (R3.au x2.af)), (2, eb c3), (2, .eqv (R3.au x2.af))])))) (fun c0 h =>
 ra (bE h) [(0, eb c0)])
def tg (k_3:(List aj)→Int→Int→J→Option Bool):Nat→(List aj)→Int→Int→(List aB)→Int→Int→J→aj→Option Bool
 |0,_,_,_,_,_,_,_,_=>none
 |n+1,t11,t12,t13,t18,t19,t20,b1,b4=>ES k_3 (tg k_3 n) n t11 t12 t13 t18 t19 t20 b1 b4
theorem YL {k_3} (bE:K4 (A77 [1,1,1,0,0,1,0,1]) Gq k_3):∀n:Nat,K8 (A77 [0,1,1,0,0,1,1,0,0,1,0,1]) yJ (tg k_3 n)
 |0=>fun _ _ _ _ _ _ _ _ _ h=>nz h
 |n+1=>fun _ _ _ _ _ _ _ _ _ h=>afg bE (YL bE n) n h
def ER (k_4 : (List aj) → Int → Int → J → Option Bool) (n : Nat) (t11 : List aj) (t12 t13 : Int) (b1 : J) : Option Bool :=
 k_4 t11 t12 (w64 (t13 + 1)) b1
theorem aff {k_4} (g8 : K4 (A77 [0, 1, 0, 1]) yI k_4) (n : Nat) : K4 (A77 [1, 1, 1, 0, 0, 1, 0, 1]) Gq (ER k_4 n) := fun t11 t12 t13 b1 r h =>
 ra (g8 h) []
def EP (k_5 : Option Bool) (back : (List aj) → Int → Int → J → Option Bool) (n : Nat) (t11 : List aj) (t12 t13 : Int) (b1 : J) : Option Bool :=
 if decide (t13 < t12) then
 (idx t11 t13).bind fun x2 =>
 tg (ER back n) n t11 t12 t13 x2.aU (x2.aU.length : Int) 0 b1 x2
 else
 k_5
theorem afe {k_5} (fY : K0 (A77 [1, 1]) Gp k_5) {back} (ay : K4 (A77 [0, 1, 0, 1]) yI back) (n : Nat) : K4 (A77 [0, 1, 0, 1]) yI (EP k_5 back n) := fun t11 t12 t13 b1 r h =>
 ie h (fun c0 h =>
 be h fun x2 hx2 h =>
 ra (YL (aff ay n) n h) [(0, eb c0), (0, R62.idx hx2), (5, .eqv (R79.au x2.aU))]) (fun c0 h =>
 ra (fY h) [(0, eb c0)])
def tf (k_5:Option Bool):Nat→(List aj)→Int→Int→J→Option Bool
 |0,_,_,_,_=>none
 |n+1,t11,t12,t13,b1=>EP k_5 (tf k_5 n) n t11 t12 t13 b1
theorem YK {k_5} (fY:K0 (A77 [1,1]) Gp k_5):∀n:Nat,K4 (A77 [0,1,0,1]) yI (tf k_5 n)
 |0=>fun _ _ _ _ _ h=>nz h
 |n+1=>fun _ _ _ _ _ h=>afe fY (YK fY n) n h
def AF (n : Nat) : Option Bool :=
 some true
theorem afd (n : Nat) : K0 (A77 [1, 1]) Gp (AF n) := fun r h =>
 rr h []
def ZM (n : Nat) (s0 : J) : Option Bool :=
 tf (AF n) n s0.ae (s0.ae.length : Int) 0 s0
theorem afc (n : Nat) : K1 (A77 []) Q6 (ZM n) := fun s0 r h =>
 ra (YK (afd n) n h) [(4, .eqv (R62.au s0.ae))]
def F77 (n:Nat) (s0:J):Option Bool:=ZM n s0
theorem ev77 (n:Nat):K1 C77 Q6 (F77 n):=fun _ _ h=>ca (X:=x77) (afc n h)
def XQ (r:Bool):AV:=.bool r
def SF (r:Bool):List (Nat×Bx):= []
def x81:=fx E0 Tryz.f81 [] []
def A81:=Ax x81 XQ SF
def C81:=Cx E0 81 XQ SF
def Q1 (s0:J) (aA:Int):LS:=⟨[(0,.agg (aX s0)),(1,.int .i64 aA)],[]⟩
def Qc (n : Nat) (s0 : J) (aA : Int) : Option Bool :=
 if !decide (aA < 0) then
 some (decide (aA < (s0.ae.length : Int)))
 else
 some false
theorem aeW (n : Nat) : K2 (A81 []) Q1 (Qc n) := fun s0 aA r h =>
 ie h (fun c0 h =>
 rr h [(3, eb c0), (4, .eqv (R62.au s0.ae))]) (fun c0 h =>
 rr h [(3, eb c0)])
def F81 (n:Nat) (s0:J) (aA:Int):Option Bool:=Qc n s0 aA
theorem oR (n:Nat):K2 C81 Q1 (F81 n):=fun _ _ _ h=>ca (X:=x81) (aeW n h)
def XT (r:(List Int)):AV:=.ms 200000 1 0 r.length
def SJ (r:(List Int)):List (Nat×Bx):= [(200000,.rows false 3 1 (aR r))]
def x78:=fx E0 Tryz.f78 [] [200000]
def A78:=Ax x78 XT SJ
def C78:=Cx E0 78 XT SJ
def Gn (t25:List aL) (t26 t27:Int) (b19:List Int):LS:=⟨[(5,.ms 19 1 0 b19.length),(25,.slice 77 2 (jm t25)),(26,.int .i64 t26),(27,.int .i64 t27)],[(19,.rows false 3 1 (aR b19))]⟩
def Gm (b19:List Int):LS:=⟨[(5,.ms 19 1 0 b19.length)],[(19,.rows false 3 1 (aR b19))]⟩
def Q5 (s0:J) (aA:Int):LS:=⟨[(0,.agg (aX s0)),(1,.int .i64 aA)],[]⟩
def EO (k_1 : (List Int) → Option (List Int)) (back : (List aL) → Int → Int → (List Int) → Option (List Int)) (n : Nat) (t25 : List aL) (t26 t27 : Int) (b19 : List Int) : Option (List Int) :=
 if decide (t27 < t26) then
 (idx t25 t27).bind fun x2 =>
 (app b19 [x2.ar]).bind fun x11 =>
 back t25 t26 (w64 (t27 + 1)) x11
 else
 k_1 b19
theorem afb {k_1} (aH : K1 (A78 [1, 1, 1, 1]) Gm k_1) {back} (ay : K4 (A78 [0, 1, 0, 1, 1, 1]) Gn back) (n : Nat) : K4 (A78 [0, 1, 0, 1, 1, 1]) Gn (EO k_1 back n) := fun t25 t26 t27 b19 r h =>
 ie h (fun c0 h =>
 be h fun x2 hx2 h =>
 be h fun x11 cF h =>
 ra (ay h) [(0, eb c0), (0, R76.idx hx2), (7, R3.app cF (R3.srW [x2.ar]))]) (fun c0 h =>
 ra (aH h) [(0, eb c0)])
def wh (k_1:(List Int)→Option (List Int)):Nat→(List aL)→Int→Int→(List Int)→Option (List Int)
 |0,_,_,_,_=>none
 |n+1,t25,t26,t27,b19=>EO k_1 (wh k_1 n) n t25 t26 t27 b19
theorem YJ {k_1} (aH:K1 (A78 [1,1,1,1]) Gm k_1):∀n:Nat,K4 (A78 [0,1,0,1,1,1]) Gn (wh k_1 n)
 |0=>fun _ _ _ _ _ h=>nz h
 |n+1=>fun _ _ _ _ _ h=>afb aH (YJ aH n) n h
def EN (n : Nat) (b19 : List Int) : Option (List Int) :=
 some b19
theorem afa (n : Nat) : K1 (A78 [1, 1, 1, 1]) Gm (EN n) := fun b19 r h =>
 rr h [(2, .ren 19 200000)]
def Qf (n : Nat) (s0 : J) (aA : Int) : Option (List Int) :=
 (F81 n s0 aA).bind fun x5 =>
 if !x5 then
 some []
 else
 (idx s0.ae aA).bind fun x11 =>
 (om (x11.af.length : Int) (0 : Int)).bind fun x16 =>
 (idx s0.ae aA).bind fun x22 =>
 wh (EN n) n x22.af (x22.af.length : Int) 0 []
theorem aeZ (n : Nat) : K2 (A78 []) Q5 (Qf n) := fun s0 aA r h =>
 be h fun x5 hx5 h =>
 ie h (fun c0 h =>
 rr h [(4, .call (oR n hx5) [] [] []), (0, eb c0), (1, .born [4] [] 200000 false 3 1)]) (fun c0 h =>
 be h fun x11 cF h =>
 be h fun x16 dG h =>
 be h fun x22 oJ h =>
 ra (YJ (afa n) n h) [(4, .call (oR n hx5) [] [] []), (0, eb c0), (3, R62.idx cF), (2, .eqv (R76.au x11.af)), (0, R3.adU [.int .i64 0] dG), (4, R62.idx oJ), (2, .eqv (R76.au x22.af))])
def F78 (n:Nat) (s0:J) (aA:Int):Option (List Int):=Qf n s0 aA
theorem IX (n:Nat):K2 C78 Q5 (F78 n):=fun _ _ _ h=>ca (X:=x78) (aeZ n h)
def Sa (r:Bool):AV:=.bool r
def Mm (r:Bool):List (Nat×Bx):= []
def x109:=fx E0 Tryz.f109 [] []
def yr:=Ax x109 Sa Mm
def C109:=Cx E0 109 Sa Mm
def Bv (t5:List Int) (t6 t7:Int):LS:=⟨[(5,.slice 3 1 (aR t5)),(6,.int .i64 t6),(7,.int .i64 t7)],[]⟩
def Bu:LS:=⟨[],[]⟩
def LP (pM:List Int):LS:=⟨[(0,.slice 3 1 (aR pM))],[]⟩
def AY (k_1 : Option Bool) (back : (List Int) → Int → Int → Option Bool) (n : Nat) (t5 : List Int) (t6 t7 : Int) : Option Bool :=
 if decide (t7 < t6) then
 (idx t5 t7).bind fun x2 =>
 if x2 != 3 then
 if x2 != 4 then
 if x2 != 5 then
 some false
 else
 back t5 t6 (w64 (t7 + 1))
 else
 back t5 t6 (w64 (t7 + 1))
 else
 back t5 t6 (w64 (t7 + 1))
 else
 k_1
theorem acA {k_1} (aH : K0 (yr [1, 1]) Bu k_1) {back} (ay : K3 (yr [0, 1, 0, 1]) Bv back) (n : Nat) : K3 (yr [0, 1, 0, 1]) Bv (AY k_1 back n) := fun t5 t6 t7 r h =>
 ie h (fun c0 h =>
 be h fun x2 hx2 h =>
 ie h (fun c1 h =>
 ie h (fun c2 h =>
 ie h (fun c3 h =>
 rr h [(0, eb c0), (0, R3.idx hx2), (3, eb c1), (2, eb c2), (3, eb c3)]) (fun c3 h =>
 ra (ay h) [(0, eb c0), (0, R3.idx hx2), (3, eb c1), (2, eb c2), (3, eb c3)])) (fun c2 h =>
 ra (ay h) [(0, eb c0), (0, R3.idx hx2), (3, eb c1), (2, eb c2)])) (fun c1 h =>
 ra (ay h) [(0, eb c0), (0, R3.idx hx2), (3, eb c1)])) (fun c0 h =>
 ra (aH h) [(0, eb c0)])
def rz (k_1:Option Bool):Nat→(List Int)→Int→Int→Option Bool
 |0,_,_,_=>none
 |n+1,t5,t6,t7=>AY k_1 (rz k_1 n) n t5 t6 t7
theorem TM {k_1} (aH:K0 (yr [1,1]) Bu k_1):∀n:Nat,K3 (yr [0,1,0,1]) Bv (rz k_1 n)
 |0=>fun _ _ _ _ h=>nz h
 |n+1=>fun _ _ _ _ h=>acA aH (TM aH n) n h
def Ky (n : Nat) : Option Bool :=
 some true
theorem acz (n : Nat) : K0 (yr [1, 1]) Bu (Ky n) := fun r h =>
 rr h []
def Kx (n : Nat) (pM : List Int) : Option Bool :=
 rz (Ky n) n pM (pM.length : Int) 0
theorem acy (n : Nat) : K1 (yr []) LP (Kx n) := fun pM r h =>
 ra (TM (acz n) n h) [(2, .eqv (R3.au pM))]
def J6 (n:Nat) (pM:List Int):Option Bool:=Kx n pM
theorem nH (n:Nat):K1 C109 LP (J6 n):=fun _ _ h=>ca (X:=x109) (acy n h)
def R9 (r:(Bool×Int)):AV:=.bool r.1
def Ml (r:(Bool×Int)):List (Nat×Bx):= [(2,.flat 3 [.int .i64 r.2])]
def x110:=fx E0 Tryz.f110 [2] [2]
def yq:=Ax x110 R9 Ml
def Ka:=Cx E0 110 R9 Ml
def Bt (gw:Int) (t23:List ag) (t24 t25 b2:Int):LS:=⟨[(1,.int .i64 gw),(2,.loc 2 0),(23,.slice 84 13 (dV t23)),(24,.int .i64 t24),(25,.int .i64 t25)],[(2,.flat 3 [.int .i64 b2])]⟩
def Br (b2:Int):LS:=⟨[],[(2,.flat 3 [.int .i64 b2])]⟩
def nY (p0:ag) (gw jR:Int):LS:=⟨[(0,.agg (eX p0)),(1,.int .i64 gw),(2,.loc 2 0)],[(2,.flat 3 [.int .i64 jR])]⟩
def AX (fk : ag → Int → Int → Option (Bool × Int)) (k_1 : Int → Option (Bool × Int)) (back : Int → (List ag) → Int → Int → Int → Option (Bool × Int)) (n : Nat) (gw : Int) (t23 : List ag) (t24 t25 b2 : Int) : Option (Bool × Int) :=
 if decide (t25 < t24) then
 (idx t23 t25).bind fun x2 =>
 (fk x2 (w64 (gw + 1)) b2).bind fun x11 =>
 if !x11.1 then
 some (false, x11.2)
 else
 back gw t23 t24 (w64 (t25 + 1)) x11.2
 else
 k_1 b2
theorem acx {fk} (ly : K3 Ka nY fk) {k_1} (aH : K1 (yq [1, 1, 1, 1]) Br k_1) {back} (ay : K5 (yq [0, 1, 0, 1, 1, 1]) Bt back) (n : Nat) : K5 (yq [0, 1, 0, 1, 1, 1]) Bt (AX fk k_1 back n) := fun gw t23 t24 t25 b2 r h =>
 ie h (fun c0 h =>
 be h fun x2 hx2 h =>
 be h fun x11 cF h =>
 ie h (fun c1 h =>
 rr h [(0, eb c0), (0, R83.idx hx2), (7, .call (ly cF) [] [(2, 2)] []), (0, eb c1)]) (fun c1 h =>
 ra (ay h) [(0, eb c0), (0, R83.idx hx2), (7, .call (ly cF) [] [(2, 2)] []), (0, eb c1)])) (fun c0 h =>
 ra (aH h) [(0, eb c0)])
def ry (fk:ag→Int→Int→Option (Bool×Int)) (k_1:Int→Option (Bool×Int)):Nat→Int→(List ag)→Int→Int→Int→Option (Bool×Int)
 |0,_,_,_,_,_=>none
 |n+1,gw,t23,t24,t25,b2=>AX fk k_1 (ry fk k_1 n) n gw t23 t24 t25 b2
theorem TL {fk} (ly:K3 Ka nY fk) {k_1} (aH:K1 (yq [1,1,1,1]) Br k_1):∀n:Nat,K5 (yq [0,1,0,1,1,1]) Bt (ry fk k_1 n)
 |0=>fun _ _ _ _ _ _ h=>nz h
 |n+1=>fun _ _ _ _ _ _ h=>acx ly aH (TL ly aH n) n h
def U7 (fk : ag → Int → Int → Option (Bool × Int)) (n : Nat) (b2 : Int) : Option (Bool × Int) :=
 some (true, b2)
theorem acw {fk} (ly : K3 Ka nY fk) (n : Nat) : K1 (yq [1, 1, 1, 1]) Br (U7 fk n) := fun b2 r h =>
 rr h []
def Kv (fk : ag → Int → Int → Option (Bool × Int)) (n : Nat) (p0 : ag) (gw jR : Int) : Option (Bool × Int) :=
 if decide ((w64 (jR - 1)) < 0) then
 some (false, w64 (jR - 1))
 else
 if decide (8 < gw) then
 some (false, w64 (jR - 1))
 else
 ry fk (U7 fk n) n gw p0.fArgs (p0.fArgs.length : Int) 0 (w64 (jR - 1))
theorem acv {fk} (ly : K3 Ka nY fk) (n : Nat) : K3 (yq []) nY (Kv fk n) := fun p0 gw jR r h =>
 ie h (fun c0 h =>
 rr h [(11, eb c0)]) (fun c0 h =>
 ie h (fun c1 h =>
 rr h [(11, eb c0), (2, eb c1)]) (fun c1 h =>
 ra (TL ly (acw ly n) n h) [(11, eb c0), (2, eb c1), (3, .eqv (R83.au p0.fArgs))]))
def CN:Nat→ag→Int→Int→Option (Bool×Int)
 |0,_,_,_=>none
 |n+1,p0,gw,jR=>Kv (CN n) n p0 gw jR
theorem Eh:∀n:Nat,K3 Ka nY (CN n)
 |0=>fun _ _ _ _ h=>nz h
 |n+1=>fun _ _ _ _ h=>ca (X:=x110) (acv (Eh n) n h)
def Sk (r:Bool):AV:=.bool r
def Mw (r:Bool):List (Nat×Bx):= []
def x100:=fx E0 Tryz.f100 [] []
def A100:=Ax x100 Sk Mw
def C100:=Cx E0 100 Sk Mw
def LX (v0:aa):LS:=⟨[(0,.agg (gd v0))],[]⟩
def Vd (n : Nat) (v0 : aa) : Option Bool :=
 if v0.ar == 1 then
 if v0.bL == 0 then
 some (decide (v0.bj = ByteArray.empty))
 else
 some false
 else
 if v0.ar == 2 then
 if v0.bL == 0 then
 some (decide (v0.bj = ByteArray.empty))
 else
 some false
 else
 if v0.ar == 3 then
 if v0.bL == 0 then
 some (decide (v0.bj = ByteArray.empty))
 else
 if v0.bL == 1 then
 some (decide (v0.bj = ByteArray.empty))
 else
 some false
 else
 if v0.ar == 4 then
 some (decide (v0.bj = ByteArray.empty))
 else
 if v0.ar == 5 then
 if v0.bL == 0 then
 some (!decide (64 < (v0.bj.size : Int)))
 else
 some false
 else
 some false
theorem adb (n : Nat) : K1 (A100 []) LX (Vd n) := fun v0 r h =>
 ie h (fun c0 h =>
 ie h (fun c1 h =>
 rr h [(4, eb c0), (3, eb c1)]) (fun c1 h =>
 rr h [(4, eb c0), (3, eb c1)])) (fun c0 h =>
 ie h (fun c1 h =>
 ie h (fun c2 h =>
 rr h [(4, eb c0), (1, eb c1), (3, eb c2)]) (fun c2 h =>
 rr h [(4, eb c0), (1, eb c1), (3, eb c2)])) (fun c1 h =>
 ie h (fun c2 h =>
 ie h (fun c3 h =>
 rr h [(4, eb c0), (1, eb c1), (1, eb c2), (3, eb c3)]) (fun c3 h =>
 ie h (fun c4 h =>
 rr h [(4, eb c0), (1, eb c1), (1, eb c2), (3, eb c3), (3, eb c4)]) (fun c4 h =>
 rr h [(4, eb c0), (1, eb c1), (1, eb c2), (3, eb c3), (3, eb c4)]))) (fun c2 h =>
 ie h (fun c3 h =>
 rr h [(4, eb c0), (1, eb c1), (1, eb c2), (1, eb c3)]) (fun c3 h =>
 ie h (fun c4 h =>
 ie h (fun c5 h =>
 rr h [(4, eb c0), (1, eb c1), (1, eb c2), (1, eb c3), (1, eb c4), (3, eb c5)]) (fun c5 h =>
 rr h [(4, eb c0), (1, eb c1), (1, eb c2), (1, eb c3), (1, eb c4), (3, eb c5)])) (fun c4 h =>
 rr h [(4, eb c0), (1, eb c1), (1, eb c2), (1, eb c3), (1, eb c4)])))))
def P3 (n:Nat) (v0:aa):Option Bool:=Vd n v0
theorem sL (n:Nat):K1 C100 LX (P3 n):=fun _ _ h=>ca (X:=x100) (adb n h)
def XR (r:Bool):AV:=.bool r
def SG (r:Bool):List (Nat×Bx):= []
def x80:=fx E0 Tryz.f80 [] []
def A80:=Ax x80 XR SG
def C80:=Cx E0 80 XR SG
def Q3 (v0:aa):LS:=⟨[(0,.agg (gd v0))],[]⟩
def Qd (n : Nat) (v0 : aa) : Option Bool :=
 (P3 n v0).bind fun x4 =>
 if x4 then
 if v0.ar != 1 then
 some (v0.ar != 2)
 else
 some false
 else
 some false
theorem aeX (n : Nat) : K1 (A80 []) Q3 (Qd n) := fun v0 r h =>
 be h fun x4 hx4 h =>
 ie h (fun c0 g0 => by subst c0; exact (
 ie g0 (fun c1 g0 =>
 rr g0 [(3, .call (sL n hx4) [] [] []), (3, eb c1)]) (fun c1 g0 =>
 rr g0 [(3, .call (sL n hx4) [] [] []), (3, eb c1)]))) (fun c0 g0 => by subst c0; exact (
 rr g0 [(3, .call (sL n hx4) [] [] [])]))
def F80 (n:Nat) (v0:aa):Option Bool:=Qd n v0
theorem IW (n:Nat):K1 C80 Q3 (F80 n):=fun _ _ h=>ca (X:=x80) (aeX n h)
def RX (r:Int):AV:=.int .i64 r
def Ma (r:Int):List (Nat×Bx):= []
def x126:=fx E0 Tryz.f126 [] []
def A126:=Ax x126 RX Ma
def C126:=Cx E0 126 RX Ma
def ZX (pL:List Int) (b3:aw):LS:=⟨[(3,.loc 3 0),(5,.slice 3 1 (aR pL))],[(3,.flat 82 (jN b3))]⟩
def LG (k0:cH) (o1:aw):LS:=⟨[(0,.agg (rp k0)),(1,.agg (jN o1))],[]⟩
def AO (n : Nat) (pL : List Int) (b3 : aw) : Option Int :=
 if decide (b3.bH < 0) then
 some 0
 else
 if !decide (b3.bH < (pL.length : Int)) then
 some 0
 else
 if !((b3.aM.ar == 0) && ((b3.aM.bL == 0) && ((decide (b3.aM.bj = ByteArray.empty)) && true))) then
 some 0
 else
 (idx pL b3.bH).bind fun x20 =>
 some x20
theorem UB (n : Nat) : K2 (A126 [1, 1, 1]) ZX (AO n) := fun pL b3 r h =>
 ie h (fun c0 h =>
 rr h [(2, eb c0)]) (fun c0 h =>
 ie h (fun c1 h =>
 rr h [(2, eb c0), (4, .eqv (R3.au pL)), (0, eb c1)]) (fun c1 h =>
 ie h (fun c2 h =>
 rr h [(2, eb c0), (4, .eqv (R3.au pL)), (0, eb c1), (5, eb c2)]) (fun c2 h =>
 be h fun x20 lx h =>
 rr h [(2, eb c0), (4, .eqv (R3.au pL)), (0, eb c1), (5, eb c2), (4, R3.idx lx)])))
def Kl (n : Nat) (k0 : cH) (o1 : aw) : Option Int :=
 if o1.ar == 3 then
 if o1.bH != 0 then
 some 0
 else
 (F80 n o1.aM).bind fun x17 =>
 if !x17 then
 some 0
 else
 some o1.aM.ar
 else
 if o1.ar == 2 then
 AO n k0.fB o1
 else
 if o1.ar == 1 then
 AO n k0.eI o1
 else
 some 0
theorem acd (n : Nat) : K2 (A126 []) LG (Kl n) := fun k0 o1 r h =>
 ie h (fun c0 h =>
 ie h (fun c1 h =>
 rr h [(8, eb c0), (3, eb c1)]) (fun c1 h =>
 be h fun x17 fX h =>
 ie h (fun c2 h =>
 rr h [(8, eb c0), (3, eb c1), (3, .call (IW n fX) [] [] []), (0, eb c2)]) (fun c2 h =>
 rr h [(8, eb c0), (3, eb c1), (3, .call (IW n fX) [] [] []), (0, eb c2)]))) (fun c0 h =>
 ie h (fun c1 h =>
 ra (UB n h) [(8, eb c0), (1, eb c1)]) (fun c1 h =>
 ie h (fun c2 h =>
 ra (UB n h) [(8, eb c0), (1, eb c1), (1, eb c2)]) (fun c2 h =>
 rr h [(8, eb c0), (1, eb c1), (1, eb c2)])))
def J2 (n:Nat) (k0:cH) (o1:aw):Option Int:=Kl n k0 o1
theorem mA (n:Nat):K2 C126 LG (J2 n):=fun _ _ _ h=>ca (X:=x126) (acd n h)
def R8 (r:Bool):AV:=.bool r
def Mk (r:Bool):List (Nat×Bx):= []
def x111:=fx E0 Tryz.f111 [] []
def kM:=Ax x111 R8 Mk
def qL:=Cx E0 111 R8 Mk
def Bq (t76:List ag) (t77 t78:Int) (b2:cH):LS:=⟨[(2,.loc 2 0),(76,.slice 84 13 (dV t76)),(77,.int .i64 t77),(78,.int .i64 t78)],[(2,.flat 165 (rp b2))]⟩
def Bp:LS:=⟨[],[]⟩
def Z1 (t50:Bool) (b2:cH) (b3:ag):LS:=⟨[(2,.loc 2 0),(3,.loc 3 0),(50,.bool t50)],[(2,.flat 165 (rp b2)),(3,.flat 84 (eX b3))]⟩
def Bo (t76:List ag) (t77 t78:Int) (b2:cH):LS:=⟨[(2,.loc 2 0),(76,.slice 84 13 (dV t76)),(77,.int .i64 t77),(78,.int .i64 t78)],[(2,.flat 165 (rp b2))]⟩
def Bn:LS:=⟨[],[]⟩
def Z0 (b2:cH) (b3:ag):LS:=⟨[(2,.loc 2 0),(3,.loc 3 0)],[(2,.flat 165 (rp b2)),(3,.flat 84 (eX b3))]⟩
def hZ (k0:cH) (p1:ag):LS:=⟨[(0,.agg (rp k0)),(1,.agg (eX p1))],[]⟩
def AW (bM : cH → ag → Option Bool) (k_1 : Option Bool) (back : (List ag) → Int → Int → cH → Option Bool) (n : Nat) (t76 : List ag) (t77 t78 : Int) (b2 : cH) : Option Bool :=
 if decide (t78 < t77) then
 (idx t76 t78).bind fun x2 =>
 (bM b2 x2).bind fun x9 =>
 if !x9 then
 some false
 else
 back t76 t77 (w64 (t78 + 1)) b2
 else
 k_1
theorem acu {bM} (di : K2 qL hZ bM) {k_1} (aH : K0 (kM [1, 1, 1, 1]) Bp k_1) {back} (ay : K4 (kM [0, 1, 0, 1, 1, 1]) Bq back) (n : Nat) : K4 (kM [0, 1, 0, 1, 1, 1]) Bq (AW bM k_1 back n) := fun t76 t77 t78 b2 r h =>
 ie h (fun c0 h =>
 be h fun x2 hx2 h =>
 be h fun x9 hx9 h =>
 ie h (fun c1 h =>
 rr h [(0, eb c0), (0, R83.idx hx2), (5, .call (di hx9) [] [] []), (0, eb c1)]) (fun c1 h =>
 ra (ay h) [(0, eb c0), (0, R83.idx hx2), (5, .call (di hx9) [] [] []), (0, eb c1)])) (fun c0 h =>
 ra (aH h) [(0, eb c0)])
def mU (bM:cH→ag→Option Bool) (k_1:Option Bool):Nat→(List ag)→Int→Int→cH→Option Bool
 |0,_,_,_,_=>none
 |n+1,t76,t77,t78,b2=>AW bM k_1 (mU bM k_1 n) n t76 t77 t78 b2
theorem TK {bM} (di:K2 qL hZ bM) {k_1} (aH:K0 (kM [1,1,1,1]) Bp k_1):∀n:Nat,K4 (kM [0,1,0,1,1,1]) Bq (mU bM k_1 n)
 |0=>fun _ _ _ _ _ h=>nz h
 |n+1=>fun _ _ _ _ _ h=>acu di aH (TK di aH n) n h
def AU (bM : cH → ag → Option Bool) (n : Nat) : Option Bool :=
 some true
theorem acs {bM} (di : K2 qL hZ bM) (n : Nat) : K0 (kM [1, 1, 1, 1]) Bp (AU bM n) := fun r h =>
 rr h []
def vk (bM : cH → ag → Option Bool) (n : Nat) (t50 : Bool) (b2 : cH) (b3 : ag) : Option Bool :=
 if t50 then
 some false
 else
 if b3.ga != 0 then
 some false
 else
 if !((b3.bw.ar == 0) && ((b3.bw.bH == 0) && (((b3.bw.aM.ar == 0) && ((b3.bw.aM.bL == 0) && ((decide (b3.bw.aM.bj = ByteArray.empty)) && true))) && true))) then
 some false
 else
 if !((b3.bf.ar == 0) && ((b3.bf.bH == 0) && (((b3.bf.aM.ar == 0) && ((b3.bf.aM.bL == 0) && ((decide (b3.bf.aM.bj = ByteArray.empty)) && true))) && true))) then
 some false
 else
 mU bM (AU bM n) n b3.fArgs (b3.fArgs.length : Int) 0 b2
theorem UE {bM} (di : K2 qL hZ bM) (n : Nat) : K3 (kM [1, 0, 1, 1, 1, 0, 1, 0, 1]) Z1 (vk bM n) := fun t50 b2 b3 r h =>
 ie h (fun c0 g0 => by subst c0; exact (
 rr g0 [])) (fun c0 g0 => by subst c0; exact (
 ie g0 (fun c1 g0 =>
 rr g0 [(2, eb c1)]) (fun c1 g0 =>
 ie g0 (fun c2 g0 =>
 rr g0 [(2, eb c1), (4, eb c2)]) (fun c2 g0 =>
 ie g0 (fun c3 g0 =>
 rr g0 [(2, eb c1), (4, eb c2), (5, eb c3)]) (fun c3 g0 =>
 ra (TK di (acs di n) n g0) [(2, eb c1), (4, eb c2), (5, eb c3), (3, .eqv (R83.au b3.fArgs))])))))
def AT (bM : cH → ag → Option Bool) (k_4 : Option Bool) (back : (List ag) → Int → Int → cH → Option Bool) (n : Nat) (t76 : List ag) (t77 t78 : Int) (b2 : cH) : Option Bool :=
 if decide (t78 < t77) then
 (idx t76 t78).bind fun x2 =>
 (bM b2 x2).bind fun x9 =>
 if !x9 then
 some false
 else
 back t76 t77 (w64 (t78 + 1)) b2
 else
 k_4
theorem acr {bM} (di : K2 qL hZ bM) {k_4} (g8 : K0 (kM [1, 1, 1, 1]) Bn k_4) {back} (ay : K4 (kM [0, 1, 0, 1, 1, 1]) Bo back) (n : Nat) : K4 (kM [0, 1, 0, 1, 1, 1]) Bo (AT bM k_4 back n) := fun t76 t77 t78 b2 r h =>
 ie h (fun c0 h =>
 be h fun x2 hx2 h =>
 be h fun x9 hx9 h =>
 ie h (fun c1 h =>
 rr h [(0, eb c0), (0, R83.idx hx2), (5, .call (di hx9) [] [] []), (0, eb c1)]) (fun c1 h =>
 ra (ay h) [(0, eb c0), (0, R83.idx hx2), (5, .call (di hx9) [] [] []), (0, eb c1)])) (fun c0 h =>
 ra (g8 h) [(0, eb c0)])
def mT (bM:cH→ag→Option Bool) (k_4:Option Bool):Nat→(List ag)→Int→Int→cH→Option Bool
 |0,_,_,_,_=>none
 |n+1,t76,t77,t78,b2=>AT bM k_4 (mT bM k_4 n) n t76 t77 t78 b2
theorem TJ {bM} (di:K2 qL hZ bM) {k_4} (g8:K0 (kM [1,1,1,1]) Bn k_4):∀n:Nat,K4 (kM [0,1,0,1,1,1]) Bo (mT bM k_4 n)
 |0=>fun _ _ _ _ _ h=>nz h
 |n+1=>fun _ _ _ _ _ h=>acr di g8 (TJ di g8 n) n h
def AS (bM : cH → ag → Option Bool) (n : Nat) : Option Bool :=
 some true
theorem acq {bM} (di : K2 qL hZ bM) (n : Nat) : K0 (kM [1, 1, 1, 1]) Bn (AS bM n) := fun r h =>
 rr h []
def rK (bM : cH → ag → Option Bool) (n : Nat) (b2 : cH) (b3 : ag) : Option Bool :=
 if b3.ga != 0 then
 some false
 else
 if !((b3.bw.ar == 0) && ((b3.bw.bH == 0) && (((b3.bw.aM.ar == 0) && ((b3.bw.aM.bL == 0) && ((decide (b3.bw.aM.bj = ByteArray.empty)) && true))) && true))) then
 some false
 else
 if !((b3.bf.ar == 0) && ((b3.bf.bH == 0) && (((b3.bf.aM.ar == 0) && ((b3.bf.aM.bL == 0) && ((decide (b3.bf.aM.bj = ByteArray.empty)) && true))) && true))) then
 some false
 else
 mT bM (AS bM n) n b3.fArgs (b3.fArgs.length : Int) 0 b2
theorem Jp {bM} (di : K2 qL hZ bM) (n : Nat) : K2 (kM [1, 1]) Z0 (rK bM n) := fun b2 b3 r h =>
 ie h (fun c0 h =>
 rr h [(2, eb c0)]) (fun c0 h =>
 ie h (fun c1 h =>
 rr h [(2, eb c0), (4, eb c1)]) (fun c1 h =>
 ie h (fun c2 h =>
 rr h [(2, eb c0), (4, eb c1), (5, eb c2)]) (fun c2 h =>
 ra (TJ di (acq di n) n h) [(2, eb c0), (4, eb c1), (5, eb c2), (3, .eqv (R83.au b3.fArgs))])))
def Ku (bM : cH → ag → Option Bool) (n : Nat) (k0 : cH) (p1 : ag) : Option Bool :=
 if p1.fOp == 3 then
 (J2 n k0 p1.bw).bind fun x11 =>
 (J2 n k0 p1.bf).bind fun x16 =>
 if (p1.fArgs.length : Int) == 0 then
 if !decide (p1.ga < 1) then
 if !decide (6 < p1.ga) then
 if x11 != 0 then
 some (x11 == x16)
 else
 some false
 else
 some false
 else
 some false
 else
 some false
 else
 if p1.fOp == 1 then
 vk bM n ((p1.fArgs.length : Int) != 0) k0 p1
 else
 if p1.fOp == 2 then
 vk bM n ((p1.fArgs.length : Int) != 0) k0 p1
 else
 if p1.fOp == 6 then
 if (p1.fArgs.length : Int) != 1 then
 some false
 else
 rK bM n k0 p1
 else
 if p1.fOp == 4 then
 rK bM n k0 p1
 else
 if p1.fOp == 5 then
 rK bM n k0 p1
 else
 some false
theorem acp {bM} (di : K2 qL hZ bM) (n : Nat) : K2 (kM []) hZ (Ku bM n) := fun k0 p1 r h =>
 ie h (fun c0 h =>
 be h fun x11 cF h =>
 be h fun x16 dG h =>
 ie h (fun c1 h =>
 ie h (fun c2 h =>
 ie h (fun c3 h =>
 ie h (fun c4 h =>
 rr h [(5, eb c0), (4, .call (mA n cF) [] [] []), (3, .call (mA n dG) [] [] []), (4, .eqv (R83.au p1.fArgs)), (0, eb c1), (3, eb c2), (4, eb c3), (3, eb c4)]) (fun c4 h =>
 rr h [(5, eb c0), (4, .call (mA n cF) [] [] []), (3, .call (mA n dG) [] [] []), (4, .eqv (R83.au p1.fArgs)), (0, eb c1), (3, eb c2), (4, eb c3), (3, eb c4)])) (fun c3 h =>
 rr h [(5, eb c0), (4, .call (mA n cF) [] [] []), (3, .call (mA n dG) [] [] []), (4, .eqv (R83.au p1.fArgs)), (0, eb c1), (3, eb c2), (4, eb c3)])) (fun c2 h =>
 rr h [(5, eb c0), (4, .call (mA n cF) [] [] []), (3, .call (mA n dG) [] [] []), (4, .eqv (R83.au p1.fArgs)), (0, eb c1), (3, eb c2)])) (fun c1 h =>
 rr h [(5, eb c0), (4, .call (mA n cF) [] [] []), (3, .call (mA n dG) [] [] []), (4, .eqv (R83.au p1.fArgs)), (0, eb c1)])) (fun c0 h =>
 ie h (fun c1 h =>
 ra (UE di n h) [(5, eb c0), (1, eb c1), (3, .eqv (R83.au p1.fArgs))]) (fun c1 h =>
 ie h (fun c2 h =>
 ra (UE di n h) [(5, eb c0), (1, eb c1), (1, eb c2), (3, .eqv (R83.au p1.fArgs))]) (fun c2 h =>
 ie h (fun c3 h =>
 ie h (fun c4 h =>
 rr h [(5, eb c0), (1, eb c1), (1, eb c2), (1, eb c3), (3, .eqv (R83.au p1.fArgs)), (0, eb c4)]) (fun c4 h =>
 ra (Jp di n h) [(5, eb c0), (1, eb c1), (1, eb c2), (1, eb c3), (3, .eqv (R83.au p1.fArgs)), (0, eb c4)])) (fun c3 h =>
 ie h (fun c4 h =>
 ra (Jp di n h) [(5, eb c0), (1, eb c1), (1, eb c2), (1, eb c3), (1, eb c4)]) (fun c4 h =>
 ie h (fun c5 h =>
 ra (Jp di n h) [(5, eb c0), (1, eb c1), (1, eb c2), (1, eb c3), (1, eb c4), (1, eb c5)]) (fun c5 h =>
 rr h [(5, eb c0), (1, eb c1), (1, eb c2), (1, eb c3), (1, eb c4), (1, eb c5)]))))))
def kL:Nat→cH→ag→Option Bool
 |0,_,_=>none
 |n+1,k0,p1=>Ku (kL n) n k0 p1
theorem O4:∀n:Nat,K2 qL hZ (kL n)
 |0=>fun _ _ _ h=>nz h
 |n+1=>fun _ _ _ h=>ca (X:=x111) (acp (O4 n) n h)
def XS (r:Int):AV:=.int .i64 r
def SH (r:Int):List (Nat×Bx):= []
def x79:=fx E0 Tryz.f79 [] []
def A79:=Ax x79 XS SH
def C79:=Cx E0 79 XS SH
def Q4 (aJ params1:List Int) (p2:ag):LS:=⟨[(0,.slice 3 1 (aR aJ)),(1,.slice 3 1 (aR params1)),(2,.agg (eX p2))],[]⟩
def Qe (n : Nat) (aJ params1 : List Int) (p2 : ag) : Option Int :=
 (J6 n aJ).bind fun x4 =>
 if !x4 then
 some 1
 else
 (J6 n params1).bind fun x9 =>
 if !x9 then
 some 1
 else
 (CN n p2 1 24).bind fun x16 =>
 if !x16.1 then
 some 2
 else
 (kL n (cH.mk aJ params1) p2).bind fun x23 =>
 if !x23 then
 some 50
 else
 some 0
theorem aeY (n : Nat) : K3 (A79 []) Q4 (Qe n) := fun aJ params1 p2 r h =>
 be h fun x4 hx4 h =>
 ie h (fun c0 h =>
 rr h [(3, .call (nH n hx4) [] [] []), (0, eb c0)]) (fun c0 h =>
 be h fun x9 hx9 h =>
 ie h (fun c1 h =>
 rr h [(3, .call (nH n hx4) [] [] []), (0, eb c0), (2, .call (nH n hx9) [] [] []), (0, eb c1)]) (fun c1 h =>
 be h fun x16 dG h =>
 ie h (fun c2 h =>
 rr h [(3, .call (nH n hx4) [] [] []), (0, eb c0), (2, .call (nH n hx9) [] [] []), (0, eb c1), (4, .call (Eh n dG) [] [(7, 2)] []), (0, eb c2)]) (fun c2 h =>
 be h fun x23 fV h =>
 ie h (fun c3 h =>
 rr h [(3, .call (nH n hx4) [] [] []), (0, eb c0), (2, .call (nH n hx9) [] [] []), (0, eb c1), (4, .call (Eh n dG) [] [(7, 2)] []), (0, eb c2), (4, .call (O4 n fV) [] [] []), (0, eb c3)]) (fun c3 h =>
 rr h [(3, .call (nH n hx4) [] [] []), (0, eb c0), (2, .call (nH n hx9) [] [] []), (0, eb c1), (4, .call (Eh n dG) [] [(7, 2)] []), (0, eb c2), (4, .call (O4 n fV) [] [] []), (0, eb c3)]))))
def F79 (n:Nat) (aJ params1:List Int) (p2:ag):Option Int:=Qe n aJ params1 p2
theorem ev79 (n:Nat):K3 C79 Q4 (F79 n):=fun _ _ _ _ h=>ca (X:=x79) (aeY n h)
def Yb (r:Int):AV:=.int .i64 r
def S4 (r:Int):List (Nat×Bx):= []
def x38:=fx E0 Tryz.f38 [] []
def A38:=Ax x38 Yb S4
def C38:=Cx E0 38 Yb S4
def GW (t16:List aj) (t17 t18:Int) (b1:J):LS:=⟨[(1,.loc 1 0),(16,.slice 63 5 (cD t16)),(17,.int .i64 t17),(18,.int .i64 t18)],[(1,.flat 26 (aX b1))]⟩
def GV (gx:List Int) (t58:List aj) (t59 t60:Int) (t69:List ag) (t70 t71:Int) (b1:J):LS:=⟨[(1,.loc 1 0),(7,.slice 3 1 (aR gx)),(58,.slice 63 5 (cD t58)),(59,.int .i64 t59),(60,.int .i64 t60),(69,.slice 84 13 (dV t69)),(70,.int .i64 t70),(71,.int .i64 t71)],[(1,.flat 26 (aX b1))]⟩
def GU (t58:List aj) (t59 t60:Int) (b1:J):LS:=⟨[(1,.loc 1 0),(58,.slice 63 5 (cD t58)),(59,.int .i64 t59),(60,.int .i64 t60)],[(1,.flat 26 (aX b1))]⟩
def yM (t58:List aj) (t59 t60:Int) (b1:J):LS:=⟨[(1,.loc 1 0),(58,.slice 63 5 (cD t58)),(59,.int .i64 t59),(60,.int .i64 t60)],[(1,.flat 26 (aX b1))]⟩
def GS:LS:=⟨[],[]⟩
def GR (b1:J):LS:=⟨[(1,.loc 1 0)],[(1,.flat 26 (aX b1))]⟩
def Rm (s0:J):LS:=⟨[(0,.agg (aX s0))],[]⟩
def Fq (k_5 : J → Option Int) (back : (List aj) → Int → Int → J → Option Int) (n : Nat) (t16 : List aj) (t17 t18 : Int) (b1 : J) : Option Int :=
 if decide (t18 < t17) then
 (idx t16 t18).bind fun x2 =>
 if decide (8 < (x2.af.length : Int)) then
 some 2
 else
 if decide (4 < (x2.aU.length : Int)) then
 some 2
 else
 if decide (4 < (x2.bK.length : Int)) then
 some 2
 else
 back t16 t17 (w64 (t18 + 1)) b1
 else
 k_5 b1
theorem age {k_5} (fY : K1 (A38 [1, 1, 1]) GR k_5) {back} (ay : K4 (A38 [0, 1, 0, 1, 1]) GW back) (n : Nat) : K4 (A38 [0, 1, 0, 1, 1]) GW (Fq k_5 back n) := fun t16 t17 t18 b1 r h =>
 ie h (fun c0 h =>
 be h fun x2 hx2 h =>
 ie h (fun c1 h =>
 rr h [(0, eb c0), (0, R62.idx hx2), (5, .eqv (R76.au x2.af)), (0, eb c1)]) (fun c1 h =>
 ie h (fun c2 h =>
 rr h [(0, eb c0), (0, R62.idx hx2), (5, .eqv (R76.au x2.af)), (0, eb c1), (3, .eqv (R79.au x2.aU)), (0, eb c2)]) (fun c2 h =>
 ie h (fun c3 h =>
 rr h [(0, eb c0), (0, R62.idx hx2), (5, .eqv (R76.au x2.af)), (0, eb c1), (3, .eqv (R79.au x2.aU)), (0, eb c2), (4, .eqv (R83.au x2.bK)), (0, eb c3)]) (fun c3 h =>
 ra (ay h) [(0, eb c0), (0, R62.idx hx2), (5, .eqv (R76.au x2.af)), (0, eb c1), (3, .eqv (R79.au x2.aU)), (0, eb c2), (4, .eqv (R83.au x2.bK)), (0, eb c3)])))) (fun c0 h =>
 ra (fY h) [(0, eb c0)])
def wE (k_5:J→Option Int):Nat→(List aj)→Int→Int→J→Option Int
 |0,_,_,_,_=>none
 |n+1,t16,t17,t18,b1=>Fq k_5 (wE k_5 n) n t16 t17 t18 b1
theorem Y2 {k_5} (fY:K1 (A38 [1,1,1]) GR k_5):∀n:Nat,K4 (A38 [0,1,0,1,1]) GW (wE k_5 n)
 |0=>fun _ _ _ _ _ h=>nz h
 |n+1=>fun _ _ _ _ _ h=>age fY (Y2 fY n) n h
def Fp (k_2 : (List aj) → Int → Int → J → Option Int) (back : (List Int) → (List aj) → Int → Int → (List ag) → Int → Int → J → Option Int) (n : Nat) (gx : List Int) (t58 : List aj) (t59 t60 : Int) (t69 : List ag) (t70 t71 : Int) (b1 : J) : Option Int :=
 if decide (t71 < t70) then
 (idx t69 t71).bind fun x2 =>
 (F79 n gx [] x2).bind fun x9 =>
 if x9 != 0 then
 some x9
 else
 back gx t58 t59 t60 t69 t70 (w64 (t71 + 1)) b1
 else
 k_2 t58 t59 t60 b1
theorem agd {k_2} (bW : K4 (A38 [1, 1, 1, 0, 0, 1, 0, 1, 1, 1, 1]) GU k_2) {back} (ay : K8 (A38 [0, 1, 1, 1, 0, 0, 1, 1, 0, 0, 1, 0, 1, 1, 1, 1]) GV back) (n : Nat) : K8 (A38 [0, 1, 1, 1, 0, 0, 1, 1, 0, 0, 1, 0, 1, 1, 1, 1]) GV (Fp k_2 back n) := fun gx t58 t59 t60 t69 t70 t71 b1 r h =>
 ie h (fun c0 h =>
 be h fun x2 hx2 h =>
 be h fun x9 hx9 h =>
 ie h (fun c1 h =>
 rr h [(0, eb c0), (0, R83.idx hx2), (5, .call (ev79 n hx9) [.one .same, .one (.sl 3 1)] [] []), (2, eb c1)]) (fun c1 h =>
 ra (ay h) [(0, eb c0), (0, R83.idx hx2), (5, .call (ev79 n hx9) [.one .same, .one (.sl 3 1)] [] []), (2, eb c1)])) (fun c0 h =>
 ra (bW h) [(0, eb c0)])
def wD (k_2:(List aj)→Int→Int→J→Option Int):Nat→(List Int)→(List aj)→Int→Int→(List ag)→Int→Int→J→Option Int
 |0,_,_,_,_,_,_,_,_=>none
 |n+1,gx,t58,t59,t60,t69,t70,t71,b1=>Fp k_2 (wD k_2 n) n gx t58 t59 t60 t69 t70 t71 b1
theorem Y1 {k_2} (bW:K4 (A38 [1,1,1,0,0,1,0,1,1,1,1]) GU k_2):∀n:Nat,K8 (A38 [0,1,1,1,0,0,1,1,0,0,1,0,1,1,1,1]) GV (wD k_2 n)
 |0=>fun _ _ _ _ _ _ _ _ _ h=>nz h
 |n+1=>fun _ _ _ _ _ _ _ _ _ h=>agd bW (Y1 bW n) n h
def Fm (k_3 : (List aj) → Int → Int → J → Option Int) (n : Nat) (t58 : List aj) (t59 t60 : Int) (b1 : J) : Option Int :=
 k_3 t58 t59 (w64 (t60 + 1)) b1
theorem agc {k_3} (bE : K4 (A38 [0, 1, 0, 1, 1, 1, 1]) yM k_3) (n : Nat) : K4 (A38 [1, 1, 1, 0, 0, 1, 0, 1, 1, 1, 1]) GU (Fm k_3 n) := fun t58 t59 t60 b1 r h =>
 ra (bE h) []
def Fl (k_4 : Option Int) (back : (List aj) → Int → Int → J → Option Int) (n : Nat) (t58 : List aj) (t59 t60 : Int) (b1 : J) : Option Int :=
 if decide (t60 < t59) then
 (idx t58 t60).bind fun x3 =>
 (F78 n b1 t60).bind fun x11 =>
 wD (Fm back n) n x11 t58 t59 t60 x3.bK (x3.bK.length : Int) 0 b1
 else
 k_4
theorem agb {k_4} (g8 : K0 (A38 [1, 1, 1, 1, 1]) GS k_4) {back} (ay : K4 (A38 [0, 1, 0, 1, 1, 1, 1]) yM back) (n : Nat) : K4 (A38 [0, 1, 0, 1, 1, 1, 1]) yM (Fl k_4 back n) := fun t58 t59 t60 b1 r h =>
 ie h (fun c0 h =>
 be h fun x3 hx3 h =>
 be h fun x11 cF h =>
 ra (Y1 (agc ay n) n h) [(0, eb c0), (1, R62.idx hx3), (6, .call (IX n cF) [] [] [(67, 200000)]), (3, .eqv (R83.au x3.bK)), (1, R3.frz 67 x11)]) (fun c0 h =>
 ra (g8 h) [(0, eb c0)])
def tj (k_4:Option Int):Nat→(List aj)→Int→Int→J→Option Int
 |0,_,_,_,_=>none
 |n+1,t58,t59,t60,b1=>Fl k_4 (tj k_4 n) n t58 t59 t60 b1
theorem Y0 {k_4} (g8:K0 (A38 [1,1,1,1,1]) GS k_4):∀n:Nat,K4 (A38 [0,1,0,1,1,1,1]) yM (tj k_4 n)
 |0=>fun _ _ _ _ _ h=>nz h
 |n+1=>fun _ _ _ _ _ h=>agb g8 (Y0 g8 n) n h
def AL (n : Nat) : Option Int :=
 some 0
theorem aga (n : Nat) : K0 (A38 [1, 1, 1, 1, 1]) GS (AL n) := fun r h =>
 rr h []
def Fk (n : Nat) (b1 : J) : Option Int :=
 if decide (b1.bz < 0) then
 some 70
 else
 if decide (1000 < b1.bz) then
 some 70
 else
 (F76 n b1).bind fun x11 =>
 if !x11 then
 some 70
 else
 (F77 n b1).bind fun x17 =>
 if !x17 then
 some 70
 else
 tj (AL n) n b1.ae (b1.ae.length : Int) 0 b1
theorem afZ (n : Nat) : K1 (A38 [1, 1, 1]) GR (Fk n) := fun b1 r h =>
 ie h (fun c0 h =>
 rr h [(2, eb c0)]) (fun c0 h =>
 ie h (fun c1 h =>
 rr h [(2, eb c0), (3, eb c1)]) (fun c1 h =>
 be h fun x11 cF h =>
 ie h (fun c2 h =>
 rr h [(2, eb c0), (3, eb c1), (3, .call (WU n cF) [] [] []), (0, eb c2)]) (fun c2 h =>
 be h fun x17 fX h =>
 ie h (fun c3 h =>
 rr h [(2, eb c0), (3, eb c1), (3, .call (WU n cF) [] [] []), (0, eb c2), (3, .call (ev77 n fX) [] [] []), (0, eb c3)]) (fun c3 h =>
 ra (Y0 (aga n) n h) [(2, eb c0), (3, eb c1), (3, .call (WU n cF) [] [] []), (0, eb c2), (3, .call (ev77 n fX) [] [] []), (0, eb c3), (3, .eqv (R62.au b1.ae))]))))
def Qw (n : Nat) (s0 : J) : Option Int :=
 if decide (8 < (s0.ae.length : Int)) then
 some 2
 else
 wE (Fk n) n s0.ae (s0.ae.length : Int) 0 s0
theorem afY (n : Nat) : K1 (A38 []) Rm (Qw n) := fun s0 r h =>
 ie h (fun c0 h =>
 rr h [(4, .eqv (R62.au s0.ae)), (0, eb c0)]) (fun c0 h =>
 ra (Y2 (afZ n) n h) [(4, .eqv (R62.au s0.ae)), (0, eb c0), (2, .eqv (R62.au s0.ae))])
def F38 (n:Nat) (s0:J):Option Int:=Qw n s0
theorem WY (n:Nat):K1 C38 Rm (F38 n):=fun _ _ h=>ca (X:=x38) (afY n h)
end Go.Proofs.YtmealahmjddpcaaGreatDoor
end
