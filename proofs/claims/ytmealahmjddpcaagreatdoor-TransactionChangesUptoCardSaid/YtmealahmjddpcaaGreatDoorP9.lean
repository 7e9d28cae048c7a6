/- Texts that belong together. The first: Functions of the program as plain functions, and that the program answers as they do; written by a program (comp2.py). -/
import Derived.Test.YtmealahmjddpcaaGreatDoorP8
import Derived.KernelRfl
set_option linter.all false
set_option maxRecDepth 100000
noncomputable section
namespace Go.Proofs.YtmealahmjddpcaaGreatDoor
open Go.Sim
def aca (r:(List Int)):AV:=.ms 200000 1 0 r.length
def Wu (r:(List Int)):List (Nat×Bx):= [(200000,.rows true 3 1 (aX r))]
def x32:=fx E0 Tryz.f32 [] [200000]
def A32:=Ax x32 aca Wu
def C32:=Cx E0 32 aca Wu
def Jb (t22:List aS) (t23 t24:Int) (b32:List Int):LS:=⟨[(5,.ms 32 1 0 b32.length),(22,.slice 77 2 (kz t22)),(23,.int .i64 t23),(24,.int .i64 t24)],[(32,.rows true 3 1 (aX b32))]⟩
def Ja (b32:List Int):LS:=⟨[(5,.ms 32 1 0 b32.length)],[(32,.rows true 3 1 (aX b32))]⟩
def UA (s0:aa) (aC:Int):LS:=⟨[(0,.agg (aV s0)),(1,.int .i64 aC)],[]⟩
def Hq (k_1 : (List Int) → Option (List Int)) (back : (List aS) → Int → Int → (List Int) → Option (List Int)) (n : Nat) (t22 : List aS) (t23 t24 : Int) (b32 : List Int) : Option (List Int) :=
 if decide (t24 < t23) then
 (idx t22 t24).bind fun x2 =>
 (app b32 [x2.ax]).bind fun x11 =>
 back t22 t23 (w64 (t24 + 1)) x11
 else
 k_1 b32
theorem alI {k_1} (aG : K1 (A32 [1, 1, 1, 1]) Ja k_1) {back} (aw : K4 (A32 [0, 1, 0, 1, 1, 1]) Jb back) (n : Nat) : K4 (A32 [0, 1, 0, 1, 1, 1]) Jb (Hq k_1 back n) := fun t22 t23 t24 b32 r h =>
 ie h (fun c0 h =>
 be h fun x2 hx2 h =>
 be h fun x11 cM h =>
 ra (aw h) [(0, eb c0), (0, R76.idx hx2), (7, R3.app cM (R3.srW [x2.ax]))]) (fun c0 h =>
 ra (aG h) [(0, eb c0)])
def xT (k_1:(List Int)→Option (List Int)):Nat→(List aS)→Int→Int→(List Int)→Option (List Int)
 |0,_,_,_,_=>none
 |n+1,t22,t23,t24,b32=>Hq k_1 (xT k_1 n) n t22 t23 t24 b32
theorem adq {k_1} (aG:K1 (A32 [1,1,1,1]) Ja k_1):∀n:Nat,K4 (A32 [0,1,0,1,1,1]) Jb (xT k_1 n)
 |0=>fun _ _ _ _ _ h=>nz h
 |n+1=>fun _ _ _ _ _ h=>alI aG (adq aG n) n h
def Ho (n : Nat) (b32 : List Int) : Option (List Int) :=
 some b32
theorem alH (n : Nat) : K1 (A32 [1, 1, 1, 1]) Ja (Ho n) := fun b32 r h =>
 rr h [(2, .ren 32 200000)]
def Te (n : Nat) (s0 : aa) (aC : Int) : Option (List Int) :=
 if decide (aC < 0) then
 some []
 else
 if !decide (aC < (s0.J.length : Int)) then
 some []
 else
 (idx s0.J aC).bind fun x16 =>
 xT (Ho n) n x16.af (x16.af.length : Int) 0 []
theorem alG (n : Nat) : K2 (A32 []) UA (Te n) := fun s0 aC r h =>
 ie h (fun c0 h =>
 rr h [(3, eb c0), (3, .born [4] [] 200000 true 3 1)]) (fun c0 h =>
 ie h (fun c1 h =>
 rr h [(3, eb c0), (4, .eqv (R62.au s0.J)), (0, eb c1), (2, .born [4] [] 200000 true 3 1)]) (fun c1 h =>
 be h fun x16 dz h =>
 ra (adq (alH n) n h) [(3, eb c0), (4, .eqv (R62.au s0.J)), (0, eb c1), (5, R62.idx dz), (2, .eqv (R76.au x16.af)), (1, .born [5] [] 32 true 3 1)]))
def F32 (n:Nat) (s0:aa) (aC:Int):Option (List Int):=Te n s0 aC
theorem jN (n:Nat):K2 C32 UA (F32 n):=fun _ _ _ h=>ca (X:=x32) (alG n h)
def res9 (r:(aa×aj)):AV:=.agg (aV r.1)
def acv (r:(aa×aj)):List (Nat×Bx):= [(0,.flat 74 (bA r.2))]
def x9:=fx E0 Tryz.f9 [0] [0]
def A9:=Ax x9 res9 acv
def C9:=Cx E0 9 res9 acv
def aiB (b0:aj) (b2 b5:aa) (b32:List ai):LS:=⟨[(0,.loc 0 0),(2,.loc 2 0),(5,.loc 5 0)],[(0,.flat 74 (bA b0)),(2,.flat 26 [.int .i64 0,.aY]),(5,.flat 26 [.int .i64 b5.bE,.ms 32 5 0 b32.length]),(32,.rows false 63 5 (cO b32))]⟩
def aiA (n3:Int) (b0:aj) (b2 b5:aa) (b32:List ai):LS:=⟨[(0,.loc 0 0),(2,.loc 2 0),(3,.int .i64 n3),(5,.loc 5 0)],[(0,.flat 74 (bA b0)),(2,.flat 26 [.int .i64 0,.aY]),(5,.flat 26 [.int .i64 b5.bE,.ms 32 5 0 b32.length]),(32,.rows false 63 5 (cO b32))]⟩
def aiz (n3:Int) (b0:aj) (b2 b5:aa) (b32:List ai):LS:=⟨[(0,.loc 0 0),(2,.loc 2 0),(3,.int .i64 n3),(5,.loc 5 0)],[(0,.flat 74 (bA b0)),(2,.flat 26 [.int .i64 0,.aY]),(5,.flat 26 [.int .i64 b5.bE,.ms 32 5 0 b32.length]),(32,.rows false 63 5 (cO b32))]⟩
def aiy (n3 id4:Int) (b0:aj) (b2:aa):LS:=⟨[(0,.loc 0 0),(2,.loc 2 0),(3,.int .i64 n3),(4,.int .i64 id4)],[(0,.flat 74 (bA b0)),(2,.flat 26 [.int .i64 0,.aY])]⟩
def aaZ (c0:aj):LS:=⟨[(0,.loc 0 0)],[(0,.flat 74 (bA c0))]⟩
def zJ (n : Nat) (b0 : aj) (b2 b5 : aa) (b32 : List ai) : Option (aa × aj) :=
 (F29 n b0 3).bind fun x2 =>
 if x2.1 then
 (F32 n (aa.mk b5.bE b32) 1).bind fun x8 =>
 (F31 n x2.2 x8 [] 1).bind fun x10 =>
 (bnd b32.length 1).bind fun x13 =>
 (b32[0 + x13]?).bind fun x16 =>
 (setAt b32 (0 + x13) (ai.mk x16.br x16.af x16.av x16.bg [x10.1])).bind fun z18 =>
 some ((aa.mk b5.bE z18), x10.2)
 else
 some ((aa.mk b5.bE b32), x2.2)
theorem aaG (n : Nat) : K4 (A9 [1, 1, 1, 1, 1, 1, 1, 1, 1]) aiB (zJ n) := fun b0 b2 b5 b32 r h =>
 be h fun x2 hx2 h =>
 ie h (fun c0_ h =>
 be h fun x8 hx8 h =>
 be h fun x10 cg h =>
 be h fun x13 bY h =>
 be h fun x16 dz h =>
 be h fun z18 DF h =>
 rr h [(1, .call (cb (fk n hx2) c0_) [] [(0, 0)] []), (4, .call (cd (e := 3) (z := true) (Q := aX x8) (bW.lend (k := 700000) (z := false) (e := 63) (s := 5) (Q := cO b32) (n := b32.length) (xs := [.agg [.int .i64 b5.bE, .ms 700000 5 0 b32.length], .int .i64 1]) (jN n hx8) (by kernel_rfl) (R62.len b32) (by kernel_rfl) (by kernel_rfl) (R3.qA (fun _ => by kernel_rfl) x8)) (R3.len x8)) [] [(32, 700000)] []), (0, .call (ev31 n cg) [.one .same, .one (.sl 0 0), .one (.sl 3 1)] [(0, 0)] []), (0, .laid (congrArg (fun q_ => Bx.rows false 84 13 q_) (R83.map [x10.1]).symm)), (0, cY bY), (1, R62.hol 4 dz), (0, R83.frz 82 [x10.1]), (0, R62.clo 32 4 (.slice 84 13 (fw [x10.1])) .undef dz DF (by kernel_rfl)), (2, .seq 77 (congrArg (fun n_ => (AV.ms 32 5 0 n_)) ((cy DF).symm))), (0, .seq 79 (congrArg (fun n_ => (AV.agg [.int .i64 b5.bE, .ms 32 5 0 n_])) ((cy DF).symm))), (0, .seq 85 (congrArg (fun n_ => (AV.agg [.int .i64 b5.bE, .ms 32 5 0 n_])) ((cy DF).symm))), (0, .beq 2 (congrArg (fun n_ => (Bx.flat 26 [.int .i64 b5.bE, .ms 32 5 0 n_])) ((cy DF).symm))), (0, .beq 5 (congrArg (fun n_ => (Bx.flat 26 [.int .i64 b5.bE, .ms 32 5 0 n_])) ((cy DF).symm))), (0, R62.frz 32 z18)]) (fun c0_ h =>
 rr h [(1, .call (cb (fk n hx2) c0_) [] [(0, 0)] []), (2, R62.frz 32 b32)])
def wC (n : Nat) (n3 : Int) (b0 : aj) (b2 b5 : aa) (b32 : List ai) : Option (aa × aj) :=
 if decide (3 < n3) then
 (F29 n b0 3).bind fun x5 =>
 if x5.1 then
 (bnd b32.length 3).bind fun x13 =>
 (b32[0 + x13]?).bind fun x16 =>
 (setAt b32 (0 + x13) (ai.mk x16.br x16.af x16.av [(aF.mk [0] 1)] x16.bV)).bind fun z17 =>
 zJ n x5.2 (aa.mk 0 []) (aa.mk b5.bE z17) z17
 else
 zJ n x5.2 (aa.mk 0 []) (aa.mk b5.bE b32) b32
 else
 zJ n b0 (aa.mk 0 []) (aa.mk b5.bE b32) b32
theorem aaF (n : Nat) : K5 (A9 [1, 1, 1, 1, 1, 1, 1, 1]) aiA (wC n) := fun n3 b0 b2 b5 b32 r h =>
 ie h (fun c0_ h =>
 be h fun x5 hx5 h =>
 ie h (fun c1 h =>
 be h fun x13 bY h =>
 be h fun x16 dz h =>
 be h fun z17 KG h =>
 ra (aaG n h) [(1, eb c0_), (2, .call (cb (fk n hx5) c1) [] [(0, 0)] []), (5, R3.frz 69 [0]), (1, cY bY), (1, R79.frz 71 [(aF.mk [0] 1)]), (0, R62.sto 3 [.slice 80 2 (ib [(aF.mk [0] 1)])] dz KG (by kernel_rfl)), (0, .beq 5 (congrArg (fun n_ => (Bx.flat 26 [.int .i64 b5.bE, .ms 32 5 0 n_])) ((cy KG).symm)))]) (fun c1 h =>
 ra (aaG n h) [(1, eb c0_), (2, .call (cb (fk n hx5) c1) [] [(0, 0)] [])])) (fun c0_ h =>
 ra (aaG n h) [(1, eb c0_)])
def zI (n : Nat) (n3 : Int) (b0 : aj) (b2 b5 : aa) (b32 : List ai) : Option (aa × aj) :=
 if decide (2 < n3) then
 (F29 n b0 3).bind fun x5 =>
 if x5.1 then
 (bnd b32.length 2).bind fun x13 =>
 (b32[0 + x13]?).bind fun x16 =>
 (setAt b32 (0 + x13) (ai.mk x16.br x16.af x16.av [(aF.mk [0] 0)] x16.bV)).bind fun z17 =>
 wC n n3 x5.2 (aa.mk 0 []) (aa.mk b5.bE z17) z17
 else
 wC n n3 x5.2 (aa.mk 0 []) (aa.mk b5.bE b32) b32
 else
 wC n n3 b0 (aa.mk 0 []) (aa.mk b5.bE b32) b32
theorem b9_2 (n : Nat) : K5 (A9 [1, 1, 1, 1, 1, 1, 1]) aiz (zI n) := fun n3 b0 b2 b5 b32 r h =>
 ie h (fun c0_ h =>
 be h fun x5 hx5 h =>
 ie h (fun c1 h =>
 be h fun x13 bY h =>
 be h fun x16 dz h =>
 be h fun z17 KG h =>
 ra (aaF n h) [(1, eb c0_), (2, .call (cb (fk n hx5) c1) [] [(0, 0)] []), (5, R3.frz 56 [0]), (1, cY bY), (1, R79.frz 58 [(aF.mk [0] 0)]), (0, R62.sto 3 [.slice 80 2 (ib [(aF.mk [0] 0)])] dz KG (by kernel_rfl)), (0, .beq 5 (congrArg (fun n_ => (Bx.flat 26 [.int .i64 b5.bE, .ms 32 5 0 n_])) ((cy KG).symm)))]) (fun c1 h =>
 ra (aaF n h) [(1, eb c0_), (2, .call (cb (fk n hx5) c1) [] [(0, 0)] [])])) (fun c0_ h =>
 ra (aaF n h) [(1, eb c0_)])
def MK (n : Nat) (n3 id4 : Int) (b0 : aj) (b2 : aa) : Option (aa × aj) :=
 (F24 n b0 3).bind fun x2 =>
 (F30 n (ByteArray.mk #[105, 100]) 4).bind fun x4 =>
 (F30 n (ByteArray.mk #[111, 119, 110, 101, 114]) 4).bind fun x6 =>
 (F30 n (ByteArray.mk #[105, 100]) id4).bind fun x11 =>
 (F30 n (ByteArray.mk #[112, 114, 111, 106, 101, 99, 116]) 4).bind fun x13 =>
 (F30 n (ByteArray.mk #[116, 105, 116, 108, 101]) 5).bind fun x15 =>
 (F30 n (ByteArray.mk #[100, 111, 110, 101]) 3).bind fun x17 =>
 (F30 n (ByteArray.mk #[112, 114, 111, 106, 101, 99, 116]) 4).bind fun x21 =>
 (F30 n (ByteArray.mk #[112, 101, 114, 115, 111, 110]) 4).bind fun x23 =>
 (F30 n (ByteArray.mk #[116, 97, 115, 107]) id4).bind fun x28 =>
 (hJ 4 n3).bind fun x39 =>
 (F29 n x2.2 2).bind fun x44 =>
 if x44.1 then
 (bnd x39 1).bind fun x51 =>
 ([(ai.mk (ByteArray.mk #[112, 114, 111, 106, 101, 99, 116, 115]) [x4, x6] 1 [] []), (ai.mk (ByteArray.mk #[116, 97, 115, 107, 115]) [x11, x13, x15, x17] 1 [] []), (ai.mk (ByteArray.mk #[109, 101, 109, 98, 101, 114, 115]) [x21, x23] 2 [] []), (ai.mk (ByteArray.mk #[97, 114, 99, 104, 105, 118, 101, 100]) [x28] 1 [] [])][0 + x51]?).bind fun x54 =>
 (setAt [(ai.mk (ByteArray.mk #[112, 114, 111, 106, 101, 99, 116, 115]) [x4, x6] 1 [] []), (ai.mk (ByteArray.mk #[116, 97, 115, 107, 115]) [x11, x13, x15, x17] 1 [] []), (ai.mk (ByteArray.mk #[109, 101, 109, 98, 101, 114, 115]) [x21, x23] 2 [] []), (ai.mk (ByteArray.mk #[97, 114, 99, 104, 105, 118, 101, 100]) [x28] 1 [] [])] (0 + x51) (ai.mk x54.br x54.af x54.av [(aF.mk [1] 0)] x54.bV)).bind fun z55 =>
 zI n n3 x44.2 (aa.mk 0 []) (aa.mk x2.1 (z55.take x39)) (z55.take x39)
 else
 zI n n3 x44.2 (aa.mk 0 []) (aa.mk x2.1 ([(ai.mk (ByteArray.mk #[112, 114, 111, 106, 101, 99, 116, 115]) [x4, x6] 1 [] []), (ai.mk (ByteArray.mk #[116, 97, 115, 107, 115]) [x11, x13, x15, x17] 1 [] []), (ai.mk (ByteArray.mk #[109, 101, 109, 98, 101, 114, 115]) [x21, x23] 2 [] []), (ai.mk (ByteArray.mk #[97, 114, 99, 104, 105, 118, 101, 100]) [x28] 1 [] [])].take x39)) ([(ai.mk (ByteArray.mk #[112, 114, 111, 106, 101, 99, 116, 115]) [x4, x6] 1 [] []), (ai.mk (ByteArray.mk #[116, 97, 115, 107, 115]) [x11, x13, x15, x17] 1 [] []), (ai.mk (ByteArray.mk #[109, 101, 109, 98, 101, 114, 115]) [x21, x23] 2 [] []), (ai.mk (ByteArray.mk #[97, 114, 99, 104, 105, 118, 101, 100]) [x28] 1 [] [])].take x39)
theorem b9_3 (n : Nat) : K4 (A9 [1, 1, 1, 1]) aiy (MK n) := fun n3 id4 b0 b2 r h =>
 be h fun x2 hx2 h =>
 be h fun x4 hx4 h =>
 be h fun x6 hx6 h =>
 be h fun x11 cM h =>
 be h fun x13 bY h =>
 be h fun x15 cK h =>
 be h fun x17 eO h =>
 be h fun x21 jc h =>
 be h fun x23 eN h =>
 be h fun x28 jb h =>
 be h fun x39 vC h =>
 be h fun x44 DG h =>
 ie h (fun c0_ h =>
 be h fun x51 ZR h =>
 be h fun x54 ZQ h =>
 be h fun z55 hz55 h =>
 ra (b9_2 n h) [(1, .call (bO n hx2) [] [(0, 0)] []), (0, .call (jx n hx4) [] [] []), (0, .call (jx n hx6) [] [] []), (3, .call (jx n cM) [] [] []), (0, .call (jx n bY) [] [] []), (0, .call (jx n cK) [] [] []), (0, .call (jx n eO) [] [] []), (2, .call (jx n jc) [] [] []), (0, .call (jx n eN) [] [] []), (3, .call (jx n jb) [] [] []), (2, R76.frz 15 [x4, x6]), (0, .norm [(16, .agg [.same, .same, .same, .sl 80 2, .sl 84 13])] []), (0, R76.frz 22 [x11, x13, x15, x17]), (0, .norm [(23, .agg [.same, .same, .same, .sl 80 2, .sl 84 13])] []), (0, R76.frz 26 [x21, x23]), (0, .norm [(27, .agg [.same, .same, .same, .sl 80 2, .sl 84 13])] []), (0, R76.frz 30 [x28]), (0, .norm [(31, .agg [.same, .same, .same, .sl 80 2, .sl 84 13])] []), (7, R62.hJ (xs := [(ai.mk (ByteArray.mk #[112, 114, 111, 106, 101, 99, 116, 115]) [x4, x6] 1 [] []), (ai.mk (ByteArray.mk #[116, 97, 115, 107, 115]) [x11, x13, x15, x17] 1 [] []), (ai.mk (ByteArray.mk #[109, 101, 109, 98, 101, 114, 115]) [x21, x23] 2 [] []), (ai.mk (ByteArray.mk #[97, 114, 99, 104, 105, 118, 101, 100]) [x28] 1 [] [])]) vC (Nat.le_of_eq rfl)), (3, .call (cb (fk n DG) c0_) [] [(0, 0)] []), (4, R3.frz 43 [1]), (1, cY ZR), (1, R79.frz 45 [(aF.mk [1] 0)]), (0, R62.sto 3 [.slice 80 2 (ib [(aF.mk [1] 0)])] ZQ hz55 (by kernel_rfl)), (0, .shr 32 (R62.take z55 x39)), (0, .beq 5 (congrArg (fun n_ => (Bx.flat 26 [.int .i64 x2.1, .ms 32 5 0 n_])) ((uS (xs := z55) (Nat.le_trans (Nat.le_trans (jP vC).2 (Nat.le_of_eq rfl)) (Nat.le_of_eq (cy hz55).symm))).symm)))]) (fun c0_ h =>
 ra (b9_2 n h) [(1, .call (bO n hx2) [] [(0, 0)] []), (0, .call (jx n hx4) [] [] []), (0, .call (jx n hx6) [] [] []), (3, .call (jx n cM) [] [] []), (0, .call (jx n bY) [] [] []), (0, .call (jx n cK) [] [] []), (0, .call (jx n eO) [] [] []), (2, .call (jx n jc) [] [] []), (0, .call (jx n eN) [] [] []), (3, .call (jx n jb) [] [] []), (2, R76.frz 15 [x4, x6]), (0, .norm [(16, .agg [.same, .same, .same, .sl 80 2, .sl 84 13])] []), (0, R76.frz 22 [x11, x13, x15, x17]), (0, .norm [(23, .agg [.same, .same, .same, .sl 80 2, .sl 84 13])] []), (0, R76.frz 26 [x21, x23]), (0, .norm [(27, .agg [.same, .same, .same, .sl 80 2, .sl 84 13])] []), (0, R76.frz 30 [x28]), (0, .norm [(31, .agg [.same, .same, .same, .sl 80 2, .sl 84 13])] []), (7, R62.hJ (xs := [(ai.mk (ByteArray.mk #[112, 114, 111, 106, 101, 99, 116, 115]) [x4, x6] 1 [] []), (ai.mk (ByteArray.mk #[116, 97, 115, 107, 115]) [x11, x13, x15, x17] 1 [] []), (ai.mk (ByteArray.mk #[109, 101, 109, 98, 101, 114, 115]) [x21, x23] 2 [] []), (ai.mk (ByteArray.mk #[97, 114, 99, 104, 105, 118, 101, 100]) [x28] 1 [] [])]) vC (Nat.le_of_eq rfl)), (3, .call (cb (fk n DG) c0_) [] [(0, 0)] []), (0, .shr 32 (R62.take [(ai.mk (ByteArray.mk #[112, 114, 111, 106, 101, 99, 116, 115]) [x4, x6] 1 [] []), (ai.mk (ByteArray.mk #[116, 97, 115, 107, 115]) [x11, x13, x15, x17] 1 [] []), (ai.mk (ByteArray.mk #[109, 101, 109, 98, 101, 114, 115]) [x21, x23] 2 [] []), (ai.mk (ByteArray.mk #[97, 114, 99, 104, 105, 118, 101, 100]) [x28] 1 [] [])] x39)), (0, .beq 5 (congrArg (fun n_ => (Bx.flat 26 [.int .i64 x2.1, .ms 32 5 0 n_])) ((uS (xs := [(ai.mk (ByteArray.mk #[112, 114, 111, 106, 101, 99, 116, 115]) [x4, x6] 1 [] []), (ai.mk (ByteArray.mk #[116, 97, 115, 107, 115]) [x11, x13, x15, x17] 1 [] []), (ai.mk (ByteArray.mk #[109, 101, 109, 98, 101, 114, 115]) [x21, x23] 2 [] []), (ai.mk (ByteArray.mk #[97, 114, 99, 104, 105, 118, 101, 100]) [x28] 1 [] [])]) (Nat.le_trans (jP vC).2 (Nat.le_of_eq rfl))).symm)))])
def aaQ (n : Nat) (c0 : aj) : Option (aa × aj) :=
 (F24 n c0 3).bind fun x3 =>
 (F29 n x3.2 5).bind fun x9_ =>
 if x9_.1 then
 MK n (w64 (2 + x3.1)) 5 x9_.2 (aa.mk 0 [])
 else
 MK n (w64 (2 + x3.1)) 4 x9_.2 (aa.mk 0 [])
theorem b9_4 (n : Nat) : K1 (A9 []) aaZ (aaQ n) := fun c0 r h =>
 be h fun x3 hx3 h =>
 be h fun x9_ hx9 h =>
 ie h (fun c0_ h =>
 ra (b9_3 n h) [(2, .call (bO n hx3) [] [(0, 0)] []), (4, .call (cb (fk n hx9) c0_) [] [(0, 0)] [])]) (fun c0_ h =>
 ra (b9_3 n h) [(2, .call (bO n hx3) [] [(0, 0)] []), (4, .call (cb (fk n hx9) c0_) [] [(0, 0)] [])])
def F9 (n:Nat) (c0:aj):Option (aa×aj):=aaQ n c0
theorem ev9 (n:Nat):K1 C9 aaZ (F9 n):=fun _ _ h=>ca (X:=x9) (b9_4 n h)
def abZ (r:((List I)×aj)):AV:=.ms 200000 3 0 r.1.length
def Wt (r:((List I)×aj)):List (Nat×Bx):= [(0,.flat 74 (bA r.2)),(200000,.rows true 65 3 (aI r.1))]
def x33:=fx E0 Tryz.f33 [0] [0,200000]
def A33:=Ax x33 abZ Wt
def C33:=Cx E0 33 abZ Wt
def afW (bS aM k11:Int) (t12:List Int) (t13 t14:Int) (t41:Bool) (b0:aj) (b9:List I):LS:=⟨[(0,.loc 0 0),(2,.int .i64 bS),(3,.int .i64 aM),(9,.ms 9 3 0 b9.length),(11,.int .i64 k11),(12,.slice 3 1 (aX t12)),(13,.int .i64 t13),(14,.int .i64 t14),(41,.bool t41)],[(0,.flat 74 (bA b0)),(9,.rows true 65 3 (aI b9))]⟩
def Uz (bS aM:Int) (t12:List Int) (t13 t14:Int) (b0:aj) (b9:List I):LS:=⟨[(0,.loc 0 0),(2,.int .i64 bS),(3,.int .i64 aM),(9,.ms 9 3 0 b9.length),(12,.slice 3 1 (aX t12)),(13,.int .i64 t13),(14,.int .i64 t14)],[(0,.flat 74 (bA b0)),(9,.rows true 65 3 (aI b9))]⟩
def Ag (bS aM:Int) (t12:List Int) (t13 t14:Int) (b0:aj) (b9:List I):LS:=⟨[(0,.loc 0 0),(2,.int .i64 bS),(3,.int .i64 aM),(9,.ms 9 3 0 b9.length),(12,.slice 3 1 (aX t12)),(13,.int .i64 t13),(14,.int .i64 t14)],[(0,.flat 74 (bA b0)),(9,.rows true 65 3 (aI b9))]⟩
def I9 (b0:aj) (b9:List I):LS:=⟨[(9,.ms 9 3 0 b9.length)],[(0,.flat 74 (bA b0)),(9,.rows true 65 3 (aI b9))]⟩
def Uy (c0:aj) (dk:List Int) (bS aM:Int):LS:=⟨[(0,.loc 0 0),(1,.slice 3 1 (aX dk)),(2,.int .i64 bS),(3,.int .i64 aM)],[(0,.flat 74 (bA c0))]⟩
def ri (k_1 : Int → Int → (List Int) → Int → Int → aj → (List I) → Option ((List I) × aj)) (n : Nat) (bS aM k11 : Int) (t12 : List Int) (t13 t14 : Int) (t41 : Bool) (b0 : aj) (b9 : List I) : Option ((List I) × aj) :=
 if t41 then
 (app b9 [(I.mk 1 0 ByteArray.empty)]).bind fun x4 =>
 k_1 bS aM t12 t13 t14 b0 x4
 else
 (F74 n b0 k11).bind fun x4 =>
 (app b9 [x4.1]).bind fun x7 =>
 k_1 bS aM t12 t13 t14 x4.2 x7
theorem BK {k_1} (aG : K7 (A33 [1, 1, 1, 0, 0, 1, 0, 1, 1]) Uz k_1) (n : Nat) : K9 (A33 [1, 1, 1, 0, 1, 0, 0, 1, 1, 0, 0, 1, 0, 1, 1]) afW (ri k_1 n) := fun bS aM k11 t12 t13 t14 t41 b0 b9 r h =>
 ie h (fun c0_ g0 => by subst c0_; exact (
 be g0 fun x4 hx4 g0 =>
 ra (aG g0) [(3, R64.app hx4 (R64.srW [(I.mk 1 0 ByteArray.empty)]))])) (fun c0_ g0 => by subst c0_; exact (
 be g0 fun x4 hx4 g0 =>
 be g0 fun x7 hx7 g0 =>
 ra (aG g0) [(3, .call (Lh n hx4) [] [(0, 0)] []), (1, R64.app hx7 (R64.srW [x4.1]))]))
def oK (k_2 : Int → Int → (List Int) → Int → Int → aj → (List I) → Option ((List I) × aj)) (n : Nat) (bS aM : Int) (t12 : List Int) (t13 t14 : Int) (b0 : aj) (b9 : List I) : Option ((List I) × aj) :=
 k_2 bS aM t12 t13 (w64 (t14 + 1)) b0 b9
theorem xl {k_2} (bP : K7 (A33 [0, 1, 0, 1, 1]) Ag k_2) (n : Nat) : K7 (A33 [1, 1, 1, 0, 0, 1, 0, 1, 1]) Uz (oK k_2 n) := fun bS aM t12 t13 t14 b0 b9 r h =>
 ra (bP h) []
def Hn (k_3 : aj → (List I) → Option ((List I) × aj)) (back : Int → Int → (List Int) → Int → Int → aj → (List I) → Option ((List I) × aj)) (n : Nat) (bS aM : Int) (t12 : List Int) (t13 t14 : Int) (b0 : aj) (b9 : List I) : Option ((List I) × aj) :=
 if decide (t14 < t13) then
 (idx t12 t14).bind fun x3 =>
 if !decide (t14 < bS) then
 if aM != 1 then
 (F29 n b0 5).bind fun x17 =>
 if x17.1 then
 (app b9 [(I.mk 2 0 ByteArray.empty)]).bind fun x24 =>
 oK back n bS aM t12 t13 t14 x17.2 x24
 else
 if aM == 3 then
 (F29 n x17.2 5).bind fun x30 =>
 ri (oK back n) n bS aM x3 t12 t13 t14 x30.1 x30.2 b9
 else
 ri (oK back n) n bS aM x3 t12 t13 t14 false x17.2 b9
 else
 if aM == 3 then
 (F29 n b0 5).bind fun x27 =>
 ri (oK back n) n bS aM x3 t12 t13 t14 x27.1 x27.2 b9
 else
 ri (oK back n) n bS aM x3 t12 t13 t14 false b0 b9
 else
 ri (oK back n) n bS aM x3 t12 t13 t14 false b0 b9
 else
 k_3 b0 b9
theorem alF {k_3} (bw : K2 (A33 [1, 1, 1]) I9 k_3) {back} (aw : K7 (A33 [0, 1, 0, 1, 1]) Ag back) (n : Nat) : K7 (A33 [0, 1, 0, 1, 1]) Ag (Hn k_3 back n) := fun bS aM t12 t13 t14 b0 b9 r h =>
 ie h (fun c0_ h =>
 be h fun x3 hx3 h =>
 ie h (fun c1 h =>
 ie h (fun c2 h =>
 be h fun x17 eO h =>
 ie h (fun c3 h =>
 be h fun x24 fg h =>
 ra (xl aw n h) [(0, eb c0_), (1, R3.idx hx3), (5, eb c1), (2, eb c2), (3, .call (cb (fk n eO) c3) [] [(0, 0)] []), (5, R64.app fg (R64.srW [(I.mk 2 0 ByteArray.empty)]))]) (fun c3 h =>
 ie h (fun c4 h =>
 be h fun x30 pK h =>
 ra (BK (xl aw n) n h) [(0, eb c0_), (1, R3.idx hx3), (5, eb c1), (2, eb c2), (3, .call (cb (fk n eO) c3) [] [(0, 0)] []), (4, eb c1), (2, eb c4), (3, .call (fk n pK) [] [(0, 0)] [])]) (fun c4 h =>
 ra (BK (xl aw n) n h) [(0, eb c0_), (1, R3.idx hx3), (5, eb c1), (2, eb c2), (3, .call (cb (fk n eO) c3) [] [(0, 0)] []), (4, eb c1), (2, eb c4)]))) (fun c2 h =>
 ie h (fun c3 h =>
 be h fun x27 nL h =>
 ra (BK (xl aw n) n h) [(0, eb c0_), (1, R3.idx hx3), (5, eb c1), (2, eb c2), (6, eb c1), (2, eb c3), (3, .call (fk n nL) [] [(0, 0)] [])]) (fun c3 h =>
 ra (BK (xl aw n) n h) [(0, eb c0_), (1, R3.idx hx3), (5, eb c1), (2, eb c2), (6, eb c1), (2, eb c3)]))) (fun c1 h =>
 ra (BK (xl aw n) n h) [(0, eb c0_), (1, R3.idx hx3), (5, eb c1), (7, eb c1)])) (fun c0_ h =>
 ra (bw h) [(0, eb c0_)])
def uy (k_3:aj→(List I)→Option ((List I)×aj)):Nat→Int→Int→(List Int)→Int→Int→aj→(List I)→Option ((List I)×aj)
 |0,_,_,_,_,_,_,_=>none
 |n+1,bS,aM,t12,t13,t14,b0,b9=>Hn k_3 (uy k_3 n) n bS aM t12 t13 t14 b0 b9
theorem adp {k_3} (bw:K2 (A33 [1,1,1]) I9 k_3):∀n:Nat,K7 (A33 [0,1,0,1,1]) Ag (uy k_3 n)
 |0=>fun _ _ _ _ _ _ _ _ h=>nz h
 |n+1=>fun _ _ _ _ _ _ _ _ h=>alF bw (adp bw n) n h
def B8 (n : Nat) (b0 : aj) (b9 : List I) : Option ((List I) × aj) :=
 some (b9, b0)
theorem alE (n : Nat) : K2 (A33 [1, 1, 1]) I9 (B8 n) := fun b0 b9 r h =>
 rr h [(2, .ren 9 200000)]
def aeq (n : Nat) (c0 : aj) (dk : List Int) (bS aM : Int) : Option ((List I) × aj) :=
 uy (B8 n) n bS aM dk (dk.length : Int) 0 c0 []
theorem alD (n : Nat) : K4 (A33 []) Uy (aeq n) := fun c0 dk bS aM r h =>
 ra (adp (alE n) n h) [(3, .eqv (R3.au dk)), (1, .born [9] [] 9 true 65 3)]
def F33 (n:Nat) (c0:aj) (dk:List Int) (bS aM:Int):Option ((List I)×aj):=aeq n c0 dk bS aM
theorem Rp (n:Nat):K4 C33 Uy (F33 n):=fun _ _ _ _ _ h=>ca (X:=x33) (alD n h)
def abI (r:(List I)):AV:=.ms 200000 3 0 r.length
def Wb (r:(List I)):List (Nat×Bx):= [(200000,.rows true 65 3 (aI r))]
def x54:=fx E0 Tryz.f54 [] [200000]
def A54:=Ax x54 abI Wb
def C54:=Cx E0 54 abI Wb
def Uh (r0:List I):LS:=⟨[(0,.slice 65 3 (aI r0))],[]⟩
def S0 (n : Nat) (r0 : List I) : Option (List I) :=
 (app [] r0).bind fun x3 =>
 some x3
theorem akH (n : Nat) : K1 (A54 []) Uh (S0 n) := fun r0 r h =>
 be h fun x3 hx3 h =>
 rr h [(2, .born [] [] 4 true 65 3), (0, R64.app (xs := []) hx3 .dat), (1, .ren 4 200000)]
def F54 (n:Nat) (r0:List I):Option (List I):=S0 n r0
theorem pY (n:Nat):K1 C54 Uh (F54 n):=fun _ _ h=>ca (X:=x54) (akH n h)
def abY (r:(List I)):AV:=.ms 200000 3 0 r.length
def Ws (r:(List I)):List (Nat×Bx):= [(200000,.rows true 65 3 (aI r))]
def x34:=fx E0 Tryz.f34 [] [200000]
def A34:=Ax x34 abY Ws
def C34:=Cx E0 34 abY Ws
def Ux (s0:aa) (aC:Int) (bN:List I):LS:=⟨[(0,.agg (aV s0)),(1,.int .i64 aC),(2,.slice 65 3 (aI bN))],[]⟩
def Td (n : Nat) (s0 : aa) (aC : Int) (bN : List I) : Option (List I) :=
 if decide (aC < 0) then
 some []
 else
 if !decide (aC < (s0.J.length : Int)) then
 some []
 else
 (idx s0.J aC).bind fun x16 =>
 (cut bN none (some (if 0 < (if (bN.length : Int) < x16.av then (bN.length : Int) else x16.av) then (if (bN.length : Int) < x16.av then (bN.length : Int) else x16.av) else 0))).bind fun x24 =>
 (F54 n x24).bind fun x26 =>
 some x26
theorem alC (n : Nat) : K3 (A34 []) Ux (Td n) := fun s0 aC bN r h =>
 ie h (fun c0 h =>
 rr h [(3, eb c0), (3, .born [6] [] 200000 true 65 3)]) (fun c0 h =>
 ie h (fun c1 h =>
 rr h [(3, eb c0), (4, .eqv (R62.au s0.J)), (0, eb c1), (2, .born [6] [] 200000 true 65 3)]) (fun c1 h =>
 be h fun x16 dz h =>
 be h fun x24 fg h =>
 be h fun x26 iw h =>
 rr h [(3, eb c0), (4, .eqv (R62.au s0.J)), (0, eb c1), (5, R62.idx dz), (3, .eqv (R64.au bN)), (2, R64.cut fg), (0, .call (pY n iw) [] [] [(28, 200000)]), (1, .ren 28 200000)]))
def F34 (n:Nat) (s0:aa) (aC:Int) (bN:List I):Option (List I):=Td n s0 aC bN
theorem nQ (n:Nat):K3 C34 Ux (F34 n):=fun _ _ _ _ h=>ca (X:=x34) (alC n h)
def abD (r:Int):AV:=.int .i64 r
def V6 (r:Int):List (Nat×Bx):= []
def x61:=fx E0 Tryz.f61 [] []
def A61:=Ax x61 abD V6
def C61:=Cx E0 61 abD V6
def Uc (a0 b1:I):LS:=⟨[(0,.agg (fF a0)),(1,.agg (fF b1))],[]⟩
def SU (n : Nat) (a0 b1 : I) : Option Int :=
 if decide (a0.ax < b1.ax) then
 some (-1)
 else
 if decide (b1.ax < a0.ax) then
 some 1
 else
 if decide (a0.bQ < b1.bQ) then
 some (-1)
 else
 if decide (b1.bQ < a0.bQ) then
 some 1
 else
 if Op.bytesLess a0.bq.toList b1.bq.toList then
 some (-1)
 else
 if !(Op.bytesLess a0.bq.toList b1.bq.toList || a0.bq.toList == b1.bq.toList) then
 some 1
 else
 some 0
theorem akw (n : Nat) : K2 (A61 []) Uc (SU n) := fun a0 b1 r h =>
 ie h (fun c0 h =>
 rr h [(7, eb c0)]) (fun c0 h =>
 ie h (fun c1 h =>
 rr h [(7, eb c0), (5, eb c1)]) (fun c1 h =>
 ie h (fun c2 h =>
 rr h [(7, eb c0), (5, eb c1), (5, eb c2)]) (fun c2 h =>
 ie h (fun c3 h =>
 rr h [(7, eb c0), (5, eb c1), (5, eb c2), (5, eb c3)]) (fun c3 h =>
 ie h (fun c4 h =>
 rr h [(7, eb c0), (5, eb c1), (5, eb c2), (5, eb c3), (5, eb c4)]) (fun c4 h =>
 ie h (fun c5 h =>
 rr h [(7, eb c0), (5, eb c1), (5, eb c2), (5, eb c3), (5, eb c4), (5, eb c5)]) (fun c5 h =>
 rr h [(7, eb c0), (5, eb c1), (5, eb c2), (5, eb c3), (5, eb c4), (5, eb c5)]))))))
def F61 (n:Nat) (a0 b1:I):Option Int:=SU n a0 b1
theorem ev61 (n:Nat):K2 C61 Uc (F61 n):=fun _ _ _ h=>ca (X:=x61) (akw n h)
def ach (r:Int):AV:=.int .i64 r
def WA (r:Int):List (Nat×Bx):= []
def x22:=fx E0 Tryz.f22 [] []
def A22:=Ax x22 ach WA
def C22:=Cx E0 22 ach WA
def Jg (a0 b1:List I) (i5:Int):LS:=⟨[(0,.slice 65 3 (aI a0)),(1,.slice 65 3 (aI b1)),(5,.int .i64 i5)],[]⟩
def Jf (a0 b1:List I):LS:=⟨[(0,.slice 65 3 (aI a0)),(1,.slice 65 3 (aI b1))],[]⟩
def UH (a0 b1:List I):LS:=⟨[(0,.slice 65 3 (aI a0)),(1,.slice 65 3 (aI b1))],[]⟩
def Hv (k_1 : (List I) → (List I) → Option Int) (back : (List I) → (List I) → Int → Option Int) (n : Nat) (a0 b1 : List I) (i5 : Int) : Option Int :=
 if decide (i5 < (a0.length : Int)) then
 if decide (i5 < (b1.length : Int)) then
 (idx a0 i5).bind fun x13 =>
 (idx b1 i5).bind fun x18 =>
 (F61 n x13 x18).bind fun x21 =>
 if x21 != 0 then
 some x21
 else
 back a0 b1 (w64 (i5 + 1))
 else
 k_1 a0 b1
 else
 k_1 a0 b1
theorem alU {k_1} (aG : K2 (A22 [1, 1]) Jf k_1) {back} (aw : K3 (A22 [0, 1, 0, 1]) Jg back) (n : Nat) : K3 (A22 [0, 1, 0, 1]) Jg (Hv k_1 back n) := fun a0 b1 i5 r h =>
 ie h (fun c0 h =>
 ie h (fun c1 h =>
 be h fun x13 bY h =>
 be h fun x18 fN h =>
 be h fun x21 jc h =>
 ie h (fun c2 h =>
 rr h [(2, .eqv (R64.au a0)), (0, eb c0), (3, .eqv (R64.au b1)), (0, eb c1), (3, R64.idx bY), (3, R64.idx fN), (1, .call (ev61 n jc) [] [] []), (2, eb c2)]) (fun c2 h =>
 ra (aw h) [(2, .eqv (R64.au a0)), (0, eb c0), (3, .eqv (R64.au b1)), (0, eb c1), (3, R64.idx bY), (3, R64.idx fN), (1, .call (ev61 n jc) [] [] []), (2, eb c2)])) (fun c1 h =>
 ra (aG h) [(2, .eqv (R64.au a0)), (0, eb c0), (3, .eqv (R64.au b1)), (0, eb c1)])) (fun c0 h =>
 ra (aG h) [(2, .eqv (R64.au a0)), (0, eb c0)])
def xV (k_1:(List I)→(List I)→Option Int):Nat→(List I)→(List I)→Int→Option Int
 |0,_,_,_=>none
 |n+1,a0,b1,i5=>Hv k_1 (xV k_1 n) n a0 b1 i5
theorem adt {k_1} (aG:K2 (A22 [1,1]) Jf k_1):∀n:Nat,K3 (A22 [0,1,0,1]) Jg (xV k_1 n)
 |0=>fun _ _ _ _ h=>nz h
 |n+1=>fun _ _ _ _ h=>alU aG (adt aG n) n h
def Ca (n : Nat) (a0 b1 : List I) : Option Int :=
 if decide ((a0.length : Int) < (b1.length : Int)) then
 some (-1)
 else
 if decide ((b1.length : Int) < (a0.length : Int)) then
 some 1
 else
 some 0
theorem alT (n : Nat) : K2 (A22 [1, 1]) Jf (Ca n) := fun a0 b1 r h =>
 ie h (fun c0 h =>
 rr h [(1, .eqv (R64.au a0)), (1, .eqv (R64.au b1)), (0, eb c0)]) (fun c0 h =>
 ie h (fun c1 h =>
 rr h [(1, .eqv (R64.au a0)), (1, .eqv (R64.au b1)), (0, eb c0), (2, .eqv (R64.au a0)), (1, .eqv (R64.au b1)), (0, eb c1)]) (fun c1 h =>
 rr h [(1, .eqv (R64.au a0)), (1, .eqv (R64.au b1)), (0, eb c0), (2, .eqv (R64.au a0)), (1, .eqv (R64.au b1)), (0, eb c1)]))
def aer (n : Nat) (a0 b1 : List I) : Option Int :=
 xV (Ca n) n a0 b1 0
theorem alS (n : Nat) : K2 (A22 []) UH (aer n) := fun a0 b1 r h =>
 ra (adt (alT n) n h) []
def F22 (n:Nat) (a0 b1:List I):Option Int:=aer n a0 b1
theorem jO (n:Nat):K2 C22 UH (F22 n):=fun _ _ _ h=>ca (X:=x22) (alS n h)
def abu (r:Int):AV:=.int .i64 r
def VX (r:Int):List (Nat×Bx):= []
def x75:=fx E0 Tryz.f75 [] []
def A75:=Ax x75 abu VX
def C75:=Cx E0 75 abu VX
def Iv (aN:Int) (bF:List I) (t31:List (List I)) (t32 t33:Int) (b4:aa):LS:=⟨[(2,.int .i64 aN),(3,.slice 65 3 (aI bF)),(4,.loc 4 0),(31,.slice 43 1 (fJ t31)),(32,.int .i64 t32),(33,.int .i64 t33)],[(4,.flat 26 (aV b4))]⟩
def Iu:LS:=⟨[],[]⟩
def TU (s0:aa) (st1:an) (aN:Int) (bF:List I):LS:=⟨[(0,.agg (aV s0)),(1,.agg (cN st1)),(2,.int .i64 aN),(3,.slice 65 3 (aI bF))],[]⟩
def yj (k_1 : Option Int) (back : Int → (List I) → (List (List I)) → Int → Int → aa → Option Int) (n : Nat) (aN : Int) (bF : List I) (t31 : List (List I)) (t32 t33 : Int) (b4 : aa) : Option Int :=
 if decide (t33 < t32) then
 (idx t31 t33).bind fun x3 =>
 (F34 n b4 aN x3).bind fun x11 =>
 (F22 n x11 bF).bind fun x14 =>
 if x14 == 0 then
 some t33
 else
 back aN bF t31 t32 (w64 (t33 + 1)) b4
 else
 k_1
theorem akh {k_1} (aG : K0 (A75 [1, 1, 1]) Iu k_1) {back} (aw : K6 (A75 [0, 1, 0, 1, 1]) Iv back) (n : Nat) : K6 (A75 [0, 1, 0, 1, 1]) Iv (yj k_1 back n) := fun aN bF t31 t32 t33 b4 r h =>
 ie h (fun c0 h =>
 be h fun x3 hx3 h =>
 be h fun x11 cM h =>
 be h fun x14 gB h =>
 ie h (fun c1 h =>
 rr h [(0, eb c0), (1, R42.idx hx3), (6, .call (nQ n cM) [] [] [(41, 200000)]), (1, R64.frz 41 x11), (0, .call (jO n gB) [.one (.sl 0 0)] [] []), (0, eb c1)]) (fun c1 h =>
 ra (aw h) [(0, eb c0), (1, R42.idx hx3), (6, .call (nQ n cM) [] [] [(41, 200000)]), (1, R64.frz 41 x11), (0, .call (jO n gB) [.one (.sl 0 0)] [] []), (0, eb c1)])) (fun c0 h =>
 ra (aG h) [(0, eb c0)])
def oH (k_1:Option Int):Nat→Int→(List I)→(List (List I))→Int→Int→aa→Option Int
 |0,_,_,_,_,_,_=>none
 |n+1,aN,bF,t31,t32,t33,b4=>yj k_1 (oH k_1 n) n aN bF t31 t32 t33 b4
theorem acR {k_1} (aG:K0 (A75 [1,1,1]) Iu k_1):∀n:Nat,K6 (A75 [0,1,0,1,1]) Iv (oH k_1 n)
 |0=>fun _ _ _ _ _ _ _ h=>nz h
 |n+1=>fun _ _ _ _ _ _ _ h=>akh aG (acR aG n) n h
def yi (n : Nat) : Option Int :=
 some (-1)
theorem akg (n : Nat) : K0 (A75 [1, 1, 1]) Iu (yi n) := fun r h =>
 rr h []
def GF (n : Nat) (s0 : aa) (st1 : an) (aN : Int) (bF : List I) : Option Int :=
 if decide (aN < 0) then
 some (-1)
 else
 if !decide (aN < (s0.J.length : Int)) then
 some (-1)
 else
 if !decide (aN < (st1.J.length : Int)) then
 some (-1)
 else
 (idx st1.J aN).bind fun x23 =>
 oH (yi n) n aN bF x23 (x23.length : Int) 0 s0
theorem akf (n : Nat) : K4 (A75 []) TU (GF n) := fun s0 st1 aN bF r h =>
 ie h (fun c0 h =>
 rr h [(4, eb c0)]) (fun c0 h =>
 ie h (fun c1 h =>
 rr h [(4, eb c0), (4, .eqv (R62.au s0.J)), (0, eb c1)]) (fun c1 h =>
 ie h (fun c2 h =>
 rr h [(4, eb c0), (4, .eqv (R62.au s0.J)), (0, eb c1), (5, .eqv (R66.au st1.J)), (0, eb c2)]) (fun c2 h =>
 be h fun x23 eN h =>
 ra (acR (akg n) n h) [(4, eb c0), (4, .eqv (R62.au s0.J)), (0, eb c1), (5, .eqv (R66.au st1.J)), (0, eb c2), (4, R66.idx eN), (1, .eqv (R42.au x23))])))
def F75 (n:Nat) (s0:aa) (st1:an) (aN:Int) (bF:List I):Option Int:=GF n s0 st1 aN bF
theorem ev75 (n:Nat):K4 C75 TU (F75 n):=fun _ _ _ _ _ h=>ca (X:=x75) (akf n h)
def abX (r:((List I)×Bool)):AV:=.tup [.ms 200000 3 0 r.1.length,.bool r.2]
def Wr (r:((List I)×Bool)):List (Nat×Bx):= [(200000,.rows true 65 3 (aI r.1))]
def x35:=fx E0 Tryz.f35 [] [200000]
def A35:=Ax x35 abX Wr
def C35:=Cx E0 35 abX Wr
def Uw (s0:aa) (st1:an) (aN:Int) (bF:List I):LS:=⟨[(0,.agg (aV s0)),(1,.agg (cN st1)),(2,.int .i64 aN),(3,.slice 65 3 (aI bF))],[]⟩
def Hm (n : Nat) (s0 : aa) (st1 : an) (aN : Int) (bF : List I) : Option ((List I) × Bool) :=
 (F75 n s0 st1 aN bF).bind fun x9 =>
 if decide (x9 < 0) then
 some ([], false)
 else
 (idx st1.J aN).bind fun x17 =>
 (idx x17 x9).bind fun x21 =>
 (F54 n x21).bind fun x24 =>
 some (x24, true)
theorem alB (n : Nat) : K4 (A35 []) Uw (Hm n) := fun s0 st1 aN bF r h =>
 be h fun x9 hx9 h =>
 ie h (fun c0 h =>
 rr h [(8, .call (ev75 n hx9) [] [] []), (2, eb c0), (2, .born [8] [] 200000 true 65 3)]) (fun c0 h =>
 be h fun x17 eO h =>
 be h fun x21 jc h =>
 be h fun x24 fg h =>
 rr h [(8, .call (ev75 n hx9) [] [] []), (2, eb c0), (3, R66.idx eO), (2, R42.idx jc), (1, .call (pY n fg) [] [] [(26, 200000)]), (2, .ren 26 200000)])
def F35 (n:Nat) (s0:aa) (st1:an) (aN:Int) (bF:List I):Option ((List I)×Bool):=Hm n s0 st1 aN bF
theorem vS (n:Nat):K4 C35 Uw (F35 n):=fun _ _ _ _ _ h=>ca (X:=x35) (alB n h)
def abW (r:Int):AV:=.int .i64 r
def Wq (r:Int):List (Nat×Bx):= []
def x36:=fx E0 Tryz.f36 [] []
def A36:=Ax x36 abW Wq
def C36:=Cx E0 36 abW Wq
def Uv (t0:Int) (a1:List I) (u2:Int) (b3:List I):LS:=⟨[(0,.int .i64 t0),(1,.slice 65 3 (aI a1)),(2,.int .i64 u2),(3,.slice 65 3 (aI b3))],[]⟩
def Tc (n : Nat) (t0 : Int) (a1 : List I) (u2 : Int) (b3 : List I) : Option Int :=
 if t0 != u2 then
 if decide (t0 < u2) then
 some (-1)
 else
 some 1
 else
 (F22 n a1 b3).bind fun x7 =>
 some x7
theorem alA (n : Nat) : K4 (A36 []) Uv (Tc n) := fun t0 a1 u2 b3 r h =>
 ie h (fun c0 h =>
 ie h (fun c1 h =>
 rr h [(3, eb c0), (2, eb c1)]) (fun c1 h =>
 rr h [(3, eb c0), (2, eb c1)])) (fun c0 h =>
 be h fun x7 hx7 h =>
 rr h [(3, eb c0), (2, .call (jO n hx7) [] [] [])])
def F36 (n:Nat) (t0:Int) (a1:List I) (u2:Int) (b3:List I):Option Int:=Tc n t0 a1 u2 b3
theorem Lk (n:Nat):K4 C36 Uv (F36 n):=fun _ _ _ _ _ h=>ca (X:=x36) (alA n h)
def acs (r:((List ak)×aj)):AV:=.ms 200000 5 0 r.1.length
def WN (r:((List ak)×aj)):List (Nat×Bx):= [(0,.flat 74 (bA r.2)),(200000,.rows false 55 5 (cn r.1))]
def x10:=fx E0 Tryz.f10 [0] [0,200000]
def A10:=Ax x10 acs WN
def C10:=Cx E0 10 acs WN
def Jw (n10 i17:Int) (t29:List ai) (t30:Int) (b0:aj) (b5:aa) (b6:an) (b9:List ak) (b50:List I) (b14:ak) (db:List Int) (mN:List I):LS:=⟨[(0,.loc 0 0),(5,.loc 5 0),(6,.loc 6 0),(9,.ms 500009 5 0 b9.length),(10,.int .i64 n10),(12,.ms 50 3 0 b50.length),(14,.loc 14 0),(17,.int .i64 i17),(28,.loc 5 1),(29,.slice 63 5 (cO t29)),(30,.int .i64 t30),(31,.bool true)],[(0,.flat 74 (bA b0)),(5,.flat 26 (aV b5)),(6,.flat 33 (cN b6)),(14,.flat 55 [.int .i64 b14.fOp,.int .i64 b14.ar,.slice 65 3 (aI b14.av),.ms 129 1 0 db.length,.ms 137 3 0 mN.length]),(50,.rows true 65 3 (aI b50)),(129,.rows true 3 1 (aX db)),(137,.rows true 65 3 (aI mN)),(500009,.rows false 55 5 (cn b9))]⟩
def Jv (n10 me:Int) (gH:Bool) (i20:Int) (t29:List ai) (t30:Int) (b0:aj) (b5:aa) (b6:an) (b9:List ak) (b14:ak) (db:List Int) (dI:List I):LS:=⟨[(0,.loc 0 0),(5,.loc 5 0),(6,.loc 6 0),(9,.ms 500009 5 0 b9.length),(10,.int .i64 n10),(14,.loc 14 0),(18,.int .i64 me),(19,.bool gH),(20,.int .i64 i20),(28,.loc 5 1),(29,.slice 63 5 (cO t29)),(30,.int .i64 t30),(31,.bool true)],[(0,.flat 74 (bA b0)),(5,.flat 26 (aV b5)),(6,.flat 33 (cN b6)),(14,.flat 55 [.int .i64 b14.fOp,.int .i64 b14.ar,.slice 65 3 (aI b14.av),.ms 129 1 0 db.length,.ms 601404 3 0 dI.length]),(129,.rows true 3 1 (aX db)),(500009,.rows false 55 5 (cn b9)),(601404,.rows true 65 3 (aI dI))]⟩
def Ju (n10 me:Int) (gH:Bool) (t29:List ai) (t30:Int) (b0:aj) (b5:aa) (b6:an) (b9:List ak) (b14:ak) (db:List Int) (dI:List I):LS:=⟨[(0,.loc 0 0),(5,.loc 5 0),(6,.loc 6 0),(9,.ms 500009 5 0 b9.length),(10,.int .i64 n10),(14,.loc 14 0),(18,.int .i64 me),(19,.bool gH),(28,.loc 5 1),(29,.slice 63 5 (cO t29)),(30,.int .i64 t30),(31,.bool true)],[(0,.flat 74 (bA b0)),(5,.flat 26 (aV b5)),(6,.flat 33 (cN b6)),(14,.flat 55 [.int .i64 b14.fOp,.int .i64 b14.ar,.slice 65 3 (aI b14.av),.ms 129 1 0 db.length,.ms 601404 3 0 dI.length]),(129,.rows true 3 1 (aX db)),(500009,.rows false 55 5 (cn b9)),(601404,.rows true 65 3 (aI dI))]⟩
def Jt (n10:Int) (t29:List ai) (t30:Int) (b0:aj) (b5:aa) (b6:an) (b9:List ak) (b14:ak) (db:List Int) (dI:List I):LS:=⟨[(0,.loc 0 0),(5,.loc 5 0),(6,.loc 6 0),(9,.ms 500009 5 0 b9.length),(10,.int .i64 n10),(14,.loc 14 0),(28,.loc 5 1),(29,.slice 63 5 (cO t29)),(30,.int .i64 t30),(31,.bool true)],[(0,.flat 74 (bA b0)),(5,.flat 26 (aV b5)),(6,.flat 33 (cN b6)),(14,.flat 55 [.int .i64 b14.fOp,.int .i64 b14.ar,.slice 65 3 (aI b14.av),.ms 129 1 0 db.length,.ms 601404 3 0 dI.length]),(129,.rows true 3 1 (aX db)),(500009,.rows false 55 5 (cn b9)),(601404,.rows true 65 3 (aI dI))]⟩
def agb (n10 t11:Int) (t29:List ai) (t30:Int) (b0:aj) (b5:aa) (b6:an) (b9:List ak) (b50:List I):LS:=⟨[(0,.loc 0 0),(5,.loc 5 0),(6,.loc 6 0),(9,.ms 500009 5 0 b9.length),(10,.int .i64 n10),(11,.int .i64 t11),(12,.ms 50 3 0 b50.length),(28,.loc 5 1),(29,.slice 63 5 (cO t29)),(30,.int .i64 t30),(31,.bool true)],[(0,.flat 74 (bA b0)),(5,.flat 26 (aV b5)),(6,.flat 33 (cN b6)),(50,.rows true 65 3 (aI b50)),(500009,.rows false 55 5 (cn b9))]⟩
def rW (n10:Int) (b0:aj) (b5:aa) (b6:an) (b9:List ak):LS:=⟨[(0,.loc 0 0),(5,.loc 5 0),(6,.loc 6 0),(9,.ms 500009 5 0 b9.length),(10,.int .i64 n10)],[(0,.flat 74 (bA b0)),(5,.flat 26 (aV b5)),(6,.flat 33 (cN b6)),(500009,.rows false 55 5 (cn b9))]⟩
def Js (b0:aj) (b9:List ak):LS:=⟨[(9,.ms 500009 5 0 b9.length)],[(0,.flat 74 (bA b0)),(500009,.rows false 55 5 (cn b9))]⟩
def UT (c0:aj) (s1:aa) (st2:an) (wY:Int):LS:=⟨[(0,.loc 0 0),(1,.agg (aV s1)),(2,.agg (cN st2)),(3,.int .i64 wY)],[(0,.flat 74 (bA c0))]⟩
def HM (k_3 : Int → (List ai) → Int → aj → aa → an → (List ak) → ak → (List Int) → (List I) → Option ((List ak) × aj)) (back : Int → Int → (List ai) → Int → aj → aa → an → (List ak) → (List I) → ak → (List Int) → (List I) → Option ((List ak) × aj)) (n : Nat) (n10 i17 : Int) (t29 : List ai) (t30 : Int) (b0 : aj) (b5 : aa) (b6 : an) (b9 : List ak) (b50 : List I) (b14 : ak) (db : List Int) (mN : List I) : Option ((List ak) × aj) :=
 if decide (i17 < (b50.length : Int)) then
 if b14.fOp == 2 then
 (F29 n b0 2).bind fun x11 =>
 if x11.1 then
 (app db [i17]).bind fun x17 =>
 (bnd b50.length i17).bind fun x23 =>
 (b50[0 + x23]?).bind fun x25 =>
 (app mN [x25]).bind fun x28 =>
 back n10 (w64 (i17 + 1)) t29 t30 x11.2 b5 b6 b9 b50 (ak.mk b14.fOp b14.ar b14.av x17 x28) x17 x28
 else
 back n10 (w64 (i17 + 1)) t29 t30 x11.2 b5 b6 b9 b50 (ak.mk b14.fOp b14.ar b14.av db mN) db mN
 else
 k_3 n10 t29 t30 b0 b5 b6 b9 (ak.mk b14.fOp b14.ar b14.av db mN) db mN
 else
 k_3 n10 t29 t30 b0 b5 b6 b9 (ak.mk b14.fOp b14.ar b14.av db mN) db mN
theorem amx {k_3} (bw : K10 (A10 [1, 1, 1, 1, 1, 0, 0, 1, 0, 0, 1, 0, 1, 1]) Jt k_3) {back} (aw : K12 (A10 [0, 1, 1, 0, 1, 1, 0, 1, 1, 1, 1, 0, 0, 1, 0, 0, 1, 0, 1, 1]) Jw back) (n : Nat) : K12 (A10 [0, 1, 1, 0, 1, 1, 0, 1, 1, 1, 1, 0, 0, 1, 0, 0, 1, 0, 1, 1]) Jw (HM k_3 back n) := fun n10 i17 t29 t30 b0 b5 b6 b9 b50 b14 db mN r h =>
 ie h (fun c0_ h =>
 ie h (fun c1 h =>
 be h fun x11 cM h =>
 ie h (fun c2 h =>
 be h fun x17 eO h =>
 be h fun x23 eN h =>
 be h fun x25 pL h =>
 be h fun x28 jb h =>
 ra (aw h) [(3, eb c0_), (3, eb c1), (2, .call (cb (fk n cM) c2) [] [(0, 0)] []), (4, R3.app eO (R3.srW [i17])), (4, cY eN), (0, R64.row pL), (1, R64.app jb (R64.srW [x25]))]) (fun c2 h =>
 ra (aw h) [(3, eb c0_), (3, eb c1), (2, .call (cb (fk n cM) c2) [] [(0, 0)] [])])) (fun c1 h =>
 ra (bw h) [(3, eb c0_), (3, eb c1), (1, .ren 137 601404)])) (fun c0_ h =>
 ra (bw h) [(3, eb c0_), (2, .ren 137 601404)])
def yd (k_3:Int→(List ai)→Int→aj→aa→an→(List ak)→ak→(List Int)→(List I)→Option ((List ak)×aj)):Nat→Int→Int→(List ai)→Int→aj→aa→an→(List ak)→(List I)→ak→(List Int)→(List I)→Option ((List ak)×aj)
 |0,_,_,_,_,_,_,_,_,_,_,_,_=>none
 |n+1,n10,i17,t29,t30,b0,b5,b6,b9,b50,b14,db,mN=>HM k_3 (yd k_3 n) n n10 i17 t29 t30 b0 b5 b6 b9 b50 b14 db mN
theorem adD {k_3} (bw:K10 (A10 [1,1,1,1,1,0,0,1,0,0,1,0,1,1]) Jt k_3):∀n:Nat,K12 (A10 [0,1,1,0,1,1,0,1,1,1,1,0,0,1,0,0,1,0,1,1]) Jw (yd k_3 n)
 |0=>fun _ _ _ _ _ _ _ _ _ _ _ _ _ h=>nz h
 |n+1=>fun _ _ _ _ _ _ _ _ _ _ _ _ _ h=>amx bw (adD bw n) n h
def HL (k_2 : Int → Int → Bool → (List ai) → Int → aj → aa → an → (List ak) → ak → (List Int) → (List I) → Option ((List ak) × aj)) (back : Int → Int → Bool → Int → (List ai) → Int → aj → aa → an → (List ak) → ak → (List Int) → (List I) → Option ((List ak) × aj)) (n : Nat) (n10 me : Int) (gH : Bool) (i20 : Int) (t29 : List ai) (t30 : Int) (b0 : aj) (b5 : aa) (b6 : an) (b9 : List ak) (b14 : ak) (db : List Int) (dI : List I) : Option ((List ak) × aj) :=
 if !decide (i20 < 0) then
 (bnd b9.length i20).bind fun x9 =>
 (b9[0 + x9]?).bind fun x12 =>
 (bnd b9.length i20).bind fun x16 =>
 (b9[0 + x16]?).bind fun x19 =>
 (F36 n b14.ar b14.av x12.ar x19.av).bind fun x21 =>
 if x21 == 0 then
 back n10 me true (w64 (i20 - 1)) t29 t30 b0 b5 b6 b9 (ak.mk b14.fOp b14.ar b14.av db dI) db dI
 else
 if x21 == (-1) then
 back n10 i20 gH (w64 (i20 - 1)) t29 t30 b0 b5 b6 b9 (ak.mk b14.fOp b14.ar b14.av db dI) db dI
 else
 back n10 me gH (w64 (i20 - 1)) t29 t30 b0 b5 b6 b9 (ak.mk b14.fOp b14.ar b14.av db dI) db dI
 else
 k_2 n10 me gH t29 t30 b0 b5 b6 b9 (ak.mk b14.fOp b14.ar b14.av db dI) db dI
theorem amw {k_2} (bP : K12 (A10 [1, 1, 1, 1, 1, 1, 1, 0, 0, 1, 0, 0, 1, 0, 1, 1]) Ju k_2) {back} (aw : K13 (A10 [0, 1, 0, 1, 1, 1, 1, 1, 1, 0, 0, 1, 0, 0, 1, 0, 1, 1]) Jv back) (n : Nat) : K13 (A10 [0, 1, 0, 1, 1, 1, 1, 1, 1, 0, 0, 1, 0, 0, 1, 0, 1, 1]) Jv (HL k_2 back n) := fun n10 me gH i20 t29 t30 b0 b5 b6 b9 b14 db dI r h =>
 ie h (fun c0_ h =>
 be h fun x9 hx9 h =>
 be h fun x12 bT h =>
 be h fun x16 dz h =>
 be h fun x19 dM h =>
 be h fun x21 jc h =>
 ie h (fun c1 h =>
 ra (aw h) [(1, eb c0_), (6, cY hx9), (1, R54.row bT), (2, cY dz), (1, R54.row dM), (0, .call (Lk n jc) [] [] []), (0, eb c1)]) (fun c1 h =>
 ie h (fun c2 h =>
 ra (aw h) [(1, eb c0_), (6, cY hx9), (1, R54.row bT), (2, cY dz), (1, R54.row dM), (0, .call (Lk n jc) [] [] []), (0, eb c1), (1, eb c2)]) (fun c2 h =>
 ra (aw h) [(1, eb c0_), (6, cY hx9), (1, R54.row bT), (2, cY dz), (1, R54.row dM), (0, .call (Lk n jc) [] [] []), (0, eb c1), (1, eb c2)]))) (fun c0_ h =>
 ra (bP h) [(1, eb c0_)])
def yc (k_2:Int→Int→Bool→(List ai)→Int→aj→aa→an→(List ak)→ak→(List Int)→(List I)→Option ((List ak)×aj)):Nat→Int→Int→Bool→Int→(List ai)→Int→aj→aa→an→(List ak)→ak→(List Int)→(List I)→Option ((List ak)×aj)
 |0,_,_,_,_,_,_,_,_,_,_,_,_,_=>none
 |n+1,n10,me,gH,i20,t29,t30,b0,b5,b6,b9,b14,db,dI=>HL k_2 (yc k_2 n) n n10 me gH i20 t29 t30 b0 b5 b6 b9 b14 db dI
theorem adC {k_2} (bP:K12 (A10 [1,1,1,1,1,1,1,0,0,1,0,0,1,0,1,1]) Ju k_2):∀n:Nat,K13 (A10 [0,1,0,1,1,1,1,1,1,0,0,1,0,0,1,0,1,1]) Jv (yc k_2 n)
 |0=>fun _ _ _ _ _ _ _ _ _ _ _ _ _ _ h=>nz h
 |n+1=>fun _ _ _ _ _ _ _ _ _ _ _ _ _ _ h=>amw bP (adC bP n) n h
def HK (k_5 : Int → aj → aa → an → (List ak) → Option ((List ak) × aj)) (n : Nat) (n10 me : Int) (gH : Bool) (t29 : List ai) (t30 : Int) (b0 : aj) (b5 : aa) (b6 : an) (b9 : List ak) (b14 : ak) (db : List Int) (dI : List I) : Option ((List ak) × aj) :=
 if !gH then
 (hJ b9.length me).bind fun x5 =>
 (tX b9.length me).bind fun x11 =>
 (app [(ak.mk b14.fOp b14.ar b14.av db dI)] ((b9.drop (0 + x11)).take (b9.length - x11))).bind fun x13 =>
 (wi b9 x5 x13).bind fun x15 =>
 k_5 (w64 (n10 - 1)) b0 b5 b6 x15
 else
 k_5 (w64 (n10 - 1)) b0 b5 b6 b9
theorem amv {k_5} (eW : K5 (A10 [0, 1, 0, 1, 1]) rW k_5) (n : Nat) : K12 (A10 [1, 1, 1, 1, 1, 1, 1, 0, 0, 1, 0, 0, 1, 0, 1, 1]) Ju (HK k_5 n) := fun n10 me gH t29 t30 b0 b5 b6 b9 b14 db dI r h =>
 ie h (fun c0_ h =>
 be h fun x5 hx5 h =>
 be h fun x11 cM h =>
 be h fun x13 bY h =>
 be h fun x15 cK h =>
 ra (eW h) [(1, eb c0_), (0, R3.frz 129 db), (0, R64.frz 601404 dI), (2, R54.hJ (xs := b9) hx5 (Nat.le_of_eq rfl)), (0, .nrm (.agg [.same, .same, .same, .sl 0 0, .sl 0 0])), (3, R54.tX (xs := b9) cM (Nat.le_of_eq rfl)), (0, R54.app bY (R54.sr (xs := b9) (afp cM (Nat.le_of_eq rfl)))), (0, R54.wi cK (R54.srW x13))]) (fun c0_ h =>
 ra (eW h) [(1, eb c0_)])
def uE (k_5 : Int → aj → aa → an → (List ak) → Option ((List ak) × aj)) (n : Nat) (n10 : Int) (t29 : List ai) (t30 : Int) (b0 : aj) (b5 : aa) (b6 : an) (b9 : List ak) (b14 : ak) (db : List Int) (dI : List I) : Option ((List ak) × aj) :=
 yc (HK k_5 n) n n10 (b9.length : Int) false (w64 ((b9.length : Int) - 1)) t29 t30 b0 b5 b6 b9 (ak.mk b14.fOp b14.ar b14.av db dI) db dI
theorem aei {k_5} (eW : K5 (A10 [0, 1, 0, 1, 1]) rW k_5) (n : Nat) : K10 (A10 [1, 1, 1, 1, 1, 0, 0, 1, 0, 0, 1, 0, 1, 1]) Jt (uE k_5 n) := fun n10 t29 t30 b0 b5 b6 b9 b14 db dI r h =>
 ra (adC (amv eW n) n h) []
def yp (k_5 : Int → aj → aa → an → (List ak) → Option ((List ak) × aj)) (n : Nat) (n10 t11 : Int) (t29 : List ai) (t30 : Int) (b0 : aj) (b5 : aa) (b6 : an) (b9 : List ak) (b50 : List I) : Option ((List ak) × aj) :=
 (idx b5.J t11).bind fun x6 =>
 (hJ b50.length x6.av).bind fun x10_ =>
 (app [] ((b50.drop 0).take x10_)).bind fun x12 =>
 (F35 n b5 b6 t11 x12).bind fun x23 =>
 (F29 n b0 8).bind fun x32 =>
 if !(x23.2 == x32.1) then
 (F24 n x32.2 2).bind fun x36 =>
 (idx b5.J t11).bind fun x46 =>
 yd (uE k_5 n) n n10 x46.av t29 t30 x36.2 b5 b6 b9 b50 (ak.mk (w64 (2 + x36.1)) t11 x12 [] []) [] []
 else
 uE k_5 n n10 t29 t30 x32.2 b5 b6 b9 (ak.mk 1 t11 x12 [] b50) [] b50
theorem Sb {k_5} (eW : K5 (A10 [0, 1, 0, 1, 1]) rW k_5) (n : Nat) : K9 (A10 [1, 1, 1, 0, 0, 1, 0, 0, 1, 0, 1, 1]) agb (yp k_5 n) := fun n10 t11 t29 t30 b0 b5 b6 b9 b50 r h =>
 be h fun x6 hx6 h =>
 be h fun x10_ cg h =>
 be h fun x12 bT h =>
 be h fun x23 eN h =>
 be h fun x32 lV h =>
 ie h (fun c0_ h =>
 be h fun x36 zp h =>
 be h fun x46 zn h =>
 ra (adD (aei eW n) n h) [(5, R62.idx hx6), (2, R64.hJ (xs := b50) cg (Nat.le_of_eq rfl)), (0, .born [] [] 85 true 65 3), (0, R64.app (xs := []) bT (R64.sr (xs := b50) (by rw [Nat.zero_add]; exact (Nat.le_trans (jP cg).2 (Nat.le_of_eq rfl))))), (9, R64.frz 85 x12), (0, .call (vS n eN) [.one .same, .one .same, .one .same, .one (.sl 0 0)] [] [(309400, 200000)]), (7, .call (fk n lV) [] [(0, 0)] []), (0, eb c0_), (1, .call (bO n zp) [] [(0, 0)] []), (8, R62.idx zn), (3, .born [] [(14, 3)] 129 true 3 1), (0, .born [] [(14, 4)] 137 true 65 3)]) (fun c0_ h =>
 ra (aei eW n h) [(5, R62.idx hx6), (2, R64.hJ (xs := b50) cg (Nat.le_of_eq rfl)), (0, .born [] [] 85 true 65 3), (0, R64.app (xs := []) bT (R64.sr (xs := b50) (by rw [Nat.zero_add]; exact (Nat.le_trans (jP cg).2 (Nat.le_of_eq rfl))))), (9, R64.frz 85 x12), (0, .call (vS n eN) [.one .same, .one .same, .one .same, .one (.sl 0 0)] [] [(309400, 200000)]), (7, .call (fk n lV) [] [(0, 0)] []), (0, eb c0_), (0, .ren 50 601404), (0, .born [] [(14, 3)] 129 true 3 1)])
def HJ (k_6 : aj → (List ak) → Option ((List ak) × aj)) (back : Int → aj → aa → an → (List ak) → Option ((List ak) × aj)) (n : Nat) (n10 : Int) (b0 : aj) (b5 : aa) (b6 : an) (b9 : List ak) : Option ((List ak) × aj) :=
 if decide (0 < n10) then
 if decide (0 < (b5.J.length : Int)) then
 (F24 n b0 (b5.J.length : Int)).bind fun x13 =>
 (F32 n b5 x13.1).bind fun x19 =>
 (idx b5.J x13.1).bind fun x24 =>
 (F33 n x13.2 x19 x24.av 1).bind fun x28 =>
 (idx b6.J x13.1).bind fun x34 =>
 if decide (0 < (x34.length : Int)) then
 (F29 n x28.2 3).bind fun x43 =>
 if !x43.1 then
 (F24 n x43.2 (x34.length : Int)).bind fun x54 =>
 (idx x34 x54.1).bind fun x56 =>
 (F34 n b5 x13.1 x56).bind fun x59 =>
 (cpy x28.1 x59).bind fun x61 =>
 yp back n n10 x13.1 b5.J (b5.J.length : Int) x54.2 b5 b6 b9 x61
 else
 yp back n n10 x13.1 b5.J (b5.J.length : Int) x43.2 b5 b6 b9 x28.1
 else
 yp back n n10 x13.1 b5.J (b5.J.length : Int) x28.2 b5 b6 b9 x28.1
 else
 k_6 b0 b9
 else
 k_6 b0 b9
theorem amu {k_6} (rF : K2 (A10 [1, 1, 1]) Js k_6) {back} (aw : K5 (A10 [0, 1, 0, 1, 1]) rW back) (n : Nat) : K5 (A10 [0, 1, 0, 1, 1]) rW (HJ k_6 back n) := fun n10 b0 b5 b6 b9 r h =>
 ie h (fun c0_ h =>
 ie h (fun c1 h =>
 be h fun x13 bY h =>
 be h fun x19 dM h =>
 be h fun x24 fg h =>
 be h fun x28 jb h =>
 be h fun x34 tu h =>
 ie h (fun c2 h =>
 be h fun x43 nK h =>
 ie h (fun c3 h =>
 be h fun x54 ZQ h =>
 be h fun x56 hx56 h =>
 be h fun x59 hx59 h =>
 be h fun x61 QY h =>
 ra (Sb aw n h) [(1, eb c0_), (3, .eqv (R62.au b5.J)), (0, eb c1), (4, .eqv (R62.au b5.J)), (0, .call (bO n bY) [] [(0, 0)] []), (4, .call (cd (e := 3) (z := true) (Q := aX x19) (jN n dM) (R3.len x19)) [] [] []), (3, R62.idx fg), (2, .call (Rp n jb) [.one .same, .one (.sl 0 0)] [(0, 0)] [(50, 200000)]), (4, R66.idx tu), (3, .eqv (R42.au x34)), (0, eb c2), (2, .call (fk n nK) [] [(0, 0)] []), (0, eb c3), (7, .eqv (R42.au x34)), (0, .call (bO n ZQ) [] [(0, 0)] []), (0, R42.idx hx56), (1, .call (nQ n hx59) [] [] [(74, 200000)]), (0, R64.cpy QY (R64.srW x59)), (0, .seq 12 (congrArg (fun n_ => (AV.ms 50 3 0 n_)) ((afq QY).symm)))]) (fun c3 h =>
 ra (Sb aw n h) [(1, eb c0_), (3, .eqv (R62.au b5.J)), (0, eb c1), (4, .eqv (R62.au b5.J)), (0, .call (bO n bY) [] [(0, 0)] []), (4, .call (cd (e := 3) (z := true) (Q := aX x19) (jN n dM) (R3.len x19)) [] [] []), (3, R62.idx fg), (2, .call (Rp n jb) [.one .same, .one (.sl 0 0)] [(0, 0)] [(50, 200000)]), (4, R66.idx tu), (3, .eqv (R42.au x34)), (0, eb c2), (2, .call (fk n nK) [] [(0, 0)] []), (0, eb c3)])) (fun c2 h =>
 ra (Sb aw n h) [(1, eb c0_), (3, .eqv (R62.au b5.J)), (0, eb c1), (4, .eqv (R62.au b5.J)), (0, .call (bO n bY) [] [(0, 0)] []), (4, .call (cd (e := 3) (z := true) (Q := aX x19) (jN n dM) (R3.len x19)) [] [] []), (3, R62.idx fg), (2, .call (Rp n jb) [.one .same, .one (.sl 0 0)] [(0, 0)] [(50, 200000)]), (4, R66.idx tu), (3, .eqv (R42.au x34)), (0, eb c2)])) (fun c1 h =>
 ra (rF h) [(1, eb c0_), (3, .eqv (R62.au b5.J)), (0, eb c1)])) (fun c0_ h =>
 ra (rF h) [(1, eb c0_)])
def rh (k_6:aj→(List ak)→Option ((List ak)×aj)):Nat→Int→aj→aa→an→(List ak)→Option ((List ak)×aj)
 |0,_,_,_,_,_=>none
 |n+1,n10,b0,b5,b6,b9=>HJ k_6 (rh k_6 n) n n10 b0 b5 b6 b9
theorem adB {k_6} (rF:K2 (A10 [1,1,1]) Js k_6):∀n:Nat,K5 (A10 [0,1,0,1,1]) rW (rh k_6 n)
 |0=>fun _ _ _ _ _ _ h=>nz h
 |n+1=>fun _ _ _ _ _ _ h=>amu rF (adB rF n) n h
def yo (n : Nat) (b0 : aj) (b9 : List ak) : Option ((List ak) × aj) :=
 some (b9, b0)
theorem amt (n : Nat) : K2 (A10 [1, 1, 1]) Js (yo n) := fun b0 b9 r h =>
 rr h [(2, .ren 500009 200000)]
def Tw (n : Nat) (c0 : aj) (s1 : aa) (st2 : an) (wY : Int) : Option ((List ak) × aj) :=
 (F24 n c0 (w64 (wY + 1))).bind fun x8 =>
 rh (yo n) n x8.1 x8.2 s1 st2 []
theorem ams (n : Nat) : K4 (A10 []) UT (Tw n) := fun c0 s1 st2 wY r h =>
 be h fun x8 hx8 h =>
 ra (adB (amt n) n h) [(7, .call (bO n hx8) [] [(0, 0)] []), (1, .born [9] [] 500009 true 55 5)]
def F10 (n:Nat) (c0:aj) (s1:aa) (st2:an) (wY:Int):Option ((List ak)×aj):=Tw n c0 s1 st2 wY
theorem Rx (n:Nat):K4 C10 UT (F10 n):=fun _ _ _ _ _ h=>ca (X:=x10) (ams n h)
def abV (r:(an×(List (List (List I))))):AV:=.agg [.ms 100100 1 0 r.2.length]
def Wp (r:(an×(List (List (List I))))):List (Nat×Bx):= [(100100,.rows false 66 1 (dK r.2))]
def x37:=fx E0 Tryz.f37 [100100] [100100]
def A37:=Ax x37 abV Wp
def C37:=Cx E0 37 abV Wp
def afV (aN:Int) (bF eM:List I) (eK:Bool) (r14:List I) (c15:Int) (t23:List (List I)) (t24 t25:Int) (bI:List (List (List I))) (b5:aa) (b6 b10:an) (b45:List (List I)):LS:=⟨[(2,.int .i64 aN),(3,.slice 65 3 (aI bF)),(4,.slice 65 3 (aI eM)),(5,.loc 5 0),(6,.loc 6 0),(10,.loc 10 0),(11,.ms 45 1 0 b45.length),(12,.bool eK),(14,.slice 65 3 (aI r14)),(15,.int .i64 c15),(23,.slice 43 1 (fJ t23)),(24,.int .i64 t24),(25,.int .i64 t25)],[(5,.flat 26 (aV b5)),(6,.flat 33 [.ms 100100 1 0 bI.length]),(10,.flat 33 [.aY]),(45,.rows true 43 1 (fJ b45)),(100100,.rows false 66 1 (dK bI))]⟩
def Af (aN:Int) (bF eM:List I) (eK:Bool) (t23:List (List I)) (t24 t25:Int) (bI:List (List (List I))) (b5:aa) (b6 b10:an) (b45:List (List I)):LS:=⟨[(2,.int .i64 aN),(3,.slice 65 3 (aI bF)),(4,.slice 65 3 (aI eM)),(5,.loc 5 0),(6,.loc 6 0),(10,.loc 10 0),(11,.ms 45 1 0 b45.length),(12,.bool eK),(23,.slice 43 1 (fJ t23)),(24,.int .i64 t24),(25,.int .i64 t25)],[(5,.flat 26 (aV b5)),(6,.flat 33 [.ms 100100 1 0 bI.length]),(10,.flat 33 [.aY]),(45,.rows true 43 1 (fJ b45)),(100100,.rows false 66 1 (dK bI))]⟩
def afU (aN:Int) (bI:List (List (List I))) (b6 b10:an) (b45:List (List I)):LS:=⟨[(2,.int .i64 aN),(6,.loc 6 0),(10,.loc 10 0),(11,.ms 45 1 0 b45.length)],[(6,.flat 33 [.ms 100100 1 0 bI.length]),(10,.flat 33 [.aY]),(45,.rows true 43 1 (fJ b45)),(100100,.rows false 66 1 (dK bI))]⟩
def I8 (aN:Int) (eM:List I) (eK:Bool) (bI:List (List (List I))) (b6 b10:an) (b45:List (List I)):LS:=⟨[(2,.int .i64 aN),(4,.slice 65 3 (aI eM)),(6,.loc 6 0),(10,.loc 10 0),(11,.ms 45 1 0 b45.length),(12,.bool eK)],[(6,.flat 33 [.ms 100100 1 0 bI.length]),(10,.flat 33 [.aY]),(45,.rows true 43 1 (fJ b45)),(100100,.rows false 66 1 (dK bI))]⟩
def Uu (s0:aa) (st1:an) (aN:Int) (bF eM:List I):LS:=⟨[(0,.agg (aV s0)),(1,.agg [.ms 100100 1 0 st1.J.length]),(2,.int .i64 aN),(3,.slice 65 3 (aI bF)),(4,.slice 65 3 (aI eM))],[(100100,.rows false 66 1 (dK st1.J))]⟩
def uC (k_1 : Int → (List I) → (List I) → Bool → (List (List I)) → Int → Int → (List (List (List I))) → aa → an → an → (List (List I)) → Option (an × (List (List (List I))))) (n : Nat) (aN : Int) (bF eM : List I) (eK : Bool) (r14 : List I) (c15 : Int) (t23 : List (List I)) (t24 t25 : Int) (bI : List (List (List I))) (b5 : aa) (b6 b10 : an) (b45 : List (List I)) : Option (an × (List (List (List I)))) :=
 if c15 != 0 then
 (app b45 [r14]).bind fun x6 =>
 k_1 aN bF eM eK t23 t24 (w64 (t25 + 1)) bI b5 (an.mk bI) (an.mk []) x6
 else
 k_1 aN bF eM eK t23 t24 (w64 (t25 + 1)) bI b5 (an.mk bI) (an.mk []) b45
theorem R7 {k_1} (aG : K12 (A37 [0, 1, 0, 1, 1, 1]) Af k_1) (n : Nat) : K14 (A37 [1, 1, 1, 0, 0, 1, 1, 0, 0, 1, 0, 1, 1, 1]) afV (uC k_1 n) := fun aN bF eM eK r14 c15 t23 t24 t25 bI b5 b6 b10 b45 r h =>
 ie h (fun c0 h =>
 be h fun x6 hx6 h =>
 ra (aG h) [(1, eb c0), (3, R42.app hx6 (R42.srW [r14]))]) (fun c0 h =>
 ra (aG h) [(1, eb c0)])
def Hl (k_3 : Int → (List I) → Bool → (List (List (List I))) → an → an → (List (List I)) → Option (an × (List (List (List I))))) (back : Int → (List I) → (List I) → Bool → (List (List I)) → Int → Int → (List (List (List I))) → aa → an → an → (List (List I)) → Option (an × (List (List (List I))))) (n : Nat) (aN : Int) (bF eM : List I) (eK : Bool) (t23 : List (List I)) (t24 t25 : Int) (bI : List (List (List I))) (b5 : aa) (b6 b10 : an) (b45 : List (List I)) : Option (an × (List (List (List I)))) :=
 if decide (t25 < t24) then
 (idx t23 t25).bind fun x2 =>
 (F34 n b5 aN x2).bind fun x9 =>
 (F22 n x9 bF).bind fun x12 =>
 if !decide (x12 < 0) then
 if !eK then
 (F54 n eM).bind fun x23 =>
 (app b45 [x23]).bind fun x26 =>
 uC back n aN bF eM true x2 x12 t23 t24 t25 bI b5 (an.mk bI) (an.mk []) x26
 else
 uC back n aN bF eM eK x2 x12 t23 t24 t25 bI b5 (an.mk bI) (an.mk []) b45
 else
 uC back n aN bF eM eK x2 x12 t23 t24 t25 bI b5 (an.mk bI) (an.mk []) b45
 else
 k_3 aN eM eK bI (an.mk bI) (an.mk []) b45
theorem alz {k_3} (bw : K7 (A37 [1, 1, 1, 1]) I8 k_3) {back} (aw : K12 (A37 [0, 1, 0, 1, 1, 1]) Af back) (n : Nat) : K12 (A37 [0, 1, 0, 1, 1, 1]) Af (Hl k_3 back n) := fun aN bF eM eK t23 t24 t25 bI b5 b6 b10 b45 r h =>
 ie h (fun c0 h =>
 be h fun x2 hx2 h =>
 be h fun x9 hx9 h =>
 be h fun x12 bT h =>
 ie h (fun c1 h =>
 ie h (fun c2 h =>
 be h fun x23 eN h =>
 be h fun x26 iw h =>
 ra (R7 aw n h) [(0, eb c0), (0, R42.idx hx2), (5, .call (nQ n hx9) [] [] [(32, 200000)]), (1, R64.frz 32 x9), (0, .call (jO n bT) [.one (.sl 0 0)] [] []), (2, eb c1), (2, eb c2), (3, .call (pY n eN) [] [] [(43, 200000)]), (0, R64.frz 43 x23), (0, .norm [(43, .one (.sl 0 0))] []), (1, R42.app iw (R42.srW [x23]))]) (fun c2 h =>
 ra (R7 aw n h) [(0, eb c0), (0, R42.idx hx2), (5, .call (nQ n hx9) [] [] [(32, 200000)]), (1, R64.frz 32 x9), (0, .call (jO n bT) [.one (.sl 0 0)] [] []), (2, eb c1), (2, eb c2)])) (fun c1 h =>
 ra (R7 aw n h) [(0, eb c0), (0, R42.idx hx2), (5, .call (nQ n hx9) [] [] [(32, 200000)]), (1, R64.frz 32 x9), (0, .call (jO n bT) [.one (.sl 0 0)] [] []), (2, eb c1)])) (fun c0 h =>
 ra (bw h) [(0, eb c0)])
def rf (k_3:Int→(List I)→Bool→(List (List (List I)))→an→an→(List (List I))→Option (an×(List (List (List I))))):Nat→Int→(List I)→(List I)→Bool→(List (List I))→Int→Int→(List (List (List I)))→aa→an→an→(List (List I))→Option (an×(List (List (List I))))
 |0,_,_,_,_,_,_,_,_,_,_,_,_=>none
 |n+1,aN,bF,eM,eK,t23,t24,t25,bI,b5,b6,b10,b45=>Hl k_3 (rf k_3 n) n aN bF eM eK t23 t24 t25 bI b5 b6 b10 b45
theorem ado {k_3} (bw:K7 (A37 [1,1,1,1]) I8 k_3):∀n:Nat,K12 (A37 [0,1,0,1,1,1]) Af (rf k_3 n)
 |0=>fun _ _ _ _ _ _ _ _ _ _ _ _ _ h=>nz h
 |n+1=>fun _ _ _ _ _ _ _ _ _ _ _ _ _ h=>alz bw (ado bw n) n h
def Hk (n : Nat) (aN : Int) (bI : List (List (List I))) (b6 b10 : an) (b45 : List (List I)) : Option (an × (List (List (List I)))) :=
 (bnd bI.length aN).bind fun x5 =>
 (bI[0 + x5]?).bind fun x7 =>
 (setAt bI (0 + x5) b45).bind fun z8 =>
 some ((an.mk z8), z8)
theorem aeg (n : Nat) : K5 (A37 [1, 1, 1, 1, 1]) afU (Hk n) := fun aN bI b6 b10 b45 r h =>
 be h fun x5 hx5 h =>
 be h fun x7 hx7 h =>
 be h fun z8 hz8 h =>
 rr h [(4, cY hx5), (0, R42.frz 45 b45), (0, .norm [(63, .one (.sl 0 0))] []), (0, R66.sto 0 [.slice 43 1 (fJ b45)] hx7 hz8 (by kernel_rfl)), (2, .beq 10 (congrArg (fun n_ => (Bx.flat 33 [.ms 100100 1 0 n_])) ((cy hz8).symm)))]
def yn (n : Nat) (aN : Int) (eM : List I) (eK : Bool) (bI : List (List (List I))) (b6 b10 : an) (b45 : List (List I)) : Option (an × (List (List (List I)))) :=
 if !eK then
 (F54 n eM).bind fun x5 =>
 (app b45 [x5]).bind fun x8 =>
 Hk n aN bI (an.mk bI) (an.mk []) x8
 else
 Hk n aN bI (an.mk bI) (an.mk []) b45
theorem aly (n : Nat) : K7 (A37 [1, 1, 1, 1]) I8 (yn n) := fun aN eM eK bI b6 b10 b45 r h =>
 ie h (fun c0 h =>
 be h fun x5 hx5 h =>
 be h fun x8 hx8 h =>
 ra (aeg n h) [(1, eb c0), (2, .call (pY n hx5) [] [] [(57, 200000)]), (0, R64.frz 57 x5), (0, .norm [(57, .one (.sl 0 0))] []), (1, R42.app hx8 (R42.srW [x5]))]) (fun c0 h =>
 ra (aeg n h) [(1, eb c0)])
def Tb (n : Nat) (s0 : aa) (st1 : an) (aN : Int) (bF eM : List I) : Option (an × (List (List (List I)))) :=
 (bnd st1.J.length aN).bind fun x12 =>
 (st1.J[0 + x12]?).bind fun x14 =>
 rf (yn n) n aN bF eM ((eM.length : Int) == 0) x14 (x14.length : Int) 0 st1.J s0 st1 (an.mk []) []
theorem alx (n : Nat) : K5 (A37 []) Uu (Tb n) := fun s0 st1 aN bF eM r h =>
 be h fun x12 bT h =>
 be h fun x14 gB h =>
 ra (ado (aly n) n h) [(5, .eqv (R64.au eM)), (5, cY bT), (0, R66.row gB), (0, .eqv (R42.au x14)), (1, .born [11] [] 45 true 43 1)]
def F37 (n:Nat) (s0:aa) (st1:an) (aN:Int) (bF eM:List I):Option (an×(List (List (List I)))):=Tb n s0 st1 aN bF eM
theorem ev37 (n:Nat):K5 C37 Uu (F37 n):=fun _ _ _ _ _ _ h=>ca (X:=x37) (alx n h)
def acr (r:(an×aj)):AV:=.agg (cN r.1)
def WM (r:(an×aj)):List (Nat×Bx):= [(0,.flat 74 (bA r.2))]
def x11:=fx E0 Tryz.f11 [0] [0]
def A11:=Ax x11 acr WM
def C11:=Cx E0 11 acr WM
def Jr (dR t8 n9 t18 t19:Int) (b0:aj) (b4:aa) (b6 b7:an) (b14:List (List (List I))):LS:=⟨[(0,.loc 0 0),(2,.int .i64 dR),(4,.loc 4 0),(6,.loc 6 0),(7,.loc 7 0),(8,.int .i64 t8),(9,.int .i64 n9),(18,.int .i64 t18),(19,.int .i64 t19)],[(0,.flat 74 (bA b0)),(4,.flat 26 (aV b4)),(6,.flat 33 [.aY]),(7,.flat 33 [.ms 14 1 0 b14.length]),(14,.rows false 66 1 (dK b14))]⟩
def Jq (dR t18 t19:Int) (b0:aj) (b4:aa) (b6 b7:an) (b14:List (List (List I))):LS:=⟨[(0,.loc 0 0),(2,.int .i64 dR),(4,.loc 4 0),(6,.loc 6 0),(7,.loc 7 0),(18,.int .i64 t18),(19,.int .i64 t19)],[(0,.flat 74 (bA b0)),(4,.flat 26 (aV b4)),(6,.flat 33 [.aY]),(7,.flat 33 [.ms 14 1 0 b14.length]),(14,.rows false 66 1 (dK b14))]⟩
def Aj (dR t18 t19:Int) (b0:aj) (b4:aa) (b6 b7:an) (b14:List (List (List I))):LS:=⟨[(0,.loc 0 0),(2,.int .i64 dR),(4,.loc 4 0),(6,.loc 6 0),(7,.loc 7 0),(18,.int .i64 t18),(19,.int .i64 t19)],[(0,.flat 74 (bA b0)),(4,.flat 26 (aV b4)),(6,.flat 33 [.aY]),(7,.flat 33 [.ms 14 1 0 b14.length]),(14,.rows false 66 1 (dK b14))]⟩
def Jp (b0:aj) (b6 b7:an) (b14:List (List (List I))):LS:=⟨[(6,.loc 6 0),(7,.loc 7 0)],[(0,.flat 74 (bA b0)),(6,.flat 33 [.aY]),(7,.flat 33 [.ms 14 1 0 b14.length]),(14,.rows false 66 1 (dK b14))]⟩
def US (c0:aj) (s1:aa) (dR:Int):LS:=⟨[(0,.loc 0 0),(1,.agg (aV s1)),(2,.int .i64 dR)],[(0,.flat 74 (bA c0))]⟩
def HI (k_1 : Int → Int → Int → aj → aa → an → an → (List (List (List I))) → Option (an × aj)) (back : Int → Int → Int → Int → Int → aj → aa → an → an → (List (List (List I))) → Option (an × aj)) (n : Nat) (dR t8 n9 t18 t19 : Int) (b0 : aj) (b4 : aa) (b6 b7 : an) (b14 : List (List (List I))) : Option (an × aj) :=
 if decide (0 < n9) then
 (F32 n b4 t8).bind fun x6 =>
 (idx b4.J t8).bind fun x11_ =>
 (F33 n b0 x6 x11_.av dR).bind fun x16 =>
 (F34 n b4 t8 x16.1).bind fun x25 =>
 (F37 n b4 (an.mk b14) t8 x25 x16.1).bind fun x28 =>
 back dR t8 (w64 (n9 - 1)) t18 t19 x16.2 b4 (an.mk []) (an.mk x28.2) x28.2
 else
 k_1 dR t18 t19 b0 b4 (an.mk []) (an.mk b14) b14
theorem amr {k_1} (aG : K8 (A11 [1, 1, 1, 0, 0, 1, 0, 1, 1]) Jq k_1) {back} (aw : K10 (A11 [0, 1, 1, 0, 0, 1, 1, 0, 0, 1, 0, 1, 1]) Jr back) (n : Nat) : K10 (A11 [0, 1, 1, 0, 0, 1, 1, 0, 0, 1, 0, 1, 1]) Jr (HI k_1 back n) := fun dR t8 n9 t18 t19 b0 b4 b6 b7 b14 r h =>
 ie h (fun c0_ h =>
 be h fun x6 hx6 h =>
 be h fun x11_ cM h =>
 be h fun x16 dz h =>
 be h fun x25 pL h =>
 be h fun x28 jb h =>
 ra (aw h) [(1, eb c0_), (3, .call (cd (e := 3) (z := true) (Q := aX x6) (jN n hx6) (R3.len x6)) [] [] []), (3, R62.idx cM), (3, .call (Rp n dz) [.one .same, .one (.sl 0 0)] [(0, 0)] [(39, 200000)]), (1, R64.frz 39 x16.1), (6, .call (cd (e := 65) (z := true) (Q := aI x25) (nQ n pL) (R64.len x25)) [.one .same, .one .same, .one (.sl 0 0)] [] []), (1, .call (ev37 n jb) [.one .same, .one .same, .one .same, .one (.sl 0 0), .one (.sl 0 0)] [(14, 100100)] [])]) (fun c0_ h =>
 ra (aG h) [(1, eb c0_)])
def yb (k_1:Int→Int→Int→aj→aa→an→an→(List (List (List I)))→Option (an×aj)):Nat→Int→Int→Int→Int→Int→aj→aa→an→an→(List (List (List I)))→Option (an×aj)
 |0,_,_,_,_,_,_,_,_,_,_=>none
 |n+1,dR,t8,n9,t18,t19,b0,b4,b6,b7,b14=>HI k_1 (yb k_1 n) n dR t8 n9 t18 t19 b0 b4 b6 b7 b14
theorem adA {k_1} (aG:K8 (A11 [1,1,1,0,0,1,0,1,1]) Jq k_1):∀n:Nat,K10 (A11 [0,1,1,0,0,1,1,0,0,1,0,1,1]) Jr (yb k_1 n)
 |0=>fun _ _ _ _ _ _ _ _ _ _ _ h=>nz h
 |n+1=>fun _ _ _ _ _ _ _ _ _ _ _ h=>amr aG (adA aG n) n h
def HH (k_2 : Int → Int → Int → aj → aa → an → an → (List (List (List I))) → Option (an × aj)) (n : Nat) (dR t18 t19 : Int) (b0 : aj) (b4 : aa) (b6 b7 : an) (b14 : List (List (List I))) : Option (an × aj) :=
 k_2 dR t18 (w64 (t19 + 1)) b0 b4 (an.mk []) (an.mk b14) b14
theorem amq {k_2} (bP : K8 (A11 [0, 1, 0, 1, 1]) Aj k_2) (n : Nat) : K8 (A11 [1, 1, 1, 0, 0, 1, 0, 1, 1]) Jq (HH k_2 n) := fun dR t18 t19 b0 b4 b6 b7 b14 r h =>
 ra (bP h) []
def HG (k_3 : aj → an → an → (List (List (List I))) → Option (an × aj)) (back : Int → Int → Int → aj → aa → an → an → (List (List (List I))) → Option (an × aj)) (n : Nat) (dR t18 t19 : Int) (b0 : aj) (b4 : aa) (b6 b7 : an) (b14 : List (List (List I))) : Option (an × aj) :=
 if decide (t19 < t18) then
 (F24 n b0 5).bind fun x5 =>
 yb (HH back n) n dR t19 x5.1 t18 t19 x5.2 b4 (an.mk []) (an.mk b14) b14
 else
 k_3 b0 (an.mk []) (an.mk b14) b14
theorem amp {k_3} (bw : K4 (A11 [1, 1, 1]) Jp k_3) {back} (aw : K8 (A11 [0, 1, 0, 1, 1]) Aj back) (n : Nat) : K8 (A11 [0, 1, 0, 1, 1]) Aj (HG k_3 back n) := fun dR t18 t19 b0 b4 b6 b7 b14 r h =>
 ie h (fun c0_ h =>
 be h fun x5 hx5 h =>
 ra (adA (amq aw n) n h) [(0, eb c0_), (3, .call (bO n hx5) [] [(0, 0)] [])]) (fun c0_ h =>
 ra (bw h) [(0, eb c0_)])
def uA (k_3:aj→an→an→(List (List (List I)))→Option (an×aj)):Nat→Int→Int→Int→aj→aa→an→an→(List (List (List I)))→Option (an×aj)
 |0,_,_,_,_,_,_,_,_=>none
 |n+1,dR,t18,t19,b0,b4,b6,b7,b14=>HG k_3 (uA k_3 n) n dR t18 t19 b0 b4 b6 b7 b14
theorem adz {k_3} (bw:K4 (A11 [1,1,1]) Jp k_3):∀n:Nat,K8 (A11 [0,1,0,1,1]) Aj (uA k_3 n)
 |0=>fun _ _ _ _ _ _ _ _ _ h=>nz h
 |n+1=>fun _ _ _ _ _ _ _ _ _ h=>amp bw (adz bw n) n h
def Cd (n : Nat) (b0 : aj) (b6 b7 : an) (b14 : List (List (List I))) : Option (an × aj) :=
 some ((an.mk b14), b0)
theorem amo (n : Nat) : K4 (A11 [1, 1, 1]) Jp (Cd n) := fun b0 b6 b7 b14 r h =>
 rr h [(2, R66.frz 14 b14)]
def Tv (n : Nat) (c0 : aj) (s1 : aa) (dR : Int) : Option (an × aj) :=
 (pc (s1.J.length : Int) ([] : (List (List I)))).bind fun x6 =>
 uA (Cd n) n dR (s1.J.length : Int) 0 c0 s1 (an.mk []) (an.mk x6) x6
theorem amn (n : Nat) : K3 (A11 []) US (Tv n) := fun c0 s1 dR r h =>
 be h fun x6 hx6 h =>
 ra (adz (amo n) n h) [(4, .eqv (R62.au s1.J)), (0, R66.made [.aY] [.sl 43 1] hx6 (by kernel_rfl)), (0, .seq 14 (congrArg (fun n_ => (AV.ms 14 1 0 n_)) ((YR hx6)))), (5, .eqv (R62.au s1.J))]
def F11 (n:Nat) (c0:aj) (s1:aa) (dR:Int):Option (an×aj):=Tv n c0 s1 dR
theorem ev11 (n:Nat):K3 C11 US (F11 n):=fun _ _ _ _ h=>ca (X:=x11) (amn n h)
def abP (r:(I×aj)):AV:=.agg (fF r.1)
def Wi (r:(I×aj)):List (Nat×Bx):= [(0,.flat 74 (bA r.2))]
def x43:=fx E0 Tryz.f43 [0] [0]
def A43:=Ax x43 abP Wi
def C43:=Cx E0 43 abP Wi
def Un (c0:aj):LS:=⟨[(0,.loc 0 0)],[(0,.flat 74 (bA c0))]⟩
def S5 (n : Nat) (c0 : aj) : Option (I × aj) :=
 (F24 n c0 5).bind fun x3 =>
 if decide ((w64 (1 + x3.1)) < 3) then
 some ((I.mk (w64 (1 + x3.1)) 0 ByteArray.empty), x3.2)
 else
 (F74 n x3.2 (w64 (1 + x3.1))).bind fun x11 =>
 some (x11.1, x11.2)
theorem alf (n : Nat) : K1 (A43 []) Un (S5 n) := fun c0 r h =>
 be h fun x3 hx3 h =>
 ie h (fun c0_ h =>
 rr h [(2, .call (bO n hx3) [] [(0, 0)] []), (3, eb c0_)]) (fun c0_ h =>
 be h fun x11 cM h =>
 rr h [(2, .call (bO n hx3) [] [(0, 0)] []), (3, eb c0_), (2, .call (Lh n cM) [] [(0, 0)] [])])
def F43 (n:Nat) (c0:aj):Option (I×aj):=S5 n c0
theorem aaf (n:Nat):K1 C43 Un (F43 n):=fun _ _ h=>ca (X:=x43) (alf n h)
def acp (r:((List ak)×aj)):AV:=.ms 200000 5 0 r.1.length
def WJ (r:((List ak)×aj)):List (Nat×Bx):= [(0,.flat 74 (bA r.2)),(200000,.rows false 55 5 (cn r.1))]
def x13:=fx E0 Tryz.f13 [0] [0,200000]
def A13:=Ax x13 acp WJ
def C13:=Cx E0 13 acp WJ
def UQ (c0:aj) (l1:List ak):LS:=⟨[(0,.loc 0 0),(1,.slice 55 5 (cn l1))],[(0,.flat 74 (bA c0))]⟩
def Tt (n : Nat) (c0 : aj) (l1 : List ak) : Option ((List ak) × aj) :=
 (app [] l1).bind fun x3 =>
 if (x3.length : Int) == 0 then
 (F24 n c0 5).bind fun x10 =>
 (F24 n x10.2 4).bind fun yP =>
 some ([(ak.mk x10.1 yP.1 [] [] [])], yP.2)
 else
 (F24 n c0 (x3.length : Int)).bind fun yP =>
 (bnd x3.length yP.1).bind fun x15 =>
 (F24 n yP.2 8).bind fun x19 =>
 if x19.1 == 0 then
 (F24 n x19.2 5).bind fun x25 =>
 (x3[0 + x15]?).bind fun x29 =>
 (setAt x3 (0 + x15) (ak.mk x25.1 x29.ar x29.av x29.af x29.aJ)).bind fun z30 =>
 some (z30, x25.2)
 else
 if x19.1 == 1 then
 (F24 n x19.2 7).bind fun x27 =>
 (x3[0 + x15]?).bind fun x32 =>
 (setAt x3 (0 + x15) (ak.mk x32.fOp (w64 (x27.1 - 1)) x32.av x32.af x32.aJ)).bind fun z33 =>
 some (z33, x27.2)
 else
 if x19.1 == 2 then
 (x3[0 + x15]?).bind fun x31 =>
 (app [] x31.av).bind fun x33 =>
 (F43 n x19.2).bind fun x36 =>
 (app x33 [x36.1]).bind fun x39 =>
 (x3[0 + x15]?).bind fun x43 =>
 (setAt x3 (0 + x15) (ak.mk x43.fOp x43.ar x39 x43.af x43.aJ)).bind fun z44 =>
 some (z44, x36.2)
 else
 if x19.1 == 3 then
 (x3[0 + x15]?).bind fun x33 =>
 (app [] x33.aJ).bind fun x35 =>
 (F43 n x19.2).bind fun x38 =>
 (app x35 [x38.1]).bind fun x41 =>
 (x3[0 + x15]?).bind fun x45 =>
 (setAt x3 (0 + x15) (ak.mk x45.fOp x45.ar x45.av x45.af x41)).bind fun z46 =>
 some (z46, x38.2)
 else
 if x19.1 == 4 then
 (x3[0 + x15]?).bind fun x35 =>
 (app [] x35.af).bind fun x37 =>
 (F24 n x19.2 5).bind fun x40 =>
 (app x37 [w64 (x40.1 - 1)]).bind fun x44 =>
 (x3[0 + x15]?).bind fun x48 =>
 (setAt x3 (0 + x15) (ak.mk x48.fOp x48.ar x48.av x44 x48.aJ)).bind fun z49 =>
 some (z49, x40.2)
 else
 if x19.1 == 5 then
 (bnd x3.length 0).bind fun x35 =>
 (x3[0 + x35]?).bind fun x37 =>
 (app x3 [x37]).bind fun x40 =>
 some (x40, x19.2)
 else
 if x19.1 == 6 then
 (bnd x3.length (w64 ((x3.length : Int) - 1))).bind fun x44 =>
 (x3[0 + x44]?).bind fun x46 =>
 (bnd x3.length 0).bind fun x49 =>
 (x3[0 + x49]?).bind fun x51 =>
 (bnd x3.length 0).bind fun x53 =>
 (x3[0 + x53]?).bind fun x55 =>
 (setAt x3 (0 + x53) x46).bind fun z56 =>
 (bnd x3.length (w64 ((x3.length : Int) - 1))).bind fun x58 =>
 (z56[0 + x58]?).bind fun x60 =>
 (setAt z56 (0 + x58) x51).bind fun z61 =>
 some (z61, x19.2)
 else
 (x3[0 + x15]?).bind fun x38 =>
 if decide (0 < (x38.aJ.length : Int)) then
 (x3[0 + x15]?).bind fun x46 =>
 (app [] x46.aJ).bind fun x48 =>
 (x3[0 + x15]?).bind fun x52 =>
 (F24 n x19.2 (x48.length : Int)).bind fun x64 =>
 (F43 n x64.2).bind fun x67 =>
 (bnd x48.length x64.1).bind fun x69 =>
 (x48[0 + x69]?).bind fun x71 =>
 (setAt x48 (0 + x69) x67.1).bind fun z72 =>
 (setAt x3 (0 + x15) (ak.mk x52.fOp x52.ar x52.av x52.af z72)).bind fun z74 =>
 some (z74, x67.2)
 else
 some (x3, x19.2)
theorem amj (n : Nat) : K2 (A13 []) UQ (Tt n) := fun c0 l1 r h =>
 be h fun x3 hx3 h =>
 ie h (fun c0_ h =>
 be h fun x10 cg h =>
 be h fun yP bY h =>
 rr h [(2, .born [] [] 7 true 55 5), (0, R54.app (xs := []) hx3 .dat), (3, eb c0_), (1, .call (bO n cg) [] [(0, 0)] []), (1, .call (bO n bY) [] [(0, 0)] []), (1, .norm [(15, .agg [.same, .same, .sl 65 3, .sl 3 1, .sl 65 3])] []), (2, .ren 16 200000)]) (fun c0_ h =>
 be h fun yP bY h =>
 be h fun x15 cK h =>
 be h fun x19 dM h =>
 ie h (fun c1 h =>
 be h fun x25 pL h =>
 be h fun x29 rC h =>
 be h fun z30 hz30 h =>
 rr h [(2, .born [] [] 7 true 55 5), (0, R54.app (xs := []) hx3 .dat), (3, eb c0_), (4, .call (bO n bY) [] [(0, 0)] []), (0, cY cK), (2, .call (bO n dM) [] [(0, 0)] []), (0, eb c1), (3, .call (bO n pL) [] [(0, 0)] []), (2, R54.sto 0 [.int .i64 x25.1] rC hz30 (by kernel_rfl)), (2, .ren 7 200000), (0, .seq 4 (congrArg (fun n_ => (AV.ms 200000 5 0 n_)) ((cy hz30).symm))), (0, .norm [] [(200000, .any)])]) (fun c1 h =>
 ie h (fun c2 h =>
 be h fun x27 nL h =>
 be h fun x32 lV h =>
 be h fun z33 hz33 h =>
 rr h [(2, .born [] [] 7 true 55 5), (0, R54.app (xs := []) hx3 .dat), (3, eb c0_), (4, .call (bO n bY) [] [(0, 0)] []), (0, cY cK), (2, .call (bO n dM) [] [(0, 0)] []), (0, eb c1), (1, eb c2), (3, .call (bO n nL) [] [(0, 0)] []), (3, R54.sto 1 [.int .i64 (w64 (x27.1 - 1))] lV hz33 (by kernel_rfl)), (2, .ren 7 200000), (0, .seq 4 (congrArg (fun n_ => (AV.ms 200000 5 0 n_)) ((cy hz33).symm))), (0, .norm [] [(200000, .any)])]) (fun c2 h =>
 ie h (fun c3 h =>
 be h fun x31 pJ h =>
 be h fun x33 lj h =>
 be h fun x36 zp h =>
 be h fun x39 vC h =>
 be h fun x43 nK h =>
 be h fun z44 hz44 h =>
 rr h [(2, .born [] [] 7 true 55 5), (0, R54.app (xs := []) hx3 .dat), (3, eb c0_), (4, .call (bO n bY) [] [(0, 0)] []), (0, cY cK), (2, .call (bO n dM) [] [(0, 0)] []), (0, eb c1), (1, eb c2), (1, eb c3), (5, R54.row pJ), (0, .born [] [] 75 true 65 3), (0, R64.app (xs := []) lj .dat), (1, .call (aaf n zp) [] [(0, 0)] []), (1, R64.app vC (R64.srW [x36.1])), (2, R64.frz 75 x39), (0, .norm [(79, .one (.sl 0 0))] []), (0, R54.sto 2 [.slice 65 3 (aI x39)] nK hz44 (by kernel_rfl)), (2, .ren 7 200000), (0, .seq 4 (congrArg (fun n_ => (AV.ms 200000 5 0 n_)) ((cy hz44).symm))), (0, .norm [] [(200000, .any)])]) (fun c3 h =>
 ie h (fun c4 h =>
 be h fun x33 lj h =>
 be h fun x35 pI h =>
 be h fun x38 vD h =>
 be h fun x41 ZU h =>
 be h fun x45 ZT h =>
 be h fun z46 hz46 h =>
 rr h [(2, .born [] [] 7 true 55 5), (0, R54.app (xs := []) hx3 .dat), (3, eb c0_), (4, .call (bO n bY) [] [(0, 0)] []), (0, cY cK), (2, .call (bO n dM) [] [(0, 0)] []), (0, eb c1), (1, eb c2), (1, eb c3), (1, eb c4), (5, R54.row lj), (0, .born [] [] 89 true 65 3), (0, R64.app (xs := []) pI .dat), (1, .call (aaf n vD) [] [(0, 0)] []), (1, R64.app ZU (R64.srW [x38.1])), (2, R64.frz 89 x41), (0, .norm [(93, .one (.sl 0 0))] []), (0, R54.sto 4 [.slice 65 3 (aI x41)] ZT hz46 (by kernel_rfl)), (2, .ren 7 200000), (0, .seq 4 (congrArg (fun n_ => (AV.ms 200000 5 0 n_)) ((cy hz46).symm))), (0, .norm [] [(200000, .any)])]) (fun c4 h =>
 ie h (fun c5 h =>
 be h fun x35 pI h =>
 be h fun x37 lU h =>
 be h fun x40 DH h =>
 be h fun x44 DG h =>
 be h fun x48 ZS h =>
 be h fun z49 hz49 h =>
 rr h [(2, .born [] [] 7 true 55 5), (0, R54.app (xs := []) hx3 .dat), (3, eb c0_), (4, .call (bO n bY) [] [(0, 0)] []), (0, cY cK), (2, .call (bO n dM) [] [(0, 0)] []), (0, eb c1), (1, eb c2), (1, eb c3), (1, eb c4), (1, eb c5), (5, R54.row pI), (0, .born [] [] 103 true 3 1), (0, R3.app (xs := []) lU .dat), (1, .call (bO n DH) [] [(0, 0)] []), (2, R3.app DG (R3.srW [w64 (x40.1 - 1)])), (2, R3.frz 103 x44), (0, .norm [(108, .one (.sl 0 0))] []), (0, R54.sto 3 [.slice 3 1 (aX x44)] ZS hz49 (by kernel_rfl)), (2, .ren 7 200000), (0, .seq 4 (congrArg (fun n_ => (AV.ms 200000 5 0 n_)) ((cy hz49).symm))), (0, .norm [] [(200000, .any)])]) (fun c5 h =>
 ie h (fun c6 h =>
 be h fun x35 pI h =>
 be h fun x37 lU h =>
 be h fun x40 DH h =>
 rr h [(2, .born [] [] 7 true 55 5), (0, R54.app (xs := []) hx3 .dat), (3, eb c0_), (4, .call (bO n bY) [] [(0, 0)] []), (0, cY cK), (2, .call (bO n dM) [] [(0, 0)] []), (0, eb c1), (1, eb c2), (1, eb c3), (1, eb c4), (1, eb c5), (1, eb c6), (3, cY pI), (0, R54.row lU), (1, R54.app DH (R54.srW [x37])), (3, .ren 7 200000), (0, .norm [] [(200000, .any)])]) (fun c6 h =>
 ie h (fun c7 h =>
 be h fun x44 DG h =>
 be h fun x46 zn h =>
 be h fun x49 Q3 h =>
 be h fun x51 ZR h =>
 be h fun x53 QZ h =>
 be h fun x55 hx55 h =>
 be h fun z56 hz56 h =>
 be h fun x58 hx58 h =>
 be h fun x60 hx60 h =>
 be h fun z61 hz61 h =>
 rr h [(2, .born [] [] 7 true 55 5), (0, R54.app (xs := []) hx3 .dat), (3, eb c0_), (4, .call (bO n bY) [] [(0, 0)] []), (0, cY cK), (2, .call (bO n dM) [] [(0, 0)] []), (0, eb c1), (1, eb c2), (1, eb c3), (1, eb c4), (1, eb c5), (1, eb c6), (1, eb c7), (10, cY DG), (0, R54.row zn), (1, cY Q3), (0, R54.row ZR), (0, cY QZ), (0, R54.sto 0 (fq x46) hx55 hz56 (by kernel_rfl)), (0, cY hx58), (0, R54.sto 0 (fq x51) hx60 hz61 (by kernel_rfl)), (2, .ren 7 200000), (0, .seq 4 (congrArg (fun n_ => (AV.ms 200000 5 0 n_)) (((cy hz61).trans (cy hz56)).symm))), (0, .norm [] [(200000, .any)])]) (fun c7 h =>
 be h fun x38 vD h =>
 ie h (fun c8 h =>
 be h fun x46 zn h =>
 be h fun x48 ZS h =>
 be h fun x52 Q1 h =>
 be h fun x64 hx64 h =>
 be h fun x67 hx67 h =>
 be h fun x69 hx69 h =>
 be h fun x71 hx71 h =>
 be h fun z72 KD h =>
 be h fun z74 hz74 h =>
 rr h [(2, .born [] [] 7 true 55 5), (0, R54.app (xs := []) hx3 .dat), (3, eb c0_), (4, .call (bO n bY) [] [(0, 0)] []), (0, cY cK), (2, .call (bO n dM) [] [(0, 0)] []), (0, eb c1), (1, eb c2), (1, eb c3), (1, eb c4), (1, eb c5), (1, eb c6), (1, eb c7), (4, R54.row vD), (0, .eqv (R64.au x38.aJ)), (0, eb c8), (4, R54.row zn), (0, .born [] [] 36 true 65 3), (0, R64.app (xs := []) ZS .dat), (2, R54.hol 4 Q1), (10, .call (bO n hx64) [] [(0, 0)] []), (1, .call (aaf n hx67) [] [(0, 0)] []), (0, cY hx69), (0, R64.sto 0 (fF x67.1) hx71 KD (by kernel_rfl)), (0, .seq 36 (congrArg (fun n_ => (AV.ms 36 3 0 n_)) ((cy KD).symm))), (0, .seq 42 (congrArg (fun n_ => (AV.ms 36 3 0 n_)) ((cy KD).symm))), (0, .seq 47 (congrArg (fun n_ => (AV.ms 36 3 0 n_)) ((cy KD).symm))), (0, .beq 7 (congrArg (fun n_ => (Bx.hole 55 5 ((cn x3).set (0 + x15) (cx (fq x52) 4 [.undef])) ((0 + x15) * 5 + 4) (.ms 36 3 0 n_))) ((cy KD).symm))), (0, R64.frz 36 z72), (0, .norm [] [(7, .hol (.sl 0 0))]), (0, R54.clo 7 4 (.slice 65 3 (aI z72)) .undef Q1 hz74 (by kernel_rfl)), (2, .ren 7 200000), (0, .seq 4 (congrArg (fun n_ => (AV.ms 200000 5 0 n_)) ((cy hz74).symm)))]) (fun c8 h =>
 rr h [(2, .born [] [] 7 true 55 5), (0, R54.app (xs := []) hx3 .dat), (3, eb c0_), (4, .call (bO n bY) [] [(0, 0)] []), (0, cY cK), (2, .call (bO n dM) [] [(0, 0)] []), (0, eb c1), (1, eb c2), (1, eb c3), (1, eb c4), (1, eb c5), (1, eb c6), (1, eb c7), (4, R54.row vD), (0, .eqv (R64.au x38.aJ)), (0, eb c8), (2, .ren 7 200000), (0, .norm [] [(200000, .any)])])))))))))
def F13 (n:Nat) (c0:aj) (l1:List ak):Option ((List ak)×aj):=Tt n c0 l1
theorem ev13 (n:Nat):K2 C13 UQ (F13 n):=fun _ _ _ h=>ca (X:=x13) (amj n h)
def Vo (r:Bool):AV:=.bool r
def OM (r:Bool):List (Nat×Bx):= []
def x108:=fx E0 Tryz.f108 [] []
def uG:=Ax x108 Vo OM
def C108:=Cx E0 108 Vo OM
def aeD (i3 c4:Int) (w5:Bool) (fG:ByteArray) (eY:Nat):LS:=⟨[(3,.int .i64 i3),(4,.int .i32 c4),(5,.bool w5),(15,.it 15)],[(15,.iter fG eY)]⟩
def wO (fG:ByteArray) (eY:Nat):LS:=⟨[(15,.it 15)],[(15,.iter fG eY)]⟩
def CP:LS:=⟨[],[]⟩
def Oe (s0:ByteArray):LS:=⟨[(0,.str s0)],[]⟩
def wH (k_1 : ByteArray → Nat → Option Bool) (n : Nat) (i3 c4 : Int) (w5 : Bool) (fG : ByteArray) (eY : Nat) : Option Bool :=
 if !w5 then
 if i3 == 0 then
 some false
 else
 if c4 != 95 then
 if decide (c4 < 48) then
 some false
 else
 if decide (57 < c4) then
 some false
 else
 k_1 fG eY
 else
 k_1 fG eY
 else
 k_1 fG eY
theorem XU {k_1} (aG : K2 (uG [0, 1, 0, 1, 1]) wO k_1) (n : Nat) : K5 (uG [1, 1, 0, 1, 1, 0, 0, 1, 0, 1, 1]) aeD (wH k_1 n) := fun i3 c4 w5 fG eY r h =>
 ie h (fun c0 h =>
 ie h (fun c1 h =>
 rr h [(1, eb c0), (2, eb c1)]) (fun c1 h =>
 ie h (fun c2 h =>
 ie h (fun c3 h =>
 rr h [(1, eb c0), (2, eb c1), (2, eb c2), (2, eb c3)]) (fun c3 h =>
 ie h (fun c4_ h =>
 rr h [(1, eb c0), (2, eb c1), (2, eb c2), (2, eb c3), (2, eb c4_)]) (fun c4_ h =>
 ra (aG h) [(1, eb c0), (2, eb c1), (2, eb c2), (2, eb c3), (2, eb c4_)]))) (fun c2 h =>
 ra (aG h) [(1, eb c0), (2, eb c1), (2, eb c2)]))) (fun c0 h =>
 ra (aG h) [(1, eb c0)])
def Cl (k_2 : Option Bool) (back : ByteArray → Nat → Option Bool) (n : Nat) (fG : ByteArray) (eY : Nat) : Option Bool :=
 if decide (eY < fG.size) then
 if !decide (((Utf8.decode fG eY).1 : Int) < 97) then
 wH back n (eY : Int) ((Utf8.decode fG eY).1 : Int) (!decide (122 < ((Utf8.decode fG eY).1 : Int))) fG (eY + (Utf8.decode fG eY).2)
 else
 wH back n (eY : Int) ((Utf8.decode fG eY).1 : Int) false fG (eY + (Utf8.decode fG eY).2)
 else
 k_2
theorem ahm {k_2} (bP : K0 (uG [1, 1, 1]) CP k_2) {back} (aw : K2 (uG [0, 1, 0, 1, 1]) wO back) (n : Nat) : K2 (uG [0, 1, 0, 1, 1]) wO (Cl k_2 back n) := fun fG eY r h =>
 ie h (fun c0 h =>
 ie h (fun c1 h =>
 ra (XU aw n h) [(0, .nxt (of_decide_eq_true c0)), (6, eb c1)]) (fun c1 h =>
 ra (XU aw n h) [(0, .nxt (of_decide_eq_true c0)), (6, eb c1)])) (fun c0 h =>
 ra (bP h) [(0, .fin (of_decide_eq_false c0))])
def mg (k_2:Option Bool):Nat→ByteArray→Nat→Option Bool
 |0,_,_=>none
 |n+1,fG,eY=>Cl k_2 (mg k_2 n) n fG eY
theorem Xe {k_2} (bP:K0 (uG [1,1,1]) CP k_2):∀n:Nat,K2 (uG [0,1,0,1,1]) wO (mg k_2 n)
 |0=>fun _ _ _ h=>nz h
 |n+1=>fun _ _ _ h=>ahm bP (Xe bP n) n h
def qm (n : Nat) : Option Bool :=
 some true
theorem ahl (n : Nat) : K0 (uG [1, 1, 1]) CP (qm n) := fun r h =>
 rr h []
def M7 (n : Nat) (s0 : ByteArray) : Option Bool :=
 if decide ((s0.size : Int) < 1) then
 some false
 else
 if decide (32 < (s0.size : Int)) then
 some false
 else
 mg (qm n) n s0 0
theorem ahk (n : Nat) : K1 (uG []) Oe (M7 n) := fun s0 r h =>
 ie h (fun c0 h =>
 rr h [(3, eb c0)]) (fun c0 h =>
 ie h (fun c1 h =>
 rr h [(3, eb c0), (3, eb c1)]) (fun c1 h =>
 ra (Xe (ahl n) n h) [(3, eb c0), (3, eb c1)]))
def ME (n:Nat) (s0:ByteArray):Option Bool:=M7 n s0
theorem lZ (n:Nat):K1 C108 Oe (ME n):=fun _ _ h=>ca (X:=x108) (ahk n h)
def abt (r:Bool):AV:=.bool r
def VW (r:Bool):List (Nat×Bx):= []
def x76:=fx E0 Tryz.f76 [] []
def A76:=Ax x76 abt VW
def C76:=Cx E0 76 abt VW
def Is (t11:List ai) (t12 t13:Int) (t24:ByteArray) (t29 t34:Int) (t36:List aS) (t37:Int) (t45:List aS) (t46 t47:Int) (b9 b43:List (ByteArray×Bool)) (b5:ai):LS:=⟨[(3,.mp 9),(6,.mp 43),(11,.slice 63 5 (cO t11)),(12,.int .i64 t12),(13,.int .i64 t13),(22,.mp 9),(23,.loc 5 0),(24,.str t24),(25,.bool false),(28,.loc 5 2),(29,.int .i64 t29),(30,.bool false),(33,.loc 5 2),(34,.int .i64 t34),(35,.loc 5 1),(36,.slice 77 2 (kz t36)),(37,.int .i64 t37),(38,.bool false),(45,.slice 77 2 (kz t45)),(46,.int .i64 t46),(47,.int .i64 t47)],[(5,.flat 63 (fm b5)),(9,.map (jF AV.bool b9)),(43,.map (jF AV.bool b43))]⟩
def Ir (t11:List ai) (t12 t13:Int) (t24:ByteArray) (t29 t34:Int) (t36:List aS) (t37:Int) (b9:List (ByteArray×Bool)) (b5:ai):LS:=⟨[(3,.mp 9),(11,.slice 63 5 (cO t11)),(12,.int .i64 t12),(13,.int .i64 t13),(22,.mp 9),(23,.loc 5 0),(24,.str t24),(25,.bool false),(28,.loc 5 2),(29,.int .i64 t29),(30,.bool false),(33,.loc 5 2),(34,.int .i64 t34),(35,.loc 5 1),(36,.slice 77 2 (kz t36)),(37,.int .i64 t37),(38,.bool false)],[(5,.flat 63 (fm b5)),(9,.map (jF AV.bool b9))]⟩
def Ab (t11:List ai) (t12 t13:Int) (b9:List (ByteArray×Bool)):LS:=⟨[(3,.mp 9),(11,.slice 63 5 (cO t11)),(12,.int .i64 t12),(13,.int .i64 t13)],[(9,.map (jF AV.bool b9))]⟩
def Iq:LS:=⟨[],[]⟩
def TT (s0:aa):LS:=⟨[(0,.agg (aV s0))],[]⟩
def GD (k_1 : (List ai) → Int → Int → ByteArray → Int → Int → (List aS) → Int → (List (ByteArray × Bool)) → ai → Option Bool) (back : (List ai) → Int → Int → ByteArray → Int → Int → (List aS) → Int → (List aS) → Int → Int → (List (ByteArray × Bool)) → (List (ByteArray × Bool)) → ai → Option Bool) (n : Nat) (t11 : List ai) (t12 t13 : Int) (t24 : ByteArray) (t29 t34 : Int) (t36 : List aS) (t37 : Int) (t45 : List aS) (t46 t47 : Int) (b9 b43 : List (ByteArray × Bool)) (b5 : ai) : Option Bool :=
 if decide (t47 < t46) then
 (idx t45 t47).bind fun x2 =>
 (ME n x2.br).bind fun x9 =>
 if !x9 then
 some false
 else
 if (fA b43 x2.br false) then
 some false
 else
 if x2.ax != 3 then
 if x2.ax != 4 then
 if x2.ax != 5 then
 some false
 else
 back t11 t12 t13 t24 t29 t34 t36 t37 t45 t46 (w64 (t47 + 1)) b9 (fM b43 x2.br true) b5
 else
 back t11 t12 t13 t24 t29 t34 t36 t37 t45 t46 (w64 (t47 + 1)) b9 (fM b43 x2.br true) b5
 else
 back t11 t12 t13 t24 t29 t34 t36 t37 t45 t46 (w64 (t47 + 1)) b9 (fM b43 x2.br true) b5
 else
 k_1 t11 t12 t13 t24 t29 t34 t36 t37 b9 b5
theorem ake {k_1} (aG : K10 (A76 [1, 1, 1, 0, 0, 1, 0, 1, 1]) Ir k_1) {back} (aw : K14 (A76 [0, 1, 1, 1, 1, 1, 0, 0, 1, 1, 0, 0, 1, 0, 1, 1]) Is back) (n : Nat) : K14 (A76 [0, 1, 1, 1, 1, 1, 0, 0, 1, 1, 0, 0, 1, 0, 1, 1]) Is (GD k_1 back n) := fun t11 t12 t13 t24 t29 t34 t36 t37 t45 t46 t47 b9 b43 b5 r h =>
 ie h (fun c0 h =>
 be h fun x2 hx2 h =>
 be h fun x9 hx9 h =>
 ie h (fun c1 h =>
 rr h [(0, eb c0), (0, R76.idx hx2), (5, .call (lZ n hx9) [] [] []), (0, eb c1)]) (fun c1 h =>
 ie h (fun c2 h =>
 rr h [(0, eb c0), (0, R76.idx hx2), (5, .call (lZ n hx9) [] [] []), (0, eb c1), (4, .lkp false (gC c2))]) (fun c2 h =>
 ie h (fun c3 h =>
 ie h (fun c4 h =>
 ie h (fun c5 h =>
 rr h [(0, eb c0), (0, R76.idx hx2), (5, .call (lZ n hx9) [] [] []), (0, eb c1), (4, .lkp false (gC c2)), (4, .upd (lG (f := AV.bool) (k := x2.br) (v := true) b43)), (2, eb c3), (3, eb c4), (4, eb c5)]) (fun c5 h =>
 ra (aw h) [(0, eb c0), (0, R76.idx hx2), (5, .call (lZ n hx9) [] [] []), (0, eb c1), (4, .lkp false (gC c2)), (4, .upd (lG (f := AV.bool) (k := x2.br) (v := true) b43)), (2, eb c3), (3, eb c4), (4, eb c5)])) (fun c4 h =>
 ra (aw h) [(0, eb c0), (0, R76.idx hx2), (5, .call (lZ n hx9) [] [] []), (0, eb c1), (4, .lkp false (gC c2)), (4, .upd (lG (f := AV.bool) (k := x2.br) (v := true) b43)), (2, eb c3), (3, eb c4)])) (fun c3 h =>
 ra (aw h) [(0, eb c0), (0, R76.idx hx2), (5, .call (lZ n hx9) [] [] []), (0, eb c1), (4, .lkp false (gC c2)), (4, .upd (lG (f := AV.bool) (k := x2.br) (v := true) b43)), (2, eb c3)])))) (fun c0 h =>
 ra (aG h) [(0, eb c0)])
def xD (k_1:(List ai)→Int→Int→ByteArray→Int→Int→(List aS)→Int→(List (ByteArray×Bool))→ai→Option Bool):Nat→(List ai)→Int→Int→ByteArray→Int→Int→(List aS)→Int→(List aS)→Int→Int→(List (ByteArray×Bool))→(List (ByteArray×Bool))→ai→Option Bool
 |0,_,_,_,_,_,_,_,_,_,_,_,_,_,_=>none
 |n+1,t11,t12,t13,t24,t29,t34,t36,t37,t45,t46,t47,b9,b43,b5=>GD k_1 (xD k_1 n) n t11 t12 t13 t24 t29 t34 t36 t37 t45 t46 t47 b9 b43 b5
theorem acQ {k_1} (aG:K10 (A76 [1,1,1,0,0,1,0,1,1]) Ir k_1):∀n:Nat,K14 (A76 [0,1,1,1,1,1,0,0,1,1,0,0,1,0,1,1]) Is (xD k_1 n)
 |0=>fun _ _ _ _ _ _ _ _ _ _ _ _ _ _ _ h=>nz h
 |n+1=>fun _ _ _ _ _ _ _ _ _ _ _ _ _ _ _ h=>ake aG (acQ aG n) n h
def GC (k_2 : (List ai) → Int → Int → (List (ByteArray × Bool)) → Option Bool) (n : Nat) (t11 : List ai) (t12 t13 : Int) (t24 : ByteArray) (t29 t34 : Int) (t36 : List aS) (t37 : Int) (b9 : List (ByteArray × Bool)) (b5 : ai) : Option Bool :=
 k_2 t11 t12 (w64 (t13 + 1)) b9
theorem akd {k_2} (bP : K4 (A76 [0, 1, 0, 1, 1]) Ab k_2) (n : Nat) : K10 (A76 [1, 1, 1, 0, 0, 1, 0, 1, 1]) Ir (GC k_2 n) := fun t11 t12 t13 t24 t29 t34 t36 t37 b9 b5 r h =>
 ra (bP h) []
def GB (k_3 : Option Bool) (back : (List ai) → Int → Int → (List (ByteArray × Bool)) → Option Bool) (n : Nat) (t11 : List ai) (t12 t13 : Int) (b9 : List (ByteArray × Bool)) : Option Bool :=
 if decide (t13 < t12) then
 (idx t11 t13).bind fun x2 =>
 (ME n x2.br).bind fun x9 =>
 if !x9 then
 some false
 else
 if (fA b9 x2.br false) then
 some false
 else
 if decide (x2.av < 1) then
 some false
 else
 if decide ((x2.af.length : Int) < x2.av) then
 some false
 else
 xD (GC back n) n t11 t12 t13 x2.br x2.av x2.av x2.af (x2.af.length : Int) x2.af (x2.af.length : Int) 0 (fM b9 x2.br true) [] x2
 else
 k_3
theorem akc {k_3} (bw : K0 (A76 [1, 1, 1]) Iq k_3) {back} (aw : K4 (A76 [0, 1, 0, 1, 1]) Ab back) (n : Nat) : K4 (A76 [0, 1, 0, 1, 1]) Ab (GB k_3 back n) := fun t11 t12 t13 b9 r h =>
 ie h (fun c0 h =>
 be h fun x2 hx2 h =>
 be h fun x9 hx9 h =>
 ie h (fun c1 h =>
 rr h [(0, eb c0), (0, R62.idx hx2), (5, .call (lZ n hx9) [] [] []), (0, eb c1)]) (fun c1 h =>
 ie h (fun c2 h =>
 rr h [(0, eb c0), (0, R62.idx hx2), (5, .call (lZ n hx9) [] [] []), (0, eb c1), (4, .lkp false (gC c2))]) (fun c2 h =>
 ie h (fun c3 h =>
 rr h [(0, eb c0), (0, R62.idx hx2), (5, .call (lZ n hx9) [] [] []), (0, eb c1), (4, .lkp false (gC c2)), (4, eb c3)]) (fun c3 h =>
 ie h (fun c4 h =>
 rr h [(0, eb c0), (0, R62.idx hx2), (5, .call (lZ n hx9) [] [] []), (0, eb c1), (4, .lkp false (gC c2)), (4, eb c3), (6, .eqv (R76.au x2.af)), (0, eb c4)]) (fun c4 h =>
 ra (acQ (akd aw n) n h) [(0, eb c0), (0, R62.idx hx2), (5, .call (lZ n hx9) [] [] []), (0, eb c1), (4, .lkp false (gC c2)), (4, eb c3), (6, .eqv (R76.au x2.af)), (0, eb c4), (4, .upd (lG (f := AV.bool) (k := x2.br) (v := true) b9)), (4, .eqv (R76.au x2.af))]))))) (fun c0 h =>
 ra (bw h) [(0, eb c0)])
def ur (k_3:Option Bool):Nat→(List ai)→Int→Int→(List (ByteArray×Bool))→Option Bool
 |0,_,_,_,_=>none
 |n+1,t11,t12,t13,b9=>GB k_3 (ur k_3 n) n t11 t12 t13 b9
theorem acP {k_3} (bw:K0 (A76 [1,1,1]) Iq k_3):∀n:Nat,K4 (A76 [0,1,0,1,1]) Ab (ur k_3 n)
 |0=>fun _ _ _ _ _ h=>nz h
 |n+1=>fun _ _ _ _ _ h=>akc bw (acP bw n) n h
def B1 (n : Nat) : Option Bool :=
 some true
theorem akb (n : Nat) : K0 (A76 [1, 1, 1]) Iq (B1 n) := fun r h =>
 rr h []
def aeo (n : Nat) (s0 : aa) : Option Bool :=
 ur (B1 n) n s0.J (s0.J.length : Int) 0 []
theorem aka (n : Nat) : K1 (A76 []) TT (aeo n) := fun s0 r h =>
 ra (acP (akb n) n h) [(6, .eqv (R62.au s0.J))]
def F76 (n:Nat) (s0:aa):Option Bool:=aeo n s0
theorem aac (n:Nat):K1 C76 TT (F76 n):=fun _ _ h=>ca (X:=x76) (aka n h)
def abr (r:Bool):AV:=.bool r
def VV (r:Bool):List (Nat×Bx):= []
def x77:=fx E0 Tryz.f77 [] []
def A77:=Ax x77 abr VV
def C77:=Cx E0 77 abr VV
def Ip (t11:List ai) (t12 t13:Int) (t18:List aF) (t19 t20 t29:Int) (t31:List ai) (t32:Int) (t48:List Int) (t49 t50:Int) (b1:aa) (b4 b7:ai) (b6:aF):LS:=⟨[(1,.loc 1 0),(4,.loc 4 0),(7,.loc 7 0),(11,.slice 63 5 (cO t11)),(12,.int .i64 t12),(13,.int .i64 t13),(18,.slice 80 2 (ib t18)),(19,.int .i64 t19),(20,.int .i64 t20),(28,.loc 6 1),(29,.int .i64 t29),(30,.loc 1 1),(31,.slice 63 5 (cO t31)),(32,.int .i64 t32),(33,.bool false),(48,.slice 3 1 (aX t48)),(49,.int .i64 t49),(50,.int .i64 t50)],[(1,.flat 26 (aV b1)),(4,.flat 63 (fm b4)),(6,.flat 80 (tT b6)),(7,.flat 63 (fm b7))]⟩
def Io (t11:List ai) (t12 t13:Int) (t18:List aF) (t19 t20 t29:Int) (t31:List ai) (t32:Int) (b1:aa) (b4:ai) (b6:aF):LS:=⟨[(1,.loc 1 0),(4,.loc 4 0),(11,.slice 63 5 (cO t11)),(12,.int .i64 t12),(13,.int .i64 t13),(18,.slice 80 2 (ib t18)),(19,.int .i64 t19),(20,.int .i64 t20),(28,.loc 6 1),(29,.int .i64 t29),(30,.loc 1 1),(31,.slice 63 5 (cO t31)),(32,.int .i64 t32),(33,.bool false)],[(1,.flat 26 (aV b1)),(4,.flat 63 (fm b4)),(6,.flat 80 (tT b6))]⟩
def Aa (t11:List ai) (t12 t13:Int) (t18:List aF) (t19 t20:Int) (b1:aa) (b4:ai):LS:=⟨[(1,.loc 1 0),(4,.loc 4 0),(11,.slice 63 5 (cO t11)),(12,.int .i64 t12),(13,.int .i64 t13),(18,.slice 80 2 (ib t18)),(19,.int .i64 t19),(20,.int .i64 t20)],[(1,.flat 26 (aV b1)),(4,.flat 63 (fm b4))]⟩
def Im (t11:List ai) (t12 t13:Int) (b1:aa):LS:=⟨[(1,.loc 1 0),(11,.slice 63 5 (cO t11)),(12,.int .i64 t12),(13,.int .i64 t13)],[(1,.flat 26 (aV b1))]⟩
def z9 (t11:List ai) (t12 t13:Int) (b1:aa):LS:=⟨[(1,.loc 1 0),(11,.slice 63 5 (cO t11)),(12,.int .i64 t12),(13,.int .i64 t13)],[(1,.flat 26 (aV b1))]⟩
def Il:LS:=⟨[],[]⟩
def TS (s0:aa):LS:=⟨[(0,.agg (aV s0))],[]⟩
def GA (k_1 : (List ai) → Int → Int → (List aF) → Int → Int → Int → (List ai) → Int → aa → ai → aF → Option Bool) (back : (List ai) → Int → Int → (List aF) → Int → Int → Int → (List ai) → Int → (List Int) → Int → Int → aa → ai → ai → aF → Option Bool) (n : Nat) (t11 : List ai) (t12 t13 : Int) (t18 : List aF) (t19 t20 t29 : Int) (t31 : List ai) (t32 : Int) (t48 : List Int) (t49 t50 : Int) (b1 : aa) (b4 b7 : ai) (b6 : aF) : Option Bool :=
 if decide (t50 < t49) then
 (idx t48 t50).bind fun x3 =>
 if decide (x3 < 0) then
 some false
 else
 if !decide (x3 < (b4.af.length : Int)) then
 some false
 else
 (idx b4.af x3).bind fun x21 =>
 (idx b7.af t50).bind fun x28 =>
 if x21.ax != x28.ax then
 some false
 else
 back t11 t12 t13 t18 t19 t20 t29 t31 t32 t48 t49 (w64 (t50 + 1)) b1 b4 b7 b6
 else
 k_1 t11 t12 t13 t18 t19 t20 t29 t31 t32 b1 b4 b6
theorem ajZ {k_1} (aG : K12 (A77 [1, 1, 1, 0, 0, 1, 1, 0, 0, 1, 1, 0, 0, 1, 0, 1]) Io k_1) {back} (aw : K16 (A77 [0, 1, 1, 1, 1, 1, 0, 0, 1, 1, 0, 0, 1, 1, 0, 0, 1, 1, 0, 0, 1, 0, 1]) Ip back) (n : Nat) : K16 (A77 [0, 1, 1, 1, 1, 1, 0, 0, 1, 1, 0, 0, 1, 1, 0, 0, 1, 1, 0, 0, 1, 0, 1]) Ip (GA k_1 back n) := fun t11 t12 t13 t18 t19 t20 t29 t31 t32 t48 t49 t50 b1 b4 b7 b6 r h =>
 ie h (fun c0 h =>
 be h fun x3 hx3 h =>
 ie h (fun c1 h =>
 rr h [(0, eb c0), (1, R3.idx hx3), (4, eb c1)]) (fun c1 h =>
 ie h (fun c2 h =>
 rr h [(0, eb c0), (1, R3.idx hx3), (4, eb c1), (4, .eqv (R76.au b4.af)), (0, eb c2)]) (fun c2 h =>
 be h fun x21 jc h =>
 be h fun x28 jb h =>
 ie h (fun c3 h =>
 rr h [(0, eb c0), (1, R3.idx hx3), (4, eb c1), (4, .eqv (R76.au b4.af)), (0, eb c2), (5, R76.idx jc), (5, R76.idx jb), (2, eb c3)]) (fun c3 h =>
 ra (aw h) [(0, eb c0), (1, R3.idx hx3), (4, eb c1), (4, .eqv (R76.au b4.af)), (0, eb c2), (5, R76.idx jc), (5, R76.idx jb), (2, eb c3)])))) (fun c0 h =>
 ra (aG h) [(0, eb c0)])
def xC (k_1:(List ai)→Int→Int→(List aF)→Int→Int→Int→(List ai)→Int→aa→ai→aF→Option Bool):Nat→(List ai)→Int→Int→(List aF)→Int→Int→Int→(List ai)→Int→(List Int)→Int→Int→aa→ai→ai→aF→Option Bool
 |0,_,_,_,_,_,_,_,_,_,_,_,_,_,_,_,_=>none
 |n+1,t11,t12,t13,t18,t19,t20,t29,t31,t32,t48,t49,t50,b1,b4,b7,b6=>GA k_1 (xC k_1 n) n t11 t12 t13 t18 t19 t20 t29 t31 t32 t48 t49 t50 b1 b4 b7 b6
theorem acO {k_1} (aG:K12 (A77 [1,1,1,0,0,1,1,0,0,1,1,0,0,1,0,1]) Io k_1):∀n:Nat,K16 (A77 [0,1,1,1,1,1,0,0,1,1,0,0,1,1,0,0,1,1,0,0,1,0,1]) Ip (xC k_1 n)
 |0=>fun _ _ _ _ _ _ _ _ _ _ _ _ _ _ _ _ _ h=>nz h
 |n+1=>fun _ _ _ _ _ _ _ _ _ _ _ _ _ _ _ _ _ h=>ajZ aG (acO aG n) n h
def Gz (k_2 : (List ai) → Int → Int → (List aF) → Int → Int → aa → ai → Option Bool) (n : Nat) (t11 : List ai) (t12 t13 : Int) (t18 : List aF) (t19 t20 t29 : Int) (t31 : List ai) (t32 : Int) (b1 : aa) (b4 : ai) (b6 : aF) : Option Bool :=
 k_2 t11 t12 t13 t18 t19 (w64 (t20 + 1)) b1 b4
theorem ajY {k_2} (bP : K8 (A77 [0, 1, 1, 0, 0, 1, 1, 0, 0, 1, 0, 1]) Aa k_2) (n : Nat) : K12 (A77 [1, 1, 1, 0, 0, 1, 1, 0, 0, 1, 1, 0, 0, 1, 0, 1]) Io (Gz k_2 n) := fun t11 t12 t13 t18 t19 t20 t29 t31 t32 b1 b4 b6 r h =>
 ra (bP h) []
def Gy (k_3 : (List ai) → Int → Int → aa → Option Bool) (back : (List ai) → Int → Int → (List aF) → Int → Int → aa → ai → Option Bool) (n : Nat) (t11 : List ai) (t12 t13 : Int) (t18 : List aF) (t19 t20 : Int) (b1 : aa) (b4 : ai) : Option Bool :=
 if decide (t20 < t19) then
 (idx t18 t20).bind fun x2 =>
 if decide (x2.ar < 0) then
 some false
 else
 if !decide (x2.ar < (b1.J.length : Int)) then
 some false
 else
 (idx b1.J x2.ar).bind fun x22 =>
 if (x2.af.length : Int) != x22.av then
 some false
 else
 xC (Gz back n) n t11 t12 t13 t18 t19 t20 x2.ar b1.J (b1.J.length : Int) x2.af (x2.af.length : Int) 0 b1 b4 x22 x2
 else
 k_3 t11 t12 t13 b1
theorem ajX {k_3} (bw : K4 (A77 [1, 1, 1, 0, 0, 1, 0, 1]) Im k_3) {back} (aw : K8 (A77 [0, 1, 1, 0, 0, 1, 1, 0, 0, 1, 0, 1]) Aa back) (n : Nat) : K8 (A77 [0, 1, 1, 0, 0, 1, 1, 0, 0, 1, 0, 1]) Aa (Gy k_3 back n) := fun t11 t12 t13 t18 t19 t20 b1 b4 r h =>
 ie h (fun c0 h =>
 be h fun x2 hx2 h =>
 ie h (fun c1 h =>
 rr h [(0, eb c0), (0, R79.idx hx2), (5, eb c1)]) (fun c1 h =>
 ie h (fun c2 h =>
 rr h [(0, eb c0), (0, R79.idx hx2), (5, eb c1), (5, .eqv (R62.au b1.J)), (0, eb c2)]) (fun c2 h =>
 be h fun x22 tv h =>
 ie h (fun c3 h =>
 rr h [(0, eb c0), (0, R79.idx hx2), (5, eb c1), (5, .eqv (R62.au b1.J)), (0, eb c2), (5, R62.idx tv), (5, .eqv (R3.au x2.af)), (2, eb c3)]) (fun c3 h =>
 ra (acO (ajY aw n) n h) [(0, eb c0), (0, R79.idx hx2), (5, eb c1), (5, .eqv (R62.au b1.J)), (0, eb c2), (5, R62.idx tv), (5, .eqv (R3.au x2.af)), (2, eb c3), (2, .eqv (R3.au x2.af))])))) (fun c0 h =>
 ra (bw h) [(0, eb c0)])
def uq (k_3:(List ai)→Int→Int→aa→Option Bool):Nat→(List ai)→Int→Int→(List aF)→Int→Int→aa→ai→Option Bool
 |0,_,_,_,_,_,_,_,_=>none
 |n+1,t11,t12,t13,t18,t19,t20,b1,b4=>Gy k_3 (uq k_3 n) n t11 t12 t13 t18 t19 t20 b1 b4
theorem acN {k_3} (bw:K4 (A77 [1,1,1,0,0,1,0,1]) Im k_3):∀n:Nat,K8 (A77 [0,1,1,0,0,1,1,0,0,1,0,1]) Aa (uq k_3 n)
 |0=>fun _ _ _ _ _ _ _ _ _ h=>nz h
 |n+1=>fun _ _ _ _ _ _ _ _ _ h=>ajX bw (acN bw n) n h
def Gx (k_4 : (List ai) → Int → Int → aa → Option Bool) (n : Nat) (t11 : List ai) (t12 t13 : Int) (b1 : aa) : Option Bool :=
 k_4 t11 t12 (w64 (t13 + 1)) b1
theorem ajW {k_4} (eB : K4 (A77 [0, 1, 0, 1]) z9 k_4) (n : Nat) : K4 (A77 [1, 1, 1, 0, 0, 1, 0, 1]) Im (Gx k_4 n) := fun t11 t12 t13 b1 r h =>
 ra (eB h) []
def Gw (k_5 : Option Bool) (back : (List ai) → Int → Int → aa → Option Bool) (n : Nat) (t11 : List ai) (t12 t13 : Int) (b1 : aa) : Option Bool :=
 if decide (t13 < t12) then
 (idx t11 t13).bind fun x2 =>
 uq (Gx back n) n t11 t12 t13 x2.bg (x2.bg.length : Int) 0 b1 x2
 else
 k_5
theorem ajV {k_5} (eW : K0 (A77 [1, 1]) Il k_5) {back} (aw : K4 (A77 [0, 1, 0, 1]) z9 back) (n : Nat) : K4 (A77 [0, 1, 0, 1]) z9 (Gw k_5 back n) := fun t11 t12 t13 b1 r h =>
 ie h (fun c0 h =>
 be h fun x2 hx2 h =>
 ra (acN (ajW aw n) n h) [(0, eb c0), (0, R62.idx hx2), (5, .eqv (R79.au x2.bg))]) (fun c0 h =>
 ra (eW h) [(0, eb c0)])
def uo (k_5:Option Bool):Nat→(List ai)→Int→Int→aa→Option Bool
 |0,_,_,_,_=>none
 |n+1,t11,t12,t13,b1=>Gw k_5 (uo k_5 n) n t11 t12 t13 b1
theorem acM {k_5} (eW:K0 (A77 [1,1]) Il k_5):∀n:Nat,K4 (A77 [0,1,0,1]) z9 (uo k_5 n)
 |0=>fun _ _ _ _ _ h=>nz h
 |n+1=>fun _ _ _ _ _ h=>ajV eW (acM eW n) n h
def B0 (n : Nat) : Option Bool :=
 some true
theorem ajU (n : Nat) : K0 (A77 [1, 1]) Il (B0 n) := fun r h =>
 rr h []
def aen (n : Nat) (s0 : aa) : Option Bool :=
 uo (B0 n) n s0.J (s0.J.length : Int) 0 s0
theorem ajT (n : Nat) : K1 (A77 []) TS (aen n) := fun s0 r h =>
 ra (acM (ajU n) n h) [(4, .eqv (R62.au s0.J))]
def F77 (n:Nat) (s0:aa):Option Bool:=aen n s0
theorem ev77 (n:Nat):K1 C77 TS (F77 n):=fun _ _ h=>ca (X:=x77) (ajT n h)
def abn (r:Bool):AV:=.bool r
def VQ (r:Bool):List (Nat×Bx):= []
def x81:=fx E0 Tryz.f81 [] []
def A81:=Ax x81 abn VQ
def C81:=Cx E0 81 abn VQ
def TO (s0:aa) (aC:Int):LS:=⟨[(0,.agg (aV s0)),(1,.int .i64 aC)],[]⟩
def SF (n : Nat) (s0 : aa) (aC : Int) : Option Bool :=
 if !decide (aC < 0) then
 some (decide (aC < (s0.J.length : Int)))
 else
 some false
theorem ajN (n : Nat) : K2 (A81 []) TO (SF n) := fun s0 aC r h =>
 ie h (fun c0 h =>
 rr h [(3, eb c0), (4, .eqv (R62.au s0.J))]) (fun c0 h =>
 rr h [(3, eb c0)])
def F81 (n:Nat) (s0:aa) (aC:Int):Option Bool:=SF n s0 aC
theorem pX (n:Nat):K2 C81 TO (F81 n):=fun _ _ _ h=>ca (X:=x81) (ajN n h)
def abq (r:(List Int)):AV:=.ms 200000 1 0 r.length
def VU (r:(List Int)):List (Nat×Bx):= [(200000,.rows false 3 1 (aX r))]
def x78:=fx E0 Tryz.f78 [] [200000]
def A78:=Ax x78 abq VU
def C78:=Cx E0 78 abq VU
def Ik (t25:List aS) (t26 t27:Int) (b19:List Int):LS:=⟨[(5,.ms 19 1 0 b19.length),(25,.slice 77 2 (kz t25)),(26,.int .i64 t26),(27,.int .i64 t27)],[(19,.rows false 3 1 (aX b19))]⟩
def Ij (b19:List Int):LS:=⟨[(5,.ms 19 1 0 b19.length)],[(19,.rows false 3 1 (aX b19))]⟩
def TR (s0:aa) (aC:Int):LS:=⟨[(0,.agg (aV s0)),(1,.int .i64 aC)],[]⟩
def Gv (k_1 : (List Int) → Option (List Int)) (back : (List aS) → Int → Int → (List Int) → Option (List Int)) (n : Nat) (t25 : List aS) (t26 t27 : Int) (b19 : List Int) : Option (List Int) :=
 if decide (t27 < t26) then
 (idx t25 t27).bind fun x2 =>
 (app b19 [x2.ax]).bind fun x11 =>
 back t25 t26 (w64 (t27 + 1)) x11
 else
 k_1 b19
theorem ajS {k_1} (aG : K1 (A78 [1, 1, 1, 1]) Ij k_1) {back} (aw : K4 (A78 [0, 1, 0, 1, 1, 1]) Ik back) (n : Nat) : K4 (A78 [0, 1, 0, 1, 1, 1]) Ik (Gv k_1 back n) := fun t25 t26 t27 b19 r h =>
 ie h (fun c0 h =>
 be h fun x2 hx2 h =>
 be h fun x11 cM h =>
 ra (aw h) [(0, eb c0), (0, R76.idx hx2), (7, R3.app cM (R3.srW [x2.ax]))]) (fun c0 h =>
 ra (aG h) [(0, eb c0)])
def xB (k_1:(List Int)→Option (List Int)):Nat→(List aS)→Int→Int→(List Int)→Option (List Int)
 |0,_,_,_,_=>none
 |n+1,t25,t26,t27,b19=>Gv k_1 (xB k_1 n) n t25 t26 t27 b19
theorem acL {k_1} (aG:K1 (A78 [1,1,1,1]) Ij k_1):∀n:Nat,K4 (A78 [0,1,0,1,1,1]) Ik (xB k_1 n)
 |0=>fun _ _ _ _ _ h=>nz h
 |n+1=>fun _ _ _ _ _ h=>ajS aG (acL aG n) n h
def Gu (n : Nat) (b19 : List Int) : Option (List Int) :=
 some b19
theorem ajR (n : Nat) : K1 (A78 [1, 1, 1, 1]) Ij (Gu n) := fun b19 r h =>
 rr h [(2, .ren 19 200000)]
def SJ (n : Nat) (s0 : aa) (aC : Int) : Option (List Int) :=
 (F81 n s0 aC).bind fun x5 =>
 if !x5 then
 some []
 else
 (idx s0.J aC).bind fun x11 =>
 (pc (x11.af.length : Int) (0 : Int)).bind fun x16 =>
 (idx s0.J aC).bind fun x22 =>
 xB (Gu n) n x22.af (x22.af.length : Int) 0 []
theorem ajQ (n : Nat) : K2 (A78 []) TR (SJ n) := fun s0 aC r h =>
 be h fun x5 hx5 h =>
 ie h (fun c0 h =>
 rr h [(4, .call (pX n hx5) [] [] []), (0, eb c0), (1, .born [4] [] 200000 false 3 1)]) (fun c0 h =>
 be h fun x11 cM h =>
 be h fun x16 dz h =>
 be h fun x22 tv h =>
 ra (acL (ajR n) n h) [(4, .call (pX n hx5) [] [] []), (0, eb c0), (3, R62.idx cM), (2, .eqv (R76.au x11.af)), (0, R3.aiJ [.int .i64 0] dz), (4, R62.idx tv), (2, .eqv (R76.au x22.af))])
def F78 (n:Nat) (s0:aa) (aC:Int):Option (List Int):=SJ n s0 aC
theorem Lg (n:Nat):K2 C78 TR (F78 n):=fun _ _ _ h=>ca (X:=x78) (ajQ n h)
def Vn (r:Bool):AV:=.bool r
def OL (r:Bool):List (Nat×Bx):= []
def x109:=fx E0 Tryz.f109 [] []
def zM:=Ax x109 Vn OL
def C109:=Cx E0 109 Vn OL
def CO (t5:List Int) (t6 t7:Int):LS:=⟨[(5,.slice 3 1 (aX t5)),(6,.int .i64 t6),(7,.int .i64 t7)],[]⟩
def CN:LS:=⟨[],[]⟩
def Od (qH:List Int):LS:=⟨[(0,.slice 3 1 (aX qH))],[]⟩
def Ck (k_1 : Option Bool) (back : (List Int) → Int → Int → Option Bool) (n : Nat) (t5 : List Int) (t6 t7 : Int) : Option Bool :=
 if decide (t7 < t6) then
 (idx t5 t7).bind fun x2 =>
 if x2 != 3 then
 if x2 != 4 then
 if x2 != 5 then
 some false
 else
 back t5 t6 (w64 (t7 + 1))
 else
 back t5 t6 (w64 (t7 + 1))
 else
 back t5 t6 (w64 (t7 + 1))
 else
 k_1
theorem ahj {k_1} (aG : K0 (zM [1, 1]) CN k_1) {back} (aw : K3 (zM [0, 1, 0, 1]) CO back) (n : Nat) : K3 (zM [0, 1, 0, 1]) CO (Ck k_1 back n) := fun t5 t6 t7 r h =>
 ie h (fun c0 h =>
 be h fun x2 hx2 h =>
 ie h (fun c1 h =>
 ie h (fun c2 h =>
 ie h (fun c3 h =>
 rr h [(0, eb c0), (0, R3.idx hx2), (3, eb c1), (2, eb c2), (3, eb c3)]) (fun c3 h =>
 ra (aw h) [(0, eb c0), (0, R3.idx hx2), (3, eb c1), (2, eb c2), (3, eb c3)])) (fun c2 h =>
 ra (aw h) [(0, eb c0), (0, R3.idx hx2), (3, eb c1), (2, eb c2)])) (fun c1 h =>
 ra (aw h) [(0, eb c0), (0, R3.idx hx2), (3, eb c1)])) (fun c0 h =>
 ra (aG h) [(0, eb c0)])
def sA (k_1:Option Bool):Nat→(List Int)→Int→Int→Option Bool
 |0,_,_,_=>none
 |n+1,t5,t6,t7=>Ck k_1 (sA k_1 n) n t5 t6 t7
theorem Xd {k_1} (aG:K0 (zM [1,1]) CN k_1):∀n:Nat,K3 (zM [0,1,0,1]) CO (sA k_1 n)
 |0=>fun _ _ _ _ h=>nz h
 |n+1=>fun _ _ _ _ h=>ahj aG (Xd aG n) n h
def M6 (n : Nat) : Option Bool :=
 some true
theorem ahi (n : Nat) : K0 (zM [1, 1]) CN (M6 n) := fun r h =>
 rr h []
def M5 (n : Nat) (qH : List Int) : Option Bool :=
 sA (M6 n) n qH (qH.length : Int) 0
theorem ahh (n : Nat) : K1 (zM []) Od (M5 n) := fun qH r h =>
 ra (Xd (ahi n) n h) [(2, .eqv (R3.au qH))]
def MD (n:Nat) (qH:List Int):Option Bool:=M5 n qH
theorem ou (n:Nat):K1 C109 Od (MD n):=fun _ _ h=>ca (X:=x109) (ahh n h)
def Vm (r:(Bool×Int)):AV:=.bool r.1
def OK (r:(Bool×Int)):List (Nat×Bx):= [(2,.flat 3 [.int .i64 r.2])]
def x110:=fx E0 Tryz.f110 [2] [2]
def zL:=Ax x110 Vm OK
def MH:=Cx E0 110 Vm OK
def CM (gO:Int) (t23:List ag) (t24 t25 b2:Int):LS:=⟨[(1,.int .i64 gO),(2,.loc 2 0),(23,.slice 84 13 (fw t23)),(24,.int .i64 t24),(25,.int .i64 t25)],[(2,.flat 3 [.int .i64 b2])]⟩
def CL (b2:Int):LS:=⟨[],[(2,.flat 3 [.int .i64 b2])]⟩
def oR (p0:ag) (gO kb:Int):LS:=⟨[(0,.agg (fZ p0)),(1,.int .i64 gO),(2,.loc 2 0)],[(2,.flat 3 [.int .i64 kb])]⟩
def Cj (fR : ag → Int → Int → Option (Bool × Int)) (k_1 : Int → Option (Bool × Int)) (back : Int → (List ag) → Int → Int → Int → Option (Bool × Int)) (n : Nat) (gO : Int) (t23 : List ag) (t24 t25 b2 : Int) : Option (Bool × Int) :=
 if decide (t25 < t24) then
 (idx t23 t25).bind fun x2 =>
 (fR x2 (w64 (gO + 1)) b2).bind fun x11 =>
 if !x11.1 then
 some (false, x11.2)
 else
 back gO t23 t24 (w64 (t25 + 1)) x11.2
 else
 k_1 b2
theorem ahg {fR} (lW : K3 MH oR fR) {k_1} (aG : K1 (zL [1, 1, 1, 1]) CL k_1) {back} (aw : K5 (zL [0, 1, 0, 1, 1, 1]) CM back) (n : Nat) : K5 (zL [0, 1, 0, 1, 1, 1]) CM (Cj fR k_1 back n) := fun gO t23 t24 t25 b2 r h =>
 ie h (fun c0 h =>
 be h fun x2 hx2 h =>
 be h fun x11 cM h =>
 ie h (fun c1 h =>
 rr h [(0, eb c0), (0, R83.idx hx2), (7, .call (lW cM) [] [(2, 2)] []), (0, eb c1)]) (fun c1 h =>
 ra (aw h) [(0, eb c0), (0, R83.idx hx2), (7, .call (lW cM) [] [(2, 2)] []), (0, eb c1)])) (fun c0 h =>
 ra (aG h) [(0, eb c0)])
def sy (fR:ag→Int→Int→Option (Bool×Int)) (k_1:Int→Option (Bool×Int)):Nat→Int→(List ag)→Int→Int→Int→Option (Bool×Int)
 |0,_,_,_,_,_=>none
 |n+1,gO,t23,t24,t25,b2=>Cj fR k_1 (sy fR k_1 n) n gO t23 t24 t25 b2
theorem Xc {fR} (lW:K3 MH oR fR) {k_1} (aG:K1 (zL [1,1,1,1]) CL k_1):∀n:Nat,K5 (zL [0,1,0,1,1,1]) CM (sy fR k_1 n)
 |0=>fun _ _ _ _ _ _ h=>nz h
 |n+1=>fun _ _ _ _ _ _ h=>ahg lW aG (Xc lW aG n) n h
def Yv (fR : ag → Int → Int → Option (Bool × Int)) (n : Nat) (b2 : Int) : Option (Bool × Int) :=
 some (true, b2)
theorem ahf {fR} (lW : K3 MH oR fR) (n : Nat) : K1 (zL [1, 1, 1, 1]) CL (Yv fR n) := fun b2 r h =>
 rr h []
def M3 (fR : ag → Int → Int → Option (Bool × Int)) (n : Nat) (p0 : ag) (gO kb : Int) : Option (Bool × Int) :=
 if decide ((w64 (kb - 1)) < 0) then
 some (false, w64 (kb - 1))
 else
 if decide (8 < gO) then
 some (false, w64 (kb - 1))
 else
 sy fR (Yv fR n) n gO p0.fArgs (p0.fArgs.length : Int) 0 (w64 (kb - 1))
theorem ahe {fR} (lW : K3 MH oR fR) (n : Nat) : K3 (zL []) oR (M3 fR n) := fun p0 gO kb r h =>
 ie h (fun c0 h =>
 rr h [(11, eb c0)]) (fun c0 h =>
 ie h (fun c1 h =>
 rr h [(11, eb c0), (2, eb c1)]) (fun c1 h =>
 ra (Xc lW (ahf lW n) n h) [(11, eb c0), (2, eb c1), (3, .eqv (R83.au p0.fArgs))]))
def Eh:Nat→ag→Int→Int→Option (Bool×Int)
 |0,_,_,_=>none
 |n+1,p0,gO,kb=>M3 (Eh n) n p0 gO kb
theorem FM:∀n:Nat,K3 MH oR (Eh n)
 |0=>fun _ _ _ _ h=>nz h
 |n+1=>fun _ _ _ _ h=>ca (X:=x110) (ahe (FM n) n h)
def Vw (r:Bool):AV:=.bool r
def OV (r:Bool):List (Nat×Bx):= []
def x100:=fx E0 Tryz.f100 [] []
def A100:=Ax x100 Vw OV
def C100:=Cx E0 100 Vw OV
def Oj (v0:I):LS:=⟨[(0,.agg (fF v0))],[]⟩
def YB (n : Nat) (v0 : I) : Option Bool :=
 if v0.ax == 1 then
 if v0.bQ == 0 then
 some (decide (v0.bq = ByteArray.empty))
 else
 some false
 else
 if v0.ax == 2 then
 if v0.bQ == 0 then
 some (decide (v0.bq = ByteArray.empty))
 else
 some false
 else
 if v0.ax == 3 then
 if v0.bQ == 0 then
 some (decide (v0.bq = ByteArray.empty))
 else
 if v0.bQ == 1 then
 some (decide (v0.bq = ByteArray.empty))
 else
 some false
 else
 if v0.ax == 4 then
 some (decide (v0.bq = ByteArray.empty))
 else
 if v0.ax == 5 then
 if v0.bQ == 0 then
 some (!decide (64 < (v0.bq.size : Int)))
 else
 some false
 else
 some false
theorem ahK (n : Nat) : K1 (A100 []) Oj (YB n) := fun v0 r h =>
 ie h (fun c0 h =>
 ie h (fun c1 h =>
 rr h [(4, eb c0), (3, eb c1)]) (fun c1 h =>
 rr h [(4, eb c0), (3, eb c1)])) (fun c0 h =>
 ie h (fun c1 h =>
 ie h (fun c2 h =>
 rr h [(4, eb c0), (1, eb c1), (3, eb c2)]) (fun c2 h =>
 rr h [(4, eb c0), (1, eb c1), (3, eb c2)])) (fun c1 h =>
 ie h (fun c2 h =>
 ie h (fun c3 h =>
 rr h [(4, eb c0), (1, eb c1), (1, eb c2), (3, eb c3)]) (fun c3 h =>
 ie h (fun c4 h =>
 rr h [(4, eb c0), (1, eb c1), (1, eb c2), (3, eb c3), (3, eb c4)]) (fun c4 h =>
 rr h [(4, eb c0), (1, eb c1), (1, eb c2), (3, eb c3), (3, eb c4)]))) (fun c2 h =>
 ie h (fun c3 h =>
 rr h [(4, eb c0), (1, eb c1), (1, eb c2), (1, eb c3)]) (fun c3 h =>
 ie h (fun c4 h =>
 ie h (fun c5 h =>
 rr h [(4, eb c0), (1, eb c1), (1, eb c2), (1, eb c3), (1, eb c4), (3, eb c5)]) (fun c5 h =>
 rr h [(4, eb c0), (1, eb c1), (1, eb c2), (1, eb c3), (1, eb c4), (3, eb c5)])) (fun c4 h =>
 rr h [(4, eb c0), (1, eb c1), (1, eb c2), (1, eb c3), (1, eb c4)])))))
def Sw (n:Nat) (v0:I):Option Bool:=YB n v0
theorem tQ (n:Nat):K1 C100 Oj (Sw n):=fun _ _ h=>ca (X:=x100) (ahK n h)
def abo (r:Bool):AV:=.bool r
def VS (r:Bool):List (Nat×Bx):= []
def x80:=fx E0 Tryz.f80 [] []
def A80:=Ax x80 abo VS
def C80:=Cx E0 80 abo VS
def TP (v0:I):LS:=⟨[(0,.agg (fF v0))],[]⟩
def SG (n : Nat) (v0 : I) : Option Bool :=
 (Sw n v0).bind fun x4 =>
 if x4 then
 if v0.ax != 1 then
 some (v0.ax != 2)
 else
 some false
 else
 some false
theorem ajO (n : Nat) : K1 (A80 []) TP (SG n) := fun v0 r h =>
 be h fun x4 hx4 h =>
 ie h (fun c0 g0 => by subst c0; exact (
 ie g0 (fun c1 g0 =>
 rr g0 [(3, .call (tQ n hx4) [] [] []), (3, eb c1)]) (fun c1 g0 =>
 rr g0 [(3, .call (tQ n hx4) [] [] []), (3, eb c1)]))) (fun c0 g0 => by subst c0; exact (
 rr g0 [(3, .call (tQ n hx4) [] [] [])]))
def F80 (n:Nat) (v0:I):Option Bool:=SG n v0
theorem Lf (n:Nat):K1 C80 TP (F80 n):=fun _ _ h=>ca (X:=x80) (ajO n h)
def Vc (r:Int):AV:=.int .i64 r
def OA (r:Int):List (Nat×Bx):= []
def x126:=fx E0 Tryz.f126 [] []
def A126:=Ax x126 Vc OA
def C126:=Cx E0 126 Vc OA
def aey (qG:List Int) (b3:aA):LS:=⟨[(3,.loc 3 0),(5,.slice 3 1 (aX qG))],[(3,.flat 82 (kQ b3))]⟩
def N2 (k0:cQ) (o1:aA):LS:=⟨[(0,.agg (sv k0)),(1,.agg (kQ o1))],[]⟩
def Cc (n : Nat) (qG : List Int) (b3 : aA) : Option Int :=
 if decide (b3.bL < 0) then
 some 0
 else
 if !decide (b3.bL < (qG.length : Int)) then
 some 0
 else
 if !((b3.aT.ax == 0) && ((b3.aT.bQ == 0) && ((decide (b3.aT.bq = ByteArray.empty)) && true))) then
 some 0
 else
 (idx qG b3.bL).bind fun x20 =>
 some x20
theorem XR (n : Nat) : K2 (A126 [1, 1, 1]) aey (Cc n) := fun qG b3 r h =>
 ie h (fun c0 h =>
 rr h [(2, eb c0)]) (fun c0 h =>
 ie h (fun c1 h =>
 rr h [(2, eb c0), (4, .eqv (R3.au qG)), (0, eb c1)]) (fun c1 h =>
 ie h (fun c2 h =>
 rr h [(2, eb c0), (4, .eqv (R3.au qG)), (0, eb c1), (5, eb c2)]) (fun c2 h =>
 be h fun x20 iH h =>
 rr h [(2, eb c0), (4, .eqv (R3.au qG)), (0, eb c1), (5, eb c2), (4, R3.idx iH)])))
def MS (n : Nat) (k0 : cQ) (o1 : aA) : Option Int :=
 if o1.ax == 3 then
 if o1.bL != 0 then
 some 0
 else
 (F80 n o1.aT).bind fun x17 =>
 if !x17 then
 some 0
 else
 some o1.aT.ax
 else
 if o1.ax == 2 then
 Cc n k0.fY o1
 else
 if o1.ax == 1 then
 Cc n k0.eX o1
 else
 some 0
theorem agO (n : Nat) : K2 (A126 []) N2 (MS n) := fun k0 o1 r h =>
 ie h (fun c0 h =>
 ie h (fun c1 h =>
 rr h [(8, eb c0), (3, eb c1)]) (fun c1 h =>
 be h fun x17 eO h =>
 ie h (fun c2 h =>
 rr h [(8, eb c0), (3, eb c1), (3, .call (Lf n eO) [] [] []), (0, eb c2)]) (fun c2 h =>
 rr h [(8, eb c0), (3, eb c1), (3, .call (Lf n eO) [] [] []), (0, eb c2)]))) (fun c0 h =>
 ie h (fun c1 h =>
 ra (XR n h) [(8, eb c0), (1, eb c1)]) (fun c1 h =>
 ie h (fun c2 h =>
 ra (XR n h) [(8, eb c0), (1, eb c1), (1, eb c2)]) (fun c2 h =>
 rr h [(8, eb c0), (1, eb c1), (1, eb c2)])))
def Mz (n:Nat) (k0:cQ) (o1:aA):Option Int:=MS n k0 o1
theorem m7 (n:Nat):K2 C126 N2 (Mz n):=fun _ _ _ h=>ca (X:=x126) (agO n h)
def Vl (r:Bool):AV:=.bool r
def OJ (r:Bool):List (Nat×Bx):= []
def x111:=fx E0 Tryz.f111 [] []
def lu:=Ax x111 Vl OJ
def rU:=Cx E0 111 Vl OJ
def CK (t76:List ag) (t77 t78:Int) (b2:cQ):LS:=⟨[(2,.loc 2 0),(76,.slice 84 13 (fw t76)),(77,.int .i64 t77),(78,.int .i64 t78)],[(2,.flat 165 (sv b2))]⟩
def CJ:LS:=⟨[],[]⟩
def aeC (t50:Bool) (b2:cQ) (b3:ag):LS:=⟨[(2,.loc 2 0),(3,.loc 3 0),(50,.bool t50)],[(2,.flat 165 (sv b2)),(3,.flat 84 (fZ b3))]⟩
def CI (t76:List ag) (t77 t78:Int) (b2:cQ):LS:=⟨[(2,.loc 2 0),(76,.slice 84 13 (fw t76)),(77,.int .i64 t77),(78,.int .i64 t78)],[(2,.flat 165 (sv b2))]⟩
def CH:LS:=⟨[],[]⟩
def aeB (b2:cQ) (b3:ag):LS:=⟨[(2,.loc 2 0),(3,.loc 3 0)],[(2,.flat 165 (sv b2)),(3,.flat 84 (fZ b3))]⟩
def iC (k0:cQ) (p1:ag):LS:=⟨[(0,.agg (sv k0)),(1,.agg (fZ p1))],[]⟩
def Ci (bR : cQ → ag → Option Bool) (k_1 : Option Bool) (back : (List ag) → Int → Int → cQ → Option Bool) (n : Nat) (t76 : List ag) (t77 t78 : Int) (b2 : cQ) : Option Bool :=
 if decide (t78 < t77) then
 (idx t76 t78).bind fun x2 =>
 (bR b2 x2).bind fun x9 =>
 if !x9 then
 some false
 else
 back t76 t77 (w64 (t78 + 1)) b2
 else
 k_1
theorem ahd {bR} (dA : K2 rU iC bR) {k_1} (aG : K0 (lu [1, 1, 1, 1]) CJ k_1) {back} (aw : K4 (lu [0, 1, 0, 1, 1, 1]) CK back) (n : Nat) : K4 (lu [0, 1, 0, 1, 1, 1]) CK (Ci bR k_1 back n) := fun t76 t77 t78 b2 r h =>
 ie h (fun c0 h =>
 be h fun x2 hx2 h =>
 be h fun x9 hx9 h =>
 ie h (fun c1 h =>
 rr h [(0, eb c0), (0, R83.idx hx2), (5, .call (dA hx9) [] [] []), (0, eb c1)]) (fun c1 h =>
 ra (aw h) [(0, eb c0), (0, R83.idx hx2), (5, .call (dA hx9) [] [] []), (0, eb c1)])) (fun c0 h =>
 ra (aG h) [(0, eb c0)])
def nC (bR:cQ→ag→Option Bool) (k_1:Option Bool):Nat→(List ag)→Int→Int→cQ→Option Bool
 |0,_,_,_,_=>none
 |n+1,t76,t77,t78,b2=>Ci bR k_1 (nC bR k_1 n) n t76 t77 t78 b2
theorem Xb {bR} (dA:K2 rU iC bR) {k_1} (aG:K0 (lu [1,1,1,1]) CJ k_1):∀n:Nat,K4 (lu [0,1,0,1,1,1]) CK (nC bR k_1 n)
 |0=>fun _ _ _ _ _ h=>nz h
 |n+1=>fun _ _ _ _ _ h=>ahd dA aG (Xb dA aG n) n h
def Ch (bR : cQ → ag → Option Bool) (n : Nat) : Option Bool :=
 some true
theorem ahc {bR} (dA : K2 rU iC bR) (n : Nat) : K0 (lu [1, 1, 1, 1]) CJ (Ch bR n) := fun r h =>
 rr h []
def wG (bR : cQ → ag → Option Bool) (n : Nat) (t50 : Bool) (b2 : cQ) (b3 : ag) : Option Bool :=
 if t50 then
 some false
 else
 if b3.gD != 0 then
 some false
 else
 if !((b3.bD.ax == 0) && ((b3.bD.bL == 0) && (((b3.bD.aT.ax == 0) && ((b3.bD.aT.bQ == 0) && ((decide (b3.bD.aT.bq = ByteArray.empty)) && true))) && true))) then
 some false
 else
 if !((b3.bl.ax == 0) && ((b3.bl.bL == 0) && (((b3.bl.aT.ax == 0) && ((b3.bl.aT.bQ == 0) && ((decide (b3.bl.aT.bq = ByteArray.empty)) && true))) && true))) then
 some false
 else
 nC bR (Ch bR n) n b3.fArgs (b3.fArgs.length : Int) 0 b2
theorem XT {bR} (dA : K2 rU iC bR) (n : Nat) : K3 (lu [1, 0, 1, 1, 1, 0, 1, 0, 1]) aeC (wG bR n) := fun t50 b2 b3 r h =>
 ie h (fun c0 g0 => by subst c0; exact (
 rr g0 [])) (fun c0 g0 => by subst c0; exact (
 ie g0 (fun c1 g0 =>
 rr g0 [(2, eb c1)]) (fun c1 g0 =>
 ie g0 (fun c2 g0 =>
 rr g0 [(2, eb c1), (4, eb c2)]) (fun c2 g0 =>
 ie g0 (fun c3 g0 =>
 rr g0 [(2, eb c1), (4, eb c2), (5, eb c3)]) (fun c3 g0 =>
 ra (Xb dA (ahc dA n) n g0) [(2, eb c1), (4, eb c2), (5, eb c3), (3, .eqv (R83.au b3.fArgs))])))))
def Cg (bR : cQ → ag → Option Bool) (k_4 : Option Bool) (back : (List ag) → Int → Int → cQ → Option Bool) (n : Nat) (t76 : List ag) (t77 t78 : Int) (b2 : cQ) : Option Bool :=
 if decide (t78 < t77) then
 (idx t76 t78).bind fun x2 =>
 (bR b2 x2).bind fun x9 =>
 if !x9 then
 some false
 else
 back t76 t77 (w64 (t78 + 1)) b2
 else
 k_4
theorem ahb {bR} (dA : K2 rU iC bR) {k_4} (eB : K0 (lu [1, 1, 1, 1]) CH k_4) {back} (aw : K4 (lu [0, 1, 0, 1, 1, 1]) CI back) (n : Nat) : K4 (lu [0, 1, 0, 1, 1, 1]) CI (Cg bR k_4 back n) := fun t76 t77 t78 b2 r h =>
 ie h (fun c0 h =>
 be h fun x2 hx2 h =>
 be h fun x9 hx9 h =>
 ie h (fun c1 h =>
 rr h [(0, eb c0), (0, R83.idx hx2), (5, .call (dA hx9) [] [] []), (0, eb c1)]) (fun c1 h =>
 ra (aw h) [(0, eb c0), (0, R83.idx hx2), (5, .call (dA hx9) [] [] []), (0, eb c1)])) (fun c0 h =>
 ra (eB h) [(0, eb c0)])
def nA (bR:cQ→ag→Option Bool) (k_4:Option Bool):Nat→(List ag)→Int→Int→cQ→Option Bool
 |0,_,_,_,_=>none
 |n+1,t76,t77,t78,b2=>Cg bR k_4 (nA bR k_4 n) n t76 t77 t78 b2
theorem Xa {bR} (dA:K2 rU iC bR) {k_4} (eB:K0 (lu [1,1,1,1]) CH k_4):∀n:Nat,K4 (lu [0,1,0,1,1,1]) CI (nA bR k_4 n)
 |0=>fun _ _ _ _ _ h=>nz h
 |n+1=>fun _ _ _ _ _ h=>ahb dA eB (Xa dA eB n) n h
def Cf (bR : cQ → ag → Option Bool) (n : Nat) : Option Bool :=
 some true
theorem aha {bR} (dA : K2 rU iC bR) (n : Nat) : K0 (lu [1, 1, 1, 1]) CH (Cf bR n) := fun r h =>
 rr h []
def sM (bR : cQ → ag → Option Bool) (n : Nat) (b2 : cQ) (b3 : ag) : Option Bool :=
 if b3.gD != 0 then
 some false
 else
 if !((b3.bD.ax == 0) && ((b3.bD.bL == 0) && (((b3.bD.aT.ax == 0) && ((b3.bD.aT.bQ == 0) && ((decide (b3.bD.aT.bq = ByteArray.empty)) && true))) && true))) then
 some false
 else
 if !((b3.bl.ax == 0) && ((b3.bl.bL == 0) && (((b3.bl.aT.ax == 0) && ((b3.bl.aT.bQ == 0) && ((decide (b3.bl.aT.bq = ByteArray.empty)) && true))) && true))) then
 some false
 else
 nA bR (Cf bR n) n b3.fArgs (b3.fArgs.length : Int) 0 b2
theorem LL {bR} (dA : K2 rU iC bR) (n : Nat) : K2 (lu [1, 1]) aeB (sM bR n) := fun b2 b3 r h =>
 ie h (fun c0 h =>
 rr h [(2, eb c0)]) (fun c0 h =>
 ie h (fun c1 h =>
 rr h [(2, eb c0), (4, eb c1)]) (fun c1 h =>
 ie h (fun c2 h =>
 rr h [(2, eb c0), (4, eb c1), (5, eb c2)]) (fun c2 h =>
 ra (Xa dA (aha dA n) n h) [(2, eb c0), (4, eb c1), (5, eb c2), (3, .eqv (R83.au b3.fArgs))])))
def M1 (bR : cQ → ag → Option Bool) (n : Nat) (k0 : cQ) (p1 : ag) : Option Bool :=
 if p1.fOp == 3 then
 (Mz n k0 p1.bD).bind fun x11 =>
 (Mz n k0 p1.bl).bind fun x16 =>
 if (p1.fArgs.length : Int) == 0 then
 if !decide (p1.gD < 1) then
 if !decide (6 < p1.gD) then
 if x11 != 0 then
 some (x11 == x16)
 else
 some false
 else
 some false
 else
 some false
 else
 some false
 else
 if p1.fOp == 1 then
 wG bR n ((p1.fArgs.length : Int) != 0) k0 p1
 else
 if p1.fOp == 2 then
 wG bR n ((p1.fArgs.length : Int) != 0) k0 p1
 else
 if p1.fOp == 6 then
 if (p1.fArgs.length : Int) != 1 then
 some false
 else
 sM bR n k0 p1
 else
 if p1.fOp == 4 then
 sM bR n k0 p1
 else
 if p1.fOp == 5 then
 sM bR n k0 p1
 else
 some false
theorem agZ {bR} (dA : K2 rU iC bR) (n : Nat) : K2 (lu []) iC (M1 bR n) := fun k0 p1 r h =>
 ie h (fun c0 h =>
 be h fun x11 cM h =>
 be h fun x16 dz h =>
 ie h (fun c1 h =>
 ie h (fun c2 h =>
 ie h (fun c3 h =>
 ie h (fun c4 h =>
 rr h [(5, eb c0), (4, .call (m7 n cM) [] [] []), (3, .call (m7 n dz) [] [] []), (4, .eqv (R83.au p1.fArgs)), (0, eb c1), (3, eb c2), (4, eb c3), (3, eb c4)]) (fun c4 h =>
 rr h [(5, eb c0), (4, .call (m7 n cM) [] [] []), (3, .call (m7 n dz) [] [] []), (4, .eqv (R83.au p1.fArgs)), (0, eb c1), (3, eb c2), (4, eb c3), (3, eb c4)])) (fun c3 h =>
 rr h [(5, eb c0), (4, .call (m7 n cM) [] [] []), (3, .call (m7 n dz) [] [] []), (4, .eqv (R83.au p1.fArgs)), (0, eb c1), (3, eb c2), (4, eb c3)])) (fun c2 h =>
 rr h [(5, eb c0), (4, .call (m7 n cM) [] [] []), (3, .call (m7 n dz) [] [] []), (4, .eqv (R83.au p1.fArgs)), (0, eb c1), (3, eb c2)])) (fun c1 h =>
 rr h [(5, eb c0), (4, .call (m7 n cM) [] [] []), (3, .call (m7 n dz) [] [] []), (4, .eqv (R83.au p1.fArgs)), (0, eb c1)])) (fun c0 h =>
 ie h (fun c1 h =>
 ra (XT dA n h) [(5, eb c0), (1, eb c1), (3, .eqv (R83.au p1.fArgs))]) (fun c1 h =>
 ie h (fun c2 h =>
 ra (XT dA n h) [(5, eb c0), (1, eb c1), (1, eb c2), (3, .eqv (R83.au p1.fArgs))]) (fun c2 h =>
 ie h (fun c3 h =>
 ie h (fun c4 h =>
 rr h [(5, eb c0), (1, eb c1), (1, eb c2), (1, eb c3), (3, .eqv (R83.au p1.fArgs)), (0, eb c4)]) (fun c4 h =>
 ra (LL dA n h) [(5, eb c0), (1, eb c1), (1, eb c2), (1, eb c3), (3, .eqv (R83.au p1.fArgs)), (0, eb c4)])) (fun c3 h =>
 ie h (fun c4 h =>
 ra (LL dA n h) [(5, eb c0), (1, eb c1), (1, eb c2), (1, eb c3), (1, eb c4)]) (fun c4 h =>
 ie h (fun c5 h =>
 ra (LL dA n h) [(5, eb c0), (1, eb c1), (1, eb c2), (1, eb c3), (1, eb c4), (1, eb c5)]) (fun c5 h =>
 rr h [(5, eb c0), (1, eb c1), (1, eb c2), (1, eb c3), (1, eb c4), (1, eb c5)]))))))
def lr:Nat→cQ→ag→Option Bool
 |0,_,_=>none
 |n+1,k0,p1=>M1 (lr n) n k0 p1
theorem Ru:∀n:Nat,K2 rU iC (lr n)
 |0=>fun _ _ _ h=>nz h
 |n+1=>fun _ _ _ h=>ca (X:=x111) (agZ (Ru n) n h)
end Go.Proofs.YtmealahmjddpcaaGreatDoor
end
