/- Part. -/
import Derived.Test.YtbnkhmoelnfjoaaGreatP6
import Derived.KernelRfl
import Derived.Test.YtbnkhmoelnfjoaaGreatP4
import Derived.IntWalk
set_option linter.all false
set_option maxRecDepth 100000
noncomputable section
namespace Go.Proofs.YtbnkhmoelnfjoaaGreat
open Go.bZ
variable {x:Int} {J:Type} {v:aR} {a:ByteArray} {xs:bN} {i:Nat}
def x99:=fx E0 Tryz.f99 []
def A99:=Ax x99 du bQ
def aCV (i3 c4:Int) (Lr:Bool) (oj:ByteArray) (mX:Nat):LS:=⟨[(3,cg i3),(4,.int .i32 c4),(5,.bool Lr),(15,.it 15)],[(15,.iter oj mX)]⟩
def aCU (oj:ByteArray) (mX:Nat):LS:=⟨[(15,.it 15)],[(15,.iter oj mX)]⟩
def aCT:LS:=⟨[],[]⟩
def Qt (aN:ByteArray->Nat->Option Bool) (n:Nat) (i3 c4:Int) (Lr:Bool) (oj:ByteArray) (mX:Nat):Option Bool:=
 if !Lr then
 if i3==0 then
 some false
 else
 if c4 !=95 then
 if decide (c4<48) then
 some false
 else
 if decide (57<c4) then
 some false
 else
 aN oj mX
 else
 aN oj mX
 else
 aN oj mX
def Lc:=K2 (A99 [0,1,0,1,1]) aCU
def ayz {aN} (bn:Lc aN) (n:Nat):K5 (A99 (cF 3787)) aCV (Qt aN n):=λi3 c4 Lr oj mX r h=>ie h (λc0 h=>ie h (λc1 h=>rr h [bb c0,ba c1]) λc1 h=>let zA:SE:=[bb c0,ba c1];ie h (λc2 h=>ie h (λc3 h=>bH h zA [ba c2,ba c3]) λc3 h=>ie h (λc4_ h=>bH h zA [ba c2,ba c3,ba c4_]) λc4_ h=>cI (bn h) zA [ba c2,ba c3,ba c4_]) λc2 h=>cI (bn h) zA [ba c2]) λc0 h=>ra (bn h) [bb c0]
def XE (bw:Option Bool) (back:ByteArray->Nat->Option Bool) (n:Nat) (oj:ByteArray) (mX:Nat):Option Bool:=
 if decide (mX<oj.size) then
 if !decide (((Utf8.decode oj mX).1:Int)<97) then
 Qt back n (mX:Int) ((Utf8.decode oj mX).1:Int) (!decide (122<((Utf8.decode oj mX).1:Int))) oj (mX+(Utf8.decode oj mX).2)
 else
 Qt back n (mX:Int) ((Utf8.decode oj mX).1:Int) false oj (mX+(Utf8.decode oj mX).2)
 else
 bw
def Uy:=K0 (A99 [1,1,1]) aCT
def aKB {bw} (cM:Uy bw) {back} (aS:Lc back) (n:Nat):Lc (XE bw back n):=λoj mX r h=>ie h (λc0 h=>ie h (λc1 h=>ra (ayz aS n h) [(0,.nxt (ru c0)),dL c1]) λc1 h=>ra (ayz aS n h) [(0,.nxt (ru c0)),dL c1]) λc0 h=>ra (cM h) [(0,.fin (FV c0))]
def Aq (bw:Option Bool):Nat->ByteArray->Nat->Option Bool
 |0=>λ_ _=>none
 |n+1=>XE bw (Aq bw n) n
def awO {bw} (cM:Uy bw):∀n:Nat,Lc (Aq bw n)
 |0=>λ_ _ _ h=>nz h
 |n+1=>aKB cM (awO cM n) n
def Hn (n:Nat):Option Bool:=
 some true
def aKA (n:Nat):Uy (Hn n):=λr h=>rr h []
def amR (n:Nat) (s0:ByteArray):Option Bool:=
 if decide ((s0.size:Int)<1) then
 some false
 else
 if decide (32<(s0.size:Int)) then
 some false
 else
 Aq (Hn n) n s0 0
def aKz (n:Nat):K1 (A99 []) KB (amR n):=λs0 r h=>ie h (λc0 h=>rr h [bj c0]) λc0 h=>ie h (λc1 h=>rr h [bj c0,bj c1]) λc1 h=>ra (awO (aKA n) n h) [bj c0,bj c1]
def F99:=amR
def ev99 (n:Nat):K1 (Cx E0 99 du bQ) KB (F99 n):=λ_ _ h=>ca (X:=x99) (aKz n h)
def x43:=fx E0 Tryz.f43 []
def A43:=Ax x43 du bQ
def aDS (t11:br) (t12 t13:Int) (t24:ByteArray) (t29 t34:Int) (t36:cO) (t37:Int) (t45:cO) (t46 t47:Int) (b9 b43:List (ByteArray×Bool)) (b5:aj):LS:=⟨[(3,.mp 9),(6,.mp 43),(11,.slice 44 5 t11.length (cZ t11)),(12,.int .i64 t12),(13,.int .i64 t13),(22,.mp 9),(23,.loc 5 0),(24,.str t24),(25,.bool false),(28,.loc 5 2),(29,.int .i64 t29),(30,.bool false),(33,.loc 5 2),(34,.int .i64 t34),(35,.loc 5 1),(36,.slice 73 2 t36.length (bE t36)),(37,.int .i64 t37),(38,.bool false),(45,.slice 73 2 t45.length (bE t45)),(46,.int .i64 t46),(47,.int .i64 t47)],[(5,.flat 44 (iC b5)),(9,.map (gN AV.bool b9)),(43,.map (gN AV.bool b43))]⟩
def aDR (t11:br) (t12 t13:Int) (t24:ByteArray) (t29 t34:Int) (t36:cO) (t37:Int) (b9:List (ByteArray×Bool)) (b5:aj):LS:=⟨[(3,.mp 9),(11,.slice 44 5 t11.length (cZ t11)),(12,.int .i64 t12),(13,.int .i64 t13),(22,.mp 9),(23,.loc 5 0),(24,.str t24),(25,.bool false),(28,.loc 5 2),(29,.int .i64 t29),(30,.bool false),(33,.loc 5 2),(34,.int .i64 t34),(35,.loc 5 1),(36,.slice 73 2 t36.length (bE t36)),(37,.int .i64 t37),(38,.bool false)],[(5,.flat 44 (iC b5)),(9,.map (gN AV.bool b9))]⟩
def aDQ (t11:br) (t12 t13:Int) (b9:List (ByteArray×Bool)):LS:=⟨[(3,.mp 9),(11,.slice 44 5 t11.length (cZ t11)),(12,.int .i64 t12),(13,.int .i64 t13)],[(9,.map (gN AV.bool b9))]⟩
def aDP:LS:=⟨[],[]⟩
def Yc (aN:br->Int->Int->ByteArray->Int->Int->cO->Int->(List (ByteArray×Bool))->aj->Option Bool) (back:br->Int->Int->ByteArray->Int->Int->cO->Int->cO->Int->Int->(List (ByteArray×Bool))->(List (ByteArray×Bool))->aj->Option Bool) (n:Nat) (t11:br) (t12 t13:Int) (t24:ByteArray) (t29 t34:Int) (t36:cO) (t37:Int) (t45:cO) (t46 t47:Int) (b9 b43:List (ByteArray×Bool)) (b5:aj):Option Bool:=
 if decide (t47<t46) then
 (idx t45 t47).bind λx2=>(F99 n x2.av).bind λx9=>if !x9 then
 some false
 else
 if (mC b43 x2.av false) then
 some false
 else
 if x2.ax !=3 then
 if x2.ax !=4 then
 if x2.ax !=5 then
 some false
 else
 back t11 t12 t13 t24 t29 t34 t36 t37 t45 t46 (bl (t47+1)) b9 (nh b43 x2.av true) b5
 else
 back t11 t12 t13 t24 t29 t34 t36 t37 t45 t46 (bl (t47+1)) b9 (nh b43 x2.av true) b5
 else
 back t11 t12 t13 t24 t29 t34 t36 t37 t45 t46 (bl (t47+1)) b9 (nh b43 x2.av true) b5
 else
 aN t11 t12 t13 t24 t29 t34 t36 t37 b9 b5
def Ux:=K10 (A43 (cF 971)) aDR
def Uw:=K14 (A43 (cF 97483)) aDS
def aLU {aN} (bn:Ux aN) {back} (aS:Uw back) (n:Nat):Uw (Yc aN back n):=λt11 t12 t13 t24 t29 t34 t36 t37 t45 t46 t47 b9 b43 b5 r h=>ie h (λc0 h=>be h λx2 cX h=>be h λx9 iO h=>let zA:SE:=[aI c0,(0,eL.idx cX),oY (ev99 n iO)];ie h (λc1 h=>bH h zA [aI c1]) λc1 h=>let zB:SE:=dU zA [aI c1];ie h (λc2 h=>bH h zB [(4,.lkp false (Aj c2))]) λc2 h=>let zC:SE:=dU zB [(4,.lkp false (Aj c2)),(4,.lR (Jr (f:=AV.bool) (k:=x2.av) (v:=true) b43))];ie h (λc3 h=>ie h (λc4 h=>ie h (λc5 h=>bH h zC [ba c3,bj c4,bt c5]) λc5 h=>cI (aS h) zC [ba c3,bj c4,bt c5]) λc4 h=>cI (aS h) zC [ba c3,bj c4]) λc3 h=>cI (aS h) zC [ba c3]) λc0 h=>ra (bn h) [aI c0]
def Mb (aN:br->Int->Int->ByteArray->Int->Int->cO->Int->(List (ByteArray×Bool))->aj->Option Bool):Nat->br->Int->Int->ByteArray->Int->Int->cO->Int->cO->Int->Int->(List (ByteArray×Bool))->(List (ByteArray×Bool))->aj->Option Bool
 |0=>λ_ _ _ _ _ _ _ _ _ _ _ _ _ _=>none
 |n+1=>Yc aN (Mb aN n) n
def axl {aN} (bn:Ux aN):∀n:Nat,Uw (Mb aN n)
 |0=>λ_ _ _ _ _ _ _ _ _ _ _ _ _ _ _ h=>nz h
 |n+1=>aLU bn (axl bn n) n
def Yb (bw:br->Int->Int->(List (ByteArray×Bool))->Option Bool) (n:Nat) (t11:br) (t12 t13:Int) (t24:ByteArray) (t29 t34:Int) (t36:cO) (t37:Int) (b9:List (ByteArray×Bool)) (b5:aj):Option Bool:=
 bw t11 t12 (bl (t13+1)) b9
def Lb:=K4 (A43 [0,1,0,1,1]) aDQ
def aLT {bw} (cM:Lb bw) (n:Nat):Ux (Yb bw n):=λt11 t12 t13 t24 t29 t34 t36 t37 b9 b5 r h=>ra (cM h) []
def Ya (bD:Option Bool) (back:br->Int->Int->(List (ByteArray×Bool))->Option Bool) (n:Nat) (t11:br) (t12 t13:Int) (b9:List (ByteArray×Bool)):Option Bool:=
 if decide (t13<t12) then
 (idx t11 t13).bind λx2=>(F99 n x2.av).bind λx9=>if !x9 then
 some false
 else
 if (mC b9 x2.av false) then
 some false
 else
 if decide (x2.ay<1) then
 some false
 else
 if decide ((x2.ae.length:Int)<x2.ay) then
 some false
 else
 Mb (Yb back n) n t11 t12 t13 x2.av x2.ay x2.ay x2.ae (x2.ae.length:Int) x2.ae (x2.ae.length:Int) 0 (nh b9 x2.av true) [] x2
 else
 bD
def Uv:=K0 (A43 [1,1,1]) aDP
def aLS {bD} (cU:Uv bD) {back} (aS:Lb back) (n:Nat):Lb (Ya bD back n):=λt11 t12 t13 b9 r h=>ie h (λc0 h=>be h λx2 cX h=>be h λx9 iO h=>let zA:SE:=[aI c0,(0,bW.idx cX),oY (ev99 n iO)];ie h (λc1 h=>bH h zA [aI c1]) λc1 h=>let zB:SE:=dU zA [aI c1];ie h (λc2 h=>bH h zB [(4,.lkp false (Aj c2))]) λc2 h=>let zC:SE:=dU zB [(4,.lkp false (Aj c2))];ie h (λc3 h=>bH h zC [bt c3]) λc3 h=>ie h (λc4 h=>bH h zC [bt c3,jS c4]) λc4 h=>cI (axl (aLT aS n) n h) zC [bt c3,jS c4,(4,.lR (Jr (f:=AV.bool) (k:=x2.av) (v:=true) b9))]) λc0 h=>ra (cU h) [aI c0]
def He (bD:Option Bool):Nat->br->Int->Int->(List (ByteArray×Bool))->Option Bool
 |0=>λ_ _ _ _=>none
 |n+1=>Ya bD (He bD n) n
def axk {bD} (cU:Uv bD):∀n:Nat,Lb (He bD n)
 |0=>λ_ _ _ _ _ h=>nz h
 |n+1=>aLS cU (axk cU n) n
def QE (n:Nat):Option Bool:=
 some true
def aLR (n:Nat):Uv (QE n):=λr h=>rr h []
def ayU (n:Nat) (s0:ag):Option Bool:=
 He (QE n) n s0.ai (s0.ai.length:Int) 0 []
def aLQ (n:Nat):K1 (A43 []) sy (ayU n):=λs0 r h=>ra (axk (aLR n) n h) []
def F43:=ayU
def ev43 (n:Nat):K1 (Cx E0 43 du bQ) sy (F43 n):=λ_ _ h=>ca (X:=x43) (aLQ n h)
def x44:=fx E0 Tryz.f44 []
def A44:=Ax x44 du bQ
def aDO (t11:br) (t12 t13:Int) (t18:cA) (t19 t20 t29:Int) (t31:br) (t32:Int) (t48:aK) (t49 t50:Int) (b1:ag) (b4 b7:aj) (b6:bk):LS:=⟨[(1,.loc 1 0),(4,.loc 4 0),(7,.loc 7 0),(11,.slice 44 5 t11.length (cZ t11)),(12,.int .i64 t12),(13,.int .i64 t13),(18,.slice 121 2 t18.length (aQ t18)),(19,.int .i64 t19),(20,.int .i64 t20),(28,.loc 6 1),(29,.int .i64 t29),(30,.loc 1 1),(31,.slice 44 5 t31.length (cZ t31)),(32,.int .i64 t32),(33,.bool false),(48,.slice 3 1 t48.length (eo t48)),(49,.int .i64 t49),(50,.int .i64 t50)],[(1,jt (dP b1)),(4,qO (iC b4)),(6,.flat 121 (BG b6)),(7,qO (iC b7))]⟩
def aDN (t11:br) (t12 t13:Int) (t18:cA) (t19 t20 t29:Int) (t31:br) (t32:Int) (b1:ag) (b4:aj) (b6:bk):LS:=⟨[(1,.loc 1 0),(4,.loc 4 0),(11,.slice 44 5 t11.length (cZ t11)),(12,.int .i64 t12),(13,.int .i64 t13),(18,.slice 121 2 t18.length (aQ t18)),(19,.int .i64 t19),(20,.int .i64 t20),(28,.loc 6 1),(29,.int .i64 t29),(30,.loc 1 1),(31,.slice 44 5 t31.length (cZ t31)),(32,.int .i64 t32),(33,.bool false)],[(1,jt (dP b1)),(4,qO (iC b4)),(6,.flat 121 (BG b6))]⟩
def aDM (t11:br) (t12 t13:Int) (t18:cA) (t19 t20:Int) (b1:ag) (b4:aj):LS:=⟨[(1,.loc 1 0),(4,.loc 4 0),(11,.slice 44 5 t11.length (cZ t11)),(12,.int .i64 t12),(13,.int .i64 t13),(18,.slice 121 2 t18.length (aQ t18)),(19,.int .i64 t19),(20,.int .i64 t20)],[(1,jt (dP b1)),(4,qO (iC b4))]⟩
def aoo (t11:br) (t12 t13:Int) (b1:ag):LS:=⟨[(1,.loc 1 0),(11,.slice 44 5 t11.length (cZ t11)),(12,.int .i64 t12),(13,.int .i64 t13)],[(1,jt (dP b1))]⟩
def aDL:LS:=⟨[],[]⟩
def X9 (aN:Wf39) (back:br->Int->Int->cA->Int->Int->Int->br->Int->aK->Int->Int->ag->aj->aj->bk->Option Bool) (n:Nat) (t11:br) (t12 t13:Int) (t18:cA) (t19 t20 t29:Int) (t31:br) (t32:Int) (t48:aK) (t49 t50:Int) (b1:ag) (b4 b7:aj) (b6:bk):Option Bool:=
 if decide (t50<t49) then
 (idx t48 t50).bind λx3=>if decide (x3<0) then
 some false
 else
 if !decide (x3<(b4.ae.length:Int)) then
 some false
 else
 (idx b4.ae x3).bind λpG=>(idx b7.ae t50).bind λnv=>if pG.ax !=nv.ax then
 some false
 else
 back t11 t12 t13 t18 t19 t20 t29 t31 t32 t48 t49 (bl (t50+1)) b1 b4 b7 b6
 else
 aN t11 t12 t13 t18 t19 t20 t29 t31 t32 b1 b4 b6
def Uu:=K12 (A44 (cF 124517)) aDN
def Ut:=K16 (A44 (cF 12478053)) aDO
def aLP {aN} (bn:Uu aN) {back} (aS:Ut back) (n:Nat):Ut (X9 aN back n):=λt11 t12 t13 t18 t19 t20 t29 t31 t32 t48 t49 t50 b1 b4 b7 b6 r h=>ie h (λc0 h=>be h λx3 eY h=>let zA:SE:=[aI c0,(1,R3.idx eY)];ie h (λc1 h=>bH h zA [bt c1]) λc1 h=>ie h (λc2 h=>bH h zA [bt c1,cq c2]) λc2 h=>be h λpG xT h=>be h λnv sL h=>let zB:SE:=dU zA [bt c1,cq c2,(5,eL.idx xT),(5,eL.idx sL)];ie h (λc3 h=>bH h zB [ba c3]) λc3 h=>cI (aS h) zB [ba c3]) λc0 h=>ra (bn h) [aI c0]
def Ma (aN:Wf39):Nat->br->Int->Int->cA->Int->Int->Int->br->Int->aK->Int->Int->ag->aj->aj->bk->Option Bool
 |0=>λ_ _ _ _ _ _ _ _ _ _ _ _ _ _ _ _=>none
 |n+1=>X9 aN (Ma aN n) n
def axj {aN} (bn:Uu aN):∀n:Nat,Ut (Ma aN n)
 |0=>λ_ _ _ _ _ _ _ _ _ _ _ _ _ _ _ _ _ h=>nz h
 |n+1=>aLP bn (axj bn n) n
def X8 (bw:Wf40) (n:Nat) (t11:br) (t12 t13:Int) (t18:cA) (t19 t20 t29:Int) (t31:br) (t32:Int) (b1:ag) (b4:aj) (b6:bk):Option Bool:=
 bw t11 t12 t13 t18 t19 (bl (t20+1)) b1 b4
def La:=K8 (A44 (cF 5733)) aDM
def aLO {bw} (cM:La bw) (n:Nat):Uu (X8 bw n):=λt11 t12 t13 t18 t19 t20 t29 t31 t32 b1 b4 b6 r h=>ra (cM h) []
def X7 (bD:amh) (back:Wf40) (n:Nat) (t11:br) (t12 t13:Int) (t18:cA) (t19 t20:Int) (b1:ag) (b4:aj):Option Bool:=
 if decide (t20<t19) then
 (idx t18 t20).bind λx2=>if decide (x2.aG<0) then
 some false
 else
 if !decide (x2.aG<(b1.ai.length:Int)) then
 some false
 else
 (idx b1.ai x2.aG).bind λnc=>if (x2.ae.length:Int) !=nc.ay then
 some false
 else
 Ma (X8 back n) n t11 t12 t13 t18 t19 t20 x2.aG b1.ai (b1.ai.length:Int) x2.ae (x2.ae.length:Int) 0 b1 b4 nc x2
 else
 bD t11 t12 t13 b1
def Us:=K4 (A44 (cF 485)) aoo
def aLN {bD} (cU:Us bD) {back} (aS:La back) (n:Nat):La (X7 bD back n):=λt11 t12 t13 t18 t19 t20 b1 b4 r h=>ie h (λc0 h=>be h λx2 cX h=>let zA:SE:=[aI c0,(0,eN.idx cX)];ie h (λc1 h=>bH h zA [cq c1]) λc1 h=>ie h (λc2 h=>bH h zA [cq c1,dL c2]) λc2 h=>be h λnc pc h=>let zB:SE:=dU zA [cq c1,dL c2,(5,bW.idx pc)];ie h (λc3 h=>bH h zB [iw c3]) λc3 h=>cI (axj (aLO aS n) n h) zB [iw c3]) λc0 h=>ra (cU h) [aI c0]
def Hd (bD:amh):Nat->br->Int->Int->cA->Int->Int->ag->aj->Option Bool
 |0=>λ_ _ _ _ _ _ _ _=>none
 |n+1=>X7 bD (Hd bD n) n
def axi {bD} (cU:Us bD):∀n:Nat,La (Hd bD n)
 |0=>λ_ _ _ _ _ _ _ _ _ h=>nz h
 |n+1=>aLN cU (axi cU n) n
def X6 (da:amh) (n:Nat) (t11:br) (t12 t13:Int) (b1:ag):Option Bool:=
 da t11 t12 (bl (t13+1)) b1
def KZ:=K4 (A44 [0,1,0,1]) aoo
def aLM {da} (eW:KZ da) (n:Nat):Us (X6 da n):=λt11 t12 t13 b1 r h=>ra (eW h) []
def X5 (dX:Option Bool) (back:amh) (n:Nat) (t11:br) (t12 t13:Int) (b1:ag):Option Bool:=
 if decide (t13<t12) then
 (idx t11 t13).bind λx2=>Hd (X6 back n) n t11 t12 t13 x2.af (x2.af.length:Int) 0 b1 x2
 else
 dX
def Ur:=K0 (A44 [1,1]) aDL
def aLL {dX} (gf:Ur dX) {back} (aS:KZ back) (n:Nat):KZ (X5 dX back n):=λt11 t12 t13 b1 r h=>ie h (λc0 h=>be h λx2 cX h=>ra (axi (aLM aS n) n h) [aI c0,(0,bW.idx cX)]) λc0 h=>ra (gf h) [aI c0]
def Hc (dX:Option Bool):Nat->br->Int->Int->ag->Option Bool
 |0=>λ_ _ _ _=>none
 |n+1=>X5 dX (Hc dX n) n
def axh {dX} (gf:Ur dX):∀n:Nat,KZ (Hc dX n)
 |0=>λ_ _ _ _ _ h=>nz h
 |n+1=>aLL gf (axh gf n) n
def QD (n:Nat):Option Bool:=
 some true
def aLK (n:Nat):Ur (QD n):=λr h=>rr h []
def ayT (n:Nat) (s0:ag):Option Bool:=
 Hc (QD n) n s0.ai (s0.ai.length:Int) 0 s0
def aLJ (n:Nat):K1 (A44 []) sy (ayT n):=λs0 r h=>ra (axh (aLK n) n h) []
def F44:=ayT
def ev44 (n:Nat):K1 (Cx E0 44 du bQ) sy (F44 n):=λ_ _ h=>ca (X:=x44) (aLJ n h)
def x100:=fx E0 Tryz.f100 []
def A100:=Ax x100 du bQ
def afi (n:Nat) (s0:ag) (dh:Int):Option Bool:=
 if !decide (dh<0) then
 some (decide (dh<(s0.ai.length:Int)))
 else
 some false
def aIK (n:Nat):K2 (A100 []) D3 (afi n):=λs0 dh r h=>ie h (λc0 h=>rr h [bj c0]) λc0 h=>rr h [bj c0]
def N9:=afi
def P1 (n:Nat):K2 (Cx E0 100 du bQ) D3 (N9 n):=λ_ _ _ h=>ca (X:=x100) (aIK n h)
def Eg (r:aK):List (Nat×Bx):= [(cT,xM r)]
def H4:=fx E0 Tryz.f45 []
def A45:=Ax H4 Cj Eg
def aDK (t25:cO) (t26 t27:Int) (HQ:aK):LS:=⟨[(5,.ms 19 1 0 HQ.length),(25,.slice 73 2 t25.length (bE t25)),(26,.int .i64 t26),(27,.int .i64 t27)],[(19,xM HQ)]⟩
def aDJ (HQ:aK):LS:=⟨[(5,.ms 19 1 0 HQ.length)],[(19,xM HQ)]⟩
def X4 (aN:Wf0) (back:cO->Int->Int->aK->Option aK) (n:Nat) (t25:cO) (t26 t27:Int) (HQ:aK):Option aK:=
 if decide (t27<t26) then
 (idx t25 t27).bind λx2=>(app HQ [x2.ax]).bind λdA=>back t25 t26 (bl (t27+1)) dA
 else
 aN HQ
def Uq:=K1 (A45 [1,1,1,1]) aDJ
def Uo:=K4 (A45 (cF 87)) aDK
def aLI {aN} (bn:Uq aN) {back} (aS:Uo back) (n:Nat):Uo (X4 aN back n):=λt25 t26 t27 HQ r h=>ie h (λc0 h=>be h λx2 cX h=>be h λdA gn h=>ra (aS h) [aI c0,(0,eL.idx cX),(7,R3.kE gn)]) λc0 h=>ra (bn h) [aI c0]
def L9 (aN:Wf0):Nat->cO->Int->Int->aK->Option aK
 |0=>λ_ _ _ _=>none
 |n+1=>X4 aN (L9 aN n) n
def axg {aN} (bn:Uq aN):∀n:Nat,Uo (L9 aN n)
 |0=>λ_ _ _ _ _ h=>nz h
 |n+1=>aLI bn (axg bn n) n
def X3 (n:Nat) (HQ:aK):Option aK:=
 some HQ
def aLH (n:Nat):Uq (X3 n):=λHQ r h=>rr h [(2,.jl 19 cT)]
def ant (n:Nat) (s0:ag) (dh:Int):Option aK:=
 (N9 n s0 dh).bind λx5=>if !x5 then
 some []
 else
 (idx s0.ai dh).bind λdA=>(rz (dA.ae.length:Int) (0:Int)).bind λfg=>(idx s0.ai dh).bind λnc=>L9 (X3 n) n nc.ae (nc.ae.length:Int) 0 []
def aLG (n:Nat):K2 (A45 []) D3 (ant n):=λs0 dh r h=>be h λx5 kR h=>ie h (λc0 h=>rr h [mV (P1 n kR),aI c0,(1,.born [4] [] cT false 3 1)]) λc0 h=>be h λdA gn h=>be h λfg iM h=>be h λnc pc h=>ra (axg (aLH n) n h) [mV (P1 n kR),aI c0,(3,bW.idx gn),(3,R3.aJu iM),(4,bW.idx pc)]
def F45:=ant
def ev45 (n:Nat):K2 (Cx E0 45 Cj Eg) D3 (F45 n):=λ_ _ _ h=>ca (X:=H4) (aLG n h)
def x101:=fx E0 Tryz.f101 []
def awf:=Ax x101 du bQ
def aBk:LS:=⟨[],[]⟩
def ahf (rD:aK):LS:=⟨[(0,.slice 3 1 rD.length (eo rD))],[]⟩
def Sm (aN:Option Bool) (back:aK->Int->Int->Option Bool) (n:Nat) (t5:aK) (t6 t7:Int):Option Bool:=
 if decide (t7<t6) then
 (idx t5 t7).bind λx2=>if x2 !=3 then
 if x2 !=4 then
 if x2 !=5 then
 some false
 else
 back t5 t6 (bl (t7+1))
 else
 back t5 t6 (bl (t7+1))
 else
 back t5 t6 (bl (t7+1))
 else
 aN
def Un:=K0 (awf [1,1]) aBk
def Um:=K3 (awf [0,1,0,1]) agF
def aIJ {aN} (bn:Un aN) {back} (aS:Um back) (n:Nat):Um (Sm aN back n):=λt5 t6 t7 r h=>ie h (λc0 h=>be h λx2 cX h=>let zA:SE:=[aI c0,(0,R3.idx cX)];ie h (λc1 h=>ie h (λc2 h=>ie h (λc3 h=>bH h zA [bj c1,ba c2,bj c3]) λc3 h=>cI (aS h) zA [bj c1,ba c2,bj c3]) λc2 h=>cI (aS h) zA [bj c1,ba c2]) λc1 h=>cI (aS h) zA [bj c1]) λc0 h=>ra (bn h) [aI c0]
def FB (aN:Option Bool):Nat->aK->Int->Int->Option Bool
 |0=>λ_ _ _=>none
 |n+1=>Sm aN (FB aN n) n
def aqK {aN} (bn:Un aN):∀n:Nat,Um (FB aN n)
 |0=>λ_ _ _ _ h=>nz h
 |n+1=>aIJ bn (aqK bn n) n
def afh (n:Nat):Option Bool:=
 some true
def aII (n:Nat):Un (afh n):=λr h=>rr h []
def afg (n:Nat) (rD:aK):Option Bool:=
 FB (afh n) n rD (rD.length:Int) 0
def aIH (n:Nat):K1 (awf []) ahf (afg n):=λrD r h=>ra (aqK (aII n) n h) []
def adL:=afg
def ayr (n:Nat):K1 (Cx E0 101 du bQ) ahf (adL n):=λ_ _ h=>ca (X:=x101) (aIH n h)
def aoY (r:(Bool×Int)):AV:=.bool r.1
def ahz (r:(Bool×Int)):List (Nat×Bx):= [(2,.flat 3 [cg r.2])]
def x102:=fx E0 Tryz.f102 [2]
def awe:=Ax x102 aoY ahz
def C102:=Cx E0 102 aoY ahz
def aBj (qU:Int) (t23:bN) (t24 t25 b2:Int):LS:=⟨[(1,.int .i64 qU),(2,.loc 2 0),(23,.slice 107 13 t23.length (aJ t23)),(24,.int .i64 t24),(25,.int .i64 t25)],[(2,.flat 3 [cg b2])]⟩
def aBi (b2:Int):LS:=⟨[],[(2,.flat 3 [cg b2])]⟩
def ahe (p0:ah) (qU ug:Int):LS:=⟨[(0,.agg (fk p0)),(1,cg qU),(2,.loc 2 0)],[(2,.flat 3 [cg ug])]⟩
def Sl (nE:ah->Int->Int->Option (Bool×Int)) (aN:Int->Option (Bool×Int)) (back:Int->bN->Int->Int->Int->Option (Bool×Int)) (n:Nat) (qU:Int) (t23:bN) (t24 t25 b2:Int):Option (Bool×Int):=
 if decide (t25<t24) then
 (idx t23 t25).bind λx2=>(nE x2 (bl (qU+1)) b2).bind λdA=>if !dA.1 then
 some (false,dA.2)
 else
 back qU t23 t24 (bl (t25+1)) dA.2
 else
 aN b2
def D7:=K3 C102 ahe
def Ul:=K1 (awe [1,1,1,1]) aBi
def Uk:=K5 (awe (cF 87)) aBj
def aIG {nE} (yR:D7 nE) {aN} (bn:Ul aN) {back} (aS:Uk back) (n:Nat):Uk (Sl nE aN back n):=λqU t23 t24 t25 b2 r h=>ie h (λc0 h=>be h λx2 cX h=>be h λdA gn h=>let zA:SE:=[aI c0,(0,eD.idx cX),(7,.call (yR gn) [(2,2)] [])];ie h (λc1 h=>bH h zA [aI c1]) λc1 h=>cI (aS h) zA [aI c1]) λc0 h=>ra (bn h) [aI c0]
def FA (nE:ah->Int->Int->Option (Bool×Int)) (aN:Int->Option (Bool×Int)):Nat->Int->bN->Int->Int->Int->Option (Bool×Int)
 |0=>λ_ _ _ _ _=>none
 |n+1=>Sl nE aN (FA nE aN n) n
def aqJ {nE} (yR:D7 nE) {aN} (bn:Ul aN):∀n:Nat,Uk (FA nE aN n)
 |0=>λ_ _ _ _ _ _ h=>nz h
 |n+1=>aIG yR bn (aqJ yR bn n) n
def asv (nE:ah->Int->Int->Option (Bool×Int)) (n:Nat) (b2:Int):Option (Bool×Int):=
 some (true,b2)
def aIF {nE} (yR:D7 nE) (n:Nat):Ul (asv nE n):=λb2 r h=>rr h []
def aff (nE:ah->Int->Int->Option (Bool×Int)) (n:Nat) (p0:ah) (qU ug:Int):Option (Bool×Int):=
 if decide ((bl (ug - 1))<0) then
 some (false,bl (ug - 1))
 else
 if decide (8<qU) then
 some (false,bl (ug - 1))
 else
 FA nE (asv nE n) n qU p0.fArgs (p0.fArgs.length:Int) 0 (bl (ug - 1))
def aIE {nE} (yR:D7 nE) (n:Nat):K3 (awe []) ahe (aff nE n):=λp0 qU ug r h=>ie h (λc0 h=>rr h [(11,eb c0)]) λc0 h=>ie h (λc1 h=>rr h [(11,eb c0),ba c1]) λc1 h=>ra (aqJ yR (aIF yR n) n h) [(11,eb c0),ba c1]
def VJ:Nat->ah->Int->Int->Option (Bool×Int)
 |0,_,_,_=>none
 |n+1,p0,qU,ug=>aff (VJ n) n p0 qU ug
def ayq:∀n:Nat,D7 (VJ n)
 |0=>λ_ _ _ _ h=>nz h
 |n+1=>λ_ _ _ _ h=>ca (X:=x102) (aIE (ayq n) n h)
def x114:=fx E0 Tryz.f114 []
def A114:=Ax x114 du bQ
def asu (n:Nat) (v0:aR):Option Bool:=
 if v0.ax==1 then
 if v0.bX==0 then
 some (decide (v0.bB=ByteArray.empty))
 else
 some false
 else
 if v0.ax==2 then
 if v0.bX==0 then
 some (decide (v0.bB=ByteArray.empty))
 else
 some false
 else
 if v0.ax==3 then
 if v0.bX==0 then
 some (decide (v0.bB=ByteArray.empty))
 else
 if v0.bX==1 then
 some (decide (v0.bB=ByteArray.empty))
 else
 some false
 else
 if v0.ax==4 then
 some (decide (v0.bB=ByteArray.empty))
 else
 if v0.ax==5 then
 if v0.bX==0 then
 some (!decide (64<(v0.bB.size:Int)))
 else
 some false
 else
 some false
def aIm (n:Nat):K1 (A114 []) vE (asu n):=λv0 r h=>ie h (λc0 h=>ie h (λc1 h=>rr h [bt c0,bj c1]) λc1 h=>rr h [bt c0,bj c1]) λc0 h=>ie h (λc1 h=>ie h (λc2 h=>rr h [bt c0,bb c1,bj c2]) λc2 h=>rr h [bt c0,bb c1,bj c2]) λc1 h=>let zA:SE:=[bt c0,bb c1];ie h (λc2 h=>ie h (λc3 h=>bH h zA [bb c2,bj c3]) λc3 h=>ie h (λc4 h=>bH h zA [bb c2,bj c3,bj c4]) λc4 h=>bH h zA [bb c2,bj c3,bj c4]) λc2 h=>let zB:SE:=dU zA [bb c2];ie h (λc3 h=>bH h zB [bb c3]) λc3 h=>ie h (λc4 h=>ie h (λc5 h=>bH h zB [bb c3,bb c4,bj c5]) λc5 h=>bH h zB [bb c3,bb c4,bj c5]) λc4 h=>bH h zB [bb c3,bb c4]
def amM:=asu
def aym (n:Nat):K1 (Cx E0 114 du bQ) vE (amM n):=λ_ _ h=>ca (X:=x114) (aIm n h)
def x163:=fx E0 Tryz.f163 []
def A163:=Ax x163 du bQ
def aev (n:Nat) (v0:aR):Option Bool:=
 (amM n v0).bind λx4=>if x4 then
 if v0.ax !=1 then
 some (v0.ax !=2)
 else
 some false
 else
 some false
def aGE (n:Nat):K1 (A163 []) vE (aev n):=λv0 r h=>be h λx4 jm h=>let zA:SE:=[kG (aym n jm)];ie h (λc0 bI=>by subst c0;exact (ie bI (λc1 bI=>bH bI zA [bj c1]) λc1 bI=>bH bI zA [bj c1])) λc0 bI=>by subst c0;exact (rr bI zA)
def adt:=aev
def alh (n:Nat):K1 (Cx E0 163 du bQ) vE (adt n):=λ_ _ h=>ca (X:=x163) (aGE n h)
def x156:=fx E0 Tryz.f156 []
def A156:=Ax x156 ed bQ
def aAb (Lq:aK) (b3:aT):LS:=⟨[(3,.loc 3 0),(5,.slice 3 1 Lq.length (eo Lq))],[(3,.flat 105 (pR b3))]⟩
def agJ (k0:iL) (o1:aT):LS:=⟨[(0,.agg (Jt k0)),(1,.agg (pR o1))],[]⟩
def Ro (n:Nat) (Lq:aK) (b3:aT):Option Int:=
 if decide (b3.cQ<0) then
 some 0
 else
 if !decide (b3.cQ<(Lq.length:Int)) then
 some 0
 else
 if !((b3.aD.ax==0) && ((b3.aD.bX==0) && ((decide (b3.aD.bB=ByteArray.empty)) && true))) then
 some 0
 else
 (idx Lq b3.cQ).bind λkL=>some kL
def arE (n:Nat):K2 (A156 [1,1,1]) aAb (Ro n):=λLq b3 r h=>ie h (λc0 h=>rr h [ba c0]) λc0 h=>ie h (λc1 h=>rr h [ba c0,cq c1]) λc1 h=>ie h (λc2 h=>rr h [ba c0,cq c1,cq c2]) λc2 h=>be h λkL kC h=>rr h [ba c0,cq c1,cq c2,(4,R3.idx kC)]
def aeB (n:Nat) (k0:iL) (o1:aT):Option Int:=
 if o1.ax==3 then
 if o1.cQ !=0 then
 some 0
 else
 (adt n o1.aD).bind λiG=>if !iG then
 some 0
 else
 some o1.aD.ax
 else
 if o1.ax==2 then
 Ro n k0.mN o1
 else
 if o1.ax==1 then
 Ro n k0.lp o1
 else
 some 0
def aGN (n:Nat):K2 (A156 []) agJ (aeB n):=λk0 o1 r h=>ie h (λc0 h=>ie h (λc1 h=>rr h [iw c0,bj c1]) λc1 h=>be h λiG kg h=>let zA:SE:=[iw c0,bj c1,kG (alh n kg)];ie h (λc2 h=>bH h zA [aI c2]) λc2 h=>bH h zA [aI c2]) λc0 h=>ie h (λc1 h=>ra (arE n h) [iw c0,bb c1]) λc1 h=>ie h (λc2 h=>ra (arE n h) [iw c0,bb c1,bb c2]) λc2 h=>rr h [iw c0,bb c1,bb c2]
def adv:=aeB
def aye (n:Nat):K2 (Cx E0 156 ed bQ) agJ (adv n):=λ_ _ _ h=>ca (X:=x156) (aGN n h)
def x103:=fx E0 Tryz.f103 []
def VU:=Ax x103 du bQ
def C103:=Cx E0 103 du bQ
def aBh (t76:bN) (t77 t78:Int) (b2:iL):LS:=⟨[(2,.loc 2 0),(76,.slice 107 13 t76.length (aJ t76)),(77,.int .i64 t77),(78,.int .i64 t78)],[(2,.flat 193 (Jt b2))]⟩
def aBg:LS:=⟨[],[]⟩
def aBf (t50:Bool) (b2:iL) (b3:ah):LS:=⟨[(2,.loc 2 0),(3,.loc 3 0),(50,.bool t50)],[(2,.flat 193 (Jt b2)),(3,qP (fk b3))]⟩
def aBe:LS:=⟨[],[]⟩
def aBd (b2:iL) (b3:ah):LS:=⟨[(2,.loc 2 0),(3,.loc 3 0)],[(2,.flat 193 (Jt b2)),(3,qP (fk b3))]⟩
def ahd (k0:iL) (p1:ah):LS:=⟨[(0,.agg (Jt k0)),(1,.agg (fk p1))],[]⟩
def Sk (eX:iL->ah->Option Bool) (aN:Option Bool) (back:Wf42) (n:Nat) (t76:bN) (t77 t78:Int) (b2:iL):Option Bool:=
 if decide (t78<t77) then
 (idx t76 t78).bind λx2=>(eX b2 x2).bind λx9=>if !x9 then
 some false
 else
 back t76 t77 (bl (t78+1)) b2
 else
 aN
def sA:=K2 C103 ahd
def Uj:=K0 (VU [1,1,1,1]) aBg
def AB:=K4 (VU (cF 87)) aBh
def aID {eX} (j3:sA eX) {aN} (bn:Uj aN) {back} (aS:AB back) (n:Nat):AB (Sk eX aN back n):=λt76 t77 t78 b2 r h=>ie h (λc0 h=>be h λx2 cX h=>be h λx9 iO h=>let zA:SE:=[aI c0,(0,eD.idx cX),oY (j3 iO)];ie h (λc1 h=>bH h zA [aI c1]) λc1 h=>cI (aS h) zA [aI c1]) λc0 h=>ra (bn h) [aI c0]
def zb (eX:iL->ah->Option Bool) (aN:Option Bool):Nat->bN->Int->Int->iL->Option Bool
 |0=>λ_ _ _ _=>none
 |n+1=>Sk eX aN (zb eX aN n) n
def aqI {eX} (j3:sA eX) {aN} (bn:Uj aN):∀n:Nat,AB (zb eX aN n)
 |0=>λ_ _ _ _ _ h=>nz h
 |n+1=>aID j3 bn (aqI j3 bn n) n
def Sj (eX:iL->ah->Option Bool) (n:Nat):Option Bool:=
 some true
def aIC {eX} (j3:sA eX) (n:Nat):Uj (Sj eX n):=λr h=>rr h []
def Kh (eX:iL->ah->Option Bool) (n:Nat) (t50:Bool) (b2:iL) (b3:ah):Option Bool:=
 if t50 then
 some false
 else
 if b3.eM !=0 then
 some false
 else
 if !((b3.cm.ax==0) && ((b3.cm.cQ==0) && (((b3.cm.aD.ax==0) && ((b3.cm.aD.bX==0) && ((decide (b3.cm.aD.bB=ByteArray.empty)) && true))) && true))) then
 some false
 else
 if !((b3.bL.ax==0) && ((b3.bL.cQ==0) && (((b3.bL.aD.ax==0) && ((b3.bL.aD.bX==0) && ((decide (b3.bL.aD.bB=ByteArray.empty)) && true))) && true))) then
 some false
 else
 zb eX (Sj eX n) n b3.fArgs (b3.fArgs.length:Int) 0 b2
def arL {eX} (j3:sA eX) (n:Nat):K3 (VU (cF 885)) aBf (Kh eX n):=λt50 b2 b3 r h=>ie h (λc0 bI=>by subst c0;exact (rr bI [])) λc0 bI=>by subst c0;exact (ie bI (λc1 bI=>rr bI [ba c1]) λc1 bI=>ie bI (λc2 bI=>rr bI [ba c1,bt c2]) λc2 bI=>ie bI (λc3 bI=>rr bI [ba c1,bt c2,cq c3]) λc3 bI=>ra (aqI j3 (aIC j3 n) n bI) [ba c1,bt c2,cq c3])
def Si (eX:iL->ah->Option Bool) (da:Option Bool) (back:Wf42) (n:Nat) (t76:bN) (t77 t78:Int) (b2:iL):Option Bool:=
 if decide (t78<t77) then
 (idx t76 t78).bind λx2=>(eX b2 x2).bind λx9=>if !x9 then
 some false
 else
 back t76 t77 (bl (t78+1)) b2
 else
 da
def Ui:=K0 (VU [1,1,1,1]) aBe
def aIB {eX} (j3:sA eX) {da} (eW:Ui da) {back} (aS:AB back) (n:Nat):AB (Si eX da back n):=λt76 t77 t78 b2 r h=>ie h (λc0 h=>be h λx2 cX h=>be h λx9 iO h=>let zA:SE:=[aI c0,(0,eD.idx cX),oY (j3 iO)];ie h (λc1 h=>bH h zA [aI c1]) λc1 h=>cI (aS h) zA [aI c1]) λc0 h=>ra (eW h) [aI c0]
def za (eX:iL->ah->Option Bool) (da:Option Bool):Nat->bN->Int->Int->iL->Option Bool
 |0=>λ_ _ _ _=>none
 |n+1=>Si eX da (za eX da n) n
def aqH {eX} (j3:sA eX) {da} (eW:Ui da):∀n:Nat,AB (za eX da n)
 |0=>λ_ _ _ _ _ h=>nz h
 |n+1=>aIB j3 eW (aqH j3 eW n) n
def Sg (eX:iL->ah->Option Bool) (n:Nat):Option Bool:=
 some true
def aIA {eX} (j3:sA eX) (n:Nat):Ui (Sg eX n):=λr h=>rr h []
def FU (eX:iL->ah->Option Bool) (n:Nat) (b2:iL) (b3:ah):Option Bool:=
 if b3.eM !=0 then
 some false
 else
 if !((b3.cm.ax==0) && ((b3.cm.cQ==0) && (((b3.cm.aD.ax==0) && ((b3.cm.aD.bX==0) && ((decide (b3.cm.aD.bB=ByteArray.empty)) && true))) && true))) then
 some false
 else
 if !((b3.bL.ax==0) && ((b3.bL.cQ==0) && (((b3.bL.aD.ax==0) && ((b3.bL.aD.bX==0) && ((decide (b3.bL.aD.bB=ByteArray.empty)) && true))) && true))) then
 some false
 else
 za eX (Sg eX n) n b3.fArgs (b3.fArgs.length:Int) 0 b2
def acn {eX} (j3:sA eX) (n:Nat):K2 (VU [1,1]) aBd (FU eX n):=λb2 b3 r h=>ie h (λc0 h=>rr h [ba c0]) λc0 h=>ie h (λc1 h=>rr h [ba c0,bt c1]) λc1 h=>ie h (λc2 h=>rr h [ba c0,bt c1,cq c2]) λc2 h=>ra (aqH j3 (aIA j3 n) n h) [ba c0,bt c1,cq c2]
def afe (eX:iL->ah->Option Bool) (n:Nat) (k0:iL) (p1:ah):Option Bool:=
 if p1.bh==3 then
 (adv n k0 p1.cm).bind λdA=>(adv n k0 p1.bL).bind λfg=>if (p1.fArgs.length:Int)==0 then
 if !decide (p1.eM<1) then
 if !decide (6<p1.eM) then
 if dA !=0 then
 some (dA==fg)
 else
 some false
 else
 some false
 else
 some false
 else
 some false
 else
 if p1.bh==1 then
 Kh eX n ((p1.fArgs.length:Int) !=0) k0 p1
 else
 if p1.bh==2 then
 Kh eX n ((p1.fArgs.length:Int) !=0) k0 p1
 else
 if p1.bh==6 then
 if (p1.fArgs.length:Int) !=1 then
 some false
 else
 FU eX n k0 p1
 else
 if p1.bh==4 then
 FU eX n k0 p1
 else
 if p1.bh==5 then
 FU eX n k0 p1
 else
 some false
def aIz {eX} (j3:sA eX) (n:Nat):K2 (VU []) ahd (afe eX n):=λk0 p1 r h=>ie h (λc0 h=>be h λdA gn h=>be h λfg iM h=>let zA:SE:=[cq c0,(1,.ord [0,1,2,4,5,6,3,7,8,9]),Lv (aye n gn),oZ (aye n iM)];ie h (λc1 h=>let zB:SE:=dU zA [cq c1];ie h (λc2 h=>ie h (λc3 h=>ie h (λc4 h=>bH h zB [bj c2,bt c3,bj c4]) λc4 h=>bH h zB [bj c2,bt c3,bj c4]) λc3 h=>bH h zB [bj c2,bt c3]) λc2 h=>bH h zB [bj c2]) λc1 h=>bH h zA [cq c1]) λc0 h=>ie h (λc1 h=>ra (arL j3 n h) [cq c0,bb c1]) λc1 h=>let zA:SE:=[cq c0,bb c1];ie h (λc2 h=>cI (arL j3 n h) zA [bb c2]) λc2 h=>let zB:SE:=dU zA [bb c2];ie h (λc3 h=>ie h (λc4 h=>bH h zB [bb c3,bt c4]) λc4 h=>cI (acn j3 n h) zB [bb c3,bt c4]) λc3 h=>ie h (λc4 h=>cI (acn j3 n h) zB [bb c3,bb c4]) λc4 h=>ie h (λc5 h=>cI (acn j3 n h) zB [bb c3,bb c4,bb c5]) λc5 h=>bH h zB [bb c3,bb c4,bb c5]
def vw:Nat->iL->ah->Option Bool
 |0,_,_=>none
 |n+1,k0,p1=>afe (vw n) n k0 p1
def ayp:∀n:Nat,sA (vw n)
 |0=>λ_ _ _ h=>nz h
 |n+1=>λ_ _ _ h=>ca (X:=x103) (aIz (ayp n) n h)
def AQ:=fx E0 Tryz.f46 []
def A46:=Ax AQ ed bQ
def ans (n:Nat) (er params1:aK) (p2:ah):Option Int:=
 (adL n er).bind λx4=>if !x4 then
 some 1
 else
 (adL n params1).bind λx9=>if !x9 then
 some 1
 else
 (VJ n p2 1 24).bind λfg=>if !fg.1 then
 some 2
 else
 (vw n (iL.mk er params1) p2).bind λiF=>if !iF then
 some 50
 else
 some 0
def aLF (n:Nat):K3 (A46 []) AA (ans n):=λer params1 p2 r h=>be h λx4 jm h=>let zA:SE:=[kG (ayr n jm)];ie h (λc0 h=>bH h zA [aI c0]) λc0 h=>be h λx9 iO h=>let zB:SE:=dU zA [aI c0,iS (ayr n iO)];ie h (λc1 h=>bH h zB [aI c1]) λc1 h=>be h λfg iM h=>let zC:SE:=dU zB [aI c1,(4,.call (ayq n iM) [(7,2)] [])];ie h (λc2 h=>bH h zC [aI c2]) λc2 h=>be h λiF tv h=>let zD:SE:=dU zC [aI c2,mV (ayp n tv)];ie h (λc3 h=>bH h zD [aI c3]) λc3 h=>bH h zD [aI c3]
def F46:=ans
def ev46 (n:Nat):K3 (Cx E0 46 ed bQ) AA (F46 n):=λ_ _ _ _ h=>ca (X:=AQ) (aLF n h)
def fh:=fx E0 Tryz.f15 []
def A15:=Ax fh ed bQ
def aEp (Es:aK) (t58:br) (t59 t60:Int) (t69:bN) (t70 t71:Int) (b1:ag):LS:=⟨[(1,.loc 1 0),(7,.slice 3 1 Es.length (eo Es)),(58,.slice 44 5 t58.length (cZ t58)),(59,.int .i64 t59),(60,.int .i64 t60),(69,.slice 107 13 t69.length (aJ t69)),(70,.int .i64 t70),(71,.int .i64 t71)],[(1,jt (dP b1))]⟩
def aoA (t58:br) (t59 t60:Int) (b1:ag):LS:=⟨[(1,.loc 1 0),(58,.slice 44 5 t58.length (cZ t58)),(59,.int .i64 t59),(60,.int .i64 t60)],[(1,jt (dP b1))]⟩
def aEo:LS:=⟨[],[]⟩
def Yt (dX:JK) (back:Vp) (n:Nat) (t16:br) (t17 t18:Int) (b1:ag):Option Int:=
 if decide (t18<t17) then
 (idx t16 t18).bind λx2=>if decide (8<(x2.ae.length:Int)) then
 some 2
 else
 if decide (4<(x2.af.length:Int)) then
 some 2
 else
 if decide (4<(x2.ak.length:Int)) then
 some 2
 else
 back t16 t17 (bl (t18+1)) b1
 else
 dX b1
def Uh:=K1 (A15 [1,1,1]) OB
def Ug:=K4 (A15 [0,1,0,1,1]) aod
def aMF {dX} (gf:Uh dX) {back} (aS:Ug back) (n:Nat):Ug (Yt dX back n):=λt16 t17 t18 b1 r h=>ie h (λc0 h=>be h λx2 cX h=>let zA:SE:=[aI c0,(0,bW.idx cX)];ie h (λc1 h=>bH h zA [dL c1]) λc1 h=>ie h (λc2 h=>bH h zA [dL c1,bt c2]) λc2 h=>ie h (λc3 h=>bH h zA [dL c1,bt c2,cq c3]) λc3 h=>cI (aS h) zA [dL c1,bt c2,cq c3]) λc0 h=>ra (gf h) [aI c0]
def Mj (dX:JK):Nat->br->Int->Int->ag->Option Int
 |0=>λ_ _ _ _=>none
 |n+1=>Yt dX (Mj dX n) n
def axy {dX} (gf:Uh dX):∀n:Nat,Ug (Mj dX n)
 |0=>λ_ _ _ _ _ h=>nz h
 |n+1=>aMF gf (axy gf n) n
def Ys (bw:Vp) (back:aK->br->Int->Int->bN->Int->Int->ag->Option Int) (n:Nat) (Es:aK) (t58:br) (t59 t60:Int) (t69:bN) (t70 t71:Int) (b1:ag):Option Int:=
 if decide (t71<t70) then
 (idx t69 t71).bind λx2=>(F46 n Es [] x2).bind λx9=>if x9 !=0 then
 some x9
 else
 back Es t58 t59 t60 t69 t70 (bl (t71+1)) b1
 else
 bw t58 t59 t60 b1
def Uf:=K4 (A15 (cF 3887)) aoA
def Ue:=K8 (A15 (cF 95023)) aEp
def aME {bw} (cM:Uf bw) {back} (aS:Ue back) (n:Nat):Ue (Ys bw back n):=λEs t58 t59 t60 t69 t70 t71 b1 r h=>ie h (λc0 h=>be h λx2 cX h=>be h λx9 iO h=>let zA:SE:=[aI c0,(0,eD.idx cX),oY (ev46 n iO)];ie h (λc1 h=>bH h zA [ba c1]) λc1 h=>cI (aS h) zA [ba c1]) λc0 h=>ra (cM h) [aI c0]
def Mi (bw:Vp):Nat->aK->br->Int->Int->bN->Int->Int->ag->Option Int
 |0=>λ_ _ _ _ _ _ _ _=>none
 |n+1=>Ys bw (Mi bw n) n
def axx {bw} (cM:Uf bw):∀n:Nat,Ue (Mi bw n)
 |0=>λ_ _ _ _ _ _ _ _ _ h=>nz h
 |n+1=>aME cM (axx cM n) n
def Yr (bD:Vp) (n:Nat) (t58:br) (t59 t60:Int) (b1:ag):Option Int:=
 bD t58 t59 (bl (t60+1)) b1
def KY:=K4 (A15 (cF 175)) aoA
def aMD {bD} (cU:KY bD) (n:Nat):Uf (Yr bD n):=λt58 t59 t60 b1 r h=>ra (cU h) []
def Yq (da:Option Int) (back:Vp) (n:Nat) (t58:br) (t59 t60:Int) (b1:ag):Option Int:=
 if decide (t60<t59) then
 (idx t58 t60).bind λx3=>(F45 n b1 t60).bind λdA=>Mi (Yr back n) n dA t58 t59 t60 x3.ak (x3.ak.length:Int) 0 b1
 else
 da
def Ud:=K0 (A15 [1,1,1,1,1]) aEo
def aMC {da} (eW:Ud da) {back} (aS:KY back) (n:Nat):KY (Yq da back n):=λt58 t59 t60 b1 r h=>ie h (λc0 h=>be h λx3 eY h=>be h λdA gn h=>ra (axx (aMD aS n) n h) [aI c0,(1,bW.idx eY),(6,.call (ev45 n gn) [] [(67,cT)]),(5,R3.fX 67 dA)]) λc0 h=>ra (eW h) [aI c0]
def Hi (da:Option Int):Nat->br->Int->Int->ag->Option Int
 |0=>λ_ _ _ _=>none
 |n+1=>Yq da (Hi da n) n
def axw {da} (eW:Ud da):∀n:Nat,KY (Hi da n)
 |0=>λ_ _ _ _ _ h=>nz h
 |n+1=>aMC eW (axw eW n) n
def Rk (n:Nat):Option Int:=
 some 0
def aMB (n:Nat):Ud (Rk n):=λr h=>rr h []
def Yp (n:Nat) (b1:ag):Option Int:=
 if decide (b1.aw<0) then
 some 70
 else
 if decide (1000<b1.aw) then
 some 70
 else
 (F43 n b1).bind λdA=>if !dA then
 some 70
 else
 (F44 n b1).bind λiG=>if !iG then
 some 70
 else
 Hi (Rk n) n b1.ai (b1.ai.length:Int) 0 b1
def aMA (n:Nat):Uh (Yp n):=λb1 r h=>ie h (λc0 h=>rr h [ba c0]) λc0 h=>ie h (λc1 h=>rr h [ba c0,bj c1]) λc1 h=>be h λdA gn h=>let zA:SE:=[ba c0,bj c1,kG (ev43 n gn)];ie h (λc2 h=>bH h zA [aI c2]) λc2 h=>be h λiG kg h=>let zB:SE:=dU zA [aI c2,kG (ev44 n kg)];ie h (λc3 h=>bH h zB [aI c3]) λc3 h=>cI (axw (aMB n) n h) zB [aI c3]
def anF (n:Nat) (s0:ag):Option Int:=
 if decide (8<(s0.ai.length:Int)) then
 some 2
 else
 Mj (Yp n) n s0.ai (s0.ai.length:Int) 0 s0
def aMz (n:Nat):K1 (A15 []) sy (anF n):=λs0 r h=>ie h (λc0 h=>rr h [cq c0]) λc0 h=>ra (axy (aMA n) n h) [cq c0]
def F15:=anF
def auL (n:Nat):K1 (Cx E0 15 ed bQ) sy (F15 n):=λ_ _ h=>ca (X:=fh) (aMz n h)
def Hy:=fx E0 Tryz.f64 []
def A64:=Ax Hy ed bQ
def aoi (s0:ag) (jQ:Int):LS:=⟨[(0,.agg (dP s0)),(1,cg jQ)],[]⟩
def anl (n:Nat) (s0:ag) (jQ:Int):Option Int:=
 (F15 n s0).bind λx4=>if x4 !=0 then
 some x4
 else
 if jQ !=1 then
 if jQ !=2 then
 if jQ !=3 then
 some 1
 else
 some 0
 else
 some 0
 else
 some 0
def aLn (n:Nat):K2 (A64 []) aoi (anl n):=λs0 jQ r h=>be h λx4 jm h=>let zA:SE:=[kG (auL n jm)];ie h (λc0 h=>bH h zA [ba c0]) λc0 h=>let zB:SE:=dU zA [ba c0];ie h (λc1 h=>ie h (λc2 h=>ie h (λc3 h=>bH h zB [bb c1,ba c2,bj c3]) λc3 h=>bH h zB [bb c1,ba c2,bj c3]) λc2 h=>bH h zB [bb c1,ba c2]) λc1 h=>bH h zB [bb c1]
def F64:=anl
def ev64 (n:Nat):K2 (Cx E0 64 ed bQ) aoi (F64 n):=λ_ _ _ h=>ca (X:=Hy) (aLn n h)
def pF:=fx E0 Tryz.f65 []
def A65:=Ax pF ed bQ
def aDw (n3:Int) (t7:ey) (t8 t9:Int):LS:=⟨[(3,.int .i64 n3),(7,.slice 68 1 t7.length (wg t7)),(8,.int .i64 t8),(9,.int .i64 t9)],[]⟩
def aDv (n3:Int):LS:=⟨[(3,cg n3)],[]⟩
def aoh (st0:aW):LS:=⟨[(0,.agg (ud st0))],[]⟩
def XW (aN:Wf6) (back:Int->ey->Int->Int->Option Int) (n:Nat) (n3:Int) (t7:ey) (t8 t9:Int):Option Int:=
 if decide (t9<t8) then
 (idx t7 t9).bind λx2=>back (bl (n3+(x2.length:Int))) t7 t8 (bl (t9+1))
 else
 aN n3
def Uc:=K1 (A65 [1,1,1]) aDv
def Ub:=K4 (A65 [0,1,0,1,1]) aDw
def aLm {aN} (bn:Uc aN) {back} (aS:Ub back) (n:Nat):Ub (XW aN back n):=λn3 t7 t8 t9 r h=>ie h (λc0 h=>be h λx2 cX h=>ra (aS h) [aI c0,(0,C3.idx cX)]) λc0 h=>ra (bn h) [aI c0]
def L7 (aN:Wf6):Nat->Int->ey->Int->Int->Option Int
 |0=>λ_ _ _ _=>none
 |n+1=>XW aN (L7 aN n) n
def axb {aN} (bn:Uc aN):∀n:Nat,Ub (L7 aN n)
 |0=>λ_ _ _ _ _ h=>nz h
 |n+1=>aLm bn (axb bn n) n
def XV (n:Nat) (n3:Int):Option Int:=
 some n3
def aLl (n:Nat):Uc (XV n):=λn3 r h=>rr h []
def ank (n:Nat) (st0:aW):Option Int:=
 L7 (XV n) n 0 st0.ai (st0.ai.length:Int) 0
def aLk (n:Nat):K1 (A65 []) aoh (ank n):=λst0 r h=>ra (axb (aLl n) n h) []
def F65:=ank
def ev65 (n:Nat):K1 (Cx E0 65 ed bQ) aoh (F65 n):=λ_ _ h=>ca (X:=pF) (aLk n h)
def x66:=fx E0 Tryz.f66 []
def A66:=Ax x66 du bQ
def aDu (dC i10:Int) (oK Cu:Bool) (t41:cE) (t42 t43:Int) (b9:aj) (gE:aR):LS:=⟨[(3,.int .i64 dC),(9,.loc 9 0),(10,.int .i64 i10),(11,.loc 11 0),(12,.bool oK),(13,.bool Cu),(41,.slice 38 3 t41.length (fG t41)),(42,.int .i64 t42),(43,.int .i64 t43)],[(9,qO (iC b9)),(11,xJ (lN gE))]⟩
def aDt (dC i10:Int) (oK:Bool) (t41:cE) (t42 t43:Int) (b9:aj) (gE:aR):LS:=⟨[(3,.int .i64 dC),(9,.loc 9 0),(10,.int .i64 i10),(11,.loc 11 0),(12,.bool oK),(41,.slice 38 3 t41.length (fG t41)),(42,.int .i64 t42),(43,.int .i64 t43)],[(9,qO (iC b9)),(11,xJ (lN gE))]⟩
def aDs (dC:Int) (t41:cE) (t42 t43:Int) (b9:aj):LS:=⟨[(3,.int .i64 dC),(9,.loc 9 0),(41,.slice 38 3 t41.length (fG t41)),(42,.int .i64 t42),(43,.int .i64 t43)],[(9,qO (iC b9))]⟩
def aDr:LS:=⟨[],[]⟩
def aDq (dh:Int) (ky:cE) (dC:Int) (t29:Bool) (b4:ag):LS:=⟨[(1,.int .i64 dh),(2,.slice 38 3 ky.length (fG ky)),(3,.int .i64 dC),(4,.loc 4 0),(29,.bool t29)],[(4,jt (dP b4))]⟩
def aog (s0:ag) (dh:Int) (ky:cE) (dC:Int):LS:=⟨[(0,.agg (dP s0)),(1,.int .i64 dh),(2,.slice 38 3 ky.length (fG ky)),(3,.int .i64 dC)],[]⟩
def Qz (bw:avw) (n:Nat) (dC i10:Int) (oK Cu:Bool) (t41:cE) (t42 t43:Int) (b9:aj) (gE:aR):Option Bool:=
 (idx b9.ae i10).bind λx6=>if gE.ax !=x6.ax then
 if !oK then
 if !Cu then
 some false
 else
 bw dC t41 t42 (bl (t43+1)) b9
 else
 bw dC t41 t42 (bl (t43+1)) b9
 else
 bw dC t41 t42 (bl (t43+1)) b9
def D6:=K5 (A66 (cF 175)) aDs
def alO {bw} (cM:D6 bw) (n:Nat):K9 (A66 (cF 127791)) aDu (Qz bw n):=λdC i10 oK Cu t41 t42 t43 b9 gE r h=>be h λx6 lC h=>let zA:SE:=[(5,eL.idx lC)];ie h (λc0 h=>ie h (λc1 h=>ie h (λc2 h=>bH h zA [ba c0,ba c1,bj c2]) λc2 h=>cI (cM h) zA [ba c0,ba c1,bj c2]) λc1 h=>cI (cM h) zA [ba c0,ba c1]) λc0 h=>cI (cM h) zA [ba c0]
def Mv (bw:avw) (n:Nat) (dC i10:Int) (oK:Bool) (t41:cE) (t42 t43:Int) (b9:aj) (gE:aR):Option Bool:=
 if gE.ax==1 then
 if dC==3 then
 Qz bw n dC i10 oK (!decide (i10<b9.ay)) t41 t42 t43 b9 gE
 else
 Qz bw n dC i10 oK false t41 t42 t43 b9 gE
 else
 Qz bw n dC i10 oK false t41 t42 t43 b9 gE
def alN {bw} (cM:D6 bw) (n:Nat):K8 (A66 (cF 62255)) aDt (Mv bw n):=λdC i10 oK t41 t42 t43 b9 gE r h=>ie h (λc0 h=>ie h (λc1 h=>ra (alO cM n h) [ba c0,ba c1]) λc1 h=>ra (alO cM n h) [ba c0,ba c1]) λc0 h=>ra (alO cM n h) [ba c0]
def XU (bD:Option Bool) (back:avw) (n:Nat) (dC:Int) (t41:cE) (t42 t43:Int) (b9:aj):Option Bool:=
 if decide (t43<t42) then
 (idx t41 t43).bind λx3=>(amM n x3).bind λdB=>if !dB then
 some false
 else
 if x3.ax==2 then
 if dC !=1 then
 Mv back n dC t43 (!decide (t43<b9.ay)) t41 t42 t43 b9 x3
 else
 Mv back n dC t43 false t41 t42 t43 b9 x3
 else
 Mv back n dC t43 false t41 t42 t43 b9 x3
 else
 bD
def Ua:=K0 (A66 [1,1,1,1,1]) aDr
def aLj {bD} (cU:Ua bD) {back} (aS:D6 back) (n:Nat):D6 (XU bD back n):=λdC t41 t42 t43 b9 r h=>ie h (λc0 h=>be h λx3 eY h=>be h λdB kS h=>let zA:SE:=[aI c0,(1,p8.idx eY),oY (aym n kS)];ie h (λc1 h=>bH h zA [aI c1]) λc1 h=>ie h (λc2 h=>ie h (λc3 h=>cI (alN aS n h) zA [aI c1,ba c2,ba c3]) λc3 h=>cI (alN aS n h) zA [aI c1,ba c2,ba c3]) λc2 h=>cI (alN aS n h) zA [aI c1,ba c2]) λc0 h=>ra (cU h) [aI c0]
def G9 (bD:Option Bool):Nat->Int->cE->Int->Int->aj->Option Bool
 |0=>λ_ _ _ _ _=>none
 |n+1=>XU bD (G9 bD n) n
def axa {bD} (cU:Ua bD):∀n:Nat,D6 (G9 bD n)
 |0=>λ_ _ _ _ _ _ h=>nz h
 |n+1=>aLj cU (axa cU n) n
def Qy (n:Nat):Option Bool:=
 some true
def aLi (n:Nat):Ua (Qy n):=λr h=>rr h []
def Hq (n:Nat) (dh:Int) (ky:cE) (dC:Int) (t29:Bool) (b4:ag):Option Bool:=
 if t29 then
 some false
 else
 (idx b4.ai dh).bind λx4=>if (ky.length:Int) !=(x4.ae.length:Int) then
 some false
 else
 G9 (Qy n) n dC ky (ky.length:Int) 0 x4
def Xy (n:Nat):K5 (A66 [1,0,1]) aDq (Hq n):=λdh ky dC t29 b4 r h=>ie h (λc0 bI=>by subst c0;exact (rr bI [])) λc0 bI=>by subst c0;exact (be bI λx4 jm bI=>ie bI (λc1 bI=>rr bI [(3,bW.idx jm),iw c1]) λc1 bI=>ra (axa (aLi n) n bI) [(3,bW.idx jm),iw c1])
def anj (n:Nat) (s0:ag) (dh:Int) (ky:cE) (dC:Int):Option Bool:=
 if dC !=1 then
 if dC !=2 then
 if dC !=3 then
 Hq n dh ky dC true s0
 else
 (N9 n s0 dh).bind λfg=>Hq n dh ky dC (!fg) s0
 else
 (N9 n s0 dh).bind λig=>Hq n dh ky dC (!ig) s0
 else
 (N9 n s0 dh).bind λgP=>Hq n dh ky dC (!gP) s0
def aLh (n:Nat):K4 (A66 []) aog (anj n):=λs0 dh ky dC r h=>ie h (λc0 h=>ie h (λc1 h=>ie h (λc2 h=>ra (Xy n h) [bj c0,ba c1,bj c2]) λc2 h=>be h λfg iM h=>ra (Xy n h) [bj c0,ba c1,bj c2,mV (P1 n iM)]) λc1 h=>be h λig j2 h=>ra (Xy n h) [bj c0,ba c1,Lv (P1 n j2)]) λc0 h=>be h λgP jC h=>ra (Xy n h) [bj c0,yo (P1 n jC)]
def F66:=anj
def ev66 (n:Nat):K4 (Cx E0 66 du bQ) aog (F66 n):=λ_ _ _ _ _ h=>ca (X:=x66) (aLh n h)
def x187:=fx E0 Tryz.f187 []
def A187:=Ax x187 du bQ
def KA (x0:Int):LS:=⟨[(0,cg x0)],[]⟩
def aef (n:Nat) (x0:Int):Option Bool:=
 some (x0 !=x0)
def aFN (n:Nat):K1 (A187 []) KA (aef n):=λx0 r h=>rr h []
def amz:=aef
def axQ (n:Nat):K1 (Cx E0 187 du bQ) KA (amz n):=λ_ _ h=>ca (X:=x187) (aFN n h)
def x160:=fx E0 Tryz.f160 []
def A160:=Ax x160 ed bQ
def KD (x0 y1:Int):LS:=⟨[(0,cg x0),(1,cg y1)],[]⟩
def aey (n:Nat) (x0 y1:Int):Option Int:=
 (amz n x0).bind λx3=>(amz n y1).bind λx7=>if x3 then
 if x7 then
 some 0
 else
 some (-1)
 else
 if x7 then
 some 1
 else
 if decide (x0<y1) then
 some (-1)
 else
 if decide (y1<x0) then
 some 1
 else
 some 0
def aGH (n:Nat):K2 (A160 []) KD (aey n):=λx0 y1 r h=>be h λx3 eY h=>be h λx7 jv h=>let zA:SE:=[iS (axQ n eY),iS (axQ n jv)];ie h (λc0 bI=>by subst c0;exact (ie bI (λc1 oL=>by subst c1;exact (rr oL zA)) λc1 oL=>by subst c1;exact (rr oL zA))) λc0 bI=>by subst c0;exact (ie bI (λc1 oL=>by subst c1;exact (rr oL zA)) λc1 oL=>by subst c1;exact (ie oL (λc2 oL=>bH oL zA [cq c2]) λc2 oL=>ie oL (λc3 oL=>bH oL zA [cq c2,ba c3]) λc3 oL=>bH oL zA [cq c2,ba c3]))
def amD:=aey
def aJZ (n:Nat):K2 (Cx E0 160 ed bQ) KD (amD n):=λ_ _ _ h=>ca (X:=x160) (aGH n h)
def x188:=fx E0 Tryz.f188 []
def A188:=Ax x188 du bQ
def aee (n:Nat) (x0:Int):Option Bool:=
 some (x0 !=x0)
def aFM (n:Nat):K1 (A188 []) KA (aee n):=λx0 r h=>rr h []
def amy:=aee
def axP (n:Nat):K1 (Cx E0 188 du bQ) KA (amy n):=λ_ _ h=>ca (X:=x188) (aFM n h)
def x161:=fx E0 Tryz.f161 []
def A161:=Ax x161 ed bQ
def aex (n:Nat) (x0 y1:Int):Option Int:=
 (amy n x0).bind λx3=>(amy n y1).bind λx7=>if x3 then
 if x7 then
 some 0
 else
 some (-1)
 else
 if x7 then
 some 1
 else
 if decide (x0<y1) then
 some (-1)
 else
 if decide (y1<x0) then
 some 1
 else
 some 0
def aGG (n:Nat):K2 (A161 []) KD (aex n):=λx0 y1 r h=>be h λx3 eY h=>be h λx7 jv h=>let zA:SE:=[iS (axP n eY),iS (axP n jv)];ie h (λc0 bI=>by subst c0;exact (ie bI (λc1 oL=>by subst c1;exact (rr oL zA)) λc1 oL=>by subst c1;exact (rr oL zA))) λc0 bI=>by subst c0;exact (ie bI (λc1 oL=>by subst c1;exact (rr oL zA)) λc1 oL=>by subst c1;exact (ie oL (λc2 oL=>bH oL zA [cq c2]) λc2 oL=>ie oL (λc3 oL=>bH oL zA [cq c2,ba c3]) λc3 oL=>bH oL zA [cq c2,ba c3]))
def amC:=aex
def aJY (n:Nat):K2 (Cx E0 161 ed bQ) KD (amC n):=λ_ _ _ h=>ca (X:=x161) (aGG n h)
def x189:=fx E0 Tryz.f189 []
def A189:=Ax x189 ed bQ
def Kz (a0 b1:ByteArray):LS:=⟨[(0,.str a0),(1,.str b1)],[]⟩
def aed (n:Nat) (a0 b1:ByteArray):Option Int:=
 (amw n a0 b1).bind λx4=>some x4
def aFL (n:Nat):K2 (A189 []) Kz (aed n):=λa0 b1 r h=>be h λx4 jm h=>rr h [kG (aJN n jm)]
def avI:=aed
def aJS (n:Nat):K2 (Cx E0 189 ed bQ) Kz (avI n):=λ_ _ _ h=>ca (X:=x189) (aFL n h)
def x162:=fx E0 Tryz.f162 []
def A162:=Ax x162 ed bQ
def aew (n:Nat) (a0 b1:ByteArray):Option Int:=
 (avI n a0 b1).bind λx4=>some x4
def aGF (n:Nat):K2 (A162 []) Kz (aew n):=λa0 b1 r h=>be h λx4 jm h=>rr h [kG (aJS n jm)]
def avM:=aew
def aJX (n:Nat):K2 (Cx E0 162 ed bQ) Kz (avM n):=λ_ _ _ h=>ca (X:=x162) (aGF n h)
def x116:=fx E0 Tryz.f116 []
def A116:=Ax x116 ed bQ
def aeY (n:Nat) (a0 b1:aR):Option Int:=
 if ((a0.ax==b1.ax) && ((a0.bX==b1.bX) && ((decide (a0.bB=b1.bB)) && true))) then
 some 0
 else
 (amD n a0.ax b1.ax).bind λdA=>if dA !=0 then
 some dA
 else
 (amC n a0.bX b1.bX).bind λkL=>if kL !=0 then
 some kL
 else
 (avM n a0.bB b1.bB).bind λHz=>some Hz
def aIi (n:Nat):K2 (A116 []) OC (aeY n):=λa0 b1 r h=>ie h (λc0 h=>rr h [cq c0]) λc0 h=>be h λdA gn h=>let zA:SE:=[cq c0,mV (aJZ n gn)];ie h (λc1 h=>bH h zA [ba c1]) λc1 h=>be h λkL kC h=>let zB:SE:=dU zA [ba c1,mV (aJY n kC)];ie h (λc2 h=>bH h zB [ba c2]) λc2 h=>be h λHz NA h=>bH h zB [ba c2,mV (aJX n NA)]
def amL:=aeY
def aKp (n:Nat):K2 (Cx E0 116 ed bQ) OC (amL n):=λ_ _ _ h=>ca (X:=x116) (aIi n h)
def x115:=fx E0 Tryz.f115 []
def awb:=Ax x115 ed bQ
def aAU (vH vG t11:cE) (t12 t13:Int):LS:=⟨[(0,.slice 38 3 vH.length (fG vH)),(1,.slice 38 3 vG.length (fG vG)),(2,.fn 116 [] []),(11,.slice 38 3 t11.length (fG t11)),(12,.int .i64 t12),(13,.int .i64 t13)],[]⟩
def aAT (vH vG:cE):LS:=⟨[(0,.slice 38 3 vH.length (fG vH)),(1,.slice 38 3 vG.length (fG vG))],[]⟩
def agX (vH vG:cE):LS:=⟨[(0,.slice 38 3 vH.length (fG vH)),(1,.slice 38 3 vG.length (fG vG)),(2,.fn 116 [] [])],[]⟩
def R8 (aN:amj) (back:cE->cE->cE->Int->Int->Option Int) (n:Nat) (vH vG t11:cE) (t12 t13:Int):Option Int:=
 if decide (t13<t12) then
 (idx t11 t13).bind λx3=>if !decide (t13<(vG.length:Int)) then
 some 1
 else
 (idx vG t13).bind λfh=>(amL n x3 fh).bind λiF=>if iF !=0 then
 some iF
 else
 back vH vG t11 t12 (bl (t13+1))
 else
 aN vH vG
def TZ:=K2 (awb [1,1]) aAT
def TY:=K5 (awb [0,1,0,1]) aAU
def aIl {aN} (bn:TZ aN) {back} (aS:TY back) (n:Nat):TY (R8 aN back n):=λvH vG t11 t12 t13 r h=>ie h (λc0 h=>be h λx3 eY h=>let zA:SE:=[aI c0,(1,p8.idx eY)];ie h (λc1 h=>bH h zA [jS c1]) λc1 h=>be h λfh mK h=>be h λiF tv h=>let zB:SE:=dU zA [jS c1,(2,p8.idx mK),Lv (aKp n tv)];ie h (λc2 h=>bH h zB [ba c2]) λc2 h=>cI (aS h) zB [ba c2]) λc0 h=>ra (bn h) [aI c0]
def B3 (aN:amj):Nat->cE->cE->cE->Int->Int->Option Int
 |0=>λ_ _ _ _ _=>none
 |n+1=>R8 aN (B3 aN n) n
def aqD {aN} (bn:TZ aN):∀n:Nat,TY (B3 aN n)
 |0=>λ_ _ _ _ _ _ h=>nz h
 |n+1=>aIl bn (aqD bn n) n
def Ke (n:Nat) (vH vG:cE):Option Int:=
 if decide ((vH.length:Int)<(vG.length:Int)) then
 some (-1)
 else
 some 0
def aIk (n:Nat):TZ (Ke n):=λvH vG r h=>ie h (λc0 h=>rr h [bt c0]) λc0 h=>rr h [bt c0]
def ast (n:Nat) (vH vG:cE):Option Int:=
 B3 (Ke n) n vH vG vH (vH.length:Int) 0
def aIj (n:Nat):K2 (awb []) agX (ast n):=λvH vG r h=>ra (aqD (aIk n) n h) []
def F115:=ast
def aKq (n:Nat):K2 (Cx E0 115 ed bQ) agX (F115 n):=λ_ _ _ h=>ca (X:=x115) (aIj n h)
def x67:=fx E0 Tryz.f67 []
def A67:=Ax x67 ed bQ
def ayP (n:Nat) (a0 b1:cE):Option Int:=
 (F115 n a0 b1).bind λx4=>some x4
def aLg (n:Nat):K2 (A67 []) Ii (ayP n):=λa0 b1 r h=>be h λx4 jm h=>rr h [kG (aKq n jm)]
def F67:=ayP
def auH (n:Nat):K2 (Cx E0 67 ed bQ) Ii (F67 n):=λ_ _ _ h=>ca (X:=x67) (aLg n h)
def awx (r:cE):AV:=.slice 38 3 r.length (fG r)
def x68:=fx E0 Tryz.f68 []
def A68:=Ax x68 awx bQ
def ani (n:Nat) (s0:ag) (dh:Int) (ky:cE):Option cE:=
 if decide (dh<0) then
 some []
 else
 if !decide (dh<(s0.ai.length:Int)) then
 some []
 else
 (idx s0.ai dh).bind λfg=>(cut ky none (some (if 0<(if (ky.length:Int)<fg.ay then (ky.length:Int) else fg.ay) then (if (ky.length:Int)<fg.ay then (ky.length:Int) else fg.ay) else 0))).bind λCc=>some Cc
def aLf (n:Nat):K3 (A68 []) OE (ani n):=λs0 dh ky r h=>ie h (λc0 h=>rr h [bj c0,(3,.zJ 6 (.sl 0 38 3 0 []))]) λc0 h=>ie h (λc1 h=>rr h [bj c0,cq c1,(2,.zJ 6 (.sl 0 38 3 0 []))]) λc1 h=>be h λfg iM h=>be h λCc NB h=>rr h [bj c0,cq c1,(5,bW.idx iM),(6,p8.cut NB)]
def F68:=ani
def ev68 (n:Nat):K3 (Cx E0 68 awx bQ) OE (F68 n):=λ_ _ _ _ h=>ca (X:=x68) (aLf n h)
def sO:=fx E0 Tryz.f26 []
def A26:=Ax sO ed bQ
def aEi (jQ t8:Int) (Cg:bS) (t29:ey) (t30 t31:Int) (t36:bS) (t37 t38:Int) (b3:ag):LS:=⟨[(1,.int .i64 jQ),(3,.loc 3 0),(8,.int .i64 t8),(9,.slice 70 1 Cg.length (nV Cg)),(29,.slice 68 1 t29.length (wg t29)),(30,.int .i64 t30),(31,.int .i64 t31),(36,.slice 70 1 t36.length (nV t36)),(37,.int .i64 t37),(38,.int .i64 t38)],[(3,jt (dP b3))]⟩
def aou (jQ:Int) (t29:ey) (t30 t31:Int) (b3:ag):LS:=⟨[(1,.int .i64 jQ),(3,.loc 3 0),(29,.slice 68 1 t29.length (wg t29)),(30,.int .i64 t30),(31,.int .i64 t31)],[(3,jt (dP b3))]⟩
def aEh:LS:=⟨[],[]⟩
def aot (s0:ag) (jQ:Int) (Cf:aW):LS:=⟨[(0,.agg (dP s0)),(1,cg jQ),(2,.agg (ud Cf))],[]⟩
def Yj (aN:amg) (back:Int->Int->bS->ey->Int->Int->bS->Int->Int->ag->Option Int) (n:Nat) (jQ t8:Int) (Cg:bS) (t29:ey) (t30 t31:Int) (t36:bS) (t37 t38:Int) (b3:ag):Option Int:=
 if decide (t38<t37) then
 (idx t36 t38).bind λx3=>(F66 n b3 t8 x3 jQ).bind λgP=>if !gP then
 some 80
 else
 if decide (0<t38) then
 (idx Cg (bl (t38 - 1))).bind λiF=>(F68 n b3 t8 iF).bind λx26_=>(F68 n b3 t8 x3).bind λvZ=>(F67 n x26_ vZ).bind λmO=>if !decide (mO<0) then
 some 80
 else
 back jQ t8 Cg t29 t30 t31 t36 t37 (bl (t38+1)) b3
 else
 back jQ t8 Cg t29 t30 t31 t36 t37 (bl (t38+1)) b3
 else
 aN jQ t29 t30 t31 b3
def TX:=K5 (A26 (cF 3887)) aou
def TW:=K10 (A26 (cF 45871)) aEi
def aMn {aN} (bn:TX aN) {back} (aS:TW back) (n:Nat):TW (Yj aN back n):=λjQ t8 Cg t29 t30 t31 t36 t37 t38 b3 r h=>ie h (λc0 h=>be h λx3 eY h=>be h λgP jC h=>let zA:SE:=[aI c0,(1,o8.idx eY),yo (ev66 n jC)];ie h (λc1 h=>bH h zA [aI c1]) λc1 h=>let zB:SE:=dU zA [aI c1,(0,.ord [0,1,2,3,4,5,6,7,8,9,11,12,13,10,14,15,16,17])];ie h (λc2 h=>be h λiF tv h=>be h λx26_ xS h=>be h λvZ Bn h=>be h λmO wz h=>let zC:SE:=dU zB [bb c2,(6,o8.idx tv),mV (ev68 n xS),oZ (ev68 n Bn),oZ (auH n wz)];ie h (λc3 h=>bH h zC [aI c3]) λc3 h=>cI (aS h) zC [aI c3]) λc2 h=>cI (aS h) zB [bb c2]) λc0 h=>ra (bn h) [aI c0]
def Mf (aN:amg):Nat->Int->Int->bS->ey->Int->Int->bS->Int->Int->ag->Option Int
 |0=>λ_ _ _ _ _ _ _ _ _ _=>none
 |n+1=>Yj aN (Mf aN n) n
def axr {aN} (bn:TX aN):∀n:Nat,TW (Mf aN n)
 |0=>λ_ _ _ _ _ _ _ _ _ _ _ h=>nz h
 |n+1=>aMn bn (axr bn n) n
def Yi (bw:amg) (n:Nat) (jQ:Int) (t29:ey) (t30 t31:Int) (b3:ag):Option Int:=
 bw jQ t29 t30 (bl (t31+1)) b3
def KX:=K5 (A26 (cF 175)) aou
def aMm {bw} (cM:KX bw) (n:Nat):TX (Yi bw n):=λjQ t29 t30 t31 b3 r h=>ra (cM h) []
def Yh (bD:Option Int) (back:amg) (n:Nat) (jQ:Int) (t29:ey) (t30 t31:Int) (b3:ag):Option Int:=
 if decide (t31<t30) then
 (idx t29 t31).bind λx3=>Mf (Yi back n) n jQ t31 x3 t29 t30 t31 x3 (x3.length:Int) 0 b3
 else
 bD
def TV:=K0 (A26 [1,1,1,1,1]) aEh
def aMl {bD} (cU:TV bD) {back} (aS:KX back) (n:Nat):KX (Yh bD back n):=λjQ t29 t30 t31 b3 r h=>ie h (λc0 h=>be h λx3 eY h=>ra (axr (aMm aS n) n h) [aI c0,(1,C3.idx eY)]) λc0 h=>ra (cU h) [aI c0]
def Hg (bD:Option Int):Nat->Int->ey->Int->Int->ag->Option Int
 |0=>λ_ _ _ _ _=>none
 |n+1=>Yh bD (Hg bD n) n
def axq {bD} (cU:TV bD):∀n:Nat,KX (Hg bD n)
 |0=>λ_ _ _ _ _ _ h=>nz h
 |n+1=>aMl cU (axq cU n) n
def QK (n:Nat):Option Int:=
 some 0
def aMk (n:Nat):TV (QK n):=λr h=>rr h []
def anA (n:Nat) (s0:ag) (jQ:Int) (Cf:aW):Option Int:=
 (F64 n s0 jQ).bind λx6=>if x6 !=0 then
 some x6
 else
 (F65 n Cf).bind λgP=>if decide (512<gP) then
 some 2
 else
 if (Cf.ai.length:Int) !=(s0.ai.length:Int) then
 some 80
 else
 Hg (QK n) n jQ Cf.ai (Cf.ai.length:Int) 0 s0
def aMj (n:Nat):K3 (A26 []) aot (anA n):=λs0 jQ Cf r h=>be h λx6 lC h=>let zA:SE:=[oY (ev64 n lC)];ie h (λc0 h=>bH h zA [ba c0]) λc0 h=>be h λgP jC h=>let zB:SE:=dU zA [ba c0,CA (ev65 n jC)];ie h (λc1 h=>bH h zB [aI c1]) λc1 h=>ie h (λc2 h=>bH h zB [aI c1,dL c2]) λc2 h=>cI (axq (aMk n) n h) zB [aI c1,dL c2]
def F26:=anA
def ev26 (n:Nat):K3 (Cx E0 26 ed bQ) aot (F26 n):=λ_ _ _ _ h=>ca (X:=sO) (aMj n h)
def x147:=fx E0 Tryz.f147 []
def A147:=Ax x147 ed bQ
def agN (c0:Int):LS:=⟨[(0,cg c0)],[]⟩
def asq (n:Nat) (c0:Int):Option Int:=
 some c0
def aHi (n:Nat):K1 (A147 []) agN (asq n):=λc0 r h=>rr h []
def adE:=asq
def ayf (n:Nat):K1 (Cx E0 147 ed bQ) agN (adE n):=λ_ _ h=>ca (X:=x147) (aHi n h)
def x146:=fx E0 Tryz.f146 []
def afp:=Ax x146 Eb bQ
def C146:=Cx E0 146 Eb bQ
def aAl (t33:bN) (t34 t35:Int) (b4 b5:ah) (eE:bN):LS:=⟨[(1,.fn 147 [] []),(4,.loc 4 0),(5,.loc 5 0),(33,.slice 107 13 t33.length (aJ t33)),(34,.int .i64 t34),(35,.int .i64 t35)],[(4,.flat 107 (q2_ b4)),(5,.flat 107 (q4_ b5 eE.length)),(45,UO eE)]⟩
def aAk (b4 b5:ah) (eE:bN):LS:=⟨[(4,.loc 4 0),(5,.loc 5 0)],[(4,.flat 107 (q2_ b4)),(5,.flat 107 (q4_ b5 eE.length)),(45,UO eE)]⟩
def agP (b2 b4 b5:ah):LS:=⟨[(1,.fn 147 [] []),(2,.loc 2 0),(4,.loc 4 0),(5,.loc 5 0)],[(2,qP (fk b2)),(4,.flat 107 q6_),(5,qP (fk b5))]⟩
def agO (p0:ah):LS:=⟨[(0,.agg (fk p0)),(1,.fn 147 [] [])],[]⟩
def Rz (iW:ah->Option ah) (aN:amk) (back:bN->Int->Int->ah->ah->bN->Option ah) (n:Nat) (t33:bN) (t34 t35:Int) (b4 b5:ah) (eE:bN):Option ah:=
 if decide (t35<t34) then
 (idx t33 t35).bind λx2=>(iW x2).bind λdA=>(app eE [dA]).bind λig=>back t33 t34 (bl (t35+1)) (ah.mk b4.bh b4.eM b4.cm b4.bL []) (ah.mk b5.bh b5.eM b5.cm b5.bL ig) ig
 else
 aN (ah.mk b4.bh b4.eM b4.cm b4.bL []) (ah.mk b5.bh b5.eM b5.cm b5.bL eE) eE
def xF:=K1 C146 agO
def TU:=K3 (afp (cF 127)) aAk
def TT:=K6 (afp (cF 351)) aAl
def aHl {iW} (pP:xF iW) {aN} (bn:TU aN) {back} (aS:TT back) (n:Nat):TT (Rz iW aN back n):=λt33 t34 t35 b4 b5 eE r h=>ie h (λc0 h=>be h λx2 cX h=>be h λdA gn h=>be h λig j2 h=>ra (aS h) [aI c0,(0,eD.idx cX),yo (pP gn),(0,.laid (bM (Bx.rows false 107 13) (eD.map [dA]).symm)),(0,eD.kE j2)]) λc0 h=>ra (bn h) [aI c0]
def Fi (iW:ah->Option ah) (aN:amk):Nat->bN->Int->Int->ah->ah->bN->Option ah
 |0=>λ_ _ _ _ _ _=>none
 |n+1=>Rz iW aN (Fi iW aN n) n
def aqk {iW} (pP:xF iW) {aN} (bn:TU aN):∀n:Nat,TT (Fi iW aN n)
 |0=>λ_ _ _ _ _ _ _ h=>nz h
 |n+1=>aHl pP bn (aqk pP bn n) n
def Ry (iW:ah->Option ah) (n:Nat) (b4 b5:ah) (eE:bN):Option ah:=
 some (ah.mk b5.bh b5.eM b5.cm b5.bL eE)
def aHk {iW} (pP:xF iW) (n:Nat):TU (Ry iW n):=λb4 b5 eE r h=>rr h [(2,eD.fX 45 eE),(0,.pZ 4 (.flat 0 [.bool true,.bool true,.bool true,.bool true,.bool true,.bool true,.bool true,.bool true,.bool true,.bool true,.bool true,.bool true,.sl 0 0 0 0 []]))]
def J7 (iW:ah->Option ah) (n:Nat) (b2 b4 b5:ah):Option ah:=
 Fi iW (Ry iW n) n b2.fArgs (b2.fArgs.length:Int) 0 (ah.mk 0 0 (aT.mk 0 0 (aR.mk 0 0 ByteArray.empty)) (aT.mk 0 0 (aR.mk 0 0 ByteArray.empty)) []) (ah.mk b5.bh b5.eM b5.cm b5.bL []) []
def arG {iW} (pP:xF iW) (n:Nat):K3 (afp [1,1,1,1]) agP (J7 iW n):=λb2 b4 b5 r h=>ra (aqk pP (aHk pP n) n h) [(6,.born [] [(5,12)] 45 true 107 13)]
def J6 (iW:ah->Option ah) (n:Nat) (b2 b4 b5:ah):Option ah:=
 if b5.bL.ax==1 then
 (adE n b5.bL.cQ).bind λx9=>J7 iW n b2 (ah.mk 0 0 (aT.mk 0 0 (aR.mk 0 0 ByteArray.empty)) (aT.mk 0 0 (aR.mk 0 0 ByteArray.empty)) []) (ah.mk b5.bh b5.eM b5.cm (aT.mk b5.bL.ax x9 b5.bL.aD) b5.fArgs)
 else
 J7 iW n b2 (ah.mk 0 0 (aT.mk 0 0 (aR.mk 0 0 ByteArray.empty)) (aT.mk 0 0 (aR.mk 0 0 ByteArray.empty)) []) b5
def arF {iW} (pP:xF iW) (n:Nat):K3 (afp [1,1,1]) agP (J6 iW n):=λb2 b4 b5 r h=>ie h (λc0 h=>be h λx9 iO h=>ra (arG pP n h) [bj c0,mV (ayf n iO)]) λc0 h=>ra (arG pP n h) [bj c0]
def aeL (iW:ah->Option ah) (n:Nat) (p0:ah):Option ah:=
 if p0.cm.ax==1 then
 (adE n p0.cm.cQ).bind λig=>J6 iW n p0 (ah.mk 0 0 (aT.mk 0 0 (aR.mk 0 0 ByteArray.empty)) (aT.mk 0 0 (aR.mk 0 0 ByteArray.empty)) []) (ah.mk p0.bh p0.eM (aT.mk p0.cm.ax ig p0.cm.aD) p0.bL p0.fArgs)
 else
 J6 iW n p0 (ah.mk 0 0 (aT.mk 0 0 (aR.mk 0 0 ByteArray.empty)) (aT.mk 0 0 (aR.mk 0 0 ByteArray.empty)) []) p0
def aHj {iW} (pP:xF iW) (n:Nat):K1 (afp []) agO (aeL iW n):=λp0 r h=>ie h (λc0 h=>be h λig j2 h=>ra (arF pP n h) [iw c0,mV (ayf n j2)]) λc0 h=>ra (arF pP n h) [iw c0]
def Hk:Nat->ah->Option ah
 |0,_=>none
 |n+1,p0=>aeL (Hk n) n p0
def ayg:∀n:Nat,xF (Hk n)
 |0=>λ_ _ h=>nz h
 |n+1=>λ_ _ h=>ca (X:=x146) (aHj (ayg n) n h)
def x159:=fx E0 Tryz.f159 []
def A159:=Ax x159 ed bQ
def azX (jy:Int) (t23:Bool):LS:=⟨[(0,cg jy),(23,.bool t23)],[]⟩
def agH (jy dq fF:Int):LS:=⟨[(0,cg jy),(1,cg dq),(2,cg fF)],[]⟩
def FO (n:Nat) (jy:Int) (t23:Bool):Option Int:=
 if t23 then
 some (bl (jy+1))
 else
 some jy
def Qg (n:Nat):K2 (A159 (cF 505)) azX (FO n):=λjy t23 r h=>ie h (λc0 bI=>by subst c0;exact (rr bI [])) λc0 bI=>by subst c0;exact (rr bI [])
def aez (n:Nat) (jy dq fF:Int):Option Int:=
 if jy==dq then
 some fF
 else
 if decide (dq<jy) then
 if !decide (fF<jy) then
 some (bl (jy - 1))
 else
 if !decide (jy<fF) then
 FO n jy (decide (jy<dq))
 else
 FO n jy false
 else
 if !decide (jy<fF) then
 FO n jy (decide (jy<dq))
 else
 FO n jy false
def aGI (n:Nat):K3 (A159 []) agH (aez n):=λjy dq fF r h=>ie h (λc0 h=>rr h [bj c0]) λc0 h=>ie h (λc1 h=>let zA:SE:=[bj c0,bj c1];ie h (λc2 h=>bH h zA [bj c2]) λc2 h=>ie h (λc3 h=>cI (Qg n h) zA [bj c2,bt c3]) λc3 h=>cI (Qg n h) zA [bj c2,bt c3]) λc1 h=>ie h (λc2 h=>ra (Qg n h) [bj c0,bj c1,cq c2]) λc2 h=>ra (Qg n h) [bj c0,bj c1,cq c2]
def amE:=aez
def aKa (n:Nat):K3 (Cx E0 159 ed bQ) agH (amE n):=λ_ _ _ _ h=>ca (X:=x159) (aGI n h)
def O4 (r:(Int×Int×Bool)):AV:=.cS [cg r.1,cg r.2.1,.bool r.2.2]
def x113:=fx E0 Tryz.f113 []
def A113:=Ax x113 O4 bQ
def agY (m0:aF) (dh jd:Int):LS:=⟨[(0,.agg (mr m0)),(1,cg dh),(2,cg jd)],[]⟩
def R9 (n:Nat) (m0:aF) (dh jd:Int):Option (Int×Int×Bool):=
 if m0.bh==7 then
 if dh==m0.aG then
 some ((-1),(-1),false)
 else
 if decide (m0.aG<dh) then
 some (bl (dh - 1),jd,true)
 else
 some (dh,jd,true)
 else
 if m0.bh==2 then
 if dh==m0.aG then
 if !decide (jd<0) then
 if jd==m0.aO then
 some (dh,(-1),false)
 else
 if decide (m0.aO<jd) then
 some (dh,bl (jd - 1),true)
 else
 some (dh,jd,true)
 else
 some (dh,jd,true)
 else
 some (dh,jd,true)
 else
 if m0.bh==3 then
 if dh==m0.aG then
 if !decide (jd<0) then
 (amE n jd m0.aO m0.eJ).bind λsO=>some (dh,sO,true)
 else
 some (dh,jd,true)
 else
 some (dh,jd,true)
 else
 some (dh,jd,true)
def aIn (n:Nat):K3 (A113 []) agY (R9 n):=λm0 dh jd r h=>ie h (λc0 h=>ie h (λc1 h=>rr h [dL c0,bt c1]) λc1 h=>ie h (λc2 h=>rr h [dL c0,bt c1,bj c2]) λc2 h=>rr h [dL c0,bt c1,bj c2]) λc0 h=>ie h (λc1 h=>let zA:SE:=[dL c0,bb c1];ie h (λc2 h=>let zB:SE:=dU zA [bt c2];ie h (λc3 h=>ie h (λc4 h=>bH h zB [ba c3,bt c4]) λc4 h=>ie h (λc5 h=>bH h zB [ba c3,bt c4,bj c5]) λc5 h=>bH h zB [ba c3,bt c4,bj c5]) λc3 h=>bH h zB [ba c3]) λc2 h=>bH h zA [bt c2]) λc1 h=>let zA:SE:=[dL c0,bb c1];ie h (λc2 h=>ie h (λc3 h=>ie h (λc4 h=>be h λsO xS h=>bH h zA [bb c2,bt c3,ba c4,Lv (aKa n xS)]) λc4 h=>bH h zA [bb c2,bt c3,ba c4]) λc3 h=>bH h zA [bb c2,bt c3]) λc2 h=>bH h zA [bb c2]
def VF:=R9
def ayn (n:Nat):K3 (Cx E0 113 O4 bQ) agY (VF n):=λ_ _ _ _ h=>ca (X:=x113) (aIn n h)
def x198:=fx E0 Tryz.f198 [1,9000]
def A198:=AxS x198 [1,9000] ed bQ
def C198:=CxS E0 198 [1,9000] ed bQ
def agu (c0:Int) (t1:aE):LS:=⟨[(0,cg c0),(1,.loc 1 0)],[(1,.flat 182 [.loc 9000 0]),(9000,.flat 184 [.int .i64 t1.bg.aw,.ms Bk 5 0 t1.bg.ai.length,.int .i64 t1.fm.bh,.int .i64 t1.fm.aG,.int .i64 t1.fm.aO,.int .i64 t1.fm.eJ,.str t1.fm.av,.int .i64 t1.fm.ax,.int .i64 t1.fm.aD.ax,.int .i64 t1.fm.aD.bX,.str t1.fm.aD.bB,.slice 110 6 t1.fm.bc.length (cR t1.fm.bc),.str t1.fm.ar.av,.slice 73 2 t1.fm.ar.ae.length (bE t1.fm.ar.ae),.int .i64 t1.fm.ar.ay,.slice 121 2 t1.fm.ar.af.length (aQ t1.fm.ar.af),.slice 107 13 t1.fm.ar.ak.length (aJ t1.fm.ar.ak)])]⟩
def adX (n:Nat) (c0:Int) (t1:aE):Option Int:=
 (VF n t1.fm t1.fm.aG c0).bind λgP=>some gP.2.1
def aFB (n:Nat):K2 (A198 []) agu (adX n):=λc0 t1 r h=>be h λgP jC h=>rrS h [(11,zM (ayn n jC))]
def N4:=adX
def alf (n:Nat):K2 C198 agu (N4 n):=λ_ _ _ h=>caS (X:=x198) (aFB n h)
def awj:=fx E0 Tryz.f146 [9000,jR]
def Sn:=AxS awj [9000,100100] Eb bQ
def aMS:=CxS E0 146 [9000,100100] Eb bQ
def asM (t33:bN) (t34 t35:Int) (cx:aE) (b4 b5:ah) (eE:bN):LS:=⟨[(1,.fn 198 [] [.loc jR 0]),(4,.loc 4 0),(5,.loc 5 0),(33,.slice 107 13 t33.length (aJ t33)),(34,.int .i64 t34),(35,.int .i64 t35)],[(4,.flat 107 (q2_ b4)),(5,.flat 107 (q4_ b5 eE.length)),(45,.rows true 107 13 (aJ eE)),(9000,.flat 184 [.int .i64 cx.bg.aw,.ms Bk 5 0 cx.bg.ai.length,.int .i64 cx.fm.bh,.int .i64 cx.fm.aG,.int .i64 cx.fm.aO,.int .i64 cx.fm.eJ,.str cx.fm.av,.int .i64 cx.fm.ax,.int .i64 cx.fm.aD.ax,.int .i64 cx.fm.aD.bX,.str cx.fm.aD.bB,.slice 110 6 cx.fm.bc.length (cR cx.fm.bc),.str cx.fm.ar.av,.slice 73 2 cx.fm.ar.ae.length (bE cx.fm.ar.ae),.int .i64 cx.fm.ar.ay,.slice 121 2 cx.fm.ar.af.length (aQ cx.fm.ar.af),.slice 107 13 cx.fm.ar.ak.length (aJ cx.fm.ar.ak)]),(jR,.flat 182 [.loc 9000 0])]⟩
def asL (cx:aE) (b4 b5:ah) (eE:bN):LS:=⟨[(4,.loc 4 0),(5,.loc 5 0)],[(4,.flat 107 (q2_ b4)),(5,.flat 107 (q4_ b5 eE.length)),(45,.rows true 107 13 (aJ eE)),(9000,.flat 184 [.int .i64 cx.bg.aw,.ms Bk 5 0 cx.bg.ai.length,.int .i64 cx.fm.bh,.int .i64 cx.fm.aG,.int .i64 cx.fm.aO,.int .i64 cx.fm.eJ,.str cx.fm.av,.int .i64 cx.fm.ax,.int .i64 cx.fm.aD.ax,.int .i64 cx.fm.aD.bX,.str cx.fm.aD.bB,.slice 110 6 cx.fm.bc.length (cR cx.fm.bc),.str cx.fm.ar.av,.slice 73 2 cx.fm.ar.ae.length (bE cx.fm.ar.ae),.int .i64 cx.fm.ar.ay,.slice 121 2 cx.fm.ar.af.length (aQ cx.fm.ar.af),.slice 107 13 cx.fm.ar.ak.length (aJ cx.fm.ar.ak)]),(jR,.flat 182 [.loc 9000 0])]⟩
def YW (cx:aE) (b2 b4 b5:ah):LS:=⟨[(1,.fn 198 [] [.loc jR 0]),(2,.loc 2 0),(4,.loc 4 0),(5,.loc 5 0)],[(2,.flat 107 (fk b2)),(4,.flat 107 q6_),(5,.flat 107 (fk b5)),(9000,.flat 184 [.int .i64 cx.bg.aw,.ms Bk 5 0 cx.bg.ai.length,.int .i64 cx.fm.bh,.int .i64 cx.fm.aG,.int .i64 cx.fm.aO,.int .i64 cx.fm.eJ,.str cx.fm.av,.int .i64 cx.fm.ax,.int .i64 cx.fm.aD.ax,.int .i64 cx.fm.aD.bX,.str cx.fm.aD.bB,.slice 110 6 cx.fm.bc.length (cR cx.fm.bc),.str cx.fm.ar.av,.slice 73 2 cx.fm.ar.ae.length (bE cx.fm.ar.ae),.int .i64 cx.fm.ar.ay,.slice 121 2 cx.fm.ar.af.length (aQ cx.fm.ar.af),.slice 107 13 cx.fm.ar.ak.length (aJ cx.fm.ar.ak)]),(jR,.flat 182 [.loc 9000 0])]⟩
def YV (p0:ah) (cx:aE):LS:=⟨[(0,.agg (fk p0)),(1,.fn 198 [] [.loc jR 0])],[(9000,.flat 184 [.int .i64 cx.bg.aw,.ms Bk 5 0 cx.bg.ai.length,.int .i64 cx.fm.bh,.int .i64 cx.fm.aG,.int .i64 cx.fm.aO,.int .i64 cx.fm.eJ,.str cx.fm.av,.int .i64 cx.fm.ax,.int .i64 cx.fm.aD.ax,.int .i64 cx.fm.aD.bX,.str cx.fm.aD.bB,.slice 110 6 cx.fm.bc.length (cR cx.fm.bc),.str cx.fm.ar.av,.slice 73 2 cx.fm.ar.ae.length (bE cx.fm.ar.ae),.int .i64 cx.fm.ar.ay,.slice 121 2 cx.fm.ar.af.length (aQ cx.fm.ar.af),.slice 107 13 cx.fm.ar.ak.length (aJ cx.fm.ar.ak)]),(jR,.flat 182 [.loc 9000 0])]⟩
def MH (gI:ah->aE->Option ah) (aN:Wf45) (back:bN->Int->Int->aE->ah->ah->bN->Option ah) (n:Nat) (t33:bN) (t34 t35:Int) (cx:aE) (b4 b5:ah) (eE:bN):Option ah:=
 if decide (t35<t34) then
 (idx t33 t35).bind λx2=>(gI x2 cx).bind λdA=>(app eE [dA]).bind λig=>back t33 t34 (bl (t35+1)) cx (ah.mk b4.bh b4.eM b4.cm b4.bL []) (ah.mk b5.bh b5.eM b5.cm b5.bL ig) ig
 else
 aN cx (ah.mk b4.bh b4.eM b4.cm b4.bL []) (ah.mk b5.bh b5.eM b5.cm b5.bL eE) eE
def xE:=K2 aMS YV
def TS:=K4 (Sn (cF 127)) asL
def TQ:=K7 (Sn (cF 351)) asM
def aCk {gI} (nH:xE gI) {aN} (bn:TS aN) {back} (aS:TQ back) (n:Nat):TQ (MH gI aN back n):=λt33 t34 t35 cx b4 b5 eE r h=>ie h (λc0 h=>be h λx2 cX h=>be h λdA gn h=>be h λig j2 h=>raS (aS h) (by kernel_rfl) [aI c0,(0,eD.idx cX),(7,.call (nH gn) [(9000,9000),(jR,jR)] []),(0,.laid (bM (Bx.rows false 107 13) (eD.map [dA]).symm)),(0,eD.kE j2)]) λc0 h=>raS (bn h) (by kernel_rfl) [aI c0]
def AN (gI:ah->aE->Option ah) (aN:Wf45):Nat->bN->Int->Int->aE->ah->ah->bN->Option ah
 |0=>λ_ _ _ _ _ _ _=>none
 |n+1=>MH gI aN (AN gI aN n) n
def ahP {gI} (nH:xE gI) {aN} (bn:TS aN):∀n:Nat,TQ (AN gI aN n)
 |0=>λ_ _ _ _ _ _ _ _ h=>nz h
 |n+1=>aCk nH bn (ahP nH bn n) n
def MG (gI:ah->aE->Option ah) (n:Nat) (cx:aE) (b4 b5:ah) (eE:bN):Option ah:=
 some (ah.mk b5.bh b5.eM b5.cm b5.bL eE)
def aCj {gI} (nH:xE gI) (n:Nat):TS (MG gI n):=λcx b4 b5 eE r h=>rrS h [(2,eD.fX 45 eE),(0,.pZ 4 (.flat 0 [.bool true,.bool true,.bool true,.bool true,.bool true,.bool true,.bool true,.bool true,.bool true,.bool true,.bool true,.bool true,.sl 0 0 0 0 []]))]
def FT (gI:ah->aE->Option ah) (n:Nat) (cx:aE) (b2 b4 b5:ah):Option ah:=
 AN gI (MG gI n) n b2.fArgs (b2.fArgs.length:Int) 0 cx (ah.mk 0 0 (aT.mk 0 0 (aR.mk 0 0 ByteArray.empty)) (aT.mk 0 0 (aR.mk 0 0 ByteArray.empty)) []) (ah.mk b5.bh b5.eM b5.cm b5.bL []) []
def ain {gI} (nH:xE gI) (n:Nat):K4 (Sn [1,1,1,1]) YW (FT gI n):=λcx b2 b4 b5 r h=>raS (ahP nH (aCj nH n) n h) (by kernel_rfl) [(6,.born [] [(5,12)] 45 true 107 13)]
def FQ (gI:ah->aE->Option ah) (n:Nat) (cx:aE) (b2 b4 b5:ah):Option ah:=
 if b5.bL.ax==1 then
 (N4 n b5.bL.cQ cx).bind λx9=>FT gI n cx b2 (ah.mk 0 0 (aT.mk 0 0 (aR.mk 0 0 ByteArray.empty)) (aT.mk 0 0 (aR.mk 0 0 ByteArray.empty)) []) (ah.mk b5.bh b5.eM b5.cm (aT.mk b5.bL.ax x9 b5.bL.aD) b5.fArgs)
 else
 FT gI n cx b2 (ah.mk 0 0 (aT.mk 0 0 (aR.mk 0 0 ByteArray.empty)) (aT.mk 0 0 (aR.mk 0 0 ByteArray.empty)) []) b5
def aim {gI} (nH:xE gI) (n:Nat):K4 (Sn [1,1,1]) YW (FQ gI n):=λcx b2 b4 b5 r h=>ie h (λc0 h=>be h λx9 iO h=>raS (ain nH n h) (by kernel_rfl) [bj c0,(4,.call (alf n iO) [(jR,1),(9000,9000)] [])]) λc0 h=>raS (ain nH n h) (by kernel_rfl) [bj c0]
def VN (gI:ah->aE->Option ah) (n:Nat) (p0:ah) (cx:aE):Option ah:=
 if p0.cm.ax==1 then
 (N4 n p0.cm.cQ cx).bind λig=>FQ gI n cx p0 (ah.mk 0 0 (aT.mk 0 0 (aR.mk 0 0 ByteArray.empty)) (aT.mk 0 0 (aR.mk 0 0 ByteArray.empty)) []) (ah.mk p0.bh p0.eM (aT.mk p0.cm.ax ig p0.cm.aD) p0.bL p0.fArgs)
 else
 FQ gI n cx p0 (ah.mk 0 0 (aT.mk 0 0 (aR.mk 0 0 ByteArray.empty)) (aT.mk 0 0 (aR.mk 0 0 ByteArray.empty)) []) p0
def aCi {gI} (nH:xE gI) (n:Nat):K2 (Sn []) YV (VN gI n):=λp0 cx r h=>ie h (λc0 h=>be h λig j2 h=>raS (aim nH n h) (by kernel_rfl) [iw c0,(4,.call (alf n j2) [(jR,1),(9000,9000)] [])]) λc0 h=>raS (aim nH n h) (by kernel_rfl) [iw c0]
def As:Nat->ah->aE->Option ah
 |0,_,_=>none
 |n+1,p0,cx=>VN (As n) n p0 cx
def aqY:∀n:Nat,xE (As n)
 |0=>λ_ _ _ h=>nz h
 |n+1=>λ_ _ _ h=>caS (X:=awj) (aCi (aqY n) n h)
def x96:=fx E0 Tryz.f96 []
def A96:=Ax x96 O2 Lj
def aDb (t17:cA) (t18 t19:Int) (b1 b2 b3:aj) (bR:cO) (gU:cA):LS:=⟨[(1,.loc 1 0),(2,.loc 2 0),(3,.loc 3 0),(17,.slice 121 2 t17.length (aQ t17)),(18,.int .i64 t18),(19,.int .i64 t19)],[(1,qO (iC b1)),(2,aao b2),(3,.flat 44 [.str b3.av,.ms 12 2 0 bR.length,Gc b3,jK qV gU.length,.dD]),(12,akb bR),(qV,Ni gU)]⟩
def aDa (t36:bN) (t37 t38:Int) (b2 b3:aj) (bR:cO) (EX:bN) (gU:cA):LS:=⟨[(2,.loc 2 0),(3,.loc 3 0),(36,.slice 107 13 t36.length (aJ t36)),(37,.int .i64 t37),(38,.int .i64 t38)],[(2,aao b2),(3,.flat 44 [.str b3.av,.ms 12 2 0 bR.length,Gc b3,jK qV gU.length,.ms 47 13 0 EX.length]),(12,akb bR),(47,UO EX),(qV,Ni gU)]⟩
def aCZ (b2 b3:aj) (bR:cO) (EX:bN) (gU:cA):LS:=⟨[(2,.loc 2 0),(3,.loc 3 0)],[(2,aao b2),(3,.flat 44 [.str b3.av,.ms 12 2 0 bR.length,Gc b3,jK qV gU.length,.ms 47 13 0 EX.length]),(12,akb bR),(47,UO EX),(qV,Ni gU)]⟩
def aCY (b1 b2 b3:aj) (bR:cO) (gU:cA):LS:=⟨[(1,.loc 1 0),(2,.loc 2 0),(3,.loc 3 0)],[(1,qO (iC b1)),(2,aao b2),(3,.flat 44 [.str b3.av,.ms 12 2 0 bR.length,Gc b3,jK qV gU.length,.dD]),(12,akb bR),(qV,Ni gU)]⟩
def XH (bD:Wf46) (back:cA->Int->Int->aj->aj->aj->cO->cA->Option aj) (n:Nat) (t17:cA) (t18 t19:Int) (b1 b2 b3:aj) (bR:cO) (gU:cA):Option aj:=
 if decide (t19<t18) then
 (idx t17 t19).bind λx2=>(app [] x2.ae).bind λdA=>(app gU [(bk.mk dA x2.aG)]).bind λiG=>(setAt iG gU.length (bk.mk dA x2.aG)).bind λz21=>back t17 t18 (bl (t19+1)) b1 (aj.mk b2.av [] b2.ay [] []) (aj.mk b3.av bR b3.ay z21 []) bR z21
 else
 bD b1 (aj.mk b2.av [] b2.ay [] []) (aj.mk b3.av bR b3.ay gU []) bR gU
def TP:=K5 (A96 [1,1,1]) aCY
def TO:=K8 (A96 [0,1,0,1,1]) aDb
def aKI {bD} (cU:TP bD) {back} (aS:TO back) (n:Nat):TO (XH bD back n):=λt17 t18 t19 b1 b2 b3 bR gU r h=>ie h (λc0 h=>be h λx2 cX h=>be h λdA gn h=>be h λiG kg h=>be h λz21 wx h=>ra (aS h) [aI c0,(0,eN.idx cX),(3,.born [] [] 27 true 3 1),(4,R3.app (xs:= []) gn),(4,eN.Ib kg),(2,.beq qV (bM (λq_=>Bx.tree 121 2 zk q_ [(gU.length*2+0,.ms 27 1 0 dA.length)]) (eN.apS (r:= (oE x2.aG)) kg))),(0,eN.gQ R3 (r:= (oE x2.aG)) qV 27 0 false 3 1 dA wx (by kernel_rfl)),(2,.beq 3 (bM (λn_=>(Bx.flat 44 [.str b3.av,.ms 12 2 0 bR.length,Gc b3,jK qV n_,.dD])) (((eN.apL kg).trans (ew wx)))))]) λc0 h=>ra (cU h) [aI c0]
def LX (bD:Wf46):Nat->cA->Int->Int->aj->aj->aj->cO->cA->Option aj
 |0=>λ_ _ _ _ _ _ _ _=>none
 |n+1=>XH bD (LX bD n) n
def awQ {bD} (cU:TP bD):∀n:Nat,TO (LX bD n)
 |0=>λ_ _ _ _ _ _ _ _ _ h=>nz h
 |n+1=>aKI cU (awQ cU n) n
def XG (bw:Wf47) (back:bN->Int->Int->aj->aj->cO->bN->cA->Option aj) (n:Nat) (t36:bN) (t37 t38:Int) (b2 b3:aj) (bR:cO) (EX:bN) (gU:cA):Option aj:=
 if decide (t38<t37) then
 (idx t36 t38).bind λx2=>(Hk n x2).bind λdB=>(app EX [dB]).bind λeh=>back t36 t37 (bl (t38+1)) (aj.mk b2.av [] b2.ay [] []) (aj.mk b3.av bR b3.ay gU eh) bR eh gU
 else
 bw (aj.mk b2.av [] b2.ay [] []) (aj.mk b3.av bR b3.ay gU EX) bR EX gU
def TN:=K5 (A96 [1,1,1,1]) aCZ
def TM:=K8 (A96 (cF 87)) aDa
def aKH {bw} (cM:TN bw) {back} (aS:TM back) (n:Nat):TM (XG bw back n):=λt36 t37 t38 b2 b3 bR EX gU r h=>ie h (λc0 h=>be h λx2 cX h=>be h λdB kS h=>be h λeh iz h=>ra (aS h) [aI c0,(0,eD.idx cX),Lv (ayg n kS),(0,.laid (bM (Bx.rows false 107 13) (eD.map [dB]).symm)),(0,eD.kE iz)]) λc0 h=>ra (cM h) [aI c0]
def LW (bw:Wf47):Nat->bN->Int->Int->aj->aj->cO->bN->cA->Option aj
 |0=>λ_ _ _ _ _ _ _ _=>none
 |n+1=>XG bw (LW bw n) n
def awP {bw} (cM:TN bw):∀n:Nat,TM (LW bw n)
 |0=>λ_ _ _ _ _ _ _ _ _ h=>nz h
 |n+1=>aKH cM (awP cM n) n
def amU (n:Nat) (b2 b3:aj) (bR:cO) (EX:bN) (gU:cA):Option aj:=
 some (aj.mk b3.av bR b3.ay gU EX)
def aKG (n:Nat):TN (amU n):=λb2 b3 bR EX gU r h=>rr h [(2,.jl 12 r9),(0,.jl qV 201003),(0,.jl 47 201004)]
def XF (n:Nat) (b1 b2 b3:aj) (bR:cO) (gU:cA):Option aj:=
 LW (amU n) n b1.ak (b1.ak.length:Int) 0 (aj.mk b2.av [] b2.ay [] []) (aj.mk b3.av bR b3.ay gU []) bR [] gU
def aKF (n:Nat):TP (XF n):=λb1 b2 b3 bR gU r h=>ra (awP (aKG n) n h) [(4,.born [] [(3,4)] 47 true 107 13)]
def amT (n:Nat) (t0:aj):Option aj:=
 (app [] t0.ae).bind λx7=>LX (XF n) n t0.af (t0.af.length:Int) 0 t0 (aj.mk ByteArray.empty [] 0 [] []) (aj.mk t0.av x7 t0.ay [] []) x7 []
def aKE (n:Nat):K1 (A96 []) KF (amT n):=λt0 r h=>be h λx7 jv h=>ra (awQ (aKF n) n h) [(2,.born [] [] 12 true 73 2),(4,eL.app (xs:= []) jv),(9,.born [] [(3,3)] qV true 121 2)]
def F96:=amT
def ev96 (n:Nat):K1 (Cx E0 96 O2 Lj) KF (F96 n):=λ_ _ h=>ca (X:=x96) (aKE n h)
def awD (r:ag):AV:=.agg [q7_ r,.ms r9 5 0 r.ai.length]
def apj (r:ag):List (Nat×Bx):= [(r9,.tree 44 5 ja (cZ r.ai) [])]
def DY:=fx E0 Tryz.f41 []
def A41:=Ax DY awD apj
def aDW (t10:br) (t11 t12:Int) (b2 b3:ag) (nn:br):LS:=⟨[(2,.loc 2 0),(3,.loc 3 0),(10,.slice 44 5 t10.length (cZ t10)),(11,.int .i64 t11),(12,.int .i64 t12)],[(2,xK b2),(3,qN b3 tq nn.length),(tq,zj nn)]⟩
def aDV (b2 b3:ag) (nn:br):LS:=⟨[(2,.loc 2 0),(3,.loc 3 0)],[(2,xK b2),(3,qN b3 tq nn.length),(tq,zj nn)]⟩
def Yd (aN:Wf48) (back:br->Int->Int->ag->ag->br->Option ag) (n:Nat) (t10:br) (t11 t12:Int) (b2 b3:ag) (nn:br):Option ag:=
 if decide (t12<t11) then
 (idx t10 t12).bind λx2=>(F96 n x2).bind λdB=>(app nn [dB]).bind λeh=>(setAt eh nn.length dB).bind λqG=>back t10 t11 (bl (t12+1)) (ag.mk b2.aw []) (ag.mk b3.aw qG) qG
 else
 aN (ag.mk b2.aw []) (ag.mk b3.aw nn) nn
def TL:=K3 (A41 [1,1,1]) aDV
def TK:=K6 (A41 [0,1,0,1,1]) aDW
def aLY {aN} (bn:TL aN) {back} (aS:TK back) (n:Nat):TK (Yd aN back n):=λt10 t11 t12 b2 b3 nn r h=>ie h (λc0 h=>be h λx2 cX h=>be h λdB kS h=>be h λeh iz h=>be h λqG nj h=>ra (aS h) [aI c0,(0,bW.idx cX),(6,.call (ev96 n kS) [] [(330190001,r9),(330190003,201003),(330190004,201004)]),(1,bW.Ib iz),(2,.beq tq (bM (λq_=>Bx.tree 44 5 ja q_ [(nn.length*5+1,jK 330190001 dB.ae.length),(nn.length*5+3,.ms 330190003 2 0 dB.af.length),(nn.length*5+4,.ms 330190004 13 0 dB.ak.length)]) (bW.apS (r:= (iH dB)) iz))),(0,bW.jr eL (r:= (iH dB)) tq 330190001 1 false 73 2 dB.ae nj [.str dB.av,.slice 73 2 dB.ae.length (bE dB.ae),.int .i64 dB.ay,.undef,.undef] (by kernel_rfl)),(0,bW.jr eN (r:= [.str dB.av,.slice 73 2 dB.ae.length (bE dB.ae),.int .i64 dB.ay,.undef,.undef]) tq 330190003 3 false 121 2 dB.af nj [.str dB.av,.slice 73 2 dB.ae.length (bE dB.ae),.int .i64 dB.ay,.slice 121 2 dB.af.length (aQ dB.af),.undef] (by kernel_rfl)),(0,bW.gQ eD (r:= [.str dB.av,.slice 73 2 dB.ae.length (bE dB.ae),.int .i64 dB.ay,.slice 121 2 dB.af.length (aQ dB.af),.undef]) tq 330190004 4 false 107 13 dB.ak nj (by kernel_rfl)),(2,.beq 3 (bM (qN b3 tq) (((bW.apL iz).trans (ew nj)))))]) λc0 h=>ra (bn h) [aI c0]
def Mc (aN:Wf48):Nat->br->Int->Int->ag->ag->br->Option ag
 |0=>λ_ _ _ _ _ _=>none
 |n+1=>Yd aN (Mc aN n) n
def axm {aN} (bn:TL aN):∀n:Nat,TK (Mc aN n)
 |0=>λ_ _ _ _ _ _ _ h=>nz h
 |n+1=>aLY bn (axm bn n) n
def anw (n:Nat) (b2 b3:ag) (nn:br):Option ag:=
 some (ag.mk b3.aw nn)
def aLX (n:Nat):TL (anw n):=λb2 b3 nn r h=>rr h [(2,.jl tq r9)]
def anv (n:Nat) (s0:ag):Option ag:=
 Mc (anw n) n s0.ai (s0.ai.length:Int) 0 (ag.mk 0 []) (ag.mk s0.aw []) []
def aLW (n:Nat):K1 (A41 []) sy (anv n):=λs0 r h=>ra (axm (aLX n) n h) [(11,.born [] [(3,1)] tq true 44 5)]
def F41:=anv
def GM (n:Nat):K1 (Cx E0 41 awD apj) sy (F41 n):=λ_ _ h=>ca (X:=DY) (aLW n h)
def aoT (r:Nat):AV:=.el bz 5 r 0
def x178:=fxR E0 Tryz.f178 [0,bz]
def A178:=AxS x178 [0,8589934592] aoT bQ
def C178:=CxSR E0 178 [0,8589934592] aoT bQ
def mc (g0:aE):LS:=⟨[(0,.loc 0 0)],[(0,.flat 184 [.int .i64 g0.bg.aw,.ms bz 5 0 g0.bg.ai.length,.int .i64 g0.fm.bh,.int .i64 g0.fm.aG,.int .i64 g0.fm.aO,.int .i64 g0.fm.eJ,.str g0.fm.av,.int .i64 g0.fm.ax,.int .i64 g0.fm.aD.ax,.int .i64 g0.fm.aD.bX,.str g0.fm.aD.bB,.slice 110 6 g0.fm.bc.length (cR g0.fm.bc),.str g0.fm.ar.av,.slice 73 2 g0.fm.ar.ae.length (bE g0.fm.ar.ae),.int .i64 g0.fm.ar.ay,.slice 121 2 g0.fm.ar.af.length (aQ g0.fm.ar.af),.slice 107 13 g0.fm.ar.ak.length (aJ g0.fm.ar.ak)]),(bz,.tree 44 5 ja (cZ g0.bg.ai) [])]⟩
def Q7 (n:Nat) (g0:aE):Option Nat:=
 (eZ g0.bg.ai.length g0.fm.aG).bind λgP=>some (0+gP)
def aGe (n:Nat):K1 (A178 []) mc (Q7 n):=λg0 r h=>be h λgP jC h=>rrS h [(11,dO jC)]
def B7:=Q7
def LD (n:Nat):K1 C178 mc (B7 n):=λ_ _ h=>caSR (X:=x178) (aGe n h)
def ahj (r:aj):AV:=.ju (iC r)
def awi:=fx E0 Tryz.f178 []
def aMT:=Ax awi ahj bQ
def xD (g0:aE):LS:=⟨[(0,.ju (BF g0))],[]⟩
def VM (n:Nat) (g0:aE):Option aj:=
 (idx g0.bg.ai g0.fm.aG).bind λgP=>some gP
def aCh (n:Nat):K1 (aMT []) xD (VM n):=λg0 r h=>be h λgP jC h=>rr h [(11,bW.idx jC)]
def Mo:=VM
def PZ (n:Nat):K1 (Cx E0 178 ahj bQ) xD (Mo n):=λ_ _ h=>ca (X:=awi) (aCh n h)
def x179:=fx E0 Tryz.f179 []
def A179:=Ax x179 du bQ
def agA (v0:aR) (fH:Int):LS:=⟨[(0,.agg (lN v0)),(1,cg fH)],[]⟩
def aej (n:Nat) (v0:aR) (fH:Int):Option Bool:=
 (adt n v0).bind λx4=>if x4 then
 some (v0.ax==fH)
 else
 some false
def aGd (n:Nat):K2 (A179 []) agA (aej n):=λv0 fH r h=>be h λx4 jm h=>ie h (λc0 bI=>by subst c0;exact (rr bI [kG (alh n jm)])) λc0 bI=>by subst c0;exact (rr bI [kG (alh n jm)])
def Vz:=aej
def alg (n:Nat):K2 (Cx E0 179 du bQ) agA (Vz n):=λ_ _ _ h=>ca (X:=x179) (aGd n h)
def pL (r:(Bool×aE)):AV:=.bool r.1
def pA (r:(Bool×aE)):List (Nat×Bx):= [(0,.flat 184 [.int .i64 r.2.bg.aw,.ms bz 5 0 r.2.bg.ai.length,.int .i64 r.2.fm.bh,.int .i64 r.2.fm.aG,.int .i64 r.2.fm.aO,.int .i64 r.2.fm.eJ,.str r.2.fm.av,.int .i64 r.2.fm.ax,.int .i64 r.2.fm.aD.ax,.int .i64 r.2.fm.aD.bX,.str r.2.fm.aD.bB,.slice 110 6 r.2.fm.bc.length (cR r.2.fm.bc),.str r.2.fm.ar.av,.slice 73 2 r.2.fm.ar.ae.length (bE r.2.fm.ar.ae),.int .i64 r.2.fm.ar.ay,.slice 121 2 r.2.fm.ar.af.length (aQ r.2.fm.ar.af),.slice 107 13 r.2.fm.ar.ak.length (aJ r.2.fm.ar.ak)]),(bz,.tree 44 5 ja (cZ r.2.bg.ai) [])]
def x148:=fx E0 Tryz.f148 [0,bz]
def A148:=Ax x148 pL pA
def aeK (n:Nat) (g0:aE):Option (Bool×aE):=
 (B7 n g0).bind λx3=>(g0.bg.ai[x3]?).bind λu6=>(app u6.ae [(cJ.mk g0.fm.av g0.fm.ax)]).bind λgC=>(Vz n g0.fm.aD g0.fm.ax).bind λx40=>(setAt g0.bg.ai x3 (aj.mk u6.av gC u6.ay u6.af u6.ak)).bind λz43=>some (x40,(aE.mk (ag.mk g0.bg.aw z43) g0.fm))
def aHh (n:Nat):K1 (A148 []) mc (aeK n):=λg0 r h=>be h λx3 eY h=>be h λu6 yO h=>be h λgC l3 h=>be h λx40 atX h=>be h λz43 hz43 h=>rr h [(2,.call (LD n eY) [(0,0),(bz,bz)] []),(1,bW.ny eL bz ic 1 false 73 2 u6.ae yO [.str u6.av,.undef,.int .i64 u6.ay,.slice 121 2 u6.af.length (aQ u6.af),.slice 107 13 u6.ak.length (aJ u6.ak)] (by kernel_rfl) (by kernel_rfl)),(17,eL.kE l3),(2,bW.xV 1 [.str u6.av,.undef,.int .i64 u6.ay,.slice 121 2 u6.af.length (aQ u6.af),.slice 107 13 u6.ak.length (aJ u6.ak)] [.str u6.av,.undef,.int .i64 u6.ay,.slice 121 2 u6.af.length (aQ u6.af),.slice 107 13 u6.ak.length (aJ u6.ak)] yO (by kernel_rfl)),(10,zM (alg n atX)),(1,bW.gQ eL (r:= [.str u6.av,.undef,.int .i64 u6.ay,.slice 121 2 u6.af.length (aQ u6.af),.slice 107 13 u6.ak.length (aJ u6.ak)]) bz ic 1 false 73 2 gC hz43 (by kernel_rfl)),(0,.beq 0 (bM (λn_=>(Bx.flat 184 [.int .i64 g0.bg.aw,.ms bz 5 0 n_,.int .i64 g0.fm.bh,.int .i64 g0.fm.aG,.int .i64 g0.fm.aO,.int .i64 g0.fm.eJ,.str g0.fm.av,.int .i64 g0.fm.ax,.int .i64 g0.fm.aD.ax,.int .i64 g0.fm.aD.bX,.str g0.fm.aD.bB,.slice 110 6 g0.fm.bc.length (cR g0.fm.bc),.str g0.fm.ar.av,.slice 73 2 g0.fm.ar.ae.length (bE g0.fm.ar.ae),.int .i64 g0.fm.ar.ay,.slice 121 2 g0.fm.ar.af.length (aQ g0.fm.ar.af),.slice 107 13 g0.fm.ar.ak.length (aJ g0.fm.ar.ak)])) (ew hz43)))]
def adD:=aeK
def aKj (n:Nat):K1 (Cx E0 148 pL pA) mc (adD n):=λ_ _ h=>ca (X:=x148) (aHh n h)
def x180:=fx E0 Tryz.f180 []
def A180:=Ax x180 du bQ
def agz (g0:aE) (c1:Int):LS:=⟨[(0,.ju (BF g0)),(1,cg c1)],[]⟩
def aei (n:Nat) (g0:aE) (c1:Int):Option Bool:=
 (Mo n g0).bind λx3=>if !decide (c1<x3.ay) then
 some (decide (c1<(x3.ae.length:Int)))
 else
 some false
def aGc (n:Nat):K2 (A180 []) agz (aei n):=λg0 c1 r h=>be h λx3 eY h=>ie h (λc0 h=>rr h [iS (PZ n eY),dL c0]) λc0 h=>rr h [iS (PZ n eY),dL c0]
def N6:=aei
def Xp (n:Nat):K2 (Cx E0 180 du bQ) agz (N6 n):=λ_ _ _ h=>ca (X:=x180) (aGc n h)
def x217:=fx E0 Tryz.f217 []
def avV:=Ax x217 ed bQ
def azm (s0:aK) (v1 t7 t8:Int):LS:=⟨[(0,.slice 3 1 s0.length (eo s0)),(1,.int .i64 v1),(7,.int .i64 t7),(8,.int .i64 t8)],[]⟩
def azl:LS:=⟨[],[]⟩
def Kx (s0:aK) (v1:Int):LS:=⟨[(0,.slice 3 1 s0.length (eo s0)),(1,.int .i64 v1)],[]⟩
def QP (aN:Option Int) (back:aK->Int->Int->Int->Option Int) (n:Nat) (s0:aK) (v1 t7 t8:Int):Option Int:=
 if decide (t8<t7) then
 (idx s0 t8).bind λx7=>if v1==x7 then
 some t8
 else
 back s0 v1 t7 (bl (t8+1))
 else
 aN
def TJ:=K0 (avV [1,1]) azl
def TH:=K4 (avV [0,1,0,1]) azm
def aFu {aN} (bn:TJ aN) {back} (aS:TH back) (n:Nat):TH (QP aN back n):=λs0 v1 t7 t8 r h=>ie h (λc0 h=>be h λx7 jv h=>ie h (λc1 h=>rr h [aI c0,(5,R3.idx jv),bb c1]) λc1 h=>ra (aS h) [aI c0,(5,R3.idx jv),bb c1]) λc0 h=>ra (bn h) [aI c0]
def E2 (aN:Option Int):Nat->aK->Int->Int->Int->Option Int
 |0=>λ_ _ _ _=>none
 |n+1=>QP aN (E2 aN n) n
def apJ {aN} (bn:TJ aN):∀n:Nat,TH (E2 aN n)
 |0=>λ_ _ _ _ _ h=>nz h
 |n+1=>aFu bn (apJ bn n) n
def QO (n:Nat):Option Int:=
 some (-1)
def aFt (n:Nat):TJ (QO n):=λr h=>rr h []
def adV (n:Nat) (s0:aK) (v1:Int):Option Int:=
 E2 (QO n) n s0 v1 (s0.length:Int) 0
def aFs (n:Nat):K2 (avV []) Kx (adV n):=λs0 v1 r h=>ra (apJ (aFt n) n h) []
def avF:=adV
def aJK (n:Nat):K2 (Cx E0 217 ed bQ) Kx (avF n):=λ_ _ _ h=>ca (X:=x217) (aFs n h)
def x196:=fx E0 Tryz.f196 []
def A196:=Ax x196 du bQ
def adZ (n:Nat) (s0:aK) (v1:Int):Option Bool:=
 (avF n s0 v1).bind λx4=>some (!decide (x4<0))
def aFD (n:Nat):K2 (A196 []) Kx (adZ n):=λs0 v1 r h=>be h λx4 jm h=>rr h [kG (aJK n jm)]
def adj:=adZ
def axM (n:Nat):K2 (Cx E0 196 du bQ) Kx (adj n):=λ_ _ _ h=>ca (X:=x196) (aFD n h)
def x214:=fx E0 Tryz.f214 []
def A214:=Ax x214 ed bQ
def Ky (x0:Int):LS:=⟨[(0,.int .u64 x0)],[]⟩
def ash (n:Nat) (x0:Int):Option Int:=
 if !decide (x0<4294967296) then
 none
 else
 if !decide (x0<65536) then
 none
 else
 if !decide (x0<256) then
 none
 else
 (Dq (ByteArray.mk #[0,1,2,2,3,3,3,3,4,4,4,4,4,4,4,4,5,5,5,5,5,5,5,5,5,5,5,5,5,5,5,5,6,6,6,6,6,6,6,6,6,6,6,6,6,6,6,6,6,6,6,6,6,6,6,6,6,6,6,6,6,6,6,6,7,7,7,7,7,7,7,7,7,7,7,7,7,7,7,7,7,7,7,7,7,7,7,7,7,7,7,7,7,7,7,7,7,7,7,7,7,7,7,7,7,7,7,7,7,7,7,7,7,7,7,7,7,7,7,7,7,7,7,7,7,7,7,7,8,8,8,8,8,8,8,8,8,8,8,8,8,8,8,8,8,8,8,8,8,8,8,8,8,8,8,8,8,8,8,8,8,8,8,8,8,8,8,8,8,8,8,8,8,8,8,8,8,8,8,8,8,8,8,8,8,8,8,8,8,8,8,8,8,8,8,8,8,8,8,8,8,8,8,8,8,8,8,8,8,8,8,8,8,8,8,8,8,8,8,8,8,8,8,8,8,8,8,8,8,8,8,8,8,8,8,8,8,8,8,8,8,8,8,8,8,8,8,8,8,8,8,8,8,8,8,8]) (IntKind.wrap .u8 (x0))).bind λdA=>some (bl (0+(bl ((dA.toNat:Int)))))
def aFy (n:Nat):K1 (A214 []) Ky (ash n):=λx0 r h=>ie h (λc0 h=>nz h) λc0 h=>ie h (λc1 h=>nz h) λc1 h=>ie h (λc2 h=>nz h) λc2 h=>be h λdA gn h=>rr h [ba c0,bb c1,bb c2,(3,.chr (gn))]
def F214:=ash
def aJM (n:Nat):K1 (Cx E0 214 ed bQ) Ky (F214 n):=λ_ _ h=>ca (X:=x214) (aFy n h)
def x191:=fx E0 Tryz.f191 []
def A191:=Ax x191 ed bQ
def asi (n:Nat) (x0:Int):Option Int:=
 (F214 n x0).bind λx3=>some x3
def aFK (n:Nat):K1 (A191 []) Ky (asi n):=λx0 r h=>be h λx3 eY h=>rr h [iS (aJM n eY)]
def Vx:=asi
def aJR (n:Nat):K1 (Cx E0 191 ed bQ) Ky (Vx n):=λ_ _ h=>ca (X:=x191) (aFK n h)
def aoR (r:(aK×aK)):AV:=.ms iu 1 0 r.2.length
def ahq (r:(aK×aK)):List (Nat×Bx):= [(iu,xM r.2)]
def x218:=fx E0 Tryz.f218 [iu]
def VP:=Ax x218 aoR ahq
def C218:=Cx E0 218 aoR ahq
def azk (t16:kF) (t17:Int) (gg:aK) (b3:ah) (b6:aT):LS:=⟨[(0,qb iu gg.length),(3,.loc 3 0),(6,.loc 6 0),(16,.agg (P5 t16)),(17,cg t17)],[(3,qP (fk b3)),(6,.flat 105 (pR b6)),(iu,xM gg)]⟩
def azj (t16:kF) (t17:Int) (gg:aK) (b3:ah):LS:=⟨[(0,qb iu gg.length),(3,.loc 3 0),(16,.agg (P5 t16)),(17,cg t17)],[(3,qP (fk b3)),(iu,xM gg)]⟩
def azi (t35:bN) (t36 t37:Int) (gg:aK):LS:=⟨[(0,.ms iu 1 0 gg.length),(35,.slice 107 13 t35.length (aJ t35)),(36,.int .i64 t36),(37,.int .i64 t37)],[(iu,xM gg)]⟩
def azh (gg:aK):LS:=⟨[(0,qb iu gg.length)],[(iu,xM gg)]⟩
def azg (gg:aK) (b3:ah):LS:=⟨[(0,qb iu gg.length),(3,.loc 3 0)],[(3,qP (fk b3)),(iu,xM gg)]⟩
def agq (rD:aK) (p1:ah):LS:=⟨[(0,qb iu rD.length),(1,.agg (fk p1))],[(iu,xM rD)]⟩
def JX (fY:aK->ah->Option (aK×aK)) (aN:Wf49) (n:Nat) (t16:kF) (t17:Int) (gg:aK) (b3:ah) (b6:aT):Option (aK×aK):=
 if b6.ax==1 then
 if !decide (b6.cQ<0) then
 (app gg [b6.cQ]).bind λeh=>aN t16 (bl (t17+1)) eh b3
 else
 aN t16 (bl (t17+1)) gg b3
 else
 aN t16 (bl (t17+1)) gg b3
def tW:=K2 C218 agq
def KW:=K4 (VP (cF 85)) azj
def ary {fY} (l4:tW fY) {aN} (bn:KW aN) (n:Nat):K5 (VP (cF 6549)) azk (JX fY aN n):=λt16 t17 gg b3 b6 r h=>ie h (λc0 h=>ie h (λc1 h=>be h λeh iz h=>ra (bn h) [ba c0,bj c1,(5,R3.kE iz)]) λc1 h=>ra (bn h) [ba c0,bj c1]) λc0 h=>ra (bn h) [ba c0]
def asg (fY:aK->ah->Option (aK×aK)) (da:Wf50) (back:Wf49) (n:Nat) (t16:kF) (t17:Int) (gg:aK) (b3:ah):Option (aK×aK):=
 if decide (t17<2) then
 if t17==0 then
 JX fY back n t16 0 gg b3 t16.f0
 else
 if t17==1 then
 JX fY back n t16 1 gg b3 t16.f1
 else
 none
 else
 da gg b3
def TF:=K2 (VP [1,1]) azg
def aFr {fY} (l4:tW fY) {da} (eW:TF da) {back} (aS:KW back) (n:Nat):KW (asg fY da back n):=λt16 t17 gg b3 r h=>ie h (λc0 h=>ie h (λc1 bI=>by have c1:=eq_of_beq c1;subst c1;exact (
 ra (ary l4 aS n bI) [])) λc1 h=>ie h (λc2 bI=>by have c2:=eq_of_beq c2;subst c2;exact (
 ra (ary l4 aS n bI) [])) λc2 h=>nz h) λc0 h=>ra (eW h) [aI c0]
def uS (fY:aK->ah->Option (aK×aK)) (da:Wf50):Nat->kF->Int->aK->ah->Option (aK×aK)
 |0=>λ_ _ _ _=>none
 |n+1=>asg fY da (uS fY da n) n
def apI {fY} (l4:tW fY) {da} (eW:TF da):∀n:Nat,KW (uS fY da n)
 |0=>λ_ _ _ _ _ h=>nz h
 |n+1=>aFr l4 eW (apI l4 eW n) n
def QN (fY:aK->ah->Option (aK×aK)) (bD:aK->Option (aK×aK)) (back:bN->Int->Int->aK->Option (aK×aK)) (n:Nat) (t35:bN) (t36 t37:Int) (gg:aK):Option (aK×aK):=
 if decide (t37<t36) then
 (idx t35 t37).bind λx2=>(fY gg x2).bind λx9=>back t35 t36 (bl (t37+1)) x9.2
 else
 bD gg
def TE:=K1 (VP [1,1,1]) azh
def TD:=K4 (VP [0,1,0,1,1]) azi
def aFq {fY} (l4:tW fY) {bD} (cU:TE bD) {back} (aS:TD back) (n:Nat):TD (QN fY bD back n):=λt35 t36 t37 gg r h=>ie h (λc0 h=>be h λx2 cX h=>be h λx9 iO h=>ra (aS h) [aI c0,(0,eD.idx cX),(5,.call (l4 iO) [(iu,iu)] [])]) λc0 h=>ra (cU h) [aI c0]
def E1 (fY:aK->ah->Option (aK×aK)) (bD:aK->Option (aK×aK)):Nat->bN->Int->Int->aK->Option (aK×aK)
 |0=>λ_ _ _ _=>none
 |n+1=>QN fY bD (E1 fY bD n) n
def apH {fY} (l4:tW fY) {bD} (cU:TE bD):∀n:Nat,TD (E1 fY bD n)
 |0=>λ_ _ _ _ _ h=>nz h
 |n+1=>aFq l4 cU (apH l4 cU n) n
def QM (fY:aK->ah->Option (aK×aK)) (n:Nat) (gg:aK):Option (aK×aK):=
 some (gg,gg)
def aFp {fY} (l4:tW fY) (n:Nat):TE (QM fY n):=λgg r h=>rr h []
def FI (fY:aK->ah->Option (aK×aK)) (n:Nat) (gg:aK) (b3:ah):Option (aK×aK):=
 E1 fY (QM fY n) n b3.fArgs (b3.fArgs.length:Int) 0 gg
def arx {fY} (l4:tW fY) (n:Nat):TF (FI fY n):=λgg b3 r h=>ra (apH l4 (aFp l4 n) n h) []
def adU (fY:aK->ah->Option (aK×aK)) (n:Nat) (rD:aK) (p1:ah):Option (aK×aK):=
 if p1.bh==3 then
 uS fY (FI fY n) n (kF.mk p1.cm p1.bL) 0 rD p1
 else
 FI fY n rD p1
def aFo {fY} (l4:tW fY) (n:Nat):K2 (VP []) agq (adU fY n):=λrD p1 r h=>ie h (λc0 h=>ra (apI l4 (arx l4 n) n h) [bt c0]) λc0 h=>ra (arx l4 n h) [bt c0]
def DD:Nat->aK->ah->Option (aK×aK)
 |0,_,_=>none
 |n+1,rD,p1=>adU (DD n) n rD p1
def axL:∀n:Nat,tW (DD n)
 |0=>λ_ _ _ h=>nz h
 |n+1=>λ_ _ _ h=>ca (X:=x218) (aFo (axL n) n h)
def awh:=fx E0 Tryz.f218 []
def MI:=Ax awh Cj Eg
def asK (t16:kF) (t17:Int) (fD:aK) (b3:ah) (b6:aT):LS:=⟨[(0,.ms 32 1 0 fD.length),(3,.loc 3 0),(6,.loc 6 0),(16,.agg (P5 t16)),(17,cg t17)],[(3,qP (fk b3)),(6,.flat 105 (pR b6)),(32,UN fD)]⟩
def asJ (t16:kF) (t17:Int) (fD:aK) (b3:ah):LS:=⟨[(0,.ms 32 1 0 fD.length),(3,.loc 3 0),(16,.agg (P5 t16)),(17,cg t17)],[(3,qP (fk b3)),(32,UN fD)]⟩
def asI (t35:bN) (t36 t37:Int) (fD:aK):LS:=⟨[(0,.ms 32 1 0 fD.length),(35,.slice 107 13 t35.length (aJ t35)),(36,.int .i64 t36),(37,.int .i64 t37)],[(32,xM fD)]⟩
def asH (fD:aK):LS:=⟨[(0,.ms 32 1 0 fD.length)],[(32,xM fD)]⟩
def asG (fD:aK) (b3:ah):LS:=⟨[(0,.ms 32 1 0 fD.length),(3,.loc 3 0)],[(3,qP (fk b3)),(32,UN fD)]⟩
def YU (p1:ah):LS:=⟨[(0,.dD),(1,.agg (fk p1))],[]⟩
def FP (aN:Wf51) (n:Nat) (t16:kF) (t17:Int) (fD:aK) (b3:ah) (b6:aT):Option aK:=
 if b6.ax==1 then
 if !decide (b6.cQ<0) then
 (app fD [b6.cQ]).bind λeh=>aN t16 (bl (t17+1)) eh b3
 else
 aN t16 (bl (t17+1)) fD b3
 else
 aN t16 (bl (t17+1)) fD b3
def KV:=K4 (MI (cF 85)) asJ
def ail {aN} (bn:KV aN) (n:Nat):K5 (MI (cF 6549)) asK (FP aN n):=λt16 t17 fD b3 b6 r h=>ie h (λc0 h=>ie h (λc1 h=>be h λeh iz h=>ra (bn h) [ba c0,bj c1,(5,R3.kE iz)]) λc1 h=>ra (bn h) [ba c0,bj c1]) λc0 h=>ra (bn h) [ba c0]
def ajg (da:amn) (back:Wf51) (n:Nat) (t16:kF) (t17:Int) (fD:aK) (b3:ah):Option aK:=
 if decide (t17<2) then
 if t17==0 then
 FP back n t16 0 fD b3 t16.f0
 else
 if t17==1 then
 FP back n t16 1 fD b3 t16.f1
 else
 none
 else
 da fD b3
def TB:=K2 (MI [1,1]) asG
def aCg {da} (eW:TB da) {back} (aS:KV back) (n:Nat):KV (ajg da back n):=λt16 t17 fD b3 r h=>ie h (λc0 h=>ie h (λc1 bI=>by have c1:=eq_of_beq c1;subst c1;exact (
 ra (ail aS n bI) [])) λc1 h=>ie h (λc2 bI=>by have c2:=eq_of_beq c2;subst c2;exact (
 ra (ail aS n bI) [])) λc2 h=>nz h) λc0 h=>ra (eW h) [aI c0]
def sJ (da:amn):Nat->kF->Int->aK->ah->Option aK
 |0=>λ_ _ _ _=>none
 |n+1=>ajg da (sJ da n) n
def ahO {da} (eW:TB da):∀n:Nat,KV (sJ da n)
 |0=>λ_ _ _ _ _ h=>nz h
 |n+1=>aCg eW (ahO eW n) n
def MF (bD:Wf0) (back:bN->Int->Int->aK->Option aK) (n:Nat) (t35:bN) (t36 t37:Int) (fD:aK):Option aK:=
 if decide (t37<t36) then
 (idx t35 t37).bind λx2=>(DD n fD x2).bind λx9=>back t35 t36 (bl (t37+1)) x9.2
 else
 bD fD
def TA:=K1 (MI [1,1,1]) asH
def Tz:=K4 (MI [0,1,0,1,1]) asI
def aCf {bD} (cU:TA bD) {back} (aS:Tz back) (n:Nat):Tz (MF bD back n):=λt35 t36 t37 fD r h=>ie h (λc0 h=>be h λx2 cX h=>be h λx9 iO h=>ra (aS h) [aI c0,(0,eD.idx cX),(5,.call (axL n iO) [(32,iu)] [])]) λc0 h=>ra (cU h) [aI c0]
def AM (bD:Wf0):Nat->bN->Int->Int->aK->Option aK
 |0=>λ_ _ _ _=>none
 |n+1=>MF bD (AM bD n) n
def ahN {bD} (cU:TA bD):∀n:Nat,Tz (AM bD n)
 |0=>λ_ _ _ _ _ h=>nz h
 |n+1=>aCf cU (ahN cU n) n
def ME (n:Nat) (fD:aK):Option aK:=
 some fD
def aCe (n:Nat):TA (ME n):=λfD r h=>rr h [(2,.jl 32 cT)]
def AP (n:Nat) (fD:aK) (b3:ah):Option aK:=
 AM (ME n) n b3.fArgs (b3.fArgs.length:Int) 0 fD
def aik (n:Nat):TB (AP n):=λfD b3 r h=>ra (ahN (aCe n) n h) []
def VL (n:Nat) (p1:ah):Option aK:=
 if p1.bh==3 then
 sJ (AP n) n (kF.mk p1.cm p1.bL) 0 [] p1
 else
 AP n [] p1
def aCd (n:Nat):K1 (MI []) YU (VL n):=λp1 r h=>ie h (λc0 h=>ra (ahO (aik n) n h) [bt c0,(6,.born [0] [] 32 true 3 1)]) λc0 h=>ra (aik n h) [bt c0,(0,.born [0] [] 32 true 3 1)]
def XD:=VL
def aEV (n:Nat):K1 (Cx E0 218 Cj Eg) YU (XD n):=λ_ _ h=>ca (X:=awh) (aCd n h)
def x197:=fx E0 Tryz.f197 []
def A197:=Ax x197 Cj Eg
def adY (n:Nat) (p0:ah):Option aK:=
 (XD n p0).bind λx4=>(ads n x4).bind λx8=>(lJ x8.length x4.length).bind λw9=>(adi n x8).bind λgP=>some gP.2
def aFC (n:Nat):K1 (A197 []) Az (adY n):=λp0 r h=>be h λx4 jm h=>be h λx8 oH h=>be h λw9 hw9 h=>be h λgP jC h=>rr h [(3,.call (aEV n jm) [] [(5,cT)]),(2,.call (aJW n oH) [(5,0)] []),(1,.seq 8 (bM (AV.ms 5 1 0) ((xI hw9).symm))),(0,.call (aJJ n jC) [(5,0)] []),(1,.jl 5 cT)]
def amx:=adY
def aJQ (n:Nat):K1 (Cx E0 197 Cj Eg) Az (amx n):=λ_ _ h=>ca (X:=x197) (aFC n h)
def x181:=fx E0 Tryz.f181 []
def afl:=Ax x181 du bQ
def azE (g0:aE) (t3:aj) (t13:cA) (t14 t15:Int):LS:=⟨[(0,.ju (BF g0)),(3,.ju (iC t3)),(13,.slice 121 2 t13.length (aQ t13)),(14,.int .i64 t14),(15,.int .i64 t15)],[]⟩
def azD (g0:aE) (t31:bN) (t32 t33:Int):LS:=⟨[(0,.ju (BF g0)),(31,.slice 107 13 t31.length (aJ t31)),(32,.int .i64 t32),(33,.int .i64 t33)],[]⟩
def azC:LS:=⟨[],[]⟩
def azB (g0:aE) (t3:aj):LS:=⟨[(0,.ju (BF g0)),(3,.ju (iC t3))],[]⟩
def Q6 (bD:aE->aj->Option Bool) (back:aE->aj->cA->Int->Int->Option Bool) (n:Nat) (g0:aE) (t3:aj) (t13:cA) (t14 t15:Int):Option Bool:=
 if decide (t15<t14) then
 (idx t13 t15).bind λx2=>(adj n x2.ae g0.fm.aO).bind λig=>if ig then
 some true
 else
 back g0 t3 t13 t14 (bl (t15+1))
 else
 bD g0 t3
def Ty:=K2 (afl [1,1,1]) azB
def Tx:=K5 (afl [0,1,0,1,1]) azE
def aGb {bD} (cU:Ty bD) {back} (aS:Tx back) (n:Nat):Tx (Q6 bD back n):=λg0 t3 t13 t14 t15 r h=>ie h (λc0 h=>be h λx2 cX h=>be h λig j2 h=>let zA:SE:=[aI c0,(0,eN.idx cX),(10,zM (axM n j2))];ie h (λc1 bI=>by subst c1;exact (rr bI zA)) λc1 bI=>by subst c1;exact (ra (aS bI) zA)) λc0 h=>ra (cU h) [aI c0]
def E7 (bD:aE->aj->Option Bool):Nat->aE->aj->cA->Int->Int->Option Bool
 |0=>λ_ _ _ _ _=>none
 |n+1=>Q6 bD (E7 bD n) n
def apU {bD} (cU:Ty bD):∀n:Nat,Tx (E7 bD n)
 |0=>λ_ _ _ _ _ _ h=>nz h
 |n+1=>aGb cU (apU cU n) n
def Q5 (bw:Option Bool) (back:aE->bN->Int->Int->Option Bool) (n:Nat) (g0:aE) (t31:bN) (t32 t33:Int):Option Bool:=
 if decide (t33<t32) then
 (idx t31 t33).bind λx2=>(amx n x2).bind λx8=>(adj n x8 g0.fm.aO).bind λfh=>if fh then
 some true
 else
 back g0 t31 t32 (bl (t33+1))
 else
 bw
def Tw:=K0 (afl [1,1,1,1]) azC
def Tv:=K4 (afl (cF 87)) azD
def aGa {bw} (cM:Tw bw) {back} (aS:Tv back) (n:Nat):Tv (Q5 bw back n):=λg0 t31 t32 t33 r h=>ie h (λc0 h=>be h λx2 cX h=>be h λx8 oH h=>be h λfh mK h=>let zA:SE:=[aI c0,(0,eD.idx cX),(3,.ord [0,2,3,4,5,6,1,7]),(6,zM (cd (e:=3) (z:=false) (Q:=eo x8) (aJQ n oH) (R3.len x8))),oZ (axM n mK)];ie h (λc1 bI=>by subst c1;exact (rr bI zA)) λc1 bI=>by subst c1;exact (ra (aS bI) zA)) λc0 h=>ra (cM h) [aI c0]
def E6 (bw:Option Bool):Nat->aE->bN->Int->Int->Option Bool
 |0=>λ_ _ _ _=>none
 |n+1=>Q5 bw (E6 bw n) n
def apT {bw} (cM:Tw bw):∀n:Nat,Tv (E6 bw n)
 |0=>λ_ _ _ _ _ h=>nz h
 |n+1=>aGa cM (apT cM n) n
def Q4 (n:Nat):Option Bool:=
 some false
def aFZ (n:Nat):Tw (Q4 n):=λr h=>rr h []
def Q3 (n:Nat) (g0:aE) (t3:aj):Option Bool:=
 E6 (Q4 n) n g0 t3.ak (t3.ak.length:Int) 0
def aFY (n:Nat):Ty (Q3 n):=λg0 t3 r h=>ra (apT (aFZ n) n h) []
def aeh (n:Nat) (g0:aE):Option Bool:=
 (Mo n g0).bind λx3=>E7 (Q3 n) n g0 x3 x3.af (x3.af.length:Int) 0
def aFX (n:Nat):K1 (afl []) xD (aeh n):=λg0 r h=>be h λx3 eY h=>ra (apU (aFY n) n h) [iS (PZ n eY)]
def ado:=aeh
def axU (n:Nat):K1 (Cx E0 181 du bQ) xD (ado n):=λ_ _ h=>ca (X:=x181) (aFX n h)
def aoS (r:aE):AV:=.cS []
def aht (r:aE):List (Nat×Bx):= [(0,.flat 184 [.int .i64 r.bg.aw,.ms bz 5 0 r.bg.ai.length,.int .i64 r.fm.bh,.int .i64 r.fm.aG,.int .i64 r.fm.aO,.int .i64 r.fm.eJ,.str r.fm.av,.int .i64 r.fm.ax,.int .i64 r.fm.aD.ax,.int .i64 r.fm.aD.bX,.str r.fm.aD.bB,.slice 110 6 r.fm.bc.length (cR r.fm.bc),.str r.fm.ar.av,.slice 73 2 r.fm.ar.ae.length (bE r.fm.ar.ae),.int .i64 r.fm.ar.ay,.slice 121 2 r.fm.ar.af.length (aQ r.fm.ar.af),.slice 107 13 r.fm.ar.ak.length (aJ r.fm.ar.ak)]),(bz,.tree 44 5 ja (cZ r.bg.ai) [])]
def x183:=fx E0 Tryz.f183 [0,bz]
def VQ:=Ax x183 aoS aht
def azz (js:Nat) (t17 t18 t24 t25:Int) (b0:aE) (b5:bk) (re:aK) (bK:br) (aZ:aj) (dH:cA) (vt:bk) (tG:Nat):LS:=⟨[(2,.el bz 5 js 0),(3,akc),(5,.loc 5 0),(16,jK fZ dH.length),(17,cg t17),(18,cg t18),(23,qb nY re.length),(24,cg t24),(25,cg t25)],[(0,.flat 184 [.int .i64 b0.bg.aw,.ms bz 5 0 bK.length,.int .i64 b0.fm.bh,.int .i64 b0.fm.aG,.int .i64 b0.fm.aO,.int .i64 b0.fm.eJ,.str b0.fm.av,.int .i64 b0.fm.ax,.int .i64 b0.fm.aD.ax,.int .i64 b0.fm.aD.bX,.str b0.fm.aD.bB,.slice 110 6 b0.fm.bc.length (cR b0.fm.bc),.str b0.fm.ar.av,.slice 73 2 b0.fm.ar.ae.length (bE b0.fm.ar.ae),.int .i64 b0.fm.ar.ay,.slice 121 2 b0.fm.ar.af.length (aQ b0.fm.ar.af),.slice 107 13 b0.fm.ar.ak.length (aJ b0.fm.ar.ak)]),(1,.flat 182 [.loc 0 0]),(5,.flat 121 [qb nY re.length,cg b5.aG]),(bz,.tree 44 5 ja (((cZ bK)).set js [.str aZ.av,.slice 73 2 aZ.ae.length (bE aZ.ae),.int .i64 aZ.ay,.undef,.slice 107 13 aZ.ak.length (aJ aZ.ak)]) [(js*5+3,jK fZ dH.length)]),(fZ,.tree 121 2 zk (((aQ dH)).set tG (oE vt.aG)) [(tG*2+0,qb nY re.length)]),(nY,.rows false 3 1 (eo re))]⟩
def agy (js:Nat) (t17 t18:Int) (b0:aE) (bK:br) (aZ:aj) (dH:cA):LS:=⟨[(2,.el bz 5 js 0),(3,akc),(16,jK fZ dH.length),(17,cg t17),(18,cg t18)],[(0,.flat 184 [.int .i64 b0.bg.aw,.ms bz 5 0 bK.length,.int .i64 b0.fm.bh,.int .i64 b0.fm.aG,.int .i64 b0.fm.aO,.int .i64 b0.fm.eJ,.str b0.fm.av,.int .i64 b0.fm.ax,.int .i64 b0.fm.aD.ax,.int .i64 b0.fm.aD.bX,.str b0.fm.aD.bB,.slice 110 6 b0.fm.bc.length (cR b0.fm.bc),.str b0.fm.ar.av,.slice 73 2 b0.fm.ar.ae.length (bE b0.fm.ar.ae),.int .i64 b0.fm.ar.ay,.slice 121 2 b0.fm.ar.af.length (aQ b0.fm.ar.af),.slice 107 13 b0.fm.ar.ak.length (aJ b0.fm.ar.ak)]),(1,.flat 182 [.loc 0 0]),(bz,.tree 44 5 ja (((cZ bK)).set js [.str aZ.av,.slice 73 2 aZ.ae.length (bE aZ.ae),.int .i64 aZ.ay,.undef,.slice 107 13 aZ.ak.length (aJ aZ.ak)]) [(js*5+3,jK fZ dH.length)]),(fZ,.tree 121 2 zk (aQ dH) [])]⟩
def azy (js:Nat) (t43 t44:Int) (b0:aE) (dj:bN) (bK:br) (aZ:aj):LS:=⟨[(2,.el bz 5 js 0),(3,akc),(42,.ms lK 13 0 dj.length),(43,cg t43),(44,cg t44)],[(0,.flat 184 [.int .i64 b0.bg.aw,.ms bz 5 0 bK.length,.int .i64 b0.fm.bh,.int .i64 b0.fm.aG,.int .i64 b0.fm.aO,.int .i64 b0.fm.eJ,.str b0.fm.av,.int .i64 b0.fm.ax,.int .i64 b0.fm.aD.ax,.int .i64 b0.fm.aD.bX,.str b0.fm.aD.bB,.slice 110 6 b0.fm.bc.length (cR b0.fm.bc),.str b0.fm.ar.av,.slice 73 2 b0.fm.ar.ae.length (bE b0.fm.ar.ae),.int .i64 b0.fm.ar.ay,.slice 121 2 b0.fm.ar.af.length (aQ b0.fm.ar.af),.slice 107 13 b0.fm.ar.ak.length (aJ b0.fm.ar.ak)]),(1,.flat 182 [.loc 0 0]),(bz,.tree 44 5 ja (((cZ bK)).set js [.str aZ.av,.slice 73 2 aZ.ae.length (bE aZ.ae),.int .i64 aZ.ay,.slice 121 2 aZ.af.length (aQ aZ.af),.undef]) [(js*5+4,.ms lK 13 0 dj.length)]),(lK,.rows false 107 13 (aJ dj))]⟩
def azx (js:Nat) (b0:aE) (bK:br):LS:=⟨[(2,.el bz 5 js 0),(3,akc)],[(0,.flat 184 [.int .i64 b0.bg.aw,.ms bz 5 0 bK.length,.int .i64 b0.fm.bh,.int .i64 b0.fm.aG,.int .i64 b0.fm.aO,.int .i64 b0.fm.eJ,.str b0.fm.av,.int .i64 b0.fm.ax,.int .i64 b0.fm.aD.ax,.int .i64 b0.fm.aD.bX,.str b0.fm.aD.bB,.slice 110 6 b0.fm.bc.length (cR b0.fm.bc),.str b0.fm.ar.av,.slice 73 2 b0.fm.ar.ae.length (bE b0.fm.ar.ae),.int .i64 b0.fm.ar.ay,.slice 121 2 b0.fm.ar.af.length (aQ b0.fm.ar.af),.slice 107 13 b0.fm.ar.ak.length (aJ b0.fm.ar.ak)]),(1,.flat 182 [.loc 0 0]),(bz,.tree 44 5 ja (cZ bK) [])]⟩
def Q1 (aN:amf) (back:Nat->Int->Int->Int->Int->aE->bk->aK->br->aj->cA->bk->Nat->Option aE) (n:Nat) (js:Nat) (t17 t18 t24 t25:Int) (b0:aE) (b5:bk) (re:aK) (bK:br) (aZ:aj) (dH:cA) (vt:bk) (tG:Nat):Option aE:=
 if decide (t25<t24) then
 (eZ re.length t25).bind λx3=>(re[0+x3]?).bind λx5=>(N4 n x5 (aE.mk (ag.mk b0.bg.aw bK) b0.fm)).bind λig=>(eZ re.length t25).bind λfg=>(re[0+fg]?).bind λlh=>(setAt re (0+fg) ig).bind λz19=>back js t17 t18 t24 (bl (t25+1)) (aE.mk (ag.mk b0.bg.aw bK) b0.fm) (bk.mk z19 b5.aG) z19 bK (aj.mk aZ.av aZ.ae aZ.ay [] aZ.ak) dH (bk.mk [] vt.aG) tG
 else
 (setAt dH tG (bk.mk re vt.aG)).bind λz2=>aN js t17 t18 (aE.mk (ag.mk b0.bg.aw bK) b0.fm) bK (aj.mk aZ.av aZ.ae aZ.ay [] aZ.ak) z2
def Tu:=K7 (VQ (cF 1943)) agy
def Tt:=K13 (VQ (cF 22935)) azz
def aFW {aN} (bn:Tu aN) {back} (aS:Tt back) (n:Nat):Tt (Q1 aN back n):=λjs t17 t18 t24 t25 b0 b5 re bK aZ dH vt tG r h=>ie h (λc0 h=>be h λx3 eY h=>be h λx5 kR h=>be h λig j2 h=>be h λfg iM h=>be h λlh pd h=>be h λz19 Gy h=>ra (aS h) [aI c0,(1,dO eY),(0,R3.row kR),(7,.call (alf n j2) [(1,1),(0,9000)] [(bz,Bk)]),(0,dO iM),(0,R3.uE 0 [cg ig] pd Gy (by kernel_rfl)),(2,.seq 23 (bM (AV.ms nY 1 0) (ew Gy))),(0,.beq 5 (bM (λn_=>(Bx.flat 121 [qb nY n_,cg b5.aG])) (ew Gy))),(0,.beq fZ (bM (λn_=>(Bx.tree 121 2 zk (((aQ dH)).set tG (oE vt.aG)) [(tG*2+0,qb nY n_)])) (ew Gy)))]) λc0 h=>be h λz2 mi h=>ra (bn h) [aI c0,(0,eN.gQ R3 (r:= (oE vt.aG)) fZ nY 0 false 3 1 re mi (by kernel_rfl)),(0,.seq 16 (bM (AV.ms fZ 2 0) (ew mi))),(0,.beq bz (bM (λn_=>(Bx.tree 44 5 ja (((cZ bK)).set js [.str aZ.av,.slice 73 2 aZ.ae.length (bE aZ.ae),.int .i64 aZ.ay,.undef,.slice 107 13 aZ.ak.length (aJ aZ.ak)]) [(js*5+3,jK fZ n_)])) (ew mi)))]
def E5 (aN:amf):Nat->Nat->Int->Int->Int->Int->aE->bk->aK->br->aj->cA->bk->Nat->Option aE
 |0=>λ_ _ _ _ _ _ _ _ _ _ _ _ _=>none
 |n+1=>Q1 aN (E5 aN n) n
def apR {aN} (bn:Tu aN):∀n:Nat,Tt (E5 aN n)
 |0=>λ_ _ _ _ _ _ _ _ _ _ _ _ _ _ h=>nz h
 |n+1=>aFW bn (apR bn n) n
def Q0 (bw:amf) (n:Nat) (js:Nat) (t17 t18:Int) (b0:aE) (bK:br) (aZ:aj) (dH:cA):Option aE:=
 bw js t17 (bl (t18+1)) (aE.mk (ag.mk b0.bg.aw bK) b0.fm) bK (aj.mk aZ.av aZ.ae aZ.ay [] aZ.ak) dH
def KU:=K7 (VQ (cF 87)) agy
def aFV {bw} (cM:KU bw) (n:Nat):Tu (Q0 bw n):=λjs t17 t18 b0 bK aZ dH r h=>ra (cM h) []
def QZ (da:Nat->aE->br->Option aE) (back:amf) (n:Nat) (js:Nat) (t17 t18:Int) (b0:aE) (bK:br) (aZ:aj) (dH:cA):Option aE:=
 if decide (t18<t17) then
 (eZ dH.length t18).bind λx2=>(dH[0+x2]?).bind λu5=>E5 (Q0 back n) n js t17 t18 (u5.ae.length:Int) 0 (aE.mk (ag.mk b0.bg.aw bK) b0.fm) u5 u5.ae bK (aj.mk aZ.av aZ.ae aZ.ay [] aZ.ak) dH (bk.mk [] u5.aG) (0+x2)
 else
 (setAt bK js (aj.mk aZ.av aZ.ae aZ.ay dH aZ.ak)).bind λz2=>da js (aE.mk (ag.mk b0.bg.aw z2) b0.fm) z2
def Tq:=K3 (VQ [1,1,1,1]) azx
def aFU {da} (eW:Tq da) {back} (aS:KU back) (n:Nat):KU (QZ da back n):=λjs t17 t18 b0 bK aZ dH r h=>ie h (λc0 h=>be h λx2 cX h=>be h λu5 uJ h=>ra (apR (aFV aS n) n h) [aI c0,(0,dO cX),(0,eN.ny R3 fZ nY 0 false 3 1 u5.ae uJ (oE u5.aG) (by kernel_rfl) (by kernel_rfl)),(0,eN.zg [0] (oE u5.aG) uJ)]) λc0 h=>be h λz2 mi h=>ra (eW h) [aI c0,(0,bW.gQ eN (r:= [.str aZ.av,.slice 73 2 aZ.ae.length (bE aZ.ae),.int .i64 aZ.ay,.undef,.slice 107 13 aZ.ak.length (aJ aZ.ak)]) bz fZ 3 false 121 2 dH mi (by kernel_rfl)),(0,.beq 0 (bM (λn_=>(Bx.flat 184 [.int .i64 b0.bg.aw,.ms bz 5 0 n_,.int .i64 b0.fm.bh,.int .i64 b0.fm.aG,.int .i64 b0.fm.aO,.int .i64 b0.fm.eJ,.str b0.fm.av,.int .i64 b0.fm.ax,.int .i64 b0.fm.aD.ax,.int .i64 b0.fm.aD.bX,.str b0.fm.aD.bB,.slice 110 6 b0.fm.bc.length (cR b0.fm.bc),.str b0.fm.ar.av,.slice 73 2 b0.fm.ar.ae.length (bE b0.fm.ar.ae),.int .i64 b0.fm.ar.ay,.slice 121 2 b0.fm.ar.af.length (aQ b0.fm.ar.af),.slice 107 13 b0.fm.ar.ak.length (aJ b0.fm.ar.ak)])) (ew mi)))]
def BS (da:Nat->aE->br->Option aE):Nat->Nat->Int->Int->aE->br->aj->cA->Option aE
 |0=>λ_ _ _ _ _ _ _=>none
 |n+1=>QZ da (BS da n) n
def apQ {da} (eW:Tq da):∀n:Nat,KU (BS da n)
 |0=>λ_ _ _ _ _ _ _ _ h=>nz h
 |n+1=>aFU eW (apQ eW n) n
def QY (back:Nat->Int->Int->aE->bN->br->aj->Option aE) (n:Nat) (js:Nat) (t43 t44:Int) (b0:aE) (dj:bN) (bK:br) (aZ:aj):Option aE:=
 if decide (t44<t43) then
 (eZ dj.length t44).bind λx3=>(dj[0+x3]?).bind λx5=>(As n x5 (aE.mk (ag.mk b0.bg.aw bK) b0.fm)).bind λiG=>(eZ dj.length t44).bind λjj=>(dj[0+jj]?).bind λpG=>(setAt dj (0+jj) iG).bind λz22=>back js t43 (bl (t44+1)) (aE.mk (ag.mk b0.bg.aw bK) b0.fm) z22 bK (aj.mk aZ.av aZ.ae aZ.ay aZ.af [])
 else
 (setAt bK js (aj.mk aZ.av aZ.ae aZ.ay aZ.af dj)).bind λz2=>some (aE.mk (ag.mk b0.bg.aw z2) b0.fm)
def Tp:=K7 (VQ (cF 95)) azy
def aFT {back} (aS:Tp back) (n:Nat):Tp (QY back n):=λjs t43 t44 b0 dj bK aZ r h=>ie h (λc0 h=>be h λx3 eY h=>be h λx5 kR h=>be h λiG kg h=>be h λjj nL h=>be h λpG xT h=>be h λz22 vq h=>ra (aS h) [aI c0,(1,dO eY),(0,eD.row kR),(10,.call (aqY n kg) [(0,9000),(1,jR)] [(bz,Bk)]),(0,dO nL),(0,eD.uE 0 (fk iG) xT vq (by kernel_rfl)),(2,.seq 42 (bM (AV.ms lK 13 0) (ew vq))),(0,.beq bz (bM (λn_=>(Bx.tree 44 5 ja (((cZ bK)).set js [.str aZ.av,.slice 73 2 aZ.ae.length (bE aZ.ae),.int .i64 aZ.ay,.slice 121 2 aZ.af.length (aQ aZ.af),.undef]) [(js*5+4,.ms lK 13 0 n_)])) (ew vq)))]) λc0 h=>be h λz2 mi h=>rr h [aI c0,(0,bW.gQ eD (r:= [.str aZ.av,.slice 73 2 aZ.ae.length (bE aZ.ae),.int .i64 aZ.ay,.slice 121 2 aZ.af.length (aQ aZ.af),.undef]) bz lK 4 false 107 13 dj mi (by kernel_rfl)),(0,.beq 0 (bM (λn_=>(Bx.flat 184 [.int .i64 b0.bg.aw,.ms bz 5 0 n_,.int .i64 b0.fm.bh,.int .i64 b0.fm.aG,.int .i64 b0.fm.aO,.int .i64 b0.fm.eJ,.str b0.fm.av,.int .i64 b0.fm.ax,.int .i64 b0.fm.aD.ax,.int .i64 b0.fm.aD.bX,.str b0.fm.aD.bB,.slice 110 6 b0.fm.bc.length (cR b0.fm.bc),.str b0.fm.ar.av,.slice 73 2 b0.fm.ar.ae.length (bE b0.fm.ar.ae),.int .i64 b0.fm.ar.ay,.slice 121 2 b0.fm.ar.af.length (aQ b0.fm.ar.af),.slice 107 13 b0.fm.ar.ak.length (aJ b0.fm.ar.ak)])) (ew mi)))]
def E4:Nat->Nat->Int->Int->aE->bN->br->aj->Option aE
 |0=>λ_ _ _ _ _ _ _=>none
 |n+1=>QY (E4 n) n
def apP:∀n:Nat,Tp (E4 n)
 |0=>λ_ _ _ _ _ _ _ _ h=>nz h
 |n+1=>aFT (apP n) n
def QX (n:Nat) (js:Nat) (b0:aE) (bK:br):Option aE:=
 (bK[js]?).bind λu5=>E4 n js (u5.ak.length:Int) 0 (aE.mk (ag.mk b0.bg.aw bK) b0.fm) u5.ak bK (aj.mk u5.av u5.ae u5.ay u5.af [])
def aFS (n:Nat):Tq (QX n):=λjs b0 bK r h=>be h λu5 uJ h=>ra (apP n h) [(3,bW.ny eD bz lK 4 false 107 13 u5.ak uJ [.str u5.av,.slice 73 2 u5.ae.length (bE u5.ae),.int .i64 u5.ay,.slice 121 2 u5.af.length (aQ u5.af),.undef] (by kernel_rfl) (by kernel_rfl))]
def aeg (n:Nat) (g0:aE):Option aE:=
 (B7 n g0).bind λx3=>(g0.bg.ai[x3]?).bind λeC=>BS (QX n) n x3 (eC.af.length:Int) 0 g0 g0.bg.ai (aj.mk eC.av eC.ae eC.ay [] eC.ak) eC.af
def aFR (n:Nat):K1 (VQ []) mc (aeg n):=λg0 r h=>be h λx3 eY h=>be h λeC U7 h=>ra (apQ (aFS n) n h) [(2,.call (LD n eY) [(0,0),(bz,bz)] []),(6,bW.ny eN bz fZ 3 false 121 2 eC.af U7 [.str eC.av,.slice 73 2 eC.ae.length (bE eC.ae),.int .i64 eC.ay,.undef,.slice 107 13 eC.ak.length (aJ eC.ak)] (by kernel_rfl) (by kernel_rfl))]
def adm:=aeg
def axS (n:Nat):K1 (Cx E0 183 aoS aht) mc (adm n):=λ_ _ h=>ca (X:=x183) (aFR n h)
def x149:=fx E0 Tryz.f149 [0,bz]
def A149:=Ax x149 pL pA
def aeJ (n:Nat) (g0:aE):Option (Bool×aE):=
 (B7 n g0).bind λx3=>(g0.bg.ai[x3]?).bind λeC=>(setAt g0.bg.ai x3 eC).bind λqG=>(N6 n (aE.mk (ag.mk g0.bg.aw qG) g0.fm) g0.fm.aO).bind λlh=>if !lh then
 (setAt g0.bg.ai x3 eC).bind λz26=>some (false,(aE.mk (ag.mk g0.bg.aw z26) g0.fm))
 else
 (eZ eC.ae.length g0.fm.aO).bind λx32=>(eC.ae[0+x32]?).bind λx35=>(Vz n g0.fm.aD x35.ax).bind λyC=>if !yC then
 (setAt g0.bg.ai x3 eC).bind λtf=>some (false,(aE.mk (ag.mk g0.bg.aw tf) g0.fm))
 else
 (setAt g0.bg.ai x3 eC).bind λtf=>(ado n (aE.mk (ag.mk g0.bg.aw tf) g0.fm)).bind λH4=>if H4 then
 (setAt g0.bg.ai x3 eC).bind λz49=>some (false,(aE.mk (ag.mk g0.bg.aw z49) g0.fm))
 else
 (adn n eC.ae g0.fm.aO (bl (g0.fm.aO+1))).bind λx56=>(setAt g0.bg.ai x3 (aj.mk eC.av x56.2 eC.ay eC.af eC.ak)).bind λz63=>(adm n (aE.mk (ag.mk g0.bg.aw z63) g0.fm)).bind λHy=>some (true,Hy)
def aHg (n:Nat):K1 (A149 []) mc (aeJ n):=λg0 r h=>be h λx3 eY h=>be h λeC U7 h=>be h λqG nj h=>be h λlh pd h=>let zA:SE:=[(1,.ord [0,2,3,4,5,6,1,7,8]),(6,.call (LD n eY) [(0,0),(bz,bz)] []),(2,bW.ny eL bz ic 1 false 73 2 eC.ae U7 [.str eC.av,.undef,.int .i64 eC.ay,.slice 121 2 eC.af.length (aQ eC.af),.slice 107 13 eC.ak.length (aJ eC.ak)] (by kernel_rfl) (by kernel_rfl)),(2,.Am (gj.ayx (Xp n pd) ((show _=([.ju [.int .i64 g0.bg.aw,.sl 0 44 5 qG.length (cZ qG),.int .i64 g0.fm.bh,.int .i64 g0.fm.aG,.int .i64 g0.fm.aO,.int .i64 g0.fm.eJ,.str g0.fm.av,.int .i64 g0.fm.ax,.int .i64 g0.fm.aD.ax,.int .i64 g0.fm.aD.bX,.str g0.fm.aD.bB,.slice 110 6 g0.fm.bc.length (cR g0.fm.bc),.str g0.fm.ar.av,.slice 73 2 g0.fm.ar.ae.length (bE g0.fm.ar.ae),.int .i64 g0.fm.ar.ay,.slice 121 2 g0.fm.ar.af.length (aQ g0.fm.ar.af),.slice 107 13 g0.fm.ar.ak.length (aJ g0.fm.ar.ak)],.int .i64 g0.fm.aO]:List AV) by kernel_rfl).trans (bM (λn_=>([.ju [.int .i64 g0.bg.aw,.sl 0 44 5 n_ (cZ qG),.int .i64 g0.fm.bh,.int .i64 g0.fm.aG,.int .i64 g0.fm.aO,.int .i64 g0.fm.eJ,.str g0.fm.av,.int .i64 g0.fm.ax,.int .i64 g0.fm.aD.ax,.int .i64 g0.fm.aD.bX,.str g0.fm.aD.bB,.slice 110 6 g0.fm.bc.length (cR g0.fm.bc),.str g0.fm.ar.av,.slice 73 2 g0.fm.ar.ae.length (bE g0.fm.ar.ae),.int .i64 g0.fm.ar.ay,.slice 121 2 g0.fm.ar.af.length (aQ g0.fm.ar.af),.slice 107 13 g0.fm.ar.ak.length (aJ g0.fm.ar.ak)],.int .i64 g0.fm.aO]:List AV)) (ew nj).symm))) [bW.gQ eL (r:= [.str eC.av,.undef,.int .i64 eC.ay,.slice 121 2 eC.af.length (aQ eC.af),.slice 107 13 eC.ak.length (aJ eC.ak)]) bz ic 1 false 73 2 eC.ae nj (by kernel_rfl),bW.frzN false bz qG (ew nj),.fX 0 (Q:= []) (n:=0) rfl] trivial [] [])];ie h (λc0 h=>be h λz26 abp h=>bH h zA [aI c0,(5,bW.gQ eL (r:= [.str eC.av,.undef,.int .i64 eC.ay,.slice 121 2 eC.af.length (aQ eC.af),.slice 107 13 eC.ak.length (aJ eC.ak)]) bz ic 1 false 73 2 eC.ae abp (by kernel_rfl)),(0,.beq 0 (bM (λn_=>(Bx.flat 184 [.int .i64 g0.bg.aw,.ms bz 5 0 n_,.int .i64 g0.fm.bh,.int .i64 g0.fm.aG,.int .i64 g0.fm.aO,.int .i64 g0.fm.eJ,.str g0.fm.av,.int .i64 g0.fm.ax,.int .i64 g0.fm.aD.ax,.int .i64 g0.fm.aD.bX,.str g0.fm.aD.bB,.slice 110 6 g0.fm.bc.length (cR g0.fm.bc),.str g0.fm.ar.av,.slice 73 2 g0.fm.ar.ae.length (bE g0.fm.ar.ae),.int .i64 g0.fm.ar.ay,.slice 121 2 g0.fm.ar.af.length (aQ g0.fm.ar.af),.slice 107 13 g0.fm.ar.ak.length (aJ g0.fm.ar.ak)])) (ew abp)))]) λc0 h=>be h λx32 hx32 h=>be h λx35 abt h=>be h λyC Nz h=>let zB:SE:=dU zA [aI c0,(11,dO hx32),(1,eL.row abt),oZ (alg n Nz)];ie h (λc1 h=>be h λtf qi h=>bH h zB [aI c1,(4,bW.gQ eL (r:= [.str eC.av,.undef,.int .i64 eC.ay,.slice 121 2 eC.af.length (aQ eC.af),.slice 107 13 eC.ak.length (aJ eC.ak)]) bz ic 1 false 73 2 eC.ae qi (by kernel_rfl)),(0,.beq 0 (bM (λn_=>(Bx.flat 184 [.int .i64 g0.bg.aw,.ms bz 5 0 n_,.int .i64 g0.fm.bh,.int .i64 g0.fm.aG,.int .i64 g0.fm.aO,.int .i64 g0.fm.eJ,.str g0.fm.av,.int .i64 g0.fm.ax,.int .i64 g0.fm.aD.ax,.int .i64 g0.fm.aD.bX,.str g0.fm.aD.bB,.slice 110 6 g0.fm.bc.length (cR g0.fm.bc),.str g0.fm.ar.av,.slice 73 2 g0.fm.ar.ae.length (bE g0.fm.ar.ae),.int .i64 g0.fm.ar.ay,.slice 121 2 g0.fm.ar.af.length (aQ g0.fm.ar.af),.slice 107 13 g0.fm.ar.ak.length (aJ g0.fm.ar.ak)])) (ew qi)))]) λc1 h=>be h λtf qi h=>be h λH4 atV h=>let zC:SE:=dU zB [aI c1,(3,.Am (gj.ayx (axU n atV) ((show _=([.ju [.int .i64 g0.bg.aw,.sl 0 44 5 tf.length (cZ tf),.int .i64 g0.fm.bh,.int .i64 g0.fm.aG,.int .i64 g0.fm.aO,.int .i64 g0.fm.eJ,.str g0.fm.av,.int .i64 g0.fm.ax,.int .i64 g0.fm.aD.ax,.int .i64 g0.fm.aD.bX,.str g0.fm.aD.bB,.slice 110 6 g0.fm.bc.length (cR g0.fm.bc),.str g0.fm.ar.av,.slice 73 2 g0.fm.ar.ae.length (bE g0.fm.ar.ae),.int .i64 g0.fm.ar.ay,.slice 121 2 g0.fm.ar.af.length (aQ g0.fm.ar.af),.slice 107 13 g0.fm.ar.ak.length (aJ g0.fm.ar.ak)]]:List AV) by kernel_rfl).trans (bM (λn_=>([.ju [.int .i64 g0.bg.aw,.sl 0 44 5 n_ (cZ tf),.int .i64 g0.fm.bh,.int .i64 g0.fm.aG,.int .i64 g0.fm.aO,.int .i64 g0.fm.eJ,.str g0.fm.av,.int .i64 g0.fm.ax,.int .i64 g0.fm.aD.ax,.int .i64 g0.fm.aD.bX,.str g0.fm.aD.bB,.slice 110 6 g0.fm.bc.length (cR g0.fm.bc),.str g0.fm.ar.av,.slice 73 2 g0.fm.ar.ae.length (bE g0.fm.ar.ae),.int .i64 g0.fm.ar.ay,.slice 121 2 g0.fm.ar.af.length (aQ g0.fm.ar.af),.slice 107 13 g0.fm.ar.ak.length (aJ g0.fm.ar.ak)]]:List AV)) (ew qi).symm))) [bW.gQ eL (r:= [.str eC.av,.undef,.int .i64 eC.ay,.slice 121 2 eC.af.length (aQ eC.af),.slice 107 13 eC.ak.length (aJ eC.ak)]) bz ic 1 false 73 2 eC.ae qi (by kernel_rfl),bW.frzN false bz tf (ew qi),.fX 0 (Q:= []) (n:=0) rfl] trivial [] [])];ie h (λc2 bI=>by subst c2;exact (be bI λz49 abn bI=>bH bI zC [(2,bW.gQ eL (r:= [.str eC.av,.undef,.int .i64 eC.ay,.slice 121 2 eC.af.length (aQ eC.af),.slice 107 13 eC.ak.length (aJ eC.ak)]) bz ic 1 false 73 2 eC.ae abn (by kernel_rfl)),(0,.beq 0 (bM (λn_=>(Bx.flat 184 [.int .i64 g0.bg.aw,.ms bz 5 0 n_,.int .i64 g0.fm.bh,.int .i64 g0.fm.aG,.int .i64 g0.fm.aO,.int .i64 g0.fm.eJ,.str g0.fm.av,.int .i64 g0.fm.ax,.int .i64 g0.fm.aD.ax,.int .i64 g0.fm.aD.bX,.str g0.fm.aD.bB,.slice 110 6 g0.fm.bc.length (cR g0.fm.bc),.str g0.fm.ar.av,.slice 73 2 g0.fm.ar.ae.length (bE g0.fm.ar.ae),.int .i64 g0.fm.ar.ay,.slice 121 2 g0.fm.ar.af.length (aQ g0.fm.ar.af),.slice 107 13 g0.fm.ar.ak.length (aJ g0.fm.ar.ak)])) (ew abn)))])) λc2 bI=>by subst c2;exact (be bI λx56 hx56 bI=>be bI λz63 hz63 bI=>be bI λHy U4 bI=>bH bI zC [(9,.call (axT n hx56) [(ic,0)] []),(2,bW.xV 1 [.str eC.av,.undef,.int .i64 eC.ay,.slice 121 2 eC.af.length (aQ eC.af),.slice 107 13 eC.ak.length (aJ eC.ak)] [.str eC.av,.undef,.int .i64 eC.ay,.slice 121 2 eC.af.length (aQ eC.af),.slice 107 13 eC.ak.length (aJ eC.ak)] U7 (by kernel_rfl)),(1,bW.gQ eL (r:= [.str eC.av,.undef,.int .i64 eC.ay,.slice 121 2 eC.af.length (aQ eC.af),.slice 107 13 eC.ak.length (aJ eC.ak)]) bz ic 1 false 73 2 x56.2 hz63 (by kernel_rfl)),(0,.beq 0 (bM (λn_=>(Bx.flat 184 [.int .i64 g0.bg.aw,.ms bz 5 0 n_,.int .i64 g0.fm.bh,.int .i64 g0.fm.aG,.int .i64 g0.fm.aO,.int .i64 g0.fm.eJ,.str g0.fm.av,.int .i64 g0.fm.ax,.int .i64 g0.fm.aD.ax,.int .i64 g0.fm.aD.bX,.str g0.fm.aD.bB,.slice 110 6 g0.fm.bc.length (cR g0.fm.bc),.str g0.fm.ar.av,.slice 73 2 g0.fm.ar.ae.length (bE g0.fm.ar.ae),.int .i64 g0.fm.ar.ay,.slice 121 2 g0.fm.ar.af.length (aQ g0.fm.ar.af),.slice 107 13 g0.fm.ar.ak.length (aJ g0.fm.ar.ak)])) (ew hz63))),(0,.call (axS n U4) [(0,0),(bz,bz)] [])])
def adC:=aeJ
def aKi (n:Nat):K1 (Cx E0 149 pL pA) mc (adC n):=λ_ _ h=>ca (X:=x149) (aHg n h)
def x150:=fx E0 Tryz.f150 [0,bz]
def A150:=Ax x150 pL pA
def aeI (n:Nat) (g0:aE):Option (Bool×aE):=
 (B7 n g0).bind λx3=>(N6 n g0 g0.fm.aO).bind λgP=>if !gP then
 some (false,g0)
 else
 (N6 n g0 g0.fm.eJ).bind λnc=>if !nc then
 some (false,g0)
 else
 (g0.bg.ai[x3]?).bind λfB=>(eZ fB.ae.length g0.fm.aO).bind λyC=>(fB.ae[0+yC]?).bind λrW=>(adn n fB.ae g0.fm.aO (bl (g0.fm.aO+1))).bind λx59=>(avL n x59.2 g0.fm.eJ [rW]).bind λx76=>(setAt g0.bg.ai x3 (aj.mk fB.av x76.2 fB.ay fB.af fB.ak)).bind λz83=>(adm n (aE.mk (ag.mk g0.bg.aw z83) g0.fm)).bind λx84=>some (true,x84)
def aHf (n:Nat):K1 (A150 []) mc (aeI n):=λg0 r h=>be h λx3 eY h=>be h λgP jC h=>let zA:SE:=[(2,.call (LD n eY) [(0,0),(bz,bz)] []),(7,.Am (Xp n jC) [bW.tfr false bz g0.bg.ai,.fX 0 (Q:= []) (n:=0) rfl] trivial [] [])];ie h (λc0 h=>bH h zA [aI c0]) λc0 h=>be h λnc pc h=>let zB:SE:=dU zA [aI c0,(7,.Am (Xp n pc) [bW.tfr false bz g0.bg.ai,.fX 0 (Q:= []) (n:=0) rfl] trivial [] [])];ie h (λc1 h=>bH h zB [aI c1]) λc1 h=>be h λfB U6 h=>be h λyC Nz h=>be h λrW Bm h=>be h λx59 hx59 h=>be h λx76 hx76 h=>be h λz83 hz83 h=>be h λx84 hx84 h=>bH h zB [aI c1,(1,bW.ny eL bz ic 1 false 73 2 fB.ae U6 [.str fB.av,.undef,.int .i64 fB.ay,.slice 121 2 fB.af.length (aQ fB.af),.slice 107 13 fB.ak.length (aJ fB.ak)] (by kernel_rfl) (by kernel_rfl)),(9,dO Nz),(0,eL.row Bm),(18,.call (axT n hx59) [(ic,0)] []),(2,bW.xV 1 [.str fB.av,.undef,.int .i64 fB.ay,.slice 121 2 fB.af.length (aQ fB.af),.slice 107 13 fB.ak.length (aJ fB.ak)] [.str fB.av,.undef,.int .i64 fB.ay,.slice 121 2 fB.af.length (aQ fB.af),.slice 107 13 fB.ak.length (aJ fB.ak)] U6 (by kernel_rfl)),(12,.call (aJU n hx76) [(66,2),(ic,iu)] []),(2,bW.xV 1 [.str fB.av,.undef,.int .i64 fB.ay,.slice 121 2 fB.af.length (aQ fB.af),.slice 107 13 fB.ak.length (aJ fB.ak)] [.str fB.av,.undef,.int .i64 fB.ay,.slice 121 2 fB.af.length (aQ fB.af),.slice 107 13 fB.ak.length (aJ fB.ak)] U6 (by kernel_rfl)),(1,bW.gQ eL (r:= [.str fB.av,.undef,.int .i64 fB.ay,.slice 121 2 fB.af.length (aQ fB.af),.slice 107 13 fB.ak.length (aJ fB.ak)]) bz ic 1 false 73 2 x76.2 hz83 (by kernel_rfl)),(0,.beq 0 (bM (λn_=>(Bx.flat 184 [.int .i64 g0.bg.aw,.ms bz 5 0 n_,.int .i64 g0.fm.bh,.int .i64 g0.fm.aG,.int .i64 g0.fm.aO,.int .i64 g0.fm.eJ,.str g0.fm.av,.int .i64 g0.fm.ax,.int .i64 g0.fm.aD.ax,.int .i64 g0.fm.aD.bX,.str g0.fm.aD.bB,.slice 110 6 g0.fm.bc.length (cR g0.fm.bc),.str g0.fm.ar.av,.slice 73 2 g0.fm.ar.ae.length (bE g0.fm.ar.ae),.int .i64 g0.fm.ar.ay,.slice 121 2 g0.fm.ar.af.length (aQ g0.fm.ar.af),.slice 107 13 g0.fm.ar.ak.length (aJ g0.fm.ar.ak)])) (ew hz83))),(0,.call (axS n hx84) [(0,0),(bz,bz)] [])]
def adB:=aeI
def aKh (n:Nat):K1 (Cx E0 150 pL pA) mc (adB n):=λ_ _ h=>ca (X:=x150) (aHf n h)
def x151:=fx E0 Tryz.f151 [0,bz]
def A151:=Ax x151 pL pA
def aeH (n:Nat) (g0:aE):Option (Bool×aE):=
 (B7 n g0).bind λx3=>(g0.bg.ai[x3]?).bind λu6=>if decide (g0.fm.aO<0) then
 (setAt g0.bg.ai x3 u6).bind λqG=>some (false,(aE.mk (ag.mk g0.bg.aw qG) g0.fm))
 else
 if !decide (g0.fm.aO<(u6.ae.length:Int)) then
 (setAt g0.bg.ai x3 u6).bind λz28=>some (false,(aE.mk (ag.mk g0.bg.aw z28) g0.fm))
 else
 (eZ u6.ae.length g0.fm.aO).bind λDY=>(u6.ae[0+DY]?).bind λx44=>(setAt u6.ae (0+DY) (cJ.mk g0.fm.av x44.ax)).bind λz45=>(setAt g0.bg.ai x3 (aj.mk u6.av z45 u6.ay u6.af u6.ak)).bind λz48=>some (true,(aE.mk (ag.mk g0.bg.aw z48) g0.fm))
def aHe (n:Nat):K1 (A151 []) mc (aeH n):=λg0 r h=>be h λx3 eY h=>be h λu6 yO h=>let zA:SE:=[(2,.call (LD n eY) [(0,0),(bz,bz)] []),(1,bW.ny eL bz ic 1 false 73 2 u6.ae yO [.str u6.av,.undef,.int .i64 u6.ay,.slice 121 2 u6.af.length (aQ u6.af),.slice 107 13 u6.ak.length (aJ u6.ak)] (by kernel_rfl) (by kernel_rfl))];ie h (λc0 h=>be h λqG nj h=>bH h zA [cq c0,(3,bW.gQ eL (r:= [.str u6.av,.undef,.int .i64 u6.ay,.slice 121 2 u6.af.length (aQ u6.af),.slice 107 13 u6.ak.length (aJ u6.ak)]) bz ic 1 false 73 2 u6.ae nj (by kernel_rfl)),(0,.beq 0 (bM (λn_=>(Bx.flat 184 [.int .i64 g0.bg.aw,.ms bz 5 0 n_,.int .i64 g0.fm.bh,.int .i64 g0.fm.aG,.int .i64 g0.fm.aO,.int .i64 g0.fm.eJ,.str g0.fm.av,.int .i64 g0.fm.ax,.int .i64 g0.fm.aD.ax,.int .i64 g0.fm.aD.bX,.str g0.fm.aD.bB,.slice 110 6 g0.fm.bc.length (cR g0.fm.bc),.str g0.fm.ar.av,.slice 73 2 g0.fm.ar.ae.length (bE g0.fm.ar.ae),.int .i64 g0.fm.ar.ay,.slice 121 2 g0.fm.ar.af.length (aQ g0.fm.ar.af),.slice 107 13 g0.fm.ar.ak.length (aJ g0.fm.ar.ak)])) (ew nj)))]) λc0 h=>ie h (λc1 h=>be h λz28 wv h=>bH h zA [cq c0,(11,eb c1),(2,bW.gQ eL (r:= [.str u6.av,.undef,.int .i64 u6.ay,.slice 121 2 u6.af.length (aQ u6.af),.slice 107 13 u6.ak.length (aJ u6.ak)]) bz ic 1 false 73 2 u6.ae wv (by kernel_rfl)),(0,.beq 0 (bM (λn_=>(Bx.flat 184 [.int .i64 g0.bg.aw,.ms bz 5 0 n_,.int .i64 g0.fm.bh,.int .i64 g0.fm.aG,.int .i64 g0.fm.aO,.int .i64 g0.fm.eJ,.str g0.fm.av,.int .i64 g0.fm.ax,.int .i64 g0.fm.aD.ax,.int .i64 g0.fm.aD.bX,.str g0.fm.aD.bB,.slice 110 6 g0.fm.bc.length (cR g0.fm.bc),.str g0.fm.ar.av,.slice 73 2 g0.fm.ar.ae.length (bE g0.fm.ar.ae),.int .i64 g0.fm.ar.ay,.slice 121 2 g0.fm.ar.af.length (aQ g0.fm.ar.af),.slice 107 13 g0.fm.ar.ak.length (aJ g0.fm.ar.ak)])) (ew wv)))]) λc1 h=>be h λDY abr h=>be h λx44 akL h=>be h λz45 hz45 h=>be h λz48 hz48 h=>bH h zA [cq c0,(11,eb c1),(15,dO abr),(1,eL.uE 0 [.str g0.fm.av] akL hz45 (by kernel_rfl)),(1,.beq bz (bM (λn_=>(Bx.tree 44 5 ja (((cZ g0.bg.ai)).set x3 [.str u6.av,.undef,.int .i64 u6.ay,.slice 121 2 u6.af.length (aQ u6.af),.slice 107 13 u6.ak.length (aJ u6.ak)]) [(x3*5+1,jK ic n_)])) (ew hz45))),(0,bW.gQ eL (r:= [.str u6.av,.undef,.int .i64 u6.ay,.slice 121 2 u6.af.length (aQ u6.af),.slice 107 13 u6.ak.length (aJ u6.ak)]) bz ic 1 false 73 2 z45 hz48 (by kernel_rfl)),(0,.beq 0 (bM (λn_=>(Bx.flat 184 [.int .i64 g0.bg.aw,.ms bz 5 0 n_,.int .i64 g0.fm.bh,.int .i64 g0.fm.aG,.int .i64 g0.fm.aO,.int .i64 g0.fm.eJ,.str g0.fm.av,.int .i64 g0.fm.ax,.int .i64 g0.fm.aD.ax,.int .i64 g0.fm.aD.bX,.str g0.fm.aD.bB,.slice 110 6 g0.fm.bc.length (cR g0.fm.bc),.str g0.fm.ar.av,.slice 73 2 g0.fm.ar.ae.length (bE g0.fm.ar.ae),.int .i64 g0.fm.ar.ay,.slice 121 2 g0.fm.ar.af.length (aQ g0.fm.ar.af),.slice 107 13 g0.fm.ar.ak.length (aJ g0.fm.ar.ak)])) (ew hz48)))]
def adA:=aeH
def aKg (n:Nat):K1 (Cx E0 151 pL pA) mc (adA n):=λ_ _ h=>ca (X:=x151) (aHe n h)
def x152:=fx E0 Tryz.f152 [0,bz]
def A152:=Ax x152 pL pA
def aeG (n:Nat) (g0:aE):Option (Bool×aE):=
 (B7 n g0).bind λx3=>(g0.bg.ai[x3]?).bind λeC=>(setAt g0.bg.ai x3 (aj.mk g0.fm.av eC.ae eC.ay eC.af eC.ak)).bind λz14=>some (true,(aE.mk (ag.mk g0.bg.aw z14) g0.fm))
def aHd (n:Nat):K1 (A152 []) mc (aeG n):=λg0 r h=>be h λx3 eY h=>be h λeC U7 h=>be h λz14 hz14 h=>rr h [(1,.ord [0,2,3,4,5,6,1,7,8,9]),(6,.call (LD n eY) [(0,0),(bz,bz)] []),(2,bW.uE 0 [.str g0.fm.av] U7 hz14 (by kernel_rfl)),(1,.beq 0 (bM (λn_=>(Bx.flat 184 [.int .i64 g0.bg.aw,.ms bz 5 0 n_,.int .i64 g0.fm.bh,.int .i64 g0.fm.aG,.int .i64 g0.fm.aO,.int .i64 g0.fm.eJ,.str g0.fm.av,.int .i64 g0.fm.ax,.int .i64 g0.fm.aD.ax,.int .i64 g0.fm.aD.bX,.str g0.fm.aD.bB,.slice 110 6 g0.fm.bc.length (cR g0.fm.bc),.str g0.fm.ar.av,.slice 73 2 g0.fm.ar.ae.length (bE g0.fm.ar.ae),.int .i64 g0.fm.ar.ay,.slice 121 2 g0.fm.ar.af.length (aQ g0.fm.ar.af),.slice 107 13 g0.fm.ar.ak.length (aJ g0.fm.ar.ak)])) (ew hz14)))]
def adz:=aeG
def aKf (n:Nat):K1 (Cx E0 152 pL pA) mc (adz n):=λ_ _ h=>ca (X:=x152) (aHd n h)
def ahv (r:(Bool×aE)):List (Nat×Bx):= [(0,.flat 184 [.int .i64 r.2.bg.aw,.ms iu 5 0 r.2.bg.ai.length,.int .i64 r.2.fm.bh,.int .i64 r.2.fm.aG,.int .i64 r.2.fm.aO,.int .i64 r.2.fm.eJ,.str r.2.fm.av,.int .i64 r.2.fm.ax,.int .i64 r.2.fm.aD.ax,.int .i64 r.2.fm.aD.bX,.str r.2.fm.aD.bB,.slice 110 6 r.2.fm.bc.length (cR r.2.fm.bc),.str r.2.fm.ar.av,.slice 73 2 r.2.fm.ar.ae.length (bE r.2.fm.ar.ae),.int .i64 r.2.fm.ar.ay,.slice 121 2 r.2.fm.ar.af.length (aQ r.2.fm.ar.af),.slice 107 13 r.2.fm.ar.ak.length (aJ r.2.fm.ar.ak)]),(iu,.tree 44 5 ja (cZ r.2.bg.ai) [])]
def x153:=fx E0 Tryz.f153 [0,iu]
def A153:=Ax x153 pL ahv
def agM (g0:aE):LS:=⟨[(0,.loc 0 0)],[(0,.flat 184 [.int .i64 g0.bg.aw,.ms iu 5 0 g0.bg.ai.length,.int .i64 g0.fm.bh,.int .i64 g0.fm.aG,.int .i64 g0.fm.aO,.int .i64 g0.fm.eJ,.str g0.fm.av,.int .i64 g0.fm.ax,.int .i64 g0.fm.aD.ax,.int .i64 g0.fm.aD.bX,.str g0.fm.aD.bB,.slice 110 6 g0.fm.bc.length (cR g0.fm.bc),.str g0.fm.ar.av,.slice 73 2 g0.fm.ar.ae.length (bE g0.fm.ar.ae),.int .i64 g0.fm.ar.ay,.slice 121 2 g0.fm.ar.af.length (aQ g0.fm.ar.af),.slice 107 13 g0.fm.ar.ak.length (aJ g0.fm.ar.ak)]),(iu,.tree 44 5 ja (cZ g0.bg.ai) [])]⟩
def aeF (n:Nat) (g0:aE):Option (Bool×aE):=
 (F96 n g0.fm.ar).bind λeh=>(app g0.bg.ai [eh]).bind λfg=>(setAt fg g0.bg.ai.length eh).bind λz22=>some (true,(aE.mk (ag.mk g0.bg.aw z22) g0.fm))
def aHc (n:Nat):K1 (A153 []) agM (aeF n):=λg0 r h=>be h λeh iz h=>be h λfg iM h=>be h λz22 vq h=>rr h [(12,.call (ev96 n iz) [] [(330140001,r9),(330140003,201003),(330140004,201004)]),(1,bW.Ib iM),(4,.beq iu (bM (λq_=>Bx.tree 44 5 ja q_ [(g0.bg.ai.length*5+1,jK 330140001 eh.ae.length),(g0.bg.ai.length*5+3,.ms 330140003 2 0 eh.af.length),(g0.bg.ai.length*5+4,.ms 330140004 13 0 eh.ak.length)]) (bW.apS (r:= (iH eh)) iM))),(0,bW.jr eL (r:= (iH eh)) iu 330140001 1 false 73 2 eh.ae vq [.str eh.av,.slice 73 2 eh.ae.length (bE eh.ae),.int .i64 eh.ay,.undef,.undef] (by kernel_rfl)),(0,bW.jr eN (r:= [.str eh.av,.slice 73 2 eh.ae.length (bE eh.ae),.int .i64 eh.ay,.undef,.undef]) iu 330140003 3 false 121 2 eh.af vq [.str eh.av,.slice 73 2 eh.ae.length (bE eh.ae),.int .i64 eh.ay,.slice 121 2 eh.af.length (aQ eh.af),.undef] (by kernel_rfl)),(0,bW.gQ eD (r:= [.str eh.av,.slice 73 2 eh.ae.length (bE eh.ae),.int .i64 eh.ay,.slice 121 2 eh.af.length (aQ eh.af),.undef]) iu 330140004 4 false 107 13 eh.ak vq (by kernel_rfl)),(1,.beq 0 (bM (λn_=>(Bx.flat 184 [.int .i64 g0.bg.aw,.ms iu 5 0 n_,.int .i64 g0.fm.bh,.int .i64 g0.fm.aG,.int .i64 g0.fm.aO,.int .i64 g0.fm.eJ,.str g0.fm.av,.int .i64 g0.fm.ax,.int .i64 g0.fm.aD.ax,.int .i64 g0.fm.aD.bX,.str g0.fm.aD.bB,.slice 110 6 g0.fm.bc.length (cR g0.fm.bc),.str g0.fm.ar.av,.slice 73 2 g0.fm.ar.ae.length (bE g0.fm.ar.ae),.int .i64 g0.fm.ar.ay,.slice 121 2 g0.fm.ar.af.length (aQ g0.fm.ar.af),.slice 107 13 g0.fm.ar.ak.length (aJ g0.fm.ar.ak)])) (((bW.apL iM).trans (ew vq)))))]
def ady:=aeF
def aKe (n:Nat):K1 (Cx E0 153 pL ahv) agM (ady n):=λ_ _ h=>ca (X:=x153) (aHc n h)
def x154:=fx E0 Tryz.f154 [0,bz]
def Hw:=Ax x154 pL pA
def aAj (i3 t16 t17 t24 t25:Int) (b0:aE) (bK:br) (aZ:aj) (dS:Nat) (dj:bN) (iy:cO) (dH:cA):LS:=⟨[(0,.loc 0 0),(3,cg i3),(15,.ms bz 5 0 bK.length),(16,cg t16),(17,cg t17),(23,jK fZ dH.length),(24,cg t24),(25,cg t25)],[(0,.flat 184 [.int .i64 b0.bg.aw,.ms bz 5 0 bK.length,.int .i64 b0.fm.bh,.int .i64 b0.fm.aG,.int .i64 b0.fm.aO,.int .i64 b0.fm.eJ,.str b0.fm.av,.int .i64 b0.fm.ax,.int .i64 b0.fm.aD.ax,.int .i64 b0.fm.aD.bX,.str b0.fm.aD.bB,.slice 110 6 b0.fm.bc.length (cR b0.fm.bc),.str b0.fm.ar.av,.slice 73 2 b0.fm.ar.ae.length (bE b0.fm.ar.ae),.int .i64 b0.fm.ar.ay,.slice 121 2 b0.fm.ar.af.length (aQ b0.fm.ar.af),.slice 107 13 b0.fm.ar.ak.length (aJ b0.fm.ar.ak)]),(bz,.tree 44 5 ja (((cZ bK)).set dS (iH aZ)) [(dS*5+4,.ms lK 13 0 dj.length),(dS*5+3,jK fZ dH.length),(dS*5+1,jK ic iy.length)]),(ic,.rows false 73 2 (bE iy)),(fZ,.tree 121 2 zk (aQ dH) []),(lK,.rows false 107 13 (aJ dj))]⟩
def agL (t16 t17:Int) (b0:aE) (bK:br):LS:=⟨[(0,.loc 0 0),(15,.ms bz 5 0 bK.length),(16,cg t16),(17,cg t17)],[(0,.flat 184 [.int .i64 b0.bg.aw,.ms bz 5 0 bK.length,.int .i64 b0.fm.bh,.int .i64 b0.fm.aG,.int .i64 b0.fm.aO,.int .i64 b0.fm.eJ,.str b0.fm.av,.int .i64 b0.fm.ax,.int .i64 b0.fm.aD.ax,.int .i64 b0.fm.aD.bX,.str b0.fm.aD.bB,.slice 110 6 b0.fm.bc.length (cR b0.fm.bc),.str b0.fm.ar.av,.slice 73 2 b0.fm.ar.ae.length (bE b0.fm.ar.ae),.int .i64 b0.fm.ar.ay,.slice 121 2 b0.fm.ar.af.length (aQ b0.fm.ar.af),.slice 107 13 b0.fm.ar.ak.length (aJ b0.fm.ar.ak)]),(bz,.tree 44 5 ja (cZ bK) [])]⟩
def aAi (t74 t75 t81 t82:Int) (b0:aE) (b8:aj) (iy:cO) (dj:bN) (bK:br) (aZ:aj) (dS:Nat) (dH:cA):LS:=⟨[(0,.loc 0 0),(8,.loc 8 0),(73,.ms bz 5 0 bK.length),(74,cg t74),(75,cg t75),(80,jK fZ dH.length),(81,cg t81),(82,cg t82)],[(0,.flat 184 [.int .i64 b0.bg.aw,.ms bz 5 0 bK.length,.int .i64 b0.fm.bh,.int .i64 b0.fm.aG,.int .i64 b0.fm.aO,.int .i64 b0.fm.eJ,.str b0.fm.av,.int .i64 b0.fm.ax,.int .i64 b0.fm.aD.ax,.int .i64 b0.fm.aD.bX,.str b0.fm.aD.bB,.slice 110 6 b0.fm.bc.length (cR b0.fm.bc),.str b0.fm.ar.av,.slice 73 2 b0.fm.ar.ae.length (bE b0.fm.ar.ae),.int .i64 b0.fm.ar.ay,.slice 121 2 b0.fm.ar.af.length (aQ b0.fm.ar.af),.slice 107 13 b0.fm.ar.ak.length (aJ b0.fm.ar.ak)]),(8,.flat 44 [.str b8.av,jK ic iy.length,Gc b8,jK fZ dH.length,.ms lK 13 0 dj.length]),(bz,.tree 44 5 ja (((cZ bK)).set dS (iH aZ)) [(dS*5+4,.ms lK 13 0 dj.length),(dS*5+3,jK fZ dH.length),(dS*5+1,jK ic iy.length)]),(ic,.rows false 73 2 (bE iy)),(fZ,.tree 121 2 zk (aQ dH) []),(lK,.rows false 107 13 (aJ dj))]⟩
def agK (t74 t75:Int) (b0:aE) (bK:br):LS:=⟨[(0,.loc 0 0),(73,.ms bz 5 0 bK.length),(74,cg t74),(75,cg t75)],[(0,.flat 184 [.int .i64 b0.bg.aw,.ms bz 5 0 bK.length,.int .i64 b0.fm.bh,.int .i64 b0.fm.aG,.int .i64 b0.fm.aO,.int .i64 b0.fm.eJ,.str b0.fm.av,.int .i64 b0.fm.ax,.int .i64 b0.fm.aD.ax,.int .i64 b0.fm.aD.bX,.str b0.fm.aD.bB,.slice 110 6 b0.fm.bc.length (cR b0.fm.bc),.str b0.fm.ar.av,.slice 73 2 b0.fm.ar.ae.length (bE b0.fm.ar.ae),.int .i64 b0.fm.ar.ay,.slice 121 2 b0.fm.ar.af.length (aQ b0.fm.ar.af),.slice 107 13 b0.fm.ar.ak.length (aJ b0.fm.ar.ak)]),(bz,.tree 44 5 ja (cZ bK) [])]⟩
def aAh (b0:aE) (bK:br):LS:=⟨[],[(0,.flat 184 [.int .i64 b0.bg.aw,.ms bz 5 0 bK.length,.int .i64 b0.fm.bh,.int .i64 b0.fm.aG,.int .i64 b0.fm.aO,.int .i64 b0.fm.eJ,.str b0.fm.av,.int .i64 b0.fm.ax,.int .i64 b0.fm.aD.ax,.int .i64 b0.fm.aD.bX,.str b0.fm.aD.bB,.slice 110 6 b0.fm.bc.length (cR b0.fm.bc),.str b0.fm.ar.av,.slice 73 2 b0.fm.ar.ae.length (bE b0.fm.ar.ae),.int .i64 b0.fm.ar.ay,.slice 121 2 b0.fm.ar.af.length (aQ b0.fm.ar.af),.slice 107 13 b0.fm.ar.ak.length (aJ b0.fm.ar.ak)]),(bz,.tree 44 5 ja (cZ bK) [])]⟩
def aAg (b0:aE) (bK:br):LS:=⟨[(0,.loc 0 0)],[(0,.flat 184 [.int .i64 b0.bg.aw,.ms bz 5 0 bK.length,.int .i64 b0.fm.bh,.int .i64 b0.fm.aG,.int .i64 b0.fm.aO,.int .i64 b0.fm.eJ,.str b0.fm.av,.int .i64 b0.fm.ax,.int .i64 b0.fm.aD.ax,.int .i64 b0.fm.aD.bX,.str b0.fm.aD.bB,.slice 110 6 b0.fm.bc.length (cR b0.fm.bc),.str b0.fm.ar.av,.slice 73 2 b0.fm.ar.ae.length (bE b0.fm.ar.ae),.int .i64 b0.fm.ar.ay,.slice 121 2 b0.fm.ar.af.length (aQ b0.fm.ar.af),.slice 107 13 b0.fm.ar.ak.length (aJ b0.fm.ar.ak)]),(bz,.tree 44 5 ja (cZ bK) [])]⟩
def Rw (aN:JJ) (back:Int->Int->Int->Int->Int->aE->br->aj->Nat->bN->cO->cA->Option (Bool×aE)) (n:Nat) (i3 t16 t17 t24 t25:Int) (b0:aE) (bK:br) (aZ:aj) (dS:Nat) (dj:bN) (iy:cO) (dH:cA):Option (Bool×aE):=
 if decide (t25<t24) then
 (eZ dH.length t25).bind λx2=>(dH[0+x2]?).bind λu5=>if i3 !=b0.fm.aG then
 if u5.aG==b0.fm.aG then
 (setAt dH (0+x2) u5).bind λz26=>(setAt bK dS (aj.mk aZ.av iy aZ.ay z26 dj)).bind λz28=>some (false,(aE.mk (ag.mk b0.bg.aw z28) b0.fm))
 else
 (setAt dH (0+x2) u5).bind λz28=>back i3 t16 t17 t24 (bl (t25+1)) (aE.mk (ag.mk b0.bg.aw bK) b0.fm) bK (aj.mk aZ.av [] aZ.ay [] []) dS dj iy z28
 else
 (setAt dH (0+x2) u5).bind λz20=>back i3 t16 t17 t24 (bl (t25+1)) (aE.mk (ag.mk b0.bg.aw bK) b0.fm) bK (aj.mk aZ.av [] aZ.ay [] []) dS dj iy z20
 else
 (setAt bK dS (aj.mk aZ.av iy aZ.ay dH dj)).bind λz2=>aN t16 t17 (aE.mk (ag.mk b0.bg.aw z2) b0.fm) z2
def To:=K4 (Hw (cF 485)) agL
def Tn:=K12 (Hw (cF 5733)) aAj
def aHb {aN} (bn:To aN) {back} (aS:Tn back) (n:Nat):Tn (Rw aN back n):=λi3 t16 t17 t24 t25 b0 bK aZ dS dj iy dH r h=>ie h (λc0 h=>be h λx2 cX h=>be h λu5 uJ h=>let zA:SE:=[aI c0,(0,dO cX),(0,eN.ny R3 fZ nY 0 false 3 1 u5.ae uJ (oE u5.aG) (by kernel_rfl) (by kernel_rfl)),(0,eN.zg [0] (oE u5.aG) uJ)];ie h (λc1 h=>ie h (λc2 h=>be h λz26 abp h=>be h λz28 wv h=>bH h zA [iw c1,iw c2,(1,eN.gQ R3 (r:= (oE u5.aG)) fZ nY 0 false 3 1 u5.ae abp (by kernel_rfl)),(0,.beq bz (bM (λn_=>((IA (((cZ bK)).set dS (iH aZ)) (dS*5+4) lK dj.length (dS*5+3) fZ n_ (dS*5+1) ic iy.length))) (ew abp))),(0,bW.jr eD (r:= (iH aZ)) bz lK 4 false 107 13 dj wv [.str aZ.av,.undef,.int .i64 aZ.ay,.undef,.slice 107 13 dj.length (aJ dj)] (by kernel_rfl)),(0,bW.jr eN (r:= [.str aZ.av,.undef,.int .i64 aZ.ay,.undef,.slice 107 13 dj.length (aJ dj)]) bz fZ 3 false 121 2 z26 wv [.str aZ.av,.undef,.int .i64 aZ.ay,.slice 121 2 z26.length (aQ z26),.slice 107 13 dj.length (aJ dj)] (by kernel_rfl)),(0,bW.gQ eL (r:= [.str aZ.av,.undef,.int .i64 aZ.ay,.slice 121 2 z26.length (aQ z26),.slice 107 13 dj.length (aJ dj)]) bz ic 1 false 73 2 iy wv (by kernel_rfl)),(1,.beq 0 (bM (λn_=>(Bx.flat 184 [.int .i64 b0.bg.aw,.ms bz 5 0 n_,.int .i64 b0.fm.bh,.int .i64 b0.fm.aG,.int .i64 b0.fm.aO,.int .i64 b0.fm.eJ,.str b0.fm.av,.int .i64 b0.fm.ax,.int .i64 b0.fm.aD.ax,.int .i64 b0.fm.aD.bX,.str b0.fm.aD.bB,.slice 110 6 b0.fm.bc.length (cR b0.fm.bc),.str b0.fm.ar.av,.slice 73 2 b0.fm.ar.ae.length (bE b0.fm.ar.ae),.int .i64 b0.fm.ar.ay,.slice 121 2 b0.fm.ar.af.length (aQ b0.fm.ar.af),.slice 107 13 b0.fm.ar.ak.length (aJ b0.fm.ar.ak)])) (ew wv)))]) λc2 h=>be h λz28 wv h=>cI (aS h) zA [iw c1,iw c2,(3,eN.gQ R3 (r:= (oE u5.aG)) fZ nY 0 false 3 1 u5.ae wv (by kernel_rfl)),(0,.seq 23 (bM (AV.ms fZ 2 0) (ew wv))),(0,.beq bz (bM (λn_=>((IA (((cZ bK)).set dS (iH aZ)) (dS*5+4) lK dj.length (dS*5+3) fZ n_ (dS*5+1) ic iy.length))) (ew wv)))]) λc1 h=>be h λz20 Gx h=>cI (aS h) zA [iw c1,(4,eN.gQ R3 (r:= (oE u5.aG)) fZ nY 0 false 3 1 u5.ae Gx (by kernel_rfl)),(0,.seq 23 (bM (AV.ms fZ 2 0) (ew Gx))),(0,.beq bz (bM (λn_=>((IA (((cZ bK)).set dS (iH aZ)) (dS*5+4) lK dj.length (dS*5+3) fZ n_ (dS*5+1) ic iy.length))) (ew Gx)))]) λc0 h=>be h λz2 mi h=>ra (bn h) [aI c0,(0,bW.jr eD (r:= (iH aZ)) bz lK 4 false 107 13 dj mi [.str aZ.av,.undef,.int .i64 aZ.ay,.undef,.slice 107 13 dj.length (aJ dj)] (by kernel_rfl)),(0,bW.jr eN (r:= [.str aZ.av,.undef,.int .i64 aZ.ay,.undef,.slice 107 13 dj.length (aJ dj)]) bz fZ 3 false 121 2 dH mi [.str aZ.av,.undef,.int .i64 aZ.ay,.slice 121 2 dH.length (aQ dH),.slice 107 13 dj.length (aJ dj)] (by kernel_rfl)),(0,bW.gQ eL (r:= [.str aZ.av,.undef,.int .i64 aZ.ay,.slice 121 2 dH.length (aQ dH),.slice 107 13 dj.length (aJ dj)]) bz ic 1 false 73 2 iy mi (by kernel_rfl)),(0,.seq 15 (bM (AV.ms bz 5 0) (ew mi))),(0,.beq 0 (bM (λn_=>(Bx.flat 184 [.int .i64 b0.bg.aw,.ms bz 5 0 n_,.int .i64 b0.fm.bh,.int .i64 b0.fm.aG,.int .i64 b0.fm.aO,.int .i64 b0.fm.eJ,.str b0.fm.av,.int .i64 b0.fm.ax,.int .i64 b0.fm.aD.ax,.int .i64 b0.fm.aD.bX,.str b0.fm.aD.bB,.slice 110 6 b0.fm.bc.length (cR b0.fm.bc),.str b0.fm.ar.av,.slice 73 2 b0.fm.ar.ae.length (bE b0.fm.ar.ae),.int .i64 b0.fm.ar.ay,.slice 121 2 b0.fm.ar.af.length (aQ b0.fm.ar.af),.slice 107 13 b0.fm.ar.ak.length (aJ b0.fm.ar.ak)])) (ew mi)))]
def Fh (aN:JJ):Nat->Int->Int->Int->Int->Int->aE->br->aj->Nat->bN->cO->cA->Option (Bool×aE)
 |0=>λ_ _ _ _ _ _ _ _ _ _ _ _=>none
 |n+1=>Rw aN (Fh aN n) n
def aqj {aN} (bn:To aN):∀n:Nat,Tn (Fh aN n)
 |0=>λ_ _ _ _ _ _ _ _ _ _ _ _ _ h=>nz h
 |n+1=>aHb bn (aqj bn n) n
def Rv (bw:JJ) (n:Nat) (t16 t17:Int) (b0:aE) (bK:br):Option (Bool×aE):=
 bw t16 (bl (t17+1)) (aE.mk (ag.mk b0.bg.aw bK) b0.fm) bK
def KS:=K4 (Hw [0,1,0,1]) agL
def aHa {bw} (cM:KS bw) (n:Nat):To (Rv bw n):=λt16 t17 b0 bK r h=>ra (cM h) []
def Ru (kQ:ame) (back:JJ) (n:Nat) (t16 t17:Int) (b0:aE) (bK:br):Option (Bool×aE):=
 if decide (t17<t16) then
 (eZ bK.length t17).bind λx3=>(bK[0+x3]?).bind λu6=>Fh (Rv back n) n t17 t16 t17 (u6.af.length:Int) 0 (aE.mk (ag.mk b0.bg.aw bK) b0.fm) bK (aj.mk u6.av [] u6.ay [] []) (0+x3) u6.ak u6.ae u6.af
 else
 kQ (aE.mk (ag.mk b0.bg.aw bK) b0.fm) bK
def Tm:=K2 (Hw [1,1]) aAg
def aGZ {kQ} (rJ:Tm kQ) {back} (aS:KS back) (n:Nat):KS (Ru kQ back n):=λt16 t17 b0 bK r h=>ie h (λc0 h=>be h λx3 eY h=>be h λu6 yO h=>ra (aqj (aHa aS n) n h) [aI c0,(1,dO eY),(0,bW.ny eL bz ic 1 false 73 2 u6.ae yO [.str u6.av,.undef,.int .i64 u6.ay,.slice 121 2 u6.af.length (aQ u6.af),.slice 107 13 u6.ak.length (aJ u6.ak)] (by kernel_rfl) (by kernel_rfl)),(0,bW.uV eN (r:= [.str u6.av,.undef,.int .i64 u6.ay,.slice 121 2 u6.af.length (aQ u6.af),.slice 107 13 u6.ak.length (aJ u6.ak)]) bz fZ 3 false 121 2 u6.af yO [.str u6.av,.undef,.int .i64 u6.ay,.undef,.slice 107 13 u6.ak.length (aJ u6.ak)] (by kernel_rfl) (by kernel_rfl)),(0,bW.uV eD (r:= [.str u6.av,.undef,.int .i64 u6.ay,.undef,.slice 107 13 u6.ak.length (aJ u6.ak)]) bz lK 4 false 107 13 u6.ak yO (iH u6) (by kernel_rfl) (by kernel_rfl)),(0,bW.zg [4,3,1] (iH u6) yO)]) λc0 h=>ra (rJ h) [aI c0]
def BW (kQ:ame):Nat->Int->Int->aE->br->Option (Bool×aE)
 |0=>λ_ _ _ _=>none
 |n+1=>Ru kQ (BW kQ n) n
def aqi {kQ} (rJ:Tm kQ):∀n:Nat,KS (BW kQ n)
 |0=>λ_ _ _ _ _ h=>nz h
 |n+1=>aGZ rJ (aqi rJ n) n
def J5 (da:JJ) (back:Int->Int->Int->Int->aE->aj->cO->bN->br->aj->Nat->cA->Option (Bool×aE)) (n:Nat) (t74 t75 t81 t82:Int) (b0:aE) (b8:aj) (iy:cO) (dj:bN) (bK:br) (aZ:aj) (dS:Nat) (dH:cA):Option (Bool×aE):=
 if decide (t82<t81) then
 (eZ dH.length t82).bind λx3=>(dH[0+x3]?).bind λu6=>if decide (b0.fm.aG<u6.aG) then
 (eZ dH.length t82).bind λgC=>(setAt dH (0+x3) u6).bind λz29=>(z29[0+gC]?).bind λu30=>(setAt z29 (0+gC) (bk.mk u30.ae (bl (u6.aG - 1)))).bind λz32=>back t74 t75 t81 (bl (t82+1)) (aE.mk (ag.mk b0.bg.aw bK) b0.fm) (aj.mk b8.av iy b8.ay z32 dj) iy dj bK (aj.mk aZ.av [] aZ.ay [] []) dS z32
 else
 (setAt dH (0+x3) u6).bind λz21=>back t74 t75 t81 (bl (t82+1)) (aE.mk (ag.mk b0.bg.aw bK) b0.fm) (aj.mk b8.av iy b8.ay z21 dj) iy dj bK (aj.mk aZ.av [] aZ.ay [] []) dS z21
 else
 (setAt bK dS (aj.mk aZ.av iy aZ.ay dH dj)).bind λz2=>da t74 t75 (aE.mk (ag.mk b0.bg.aw z2) b0.fm) z2
def Tl:=K4 (Hw (cF 1943)) agK
def Tk:=K12 (Hw (cF 22935)) aAi
def aGY {da} (eW:Tl da) {back} (aS:Tk back) (n:Nat):Tk (J5 da back n):=λt74 t75 t81 t82 b0 b8 iy dj bK aZ dS dH r h=>ie h (λc0 h=>be h λx3 eY h=>be h λu6 yO h=>let zA:SE:=[aI c0,(1,dO eY),(0,eN.ny R3 fZ nY 0 false 3 1 u6.ae yO (oE u6.aG) (by kernel_rfl) (by kernel_rfl)),(0,eN.zg [0] (oE u6.aG) yO)];ie h (λc1 h=>be h λgC l3 h=>be h λz29 akK h=>be h λu30 hu30 h=>be h λz32 akJ h=>cI (aS h) zA [(10,eb c1),(6,dO l3),(1,eN.gQ R3 (r:= (oE u6.aG)) fZ nY 0 false 3 1 u6.ae akK (by kernel_rfl)),(0,eN.uE 1 [cg (bl (u6.aG - 1))] hu30 akJ (by kernel_rfl)),(2,.seq 80 (bM (AV.ms fZ 2 0) (((ng akJ).trans (ng akK)).symm))),(0,.beq 8 (bM (λn_=>((q9_ b8 ic iy.length fZ n_ lK dj.length))) (((ng akJ).trans (ng akK)).symm))),(0,.beq bz (bM (λn_=>((IA (((cZ bK)).set dS (iH aZ)) (dS*5+4) lK dj.length (dS*5+3) fZ n_ (dS*5+1) ic iy.length))) (((ng akJ).trans (ng akK)).symm)))]) λc1 h=>be h λz21 wx h=>cI (aS h) zA [(10,eb c1),(2,eN.gQ R3 (r:= (oE u6.aG)) fZ nY 0 false 3 1 u6.ae wx (by kernel_rfl)),(0,.seq 80 (bM (AV.ms fZ 2 0) (ew wx))),(0,.beq 8 (bM (λn_=>((q9_ b8 ic iy.length fZ n_ lK dj.length))) (ew wx))),(0,.beq bz (bM (λn_=>((IA (((cZ bK)).set dS (iH aZ)) (dS*5+4) lK dj.length (dS*5+3) fZ n_ (dS*5+1) ic iy.length))) (ew wx)))]) λc0 h=>be h λz2 mi h=>ra (eW h) [aI c0,(0,bW.jr eD (r:= (iH aZ)) bz lK 4 false 107 13 dj mi [.str aZ.av,.undef,.int .i64 aZ.ay,.undef,.slice 107 13 dj.length (aJ dj)] (by kernel_rfl)),(0,bW.jr eN (r:= [.str aZ.av,.undef,.int .i64 aZ.ay,.undef,.slice 107 13 dj.length (aJ dj)]) bz fZ 3 false 121 2 dH mi [.str aZ.av,.undef,.int .i64 aZ.ay,.slice 121 2 dH.length (aQ dH),.slice 107 13 dj.length (aJ dj)] (by kernel_rfl)),(0,bW.gQ eL (r:= [.str aZ.av,.undef,.int .i64 aZ.ay,.slice 121 2 dH.length (aQ dH),.slice 107 13 dj.length (aJ dj)]) bz ic 1 false 73 2 iy mi (by kernel_rfl)),(0,.seq 73 (bM (AV.ms bz 5 0) (ew mi))),(0,.beq 0 (bM (λn_=>(Bx.flat 184 [.int .i64 b0.bg.aw,.ms bz 5 0 n_,.int .i64 b0.fm.bh,.int .i64 b0.fm.aG,.int .i64 b0.fm.aO,.int .i64 b0.fm.eJ,.str b0.fm.av,.int .i64 b0.fm.ax,.int .i64 b0.fm.aD.ax,.int .i64 b0.fm.aD.bX,.str b0.fm.aD.bB,.slice 110 6 b0.fm.bc.length (cR b0.fm.bc),.str b0.fm.ar.av,.slice 73 2 b0.fm.ar.ae.length (bE b0.fm.ar.ae),.int .i64 b0.fm.ar.ay,.slice 121 2 b0.fm.ar.af.length (aQ b0.fm.ar.af),.slice 107 13 b0.fm.ar.ak.length (aJ b0.fm.ar.ak)])) (ew mi)))]
def BV (da:JJ):Nat->Int->Int->Int->Int->aE->aj->cO->bN->br->aj->Nat->cA->Option (Bool×aE)
 |0=>λ_ _ _ _ _ _ _ _ _ _ _ _=>none
 |n+1=>J5 da (BV da n) n
def aqh {da} (eW:Tl da):∀n:Nat,Tk (BV da n)
 |0=>λ_ _ _ _ _ _ _ _ _ _ _ _ _ h=>nz h
 |n+1=>aGY eW (aqh eW n) n
def Rt (dX:JJ) (n:Nat) (t74 t75:Int) (b0:aE) (bK:br):Option (Bool×aE):=
 dX t74 (bl (t75+1)) (aE.mk (ag.mk b0.bg.aw bK) b0.fm) bK
def KR:=K4 (Hw (cF 87)) agK
def aGX {dX} (gf:KR dX) (n:Nat):Tl (Rt dX n):=λt74 t75 b0 bK r h=>ra (gf h) []
def Rr (jO:ame) (back:JJ) (n:Nat) (t74 t75:Int) (b0:aE) (bK:br):Option (Bool×aE):=
 if decide (t75<t74) then
 (eZ bK.length t75).bind λx2=>(bK[0+x2]?).bind λu5=>BV (Rt back n) n t74 t75 (u5.af.length:Int) 0 (aE.mk (ag.mk b0.bg.aw bK) b0.fm) u5 u5.ae u5.ak bK (aj.mk u5.av [] u5.ay [] []) (0+x2) u5.af
 else
 jO (aE.mk (ag.mk b0.bg.aw bK) b0.fm) bK
def Tj:=K2 (Hw [1,1,1,1]) aAh
def aGW {jO} (qj:Tj jO) {back} (aS:KR back) (n:Nat):KR (Rr jO back n):=λt74 t75 b0 bK r h=>ie h (λc0 h=>be h λx2 cX h=>be h λu5 uJ h=>ra (aqh (aGX aS n) n h) [aI c0,(0,dO cX),(0,bW.ny eL bz ic 1 false 73 2 u5.ae uJ [.str u5.av,.undef,.int .i64 u5.ay,.slice 121 2 u5.af.length (aQ u5.af),.slice 107 13 u5.ak.length (aJ u5.ak)] (by kernel_rfl) (by kernel_rfl)),(0,bW.uV eN (r:= [.str u5.av,.undef,.int .i64 u5.ay,.slice 121 2 u5.af.length (aQ u5.af),.slice 107 13 u5.ak.length (aJ u5.ak)]) bz fZ 3 false 121 2 u5.af uJ [.str u5.av,.undef,.int .i64 u5.ay,.undef,.slice 107 13 u5.ak.length (aJ u5.ak)] (by kernel_rfl) (by kernel_rfl)),(0,bW.uV eD (r:= [.str u5.av,.undef,.int .i64 u5.ay,.undef,.slice 107 13 u5.ak.length (aJ u5.ak)]) bz lK 4 false 107 13 u5.ak uJ (iH u5) (by kernel_rfl) (by kernel_rfl)),(0,bW.zg [4,3,1] (iH u5) uJ)]) λc0 h=>ra (qj h) [aI c0]
def BU (jO:ame):Nat->Int->Int->aE->br->Option (Bool×aE)
 |0=>λ_ _ _ _=>none
 |n+1=>Rr jO (BU jO n) n
def aqg {jO} (qj:Tj jO):∀n:Nat,KR (BU jO n)
 |0=>λ_ _ _ _ _ h=>nz h
 |n+1=>aGW qj (aqg qj n) n
def aeE (n:Nat) (b0:aE) (bK:br):Option (Bool×aE):=
 some (true,(aE.mk (ag.mk b0.bg.aw bK) b0.fm))
def aGV (n:Nat):Tj (aeE n):=λb0 bK r h=>rr h []
def Rq (n:Nat) (b0:aE) (bK:br):Option (Bool×aE):=
 (avK n bK b0.fm.aG (bl (b0.fm.aG+1))).bind λlh=>BU (aeE n) n (lh.2.length:Int) 0 (aE.mk (ag.mk b0.bg.aw lh.2) b0.fm) lh.2
def aGU (n:Nat):Tm (Rq n):=λb0 bK r h=>be h λlh pd h=>ra (aqg (aGV n) n h) [(17,.call (aJT n pd) [(bz,0)] [])]
def aeD (n:Nat) (g0:aE):Option (Bool×aE):=
 BW (Rq n) n (g0.bg.ai.length:Int) 0 g0 g0.bg.ai
def aGT (n:Nat):K1 (Hw []) mc (aeD n):=λg0 r h=>ra (aqi (aGU n) n h) []
def adx:=aeD
def aKd (n:Nat):K1 (Cx E0 154 pL pA) mc (adx n):=λ_ _ h=>ca (X:=x154) (aGT n h)
def O0 (r:bS):AV:=.ms cT 1 0 r.length
def ahr (r:bS):List (Nat×Bx):= [(cT,Gf r)]
def x201:=fx E0 Tryz.f201 []
def A201:=Ax x201 O0 ahr
def agt (s0:bS):LS:=⟨[(0,.slice 70 1 s0.length (nV s0))],[]⟩
def QS (n:Nat) (s0:bS):Option bS:=
 (anR s0).bind λx3=>(app [] s0).bind λx7=>some x7
def aFA (n:Nat):K1 (A201 []) agt (QS n):=λs0 r h=>be h λx3 eY h=>be h λx7 jv h=>rr h [(2,.seq 3 (bM (λq_=>(AV.slice 70 1 q_.length (nV q_))) (anQ eY))),(3,o8.app jv),(1,.jl 5 cT)]
def Vv:=QS
def aJP (n:Nat):K1 (Cx E0 201 O0 ahr) agt (Vv n):=λ_ _ h=>ca (X:=x201) (aFA n h)
def D9 (r:bS):AV:=.cS []
def AE (r:bS):List (Nat×Bx):= [(0,Gf r)]
def x228:=fx E0 Tryz.f228 [0]
def anJ:=Ax x228 D9 AE
def azd (a1 b2 i8 j9:Int) (b0:bS):LS:=⟨[(0,.ms 0 1 0 b0.length),(1,cg a1),(2,cg b2),(3,UL),(8,cg i8),(9,cg j9)],[(0,Gf b0)]⟩
def ago (a1 b2 i8:Int) (b0:bS):LS:=⟨[(0,.ms 0 1 0 b0.length),(1,cg a1),(2,cg b2),(3,UL),(8,cg i8)],[(0,Gf b0)]⟩
def agn (wF:bS) (a1 b2:Int):LS:=⟨[(0,.ms 0 1 0 wF.length),(1,cg a1),(2,cg b2),(3,UL)],[(0,Gf wF)]⟩
def FG (aN:amd) (back:Int->Int->Int->Int->bS->Option bS) (n:Nat) (a1 b2 i8 j9:Int) (b0:bS):Option bS:=
 if decide (a1<j9) then
 (eZ b0.length j9).bind λx8=>(b0[0+x8]?).bind λdB=>(eZ b0.length (bl (j9 - 1))).bind λfh=>(b0[0+fh]?).bind λiG=>(F67 n dB iG).bind λjj=>if decide (jj<0) then
 (eZ b0.length (bl (j9 - 1))).bind λvZ=>(b0[0+vZ]?).bind λmO=>(eZ b0.length j9).bind λyC=>(b0[0+yC]?).bind λrW=>(eZ b0.length j9).bind λDY=>(b0[0+DY]?).bind λx43=>(setAt b0 (0+DY) mO).bind λtf=>(eZ b0.length (bl (j9 - 1))).bind λAQ=>(tf[0+AQ]?).bind λx48=>(setAt tf (0+AQ) rW).bind λz49=>back a1 b2 i8 (bl (j9 - 1)) z49
 else
 aN a1 b2 i8 b0
 else
 aN a1 b2 i8 b0
def Ti:=K4 (anJ [1,1,0,0,1]) ago
def Th:=K5 (anJ (cF 329)) azd
def aFl {aN} (bn:Ti aN) {back} (aS:Th back) (n:Nat):Th (FG aN back n):=λa1 b2 i8 j9 b0 r h=>ie h (λc0 h=>be h λx8 oH h=>be h λdB kS h=>be h λfh mK h=>be h λiG kg h=>be h λjj nL h=>let zA:SE:=[ba c0,(4,dO oH),(0,o8.row kS),(3,dO mK),(0,o8.row kg),oZ (auH n nL)];ie h (λc1 h=>be h λvZ Bn h=>be h λmO wz h=>be h λyC Nz h=>be h λrW Bm h=>be h λDY abr h=>be h λx43 atW h=>be h λtf qi h=>be h λAQ abq h=>be h λx48 atU h=>be h λz49 abn h=>cI (aS h) zA [aI c1,(9,dO Bn),(0,o8.row wz),(2,dO Nz),(0,o8.row Bm),(0,dO abr),(0,o8.uE 0 [.slice 38 3 mO.length (fG mO)] atW qi (by kernel_rfl)),(0,dO abq),(0,o8.uE 0 [.slice 38 3 rW.length (fG rW)] atU abn (by kernel_rfl)),(3,.seq 0 (bM (AV.ms 0 1 0) (((ng abn).trans (ng qi)).symm)))]) λc1 h=>cI (bn h) zA [aI c1]) λc0 h=>ra (bn h) [ba c0]
def EZ (aN:amd):Nat->Int->Int->Int->Int->bS->Option bS
 |0=>λ_ _ _ _ _=>none
 |n+1=>FG aN (EZ aN n) n
def apF {aN} (bn:Ti aN):∀n:Nat,Th (EZ aN n)
 |0=>λ_ _ _ _ _ _ h=>nz h
 |n+1=>aFl bn (apF bn n) n
def wY (bw:amd) (n:Nat) (a1 b2 i8:Int) (b0:bS):Option bS:=
 bw a1 b2 (bl (i8+1)) b0
def KQ:=K4 (anJ [0,1]) ago
def aFk {bw} (cM:KQ bw) (n:Nat):Ti (wY bw n):=λa1 b2 i8 b0 r h=>ra (cM h) []
def FF (back:amd) (n:Nat) (a1 b2 i8:Int) (b0:bS):Option bS:=
 if decide (i8<b2) then
 EZ (wY back n) n a1 b2 i8 i8 b0
 else
 some b0
def aFj {back} (aS:KQ back) (n:Nat):KQ (FF back n):=λa1 b2 i8 b0 r h=>ie h (λc0 h=>ra (apF (aFk aS n) n h) [ba c0]) λc0 h=>rr h [ba c0]
def sm:Nat->Int->Int->Int->bS->Option bS
 |0=>λ_ _ _ _=>none
 |n+1=>FF (sm n) n
def apE:∀n:Nat,KQ (sm n)
 |0=>λ_ _ _ _ _ h=>nz h
 |n+1=>aFj (apE n) n
def QL (n:Nat) (wF:bS) (a1 b2:Int):Option bS:=
 sm n a1 b2 (bl (a1+1)) wF
def aFi (n:Nat):K3 (anJ []) agn (QL n):=λwF a1 b2 r h=>ra (apE n h) []
def N3:=QL
def aJH (n:Nat):K3 (Cx E0 228 D9 AE) agn (N3 n):=λ_ _ _ _ h=>ca (X:=x228) (aFi n h)
def x221:=fx E0 Tryz.f221 [0]
def A221:=Ax x221 D9 AE
def aze (a1 b2 yL:Int) (ze vg:Bool) (b0:bS):LS:=⟨[(0,.ms 0 1 0 b0.length),(1,cg a1),(2,cg b2),(3,cg yL),(4,UL),(10,.bool ze),(11,.bool vg)],[(0,Gf b0)]⟩
def agp (wF:bS) (a1 b2 yL:Int):LS:=⟨[(0,.ms 0 1 0 wF.length),(1,cg a1),(2,cg b2),(3,cg yL),(4,UL)],[(0,Gf wF)]⟩
def FH (back:Int->Int->Int->Bool->Bool->bS->Option bS) (n:Nat) (a1 b2 yL:Int) (ze vg:Bool) (b0:bS):Option bS:=
 if !decide (12<(bl (b2 - a1))) then
 (N3 n b0 a1 b2).bind λdA=>(lJ dA.length b0.length).bind λw12=>some dA
 else
 none
def Tg:=K6 (A221 [0,1,1]) aze
def aFn {back} (aS:Tg back) (n:Nat):Tg (FH back n):=λa1 b2 yL ze vg b0 r h=>ie h (λc0 h=>be h λdA gn h=>be h λw12 hw12 h=>rr h [cq c0,(4,.call (aJH n gn) [(0,0)] [])]) λc0 h=>nz h
def JP:Nat->Int->Int->Int->Bool->Bool->bS->Option bS
 |0=>λ_ _ _ _ _ _=>none
 |n+1=>FH (JP n) n
def apG:∀n:Nat,Tg (JP n)
 |0=>λ_ _ _ _ _ _ _ h=>nz h
 |n+1=>aFn (apG n) n
def asf (n:Nat) (wF:bS) (a1 b2 yL:Int):Option bS:=
 JP n a1 b2 yL true true wF
def aFm (n:Nat):K4 (A221 []) agp (asf n):=λwF a1 b2 yL r h=>ra (apG n h) []
def Vt:=asf
def aJI (n:Nat):K4 (Cx E0 221 D9 AE) agp (Vt n):=λ_ _ _ _ _ h=>ca (X:=x221) (aFm n h)
def x202:=fx E0 Tryz.f202 [0]
def A202:=Ax x202 D9 AE
def ags (x0:bS):LS:=⟨[(0,.ms 0 1 0 x0.length),(1,UL)],[(0,Gf x0)]⟩
def QR (n:Nat) (x0:bS):Option bS:=
 (Vx n (IntKind.wrap .u64 ((x0.length:Int)))).bind λx8=>(Vt n x0 0 (x0.length:Int) x8).bind λdA=>(lJ dA.length x0.length).bind λw12=>some dA
def aFz (n:Nat):K1 (A202 []) ags (QR n):=λx0 r h=>be h λx8 oH h=>be h λdA gn h=>be h λw12 hw12 h=>rr h [yo (aJR n oH),(1,.call (aJI n gn) [(0,0)] [])]
def Vu:=QR
def aJO (n:Nat):K1 (Cx E0 202 D9 AE) ags (Vu n):=λ_ _ h=>ca (X:=x202) (aFz n h)
def ahs (r:bS):List (Nat×Bx):= [(cT,xL r)]
def x186:=fx E0 Tryz.f186 []
def avW:=Ax x186 O0 ahs
def azu (t12 t13:Int) (b8 CW:bS):LS:=⟨[(3,.ms 8 1 0 b8.length),(4,.ms 35 1 0 CW.length),(11,.ms 8 1 0 b8.length),(12,cg t12),(13,cg t13)],[(8,Gf b8),(35,xL CW)]⟩
def azt (CW:bS):LS:=⟨[(4,.ms 35 1 0 CW.length)],[(35,xL CW)]⟩
def agx (OX:bS):LS:=⟨[(0,.slice 70 1 OX.length (nV OX))],[]⟩
def sn (aN:bS->Option bS) (back:Int->Int->bS->bS->Option bS) (n:Nat) (t12 t13:Int) (b8 CW:bS):Option bS:=
 if decide (t13<t12) then
 (eZ b8.length t13).bind λx3=>(b8[0+x3]?).bind λx5=>if t13==0 then
 (app [] x5).bind λfg=>(app CW [fg]).bind λjj=>back t12 (bl (t13+1)) b8 jj
 else
 (eZ b8.length (bl (t13 - 1))).bind λfh=>(b8[0+fh]?).bind λiG=>(F67 n iG x5).bind λkL=>if kL !=0 then
 (app [] x5).bind λx27=>(app CW [x27]).bind λsM=>back t12 (bl (t13+1)) b8 sM
 else
 back t12 (bl (t13+1)) b8 CW
 else
 aN CW
def Te:=K1 (avW [1,1,1,1,1]) azt
def Td:=K4 (avW (cF 175)) azu
def aFQ {aN} (bn:Te aN) {back} (aS:Td back) (n:Nat):Td (sn aN back n):=λt12 t13 b8 CW r h=>ie h (λc0 h=>be h λx3 eY h=>be h λx5 kR h=>let zA:SE:=[aI c0,(1,dO eY),(0,o8.row kR)];ie h (λc1 h=>be h λfg iM h=>be h λjj nL h=>cI (aS h) zA [bj c1,(5,p8.app iM),(0,p8.fX 31 fg),(1,o8.kE nL)]) λc1 h=>be h λfh mK h=>be h λiG kg h=>be h λkL kC h=>let zB:SE:=dU zA [bj c1,(4,dO mK),(0,o8.row kg),CA (auH n kC)];ie h (λc2 h=>be h λx27 atZ h=>be h λsM Bo h=>cI (aS h) zB [aI c2,(4,p8.app atZ),(0,p8.fX 31 x27),(1,o8.kE Bo)]) λc2 h=>cI (aS h) zB [aI c2]) λc0 h=>ra (bn h) [aI c0]
def wV (aN:bS->Option bS):Nat->Int->Int->bS->bS->Option bS
 |0=>λ_ _ _ _=>none
 |n+1=>sn aN (wV aN n) n
def apO {aN} (bn:Te aN):∀n:Nat,Td (wV aN n)
 |0=>λ_ _ _ _ _ h=>nz h
 |n+1=>aFQ bn (apO bn n) n
def oV (n:Nat) (CW:bS):Option bS:=
 some CW
def aFP (n:Nat):Te (oV n):=λCW r h=>rr h [(2,.jl 35 cT)]
def QW (n:Nat) (OX:bS):Option bS:=
 (Vv n OX).bind λx3=>(Vu n x3).bind λx7=>(lJ x7.length x3.length).bind λw8=>wV (oV n) n (x3.length:Int) 0 x7 []
def aFO (n:Nat):K1 (avW []) agx (QW n):=λOX r h=>be h λx3 eY h=>be h λx7 jv h=>be h λw8 hw8 h=>ra (apO (aFP n) n h) [(2,.call (aJP n eY) [] [(8,cT)]),(2,.call (aJO n jv) [(8,0)] []),(4,.born [4] [] 35 true 70 1),(0,.seq 3 (bM (AV.ms 8 1 0) ((xI hw8).symm))),(0,.seq 11 (bM (AV.ms 8 1 0) ((xI hw8).symm)))]
def N5:=QW
def axR (n:Nat):K1 (Cx E0 186 O0 ahs) agx (N5 n):=λ_ _ h=>ca (X:=x186) (aFO n h)
def x155:=fx E0 Tryz.f155 []
def afo:=Ax x155 du bQ
def aAf (g0:aE) (t3:aj) (c4:Int) (t47:gz) (t48 t49:Int) (uR uQ:bS):LS:=⟨[(0,.ju (BF g0)),(3,.ju (iC t3)),(4,.int .i64 c4),(5,.ms 70 1 0 uR.length),(6,.ms 76 1 0 uQ.length),(47,.slice 110 6 t47.length (cR t47)),(48,.int .i64 t48),(49,.int .i64 t49)],[(70,xL uR),(76,xL uQ)]⟩
def aAe (t99 t100:Int) (b79 b81:bS):LS:=⟨[(5,.ms 79 1 0 b79.length),(6,.ms 81 1 0 b81.length),(99,cg t99),(100,cg t100)],[(79,xL b79),(81,xL b81)]⟩
def aAd:LS:=⟨[],[]⟩
def aAc (g0:aE) (uR uQ:bS):LS:=⟨[(0,.ju (BF g0)),(5,.ms 70 1 0 uR.length),(6,.ms 76 1 0 uQ.length)],[(70,xL uR),(76,xL uQ)]⟩
def Rp (bD:aE->bS->bS->Option Bool) (back:aE->aj->Int->gz->Int->Int->bS->bS->Option Bool) (n:Nat) (g0:aE) (t3:aj) (c4:Int) (t47:gz) (t48 t49:Int) (uR uQ:bS):Option Bool:=
 if decide (t49<t48) then
 (idx t47 t49).bind λx2=>(idx t3.ae c4).bind λig=>(Vz n x2.f0 ig.ax).bind λlh=>if !lh then
 some false
 else
 (app uR [[x2.f0]]).bind λsO=>(app uQ [[x2.f1]]).bind λx34=>back g0 t3 c4 t47 t48 (bl (t49+1)) sO x34
 else
 bD g0 uR uQ
def Tc:=K3 (afo [1,1,1,1,1]) aAc
def Tb:=K8 (afo (cF 175)) aAf
def aGS {bD} (cU:Tc bD) {back} (aS:Tb back) (n:Nat):Tb (Rp bD back n):=λg0 t3 c4 t47 t48 t49 uR uQ r h=>ie h (λc0 h=>be h λx2 cX h=>be h λig j2 h=>be h λlh pd h=>let zA:SE:=[aI c0,(0,DC.idx cX),(10,eL.idx j2),iS (alg n pd)];ie h (λc1 h=>bH h zA [aI c1]) λc1 h=>be h λsO xS h=>be h λx34 abu h=>cI (aS h) zA [aI c1,(4,p8.fX 68 [x2.f0]),(1,o8.kE xS),(5,p8.fX 74 [x2.f1]),(1,o8.kE abu)]) λc0 h=>ra (cU h) [aI c0]
def Fg (bD:aE->bS->bS->Option Bool):Nat->aE->aj->Int->gz->Int->Int->bS->bS->Option Bool
 |0=>λ_ _ _ _ _ _ _ _=>none
 |n+1=>Rp bD (Fg bD n) n
def aqf {bD} (cU:Tc bD):∀n:Nat,Tb (Fg bD n)
 |0=>λ_ _ _ _ _ _ _ _ _ h=>nz h
 |n+1=>aGS cU (aqf cU n) n
def so (bw:Option Bool) (back:Int->Int->bS->bS->Option Bool) (n:Nat) (t99 t100:Int) (b79 b81:bS):Option Bool:=
 if decide (t100<t99) then
 (eZ b79.length t100).bind λx6=>(b79[0+x6]?).bind λx8=>(idx x8 0).bind λdB=>(eZ b81.length t100).bind λfh=>(b81[0+fh]?).bind λiG=>(idx iG 0).bind λjj=>if !((dB.ax==jj.ax) && ((dB.bX==jj.bX) && ((decide (dB.bB=jj.bB)) && true))) then
 some false
 else
 back t99 (bl (t100+1)) b79 b81
 else
 bw
def Ta:=K0 (afo (cF 511)) aAd
def S9:=K4 (afo (cF 1407)) aAe
def aGR {bw} (cM:Ta bw) {back} (aS:S9 back) (n:Nat):S9 (so bw back n):=λt99 t100 b79 b81 r h=>ie h (λc0 h=>be h λx6 lC h=>be h λx8 oH h=>be h λdB kS h=>be h λfh mK h=>be h λiG kg h=>be h λjj nL h=>let zA:SE:=[aI c0,(4,dO lC),(0,o8.row oH),(0,p8.idx kS),(3,dO mK),(0,o8.row kg),(0,p8.idx nL)];ie h (λc1 h=>bH h zA [bb c1]) λc1 h=>cI (aS h) zA [bb c1]) λc0 h=>ra (cM h) [aI c0]
def uU (bw:Option Bool):Nat->Int->Int->bS->bS->Option Bool
 |0=>λ_ _ _ _=>none
 |n+1=>so bw (uU bw n) n
def aqe {bw} (cM:Ta bw):∀n:Nat,S9 (uU bw n)
 |0=>λ_ _ _ _ _ h=>nz h
 |n+1=>aGR cM (aqe cM n) n
def oa (n:Nat):Option Bool:=
 some true
def aGQ (n:Nat):Ta (oa n):=λr h=>rr h []
def J4 (n:Nat) (g0:aE) (uR uQ:bS):Option Bool:=
 (N5 n uR).bind λx2=>(N5 n uQ).bind λx5=>if (x2.length:Int) !=(g0.fm.bc.length:Int) then
 some false
 else
 if (x5.length:Int) !=(x2.length:Int) then
 some false
 else
 uU (oa n) n (x2.length:Int) 0 x2 x5
def aGP (n:Nat):Tc (J4 n):=λg0 uR uQ r h=>be h λx2 cX h=>be h λx5 kR h=>let zA:SE:=[(1,o8.fX 70 uR),(0,.call (axR n cX) [] [(79,cT)]),(1,o8.fX 76 uQ),(0,.call (axR n kR) [] [(81,cT)])];ie h (λc0 h=>bH h zA [(10,eb c0)]) λc0 h=>ie h (λc1 h=>bH h zA [(10,eb c0),cq c1]) λc1 h=>cI (aqe (aGQ n) n h) zA [(10,eb c0),cq c1]
def aeC (n:Nat) (g0:aE):Option Bool:=
 (Mo n g0).bind λx3=>(N6 n g0 g0.fm.aO).bind λig=>if !ig then
 some false
 else
 (ado n g0).bind λjj=>if jj then
 some false
 else
 if decide ((g0.fm.bc.length:Int)<1) then
 some false
 else
 if decide (16<(g0.fm.bc.length:Int)) then
 some false
 else
 Fg (J4 n) n g0 x3 g0.fm.aO g0.fm.bc (g0.fm.bc.length:Int) 0 [] []
def aGO (n:Nat):K1 (afo []) xD (aeC n):=λg0 r h=>be h λx3 eY h=>be h λig j2 h=>let zA:SE:=[(1,.ord [0,2,3,4,5,6,1,7,8]),Lv (PZ n eY),mV (Xp n j2)];ie h (λc0 h=>bH h zA [aI c0]) λc0 h=>be h λjj nL h=>let zB:SE:=dU zA [aI c0,iS (axU n nL)];ie h (λc1 bI=>by subst c1;exact (rr bI zB)) λc1 bI=>by subst c1;exact (ie bI (λc2 bI=>bH bI zB [iw c2]) λc2 bI=>ie bI (λc3 bI=>bH bI zB [iw c2,iw c3]) λc3 bI=>cI (aqf (aGP n) n bI) zB [iw c2,iw c3,(10,.born [5] [] 70 true 70 1),(0,.born [6] [] 76 true 70 1)])
def adw:=aeC
def aKc (n:Nat):K1 (Cx E0 155 du bQ) xD (adw n):=λ_ _ h=>ca (X:=x155) (aGO n h)
def awt (r:(List Nat)):AV:=.ms cT 1 0 r.length
def apd (r:(List Nat)):List (Nat×Bx):= [(cT,.rows false 185 1 (Le r))]
def x97:=fx E0 Tryz.f97 []
def A97:=Ax x97 awt apd
def aob:LS:=⟨[],[]⟩
def ayO (n:Nat):Option (List Nat):=
 some [148,149,150,151,152,153,154,155]
def aKD (n:Nat):K0 (A97 []) aob (ayO n):=λr h=>rr h [(3,.jl 1 cT)]
def F97:=ayO
def ev97 (n:Nat):K0 (Cx E0 97 awt apd) aob (F97 n):=λ_ h=>ca (X:=x97) (aKD n h)
def x98:=fx E0 Tryz.f98 []
def A98:=Ax x98 du bQ
def aCX (GS:Bool) (b1:aF):LS:=⟨[(1,.loc 1 0),(5,.bool GS)],[(1,ux (mr b1))]⟩
def aCW (b1:aF):LS:=⟨[(1,.loc 1 0)],[(1,ux (mr b1))]⟩
def Ho (n:Nat) (GS:Bool) (b1:aF):Option Bool:=
 if b1.aG==0 then
 if b1.aO==0 then
 if b1.eJ==0 then
 if decide (b1.av=ByteArray.empty) then
 if b1.ax==0 then
 if ((b1.aD.ax==0) && ((b1.aD.bX==0) && ((decide (b1.aD.bB=ByteArray.empty)) && true))) then
 if (b1.bc.length:Int)==0 then
 some (!GS)
 else
 some false
 else
 some false
 else
 some false
 else
 some false
 else
 some false
 else
 some false
 else
 some false
def Qe (n:Nat):K2 (A98 (cF 127)) aCX (Ho n):=λGS b1 r h=>ie h (λc0 h=>ie h (λc1 h=>let zA:SE:=[ba c0,bj c1];ie h (λc2 h=>let zB:SE:=dU zA [bt c2];ie h (λc3 h=>let zC:SE:=dU zB [bt c3];ie h (λc4 h=>ie h (λc5 h=>ie h (λc6 h=>bH h zC [bt c4,cq c5,cq c6]) λc6 h=>bH h zC [bt c4,cq c5,cq c6]) λc5 h=>bH h zC [bt c4,cq c5]) λc4 h=>bH h zC [bt c4]) λc3 h=>bH h zB [bt c3]) λc2 h=>bH h zA [bt c2]) λc1 h=>rr h [ba c0,bj c1]) λc0 h=>rr h [ba c0]
def wX (n:Nat) (b1:aF):Option Bool:=
 if !decide (b1.ar.av=ByteArray.empty) then
 Ho n true b1
 else
 if decide (0<(b1.ar.ae.length:Int)) then
 Ho n true b1
 else
 if b1.ar.ay !=0 then
 Ho n true b1
 else
 if decide (0<(b1.ar.af.length:Int)) then
 Ho n true b1
 else
 Ho n (decide (0<(b1.ar.ak.length:Int))) b1
def CU (n:Nat):K1 (A98 [1,1,1,1]) aCW (wX n):=λb1 r h=>ie h (λc0 h=>ra (Qe n h) [dL c0]) λc0 h=>ie h (λc1 h=>ra (Qe n h) [dL c0,bt c1]) λc1 h=>let zA:SE:=[dL c0,bt c1];ie h (λc2 h=>cI (Qe n h) zA [bt c2]) λc2 h=>ie h (λc3 h=>cI (Qe n h) zA [bt c2,cq c3]) λc3 h=>cI (Qe n h) zA [bt c2,cq c3]
def amS (n:Nat) (m0:aF):Option Bool:=
 if m0.bh==1 then
 wX n (aF.mk m0.bh 0 m0.aO m0.eJ ByteArray.empty 0 (aR.mk 0 0 ByteArray.empty) m0.bc m0.ar)
 else
 if m0.bh==2 then
 wX n (aF.mk m0.bh 0 0 m0.eJ m0.av m0.ax (aR.mk 0 0 ByteArray.empty) m0.bc m0.ar)
 else
 if m0.bh==3 then
 wX n (aF.mk m0.bh 0 0 0 m0.av m0.ax m0.aD m0.bc m0.ar)
 else
 if m0.bh==4 then
 wX n (aF.mk m0.bh 0 0 m0.eJ ByteArray.empty m0.ax m0.aD m0.bc m0.ar)
 else
 if m0.bh==5 then
 wX n (aF.mk m0.bh 0 m0.aO m0.eJ ByteArray.empty m0.ax m0.aD m0.bc m0.ar)
 else
 if m0.bh==6 then
 wX n (aF.mk m0.bh m0.aG m0.aO m0.eJ m0.av m0.ax m0.aD m0.bc (aj.mk ByteArray.empty [] 0 [] []))
 else
 if m0.bh==8 then
 wX n (aF.mk m0.bh 0 0 m0.eJ m0.av m0.ax m0.aD [] m0.ar)
 else
 wX n (aF.mk m0.bh 0 m0.aO m0.eJ m0.av m0.ax m0.aD m0.bc m0.ar)
def aKC (n:Nat):K1 (A98 []) KG (amS n):=λm0 r h=>ie h (λc0 h=>ra (CU n h) [alu c0]) λc0 h=>ie h (λc1 h=>ra (CU n h) [alu c0,bb c1]) λc1 h=>let zA:SE:=[alu c0,bb c1];ie h (λc2 h=>cI (CU n h) zA [bb c2]) λc2 h=>let zB:SE:=dU zA [bb c2];ie h (λc3 h=>cI (CU n h) zB [bb c3]) λc3 h=>let zC:SE:=dU zB [bb c3];ie h (λc4 h=>cI (CU n h) zC [bb c4]) λc4 h=>ie h (λc5 h=>cI (CU n h) zC [bb c4,bb c5]) λc5 h=>ie h (λc6 h=>cI (CU n h) zC [bb c4,bb c5,bb c6]) λc6 h=>cI (CU n h) zC [bb c4,bb c5,bb c6]
def F98:=amS
def ev98 (n:Nat):K1 (Cx E0 98 du bQ) KG (F98 n):=λ_ _ h=>ca (X:=x98) (aKC n h)
def zI:=fx E0 Tryz.f42 []
def A42:=Ax zI W9 bQ
def aDU (t65:Bool) (b4:ag) (tF:aE) (EV:br):LS:=⟨[(4,.loc 4 0),(8,.loc 49 0),(65,.bool t65)],[(4,.flat 25 [.int .i64 0,.dD]),(49,.flat 184 [.int .i64 tF.bg.aw,.ms 330460001 5 0 EV.length,.int .i64 tF.fm.bh,.int .i64 tF.fm.aG,.int .i64 tF.fm.aO,.int .i64 tF.fm.eJ,.str tF.fm.av,.int .i64 tF.fm.ax,.int .i64 tF.fm.aD.ax,.int .i64 tF.fm.aD.bX,.str tF.fm.aD.bB,.slice 110 6 tF.fm.bc.length (cR tF.fm.bc),.str tF.fm.ar.av,.slice 73 2 tF.fm.ar.ae.length (bE tF.fm.ar.ae),.int .i64 tF.fm.ar.ay,.slice 121 2 tF.fm.ar.af.length (aQ tF.fm.ar.af),.slice 107 13 tF.fm.ar.ak.length (aJ tF.fm.ar.ak)]),(330460001,.tree 44 5 ja (cZ EV) [])]⟩
def aDT (i7:Int) (b2:ag) (b3:aF) (b4:ag) (b9:List Nat):LS:=⟨[(2,.loc 2 0),(3,.loc 3 0),(4,.loc 4 0),(6,.ms 9 1 0 b9.length),(7,cg i7)],[(2,jt (dP b2)),(3,ux (mr b3)),(4,ake),(9,.rows false 185 1 (Le b9))]⟩
def Au (n:Nat) (t65:Bool) (b4:ag) (tF:aE) (EV:br):Option (ag×Bool):=
 if t65 then
 some ((ag.mk 0 []),false)
 else
 some ((ag.mk tF.bg.aw EV),true)
def CV (n:Nat):K4 (A42 (cF 895)) aDU (Au n):=λt65 b4 tF EV r h=>ie h (λc0 bI=>by subst c0;exact (rr bI [(3,.pZ 4 (.flat 0 [.bool true,.sl 0 44 5 0 []]))])) λc0 bI=>by subst c0;exact (rr bI [(6,bW.tfr false 330460001 EV)])
def vf (n:Nat) (i7:Int) (b2:ag) (b3:aF) (b4:ag) (b9:List Nat):Option (ag×Bool):=
 (F41 n b2).bind λx2=>(eZ b9.length i7).bind λkL=>(b9[0+kL]?).bind λnc=>if nc==148 then
 (adD n (aE.mk (ag.mk (bl (x2.aw+1)) x2.ai) b3)).bind λgC=>Au n (!gC.1) (ag.mk 0 []) gC.2 gC.2.bg.ai
 else
 if nc==149 then
 (adC n (aE.mk (ag.mk (bl (x2.aw+1)) x2.ai) b3)).bind λgC=>Au n (!gC.1) (ag.mk 0 []) gC.2 gC.2.bg.ai
 else
 if nc==150 then
 (adB n (aE.mk (ag.mk (bl (x2.aw+1)) x2.ai) b3)).bind λgC=>Au n (!gC.1) (ag.mk 0 []) gC.2 gC.2.bg.ai
 else
 if nc==151 then
 (adA n (aE.mk (ag.mk (bl (x2.aw+1)) x2.ai) b3)).bind λgC=>Au n (!gC.1) (ag.mk 0 []) gC.2 gC.2.bg.ai
 else
 if nc==152 then
 (adz n (aE.mk (ag.mk (bl (x2.aw+1)) x2.ai) b3)).bind λgC=>Au n (!gC.1) (ag.mk 0 []) gC.2 gC.2.bg.ai
 else
 if nc==153 then
 (ady n (aE.mk (ag.mk (bl (x2.aw+1)) x2.ai) b3)).bind λgC=>Au n (!gC.1) (ag.mk 0 []) gC.2 gC.2.bg.ai
 else
 if nc==154 then
 (adx n (aE.mk (ag.mk (bl (x2.aw+1)) x2.ai) b3)).bind λgC=>Au n (!gC.1) (ag.mk 0 []) gC.2 gC.2.bg.ai
 else
 if nc==155 then
 (adw n (aE.mk (ag.mk (bl (x2.aw+1)) x2.ai) b3)).bind λgC=>Au n (!gC) (ag.mk 0 []) (aE.mk (ag.mk (bl (x2.aw+1)) x2.ai) b3) x2.ai
 else
 none
def ayE (n:Nat):K5 (A42 [1,1,1,1,1]) aDT (vf n):=λi7 b2 b3 b4 b9 r h=>be h λx2 cX h=>be h λkL kC h=>be h λnc pc h=>ie h (λc0 bI=>by have c0:=eq_of_beq c0;subst c0;exact (
 be bI λgC l3 bI=>ra (CV n bI) [(0,.ord [0,2,1,3,4,5]),(2,.call (GM n cX) [] [(330460001,201001)]),(15,dO kC),(0,JM.row pc),(1,.call (aKj n l3) [(49,0),(330460001,8589934592)] [])])) λc0 h=>ie h (λc1 bI=>by have c1:=eq_of_beq c1;subst c1;exact (
 be bI λgC l3 bI=>ra (CV n bI) [(0,.ord [0,2,1,3,4,5]),(2,.call (GM n cX) [] [(330460001,201001)]),(15,dO kC),(0,JM.row pc),(1,.call (aKi n l3) [(49,0),(330460001,8589934592)] [])])) λc1 h=>ie h (λc2 bI=>by have c2:=eq_of_beq c2;subst c2;exact (
 be bI λgC l3 bI=>ra (CV n bI) [(0,.ord [0,2,1,3,4,5]),(2,.call (GM n cX) [] [(330460001,201001)]),(15,dO kC),(0,JM.row pc),(1,.call (aKh n l3) [(49,0),(330460001,8589934592)] [])])) λc2 h=>ie h (λc3 bI=>by have c3:=eq_of_beq c3;subst c3;exact (
 be bI λgC l3 bI=>ra (CV n bI) [(0,.ord [0,2,1,3,4,5]),(2,.call (GM n cX) [] [(330460001,201001)]),(15,dO kC),(0,JM.row pc),(1,.call (aKg n l3) [(49,0),(330460001,8589934592)] [])])) λc3 h=>ie h (λc4 bI=>by have c4:=eq_of_beq c4;subst c4;exact (
 be bI λgC l3 bI=>ra (CV n bI) [(0,.ord [0,2,1,3,4,5]),(2,.call (GM n cX) [] [(330460001,201001)]),(15,dO kC),(0,JM.row pc),(1,.call (aKf n l3) [(49,0),(330460001,8589934592)] [])])) λc4 h=>ie h (λc5 bI=>by have c5:=eq_of_beq c5;subst c5;exact (
 be bI λgC l3 bI=>ra (CV n bI) [(0,.ord [0,2,1,3,4,5]),(2,.call (GM n cX) [] [(330460001,201001)]),(15,dO kC),(0,JM.row pc),(1,.call (aKe n l3) [(49,0),(330460001,4294967296)] [])])) λc5 h=>ie h (λc6 bI=>by have c6:=eq_of_beq c6;subst c6;exact (
 be bI λgC l3 bI=>ra (CV n bI) [(0,.ord [0,2,1,3,4,5]),(2,.call (GM n cX) [] [(330460001,201001)]),(15,dO kC),(0,JM.row pc),(1,.call (aKd n l3) [(49,0),(330460001,8589934592)] [])])) λc6 h=>ie h (λc7 bI=>by have c7:=eq_of_beq c7;subst c7;exact (
 be bI λgC l3 bI=>ra (CV n bI) [(0,.ord [0,2,1,3,4,5]),(2,.call (GM n cX) [] [(330460001,201001)]),(15,dO kC),(0,JM.row pc),(1,.Am (aKc n l3) [bW.tfr false 330460001 x2.ai,.fX 49 (Q:= []) (n:=0) rfl] trivial [] [])])) λc7 h=>nz h
def anu (n:Nat) (s0:ag) (m1:aF):Option (ag×Bool):=
 (F97 n).bind λx5=>if decide (m1.bh<1) then
 some ((ag.mk 0 []),false)
 else
 if !decide ((bl (m1.bh - 1))<(x5.length:Int)) then
 some ((ag.mk 0 []),false)
 else
 (F98 n m1).bind λiF=>if !iF then
 some ((ag.mk 0 []),false)
 else
 if m1.bh !=6 then
 if decide (m1.aG<0) then
 some ((ag.mk 0 []),false)
 else
 if !decide (m1.aG<(s0.ai.length:Int)) then
 some ((ag.mk 0 []),false)
 else
 vf n (bl (m1.bh - 1)) s0 m1 (ag.mk 0 []) x5
 else
 vf n (bl (m1.bh - 1)) s0 m1 (ag.mk 0 []) x5
def aLV (n:Nat):K2 (A42 []) Kw (anu n):=λs0 m1 r h=>be h λx5 kR h=>let zA:SE:=[(4,.call (ev97 n kR) [] [(9,cT)])];ie h (λc0 h=>bH h zA [jS c0,(7,.pZ 4 (.flat 0 [.bool true,.sl 0 44 5 0 []]))]) λc0 h=>let zB:SE:=dU zA [jS c0];ie h (λc1 h=>bH h zB [bt c1,(6,.pZ 4 (.flat 0 [.bool true,.sl 0 44 5 0 []]))]) λc1 h=>be h λiF tv h=>let zC:SE:=dU zB [bt c1,kG (ev98 n tv)];ie h (λc2 h=>bH h zC [aI c2,(4,.pZ 4 (.flat 0 [.bool true,.sl 0 44 5 0 []]))]) λc2 h=>let zD:SE:=dU zC [aI c2];ie h (λc3 h=>ie h (λc4 h=>bH h zD [bj c3,bj c4,(6,.pZ 4 (.flat 0 [.bool true,.sl 0 44 5 0 []]))]) λc4 h=>ie h (λc5 h=>bH h zD [bj c3,bj c4,dL c5,(5,.pZ 4 (.flat 0 [.bool true,.sl 0 44 5 0 []]))]) λc5 h=>cI (ayE n h) zD [bj c3,bj c4,dL c5]) λc3 h=>cI (ayE n h) zD [bj c3]
def F42:=anu
def ev42 (n:Nat):K2 (Cx E0 42 W9 bQ) Kw (F42 n):=λ_ _ _ h=>ca (X:=zI) (aLV n h)
def ig:=fx E0 Tryz.f14 []
def A14:=Ax ig Xb Pg
def aEr (t31:cG) (t32 t33:Int) (BM:fO):LS:=⟨[(7,.ms 30 2 0 BM.length),(31,.qK 46 15 t31.length (mB t31)),(32,.int .i64 t32),(33,.int .i64 t33)],[(30,Ge BM)]⟩
def aEq (BM:fO):LS:=⟨[(7,.ms 30 2 0 BM.length)],[(30,Ge BM)]⟩
def aoB (gJ:ag) (cr:cG):LS:=⟨[(0,.agg (dP gJ)),(1,.qK 46 15 cr.length (mB cr))],[]⟩
def Yv (aN:fO->Option (fO×Int)) (back:cG->Int->Int->fO->Option (fO×Int)) (n:Nat) (t31:cG) (t32 t33:Int) (BM:fO):Option (fO×Int):=
 if decide (t33<t32) then
 (idx t31 t33).bind λx2=>(eZ BM.length (bl ((BM.length:Int) - 1))).bind λdA=>(BM[0+dA]?).bind λeh=>(F42 n eh x2).bind λfg=>if !fg.2 then
 some ([],280)
 else
 (F15 n fg.1).bind λnv=>if nv !=0 then
 some ([],280)
 else
 (app BM [fg.1]).bind λx35=>back t31 t32 (bl (t33+1)) x35
 else
 aN BM
def S8:=K1 (A14 [1,1,1,1,1]) aEq
def S7:=K4 (A14 (cF 175)) aEr
def aMI {aN} (bn:S8 aN) {back} (aS:S7 back) (n:Nat):S7 (Yv aN back n):=λt31 t32 t33 BM r h=>ie h (λc0 h=>be h λx2 cX h=>be h λdA gn h=>be h λeh iz h=>be h λfg iM h=>let zA:SE:=[aI c0,(0,R45.idx cX),(3,.ord [0,1,2,3,4,5,6,11,7,8,9,10,12,13]),(4,dO gn),(0,EY.row iz),iS (ev42 n iM)];ie h (λc1 h=>bH h zA [dL c1,(4,.born [4] [] cT false 25 2)]) λc1 h=>be h λnv sL h=>let zB:SE:=dU zA [dL c1,iS (auL n sL)];ie h (λc2 h=>bH h zB [aI c2,(3,.born [4] [] cT false 25 2)]) λc2 h=>be h λx35 abt h=>cI (aS h) zB [aI c2,(4,EY.kE abt)]) λc0 h=>ra (bn h) [aI c0]
def Mk (aN:fO->Option (fO×Int)):Nat->cG->Int->Int->fO->Option (fO×Int)
 |0=>λ_ _ _ _=>none
 |n+1=>Yv aN (Mk aN n) n
def axz {aN} (bn:S8 aN):∀n:Nat,S7 (Mk aN n)
 |0=>λ_ _ _ _ _ h=>nz h
 |n+1=>aMI bn (axz bn n) n
def Yu (n:Nat) (BM:fO):Option (fO×Int):=
 some (BM,0)
def aMH (n:Nat):S8 (Yu n):=λBM r h=>rr h [(3,.jl 30 cT)]
def anG (n:Nat) (gJ:ag) (cr:cG):Option (fO×Int):=
 (F15 n gJ).bind λx5=>if x5 !=0 then
 some ([],x5)
 else
 if decide (8<(cr.length:Int)) then
 some ([],2)
 else
 if decide (1000<(bl (gJ.aw+(cr.length:Int)))) then
 some ([],2)
 else
 (F41 n gJ).bind λnc=>Mk (Yu n) n cr (cr.length:Int) 0 [nc]
def aMG (n:Nat):K2 (A14 []) aoB (anG n):=λgJ cr r h=>be h λx5 kR h=>let zA:SE:=[mV (auL n kR)];ie h (λc0 h=>bH h zA [ba c0,(3,.born [4] [] cT false 25 2)]) λc0 h=>ie h (λc1 h=>bH h zA [ba c0,ba c1,(4,.born [4] [] cT false 25 2)]) λc1 h=>ie h (λc2 h=>bH h zA [ba c0,ba c1,dL c2,(3,.born [4] [] cT false 25 2)]) λc2 h=>be h λnc pc h=>cI (axz (aMH n) n h) zA [ba c0,ba c1,dL c2,(2,.call (GM n pc) [] [(330290001,r9)]),(0,bW.tfr false 330290001 nc.ai)]
def F14:=anG
def ev14 (n:Nat):K2 (Cx E0 14 Xb Pg) aoB (F14 n):=λ_ _ _ h=>ca (X:=ig) (aMG n h)
def awA (r:(jU×Int)):AV:=.cS [.agg (ER r.1),cg r.2]
def x54:=fx E0 Tryz.f54 []
def A54:=Ax x54 awA bQ
def aok (gJ:ag) (cr:cG) (jX:Int):LS:=⟨[(0,.agg (dP gJ)),(1,.qK 46 15 cr.length (mB cr)),(2,.int .i64 jX)],[]⟩
def ano (n:Nat) (gJ:ag) (cr:cG) (jX:Int):Option (jU×Int):=
 (F14 n gJ cr).bind λx6=>if x6.2 !=0 then
 some ((jU.mk [] []),x6.2)
 else
 if decide (jX<gJ.aw) then
 some ((jU.mk [] []),1)
 else
 if !decide ((bl (jX - gJ.aw))<(x6.1.length:Int)) then
 some ((jU.mk [] []),1)
 else
 (cut x6.1 (some (bl (jX - gJ.aw))) none).bind λx35=>(cut cr (some (bl (jX - gJ.aw))) none).bind λrW=>some ((jU.mk x35 rW),0)
def aLu (n:Nat):K3 (A54 []) aok (ano n):=λgJ cr jX r h=>be h λx6 lC h=>let zA:SE:=[(5,.call (ev14 n lC) [] [(301400,cT)])];ie h (λc0 h=>bH h zA [dL c0,(4,.pZ 6 (.flat 0 [.sl 2 25 2 0 [],.sl 2 46 15 0 []]))]) λc0 h=>ie h (λc1 h=>bH h zA [dL c0,bj c1,(5,.pZ 6 (.flat 0 [.sl 2 25 2 0 [],.sl 2 46 15 0 []]))]) λc1 h=>ie h (λc2 h=>bH h zA [dL c0,bj c1,jS c2,(4,.pZ 6 (.flat 0 [.sl 2 25 2 0 [],.sl 2 46 15 0 []]))]) λc2 h=>be h λx35 abt h=>be h λrW Bm h=>bH h zA [dL c0,bj c1,jS c2,(6,EY.fX 301400 x6.1),(2,EY.cut abt),(2,R45.cut Bm)]
def F54:=ano
def ev54 (n:Nat):K3 (Cx E0 54 awA bQ) aok (F54 n):=λ_ _ _ _ h=>ca (X:=x54) (aLu n h)
def Xa (r:ag):AV:=.agg (dP r)
def x55:=fx E0 Tryz.f55 []
def A55:=Ax x55 Xa bQ
def OD (l0:jU):LS:=⟨[(0,.agg (ER l0))],[]⟩
def ann (n:Nat) (l0:jU):Option ag:=
 (idx l0.BB (bl ((l0.BB.length:Int) - 1))).bind λx9=>some x9
def aLt (n:Nat):K1 (A55 []) OD (ann n):=λl0 r h=>be h λx9 iO h=>rr h [(8,EY.idx iO)]
def F55:=ann
def ev55 (n:Nat):K1 (Cx E0 55 Xa bQ) OD (F55 n):=λ_ _ h=>ca (X:=x55) (aLt n h)
def x56:=fx E0 Tryz.f56 []
def A56:=Ax x56 Xa bQ
def ayR (n:Nat) (l0:jU):Option ag:=
 (idx l0.BB 0).bind λx5=>some x5
def aLs (n:Nat):K1 (A56 []) OD (ayR n):=λl0 r h=>be h λx5 kR h=>rr h [(4,EY.idx kR)]
def F56:=ayR
def ale (n:Nat):K1 (Cx E0 56 Xa bQ) OD (F56 n):=λ_ _ h=>ca (X:=x56) (aLs n h)
def O1 (r:aR):AV:=.agg (lN r)
def x157:=fx E0 Tryz.f157 []
def anN:=Ax x157 O1 bQ
def aAa (pI:Int) (t9:gz) (t10 t11:Int) (t19:Bool) (b4 b6:aR) (b8:ji):LS:=⟨[(2,.int .i64 pI),(4,.loc 4 0),(6,.loc 6 0),(8,.loc 8 0),(9,.slice 110 6 t9.length (cR t9)),(10,.int .i64 t10),(11,.int .i64 t11),(19,.bool t19)],[(4,xJ (lN b4)),(6,xJ (lN b6)),(8,.flat 110 (yY b8))]⟩
def azZ (pI:Int) (t9:gz) (t10 t11:Int) (b4 b6:aR):LS:=⟨[(2,.int .i64 pI),(4,.loc 4 0),(6,.loc 6 0),(9,.slice 110 6 t9.length (cR t9)),(10,.int .i64 t10),(11,.int .i64 t11)],[(4,xJ (lN b4)),(6,xJ (lN b6))]⟩
def azY (b4 b6:aR):LS:=⟨[(4,.loc 4 0),(6,.loc 6 0)],[(4,xJ (lN b4)),(6,xJ (lN b6))]⟩
def agI (Ef:gz) (v1:aR) (pI:Int):LS:=⟨[(0,.slice 110 6 Ef.length (cR Ef)),(1,.agg (lN v1)),(2,.int .i64 pI)],[]⟩
def Rn (aN:Wf56) (n:Nat) (pI:Int) (t9:gz) (t10 t11:Int) (t19:Bool) (b4 b6:aR) (b8:ji):Option aR:=
 if t19 then
 if (bl (1 - pI))==0 then
 some b8.f0
 else
 if (bl (1 - pI))==1 then
 some b8.f1
 else
 none
 else
 aN pI t9 t10 (bl (t11+1)) b4 b6
def KO:=K6 (anN [0,1,0,1]) azZ
def arD {aN} (bn:KO aN) (n:Nat):K8 (anN (cF 3685)) aAa (Rn aN n):=λpI t9 t10 t11 t19 b4 b6 b8 r h=>ie h (λc0 bI=>by subst c0;exact (ie bI (λc1 bI=>rr bI [(1,en (k:=.i64) c1)]) λc1 bI=>ie bI (λc2 bI=>rr bI [(1,en (k:=.i64) c2)]) λc2 bI=>nz bI)) λc0 bI=>by subst c0;exact (ra (bn bI) [])
def Rm (bw:amc) (back:Wf56) (n:Nat) (pI:Int) (t9:gz) (t10 t11:Int) (b4 b6:aR):Option aR:=
 if decide (t11<t10) then
 (idx t9 t11).bind λx2=>if pI==0 then
 Rn back n 0 t9 t10 t11 ((x2.f0.ax==b4.ax) && ((x2.f0.bX==b4.bX) && ((decide (x2.f0.bB=b4.bB)) && true))) b4 b6 x2
 else
 if pI==1 then
 Rn back n 1 t9 t10 t11 ((x2.f1.ax==b4.ax) && ((x2.f1.bX==b4.bX) && ((decide (x2.f1.bB=b4.bB)) && true))) b4 b6 x2
 else
 none
 else
 bw b4 b6
def S6:=K2 (anN [1,1]) azY
def aGM {bw} (cM:S6 bw) {back} (aS:KO back) (n:Nat):KO (Rm bw back n):=λpI t9 t10 t11 b4 b6 r h=>ie h (λc0 h=>be h λx2 cX h=>ie h (λc1 bI=>by have c1:=eq_of_beq c1;subst c1;exact (
 ra (arD aS n bI) [aI c0,(0,DC.idx cX)])) λc1 h=>ie h (λc2 bI=>by have c2:=eq_of_beq c2;subst c2;exact (
 ra (arD aS n bI) [aI c0,(0,DC.idx cX)])) λc2 h=>nz h) λc0 h=>ra (cM h) [aI c0]
def Ff (bw:amc):Nat->Int->gz->Int->Int->aR->aR->Option aR
 |0=>λ_ _ _ _ _ _=>none
 |n+1=>Rm bw (Ff bw n) n
def aqd {bw} (cM:S6 bw):∀n:Nat,KO (Ff bw n)
 |0=>λ_ _ _ _ _ _ _ h=>nz h
 |n+1=>aGM cM (aqd cM n) n
def Rl (n:Nat) (b4 b6:aR):Option aR:=
 some b4
def aGL (n:Nat):S6 (Rl n):=λb4 b6 r h=>rr h []
def asn (n:Nat) (Ef:gz) (v1:aR) (pI:Int):Option aR:=
 Ff (Rl n) n pI Ef (Ef.length:Int) 0 v1 (aR.mk 0 0 ByteArray.empty)
def aGK (n:Nat):K3 (anN []) agI (asn n):=λEf v1 pI r h=>ra (aqd (aGL n) n h) []
def avN:=asn
def aKb (n:Nat):K3 (Cx E0 157 O1 bQ) agI (avN n):=λ_ _ _ _ h=>ca (X:=x157) (aGK n h)
def x107:=fx E0 Tryz.f107 []
def awc:=Ax x107 O1 bQ
def aAX (i5:Int) (b2:ep) (b3 b4:aR):LS:=⟨[(2,.loc 2 0),(3,.loc 3 0),(4,.loc 4 0),(5,cg i5)],[(2,.flat 140 (EP b2)),(3,xJ (lN b3)),(4,xJ (lN b4))]⟩
def aAW (b3 b4:aR):LS:=⟨[(3,.loc 3 0),(4,.loc 4 0)],[(3,xJ (lN b3)),(4,xJ (lN b4))]⟩
def aha (p0:ep) (v1:aR):LS:=⟨[(0,.agg (EP p0)),(1,.agg (lN v1))],[]⟩
def Sb (aN:amc) (back:Int->ep->aR->aR->Option aR) (n:Nat) (i5:Int) (b2:ep) (b3 b4:aR):Option aR:=
 if !decide (i5<0) then
 (idx b2.gY i5).bind λx6=>(avN n x6 b3 1).bind λdB=>back (bl (i5 - 1)) b2 dB b4
 else
 aN b3 b4
def S5:=K2 (awc [1,1]) aAW
def S4:=K4 (awc [0,1,0,1]) aAX
def aIr {aN} (bn:S5 aN) {back} (aS:S4 back) (n:Nat):S4 (Sb aN back n):=λi5 b2 b3 b4 r h=>ie h (λc0 h=>be h λx6 lC h=>be h λdB kS h=>ra (aS h) [bb c0,(3,R39.idx lC),iS (aKb n kS)]) λc0 h=>ra (bn h) [bb c0]
def Fy (aN:amc):Nat->Int->ep->aR->aR->Option aR
 |0=>λ_ _ _ _=>none
 |n+1=>Sb aN (Fy aN n) n
def aqE {aN} (bn:S5 aN):∀n:Nat,S4 (Fy aN n)
 |0=>λ_ _ _ _ _ h=>nz h
 |n+1=>aIr bn (aqE bn n) n
def Sa (n:Nat) (b3 b4:aR):Option aR:=
 some b3
def aIq (n:Nat):S5 (Sa n):=λb3 b4 r h=>rr h []
def afa (n:Nat) (p0:ep) (v1:aR):Option aR:=
 Fy (Sa n) n (bl ((p0.gY.length:Int) - 1)) p0 v1 (aR.mk 0 0 ByteArray.empty)
def aIp (n:Nat):K2 (awc []) aha (afa n):=λp0 v1 r h=>ra (aqE (aIq n) n h) []
def adK:=afa
def ayo (n:Nat):K2 (Cx E0 107 O1 bQ) aha (adK n):=λ_ _ _ h=>ca (X:=x107) (aIp n h)
def awy (r:ep):AV:=.agg (EP r)
def x63:=fx E0 Tryz.f63 []
def A63:=Ax x63 awy bQ
def aDA (t10 c11:Int) (t16:cG) (t17 t18:Int) (b6 b7:ep) (mj:ye):LS:=⟨[(6,.loc 6 0),(7,.loc 7 0),(10,.int .i64 t10),(11,.int .i64 c11),(16,.qK 46 15 t16.length (mB t16)),(17,.int .i64 t17),(18,.int .i64 t18)],(atc b6 b7 mj.length mj)⟩
def aDz (t16:cG) (t17 t18:Int) (b6 b7:ep) (b9:aF) (mj:ye):LS:=⟨[(6,.loc 6 0),(7,.loc 7 0),(9,.loc 9 0),(16,.qK 46 15 t16.length (mB t16)),(17,.int .i64 t17),(18,.int .i64 t18)],[(6,.flat 140 [.int .i64 b6.iv,.int .i64 b6.fK,.bool b6.dM,.int .i64 b6.fI.ax,.int .i64 b6.fI.bX,.str b6.fI.bB,.dD]),(7,.flat 140 [.int .i64 b7.iv,.int .i64 b7.fK,.bool b7.dM,.int .i64 b7.fI.ax,.int .i64 b7.fI.bX,.str b7.fI.bB,.ms 44 1 0 mj.length]),(9,ux (mr b9)),(44,.rows true 39 1 (Iv mj))]⟩
def aDy (t16:cG) (t17 t18:Int) (b6 b7:ep) (mj:ye):LS:=⟨[(6,.loc 6 0),(7,.loc 7 0),(16,.qK 46 15 t16.length (mB t16)),(17,.int .i64 t17),(18,.int .i64 t18)],(atc b6 b7 mj.length mj)⟩
def aDx (b6 b7:ep) (mj:ye):LS:=⟨[(6,.loc 6 0),(7,.loc 7 0)],(atc b6 b7 mj.length mj)⟩
def aoj (sE:cG) (dh jd:Int):LS:=⟨[(0,.qK 46 15 sE.length (mB sE)),(1,.int .i64 dh),(2,.int .i64 jd)],[]⟩
def QB (bw:avv) (n:Nat) (t10 c11:Int) (t16:cG) (t17 t18:Int) (b6 b7:ep) (mj:ye):Option ep:=
 bw t16 t17 (bl (t18+1)) (ep.mk b6.iv b6.fK b6.dM b6.fI []) (ep.mk t10 c11 b7.dM b7.fI mj) mj
def D5:=K6 (A63 [0,1,0,1,1]) aDy
def ayC {bw} (cM:D5 bw) (n:Nat):K8 (A63 (cF 64715)) aDA (QB bw n):=λt10 c11 t16 t17 t18 b6 b7 mj r h=>ra (cM h) []
def Hr (bw:avv) (n:Nat) (t16:cG) (t17 t18:Int) (b6 b7:ep) (b9:aF) (mj:ye):Option ep:=
 (VF n b9 b7.iv b7.fK).bind λx6=>if decide (x6.1<0) then
 some (ep.mk (-1) (-1) false (aR.mk 0 0 ByteArray.empty) [])
 else
 if !x6.2.2 then
 (adK n (ep.mk b7.iv b7.fK b7.dM b7.fI mj) b9.aD).bind λnc=>QB bw n x6.1 x6.2.1 t16 t17 t18 (ep.mk b6.iv b6.fK b6.dM b6.fI []) (ep.mk b7.iv b7.fK false nc mj) mj
 else
 QB bw n x6.1 x6.2.1 t16 t17 t18 (ep.mk b6.iv b6.fK b6.dM b6.fI []) (ep.mk b7.iv b7.fK b7.dM b7.fI mj) mj
def Xz {bw} (cM:D5 bw) (n:Nat):K7 (A63 (cF 7371)) aDz (Hr bw n):=λt16 t17 t18 b6 b7 b9 mj r h=>be h λx6 lC h=>let zA:SE:=[oY (ayn n lC)];ie h (λc0 h=>bH h zA [iw c0,(2,.pZ 6 (.flat 0 [.bool true,.bool true,.bool true,.bool true,.bool true,.bool true,.sl 0 39 1 0 []]))]) λc0 h=>ie h (λc1 h=>be h λnc pc h=>cI (ayC cM n h) zA [iw c0,bb c1,(3,.Am (ayo n pc) [R39.fX 44 mj] trivial [] [])]) λc1 h=>cI (ayC cM n h) zA [iw c0,bb c1]
def XX (bD:Wf59) (back:avv) (n:Nat) (t16:cG) (t17 t18:Int) (b6 b7:ep) (mj:ye):Option ep:=
 if decide (t18<t17) then
 (idx t16 t18).bind λx2=>if x2.bh==8 then
 if x2.aG==b7.iv then
 if x2.aO==b7.fK then
 (app mj [x2.bc]).bind λHz=>Hr back n t16 t17 t18 (ep.mk b6.iv b6.fK b6.dM b6.fI []) (ep.mk b7.iv b7.fK b7.dM b7.fI Hz) x2 Hz
 else
 Hr back n t16 t17 t18 (ep.mk b6.iv b6.fK b6.dM b6.fI []) (ep.mk b7.iv b7.fK b7.dM b7.fI mj) x2 mj
 else
 Hr back n t16 t17 t18 (ep.mk b6.iv b6.fK b6.dM b6.fI []) (ep.mk b7.iv b7.fK b7.dM b7.fI mj) x2 mj
 else
 Hr back n t16 t17 t18 (ep.mk b6.iv b6.fK b6.dM b6.fI []) (ep.mk b7.iv b7.fK b7.dM b7.fI mj) x2 mj
 else
 bD (ep.mk b6.iv b6.fK b6.dM b6.fI []) (ep.mk b7.iv b7.fK b7.dM b7.fI mj) mj
def S3:=K3 (A63 [1,1,1]) aDx
def aLq {bD} (cU:S3 bD) {back} (aS:D5 back) (n:Nat):D5 (XX bD back n):=λt16 t17 t18 b6 b7 mj r h=>ie h (λc0 h=>be h λx2 cX h=>let zA:SE:=[aI c0,(0,R45.idx cX)];ie h (λc1 h=>ie h (λc2 h=>ie h (λc3 h=>be h λHz NA h=>cI (Xz aS n h) zA [cq c1,cq c2,dL c3,(6,R39.kE NA)]) λc3 h=>cI (Xz aS n h) zA [cq c1,cq c2,dL c3]) λc2 h=>cI (Xz aS n h) zA [cq c1,cq c2]) λc1 h=>cI (Xz aS n h) zA [cq c1]) λc0 h=>ra (cU h) [aI c0]
def Ha (bD:Wf59):Nat->cG->Int->Int->ep->ep->ye->Option ep
 |0=>λ_ _ _ _ _ _=>none
 |n+1=>XX bD (Ha bD n) n
def axc {bD} (cU:S3 bD):∀n:Nat,D5 (Ha bD n)
 |0=>λ_ _ _ _ _ _ _ h=>nz h
 |n+1=>aLq cU (axc cU n) n
def QA (n:Nat) (b6 b7:ep) (mj:ye):Option ep:=
 some (ep.mk b7.iv b7.fK b7.dM b7.fI mj)
def aLp (n:Nat):S3 (QA n):=λb6 b7 mj r h=>rr h [(2,R39.fX 44 mj),(0,.pZ 6 (.flat 0 [.bool true,.bool true,.bool true,.bool true,.bool true,.bool true,.sl 0 0 0 0 []]))]
def ayQ (n:Nat) (sE:cG) (dh jd:Int):Option ep:=
 Ha (QA n) n sE (sE.length:Int) 0 (ep.mk 0 0 false (aR.mk 0 0 ByteArray.empty) []) (ep.mk dh jd true (aR.mk 0 0 ByteArray.empty) []) []
def aLo (n:Nat):K3 (A63 []) aoj (ayQ n):=λsE dh jd r h=>ra (axc (aLp n) n h) [(9,.born [] [(7,6)] 44 true 39 1)]
def F63:=ayQ
def auI (n:Nat):K3 (Cx E0 63 awy bQ) aoj (F63 n):=λ_ _ _ _ h=>ca (X:=x63) (aLo n h)
def aoX (r:mR):AV:=.ms cT 7 0 r.length
def ahy (r:mR):List (Nat×Bx):= [(cT,.rows true 140 7 (vI r))]
def x105:=fx E0 Tryz.f105 []
def awd:=Ax x105 aoX ahy
def aBc (t1 t14 t15:Int) (b2:jU) (HP:mR):LS:=⟨[(1,cg t1),(2,.loc 2 0),(5,.ms 25 7 0 HP.length),(14,cg t14),(15,cg t15)],[(2,.flat 123 (ER b2)),(25,.rows true 140 7 (vI HP))]⟩
def aBb (HP:mR):LS:=⟨[(5,.ms 25 7 0 HP.length)],[(25,.rows true 140 7 (vI HP))]⟩
def KJ (l0:jU) (t1:Int):LS:=⟨[(0,.agg (ER l0)),(1,cg t1)],[]⟩
def Sf (aN:mR->Option mR) (back:Int->Int->Int->jU->mR->Option mR) (n:Nat) (t1 t14 t15:Int) (b2:jU) (HP:mR):Option mR:=
 if decide (t15<t14) then
 (F63 n b2.Jo t1 t15).bind λx9=>(app HP [x9]).bind λgP=>back t1 t14 (bl (t15+1)) b2 gP
 else
 aN HP
def S2:=K1 (awd [1,1,1]) aBb
def S1:=K5 (awd [0,1,0,1,1]) aBc
def aIx {aN} (bn:S2 aN) {back} (aS:S1 back) (n:Nat):S1 (Sf aN back n):=λt1 t14 t15 b2 HP r h=>ie h (λc0 h=>be h λx9 iO h=>be h λgP jC h=>ra (aS h) [aI c0,yo (auI n iO),(1,amp.kE jC)]) λc0 h=>ra (bn h) [aI c0]
def Fz (aN:mR->Option mR):Nat->Int->Int->Int->jU->mR->Option mR
 |0=>λ_ _ _ _ _=>none
 |n+1=>Sf aN (Fz aN n) n
def aqG {aN} (bn:S2 aN):∀n:Nat,S1 (Fz aN n)
 |0=>λ_ _ _ _ _ _ h=>nz h
 |n+1=>aIx bn (aqG bn n) n
def Se (n:Nat) (HP:mR):Option mR:=
 some HP
def aIw (n:Nat):S2 (Se n):=λHP r h=>rr h [(2,.jl 25 cT)]
def afc (n:Nat) (l0:jU) (t1:Int):Option mR:=
 (F56 n l0).bind λx5=>(idx x5.ai t1).bind λx9=>Fz (Se n) n t1 (x9.ae.length:Int) 0 l0 []
def aIv (n:Nat):K2 (awd []) KJ (afc n):=λl0 t1 r h=>be h λx5 kR h=>be h λx9 iO h=>ra (aqG (aIw n) n h) [mV (ale n kR),(2,bW.idx iO),(4,.born [5] [] 25 true 140 7)]
def avQ:=afc
def aKs (n:Nat):K2 (Cx E0 105 aoX ahy) KJ (avQ n):=λ_ _ _ h=>ca (X:=x105) (aIv n h)
def x106:=fx E0 Tryz.f106 []
def anO:=Ax x106 Ec AF
def aBa (qM:cE) (t11:mR) (t12 t13:Int) (wO:cE) (b7:aR):LS:=⟨[(0,.slice 38 3 qM.length (fG qM)),(4,.ms 31 3 0 wO.length),(7,.loc 7 0),(11,.slice 140 7 t11.length (vI t11)),(12,.int .i64 t12),(13,.int .i64 t13)],[(7,xJ (lN b7)),(31,IB wO)]⟩
def aAZ (qM:cE) (t11:mR) (t12 t13:Int) (wO:cE):LS:=⟨[(0,.slice 38 3 qM.length (fG qM)),(4,.ms 31 3 0 wO.length),(11,.slice 140 7 t11.length (vI t11)),(12,.int .i64 t12),(13,.int .i64 t13)],[(31,IB wO)]⟩
def aAY (wO:cE):LS:=⟨[(4,.ms 31 3 0 wO.length)],[(31,IB wO)]⟩
def ahb (qM:cE) (t1:mR):LS:=⟨[(0,.slice 38 3 qM.length (fG qM)),(1,.ju (abU t1))],[]⟩
def Kg (aN:Wf60) (n:Nat) (qM:cE) (t11:mR) (t12 t13:Int) (wO:cE) (b7:aR):Option cE:=
 (app wO [b7]).bind λx4=>aN qM t11 t12 (bl (t13+1)) x4
def KN:=K5 (anO (cF 87)) aAZ
def arK {aN} (bn:KN aN) (n:Nat):K6 (anO (cF 31127)) aBa (Kg aN n):=λqM t11 t12 t13 wO b7 r h=>be h λx4 jm h=>ra (bn h) [(3,p8.kE jm)]
def Sd (bw:cE->Option cE) (back:Wf60) (n:Nat) (qM:cE) (t11:mR) (t12 t13:Int) (wO:cE):Option cE:=
 if decide (t13<t12) then
 (idx t11 t13).bind λx2=>if x2.dM then
 (idx qM x2.fK).bind λiG=>(adK n x2 iG).bind λkL=>Kg back n qM t11 t12 t13 wO kL
 else
 Kg back n qM t11 t12 t13 wO x2.fI
 else
 bw wO
def S0:=K1 (anO [1,1,1,1]) aAY
def aIu {bw} (cM:S0 bw) {back} (aS:KN back) (n:Nat):KN (Sd bw back n):=λqM t11 t12 t13 wO r h=>ie h (λc0 h=>be h λx2 cX h=>ie h (λc1 h=>be h λiG kg h=>be h λkL kC h=>ra (arK aS n h) [aI c0,(0,amp.idx cX),iw c1,(4,p8.idx kg),CA (ayo n kC)]) λc1 h=>ra (arK aS n h) [aI c0,(0,amp.idx cX),iw c1]) λc0 h=>ra (cM h) [aI c0]
def B4 (bw:cE->Option cE):Nat->cE->mR->Int->Int->cE->Option cE
 |0=>λ_ _ _ _ _=>none
 |n+1=>Sd bw (B4 bw n) n
def aqF {bw} (cM:S0 bw):∀n:Nat,KN (B4 bw n)
 |0=>λ_ _ _ _ _ _ h=>nz h
 |n+1=>aIu cM (aqF cM n) n
def Kf (n:Nat) (wO:cE):Option cE:=
 some wO
def aIt (n:Nat):S0 (Kf n):=λwO r h=>rr h [(2,.jl 31 cT)]
def afb (n:Nat) (qM:cE) (t1:mR):Option cE:=
 if (qM.length:Int)==0 then
 some []
 else
 B4 (Kf n) n qM t1 (t1.length:Int) 0 []
def aIs (n:Nat):K2 (anO []) ahb (afb n):=λqM t1 r h=>ie h (λc0 h=>rr h [bj c0,(1,.born [3] [] cT true 38 3)]) λc0 h=>ra (aqF (aIt n) n h) [bj c0,(4,.born [4] [] 31 true 38 3)]
def amN:=afb
def aKr (n:Nat):K2 (Cx E0 106 Ec AF) ahb (amN n):=λ_ _ _ h=>ca (X:=x106) (aIs n h)
def awz (r:(Int×mR)):AV:=.cS [cg r.1,.fn 106 [] [.ju (abU r.2)]]
def x57:=fx E0 Tryz.f57 []
def A57:=Ax x57 awz bQ
def anm (n:Nat) (l0:jU) (t1:Int):Option (Int×mR):=
 (avQ n l0 t1).bind λx6=>(F63 n l0.Jo t1 (-1)).bind λeh=>some (eh.iv,x6)
def aLr (n:Nat):K2 (A57 []) KJ (anm n):=λl0 t1 r h=>be h λx6 lC h=>be h λeh iz h=>rr h [(5,.call (aKs n lC) [] [(9,cT)]),oY (auI n iz),(4,amp.fX 9 x6),(0,.pZ 6 (.flat 0 [.sl 0 0 0 0 []])),(0,.fX 6 (Q:= []) (n:=0) rfl)]
def F57:=anm
def ev57 (n:Nat):K2 (Cx E0 57 awz bQ) KJ (F57 n):=λ_ _ _ h=>ca (X:=x57) (aLr n h)
def awG (r:(aW×Int)):AV:=.cS [.agg (ud r.1),cg r.2]
def pG:=fx E0 Tryz.f21 []
def A21:=Ax pG awG bQ
def aEk (t16:Int) (Bg:mR) (t49 t50:Int) (t65:bS) (t66 t67:Int) (b9 hJ:aW) (bR:jU) (qp:aW) (eE:ey):LS:=⟨[(9,.loc 9 0),(10,.loc 10 0),(12,.loc 12 0),(15,.loc 15 0),(16,.int .i64 t16),(18,.fn 106 [] [.ju (abU Bg)]),(49,.int .i64 t49),(50,.int .i64 t50),(65,.slice 70 1 t65.length (nV t65)),(66,.int .i64 t66),(67,.int .i64 t67)],[(9,.flat 51 (ud b9)),(10,Dj),(12,.flat 123 (ER bR)),(15,.flat 51 [.ms 45 1 0 eE.length]),(45,atb eE)]⟩
def aox (t49 t50:Int) (b9 hJ:aW) (bR:jU) (qp:aW) (eE:ey):LS:=⟨[(9,.loc 9 0),(10,.loc 10 0),(12,.loc 12 0),(15,.loc 15 0),(49,cg t49),(50,cg t50)],[(9,.flat 51 (ud b9)),(10,Dj),(12,.flat 123 (ER bR)),(15,.flat 51 [.ms 45 1 0 eE.length]),(45,atb eE)]⟩
def aEj (hJ qp:aW) (eE:ey):LS:=⟨[(10,.loc 10 0),(15,.loc 15 0)],[(10,Dj),(15,.flat 51 [.ms 45 1 0 eE.length]),(45,atb eE)]⟩
def aow (gJ:ag) (cr:cG) (jX dC:Int) (st4:aW):LS:=⟨[(0,.agg (dP gJ)),(1,.qK 46 15 cr.length (mB cr)),(2,.int .i64 jX),(3,.int .i64 dC),(4,.agg (ud st4))],[]⟩
def Yl (aN:amb) (back:Int->mR->Int->Int->bS->Int->Int->aW->aW->jU->aW->ey->Option (aW×Int)) (n:Nat) (t16:Int) (Bg:mR) (t49 t50:Int) (t65:bS) (t66 t67:Int) (b9 hJ:aW) (bR:jU) (qp:aW) (eE:ey):Option (aW×Int):=
 if decide (t67<t66) then
 (idx t65 t67).bind λx2=>(eZ eE.length t16).bind λx5=>(eE[0+x5]?).bind λu7=>(amN n x2 Bg).bind λjj=>(app u7 [jj]).bind λnc=>(setAt eE (0+x5) nc).bind λz28=>back t16 Bg t49 t50 t65 t66 (bl (t67+1)) b9 (aW.mk []) bR (aW.mk z28) z28
 else
 aN t49 t50 b9 (aW.mk []) bR (aW.mk eE) eE
def SZ:=K7 (A21 (cF 7775)) aox
def SY:=K12 (A21 (cF 386655)) aEk
def aMs {aN} (bn:SZ aN) {back} (aS:SY back) (n:Nat):SY (Yl aN back n):=λt16 Bg t49 t50 t65 t66 t67 b9 hJ bR qp eE r h=>ie h (λc0 h=>be h λx2 cX h=>be h λx5 kR h=>be h λu7 hu7 h=>be h λjj nL h=>be h λnc pc h=>be h λz28 wv h=>ra (aS h) [aI c0,(0,o8.idx cX),(2,C3.ny o8 45 800450 0 false 70 1 u7 hu7 [.undef] (by kernel_rfl) (by kernel_rfl)),(6,dO kR),(3,zM (gj.res (.sl 0 38 3 0 []) (cd (e:=38) (z:=true) (Q:=fG jj) (aKr n nL) (p8.len jj)))),(1,o8.kE pc),(0,dO kR),(0,C3.xV 0 [.undef] [.undef] hu7 (by kernel_rfl)),(2,C3.gQ o8 (r:= [.undef]) 45 800450 0 false 70 1 nc wv (by kernel_rfl)),(0,.beq 15 (bM (λn_=>(Bx.flat 51 [.ms 45 1 0 n_])) (ew wv)))]) λc0 h=>ra (bn h) [aI c0]
def Mg (aN:amb):Nat->Int->mR->Int->Int->bS->Int->Int->aW->aW->jU->aW->ey->Option (aW×Int)
 |0=>λ_ _ _ _ _ _ _ _ _ _ _ _=>none
 |n+1=>Yl aN (Mg aN n) n
def axt {aN} (bn:SZ aN):∀n:Nat,SY (Mg aN n)
 |0=>λ_ _ _ _ _ _ _ _ _ _ _ _ _ h=>nz h
 |n+1=>aMs bn (axt bn n) n
def MD (bw:amb) (n:Nat) (t49 t50:Int) (b9 hJ:aW) (bR:jU) (qp:aW) (eE:ey):Option (aW×Int):=
 bw t49 (bl (t50+1)) b9 (aW.mk []) bR (aW.mk eE) eE
def KM:=K7 (A21 (cF 351)) aox
def ayK {bw} (cM:KM bw) (n:Nat):SZ (MD bw n):=λt49 t50 b9 hJ bR qp eE r h=>ra (cM h) []
def Yk (bD:Wf62) (back:amb) (n:Nat) (t49 t50:Int) (b9 hJ:aW) (bR:jU) (qp:aW) (eE:ey):Option (aW×Int):=
 if decide (t50<t49) then
 (F57 n bR t50).bind λx6=>if decide (x6.1<0) then
 MD back n t49 t50 b9 (aW.mk []) bR (aW.mk eE) eE
 else
 (idx b9.ai x6.1).bind λlh=>Mg (MD back n) n t50 x6.2 t49 t50 lh (lh.length:Int) 0 b9 (aW.mk []) bR (aW.mk eE) eE
 else
 bD (aW.mk []) (aW.mk eE) eE
def SX:=K3 (A21 (cF 127)) aEj
def aMr {bD} (cU:SX bD) {back} (aS:KM back) (n:Nat):KM (Yk bD back n):=λt49 t50 b9 hJ bR qp eE r h=>ie h (λc0 h=>be h λx6 lC h=>let zA:SE:=[aI c0,mV (ev57 n lC)];ie h (λc1 h=>cI (ayK aS n h) zA [dL c1]) λc1 h=>be h λlh pd h=>cI (axt (ayK aS n) n h) zA [dL c1,(3,C3.idx pd)]) λc0 h=>ra (cU h) [aI c0]
def C7 (bD:Wf62):Nat->Int->Int->aW->aW->jU->aW->ey->Option (aW×Int)
 |0=>λ_ _ _ _ _ _ _=>none
 |n+1=>Yk bD (C7 bD n) n
def axs {bD} (cU:SX bD):∀n:Nat,KM (C7 bD n)
 |0=>λ_ _ _ _ _ _ _ _ h=>nz h
 |n+1=>aMr cU (axs cU n) n
def MC (n:Nat) (hJ qp:aW) (eE:ey):Option (aW×Int):=
 some ((aW.mk eE),0)
def aMq (n:Nat):SX (MC n):=λhJ qp eE r h=>rr h [(3,C3.tfr false 45 eE)]
def anC (n:Nat) (gJ:ag) (cr:cG) (jX dC:Int) (st4:aW):Option (aW×Int):=
 (F54 n gJ cr jX).bind λx8=>if x8.2 !=0 then
 some ((aW.mk []),x8.2)
 else
 (F55 n x8.1).bind λjj=>(F26 n jj dC st4).bind λiF=>if iF !=0 then
 some ((aW.mk []),iF)
 else
 (F56 n x8.1).bind λHz=>(rz (Hz.ai.length:Int) ([]:bS)).bind λmO=>C7 (MC n) n (mO.length:Int) 0 st4 (aW.mk []) x8.1 (aW.mk mO) mO
def aMp (n:Nat):K5 (A21 []) aow (anC n):=λgJ cr jX dC st4 r h=>be h λx8 oH h=>let zA:SE:=[yo (ev54 n oH)];ie h (λc0 h=>bH h zA [jS c0,(4,.pZ 10 (.flat 0 [.sl 0 68 1 0 []]))]) λc0 h=>be h λjj nL h=>be h λiF tv h=>let zB:SE:=dU zA [jS c0,(0,.ord [0,2,3,1,4,5]),kG (ev55 n nL),oZ (ev26 n tv)];ie h (λc1 h=>bH h zB [ba c1,(4,.pZ 10 (.flat 0 [.sl 0 68 1 0 []]))]) λc1 h=>be h λHz NA h=>be h λmO wz h=>cI (axs (aMq n) n h) zB [ba c1,CA (ale n NA),(2,C3.made wz [.o false [.d]]),(0,.seq 45 (bM (AV.ms 45 1 0) ((Nd wz))))]
def F21:=anC
def ev21 (n:Nat):K5 (Cx E0 21 awG bQ) aow (F21 n):=λ_ _ _ _ _ _ h=>ca (X:=pG) (aMp n h)
def Cc:=fx E0 Tryz.f24 []
def A24:=Ax Cc O4 bQ
def aov (gJ:ag) (cr:cG) (jX AT AJ:Int):LS:=⟨[(0,.agg (dP gJ)),(1,.qK 46 15 cr.length (mB cr)),(2,.int .i64 jX),(3,.int .i64 AT),(4,.int .i64 AJ)],[]⟩
def anB (n:Nat) (gJ:ag) (cr:cG) (jX AT AJ:Int):Option (Int×Int×Bool):=
 (F54 n gJ cr jX).bind λx8=>if x8.2 !=0 then
 some (0,0,false)
 else
 if decide (AT<0) then
 some (0,0,false)
 else
 (F56 n x8.1).bind λgC=>if !decide (AT<(gC.ai.length:Int)) then
 some (0,0,false)
 else
 if decide (AJ<(-1)) then
 some (0,0,false)
 else
 (F56 n x8.1).bind λx36=>(idx x36.ai AT).bind λx40=>if !decide (AJ<(x40.ae.length:Int)) then
 some (0,0,false)
 else
 (F63 n x8.1.Jo AT AJ).bind λH3=>if !H3.dM then
 some (0,0,false)
 else
 some (H3.iv,H3.fK,true)
def aMo (n:Nat):K5 (A24 []) aov (anB n):=λgJ cr jX AT AJ r h=>be h λx8 oH h=>let zA:SE:=[yo (ev54 n oH)];ie h (λc0 h=>bH h zA [jS c0]) λc0 h=>let zB:SE:=dU zA [jS c0];ie h (λc1 h=>bH h zB [ba c1]) λc1 h=>be h λgC l3 h=>let zC:SE:=dU zB [ba c1,mV (ale n l3)];ie h (λc2 h=>bH h zC [ba c2]) λc2 h=>let zD:SE:=dU zC [ba c2];ie h (λc3 h=>bH h zD [ba c3]) λc3 h=>be h λx36 hx36 h=>be h λx40 atX h=>let zE:SE:=dU zD [ba c3,kG (ale n hx36),(2,bW.idx atX)];ie h (λc4 h=>bH h zE [bj c4]) λc4 h=>be h λH3 atT h=>let zF:SE:=dU zE [bj c4,oY (auI n atT)];ie h (λc5 h=>bH h zF [bt c5]) λc5 h=>bH h zF [bt c5]
def F24:=anB
def ev24 (n:Nat):K5 (Cx E0 24 O4 bQ) aov (F24 n):=λ_ _ _ _ _ _ h=>ca (X:=Cc) (aMo n h)
def x7:=fx E0 Tryz.f7 []
def A7:=Ax x7 du bQ
def aJq (m5:cG) (k7 t12 HH t67 t68:Int) (t75:bS) (t76 t77:Int) (t82:cE) (t83 t84:Int) (b4:ag) (jT:fO) (b9 hJ:aW):LS:=⟨[(4,.loc 4 0),(5,.qK 46 15 m5.length (mB m5)),(6,.ms 302502 2 0 jT.length),(7,.int .i64 k7),(9,.loc 9 0),(10,.loc 10 0),(12,.int .i64 t12),(13,.int .i64 HH),(67,.int .i64 t67),(68,.int .i64 t68),(75,.slice 70 1 t75.length (nV t75)),(76,.int .i64 t76),(77,.int .i64 t77),(82,.slice 38 3 t82.length (fG t82)),(83,.int .i64 t83),(84,.int .i64 t84)],[(4,jt (dP b4)),(9,.flat 51 (ud b9)),(10,.flat 51 (ud hJ)),(302502,Ge jT)]⟩
def awq (m5:cG) (k7 t12 t67 t68:Int) (t75:bS) (t76 t77:Int) (b4:ag) (jT:fO) (b9 hJ:aW):LS:=⟨[(4,.loc 4 0),(5,.qK 46 15 m5.length (mB m5)),(6,.ms 302502 2 0 jT.length),(7,.int .i64 k7),(9,.loc 9 0),(10,.loc 10 0),(12,.int .i64 t12),(67,.int .i64 t67),(68,.int .i64 t68),(75,.slice 70 1 t75.length (nV t75)),(76,.int .i64 t76),(77,.int .i64 t77)],[(4,jt (dP b4)),(9,.flat 51 (ud b9)),(10,.flat 51 (ud hJ)),(302502,Ge jT)]⟩
def awp (m5:cG) (k7 t67 t68:Int) (b4:ag) (jT:fO) (b9 hJ:aW):LS:=⟨[(4,.loc 4 0),(5,.qK 46 15 m5.length (mB m5)),(6,.ms 302502 2 0 jT.length),(7,.int .i64 k7),(9,.loc 9 0),(10,.loc 10 0),(67,.int .i64 t67),(68,.int .i64 t68)],[(4,jt (dP b4)),(9,.flat 51 (ud b9)),(10,.flat 51 (ud hJ)),(302502,Ge jT)]⟩
def aJp:LS:=⟨[],[]⟩
def ajz (qZ:aK):LS:=⟨[(0,.qK 5 1 qZ.length (yj qZ))],[]⟩
def anf (aN:ama) (back:cG->Int->Int->Int->Int->Int->bS->Int->Int->cE->Int->Int->ag->fO->aW->aW->Option Bool) (n:Nat) (m5:cG) (k7 t12 HH t67 t68:Int) (t75:bS) (t76 t77:Int) (t82:cE) (t83 t84:Int) (b4:ag) (jT:fO) (b9 hJ:aW):Option Bool:=
 if decide (t84<t83) then
 (idx t82 t84).bind λx3=>(eZ jT.length k7).bind λeh=>(jT[0+eh]?).bind λfg=>(F24 n b4 m5 fg.aw t12 t84).bind λkL=>if !kL.2.2 then
 if decide (x3.ax<3) then
 some false
 else
 back m5 k7 t12 HH t67 t68 t75 t76 t77 t82 t83 (bl (t84+1)) b4 jT b9 hJ
 else
 (idx b9.ai kL.1).bind λx34=>(idx x34 HH).bind λx38=>(idx x38 kL.2.1).bind λzI=>if zI.ax !=x3.ax then
 some false
 else
 back m5 k7 t12 HH t67 t68 t75 t76 t77 t82 t83 (bl (t84+1)) b4 jT b9 hJ
 else
 aN m5 k7 t12 t67 t68 t75 t76 t77 b4 jT b9 hJ
def SW:=K12 (A7 (cF 7969151)) awq
def SU:=K16 (A7 (cF 93952383)) aJq
def b7_0 {aN} (bn:SW aN) {back} (aS:SU back) (n:Nat):SU (anf aN back n):=λm5 k7 t12 HH t67 t68 t75 t76 t77 t82 t83 t84 b4 jT b9 hJ r h=>ie h (λc0 h=>be h λx3 eY h=>be h λeh iz h=>be h λfg iM h=>be h λkL kC h=>let zA:SE:=[aI c0,(1,p8.idx eY),(8,dO iz),(1,EY.row iM),iS (ev24 n kC)];ie h (λc1 h=>ie h (λc2 h=>bH h zA [iw c1,ba c2]) λc2 h=>cI (aS h) zA [iw c1,ba c2]) λc1 h=>be h λx34 abu h=>be h λx38 atY h=>be h λzI Ny h=>let zB:SE:=dU zA [iw c1,(3,C3.idx abu),(2,o8.idx atY),(2,p8.idx Ny)];ie h (λc2 h=>bH h zB [jS c2]) λc2 h=>cI (aS h) zB [jS c2]) λc0 h=>ra (bn h) [aI c0]
def Vr (aN:ama):Nat->cG->Int->Int->Int->Int->Int->bS->Int->Int->cE->Int->Int->ag->fO->aW->aW->Option Bool
 |0=>λ_ _ _ _ _ _ _ _ _ _ _ _ _ _ _ _=>none
 |n+1=>anf aN (Vr aN n) n
def l7_0 {aN} (bn:SW aN):∀n:Nat,SU (Vr aN n)
 |0=>λ_ _ _ _ _ _ _ _ _ _ _ _ _ _ _ _ _ h=>nz h
 |n+1=>b7_0 bn (l7_0 bn n) n
def ane (bw:ama) (n:Nat) (m5:cG) (k7 t12 t67 t68:Int) (t75:bS) (t76 t77:Int) (b4:ag) (jT:fO) (b9 hJ:aW):Option Bool:=
 bw m5 k7 t12 t67 t68 t75 t76 (bl (t77+1)) b4 jT b9 hJ
def KL:=K12 (A7 (cF 366975)) awq
def b7_1 {bw} (cM:KL bw) (n:Nat):SW (ane bw n):=λm5 k7 t12 t67 t68 t75 t76 t77 b4 jT b9 hJ r h=>ra (cM h) []
def anb (bD:alZ) (back:ama) (n:Nat) (m5:cG) (k7 t12 t67 t68:Int) (t75:bS) (t76 t77:Int) (b4:ag) (jT:fO) (b9 hJ:aW):Option Bool:=
 if decide (t77<t76) then
 (idx t75 t77).bind λx3=>Vr (ane back n) n m5 k7 t12 t77 t67 t68 t75 t76 t77 x3 (x3.length:Int) 0 b4 jT b9 hJ
 else
 bD m5 k7 t67 t68 b4 jT b9 hJ
def SS:=K8 (A7 (cF 31103)) awp
def b7_2 {bD} (cU:SS bD) {back} (aS:KL back) (n:Nat):KL (anb bD back n):=λm5 k7 t12 t67 t68 t75 t76 t77 b4 jT b9 hJ r h=>ie h (λc0 h=>be h λx3 eY h=>ra (l7_0 (b7_1 aS n) n h) [aI c0,(1,o8.idx eY)]) λc0 h=>ra (cU h) [aI c0]
def N1 (bD:alZ):Nat->cG->Int->Int->Int->Int->bS->Int->Int->ag->fO->aW->aW->Option Bool
 |0=>λ_ _ _ _ _ _ _ _ _ _ _ _=>none
 |n+1=>anb bD (N1 bD n) n
def l7_2 {bD} (cU:SS bD):∀n:Nat,KL (N1 bD n)
 |0=>λ_ _ _ _ _ _ _ _ _ _ _ _ _ h=>nz h
 |n+1=>b7_2 cU (l7_2 cU n) n
def ana (da:alZ) (n:Nat) (m5:cG) (k7 t67 t68:Int) (b4:ag) (jT:fO) (b9 hJ:aW):Option Bool:=
 da m5 k7 t67 (bl (t68+1)) b4 jT b9 hJ
def KK:=K8 (A7 (cF 1407)) awp
def b7_3 {da} (eW:KK da) (n:Nat):SS (ana da n):=λm5 k7 t67 t68 b4 jT b9 hJ r h=>ra (eW h) []
def amZ (dX:Option Bool) (back:alZ) (n:Nat) (m5:cG) (k7 t67 t68:Int) (b4:ag) (jT:fO) (b9 hJ:aW):Option Bool:=
 if decide (t68<t67) then
 (idx hJ.ai t68).bind λuk=>N1 (ana back n) n m5 k7 t68 t67 t68 uk (uk.length:Int) 0 b4 jT b9 hJ
 else
 dX
def SR:=K0 (A7 (cF 511)) aJp
def b7_4 {dX} (gf:SR dX) {back} (aS:KK back) (n:Nat):KK (amZ dX back n):=λm5 k7 t67 t68 b4 jT b9 hJ r h=>ie h (λc0 h=>be h λuk jv h=>ra (l7_2 (b7_3 aS n) n h) [aI c0,(5,C3.idx jv)]) λc0 h=>ra (gf h) [aI c0]
def N0 (dX:Option Bool):Nat->cG->Int->Int->Int->ag->fO->aW->aW->Option Bool
 |0=>λ_ _ _ _ _ _ _ _=>none
 |n+1=>amZ dX (N0 dX n) n
def l7_4 {dX} (gf:SR dX):∀n:Nat,KK (N0 dX n)
 |0=>λ_ _ _ _ _ _ _ _ _ h=>nz h
 |n+1=>b7_4 gf (l7_4 gf n) n
def amY (n:Nat):Option Bool:=
 (F17 n).bind λx1=>some x1
def b7_5 (n:Nat):SR (amY n):=λr h=>be h λx1 I0 h=>rr h [oZ (ev17 n I0)]
def avT (n:Nat) (qZ:aK):Option Bool:=
 (F13 n qZ 400).bind λx3=>(F12 n x3).bind λuk=>(eZ uk.2.2.1.length (bl ((uk.2.2.1.length:Int) - 1))).bind λiF=>(uk.2.2.1[0+iF]?).bind λgC=>(F19 n uk.2.2.2.2 gC 3).bind λvZ=>(eZ uk.2.2.1.length uk.2.2.2.1).bind λrW=>(uk.2.2.1[0+rW]?).bind λzI=>(F21 n uk.1 uk.2.1 zI.aw 3 vZ.1).bind λH4=>if H4.2 !=0 then
 some false
 else
 (eZ uk.2.2.1.length uk.2.2.2.1).bind λx61=>(uk.2.2.1[0+x61]?).bind λHy=>if (H4.1.ai.length:Int) !=(Hy.ai.length:Int) then
 some false
 else
 N0 (amY n) n uk.2.1 uk.2.2.2.1 (H4.1.ai.length:Int) 0 uk.1 uk.2.2.1 vZ.1 H4.1
def b7_6 (n:Nat):K1 (A7 []) ajz (avT n):=λqZ r h=>be h λx3 eY h=>be h λuk jv h=>be h λiF tv h=>be h λgC l3 h=>be h λvZ Bn h=>be h λrW Bm h=>be h λzI Ny h=>be h λH4 atV h=>let zA:SE:=[(2,.call (ev13 n eY) [] [(22,cT)]),(2,.call (ev12 n jv) [(22,0)] [(302501,200001),(302502,200002)]),(14,dO tv),(0,EY.row l3),(4,.call (ev19 n Bn) [(22,0)] []),(2,R45.fX 302501 uk.2.1),(0,.ord [0,1,2,3,4,5,6,7,12,8,9,10,11,13,14]),(4,dO Bm),(1,EY.row Ny),iS (ev21 n atV)];ie h (λc0 h=>bH h zA [dL c0]) λc0 h=>be h λx61 hx61 h=>be h λHy U4 h=>let zB:SE:=dU zA [dL c0,(6,dO hx61),(1,EY.row U4)];ie h (λc1 h=>bH h zB [bb c1]) λc1 h=>cI (l7_4 (b7_5 n) n h) zB [bb c1]
def F7:=avT
def ev7 (n:Nat):K1 (Cx E0 7 du bQ) ajz (F7 n):=λ_ _ h=>ca (X:=x7) (b7_6 n h)
def alU (t:TypeId):Bool:= [5,22].contains t
def aJn (t:TypeId) (h:alU t=true):Ia Tryz.prog alU t=true:=by
 have gS:([5,22].all λt=>Ia Tryz.prog alU t)=true:=by kernel_rfl
 exact iT.1 gS t (List.contains_iff_mem.1 h)
def ty5 (n:Nat) (xs:List AV) (h:jI Tryz.prog n 5 xs):∃x,xs=abT x:=by
 match n,h with
 |n+1,h=>
  simp only[jI,Tryz.underlying5] at h;obtain ⟨x,rfl,_⟩:=h;exact ⟨x,rfl⟩
def ty22 (n:Nat) (xs:List AV) (h:jI Tryz.prog n 22 xs):∃x,xs= [.qK 5 1 x.length (yj x)]:=by
 match n,h with
 |n+1,h=>
  simp only[jI,Tryz.underlying22] at h;obtain ⟨rows,rfl,hr⟩:=h;obtain ⟨y,rfl⟩:=aBo λr jA=>ty5 n r (hr r jA)
  exact ⟨y,by rw[nQ,V5,show Tryz.prog.cellsOf 5=1 from by kernel_rfl];try rfl⟩
def dv (h1: -9223372036854775808<=x) (h2:x<=9223372036854775807):bl x=x:=IntWalk.i64_in x ⟨h1,h2⟩
def bO (xs:List J) (i:Nat):idx xs (i:Int)=xs[i]? :=by simp[idx]
mutual
def fC:ah->Nat
 |⟨_,_,_,_,args⟩=>2+kM args
def kM:bN->Nat
 | []=>0
 |x::xs=>1+fC x+kM xs
end
def pw (xs:bN):xs.length<=kM xs:=by
 induction xs with
 |nil=>simp[kM]
 |cons x xs ih=>simp[kM];omega
def zv:aR:=aR.mk 0 0 ByteArray.empty
def nf (v:aR):Bool:=
 if v.ax==1||v.ax==2 then v.bX==0&&decide (v.bB=ByteArray.empty)
 else if v.ax==3 then (v.bX==0||v.bX==1)&&decide (v.bB=ByteArray.empty)
 else if v.ax==4 then decide (v.bB=ByteArray.empty)
 else if v.ax==5 then v.bX==0&&decide ((v.bB.size:Int)<=64)
 else false
def jw (v:aR):Bool:=nf v&&decide (3<=v.ax)
def aiX (n:Nat) (v:aR):amF n v=some (nf v):=by
 unfold amF aeA nf;by_cases h1:v.ax=1<;>by_cases h2:v.ax=2<;>by_cases h3:v.ax=3<;>by_cases h4:v.ax=4<;>by_cases h5:v.ax=5<;>by_cases h6:v.bX=0<;>by_cases h7:v.bX=1<;>simp_all<;>simp[<-Int.not_le]
def ajb (n:Nat) (v:aR):amM n v=some (nf v):=by
 have:=aiX n v;exact this
def afs (h:nf v=true):1<=v.ax/\v.ax<=5:=by
 unfold nf at h;split at h
 ·rename_i h1;simp at h1;omega
 ·split at h
  ·rename_i h1;simp at h1;omega
  ·split at h
   ·rename_i h1;simp at h1;omega
   ·split at h
    ·rename_i h1;simp at h1;omega
    ·simp at h
def AO (n:Nat) (v:aR):N7 n v=some (jw v):=by
 unfold N7 aeQ;rw[aiX];simp only[au,jw];cases nf v<;>simp<;>simp[<-Int.not_le]
def aiV (n:Nat) (v:aR):adt n v=some (jw v):=by
 unfold adt aev;rw[ajb];simp only[au,jw];cases h:nf v with
 |false=>simp
 |true=>
  have:=afs h;by_cases h1:v.ax=1
  ·simp[h1]
  ·by_cases h2:v.ax=2
   ·simp[h2]
   ·have:3<=v.ax:=by omega
    simp[h1,h2,this]
def Wp:∀a b:List UInt8,Lib.compareBytes a b=if Op.bytesLess a b then -1 else if a=b then 0 else 1
 | [],[]=>by simp[Lib.compareBytes,Op.bytesLess]
 | [],_::_=>by simp[Lib.compareBytes,Op.bytesLess]
 |_::_,[]=>by simp[Lib.compareBytes,Op.bytesLess]
 |a::l,b::m=>by
  rw[Lib.compareBytes,Op.bytesLess,Wp l m];by_cases h:a<b
  ·simp[h]
  ·by_cases h2:b<a
   ·have cY:a≠b:=λe=>by subst e;exact absurd h2 (xr _)
    simp[h,h2,cY]
   ·have he:a=b:=UInt8.le_antisymm (Ko.1 h2) (Ko.1 h);subst he;simp[xr]
def ll (a b:aR):Int:=
 if a.ax<b.ax then -1 else if b.ax<a.ax then 1
 else if a.bX<b.bX then -1 else if b.bX<a.bX then 1
 else if Op.bytesLess a.bB.toList b.bB.toList then -1 else if a.bB=b.bB then 0 else 1
def oS:∀a:List UInt8,Op.bytesLess a a=false
 | []=>by simp[Op.bytesLess]
 |a::l=>by simp[Op.bytesLess,oS l,xr]
def zx {b:ByteArray} (h:a.data.toList=b.data.toList):a=b:=by
 cases a;cases b;simp at h;simp[h]
def vU (a:ByteArray):a.toList=a.data.toList:=by
 exact ByteArray.toList_eq a
def avG (n:Nat) (a b:ByteArray):amw n a b=some (if Op.bytesLess a.toList b.toList then -1 else if a=b then 0 else 1):=by
 unfold amw;rw[Wp,vU,vU];by_cases h:a=b
 ·subst h;simp
 ·have:a.data.toList≠b.data.toList:=λe=>h (zx e)
  simp[h,this]
def aCv (n:Nat) (a b:Int):amD n a b=some (if a<b then -1 else if b<a then 1 else 0):=by
 unfold amD aey amz aef;by_cases h1:a<b
 ·simp[h1]
 ·by_cases h2:b<a<;>simp[h1,h2]
def aCu (n:Nat) (a b:Int):amC n a b=some (if a<b then -1 else if b<a then 1 else 0):=by
 unfold amC aex amy aee;by_cases h1:a<b
 ·simp[h1]
 ·by_cases h2:b<a<;>simp[h1,h2]
def aCL (n:Nat) (a b:aR):amL n a b=some (ll a b):=by
 unfold amL aeY avM aew avI aed;rw[aCv,aCu,avG];obtain ⟨k,i,t⟩:=a;obtain ⟨k',i',t'⟩:=b;unfold ll;simp only[au];by_cases h1:k<k'
 ·have:k≠k':=by omega
  simp[h1,this]
 ·by_cases h2:k'<k
  ·have:k≠k':=by omega
   simp[h1,h2,this]
  ·have hk:k=k':=by omega
   subst hk;by_cases h3:i<i'
   ·have:i≠i':=by omega
    simp[h3,this]
   ·by_cases h4:i'<i
    ·have:i≠i':=by omega
     simp[h3,h4,this]
    ·have hi:i=i':=by omega
     subst hi;by_cases h5:t=t'
     ·subst h5;simp[oS]
     ·simp[h5]
def bC {xs:List J} {x:J} {l:List J} (h:xs.drop i=x::l):xs[i]? =some x/\xs.drop (i+1)=l/\i<xs.length:=by
 have h1:i<xs.length:=by
  by_cases hl:i<xs.length
  ·exact hl
  ·rw[po (by omega)] at h;simp at h
 rw[qE h1] at h;obtain ⟨q1,q2⟩:=Ol h;exact ⟨by simp[h1,q1],q2,h1⟩
def sx {x:ah} (h:x∈xs):fC x+xs.length<=kM xs:=by
 induction xs with
 |nil=>simp at h
 |cons y ys ih=>
  have hl:=pw ys;simp only[kM,kq];rcases cH.1 h with rfl|h
  ·omega
  ·have:=ih h;omega
def Ok {J:Type} (x:Option J) (P:J->Prop):Prop:=∃a,x=some a/\P a
def Ok.pure {a:J} {P:J->Prop} (h:P a):Ok (some a) P:=⟨a,rfl,h⟩
def Ok.bind {O:Type} {x:Option J} {f:J->Option O} {P:J->Prop} {Q:O->Prop} (h:Ok x P) (k:∀a,P a->Ok (f a) Q):Ok (x.bind f) Q:=by
 obtain ⟨a,rfl,ha⟩:=h;exact k a ha
def Ok.mono {x:Option J} {P Q:J->Prop} (h:Ok x P) (k:∀a,P a->Q a):Ok x Q:=by
 obtain ⟨a,h1,h2⟩:=h;exact ⟨a,h1,k a h2⟩
def Ok.ite {b:Bool} {x y:Option J} {P:J->Prop} (h1:b=true->Ok x P) (h2:b=false->Ok y P):Ok (if b=true then x else y) P:=by
 cases b with
 |true=>simpa using h1 rfl
 |false=>simpa using h2 rfl
structure dk (c:aL):Prop where
 lo:0<=c.zP
 hi:c.zP<=c.oN.length
 len:c.oN.length<=1000
 byte:∀x∈c.oN,0<=x/\x<=255
def dI (xs ys:List J) (h:xs.length+ys.length<=1000000):app xs ys=some (xs++ys):=by unfold app;rw[aH (by omega)]
def aJi (n:Nat) (db:aK) (m:Int) (hb:∀x∈db,0<=x/\x<=255) (h0:0<=m) (h1:m<=1000):Ok (F13 n db m) dk:=by
 unfold F13 anH;have hc:∃k:Nat,(if m<(db.length:Int) then m else (db.length:Int))=(k:Int)/\k<=db.length/\k<=1000:=by
  by_cases h:m<(db.length:Int)
  ·exact ⟨m.toNat,by rw[aH h];omega,by omega,by omega⟩
  ·exact ⟨db.length,by rw[aM h],dg _,by omega⟩
 obtain ⟨k,e,k1,k2⟩:=hc;rw[e];have h2:cut db none (some (k:Int))=some (db.take k):=by simp[cut,k1]
 rw[h2,au,dI _ _ (by simp;omega),au]
 refine Ok.pure ⟨Int.le_refl _,by simp,by simp;omega,λx hx=> ?_⟩
 exact hb x (qC (by simpa using hx))
def j7 (n:Nat) (c:aL) (m:Int) (h:dk c):Ok (rq n c m) λr=>dk r.2/\0<=r.1/\(1<=m->r.1<m)/\(m<1->r.1=0)/\r.1<=255:=by
 unfold rq anE;refine Ok.ite (λh1=>Ok.pure ⟨h,Int.le_refl _,λh=>by omega,λ_=>rfl,by omega⟩) λh1=> ?_
 simp at h1;refine Ok.ite (λh2=>Ok.pure ⟨h,Int.le_refl _,λh=>by omega,λ_=>rfl,by omega⟩) λh2=> ?_
 simp at h2;have h3:=h.lo;have h4:=h.len;rw[dv (x:=c.zP+1) (by omega) (by omega),dv (by omega) (by omega)]
 have e:c.zP+1-1=(c.zP.toNat:Int):=by omega
 have cV:c.zP.toNat<c.oN.length:=by omega
 rw[e,bO,dJ cV,au];have hb:=h.byte (c.oN[c.zP.toNat]) (rT _);rw[dv (by omega) (by omega)]
 have hm:m≠0:=by omega
 simp only[rem,hm,aA,au];have q1:=Int.tmod_nonneg m hb.1;have q2:=Int.tmod_lt_of_pos c.oN[c.zP.toNat] (by omega:0<m)
 have q3:c.oN[c.zP.toNat].tmod m<=c.oN[c.zP.toNat]:=by
  rw[Int.tmod_eq_emod_of_nonneg hb.1];have:=Int.emod_add_mul_ediv c.oN[c.zP.toNat] m;have h5:0<=m*(c.oN[c.zP.toNat] / m):=Int.mul_nonneg (by omega) (Int.ediv_nonneg hb.1 (by omega))
  omega
 exact Ok.pure ⟨⟨by simp;omega,by simp;omega,h4,h.byte⟩,q1,λ_=>q2,λh=>by omega,by simp;omega⟩
def tK (n:Nat) (c:aL) (m:Int) (h:dk c):Ok (C9 n c m) λr=>dk r.2:=by
 unfold C9 ang;refine Ok.bind (j7 n c m h) λr hr=> ?_
 exact Ok.pure hr.1
def aCK (n:Nat) (c:aL) (h:dk c):Ok (amK n c) λr=>dk r.2/\ -9223372036854775808<=r.1/\r.1<=9223372036854775807:=by
 unfold amK aeV;refine Ok.bind (j7 n c 12 h) λr ⟨hr,h0,_,_,h2⟩=> ?_
 refine Ok.ite (λ_=>Ok.pure ⟨hr,by simp,by simp⟩) λ_=> ?_
 refine Ok.ite (λ_=>Ok.pure ⟨hr,by simp,by simp⟩) λ_=> ?_
 refine Ok.ite (λ_=>Ok.pure ⟨hr,by simp,by simp⟩) λ_=> ?_
 have q1:=Int.tmod_nonneg 4 h0;have q2:=Int.tmod_lt_of_pos r.1 (by omega:(0:Int)<4)
 exact Ok.pure ⟨hr,by simp;omega,by simp;omega⟩
def WX (c:aL):∀(k n:Nat) (s:ByteArray) (i:Int),i=64-k->k<=64->s.size=64-k->k<n->Ok (Fv (λl b=>some (l,b)) n s i c) λr=>r.2=c/\r.1.size<=64
 |0,n+1,s,i,hi,_,hs,_=>by
  have h:¬i<64:=by omega
  simp only[Fv,R4,h,aX,aC,aA];exact Ok.pure ⟨rfl,by simp;omega⟩
 |k+1,n+1,s,i,hi,hk,hs,hn=>by
  have h:i<64:=by omega
  simp only[Fv,R4,h,aU,aB];have hc:cat s (ByteArray.mk #[255])=some (s++ByteArray.mk #[255]):=by
   have:(ByteArray.mk #[255]).size=1:=rfl;unfold cat;rw[aH (by omega)]
  rw[hc,au,dv (by omega) (by omega)]
  have mD:(s++ByteArray.mk #[255]).size=s.size+1:=by rw[Sx];rfl
  exact WX c k n _ _ (by omega) (by omega) (by omega) (by omega)
 |_,0,_,_,_,_,_,hn=>by simp at hn
def WW (c:aL):∀(k n:Nat) (s:ByteArray) (i:Int),i=64-k->k<=64->s.size=64-k->k<n->Ok (Fu (λl b=>some (l,b)) n s i c) λr=>r.2=c/\r.1.size<=64
 |0,n+1,s,i,hi,_,hs,_=>by
  have h:¬i<64:=by omega
  simp only[Fu,R2,h,aX,aC,aA];exact Ok.pure ⟨rfl,by simp;omega⟩
 |k+1,n+1,s,i,hi,hk,hs,hn=>by
  have h:i<64:=by omega
  simp only[Fu,R2,h,aU,aB];have hc:cat s (ByteArray.mk #[98])=some (s++ByteArray.mk #[98]):=by
   have:(ByteArray.mk #[98]).size=1:=rfl;unfold cat;rw[aH (by omega)]
  rw[hc,au,dv (by omega) (by omega)]
  have mD:(s++ByteArray.mk #[98]).size=s.size+1:=by rw[Sx];rfl
  exact WW c k n _ _ (by omega) (by omega) (by omega) (by omega)
 |_,0,_,_,_,_,_,hn=>by simp at hn
def aCJ (n:Nat) (hn:100<=n) (c:aL) (h:dk c):Ok (amJ n c) λr=>dk r.2/\r.1.size<=64:=by
 unfold amJ aeU;refine Ok.bind (j7 n c 10 h) λr ⟨hr,_⟩=> ?_
 refine Ok.ite (λ_=>Ok.pure ⟨hr,tO rfl⟩) λ_=> ?_
 refine Ok.ite (λ_=>Ok.pure ⟨hr,tO rfl⟩) λ_=> ?_
 refine Ok.ite (λ_=>Ok.pure ⟨hr,tO rfl⟩) λ_=> ?_
 refine Ok.ite (λ_=>Ok.pure ⟨hr,tO rfl⟩) λ_=> ?_
 refine Ok.ite (λ_=>Ok.pure ⟨hr,tO rfl⟩) λ_=> ?_
 refine Ok.ite (λ_=>Ok.pure ⟨hr,tO rfl⟩) λ_=> ?_
 refine Ok.ite (λ_=>Ok.pure ⟨hr,tO rfl⟩) λ_=> ?_
 refine Ok.ite (λ_=>Ok.pure ⟨hr,tO rfl⟩) λ_=> ?_
 refine Ok.ite (λ_=> ?_) λ_=> ?_
 ·exact (WX r.2 64 n ByteArray.empty 0 (by omega) (by omega) rfl (by omega)).mono λx ⟨e,hx⟩=>⟨by rw[e];exact hr,hx⟩
 ·exact (WW r.2 64 n ByteArray.empty 0 (by omega) (by omega) rfl (by omega)).mono λx ⟨e,hx⟩=>⟨by rw[e];exact hr,hx⟩
def B5 (n:Nat) (hn:100<=n) (c:aL) (k:Int) (h:dk c) (hk:3<=k) (jP:k<=5):Ok (F93 n c k) λr=>dk r.2/\r.1.ax=k/\jw r.1=true:=by
 unfold F93 amV;refine Ok.ite (λh3=> ?_) λh3=> ?_
 ·simp at h3;refine Ok.bind (j7 n c 2 h) λr ⟨hr,h0,h1,_⟩=>Ok.pure ⟨hr,rfl,?_⟩
  have h1:=h1 (by omega)
  have:r.1=0\/r.1=1:=by omega
  rcases this with e|e<;>simp[jw,nf,h3,e]
 ·simp at h3;refine Ok.ite (λh4=> ?_) λh4=> ?_
  ·simp at h4;refine Ok.bind (aCK n c h) λr ⟨hr,_⟩=>Ok.pure ⟨hr,rfl,by simp[jw,nf,h4]⟩
  ·simp at h4;refine Ok.bind (aCJ n hn c h) λr ⟨hr,hs⟩=>Ok.pure ⟨hr,by simp;omega,?_⟩
   have:(r.1.size:Int)<=64:=by omega
   simp[jw,nf,this]
end Go.Proofs.YtbnkhmoelnfjoaaGreat
end
