/- Part. -/
import Derived.Test.YtbnkhmoelnfjoaaGreatP6
import Derived.KernelRfl
import Derived.Test.YtbnkhmoelnfjoaaGreatP4
import Derived.IntWalk
set_option linter.all false
set_option maxRecDepth 100000
noncomputable section
namespace Go.Proofs.YtbnkhmoelnfjoaaGreat
open Go.bX
variable {x:Int} {J:Type} {v:aP} {a:ByteArray} {xs:bO} {i:Nat}
def x99:=fx E0 Tryz.f99 []
def A99:=Ax x99 dv bQ
def aDq (i3 c4:Int) (LF:Bool) (oq:ByteArray) (na:Nat):LS:=⟨[(3,cm i3),(4,.int .i32 c4),(5,.bool LF),(15,.it 15)],[(15,.iter oq na)]⟩
def aDp (oq:ByteArray) (na:Nat):LS:=⟨[(15,.it 15)],[(15,.iter oq na)]⟩
def aDo:LS:=⟨[],[]⟩
def QJ (aO:ByteArray->Nat->Option Bool) (n:Nat) (i3 c4:Int) (LF:Bool) (oq:ByteArray) (na:Nat):Option Bool:=
 if !LF then
 if i3==0 then
 some false
 else
 if c4 !=95 then
 if decide (c4<48) then
 some false
 else
 if decide (57<c4) then
 some false
 else
 aO oq na
 else
 aO oq na
 else
 aO oq na
def Lo:=K2 (A99 [0,1,0,1,1]) aDp
def ayV {aO} (bq:Lo aO) (n:Nat):K5 (A99 (cF 3787)) aDq (QJ aO n):=λi3 c4 LF oq na r h=>ie h (λc0 h=>ie h (λc1 h=>rr h [bb c0,aZ c1]) λc1 h=>let zA:SE:=[bb c0,aZ c1];ie h (λc2 h=>ie h (λc3 h=>bD h zA [aZ c2,aZ c3]) λc3 h=>ie h (λc4_ h=>bD h zA [aZ c2,aZ c3,aZ c4_]) λc4_ h=>cI (bq h) zA [aZ c2,aZ c3,aZ c4_]) λc2 h=>cI (bq h) zA [aZ c2]) λc0 h=>ra (bq h) [bb c0]
def XX (bt:Option Bool) (back:ByteArray->Nat->Option Bool) (n:Nat) (oq:ByteArray) (na:Nat):Option Bool:=
 if decide (na<oq.size) then
 if !decide (((Utf8.decode oq na).1:Int)<97) then
 QJ back n (na:Int) ((Utf8.decode oq na).1:Int) (!decide (122<((Utf8.decode oq na).1:Int))) oq (na+(Utf8.decode oq na).2)
 else
 QJ back n (na:Int) ((Utf8.decode oq na).1:Int) false oq (na+(Utf8.decode oq na).2)
 else
 bt
def UQ:=K0 (A99 [1,1,1]) aDo
def aKW {bt} (cM:UQ bt) {back} (aS:Lo back) (n:Nat):Lo (XX bt back n):=λoq na r h=>ie h (λc0 h=>ie h (λc1 h=>ra (ayV aS n h) [(0,.nxt (qv c0)),dP c1]) λc1 h=>ra (ayV aS n h) [(0,.nxt (qv c0)),dP c1]) λc0 h=>ra (cM h) [(0,.fin (F0 c0))]
def Av (bt:Option Bool):Nat->ByteArray->Nat->Option Bool
 |0=>λ_ _=>none
 |n+1=>XX bt (Av bt n) n
def axk {bt} (cM:UQ bt):∀n:Nat,Lo (Av bt n)
 |0=>λ_ _ _ h=>nz h
 |n+1=>aKW cM (axk cM n) n
def Hx (n:Nat):Option Bool:=
 some true
def aKV (n:Nat):UQ (Hx n):=λr h=>rr h []
def anj (n:Nat) (s0:ByteArray):Option Bool:=
 if decide ((s0.size:Int)<1) then
 some false
 else
 if decide (32<(s0.size:Int)) then
 some false
 else
 Av (Hx n) n s0 0
def aKU (n:Nat):K1 (A99 []) KO (anj n):=λs0 r h=>ie h (λc0 h=>rr h [bj c0]) λc0 h=>ie h (λc1 h=>rr h [bj c0,bj c1]) λc1 h=>ra (axk (aKV n) n h) [bj c0,bj c1]
def F99:=anj
def ev99 (n:Nat):K1 (Cx E0 99 dv bQ) KO (F99 n):=λ_ _ h=>ca (X:=x99) (aKU n h)
def D3:=fx E0 Tryz.f43 []
def A43:=Ax D3 dv bQ
def aEn (t11:bn) (t12 t13:Int) (t24:ByteArray) (t29 t34:Int) (t36:cN) (t37:Int) (t45:cN) (t46 t47:Int) (b9 b43:List (ByteArray×Bool)) (b5:aj):LS:=⟨[(3,.mp 9),(6,.mp 43),(11,.slice 44 5 t11.length (cP t11)),(12,.int .i64 t12),(13,.int .i64 t13),(22,.mp 9),(23,.loc 5 0),(24,.str t24),(25,.bool false),(28,.loc 5 2),(29,.int .i64 t29),(30,.bool false),(33,.loc 5 2),(34,.int .i64 t34),(35,.loc 5 1),(36,.slice 73 2 t36.length (bG t36)),(37,.int .i64 t37),(38,.bool false),(45,.slice 73 2 t45.length (bG t45)),(46,.int .i64 t46),(47,.int .i64 t47)],[(5,.flat 44 (im b5)),(9,.map (gP AV.bool b9)),(43,.map (gP AV.bool b43))]⟩
def aEm (t11:bn) (t12 t13:Int) (t24:ByteArray) (t29 t34:Int) (t36:cN) (t37:Int) (b9:List (ByteArray×Bool)) (b5:aj):LS:=⟨[(3,.mp 9),(11,.slice 44 5 t11.length (cP t11)),(12,.int .i64 t12),(13,.int .i64 t13),(22,.mp 9),(23,.loc 5 0),(24,.str t24),(25,.bool false),(28,.loc 5 2),(29,.int .i64 t29),(30,.bool false),(33,.loc 5 2),(34,.int .i64 t34),(35,.loc 5 1),(36,.slice 73 2 t36.length (bG t36)),(37,.int .i64 t37),(38,.bool false)],[(5,.flat 44 (im b5)),(9,.map (gP AV.bool b9))]⟩
def aEl (t11:bn) (t12 t13:Int) (b9:List (ByteArray×Bool)):LS:=⟨[(3,.mp 9),(11,.slice 44 5 t11.length (cP t11)),(12,.int .i64 t12),(13,.int .i64 t13)],[(9,.map (gP AV.bool b9))]⟩
def aEk:LS:=⟨[],[]⟩
def Yv (aO:bn->Int->Int->ByteArray->Int->Int->cN->Int->(List (ByteArray×Bool))->aj->Option Bool) (back:bn->Int->Int->ByteArray->Int->Int->cN->Int->cN->Int->Int->(List (ByteArray×Bool))->(List (ByteArray×Bool))->aj->Option Bool) (n:Nat) (t11:bn) (t12 t13:Int) (t24:ByteArray) (t29 t34:Int) (t36:cN) (t37:Int) (t45:cN) (t46 t47:Int) (b9 b43:List (ByteArray×Bool)) (b5:aj):Option Bool:=
 if decide (t47<t46) then
 (idx t45 t47).bind λx2=>(F99 n x2.av).bind λx9=>if !x9 then
 some false
 else
 if (mG b43 x2.av false) then
 some false
 else
 if x2.ay !=3 then
 if x2.ay !=4 then
 if x2.ay !=5 then
 some false
 else
 back t11 t12 t13 t24 t29 t34 t36 t37 t45 t46 (bl (t47+1)) b9 (nk b43 x2.av true) b5
 else
 back t11 t12 t13 t24 t29 t34 t36 t37 t45 t46 (bl (t47+1)) b9 (nk b43 x2.av true) b5
 else
 back t11 t12 t13 t24 t29 t34 t36 t37 t45 t46 (bl (t47+1)) b9 (nk b43 x2.av true) b5
 else
 aO t11 t12 t13 t24 t29 t34 t36 t37 b9 b5
def UP:=K10 (A43 (cF 971)) aEm
def UO:=K14 (A43 (cF 97483)) aEn
def aMp {aO} (bq:UP aO) {back} (aS:UO back) (n:Nat):UO (Yv aO back n):=λt11 t12 t13 t24 t29 t34 t36 t37 t45 t46 t47 b9 b43 b5 r h=>ie h (λc0 h=>be h λx2 cX h=>be h λx9 iS h=>let zA:SE:=[aI c0,(0,eJ.idx cX),oZ (ev99 n iS)];ie h (λc1 h=>bD h zA [aI c1]) λc1 h=>let zB:SE:=dJ zA [aI c1];ie h (λc2 h=>bD h zB [(4,.lkp false (An c2))]) λc2 h=>let zC:SE:=dJ zB [(4,.lkp false (An c2)),(4,.lT (JE (f:=AV.bool) (k:=x2.av) (v:=true) b43))];ie h (λc3 h=>ie h (λc4 h=>ie h (λc5 h=>bD h zC [aZ c3,bj c4,bu c5]) λc5 h=>cI (aS h) zC [aZ c3,bj c4,bu c5]) λc4 h=>cI (aS h) zC [aZ c3,bj c4]) λc3 h=>cI (aS h) zC [aZ c3]) λc0 h=>ra (bq h) [aI c0]
def Mp (aO:bn->Int->Int->ByteArray->Int->Int->cN->Int->(List (ByteArray×Bool))->aj->Option Bool):Nat->bn->Int->Int->ByteArray->Int->Int->cN->Int->cN->Int->Int->(List (ByteArray×Bool))->(List (ByteArray×Bool))->aj->Option Bool
 |0=>λ_ _ _ _ _ _ _ _ _ _ _ _ _ _=>none
 |n+1=>Yv aO (Mp aO n) n
def axH {aO} (bq:UP aO):∀n:Nat,UO (Mp aO n)
 |0=>λ_ _ _ _ _ _ _ _ _ _ _ _ _ _ _ h=>nz h
 |n+1=>aMp bq (axH bq n) n
def Yu (bt:bn->Int->Int->(List (ByteArray×Bool))->Option Bool) (n:Nat) (t11:bn) (t12 t13:Int) (t24:ByteArray) (t29 t34:Int) (t36:cN) (t37:Int) (b9:List (ByteArray×Bool)) (b5:aj):Option Bool:=
 bt t11 t12 (bl (t13+1)) b9
def Ln:=K4 (A43 [0,1,0,1,1]) aEl
def aMo {bt} (cM:Ln bt) (n:Nat):UP (Yu bt n):=λt11 t12 t13 t24 t29 t34 t36 t37 b9 b5 r h=>ra (cM h) []
def Yt (bC:Option Bool) (back:bn->Int->Int->(List (ByteArray×Bool))->Option Bool) (n:Nat) (t11:bn) (t12 t13:Int) (b9:List (ByteArray×Bool)):Option Bool:=
 if decide (t13<t12) then
 (idx t11 t13).bind λx2=>(F99 n x2.av).bind λx9=>if !x9 then
 some false
 else
 if (mG b9 x2.av false) then
 some false
 else
 if decide (x2.aw<1) then
 some false
 else
 if decide ((x2.ae.length:Int)<x2.aw) then
 some false
 else
 Mp (Yu back n) n t11 t12 t13 x2.av x2.aw x2.aw x2.ae (x2.ae.length:Int) x2.ae (x2.ae.length:Int) 0 (nk b9 x2.av true) [] x2
 else
 bC
def UN:=K0 (A43 [1,1,1]) aEk
def aMn {bC} (cU:UN bC) {back} (aS:Ln back) (n:Nat):Ln (Yt bC back n):=λt11 t12 t13 b9 r h=>ie h (λc0 h=>be h λx2 cX h=>be h λx9 iS h=>let zA:SE:=[aI c0,(0,bW.idx cX),oZ (ev99 n iS)];ie h (λc1 h=>bD h zA [aI c1]) λc1 h=>let zB:SE:=dJ zA [aI c1];ie h (λc2 h=>bD h zB [(4,.lkp false (An c2))]) λc2 h=>let zC:SE:=dJ zB [(4,.lkp false (An c2))];ie h (λc3 h=>bD h zC [bu c3]) λc3 h=>ie h (λc4 h=>bD h zC [bu c3,jU c4]) λc4 h=>cI (axH (aMo aS n) n h) zC [bu c3,jU c4,(4,.lT (JE (f:=AV.bool) (k:=x2.av) (v:=true) b9))]) λc0 h=>ra (cU h) [aI c0]
def Hn (bC:Option Bool):Nat->bn->Int->Int->(List (ByteArray×Bool))->Option Bool
 |0=>λ_ _ _ _=>none
 |n+1=>Yt bC (Hn bC n) n
def axG {bC} (cU:UN bC):∀n:Nat,Ln (Hn bC n)
 |0=>λ_ _ _ _ _ h=>nz h
 |n+1=>aMn cU (axG cU n) n
def QU (n:Nat):Option Bool:=
 some true
def aMm (n:Nat):UN (QU n):=λr h=>rr h []
def azs (n:Nat) (s0:ag):Option Bool:=
 Hn (QU n) n s0.ai (s0.ai.length:Int) 0 []
def aMl (n:Nat):K1 (A43 []) sw (azs n):=λs0 r h=>ra (axG (aMm n) n h) []
def F43:=azs
def ev43 (n:Nat):K1 (Cx E0 43 dv bQ) sw (F43 n):=λ_ _ h=>ca (X:=D3) (aMl n h)
def x44:=fx E0 Tryz.f44 []
def A44:=Ax x44 dv bQ
def aEj (t11:bn) (t12 t13:Int) (t18:cB) (t19 t20 t29:Int) (t31:bn) (t32:Int) (t48:aK) (t49 t50:Int) (b1:ag) (b4 b7:aj) (b6:bk):LS:=⟨[(1,.loc 1 0),(4,.loc 4 0),(7,.loc 7 0),(11,.slice 44 5 t11.length (cP t11)),(12,.int .i64 t12),(13,.int .i64 t13),(18,.slice 121 2 t18.length (aR t18)),(19,.int .i64 t19),(20,.int .i64 t20),(28,.loc 6 1),(29,.int .i64 t29),(30,.loc 1 1),(31,.slice 44 5 t31.length (cP t31)),(32,.int .i64 t32),(33,.bool false),(48,.slice 3 1 t48.length (eo t48)),(49,.int .i64 t49),(50,.int .i64 t50)],[(1,iE (dD b1)),(4,pb (im b4)),(6,.flat 121 (BO b6)),(7,pb (im b7))]⟩
def aEi (t11:bn) (t12 t13:Int) (t18:cB) (t19 t20 t29:Int) (t31:bn) (t32:Int) (b1:ag) (b4:aj) (b6:bk):LS:=⟨[(1,.loc 1 0),(4,.loc 4 0),(11,.slice 44 5 t11.length (cP t11)),(12,.int .i64 t12),(13,.int .i64 t13),(18,.slice 121 2 t18.length (aR t18)),(19,.int .i64 t19),(20,.int .i64 t20),(28,.loc 6 1),(29,.int .i64 t29),(30,.loc 1 1),(31,.slice 44 5 t31.length (cP t31)),(32,.int .i64 t32),(33,.bool false)],[(1,iE (dD b1)),(4,pb (im b4)),(6,.flat 121 (BO b6))]⟩
def aEh (t11:bn) (t12 t13:Int) (t18:cB) (t19 t20:Int) (b1:ag) (b4:aj):LS:=⟨[(1,.loc 1 0),(4,.loc 4 0),(11,.slice 44 5 t11.length (cP t11)),(12,.int .i64 t12),(13,.int .i64 t13),(18,.slice 121 2 t18.length (aR t18)),(19,.int .i64 t19),(20,.int .i64 t20)],[(1,iE (dD b1)),(4,pb (im b4))]⟩
def aoC (t11:bn) (t12 t13:Int) (b1:ag):LS:=⟨[(1,.loc 1 0),(11,.slice 44 5 t11.length (cP t11)),(12,.int .i64 t12),(13,.int .i64 t13)],[(1,iE (dD b1))]⟩
def aEg:LS:=⟨[],[]⟩
def Ys (aO:Wf39) (back:bn->Int->Int->cB->Int->Int->Int->bn->Int->aK->Int->Int->ag->aj->aj->bk->Option Bool) (n:Nat) (t11:bn) (t12 t13:Int) (t18:cB) (t19 t20 t29:Int) (t31:bn) (t32:Int) (t48:aK) (t49 t50:Int) (b1:ag) (b4 b7:aj) (b6:bk):Option Bool:=
 if decide (t50<t49) then
 (idx t48 t50).bind λx3=>if decide (x3<0) then
 some false
 else
 if !decide (x3<(b4.ae.length:Int)) then
 some false
 else
 (idx b4.ae x3).bind λpG=>(idx b7.ae t50).bind λnD=>if pG.ay !=nD.ay then
 some false
 else
 back t11 t12 t13 t18 t19 t20 t29 t31 t32 t48 t49 (bl (t50+1)) b1 b4 b7 b6
 else
 aO t11 t12 t13 t18 t19 t20 t29 t31 t32 b1 b4 b6
def UM:=K12 (A44 (cF 124517)) aEi
def UL:=K16 (A44 (cF 12478053)) aEj
def aMk {aO} (bq:UM aO) {back} (aS:UL back) (n:Nat):UL (Ys aO back n):=λt11 t12 t13 t18 t19 t20 t29 t31 t32 t48 t49 t50 b1 b4 b7 b6 r h=>ie h (λc0 h=>be h λx3 eY h=>let zA:SE:=[aI c0,(1,R3.idx eY)];ie h (λc1 h=>bD h zA [bu c1]) λc1 h=>ie h (λc2 h=>bD h zA [bu c1,cg c2]) λc2 h=>be h λpG xV h=>be h λnD sK h=>let zB:SE:=dJ zA [bu c1,cg c2,(5,eJ.idx xV),(5,eJ.idx sK)];ie h (λc3 h=>bD h zB [aZ c3]) λc3 h=>cI (aS h) zB [aZ c3]) λc0 h=>ra (bq h) [aI c0]
def Mo (aO:Wf39):Nat->bn->Int->Int->cB->Int->Int->Int->bn->Int->aK->Int->Int->ag->aj->aj->bk->Option Bool
 |0=>λ_ _ _ _ _ _ _ _ _ _ _ _ _ _ _ _=>none
 |n+1=>Ys aO (Mo aO n) n
def axF {aO} (bq:UM aO):∀n:Nat,UL (Mo aO n)
 |0=>λ_ _ _ _ _ _ _ _ _ _ _ _ _ _ _ _ _ h=>nz h
 |n+1=>aMk bq (axF bq n) n
def Yr (bt:Wf40) (n:Nat) (t11:bn) (t12 t13:Int) (t18:cB) (t19 t20 t29:Int) (t31:bn) (t32:Int) (b1:ag) (b4:aj) (b6:bk):Option Bool:=
 bt t11 t12 t13 t18 t19 (bl (t20+1)) b1 b4
def Lm:=K8 (A44 (cF 5733)) aEh
def aMj {bt} (cM:Lm bt) (n:Nat):UM (Yr bt n):=λt11 t12 t13 t18 t19 t20 t29 t31 t32 b1 b4 b6 r h=>ra (cM h) []
def Yq (bC:amv) (back:Wf40) (n:Nat) (t11:bn) (t12 t13:Int) (t18:cB) (t19 t20:Int) (b1:ag) (b4:aj):Option Bool:=
 if decide (t20<t19) then
 (idx t18 t20).bind λx2=>if decide (x2.aG<0) then
 some false
 else
 if !decide (x2.aG<(b1.ai.length:Int)) then
 some false
 else
 (idx b1.ai x2.aG).bind λni=>if (x2.ae.length:Int) !=ni.aw then
 some false
 else
 Mo (Yr back n) n t11 t12 t13 t18 t19 t20 x2.aG b1.ai (b1.ai.length:Int) x2.ae (x2.ae.length:Int) 0 b1 b4 ni x2
 else
 bC t11 t12 t13 b1
def UK:=K4 (A44 (cF 485)) aoC
def aMi {bC} (cU:UK bC) {back} (aS:Lm back) (n:Nat):Lm (Yq bC back n):=λt11 t12 t13 t18 t19 t20 b1 b4 r h=>ie h (λc0 h=>be h λx2 cX h=>let zA:SE:=[aI c0,(0,eQ.idx cX)];ie h (λc1 h=>bD h zA [cg c1]) λc1 h=>ie h (λc2 h=>bD h zA [cg c1,dP c2]) λc2 h=>be h λni ph h=>let zB:SE:=dJ zA [cg c1,dP c2,(5,bW.idx ph)];ie h (λc3 h=>bD h zB [iC c3]) λc3 h=>cI (axF (aMj aS n) n h) zB [iC c3]) λc0 h=>ra (cU h) [aI c0]
def Hm (bC:amv):Nat->bn->Int->Int->cB->Int->Int->ag->aj->Option Bool
 |0=>λ_ _ _ _ _ _ _ _=>none
 |n+1=>Yq bC (Hm bC n) n
def axE {bC} (cU:UK bC):∀n:Nat,Lm (Hm bC n)
 |0=>λ_ _ _ _ _ _ _ _ _ h=>nz h
 |n+1=>aMi cU (axE cU n) n
def Yp (da:amv) (n:Nat) (t11:bn) (t12 t13:Int) (b1:ag):Option Bool:=
 da t11 t12 (bl (t13+1)) b1
def Ll:=K4 (A44 [0,1,0,1]) aoC
def aMh {da} (fg:Ll da) (n:Nat):UK (Yp da n):=λt11 t12 t13 b1 r h=>ra (fg h) []
def Yo (dZ:Option Bool) (back:amv) (n:Nat) (t11:bn) (t12 t13:Int) (b1:ag):Option Bool:=
 if decide (t13<t12) then
 (idx t11 t13).bind λx2=>Hm (Yp back n) n t11 t12 t13 x2.af (x2.af.length:Int) 0 b1 x2
 else
 dZ
def UJ:=K0 (A44 [1,1]) aEg
def aMg {dZ} (gj:UJ dZ) {back} (aS:Ll back) (n:Nat):Ll (Yo dZ back n):=λt11 t12 t13 b1 r h=>ie h (λc0 h=>be h λx2 cX h=>ra (axE (aMh aS n) n h) [aI c0,(0,bW.idx cX)]) λc0 h=>ra (gj h) [aI c0]
def Hl (dZ:Option Bool):Nat->bn->Int->Int->ag->Option Bool
 |0=>λ_ _ _ _=>none
 |n+1=>Yo dZ (Hl dZ n) n
def axD {dZ} (gj:UJ dZ):∀n:Nat,Ll (Hl dZ n)
 |0=>λ_ _ _ _ _ h=>nz h
 |n+1=>aMg gj (axD gj n) n
def QT (n:Nat):Option Bool:=
 some true
def aMf (n:Nat):UJ (QT n):=λr h=>rr h []
def azr (n:Nat) (s0:ag):Option Bool:=
 Hl (QT n) n s0.ai (s0.ai.length:Int) 0 s0
def aMe (n:Nat):K1 (A44 []) sw (azr n):=λs0 r h=>ra (axD (aMf n) n h) []
def F44:=azr
def ev44 (n:Nat):K1 (Cx E0 44 dv bQ) sw (F44 n):=λ_ _ h=>ca (X:=x44) (aMe n h)
def x100:=fx E0 Tryz.f100 []
def A100:=Ax x100 dv bQ
def afA (n:Nat) (s0:ag) (dh:Int):Option Bool:=
 if !decide (dh<0) then
 some (decide (dh<(s0.ai.length:Int)))
 else
 some false
def aJf (n:Nat):K2 (A100 []) Eb (afA n):=λs0 dh r h=>ie h (λc0 h=>rr h [bj c0]) λc0 h=>rr h [bj c0]
def Oo:=afA
def Qf (n:Nat):K2 (Cx E0 100 dv bQ) Eb (Oo n):=λ_ _ _ h=>ca (X:=x100) (aJf n h)
def Eo (r:aK):List (Nat×Bx):= [(cV,xO r)]
def Ii:=fx E0 Tryz.f45 []
def A45:=Ax Ii Ct Eo
def aEf (t25:cN) (t26 t27:Int) (H3:aK):LS:=⟨[(5,.ms 19 1 0 H3.length),(25,.slice 73 2 t25.length (bG t25)),(26,.int .i64 t26),(27,.int .i64 t27)],[(19,xO H3)]⟩
def aEe (H3:aK):LS:=⟨[(5,.ms 19 1 0 H3.length)],[(19,xO H3)]⟩
def Yn (aO:Wf0) (back:cN->Int->Int->aK->Option aK) (n:Nat) (t25:cN) (t26 t27:Int) (H3:aK):Option aK:=
 if decide (t27<t26) then
 (idx t25 t27).bind λx2=>(app H3 [x2.ay]).bind λdy=>back t25 t26 (bl (t27+1)) dy
 else
 aO H3
def UI:=K1 (A45 [1,1,1,1]) aEe
def UH:=K4 (A45 (cF 87)) aEf
def aMd {aO} (bq:UI aO) {back} (aS:UH back) (n:Nat):UH (Yn aO back n):=λt25 t26 t27 H3 r h=>ie h (λc0 h=>be h λx2 cX h=>be h λdy ga h=>ra (aS h) [aI c0,(0,eJ.idx cX),(7,R3.kF ga)]) λc0 h=>ra (bq h) [aI c0]
def Mn (aO:Wf0):Nat->cN->Int->Int->aK->Option aK
 |0=>λ_ _ _ _=>none
 |n+1=>Yn aO (Mn aO n) n
def axC {aO} (bq:UI aO):∀n:Nat,UH (Mn aO n)
 |0=>λ_ _ _ _ _ h=>nz h
 |n+1=>aMd bq (axC bq n) n
def Ym (n:Nat) (H3:aK):Option aK:=
 some H3
def aMc (n:Nat):UI (Ym n):=λH3 r h=>rr h [(2,.jq 19 cV)]
def anI (n:Nat) (s0:ag) (dh:Int):Option aK:=
 (Oo n s0 dh).bind λx5=>if !x5 then
 some []
 else
 (idx s0.ai dh).bind λdy=>(rA (dy.ae.length:Int) (0:Int)).bind λeO=>(idx s0.ai dh).bind λni=>Mn (Ym n) n ni.ae (ni.ae.length:Int) 0 []
def aMb (n:Nat):K2 (A45 []) Eb (anI n):=λs0 dh r h=>be h λx5 kR h=>ie h (λc0 h=>rr h [mY (Qf n kR),aI c0,(1,.born [4] [] cV false 3 1)]) λc0 h=>be h λdy ga h=>be h λeO ic h=>be h λni ph h=>ra (axC (aMc n) n h) [mY (Qf n kR),aI c0,(3,bW.idx ga),(3,R3.aJP ic),(4,bW.idx ph)]
def F45:=anI
def ev45 (n:Nat):K2 (Cx E0 45 Ct Eo) Eb (F45 n):=λ_ _ _ h=>ca (X:=Ii) (aMb n h)
def x101:=fx E0 Tryz.f101 []
def awC:=Ax x101 dv bQ
def aBI:LS:=⟨[],[]⟩
def ahx (rE:aK):LS:=⟨[(0,.slice 3 1 rE.length (eo rE))],[]⟩
def SF (aO:Option Bool) (back:aK->Int->Int->Option Bool) (n:Nat) (t5:aK) (t6 t7:Int):Option Bool:=
 if decide (t7<t6) then
 (idx t5 t7).bind λx2=>if x2 !=3 then
 if x2 !=4 then
 if x2 !=5 then
 some false
 else
 back t5 t6 (bl (t7+1))
 else
 back t5 t6 (bl (t7+1))
 else
 back t5 t6 (bl (t7+1))
 else
 aO
def UG:=K0 (awC [1,1]) aBI
def UF:=K3 (awC [0,1,0,1]) agX
def aJe {aO} (bq:UG aO) {back} (aS:UF back) (n:Nat):UF (SF aO back n):=λt5 t6 t7 r h=>ie h (λc0 h=>be h λx2 cX h=>let zA:SE:=[aI c0,(0,R3.idx cX)];ie h (λc1 h=>ie h (λc2 h=>ie h (λc3 h=>bD h zA [bj c1,aZ c2,bj c3]) λc3 h=>cI (aS h) zA [bj c1,aZ c2,bj c3]) λc2 h=>cI (aS h) zA [bj c1,aZ c2]) λc1 h=>cI (aS h) zA [bj c1]) λc0 h=>ra (bq h) [aI c0]
def FG (aO:Option Bool):Nat->aK->Int->Int->Option Bool
 |0=>λ_ _ _=>none
 |n+1=>SF aO (FG aO n) n
def ara {aO} (bq:UG aO):∀n:Nat,UF (FG aO n)
 |0=>λ_ _ _ _ h=>nz h
 |n+1=>aJe bq (ara bq n) n
def afz (n:Nat):Option Bool:=
 some true
def aJd (n:Nat):UG (afz n):=λr h=>rr h []
def afy (n:Nat) (rE:aK):Option Bool:=
 FG (afz n) n rE (rE.length:Int) 0
def aJc (n:Nat):K1 (awC []) ahx (afy n):=λrE r h=>ra (ara (aJd n) n h) []
def aed:=afy
def ayN (n:Nat):K1 (Cx E0 101 dv bQ) ahx (aed n):=λ_ _ h=>ca (X:=x101) (aJc n h)
def apo (r:(Bool×Int)):AV:=.bool r.1
def ahT (r:(Bool×Int)):List (Nat×Bx):= [(2,.flat 3 [cm r.2])]
def x102:=fx E0 Tryz.f102 [2]
def awB:=Ax x102 apo ahT
def C102:=Cx E0 102 apo ahT
def aBH (qW:Int) (t23:bO) (t24 t25 b2:Int):LS:=⟨[(1,.int .i64 qW),(2,.loc 2 0),(23,.slice 107 13 t23.length (aJ t23)),(24,.int .i64 t24),(25,.int .i64 t25)],[(2,.flat 3 [cm b2])]⟩
def aBG (b2:Int):LS:=⟨[],[(2,.flat 3 [cm b2])]⟩
def ahw (p0:ah) (qW ug:Int):LS:=⟨[(0,.agg (fp p0)),(1,cm qW),(2,.loc 2 0)],[(2,.flat 3 [cm ug])]⟩
def SD (nI:ah->Int->Int->Option (Bool×Int)) (aO:Int->Option (Bool×Int)) (back:Int->bO->Int->Int->Int->Option (Bool×Int)) (n:Nat) (qW:Int) (t23:bO) (t24 t25 b2:Int):Option (Bool×Int):=
 if decide (t25<t24) then
 (idx t23 t25).bind λx2=>(nI x2 (bl (qW+1)) b2).bind λdy=>if !dy.1 then
 some (false,dy.2)
 else
 back qW t23 t24 (bl (t25+1)) dy.2
 else
 aO b2
def Ef:=K3 C102 ahw
def UE:=K1 (awB [1,1,1,1]) aBG
def UC:=K5 (awB (cF 87)) aBH
def aJb {nI} (yU:Ef nI) {aO} (bq:UE aO) {back} (aS:UC back) (n:Nat):UC (SD nI aO back n):=λqW t23 t24 t25 b2 r h=>ie h (λc0 h=>be h λx2 cX h=>be h λdy ga h=>let zA:SE:=[aI c0,(0,eD.idx cX),(7,.call (yU ga) [(2,2)] [])];ie h (λc1 h=>bD h zA [aI c1]) λc1 h=>cI (aS h) zA [aI c1]) λc0 h=>ra (bq h) [aI c0]
def FF (nI:ah->Int->Int->Option (Bool×Int)) (aO:Int->Option (Bool×Int)):Nat->Int->bO->Int->Int->Int->Option (Bool×Int)
 |0=>λ_ _ _ _ _=>none
 |n+1=>SD nI aO (FF nI aO n) n
def aqZ {nI} (yU:Ef nI) {aO} (bq:UE aO):∀n:Nat,UC (FF nI aO n)
 |0=>λ_ _ _ _ _ _ h=>nz h
 |n+1=>aJb yU bq (aqZ yU bq n) n
def asQ (nI:ah->Int->Int->Option (Bool×Int)) (n:Nat) (b2:Int):Option (Bool×Int):=
 some (true,b2)
def aJa {nI} (yU:Ef nI) (n:Nat):UE (asQ nI n):=λb2 r h=>rr h []
def afx (nI:ah->Int->Int->Option (Bool×Int)) (n:Nat) (p0:ah) (qW ug:Int):Option (Bool×Int):=
 if decide ((bl (ug - 1))<0) then
 some (false,bl (ug - 1))
 else
 if decide (8<qW) then
 some (false,bl (ug - 1))
 else
 FF nI (asQ nI n) n qW p0.fArgs (p0.fArgs.length:Int) 0 (bl (ug - 1))
def aIZ {nI} (yU:Ef nI) (n:Nat):K3 (awB []) ahw (afx nI n):=λp0 qW ug r h=>ie h (λc0 h=>rr h [(11,eb c0)]) λc0 h=>ie h (λc1 h=>rr h [(11,eb c0),aZ c1]) λc1 h=>ra (aqZ yU (aJa yU n) n h) [(11,eb c0),aZ c1]
def V2:Nat->ah->Int->Int->Option (Bool×Int)
 |0,_,_,_=>none
 |n+1,p0,qW,ug=>afx (V2 n) n p0 qW ug
def ayM:∀n:Nat,Ef (V2 n)
 |0=>λ_ _ _ _ h=>nz h
 |n+1=>λ_ _ _ _ h=>ca (X:=x102) (aIZ (ayM n) n h)
def x114:=fx E0 Tryz.f114 []
def A114:=Ax x114 dv bQ
def asP (n:Nat) (v0:aP):Option Bool:=
 if v0.ay==1 then
 if v0.bZ==0 then
 some (decide (v0.bB=ByteArray.empty))
 else
 some false
 else
 if v0.ay==2 then
 if v0.bZ==0 then
 some (decide (v0.bB=ByteArray.empty))
 else
 some false
 else
 if v0.ay==3 then
 if v0.bZ==0 then
 some (decide (v0.bB=ByteArray.empty))
 else
 if v0.bZ==1 then
 some (decide (v0.bB=ByteArray.empty))
 else
 some false
 else
 if v0.ay==4 then
 some (decide (v0.bB=ByteArray.empty))
 else
 if v0.ay==5 then
 if v0.bZ==0 then
 some (!decide (64<(v0.bB.size:Int)))
 else
 some false
 else
 some false
def aIH (n:Nat):K1 (A114 []) vJ (asP n):=λv0 r h=>ie h (λc0 h=>ie h (λc1 h=>rr h [bu c0,bj c1]) λc1 h=>rr h [bu c0,bj c1]) λc0 h=>ie h (λc1 h=>ie h (λc2 h=>rr h [bu c0,bb c1,bj c2]) λc2 h=>rr h [bu c0,bb c1,bj c2]) λc1 h=>let zA:SE:=[bu c0,bb c1];ie h (λc2 h=>ie h (λc3 h=>bD h zA [bb c2,bj c3]) λc3 h=>ie h (λc4 h=>bD h zA [bb c2,bj c3,bj c4]) λc4 h=>bD h zA [bb c2,bj c3,bj c4]) λc2 h=>let zB:SE:=dJ zA [bb c2];ie h (λc3 h=>bD h zB [bb c3]) λc3 h=>ie h (λc4 h=>ie h (λc5 h=>bD h zB [bb c3,bb c4,bj c5]) λc5 h=>bD h zB [bb c3,bb c4,bj c5]) λc4 h=>bD h zB [bb c3,bb c4]
def ane:=asP
def ayI (n:Nat):K1 (Cx E0 114 dv bQ) vJ (ane n):=λ_ _ h=>ca (X:=x114) (aIH n h)
def x163:=fx E0 Tryz.f163 []
def A163:=Ax x163 dv bQ
def aeN (n:Nat) (v0:aP):Option Bool:=
 (ane n v0).bind λx4=>if x4 then
 if v0.ay !=1 then
 some (v0.ay !=2)
 else
 some false
 else
 some false
def aGZ (n:Nat):K1 (A163 []) vJ (aeN n):=λv0 r h=>be h λx4 jr h=>let zA:SE:=[kH (ayI n jr)];ie h (λc0 bI=>by subst c0;exact (ie bI (λc1 bI=>bD bI zA [bj c1]) λc1 bI=>bD bI zA [bj c1])) λc0 bI=>by subst c0;exact (rr bI zA)
def adM:=aeN
def alz (n:Nat):K1 (Cx E0 163 dv bQ) vJ (adM n):=λ_ _ h=>ca (X:=x163) (aGZ n h)
def x156:=fx E0 Tryz.f156 []
def A156:=Ax x156 ee bQ
def aAz (LD:aK) (b3:aT):LS:=⟨[(3,.loc 3 0),(5,.slice 3 1 LD.length (eo LD))],[(3,.flat 105 (pR b3))]⟩
def ahb (k0:iQ) (o1:aT):LS:=⟨[(0,.agg (JG k0)),(1,.agg (pR o1))],[]⟩
def RG (n:Nat) (LD:aK) (b3:aT):Option Int:=
 if decide (b3.cQ<0) then
 some 0
 else
 if !decide (b3.cQ<(LD.length:Int)) then
 some 0
 else
 if !((b3.aD.ay==0) && ((b3.aD.bZ==0) && ((decide (b3.aD.bB=ByteArray.empty)) && true))) then
 some 0
 else
 (idx LD b3.cQ).bind λjQ=>some jQ
def arT (n:Nat):K2 (A156 [1,1,1]) aAz (RG n):=λLD b3 r h=>ie h (λc0 h=>rr h [aZ c0]) λc0 h=>ie h (λc1 h=>rr h [aZ c0,cg c1]) λc1 h=>ie h (λc2 h=>rr h [aZ c0,cg c1,cg c2]) λc2 h=>be h λjQ j3 h=>rr h [aZ c0,cg c1,cg c2,(4,R3.idx j3)]
def aeT (n:Nat) (k0:iQ) (o1:aT):Option Int:=
 if o1.ay==3 then
 if o1.cQ !=0 then
 some 0
 else
 (adM n o1.aD).bind λiL=>if !iL then
 some 0
 else
 some o1.aD.ay
 else
 if o1.ay==2 then
 RG n k0.mR o1
 else
 if o1.ay==1 then
 RG n k0.lp o1
 else
 some 0
def aHi (n:Nat):K2 (A156 []) ahb (aeT n):=λk0 o1 r h=>ie h (λc0 h=>ie h (λc1 h=>rr h [iC c0,bj c1]) λc1 h=>be h λiL kh h=>let zA:SE:=[iC c0,bj c1,kH (alz n kh)];ie h (λc2 h=>bD h zA [aI c2]) λc2 h=>bD h zA [aI c2]) λc0 h=>ie h (λc1 h=>ra (arT n h) [iC c0,bb c1]) λc1 h=>ie h (λc2 h=>ra (arT n h) [iC c0,bb c1,bb c2]) λc2 h=>rr h [iC c0,bb c1,bb c2]
def adN:=aeT
def ayA (n:Nat):K2 (Cx E0 156 ee bQ) ahb (adN n):=λ_ _ _ h=>ca (X:=x156) (aHi n h)
def x103:=fx E0 Tryz.f103 []
def Wd:=Ax x103 dv bQ
def C103:=Cx E0 103 dv bQ
def aBF (t76:bO) (t77 t78:Int) (b2:iQ):LS:=⟨[(2,.loc 2 0),(76,.slice 107 13 t76.length (aJ t76)),(77,.int .i64 t77),(78,.int .i64 t78)],[(2,.flat 193 (JG b2))]⟩
def aBE:LS:=⟨[],[]⟩
def aBD (t50:Bool) (b2:iQ) (b3:ah):LS:=⟨[(2,.loc 2 0),(3,.loc 3 0),(50,.bool t50)],[(2,.flat 193 (JG b2)),(3,qS (fp b3))]⟩
def aBC:LS:=⟨[],[]⟩
def aBB (b2:iQ) (b3:ah):LS:=⟨[(2,.loc 2 0),(3,.loc 3 0)],[(2,.flat 193 (JG b2)),(3,qS (fp b3))]⟩
def ahv (k0:iQ) (p1:ah):LS:=⟨[(0,.agg (JG k0)),(1,.agg (fp p1))],[]⟩
def SC (fh:iQ->ah->Option Bool) (aO:Option Bool) (back:Wf42) (n:Nat) (t76:bO) (t77 t78:Int) (b2:iQ):Option Bool:=
 if decide (t78<t77) then
 (idx t76 t78).bind λx2=>(fh b2 x2).bind λx9=>if !x9 then
 some false
 else
 back t76 t77 (bl (t78+1)) b2
 else
 aO
def sx:=K2 C103 ahv
def UB:=K0 (Wd [1,1,1,1]) aBE
def AH:=K4 (Wd (cF 87)) aBF
def aIY {fh} (j5:sx fh) {aO} (bq:UB aO) {back} (aS:AH back) (n:Nat):AH (SC fh aO back n):=λt76 t77 t78 b2 r h=>ie h (λc0 h=>be h λx2 cX h=>be h λx9 iS h=>let zA:SE:=[aI c0,(0,eD.idx cX),oZ (j5 iS)];ie h (λc1 h=>bD h zA [aI c1]) λc1 h=>cI (aS h) zA [aI c1]) λc0 h=>ra (bq h) [aI c0]
def zd (fh:iQ->ah->Option Bool) (aO:Option Bool):Nat->bO->Int->Int->iQ->Option Bool
 |0=>λ_ _ _ _=>none
 |n+1=>SC fh aO (zd fh aO n) n
def aqY {fh} (j5:sx fh) {aO} (bq:UB aO):∀n:Nat,AH (zd fh aO n)
 |0=>λ_ _ _ _ _ h=>nz h
 |n+1=>aIY j5 bq (aqY j5 bq n) n
def SB (fh:iQ->ah->Option Bool) (n:Nat):Option Bool:=
 some true
def aIX {fh} (j5:sx fh) (n:Nat):UB (SB fh n):=λr h=>rr h []
def Kt (fh:iQ->ah->Option Bool) (n:Nat) (t50:Bool) (b2:iQ) (b3:ah):Option Bool:=
 if t50 then
 some false
 else
 if b3.eP !=0 then
 some false
 else
 if !((b3.cq.ay==0) && ((b3.cq.cQ==0) && (((b3.cq.aD.ay==0) && ((b3.cq.aD.bZ==0) && ((decide (b3.cq.aD.bB=ByteArray.empty)) && true))) && true))) then
 some false
 else
 if !((b3.bL.ay==0) && ((b3.bL.cQ==0) && (((b3.bL.aD.ay==0) && ((b3.bL.aD.bZ==0) && ((decide (b3.bL.aD.bB=ByteArray.empty)) && true))) && true))) then
 some false
 else
 zd fh (SB fh n) n b3.fArgs (b3.fArgs.length:Int) 0 b2
def asa {fh} (j5:sx fh) (n:Nat):K3 (Wd (cF 885)) aBD (Kt fh n):=λt50 b2 b3 r h=>ie h (λc0 bI=>by subst c0;exact (rr bI [])) λc0 bI=>by subst c0;exact (ie bI (λc1 bI=>rr bI [aZ c1]) λc1 bI=>ie bI (λc2 bI=>rr bI [aZ c1,bu c2]) λc2 bI=>ie bI (λc3 bI=>rr bI [aZ c1,bu c2,cg c3]) λc3 bI=>ra (aqY j5 (aIX j5 n) n bI) [aZ c1,bu c2,cg c3])
def SA (fh:iQ->ah->Option Bool) (da:Option Bool) (back:Wf42) (n:Nat) (t76:bO) (t77 t78:Int) (b2:iQ):Option Bool:=
 if decide (t78<t77) then
 (idx t76 t78).bind λx2=>(fh b2 x2).bind λx9=>if !x9 then
 some false
 else
 back t76 t77 (bl (t78+1)) b2
 else
 da
def UA:=K0 (Wd [1,1,1,1]) aBC
def aIW {fh} (j5:sx fh) {da} (fg:UA da) {back} (aS:AH back) (n:Nat):AH (SA fh da back n):=λt76 t77 t78 b2 r h=>ie h (λc0 h=>be h λx2 cX h=>be h λx9 iS h=>let zA:SE:=[aI c0,(0,eD.idx cX),oZ (j5 iS)];ie h (λc1 h=>bD h zA [aI c1]) λc1 h=>cI (aS h) zA [aI c1]) λc0 h=>ra (fg h) [aI c0]
def zc (fh:iQ->ah->Option Bool) (da:Option Bool):Nat->bO->Int->Int->iQ->Option Bool
 |0=>λ_ _ _ _=>none
 |n+1=>SA fh da (zc fh da n) n
def aqX {fh} (j5:sx fh) {da} (fg:UA da):∀n:Nat,AH (zc fh da n)
 |0=>λ_ _ _ _ _ h=>nz h
 |n+1=>aIW j5 fg (aqX j5 fg n) n
def Sz (fh:iQ->ah->Option Bool) (n:Nat):Option Bool:=
 some true
def aIV {fh} (j5:sx fh) (n:Nat):UA (Sz fh n):=λr h=>rr h []
def FZ (fh:iQ->ah->Option Bool) (n:Nat) (b2:iQ) (b3:ah):Option Bool:=
 if b3.eP !=0 then
 some false
 else
 if !((b3.cq.ay==0) && ((b3.cq.cQ==0) && (((b3.cq.aD.ay==0) && ((b3.cq.aD.bZ==0) && ((decide (b3.cq.aD.bB=ByteArray.empty)) && true))) && true))) then
 some false
 else
 if !((b3.bL.ay==0) && ((b3.bL.cQ==0) && (((b3.bL.aD.ay==0) && ((b3.bL.aD.bZ==0) && ((decide (b3.bL.aD.bB=ByteArray.empty)) && true))) && true))) then
 some false
 else
 zc fh (Sz fh n) n b3.fArgs (b3.fArgs.length:Int) 0 b2
def acJ {fh} (j5:sx fh) (n:Nat):K2 (Wd [1,1]) aBB (FZ fh n):=λb2 b3 r h=>ie h (λc0 h=>rr h [aZ c0]) λc0 h=>ie h (λc1 h=>rr h [aZ c0,bu c1]) λc1 h=>ie h (λc2 h=>rr h [aZ c0,bu c1,cg c2]) λc2 h=>ra (aqX j5 (aIV j5 n) n h) [aZ c0,bu c1,cg c2]
def afw (fh:iQ->ah->Option Bool) (n:Nat) (k0:iQ) (p1:ah):Option Bool:=
 if p1.bh==3 then
 (adN n k0 p1.cq).bind λdy=>(adN n k0 p1.bL).bind λeO=>if (p1.fArgs.length:Int)==0 then
 if !decide (p1.eP<1) then
 if !decide (6<p1.eP) then
 if dy !=0 then
 some (dy==eO)
 else
 some false
 else
 some false
 else
 some false
 else
 some false
 else
 if p1.bh==1 then
 Kt fh n ((p1.fArgs.length:Int) !=0) k0 p1
 else
 if p1.bh==2 then
 Kt fh n ((p1.fArgs.length:Int) !=0) k0 p1
 else
 if p1.bh==6 then
 if (p1.fArgs.length:Int) !=1 then
 some false
 else
 FZ fh n k0 p1
 else
 if p1.bh==4 then
 FZ fh n k0 p1
 else
 if p1.bh==5 then
 FZ fh n k0 p1
 else
 some false
def aIU {fh} (j5:sx fh) (n:Nat):K2 (Wd []) ahv (afw fh n):=λk0 p1 r h=>ie h (λc0 h=>be h λdy ga h=>be h λeO ic h=>let zA:SE:=[cg c0,(1,.ord [0,1,2,4,5,6,3,7,8,9]),LJ (ayA n ga),om (ayA n ic)];ie h (λc1 h=>let zB:SE:=dJ zA [cg c1];ie h (λc2 h=>ie h (λc3 h=>ie h (λc4 h=>bD h zB [bj c2,bu c3,bj c4]) λc4 h=>bD h zB [bj c2,bu c3,bj c4]) λc3 h=>bD h zB [bj c2,bu c3]) λc2 h=>bD h zB [bj c2]) λc1 h=>bD h zA [cg c1]) λc0 h=>ie h (λc1 h=>ra (asa j5 n h) [cg c0,bb c1]) λc1 h=>let zA:SE:=[cg c0,bb c1];ie h (λc2 h=>cI (asa j5 n h) zA [bb c2]) λc2 h=>let zB:SE:=dJ zA [bb c2];ie h (λc3 h=>ie h (λc4 h=>bD h zB [bb c3,bu c4]) λc4 h=>cI (acJ j5 n h) zB [bb c3,bu c4]) λc3 h=>ie h (λc4 h=>cI (acJ j5 n h) zB [bb c3,bb c4]) λc4 h=>ie h (λc5 h=>cI (acJ j5 n h) zB [bb c3,bb c4,bb c5]) λc5 h=>bD h zB [bb c3,bb c4,bb c5]
def vA:Nat->iQ->ah->Option Bool
 |0,_,_=>none
 |n+1,k0,p1=>afw (vA n) n k0 p1
def ayL:∀n:Nat,sx (vA n)
 |0=>λ_ _ _ h=>nz h
 |n+1=>λ_ _ _ h=>ca (X:=x103) (aIU (ayL n) n h)
def AY:=fx E0 Tryz.f46 []
def A46:=Ax AY ee bQ
def anH (n:Nat) (er params1:aK) (p2:ah):Option Int:=
 (aed n er).bind λx4=>if !x4 then
 some 1
 else
 (aed n params1).bind λx9=>if !x9 then
 some 1
 else
 (V2 n p2 1 24).bind λeO=>if !eO.1 then
 some 2
 else
 (vA n (iQ.mk er params1) p2).bind λiK=>if !iK then
 some 50
 else
 some 0
def aMa (n:Nat):K3 (A46 []) AG (anH n):=λer params1 p2 r h=>be h λx4 jr h=>let zA:SE:=[kH (ayN n jr)];ie h (λc0 h=>bD h zA [aI c0]) λc0 h=>be h λx9 iS h=>let zB:SE:=dJ zA [aI c0,iW (ayN n iS)];ie h (λc1 h=>bD h zB [aI c1]) λc1 h=>be h λeO ic h=>let zC:SE:=dJ zB [aI c1,(4,.call (ayM n ic) [(7,2)] [])];ie h (λc2 h=>bD h zC [aI c2]) λc2 h=>be h λiK tv h=>let zD:SE:=dJ zC [aI c2,mY (ayL n tv)];ie h (λc3 h=>bD h zD [aI c3]) λc3 h=>bD h zD [aI c3]
def F46:=anH
def ev46 (n:Nat):K3 (Cx E0 46 ee bQ) AG (F46 n):=λ_ _ _ _ h=>ca (X:=AY) (aMa n h)
def fj:=fx E0 Tryz.f15 []
def A15:=Ax fj ee bQ
def aEK (EC:aK) (t58:bn) (t59 t60:Int) (t69:bO) (t70 t71:Int) (b1:ag):LS:=⟨[(1,.loc 1 0),(7,.slice 3 1 EC.length (eo EC)),(58,.slice 44 5 t58.length (cP t58)),(59,.int .i64 t59),(60,.int .i64 t60),(69,.slice 107 13 t69.length (aJ t69)),(70,.int .i64 t70),(71,.int .i64 t71)],[(1,iE (dD b1))]⟩
def aoO (t58:bn) (t59 t60:Int) (b1:ag):LS:=⟨[(1,.loc 1 0),(58,.slice 44 5 t58.length (cP t58)),(59,.int .i64 t59),(60,.int .i64 t60)],[(1,iE (dD b1))]⟩
def aEJ:LS:=⟨[],[]⟩
def YM (dZ:JW) (back:VI) (n:Nat) (t16:bn) (t17 t18:Int) (b1:ag):Option Int:=
 if decide (t18<t17) then
 (idx t16 t18).bind λx2=>if decide (8<(x2.ae.length:Int)) then
 some 2
 else
 if decide (4<(x2.af.length:Int)) then
 some 2
 else
 if decide (4<(x2.ak.length:Int)) then
 some 2
 else
 back t16 t17 (bl (t18+1)) b1
 else
 dZ b1
def Uz:=K1 (A15 [1,1,1]) OQ
def Uy:=K4 (A15 [0,1,0,1,1]) aor
def aNa {dZ} (gj:Uz dZ) {back} (aS:Uy back) (n:Nat):Uy (YM dZ back n):=λt16 t17 t18 b1 r h=>ie h (λc0 h=>be h λx2 cX h=>let zA:SE:=[aI c0,(0,bW.idx cX)];ie h (λc1 h=>bD h zA [dP c1]) λc1 h=>ie h (λc2 h=>bD h zA [dP c1,bu c2]) λc2 h=>ie h (λc3 h=>bD h zA [dP c1,bu c2,cg c3]) λc3 h=>cI (aS h) zA [dP c1,bu c2,cg c3]) λc0 h=>ra (gj h) [aI c0]
def Mx (dZ:JW):Nat->bn->Int->Int->ag->Option Int
 |0=>λ_ _ _ _=>none
 |n+1=>YM dZ (Mx dZ n) n
def axU {dZ} (gj:Uz dZ):∀n:Nat,Uy (Mx dZ n)
 |0=>λ_ _ _ _ _ h=>nz h
 |n+1=>aNa gj (axU gj n) n
def YL (bt:VI) (back:aK->bn->Int->Int->bO->Int->Int->ag->Option Int) (n:Nat) (EC:aK) (t58:bn) (t59 t60:Int) (t69:bO) (t70 t71:Int) (b1:ag):Option Int:=
 if decide (t71<t70) then
 (idx t69 t71).bind λx2=>(F46 n EC [] x2).bind λx9=>if x9 !=0 then
 some x9
 else
 back EC t58 t59 t60 t69 t70 (bl (t71+1)) b1
 else
 bt t58 t59 t60 b1
def Ux:=K4 (A15 (cF 3887)) aoO
def Uw:=K8 (A15 (cF 95023)) aEK
def aMZ {bt} (cM:Ux bt) {back} (aS:Uw back) (n:Nat):Uw (YL bt back n):=λEC t58 t59 t60 t69 t70 t71 b1 r h=>ie h (λc0 h=>be h λx2 cX h=>be h λx9 iS h=>let zA:SE:=[aI c0,(0,eD.idx cX),oZ (ev46 n iS)];ie h (λc1 h=>bD h zA [aZ c1]) λc1 h=>cI (aS h) zA [aZ c1]) λc0 h=>ra (cM h) [aI c0]
def Mw (bt:VI):Nat->aK->bn->Int->Int->bO->Int->Int->ag->Option Int
 |0=>λ_ _ _ _ _ _ _ _=>none
 |n+1=>YL bt (Mw bt n) n
def axT {bt} (cM:Ux bt):∀n:Nat,Uw (Mw bt n)
 |0=>λ_ _ _ _ _ _ _ _ _ h=>nz h
 |n+1=>aMZ cM (axT cM n) n
def YK (bC:VI) (n:Nat) (t58:bn) (t59 t60:Int) (b1:ag):Option Int:=
 bC t58 t59 (bl (t60+1)) b1
def Lk:=K4 (A15 (cF 175)) aoO
def aMY {bC} (cU:Lk bC) (n:Nat):Ux (YK bC n):=λt58 t59 t60 b1 r h=>ra (cU h) []
def YJ (da:Option Int) (back:VI) (n:Nat) (t58:bn) (t59 t60:Int) (b1:ag):Option Int:=
 if decide (t60<t59) then
 (idx t58 t60).bind λx3=>(F45 n b1 t60).bind λdy=>Mw (YK back n) n dy t58 t59 t60 x3.ak (x3.ak.length:Int) 0 b1
 else
 da
def Uv:=K0 (A15 [1,1,1,1,1]) aEJ
def aMX {da} (fg:Uv da) {back} (aS:Lk back) (n:Nat):Lk (YJ da back n):=λt58 t59 t60 b1 r h=>ie h (λc0 h=>be h λx3 eY h=>be h λdy ga h=>ra (axT (aMY aS n) n h) [aI c0,(1,bW.idx eY),(6,.call (ev45 n ga) [] [(67,cV)]),(5,R3.fX 67 dy)]) λc0 h=>ra (fg h) [aI c0]
def Hr (da:Option Int):Nat->bn->Int->Int->ag->Option Int
 |0=>λ_ _ _ _=>none
 |n+1=>YJ da (Hr da n) n
def axS {da} (fg:Uv da):∀n:Nat,Lk (Hr da n)
 |0=>λ_ _ _ _ _ h=>nz h
 |n+1=>aMX fg (axS fg n) n
def RC (n:Nat):Option Int:=
 some 0
def aMW (n:Nat):Uv (RC n):=λr h=>rr h []
def YI (n:Nat) (b1:ag):Option Int:=
 if decide (b1.ax<0) then
 some 70
 else
 if decide (1000<b1.ax) then
 some 70
 else
 (F43 n b1).bind λdy=>if !dy then
 some 70
 else
 (F44 n b1).bind λiL=>if !iL then
 some 70
 else
 Hr (RC n) n b1.ai (b1.ai.length:Int) 0 b1
def aMV (n:Nat):Uz (YI n):=λb1 r h=>ie h (λc0 h=>rr h [aZ c0]) λc0 h=>ie h (λc1 h=>rr h [aZ c0,bj c1]) λc1 h=>be h λdy ga h=>let zA:SE:=[aZ c0,bj c1,kH (ev43 n ga)];ie h (λc2 h=>bD h zA [aI c2]) λc2 h=>be h λiL kh h=>let zB:SE:=dJ zA [aI c2,kH (ev44 n kh)];ie h (λc3 h=>bD h zB [aI c3]) λc3 h=>cI (axS (aMW n) n h) zB [aI c3]
def anT (n:Nat) (s0:ag):Option Int:=
 if decide (8<(s0.ai.length:Int)) then
 some 2
 else
 Mx (YI n) n s0.ai (s0.ai.length:Int) 0 s0
def aMU (n:Nat):K1 (A15 []) sw (anT n):=λs0 r h=>ie h (λc0 h=>rr h [cg c0]) λc0 h=>ra (axU (aMV n) n h) [cg c0]
def F15:=anT
def avi (n:Nat):K1 (Cx E0 15 ee bQ) sw (F15 n):=λ_ _ h=>ca (X:=fj) (aMU n h)
def HG:=fx E0 Tryz.f64 []
def A64:=Ax HG ee bQ
def aow (s0:ag) (jS:Int):LS:=⟨[(0,.agg (dD s0)),(1,cm jS)],[]⟩
def anA (n:Nat) (s0:ag) (jS:Int):Option Int:=
 (F15 n s0).bind λx4=>if x4 !=0 then
 some x4
 else
 if jS !=1 then
 if jS !=2 then
 if jS !=3 then
 some 1
 else
 some 0
 else
 some 0
 else
 some 0
def aLI (n:Nat):K2 (A64 []) aow (anA n):=λs0 jS r h=>be h λx4 jr h=>let zA:SE:=[kH (avi n jr)];ie h (λc0 h=>bD h zA [aZ c0]) λc0 h=>let zB:SE:=dJ zA [aZ c0];ie h (λc1 h=>ie h (λc2 h=>ie h (λc3 h=>bD h zB [bb c1,aZ c2,bj c3]) λc3 h=>bD h zB [bb c1,aZ c2,bj c3]) λc2 h=>bD h zB [bb c1,aZ c2]) λc1 h=>bD h zB [bb c1]
def F64:=anA
def ev64 (n:Nat):K2 (Cx E0 64 ee bQ) aow (F64 n):=λ_ _ _ h=>ca (X:=HG) (aLI n h)
def pF:=fx E0 Tryz.f65 []
def A65:=Ax pF ee bQ
def aDR (n3:Int) (t7:ey) (t8 t9:Int):LS:=⟨[(3,.int .i64 n3),(7,.slice 68 1 t7.length (wk t7)),(8,.int .i64 t8),(9,.int .i64 t9)],[]⟩
def aDQ (n3:Int):LS:=⟨[(3,cm n3)],[]⟩
def aov (st0:aW):LS:=⟨[(0,.agg (rK st0))],[]⟩
def Yf (aO:Wf6) (back:Int->ey->Int->Int->Option Int) (n:Nat) (n3:Int) (t7:ey) (t8 t9:Int):Option Int:=
 if decide (t9<t8) then
 (idx t7 t9).bind λx2=>back (bl (n3+(x2.length:Int))) t7 t8 (bl (t9+1))
 else
 aO n3
def Uu:=K1 (A65 [1,1,1]) aDQ
def Ut:=K4 (A65 [0,1,0,1,1]) aDR
def aLH {aO} (bq:Uu aO) {back} (aS:Ut back) (n:Nat):Ut (Yf aO back n):=λn3 t7 t8 t9 r h=>ie h (λc0 h=>be h λx2 cX h=>ra (aS h) [aI c0,(0,xp.idx cX)]) λc0 h=>ra (bq h) [aI c0]
def Ml (aO:Wf6):Nat->Int->ey->Int->Int->Option Int
 |0=>λ_ _ _ _=>none
 |n+1=>Yf aO (Ml aO n) n
def axx {aO} (bq:Uu aO):∀n:Nat,Ut (Ml aO n)
 |0=>λ_ _ _ _ _ h=>nz h
 |n+1=>aLH bq (axx bq n) n
def Ye (n:Nat) (n3:Int):Option Int:=
 some n3
def aLG (n:Nat):Uu (Ye n):=λn3 r h=>rr h []
def anz (n:Nat) (st0:aW):Option Int:=
 Ml (Ye n) n 0 st0.ai (st0.ai.length:Int) 0
def aLF (n:Nat):K1 (A65 []) aov (anz n):=λst0 r h=>ra (axx (aLG n) n h) []
def F65:=anz
def ev65 (n:Nat):K1 (Cx E0 65 ee bQ) aov (F65 n):=λ_ _ h=>ca (X:=pF) (aLF n h)
def x66:=fx E0 Tryz.f66 []
def A66:=Ax x66 dv bQ
def aDP (dC i10:Int) (oM CE:Bool) (t41:cC) (t42 t43:Int) (b9:aj) (gH:aP):LS:=⟨[(3,.int .i64 dC),(9,.loc 9 0),(10,.int .i64 i10),(11,.loc 11 0),(12,.bool oM),(13,.bool CE),(41,.slice 38 3 t41.length (fM t41)),(42,.int .i64 t42),(43,.int .i64 t43)],[(9,pb (im b9)),(11,xL (lP gH))]⟩
def aDO (dC i10:Int) (oM:Bool) (t41:cC) (t42 t43:Int) (b9:aj) (gH:aP):LS:=⟨[(3,.int .i64 dC),(9,.loc 9 0),(10,.int .i64 i10),(11,.loc 11 0),(12,.bool oM),(41,.slice 38 3 t41.length (fM t41)),(42,.int .i64 t42),(43,.int .i64 t43)],[(9,pb (im b9)),(11,xL (lP gH))]⟩
def aDN (dC:Int) (t41:cC) (t42 t43:Int) (b9:aj):LS:=⟨[(3,.int .i64 dC),(9,.loc 9 0),(41,.slice 38 3 t41.length (fM t41)),(42,.int .i64 t42),(43,.int .i64 t43)],[(9,pb (im b9))]⟩
def aDM:LS:=⟨[],[]⟩
def aDL (dh:Int) (kC:cC) (dC:Int) (t29:Bool) (b4:ag):LS:=⟨[(1,.int .i64 dh),(2,.slice 38 3 kC.length (fM kC)),(3,.int .i64 dC),(4,.loc 4 0),(29,.bool t29)],[(4,iE (dD b4))]⟩
def aou (s0:ag) (dh:Int) (kC:cC) (dC:Int):LS:=⟨[(0,.agg (dD s0)),(1,.int .i64 dh),(2,.slice 38 3 kC.length (fM kC)),(3,.int .i64 dC)],[]⟩
def QP (bt:avT) (n:Nat) (dC i10:Int) (oM CE:Bool) (t41:cC) (t42 t43:Int) (b9:aj) (gH:aP):Option Bool:=
 (idx b9.ae i10).bind λx6=>if gH.ay !=x6.ay then
 if !oM then
 if !CE then
 some false
 else
 bt dC t41 t42 (bl (t43+1)) b9
 else
 bt dC t41 t42 (bl (t43+1)) b9
 else
 bt dC t41 t42 (bl (t43+1)) b9
def Ee:=K5 (A66 (cF 175)) aDN
def ame {bt} (cM:Ee bt) (n:Nat):K9 (A66 (cF 127791)) aDP (QP bt n):=λdC i10 oM CE t41 t42 t43 b9 gH r h=>be h λx6 lD h=>let zA:SE:=[(5,eJ.idx lD)];ie h (λc0 h=>ie h (λc1 h=>ie h (λc2 h=>bD h zA [aZ c0,aZ c1,bj c2]) λc2 h=>cI (cM h) zA [aZ c0,aZ c1,bj c2]) λc1 h=>cI (cM h) zA [aZ c0,aZ c1]) λc0 h=>cI (cM h) zA [aZ c0]
def MJ (bt:avT) (n:Nat) (dC i10:Int) (oM:Bool) (t41:cC) (t42 t43:Int) (b9:aj) (gH:aP):Option Bool:=
 if gH.ay==1 then
 if dC==3 then
 QP bt n dC i10 oM (!decide (i10<b9.aw)) t41 t42 t43 b9 gH
 else
 QP bt n dC i10 oM false t41 t42 t43 b9 gH
 else
 QP bt n dC i10 oM false t41 t42 t43 b9 gH
def amd {bt} (cM:Ee bt) (n:Nat):K8 (A66 (cF 62255)) aDO (MJ bt n):=λdC i10 oM t41 t42 t43 b9 gH r h=>ie h (λc0 h=>ie h (λc1 h=>ra (ame cM n h) [aZ c0,aZ c1]) λc1 h=>ra (ame cM n h) [aZ c0,aZ c1]) λc0 h=>ra (ame cM n h) [aZ c0]
def Yd (bC:Option Bool) (back:avT) (n:Nat) (dC:Int) (t41:cC) (t42 t43:Int) (b9:aj):Option Bool:=
 if decide (t43<t42) then
 (idx t41 t43).bind λx3=>(ane n x3).bind λdB=>if !dB then
 some false
 else
 if x3.ay==2 then
 if dC !=1 then
 MJ back n dC t43 (!decide (t43<b9.aw)) t41 t42 t43 b9 x3
 else
 MJ back n dC t43 false t41 t42 t43 b9 x3
 else
 MJ back n dC t43 false t41 t42 t43 b9 x3
 else
 bC
def Us:=K0 (A66 [1,1,1,1,1]) aDM
def aLE {bC} (cU:Us bC) {back} (aS:Ee back) (n:Nat):Ee (Yd bC back n):=λdC t41 t42 t43 b9 r h=>ie h (λc0 h=>be h λx3 eY h=>be h λdB kS h=>let zA:SE:=[aI c0,(1,p8.idx eY),oZ (ayI n kS)];ie h (λc1 h=>bD h zA [aI c1]) λc1 h=>ie h (λc2 h=>ie h (λc3 h=>cI (amd aS n h) zA [aI c1,aZ c2,aZ c3]) λc3 h=>cI (amd aS n h) zA [aI c1,aZ c2,aZ c3]) λc2 h=>cI (amd aS n h) zA [aI c1,aZ c2]) λc0 h=>ra (cU h) [aI c0]
def Hi (bC:Option Bool):Nat->Int->cC->Int->Int->aj->Option Bool
 |0=>λ_ _ _ _ _=>none
 |n+1=>Yd bC (Hi bC n) n
def axw {bC} (cU:Us bC):∀n:Nat,Ee (Hi bC n)
 |0=>λ_ _ _ _ _ _ h=>nz h
 |n+1=>aLE cU (axw cU n) n
def QO (n:Nat):Option Bool:=
 some true
def aLD (n:Nat):Us (QO n):=λr h=>rr h []
def Hz (n:Nat) (dh:Int) (kC:cC) (dC:Int) (t29:Bool) (b4:ag):Option Bool:=
 if t29 then
 some false
 else
 (idx b4.ai dh).bind λx4=>if (kC.length:Int) !=(x4.ae.length:Int) then
 some false
 else
 Hi (QO n) n dC kC (kC.length:Int) 0 x4
def XR (n:Nat):K5 (A66 [1,0,1]) aDL (Hz n):=λdh kC dC t29 b4 r h=>ie h (λc0 bI=>by subst c0;exact (rr bI [])) λc0 bI=>by subst c0;exact (be bI λx4 jr bI=>ie bI (λc1 bI=>rr bI [(3,bW.idx jr),iC c1]) λc1 bI=>ra (axw (aLD n) n bI) [(3,bW.idx jr),iC c1])
def anx (n:Nat) (s0:ag) (dh:Int) (kC:cC) (dC:Int):Option Bool:=
 if dC !=1 then
 if dC !=2 then
 if dC !=3 then
 Hz n dh kC dC true s0
 else
 (Oo n s0 dh).bind λeO=>Hz n dh kC dC (!eO) s0
 else
 (Oo n s0 dh).bind λiu=>Hz n dh kC dC (!iu) s0
 else
 (Oo n s0 dh).bind λgS=>Hz n dh kC dC (!gS) s0
def aLC (n:Nat):K4 (A66 []) aou (anx n):=λs0 dh kC dC r h=>ie h (λc0 h=>ie h (λc1 h=>ie h (λc2 h=>ra (XR n h) [bj c0,aZ c1,bj c2]) λc2 h=>be h λeO ic h=>ra (XR n h) [bj c0,aZ c1,bj c2,mY (Qf n ic)]) λc1 h=>be h λiu j4 h=>ra (XR n h) [bj c0,aZ c1,LJ (Qf n j4)]) λc0 h=>be h λgS jG h=>ra (XR n h) [bj c0,yr (Qf n jG)]
def F66:=anx
def ev66 (n:Nat):K4 (Cx E0 66 dv bQ) aou (F66 n):=λ_ _ _ _ _ h=>ca (X:=x66) (aLC n h)
def x187:=fx E0 Tryz.f187 []
def A187:=Ax x187 dv bQ
def KN (x0:Int):LS:=⟨[(0,cm x0)],[]⟩
def aex (n:Nat) (x0:Int):Option Bool:=
 some (x0 !=x0)
def aGi (n:Nat):K1 (A187 []) KN (aex n):=λx0 r h=>rr h []
def amP:=aex
def aym (n:Nat):K1 (Cx E0 187 dv bQ) KN (amP n):=λ_ _ h=>ca (X:=x187) (aGi n h)
def x160:=fx E0 Tryz.f160 []
def A160:=Ax x160 ee bQ
def KR (x0 y1:Int):LS:=⟨[(0,cm x0),(1,cm y1)],[]⟩
def aeQ (n:Nat) (x0 y1:Int):Option Int:=
 (amP n x0).bind λx3=>(amP n y1).bind λx7=>if x3 then
 if x7 then
 some 0
 else
 some (-1)
 else
 if x7 then
 some 1
 else
 if decide (x0<y1) then
 some (-1)
 else
 if decide (y1<x0) then
 some 1
 else
 some 0
def aHc (n:Nat):K2 (A160 []) KR (aeQ n):=λx0 y1 r h=>be h λx3 eY h=>be h λx7 jK h=>let zA:SE:=[iW (aym n eY),iW (aym n jK)];ie h (λc0 bI=>by subst c0;exact (ie bI (λc1 oN=>by subst c1;exact (rr oN zA)) λc1 oN=>by subst c1;exact (rr oN zA))) λc0 bI=>by subst c0;exact (ie bI (λc1 oN=>by subst c1;exact (rr oN zA)) λc1 oN=>by subst c1;exact (ie oN (λc2 oN=>bD oN zA [cg c2]) λc2 oN=>ie oN (λc3 oN=>bD oN zA [cg c2,aZ c3]) λc3 oN=>bD oN zA [cg c2,aZ c3]))
def amT:=aeQ
def aKu (n:Nat):K2 (Cx E0 160 ee bQ) KR (amT n):=λ_ _ _ h=>ca (X:=x160) (aHc n h)
def x188:=fx E0 Tryz.f188 []
def A188:=Ax x188 dv bQ
def aew (n:Nat) (x0:Int):Option Bool:=
 some (x0 !=x0)
def aGh (n:Nat):K1 (A188 []) KN (aew n):=λx0 r h=>rr h []
def amO:=aew
def ayl (n:Nat):K1 (Cx E0 188 dv bQ) KN (amO n):=λ_ _ h=>ca (X:=x188) (aGh n h)
def x161:=fx E0 Tryz.f161 []
def A161:=Ax x161 ee bQ
def aeP (n:Nat) (x0 y1:Int):Option Int:=
 (amO n x0).bind λx3=>(amO n y1).bind λx7=>if x3 then
 if x7 then
 some 0
 else
 some (-1)
 else
 if x7 then
 some 1
 else
 if decide (x0<y1) then
 some (-1)
 else
 if decide (y1<x0) then
 some 1
 else
 some 0
def aHb (n:Nat):K2 (A161 []) KR (aeP n):=λx0 y1 r h=>be h λx3 eY h=>be h λx7 jK h=>let zA:SE:=[iW (ayl n eY),iW (ayl n jK)];ie h (λc0 bI=>by subst c0;exact (ie bI (λc1 oN=>by subst c1;exact (rr oN zA)) λc1 oN=>by subst c1;exact (rr oN zA))) λc0 bI=>by subst c0;exact (ie bI (λc1 oN=>by subst c1;exact (rr oN zA)) λc1 oN=>by subst c1;exact (ie oN (λc2 oN=>bD oN zA [cg c2]) λc2 oN=>ie oN (λc3 oN=>bD oN zA [cg c2,aZ c3]) λc3 oN=>bD oN zA [cg c2,aZ c3]))
def amS:=aeP
def aKt (n:Nat):K2 (Cx E0 161 ee bQ) KR (amS n):=λ_ _ _ h=>ca (X:=x161) (aHb n h)
def x189:=fx E0 Tryz.f189 []
def A189:=Ax x189 ee bQ
def KM (a0 b1:ByteArray):LS:=⟨[(0,.str a0),(1,.str b1)],[]⟩
def aev (n:Nat) (a0 b1:ByteArray):Option Int:=
 (amM n a0 b1).bind λx4=>some x4
def aGg (n:Nat):K2 (A189 []) KM (aev n):=λa0 b1 r h=>be h λx4 jr h=>rr h [kH (aKi n jr)]
def awf:=aev
def aKn (n:Nat):K2 (Cx E0 189 ee bQ) KM (awf n):=λ_ _ _ h=>ca (X:=x189) (aGg n h)
def x162:=fx E0 Tryz.f162 []
def A162:=Ax x162 ee bQ
def aeO (n:Nat) (a0 b1:ByteArray):Option Int:=
 (awf n a0 b1).bind λx4=>some x4
def aHa (n:Nat):K2 (A162 []) KM (aeO n):=λa0 b1 r h=>be h λx4 jr h=>rr h [kH (aKn n jr)]
def awj:=aeO
def aKs (n:Nat):K2 (Cx E0 162 ee bQ) KM (awj n):=λ_ _ _ h=>ca (X:=x162) (aHa n h)
def x116:=fx E0 Tryz.f116 []
def A116:=Ax x116 ee bQ
def afq (n:Nat) (a0 b1:aP):Option Int:=
 if ((a0.ay==b1.ay) && ((a0.bZ==b1.bZ) && ((decide (a0.bB=b1.bB)) && true))) then
 some 0
 else
 (amT n a0.ay b1.ay).bind λdy=>if dy !=0 then
 some dy
 else
 (amS n a0.bZ b1.bZ).bind λjQ=>if jQ !=0 then
 some jQ
 else
 (awj n a0.bB b1.bB).bind λHH=>some HH
def aID (n:Nat):K2 (A116 []) OS (afq n):=λa0 b1 r h=>ie h (λc0 h=>rr h [cg c0]) λc0 h=>be h λdy ga h=>let zA:SE:=[cg c0,mY (aKu n ga)];ie h (λc1 h=>bD h zA [aZ c1]) λc1 h=>be h λjQ j3 h=>let zB:SE:=dJ zA [aZ c1,mY (aKt n j3)];ie h (λc2 h=>bD h zB [aZ c2]) λc2 h=>be h λHH NQ h=>bD h zB [aZ c2,mY (aKs n NQ)]
def anb:=afq
def aKK (n:Nat):K2 (Cx E0 116 ee bQ) OS (anb n):=λ_ _ _ h=>ca (X:=x116) (aID n h)
def x115:=fx E0 Tryz.f115 []
def awy:=Ax x115 ee bQ
def aBs (vM vL t11:cC) (t12 t13:Int):LS:=⟨[(0,.slice 38 3 vM.length (fM vM)),(1,.slice 38 3 vL.length (fM vL)),(2,.fn 116 [] []),(11,.slice 38 3 t11.length (fM t11)),(12,.int .i64 t12),(13,.int .i64 t13)],[]⟩
def aBr (vM vL:cC):LS:=⟨[(0,.slice 38 3 vM.length (fM vM)),(1,.slice 38 3 vL.length (fM vL))],[]⟩
def ahp (vM vL:cC):LS:=⟨[(0,.slice 38 3 vM.length (fM vM)),(1,.slice 38 3 vL.length (fM vL)),(2,.fn 116 [] [])],[]⟩
def Sr (aO:amx) (back:cC->cC->cC->Int->Int->Option Int) (n:Nat) (vM vL t11:cC) (t12 t13:Int):Option Int:=
 if decide (t13<t12) then
 (idx t11 t13).bind λx3=>if !decide (t13<(vL.length:Int)) then
 some 1
 else
 (idx vL t13).bind λfj=>(anb n x3 fj).bind λiK=>if iK !=0 then
 some iK
 else
 back vM vL t11 t12 (bl (t13+1))
 else
 aO vM vL
def Ur:=K2 (awy [1,1]) aBr
def Uq:=K5 (awy [0,1,0,1]) aBs
def aIG {aO} (bq:Ur aO) {back} (aS:Uq back) (n:Nat):Uq (Sr aO back n):=λvM vL t11 t12 t13 r h=>ie h (λc0 h=>be h λx3 eY h=>let zA:SE:=[aI c0,(1,p8.idx eY)];ie h (λc1 h=>bD h zA [jU c1]) λc1 h=>be h λfj mO h=>be h λiK tv h=>let zB:SE:=dJ zA [jU c1,(2,p8.idx mO),LJ (aKK n tv)];ie h (λc2 h=>bD h zB [aZ c2]) λc2 h=>cI (aS h) zB [aZ c2]) λc0 h=>ra (bq h) [aI c0]
def Cc (aO:amx):Nat->cC->cC->cC->Int->Int->Option Int
 |0=>λ_ _ _ _ _=>none
 |n+1=>Sr aO (Cc aO n) n
def aqT {aO} (bq:Ur aO):∀n:Nat,Uq (Cc aO n)
 |0=>λ_ _ _ _ _ _ h=>nz h
 |n+1=>aIG bq (aqT bq n) n
def Kq (n:Nat) (vM vL:cC):Option Int:=
 if decide ((vM.length:Int)<(vL.length:Int)) then
 some (-1)
 else
 some 0
def aIF (n:Nat):Ur (Kq n):=λvM vL r h=>ie h (λc0 h=>rr h [bu c0]) λc0 h=>rr h [bu c0]
def asO (n:Nat) (vM vL:cC):Option Int:=
 Cc (Kq n) n vM vL vM (vM.length:Int) 0
def aIE (n:Nat):K2 (awy []) ahp (asO n):=λvM vL r h=>ra (aqT (aIF n) n h) []
def F115:=asO
def aKL (n:Nat):K2 (Cx E0 115 ee bQ) ahp (F115 n):=λ_ _ _ h=>ca (X:=x115) (aIE n h)
def x67:=fx E0 Tryz.f67 []
def A67:=Ax x67 ee bQ
def azn (n:Nat) (a0 b1:cC):Option Int:=
 (F115 n a0 b1).bind λx4=>some x4
def aLB (n:Nat):K2 (A67 []) Iw (azn n):=λa0 b1 r h=>be h λx4 jr h=>rr h [kH (aKL n jr)]
def F67:=azn
def ave (n:Nat):K2 (Cx E0 67 ee bQ) Iw (F67 n):=λ_ _ _ h=>ca (X:=x67) (aLB n h)
def awT (r:cC):AV:=.slice 38 3 r.length (fM r)
def x68:=fx E0 Tryz.f68 []
def A68:=Ax x68 awT bQ
def anw (n:Nat) (s0:ag) (dh:Int) (kC:cC):Option cC:=
 if decide (dh<0) then
 some []
 else
 if !decide (dh<(s0.ai.length:Int)) then
 some []
 else
 (idx s0.ai dh).bind λeO=>(cut kC none (some (if 0<(if (kC.length:Int)<eO.aw then (kC.length:Int) else eO.aw) then (if (kC.length:Int)<eO.aw then (kC.length:Int) else eO.aw) else 0))).bind λCl=>some Cl
def aLA (n:Nat):K3 (A68 []) OU (anw n):=λs0 dh kC r h=>ie h (λc0 h=>rr h [bj c0,(3,.zN 6 (.sl 0 38 3 0 []))]) λc0 h=>ie h (λc1 h=>rr h [bj c0,cg c1,(2,.zN 6 (.sl 0 38 3 0 []))]) λc1 h=>be h λeO ic h=>be h λCl NR h=>rr h [bj c0,cg c1,(5,bW.idx ic),(6,p8.cut NR)]
def F68:=anw
def ev68 (n:Nat):K3 (Cx E0 68 awT bQ) OU (F68 n):=λ_ _ _ _ h=>ca (X:=x68) (aLA n h)
def sM:=fx E0 Tryz.f26 []
def A26:=Ax sM ee bQ
def aED (jS t8:Int) (Cq:bU) (t29:ey) (t30 t31:Int) (t36:bU) (t37 t38:Int) (b3:ag):LS:=⟨[(1,.int .i64 jS),(3,.loc 3 0),(8,.int .i64 t8),(9,.slice 70 1 Cq.length (oG Cq)),(29,.slice 68 1 t29.length (wk t29)),(30,.int .i64 t30),(31,.int .i64 t31),(36,.slice 70 1 t36.length (oG t36)),(37,.int .i64 t37),(38,.int .i64 t38)],[(3,iE (dD b3))]⟩
def aoI (jS:Int) (t29:ey) (t30 t31:Int) (b3:ag):LS:=⟨[(1,.int .i64 jS),(3,.loc 3 0),(29,.slice 68 1 t29.length (wk t29)),(30,.int .i64 t30),(31,.int .i64 t31)],[(3,iE (dD b3))]⟩
def aEC:LS:=⟨[],[]⟩
def aoH (s0:ag) (jS:Int) (Co:aW):LS:=⟨[(0,.agg (dD s0)),(1,cm jS),(2,.agg (rK Co))],[]⟩
def YC (aO:amu) (back:Int->Int->bU->ey->Int->Int->bU->Int->Int->ag->Option Int) (n:Nat) (jS t8:Int) (Cq:bU) (t29:ey) (t30 t31:Int) (t36:bU) (t37 t38:Int) (b3:ag):Option Int:=
 if decide (t38<t37) then
 (idx t36 t38).bind λx3=>(F66 n b3 t8 x3 jS).bind λgS=>if !gS then
 some 80
 else
 if decide (0<t38) then
 (idx Cq (bl (t38 - 1))).bind λiK=>(F68 n b3 t8 iK).bind λx26_=>(F68 n b3 t8 x3).bind λwe=>(F67 n x26_ we).bind λlW=>if !decide (lW<0) then
 some 80
 else
 back jS t8 Cq t29 t30 t31 t36 t37 (bl (t38+1)) b3
 else
 back jS t8 Cq t29 t30 t31 t36 t37 (bl (t38+1)) b3
 else
 aO jS t29 t30 t31 b3
def Uo:=K5 (A26 (cF 3887)) aoI
def Un:=K10 (A26 (cF 45871)) aED
def aMI {aO} (bq:Uo aO) {back} (aS:Un back) (n:Nat):Un (YC aO back n):=λjS t8 Cq t29 t30 t31 t36 t37 t38 b3 r h=>ie h (λc0 h=>be h λx3 eY h=>be h λgS jG h=>let zA:SE:=[aI c0,(1,o9.idx eY),yr (ev66 n jG)];ie h (λc1 h=>bD h zA [aI c1]) λc1 h=>let zB:SE:=dJ zA [aI c1,(0,.ord [0,1,2,3,4,5,6,7,8,9,11,12,13,10,14,15,16,17])];ie h (λc2 h=>be h λiK tv h=>be h λx26_ xU h=>be h λwe Bt h=>be h λlW tu h=>let zC:SE:=dJ zB [bb c2,(6,o9.idx tv),mY (ev68 n xU),om (ev68 n Bt),om (ave n tu)];ie h (λc3 h=>bD h zC [aI c3]) λc3 h=>cI (aS h) zC [aI c3]) λc2 h=>cI (aS h) zB [bb c2]) λc0 h=>ra (bq h) [aI c0]
def Ms (aO:amu):Nat->Int->Int->bU->ey->Int->Int->bU->Int->Int->ag->Option Int
 |0=>λ_ _ _ _ _ _ _ _ _ _=>none
 |n+1=>YC aO (Ms aO n) n
def axN {aO} (bq:Uo aO):∀n:Nat,Un (Ms aO n)
 |0=>λ_ _ _ _ _ _ _ _ _ _ _ h=>nz h
 |n+1=>aMI bq (axN bq n) n
def YB (bt:amu) (n:Nat) (jS:Int) (t29:ey) (t30 t31:Int) (b3:ag):Option Int:=
 bt jS t29 t30 (bl (t31+1)) b3
def Lj:=K5 (A26 (cF 175)) aoI
def aMH {bt} (cM:Lj bt) (n:Nat):Uo (YB bt n):=λjS t29 t30 t31 b3 r h=>ra (cM h) []
def YA (bC:Option Int) (back:amu) (n:Nat) (jS:Int) (t29:ey) (t30 t31:Int) (b3:ag):Option Int:=
 if decide (t31<t30) then
 (idx t29 t31).bind λx3=>Ms (YB back n) n jS t31 x3 t29 t30 t31 x3 (x3.length:Int) 0 b3
 else
 bC
def Um:=K0 (A26 [1,1,1,1,1]) aEC
def aMG {bC} (cU:Um bC) {back} (aS:Lj back) (n:Nat):Lj (YA bC back n):=λjS t29 t30 t31 b3 r h=>ie h (λc0 h=>be h λx3 eY h=>ra (axN (aMH aS n) n h) [aI c0,(1,xp.idx eY)]) λc0 h=>ra (cU h) [aI c0]
def Ho (bC:Option Int):Nat->Int->ey->Int->Int->ag->Option Int
 |0=>λ_ _ _ _ _=>none
 |n+1=>YA bC (Ho bC n) n
def axM {bC} (cU:Um bC):∀n:Nat,Lj (Ho bC n)
 |0=>λ_ _ _ _ _ _ h=>nz h
 |n+1=>aMG cU (axM cU n) n
def Q0 (n:Nat):Option Int:=
 some 0
def aMF (n:Nat):Um (Q0 n):=λr h=>rr h []
def anO (n:Nat) (s0:ag) (jS:Int) (Co:aW):Option Int:=
 (F64 n s0 jS).bind λx6=>if x6 !=0 then
 some x6
 else
 (F65 n Co).bind λgS=>if decide (512<gS) then
 some 2
 else
 if (Co.ai.length:Int) !=(s0.ai.length:Int) then
 some 80
 else
 Ho (Q0 n) n jS Co.ai (Co.ai.length:Int) 0 s0
def aME (n:Nat):K3 (A26 []) aoH (anO n):=λs0 jS Co r h=>be h λx6 lD h=>let zA:SE:=[oZ (ev64 n lD)];ie h (λc0 h=>bD h zA [aZ c0]) λc0 h=>be h λgS jG h=>let zB:SE:=dJ zA [aZ c0,yu (ev65 n jG)];ie h (λc1 h=>bD h zB [aI c1]) λc1 h=>ie h (λc2 h=>bD h zB [aI c1,dP c2]) λc2 h=>cI (axM (aMF n) n h) zB [aI c1,dP c2]
def F26:=anO
def ev26 (n:Nat):K3 (Cx E0 26 ee bQ) aoH (F26 n):=λ_ _ _ _ h=>ca (X:=sM) (aME n h)
def x147:=fx E0 Tryz.f147 []
def A147:=Ax x147 ee bQ
def ahf (c0:Int):LS:=⟨[(0,cm c0)],[]⟩
def asL (n:Nat) (c0:Int):Option Int:=
 some c0
def aHD (n:Nat):K1 (A147 []) ahf (asL n):=λc0 r h=>rr h []
def adW:=asL
def ayB (n:Nat):K1 (Cx E0 147 ee bQ) ahf (adW n):=λ_ _ h=>ca (X:=x147) (aHD n h)
def x146:=fx E0 Tryz.f146 []
def afH:=Ax x146 Ej bQ
def C146:=Cx E0 146 Ej bQ
def aAJ (t33:bO) (t34 t35:Int) (b4 b5:ah) (eE:bO):LS:=⟨[(1,.fn 147 [] []),(4,.loc 4 0),(5,.loc 5 0),(33,.slice 107 13 t33.length (aJ t33)),(34,.int .i64 t34),(35,.int .i64 t35)],[(4,.flat 107 (q2_ b4)),(5,.flat 107 (q4_ b5 eE.length)),(45,U6 eE)]⟩
def aAI (b4 b5:ah) (eE:bO):LS:=⟨[(4,.loc 4 0),(5,.loc 5 0)],[(4,.flat 107 (q2_ b4)),(5,.flat 107 (q4_ b5 eE.length)),(45,U6 eE)]⟩
def ahh (b2 b4 b5:ah):LS:=⟨[(1,.fn 147 [] []),(2,.loc 2 0),(4,.loc 4 0),(5,.loc 5 0)],[(2,qS (fp b2)),(4,.flat 107 q6_),(5,qS (fp b5))]⟩
def ahg (p0:ah):LS:=⟨[(0,.agg (fp p0)),(1,.fn 147 [] [])],[]⟩
def RP (ja:ah->Option ah) (aO:amy) (back:bO->Int->Int->ah->ah->bO->Option ah) (n:Nat) (t33:bO) (t34 t35:Int) (b4 b5:ah) (eE:bO):Option ah:=
 if decide (t35<t34) then
 (idx t33 t35).bind λx2=>(ja x2).bind λdy=>(app eE [dy]).bind λiu=>back t33 t34 (bl (t35+1)) (ah.mk b4.bh b4.eP b4.cq b4.bL []) (ah.mk b5.bh b5.eP b5.cq b5.bL iu) iu
 else
 aO (ah.mk b4.bh b4.eP b4.cq b4.bL []) (ah.mk b5.bh b5.eP b5.cq b5.bL eE) eE
def xH:=K1 C146 ahg
def Ul:=K3 (afH (cF 127)) aAI
def Uk:=K6 (afH (cF 351)) aAJ
def aHG {ja} (pP:xH ja) {aO} (bq:Ul aO) {back} (aS:Uk back) (n:Nat):Uk (RP ja aO back n):=λt33 t34 t35 b4 b5 eE r h=>ie h (λc0 h=>be h λx2 cX h=>be h λdy ga h=>be h λiu j4 h=>ra (aS h) [aI c0,(0,eD.idx cX),yr (pP ga),(0,.laid (bN (Bx.rows false 107 13) (eD.map [dy]).symm)),(0,eD.kF j4)]) λc0 h=>ra (bq h) [aI c0]
def Fo (ja:ah->Option ah) (aO:amy):Nat->bO->Int->Int->ah->ah->bO->Option ah
 |0=>λ_ _ _ _ _ _=>none
 |n+1=>RP ja aO (Fo ja aO n) n
def aqA {ja} (pP:xH ja) {aO} (bq:Ul aO):∀n:Nat,Uk (Fo ja aO n)
 |0=>λ_ _ _ _ _ _ _ h=>nz h
 |n+1=>aHG pP bq (aqA pP bq n) n
def RO (ja:ah->Option ah) (n:Nat) (b4 b5:ah) (eE:bO):Option ah:=
 some (ah.mk b5.bh b5.eP b5.cq b5.bL eE)
def aHF {ja} (pP:xH ja) (n:Nat):Ul (RO ja n):=λb4 b5 eE r h=>rr h [(2,eD.fX 45 eE),(0,.pZ 4 (.flat 0 [.bool true,.bool true,.bool true,.bool true,.bool true,.bool true,.bool true,.bool true,.bool true,.bool true,.bool true,.bool true,.sl 0 0 0 0 []]))]
def Kj (ja:ah->Option ah) (n:Nat) (b2 b4 b5:ah):Option ah:=
 Fo ja (RO ja n) n b2.fArgs (b2.fArgs.length:Int) 0 (ah.mk 0 0 (aT.mk 0 0 (aP.mk 0 0 ByteArray.empty)) (aT.mk 0 0 (aP.mk 0 0 ByteArray.empty)) []) (ah.mk b5.bh b5.eP b5.cq b5.bL []) []
def arV {ja} (pP:xH ja) (n:Nat):K3 (afH [1,1,1,1]) ahh (Kj ja n):=λb2 b4 b5 r h=>ra (aqA pP (aHF pP n) n h) [(6,.born [] [(5,12)] 45 true 107 13)]
def Ki (ja:ah->Option ah) (n:Nat) (b2 b4 b5:ah):Option ah:=
 if b5.bL.ay==1 then
 (adW n b5.bL.cQ).bind λx9=>Kj ja n b2 (ah.mk 0 0 (aT.mk 0 0 (aP.mk 0 0 ByteArray.empty)) (aT.mk 0 0 (aP.mk 0 0 ByteArray.empty)) []) (ah.mk b5.bh b5.eP b5.cq (aT.mk b5.bL.ay x9 b5.bL.aD) b5.fArgs)
 else
 Kj ja n b2 (ah.mk 0 0 (aT.mk 0 0 (aP.mk 0 0 ByteArray.empty)) (aT.mk 0 0 (aP.mk 0 0 ByteArray.empty)) []) b5
def arU {ja} (pP:xH ja) (n:Nat):K3 (afH [1,1,1]) ahh (Ki ja n):=λb2 b4 b5 r h=>ie h (λc0 h=>be h λx9 iS h=>ra (arV pP n h) [bj c0,mY (ayB n iS)]) λc0 h=>ra (arV pP n h) [bj c0]
def afd (ja:ah->Option ah) (n:Nat) (p0:ah):Option ah:=
 if p0.cq.ay==1 then
 (adW n p0.cq.cQ).bind λiu=>Ki ja n p0 (ah.mk 0 0 (aT.mk 0 0 (aP.mk 0 0 ByteArray.empty)) (aT.mk 0 0 (aP.mk 0 0 ByteArray.empty)) []) (ah.mk p0.bh p0.eP (aT.mk p0.cq.ay iu p0.cq.aD) p0.bL p0.fArgs)
 else
 Ki ja n p0 (ah.mk 0 0 (aT.mk 0 0 (aP.mk 0 0 ByteArray.empty)) (aT.mk 0 0 (aP.mk 0 0 ByteArray.empty)) []) p0
def aHE {ja} (pP:xH ja) (n:Nat):K1 (afH []) ahg (afd ja n):=λp0 r h=>ie h (λc0 h=>be h λiu j4 h=>ra (arU pP n h) [iC c0,mY (ayB n j4)]) λc0 h=>ra (arU pP n h) [iC c0]
def Hu:Nat->ah->Option ah
 |0,_=>none
 |n+1,p0=>afd (Hu n) n p0
def ayC:∀n:Nat,xH (Hu n)
 |0=>λ_ _ h=>nz h
 |n+1=>λ_ _ h=>ca (X:=x146) (aHE (ayC n) n h)
def x159:=fx E0 Tryz.f159 []
def A159:=Ax x159 ee bQ
def aAv (jz:Int) (t23:Bool):LS:=⟨[(0,cm jz),(23,.bool t23)],[]⟩
def agZ (jz dq fI:Int):LS:=⟨[(0,cm jz),(1,cm dq),(2,cm fI)],[]⟩
def FV (n:Nat) (jz:Int) (t23:Bool):Option Int:=
 if t23 then
 some (bl (jz+1))
 else
 some jz
def Qv (n:Nat):K2 (A159 (cF 505)) aAv (FV n):=λjz t23 r h=>ie h (λc0 bI=>by subst c0;exact (rr bI [])) λc0 bI=>by subst c0;exact (rr bI [])
def aeR (n:Nat) (jz dq fI:Int):Option Int:=
 if jz==dq then
 some fI
 else
 if decide (dq<jz) then
 if !decide (fI<jz) then
 some (bl (jz - 1))
 else
 if !decide (jz<fI) then
 FV n jz (decide (jz<dq))
 else
 FV n jz false
 else
 if !decide (jz<fI) then
 FV n jz (decide (jz<dq))
 else
 FV n jz false
def aHd (n:Nat):K3 (A159 []) agZ (aeR n):=λjz dq fI r h=>ie h (λc0 h=>rr h [bj c0]) λc0 h=>ie h (λc1 h=>let zA:SE:=[bj c0,bj c1];ie h (λc2 h=>bD h zA [bj c2]) λc2 h=>ie h (λc3 h=>cI (Qv n h) zA [bj c2,bu c3]) λc3 h=>cI (Qv n h) zA [bj c2,bu c3]) λc1 h=>ie h (λc2 h=>ra (Qv n h) [bj c0,bj c1,cg c2]) λc2 h=>ra (Qv n h) [bj c0,bj c1,cg c2]
def amU:=aeR
def aKv (n:Nat):K3 (Cx E0 159 ee bQ) agZ (amU n):=λ_ _ _ _ h=>ca (X:=x159) (aHd n h)
def Pk (r:(Int×Int×Bool)):AV:=.cS [cm r.1,cm r.2.1,.bool r.2.2]
def x113:=fx E0 Tryz.f113 []
def A113:=Ax x113 Pk bQ
def ahq (m0:aE) (dh jh:Int):LS:=⟨[(0,.agg (mz m0)),(1,cm dh),(2,cm jh)],[]⟩
def Ss (n:Nat) (m0:aE) (dh jh:Int):Option (Int×Int×Bool):=
 if m0.bh==7 then
 if dh==m0.aG then
 some ((-1),(-1),false)
 else
 if decide (m0.aG<dh) then
 some (bl (dh - 1),jh,true)
 else
 some (dh,jh,true)
 else
 if m0.bh==2 then
 if dh==m0.aG then
 if !decide (jh<0) then
 if jh==m0.aN then
 some (dh,(-1),false)
 else
 if decide (m0.aN<jh) then
 some (dh,bl (jh - 1),true)
 else
 some (dh,jh,true)
 else
 some (dh,jh,true)
 else
 some (dh,jh,true)
 else
 if m0.bh==3 then
 if dh==m0.aG then
 if !decide (jh<0) then
 (amU n jh m0.aN m0.eL).bind λsM=>some (dh,sM,true)
 else
 some (dh,jh,true)
 else
 some (dh,jh,true)
 else
 some (dh,jh,true)
def aII (n:Nat):K3 (A113 []) ahq (Ss n):=λm0 dh jh r h=>ie h (λc0 h=>ie h (λc1 h=>rr h [dP c0,bu c1]) λc1 h=>ie h (λc2 h=>rr h [dP c0,bu c1,bj c2]) λc2 h=>rr h [dP c0,bu c1,bj c2]) λc0 h=>ie h (λc1 h=>let zA:SE:=[dP c0,bb c1];ie h (λc2 h=>let zB:SE:=dJ zA [bu c2];ie h (λc3 h=>ie h (λc4 h=>bD h zB [aZ c3,bu c4]) λc4 h=>ie h (λc5 h=>bD h zB [aZ c3,bu c4,bj c5]) λc5 h=>bD h zB [aZ c3,bu c4,bj c5]) λc3 h=>bD h zB [aZ c3]) λc2 h=>bD h zA [bu c2]) λc1 h=>let zA:SE:=[dP c0,bb c1];ie h (λc2 h=>ie h (λc3 h=>ie h (λc4 h=>be h λsM xU h=>bD h zA [bb c2,bu c3,aZ c4,LJ (aKv n xU)]) λc4 h=>bD h zA [bb c2,bu c3,aZ c4]) λc3 h=>bD h zA [bb c2,bu c3]) λc2 h=>bD h zA [bb c2]
def VY:=Ss
def ayJ (n:Nat):K3 (Cx E0 113 Pk bQ) ahq (VY n):=λ_ _ _ _ h=>ca (X:=x113) (aII n h)
def x198:=fx E0 Tryz.f198 [1,9000]
def A198:=AxS x198 [1,9000] ee bQ
def C198:=CxS E0 198 [1,9000] ee bQ
def agM (c0:Int) (t1:aF):LS:=⟨[(0,cm c0),(1,.loc 1 0)],[(1,.flat 182 [.loc 9000 0]),(9000,.flat 184 [.int .i64 t1.bg.ax,.ms Bp 5 0 t1.bg.ai.length,.int .i64 t1.fm.bh,.int .i64 t1.fm.aG,.int .i64 t1.fm.aN,.int .i64 t1.fm.eL,.str t1.fm.av,.int .i64 t1.fm.ay,.int .i64 t1.fm.aD.ay,.int .i64 t1.fm.aD.bZ,.str t1.fm.aD.bB,.slice 110 6 t1.fm.bf.length (cR t1.fm.bf),.str t1.fm.ar.av,.slice 73 2 t1.fm.ar.ae.length (bG t1.fm.ar.ae),.int .i64 t1.fm.ar.aw,.slice 121 2 t1.fm.ar.af.length (aR t1.fm.ar.af),.slice 107 13 t1.fm.ar.ak.length (aJ t1.fm.ar.ak)])]⟩
def aep (n:Nat) (c0:Int) (t1:aF):Option Int:=
 (VY n t1.fm t1.fm.aG c0).bind λgS=>some gS.2.1
def aFW (n:Nat):K2 (A198 []) agM (aep n):=λc0 t1 r h=>be h λgS jG h=>rrS h [(11,zP (ayJ n jG))]
def Oi:=aep
def alx (n:Nat):K2 C198 agM (Oi n):=λ_ _ _ h=>caS (X:=x198) (aFW n h)
def awG:=fx E0 Tryz.f146 [9000,jT]
def SH:=AxS awG [9000,100100] Ej bQ
def aNo:=CxS E0 146 [9000,100100] Ej bQ
def ath (t33:bO) (t34 t35:Int) (cx:aF) (b4 b5:ah) (eE:bO):LS:=⟨[(1,.fn 198 [] [.loc jT 0]),(4,.loc 4 0),(5,.loc 5 0),(33,.slice 107 13 t33.length (aJ t33)),(34,.int .i64 t34),(35,.int .i64 t35)],[(4,.flat 107 (q2_ b4)),(5,.flat 107 (q4_ b5 eE.length)),(45,.rows true 107 13 (aJ eE)),(9000,.flat 184 [.int .i64 cx.bg.ax,.ms Bp 5 0 cx.bg.ai.length,.int .i64 cx.fm.bh,.int .i64 cx.fm.aG,.int .i64 cx.fm.aN,.int .i64 cx.fm.eL,.str cx.fm.av,.int .i64 cx.fm.ay,.int .i64 cx.fm.aD.ay,.int .i64 cx.fm.aD.bZ,.str cx.fm.aD.bB,.slice 110 6 cx.fm.bf.length (cR cx.fm.bf),.str cx.fm.ar.av,.slice 73 2 cx.fm.ar.ae.length (bG cx.fm.ar.ae),.int .i64 cx.fm.ar.aw,.slice 121 2 cx.fm.ar.af.length (aR cx.fm.ar.af),.slice 107 13 cx.fm.ar.ak.length (aJ cx.fm.ar.ak)]),(jT,.flat 182 [.loc 9000 0])]⟩
def atg (cx:aF) (b4 b5:ah) (eE:bO):LS:=⟨[(4,.loc 4 0),(5,.loc 5 0)],[(4,.flat 107 (q2_ b4)),(5,.flat 107 (q4_ b5 eE.length)),(45,.rows true 107 13 (aJ eE)),(9000,.flat 184 [.int .i64 cx.bg.ax,.ms Bp 5 0 cx.bg.ai.length,.int .i64 cx.fm.bh,.int .i64 cx.fm.aG,.int .i64 cx.fm.aN,.int .i64 cx.fm.eL,.str cx.fm.av,.int .i64 cx.fm.ay,.int .i64 cx.fm.aD.ay,.int .i64 cx.fm.aD.bZ,.str cx.fm.aD.bB,.slice 110 6 cx.fm.bf.length (cR cx.fm.bf),.str cx.fm.ar.av,.slice 73 2 cx.fm.ar.ae.length (bG cx.fm.ar.ae),.int .i64 cx.fm.ar.aw,.slice 121 2 cx.fm.ar.af.length (aR cx.fm.ar.af),.slice 107 13 cx.fm.ar.ak.length (aJ cx.fm.ar.ak)]),(jT,.flat 182 [.loc 9000 0])]⟩
def Zc (cx:aF) (b2 b4 b5:ah):LS:=⟨[(1,.fn 198 [] [.loc jT 0]),(2,.loc 2 0),(4,.loc 4 0),(5,.loc 5 0)],[(2,.flat 107 (fp b2)),(4,.flat 107 q6_),(5,.flat 107 (fp b5)),(9000,.flat 184 [.int .i64 cx.bg.ax,.ms Bp 5 0 cx.bg.ai.length,.int .i64 cx.fm.bh,.int .i64 cx.fm.aG,.int .i64 cx.fm.aN,.int .i64 cx.fm.eL,.str cx.fm.av,.int .i64 cx.fm.ay,.int .i64 cx.fm.aD.ay,.int .i64 cx.fm.aD.bZ,.str cx.fm.aD.bB,.slice 110 6 cx.fm.bf.length (cR cx.fm.bf),.str cx.fm.ar.av,.slice 73 2 cx.fm.ar.ae.length (bG cx.fm.ar.ae),.int .i64 cx.fm.ar.aw,.slice 121 2 cx.fm.ar.af.length (aR cx.fm.ar.af),.slice 107 13 cx.fm.ar.ak.length (aJ cx.fm.ar.ak)]),(jT,.flat 182 [.loc 9000 0])]⟩
def Zb (p0:ah) (cx:aF):LS:=⟨[(0,.agg (fp p0)),(1,.fn 198 [] [.loc jT 0])],[(9000,.flat 184 [.int .i64 cx.bg.ax,.ms Bp 5 0 cx.bg.ai.length,.int .i64 cx.fm.bh,.int .i64 cx.fm.aG,.int .i64 cx.fm.aN,.int .i64 cx.fm.eL,.str cx.fm.av,.int .i64 cx.fm.ay,.int .i64 cx.fm.aD.ay,.int .i64 cx.fm.aD.bZ,.str cx.fm.aD.bB,.slice 110 6 cx.fm.bf.length (cR cx.fm.bf),.str cx.fm.ar.av,.slice 73 2 cx.fm.ar.ae.length (bG cx.fm.ar.ae),.int .i64 cx.fm.ar.aw,.slice 121 2 cx.fm.ar.af.length (aR cx.fm.ar.af),.slice 107 13 cx.fm.ar.ak.length (aJ cx.fm.ar.ak)]),(jT,.flat 182 [.loc 9000 0])]⟩
def MV (gL:ah->aF->Option ah) (aO:Wf45) (back:bO->Int->Int->aF->ah->ah->bO->Option ah) (n:Nat) (t33:bO) (t34 t35:Int) (cx:aF) (b4 b5:ah) (eE:bO):Option ah:=
 if decide (t35<t34) then
 (idx t33 t35).bind λx2=>(gL x2 cx).bind λdy=>(app eE [dy]).bind λiu=>back t33 t34 (bl (t35+1)) cx (ah.mk b4.bh b4.eP b4.cq b4.bL []) (ah.mk b5.bh b5.eP b5.cq b5.bL iu) iu
 else
 aO cx (ah.mk b4.bh b4.eP b4.cq b4.bL []) (ah.mk b5.bh b5.eP b5.cq b5.bL eE) eE
def xG:=K2 aNo Zb
def Uj:=K4 (SH (cF 127)) atg
def Ui:=K7 (SH (cF 351)) ath
def aCH {gL} (nK:xG gL) {aO} (bq:Uj aO) {back} (aS:Ui back) (n:Nat):Ui (MV gL aO back n):=λt33 t34 t35 cx b4 b5 eE r h=>ie h (λc0 h=>be h λx2 cX h=>be h λdy ga h=>be h λiu j4 h=>raS (aS h) (by kernel_rfl) [aI c0,(0,eD.idx cX),(7,.call (nK ga) [(9000,9000),(jT,jT)] []),(0,.laid (bN (Bx.rows false 107 13) (eD.map [dy]).symm)),(0,eD.kF j4)]) λc0 h=>raS (bq h) (by kernel_rfl) [aI c0]
def AT (gL:ah->aF->Option ah) (aO:Wf45):Nat->bO->Int->Int->aF->ah->ah->bO->Option ah
 |0=>λ_ _ _ _ _ _ _=>none
 |n+1=>MV gL aO (AT gL aO n) n
def ail {gL} (nK:xG gL) {aO} (bq:Uj aO):∀n:Nat,Ui (AT gL aO n)
 |0=>λ_ _ _ _ _ _ _ _ h=>nz h
 |n+1=>aCH nK bq (ail nK bq n) n
def MU (gL:ah->aF->Option ah) (n:Nat) (cx:aF) (b4 b5:ah) (eE:bO):Option ah:=
 some (ah.mk b5.bh b5.eP b5.cq b5.bL eE)
def aCG {gL} (nK:xG gL) (n:Nat):Uj (MU gL n):=λcx b4 b5 eE r h=>rrS h [(2,eD.fX 45 eE),(0,.pZ 4 (.flat 0 [.bool true,.bool true,.bool true,.bool true,.bool true,.bool true,.bool true,.bool true,.bool true,.bool true,.bool true,.bool true,.sl 0 0 0 0 []]))]
def FY (gL:ah->aF->Option ah) (n:Nat) (cx:aF) (b2 b4 b5:ah):Option ah:=
 AT gL (MU gL n) n b2.fArgs (b2.fArgs.length:Int) 0 cx (ah.mk 0 0 (aT.mk 0 0 (aP.mk 0 0 ByteArray.empty)) (aT.mk 0 0 (aP.mk 0 0 ByteArray.empty)) []) (ah.mk b5.bh b5.eP b5.cq b5.bL []) []
def aiI {gL} (nK:xG gL) (n:Nat):K4 (SH [1,1,1,1]) Zc (FY gL n):=λcx b2 b4 b5 r h=>raS (ail nK (aCG nK n) n h) (by kernel_rfl) [(6,.born [] [(5,12)] 45 true 107 13)]
def FX (gL:ah->aF->Option ah) (n:Nat) (cx:aF) (b2 b4 b5:ah):Option ah:=
 if b5.bL.ay==1 then
 (Oi n b5.bL.cQ cx).bind λx9=>FY gL n cx b2 (ah.mk 0 0 (aT.mk 0 0 (aP.mk 0 0 ByteArray.empty)) (aT.mk 0 0 (aP.mk 0 0 ByteArray.empty)) []) (ah.mk b5.bh b5.eP b5.cq (aT.mk b5.bL.ay x9 b5.bL.aD) b5.fArgs)
 else
 FY gL n cx b2 (ah.mk 0 0 (aT.mk 0 0 (aP.mk 0 0 ByteArray.empty)) (aT.mk 0 0 (aP.mk 0 0 ByteArray.empty)) []) b5
def aiH {gL} (nK:xG gL) (n:Nat):K4 (SH [1,1,1]) Zc (FX gL n):=λcx b2 b4 b5 r h=>ie h (λc0 h=>be h λx9 iS h=>raS (aiI nK n h) (by kernel_rfl) [bj c0,(4,.call (alx n iS) [(jT,1),(9000,9000)] [])]) λc0 h=>raS (aiI nK n h) (by kernel_rfl) [bj c0]
def V7 (gL:ah->aF->Option ah) (n:Nat) (p0:ah) (cx:aF):Option ah:=
 if p0.cq.ay==1 then
 (Oi n p0.cq.cQ cx).bind λiu=>FX gL n cx p0 (ah.mk 0 0 (aT.mk 0 0 (aP.mk 0 0 ByteArray.empty)) (aT.mk 0 0 (aP.mk 0 0 ByteArray.empty)) []) (ah.mk p0.bh p0.eP (aT.mk p0.cq.ay iu p0.cq.aD) p0.bL p0.fArgs)
 else
 FX gL n cx p0 (ah.mk 0 0 (aT.mk 0 0 (aP.mk 0 0 ByteArray.empty)) (aT.mk 0 0 (aP.mk 0 0 ByteArray.empty)) []) p0
def aCF {gL} (nK:xG gL) (n:Nat):K2 (SH []) Zb (V7 gL n):=λp0 cx r h=>ie h (λc0 h=>be h λiu j4 h=>raS (aiH nK n h) (by kernel_rfl) [iC c0,(4,.call (alx n j4) [(jT,1),(9000,9000)] [])]) λc0 h=>raS (aiH nK n h) (by kernel_rfl) [iC c0]
def Ay:Nat->ah->aF->Option ah
 |0,_,_=>none
 |n+1,p0,cx=>V7 (Ay n) n p0 cx
def ars:∀n:Nat,xG (Ay n)
 |0=>λ_ _ _ h=>nz h
 |n+1=>λ_ _ _ h=>caS (X:=awG) (aCF (ars n) n h)
def x96:=fx E0 Tryz.f96 []
def A96:=Ax x96 Ph Lv
def aDw (t17:cB) (t18 t19:Int) (b1 b2 b3:aj) (bR:cN) (gY:cB):LS:=⟨[(1,.loc 1 0),(2,.loc 2 0),(3,.loc 3 0),(17,.slice 121 2 t17.length (aR t17)),(18,.int .i64 t18),(19,.int .i64 t19)],[(1,pb (im b1)),(2,aaG b2),(3,.flat 44 [.str b3.av,.ms 12 2 0 bR.length,Gi b3,jO qX gY.length,.dE]),(12,akt bR),(qX,Ny gY)]⟩
def aDv (t36:bO) (t37 t38:Int) (b2 b3:aj) (bR:cN) (E4:bO) (gY:cB):LS:=⟨[(2,.loc 2 0),(3,.loc 3 0),(36,.slice 107 13 t36.length (aJ t36)),(37,.int .i64 t37),(38,.int .i64 t38)],[(2,aaG b2),(3,.flat 44 [.str b3.av,.ms 12 2 0 bR.length,Gi b3,jO qX gY.length,.ms 47 13 0 E4.length]),(12,akt bR),(47,U6 E4),(qX,Ny gY)]⟩
def aDu (b2 b3:aj) (bR:cN) (E4:bO) (gY:cB):LS:=⟨[(2,.loc 2 0),(3,.loc 3 0)],[(2,aaG b2),(3,.flat 44 [.str b3.av,.ms 12 2 0 bR.length,Gi b3,jO qX gY.length,.ms 47 13 0 E4.length]),(12,akt bR),(47,U6 E4),(qX,Ny gY)]⟩
def aDt (b1 b2 b3:aj) (bR:cN) (gY:cB):LS:=⟨[(1,.loc 1 0),(2,.loc 2 0),(3,.loc 3 0)],[(1,pb (im b1)),(2,aaG b2),(3,.flat 44 [.str b3.av,.ms 12 2 0 bR.length,Gi b3,jO qX gY.length,.dE]),(12,akt bR),(qX,Ny gY)]⟩
def X0 (bC:Wf46) (back:cB->Int->Int->aj->aj->aj->cN->cB->Option aj) (n:Nat) (t17:cB) (t18 t19:Int) (b1 b2 b3:aj) (bR:cN) (gY:cB):Option aj:=
 if decide (t19<t18) then
 (idx t17 t19).bind λx2=>(app [] x2.ae).bind λdy=>(app gY [(bk.mk dy x2.aG)]).bind λiL=>(setAt iL gY.length (bk.mk dy x2.aG)).bind λz21=>back t17 t18 (bl (t19+1)) b1 (aj.mk b2.av [] b2.aw [] []) (aj.mk b3.av bR b3.aw z21 []) bR z21
 else
 bC b1 (aj.mk b2.av [] b2.aw [] []) (aj.mk b3.av bR b3.aw gY []) bR gY
def Uh:=K5 (A96 [1,1,1]) aDt
def Ug:=K8 (A96 [0,1,0,1,1]) aDw
def aLd {bC} (cU:Uh bC) {back} (aS:Ug back) (n:Nat):Ug (X0 bC back n):=λt17 t18 t19 b1 b2 b3 bR gY r h=>ie h (λc0 h=>be h λx2 cX h=>be h λdy ga h=>be h λiL kh h=>be h λz21 wA h=>ra (aS h) [aI c0,(0,eQ.idx cX),(3,.born [] [] 27 true 3 1),(4,R3.app (xs:= []) ga),(4,eQ.Iq kh),(2,.beq qX (bN (λq_=>Bx.tree 121 2 zm q_ [(gY.length*2+0,.ms 27 1 0 dy.length)]) (eQ.apS (r:= (oH x2.aG)) kh))),(0,eQ.gT R3 (r:= (oH x2.aG)) qX 27 0 false 3 1 dy wA (by kernel_rfl)),(2,.beq 3 (bN (λn_=>(Bx.flat 44 [.str b3.av,.ms 12 2 0 bR.length,Gi b3,jO qX n_,.dE])) (((eQ.apL kh).trans (eu wA)))))]) λc0 h=>ra (cU h) [aI c0]
def Me (bC:Wf46):Nat->cB->Int->Int->aj->aj->aj->cN->cB->Option aj
 |0=>λ_ _ _ _ _ _ _ _=>none
 |n+1=>X0 bC (Me bC n) n
def axm {bC} (cU:Uh bC):∀n:Nat,Ug (Me bC n)
 |0=>λ_ _ _ _ _ _ _ _ _ h=>nz h
 |n+1=>aLd cU (axm cU n) n
def XZ (bt:Wf47) (back:bO->Int->Int->aj->aj->cN->bO->cB->Option aj) (n:Nat) (t36:bO) (t37 t38:Int) (b2 b3:aj) (bR:cN) (E4:bO) (gY:cB):Option aj:=
 if decide (t38<t37) then
 (idx t36 t38).bind λx2=>(Hu n x2).bind λdB=>(app E4 [dB]).bind λdY=>back t36 t37 (bl (t38+1)) (aj.mk b2.av [] b2.aw [] []) (aj.mk b3.av bR b3.aw gY dY) bR dY gY
 else
 bt (aj.mk b2.av [] b2.aw [] []) (aj.mk b3.av bR b3.aw gY E4) bR E4 gY
def Uf:=K5 (A96 [1,1,1,1]) aDu
def Ue:=K8 (A96 (cF 87)) aDv
def aLc {bt} (cM:Uf bt) {back} (aS:Ue back) (n:Nat):Ue (XZ bt back n):=λt36 t37 t38 b2 b3 bR E4 gY r h=>ie h (λc0 h=>be h λx2 cX h=>be h λdB kS h=>be h λdY iq h=>ra (aS h) [aI c0,(0,eD.idx cX),LJ (ayC n kS),(0,.laid (bN (Bx.rows false 107 13) (eD.map [dB]).symm)),(0,eD.kF iq)]) λc0 h=>ra (cM h) [aI c0]
def Mc (bt:Wf47):Nat->bO->Int->Int->aj->aj->cN->bO->cB->Option aj
 |0=>λ_ _ _ _ _ _ _ _=>none
 |n+1=>XZ bt (Mc bt n) n
def axl {bt} (cM:Uf bt):∀n:Nat,Ue (Mc bt n)
 |0=>λ_ _ _ _ _ _ _ _ _ h=>nz h
 |n+1=>aLc cM (axl cM n) n
def anm (n:Nat) (b2 b3:aj) (bR:cN) (E4:bO) (gY:cB):Option aj:=
 some (aj.mk b3.av bR b3.aw gY E4)
def aLb (n:Nat):Uf (anm n):=λb2 b3 bR E4 gY r h=>rr h [(2,.jq 12 r8),(0,.jq qX 201003),(0,.jq 47 201004)]
def XY (n:Nat) (b1 b2 b3:aj) (bR:cN) (gY:cB):Option aj:=
 Mc (anm n) n b1.ak (b1.ak.length:Int) 0 (aj.mk b2.av [] b2.aw [] []) (aj.mk b3.av bR b3.aw gY []) bR [] gY
def aLa (n:Nat):Uh (XY n):=λb1 b2 b3 bR gY r h=>ra (axl (aLb n) n h) [(4,.born [] [(3,4)] 47 true 107 13)]
def anl (n:Nat) (t0:aj):Option aj:=
 (app [] t0.ae).bind λx7=>Me (XY n) n t0.af (t0.af.length:Int) 0 t0 (aj.mk ByteArray.empty [] 0 [] []) (aj.mk t0.av x7 t0.aw [] []) x7 []
def aKZ (n:Nat):K1 (A96 []) KS (anl n):=λt0 r h=>be h λx7 jK h=>ra (axm (aLa n) n h) [(2,.born [] [] 12 true 73 2),(4,eJ.app (xs:= []) jK),(9,.born [] [(3,3)] qX true 121 2)]
def F96:=anl
def ev96 (n:Nat):K1 (Cx E0 96 Ph Lv) KS (F96 n):=λ_ _ h=>ca (X:=x96) (aKZ n h)
def awZ (r:ag):AV:=.agg [q7_ r,.ms r8 5 0 r.ai.length]
def apA (r:ag):List (Nat×Bx):= [(r8,.tree 44 5 jd (cP r.ai) [])]
def D5:=fx E0 Tryz.f41 []
def A41:=Ax D5 awZ apA
def aEr (t10:bn) (t11 t12:Int) (b2 b3:ag) (nr:bn):LS:=⟨[(2,.loc 2 0),(3,.loc 3 0),(10,.slice 44 5 t10.length (cP t10)),(11,.int .i64 t11),(12,.int .i64 t12)],[(2,xM b2),(3,qR b3 tp nr.length),(tp,zl nr)]⟩
def aEq (b2 b3:ag) (nr:bn):LS:=⟨[(2,.loc 2 0),(3,.loc 3 0)],[(2,xM b2),(3,qR b3 tp nr.length),(tp,zl nr)]⟩
def Yw (aO:Wf48) (back:bn->Int->Int->ag->ag->bn->Option ag) (n:Nat) (t10:bn) (t11 t12:Int) (b2 b3:ag) (nr:bn):Option ag:=
 if decide (t12<t11) then
 (idx t10 t12).bind λx2=>(F96 n x2).bind λdB=>(app nr [dB]).bind λdY=>(setAt dY nr.length dB).bind λqL=>back t10 t11 (bl (t12+1)) (ag.mk b2.ax []) (ag.mk b3.ax qL) qL
 else
 aO (ag.mk b2.ax []) (ag.mk b3.ax nr) nr
def Ud:=K3 (A41 [1,1,1]) aEq
def Uc:=K6 (A41 [0,1,0,1,1]) aEr
def aMt {aO} (bq:Ud aO) {back} (aS:Uc back) (n:Nat):Uc (Yw aO back n):=λt10 t11 t12 b2 b3 nr r h=>ie h (λc0 h=>be h λx2 cX h=>be h λdB kS h=>be h λdY iq h=>be h λqL np h=>ra (aS h) [aI c0,(0,bW.idx cX),(6,.call (ev96 n kS) [] [(330190001,r8),(330190003,201003),(330190004,201004)]),(1,bW.Iq iq),(2,.beq tp (bN (λq_=>Bx.tree 44 5 jd q_ [(nr.length*5+1,jO 330190001 dB.ae.length),(nr.length*5+3,.ms 330190003 2 0 dB.af.length),(nr.length*5+4,.ms 330190004 13 0 dB.ak.length)]) (bW.apS (r:= (iM dB)) iq))),(0,bW.jv eJ (r:= (iM dB)) tp 330190001 1 false 73 2 dB.ae np [.str dB.av,.slice 73 2 dB.ae.length (bG dB.ae),.int .i64 dB.aw,.undef,.undef] (by kernel_rfl)),(0,bW.jv eQ (r:= [.str dB.av,.slice 73 2 dB.ae.length (bG dB.ae),.int .i64 dB.aw,.undef,.undef]) tp 330190003 3 false 121 2 dB.af np [.str dB.av,.slice 73 2 dB.ae.length (bG dB.ae),.int .i64 dB.aw,.slice 121 2 dB.af.length (aR dB.af),.undef] (by kernel_rfl)),(0,bW.gT eD (r:= [.str dB.av,.slice 73 2 dB.ae.length (bG dB.ae),.int .i64 dB.aw,.slice 121 2 dB.af.length (aR dB.af),.undef]) tp 330190004 4 false 107 13 dB.ak np (by kernel_rfl)),(2,.beq 3 (bN (qR b3 tp) (((bW.apL iq).trans (eu np)))))]) λc0 h=>ra (bq h) [aI c0]
def Mq (aO:Wf48):Nat->bn->Int->Int->ag->ag->bn->Option ag
 |0=>λ_ _ _ _ _ _=>none
 |n+1=>Yw aO (Mq aO n) n
def axI {aO} (bq:Ud aO):∀n:Nat,Uc (Mq aO n)
 |0=>λ_ _ _ _ _ _ _ h=>nz h
 |n+1=>aMt bq (axI bq n) n
def anL (n:Nat) (b2 b3:ag) (nr:bn):Option ag:=
 some (ag.mk b3.ax nr)
def aMs (n:Nat):Ud (anL n):=λb2 b3 nr r h=>rr h [(2,.jq tp r8)]
def anK (n:Nat) (s0:ag):Option ag:=
 Mq (anL n) n s0.ai (s0.ai.length:Int) 0 (ag.mk 0 []) (ag.mk s0.ax []) []
def aMr (n:Nat):K1 (A41 []) sw (anK n):=λs0 r h=>ra (axI (aMs n) n h) [(11,.born [] [(3,1)] tp true 44 5)]
def F41:=anK
def GR (n:Nat):K1 (Cx E0 41 awZ apA) sw (F41 n):=λ_ _ h=>ca (X:=D5) (aMr n h)
def apj (r:Nat):AV:=.el bz 5 r 0
def x178:=fxR E0 Tryz.f178 [0,bz]
def A178:=AxS x178 [0,8589934592] apj bQ
def C178:=CxSR E0 178 [0,8589934592] apj bQ
def mi (g0:aF):LS:=⟨[(0,.loc 0 0)],[(0,.flat 184 [.int .i64 g0.bg.ax,.ms bz 5 0 g0.bg.ai.length,.int .i64 g0.fm.bh,.int .i64 g0.fm.aG,.int .i64 g0.fm.aN,.int .i64 g0.fm.eL,.str g0.fm.av,.int .i64 g0.fm.ay,.int .i64 g0.fm.aD.ay,.int .i64 g0.fm.aD.bZ,.str g0.fm.aD.bB,.slice 110 6 g0.fm.bf.length (cR g0.fm.bf),.str g0.fm.ar.av,.slice 73 2 g0.fm.ar.ae.length (bG g0.fm.ar.ae),.int .i64 g0.fm.ar.aw,.slice 121 2 g0.fm.ar.af.length (aR g0.fm.ar.af),.slice 107 13 g0.fm.ar.ak.length (aJ g0.fm.ar.ak)]),(bz,.tree 44 5 jd (cP g0.bg.ai) [])]⟩
def Rp (n:Nat) (g0:aF):Option Nat:=
 (eW g0.bg.ai.length g0.fm.aG).bind λgS=>some (0+gS)
def aGz (n:Nat):K1 (A178 []) mi (Rp n):=λg0 r h=>be h λgS jG h=>rrS h [(11,dM jG)]
def Cg:=Rp
def LU (n:Nat):K1 C178 mi (Cg n):=λ_ _ h=>caSR (X:=x178) (aGz n h)
def ahD (r:aj):AV:=.jx (im r)
def awF:=fx E0 Tryz.f178 []
def aNp:=Ax awF ahD bQ
def xF (g0:aF):LS:=⟨[(0,.jx (BN g0))],[]⟩
def V6 (n:Nat) (g0:aF):Option aj:=
 (idx g0.bg.ai g0.fm.aG).bind λgS=>some gS
def aCE (n:Nat):K1 (aNp []) xF (V6 n):=λg0 r h=>be h λgS jG h=>rr h [(11,bW.idx jG)]
def MD:=V6
def Qd (n:Nat):K1 (Cx E0 178 ahD bQ) xF (MD n):=λ_ _ h=>ca (X:=awF) (aCE n h)
def x179:=fx E0 Tryz.f179 []
def A179:=Ax x179 dv bQ
def agS (v0:aP) (fJ:Int):LS:=⟨[(0,.agg (lP v0)),(1,cm fJ)],[]⟩
def aeB (n:Nat) (v0:aP) (fJ:Int):Option Bool:=
 (adM n v0).bind λx4=>if x4 then
 some (v0.ay==fJ)
 else
 some false
def aGy (n:Nat):K2 (A179 []) agS (aeB n):=λv0 fJ r h=>be h λx4 jr h=>ie h (λc0 bI=>by subst c0;exact (rr bI [kH (alz n jr)])) λc0 bI=>by subst c0;exact (rr bI [kH (alz n jr)])
def VT:=aeB
def aly (n:Nat):K2 (Cx E0 179 dv bQ) agS (VT n):=λ_ _ _ h=>ca (X:=x179) (aGy n h)
def pL (r:(Bool×aF)):AV:=.bool r.1
def pC (r:(Bool×aF)):List (Nat×Bx):= [(0,.flat 184 [.int .i64 r.2.bg.ax,.ms bz 5 0 r.2.bg.ai.length,.int .i64 r.2.fm.bh,.int .i64 r.2.fm.aG,.int .i64 r.2.fm.aN,.int .i64 r.2.fm.eL,.str r.2.fm.av,.int .i64 r.2.fm.ay,.int .i64 r.2.fm.aD.ay,.int .i64 r.2.fm.aD.bZ,.str r.2.fm.aD.bB,.slice 110 6 r.2.fm.bf.length (cR r.2.fm.bf),.str r.2.fm.ar.av,.slice 73 2 r.2.fm.ar.ae.length (bG r.2.fm.ar.ae),.int .i64 r.2.fm.ar.aw,.slice 121 2 r.2.fm.ar.af.length (aR r.2.fm.ar.af),.slice 107 13 r.2.fm.ar.ak.length (aJ r.2.fm.ar.ak)]),(bz,.tree 44 5 jd (cP r.2.bg.ai) [])]
def x148:=fx E0 Tryz.f148 [0,bz]
def A148:=Ax x148 pL pC
def afc (n:Nat) (g0:aF):Option (Bool×aF):=
 (Cg n g0).bind λx3=>(g0.bg.ai[x3]?).bind λu6=>(app u6.ae [(cG.mk g0.fm.av g0.fm.ay)]).bind λgg=>(VT n g0.fm.aD g0.fm.ay).bind λx40=>(setAt g0.bg.ai x3 (aj.mk u6.av gg u6.aw u6.af u6.ak)).bind λz43=>some (x40,(aF.mk (ag.mk g0.bg.ax z43) g0.fm))
def aHC (n:Nat):K1 (A148 []) mi (afc n):=λg0 r h=>be h λx3 eY h=>be h λu6 yR h=>be h λgg ll h=>be h λx40 auw h=>be h λz43 hz43 h=>rr h [(2,.call (LU n eY) [(0,0),(bz,bz)] []),(1,bW.nE eJ bz il 1 false 73 2 u6.ae yR [.str u6.av,.undef,.int .i64 u6.aw,.slice 121 2 u6.af.length (aR u6.af),.slice 107 13 u6.ak.length (aJ u6.ak)] (by kernel_rfl) (by kernel_rfl)),(17,eJ.kF ll),(2,bW.xX 1 [.str u6.av,.undef,.int .i64 u6.aw,.slice 121 2 u6.af.length (aR u6.af),.slice 107 13 u6.ak.length (aJ u6.ak)] [.str u6.av,.undef,.int .i64 u6.aw,.slice 121 2 u6.af.length (aR u6.af),.slice 107 13 u6.ak.length (aJ u6.ak)] yR (by kernel_rfl)),(10,zP (aly n auw)),(1,bW.gT eJ (r:= [.str u6.av,.undef,.int .i64 u6.aw,.slice 121 2 u6.af.length (aR u6.af),.slice 107 13 u6.ak.length (aJ u6.ak)]) bz il 1 false 73 2 gg hz43 (by kernel_rfl)),(0,.beq 0 (bN (λn_=>(Bx.flat 184 [.int .i64 g0.bg.ax,.ms bz 5 0 n_,.int .i64 g0.fm.bh,.int .i64 g0.fm.aG,.int .i64 g0.fm.aN,.int .i64 g0.fm.eL,.str g0.fm.av,.int .i64 g0.fm.ay,.int .i64 g0.fm.aD.ay,.int .i64 g0.fm.aD.bZ,.str g0.fm.aD.bB,.slice 110 6 g0.fm.bf.length (cR g0.fm.bf),.str g0.fm.ar.av,.slice 73 2 g0.fm.ar.ae.length (bG g0.fm.ar.ae),.int .i64 g0.fm.ar.aw,.slice 121 2 g0.fm.ar.af.length (aR g0.fm.ar.af),.slice 107 13 g0.fm.ar.ak.length (aJ g0.fm.ar.ak)])) (eu hz43)))]
def adV:=afc
def aKE (n:Nat):K1 (Cx E0 148 pL pC) mi (adV n):=λ_ _ h=>ca (X:=x148) (aHC n h)
def x180:=fx E0 Tryz.f180 []
def A180:=Ax x180 dv bQ
def agR (g0:aF) (c1:Int):LS:=⟨[(0,.jx (BN g0)),(1,cm c1)],[]⟩
def aeA (n:Nat) (g0:aF) (c1:Int):Option Bool:=
 (MD n g0).bind λx3=>if !decide (c1<x3.aw) then
 some (decide (c1<(x3.ae.length:Int)))
 else
 some false
def aGx (n:Nat):K2 (A180 []) agR (aeA n):=λg0 c1 r h=>be h λx3 eY h=>ie h (λc0 h=>rr h [iW (Qd n eY),dP c0]) λc0 h=>rr h [iW (Qd n eY),dP c0]
def Ol:=aeA
def XI (n:Nat):K2 (Cx E0 180 dv bQ) agR (Ol n):=λ_ _ _ h=>ca (X:=x180) (aGx n h)
def x217:=fx E0 Tryz.f217 []
def aws:=Ax x217 ee bQ
def azK (s0:aK) (v1 t7 t8:Int):LS:=⟨[(0,.slice 3 1 s0.length (eo s0)),(1,.int .i64 v1),(7,.int .i64 t7),(8,.int .i64 t8)],[]⟩
def azJ:LS:=⟨[],[]⟩
def KK (s0:aK) (v1:Int):LS:=⟨[(0,.slice 3 1 s0.length (eo s0)),(1,.int .i64 v1)],[]⟩
def Q6 (aO:Option Int) (back:aK->Int->Int->Int->Option Int) (n:Nat) (s0:aK) (v1 t7 t8:Int):Option Int:=
 if decide (t8<t7) then
 (idx s0 t8).bind λx7=>if v1==x7 then
 some t8
 else
 back s0 v1 t7 (bl (t8+1))
 else
 aO
def Ub:=K0 (aws [1,1]) azJ
def Ua:=K4 (aws [0,1,0,1]) azK
def aFP {aO} (bq:Ub aO) {back} (aS:Ua back) (n:Nat):Ua (Q6 aO back n):=λs0 v1 t7 t8 r h=>ie h (λc0 h=>be h λx7 jK h=>ie h (λc1 h=>rr h [aI c0,(5,R3.idx jK),bb c1]) λc1 h=>ra (aS h) [aI c0,(5,R3.idx jK),bb c1]) λc0 h=>ra (bq h) [aI c0]
def E7 (aO:Option Int):Nat->aK->Int->Int->Int->Option Int
 |0=>λ_ _ _ _=>none
 |n+1=>Q6 aO (E7 aO n) n
def aqb {aO} (bq:Ub aO):∀n:Nat,Ua (E7 aO n)
 |0=>λ_ _ _ _ _ h=>nz h
 |n+1=>aFP bq (aqb bq n) n
def Q5 (n:Nat):Option Int:=
 some (-1)
def aFO (n:Nat):Ub (Q5 n):=λr h=>rr h []
def aen (n:Nat) (s0:aK) (v1:Int):Option Int:=
 E7 (Q5 n) n s0 v1 (s0.length:Int) 0
def aFN (n:Nat):K2 (aws []) KK (aen n):=λs0 v1 r h=>ra (aqb (aFO n) n h) []
def awc:=aen
def aKf (n:Nat):K2 (Cx E0 217 ee bQ) KK (awc n):=λ_ _ _ h=>ca (X:=x217) (aFN n h)
def x196:=fx E0 Tryz.f196 []
def A196:=Ax x196 dv bQ
def aer (n:Nat) (s0:aK) (v1:Int):Option Bool:=
 (awc n s0 v1).bind λx4=>some (!decide (x4<0))
def aFY (n:Nat):K2 (A196 []) KK (aer n):=λs0 v1 r h=>be h λx4 jr h=>rr h [kH (aKf n jr)]
def adC:=aer
def ayi (n:Nat):K2 (Cx E0 196 dv bQ) KK (adC n):=λ_ _ _ h=>ca (X:=x196) (aFY n h)
def x214:=fx E0 Tryz.f214 []
def A214:=Ax x214 ee bQ
def KL (x0:Int):LS:=⟨[(0,.int .u64 x0)],[]⟩
def asE (n:Nat) (x0:Int):Option Int:=
 if !decide (x0<4294967296) then
 none
 else
 if !decide (x0<65536) then
 none
 else
 if !decide (x0<256) then
 none
 else
 (Dx (ByteArray.mk #[0,1,2,2,3,3,3,3,4,4,4,4,4,4,4,4,5,5,5,5,5,5,5,5,5,5,5,5,5,5,5,5,6,6,6,6,6,6,6,6,6,6,6,6,6,6,6,6,6,6,6,6,6,6,6,6,6,6,6,6,6,6,6,6,7,7,7,7,7,7,7,7,7,7,7,7,7,7,7,7,7,7,7,7,7,7,7,7,7,7,7,7,7,7,7,7,7,7,7,7,7,7,7,7,7,7,7,7,7,7,7,7,7,7,7,7,7,7,7,7,7,7,7,7,7,7,7,7,8,8,8,8,8,8,8,8,8,8,8,8,8,8,8,8,8,8,8,8,8,8,8,8,8,8,8,8,8,8,8,8,8,8,8,8,8,8,8,8,8,8,8,8,8,8,8,8,8,8,8,8,8,8,8,8,8,8,8,8,8,8,8,8,8,8,8,8,8,8,8,8,8,8,8,8,8,8,8,8,8,8,8,8,8,8,8,8,8,8,8,8,8,8,8,8,8,8,8,8,8,8,8,8,8,8,8,8,8,8,8,8,8,8,8,8,8,8,8,8,8,8,8,8,8,8,8,8]) (IntKind.wrap .u8 (x0))).bind λdy=>some (bl (0+(bl ((dy.toNat:Int)))))
def aFT (n:Nat):K1 (A214 []) KL (asE n):=λx0 r h=>ie h (λc0 h=>nz h) λc0 h=>ie h (λc1 h=>nz h) λc1 h=>ie h (λc2 h=>nz h) λc2 h=>be h λdy ga h=>rr h [aZ c0,bb c1,bb c2,(3,.chr (ga))]
def F214:=asE
def aKh (n:Nat):K1 (Cx E0 214 ee bQ) KL (F214 n):=λ_ _ h=>ca (X:=x214) (aFT n h)
def x191:=fx E0 Tryz.f191 []
def A191:=Ax x191 ee bQ
def asF (n:Nat) (x0:Int):Option Int:=
 (F214 n x0).bind λx3=>some x3
def aGf (n:Nat):K1 (A191 []) KL (asF n):=λx0 r h=>be h λx3 eY h=>rr h [iW (aKh n eY)]
def VQ:=asF
def aKm (n:Nat):K1 (Cx E0 191 ee bQ) KL (VQ n):=λ_ _ h=>ca (X:=x191) (aGf n h)
def aph (r:(aK×aK)):AV:=.ms iB 1 0 r.2.length
def ahK (r:(aK×aK)):List (Nat×Bx):= [(iB,xO r.2)]
def x218:=fx E0 Tryz.f218 [iB]
def V9:=Ax x218 aph ahK
def C218:=Cx E0 218 aph ahK
def azI (t16:kG) (t17:Int) (gm:aK) (b3:ah) (b6:aT):LS:=⟨[(0,qd iB gm.length),(3,.loc 3 0),(6,.loc 6 0),(16,.agg (Qj t16)),(17,cm t17)],[(3,qS (fp b3)),(6,.flat 105 (pR b6)),(iB,xO gm)]⟩
def azH (t16:kG) (t17:Int) (gm:aK) (b3:ah):LS:=⟨[(0,qd iB gm.length),(3,.loc 3 0),(16,.agg (Qj t16)),(17,cm t17)],[(3,qS (fp b3)),(iB,xO gm)]⟩
def azG (t35:bO) (t36 t37:Int) (gm:aK):LS:=⟨[(0,.ms iB 1 0 gm.length),(35,.slice 107 13 t35.length (aJ t35)),(36,.int .i64 t36),(37,.int .i64 t37)],[(iB,xO gm)]⟩
def azF (gm:aK):LS:=⟨[(0,qd iB gm.length)],[(iB,xO gm)]⟩
def azE (gm:aK) (b3:ah):LS:=⟨[(0,qd iB gm.length),(3,.loc 3 0)],[(3,qS (fp b3)),(iB,xO gm)]⟩
def agI (rE:aK) (p1:ah):LS:=⟨[(0,qd iB rE.length),(1,.agg (fp p1))],[(iB,xO rE)]⟩
def J9 (fY:aK->ah->Option (aK×aK)) (aO:Wf49) (n:Nat) (t16:kG) (t17:Int) (gm:aK) (b3:ah) (b6:aT):Option (aK×aK):=
 if b6.ay==1 then
 if !decide (b6.cQ<0) then
 (app gm [b6.cQ]).bind λdY=>aO t16 (bl (t17+1)) dY b3
 else
 aO t16 (bl (t17+1)) gm b3
 else
 aO t16 (bl (t17+1)) gm b3
def tX:=K2 C218 agI
def Li:=K4 (V9 (cF 85)) azH
def arN {fY} (l7:tX fY) {aO} (bq:Li aO) (n:Nat):K5 (V9 (cF 6549)) azI (J9 fY aO n):=λt16 t17 gm b3 b6 r h=>ie h (λc0 h=>ie h (λc1 h=>be h λdY iq h=>ra (bq h) [aZ c0,bj c1,(5,R3.kF iq)]) λc1 h=>ra (bq h) [aZ c0,bj c1]) λc0 h=>ra (bq h) [aZ c0]
def asD (fY:aK->ah->Option (aK×aK)) (da:Wf50) (back:Wf49) (n:Nat) (t16:kG) (t17:Int) (gm:aK) (b3:ah):Option (aK×aK):=
 if decide (t17<2) then
 if t17==0 then
 J9 fY back n t16 0 gm b3 t16.f0
 else
 if t17==1 then
 J9 fY back n t16 1 gm b3 t16.f1
 else
 none
 else
 da gm b3
def TZ:=K2 (V9 [1,1]) azE
def aFM {fY} (l7:tX fY) {da} (fg:TZ da) {back} (aS:Li back) (n:Nat):Li (asD fY da back n):=λt16 t17 gm b3 r h=>ie h (λc0 h=>ie h (λc1 bI=>by have c1:=eq_of_beq c1;subst c1;exact (
 ra (arN l7 aS n bI) [])) λc1 h=>ie h (λc2 bI=>by have c2:=eq_of_beq c2;subst c2;exact (
 ra (arN l7 aS n bI) [])) λc2 h=>nz h) λc0 h=>ra (fg h) [aI c0]
def uW (fY:aK->ah->Option (aK×aK)) (da:Wf50):Nat->kG->Int->aK->ah->Option (aK×aK)
 |0=>λ_ _ _ _=>none
 |n+1=>asD fY da (uW fY da n) n
def aqa {fY} (l7:tX fY) {da} (fg:TZ da):∀n:Nat,Li (uW fY da n)
 |0=>λ_ _ _ _ _ h=>nz h
 |n+1=>aFM l7 fg (aqa l7 fg n) n
def Q4 (fY:aK->ah->Option (aK×aK)) (bC:aK->Option (aK×aK)) (back:bO->Int->Int->aK->Option (aK×aK)) (n:Nat) (t35:bO) (t36 t37:Int) (gm:aK):Option (aK×aK):=
 if decide (t37<t36) then
 (idx t35 t37).bind λx2=>(fY gm x2).bind λx9=>back t35 t36 (bl (t37+1)) x9.2
 else
 bC gm
def TY:=K1 (V9 [1,1,1]) azF
def TX:=K4 (V9 [0,1,0,1,1]) azG
def aFL {fY} (l7:tX fY) {bC} (cU:TY bC) {back} (aS:TX back) (n:Nat):TX (Q4 fY bC back n):=λt35 t36 t37 gm r h=>ie h (λc0 h=>be h λx2 cX h=>be h λx9 iS h=>ra (aS h) [aI c0,(0,eD.idx cX),(5,.call (l7 iS) [(iB,iB)] [])]) λc0 h=>ra (cU h) [aI c0]
def E6 (fY:aK->ah->Option (aK×aK)) (bC:aK->Option (aK×aK)):Nat->bO->Int->Int->aK->Option (aK×aK)
 |0=>λ_ _ _ _=>none
 |n+1=>Q4 fY bC (E6 fY bC n) n
def apZ {fY} (l7:tX fY) {bC} (cU:TY bC):∀n:Nat,TX (E6 fY bC n)
 |0=>λ_ _ _ _ _ h=>nz h
 |n+1=>aFL l7 cU (apZ l7 cU n) n
def Q3 (fY:aK->ah->Option (aK×aK)) (n:Nat) (gm:aK):Option (aK×aK):=
 some (gm,gm)
def aFK {fY} (l7:tX fY) (n:Nat):TY (Q3 fY n):=λgm r h=>rr h []
def FO (fY:aK->ah->Option (aK×aK)) (n:Nat) (gm:aK) (b3:ah):Option (aK×aK):=
 E6 fY (Q3 fY n) n b3.fArgs (b3.fArgs.length:Int) 0 gm
def arM {fY} (l7:tX fY) (n:Nat):TZ (FO fY n):=λgm b3 r h=>ra (apZ l7 (aFK l7 n) n h) []
def aem (fY:aK->ah->Option (aK×aK)) (n:Nat) (rE:aK) (p1:ah):Option (aK×aK):=
 if p1.bh==3 then
 uW fY (FO fY n) n (kG.mk p1.cq p1.bL) 0 rE p1
 else
 FO fY n rE p1
def aFJ {fY} (l7:tX fY) (n:Nat):K2 (V9 []) agI (aem fY n):=λrE p1 r h=>ie h (λc0 h=>ra (aqa l7 (arM l7 n) n h) [bu c0]) λc0 h=>ra (arM l7 n h) [bu c0]
def DJ:Nat->aK->ah->Option (aK×aK)
 |0,_,_=>none
 |n+1,rE,p1=>aem (DJ n) n rE p1
def ayh:∀n:Nat,tX (DJ n)
 |0=>λ_ _ _ h=>nz h
 |n+1=>λ_ _ _ h=>ca (X:=x218) (aFJ (ayh n) n h)
def awE:=fx E0 Tryz.f218 []
def MW:=Ax awE Ct Eo
def atf (t16:kG) (t17:Int) (fH:aK) (b3:ah) (b6:aT):LS:=⟨[(0,.ms 32 1 0 fH.length),(3,.loc 3 0),(6,.loc 6 0),(16,.agg (Qj t16)),(17,cm t17)],[(3,qS (fp b3)),(6,.flat 105 (pR b6)),(32,U5 fH)]⟩
def ate (t16:kG) (t17:Int) (fH:aK) (b3:ah):LS:=⟨[(0,.ms 32 1 0 fH.length),(3,.loc 3 0),(16,.agg (Qj t16)),(17,cm t17)],[(3,qS (fp b3)),(32,U5 fH)]⟩
def atd (t35:bO) (t36 t37:Int) (fH:aK):LS:=⟨[(0,.ms 32 1 0 fH.length),(35,.slice 107 13 t35.length (aJ t35)),(36,.int .i64 t36),(37,.int .i64 t37)],[(32,xO fH)]⟩
def atc (fH:aK):LS:=⟨[(0,.ms 32 1 0 fH.length)],[(32,xO fH)]⟩
def atb (fH:aK) (b3:ah):LS:=⟨[(0,.ms 32 1 0 fH.length),(3,.loc 3 0)],[(3,qS (fp b3)),(32,U5 fH)]⟩
def Za (p1:ah):LS:=⟨[(0,.dE),(1,.agg (fp p1))],[]⟩
def FW (aO:Wf51) (n:Nat) (t16:kG) (t17:Int) (fH:aK) (b3:ah) (b6:aT):Option aK:=
 if b6.ay==1 then
 if !decide (b6.cQ<0) then
 (app fH [b6.cQ]).bind λdY=>aO t16 (bl (t17+1)) dY b3
 else
 aO t16 (bl (t17+1)) fH b3
 else
 aO t16 (bl (t17+1)) fH b3
def Lh:=K4 (MW (cF 85)) ate
def aiG {aO} (bq:Lh aO) (n:Nat):K5 (MW (cF 6549)) atf (FW aO n):=λt16 t17 fH b3 b6 r h=>ie h (λc0 h=>ie h (λc1 h=>be h λdY iq h=>ra (bq h) [aZ c0,bj c1,(5,R3.kF iq)]) λc1 h=>ra (bq h) [aZ c0,bj c1]) λc0 h=>ra (bq h) [aZ c0]
def ajy (da:amB) (back:Wf51) (n:Nat) (t16:kG) (t17:Int) (fH:aK) (b3:ah):Option aK:=
 if decide (t17<2) then
 if t17==0 then
 FW back n t16 0 fH b3 t16.f0
 else
 if t17==1 then
 FW back n t16 1 fH b3 t16.f1
 else
 none
 else
 da fH b3
def TW:=K2 (MW [1,1]) atb
def aCD {da} (fg:TW da) {back} (aS:Lh back) (n:Nat):Lh (ajy da back n):=λt16 t17 fH b3 r h=>ie h (λc0 h=>ie h (λc1 bI=>by have c1:=eq_of_beq c1;subst c1;exact (
 ra (aiG aS n bI) [])) λc1 h=>ie h (λc2 bI=>by have c2:=eq_of_beq c2;subst c2;exact (
 ra (aiG aS n bI) [])) λc2 h=>nz h) λc0 h=>ra (fg h) [aI c0]
def sH (da:amB):Nat->kG->Int->aK->ah->Option aK
 |0=>λ_ _ _ _=>none
 |n+1=>ajy da (sH da n) n
def aik {da} (fg:TW da):∀n:Nat,Lh (sH da n)
 |0=>λ_ _ _ _ _ h=>nz h
 |n+1=>aCD fg (aik fg n) n
def MT (bC:Wf0) (back:bO->Int->Int->aK->Option aK) (n:Nat) (t35:bO) (t36 t37:Int) (fH:aK):Option aK:=
 if decide (t37<t36) then
 (idx t35 t37).bind λx2=>(DJ n fH x2).bind λx9=>back t35 t36 (bl (t37+1)) x9.2
 else
 bC fH
def TV:=K1 (MW [1,1,1]) atc
def TU:=K4 (MW [0,1,0,1,1]) atd
def aCC {bC} (cU:TV bC) {back} (aS:TU back) (n:Nat):TU (MT bC back n):=λt35 t36 t37 fH r h=>ie h (λc0 h=>be h λx2 cX h=>be h λx9 iS h=>ra (aS h) [aI c0,(0,eD.idx cX),(5,.call (ayh n iS) [(32,iB)] [])]) λc0 h=>ra (cU h) [aI c0]
def AS (bC:Wf0):Nat->bO->Int->Int->aK->Option aK
 |0=>λ_ _ _ _=>none
 |n+1=>MT bC (AS bC n) n
def aij {bC} (cU:TV bC):∀n:Nat,TU (AS bC n)
 |0=>λ_ _ _ _ _ h=>nz h
 |n+1=>aCC cU (aij cU n) n
def MR (n:Nat) (fH:aK):Option aK:=
 some fH
def aCB (n:Nat):TV (MR n):=λfH r h=>rr h [(2,.jq 32 cV)]
def AW (n:Nat) (fH:aK) (b3:ah):Option aK:=
 AS (MR n) n b3.fArgs (b3.fArgs.length:Int) 0 fH
def aiF (n:Nat):TW (AW n):=λfH b3 r h=>ra (aij (aCB n) n h) []
def V5 (n:Nat) (p1:ah):Option aK:=
 if p1.bh==3 then
 sH (AW n) n (kG.mk p1.cq p1.bL) 0 [] p1
 else
 AW n [] p1
def aCA (n:Nat):K1 (MW []) Za (V5 n):=λp1 r h=>ie h (λc0 h=>ra (aik (aiF n) n h) [bu c0,(6,.born [0] [] 32 true 3 1)]) λc0 h=>ra (aiF n h) [bu c0,(0,.born [0] [] 32 true 3 1)]
def XV:=V5
def aFq (n:Nat):K1 (Cx E0 218 Ct Eo) Za (XV n):=λ_ _ h=>ca (X:=awE) (aCA n h)
def x197:=fx E0 Tryz.f197 []
def A197:=Ax x197 Ct Eo
def aeq (n:Nat) (p0:ah):Option aK:=
 (XV n p0).bind λx4=>(adL n x4).bind λx8=>(lL x8.length x4.length).bind λw9=>(adB n x8).bind λgS=>some gS.2
def aFX (n:Nat):K1 (A197 []) AF (aeq n):=λp0 r h=>be h λx4 jr h=>be h λx8 oK h=>be h λw9 hw9 h=>be h λgS jG h=>rr h [(3,.call (aFq n jr) [] [(5,cV)]),(2,.call (aKr n oK) [(5,0)] []),(1,.seq 8 (bN (AV.ms 5 1 0) ((xK hw9).symm))),(0,.call (aKe n jG) [(5,0)] []),(1,.jq 5 cV)]
def amN:=aeq
def aKl (n:Nat):K1 (Cx E0 197 Ct Eo) AF (amN n):=λ_ _ h=>ca (X:=x197) (aFX n h)
def x181:=fx E0 Tryz.f181 []
def afD:=Ax x181 dv bQ
def aAc (g0:aF) (t3:aj) (t13:cB) (t14 t15:Int):LS:=⟨[(0,.jx (BN g0)),(3,.jx (im t3)),(13,.slice 121 2 t13.length (aR t13)),(14,.int .i64 t14),(15,.int .i64 t15)],[]⟩
def aAb (g0:aF) (t31:bO) (t32 t33:Int):LS:=⟨[(0,.jx (BN g0)),(31,.slice 107 13 t31.length (aJ t31)),(32,.int .i64 t32),(33,.int .i64 t33)],[]⟩
def aAa:LS:=⟨[],[]⟩
def azZ (g0:aF) (t3:aj):LS:=⟨[(0,.jx (BN g0)),(3,.jx (im t3))],[]⟩
def Ro (bC:aF->aj->Option Bool) (back:aF->aj->cB->Int->Int->Option Bool) (n:Nat) (g0:aF) (t3:aj) (t13:cB) (t14 t15:Int):Option Bool:=
 if decide (t15<t14) then
 (idx t13 t15).bind λx2=>(adC n x2.ae g0.fm.aN).bind λiu=>if iu then
 some true
 else
 back g0 t3 t13 t14 (bl (t15+1))
 else
 bC g0 t3
def TT:=K2 (afD [1,1,1]) azZ
def TS:=K5 (afD [0,1,0,1,1]) aAc
def aGw {bC} (cU:TT bC) {back} (aS:TS back) (n:Nat):TS (Ro bC back n):=λg0 t3 t13 t14 t15 r h=>ie h (λc0 h=>be h λx2 cX h=>be h λiu j4 h=>let zA:SE:=[aI c0,(0,eQ.idx cX),(10,zP (ayi n j4))];ie h (λc1 bI=>by subst c1;exact (rr bI zA)) λc1 bI=>by subst c1;exact (ra (aS bI) zA)) λc0 h=>ra (cU h) [aI c0]
def Fc (bC:aF->aj->Option Bool):Nat->aF->aj->cB->Int->Int->Option Bool
 |0=>λ_ _ _ _ _=>none
 |n+1=>Ro bC (Fc bC n) n
def aqk {bC} (cU:TT bC):∀n:Nat,TS (Fc bC n)
 |0=>λ_ _ _ _ _ _ h=>nz h
 |n+1=>aGw cU (aqk cU n) n
def Rn (bt:Option Bool) (back:aF->bO->Int->Int->Option Bool) (n:Nat) (g0:aF) (t31:bO) (t32 t33:Int):Option Bool:=
 if decide (t33<t32) then
 (idx t31 t33).bind λx2=>(amN n x2).bind λx8=>(adC n x8 g0.fm.aN).bind λfj=>if fj then
 some true
 else
 back g0 t31 t32 (bl (t33+1))
 else
 bt
def TQ:=K0 (afD [1,1,1,1]) aAa
def TP:=K4 (afD (cF 87)) aAb
def aGv {bt} (cM:TQ bt) {back} (aS:TP back) (n:Nat):TP (Rn bt back n):=λg0 t31 t32 t33 r h=>ie h (λc0 h=>be h λx2 cX h=>be h λx8 oK h=>be h λfj mO h=>let zA:SE:=[aI c0,(0,eD.idx cX),(3,.ord [0,2,3,4,5,6,1,7]),(6,zP (cd (e:=3) (z:=false) (Q:=eo x8) (aKl n oK) (R3.len x8))),om (ayi n mO)];ie h (λc1 bI=>by subst c1;exact (rr bI zA)) λc1 bI=>by subst c1;exact (ra (aS bI) zA)) λc0 h=>ra (cM h) [aI c0]
def Fb (bt:Option Bool):Nat->aF->bO->Int->Int->Option Bool
 |0=>λ_ _ _ _=>none
 |n+1=>Rn bt (Fb bt n) n
def aqj {bt} (cM:TQ bt):∀n:Nat,TP (Fb bt n)
 |0=>λ_ _ _ _ _ h=>nz h
 |n+1=>aGv cM (aqj cM n) n
def Rm (n:Nat):Option Bool:=
 some false
def aGu (n:Nat):TQ (Rm n):=λr h=>rr h []
def Rl (n:Nat) (g0:aF) (t3:aj):Option Bool:=
 Fb (Rm n) n g0 t3.ak (t3.ak.length:Int) 0
def aGt (n:Nat):TT (Rl n):=λg0 t3 r h=>ra (aqj (aGu n) n h) []
def aez (n:Nat) (g0:aF):Option Bool:=
 (MD n g0).bind λx3=>Fc (Rl n) n g0 x3 x3.af (x3.af.length:Int) 0
def aGs (n:Nat):K1 (afD []) xF (aez n):=λg0 r h=>be h λx3 eY h=>ra (aqk (aGt n) n h) [iW (Qd n eY)]
def adH:=aez
def ayq (n:Nat):K1 (Cx E0 181 dv bQ) xF (adH n):=λ_ _ h=>ca (X:=x181) (aGs n h)
def api (r:aF):AV:=.cS []
def ahN (r:aF):List (Nat×Bx):= [(0,.flat 184 [.int .i64 r.bg.ax,.ms bz 5 0 r.bg.ai.length,.int .i64 r.fm.bh,.int .i64 r.fm.aG,.int .i64 r.fm.aN,.int .i64 r.fm.eL,.str r.fm.av,.int .i64 r.fm.ay,.int .i64 r.fm.aD.ay,.int .i64 r.fm.aD.bZ,.str r.fm.aD.bB,.slice 110 6 r.fm.bf.length (cR r.fm.bf),.str r.fm.ar.av,.slice 73 2 r.fm.ar.ae.length (bG r.fm.ar.ae),.int .i64 r.fm.ar.aw,.slice 121 2 r.fm.ar.af.length (aR r.fm.ar.af),.slice 107 13 r.fm.ar.ak.length (aJ r.fm.ar.ak)]),(bz,.tree 44 5 jd (cP r.bg.ai) [])]
def x183:=fx E0 Tryz.f183 [0,bz]
def Wa:=Ax x183 api ahN
def azX (jw:Nat) (t17 t18 t24 t25:Int) (b0:aF) (b5:bk) (rh:aK) (bK:bn) (ba:aj) (dK:cB) (vz:bk) (tH:Nat):LS:=⟨[(2,.el bz 5 jw 0),(3,aku),(5,.loc 5 0),(16,jO fZ dK.length),(17,cm t17),(18,cm t18),(23,qd nZ rh.length),(24,cm t24),(25,cm t25)],[(0,.flat 184 [.int .i64 b0.bg.ax,.ms bz 5 0 bK.length,.int .i64 b0.fm.bh,.int .i64 b0.fm.aG,.int .i64 b0.fm.aN,.int .i64 b0.fm.eL,.str b0.fm.av,.int .i64 b0.fm.ay,.int .i64 b0.fm.aD.ay,.int .i64 b0.fm.aD.bZ,.str b0.fm.aD.bB,.slice 110 6 b0.fm.bf.length (cR b0.fm.bf),.str b0.fm.ar.av,.slice 73 2 b0.fm.ar.ae.length (bG b0.fm.ar.ae),.int .i64 b0.fm.ar.aw,.slice 121 2 b0.fm.ar.af.length (aR b0.fm.ar.af),.slice 107 13 b0.fm.ar.ak.length (aJ b0.fm.ar.ak)]),(1,.flat 182 [.loc 0 0]),(5,.flat 121 [qd nZ rh.length,cm b5.aG]),(bz,.tree 44 5 jd (((cP bK)).set jw [.str ba.av,.slice 73 2 ba.ae.length (bG ba.ae),.int .i64 ba.aw,.undef,.slice 107 13 ba.ak.length (aJ ba.ak)]) [(jw*5+3,jO fZ dK.length)]),(fZ,.tree 121 2 zm (((aR dK)).set tH (oH vz.aG)) [(tH*2+0,qd nZ rh.length)]),(nZ,.rows false 3 1 (eo rh))]⟩
def agQ (jw:Nat) (t17 t18:Int) (b0:aF) (bK:bn) (ba:aj) (dK:cB):LS:=⟨[(2,.el bz 5 jw 0),(3,aku),(16,jO fZ dK.length),(17,cm t17),(18,cm t18)],[(0,.flat 184 [.int .i64 b0.bg.ax,.ms bz 5 0 bK.length,.int .i64 b0.fm.bh,.int .i64 b0.fm.aG,.int .i64 b0.fm.aN,.int .i64 b0.fm.eL,.str b0.fm.av,.int .i64 b0.fm.ay,.int .i64 b0.fm.aD.ay,.int .i64 b0.fm.aD.bZ,.str b0.fm.aD.bB,.slice 110 6 b0.fm.bf.length (cR b0.fm.bf),.str b0.fm.ar.av,.slice 73 2 b0.fm.ar.ae.length (bG b0.fm.ar.ae),.int .i64 b0.fm.ar.aw,.slice 121 2 b0.fm.ar.af.length (aR b0.fm.ar.af),.slice 107 13 b0.fm.ar.ak.length (aJ b0.fm.ar.ak)]),(1,.flat 182 [.loc 0 0]),(bz,.tree 44 5 jd (((cP bK)).set jw [.str ba.av,.slice 73 2 ba.ae.length (bG ba.ae),.int .i64 ba.aw,.undef,.slice 107 13 ba.ak.length (aJ ba.ak)]) [(jw*5+3,jO fZ dK.length)]),(fZ,.tree 121 2 zm (aR dK) [])]⟩
def azW (jw:Nat) (t43 t44:Int) (b0:aF) (dj:bO) (bK:bn) (ba:aj):LS:=⟨[(2,.el bz 5 jw 0),(3,aku),(42,.ms lM 13 0 dj.length),(43,cm t43),(44,cm t44)],[(0,.flat 184 [.int .i64 b0.bg.ax,.ms bz 5 0 bK.length,.int .i64 b0.fm.bh,.int .i64 b0.fm.aG,.int .i64 b0.fm.aN,.int .i64 b0.fm.eL,.str b0.fm.av,.int .i64 b0.fm.ay,.int .i64 b0.fm.aD.ay,.int .i64 b0.fm.aD.bZ,.str b0.fm.aD.bB,.slice 110 6 b0.fm.bf.length (cR b0.fm.bf),.str b0.fm.ar.av,.slice 73 2 b0.fm.ar.ae.length (bG b0.fm.ar.ae),.int .i64 b0.fm.ar.aw,.slice 121 2 b0.fm.ar.af.length (aR b0.fm.ar.af),.slice 107 13 b0.fm.ar.ak.length (aJ b0.fm.ar.ak)]),(1,.flat 182 [.loc 0 0]),(bz,.tree 44 5 jd (((cP bK)).set jw [.str ba.av,.slice 73 2 ba.ae.length (bG ba.ae),.int .i64 ba.aw,.slice 121 2 ba.af.length (aR ba.af),.undef]) [(jw*5+4,.ms lM 13 0 dj.length)]),(lM,.rows false 107 13 (aJ dj))]⟩
def azV (jw:Nat) (b0:aF) (bK:bn):LS:=⟨[(2,.el bz 5 jw 0),(3,aku)],[(0,.flat 184 [.int .i64 b0.bg.ax,.ms bz 5 0 bK.length,.int .i64 b0.fm.bh,.int .i64 b0.fm.aG,.int .i64 b0.fm.aN,.int .i64 b0.fm.eL,.str b0.fm.av,.int .i64 b0.fm.ay,.int .i64 b0.fm.aD.ay,.int .i64 b0.fm.aD.bZ,.str b0.fm.aD.bB,.slice 110 6 b0.fm.bf.length (cR b0.fm.bf),.str b0.fm.ar.av,.slice 73 2 b0.fm.ar.ae.length (bG b0.fm.ar.ae),.int .i64 b0.fm.ar.aw,.slice 121 2 b0.fm.ar.af.length (aR b0.fm.ar.af),.slice 107 13 b0.fm.ar.ak.length (aJ b0.fm.ar.ak)]),(1,.flat 182 [.loc 0 0]),(bz,.tree 44 5 jd (cP bK) [])]⟩
def Rk (aO:amt) (back:Nat->Int->Int->Int->Int->aF->bk->aK->bn->aj->cB->bk->Nat->Option aF) (n:Nat) (jw:Nat) (t17 t18 t24 t25:Int) (b0:aF) (b5:bk) (rh:aK) (bK:bn) (ba:aj) (dK:cB) (vz:bk) (tH:Nat):Option aF:=
 if decide (t25<t24) then
 (eW rh.length t25).bind λx3=>(rh[0+x3]?).bind λx5=>(Oi n x5 (aF.mk (ag.mk b0.bg.ax bK) b0.fm)).bind λiu=>(eW rh.length t25).bind λeO=>(rh[0+eO]?).bind λld=>(setAt rh (0+eO) iu).bind λz19=>back jw t17 t18 t24 (bl (t25+1)) (aF.mk (ag.mk b0.bg.ax bK) b0.fm) (bk.mk z19 b5.aG) z19 bK (aj.mk ba.av ba.ae ba.aw [] ba.ak) dK (bk.mk [] vz.aG) tH
 else
 (setAt dK tH (bk.mk rh vz.aG)).bind λz2=>aO jw t17 t18 (aF.mk (ag.mk b0.bg.ax bK) b0.fm) bK (aj.mk ba.av ba.ae ba.aw [] ba.ak) z2
def TO:=K7 (Wa (cF 1943)) agQ
def TN:=K13 (Wa (cF 22935)) azX
def aGr {aO} (bq:TO aO) {back} (aS:TN back) (n:Nat):TN (Rk aO back n):=λjw t17 t18 t24 t25 b0 b5 rh bK ba dK vz tH r h=>ie h (λc0 h=>be h λx3 eY h=>be h λx5 kR h=>be h λiu j4 h=>be h λeO ic h=>be h λld pj h=>be h λz19 GF h=>ra (aS h) [aI c0,(1,dM eY),(0,R3.row kR),(7,.call (alx n j4) [(1,1),(0,9000)] [(bz,Bp)]),(0,dM ic),(0,R3.uF 0 [cm iu] pj GF (by kernel_rfl)),(2,.seq 23 (bN (AV.ms nZ 1 0) (eu GF))),(0,.beq 5 (bN (λn_=>(Bx.flat 121 [qd nZ n_,cm b5.aG])) (eu GF))),(0,.beq fZ (bN (λn_=>(Bx.tree 121 2 zm (((aR dK)).set tH (oH vz.aG)) [(tH*2+0,qd nZ n_)])) (eu GF)))]) λc0 h=>be h λz2 mn h=>ra (bq h) [aI c0,(0,eQ.gT R3 (r:= (oH vz.aG)) fZ nZ 0 false 3 1 rh mn (by kernel_rfl)),(0,.seq 16 (bN (AV.ms fZ 2 0) (eu mn))),(0,.beq bz (bN (λn_=>(Bx.tree 44 5 jd (((cP bK)).set jw [.str ba.av,.slice 73 2 ba.ae.length (bG ba.ae),.int .i64 ba.aw,.undef,.slice 107 13 ba.ak.length (aJ ba.ak)]) [(jw*5+3,jO fZ n_)])) (eu mn)))]
def Fa (aO:amt):Nat->Nat->Int->Int->Int->Int->aF->bk->aK->bn->aj->cB->bk->Nat->Option aF
 |0=>λ_ _ _ _ _ _ _ _ _ _ _ _ _=>none
 |n+1=>Rk aO (Fa aO n) n
def aqi {aO} (bq:TO aO):∀n:Nat,TN (Fa aO n)
 |0=>λ_ _ _ _ _ _ _ _ _ _ _ _ _ _ h=>nz h
 |n+1=>aGr bq (aqi bq n) n
def Rj (bt:amt) (n:Nat) (jw:Nat) (t17 t18:Int) (b0:aF) (bK:bn) (ba:aj) (dK:cB):Option aF:=
 bt jw t17 (bl (t18+1)) (aF.mk (ag.mk b0.bg.ax bK) b0.fm) bK (aj.mk ba.av ba.ae ba.aw [] ba.ak) dK
def Lg:=K7 (Wa (cF 87)) agQ
def aGq {bt} (cM:Lg bt) (n:Nat):TO (Rj bt n):=λjw t17 t18 b0 bK ba dK r h=>ra (cM h) []
def Ri (da:Nat->aF->bn->Option aF) (back:amt) (n:Nat) (jw:Nat) (t17 t18:Int) (b0:aF) (bK:bn) (ba:aj) (dK:cB):Option aF:=
 if decide (t18<t17) then
 (eW dK.length t18).bind λx2=>(dK[0+x2]?).bind λu5=>Fa (Rj back n) n jw t17 t18 (u5.ae.length:Int) 0 (aF.mk (ag.mk b0.bg.ax bK) b0.fm) u5 u5.ae bK (aj.mk ba.av ba.ae ba.aw [] ba.ak) dK (bk.mk [] u5.aG) (0+x2)
 else
 (setAt bK jw (aj.mk ba.av ba.ae ba.aw dK ba.ak)).bind λz2=>da jw (aF.mk (ag.mk b0.bg.ax z2) b0.fm) z2
def TM:=K3 (Wa [1,1,1,1]) azV
def aGp {da} (fg:TM da) {back} (aS:Lg back) (n:Nat):Lg (Ri da back n):=λjw t17 t18 b0 bK ba dK r h=>ie h (λc0 h=>be h λx2 cX h=>be h λu5 uM h=>ra (aqi (aGq aS n) n h) [aI c0,(0,dM cX),(0,eQ.nE R3 fZ nZ 0 false 3 1 u5.ae uM (oH u5.aG) (by kernel_rfl) (by kernel_rfl)),(0,eQ.zi [0] (oH u5.aG) uM)]) λc0 h=>be h λz2 mn h=>ra (fg h) [aI c0,(0,bW.gT eQ (r:= [.str ba.av,.slice 73 2 ba.ae.length (bG ba.ae),.int .i64 ba.aw,.undef,.slice 107 13 ba.ak.length (aJ ba.ak)]) bz fZ 3 false 121 2 dK mn (by kernel_rfl)),(0,.beq 0 (bN (λn_=>(Bx.flat 184 [.int .i64 b0.bg.ax,.ms bz 5 0 n_,.int .i64 b0.fm.bh,.int .i64 b0.fm.aG,.int .i64 b0.fm.aN,.int .i64 b0.fm.eL,.str b0.fm.av,.int .i64 b0.fm.ay,.int .i64 b0.fm.aD.ay,.int .i64 b0.fm.aD.bZ,.str b0.fm.aD.bB,.slice 110 6 b0.fm.bf.length (cR b0.fm.bf),.str b0.fm.ar.av,.slice 73 2 b0.fm.ar.ae.length (bG b0.fm.ar.ae),.int .i64 b0.fm.ar.aw,.slice 121 2 b0.fm.ar.af.length (aR b0.fm.ar.af),.slice 107 13 b0.fm.ar.ak.length (aJ b0.fm.ar.ak)])) (eu mn)))]
def B1 (da:Nat->aF->bn->Option aF):Nat->Nat->Int->Int->aF->bn->aj->cB->Option aF
 |0=>λ_ _ _ _ _ _ _=>none
 |n+1=>Ri da (B1 da n) n
def aqh {da} (fg:TM da):∀n:Nat,Lg (B1 da n)
 |0=>λ_ _ _ _ _ _ _ _ h=>nz h
 |n+1=>aGp fg (aqh fg n) n
def Rh (back:Nat->Int->Int->aF->bO->bn->aj->Option aF) (n:Nat) (jw:Nat) (t43 t44:Int) (b0:aF) (dj:bO) (bK:bn) (ba:aj):Option aF:=
 if decide (t44<t43) then
 (eW dj.length t44).bind λx3=>(dj[0+x3]?).bind λx5=>(Ay n x5 (aF.mk (ag.mk b0.bg.ax bK) b0.fm)).bind λiL=>(eW dj.length t44).bind λir=>(dj[0+ir]?).bind λpG=>(setAt dj (0+ir) iL).bind λz22=>back jw t43 (bl (t44+1)) (aF.mk (ag.mk b0.bg.ax bK) b0.fm) z22 bK (aj.mk ba.av ba.ae ba.aw ba.af [])
 else
 (setAt bK jw (aj.mk ba.av ba.ae ba.aw ba.af dj)).bind λz2=>some (aF.mk (ag.mk b0.bg.ax z2) b0.fm)
def TL:=K7 (Wa (cF 95)) azW
def aGo {back} (aS:TL back) (n:Nat):TL (Rh back n):=λjw t43 t44 b0 dj bK ba r h=>ie h (λc0 h=>be h λx3 eY h=>be h λx5 kR h=>be h λiL kh h=>be h λir mN h=>be h λpG xV h=>be h λz22 vx h=>ra (aS h) [aI c0,(1,dM eY),(0,eD.row kR),(10,.call (ars n kh) [(0,9000),(1,jT)] [(bz,Bp)]),(0,dM mN),(0,eD.uF 0 (fp iL) xV vx (by kernel_rfl)),(2,.seq 42 (bN (AV.ms lM 13 0) (eu vx))),(0,.beq bz (bN (λn_=>(Bx.tree 44 5 jd (((cP bK)).set jw [.str ba.av,.slice 73 2 ba.ae.length (bG ba.ae),.int .i64 ba.aw,.slice 121 2 ba.af.length (aR ba.af),.undef]) [(jw*5+4,.ms lM 13 0 n_)])) (eu vx)))]) λc0 h=>be h λz2 mn h=>rr h [aI c0,(0,bW.gT eD (r:= [.str ba.av,.slice 73 2 ba.ae.length (bG ba.ae),.int .i64 ba.aw,.slice 121 2 ba.af.length (aR ba.af),.undef]) bz lM 4 false 107 13 dj mn (by kernel_rfl)),(0,.beq 0 (bN (λn_=>(Bx.flat 184 [.int .i64 b0.bg.ax,.ms bz 5 0 n_,.int .i64 b0.fm.bh,.int .i64 b0.fm.aG,.int .i64 b0.fm.aN,.int .i64 b0.fm.eL,.str b0.fm.av,.int .i64 b0.fm.ay,.int .i64 b0.fm.aD.ay,.int .i64 b0.fm.aD.bZ,.str b0.fm.aD.bB,.slice 110 6 b0.fm.bf.length (cR b0.fm.bf),.str b0.fm.ar.av,.slice 73 2 b0.fm.ar.ae.length (bG b0.fm.ar.ae),.int .i64 b0.fm.ar.aw,.slice 121 2 b0.fm.ar.af.length (aR b0.fm.ar.af),.slice 107 13 b0.fm.ar.ak.length (aJ b0.fm.ar.ak)])) (eu mn)))]
def E9:Nat->Nat->Int->Int->aF->bO->bn->aj->Option aF
 |0=>λ_ _ _ _ _ _ _=>none
 |n+1=>Rh (E9 n) n
def aqg:∀n:Nat,TL (E9 n)
 |0=>λ_ _ _ _ _ _ _ _ h=>nz h
 |n+1=>aGo (aqg n) n
def Rg (n:Nat) (jw:Nat) (b0:aF) (bK:bn):Option aF:=
 (bK[jw]?).bind λu5=>E9 n jw (u5.ak.length:Int) 0 (aF.mk (ag.mk b0.bg.ax bK) b0.fm) u5.ak bK (aj.mk u5.av u5.ae u5.aw u5.af [])
def aGn (n:Nat):TM (Rg n):=λjw b0 bK r h=>be h λu5 uM h=>ra (aqg n h) [(3,bW.nE eD bz lM 4 false 107 13 u5.ak uM [.str u5.av,.slice 73 2 u5.ae.length (bG u5.ae),.int .i64 u5.aw,.slice 121 2 u5.af.length (aR u5.af),.undef] (by kernel_rfl) (by kernel_rfl))]
def aey (n:Nat) (g0:aF):Option aF:=
 (Cg n g0).bind λx3=>(g0.bg.ai[x3]?).bind λeC=>B1 (Rg n) n x3 (eC.af.length:Int) 0 g0 g0.bg.ai (aj.mk eC.av eC.ae eC.aw [] eC.ak) eC.af
def aGm (n:Nat):K1 (Wa []) mi (aey n):=λg0 r h=>be h λx3 eY h=>be h λeC Vo h=>ra (aqh (aGn n) n h) [(2,.call (LU n eY) [(0,0),(bz,bz)] []),(6,bW.nE eQ bz fZ 3 false 121 2 eC.af Vo [.str eC.av,.slice 73 2 eC.ae.length (bG eC.ae),.int .i64 eC.aw,.undef,.slice 107 13 eC.ak.length (aJ eC.ak)] (by kernel_rfl) (by kernel_rfl))]
def adF:=aey
def ayo (n:Nat):K1 (Cx E0 183 api ahN) mi (adF n):=λ_ _ h=>ca (X:=x183) (aGm n h)
def x149:=fx E0 Tryz.f149 [0,bz]
def A149:=Ax x149 pL pC
def afb (n:Nat) (g0:aF):Option (Bool×aF):=
 (Cg n g0).bind λx3=>(g0.bg.ai[x3]?).bind λeC=>(setAt g0.bg.ai x3 eC).bind λqL=>(Ol n (aF.mk (ag.mk g0.bg.ax qL) g0.fm) g0.fm.aN).bind λld=>if !ld then
 (setAt g0.bg.ai x3 eC).bind λz26=>some (false,(aF.mk (ag.mk g0.bg.ax z26) g0.fm))
 else
 (eW eC.ae.length g0.fm.aN).bind λx32=>(eC.ae[0+x32]?).bind λx35=>(VT n g0.fm.aD x35.ay).bind λyF=>if !yF then
 (setAt g0.bg.ai x3 eC).bind λte=>some (false,(aF.mk (ag.mk g0.bg.ax te) g0.fm))
 else
 (setAt g0.bg.ai x3 eC).bind λte=>(adH n (aF.mk (ag.mk g0.bg.ax te) g0.fm)).bind λIi=>if Ii then
 (setAt g0.bg.ai x3 eC).bind λz49=>some (false,(aF.mk (ag.mk g0.bg.ax z49) g0.fm))
 else
 (adG n eC.ae g0.fm.aN (bl (g0.fm.aN+1))).bind λx56=>(setAt g0.bg.ai x3 (aj.mk eC.av x56.2 eC.aw eC.af eC.ak)).bind λz63=>(adF n (aF.mk (ag.mk g0.bg.ax z63) g0.fm)).bind λHG=>some (true,HG)
def aHB (n:Nat):K1 (A149 []) mi (afb n):=λg0 r h=>be h λx3 eY h=>be h λeC Vo h=>be h λqL np h=>be h λld pj h=>let zA:SE:=[(1,.ord [0,2,3,4,5,6,1,7,8]),(6,.call (LU n eY) [(0,0),(bz,bz)] []),(2,bW.nE eJ bz il 1 false 73 2 eC.ae Vo [.str eC.av,.undef,.int .i64 eC.aw,.slice 121 2 eC.af.length (aR eC.af),.slice 107 13 eC.ak.length (aJ eC.ak)] (by kernel_rfl) (by kernel_rfl)),(2,.Aq (gn.ayT (XI n pj) ((show _=([.jx [.int .i64 g0.bg.ax,.sl 0 44 5 qL.length (cP qL),.int .i64 g0.fm.bh,.int .i64 g0.fm.aG,.int .i64 g0.fm.aN,.int .i64 g0.fm.eL,.str g0.fm.av,.int .i64 g0.fm.ay,.int .i64 g0.fm.aD.ay,.int .i64 g0.fm.aD.bZ,.str g0.fm.aD.bB,.slice 110 6 g0.fm.bf.length (cR g0.fm.bf),.str g0.fm.ar.av,.slice 73 2 g0.fm.ar.ae.length (bG g0.fm.ar.ae),.int .i64 g0.fm.ar.aw,.slice 121 2 g0.fm.ar.af.length (aR g0.fm.ar.af),.slice 107 13 g0.fm.ar.ak.length (aJ g0.fm.ar.ak)],.int .i64 g0.fm.aN]:List AV) by kernel_rfl).trans (bN (λn_=>([.jx [.int .i64 g0.bg.ax,.sl 0 44 5 n_ (cP qL),.int .i64 g0.fm.bh,.int .i64 g0.fm.aG,.int .i64 g0.fm.aN,.int .i64 g0.fm.eL,.str g0.fm.av,.int .i64 g0.fm.ay,.int .i64 g0.fm.aD.ay,.int .i64 g0.fm.aD.bZ,.str g0.fm.aD.bB,.slice 110 6 g0.fm.bf.length (cR g0.fm.bf),.str g0.fm.ar.av,.slice 73 2 g0.fm.ar.ae.length (bG g0.fm.ar.ae),.int .i64 g0.fm.ar.aw,.slice 121 2 g0.fm.ar.af.length (aR g0.fm.ar.af),.slice 107 13 g0.fm.ar.ak.length (aJ g0.fm.ar.ak)],.int .i64 g0.fm.aN]:List AV)) (eu np).symm))) [bW.gT eJ (r:= [.str eC.av,.undef,.int .i64 eC.aw,.slice 121 2 eC.af.length (aR eC.af),.slice 107 13 eC.ak.length (aJ eC.ak)]) bz il 1 false 73 2 eC.ae np (by kernel_rfl),bW.frzN false bz qL (eu np),.fX 0 (Q:= []) (n:=0) rfl] trivial [] [])];ie h (λc0 h=>be h λz26 abH h=>bD h zA [aI c0,(5,bW.gT eJ (r:= [.str eC.av,.undef,.int .i64 eC.aw,.slice 121 2 eC.af.length (aR eC.af),.slice 107 13 eC.ak.length (aJ eC.ak)]) bz il 1 false 73 2 eC.ae abH (by kernel_rfl)),(0,.beq 0 (bN (λn_=>(Bx.flat 184 [.int .i64 g0.bg.ax,.ms bz 5 0 n_,.int .i64 g0.fm.bh,.int .i64 g0.fm.aG,.int .i64 g0.fm.aN,.int .i64 g0.fm.eL,.str g0.fm.av,.int .i64 g0.fm.ay,.int .i64 g0.fm.aD.ay,.int .i64 g0.fm.aD.bZ,.str g0.fm.aD.bB,.slice 110 6 g0.fm.bf.length (cR g0.fm.bf),.str g0.fm.ar.av,.slice 73 2 g0.fm.ar.ae.length (bG g0.fm.ar.ae),.int .i64 g0.fm.ar.aw,.slice 121 2 g0.fm.ar.af.length (aR g0.fm.ar.af),.slice 107 13 g0.fm.ar.ak.length (aJ g0.fm.ar.ak)])) (eu abH)))]) λc0 h=>be h λx32 hx32 h=>be h λx35 abL h=>be h λyF NP h=>let zB:SE:=dJ zA [aI c0,(11,dM hx32),(1,eJ.row abL),om (aly n NP)];ie h (λc1 h=>be h λte qk h=>bD h zB [aI c1,(4,bW.gT eJ (r:= [.str eC.av,.undef,.int .i64 eC.aw,.slice 121 2 eC.af.length (aR eC.af),.slice 107 13 eC.ak.length (aJ eC.ak)]) bz il 1 false 73 2 eC.ae qk (by kernel_rfl)),(0,.beq 0 (bN (λn_=>(Bx.flat 184 [.int .i64 g0.bg.ax,.ms bz 5 0 n_,.int .i64 g0.fm.bh,.int .i64 g0.fm.aG,.int .i64 g0.fm.aN,.int .i64 g0.fm.eL,.str g0.fm.av,.int .i64 g0.fm.ay,.int .i64 g0.fm.aD.ay,.int .i64 g0.fm.aD.bZ,.str g0.fm.aD.bB,.slice 110 6 g0.fm.bf.length (cR g0.fm.bf),.str g0.fm.ar.av,.slice 73 2 g0.fm.ar.ae.length (bG g0.fm.ar.ae),.int .i64 g0.fm.ar.aw,.slice 121 2 g0.fm.ar.af.length (aR g0.fm.ar.af),.slice 107 13 g0.fm.ar.ak.length (aJ g0.fm.ar.ak)])) (eu qk)))]) λc1 h=>be h λte qk h=>be h λIi auv h=>let zC:SE:=dJ zB [aI c1,(3,.Aq (gn.ayT (ayq n auv) ((show _=([.jx [.int .i64 g0.bg.ax,.sl 0 44 5 te.length (cP te),.int .i64 g0.fm.bh,.int .i64 g0.fm.aG,.int .i64 g0.fm.aN,.int .i64 g0.fm.eL,.str g0.fm.av,.int .i64 g0.fm.ay,.int .i64 g0.fm.aD.ay,.int .i64 g0.fm.aD.bZ,.str g0.fm.aD.bB,.slice 110 6 g0.fm.bf.length (cR g0.fm.bf),.str g0.fm.ar.av,.slice 73 2 g0.fm.ar.ae.length (bG g0.fm.ar.ae),.int .i64 g0.fm.ar.aw,.slice 121 2 g0.fm.ar.af.length (aR g0.fm.ar.af),.slice 107 13 g0.fm.ar.ak.length (aJ g0.fm.ar.ak)]]:List AV) by kernel_rfl).trans (bN (λn_=>([.jx [.int .i64 g0.bg.ax,.sl 0 44 5 n_ (cP te),.int .i64 g0.fm.bh,.int .i64 g0.fm.aG,.int .i64 g0.fm.aN,.int .i64 g0.fm.eL,.str g0.fm.av,.int .i64 g0.fm.ay,.int .i64 g0.fm.aD.ay,.int .i64 g0.fm.aD.bZ,.str g0.fm.aD.bB,.slice 110 6 g0.fm.bf.length (cR g0.fm.bf),.str g0.fm.ar.av,.slice 73 2 g0.fm.ar.ae.length (bG g0.fm.ar.ae),.int .i64 g0.fm.ar.aw,.slice 121 2 g0.fm.ar.af.length (aR g0.fm.ar.af),.slice 107 13 g0.fm.ar.ak.length (aJ g0.fm.ar.ak)]]:List AV)) (eu qk).symm))) [bW.gT eJ (r:= [.str eC.av,.undef,.int .i64 eC.aw,.slice 121 2 eC.af.length (aR eC.af),.slice 107 13 eC.ak.length (aJ eC.ak)]) bz il 1 false 73 2 eC.ae qk (by kernel_rfl),bW.frzN false bz te (eu qk),.fX 0 (Q:= []) (n:=0) rfl] trivial [] [])];ie h (λc2 bI=>by subst c2;exact (be bI λz49 abF bI=>bD bI zC [(2,bW.gT eJ (r:= [.str eC.av,.undef,.int .i64 eC.aw,.slice 121 2 eC.af.length (aR eC.af),.slice 107 13 eC.ak.length (aJ eC.ak)]) bz il 1 false 73 2 eC.ae abF (by kernel_rfl)),(0,.beq 0 (bN (λn_=>(Bx.flat 184 [.int .i64 g0.bg.ax,.ms bz 5 0 n_,.int .i64 g0.fm.bh,.int .i64 g0.fm.aG,.int .i64 g0.fm.aN,.int .i64 g0.fm.eL,.str g0.fm.av,.int .i64 g0.fm.ay,.int .i64 g0.fm.aD.ay,.int .i64 g0.fm.aD.bZ,.str g0.fm.aD.bB,.slice 110 6 g0.fm.bf.length (cR g0.fm.bf),.str g0.fm.ar.av,.slice 73 2 g0.fm.ar.ae.length (bG g0.fm.ar.ae),.int .i64 g0.fm.ar.aw,.slice 121 2 g0.fm.ar.af.length (aR g0.fm.ar.af),.slice 107 13 g0.fm.ar.ak.length (aJ g0.fm.ar.ak)])) (eu abF)))])) λc2 bI=>by subst c2;exact (be bI λx56 hx56 bI=>be bI λz63 hz63 bI=>be bI λHG Vl bI=>bD bI zC [(9,.call (ayp n hx56) [(il,0)] []),(2,bW.xX 1 [.str eC.av,.undef,.int .i64 eC.aw,.slice 121 2 eC.af.length (aR eC.af),.slice 107 13 eC.ak.length (aJ eC.ak)] [.str eC.av,.undef,.int .i64 eC.aw,.slice 121 2 eC.af.length (aR eC.af),.slice 107 13 eC.ak.length (aJ eC.ak)] Vo (by kernel_rfl)),(1,bW.gT eJ (r:= [.str eC.av,.undef,.int .i64 eC.aw,.slice 121 2 eC.af.length (aR eC.af),.slice 107 13 eC.ak.length (aJ eC.ak)]) bz il 1 false 73 2 x56.2 hz63 (by kernel_rfl)),(0,.beq 0 (bN (λn_=>(Bx.flat 184 [.int .i64 g0.bg.ax,.ms bz 5 0 n_,.int .i64 g0.fm.bh,.int .i64 g0.fm.aG,.int .i64 g0.fm.aN,.int .i64 g0.fm.eL,.str g0.fm.av,.int .i64 g0.fm.ay,.int .i64 g0.fm.aD.ay,.int .i64 g0.fm.aD.bZ,.str g0.fm.aD.bB,.slice 110 6 g0.fm.bf.length (cR g0.fm.bf),.str g0.fm.ar.av,.slice 73 2 g0.fm.ar.ae.length (bG g0.fm.ar.ae),.int .i64 g0.fm.ar.aw,.slice 121 2 g0.fm.ar.af.length (aR g0.fm.ar.af),.slice 107 13 g0.fm.ar.ak.length (aJ g0.fm.ar.ak)])) (eu hz63))),(0,.call (ayo n Vl) [(0,0),(bz,bz)] [])])
def adU:=afb
def aKD (n:Nat):K1 (Cx E0 149 pL pC) mi (adU n):=λ_ _ h=>ca (X:=x149) (aHB n h)
def x150:=fx E0 Tryz.f150 [0,bz]
def A150:=Ax x150 pL pC
def afa (n:Nat) (g0:aF):Option (Bool×aF):=
 (Cg n g0).bind λx3=>(Ol n g0 g0.fm.aN).bind λgS=>if !gS then
 some (false,g0)
 else
 (Ol n g0 g0.fm.eL).bind λni=>if !ni then
 some (false,g0)
 else
 (g0.bg.ai[x3]?).bind λfF=>(eW fF.ae.length g0.fm.aN).bind λyF=>(fF.ae[0+yF]?).bind λrV=>(adG n fF.ae g0.fm.aN (bl (g0.fm.aN+1))).bind λx59=>(awi n x59.2 g0.fm.eL [rV]).bind λx76=>(setAt g0.bg.ai x3 (aj.mk fF.av x76.2 fF.aw fF.af fF.ak)).bind λz83=>(adF n (aF.mk (ag.mk g0.bg.ax z83) g0.fm)).bind λx84=>some (true,x84)
def aHA (n:Nat):K1 (A150 []) mi (afa n):=λg0 r h=>be h λx3 eY h=>be h λgS jG h=>let zA:SE:=[(2,.call (LU n eY) [(0,0),(bz,bz)] []),(7,.Aq (XI n jG) [bW.tfr false bz g0.bg.ai,.fX 0 (Q:= []) (n:=0) rfl] trivial [] [])];ie h (λc0 h=>bD h zA [aI c0]) λc0 h=>be h λni ph h=>let zB:SE:=dJ zA [aI c0,(7,.Aq (XI n ph) [bW.tfr false bz g0.bg.ai,.fX 0 (Q:= []) (n:=0) rfl] trivial [] [])];ie h (λc1 h=>bD h zB [aI c1]) λc1 h=>be h λfF Vn h=>be h λyF NP h=>be h λrV Bs h=>be h λx59 auq h=>be h λx76 hx76 h=>be h λz83 hz83 h=>be h λx84 hx84 h=>bD h zB [aI c1,(1,bW.nE eJ bz il 1 false 73 2 fF.ae Vn [.str fF.av,.undef,.int .i64 fF.aw,.slice 121 2 fF.af.length (aR fF.af),.slice 107 13 fF.ak.length (aJ fF.ak)] (by kernel_rfl) (by kernel_rfl)),(9,dM NP),(0,eJ.row Bs),(18,.call (ayp n auq) [(il,0)] []),(2,bW.xX 1 [.str fF.av,.undef,.int .i64 fF.aw,.slice 121 2 fF.af.length (aR fF.af),.slice 107 13 fF.ak.length (aJ fF.ak)] [.str fF.av,.undef,.int .i64 fF.aw,.slice 121 2 fF.af.length (aR fF.af),.slice 107 13 fF.ak.length (aJ fF.ak)] Vn (by kernel_rfl)),(12,.call (aKp n hx76) [(66,2),(il,iB)] []),(2,bW.xX 1 [.str fF.av,.undef,.int .i64 fF.aw,.slice 121 2 fF.af.length (aR fF.af),.slice 107 13 fF.ak.length (aJ fF.ak)] [.str fF.av,.undef,.int .i64 fF.aw,.slice 121 2 fF.af.length (aR fF.af),.slice 107 13 fF.ak.length (aJ fF.ak)] Vn (by kernel_rfl)),(1,bW.gT eJ (r:= [.str fF.av,.undef,.int .i64 fF.aw,.slice 121 2 fF.af.length (aR fF.af),.slice 107 13 fF.ak.length (aJ fF.ak)]) bz il 1 false 73 2 x76.2 hz83 (by kernel_rfl)),(0,.beq 0 (bN (λn_=>(Bx.flat 184 [.int .i64 g0.bg.ax,.ms bz 5 0 n_,.int .i64 g0.fm.bh,.int .i64 g0.fm.aG,.int .i64 g0.fm.aN,.int .i64 g0.fm.eL,.str g0.fm.av,.int .i64 g0.fm.ay,.int .i64 g0.fm.aD.ay,.int .i64 g0.fm.aD.bZ,.str g0.fm.aD.bB,.slice 110 6 g0.fm.bf.length (cR g0.fm.bf),.str g0.fm.ar.av,.slice 73 2 g0.fm.ar.ae.length (bG g0.fm.ar.ae),.int .i64 g0.fm.ar.aw,.slice 121 2 g0.fm.ar.af.length (aR g0.fm.ar.af),.slice 107 13 g0.fm.ar.ak.length (aJ g0.fm.ar.ak)])) (eu hz83))),(0,.call (ayo n hx84) [(0,0),(bz,bz)] [])]
def adT:=afa
def aKC (n:Nat):K1 (Cx E0 150 pL pC) mi (adT n):=λ_ _ h=>ca (X:=x150) (aHA n h)
def x151:=fx E0 Tryz.f151 [0,bz]
def A151:=Ax x151 pL pC
def aeZ (n:Nat) (g0:aF):Option (Bool×aF):=
 (Cg n g0).bind λx3=>(g0.bg.ai[x3]?).bind λu6=>if decide (g0.fm.aN<0) then
 (setAt g0.bg.ai x3 u6).bind λqL=>some (false,(aF.mk (ag.mk g0.bg.ax qL) g0.fm))
 else
 if !decide (g0.fm.aN<(u6.ae.length:Int)) then
 (setAt g0.bg.ai x3 u6).bind λz28=>some (false,(aF.mk (ag.mk g0.bg.ax z28) g0.fm))
 else
 (eW u6.ae.length g0.fm.aN).bind λD5=>(u6.ae[0+D5]?).bind λx44=>(setAt u6.ae (0+D5) (cG.mk g0.fm.av x44.ay)).bind λz45=>(setAt g0.bg.ai x3 (aj.mk u6.av z45 u6.aw u6.af u6.ak)).bind λz48=>some (true,(aF.mk (ag.mk g0.bg.ax z48) g0.fm))
def aHz (n:Nat):K1 (A151 []) mi (aeZ n):=λg0 r h=>be h λx3 eY h=>be h λu6 yR h=>let zA:SE:=[(2,.call (LU n eY) [(0,0),(bz,bz)] []),(1,bW.nE eJ bz il 1 false 73 2 u6.ae yR [.str u6.av,.undef,.int .i64 u6.aw,.slice 121 2 u6.af.length (aR u6.af),.slice 107 13 u6.ak.length (aJ u6.ak)] (by kernel_rfl) (by kernel_rfl))];ie h (λc0 h=>be h λqL np h=>bD h zA [cg c0,(3,bW.gT eJ (r:= [.str u6.av,.undef,.int .i64 u6.aw,.slice 121 2 u6.af.length (aR u6.af),.slice 107 13 u6.ak.length (aJ u6.ak)]) bz il 1 false 73 2 u6.ae np (by kernel_rfl)),(0,.beq 0 (bN (λn_=>(Bx.flat 184 [.int .i64 g0.bg.ax,.ms bz 5 0 n_,.int .i64 g0.fm.bh,.int .i64 g0.fm.aG,.int .i64 g0.fm.aN,.int .i64 g0.fm.eL,.str g0.fm.av,.int .i64 g0.fm.ay,.int .i64 g0.fm.aD.ay,.int .i64 g0.fm.aD.bZ,.str g0.fm.aD.bB,.slice 110 6 g0.fm.bf.length (cR g0.fm.bf),.str g0.fm.ar.av,.slice 73 2 g0.fm.ar.ae.length (bG g0.fm.ar.ae),.int .i64 g0.fm.ar.aw,.slice 121 2 g0.fm.ar.af.length (aR g0.fm.ar.af),.slice 107 13 g0.fm.ar.ak.length (aJ g0.fm.ar.ak)])) (eu np)))]) λc0 h=>ie h (λc1 h=>be h λz28 wz h=>bD h zA [cg c0,(11,eb c1),(2,bW.gT eJ (r:= [.str u6.av,.undef,.int .i64 u6.aw,.slice 121 2 u6.af.length (aR u6.af),.slice 107 13 u6.ak.length (aJ u6.ak)]) bz il 1 false 73 2 u6.ae wz (by kernel_rfl)),(0,.beq 0 (bN (λn_=>(Bx.flat 184 [.int .i64 g0.bg.ax,.ms bz 5 0 n_,.int .i64 g0.fm.bh,.int .i64 g0.fm.aG,.int .i64 g0.fm.aN,.int .i64 g0.fm.eL,.str g0.fm.av,.int .i64 g0.fm.ay,.int .i64 g0.fm.aD.ay,.int .i64 g0.fm.aD.bZ,.str g0.fm.aD.bB,.slice 110 6 g0.fm.bf.length (cR g0.fm.bf),.str g0.fm.ar.av,.slice 73 2 g0.fm.ar.ae.length (bG g0.fm.ar.ae),.int .i64 g0.fm.ar.aw,.slice 121 2 g0.fm.ar.af.length (aR g0.fm.ar.af),.slice 107 13 g0.fm.ar.ak.length (aJ g0.fm.ar.ak)])) (eu wz)))]) λc1 h=>be h λD5 abK h=>be h λx44 alc h=>be h λz45 hz45 h=>be h λz48 hz48 h=>bD h zA [cg c0,(11,eb c1),(15,dM abK),(1,eJ.uF 0 [.str g0.fm.av] alc hz45 (by kernel_rfl)),(1,.beq bz (bN (λn_=>(Bx.tree 44 5 jd (((cP g0.bg.ai)).set x3 [.str u6.av,.undef,.int .i64 u6.aw,.slice 121 2 u6.af.length (aR u6.af),.slice 107 13 u6.ak.length (aJ u6.ak)]) [(x3*5+1,jO il n_)])) (eu hz45))),(0,bW.gT eJ (r:= [.str u6.av,.undef,.int .i64 u6.aw,.slice 121 2 u6.af.length (aR u6.af),.slice 107 13 u6.ak.length (aJ u6.ak)]) bz il 1 false 73 2 z45 hz48 (by kernel_rfl)),(0,.beq 0 (bN (λn_=>(Bx.flat 184 [.int .i64 g0.bg.ax,.ms bz 5 0 n_,.int .i64 g0.fm.bh,.int .i64 g0.fm.aG,.int .i64 g0.fm.aN,.int .i64 g0.fm.eL,.str g0.fm.av,.int .i64 g0.fm.ay,.int .i64 g0.fm.aD.ay,.int .i64 g0.fm.aD.bZ,.str g0.fm.aD.bB,.slice 110 6 g0.fm.bf.length (cR g0.fm.bf),.str g0.fm.ar.av,.slice 73 2 g0.fm.ar.ae.length (bG g0.fm.ar.ae),.int .i64 g0.fm.ar.aw,.slice 121 2 g0.fm.ar.af.length (aR g0.fm.ar.af),.slice 107 13 g0.fm.ar.ak.length (aJ g0.fm.ar.ak)])) (eu hz48)))]
def adS:=aeZ
def aKB (n:Nat):K1 (Cx E0 151 pL pC) mi (adS n):=λ_ _ h=>ca (X:=x151) (aHz n h)
def x152:=fx E0 Tryz.f152 [0,bz]
def A152:=Ax x152 pL pC
def aeY (n:Nat) (g0:aF):Option (Bool×aF):=
 (Cg n g0).bind λx3=>(g0.bg.ai[x3]?).bind λeC=>(setAt g0.bg.ai x3 (aj.mk g0.fm.av eC.ae eC.aw eC.af eC.ak)).bind λz14=>some (true,(aF.mk (ag.mk g0.bg.ax z14) g0.fm))
def aHy (n:Nat):K1 (A152 []) mi (aeY n):=λg0 r h=>be h λx3 eY h=>be h λeC Vo h=>be h λz14 hz14 h=>rr h [(1,.ord [0,2,3,4,5,6,1,7,8,9]),(6,.call (LU n eY) [(0,0),(bz,bz)] []),(2,bW.uF 0 [.str g0.fm.av] Vo hz14 (by kernel_rfl)),(1,.beq 0 (bN (λn_=>(Bx.flat 184 [.int .i64 g0.bg.ax,.ms bz 5 0 n_,.int .i64 g0.fm.bh,.int .i64 g0.fm.aG,.int .i64 g0.fm.aN,.int .i64 g0.fm.eL,.str g0.fm.av,.int .i64 g0.fm.ay,.int .i64 g0.fm.aD.ay,.int .i64 g0.fm.aD.bZ,.str g0.fm.aD.bB,.slice 110 6 g0.fm.bf.length (cR g0.fm.bf),.str g0.fm.ar.av,.slice 73 2 g0.fm.ar.ae.length (bG g0.fm.ar.ae),.int .i64 g0.fm.ar.aw,.slice 121 2 g0.fm.ar.af.length (aR g0.fm.ar.af),.slice 107 13 g0.fm.ar.ak.length (aJ g0.fm.ar.ak)])) (eu hz14)))]
def adR:=aeY
def aKA (n:Nat):K1 (Cx E0 152 pL pC) mi (adR n):=λ_ _ h=>ca (X:=x152) (aHy n h)
def ahP (r:(Bool×aF)):List (Nat×Bx):= [(0,.flat 184 [.int .i64 r.2.bg.ax,.ms iB 5 0 r.2.bg.ai.length,.int .i64 r.2.fm.bh,.int .i64 r.2.fm.aG,.int .i64 r.2.fm.aN,.int .i64 r.2.fm.eL,.str r.2.fm.av,.int .i64 r.2.fm.ay,.int .i64 r.2.fm.aD.ay,.int .i64 r.2.fm.aD.bZ,.str r.2.fm.aD.bB,.slice 110 6 r.2.fm.bf.length (cR r.2.fm.bf),.str r.2.fm.ar.av,.slice 73 2 r.2.fm.ar.ae.length (bG r.2.fm.ar.ae),.int .i64 r.2.fm.ar.aw,.slice 121 2 r.2.fm.ar.af.length (aR r.2.fm.ar.af),.slice 107 13 r.2.fm.ar.ak.length (aJ r.2.fm.ar.ak)]),(iB,.tree 44 5 jd (cP r.2.bg.ai) [])]
def x153:=fx E0 Tryz.f153 [0,iB]
def A153:=Ax x153 pL ahP
def ahe (g0:aF):LS:=⟨[(0,.loc 0 0)],[(0,.flat 184 [.int .i64 g0.bg.ax,.ms iB 5 0 g0.bg.ai.length,.int .i64 g0.fm.bh,.int .i64 g0.fm.aG,.int .i64 g0.fm.aN,.int .i64 g0.fm.eL,.str g0.fm.av,.int .i64 g0.fm.ay,.int .i64 g0.fm.aD.ay,.int .i64 g0.fm.aD.bZ,.str g0.fm.aD.bB,.slice 110 6 g0.fm.bf.length (cR g0.fm.bf),.str g0.fm.ar.av,.slice 73 2 g0.fm.ar.ae.length (bG g0.fm.ar.ae),.int .i64 g0.fm.ar.aw,.slice 121 2 g0.fm.ar.af.length (aR g0.fm.ar.af),.slice 107 13 g0.fm.ar.ak.length (aJ g0.fm.ar.ak)]),(iB,.tree 44 5 jd (cP g0.bg.ai) [])]⟩
def aeX (n:Nat) (g0:aF):Option (Bool×aF):=
 (F96 n g0.fm.ar).bind λdY=>(app g0.bg.ai [dY]).bind λeO=>(setAt eO g0.bg.ai.length dY).bind λz22=>some (true,(aF.mk (ag.mk g0.bg.ax z22) g0.fm))
def aHx (n:Nat):K1 (A153 []) ahe (aeX n):=λg0 r h=>be h λdY iq h=>be h λeO ic h=>be h λz22 vx h=>rr h [(12,.call (ev96 n iq) [] [(330140001,r8),(330140003,201003),(330140004,201004)]),(1,bW.Iq ic),(4,.beq iB (bN (λq_=>Bx.tree 44 5 jd q_ [(g0.bg.ai.length*5+1,jO 330140001 dY.ae.length),(g0.bg.ai.length*5+3,.ms 330140003 2 0 dY.af.length),(g0.bg.ai.length*5+4,.ms 330140004 13 0 dY.ak.length)]) (bW.apS (r:= (iM dY)) ic))),(0,bW.jv eJ (r:= (iM dY)) iB 330140001 1 false 73 2 dY.ae vx [.str dY.av,.slice 73 2 dY.ae.length (bG dY.ae),.int .i64 dY.aw,.undef,.undef] (by kernel_rfl)),(0,bW.jv eQ (r:= [.str dY.av,.slice 73 2 dY.ae.length (bG dY.ae),.int .i64 dY.aw,.undef,.undef]) iB 330140003 3 false 121 2 dY.af vx [.str dY.av,.slice 73 2 dY.ae.length (bG dY.ae),.int .i64 dY.aw,.slice 121 2 dY.af.length (aR dY.af),.undef] (by kernel_rfl)),(0,bW.gT eD (r:= [.str dY.av,.slice 73 2 dY.ae.length (bG dY.ae),.int .i64 dY.aw,.slice 121 2 dY.af.length (aR dY.af),.undef]) iB 330140004 4 false 107 13 dY.ak vx (by kernel_rfl)),(1,.beq 0 (bN (λn_=>(Bx.flat 184 [.int .i64 g0.bg.ax,.ms iB 5 0 n_,.int .i64 g0.fm.bh,.int .i64 g0.fm.aG,.int .i64 g0.fm.aN,.int .i64 g0.fm.eL,.str g0.fm.av,.int .i64 g0.fm.ay,.int .i64 g0.fm.aD.ay,.int .i64 g0.fm.aD.bZ,.str g0.fm.aD.bB,.slice 110 6 g0.fm.bf.length (cR g0.fm.bf),.str g0.fm.ar.av,.slice 73 2 g0.fm.ar.ae.length (bG g0.fm.ar.ae),.int .i64 g0.fm.ar.aw,.slice 121 2 g0.fm.ar.af.length (aR g0.fm.ar.af),.slice 107 13 g0.fm.ar.ak.length (aJ g0.fm.ar.ak)])) (((bW.apL ic).trans (eu vx)))))]
def adQ:=aeX
def aKz (n:Nat):K1 (Cx E0 153 pL ahP) ahe (adQ n):=λ_ _ h=>ca (X:=x153) (aHx n h)
def x154:=fx E0 Tryz.f154 [0,bz]
def HE:=Ax x154 pL pC
def aAH (i3 t16 t17 t24 t25:Int) (b0:aF) (bK:bn) (ba:aj) (dV:Nat) (dj:bO) (iD:cN) (dK:cB):LS:=⟨[(0,.loc 0 0),(3,cm i3),(15,.ms bz 5 0 bK.length),(16,cm t16),(17,cm t17),(23,jO fZ dK.length),(24,cm t24),(25,cm t25)],[(0,.flat 184 [.int .i64 b0.bg.ax,.ms bz 5 0 bK.length,.int .i64 b0.fm.bh,.int .i64 b0.fm.aG,.int .i64 b0.fm.aN,.int .i64 b0.fm.eL,.str b0.fm.av,.int .i64 b0.fm.ay,.int .i64 b0.fm.aD.ay,.int .i64 b0.fm.aD.bZ,.str b0.fm.aD.bB,.slice 110 6 b0.fm.bf.length (cR b0.fm.bf),.str b0.fm.ar.av,.slice 73 2 b0.fm.ar.ae.length (bG b0.fm.ar.ae),.int .i64 b0.fm.ar.aw,.slice 121 2 b0.fm.ar.af.length (aR b0.fm.ar.af),.slice 107 13 b0.fm.ar.ak.length (aJ b0.fm.ar.ak)]),(bz,.tree 44 5 jd (((cP bK)).set dV (iM ba)) [(dV*5+4,.ms lM 13 0 dj.length),(dV*5+3,jO fZ dK.length),(dV*5+1,jO il iD.length)]),(il,.rows false 73 2 (bG iD)),(fZ,.tree 121 2 zm (aR dK) []),(lM,.rows false 107 13 (aJ dj))]⟩
def ahd (t16 t17:Int) (b0:aF) (bK:bn):LS:=⟨[(0,.loc 0 0),(15,.ms bz 5 0 bK.length),(16,cm t16),(17,cm t17)],[(0,.flat 184 [.int .i64 b0.bg.ax,.ms bz 5 0 bK.length,.int .i64 b0.fm.bh,.int .i64 b0.fm.aG,.int .i64 b0.fm.aN,.int .i64 b0.fm.eL,.str b0.fm.av,.int .i64 b0.fm.ay,.int .i64 b0.fm.aD.ay,.int .i64 b0.fm.aD.bZ,.str b0.fm.aD.bB,.slice 110 6 b0.fm.bf.length (cR b0.fm.bf),.str b0.fm.ar.av,.slice 73 2 b0.fm.ar.ae.length (bG b0.fm.ar.ae),.int .i64 b0.fm.ar.aw,.slice 121 2 b0.fm.ar.af.length (aR b0.fm.ar.af),.slice 107 13 b0.fm.ar.ak.length (aJ b0.fm.ar.ak)]),(bz,.tree 44 5 jd (cP bK) [])]⟩
def aAG (t74 t75 t81 t82:Int) (b0:aF) (b8:aj) (iD:cN) (dj:bO) (bK:bn) (ba:aj) (dV:Nat) (dK:cB):LS:=⟨[(0,.loc 0 0),(8,.loc 8 0),(73,.ms bz 5 0 bK.length),(74,cm t74),(75,cm t75),(80,jO fZ dK.length),(81,cm t81),(82,cm t82)],[(0,.flat 184 [.int .i64 b0.bg.ax,.ms bz 5 0 bK.length,.int .i64 b0.fm.bh,.int .i64 b0.fm.aG,.int .i64 b0.fm.aN,.int .i64 b0.fm.eL,.str b0.fm.av,.int .i64 b0.fm.ay,.int .i64 b0.fm.aD.ay,.int .i64 b0.fm.aD.bZ,.str b0.fm.aD.bB,.slice 110 6 b0.fm.bf.length (cR b0.fm.bf),.str b0.fm.ar.av,.slice 73 2 b0.fm.ar.ae.length (bG b0.fm.ar.ae),.int .i64 b0.fm.ar.aw,.slice 121 2 b0.fm.ar.af.length (aR b0.fm.ar.af),.slice 107 13 b0.fm.ar.ak.length (aJ b0.fm.ar.ak)]),(8,.flat 44 [.str b8.av,jO il iD.length,Gi b8,jO fZ dK.length,.ms lM 13 0 dj.length]),(bz,.tree 44 5 jd (((cP bK)).set dV (iM ba)) [(dV*5+4,.ms lM 13 0 dj.length),(dV*5+3,jO fZ dK.length),(dV*5+1,jO il iD.length)]),(il,.rows false 73 2 (bG iD)),(fZ,.tree 121 2 zm (aR dK) []),(lM,.rows false 107 13 (aJ dj))]⟩
def ahc (t74 t75:Int) (b0:aF) (bK:bn):LS:=⟨[(0,.loc 0 0),(73,.ms bz 5 0 bK.length),(74,cm t74),(75,cm t75)],[(0,.flat 184 [.int .i64 b0.bg.ax,.ms bz 5 0 bK.length,.int .i64 b0.fm.bh,.int .i64 b0.fm.aG,.int .i64 b0.fm.aN,.int .i64 b0.fm.eL,.str b0.fm.av,.int .i64 b0.fm.ay,.int .i64 b0.fm.aD.ay,.int .i64 b0.fm.aD.bZ,.str b0.fm.aD.bB,.slice 110 6 b0.fm.bf.length (cR b0.fm.bf),.str b0.fm.ar.av,.slice 73 2 b0.fm.ar.ae.length (bG b0.fm.ar.ae),.int .i64 b0.fm.ar.aw,.slice 121 2 b0.fm.ar.af.length (aR b0.fm.ar.af),.slice 107 13 b0.fm.ar.ak.length (aJ b0.fm.ar.ak)]),(bz,.tree 44 5 jd (cP bK) [])]⟩
def aAF (b0:aF) (bK:bn):LS:=⟨[],[(0,.flat 184 [.int .i64 b0.bg.ax,.ms bz 5 0 bK.length,.int .i64 b0.fm.bh,.int .i64 b0.fm.aG,.int .i64 b0.fm.aN,.int .i64 b0.fm.eL,.str b0.fm.av,.int .i64 b0.fm.ay,.int .i64 b0.fm.aD.ay,.int .i64 b0.fm.aD.bZ,.str b0.fm.aD.bB,.slice 110 6 b0.fm.bf.length (cR b0.fm.bf),.str b0.fm.ar.av,.slice 73 2 b0.fm.ar.ae.length (bG b0.fm.ar.ae),.int .i64 b0.fm.ar.aw,.slice 121 2 b0.fm.ar.af.length (aR b0.fm.ar.af),.slice 107 13 b0.fm.ar.ak.length (aJ b0.fm.ar.ak)]),(bz,.tree 44 5 jd (cP bK) [])]⟩
def aAE (b0:aF) (bK:bn):LS:=⟨[(0,.loc 0 0)],[(0,.flat 184 [.int .i64 b0.bg.ax,.ms bz 5 0 bK.length,.int .i64 b0.fm.bh,.int .i64 b0.fm.aG,.int .i64 b0.fm.aN,.int .i64 b0.fm.eL,.str b0.fm.av,.int .i64 b0.fm.ay,.int .i64 b0.fm.aD.ay,.int .i64 b0.fm.aD.bZ,.str b0.fm.aD.bB,.slice 110 6 b0.fm.bf.length (cR b0.fm.bf),.str b0.fm.ar.av,.slice 73 2 b0.fm.ar.ae.length (bG b0.fm.ar.ae),.int .i64 b0.fm.ar.aw,.slice 121 2 b0.fm.ar.af.length (aR b0.fm.ar.af),.slice 107 13 b0.fm.ar.ak.length (aJ b0.fm.ar.ak)]),(bz,.tree 44 5 jd (cP bK) [])]⟩
def RN (aO:JV) (back:Int->Int->Int->Int->Int->aF->bn->aj->Nat->bO->cN->cB->Option (Bool×aF)) (n:Nat) (i3 t16 t17 t24 t25:Int) (b0:aF) (bK:bn) (ba:aj) (dV:Nat) (dj:bO) (iD:cN) (dK:cB):Option (Bool×aF):=
 if decide (t25<t24) then
 (eW dK.length t25).bind λx2=>(dK[0+x2]?).bind λu5=>if i3 !=b0.fm.aG then
 if u5.aG==b0.fm.aG then
 (setAt dK (0+x2) u5).bind λz26=>(setAt bK dV (aj.mk ba.av iD ba.aw z26 dj)).bind λz28=>some (false,(aF.mk (ag.mk b0.bg.ax z28) b0.fm))
 else
 (setAt dK (0+x2) u5).bind λz28=>back i3 t16 t17 t24 (bl (t25+1)) (aF.mk (ag.mk b0.bg.ax bK) b0.fm) bK (aj.mk ba.av [] ba.aw [] []) dV dj iD z28
 else
 (setAt dK (0+x2) u5).bind λz20=>back i3 t16 t17 t24 (bl (t25+1)) (aF.mk (ag.mk b0.bg.ax bK) b0.fm) bK (aj.mk ba.av [] ba.aw [] []) dV dj iD z20
 else
 (setAt bK dV (aj.mk ba.av iD ba.aw dK dj)).bind λz2=>aO t16 t17 (aF.mk (ag.mk b0.bg.ax z2) b0.fm) z2
def TK:=K4 (HE (cF 485)) ahd
def TJ:=K12 (HE (cF 5733)) aAH
def aHw {aO} (bq:TK aO) {back} (aS:TJ back) (n:Nat):TJ (RN aO back n):=λi3 t16 t17 t24 t25 b0 bK ba dV dj iD dK r h=>ie h (λc0 h=>be h λx2 cX h=>be h λu5 uM h=>let zA:SE:=[aI c0,(0,dM cX),(0,eQ.nE R3 fZ nZ 0 false 3 1 u5.ae uM (oH u5.aG) (by kernel_rfl) (by kernel_rfl)),(0,eQ.zi [0] (oH u5.aG) uM)];ie h (λc1 h=>ie h (λc2 h=>be h λz26 abH h=>be h λz28 wz h=>bD h zA [iC c1,iC c2,(1,eQ.gT R3 (r:= (oH u5.aG)) fZ nZ 0 false 3 1 u5.ae abH (by kernel_rfl)),(0,.beq bz (bN (λn_=>((IN (((cP bK)).set dV (iM ba)) (dV*5+4) lM dj.length (dV*5+3) fZ n_ (dV*5+1) il iD.length))) (eu abH))),(0,bW.jv eD (r:= (iM ba)) bz lM 4 false 107 13 dj wz [.str ba.av,.undef,.int .i64 ba.aw,.undef,.slice 107 13 dj.length (aJ dj)] (by kernel_rfl)),(0,bW.jv eQ (r:= [.str ba.av,.undef,.int .i64 ba.aw,.undef,.slice 107 13 dj.length (aJ dj)]) bz fZ 3 false 121 2 z26 wz [.str ba.av,.undef,.int .i64 ba.aw,.slice 121 2 z26.length (aR z26),.slice 107 13 dj.length (aJ dj)] (by kernel_rfl)),(0,bW.gT eJ (r:= [.str ba.av,.undef,.int .i64 ba.aw,.slice 121 2 z26.length (aR z26),.slice 107 13 dj.length (aJ dj)]) bz il 1 false 73 2 iD wz (by kernel_rfl)),(1,.beq 0 (bN (λn_=>(Bx.flat 184 [.int .i64 b0.bg.ax,.ms bz 5 0 n_,.int .i64 b0.fm.bh,.int .i64 b0.fm.aG,.int .i64 b0.fm.aN,.int .i64 b0.fm.eL,.str b0.fm.av,.int .i64 b0.fm.ay,.int .i64 b0.fm.aD.ay,.int .i64 b0.fm.aD.bZ,.str b0.fm.aD.bB,.slice 110 6 b0.fm.bf.length (cR b0.fm.bf),.str b0.fm.ar.av,.slice 73 2 b0.fm.ar.ae.length (bG b0.fm.ar.ae),.int .i64 b0.fm.ar.aw,.slice 121 2 b0.fm.ar.af.length (aR b0.fm.ar.af),.slice 107 13 b0.fm.ar.ak.length (aJ b0.fm.ar.ak)])) (eu wz)))]) λc2 h=>be h λz28 wz h=>cI (aS h) zA [iC c1,iC c2,(3,eQ.gT R3 (r:= (oH u5.aG)) fZ nZ 0 false 3 1 u5.ae wz (by kernel_rfl)),(0,.seq 23 (bN (AV.ms fZ 2 0) (eu wz))),(0,.beq bz (bN (λn_=>((IN (((cP bK)).set dV (iM ba)) (dV*5+4) lM dj.length (dV*5+3) fZ n_ (dV*5+1) il iD.length))) (eu wz)))]) λc1 h=>be h λz20 GD h=>cI (aS h) zA [iC c1,(4,eQ.gT R3 (r:= (oH u5.aG)) fZ nZ 0 false 3 1 u5.ae GD (by kernel_rfl)),(0,.seq 23 (bN (AV.ms fZ 2 0) (eu GD))),(0,.beq bz (bN (λn_=>((IN (((cP bK)).set dV (iM ba)) (dV*5+4) lM dj.length (dV*5+3) fZ n_ (dV*5+1) il iD.length))) (eu GD)))]) λc0 h=>be h λz2 mn h=>ra (bq h) [aI c0,(0,bW.jv eD (r:= (iM ba)) bz lM 4 false 107 13 dj mn [.str ba.av,.undef,.int .i64 ba.aw,.undef,.slice 107 13 dj.length (aJ dj)] (by kernel_rfl)),(0,bW.jv eQ (r:= [.str ba.av,.undef,.int .i64 ba.aw,.undef,.slice 107 13 dj.length (aJ dj)]) bz fZ 3 false 121 2 dK mn [.str ba.av,.undef,.int .i64 ba.aw,.slice 121 2 dK.length (aR dK),.slice 107 13 dj.length (aJ dj)] (by kernel_rfl)),(0,bW.gT eJ (r:= [.str ba.av,.undef,.int .i64 ba.aw,.slice 121 2 dK.length (aR dK),.slice 107 13 dj.length (aJ dj)]) bz il 1 false 73 2 iD mn (by kernel_rfl)),(0,.seq 15 (bN (AV.ms bz 5 0) (eu mn))),(0,.beq 0 (bN (λn_=>(Bx.flat 184 [.int .i64 b0.bg.ax,.ms bz 5 0 n_,.int .i64 b0.fm.bh,.int .i64 b0.fm.aG,.int .i64 b0.fm.aN,.int .i64 b0.fm.eL,.str b0.fm.av,.int .i64 b0.fm.ay,.int .i64 b0.fm.aD.ay,.int .i64 b0.fm.aD.bZ,.str b0.fm.aD.bB,.slice 110 6 b0.fm.bf.length (cR b0.fm.bf),.str b0.fm.ar.av,.slice 73 2 b0.fm.ar.ae.length (bG b0.fm.ar.ae),.int .i64 b0.fm.ar.aw,.slice 121 2 b0.fm.ar.af.length (aR b0.fm.ar.af),.slice 107 13 b0.fm.ar.ak.length (aJ b0.fm.ar.ak)])) (eu mn)))]
def Fm (aO:JV):Nat->Int->Int->Int->Int->Int->aF->bn->aj->Nat->bO->cN->cB->Option (Bool×aF)
 |0=>λ_ _ _ _ _ _ _ _ _ _ _ _=>none
 |n+1=>RN aO (Fm aO n) n
def aqz {aO} (bq:TK aO):∀n:Nat,TJ (Fm aO n)
 |0=>λ_ _ _ _ _ _ _ _ _ _ _ _ _ h=>nz h
 |n+1=>aHw bq (aqz bq n) n
def RM (bt:JV) (n:Nat) (t16 t17:Int) (b0:aF) (bK:bn):Option (Bool×aF):=
 bt t16 (bl (t17+1)) (aF.mk (ag.mk b0.bg.ax bK) b0.fm) bK
def Lf:=K4 (HE [0,1,0,1]) ahd
def aHv {bt} (cM:Lf bt) (n:Nat):TK (RM bt n):=λt16 t17 b0 bK r h=>ra (cM h) []
def RL (kQ:ams) (back:JV) (n:Nat) (t16 t17:Int) (b0:aF) (bK:bn):Option (Bool×aF):=
 if decide (t17<t16) then
 (eW bK.length t17).bind λx3=>(bK[0+x3]?).bind λu6=>Fm (RM back n) n t17 t16 t17 (u6.af.length:Int) 0 (aF.mk (ag.mk b0.bg.ax bK) b0.fm) bK (aj.mk u6.av [] u6.aw [] []) (0+x3) u6.ak u6.ae u6.af
 else
 kQ (aF.mk (ag.mk b0.bg.ax bK) b0.fm) bK
def TH:=K2 (HE [1,1]) aAE
def aHu {kQ} (rJ:TH kQ) {back} (aS:Lf back) (n:Nat):Lf (RL kQ back n):=λt16 t17 b0 bK r h=>ie h (λc0 h=>be h λx3 eY h=>be h λu6 yR h=>ra (aqz (aHv aS n) n h) [aI c0,(1,dM eY),(0,bW.nE eJ bz il 1 false 73 2 u6.ae yR [.str u6.av,.undef,.int .i64 u6.aw,.slice 121 2 u6.af.length (aR u6.af),.slice 107 13 u6.ak.length (aJ u6.ak)] (by kernel_rfl) (by kernel_rfl)),(0,bW.uZ eQ (r:= [.str u6.av,.undef,.int .i64 u6.aw,.slice 121 2 u6.af.length (aR u6.af),.slice 107 13 u6.ak.length (aJ u6.ak)]) bz fZ 3 false 121 2 u6.af yR [.str u6.av,.undef,.int .i64 u6.aw,.undef,.slice 107 13 u6.ak.length (aJ u6.ak)] (by kernel_rfl) (by kernel_rfl)),(0,bW.uZ eD (r:= [.str u6.av,.undef,.int .i64 u6.aw,.undef,.slice 107 13 u6.ak.length (aJ u6.ak)]) bz lM 4 false 107 13 u6.ak yR (iM u6) (by kernel_rfl) (by kernel_rfl)),(0,bW.zi [4,3,1] (iM u6) yR)]) λc0 h=>ra (rJ h) [aI c0]
def B5 (kQ:ams):Nat->Int->Int->aF->bn->Option (Bool×aF)
 |0=>λ_ _ _ _=>none
 |n+1=>RL kQ (B5 kQ n) n
def aqy {kQ} (rJ:TH kQ):∀n:Nat,Lf (B5 kQ n)
 |0=>λ_ _ _ _ _ h=>nz h
 |n+1=>aHu rJ (aqy rJ n) n
def Kh (da:JV) (back:Int->Int->Int->Int->aF->aj->cN->bO->bn->aj->Nat->cB->Option (Bool×aF)) (n:Nat) (t74 t75 t81 t82:Int) (b0:aF) (b8:aj) (iD:cN) (dj:bO) (bK:bn) (ba:aj) (dV:Nat) (dK:cB):Option (Bool×aF):=
 if decide (t82<t81) then
 (eW dK.length t82).bind λx3=>(dK[0+x3]?).bind λu6=>if decide (b0.fm.aG<u6.aG) then
 (eW dK.length t82).bind λgg=>(setAt dK (0+x3) u6).bind λz29=>(z29[0+gg]?).bind λu30=>(setAt z29 (0+gg) (bk.mk u30.ae (bl (u6.aG - 1)))).bind λz32=>back t74 t75 t81 (bl (t82+1)) (aF.mk (ag.mk b0.bg.ax bK) b0.fm) (aj.mk b8.av iD b8.aw z32 dj) iD dj bK (aj.mk ba.av [] ba.aw [] []) dV z32
 else
 (setAt dK (0+x3) u6).bind λz21=>back t74 t75 t81 (bl (t82+1)) (aF.mk (ag.mk b0.bg.ax bK) b0.fm) (aj.mk b8.av iD b8.aw z21 dj) iD dj bK (aj.mk ba.av [] ba.aw [] []) dV z21
 else
 (setAt bK dV (aj.mk ba.av iD ba.aw dK dj)).bind λz2=>da t74 t75 (aF.mk (ag.mk b0.bg.ax z2) b0.fm) z2
def TF:=K4 (HE (cF 1943)) ahc
def TE:=K12 (HE (cF 22935)) aAG
def aHt {da} (fg:TF da) {back} (aS:TE back) (n:Nat):TE (Kh da back n):=λt74 t75 t81 t82 b0 b8 iD dj bK ba dV dK r h=>ie h (λc0 h=>be h λx3 eY h=>be h λu6 yR h=>let zA:SE:=[aI c0,(1,dM eY),(0,eQ.nE R3 fZ nZ 0 false 3 1 u6.ae yR (oH u6.aG) (by kernel_rfl) (by kernel_rfl)),(0,eQ.zi [0] (oH u6.aG) yR)];ie h (λc1 h=>be h λgg ll h=>be h λz29 alb h=>be h λu30 hu30 h=>be h λz32 ala h=>cI (aS h) zA [(10,eb c1),(6,dM ll),(1,eQ.gT R3 (r:= (oH u6.aG)) fZ nZ 0 false 3 1 u6.ae alb (by kernel_rfl)),(0,eQ.uF 1 [cm (bl (u6.aG - 1))] hu30 ala (by kernel_rfl)),(2,.seq 80 (bN (AV.ms fZ 2 0) (((nj ala).trans (nj alb)).symm))),(0,.beq 8 (bN (λn_=>((q9_ b8 il iD.length fZ n_ lM dj.length))) (((nj ala).trans (nj alb)).symm))),(0,.beq bz (bN (λn_=>((IN (((cP bK)).set dV (iM ba)) (dV*5+4) lM dj.length (dV*5+3) fZ n_ (dV*5+1) il iD.length))) (((nj ala).trans (nj alb)).symm)))]) λc1 h=>be h λz21 wA h=>cI (aS h) zA [(10,eb c1),(2,eQ.gT R3 (r:= (oH u6.aG)) fZ nZ 0 false 3 1 u6.ae wA (by kernel_rfl)),(0,.seq 80 (bN (AV.ms fZ 2 0) (eu wA))),(0,.beq 8 (bN (λn_=>((q9_ b8 il iD.length fZ n_ lM dj.length))) (eu wA))),(0,.beq bz (bN (λn_=>((IN (((cP bK)).set dV (iM ba)) (dV*5+4) lM dj.length (dV*5+3) fZ n_ (dV*5+1) il iD.length))) (eu wA)))]) λc0 h=>be h λz2 mn h=>ra (fg h) [aI c0,(0,bW.jv eD (r:= (iM ba)) bz lM 4 false 107 13 dj mn [.str ba.av,.undef,.int .i64 ba.aw,.undef,.slice 107 13 dj.length (aJ dj)] (by kernel_rfl)),(0,bW.jv eQ (r:= [.str ba.av,.undef,.int .i64 ba.aw,.undef,.slice 107 13 dj.length (aJ dj)]) bz fZ 3 false 121 2 dK mn [.str ba.av,.undef,.int .i64 ba.aw,.slice 121 2 dK.length (aR dK),.slice 107 13 dj.length (aJ dj)] (by kernel_rfl)),(0,bW.gT eJ (r:= [.str ba.av,.undef,.int .i64 ba.aw,.slice 121 2 dK.length (aR dK),.slice 107 13 dj.length (aJ dj)]) bz il 1 false 73 2 iD mn (by kernel_rfl)),(0,.seq 73 (bN (AV.ms bz 5 0) (eu mn))),(0,.beq 0 (bN (λn_=>(Bx.flat 184 [.int .i64 b0.bg.ax,.ms bz 5 0 n_,.int .i64 b0.fm.bh,.int .i64 b0.fm.aG,.int .i64 b0.fm.aN,.int .i64 b0.fm.eL,.str b0.fm.av,.int .i64 b0.fm.ay,.int .i64 b0.fm.aD.ay,.int .i64 b0.fm.aD.bZ,.str b0.fm.aD.bB,.slice 110 6 b0.fm.bf.length (cR b0.fm.bf),.str b0.fm.ar.av,.slice 73 2 b0.fm.ar.ae.length (bG b0.fm.ar.ae),.int .i64 b0.fm.ar.aw,.slice 121 2 b0.fm.ar.af.length (aR b0.fm.ar.af),.slice 107 13 b0.fm.ar.ak.length (aJ b0.fm.ar.ak)])) (eu mn)))]
def B4 (da:JV):Nat->Int->Int->Int->Int->aF->aj->cN->bO->bn->aj->Nat->cB->Option (Bool×aF)
 |0=>λ_ _ _ _ _ _ _ _ _ _ _ _=>none
 |n+1=>Kh da (B4 da n) n
def aqx {da} (fg:TF da):∀n:Nat,TE (B4 da n)
 |0=>λ_ _ _ _ _ _ _ _ _ _ _ _ _ h=>nz h
 |n+1=>aHt fg (aqx fg n) n
def RK (dZ:JV) (n:Nat) (t74 t75:Int) (b0:aF) (bK:bn):Option (Bool×aF):=
 dZ t74 (bl (t75+1)) (aF.mk (ag.mk b0.bg.ax bK) b0.fm) bK
def Le:=K4 (HE (cF 87)) ahc
def aHs {dZ} (gj:Le dZ) (n:Nat):TF (RK dZ n):=λt74 t75 b0 bK r h=>ra (gj h) []
def RJ (jR:ams) (back:JV) (n:Nat) (t74 t75:Int) (b0:aF) (bK:bn):Option (Bool×aF):=
 if decide (t75<t74) then
 (eW bK.length t75).bind λx2=>(bK[0+x2]?).bind λu5=>B4 (RK back n) n t74 t75 (u5.af.length:Int) 0 (aF.mk (ag.mk b0.bg.ax bK) b0.fm) u5 u5.ae u5.ak bK (aj.mk u5.av [] u5.aw [] []) (0+x2) u5.af
 else
 jR (aF.mk (ag.mk b0.bg.ax bK) b0.fm) bK
def TD:=K2 (HE [1,1,1,1]) aAF
def aHr {jR} (ql:TD jR) {back} (aS:Le back) (n:Nat):Le (RJ jR back n):=λt74 t75 b0 bK r h=>ie h (λc0 h=>be h λx2 cX h=>be h λu5 uM h=>ra (aqx (aHs aS n) n h) [aI c0,(0,dM cX),(0,bW.nE eJ bz il 1 false 73 2 u5.ae uM [.str u5.av,.undef,.int .i64 u5.aw,.slice 121 2 u5.af.length (aR u5.af),.slice 107 13 u5.ak.length (aJ u5.ak)] (by kernel_rfl) (by kernel_rfl)),(0,bW.uZ eQ (r:= [.str u5.av,.undef,.int .i64 u5.aw,.slice 121 2 u5.af.length (aR u5.af),.slice 107 13 u5.ak.length (aJ u5.ak)]) bz fZ 3 false 121 2 u5.af uM [.str u5.av,.undef,.int .i64 u5.aw,.undef,.slice 107 13 u5.ak.length (aJ u5.ak)] (by kernel_rfl) (by kernel_rfl)),(0,bW.uZ eD (r:= [.str u5.av,.undef,.int .i64 u5.aw,.undef,.slice 107 13 u5.ak.length (aJ u5.ak)]) bz lM 4 false 107 13 u5.ak uM (iM u5) (by kernel_rfl) (by kernel_rfl)),(0,bW.zi [4,3,1] (iM u5) uM)]) λc0 h=>ra (ql h) [aI c0]
def B3 (jR:ams):Nat->Int->Int->aF->bn->Option (Bool×aF)
 |0=>λ_ _ _ _=>none
 |n+1=>RJ jR (B3 jR n) n
def aqw {jR} (ql:TD jR):∀n:Nat,Le (B3 jR n)
 |0=>λ_ _ _ _ _ h=>nz h
 |n+1=>aHr ql (aqw ql n) n
def aeW (n:Nat) (b0:aF) (bK:bn):Option (Bool×aF):=
 some (true,(aF.mk (ag.mk b0.bg.ax bK) b0.fm))
def aHq (n:Nat):TD (aeW n):=λb0 bK r h=>rr h []
def RI (n:Nat) (b0:aF) (bK:bn):Option (Bool×aF):=
 (awh n bK b0.fm.aG (bl (b0.fm.aG+1))).bind λld=>B3 (aeW n) n (ld.2.length:Int) 0 (aF.mk (ag.mk b0.bg.ax ld.2) b0.fm) ld.2
def aHp (n:Nat):TH (RI n):=λb0 bK r h=>be h λld pj h=>ra (aqw (aHq n) n h) [(17,.call (aKo n pj) [(bz,0)] [])]
def aeV (n:Nat) (g0:aF):Option (Bool×aF):=
 B5 (RI n) n (g0.bg.ai.length:Int) 0 g0 g0.bg.ai
def aHo (n:Nat):K1 (HE []) mi (aeV n):=λg0 r h=>ra (aqy (aHp n) n h) []
def adP:=aeV
def aKy (n:Nat):K1 (Cx E0 154 pL pC) mi (adP n):=λ_ _ h=>ca (X:=x154) (aHo n h)
def Pf (r:bU):AV:=.ms cV 1 0 r.length
def ahL (r:bU):List (Nat×Bx):= [(cV,Gk r)]
def x201:=fx E0 Tryz.f201 []
def A201:=Ax x201 Pf ahL
def agL (s0:bU):LS:=⟨[(0,.slice 70 1 s0.length (oG s0))],[]⟩
def Q9 (n:Nat) (s0:bU):Option bU:=
 (aof s0).bind λx3=>(app [] s0).bind λx7=>some x7
def aFV (n:Nat):K1 (A201 []) agL (Q9 n):=λs0 r h=>be h λx3 eY h=>be h λx7 jK h=>rr h [(2,.seq 3 (bN (λq_=>(AV.slice 70 1 q_.length (oG q_))) (aoe eY))),(3,o9.app jK),(1,.jq 5 cV)]
def VO:=Q9
def aKk (n:Nat):K1 (Cx E0 201 Pf ahL) agL (VO n):=λ_ _ h=>ca (X:=x201) (aFV n h)
def Eh (r:bU):AV:=.cS []
def AJ (r:bU):List (Nat×Bx):= [(0,Gk r)]
def x228:=fx E0 Tryz.f228 [0]
def anX:=Ax x228 Eh AJ
def azB (a1 b2 i8 j9:Int) (b0:bU):LS:=⟨[(0,.ms 0 1 0 b0.length),(1,cm a1),(2,cm b2),(3,U3),(8,cm i8),(9,cm j9)],[(0,Gk b0)]⟩
def agG (a1 b2 i8:Int) (b0:bU):LS:=⟨[(0,.ms 0 1 0 b0.length),(1,cm a1),(2,cm b2),(3,U3),(8,cm i8)],[(0,Gk b0)]⟩
def agF (wG:bU) (a1 b2:Int):LS:=⟨[(0,.ms 0 1 0 wG.length),(1,cm a1),(2,cm b2),(3,U3)],[(0,Gk wG)]⟩
def FM (aO:amr) (back:Int->Int->Int->Int->bU->Option bU) (n:Nat) (a1 b2 i8 j9:Int) (b0:bU):Option bU:=
 if decide (a1<j9) then
 (eW b0.length j9).bind λx8=>(b0[0+x8]?).bind λdB=>(eW b0.length (bl (j9 - 1))).bind λfj=>(b0[0+fj]?).bind λiL=>(F67 n dB iL).bind λir=>if decide (ir<0) then
 (eW b0.length (bl (j9 - 1))).bind λwe=>(b0[0+we]?).bind λlW=>(eW b0.length j9).bind λyF=>(b0[0+yF]?).bind λrV=>(eW b0.length j9).bind λD5=>(b0[0+D5]?).bind λD3=>(setAt b0 (0+D5) lW).bind λte=>(eW b0.length (bl (j9 - 1))).bind λAY=>(te[0+AY]?).bind λx48=>(setAt te (0+AY) rV).bind λz49=>back a1 b2 i8 (bl (j9 - 1)) z49
 else
 aO a1 b2 i8 b0
 else
 aO a1 b2 i8 b0
def TB:=K4 (anX [1,1,0,0,1]) agG
def TA:=K5 (anX (cF 329)) azB
def aFG {aO} (bq:TB aO) {back} (aS:TA back) (n:Nat):TA (FM aO back n):=λa1 b2 i8 j9 b0 r h=>ie h (λc0 h=>be h λx8 oK h=>be h λdB kS h=>be h λfj mO h=>be h λiL kh h=>be h λir mN h=>let zA:SE:=[aZ c0,(4,dM oK),(0,o9.row kS),(3,dM mO),(0,o9.row kh),om (ave n mN)];ie h (λc1 h=>be h λwe Bt h=>be h λlW tu h=>be h λyF NP h=>be h λrV Bs h=>be h λD5 abK h=>be h λD3 NO h=>be h λte qk h=>be h λAY abI h=>be h λx48 auu h=>be h λz49 abF h=>cI (aS h) zA [aI c1,(9,dM Bt),(0,o9.row tu),(2,dM NP),(0,o9.row Bs),(0,dM abK),(0,o9.uF 0 [.slice 38 3 lW.length (fM lW)] NO qk (by kernel_rfl)),(0,dM abI),(0,o9.uF 0 [.slice 38 3 rV.length (fM rV)] auu abF (by kernel_rfl)),(3,.seq 0 (bN (AV.ms 0 1 0) (((nj abF).trans (nj qk)).symm)))]) λc1 h=>cI (bq h) zA [aI c1]) λc0 h=>ra (bq h) [aZ c0]
def E5 (aO:amr):Nat->Int->Int->Int->Int->bU->Option bU
 |0=>λ_ _ _ _ _=>none
 |n+1=>FM aO (E5 aO n) n
def apX {aO} (bq:TB aO):∀n:Nat,TA (E5 aO n)
 |0=>λ_ _ _ _ _ _ h=>nz h
 |n+1=>aFG bq (apX bq n) n
def wZ (bt:amr) (n:Nat) (a1 b2 i8:Int) (b0:bU):Option bU:=
 bt a1 b2 (bl (i8+1)) b0
def Ld:=K4 (anX [0,1]) agG
def aFF {bt} (cM:Ld bt) (n:Nat):TB (wZ bt n):=λa1 b2 i8 b0 r h=>ra (cM h) []
def FK (back:amr) (n:Nat) (a1 b2 i8:Int) (b0:bU):Option bU:=
 if decide (i8<b2) then
 E5 (wZ back n) n a1 b2 i8 i8 b0
 else
 some b0
def aFE {back} (aS:Ld back) (n:Nat):Ld (FK back n):=λa1 b2 i8 b0 r h=>ie h (λc0 h=>ra (apX (aFF aS n) n h) [aZ c0]) λc0 h=>rr h [aZ c0]
def si:Nat->Int->Int->Int->bU->Option bU
 |0=>λ_ _ _ _=>none
 |n+1=>FK (si n) n
def apW:∀n:Nat,Ld (si n)
 |0=>λ_ _ _ _ _ h=>nz h
 |n+1=>aFE (apW n) n
def Q1 (n:Nat) (wG:bU) (a1 b2:Int):Option bU:=
 si n a1 b2 (bl (a1+1)) wG
def aFD (n:Nat):K3 (anX []) agF (Q1 n):=λwG a1 b2 r h=>ra (apW n h) []
def Oh:=Q1
def aKc (n:Nat):K3 (Cx E0 228 Eh AJ) agF (Oh n):=λ_ _ _ _ h=>ca (X:=x228) (aFD n h)
def x221:=fx E0 Tryz.f221 [0]
def A221:=Ax x221 Eh AJ
def azC (a1 b2 yO:Int) (zg vm:Bool) (b0:bU):LS:=⟨[(0,.ms 0 1 0 b0.length),(1,cm a1),(2,cm b2),(3,cm yO),(4,U3),(10,.bool zg),(11,.bool vm)],[(0,Gk b0)]⟩
def agH (wG:bU) (a1 b2 yO:Int):LS:=⟨[(0,.ms 0 1 0 wG.length),(1,cm a1),(2,cm b2),(3,cm yO),(4,U3)],[(0,Gk wG)]⟩
def FN (back:Int->Int->Int->Bool->Bool->bU->Option bU) (n:Nat) (a1 b2 yO:Int) (zg vm:Bool) (b0:bU):Option bU:=
 if !decide (12<(bl (b2 - a1))) then
 (Oh n b0 a1 b2).bind λdy=>(lL dy.length b0.length).bind λw12=>some dy
 else
 none
def Tz:=K6 (A221 [0,1,1]) azC
def aFI {back} (aS:Tz back) (n:Nat):Tz (FN back n):=λa1 b2 yO zg vm b0 r h=>ie h (λc0 h=>be h λdy ga h=>be h λw12 hw12 h=>rr h [cg c0,(4,.call (aKc n ga) [(0,0)] [])]) λc0 h=>nz h
def J1:Nat->Int->Int->Int->Bool->Bool->bU->Option bU
 |0=>λ_ _ _ _ _ _=>none
 |n+1=>FN (J1 n) n
def apY:∀n:Nat,Tz (J1 n)
 |0=>λ_ _ _ _ _ _ _ h=>nz h
 |n+1=>aFI (apY n) n
def asC (n:Nat) (wG:bU) (a1 b2 yO:Int):Option bU:=
 J1 n a1 b2 yO true true wG
def aFH (n:Nat):K4 (A221 []) agH (asC n):=λwG a1 b2 yO r h=>ra (apY n h) []
def VM:=asC
def aKd (n:Nat):K4 (Cx E0 221 Eh AJ) agH (VM n):=λ_ _ _ _ _ h=>ca (X:=x221) (aFH n h)
def x202:=fx E0 Tryz.f202 [0]
def A202:=Ax x202 Eh AJ
def agK (x0:bU):LS:=⟨[(0,.ms 0 1 0 x0.length),(1,U3)],[(0,Gk x0)]⟩
def Q8 (n:Nat) (x0:bU):Option bU:=
 (VQ n (IntKind.wrap .u64 ((x0.length:Int)))).bind λx8=>(VM n x0 0 (x0.length:Int) x8).bind λdy=>(lL dy.length x0.length).bind λw12=>some dy
def aFU (n:Nat):K1 (A202 []) agK (Q8 n):=λx0 r h=>be h λx8 oK h=>be h λdy ga h=>be h λw12 hw12 h=>rr h [yr (aKm n oK),(1,.call (aKd n ga) [(0,0)] [])]
def VN:=Q8
def aKj (n:Nat):K1 (Cx E0 202 Eh AJ) agK (VN n):=λ_ _ h=>ca (X:=x202) (aFU n h)
def ahM (r:bU):List (Nat×Bx):= [(cV,xN r)]
def x186:=fx E0 Tryz.f186 []
def awt:=Ax x186 Pf ahM
def azS (t12 t13:Int) (b8 C3:bU):LS:=⟨[(3,.ms 8 1 0 b8.length),(4,.ms 35 1 0 C3.length),(11,.ms 8 1 0 b8.length),(12,cm t12),(13,cm t13)],[(8,Gk b8),(35,xN C3)]⟩
def azR (C3:bU):LS:=⟨[(4,.ms 35 1 0 C3.length)],[(35,xN C3)]⟩
def agP (Pc:bU):LS:=⟨[(0,.slice 70 1 Pc.length (oG Pc))],[]⟩
def sj (aO:bU->Option bU) (back:Int->Int->bU->bU->Option bU) (n:Nat) (t12 t13:Int) (b8 C3:bU):Option bU:=
 if decide (t13<t12) then
 (eW b8.length t13).bind λx3=>(b8[0+x3]?).bind λx5=>if t13==0 then
 (app [] x5).bind λeO=>(app C3 [eO]).bind λir=>back t12 (bl (t13+1)) b8 ir
 else
 (eW b8.length (bl (t13 - 1))).bind λfj=>(b8[0+fj]?).bind λiL=>(F67 n iL x5).bind λjQ=>if jQ !=0 then
 (app [] x5).bind λD6=>(app C3 [D6]).bind λsL=>back t12 (bl (t13+1)) b8 sL
 else
 back t12 (bl (t13+1)) b8 C3
 else
 aO C3
def Ty:=K1 (awt [1,1,1,1,1]) azR
def Tx:=K4 (awt (cF 175)) azS
def aGl {aO} (bq:Ty aO) {back} (aS:Tx back) (n:Nat):Tx (sj aO back n):=λt12 t13 b8 C3 r h=>ie h (λc0 h=>be h λx3 eY h=>be h λx5 kR h=>let zA:SE:=[aI c0,(1,dM eY),(0,o9.row kR)];ie h (λc1 h=>be h λeO ic h=>be h λir mN h=>cI (aS h) zA [bj c1,(5,p8.app ic),(0,p8.fX 31 eO),(1,o9.kF mN)]) λc1 h=>be h λfj mO h=>be h λiL kh h=>be h λjQ j3 h=>let zB:SE:=dJ zA [bj c1,(4,dM mO),(0,o9.row kh),yu (ave n j3)];ie h (λc2 h=>be h λD6 abM h=>be h λsL Bu h=>cI (aS h) zB [aI c2,(4,p8.app abM),(0,p8.fX 31 D6),(1,o9.kF Bu)]) λc2 h=>cI (aS h) zB [aI c2]) λc0 h=>ra (bq h) [aI c0]
def wW (aO:bU->Option bU):Nat->Int->Int->bU->bU->Option bU
 |0=>λ_ _ _ _=>none
 |n+1=>sj aO (wW aO n) n
def aqf {aO} (bq:Ty aO):∀n:Nat,Tx (wW aO n)
 |0=>λ_ _ _ _ _ h=>nz h
 |n+1=>aGl bq (aqf bq n) n
def oW (n:Nat) (C3:bU):Option bU:=
 some C3
def aGk (n:Nat):Ty (oW n):=λC3 r h=>rr h [(2,.jq 35 cV)]
def Rf (n:Nat) (Pc:bU):Option bU:=
 (VO n Pc).bind λx3=>(VN n x3).bind λx7=>(lL x7.length x3.length).bind λw8=>wW (oW n) n (x3.length:Int) 0 x7 []
def aGj (n:Nat):K1 (awt []) agP (Rf n):=λPc r h=>be h λx3 eY h=>be h λx7 jK h=>be h λw8 hw8 h=>ra (aqf (aGk n) n h) [(2,.call (aKk n eY) [] [(8,cV)]),(2,.call (aKj n jK) [(8,0)] []),(4,.born [4] [] 35 true 70 1),(0,.seq 3 (bN (AV.ms 8 1 0) ((xK hw8).symm))),(0,.seq 11 (bN (AV.ms 8 1 0) ((xK hw8).symm)))]
def Oj:=Rf
def ayn (n:Nat):K1 (Cx E0 186 Pf ahM) agP (Oj n):=λ_ _ h=>ca (X:=x186) (aGj n h)
def x155:=fx E0 Tryz.f155 []
def afG:=Ax x155 dv bQ
def aAD (g0:aF) (t3:aj) (c4:Int) (t47:gu) (t48 t49:Int) (uV uU:bU):LS:=⟨[(0,.jx (BN g0)),(3,.jx (im t3)),(4,.int .i64 c4),(5,.ms 70 1 0 uV.length),(6,.ms 76 1 0 uU.length),(47,.slice 110 6 t47.length (cR t47)),(48,.int .i64 t48),(49,.int .i64 t49)],[(70,xN uV),(76,xN uU)]⟩
def aAC (t99 t100:Int) (b79 b81:bU):LS:=⟨[(5,.ms 79 1 0 b79.length),(6,.ms 81 1 0 b81.length),(99,cm t99),(100,cm t100)],[(79,xN b79),(81,xN b81)]⟩
def aAB:LS:=⟨[],[]⟩
def aAA (g0:aF) (uV uU:bU):LS:=⟨[(0,.jx (BN g0)),(5,.ms 70 1 0 uV.length),(6,.ms 76 1 0 uU.length)],[(70,xN uV),(76,xN uU)]⟩
def RH (bC:aF->bU->bU->Option Bool) (back:aF->aj->Int->gu->Int->Int->bU->bU->Option Bool) (n:Nat) (g0:aF) (t3:aj) (c4:Int) (t47:gu) (t48 t49:Int) (uV uU:bU):Option Bool:=
 if decide (t49<t48) then
 (idx t47 t49).bind λx2=>(idx t3.ae c4).bind λiu=>(VT n x2.f0 iu.ay).bind λld=>if !ld then
 some false
 else
 (app uV [[x2.f0]]).bind λsM=>(app uU [[x2.f1]]).bind λx34=>back g0 t3 c4 t47 t48 (bl (t49+1)) sM x34
 else
 bC g0 uV uU
def Tw:=K3 (afG [1,1,1,1,1]) aAA
def Tv:=K8 (afG (cF 175)) aAD
def aHn {bC} (cU:Tw bC) {back} (aS:Tv back) (n:Nat):Tv (RH bC back n):=λg0 t3 c4 t47 t48 t49 uV uU r h=>ie h (λc0 h=>be h λx2 cX h=>be h λiu j4 h=>be h λld pj h=>let zA:SE:=[aI c0,(0,DI.idx cX),(10,eJ.idx j4),iW (aly n pj)];ie h (λc1 h=>bD h zA [aI c1]) λc1 h=>be h λsM xU h=>be h λx34 auy h=>cI (aS h) zA [aI c1,(4,p8.fX 68 [x2.f0]),(1,o9.kF xU),(5,p8.fX 74 [x2.f1]),(1,o9.kF auy)]) λc0 h=>ra (cU h) [aI c0]
def Fl (bC:aF->bU->bU->Option Bool):Nat->aF->aj->Int->gu->Int->Int->bU->bU->Option Bool
 |0=>λ_ _ _ _ _ _ _ _=>none
 |n+1=>RH bC (Fl bC n) n
def aqv {bC} (cU:Tw bC):∀n:Nat,Tv (Fl bC n)
 |0=>λ_ _ _ _ _ _ _ _ _ h=>nz h
 |n+1=>aHn cU (aqv cU n) n
def sm (bt:Option Bool) (back:Int->Int->bU->bU->Option Bool) (n:Nat) (t99 t100:Int) (b79 b81:bU):Option Bool:=
 if decide (t100<t99) then
 (eW b79.length t100).bind λx6=>(b79[0+x6]?).bind λx8=>(idx x8 0).bind λdB=>(eW b81.length t100).bind λfj=>(b81[0+fj]?).bind λiL=>(idx iL 0).bind λir=>if !((dB.ay==ir.ay) && ((dB.bZ==ir.bZ) && ((decide (dB.bB=ir.bB)) && true))) then
 some false
 else
 back t99 (bl (t100+1)) b79 b81
 else
 bt
def Tu:=K0 (afG (cF 511)) aAB
def Tt:=K4 (afG (cF 1407)) aAC
def aHm {bt} (cM:Tu bt) {back} (aS:Tt back) (n:Nat):Tt (sm bt back n):=λt99 t100 b79 b81 r h=>ie h (λc0 h=>be h λx6 lD h=>be h λx8 oK h=>be h λdB kS h=>be h λfj mO h=>be h λiL kh h=>be h λir mN h=>let zA:SE:=[aI c0,(4,dM lD),(0,o9.row oK),(0,p8.idx kS),(3,dM mO),(0,o9.row kh),(0,p8.idx mN)];ie h (λc1 h=>bD h zA [bb c1]) λc1 h=>cI (aS h) zA [bb c1]) λc0 h=>ra (cM h) [aI c0]
def uY (bt:Option Bool):Nat->Int->Int->bU->bU->Option Bool
 |0=>λ_ _ _ _=>none
 |n+1=>sm bt (uY bt n) n
def aqu {bt} (cM:Tu bt):∀n:Nat,Tt (uY bt n)
 |0=>λ_ _ _ _ _ h=>nz h
 |n+1=>aHm cM (aqu cM n) n
def od (n:Nat):Option Bool:=
 some true
def aHl (n:Nat):Tu (od n):=λr h=>rr h []
def Kg (n:Nat) (g0:aF) (uV uU:bU):Option Bool:=
 (Oj n uV).bind λx2=>(Oj n uU).bind λx5=>if (x2.length:Int) !=(g0.fm.bf.length:Int) then
 some false
 else
 if (x5.length:Int) !=(x2.length:Int) then
 some false
 else
 uY (od n) n (x2.length:Int) 0 x2 x5
def aHk (n:Nat):Tw (Kg n):=λg0 uV uU r h=>be h λx2 cX h=>be h λx5 kR h=>let zA:SE:=[(1,o9.fX 70 uV),(0,.call (ayn n cX) [] [(79,cV)]),(1,o9.fX 76 uU),(0,.call (ayn n kR) [] [(81,cV)])];ie h (λc0 h=>bD h zA [(10,eb c0)]) λc0 h=>ie h (λc1 h=>bD h zA [(10,eb c0),cg c1]) λc1 h=>cI (aqu (aHl n) n h) zA [(10,eb c0),cg c1]
def aeU (n:Nat) (g0:aF):Option Bool:=
 (MD n g0).bind λx3=>(Ol n g0 g0.fm.aN).bind λiu=>if !iu then
 some false
 else
 (adH n g0).bind λir=>if ir then
 some false
 else
 if decide ((g0.fm.bf.length:Int)<1) then
 some false
 else
 if decide (16<(g0.fm.bf.length:Int)) then
 some false
 else
 Fl (Kg n) n g0 x3 g0.fm.aN g0.fm.bf (g0.fm.bf.length:Int) 0 [] []
def aHj (n:Nat):K1 (afG []) xF (aeU n):=λg0 r h=>be h λx3 eY h=>be h λiu j4 h=>let zA:SE:=[(1,.ord [0,2,3,4,5,6,1,7,8]),LJ (Qd n eY),mY (XI n j4)];ie h (λc0 h=>bD h zA [aI c0]) λc0 h=>be h λir mN h=>let zB:SE:=dJ zA [aI c0,iW (ayq n mN)];ie h (λc1 bI=>by subst c1;exact (rr bI zB)) λc1 bI=>by subst c1;exact (ie bI (λc2 bI=>bD bI zB [iC c2]) λc2 bI=>ie bI (λc3 bI=>bD bI zB [iC c2,iC c3]) λc3 bI=>cI (aqv (aHk n) n bI) zB [iC c2,iC c3,(10,.born [5] [] 70 true 70 1),(0,.born [6] [] 76 true 70 1)])
def adO:=aeU
def aKx (n:Nat):K1 (Cx E0 155 dv bQ) xF (adO n):=λ_ _ h=>ca (X:=x155) (aHj n h)
def awP (r:(List Nat)):AV:=.ms cV 1 0 r.length
def apu (r:(List Nat)):List (Nat×Bx):= [(cV,.rows false 185 1 (Lq r))]
def x97:=fx E0 Tryz.f97 []
def A97:=Ax x97 awP apu
def aop:LS:=⟨[],[]⟩
def azm (n:Nat):Option (List Nat):=
 some [148,149,150,151,152,153,154,155]
def aKY (n:Nat):K0 (A97 []) aop (azm n):=λr h=>rr h [(3,.jq 1 cV)]
def F97:=azm
def ev97 (n:Nat):K0 (Cx E0 97 awP apu) aop (F97 n):=λ_ h=>ca (X:=x97) (aKY n h)
def x98:=fx E0 Tryz.f98 []
def A98:=Ax x98 dv bQ
def aDs (GY:Bool) (b1:aE):LS:=⟨[(1,.loc 1 0),(5,.bool GY)],[(1,uw (mz b1))]⟩
def aDr (b1:aE):LS:=⟨[(1,.loc 1 0)],[(1,uw (mz b1))]⟩
def Hy (n:Nat) (GY:Bool) (b1:aE):Option Bool:=
 if b1.aG==0 then
 if b1.aN==0 then
 if b1.eL==0 then
 if decide (b1.av=ByteArray.empty) then
 if b1.ay==0 then
 if ((b1.aD.ay==0) && ((b1.aD.bZ==0) && ((decide (b1.aD.bB=ByteArray.empty)) && true))) then
 if (b1.bf.length:Int)==0 then
 some (!GY)
 else
 some false
 else
 some false
 else
 some false
 else
 some false
 else
 some false
 else
 some false
 else
 some false
def Qt (n:Nat):K2 (A98 (cF 127)) aDs (Hy n):=λGY b1 r h=>ie h (λc0 h=>ie h (λc1 h=>let zA:SE:=[aZ c0,bj c1];ie h (λc2 h=>let zB:SE:=dJ zA [bu c2];ie h (λc3 h=>let zC:SE:=dJ zB [bu c3];ie h (λc4 h=>ie h (λc5 h=>ie h (λc6 h=>bD h zC [bu c4,cg c5,cg c6]) λc6 h=>bD h zC [bu c4,cg c5,cg c6]) λc5 h=>bD h zC [bu c4,cg c5]) λc4 h=>bD h zC [bu c4]) λc3 h=>bD h zB [bu c3]) λc2 h=>bD h zA [bu c2]) λc1 h=>rr h [aZ c0,bj c1]) λc0 h=>rr h [aZ c0]
def wY (n:Nat) (b1:aE):Option Bool:=
 if !decide (b1.ar.av=ByteArray.empty) then
 Hy n true b1
 else
 if decide (0<(b1.ar.ae.length:Int)) then
 Hy n true b1
 else
 if b1.ar.aw !=0 then
 Hy n true b1
 else
 if decide (0<(b1.ar.af.length:Int)) then
 Hy n true b1
 else
 Hy n (decide (0<(b1.ar.ak.length:Int))) b1
def C1 (n:Nat):K1 (A98 [1,1,1,1]) aDr (wY n):=λb1 r h=>ie h (λc0 h=>ra (Qt n h) [dP c0]) λc0 h=>ie h (λc1 h=>ra (Qt n h) [dP c0,bu c1]) λc1 h=>let zA:SE:=[dP c0,bu c1];ie h (λc2 h=>cI (Qt n h) zA [bu c2]) λc2 h=>ie h (λc3 h=>cI (Qt n h) zA [bu c2,cg c3]) λc3 h=>cI (Qt n h) zA [bu c2,cg c3]
def ank (n:Nat) (m0:aE):Option Bool:=
 if m0.bh==1 then
 wY n (aE.mk m0.bh 0 m0.aN m0.eL ByteArray.empty 0 (aP.mk 0 0 ByteArray.empty) m0.bf m0.ar)
 else
 if m0.bh==2 then
 wY n (aE.mk m0.bh 0 0 m0.eL m0.av m0.ay (aP.mk 0 0 ByteArray.empty) m0.bf m0.ar)
 else
 if m0.bh==3 then
 wY n (aE.mk m0.bh 0 0 0 m0.av m0.ay m0.aD m0.bf m0.ar)
 else
 if m0.bh==4 then
 wY n (aE.mk m0.bh 0 0 m0.eL ByteArray.empty m0.ay m0.aD m0.bf m0.ar)
 else
 if m0.bh==5 then
 wY n (aE.mk m0.bh 0 m0.aN m0.eL ByteArray.empty m0.ay m0.aD m0.bf m0.ar)
 else
 if m0.bh==6 then
 wY n (aE.mk m0.bh m0.aG m0.aN m0.eL m0.av m0.ay m0.aD m0.bf (aj.mk ByteArray.empty [] 0 [] []))
 else
 if m0.bh==8 then
 wY n (aE.mk m0.bh 0 0 m0.eL m0.av m0.ay m0.aD [] m0.ar)
 else
 wY n (aE.mk m0.bh 0 m0.aN m0.eL m0.av m0.ay m0.aD m0.bf m0.ar)
def aKX (n:Nat):K1 (A98 []) KU (ank n):=λm0 r h=>ie h (λc0 h=>ra (C1 n h) [alK c0]) λc0 h=>ie h (λc1 h=>ra (C1 n h) [alK c0,bb c1]) λc1 h=>let zA:SE:=[alK c0,bb c1];ie h (λc2 h=>cI (C1 n h) zA [bb c2]) λc2 h=>let zB:SE:=dJ zA [bb c2];ie h (λc3 h=>cI (C1 n h) zB [bb c3]) λc3 h=>let zC:SE:=dJ zB [bb c3];ie h (λc4 h=>cI (C1 n h) zC [bb c4]) λc4 h=>ie h (λc5 h=>cI (C1 n h) zC [bb c4,bb c5]) λc5 h=>ie h (λc6 h=>cI (C1 n h) zC [bb c4,bb c5,bb c6]) λc6 h=>cI (C1 n h) zC [bb c4,bb c5,bb c6]
def F98:=ank
def ev98 (n:Nat):K1 (Cx E0 98 dv bQ) KU (F98 n):=λ_ _ h=>ca (X:=x98) (aKX n h)
def D4:=fx E0 Tryz.f42 []
def A42:=Ax D4 Xs bQ
def aEp (t65:Bool) (b4:ag) (tG:aF) (E2:bn):LS:=⟨[(4,.loc 4 0),(8,.loc 49 0),(65,.bool t65)],[(4,.flat 25 [.int .i64 0,.dE]),(49,.flat 184 [.int .i64 tG.bg.ax,.ms 330460001 5 0 E2.length,.int .i64 tG.fm.bh,.int .i64 tG.fm.aG,.int .i64 tG.fm.aN,.int .i64 tG.fm.eL,.str tG.fm.av,.int .i64 tG.fm.ay,.int .i64 tG.fm.aD.ay,.int .i64 tG.fm.aD.bZ,.str tG.fm.aD.bB,.slice 110 6 tG.fm.bf.length (cR tG.fm.bf),.str tG.fm.ar.av,.slice 73 2 tG.fm.ar.ae.length (bG tG.fm.ar.ae),.int .i64 tG.fm.ar.aw,.slice 121 2 tG.fm.ar.af.length (aR tG.fm.ar.af),.slice 107 13 tG.fm.ar.ak.length (aJ tG.fm.ar.ak)]),(330460001,.tree 44 5 jd (cP E2) [])]⟩
def aEo (i7:Int) (b2:ag) (b3:aE) (b4:ag) (b9:List Nat):LS:=⟨[(2,.loc 2 0),(3,.loc 3 0),(4,.loc 4 0),(6,.ms 9 1 0 b9.length),(7,cm i7)],[(2,iE (dD b2)),(3,uw (mz b3)),(4,akw),(9,.rows false 185 1 (Lq b9))]⟩
def Az (n:Nat) (t65:Bool) (b4:ag) (tG:aF) (E2:bn):Option (ag×Bool):=
 if t65 then
 some ((ag.mk 0 []),false)
 else
 some ((ag.mk tG.bg.ax E2),true)
def C2 (n:Nat):K4 (A42 (cF 895)) aEp (Az n):=λt65 b4 tG E2 r h=>ie h (λc0 bI=>by subst c0;exact (rr bI [(3,.pZ 4 (.flat 0 [.bool true,.sl 0 44 5 0 []]))])) λc0 bI=>by subst c0;exact (rr bI [(6,bW.tfr false 330460001 E2)])
def vk (n:Nat) (i7:Int) (b2:ag) (b3:aE) (b4:ag) (b9:List Nat):Option (ag×Bool):=
 (F41 n b2).bind λx2=>(eW b9.length i7).bind λjQ=>(b9[0+jQ]?).bind λni=>if ni==148 then
 (adV n (aF.mk (ag.mk (bl (x2.ax+1)) x2.ai) b3)).bind λgg=>Az n (!gg.1) (ag.mk 0 []) gg.2 gg.2.bg.ai
 else
 if ni==149 then
 (adU n (aF.mk (ag.mk (bl (x2.ax+1)) x2.ai) b3)).bind λgg=>Az n (!gg.1) (ag.mk 0 []) gg.2 gg.2.bg.ai
 else
 if ni==150 then
 (adT n (aF.mk (ag.mk (bl (x2.ax+1)) x2.ai) b3)).bind λgg=>Az n (!gg.1) (ag.mk 0 []) gg.2 gg.2.bg.ai
 else
 if ni==151 then
 (adS n (aF.mk (ag.mk (bl (x2.ax+1)) x2.ai) b3)).bind λgg=>Az n (!gg.1) (ag.mk 0 []) gg.2 gg.2.bg.ai
 else
 if ni==152 then
 (adR n (aF.mk (ag.mk (bl (x2.ax+1)) x2.ai) b3)).bind λgg=>Az n (!gg.1) (ag.mk 0 []) gg.2 gg.2.bg.ai
 else
 if ni==153 then
 (adQ n (aF.mk (ag.mk (bl (x2.ax+1)) x2.ai) b3)).bind λgg=>Az n (!gg.1) (ag.mk 0 []) gg.2 gg.2.bg.ai
 else
 if ni==154 then
 (adP n (aF.mk (ag.mk (bl (x2.ax+1)) x2.ai) b3)).bind λgg=>Az n (!gg.1) (ag.mk 0 []) gg.2 gg.2.bg.ai
 else
 if ni==155 then
 (adO n (aF.mk (ag.mk (bl (x2.ax+1)) x2.ai) b3)).bind λgg=>Az n (!gg) (ag.mk 0 []) (aF.mk (ag.mk (bl (x2.ax+1)) x2.ai) b3) x2.ai
 else
 none
def aza (n:Nat):K5 (A42 [1,1,1,1,1]) aEo (vk n):=λi7 b2 b3 b4 b9 r h=>be h λx2 cX h=>be h λjQ j3 h=>be h λni ph h=>ie h (λc0 bI=>by have c0:=eq_of_beq c0;subst c0;exact (
 be bI λgg ll bI=>ra (C2 n bI) [(0,.ord [0,2,1,3,4,5]),(2,.call (GR n cX) [] [(330460001,201001)]),(15,dM j3),(0,JZ.row ph),(1,.call (aKE n ll) [(49,0),(330460001,8589934592)] [])])) λc0 h=>ie h (λc1 bI=>by have c1:=eq_of_beq c1;subst c1;exact (
 be bI λgg ll bI=>ra (C2 n bI) [(0,.ord [0,2,1,3,4,5]),(2,.call (GR n cX) [] [(330460001,201001)]),(15,dM j3),(0,JZ.row ph),(1,.call (aKD n ll) [(49,0),(330460001,8589934592)] [])])) λc1 h=>ie h (λc2 bI=>by have c2:=eq_of_beq c2;subst c2;exact (
 be bI λgg ll bI=>ra (C2 n bI) [(0,.ord [0,2,1,3,4,5]),(2,.call (GR n cX) [] [(330460001,201001)]),(15,dM j3),(0,JZ.row ph),(1,.call (aKC n ll) [(49,0),(330460001,8589934592)] [])])) λc2 h=>ie h (λc3 bI=>by have c3:=eq_of_beq c3;subst c3;exact (
 be bI λgg ll bI=>ra (C2 n bI) [(0,.ord [0,2,1,3,4,5]),(2,.call (GR n cX) [] [(330460001,201001)]),(15,dM j3),(0,JZ.row ph),(1,.call (aKB n ll) [(49,0),(330460001,8589934592)] [])])) λc3 h=>ie h (λc4 bI=>by have c4:=eq_of_beq c4;subst c4;exact (
 be bI λgg ll bI=>ra (C2 n bI) [(0,.ord [0,2,1,3,4,5]),(2,.call (GR n cX) [] [(330460001,201001)]),(15,dM j3),(0,JZ.row ph),(1,.call (aKA n ll) [(49,0),(330460001,8589934592)] [])])) λc4 h=>ie h (λc5 bI=>by have c5:=eq_of_beq c5;subst c5;exact (
 be bI λgg ll bI=>ra (C2 n bI) [(0,.ord [0,2,1,3,4,5]),(2,.call (GR n cX) [] [(330460001,201001)]),(15,dM j3),(0,JZ.row ph),(1,.call (aKz n ll) [(49,0),(330460001,4294967296)] [])])) λc5 h=>ie h (λc6 bI=>by have c6:=eq_of_beq c6;subst c6;exact (
 be bI λgg ll bI=>ra (C2 n bI) [(0,.ord [0,2,1,3,4,5]),(2,.call (GR n cX) [] [(330460001,201001)]),(15,dM j3),(0,JZ.row ph),(1,.call (aKy n ll) [(49,0),(330460001,8589934592)] [])])) λc6 h=>ie h (λc7 bI=>by have c7:=eq_of_beq c7;subst c7;exact (
 be bI λgg ll bI=>ra (C2 n bI) [(0,.ord [0,2,1,3,4,5]),(2,.call (GR n cX) [] [(330460001,201001)]),(15,dM j3),(0,JZ.row ph),(1,.Aq (aKx n ll) [bW.tfr false 330460001 x2.ai,.fX 49 (Q:= []) (n:=0) rfl] trivial [] [])])) λc7 h=>nz h
def anJ (n:Nat) (s0:ag) (m1:aE):Option (ag×Bool):=
 (F97 n).bind λx5=>if decide (m1.bh<1) then
 some ((ag.mk 0 []),false)
 else
 if !decide ((bl (m1.bh - 1))<(x5.length:Int)) then
 some ((ag.mk 0 []),false)
 else
 (F98 n m1).bind λiK=>if !iK then
 some ((ag.mk 0 []),false)
 else
 if m1.bh !=6 then
 if decide (m1.aG<0) then
 some ((ag.mk 0 []),false)
 else
 if !decide (m1.aG<(s0.ai.length:Int)) then
 some ((ag.mk 0 []),false)
 else
 vk n (bl (m1.bh - 1)) s0 m1 (ag.mk 0 []) x5
 else
 vk n (bl (m1.bh - 1)) s0 m1 (ag.mk 0 []) x5
def aMq (n:Nat):K2 (A42 []) KJ (anJ n):=λs0 m1 r h=>be h λx5 kR h=>let zA:SE:=[(4,.call (ev97 n kR) [] [(9,cV)])];ie h (λc0 h=>bD h zA [jU c0,(7,.pZ 4 (.flat 0 [.bool true,.sl 0 44 5 0 []]))]) λc0 h=>let zB:SE:=dJ zA [jU c0];ie h (λc1 h=>bD h zB [bu c1,(6,.pZ 4 (.flat 0 [.bool true,.sl 0 44 5 0 []]))]) λc1 h=>be h λiK tv h=>let zC:SE:=dJ zB [bu c1,kH (ev98 n tv)];ie h (λc2 h=>bD h zC [aI c2,(4,.pZ 4 (.flat 0 [.bool true,.sl 0 44 5 0 []]))]) λc2 h=>let zD:SE:=dJ zC [aI c2];ie h (λc3 h=>ie h (λc4 h=>bD h zD [bj c3,bj c4,(6,.pZ 4 (.flat 0 [.bool true,.sl 0 44 5 0 []]))]) λc4 h=>ie h (λc5 h=>bD h zD [bj c3,bj c4,dP c5,(5,.pZ 4 (.flat 0 [.bool true,.sl 0 44 5 0 []]))]) λc5 h=>cI (aza n h) zD [bj c3,bj c4,dP c5]) λc3 h=>cI (aza n h) zD [bj c3]
def F42:=anJ
def ev42 (n:Nat):K2 (Cx E0 42 Xs bQ) KJ (F42 n):=λ_ _ _ h=>ca (X:=D4) (aMq n h)
def iu:=fx E0 Tryz.f14 []
def A14:=Ax iu Xu Pw
def aEM (t31:cJ) (t32 t33:Int) (BU:fL):LS:=⟨[(7,.ms 30 2 0 BU.length),(31,.qp 46 15 t31.length (lY t31)),(32,.int .i64 t32),(33,.int .i64 t33)],[(30,Ds BU)]⟩
def aEL (BU:fL):LS:=⟨[(7,.ms 30 2 0 BU.length)],[(30,Ds BU)]⟩
def aoP (gM:ag) (cr:cJ):LS:=⟨[(0,.agg (dD gM)),(1,.qp 46 15 cr.length (lY cr))],[]⟩
def YO (aO:fL->Option (fL×Int)) (back:cJ->Int->Int->fL->Option (fL×Int)) (n:Nat) (t31:cJ) (t32 t33:Int) (BU:fL):Option (fL×Int):=
 if decide (t33<t32) then
 (idx t31 t33).bind λx2=>(eW BU.length (bl ((BU.length:Int) - 1))).bind λdy=>(BU[0+dy]?).bind λdY=>(F42 n dY x2).bind λeO=>if !eO.2 then
 some ([],280)
 else
 (F15 n eO.1).bind λnD=>if nD !=0 then
 some ([],280)
 else
 (app BU [eO.1]).bind λx35=>back t31 t32 (bl (t33+1)) x35
 else
 aO BU
def Tq:=K1 (A14 [1,1,1,1,1]) aEL
def Tp:=K4 (A14 (cF 175)) aEM
def aNd {aO} (bq:Tq aO) {back} (aS:Tp back) (n:Nat):Tp (YO aO back n):=λt31 t32 t33 BU r h=>ie h (λc0 h=>be h λx2 cX h=>be h λdy ga h=>be h λdY iq h=>be h λeO ic h=>let zA:SE:=[aI c0,(0,R45.idx cX),(3,.ord [0,1,2,3,4,5,6,11,7,8,9,10,12,13]),(4,dM ga),(0,zV.row iq),iW (ev42 n ic)];ie h (λc1 h=>bD h zA [dP c1,(4,.born [4] [] cV false 25 2)]) λc1 h=>be h λnD sK h=>let zB:SE:=dJ zA [dP c1,iW (avi n sK)];ie h (λc2 h=>bD h zB [aI c2,(3,.born [4] [] cV false 25 2)]) λc2 h=>be h λx35 abL h=>cI (aS h) zB [aI c2,(4,zV.kF abL)]) λc0 h=>ra (bq h) [aI c0]
def My (aO:fL->Option (fL×Int)):Nat->cJ->Int->Int->fL->Option (fL×Int)
 |0=>λ_ _ _ _=>none
 |n+1=>YO aO (My aO n) n
def axV {aO} (bq:Tq aO):∀n:Nat,Tp (My aO n)
 |0=>λ_ _ _ _ _ h=>nz h
 |n+1=>aNd bq (axV bq n) n
def YN (n:Nat) (BU:fL):Option (fL×Int):=
 some (BU,0)
def aNc (n:Nat):Tq (YN n):=λBU r h=>rr h [(3,.jq 30 cV)]
def anU (n:Nat) (gM:ag) (cr:cJ):Option (fL×Int):=
 (F15 n gM).bind λx5=>if x5 !=0 then
 some ([],x5)
 else
 if decide (8<(cr.length:Int)) then
 some ([],2)
 else
 if decide (1000<(bl (gM.ax+(cr.length:Int)))) then
 some ([],2)
 else
 (F41 n gM).bind λni=>My (YN n) n cr (cr.length:Int) 0 [ni]
def aNb (n:Nat):K2 (A14 []) aoP (anU n):=λgM cr r h=>be h λx5 kR h=>let zA:SE:=[mY (avi n kR)];ie h (λc0 h=>bD h zA [aZ c0,(3,.born [4] [] cV false 25 2)]) λc0 h=>ie h (λc1 h=>bD h zA [aZ c0,aZ c1,(4,.born [4] [] cV false 25 2)]) λc1 h=>ie h (λc2 h=>bD h zA [aZ c0,aZ c1,dP c2,(3,.born [4] [] cV false 25 2)]) λc2 h=>be h λni ph h=>cI (axV (aNc n) n h) zA [aZ c0,aZ c1,dP c2,(2,.call (GR n ph) [] [(330290001,r8)]),(0,bW.tfr false 330290001 ni.ai)]
def F14:=anU
def ev14 (n:Nat):K2 (Cx E0 14 Xu Pw) aoP (F14 n):=λ_ _ _ h=>ca (X:=iu) (aNb n h)
def awW (r:(jV×Int)):AV:=.cS [.agg (EX r.1),cm r.2]
def Ie:=fx E0 Tryz.f54 []
def A54:=Ax Ie awW bQ
def aoy (gM:ag) (cr:cJ) (jY:Int):LS:=⟨[(0,.agg (dD gM)),(1,.qp 46 15 cr.length (lY cr)),(2,.int .i64 jY)],[]⟩
def anD (n:Nat) (gM:ag) (cr:cJ) (jY:Int):Option (jV×Int):=
 (F14 n gM cr).bind λx6=>if x6.2 !=0 then
 some ((jV.mk [] []),x6.2)
 else
 if decide (jY<gM.ax) then
 some ((jV.mk [] []),1)
 else
 if !decide ((bl (jY - gM.ax))<(x6.1.length:Int)) then
 some ((jV.mk [] []),1)
 else
 (cut x6.1 (some (bl (jY - gM.ax))) none).bind λx35=>(cut cr (some (bl (jY - gM.ax))) none).bind λrV=>some ((jV.mk x35 rV),0)
def aLP (n:Nat):K3 (A54 []) aoy (anD n):=λgM cr jY r h=>be h λx6 lD h=>let zA:SE:=[(5,.call (ev14 n lD) [] [(301400,cV)])];ie h (λc0 h=>bD h zA [dP c0,(4,.pZ 6 (.flat 0 [.sl 2 25 2 0 [],.sl 2 46 15 0 []]))]) λc0 h=>ie h (λc1 h=>bD h zA [dP c0,bj c1,(5,.pZ 6 (.flat 0 [.sl 2 25 2 0 [],.sl 2 46 15 0 []]))]) λc1 h=>ie h (λc2 h=>bD h zA [dP c0,bj c1,jU c2,(4,.pZ 6 (.flat 0 [.sl 2 25 2 0 [],.sl 2 46 15 0 []]))]) λc2 h=>be h λx35 abL h=>be h λrV Bs h=>bD h zA [dP c0,bj c1,jU c2,(6,zV.fX 301400 x6.1),(2,zV.cut abL),(2,R45.cut Bs)]
def F54:=anD
def ev54 (n:Nat):K3 (Cx E0 54 awW bQ) aoy (F54 n):=λ_ _ _ _ h=>ca (X:=Ie) (aLP n h)
def Xt (r:ag):AV:=.agg (dD r)
def x55:=fx E0 Tryz.f55 []
def A55:=Ax x55 Xt bQ
def OT (l0:jV):LS:=⟨[(0,.agg (EX l0))],[]⟩
def anC (n:Nat) (l0:jV):Option ag:=
 (idx l0.BJ (bl ((l0.BJ.length:Int) - 1))).bind λx9=>some x9
def aLO (n:Nat):K1 (A55 []) OT (anC n):=λl0 r h=>be h λx9 iS h=>rr h [(8,zV.idx iS)]
def F55:=anC
def ev55 (n:Nat):K1 (Cx E0 55 Xt bQ) OT (F55 n):=λ_ _ h=>ca (X:=x55) (aLO n h)
def x56:=fx E0 Tryz.f56 []
def A56:=Ax x56 Xt bQ
def azp (n:Nat) (l0:jV):Option ag:=
 (idx l0.BJ 0).bind λx5=>some x5
def aLN (n:Nat):K1 (A56 []) OT (azp n):=λl0 r h=>be h λx5 kR h=>rr h [(4,zV.idx kR)]
def F56:=azp
def alw (n:Nat):K1 (Cx E0 56 Xt bQ) OT (F56 n):=λ_ _ h=>ca (X:=x56) (aLN n h)
def Pg (r:aP):AV:=.agg (lP r)
def x157:=fx E0 Tryz.f157 []
def aob:=Ax x157 Pg bQ
def aAy (pI:Int) (t9:gu) (t10 t11:Int) (t19:Bool) (b4 b6:aP) (b8:jn):LS:=⟨[(2,.int .i64 pI),(4,.loc 4 0),(6,.loc 6 0),(8,.loc 8 0),(9,.slice 110 6 t9.length (cR t9)),(10,.int .i64 t10),(11,.int .i64 t11),(19,.bool t19)],[(4,xL (lP b4)),(6,xL (lP b6)),(8,.flat 110 (y6 b8))]⟩
def aAx (pI:Int) (t9:gu) (t10 t11:Int) (b4 b6:aP):LS:=⟨[(2,.int .i64 pI),(4,.loc 4 0),(6,.loc 6 0),(9,.slice 110 6 t9.length (cR t9)),(10,.int .i64 t10),(11,.int .i64 t11)],[(4,xL (lP b4)),(6,xL (lP b6))]⟩
def aAw (b4 b6:aP):LS:=⟨[(4,.loc 4 0),(6,.loc 6 0)],[(4,xL (lP b4)),(6,xL (lP b6))]⟩
def aha (En:gu) (v1:aP) (pI:Int):LS:=⟨[(0,.slice 110 6 En.length (cR En)),(1,.agg (lP v1)),(2,.int .i64 pI)],[]⟩
def RF (aO:Wf56) (n:Nat) (pI:Int) (t9:gu) (t10 t11:Int) (t19:Bool) (b4 b6:aP) (b8:jn):Option aP:=
 if t19 then
 if (bl (1 - pI))==0 then
 some b8.f0
 else
 if (bl (1 - pI))==1 then
 some b8.f1
 else
 none
 else
 aO pI t9 t10 (bl (t11+1)) b4 b6
def Lc:=K6 (aob [0,1,0,1]) aAx
def arS {aO} (bq:Lc aO) (n:Nat):K8 (aob (cF 3685)) aAy (RF aO n):=λpI t9 t10 t11 t19 b4 b6 b8 r h=>ie h (λc0 bI=>by subst c0;exact (ie bI (λc1 bI=>rr bI [(1,en (k:=.i64) c1)]) λc1 bI=>ie bI (λc2 bI=>rr bI [(1,en (k:=.i64) c2)]) λc2 bI=>nz bI)) λc0 bI=>by subst c0;exact (ra (bq bI) [])
def RE (bt:amq) (back:Wf56) (n:Nat) (pI:Int) (t9:gu) (t10 t11:Int) (b4 b6:aP):Option aP:=
 if decide (t11<t10) then
 (idx t9 t11).bind λx2=>if pI==0 then
 RF back n 0 t9 t10 t11 ((x2.f0.ay==b4.ay) && ((x2.f0.bZ==b4.bZ) && ((decide (x2.f0.bB=b4.bB)) && true))) b4 b6 x2
 else
 if pI==1 then
 RF back n 1 t9 t10 t11 ((x2.f1.ay==b4.ay) && ((x2.f1.bZ==b4.bZ) && ((decide (x2.f1.bB=b4.bB)) && true))) b4 b6 x2
 else
 none
 else
 bt b4 b6
def To:=K2 (aob [1,1]) aAw
def aHh {bt} (cM:To bt) {back} (aS:Lc back) (n:Nat):Lc (RE bt back n):=λpI t9 t10 t11 b4 b6 r h=>ie h (λc0 h=>be h λx2 cX h=>ie h (λc1 bI=>by have c1:=eq_of_beq c1;subst c1;exact (
 ra (arS aS n bI) [aI c0,(0,DI.idx cX)])) λc1 h=>ie h (λc2 bI=>by have c2:=eq_of_beq c2;subst c2;exact (
 ra (arS aS n bI) [aI c0,(0,DI.idx cX)])) λc2 h=>nz h) λc0 h=>ra (cM h) [aI c0]
def Fk (bt:amq):Nat->Int->gu->Int->Int->aP->aP->Option aP
 |0=>λ_ _ _ _ _ _=>none
 |n+1=>RE bt (Fk bt n) n
def aqt {bt} (cM:To bt):∀n:Nat,Lc (Fk bt n)
 |0=>λ_ _ _ _ _ _ _ h=>nz h
 |n+1=>aHh cM (aqt cM n) n
def RD (n:Nat) (b4 b6:aP):Option aP:=
 some b4
def aHg (n:Nat):To (RD n):=λb4 b6 r h=>rr h []
def asJ (n:Nat) (En:gu) (v1:aP) (pI:Int):Option aP:=
 Fk (RD n) n pI En (En.length:Int) 0 v1 (aP.mk 0 0 ByteArray.empty)
def aHf (n:Nat):K3 (aob []) aha (asJ n):=λEn v1 pI r h=>ra (aqt (aHg n) n h) []
def awk:=asJ
def aKw (n:Nat):K3 (Cx E0 157 Pg bQ) aha (awk n):=λ_ _ _ _ h=>ca (X:=x157) (aHf n h)
def x107:=fx E0 Tryz.f107 []
def awz:=Ax x107 Pg bQ
def aBv (i5:Int) (b2:ep) (b3 b4:aP):LS:=⟨[(2,.loc 2 0),(3,.loc 3 0),(4,.loc 4 0),(5,cm i5)],[(2,.flat 140 (EW b2)),(3,xL (lP b3)),(4,xL (lP b4))]⟩
def aBu (b3 b4:aP):LS:=⟨[(3,.loc 3 0),(4,.loc 4 0)],[(3,xL (lP b3)),(4,xL (lP b4))]⟩
def ahs (p0:ep) (v1:aP):LS:=⟨[(0,.agg (EW p0)),(1,.agg (lP v1))],[]⟩
def Sv (aO:amq) (back:Int->ep->aP->aP->Option aP) (n:Nat) (i5:Int) (b2:ep) (b3 b4:aP):Option aP:=
 if !decide (i5<0) then
 (idx b2.gb i5).bind λx6=>(awk n x6 b3 1).bind λdB=>back (bl (i5 - 1)) b2 dB b4
 else
 aO b3 b4
def Tn:=K2 (awz [1,1]) aBu
def Tm:=K4 (awz [0,1,0,1]) aBv
def aIM {aO} (bq:Tn aO) {back} (aS:Tm back) (n:Nat):Tm (Sv aO back n):=λi5 b2 b3 b4 r h=>ie h (λc0 h=>be h λx6 lD h=>be h λdB kS h=>ra (aS h) [bb c0,(3,R39.idx lD),iW (aKw n kS)]) λc0 h=>ra (bq h) [bb c0]
def FD (aO:amq):Nat->Int->ep->aP->aP->Option aP
 |0=>λ_ _ _ _=>none
 |n+1=>Sv aO (FD aO n) n
def aqU {aO} (bq:Tn aO):∀n:Nat,Tm (FD aO n)
 |0=>λ_ _ _ _ _ h=>nz h
 |n+1=>aIM bq (aqU bq n) n
def Su (n:Nat) (b3 b4:aP):Option aP:=
 some b3
def aIL (n:Nat):Tn (Su n):=λb3 b4 r h=>rr h []
def afs (n:Nat) (p0:ep) (v1:aP):Option aP:=
 FD (Su n) n (bl ((p0.gb.length:Int) - 1)) p0 v1 (aP.mk 0 0 ByteArray.empty)
def aIK (n:Nat):K2 (awz []) ahs (afs n):=λp0 v1 r h=>ra (aqU (aIL n) n h) []
def aec:=afs
def ayK (n:Nat):K2 (Cx E0 107 Pg bQ) ahs (aec n):=λ_ _ _ h=>ca (X:=x107) (aIK n h)
def awU (r:ep):AV:=.agg (EW r)
def x63:=fx E0 Tryz.f63 []
def A63:=Ax x63 awU bQ
def aDV (t10 c11:Int) (t16:cJ) (t17 t18:Int) (b6 b7:ep) (mo:yg):LS:=⟨[(6,.loc 6 0),(7,.loc 7 0),(10,.int .i64 t10),(11,.int .i64 c11),(16,.qp 46 15 t16.length (lY t16)),(17,.int .i64 t17),(18,.int .i64 t18)],(atx b6 b7 mo.length mo)⟩
def aDU (t16:cJ) (t17 t18:Int) (b6 b7:ep) (b9:aE) (mo:yg):LS:=⟨[(6,.loc 6 0),(7,.loc 7 0),(9,.loc 9 0),(16,.qp 46 15 t16.length (lY t16)),(17,.int .i64 t17),(18,.int .i64 t18)],[(6,.flat 140 [.int .i64 b6.gF,.int .i64 b6.fD,.bool b6.dN,.int .i64 b6.fC.ay,.int .i64 b6.fC.bZ,.str b6.fC.bB,.dE]),(7,.flat 140 [.int .i64 b7.gF,.int .i64 b7.fD,.bool b7.dN,.int .i64 b7.fC.ay,.int .i64 b7.fC.bZ,.str b7.fC.bB,.ms 44 1 0 mo.length]),(9,uw (mz b9)),(44,.rows true 39 1 (IH mo))]⟩
def aDT (t16:cJ) (t17 t18:Int) (b6 b7:ep) (mo:yg):LS:=⟨[(6,.loc 6 0),(7,.loc 7 0),(16,.qp 46 15 t16.length (lY t16)),(17,.int .i64 t17),(18,.int .i64 t18)],(atx b6 b7 mo.length mo)⟩
def aDS (b6 b7:ep) (mo:yg):LS:=⟨[(6,.loc 6 0),(7,.loc 7 0)],(atx b6 b7 mo.length mo)⟩
def aox (sC:cJ) (dh jh:Int):LS:=⟨[(0,.qp 46 15 sC.length (lY sC)),(1,.int .i64 dh),(2,.int .i64 jh)],[]⟩
def QR (bt:avS) (n:Nat) (t10 c11:Int) (t16:cJ) (t17 t18:Int) (b6 b7:ep) (mo:yg):Option ep:=
 bt t16 t17 (bl (t18+1)) (ep.mk b6.gF b6.fD b6.dN b6.fC []) (ep.mk t10 c11 b7.dN b7.fC mo) mo
def Ed:=K6 (A63 [0,1,0,1,1]) aDT
def ayY {bt} (cM:Ed bt) (n:Nat):K8 (A63 (cF 64715)) aDV (QR bt n):=λt10 c11 t16 t17 t18 b6 b7 mo r h=>ra (cM h) []
def HA (bt:avS) (n:Nat) (t16:cJ) (t17 t18:Int) (b6 b7:ep) (b9:aE) (mo:yg):Option ep:=
 (VY n b9 b7.gF b7.fD).bind λx6=>if decide (x6.1<0) then
 some (ep.mk (-1) (-1) false (aP.mk 0 0 ByteArray.empty) [])
 else
 if !x6.2.2 then
 (aec n (ep.mk b7.gF b7.fD b7.dN b7.fC mo) b9.aD).bind λni=>QR bt n x6.1 x6.2.1 t16 t17 t18 (ep.mk b6.gF b6.fD b6.dN b6.fC []) (ep.mk b7.gF b7.fD false ni mo) mo
 else
 QR bt n x6.1 x6.2.1 t16 t17 t18 (ep.mk b6.gF b6.fD b6.dN b6.fC []) (ep.mk b7.gF b7.fD b7.dN b7.fC mo) mo
def XS {bt} (cM:Ed bt) (n:Nat):K7 (A63 (cF 7371)) aDU (HA bt n):=λt16 t17 t18 b6 b7 b9 mo r h=>be h λx6 lD h=>let zA:SE:=[oZ (ayJ n lD)];ie h (λc0 h=>bD h zA [iC c0,(2,.pZ 6 (.flat 0 [.bool true,.bool true,.bool true,.bool true,.bool true,.bool true,.sl 0 39 1 0 []]))]) λc0 h=>ie h (λc1 h=>be h λni ph h=>cI (ayY cM n h) zA [iC c0,bb c1,(3,.Aq (ayK n ph) [R39.fX 44 mo] trivial [] [])]) λc1 h=>cI (ayY cM n h) zA [iC c0,bb c1]
def Yg (bC:Wf59) (back:avS) (n:Nat) (t16:cJ) (t17 t18:Int) (b6 b7:ep) (mo:yg):Option ep:=
 if decide (t18<t17) then
 (idx t16 t18).bind λx2=>if x2.bh==8 then
 if x2.aG==b7.gF then
 if x2.aN==b7.fD then
 (app mo [x2.bf]).bind λHH=>HA back n t16 t17 t18 (ep.mk b6.gF b6.fD b6.dN b6.fC []) (ep.mk b7.gF b7.fD b7.dN b7.fC HH) x2 HH
 else
 HA back n t16 t17 t18 (ep.mk b6.gF b6.fD b6.dN b6.fC []) (ep.mk b7.gF b7.fD b7.dN b7.fC mo) x2 mo
 else
 HA back n t16 t17 t18 (ep.mk b6.gF b6.fD b6.dN b6.fC []) (ep.mk b7.gF b7.fD b7.dN b7.fC mo) x2 mo
 else
 HA back n t16 t17 t18 (ep.mk b6.gF b6.fD b6.dN b6.fC []) (ep.mk b7.gF b7.fD b7.dN b7.fC mo) x2 mo
 else
 bC (ep.mk b6.gF b6.fD b6.dN b6.fC []) (ep.mk b7.gF b7.fD b7.dN b7.fC mo) mo
def Tl:=K3 (A63 [1,1,1]) aDS
def aLL {bC} (cU:Tl bC) {back} (aS:Ed back) (n:Nat):Ed (Yg bC back n):=λt16 t17 t18 b6 b7 mo r h=>ie h (λc0 h=>be h λx2 cX h=>let zA:SE:=[aI c0,(0,R45.idx cX)];ie h (λc1 h=>ie h (λc2 h=>ie h (λc3 h=>be h λHH NQ h=>cI (XS aS n h) zA [cg c1,cg c2,dP c3,(6,R39.kF NQ)]) λc3 h=>cI (XS aS n h) zA [cg c1,cg c2,dP c3]) λc2 h=>cI (XS aS n h) zA [cg c1,cg c2]) λc1 h=>cI (XS aS n h) zA [cg c1]) λc0 h=>ra (cU h) [aI c0]
def Hj (bC:Wf59):Nat->cJ->Int->Int->ep->ep->yg->Option ep
 |0=>λ_ _ _ _ _ _=>none
 |n+1=>Yg bC (Hj bC n) n
def axy {bC} (cU:Tl bC):∀n:Nat,Ed (Hj bC n)
 |0=>λ_ _ _ _ _ _ _ h=>nz h
 |n+1=>aLL cU (axy cU n) n
def QQ (n:Nat) (b6 b7:ep) (mo:yg):Option ep:=
 some (ep.mk b7.gF b7.fD b7.dN b7.fC mo)
def aLK (n:Nat):Tl (QQ n):=λb6 b7 mo r h=>rr h [(2,R39.fX 44 mo),(0,.pZ 6 (.flat 0 [.bool true,.bool true,.bool true,.bool true,.bool true,.bool true,.sl 0 0 0 0 []]))]
def azo (n:Nat) (sC:cJ) (dh jh:Int):Option ep:=
 Hj (QQ n) n sC (sC.length:Int) 0 (ep.mk 0 0 false (aP.mk 0 0 ByteArray.empty) []) (ep.mk dh jh true (aP.mk 0 0 ByteArray.empty) []) []
def aLJ (n:Nat):K3 (A63 []) aox (azo n):=λsC dh jh r h=>ra (axy (aLK n) n h) [(9,.born [] [(7,6)] 44 true 39 1)]
def F63:=azo
def avf (n:Nat):K3 (Cx E0 63 awU bQ) aox (F63 n):=λ_ _ _ _ h=>ca (X:=x63) (aLJ n h)
def apn (r:mK):AV:=.ms cV 7 0 r.length
def ahS (r:mK):List (Nat×Bx):= [(cV,.rows true 140 7 (vN r))]
def x105:=fx E0 Tryz.f105 []
def awA:=Ax x105 apn ahS
def aBA (t1 t14 t15:Int) (b2:jV) (HZ:mK):LS:=⟨[(1,cm t1),(2,.loc 2 0),(5,.ms 25 7 0 HZ.length),(14,cm t14),(15,cm t15)],[(2,.flat 123 (EX b2)),(25,.rows true 140 7 (vN HZ))]⟩
def aBz (HZ:mK):LS:=⟨[(5,.ms 25 7 0 HZ.length)],[(25,.rows true 140 7 (vN HZ))]⟩
def KX (l0:jV) (t1:Int):LS:=⟨[(0,.agg (EX l0)),(1,cm t1)],[]⟩
def Sy (aO:mK->Option mK) (back:Int->Int->Int->jV->mK->Option mK) (n:Nat) (t1 t14 t15:Int) (b2:jV) (HZ:mK):Option mK:=
 if decide (t15<t14) then
 (F63 n b2.JB t1 t15).bind λx9=>(app HZ [x9]).bind λgS=>back t1 t14 (bl (t15+1)) b2 gS
 else
 aO HZ
def Tk:=K1 (awA [1,1,1]) aBz
def Tj:=K5 (awA [0,1,0,1,1]) aBA
def aIS {aO} (bq:Tk aO) {back} (aS:Tj back) (n:Nat):Tj (Sy aO back n):=λt1 t14 t15 b2 HZ r h=>ie h (λc0 h=>be h λx9 iS h=>be h λgS jG h=>ra (aS h) [aI c0,yr (avf n iS),(1,amD.kF jG)]) λc0 h=>ra (bq h) [aI c0]
def FE (aO:mK->Option mK):Nat->Int->Int->Int->jV->mK->Option mK
 |0=>λ_ _ _ _ _=>none
 |n+1=>Sy aO (FE aO n) n
def aqW {aO} (bq:Tk aO):∀n:Nat,Tj (FE aO n)
 |0=>λ_ _ _ _ _ _ h=>nz h
 |n+1=>aIS bq (aqW bq n) n
def Sx (n:Nat) (HZ:mK):Option mK:=
 some HZ
def aIR (n:Nat):Tk (Sx n):=λHZ r h=>rr h [(2,.jq 25 cV)]
def afu (n:Nat) (l0:jV) (t1:Int):Option mK:=
 (F56 n l0).bind λx5=>(idx x5.ai t1).bind λx9=>FE (Sx n) n t1 (x9.ae.length:Int) 0 l0 []
def aIQ (n:Nat):K2 (awA []) KX (afu n):=λl0 t1 r h=>be h λx5 kR h=>be h λx9 iS h=>ra (aqW (aIR n) n h) [mY (alw n kR),(2,bW.idx iS),(4,.born [5] [] 25 true 140 7)]
def awn:=afu
def aKN (n:Nat):K2 (Cx E0 105 apn ahS) KX (awn n):=λ_ _ _ h=>ca (X:=x105) (aIQ n h)
def x106:=fx E0 Tryz.f106 []
def aoc:=Ax x106 Ek AK
def aBy (qQ:cC) (t11:mK) (t12 t13:Int) (wP:cC) (b7:aP):LS:=⟨[(0,.slice 38 3 qQ.length (fM qQ)),(4,.ms 31 3 0 wP.length),(7,.loc 7 0),(11,.slice 140 7 t11.length (vN t11)),(12,.int .i64 t12),(13,.int .i64 t13)],[(7,xL (lP b7)),(31,IP wP)]⟩
def aBx (qQ:cC) (t11:mK) (t12 t13:Int) (wP:cC):LS:=⟨[(0,.slice 38 3 qQ.length (fM qQ)),(4,.ms 31 3 0 wP.length),(11,.slice 140 7 t11.length (vN t11)),(12,.int .i64 t12),(13,.int .i64 t13)],[(31,IP wP)]⟩
def aBw (wP:cC):LS:=⟨[(4,.ms 31 3 0 wP.length)],[(31,IP wP)]⟩
def aht (qQ:cC) (t1:mK):LS:=⟨[(0,.slice 38 3 qQ.length (fM qQ)),(1,.jx (acr t1))],[]⟩
def Ks (aO:Wf60) (n:Nat) (qQ:cC) (t11:mK) (t12 t13:Int) (wP:cC) (b7:aP):Option cC:=
 (app wP [b7]).bind λx4=>aO qQ t11 t12 (bl (t13+1)) x4
def Lb:=K5 (aoc (cF 87)) aBx
def arZ {aO} (bq:Lb aO) (n:Nat):K6 (aoc (cF 31127)) aBy (Ks aO n):=λqQ t11 t12 t13 wP b7 r h=>be h λx4 jr h=>ra (bq h) [(3,p8.kF jr)]
def Sw (bt:cC->Option cC) (back:Wf60) (n:Nat) (qQ:cC) (t11:mK) (t12 t13:Int) (wP:cC):Option cC:=
 if decide (t13<t12) then
 (idx t11 t13).bind λx2=>if x2.dN then
 (idx qQ x2.fD).bind λiL=>(aec n x2 iL).bind λjQ=>Ks back n qQ t11 t12 t13 wP jQ
 else
 Ks back n qQ t11 t12 t13 wP x2.fC
 else
 bt wP
def Ti:=K1 (aoc [1,1,1,1]) aBw
def aIP {bt} (cM:Ti bt) {back} (aS:Lb back) (n:Nat):Lb (Sw bt back n):=λqQ t11 t12 t13 wP r h=>ie h (λc0 h=>be h λx2 cX h=>ie h (λc1 h=>be h λiL kh h=>be h λjQ j3 h=>ra (arZ aS n h) [aI c0,(0,amD.idx cX),iC c1,(4,p8.idx kh),yu (ayK n j3)]) λc1 h=>ra (arZ aS n h) [aI c0,(0,amD.idx cX),iC c1]) λc0 h=>ra (cM h) [aI c0]
def Cd (bt:cC->Option cC):Nat->cC->mK->Int->Int->cC->Option cC
 |0=>λ_ _ _ _ _=>none
 |n+1=>Sw bt (Cd bt n) n
def aqV {bt} (cM:Ti bt):∀n:Nat,Lb (Cd bt n)
 |0=>λ_ _ _ _ _ _ h=>nz h
 |n+1=>aIP cM (aqV cM n) n
def Kr (n:Nat) (wP:cC):Option cC:=
 some wP
def aIO (n:Nat):Ti (Kr n):=λwP r h=>rr h [(2,.jq 31 cV)]
def aft (n:Nat) (qQ:cC) (t1:mK):Option cC:=
 if (qQ.length:Int)==0 then
 some []
 else
 Cd (Kr n) n qQ t1 (t1.length:Int) 0 []
def aIN (n:Nat):K2 (aoc []) aht (aft n):=λqQ t1 r h=>ie h (λc0 h=>rr h [bj c0,(1,.born [3] [] cV true 38 3)]) λc0 h=>ra (aqV (aIO n) n h) [bj c0,(4,.born [4] [] 31 true 38 3)]
def anf:=aft
def aKM (n:Nat):K2 (Cx E0 106 Ek AK) aht (anf n):=λ_ _ _ h=>ca (X:=x106) (aIN n h)
def awV (r:(Int×mK)):AV:=.cS [cm r.1,.fn 106 [] [.jx (acr r.2)]]
def x57:=fx E0 Tryz.f57 []
def A57:=Ax x57 awV bQ
def anB (n:Nat) (l0:jV) (t1:Int):Option (Int×mK):=
 (awn n l0 t1).bind λx6=>(F63 n l0.JB t1 (-1)).bind λdY=>some (dY.gF,x6)
def aLM (n:Nat):K2 (A57 []) KX (anB n):=λl0 t1 r h=>be h λx6 lD h=>be h λdY iq h=>rr h [(5,.call (aKN n lD) [] [(9,cV)]),oZ (avf n iq),(4,amD.fX 9 x6),(0,.pZ 6 (.flat 0 [.sl 0 0 0 0 []])),(0,.fX 6 (Q:= []) (n:=0) rfl)]
def F57:=anB
def ev57 (n:Nat):K2 (Cx E0 57 awV bQ) KX (F57 n):=λ_ _ _ h=>ca (X:=x57) (aLM n h)
def axc (r:(aW×Int)):AV:=.cS [.agg (rK r.1),cm r.2]
def pG:=fx E0 Tryz.f21 []
def A21:=Ax pG axc bQ
def aEF (t16:Int) (Bl:mK) (t49 t50:Int) (t65:bU) (t66 t67:Int) (b9 gG:aW) (bR:jV) (qu:aW) (eE:ey):LS:=⟨[(9,.loc 9 0),(10,.loc 10 0),(12,.loc 12 0),(15,.loc 15 0),(16,.int .i64 t16),(18,.fn 106 [] [.jx (acr Bl)]),(49,.int .i64 t49),(50,.int .i64 t50),(65,.slice 70 1 t65.length (oG t65)),(66,.int .i64 t66),(67,.int .i64 t67)],[(9,.flat 51 (rK b9)),(10,Dr),(12,.flat 123 (EX bR)),(15,.flat 51 [.ms 45 1 0 eE.length]),(45,atw eE)]⟩
def aoL (t49 t50:Int) (b9 gG:aW) (bR:jV) (qu:aW) (eE:ey):LS:=⟨[(9,.loc 9 0),(10,.loc 10 0),(12,.loc 12 0),(15,.loc 15 0),(49,cm t49),(50,cm t50)],[(9,.flat 51 (rK b9)),(10,Dr),(12,.flat 123 (EX bR)),(15,.flat 51 [.ms 45 1 0 eE.length]),(45,atw eE)]⟩
def aEE (gG qu:aW) (eE:ey):LS:=⟨[(10,.loc 10 0),(15,.loc 15 0)],[(10,Dr),(15,.flat 51 [.ms 45 1 0 eE.length]),(45,atw eE)]⟩
def aoK (gM:ag) (cr:cJ) (jY dC:Int) (st4:aW):LS:=⟨[(0,.agg (dD gM)),(1,.qp 46 15 cr.length (lY cr)),(2,.int .i64 jY),(3,.int .i64 dC),(4,.agg (rK st4))],[]⟩
def YE (aO:amp) (back:Int->mK->Int->Int->bU->Int->Int->aW->aW->jV->aW->ey->Option (aW×Int)) (n:Nat) (t16:Int) (Bl:mK) (t49 t50:Int) (t65:bU) (t66 t67:Int) (b9 gG:aW) (bR:jV) (qu:aW) (eE:ey):Option (aW×Int):=
 if decide (t67<t66) then
 (idx t65 t67).bind λx2=>(eW eE.length t16).bind λx5=>(eE[0+x5]?).bind λu7=>(anf n x2 Bl).bind λir=>(app u7 [ir]).bind λni=>(setAt eE (0+x5) ni).bind λz28=>back t16 Bl t49 t50 t65 t66 (bl (t67+1)) b9 (aW.mk []) bR (aW.mk z28) z28
 else
 aO t49 t50 b9 (aW.mk []) bR (aW.mk eE) eE
def Th:=K7 (A21 (cF 7775)) aoL
def Tg:=K12 (A21 (cF 386655)) aEF
def aMN {aO} (bq:Th aO) {back} (aS:Tg back) (n:Nat):Tg (YE aO back n):=λt16 Bl t49 t50 t65 t66 t67 b9 gG bR qu eE r h=>ie h (λc0 h=>be h λx2 cX h=>be h λx5 kR h=>be h λu7 hu7 h=>be h λir mN h=>be h λni ph h=>be h λz28 wz h=>ra (aS h) [aI c0,(0,o9.idx cX),(2,xp.nE o9 45 800450 0 false 70 1 u7 hu7 [.undef] (by kernel_rfl) (by kernel_rfl)),(6,dM kR),(3,zP (gn.res (.sl 0 38 3 0 []) (cd (e:=38) (z:=true) (Q:=fM ir) (aKM n mN) (p8.len ir)))),(1,o9.kF ph),(0,dM kR),(0,xp.xX 0 [.undef] [.undef] hu7 (by kernel_rfl)),(2,xp.gT o9 (r:= [.undef]) 45 800450 0 false 70 1 ni wz (by kernel_rfl)),(0,.beq 15 (bN (λn_=>(Bx.flat 51 [.ms 45 1 0 n_])) (eu wz)))]) λc0 h=>ra (bq h) [aI c0]
def Mu (aO:amp):Nat->Int->mK->Int->Int->bU->Int->Int->aW->aW->jV->aW->ey->Option (aW×Int)
 |0=>λ_ _ _ _ _ _ _ _ _ _ _ _=>none
 |n+1=>YE aO (Mu aO n) n
def axP {aO} (bq:Th aO):∀n:Nat,Tg (Mu aO n)
 |0=>λ_ _ _ _ _ _ _ _ _ _ _ _ _ h=>nz h
 |n+1=>aMN bq (axP bq n) n
def MQ (bt:amp) (n:Nat) (t49 t50:Int) (b9 gG:aW) (bR:jV) (qu:aW) (eE:ey):Option (aW×Int):=
 bt t49 (bl (t50+1)) b9 (aW.mk []) bR (aW.mk eE) eE
def La:=K7 (A21 (cF 351)) aoL
def azg {bt} (cM:La bt) (n:Nat):Th (MQ bt n):=λt49 t50 b9 gG bR qu eE r h=>ra (cM h) []
def YD (bC:Wf62) (back:amp) (n:Nat) (t49 t50:Int) (b9 gG:aW) (bR:jV) (qu:aW) (eE:ey):Option (aW×Int):=
 if decide (t50<t49) then
 (F57 n bR t50).bind λx6=>if decide (x6.1<0) then
 MQ back n t49 t50 b9 (aW.mk []) bR (aW.mk eE) eE
 else
 (idx b9.ai x6.1).bind λld=>Mu (MQ back n) n t50 x6.2 t49 t50 ld (ld.length:Int) 0 b9 (aW.mk []) bR (aW.mk eE) eE
 else
 bC (aW.mk []) (aW.mk eE) eE
def Te:=K3 (A21 (cF 127)) aEE
def aMM {bC} (cU:Te bC) {back} (aS:La back) (n:Nat):La (YD bC back n):=λt49 t50 b9 gG bR qu eE r h=>ie h (λc0 h=>be h λx6 lD h=>let zA:SE:=[aI c0,mY (ev57 n lD)];ie h (λc1 h=>cI (azg aS n h) zA [dP c1]) λc1 h=>be h λld pj h=>cI (axP (azg aS n) n h) zA [dP c1,(3,xp.idx pj)]) λc0 h=>ra (cU h) [aI c0]
def Dd (bC:Wf62):Nat->Int->Int->aW->aW->jV->aW->ey->Option (aW×Int)
 |0=>λ_ _ _ _ _ _ _=>none
 |n+1=>YD bC (Dd bC n) n
def axO {bC} (cU:Te bC):∀n:Nat,La (Dd bC n)
 |0=>λ_ _ _ _ _ _ _ _ h=>nz h
 |n+1=>aMM cU (axO cU n) n
def MP (n:Nat) (gG qu:aW) (eE:ey):Option (aW×Int):=
 some ((aW.mk eE),0)
def aML (n:Nat):Te (MP n):=λgG qu eE r h=>rr h [(3,xp.tfr false 45 eE)]
def anQ (n:Nat) (gM:ag) (cr:cJ) (jY dC:Int) (st4:aW):Option (aW×Int):=
 (F54 n gM cr jY).bind λx8=>if x8.2 !=0 then
 some ((aW.mk []),x8.2)
 else
 (F55 n x8.1).bind λir=>(F26 n ir dC st4).bind λiK=>if iK !=0 then
 some ((aW.mk []),iK)
 else
 (F56 n x8.1).bind λHH=>(rA (HH.ai.length:Int) ([]:bU)).bind λlW=>Dd (MP n) n (lW.length:Int) 0 st4 (aW.mk []) x8.1 (aW.mk lW) lW
def aMK (n:Nat):K5 (A21 []) aoK (anQ n):=λgM cr jY dC st4 r h=>be h λx8 oK h=>let zA:SE:=[yr (ev54 n oK)];ie h (λc0 h=>bD h zA [jU c0,(4,.pZ 10 (.flat 0 [.sl 0 68 1 0 []]))]) λc0 h=>be h λir mN h=>be h λiK tv h=>let zB:SE:=dJ zA [jU c0,(0,.ord [0,2,3,1,4,5]),kH (ev55 n mN),om (ev26 n tv)];ie h (λc1 h=>bD h zB [aZ c1,(4,.pZ 10 (.flat 0 [.sl 0 68 1 0 []]))]) λc1 h=>be h λHH NQ h=>be h λlW tu h=>cI (axO (aML n) n h) zB [aZ c1,yu (alw n NQ),(2,xp.made tu [.o false [.d]]),(0,.seq 45 (bN (AV.ms 45 1 0) ((Nt tu))))]
def F21:=anQ
def ev21 (n:Nat):K5 (Cx E0 21 axc bQ) aoK (F21 n):=λ_ _ _ _ _ _ h=>ca (X:=pG) (aMK n h)
def Cl:=fx E0 Tryz.f24 []
def A24:=Ax Cl Pk bQ
def aoJ (gM:ag) (cr:cJ) (jY A0 AO:Int):LS:=⟨[(0,.agg (dD gM)),(1,.qp 46 15 cr.length (lY cr)),(2,.int .i64 jY),(3,.int .i64 A0),(4,.int .i64 AO)],[]⟩
def anP (n:Nat) (gM:ag) (cr:cJ) (jY A0 AO:Int):Option (Int×Int×Bool):=
 (F54 n gM cr jY).bind λx8=>if x8.2 !=0 then
 some (0,0,false)
 else
 if decide (A0<0) then
 some (0,0,false)
 else
 (F56 n x8.1).bind λgg=>if !decide (A0<(gg.ai.length:Int)) then
 some (0,0,false)
 else
 if decide (AO<(-1)) then
 some (0,0,false)
 else
 (F56 n x8.1).bind λx36=>(idx x36.ai A0).bind λx40=>if !decide (AO<(x40.ae.length:Int)) then
 some (0,0,false)
 else
 (F63 n x8.1.JB A0 AO).bind λIg=>if !Ig.dN then
 some (0,0,false)
 else
 some (Ig.gF,Ig.fD,true)
def aMJ (n:Nat):K5 (A24 []) aoJ (anP n):=λgM cr jY A0 AO r h=>be h λx8 oK h=>let zA:SE:=[yr (ev54 n oK)];ie h (λc0 h=>bD h zA [jU c0]) λc0 h=>let zB:SE:=dJ zA [jU c0];ie h (λc1 h=>bD h zB [aZ c1]) λc1 h=>be h λgg ll h=>let zC:SE:=dJ zB [aZ c1,mY (alw n ll)];ie h (λc2 h=>bD h zC [aZ c2]) λc2 h=>let zD:SE:=dJ zC [aZ c2];ie h (λc3 h=>bD h zD [aZ c3]) λc3 h=>be h λx36 hx36 h=>be h λx40 auw h=>let zE:SE:=dJ zD [aZ c3,kH (alw n hx36),(2,bW.idx auw)];ie h (λc4 h=>bD h zE [bj c4]) λc4 h=>be h λIg aus h=>let zF:SE:=dJ zE [bj c4,oZ (avf n aus)];ie h (λc5 h=>bD h zF [bu c5]) λc5 h=>bD h zF [bu c5]
def F24:=anP
def ev24 (n:Nat):K5 (Cx E0 24 Pk bQ) aoJ (F24 n):=λ_ _ _ _ _ _ h=>ca (X:=Cl) (aMJ n h)
def x6:=fx E0 Tryz.f6 []
def A6:=Ax x6 dv bQ
def aJL (m5:cJ) (k7 t12 qO:Int) (t81:bn) (t82 t83:Int) (t149:bU) (t150 t151:Int) (b4:ag) (iH:fL) (b8:ag) (b9 gG:aW) (iy:aj):LS:=⟨[(4,.loc 4 0),(5,.qp 46 15 m5.length (lY m5)),(6,.ms 302802 2 0 iH.length),(7,.int .i64 k7),(8,.loc 8 0),(9,.loc 9 0),(10,.loc 10 0),(12,.int .i64 t12),(13,.loc 13 0),(14,.int .i64 qO),(81,.slice 44 5 t81.length (cP t81)),(82,.int .i64 t82),(83,.int .i64 t83),(149,.slice 70 1 t149.length (oG t149)),(150,.int .i64 t150),(151,.int .i64 t151)],[(4,iE (dD b4)),(8,iE (dD b8)),(9,.flat 51 (rK b9)),(10,.flat 51 (rK gG)),(13,pb (im iy)),(302802,Ds iH)]⟩
def aJK (m5:cJ) (k7 t12 qO:Int) (t81:bn) (t82 t83:Int) (t175:cN) (t176 t177:Int) (b4:ag) (iH:fL) (b8:ag) (b9 gG:aW):LS:=⟨[(4,.loc 4 0),(5,.qp 46 15 m5.length (lY m5)),(6,.ms 302802 2 0 iH.length),(7,.int .i64 k7),(8,.loc 8 0),(9,.loc 9 0),(10,.loc 10 0),(12,.int .i64 t12),(14,.int .i64 qO),(81,.slice 44 5 t81.length (cP t81)),(82,.int .i64 t82),(83,.int .i64 t83),(175,.slice 73 2 t175.length (bG t175)),(176,.int .i64 t176),(177,.int .i64 t177)],[(4,iE (dD b4)),(8,iE (dD b8)),(9,.flat 51 (rK b9)),(10,.flat 51 (rK gG)),(302802,Ds iH)]⟩
def aJJ (m5:cJ) (k7 t12 qO:Int) (t81:bn) (t82 t83:Int) (b4:ag) (iH:fL) (b8:ag) (b9 gG:aW) (iy:aj):LS:=⟨[(4,.loc 4 0),(5,.qp 46 15 m5.length (lY m5)),(6,.ms 302802 2 0 iH.length),(7,.int .i64 k7),(8,.loc 8 0),(9,.loc 9 0),(10,.loc 10 0),(12,.int .i64 t12),(13,.loc 13 0),(14,.int .i64 qO),(81,.slice 44 5 t81.length (cP t81)),(82,.int .i64 t82),(83,.int .i64 t83)],[(4,iE (dD b4)),(8,iE (dD b8)),(9,.flat 51 (rK b9)),(10,.flat 51 (rK gG)),(13,pb (im iy)),(302802,Ds iH)]⟩
def awM (m5:cJ) (k7:Int) (t81:bn) (t82 t83:Int) (b4:ag) (iH:fL) (b8:ag) (b9 gG:aW):LS:=⟨[(4,.loc 4 0),(5,.qp 46 15 m5.length (lY m5)),(6,.ms 302802 2 0 iH.length),(7,.int .i64 k7),(8,.loc 8 0),(9,.loc 9 0),(10,.loc 10 0),(81,.slice 44 5 t81.length (cP t81)),(82,.int .i64 t82),(83,.int .i64 t83)],[(4,iE (dD b4)),(8,iE (dD b8)),(9,.flat 51 (rK b9)),(10,.flat 51 (rK gG)),(302802,Ds iH)]⟩
def aJI:LS:=⟨[],[]⟩
def ajR (re:aK):LS:=⟨[(0,.qp 5 1 re.length (ym re))],[]⟩
def anu (bt:Wf63) (back:cJ->Int->Int->Int->bn->Int->Int->bU->Int->Int->ag->fL->ag->aW->aW->aj->Option Bool) (n:Nat) (m5:cJ) (k7 t12 qO:Int) (t81:bn) (t82 t83:Int) (t149:bU) (t150 t151:Int) (b4:ag) (iH:fL) (b8:ag) (b9 gG:aW) (iy:aj):Option Bool:=
 if decide (t151<t150) then
 (idx t149 t151).bind λx3=>(cut x3 none (some iy.aw)).bind λdy=>(idx b9.ai qO).bind λeO=>(idx eO t151).bind λjQ=>(cut jQ none (some iy.aw)).bind λgg=>(F27 n dy gg).bind λD6=>if D6 !=0 then
 some false
 else
 back m5 k7 t12 qO t81 t82 t83 t149 t150 (bl (t151+1)) b4 iH b8 b9 gG iy
 else
 bt m5 k7 t12 qO t81 t82 t83 b4 iH b8 b9 gG iy
def Td:=K13 (A6 (cF 2070911)) aJJ
def Tc:=K16 (A6 (cF 5740927)) aJL
def b6_0 {bt} (cM:Td bt) {back} (aS:Tc back) (n:Nat):Tc (anu bt back n):=λm5 k7 t12 qO t81 t82 t83 t149 t150 t151 b4 iH b8 b9 gG iy r h=>ie h (λc0 h=>be h λx3 eY h=>be h λdy ga h=>be h λeO ic h=>be h λjQ j3 h=>be h λgg ll h=>be h λD6 abM h=>let zA:SE:=[aI c0,(1,o9.idx eY),(6,p8.cut ga),(3,xp.idx ic),(2,o9.idx j3),(3,p8.cut ll),om (ev27 n abM)];ie h (λc1 h=>bD h zA [aI c1]) λc1 h=>cI (aS h) zA [aI c1]) λc0 h=>ra (cM h) [aI c0]
def VK (bt:Wf63):Nat->cJ->Int->Int->Int->bn->Int->Int->bU->Int->Int->ag->fL->ag->aW->aW->aj->Option Bool
 |0=>λ_ _ _ _ _ _ _ _ _ _ _ _ _ _ _ _=>none
 |n+1=>anu bt (VK bt n) n
def l6_0 {bt} (cM:Td bt):∀n:Nat,Tc (VK bt n)
 |0=>λ_ _ _ _ _ _ _ _ _ _ _ _ _ _ _ _ _ h=>nz h
 |n+1=>b6_0 cM (l6_0 cM n) n
def ant (bC:acU) (back:cJ->Int->Int->Int->bn->Int->Int->cN->Int->Int->ag->fL->ag->aW->aW->Option Bool) (n:Nat) (m5:cJ) (k7 t12 qO:Int) (t81:bn) (t82 t83:Int) (t175:cN) (t176 t177:Int) (b4:ag) (iH:fL) (b8:ag) (b9 gG:aW):Option Bool:=
 if decide (t177<t176) then
 (idx t175 t177).bind λx3=>(eW iH.length k7).bind λdY=>(iH[0+dY]?).bind λeO=>(F24 n b4 m5 eO.ax t12 t177).bind λjQ=>if jQ.2.2 then
 if jQ.1 !=qO then
 some false
 else
 if decide (jQ.2.1<0) then
 some false
 else
 (idx b8.ai qO).bind λD3=>if !decide (jQ.2.1<(D3.ae.length:Int)) then
 some false
 else
 (idx b8.ai qO).bind λIe=>(idx Ie.ae jQ.2.1).bind λx59=>if x59.ay !=x3.ay then
 some false
 else
 back m5 k7 t12 qO t81 t82 t83 t175 t176 (bl (t177+1)) b4 iH b8 b9 gG
 else
 back m5 k7 t12 qO t81 t82 t83 t175 t176 (bl (t177+1)) b4 iH b8 b9 gG
 else
 bC m5 k7 t81 t82 t83 b4 iH b8 b9 gG
def KZ:=K10 (A6 (cF 31103)) awM
def Tb:=K15 (A6 (cF 6265215)) aJK
def b6_1 {bC} (cU:KZ bC) {back} (aS:Tb back) (n:Nat):Tb (ant bC back n):=λm5 k7 t12 qO t81 t82 t83 t175 t176 t177 b4 iH b8 b9 gG r h=>ie h (λc0 h=>be h λx3 eY h=>be h λdY iq h=>be h λeO ic h=>be h λjQ j3 h=>let zA:SE:=[aI c0,(1,eJ.idx eY),(8,dM iq),(1,zV.row ic),iW (ev24 n j3)];ie h (λc1 h=>let zB:SE:=dJ zA [bj c1];ie h (λc2 h=>bD h zB [jU c2]) λc2 h=>let zC:SE:=dJ zB [jU c2];ie h (λc3 h=>bD h zC [aZ c3]) λc3 h=>be h λD3 NO h=>let zD:SE:=dJ zC [aZ c3,(6,bW.idx NO)];ie h (λc4 h=>bD h zD [bj c4]) λc4 h=>be h λIe aur h=>be h λx59 auq h=>let zE:SE:=dJ zD [bj c4,(5,bW.idx aur),(3,eJ.idx auq)];ie h (λc5 h=>bD h zE [bu c5]) λc5 h=>cI (aS h) zE [bu c5]) λc1 h=>cI (aS h) zA [bj c1]) λc0 h=>ra (cU h) [aI c0]
def VJ (bC:acU):Nat->cJ->Int->Int->Int->bn->Int->Int->cN->Int->Int->ag->fL->ag->aW->aW->Option Bool
 |0=>λ_ _ _ _ _ _ _ _ _ _ _ _ _ _ _=>none
 |n+1=>ant bC (VJ bC n) n
def l6_1 {bC} (cU:KZ bC):∀n:Nat,Tb (VJ bC n)
 |0=>λ_ _ _ _ _ _ _ _ _ _ _ _ _ _ _ _ h=>nz h
 |n+1=>b6_1 cU (l6_1 cU n) n
def ans (bC:acU) (n:Nat) (m5:cJ) (k7 t12 qO:Int) (t81:bn) (t82 t83:Int) (b4:ag) (iH:fL) (b8:ag) (b9 gG:aW) (iy:aj):Option Bool:=
 VJ bC n m5 k7 t12 qO t81 t82 t83 iy.ae (iy.ae.length:Int) 0 b4 iH b8 b9 gG
def b6_2 {bC} (cU:KZ bC) (n:Nat):Td (ans bC n):=λm5 k7 t12 qO t81 t82 t83 b4 iH b8 b9 gG iy r h=>ra (l6_1 cU n h) []
def Oq (da:acU) (n:Nat) (m5:cJ) (k7:Int) (t81:bn) (t82 t83:Int) (b4:ag) (iH:fL) (b8:ag) (b9 gG:aW):Option Bool:=
 da m5 k7 t81 t82 (bl (t83+1)) b4 iH b8 b9 gG
def KY:=K10 (A6 (cF 1407)) awM
def b6_3 {da} (fg:KY da) (n:Nat):KZ (Oq da n):=λm5 k7 t81 t82 t83 b4 iH b8 b9 gG r h=>ra (fg h) []
def anr (dZ:Option Bool) (back:acU) (n:Nat) (m5:cJ) (k7:Int) (t81:bn) (t82 t83:Int) (b4:ag) (iH:fL) (b8:ag) (b9 gG:aW):Option Bool:=
 if decide (t83<t82) then
 (idx t81 t83).bind λx3=>(eW iH.length k7).bind λdY=>(iH[0+dY]?).bind λeO=>(F24 n b4 m5 eO.ax t83 (-1)).bind λir=>if !ir.2.2 then
 (idx gG.ai t83).bind λlW=>if decide (0<(lW.length:Int)) then
 some false
 else
 Oq back n m5 k7 t81 t82 t83 b4 iH b8 b9 gG
 else
 if decide (ir.1<0) then
 some false
 else
 if !decide (ir.1<(b8.ai.length:Int)) then
 some false
 else
 (idx gG.ai t83).bind λD3=>(idx b9.ai ir.1).bind λIh=>if (D3.length:Int) !=(Ih.length:Int) then
 some false
 else
 (idx b8.ai ir.1).bind λx62=>if x3.aw !=x62.aw then
 some false
 else
 (idx gG.ai t83).bind λx71=>VK (ans (Oq back n) n) n m5 k7 t83 ir.1 t81 t82 t83 x71 (x71.length:Int) 0 b4 iH b8 b9 gG x3
 else
 dZ
def Ta:=K0 (A6 (cF 511)) aJI
def b6_4 {dZ} (gj:Ta dZ) {back} (aS:KY back) (n:Nat):KY (anr dZ back n):=λm5 k7 t81 t82 t83 b4 iH b8 b9 gG r h=>ie h (λc0 h=>be h λx3 eY h=>be h λdY iq h=>be h λeO ic h=>be h λir mN h=>let zA:SE:=[aI c0,(1,bW.idx eY),(8,dM iq),(1,zV.row ic),yu (ev24 n mN)];ie h (λc1 h=>be h λlW tu h=>ie h (λc2 h=>bD h zA [iC c1,(3,xp.idx tu),aZ c2]) λc2 h=>cI (b6_3 aS n h) zA [iC c1,(3,xp.idx tu),aZ c2]) λc1 h=>let zB:SE:=dJ zA [iC c1];ie h (λc2 h=>bD h zB [bb c2]) λc2 h=>let zC:SE:=dJ zB [bb c2];ie h (λc3 h=>bD h zC [cg c3]) λc3 h=>be h λD3 NO h=>be h λIh aut h=>let zD:SE:=dJ zC [cg c3,(5,xp.idx NO),(5,xp.idx aut)];ie h (λc4 h=>bD h zD [aZ c4]) λc4 h=>be h λx62 hx62 h=>ie h (λc5 h=>bD h zD [aZ c4,(7,bW.idx hx62),aZ c5]) λc5 h=>be h λx71 hx71 h=>cI (l6_0 (b6_2 (b6_3 aS n) n) n h) zD [aZ c4,(7,bW.idx hx62),aZ c5,(4,xp.idx hx71)]) λc0 h=>ra (gj h) [aI c0]
def Hh (dZ:Option Bool):Nat->cJ->Int->bn->Int->Int->ag->fL->ag->aW->aW->Option Bool
 |0=>λ_ _ _ _ _ _ _ _ _ _=>none
 |n+1=>anr dZ (Hh dZ n) n
def l6_4 {dZ} (gj:Ta dZ):∀n:Nat,KY (Hh dZ n)
 |0=>λ_ _ _ _ _ _ _ _ _ _ _ h=>nz h
 |n+1=>b6_4 gj (l6_4 gj n) n
def V4 (n:Nat):Option Bool:=
 (F17 n).bind λx1=>some x1
def b6_5 (n:Nat):Ta (V4 n):=λr h=>be h λx1 Jc h=>rr h [om (ev17 n Jc)]
def awq (n:Nat) (re:aK):Option Bool:=
 (F13 n re 400).bind λx3=>(F12 n x3).bind λx7=>(eW x7.2.2.1.length (bl ((x7.2.2.1.length:Int) - 1))).bind λiK=>(x7.2.2.1[0+iK]?).bind λgg=>(F19 n x7.2.2.2.2 gg 1).bind λwe=>(eW x7.2.2.1.length x7.2.2.2.1).bind λrV=>(x7.2.2.1[0+rV]?).bind λD4=>(F21 n x7.1 x7.2.1 D4.ax 1 we.1).bind λIi=>if Ii.2 !=0 then
 some false
 else
 (eW x7.2.2.1.length x7.2.2.2.1).bind λx61=>(x7.2.2.1[0+x61]?).bind λHG=>if (Ii.1.ai.length:Int) !=(HG.ai.length:Int) then
 some false
 else
 (eW x7.2.2.1.length x7.2.2.2.1).bind λx72=>(x7.2.2.1[0+x72]?).bind λx74=>(F26 n x74 1 Ii.1).bind λnC=>if nC !=0 then
 some false
 else
 (eW x7.2.2.1.length x7.2.2.2.1).bind λx83=>(x7.2.2.1[0+x83]?).bind λx86=>Hh (V4 n) n x7.2.1 x7.2.2.2.1 x86.ai (x86.ai.length:Int) 0 x7.1 x7.2.2.1 gg we.1 Ii.1
def b6_6 (n:Nat):K1 (A6 []) ajR (awq n):=λre r h=>be h λx3 eY h=>be h λx7 jK h=>be h λiK tv h=>be h λgg ll h=>be h λwe Bt h=>be h λrV Bs h=>be h λD4 abJ h=>be h λIi auv h=>let zA:SE:=[(2,.call (ev13 n eY) [] [(25,cV)]),(2,.call (ev12 n jK) [(25,0)] [(302801,200001),(302802,200002)]),(14,dM tv),(0,zV.row ll),(4,.call (ev19 n Bt) [(25,0)] []),(2,R45.fX 302801 x7.2.1),(0,.ord [0,1,2,3,4,5,6,7,12,8,9,10,11,13,14]),(4,dM Bs),(1,zV.row abJ),iW (ev21 n auv)];ie h (λc0 h=>bD h zA [dP c0]) λc0 h=>be h λx61 hx61 h=>be h λHG Vl h=>let zB:SE:=dJ zA [dP c0,(6,dM hx61),(1,zV.row Vl)];ie h (λc1 h=>bD h zB [bb c1]) λc1 h=>be h λx72 hx72 h=>be h λx74 hx74 h=>be h λnC aup h=>let zC:SE:=dJ zB [bb c1,(4,dM hx72),(0,zV.row hx74),yu (ev26 n aup)];ie h (λc2 h=>bD h zC [aI c2]) λc2 h=>be h λx83 hx83 h=>be h λx86 hx86 h=>cI (l6_4 (b6_5 n) n h) zC [aI c2,(3,dM hx83),(1,zV.row hx86)]
def F6:=awq
def ev6 (n:Nat):K1 (Cx E0 6 dv bQ) ajR (F6 n):=λ_ _ h=>ca (X:=x6) (b6_6 n h)
def amk (t:TypeId):Bool:= [5,22].contains t
def aJG (t:TypeId) (h:amk t=true):Ip Tryz.prog amk t=true:=by
 have gV:([5,22].all λt=>Ip Tryz.prog amk t)=true:=by kernel_rfl
 exact iJ.1 gV t (List.contains_iff_mem.1 h)
def ty5 (n:Nat) (xs:List AV) (h:jM Tryz.prog n 5 xs):∃x,xs=acq x:=by
 match n,h with
 |n+1,h=>
  simp only[jM,Tryz.underlying5] at h;obtain ⟨x,rfl,_⟩:=h;exact ⟨x,rfl⟩
def ty22 (n:Nat) (xs:List AV) (h:jM Tryz.prog n 22 xs):∃x,xs= [.qp 5 1 x.length (ym x)]:=by
 match n,h with
 |n+1,h=>
  simp only[jM,Tryz.underlying22] at h;obtain ⟨rows,rfl,hr⟩:=h;obtain ⟨y,rfl⟩:=aBM λr jB=>ty5 n r (hr r jB)
  exact ⟨y,by rw[nS,Wo,show Tryz.prog.cellsOf 5=1 from by kernel_rfl];try rfl⟩
def dw (h1: -9223372036854775808<=x) (h2:x<=9223372036854775807):bl x=x:=IntWalk.i64_in x ⟨h1,h2⟩
def bM (xs:List J) (i:Nat):idx xs (i:Int)=xs[i]? :=by simp[idx]
mutual
def fG:ah->Nat
 |⟨_,_,_,_,args⟩=>2+kM args
def kM:bO->Nat
 | []=>0
 |x::xs=>1+fG x+kM xs
end
def py (xs:bO):xs.length<=kM xs:=by
 induction xs with
 |nil=>simp[kM]
 |cons x xs ih=>simp[kM];omega
def zv:aP:=aP.mk 0 0 ByteArray.empty
def mE (v:aP):Bool:=
 if v.ay==1||v.ay==2 then v.bZ==0&&decide (v.bB=ByteArray.empty)
 else if v.ay==3 then (v.bZ==0||v.bZ==1)&&decide (v.bB=ByteArray.empty)
 else if v.ay==4 then decide (v.bB=ByteArray.empty)
 else if v.ay==5 then v.bZ==0&&decide ((v.bB.size:Int)<=64)
 else false
def gB (v:aP):Bool:=mE v&&decide (3<=v.ay)
def ajq (n:Nat) (v:aP):amV n v=some (mE v):=by
 unfold amV aeS mE;by_cases h1:v.ay=1<;>by_cases h2:v.ay=2<;>by_cases h3:v.ay=3<;>by_cases h4:v.ay=4<;>by_cases h5:v.ay=5<;>by_cases h6:v.bZ=0<;>by_cases h7:v.bZ=1<;>simp_all<;>simp[<-Int.not_le]
def aju (n:Nat) (v:aP):ane n v=some (mE v):=by
 have:=ajq n v;exact this
def afK (h:mE v=true):1<=v.ay/\v.ay<=5:=by
 unfold mE at h;split at h
 ·rename_i h1;simp at h1;omega
 ·split at h
  ·rename_i h1;simp at h1;omega
  ·split at h
   ·rename_i h1;simp at h1;omega
   ·split at h
    ·rename_i h1;simp at h1;omega
    ·simp at h
def AU (n:Nat) (v:aP):Om n v=some (gB v):=by
 unfold Om afi;rw[ajq];simp only[au,gB];cases mE v<;>simp<;>simp[<-Int.not_le]
def ajo (n:Nat) (v:aP):adM n v=some (gB v):=by
 unfold adM aeN;rw[aju];simp only[au,gB];cases h:mE v with
 |false=>simp
 |true=>
  have:=afK h;by_cases h1:v.ay=1
  ·simp[h1]
  ·by_cases h2:v.ay=2
   ·simp[h2]
   ·have:3<=v.ay:=by omega
    simp[h1,h2,this]
def WK:∀a b:List UInt8,Lib.compareBytes a b=if Op.bytesLess a b then -1 else if a=b then 0 else 1
 | [],[]=>by simp[Lib.compareBytes,Op.bytesLess]
 | [],_::_=>by simp[Lib.compareBytes,Op.bytesLess]
 |_::_,[]=>by simp[Lib.compareBytes,Op.bytesLess]
 |a::l,b::m=>by
  rw[Lib.compareBytes,Op.bytesLess,WK l m];by_cases h:a<b
  ·simp[h]
  ·by_cases h2:b<a
   ·have cZ:a≠b:=λe=>by subst e;exact absurd h2 (xu _)
    simp[h,h2,cZ]
   ·have he:a=b:=UInt8.le_antisymm (KA.1 h2) (KA.1 h);subst he;simp[xu]
def lj (a b:aP):Int:=
 if a.ay<b.ay then -1 else if b.ay<a.ay then 1
 else if a.bZ<b.bZ then -1 else if b.bZ<a.bZ then 1
 else if Op.bytesLess a.bB.toList b.bB.toList then -1 else if a.bB=b.bB then 0 else 1
def oT:∀a:List UInt8,Op.bytesLess a a=false
 | []=>by simp[Op.bytesLess]
 |a::l=>by simp[Op.bytesLess,oT l,xu]
def zK {b:ByteArray} (h:a.data.toList=b.data.toList):a=b:=by
 cases a;cases b;simp at h;simp[h]
def vZ (a:ByteArray):a.toList=a.data.toList:=by
 exact ByteArray.toList_eq a
def awd (n:Nat) (a b:ByteArray):amM n a b=some (if Op.bytesLess a.toList b.toList then -1 else if a=b then 0 else 1):=by
 unfold amM;rw[WK,vZ,vZ];by_cases h:a=b
 ·subst h;simp
 ·have:a.data.toList≠b.data.toList:=λe=>h (zK e)
  simp[h,this]
def aCS (n:Nat) (a b:Int):amT n a b=some (if a<b then -1 else if b<a then 1 else 0):=by
 unfold amT aeQ amP aex;by_cases h1:a<b
 ·simp[h1]
 ·by_cases h2:b<a<;>simp[h1,h2]
def aCR (n:Nat) (a b:Int):amS n a b=some (if a<b then -1 else if b<a then 1 else 0):=by
 unfold amS aeP amO aew;by_cases h1:a<b
 ·simp[h1]
 ·by_cases h2:b<a<;>simp[h1,h2]
def aDh (n:Nat) (a b:aP):anb n a b=some (lj a b):=by
 unfold anb afq awj aeO awf aev;rw[aCS,aCR,awd];let ⟨k,i,t⟩:=a;let ⟨k',i',t'⟩:=b;unfold lj;simp only[au];by_cases h1:k<k'
 ·have:k≠k':=by omega
  simp[h1,this]
 ·by_cases h2:k'<k
  ·have:k≠k':=by omega
   simp[h1,h2,this]
  ·have hk:k=k':=by omega
   subst hk;by_cases h3:i<i'
   ·have:i≠i':=by omega
    simp[h3,this]
   ·by_cases h4:i'<i
    ·have:i≠i':=by omega
     simp[h3,h4,this]
    ·have hi:i=i':=by omega
     subst hi;by_cases h5:t=t'
     ·subst h5;simp[oT]
     ·simp[h5]
def bE {xs:List J} {x:J} {l:List J} (h:xs.drop i=x::l):xs[i]? =some x/\xs.drop (i+1)=l/\i<xs.length:=by
 have h1:i<xs.length:=by
  by_cases hl:i<xs.length
  ·exact hl
  ·rw[pr (by omega)] at h;simp at h
 rw[qJ h1] at h;let ⟨q1,q2⟩:=OD h;exact ⟨by simp[h1,q1],q2,h1⟩
def su {x:ah} (h:x∈xs):fG x+xs.length<=kM xs:=by
 induction xs with
 |nil=>simp at h
 |cons y ys ih=>
  have hl:=py ys;simp only[kM,kr];rcases cH.1 h with rfl|h
  ·omega
  ·have:=ih h;omega
def Ok {J:Type} (x:Option J) (P:J->Prop):Prop:=∃a,x=some a/\P a
def Ok.pure {a:J} {P:J->Prop} (h:P a):Ok (some a) P:=⟨a,rfl,h⟩
def Ok.bind {O:Type} {x:Option J} {f:J->Option O} {P:J->Prop} {Q:O->Prop} (h:Ok x P) (k:∀a,P a->Ok (f a) Q):Ok (x.bind f) Q:=by
 obtain ⟨a,rfl,ha⟩:=h;exact k a ha
def Ok.mono {x:Option J} {P Q:J->Prop} (h:Ok x P) (k:∀a,P a->Q a):Ok x Q:=by
 let ⟨a,h1,h2⟩:=h;exact ⟨a,h1,k a h2⟩
def Ok.ite {b:Bool} {x y:Option J} {P:J->Prop} (h1:b=true->Ok x P) (h2:b=false->Ok y P):Ok (if b=true then x else y) P:=by
 cases b with
 |true=>simpa using h1 rfl
 |false=>simpa using h2 rfl
structure dk (c:aM):Prop where
 lo:0<=c.zR
 hi:c.zR<=c.oO.length
 len:c.oO.length<=1000
 byte:∀x∈c.oO,0<=x/\x<=255
def dL (xs ys:List J) (h:xs.length+ys.length<=1000000):app xs ys=some (xs++ys):=by unfold app;rw[aH (by omega)]
def aJA (n:Nat) (db:aK) (m:Int) (hb:∀x∈db,0<=x/\x<=255) (h0:0<=m) (h1:m<=1000):Ok (F13 n db m) dk:=by
 unfold F13 anV;have hc:∃k:Nat,(if m<(db.length:Int) then m else (db.length:Int))=(k:Int)/\k<=db.length/\k<=1000:=by
  by_cases h:m<(db.length:Int)
  ·exact ⟨m.toNat,by rw[aH h];omega,by omega,by omega⟩
  ·exact ⟨db.length,by rw[aL h],dg _,by omega⟩
 let ⟨k,e,k1,k2⟩:=hc;rw[e];have h2:cut db none (some (k:Int))=some (db.take k):=by simp[cut,k1]
 rw[h2,au,dL _ _ (by simp;omega),au]
 refine Ok.pure ⟨Int.le_refl _,by simp,by simp;omega,λx hx=> ?_⟩
 exact hb x (qG (by simpa using hx))
def ka (n:Nat) (c:aM) (m:Int) (h:dk c):Ok (rz n c m) λr=>dk r.2/\0<=r.1/\(1<=m->r.1<m)/\(m<1->r.1=0)/\r.1<=255:=by
 unfold rz anS;refine Ok.ite (λh1=>Ok.pure ⟨h,Int.le_refl _,λh=>by omega,λ_=>rfl,by omega⟩) λh1=> ?_
 simp at h1;refine Ok.ite (λh2=>Ok.pure ⟨h,Int.le_refl _,λh=>by omega,λ_=>rfl,by omega⟩) λh2=> ?_
 simp at h2;have h3:=h.lo;have h4:=h.len;rw[dw (x:=c.zR+1) (by omega) (by omega),dw (by omega) (by omega)]
 have e:c.zR+1-1=(c.zR.toNat:Int):=by omega
 have cY:c.zR.toNat<c.oO.length:=by omega
 rw[e,bM,dI cY,au];have hb:=h.byte (c.oO[c.zR.toNat]) (rS _);rw[dw (by omega) (by omega)]
 have hm:m≠0:=by omega
 simp only[rem,hm,aA,au];have q1:=Int.tmod_nonneg m hb.1;have q2:=Int.tmod_lt_of_pos c.oO[c.zR.toNat] (by omega:0<m)
 have q3:c.oO[c.zR.toNat].tmod m<=c.oO[c.zR.toNat]:=by
  rw[Int.tmod_eq_emod_of_nonneg hb.1];have:=Int.emod_add_mul_ediv c.oO[c.zR.toNat] m;have h5:0<=m*(c.oO[c.zR.toNat] / m):=Int.mul_nonneg (by omega) (Int.ediv_nonneg hb.1 (by omega))
  omega
 exact Ok.pure ⟨⟨by simp;omega,by simp;omega,h4,h.byte⟩,q1,λ_=>q2,λh=>by omega,by simp;omega⟩
def tL (n:Nat) (c:aM) (m:Int) (h:dk c):Ok (Df n c m) λr=>dk r.2:=by
 unfold Df anq;refine Ok.bind (ka n c m h) λr hr=> ?_
 exact Ok.pure hr.1
def aDg (n:Nat) (c:aM) (h:dk c):Ok (ana n c) λr=>dk r.2/\ -9223372036854775808<=r.1/\r.1<=9223372036854775807:=by
 unfold ana afn;refine Ok.bind (ka n c 12 h) λr ⟨hr,h0,_,_,h2⟩=> ?_
 refine Ok.ite (λ_=>Ok.pure ⟨hr,by simp,by simp⟩) λ_=> ?_
 refine Ok.ite (λ_=>Ok.pure ⟨hr,by simp,by simp⟩) λ_=> ?_
 refine Ok.ite (λ_=>Ok.pure ⟨hr,by simp,by simp⟩) λ_=> ?_
 have q1:=Int.tmod_nonneg 4 h0;have q2:=Int.tmod_lt_of_pos r.1 (by omega:(0:Int)<4)
 exact Ok.pure ⟨hr,by simp;omega,by simp;omega⟩
def Xi (c:aM):∀(k n:Nat) (s:ByteArray) (i:Int),i=64-k->k<=64->s.size=64-k->k<n->Ok (FB (λl b=>some (l,b)) n s i c) λr=>r.2=c/\r.1.size<=64
 |0,n+1,s,i,hi,_,hs,_=>by
  have h:¬i<64:=by omega
  simp only[FB,Sn,h,aX,aC,aA];exact Ok.pure ⟨rfl,by simp;omega⟩
 |k+1,n+1,s,i,hi,hk,hs,hn=>by
  have h:i<64:=by omega
  simp only[FB,Sn,h,aU,aB];have hc:cat s (ByteArray.mk #[255])=some (s++ByteArray.mk #[255]):=by
   have:(ByteArray.mk #[255]).size=1:=rfl;unfold cat;rw[aH (by omega)]
  rw[hc,au,dw (by omega) (by omega)]
  have mH:(s++ByteArray.mk #[255]).size=s.size+1:=by rw[SS];rfl
  exact Xi c k n _ _ (by omega) (by omega) (by omega) (by omega)
 |_,0,_,_,_,_,_,hn=>by simp at hn
def Xh (c:aM):∀(k n:Nat) (s:ByteArray) (i:Int),i=64-k->k<=64->s.size=64-k->k<n->Ok (FA (λl b=>some (l,b)) n s i c) λr=>r.2=c/\r.1.size<=64
 |0,n+1,s,i,hi,_,hs,_=>by
  have h:¬i<64:=by omega
  simp only[FA,Sm,h,aX,aC,aA];exact Ok.pure ⟨rfl,by simp;omega⟩
 |k+1,n+1,s,i,hi,hk,hs,hn=>by
  have h:i<64:=by omega
  simp only[FA,Sm,h,aU,aB];have hc:cat s (ByteArray.mk #[98])=some (s++ByteArray.mk #[98]):=by
   have:(ByteArray.mk #[98]).size=1:=rfl;unfold cat;rw[aH (by omega)]
  rw[hc,au,dw (by omega) (by omega)]
  have mH:(s++ByteArray.mk #[98]).size=s.size+1:=by rw[SS];rfl
  exact Xh c k n _ _ (by omega) (by omega) (by omega) (by omega)
 |_,0,_,_,_,_,_,hn=>by simp at hn
def aDf (n:Nat) (hn:100<=n) (c:aM) (h:dk c):Ok (amZ n c) λr=>dk r.2/\r.1.size<=64:=by
 unfold amZ afm;refine Ok.bind (ka n c 10 h) λr ⟨hr,_⟩=> ?_
 refine Ok.ite (λ_=>Ok.pure ⟨hr,tP rfl⟩) λ_=> ?_
 refine Ok.ite (λ_=>Ok.pure ⟨hr,tP rfl⟩) λ_=> ?_
 refine Ok.ite (λ_=>Ok.pure ⟨hr,tP rfl⟩) λ_=> ?_
 refine Ok.ite (λ_=>Ok.pure ⟨hr,tP rfl⟩) λ_=> ?_
 refine Ok.ite (λ_=>Ok.pure ⟨hr,tP rfl⟩) λ_=> ?_
 refine Ok.ite (λ_=>Ok.pure ⟨hr,tP rfl⟩) λ_=> ?_
 refine Ok.ite (λ_=>Ok.pure ⟨hr,tP rfl⟩) λ_=> ?_
 refine Ok.ite (λ_=>Ok.pure ⟨hr,tP rfl⟩) λ_=> ?_
 refine Ok.ite (λ_=> ?_) λ_=> ?_
 ·exact (Xi r.2 64 n ByteArray.empty 0 (by omega) (by omega) rfl (by omega)).mono λx ⟨e,hx⟩=>⟨by rw[e];exact hr,hx⟩
 ·exact (Xh r.2 64 n ByteArray.empty 0 (by omega) (by omega) rfl (by omega)).mono λx ⟨e,hx⟩=>⟨by rw[e];exact hr,hx⟩
def Ce (n:Nat) (hn:100<=n) (c:aM) (k:Int) (h:dk c) (hk:3<=k) (jC:k<=5):Ok (F93 n c k) λr=>dk r.2/\r.1.ay=k/\gB r.1=true:=by
 unfold F93 ann;refine Ok.ite (λh3=> ?_) λh3=> ?_
 ·simp at h3;refine Ok.bind (ka n c 2 h) λr ⟨hr,h0,h1,_⟩=>Ok.pure ⟨hr,rfl,?_⟩
  have h1:=h1 (by omega)
  have:r.1=0\/r.1=1:=by omega
  rcases this with e|e<;>simp[gB,mE,h3,e]
 ·simp at h3;refine Ok.ite (λh4=> ?_) λh4=> ?_
  ·simp at h4;refine Ok.bind (aDg n c h) λr ⟨hr,_⟩=>Ok.pure ⟨hr,rfl,by simp[gB,mE,h4]⟩
  ·simp at h4;refine Ok.bind (aDf n hn c h) λr ⟨hr,hs⟩=>Ok.pure ⟨hr,by simp;omega,?_⟩
   have:(r.1.size:Int)<=64:=by omega
   simp[gB,mE,this]
end Go.Proofs.YtbnkhmoelnfjoaaGreat
end
