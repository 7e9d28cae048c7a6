/- Part. -/
import Derived.Test.YtbnkhmoelnfjoaaGreatP5
import Derived.Test.YtbnkhmoelnfjoaaGreatP4
import Derived.KernelRfl
set_option linter.all false
set_option maxRecDepth 100000
noncomputable section
namespace Go.Proofs.YtbnkhmoelnfjoaaGreat
open Go.RowKit Go.bZ
def Li {E:Env} (hP:E.P=Tryz.prog) (hT:E.ty=tyT) (h:E.v8= [(182,146),(184,147),(185,88),(165,1048576),(219,1048577)]):∀k c,wi k E.v8=some c->Ap E k c:=λk c hc=>by
 rw[h] at hc;have hc:aP (Nat.beq 182 k) (some 146) (wi k _)=some c:=hc;rw[bG] at hc;split at hc
 ·rename_i e;obtain rfl:=(beq_iff _ _).1 e;cases hc;exact ⟨λh=>absurd h (by decide),λ_ ie hie=>⟨λ_=>by rw[hT] at hie;rw[hP,show ie.size=2 from by rw[show ie=_ from (kW (hie.symm.trans (show tyT.get 73=some _ from rfl)))];kernel_rfl];exact avc,λh=>absurd rfl h⟩⟩
 have hc:aP (Nat.beq 184 k) (some 147) (wi k _)=some c:=hc;rw[bG] at hc;split at hc
 ·rename_i e;obtain rfl:=(beq_iff _ _).1 e;cases hc;exact ⟨λh=>absurd h (by decide),λ_ ie hie=>⟨λh=>absurd h (by decide),λ_=>by rw[hT] at hie;rw[hP,show ie.size=2 from by rw[show ie=_ from (kW (hie.symm.trans (show tyT.get 73=some _ from rfl)))];kernel_rfl];exact atI⟩⟩
 have hc:aP (Nat.beq 185 k) (some 88) (wi k _)=some c:=hc;rw[bG] at hc;split at hc
 ·rename_i e;obtain rfl:=(beq_iff _ _).1 e;cases hc;exact ⟨λh=>absurd h (by decide),λ_ ie hie=>⟨λ_=>by rw[hT] at hie;rw[hP,show ie.size=5 from by rw[show ie=_ from (kW (hie.symm.trans (show tyT.get 44=some _ from rfl)))];kernel_rfl];exact avb,λh=>absurd rfl h⟩⟩
 have hc:aP (Nat.beq 165 k) (some 1048576) (wi k _)=some c:=hc;rw[bG] at hc;split at hc
 ·rename_i e;obtain rfl:=(beq_iff _ _).1 e;cases hc;exact ⟨λ_=>by rw[hP];exact aoI,λh=>absurd h (by decide)⟩
 have hc:aP (Nat.beq 219 k) (some 1048577) none=some c:=hc;rw[bG] at hc;split at hc
 ·rename_i e;obtain rfl:=(beq_iff _ _).1 e;cases hc;exact ⟨λ_=>by rw[hP];exact acb,λh=>absurd h (by decide)⟩
 cases hc
def arc {lt eq:List (SI×SI×Bool)} {done:List (Nat×SV)} {join:List Nat} {v8:List (Nat×Nat)} {Dl stop:List Nat} {g:Gh} (h:dV ⟨Tryz.prog,tyT,Vd,lt,eq,done,join,v8,Dl,stop⟩ g):dV ⟨Tryz.prog,tyT,fnT,lt,eq,done,join,v8,Dl,stop⟩ g:=
 ⟨h.ty,λf x hx=>h.fn f x (ahT f x hx),h.lt,h.eq,h.mix,h.sz⟩
def alM:JV Tryz.prog 17 (.bool true):=
 ava (E:=env [] [(182,146),(184,147),(185,88),(165,1048576),(219,1048577)] [] [] [] [] []) (Ou.envS (λk v h=>by cases h) ahT (Li (E:=env [] [(182,146),(184,147),(185,88),(165,1048576),(219,1048577)] [] [] [] [] []) rfl rfl rfl)) (arc (Ou.ays (λa b r h=>by cases h) (λa b r h=>by cases h))) runB (by kernel_rfl) (λfn hf=>by
  cases hf;kernel_rfl)
end Go.Proofs.YtbnkhmoelnfjoaaGreat
namespace Go.Proofs.YtbnkhmoelnfjoaaGreat
open Go.bZ
def E0:Env:=⟨Tryz.prog,tyT,Vd,[],[],[],[],[],[],[]⟩
instance:Hm E0:=⟨λk fn h=>have ⟨h1,h2,_⟩:=p7.get Ou.fn k fn h;⟨h1,h2⟩⟩
def auT (x:Int):List AV:= [.int .i64 x]
def eo (xs:List Int):List (List AV):=xs.map auT
def aoP (xs:List Int):eo xs=xs.map auT:=rfl
def R3:RowsK auT eo:=⟨aoP⟩
def abT (x:Int):List AV:= [.int .u8 x]
def yj (xs:List Int):List (List AV):=xs.map abT
def V5 (xs:List Int):yj xs=xs.map abT:=rfl
def R5:RowsK abT yj:=⟨V5⟩
def enc9 (x:ByteArray):List AV:= [.str x]
def Cg (xs:List ByteArray):List (List AV):=xs.map enc9
structure cJ where
 av:ByteArray
 ax:Int
def GP (x:cJ):List AV:= [.str x.av,.int .i64 x.ax]
def bE (xs:List cJ):List (List AV):=xs.map GP
def ajM (xs:List cJ):bE xs=xs.map GP:=rfl
def eL:RowsK GP bE:=⟨ajM⟩
structure bk where
 ae:(List Int)
 aG:Int
def BG (x:bk):List AV:= [.slice 3 1 x.ae.length (eo x.ae),.int .i64 x.aG]
def aQ (xs:List bk):List (List AV):=xs.map BG
def afC (xs:List bk):aQ xs=xs.map BG:=rfl
def eN:RowsK BG aQ:=⟨afC⟩
structure aR where
 ax:Int
 bX:Int
 bB:ByteArray
def lN (x:aR):List AV:= [.int .i64 x.ax,.int .i64 x.bX,.str x.bB]
def fG (xs:List aR):List (List AV):=xs.map lN
def ajS (xs:List aR):fG xs=xs.map lN:=rfl
def p8:RowsK lN fG:=⟨ajS⟩
structure aT where
 ax:Int
 cQ:Int
 aD:aR
def pR (x:aT):List AV:= [.int .i64 x.ax,.int .i64 x.cQ,.int .i64 x.aD.ax,.int .i64 x.aD.bX,.str x.aD.bB]
def Lf (xs:List aT):List (List AV):=xs.map pR
def afF (xs:List aT):Lf xs=xs.map pR:=rfl
def amq:RowsK pR Lf:=⟨afF⟩
structure ah where
 bh:Int
 eM:Int
 cm:aT
 bL:aT
 fArgs:(List ah)
mutual
def Vg:ah->List AV
 |⟨bh,eM,cm,bL,fArgs⟩=> [.int .i64 bh,.int .i64 eM,.int .i64 cm.ax,.int .i64 cm.cQ,.int .i64 cm.aD.ax,.int .i64 cm.aD.bX,.str cm.aD.bB,.int .i64 bL.ax,.int .i64 bL.cQ,.int .i64 bL.aD.ax,.int .i64 bL.aD.bX,.str bL.aD.bB,.slice 107 13 fArgs.length (aJ fArgs)]
def aJ:List ah->List (List AV)
 | []=> []
 |x::xs=>Vg x::aJ xs
end
def fk (x:ah):List AV:= [.int .i64 x.bh,.int .i64 x.eM,.int .i64 x.cm.ax,.int .i64 x.cm.cQ,.int .i64 x.cm.aD.ax,.int .i64 x.cm.aD.bX,.str x.cm.aD.bB,.int .i64 x.bL.ax,.int .i64 x.bL.cQ,.int .i64 x.bL.aD.ax,.int .i64 x.bL.aD.bX,.str x.bL.aD.bB,.slice 107 13 x.fArgs.length (aJ x.fArgs)]
def alp (x:ah):Vg x=fk x:=by cases x;simp[Vg,fk]
def afE (xs:List ah):aJ xs=xs.map fk:=by
 induction xs with
 |nil=>simp[aJ]
 |cons x xs ih=>simp[aJ,ih,alp]
def eD:RowsK fk aJ:=⟨afE⟩
structure aj where
 av:ByteArray
 ae:(List cJ)
 ay:Int
 af:(List bk)
 ak:(List ah)
def iC (x:aj):List AV:= [.str x.av,.slice 73 2 x.ae.length (bE x.ae),.int .i64 x.ay,.slice 121 2 x.af.length (aQ x.af),.slice 107 13 x.ak.length (aJ x.ak)]
def cZ (xs:List aj):List (List AV):=xs.map iC
def ajQ (xs:List aj):cZ xs=xs.map iC:=rfl
def bW:RowsK iC cZ:=⟨ajQ⟩
structure ag where
 aw:Int
 ai:(List aj)
def dP (x:ag):List AV:= [.int .i64 x.aw,.slice 44 5 x.ai.length (cZ x.ai)]
def OW (xs:List ag):List (List AV):=xs.map dP
def ajT (xs:List ag):OW xs=xs.map dP:=rfl
def EY:RowsK dP OW:=⟨ajT⟩
structure ji where
 f0:aR
 f1:aR
def yY (x:ji):List AV:= [.int .i64 x.f0.ax,.int .i64 x.f0.bX,.str x.f0.bB,.int .i64 x.f1.ax,.int .i64 x.f1.bX,.str x.f1.bB]
def cR (xs:List ji):List (List AV):=xs.map yY
def afD (xs:List ji):cR xs=xs.map yY:=rfl
def DC:RowsK yY cR:=⟨afD⟩
def als (x:(List ji)):List AV:= [.slice 110 6 x.length (cR x)]
def Iv (xs:List (List ji)):List (List AV):=xs.map als
def ajR (xs:List (List ji)):Iv xs=xs.map als:=rfl
def R39:RowsK als Iv:=⟨ajR⟩
structure aF where
 bh:Int
 aG:Int
 aO:Int
 eJ:Int
 av:ByteArray
 ax:Int
 aD:aR
 bc:(List ji)
 ar:aj
def mr (x:aF):List AV:= [.int .i64 x.bh,.int .i64 x.aG,.int .i64 x.aO,.int .i64 x.eJ,.str x.av,.int .i64 x.ax,.int .i64 x.aD.ax,.int .i64 x.aD.bX,.str x.aD.bB,.slice 110 6 x.bc.length (cR x.bc),.str x.ar.av,.slice 73 2 x.ar.ae.length (bE x.ar.ae),.int .i64 x.ar.ay,.slice 121 2 x.ar.af.length (aQ x.ar.af),.slice 107 13 x.ar.ak.length (aJ x.ar.ak)]
def mB (xs:List aF):List (List AV):=xs.map mr
def ajP (xs:List aF):mB xs=xs.map mr:=rfl
def R45:RowsK mr mB:=⟨ajP⟩
structure aL where
 oN:(List Int)
 zP:Int
def fJ (x:aL):List AV:= [.qK 5 1 x.oN.length (yj x.oN),.int .i64 x.zP]
def alq (x:(List aR)):List AV:= [.slice 38 3 x.length (fG x)]
def nV (xs:List (List aR)):List (List AV):=xs.map alq
def ajN (xs:List (List aR)):nV xs=xs.map alq:=rfl
def o8:RowsK alq nV:=⟨ajN⟩
def alr (x:(List (List aR))):List AV:= [.slice 70 1 x.length (nV x)]
def wg (xs:List (List (List aR))):List (List AV):=xs.map alr
def ajO (xs:List (List (List aR))):wg xs=xs.map alr:=rfl
def C3:RowsK alr wg:=⟨ajO⟩
structure aW where
 ai:(List (List (List aR)))
def ud (x:aW):List AV:= [.slice 68 1 x.ai.length (wg x.ai)]
structure jU where
 BB:(List ag)
 Jo:(List aF)
def ER (x:jU):List AV:= [.qK 25 2 x.BB.length (OW x.BB),.qK 46 15 x.Jo.length (mB x.Jo)]
structure ep where
 iv:Int
 fK:Int
 dM:Bool
 fI:aR
 gY:(List (List ji))
def EP (x:ep):List AV:= [.int .i64 x.iv,.int .i64 x.fK,.bool x.dM,.int .i64 x.fI.ax,.int .i64 x.fI.bX,.str x.fI.bB,.slice 39 1 x.gY.length (Iv x.gY)]
def vI (xs:List ep):List (List AV):=xs.map EP
def afB (xs:List ep):vI xs=xs.map EP:=rfl
def amp:RowsK EP vI:=⟨afB⟩
def abV (x:Nat):List AV:= [(aKv x)]
def Le (xs:List Nat):List (List AV):=xs.map abV
def afA (xs:List Nat):Le xs=xs.map abV:=rfl
def JM:RowsK abV Le:=⟨afA⟩
structure aE where
 bg:ag
 fm:aF
def BF (x:aE):List AV:= [.int .i64 x.bg.aw,.slice 44 5 x.bg.ai.length (cZ x.bg.ai),.int .i64 x.fm.bh,.int .i64 x.fm.aG,.int .i64 x.fm.aO,.int .i64 x.fm.eJ,.str x.fm.av,.int .i64 x.fm.ax,.int .i64 x.fm.aD.ax,.int .i64 x.fm.aD.bX,.str x.fm.aD.bB,.slice 110 6 x.fm.bc.length (cR x.fm.bc),.str x.fm.ar.av,.slice 73 2 x.fm.ar.ae.length (bE x.fm.ar.ae),.int .i64 x.fm.ar.ay,.slice 121 2 x.fm.ar.af.length (aQ x.fm.ar.af),.slice 107 13 x.fm.ar.ak.length (aJ x.fm.ar.ak)]
structure iL where
 lp:(List Int)
 mN:(List Int)
def Jt (x:iL):List AV:= [.slice 3 1 x.lp.length (eo x.lp),.slice 3 1 x.mN.length (eo x.mN)]
def abU (x:(List ep)):List AV:= [.slice 140 7 x.length (vI x)]
structure kF where
 f0:aT
 f1:aT
def P5 (x:kF):List AV:= [.int .i64 x.f0.ax,.int .i64 x.f0.cQ,.int .i64 x.f0.aD.ax,.int .i64 x.f0.aD.bX,.str x.f0.aD.bB,.int .i64 x.f1.ax,.int .i64 x.f1.cQ,.int .i64 x.f1.aD.ax,.int .i64 x.f1.aD.bX,.str x.f1.aD.bB]
abbrev aK:=List Int
abbrev gz:=List ji
abbrev mR:=List ep
abbrev br:=List aj
abbrev cE:=List aR
abbrev cO:=List cJ
abbrev fO:=List ag
abbrev te:=List aT
abbrev cA:=List bk
abbrev bN:=List ah
abbrev cG:=List aF
abbrev ye:=List (List ji)
abbrev bS:=List (List aR)
abbrev ey:=List (List (List aR))
abbrev Wf0:=aK->Option aK
abbrev Wf1:=ByteArray->aL->Option (ByteArray×aL)
abbrev Wf2:=ByteArray->Int->aL->Option (ByteArray×aL)
abbrev Wf3:=aK->Int->aL->aT->te->Option (aT×aL)
abbrev Wf4:=Int->aL->aT->te->Option (aT×aL)
abbrev Wf5:=aL->ah->ah->bN->Option (ah×aL)
abbrev Wf6:=Int->Option Int
abbrev Wf7:=Int->Int->cO->Int->cJ->cJ->Int->Bool->aj->Option Bool
abbrev Wf8:=cA->Int->Int->Int->br->Int->aK->Int->br->Int->aj->aj->Int->ag->aj->bk->Option Bool
abbrev Wf9:=cA->Int->Int->ag->aj->Option Bool
abbrev JK:=ag->Option Int
abbrev Vp:=br->Int->Int->ag->Option Int
abbrev Vo:=Int->Int->ag->Option Int
abbrev Wf13:=aj->aj->cO->cA->Option aj
abbrev avz:=aK->Int->Int->Option aK
abbrev amn:=aK->ah->Option aK
abbrev amm:=Int->cA->Int->Int->aj->Option Bool
abbrev aml:=Int->bN->Int->Int->Option Bool
abbrev amk:=ah->ah->bN->Option ah
abbrev acz:=Int->Int->Int->Int->cO->bN->aj->aj->cA->Option (aj×cO×cA×bN)
abbrev Wf20:=Int->Int->cO->bN->aj->aj->cA->Option (aj×cO×cA×bN)
abbrev Wf21:=cO->bN->aj->aj->cA->Option (aj×cO×cA×bN)
abbrev Wf22:=gz->Int->Int->Int->gz->Int->Int->Int->Int->gz->Int->Int->ji->Option Bool
abbrev Wf23:=gz->Int->Int->Int->gz->Int->Int->Int->Int->ji->Option Bool
abbrev Wf24:=gz->Int->gz->Int->Int->Option Bool
abbrev Wf25:=ag->aF->ag->ag->br->Option (ag×Bool)
abbrev Wf26:=Nat->aF->ag->ag->cO->br->Option (ag×Bool)
abbrev Wf27:=ag->ag->br->Option (ag×Bool)
abbrev Wf28:=Int->Int->ag->aF->ag->ag->aj->cO->bN->br->br->aj->Nat->Nat->cA->Option (ag×Bool)
abbrev avy:=Int->Int->ag->aF->ag->ag->br->br->Nat->Option (ag×Bool)
abbrev Wf30:=ag->ag->br->br->Nat->Option (ag×Bool)
abbrev Vn:=Int->aL->ag->cG->Option (cG×aL)
abbrev Wf32:=aL->cG->Option (cG×aL)
abbrev avx:=Int->Int->aK->Int->Int->aL->cE->Option (cE×aL)
abbrev amj:=cE->cE->Option Int
abbrev Wf35:=Int->cE->cE->Bool->bS->Int->Int->ey->ag->aW->aW->bS->Option (aW×ey)
abbrev Wf36:=Int->cE->Bool->ey->aW->aW->bS->Option (aW×ey)
abbrev ami:=Int->Int->Int->aL->ag->aW->aW->ey->Option (aW×aL)
abbrev Wf38:=aL->aW->aW->ey->Option (aW×aL)
abbrev Wf39:=br->Int->Int->cA->Int->Int->Int->br->Int->ag->aj->bk->Option Bool
abbrev Wf40:=br->Int->Int->cA->Int->Int->ag->aj->Option Bool
abbrev amh:=br->Int->Int->ag->Option Bool
abbrev Wf42:=bN->Int->Int->iL->Option Bool
abbrev avw:=Int->cE->Int->Int->aj->Option Bool
abbrev amg:=Int->ey->Int->Int->ag->Option Int
abbrev Wf45:=aE->ah->ah->bN->Option ah
abbrev Wf46:=aj->aj->aj->cO->cA->Option aj
abbrev Wf47:=aj->aj->cO->bN->cA->Option aj
abbrev Wf48:=ag->ag->br->Option ag
abbrev Wf49:=kF->Int->aK->ah->Option (aK×aK)
abbrev Wf50:=aK->ah->Option (aK×aK)
abbrev Wf51:=kF->Int->aK->ah->Option aK
abbrev amf:=Nat->Int->Int->aE->br->aj->cA->Option aE
abbrev JJ:=Int->Int->aE->br->Option (Bool×aE)
abbrev ame:=aE->br->Option (Bool×aE)
abbrev amd:=Int->Int->Int->bS->Option bS
abbrev Wf56:=Int->gz->Int->Int->aR->aR->Option aR
abbrev amc:=aR->aR->Option aR
abbrev avv:=cG->Int->Int->ep->ep->ye->Option ep
abbrev Wf59:=ep->ep->ye->Option ep
abbrev Wf60:=cE->mR->Int->Int->cE->Option cE
abbrev amb:=Int->Int->aW->aW->jU->aW->ey->Option (aW×Int)
abbrev Wf62:=aW->aW->ey->Option (aW×Int)
abbrev ama:=cG->Int->Int->Int->Int->bS->Int->Int->ag->fO->aW->aW->Option Bool
abbrev alZ:=cG->Int->Int->Int->ag->fO->aW->aW->Option Bool
noncomputable section
def ja:List Sh:= [.d,.o false [.d,.d],.d,.o false [.o false [.d],.d],.o false [.d,.d,.d,.d,.d,.d,.d,.d,.d,.d,.d,.d,.d]]
def iH (a:aj):List AV:= [.str a.av,.undef,.int .i64 a.ay,.undef,.undef]
def q2_ (a:ah):List AV:= [.int .i64 a.bh,.int .i64 a.eM,.int .i64 a.cm.ax,.int .i64 a.cm.cQ,.int .i64 a.cm.aD.ax,.int .i64 a.cm.aD.bX,.str a.cm.aD.bB,.int .i64 a.bL.ax,.int .i64 a.bL.cQ,.int .i64 a.bL.aD.ax,.int .i64 a.bL.aD.bX,.str a.bL.aD.bB,.dD]
def cg (a:Int):AV:= .int .i64 a
def q4_ (a:ah) (b:Nat):List AV:= [cg a.bh,.int .i64 a.eM,.int .i64 a.cm.ax,.int .i64 a.cm.cQ,.int .i64 a.cm.aD.ax,.int .i64 a.cm.aD.bX,.str a.cm.aD.bB,.int .i64 a.bL.ax,.int .i64 a.bL.cQ,.int .i64 a.bL.aD.ax,.int .i64 a.bL.aD.bX,.str a.bL.aD.bB,.ms 45 13 0 b]
def qN (a:ag) (b c:Nat):Bx:= .flat 25 [.int .i64 a.aw,.ms b 5 0 c]
def q6_:List AV:= [.int .i64 0,.int .i64 0,.int .i64 0,.int .i64 0,.int .i64 0,.int .i64 0,.str ByteArray.empty,.int .i64 0,.int .i64 0,.int .i64 0,.int .i64 0,.str ByteArray.empty,.dD]
def q7_ (a:ag):AV:= .int .i64 a.aw
def q8_ (a:aj) (b c d e f g:Nat) (h:aj) (i:cO) (j:cA) (k:bN):List (Nat×Bx):= [(3,.flat 44 [.str a.av,.ms b 2 0 c,.int .i64 a.ay,.ms d 2 0 e,.ms f 13 0 g]),(6,.flat 44 [.str h.av,.dD,.int .i64 h.ay,.dD,.dD]),(b,.rows false 73 2 (bE i)),(d,.tree 121 2 [.o false [.d],.d] (aQ j) []),(f,.rows false 107 13 (aJ k))]
def q9_ (a:aj) (b c d e f g:Nat):Bx:= .flat 44 [.str a.av,.ms b 2 0 c,.int .i64 a.ay,.ms d 2 0 e,.ms f 13 0 g]
def atc (a b:ep) (c:Nat) (d:ye):List (Nat×Bx):= [(6,.flat 140 [.int .i64 a.iv,.int .i64 a.fK,.bool a.dM,.int .i64 a.fI.ax,.int .i64 a.fI.bX,.str a.fI.bB,.dD]),(7,.flat 140 [.int .i64 b.iv,.int .i64 b.fK,.bool b.dM,.int .i64 b.fI.ax,.int .i64 b.fI.bX,.str b.fI.bB,.ms 44 1 0 c]),(44,.rows true 39 1 (Iv d))]
def aao (a:aj):Bx:= .flat 44 [.str a.av,.dD,.int .i64 a.ay,.dD,.dD]
def Ni (a:cA):Bx:= .tree 121 2 [.o false [.d],.d] (aQ a) []
def q13_ (a:List AV) (b c:ah) (d:Nat) (e:bN):List (Nat×Bx):= [(0,.flat 97 a),(8,.flat 107 (q2_ b)),(12,.flat 107 [cg c.bh,.int .i64 c.eM,.int .i64 c.cm.ax,.int .i64 c.cm.cQ,.int .i64 c.cm.aD.ax,.int .i64 c.cm.aD.bX,.str c.cm.aD.bB,.int .i64 c.bL.ax,.int .i64 c.bL.cQ,.int .i64 c.bL.aD.ax,.int .i64 c.bL.aD.bX,.str c.bL.aD.bB,.ms 104 13 0 d]),(104,.rows true 107 13 (aJ e))]
def zk:List Sh:= [.o false [.d],.d]
def jK (a b:Nat):AV:= .ms a 2 0 b
def xM (a:aK):Bx:= .rows false 3 1 (eo a)
def zj (a:br):Bx:= .tree 44 5 ja (cZ a) []
def xL (a:bS):Bx:= .rows true 70 1 (nV a)
def o9 (a:List AV):Bx:= .flat 97 a
def Gf (a:bS):Bx:= .rows false 70 1 (nV a)
def Ge (a:fO):Bx:= .rows false 25 2 (OW a)
def IB (a:cE):Bx:= .rows true 38 3 (fG a)
def oE (a:Int):List AV:= [.undef,cg a]
def Gd (a:cG):Bx:= .rows false 46 15 (mB a)
def jt (a:List AV):Bx:= .flat 25 a
def q26_ (a:Nat) (b:aj) (c d:Nat):List (Nat×Bx):= [(a,.rows false 73 2 (bE b.ae)),(c,.tree 121 2 zk (aQ b.af) []),(d,.rows false 107 13 (aJ b.ak))]
def xK (a:ag):Bx:= .flat 25 [q7_ a,.dD]
def q28_ (a:aj) (b c d:Nat):List AV:= [.str a.av,jK b a.ae.length,.int .i64 a.ay,.ms c 2 0 a.af.length,.ms d 13 0 a.ak.length]
def IA (a:List (List AV)) (b c d e f g h i j:Nat):Bx:= .tree 44 5 ja a [(b,.ms c 13 0 d),(e,jK f g),(h,jK i j)]
def Iz (a:ey):Bx:= .rows false 68 1 (wg a)
def Nh (a:cO):Bx:= .rows false 73 2 (bE a)
def Dj:Bx:= .flat 51 [.dD]
def UO (a:bN):Bx:= .rows true 107 13 (aJ a)
def Gc (a:aj):AV:= .int .i64 a.ay
def akf (a b:List AV) (c:te):List (Nat×Bx):= [(0,o9 a),(8,.flat 105 b),(29,.rows true 105 5 (Lf c))]
def qP (a:List AV):Bx:= .flat 107 a
def UN (a:aK):Bx:= .rows true 3 1 (eo a)
def UM (a:ag) (b:Nat):Bx:= .flat 25 [q7_ a,.ms 32 5 0 b]
def qO (a:List AV):Bx:= .flat 44 a
def ake:Bx:= .flat 25 [.int .i64 0,.dD]
def rA (a:List AV):List (Nat×Bx):= [(0,o9 a)]
def qb (a b:Nat):AV:= .ms a 1 0 b
def akd (a:bN):Bx:= .rows false 107 13 (aJ a)
def ux (a:List AV):Bx:= .flat 46 a
def atb (a:ey):Bx:= .tree 68 1 [.o false [.d]] (wg a) []
def akc:AV:= .fn 198 [] [.loc 1 0]
def akb (a:cO):Bx:= .rows true 73 2 (bE a)
def UL:AV:= .fn 67 [] []
def xJ (a:List AV):Bx:= .flat 38 a
end
abbrev rF:Nat:=100001
abbrev mU:Nat:=100003
abbrev rE:Nat:=100004
abbrev iB:Nat:=1000611
abbrev lM:Nat:=1000613
abbrev lL:Nat:=1000614
abbrev jR:Nat:=100100
abbrev ic:Nat:=1120986464256
abbrev fZ:Nat:=1138166333440
abbrev lK:Nat:=1146756268032
abbrev Bk:Nat:=1152921504607355976
abbrev Bj:Nat:=12885001891
abbrev nY:Nat:=145698175582208
abbrev cT:Nat:=200000
abbrev r9:Nat:=201001
abbrev iu:Nat:=4294967296
abbrev tq:Nat:=520031
abbrev qV:Nat:=520033
abbrev bT:Nat:=520061
abbrev nX:Nat:=600601
abbrev bz:Nat:=8589934592
def ew {J:Type} {xs zs:List J} {j:Nat} {x:J} (h:setAt xs j x=some zs):=(ng h).symm
abbrev SE:=Sc E0
def bQ {J:Type} (_:J):List (Nat×Bx):= []
def dU {E:Env} (a b:Sc E):Sc E:=a++b
def zM {E:Env} {ro:Bool} {f:Nat} {bs ds:List (Nat×Bx)} {xs:List AV} {y:AV} (h:km ro E f bs xs y ds):It E:=.call h [] []
def aI {a b:Bool} (h:a=b):Nat×It E0:=(0,eb h)
def bb {a b:Bool} (h:a=b):Nat×It E0:=(1,eb h)
def ba {a b:Bool} (h:a=b):Nat×It E0:=(2,eb h)
def bj {a b:Bool} (h:a=b):Nat×It E0:=(3,eb h)
def bt {a b:Bool} (h:a=b):Nat×It E0:=(4,eb h)
def cq {a b:Bool} (h:a=b):Nat×It E0:=(5,eb h)
def dL {a b:Bool} (h:a=b):Nat×It E0:=(6,eb h)
def jS {a b:Bool} (h:a=b):Nat×It E0:=(7,eb h)
def iw {a b:Bool} (h:a=b):Nat×It E0:=(8,eb h)
def alu {a b:Bool} (h:a=b):Nat×It E0:=(9,eb h)
def oZ {ro:Bool} {f:Nat} {bs ds:List (Nat×Bx)} {xs:List AV} {y:AV} (h:km ro E0 f bs xs y ds):Nat×It E0:=(0,zM h)
def CA {ro:Bool} {f:Nat} {bs ds:List (Nat×Bx)} {xs:List AV} {y:AV} (h:km ro E0 f bs xs y ds):Nat×It E0:=(1,zM h)
def iS {ro:Bool} {f:Nat} {bs ds:List (Nat×Bx)} {xs:List AV} {y:AV} (h:km ro E0 f bs xs y ds):Nat×It E0:=(2,zM h)
def kG {ro:Bool} {f:Nat} {bs ds:List (Nat×Bx)} {xs:List AV} {y:AV} (h:km ro E0 f bs xs y ds):Nat×It E0:=(3,zM h)
def mV {ro:Bool} {f:Nat} {bs ds:List (Nat×Bx)} {xs:List AV} {y:AV} (h:km ro E0 f bs xs y ds):Nat×It E0:=(4,zM h)
def oY {ro:Bool} {f:Nat} {bs ds:List (Nat×Bx)} {xs:List AV} {y:AV} (h:km ro E0 f bs xs y ds):Nat×It E0:=(5,zM h)
def Lv {ro:Bool} {f:Nat} {bs ds:List (Nat×Bx)} {xs:List AV} {y:AV} (h:km ro E0 f bs xs y ds):Nat×It E0:=(6,zM h)
def yo {ro:Bool} {f:Nat} {bs ds:List (Nat×Bx)} {xs:List AV} {y:AV} (h:km ro E0 f bs xs y ds):Nat×It E0:=(7,zM h)
def bnG_:Nat->Nat->List Nat->List Nat
 |0,_,l=>l
 |k+1,n,l=>cond (Nat.ble n 1) l (bnG_ k (n/2) (n%2::l))
def cF (n:Nat):List Nat:=bnG_ 64 n []
def aJr (r:Bool):AV:=.bool r
def aEF (r:Bool):List (Nat×Bx):= []
def C17:=Cx E0 17 aJr aEF
def aEn:LS:=⟨[],[]⟩
def aEz (r:(List Int)):AV:=.cS []
def aBz (r:(List Int)):List (Nat×Bx):= [(0,.rows false 3 1 (eo r))]
def C165:=Cx E0 165 aEz aBz
def azW (zQ:(List Int)):LS:=⟨[(0,.ms 0 1 0 zQ.length)],[(0,.rows false 3 1 (eo zQ))]⟩
def aEy (r:((List cJ)×(List cJ))):AV:=.ms 0 2 0 r.2.length
def aBy (r:((List cJ)×(List cJ))):List (Nat×Bx):= [(0,.rows false 73 2 (bE r.2))]
def C182:=Cx E0 182 aEy aBy
def azA (zQ:(List cJ)) (a1_:Int) (a2_:Int):LS:=⟨[(0,.ms 0 2 0 zQ.length),(1,.int .i64 a1_),(2,.int .i64 a2_)],[(0,.rows false 73 2 (bE zQ))]⟩
def aEx (r:((List cJ)×(List cJ))):AV:=.ms 4294967296 2 0 r.2.length
def aBx (r:((List cJ)×(List cJ))):List (Nat×Bx):= [(4294967296,.rows false 73 2 (bE r.2))]
def C184:=CxS E0 184 [2] aEx aBx
def azw (zQ:(List cJ)) (a1_:Int) (a2_:(List cJ)):LS:=⟨[(0,.ms 4294967296 2 0 zQ.length),(1,.int .i64 a1_),(2,.ms 2 2 0 a2_.length)],[(2,.rows false 73 2 (bE a2_)),(4294967296,.rows false 73 2 (bE zQ))]⟩
def aEw (r:((List aj)×(List aj))):AV:=.ms 0 5 0 r.2.length
def aBw (r:((List aj)×(List aj))):List (Nat×Bx):= [(0,.tree 44 5 [.d,.o false [.d,.d],.d,.o false [.o false [.d],.d],.o false [.d,.d,.d,.d,.d,.d,.d,.d,.d,.d,.d,.d,.d]] (cZ r.2) [])]
def C185:=Cx E0 185 aEw aBw
def azv (zQ:(List aj)) (a1_:Int) (a2_:Int):LS:=⟨[(0,.ms 0 5 0 zQ.length),(1,.int .i64 a1_),(2,.int .i64 a2_)],[(0,.tree 44 5 [.d,.o false [.d,.d],.d,.o false [.o false [.d],.d],.o false [.d,.d,.d,.d,.d,.d,.d,.d,.d,.d,.d,.d,.d]] (cZ zQ) [])]⟩
def aai (r:Int):AV:=.int .i64 r
def aBv (r:Int):List (Nat×Bx):= []
def C203:=Cx E0 203 aai aBv
def azn (zQ:ByteArray) (a1_:ByteArray):LS:=⟨[(0,.str zQ),(1,.str a1_)],[]⟩
def aEv (r:((List Int)×(List Int))):AV:=.ms 0 1 0 r.2.length
def aBu (r:((List Int)×(List Int))):List (Nat×Bx):= [(0,.rows false 3 1 (eo r.2))]
def C219:=Cx E0 219 aEv aBu
def azf (zQ:(List Int)):LS:=⟨[(0,.ms 0 1 0 zQ.length)],[(0,.rows false 3 1 (eo zQ))]⟩
def amw (_n:Nat) (a b:ByteArray):Option Int:=some (Lib.compareBytes a.data.toList b.data.toList)
def pk0:∀k c,wi k [(182,146),(184,147),(185,88),(165,1048576),(219,1048577)]=some c->Ap E0 k c:=Li (E:=⟨Tryz.prog,tyT,Vd,[],[],[],[],[(182,146),(184,147),(185,88),(165,1048576),(219,1048577)],[],[]⟩) rfl rfl rfl
def aJN (n:Nat):K2 C203 azn (amw n):=λa b r h=>by
 have e:=kW h;subst e;show gj E0 203 [] [.str a,.str b] (aai (Lib.compareBytes a.data.toList b.data.toList)) [];rw[show aai (Lib.compareBytes a.data.toList b.data.toList)= .int .i64 (ET a b) from bM (AV.int .i64) (JB a b)];have hz:A9 Tryz.f203=false:=by kernel_rfl
 obtain ⟨_,_,h3⟩:=p7.get Ou.fn 203 Tryz.f203 (by kernel_rfl)
 rcases h3 with h3|⟨h1,h2⟩
 ·exact absurd (show A9 Tryz.f203=true from h3) (by rw[hz];exact YE)
 exact gj.cmp (fn:=Tryz.f203) Tryz.func203 (by kernel_rfl) (by kernel_rfl) h1 h2
def F17 (_n:Nat):Option Bool:=some true
def ev17 (n:Nat):K0 C17 aEn (F17 n):=λr h=>by
 have e:=kW h;subst e;exact gj.done (v:=.bool true) alM λF g=>.lit _
def Vi {J:Type} (s:List J) (i j:Int):Option (List J×List J):=if 0<=i/\i<j/\j<=s.length then some (s.take i.toNat++s.drop j.toNat,s.take i.toNat++s.drop j.toNat) else none
def abe {J:Type} (s:List J) (i:Int) (v:List J):Option (List J×List J):=if 0<=i/\i<=s.length/\0<s.length/\0<v.length/\s.length<=1000000/\v.length<=1000000 then some (s.take i.toNat++v++s.drop i.toNat,s.take i.toNat++v++s.drop i.toNat) else none
def Wn {J:Type} {s:List J} {i j:Int} {r:List J×List J} (h:Vi s i j=some r):∃a b:Nat,i=a/\j=b/\a<b/\b<=s.length/\r=(s.take a++s.drop b,s.take a++s.drop b)/\(s.take a++s.drop b).length=s.length-(b-a):=by
 unfold Vi at h;split at h
 ·rename_i c;refine ⟨i.toNat,j.toNat,by omega,by omega,by omega,by omega,(kW h).symm,?_⟩
  simp;omega
 ·cases h
def aqQ {J:Type} {s v:List J} {i:Int} {r:List J×List J} (h:abe s i v=some r):∃a:Nat,i=a/\a<=s.length/\0<s.length/\0<v.length/\s.length<=1000000/\v.length<=1000000/\r=(s.take a++v++s.drop a,s.take a++v++s.drop a)/\(s.take a++v++s.drop a).length=s.length+v.length:=by
 unfold abe at h;split at h
 ·rename_i c;refine ⟨i.toNat,by omega,by omega,by omega,by omega,by omega,by omega,(kW h).symm,?_⟩
  simp;omega
 ·cases h
def ads (_n:Nat) (xs:List Int):Option (List Int):=if xs.length<=4294967295 then some (lI xs) else none
def aJW (n:Nat):K1 C165 azW (ads n):=λxs r h=>by
 unfold ads at h;split at h
 ·rename_i c;cases h;exact gj.ints (E:=E0) (k:=165) (c:=1048576) (z:=true) (e:=3) (xs:=xs) (pk0 165 1048576 (by kernel_rfl)) (by kernel_rfl) (by kernel_rfl) rfl c
 ·cases h
def adi (_n:Nat) (xs:List Int):Option (List Int×List Int):=if xs.length<=4294967295 then some (kT xs,kT xs) else none
def aJJ (n:Nat):K1 C219 azf (adi n):=λxs r h=>by
 unfold adi at h;split at h
 ·rename_i c;cases h;exact gj.ints (E:=E0) (k:=219) (c:=1048577) (z:=false) (e:=3) (xs:=xs) (pk0 219 1048577 (by kernel_rfl)) (by kernel_rfl) (by kernel_rfl) rfl c
 ·cases h
def adn (_n:Nat) (s:List cJ) (i j:Int):Option (List cJ×List cJ):=Vi s i j
def axT (n:Nat):K3 C182 azA (adn n):=λs i j r h=>by
 obtain ⟨a,b,rfl,rfl,h1,h2,rfl,hl⟩:=Wn h;have key:=gj.del (E:=E0) (k:=182) (c:=146) (sz:=2) (e:=73) (l:= []) (n:=s.length) (Q:=bE s) (pk0 182 146 (by kernel_rfl)) (h9:=by kernel_rfl) (h0:=by kernel_rfl) (h1:=by kernel_rfl) (hie:=rfl) (hs:=by kernel_rfl) (hn:=eL.len s) h1 h2
 rw[<-hl] at key;have e:(bE s).take a++(bE s).drop b=bE (s.take a++s.drop b):=by simp[bE,yB,DW]
 rw[e] at key;exact key
def avK (_n:Nat) (s:List aj) (i j:Int):Option (List aj×List aj):=Vi s i j
def aJT (n:Nat):K3 C185 azv (avK n):=λs i j r h=>by
 obtain ⟨a,b,rfl,rfl,h1,h2,rfl,hl⟩:=Wn h;have key:=gj.del (E:=E0) (k:=185) (c:=88) (sz:=5) (e:=44) (n:=s.length) (Q:=cZ s) (l:= [.d,.o false [.d,.d],.d,.o false [.o false [.d],.d],.o false [.d,.d,.d,.d,.d,.d,.d,.d,.d,.d,.d,.d,.d]]) (pk0 185 88 (by kernel_rfl)) (h9:=by kernel_rfl) (h0:=by kernel_rfl) (h1:=by kernel_rfl) (hie:=rfl) (hs:=by kernel_rfl) (hn:=bW.len s) h1 h2
 rw[<-hl] at key;have e:(cZ s).take a++(cZ s).drop b=cZ (s.take a++s.drop b):=by simp[cZ,yB,DW]
 rw[e] at key;exact key
def avL (_n:Nat) (s:List cJ) (i:Int) (v:List cJ):Option (List cJ×List cJ):=abe s i v
def aJU (n:Nat):K3 C184 azw (avL n):=λs i v r h=>by
 obtain ⟨a,rfl,h1,h2,h3,h4,h5,rfl,hl⟩:=aqQ h;have key:=gj.ins (E:=E0) (k:=184) (c:=147) (sz:=2) (e:=73) (e2:=73) (z:=false) (n:=s.length) (q:=v.length) (Q:=bE s) (V:=bE v) (pk0 184 147 (by kernel_rfl)) (h9:=by kernel_rfl) (h0:=by kernel_rfl) (h1:=by kernel_rfl) (hie:=rfl) (hs:=by kernel_rfl) (hn:=eL.len s) (hq:=eL.len v) h1 h2 h3 h4 h5
 rw[<-hl] at key;have e:(bE s).take a++bE v++(bE s).drop a=bE (s.take a++v++s.drop a):=by simp[bE,yB,DW]
 rw[e] at key;exact key
def Xc (r:(Int×aL)):AV:=.int .i64 r.1
def Ph (r:(Int×aL)):List (Nat×Bx):= (rA (fJ r.2))
def lh:=fx E0 Tryz.f18 [0]
def A18:=Ax lh Xc Ph
def OF (c0:aL) (n1:Int):LS:=⟨[(0,.loc 0 0),(1,cg n1)],(rA (fJ c0))⟩
def anE (n:Nat) (c0:aL) (n1:Int):Option (Int×aL):=
 if !decide (c0.zP<(c0.oN.length:Int)) then
 some (0,c0)
 else
 if decide (n1<1) then
 some (0,c0)
 else
 (idx c0.oN (bl ((bl (c0.zP+1)) - 1))).bind λmO=>(rem (bl (mO)) n1).bind λx38=>some ((Int.tmod (bl (mO)) n1),(aL.mk c0.oN (bl (c0.zP+1))))
def aMy (n:Nat):K2 (A18 []) OF (anE n):=λc0 n1 r h=>ie h (λdt h=>rr h [(10,eb dt)]) λdt h=>ie h (λc1 h=>rr h [(10,eb dt),ba c1]) λc1 h=>be h λmO wz h=>be h λx38 atY h=>rr h [(10,eb dt),ba c1,(18,R5.idx wz),(3,.nz (aal atY).1)]
def rq:=anE
def oO (n:Nat):K2 (Cx E0 18 Xc Ph) OF (rq n):=λ_ _ _ h=>ca (X:=lh) (aMy n h)
def Cj (r:aK):AV:=.ms cT 1 0 r.length
def aph (r:aK):List (Nat×Bx):= [(cT,UN r)]
def x50:=fx E0 Tryz.f50 []
def A50:=Ax x50 Cj aph
def aDG (t22:cO) (t23 t24:Int) (fD:aK):LS:=⟨[(5,.ms 32 1 0 fD.length),(22,.slice 73 2 t22.length (bE t22)),(23,.int .i64 t23),(24,.int .i64 t24)],[(32,UN fD)]⟩
def aDF (fD:aK):LS:=⟨[(5,.ms 32 1 0 fD.length)],[(32,UN fD)]⟩
def D3 (s0:ag) (dh:Int):LS:=⟨[(0,.agg (dP s0)),(1,cg dh)],[]⟩
def X1 (aN:Wf0) (back:cO->Int->Int->aK->Option aK) (n:Nat) (t22:cO) (t23 t24:Int) (fD:aK):Option aK:=
 if decide (t24<t23) then
 (idx t22 t24).bind λx2=>(app fD [x2.ax]).bind λdA=>back t22 t23 (bl (t24+1)) dA
 else
 aN fD
def ajJ:=K1 (A50 [1,1,1,1]) aDF
def ajI:=K4 (A50 (cF 87)) aDG
def aLB {aN} (bn:ajJ aN) {back} (aS:ajI back) (n:Nat):ajI (X1 aN back n):=λt22 t23 t24 fD r h=>ie h (λc0 h=>be h λx2 cX h=>be h λdA gn h=>ra (aS h) [aI c0,(0,eL.idx cX),(7,R3.kE gn)]) λc0 h=>ra (bn h) [aI c0]
def L8 (aN:Wf0):Nat->cO->Int->Int->aK->Option aK
 |0=>λ_ _ _ _=>none
 |n+1=>X1 aN (L8 aN n) n
def axe {aN} (bn:ajJ aN):∀n:Nat,ajI (L8 aN n)
 |0=>λ_ _ _ _ _ h=>nz h
 |n+1=>aLB bn (axe bn n) n
def X0 (n:Nat) (fD:aK):Option aK:=
 some fD
def aLA (n:Nat):ajJ (X0 n):=λfD r h=>rr h [(2,.jl 32 cT)]
def anr (n:Nat) (s0:ag) (dh:Int):Option aK:=
 if decide (dh<0) then
 some []
 else
 if !decide (dh<(s0.ai.length:Int)) then
 some []
 else
 (idx s0.ai dh).bind λfg=>L8 (X0 n) n fg.ae (fg.ae.length:Int) 0 []
def aLz (n:Nat):K2 (A50 []) D3 (anr n):=λs0 dh r h=>ie h (λc0 h=>rr h [bj c0,(3,.born [4] [] cT true 3 1)]) λc0 h=>ie h (λc1 h=>rr h [bj c0,cq c1,(2,.born [4] [] cT true 3 1)]) λc1 h=>be h λfg iM h=>ra (axe (aLA n) n h) [bj c0,cq c1,(5,bW.idx iM),(4,.born [5] [] 32 true 3 1)]
def F50:=anr
def auJ (n:Nat):K2 (Cx E0 50 Cj aph) D3 (F50 n):=λ_ _ _ h=>ca (X:=x50) (aLz n h)
def aww (r:(Bool×aL)):AV:=.bool r.1
def apf (r:(Bool×aL)):List (Nat×Bx):= (rA (fJ r.2))
def x70:=fx E0 Tryz.f70 [0]
def A70:=Ax x70 aww apf
def ang (n:Nat) (c0:aL) (n1:Int):Option (Bool×aL):=
 (rq n c0 n1).bind λx4=>some (x4.1==(bl (n1 - 1)),x4.2)
def aLd (n:Nat):K2 (A70 []) OF (ang n):=λc0 n1 r h=>be h λx4 jm h=>rr h [(3,.call (oO n jm) [(0,0)] [])]
def C9:=ang
def qY (n:Nat):K2 (Cx E0 70 aww apf) OF (C9 n):=λ_ _ _ h=>ca (X:=x70) (aLd n h)
def awv (r:cJ):AV:=.agg (GP r)
def x91:=fx E0 Tryz.f91 []
def A91:=Ax x91 awv bQ
def aof (Xf:ByteArray) (fH:Int):LS:=⟨[(0,.str Xf),(1,cg fH)],[]⟩
def amX (n:Nat) (Xf:ByteArray) (fH:Int):Option cJ:=
 some (cJ.mk Xf fH)
def aLc (n:Nat):K2 (A91 []) aof (amX n):=λXf fH r h=>rr h []
def B6:=amX
def BE (n:Nat):K2 (Cx E0 91 awv bQ) aof (B6 n):=λ_ _ _ h=>ca (X:=x91) (aLc n h)
def x136:=fx E0 Tryz.f136 [0]
def A136:=Ax x136 Xc Ph
def vF (c0:aL):LS:=⟨[(0,.loc 0 0)],(rA (fJ c0))⟩
def aeV (n:Nat) (c0:aL):Option (Int×aL):=
 (rq n c0 12).bind λx3=>if x3.1==9 then
 some ((-1),x3.2)
 else
 if x3.1==10 then
 some (9223372036854775807,x3.2)
 else
 if x3.1==11 then
 some ((-9223372036854775808),x3.2)
 else
 (rem x3.1 4).bind λig=>some ((Int.tmod x3.1 4),x3.2)
def aId (n:Nat):K1 (A136 []) vF (aeV n):=λc0 r h=>be h λx3 eY h=>let zA:SE:=[(2,.call (oO n eY) [(0,0)] [])];ie h (λdt h=>bH h zA [ba dt]) λdt h=>ie h (λc1 h=>bH h zA [ba dt,bb c1]) λc1 h=>ie h (λc2 h=>bH h zA [ba dt,bb c1,bb c2]) λc2 h=>be h λig j2 h=>bH h zA [ba dt,bb c1,bb c2,(2,.nz (aal j2).1)]
def amK:=aeV
def aKo (n:Nat):K1 (Cx E0 136 Xc Ph) vF (amK n):=λ_ _ h=>ca (X:=x136) (aId n h)
def aoW (r:(ByteArray×aL)):AV:=.str r.1
def ahx (r:(ByteArray×aL)):List (Nat×Bx):= (rA (fJ r.2))
def x137:=fx E0 Tryz.f137 [0]
def afr:=Ax x137 aoW ahx
def aAN (mT:ByteArray) (i4:Int) (b0:aL):LS:=⟨[(3,.str mT),(4,cg i4)],(rA (fJ b0))⟩
def agW (mT:ByteArray) (b0:aL):LS:=⟨[(3,.str mT)],(rA (fJ b0))⟩
def aAM (mT:ByteArray) (i5:Int) (b0:aL):LS:=⟨[(3,.str mT),(5,cg i5)],(rA (fJ b0))⟩
def R4 (aN:Wf1) (back:Wf2) (n:Nat) (mT:ByteArray) (i4:Int) (b0:aL):Option (ByteArray×aL):=
 if decide (i4<64) then
 (cat mT (ByteArray.mk #[255])).bind λx4=>back (mT++(ByteArray.mk #[255])) (bl (i4+1)) b0
 else
 aN mT b0
def ajH:=K2 (afr (cF 458731)) agW
def ajG:=K3 (afr (cF 1376235)) aAN
def aIc {aN} (bn:ajH aN) {back} (aS:ajG back) (n:Nat):ajG (R4 aN back n):=λmT i4 b0 r h=>ie h (λdt h=>be h λx4 jm h=>ra (aS h) [bb dt,(1,.cat (GX jm).1)]) λdt h=>ra (bn h) [bb dt]
def Fv (aN:Wf1):Nat->ByteArray->Int->aL->Option (ByteArray×aL)
 |0=>λ_ _ _=>none
 |n+1=>R4 aN (Fv aN n) n
def aqB {aN} (bn:ajH aN):∀n:Nat,ajG (Fv aN n)
 |0=>λ_ _ _ _ h=>nz h
 |n+1=>aIc bn (aqB bn n) n
def ass (n:Nat) (mT:ByteArray) (b0:aL):Option (ByteArray×aL):=
 some (mT,b0)
def aIb (n:Nat):ajH (ass n):=λmT b0 r h=>rr h []
def R2 (bD:Wf1) (back:Wf2) (n:Nat) (mT:ByteArray) (i5:Int) (b0:aL):Option (ByteArray×aL):=
 if decide (i5<64) then
 (cat mT (ByteArray.mk #[98])).bind λx4=>back (mT++(ByteArray.mk #[98])) (bl (i5+1)) b0
 else
 bD mT b0
def ajF:=K2 (afr [1,1,1,1]) agW
def ajE:=K3 (afr (cF 87)) aAM
def aIa {bD} (cU:ajF bD) {back} (aS:ajE back) (n:Nat):ajE (R2 bD back n):=λmT i5 b0 r h=>ie h (λdt h=>be h λx4 jm h=>ra (aS h) [bb dt,(1,.cat (GX jm).1)]) λdt h=>ra (cU h) [bb dt]
def Fu (bD:Wf1):Nat->ByteArray->Int->aL->Option (ByteArray×aL)
 |0=>λ_ _ _=>none
 |n+1=>R2 bD (Fu bD n) n
def aqA {bD} (cU:ajF bD):∀n:Nat,ajE (Fu bD n)
 |0=>λ_ _ _ _ h=>nz h
 |n+1=>aIa cU (aqA cU n) n
def asr (n:Nat) (mT:ByteArray) (b0:aL):Option (ByteArray×aL):=
 some (mT,b0)
def aHZ (n:Nat):ajF (asr n):=λmT b0 r h=>rr h []
def aeU (n:Nat) (c0:aL):Option (ByteArray×aL):=
 (rq n c0 10).bind λx4=>if x4.1==0 then
 some ((ByteArray.mk #[97]),x4.2)
 else
 if x4.1==1 then
 some ((ByteArray.mk #[97]),x4.2)
 else
 if x4.1==2 then
 some ((ByteArray.mk #[97]),x4.2)
 else
 if x4.1==3 then
 some ((ByteArray.mk #[98]),x4.2)
 else
 if x4.1==4 then
 some ((ByteArray.mk #[98]),x4.2)
 else
 if x4.1==5 then
 some (ByteArray.empty,x4.2)
 else
 if x4.1==6 then
 some ((ByteArray.mk #[97,0]),x4.2)
 else
 if x4.1==7 then
 some ((ByteArray.mk #[255]),x4.2)
 else
 if x4.1==8 then
 Fv (ass n) n ByteArray.empty 0 x4.2
 else
 Fu (asr n) n ByteArray.empty 0 x4.2
def aHY (n:Nat):K1 (afr []) vF (aeU n):=λc0 r h=>be h λx4 jm h=>let zA:SE:=[(3,.call (oO n jm) [(0,0)] [])];ie h (λdt h=>bH h zA [aI dt]) λdt h=>let zB:SE:=dU zA [aI dt];ie h (λc1 h=>bH h zB [bb c1]) λc1 h=>let zC:SE:=dU zB [bb c1];ie h (λc2 h=>bH h zC [bb c2]) λc2 h=>let zD:SE:=dU zC [bb c2];ie h (λc3 h=>bH h zD [bb c3]) λc3 h=>let zE:SE:=dU zD [bb c3];ie h (λc4 h=>bH h zE [bb c4]) λc4 h=>let zF:SE:=dU zE [bb c4];ie h (λc5 h=>bH h zF [bb c5]) λc5 h=>let zG:SE:=dU zF [bb c5];ie h (λc6 h=>bH h zG [bb c6]) λc6 h=>ie h (λc7 h=>bH h zG [bb c6,bb c7]) λc7 h=>ie h (λc8 h=>cI (aqB (aIb n) n h) zG [bb c6,bb c7,bb c8]) λc8 h=>cI (aqA (aHZ n) n h) zG [bb c6,bb c7,bb c8]
def amJ:=aeU
def aKn (n:Nat):K1 (Cx E0 137 aoW ahx) vF (amJ n):=λ_ _ h=>ca (X:=x137) (aHY n h)
def awu (r:(aR×aL)):AV:=.agg (lN r.1)
def ape (r:(aR×aL)):List (Nat×Bx):= (rA (fJ r.2))
def x93:=fx E0 Tryz.f93 [0]
def A93:=Ax x93 awu ape
def aoe (c0:aL) (fH:Int):LS:=⟨[(0,.loc 0 0),(1,cg fH)],(rA (fJ c0))⟩
def amV (n:Nat) (c0:aL) (fH:Int):Option (aR×aL):=
 if fH==3 then
 (rq n c0 2).bind λx7=>some ((aR.mk fH x7.1 ByteArray.empty),x7.2)
 else
 if fH==4 then
 (amK n c0).bind λx9=>some ((aR.mk fH x9.1 ByteArray.empty),x9.2)
 else
 (amJ n c0).bind λx8=>some ((aR.mk 5 0 x8.1),x8.2)
def aLa (n:Nat):K2 (A93 []) aoe (amV n):=λc0 fH r h=>ie h (λdt h=>be h λx7 jv h=>rr h [ba dt,(3,.call (oO n jv) [(0,0)] [])]) λdt h=>ie h (λc1 h=>be h λx9 iO h=>rr h [ba dt,bb c1,(3,.call (aKo n iO) [(0,0)] [])]) λc1 h=>be h λx8 oH h=>rr h [ba dt,bb c1,(2,.call (aKn n oH) [(0,0)] [])]
def F93:=amV
def NJ (n:Nat):K2 (Cx E0 93 awu ape) aoe (F93 n):=λ_ _ _ h=>ca (X:=x93) (aLa n h)
def aoU (r:(aT×aL)):AV:=.agg (pR r.1)
def ahu (r:(aT×aL)):List (Nat×Bx):= (rA (fJ r.2))
def x169:=fx E0 Tryz.f169 [0]
def afn:=Ax x169 aoU ahu
def azV (params2:aK) (jx:Int) (t15:aK) (t16 t17:Int) (b0:aL) (b8:aT) (j8:te):LS:=⟨[(0,.loc 0 0),(2,.slice 3 1 params2.length (eo params2)),(3,.int .i64 jx),(8,.loc 8 0),(9,.ms 29 5 0 j8.length),(15,.slice 3 1 t15.length (eo t15)),(16,.int .i64 t16),(17,.int .i64 t17)],(akf (fJ b0) (pR b8) j8)⟩
def azU (jx:Int) (t31:aK) (t32 t33:Int) (b0:aL) (b8:aT) (j8:te):LS:=⟨[(0,.loc 0 0),(3,.int .i64 jx),(8,.loc 8 0),(9,.ms 29 5 0 j8.length),(31,.slice 3 1 t31.length (eo t31)),(32,.int .i64 t32),(33,.int .i64 t33)],(akf (fJ b0) (pR b8) j8)⟩
def azT (jx:Int) (b0:aL) (b8:aT) (j8:te):LS:=⟨[(0,.loc 0 0),(3,cg jx),(8,.loc 8 0),(9,.ms 29 5 0 j8.length)],(akf (fJ b0) (pR b8) j8)⟩
def azS (params2:aK) (jx:Int) (b0:aL) (b8:aT) (j8:te):LS:=⟨[(0,.loc 0 0),(2,.slice 3 1 params2.length (eo params2)),(3,.int .i64 jx),(8,.loc 8 0),(9,.ms 29 5 0 j8.length)],(akf (fJ b0) (pR b8) j8)⟩
def agG (c0:aL) (dr params2:aK) (jx:Int):LS:=⟨[(0,.loc 0 0),(1,.slice 3 1 dr.length (eo dr)),(2,.slice 3 1 params2.length (eo params2)),(3,.int .i64 jx)],(rA (fJ c0))⟩
def Rj (bD:Wf3) (back:aK->Int->aK->Int->Int->aL->aT->te->Option (aT×aL)) (n:Nat) (params2:aK) (jx:Int) (t15:aK) (t16 t17:Int) (b0:aL) (b8:aT) (j8:te):Option (aT×aL):=
 if decide (t17<t16) then
 (idx t15 t17).bind λx3=>if x3==jx then
 (app j8 [(aT.mk 1 t17 (aR.mk 0 0 ByteArray.empty))]).bind λfh=>back params2 jx t15 t16 (bl (t17+1)) b0 b8 fh
 else
 back params2 jx t15 t16 (bl (t17+1)) b0 b8 j8
 else
 bD params2 jx b0 b8 j8
def ajD:=K5 (afn [1,1,1]) azS
def ajC:=K8 (afn [0,1,0,1,1]) azV
def aGD {bD} (cU:ajD bD) {back} (aS:ajC back) (n:Nat):ajC (Rj bD back n):=λparams2 jx t15 t16 t17 b0 b8 j8 r h=>ie h (λdt h=>be h λx3 eY h=>ie h (λc1 h=>be h λfh mK h=>ra (aS h) [aI dt,(1,R3.idx eY),cq c1,(4,amq.kE mK)]) λc1 h=>ra (aS h) [aI dt,(1,R3.idx eY),cq c1]) λdt h=>ra (cU h) [aI dt]
def Fe (bD:Wf3):Nat->aK->Int->aK->Int->Int->aL->aT->te->Option (aT×aL)
 |0=>λ_ _ _ _ _ _ _ _=>none
 |n+1=>Rj bD (Fe bD n) n
def aqc {bD} (cU:ajD bD):∀n:Nat,ajC (Fe bD n)
 |0=>λ_ _ _ _ _ _ _ _ _ h=>nz h
 |n+1=>aGD cU (aqc cU n) n
def Ri (bw:Wf4) (back:Int->aK->Int->Int->aL->aT->te->Option (aT×aL)) (n:Nat) (jx:Int) (t31:aK) (t32 t33:Int) (b0:aL) (b8:aT) (j8:te):Option (aT×aL):=
 if decide (t33<t32) then
 (idx t31 t33).bind λx3=>if x3==jx then
 (app j8 [(aT.mk 2 t33 (aR.mk 0 0 ByteArray.empty))]).bind λfh=>back jx t31 t32 (bl (t33+1)) b0 b8 fh
 else
 back jx t31 t32 (bl (t33+1)) b0 b8 j8
 else
 bw jx b0 b8 j8
def ajB:=K4 (afn [1,1,1,1]) azT
def ajA:=K7 (afn (cF 87)) azU
def aGC {bw} (cM:ajB bw) {back} (aS:ajA back) (n:Nat):ajA (Ri bw back n):=λjx t31 t32 t33 b0 b8 j8 r h=>ie h (λdt h=>be h λx3 eY h=>ie h (λc1 h=>be h λfh mK h=>ra (aS h) [aI dt,(1,R3.idx eY),cq c1,(4,amq.kE mK)]) λc1 h=>ra (aS h) [aI dt,(1,R3.idx eY),cq c1]) λdt h=>ra (cM h) [aI dt]
def Fc (bw:Wf4):Nat->Int->aK->Int->Int->aL->aT->te->Option (aT×aL)
 |0=>λ_ _ _ _ _ _ _=>none
 |n+1=>Ri bw (Fc bw n) n
def aqb {bw} (cM:ajB bw):∀n:Nat,ajA (Fc bw n)
 |0=>λ_ _ _ _ _ _ _ _ h=>nz h
 |n+1=>aGC cM (aqb cM n) n
def J3 (n:Nat) (jx:Int) (b0:aL) (b8:aT) (j8:te):Option (aT×aL):=
 (rq n b0 (bl ((j8.length:Int)+1))).bind λx5=>if decide (x5.1<(j8.length:Int)) then
 (eZ j8.length x5.1).bind λig=>(j8[0+ig]?).bind λfg=>some (fg,x5.2)
 else
 (F93 n x5.2 jx).bind λig=>some ((aT.mk 3 0 ig.1),ig.2)
def aGB (n:Nat):ajB (J3 n):=λjx b0 b8 j8 r h=>be h λx5 kR h=>let zA:SE:=[(4,.call (oO n kR) [(0,0)] [])];ie h (λdt h=>be h λig j2 h=>be h λfg iM h=>bH h zA [bt dt,(2,dO j2),(0,amq.row iM)]) λdt h=>be h λig j2 h=>bH h zA [bt dt,(2,.call (NJ n j2) [(0,0)] [])]
def Rh (n:Nat) (params2:aK) (jx:Int) (b0:aL) (b8:aT) (j8:te):Option (aT×aL):=
 Fc (J3 n) n jx params2 (params2.length:Int) 0 b0 b8 j8
def aGA (n:Nat):ajD (Rh n):=λparams2 jx b0 b8 j8 r h=>ra (aqb (aGB n) n h) []
def asl (n:Nat) (c0:aL) (dr params2:aK) (jx:Int):Option (aT×aL):=
 Fe (Rh n) n params2 jx dr (dr.length:Int) 0 c0 (aT.mk 0 0 (aR.mk 0 0 ByteArray.empty)) []
def aGz (n:Nat):K4 (afn []) agG (asl n):=λc0 dr params2 jx r h=>ra (aqc (aGA n) n h) [(5,.born [9] [] 29 true 105 5)]
def amB:=asl
def ayc (n:Nat):K4 (Cx E0 169 aoU ahu) agG (amB n):=λ_ _ _ _ _ h=>ca (X:=x169) (aGz n h)
def O3 (r:(ah×aL)):AV:=.agg (fk r.1)
def Lk (r:(ah×aL)):List (Nat×Bx):= (rA (fJ r.2))
def x134:=fx E0 Tryz.f134 [0]
def VT:=Ax x134 O3 Lk
def C134:=Cx E0 134 O3 Lk
def aAS (b0:aL) (b8 gE:ah):LS:=⟨[(0,.loc 0 0),(8,.loc 8 0),(11,.loc 11 0)],[(0,o9 (fJ b0)),(8,.flat 107 q6_),(11,.flat 107 [.int .i64 3,.int .i64 gE.eM,.int .i64 gE.cm.ax,.int .i64 gE.cm.cQ,.int .i64 gE.cm.aD.ax,.int .i64 gE.cm.aD.bX,.str gE.cm.aD.bB,.int .i64 gE.bL.ax,.int .i64 gE.bL.cQ,.int .i64 gE.bL.aD.ax,.int .i64 gE.bL.aD.bX,.str gE.bL.aD.bB,.dD])]⟩
def aAR (dr params2:aK) (Eu:Int) (b0:aL) (b8:ah):LS:=⟨[(0,.loc 0 0),(1,.slice 3 1 dr.length (eo dr)),(2,.slice 3 1 params2.length (eo params2)),(8,.loc 8 0),(10,.int .i64 Eu)],[(0,o9 (fJ b0)),(8,.flat 107 q6_)]⟩
def aAQ (dr params2:aK) (kI HH:Int) (b0:aL) (b8 bR:ah) (wR:bN):LS:=⟨[(0,.loc 0 0),(1,.slice 3 1 dr.length (eo dr)),(2,.slice 3 1 params2.length (eo params2)),(3,.int .i64 kI),(8,.loc 8 0),(12,.loc 12 0),(13,.int .i64 HH)],(q13_ (fJ b0) b8 bR wR.length wR)⟩
def aAP (b0:aL) (b8 bR:ah) (wR:bN):LS:=⟨[(8,.loc 8 0),(12,.loc 12 0)],(q13_ (fJ b0) b8 bR wR.length wR)⟩
def aAO (dr params2:aK) (kI op9:Int) (t27:Bool) (b0:aL) (b8:ah):LS:=⟨[(0,.loc 0 0),(1,.slice 3 1 dr.length (eo dr)),(2,.slice 3 1 params2.length (eo params2)),(3,.int .i64 kI),(8,.loc 8 0),(9,.int .i64 op9),(27,.bool t27)],[(0,o9 (fJ b0)),(8,.flat 107 q6_)]⟩
def KI (c0:aL) (dr params2:aK) (kI:Int):LS:=⟨[(0,.loc 0 0),(1,.slice 3 1 dr.length (eo dr)),(2,.slice 3 1 params2.length (eo params2)),(3,.int .i64 kI)],(rA (fJ c0))⟩
def Kc (gw:aL->aK->aK->Int->Option (ah×aL)) (n:Nat) (b0:aL) (b8 gE:ah):Option (ah×aL):=
 (C9 n b0 6).bind λx2=>if x2.1 then
 some ((ah.mk 3 gE.eM gE.bL gE.cm []),x2.2)
 else
 some ((ah.mk 3 gE.eM gE.cm gE.bL []),x2.2)
def yF:=K4 C134 KI
def arJ {gw} (lD:yF gw) (n:Nat):K3 (VT (cF 8051)) aAS (Kc gw n):=λb0 b8 gE r h=>be h λx2 cX h=>ie h (λdt h=>rr h [(1,.call (cb (qY n cX) dt) [(0,0)] []),(10,.pZ 8 (.flat 0 [.bool true,.bool true,.bool true,.bool true,.bool true,.bool true,.bool true,.bool true,.bool true,.bool true,.bool true,.bool true,.sl 0 107 13 0 []]))]) λdt h=>rr h [(1,.call (cb (qY n cX) dt) [(0,0)] []),(2,.pZ 8 (.flat 0 [.bool true,.bool true,.bool true,.bool true,.bool true,.bool true,.bool true,.bool true,.bool true,.bool true,.bool true,.bool true,.sl 0 107 13 0 []]))]
def Kb (gw:aL->aK->aK->Int->Option (ah×aL)) (n:Nat) (dr params2:aK) (Eu:Int) (b0:aL) (b8:ah):Option (ah×aL):=
 (rq n b0 6).bind λx2=>(amB n x2.2 dr params2 Eu).bind λx9=>(F93 n x9.2 Eu).bind λeh=>(C9 n eh.2 3).bind λkL=>if kL.1 then
 (amB n kL.2 dr params2 Eu).bind λsO=>Kc gw n sO.2 (ah.mk 0 0 (aT.mk 0 0 (aR.mk 0 0 ByteArray.empty)) (aT.mk 0 0 (aR.mk 0 0 ByteArray.empty)) []) (ah.mk 3 (bl (1+x2.1)) x9.1 sO.1 [])
 else
 Kc gw n kL.2 (ah.mk 0 0 (aT.mk 0 0 (aR.mk 0 0 ByteArray.empty)) (aT.mk 0 0 (aR.mk 0 0 ByteArray.empty)) []) (ah.mk 3 (bl (1+x2.1)) x9.1 (aT.mk 3 0 eh.1) [])
def arI {gw} (lD:yF gw) (n:Nat):K5 (VT (cF 1907)) aAR (Kb gw n):=λdr params2 Eu b0 b8 r h=>be h λx2 cX h=>be h λx9 iO h=>be h λeh iz h=>be h λkL kC h=>let zA:SE:=[(1,.call (oO n cX) [(0,0)] []),(5,.call (ayc n iO) [(0,0)] []),(2,.call (NJ n iz) [(0,0)] [])];ie h (λdt h=>be h λsO xS h=>cI (arJ lD n h) zA [(5,.call (cb (qY n kC) dt) [(0,0)] []),(4,.call (ayc n xS) [(0,0)] [])]) λdt h=>cI (arJ lD n h) zA [(5,.call (cb (qY n kC) dt) [(0,0)] [])]
def R7 (gw:aL->aK->aK->Int->Option (ah×aL)) (bD:Wf5) (back:aK->aK->Int->Int->aL->ah->ah->bN->Option (ah×aL)) (n:Nat) (dr params2:aK) (kI HH:Int) (b0:aL) (b8 bR:ah) (wR:bN):Option (ah×aL):=
 if !decide (HH<0) then
 (gw b0 dr params2 (bl (kI - 1))).bind λdB=>(app wR [dB.1]).bind λeh=>back dr params2 kI (bl (HH - 1)) dB.2 (ah.mk b8.bh b8.eM b8.cm b8.bL []) (ah.mk bR.bh bR.eM bR.cm bR.bL eh) eh
 else
 bD b0 (ah.mk b8.bh b8.eM b8.cm b8.bL []) (ah.mk bR.bh bR.eM bR.cm bR.bL wR) wR
def Z2:=K4 (VT [1,1,1,1,1]) aAP
def Z1:=K8 (VT (cF 175)) aAQ
def aIh {gw} (lD:yF gw) {bD} (cU:Z2 bD) {back} (aS:Z1 back) (n:Nat):Z1 (R7 gw bD back n):=λdr params2 kI HH b0 b8 bR wR r h=>ie h (λdt h=>be h λdB kS h=>be h λeh iz h=>ra (aS h) [bb dt,(7,.call (lD kS) [(0,0)] []),(0,.laid (bM (Bx.rows false 107 13) (eD.map [dB.1]).symm)),(0,eD.kE iz)]) λdt h=>ra (cU h) [bb dt]
def Fw (gw:aL->aK->aK->Int->Option (ah×aL)) (bD:Wf5):Nat->aK->aK->Int->Int->aL->ah->ah->bN->Option (ah×aL)
 |0=>λ_ _ _ _ _ _ _ _=>none
 |n+1=>R7 gw bD (Fw gw bD n) n
def aqC {gw} (lD:yF gw) {bD} (cU:Z2 bD):∀n:Nat,Z1 (Fw gw bD n)
 |0=>λ_ _ _ _ _ _ _ _ _ h=>nz h
 |n+1=>aIh lD cU (aqC lD cU n) n
def R6 (gw:aL->aK->aK->Int->Option (ah×aL)) (n:Nat) (b0:aL) (b8 bR:ah) (wR:bN):Option (ah×aL):=
 some ((ah.mk bR.bh bR.eM bR.cm bR.bL wR),b0)
def aIg {gw} (lD:yF gw) (n:Nat):Z2 (R6 gw n):=λb0 b8 bR wR r h=>rr h [(2,eD.fX 104 wR),(0,.pZ 8 (.flat 0 [.bool true,.bool true,.bool true,.bool true,.bool true,.bool true,.bool true,.bool true,.bool true,.bool true,.bool true,.bool true,.sl 0 0 0 0 []]))]
def w4 (gw:aL->aK->aK->Int->Option (ah×aL)) (n:Nat) (dr params2:aK) (kI op9:Int) (t27:Bool) (b0:aL) (b8:ah):Option (ah×aL):=
 if t27 then
 if decide (0<(dr.length:Int)) then
 (rq n b0 (dr.length:Int)).bind λx9=>(idx dr x9.1).bind λdA=>Kb gw n dr params2 dA x9.2 (ah.mk 0 0 (aT.mk 0 0 (aR.mk 0 0 ByteArray.empty)) (aT.mk 0 0 (aR.mk 0 0 ByteArray.empty)) [])
 else
 Kb gw n dr params2 4 b0 (ah.mk 0 0 (aT.mk 0 0 (aR.mk 0 0 ByteArray.empty)) (aT.mk 0 0 (aR.mk 0 0 ByteArray.empty)) [])
 else
 if op9==6 then
 (gw b0 dr params2 (bl (kI - 1))).bind λx9=>some ((ah.mk 6 0 (aT.mk 0 0 (aR.mk 0 0 ByteArray.empty)) (aT.mk 0 0 (aR.mk 0 0 ByteArray.empty)) [x9.1]),x9.2)
 else
 (rq n b0 3).bind λdA=>Fw gw (R6 gw n) n dr params2 kI dA.1 dA.2 (ah.mk 0 0 (aT.mk 0 0 (aR.mk 0 0 ByteArray.empty)) (aT.mk 0 0 (aR.mk 0 0 ByteArray.empty)) []) (ah.mk (bl ((bl (4+op9)) - 7)) 0 (aT.mk 0 0 (aR.mk 0 0 ByteArray.empty)) (aT.mk 0 0 (aR.mk 0 0 ByteArray.empty)) []) []
def Qh {gw} (lD:yF gw) (n:Nat):K7 (VT (cF 243)) aAO (w4 gw n):=λdr params2 kI op9 t27 b0 b8 r h=>ie h (λdt bI=>by subst dt;exact (ie bI (λc1 bI=>be bI λx9 iO bI=>be bI λdA gn bI=>ra (arI lD n bI) [bj c1,(4,.call (oO n iO) [(0,0)] []),(0,R3.idx gn)]) λc1 bI=>ra (arI lD n bI) [bj c1])) λdt bI=>by subst dt;exact (ie bI (λc1 bI=>be bI λx9 iO bI=>rr bI [bb c1,(6,.call (lD iO) [(0,0)] []),(0,.laid (bM (Bx.rows false 107 13) (eD.map [x9.1]).symm)),(2,eD.fX 83 [x9.1])]) λc1 bI=>be bI λdA gn bI=>ra (aqC lD (aIg lD n) n bI) [bb c1,(8,.call (oO n gn) [(0,0)] []),(1,.born [] [(12,12)] 104 true 107 13)])
def aeX (gw:aL->aK->aK->Int->Option (ah×aL)) (n:Nat) (c0:aL) (dr params2:aK) (kI:Int):Option (ah×aL):=
 (rq n c0 9).bind λx3=>if x3.1==0 then
 (C9 n x3.2 2).bind λdB=>if dB.1 then
 (rq n dB.2 2).bind λfh=>some ((ah.mk (bl (1+fh.1)) 0 (aT.mk 0 0 (aR.mk 0 0 ByteArray.empty)) (aT.mk 0 0 (aR.mk 0 0 ByteArray.empty)) []),fh.2)
 else
 if decide (x3.1<6) then
 w4 gw n dr params2 kI x3.1 true dB.2 (ah.mk 0 0 (aT.mk 0 0 (aR.mk 0 0 ByteArray.empty)) (aT.mk 0 0 (aR.mk 0 0 ByteArray.empty)) [])
 else
 w4 gw n dr params2 kI x3.1 (decide (kI<1)) dB.2 (ah.mk 0 0 (aT.mk 0 0 (aR.mk 0 0 ByteArray.empty)) (aT.mk 0 0 (aR.mk 0 0 ByteArray.empty)) [])
 else
 if decide (x3.1<6) then
 w4 gw n dr params2 kI x3.1 true x3.2 (ah.mk 0 0 (aT.mk 0 0 (aR.mk 0 0 ByteArray.empty)) (aT.mk 0 0 (aR.mk 0 0 ByteArray.empty)) [])
 else
 w4 gw n dr params2 kI x3.1 (decide (kI<1)) x3.2 (ah.mk 0 0 (aT.mk 0 0 (aR.mk 0 0 ByteArray.empty)) (aT.mk 0 0 (aR.mk 0 0 ByteArray.empty)) [])
def aIf {gw} (lD:yF gw) (n:Nat):K4 (VT []) KI (aeX gw n):=λc0 dr params2 kI r h=>be h λx3 eY h=>let zA:SE:=[(2,.call (oO n eY) [(0,0)] [])];ie h (λdt h=>be h λdB kS h=>ie h (λc1 h=>be h λfh mK h=>bH h zA [ba dt,(2,.call (cb (qY n kS) c1) [(0,0)] []),(3,.call (oO n mK) [(0,0)] []),(3,.pZ 8 (.flat 0 [.bool true,.bool true,.bool true,.bool true,.bool true,.bool true,.bool true,.bool true,.bool true,.bool true,.bool true,.bool true,.sl 0 107 13 0 []]))]) λc1 h=>let zB:SE:=dU zA [ba dt,(2,.call (cb (qY n kS) c1) [(0,0)] [])];ie h (λc2 h=>cI (Qh lD n h) zB [bj c2]) λc2 h=>cI (Qh lD n h) zB [bj c2]) λdt h=>ie h (λc1 h=>cI (Qh lD n h) zA [ba dt,bt c1]) λc1 h=>cI (Qh lD n h) zA [ba dt,bt c1]
def B8:Nat->aL->aK->aK->Int->Option (ah×aL)
 |0,_,_,_,_=>none
 |n+1,c0,dr,params2,kI=>aeX (B8 n) n c0 dr params2 kI
def ali:∀n:Nat,yF (B8 n)
 |0=>λ_ _ _ _ _ h=>nz h
 |n+1=>λ_ _ _ _ _ h=>ca (X:=x134) (aIf (ali n) n h)
def du (r:Bool):AV:=.bool r
def x175:=fx E0 Tryz.f175 []
def A175:=Ax x175 du bQ
def agD (k0:Int):LS:=⟨[(0,cg k0)],[]⟩
def aen (n:Nat) (k0:Int):Option Bool:=
 if k0==3 then
 some true
 else
 if k0==4 then
 some true
 else
 some (k0==5)
def aGj (n:Nat):K1 (A175 []) agD (aen n):=λk0 r h=>ie h (λc0 h=>rr h [ba c0]) λc0 h=>ie h (λc1 h=>rr h [ba c0,ba c1]) λc1 h=>rr h [ba c0,ba c1]
def adp:=aen
def axW (n:Nat):K1 (Cx E0 175 du bQ) agD (adp n):=λ_ _ h=>ca (X:=x175) (aGj n h)
def x170:=fx E0 Tryz.f170 []
def avZ:=Ax x170 du bQ
def agF (t5:aK) (t6 t7:Int):LS:=⟨[(5,.slice 3 1 t5.length (eo t5)),(6,.int .i64 t6),(7,.int .i64 t7)],[]⟩
def azR:LS:=⟨[],[]⟩
def agE (l0:aK):LS:=⟨[(0,.slice 3 1 l0.length (eo l0))],[]⟩
def Rg (aN:Option Bool) (back:aK->Int->Int->Option Bool) (n:Nat) (t5:aK) (t6 t7:Int):Option Bool:=
 if decide (t7<t6) then
 (idx t5 t7).bind λx2=>(adp n x2).bind λx7=>if !x7 then
 some false
 else
 back t5 t6 (bl (t7+1))
 else
 aN
def Z0:=K0 (avZ [1,1]) azR
def ZZ:=K3 (avZ [0,1,0,1]) agF
def aGy {aN} (bn:Z0 aN) {back} (aS:ZZ back) (n:Nat):ZZ (Rg aN back n):=λt5 t6 t7 r h=>ie h (λc0 h=>be h λx2 cX h=>be h λx7 jv h=>let zA:SE:=[aI c0,(0,R3.idx cX),kG (axW n jv)];ie h (λc1 h=>bH h zA [aI c1]) λc1 h=>cI (aS h) zA [aI c1]) λc0 h=>ra (bn h) [aI c0]
def Fb (aN:Option Bool):Nat->aK->Int->Int->Option Bool
 |0=>λ_ _ _=>none
 |n+1=>Rg aN (Fb aN n) n
def aqa {aN} (bn:Z0 aN):∀n:Nat,ZZ (Fb aN n)
 |0=>λ_ _ _ _ h=>nz h
 |n+1=>aGy bn (aqa bn n) n
def aeu (n:Nat):Option Bool:=
 some true
def aGx (n:Nat):Z0 (aeu n):=λr h=>rr h []
def aet (n:Nat) (l0:aK):Option Bool:=
 Fb (aeu n) n l0 (l0.length:Int) 0
def aGw (n:Nat):K1 (avZ []) agE (aet n):=λl0 r h=>ra (aqa (aGx n) n h) []
def adr:=aet
def ayb (n:Nat):K1 (Cx E0 170 du bQ) agE (adr n):=λ_ _ h=>ca (X:=x170) (aGw n h)
def ed (r:Int):AV:=.int .i64 r
def x171:=fx E0 Tryz.f171 []
def avY:=Ax x171 ed bQ
def C171:=Cx E0 171 ed bQ
def azQ (n1 i5:Int) (b2:ah):LS:=⟨[(1,cg n1),(2,.loc 2 0),(5,cg i5)],[(2,qP (fk b2))]⟩
def azP (n1:Int):LS:=⟨[(1,cg n1)],[]⟩
def KC (p0:ah) (n1:Int):LS:=⟨[(0,.agg (fk p0)),(1,cg n1)],[]⟩
def Rf (nD:ah->Int->Option Int) (aN:Wf6) (back:Int->Int->ah->Option Int) (n:Nat) (n1 i5:Int) (b2:ah):Option Int:=
 if decide (i5<(b2.fArgs.length:Int)) then
 if !decide (24<n1) then
 (idx b2.fArgs i5).bind λeh=>(nD eh n1).bind λiG=>back iG (bl (i5+1)) b2
 else
 aN n1
 else
 aN n1
def Il:=K2 C171 KC
def ZY:=K1 (avY [1,1,1]) azP
def ZX:=K3 (avY [0,1,0,1,1]) azQ
def aGv {nD} (yQ:Il nD) {aN} (bn:ZY aN) {back} (aS:ZX back) (n:Nat):ZX (Rf nD aN back n):=λn1 i5 b2 r h=>ie h (λc0 h=>ie h (λc1 h=>be h λeh iz h=>be h λiG kg h=>ra (aS h) [bt c0,ba c1,(4,eD.idx iz),iS (yQ kg)]) λc1 h=>ra (bn h) [bt c0,ba c1]) λc0 h=>ra (bn h) [bt c0]
def Fa (nD:ah->Int->Option Int) (aN:Wf6):Nat->Int->Int->ah->Option Int
 |0=>λ_ _ _=>none
 |n+1=>Rf nD aN (Fa nD aN n) n
def apZ {nD} (yQ:Il nD) {aN} (bn:ZY aN):∀n:Nat,ZX (Fa nD aN n)
 |0=>λ_ _ _ _ h=>nz h
 |n+1=>aGv yQ bn (apZ yQ bn n) n
def asj (nD:ah->Int->Option Int) (n:Nat) (n1:Int):Option Int:=
 some n1
def aGu {nD} (yQ:Il nD) (n:Nat):ZY (asj nD n):=λn1 r h=>rr h []
def aes (nD:ah->Int->Option Int) (n:Nat) (p0:ah) (n1:Int):Option Int:=
 Fa nD (asj nD n) n (bl (n1+1)) 0 p0
def aGt {nD} (yQ:Il nD) (n:Nat):K2 (avY []) KC (aes nD n):=λp0 n1 r h=>ra (apZ yQ (aGu yQ n) n h) []
def VB:Nat->ah->Int->Option Int
 |0,_,_=>none
 |n+1,p0,n1=>aes (VB n) n p0 n1
def aya:∀n:Nat,Il (VB n)
 |0=>λ_ _ _ h=>nz h
 |n+1=>λ_ _ _ h=>ca (X:=x171) (aGt (aya n) n h)
def x172:=fx E0 Tryz.f172 []
def avX:=Ax x172 du bQ
def C172:=Cx E0 172 du bQ
def azO (n1 t10 t11:Int) (b2:ah):LS:=⟨[(1,cg n1),(2,.loc 2 0),(10,cg t10),(11,cg t11)],[(2,qP (fk b2))]⟩
def azN:LS:=⟨[],[]⟩
def Re (nC:ah->Int->Option Bool) (aN:Option Bool) (back:Int->Int->Int->ah->Option Bool) (n:Nat) (n1 t10 t11:Int) (b2:ah):Option Bool:=
 if decide (t11<t10) then
 (idx b2.fArgs t11).bind λx7=>(nC x7 (bl (n1 - 1))).bind λgP=>if gP then
 some true
 else
 back n1 t10 (bl (t11+1)) b2
 else
 aN
def Ik:=K2 C172 KC
def ZW:=K0 (avX [1,1,1]) azN
def ZV:=K4 (avX [0,1,0,1,1]) azO
def aGs {nC} (yP:Ik nC) {aN} (bn:ZW aN) {back} (aS:ZV back) (n:Nat):ZV (Re nC aN back n):=λn1 t10 t11 b2 r h=>ie h (λc0 h=>be h λx7 jv h=>be h λgP jC h=>let zA:SE:=[aI c0,(5,eD.idx jv),kG (yP jC)];ie h (λc1 bI=>by subst c1;exact (rr bI zA)) λc1 bI=>by subst c1;exact (ra (aS bI) zA)) λc0 h=>ra (bn h) [aI c0]
def E9 (nC:ah->Int->Option Bool) (aN:Option Bool):Nat->Int->Int->Int->ah->Option Bool
 |0=>λ_ _ _ _=>none
 |n+1=>Re nC aN (E9 nC aN n) n
def apY {nC} (yP:Ik nC) {aN} (bn:ZW aN):∀n:Nat,ZV (E9 nC aN n)
 |0=>λ_ _ _ _ _ h=>nz h
 |n+1=>aGs yP bn (apY yP bn n) n
def aer (nC:ah->Int->Option Bool) (n:Nat):Option Bool:=
 some false
def aGr {nC} (yP:Ik nC) (n:Nat):ZW (aer nC n):=λr h=>rr h []
def Rb (nC:ah->Int->Option Bool) (n:Nat) (p0:ah) (n1:Int):Option Bool:=
 if n1==0 then
 some true
 else
 E9 nC (aer nC n) n n1 (p0.fArgs.length:Int) 0 p0
def aGq {nC} (yP:Ik nC) (n:Nat):K2 (avX []) KC (Rb nC n):=λp0 n1 r h=>ie h (λc0 h=>rr h [bj c0]) λc0 h=>ra (apY yP (aGr yP n) n h) [bj c0]
def JU:Nat->ah->Int->Option Bool
 |0,_,_=>none
 |n+1,p0,n1=>Rb (JU n) n p0 n1
def axZ:∀n:Nat,Ik (JU n)
 |0=>λ_ _ _ h=>nz h
 |n+1=>λ_ _ _ h=>ca (X:=x172) (aGq (axZ n) n h)
def x193:=fx E0 Tryz.f193 []
def A193:=Ax x193 du bQ
def Az (p0:ah):LS:=⟨[(0,.agg (fk p0))],[]⟩
def aec (n:Nat) (p0:ah):Option Bool:=
 if p0.eM==0 then
 if ((p0.cm.ax==0) && ((p0.cm.cQ==0) && (((p0.cm.aD.ax==0) && ((p0.cm.aD.bX==0) && ((decide (p0.cm.aD.bB=ByteArray.empty)) && true))) && true))) then
 some ((p0.bL.ax==0) && ((p0.bL.cQ==0) && (((p0.bL.aD.ax==0) && ((p0.bL.aD.bX==0) && ((decide (p0.bL.aD.bB=ByteArray.empty)) && true))) && true)))
 else
 some false
 else
 some false
def aFJ (n:Nat):K1 (A193 []) Az (aec n):=λp0 r h=>ie h (λc0 h=>ie h (λc1 h=>rr h [bt c0,bt c1]) λc1 h=>rr h [bt c0,bt c1]) λc0 h=>rr h [bt c0]
def Vw:=aec
def Xo (n:Nat):K1 (Cx E0 193 du bQ) Az (Vw n):=λ_ _ h=>ca (X:=x193) (aFJ n h)
def x158:=fx E0 Tryz.f158 []
def A158:=Ax x158 du bQ
def vE (v0:aR):LS:=⟨[(0,.agg (lN v0))],[]⟩
def aeA (n:Nat) (v0:aR):Option Bool:=
 if v0.ax==1 then
 if v0.bX==0 then
 some (decide (v0.bB=ByteArray.empty))
 else
 some false
 else
 if v0.ax==2 then
 if v0.bX==0 then
 some (decide (v0.bB=ByteArray.empty))
 else
 some false
 else
 if v0.ax==3 then
 if v0.bX==0 then
 some (decide (v0.bB=ByteArray.empty))
 else
 if v0.bX==1 then
 some (decide (v0.bB=ByteArray.empty))
 else
 some false
 else
 if v0.ax==4 then
 some (decide (v0.bB=ByteArray.empty))
 else
 if v0.ax==5 then
 if v0.bX==0 then
 some (!decide (64<(v0.bB.size:Int)))
 else
 some false
 else
 some false
def aGJ (n:Nat):K1 (A158 []) vE (aeA n):=λv0 r h=>ie h (λc0 h=>ie h (λc1 h=>rr h [bt c0,bj c1]) λc1 h=>rr h [bt c0,bj c1]) λc0 h=>ie h (λc1 h=>ie h (λc2 h=>rr h [bt c0,bb c1,bj c2]) λc2 h=>rr h [bt c0,bb c1,bj c2]) λc1 h=>let zA:SE:=[bt c0,bb c1];ie h (λc2 h=>ie h (λc3 h=>bH h zA [bb c2,bj c3]) λc3 h=>ie h (λc4 h=>bH h zA [bb c2,bj c3,bj c4]) λc4 h=>bH h zA [bb c2,bj c3,bj c4]) λc2 h=>let zB:SE:=dU zA [bb c2];ie h (λc3 h=>bH h zB [bb c3]) λc3 h=>ie h (λc4 h=>ie h (λc5 h=>bH h zB [bb c3,bb c4,bj c5]) λc5 h=>bH h zB [bb c3,bb c4,bj c5]) λc4 h=>bH h zB [bb c3,bb c4]
def amF:=aeA
def ayd (n:Nat):K1 (Cx E0 158 du bQ) vE (amF n):=λ_ _ h=>ca (X:=x158) (aGJ n h)
def x142:=fx E0 Tryz.f142 []
def A142:=Ax x142 du bQ
def aeQ (n:Nat) (v0:aR):Option Bool:=
 (amF n v0).bind λx4=>if x4 then
 some (!decide (v0.ax<3))
 else
 some false
def aHH (n:Nat):K1 (A142 []) vE (aeQ n):=λv0 r h=>be h λx4 jm h=>ie h (λc0 bI=>by subst c0;exact (rr bI [kG (ayd n jm)])) λc0 bI=>by subst c0;exact (rr bI [kG (ayd n jm)])
def N7:=aeQ
def Xq (n:Nat):K1 (Cx E0 142 du bQ) vE (N7 n):=λ_ _ h=>ca (X:=x142) (aHH n h)
def x194:=fx E0 Tryz.f194 []
def A194:=Ax x194 ed bQ
def azs (Lp:aK) (b5:aT):LS:=⟨[(5,.loc 5 0),(7,.slice 3 1 Lp.length (eo Lp))],[(5,.flat 105 (pR b5))]⟩
def agw (er params1:aK) (o2:aT):LS:=⟨[(0,.slice 3 1 er.length (eo er)),(1,.slice 3 1 params1.length (eo params1)),(2,.agg (pR o2))],[]⟩
def J1 (n:Nat) (Lp:aK) (b5:aT):Option Int:=
 if decide (b5.cQ<0) then
 some 0
 else
 if !decide (b5.cQ<(Lp.length:Int)) then
 some 0
 else
 if !((b5.aD.ax==0) && ((b5.aD.bX==0) && ((decide (b5.aD.bB=ByteArray.empty)) && true))) then
 some 0
 else
 (idx Lp b5.cQ).bind λkL=>some kL
def arB (n:Nat):K2 (A194 [1,1,1]) azs (J1 n):=λLp b5 r h=>ie h (λc0 h=>rr h [ba c0]) λc0 h=>ie h (λc1 h=>rr h [ba c0,cq c1]) λc1 h=>ie h (λc2 h=>rr h [ba c0,cq c1,cq c2]) λc2 h=>be h λkL kC h=>rr h [ba c0,cq c1,cq c2,(4,R3.idx kC)]
def aeb (n:Nat) (er params1:aK) (o2:aT):Option Int:=
 if o2.ax==3 then
 if o2.cQ !=0 then
 some 0
 else
 (N7 n o2.aD).bind λfh=>if !fh then
 some 0
 else
 some o2.aD.ax
 else
 if o2.ax==2 then
 J1 n params1 o2
 else
 if o2.ax==1 then
 J1 n er o2
 else
 some 0
def aFI (n:Nat):K3 (A194 []) agw (aeb n):=λer params1 o2 r h=>ie h (λc0 h=>ie h (λc1 h=>rr h [dL c0,bj c1]) λc1 h=>be h λfh mK h=>let zA:SE:=[dL c0,bj c1,kG (Xq n mK)];ie h (λc2 h=>bH h zA [aI c2]) λc2 h=>bH h zA [aI c2]) λc0 h=>ie h (λc1 h=>ra (arB n h) [dL c0,bb c1]) λc1 h=>ie h (λc2 h=>ra (arB n h) [dL c0,bb c1,bb c2]) λc2 h=>rr h [dL c0,bb c1,bb c2]
def adk:=aeb
def axO (n:Nat):K3 (Cx E0 194 ed bQ) agw (adk n):=λ_ _ _ _ h=>ca (X:=x194) (aFI n h)
def x173:=fx E0 Tryz.f173 []
def anM:=Ax x173 du bQ
def C173:=Cx E0 173 du bQ
def azM (er params1:aK) (t70 t71:Int) (b5:ah):LS:=⟨[(0,.slice 3 1 er.length (eo er)),(1,.slice 3 1 params1.length (eo params1)),(5,.loc 5 0),(70,.int .i64 t70),(71,.int .i64 t71)],[(5,qP (fk b5))]⟩
def azL:LS:=⟨[],[]⟩
def azK (er params1:aK) (b5:ah):LS:=⟨[(0,.slice 3 1 er.length (eo er)),(1,.slice 3 1 params1.length (eo params1)),(5,.loc 5 0)],[(5,qP (fk b5))]⟩
def AA (er params1:aK) (p2:ah):LS:=⟨[(0,.slice 3 1 er.length (eo er)),(1,.slice 3 1 params1.length (eo params1)),(2,.agg (fk p2))],[]⟩
def Ra (kf:aK->aK->ah->Option Bool) (aN:Option Bool) (back:aK->aK->Int->Int->ah->Option Bool) (n:Nat) (er params1:aK) (t70 t71:Int) (b5:ah):Option Bool:=
 if decide (t71<t70) then
 (idx b5.fArgs t71).bind λx9=>(kf er params1 x9).bind λgP=>if !gP then
 some false
 else
 back er params1 t70 (bl (t71+1)) b5
 else
 aN
def D4:=K3 C173 AA
def ZU:=K0 (anM [1,1,1,1]) azL
def ZT:=K5 (anM (cF 87)) azM
def aGp {kf} (sf:D4 kf) {aN} (bn:ZU aN) {back} (aS:ZT back) (n:Nat):ZT (Ra kf aN back n):=λer params1 t70 t71 b5 r h=>ie h (λc0 h=>be h λx9 iO h=>be h λgP jC h=>let zA:SE:=[aI c0,(7,eD.idx iO),CA (sf jC)];ie h (λc1 h=>bH h zA [aI c1]) λc1 h=>cI (aS h) zA [aI c1]) λc0 h=>ra (bn h) [aI c0]
def BT (kf:aK->aK->ah->Option Bool) (aN:Option Bool):Nat->aK->aK->Int->Int->ah->Option Bool
 |0=>λ_ _ _ _ _=>none
 |n+1=>Ra kf aN (BT kf aN n) n
def apX {kf} (sf:D4 kf) {aN} (bn:ZU aN):∀n:Nat,ZT (BT kf aN n)
 |0=>λ_ _ _ _ _ _ h=>nz h
 |n+1=>aGp sf bn (apX sf bn n) n
def aeq (kf:aK->aK->ah->Option Bool) (n:Nat):Option Bool:=
 some true
def aGo {kf} (sf:D4 kf) (n:Nat):ZU (aeq kf n):=λr h=>rr h []
def FN (kf:aK->aK->ah->Option Bool) (n:Nat) (er params1:aK) (b5:ah):Option Bool:=
 (Vw n b5).bind λx2=>if !x2 then
 some false
 else
 BT kf (aeq kf n) n er params1 (b5.fArgs.length:Int) 0 b5
def acm {kf} (sf:D4 kf) (n:Nat):K3 (anM [1,1]) azK (FN kf n):=λer params1 b5 r h=>be h λx2 cX h=>ie h (λc0 h=>rr h [CA (Xo n cX),aI c0]) λc0 h=>ra (apX sf (aGo sf n) n h) [CA (Xo n cX),aI c0]
def aep (kf:aK->aK->ah->Option Bool) (n:Nat) (er params1:aK) (p2:ah):Option Bool:=
 if p2.bh==1 then
 (Vw n p2).bind λx8=>if x8 then
 some ((p2.fArgs.length:Int)==0)
 else
 some false
 else
 if p2.bh==2 then
 (Vw n p2).bind λdB=>if dB then
 some ((p2.fArgs.length:Int)==0)
 else
 some false
 else
 if p2.bh==3 then
 (adk n er params1 p2.cm).bind λfh=>if (p2.fArgs.length:Int)==0 then
 if !decide (p2.eM<1) then
 if !decide (6<p2.eM) then
 if fh !=0 then
 (adk n er params1 p2.bL).bind λzI=>some (fh==zI)
 else
 some false
 else
 some false
 else
 some false
 else
 some false
 else
 if p2.bh==4 then
 FN kf n er params1 p2
 else
 if p2.bh==5 then
 FN kf n er params1 p2
 else
 if p2.bh==6 then
 if (p2.fArgs.length:Int) !=1 then
 some false
 else
 FN kf n er params1 p2
 else
 some false
def aGn {kf} (sf:D4 kf) (n:Nat):K3 (anM []) AA (aep kf n):=λer params1 p2 r h=>ie h (λc0 h=>be h λx8 oH h=>let zA:SE:=[bt c0,iS (Xo n oH)];ie h (λc1 bI=>by subst c1;exact (rr bI zA)) λc1 bI=>by subst c1;exact (rr bI zA)) λc0 h=>let zA:SE:=[bt c0];ie h (λc1 h=>be h λdB kS h=>let zB:SE:=dU zA [bb c1,iS (Xo n kS)];ie h (λc2 bI=>by subst c2;exact (rr bI zB)) λc2 bI=>by subst c2;exact (rr bI zB)) λc1 h=>let zB:SE:=dU zA [bb c1];ie h (λc2 h=>be h λfh mK h=>let zC:SE:=dU zB [bb c2,oY (axO n mK)];ie h (λc3 h=>let zD:SE:=dU zC [bt c3];ie h (λc4 h=>ie h (λc5 h=>ie h (λc6 h=>be h λzI Ny h=>bH h zD [bj c4,bt c5,bj c6,yo (axO n Ny)]) λc6 h=>bH h zD [bj c4,bt c5,bj c6]) λc5 h=>bH h zD [bj c4,bt c5]) λc4 h=>bH h zD [bj c4]) λc3 h=>bH h zC [bt c3]) λc2 h=>let zC:SE:=dU zB [bb c2];ie h (λc3 h=>cI (acm sf n h) zC [bb c3]) λc3 h=>let zD:SE:=dU zC [bb c3];ie h (λc4 h=>cI (acm sf n h) zD [bb c4]) λc4 h=>ie h (λc5 h=>ie h (λc6 h=>bH h zD [bb c4,bb c5,bt c6]) λc6 h=>cI (acm sf n h) zD [bb c4,bb c5,bt c6]) λc5 h=>bH h zD [bb c4,bb c5]
def JT:Nat->aK->aK->ah->Option Bool
 |0,_,_,_=>none
 |n+1,er,params1,p2=>aep (JT n) n er params1 p2
def axY:∀n:Nat,D4 (JT n)
 |0=>λ_ _ _ _ h=>nz h
 |n+1=>λ_ _ _ _ h=>ca (X:=x173) (aGn (axY n) n h)
def x135:=fx E0 Tryz.f135 []
def A135:=Ax x135 ed bQ
def aeW (n:Nat) (er params1:aK) (p2:ah):Option Int:=
 (adr n er).bind λx4=>if !x4 then
 some 1
 else
 (adr n params1).bind λx9=>if !x9 then
 some 1
 else
 (VB n p2 0).bind λig=>if decide (24<ig) then
 some 2
 else
 (JU n p2 8).bind λjj=>if jj then
 some 2
 else
 (JT n er params1 p2).bind λgC=>if !gC then
 some 50
 else
 some 0
def aIe (n:Nat):K3 (A135 []) AA (aeW n):=λer params1 p2 r h=>be h λx4 jm h=>let zA:SE:=[kG (ayb n jm)];ie h (λc0 h=>bH h zA [aI c0]) λc0 h=>be h λx9 iO h=>let zB:SE:=dU zA [aI c0,iS (ayb n iO)];ie h (λc1 h=>bH h zB [aI c1]) λc1 h=>be h λig j2 h=>let zC:SE:=dU zB [aI c1,iS (aya n j2)];ie h (λc2 h=>bH h zC [aI c2]) λc2 h=>be h λjj nL h=>let zD:SE:=dU zC [aI c2,iS (axZ n nL)];ie h (λc3 bI=>by subst c3;exact (rr bI zD)) λc3 bI=>by subst c3;exact (be bI λgC l3 bI=>let zE:SE:=dU zD [mV (axY n l3)];ie bI (λc4 bI=>bH bI zE [aI c4]) λc4 bI=>bH bI zE [aI c4])
def adI:=aeW
def ayl (n:Nat):K3 (Cx E0 135 ed bQ) AA (adI n):=λ_ _ _ _ h=>ca (X:=x135) (aIe n h)
def x92:=fx E0 Tryz.f92 [0]
def A92:=Ax x92 O3 Lk
def amW (n:Nat) (c0:aL) (dr params2:aK) (kI:Int):Option (ah×aL):=
 (B8 n c0 dr params2 kI).bind λx6=>(adI n dr params2 x6.1).bind λeh=>if eh==2 then
 (B8 n x6.2 dr params2 1).bind λjj=>some (jj.1,jj.2)
 else
 some (x6.1,x6.2)
def aLb (n:Nat):K4 (A92 []) KI (amW n):=λc0 dr params2 kI r h=>be h λx6 lC h=>be h λeh iz h=>let zA:SE:=[(5,.call (ali n lC) [(0,0)] []),oY (ayl n iz)];ie h (λdt h=>be h λjj nL h=>bH h zA [aI dt,(3,.call (ali n nL) [(0,0)] [])]) λdt h=>bH h zA [aI dt]
def F92:=amW
def ev92 (n:Nat):K4 (Cx E0 92 O3 Lk) KI (F92 n):=λ_ _ _ _ _ h=>ca (X:=x92) (aLb n h)
def awF (r:(ag×aL)):AV:=.agg (dP r.1)
def apl (r:(ag×aL)):List (Nat×Bx):= (rA (fJ r.2))
def x38:=fx E0 Tryz.f38 [0]
def A38:=Ax x38 awF apl
def aEf (b0:aL) (b2 b5:ag) (fD:br):LS:=⟨[(0,.loc 0 0),(2,.loc 2 0),(5,.loc 5 0)],[(0,o9 (fJ b0)),(2,ake),(5,UM b5 fD.length),(32,.rows false 44 5 (cZ fD))]⟩
def aos (n3:Int) (b0:aL) (b2 b5:ag) (fD:br):LS:=⟨[(0,.loc 0 0),(2,.loc 2 0),(3,cg n3),(5,.loc 5 0)],[(0,o9 (fJ b0)),(2,ake),(5,UM b5 fD.length),(32,.rows false 44 5 (cZ fD))]⟩
def aEe (n3 id4:Int) (b0:aL) (b2:ag):LS:=⟨[(0,.loc 0 0),(2,.loc 2 0),(3,cg n3),(4,cg id4)],[(0,o9 (fJ b0)),(2,ake)]⟩
def Hv (n:Nat) (b0:aL) (b2 b5:ag) (fD:br):Option (ag×aL):=
 (C9 n b0 3).bind λx2=>if x2.1 then
 (F50 n (ag.mk b5.aw fD) 1).bind λx8=>(F92 n x2.2 x8 [] 1).bind λdB=>(eZ fD.length 1).bind λeh=>(fD[0+eh]?).bind λfg=>(setAt fD (0+eh) (aj.mk fg.av fg.ae fg.ay fg.af [dB.1])).bind λz18=>some ((ag.mk b5.aw z18),dB.2)
 else
 some ((ag.mk b5.aw fD),x2.2)
def alS (n:Nat):K4 (A38 (cF 1023)) aEf (Hv n):=λb0 b2 b5 fD r h=>be h λx2 cX h=>ie h (λdt h=>be h λx8 oH h=>be h λdB kS h=>be h λeh iz h=>be h λfg iM h=>be h λz18 U3 h=>rr h [(1,.call (cb (qY n cX) dt) [(0,0)] []),(4,.Am (auJ n oH) [bW.fX 32 fD] (R3.noDR (λ_=>by kernel_rfl) x8) [] [(80,cT)] [R3.fX 80 x8]),(0,.call (ev92 n kS) [(0,0)] []),(0,.laid (bM (Bx.rows false 107 13) (eD.map [dB.1]).symm)),(0,dO iz),(1,bW.hol 4 iM),(0,eD.fX 82 [dB.1]),(0,bW.clo 32 4 (.slice 107 13 [dB.1].length (aJ [dB.1])) .undef iM U3 (by kernel_rfl)),(2,.seq 77 (bM (AV.ms 32 5 0) (ew U3))),(0,.seq 79 (bM (λn_=>(AV.agg [q7_ b5,.ms 32 5 0 n_])) (ew U3))),(0,.seq 85 (bM (λn_=>(AV.agg [q7_ b5,.ms 32 5 0 n_])) (ew U3))),(0,.beq 2 (bM (UM b5) (ew U3))),(0,.beq 5 (bM (UM b5) (ew U3))),(0,bW.fX 32 z18)]) λdt h=>rr h [(1,.call (cb (qY n cX) dt) [(0,0)] []),(2,bW.fX 32 fD)]
def Dc (n:Nat) (n3:Int) (b0:aL) (b2 b5:ag) (fD:br):Option (ag×aL):=
 if decide (3<n3) then
 (C9 n b0 3).bind λx5=>if x5.1 then
 (eZ fD.length 3).bind λeh=>(fD[0+eh]?).bind λfg=>(setAt fD (0+eh) (aj.mk fg.av fg.ae fg.ay [(bk.mk [0] 1)] fg.ak)).bind λqG=>Hv n x5.2 (ag.mk 0 []) (ag.mk b5.aw qG) qG
 else
 Hv n x5.2 (ag.mk 0 []) (ag.mk b5.aw fD) fD
 else
 Hv n b0 (ag.mk 0 []) (ag.mk b5.aw fD) fD
def alR (n:Nat):K5 (A38 (cF 511)) aos (Dc n):=λn3 b0 b2 b5 fD r h=>ie h (λdt h=>be h λx5 kR h=>ie h (λc1 h=>be h λeh iz h=>be h λfg iM h=>be h λqG nj h=>ra (alS n h) [bb dt,(2,.call (cb (qY n kR) c1) [(0,0)] []),(5,R3.fX 69 [0]),(1,dO iz),(1,eN.fX 71 [(bk.mk [0] 1)]),(0,bW.uE 3 [.slice 121 2 [(bk.mk [0] 1)].length (aQ [(bk.mk [0] 1)])] iM nj (by kernel_rfl)),(0,.beq 5 (bM (UM b5) (ew nj)))]) λc1 h=>ra (alS n h) [bb dt,(2,.call (cb (qY n kR) c1) [(0,0)] [])]) λdt h=>ra (alS n h) [bb dt]
def Ht (n:Nat) (n3:Int) (b0:aL) (b2 b5:ag) (fD:br):Option (ag×aL):=
 if decide (2<n3) then
 (C9 n b0 3).bind λx5=>if x5.1 then
 (eZ fD.length 2).bind λeh=>(fD[0+eh]?).bind λfg=>(setAt fD (0+eh) (aj.mk fg.av fg.ae fg.ay [(bk.mk [0] 0)] fg.ak)).bind λqG=>Dc n n3 x5.2 (ag.mk 0 []) (ag.mk b5.aw qG) qG
 else
 Dc n n3 x5.2 (ag.mk 0 []) (ag.mk b5.aw fD) fD
 else
 Dc n n3 b0 (ag.mk 0 []) (ag.mk b5.aw fD) fD
def ayJ (n:Nat):K5 (A38 (cF 255)) aos (Ht n):=λn3 b0 b2 b5 fD r h=>ie h (λdt h=>be h λx5 kR h=>ie h (λc1 h=>be h λeh iz h=>be h λfg iM h=>be h λqG nj h=>ra (alR n h) [bb dt,(2,.call (cb (qY n kR) c1) [(0,0)] []),(5,R3.fX 56 [0]),(1,dO iz),(1,eN.fX 58 [(bk.mk [0] 0)]),(0,bW.uE 3 [.slice 121 2 [(bk.mk [0] 0)].length (aQ [(bk.mk [0] 0)])] iM nj (by kernel_rfl)),(0,.beq 5 (bM (UM b5) (ew nj)))]) λc1 h=>ra (alR n h) [bb dt,(2,.call (cb (qY n kR) c1) [(0,0)] [])]) λdt h=>ra (alR n h) [bb dt]
def QI (n:Nat) (n3 id4:Int) (b0:aL) (b2:ag):Option (ag×aL):=
 (rq n b0 3).bind λx2=>(B6 n (ByteArray.mk #[105,100]) 4).bind λx4=>(B6 n (ByteArray.mk #[111,119,110,101,114]) 4).bind λx6=>(B6 n (ByteArray.mk #[105,100]) id4).bind λdA=>(B6 n (ByteArray.mk #[112,114,111,106,101,99,116]) 4).bind λeh=>(B6 n (ByteArray.mk #[116,105,116,108,101]) 5).bind λfh=>(B6 n (ByteArray.mk #[100,111,110,101]) 3).bind λiG=>(B6 n (ByteArray.mk #[112,114,111,106,101,99,116]) 4).bind λpG=>(B6 n (ByteArray.mk #[112,101,114,115,111,110]) 4).bind λiF=>(B6 n (ByteArray.mk #[116,97,115,107]) id4).bind λnv=>(tD 4 n3).bind λrW=>(C9 n x2.2 2).bind λx44=>if x44.1 then
 (eZ rW 1).bind λH3=>([(aj.mk (ByteArray.mk #[112,114,111,106,101,99,116,115]) [x4,x6] 1 [] []),(aj.mk (ByteArray.mk #[116,97,115,107,115]) [dA,eh,fh,iG] 1 [] []),(aj.mk (ByteArray.mk #[109,101,109,98,101,114,115]) [pG,iF] 2 [] []),(aj.mk (ByteArray.mk #[97,114,99,104,105,118,101,100]) [nv] 1 [] [])][0+H3]?).bind λx54=>(setAt [(aj.mk (ByteArray.mk #[112,114,111,106,101,99,116,115]) [x4,x6] 1 [] []),(aj.mk (ByteArray.mk #[116,97,115,107,115]) [dA,eh,fh,iG] 1 [] []),(aj.mk (ByteArray.mk #[109,101,109,98,101,114,115]) [pG,iF] 2 [] []),(aj.mk (ByteArray.mk #[97,114,99,104,105,118,101,100]) [nv] 1 [] [])] (0+H3) (aj.mk x54.av x54.ae x54.ay [(bk.mk [1] 0)] x54.ak)).bind λz55=>Ht n n3 x44.2 (ag.mk 0 []) (ag.mk x2.1 (z55.take rW)) (z55.take rW)
 else
 Ht n n3 x44.2 (ag.mk 0 []) (ag.mk x2.1 ([(aj.mk (ByteArray.mk #[112,114,111,106,101,99,116,115]) [x4,x6] 1 [] []),(aj.mk (ByteArray.mk #[116,97,115,107,115]) [dA,eh,fh,iG] 1 [] []),(aj.mk (ByteArray.mk #[109,101,109,98,101,114,115]) [pG,iF] 2 [] []),(aj.mk (ByteArray.mk #[97,114,99,104,105,118,101,100]) [nv] 1 [] [])].take rW)) ([(aj.mk (ByteArray.mk #[112,114,111,106,101,99,116,115]) [x4,x6] 1 [] []),(aj.mk (ByteArray.mk #[116,97,115,107,115]) [dA,eh,fh,iG] 1 [] []),(aj.mk (ByteArray.mk #[109,101,109,98,101,114,115]) [pG,iF] 2 [] []),(aj.mk (ByteArray.mk #[97,114,99,104,105,118,101,100]) [nv] 1 [] [])].take rW)
def ayI (n:Nat):K4 (A38 [1,1,1,1]) aEe (QI n):=λn3 id4 b0 b2 r h=>be h λx2 cX h=>be h λx4 jm h=>be h λx6 lC h=>be h λdA gn h=>be h λeh iz h=>be h λfh mK h=>be h λiG kg h=>be h λpG xT h=>be h λiF tv h=>be h λnv sL h=>be h λrW Bm h=>be h λx44 akL h=>let zA:SE:=[(1,.call (oO n cX) [(0,0)] []),oZ (BE n jm),oZ (BE n lC),kG (BE n gn),oZ (BE n iz),oZ (BE n mK),oZ (BE n kg),iS (BE n xT),oZ (BE n tv),kG (BE n sL),(2,eL.fX 15 [x4,x6]),(0,.zJ 16 (.agg [.bool true,.bool true,.bool true,.sl 0 121 2 0 [],.sl 0 107 13 0 []])),(0,eL.fX 22 [dA,eh,fh,iG]),(0,.zJ 23 (.agg [.bool true,.bool true,.bool true,.sl 0 121 2 0 [],.sl 0 107 13 0 []])),(0,eL.fX 26 [pG,iF]),(0,.zJ 27 (.agg [.bool true,.bool true,.bool true,.sl 0 121 2 0 [],.sl 0 107 13 0 []])),(0,eL.fX 30 [nv]),(0,.zJ 31 (.agg [.bool true,.bool true,.bool true,.sl 0 121 2 0 [],.sl 0 107 13 0 []])),(7,bW.tD (xs:= [(aj.mk (ByteArray.mk #[112,114,111,106,101,99,116,115]) [x4,x6] 1 [] []),(aj.mk (ByteArray.mk #[116,97,115,107,115]) [dA,eh,fh,iG] 1 [] []),(aj.mk (ByteArray.mk #[109,101,109,98,101,114,115]) [pG,iF] 2 [] []),(aj.mk (ByteArray.mk #[97,114,99,104,105,118,101,100]) [nv] 1 [] [])]) Bm (vW rfl))];ie h (λdt h=>be h λH3 atT h=>be h λx54 hx54 h=>be h λz55 hz55 h=>cI (ayJ n h) zA [(3,.call (cb (qY n akL) dt) [(0,0)] []),(4,R3.fX 43 [1]),(1,dO atT),(1,eN.fX 45 [(bk.mk [1] 0)]),(0,bW.uE 3 [.slice 121 2 [(bk.mk [1] 0)].length (aQ [(bk.mk [1] 0)])] hx54 hz55 (by kernel_rfl)),(0,.shr 32 (bW.take z55 rW)),(0,.beq 5 (bM (λn_=>(Bx.flat 25 [cg x2.1,.ms 32 5 0 n_])) ((Ce (xs:=z55) (jf (jf (vT Bm).2 (vW rfl)) (vW (ew hz55)))).symm)))]) λdt h=>cI (ayJ n h) zA [(3,.call (cb (qY n akL) dt) [(0,0)] []),(0,.shr 32 (bW.take [(aj.mk (ByteArray.mk #[112,114,111,106,101,99,116,115]) [x4,x6] 1 [] []),(aj.mk (ByteArray.mk #[116,97,115,107,115]) [dA,eh,fh,iG] 1 [] []),(aj.mk (ByteArray.mk #[109,101,109,98,101,114,115]) [pG,iF] 2 [] []),(aj.mk (ByteArray.mk #[97,114,99,104,105,118,101,100]) [nv] 1 [] [])] rW)),(0,.beq 5 (bM (λn_=>(Bx.flat 25 [cg x2.1,.ms 32 5 0 n_])) ((Ce (xs:= [(aj.mk (ByteArray.mk #[112,114,111,106,101,99,116,115]) [x4,x6] 1 [] []),(aj.mk (ByteArray.mk #[116,97,115,107,115]) [dA,eh,fh,iG] 1 [] []),(aj.mk (ByteArray.mk #[109,101,109,98,101,114,115]) [pG,iF] 2 [] []),(aj.mk (ByteArray.mk #[97,114,99,104,105,118,101,100]) [nv] 1 [] [])]) (jf (vT Bm).2 (vW rfl))).symm)))]
def anz (n:Nat) (c0:aL):Option (ag×aL):=
 (rq n c0 3).bind λx3=>(C9 n x3.2 5).bind λx9=>if x9.1 then
 QI n (bl (2+x3.1)) 5 x9.2 (ag.mk 0 [])
 else
 QI n (bl (2+x3.1)) 4 x9.2 (ag.mk 0 [])
def aMf (n:Nat):K1 (A38 []) vF (anz n):=λc0 r h=>be h λx3 eY h=>be h λx9 iO h=>let zA:SE:=[(2,.call (oO n eY) [(0,0)] [])];ie h (λdt h=>cI (ayI n h) zA [(4,.call (cb (qY n iO) dt) [(0,0)] [])]) λdt h=>cI (ayI n h) zA [(4,.call (cb (qY n iO) dt) [(0,0)] [])]
def F38:=anz
def ev38 (n:Nat):K1 (Cx E0 38 awF apl) vF (F38 n):=λ_ _ h=>ca (X:=x38) (aMf n h)
def x174:=fx E0 Tryz.f174 []
def anL:=Ax x174 du bQ
def azJ (s0:ByteArray) (i3:Int) (t49:Bool):LS:=⟨[(0,.str s0),(3,cg i3),(49,.bool t49)],[]⟩
def azI (s0:ByteArray) (i3:Int):LS:=⟨[(0,.str s0),(3,cg i3)],[]⟩
def azH:LS:=⟨[],[]⟩
def KB (s0:ByteArray):LS:=⟨[(0,.str s0)],[]⟩
def wZ (aN:ByteArray->Int->Option Bool) (n:Nat) (s0:ByteArray) (i3:Int) (t49:Bool):Option Bool:=
 if t49 then
 some false
 else
 aN s0 (bl (i3+1))
def OT:=K2 (anL [0,1,0,1,1]) azI
def BN {aN} (bn:OT aN) (n:Nat):K3 (anL (cF 3659)) azJ (wZ aN n):=λs0 i3 t49 r h=>ie h (λc0 bI=>by subst c0;exact (rr bI [])) λc0 bI=>by subst c0;exact (ra (bn bI) [])
def Q9 (bw:Option Bool) (back:ByteArray->Int->Option Bool) (n:Nat) (s0:ByteArray) (i3:Int):Option Bool:=
 if decide (i3<(s0.size:Int)) then
 (Dq s0 i3).bind λx7=>if decide ((x7.toNat:Int)<97) then
 if decide ((x7.toNat:Int)<48) then
 wZ back n s0 i3 ((x7.toNat:Int) !=95)
 else
 if decide (57<(x7.toNat:Int)) then
 wZ back n s0 i3 ((x7.toNat:Int) !=95)
 else
 wZ back n s0 i3 false
 else
 if decide (122<(x7.toNat:Int)) then
 if decide ((x7.toNat:Int)<48) then
 wZ back n s0 i3 ((x7.toNat:Int) !=95)
 else
 if decide (57<(x7.toNat:Int)) then
 wZ back n s0 i3 ((x7.toNat:Int) !=95)
 else
 wZ back n s0 i3 false
 else
 wZ back n s0 i3 false
 else
 bw
def ZS:=K0 (anL [1,1,1]) azH
def aGm {bw} (cM:ZS bw) {back} (aS:OT back) (n:Nat):OT (Q9 bw back n):=λs0 i3 r h=>ie h (λc0 h=>be h λx7 jv h=>let zA:SE:=[bj c0,(2,.chr (jv))];ie h (λc1 h=>ie h (λc2 h=>cI (BN aS n h) zA [ba c1,bt c2]) λc2 h=>ie h (λc3 h=>cI (BN aS n h) zA [ba c1,bt c2,ba c3]) λc3 h=>cI (BN aS n h) zA [ba c1,bt c2,ba c3]) λc1 h=>let zB:SE:=dU zA [ba c1];ie h (λc2 h=>ie h (λc3 h=>cI (BN aS n h) zB [ba c2,bj c3]) λc3 h=>ie h (λc4 h=>cI (BN aS n h) zB [ba c2,bj c3,ba c4]) λc4 h=>cI (BN aS n h) zB [ba c2,bj c3,ba c4]) λc2 h=>cI (BN aS n h) zB [ba c2]) λc0 h=>ra (cM h) [bj c0]
def y9 (bw:Option Bool):Nat->ByteArray->Int->Option Bool
 |0=>λ_ _=>none
 |n+1=>Q9 bw (y9 bw n) n
def apW {bw} (cM:ZS bw):∀n:Nat,OT (y9 bw n)
 |0=>λ_ _ _ h=>nz h
 |n+1=>aGm cM (apW cM n) n
def FM (n:Nat):Option Bool:=
 some true
def aGl (n:Nat):ZS (FM n):=λr h=>rr h []
def aeo (n:Nat) (s0:ByteArray):Option Bool:=
 if (s0.size:Int)==0 then
 some false
 else
 if decide (32<(s0.size:Int)) then
 some false
 else
 (Dq s0 0).bind λgP=>if decide ((gP.toNat:Int)<97) then
 some false
 else
 (Dq s0 0).bind λlh=>if decide (122<(lh.toNat:Int)) then
 some false
 else
 y9 (FM n) n s0 0
def aGk (n:Nat):K1 (anL []) KB (aeo n):=λs0 r h=>ie h (λc0 h=>rr h [bj c0]) λc0 h=>ie h (λc1 h=>rr h [bj c0,bj c1]) λc1 h=>be h λgP jC h=>let zA:SE:=[bj c0,bj c1,(3,.chr (jC))];ie h (λc2 h=>bH h zA [aI c2]) λc2 h=>be h λlh pd h=>ie h (λc3 h=>bH h zA [aI c2,(3,.chr (pd)),aI c3]) λc3 h=>cI (apW (aGl n) n h) zA [aI c2,(3,.chr (pd)),aI c3]
def adq:=aeo
def axX (n:Nat):K1 (Cx E0 174 du bQ) KB (adq n):=λ_ _ h=>ca (X:=x174) (aGk n h)
def x138:=fx E0 Tryz.f138 []
def Od:=Ax x138 du bQ
def aAL (i1 k6:Int) (b2:ag) (b5:aj):LS:=⟨[(1,cg i1),(2,.loc 2 0),(5,.loc 5 0),(6,cg k6)],[(2,jt (dP b2)),(5,qO (iC b5))]⟩
def aAK (c7 k8 t53 t54:Int) (t67:cO) (t68:Int) (t69 t70:cJ) (t71:Int) (t72:Bool) (b5:aj):LS:=⟨[(5,.loc 5 0),(7,.int .i64 c7),(8,.int .i64 k8),(53,.int .i64 t53),(54,.int .i64 t54),(66,.loc 5 1),(67,.slice 73 2 t67.length (bE t67)),(68,.int .i64 t68),(69,.ju (GP t69)),(70,.ju [cg t70.ax]),(71,.int .i64 t71),(72,.bool t72),(73,.bool false)],[(5,qO (iC b5))]⟩
def aAJ (t53 t54:Int) (t67:cO) (t68:Int) (t69 t70:cJ) (t71:Int) (t72:Bool) (b5:aj):LS:=⟨[(5,.loc 5 0),(53,.int .i64 t53),(54,.int .i64 t54),(66,.loc 5 1),(67,.slice 73 2 t67.length (bE t67)),(68,.int .i64 t68),(69,.ju (GP t69)),(70,.ju [cg t70.ax]),(71,.int .i64 t71),(72,.bool t72),(73,.bool false)],[(5,qO (iC b5))]⟩
def aAI (t53 t54:Int) (b5:aj):LS:=⟨[(5,.loc 5 0),(53,cg t53),(54,cg t54)],[(5,qO (iC b5))]⟩
def aAH:LS:=⟨[],[]⟩
def aAG (b5:aj):LS:=⟨[(5,.loc 5 0)],[(5,qO (iC b5))]⟩
def KH (s0:ag) (i1:Int):LS:=⟨[(0,.agg (dP s0)),(1,cg i1)],[]⟩
def R1 (dX:aj->Option Bool) (back:Int->Int->ag->aj->Option Bool) (n:Nat) (i1 k6:Int) (b2:ag) (b5:aj):Option Bool:=
 if decide (k6<i1) then
 (idx b2.ai k6).bind λx7=>if decide (x7.av=b5.av) then
 some false
 else
 back i1 (bl (k6+1)) b2 b5
 else
 dX b5
def ZR:=K1 (Od [1,1,1,1]) aAG
def ZQ:=K4 (Od (cF 87)) aAL
def aHX {dX} (gf:ZR dX) {back} (aS:ZQ back) (n:Nat):ZQ (R1 dX back n):=λi1 k6 b2 b5 r h=>ie h (λc0 h=>be h λx7 jv h=>ie h (λc1 h=>rr h [ba c0,(3,bW.idx jv),bt c1]) λc1 h=>ra (aS h) [ba c0,(3,bW.idx jv),bt c1]) λc0 h=>ra (gf h) [ba c0]
def Ft (dX:aj->Option Bool):Nat->Int->Int->ag->aj->Option Bool
 |0=>λ_ _ _ _=>none
 |n+1=>R1 dX (Ft dX n) n
def aqz {dX} (gf:ZR dX):∀n:Nat,ZQ (Ft dX n)
 |0=>λ_ _ _ _ _ h=>nz h
 |n+1=>aHX gf (aqz gf n) n
def R0 (bw:Wf7) (back:Int->Int->Int->Int->cO->Int->cJ->cJ->Int->Bool->aj->Option Bool) (n:Nat) (c7 k8 t53 t54:Int) (t67:cO) (t68:Int) (t69 t70:cJ) (t71:Int) (t72:Bool) (b5:aj):Option Bool:=
 if decide (k8<c7) then
 (idx b5.ae k8).bind λx7=>(idx b5.ae c7).bind λig=>if decide (x7.av=ig.av) then
 some false
 else
 back c7 (bl (k8+1)) t53 t54 t67 t68 t69 t70 t71 t72 b5
 else
 bw t53 t54 t67 t68 t69 t70 t71 t72 b5
def ZP:=K9 (Od (cF 3887)) aAJ
def ZO:=K11 (Od (cF 95023)) aAK
def aHW {bw} (cM:ZP bw) {back} (aS:ZO back) (n:Nat):ZO (R0 bw back n):=λc7 k8 t53 t54 t67 t68 t69 t70 t71 t72 b5 r h=>ie h (λc0 h=>be h λx7 jv h=>be h λig j2 h=>let zA:SE:=[ba c0,(3,eL.idx jv),(5,eL.idx j2)];ie h (λc1 h=>bH h zA [ba c1]) λc1 h=>cI (aS h) zA [ba c1]) λc0 h=>ra (cM h) [ba c0]
def Fs (bw:Wf7):Nat->Int->Int->Int->Int->cO->Int->cJ->cJ->Int->Bool->aj->Option Bool
 |0=>λ_ _ _ _ _ _ _ _ _ _ _=>none
 |n+1=>R0 bw (Fs bw n) n
def aqy {bw} (cM:ZP bw):∀n:Nat,ZO (Fs bw n)
 |0=>λ_ _ _ _ _ _ _ _ _ _ _ _ h=>nz h
 |n+1=>aHW cM (aqy cM n) n
def RZ (bD:Int->Int->aj->Option Bool) (n:Nat) (t53 t54:Int) (t67:cO) (t68:Int) (t69 t70:cJ) (t71:Int) (t72:Bool) (b5:aj):Option Bool:=
 bD t53 (bl (t54+1)) b5
def OS:=K3 (Od (cF 175)) aAI
def aHV {bD} (cU:OS bD) (n:Nat):ZP (RZ bD n):=λt53 t54 t67 t68 t69 t70 t71 t72 b5 r h=>ra (cU h) []
def RY (da:Option Bool) (back:Int->Int->aj->Option Bool) (n:Nat) (t53 t54:Int) (b5:aj):Option Bool:=
 if decide (t54<t53) then
 (idx b5.ae t54).bind λx7=>(adq n x7.av).bind λdA=>if !dA then
 some false
 else
 (idx b5.ae t54).bind λlh=>(adp n lh.ax).bind λnc=>if !nc then
 some false
 else
 Fs (RZ back n) n t54 0 t53 t54 b5.ae t54 lh lh lh.ax nc b5
 else
 da
def ZN:=K0 (Od [1,1,1,1,1]) aAH
def aHU {da} (eW:ZN da) {back} (aS:OS back) (n:Nat):OS (RY da back n):=λt53 t54 b5 r h=>ie h (λc0 h=>be h λx7 jv h=>be h λdA gn h=>let zA:SE:=[aI c0,(5,eL.idx jv),iS (axX n gn)];ie h (λc1 h=>bH h zA [aI c1]) λc1 h=>be h λlh pd h=>be h λnc pc h=>let zB:SE:=dU zA [aI c1,(4,eL.idx pd),iS (axW n pc)];ie h (λc2 h=>bH h zB [aI c2]) λc2 h=>cI (aqy (aHV aS n) n h) zB [aI c2]) λc0 h=>ra (eW h) [aI c0]
def B2 (da:Option Bool):Nat->Int->Int->aj->Option Bool
 |0=>λ_ _ _=>none
 |n+1=>RY da (B2 da n) n
def aqx {da} (eW:ZN da):∀n:Nat,OS (B2 da n)
 |0=>λ_ _ _ _ h=>nz h
 |n+1=>aHU eW (aqx eW n) n
def Ka (n:Nat):Option Bool:=
 some true
def aHT (n:Nat):ZN (Ka n):=λr h=>rr h []
def RX (n:Nat) (b5:aj):Option Bool:=
 B2 (Ka n) n (b5.ae.length:Int) 0 b5
def aHS (n:Nat):ZR (RX n):=λb5 r h=>ra (aqx (aHT n) n h) []
def aeT (n:Nat) (s0:ag) (i1:Int):Option Bool:=
 (idx s0.ai i1).bind λx6=>(adq n x6.av).bind λeh=>if !eh then
 some false
 else
 if (x6.ae.length:Int)==0 then
 some false
 else
 if decide (x6.ay<1) then
 some false
 else
 if decide ((x6.ae.length:Int)<x6.ay) then
 some false
 else
 Ft (RX n) n i1 0 s0 x6
def aHR (n:Nat):K2 (Od []) KH (aeT n):=λs0 i1 r h=>be h λx6 lC h=>be h λeh iz h=>let zA:SE:=[(5,bW.idx lC),oY (axX n iz)];ie h (λc0 h=>bH h zA [aI c0]) λc0 h=>let zB:SE:=dU zA [aI c0];ie h (λc1 h=>bH h zB [bt c1]) λc1 h=>ie h (λc2 h=>bH h zB [bt c1,bt c2]) λc2 h=>ie h (λc3 h=>bH h zB [bt c1,bt c2,jS c3]) λc3 h=>cI (aqz (aHS n) n h) zB [bt c1,bt c2,jS c3]
def amI:=aeT
def aKm (n:Nat):K2 (Cx E0 138 du bQ) KH (amI n):=λ_ _ _ h=>ca (X:=x138) (aHR n h)
def x139:=fx E0 Tryz.f139 []
def afq:=Ax x139 du bQ
def aAF (t16:cA) (t17 t18 t27:Int) (t29:br) (t30:Int) (t35:aK) (t36:Int) (t38:br) (t40:Int) (t41 t42:aj) (t43:Int) (t47:aK) (t48 t49:Int) (b2:ag) (b5:aj) (b7:bk):LS:=⟨[(2,.loc 2 0),(5,.loc 5 0),(7,.loc 7 0),(16,.slice 121 2 t16.length (aQ t16)),(17,.int .i64 t17),(18,.int .i64 t18),(26,.loc 7 1),(27,.int .i64 t27),(28,.loc 2 1),(29,.slice 44 5 t29.length (cZ t29)),(30,.int .i64 t30),(31,.bool false),(34,.loc 7 0),(35,.slice 3 1 t35.length (eo t35)),(36,.int .i64 t36),(37,.loc 2 1),(38,.slice 44 5 t38.length (cZ t38)),(39,.loc 7 1),(40,.int .i64 t40),(41,.ju (iC t41)),(42,.ju [.int .i64 t42.ay,.slice 121 2 t42.af.length (aQ t42.af),.slice 107 13 t42.ak.length (aJ t42.ak)]),(43,.int .i64 t43),(44,.bool false),(47,.slice 3 1 t47.length (eo t47)),(48,.int .i64 t48),(49,.int .i64 t49)],[(2,jt (dP b2)),(5,qO (iC b5)),(7,.flat 121 (BG b7))]⟩
def aAE (t16:cA) (t17 t18 t27:Int) (t29:br) (t30:Int) (t35:aK) (t36:Int) (t38:br) (t40:Int) (t41 t42:aj) (t43:Int) (b2:ag) (b5:aj) (b7:bk):LS:=⟨[(2,.loc 2 0),(5,.loc 5 0),(16,.slice 121 2 t16.length (aQ t16)),(17,.int .i64 t17),(18,.int .i64 t18),(26,.loc 7 1),(27,.int .i64 t27),(28,.loc 2 1),(29,.slice 44 5 t29.length (cZ t29)),(30,.int .i64 t30),(31,.bool false),(34,.loc 7 0),(35,.slice 3 1 t35.length (eo t35)),(36,.int .i64 t36),(37,.loc 2 1),(38,.slice 44 5 t38.length (cZ t38)),(39,.loc 7 1),(40,.int .i64 t40),(41,.ju (iC t41)),(42,.ju [.int .i64 t42.ay,.slice 121 2 t42.af.length (aQ t42.af),.slice 107 13 t42.ak.length (aJ t42.ak)]),(43,.int .i64 t43),(44,.bool false)],[(2,jt (dP b2)),(5,qO (iC b5)),(7,.flat 121 (BG b7))]⟩
def aAD (t16:cA) (t17 t18:Int) (b2:ag) (b5:aj):LS:=⟨[(2,.loc 2 0),(5,.loc 5 0),(16,.slice 121 2 t16.length (aQ t16)),(17,.int .i64 t17),(18,.int .i64 t18)],[(2,jt (dP b2)),(5,qO (iC b5))]⟩
def aAC:LS:=⟨[],[]⟩
def RW (aN:Wf8) (back:cA->Int->Int->Int->br->Int->aK->Int->br->Int->aj->aj->Int->aK->Int->Int->ag->aj->bk->Option Bool) (n:Nat) (t16:cA) (t17 t18 t27:Int) (t29:br) (t30:Int) (t35:aK) (t36:Int) (t38:br) (t40:Int) (t41 t42:aj) (t43:Int) (t47:aK) (t48 t49:Int) (b2:ag) (b5:aj) (b7:bk):Option Bool:=
 if decide (t49<t48) then
 (idx t47 t49).bind λx3=>if decide (x3<0) then
 some false
 else
 if !decide (x3<(b5.ae.length:Int)) then
 some false
 else
 (idx b5.ae x3).bind λpG=>(idx b2.ai b7.aG).bind λHz=>(idx Hz.ae t49).bind λx34=>if pG.ax !=x34.ax then
 some false
 else
 back t16 t17 t18 t27 t29 t30 t35 t36 t38 t40 t41 t42 t43 t47 t48 (bl (t49+1)) b2 b5 b7
 else
 aN t16 t17 t18 t27 t29 t30 t35 t36 t38 t40 t41 t42 t43 b2 b5 b7
def ZM:=K16 (afq (cF 971)) aAE
def ZL:=K19 (afq (cF 23755)) aAF
def aHQ {aN} (bn:ZM aN) {back} (aS:ZL back) (n:Nat):ZL (RW aN back n):=λt16 t17 t18 t27 t29 t30 t35 t36 t38 t40 t41 t42 t43 t47 t48 t49 b2 b5 b7 r h=>ie h (λc0 h=>be h λx3 eY h=>let zA:SE:=[aI c0,(1,R3.idx eY)];ie h (λc1 h=>bH h zA [bt c1]) λc1 h=>ie h (λc2 h=>bH h zA [bt c1,cq c2]) λc2 h=>be h λpG xT h=>be h λHz NA h=>be h λx34 abu h=>let zB:SE:=dU zA [bt c1,cq c2,(5,eL.idx xT),(6,bW.idx NA),(3,eL.idx abu)];ie h (λc3 h=>bH h zB [ba c3]) λc3 h=>cI (aS h) zB [ba c3]) λc0 h=>ra (bn h) [aI c0]
def Fq (aN:Wf8):Nat->cA->Int->Int->Int->br->Int->aK->Int->br->Int->aj->aj->Int->aK->Int->Int->ag->aj->bk->Option Bool
 |0=>λ_ _ _ _ _ _ _ _ _ _ _ _ _ _ _ _ _ _ _=>none
 |n+1=>RW aN (Fq aN n) n
def aqw {aN} (bn:ZM aN):∀n:Nat,ZL (Fq aN n)
 |0=>λ_ _ _ _ _ _ _ _ _ _ _ _ _ _ _ _ _ _ _ _ h=>nz h
 |n+1=>aHQ bn (aqw bn n) n
def RV (bw:Wf9) (n:Nat) (t16:cA) (t17 t18 t27:Int) (t29:br) (t30:Int) (t35:aK) (t36:Int) (t38:br) (t40:Int) (t41 t42:aj) (t43:Int) (b2:ag) (b5:aj) (b7:bk):Option Bool:=
 bw t16 t17 (bl (t18+1)) b2 b5
def OQ:=K5 (afq [0,1,0,1,1]) aAD
def aHP {bw} (cM:OQ bw) (n:Nat):ZM (RV bw n):=λt16 t17 t18 t27 t29 t30 t35 t36 t38 t40 t41 t42 t43 b2 b5 b7 r h=>ra (cM h) []
def RU (bD:Option Bool) (back:Wf9) (n:Nat) (t16:cA) (t17 t18:Int) (b2:ag) (b5:aj):Option Bool:=
 if decide (t18<t17) then
 (idx t16 t18).bind λx2=>if decide (x2.aG<0) then
 some false
 else
 if !decide (x2.aG<(b2.ai.length:Int)) then
 some false
 else
 (idx b2.ai x2.aG).bind λsO=>if (x2.ae.length:Int) !=sO.ay then
 some false
 else
 Fq (RV back n) n t16 t17 t18 x2.aG b2.ai (b2.ai.length:Int) x2.ae (x2.ae.length:Int) b2.ai x2.aG sO sO sO.ay x2.ae (x2.ae.length:Int) 0 b2 b5 x2
 else
 bD
def ZK:=K0 (afq [1,1,1]) aAC
def aHO {bD} (cU:ZK bD) {back} (aS:OQ back) (n:Nat):OQ (RU bD back n):=λt16 t17 t18 b2 b5 r h=>ie h (λc0 h=>be h λx2 cX h=>let zA:SE:=[aI c0,(0,eN.idx cX)];ie h (λc1 h=>bH h zA [cq c1]) λc1 h=>ie h (λc2 h=>bH h zA [cq c1,dL c2]) λc2 h=>be h λsO xS h=>let zB:SE:=dU zA [cq c1,dL c2,(9,bW.idx xS)];ie h (λc3 h=>bH h zB [ba c3]) λc3 h=>cI (aqw (aHP aS n) n h) zB [ba c3]) λc0 h=>ra (cU h) [aI c0]
def B1 (bD:Option Bool):Nat->cA->Int->Int->ag->aj->Option Bool
 |0=>λ_ _ _ _ _=>none
 |n+1=>RU bD (B1 bD n) n
def aqv {bD} (cU:ZK bD):∀n:Nat,OQ (B1 bD n)
 |0=>λ_ _ _ _ _ _ h=>nz h
 |n+1=>aHO cU (aqv cU n) n
def J9 (n:Nat):Option Bool:=
 some true
def aHN (n:Nat):ZK (J9 n):=λr h=>rr h []
def aeS (n:Nat) (s0:ag) (i1:Int):Option Bool:=
 (idx s0.ai i1).bind λx6=>B1 (J9 n) n x6.af (x6.af.length:Int) 0 s0 x6
def aHM (n:Nat):K2 (afq []) KH (aeS n):=λs0 i1 r h=>be h λx6 lC h=>ra (aqv (aHN n) n h) [(5,bW.idx lC)]
def amH:=aeS
def aKl (n:Nat):K2 (Cx E0 139 du bQ) KH (amH n):=λ_ _ _ h=>ca (X:=x139) (aHM n h)
def x94:=fx E0 Tryz.f94 []
def Ki:=Ax x94 ed bQ
def aod (t16:br) (t17 t18:Int) (b1:ag):LS:=⟨[(1,.loc 1 0),(16,.slice 44 5 t16.length (cZ t16)),(17,.int .i64 t17),(18,.int .i64 t18)],[(1,jt (dP b1))]⟩
def aDp (t49 t50:Int) (b1:ag):LS:=⟨[(1,.loc 1 0),(49,cg t49),(50,cg t50)],[(1,jt (dP b1))]⟩
def aDo (t60 t61:Int) (b1:ag):LS:=⟨[(1,.loc 1 0),(60,cg t60),(61,cg t61)],[(1,jt (dP b1))]⟩
def aDn (i7 t71 t72:Int) (t80:bN) (t81 t82:Int) (b1:ag):LS:=⟨[(1,.loc 1 0),(7,.int .i64 i7),(71,.int .i64 t71),(72,.int .i64 t72),(80,.slice 107 13 t80.length (aJ t80)),(81,.int .i64 t81),(82,.int .i64 t82)],[(1,jt (dP b1))]⟩
def aoc (t71 t72:Int) (b1:ag):LS:=⟨[(1,.loc 1 0),(71,cg t71),(72,cg t72)],[(1,jt (dP b1))]⟩
def aDm:LS:=⟨[],[]⟩
def OB (b1:ag):LS:=⟨[(1,.loc 1 0)],[(1,jt (dP b1))]⟩
def sy (s0:ag):LS:=⟨[(0,.agg (dP s0))],[]⟩
def XT (k_9:JK) (back:Vp) (n:Nat) (t16:br) (t17 t18:Int) (b1:ag):Option Int:=
 if decide (t18<t17) then
 (idx t16 t18).bind λx2=>if decide (8<(x2.ae.length:Int)) then
 some 2
 else
 if decide (4<(x2.af.length:Int)) then
 some 2
 else
 if decide (4<(x2.ak.length:Int)) then
 some 2
 else
 back t16 t17 (bl (t18+1)) b1
 else
 k_9 b1
def ZJ:=K1 (Ki [1,1,1]) OB
def ZI:=K4 (Ki [0,1,0,1,1]) aod
def aKZ {k_9} (akU:ZJ k_9) {back} (aS:ZI back) (n:Nat):ZI (XT k_9 back n):=λt16 t17 t18 b1 r h=>ie h (λc0 h=>be h λx2 cX h=>let zA:SE:=[aI c0,(0,bW.idx cX)];ie h (λc1 h=>bH h zA [dL c1]) λc1 h=>ie h (λc2 h=>bH h zA [dL c1,bt c2]) λc2 h=>ie h (λc3 h=>bH h zA [dL c1,bt c2,cq c3]) λc3 h=>cI (aS h) zA [dL c1,bt c2,cq c3]) λc0 h=>ra (akU h) [aI c0]
def L6 (k_9:JK):Nat->br->Int->Int->ag->Option Int
 |0=>λ_ _ _ _=>none
 |n+1=>XT k_9 (L6 k_9 n) n
def awZ {k_9} (akU:ZJ k_9):∀n:Nat,ZI (L6 k_9 n)
 |0=>λ_ _ _ _ _ h=>nz h
 |n+1=>aKZ akU (awZ akU n) n
def XS (vP:JK) (back:Vo) (n:Nat) (t49 t50:Int) (b1:ag):Option Int:=
 if decide (t50<t49) then
 (amI n b1 t50).bind λx6=>if !x6 then
 some 70
 else
 back t49 (bl (t50+1)) b1
 else
 vP b1
def ZH:=K1 (Ki [1,1,1,1,1]) OB
def ZG:=K3 (Ki (cF 175)) aDp
def aKY {vP} (I6:ZH vP) {back} (aS:ZG back) (n:Nat):ZG (XS vP back n):=λt49 t50 b1 r h=>ie h (λc0 h=>be h λx6 lC h=>let zA:SE:=[aI c0,mV (aKm n lC)];ie h (λc1 h=>bH h zA [aI c1]) λc1 h=>cI (aS h) zA [aI c1]) λc0 h=>ra (I6 h) [aI c0]
def L5 (vP:JK):Nat->Int->Int->ag->Option Int
 |0=>λ_ _ _=>none
 |n+1=>XS vP (L5 vP n) n
def awY {vP} (I6:ZH vP):∀n:Nat,ZG (L5 vP n)
 |0=>λ_ _ _ _ h=>nz h
 |n+1=>aKY I6 (awY I6 n) n
def XR (kQ:JK) (back:Vo) (n:Nat) (t60 t61:Int) (b1:ag):Option Int:=
 if decide (t61<t60) then
 (amH n b1 t61).bind λx6=>if !x6 then
 some 70
 else
 back t60 (bl (t61+1)) b1
 else
 kQ b1
def ZF:=K1 (Ki (cF 127)) OB
def ZE:=K3 (Ki (cF 351)) aDo
def aKX {kQ} (rJ:ZF kQ) {back} (aS:ZE back) (n:Nat):ZE (XR kQ back n):=λt60 t61 b1 r h=>ie h (λc0 h=>be h λx6 lC h=>let zA:SE:=[aI c0,mV (aKl n lC)];ie h (λc1 h=>bH h zA [aI c1]) λc1 h=>cI (aS h) zA [aI c1]) λc0 h=>ra (rJ h) [aI c0]
def L4 (kQ:JK):Nat->Int->Int->ag->Option Int
 |0=>λ_ _ _=>none
 |n+1=>XR kQ (L4 kQ n) n
def awX {kQ} (rJ:ZF kQ):∀n:Nat,ZE (L4 kQ n)
 |0=>λ_ _ _ _ h=>nz h
 |n+1=>aKX rJ (awX rJ n) n
def XQ (da:Vo) (back:Int->Int->Int->bN->Int->Int->ag->Option Int) (n:Nat) (i7 t71 t72:Int) (t80:bN) (t81 t82:Int) (b1:ag):Option Int:=
 if decide (t82<t81) then
 (idx t80 t82).bind λx2=>(F50 n b1 i7).bind λx9=>(adI n x9 [] x2).bind λgP=>if gP !=0 then
 some gP
 else
 back i7 t71 t72 t80 t81 (bl (t82+1)) b1
 else
 da t71 t72 b1
def ZD:=K3 (Ki (cF 15551)) aoc
def ZC:=K7 (Ki (cF 183487)) aDn
def aKW {da} (eW:ZD da) {back} (aS:ZC back) (n:Nat):ZC (XQ da back n):=λi7 t71 t72 t80 t81 t82 b1 r h=>ie h (λc0 h=>be h λx2 cX h=>be h λx9 iO h=>be h λgP jC h=>let zA:SE:=[aI c0,(0,eD.idx cX),(3,.ord [0,1,3,2,4,5]),(3,zM (cd (e:=3) (z:=true) (Q:=eo x9) (auJ n iO) (R3.len x9))),oZ (ayl n jC)];ie h (λc1 h=>bH h zA [ba c1]) λc1 h=>cI (aS h) zA [ba c1]) λc0 h=>ra (eW h) [aI c0]
def L3 (da:Vo):Nat->Int->Int->Int->bN->Int->Int->ag->Option Int
 |0=>λ_ _ _ _ _ _ _=>none
 |n+1=>XQ da (L3 da n) n
def awW {da} (eW:ZD da):∀n:Nat,ZC (L3 da n)
 |0=>λ_ _ _ _ _ _ _ _ h=>nz h
 |n+1=>aKW eW (awW eW n) n
def XP (dX:Vo) (n:Nat) (t71 t72:Int) (b1:ag):Option Int:=
 dX t71 (bl (t72+1)) b1
def OP:=K3 (Ki (cF 703)) aoc
def aKV {dX} (gf:OP dX) (n:Nat):ZD (XP dX n):=λt71 t72 b1 r h=>ra (gf h) []
def XO (jO:Option Int) (back:Vo) (n:Nat) (t71 t72:Int) (b1:ag):Option Int:=
 if decide (t72<t71) then
 (idx b1.ai t72).bind λx7=>L3 (XP back n) n t72 t71 t72 x7.ak (x7.ak.length:Int) 0 b1
 else
 jO
def ZB:=K0 (Ki (cF 255)) aDm
def aKU {jO} (qj:ZB jO) {back} (aS:OP back) (n:Nat):OP (XO jO back n):=λt71 t72 b1 r h=>ie h (λc0 h=>be h λx7 jv h=>ra (awW (aKV aS n) n h) [aI c0,(5,bW.idx jv)]) λc0 h=>ra (qj h) [aI c0]
def G8 (jO:Option Int):Nat->Int->Int->ag->Option Int
 |0=>λ_ _ _=>none
 |n+1=>XO jO (G8 jO n) n
def awV {jO} (qj:ZB jO):∀n:Nat,OP (G8 jO n)
 |0=>λ_ _ _ _ h=>nz h
 |n+1=>aKU qj (awV qj n) n
def Qx (n:Nat):Option Int:=
 some 0
def aKT (n:Nat):ZB (Qx n):=λr h=>rr h []
def XN (n:Nat) (b1:ag):Option Int:=
 G8 (Qx n) n (b1.ai.length:Int) 0 b1
def aKS (n:Nat):ZF (XN n):=λb1 r h=>ra (awV (aKT n) n h) []
def XM (n:Nat) (b1:ag):Option Int:=
 L4 (XN n) n (b1.ai.length:Int) 0 b1
def aKR (n:Nat):ZH (XM n):=λb1 r h=>ra (awX (aKS n) n h) []
def XL (n:Nat) (b1:ag):Option Int:=
 if decide (b1.aw<0) then
 some 70
 else
 if decide (1000<b1.aw) then
 some 70
 else
 L5 (XM n) n (b1.ai.length:Int) 0 b1
def aKQ (n:Nat):ZJ (XL n):=λb1 r h=>ie h (λc0 h=>rr h [ba c0]) λc0 h=>ie h (λc1 h=>rr h [ba c0,bj c1]) λc1 h=>ra (awY (aKR n) n h) [ba c0,bj c1]
def adP (n:Nat) (s0:ag):Option Int:=
 if decide (8<(s0.ai.length:Int)) then
 some 2
 else
 L6 (XL n) n s0.ai (s0.ai.length:Int) 0 s0
def aFh (n:Nat):K1 (Ki []) sy (adP n):=λs0 r h=>ie h (λc0 h=>rr h [cq c0]) λc0 h=>ra (awZ (aKQ n) n h) [cq c0]
def F94:=adP
def auG (n:Nat):K1 (Cx E0 94 ed bQ) sy (F94 n):=λ_ _ h=>ca (X:=x94) (aFh n h)
def x110:=fx E0 Tryz.f110 []
def A110:=Ax x110 ed bQ
def aAV (i0:Int) (t42:Bool):LS:=⟨[(0,cg i0),(42,.bool t42)],[]⟩
def agZ (i0 dq fF:Int):LS:=⟨[(0,cg i0),(1,cg dq),(2,cg fF)],[]⟩
def tL (n:Nat) (i0:Int) (t42:Bool):Option Int:=
 if t42 then
 some (bl (i0+1))
 else
 some i0
def wQ (n:Nat):K2 (A110 (cF 8185)) aAV (tL n):=λi0 t42 r h=>ie h (λc0 bI=>by subst c0;exact (rr bI [])) λc0 bI=>by subst c0;exact (rr bI [])
def aeZ (n:Nat) (i0 dq fF:Int):Option Int:=
 if decide (fF<0) then
 if decide (dq<i0) then
 some (bl (i0 - 1))
 else
 some i0
 else
 if i0==dq then
 some fF
 else
 if decide (dq<fF) then
 if decide (dq<i0) then
 if !decide (fF<i0) then
 some (bl (i0 - 1))
 else
 if decide (fF<dq) then
 if !decide (i0<fF) then
 tL n i0 (decide (i0<dq))
 else
 tL n i0 false
 else
 tL n i0 false
 else
 if decide (fF<dq) then
 if !decide (i0<fF) then
 tL n i0 (decide (i0<dq))
 else
 tL n i0 false
 else
 tL n i0 false
 else
 if decide (fF<dq) then
 if !decide (i0<fF) then
 tL n i0 (decide (i0<dq))
 else
 tL n i0 false
 else
 tL n i0 false
def aIo (n:Nat):K3 (A110 []) agZ (aeZ n):=λi0 dq fF r h=>ie h (λc0 h=>ie h (λc1 h=>rr h [ba c0,bj c1]) λc1 h=>rr h [ba c0,bj c1,bj c0]) λc0 h=>let zA:SE:=[ba c0,bt c0];ie h (λc1 h=>bH h zA [bj c1]) λc1 h=>let zB:SE:=dU zA [bj c1];ie h (λc2 h=>let zC:SE:=dU zB [bj c2];ie h (λc3 h=>let zD:SE:=dU zC [bj c3];ie h (λc4 h=>bH h zD [bt c4]) λc4 h=>ie h (λc5 h=>ie h (λc6 h=>cI (wQ n h) zD [bt c4,bt c5,bj c6]) λc6 h=>cI (wQ n h) zD [bt c4,bt c5,bj c6]) λc5 h=>cI (wQ n h) zD [bt c4,bt c5]) λc3 h=>ie h (λc4 h=>ie h (λc5 h=>cI (wQ n h) zC [bj c3,dL c4,bj c5]) λc5 h=>cI (wQ n h) zC [bj c3,dL c4,bj c5]) λc4 h=>cI (wQ n h) zC [bj c3,dL c4]) λc2 h=>ie h (λc3 h=>ie h (λc4 h=>cI (wQ n h) zB [bj c2,jS c3,bj c4]) λc4 h=>cI (wQ n h) zB [bj c2,jS c3,bj c4]) λc3 h=>cI (wQ n h) zB [bj c2,jS c3]
def Hl:=aeZ
def P0 (n:Nat):K3 (Cx E0 110 ed bQ) agZ (Hl n):=λ_ _ _ _ h=>ca (X:=x110) (aIo n h)
def x140:=fx E0 Tryz.f140 []
def A140:=Ax x140 du bQ
def aAB (b3:aF):LS:=⟨[(3,.loc 3 0)],[(3,ux (mr b3))]⟩
def KG (m0:aF):LS:=⟨[(0,.agg (mr m0))],[]⟩
def qa (n:Nat) (b3:aF):Option Bool:=
 if b3.aG==0 then
 if b3.aO==0 then
 if b3.eJ==0 then
 if decide (b3.av=ByteArray.empty) then
 if b3.ax==0 then
 if ((b3.aD.ax==0) && ((b3.aD.bX==0) && ((decide (b3.aD.bB=ByteArray.empty)) && true))) then
 if (b3.bc.length:Int)==0 then
 if decide (b3.ar.av=ByteArray.empty) then
 if (b3.ar.ae.length:Int)==0 then
 if b3.ar.ay==0 then
 if (b3.ar.af.length:Int)==0 then
 some ((b3.ar.ak.length:Int)==0)
 else
 some false
 else
 some false
 else
 some false
 else
 some false
 else
 some false
 else
 some false
 else
 some false
 else
 some false
 else
 some false
 else
 some false
 else
 some false
def y8 (n:Nat):K1 (A140 [1,1,1]) aAB (qa n):=λb3 r h=>ie h (λc0 h=>let zA:SE:=[dL c0];ie h (λc1 h=>let zB:SE:=dU zA [bj c1];ie h (λc2 h=>let zC:SE:=dU zB [bt c2];ie h (λc3 h=>let zD:SE:=dU zC [bt c3];ie h (λc4 h=>let zE:SE:=dU zD [bt c4];ie h (λc5 h=>let zF:SE:=dU zE [cq c5];ie h (λc6 h=>let zG:SE:=dU zF [cq c6];ie h (λc7 h=>let zH:SE:=dU zG [bt c7];ie h (λc8 h=>ie h (λc9 h=>ie h (λc10 h=>bH h zH [cq c8,bt c9,cq c10]) λc10 h=>bH h zH [cq c8,bt c9,cq c10]) λc9 h=>bH h zH [cq c8,bt c9]) λc8 h=>bH h zH [cq c8]) λc7 h=>bH h zG [bt c7]) λc6 h=>bH h zF [cq c6]) λc5 h=>bH h zE [cq c5]) λc4 h=>bH h zD [bt c4]) λc3 h=>bH h zC [bt c3]) λc2 h=>bH h zB [bt c2]) λc1 h=>bH h zA [bj c1]) λc0 h=>rr h [dL c0]
def RT (n:Nat) (m0:aF):Option Bool:=
 if m0.bh==1 then
 qa n (aF.mk m0.bh 0 m0.aO m0.eJ ByteArray.empty 0 (aR.mk 0 0 ByteArray.empty) m0.bc m0.ar)
 else
 if m0.bh==2 then
 qa n (aF.mk m0.bh 0 0 m0.eJ m0.av m0.ax (aR.mk 0 0 ByteArray.empty) m0.bc m0.ar)
 else
 if m0.bh==3 then
 qa n (aF.mk m0.bh 0 0 0 m0.av m0.ax m0.aD m0.bc m0.ar)
 else
 if m0.bh==4 then
 qa n (aF.mk m0.bh 0 0 m0.eJ ByteArray.empty m0.ax m0.aD m0.bc m0.ar)
 else
 if m0.bh==5 then
 qa n (aF.mk m0.bh 0 m0.aO m0.eJ ByteArray.empty m0.ax m0.aD m0.bc m0.ar)
 else
 if m0.bh==6 then
 qa n (aF.mk m0.bh m0.aG m0.aO m0.eJ m0.av m0.ax m0.aD m0.bc (aj.mk ByteArray.empty [] 0 [] []))
 else
 if m0.bh==7 then
 qa n (aF.mk m0.bh 0 m0.aO m0.eJ m0.av m0.ax m0.aD m0.bc m0.ar)
 else
 if m0.bh==8 then
 qa n (aF.mk m0.bh 0 0 m0.eJ m0.av m0.ax m0.aD [] m0.ar)
 else
 some false
def aHL (n:Nat):K1 (A140 []) KG (RT n):=λm0 r h=>ie h (λc0 h=>ra (y8 n h) [jS c0]) λc0 h=>ie h (λc1 h=>ra (y8 n h) [jS c0,bb c1]) λc1 h=>let zA:SE:=[jS c0,bb c1];ie h (λc2 h=>cI (y8 n h) zA [bb c2]) λc2 h=>let zB:SE:=dU zA [bb c2];ie h (λc3 h=>cI (y8 n h) zB [bb c3]) λc3 h=>let zC:SE:=dU zB [bb c3];ie h (λc4 h=>cI (y8 n h) zC [bb c4]) λc4 h=>let zD:SE:=dU zC [bb c4];ie h (λc5 h=>cI (y8 n h) zD [bb c5]) λc5 h=>ie h (λc6 h=>cI (y8 n h) zD [bb c5,bb c6]) λc6 h=>ie h (λc7 h=>cI (y8 n h) zD [bb c5,bb c6,bb c7]) λc7 h=>bH h zD [bb c5,bb c6,bb c7]
def VD:=RT
def ayk (n:Nat):K1 (Cx E0 140 du bQ) KG (VD n):=λ_ _ h=>ca (X:=x140) (aHL n h)
def O2 (r:aj):AV:=.agg (q28_ r r9 201003 201004)
def Lj (r:aj):List (Nat×Bx):= (q26_ r9 r 201003 201004)
def x141:=fx E0 Tryz.f141 []
def awa:=Ax x141 O2 Lj
def aAA (t12:cA) (t13 t14:Int) (b1 b2:aj) (b6:cO) (b3:cA):LS:=⟨[(1,.loc 1 0),(2,.loc 2 0),(3,.ms 500003 2 0 b3.length),(12,.slice 121 2 t12.length (aQ t12)),(13,.int .i64 t13),(14,.int .i64 t14)],[(1,.flat 44 [.str b1.av,.ms 6 2 0 b6.length,.int .i64 b1.ay,.slice 121 2 b1.af.length (aQ b1.af),.slice 107 13 b1.ak.length (aJ b1.ak)]),(2,.flat 44 [.str b2.av,.dD,Gc b2,.dD,.dD]),(6,.rows false 73 2 (bE b6)),(500003,.tree 121 2 zk (aQ b3) [])]⟩
def aAz (b1 b2:aj) (b6:cO) (b3:cA):LS:=⟨[(1,.loc 1 0),(2,.loc 2 0),(3,jK 500003 b3.length)],[(1,.flat 44 [.str b1.av,.ms 6 2 0 b6.length,.int .i64 b1.ay,.slice 121 2 b1.af.length (aQ b1.af),.slice 107 13 b1.ak.length (aJ b1.ak)]),(2,.flat 44 [.str b2.av,.dD,Gc b2,.dD,.dD]),(6,.rows false 73 2 (bE b6)),(500003,.tree 121 2 zk (aQ b3) [])]⟩
def KF (t0:aj):LS:=⟨[(0,.agg (iC t0))],[]⟩
def RS (aN:Wf13) (back:cA->Int->Int->aj->aj->cO->cA->Option aj) (n:Nat) (t12:cA) (t13 t14:Int) (b1 b2:aj) (b6:cO) (b3:cA):Option aj:=
 if decide (t14<t13) then
 (idx t12 t14).bind λx2=>(app [] x2.ae).bind λdA=>(app b3 [(bk.mk dA x2.aG)]).bind λiG=>(setAt iG b3.length (bk.mk dA x2.aG)).bind λz20=>back t12 t13 (bl (t14+1)) (aj.mk b1.av b6 b1.ay b1.af b1.ak) (aj.mk b2.av [] b2.ay [] []) b6 z20
 else
 aN (aj.mk b1.av b6 b1.ay b1.af b1.ak) (aj.mk b2.av [] b2.ay [] []) b6 b3
def ZA:=K4 (awa [1,1,1,1]) aAz
def Zz:=K7 (awa (cF 87)) aAA
def aHK {aN} (bn:ZA aN) {back} (aS:Zz back) (n:Nat):Zz (RS aN back n):=λt12 t13 t14 b1 b2 b6 b3 r h=>ie h (λc0 h=>be h λx2 cX h=>be h λdA gn h=>be h λiG kg h=>be h λz20 Gx h=>ra (aS h) [aI c0,(0,eN.idx cX),(7,R3.app gn),(4,eN.Ib kg),(1,.beq 500003 (bM (λq_=>Bx.tree 121 2 zk q_ [(b3.length*2+0,.ms 19 1 0 dA.length)]) (eN.apS (r:= (oE x2.aG)) kg))),(0,eN.gQ R3 (r:= (oE x2.aG)) 500003 19 0 false 3 1 dA Gx (by kernel_rfl)),(2,.seq 3 (bM (AV.ms 500003 2 0) (((eN.apL kg).trans (ew Gx)))))]) λc0 h=>ra (bn h) [aI c0]
def Fp (aN:Wf13):Nat->cA->Int->Int->aj->aj->cO->cA->Option aj
 |0=>λ_ _ _ _ _ _ _=>none
 |n+1=>RS aN (Fp aN n) n
def aqu {aN} (bn:ZA aN):∀n:Nat,Zz (Fp aN n)
 |0=>λ_ _ _ _ _ _ _ _ h=>nz h
 |n+1=>aHK bn (aqu bn n) n
def RR (n:Nat) (b1 b2:aj) (b6:cO) (b3:cA):Option aj:=
 (app [] b1.ak).bind λx7=>some (aj.mk b1.av b6 b1.ay b3 x7)
def aHJ (n:Nat):ZA (RR n):=λb1 b2 b6 b3 r h=>be h λx7 jv h=>rr h [(6,eD.app jv),(4,.jl 6 r9),(0,.jl 500003 201003),(0,.jl 31 201004)]
def aeR (n:Nat) (t0:aj):Option aj:=
 (app [] t0.ae).bind λx6=>Fp (RR n) n t0.af (t0.af.length:Int) 0 (aj.mk t0.av x6 t0.ay t0.af t0.ak) (aj.mk ByteArray.empty [] 0 [] []) x6 []
def aHI (n:Nat):K1 (awa []) KF (aeR n):=λt0 r h=>be h λx6 lC h=>ra (aqu (aHJ n) n h) [(5,eL.app lC),(7,.born [3] [] 500003 true 121 2)]
def adH:=aeR
def ayj (n:Nat):K1 (Cx E0 141 O2 Lj) KF (adH n):=λ_ _ h=>ca (X:=x141) (aHI n h)
def Ea (r:aK):AV:=.slice 3 1 r.length (eo r)
def x216:=fx E0 Tryz.f216 []
def anK:=Ax x216 Ea bQ
def SP (l0:aK) (n1 i5:Int):LS:=⟨[(0,.slice 3 1 l0.length (eo l0)),(1,.int .i64 n1),(5,.int .i64 i5)],[]⟩
def agr (l0:aK) (n1:Int):LS:=⟨[(0,.slice 3 1 l0.length (eo l0)),(1,.int .i64 n1)],[]⟩
def JZ (bw:avz) (back:avz) (n:Nat) (l0:aK) (n1 i5:Int):Option aK:=
 if decide (i5<(l0.length:Int)) then
 (idx l0 i5).bind λx8=>if decide (x8<n1) then
 back l0 n1 (bl (i5+1))
 else
 bw l0 n1 i5
 else
 bw l0 n1 i5
def Zy:=K3 (anK [1,1,1]) SP
def Zx:=K3 (anK [0,0,1,1]) SP
def aFx {bw} (cM:Zy bw) {back} (aS:Zx back) (n:Nat):Zx (JZ bw back n):=λl0 n1 i5 r h=>ie h (λc0 h=>be h λx8 oH h=>ie h (λc1 h=>ra (aS h) [bj c0,(3,R3.idx oH),ba c1]) λc1 h=>ra (cM h) [bj c0,(3,R3.idx oH),ba c1]) λc0 h=>ra (cM h) [bj c0]
def BR (bw:avz):Nat->aK->Int->Int->Option aK
 |0=>λ_ _ _=>none
 |n+1=>JZ bw (BR bw n) n
def apK {bw} (cM:Zy bw):∀n:Nat,Zx (BR bw n)
 |0=>λ_ _ _ _ h=>nz h
 |n+1=>aFx cM (apK cM n) n
def JY (n:Nat) (l0:aK) (n1 i5:Int):Option aK:=
 (cut l0 none (some i5)).bind λx3=>(app [] x3).bind λx5=>(app x5 [n1]).bind λx9=>(cut l0 (some i5) none).bind λeh=>(app x9 eh).bind λfh=>some fh
def arz (n:Nat):K3 (anK [1,1,1,1]) SP (JY n):=λl0 n1 i5 r h=>be h λx3 eY h=>be h λx5 kR h=>be h λx9 iO h=>be h λeh iz h=>be h λfh mK h=>rr h [(0,.born [] [] 36 true 3 1),(2,R3.cut eY),(0,R3.app (xs:= []) kR),(2,R3.kE iO),(2,R3.cut iz),(0,R3.app mK),(1,R3.fX 36 fh),(0,.zJ 4 (.sl 0 0 0 0 []))]
def QQ (n:Nat) (l0:aK) (n1 i5:Int):Option aK:=
 if decide (i5<(l0.length:Int)) then
 (idx l0 i5).bind λx8=>if x8==n1 then
 some l0
 else
 JY n l0 n1 i5
 else
 JY n l0 n1 i5
def aFw (n:Nat):Zy (QQ n):=λl0 n1 i5 r h=>ie h (λc0 h=>be h λx8 oH h=>ie h (λc1 h=>rr h [bj c0,(3,R3.idx oH),ba c1]) λc1 h=>ra (arz n h) [bj c0,(3,R3.idx oH),ba c1]) λc0 h=>ra (arz n h) [bj c0]
def adW (n:Nat) (l0:aK) (n1:Int):Option aK:=
 BR (QQ n) n l0 n1 0
def aFv (n:Nat):K2 (anK []) agr (adW n):=λl0 n1 r h=>ra (apK (aFw n) n h) []
def amv:=adW
def aJL (n:Nat):K2 (Cx E0 216 Ea bQ) agr (amv n):=λ_ _ _ h=>ca (X:=x216) (aFv n h)
def x195:=fx E0 Tryz.f195 []
def afk:=Ax x195 Ea bQ
def C195:=Cx E0 195 Ea bQ
def azr (l1:aK) (t17:Int) (b2:ah) (qp:te):LS:=⟨[(1,.slice 3 1 l1.length (eo l1)),(2,.loc 2 0),(15,.ms 15 5 0 qp.length),(16,.int .i64 2),(17,.int .i64 t17)],[(2,qP (fk b2)),(15,.rows false 105 5 (Lf qp))]⟩
def azq (l1:aK) (t36 t37:Int) (b2:ah):LS:=⟨[(1,.slice 3 1 l1.length (eo l1)),(2,.loc 2 0),(36,.int .i64 t36),(37,.int .i64 t37)],[(2,qP (fk b2))]⟩
def azp (l1:aK):LS:=⟨[(1,.slice 3 1 l1.length (eo l1))],[]⟩
def azo (l1:aK) (b2:ah):LS:=⟨[(1,.slice 3 1 l1.length (eo l1)),(2,.loc 2 0)],[(2,qP (fk b2))]⟩
def agv (p0:ah) (l1:aK):LS:=⟨[(0,.agg (fk p0)),(1,.slice 3 1 l1.length (eo l1))],[]⟩
def FK (gX:ah->aK->Option aK) (bD:amn) (back:aK->Int->ah->te->Option aK) (n:Nat) (l1:aK) (t17:Int) (b2:ah) (qp:te):Option aK:=
 if decide (t17<2) then
 (eZ qp.length t17).bind λx2=>(qp[0+x2]?).bind λx4=>if x4.ax==1 then
 if !decide (x4.cQ<0) then
 (amv n l1 x4.cQ).bind λjj=>back jj (bl (t17+1)) b2 qp
 else
 back l1 (bl (t17+1)) b2 qp
 else
 back l1 (bl (t17+1)) b2 qp
 else
 bD l1 b2
def yE:=K2 C195 agv
def Zw:=K2 (afk [1,1]) azo
def Zv:=K4 (afk (cF 85)) azr
def aFH {gX} (nZ:yE gX) {bD} (cU:Zw bD) {back} (aS:Zv back) (n:Nat):Zv (FK gX bD back n):=λl1 t17 b2 qp r h=>ie h (λc0 h=>be h λx2 cX h=>be h λx4 jm h=>let zA:SE:=[aI c0,(0,dO cX),(0,amq.row jm)];ie h (λc1 h=>ie h (λc2 h=>be h λjj nL h=>cI (aS h) zA [bt c1,bj c2,mV (aJL n nL)]) λc2 h=>cI (aS h) zA [bt c1,bj c2]) λc1 h=>cI (aS h) zA [bt c1]) λc0 h=>ra (cU h) [aI c0]
def uT (gX:ah->aK->Option aK) (bD:amn):Nat->aK->Int->ah->te->Option aK
 |0=>λ_ _ _ _=>none
 |n+1=>FK gX bD (uT gX bD n) n
def apN {gX} (nZ:yE gX) {bD} (cU:Zw bD):∀n:Nat,Zv (uT gX bD n)
 |0=>λ_ _ _ _ _ h=>nz h
 |n+1=>aFH nZ cU (apN nZ cU n) n
def QV (gX:ah->aK->Option aK) (bw:Wf0) (back:aK->Int->Int->ah->Option aK) (n:Nat) (l1:aK) (t36 t37:Int) (b2:ah):Option aK:=
 if decide (t37<t36) then
 (idx b2.fArgs t37).bind λx7=>(gX x7 l1).bind λdA=>back dA t36 (bl (t37+1)) b2
 else
 bw l1
def Zu:=K1 (afk [1,1,1]) azp
def Zt:=K4 (afk [0,1,0,1,1]) azq
def aFG {gX} (nZ:yE gX) {bw} (cM:Zu bw) {back} (aS:Zt back) (n:Nat):Zt (QV gX bw back n):=λl1 t36 t37 b2 r h=>ie h (λc0 h=>be h λx7 jv h=>be h λdA gn h=>ra (aS h) [aI c0,(5,eD.idx jv),iS (nZ gn)]) λc0 h=>ra (cM h) [aI c0]
def E3 (gX:ah->aK->Option aK) (bw:Wf0):Nat->aK->Int->Int->ah->Option aK
 |0=>λ_ _ _ _=>none
 |n+1=>QV gX bw (E3 gX bw n) n
def apM {gX} (nZ:yE gX) {bw} (cM:Zu bw):∀n:Nat,Zt (E3 gX bw n)
 |0=>λ_ _ _ _ _ h=>nz h
 |n+1=>aFG nZ cM (apM nZ cM n) n
def QU (gX:ah->aK->Option aK) (n:Nat) (l1:aK):Option aK:=
 some l1
def aFF {gX} (nZ:yE gX) (n:Nat):Zu (QU gX n):=λl1 r h=>rr h []
def FJ (gX:ah->aK->Option aK) (n:Nat) (l1:aK) (b2:ah):Option aK:=
 E3 gX (QU gX n) n l1 (b2.fArgs.length:Int) 0 b2
def arA {gX} (nZ:yE gX) (n:Nat):Zw (FJ gX n):=λl1 b2 r h=>ra (apM nZ (aFF nZ n) n h) []
def aea (gX:ah->aK->Option aK) (n:Nat) (p0:ah) (l1:aK):Option aK:=
 if p0.bh==3 then
 uT gX (FJ gX n) n l1 0 p0 [p0.cm,p0.bL]
 else
 FJ gX n l1 p0
def aFE {gX} (nZ:yE gX) (n:Nat):K2 (afk []) agv (aea gX n):=λp0 l1 r h=>ie h (λc0 h=>ra (apN nZ (arA nZ n) n h) [bt c0]) λc0 h=>ra (arA nZ n h) [bt c0]
def DE:Nat->ah->aK->Option aK
 |0,_,_=>none
 |n+1,p0,l1=>aea (DE n) n p0 l1
def axN:∀n:Nat,yE (DE n)
 |0=>λ_ _ _ h=>nz h
 |n+1=>λ_ _ _ h=>ca (X:=x195) (aFE (axN n) n h)
def x176:=fx E0 Tryz.f176 []
def A176:=Ax x176 Ea bQ
def aem (n:Nat) (p0:ah):Option aK:=
 (DE n p0 []).bind λx4=>some x4
def aGi (n:Nat):K1 (A176 []) Az (aem n):=λp0 r h=>be h λx4 jm h=>rr h [kG (axN n jm)]
def amA:=aem
def aJV (n:Nat):K1 (Cx E0 176 Ea bQ) Az (amA n):=λ_ _ h=>ca (X:=x176) (aGi n h)
def x143:=fx E0 Tryz.f143 []
def Hx:=Ax x143 du bQ
def aAy (eB:Int) (t14:cA) (t15 t16:Int) (t21:aK) (t22 t23:Int) (b2:aj):LS:=⟨[(1,.int .i64 eB),(2,.loc 2 0),(14,.slice 121 2 t14.length (aQ t14)),(15,.int .i64 t15),(16,.int .i64 t16),(21,.slice 3 1 t21.length (eo t21)),(22,.int .i64 t22),(23,.int .i64 t23)],[(2,qO (iC b2))]⟩
def agV (eB:Int) (t14:cA) (t15 t16:Int) (b2:aj):LS:=⟨[(1,.int .i64 eB),(2,.loc 2 0),(14,.slice 121 2 t14.length (aQ t14)),(15,.int .i64 t15),(16,.int .i64 t16)],[(2,qO (iC b2))]⟩
def aAx (eB:Int) (t33:bN) (t34 t35:Int) (t40:aK) (t41 t42:Int):LS:=⟨[(1,.int .i64 eB),(33,.slice 107 13 t33.length (aJ t33)),(34,.int .i64 t34),(35,.int .i64 t35),(40,.slice 3 1 t40.length (eo t40)),(41,.int .i64 t41),(42,.int .i64 t42)],[]⟩
def agU (eB:Int) (t33:bN) (t34 t35:Int):LS:=⟨[(1,.int .i64 eB),(33,.slice 107 13 t33.length (aJ t33)),(34,.int .i64 t34),(35,.int .i64 t35)],[]⟩
def aAw:LS:=⟨[],[]⟩
def aAv (eB:Int) (b2:aj):LS:=⟨[(1,cg eB),(2,.loc 2 0)],[(2,qO (iC b2))]⟩
def agT (t0:aj) (eB:Int):LS:=⟨[(0,.agg (iC t0)),(1,cg eB)],[]⟩
def RQ (aN:amm) (back:Int->cA->Int->Int->aK->Int->Int->aj->Option Bool) (n:Nat) (eB:Int) (t14:cA) (t15 t16:Int) (t21:aK) (t22 t23:Int) (b2:aj):Option Bool:=
 if decide (t23<t22) then
 (idx t21 t23).bind λx2=>if x2==eB then
 some true
 else
 back eB t14 t15 t16 t21 t22 (bl (t23+1)) b2
 else
 aN eB t14 t15 t16 b2
def Zs:=K5 (Hx (cF 485)) agV
def Zr:=K8 (Hx (cF 5733)) aAy
def aHG {aN} (bn:Zs aN) {back} (aS:Zr back) (n:Nat):Zr (RQ aN back n):=λeB t14 t15 t16 t21 t22 t23 b2 r h=>ie h (λc0 h=>be h λx2 cX h=>ie h (λc1 h=>rr h [aI c0,(0,R3.idx cX),bt c1]) λc1 h=>ra (aS h) [aI c0,(0,R3.idx cX),bt c1]) λc0 h=>ra (bn h) [aI c0]
def Fo (aN:amm):Nat->Int->cA->Int->Int->aK->Int->Int->aj->Option Bool
 |0=>λ_ _ _ _ _ _ _ _=>none
 |n+1=>RQ aN (Fo aN n) n
def aqt {aN} (bn:Zs aN):∀n:Nat,Zr (Fo aN n)
 |0=>λ_ _ _ _ _ _ _ _ _ h=>nz h
 |n+1=>aHG bn (aqt bn n) n
def RP (bw:amm) (n:Nat) (eB:Int) (t14:cA) (t15 t16:Int) (b2:aj):Option Bool:=
 bw eB t14 t15 (bl (t16+1)) b2
def OO:=K5 (Hx [0,1,0,1]) agV
def aHF {bw} (cM:OO bw) (n:Nat):Zs (RP bw n):=λeB t14 t15 t16 b2 r h=>ra (cM h) []
def RO (kQ:Int->aj->Option Bool) (back:amm) (n:Nat) (eB:Int) (t14:cA) (t15 t16:Int) (b2:aj):Option Bool:=
 if decide (t16<t15) then
 (idx t14 t16).bind λx2=>Fo (RP back n) n eB t14 t15 t16 x2.ae (x2.ae.length:Int) 0 b2
 else
 kQ eB b2
def Zq:=K2 (Hx [1,1]) aAv
def aHE {kQ} (rJ:Zq kQ) {back} (aS:OO back) (n:Nat):OO (RO kQ back n):=λeB t14 t15 t16 b2 r h=>ie h (λc0 h=>be h λx2 cX h=>ra (aqt (aHF aS n) n h) [aI c0,(0,eN.idx cX)]) λc0 h=>ra (rJ h) [aI c0]
def B0 (kQ:Int->aj->Option Bool):Nat->Int->cA->Int->Int->aj->Option Bool
 |0=>λ_ _ _ _ _=>none
 |n+1=>RO kQ (B0 kQ n) n
def aqs {kQ} (rJ:Zq kQ):∀n:Nat,OO (B0 kQ n)
 |0=>λ_ _ _ _ _ _ h=>nz h
 |n+1=>aHE rJ (aqs rJ n) n
def RN (da:aml) (back:Int->bN->Int->Int->aK->Int->Int->Option Bool) (n:Nat) (eB:Int) (t33:bN) (t34 t35:Int) (t40:aK) (t41 t42:Int):Option Bool:=
 if decide (t42<t41) then
 (idx t40 t42).bind λx2=>if x2==eB then
 some true
 else
 back eB t33 t34 t35 t40 t41 (bl (t42+1))
 else
 da eB t33 t34 t35
def Zp:=K4 (Hx (cF 971)) agU
def Zo:=K7 (Hx (cF 11467)) aAx
def aHD {da} (eW:Zp da) {back} (aS:Zo back) (n:Nat):Zo (RN da back n):=λeB t33 t34 t35 t40 t41 t42 r h=>ie h (λc0 h=>be h λx2 cX h=>ie h (λc1 h=>rr h [aI c0,(0,R3.idx cX),bt c1]) λc1 h=>ra (aS h) [aI c0,(0,R3.idx cX),bt c1]) λc0 h=>ra (eW h) [aI c0]
def Fm (da:aml):Nat->Int->bN->Int->Int->aK->Int->Int->Option Bool
 |0=>λ_ _ _ _ _ _ _=>none
 |n+1=>RN da (Fm da n) n
def aqr {da} (eW:Zp da):∀n:Nat,Zo (Fm da n)
 |0=>λ_ _ _ _ _ _ _ _ h=>nz h
 |n+1=>aHD eW (aqr eW n) n
def RM (dX:aml) (n:Nat) (eB:Int) (t33:bN) (t34 t35:Int):Option Bool:=
 dX eB t33 t34 (bl (t35+1))
def ON:=K4 (Hx [0,1,0,1,1]) agU
def aHC {dX} (gf:ON dX) (n:Nat):Zp (RM dX n):=λeB t33 t34 t35 r h=>ra (gf h) []
def RL (jO:Option Bool) (back:aml) (n:Nat) (eB:Int) (t33:bN) (t34 t35:Int):Option Bool:=
 if decide (t35<t34) then
 (idx t33 t35).bind λx2=>(amA n x2).bind λx8=>Fm (RM back n) n eB t33 t34 t35 x8 (x8.length:Int) 0
 else
 jO
def Zn:=K0 (Hx [1,1,1]) aAw
def aHB {jO} (qj:Zn jO) {back} (aS:ON back) (n:Nat):ON (RL jO back n):=λeB t33 t34 t35 r h=>ie h (λc0 h=>be h λx2 cX h=>be h λx8 oH h=>ra (aqr (aHC aS n) n h) [aI c0,(0,eD.idx cX),mV (aJV n oH)]) λc0 h=>ra (qj h) [aI c0]
def BZ (jO:Option Bool):Nat->Int->bN->Int->Int->Option Bool
 |0=>λ_ _ _ _=>none
 |n+1=>RL jO (BZ jO n) n
def aqq {jO} (qj:Zn jO):∀n:Nat,ON (BZ jO n)
 |0=>λ_ _ _ _ _ h=>nz h
 |n+1=>aHB qj (aqq qj n) n
def RK (n:Nat):Option Bool:=
 some false
def aHA (n:Nat):Zn (RK n):=λr h=>rr h []
def RJ (n:Nat) (eB:Int) (b2:aj):Option Bool:=
 BZ (RK n) n eB b2.ak (b2.ak.length:Int) 0
def aHz (n:Nat):Zq (RJ n):=λeB b2 r h=>ra (aqq (aHA n) n h) []
def aeP (n:Nat) (t0:aj) (eB:Int):Option Bool:=
 B0 (RJ n) n eB t0.af (t0.af.length:Int) 0 t0
def aHy (n:Nat):K2 (Hx []) agT (aeP n):=λt0 eB r h=>ra (aqs (aHz n) n h) []
def adG:=aeP
def ayi (n:Nat):K2 (Cx E0 143 du bQ) agT (adG n):=λ_ _ _ h=>ca (X:=x143) (aHy n h)
def Eb (r:ah):AV:=.agg (fk r)
def x177:=fx E0 Tryz.f177 []
def afm:=Ax x177 Eb bQ
def C177:=Cx E0 177 Eb bQ
def agC (dq fF:Int) (b3 b6:ah):LS:=⟨[(1,cg dq),(2,cg fF),(3,.loc 3 0),(6,.loc 6 0)],[(3,qP (fk b3)),(6,.flat 107 q6_)]⟩
def azG (dq fF:Int) (t38:bN) (t39 t40:Int) (b3 b6:ah) (EW:bN):LS:=⟨[(1,.int .i64 dq),(2,.int .i64 fF),(3,.loc 3 0),(6,.loc 6 0),(7,.ms 50 13 0 EW.length),(38,.slice 107 13 t38.length (aJ t38)),(39,.int .i64 t39),(40,.int .i64 t40)],[(3,qP (fk b3)),(6,.flat 107 (q2_ b6)),(50,UO EW)]⟩
def azF (b3 b6:ah) (EW:bN):LS:=⟨[(3,.loc 3 0),(6,.loc 6 0),(7,.ms 50 13 0 EW.length)],[(3,qP (fk b3)),(6,.flat 107 (q2_ b6)),(50,UO EW)]⟩
def agB (p0:ah) (dq fF:Int):LS:=⟨[(0,.agg (fk p0)),(1,cg dq),(2,cg fF)],[]⟩
def J2 (iQ:ah->Int->Int->Option ah) (bD:Int->Int->ah->ah->Option ah) (n:Nat) (dq fF:Int) (b3 b6:ah):Option ah:=
 if b3.bL.ax==1 then
 (Hl n b3.bL.cQ dq fF).bind λdB=>bD dq fF (ah.mk b3.bh b3.eM b3.cm (aT.mk b3.bL.ax dB b3.bL.aD) b3.fArgs) (ah.mk 0 0 (aT.mk 0 0 (aR.mk 0 0 ByteArray.empty)) (aT.mk 0 0 (aR.mk 0 0 ByteArray.empty)) [])
 else
 bD dq fF b3 (ah.mk 0 0 (aT.mk 0 0 (aR.mk 0 0 ByteArray.empty)) (aT.mk 0 0 (aR.mk 0 0 ByteArray.empty)) [])
def AZ:=K3 C177 agB
def aoH:=K4 (afm [1,1]) agC
def arC {iQ} (oI:AZ iQ) {bD} (cU:aoH bD) (n:Nat):K4 (afm [1,0,1,0,1]) agC (J2 iQ bD n):=λdq fF b3 b6 r h=>ie h (λc0 h=>be h λdB kS h=>ra (cU h) [bj c0,oY (P0 n kS)]) λc0 h=>ra (cU h) [bj c0]
def Q8 (iQ:ah->Int->Int->Option ah) (bw:amk) (back:Int->Int->bN->Int->Int->ah->ah->bN->Option ah) (n:Nat) (dq fF:Int) (t38:bN) (t39 t40:Int) (b3 b6:ah) (EW:bN):Option ah:=
 if decide (t40<t39) then
 (idx t38 t40).bind λx2=>(iQ x2 dq fF).bind λdA=>(app EW [dA]).bind λig=>back dq fF t38 t39 (bl (t40+1)) b3 (ah.mk b6.bh b6.eM b6.cm b6.bL []) ig
 else
 bw b3 (ah.mk b6.bh b6.eM b6.cm b6.bL []) EW
def Zm:=K3 (afm [1,1,1,1]) azF
def Zl:=K8 (afm (cF 87)) azG
def aGh {iQ} (oI:AZ iQ) {bw} (cM:Zm bw) {back} (aS:Zl back) (n:Nat):Zl (Q8 iQ bw back n):=λdq fF t38 t39 t40 b3 b6 EW r h=>ie h (λc0 h=>be h λx2 cX h=>be h λdA gn h=>be h λig j2 h=>ra (aS h) [aI c0,(0,eD.idx cX),yo (oI gn),(0,.laid (bM (Bx.rows false 107 13) (eD.map [dA]).symm)),(0,eD.kE j2)]) λc0 h=>ra (cM h) [aI c0]
def E8 (iQ:ah->Int->Int->Option ah) (bw:amk):Nat->Int->Int->bN->Int->Int->ah->ah->bN->Option ah
 |0=>λ_ _ _ _ _ _ _ _=>none
 |n+1=>Q8 iQ bw (E8 iQ bw n) n
def apV {iQ} (oI:AZ iQ) {bw} (cM:Zm bw):∀n:Nat,Zl (E8 iQ bw n)
 |0=>λ_ _ _ _ _ _ _ _ _ h=>nz h
 |n+1=>aGh oI cM (apV oI cM n) n
def ael (iQ:ah->Int->Int->Option ah) (n:Nat) (b3 b6:ah) (EW:bN):Option ah:=
 some (ah.mk b3.bh b3.eM b3.cm b3.bL EW)
def aGg {iQ} (oI:AZ iQ) (n:Nat):Zm (ael iQ n):=λb3 b6 EW r h=>rr h [(5,eD.fX 50 EW),(0,.pZ 6 (.flat 0 [.bool true,.bool true,.bool true,.bool true,.bool true,.bool true,.bool true,.bool true,.bool true,.bool true,.bool true,.bool true,.sl 0 0 0 0 []]))]
def Ca (iQ:ah->Int->Int->Option ah) (n:Nat) (dq fF:Int) (b3 b6:ah):Option ah:=
 E8 iQ (ael iQ n) n dq fF b3.fArgs (b3.fArgs.length:Int) 0 b3 (ah.mk 0 0 (aT.mk 0 0 (aR.mk 0 0 ByteArray.empty)) (aT.mk 0 0 (aR.mk 0 0 ByteArray.empty)) []) []
def ack {iQ} (oI:AZ iQ) (n:Nat):aoH (Ca iQ n):=λdq fF b3 b6 r h=>ra (apV oI (aGg oI n) n h) [(5,.born [7] [] 50 true 107 13)]
def aek (iQ:ah->Int->Int->Option ah) (n:Nat) (p0:ah) (dq fF:Int):Option ah:=
 if p0.bh==3 then
 if p0.cm.ax==1 then
 (Hl n p0.cm.cQ dq fF).bind λfh=>J2 iQ (Ca iQ n) n dq fF (ah.mk p0.bh p0.eM (aT.mk p0.cm.ax fh p0.cm.aD) p0.bL p0.fArgs) (ah.mk 0 0 (aT.mk 0 0 (aR.mk 0 0 ByteArray.empty)) (aT.mk 0 0 (aR.mk 0 0 ByteArray.empty)) [])
 else
 J2 iQ (Ca iQ n) n dq fF p0 (ah.mk 0 0 (aT.mk 0 0 (aR.mk 0 0 ByteArray.empty)) (aT.mk 0 0 (aR.mk 0 0 ByteArray.empty)) [])
 else
 Ca iQ n dq fF p0 (ah.mk 0 0 (aT.mk 0 0 (aR.mk 0 0 ByteArray.empty)) (aT.mk 0 0 (aR.mk 0 0 ByteArray.empty)) [])
def aGf {iQ} (oI:AZ iQ) (n:Nat):K3 (afm []) agB (aek iQ n):=λp0 dq fF r h=>ie h (λc0 h=>ie h (λc1 h=>be h λfh mK h=>ra (arC oI (ack oI n) n h) [bt c0,bj c1,oY (P0 n mK)]) λc1 h=>ra (arC oI (ack oI n) n h) [bt c0,bj c1]) λc0 h=>ra (ack oI n h) [bt c0]
def DF:Nat->ah->Int->Int->Option ah
 |0,_,_,_=>none
 |n+1,p0,dq,fF=>aek (DF n) n p0 dq fF
def axV:∀n:Nat,AZ (DF n)
 |0=>λ_ _ _ _ h=>nz h
 |n+1=>λ_ _ _ _ h=>ca (X:=x177) (aGf (axV n) n h)
def aoV (r:(aj×cO×cA×bN)):AV:=.agg [.str r.1.av,jK rF r.2.1.length,Gc r.1,jK mU r.2.2.1.length,.ms rE 13 0 r.2.2.2.length]
def ahw (r:(aj×cO×cA×bN)):List (Nat×Bx):= [(rF,Nh r.2.1),(mU,Ni r.2.2.1),(rE,akd r.2.2.2)]
def x144:=fx E0 Tryz.f144 [rF,mU,rE]
def Ob:=Ax x144 aoV ahw
def aAu (dq fF t13 t14 t20 t21:Int) (dQ:cO) (dF:bN) (b3 b6:aj) (b8:bk) (u9:aK) (dG:cA) (tH:bk) (rp:Nat):LS:=⟨[(1,cg dq),(2,cg fF),(3,.loc 3 0),(6,.loc 6 0),(8,.loc 8 0),(12,.ms mU 2 0 dG.length),(13,cg t13),(14,cg t14),(20,cg t20),(21,cg t21)],[(3,q9_ b3 rF dQ.length mU dG.length rE dF.length),(6,aao b6),(8,.flat 121 [qb Bj u9.length,cg b8.aG]),(rF,Nh dQ),(mU,.tree 121 2 zk (((aQ dG)).set rp (oE tH.aG)) [(rp*2+0,qb Bj u9.length)]),(rE,akd dF),(Bj,xM u9)]⟩
def agS (dq fF t13 t14:Int) (dQ:cO) (dF:bN) (b3 b6:aj) (dG:cA):LS:=⟨[(1,cg dq),(2,cg fF),(3,.loc 3 0),(6,.loc 6 0),(12,.ms mU 2 0 dG.length),(13,cg t13),(14,cg t14)],(q8_ b3 rF dQ.length mU dG.length rE dF.length b6 dQ dG dF)⟩
def aAt (dq fF t40 t41:Int) (dQ:cO) (dF:bN) (b3 b6:aj) (dG:cA):LS:=⟨[(1,cg dq),(2,cg fF),(3,.loc 3 0),(6,.loc 6 0),(40,cg t40),(41,cg t41)],(q8_ b3 rF dQ.length mU dG.length rE dF.length b6 dQ dG dF)⟩
def aAs (dQ:cO) (dF:bN) (b3 b6:aj) (dG:cA):LS:=⟨[(3,.loc 3 0),(6,.loc 6 0)],(q8_ b3 rF dQ.length mU dG.length rE dF.length b6 dQ dG dF)⟩
def aAr (dq fF:Int) (dQ:cO) (dF:bN) (b3 b6:aj) (dG:cA):LS:=⟨[(1,cg dq),(2,cg fF),(3,.loc 3 0),(6,.loc 6 0)],(q8_ b3 rF dQ.length mU dG.length rE dF.length b6 dQ dG dF)⟩
def agR (t0:aj) (dq fF:Int):LS:=⟨[(0,.agg (q28_ t0 rF mU rE)),(1,cg dq),(2,cg fF)],(q26_ rF t0 mU rE)⟩
def RI (aN:acz) (back:Int->Int->Int->Int->Int->Int->cO->bN->aj->aj->bk->aK->cA->bk->Nat->Option (aj×cO×cA×bN)) (n:Nat) (dq fF t13 t14 t20 t21:Int) (dQ:cO) (dF:bN) (b3 b6:aj) (b8:bk) (u9:aK) (dG:cA) (tH:bk) (rp:Nat):Option (aj×cO×cA×bN):=
 if decide (t21<t20) then
 (eZ u9.length t21).bind λdB=>(u9[0+dB]?).bind λgP=>(Hl n gP dq fF).bind λfg=>(eZ u9.length t21).bind λlh=>(u9[0+lh]?).bind λkL=>(setAt u9 (0+lh) fg).bind λz21=>back dq fF t13 t14 t20 (bl (t21+1)) dQ dF (aj.mk b3.av dQ b3.ay dG dF) (aj.mk b6.av [] b6.ay [] []) (bk.mk z21 b8.aG) z21 dG (bk.mk [] tH.aG) rp
 else
 (setAt dG rp (bk.mk u9 tH.aG)).bind λz2=>aN dq fF t13 t14 dQ dF (aj.mk b3.av dQ b3.ay z2 dF) (aj.mk b6.av [] b6.ay [] []) z2
def Zk:=K9 (Ob (cF 485)) agS
def Zj:=K15 (Ob (cF 5733)) aAu
def aHx {aN} (bn:Zk aN) {back} (aS:Zj back) (n:Nat):Zj (RI aN back n):=λdq fF t13 t14 t20 t21 dQ dF b3 b6 b8 u9 dG tH rp r h=>ie h (λc0 h=>be h λdB kS h=>be h λgP jC h=>be h λfg iM h=>be h λlh pd h=>be h λkL kC h=>be h λz21 wx h=>ra (aS h) [aI c0,(8,dO kS),(0,R3.row jC),iS (P0 n iM),(0,dO pd),(0,R3.uE 0 [cg fg] kC wx (by kernel_rfl)),(2,.beq 8 (bM (λn_=>(Bx.flat 121 [qb Bj n_,cg b8.aG])) (ew wx))),(0,.beq mU (bM (λn_=>(Bx.tree 121 2 zk (((aQ dG)).set rp (oE tH.aG)) [(rp*2+0,qb Bj n_)])) (ew wx)))]) λc0 h=>be h λz2 mi h=>ra (bn h) [aI c0,(0,eN.gQ R3 (r:= (oE tH.aG)) mU Bj 0 false 3 1 u9 mi (by kernel_rfl)),(0,.seq 12 (bM (AV.ms mU 2 0) (ew mi))),(0,.beq 3 (bM (λn_=>((q9_ b3 rF dQ.length mU n_ rE dF.length))) (ew mi)))]
def Fl (aN:acz):Nat->Int->Int->Int->Int->Int->Int->cO->bN->aj->aj->bk->aK->cA->bk->Nat->Option (aj×cO×cA×bN)
 |0=>λ_ _ _ _ _ _ _ _ _ _ _ _ _ _ _=>none
 |n+1=>RI aN (Fl aN n) n
def aqp {aN} (bn:Zk aN):∀n:Nat,Zj (Fl aN n)
 |0=>λ_ _ _ _ _ _ _ _ _ _ _ _ _ _ _ _ h=>nz h
 |n+1=>aHx bn (aqp bn n) n
def RH (bw:acz) (n:Nat) (dq fF t13 t14:Int) (dQ:cO) (dF:bN) (b3 b6:aj) (dG:cA):Option (aj×cO×cA×bN):=
 bw dq fF t13 (bl (t14+1)) dQ dF (aj.mk b3.av dQ b3.ay dG dF) (aj.mk b6.av [] b6.ay [] []) dG
def OM:=K9 (Ob [0,1,0,1]) agS
def aHw {bw} (cM:OM bw) (n:Nat):Zk (RH bw n):=λdq fF t13 t14 dQ dF b3 b6 dG r h=>ra (cM h) []
def RG (dX:Wf20) (back:acz) (n:Nat) (dq fF t13 t14:Int) (dQ:cO) (dF:bN) (b3 b6:aj) (dG:cA):Option (aj×cO×cA×bN):=
 if decide (t14<t13) then
 (eZ dG.length t14).bind λx2=>(dG[0+x2]?).bind λu5=>Fl (RH back n) n dq fF t13 t14 (u5.ae.length:Int) 0 dQ dF (aj.mk b3.av dQ b3.ay dG dF) (aj.mk b6.av [] b6.ay [] []) u5 u5.ae dG (bk.mk [] u5.aG) (0+x2)
 else
 dX dq fF dQ dF (aj.mk b3.av dQ b3.ay dG dF) (aj.mk b6.av [] b6.ay [] []) dG
def Zi:=K7 (Ob [1,1]) aAr
def aHv {dX} (gf:Zi dX) {back} (aS:OM back) (n:Nat):OM (RG dX back n):=λdq fF t13 t14 dQ dF b3 b6 dG r h=>ie h (λc0 h=>be h λx2 cX h=>be h λu5 uJ h=>ra (aqp (aHw aS n) n h) [aI c0,(0,dO cX),(0,eN.ny R3 mU Bj 0 false 3 1 u5.ae uJ (oE u5.aG) (by kernel_rfl) (by kernel_rfl)),(0,eN.zg [0] (oE u5.aG) uJ)]) λc0 h=>ra (gf h) [aI c0]
def BY (dX:Wf20):Nat->Int->Int->Int->Int->cO->bN->aj->aj->cA->Option (aj×cO×cA×bN)
 |0=>λ_ _ _ _ _ _ _ _ _=>none
 |n+1=>RG dX (BY dX n) n
def aqo {dX} (gf:Zi dX):∀n:Nat,OM (BY dX n)
 |0=>λ_ _ _ _ _ _ _ _ _ _ h=>nz h
 |n+1=>aHv gf (aqo gf n) n
def RF (da:Wf21) (back:acz) (n:Nat) (dq fF t40 t41:Int) (dQ:cO) (dF:bN) (b3 b6:aj) (dG:cA):Option (aj×cO×cA×bN):=
 if decide (t41<t40) then
 (eZ dF.length t41).bind λdB=>(dF[0+dB]?).bind λgP=>(DF n gP dq fF).bind λfg=>(eZ dF.length t41).bind λlh=>(dF[0+lh]?).bind λkL=>(setAt dF (0+lh) fg).bind λz21=>back dq fF t40 (bl (t41+1)) dQ z21 (aj.mk b3.av dQ b3.ay dG z21) (aj.mk b6.av [] b6.ay [] []) dG
 else
 da dQ dF (aj.mk b3.av dQ b3.ay dG dF) (aj.mk b6.av [] b6.ay [] []) dG
def Zh:=K5 (Ob [1,1,1]) aAs
def Zg:=K9 (Ob [0,1,0,1,1]) aAt
def aHu {da} (eW:Zh da) {back} (aS:Zg back) (n:Nat):Zg (RF da back n):=λdq fF t40 t41 dQ dF b3 b6 dG r h=>ie h (λc0 h=>be h λdB kS h=>be h λgP jC h=>be h λfg iM h=>be h λlh pd h=>be h λkL kC h=>be h λz21 wx h=>ra (aS h) [aI c0,(8,dO kS),(0,eD.row jC),iS (axV n iM),(0,dO pd),(0,eD.uE 0 (fk fg) kC wx (by kernel_rfl)),(2,.beq 3 (bM (q9_ b3 rF dQ.length mU dG.length rE) (ew wx)))]) λc0 h=>ra (eW h) [aI c0]
def Fk (da:Wf21):Nat->Int->Int->Int->Int->cO->bN->aj->aj->cA->Option (aj×cO×cA×bN)
 |0=>λ_ _ _ _ _ _ _ _ _=>none
 |n+1=>RF da (Fk da n) n
def aqn {da} (eW:Zh da):∀n:Nat,Zg (Fk da n)
 |0=>λ_ _ _ _ _ _ _ _ _ _ h=>nz h
 |n+1=>aHu eW (aqn eW n) n
def aeO (n:Nat) (dQ:cO) (dF:bN) (b3 b6:aj) (dG:cA):Option (aj×cO×cA×bN):=
 some ((aj.mk b3.av dQ b3.ay dG dF),dQ,dG,dF)
def aHt (n:Nat):Zh (aeO n):=λdQ dF b3 b6 dG r h=>rr h []
def RE (n:Nat) (dq fF:Int) (dQ:cO) (dF:bN) (b3 b6:aj) (dG:cA):Option (aj×cO×cA×bN):=
 Fk (aeO n) n dq fF (dF.length:Int) 0 dQ dF (aj.mk b3.av dQ b3.ay dG dF) (aj.mk b6.av [] b6.ay [] []) dG
def aHs (n:Nat):Zi (RE n):=λdq fF dQ dF b3 b6 dG r h=>ra (aqn (aHt n) n h) []
def aeN (n:Nat) (t0:aj) (dq fF:Int):Option (aj×cO×cA×bN):=
 BY (RE n) n dq fF (t0.af.length:Int) 0 t0.ae t0.ak t0 (aj.mk ByteArray.empty [] 0 [] []) t0.af
def aHr (n:Nat):K3 (Ob []) agR (aeN n):=λt0 dq fF r h=>ra (aqo (aHs n) n h) []
def adF:=aeN
def ayh (n:Nat):K3 (Cx E0 144 aoV ahw) agR (adF n):=λ_ _ _ _ h=>ca (X:=x144) (aHr n h)
def x145:=fx E0 Tryz.f145 []
def VS:=Ax x145 du bQ
def aAq (l0:gz) (fH lE jY:Int) (t19:gz) (t20 t21 t32 t33:Int) (t36:gz) (t37 t38:Int) (b6 hJ:ji):LS:=⟨[(0,.slice 110 6 l0.length (cR l0)),(1,.int .i64 fH),(6,.loc 6 0),(7,.int .i64 lE),(8,.int .i64 jY),(10,.loc 10 0),(19,.slice 110 6 t19.length (cR t19)),(20,.int .i64 t20),(21,.int .i64 t21),(30,.loc 6 0),(31,.loc 6 0),(32,.int .i64 t32),(33,.int .i64 t33),(34,.bool false),(36,.slice 110 6 t36.length (cR t36)),(37,.int .i64 t37),(38,.int .i64 t38)],[(6,.flat 110 (yY b6)),(10,.flat 110 (yY hJ))]⟩
def aAp (l0:gz) (fH lE jY:Int) (t19:gz) (t20 t21 t32 t33:Int) (t36:gz) (t37 t38:Int) (b6:ji):LS:=⟨[(0,.slice 110 6 l0.length (cR l0)),(1,.int .i64 fH),(6,.loc 6 0),(7,.int .i64 lE),(8,.int .i64 jY),(19,.slice 110 6 t19.length (cR t19)),(20,.int .i64 t20),(21,.int .i64 t21),(30,.loc 6 0),(31,.loc 6 0),(32,.int .i64 t32),(33,.int .i64 t33),(34,.bool false),(36,.slice 110 6 t36.length (cR t36)),(37,.int .i64 t37),(38,.int .i64 t38)],[(6,.flat 110 (yY b6))]⟩
def aAo (l0:gz) (fH lE jY:Int) (t19:gz) (t20 t21 t32 t33:Int) (b6:ji):LS:=⟨[(0,.slice 110 6 l0.length (cR l0)),(1,.int .i64 fH),(7,.int .i64 lE),(8,.int .i64 jY),(19,.slice 110 6 t19.length (cR t19)),(20,.int .i64 t20),(21,.int .i64 t21),(30,.loc 6 0),(31,.loc 6 0),(32,.int .i64 t32),(33,.int .i64 t33),(34,.bool false)],[(6,.flat 110 (yY b6))]⟩
def aAn (l0:gz) (fH:Int) (t19:gz) (t20 t21:Int):LS:=⟨[(0,.slice 110 6 l0.length (cR l0)),(1,.int .i64 fH),(19,.slice 110 6 t19.length (cR t19)),(20,.int .i64 t20),(21,.int .i64 t21)],[]⟩
def aAm:LS:=⟨[],[]⟩
def agQ (l0:gz) (fH:Int):LS:=⟨[(0,.slice 110 6 l0.length (cR l0)),(1,.int .i64 fH)],[]⟩
def RD (aN:Wf22) (n:Nat) (l0:gz) (fH lE jY:Int) (t19:gz) (t20 t21 t32 t33:Int) (t36:gz) (t37 t38:Int) (b6 hJ:ji):Option Bool:=
 if ((hJ.f1.ax==b6.f0.ax) && ((hJ.f1.bX==b6.f0.bX) && ((decide (hJ.f1.bB=b6.f0.bB)) && true))) then
 aN l0 fH lE (bl (jY+1)) t19 t20 t21 t32 t33 t36 t37 (bl (t38+1)) b6
 else
 aN l0 fH lE jY t19 t20 t21 t32 t33 t36 t37 (bl (t38+1)) b6
def OL:=K13 (VS (cF 89291)) aAp
def arH {aN} (bn:OL aN) (n:Nat):K14 (VS (cF 15097035)) aAq (RD aN n):=λl0 fH lE jY t19 t20 t21 t32 t33 t36 t37 t38 b6 hJ r h=>ie h (λc0 h=>ra (bn h) [bt c0]) λc0 h=>ra (bn h) [bt c0]
def RC (bw:Wf23) (back:Wf22) (n:Nat) (l0:gz) (fH lE jY:Int) (t19:gz) (t20 t21 t32 t33:Int) (t36:gz) (t37 t38:Int) (b6:ji):Option Bool:=
 if decide (t38<t37) then
 (idx t36 t38).bind λx2=>if ((x2.f0.ax==b6.f0.ax) && ((x2.f0.bX==b6.f0.bX) && ((decide (x2.f0.bB=b6.f0.bB)) && true))) then
 RD back n l0 fH (bl (lE+1)) jY t19 t20 t21 t32 t33 t36 t37 t38 b6 x2
 else
 RD back n l0 fH lE jY t19 t20 t21 t32 t33 t36 t37 t38 b6 x2
 else
 bw l0 fH lE jY t19 t20 t21 t32 t33 b6
def Zf:=K10 (VS (cF 31947)) aAo
def aHq {bw} (cM:Zf bw) {back} (aS:OL back) (n:Nat):OL (RC bw back n):=λl0 fH lE jY t19 t20 t21 t32 t33 t36 t37 t38 b6 r h=>ie h (λc0 h=>be h λx2 cX h=>ie h (λc1 h=>ra (arH aS n h) [aI c0,(0,DC.idx cX),jS c1]) λc1 h=>ra (arH aS n h) [aI c0,(0,DC.idx cX),jS c1]) λc0 h=>ra (cM h) [aI c0]
def Fj (bw:Wf23):Nat->gz->Int->Int->Int->gz->Int->Int->Int->Int->gz->Int->Int->ji->Option Bool
 |0=>λ_ _ _ _ _ _ _ _ _ _ _ _ _=>none
 |n+1=>RC bw (Fj bw n) n
def aqm {bw} (cM:Zf bw):∀n:Nat,OL (Fj bw n)
 |0=>λ_ _ _ _ _ _ _ _ _ _ _ _ _ _ h=>nz h
 |n+1=>aHq cM (aqm cM n) n
def RB (bD:Wf24) (n:Nat) (l0:gz) (fH lE jY:Int) (t19:gz) (t20 t21 t32 t33:Int) (b6:ji):Option Bool:=
 if lE !=1 then
 some false
 else
 if jY !=1 then
 some false
 else
 bD l0 fH t19 t20 (bl (t21+1))
def OK:=K5 (VS [0,1,0,1,1]) aAn
def aHp {bD} (cU:OK bD) (n:Nat):Zf (RB bD n):=λl0 fH lE jY t19 t20 t21 t32 t33 b6 r h=>ie h (λc0 h=>rr h [bb c0]) λc0 h=>ie h (λc1 h=>rr h [bb c0,ba c1]) λc1 h=>ra (cU h) [bb c0,ba c1]
def RA (da:Option Bool) (back:Wf24) (n:Nat) (l0:gz) (fH:Int) (t19:gz) (t20 t21:Int):Option Bool:=
 if decide (t21<t20) then
 (idx t19 t21).bind λx2=>(N7 n x2.f0).bind λx9=>if !x9 then
 some false
 else
 if x2.f0.ax !=fH then
 some false
 else
 Fj (RB back n) n l0 fH 0 0 t19 t20 t21 x2.f0.ax fH l0 (l0.length:Int) 0 x2
 else
 da
def Ze:=K0 (VS [1,1,1]) aAm
def aHo {da} (eW:Ze da) {back} (aS:OK back) (n:Nat):OK (RA da back n):=λl0 fH t19 t20 t21 r h=>ie h (λc0 h=>be h λx2 cX h=>be h λx9 iO h=>let zA:SE:=[aI c0,(0,DC.idx cX),oY (Xq n iO)];ie h (λc1 h=>bH h zA [aI c1]) λc1 h=>ie h (λc2 h=>bH h zA [aI c1,cq c2]) λc2 h=>cI (aqm (aHp aS n) n h) zA [aI c1,cq c2]) λc0 h=>ra (eW h) [aI c0]
def BX (da:Option Bool):Nat->gz->Int->gz->Int->Int->Option Bool
 |0=>λ_ _ _ _ _=>none
 |n+1=>RA da (BX da n) n
def aql {da} (eW:Ze da):∀n:Nat,OK (BX da n)
 |0=>λ_ _ _ _ _ _ h=>nz h
 |n+1=>aHo eW (aql eW n) n
def J8 (n:Nat):Option Bool:=
 some true
def aHn (n:Nat):Ze (J8 n):=λr h=>rr h []
def aeM (n:Nat) (l0:gz) (fH:Int):Option Bool:=
 if decide ((l0.length:Int)<1) then
 some false
 else
 if decide (16<(l0.length:Int)) then
 some false
 else
 BX (J8 n) n l0 fH l0 (l0.length:Int) 0
def aHm (n:Nat):K2 (VS []) agQ (aeM n):=λl0 fH r h=>ie h (λc0 h=>rr h [bj c0]) λc0 h=>ie h (λc1 h=>rr h [bj c0,bj c1]) λc1 h=>ra (aql (aHn n) n h) [bj c0,bj c1]
def amG:=aeM
def aKk (n:Nat):K2 (Cx E0 145 du bQ) agQ (amG n):=λ_ _ _ h=>ca (X:=x145) (aHm n h)
def W9 (r:(ag×Bool)):AV:=.cS [.agg (dP r.1),.bool r.2]
def x95:=fx E0 Tryz.f95 []
def HU:=Ax x95 W9 bQ
def aDl (t28:br) (t29 t30:Int) (b2:ag) (b3:aF) (b4 b6:ag) (bJ:br):LS:=⟨[(2,.loc 2 0),(3,.loc 3 0),(4,.loc 4 0),(6,.loc 6 0),(28,.slice 44 5 t28.length (cZ t28)),(29,.int .i64 t29),(30,.int .i64 t30)],[(2,jt (dP b2)),(3,ux (mr b3)),(4,xK b4),(6,qN b6 bT bJ.length),(bT,zj bJ)]⟩
def aDk (lj:Nat) (t236 t237:Int) (b3:aF) (b4 b6:ag) (wP iY:cO) (bJ:br) (dK:aj):LS:=⟨[(3,.loc 3 0),(4,.loc 4 0),(6,.loc 6 0),(9,.el bT 5 lj 0),(12,.ms 231 2 0 wP.length),(235,jK iB iY.length),(236,cg t236),(237,cg t237)],[(3,ux (mr b3)),(4,xK b4),(6,qN b6 bT bJ.length),(231,Nh wP),(bT,.tree 44 5 ja (((cZ bJ)).set lj [.str dK.av,.undef,.int .i64 dK.ay,.slice 121 2 dK.af.length (aQ dK.af),.slice 107 13 dK.ak.length (aJ dK.ak)]) [(lj*5+1,jK iB iY.length)]),(iB,Nh iY)]⟩
def aDj (lj:Nat) (b3:aF) (b4 b6:ag) (wP:cO) (bJ:br):LS:=⟨[(3,.loc 3 0),(4,.loc 4 0),(6,.loc 6 0),(9,.el bT 5 lj 0),(12,.ms 231 2 0 wP.length)],[(3,ux (mr b3)),(4,xK b4),(6,qN b6 bT bJ.length),(231,Nh wP),(bT,zj bJ)]⟩
def aDi (t299 t300 t311 Ic:Int) (b2:ag) (b3:aF) (b4 b6:ag) (nJ:aj) (iY:cO) (qk:bN) (jE bJ:br) (dK:aj) (gT fw:Nat) (mo:cA):LS:=⟨[(2,.loc 2 0),(3,.loc 3 0),(4,.loc 4 0),(6,.loc 6 0),(15,.ms 500340 5 0 jE.length),(17,.loc 17 0),(298,.ms 520061 5 0 bJ.length),(299,cg t299),(300,cg t300),(311,cg t311),(312,cg Ic)],[(2,jt (dP b2)),(3,ux (mr b3)),(4,xK b4),(6,qN b6 520061 bJ.length),(17,q9_ nJ 1000611 iY.length 1000613 mo.length 1000614 qk.length),(500340,zj jE),(520061,IA (((gone ja fw (cZ bJ))).set gT (iH dK)) (gT*5+4) 1000614 qk.length (gT*5+3) 1000613 mo.length (gT*5+1) 1000611 iY.length),(1000611,Nh iY),(1000613,Ni mo),(1000614,akd qk)]⟩
def aDh (t299 t300:Int) (b2:ag) (b3:aF) (b4 b6:ag) (nJ:aj) (iY:cO) (qk:bN) (jE bJ:br) (dK:aj) (gT fw:Nat) (mo:cA):LS:=⟨[(2,.loc 2 0),(3,.loc 3 0),(4,.loc 4 0),(6,.loc 6 0),(15,.ms 500340 5 0 jE.length),(17,.loc 17 0),(298,.ms 520061 5 0 bJ.length),(299,cg t299),(300,cg t300)],[(2,jt (dP b2)),(3,ux (mr b3)),(4,xK b4),(6,qN b6 520061 bJ.length),(17,q9_ nJ 1000611 iY.length 1000613 mo.length 1000614 qk.length),(500340,zj jE),(520061,IA (((gone ja fw (cZ bJ))).set gT (iH dK)) (gT*5+4) 1000614 qk.length (gT*5+3) 1000613 mo.length (gT*5+1) 1000611 iY.length),(1000611,Nh iY),(1000613,Ni mo),(1000614,akd qk)]⟩
def aDg (t299 t300:Int) (b2:ag) (b3:aF) (b4 b6:ag) (jE bJ:br) (fw:Nat):LS:=⟨[(2,.loc 2 0),(3,.loc 3 0),(4,.loc 4 0),(6,.loc 6 0),(15,.ms 500340 5 0 jE.length),(298,.ms 520061 5 0 bJ.length),(299,cg t299),(300,cg t300)],[(2,jt (dP b2)),(3,ux (mr b3)),(4,xK b4),(6,qN b6 520061 bJ.length),(500340,zj jE),(520061,.tree 44 5 ja (gone ja fw (cZ bJ)) [])]⟩
def aDf (t299 t300:Int) (b2:ag) (b3:aF) (b4 b6:ag) (jE bJ:br) (fw:Nat):LS:=⟨[(2,.loc 2 0),(3,.loc 3 0),(4,.loc 4 0),(6,.loc 6 0),(15,.ms 500340 5 0 jE.length),(298,.ms 520061 5 0 bJ.length),(299,cg t299),(300,cg t300)],[(2,jt (dP b2)),(3,ux (mr b3)),(4,xK b4),(6,qN b6 520061 bJ.length),(500340,zj jE),(520061,.tree 44 5 ja (gone ja fw (cZ bJ)) [])]⟩
def aDe (b4 b6:ag) (jE bJ:br) (fw:Nat):LS:=⟨[(4,.loc 4 0),(6,.loc 6 0),(15,.ms 500340 5 0 jE.length)],[(4,xK b4),(6,qN b6 520061 bJ.length),(500340,zj jE),(520061,.tree 44 5 ja (gone ja fw (cZ bJ)) [])]⟩
def aDd (b4 b6:ag) (NT:br):LS:=⟨[(4,.loc 4 0),(6,.loc 6 0)],[(4,xK b4),(6,qN b6 nX NT.length),(nX,zj NT)]⟩
def aDc (lj:Nat) (n10:Int) (vK:Bool) (b2:ag) (b3:aF) (b4 b6:ag) (bJ:br):LS:=⟨[(2,.loc 2 0),(3,.loc 3 0),(4,.loc 4 0),(6,.loc 6 0),(9,.el bT 5 lj 0),(10,cg n10),(11,.bool vK)],[(2,jt (dP b2)),(3,ux (mr b3)),(4,xK b4),(6,qN b6 bT bJ.length),(bT,zj bJ)]⟩
def azc (b2:ag) (b3:aF) (b4 b6:ag) (bJ:br):LS:=⟨[(2,.loc 2 0),(3,.loc 3 0),(4,.loc 4 0),(6,.loc 6 0)],[(2,jt (dP b2)),(3,ux (mr b3)),(4,xK b4),(6,qN b6 bT bJ.length),(bT,zj bJ)]⟩
def Kw (s0:ag) (m1:aF):LS:=⟨[(0,.agg (dP s0)),(1,.agg (mr m1))],[]⟩
def XK (Dp:Wf25) (back:br->Int->Int->ag->aF->ag->ag->br->Option (ag×Bool)) (n:Nat) (t28:br) (t29 t30:Int) (b2:ag) (b3:aF) (b4 b6:ag) (bJ:br):Option (ag×Bool):=
 if decide (t30<t29) then
 (idx t28 t30).bind λx2=>(adH n x2).bind λdB=>(app bJ [dB]).bind λeh=>(setAt eh bJ.length dB).bind λqG=>back t28 t29 (bl (t30+1)) b2 b3 (ag.mk b4.aw []) (ag.mk b6.aw qG) qG
 else
 Dp b2 b3 (ag.mk b4.aw []) (ag.mk b6.aw bJ) bJ
def Zd:=K5 (HU [1,1,1,1]) azc
def Zc:=K8 (HU (cF 87)) aDl
def aKP {Dp} (Xk:Zd Dp) {back} (aS:Zc back) (n:Nat):Zc (XK Dp back n):=λt28 t29 t30 b2 b3 b4 b6 bJ r h=>ie h (λc0 h=>be h λx2 cX h=>be h λdB kS h=>be h λeh iz h=>be h λqG nj h=>ra (aS h) [aI c0,(0,bW.idx cX),(6,.call (ayj n kS) [] [(330370001,r9),(330370003,201003),(330370004,201004)]),(1,bW.Ib iz),(2,.beq bT (bM (λq_=>Bx.tree 44 5 ja q_ [(bJ.length*5+1,jK 330370001 dB.ae.length),(bJ.length*5+3,.ms 330370003 2 0 dB.af.length),(bJ.length*5+4,.ms 330370004 13 0 dB.ak.length)]) (bW.apS (r:= (iH dB)) iz))),(0,bW.jr eL (r:= (iH dB)) bT 330370001 1 false 73 2 dB.ae nj [.str dB.av,.slice 73 2 dB.ae.length (bE dB.ae),.int .i64 dB.ay,.undef,.undef] (by kernel_rfl)),(0,bW.jr eN (r:= [.str dB.av,.slice 73 2 dB.ae.length (bE dB.ae),.int .i64 dB.ay,.undef,.undef]) bT 330370003 3 false 121 2 dB.af nj [.str dB.av,.slice 73 2 dB.ae.length (bE dB.ae),.int .i64 dB.ay,.slice 121 2 dB.af.length (aQ dB.af),.undef] (by kernel_rfl)),(0,bW.gQ eD (r:= [.str dB.av,.slice 73 2 dB.ae.length (bE dB.ae),.int .i64 dB.ay,.slice 121 2 dB.af.length (aQ dB.af),.undef]) bT 330370004 4 false 107 13 dB.ak nj (by kernel_rfl)),(2,.beq 6 (bM (qN b6 bT) (((bW.apL iz).trans (ew nj)))))]) λc0 h=>ra (Xk h) [aI c0]
def LZ (Dp:Wf25):Nat->br->Int->Int->ag->aF->ag->ag->br->Option (ag×Bool)
 |0=>λ_ _ _ _ _ _ _ _=>none
 |n+1=>XK Dp (LZ Dp n) n
def awU {Dp} (Xk:Zd Dp):∀n:Nat,Zc (LZ Dp n)
 |0=>λ_ _ _ _ _ _ _ _ _ h=>nz h
 |n+1=>aKP Xk (awU Xk n) n
def XJ (bw:Wf26) (back:Nat->Int->Int->aF->ag->ag->cO->cO->br->aj->Option (ag×Bool)) (n:Nat) (lj:Nat) (t236 t237:Int) (b3:aF) (b4 b6:ag) (wP iY:cO) (bJ:br) (dK:aj):Option (ag×Bool):=
 if decide (t237<t236) then
 (eZ iY.length t237).bind λx3=>(iY[0+x3]?).bind λx5=>(Hl n t237 b3.aO b3.eJ).bind λfg=>(eZ wP.length fg).bind λjj=>(wP[0+jj]?).bind λpG=>(setAt wP (0+jj) x5).bind λz22=>back lj t236 (bl (t237+1)) b3 (ag.mk b4.aw []) (ag.mk b6.aw bJ) z22 iY bJ (aj.mk dK.av [] dK.ay dK.af dK.ak)
 else
 (setAt bJ lj (aj.mk dK.av iY dK.ay dK.af dK.ak)).bind λz2=>bw lj b3 (ag.mk b4.aw []) (ag.mk b6.aw z2) wP z2
def Zb:=K6 (HU (cF 4060671)) aDj
def Za:=K10 (HU (cF 11400703)) aDk
def aKO {bw} (cM:Zb bw) {back} (aS:Za back) (n:Nat):Za (XJ bw back n):=λlj t236 t237 b3 b4 b6 wP iY bJ dK r h=>ie h (λc0 h=>be h λx3 eY h=>be h λx5 kR h=>be h λfg iM h=>be h λjj nL h=>be h λpG xT h=>be h λz22 vq h=>ra (aS h) [aI c0,(1,dO eY),(0,eL.row kR),(3,.ord [0,1,2,3,4,5,7,6,8,9]),yo (P0 n iM),(0,dO nL),(0,eL.uE 0 (GP x5) xT vq (by kernel_rfl)),(2,.seq 12 (bM (AV.ms 231 2 0) (ew vq)))]) λc0 h=>be h λz2 mi h=>ra (cM h) [aI c0,(0,bW.gQ eL (r:= [.str dK.av,.undef,.int .i64 dK.ay,.slice 121 2 dK.af.length (aQ dK.af),.slice 107 13 dK.ak.length (aJ dK.ak)]) bT iB 1 false 73 2 iY mi (by kernel_rfl)),(0,.beq 6 (bM (qN b6 bT) (ew mi)))]
def LY (bw:Wf26):Nat->Nat->Int->Int->aF->ag->ag->cO->cO->br->aj->Option (ag×Bool)
 |0=>λ_ _ _ _ _ _ _ _ _ _=>none
 |n+1=>XJ bw (LY bw n) n
def awT {bw} (cM:Zb bw):∀n:Nat,Za (LY bw n)
 |0=>λ_ _ _ _ _ _ _ _ _ _ _ h=>nz h
 |n+1=>aKO cM (awT cM n) n
def Mu (vP:Wf27) (n:Nat) (lj:Nat) (b3:aF) (b4 b6:ag) (wP:cO) (bJ:br):Option (ag×Bool):=
 (bJ[lj]?).bind λu5=>(adF n (aj.mk u5.av wP u5.ay u5.af u5.ak) b3.aO b3.eJ).bind λfh=>(setAt bJ lj (aj.mk fh.1.av fh.2.1 fh.1.ay fh.2.2.1 fh.2.2.2)).bind λz19=>vP (ag.mk b4.aw []) (ag.mk b6.aw z19) z19
def Y9:=K3 (HU (cF 2047)) aDd
def aKN {vP} (I6:Y9 vP) (n:Nat):Zb (Mu vP n):=λlj b3 b4 b6 wP bJ r h=>be h λu5 uJ h=>be h λfh mK h=>be h λz19 Gy h=>ra (I6 h) [(4,bW.holF 1 [.str u5.av,.undef,.int .i64 u5.ay,.slice 121 2 u5.af.length (aQ u5.af),.slice 107 13 u5.ak.length (aJ u5.ak)] uJ (by kernel_rfl)),(0,bW.uV eN (r:= [.str u5.av,.undef,.int .i64 u5.ay,.slice 121 2 u5.af.length (aQ u5.af),.slice 107 13 u5.ak.length (aJ u5.ak)]) bT lM 3 false 121 2 u5.af uJ [.str u5.av,.undef,.int .i64 u5.ay,.undef,.slice 107 13 u5.ak.length (aJ u5.ak)] (by kernel_rfl) (by kernel_rfl)),(0,bW.uV eD (r:= [.str u5.av,.undef,.int .i64 u5.ay,.undef,.slice 107 13 u5.ak.length (aJ u5.ak)]) bT lL 4 false 107 13 u5.ak uJ (iH u5) (by kernel_rfl) (by kernel_rfl)),(3,bW.zg [4,3,1] (iH u5) uJ),(4,.call (ayh n mK) [(231,rF),(lM,mU),(lL,rE)] []),(1,bW.hrwS (iH u5) (iH fh.1) uJ),(0,bW.jr eL (r:= (iH fh.1)) bT 231 1 false 73 2 fh.2.1 Gy [.str fh.1.av,.slice 73 2 fh.2.1.length (bE fh.2.1),.int .i64 fh.1.ay,.undef,.undef] (by kernel_rfl)),(0,bW.jr eN (r:= [.str fh.1.av,.slice 73 2 fh.2.1.length (bE fh.2.1),.int .i64 fh.1.ay,.undef,.undef]) bT lM 3 false 121 2 fh.2.2.1 Gy [.str fh.1.av,.slice 73 2 fh.2.1.length (bE fh.2.1),.int .i64 fh.1.ay,.slice 121 2 fh.2.2.1.length (aQ fh.2.2.1),.undef] (by kernel_rfl)),(0,bW.gQ eD (r:= [.str fh.1.av,.slice 73 2 fh.2.1.length (bE fh.2.1),.int .i64 fh.1.ay,.slice 121 2 fh.2.2.1.length (aQ fh.2.2.1),.undef]) bT lL 4 false 107 13 fh.2.2.2 Gy (by kernel_rfl)),(0,.jl bT nX),(0,.beq 6 (bM (qN b6 nX) (ew Gy)))]
def Qv (da:Wf28) (back:Int->Int->Int->Int->ag->aF->ag->ag->aj->cO->bN->br->br->aj->Nat->Nat->cA->Option (ag×Bool)) (n:Nat) (t299 t300 t311 Ic:Int) (b2:ag) (b3:aF) (b4 b6:ag) (nJ:aj) (iY:cO) (qk:bN) (jE bJ:br) (dK:aj) (gT fw:Nat) (mo:cA):Option (ag×Bool):=
 if decide (Ic<t311) then
 (eZ mo.length Ic).bind λx7=>(mo[0+x7]?).bind λdB=>if dB.aG==b3.aG then
 (lJ gT fw).bind λw14=>(setAt bJ gT (aj.mk dK.av [] dK.ay [] [])).bind λz15=>some (b2,false)
 else
 (eZ mo.length Ic).bind λpG=>(mo[0+pG]?).bind λCc=>(Hl n Cc.aG b3.aG (-1)).bind λnv=>(eZ mo.length Ic).bind λsM=>(mo[0+sM]?).bind λu33=>(setAt mo (0+sM) (bk.mk u33.ae nv)).bind λz35=>back t299 t300 t311 (bl (Ic+1)) b2 b3 (ag.mk b4.aw []) (ag.mk b6.aw bJ) (aj.mk nJ.av iY nJ.ay z35 qk) iY qk jE bJ (aj.mk dK.av [] dK.ay [] []) gT fw z35
 else
 da t299 t300 b2 b3 (ag.mk b4.aw []) (ag.mk b6.aw bJ) (aj.mk nJ.av iY nJ.ay mo qk) iY qk jE bJ (aj.mk dK.av [] dK.ay [] []) gT fw mo
def Y8:=K15 (HU (cF 130551903743)) aDh
def Y7:=K17 (HU (cF 371070072319)) aDi
def aKM {da} (eW:Y8 da) {back} (aS:Y7 back) (n:Nat):Y7 (Qv da back n):=λt299 t300 t311 Ic b2 b3 b4 b6 nJ iY qk jE bJ dK gT fw mo r h=>ie h (λc0 h=>be h λx7 jv h=>be h λdB kS h=>let zA:SE:=[aI c0,(5,dO jv),(1,eN.row kS)];ie h (λc1 h=>be h λw14 hw14 h=>be h λz15 Bl h=>bH h zA [ba c1,(0,.pZ bT (.tree 44 5 ja [] [])),(0,.beq bT (bM (λq_=>Bx.tree 44 5 ja q_ []) (bW.akZ (l:= ja) (r:= (iH dK)) hw14 Bl (by kernel_rfl))))]) λc1 h=>be h λpG xT h=>be h λCc NB h=>be h λnv sL h=>be h λsM Bo h=>be h λu33 hu33 h=>be h λz35 atO h=>cI (aS h) zA [ba c1,(6,dO xT),(1,eN.row NB),iS (P0 n sL),(0,dO Bo),(1,eN.uE 1 [cg nv] hu33 atO (by kernel_rfl)),(2,.beq 17 (bM (λn_=>((q9_ nJ iB iY.length lM n_ lL qk.length))) (ew atO))),(0,.beq bT (bM (λn_=>((IA (((gone ja fw (cZ bJ))).set gT (iH dK)) (gT*5+4) lL qk.length (gT*5+3) lM n_ (gT*5+1) iB iY.length))) (ew atO)))]) λc0 h=>ra (eW h) [aI c0]
def G7 (da:Wf28):Nat->Int->Int->Int->Int->ag->aF->ag->ag->aj->cO->bN->br->br->aj->Nat->Nat->cA->Option (ag×Bool)
 |0=>λ_ _ _ _ _ _ _ _ _ _ _ _ _ _ _ _ _=>none
 |n+1=>Qv da (G7 da n) n
def awS {da} (eW:Y8 da):∀n:Nat,Y7 (G7 da n)
 |0=>λ_ _ _ _ _ _ _ _ _ _ _ _ _ _ _ _ _ _ h=>nz h
 |n+1=>aKM eW (awS eW n) n
def XI (dX:avy) (n:Nat) (t299 t300:Int) (b2:ag) (b3:aF) (b4 b6:ag) (nJ:aj) (iY:cO) (qk:bN) (jE bJ:br) (dK:aj) (gT fw:Nat) (mo:cA):Option (ag×Bool):=
 (app jE [(aj.mk nJ.av iY nJ.ay mo qk)]).bind λx4=>(setAt x4 jE.length (aj.mk nJ.av iY nJ.ay mo qk)).bind λz7=>(lJ gT fw).bind λw8=>(setAt bJ gT (aj.mk dK.av [] dK.ay [] [])).bind λz9=>dX t299 t300 b2 b3 (ag.mk b4.aw []) (ag.mk b6.aw z9) z7 z9 (fw+1)
def aoG:=K9 (HU (cF 8145335807)) aDg
def aKL {dX} (gf:aoG dX) (n:Nat):Y8 (XI dX n):=λt299 t300 b2 b3 b4 b6 nJ iY qk jE bJ dK gT fw mo r h=>be h λx4 jm h=>be h λz7 hz7 h=>be h λw8 hw8 h=>be h λz9 hz9 h=>ra (gf h) [(3,bW.Ib jm),(0,.beq 500340 (bM (λq_=>Bx.tree 44 5 ja q_ [(jE.length*5+1,jK iB iY.length),(jE.length*5+3,jK lM mo.length),(jE.length*5+4,.ms lL 13 0 qk.length)]) (bW.apS (r:= (iH nJ)) jm))),(1,bW.jr eL (r:= (iH nJ)) 500340 iB 1 false 73 2 iY hz7 [.str nJ.av,.slice 73 2 iY.length (bE iY),.int .i64 nJ.ay,.undef,.undef] (by kernel_rfl)),(0,bW.jr eN (r:= [.str nJ.av,.slice 73 2 iY.length (bE iY),.int .i64 nJ.ay,.undef,.undef]) 500340 lM 3 false 121 2 mo hz7 [.str nJ.av,.slice 73 2 iY.length (bE iY),.int .i64 nJ.ay,.slice 121 2 mo.length (aQ mo),.undef] (by kernel_rfl)),(0,bW.gQ eD (r:= [.str nJ.av,.slice 73 2 iY.length (bE iY),.int .i64 nJ.ay,.slice 121 2 mo.length (aQ mo),.undef]) 500340 lL 4 false 107 13 qk hz7 (by kernel_rfl)),(0,.pZ bT (.tree 44 5 ja [] [])),(0,.beq bT (bM (λq_=>Bx.tree 44 5 ja q_ []) (bW.akZ (l:= ja) (r:= (iH dK)) hw8 hz9 (by kernel_rfl)))),(0,.seq 15 (bM (AV.ms 500340 5 0) (((bW.apL jm).trans (ew hz7))))),(0,.seq 298 (bM (AV.ms bT 5 0) (ew hz9))),(0,.beq 6 (bM (qN b6 bT) (ew hz9)))]
def Ms (jO:avy) (n:Nat) (t299 t300:Int) (b2:ag) (b3:aF) (b4 b6:ag) (jE bJ:br) (fw:Nat):Option (ag×Bool):=
 jO t299 (bl (t300+1)) b2 b3 (ag.mk b4.aw []) (ag.mk b6.aw bJ) jE bJ fw
def OJ:=K9 (HU (cF 360707583)) aDf
def ayB {jO} (qj:OJ jO) (n:Nat):aoG (Ms jO n):=λt299 t300 b2 b3 b4 b6 jE bJ fw r h=>ra (qj h) []
def Qu (kQ:Wf30) (back:avy) (n:Nat) (t299 t300:Int) (b2:ag) (b3:aF) (b4 b6:ag) (jE bJ:br) (fw:Nat):Option (ag×Bool):=
 if decide (t300<t299) then
 (eZ bJ.length t300).bind λx3=>(bJ[0+x3]?).bind λu6=>(lJ (0+x3) fw).bind λw7=>if t300==b3.aG then
 (setAt bJ (0+x3) (aj.mk u6.av [] u6.ay [] [])).bind λz15=>Ms back n t299 t300 b2 b3 (ag.mk b4.aw []) (ag.mk b6.aw z15) jE z15 (fw+1)
 else
 G7 (XI (Ms back n) n) n t299 t300 (u6.af.length:Int) 0 b2 b3 (ag.mk b4.aw []) (ag.mk b6.aw bJ) u6 u6.ae u6.ak jE bJ (aj.mk u6.av [] u6.ay [] []) (0+x3) fw u6.af
 else
 kQ (ag.mk b4.aw []) (ag.mk b6.aw bJ) jE bJ fw
def Y6:=K5 (HU (cF 125826559)) aDe
def aKK {kQ} (rJ:Y6 kQ) {back} (aS:OJ back) (n:Nat):OJ (Qu kQ back n):=λt299 t300 b2 b3 b4 b6 jE bJ fw r h=>ie h (λc0 h=>be h λx3 eY h=>be h λu6 yO h=>be h λw7 hw7 h=>let zA:SE:=[aI c0,(1,dO eY),(0,bW.aCQ eL ja hw7 bT iB 1 false 73 2 u6.ae yO [.str u6.av,.undef,.int .i64 u6.ay,.slice 121 2 u6.af.length (aQ u6.af),.slice 107 13 u6.ak.length (aJ u6.ak)] (by kernel_rfl) (by kernel_rfl)),(0,bW.anU eN ja hw7 [.str u6.av,.undef,.int .i64 u6.ay,.slice 121 2 u6.af.length (aQ u6.af),.slice 107 13 u6.ak.length (aJ u6.ak)] bT lM 3 false 121 2 u6.af yO [.str u6.av,.undef,.int .i64 u6.ay,.undef,.slice 107 13 u6.ak.length (aJ u6.ak)] (by kernel_rfl) (by kernel_rfl)),(0,bW.anU eD ja hw7 [.str u6.av,.undef,.int .i64 u6.ay,.undef,.slice 107 13 u6.ak.length (aJ u6.ak)] bT lL 4 false 107 13 u6.ak yO (iH u6) (by kernel_rfl) (by kernel_rfl)),(0,bW.aJm ja hw7 [4,3,1] (iH u6) yO)];ie h (λc1 h=>be h λz15 Bl h=>cI (ayB aS n h) zA [dL c1,(0,.pZ bT (.tree 44 5 ja [] [])),(0,.beq bT (bM (λq_=>Bx.tree 44 5 ja q_ []) (bW.akZ (l:= ja) (r:= (iH u6)) hw7 Bl (by kernel_rfl)))),(0,.seq 298 (bM (AV.ms bT 5 0) (ew Bl))),(0,.beq 6 (bM (qN b6 bT) (ew Bl)))]) λc1 h=>cI (awS (aKL (ayB aS n) n) n h) zA [dL c1]) λc0 h=>ra (rJ h) [aI c0]
def C4 (kQ:Wf30):Nat->Int->Int->ag->aF->ag->ag->br->br->Nat->Option (ag×Bool)
 |0=>λ_ _ _ _ _ _ _ _ _=>none
 |n+1=>Qu kQ (C4 kQ n) n
def awR {kQ} (rJ:Y6 kQ):∀n:Nat,OJ (C4 kQ n)
 |0=>λ_ _ _ _ _ _ _ _ _ _ h=>nz h
 |n+1=>aKK rJ (awR rJ n) n
def Mr (vP:Wf27) (n:Nat) (b4 b6:ag) (jE bJ:br) (fw:Nat):Option (ag×Bool):=
 vP (ag.mk b4.aw []) (ag.mk b6.aw jE) jE
def aKJ {vP} (I6:Y9 vP) (n:Nat):Y6 (Mr vP n):=λb4 b6 jE bJ fw r h=>ra (I6 h) [(3,.jl 500340 nX)]
def l9 (n:Nat) (b4 b6:ag) (NT:br):Option (ag×Bool):=
 (F94 n (ag.mk b6.aw NT)).bind λx3=>some ((ag.mk b6.aw NT),x3==0)
def G0 (n:Nat):Y9 (l9 n):=λb4 b6 NT r h=>be h λx3 eY h=>rr h [(0,bW.tfr false nX NT),iS (auG n eY)]
def uj (n:Nat) (lj:Nat) (n10:Int) (vK:Bool) (b2:ag) (b3:aF) (b4 b6:ag) (bJ:br):Option (ag×Bool):=
 if b3.bh==1 then
 (N7 n b3.aD).bind λx7=>if !x7 then
 some (b2,false)
 else
 if b3.aD.ax !=b3.ax then
 some (b2,false)
 else
 (bJ[lj]?).bind λmA=>(app mA.ae [(cJ.mk b3.av b3.ax)]).bind λvZ=>(setAt bJ lj (aj.mk mA.av vZ mA.ay mA.af mA.ak)).bind λz36=>l9 n (ag.mk b4.aw []) (ag.mk b6.aw z36) z36
 else
 if b3.bh==2 then
 (bJ[lj]?).bind λu7=>if !vK then
 (setAt bJ lj u7).bind λqG=>some (b2,false)
 else
 (N7 n b3.aD).bind λig=>if !ig then
 (setAt bJ lj u7).bind λz22=>some (b2,false)
 else
 (eZ u7.ae.length b3.aO).bind λnv=>(u7.ae[0+nv]?).bind λvZ=>if b3.aD.ax !=vZ.ax then
 (setAt bJ lj u7).bind λz37=>some (b2,false)
 else
 (adG n u7 b3.aO).bind λDY=>if DY then
 (setAt bJ lj u7).bind λtf=>some (b2,false)
 else
 (setAt bJ lj u7).bind λtf=>(tf[lj]?).bind λjz=>(tD jz.ae.length b3.aO).bind λx55=>(BI jz.ae.length (bl (b3.aO+1))).bind λHy=>(G1 jz.ae x55 ((jz.ae.drop (0+Hy)).take (jz.ae.length - Hy))).bind λx66=>(adF n (aj.mk jz.av x66 jz.ay jz.af jz.ak) b3.aO (-1)).bind λoC=>(setAt tf lj (aj.mk oC.1.av oC.2.1 oC.1.ay oC.2.2.1 oC.2.2.2)).bind λz81=>l9 n (ag.mk b4.aw []) (ag.mk b6.aw z81) z81
 else
 if b3.bh==3 then
 if !vK then
 some (b2,false)
 else
 (bJ[lj]?).bind λiG=>if decide (b3.eJ<iG.ay) then
 some (b2,false)
 else
 if !decide (b3.eJ<n10) then
 some (b2,false)
 else
 (rz n10 ((cJ.mk ByteArray.empty 0):cJ)).bind λnv=>(bJ[lj]?).bind λCd=>LY (Mu (l9 n) n) n lj (Cd.ae.length:Int) 0 b3 (ag.mk b4.aw []) (ag.mk b6.aw bJ) nv Cd.ae bJ (aj.mk Cd.av [] Cd.ay Cd.af Cd.ak)
 else
 if b3.bh==4 then
 if decide (b3.aO<0) then
 some (b2,false)
 else
 if !decide (b3.aO<n10) then
 some (b2,false)
 else
 (bJ[lj]?).bind λqJ=>(eZ qJ.ae.length b3.aO).bind λsM=>(qJ.ae[0+sM]?).bind λmO=>(setAt qJ.ae (0+sM) (cJ.mk b3.av mO.ax)).bind λz34=>(setAt bJ lj (aj.mk qJ.av z34 qJ.ay qJ.af qJ.ak)).bind λz36=>l9 n (ag.mk b4.aw []) (ag.mk b6.aw z36) z36
 else
 if b3.bh==5 then
 (bJ[lj]?).bind λmA=>(setAt bJ lj (aj.mk b3.av mA.ae mA.ay mA.af mA.ak)).bind λz20=>l9 n (ag.mk b4.aw []) (ag.mk b6.aw z20) z20
 else
 if b3.bh==7 then
 C4 (Mr (l9 n) n) n (bJ.length:Int) 0 b2 b3 (ag.mk b4.aw []) (ag.mk b6.aw bJ) [] bJ 0
 else
 (bJ[lj]?).bind λdi=>if !vK then
 (setAt bJ lj di).bind λz23=>some (b2,false)
 else
 (eZ di.ae.length b3.aO).bind λnv=>(di.ae[0+nv]?).bind λvZ=>(amG n b3.bc vZ.ax).bind λmO=>if !mO then
 (setAt bJ lj di).bind λz39=>some (b2,false)
 else
 (adG n di b3.aO).bind λx43=>if x43 then
 (setAt bJ lj di).bind λz46=>some (b2,false)
 else
 (setAt bJ lj di).bind λz46=>l9 n (ag.mk b4.aw []) (ag.mk b6.aw z46) z46
def ayA (n:Nat):K8 (HU (cF 1023)) aDc (uj n):=λlj n10 vK b2 b3 b4 b6 bJ r h=>ie h (λc0 h=>be h λx7 jv h=>let zA:SE:=[ba c0,kG (Xq n jv)];ie h (λc1 h=>bH h zA [aI c1]) λc1 h=>ie h (λc2 h=>bH h zA [aI c1,dL c2]) λc2 h=>be h λmA akN h=>be h λvZ Bn h=>be h λz36 abo h=>cI (G0 n h) zA [aI c1,dL c2,(1,bW.ny eL bT iB 1 false 73 2 mA.ae akN [.str mA.av,.undef,.int .i64 mA.ay,.slice 121 2 mA.af.length (aQ mA.af),.slice 107 13 mA.ak.length (aJ mA.ak)] (by kernel_rfl) (by kernel_rfl)),(11,eL.kE Bn),(2,bW.xV 1 [.str mA.av,.undef,.int .i64 mA.ay,.slice 121 2 mA.af.length (aQ mA.af),.slice 107 13 mA.ak.length (aJ mA.ak)] [.str mA.av,.undef,.int .i64 mA.ay,.slice 121 2 mA.af.length (aQ mA.af),.slice 107 13 mA.ak.length (aJ mA.ak)] akN (by kernel_rfl)),(0,bW.gQ eL (r:= [.str mA.av,.undef,.int .i64 mA.ay,.slice 121 2 mA.af.length (aQ mA.af),.slice 107 13 mA.ak.length (aJ mA.ak)]) bT iB 1 false 73 2 vZ abo (by kernel_rfl)),(0,.jl bT nX),(0,.beq 6 (bM (qN b6 nX) (ew abo)))]) λc0 h=>let zA:SE:=[ba c0];ie h (λc1 h=>be h λu7 hu7 h=>let zB:SE:=dU zA [bb c1,(1,bW.ny eL bT iB 1 false 73 2 u7.ae hu7 [.str u7.av,.undef,.int .i64 u7.ay,.slice 121 2 u7.af.length (aQ u7.af),.slice 107 13 u7.ak.length (aJ u7.ak)] (by kernel_rfl) (by kernel_rfl)),(0,bW.uV eN (r:= [.str u7.av,.undef,.int .i64 u7.ay,.slice 121 2 u7.af.length (aQ u7.af),.slice 107 13 u7.ak.length (aJ u7.ak)]) bT lM 3 false 121 2 u7.af hu7 [.str u7.av,.undef,.int .i64 u7.ay,.undef,.slice 107 13 u7.ak.length (aJ u7.ak)] (by kernel_rfl) (by kernel_rfl)),(0,bW.uV eD (r:= [.str u7.av,.undef,.int .i64 u7.ay,.undef,.slice 107 13 u7.ak.length (aJ u7.ak)]) bT lL 4 false 107 13 u7.ak hu7 (iH u7) (by kernel_rfl) (by kernel_rfl))];ie h (λc2 h=>be h λqG nj h=>bH h zB [bb c2,(6,bW.jr eD (r:= (iH u7)) bT lL 4 false 107 13 u7.ak nj [.str u7.av,.undef,.int .i64 u7.ay,.undef,.slice 107 13 u7.ak.length (aJ u7.ak)] (by kernel_rfl)),(0,bW.jr eN (r:= [.str u7.av,.undef,.int .i64 u7.ay,.undef,.slice 107 13 u7.ak.length (aJ u7.ak)]) bT lM 3 false 121 2 u7.af nj [.str u7.av,.undef,.int .i64 u7.ay,.slice 121 2 u7.af.length (aQ u7.af),.slice 107 13 u7.ak.length (aJ u7.ak)] (by kernel_rfl)),(0,bW.gQ eL (r:= [.str u7.av,.undef,.int .i64 u7.ay,.slice 121 2 u7.af.length (aQ u7.af),.slice 107 13 u7.ak.length (aJ u7.ak)]) bT iB 1 false 73 2 u7.ae nj (by kernel_rfl))]) λc2 h=>be h λig j2 h=>let zC:SE:=dU zB [bb c2,kG (Xq n j2)];ie h (λc3 h=>be h λz22 vq h=>bH h zC [aI c3,(5,bW.jr eD (r:= (iH u7)) bT lL 4 false 107 13 u7.ak vq [.str u7.av,.undef,.int .i64 u7.ay,.undef,.slice 107 13 u7.ak.length (aJ u7.ak)] (by kernel_rfl)),(0,bW.jr eN (r:= [.str u7.av,.undef,.int .i64 u7.ay,.undef,.slice 107 13 u7.ak.length (aJ u7.ak)]) bT lM 3 false 121 2 u7.af vq [.str u7.av,.undef,.int .i64 u7.ay,.slice 121 2 u7.af.length (aQ u7.af),.slice 107 13 u7.ak.length (aJ u7.ak)] (by kernel_rfl)),(0,bW.gQ eL (r:= [.str u7.av,.undef,.int .i64 u7.ay,.slice 121 2 u7.af.length (aQ u7.af),.slice 107 13 u7.ak.length (aJ u7.ak)]) bT iB 1 false 73 2 u7.ae vq (by kernel_rfl))]) λc3 h=>be h λnv sL h=>be h λvZ Bn h=>let zD:SE:=dU zC [aI c3,(8,bW.zg [4,3,1] (iH u7) hu7),(2,dO sL),(1,eL.row Bn)];ie h (λc4 h=>be h λz37 atN h=>bH h zD [aI c4,(3,bW.jr eD (r:= (iH u7)) bT lL 4 false 107 13 u7.ak atN [.str u7.av,.undef,.int .i64 u7.ay,.undef,.slice 107 13 u7.ak.length (aJ u7.ak)] (by kernel_rfl)),(0,bW.jr eN (r:= [.str u7.av,.undef,.int .i64 u7.ay,.undef,.slice 107 13 u7.ak.length (aJ u7.ak)]) bT lM 3 false 121 2 u7.af atN [.str u7.av,.undef,.int .i64 u7.ay,.slice 121 2 u7.af.length (aQ u7.af),.slice 107 13 u7.ak.length (aJ u7.ak)] (by kernel_rfl)),(0,bW.gQ eL (r:= [.str u7.av,.undef,.int .i64 u7.ay,.slice 121 2 u7.af.length (aQ u7.af),.slice 107 13 u7.ak.length (aJ u7.ak)]) bT iB 1 false 73 2 u7.ae atN (by kernel_rfl))]) λc4 h=>be h λDY abr h=>let zE:SE:=dU zD [aI c4,(4,bW.zg [4,3,1] (iH u7) hu7),(2,.Am (ayi n abr) [eL.fX iB u7.ae,eN.tfr false lM u7.af,eD.fX lL u7.ak] trivial [] [])];ie h (λc5 bI=>by subst c5;exact (be bI λtf qi bI=>bH bI zE [(1,bW.jr eD (r:= (iH u7)) bT lL 4 false 107 13 u7.ak qi [.str u7.av,.undef,.int .i64 u7.ay,.undef,.slice 107 13 u7.ak.length (aJ u7.ak)] (by kernel_rfl)),(0,bW.jr eN (r:= [.str u7.av,.undef,.int .i64 u7.ay,.undef,.slice 107 13 u7.ak.length (aJ u7.ak)]) bT lM 3 false 121 2 u7.af qi [.str u7.av,.undef,.int .i64 u7.ay,.slice 121 2 u7.af.length (aQ u7.af),.slice 107 13 u7.ak.length (aJ u7.ak)] (by kernel_rfl)),(0,bW.gQ eL (r:= [.str u7.av,.undef,.int .i64 u7.ay,.slice 121 2 u7.af.length (aQ u7.af),.slice 107 13 u7.ak.length (aJ u7.ak)]) bT iB 1 false 73 2 u7.ae qi (by kernel_rfl))])) λc5 bI=>by subst c5;exact (be bI λtf qi bI=>be bI λjz U5 bI=>be bI λx55 hx55 bI=>be bI λHy U4 bI=>be bI λx66 hx66 bI=>be bI λoC hx77 bI=>be bI λz81 akI bI=>cI (G0 n bI) zE [(1,bW.jr eD (r:= (iH u7)) bT lL 4 false 107 13 u7.ak qi [.str u7.av,.undef,.int .i64 u7.ay,.undef,.slice 107 13 u7.ak.length (aJ u7.ak)] (by kernel_rfl)),(0,bW.jr eN (r:= [.str u7.av,.undef,.int .i64 u7.ay,.undef,.slice 107 13 u7.ak.length (aJ u7.ak)]) bT lM 3 false 121 2 u7.af qi [.str u7.av,.undef,.int .i64 u7.ay,.slice 121 2 u7.af.length (aQ u7.af),.slice 107 13 u7.ak.length (aJ u7.ak)] (by kernel_rfl)),(0,bW.gQ eL (r:= [.str u7.av,.undef,.int .i64 u7.ay,.slice 121 2 u7.af.length (aQ u7.af),.slice 107 13 u7.ak.length (aJ u7.ak)]) bT iB 1 false 73 2 u7.ae qi (by kernel_rfl)),(0,bW.ny eL bT iB 1 false 73 2 jz.ae U5 [.str jz.av,.undef,.int .i64 jz.ay,.slice 121 2 jz.af.length (aQ jz.af),.slice 107 13 jz.ak.length (aJ jz.ak)] (by kernel_rfl) (by kernel_rfl)),(7,eL.tD (xs:=jz.ae) hx55 (vW rfl)),(7,eL.BI (xs:=jz.ae) U4 (vW rfl)),(0,eL.appB hx66 (aBX U4 (vW rfl))),(2,bW.xV 1 [.str jz.av,.undef,.int .i64 jz.ay,.slice 121 2 jz.af.length (aQ jz.af),.slice 107 13 jz.ak.length (aJ jz.ak)] [.str jz.av,.undef,.int .i64 jz.ay,.slice 121 2 jz.af.length (aQ jz.af),.slice 107 13 jz.ak.length (aJ jz.ak)] U5 (by kernel_rfl)),(0,bW.uV eN (r:= [.str jz.av,.undef,.int .i64 jz.ay,.slice 121 2 jz.af.length (aQ jz.af),.slice 107 13 jz.ak.length (aJ jz.ak)]) bT lM 3 false 121 2 jz.af U5 [.str jz.av,.undef,.int .i64 jz.ay,.undef,.slice 107 13 jz.ak.length (aJ jz.ak)] (by kernel_rfl) (by kernel_rfl)),(0,bW.uV eD (r:= [.str jz.av,.undef,.int .i64 jz.ay,.undef,.slice 107 13 jz.ak.length (aJ jz.ak)]) bT lL 4 false 107 13 jz.ak U5 (iH jz) (by kernel_rfl) (by kernel_rfl)),(3,bW.zg [4,3,1] (iH jz) U5),(2,.call (ayh n hx77) [(iB,rF),(lM,mU),(lL,rE)] []),(1,bW.hrwS (iH jz) (iH oC.1) U5),(0,bW.jr eL (r:= (iH oC.1)) bT iB 1 false 73 2 oC.2.1 akI [.str oC.1.av,.slice 73 2 oC.2.1.length (bE oC.2.1),.int .i64 oC.1.ay,.undef,.undef] (by kernel_rfl)),(0,bW.jr eN (r:= [.str oC.1.av,.slice 73 2 oC.2.1.length (bE oC.2.1),.int .i64 oC.1.ay,.undef,.undef]) bT lM 3 false 121 2 oC.2.2.1 akI [.str oC.1.av,.slice 73 2 oC.2.1.length (bE oC.2.1),.int .i64 oC.1.ay,.slice 121 2 oC.2.2.1.length (aQ oC.2.2.1),.undef] (by kernel_rfl)),(0,bW.gQ eD (r:= [.str oC.1.av,.slice 73 2 oC.2.1.length (bE oC.2.1),.int .i64 oC.1.ay,.slice 121 2 oC.2.2.1.length (aQ oC.2.2.1),.undef]) bT lL 4 false 107 13 oC.2.2.2 akI (by kernel_rfl)),(0,.jl bT nX),(0,.beq 6 (bM (qN b6 nX) (((ng akI).trans (ng qi)).symm)))])) λc1 h=>let zB:SE:=dU zA [bb c1];ie h (λc2 h=>let zC:SE:=dU zB [bb c2];ie h (λc3 h=>bH h zC [ba c3]) λc3 h=>be h λiG kg h=>let zD:SE:=dU zC [ba c3,(6,bW.row kg)];ie h (λc4 h=>bH h zD [aI c4]) λc4 h=>ie h (λc5 h=>bH h zD [aI c4,cq c5]) λc5 h=>be h λnv sL h=>be h λCd hu35 h=>cI (awT (aKN (G0 n) n) n h) zD [aI c4,cq c5,(2,eL.made sL),(0,.seq 231 (bM (AV.ms 231 2 0) ((Nd sL)))),(4,bW.ny eL bT iB 1 false 73 2 Cd.ae hu35 [.str Cd.av,.undef,.int .i64 Cd.ay,.slice 121 2 Cd.af.length (aQ Cd.af),.slice 107 13 Cd.ak.length (aJ Cd.ak)] (by kernel_rfl) (by kernel_rfl))]) λc2 h=>let zC:SE:=dU zB [bb c2];ie h (λc3 h=>ie h (λc4 h=>bH h zC [bb c3,bj c4]) λc4 h=>ie h (λc5 h=>bH h zC [bb c3,bj c4,bt c5]) λc5 h=>be h λqJ hu20 h=>be h λsM Bo h=>be h λmO wz h=>be h λz34 hz34 h=>be h λz36 abo h=>cI (G0 n h) zC [bb c3,bj c4,bt c5,(1,bW.ny eL bT iB 1 false 73 2 qJ.ae hu20 [.str qJ.av,.undef,.int .i64 qJ.ay,.slice 121 2 qJ.af.length (aQ qJ.af),.slice 107 13 qJ.ak.length (aJ qJ.ak)] (by kernel_rfl) (by kernel_rfl)),(8,dO Bo),(1,eL.uE 0 [.str b3.av] wz hz34 (by kernel_rfl)),(0,.beq bT (bM (λn_=>(Bx.tree 44 5 ja (((cZ bJ)).set lj [.str qJ.av,.undef,.int .i64 qJ.ay,.slice 121 2 qJ.af.length (aQ qJ.af),.slice 107 13 qJ.ak.length (aJ qJ.ak)]) [(lj*5+1,jK iB n_)])) (ew hz34))),(0,bW.gQ eL (r:= [.str qJ.av,.undef,.int .i64 qJ.ay,.slice 121 2 qJ.af.length (aQ qJ.af),.slice 107 13 qJ.ak.length (aJ qJ.ak)]) bT iB 1 false 73 2 z34 abo (by kernel_rfl)),(0,.jl bT nX),(0,.beq 6 (bM (qN b6 nX) (ew abo)))]) λc3 h=>let zD:SE:=dU zC [bb c3];ie h (λc4 h=>be h λmA akN h=>be h λz20 Gx h=>cI (G0 n h) zD [bb c4,(6,bW.uE 0 [.str b3.av] akN Gx (by kernel_rfl)),(0,.jl bT nX),(0,.beq 6 (bM (qN b6 nX) (ew Gx)))]) λc4 h=>let zE:SE:=dU zD [bb c4];ie h (λc5 h=>cI (awR (aKJ (G0 n) n) n h) zE [bb c5,(6,.beq bT (bM (λq_=>Bx.tree 44 5 ja q_ []) (aEU (l:= ja) (Q:=cZ bJ)))),(0,.born [15] [] 500340 true 44 5)]) λc5 h=>be h λdi abv h=>let zF:SE:=dU zE [bb c5,(1,bW.ny eL bT iB 1 false 73 2 di.ae abv [.str di.av,.undef,.int .i64 di.ay,.slice 121 2 di.af.length (aQ di.af),.slice 107 13 di.ak.length (aJ di.ak)] (by kernel_rfl) (by kernel_rfl)),(0,bW.uV eN (r:= [.str di.av,.undef,.int .i64 di.ay,.slice 121 2 di.af.length (aQ di.af),.slice 107 13 di.ak.length (aJ di.ak)]) bT lM 3 false 121 2 di.af abv [.str di.av,.undef,.int .i64 di.ay,.undef,.slice 107 13 di.ak.length (aJ di.ak)] (by kernel_rfl) (by kernel_rfl)),(0,bW.uV eD (r:= [.str di.av,.undef,.int .i64 di.ay,.undef,.slice 107 13 di.ak.length (aJ di.ak)]) bT lL 4 false 107 13 di.ak abv (iH di) (by kernel_rfl) (by kernel_rfl))];ie h (λc6 h=>be h λz23 atP h=>bH h zF [bb c6,(4,bW.jr eD (r:= (iH di)) bT lL 4 false 107 13 di.ak atP [.str di.av,.undef,.int .i64 di.ay,.undef,.slice 107 13 di.ak.length (aJ di.ak)] (by kernel_rfl)),(0,bW.jr eN (r:= [.str di.av,.undef,.int .i64 di.ay,.undef,.slice 107 13 di.ak.length (aJ di.ak)]) bT lM 3 false 121 2 di.af atP [.str di.av,.undef,.int .i64 di.ay,.slice 121 2 di.af.length (aQ di.af),.slice 107 13 di.ak.length (aJ di.ak)] (by kernel_rfl)),(0,bW.gQ eL (r:= [.str di.av,.undef,.int .i64 di.ay,.slice 121 2 di.af.length (aQ di.af),.slice 107 13 di.ak.length (aJ di.ak)]) bT iB 1 false 73 2 di.ae atP (by kernel_rfl))]) λc6 h=>be h λnv sL h=>be h λvZ Bn h=>be h λmO wz h=>let zG:SE:=dU zF [bb c6,(6,bW.zg [4,3,1] (iH di) abv),(2,dO sL),(1,eL.row Bn),oZ (aKk n wz)];ie h (λc7 h=>be h λz39 atM h=>bH h zG [aI c7,(3,bW.jr eD (r:= (iH di)) bT lL 4 false 107 13 di.ak atM [.str di.av,.undef,.int .i64 di.ay,.undef,.slice 107 13 di.ak.length (aJ di.ak)] (by kernel_rfl)),(0,bW.jr eN (r:= [.str di.av,.undef,.int .i64 di.ay,.undef,.slice 107 13 di.ak.length (aJ di.ak)]) bT lM 3 false 121 2 di.af atM [.str di.av,.undef,.int .i64 di.ay,.slice 121 2 di.af.length (aQ di.af),.slice 107 13 di.ak.length (aJ di.ak)] (by kernel_rfl)),(0,bW.gQ eL (r:= [.str di.av,.undef,.int .i64 di.ay,.slice 121 2 di.af.length (aQ di.af),.slice 107 13 di.ak.length (aJ di.ak)]) bT iB 1 false 73 2 di.ae atM (by kernel_rfl))]) λc7 h=>be h λx43 atW h=>let zH:SE:=dU zG [aI c7,(4,bW.zg [4,3,1] (iH di) abv),(2,.Am (ayi n atW) [eL.fX iB di.ae,eN.tfr false lM di.af,eD.fX lL di.ak] trivial [] [])];ie h (λc8 bI=>by subst c8;exact (be bI λz46 IZ bI=>bH bI zH [(1,bW.jr eD (r:= (iH di)) bT lL 4 false 107 13 di.ak IZ [.str di.av,.undef,.int .i64 di.ay,.undef,.slice 107 13 di.ak.length (aJ di.ak)] (by kernel_rfl)),(0,bW.jr eN (r:= [.str di.av,.undef,.int .i64 di.ay,.undef,.slice 107 13 di.ak.length (aJ di.ak)]) bT lM 3 false 121 2 di.af IZ [.str di.av,.undef,.int .i64 di.ay,.slice 121 2 di.af.length (aQ di.af),.slice 107 13 di.ak.length (aJ di.ak)] (by kernel_rfl)),(0,bW.gQ eL (r:= [.str di.av,.undef,.int .i64 di.ay,.slice 121 2 di.af.length (aQ di.af),.slice 107 13 di.ak.length (aJ di.ak)]) bT iB 1 false 73 2 di.ae IZ (by kernel_rfl))])) λc8 bI=>by subst c8;exact (be bI λz46 IZ bI=>cI (G0 n bI) zH [(1,bW.jr eD (r:= (iH di)) bT lL 4 false 107 13 di.ak IZ [.str di.av,.undef,.int .i64 di.ay,.undef,.slice 107 13 di.ak.length (aJ di.ak)] (by kernel_rfl)),(0,bW.jr eN (r:= [.str di.av,.undef,.int .i64 di.ay,.undef,.slice 107 13 di.ak.length (aJ di.ak)]) bT lM 3 false 121 2 di.af IZ [.str di.av,.undef,.int .i64 di.ay,.slice 121 2 di.af.length (aQ di.af),.slice 107 13 di.ak.length (aJ di.ak)] (by kernel_rfl)),(0,bW.gQ eL (r:= [.str di.av,.undef,.int .i64 di.ay,.slice 121 2 di.af.length (aQ di.af),.slice 107 13 di.ak.length (aJ di.ak)]) bT iB 1 false 73 2 di.ae IZ (by kernel_rfl)),(0,.jl bT nX),(0,.beq 6 (bM (qN b6 nX) (ew IZ)))])
def zc (n:Nat) (b2:ag) (b3:aF) (b4 b6:ag) (bJ:br):Option (ag×Bool):=
 if b3.bh==6 then
 (adH n b3.ar).bind λx8=>(app bJ [x8]).bind λdA=>(setAt dA bJ.length x8).bind λz15=>(F94 n (ag.mk b6.aw z15)).bind λjj=>some ((ag.mk b6.aw z15),jj==0)
 else
 if decide (b3.aG<0) then
 some (b2,false)
 else
 if !decide (b3.aG<(b2.ai.length:Int)) then
 some (b2,false)
 else
 (eZ bJ.length b3.aG).bind λjj=>(bJ[0+jj]?).bind λfB=>if !decide (b3.aO<fB.ay) then
 (setAt bJ (0+jj) fB).bind λtf=>uj n (0+jj) (fB.ae.length:Int) (decide (b3.aO<(fB.ae.length:Int))) b2 b3 (ag.mk b4.aw []) (ag.mk b6.aw tf) tf
 else
 (setAt bJ (0+jj) fB).bind λz40=>uj n (0+jj) (fB.ae.length:Int) false b2 b3 (ag.mk b4.aw []) (ag.mk b6.aw z40) z40
def aFg (n:Nat):Zd (zc n):=λb2 b3 b4 b6 bJ r h=>ie h (λc0 h=>be h λx8 oH h=>be h λdA gn h=>be h λz15 Bl h=>be h λjj nL h=>rr h [ba c0,(4,.call (ayj n oH) [] [(330490001,r9),(330490003,201003),(330490004,201004)]),(1,bW.Ib gn),(2,.beq bT (bM (λq_=>Bx.tree 44 5 ja q_ [(bJ.length*5+1,jK 330490001 x8.ae.length),(bJ.length*5+3,.ms 330490003 2 0 x8.af.length),(bJ.length*5+4,.ms 330490004 13 0 x8.ak.length)]) (bW.apS (r:= (iH x8)) gn))),(0,bW.jr eL (r:= (iH x8)) bT 330490001 1 false 73 2 x8.ae Bl [.str x8.av,.slice 73 2 x8.ae.length (bE x8.ae),.int .i64 x8.ay,.undef,.undef] (by kernel_rfl)),(0,bW.jr eN (r:= [.str x8.av,.slice 73 2 x8.ae.length (bE x8.ae),.int .i64 x8.ay,.undef,.undef]) bT 330490003 3 false 121 2 x8.af Bl [.str x8.av,.slice 73 2 x8.ae.length (bE x8.ae),.int .i64 x8.ay,.slice 121 2 x8.af.length (aQ x8.af),.undef] (by kernel_rfl)),(0,bW.gQ eD (r:= [.str x8.av,.slice 73 2 x8.ae.length (bE x8.ae),.int .i64 x8.ay,.slice 121 2 x8.af.length (aQ x8.af),.undef]) bT 330490004 4 false 107 13 x8.ak Bl (by kernel_rfl)),(0,.seq 51 (bM (AV.ms bT 5 0) (((bW.apL gn).trans (ew Bl))))),(0,.beq 6 (bM (qN b6 bT) (((bW.apL gn).trans (ew Bl))))),(0,bW.tfr false bT z15),iS (auG n nL)]) λc0 h=>ie h (λc1 h=>rr h [ba c0,ba c1]) λc1 h=>let zA:SE:=[ba c0,ba c1];ie h (λc2 h=>bH h zA [dL c2]) λc2 h=>be h λjj nL h=>be h λfB U6 h=>let zB:SE:=dU zA [dL c2,(5,dO nL),(4,bW.ny eL bT iB 1 false 73 2 fB.ae U6 [.str fB.av,.undef,.int .i64 fB.ay,.slice 121 2 fB.af.length (aQ fB.af),.slice 107 13 fB.ak.length (aJ fB.ak)] (by kernel_rfl) (by kernel_rfl)),(8,bW.rowS [.str fB.av,.undef,.int .i64 fB.ay,.slice 121 2 fB.af.length (aQ fB.af),.slice 107 13 fB.ak.length (aJ fB.ak)] U6)];ie h (λc3 h=>be h λtf qi h=>cI (ayA n h) zB [aI c3,(7,bW.gQ eL (r:= [.str fB.av,.undef,.int .i64 fB.ay,.slice 121 2 fB.af.length (aQ fB.af),.slice 107 13 fB.ak.length (aJ fB.ak)]) bT iB 1 false 73 2 fB.ae qi (by kernel_rfl)),(0,.beq 6 (bM (qN b6 bT) (ew qi)))]) λc3 h=>be h λz40 hz40 h=>cI (ayA n h) zB [aI c3,(3,bW.gQ eL (r:= [.str fB.av,.undef,.int .i64 fB.ay,.slice 121 2 fB.af.length (aQ fB.af),.slice 107 13 fB.ak.length (aJ fB.ak)]) bT iB 1 false 73 2 fB.ae hz40 (by kernel_rfl)),(0,.beq 6 (bM (qN b6 bT) (ew hz40)))]
def Qw (n:Nat) (s0:ag) (m1:aF):Option (ag×Bool):=
 (VD n m1).bind λx6=>if !x6 then
 some (s0,false)
 else
 LZ (zc n) n s0.ai (s0.ai.length:Int) 0 s0 m1 (ag.mk 0 []) (ag.mk (bl (s0.aw+1)) []) []
def aFf (n:Nat):K2 (HU []) Kw (Qw n):=λs0 m1 r h=>be h λx6 lC h=>ie h (λc0 h=>rr h [oY (ayk n lC),aI c0]) λc0 h=>ra (awU (aFg n) n h) [oY (ayk n lC),aI c0,(10,.born [] [(6,1)] bT true 44 5)]
def F95:=Qw
def ev95 (n:Nat):K2 (Cx E0 95 W9 bQ) Kw (F95 n):=λ_ _ _ h=>ca (X:=x95) (aFf n h)
def Xb (r:(fO×Int)):AV:=.cS [jK cT r.1.length,cg r.2]
def Pg (r:(fO×Int)):List (Nat×Bx):= [(cT,Ge r.1)]
def x40:=fx E0 Tryz.f40 [1]
def A40:=AxS x40 [1] Xb Pg
def C40:=CxS E0 40 [1] Xb Pg
def aDY (t31 t32:Int) (cr:cG) (j8:fO):LS:=⟨[(7,.ms 29 2 0 j8.length),(30,.ms 1 15 0 cr.length),(31,cg t31),(32,cg t32)],[(1,Gd cr),(29,Ge j8)]⟩
def aDX (cr:cG) (j8:fO):LS:=⟨[(7,.ms 29 2 0 j8.length)],[(1,Gd cr),(29,Ge j8)]⟩
def aop (gJ:ag) (cr:cG):LS:=⟨[(0,.agg (dP gJ)),(1,.ms 1 15 0 cr.length)],[(1,Gd cr)]⟩
def Mz (aN:cG->fO->Option (fO×Int)) (back:Int->Int->cG->fO->Option (fO×Int)) (n:Nat) (t31 t32:Int) (cr:cG) (j8:fO):Option (fO×Int):=
 if decide (t32<t31) then
 (eZ cr.length t32).bind λx2=>(cr[0+x2]?).bind λx4=>(eZ j8.length (bl ((j8.length:Int) - 1))).bind λgP=>(j8[0+gP]?).bind λig=>(F95 n ig x4).bind λiG=>if !iG.2 then
 some ([],280)
 else
 (app j8 [iG.1]).bind λsM=>back t31 (bl (t32+1)) cr sM
 else
 aN cr j8
def Y5:=K2 (A40 [1,1,1,1,1]) aDX
def Y4:=K4 (A40 (cF 175)) aDY
def aMb {aN} (bn:Y5 aN) {back} (aS:Y4 back) (n:Nat):Y4 (Mz aN back n):=λt31 t32 cr j8 r h=>ie h (λc0 h=>be h λx2 cX h=>be h λx4 jm h=>be h λgP jC h=>be h λig j2 h=>be h λiG kg h=>let zA:SE:=[aI c0,(0,dO cX),(0,R45.row jm),(2,.ord [0,1,2,3,4,5,6,11,7,8,9,10,12,13]),(4,dO jC),(0,EY.row j2),iS (ev95 n kg)];ie h (λc1 h=>rrS h (dU zA [dL c1,(2,.born [4] [] cT false 25 2)])) λc1 h=>be h λsM Bo h=>raS (aS h) (by kernel_rfl) (dU zA [dL c1,(3,EY.kE Bo)])) λc0 h=>raS (bn h) (by kernel_rfl) [aI c0]
def Ar (aN:cG->fO->Option (fO×Int)):Nat->Int->Int->cG->fO->Option (fO×Int)
 |0=>λ_ _ _ _=>none
 |n+1=>Mz aN (Ar aN n) n
def axn {aN} (bn:Y5 aN):∀n:Nat,Y4 (Ar aN n)
 |0=>λ_ _ _ _ _ h=>nz h
 |n+1=>aMb bn (axn bn n) n
def My (n:Nat) (cr:cG) (j8:fO):Option (fO×Int):=
 some (j8,0)
def aMa (n:Nat):Y5 (My n):=λcr j8 r h=>rrS h [(3,.jl 29 cT)]
def Ye (n:Nat) (gJ:ag) (cr:cG):Option (fO×Int):=
 (F94 n gJ).bind λx5=>if x5 !=0 then
 some ([],x5)
 else
 if decide (8<(cr.length:Int)) then
 some ([],2)
 else
 if decide (1000<(bl (gJ.aw+(cr.length:Int)))) then
 some ([],2)
 else
 Ar (My n) n (cr.length:Int) 0 cr [gJ]
def aLZ (n:Nat):K2 (A40 []) aop (Ye n):=λgJ cr r h=>be h λx5 kR h=>let zA:SE:=[mV (auG n kR)];ie h (λc0 h=>rrS h (dU zA [ba c0,(3,.born [4] [] cT false 25 2)])) λc0 h=>ie h (λc1 h=>rrS h (dU zA [ba c0,ba c1,(4,.born [4] [] cT false 25 2)])) λc1 h=>ie h (λc2 h=>rrS h (dU zA [ba c0,ba c1,dL c2,(3,.born [4] [] cT false 25 2)])) λc2 h=>raS (axn (aMa n) n h) (by kernel_rfl) (dU zA [ba c0,ba c1,dL c2])
def F40:=Ye
def auK (n:Nat):K2 C40 aop (F40 n):=λ_ _ _ h=>caS (X:=x40) (aLZ n h)
def awE (r:(cG×aL)):AV:=.ms cT 15 0 r.1.length
def apk (r:(cG×aL)):List (Nat×Bx):= [(0,o9 (fJ r.2)),(cT,Gd r.1)]
def rW:=fx E0 Tryz.f39 [0]
def A39:=Ax rW awE apk
def aEd (n8:Int) (b0:aL) (b4:ag) (fp:cG) (bR:aF):LS:=⟨[(0,.loc 0 0),(4,.loc 4 0),(7,.ms 227 15 0 fp.length),(8,cg n8),(12,.loc 12 0)],[(0,o9 (fJ b0)),(4,jt (dP b4)),(12,ux (mr bR)),(227,Gd fp)]⟩
def aor (n8:Int) (b0:aL) (b4:ag) (fp:cG):LS:=⟨[(0,.loc 0 0),(4,.loc 4 0),(7,.ms 227 15 0 fp.length),(8,cg n8)],[(0,o9 (fJ b0)),(4,jt (dP b4)),(227,Gd fp)]⟩
def aEc (n8:Int) (b0:aL) (b4:ag) (fp:cG) (gE:ag) (bR:aF):LS:=⟨[(0,.loc 0 0),(4,.loc 4 0),(7,.ms 227 15 0 fp.length),(8,cg n8),(11,.loc 11 0),(12,.loc 12 0)],[(0,o9 (fJ b0)),(4,jt (dP b4)),(11,jt (dP gE)),(12,ux (mr bR)),(227,Gd fp)]⟩
def aEb (n8:Int) (b0:aL) (b4:ag) (fp:cG) (gE:ag) (bR:aF) (ka:aj):LS:=⟨[(0,.loc 0 0),(4,.loc 4 0),(7,.ms 227 15 0 fp.length),(8,cg n8),(11,.loc 11 0),(12,.loc 12 0),(13,.loc 13 0)],[(0,.flat 97 (fJ b0)),(4,.flat 25 (dP b4)),(11,.flat 25 (dP gE)),(12,.flat 46 [.int .i64 bR.bh,.int .i64 bR.aG,.int .i64 0,.int .i64 0,.str ByteArray.empty,.int .i64 0,.int .i64 0,.int .i64 0,.str ByteArray.empty,.slice 110 6 bR.bc.length (cR bR.bc),.str ByteArray.empty,.slice 73 2 bR.ar.ae.length (bE bR.ar.ae),.int .i64 0,.slice 121 2 bR.ar.af.length (aQ bR.ar.af),.slice 107 13 bR.ar.ak.length (aJ bR.ar.ak)]),(13,.flat 44 (iC ka)),(227,.rows false 46 15 (mB fp))]⟩
def aEa (n8:Int) (b0:aL) (b4:ag) (fp:cG) (gE:ag) (bR:aF):LS:=⟨[(0,.loc 0 0),(4,.loc 4 0),(7,.ms 227 15 0 fp.length),(8,cg n8),(11,.loc 11 0),(12,.loc 12 0)],[(0,.flat 97 (fJ b0)),(4,.flat 25 (dP b4)),(11,.flat 25 (dP gE)),(12,.flat 46 [.int .i64 bR.bh,.int .i64 bR.aG,.int .i64 0,.int .i64 0,.str ByteArray.empty,.int .i64 0,.int .i64 0,.int .i64 0,.str ByteArray.empty,.slice 110 6 bR.bc.length (cR bR.bc),.str ByteArray.empty,.slice 73 2 bR.ar.ae.length (bE bR.ar.ae),.int .i64 0,.slice 121 2 bR.ar.af.length (aQ bR.ar.af),.slice 107 13 bR.ar.ak.length (aJ bR.ar.ak)]),(227,.rows false 46 15 (mB fp))]⟩
def aDZ (b0:aL) (fp:cG):LS:=⟨[(7,.ms 227 15 0 fp.length)],[(0,o9 (fJ b0)),(227,Gd fp)]⟩
def aoq (c0:aL) (s1:ag) (Xg:Int):LS:=⟨[(0,.loc 0 0),(1,.agg (dP s1)),(2,cg Xg)],(rA (fJ c0))⟩
def QH (aN:Vn) (n:Nat) (n8:Int) (b0:aL) (b4:ag) (fp:cG) (bR:aF):Option (cG×aL):=
 (app [] fp).bind λx3=>(app x3 [bR]).bind λx7=>(F40 n b4 x7).bind λx9=>if x9.2==0 then
 (app fp [bR]).bind λkL=>aN n8 b0 b4 kL
 else
 aN n8 b0 b4 fp
def aoF:=K4 (A39 (cF 459)) aor
def ayH {aN} (bn:aoF aN) (n:Nat):K5 (A39 (cF 2096715)) aEd (QH aN n):=λn8 b0 b4 fp bR r h=>be h λx3 eY h=>be h λx7 jv h=>be h λx9 iO h=>let zA:SE:=[(0,.born [] [] 215 true 46 15),(2,R45.kE (xs:= []) eY),(2,R45.kE jv),(0,.call (auK n iO) [(215,1)] [(321900,cT)])];ie h (λdt h=>be h λkL kC h=>cI (bn h) zA [cq dt,(3,R45.kE kC)]) λdt h=>cI (bn h) zA [cq dt]
def Db (dX:Vn) (n:Nat) (n8:Int) (b0:aL) (b4:ag) (fp:cG):Option (cG×aL):=
 dX (bl (n8 - 1)) b0 b4 fp
def AY:=K4 (A39 [0,1,0,1,1]) aor
def alQ {dX} (gf:AY dX) (n:Nat):aoF (Db dX n):=λn8 b0 b4 fp r h=>ra (gf h) []
def rR (dX:Vn) (n:Nat) (n8:Int) (b0:aL) (b4:ag) (fp:cG) (gE:ag) (bR:aF):Option (cG×aL):=
 if bR.bh==7 then
 if decide ((gE.ai.length:Int)<2) then
 Db dX n n8 b0 b4 fp
 else
 QH (Db dX n) n n8 b0 b4 fp bR
 else
 QH (Db dX n) n n8 b0 b4 fp bR
def wN {dX} (gf:AY dX) (n:Nat):K6 (A39 (cF 1048139)) aEc (rR dX n):=λn8 b0 b4 fp gE bR r h=>ie h (λdt h=>ie h (λc1 h=>ra (alQ gf n h) [ba dt,bt c1]) λc1 h=>ra (ayH (alQ gf n) n h) [ba dt,bt c1]) λdt h=>ra (ayH (alQ gf n) n h) [ba dt]
def QG (dX:Vn) (n:Nat) (n8:Int) (b0:aL) (b4:ag) (fp:cG) (gE:ag) (bR:aF) (ka:aj):Option (cG×aL):=
 (rq n b0 (if 1<(bl ((ka.ae.length:Int) - ka.ay)) then (bl ((ka.ae.length:Int) - ka.ay)) else 1)).bind λdA=>(cat (ByteArray.mk #[110]) (Utf8.encode (IntKind.wrap .i32 (bl (97+(fp.length:Int)))))).bind λkL=>(rq n dA.2 26).bind λiF=>(cat ((ByteArray.mk #[110])++(Utf8.encode (IntKind.wrap .i32 (bl (97+(fp.length:Int)))))) (Utf8.encode (IntKind.wrap .i32 (bl (97+iF.1))))).bind λnv=>if bR.bh==1 then
 (rq n iF.2 3).bind λyC=>(F93 n yC.2 (bl (3+yC.1))).bind λx47=>rR dX n n8 x47.2 b4 fp gE (aF.mk bR.bh bR.aG 0 0 (((ByteArray.mk #[110])++(Utf8.encode (IntKind.wrap .i32 (bl (97+(fp.length:Int))))))++(Utf8.encode (IntKind.wrap .i32 (bl (97+iF.1))))) (bl (3+yC.1)) x47.1 bR.bc (aj.mk ByteArray.empty bR.ar.ae 0 bR.ar.af bR.ar.ak))
 else
 if bR.bh==2 then
 if decide ((bl (ka.ay+dA.1))<(ka.ae.length:Int)) then
 (idx ka.ae (bl (ka.ay+dA.1))).bind λx49=>(F93 n iF.2 x49.ax).bind λx53=>rR dX n n8 x53.2 b4 fp gE (aF.mk bR.bh bR.aG (bl (ka.ay+dA.1)) 0 ByteArray.empty 0 x53.1 bR.bc (aj.mk ByteArray.empty bR.ar.ae 0 bR.ar.af bR.ar.ak))
 else
 rR dX n n8 iF.2 b4 fp gE (aF.mk bR.bh bR.aG (bl (ka.ay+dA.1)) 0 ByteArray.empty 0 (aR.mk 0 0 ByteArray.empty) bR.bc (aj.mk ByteArray.empty bR.ar.ae 0 bR.ar.af bR.ar.ak))
 else
 if bR.bh==3 then
 (rq n iF.2 (if 1<(bl ((ka.ae.length:Int) - ka.ay)) then (bl ((ka.ae.length:Int) - ka.ay)) else 1)).bind λx50=>rR dX n n8 x50.2 b4 fp gE (aF.mk bR.bh bR.aG (bl (ka.ay+dA.1)) (bl (ka.ay+x50.1)) ByteArray.empty 0 (aR.mk 0 0 ByteArray.empty) bR.bc (aj.mk ByteArray.empty bR.ar.ae 0 bR.ar.af bR.ar.ak))
 else
 if bR.bh==4 then
 (rq n iF.2 (if 1<(ka.ae.length:Int) then (ka.ae.length:Int) else 1)).bind λAQ=>rR dX n n8 AQ.2 b4 fp gE (aF.mk bR.bh bR.aG AQ.1 0 (((ByteArray.mk #[110])++(Utf8.encode (IntKind.wrap .i32 (bl (97+(fp.length:Int))))))++(Utf8.encode (IntKind.wrap .i32 (bl (97+iF.1))))) 0 (aR.mk 0 0 ByteArray.empty) bR.bc (aj.mk ByteArray.empty bR.ar.ae 0 bR.ar.af bR.ar.ak))
 else
 if bR.bh==5 then
 rR dX n n8 iF.2 b4 fp gE (aF.mk bR.bh bR.aG 0 0 (((ByteArray.mk #[110])++(Utf8.encode (IntKind.wrap .i32 (bl (97+(fp.length:Int))))))++(Utf8.encode (IntKind.wrap .i32 (bl (97+iF.1))))) 0 (aR.mk 0 0 ByteArray.empty) bR.bc (aj.mk ByteArray.empty bR.ar.ae 0 bR.ar.af bR.ar.ak))
 else
 if bR.bh==6 then
 (B6 n (ByteArray.mk #[105,100]) 4).bind λAQ=>(B6 n (ByteArray.mk #[110,111,116,101]) 5).bind λx48=>rR dX n n8 iF.2 b4 fp gE (aF.mk bR.bh 0 0 0 ByteArray.empty 0 (aR.mk 0 0 ByteArray.empty) bR.bc (aj.mk (((ByteArray.mk #[110])++(Utf8.encode (IntKind.wrap .i32 (bl (97+(fp.length:Int))))))++(Utf8.encode (IntKind.wrap .i32 (bl (97+iF.1))))) [AQ,x48] 1 [] []))
 else
 if bR.bh==8 then
 if decide ((bl (ka.ay+dA.1))<(ka.ae.length:Int)) then
 (idx ka.ae (bl (ka.ay+dA.1))).bind λx58=>(F93 n iF.2 x58.ax).bind λpF=>(F93 n pF.2 x58.ax).bind λql=>if ((pF.1.ax==ql.1.ax) && ((pF.1.bX==ql.1.bX) && ((decide (pF.1.bB=ql.1.bB)) && true))) then
 (tD 2 1).bind λx89=>rR dX n n8 ql.2 b4 fp gE (aF.mk bR.bh bR.aG (bl (ka.ay+dA.1)) 0 ByteArray.empty 0 (aR.mk 0 0 ByteArray.empty) ([(ji.mk pF.1 ql.1),(ji.mk ql.1 pF.1)].take x89) (aj.mk ByteArray.empty bR.ar.ae 0 bR.ar.af bR.ar.ak))
 else
 rR dX n n8 ql.2 b4 fp gE (aF.mk bR.bh bR.aG (bl (ka.ay+dA.1)) 0 ByteArray.empty 0 (aR.mk 0 0 ByteArray.empty) [(ji.mk pF.1 ql.1),(ji.mk ql.1 pF.1)] (aj.mk ByteArray.empty bR.ar.ae 0 bR.ar.af bR.ar.ak))
 else
 rR dX n n8 iF.2 b4 fp gE (aF.mk bR.bh bR.aG (bl (ka.ay+dA.1)) 0 ByteArray.empty 0 (aR.mk 0 0 ByteArray.empty) bR.bc (aj.mk ByteArray.empty bR.ar.ae 0 bR.ar.af bR.ar.ak))
 else
 rR dX n n8 iF.2 b4 fp gE (aF.mk bR.bh bR.aG 0 0 ByteArray.empty 0 (aR.mk 0 0 ByteArray.empty) bR.bc (aj.mk ByteArray.empty bR.ar.ae 0 bR.ar.af bR.ar.ak))
def ayG {dX} (gf:AY dX) (n:Nat):K7 (A39 (cF 130635)) aEb (QG dX n):=λn8 b0 b4 fp gE bR ka r h=>be h λdA gn h=>be h λkL kC h=>be h λiF tv h=>be h λnv sL h=>let zA:SE:=[(10,.call (oO n gn) [(0,0)] []),(7,.cat (GX kC).1),(1,.call (oO n tv) [(0,0)] []),(3,.cat (GX sL).1)];ie h (λdt h=>be h λyC Nz h=>be h λx47 hx47 h=>cI (wN gf n h) zA [bj dt,(3,.call (oO n Nz) [(0,0)] []),(8,.call (NJ n hx47) [(0,0)] [])]) λdt h=>let zB:SE:=dU zA [bj dt];ie h (λc1 h=>ie h (λc2 h=>be h λx49 hx49 h=>be h λx53 hx53 h=>cI (wN gf n h) zB [bb c1,iw c2,(4,eL.idx hx49),(2,.call (NJ n hx53) [(0,0)] [])]) λc2 h=>cI (wN gf n h) zB [bb c1,iw c2]) λc1 h=>let zC:SE:=dU zB [bb c1];ie h (λc2 h=>be h λx50 hx50 h=>cI (wN gf n h) zC [bb c2,(1,.ord [0,1,2,3,4,5,6,7,8,9,10,13,11,12,14,15,16]),(12,.call (oO n hx50) [(0,0)] [])]) λc2 h=>let zD:SE:=dU zC [bb c2];ie h (λc3 h=>be h λAQ abq h=>cI (wN gf n h) zD [bb c3,(6,.call (oO n abq) [(0,0)] [])]) λc3 h=>let zE:SE:=dU zD [bb c3];ie h (λc4 h=>cI (wN gf n h) zE [bb c4]) λc4 h=>let zF:SE:=dU zE [bb c4];ie h (λc5 h=>be h λAQ abq h=>be h λx48 atU h=>cI (wN gf n h) zF [bb c5,iS (BE n abq),oZ (BE n atU),(6,eL.fX 163 [AQ,x48])]) λc5 h=>let zG:SE:=dU zF [bb c5];ie h (λc6 h=>ie h (λc7 h=>be h λx58 hx58 h=>be h λpF hx65 h=>be h λql hx69 h=>let zH:SE:=dU zG [bb c6,iw c7,(3,eL.idx hx58),(5,.call (NJ n hx65) [(0,0)] []),(2,.call (NJ n hx69) [(0,0)] [])];ie h (λc8 h=>be h λx89 atQ h=>cI (wN gf n h) zH [(15,eb c8),(2,DC.tD (xs:= [(ji.mk pF.1 ql.1),(ji.mk ql.1 pF.1)]) atQ (vW rfl)),(2,.zJ 194 (.undef)),(0,.zJ 200 (.undef)),(0,.shr 194 (DC.take [(ji.mk pF.1 ql.1),(ji.mk ql.1 pF.1)] x89)),(0,.seq 201 (bM (AV.ms 194 6 0) ((Ce (xs:= [(ji.mk pF.1 ql.1),(ji.mk ql.1 pF.1)]) (jf (vT atQ).2 (vW rfl))).symm))),(0,.beq 12 (bM (λn_=>(Bx.flat 46 [.int .i64 bR.bh,.int .i64 bR.aG,.int .i64 (bl (ka.ay+dA.1)),.int .i64 0,.str ByteArray.empty,.int .i64 0,.int .i64 0,.int .i64 0,.str ByteArray.empty,.ms 194 6 0 n_,.str ByteArray.empty,.slice 73 2 bR.ar.ae.length (bE bR.ar.ae),.int .i64 0,.slice 121 2 bR.ar.af.length (aQ bR.ar.af),.slice 107 13 bR.ar.ak.length (aJ bR.ar.ak)])) ((Ce (xs:= [(ji.mk pF.1 ql.1),(ji.mk ql.1 pF.1)]) (jf (vT atQ).2 (vW rfl))).symm))),(0,DC.fX 194 ([(ji.mk pF.1 ql.1),(ji.mk ql.1 pF.1)].take x89))]) λc8 h=>cI (wN gf n h) zH [(15,eb c8),(0,DC.fX 194 [(ji.mk pF.1 ql.1),(ji.mk ql.1 pF.1)])]) λc7 h=>cI (wN gf n h) zG [bb c6,iw c7]) λc6 h=>cI (wN gf n h) zG [bb c6]
def QF (dX:Vn) (n:Nat) (n8:Int) (b0:aL) (b4:ag) (fp:cG) (gE:ag) (bR:aF):Option (cG×aL):=
 if decide (0<(gE.ai.length:Int)) then
 (idx gE.ai bR.aG).bind λdB=>QG dX n n8 b0 b4 fp gE (aF.mk bR.bh bR.aG 0 0 ByteArray.empty 0 (aR.mk 0 0 ByteArray.empty) bR.bc (aj.mk ByteArray.empty bR.ar.ae 0 bR.ar.af bR.ar.ak)) dB
 else
 QG dX n n8 b0 b4 fp gE (aF.mk bR.bh bR.aG 0 0 ByteArray.empty 0 (aR.mk 0 0 ByteArray.empty) bR.bc (aj.mk ByteArray.empty bR.ar.ae 0 bR.ar.af bR.ar.ak)) (aj.mk ByteArray.empty [] 0 [] [])
def ayF {dX} (gf:AY dX) (n:Nat):K6 (A39 (cF 32331)) aEa (QF dX n):=λn8 b0 b4 fp gE bR r h=>ie h (λdt h=>be h λdB kS h=>ra (ayG gf n h) [bt dt,(4,bW.idx kS)]) λdt h=>ra (ayG gf n h) [bt dt]
def Yf (jO:Wf32) (back:Vn) (n:Nat) (n8:Int) (b0:aL) (b4:ag) (fp:cG):Option (cG×aL):=
 if decide (0<n8) then
 (F40 n b4 fp).bind λx5=>if x5.2 !=0 then
 some ([],b0)
 else
 (eZ x5.1.length (bl ((x5.1.length:Int) - 1))).bind λlh=>(x5.1[0+lh]?).bind λkL=>(rq n b0 10).bind λgC=>(rq n gC.2 (if 1<(kL.ai.length:Int) then (kL.ai.length:Int) else 1)).bind λmO=>if decide (8<(bl (1+gC.1))) then
 (rq n mO.2 2).bind λzI=>QF back n n8 zI.2 b4 fp kL (aF.mk (bl (1+(bl (7*zI.1)))) mO.1 0 0 ByteArray.empty 0 (aR.mk 0 0 ByteArray.empty) [] (aj.mk ByteArray.empty [] 0 [] []))
 else
 QF back n n8 mO.2 b4 fp kL (aF.mk (bl (1+gC.1)) mO.1 0 0 ByteArray.empty 0 (aR.mk 0 0 ByteArray.empty) [] (aj.mk ByteArray.empty [] 0 [] []))
 else
 jO b0 fp
def Y3:=K2 (A39 [1,1,1]) aDZ
def aMe {jO} (qj:Y3 jO) {back} (aS:AY back) (n:Nat):AY (Yf jO back n):=λn8 b0 b4 fp r h=>ie h (λdt h=>be h λx5 kR h=>let zA:SE:=[bb dt,(2,.call (auK n kR) [(227,1)] [(303000,cT)])];ie h (λc1 h=>bH h zA [dL c1,(1,.born [6] [] cT false 46 15)]) λc1 h=>be h λlh pd h=>be h λkL kC h=>be h λgC l3 h=>be h λmO wz h=>let zB:SE:=dU zA [dL c1,(4,dO pd),(0,EY.row kC),(2,.ord [0,3,4,5,6,7,10,1,2,8,9,11]),(7,.call (oO n l3) [(0,0)] []),(1,.call (oO n wz) [(0,0)] [])];ie h (λc2 h=>be h λzI Ny h=>cI (ayF aS n h) zB [bt c2,(1,.call (oO n Ny) [(0,0)] [])]) λc2 h=>cI (ayF aS n h) zB [bt c2]) λdt h=>ra (qj h) [bb dt]
def C6 (jO:Wf32):Nat->Int->aL->ag->cG->Option (cG×aL)
 |0=>λ_ _ _ _=>none
 |n+1=>Yf jO (C6 jO n) n
def axo {jO} (qj:Y3 jO):∀n:Nat,AY (C6 jO n)
 |0=>λ_ _ _ _ _ h=>nz h
 |n+1=>aMe qj (axo qj n) n
def MA (n:Nat) (b0:aL) (fp:cG):Option (cG×aL):=
 some (fp,b0)
def aMd (n:Nat):Y3 (MA n):=λb0 fp r h=>rr h [(2,.jl 227 cT)]
def anx (n:Nat) (c0:aL) (s1:ag) (Xg:Int):Option (cG×aL):=
 (rq n c0 (bl (Xg+1))).bind λx7=>C6 (MA n) n x7.1 x7.2 s1 []
def aMc (n:Nat):K3 (A39 []) aoq (anx n):=λc0 s1 Xg r h=>be h λx7 jv h=>ra (axo (aMd n) n h) [(6,.call (oO n jv) [(0,0)] []),(1,.born [7] [] 227 true 46 15)]
def F39:=anx
def ev39 (n:Nat):K3 (Cx E0 39 awE apk) aoq (F39 n):=λ_ _ _ _ h=>ca (X:=rW) (aMc n h)
def awJ (r:(ag×cG×fO×Int×aL)):AV:=.cS [.agg (dP r.1),.ms 200001 15 0 r.2.1.length,jK 200002 r.2.2.1.length,cg r.2.2.2.1]
def apo (r:(ag×cG×fO×Int×aL)):List (Nat×Bx):= [(0,o9 (fJ r.2.2.2.2)),(200001,Gd r.2.1),(200002,Ge r.2.2.1)]
def gP:=fx E0 Tryz.f12 [0]
def A12:=Ax gP awJ apo
def anI (n:Nat) (c0:aL):Option (ag×cG×fO×Int×aL):=
 (F38 n c0).bind λx6=>(F39 n x6.2 x6.1 5).bind λaji=>(F40 n x6.1 aji.1).bind λiG=>(rq n aji.2 (iG.1.length:Int)).bind λsM=>some (x6.1,aji.1,iG.1,sM.1,sM.2)
def aMK (n:Nat):K1 (A12 []) vF (anI n):=λc0 r h=>be h λx6 lC h=>be h λaji jC h=>be h λiG kg h=>be h λsM Bo h=>rr h [(5,.call (ev38 n lC) [(0,0)] []),(4,.call (ev39 n jC) [(0,0)] [(14,cT)]),(3,.call (auK n kg) [(14,1)] [(301800,cT)]),(11,.call (oO n Bo) [(0,0)] []),(4,.jl 14 200001),(0,.jl 301800 200002)]
def F12:=anI
def ev12 (n:Nat):K1 (Cx E0 12 awJ apo) vF (F12 n):=λ_ _ h=>ca (X:=gP) (aMK n h)
def awI (r:aL):AV:=.loc cT 0
def apn (r:aL):List (Nat×Bx):= [(cT,o9 (fJ r))]
def eh:=fx E0 Tryz.f13 []
def A13:=Ax eh awI apn
def aoC (qZ:aK) (Pq:Int):LS:=⟨[(0,.qK 5 1 qZ.length (yj qZ)),(1,.int .i64 Pq)],[]⟩
def anH (n:Nat) (qZ:aK) (Pq:Int):Option aL:=
 (cut qZ none (some (if Pq<(qZ.length:Int) then Pq else (qZ.length:Int)))).bind λx7=>(app [] x7).bind λx9=>some (aL.mk x9 0)
def aMJ (n:Nat):K2 (A13 []) aoC (anH n):=λqZ Pq r h=>be h λx7 jv h=>be h λx9 iO h=>rr h [(6,R5.cut jv),(0,.born [] [] 11 true 5 1),(0,R5.app (xs:= []) iO),(3,.jl 13 cT),(0,R5.fX 11 x9),(0,.pZ cT (.flat 0 [.sl 2 0 0 0 []]))]
def F13:=anH
def ev13 (n:Nat):K2 (Cx E0 13 awI apn) aoC (F13 n):=λ_ _ _ h=>ca (X:=eh) (aMJ n h)
def awC (r:(cE×aL)):AV:=.ms cT 3 0 r.1.length
def api (r:(cE×aL)):List (Nat×Bx):= [(0,o9 (fJ r.2)),(cT,IB r.1)]
def x49:=fx E0 Tryz.f49 [0]
def A49:=Ax x49 awC api
def aDI (jL dC k11:Int) (t12:aK) (t13 t14:Int) (t41:Bool) (b0:aL) (b9:cE):LS:=⟨[(0,.loc 0 0),(2,.int .i64 jL),(3,.int .i64 dC),(9,.ms 9 3 0 b9.length),(11,.int .i64 k11),(12,.slice 3 1 t12.length (eo t12)),(13,.int .i64 t13),(14,.int .i64 t14),(41,.bool t41)],[(0,o9 (fJ b0)),(9,IB b9)]⟩
def aon (jL dC:Int) (t12:aK) (t13 t14:Int) (b0:aL) (b9:cE):LS:=⟨[(0,.loc 0 0),(2,.int .i64 jL),(3,.int .i64 dC),(9,.ms 9 3 0 b9.length),(12,.slice 3 1 t12.length (eo t12)),(13,.int .i64 t13),(14,.int .i64 t14)],[(0,o9 (fJ b0)),(9,IB b9)]⟩
def aDH (b0:aL) (b9:cE):LS:=⟨[(9,.ms 9 3 0 b9.length)],[(0,o9 (fJ b0)),(9,IB b9)]⟩
def aom (c0:aL) (Et:aK) (jL dC:Int):LS:=⟨[(0,.loc 0 0),(1,.slice 3 1 Et.length (eo Et)),(2,.int .i64 jL),(3,.int .i64 dC)],(rA (fJ c0))⟩
def Da (aN:avx) (n:Nat) (jL dC k11:Int) (t12:aK) (t13 t14:Int) (t41:Bool) (b0:aL) (b9:cE):Option (cE×aL):=
 if t41 then
 (app b9 [(aR.mk 1 0 ByteArray.empty)]).bind λx4=>aN jL dC t12 t13 t14 b0 x4
 else
 (F93 n b0 k11).bind λx4=>(app b9 [x4.1]).bind λx7=>aN jL dC t12 t13 t14 x4.2 x7
def aoE:=K7 (A49 (cF 971)) aon
def Qf {aN} (bn:aoE aN) (n:Nat):K9 (A49 (cF 62667)) aDI (Da aN n):=λjL dC k11 t12 t13 t14 t41 b0 b9 r h=>ie h (λdt bI=>by subst dt;exact (be bI λx4 jm bI=>ra (bn bI) [(3,p8.kE jm)])) λdt bI=>by subst dt;exact (be bI λx4 jm bI=>be bI λx7 jv bI=>ra (bn bI) [(3,.call (NJ n jm) [(0,0)] []),(1,p8.kE jv)])
def yw (bw:avx) (n:Nat) (jL dC:Int) (t12:aK) (t13 t14:Int) (b0:aL) (b9:cE):Option (cE×aL):=
 bw jL dC t12 t13 (bl (t14+1)) b0 b9
def OI:=K7 (A49 [0,1,0,1,1]) aon
def LQ {bw} (cM:OI bw) (n:Nat):aoE (yw bw n):=λjL dC t12 t13 t14 b0 b9 r h=>ra (cM h) []
def X2 (bD:aL->cE->Option (cE×aL)) (back:avx) (n:Nat) (jL dC:Int) (t12:aK) (t13 t14:Int) (b0:aL) (b9:cE):Option (cE×aL):=
 if decide (t14<t13) then
 (idx t12 t14).bind λx3=>if !decide (t14<jL) then
 if dC !=1 then
 (C9 n b0 5).bind λiG=>if iG.1 then
 (app b9 [(aR.mk 2 0 ByteArray.empty)]).bind λCc=>yw back n jL dC t12 t13 t14 iG.2 Cc
 else
 if dC==3 then
 (C9 n iG.2 5).bind λsM=>Da (yw back n) n jL dC x3 t12 t13 t14 sM.1 sM.2 b9
 else
 Da (yw back n) n jL dC x3 t12 t13 t14 false iG.2 b9
 else
 if dC==3 then
 (C9 n b0 5).bind λx27=>Da (yw back n) n jL dC x3 t12 t13 t14 x27.1 x27.2 b9
 else
 Da (yw back n) n jL dC x3 t12 t13 t14 false b0 b9
 else
 Da (yw back n) n jL dC x3 t12 t13 t14 false b0 b9
 else
 bD b0 b9
def Y2:=K2 (A49 [1,1,1]) aDH
def aLE {bD} (cU:Y2 bD) {back} (aS:OI back) (n:Nat):OI (X2 bD back n):=λjL dC t12 t13 t14 b0 b9 r h=>ie h (λdt h=>be h λx3 eY h=>let zA:SE:=[aI dt,(1,R3.idx eY)];ie h (λc1 h=>let zB:SE:=dU zA [cq c1];ie h (λc2 h=>be h λiG kg h=>ie h (λc3 h=>be h λCc NB h=>cI (LQ aS n h) zB [ba c2,(3,.call (cb (qY n kg) c3) [(0,0)] []),(5,p8.kE NB)]) λc3 h=>let zC:SE:=dU zB [ba c2,(3,.call (cb (qY n kg) c3) [(0,0)] []),bt c1];ie h (λc4 h=>be h λsM Bo h=>cI (Qf (LQ aS n) n h) zC [ba c4,(3,.call (qY n Bo) [(0,0)] [])]) λc4 h=>cI (Qf (LQ aS n) n h) zC [ba c4]) λc2 h=>ie h (λc3 h=>be h λx27 atZ h=>cI (Qf (LQ aS n) n h) zB [ba c2,dL c1,ba c3,(3,.call (qY n atZ) [(0,0)] [])]) λc3 h=>cI (Qf (LQ aS n) n h) zB [ba c2,dL c1,ba c3]) λc1 h=>cI (Qf (LQ aS n) n h) zA [cq c1,jS c1]) λdt h=>ra (cU h) [aI dt]
def C5 (bD:aL->cE->Option (cE×aL)):Nat->Int->Int->aK->Int->Int->aL->cE->Option (cE×aL)
 |0=>λ_ _ _ _ _ _ _=>none
 |n+1=>X2 bD (C5 bD n) n
def axf {bD} (cU:Y2 bD):∀n:Nat,OI (C5 bD n)
 |0=>λ_ _ _ _ _ _ _ _ h=>nz h
 |n+1=>aLE cU (axf cU n) n
def Mx (n:Nat) (b0:aL) (b9:cE):Option (cE×aL):=
 some (b9,b0)
def aLD (n:Nat):Y2 (Mx n):=λb0 b9 r h=>rr h [(2,.jl 9 cT)]
def ayS (n:Nat) (c0:aL) (Et:aK) (jL dC:Int):Option (cE×aL):=
 C5 (Mx n) n jL dC Et (Et.length:Int) 0 c0 []
def aLC (n:Nat):K4 (A49 []) aom (ayS n):=λc0 Et jL dC r h=>ra (axf (aLD n) n h) [(5,.born [9] [] 9 true 38 3)]
def F49:=ayS
def ev49 (n:Nat):K4 (Cx E0 49 awC api) aom (F49 n):=λ_ _ _ _ _ h=>ca (X:=x49) (aLC n h)
def ql:=fx E0 Tryz.f69 []
def A69:=Ax ql ed bQ
def OC (a0 b1:aR):LS:=⟨[(0,.agg (lN a0)),(1,.agg (lN b1))],[]⟩
def anh (n:Nat) (a0 b1:aR):Option Int:=
 if decide (a0.ax<b1.ax) then
 some (-1)
 else
 if decide (b1.ax<a0.ax) then
 some 1
 else
 if decide (a0.bX<b1.bX) then
 some (-1)
 else
 if decide (b1.bX<a0.bX) then
 some 1
 else
 if Op.bytesLess a0.bB.toList b1.bB.toList then
 some (-1)
 else
 if !(Op.bytesLess a0.bB.toList b1.bB.toList||a0.bB.toList==b1.bB.toList) then
 some 1
 else
 some 0
def aLe (n:Nat):K2 (A69 []) OC (anh n):=λa0 b1 r h=>ie h (λc0 h=>rr h [jS c0]) λc0 h=>ie h (λc1 h=>rr h [jS c0,cq c1]) λc1 h=>let zA:SE:=[jS c0,cq c1];ie h (λc2 h=>bH h zA [cq c2]) λc2 h=>let zB:SE:=dU zA [cq c2];ie h (λc3 h=>bH h zB [cq c3]) λc3 h=>ie h (λc4 h=>bH h zB [cq c3,cq c4]) λc4 h=>ie h (λc5 h=>bH h zB [cq c3,cq c4,cq c5]) λc5 h=>bH h zB [cq c3,cq c4,cq c5]
def F69:=anh
def ev69 (n:Nat):K2 (Cx E0 69 ed bQ) OC (F69 n):=λ_ _ _ h=>ca (X:=ql) (aLe n h)
def x27:=fx E0 Tryz.f27 []
def A27:=Ax x27 ed bQ
def aEg (a0 b1:cE) (i5:Int):LS:=⟨[(0,.slice 38 3 a0.length (fG a0)),(1,.slice 38 3 b1.length (fG b1)),(5,.int .i64 i5)],[]⟩
def Ii (a0 b1:cE):LS:=⟨[(0,.slice 38 3 a0.length (fG a0)),(1,.slice 38 3 b1.length (fG b1))],[]⟩
def Yg (aN:amj) (back:cE->cE->Int->Option Int) (n:Nat) (a0 b1:cE) (i5:Int):Option Int:=
 if decide (i5<(a0.length:Int)) then
 if decide (i5<(b1.length:Int)) then
 (idx a0 i5).bind λeh=>(idx b1 i5).bind λlh=>(F69 n eh lh).bind λpG=>if pG !=0 then
 some pG
 else
 back a0 b1 (bl (i5+1))
 else
 aN a0 b1
 else
 aN a0 b1
def Y1:=K2 (A27 [1,1]) Ii
def Y0:=K3 (A27 [0,1,0,1]) aEg
def aMi {aN} (bn:Y1 aN) {back} (aS:Y0 back) (n:Nat):Y0 (Yg aN back n):=λa0 b1 i5 r h=>ie h (λc0 h=>ie h (λc1 h=>be h λeh iz h=>be h λlh pd h=>be h λpG xT h=>let zA:SE:=[bj c0,bt c1,(3,p8.idx iz),(3,p8.idx pd),CA (ev69 n xT)];ie h (λc2 h=>bH h zA [ba c2]) λc2 h=>cI (aS h) zA [ba c2]) λc1 h=>ra (bn h) [bj c0,bt c1]) λc0 h=>ra (bn h) [bj c0]
def Me (aN:amj):Nat->cE->cE->Int->Option Int
 |0=>λ_ _ _=>none
 |n+1=>Yg aN (Me aN n) n
def axp {aN} (bn:Y1 aN):∀n:Nat,Y0 (Me aN n)
 |0=>λ_ _ _ _ h=>nz h
 |n+1=>aMi bn (axp bn n) n
def QJ (n:Nat) (a0 b1:cE):Option Int:=
 if decide ((a0.length:Int)<(b1.length:Int)) then
 some (-1)
 else
 if decide ((b1.length:Int)<(a0.length:Int)) then
 some 1
 else
 some 0
def aMh (n:Nat):Y1 (QJ n):=λa0 b1 r h=>ie h (λc0 h=>rr h [bt c0]) λc0 h=>ie h (λc1 h=>rr h [bt c0,cq c1]) λc1 h=>rr h [bt c0,cq c1]
def ayV (n:Nat) (a0 b1:cE):Option Int:=
 Me (QJ n) n a0 b1 0
def aMg (n:Nat):K2 (A27 []) Ii (ayV n):=λa0 b1 r h=>ra (axp (aMh n) n h) []
def F27:=ayV
def ev27 (n:Nat):K2 (Cx E0 27 ed bQ) Ii (F27 n):=λ_ _ _ h=>ca (X:=x27) (aMg n h)
def Ec (r:cE):AV:=.ms cT 3 0 r.length
def AF (r:cE):List (Nat×Bx):= [(cT,IB r)]
def x104:=fx E0 Tryz.f104 []
def A104:=Ax x104 Ec AF
def ahc (r0:cE):LS:=⟨[(0,.slice 38 3 r0.length (fG r0))],[]⟩
def afd (n:Nat) (r0:cE):Option cE:=
 (app [] r0).bind λx3=>some x3
def aIy (n:Nat):K1 (A104 []) ahc (afd n):=λr0 r h=>be h λx3 eY h=>rr h [(2,.born [] [] 4 true 38 3),(0,p8.app (xs:= []) eY),(1,.jl 4 cT)]
def VH:=afd
def alj (n:Nat):K1 (Cx E0 104 Ec AF) ahc (VH n):=λ_ _ h=>ca (X:=x104) (aIy n h)
def x52:=fx E0 Tryz.f52 []
def A52:=Ax x52 Ec AF
def OE (s0:ag) (dh:Int) (ky:cE):LS:=⟨[(0,.agg (dP s0)),(1,.int .i64 dh),(2,.slice 38 3 ky.length (fG ky))],[]⟩
def anp (n:Nat) (s0:ag) (dh:Int) (ky:cE):Option cE:=
 if decide (dh<0) then
 some []
 else
 if !decide (dh<(s0.ai.length:Int)) then
 some []
 else
 (idx s0.ai dh).bind λfg=>(cut ky none (some (if 0<(if (ky.length:Int)<fg.ay then (ky.length:Int) else fg.ay) then (if (ky.length:Int)<fg.ay then (ky.length:Int) else fg.ay) else 0))).bind λCc=>(VH n Cc).bind λsO=>some sO
def aLv (n:Nat):K3 (A52 []) OE (anp n):=λs0 dh ky r h=>ie h (λc0 h=>rr h [bj c0,(3,.born [6] [] cT true 38 3)]) λc0 h=>ie h (λc1 h=>rr h [bj c0,cq c1,(2,.born [6] [] cT true 38 3)]) λc1 h=>be h λfg iM h=>be h λCc NB h=>be h λsO xS h=>rr h [bj c0,cq c1,(5,bW.idx iM),(6,p8.cut NB),(0,.call (alj n xS) [] [(28,cT)]),(1,.jl 28 cT)]
def F52:=anp
def ev52 (n:Nat):K3 (Cx E0 52 Ec AF) OE (F52 n):=λ_ _ _ _ h=>ca (X:=x52) (aLv n h)
def awB (r:(aW×ey)):AV:=.agg [qb jR r.2.length]
def apg (r:(aW×ey)):List (Nat×Bx):= [(jR,Iz r.2)]
def H3:=fx E0 Tryz.f51 [jR]
def A51:=Ax H3 awB apg
def aDE (gR:Int) (qg lV:cE) (mE:Bool) (r14:cE) (c15:Int) (t23:bS) (t24 t25:Int) (eK:ey) (b5:ag) (b6 hJ:aW) (eE:bS):LS:=⟨[(2,.int .i64 gR),(3,.slice 38 3 qg.length (fG qg)),(4,.slice 38 3 lV.length (fG lV)),(5,.loc 5 0),(6,.loc 6 0),(10,.loc 10 0),(11,.ms 45 1 0 eE.length),(12,.bool mE),(14,.slice 38 3 r14.length (fG r14)),(15,.int .i64 c15),(23,.slice 70 1 t23.length (nV t23)),(24,.int .i64 t24),(25,.int .i64 t25)],[(5,jt (dP b5)),(6,.flat 51 [qb jR eK.length]),(10,Dj),(45,xL eE),(jR,Iz eK)]⟩
def aDD (gR:Int) (qg lV:cE) (mE:Bool) (t23:bS) (t24 t25:Int) (eK:ey) (b5:ag) (b6 hJ:aW) (eE:bS):LS:=⟨[(2,.int .i64 gR),(3,.slice 38 3 qg.length (fG qg)),(4,.slice 38 3 lV.length (fG lV)),(5,.loc 5 0),(6,.loc 6 0),(10,.loc 10 0),(11,.ms 45 1 0 eE.length),(12,.bool mE),(23,.slice 70 1 t23.length (nV t23)),(24,.int .i64 t24),(25,.int .i64 t25)],[(5,jt (dP b5)),(6,.flat 51 [qb jR eK.length]),(10,Dj),(45,xL eE),(jR,Iz eK)]⟩
def aDC (gR:Int) (eK:ey) (b6 hJ:aW) (eE:bS):LS:=⟨[(2,cg gR),(6,.loc 6 0),(10,.loc 10 0),(11,.ms 45 1 0 eE.length)],[(6,.flat 51 [qb jR eK.length]),(10,Dj),(45,xL eE),(jR,Iz eK)]⟩
def aDB (gR:Int) (lV:cE) (mE:Bool) (eK:ey) (b6 hJ:aW) (eE:bS):LS:=⟨[(2,.int .i64 gR),(4,.slice 38 3 lV.length (fG lV)),(6,.loc 6 0),(10,.loc 10 0),(11,.ms 45 1 0 eE.length),(12,.bool mE)],[(6,.flat 51 [qb jR eK.length]),(10,Dj),(45,xL eE),(jR,Iz eK)]⟩
def aol (s0:ag) (st1:aW) (gR:Int) (qg lV:cE):LS:=⟨[(0,.agg (dP s0)),(1,.agg [qb jR st1.ai.length]),(2,.int .i64 gR),(3,.slice 38 3 qg.length (fG qg)),(4,.slice 38 3 lV.length (fG lV))],[(jR,.rows false 68 1 (wg st1.ai))]⟩
def Mw (aN:Wf35) (n:Nat) (gR:Int) (qg lV:cE) (mE:Bool) (r14:cE) (c15:Int) (t23:bS) (t24 t25:Int) (eK:ey) (b5:ag) (b6 hJ:aW) (eE:bS):Option (aW×ey):=
 if c15 !=0 then
 (app eE [r14]).bind λx6=>aN gR qg lV mE t23 t24 (bl (t25+1)) eK b5 (aW.mk eK) (aW.mk []) x6
 else
 aN gR qg lV mE t23 t24 (bl (t25+1)) eK b5 (aW.mk eK) (aW.mk []) eE
def OH:=K12 (A51 (cF 87)) aDD
def alP {aN} (bn:OH aN) (n:Nat):K14 (A51 (cF 31127)) aDE (Mw aN n):=λgR qg lV mE r14 c15 t23 t24 t25 eK b5 b6 hJ eE r h=>ie h (λc0 h=>be h λx6 lC h=>ra (bn h) [bb c0,(3,o8.kE lC)]) λc0 h=>ra (bn h) [bb c0]
def XZ (bD:Wf36) (back:Wf35) (n:Nat) (gR:Int) (qg lV:cE) (mE:Bool) (t23:bS) (t24 t25:Int) (eK:ey) (b5:ag) (b6 hJ:aW) (eE:bS):Option (aW×ey):=
 if decide (t25<t24) then
 (idx t23 t25).bind λx2=>(F52 n b5 gR x2).bind λx9=>(F27 n x9 qg).bind λgP=>if !decide (gP<0) then
 if !mE then
 (VH n lV).bind λiF=>(app eE [iF]).bind λsO=>Mw back n gR qg lV true x2 gP t23 t24 t25 eK b5 (aW.mk eK) (aW.mk []) sO
 else
 Mw back n gR qg lV mE x2 gP t23 t24 t25 eK b5 (aW.mk eK) (aW.mk []) eE
 else
 Mw back n gR qg lV mE x2 gP t23 t24 t25 eK b5 (aW.mk eK) (aW.mk []) eE
 else
 bD gR lV mE eK (aW.mk eK) (aW.mk []) eE
def YZ:=K7 (A51 [1,1,1,1]) aDB
def aLy {bD} (cU:YZ bD) {back} (aS:OH back) (n:Nat):OH (XZ bD back n):=λgR qg lV mE t23 t24 t25 eK b5 b6 hJ eE r h=>ie h (λc0 h=>be h λx2 cX h=>be h λx9 iO h=>be h λgP jC h=>let zA:SE:=[aI c0,(0,o8.idx cX),(5,.call (ev52 n iO) [] [(32,cT)]),(1,p8.fX 32 x9),oZ (ev27 n jC)];ie h (λc1 h=>ie h (λc2 h=>be h λiF tv h=>be h λsO xS h=>cI (alP aS n h) zA [ba c1,ba c2,(3,.call (alj n tv) [] [(43,cT)]),(0,p8.fX 43 iF),(0,.zJ 43 (.sl 0 0 0 0 [])),(1,o8.kE xS)]) λc2 h=>cI (alP aS n h) zA [ba c1,ba c2]) λc1 h=>cI (alP aS n h) zA [ba c1]) λc0 h=>ra (cU h) [aI c0]
def Hb (bD:Wf36):Nat->Int->cE->cE->Bool->bS->Int->Int->ey->ag->aW->aW->bS->Option (aW×ey)
 |0=>λ_ _ _ _ _ _ _ _ _ _ _ _=>none
 |n+1=>XZ bD (Hb bD n) n
def axd {bD} (cU:YZ bD):∀n:Nat,OH (Hb bD n)
 |0=>λ_ _ _ _ _ _ _ _ _ _ _ _ _ h=>nz h
 |n+1=>aLy cU (axd cU n) n
def XY (n:Nat) (gR:Int) (eK:ey) (b6 hJ:aW) (eE:bS):Option (aW×ey):=
 (eZ eK.length gR).bind λx5=>(eK[0+x5]?).bind λx7=>(setAt eK (0+x5) eE).bind λz8=>some ((aW.mk z8),z8)
def ayD (n:Nat):K5 (A51 [1,1,1,1,1]) aDC (XY n):=λgR eK b6 hJ eE r h=>be h λx5 kR h=>be h λx7 jv h=>be h λz8 hz8 h=>rr h [(4,dO kR),(0,o8.fX 45 eE),(0,.zJ 63 (.sl 0 0 0 0 [])),(0,C3.uE 0 [.slice 70 1 eE.length (nV eE)] jv hz8 (by kernel_rfl)),(2,.beq 10 (bM (λn_=>(Bx.flat 51 [qb jR n_])) (ew hz8)))]
def QC (n:Nat) (gR:Int) (lV:cE) (mE:Bool) (eK:ey) (b6 hJ:aW) (eE:bS):Option (aW×ey):=
 if !mE then
 (VH n lV).bind λx5=>(app eE [x5]).bind λx8=>XY n gR eK (aW.mk eK) (aW.mk []) x8
 else
 XY n gR eK (aW.mk eK) (aW.mk []) eE
def aLx (n:Nat):YZ (QC n):=λgR lV mE eK b6 hJ eE r h=>ie h (λc0 h=>be h λx5 kR h=>be h λx8 oH h=>ra (ayD n h) [bb c0,(2,.call (alj n kR) [] [(57,cT)]),(0,p8.fX 57 x5),(0,.zJ 57 (.sl 0 0 0 0 [])),(1,o8.kE oH)]) λc0 h=>ra (ayD n h) [bb c0]
def anq (n:Nat) (s0:ag) (st1:aW) (gR:Int) (qg lV:cE):Option (aW×ey):=
 (eZ st1.ai.length gR).bind λgP=>(st1.ai[0+gP]?).bind λig=>Hb (QC n) n gR qg lV ((lV.length:Int)==0) ig (ig.length:Int) 0 st1.ai s0 st1 (aW.mk []) []
def aLw (n:Nat):K5 (A51 []) aol (anq n):=λs0 st1 gR qg lV r h=>be h λgP jC h=>be h λig j2 h=>ra (axd (aLx n) n h) [(11,dO jC),(0,C3.row j2),(2,.born [11] [] 45 true 70 1)]
def F51:=anq
def ev51 (n:Nat):K5 (Cx E0 51 awB apg) aol (F51 n):=λ_ _ _ _ _ _ h=>ca (X:=H3) (aLw n h)
def awH (r:(aW×aL)):AV:=.agg (ud r.1)
def apm (r:(aW×aL)):List (Nat×Bx):= (rA (fJ r.2))
def jj:=fx E0 Tryz.f19 [0]
def A19:=Ax jj awH apm
def aEm (oe t8 n9 t18 t19:Int) (b0:aL) (b4:ag) (b6 b7:aW) (rf:ey):LS:=⟨[(0,.loc 0 0),(2,cg oe),(4,.loc 4 0),(6,.loc 6 0),(7,.loc 7 0),(8,cg t8),(9,cg n9),(18,cg t18),(19,cg t19)],[(0,o9 (fJ b0)),(4,jt (dP b4)),(6,Dj),(7,.flat 51 [.ms 14 1 0 rf.length]),(14,Iz rf)]⟩
def aoz (oe t18 t19:Int) (b0:aL) (b4:ag) (b6 b7:aW) (rf:ey):LS:=⟨[(0,.loc 0 0),(2,cg oe),(4,.loc 4 0),(6,.loc 6 0),(7,.loc 7 0),(18,cg t18),(19,cg t19)],[(0,o9 (fJ b0)),(4,jt (dP b4)),(6,Dj),(7,.flat 51 [.ms 14 1 0 rf.length]),(14,Iz rf)]⟩
def aEl (b0:aL) (b6 b7:aW) (rf:ey):LS:=⟨[(6,.loc 6 0),(7,.loc 7 0)],[(0,o9 (fJ b0)),(6,Dj),(7,.flat 51 [.ms 14 1 0 rf.length]),(14,Iz rf)]⟩
def aoy (c0:aL) (s1:ag) (oe:Int):LS:=⟨[(0,.loc 0 0),(1,.agg (dP s1)),(2,cg oe)],(rA (fJ c0))⟩
def Yo (aN:ami) (back:Int->Int->Int->Int->Int->aL->ag->aW->aW->ey->Option (aW×aL)) (n:Nat) (oe t8 n9 t18 t19:Int) (b0:aL) (b4:ag) (b6 b7:aW) (rf:ey):Option (aW×aL):=
 if decide (0<n9) then
 (F50 n b4 t8).bind λx6=>(idx b4.ai t8).bind λdA=>(F49 n b0 x6 dA.ay oe).bind λfg=>(F52 n b4 t8 fg.1).bind λgC=>(F51 n b4 (aW.mk rf) t8 gC fg.1).bind λnv=>back oe t8 (bl (n9 - 1)) t18 t19 fg.2 b4 (aW.mk []) (aW.mk nv.2) nv.2
 else
 aN oe t18 t19 b0 b4 (aW.mk []) (aW.mk rf) rf
def YY:=K8 (A19 (cF 971)) aoz
def UA:=K10 (A19 (cF 11467)) aEm
def aMx {aN} (bn:YY aN) {back} (aS:UA back) (n:Nat):UA (Yo aN back n):=λoe t8 n9 t18 t19 b0 b4 b6 b7 rf r h=>ie h (λdt h=>be h λx6 lC h=>be h λdA gn h=>be h λfg iM h=>be h λgC l3 h=>be h λnv sL h=>ra (aS h) [bb dt,(0,.ord [0,1,2,4,5,6,7,8,9,10,3,11,12]),(6,bW.idx gn),(3,zM (cd (e:=3) (z:=true) (Q:=eo x6) (auJ n lC) (R3.len x6))),(0,.call (ev49 n iM) [(0,0)] [(39,cT)]),(1,p8.fX 39 fg.1),(0,.ord [0,1,2,3,4,5,7,6,8,9]),(7,zM (cd (e:=38) (z:=true) (Q:=fG gC) (ev52 n l3) (p8.len gC))),(0,.call (ev51 n sL) [(14,jR)] [])]) λdt h=>ra (bn h) [bb dt]
def Mh (aN:ami):Nat->Int->Int->Int->Int->Int->aL->ag->aW->aW->ey->Option (aW×aL)
 |0=>λ_ _ _ _ _ _ _ _ _ _=>none
 |n+1=>Yo aN (Mh aN n) n
def axv {aN} (bn:YY aN):∀n:Nat,UA (Mh aN n)
 |0=>λ_ _ _ _ _ _ _ _ _ _ _ h=>nz h
 |n+1=>aMx bn (axv bn n) n
def Yn (bw:ami) (n:Nat) (oe t18 t19:Int) (b0:aL) (b4:ag) (b6 b7:aW) (rf:ey):Option (aW×aL):=
 bw oe t18 (bl (t19+1)) b0 b4 (aW.mk []) (aW.mk rf) rf
def Ld:=K8 (A19 [0,1,0,1,1]) aoz
def aMw {bw} (cM:Ld bw) (n:Nat):YY (Yn bw n):=λoe t18 t19 b0 b4 b6 b7 rf r h=>ra (cM h) []
def Ym (bD:Wf38) (back:ami) (n:Nat) (oe t18 t19:Int) (b0:aL) (b4:ag) (b6 b7:aW) (rf:ey):Option (aW×aL):=
 if decide (t19<t18) then
 (rq n b0 5).bind λx5=>Mh (Yn back n) n oe t19 x5.1 t18 t19 x5.2 b4 (aW.mk []) (aW.mk rf) rf
 else
 bD b0 (aW.mk []) (aW.mk rf) rf
def Uz:=K4 (A19 [1,1,1]) aEl
def aMv {bD} (cU:Uz bD) {back} (aS:Ld back) (n:Nat):Ld (Ym bD back n):=λoe t18 t19 b0 b4 b6 b7 rf r h=>ie h (λdt h=>be h λx5 kR h=>ra (axv (aMw aS n) n h) [aI dt,(3,.call (oO n kR) [(0,0)] [])]) λdt h=>ra (cU h) [aI dt]
def Hh (bD:Wf38):Nat->Int->Int->Int->aL->ag->aW->aW->ey->Option (aW×aL)
 |0=>λ_ _ _ _ _ _ _ _=>none
 |n+1=>Ym bD (Hh bD n) n
def axu {bD} (cU:Uz bD):∀n:Nat,Ld (Hh bD n)
 |0=>λ_ _ _ _ _ _ _ _ _ h=>nz h
 |n+1=>aMv cU (axu cU n) n
def QT (n:Nat) (b0:aL) (b6 b7:aW) (rf:ey):Option (aW×aL):=
 some ((aW.mk rf),b0)
def aMu (n:Nat):Uz (QT n):=λb0 b6 b7 rf r h=>rr h [(2,C3.fX 14 rf)]
def anD (n:Nat) (c0:aL) (s1:ag) (oe:Int):Option (aW×aL):=
 (rz (s1.ai.length:Int) ([]:bS)).bind λx6=>Hh (QT n) n oe (s1.ai.length:Int) 0 c0 s1 (aW.mk []) (aW.mk x6) x6
def aMt (n:Nat):K3 (A19 []) aoy (anD n):=λc0 s1 oe r h=>be h λx6 lC h=>ra (axu (aMu n) n h) [(5,C3.made lC),(0,.seq 14 (bM (AV.ms 14 1 0) ((Nd lC))))]
def F19:=anD
def ev19 (n:Nat):K3 (Cx E0 19 awH apm) aoy (F19 n):=λ_ _ _ _ h=>ca (X:=jj) (aMt n h)
end Go.Proofs.YtbnkhmoelnfjoaaGreat
end
