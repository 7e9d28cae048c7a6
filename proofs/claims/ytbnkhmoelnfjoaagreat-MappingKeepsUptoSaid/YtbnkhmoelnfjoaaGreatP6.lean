/- Part. -/
import Derived.Test.YtbnkhmoelnfjoaaGreatP5
import Derived.Test.YtbnkhmoelnfjoaaGreatP4
import Derived.KernelRfl
set_option linter.all false
set_option maxRecDepth 100000
noncomputable section
namespace Go.Proofs.YtbnkhmoelnfjoaaGreat
open Go.RowKit Go.bX
def Lu {E:Env} (hP:E.P=Tryz.prog) (hT:E.ty=tyT) (h:E.wh= [(182,146),(184,147),(185,88),(165,1048576),(219,1048577)]):∀k c,wu k E.wh=some c->Au E k c:=λk c hc=>by
 rw[h] at hc;have hc:aQ (Nat.beq 182 k) (some 146) (wu k _)=some c:=hc;rw[bH] at hc;split at hc
 ·rename_i e;obtain rfl:=(beq_iff _ _).1 e;cases hc;exact ⟨λh=>absurd h (by decide),λ_ ie hie=>⟨λ_=>by rw[hT] at hie;rw[hP,show ie.size=2 from by rw[show ie=_ from (kV (hie.symm.trans (show tyT.get 73=some _ from rfl)))];kernel_rfl];exact avz,λh=>absurd rfl h⟩⟩
 have hc:aQ (Nat.beq 184 k) (some 147) (wu k _)=some c:=hc;rw[bH] at hc;split at hc
 ·rename_i e;obtain rfl:=(beq_iff _ _).1 e;cases hc;exact ⟨λh=>absurd h (by decide),λ_ ie hie=>⟨λh=>absurd h (by decide),λ_=>by rw[hT] at hie;rw[hP,show ie.size=2 from by rw[show ie=_ from (kV (hie.symm.trans (show tyT.get 73=some _ from rfl)))];kernel_rfl];exact aug⟩⟩
 have hc:aQ (Nat.beq 185 k) (some 88) (wu k _)=some c:=hc;rw[bH] at hc;split at hc
 ·rename_i e;obtain rfl:=(beq_iff _ _).1 e;cases hc;exact ⟨λh=>absurd h (by decide),λ_ ie hie=>⟨λ_=>by rw[hT] at hie;rw[hP,show ie.size=5 from by rw[show ie=_ from (kV (hie.symm.trans (show tyT.get 44=some _ from rfl)))];kernel_rfl];exact avy,λh=>absurd rfl h⟩⟩
 have hc:aQ (Nat.beq 165 k) (some 1048576) (wu k _)=some c:=hc;rw[bH] at hc;split at hc
 ·rename_i e;obtain rfl:=(beq_iff _ _).1 e;cases hc;exact ⟨λ_=>by rw[hP];exact aoW,λh=>absurd h (by decide)⟩
 have hc:aQ (Nat.beq 219 k) (some 1048577) none=some c:=hc;rw[bH] at hc;split at hc
 ·rename_i e;obtain rfl:=(beq_iff _ _).1 e;cases hc;exact ⟨λ_=>by rw[hP];exact acz,λh=>absurd h (by decide)⟩
 cases hc
def arw {lt eq:List (SI×SI×Bool)} {done:List (Nat×SV)} {join:List Nat} {wh:List (Nat×Nat)} {Du stop:List Nat} {g:Gh} (h:dW ⟨Tryz.prog,tyT,Vv,lt,eq,done,join,wh,Du,stop⟩ g):dW ⟨Tryz.prog,tyT,fnT,lt,eq,done,join,wh,Du,stop⟩ g:=
 ⟨h.ty,λf x hx=>h.fn f x (aip f x hx),h.lt,h.eq,h.mix,h.sz⟩
def amc:J7 Tryz.prog 17 (.bool true):=
 avx (E:=env [] [(182,146),(184,147),(185,88),(165,1048576),(219,1048577)] [] [] [] [] []) (OK.envS (λk v h=>by cases h) aip (Lu (E:=env [] [(182,146),(184,147),(185,88),(165,1048576),(219,1048577)] [] [] [] [] []) rfl rfl rfl)) (arw (OK.ayO (λa b r h=>by cases h) (λa b r h=>by cases h))) runB (by kernel_rfl) (λfn hf=>by
  cases hf;kernel_rfl)
end Go.Proofs.YtbnkhmoelnfjoaaGreat
namespace Go.Proofs.YtbnkhmoelnfjoaaGreat
open Go.bX
def E0:Env:=⟨Tryz.prog,tyT,Vv,[],[],[],[],[],[],[]⟩
instance:Hw E0:=⟨λk fn h=>have ⟨h1,h2,_⟩:=p7.get OK.fn k fn h;⟨h1,h2⟩⟩
def avq (x:Int):List AV:= [.int .i64 x]
def eo (xs:List Int):List (List AV):=xs.map avq
def ape (xs:List Int):eo xs=xs.map avq:=rfl
def R3:RowsK avq eo:=⟨ape⟩
def acq (x:Int):List AV:= [.int .u8 x]
def ym (xs:List Int):List (List AV):=xs.map acq
def Wo (xs:List Int):ym xs=xs.map acq:=rfl
def R5:RowsK acq ym:=⟨Wo⟩
def enc9 (x:ByteArray):List AV:= [.str x]
def Cq (xs:List ByteArray):List (List AV):=xs.map enc9
structure cG where
 av:ByteArray
 ay:Int
def GV (x:cG):List AV:= [.str x.av,.int .i64 x.ay]
def bG (xs:List cG):List (List AV):=xs.map GV
def ake (xs:List cG):bG xs=xs.map GV:=rfl
def eJ:RowsK GV bG:=⟨ake⟩
structure bk where
 ae:(List Int)
 aG:Int
def BO (x:bk):List AV:= [.slice 3 1 x.ae.length (eo x.ae),.int .i64 x.aG]
def aR (xs:List bk):List (List AV):=xs.map BO
def afU (xs:List bk):aR xs=xs.map BO:=rfl
def eQ:RowsK BO aR:=⟨afU⟩
structure aP where
 ay:Int
 bZ:Int
 bB:ByteArray
def lP (x:aP):List AV:= [.int .i64 x.ay,.int .i64 x.bZ,.str x.bB]
def fM (xs:List aP):List (List AV):=xs.map lP
def akk (xs:List aP):fM xs=xs.map lP:=rfl
def p8:RowsK lP fM:=⟨akk⟩
structure aT where
 ay:Int
 cQ:Int
 aD:aP
def pR (x:aT):List AV:= [.int .i64 x.ay,.int .i64 x.cQ,.int .i64 x.aD.ay,.int .i64 x.aD.bZ,.str x.aD.bB]
def Lr (xs:List aT):List (List AV):=xs.map pR
def afX (xs:List aT):Lr xs=xs.map pR:=rfl
def amE:RowsK pR Lr:=⟨afX⟩
structure ah where
 bh:Int
 eP:Int
 cq:aT
 bL:aT
 fArgs:(List ah)
mutual
def Vy:ah->List AV
 |⟨bh,eP,cq,bL,fArgs⟩=> [.int .i64 bh,.int .i64 eP,.int .i64 cq.ay,.int .i64 cq.cQ,.int .i64 cq.aD.ay,.int .i64 cq.aD.bZ,.str cq.aD.bB,.int .i64 bL.ay,.int .i64 bL.cQ,.int .i64 bL.aD.ay,.int .i64 bL.aD.bZ,.str bL.aD.bB,.slice 107 13 fArgs.length (aJ fArgs)]
def aJ:List ah->List (List AV)
 | []=> []
 |x::xs=>Vy x::aJ xs
end
def fp (x:ah):List AV:= [.int .i64 x.bh,.int .i64 x.eP,.int .i64 x.cq.ay,.int .i64 x.cq.cQ,.int .i64 x.cq.aD.ay,.int .i64 x.cq.aD.bZ,.str x.cq.aD.bB,.int .i64 x.bL.ay,.int .i64 x.bL.cQ,.int .i64 x.bL.aD.ay,.int .i64 x.bL.aD.bZ,.str x.bL.aD.bB,.slice 107 13 x.fArgs.length (aJ x.fArgs)]
def alG (x:ah):Vy x=fp x:=by cases x;simp[Vy,fp]
def afW (xs:List ah):aJ xs=xs.map fp:=by
 induction xs with
 |nil=>simp[aJ]
 |cons x xs ih=>simp[aJ,ih,alG]
def eD:RowsK fp aJ:=⟨afW⟩
structure aj where
 av:ByteArray
 ae:(List cG)
 aw:Int
 af:(List bk)
 ak:(List ah)
def im (x:aj):List AV:= [.str x.av,.slice 73 2 x.ae.length (bG x.ae),.int .i64 x.aw,.slice 121 2 x.af.length (aR x.af),.slice 107 13 x.ak.length (aJ x.ak)]
def cP (xs:List aj):List (List AV):=xs.map im
def aki (xs:List aj):cP xs=xs.map im:=rfl
def bW:RowsK im cP:=⟨aki⟩
structure ag where
 ax:Int
 ai:(List aj)
def dD (x:ag):List AV:= [.int .i64 x.ax,.slice 44 5 x.ai.length (cP x.ai)]
def Pb (xs:List ag):List (List AV):=xs.map dD
def akl (xs:List ag):Pb xs=xs.map dD:=rfl
def zV:RowsK dD Pb:=⟨akl⟩
structure jn where
 f0:aP
 f1:aP
def y6 (x:jn):List AV:= [.int .i64 x.f0.ay,.int .i64 x.f0.bZ,.str x.f0.bB,.int .i64 x.f1.ay,.int .i64 x.f1.bZ,.str x.f1.bB]
def cR (xs:List jn):List (List AV):=xs.map y6
def afV (xs:List jn):cR xs=xs.map y6:=rfl
def DI:RowsK y6 cR:=⟨afV⟩
def alJ (x:(List jn)):List AV:= [.slice 110 6 x.length (cR x)]
def IH (xs:List (List jn)):List (List AV):=xs.map alJ
def akj (xs:List (List jn)):IH xs=xs.map alJ:=rfl
def R39:RowsK alJ IH:=⟨akj⟩
structure aE where
 bh:Int
 aG:Int
 aN:Int
 eL:Int
 av:ByteArray
 ay:Int
 aD:aP
 bf:(List jn)
 ar:aj
def mz (x:aE):List AV:= [.int .i64 x.bh,.int .i64 x.aG,.int .i64 x.aN,.int .i64 x.eL,.str x.av,.int .i64 x.ay,.int .i64 x.aD.ay,.int .i64 x.aD.bZ,.str x.aD.bB,.slice 110 6 x.bf.length (cR x.bf),.str x.ar.av,.slice 73 2 x.ar.ae.length (bG x.ar.ae),.int .i64 x.ar.aw,.slice 121 2 x.ar.af.length (aR x.ar.af),.slice 107 13 x.ar.ak.length (aJ x.ar.ak)]
def lY (xs:List aE):List (List AV):=xs.map mz
def akh (xs:List aE):lY xs=xs.map mz:=rfl
def R45:RowsK mz lY:=⟨akh⟩
structure aM where
 oO:(List Int)
 zR:Int
def fK (x:aM):List AV:= [.qp 5 1 x.oO.length (ym x.oO),.int .i64 x.zR]
def alH (x:(List aP)):List AV:= [.slice 38 3 x.length (fM x)]
def oG (xs:List (List aP)):List (List AV):=xs.map alH
def akf (xs:List (List aP)):oG xs=xs.map alH:=rfl
def o9:RowsK alH oG:=⟨akf⟩
def alI (x:(List (List aP))):List AV:= [.slice 70 1 x.length (oG x)]
def wk (xs:List (List (List aP))):List (List AV):=xs.map alI
def akg (xs:List (List (List aP))):wk xs=xs.map alI:=rfl
def xp:RowsK alI wk:=⟨akg⟩
structure aW where
 ai:(List (List (List aP)))
def rK (x:aW):List AV:= [.slice 68 1 x.ai.length (wk x.ai)]
structure jV where
 BJ:(List ag)
 JB:(List aE)
def EX (x:jV):List AV:= [.qp 25 2 x.BJ.length (Pb x.BJ),.qp 46 15 x.JB.length (lY x.JB)]
structure ep where
 gF:Int
 fD:Int
 dN:Bool
 fC:aP
 gb:(List (List jn))
def EW (x:ep):List AV:= [.int .i64 x.gF,.int .i64 x.fD,.bool x.dN,.int .i64 x.fC.ay,.int .i64 x.fC.bZ,.str x.fC.bB,.slice 39 1 x.gb.length (IH x.gb)]
def vN (xs:List ep):List (List AV):=xs.map EW
def afT (xs:List ep):vN xs=xs.map EW:=rfl
def amD:RowsK EW vN:=⟨afT⟩
def acs (x:Nat):List AV:= [(aKQ x)]
def Lq (xs:List Nat):List (List AV):=xs.map acs
def afS (xs:List Nat):Lq xs=xs.map acs:=rfl
def JZ:RowsK acs Lq:=⟨afS⟩
structure aF where
 bg:ag
 fm:aE
def BN (x:aF):List AV:= [.int .i64 x.bg.ax,.slice 44 5 x.bg.ai.length (cP x.bg.ai),.int .i64 x.fm.bh,.int .i64 x.fm.aG,.int .i64 x.fm.aN,.int .i64 x.fm.eL,.str x.fm.av,.int .i64 x.fm.ay,.int .i64 x.fm.aD.ay,.int .i64 x.fm.aD.bZ,.str x.fm.aD.bB,.slice 110 6 x.fm.bf.length (cR x.fm.bf),.str x.fm.ar.av,.slice 73 2 x.fm.ar.ae.length (bG x.fm.ar.ae),.int .i64 x.fm.ar.aw,.slice 121 2 x.fm.ar.af.length (aR x.fm.ar.af),.slice 107 13 x.fm.ar.ak.length (aJ x.fm.ar.ak)]
structure iQ where
 lp:(List Int)
 mR:(List Int)
def JG (x:iQ):List AV:= [.slice 3 1 x.lp.length (eo x.lp),.slice 3 1 x.mR.length (eo x.mR)]
def acr (x:(List ep)):List AV:= [.slice 140 7 x.length (vN x)]
structure kG where
 f0:aT
 f1:aT
def Qj (x:kG):List AV:= [.int .i64 x.f0.ay,.int .i64 x.f0.cQ,.int .i64 x.f0.aD.ay,.int .i64 x.f0.aD.bZ,.str x.f0.aD.bB,.int .i64 x.f1.ay,.int .i64 x.f1.cQ,.int .i64 x.f1.aD.ay,.int .i64 x.f1.aD.bZ,.str x.f1.aD.bB]
abbrev aK:=List Int
abbrev gu:=List jn
abbrev mK:=List ep
abbrev bn:=List aj
abbrev cC:=List aP
abbrev fL:=List ag
abbrev cN:=List cG
abbrev td:=List aT
abbrev cB:=List bk
abbrev bO:=List ah
abbrev cJ:=List aE
abbrev yg:=List (List jn)
abbrev bU:=List (List aP)
abbrev ey:=List (List (List aP))
abbrev Wf0:=aK->Option aK
abbrev Wf1:=ByteArray->aM->Option (ByteArray×aM)
abbrev Wf2:=ByteArray->Int->aM->Option (ByteArray×aM)
abbrev Wf3:=aK->Int->aM->aT->td->Option (aT×aM)
abbrev Wf4:=Int->aM->aT->td->Option (aT×aM)
abbrev Wf5:=aM->ah->ah->bO->Option (ah×aM)
abbrev Wf6:=Int->Option Int
abbrev Wf7:=Int->Int->cN->Int->cG->cG->Int->Bool->aj->Option Bool
abbrev Wf8:=cB->Int->Int->Int->bn->Int->aK->Int->bn->Int->aj->aj->Int->ag->aj->bk->Option Bool
abbrev Wf9:=cB->Int->Int->ag->aj->Option Bool
abbrev JW:=ag->Option Int
abbrev VI:=bn->Int->Int->ag->Option Int
abbrev VH:=Int->Int->ag->Option Int
abbrev Wf13:=aj->aj->cN->cB->Option aj
abbrev avW:=aK->Int->Int->Option aK
abbrev amB:=aK->ah->Option aK
abbrev amA:=Int->cB->Int->Int->aj->Option Bool
abbrev amz:=Int->bO->Int->Int->Option Bool
abbrev amy:=ah->ah->bO->Option ah
abbrev acV:=Int->Int->Int->Int->cN->bO->aj->aj->cB->Option (aj×cN×cB×bO)
abbrev Wf20:=Int->Int->cN->bO->aj->aj->cB->Option (aj×cN×cB×bO)
abbrev Wf21:=cN->bO->aj->aj->cB->Option (aj×cN×cB×bO)
abbrev Wf22:=gu->Int->Int->Int->gu->Int->Int->Int->Int->gu->Int->Int->jn->Option Bool
abbrev Wf23:=gu->Int->Int->Int->gu->Int->Int->Int->Int->jn->Option Bool
abbrev Wf24:=gu->Int->gu->Int->Int->Option Bool
abbrev Wf25:=ag->aE->ag->ag->bn->Option (ag×Bool)
abbrev Wf26:=Nat->aE->ag->ag->cN->bn->Option (ag×Bool)
abbrev Wf27:=ag->ag->bn->Option (ag×Bool)
abbrev Wf28:=Int->Int->ag->aE->ag->ag->aj->cN->bO->bn->bn->aj->Nat->Nat->cB->Option (ag×Bool)
abbrev avV:=Int->Int->ag->aE->ag->ag->bn->bn->Nat->Option (ag×Bool)
abbrev Wf30:=ag->ag->bn->bn->Nat->Option (ag×Bool)
abbrev VG:=Int->aM->ag->cJ->Option (cJ×aM)
abbrev Wf32:=aM->cJ->Option (cJ×aM)
abbrev avU:=Int->Int->aK->Int->Int->aM->cC->Option (cC×aM)
abbrev amx:=cC->cC->Option Int
abbrev Wf35:=Int->cC->cC->Bool->bU->Int->Int->ey->ag->aW->aW->bU->Option (aW×ey)
abbrev Wf36:=Int->cC->Bool->ey->aW->aW->bU->Option (aW×ey)
abbrev amw:=Int->Int->Int->aM->ag->aW->aW->ey->Option (aW×aM)
abbrev Wf38:=aM->aW->aW->ey->Option (aW×aM)
abbrev Wf39:=bn->Int->Int->cB->Int->Int->Int->bn->Int->ag->aj->bk->Option Bool
abbrev Wf40:=bn->Int->Int->cB->Int->Int->ag->aj->Option Bool
abbrev amv:=bn->Int->Int->ag->Option Bool
abbrev Wf42:=bO->Int->Int->iQ->Option Bool
abbrev avT:=Int->cC->Int->Int->aj->Option Bool
abbrev amu:=Int->ey->Int->Int->ag->Option Int
abbrev Wf45:=aF->ah->ah->bO->Option ah
abbrev Wf46:=aj->aj->aj->cN->cB->Option aj
abbrev Wf47:=aj->aj->cN->bO->cB->Option aj
abbrev Wf48:=ag->ag->bn->Option ag
abbrev Wf49:=kG->Int->aK->ah->Option (aK×aK)
abbrev Wf50:=aK->ah->Option (aK×aK)
abbrev Wf51:=kG->Int->aK->ah->Option aK
abbrev amt:=Nat->Int->Int->aF->bn->aj->cB->Option aF
abbrev JV:=Int->Int->aF->bn->Option (Bool×aF)
abbrev ams:=aF->bn->Option (Bool×aF)
abbrev amr:=Int->Int->Int->bU->Option bU
abbrev Wf56:=Int->gu->Int->Int->aP->aP->Option aP
abbrev amq:=aP->aP->Option aP
abbrev avS:=cJ->Int->Int->ep->ep->yg->Option ep
abbrev Wf59:=ep->ep->yg->Option ep
abbrev Wf60:=cC->mK->Int->Int->cC->Option cC
abbrev amp:=Int->Int->aW->aW->jV->aW->ey->Option (aW×Int)
abbrev Wf62:=aW->aW->ey->Option (aW×Int)
abbrev Wf63:=cJ->Int->Int->Int->bn->Int->Int->ag->fL->ag->aW->aW->aj->Option Bool
abbrev acU:=cJ->Int->bn->Int->Int->ag->fL->ag->aW->aW->Option Bool
noncomputable section
def jd:List Sh:= [.d,.o false [.d,.d],.d,.o false [.o false [.d],.d],.o false [.d,.d,.d,.d,.d,.d,.d,.d,.d,.d,.d,.d,.d]]
def iM (a:aj):List AV:= [.str a.av,.undef,.int .i64 a.aw,.undef,.undef]
def q2_ (a:ah):List AV:= [.int .i64 a.bh,.int .i64 a.eP,.int .i64 a.cq.ay,.int .i64 a.cq.cQ,.int .i64 a.cq.aD.ay,.int .i64 a.cq.aD.bZ,.str a.cq.aD.bB,.int .i64 a.bL.ay,.int .i64 a.bL.cQ,.int .i64 a.bL.aD.ay,.int .i64 a.bL.aD.bZ,.str a.bL.aD.bB,.dE]
def cm (a:Int):AV:= .int .i64 a
def q4_ (a:ah) (b:Nat):List AV:= [cm a.bh,.int .i64 a.eP,.int .i64 a.cq.ay,.int .i64 a.cq.cQ,.int .i64 a.cq.aD.ay,.int .i64 a.cq.aD.bZ,.str a.cq.aD.bB,.int .i64 a.bL.ay,.int .i64 a.bL.cQ,.int .i64 a.bL.aD.ay,.int .i64 a.bL.aD.bZ,.str a.bL.aD.bB,.ms 45 13 0 b]
def qR (a:ag) (b c:Nat):Bx:= .flat 25 [.int .i64 a.ax,.ms b 5 0 c]
def q6_:List AV:= [.int .i64 0,.int .i64 0,.int .i64 0,.int .i64 0,.int .i64 0,.int .i64 0,.str ByteArray.empty,.int .i64 0,.int .i64 0,.int .i64 0,.int .i64 0,.str ByteArray.empty,.dE]
def q7_ (a:ag):AV:= .int .i64 a.ax
def q8_ (a:aj) (b c d e f g:Nat) (h:aj) (i:cN) (j:cB) (k:bO):List (Nat×Bx):= [(3,.flat 44 [.str a.av,.ms b 2 0 c,.int .i64 a.aw,.ms d 2 0 e,.ms f 13 0 g]),(6,.flat 44 [.str h.av,.dE,.int .i64 h.aw,.dE,.dE]),(b,.rows false 73 2 (bG i)),(d,.tree 121 2 [.o false [.d],.d] (aR j) []),(f,.rows false 107 13 (aJ k))]
def q9_ (a:aj) (b c d e f g:Nat):Bx:= .flat 44 [.str a.av,.ms b 2 0 c,.int .i64 a.aw,.ms d 2 0 e,.ms f 13 0 g]
def atx (a b:ep) (c:Nat) (d:yg):List (Nat×Bx):= [(6,.flat 140 [.int .i64 a.gF,.int .i64 a.fD,.bool a.dN,.int .i64 a.fC.ay,.int .i64 a.fC.bZ,.str a.fC.bB,.dE]),(7,.flat 140 [.int .i64 b.gF,.int .i64 b.fD,.bool b.dN,.int .i64 b.fC.ay,.int .i64 b.fC.bZ,.str b.fC.bB,.ms 44 1 0 c]),(44,.rows true 39 1 (IH d))]
def aaG (a:aj):Bx:= .flat 44 [.str a.av,.dE,.int .i64 a.aw,.dE,.dE]
def Ny (a:cB):Bx:= .tree 121 2 [.o false [.d],.d] (aR a) []
def q13_ (a:List AV) (b c:ah) (d:Nat) (e:bO):List (Nat×Bx):= [(0,.flat 97 a),(8,.flat 107 (q2_ b)),(12,.flat 107 [cm c.bh,.int .i64 c.eP,.int .i64 c.cq.ay,.int .i64 c.cq.cQ,.int .i64 c.cq.aD.ay,.int .i64 c.cq.aD.bZ,.str c.cq.aD.bB,.int .i64 c.bL.ay,.int .i64 c.bL.cQ,.int .i64 c.bL.aD.ay,.int .i64 c.bL.aD.bZ,.str c.bL.aD.bB,.ms 104 13 0 d]),(104,.rows true 107 13 (aJ e))]
def zm:List Sh:= [.o false [.d],.d]
def jO (a b:Nat):AV:= .ms a 2 0 b
def xO (a:aK):Bx:= .rows false 3 1 (eo a)
def zl (a:bn):Bx:= .tree 44 5 jd (cP a) []
def xN (a:bU):Bx:= .rows true 70 1 (oG a)
def pc (a:List AV):Bx:= .flat 97 a
def Ds (a:fL):Bx:= .rows false 25 2 (Pb a)
def Gk (a:bU):Bx:= .rows false 70 1 (oG a)
def iE (a:List AV):Bx:= .flat 25 a
def IP (a:cC):Bx:= .rows true 38 3 (fM a)
def oH (a:Int):List AV:= [.undef,cm a]
def Gj (a:cJ):Bx:= .rows false 46 15 (lY a)
def q26_ (a:Nat) (b:aj) (c d:Nat):List (Nat×Bx):= [(a,.rows false 73 2 (bG b.ae)),(c,.tree 121 2 zm (aR b.af) []),(d,.rows false 107 13 (aJ b.ak))]
def xM (a:ag):Bx:= .flat 25 [q7_ a,.dE]
def q28_ (a:aj) (b c d:Nat):List AV:= [.str a.av,jO b a.ae.length,.int .i64 a.aw,.ms c 2 0 a.af.length,.ms d 13 0 a.ak.length]
def IN (a:List (List AV)) (b c d e f g h i j:Nat):Bx:= .tree 44 5 jd a [(b,.ms c 13 0 d),(e,jO f g),(h,jO i j)]
def IM (a:ey):Bx:= .rows false 68 1 (wk a)
def Nx (a:cN):Bx:= .rows false 73 2 (bG a)
def Dr:Bx:= .flat 51 [.dE]
def U6 (a:bO):Bx:= .rows true 107 13 (aJ a)
def Gi (a:aj):AV:= .int .i64 a.aw
def akx (a b:List AV) (c:td):List (Nat×Bx):= [(0,pc a),(8,.flat 105 b),(29,.rows true 105 5 (Lr c))]
def qS (a:List AV):Bx:= .flat 107 a
def pb (a:List AV):Bx:= .flat 44 a
def U5 (a:aK):Bx:= .rows true 3 1 (eo a)
def U4 (a:ag) (b:Nat):Bx:= .flat 25 [q7_ a,.ms 32 5 0 b]
def akw:Bx:= .flat 25 [.int .i64 0,.dE]
def rB (a:List AV):List (Nat×Bx):= [(0,pc a)]
def qd (a b:Nat):AV:= .ms a 1 0 b
def akv (a:bO):Bx:= .rows false 107 13 (aJ a)
def uw (a:List AV):Bx:= .flat 46 a
def atw (a:ey):Bx:= .tree 68 1 [.o false [.d]] (wk a) []
def aku:AV:= .fn 198 [] [.loc 1 0]
def akt (a:cN):Bx:= .rows true 73 2 (bG a)
def U3:AV:= .fn 67 [] []
def xL (a:List AV):Bx:= .flat 38 a
end
abbrev rG:Nat:=100001
abbrev mX:Nat:=100003
abbrev rF:Nat:=100004
abbrev iG:Nat:=1000611
abbrev lO:Nat:=1000613
abbrev lN:Nat:=1000614
abbrev jT:Nat:=100100
abbrev il:Nat:=1120986464256
abbrev fZ:Nat:=1138166333440
abbrev lM:Nat:=1146756268032
abbrev Bp:Nat:=1152921504607355976
abbrev Bo:Nat:=12885001891
abbrev nZ:Nat:=145698175582208
abbrev cV:Nat:=200000
abbrev r8:Nat:=201001
abbrev iB:Nat:=4294967296
abbrev tp:Nat:=520031
abbrev qX:Nat:=520033
abbrev bS:Nat:=520061
abbrev nY:Nat:=600601
abbrev bz:Nat:=8589934592
def eu {J:Type} {xs zs:List J} {j:Nat} {x:J} (h:setAt xs j x=some zs):=(nj h).symm
abbrev SE:=Sc E0
def bQ {J:Type} (_:J):List (Nat×Bx):= []
def dJ {E:Env} (a b:Sc E):Sc E:=a++b
def zP {E:Env} {ro:Bool} {f:Nat} {bs ds:List (Nat×Bx)} {xs:List AV} {y:AV} (h:kn ro E f bs xs y ds):It E:=.call h [] []
def aI {a b:Bool} (h:a=b):Nat×It E0:=(0,eb h)
def bb {a b:Bool} (h:a=b):Nat×It E0:=(1,eb h)
def aZ {a b:Bool} (h:a=b):Nat×It E0:=(2,eb h)
def bj {a b:Bool} (h:a=b):Nat×It E0:=(3,eb h)
def bu {a b:Bool} (h:a=b):Nat×It E0:=(4,eb h)
def cg {a b:Bool} (h:a=b):Nat×It E0:=(5,eb h)
def dP {a b:Bool} (h:a=b):Nat×It E0:=(6,eb h)
def jU {a b:Bool} (h:a=b):Nat×It E0:=(7,eb h)
def iC {a b:Bool} (h:a=b):Nat×It E0:=(8,eb h)
def alK {a b:Bool} (h:a=b):Nat×It E0:=(9,eb h)
def om {ro:Bool} {f:Nat} {bs ds:List (Nat×Bx)} {xs:List AV} {y:AV} (h:kn ro E0 f bs xs y ds):Nat×It E0:=(0,zP h)
def yu {ro:Bool} {f:Nat} {bs ds:List (Nat×Bx)} {xs:List AV} {y:AV} (h:kn ro E0 f bs xs y ds):Nat×It E0:=(1,zP h)
def iW {ro:Bool} {f:Nat} {bs ds:List (Nat×Bx)} {xs:List AV} {y:AV} (h:kn ro E0 f bs xs y ds):Nat×It E0:=(2,zP h)
def kH {ro:Bool} {f:Nat} {bs ds:List (Nat×Bx)} {xs:List AV} {y:AV} (h:kn ro E0 f bs xs y ds):Nat×It E0:=(3,zP h)
def mY {ro:Bool} {f:Nat} {bs ds:List (Nat×Bx)} {xs:List AV} {y:AV} (h:kn ro E0 f bs xs y ds):Nat×It E0:=(4,zP h)
def oZ {ro:Bool} {f:Nat} {bs ds:List (Nat×Bx)} {xs:List AV} {y:AV} (h:kn ro E0 f bs xs y ds):Nat×It E0:=(5,zP h)
def LJ {ro:Bool} {f:Nat} {bs ds:List (Nat×Bx)} {xs:List AV} {y:AV} (h:kn ro E0 f bs xs y ds):Nat×It E0:=(6,zP h)
def yr {ro:Bool} {f:Nat} {bs ds:List (Nat×Bx)} {xs:List AV} {y:AV} (h:kn ro E0 f bs xs y ds):Nat×It E0:=(7,zP h)
def bnG_:Nat->Nat->List Nat->List Nat
 |0,_,l=>l
 |k+1,n,l=>cond (Nat.ble n 1) l (bnG_ k (n/2) (n%2::l))
def cF (n:Nat):List Nat:=bnG_ 64 n []
def aJM (r:Bool):AV:=.bool r
def aFa (r:Bool):List (Nat×Bx):= []
def C17:=Cx E0 17 aJM aFa
def aEI:LS:=⟨[],[]⟩
def aEU (r:(List Int)):AV:=.cS []
def aBX (r:(List Int)):List (Nat×Bx):= [(0,.rows false 3 1 (eo r))]
def C165:=Cx E0 165 aEU aBX
def aAu (zS:(List Int)):LS:=⟨[(0,.ms 0 1 0 zS.length)],[(0,.rows false 3 1 (eo zS))]⟩
def aET (r:((List cG)×(List cG))):AV:=.ms 0 2 0 r.2.length
def aBW (r:((List cG)×(List cG))):List (Nat×Bx):= [(0,.rows false 73 2 (bG r.2))]
def C182:=Cx E0 182 aET aBW
def azY (zS:(List cG)) (a1_:Int) (a2_:Int):LS:=⟨[(0,.ms 0 2 0 zS.length),(1,.int .i64 a1_),(2,.int .i64 a2_)],[(0,.rows false 73 2 (bG zS))]⟩
def aES (r:((List cG)×(List cG))):AV:=.ms 4294967296 2 0 r.2.length
def aBV (r:((List cG)×(List cG))):List (Nat×Bx):= [(4294967296,.rows false 73 2 (bG r.2))]
def C184:=CxS E0 184 [2] aES aBV
def azU (zS:(List cG)) (a1_:Int) (a2_:(List cG)):LS:=⟨[(0,.ms 4294967296 2 0 zS.length),(1,.int .i64 a1_),(2,.ms 2 2 0 a2_.length)],[(2,.rows false 73 2 (bG a2_)),(4294967296,.rows false 73 2 (bG zS))]⟩
def aER (r:((List aj)×(List aj))):AV:=.ms 0 5 0 r.2.length
def aBU (r:((List aj)×(List aj))):List (Nat×Bx):= [(0,.tree 44 5 [.d,.o false [.d,.d],.d,.o false [.o false [.d],.d],.o false [.d,.d,.d,.d,.d,.d,.d,.d,.d,.d,.d,.d,.d]] (cP r.2) [])]
def C185:=Cx E0 185 aER aBU
def azT (zS:(List aj)) (a1_:Int) (a2_:Int):LS:=⟨[(0,.ms 0 5 0 zS.length),(1,.int .i64 a1_),(2,.int .i64 a2_)],[(0,.tree 44 5 [.d,.o false [.d,.d],.d,.o false [.o false [.d],.d],.o false [.d,.d,.d,.d,.d,.d,.d,.d,.d,.d,.d,.d,.d]] (cP zS) [])]⟩
def aaA (r:Int):AV:=.int .i64 r
def aBT (r:Int):List (Nat×Bx):= []
def C203:=Cx E0 203 aaA aBT
def azL (zS:ByteArray) (a1_:ByteArray):LS:=⟨[(0,.str zS),(1,.str a1_)],[]⟩
def aEQ (r:((List Int)×(List Int))):AV:=.ms 0 1 0 r.2.length
def aBS (r:((List Int)×(List Int))):List (Nat×Bx):= [(0,.rows false 3 1 (eo r.2))]
def C219:=Cx E0 219 aEQ aBS
def azD (zS:(List Int)):LS:=⟨[(0,.ms 0 1 0 zS.length)],[(0,.rows false 3 1 (eo zS))]⟩
def amM (_n:Nat) (a b:ByteArray):Option Int:=some (Lib.compareBytes a.data.toList b.data.toList)
def pk0:∀k c,wu k [(182,146),(184,147),(185,88),(165,1048576),(219,1048577)]=some c->Au E0 k c:=Lu (E:=⟨Tryz.prog,tyT,Vv,[],[],[],[],[(182,146),(184,147),(185,88),(165,1048576),(219,1048577)],[],[]⟩) rfl rfl rfl
def aKi (n:Nat):K2 C203 azL (amM n):=λa b r h=>by
 have e:=kV h;subst e;show gn E0 203 [] [.str a,.str b] (aaA (Lib.compareBytes a.data.toList b.data.toList)) [];rw[show aaA (Lib.compareBytes a.data.toList b.data.toList)= .int .i64 (EZ a b) from bN (AV.int .i64) (JO a b)];have hz:Bf Tryz.f203=false:=by kernel_rfl
 obtain ⟨_,_,h3⟩:=p7.get OK.fn 203 Tryz.f203 (by kernel_rfl)
 rcases h3 with h3|⟨h1,h2⟩
 ·exact absurd (show Bf Tryz.f203=true from h3) (by rw[hz];exact OF)
 exact gn.cmp (fn:=Tryz.f203) Tryz.func203 (by kernel_rfl) (by kernel_rfl) h1 h2
def F17 (_n:Nat):Option Bool:=some true
def ev17 (n:Nat):K0 C17 aEI (F17 n):=λr h=>by
 have e:=kV h;subst e;exact gn.done (v:=.bool true) amc λF g=>.lit _
def VB {J:Type} (s:List J) (i j:Int):Option (List J×List J):=if 0<=i/\i<j/\j<=s.length then some (s.take i.toNat++s.drop j.toNat,s.take i.toNat++s.drop j.toNat) else none
def abw {J:Type} (s:List J) (i:Int) (v:List J):Option (List J×List J):=if 0<=i/\i<=s.length/\0<s.length/\0<v.length/\s.length<=1000000/\v.length<=1000000 then some (s.take i.toNat++v++s.drop i.toNat,s.take i.toNat++v++s.drop i.toNat) else none
def WH {J:Type} {s:List J} {i j:Int} {r:List J×List J} (h:VB s i j=some r):∃a b:Nat,i=a/\j=b/\a<b/\b<=s.length/\r=(s.take a++s.drop b,s.take a++s.drop b)/\(s.take a++s.drop b).length=s.length-(b-a):=by
 unfold VB at h;split at h
 ·rename_i c;refine ⟨i.toNat,j.toNat,by omega,by omega,by omega,by omega,(kV h).symm,?_⟩
  simp;omega
 ·cases h
def ari {J:Type} {s v:List J} {i:Int} {r:List J×List J} (h:abw s i v=some r):∃a:Nat,i=a/\a<=s.length/\0<s.length/\0<v.length/\s.length<=1000000/\v.length<=1000000/\r=(s.take a++v++s.drop a,s.take a++v++s.drop a)/\(s.take a++v++s.drop a).length=s.length+v.length:=by
 unfold abw at h;split at h
 ·rename_i c;refine ⟨i.toNat,by omega,by omega,by omega,by omega,by omega,by omega,(kV h).symm,?_⟩
  simp;omega
 ·cases h
def adL (_n:Nat) (xs:List Int):Option (List Int):=if xs.length<=4294967295 then some (lK xs) else none
def aKr (n:Nat):K1 C165 aAu (adL n):=λxs r h=>by
 unfold adL at h;split at h
 ·rename_i c;cases h;exact gn.ints (E:=E0) (k:=165) (c:=1048576) (z:=true) (e:=3) (xs:=xs) (pk0 165 1048576 (by kernel_rfl)) (by kernel_rfl) (by kernel_rfl) rfl c
 ·cases h
def adB (_n:Nat) (xs:List Int):Option (List Int×List Int):=if xs.length<=4294967295 then some (kT xs,kT xs) else none
def aKe (n:Nat):K1 C219 azD (adB n):=λxs r h=>by
 unfold adB at h;split at h
 ·rename_i c;cases h;exact gn.ints (E:=E0) (k:=219) (c:=1048577) (z:=false) (e:=3) (xs:=xs) (pk0 219 1048577 (by kernel_rfl)) (by kernel_rfl) (by kernel_rfl) rfl c
 ·cases h
def adG (_n:Nat) (s:List cG) (i j:Int):Option (List cG×List cG):=VB s i j
def ayp (n:Nat):K3 C182 azY (adG n):=λs i j r h=>by
 obtain ⟨a,b,rfl,rfl,h1,h2,rfl,hl⟩:=WH h;have key:=gn.del (E:=E0) (k:=182) (c:=146) (sz:=2) (e:=73) (l:= []) (n:=s.length) (Q:=bG s) (pk0 182 146 (by kernel_rfl)) (h9:=by kernel_rfl) (h0:=by kernel_rfl) (h1:=by kernel_rfl) (hie:=rfl) (hs:=by kernel_rfl) (hn:=eJ.len s) h1 h2
 rw[<-hl] at key;have e:(bG s).take a++(bG s).drop b=bG (s.take a++s.drop b):=by simp[bG,yE,D1]
 rw[e] at key;exact key
def awh (_n:Nat) (s:List aj) (i j:Int):Option (List aj×List aj):=VB s i j
def aKo (n:Nat):K3 C185 azT (awh n):=λs i j r h=>by
 obtain ⟨a,b,rfl,rfl,h1,h2,rfl,hl⟩:=WH h;have key:=gn.del (E:=E0) (k:=185) (c:=88) (sz:=5) (e:=44) (n:=s.length) (Q:=cP s) (l:= [.d,.o false [.d,.d],.d,.o false [.o false [.d],.d],.o false [.d,.d,.d,.d,.d,.d,.d,.d,.d,.d,.d,.d,.d]]) (pk0 185 88 (by kernel_rfl)) (h9:=by kernel_rfl) (h0:=by kernel_rfl) (h1:=by kernel_rfl) (hie:=rfl) (hs:=by kernel_rfl) (hn:=bW.len s) h1 h2
 rw[<-hl] at key;have e:(cP s).take a++(cP s).drop b=cP (s.take a++s.drop b):=by simp[cP,yE,D1]
 rw[e] at key;exact key
def awi (_n:Nat) (s:List cG) (i:Int) (v:List cG):Option (List cG×List cG):=abw s i v
def aKp (n:Nat):K3 C184 azU (awi n):=λs i v r h=>by
 obtain ⟨a,rfl,h1,h2,h3,h4,h5,rfl,hl⟩:=ari h;have key:=gn.ins (E:=E0) (k:=184) (c:=147) (sz:=2) (e:=73) (e2:=73) (z:=false) (n:=s.length) (q:=v.length) (Q:=bG s) (V:=bG v) (pk0 184 147 (by kernel_rfl)) (h9:=by kernel_rfl) (h0:=by kernel_rfl) (h1:=by kernel_rfl) (hie:=rfl) (hs:=by kernel_rfl) (hn:=eJ.len s) (hq:=eJ.len v) h1 h2 h3 h4 h5
 rw[<-hl] at key;have e:(bG s).take a++bG v++(bG s).drop a=bG (s.take a++v++s.drop a):=by simp[bG,yE,D1]
 rw[e] at key;exact key
def Xv (r:(Int×aM)):AV:=.int .i64 r.1
def Px (r:(Int×aM)):List (Nat×Bx):= (rB (fK r.2))
def ld:=fx E0 Tryz.f18 [0]
def A18:=Ax ld Xv Px
def OV (c0:aM) (n1:Int):LS:=⟨[(0,.loc 0 0),(1,cm n1)],(rB (fK c0))⟩
def anS (n:Nat) (c0:aM) (n1:Int):Option (Int×aM):=
 if !decide (c0.zR<(c0.oO.length:Int)) then
 some (0,c0)
 else
 if decide (n1<1) then
 some (0,c0)
 else
 (idx c0.oO (bl ((bl (c0.zR+1)) - 1))).bind λlW=>(rem (bl (lW)) n1).bind λx38=>some ((Int.tmod (bl (lW)) n1),(aM.mk c0.oO (bl (c0.zR+1))))
def aMT (n:Nat):K2 (A18 []) OV (anS n):=λc0 n1 r h=>ie h (λdt h=>rr h [(10,eb dt)]) λdt h=>ie h (λc1 h=>rr h [(10,eb dt),aZ c1]) λc1 h=>be h λlW tu h=>be h λx38 hx38 h=>rr h [(10,eb dt),aZ c1,(18,R5.idx tu),(3,.nz (aaD hx38).1)]
def rz:=anS
def oP (n:Nat):K2 (Cx E0 18 Xv Px) OV (rz n):=λ_ _ _ h=>ca (X:=ld) (aMT n h)
def Ct (r:aK):AV:=.ms cV 1 0 r.length
def apy (r:aK):List (Nat×Bx):= [(cV,U5 r)]
def Ih:=fx E0 Tryz.f50 []
def A50:=Ax Ih Ct apy
def aEb (t22:cN) (t23 t24:Int) (fH:aK):LS:=⟨[(5,.ms 32 1 0 fH.length),(22,.slice 73 2 t22.length (bG t22)),(23,.int .i64 t23),(24,.int .i64 t24)],[(32,U5 fH)]⟩
def aEa (fH:aK):LS:=⟨[(5,.ms 32 1 0 fH.length)],[(32,U5 fH)]⟩
def Eb (s0:ag) (dh:Int):LS:=⟨[(0,.agg (dD s0)),(1,cm dh)],[]⟩
def Yk (aO:Wf0) (back:cN->Int->Int->aK->Option aK) (n:Nat) (t22:cN) (t23 t24:Int) (fH:aK):Option aK:=
 if decide (t24<t23) then
 (idx t22 t24).bind λx2=>(app fH [x2.ay]).bind λdy=>back t22 t23 (bl (t24+1)) dy
 else
 aO fH
def akb:=K1 (A50 [1,1,1,1]) aEa
def aka:=K4 (A50 (cF 87)) aEb
def aLW {aO} (bq:akb aO) {back} (aS:aka back) (n:Nat):aka (Yk aO back n):=λt22 t23 t24 fH r h=>ie h (λc0 h=>be h λx2 cX h=>be h λdy ga h=>ra (aS h) [aI c0,(0,eJ.idx cX),(7,R3.kF ga)]) λc0 h=>ra (bq h) [aI c0]
def Mm (aO:Wf0):Nat->cN->Int->Int->aK->Option aK
 |0=>λ_ _ _ _=>none
 |n+1=>Yk aO (Mm aO n) n
def axA {aO} (bq:akb aO):∀n:Nat,aka (Mm aO n)
 |0=>λ_ _ _ _ _ h=>nz h
 |n+1=>aLW bq (axA bq n) n
def Yj (n:Nat) (fH:aK):Option aK:=
 some fH
def aLV (n:Nat):akb (Yj n):=λfH r h=>rr h [(2,.jq 32 cV)]
def anG (n:Nat) (s0:ag) (dh:Int):Option aK:=
 if decide (dh<0) then
 some []
 else
 if !decide (dh<(s0.ai.length:Int)) then
 some []
 else
 (idx s0.ai dh).bind λeO=>Mm (Yj n) n eO.ae (eO.ae.length:Int) 0 []
def aLU (n:Nat):K2 (A50 []) Eb (anG n):=λs0 dh r h=>ie h (λc0 h=>rr h [bj c0,(3,.born [4] [] cV true 3 1)]) λc0 h=>ie h (λc1 h=>rr h [bj c0,cg c1,(2,.born [4] [] cV true 3 1)]) λc1 h=>be h λeO ic h=>ra (axA (aLV n) n h) [bj c0,cg c1,(5,bW.idx ic),(4,.born [5] [] 32 true 3 1)]
def F50:=anG
def avg (n:Nat):K2 (Cx E0 50 Ct apy) Eb (F50 n):=λ_ _ _ h=>ca (X:=Ih) (aLU n h)
def awS (r:(Bool×aM)):AV:=.bool r.1
def apw (r:(Bool×aM)):List (Nat×Bx):= (rB (fK r.2))
def x70:=fx E0 Tryz.f70 [0]
def A70:=Ax x70 awS apw
def anq (n:Nat) (c0:aM) (n1:Int):Option (Bool×aM):=
 (rz n c0 n1).bind λx4=>some (x4.1==(bl (n1 - 1)),x4.2)
def aLy (n:Nat):K2 (A70 []) OV (anq n):=λc0 n1 r h=>be h λx4 jr h=>rr h [(3,.call (oP n jr) [(0,0)] [])]
def Df:=anq
def rb (n:Nat):K2 (Cx E0 70 awS apw) OV (Df n):=λ_ _ _ h=>ca (X:=x70) (aLy n h)
def awR (r:cG):AV:=.agg (GV r)
def x91:=fx E0 Tryz.f91 []
def A91:=Ax x91 awR bQ
def aot (Xy:ByteArray) (fJ:Int):LS:=⟨[(0,.str Xy),(1,cm fJ)],[]⟩
def anp (n:Nat) (Xy:ByteArray) (fJ:Int):Option cG:=
 some (cG.mk Xy fJ)
def aLx (n:Nat):K2 (A91 []) aot (anp n):=λXy fJ r h=>rr h []
def Cf:=anp
def BM (n:Nat):K2 (Cx E0 91 awR bQ) aot (Cf n):=λ_ _ _ h=>ca (X:=x91) (aLx n h)
def x136:=fx E0 Tryz.f136 [0]
def A136:=Ax x136 Xv Px
def vK (c0:aM):LS:=⟨[(0,.loc 0 0)],(rB (fK c0))⟩
def afn (n:Nat) (c0:aM):Option (Int×aM):=
 (rz n c0 12).bind λx3=>if x3.1==9 then
 some ((-1),x3.2)
 else
 if x3.1==10 then
 some (9223372036854775807,x3.2)
 else
 if x3.1==11 then
 some ((-9223372036854775808),x3.2)
 else
 (rem x3.1 4).bind λiu=>some ((Int.tmod x3.1 4),x3.2)
def aIy (n:Nat):K1 (A136 []) vK (afn n):=λc0 r h=>be h λx3 eY h=>let zA:SE:=[(2,.call (oP n eY) [(0,0)] [])];ie h (λdt h=>bD h zA [aZ dt]) λdt h=>ie h (λc1 h=>bD h zA [aZ dt,bb c1]) λc1 h=>ie h (λc2 h=>bD h zA [aZ dt,bb c1,bb c2]) λc2 h=>be h λiu j4 h=>bD h zA [aZ dt,bb c1,bb c2,(2,.nz (aaD j4).1)]
def ana:=afn
def aKJ (n:Nat):K1 (Cx E0 136 Xv Px) vK (ana n):=λ_ _ h=>ca (X:=x136) (aIy n h)
def apm (r:(ByteArray×aM)):AV:=.str r.1
def ahR (r:(ByteArray×aM)):List (Nat×Bx):= (rB (fK r.2))
def x137:=fx E0 Tryz.f137 [0]
def afJ:=Ax x137 apm ahR
def aBl (mW:ByteArray) (i4:Int) (b0:aM):LS:=⟨[(3,.str mW),(4,cm i4)],(rB (fK b0))⟩
def aho (mW:ByteArray) (b0:aM):LS:=⟨[(3,.str mW)],(rB (fK b0))⟩
def aBk (mW:ByteArray) (i5:Int) (b0:aM):LS:=⟨[(3,.str mW),(5,cm i5)],(rB (fK b0))⟩
def Sn (aO:Wf1) (back:Wf2) (n:Nat) (mW:ByteArray) (i4:Int) (b0:aM):Option (ByteArray×aM):=
 if decide (i4<64) then
 (cat mW (ByteArray.mk #[255])).bind λx4=>back (mW++(ByteArray.mk #[255])) (bl (i4+1)) b0
 else
 aO mW b0
def ajZ:=K2 (afJ (cF 458731)) aho
def ajY:=K3 (afJ (cF 1376235)) aBl
def aIx {aO} (bq:ajZ aO) {back} (aS:ajY back) (n:Nat):ajY (Sn aO back n):=λmW i4 b0 r h=>ie h (λdt h=>be h λx4 jr h=>ra (aS h) [bb dt,(1,.cat (G2 jr).1)]) λdt h=>ra (bq h) [bb dt]
def FB (aO:Wf1):Nat->ByteArray->Int->aM->Option (ByteArray×aM)
 |0=>λ_ _ _=>none
 |n+1=>Sn aO (FB aO n) n
def aqR {aO} (bq:ajZ aO):∀n:Nat,ajY (FB aO n)
 |0=>λ_ _ _ _ h=>nz h
 |n+1=>aIx bq (aqR bq n) n
def asN (n:Nat) (mW:ByteArray) (b0:aM):Option (ByteArray×aM):=
 some (mW,b0)
def aIw (n:Nat):ajZ (asN n):=λmW b0 r h=>rr h []
def Sm (bC:Wf1) (back:Wf2) (n:Nat) (mW:ByteArray) (i5:Int) (b0:aM):Option (ByteArray×aM):=
 if decide (i5<64) then
 (cat mW (ByteArray.mk #[98])).bind λx4=>back (mW++(ByteArray.mk #[98])) (bl (i5+1)) b0
 else
 bC mW b0
def ajX:=K2 (afJ [1,1,1,1]) aho
def ajW:=K3 (afJ (cF 87)) aBk
def aIv {bC} (cU:ajX bC) {back} (aS:ajW back) (n:Nat):ajW (Sm bC back n):=λmW i5 b0 r h=>ie h (λdt h=>be h λx4 jr h=>ra (aS h) [bb dt,(1,.cat (G2 jr).1)]) λdt h=>ra (cU h) [bb dt]
def FA (bC:Wf1):Nat->ByteArray->Int->aM->Option (ByteArray×aM)
 |0=>λ_ _ _=>none
 |n+1=>Sm bC (FA bC n) n
def aqQ {bC} (cU:ajX bC):∀n:Nat,ajW (FA bC n)
 |0=>λ_ _ _ _ h=>nz h
 |n+1=>aIv cU (aqQ cU n) n
def asM (n:Nat) (mW:ByteArray) (b0:aM):Option (ByteArray×aM):=
 some (mW,b0)
def aIu (n:Nat):ajX (asM n):=λmW b0 r h=>rr h []
def afm (n:Nat) (c0:aM):Option (ByteArray×aM):=
 (rz n c0 10).bind λx4=>if x4.1==0 then
 some ((ByteArray.mk #[97]),x4.2)
 else
 if x4.1==1 then
 some ((ByteArray.mk #[97]),x4.2)
 else
 if x4.1==2 then
 some ((ByteArray.mk #[97]),x4.2)
 else
 if x4.1==3 then
 some ((ByteArray.mk #[98]),x4.2)
 else
 if x4.1==4 then
 some ((ByteArray.mk #[98]),x4.2)
 else
 if x4.1==5 then
 some (ByteArray.empty,x4.2)
 else
 if x4.1==6 then
 some ((ByteArray.mk #[97,0]),x4.2)
 else
 if x4.1==7 then
 some ((ByteArray.mk #[255]),x4.2)
 else
 if x4.1==8 then
 FB (asN n) n ByteArray.empty 0 x4.2
 else
 FA (asM n) n ByteArray.empty 0 x4.2
def aIt (n:Nat):K1 (afJ []) vK (afm n):=λc0 r h=>be h λx4 jr h=>let zA:SE:=[(3,.call (oP n jr) [(0,0)] [])];ie h (λdt h=>bD h zA [aI dt]) λdt h=>let zB:SE:=dJ zA [aI dt];ie h (λc1 h=>bD h zB [bb c1]) λc1 h=>let zC:SE:=dJ zB [bb c1];ie h (λc2 h=>bD h zC [bb c2]) λc2 h=>let zD:SE:=dJ zC [bb c2];ie h (λc3 h=>bD h zD [bb c3]) λc3 h=>let zE:SE:=dJ zD [bb c3];ie h (λc4 h=>bD h zE [bb c4]) λc4 h=>let zF:SE:=dJ zE [bb c4];ie h (λc5 h=>bD h zF [bb c5]) λc5 h=>let zG:SE:=dJ zF [bb c5];ie h (λc6 h=>bD h zG [bb c6]) λc6 h=>ie h (λc7 h=>bD h zG [bb c6,bb c7]) λc7 h=>ie h (λc8 h=>cI (aqR (aIw n) n h) zG [bb c6,bb c7,bb c8]) λc8 h=>cI (aqQ (aIu n) n h) zG [bb c6,bb c7,bb c8]
def amZ:=afm
def aKI (n:Nat):K1 (Cx E0 137 apm ahR) vK (amZ n):=λ_ _ h=>ca (X:=x137) (aIt n h)
def awQ (r:(aP×aM)):AV:=.agg (lP r.1)
def apv (r:(aP×aM)):List (Nat×Bx):= (rB (fK r.2))
def x93:=fx E0 Tryz.f93 [0]
def A93:=Ax x93 awQ apv
def aos (c0:aM) (fJ:Int):LS:=⟨[(0,.loc 0 0),(1,cm fJ)],(rB (fK c0))⟩
def ann (n:Nat) (c0:aM) (fJ:Int):Option (aP×aM):=
 if fJ==3 then
 (rz n c0 2).bind λx7=>some ((aP.mk fJ x7.1 ByteArray.empty),x7.2)
 else
 if fJ==4 then
 (ana n c0).bind λx9=>some ((aP.mk fJ x9.1 ByteArray.empty),x9.2)
 else
 (amZ n c0).bind λx8=>some ((aP.mk 5 0 x8.1),x8.2)
def aLv (n:Nat):K2 (A93 []) aos (ann n):=λc0 fJ r h=>ie h (λdt h=>be h λx7 jK h=>rr h [aZ dt,(3,.call (oP n jK) [(0,0)] [])]) λdt h=>ie h (λc1 h=>be h λx9 iS h=>rr h [aZ dt,bb c1,(3,.call (aKJ n iS) [(0,0)] [])]) λc1 h=>be h λx8 oK h=>rr h [aZ dt,bb c1,(2,.call (aKI n oK) [(0,0)] [])]
def F93:=ann
def NZ (n:Nat):K2 (Cx E0 93 awQ apv) aos (F93 n):=λ_ _ _ h=>ca (X:=x93) (aLv n h)
def apk (r:(aT×aM)):AV:=.agg (pR r.1)
def ahO (r:(aT×aM)):List (Nat×Bx):= (rB (fK r.2))
def x169:=fx E0 Tryz.f169 [0]
def afF:=Ax x169 apk ahO
def aAt (params2:aK) (jy:Int) (t15:aK) (t16 t17:Int) (b0:aM) (b8:aT) (kb:td):LS:=⟨[(0,.loc 0 0),(2,.slice 3 1 params2.length (eo params2)),(3,.int .i64 jy),(8,.loc 8 0),(9,.ms 29 5 0 kb.length),(15,.slice 3 1 t15.length (eo t15)),(16,.int .i64 t16),(17,.int .i64 t17)],(akx (fK b0) (pR b8) kb)⟩
def aAs (jy:Int) (t31:aK) (t32 t33:Int) (b0:aM) (b8:aT) (kb:td):LS:=⟨[(0,.loc 0 0),(3,.int .i64 jy),(8,.loc 8 0),(9,.ms 29 5 0 kb.length),(31,.slice 3 1 t31.length (eo t31)),(32,.int .i64 t32),(33,.int .i64 t33)],(akx (fK b0) (pR b8) kb)⟩
def aAr (jy:Int) (b0:aM) (b8:aT) (kb:td):LS:=⟨[(0,.loc 0 0),(3,cm jy),(8,.loc 8 0),(9,.ms 29 5 0 kb.length)],(akx (fK b0) (pR b8) kb)⟩
def aAq (params2:aK) (jy:Int) (b0:aM) (b8:aT) (kb:td):LS:=⟨[(0,.loc 0 0),(2,.slice 3 1 params2.length (eo params2)),(3,.int .i64 jy),(8,.loc 8 0),(9,.ms 29 5 0 kb.length)],(akx (fK b0) (pR b8) kb)⟩
def agY (c0:aM) (dr params2:aK) (jy:Int):LS:=⟨[(0,.loc 0 0),(1,.slice 3 1 dr.length (eo dr)),(2,.slice 3 1 params2.length (eo params2)),(3,.int .i64 jy)],(rB (fK c0))⟩
def RB (bC:Wf3) (back:aK->Int->aK->Int->Int->aM->aT->td->Option (aT×aM)) (n:Nat) (params2:aK) (jy:Int) (t15:aK) (t16 t17:Int) (b0:aM) (b8:aT) (kb:td):Option (aT×aM):=
 if decide (t17<t16) then
 (idx t15 t17).bind λx3=>if x3==jy then
 (app kb [(aT.mk 1 t17 (aP.mk 0 0 ByteArray.empty))]).bind λfj=>back params2 jy t15 t16 (bl (t17+1)) b0 b8 fj
 else
 back params2 jy t15 t16 (bl (t17+1)) b0 b8 kb
 else
 bC params2 jy b0 b8 kb
def ajV:=K5 (afF [1,1,1]) aAq
def ajU:=K8 (afF [0,1,0,1,1]) aAt
def aGY {bC} (cU:ajV bC) {back} (aS:ajU back) (n:Nat):ajU (RB bC back n):=λparams2 jy t15 t16 t17 b0 b8 kb r h=>ie h (λdt h=>be h λx3 eY h=>ie h (λc1 h=>be h λfj mO h=>ra (aS h) [aI dt,(1,R3.idx eY),cg c1,(4,amE.kF mO)]) λc1 h=>ra (aS h) [aI dt,(1,R3.idx eY),cg c1]) λdt h=>ra (cU h) [aI dt]
def Fj (bC:Wf3):Nat->aK->Int->aK->Int->Int->aM->aT->td->Option (aT×aM)
 |0=>λ_ _ _ _ _ _ _ _=>none
 |n+1=>RB bC (Fj bC n) n
def aqs {bC} (cU:ajV bC):∀n:Nat,ajU (Fj bC n)
 |0=>λ_ _ _ _ _ _ _ _ _ h=>nz h
 |n+1=>aGY cU (aqs cU n) n
def RA (bt:Wf4) (back:Int->aK->Int->Int->aM->aT->td->Option (aT×aM)) (n:Nat) (jy:Int) (t31:aK) (t32 t33:Int) (b0:aM) (b8:aT) (kb:td):Option (aT×aM):=
 if decide (t33<t32) then
 (idx t31 t33).bind λx3=>if x3==jy then
 (app kb [(aT.mk 2 t33 (aP.mk 0 0 ByteArray.empty))]).bind λfj=>back jy t31 t32 (bl (t33+1)) b0 b8 fj
 else
 back jy t31 t32 (bl (t33+1)) b0 b8 kb
 else
 bt jy b0 b8 kb
def ajT:=K4 (afF [1,1,1,1]) aAr
def ajS:=K7 (afF (cF 87)) aAs
def aGX {bt} (cM:ajT bt) {back} (aS:ajS back) (n:Nat):ajS (RA bt back n):=λjy t31 t32 t33 b0 b8 kb r h=>ie h (λdt h=>be h λx3 eY h=>ie h (λc1 h=>be h λfj mO h=>ra (aS h) [aI dt,(1,R3.idx eY),cg c1,(4,amE.kF mO)]) λc1 h=>ra (aS h) [aI dt,(1,R3.idx eY),cg c1]) λdt h=>ra (cM h) [aI dt]
def Fi (bt:Wf4):Nat->Int->aK->Int->Int->aM->aT->td->Option (aT×aM)
 |0=>λ_ _ _ _ _ _ _=>none
 |n+1=>RA bt (Fi bt n) n
def aqr {bt} (cM:ajT bt):∀n:Nat,ajS (Fi bt n)
 |0=>λ_ _ _ _ _ _ _ _ h=>nz h
 |n+1=>aGX cM (aqr cM n) n
def Kf (n:Nat) (jy:Int) (b0:aM) (b8:aT) (kb:td):Option (aT×aM):=
 (rz n b0 (bl ((kb.length:Int)+1))).bind λx5=>if decide (x5.1<(kb.length:Int)) then
 (eW kb.length x5.1).bind λiu=>(kb[0+iu]?).bind λeO=>some (eO,x5.2)
 else
 (F93 n x5.2 jy).bind λiu=>some ((aT.mk 3 0 iu.1),iu.2)
def aGW (n:Nat):ajT (Kf n):=λjy b0 b8 kb r h=>be h λx5 kR h=>let zA:SE:=[(4,.call (oP n kR) [(0,0)] [])];ie h (λdt h=>be h λiu j4 h=>be h λeO ic h=>bD h zA [bu dt,(2,dM j4),(0,amE.row ic)]) λdt h=>be h λiu j4 h=>bD h zA [bu dt,(2,.call (NZ n j4) [(0,0)] [])]
def Rz (n:Nat) (params2:aK) (jy:Int) (b0:aM) (b8:aT) (kb:td):Option (aT×aM):=
 Fi (Kf n) n jy params2 (params2.length:Int) 0 b0 b8 kb
def aGV (n:Nat):ajV (Rz n):=λparams2 jy b0 b8 kb r h=>ra (aqr (aGW n) n h) []
def asH (n:Nat) (c0:aM) (dr params2:aK) (jy:Int):Option (aT×aM):=
 Fj (Rz n) n params2 jy dr (dr.length:Int) 0 c0 (aT.mk 0 0 (aP.mk 0 0 ByteArray.empty)) []
def aGU (n:Nat):K4 (afF []) agY (asH n):=λc0 dr params2 jy r h=>ra (aqs (aGV n) n h) [(5,.born [9] [] 29 true 105 5)]
def amR:=asH
def ayy (n:Nat):K4 (Cx E0 169 apk ahO) agY (amR n):=λ_ _ _ _ _ h=>ca (X:=x169) (aGU n h)
def Pj (r:(ah×aM)):AV:=.agg (fp r.1)
def Lw (r:(ah×aM)):List (Nat×Bx):= (rB (fK r.2))
def x134:=fx E0 Tryz.f134 [0]
def Wc:=Ax x134 Pj Lw
def C134:=Cx E0 134 Pj Lw
def aBq (b0:aM) (b8 gH:ah):LS:=⟨[(0,.loc 0 0),(8,.loc 8 0),(11,.loc 11 0)],[(0,pc (fK b0)),(8,.flat 107 q6_),(11,.flat 107 [.int .i64 3,.int .i64 gH.eP,.int .i64 gH.cq.ay,.int .i64 gH.cq.cQ,.int .i64 gH.cq.aD.ay,.int .i64 gH.cq.aD.bZ,.str gH.cq.aD.bB,.int .i64 gH.bL.ay,.int .i64 gH.bL.cQ,.int .i64 gH.bL.aD.ay,.int .i64 gH.bL.aD.bZ,.str gH.bL.aD.bB,.dE])]⟩
def aBp (dr params2:aK) (EE:Int) (b0:aM) (b8:ah):LS:=⟨[(0,.loc 0 0),(1,.slice 3 1 dr.length (eo dr)),(2,.slice 3 1 params2.length (eo params2)),(8,.loc 8 0),(10,.int .i64 EE)],[(0,pc (fK b0)),(8,.flat 107 q6_)]⟩
def aBo (dr params2:aK) (kJ n13:Int) (b0:aM) (b8 bR:ah) (wS:bO):LS:=⟨[(0,.loc 0 0),(1,.slice 3 1 dr.length (eo dr)),(2,.slice 3 1 params2.length (eo params2)),(3,.int .i64 kJ),(8,.loc 8 0),(12,.loc 12 0),(13,.int .i64 n13)],(q13_ (fK b0) b8 bR wS.length wS)⟩
def aBn (b0:aM) (b8 bR:ah) (wS:bO):LS:=⟨[(8,.loc 8 0),(12,.loc 12 0)],(q13_ (fK b0) b8 bR wS.length wS)⟩
def aBm (dr params2:aK) (kJ op9:Int) (t27:Bool) (b0:aM) (b8:ah):LS:=⟨[(0,.loc 0 0),(1,.slice 3 1 dr.length (eo dr)),(2,.slice 3 1 params2.length (eo params2)),(3,.int .i64 kJ),(8,.loc 8 0),(9,.int .i64 op9),(27,.bool t27)],[(0,pc (fK b0)),(8,.flat 107 q6_)]⟩
def KW (c0:aM) (dr params2:aK) (kJ:Int):LS:=⟨[(0,.loc 0 0),(1,.slice 3 1 dr.length (eo dr)),(2,.slice 3 1 params2.length (eo params2)),(3,.int .i64 kJ)],(rB (fK c0))⟩
def Ko (gy:aM->aK->aK->Int->Option (ah×aM)) (n:Nat) (b0:aM) (b8 gH:ah):Option (ah×aM):=
 (Df n b0 6).bind λx2=>if x2.1 then
 some ((ah.mk 3 gH.eP gH.bL gH.cq []),x2.2)
 else
 some ((ah.mk 3 gH.eP gH.cq gH.bL []),x2.2)
def yI:=K4 C134 KW
def arY {gy} (lE:yI gy) (n:Nat):K3 (Wc (cF 8051)) aBq (Ko gy n):=λb0 b8 gH r h=>be h λx2 cX h=>ie h (λdt h=>rr h [(1,.call (cb (rb n cX) dt) [(0,0)] []),(10,.pZ 8 (.flat 0 [.bool true,.bool true,.bool true,.bool true,.bool true,.bool true,.bool true,.bool true,.bool true,.bool true,.bool true,.bool true,.sl 0 107 13 0 []]))]) λdt h=>rr h [(1,.call (cb (rb n cX) dt) [(0,0)] []),(2,.pZ 8 (.flat 0 [.bool true,.bool true,.bool true,.bool true,.bool true,.bool true,.bool true,.bool true,.bool true,.bool true,.bool true,.bool true,.sl 0 107 13 0 []]))]
def Kn (gy:aM->aK->aK->Int->Option (ah×aM)) (n:Nat) (dr params2:aK) (EE:Int) (b0:aM) (b8:ah):Option (ah×aM):=
 (rz n b0 6).bind λx2=>(amR n x2.2 dr params2 EE).bind λx9=>(F93 n x9.2 EE).bind λdY=>(Df n dY.2 3).bind λjQ=>if jQ.1 then
 (amR n jQ.2 dr params2 EE).bind λsM=>Ko gy n sM.2 (ah.mk 0 0 (aT.mk 0 0 (aP.mk 0 0 ByteArray.empty)) (aT.mk 0 0 (aP.mk 0 0 ByteArray.empty)) []) (ah.mk 3 (bl (1+x2.1)) x9.1 sM.1 [])
 else
 Ko gy n jQ.2 (ah.mk 0 0 (aT.mk 0 0 (aP.mk 0 0 ByteArray.empty)) (aT.mk 0 0 (aP.mk 0 0 ByteArray.empty)) []) (ah.mk 3 (bl (1+x2.1)) x9.1 (aT.mk 3 0 dY.1) [])
def arX {gy} (lE:yI gy) (n:Nat):K5 (Wc (cF 1907)) aBp (Kn gy n):=λdr params2 EE b0 b8 r h=>be h λx2 cX h=>be h λx9 iS h=>be h λdY iq h=>be h λjQ j3 h=>let zA:SE:=[(1,.call (oP n cX) [(0,0)] []),(5,.call (ayy n iS) [(0,0)] []),(2,.call (NZ n iq) [(0,0)] [])];ie h (λdt h=>be h λsM xU h=>cI (arY lE n h) zA [(5,.call (cb (rb n j3) dt) [(0,0)] []),(4,.call (ayy n xU) [(0,0)] [])]) λdt h=>cI (arY lE n h) zA [(5,.call (cb (rb n j3) dt) [(0,0)] [])]
def Sq (gy:aM->aK->aK->Int->Option (ah×aM)) (bC:Wf5) (back:aK->aK->Int->Int->aM->ah->ah->bO->Option (ah×aM)) (n:Nat) (dr params2:aK) (kJ n13:Int) (b0:aM) (b8 bR:ah) (wS:bO):Option (ah×aM):=
 if !decide (n13<0) then
 (gy b0 dr params2 (bl (kJ - 1))).bind λdB=>(app wS [dB.1]).bind λdY=>back dr params2 kJ (bl (n13 - 1)) dB.2 (ah.mk b8.bh b8.eP b8.cq b8.bL []) (ah.mk bR.bh bR.eP bR.cq bR.bL dY) dY
 else
 bC b0 (ah.mk b8.bh b8.eP b8.cq b8.bL []) (ah.mk bR.bh bR.eP bR.cq bR.bL wS) wS
def aai:=K4 (Wc [1,1,1,1,1]) aBn
def aah:=K8 (Wc (cF 175)) aBo
def aIC {gy} (lE:yI gy) {bC} (cU:aai bC) {back} (aS:aah back) (n:Nat):aah (Sq gy bC back n):=λdr params2 kJ n13 b0 b8 bR wS r h=>ie h (λdt h=>be h λdB kS h=>be h λdY iq h=>ra (aS h) [bb dt,(7,.call (lE kS) [(0,0)] []),(0,.laid (bN (Bx.rows false 107 13) (eD.map [dB.1]).symm)),(0,eD.kF iq)]) λdt h=>ra (cU h) [bb dt]
def FC (gy:aM->aK->aK->Int->Option (ah×aM)) (bC:Wf5):Nat->aK->aK->Int->Int->aM->ah->ah->bO->Option (ah×aM)
 |0=>λ_ _ _ _ _ _ _ _=>none
 |n+1=>Sq gy bC (FC gy bC n) n
def aqS {gy} (lE:yI gy) {bC} (cU:aai bC):∀n:Nat,aah (FC gy bC n)
 |0=>λ_ _ _ _ _ _ _ _ _ h=>nz h
 |n+1=>aIC lE cU (aqS lE cU n) n
def Sp (gy:aM->aK->aK->Int->Option (ah×aM)) (n:Nat) (b0:aM) (b8 bR:ah) (wS:bO):Option (ah×aM):=
 some ((ah.mk bR.bh bR.eP bR.cq bR.bL wS),b0)
def aIB {gy} (lE:yI gy) (n:Nat):aai (Sp gy n):=λb0 b8 bR wS r h=>rr h [(2,eD.fX 104 wS),(0,.pZ 8 (.flat 0 [.bool true,.bool true,.bool true,.bool true,.bool true,.bool true,.bool true,.bool true,.bool true,.bool true,.bool true,.bool true,.sl 0 0 0 0 []]))]
def w5 (gy:aM->aK->aK->Int->Option (ah×aM)) (n:Nat) (dr params2:aK) (kJ op9:Int) (t27:Bool) (b0:aM) (b8:ah):Option (ah×aM):=
 if t27 then
 if decide (0<(dr.length:Int)) then
 (rz n b0 (dr.length:Int)).bind λx9=>(idx dr x9.1).bind λdy=>Kn gy n dr params2 dy x9.2 (ah.mk 0 0 (aT.mk 0 0 (aP.mk 0 0 ByteArray.empty)) (aT.mk 0 0 (aP.mk 0 0 ByteArray.empty)) [])
 else
 Kn gy n dr params2 4 b0 (ah.mk 0 0 (aT.mk 0 0 (aP.mk 0 0 ByteArray.empty)) (aT.mk 0 0 (aP.mk 0 0 ByteArray.empty)) [])
 else
 if op9==6 then
 (gy b0 dr params2 (bl (kJ - 1))).bind λx9=>some ((ah.mk 6 0 (aT.mk 0 0 (aP.mk 0 0 ByteArray.empty)) (aT.mk 0 0 (aP.mk 0 0 ByteArray.empty)) [x9.1]),x9.2)
 else
 (rz n b0 3).bind λdy=>FC gy (Sp gy n) n dr params2 kJ dy.1 dy.2 (ah.mk 0 0 (aT.mk 0 0 (aP.mk 0 0 ByteArray.empty)) (aT.mk 0 0 (aP.mk 0 0 ByteArray.empty)) []) (ah.mk (bl ((bl (4+op9)) - 7)) 0 (aT.mk 0 0 (aP.mk 0 0 ByteArray.empty)) (aT.mk 0 0 (aP.mk 0 0 ByteArray.empty)) []) []
def Qw {gy} (lE:yI gy) (n:Nat):K7 (Wc (cF 243)) aBm (w5 gy n):=λdr params2 kJ op9 t27 b0 b8 r h=>ie h (λdt bI=>by subst dt;exact (ie bI (λc1 bI=>be bI λx9 iS bI=>be bI λdy ga bI=>ra (arX lE n bI) [bj c1,(4,.call (oP n iS) [(0,0)] []),(0,R3.idx ga)]) λc1 bI=>ra (arX lE n bI) [bj c1])) λdt bI=>by subst dt;exact (ie bI (λc1 bI=>be bI λx9 iS bI=>rr bI [bb c1,(6,.call (lE iS) [(0,0)] []),(0,.laid (bN (Bx.rows false 107 13) (eD.map [x9.1]).symm)),(2,eD.fX 83 [x9.1])]) λc1 bI=>be bI λdy ga bI=>ra (aqS lE (aIB lE n) n bI) [bb c1,(8,.call (oP n ga) [(0,0)] []),(1,.born [] [(12,12)] 104 true 107 13)])
def afp (gy:aM->aK->aK->Int->Option (ah×aM)) (n:Nat) (c0:aM) (dr params2:aK) (kJ:Int):Option (ah×aM):=
 (rz n c0 9).bind λx3=>if x3.1==0 then
 (Df n x3.2 2).bind λdB=>if dB.1 then
 (rz n dB.2 2).bind λfj=>some ((ah.mk (bl (1+fj.1)) 0 (aT.mk 0 0 (aP.mk 0 0 ByteArray.empty)) (aT.mk 0 0 (aP.mk 0 0 ByteArray.empty)) []),fj.2)
 else
 if decide (x3.1<6) then
 w5 gy n dr params2 kJ x3.1 true dB.2 (ah.mk 0 0 (aT.mk 0 0 (aP.mk 0 0 ByteArray.empty)) (aT.mk 0 0 (aP.mk 0 0 ByteArray.empty)) [])
 else
 w5 gy n dr params2 kJ x3.1 (decide (kJ<1)) dB.2 (ah.mk 0 0 (aT.mk 0 0 (aP.mk 0 0 ByteArray.empty)) (aT.mk 0 0 (aP.mk 0 0 ByteArray.empty)) [])
 else
 if decide (x3.1<6) then
 w5 gy n dr params2 kJ x3.1 true x3.2 (ah.mk 0 0 (aT.mk 0 0 (aP.mk 0 0 ByteArray.empty)) (aT.mk 0 0 (aP.mk 0 0 ByteArray.empty)) [])
 else
 w5 gy n dr params2 kJ x3.1 (decide (kJ<1)) x3.2 (ah.mk 0 0 (aT.mk 0 0 (aP.mk 0 0 ByteArray.empty)) (aT.mk 0 0 (aP.mk 0 0 ByteArray.empty)) [])
def aIA {gy} (lE:yI gy) (n:Nat):K4 (Wc []) KW (afp gy n):=λc0 dr params2 kJ r h=>be h λx3 eY h=>let zA:SE:=[(2,.call (oP n eY) [(0,0)] [])];ie h (λdt h=>be h λdB kS h=>ie h (λc1 h=>be h λfj mO h=>bD h zA [aZ dt,(2,.call (cb (rb n kS) c1) [(0,0)] []),(3,.call (oP n mO) [(0,0)] []),(3,.pZ 8 (.flat 0 [.bool true,.bool true,.bool true,.bool true,.bool true,.bool true,.bool true,.bool true,.bool true,.bool true,.bool true,.bool true,.sl 0 107 13 0 []]))]) λc1 h=>let zB:SE:=dJ zA [aZ dt,(2,.call (cb (rb n kS) c1) [(0,0)] [])];ie h (λc2 h=>cI (Qw lE n h) zB [bj c2]) λc2 h=>cI (Qw lE n h) zB [bj c2]) λdt h=>ie h (λc1 h=>cI (Qw lE n h) zA [aZ dt,bu c1]) λc1 h=>cI (Qw lE n h) zA [aZ dt,bu c1]
def Ch:Nat->aM->aK->aK->Int->Option (ah×aM)
 |0,_,_,_,_=>none
 |n+1,c0,dr,params2,kJ=>afp (Ch n) n c0 dr params2 kJ
def alA:∀n:Nat,yI (Ch n)
 |0=>λ_ _ _ _ _ h=>nz h
 |n+1=>λ_ _ _ _ _ h=>ca (X:=x134) (aIA (alA n) n h)
def dv (r:Bool):AV:=.bool r
def x175:=fx E0 Tryz.f175 []
def A175:=Ax x175 dv bQ
def agV (k0:Int):LS:=⟨[(0,cm k0)],[]⟩
def aeF (n:Nat) (k0:Int):Option Bool:=
 if k0==3 then
 some true
 else
 if k0==4 then
 some true
 else
 some (k0==5)
def aGE (n:Nat):K1 (A175 []) agV (aeF n):=λk0 r h=>ie h (λc0 h=>rr h [aZ c0]) λc0 h=>ie h (λc1 h=>rr h [aZ c0,aZ c1]) λc1 h=>rr h [aZ c0,aZ c1]
def adI:=aeF
def ays (n:Nat):K1 (Cx E0 175 dv bQ) agV (adI n):=λ_ _ h=>ca (X:=x175) (aGE n h)
def x170:=fx E0 Tryz.f170 []
def aww:=Ax x170 dv bQ
def agX (t5:aK) (t6 t7:Int):LS:=⟨[(5,.slice 3 1 t5.length (eo t5)),(6,.int .i64 t6),(7,.int .i64 t7)],[]⟩
def aAp:LS:=⟨[],[]⟩
def agW (l0:aK):LS:=⟨[(0,.slice 3 1 l0.length (eo l0))],[]⟩
def Ry (aO:Option Bool) (back:aK->Int->Int->Option Bool) (n:Nat) (t5:aK) (t6 t7:Int):Option Bool:=
 if decide (t7<t6) then
 (idx t5 t7).bind λx2=>(adI n x2).bind λx7=>if !x7 then
 some false
 else
 back t5 t6 (bl (t7+1))
 else
 aO
def aag:=K0 (aww [1,1]) aAp
def aaf:=K3 (aww [0,1,0,1]) agX
def aGT {aO} (bq:aag aO) {back} (aS:aaf back) (n:Nat):aaf (Ry aO back n):=λt5 t6 t7 r h=>ie h (λc0 h=>be h λx2 cX h=>be h λx7 jK h=>let zA:SE:=[aI c0,(0,R3.idx cX),kH (ays n jK)];ie h (λc1 h=>bD h zA [aI c1]) λc1 h=>cI (aS h) zA [aI c1]) λc0 h=>ra (bq h) [aI c0]
def Fh (aO:Option Bool):Nat->aK->Int->Int->Option Bool
 |0=>λ_ _ _=>none
 |n+1=>Ry aO (Fh aO n) n
def aqq {aO} (bq:aag aO):∀n:Nat,aaf (Fh aO n)
 |0=>λ_ _ _ _ h=>nz h
 |n+1=>aGT bq (aqq bq n) n
def aeM (n:Nat):Option Bool:=
 some true
def aGS (n:Nat):aag (aeM n):=λr h=>rr h []
def aeL (n:Nat) (l0:aK):Option Bool:=
 Fh (aeM n) n l0 (l0.length:Int) 0
def aGR (n:Nat):K1 (aww []) agW (aeL n):=λl0 r h=>ra (aqq (aGS n) n h) []
def adK:=aeL
def ayx (n:Nat):K1 (Cx E0 170 dv bQ) agW (adK n):=λ_ _ h=>ca (X:=x170) (aGR n h)
def ee (r:Int):AV:=.int .i64 r
def x171:=fx E0 Tryz.f171 []
def awv:=Ax x171 ee bQ
def C171:=Cx E0 171 ee bQ
def aAo (n1 i5:Int) (b2:ah):LS:=⟨[(1,cm n1),(2,.loc 2 0),(5,cm i5)],[(2,qS (fp b2))]⟩
def aAn (n1:Int):LS:=⟨[(1,cm n1)],[]⟩
def KQ (p0:ah) (n1:Int):LS:=⟨[(0,.agg (fp p0)),(1,cm n1)],[]⟩
def Rw (nH:ah->Int->Option Int) (aO:Wf6) (back:Int->Int->ah->Option Int) (n:Nat) (n1 i5:Int) (b2:ah):Option Int:=
 if decide (i5<(b2.fArgs.length:Int)) then
 if !decide (24<n1) then
 (idx b2.fArgs i5).bind λdY=>(nH dY n1).bind λiL=>back iL (bl (i5+1)) b2
 else
 aO n1
 else
 aO n1
def Iz:=K2 C171 KQ
def aae:=K1 (awv [1,1,1]) aAn
def aad:=K3 (awv [0,1,0,1,1]) aAo
def aGQ {nH} (yT:Iz nH) {aO} (bq:aae aO) {back} (aS:aad back) (n:Nat):aad (Rw nH aO back n):=λn1 i5 b2 r h=>ie h (λc0 h=>ie h (λc1 h=>be h λdY iq h=>be h λiL kh h=>ra (aS h) [bu c0,aZ c1,(4,eD.idx iq),iW (yT kh)]) λc1 h=>ra (bq h) [bu c0,aZ c1]) λc0 h=>ra (bq h) [bu c0]
def Fg (nH:ah->Int->Option Int) (aO:Wf6):Nat->Int->Int->ah->Option Int
 |0=>λ_ _ _=>none
 |n+1=>Rw nH aO (Fg nH aO n) n
def aqp {nH} (yT:Iz nH) {aO} (bq:aae aO):∀n:Nat,aad (Fg nH aO n)
 |0=>λ_ _ _ _ h=>nz h
 |n+1=>aGQ yT bq (aqp yT bq n) n
def asG (nH:ah->Int->Option Int) (n:Nat) (n1:Int):Option Int:=
 some n1
def aGP {nH} (yT:Iz nH) (n:Nat):aae (asG nH n):=λn1 r h=>rr h []
def aeK (nH:ah->Int->Option Int) (n:Nat) (p0:ah) (n1:Int):Option Int:=
 Fg nH (asG nH n) n (bl (n1+1)) 0 p0
def aGO {nH} (yT:Iz nH) (n:Nat):K2 (awv []) KQ (aeK nH n):=λp0 n1 r h=>ra (aqp yT (aGP yT n) n h) []
def VU:Nat->ah->Int->Option Int
 |0,_,_=>none
 |n+1,p0,n1=>aeK (VU n) n p0 n1
def ayw:∀n:Nat,Iz (VU n)
 |0=>λ_ _ _ h=>nz h
 |n+1=>λ_ _ _ h=>ca (X:=x171) (aGO (ayw n) n h)
def x172:=fx E0 Tryz.f172 []
def awu:=Ax x172 dv bQ
def C172:=Cx E0 172 dv bQ
def aAm (n1 t10 t11:Int) (b2:ah):LS:=⟨[(1,cm n1),(2,.loc 2 0),(10,cm t10),(11,cm t11)],[(2,qS (fp b2))]⟩
def aAl:LS:=⟨[],[]⟩
def Rv (nG:ah->Int->Option Bool) (aO:Option Bool) (back:Int->Int->Int->ah->Option Bool) (n:Nat) (n1 t10 t11:Int) (b2:ah):Option Bool:=
 if decide (t11<t10) then
 (idx b2.fArgs t11).bind λx7=>(nG x7 (bl (n1 - 1))).bind λgS=>if gS then
 some true
 else
 back n1 t10 (bl (t11+1)) b2
 else
 aO
def Iy:=K2 C172 KQ
def aac:=K0 (awu [1,1,1]) aAl
def aab:=K4 (awu [0,1,0,1,1]) aAm
def aGN {nG} (yS:Iy nG) {aO} (bq:aac aO) {back} (aS:aab back) (n:Nat):aab (Rv nG aO back n):=λn1 t10 t11 b2 r h=>ie h (λc0 h=>be h λx7 jK h=>be h λgS jG h=>let zA:SE:=[aI c0,(5,eD.idx jK),kH (yS jG)];ie h (λc1 bI=>by subst c1;exact (rr bI zA)) λc1 bI=>by subst c1;exact (ra (aS bI) zA)) λc0 h=>ra (bq h) [aI c0]
def Ff (nG:ah->Int->Option Bool) (aO:Option Bool):Nat->Int->Int->Int->ah->Option Bool
 |0=>λ_ _ _ _=>none
 |n+1=>Rv nG aO (Ff nG aO n) n
def aqo {nG} (yS:Iy nG) {aO} (bq:aac aO):∀n:Nat,aab (Ff nG aO n)
 |0=>λ_ _ _ _ _ h=>nz h
 |n+1=>aGN yS bq (aqo yS bq n) n
def aeJ (nG:ah->Int->Option Bool) (n:Nat):Option Bool:=
 some false
def aGM {nG} (yS:Iy nG) (n:Nat):aac (aeJ nG n):=λr h=>rr h []
def Ru (nG:ah->Int->Option Bool) (n:Nat) (p0:ah) (n1:Int):Option Bool:=
 if n1==0 then
 some true
 else
 Ff nG (aeJ nG n) n n1 (p0.fArgs.length:Int) 0 p0
def aGL {nG} (yS:Iy nG) (n:Nat):K2 (awu []) KQ (Ru nG n):=λp0 n1 r h=>ie h (λc0 h=>rr h [bj c0]) λc0 h=>ra (aqo yS (aGM yS n) n h) [bj c0]
def J6:Nat->ah->Int->Option Bool
 |0,_,_=>none
 |n+1,p0,n1=>Ru (J6 n) n p0 n1
def ayv:∀n:Nat,Iy (J6 n)
 |0=>λ_ _ _ h=>nz h
 |n+1=>λ_ _ _ h=>ca (X:=x172) (aGL (ayv n) n h)
def x193:=fx E0 Tryz.f193 []
def A193:=Ax x193 dv bQ
def AF (p0:ah):LS:=⟨[(0,.agg (fp p0))],[]⟩
def aeu (n:Nat) (p0:ah):Option Bool:=
 if p0.eP==0 then
 if ((p0.cq.ay==0) && ((p0.cq.cQ==0) && (((p0.cq.aD.ay==0) && ((p0.cq.aD.bZ==0) && ((decide (p0.cq.aD.bB=ByteArray.empty)) && true))) && true))) then
 some ((p0.bL.ay==0) && ((p0.bL.cQ==0) && (((p0.bL.aD.ay==0) && ((p0.bL.aD.bZ==0) && ((decide (p0.bL.aD.bB=ByteArray.empty)) && true))) && true)))
 else
 some false
 else
 some false
def aGe (n:Nat):K1 (A193 []) AF (aeu n):=λp0 r h=>ie h (λc0 h=>ie h (λc1 h=>rr h [bu c0,bu c1]) λc1 h=>rr h [bu c0,bu c1]) λc0 h=>rr h [bu c0]
def VP:=aeu
def XH (n:Nat):K1 (Cx E0 193 dv bQ) AF (VP n):=λ_ _ h=>ca (X:=x193) (aGe n h)
def x158:=fx E0 Tryz.f158 []
def A158:=Ax x158 dv bQ
def vJ (v0:aP):LS:=⟨[(0,.agg (lP v0))],[]⟩
def aeS (n:Nat) (v0:aP):Option Bool:=
 if v0.ay==1 then
 if v0.bZ==0 then
 some (decide (v0.bB=ByteArray.empty))
 else
 some false
 else
 if v0.ay==2 then
 if v0.bZ==0 then
 some (decide (v0.bB=ByteArray.empty))
 else
 some false
 else
 if v0.ay==3 then
 if v0.bZ==0 then
 some (decide (v0.bB=ByteArray.empty))
 else
 if v0.bZ==1 then
 some (decide (v0.bB=ByteArray.empty))
 else
 some false
 else
 if v0.ay==4 then
 some (decide (v0.bB=ByteArray.empty))
 else
 if v0.ay==5 then
 if v0.bZ==0 then
 some (!decide (64<(v0.bB.size:Int)))
 else
 some false
 else
 some false
def aHe (n:Nat):K1 (A158 []) vJ (aeS n):=λv0 r h=>ie h (λc0 h=>ie h (λc1 h=>rr h [bu c0,bj c1]) λc1 h=>rr h [bu c0,bj c1]) λc0 h=>ie h (λc1 h=>ie h (λc2 h=>rr h [bu c0,bb c1,bj c2]) λc2 h=>rr h [bu c0,bb c1,bj c2]) λc1 h=>let zA:SE:=[bu c0,bb c1];ie h (λc2 h=>ie h (λc3 h=>bD h zA [bb c2,bj c3]) λc3 h=>ie h (λc4 h=>bD h zA [bb c2,bj c3,bj c4]) λc4 h=>bD h zA [bb c2,bj c3,bj c4]) λc2 h=>let zB:SE:=dJ zA [bb c2];ie h (λc3 h=>bD h zB [bb c3]) λc3 h=>ie h (λc4 h=>ie h (λc5 h=>bD h zB [bb c3,bb c4,bj c5]) λc5 h=>bD h zB [bb c3,bb c4,bj c5]) λc4 h=>bD h zB [bb c3,bb c4]
def amV:=aeS
def ayz (n:Nat):K1 (Cx E0 158 dv bQ) vJ (amV n):=λ_ _ h=>ca (X:=x158) (aHe n h)
def x142:=fx E0 Tryz.f142 []
def A142:=Ax x142 dv bQ
def afi (n:Nat) (v0:aP):Option Bool:=
 (amV n v0).bind λx4=>if x4 then
 some (!decide (v0.ay<3))
 else
 some false
def aIc (n:Nat):K1 (A142 []) vJ (afi n):=λv0 r h=>be h λx4 jr h=>ie h (λc0 bI=>by subst c0;exact (rr bI [kH (ayz n jr)])) λc0 bI=>by subst c0;exact (rr bI [kH (ayz n jr)])
def Om:=afi
def XJ (n:Nat):K1 (Cx E0 142 dv bQ) vJ (Om n):=λ_ _ h=>ca (X:=x142) (aIc n h)
def x194:=fx E0 Tryz.f194 []
def A194:=Ax x194 ee bQ
def azQ (LC:aK) (b5:aT):LS:=⟨[(5,.loc 5 0),(7,.slice 3 1 LC.length (eo LC))],[(5,.flat 105 (pR b5))]⟩
def agO (er params1:aK) (o2:aT):LS:=⟨[(0,.slice 3 1 er.length (eo er)),(1,.slice 3 1 params1.length (eo params1)),(2,.agg (pR o2))],[]⟩
def Kd (n:Nat) (LC:aK) (b5:aT):Option Int:=
 if decide (b5.cQ<0) then
 some 0
 else
 if !decide (b5.cQ<(LC.length:Int)) then
 some 0
 else
 if !((b5.aD.ay==0) && ((b5.aD.bZ==0) && ((decide (b5.aD.bB=ByteArray.empty)) && true))) then
 some 0
 else
 (idx LC b5.cQ).bind λjQ=>some jQ
def arQ (n:Nat):K2 (A194 [1,1,1]) azQ (Kd n):=λLC b5 r h=>ie h (λc0 h=>rr h [aZ c0]) λc0 h=>ie h (λc1 h=>rr h [aZ c0,cg c1]) λc1 h=>ie h (λc2 h=>rr h [aZ c0,cg c1,cg c2]) λc2 h=>be h λjQ j3 h=>rr h [aZ c0,cg c1,cg c2,(4,R3.idx j3)]
def aet (n:Nat) (er params1:aK) (o2:aT):Option Int:=
 if o2.ay==3 then
 if o2.cQ !=0 then
 some 0
 else
 (Om n o2.aD).bind λfj=>if !fj then
 some 0
 else
 some o2.aD.ay
 else
 if o2.ay==2 then
 Kd n params1 o2
 else
 if o2.ay==1 then
 Kd n er o2
 else
 some 0
def aGd (n:Nat):K3 (A194 []) agO (aet n):=λer params1 o2 r h=>ie h (λc0 h=>ie h (λc1 h=>rr h [dP c0,bj c1]) λc1 h=>be h λfj mO h=>let zA:SE:=[dP c0,bj c1,kH (XJ n mO)];ie h (λc2 h=>bD h zA [aI c2]) λc2 h=>bD h zA [aI c2]) λc0 h=>ie h (λc1 h=>ra (arQ n h) [dP c0,bb c1]) λc1 h=>ie h (λc2 h=>ra (arQ n h) [dP c0,bb c1,bb c2]) λc2 h=>rr h [dP c0,bb c1,bb c2]
def adD:=aet
def ayk (n:Nat):K3 (Cx E0 194 ee bQ) agO (adD n):=λ_ _ _ _ h=>ca (X:=x194) (aGd n h)
def x173:=fx E0 Tryz.f173 []
def aoa:=Ax x173 dv bQ
def C173:=Cx E0 173 dv bQ
def aAk (er params1:aK) (t70 t71:Int) (b5:ah):LS:=⟨[(0,.slice 3 1 er.length (eo er)),(1,.slice 3 1 params1.length (eo params1)),(5,.loc 5 0),(70,.int .i64 t70),(71,.int .i64 t71)],[(5,qS (fp b5))]⟩
def aAj:LS:=⟨[],[]⟩
def aAi (er params1:aK) (b5:ah):LS:=⟨[(0,.slice 3 1 er.length (eo er)),(1,.slice 3 1 params1.length (eo params1)),(5,.loc 5 0)],[(5,qS (fp b5))]⟩
def AG (er params1:aK) (p2:ah):LS:=⟨[(0,.slice 3 1 er.length (eo er)),(1,.slice 3 1 params1.length (eo params1)),(2,.agg (fp p2))],[]⟩
def Rt (kg:aK->aK->ah->Option Bool) (aO:Option Bool) (back:aK->aK->Int->Int->ah->Option Bool) (n:Nat) (er params1:aK) (t70 t71:Int) (b5:ah):Option Bool:=
 if decide (t71<t70) then
 (idx b5.fArgs t71).bind λx9=>(kg er params1 x9).bind λgS=>if !gS then
 some false
 else
 back er params1 t70 (bl (t71+1)) b5
 else
 aO
def Ec:=K3 C173 AG
def aaa:=K0 (aoa [1,1,1,1]) aAj
def Z9:=K5 (aoa (cF 87)) aAk
def aGK {kg} (se:Ec kg) {aO} (bq:aaa aO) {back} (aS:Z9 back) (n:Nat):Z9 (Rt kg aO back n):=λer params1 t70 t71 b5 r h=>ie h (λc0 h=>be h λx9 iS h=>be h λgS jG h=>let zA:SE:=[aI c0,(7,eD.idx iS),yu (se jG)];ie h (λc1 h=>bD h zA [aI c1]) λc1 h=>cI (aS h) zA [aI c1]) λc0 h=>ra (bq h) [aI c0]
def B2 (kg:aK->aK->ah->Option Bool) (aO:Option Bool):Nat->aK->aK->Int->Int->ah->Option Bool
 |0=>λ_ _ _ _ _=>none
 |n+1=>Rt kg aO (B2 kg aO n) n
def aqn {kg} (se:Ec kg) {aO} (bq:aaa aO):∀n:Nat,Z9 (B2 kg aO n)
 |0=>λ_ _ _ _ _ _ h=>nz h
 |n+1=>aGK se bq (aqn se bq n) n
def aeI (kg:aK->aK->ah->Option Bool) (n:Nat):Option Bool:=
 some true
def aGJ {kg} (se:Ec kg) (n:Nat):aaa (aeI kg n):=λr h=>rr h []
def FU (kg:aK->aK->ah->Option Bool) (n:Nat) (er params1:aK) (b5:ah):Option Bool:=
 (VP n b5).bind λx2=>if !x2 then
 some false
 else
 B2 kg (aeI kg n) n er params1 (b5.fArgs.length:Int) 0 b5
def acI {kg} (se:Ec kg) (n:Nat):K3 (aoa [1,1]) aAi (FU kg n):=λer params1 b5 r h=>be h λx2 cX h=>ie h (λc0 h=>rr h [yu (XH n cX),aI c0]) λc0 h=>ra (aqn se (aGJ se n) n h) [yu (XH n cX),aI c0]
def aeH (kg:aK->aK->ah->Option Bool) (n:Nat) (er params1:aK) (p2:ah):Option Bool:=
 if p2.bh==1 then
 (VP n p2).bind λx8=>if x8 then
 some ((p2.fArgs.length:Int)==0)
 else
 some false
 else
 if p2.bh==2 then
 (VP n p2).bind λdB=>if dB then
 some ((p2.fArgs.length:Int)==0)
 else
 some false
 else
 if p2.bh==3 then
 (adD n er params1 p2.cq).bind λfj=>if (p2.fArgs.length:Int)==0 then
 if !decide (p2.eP<1) then
 if !decide (6<p2.eP) then
 if fj !=0 then
 (adD n er params1 p2.bL).bind λD4=>some (fj==D4)
 else
 some false
 else
 some false
 else
 some false
 else
 some false
 else
 if p2.bh==4 then
 FU kg n er params1 p2
 else
 if p2.bh==5 then
 FU kg n er params1 p2
 else
 if p2.bh==6 then
 if (p2.fArgs.length:Int) !=1 then
 some false
 else
 FU kg n er params1 p2
 else
 some false
def aGI {kg} (se:Ec kg) (n:Nat):K3 (aoa []) AG (aeH kg n):=λer params1 p2 r h=>ie h (λc0 h=>be h λx8 oK h=>let zA:SE:=[bu c0,iW (XH n oK)];ie h (λc1 bI=>by subst c1;exact (rr bI zA)) λc1 bI=>by subst c1;exact (rr bI zA)) λc0 h=>let zA:SE:=[bu c0];ie h (λc1 h=>be h λdB kS h=>let zB:SE:=dJ zA [bb c1,iW (XH n kS)];ie h (λc2 bI=>by subst c2;exact (rr bI zB)) λc2 bI=>by subst c2;exact (rr bI zB)) λc1 h=>let zB:SE:=dJ zA [bb c1];ie h (λc2 h=>be h λfj mO h=>let zC:SE:=dJ zB [bb c2,oZ (ayk n mO)];ie h (λc3 h=>let zD:SE:=dJ zC [bu c3];ie h (λc4 h=>ie h (λc5 h=>ie h (λc6 h=>be h λD4 abJ h=>bD h zD [bj c4,bu c5,bj c6,yr (ayk n abJ)]) λc6 h=>bD h zD [bj c4,bu c5,bj c6]) λc5 h=>bD h zD [bj c4,bu c5]) λc4 h=>bD h zD [bj c4]) λc3 h=>bD h zC [bu c3]) λc2 h=>let zC:SE:=dJ zB [bb c2];ie h (λc3 h=>cI (acI se n h) zC [bb c3]) λc3 h=>let zD:SE:=dJ zC [bb c3];ie h (λc4 h=>cI (acI se n h) zD [bb c4]) λc4 h=>ie h (λc5 h=>ie h (λc6 h=>bD h zD [bb c4,bb c5,bu c6]) λc6 h=>cI (acI se n h) zD [bb c4,bb c5,bu c6]) λc5 h=>bD h zD [bb c4,bb c5]
def J5:Nat->aK->aK->ah->Option Bool
 |0,_,_,_=>none
 |n+1,er,params1,p2=>aeH (J5 n) n er params1 p2
def ayu:∀n:Nat,Ec (J5 n)
 |0=>λ_ _ _ _ h=>nz h
 |n+1=>λ_ _ _ _ h=>ca (X:=x173) (aGI (ayu n) n h)
def x135:=fx E0 Tryz.f135 []
def A135:=Ax x135 ee bQ
def afo (n:Nat) (er params1:aK) (p2:ah):Option Int:=
 (adK n er).bind λx4=>if !x4 then
 some 1
 else
 (adK n params1).bind λx9=>if !x9 then
 some 1
 else
 (VU n p2 0).bind λiu=>if decide (24<iu) then
 some 2
 else
 (J6 n p2 8).bind λir=>if ir then
 some 2
 else
 (J5 n er params1 p2).bind λgg=>if !gg then
 some 50
 else
 some 0
def aIz (n:Nat):K3 (A135 []) AG (afo n):=λer params1 p2 r h=>be h λx4 jr h=>let zA:SE:=[kH (ayx n jr)];ie h (λc0 h=>bD h zA [aI c0]) λc0 h=>be h λx9 iS h=>let zB:SE:=dJ zA [aI c0,iW (ayx n iS)];ie h (λc1 h=>bD h zB [aI c1]) λc1 h=>be h λiu j4 h=>let zC:SE:=dJ zB [aI c1,iW (ayw n j4)];ie h (λc2 h=>bD h zC [aI c2]) λc2 h=>be h λir mN h=>let zD:SE:=dJ zC [aI c2,iW (ayv n mN)];ie h (λc3 bI=>by subst c3;exact (rr bI zD)) λc3 bI=>by subst c3;exact (be bI λgg ll bI=>let zE:SE:=dJ zD [mY (ayu n ll)];ie bI (λc4 bI=>bD bI zE [aI c4]) λc4 bI=>bD bI zE [aI c4])
def aea:=afo
def ayH (n:Nat):K3 (Cx E0 135 ee bQ) AG (aea n):=λ_ _ _ _ h=>ca (X:=x135) (aIz n h)
def x92:=fx E0 Tryz.f92 [0]
def A92:=Ax x92 Pj Lw
def ano (n:Nat) (c0:aM) (dr params2:aK) (kJ:Int):Option (ah×aM):=
 (Ch n c0 dr params2 kJ).bind λx6=>(aea n dr params2 x6.1).bind λdY=>if dY==2 then
 (Ch n x6.2 dr params2 1).bind λir=>some (ir.1,ir.2)
 else
 some (x6.1,x6.2)
def aLw (n:Nat):K4 (A92 []) KW (ano n):=λc0 dr params2 kJ r h=>be h λx6 lD h=>be h λdY iq h=>let zA:SE:=[(5,.call (alA n lD) [(0,0)] []),oZ (ayH n iq)];ie h (λdt h=>be h λir mN h=>bD h zA [aI dt,(3,.call (alA n mN) [(0,0)] [])]) λdt h=>bD h zA [aI dt]
def F92:=ano
def ev92 (n:Nat):K4 (Cx E0 92 Pj Lw) KW (F92 n):=λ_ _ _ _ _ h=>ca (X:=x92) (aLw n h)
def axb (r:(ag×aM)):AV:=.agg (dD r.1)
def apC (r:(ag×aM)):List (Nat×Bx):= (rB (fK r.2))
def x38:=fx E0 Tryz.f38 [0]
def A38:=Ax x38 axb apC
def aEA (b0:aM) (b2 b5:ag) (fH:bn):LS:=⟨[(0,.loc 0 0),(2,.loc 2 0),(5,.loc 5 0)],[(0,pc (fK b0)),(2,akw),(5,U4 b5 fH.length),(32,.rows false 44 5 (cP fH))]⟩
def aoG (n3:Int) (b0:aM) (b2 b5:ag) (fH:bn):LS:=⟨[(0,.loc 0 0),(2,.loc 2 0),(3,cm n3),(5,.loc 5 0)],[(0,pc (fK b0)),(2,akw),(5,U4 b5 fH.length),(32,.rows false 44 5 (cP fH))]⟩
def aEz (n3 id4:Int) (b0:aM) (b2:ag):LS:=⟨[(0,.loc 0 0),(2,.loc 2 0),(3,cm n3),(4,cm id4)],[(0,pc (fK b0)),(2,akw)]⟩
def HD (n:Nat) (b0:aM) (b2 b5:ag) (fH:bn):Option (ag×aM):=
 (Df n b0 3).bind λx2=>if x2.1 then
 (F50 n (ag.mk b5.ax fH) 1).bind λx8=>(F92 n x2.2 x8 [] 1).bind λdB=>(eW fH.length 1).bind λdY=>(fH[0+dY]?).bind λeO=>(setAt fH (0+dY) (aj.mk eO.av eO.ae eO.aw eO.af [dB.1])).bind λz18=>some ((ag.mk b5.ax z18),dB.2)
 else
 some ((ag.mk b5.ax fH),x2.2)
def ami (n:Nat):K4 (A38 (cF 1023)) aEA (HD n):=λb0 b2 b5 fH r h=>be h λx2 cX h=>ie h (λdt h=>be h λx8 oK h=>be h λdB kS h=>be h λdY iq h=>be h λeO ic h=>be h λz18 Vk h=>rr h [(1,.call (cb (rb n cX) dt) [(0,0)] []),(4,.Aq (avg n oK) [bW.fX 32 fH] (R3.noDR (λ_=>by kernel_rfl) x8) [] [(80,cV)] [R3.fX 80 x8]),(0,.call (ev92 n kS) [(0,0)] []),(0,.laid (bN (Bx.rows false 107 13) (eD.map [dB.1]).symm)),(0,dM iq),(1,bW.hol 4 ic),(0,eD.fX 82 [dB.1]),(0,bW.clo 32 4 (.slice 107 13 [dB.1].length (aJ [dB.1])) .undef ic Vk (by kernel_rfl)),(2,.seq 77 (bN (AV.ms 32 5 0) (eu Vk))),(0,.seq 79 (bN (λn_=>(AV.agg [q7_ b5,.ms 32 5 0 n_])) (eu Vk))),(0,.seq 85 (bN (λn_=>(AV.agg [q7_ b5,.ms 32 5 0 n_])) (eu Vk))),(0,.beq 2 (bN (U4 b5) (eu Vk))),(0,.beq 5 (bN (U4 b5) (eu Vk))),(0,bW.fX 32 z18)]) λdt h=>rr h [(1,.call (cb (rb n cX) dt) [(0,0)] []),(2,bW.fX 32 fH)]
def Di (n:Nat) (n3:Int) (b0:aM) (b2 b5:ag) (fH:bn):Option (ag×aM):=
 if decide (3<n3) then
 (Df n b0 3).bind λx5=>if x5.1 then
 (eW fH.length 3).bind λdY=>(fH[0+dY]?).bind λeO=>(setAt fH (0+dY) (aj.mk eO.av eO.ae eO.aw [(bk.mk [0] 1)] eO.ak)).bind λqL=>HD n x5.2 (ag.mk 0 []) (ag.mk b5.ax qL) qL
 else
 HD n x5.2 (ag.mk 0 []) (ag.mk b5.ax fH) fH
 else
 HD n b0 (ag.mk 0 []) (ag.mk b5.ax fH) fH
def amh (n:Nat):K5 (A38 (cF 511)) aoG (Di n):=λn3 b0 b2 b5 fH r h=>ie h (λdt h=>be h λx5 kR h=>ie h (λc1 h=>be h λdY iq h=>be h λeO ic h=>be h λqL np h=>ra (ami n h) [bb dt,(2,.call (cb (rb n kR) c1) [(0,0)] []),(5,R3.fX 69 [0]),(1,dM iq),(1,eQ.fX 71 [(bk.mk [0] 1)]),(0,bW.uF 3 [.slice 121 2 [(bk.mk [0] 1)].length (aR [(bk.mk [0] 1)])] ic np (by kernel_rfl)),(0,.beq 5 (bN (U4 b5) (eu np)))]) λc1 h=>ra (ami n h) [bb dt,(2,.call (cb (rb n kR) c1) [(0,0)] [])]) λdt h=>ra (ami n h) [bb dt]
def HB (n:Nat) (n3:Int) (b0:aM) (b2 b5:ag) (fH:bn):Option (ag×aM):=
 if decide (2<n3) then
 (Df n b0 3).bind λx5=>if x5.1 then
 (eW fH.length 2).bind λdY=>(fH[0+dY]?).bind λeO=>(setAt fH (0+dY) (aj.mk eO.av eO.ae eO.aw [(bk.mk [0] 0)] eO.ak)).bind λqL=>Di n n3 x5.2 (ag.mk 0 []) (ag.mk b5.ax qL) qL
 else
 Di n n3 x5.2 (ag.mk 0 []) (ag.mk b5.ax fH) fH
 else
 Di n n3 b0 (ag.mk 0 []) (ag.mk b5.ax fH) fH
def azf (n:Nat):K5 (A38 (cF 255)) aoG (HB n):=λn3 b0 b2 b5 fH r h=>ie h (λdt h=>be h λx5 kR h=>ie h (λc1 h=>be h λdY iq h=>be h λeO ic h=>be h λqL np h=>ra (amh n h) [bb dt,(2,.call (cb (rb n kR) c1) [(0,0)] []),(5,R3.fX 56 [0]),(1,dM iq),(1,eQ.fX 58 [(bk.mk [0] 0)]),(0,bW.uF 3 [.slice 121 2 [(bk.mk [0] 0)].length (aR [(bk.mk [0] 0)])] ic np (by kernel_rfl)),(0,.beq 5 (bN (U4 b5) (eu np)))]) λc1 h=>ra (amh n h) [bb dt,(2,.call (cb (rb n kR) c1) [(0,0)] [])]) λdt h=>ra (amh n h) [bb dt]
def QY (n:Nat) (n3 id4:Int) (b0:aM) (b2:ag):Option (ag×aM):=
 (rz n b0 3).bind λx2=>(Cf n (ByteArray.mk #[105,100]) 4).bind λx4=>(Cf n (ByteArray.mk #[111,119,110,101,114]) 4).bind λx6=>(Cf n (ByteArray.mk #[105,100]) id4).bind λdy=>(Cf n (ByteArray.mk #[112,114,111,106,101,99,116]) 4).bind λdY=>(Cf n (ByteArray.mk #[116,105,116,108,101]) 5).bind λfj=>(Cf n (ByteArray.mk #[100,111,110,101]) 3).bind λiL=>(Cf n (ByteArray.mk #[112,114,111,106,101,99,116]) 4).bind λpG=>(Cf n (ByteArray.mk #[112,101,114,115,111,110]) 4).bind λiK=>(Cf n (ByteArray.mk #[116,97,115,107]) id4).bind λnD=>(tE 4 n3).bind λrV=>(Df n x2.2 2).bind λx44=>if x44.1 then
 (eW rV 1).bind λIg=>([(aj.mk (ByteArray.mk #[112,114,111,106,101,99,116,115]) [x4,x6] 1 [] []),(aj.mk (ByteArray.mk #[116,97,115,107,115]) [dy,dY,fj,iL] 1 [] []),(aj.mk (ByteArray.mk #[109,101,109,98,101,114,115]) [pG,iK] 2 [] []),(aj.mk (ByteArray.mk #[97,114,99,104,105,118,101,100]) [nD] 1 [] [])][0+Ig]?).bind λIe=>(setAt [(aj.mk (ByteArray.mk #[112,114,111,106,101,99,116,115]) [x4,x6] 1 [] []),(aj.mk (ByteArray.mk #[116,97,115,107,115]) [dy,dY,fj,iL] 1 [] []),(aj.mk (ByteArray.mk #[109,101,109,98,101,114,115]) [pG,iK] 2 [] []),(aj.mk (ByteArray.mk #[97,114,99,104,105,118,101,100]) [nD] 1 [] [])] (0+Ig) (aj.mk Ie.av Ie.ae Ie.aw [(bk.mk [1] 0)] Ie.ak)).bind λz55=>HB n n3 x44.2 (ag.mk 0 []) (ag.mk x2.1 (z55.take rV)) (z55.take rV)
 else
 HB n n3 x44.2 (ag.mk 0 []) (ag.mk x2.1 ([(aj.mk (ByteArray.mk #[112,114,111,106,101,99,116,115]) [x4,x6] 1 [] []),(aj.mk (ByteArray.mk #[116,97,115,107,115]) [dy,dY,fj,iL] 1 [] []),(aj.mk (ByteArray.mk #[109,101,109,98,101,114,115]) [pG,iK] 2 [] []),(aj.mk (ByteArray.mk #[97,114,99,104,105,118,101,100]) [nD] 1 [] [])].take rV)) ([(aj.mk (ByteArray.mk #[112,114,111,106,101,99,116,115]) [x4,x6] 1 [] []),(aj.mk (ByteArray.mk #[116,97,115,107,115]) [dy,dY,fj,iL] 1 [] []),(aj.mk (ByteArray.mk #[109,101,109,98,101,114,115]) [pG,iK] 2 [] []),(aj.mk (ByteArray.mk #[97,114,99,104,105,118,101,100]) [nD] 1 [] [])].take rV)
def aze (n:Nat):K4 (A38 [1,1,1,1]) aEz (QY n):=λn3 id4 b0 b2 r h=>be h λx2 cX h=>be h λx4 jr h=>be h λx6 lD h=>be h λdy ga h=>be h λdY iq h=>be h λfj mO h=>be h λiL kh h=>be h λpG xV h=>be h λiK tv h=>be h λnD sK h=>be h λrV Bs h=>be h λx44 alc h=>let zA:SE:=[(1,.call (oP n cX) [(0,0)] []),om (BM n jr),om (BM n lD),kH (BM n ga),om (BM n iq),om (BM n mO),om (BM n kh),iW (BM n xV),om (BM n tv),kH (BM n sK),(2,eJ.fX 15 [x4,x6]),(0,.zN 16 (.agg [.bool true,.bool true,.bool true,.sl 0 121 2 0 [],.sl 0 107 13 0 []])),(0,eJ.fX 22 [dy,dY,fj,iL]),(0,.zN 23 (.agg [.bool true,.bool true,.bool true,.sl 0 121 2 0 [],.sl 0 107 13 0 []])),(0,eJ.fX 26 [pG,iK]),(0,.zN 27 (.agg [.bool true,.bool true,.bool true,.sl 0 121 2 0 [],.sl 0 107 13 0 []])),(0,eJ.fX 30 [nD]),(0,.zN 31 (.agg [.bool true,.bool true,.bool true,.sl 0 121 2 0 [],.sl 0 107 13 0 []])),(7,bW.tE (xs:= [(aj.mk (ByteArray.mk #[112,114,111,106,101,99,116,115]) [x4,x6] 1 [] []),(aj.mk (ByteArray.mk #[116,97,115,107,115]) [dy,dY,fj,iL] 1 [] []),(aj.mk (ByteArray.mk #[109,101,109,98,101,114,115]) [pG,iK] 2 [] []),(aj.mk (ByteArray.mk #[97,114,99,104,105,118,101,100]) [nD] 1 [] [])]) Bs (v8 rfl))];ie h (λdt h=>be h λIg aus h=>be h λIe aur h=>be h λz55 hz55 h=>cI (azf n h) zA [(3,.call (cb (rb n alc) dt) [(0,0)] []),(4,R3.fX 43 [1]),(1,dM aus),(1,eQ.fX 45 [(bk.mk [1] 0)]),(0,bW.uF 3 [.slice 121 2 [(bk.mk [1] 0)].length (aR [(bk.mk [1] 0)])] aur hz55 (by kernel_rfl)),(0,.shr 32 (bW.take z55 rV)),(0,.beq 5 (bN (λn_=>(Bx.flat 25 [cm x2.1,.ms 32 5 0 n_])) ((Cn (xs:=z55) (jj (jj (vY Bs).2 (v8 rfl)) (v8 (eu hz55)))).symm)))]) λdt h=>cI (azf n h) zA [(3,.call (cb (rb n alc) dt) [(0,0)] []),(0,.shr 32 (bW.take [(aj.mk (ByteArray.mk #[112,114,111,106,101,99,116,115]) [x4,x6] 1 [] []),(aj.mk (ByteArray.mk #[116,97,115,107,115]) [dy,dY,fj,iL] 1 [] []),(aj.mk (ByteArray.mk #[109,101,109,98,101,114,115]) [pG,iK] 2 [] []),(aj.mk (ByteArray.mk #[97,114,99,104,105,118,101,100]) [nD] 1 [] [])] rV)),(0,.beq 5 (bN (λn_=>(Bx.flat 25 [cm x2.1,.ms 32 5 0 n_])) ((Cn (xs:= [(aj.mk (ByteArray.mk #[112,114,111,106,101,99,116,115]) [x4,x6] 1 [] []),(aj.mk (ByteArray.mk #[116,97,115,107,115]) [dy,dY,fj,iL] 1 [] []),(aj.mk (ByteArray.mk #[109,101,109,98,101,114,115]) [pG,iK] 2 [] []),(aj.mk (ByteArray.mk #[97,114,99,104,105,118,101,100]) [nD] 1 [] [])]) (jj (vY Bs).2 (v8 rfl))).symm)))]
def anN (n:Nat) (c0:aM):Option (ag×aM):=
 (rz n c0 3).bind λx3=>(Df n x3.2 5).bind λx9=>if x9.1 then
 QY n (bl (2+x3.1)) 5 x9.2 (ag.mk 0 [])
 else
 QY n (bl (2+x3.1)) 4 x9.2 (ag.mk 0 [])
def aMA (n:Nat):K1 (A38 []) vK (anN n):=λc0 r h=>be h λx3 eY h=>be h λx9 iS h=>let zA:SE:=[(2,.call (oP n eY) [(0,0)] [])];ie h (λdt h=>cI (aze n h) zA [(4,.call (cb (rb n iS) dt) [(0,0)] [])]) λdt h=>cI (aze n h) zA [(4,.call (cb (rb n iS) dt) [(0,0)] [])]
def F38:=anN
def ev38 (n:Nat):K1 (Cx E0 38 axb apC) vK (F38 n):=λ_ _ h=>ca (X:=x38) (aMA n h)
def x174:=fx E0 Tryz.f174 []
def anZ:=Ax x174 dv bQ
def aAh (s0:ByteArray) (i3:Int) (t49:Bool):LS:=⟨[(0,.str s0),(3,cm i3),(49,.bool t49)],[]⟩
def aAg (s0:ByteArray) (i3:Int):LS:=⟨[(0,.str s0),(3,cm i3)],[]⟩
def aAf:LS:=⟨[],[]⟩
def KO (s0:ByteArray):LS:=⟨[(0,.str s0)],[]⟩
def w4 (aO:ByteArray->Int->Option Bool) (n:Nat) (s0:ByteArray) (i3:Int) (t49:Bool):Option Bool:=
 if t49 then
 some false
 else
 aO s0 (bl (i3+1))
def O8:=K2 (anZ [0,1,0,1,1]) aAg
def BV {aO} (bq:O8 aO) (n:Nat):K3 (anZ (cF 3659)) aAh (w4 aO n):=λs0 i3 t49 r h=>ie h (λc0 bI=>by subst c0;exact (rr bI [])) λc0 bI=>by subst c0;exact (ra (bq bI) [])
def Rr (bt:Option Bool) (back:ByteArray->Int->Option Bool) (n:Nat) (s0:ByteArray) (i3:Int):Option Bool:=
 if decide (i3<(s0.size:Int)) then
 (Dx s0 i3).bind λx7=>if decide ((x7.toNat:Int)<97) then
 if decide ((x7.toNat:Int)<48) then
 w4 back n s0 i3 ((x7.toNat:Int) !=95)
 else
 if decide (57<(x7.toNat:Int)) then
 w4 back n s0 i3 ((x7.toNat:Int) !=95)
 else
 w4 back n s0 i3 false
 else
 if decide (122<(x7.toNat:Int)) then
 if decide ((x7.toNat:Int)<48) then
 w4 back n s0 i3 ((x7.toNat:Int) !=95)
 else
 if decide (57<(x7.toNat:Int)) then
 w4 back n s0 i3 ((x7.toNat:Int) !=95)
 else
 w4 back n s0 i3 false
 else
 w4 back n s0 i3 false
 else
 bt
def Z8:=K0 (anZ [1,1,1]) aAf
def aGH {bt} (cM:Z8 bt) {back} (aS:O8 back) (n:Nat):O8 (Rr bt back n):=λs0 i3 r h=>ie h (λc0 h=>be h λx7 jK h=>let zA:SE:=[bj c0,(2,.chr (jK))];ie h (λc1 h=>ie h (λc2 h=>cI (BV aS n h) zA [aZ c1,bu c2]) λc2 h=>ie h (λc3 h=>cI (BV aS n h) zA [aZ c1,bu c2,aZ c3]) λc3 h=>cI (BV aS n h) zA [aZ c1,bu c2,aZ c3]) λc1 h=>let zB:SE:=dJ zA [aZ c1];ie h (λc2 h=>ie h (λc3 h=>cI (BV aS n h) zB [aZ c2,bj c3]) λc3 h=>ie h (λc4 h=>cI (BV aS n h) zB [aZ c2,bj c3,aZ c4]) λc4 h=>cI (BV aS n h) zB [aZ c2,bj c3,aZ c4]) λc2 h=>cI (BV aS n h) zB [aZ c2]) λc0 h=>ra (cM h) [bj c0]
def zb (bt:Option Bool):Nat->ByteArray->Int->Option Bool
 |0=>λ_ _=>none
 |n+1=>Rr bt (zb bt n) n
def aqm {bt} (cM:Z8 bt):∀n:Nat,O8 (zb bt n)
 |0=>λ_ _ _ h=>nz h
 |n+1=>aGH cM (aqm cM n) n
def FT (n:Nat):Option Bool:=
 some true
def aGG (n:Nat):Z8 (FT n):=λr h=>rr h []
def aeG (n:Nat) (s0:ByteArray):Option Bool:=
 if (s0.size:Int)==0 then
 some false
 else
 if decide (32<(s0.size:Int)) then
 some false
 else
 (Dx s0 0).bind λgS=>if decide ((gS.toNat:Int)<97) then
 some false
 else
 (Dx s0 0).bind λld=>if decide (122<(ld.toNat:Int)) then
 some false
 else
 zb (FT n) n s0 0
def aGF (n:Nat):K1 (anZ []) KO (aeG n):=λs0 r h=>ie h (λc0 h=>rr h [bj c0]) λc0 h=>ie h (λc1 h=>rr h [bj c0,bj c1]) λc1 h=>be h λgS jG h=>let zA:SE:=[bj c0,bj c1,(3,.chr (jG))];ie h (λc2 h=>bD h zA [aI c2]) λc2 h=>be h λld pj h=>ie h (λc3 h=>bD h zA [aI c2,(3,.chr (pj)),aI c3]) λc3 h=>cI (aqm (aGG n) n h) zA [aI c2,(3,.chr (pj)),aI c3]
def adJ:=aeG
def ayt (n:Nat):K1 (Cx E0 174 dv bQ) KO (adJ n):=λ_ _ h=>ca (X:=x174) (aGF n h)
def x138:=fx E0 Tryz.f138 []
def Ov:=Ax x138 dv bQ
def aBj (i1 k6:Int) (b2:ag) (b5:aj):LS:=⟨[(1,cm i1),(2,.loc 2 0),(5,.loc 5 0),(6,cm k6)],[(2,iE (dD b2)),(5,pb (im b5))]⟩
def aBi (c7 k8 t53 t54:Int) (t67:cN) (t68:Int) (t69 t70:cG) (t71:Int) (t72:Bool) (b5:aj):LS:=⟨[(5,.loc 5 0),(7,.int .i64 c7),(8,.int .i64 k8),(53,.int .i64 t53),(54,.int .i64 t54),(66,.loc 5 1),(67,.slice 73 2 t67.length (bG t67)),(68,.int .i64 t68),(69,.jx (GV t69)),(70,.jx [cm t70.ay]),(71,.int .i64 t71),(72,.bool t72),(73,.bool false)],[(5,pb (im b5))]⟩
def aBh (t53 t54:Int) (t67:cN) (t68:Int) (t69 t70:cG) (t71:Int) (t72:Bool) (b5:aj):LS:=⟨[(5,.loc 5 0),(53,.int .i64 t53),(54,.int .i64 t54),(66,.loc 5 1),(67,.slice 73 2 t67.length (bG t67)),(68,.int .i64 t68),(69,.jx (GV t69)),(70,.jx [cm t70.ay]),(71,.int .i64 t71),(72,.bool t72),(73,.bool false)],[(5,pb (im b5))]⟩
def aBg (t53 t54:Int) (b5:aj):LS:=⟨[(5,.loc 5 0),(53,cm t53),(54,cm t54)],[(5,pb (im b5))]⟩
def aBf:LS:=⟨[],[]⟩
def aBe (b5:aj):LS:=⟨[(5,.loc 5 0)],[(5,pb (im b5))]⟩
def KV (s0:ag) (i1:Int):LS:=⟨[(0,.agg (dD s0)),(1,cm i1)],[]⟩
def Sl (dZ:aj->Option Bool) (back:Int->Int->ag->aj->Option Bool) (n:Nat) (i1 k6:Int) (b2:ag) (b5:aj):Option Bool:=
 if decide (k6<i1) then
 (idx b2.ai k6).bind λx7=>if decide (x7.av=b5.av) then
 some false
 else
 back i1 (bl (k6+1)) b2 b5
 else
 dZ b5
def Z7:=K1 (Ov [1,1,1,1]) aBe
def Z6:=K4 (Ov (cF 87)) aBj
def aIs {dZ} (gj:Z7 dZ) {back} (aS:Z6 back) (n:Nat):Z6 (Sl dZ back n):=λi1 k6 b2 b5 r h=>ie h (λc0 h=>be h λx7 jK h=>ie h (λc1 h=>rr h [aZ c0,(3,bW.idx jK),bu c1]) λc1 h=>ra (aS h) [aZ c0,(3,bW.idx jK),bu c1]) λc0 h=>ra (gj h) [aZ c0]
def Fz (dZ:aj->Option Bool):Nat->Int->Int->ag->aj->Option Bool
 |0=>λ_ _ _ _=>none
 |n+1=>Sl dZ (Fz dZ n) n
def aqP {dZ} (gj:Z7 dZ):∀n:Nat,Z6 (Fz dZ n)
 |0=>λ_ _ _ _ _ h=>nz h
 |n+1=>aIs gj (aqP gj n) n
def Sk (bt:Wf7) (back:Int->Int->Int->Int->cN->Int->cG->cG->Int->Bool->aj->Option Bool) (n:Nat) (c7 k8 t53 t54:Int) (t67:cN) (t68:Int) (t69 t70:cG) (t71:Int) (t72:Bool) (b5:aj):Option Bool:=
 if decide (k8<c7) then
 (idx b5.ae k8).bind λx7=>(idx b5.ae c7).bind λiu=>if decide (x7.av=iu.av) then
 some false
 else
 back c7 (bl (k8+1)) t53 t54 t67 t68 t69 t70 t71 t72 b5
 else
 bt t53 t54 t67 t68 t69 t70 t71 t72 b5
def Z5:=K9 (Ov (cF 3887)) aBh
def Z4:=K11 (Ov (cF 95023)) aBi
def aIr {bt} (cM:Z5 bt) {back} (aS:Z4 back) (n:Nat):Z4 (Sk bt back n):=λc7 k8 t53 t54 t67 t68 t69 t70 t71 t72 b5 r h=>ie h (λc0 h=>be h λx7 jK h=>be h λiu j4 h=>let zA:SE:=[aZ c0,(3,eJ.idx jK),(5,eJ.idx j4)];ie h (λc1 h=>bD h zA [aZ c1]) λc1 h=>cI (aS h) zA [aZ c1]) λc0 h=>ra (cM h) [aZ c0]
def Fy (bt:Wf7):Nat->Int->Int->Int->Int->cN->Int->cG->cG->Int->Bool->aj->Option Bool
 |0=>λ_ _ _ _ _ _ _ _ _ _ _=>none
 |n+1=>Sk bt (Fy bt n) n
def aqO {bt} (cM:Z5 bt):∀n:Nat,Z4 (Fy bt n)
 |0=>λ_ _ _ _ _ _ _ _ _ _ _ _ h=>nz h
 |n+1=>aIr cM (aqO cM n) n
def Sj (bC:Int->Int->aj->Option Bool) (n:Nat) (t53 t54:Int) (t67:cN) (t68:Int) (t69 t70:cG) (t71:Int) (t72:Bool) (b5:aj):Option Bool:=
 bC t53 (bl (t54+1)) b5
def O7:=K3 (Ov (cF 175)) aBg
def aIq {bC} (cU:O7 bC) (n:Nat):Z5 (Sj bC n):=λt53 t54 t67 t68 t69 t70 t71 t72 b5 r h=>ra (cU h) []
def Si (da:Option Bool) (back:Int->Int->aj->Option Bool) (n:Nat) (t53 t54:Int) (b5:aj):Option Bool:=
 if decide (t54<t53) then
 (idx b5.ae t54).bind λx7=>(adJ n x7.av).bind λdy=>if !dy then
 some false
 else
 (idx b5.ae t54).bind λld=>(adI n ld.ay).bind λni=>if !ni then
 some false
 else
 Fy (Sj back n) n t54 0 t53 t54 b5.ae t54 ld ld ld.ay ni b5
 else
 da
def Z3:=K0 (Ov [1,1,1,1,1]) aBf
def aIp {da} (fg:Z3 da) {back} (aS:O7 back) (n:Nat):O7 (Si da back n):=λt53 t54 b5 r h=>ie h (λc0 h=>be h λx7 jK h=>be h λdy ga h=>let zA:SE:=[aI c0,(5,eJ.idx jK),iW (ayt n ga)];ie h (λc1 h=>bD h zA [aI c1]) λc1 h=>be h λld pj h=>be h λni ph h=>let zB:SE:=dJ zA [aI c1,(4,eJ.idx pj),iW (ays n ph)];ie h (λc2 h=>bD h zB [aI c2]) λc2 h=>cI (aqO (aIq aS n) n h) zB [aI c2]) λc0 h=>ra (fg h) [aI c0]
def Cb (da:Option Bool):Nat->Int->Int->aj->Option Bool
 |0=>λ_ _ _=>none
 |n+1=>Si da (Cb da n) n
def aqN {da} (fg:Z3 da):∀n:Nat,O7 (Cb da n)
 |0=>λ_ _ _ _ h=>nz h
 |n+1=>aIp fg (aqN fg n) n
def Km (n:Nat):Option Bool:=
 some true
def aIo (n:Nat):Z3 (Km n):=λr h=>rr h []
def Sg (n:Nat) (b5:aj):Option Bool:=
 Cb (Km n) n (b5.ae.length:Int) 0 b5
def aIn (n:Nat):Z7 (Sg n):=λb5 r h=>ra (aqN (aIo n) n h) []
def afl (n:Nat) (s0:ag) (i1:Int):Option Bool:=
 (idx s0.ai i1).bind λx6=>(adJ n x6.av).bind λdY=>if !dY then
 some false
 else
 if (x6.ae.length:Int)==0 then
 some false
 else
 if decide (x6.aw<1) then
 some false
 else
 if decide ((x6.ae.length:Int)<x6.aw) then
 some false
 else
 Fz (Sg n) n i1 0 s0 x6
def aIm (n:Nat):K2 (Ov []) KV (afl n):=λs0 i1 r h=>be h λx6 lD h=>be h λdY iq h=>let zA:SE:=[(5,bW.idx lD),oZ (ayt n iq)];ie h (λc0 h=>bD h zA [aI c0]) λc0 h=>let zB:SE:=dJ zA [aI c0];ie h (λc1 h=>bD h zB [bu c1]) λc1 h=>ie h (λc2 h=>bD h zB [bu c1,bu c2]) λc2 h=>ie h (λc3 h=>bD h zB [bu c1,bu c2,jU c3]) λc3 h=>cI (aqP (aIn n) n h) zB [bu c1,bu c2,jU c3]
def amY:=afl
def aKH (n:Nat):K2 (Cx E0 138 dv bQ) KV (amY n):=λ_ _ _ h=>ca (X:=x138) (aIm n h)
def x139:=fx E0 Tryz.f139 []
def afI:=Ax x139 dv bQ
def aBd (t16:cB) (t17 t18 t27:Int) (t29:bn) (t30:Int) (t35:aK) (t36:Int) (t38:bn) (t40:Int) (t41 t42:aj) (t43:Int) (t47:aK) (t48 t49:Int) (b2:ag) (b5:aj) (b7:bk):LS:=⟨[(2,.loc 2 0),(5,.loc 5 0),(7,.loc 7 0),(16,.slice 121 2 t16.length (aR t16)),(17,.int .i64 t17),(18,.int .i64 t18),(26,.loc 7 1),(27,.int .i64 t27),(28,.loc 2 1),(29,.slice 44 5 t29.length (cP t29)),(30,.int .i64 t30),(31,.bool false),(34,.loc 7 0),(35,.slice 3 1 t35.length (eo t35)),(36,.int .i64 t36),(37,.loc 2 1),(38,.slice 44 5 t38.length (cP t38)),(39,.loc 7 1),(40,.int .i64 t40),(41,.jx (im t41)),(42,.jx [.int .i64 t42.aw,.slice 121 2 t42.af.length (aR t42.af),.slice 107 13 t42.ak.length (aJ t42.ak)]),(43,.int .i64 t43),(44,.bool false),(47,.slice 3 1 t47.length (eo t47)),(48,.int .i64 t48),(49,.int .i64 t49)],[(2,iE (dD b2)),(5,pb (im b5)),(7,.flat 121 (BO b7))]⟩
def aBc (t16:cB) (t17 t18 t27:Int) (t29:bn) (t30:Int) (t35:aK) (t36:Int) (t38:bn) (t40:Int) (t41 t42:aj) (t43:Int) (b2:ag) (b5:aj) (b7:bk):LS:=⟨[(2,.loc 2 0),(5,.loc 5 0),(16,.slice 121 2 t16.length (aR t16)),(17,.int .i64 t17),(18,.int .i64 t18),(26,.loc 7 1),(27,.int .i64 t27),(28,.loc 2 1),(29,.slice 44 5 t29.length (cP t29)),(30,.int .i64 t30),(31,.bool false),(34,.loc 7 0),(35,.slice 3 1 t35.length (eo t35)),(36,.int .i64 t36),(37,.loc 2 1),(38,.slice 44 5 t38.length (cP t38)),(39,.loc 7 1),(40,.int .i64 t40),(41,.jx (im t41)),(42,.jx [.int .i64 t42.aw,.slice 121 2 t42.af.length (aR t42.af),.slice 107 13 t42.ak.length (aJ t42.ak)]),(43,.int .i64 t43),(44,.bool false)],[(2,iE (dD b2)),(5,pb (im b5)),(7,.flat 121 (BO b7))]⟩
def aBb (t16:cB) (t17 t18:Int) (b2:ag) (b5:aj):LS:=⟨[(2,.loc 2 0),(5,.loc 5 0),(16,.slice 121 2 t16.length (aR t16)),(17,.int .i64 t17),(18,.int .i64 t18)],[(2,iE (dD b2)),(5,pb (im b5))]⟩
def aBa:LS:=⟨[],[]⟩
def Sf (aO:Wf8) (back:cB->Int->Int->Int->bn->Int->aK->Int->bn->Int->aj->aj->Int->aK->Int->Int->ag->aj->bk->Option Bool) (n:Nat) (t16:cB) (t17 t18 t27:Int) (t29:bn) (t30:Int) (t35:aK) (t36:Int) (t38:bn) (t40:Int) (t41 t42:aj) (t43:Int) (t47:aK) (t48 t49:Int) (b2:ag) (b5:aj) (b7:bk):Option Bool:=
 if decide (t49<t48) then
 (idx t47 t49).bind λx3=>if decide (x3<0) then
 some false
 else
 if !decide (x3<(b5.ae.length:Int)) then
 some false
 else
 (idx b5.ae x3).bind λpG=>(idx b2.ai b7.aG).bind λHH=>(idx HH.ae t49).bind λx34=>if pG.ay !=x34.ay then
 some false
 else
 back t16 t17 t18 t27 t29 t30 t35 t36 t38 t40 t41 t42 t43 t47 t48 (bl (t49+1)) b2 b5 b7
 else
 aO t16 t17 t18 t27 t29 t30 t35 t36 t38 t40 t41 t42 t43 b2 b5 b7
def Z2:=K16 (afI (cF 971)) aBc
def Z1:=K19 (afI (cF 23755)) aBd
def aIl {aO} (bq:Z2 aO) {back} (aS:Z1 back) (n:Nat):Z1 (Sf aO back n):=λt16 t17 t18 t27 t29 t30 t35 t36 t38 t40 t41 t42 t43 t47 t48 t49 b2 b5 b7 r h=>ie h (λc0 h=>be h λx3 eY h=>let zA:SE:=[aI c0,(1,R3.idx eY)];ie h (λc1 h=>bD h zA [bu c1]) λc1 h=>ie h (λc2 h=>bD h zA [bu c1,cg c2]) λc2 h=>be h λpG xV h=>be h λHH NQ h=>be h λx34 auy h=>let zB:SE:=dJ zA [bu c1,cg c2,(5,eJ.idx xV),(6,bW.idx NQ),(3,eJ.idx auy)];ie h (λc3 h=>bD h zB [aZ c3]) λc3 h=>cI (aS h) zB [aZ c3]) λc0 h=>ra (bq h) [aI c0]
def Fw (aO:Wf8):Nat->cB->Int->Int->Int->bn->Int->aK->Int->bn->Int->aj->aj->Int->aK->Int->Int->ag->aj->bk->Option Bool
 |0=>λ_ _ _ _ _ _ _ _ _ _ _ _ _ _ _ _ _ _ _=>none
 |n+1=>Sf aO (Fw aO n) n
def aqM {aO} (bq:Z2 aO):∀n:Nat,Z1 (Fw aO n)
 |0=>λ_ _ _ _ _ _ _ _ _ _ _ _ _ _ _ _ _ _ _ _ h=>nz h
 |n+1=>aIl bq (aqM bq n) n
def Se (bt:Wf9) (n:Nat) (t16:cB) (t17 t18 t27:Int) (t29:bn) (t30:Int) (t35:aK) (t36:Int) (t38:bn) (t40:Int) (t41 t42:aj) (t43:Int) (b2:ag) (b5:aj) (b7:bk):Option Bool:=
 bt t16 t17 (bl (t18+1)) b2 b5
def O6:=K5 (afI [0,1,0,1,1]) aBb
def aIk {bt} (cM:O6 bt) (n:Nat):Z2 (Se bt n):=λt16 t17 t18 t27 t29 t30 t35 t36 t38 t40 t41 t42 t43 b2 b5 b7 r h=>ra (cM h) []
def Sd (bC:Option Bool) (back:Wf9) (n:Nat) (t16:cB) (t17 t18:Int) (b2:ag) (b5:aj):Option Bool:=
 if decide (t18<t17) then
 (idx t16 t18).bind λx2=>if decide (x2.aG<0) then
 some false
 else
 if !decide (x2.aG<(b2.ai.length:Int)) then
 some false
 else
 (idx b2.ai x2.aG).bind λsM=>if (x2.ae.length:Int) !=sM.aw then
 some false
 else
 Fw (Se back n) n t16 t17 t18 x2.aG b2.ai (b2.ai.length:Int) x2.ae (x2.ae.length:Int) b2.ai x2.aG sM sM sM.aw x2.ae (x2.ae.length:Int) 0 b2 b5 x2
 else
 bC
def Z0:=K0 (afI [1,1,1]) aBa
def aIj {bC} (cU:Z0 bC) {back} (aS:O6 back) (n:Nat):O6 (Sd bC back n):=λt16 t17 t18 b2 b5 r h=>ie h (λc0 h=>be h λx2 cX h=>let zA:SE:=[aI c0,(0,eQ.idx cX)];ie h (λc1 h=>bD h zA [cg c1]) λc1 h=>ie h (λc2 h=>bD h zA [cg c1,dP c2]) λc2 h=>be h λsM xU h=>let zB:SE:=dJ zA [cg c1,dP c2,(9,bW.idx xU)];ie h (λc3 h=>bD h zB [aZ c3]) λc3 h=>cI (aqM (aIk aS n) n h) zB [aZ c3]) λc0 h=>ra (cU h) [aI c0]
def Ca (bC:Option Bool):Nat->cB->Int->Int->ag->aj->Option Bool
 |0=>λ_ _ _ _ _=>none
 |n+1=>Sd bC (Ca bC n) n
def aqL {bC} (cU:Z0 bC):∀n:Nat,O6 (Ca bC n)
 |0=>λ_ _ _ _ _ _ h=>nz h
 |n+1=>aIj cU (aqL cU n) n
def Kl (n:Nat):Option Bool:=
 some true
def aIi (n:Nat):Z0 (Kl n):=λr h=>rr h []
def afk (n:Nat) (s0:ag) (i1:Int):Option Bool:=
 (idx s0.ai i1).bind λx6=>Ca (Kl n) n x6.af (x6.af.length:Int) 0 s0 x6
def aIh (n:Nat):K2 (afI []) KV (afk n):=λs0 i1 r h=>be h λx6 lD h=>ra (aqL (aIi n) n h) [(5,bW.idx lD)]
def amX:=afk
def aKG (n:Nat):K2 (Cx E0 139 dv bQ) KV (amX n):=λ_ _ _ h=>ca (X:=x139) (aIh n h)
def x94:=fx E0 Tryz.f94 []
def Ku:=Ax x94 ee bQ
def aor (t16:bn) (t17 t18:Int) (b1:ag):LS:=⟨[(1,.loc 1 0),(16,.slice 44 5 t16.length (cP t16)),(17,.int .i64 t17),(18,.int .i64 t18)],[(1,iE (dD b1))]⟩
def aDK (t49 t50:Int) (b1:ag):LS:=⟨[(1,.loc 1 0),(49,cm t49),(50,cm t50)],[(1,iE (dD b1))]⟩
def aDJ (t60 t61:Int) (b1:ag):LS:=⟨[(1,.loc 1 0),(60,cm t60),(61,cm t61)],[(1,iE (dD b1))]⟩
def aDI (i7 t71 t72:Int) (t80:bO) (t81 t82:Int) (b1:ag):LS:=⟨[(1,.loc 1 0),(7,.int .i64 i7),(71,.int .i64 t71),(72,.int .i64 t72),(80,.slice 107 13 t80.length (aJ t80)),(81,.int .i64 t81),(82,.int .i64 t82)],[(1,iE (dD b1))]⟩
def aoq (t71 t72:Int) (b1:ag):LS:=⟨[(1,.loc 1 0),(71,cm t71),(72,cm t72)],[(1,iE (dD b1))]⟩
def aDH:LS:=⟨[],[]⟩
def OQ (b1:ag):LS:=⟨[(1,.loc 1 0)],[(1,iE (dD b1))]⟩
def sw (s0:ag):LS:=⟨[(0,.agg (dD s0))],[]⟩
def Yc (k_9:JW) (back:VI) (n:Nat) (t16:bn) (t17 t18:Int) (b1:ag):Option Int:=
 if decide (t18<t17) then
 (idx t16 t18).bind λx2=>if decide (8<(x2.ae.length:Int)) then
 some 2
 else
 if decide (4<(x2.af.length:Int)) then
 some 2
 else
 if decide (4<(x2.ak.length:Int)) then
 some 2
 else
 back t16 t17 (bl (t18+1)) b1
 else
 k_9 b1
def ZZ:=K1 (Ku [1,1,1]) OQ
def ZY:=K4 (Ku [0,1,0,1,1]) aor
def aLu {k_9} (alk:ZZ k_9) {back} (aS:ZY back) (n:Nat):ZY (Yc k_9 back n):=λt16 t17 t18 b1 r h=>ie h (λc0 h=>be h λx2 cX h=>let zA:SE:=[aI c0,(0,bW.idx cX)];ie h (λc1 h=>bD h zA [dP c1]) λc1 h=>ie h (λc2 h=>bD h zA [dP c1,bu c2]) λc2 h=>ie h (λc3 h=>bD h zA [dP c1,bu c2,cg c3]) λc3 h=>cI (aS h) zA [dP c1,bu c2,cg c3]) λc0 h=>ra (alk h) [aI c0]
def Mk (k_9:JW):Nat->bn->Int->Int->ag->Option Int
 |0=>λ_ _ _ _=>none
 |n+1=>Yc k_9 (Mk k_9 n) n
def axv {k_9} (alk:ZZ k_9):∀n:Nat,ZY (Mk k_9 n)
 |0=>λ_ _ _ _ _ h=>nz h
 |n+1=>aLu alk (axv alk n) n
def Yb (vU:JW) (back:VH) (n:Nat) (t49 t50:Int) (b1:ag):Option Int:=
 if decide (t50<t49) then
 (amY n b1 t50).bind λx6=>if !x6 then
 some 70
 else
 back t49 (bl (t50+1)) b1
 else
 vU b1
def ZX:=K1 (Ku [1,1,1,1,1]) OQ
def ZW:=K3 (Ku (cF 175)) aDK
def aLt {vU} (Ji:ZX vU) {back} (aS:ZW back) (n:Nat):ZW (Yb vU back n):=λt49 t50 b1 r h=>ie h (λc0 h=>be h λx6 lD h=>let zA:SE:=[aI c0,mY (aKH n lD)];ie h (λc1 h=>bD h zA [aI c1]) λc1 h=>cI (aS h) zA [aI c1]) λc0 h=>ra (Ji h) [aI c0]
def Mj (vU:JW):Nat->Int->Int->ag->Option Int
 |0=>λ_ _ _=>none
 |n+1=>Yb vU (Mj vU n) n
def axu {vU} (Ji:ZX vU):∀n:Nat,ZW (Mj vU n)
 |0=>λ_ _ _ _ h=>nz h
 |n+1=>aLt Ji (axu Ji n) n
def Ya (kQ:JW) (back:VH) (n:Nat) (t60 t61:Int) (b1:ag):Option Int:=
 if decide (t61<t60) then
 (amX n b1 t61).bind λx6=>if !x6 then
 some 70
 else
 back t60 (bl (t61+1)) b1
 else
 kQ b1
def ZV:=K1 (Ku (cF 127)) OQ
def ZU:=K3 (Ku (cF 351)) aDJ
def aLs {kQ} (rJ:ZV kQ) {back} (aS:ZU back) (n:Nat):ZU (Ya kQ back n):=λt60 t61 b1 r h=>ie h (λc0 h=>be h λx6 lD h=>let zA:SE:=[aI c0,mY (aKG n lD)];ie h (λc1 h=>bD h zA [aI c1]) λc1 h=>cI (aS h) zA [aI c1]) λc0 h=>ra (rJ h) [aI c0]
def Mi (kQ:JW):Nat->Int->Int->ag->Option Int
 |0=>λ_ _ _=>none
 |n+1=>Ya kQ (Mi kQ n) n
def axt {kQ} (rJ:ZV kQ):∀n:Nat,ZU (Mi kQ n)
 |0=>λ_ _ _ _ h=>nz h
 |n+1=>aLs rJ (axt rJ n) n
def X9 (da:VH) (back:Int->Int->Int->bO->Int->Int->ag->Option Int) (n:Nat) (i7 t71 t72:Int) (t80:bO) (t81 t82:Int) (b1:ag):Option Int:=
 if decide (t82<t81) then
 (idx t80 t82).bind λx2=>(F50 n b1 i7).bind λx9=>(aea n x9 [] x2).bind λgS=>if gS !=0 then
 some gS
 else
 back i7 t71 t72 t80 t81 (bl (t82+1)) b1
 else
 da t71 t72 b1
def ZT:=K3 (Ku (cF 15551)) aoq
def ZS:=K7 (Ku (cF 183487)) aDI
def aLr {da} (fg:ZT da) {back} (aS:ZS back) (n:Nat):ZS (X9 da back n):=λi7 t71 t72 t80 t81 t82 b1 r h=>ie h (λc0 h=>be h λx2 cX h=>be h λx9 iS h=>be h λgS jG h=>let zA:SE:=[aI c0,(0,eD.idx cX),(3,.ord [0,1,3,2,4,5]),(3,zP (cd (e:=3) (z:=true) (Q:=eo x9) (avg n iS) (R3.len x9))),om (ayH n jG)];ie h (λc1 h=>bD h zA [aZ c1]) λc1 h=>cI (aS h) zA [aZ c1]) λc0 h=>ra (fg h) [aI c0]
def Mh (da:VH):Nat->Int->Int->Int->bO->Int->Int->ag->Option Int
 |0=>λ_ _ _ _ _ _ _=>none
 |n+1=>X9 da (Mh da n) n
def axs {da} (fg:ZT da):∀n:Nat,ZS (Mh da n)
 |0=>λ_ _ _ _ _ _ _ _ h=>nz h
 |n+1=>aLr fg (axs fg n) n
def X8 (dZ:VH) (n:Nat) (t71 t72:Int) (b1:ag):Option Int:=
 dZ t71 (bl (t72+1)) b1
def O5:=K3 (Ku (cF 703)) aoq
def aLq {dZ} (gj:O5 dZ) (n:Nat):ZT (X8 dZ n):=λt71 t72 b1 r h=>ra (gj h) []
def X7 (jR:Option Int) (back:VH) (n:Nat) (t71 t72:Int) (b1:ag):Option Int:=
 if decide (t72<t71) then
 (idx b1.ai t72).bind λx7=>Mh (X8 back n) n t72 t71 t72 x7.ak (x7.ak.length:Int) 0 b1
 else
 jR
def ZR:=K0 (Ku (cF 255)) aDH
def aLp {jR} (ql:ZR jR) {back} (aS:O5 back) (n:Nat):O5 (X7 jR back n):=λt71 t72 b1 r h=>ie h (λc0 h=>be h λx7 jK h=>ra (axs (aLq aS n) n h) [aI c0,(5,bW.idx jK)]) λc0 h=>ra (ql h) [aI c0]
def Hg (jR:Option Int):Nat->Int->Int->ag->Option Int
 |0=>λ_ _ _=>none
 |n+1=>X7 jR (Hg jR n) n
def axr {jR} (ql:ZR jR):∀n:Nat,O5 (Hg jR n)
 |0=>λ_ _ _ _ h=>nz h
 |n+1=>aLp ql (axr ql n) n
def QN (n:Nat):Option Int:=
 some 0
def aLo (n:Nat):ZR (QN n):=λr h=>rr h []
def X6 (n:Nat) (b1:ag):Option Int:=
 Hg (QN n) n (b1.ai.length:Int) 0 b1
def aLn (n:Nat):ZV (X6 n):=λb1 r h=>ra (axr (aLo n) n h) []
def X5 (n:Nat) (b1:ag):Option Int:=
 Mi (X6 n) n (b1.ai.length:Int) 0 b1
def aLm (n:Nat):ZX (X5 n):=λb1 r h=>ra (axt (aLn n) n h) []
def X4 (n:Nat) (b1:ag):Option Int:=
 if decide (b1.ax<0) then
 some 70
 else
 if decide (1000<b1.ax) then
 some 70
 else
 Mj (X5 n) n (b1.ai.length:Int) 0 b1
def aLl (n:Nat):ZZ (X4 n):=λb1 r h=>ie h (λc0 h=>rr h [aZ c0]) λc0 h=>ie h (λc1 h=>rr h [aZ c0,bj c1]) λc1 h=>ra (axu (aLm n) n h) [aZ c0,bj c1]
def aeh (n:Nat) (s0:ag):Option Int:=
 if decide (8<(s0.ai.length:Int)) then
 some 2
 else
 Mk (X4 n) n s0.ai (s0.ai.length:Int) 0 s0
def aFC (n:Nat):K1 (Ku []) sw (aeh n):=λs0 r h=>ie h (λc0 h=>rr h [cg c0]) λc0 h=>ra (axv (aLl n) n h) [cg c0]
def F94:=aeh
def avd (n:Nat):K1 (Cx E0 94 ee bQ) sw (F94 n):=λ_ _ h=>ca (X:=x94) (aFC n h)
def x110:=fx E0 Tryz.f110 []
def A110:=Ax x110 ee bQ
def aBt (i0:Int) (t42:Bool):LS:=⟨[(0,cm i0),(42,.bool t42)],[]⟩
def ahr (i0 dq fI:Int):LS:=⟨[(0,cm i0),(1,cm dq),(2,cm fI)],[]⟩
def tM (n:Nat) (i0:Int) (t42:Bool):Option Int:=
 if t42 then
 some (bl (i0+1))
 else
 some i0
def wR (n:Nat):K2 (A110 (cF 8185)) aBt (tM n):=λi0 t42 r h=>ie h (λc0 bI=>by subst c0;exact (rr bI [])) λc0 bI=>by subst c0;exact (rr bI [])
def afr (n:Nat) (i0 dq fI:Int):Option Int:=
 if decide (fI<0) then
 if decide (dq<i0) then
 some (bl (i0 - 1))
 else
 some i0
 else
 if i0==dq then
 some fI
 else
 if decide (dq<fI) then
 if decide (dq<i0) then
 if !decide (fI<i0) then
 some (bl (i0 - 1))
 else
 if decide (fI<dq) then
 if !decide (i0<fI) then
 tM n i0 (decide (i0<dq))
 else
 tM n i0 false
 else
 tM n i0 false
 else
 if decide (fI<dq) then
 if !decide (i0<fI) then
 tM n i0 (decide (i0<dq))
 else
 tM n i0 false
 else
 tM n i0 false
 else
 if decide (fI<dq) then
 if !decide (i0<fI) then
 tM n i0 (decide (i0<dq))
 else
 tM n i0 false
 else
 tM n i0 false
def aIJ (n:Nat):K3 (A110 []) ahr (afr n):=λi0 dq fI r h=>ie h (λc0 h=>ie h (λc1 h=>rr h [aZ c0,bj c1]) λc1 h=>rr h [aZ c0,bj c1,bj c0]) λc0 h=>let zA:SE:=[aZ c0,bu c0];ie h (λc1 h=>bD h zA [bj c1]) λc1 h=>let zB:SE:=dJ zA [bj c1];ie h (λc2 h=>let zC:SE:=dJ zB [bj c2];ie h (λc3 h=>let zD:SE:=dJ zC [bj c3];ie h (λc4 h=>bD h zD [bu c4]) λc4 h=>ie h (λc5 h=>ie h (λc6 h=>cI (wR n h) zD [bu c4,bu c5,bj c6]) λc6 h=>cI (wR n h) zD [bu c4,bu c5,bj c6]) λc5 h=>cI (wR n h) zD [bu c4,bu c5]) λc3 h=>ie h (λc4 h=>ie h (λc5 h=>cI (wR n h) zC [bj c3,dP c4,bj c5]) λc5 h=>cI (wR n h) zC [bj c3,dP c4,bj c5]) λc4 h=>cI (wR n h) zC [bj c3,dP c4]) λc2 h=>ie h (λc3 h=>ie h (λc4 h=>cI (wR n h) zB [bj c2,jU c3,bj c4]) λc4 h=>cI (wR n h) zB [bj c2,jU c3,bj c4]) λc3 h=>cI (wR n h) zB [bj c2,jU c3]
def Hv:=afr
def Qe (n:Nat):K3 (Cx E0 110 ee bQ) ahr (Hv n):=λ_ _ _ _ h=>ca (X:=x110) (aIJ n h)
def x140:=fx E0 Tryz.f140 []
def A140:=Ax x140 dv bQ
def aAZ (b3:aE):LS:=⟨[(3,.loc 3 0)],[(3,uw (mz b3))]⟩
def KU (m0:aE):LS:=⟨[(0,.agg (mz m0))],[]⟩
def qa (n:Nat) (b3:aE):Option Bool:=
 if b3.aG==0 then
 if b3.aN==0 then
 if b3.eL==0 then
 if decide (b3.av=ByteArray.empty) then
 if b3.ay==0 then
 if ((b3.aD.ay==0) && ((b3.aD.bZ==0) && ((decide (b3.aD.bB=ByteArray.empty)) && true))) then
 if (b3.bf.length:Int)==0 then
 if decide (b3.ar.av=ByteArray.empty) then
 if (b3.ar.ae.length:Int)==0 then
 if b3.ar.aw==0 then
 if (b3.ar.af.length:Int)==0 then
 some ((b3.ar.ak.length:Int)==0)
 else
 some false
 else
 some false
 else
 some false
 else
 some false
 else
 some false
 else
 some false
 else
 some false
 else
 some false
 else
 some false
 else
 some false
 else
 some false
def za (n:Nat):K1 (A140 [1,1,1]) aAZ (qa n):=λb3 r h=>ie h (λc0 h=>let zA:SE:=[dP c0];ie h (λc1 h=>let zB:SE:=dJ zA [bj c1];ie h (λc2 h=>let zC:SE:=dJ zB [bu c2];ie h (λc3 h=>let zD:SE:=dJ zC [bu c3];ie h (λc4 h=>let zE:SE:=dJ zD [bu c4];ie h (λc5 h=>let zF:SE:=dJ zE [cg c5];ie h (λc6 h=>let zG:SE:=dJ zF [cg c6];ie h (λc7 h=>let zH:SE:=dJ zG [bu c7];ie h (λc8 h=>ie h (λc9 h=>ie h (λc10 h=>bD h zH [cg c8,bu c9,cg c10]) λc10 h=>bD h zH [cg c8,bu c9,cg c10]) λc9 h=>bD h zH [cg c8,bu c9]) λc8 h=>bD h zH [cg c8]) λc7 h=>bD h zG [bu c7]) λc6 h=>bD h zF [cg c6]) λc5 h=>bD h zE [cg c5]) λc4 h=>bD h zD [bu c4]) λc3 h=>bD h zC [bu c3]) λc2 h=>bD h zB [bu c2]) λc1 h=>bD h zA [bj c1]) λc0 h=>rr h [dP c0]
def Sb (n:Nat) (m0:aE):Option Bool:=
 if m0.bh==1 then
 qa n (aE.mk m0.bh 0 m0.aN m0.eL ByteArray.empty 0 (aP.mk 0 0 ByteArray.empty) m0.bf m0.ar)
 else
 if m0.bh==2 then
 qa n (aE.mk m0.bh 0 0 m0.eL m0.av m0.ay (aP.mk 0 0 ByteArray.empty) m0.bf m0.ar)
 else
 if m0.bh==3 then
 qa n (aE.mk m0.bh 0 0 0 m0.av m0.ay m0.aD m0.bf m0.ar)
 else
 if m0.bh==4 then
 qa n (aE.mk m0.bh 0 0 m0.eL ByteArray.empty m0.ay m0.aD m0.bf m0.ar)
 else
 if m0.bh==5 then
 qa n (aE.mk m0.bh 0 m0.aN m0.eL ByteArray.empty m0.ay m0.aD m0.bf m0.ar)
 else
 if m0.bh==6 then
 qa n (aE.mk m0.bh m0.aG m0.aN m0.eL m0.av m0.ay m0.aD m0.bf (aj.mk ByteArray.empty [] 0 [] []))
 else
 if m0.bh==7 then
 qa n (aE.mk m0.bh 0 m0.aN m0.eL m0.av m0.ay m0.aD m0.bf m0.ar)
 else
 if m0.bh==8 then
 qa n (aE.mk m0.bh 0 0 m0.eL m0.av m0.ay m0.aD [] m0.ar)
 else
 some false
def aIg (n:Nat):K1 (A140 []) KU (Sb n):=λm0 r h=>ie h (λc0 h=>ra (za n h) [jU c0]) λc0 h=>ie h (λc1 h=>ra (za n h) [jU c0,bb c1]) λc1 h=>let zA:SE:=[jU c0,bb c1];ie h (λc2 h=>cI (za n h) zA [bb c2]) λc2 h=>let zB:SE:=dJ zA [bb c2];ie h (λc3 h=>cI (za n h) zB [bb c3]) λc3 h=>let zC:SE:=dJ zB [bb c3];ie h (λc4 h=>cI (za n h) zC [bb c4]) λc4 h=>let zD:SE:=dJ zC [bb c4];ie h (λc5 h=>cI (za n h) zD [bb c5]) λc5 h=>ie h (λc6 h=>cI (za n h) zD [bb c5,bb c6]) λc6 h=>ie h (λc7 h=>cI (za n h) zD [bb c5,bb c6,bb c7]) λc7 h=>bD h zD [bb c5,bb c6,bb c7]
def VW:=Sb
def ayG (n:Nat):K1 (Cx E0 140 dv bQ) KU (VW n):=λ_ _ h=>ca (X:=x140) (aIg n h)
def Ph (r:aj):AV:=.agg (q28_ r r8 201003 201004)
def Lv (r:aj):List (Nat×Bx):= (q26_ r8 r 201003 201004)
def x141:=fx E0 Tryz.f141 []
def awx:=Ax x141 Ph Lv
def aAY (t12:cB) (t13 t14:Int) (b1 b2:aj) (b6:cN) (b3:cB):LS:=⟨[(1,.loc 1 0),(2,.loc 2 0),(3,.ms 500003 2 0 b3.length),(12,.slice 121 2 t12.length (aR t12)),(13,.int .i64 t13),(14,.int .i64 t14)],[(1,.flat 44 [.str b1.av,.ms 6 2 0 b6.length,.int .i64 b1.aw,.slice 121 2 b1.af.length (aR b1.af),.slice 107 13 b1.ak.length (aJ b1.ak)]),(2,.flat 44 [.str b2.av,.dE,Gi b2,.dE,.dE]),(6,.rows false 73 2 (bG b6)),(500003,.tree 121 2 zm (aR b3) [])]⟩
def aAX (b1 b2:aj) (b6:cN) (b3:cB):LS:=⟨[(1,.loc 1 0),(2,.loc 2 0),(3,jO 500003 b3.length)],[(1,.flat 44 [.str b1.av,.ms 6 2 0 b6.length,.int .i64 b1.aw,.slice 121 2 b1.af.length (aR b1.af),.slice 107 13 b1.ak.length (aJ b1.ak)]),(2,.flat 44 [.str b2.av,.dE,Gi b2,.dE,.dE]),(6,.rows false 73 2 (bG b6)),(500003,.tree 121 2 zm (aR b3) [])]⟩
def KS (t0:aj):LS:=⟨[(0,.agg (im t0))],[]⟩
def Sa (aO:Wf13) (back:cB->Int->Int->aj->aj->cN->cB->Option aj) (n:Nat) (t12:cB) (t13 t14:Int) (b1 b2:aj) (b6:cN) (b3:cB):Option aj:=
 if decide (t14<t13) then
 (idx t12 t14).bind λx2=>(app [] x2.ae).bind λdy=>(app b3 [(bk.mk dy x2.aG)]).bind λiL=>(setAt iL b3.length (bk.mk dy x2.aG)).bind λz20=>back t12 t13 (bl (t14+1)) (aj.mk b1.av b6 b1.aw b1.af b1.ak) (aj.mk b2.av [] b2.aw [] []) b6 z20
 else
 aO (aj.mk b1.av b6 b1.aw b1.af b1.ak) (aj.mk b2.av [] b2.aw [] []) b6 b3
def ZQ:=K4 (awx [1,1,1,1]) aAX
def ZP:=K7 (awx (cF 87)) aAY
def aIf {aO} (bq:ZQ aO) {back} (aS:ZP back) (n:Nat):ZP (Sa aO back n):=λt12 t13 t14 b1 b2 b6 b3 r h=>ie h (λc0 h=>be h λx2 cX h=>be h λdy ga h=>be h λiL kh h=>be h λz20 GD h=>ra (aS h) [aI c0,(0,eQ.idx cX),(7,R3.app ga),(4,eQ.Iq kh),(1,.beq 500003 (bN (λq_=>Bx.tree 121 2 zm q_ [(b3.length*2+0,.ms 19 1 0 dy.length)]) (eQ.apS (r:= (oH x2.aG)) kh))),(0,eQ.gT R3 (r:= (oH x2.aG)) 500003 19 0 false 3 1 dy GD (by kernel_rfl)),(2,.seq 3 (bN (AV.ms 500003 2 0) (((eQ.apL kh).trans (eu GD)))))]) λc0 h=>ra (bq h) [aI c0]
def Fv (aO:Wf13):Nat->cB->Int->Int->aj->aj->cN->cB->Option aj
 |0=>λ_ _ _ _ _ _ _=>none
 |n+1=>Sa aO (Fv aO n) n
def aqK {aO} (bq:ZQ aO):∀n:Nat,ZP (Fv aO n)
 |0=>λ_ _ _ _ _ _ _ _ h=>nz h
 |n+1=>aIf bq (aqK bq n) n
def R9 (n:Nat) (b1 b2:aj) (b6:cN) (b3:cB):Option aj:=
 (app [] b1.ak).bind λx7=>some (aj.mk b1.av b6 b1.aw b3 x7)
def aIe (n:Nat):ZQ (R9 n):=λb1 b2 b6 b3 r h=>be h λx7 jK h=>rr h [(6,eD.app jK),(4,.jq 6 r8),(0,.jq 500003 201003),(0,.jq 31 201004)]
def afj (n:Nat) (t0:aj):Option aj:=
 (app [] t0.ae).bind λx6=>Fv (R9 n) n t0.af (t0.af.length:Int) 0 (aj.mk t0.av x6 t0.aw t0.af t0.ak) (aj.mk ByteArray.empty [] 0 [] []) x6 []
def aId (n:Nat):K1 (awx []) KS (afj n):=λt0 r h=>be h λx6 lD h=>ra (aqK (aIe n) n h) [(5,eJ.app lD),(7,.born [3] [] 500003 true 121 2)]
def adZ:=afj
def ayF (n:Nat):K1 (Cx E0 141 Ph Lv) KS (adZ n):=λ_ _ h=>ca (X:=x141) (aId n h)
def Ei (r:aK):AV:=.slice 3 1 r.length (eo r)
def x216:=fx E0 Tryz.f216 []
def anY:=Ax x216 Ei bQ
def S8 (l0:aK) (n1 i5:Int):LS:=⟨[(0,.slice 3 1 l0.length (eo l0)),(1,.int .i64 n1),(5,.int .i64 i5)],[]⟩
def agJ (l0:aK) (n1:Int):LS:=⟨[(0,.slice 3 1 l0.length (eo l0)),(1,.int .i64 n1)],[]⟩
def Kb (bt:avW) (back:avW) (n:Nat) (l0:aK) (n1 i5:Int):Option aK:=
 if decide (i5<(l0.length:Int)) then
 (idx l0 i5).bind λx8=>if decide (x8<n1) then
 back l0 n1 (bl (i5+1))
 else
 bt l0 n1 i5
 else
 bt l0 n1 i5
def ZO:=K3 (anY [1,1,1]) S8
def ZN:=K3 (anY [0,0,1,1]) S8
def aFS {bt} (cM:ZO bt) {back} (aS:ZN back) (n:Nat):ZN (Kb bt back n):=λl0 n1 i5 r h=>ie h (λc0 h=>be h λx8 oK h=>ie h (λc1 h=>ra (aS h) [bj c0,(3,R3.idx oK),aZ c1]) λc1 h=>ra (cM h) [bj c0,(3,R3.idx oK),aZ c1]) λc0 h=>ra (cM h) [bj c0]
def B0 (bt:avW):Nat->aK->Int->Int->Option aK
 |0=>λ_ _ _=>none
 |n+1=>Kb bt (B0 bt n) n
def aqc {bt} (cM:ZO bt):∀n:Nat,ZN (B0 bt n)
 |0=>λ_ _ _ _ h=>nz h
 |n+1=>aFS cM (aqc cM n) n
def Ka (n:Nat) (l0:aK) (n1 i5:Int):Option aK:=
 (cut l0 none (some i5)).bind λx3=>(app [] x3).bind λx5=>(app x5 [n1]).bind λx9=>(cut l0 (some i5) none).bind λdY=>(app x9 dY).bind λfj=>some fj
def arO (n:Nat):K3 (anY [1,1,1,1]) S8 (Ka n):=λl0 n1 i5 r h=>be h λx3 eY h=>be h λx5 kR h=>be h λx9 iS h=>be h λdY iq h=>be h λfj mO h=>rr h [(0,.born [] [] 36 true 3 1),(2,R3.cut eY),(0,R3.app (xs:= []) kR),(2,R3.kF iS),(2,R3.cut iq),(0,R3.app mO),(1,R3.fX 36 fj),(0,.zN 4 (.sl 0 0 0 0 []))]
def Q7 (n:Nat) (l0:aK) (n1 i5:Int):Option aK:=
 if decide (i5<(l0.length:Int)) then
 (idx l0 i5).bind λx8=>if x8==n1 then
 some l0
 else
 Ka n l0 n1 i5
 else
 Ka n l0 n1 i5
def aFR (n:Nat):ZO (Q7 n):=λl0 n1 i5 r h=>ie h (λc0 h=>be h λx8 oK h=>ie h (λc1 h=>rr h [bj c0,(3,R3.idx oK),aZ c1]) λc1 h=>ra (arO n h) [bj c0,(3,R3.idx oK),aZ c1]) λc0 h=>ra (arO n h) [bj c0]
def aeo (n:Nat) (l0:aK) (n1:Int):Option aK:=
 B0 (Q7 n) n l0 n1 0
def aFQ (n:Nat):K2 (anY []) agJ (aeo n):=λl0 n1 r h=>ra (aqc (aFR n) n h) []
def amL:=aeo
def aKg (n:Nat):K2 (Cx E0 216 Ei bQ) agJ (amL n):=λ_ _ _ h=>ca (X:=x216) (aFQ n h)
def x195:=fx E0 Tryz.f195 []
def afC:=Ax x195 Ei bQ
def C195:=Cx E0 195 Ei bQ
def azP (l1:aK) (t17:Int) (b2:ah) (qu:td):LS:=⟨[(1,.slice 3 1 l1.length (eo l1)),(2,.loc 2 0),(15,.ms 15 5 0 qu.length),(16,.int .i64 2),(17,.int .i64 t17)],[(2,qS (fp b2)),(15,.rows false 105 5 (Lr qu))]⟩
def azO (l1:aK) (t36 t37:Int) (b2:ah):LS:=⟨[(1,.slice 3 1 l1.length (eo l1)),(2,.loc 2 0),(36,.int .i64 t36),(37,.int .i64 t37)],[(2,qS (fp b2))]⟩
def azN (l1:aK):LS:=⟨[(1,.slice 3 1 l1.length (eo l1))],[]⟩
def azM (l1:aK) (b2:ah):LS:=⟨[(1,.slice 3 1 l1.length (eo l1)),(2,.loc 2 0)],[(2,qS (fp b2))]⟩
def agN (p0:ah) (l1:aK):LS:=⟨[(0,.agg (fp p0)),(1,.slice 3 1 l1.length (eo l1))],[]⟩
def FQ (hJ:ah->aK->Option aK) (bC:amB) (back:aK->Int->ah->td->Option aK) (n:Nat) (l1:aK) (t17:Int) (b2:ah) (qu:td):Option aK:=
 if decide (t17<2) then
 (eW qu.length t17).bind λx2=>(qu[0+x2]?).bind λx4=>if x4.ay==1 then
 if !decide (x4.cQ<0) then
 (amL n l1 x4.cQ).bind λir=>back ir (bl (t17+1)) b2 qu
 else
 back l1 (bl (t17+1)) b2 qu
 else
 back l1 (bl (t17+1)) b2 qu
 else
 bC l1 b2
def yH:=K2 C195 agN
def ZM:=K2 (afC [1,1]) azM
def ZL:=K4 (afC (cF 85)) azP
def aGc {hJ} (oa:yH hJ) {bC} (cU:ZM bC) {back} (aS:ZL back) (n:Nat):ZL (FQ hJ bC back n):=λl1 t17 b2 qu r h=>ie h (λc0 h=>be h λx2 cX h=>be h λx4 jr h=>let zA:SE:=[aI c0,(0,dM cX),(0,amE.row jr)];ie h (λc1 h=>ie h (λc2 h=>be h λir mN h=>cI (aS h) zA [bu c1,bj c2,mY (aKg n mN)]) λc2 h=>cI (aS h) zA [bu c1,bj c2]) λc1 h=>cI (aS h) zA [bu c1]) λc0 h=>ra (cU h) [aI c0]
def uX (hJ:ah->aK->Option aK) (bC:amB):Nat->aK->Int->ah->td->Option aK
 |0=>λ_ _ _ _=>none
 |n+1=>FQ hJ bC (uX hJ bC n) n
def aqe {hJ} (oa:yH hJ) {bC} (cU:ZM bC):∀n:Nat,ZL (uX hJ bC n)
 |0=>λ_ _ _ _ _ h=>nz h
 |n+1=>aGc oa cU (aqe oa cU n) n
def Re (hJ:ah->aK->Option aK) (bt:Wf0) (back:aK->Int->Int->ah->Option aK) (n:Nat) (l1:aK) (t36 t37:Int) (b2:ah):Option aK:=
 if decide (t37<t36) then
 (idx b2.fArgs t37).bind λx7=>(hJ x7 l1).bind λdy=>back dy t36 (bl (t37+1)) b2
 else
 bt l1
def ZK:=K1 (afC [1,1,1]) azN
def ZJ:=K4 (afC [0,1,0,1,1]) azO
def aGb {hJ} (oa:yH hJ) {bt} (cM:ZK bt) {back} (aS:ZJ back) (n:Nat):ZJ (Re hJ bt back n):=λl1 t36 t37 b2 r h=>ie h (λc0 h=>be h λx7 jK h=>be h λdy ga h=>ra (aS h) [aI c0,(5,eD.idx jK),iW (oa ga)]) λc0 h=>ra (cM h) [aI c0]
def E8 (hJ:ah->aK->Option aK) (bt:Wf0):Nat->aK->Int->Int->ah->Option aK
 |0=>λ_ _ _ _=>none
 |n+1=>Re hJ bt (E8 hJ bt n) n
def aqd {hJ} (oa:yH hJ) {bt} (cM:ZK bt):∀n:Nat,ZJ (E8 hJ bt n)
 |0=>λ_ _ _ _ _ h=>nz h
 |n+1=>aGb oa cM (aqd oa cM n) n
def Rb (hJ:ah->aK->Option aK) (n:Nat) (l1:aK):Option aK:=
 some l1
def aGa {hJ} (oa:yH hJ) (n:Nat):ZK (Rb hJ n):=λl1 r h=>rr h []
def FP (hJ:ah->aK->Option aK) (n:Nat) (l1:aK) (b2:ah):Option aK:=
 E8 hJ (Rb hJ n) n l1 (b2.fArgs.length:Int) 0 b2
def arP {hJ} (oa:yH hJ) (n:Nat):ZM (FP hJ n):=λl1 b2 r h=>ra (aqd oa (aGa oa n) n h) []
def aes (hJ:ah->aK->Option aK) (n:Nat) (p0:ah) (l1:aK):Option aK:=
 if p0.bh==3 then
 uX hJ (FP hJ n) n l1 0 p0 [p0.cq,p0.bL]
 else
 FP hJ n l1 p0
def aFZ {hJ} (oa:yH hJ) (n:Nat):K2 (afC []) agN (aes hJ n):=λp0 l1 r h=>ie h (λc0 h=>ra (aqe oa (arP oa n) n h) [bu c0]) λc0 h=>ra (arP oa n h) [bu c0]
def DK:Nat->ah->aK->Option aK
 |0,_,_=>none
 |n+1,p0,l1=>aes (DK n) n p0 l1
def ayj:∀n:Nat,yH (DK n)
 |0=>λ_ _ _ h=>nz h
 |n+1=>λ_ _ _ h=>ca (X:=x195) (aFZ (ayj n) n h)
def x176:=fx E0 Tryz.f176 []
def A176:=Ax x176 Ei bQ
def aeE (n:Nat) (p0:ah):Option aK:=
 (DK n p0 []).bind λx4=>some x4
def aGD (n:Nat):K1 (A176 []) AF (aeE n):=λp0 r h=>be h λx4 jr h=>rr h [kH (ayj n jr)]
def amQ:=aeE
def aKq (n:Nat):K1 (Cx E0 176 Ei bQ) AF (amQ n):=λ_ _ h=>ca (X:=x176) (aGD n h)
def x143:=fx E0 Tryz.f143 []
def HF:=Ax x143 dv bQ
def aAW (eB:Int) (t14:cB) (t15 t16:Int) (t21:aK) (t22 t23:Int) (b2:aj):LS:=⟨[(1,.int .i64 eB),(2,.loc 2 0),(14,.slice 121 2 t14.length (aR t14)),(15,.int .i64 t15),(16,.int .i64 t16),(21,.slice 3 1 t21.length (eo t21)),(22,.int .i64 t22),(23,.int .i64 t23)],[(2,pb (im b2))]⟩
def ahn (eB:Int) (t14:cB) (t15 t16:Int) (b2:aj):LS:=⟨[(1,.int .i64 eB),(2,.loc 2 0),(14,.slice 121 2 t14.length (aR t14)),(15,.int .i64 t15),(16,.int .i64 t16)],[(2,pb (im b2))]⟩
def aAV (eB:Int) (t33:bO) (t34 t35:Int) (t40:aK) (t41 t42:Int):LS:=⟨[(1,.int .i64 eB),(33,.slice 107 13 t33.length (aJ t33)),(34,.int .i64 t34),(35,.int .i64 t35),(40,.slice 3 1 t40.length (eo t40)),(41,.int .i64 t41),(42,.int .i64 t42)],[]⟩
def ahm (eB:Int) (t33:bO) (t34 t35:Int):LS:=⟨[(1,.int .i64 eB),(33,.slice 107 13 t33.length (aJ t33)),(34,.int .i64 t34),(35,.int .i64 t35)],[]⟩
def aAU:LS:=⟨[],[]⟩
def aAT (eB:Int) (b2:aj):LS:=⟨[(1,cm eB),(2,.loc 2 0)],[(2,pb (im b2))]⟩
def ahl (t0:aj) (eB:Int):LS:=⟨[(0,.agg (im t0)),(1,cm eB)],[]⟩
def R8 (aO:amA) (back:Int->cB->Int->Int->aK->Int->Int->aj->Option Bool) (n:Nat) (eB:Int) (t14:cB) (t15 t16:Int) (t21:aK) (t22 t23:Int) (b2:aj):Option Bool:=
 if decide (t23<t22) then
 (idx t21 t23).bind λx2=>if x2==eB then
 some true
 else
 back eB t14 t15 t16 t21 t22 (bl (t23+1)) b2
 else
 aO eB t14 t15 t16 b2
def ZI:=K5 (HF (cF 485)) ahn
def ZH:=K8 (HF (cF 5733)) aAW
def aIb {aO} (bq:ZI aO) {back} (aS:ZH back) (n:Nat):ZH (R8 aO back n):=λeB t14 t15 t16 t21 t22 t23 b2 r h=>ie h (λc0 h=>be h λx2 cX h=>ie h (λc1 h=>rr h [aI c0,(0,R3.idx cX),bu c1]) λc1 h=>ra (aS h) [aI c0,(0,R3.idx cX),bu c1]) λc0 h=>ra (bq h) [aI c0]
def Fu (aO:amA):Nat->Int->cB->Int->Int->aK->Int->Int->aj->Option Bool
 |0=>λ_ _ _ _ _ _ _ _=>none
 |n+1=>R8 aO (Fu aO n) n
def aqJ {aO} (bq:ZI aO):∀n:Nat,ZH (Fu aO n)
 |0=>λ_ _ _ _ _ _ _ _ _ h=>nz h
 |n+1=>aIb bq (aqJ bq n) n
def R7 (bt:amA) (n:Nat) (eB:Int) (t14:cB) (t15 t16:Int) (b2:aj):Option Bool:=
 bt eB t14 t15 (bl (t16+1)) b2
def O4:=K5 (HF [0,1,0,1]) ahn
def aIa {bt} (cM:O4 bt) (n:Nat):ZI (R7 bt n):=λeB t14 t15 t16 b2 r h=>ra (cM h) []
def R6 (kQ:Int->aj->Option Bool) (back:amA) (n:Nat) (eB:Int) (t14:cB) (t15 t16:Int) (b2:aj):Option Bool:=
 if decide (t16<t15) then
 (idx t14 t16).bind λx2=>Fu (R7 back n) n eB t14 t15 t16 x2.ae (x2.ae.length:Int) 0 b2
 else
 kQ eB b2
def ZG:=K2 (HF [1,1]) aAT
def aHZ {kQ} (rJ:ZG kQ) {back} (aS:O4 back) (n:Nat):O4 (R6 kQ back n):=λeB t14 t15 t16 b2 r h=>ie h (λc0 h=>be h λx2 cX h=>ra (aqJ (aIa aS n) n h) [aI c0,(0,eQ.idx cX)]) λc0 h=>ra (rJ h) [aI c0]
def B9 (kQ:Int->aj->Option Bool):Nat->Int->cB->Int->Int->aj->Option Bool
 |0=>λ_ _ _ _ _=>none
 |n+1=>R6 kQ (B9 kQ n) n
def aqI {kQ} (rJ:ZG kQ):∀n:Nat,O4 (B9 kQ n)
 |0=>λ_ _ _ _ _ _ h=>nz h
 |n+1=>aHZ rJ (aqI rJ n) n
def R4 (da:amz) (back:Int->bO->Int->Int->aK->Int->Int->Option Bool) (n:Nat) (eB:Int) (t33:bO) (t34 t35:Int) (t40:aK) (t41 t42:Int):Option Bool:=
 if decide (t42<t41) then
 (idx t40 t42).bind λx2=>if x2==eB then
 some true
 else
 back eB t33 t34 t35 t40 t41 (bl (t42+1))
 else
 da eB t33 t34 t35
def ZF:=K4 (HF (cF 971)) ahm
def ZE:=K7 (HF (cF 11467)) aAV
def aHY {da} (fg:ZF da) {back} (aS:ZE back) (n:Nat):ZE (R4 da back n):=λeB t33 t34 t35 t40 t41 t42 r h=>ie h (λc0 h=>be h λx2 cX h=>ie h (λc1 h=>rr h [aI c0,(0,R3.idx cX),bu c1]) λc1 h=>ra (aS h) [aI c0,(0,R3.idx cX),bu c1]) λc0 h=>ra (fg h) [aI c0]
def Ft (da:amz):Nat->Int->bO->Int->Int->aK->Int->Int->Option Bool
 |0=>λ_ _ _ _ _ _ _=>none
 |n+1=>R4 da (Ft da n) n
def aqH {da} (fg:ZF da):∀n:Nat,ZE (Ft da n)
 |0=>λ_ _ _ _ _ _ _ _ h=>nz h
 |n+1=>aHY fg (aqH fg n) n
def R2 (dZ:amz) (n:Nat) (eB:Int) (t33:bO) (t34 t35:Int):Option Bool:=
 dZ eB t33 t34 (bl (t35+1))
def O3:=K4 (HF [0,1,0,1,1]) ahm
def aHX {dZ} (gj:O3 dZ) (n:Nat):ZF (R2 dZ n):=λeB t33 t34 t35 r h=>ra (gj h) []
def R1 (jR:Option Bool) (back:amz) (n:Nat) (eB:Int) (t33:bO) (t34 t35:Int):Option Bool:=
 if decide (t35<t34) then
 (idx t33 t35).bind λx2=>(amQ n x2).bind λx8=>Ft (R2 back n) n eB t33 t34 t35 x8 (x8.length:Int) 0
 else
 jR
def ZD:=K0 (HF [1,1,1]) aAU
def aHW {jR} (ql:ZD jR) {back} (aS:O3 back) (n:Nat):O3 (R1 jR back n):=λeB t33 t34 t35 r h=>ie h (λc0 h=>be h λx2 cX h=>be h λx8 oK h=>ra (aqH (aHX aS n) n h) [aI c0,(0,eD.idx cX),mY (aKq n oK)]) λc0 h=>ra (ql h) [aI c0]
def B8 (jR:Option Bool):Nat->Int->bO->Int->Int->Option Bool
 |0=>λ_ _ _ _=>none
 |n+1=>R1 jR (B8 jR n) n
def aqG {jR} (ql:ZD jR):∀n:Nat,O3 (B8 jR n)
 |0=>λ_ _ _ _ _ h=>nz h
 |n+1=>aHW ql (aqG ql n) n
def R0 (n:Nat):Option Bool:=
 some false
def aHV (n:Nat):ZD (R0 n):=λr h=>rr h []
def RZ (n:Nat) (eB:Int) (b2:aj):Option Bool:=
 B8 (R0 n) n eB b2.ak (b2.ak.length:Int) 0
def aHU (n:Nat):ZG (RZ n):=λeB b2 r h=>ra (aqG (aHV n) n h) []
def afh (n:Nat) (t0:aj) (eB:Int):Option Bool:=
 B9 (RZ n) n eB t0.af (t0.af.length:Int) 0 t0
def aHT (n:Nat):K2 (HF []) ahl (afh n):=λt0 eB r h=>ra (aqI (aHU n) n h) []
def adY:=afh
def ayE (n:Nat):K2 (Cx E0 143 dv bQ) ahl (adY n):=λ_ _ _ h=>ca (X:=x143) (aHT n h)
def Ej (r:ah):AV:=.agg (fp r)
def x177:=fx E0 Tryz.f177 []
def afE:=Ax x177 Ej bQ
def C177:=Cx E0 177 Ej bQ
def agU (dq fI:Int) (b3 b6:ah):LS:=⟨[(1,cm dq),(2,cm fI),(3,.loc 3 0),(6,.loc 6 0)],[(3,qS (fp b3)),(6,.flat 107 q6_)]⟩
def aAe (dq fI:Int) (t38:bO) (t39 t40:Int) (b3 b6:ah) (E3:bO):LS:=⟨[(1,.int .i64 dq),(2,.int .i64 fI),(3,.loc 3 0),(6,.loc 6 0),(7,.ms 50 13 0 E3.length),(38,.slice 107 13 t38.length (aJ t38)),(39,.int .i64 t39),(40,.int .i64 t40)],[(3,qS (fp b3)),(6,.flat 107 (q2_ b6)),(50,U6 E3)]⟩
def aAd (b3 b6:ah) (E3:bO):LS:=⟨[(3,.loc 3 0),(6,.loc 6 0),(7,.ms 50 13 0 E3.length)],[(3,qS (fp b3)),(6,.flat 107 (q2_ b6)),(50,U6 E3)]⟩
def agT (p0:ah) (dq fI:Int):LS:=⟨[(0,.agg (fp p0)),(1,cm dq),(2,cm fI)],[]⟩
def Ke (iU:ah->Int->Int->Option ah) (bC:Int->Int->ah->ah->Option ah) (n:Nat) (dq fI:Int) (b3 b6:ah):Option ah:=
 if b3.bL.ay==1 then
 (Hv n b3.bL.cQ dq fI).bind λdB=>bC dq fI (ah.mk b3.bh b3.eP b3.cq (aT.mk b3.bL.ay dB b3.bL.aD) b3.fArgs) (ah.mk 0 0 (aT.mk 0 0 (aP.mk 0 0 ByteArray.empty)) (aT.mk 0 0 (aP.mk 0 0 ByteArray.empty)) [])
 else
 bC dq fI b3 (ah.mk 0 0 (aT.mk 0 0 (aP.mk 0 0 ByteArray.empty)) (aT.mk 0 0 (aP.mk 0 0 ByteArray.empty)) [])
def A8:=K3 C177 agT
def aoV:=K4 (afE [1,1]) agU
def arR {iU} (oL:A8 iU) {bC} (cU:aoV bC) (n:Nat):K4 (afE [1,0,1,0,1]) agU (Ke iU bC n):=λdq fI b3 b6 r h=>ie h (λc0 h=>be h λdB kS h=>ra (cU h) [bj c0,oZ (Qe n kS)]) λc0 h=>ra (cU h) [bj c0]
def Rq (iU:ah->Int->Int->Option ah) (bt:amy) (back:Int->Int->bO->Int->Int->ah->ah->bO->Option ah) (n:Nat) (dq fI:Int) (t38:bO) (t39 t40:Int) (b3 b6:ah) (E3:bO):Option ah:=
 if decide (t40<t39) then
 (idx t38 t40).bind λx2=>(iU x2 dq fI).bind λdy=>(app E3 [dy]).bind λiu=>back dq fI t38 t39 (bl (t40+1)) b3 (ah.mk b6.bh b6.eP b6.cq b6.bL []) iu
 else
 bt b3 (ah.mk b6.bh b6.eP b6.cq b6.bL []) E3
def ZC:=K3 (afE [1,1,1,1]) aAd
def ZB:=K8 (afE (cF 87)) aAe
def aGC {iU} (oL:A8 iU) {bt} (cM:ZC bt) {back} (aS:ZB back) (n:Nat):ZB (Rq iU bt back n):=λdq fI t38 t39 t40 b3 b6 E3 r h=>ie h (λc0 h=>be h λx2 cX h=>be h λdy ga h=>be h λiu j4 h=>ra (aS h) [aI c0,(0,eD.idx cX),yr (oL ga),(0,.laid (bN (Bx.rows false 107 13) (eD.map [dy]).symm)),(0,eD.kF j4)]) λc0 h=>ra (cM h) [aI c0]
def Fe (iU:ah->Int->Int->Option ah) (bt:amy):Nat->Int->Int->bO->Int->Int->ah->ah->bO->Option ah
 |0=>λ_ _ _ _ _ _ _ _=>none
 |n+1=>Rq iU bt (Fe iU bt n) n
def aql {iU} (oL:A8 iU) {bt} (cM:ZC bt):∀n:Nat,ZB (Fe iU bt n)
 |0=>λ_ _ _ _ _ _ _ _ _ h=>nz h
 |n+1=>aGC oL cM (aql oL cM n) n
def aeD (iU:ah->Int->Int->Option ah) (n:Nat) (b3 b6:ah) (E3:bO):Option ah:=
 some (ah.mk b3.bh b3.eP b3.cq b3.bL E3)
def aGB {iU} (oL:A8 iU) (n:Nat):ZC (aeD iU n):=λb3 b6 E3 r h=>rr h [(5,eD.fX 50 E3),(0,.pZ 6 (.flat 0 [.bool true,.bool true,.bool true,.bool true,.bool true,.bool true,.bool true,.bool true,.bool true,.bool true,.bool true,.bool true,.sl 0 0 0 0 []]))]
def Cj (iU:ah->Int->Int->Option ah) (n:Nat) (dq fI:Int) (b3 b6:ah):Option ah:=
 Fe iU (aeD iU n) n dq fI b3.fArgs (b3.fArgs.length:Int) 0 b3 (ah.mk 0 0 (aT.mk 0 0 (aP.mk 0 0 ByteArray.empty)) (aT.mk 0 0 (aP.mk 0 0 ByteArray.empty)) []) []
def acH {iU} (oL:A8 iU) (n:Nat):aoV (Cj iU n):=λdq fI b3 b6 r h=>ra (aql oL (aGB oL n) n h) [(5,.born [7] [] 50 true 107 13)]
def aeC (iU:ah->Int->Int->Option ah) (n:Nat) (p0:ah) (dq fI:Int):Option ah:=
 if p0.bh==3 then
 if p0.cq.ay==1 then
 (Hv n p0.cq.cQ dq fI).bind λfj=>Ke iU (Cj iU n) n dq fI (ah.mk p0.bh p0.eP (aT.mk p0.cq.ay fj p0.cq.aD) p0.bL p0.fArgs) (ah.mk 0 0 (aT.mk 0 0 (aP.mk 0 0 ByteArray.empty)) (aT.mk 0 0 (aP.mk 0 0 ByteArray.empty)) [])
 else
 Ke iU (Cj iU n) n dq fI p0 (ah.mk 0 0 (aT.mk 0 0 (aP.mk 0 0 ByteArray.empty)) (aT.mk 0 0 (aP.mk 0 0 ByteArray.empty)) [])
 else
 Cj iU n dq fI p0 (ah.mk 0 0 (aT.mk 0 0 (aP.mk 0 0 ByteArray.empty)) (aT.mk 0 0 (aP.mk 0 0 ByteArray.empty)) [])
def aGA {iU} (oL:A8 iU) (n:Nat):K3 (afE []) agT (aeC iU n):=λp0 dq fI r h=>ie h (λc0 h=>ie h (λc1 h=>be h λfj mO h=>ra (arR oL (acH oL n) n h) [bu c0,bj c1,oZ (Qe n mO)]) λc1 h=>ra (arR oL (acH oL n) n h) [bu c0,bj c1]) λc0 h=>ra (acH oL n h) [bu c0]
def DL:Nat->ah->Int->Int->Option ah
 |0,_,_,_=>none
 |n+1,p0,dq,fI=>aeC (DL n) n p0 dq fI
def ayr:∀n:Nat,A8 (DL n)
 |0=>λ_ _ _ _ h=>nz h
 |n+1=>λ_ _ _ _ h=>ca (X:=x177) (aGA (ayr n) n h)
def apl (r:(aj×cN×cB×bO)):AV:=.agg [.str r.1.av,jO rG r.2.1.length,Gi r.1,jO mX r.2.2.1.length,.ms rF 13 0 r.2.2.2.length]
def ahQ (r:(aj×cN×cB×bO)):List (Nat×Bx):= [(rG,Nx r.2.1),(mX,Ny r.2.2.1),(rF,akv r.2.2.2)]
def x144:=fx E0 Tryz.f144 [rG,mX,rF]
def Ou:=Ax x144 apl ahQ
def aAS (dq fI t13 t14 t20 t21:Int) (dS:cN) (dG:bO) (b3 b6:aj) (b8:bk) (vh:aK) (dH:cB) (tI:bk) (ry:Nat):LS:=⟨[(1,cm dq),(2,cm fI),(3,.loc 3 0),(6,.loc 6 0),(8,.loc 8 0),(12,.ms mX 2 0 dH.length),(13,cm t13),(14,cm t14),(20,cm t20),(21,cm t21)],[(3,q9_ b3 rG dS.length mX dH.length rF dG.length),(6,aaG b6),(8,.flat 121 [qd Bo vh.length,cm b8.aG]),(rG,Nx dS),(mX,.tree 121 2 zm (((aR dH)).set ry (oH tI.aG)) [(ry*2+0,qd Bo vh.length)]),(rF,akv dG),(Bo,xO vh)]⟩
def ahk (dq fI t13 t14:Int) (dS:cN) (dG:bO) (b3 b6:aj) (dH:cB):LS:=⟨[(1,cm dq),(2,cm fI),(3,.loc 3 0),(6,.loc 6 0),(12,.ms mX 2 0 dH.length),(13,cm t13),(14,cm t14)],(q8_ b3 rG dS.length mX dH.length rF dG.length b6 dS dH dG)⟩
def aAR (dq fI t40 t41:Int) (dS:cN) (dG:bO) (b3 b6:aj) (dH:cB):LS:=⟨[(1,cm dq),(2,cm fI),(3,.loc 3 0),(6,.loc 6 0),(40,cm t40),(41,cm t41)],(q8_ b3 rG dS.length mX dH.length rF dG.length b6 dS dH dG)⟩
def aAQ (dS:cN) (dG:bO) (b3 b6:aj) (dH:cB):LS:=⟨[(3,.loc 3 0),(6,.loc 6 0)],(q8_ b3 rG dS.length mX dH.length rF dG.length b6 dS dH dG)⟩
def aAP (dq fI:Int) (dS:cN) (dG:bO) (b3 b6:aj) (dH:cB):LS:=⟨[(1,cm dq),(2,cm fI),(3,.loc 3 0),(6,.loc 6 0)],(q8_ b3 rG dS.length mX dH.length rF dG.length b6 dS dH dG)⟩
def ahj (t0:aj) (dq fI:Int):LS:=⟨[(0,.agg (q28_ t0 rG mX rF)),(1,cm dq),(2,cm fI)],(q26_ rG t0 mX rF)⟩
def RY (aO:acV) (back:Int->Int->Int->Int->Int->Int->cN->bO->aj->aj->bk->aK->cB->bk->Nat->Option (aj×cN×cB×bO)) (n:Nat) (dq fI t13 t14 t20 t21:Int) (dS:cN) (dG:bO) (b3 b6:aj) (b8:bk) (vh:aK) (dH:cB) (tI:bk) (ry:Nat):Option (aj×cN×cB×bO):=
 if decide (t21<t20) then
 (eW vh.length t21).bind λdB=>(vh[0+dB]?).bind λgS=>(Hv n gS dq fI).bind λeO=>(eW vh.length t21).bind λld=>(vh[0+ld]?).bind λjQ=>(setAt vh (0+ld) eO).bind λz21=>back dq fI t13 t14 t20 (bl (t21+1)) dS dG (aj.mk b3.av dS b3.aw dH dG) (aj.mk b6.av [] b6.aw [] []) (bk.mk z21 b8.aG) z21 dH (bk.mk [] tI.aG) ry
 else
 (setAt dH ry (bk.mk vh tI.aG)).bind λz2=>aO dq fI t13 t14 dS dG (aj.mk b3.av dS b3.aw z2 dG) (aj.mk b6.av [] b6.aw [] []) z2
def ZA:=K9 (Ou (cF 485)) ahk
def Zz:=K15 (Ou (cF 5733)) aAS
def aHS {aO} (bq:ZA aO) {back} (aS:Zz back) (n:Nat):Zz (RY aO back n):=λdq fI t13 t14 t20 t21 dS dG b3 b6 b8 vh dH tI ry r h=>ie h (λc0 h=>be h λdB kS h=>be h λgS jG h=>be h λeO ic h=>be h λld pj h=>be h λjQ j3 h=>be h λz21 wA h=>ra (aS h) [aI c0,(8,dM kS),(0,R3.row jG),iW (Qe n ic),(0,dM pj),(0,R3.uF 0 [cm eO] j3 wA (by kernel_rfl)),(2,.beq 8 (bN (λn_=>(Bx.flat 121 [qd Bo n_,cm b8.aG])) (eu wA))),(0,.beq mX (bN (λn_=>(Bx.tree 121 2 zm (((aR dH)).set ry (oH tI.aG)) [(ry*2+0,qd Bo n_)])) (eu wA)))]) λc0 h=>be h λz2 mn h=>ra (bq h) [aI c0,(0,eQ.gT R3 (r:= (oH tI.aG)) mX Bo 0 false 3 1 vh mn (by kernel_rfl)),(0,.seq 12 (bN (AV.ms mX 2 0) (eu mn))),(0,.beq 3 (bN (λn_=>((q9_ b3 rG dS.length mX n_ rF dG.length))) (eu mn)))]
def Fs (aO:acV):Nat->Int->Int->Int->Int->Int->Int->cN->bO->aj->aj->bk->aK->cB->bk->Nat->Option (aj×cN×cB×bO)
 |0=>λ_ _ _ _ _ _ _ _ _ _ _ _ _ _ _=>none
 |n+1=>RY aO (Fs aO n) n
def aqF {aO} (bq:ZA aO):∀n:Nat,Zz (Fs aO n)
 |0=>λ_ _ _ _ _ _ _ _ _ _ _ _ _ _ _ _ h=>nz h
 |n+1=>aHS bq (aqF bq n) n
def RX (bt:acV) (n:Nat) (dq fI t13 t14:Int) (dS:cN) (dG:bO) (b3 b6:aj) (dH:cB):Option (aj×cN×cB×bO):=
 bt dq fI t13 (bl (t14+1)) dS dG (aj.mk b3.av dS b3.aw dH dG) (aj.mk b6.av [] b6.aw [] []) dH
def O2:=K9 (Ou [0,1,0,1]) ahk
def aHR {bt} (cM:O2 bt) (n:Nat):ZA (RX bt n):=λdq fI t13 t14 dS dG b3 b6 dH r h=>ra (cM h) []
def RW (dZ:Wf20) (back:acV) (n:Nat) (dq fI t13 t14:Int) (dS:cN) (dG:bO) (b3 b6:aj) (dH:cB):Option (aj×cN×cB×bO):=
 if decide (t14<t13) then
 (eW dH.length t14).bind λx2=>(dH[0+x2]?).bind λu5=>Fs (RX back n) n dq fI t13 t14 (u5.ae.length:Int) 0 dS dG (aj.mk b3.av dS b3.aw dH dG) (aj.mk b6.av [] b6.aw [] []) u5 u5.ae dH (bk.mk [] u5.aG) (0+x2)
 else
 dZ dq fI dS dG (aj.mk b3.av dS b3.aw dH dG) (aj.mk b6.av [] b6.aw [] []) dH
def Zy:=K7 (Ou [1,1]) aAP
def aHQ {dZ} (gj:Zy dZ) {back} (aS:O2 back) (n:Nat):O2 (RW dZ back n):=λdq fI t13 t14 dS dG b3 b6 dH r h=>ie h (λc0 h=>be h λx2 cX h=>be h λu5 uM h=>ra (aqF (aHR aS n) n h) [aI c0,(0,dM cX),(0,eQ.nE R3 mX Bo 0 false 3 1 u5.ae uM (oH u5.aG) (by kernel_rfl) (by kernel_rfl)),(0,eQ.zi [0] (oH u5.aG) uM)]) λc0 h=>ra (gj h) [aI c0]
def B7 (dZ:Wf20):Nat->Int->Int->Int->Int->cN->bO->aj->aj->cB->Option (aj×cN×cB×bO)
 |0=>λ_ _ _ _ _ _ _ _ _=>none
 |n+1=>RW dZ (B7 dZ n) n
def aqE {dZ} (gj:Zy dZ):∀n:Nat,O2 (B7 dZ n)
 |0=>λ_ _ _ _ _ _ _ _ _ _ h=>nz h
 |n+1=>aHQ gj (aqE gj n) n
def RV (da:Wf21) (back:acV) (n:Nat) (dq fI t40 t41:Int) (dS:cN) (dG:bO) (b3 b6:aj) (dH:cB):Option (aj×cN×cB×bO):=
 if decide (t41<t40) then
 (eW dG.length t41).bind λdB=>(dG[0+dB]?).bind λgS=>(DL n gS dq fI).bind λeO=>(eW dG.length t41).bind λld=>(dG[0+ld]?).bind λjQ=>(setAt dG (0+ld) eO).bind λz21=>back dq fI t40 (bl (t41+1)) dS z21 (aj.mk b3.av dS b3.aw dH z21) (aj.mk b6.av [] b6.aw [] []) dH
 else
 da dS dG (aj.mk b3.av dS b3.aw dH dG) (aj.mk b6.av [] b6.aw [] []) dH
def Zx:=K5 (Ou [1,1,1]) aAQ
def Zw:=K9 (Ou [0,1,0,1,1]) aAR
def aHP {da} (fg:Zx da) {back} (aS:Zw back) (n:Nat):Zw (RV da back n):=λdq fI t40 t41 dS dG b3 b6 dH r h=>ie h (λc0 h=>be h λdB kS h=>be h λgS jG h=>be h λeO ic h=>be h λld pj h=>be h λjQ j3 h=>be h λz21 wA h=>ra (aS h) [aI c0,(8,dM kS),(0,eD.row jG),iW (ayr n ic),(0,dM pj),(0,eD.uF 0 (fp eO) j3 wA (by kernel_rfl)),(2,.beq 3 (bN (q9_ b3 rG dS.length mX dH.length rF) (eu wA)))]) λc0 h=>ra (fg h) [aI c0]
def Fq (da:Wf21):Nat->Int->Int->Int->Int->cN->bO->aj->aj->cB->Option (aj×cN×cB×bO)
 |0=>λ_ _ _ _ _ _ _ _ _=>none
 |n+1=>RV da (Fq da n) n
def aqD {da} (fg:Zx da):∀n:Nat,Zw (Fq da n)
 |0=>λ_ _ _ _ _ _ _ _ _ _ h=>nz h
 |n+1=>aHP fg (aqD fg n) n
def afg (n:Nat) (dS:cN) (dG:bO) (b3 b6:aj) (dH:cB):Option (aj×cN×cB×bO):=
 some ((aj.mk b3.av dS b3.aw dH dG),dS,dH,dG)
def aHO (n:Nat):Zx (afg n):=λdS dG b3 b6 dH r h=>rr h []
def RU (n:Nat) (dq fI:Int) (dS:cN) (dG:bO) (b3 b6:aj) (dH:cB):Option (aj×cN×cB×bO):=
 Fq (afg n) n dq fI (dG.length:Int) 0 dS dG (aj.mk b3.av dS b3.aw dH dG) (aj.mk b6.av [] b6.aw [] []) dH
def aHN (n:Nat):Zy (RU n):=λdq fI dS dG b3 b6 dH r h=>ra (aqD (aHO n) n h) []
def aff (n:Nat) (t0:aj) (dq fI:Int):Option (aj×cN×cB×bO):=
 B7 (RU n) n dq fI (t0.af.length:Int) 0 t0.ae t0.ak t0 (aj.mk ByteArray.empty [] 0 [] []) t0.af
def aHM (n:Nat):K3 (Ou []) ahj (aff n):=λt0 dq fI r h=>ra (aqE (aHN n) n h) []
def adX:=aff
def ayD (n:Nat):K3 (Cx E0 144 apl ahQ) ahj (adX n):=λ_ _ _ _ h=>ca (X:=x144) (aHM n h)
def x145:=fx E0 Tryz.f145 []
def Wb:=Ax x145 dv bQ
def aAO (l0:gu) (fJ lF jZ:Int) (t19:gu) (t20 t21 t32 t33:Int) (t36:gu) (t37 t38:Int) (b6 gG:jn):LS:=⟨[(0,.slice 110 6 l0.length (cR l0)),(1,.int .i64 fJ),(6,.loc 6 0),(7,.int .i64 lF),(8,.int .i64 jZ),(10,.loc 10 0),(19,.slice 110 6 t19.length (cR t19)),(20,.int .i64 t20),(21,.int .i64 t21),(30,.loc 6 0),(31,.loc 6 0),(32,.int .i64 t32),(33,.int .i64 t33),(34,.bool false),(36,.slice 110 6 t36.length (cR t36)),(37,.int .i64 t37),(38,.int .i64 t38)],[(6,.flat 110 (y6 b6)),(10,.flat 110 (y6 gG))]⟩
def aAN (l0:gu) (fJ lF jZ:Int) (t19:gu) (t20 t21 t32 t33:Int) (t36:gu) (t37 t38:Int) (b6:jn):LS:=⟨[(0,.slice 110 6 l0.length (cR l0)),(1,.int .i64 fJ),(6,.loc 6 0),(7,.int .i64 lF),(8,.int .i64 jZ),(19,.slice 110 6 t19.length (cR t19)),(20,.int .i64 t20),(21,.int .i64 t21),(30,.loc 6 0),(31,.loc 6 0),(32,.int .i64 t32),(33,.int .i64 t33),(34,.bool false),(36,.slice 110 6 t36.length (cR t36)),(37,.int .i64 t37),(38,.int .i64 t38)],[(6,.flat 110 (y6 b6))]⟩
def aAM (l0:gu) (fJ lF jZ:Int) (t19:gu) (t20 t21 t32 t33:Int) (b6:jn):LS:=⟨[(0,.slice 110 6 l0.length (cR l0)),(1,.int .i64 fJ),(7,.int .i64 lF),(8,.int .i64 jZ),(19,.slice 110 6 t19.length (cR t19)),(20,.int .i64 t20),(21,.int .i64 t21),(30,.loc 6 0),(31,.loc 6 0),(32,.int .i64 t32),(33,.int .i64 t33),(34,.bool false)],[(6,.flat 110 (y6 b6))]⟩
def aAL (l0:gu) (fJ:Int) (t19:gu) (t20 t21:Int):LS:=⟨[(0,.slice 110 6 l0.length (cR l0)),(1,.int .i64 fJ),(19,.slice 110 6 t19.length (cR t19)),(20,.int .i64 t20),(21,.int .i64 t21)],[]⟩
def aAK:LS:=⟨[],[]⟩
def ahi (l0:gu) (fJ:Int):LS:=⟨[(0,.slice 110 6 l0.length (cR l0)),(1,.int .i64 fJ)],[]⟩
def RT (aO:Wf22) (n:Nat) (l0:gu) (fJ lF jZ:Int) (t19:gu) (t20 t21 t32 t33:Int) (t36:gu) (t37 t38:Int) (b6 gG:jn):Option Bool:=
 if ((gG.f1.ay==b6.f0.ay) && ((gG.f1.bZ==b6.f0.bZ) && ((decide (gG.f1.bB=b6.f0.bB)) && true))) then
 aO l0 fJ lF (bl (jZ+1)) t19 t20 t21 t32 t33 t36 t37 (bl (t38+1)) b6
 else
 aO l0 fJ lF jZ t19 t20 t21 t32 t33 t36 t37 (bl (t38+1)) b6
def O1:=K13 (Wb (cF 89291)) aAN
def arW {aO} (bq:O1 aO) (n:Nat):K14 (Wb (cF 15097035)) aAO (RT aO n):=λl0 fJ lF jZ t19 t20 t21 t32 t33 t36 t37 t38 b6 gG r h=>ie h (λc0 h=>ra (bq h) [bu c0]) λc0 h=>ra (bq h) [bu c0]
def RS (bt:Wf23) (back:Wf22) (n:Nat) (l0:gu) (fJ lF jZ:Int) (t19:gu) (t20 t21 t32 t33:Int) (t36:gu) (t37 t38:Int) (b6:jn):Option Bool:=
 if decide (t38<t37) then
 (idx t36 t38).bind λx2=>if ((x2.f0.ay==b6.f0.ay) && ((x2.f0.bZ==b6.f0.bZ) && ((decide (x2.f0.bB=b6.f0.bB)) && true))) then
 RT back n l0 fJ (bl (lF+1)) jZ t19 t20 t21 t32 t33 t36 t37 t38 b6 x2
 else
 RT back n l0 fJ lF jZ t19 t20 t21 t32 t33 t36 t37 t38 b6 x2
 else
 bt l0 fJ lF jZ t19 t20 t21 t32 t33 b6
def Zv:=K10 (Wb (cF 31947)) aAM
def aHL {bt} (cM:Zv bt) {back} (aS:O1 back) (n:Nat):O1 (RS bt back n):=λl0 fJ lF jZ t19 t20 t21 t32 t33 t36 t37 t38 b6 r h=>ie h (λc0 h=>be h λx2 cX h=>ie h (λc1 h=>ra (arW aS n h) [aI c0,(0,DI.idx cX),jU c1]) λc1 h=>ra (arW aS n h) [aI c0,(0,DI.idx cX),jU c1]) λc0 h=>ra (cM h) [aI c0]
def Fp (bt:Wf23):Nat->gu->Int->Int->Int->gu->Int->Int->Int->Int->gu->Int->Int->jn->Option Bool
 |0=>λ_ _ _ _ _ _ _ _ _ _ _ _ _=>none
 |n+1=>RS bt (Fp bt n) n
def aqC {bt} (cM:Zv bt):∀n:Nat,O1 (Fp bt n)
 |0=>λ_ _ _ _ _ _ _ _ _ _ _ _ _ _ h=>nz h
 |n+1=>aHL cM (aqC cM n) n
def RR (bC:Wf24) (n:Nat) (l0:gu) (fJ lF jZ:Int) (t19:gu) (t20 t21 t32 t33:Int) (b6:jn):Option Bool:=
 if lF !=1 then
 some false
 else
 if jZ !=1 then
 some false
 else
 bC l0 fJ t19 t20 (bl (t21+1))
def O0:=K5 (Wb [0,1,0,1,1]) aAL
def aHK {bC} (cU:O0 bC) (n:Nat):Zv (RR bC n):=λl0 fJ lF jZ t19 t20 t21 t32 t33 b6 r h=>ie h (λc0 h=>rr h [bb c0]) λc0 h=>ie h (λc1 h=>rr h [bb c0,aZ c1]) λc1 h=>ra (cU h) [bb c0,aZ c1]
def RQ (da:Option Bool) (back:Wf24) (n:Nat) (l0:gu) (fJ:Int) (t19:gu) (t20 t21:Int):Option Bool:=
 if decide (t21<t20) then
 (idx t19 t21).bind λx2=>(Om n x2.f0).bind λx9=>if !x9 then
 some false
 else
 if x2.f0.ay !=fJ then
 some false
 else
 Fp (RR back n) n l0 fJ 0 0 t19 t20 t21 x2.f0.ay fJ l0 (l0.length:Int) 0 x2
 else
 da
def Zu:=K0 (Wb [1,1,1]) aAK
def aHJ {da} (fg:Zu da) {back} (aS:O0 back) (n:Nat):O0 (RQ da back n):=λl0 fJ t19 t20 t21 r h=>ie h (λc0 h=>be h λx2 cX h=>be h λx9 iS h=>let zA:SE:=[aI c0,(0,DI.idx cX),oZ (XJ n iS)];ie h (λc1 h=>bD h zA [aI c1]) λc1 h=>ie h (λc2 h=>bD h zA [aI c1,cg c2]) λc2 h=>cI (aqC (aHK aS n) n h) zA [aI c1,cg c2]) λc0 h=>ra (fg h) [aI c0]
def B6 (da:Option Bool):Nat->gu->Int->gu->Int->Int->Option Bool
 |0=>λ_ _ _ _ _=>none
 |n+1=>RQ da (B6 da n) n
def aqB {da} (fg:Zu da):∀n:Nat,O0 (B6 da n)
 |0=>λ_ _ _ _ _ _ h=>nz h
 |n+1=>aHJ fg (aqB fg n) n
def Kk (n:Nat):Option Bool:=
 some true
def aHI (n:Nat):Zu (Kk n):=λr h=>rr h []
def afe (n:Nat) (l0:gu) (fJ:Int):Option Bool:=
 if decide ((l0.length:Int)<1) then
 some false
 else
 if decide (16<(l0.length:Int)) then
 some false
 else
 B6 (Kk n) n l0 fJ l0 (l0.length:Int) 0
def aHH (n:Nat):K2 (Wb []) ahi (afe n):=λl0 fJ r h=>ie h (λc0 h=>rr h [bj c0]) λc0 h=>ie h (λc1 h=>rr h [bj c0,bj c1]) λc1 h=>ra (aqB (aHI n) n h) [bj c0,bj c1]
def amW:=afe
def aKF (n:Nat):K2 (Cx E0 145 dv bQ) ahi (amW n):=λ_ _ _ h=>ca (X:=x145) (aHH n h)
def Xs (r:(ag×Bool)):AV:=.cS [.agg (dD r.1),.bool r.2]
def x95:=fx E0 Tryz.f95 []
def H7:=Ax x95 Xs bQ
def aDG (t28:bn) (t29 t30:Int) (b2:ag) (b3:aE) (b4 b6:ag) (bJ:bn):LS:=⟨[(2,.loc 2 0),(3,.loc 3 0),(4,.loc 4 0),(6,.loc 6 0),(28,.slice 44 5 t28.length (cP t28)),(29,.int .i64 t29),(30,.int .i64 t30)],[(2,iE (dD b2)),(3,uw (mz b3)),(4,xM b4),(6,qR b6 bS bJ.length),(bS,zl bJ)]⟩
def aDF (lh:Nat) (t236 t237:Int) (b3:aE) (b4 b6:ag) (wQ jb:cN) (bJ:bn) (dO:aj):LS:=⟨[(3,.loc 3 0),(4,.loc 4 0),(6,.loc 6 0),(9,.el bS 5 lh 0),(12,.ms 231 2 0 wQ.length),(235,jO iG jb.length),(236,cm t236),(237,cm t237)],[(3,uw (mz b3)),(4,xM b4),(6,qR b6 bS bJ.length),(231,Nx wQ),(bS,.tree 44 5 jd (((cP bJ)).set lh [.str dO.av,.undef,.int .i64 dO.aw,.slice 121 2 dO.af.length (aR dO.af),.slice 107 13 dO.ak.length (aJ dO.ak)]) [(lh*5+1,jO iG jb.length)]),(iG,Nx jb)]⟩
def aDE (lh:Nat) (b3:aE) (b4 b6:ag) (wQ:cN) (bJ:bn):LS:=⟨[(3,.loc 3 0),(4,.loc 4 0),(6,.loc 6 0),(9,.el bS 5 lh 0),(12,.ms 231 2 0 wQ.length)],[(3,uw (mz b3)),(4,xM b4),(6,qR b6 bS bJ.length),(231,Nx wQ),(bS,zl bJ)]⟩
def aDD (t299 t300 t311 Ir:Int) (b2:ag) (b3:aE) (b4 b6:ag) (nM:aj) (jb:cN) (qm:bO) (jI bJ:bn) (dO:aj) (gX fy:Nat) (mw:cB):LS:=⟨[(2,.loc 2 0),(3,.loc 3 0),(4,.loc 4 0),(6,.loc 6 0),(15,.ms 500340 5 0 jI.length),(17,.loc 17 0),(298,.ms 520061 5 0 bJ.length),(299,cm t299),(300,cm t300),(311,cm t311),(312,cm Ir)],[(2,iE (dD b2)),(3,uw (mz b3)),(4,xM b4),(6,qR b6 520061 bJ.length),(17,q9_ nM 1000611 jb.length 1000613 mw.length 1000614 qm.length),(500340,zl jI),(520061,IN (((gone jd fy (cP bJ))).set gX (iM dO)) (gX*5+4) 1000614 qm.length (gX*5+3) 1000613 mw.length (gX*5+1) 1000611 jb.length),(1000611,Nx jb),(1000613,Ny mw),(1000614,akv qm)]⟩
def aDC (t299 t300:Int) (b2:ag) (b3:aE) (b4 b6:ag) (nM:aj) (jb:cN) (qm:bO) (jI bJ:bn) (dO:aj) (gX fy:Nat) (mw:cB):LS:=⟨[(2,.loc 2 0),(3,.loc 3 0),(4,.loc 4 0),(6,.loc 6 0),(15,.ms 500340 5 0 jI.length),(17,.loc 17 0),(298,.ms 520061 5 0 bJ.length),(299,cm t299),(300,cm t300)],[(2,iE (dD b2)),(3,uw (mz b3)),(4,xM b4),(6,qR b6 520061 bJ.length),(17,q9_ nM 1000611 jb.length 1000613 mw.length 1000614 qm.length),(500340,zl jI),(520061,IN (((gone jd fy (cP bJ))).set gX (iM dO)) (gX*5+4) 1000614 qm.length (gX*5+3) 1000613 mw.length (gX*5+1) 1000611 jb.length),(1000611,Nx jb),(1000613,Ny mw),(1000614,akv qm)]⟩
def aDB (t299 t300:Int) (b2:ag) (b3:aE) (b4 b6:ag) (jI bJ:bn) (fy:Nat):LS:=⟨[(2,.loc 2 0),(3,.loc 3 0),(4,.loc 4 0),(6,.loc 6 0),(15,.ms 500340 5 0 jI.length),(298,.ms 520061 5 0 bJ.length),(299,cm t299),(300,cm t300)],[(2,iE (dD b2)),(3,uw (mz b3)),(4,xM b4),(6,qR b6 520061 bJ.length),(500340,zl jI),(520061,.tree 44 5 jd (gone jd fy (cP bJ)) [])]⟩
def aDA (t299 t300:Int) (b2:ag) (b3:aE) (b4 b6:ag) (jI bJ:bn) (fy:Nat):LS:=⟨[(2,.loc 2 0),(3,.loc 3 0),(4,.loc 4 0),(6,.loc 6 0),(15,.ms 500340 5 0 jI.length),(298,.ms 520061 5 0 bJ.length),(299,cm t299),(300,cm t300)],[(2,iE (dD b2)),(3,uw (mz b3)),(4,xM b4),(6,qR b6 520061 bJ.length),(500340,zl jI),(520061,.tree 44 5 jd (gone jd fy (cP bJ)) [])]⟩
def aDz (b4 b6:ag) (jI bJ:bn) (fy:Nat):LS:=⟨[(4,.loc 4 0),(6,.loc 6 0),(15,.ms 500340 5 0 jI.length)],[(4,xM b4),(6,qR b6 520061 bJ.length),(500340,zl jI),(520061,.tree 44 5 jd (gone jd fy (cP bJ)) [])]⟩
def aDy (b4 b6:ag) (N9:bn):LS:=⟨[(4,.loc 4 0),(6,.loc 6 0)],[(4,xM b4),(6,qR b6 nY N9.length),(nY,zl N9)]⟩
def aDx (lh:Nat) (n10:Int) (vP:Bool) (b2:ag) (b3:aE) (b4 b6:ag) (bJ:bn):LS:=⟨[(2,.loc 2 0),(3,.loc 3 0),(4,.loc 4 0),(6,.loc 6 0),(9,.el bS 5 lh 0),(10,cm n10),(11,.bool vP)],[(2,iE (dD b2)),(3,uw (mz b3)),(4,xM b4),(6,qR b6 bS bJ.length),(bS,zl bJ)]⟩
def azA (b2:ag) (b3:aE) (b4 b6:ag) (bJ:bn):LS:=⟨[(2,.loc 2 0),(3,.loc 3 0),(4,.loc 4 0),(6,.loc 6 0)],[(2,iE (dD b2)),(3,uw (mz b3)),(4,xM b4),(6,qR b6 bS bJ.length),(bS,zl bJ)]⟩
def KJ (s0:ag) (m1:aE):LS:=⟨[(0,.agg (dD s0)),(1,.agg (mz m1))],[]⟩
def X3 (Dw:Wf25) (back:bn->Int->Int->ag->aE->ag->ag->bn->Option (ag×Bool)) (n:Nat) (t28:bn) (t29 t30:Int) (b2:ag) (b3:aE) (b4 b6:ag) (bJ:bn):Option (ag×Bool):=
 if decide (t30<t29) then
 (idx t28 t30).bind λx2=>(adZ n x2).bind λdB=>(app bJ [dB]).bind λdY=>(setAt dY bJ.length dB).bind λqL=>back t28 t29 (bl (t30+1)) b2 b3 (ag.mk b4.ax []) (ag.mk b6.ax qL) qL
 else
 Dw b2 b3 (ag.mk b4.ax []) (ag.mk b6.ax bJ) bJ
def Zt:=K5 (H7 [1,1,1,1]) azA
def Zs:=K8 (H7 (cF 87)) aDG
def aLk {Dw} (XD:Zt Dw) {back} (aS:Zs back) (n:Nat):Zs (X3 Dw back n):=λt28 t29 t30 b2 b3 b4 b6 bJ r h=>ie h (λc0 h=>be h λx2 cX h=>be h λdB kS h=>be h λdY iq h=>be h λqL np h=>ra (aS h) [aI c0,(0,bW.idx cX),(6,.call (ayF n kS) [] [(330370001,r8),(330370003,201003),(330370004,201004)]),(1,bW.Iq iq),(2,.beq bS (bN (λq_=>Bx.tree 44 5 jd q_ [(bJ.length*5+1,jO 330370001 dB.ae.length),(bJ.length*5+3,.ms 330370003 2 0 dB.af.length),(bJ.length*5+4,.ms 330370004 13 0 dB.ak.length)]) (bW.apS (r:= (iM dB)) iq))),(0,bW.jv eJ (r:= (iM dB)) bS 330370001 1 false 73 2 dB.ae np [.str dB.av,.slice 73 2 dB.ae.length (bG dB.ae),.int .i64 dB.aw,.undef,.undef] (by kernel_rfl)),(0,bW.jv eQ (r:= [.str dB.av,.slice 73 2 dB.ae.length (bG dB.ae),.int .i64 dB.aw,.undef,.undef]) bS 330370003 3 false 121 2 dB.af np [.str dB.av,.slice 73 2 dB.ae.length (bG dB.ae),.int .i64 dB.aw,.slice 121 2 dB.af.length (aR dB.af),.undef] (by kernel_rfl)),(0,bW.gT eD (r:= [.str dB.av,.slice 73 2 dB.ae.length (bG dB.ae),.int .i64 dB.aw,.slice 121 2 dB.af.length (aR dB.af),.undef]) bS 330370004 4 false 107 13 dB.ak np (by kernel_rfl)),(2,.beq 6 (bN (qR b6 bS) (((bW.apL iq).trans (eu np)))))]) λc0 h=>ra (XD h) [aI c0]
def Mg (Dw:Wf25):Nat->bn->Int->Int->ag->aE->ag->ag->bn->Option (ag×Bool)
 |0=>λ_ _ _ _ _ _ _ _=>none
 |n+1=>X3 Dw (Mg Dw n) n
def axq {Dw} (XD:Zt Dw):∀n:Nat,Zs (Mg Dw n)
 |0=>λ_ _ _ _ _ _ _ _ _ h=>nz h
 |n+1=>aLk XD (axq XD n) n
def X2 (bt:Wf26) (back:Nat->Int->Int->aE->ag->ag->cN->cN->bn->aj->Option (ag×Bool)) (n:Nat) (lh:Nat) (t236 t237:Int) (b3:aE) (b4 b6:ag) (wQ jb:cN) (bJ:bn) (dO:aj):Option (ag×Bool):=
 if decide (t237<t236) then
 (eW jb.length t237).bind λx3=>(jb[0+x3]?).bind λx5=>(Hv n t237 b3.aN b3.eL).bind λeO=>(eW wQ.length eO).bind λir=>(wQ[0+ir]?).bind λpG=>(setAt wQ (0+ir) x5).bind λz22=>back lh t236 (bl (t237+1)) b3 (ag.mk b4.ax []) (ag.mk b6.ax bJ) z22 jb bJ (aj.mk dO.av [] dO.aw dO.af dO.ak)
 else
 (setAt bJ lh (aj.mk dO.av jb dO.aw dO.af dO.ak)).bind λz2=>bt lh b3 (ag.mk b4.ax []) (ag.mk b6.ax z2) wQ z2
def Zr:=K6 (H7 (cF 4060671)) aDE
def Zq:=K10 (H7 (cF 11400703)) aDF
def aLj {bt} (cM:Zr bt) {back} (aS:Zq back) (n:Nat):Zq (X2 bt back n):=λlh t236 t237 b3 b4 b6 wQ jb bJ dO r h=>ie h (λc0 h=>be h λx3 eY h=>be h λx5 kR h=>be h λeO ic h=>be h λir mN h=>be h λpG xV h=>be h λz22 vx h=>ra (aS h) [aI c0,(1,dM eY),(0,eJ.row kR),(3,.ord [0,1,2,3,4,5,7,6,8,9]),yr (Qe n ic),(0,dM mN),(0,eJ.uF 0 (GV x5) xV vx (by kernel_rfl)),(2,.seq 12 (bN (AV.ms 231 2 0) (eu vx)))]) λc0 h=>be h λz2 mn h=>ra (cM h) [aI c0,(0,bW.gT eJ (r:= [.str dO.av,.undef,.int .i64 dO.aw,.slice 121 2 dO.af.length (aR dO.af),.slice 107 13 dO.ak.length (aJ dO.ak)]) bS iG 1 false 73 2 jb mn (by kernel_rfl)),(0,.beq 6 (bN (qR b6 bS) (eu mn)))]
def Mf (bt:Wf26):Nat->Nat->Int->Int->aE->ag->ag->cN->cN->bn->aj->Option (ag×Bool)
 |0=>λ_ _ _ _ _ _ _ _ _ _=>none
 |n+1=>X2 bt (Mf bt n) n
def axp {bt} (cM:Zr bt):∀n:Nat,Zq (Mf bt n)
 |0=>λ_ _ _ _ _ _ _ _ _ _ _ h=>nz h
 |n+1=>aLj cM (axp cM n) n
def MI (vU:Wf27) (n:Nat) (lh:Nat) (b3:aE) (b4 b6:ag) (wQ:cN) (bJ:bn):Option (ag×Bool):=
 (bJ[lh]?).bind λu5=>(adX n (aj.mk u5.av wQ u5.aw u5.af u5.ak) b3.aN b3.eL).bind λfj=>(setAt bJ lh (aj.mk fj.1.av fj.2.1 fj.1.aw fj.2.2.1 fj.2.2.2)).bind λz19=>vU (ag.mk b4.ax []) (ag.mk b6.ax z19) z19
def Zp:=K3 (H7 (cF 2047)) aDy
def aLi {vU} (Ji:Zp vU) (n:Nat):Zr (MI vU n):=λlh b3 b4 b6 wQ bJ r h=>be h λu5 uM h=>be h λfj mO h=>be h λz19 GF h=>ra (Ji h) [(4,bW.holF 1 [.str u5.av,.undef,.int .i64 u5.aw,.slice 121 2 u5.af.length (aR u5.af),.slice 107 13 u5.ak.length (aJ u5.ak)] uM (by kernel_rfl)),(0,bW.uZ eQ (r:= [.str u5.av,.undef,.int .i64 u5.aw,.slice 121 2 u5.af.length (aR u5.af),.slice 107 13 u5.ak.length (aJ u5.ak)]) bS lO 3 false 121 2 u5.af uM [.str u5.av,.undef,.int .i64 u5.aw,.undef,.slice 107 13 u5.ak.length (aJ u5.ak)] (by kernel_rfl) (by kernel_rfl)),(0,bW.uZ eD (r:= [.str u5.av,.undef,.int .i64 u5.aw,.undef,.slice 107 13 u5.ak.length (aJ u5.ak)]) bS lN 4 false 107 13 u5.ak uM (iM u5) (by kernel_rfl) (by kernel_rfl)),(3,bW.zi [4,3,1] (iM u5) uM),(4,.call (ayD n mO) [(231,rG),(lO,mX),(lN,rF)] []),(1,bW.hrwS (iM u5) (iM fj.1) uM),(0,bW.jv eJ (r:= (iM fj.1)) bS 231 1 false 73 2 fj.2.1 GF [.str fj.1.av,.slice 73 2 fj.2.1.length (bG fj.2.1),.int .i64 fj.1.aw,.undef,.undef] (by kernel_rfl)),(0,bW.jv eQ (r:= [.str fj.1.av,.slice 73 2 fj.2.1.length (bG fj.2.1),.int .i64 fj.1.aw,.undef,.undef]) bS lO 3 false 121 2 fj.2.2.1 GF [.str fj.1.av,.slice 73 2 fj.2.1.length (bG fj.2.1),.int .i64 fj.1.aw,.slice 121 2 fj.2.2.1.length (aR fj.2.2.1),.undef] (by kernel_rfl)),(0,bW.gT eD (r:= [.str fj.1.av,.slice 73 2 fj.2.1.length (bG fj.2.1),.int .i64 fj.1.aw,.slice 121 2 fj.2.2.1.length (aR fj.2.2.1),.undef]) bS lN 4 false 107 13 fj.2.2.2 GF (by kernel_rfl)),(0,.jq bS nY),(0,.beq 6 (bN (qR b6 nY) (eu GF)))]
def QL (da:Wf28) (back:Int->Int->Int->Int->ag->aE->ag->ag->aj->cN->bO->bn->bn->aj->Nat->Nat->cB->Option (ag×Bool)) (n:Nat) (t299 t300 t311 Ir:Int) (b2:ag) (b3:aE) (b4 b6:ag) (nM:aj) (jb:cN) (qm:bO) (jI bJ:bn) (dO:aj) (gX fy:Nat) (mw:cB):Option (ag×Bool):=
 if decide (Ir<t311) then
 (eW mw.length Ir).bind λx7=>(mw[0+x7]?).bind λdB=>if dB.aG==b3.aG then
 (lL gX fy).bind λw14=>(setAt bJ gX (aj.mk dO.av [] dO.aw [] [])).bind λz15=>some (b2,false)
 else
 (eW mw.length Ir).bind λpG=>(mw[0+pG]?).bind λCl=>(Hv n Cl.aG b3.aG (-1)).bind λnD=>(eW mw.length Ir).bind λsL=>(mw[0+sL]?).bind λu33=>(setAt mw (0+sL) (bk.mk u33.ae nD)).bind λz35=>back t299 t300 t311 (bl (Ir+1)) b2 b3 (ag.mk b4.ax []) (ag.mk b6.ax bJ) (aj.mk nM.av jb nM.aw z35 qm) jb qm jI bJ (aj.mk dO.av [] dO.aw [] []) gX fy z35
 else
 da t299 t300 b2 b3 (ag.mk b4.ax []) (ag.mk b6.ax bJ) (aj.mk nM.av jb nM.aw mw qm) jb qm jI bJ (aj.mk dO.av [] dO.aw [] []) gX fy mw
def Zo:=K15 (H7 (cF 130551903743)) aDC
def Zn:=K17 (H7 (cF 371070072319)) aDD
def aLh {da} (fg:Zo da) {back} (aS:Zn back) (n:Nat):Zn (QL da back n):=λt299 t300 t311 Ir b2 b3 b4 b6 nM jb qm jI bJ dO gX fy mw r h=>ie h (λc0 h=>be h λx7 jK h=>be h λdB kS h=>let zA:SE:=[aI c0,(5,dM jK),(1,eQ.row kS)];ie h (λc1 h=>be h λw14 hw14 h=>be h λz15 Br h=>bD h zA [aZ c1,(0,.pZ bS (.tree 44 5 jd [] [])),(0,.beq bS (bN (λq_=>Bx.tree 44 5 jd q_ []) (bW.alq (l:= jd) (r:= (iM dO)) hw14 Br (by kernel_rfl))))]) λc1 h=>be h λpG xV h=>be h λCl NR h=>be h λnD sK h=>be h λsL Bu h=>be h λu33 hu33 h=>be h λz35 aum h=>cI (aS h) zA [aZ c1,(6,dM xV),(1,eQ.row NR),iW (Qe n sK),(0,dM Bu),(1,eQ.uF 1 [cm nD] hu33 aum (by kernel_rfl)),(2,.beq 17 (bN (λn_=>((q9_ nM iG jb.length lO n_ lN qm.length))) (eu aum))),(0,.beq bS (bN (λn_=>((IN (((gone jd fy (cP bJ))).set gX (iM dO)) (gX*5+4) lN qm.length (gX*5+3) lO n_ (gX*5+1) iG jb.length))) (eu aum)))]) λc0 h=>ra (fg h) [aI c0]
def He (da:Wf28):Nat->Int->Int->Int->Int->ag->aE->ag->ag->aj->cN->bO->bn->bn->aj->Nat->Nat->cB->Option (ag×Bool)
 |0=>λ_ _ _ _ _ _ _ _ _ _ _ _ _ _ _ _ _=>none
 |n+1=>QL da (He da n) n
def axo {da} (fg:Zo da):∀n:Nat,Zn (He da n)
 |0=>λ_ _ _ _ _ _ _ _ _ _ _ _ _ _ _ _ _ _ h=>nz h
 |n+1=>aLh fg (axo fg n) n
def X1 (dZ:avV) (n:Nat) (t299 t300:Int) (b2:ag) (b3:aE) (b4 b6:ag) (nM:aj) (jb:cN) (qm:bO) (jI bJ:bn) (dO:aj) (gX fy:Nat) (mw:cB):Option (ag×Bool):=
 (app jI [(aj.mk nM.av jb nM.aw mw qm)]).bind λx4=>(setAt x4 jI.length (aj.mk nM.av jb nM.aw mw qm)).bind λz7=>(lL gX fy).bind λw8=>(setAt bJ gX (aj.mk dO.av [] dO.aw [] [])).bind λz9=>dZ t299 t300 b2 b3 (ag.mk b4.ax []) (ag.mk b6.ax z9) z7 z9 (fy+1)
def aoU:=K9 (H7 (cF 8145335807)) aDB
def aLg {dZ} (gj:aoU dZ) (n:Nat):Zo (X1 dZ n):=λt299 t300 b2 b3 b4 b6 nM jb qm jI bJ dO gX fy mw r h=>be h λx4 jr h=>be h λz7 hz7 h=>be h λw8 hw8 h=>be h λz9 hz9 h=>ra (gj h) [(3,bW.Iq jr),(0,.beq 500340 (bN (λq_=>Bx.tree 44 5 jd q_ [(jI.length*5+1,jO iG jb.length),(jI.length*5+3,jO lO mw.length),(jI.length*5+4,.ms lN 13 0 qm.length)]) (bW.apS (r:= (iM nM)) jr))),(1,bW.jv eJ (r:= (iM nM)) 500340 iG 1 false 73 2 jb hz7 [.str nM.av,.slice 73 2 jb.length (bG jb),.int .i64 nM.aw,.undef,.undef] (by kernel_rfl)),(0,bW.jv eQ (r:= [.str nM.av,.slice 73 2 jb.length (bG jb),.int .i64 nM.aw,.undef,.undef]) 500340 lO 3 false 121 2 mw hz7 [.str nM.av,.slice 73 2 jb.length (bG jb),.int .i64 nM.aw,.slice 121 2 mw.length (aR mw),.undef] (by kernel_rfl)),(0,bW.gT eD (r:= [.str nM.av,.slice 73 2 jb.length (bG jb),.int .i64 nM.aw,.slice 121 2 mw.length (aR mw),.undef]) 500340 lN 4 false 107 13 qm hz7 (by kernel_rfl)),(0,.pZ bS (.tree 44 5 jd [] [])),(0,.beq bS (bN (λq_=>Bx.tree 44 5 jd q_ []) (bW.alq (l:= jd) (r:= (iM dO)) hw8 hz9 (by kernel_rfl)))),(0,.seq 15 (bN (AV.ms 500340 5 0) (((bW.apL jr).trans (eu hz7))))),(0,.seq 298 (bN (AV.ms bS 5 0) (eu hz9))),(0,.beq 6 (bN (qR b6 bS) (eu hz9)))]
def MH (jR:avV) (n:Nat) (t299 t300:Int) (b2:ag) (b3:aE) (b4 b6:ag) (jI bJ:bn) (fy:Nat):Option (ag×Bool):=
 jR t299 (bl (t300+1)) b2 b3 (ag.mk b4.ax []) (ag.mk b6.ax bJ) jI bJ fy
def OZ:=K9 (H7 (cF 360707583)) aDA
def ayX {jR} (ql:OZ jR) (n:Nat):aoU (MH jR n):=λt299 t300 b2 b3 b4 b6 jI bJ fy r h=>ra (ql h) []
def QK (kQ:Wf30) (back:avV) (n:Nat) (t299 t300:Int) (b2:ag) (b3:aE) (b4 b6:ag) (jI bJ:bn) (fy:Nat):Option (ag×Bool):=
 if decide (t300<t299) then
 (eW bJ.length t300).bind λx3=>(bJ[0+x3]?).bind λu6=>(lL (0+x3) fy).bind λw7=>if t300==b3.aG then
 (setAt bJ (0+x3) (aj.mk u6.av [] u6.aw [] [])).bind λz15=>MH back n t299 t300 b2 b3 (ag.mk b4.ax []) (ag.mk b6.ax z15) jI z15 (fy+1)
 else
 He (X1 (MH back n) n) n t299 t300 (u6.af.length:Int) 0 b2 b3 (ag.mk b4.ax []) (ag.mk b6.ax bJ) u6 u6.ae u6.ak jI bJ (aj.mk u6.av [] u6.aw [] []) (0+x3) fy u6.af
 else
 kQ (ag.mk b4.ax []) (ag.mk b6.ax bJ) jI bJ fy
def Zm:=K5 (H7 (cF 125826559)) aDz
def aLf {kQ} (rJ:Zm kQ) {back} (aS:OZ back) (n:Nat):OZ (QK kQ back n):=λt299 t300 b2 b3 b4 b6 jI bJ fy r h=>ie h (λc0 h=>be h λx3 eY h=>be h λu6 yR h=>be h λw7 hw7 h=>let zA:SE:=[aI c0,(1,dM eY),(0,bW.aDl eJ jd hw7 bS iG 1 false 73 2 u6.ae yR [.str u6.av,.undef,.int .i64 u6.aw,.slice 121 2 u6.af.length (aR u6.af),.slice 107 13 u6.ak.length (aJ u6.ak)] (by kernel_rfl) (by kernel_rfl)),(0,bW.aoi eQ jd hw7 [.str u6.av,.undef,.int .i64 u6.aw,.slice 121 2 u6.af.length (aR u6.af),.slice 107 13 u6.ak.length (aJ u6.ak)] bS lO 3 false 121 2 u6.af yR [.str u6.av,.undef,.int .i64 u6.aw,.undef,.slice 107 13 u6.ak.length (aJ u6.ak)] (by kernel_rfl) (by kernel_rfl)),(0,bW.aoi eD jd hw7 [.str u6.av,.undef,.int .i64 u6.aw,.undef,.slice 107 13 u6.ak.length (aJ u6.ak)] bS lN 4 false 107 13 u6.ak yR (iM u6) (by kernel_rfl) (by kernel_rfl)),(0,bW.aJF jd hw7 [4,3,1] (iM u6) yR)];ie h (λc1 h=>be h λz15 Br h=>cI (ayX aS n h) zA [dP c1,(0,.pZ bS (.tree 44 5 jd [] [])),(0,.beq bS (bN (λq_=>Bx.tree 44 5 jd q_ []) (bW.alq (l:= jd) (r:= (iM u6)) hw7 Br (by kernel_rfl)))),(0,.seq 298 (bN (AV.ms bS 5 0) (eu Br))),(0,.beq 6 (bN (qR b6 bS) (eu Br)))]) λc1 h=>cI (axo (aLg (ayX aS n) n) n h) zA [dP c1]) λc0 h=>ra (rJ h) [aI c0]
def Da (kQ:Wf30):Nat->Int->Int->ag->aE->ag->ag->bn->bn->Nat->Option (ag×Bool)
 |0=>λ_ _ _ _ _ _ _ _ _=>none
 |n+1=>QK kQ (Da kQ n) n
def axn {kQ} (rJ:Zm kQ):∀n:Nat,OZ (Da kQ n)
 |0=>λ_ _ _ _ _ _ _ _ _ _ h=>nz h
 |n+1=>aLf rJ (axn rJ n) n
def MG (vU:Wf27) (n:Nat) (b4 b6:ag) (jI bJ:bn) (fy:Nat):Option (ag×Bool):=
 vU (ag.mk b4.ax []) (ag.mk b6.ax jI) jI
def aLe {vU} (Ji:Zp vU) (n:Nat):Zm (MG vU n):=λb4 b6 jI bJ fy r h=>ra (Ji h) [(3,.jq 500340 nY)]
def mf (n:Nat) (b4 b6:ag) (N9:bn):Option (ag×Bool):=
 (F94 n (ag.mk b6.ax N9)).bind λx3=>some ((ag.mk b6.ax N9),x3==0)
def G5 (n:Nat):Zp (mf n):=λb4 b6 N9 r h=>be h λx3 eY h=>rr h [(0,bW.tfr false nY N9),iW (avd n eY)]
def uj (n:Nat) (lh:Nat) (n10:Int) (vP:Bool) (b2:ag) (b3:aE) (b4 b6:ag) (bJ:bn):Option (ag×Bool):=
 if b3.bh==1 then
 (Om n b3.aD).bind λx7=>if !x7 then
 some (b2,false)
 else
 if b3.aD.ay !=b3.ay then
 some (b2,false)
 else
 (bJ[lh]?).bind λmF=>(app mF.ae [(cG.mk b3.av b3.ay)]).bind λwe=>(setAt bJ lh (aj.mk mF.av we mF.aw mF.af mF.ak)).bind λz36=>mf n (ag.mk b4.ax []) (ag.mk b6.ax z36) z36
 else
 if b3.bh==2 then
 (bJ[lh]?).bind λu7=>if !vP then
 (setAt bJ lh u7).bind λqL=>some (b2,false)
 else
 (Om n b3.aD).bind λiu=>if !iu then
 (setAt bJ lh u7).bind λz22=>some (b2,false)
 else
 (eW u7.ae.length b3.aN).bind λnD=>(u7.ae[0+nD]?).bind λwe=>if b3.aD.ay !=we.ay then
 (setAt bJ lh u7).bind λz37=>some (b2,false)
 else
 (adY n u7 b3.aN).bind λD5=>if D5 then
 (setAt bJ lh u7).bind λte=>some (b2,false)
 else
 (setAt bJ lh u7).bind λte=>(te[lh]?).bind λjA=>(tE jA.ae.length b3.aN).bind λx55=>(BQ jA.ae.length (bl (b3.aN+1))).bind λHG=>(G6 jA.ae x55 ((jA.ae.drop (0+HG)).take (jA.ae.length - HG))).bind λx66=>(adX n (aj.mk jA.av x66 jA.aw jA.af jA.ak) b3.aN (-1)).bind λnC=>(setAt te lh (aj.mk nC.1.av nC.2.1 nC.1.aw nC.2.2.1 nC.2.2.2)).bind λz81=>mf n (ag.mk b4.ax []) (ag.mk b6.ax z81) z81
 else
 if b3.bh==3 then
 if !vP then
 some (b2,false)
 else
 (bJ[lh]?).bind λiL=>if decide (b3.eL<iL.aw) then
 some (b2,false)
 else
 if !decide (b3.eL<n10) then
 some (b2,false)
 else
 (rA n10 ((cG.mk ByteArray.empty 0):cG)).bind λnD=>(bJ[lh]?).bind λCm=>Mf (MI (mf n) n) n lh (Cm.ae.length:Int) 0 b3 (ag.mk b4.ax []) (ag.mk b6.ax bJ) nD Cm.ae bJ (aj.mk Cm.av [] Cm.aw Cm.af Cm.ak)
 else
 if b3.bh==4 then
 if decide (b3.aN<0) then
 some (b2,false)
 else
 if !decide (b3.aN<n10) then
 some (b2,false)
 else
 (bJ[lh]?).bind λqN=>(eW qN.ae.length b3.aN).bind λsL=>(qN.ae[0+sL]?).bind λlW=>(setAt qN.ae (0+sL) (cG.mk b3.av lW.ay)).bind λz34=>(setAt bJ lh (aj.mk qN.av z34 qN.aw qN.af qN.ak)).bind λz36=>mf n (ag.mk b4.ax []) (ag.mk b6.ax z36) z36
 else
 if b3.bh==5 then
 (bJ[lh]?).bind λmF=>(setAt bJ lh (aj.mk b3.av mF.ae mF.aw mF.af mF.ak)).bind λz20=>mf n (ag.mk b4.ax []) (ag.mk b6.ax z20) z20
 else
 if b3.bh==7 then
 Da (MG (mf n) n) n (bJ.length:Int) 0 b2 b3 (ag.mk b4.ax []) (ag.mk b6.ax bJ) [] bJ 0
 else
 (bJ[lh]?).bind λdi=>if !vP then
 (setAt bJ lh di).bind λz23=>some (b2,false)
 else
 (eW di.ae.length b3.aN).bind λnD=>(di.ae[0+nD]?).bind λwe=>(amW n b3.bf we.ay).bind λlW=>if !lW then
 (setAt bJ lh di).bind λz39=>some (b2,false)
 else
 (adY n di b3.aN).bind λD3=>if D3 then
 (setAt bJ lh di).bind λz46=>some (b2,false)
 else
 (setAt bJ lh di).bind λz46=>mf n (ag.mk b4.ax []) (ag.mk b6.ax z46) z46
def ayW (n:Nat):K8 (H7 (cF 1023)) aDx (uj n):=λlh n10 vP b2 b3 b4 b6 bJ r h=>ie h (λc0 h=>be h λx7 jK h=>let zA:SE:=[aZ c0,kH (XJ n jK)];ie h (λc1 h=>bD h zA [aI c1]) λc1 h=>ie h (λc2 h=>bD h zA [aI c1,dP c2]) λc2 h=>be h λmF ale h=>be h λwe Bt h=>be h λz36 abG h=>cI (G5 n h) zA [aI c1,dP c2,(1,bW.nE eJ bS iG 1 false 73 2 mF.ae ale [.str mF.av,.undef,.int .i64 mF.aw,.slice 121 2 mF.af.length (aR mF.af),.slice 107 13 mF.ak.length (aJ mF.ak)] (by kernel_rfl) (by kernel_rfl)),(11,eJ.kF Bt),(2,bW.xX 1 [.str mF.av,.undef,.int .i64 mF.aw,.slice 121 2 mF.af.length (aR mF.af),.slice 107 13 mF.ak.length (aJ mF.ak)] [.str mF.av,.undef,.int .i64 mF.aw,.slice 121 2 mF.af.length (aR mF.af),.slice 107 13 mF.ak.length (aJ mF.ak)] ale (by kernel_rfl)),(0,bW.gT eJ (r:= [.str mF.av,.undef,.int .i64 mF.aw,.slice 121 2 mF.af.length (aR mF.af),.slice 107 13 mF.ak.length (aJ mF.ak)]) bS iG 1 false 73 2 we abG (by kernel_rfl)),(0,.jq bS nY),(0,.beq 6 (bN (qR b6 nY) (eu abG)))]) λc0 h=>let zA:SE:=[aZ c0];ie h (λc1 h=>be h λu7 hu7 h=>let zB:SE:=dJ zA [bb c1,(1,bW.nE eJ bS iG 1 false 73 2 u7.ae hu7 [.str u7.av,.undef,.int .i64 u7.aw,.slice 121 2 u7.af.length (aR u7.af),.slice 107 13 u7.ak.length (aJ u7.ak)] (by kernel_rfl) (by kernel_rfl)),(0,bW.uZ eQ (r:= [.str u7.av,.undef,.int .i64 u7.aw,.slice 121 2 u7.af.length (aR u7.af),.slice 107 13 u7.ak.length (aJ u7.ak)]) bS lO 3 false 121 2 u7.af hu7 [.str u7.av,.undef,.int .i64 u7.aw,.undef,.slice 107 13 u7.ak.length (aJ u7.ak)] (by kernel_rfl) (by kernel_rfl)),(0,bW.uZ eD (r:= [.str u7.av,.undef,.int .i64 u7.aw,.undef,.slice 107 13 u7.ak.length (aJ u7.ak)]) bS lN 4 false 107 13 u7.ak hu7 (iM u7) (by kernel_rfl) (by kernel_rfl))];ie h (λc2 h=>be h λqL np h=>bD h zB [bb c2,(6,bW.jv eD (r:= (iM u7)) bS lN 4 false 107 13 u7.ak np [.str u7.av,.undef,.int .i64 u7.aw,.undef,.slice 107 13 u7.ak.length (aJ u7.ak)] (by kernel_rfl)),(0,bW.jv eQ (r:= [.str u7.av,.undef,.int .i64 u7.aw,.undef,.slice 107 13 u7.ak.length (aJ u7.ak)]) bS lO 3 false 121 2 u7.af np [.str u7.av,.undef,.int .i64 u7.aw,.slice 121 2 u7.af.length (aR u7.af),.slice 107 13 u7.ak.length (aJ u7.ak)] (by kernel_rfl)),(0,bW.gT eJ (r:= [.str u7.av,.undef,.int .i64 u7.aw,.slice 121 2 u7.af.length (aR u7.af),.slice 107 13 u7.ak.length (aJ u7.ak)]) bS iG 1 false 73 2 u7.ae np (by kernel_rfl))]) λc2 h=>be h λiu j4 h=>let zC:SE:=dJ zB [bb c2,kH (XJ n j4)];ie h (λc3 h=>be h λz22 vx h=>bD h zC [aI c3,(5,bW.jv eD (r:= (iM u7)) bS lN 4 false 107 13 u7.ak vx [.str u7.av,.undef,.int .i64 u7.aw,.undef,.slice 107 13 u7.ak.length (aJ u7.ak)] (by kernel_rfl)),(0,bW.jv eQ (r:= [.str u7.av,.undef,.int .i64 u7.aw,.undef,.slice 107 13 u7.ak.length (aJ u7.ak)]) bS lO 3 false 121 2 u7.af vx [.str u7.av,.undef,.int .i64 u7.aw,.slice 121 2 u7.af.length (aR u7.af),.slice 107 13 u7.ak.length (aJ u7.ak)] (by kernel_rfl)),(0,bW.gT eJ (r:= [.str u7.av,.undef,.int .i64 u7.aw,.slice 121 2 u7.af.length (aR u7.af),.slice 107 13 u7.ak.length (aJ u7.ak)]) bS iG 1 false 73 2 u7.ae vx (by kernel_rfl))]) λc3 h=>be h λnD sK h=>be h λwe Bt h=>let zD:SE:=dJ zC [aI c3,(8,bW.zi [4,3,1] (iM u7) hu7),(2,dM sK),(1,eJ.row Bt)];ie h (λc4 h=>be h λz37 aul h=>bD h zD [aI c4,(3,bW.jv eD (r:= (iM u7)) bS lN 4 false 107 13 u7.ak aul [.str u7.av,.undef,.int .i64 u7.aw,.undef,.slice 107 13 u7.ak.length (aJ u7.ak)] (by kernel_rfl)),(0,bW.jv eQ (r:= [.str u7.av,.undef,.int .i64 u7.aw,.undef,.slice 107 13 u7.ak.length (aJ u7.ak)]) bS lO 3 false 121 2 u7.af aul [.str u7.av,.undef,.int .i64 u7.aw,.slice 121 2 u7.af.length (aR u7.af),.slice 107 13 u7.ak.length (aJ u7.ak)] (by kernel_rfl)),(0,bW.gT eJ (r:= [.str u7.av,.undef,.int .i64 u7.aw,.slice 121 2 u7.af.length (aR u7.af),.slice 107 13 u7.ak.length (aJ u7.ak)]) bS iG 1 false 73 2 u7.ae aul (by kernel_rfl))]) λc4 h=>be h λD5 abK h=>let zE:SE:=dJ zD [aI c4,(4,bW.zi [4,3,1] (iM u7) hu7),(2,.Aq (ayE n abK) [eJ.fX iG u7.ae,eQ.tfr false lO u7.af,eD.fX lN u7.ak] trivial [] [])];ie h (λc5 bI=>by subst c5;exact (be bI λte qk bI=>bD bI zE [(1,bW.jv eD (r:= (iM u7)) bS lN 4 false 107 13 u7.ak qk [.str u7.av,.undef,.int .i64 u7.aw,.undef,.slice 107 13 u7.ak.length (aJ u7.ak)] (by kernel_rfl)),(0,bW.jv eQ (r:= [.str u7.av,.undef,.int .i64 u7.aw,.undef,.slice 107 13 u7.ak.length (aJ u7.ak)]) bS lO 3 false 121 2 u7.af qk [.str u7.av,.undef,.int .i64 u7.aw,.slice 121 2 u7.af.length (aR u7.af),.slice 107 13 u7.ak.length (aJ u7.ak)] (by kernel_rfl)),(0,bW.gT eJ (r:= [.str u7.av,.undef,.int .i64 u7.aw,.slice 121 2 u7.af.length (aR u7.af),.slice 107 13 u7.ak.length (aJ u7.ak)]) bS iG 1 false 73 2 u7.ae qk (by kernel_rfl))])) λc5 bI=>by subst c5;exact (be bI λte qk bI=>be bI λjA Vm bI=>be bI λx55 hx55 bI=>be bI λHG Vl bI=>be bI λx66 hx66 bI=>be bI λnC aup bI=>be bI λz81 akZ bI=>cI (G5 n bI) zE [(1,bW.jv eD (r:= (iM u7)) bS lN 4 false 107 13 u7.ak qk [.str u7.av,.undef,.int .i64 u7.aw,.undef,.slice 107 13 u7.ak.length (aJ u7.ak)] (by kernel_rfl)),(0,bW.jv eQ (r:= [.str u7.av,.undef,.int .i64 u7.aw,.undef,.slice 107 13 u7.ak.length (aJ u7.ak)]) bS lO 3 false 121 2 u7.af qk [.str u7.av,.undef,.int .i64 u7.aw,.slice 121 2 u7.af.length (aR u7.af),.slice 107 13 u7.ak.length (aJ u7.ak)] (by kernel_rfl)),(0,bW.gT eJ (r:= [.str u7.av,.undef,.int .i64 u7.aw,.slice 121 2 u7.af.length (aR u7.af),.slice 107 13 u7.ak.length (aJ u7.ak)]) bS iG 1 false 73 2 u7.ae qk (by kernel_rfl)),(0,bW.nE eJ bS iG 1 false 73 2 jA.ae Vm [.str jA.av,.undef,.int .i64 jA.aw,.slice 121 2 jA.af.length (aR jA.af),.slice 107 13 jA.ak.length (aJ jA.ak)] (by kernel_rfl) (by kernel_rfl)),(7,eJ.tE (xs:=jA.ae) hx55 (v8 rfl)),(7,eJ.BQ (xs:=jA.ae) Vl (v8 rfl)),(0,eJ.appB hx66 (aCu Vl (v8 rfl))),(2,bW.xX 1 [.str jA.av,.undef,.int .i64 jA.aw,.slice 121 2 jA.af.length (aR jA.af),.slice 107 13 jA.ak.length (aJ jA.ak)] [.str jA.av,.undef,.int .i64 jA.aw,.slice 121 2 jA.af.length (aR jA.af),.slice 107 13 jA.ak.length (aJ jA.ak)] Vm (by kernel_rfl)),(0,bW.uZ eQ (r:= [.str jA.av,.undef,.int .i64 jA.aw,.slice 121 2 jA.af.length (aR jA.af),.slice 107 13 jA.ak.length (aJ jA.ak)]) bS lO 3 false 121 2 jA.af Vm [.str jA.av,.undef,.int .i64 jA.aw,.undef,.slice 107 13 jA.ak.length (aJ jA.ak)] (by kernel_rfl) (by kernel_rfl)),(0,bW.uZ eD (r:= [.str jA.av,.undef,.int .i64 jA.aw,.undef,.slice 107 13 jA.ak.length (aJ jA.ak)]) bS lN 4 false 107 13 jA.ak Vm (iM jA) (by kernel_rfl) (by kernel_rfl)),(3,bW.zi [4,3,1] (iM jA) Vm),(2,.call (ayD n aup) [(iG,rG),(lO,mX),(lN,rF)] []),(1,bW.hrwS (iM jA) (iM nC.1) Vm),(0,bW.jv eJ (r:= (iM nC.1)) bS iG 1 false 73 2 nC.2.1 akZ [.str nC.1.av,.slice 73 2 nC.2.1.length (bG nC.2.1),.int .i64 nC.1.aw,.undef,.undef] (by kernel_rfl)),(0,bW.jv eQ (r:= [.str nC.1.av,.slice 73 2 nC.2.1.length (bG nC.2.1),.int .i64 nC.1.aw,.undef,.undef]) bS lO 3 false 121 2 nC.2.2.1 akZ [.str nC.1.av,.slice 73 2 nC.2.1.length (bG nC.2.1),.int .i64 nC.1.aw,.slice 121 2 nC.2.2.1.length (aR nC.2.2.1),.undef] (by kernel_rfl)),(0,bW.gT eD (r:= [.str nC.1.av,.slice 73 2 nC.2.1.length (bG nC.2.1),.int .i64 nC.1.aw,.slice 121 2 nC.2.2.1.length (aR nC.2.2.1),.undef]) bS lN 4 false 107 13 nC.2.2.2 akZ (by kernel_rfl)),(0,.jq bS nY),(0,.beq 6 (bN (qR b6 nY) (((nj akZ).trans (nj qk)).symm)))])) λc1 h=>let zB:SE:=dJ zA [bb c1];ie h (λc2 h=>let zC:SE:=dJ zB [bb c2];ie h (λc3 h=>bD h zC [aZ c3]) λc3 h=>be h λiL kh h=>let zD:SE:=dJ zC [aZ c3,(6,bW.row kh)];ie h (λc4 h=>bD h zD [aI c4]) λc4 h=>ie h (λc5 h=>bD h zD [aI c4,cg c5]) λc5 h=>be h λnD sK h=>be h λCm hu35 h=>cI (axp (aLi (G5 n) n) n h) zD [aI c4,cg c5,(2,eJ.made sK),(0,.seq 231 (bN (AV.ms 231 2 0) ((Nt sK)))),(4,bW.nE eJ bS iG 1 false 73 2 Cm.ae hu35 [.str Cm.av,.undef,.int .i64 Cm.aw,.slice 121 2 Cm.af.length (aR Cm.af),.slice 107 13 Cm.ak.length (aJ Cm.ak)] (by kernel_rfl) (by kernel_rfl))]) λc2 h=>let zC:SE:=dJ zB [bb c2];ie h (λc3 h=>ie h (λc4 h=>bD h zC [bb c3,bj c4]) λc4 h=>ie h (λc5 h=>bD h zC [bb c3,bj c4,bu c5]) λc5 h=>be h λqN hu20 h=>be h λsL Bu h=>be h λlW tu h=>be h λz34 hz34 h=>be h λz36 abG h=>cI (G5 n h) zC [bb c3,bj c4,bu c5,(1,bW.nE eJ bS iG 1 false 73 2 qN.ae hu20 [.str qN.av,.undef,.int .i64 qN.aw,.slice 121 2 qN.af.length (aR qN.af),.slice 107 13 qN.ak.length (aJ qN.ak)] (by kernel_rfl) (by kernel_rfl)),(8,dM Bu),(1,eJ.uF 0 [.str b3.av] tu hz34 (by kernel_rfl)),(0,.beq bS (bN (λn_=>(Bx.tree 44 5 jd (((cP bJ)).set lh [.str qN.av,.undef,.int .i64 qN.aw,.slice 121 2 qN.af.length (aR qN.af),.slice 107 13 qN.ak.length (aJ qN.ak)]) [(lh*5+1,jO iG n_)])) (eu hz34))),(0,bW.gT eJ (r:= [.str qN.av,.undef,.int .i64 qN.aw,.slice 121 2 qN.af.length (aR qN.af),.slice 107 13 qN.ak.length (aJ qN.ak)]) bS iG 1 false 73 2 z34 abG (by kernel_rfl)),(0,.jq bS nY),(0,.beq 6 (bN (qR b6 nY) (eu abG)))]) λc3 h=>let zD:SE:=dJ zC [bb c3];ie h (λc4 h=>be h λmF ale h=>be h λz20 GD h=>cI (G5 n h) zD [bb c4,(6,bW.uF 0 [.str b3.av] ale GD (by kernel_rfl)),(0,.jq bS nY),(0,.beq 6 (bN (qR b6 nY) (eu GD)))]) λc4 h=>let zE:SE:=dJ zD [bb c4];ie h (λc5 h=>cI (axn (aLe (G5 n) n) n h) zE [bb c5,(6,.beq bS (bN (λq_=>Bx.tree 44 5 jd q_ []) (aFp (l:= jd) (Q:=cP bJ)))),(0,.born [15] [] 500340 true 44 5)]) λc5 h=>be h λdi abO h=>let zF:SE:=dJ zE [bb c5,(1,bW.nE eJ bS iG 1 false 73 2 di.ae abO [.str di.av,.undef,.int .i64 di.aw,.slice 121 2 di.af.length (aR di.af),.slice 107 13 di.ak.length (aJ di.ak)] (by kernel_rfl) (by kernel_rfl)),(0,bW.uZ eQ (r:= [.str di.av,.undef,.int .i64 di.aw,.slice 121 2 di.af.length (aR di.af),.slice 107 13 di.ak.length (aJ di.ak)]) bS lO 3 false 121 2 di.af abO [.str di.av,.undef,.int .i64 di.aw,.undef,.slice 107 13 di.ak.length (aJ di.ak)] (by kernel_rfl) (by kernel_rfl)),(0,bW.uZ eD (r:= [.str di.av,.undef,.int .i64 di.aw,.undef,.slice 107 13 di.ak.length (aJ di.ak)]) bS lN 4 false 107 13 di.ak abO (iM di) (by kernel_rfl) (by kernel_rfl))];ie h (λc6 h=>be h λz23 aun h=>bD h zF [bb c6,(4,bW.jv eD (r:= (iM di)) bS lN 4 false 107 13 di.ak aun [.str di.av,.undef,.int .i64 di.aw,.undef,.slice 107 13 di.ak.length (aJ di.ak)] (by kernel_rfl)),(0,bW.jv eQ (r:= [.str di.av,.undef,.int .i64 di.aw,.undef,.slice 107 13 di.ak.length (aJ di.ak)]) bS lO 3 false 121 2 di.af aun [.str di.av,.undef,.int .i64 di.aw,.slice 121 2 di.af.length (aR di.af),.slice 107 13 di.ak.length (aJ di.ak)] (by kernel_rfl)),(0,bW.gT eJ (r:= [.str di.av,.undef,.int .i64 di.aw,.slice 121 2 di.af.length (aR di.af),.slice 107 13 di.ak.length (aJ di.ak)]) bS iG 1 false 73 2 di.ae aun (by kernel_rfl))]) λc6 h=>be h λnD sK h=>be h λwe Bt h=>be h λlW tu h=>let zG:SE:=dJ zF [bb c6,(6,bW.zi [4,3,1] (iM di) abO),(2,dM sK),(1,eJ.row Bt),om (aKF n tu)];ie h (λc7 h=>be h λz39 auk h=>bD h zG [aI c7,(3,bW.jv eD (r:= (iM di)) bS lN 4 false 107 13 di.ak auk [.str di.av,.undef,.int .i64 di.aw,.undef,.slice 107 13 di.ak.length (aJ di.ak)] (by kernel_rfl)),(0,bW.jv eQ (r:= [.str di.av,.undef,.int .i64 di.aw,.undef,.slice 107 13 di.ak.length (aJ di.ak)]) bS lO 3 false 121 2 di.af auk [.str di.av,.undef,.int .i64 di.aw,.slice 121 2 di.af.length (aR di.af),.slice 107 13 di.ak.length (aJ di.ak)] (by kernel_rfl)),(0,bW.gT eJ (r:= [.str di.av,.undef,.int .i64 di.aw,.slice 121 2 di.af.length (aR di.af),.slice 107 13 di.ak.length (aJ di.ak)]) bS iG 1 false 73 2 di.ae auk (by kernel_rfl))]) λc7 h=>be h λD3 NO h=>let zH:SE:=dJ zG [aI c7,(4,bW.zi [4,3,1] (iM di) abO),(2,.Aq (ayE n NO) [eJ.fX iG di.ae,eQ.tfr false lO di.af,eD.fX lN di.ak] trivial [] [])];ie h (λc8 bI=>by subst c8;exact (be bI λz46 Jb bI=>bD bI zH [(1,bW.jv eD (r:= (iM di)) bS lN 4 false 107 13 di.ak Jb [.str di.av,.undef,.int .i64 di.aw,.undef,.slice 107 13 di.ak.length (aJ di.ak)] (by kernel_rfl)),(0,bW.jv eQ (r:= [.str di.av,.undef,.int .i64 di.aw,.undef,.slice 107 13 di.ak.length (aJ di.ak)]) bS lO 3 false 121 2 di.af Jb [.str di.av,.undef,.int .i64 di.aw,.slice 121 2 di.af.length (aR di.af),.slice 107 13 di.ak.length (aJ di.ak)] (by kernel_rfl)),(0,bW.gT eJ (r:= [.str di.av,.undef,.int .i64 di.aw,.slice 121 2 di.af.length (aR di.af),.slice 107 13 di.ak.length (aJ di.ak)]) bS iG 1 false 73 2 di.ae Jb (by kernel_rfl))])) λc8 bI=>by subst c8;exact (be bI λz46 Jb bI=>cI (G5 n bI) zH [(1,bW.jv eD (r:= (iM di)) bS lN 4 false 107 13 di.ak Jb [.str di.av,.undef,.int .i64 di.aw,.undef,.slice 107 13 di.ak.length (aJ di.ak)] (by kernel_rfl)),(0,bW.jv eQ (r:= [.str di.av,.undef,.int .i64 di.aw,.undef,.slice 107 13 di.ak.length (aJ di.ak)]) bS lO 3 false 121 2 di.af Jb [.str di.av,.undef,.int .i64 di.aw,.slice 121 2 di.af.length (aR di.af),.slice 107 13 di.ak.length (aJ di.ak)] (by kernel_rfl)),(0,bW.gT eJ (r:= [.str di.av,.undef,.int .i64 di.aw,.slice 121 2 di.af.length (aR di.af),.slice 107 13 di.ak.length (aJ di.ak)]) bS iG 1 false 73 2 di.ae Jb (by kernel_rfl)),(0,.jq bS nY),(0,.beq 6 (bN (qR b6 nY) (eu Jb)))])
def ze (n:Nat) (b2:ag) (b3:aE) (b4 b6:ag) (bJ:bn):Option (ag×Bool):=
 if b3.bh==6 then
 (adZ n b3.ar).bind λx8=>(app bJ [x8]).bind λdy=>(setAt dy bJ.length x8).bind λz15=>(F94 n (ag.mk b6.ax z15)).bind λir=>some ((ag.mk b6.ax z15),ir==0)
 else
 if decide (b3.aG<0) then
 some (b2,false)
 else
 if !decide (b3.aG<(b2.ai.length:Int)) then
 some (b2,false)
 else
 (eW bJ.length b3.aG).bind λir=>(bJ[0+ir]?).bind λfF=>if !decide (b3.aN<fF.aw) then
 (setAt bJ (0+ir) fF).bind λte=>uj n (0+ir) (fF.ae.length:Int) (decide (b3.aN<(fF.ae.length:Int))) b2 b3 (ag.mk b4.ax []) (ag.mk b6.ax te) te
 else
 (setAt bJ (0+ir) fF).bind λz40=>uj n (0+ir) (fF.ae.length:Int) false b2 b3 (ag.mk b4.ax []) (ag.mk b6.ax z40) z40
def aFB (n:Nat):Zt (ze n):=λb2 b3 b4 b6 bJ r h=>ie h (λc0 h=>be h λx8 oK h=>be h λdy ga h=>be h λz15 Br h=>be h λir mN h=>rr h [aZ c0,(4,.call (ayF n oK) [] [(330490001,r8),(330490003,201003),(330490004,201004)]),(1,bW.Iq ga),(2,.beq bS (bN (λq_=>Bx.tree 44 5 jd q_ [(bJ.length*5+1,jO 330490001 x8.ae.length),(bJ.length*5+3,.ms 330490003 2 0 x8.af.length),(bJ.length*5+4,.ms 330490004 13 0 x8.ak.length)]) (bW.apS (r:= (iM x8)) ga))),(0,bW.jv eJ (r:= (iM x8)) bS 330490001 1 false 73 2 x8.ae Br [.str x8.av,.slice 73 2 x8.ae.length (bG x8.ae),.int .i64 x8.aw,.undef,.undef] (by kernel_rfl)),(0,bW.jv eQ (r:= [.str x8.av,.slice 73 2 x8.ae.length (bG x8.ae),.int .i64 x8.aw,.undef,.undef]) bS 330490003 3 false 121 2 x8.af Br [.str x8.av,.slice 73 2 x8.ae.length (bG x8.ae),.int .i64 x8.aw,.slice 121 2 x8.af.length (aR x8.af),.undef] (by kernel_rfl)),(0,bW.gT eD (r:= [.str x8.av,.slice 73 2 x8.ae.length (bG x8.ae),.int .i64 x8.aw,.slice 121 2 x8.af.length (aR x8.af),.undef]) bS 330490004 4 false 107 13 x8.ak Br (by kernel_rfl)),(0,.seq 51 (bN (AV.ms bS 5 0) (((bW.apL ga).trans (eu Br))))),(0,.beq 6 (bN (qR b6 bS) (((bW.apL ga).trans (eu Br))))),(0,bW.tfr false bS z15),iW (avd n mN)]) λc0 h=>ie h (λc1 h=>rr h [aZ c0,aZ c1]) λc1 h=>let zA:SE:=[aZ c0,aZ c1];ie h (λc2 h=>bD h zA [dP c2]) λc2 h=>be h λir mN h=>be h λfF Vn h=>let zB:SE:=dJ zA [dP c2,(5,dM mN),(4,bW.nE eJ bS iG 1 false 73 2 fF.ae Vn [.str fF.av,.undef,.int .i64 fF.aw,.slice 121 2 fF.af.length (aR fF.af),.slice 107 13 fF.ak.length (aJ fF.ak)] (by kernel_rfl) (by kernel_rfl)),(8,bW.rowS [.str fF.av,.undef,.int .i64 fF.aw,.slice 121 2 fF.af.length (aR fF.af),.slice 107 13 fF.ak.length (aJ fF.ak)] Vn)];ie h (λc3 h=>be h λte qk h=>cI (ayW n h) zB [aI c3,(7,bW.gT eJ (r:= [.str fF.av,.undef,.int .i64 fF.aw,.slice 121 2 fF.af.length (aR fF.af),.slice 107 13 fF.ak.length (aJ fF.ak)]) bS iG 1 false 73 2 fF.ae qk (by kernel_rfl)),(0,.beq 6 (bN (qR b6 bS) (eu qk)))]) λc3 h=>be h λz40 hz40 h=>cI (ayW n h) zB [aI c3,(3,bW.gT eJ (r:= [.str fF.av,.undef,.int .i64 fF.aw,.slice 121 2 fF.af.length (aR fF.af),.slice 107 13 fF.ak.length (aJ fF.ak)]) bS iG 1 false 73 2 fF.ae hz40 (by kernel_rfl)),(0,.beq 6 (bN (qR b6 bS) (eu hz40)))]
def QM (n:Nat) (s0:ag) (m1:aE):Option (ag×Bool):=
 (VW n m1).bind λx6=>if !x6 then
 some (s0,false)
 else
 Mg (ze n) n s0.ai (s0.ai.length:Int) 0 s0 m1 (ag.mk 0 []) (ag.mk (bl (s0.ax+1)) []) []
def aFA (n:Nat):K2 (H7 []) KJ (QM n):=λs0 m1 r h=>be h λx6 lD h=>ie h (λc0 h=>rr h [oZ (ayG n lD),aI c0]) λc0 h=>ra (axq (aFB n) n h) [oZ (ayG n lD),aI c0,(10,.born [] [(6,1)] bS true 44 5)]
def F95:=QM
def ev95 (n:Nat):K2 (Cx E0 95 Xs bQ) KJ (F95 n):=λ_ _ _ h=>ca (X:=x95) (aFA n h)
def Xu (r:(fL×Int)):AV:=.cS [jO cV r.1.length,cm r.2]
def Pw (r:(fL×Int)):List (Nat×Bx):= [(cV,Ds r.1)]
def x40:=fx E0 Tryz.f40 [1]
def A40:=AxS x40 [1] Xu Pw
def C40:=CxS E0 40 [1] Xu Pw
def aEt (t31 t32:Int) (cr:cJ) (kb:fL):LS:=⟨[(7,.ms 29 2 0 kb.length),(30,.ms 1 15 0 cr.length),(31,cm t31),(32,cm t32)],[(1,Gj cr),(29,Ds kb)]⟩
def aEs (cr:cJ) (kb:fL):LS:=⟨[(7,.ms 29 2 0 kb.length)],[(1,Gj cr),(29,Ds kb)]⟩
def aoD (gM:ag) (cr:cJ):LS:=⟨[(0,.agg (dD gM)),(1,.ms 1 15 0 cr.length)],[(1,Gj cr)]⟩
def MN (aO:cJ->fL->Option (fL×Int)) (back:Int->Int->cJ->fL->Option (fL×Int)) (n:Nat) (t31 t32:Int) (cr:cJ) (kb:fL):Option (fL×Int):=
 if decide (t32<t31) then
 (eW cr.length t32).bind λx2=>(cr[0+x2]?).bind λx4=>(eW kb.length (bl ((kb.length:Int) - 1))).bind λgS=>(kb[0+gS]?).bind λiu=>(F95 n iu x4).bind λiL=>if !iL.2 then
 some ([],280)
 else
 (app kb [iL.1]).bind λsL=>back t31 (bl (t32+1)) cr sL
 else
 aO cr kb
def Zl:=K2 (A40 [1,1,1,1,1]) aEs
def Zk:=K4 (A40 (cF 175)) aEt
def aMw {aO} (bq:Zl aO) {back} (aS:Zk back) (n:Nat):Zk (MN aO back n):=λt31 t32 cr kb r h=>ie h (λc0 h=>be h λx2 cX h=>be h λx4 jr h=>be h λgS jG h=>be h λiu j4 h=>be h λiL kh h=>let zA:SE:=[aI c0,(0,dM cX),(0,R45.row jr),(2,.ord [0,1,2,3,4,5,6,11,7,8,9,10,12,13]),(4,dM jG),(0,zV.row j4),iW (ev95 n kh)];ie h (λc1 h=>rrS h (dJ zA [dP c1,(2,.born [4] [] cV false 25 2)])) λc1 h=>be h λsL Bu h=>raS (aS h) (by kernel_rfl) (dJ zA [dP c1,(3,zV.kF Bu)])) λc0 h=>raS (bq h) (by kernel_rfl) [aI c0]
def Aw (aO:cJ->fL->Option (fL×Int)):Nat->Int->Int->cJ->fL->Option (fL×Int)
 |0=>λ_ _ _ _=>none
 |n+1=>MN aO (Aw aO n) n
def axJ {aO} (bq:Zl aO):∀n:Nat,Zk (Aw aO n)
 |0=>λ_ _ _ _ _ h=>nz h
 |n+1=>aMw bq (axJ bq n) n
def MM (n:Nat) (cr:cJ) (kb:fL):Option (fL×Int):=
 some (kb,0)
def aMv (n:Nat):Zl (MM n):=λcr kb r h=>rrS h [(3,.jq 29 cV)]
def Yx (n:Nat) (gM:ag) (cr:cJ):Option (fL×Int):=
 (F94 n gM).bind λx5=>if x5 !=0 then
 some ([],x5)
 else
 if decide (8<(cr.length:Int)) then
 some ([],2)
 else
 if decide (1000<(bl (gM.ax+(cr.length:Int)))) then
 some ([],2)
 else
 Aw (MM n) n (cr.length:Int) 0 cr [gM]
def aMu (n:Nat):K2 (A40 []) aoD (Yx n):=λgM cr r h=>be h λx5 kR h=>let zA:SE:=[mY (avd n kR)];ie h (λc0 h=>rrS h (dJ zA [aZ c0,(3,.born [4] [] cV false 25 2)])) λc0 h=>ie h (λc1 h=>rrS h (dJ zA [aZ c0,aZ c1,(4,.born [4] [] cV false 25 2)])) λc1 h=>ie h (λc2 h=>rrS h (dJ zA [aZ c0,aZ c1,dP c2,(3,.born [4] [] cV false 25 2)])) λc2 h=>raS (axJ (aMv n) n h) (by kernel_rfl) (dJ zA [aZ c0,aZ c1,dP c2])
def F40:=Yx
def avh (n:Nat):K2 C40 aoD (F40 n):=λ_ _ _ h=>caS (X:=x40) (aMu n h)
def axa (r:(cJ×aM)):AV:=.ms cV 15 0 r.1.length
def apB (r:(cJ×aM)):List (Nat×Bx):= [(0,pc (fK r.2)),(cV,Gj r.1)]
def rV:=fx E0 Tryz.f39 [0]
def A39:=Ax rV axa apB
def aEy (n8:Int) (b0:aM) (b4:ag) (fq:cJ) (bR:aE):LS:=⟨[(0,.loc 0 0),(4,.loc 4 0),(7,.ms 227 15 0 fq.length),(8,cm n8),(12,.loc 12 0)],[(0,pc (fK b0)),(4,iE (dD b4)),(12,uw (mz bR)),(227,Gj fq)]⟩
def aoF (n8:Int) (b0:aM) (b4:ag) (fq:cJ):LS:=⟨[(0,.loc 0 0),(4,.loc 4 0),(7,.ms 227 15 0 fq.length),(8,cm n8)],[(0,pc (fK b0)),(4,iE (dD b4)),(227,Gj fq)]⟩
def aEx (n8:Int) (b0:aM) (b4:ag) (fq:cJ) (gH:ag) (bR:aE):LS:=⟨[(0,.loc 0 0),(4,.loc 4 0),(7,.ms 227 15 0 fq.length),(8,cm n8),(11,.loc 11 0),(12,.loc 12 0)],[(0,pc (fK b0)),(4,iE (dD b4)),(11,iE (dD gH)),(12,uw (mz bR)),(227,Gj fq)]⟩
def aEw (n8:Int) (b0:aM) (b4:ag) (fq:cJ) (gH:ag) (bR:aE) (iy:aj):LS:=⟨[(0,.loc 0 0),(4,.loc 4 0),(7,.ms 227 15 0 fq.length),(8,cm n8),(11,.loc 11 0),(12,.loc 12 0),(13,.loc 13 0)],[(0,.flat 97 (fK b0)),(4,.flat 25 (dD b4)),(11,.flat 25 (dD gH)),(12,.flat 46 [.int .i64 bR.bh,.int .i64 bR.aG,.int .i64 0,.int .i64 0,.str ByteArray.empty,.int .i64 0,.int .i64 0,.int .i64 0,.str ByteArray.empty,.slice 110 6 bR.bf.length (cR bR.bf),.str ByteArray.empty,.slice 73 2 bR.ar.ae.length (bG bR.ar.ae),.int .i64 0,.slice 121 2 bR.ar.af.length (aR bR.ar.af),.slice 107 13 bR.ar.ak.length (aJ bR.ar.ak)]),(13,.flat 44 (im iy)),(227,.rows false 46 15 (lY fq))]⟩
def aEv (n8:Int) (b0:aM) (b4:ag) (fq:cJ) (gH:ag) (bR:aE):LS:=⟨[(0,.loc 0 0),(4,.loc 4 0),(7,.ms 227 15 0 fq.length),(8,cm n8),(11,.loc 11 0),(12,.loc 12 0)],[(0,.flat 97 (fK b0)),(4,.flat 25 (dD b4)),(11,.flat 25 (dD gH)),(12,.flat 46 [.int .i64 bR.bh,.int .i64 bR.aG,.int .i64 0,.int .i64 0,.str ByteArray.empty,.int .i64 0,.int .i64 0,.int .i64 0,.str ByteArray.empty,.slice 110 6 bR.bf.length (cR bR.bf),.str ByteArray.empty,.slice 73 2 bR.ar.ae.length (bG bR.ar.ae),.int .i64 0,.slice 121 2 bR.ar.af.length (aR bR.ar.af),.slice 107 13 bR.ar.ak.length (aJ bR.ar.ak)]),(227,.rows false 46 15 (lY fq))]⟩
def aEu (b0:aM) (fq:cJ):LS:=⟨[(7,.ms 227 15 0 fq.length)],[(0,pc (fK b0)),(227,Gj fq)]⟩
def aoE (c0:aM) (s1:ag) (Xz:Int):LS:=⟨[(0,.loc 0 0),(1,.agg (dD s1)),(2,cm Xz)],(rB (fK c0))⟩
def QX (aO:VG) (n:Nat) (n8:Int) (b0:aM) (b4:ag) (fq:cJ) (bR:aE):Option (cJ×aM):=
 (app [] fq).bind λx3=>(app x3 [bR]).bind λx7=>(F40 n b4 x7).bind λx9=>if x9.2==0 then
 (app fq [bR]).bind λjQ=>aO n8 b0 b4 jQ
 else
 aO n8 b0 b4 fq
def aoT:=K4 (A39 (cF 459)) aoF
def azd {aO} (bq:aoT aO) (n:Nat):K5 (A39 (cF 2096715)) aEy (QX aO n):=λn8 b0 b4 fq bR r h=>be h λx3 eY h=>be h λx7 jK h=>be h λx9 iS h=>let zA:SE:=[(0,.born [] [] 215 true 46 15),(2,R45.kF (xs:= []) eY),(2,R45.kF jK),(0,.call (avh n iS) [(215,1)] [(321900,cV)])];ie h (λdt h=>be h λjQ j3 h=>cI (bq h) zA [cg dt,(3,R45.kF j3)]) λdt h=>cI (bq h) zA [cg dt]
def Dh (dZ:VG) (n:Nat) (n8:Int) (b0:aM) (b4:ag) (fq:cJ):Option (cJ×aM):=
 dZ (bl (n8 - 1)) b0 b4 fq
def A7:=K4 (A39 [0,1,0,1,1]) aoF
def amg {dZ} (gj:A7 dZ) (n:Nat):aoT (Dh dZ n):=λn8 b0 b4 fq r h=>ra (gj h) []
def rQ (dZ:VG) (n:Nat) (n8:Int) (b0:aM) (b4:ag) (fq:cJ) (gH:ag) (bR:aE):Option (cJ×aM):=
 if bR.bh==7 then
 if decide ((gH.ai.length:Int)<2) then
 Dh dZ n n8 b0 b4 fq
 else
 QX (Dh dZ n) n n8 b0 b4 fq bR
 else
 QX (Dh dZ n) n n8 b0 b4 fq bR
def wO {dZ} (gj:A7 dZ) (n:Nat):K6 (A39 (cF 1048139)) aEx (rQ dZ n):=λn8 b0 b4 fq gH bR r h=>ie h (λdt h=>ie h (λc1 h=>ra (amg gj n h) [aZ dt,bu c1]) λc1 h=>ra (azd (amg gj n) n h) [aZ dt,bu c1]) λdt h=>ra (azd (amg gj n) n h) [aZ dt]
def QW (dZ:VG) (n:Nat) (n8:Int) (b0:aM) (b4:ag) (fq:cJ) (gH:ag) (bR:aE) (iy:aj):Option (cJ×aM):=
 (rz n b0 (if 1<(bl ((iy.ae.length:Int) - iy.aw)) then (bl ((iy.ae.length:Int) - iy.aw)) else 1)).bind λdy=>(cat (ByteArray.mk #[110]) (Utf8.encode (IntKind.wrap .i32 (bl (97+(fq.length:Int)))))).bind λjQ=>(rz n dy.2 26).bind λiK=>(cat ((ByteArray.mk #[110])++(Utf8.encode (IntKind.wrap .i32 (bl (97+(fq.length:Int)))))) (Utf8.encode (IntKind.wrap .i32 (bl (97+iK.1))))).bind λnD=>if bR.bh==1 then
 (rz n iK.2 3).bind λyF=>(F93 n yF.2 (bl (3+yF.1))).bind λx47=>rQ dZ n n8 x47.2 b4 fq gH (aE.mk bR.bh bR.aG 0 0 (((ByteArray.mk #[110])++(Utf8.encode (IntKind.wrap .i32 (bl (97+(fq.length:Int))))))++(Utf8.encode (IntKind.wrap .i32 (bl (97+iK.1))))) (bl (3+yF.1)) x47.1 bR.bf (aj.mk ByteArray.empty bR.ar.ae 0 bR.ar.af bR.ar.ak))
 else
 if bR.bh==2 then
 if decide ((bl (iy.aw+dy.1))<(iy.ae.length:Int)) then
 (idx iy.ae (bl (iy.aw+dy.1))).bind λx49=>(F93 n iK.2 x49.ay).bind λx53=>rQ dZ n n8 x53.2 b4 fq gH (aE.mk bR.bh bR.aG (bl (iy.aw+dy.1)) 0 ByteArray.empty 0 x53.1 bR.bf (aj.mk ByteArray.empty bR.ar.ae 0 bR.ar.af bR.ar.ak))
 else
 rQ dZ n n8 iK.2 b4 fq gH (aE.mk bR.bh bR.aG (bl (iy.aw+dy.1)) 0 ByteArray.empty 0 (aP.mk 0 0 ByteArray.empty) bR.bf (aj.mk ByteArray.empty bR.ar.ae 0 bR.ar.af bR.ar.ak))
 else
 if bR.bh==3 then
 (rz n iK.2 (if 1<(bl ((iy.ae.length:Int) - iy.aw)) then (bl ((iy.ae.length:Int) - iy.aw)) else 1)).bind λIh=>rQ dZ n n8 Ih.2 b4 fq gH (aE.mk bR.bh bR.aG (bl (iy.aw+dy.1)) (bl (iy.aw+Ih.1)) ByteArray.empty 0 (aP.mk 0 0 ByteArray.empty) bR.bf (aj.mk ByteArray.empty bR.ar.ae 0 bR.ar.af bR.ar.ak))
 else
 if bR.bh==4 then
 (rz n iK.2 (if 1<(iy.ae.length:Int) then (iy.ae.length:Int) else 1)).bind λAY=>rQ dZ n n8 AY.2 b4 fq gH (aE.mk bR.bh bR.aG AY.1 0 (((ByteArray.mk #[110])++(Utf8.encode (IntKind.wrap .i32 (bl (97+(fq.length:Int))))))++(Utf8.encode (IntKind.wrap .i32 (bl (97+iK.1))))) 0 (aP.mk 0 0 ByteArray.empty) bR.bf (aj.mk ByteArray.empty bR.ar.ae 0 bR.ar.af bR.ar.ak))
 else
 if bR.bh==5 then
 rQ dZ n n8 iK.2 b4 fq gH (aE.mk bR.bh bR.aG 0 0 (((ByteArray.mk #[110])++(Utf8.encode (IntKind.wrap .i32 (bl (97+(fq.length:Int))))))++(Utf8.encode (IntKind.wrap .i32 (bl (97+iK.1))))) 0 (aP.mk 0 0 ByteArray.empty) bR.bf (aj.mk ByteArray.empty bR.ar.ae 0 bR.ar.af bR.ar.ak))
 else
 if bR.bh==6 then
 (Cf n (ByteArray.mk #[105,100]) 4).bind λAY=>(Cf n (ByteArray.mk #[110,111,116,101]) 5).bind λx48=>rQ dZ n n8 iK.2 b4 fq gH (aE.mk bR.bh 0 0 0 ByteArray.empty 0 (aP.mk 0 0 ByteArray.empty) bR.bf (aj.mk (((ByteArray.mk #[110])++(Utf8.encode (IntKind.wrap .i32 (bl (97+(fq.length:Int))))))++(Utf8.encode (IntKind.wrap .i32 (bl (97+iK.1))))) [AY,x48] 1 [] []))
 else
 if bR.bh==8 then
 if decide ((bl (iy.aw+dy.1))<(iy.ae.length:Int)) then
 (idx iy.ae (bl (iy.aw+dy.1))).bind λx58=>(F93 n iK.2 x58.ay).bind λpF=>(F93 n pF.2 x58.ay).bind λqo=>if ((pF.1.ay==qo.1.ay) && ((pF.1.bZ==qo.1.bZ) && ((decide (pF.1.bB=qo.1.bB)) && true))) then
 (tE 2 1).bind λx89=>rQ dZ n n8 qo.2 b4 fq gH (aE.mk bR.bh bR.aG (bl (iy.aw+dy.1)) 0 ByteArray.empty 0 (aP.mk 0 0 ByteArray.empty) ([(jn.mk pF.1 qo.1),(jn.mk qo.1 pF.1)].take x89) (aj.mk ByteArray.empty bR.ar.ae 0 bR.ar.af bR.ar.ak))
 else
 rQ dZ n n8 qo.2 b4 fq gH (aE.mk bR.bh bR.aG (bl (iy.aw+dy.1)) 0 ByteArray.empty 0 (aP.mk 0 0 ByteArray.empty) [(jn.mk pF.1 qo.1),(jn.mk qo.1 pF.1)] (aj.mk ByteArray.empty bR.ar.ae 0 bR.ar.af bR.ar.ak))
 else
 rQ dZ n n8 iK.2 b4 fq gH (aE.mk bR.bh bR.aG (bl (iy.aw+dy.1)) 0 ByteArray.empty 0 (aP.mk 0 0 ByteArray.empty) bR.bf (aj.mk ByteArray.empty bR.ar.ae 0 bR.ar.af bR.ar.ak))
 else
 rQ dZ n n8 iK.2 b4 fq gH (aE.mk bR.bh bR.aG 0 0 ByteArray.empty 0 (aP.mk 0 0 ByteArray.empty) bR.bf (aj.mk ByteArray.empty bR.ar.ae 0 bR.ar.af bR.ar.ak))
def azc {dZ} (gj:A7 dZ) (n:Nat):K7 (A39 (cF 130635)) aEw (QW dZ n):=λn8 b0 b4 fq gH bR iy r h=>be h λdy ga h=>be h λjQ j3 h=>be h λiK tv h=>be h λnD sK h=>let zA:SE:=[(10,.call (oP n ga) [(0,0)] []),(7,.cat (G2 j3).1),(1,.call (oP n tv) [(0,0)] []),(3,.cat (G2 sK).1)];ie h (λdt h=>be h λyF NP h=>be h λx47 hx47 h=>cI (wO gj n h) zA [bj dt,(3,.call (oP n NP) [(0,0)] []),(8,.call (NZ n hx47) [(0,0)] [])]) λdt h=>let zB:SE:=dJ zA [bj dt];ie h (λc1 h=>ie h (λc2 h=>be h λx49 hx49 h=>be h λx53 hx53 h=>cI (wO gj n h) zB [bb c1,iC c2,(4,eJ.idx hx49),(2,.call (NZ n hx53) [(0,0)] [])]) λc2 h=>cI (wO gj n h) zB [bb c1,iC c2]) λc1 h=>let zC:SE:=dJ zB [bb c1];ie h (λc2 h=>be h λIh aut h=>cI (wO gj n h) zC [bb c2,(1,.ord [0,1,2,3,4,5,6,7,8,9,10,13,11,12,14,15,16]),(12,.call (oP n aut) [(0,0)] [])]) λc2 h=>let zD:SE:=dJ zC [bb c2];ie h (λc3 h=>be h λAY abI h=>cI (wO gj n h) zD [bb c3,(6,.call (oP n abI) [(0,0)] [])]) λc3 h=>let zE:SE:=dJ zD [bb c3];ie h (λc4 h=>cI (wO gj n h) zE [bb c4]) λc4 h=>let zF:SE:=dJ zE [bb c4];ie h (λc5 h=>be h λAY abI h=>be h λx48 auu h=>cI (wO gj n h) zF [bb c5,iW (BM n abI),om (BM n auu),(6,eJ.fX 163 [AY,x48])]) λc5 h=>let zG:SE:=dJ zF [bb c5];ie h (λc6 h=>ie h (λc7 h=>be h λx58 hx58 h=>be h λpF hx65 h=>be h λqo hx69 h=>let zH:SE:=dJ zG [bb c6,iC c7,(3,eJ.idx hx58),(5,.call (NZ n hx65) [(0,0)] []),(2,.call (NZ n hx69) [(0,0)] [])];ie h (λc8 h=>be h λx89 auo h=>cI (wO gj n h) zH [(15,eb c8),(2,DI.tE (xs:= [(jn.mk pF.1 qo.1),(jn.mk qo.1 pF.1)]) auo (v8 rfl)),(2,.zN 194 (.undef)),(0,.zN 200 (.undef)),(0,.shr 194 (DI.take [(jn.mk pF.1 qo.1),(jn.mk qo.1 pF.1)] x89)),(0,.seq 201 (bN (AV.ms 194 6 0) ((Cn (xs:= [(jn.mk pF.1 qo.1),(jn.mk qo.1 pF.1)]) (jj (vY auo).2 (v8 rfl))).symm))),(0,.beq 12 (bN (λn_=>(Bx.flat 46 [.int .i64 bR.bh,.int .i64 bR.aG,.int .i64 (bl (iy.aw+dy.1)),.int .i64 0,.str ByteArray.empty,.int .i64 0,.int .i64 0,.int .i64 0,.str ByteArray.empty,.ms 194 6 0 n_,.str ByteArray.empty,.slice 73 2 bR.ar.ae.length (bG bR.ar.ae),.int .i64 0,.slice 121 2 bR.ar.af.length (aR bR.ar.af),.slice 107 13 bR.ar.ak.length (aJ bR.ar.ak)])) ((Cn (xs:= [(jn.mk pF.1 qo.1),(jn.mk qo.1 pF.1)]) (jj (vY auo).2 (v8 rfl))).symm))),(0,DI.fX 194 ([(jn.mk pF.1 qo.1),(jn.mk qo.1 pF.1)].take x89))]) λc8 h=>cI (wO gj n h) zH [(15,eb c8),(0,DI.fX 194 [(jn.mk pF.1 qo.1),(jn.mk qo.1 pF.1)])]) λc7 h=>cI (wO gj n h) zG [bb c6,iC c7]) λc6 h=>cI (wO gj n h) zG [bb c6]
def QV (dZ:VG) (n:Nat) (n8:Int) (b0:aM) (b4:ag) (fq:cJ) (gH:ag) (bR:aE):Option (cJ×aM):=
 if decide (0<(gH.ai.length:Int)) then
 (idx gH.ai bR.aG).bind λdB=>QW dZ n n8 b0 b4 fq gH (aE.mk bR.bh bR.aG 0 0 ByteArray.empty 0 (aP.mk 0 0 ByteArray.empty) bR.bf (aj.mk ByteArray.empty bR.ar.ae 0 bR.ar.af bR.ar.ak)) dB
 else
 QW dZ n n8 b0 b4 fq gH (aE.mk bR.bh bR.aG 0 0 ByteArray.empty 0 (aP.mk 0 0 ByteArray.empty) bR.bf (aj.mk ByteArray.empty bR.ar.ae 0 bR.ar.af bR.ar.ak)) (aj.mk ByteArray.empty [] 0 [] [])
def azb {dZ} (gj:A7 dZ) (n:Nat):K6 (A39 (cF 32331)) aEv (QV dZ n):=λn8 b0 b4 fq gH bR r h=>ie h (λdt h=>be h λdB kS h=>ra (azc gj n h) [bu dt,(4,bW.idx kS)]) λdt h=>ra (azc gj n h) [bu dt]
def Yy (jR:Wf32) (back:VG) (n:Nat) (n8:Int) (b0:aM) (b4:ag) (fq:cJ):Option (cJ×aM):=
 if decide (0<n8) then
 (F40 n b4 fq).bind λx5=>if x5.2 !=0 then
 some ([],b0)
 else
 (eW x5.1.length (bl ((x5.1.length:Int) - 1))).bind λld=>(x5.1[0+ld]?).bind λjQ=>(rz n b0 10).bind λgg=>(rz n gg.2 (if 1<(jQ.ai.length:Int) then (jQ.ai.length:Int) else 1)).bind λlW=>if decide (8<(bl (1+gg.1))) then
 (rz n lW.2 2).bind λD4=>QV back n n8 D4.2 b4 fq jQ (aE.mk (bl (1+(bl (7*D4.1)))) lW.1 0 0 ByteArray.empty 0 (aP.mk 0 0 ByteArray.empty) [] (aj.mk ByteArray.empty [] 0 [] []))
 else
 QV back n n8 lW.2 b4 fq jQ (aE.mk (bl (1+gg.1)) lW.1 0 0 ByteArray.empty 0 (aP.mk 0 0 ByteArray.empty) [] (aj.mk ByteArray.empty [] 0 [] []))
 else
 jR b0 fq
def Zj:=K2 (A39 [1,1,1]) aEu
def aMz {jR} (ql:Zj jR) {back} (aS:A7 back) (n:Nat):A7 (Yy jR back n):=λn8 b0 b4 fq r h=>ie h (λdt h=>be h λx5 kR h=>let zA:SE:=[bb dt,(2,.call (avh n kR) [(227,1)] [(303000,cV)])];ie h (λc1 h=>bD h zA [dP c1,(1,.born [6] [] cV false 46 15)]) λc1 h=>be h λld pj h=>be h λjQ j3 h=>be h λgg ll h=>be h λlW tu h=>let zB:SE:=dJ zA [dP c1,(4,dM pj),(0,zV.row j3),(2,.ord [0,3,4,5,6,7,10,1,2,8,9,11]),(7,.call (oP n ll) [(0,0)] []),(1,.call (oP n tu) [(0,0)] [])];ie h (λc2 h=>be h λD4 abJ h=>cI (azb aS n h) zB [bu c2,(1,.call (oP n abJ) [(0,0)] [])]) λc2 h=>cI (azb aS n h) zB [bu c2]) λdt h=>ra (ql h) [bb dt]
def Dc (jR:Wf32):Nat->Int->aM->ag->cJ->Option (cJ×aM)
 |0=>λ_ _ _ _=>none
 |n+1=>Yy jR (Dc jR n) n
def axK {jR} (ql:Zj jR):∀n:Nat,A7 (Dc jR n)
 |0=>λ_ _ _ _ _ h=>nz h
 |n+1=>aMz ql (axK ql n) n
def MO (n:Nat) (b0:aM) (fq:cJ):Option (cJ×aM):=
 some (fq,b0)
def aMy (n:Nat):Zj (MO n):=λb0 fq r h=>rr h [(2,.jq 227 cV)]
def anM (n:Nat) (c0:aM) (s1:ag) (Xz:Int):Option (cJ×aM):=
 (rz n c0 (bl (Xz+1))).bind λx7=>Dc (MO n) n x7.1 x7.2 s1 []
def aMx (n:Nat):K3 (A39 []) aoE (anM n):=λc0 s1 Xz r h=>be h λx7 jK h=>ra (axK (aMy n) n h) [(6,.call (oP n jK) [(0,0)] []),(1,.born [7] [] 227 true 46 15)]
def F39:=anM
def ev39 (n:Nat):K3 (Cx E0 39 axa apB) aoE (F39 n):=λ_ _ _ _ h=>ca (X:=rV) (aMx n h)
def axf (r:(ag×cJ×fL×Int×aM)):AV:=.cS [.agg (dD r.1),.ms 200001 15 0 r.2.1.length,jO 200002 r.2.2.1.length,cm r.2.2.2.1]
def apF (r:(ag×cJ×fL×Int×aM)):List (Nat×Bx):= [(0,pc (fK r.2.2.2.2)),(200001,Gj r.2.1),(200002,Ds r.2.2.1)]
def gS:=fx E0 Tryz.f12 [0]
def A12:=Ax gS axf apF
def anW (n:Nat) (c0:aM):Option (ag×cJ×fL×Int×aM):=
 (F38 n c0).bind λx6=>(F39 n x6.2 x6.1 5).bind λajA=>(F40 n x6.1 ajA.1).bind λiL=>(rz n ajA.2 (iL.1.length:Int)).bind λsL=>some (x6.1,ajA.1,iL.1,sL.1,sL.2)
def aNf (n:Nat):K1 (A12 []) vK (anW n):=λc0 r h=>be h λx6 lD h=>be h λajA jG h=>be h λiL kh h=>be h λsL Bu h=>rr h [(5,.call (ev38 n lD) [(0,0)] []),(4,.call (ev39 n jG) [(0,0)] [(14,cV)]),(3,.call (avh n kh) [(14,1)] [(301800,cV)]),(11,.call (oP n Bu) [(0,0)] []),(4,.jq 14 200001),(0,.jq 301800 200002)]
def F12:=anW
def ev12 (n:Nat):K1 (Cx E0 12 axf apF) vK (F12 n):=λ_ _ h=>ca (X:=gS) (aNf n h)
def axe (r:aM):AV:=.loc cV 0
def apE (r:aM):List (Nat×Bx):= [(cV,pc (fK r))]
def dY:=fx E0 Tryz.f13 []
def A13:=Ax dY axe apE
def aoQ (re:aK) (PE:Int):LS:=⟨[(0,.qp 5 1 re.length (ym re)),(1,.int .i64 PE)],[]⟩
def anV (n:Nat) (re:aK) (PE:Int):Option aM:=
 (cut re none (some (if PE<(re.length:Int) then PE else (re.length:Int)))).bind λx7=>(app [] x7).bind λx9=>some (aM.mk x9 0)
def aNe (n:Nat):K2 (A13 []) aoQ (anV n):=λre PE r h=>be h λx7 jK h=>be h λx9 iS h=>rr h [(6,R5.cut jK),(0,.born [] [] 11 true 5 1),(0,R5.app (xs:= []) iS),(3,.jq 13 cV),(0,R5.fX 11 x9),(0,.pZ cV (.flat 0 [.sl 2 0 0 0 []]))]
def F13:=anV
def ev13 (n:Nat):K2 (Cx E0 13 axe apE) aoQ (F13 n):=λ_ _ _ h=>ca (X:=dY) (aNe n h)
def awY (r:(cC×aM)):AV:=.ms cV 3 0 r.1.length
def apz (r:(cC×aM)):List (Nat×Bx):= [(0,pc (fK r.2)),(cV,IP r.1)]
def x49:=fx E0 Tryz.f49 [0]
def A49:=Ax x49 awY apz
def aEd (jl dC k11:Int) (t12:aK) (t13 t14:Int) (t41:Bool) (b0:aM) (b9:cC):LS:=⟨[(0,.loc 0 0),(2,.int .i64 jl),(3,.int .i64 dC),(9,.ms 9 3 0 b9.length),(11,.int .i64 k11),(12,.slice 3 1 t12.length (eo t12)),(13,.int .i64 t13),(14,.int .i64 t14),(41,.bool t41)],[(0,pc (fK b0)),(9,IP b9)]⟩
def aoB (jl dC:Int) (t12:aK) (t13 t14:Int) (b0:aM) (b9:cC):LS:=⟨[(0,.loc 0 0),(2,.int .i64 jl),(3,.int .i64 dC),(9,.ms 9 3 0 b9.length),(12,.slice 3 1 t12.length (eo t12)),(13,.int .i64 t13),(14,.int .i64 t14)],[(0,pc (fK b0)),(9,IP b9)]⟩
def aEc (b0:aM) (b9:cC):LS:=⟨[(9,.ms 9 3 0 b9.length)],[(0,pc (fK b0)),(9,IP b9)]⟩
def aoA (c0:aM) (ED:aK) (jl dC:Int):LS:=⟨[(0,.loc 0 0),(1,.slice 3 1 ED.length (eo ED)),(2,.int .i64 jl),(3,.int .i64 dC)],(rB (fK c0))⟩
def Dg (aO:avU) (n:Nat) (jl dC k11:Int) (t12:aK) (t13 t14:Int) (t41:Bool) (b0:aM) (b9:cC):Option (cC×aM):=
 if t41 then
 (app b9 [(aP.mk 1 0 ByteArray.empty)]).bind λx4=>aO jl dC t12 t13 t14 b0 x4
 else
 (F93 n b0 k11).bind λx4=>(app b9 [x4.1]).bind λx7=>aO jl dC t12 t13 t14 x4.2 x7
def aoS:=K7 (A49 (cF 971)) aoB
def Qu {aO} (bq:aoS aO) (n:Nat):K9 (A49 (cF 62667)) aEd (Dg aO n):=λjl dC k11 t12 t13 t14 t41 b0 b9 r h=>ie h (λdt bI=>by subst dt;exact (be bI λx4 jr bI=>ra (bq bI) [(3,p8.kF jr)])) λdt bI=>by subst dt;exact (be bI λx4 jr bI=>be bI λx7 jK bI=>ra (bq bI) [(3,.call (NZ n jr) [(0,0)] []),(1,p8.kF jK)])
def yz (bt:avU) (n:Nat) (jl dC:Int) (t12:aK) (t13 t14:Int) (b0:aM) (b9:cC):Option (cC×aM):=
 bt jl dC t12 t13 (bl (t14+1)) b0 b9
def OY:=K7 (A49 [0,1,0,1,1]) aoB
def L8 {bt} (cM:OY bt) (n:Nat):aoS (yz bt n):=λjl dC t12 t13 t14 b0 b9 r h=>ra (cM h) []
def Yl (bC:aM->cC->Option (cC×aM)) (back:avU) (n:Nat) (jl dC:Int) (t12:aK) (t13 t14:Int) (b0:aM) (b9:cC):Option (cC×aM):=
 if decide (t14<t13) then
 (idx t12 t14).bind λx3=>if !decide (t14<jl) then
 if dC !=1 then
 (Df n b0 5).bind λiL=>if iL.1 then
 (app b9 [(aP.mk 2 0 ByteArray.empty)]).bind λCl=>yz back n jl dC t12 t13 t14 iL.2 Cl
 else
 if dC==3 then
 (Df n iL.2 5).bind λsL=>Dg (yz back n) n jl dC x3 t12 t13 t14 sL.1 sL.2 b9
 else
 Dg (yz back n) n jl dC x3 t12 t13 t14 false iL.2 b9
 else
 if dC==3 then
 (Df n b0 5).bind λD6=>Dg (yz back n) n jl dC x3 t12 t13 t14 D6.1 D6.2 b9
 else
 Dg (yz back n) n jl dC x3 t12 t13 t14 false b0 b9
 else
 Dg (yz back n) n jl dC x3 t12 t13 t14 false b0 b9
 else
 bC b0 b9
def Zi:=K2 (A49 [1,1,1]) aEc
def aLZ {bC} (cU:Zi bC) {back} (aS:OY back) (n:Nat):OY (Yl bC back n):=λjl dC t12 t13 t14 b0 b9 r h=>ie h (λdt h=>be h λx3 eY h=>let zA:SE:=[aI dt,(1,R3.idx eY)];ie h (λc1 h=>let zB:SE:=dJ zA [cg c1];ie h (λc2 h=>be h λiL kh h=>ie h (λc3 h=>be h λCl NR h=>cI (L8 aS n h) zB [aZ c2,(3,.call (cb (rb n kh) c3) [(0,0)] []),(5,p8.kF NR)]) λc3 h=>let zC:SE:=dJ zB [aZ c2,(3,.call (cb (rb n kh) c3) [(0,0)] []),bu c1];ie h (λc4 h=>be h λsL Bu h=>cI (Qu (L8 aS n) n h) zC [aZ c4,(3,.call (rb n Bu) [(0,0)] [])]) λc4 h=>cI (Qu (L8 aS n) n h) zC [aZ c4]) λc2 h=>ie h (λc3 h=>be h λD6 abM h=>cI (Qu (L8 aS n) n h) zB [aZ c2,dP c1,aZ c3,(3,.call (rb n abM) [(0,0)] [])]) λc3 h=>cI (Qu (L8 aS n) n h) zB [aZ c2,dP c1,aZ c3]) λc1 h=>cI (Qu (L8 aS n) n h) zA [cg c1,jU c1]) λdt h=>ra (cU h) [aI dt]
def Db (bC:aM->cC->Option (cC×aM)):Nat->Int->Int->aK->Int->Int->aM->cC->Option (cC×aM)
 |0=>λ_ _ _ _ _ _ _=>none
 |n+1=>Yl bC (Db bC n) n
def axB {bC} (cU:Zi bC):∀n:Nat,OY (Db bC n)
 |0=>λ_ _ _ _ _ _ _ _ h=>nz h
 |n+1=>aLZ cU (axB cU n) n
def ML (n:Nat) (b0:aM) (b9:cC):Option (cC×aM):=
 some (b9,b0)
def aLY (n:Nat):Zi (ML n):=λb0 b9 r h=>rr h [(2,.jq 9 cV)]
def azq (n:Nat) (c0:aM) (ED:aK) (jl dC:Int):Option (cC×aM):=
 Db (ML n) n jl dC ED (ED.length:Int) 0 c0 []
def aLX (n:Nat):K4 (A49 []) aoA (azq n):=λc0 ED jl dC r h=>ra (axB (aLY n) n h) [(5,.born [9] [] 9 true 38 3)]
def F49:=azq
def ev49 (n:Nat):K4 (Cx E0 49 awY apz) aoA (F49 n):=λ_ _ _ _ _ h=>ca (X:=x49) (aLX n h)
def qo:=fx E0 Tryz.f69 []
def A69:=Ax qo ee bQ
def OS (a0 b1:aP):LS:=⟨[(0,.agg (lP a0)),(1,.agg (lP b1))],[]⟩
def anv (n:Nat) (a0 b1:aP):Option Int:=
 if decide (a0.ay<b1.ay) then
 some (-1)
 else
 if decide (b1.ay<a0.ay) then
 some 1
 else
 if decide (a0.bZ<b1.bZ) then
 some (-1)
 else
 if decide (b1.bZ<a0.bZ) then
 some 1
 else
 if Op.bytesLess a0.bB.toList b1.bB.toList then
 some (-1)
 else
 if !(Op.bytesLess a0.bB.toList b1.bB.toList||a0.bB.toList==b1.bB.toList) then
 some 1
 else
 some 0
def aLz (n:Nat):K2 (A69 []) OS (anv n):=λa0 b1 r h=>ie h (λc0 h=>rr h [jU c0]) λc0 h=>ie h (λc1 h=>rr h [jU c0,cg c1]) λc1 h=>let zA:SE:=[jU c0,cg c1];ie h (λc2 h=>bD h zA [cg c2]) λc2 h=>let zB:SE:=dJ zA [cg c2];ie h (λc3 h=>bD h zB [cg c3]) λc3 h=>ie h (λc4 h=>bD h zB [cg c3,cg c4]) λc4 h=>ie h (λc5 h=>bD h zB [cg c3,cg c4,cg c5]) λc5 h=>bD h zB [cg c3,cg c4,cg c5]
def F69:=anv
def ev69 (n:Nat):K2 (Cx E0 69 ee bQ) OS (F69 n):=λ_ _ _ h=>ca (X:=qo) (aLz n h)
def D6:=fx E0 Tryz.f27 []
def A27:=Ax D6 ee bQ
def aEB (a0 b1:cC) (i5:Int):LS:=⟨[(0,.slice 38 3 a0.length (fM a0)),(1,.slice 38 3 b1.length (fM b1)),(5,.int .i64 i5)],[]⟩
def Iw (a0 b1:cC):LS:=⟨[(0,.slice 38 3 a0.length (fM a0)),(1,.slice 38 3 b1.length (fM b1))],[]⟩
def Yz (aO:amx) (back:cC->cC->Int->Option Int) (n:Nat) (a0 b1:cC) (i5:Int):Option Int:=
 if decide (i5<(a0.length:Int)) then
 if decide (i5<(b1.length:Int)) then
 (idx a0 i5).bind λdY=>(idx b1 i5).bind λld=>(F69 n dY ld).bind λpG=>if pG !=0 then
 some pG
 else
 back a0 b1 (bl (i5+1))
 else
 aO a0 b1
 else
 aO a0 b1
def Zh:=K2 (A27 [1,1]) Iw
def Zg:=K3 (A27 [0,1,0,1]) aEB
def aMD {aO} (bq:Zh aO) {back} (aS:Zg back) (n:Nat):Zg (Yz aO back n):=λa0 b1 i5 r h=>ie h (λc0 h=>ie h (λc1 h=>be h λdY iq h=>be h λld pj h=>be h λpG xV h=>let zA:SE:=[bj c0,bu c1,(3,p8.idx iq),(3,p8.idx pj),yu (ev69 n xV)];ie h (λc2 h=>bD h zA [aZ c2]) λc2 h=>cI (aS h) zA [aZ c2]) λc1 h=>ra (bq h) [bj c0,bu c1]) λc0 h=>ra (bq h) [bj c0]
def Mr (aO:amx):Nat->cC->cC->Int->Option Int
 |0=>λ_ _ _=>none
 |n+1=>Yz aO (Mr aO n) n
def axL {aO} (bq:Zh aO):∀n:Nat,Zg (Mr aO n)
 |0=>λ_ _ _ _ h=>nz h
 |n+1=>aMD bq (axL bq n) n
def QZ (n:Nat) (a0 b1:cC):Option Int:=
 if decide ((a0.length:Int)<(b1.length:Int)) then
 some (-1)
 else
 if decide ((b1.length:Int)<(a0.length:Int)) then
 some 1
 else
 some 0
def aMC (n:Nat):Zh (QZ n):=λa0 b1 r h=>ie h (λc0 h=>rr h [bu c0]) λc0 h=>ie h (λc1 h=>rr h [bu c0,cg c1]) λc1 h=>rr h [bu c0,cg c1]
def azt (n:Nat) (a0 b1:cC):Option Int:=
 Mr (QZ n) n a0 b1 0
def aMB (n:Nat):K2 (A27 []) Iw (azt n):=λa0 b1 r h=>ra (axL (aMC n) n h) []
def F27:=azt
def ev27 (n:Nat):K2 (Cx E0 27 ee bQ) Iw (F27 n):=λ_ _ _ h=>ca (X:=D6) (aMB n h)
def Ek (r:cC):AV:=.ms cV 3 0 r.length
def AK (r:cC):List (Nat×Bx):= [(cV,IP r)]
def x104:=fx E0 Tryz.f104 []
def A104:=Ax x104 Ek AK
def ahu (r0:cC):LS:=⟨[(0,.slice 38 3 r0.length (fM r0))],[]⟩
def afv (n:Nat) (r0:cC):Option cC:=
 (app [] r0).bind λx3=>some x3
def aIT (n:Nat):K1 (A104 []) ahu (afv n):=λr0 r h=>be h λx3 eY h=>rr h [(2,.born [] [] 4 true 38 3),(0,p8.app (xs:= []) eY),(1,.jq 4 cV)]
def V0:=afv
def alB (n:Nat):K1 (Cx E0 104 Ek AK) ahu (V0 n):=λ_ _ h=>ca (X:=x104) (aIT n h)
def x52:=fx E0 Tryz.f52 []
def A52:=Ax x52 Ek AK
def OU (s0:ag) (dh:Int) (kC:cC):LS:=⟨[(0,.agg (dD s0)),(1,.int .i64 dh),(2,.slice 38 3 kC.length (fM kC))],[]⟩
def anE (n:Nat) (s0:ag) (dh:Int) (kC:cC):Option cC:=
 if decide (dh<0) then
 some []
 else
 if !decide (dh<(s0.ai.length:Int)) then
 some []
 else
 (idx s0.ai dh).bind λeO=>(cut kC none (some (if 0<(if (kC.length:Int)<eO.aw then (kC.length:Int) else eO.aw) then (if (kC.length:Int)<eO.aw then (kC.length:Int) else eO.aw) else 0))).bind λCl=>(V0 n Cl).bind λsM=>some sM
def aLQ (n:Nat):K3 (A52 []) OU (anE n):=λs0 dh kC r h=>ie h (λc0 h=>rr h [bj c0,(3,.born [6] [] cV true 38 3)]) λc0 h=>ie h (λc1 h=>rr h [bj c0,cg c1,(2,.born [6] [] cV true 38 3)]) λc1 h=>be h λeO ic h=>be h λCl NR h=>be h λsM xU h=>rr h [bj c0,cg c1,(5,bW.idx ic),(6,p8.cut NR),(0,.call (alB n xU) [] [(28,cV)]),(1,.jq 28 cV)]
def F52:=anE
def ev52 (n:Nat):K3 (Cx E0 52 Ek AK) OU (F52 n):=λ_ _ _ _ h=>ca (X:=x52) (aLQ n h)
def awX (r:(aW×ey)):AV:=.agg [qd jT r.2.length]
def apx (r:(aW×ey)):List (Nat×Bx):= [(jT,IM r.2)]
def Ig:=fx E0 Tryz.f51 [jT]
def A51:=Ax Ig awX apx
def aDZ (gU:Int) (qi lZ:cC) (mI:Bool) (r14:cC) (c15:Int) (t23:bU) (t24 t25:Int) (eM:ey) (b5:ag) (b6 gG:aW) (eE:bU):LS:=⟨[(2,.int .i64 gU),(3,.slice 38 3 qi.length (fM qi)),(4,.slice 38 3 lZ.length (fM lZ)),(5,.loc 5 0),(6,.loc 6 0),(10,.loc 10 0),(11,.ms 45 1 0 eE.length),(12,.bool mI),(14,.slice 38 3 r14.length (fM r14)),(15,.int .i64 c15),(23,.slice 70 1 t23.length (oG t23)),(24,.int .i64 t24),(25,.int .i64 t25)],[(5,iE (dD b5)),(6,.flat 51 [qd jT eM.length]),(10,Dr),(45,xN eE),(jT,IM eM)]⟩
def aDY (gU:Int) (qi lZ:cC) (mI:Bool) (t23:bU) (t24 t25:Int) (eM:ey) (b5:ag) (b6 gG:aW) (eE:bU):LS:=⟨[(2,.int .i64 gU),(3,.slice 38 3 qi.length (fM qi)),(4,.slice 38 3 lZ.length (fM lZ)),(5,.loc 5 0),(6,.loc 6 0),(10,.loc 10 0),(11,.ms 45 1 0 eE.length),(12,.bool mI),(23,.slice 70 1 t23.length (oG t23)),(24,.int .i64 t24),(25,.int .i64 t25)],[(5,iE (dD b5)),(6,.flat 51 [qd jT eM.length]),(10,Dr),(45,xN eE),(jT,IM eM)]⟩
def aDX (gU:Int) (eM:ey) (b6 gG:aW) (eE:bU):LS:=⟨[(2,cm gU),(6,.loc 6 0),(10,.loc 10 0),(11,.ms 45 1 0 eE.length)],[(6,.flat 51 [qd jT eM.length]),(10,Dr),(45,xN eE),(jT,IM eM)]⟩
def aDW (gU:Int) (lZ:cC) (mI:Bool) (eM:ey) (b6 gG:aW) (eE:bU):LS:=⟨[(2,.int .i64 gU),(4,.slice 38 3 lZ.length (fM lZ)),(6,.loc 6 0),(10,.loc 10 0),(11,.ms 45 1 0 eE.length),(12,.bool mI)],[(6,.flat 51 [qd jT eM.length]),(10,Dr),(45,xN eE),(jT,IM eM)]⟩
def aoz (s0:ag) (st1:aW) (gU:Int) (qi lZ:cC):LS:=⟨[(0,.agg (dD s0)),(1,.agg [qd jT st1.ai.length]),(2,.int .i64 gU),(3,.slice 38 3 qi.length (fM qi)),(4,.slice 38 3 lZ.length (fM lZ))],[(jT,.rows false 68 1 (wk st1.ai))]⟩
def MK (aO:Wf35) (n:Nat) (gU:Int) (qi lZ:cC) (mI:Bool) (r14:cC) (c15:Int) (t23:bU) (t24 t25:Int) (eM:ey) (b5:ag) (b6 gG:aW) (eE:bU):Option (aW×ey):=
 if c15 !=0 then
 (app eE [r14]).bind λx6=>aO gU qi lZ mI t23 t24 (bl (t25+1)) eM b5 (aW.mk eM) (aW.mk []) x6
 else
 aO gU qi lZ mI t23 t24 (bl (t25+1)) eM b5 (aW.mk eM) (aW.mk []) eE
def OX:=K12 (A51 (cF 87)) aDY
def amf {aO} (bq:OX aO) (n:Nat):K14 (A51 (cF 31127)) aDZ (MK aO n):=λgU qi lZ mI r14 c15 t23 t24 t25 eM b5 b6 gG eE r h=>ie h (λc0 h=>be h λx6 lD h=>ra (bq h) [bb c0,(3,o9.kF lD)]) λc0 h=>ra (bq h) [bb c0]
def Yi (bC:Wf36) (back:Wf35) (n:Nat) (gU:Int) (qi lZ:cC) (mI:Bool) (t23:bU) (t24 t25:Int) (eM:ey) (b5:ag) (b6 gG:aW) (eE:bU):Option (aW×ey):=
 if decide (t25<t24) then
 (idx t23 t25).bind λx2=>(F52 n b5 gU x2).bind λx9=>(F27 n x9 qi).bind λgS=>if !decide (gS<0) then
 if !mI then
 (V0 n lZ).bind λiK=>(app eE [iK]).bind λsM=>MK back n gU qi lZ true x2 gS t23 t24 t25 eM b5 (aW.mk eM) (aW.mk []) sM
 else
 MK back n gU qi lZ mI x2 gS t23 t24 t25 eM b5 (aW.mk eM) (aW.mk []) eE
 else
 MK back n gU qi lZ mI x2 gS t23 t24 t25 eM b5 (aW.mk eM) (aW.mk []) eE
 else
 bC gU lZ mI eM (aW.mk eM) (aW.mk []) eE
def Zf:=K7 (A51 [1,1,1,1]) aDW
def aLT {bC} (cU:Zf bC) {back} (aS:OX back) (n:Nat):OX (Yi bC back n):=λgU qi lZ mI t23 t24 t25 eM b5 b6 gG eE r h=>ie h (λc0 h=>be h λx2 cX h=>be h λx9 iS h=>be h λgS jG h=>let zA:SE:=[aI c0,(0,o9.idx cX),(5,.call (ev52 n iS) [] [(32,cV)]),(1,p8.fX 32 x9),om (ev27 n jG)];ie h (λc1 h=>ie h (λc2 h=>be h λiK tv h=>be h λsM xU h=>cI (amf aS n h) zA [aZ c1,aZ c2,(3,.call (alB n tv) [] [(43,cV)]),(0,p8.fX 43 iK),(0,.zN 43 (.sl 0 0 0 0 [])),(1,o9.kF xU)]) λc2 h=>cI (amf aS n h) zA [aZ c1,aZ c2]) λc1 h=>cI (amf aS n h) zA [aZ c1]) λc0 h=>ra (cU h) [aI c0]
def Hk (bC:Wf36):Nat->Int->cC->cC->Bool->bU->Int->Int->ey->ag->aW->aW->bU->Option (aW×ey)
 |0=>λ_ _ _ _ _ _ _ _ _ _ _ _=>none
 |n+1=>Yi bC (Hk bC n) n
def axz {bC} (cU:Zf bC):∀n:Nat,OX (Hk bC n)
 |0=>λ_ _ _ _ _ _ _ _ _ _ _ _ _ h=>nz h
 |n+1=>aLT cU (axz cU n) n
def Yh (n:Nat) (gU:Int) (eM:ey) (b6 gG:aW) (eE:bU):Option (aW×ey):=
 (eW eM.length gU).bind λx5=>(eM[0+x5]?).bind λx7=>(setAt eM (0+x5) eE).bind λz8=>some ((aW.mk z8),z8)
def ayZ (n:Nat):K5 (A51 [1,1,1,1,1]) aDX (Yh n):=λgU eM b6 gG eE r h=>be h λx5 kR h=>be h λx7 jK h=>be h λz8 hz8 h=>rr h [(4,dM kR),(0,o9.fX 45 eE),(0,.zN 63 (.sl 0 0 0 0 [])),(0,xp.uF 0 [.slice 70 1 eE.length (oG eE)] jK hz8 (by kernel_rfl)),(2,.beq 10 (bN (λn_=>(Bx.flat 51 [qd jT n_])) (eu hz8)))]
def QS (n:Nat) (gU:Int) (lZ:cC) (mI:Bool) (eM:ey) (b6 gG:aW) (eE:bU):Option (aW×ey):=
 if !mI then
 (V0 n lZ).bind λx5=>(app eE [x5]).bind λx8=>Yh n gU eM (aW.mk eM) (aW.mk []) x8
 else
 Yh n gU eM (aW.mk eM) (aW.mk []) eE
def aLS (n:Nat):Zf (QS n):=λgU lZ mI eM b6 gG eE r h=>ie h (λc0 h=>be h λx5 kR h=>be h λx8 oK h=>ra (ayZ n h) [bb c0,(2,.call (alB n kR) [] [(57,cV)]),(0,p8.fX 57 x5),(0,.zN 57 (.sl 0 0 0 0 [])),(1,o9.kF oK)]) λc0 h=>ra (ayZ n h) [bb c0]
def anF (n:Nat) (s0:ag) (st1:aW) (gU:Int) (qi lZ:cC):Option (aW×ey):=
 (eW st1.ai.length gU).bind λgS=>(st1.ai[0+gS]?).bind λiu=>Hk (QS n) n gU qi lZ ((lZ.length:Int)==0) iu (iu.length:Int) 0 st1.ai s0 st1 (aW.mk []) []
def aLR (n:Nat):K5 (A51 []) aoz (anF n):=λs0 st1 gU qi lZ r h=>be h λgS jG h=>be h λiu j4 h=>ra (axz (aLS n) n h) [(11,dM jG),(0,xp.row j4),(2,.born [11] [] 45 true 70 1)]
def F51:=anF
def ev51 (n:Nat):K5 (Cx E0 51 awX apx) aoz (F51 n):=λ_ _ _ _ _ _ h=>ca (X:=Ig) (aLR n h)
def axd (r:(aW×aM)):AV:=.agg (rK r.1)
def apD (r:(aW×aM)):List (Nat×Bx):= (rB (fK r.2))
def ir:=fx E0 Tryz.f19 [0]
def A19:=Ax ir axd apD
def aEH (og t8 n9 t18 t19:Int) (b0:aM) (b4:ag) (b6 b7:aW) (rj:ey):LS:=⟨[(0,.loc 0 0),(2,cm og),(4,.loc 4 0),(6,.loc 6 0),(7,.loc 7 0),(8,cm t8),(9,cm n9),(18,cm t18),(19,cm t19)],[(0,pc (fK b0)),(4,iE (dD b4)),(6,Dr),(7,.flat 51 [.ms 14 1 0 rj.length]),(14,IM rj)]⟩
def aoN (og t18 t19:Int) (b0:aM) (b4:ag) (b6 b7:aW) (rj:ey):LS:=⟨[(0,.loc 0 0),(2,cm og),(4,.loc 4 0),(6,.loc 6 0),(7,.loc 7 0),(18,cm t18),(19,cm t19)],[(0,pc (fK b0)),(4,iE (dD b4)),(6,Dr),(7,.flat 51 [.ms 14 1 0 rj.length]),(14,IM rj)]⟩
def aEG (b0:aM) (b6 b7:aW) (rj:ey):LS:=⟨[(6,.loc 6 0),(7,.loc 7 0)],[(0,pc (fK b0)),(6,Dr),(7,.flat 51 [.ms 14 1 0 rj.length]),(14,IM rj)]⟩
def aoM (c0:aM) (s1:ag) (og:Int):LS:=⟨[(0,.loc 0 0),(1,.agg (dD s1)),(2,cm og)],(rB (fK c0))⟩
def YH (aO:amw) (back:Int->Int->Int->Int->Int->aM->ag->aW->aW->ey->Option (aW×aM)) (n:Nat) (og t8 n9 t18 t19:Int) (b0:aM) (b4:ag) (b6 b7:aW) (rj:ey):Option (aW×aM):=
 if decide (0<n9) then
 (F50 n b4 t8).bind λx6=>(idx b4.ai t8).bind λdy=>(F49 n b0 x6 dy.aw og).bind λeO=>(F52 n b4 t8 eO.1).bind λgg=>(F51 n b4 (aW.mk rj) t8 gg eO.1).bind λnD=>back og t8 (bl (n9 - 1)) t18 t19 eO.2 b4 (aW.mk []) (aW.mk nD.2) nD.2
 else
 aO og t18 t19 b0 b4 (aW.mk []) (aW.mk rj) rj
def Ze:=K8 (A19 (cF 971)) aoN
def US:=K10 (A19 (cF 11467)) aEH
def aMS {aO} (bq:Ze aO) {back} (aS:US back) (n:Nat):US (YH aO back n):=λog t8 n9 t18 t19 b0 b4 b6 b7 rj r h=>ie h (λdt h=>be h λx6 lD h=>be h λdy ga h=>be h λeO ic h=>be h λgg ll h=>be h λnD sK h=>ra (aS h) [bb dt,(0,.ord [0,1,2,4,5,6,7,8,9,10,3,11,12]),(6,bW.idx ga),(3,zP (cd (e:=3) (z:=true) (Q:=eo x6) (avg n lD) (R3.len x6))),(0,.call (ev49 n ic) [(0,0)] [(39,cV)]),(1,p8.fX 39 eO.1),(0,.ord [0,1,2,3,4,5,7,6,8,9]),(7,zP (cd (e:=38) (z:=true) (Q:=fM gg) (ev52 n ll) (p8.len gg))),(0,.call (ev51 n sK) [(14,jT)] [])]) λdt h=>ra (bq h) [bb dt]
def Mv (aO:amw):Nat->Int->Int->Int->Int->Int->aM->ag->aW->aW->ey->Option (aW×aM)
 |0=>λ_ _ _ _ _ _ _ _ _ _=>none
 |n+1=>YH aO (Mv aO n) n
def axR {aO} (bq:Ze aO):∀n:Nat,US (Mv aO n)
 |0=>λ_ _ _ _ _ _ _ _ _ _ _ h=>nz h
 |n+1=>aMS bq (axR bq n) n
def YG (bt:amw) (n:Nat) (og t18 t19:Int) (b0:aM) (b4:ag) (b6 b7:aW) (rj:ey):Option (aW×aM):=
 bt og t18 (bl (t19+1)) b0 b4 (aW.mk []) (aW.mk rj) rj
def Lp:=K8 (A19 [0,1,0,1,1]) aoN
def aMR {bt} (cM:Lp bt) (n:Nat):Ze (YG bt n):=λog t18 t19 b0 b4 b6 b7 rj r h=>ra (cM h) []
def YF (bC:Wf38) (back:amw) (n:Nat) (og t18 t19:Int) (b0:aM) (b4:ag) (b6 b7:aW) (rj:ey):Option (aW×aM):=
 if decide (t19<t18) then
 (rz n b0 5).bind λx5=>Mv (YG back n) n og t19 x5.1 t18 t19 x5.2 b4 (aW.mk []) (aW.mk rj) rj
 else
 bC b0 (aW.mk []) (aW.mk rj) rj
def UR:=K4 (A19 [1,1,1]) aEG
def aMQ {bC} (cU:UR bC) {back} (aS:Lp back) (n:Nat):Lp (YF bC back n):=λog t18 t19 b0 b4 b6 b7 rj r h=>ie h (λdt h=>be h λx5 kR h=>ra (axR (aMR aS n) n h) [aI dt,(3,.call (oP n kR) [(0,0)] [])]) λdt h=>ra (cU h) [aI dt]
def Hq (bC:Wf38):Nat->Int->Int->Int->aM->ag->aW->aW->ey->Option (aW×aM)
 |0=>λ_ _ _ _ _ _ _ _=>none
 |n+1=>YF bC (Hq bC n) n
def axQ {bC} (cU:UR bC):∀n:Nat,Lp (Hq bC n)
 |0=>λ_ _ _ _ _ _ _ _ _ h=>nz h
 |n+1=>aMQ cU (axQ cU n) n
def Ra (n:Nat) (b0:aM) (b6 b7:aW) (rj:ey):Option (aW×aM):=
 some ((aW.mk rj),b0)
def aMP (n:Nat):UR (Ra n):=λb0 b6 b7 rj r h=>rr h [(2,xp.fX 14 rj)]
def anR (n:Nat) (c0:aM) (s1:ag) (og:Int):Option (aW×aM):=
 (rA (s1.ai.length:Int) ([]:bU)).bind λx6=>Hq (Ra n) n og (s1.ai.length:Int) 0 c0 s1 (aW.mk []) (aW.mk x6) x6
def aMO (n:Nat):K3 (A19 []) aoM (anR n):=λc0 s1 og r h=>be h λx6 lD h=>ra (axQ (aMP n) n h) [(5,xp.made lD),(0,.seq 14 (bN (AV.ms 14 1 0) ((Nt lD))))]
def F19:=anR
def ev19 (n:Nat):K3 (Cx E0 19 axd apD) aoM (F19 n):=λ_ _ _ _ h=>ca (X:=ir) (aMO n h)
end Go.Proofs.YtbnkhmoelnfjoaaGreat
end
